/- Several texts of this session, one behind the other, without what this claim does not need (put together by its program pack.py). Conditions: none. -/
import Derived.Test.YtcoimlclclnlkaaGreatDoorMk0
import Derived.Test.YtcoimlclclnlkaaGreatDoorProg
set_option linter.unusedVariables false
set_option linter.unusedSimpArgs false
set_option maxRecDepth 100000
namespace Go.Proofs.YtcoimlclclnlkaaGreatDoor
open Go Go.Crisp
open _root_.Go.Proofs.Tryz
section
variable {a0 a1 a2 a3 a4 a5 a6:Value}{h:Heap}{R:Value→Heap→Prop}
abbrev zdf:FuncId:=3
abbrev ze4:FuncId:=10
abbrev zb5:FuncId:=11
abbrev zei:FuncId:=12
abbrev zaB:FuncId:=13
abbrev zak:FuncId:=14
abbrev zai:FuncId:=15
abbrev zaq:FuncId:=16
abbrev zgM:FuncId:=17
abbrev zjS:FuncId:=18
abbrev zeZ:FuncId:=19
abbrev zaM:FuncId:=20
abbrev zbR:FuncId:=21
abbrev zew:FuncId:=22
abbrev zhe:FuncId:=23
abbrev zjR:FuncId:=24
abbrev zev:FuncId:=25
abbrev zge:FuncId:=26
abbrev zbU:FuncId:=27
abbrev zbd:FuncId:=28
abbrev zam:FuncId:=29
abbrev zaG:FuncId:=30
abbrev zaF:FuncId:=31
abbrev zbi:FuncId:=32
abbrev za1:FuncId:=33
abbrev zaC:FuncId:=59
abbrev zaz:FuncId:=60
abbrev zhg:FuncId:=62
abbrev ziw:FuncId:=63
abbrev zgs:FuncId:=64
abbrev zrd:FuncId:=65
abbrev zjT:FuncId:=66
abbrev ziv:FuncId:=67
abbrev zdH:FuncId:=68
abbrev zhf:FuncId:=69
abbrev zio:FuncId:=70
abbrev ze0:FuncId:=71
abbrev zl0:FuncId:=72
abbrev zcO:FuncId:=73
abbrev zdI:FuncId:=74
abbrev zbm:FuncId:=75
abbrev zbF:FuncId:=76
abbrev zgp:FuncId:=77
abbrev zfB:FuncId:=78
abbrev zlZ:FuncId:=79
abbrev zcI:FuncId:=80
abbrev zfH:FuncId:=81
abbrev zcb:FuncId:=82
abbrev zby:FuncId:=83
abbrev zaT:FuncId:=84
abbrev zcH:FuncId:=85
abbrev zcY:FuncId:=86
abbrev zbX:FuncId:=87
abbrev zhd:FuncId:=88
abbrev zfK:FuncId:=89
abbrev zca:FuncId:=91
abbrev zcs:FuncId:=93
abbrev zc4:FuncId:=102
abbrev zhi:FuncId:=118
abbrev zhh:FuncId:=119
abbrev zoo:FuncId:=120
abbrev zgf:FuncId:=121
abbrev ziq:FuncId:=122
abbrev zip:FuncId:=123
abbrev zj0:FuncId:=124
abbrev zbH:FuncId:=125
abbrev zgk:FuncId:=126
abbrev zb8:FuncId:=127
abbrev zdc:FuncId:=128
abbrev zdB:FuncId:=129
abbrev zcU:FuncId:=130
abbrev zdC:FuncId:=131
abbrev zbs:FuncId:=132
abbrev zrc:FuncId:=133
abbrev zgN:FuncId:=134
abbrev zjZ:FuncId:=135
abbrev zb4:FuncId:=136
abbrev zbc:FuncId:=139
abbrev zaj:FuncId:=140
abbrev zdG:FuncId:=143
abbrev zbn:FuncId:=146
abbrev ze7:FuncId:=147
abbrev ze5:FuncId:=163
abbrev zhj:FuncId:=164
abbrev zgt:FuncId:=165
abbrev zdm:FuncId:=166
abbrev zef:FuncId:=167
abbrev zeH:FuncId:=168
abbrev zir:FuncId:=169
abbrev zez:FuncId:=170
abbrev zeg:FuncId:=171
abbrev zd2:FuncId:=172
abbrev zcM:FuncId:=173
abbrev zeG:FuncId:=174
abbrev zd8:FuncId:=175
abbrev zdd:FuncId:=176
abbrev zfG:FuncId:=177
abbrev zd5:FuncId:=178
abbrev zfF:FuncId:=179
abbrev zbo:FuncId:=180
abbrev zej:FuncId:=181
abbrev zd4:FuncId:=182
abbrev ziS:FuncId:=183
abbrev zc3:FuncId:=184
abbrev ziu:FuncId:=185
abbrev zee:FuncId:=186
abbrev zaL:FuncId:=187
abbrev zbf:FuncId:=188
abbrev zbx:FuncId:=189
abbrev zcl:FuncId:=190
abbrev ze2:FuncId:=191
abbrev zcG:FuncId:=192
abbrev zcg:FuncId:=193
abbrev za2:FuncId:=194
abbrev zhk:FuncId:=208
abbrev ziz:FuncId:=209
abbrev zey:FuncId:=210
abbrev zha:FuncId:=211
abbrev zb9:FuncId:=212
abbrev zhc:FuncId:=213
abbrev zg9:FuncId:=214
abbrev zaQ:FuncId:=215
abbrev zdF:FuncId:=216
abbrev ze6:FuncId:=217
abbrev zfM:FuncId:=218
abbrev zd6:FuncId:=219
abbrev zeF:FuncId:=220
abbrev zd3:FuncId:=221
abbrev zcQ:FuncId:=222
abbrev zex:FuncId:=223
abbrev zlm:FuncId:=224
abbrev zcp:FuncId:=225
abbrev zcN:FuncId:=226
abbrev zdE:FuncId:=227
abbrev zjQ:FuncId:=228
abbrev zfE:FuncId:=229
abbrev zgO:FuncId:=242
abbrev zhm:FuncId:=243
abbrev zhl:FuncId:=244
abbrev zgi:FuncId:=245
abbrev zjV:FuncId:=246
abbrev zfe:FuncId:=247
abbrev zgr:FuncId:=248
abbrev zgh:FuncId:=249
abbrev zjU:FuncId:=250
abbrev ze3:FuncId:=251
abbrev zjX:FuncId:=252
abbrev zhb:FuncId:=253
abbrev zgg:FuncId:=254
abbrev ze1:FuncId:=255
abbrev zfJ:FuncId:=256
abbrev zbG:FuncId:=257
abbrev zdQ:FuncId:=258
abbrev za3:FuncId:=259
abbrev zit:FuncId:=260
abbrev zjY:FuncId:=261
abbrev zin:FuncId:=262
abbrev ziQ:FuncId:=263
abbrev zcR:FuncId:=264
abbrev za4:FuncId:=265
abbrev zde:FuncId:=266
abbrev zdg:FuncId:=267
abbrev zg7:FuncId:=268
abbrev ziy:FuncId:=269
abbrev zbj:FuncId:=270
abbrev za9:FuncId:=271
abbrev zgL:FuncId:=278
abbrev zc7:FuncId:=279
abbrev zis:FuncId:=280
abbrev zfI:FuncId:=281
abbrev zgj:FuncId:=282
abbrev zaS:FuncId:=284
abbrev zon:FuncId:=285
abbrev ziR:FuncId:=286
abbrev zgq:FuncId:=287
abbrev zaV:FuncId:=288
abbrev zdD:FuncId:=289
abbrev zg6:FuncId:=290
abbrev zhn:FuncId:=291
abbrev zch:FuncId:=292
abbrev zdn:FuncId:=293
abbrev zbO:FuncId:=294
abbrev zcS:FuncId:=295
abbrev zl3:FuncId:=296
abbrev zix:FuncId:=297
abbrev zfL:FuncId:=298
abbrev zed:FuncId:=299
abbrev zfC:FuncId:=300
abbrev za8:FuncId:=301
abbrev zd7:FuncId:=302
abbrev zbz:FuncId:=303
abbrev zjW:FuncId:=305
abbrev zeI:FuncId:=306
abbrev zeh:FuncId:=307
abbrev zlY:FuncId:=308
abbrev zg8:FuncId:=309
abbrev zfD:FuncId:=310
abbrev zeY:FuncId:=311
abbrev zbT:FuncId:=312
abbrev zj1:FuncId:=313
abbrev zaO:FuncId:=314
abbrev zay:FuncId:=315
abbrev zl1:FuncId:=316
abbrev zcP:FuncId:=317
abbrev zbQ:FuncId:=318
abbrev zgd:FuncId:=319
abbrev zim:FuncId:=320
abbrev zbP:FuncId:=321
abbrev zaK:FuncId:=322
abbrev zec:Nat:=0
abbrev zbr:Nat:=1
abbrev zg5:Nat:=2
abbrev zgo:Nat:=3
theorem flat_ok:flatOkB prog=true:=rfl
instance:zeu prog:=⟨flat_ok⟩
def zeQ (a0 a1 a2 a3 a4 a5:Value)(h:Heap)(R:Value→Heap→Prop):Prop:=
 newK (Value.cells a0) 25 h fun i5 i6=>
 newK (Value.cells a1) 31 i6 fun i7 i8=>
 FCall prog ze4 #[] i8 fun i9 bg=>
 vK (unV .not i9) fun an=>
 vK (gV an false (some a5)) fun ja=>
 vK (gV an false (zae ja)) fun jb=>
 vK (gV an false (binV .i .gtr jb (.int .i64 200))) fun jc=>
 vK (pickV an (.bool true) jc) fun jd=>
 iteK jd (
 FCall prog ze4 #[] bg fun je jf=>
 R je jf) (
 vK (ldsV 5 bg i5) fun jg=>
 FCall prog zb5 #[jg] bg fun jh ji=>
 newK #[(.pointer none)] 34 ji fun v jj=>
 stK 1 v jh jj fun p9 cs=>
 vK (ldsV 9 cs i7) fun jk=>
 rowK #[(.int .i64 0),(.int .i64 0),(.int .i64 0),(.int .i64 0),(.slice none 0 0),(.slice none 0 0),(.int .i64 0),(.int .i64 0),(.int .i64 0)] 31 1 [(0,9,jk)] cs fun jl ct=>
 vK (ldV ct v) fun jm=>
 FCall prog zei #[jl,jm] ct fun bh jn=>
 vK (extV bh 0) fun jo=>
 vK (extV bh 1) fun cu=>
 vK (extV bh 2) fun jp=>
 newK #[(.slice none 0 0)] 36 jn fun ag jq=>
 stK 1 ag jo jq fun qa d=>
 vK (unV .not jp) fun jr=>
 iteK jr (
 vK (ldV d v) fun js=>
 vK (binV .p .neq js (.pointer none)) fun jt=>
 R jt d) (
 joinK (fun w=>
 drawK d fun S=>
 qK S (fun d=>ldV d ag) fun ju=>
 vK (idxV 3 ju (.int .i64 0)) fun jv=>
 vK (fldV 0 jv) fun jw=>
 qK S (fun d=>ldV d jw) fun cv=>
 qK S (fun d=>ldV d ag) fun jx=>
 vK (idxV 3 jx (.int .i64 0)) fun jy=>
 vK (fldV 1 jy) fun jz=>
 qK S (fun d=>ldV d jz) fun bi=>
 qK S (fun d=>ldV d v) fun ao=>
 qK S (fun d=>ldV d v) fun ah=>
 (FCall prog zak #[cv] d fun ai bj=>
 S bj∧((FCall prog zak #[bi] bj fun ap bk=>
 S bk∧((FCall prog zai #[ao] bk fun bl bm=>
 S bm∧((FCall prog zaq #[ah] bm fun cw bn=>
 S bn∧((FCall prog zaB #[ai,ap,bl,cw] bn fun cx cy=>
 S cy∧(vK (extV cx 0) fun j0=>
 vK (extV cx 1) fun j1=>
 newK #[(.pointer none)] 34 cy fun cz c0=>
 S c0∧(stK 1 cz j0 c0 fun qb c1=>
 S c1∧(w [cz,j1] c1))))∧(newK #[(.pointer none)] 34 bn fun c2 c3=>
 S c3∧(FCall prog zaB #[ai,ap,bl,cw] c3 fun c4 c5=>
 S c5∧(vK (extV c4 0) fun j2=>
 vK (extV c4 1) fun j3=>
 stK 1 c2 j2 c5 fun qc c6=>
 S c6∧(w [c2,j3] c6))))))∧(newK #[(.pointer none)] 34 bm fun c7 c8=>
 S c8∧(FCall prog zaq #[ah] c8 fun j4 c9=>
 S c9∧(FCall prog zaB #[ai,ap,bl,j4] c9 fun da db=>
 S db∧(vK (extV da 0) fun j5=>
 vK (extV da 1) fun j6=>
 stK 1 c7 j5 db fun qd dc=>
 S dc∧(w [c7,j6] dc)))))))∧(newK #[(.pointer none)] 34 bk fun dd de=>
 S de∧(FCall prog zai #[ao] de fun j7 df=>
 S df∧(FCall prog zaq #[ah] df fun j8 dg=>
 S dg∧(FCall prog zaB #[ai,ap,j7,j8] dg fun dh di=>
 S di∧(vK (extV dh 0) fun j9=>
 vK (extV dh 1) fun ka=>
 stK 1 dd j9 di fun qe dj=>
 S dj∧(w [dd,ka] dj))))))))∧(newK #[(.pointer none)] 34 bj fun dk dl=>
 S dl∧(FCall prog zak #[bi] dl fun kb dm=>
 S dm∧(FCall prog zai #[ao] dm fun kc dn=>
 S dn∧(FCall prog zaq #[ah] dn fun kd dp=>
 S dp∧(FCall prog zaB #[ai,kb,kc,kd] dp fun dq dr=>
 S dr∧(vK (extV dq 0) fun ke=>
 vK (extV dq 1) fun kf=>
 stK 1 dk ke dr fun qf ds=>
 S ds∧(w [dk,kf] ds)))))))))∧(newK #[(.pointer none)] 34 d fun dt du=>
 S du∧(FCall prog zak #[cv] du fun kg dv=>
 S dv∧(FCall prog zak #[bi] dv fun kh dw=>
 S dw∧(FCall prog zai #[ao] dw fun ki dx=>
 S dx∧(FCall prog zaq #[ah] dx fun kj dy=>
 S dy∧(FCall prog zaB #[kg,kh,ki,kj] dy fun dz d0=>
 S d0∧(vK (extV dz 0) fun kk=>
 vK (extV dz 1) fun kl=>
 stK 1 dt kk d0 fun qg d1=>
 S d1∧(w [dt,kl] d1)))))))))
 fun bo qh bp=>
 vK (ldV bp ag) fun km=>
 vK (idxV 3 km (.int .i64 0)) fun kn=>
 vK (ldsV 3 bp kn) fun ko=>
 vK (binV .i .rem a2 (.int .u8 13)) fun kp=>
 vK (cviV .i64 kp) fun kq=>
 vK (binV .i .add (.int .i64 1) kq) fun kr=>
 vK (binV .i .rem a3 (.int .u8 13)) fun ks=>
 vK (cviV .i64 ks) fun kt=>
 vK (binV .i .add (.int .i64 1) kt) fun ku=>
 FCall prog zgM #[ko,kr,ku] bp fun d2 kv=>
 vK (extV d2 0) fun kw=>
 vK (extV d2 1) fun kx=>
 newK #[(.pointer none)] 48 kv fun bq ky=>
 stK 1 bq kw ky fun qi aj=>
 vK (binV .i .neq (ix bo 1) (.int .i64 0)) fun br=>
 vK (gV br false (some kx)) fun kz=>
 vK (gV br false (binV .i .neq kz (.int .i64 0))) fun k0=>
 vK (pickV br (.bool true) k0) fun bs=>
 vK (gV bs false (ldV aj (ix bo 0))) fun k1=>
 vK (gV bs false (binV .p .eql k1 (.pointer none))) fun k2=>
 vK (pickV bs (.bool true) k2) fun bt=>
 vK (gV bt false (ldV aj bq)) fun k3=>
 vK (gV bt false (binV .p .eql k3 (.pointer none))) fun k4=>
 vK (pickV bt (.bool true) k4) fun k5=>
 iteK k5 (
 R (.bool false) aj) (
 vK (idxV 5 cu (.int .i64 0)) fun k6=>
 vK (ldsV 5 aj k6) fun k7=>
 vK (binV .i .rem a2 (.int .u8 13)) fun k8=>
 vK (cviV .i64 k8) fun k9=>
 vK (binV .i .add (.int .i64 1) k9) fun la=>
 vK (binV .i .rem a3 (.int .u8 13)) fun lb=>
 vK (cviV .i64 lb) fun lc=>
 vK (binV .i .add (.int .i64 1) lc) fun ld=>
 FCall prog zjS #[k7,la,ld] aj fun d3 le=>
 vK (zae d3) fun lf=>
 loopK [(.slice none 0 0),(.int .i64 0)] le fun c qj bu lg=>
 vK (binV .i .lss (ix c 1) lf) fun lh=>
 iteK lh (
 vK (idxV 10 d3 (ix c 1)) fun li=>
 vK (ldsV 10 bu li) fun lj=>
 newK #[(.int .i64 0),(.int .i64 0),(.int .i64 0),(.int .i64 0),(.int .i64 0),(.int .i64 0),(.int .i64 0),(.int .i64 0),(.int .i64 0),(.int .i64 0)] 58 bu fun bv lk=>
 stK 10 bv lj lk fun qk o=>
 drawK o fun S=>
 vK (idxV 5 cu (.int .i64 0)) fun ll=>
 qK S (fun o=>ldsV 5 o ll) fun lm=>
 vK (fldV 2 bv) fun ln=>
 qK S (fun o=>ldV o ln) fun lo=>
 vK (fldV 4 bv) fun lp=>
 qK S (fun o=>ldV o lp) fun lq=>
 FCall prog zeZ #[lm,lo,lq] o fun lr ls=>
 rowK #[(.slice none 0 0)] 59 1 [(0,1,lr)] ls fun lt lu=>
 appK (.slice none 0 0) 59 1 24 (ix c 0) lt lu fun lv lw=>
 vK (binV .i .add (ix c 1) (.int .i64 1)) fun lx=>
 lg [lv,lx] lw) (
 vK (binV .i .rem a4 (.int .u8 4)) fun ly=>
 vK (cviV .i64 ly) fun lz=>
 vK (binV .i .add (.int .i64 1) lz) fun l0=>
 FCall prog zhe #[l0] bu fun aq l1=>
 vK (binV .i .rem a4 (.int .u8 4)) fun l2=>
 vK (cviV .i64 l2) fun l3=>
 vK (binV .i .add (.int .i64 1) l3) fun l4=>
 FCall prog zjR #[l4] l1 fun l5 l6=>
 newK #[(.int .i64 0),(.slice none 0 0),(.bool false)] 75 l6 fun x l7=>
 stK 3 x l5 l7 fun ql l8=>
 FCall prog zev #[] l8 fun l9 ma=>
 FCall prog zev #[] ma fun mb mc=>
 vK ((fillL #[(.pointer none),(.pointer none)] [(0,1,l9),(1,1,mb)]).map .agg) fun md=>
 newK #[(.pointer none),(.pointer none)] 79 mc fun ak me=>
 stK 2 ak md me fun qm mf=>
 newK #[(.int .i64 0),(.slice none 0 0),(.slice none 0 0),(.int .i64 0),(.slice none 0 0),(.slice none 0 0)] 82 mf fun al mg=>
 vK (zae a5) fun mh=>
 loopK [(.int .i64 0)] mg fun ar qn g mi=>
 vK (binV .i .lss (ix ar 0) mh) fun mj=>
 iteK mj (
 vK (idxV 1 a5 (ix ar 0)) fun mk=>
 vK (ldV g mk) fun d4=>
 vK (binV .i .rem d4 (.int .u8 8)) fun bw=>
 joinK (fun au=>
 vK (binV .i .eql bw (.int .u8 0)) fun ml=>
 iteK ml (
 vK (zae (ix c 0)) fun mm=>
 vK (binV .i .add mm (.int .i64 1)) fun mn=>
 vK (binV .i .rem (ix ar 0) mn) fun d5=>
 vK (ldsV 3 g x) fun mo=>
 FCall prog zge #[mo,d5] g fun d6 mp=>
 vK (extV d6 0) fun mq=>
 vK (extV d6 1) fun mr=>
 newK #[(.int .i64 0),(.slice none 0 0),(.bool false)] 75 mp fun d7 ms=>
 stK 3 d7 mq ms fun qo d8=>
 vK (ldsV 3 d8 d7) fun mt=>
 stK 3 x mt d8 fun qp mu=>
 FCall prog zbU #[aq,d5] mu fun mv d9=>
 vK (binV .i .neq mv mr) fun mw=>
 iteK mw (
 R (.bool false) d9) (
 au [] d9)) (
 vK (binV .i .eql bw (.int .u8 1)) fun mx=>
 iteK mx (
 vK (binV .i .gtr d4 (.int .u8 200)) fun my=>
 iteK my (
 FCall prog zbd #[aq] g fun qq mz=>
 vK (fldV 2 x) fun m0=>
 stK 1 m0 (.bool true) mz fun qr m1=>
 au [] m1) (
 au [] g)) (
 vK (binV .i .sub bw (.int .u8 2)) fun m2=>
 vK (cviV .i64 m2) fun m3=>
 vK (binV .i .quo m3 (.int .i64 3)) fun av=>
 joinK (fun a=>
 drawK g fun S=>
 vK (idxaV 2 3 al av) fun m4=>
 qK S (fun g=>ldsV 3 g m4) fun e=>
 qK S (fun g=>ldsV 3 g x) fun f=>
 (FCall prog zam #[e,f,(ix c 0)] g fun bx aw=>
 S aw∧(vK (extV bx 0) fun y=>
 vK (extV bx 1) fun z=>
 vK (extV bx 2) fun aa=>
 (newK #[(.int .i64 0),(.slice none 0 0),(.slice none 0 0)] 81 aw fun ax bz=>
 S bz∧((newK #[(.int .i64 0),(.slice none 0 0),(.bool false)] 75 bz fun ea eb=>
 S eb∧(newK #[(.int .i64 0),(.int .i64 0),(.int .i64 0),(.int .i64 0)] 90 eb fun ec ed=>
 S ed∧(stK 3 ax y ed fun qs ee=>
 S ee∧(stK 3 ea z ee fun qt ef=>
 S ef∧(stK 4 ec aa ef fun qu eg=>
 S eg∧(a [ax,ea,ec] eg))))))∧(newK #[(.int .i64 0),(.int .i64 0),(.int .i64 0),(.int .i64 0)] 90 bz fun eh ei=>
 S ei∧(newK #[(.int .i64 0),(.slice none 0 0),(.bool false)] 75 ei fun ej ek=>
 S ek∧(stK 3 ax y ek fun qv el=>
 S el∧(stK 3 ej z el fun qw em=>
 S em∧(stK 4 eh aa em fun qx en=>
 S en∧(a [ax,ej,eh] en))))))))∧((newK #[(.int .i64 0),(.slice none 0 0),(.bool false)] 75 aw fun ay b0=>
 S b0∧((newK #[(.int .i64 0),(.slice none 0 0),(.slice none 0 0)] 81 b0 fun eo ep=>
 S ep∧(newK #[(.int .i64 0),(.int .i64 0),(.int .i64 0),(.int .i64 0)] 90 ep fun eq er=>
 S er∧(stK 3 eo y er fun qy es=>
 S es∧(stK 3 ay z es fun qz et=>
 S et∧(stK 4 eq aa et fun q0 eu=>
 S eu∧(a [eo,ay,eq] eu))))))∧(newK #[(.int .i64 0),(.int .i64 0),(.int .i64 0),(.int .i64 0)] 90 b0 fun ev ew=>
 S ew∧(newK #[(.int .i64 0),(.slice none 0 0),(.slice none 0 0)] 81 ew fun ex ey=>
 S ey∧(stK 3 ex y ey fun q1 ez=>
 S ez∧(stK 3 ay z ez fun q2 e0=>
 S e0∧(stK 4 ev aa e0 fun q3 e1=>
 S e1∧(a [ex,ay,ev] e1))))))))∧(newK #[(.int .i64 0),(.int .i64 0),(.int .i64 0),(.int .i64 0)] 90 aw fun az b1=>
 S b1∧((newK #[(.int .i64 0),(.slice none 0 0),(.slice none 0 0)] 81 b1 fun e2 e3=>
 S e3∧(newK #[(.int .i64 0),(.slice none 0 0),(.bool false)] 75 e3 fun e4 e5=>
 S e5∧(stK 3 e2 y e5 fun q4 e6=>
 S e6∧(stK 3 e4 z e6 fun q5 e7=>
 S e7∧(stK 4 az aa e7 fun q6 e8=>
 S e8∧(a [e2,e4,az] e8))))))∧(newK #[(.int .i64 0),(.slice none 0 0),(.bool false)] 75 b1 fun e9 fa=>
 S fa∧(newK #[(.int .i64 0),(.slice none 0 0),(.slice none 0 0)] 81 fa fun fb fc=>
 S fc∧(stK 3 fb y fc fun q7 fd=>
 S fd∧(stK 3 e9 z fd fun q8 fe=>
 S fe∧(stK 4 az aa fe fun q9 ff=>
 S ff∧(a [fb,e9,az] ff)))))))))))∧((newK #[(.int .i64 0),(.slice none 0 0),(.slice none 0 0)] 81 g fun j a6=>
 S a6∧((FCall prog zam #[e,f,(ix c 0)] a6 fun b2 b3=>
 S b3∧(vK (extV b2 0) fun fg=>
 vK (extV b2 1) fun fh=>
 vK (extV b2 2) fun fi=>
 (newK #[(.int .i64 0),(.slice none 0 0),(.bool false)] 75 b3 fun fj fk=>
 S fk∧(newK #[(.int .i64 0),(.int .i64 0),(.int .i64 0),(.int .i64 0)] 90 fk fun fl fm=>
 S fm∧(stK 3 j fg fm fun ra fn=>
 S fn∧(stK 3 fj fh fn fun rb fo=>
 S fo∧(stK 4 fl fi fo fun rc fp=>
 S fp∧(a [j,fj,fl] fp))))))∧(newK #[(.int .i64 0),(.int .i64 0),(.int .i64 0),(.int .i64 0)] 90 b3 fun fq fr=>
 S fr∧(newK #[(.int .i64 0),(.slice none 0 0),(.bool false)] 75 fr fun fs ft=>
 S ft∧(stK 3 j fg ft fun rd fu=>
 S fu∧(stK 3 fs fh fu fun re fv=>
 S fv∧(stK 4 fq fi fv fun rf fw=>
 S fw∧(a [j,fs,fq] fw))))))))∧((newK #[(.int .i64 0),(.slice none 0 0),(.bool false)] 75 a6 fun a7 b4=>
 S b4∧((FCall prog zam #[e,f,(ix c 0)] b4 fun b5 fx=>
 S fx∧(vK (extV b5 0) fun m5=>
 vK (extV b5 1) fun m6=>
 vK (extV b5 2) fun m7=>
 newK #[(.int .i64 0),(.int .i64 0),(.int .i64 0),(.int .i64 0)] 90 fx fun fy fz=>
 S fz∧(stK 3 j m5 fz fun rg f0=>
 S f0∧(stK 3 a7 m6 f0 fun rh f1=>
 S f1∧(stK 4 fy m7 f1 fun ri f2=>
 S f2∧(a [j,a7,fy] f2))))))∧(newK #[(.int .i64 0),(.int .i64 0),(.int .i64 0),(.int .i64 0)] 90 b4 fun f3 f4=>
 S f4∧(FCall prog zam #[e,f,(ix c 0)] f4 fun b6 f5=>
 S f5∧(vK (extV b6 0) fun m8=>
 vK (extV b6 1) fun m9=>
 vK (extV b6 2) fun na=>
 stK 3 j m8 f5 fun rj f6=>
 S f6∧(stK 3 a7 m9 f6 fun rk f7=>
 S f7∧(stK 4 f3 na f7 fun rl f8=>
 S f8∧(a [j,a7,f3] f8))))))))∧(newK #[(.int .i64 0),(.int .i64 0),(.int .i64 0),(.int .i64 0)] 90 a6 fun a8 b7=>
 S b7∧((FCall prog zam #[e,f,(ix c 0)] b7 fun b8 f9=>
 S f9∧(vK (extV b8 0) fun nb=>
 vK (extV b8 1) fun nc=>
 vK (extV b8 2) fun nd=>
 newK #[(.int .i64 0),(.slice none 0 0),(.bool false)] 75 f9 fun ga gb=>
 S gb∧(stK 3 j nb gb fun rm gc=>
 S gc∧(stK 3 ga nc gc fun rn gd=>
 S gd∧(stK 4 a8 nd gd fun ro ge=>
 S ge∧(a [j,ga,a8] ge))))))∧(newK #[(.int .i64 0),(.slice none 0 0),(.bool false)] 75 b7 fun gf gg=>
 S gg∧(FCall prog zam #[e,f,(ix c 0)] gg fun b9 gh=>
 S gh∧(vK (extV b9 0) fun ne=>
 vK (extV b9 1) fun nf=>
 vK (extV b9 2) fun ng=>
 stK 3 j ne gh fun rp gi=>
 S gi∧(stK 3 gf nf gi fun rq gj=>
 S gj∧(stK 4 a8 ng gj fun rr gk=>
 S gk∧(a [j,gf,a8] gk)))))))))))∧((newK #[(.int .i64 0),(.slice none 0 0),(.bool false)] 75 g fun k a9=>
 S a9∧((FCall prog zam #[e,f,(ix c 0)] a9 fun ca cb=>
 S cb∧(vK (extV ca 0) fun gl=>
 vK (extV ca 1) fun gm=>
 vK (extV ca 2) fun gn=>
 (newK #[(.int .i64 0),(.slice none 0 0),(.slice none 0 0)] 81 cb fun go gp=>
 S gp∧(newK #[(.int .i64 0),(.int .i64 0),(.int .i64 0),(.int .i64 0)] 90 gp fun gq gr=>
 S gr∧(stK 3 go gl gr fun rs gs=>
 S gs∧(stK 3 k gm gs fun rt gt=>
 S gt∧(stK 4 gq gn gt fun ru gu=>
 S gu∧(a [go,k,gq] gu))))))∧(newK #[(.int .i64 0),(.int .i64 0),(.int .i64 0),(.int .i64 0)] 90 cb fun gv gw=>
 S gw∧(newK #[(.int .i64 0),(.slice none 0 0),(.slice none 0 0)] 81 gw fun gx gy=>
 S gy∧(stK 3 gx gl gy fun rv gz=>
 S gz∧(stK 3 k gm gz fun rw g0=>
 S g0∧(stK 4 gv gn g0 fun rx g1=>
 S g1∧(a [gx,k,gv] g1))))))))∧((newK #[(.int .i64 0),(.slice none 0 0),(.slice none 0 0)] 81 a9 fun ba cc=>
 S cc∧((FCall prog zam #[e,f,(ix c 0)] cc fun cd g2=>
 S g2∧(vK (extV cd 0) fun nh=>
 vK (extV cd 1) fun ni=>
 vK (extV cd 2) fun nj=>
 newK #[(.int .i64 0),(.int .i64 0),(.int .i64 0),(.int .i64 0)] 90 g2 fun g3 g4=>
 S g4∧(stK 3 ba nh g4 fun ry g5=>
 S g5∧(stK 3 k ni g5 fun rz g6=>
 S g6∧(stK 4 g3 nj g6 fun r0 g7=>
 S g7∧(a [ba,k,g3] g7))))))∧(newK #[(.int .i64 0),(.int .i64 0),(.int .i64 0),(.int .i64 0)] 90 cc fun g8 g9=>
 S g9∧(FCall prog zam #[e,f,(ix c 0)] g9 fun ce ha=>
 S ha∧(vK (extV ce 0) fun nk=>
 vK (extV ce 1) fun nl=>
 vK (extV ce 2) fun nm=>
 stK 3 ba nk ha fun r1 hb=>
 S hb∧(stK 3 k nl hb fun r2 hc=>
 S hc∧(stK 4 g8 nm hc fun r3 hd=>
 S hd∧(a [ba,k,g8] hd))))))))∧(newK #[(.int .i64 0),(.int .i64 0),(.int .i64 0),(.int .i64 0)] 90 a9 fun bb cf=>
 S cf∧((FCall prog zam #[e,f,(ix c 0)] cf fun cg he=>
 S he∧(vK (extV cg 0) fun nn=>
 vK (extV cg 1) fun no=>
 vK (extV cg 2) fun np=>
 newK #[(.int .i64 0),(.slice none 0 0),(.slice none 0 0)] 81 he fun hf hg=>
 S hg∧(stK 3 hf nn hg fun r4 hh=>
 S hh∧(stK 3 k no hh fun r5 hi=>
 S hi∧(stK 4 bb np hi fun r6 hj=>
 S hj∧(a [hf,k,bb] hj))))))∧(newK #[(.int .i64 0),(.slice none 0 0),(.slice none 0 0)] 81 cf fun hk hl=>
 S hl∧(FCall prog zam #[e,f,(ix c 0)] hl fun ch hm=>
 S hm∧(vK (extV ch 0) fun nq=>
 vK (extV ch 1) fun nr=>
 vK (extV ch 2) fun ns=>
 stK 3 hk nq hm fun r7 hn=>
 S hn∧(stK 3 k nr hn fun r8 ho=>
 S ho∧(stK 4 bb ns ho fun r9 hp=>
 S hp∧(a [hk,k,bb] hp)))))))))))∧(newK #[(.int .i64 0),(.int .i64 0),(.int .i64 0),(.int .i64 0)] 90 g fun l bc=>
 S bc∧((FCall prog zam #[e,f,(ix c 0)] bc fun ci cj=>
 S cj∧(vK (extV ci 0) fun hq=>
 vK (extV ci 1) fun hr=>
 vK (extV ci 2) fun hs=>
 (newK #[(.int .i64 0),(.slice none 0 0),(.slice none 0 0)] 81 cj fun ht hu=>
 S hu∧(newK #[(.int .i64 0),(.slice none 0 0),(.bool false)] 75 hu fun hv hw=>
 S hw∧(stK 3 ht hq hw fun sa hx=>
 S hx∧(stK 3 hv hr hx fun sb hy=>
 S hy∧(stK 4 l hs hy fun sc hz=>
 S hz∧(a [ht,hv,l] hz))))))∧(newK #[(.int .i64 0),(.slice none 0 0),(.bool false)] 75 cj fun h0 h1=>
 S h1∧(newK #[(.int .i64 0),(.slice none 0 0),(.slice none 0 0)] 81 h1 fun h3 h5=>
 S h5∧(stK 3 h3 hq h5 fun sd h7=>
 S h7∧(stK 3 h0 hr h7 fun se h8=>
 S h8∧(stK 4 l hs h8 fun sf h9=>
 S h9∧(a [h3,h0,l] h9))))))))∧((newK #[(.int .i64 0),(.slice none 0 0),(.slice none 0 0)] 81 bc fun bd ck=>
 S ck∧((FCall prog zam #[e,f,(ix c 0)] ck fun cl ia=>
 S ia∧(vK (extV cl 0) fun nt=>
 vK (extV cl 1) fun nu=>
 vK (extV cl 2) fun nv=>
 newK #[(.int .i64 0),(.slice none 0 0),(.bool false)] 75 ia fun ib ic=>
 S ic∧(stK 3 bd nt ic fun sg id=>
 S id∧(stK 3 ib nu id fun sh ie=>
 S ie∧(stK 4 l nv ie fun si ig=>
 S ig∧(a [bd,ib,l] ig))))))∧(newK #[(.int .i64 0),(.slice none 0 0),(.bool false)] 75 ck fun ih ii=>
 S ii∧(FCall prog zam #[e,f,(ix c 0)] ii fun cm ij=>
 S ij∧(vK (extV cm 0) fun nw=>
 vK (extV cm 1) fun nx=>
 vK (extV cm 2) fun ny=>
 stK 3 bd nw ij fun sj ik=>
 S ik∧(stK 3 ih nx ik fun sk il=>
 S il∧(stK 4 l ny il fun sl im=>
 S im∧(a [bd,ih,l] im))))))))∧(newK #[(.int .i64 0),(.slice none 0 0),(.bool false)] 75 bc fun be cn=>
 S cn∧((FCall prog zam #[e,f,(ix c 0)] cn fun co io=>
 S io∧(vK (extV co 0) fun nz=>
 vK (extV co 1) fun n0=>
 vK (extV co 2) fun n1=>
 newK #[(.int .i64 0),(.slice none 0 0),(.slice none 0 0)] 81 io fun ip iq=>
 S iq∧(stK 3 ip nz iq fun sm ir=>
 S ir∧(stK 3 be n0 ir fun sn it=>
 S it∧(stK 4 l n1 it fun so iu=>
 S iu∧(a [ip,be,l] iu))))))∧(newK #[(.int .i64 0),(.slice none 0 0),(.slice none 0 0)] 81 cn fun iv iw=>
 S iw∧(FCall prog zam #[e,f,(ix c 0)] iw fun cp iy=>
 S iy∧(vK (extV cp 0) fun n2=>
 vK (extV cp 1) fun n3=>
 vK (extV cp 2) fun n4=>
 stK 3 iv n2 iy fun sp iz=>
 S iz∧(stK 3 be n3 iz fun sq i0=>
 S i0∧(stK 4 l n4 i0 fun sr i1=>
 S i1∧(a [iv,be,l] i1))))))))))))))
 fun s ss i2=>
 vK (idxaV 2 1 ak av) fun n5=>
 vK (ldV i2 n5) fun n6=>
 FCall prog zaG #[n6,aq] i2 fun n7 i3=>
 vK (idxaV 2 1 ak av) fun n8=>
 vK (ldV i3 n8) fun n9=>
 FCall prog zaF #[n9,aq,(.func (.func zaM) #[] #[bq,v,(ix bo 0),ag])] i3 fun oa ob=>
 newK #[(.int .i64 0),(.int .i64 0),(.int .i64 0),(.int .i64 0)] 99 ob fun am oc=>
 stK 4 am oa oc fun st ab=>
 drawK ab fun S=>
 qK S (fun ab=>ldsV 3 ab (ix s 0)) fun od=>
 qK S (fun ab=>ldsV 3 ab (ix s 1)) fun oe=>
 vK (idxaV 2 3 al av) fun og=>
 stK 3 og od ab fun su i4=>
 S i4∧(stK 3 x oe i4 fun sv m=>
 vK (fldV 0 am) fun oh=>
 vK (ldV m oh) fun oi=>
 vK (fldV 0 (ix s 2)) fun oj=>
 vK (ldV m oj) fun ok=>
 vK (binV .i .neq oi ok) fun ac=>
 vK (gV ac false (fldV 1 am)) fun ol=>
 vK (gV ac false (ldV m ol)) fun om=>
 vK (gV ac false (fldV 1 (ix s 2))) fun on=>
 vK (gV ac false (ldV m on)) fun oo=>
 vK (gV ac false (binV .i .neq om oo)) fun op=>
 vK (pickV ac (.bool true) op) fun q=>
 vK (gV q false (fldV 2 am)) fun oq=>
 vK (gV q false (fldV 0 oq)) fun os=>
 vK (gV q false (ldV m os)) fun ot=>
 vK (gV q false (fldV 2 (ix s 2))) fun ou=>
 vK (gV q false (fldV 0 ou)) fun ov=>
 vK (gV q false (ldV m ov)) fun ow=>
 vK (gV q false (binV .i .neq ot ow)) fun ox=>
 vK (pickV q (.bool true) ox) fun r=>
 vK (gV r false (fldV 2 am)) fun oy=>
 vK (gV r false (fldV 1 oy)) fun oz=>
 vK (gV r false (ldV m oz)) fun o0=>
 vK (gV r false (fldV 2 (ix s 2))) fun o1=>
 vK (gV r false (fldV 1 o1)) fun o2=>
 vK (gV r false (ldV m o2)) fun o3=>
 vK (gV r false (binV .i .neq o0 o3)) fun o4=>
 vK (pickV r (.bool true) o4) fun ad=>
 vK (gV ad false (some n7)) fun o5=>
 vK (gV ad false (fldV 0 (ix s 2))) fun o6=>
 vK (gV ad false (ldV m o6)) fun o7=>
 vK (gV ad false (binV .i .neq o7 (.int .i64 0))) fun o8=>
 vK (gV ad false (binV .b .neq o5 o8)) fun o9=>
 vK (pickV ad (.bool true) o9) fun pa=>
 iteK pa (
 R (.bool false) m) (
 au [] m)))))
 fun sw sx pb=>
 loopK [(.int .i64 0)] pb fun t sy cq pc=>
 vK (binV .i .lss (ix t 0) (.int .i64 2)) fun pd=>
 iteK pd (
 vK (idxaV 2 1 ak (ix t 0)) fun pe=>
 vK (ldV cq pe) fun pf=>
 FCall prog zbi #[pf] cq fun cr ae=>
 drawK ae fun S=>
 vK (idxaV 2 1 ak (ix t 0)) fun pg=>
 qK S (fun ae=>ldV ae pg) fun ph=>
 vK (idxaV 2 3 al (ix t 0)) fun pi=>
 vK (fldV 0 pi) fun pj=>
 qK S (fun ae=>ldV ae pj) fun pk=>
 FCall prog za1 #[ph] ae fun pl u=>
 S u∧(vK (binV .i .neq pl pk) fun n=>
 vK (gV n false (some cr)) fun pm=>
 qK S (fun u=>gV n false (zae pm)) fun pn=>
 vK (gV n false (some (ix t 0))) fun po=>
 vK (gV n false (idxaV 2 3 al po)) fun pp=>
 vK (gV n false (fldV 1 pp)) fun pq=>
 qK S (fun u=>gV n false (ldV u pq)) fun pr=>
 qK S (fun u=>gV n false (zae pr)) fun ps=>
 vK (gV n false (binV .i .neq pn ps)) fun pt=>
 vK (pickV n (.bool true) pt) fun pu=>
 iteK pu (
 R (.bool false) u) (
 vK (zae cr) fun pv=>
 loopK [(.int .i64 0)] u fun bf sz af pw=>
 vK (binV .i .lss (ix bf 0) pv) fun px=>
 iteK px (
 vK (idxV 1 cr (ix bf 0)) fun py=>
 vK (ldV af py) fun pz=>
 vK (idxaV 2 3 al (ix t 0)) fun p0=>
 vK (fldV 1 p0) fun p1=>
 vK (ldV af p1) fun p2=>
 vK (idxV 1 p2 (ix bf 0)) fun p3=>
 vK (ldV af p3) fun p4=>
 vK (binV .i .neq pz p4) fun p5=>
 iteK p5 (
 R (.bool false) af) (
 vK (binV .i .add (ix bf 0) (.int .i64 1)) fun p6=>
 pw [p6] af)) (
 vK (binV .i .add (ix t 0) (.int .i64 1)) fun p7=>
 pc [p7] af)))) (
 vK (binV .i .add (ix ar 0) (.int .i64 1)) fun p8=>
 mi [p8] cq)) (
 R (.bool true) g)))))
theorem zi0 (H:zeQ a0 a1 a2 a3 a4 a5 h R):FCall prog zdf #[a0,a1,a2,a3,a4,a5] h R:=fk f3 (.s .z (.s (.s .z (.s (.s .z .z) .z)) (.s .z (.s .z (.s (.s .z (.s (.s .z .z) .z)) (.j 19342739326857771957485568 [17,18] (.d (.op 0 .r (.op 1 .r (.op 2 .r (.op 3 .r (.op 5 .r (.op 6 .r (.op 7 .r (.op 8 .r (.op 10 .r (.op 12 .r (.alt (.op 4 .e (.alt (.op 9 .e (.alt (.op 11 .e (.alt (.op 13 .e (.alt (.op 14 .e (.op 15 .r (.op 16 .r (.op 17 .r (.op 18 .e (.op 19 .e (.op 20 .r .nil))))))) (.op 18 .e (.op 14 .e (.op 15 .r (.op 16 .r (.op 17 .r (.op 19 .e (.op 20 .r .nil))))))))) (.op 18 .e (.op 13 .e (.op 14 .e (.op 15 .r (.op 16 .r (.op 17 .r (.op 19 .e (.op 20 .r .nil)))))))))) (.op 18 .e (.op 11 .e (.op 13 .e (.op 14 .e (.op 15 .r (.op 16 .r (.op 17 .r (.op 19 .e (.op 20 .r .nil))))))))))) (.op 18 .e (.op 9 .e (.op 11 .e (.op 13 .e (.op 14 .e (.op 15 .r (.op 16 .r (.op 17 .r (.op 19 .e (.op 20 .r .nil)))))))))))) (.op 18 .e (.op 4 .e (.op 9 .e (.op 11 .e (.op 13 .e (.op 14 .e (.op 15 .r (.op 16 .r (.op 17 .r (.op 19 .e (.op 20 .r .nil))))))))))))))))))))))) (.s .z (.s (.s .z (.s (.s .z .z) .z)) (.s .z (.s (.s .z (.l 5575101229040925550768063724510232444928000 [21,126] (.s .z (.s (.s .z .z) (.s (.s .z (.d (.op 0 .r (.op 1 .r (.op 2 .r (.op 3 .r (.op 4 .r (.op 5 .r (.op 6 .r (.op 7 .r (.op 8 .n (.op 9 .n (.op 10 .n (.op 11 .r .nil)))))))))))))) .z))))) (.s .z (.s .z (.s .z (.s .z (.s (.s .z (.l 65185151242703554760590262029100101153646988231934550687630764828418993413356037275534757888 [158] (.s .z (.s (.s .z .z) (.s (.s .z (.s (.s .z (.m 926336713898529563388567880022735210431570983942606597668739615436509924036608 [] (.s .z (.s (.s .z (.s .z (.s .z (.s .z (.s (.s .z .z) .z))))) (.s .z (.s (.s .z (.s (.s .z .z) .z)) (.s .z (.j 765499481594631006885053226940803854903306204666134528 [36,37,38] (.d (.op 0 .r (.op 1 .r (.op 2 .r (.op 3 .r (.op 4 .r (.alt (.op 5 .e (.op 6 .r (.op 7 .r (.op 8 .r (.op 9 .r (.alt (.op 10 .e (.alt (.op 11 .e (.op 12 .e (.op 13 .e (.op 14 .e (.op 15 .e .nil))))) (.op 12 .e (.op 11 .e (.op 13 .e (.op 14 .e (.op 15 .e .nil))))))) (.alt (.op 11 .e (.alt (.op 10 .e (.op 12 .e (.op 13 .e (.op 14 .e (.op 15 .e .nil))))) (.op 12 .e (.op 10 .e (.op 13 .e (.op 14 .e (.op 15 .e .nil))))))) (.op 12 .e (.alt (.op 10 .e (.op 11 .e (.op 13 .e (.op 14 .e (.op 15 .e .nil))))) (.op 11 .e (.op 10 .e (.op 13 .e (.op 14 .e (.op 15 .e .nil)))))))))))))) (.alt (.op 10 .e (.alt (.op 5 .e (.op 6 .r (.op 7 .r (.op 8 .r (.op 9 .r (.alt (.op 11 .e (.op 12 .e (.op 13 .e (.op 14 .e (.op 15 .e .nil))))) (.op 12 .e (.op 11 .e (.op 13 .e (.op 14 .e (.op 15 .e .nil))))))))))) (.alt (.op 11 .e (.alt (.op 5 .e (.op 6 .r (.op 7 .r (.op 8 .r (.op 9 .r (.op 12 .e (.op 13 .e (.op 14 .e (.op 15 .e .nil))))))))) (.op 12 .e (.op 5 .e (.op 6 .r (.op 7 .r (.op 8 .r (.op 9 .r (.op 13 .e (.op 14 .e (.op 15 .e .nil))))))))))) (.op 12 .e (.alt (.op 5 .e (.op 6 .r (.op 7 .r (.op 8 .r (.op 9 .r (.op 11 .e (.op 13 .e (.op 14 .e (.op 15 .e .nil))))))))) (.op 11 .e (.op 5 .e (.op 6 .r (.op 7 .r (.op 8 .r (.op 9 .r (.op 13 .e (.op 14 .e (.op 15 .e .nil)))))))))))))) (.alt (.op 11 .e (.alt (.op 5 .e (.op 6 .r (.op 7 .r (.op 8 .r (.op 9 .r (.alt (.op 10 .e (.op 12 .e (.op 13 .e (.op 14 .e (.op 15 .e .nil))))) (.op 12 .e (.op 10 .e (.op 13 .e (.op 14 .e (.op 15 .e .nil))))))))))) (.alt (.op 10 .e (.alt (.op 5 .e (.op 6 .r (.op 7 .r (.op 8 .r (.op 9 .r (.op 12 .e (.op 13 .e (.op 14 .e (.op 15 .e .nil))))))))) (.op 12 .e (.op 5 .e (.op 6 .r (.op 7 .r (.op 8 .r (.op 9 .r (.op 13 .e (.op 14 .e (.op 15 .e .nil))))))))))) (.op 12 .e (.alt (.op 5 .e (.op 6 .r (.op 7 .r (.op 8 .r (.op 9 .r (.op 10 .e (.op 13 .e (.op 14 .e (.op 15 .e .nil))))))))) (.op 10 .e (.op 5 .e (.op 6 .r (.op 7 .r (.op 8 .r (.op 9 .r (.op 13 .e (.op 14 .e (.op 15 .e .nil)))))))))))))) (.op 12 .e (.alt (.op 5 .e (.op 6 .r (.op 7 .r (.op 8 .r (.op 9 .r (.alt (.op 10 .e (.op 11 .e (.op 13 .e (.op 14 .e (.op 15 .e .nil))))) (.op 11 .e (.op 10 .e (.op 13 .e (.op 14 .e (.op 15 .e .nil))))))))))) (.alt (.op 10 .e (.alt (.op 5 .e (.op 6 .r (.op 7 .r (.op 8 .r (.op 9 .r (.op 11 .e (.op 13 .e (.op 14 .e (.op 15 .e .nil))))))))) (.op 11 .e (.op 5 .e (.op 6 .r (.op 7 .r (.op 8 .r (.op 9 .r (.op 13 .e (.op 14 .e (.op 15 .e .nil))))))))))) (.op 11 .e (.alt (.op 5 .e (.op 6 .r (.op 7 .r (.op 8 .r (.op 9 .r (.op 10 .e (.op 13 .e (.op 14 .e (.op 15 .e .nil))))))))) (.op 10 .e (.op 5 .e (.op 6 .r (.op 7 .r (.op 8 .r (.op 9 .r (.op 13 .e (.op 14 .e (.op 15 .e .nil))))))))))))))))))))))) (.s .z (.s .z (.s (.d (.op 0 .r (.op 1 .r (.op 2 .r (.op 3 .r (.op 4 .e (.op 5 .n .nil))))))) (.s .z (.s (.s .z .z) .z))))))))))))) (.s .z (.l 32592575621350851043581232484986662008943424795392153850300922065157785135541339387060031488 [259] (.s .z (.s (.s .z .z) (.s (.s .z (.s .z (.s (.s (.d (.op 0 .r (.op 1 .r (.op 2 .r (.op 4 .r (.op 5 .r (.op 6 .r (.op 7 .r (.op 3 .e (.op 8 .r (.op 9 .r (.op 10 .r (.op 11 .r (.op 12 .r (.op 13 .r (.op 14 .r (.op 15 .r (.op 16 .r (.op 17 .r (.op 18 .r .nil)))))))))))))))))))) (.s (.s .z .z) .z)) (.s .z (.l 16296039149057683796826487816150951877991696921252091331230403362846603818358196178872438784 [287] (.s .z (.s (.s .z .z) (.s (.s .z (.s .z (.s (.s .z .z) .z))) .z)))))))) .z))))))) .z))))) (.s .z .z)))))))))))))))) H
def zjh (h:Heap)(R:Value→Heap→Prop):Prop:=
 FCall prog zev #[] h fun a s=>
 FCall prog zhe #[(.int .i64 1)] s fun b t=>
 FCall prog zhg #[] t fun u l=>
 vK (unV .not u) fun j=>
 vK (gV j false (some a)) fun v=>
 vK (gV j false (binV .p .eql v (.pointer none))) fun w=>
 vK (pickV j (.bool true) w) fun k=>
 vK (gV k false (some b)) fun x=>
 vK (gV k false (binV .p .eql x (.pointer none))) fun y=>
 vK (pickV k (.bool true) y) fun c=>
 vK (gV c false (some a)) fun z=>
 vK (gV c false (some b)) fun aa=>
 gK c false (fun ab=>FCall prog zaF #[z,aa,.nilFunc] l ab) l fun ac m=>
 vK (gV c false ((fillL #[(.int .i64 0),(.int .i64 0),(.int .i64 0),(.int .i64 0)] []).map .agg)) fun ad=>
 vK (gV c false (binV (.st [(0,1,.i),(1,1,.i),(2,2,(.st [(0,1,.i),(1,1,.i)]))]) .neq ac ad)) fun ae=>
 vK (pickV c (.bool true) ae) fun f=>
 vK (gV f false (some a)) fun af=>
 vK (gV f false (some b)) fun ag=>
 gK f false (fun ah=>FCall prog zaG #[af,ag] m ah) m fun ai n=>
 vK (pickV f (.bool true) ai) fun aj=>
 iteK aj (
 R (.bool false) n) (
 FCall prog zbd #[b] n fun a5 ak=>
 FCall prog zaG #[a,b] ak fun d o=>
 vK (gV d true (some a)) fun al=>
 vK (gV d true (some b)) fun am=>
 gK d true (fun an=>FCall prog zaF #[al,am,.nilFunc] o an) o fun ao q=>
 vK (gV d true ((fillL #[(.int .i64 0),(.int .i64 0),(.int .i64 0),(.int .i64 0)] [(0,1,(.int .i64 3))]).map .agg)) fun ap=>
 vK (gV d true (binV (.st [(0,1,.i),(1,1,.i),(2,2,(.st [(0,1,.i),(1,1,.i)]))]) .eql ao ap)) fun aq=>
 vK (pickV d aq (.bool false)) fun e=>
 vK (gV e true (some a)) fun ar=>
 vK (gV e true (some b)) fun au=>
 gK e true (fun av=>FCall prog zaF #[ar,au,.nilFunc] q av) q fun aw r=>
 vK (gV e true ((fillL #[(.int .i64 0),(.int .i64 0),(.int .i64 0),(.int .i64 0)] []).map .agg)) fun ax=>
 vK (gV e true (binV (.st [(0,1,.i),(1,1,.i),(2,2,(.st [(0,1,.i),(1,1,.i)]))]) .eql aw ax)) fun ay=>
 vK (pickV e ay (.bool false)) fun g=>
 vK (gV g true (some a)) fun az=>
 gK g true (fun a0=>FCall prog za1 #[az] r a0) r fun a1 a2=>
 vK (gV g true (binV .i .eql a1 (.int .i64 2))) fun a3=>
 vK (pickV g a3 (.bool false)) fun a4=>
 R a4 a2)
theorem zoF (H:zjh h R):FCall prog ze4 #[] h R:=fk f10 (.s .z (.s .z (.s (.s .z (.s (.s .z .z) .z)) (.s .z (.s .z .z))))) H
def zep (a0:Value)(h:Heap)(R:Value→Heap→Prop):Prop:=
 newK (Value.cells a0) 25 h fun b a=>
 vK (fldV 0 b) fun c=>
 vK (ldV a c) fun d=>
 vK (binV .i .rem d (.int .u16 12)) fun e=>
 vK (fldV 1 b) fun f=>
 vK (ldV a f) fun g=>
 vK (binV .i .rem g (.int .u16 12)) fun j=>
 vK (fldV 2 b) fun k=>
 vK (ldV a k) fun l=>
 vK (fldV 3 b) fun m=>
 vK (ldV a m) fun n=>
 vK (fldV 4 b) fun o=>
 vK (ldV a o) fun p=>
 FCall prog ziw #[e,j,l,n,p] a fun q r=>
 R q r
theorem zic (H:zep a0 h R):FCall prog zb5 #[a0] h R:=fk f11 (.s .z (.s .z .z)) H
def zhY (a0 a1:Value)(h:Heap)(R:Value→Heap→Prop):Prop:=
 vK (binV .p .eql a1 (.pointer none)) fun b=>
 vK (gV b false (some a0)) fun l=>
 vK (gV b false (zae l)) fun m=>
 vK (gV b false (binV .i .gtr m (.int .i64 4))) fun n=>
 vK (pickV b (.bool true) n) fun c=>
 vK (gV c false (some a0)) fun o=>
 gK c false (fun q=>FCall prog zgs #[o,(.int .i64 12)] h q) h fun r e=>
 vK (gV c false (unV .not r)) fun s=>
 vK (pickV c (.bool true) s) fun t=>
 iteK t (
 R (.tuple #[(.slice none 0 0),(.slice none 0 0),(.bool false)]) e) (
 FCall prog zaC #[a1] e fun u v=>
 FCall prog zaz #[a1] v fun w x=>
 FCall prog zai #[a1] x fun y z=>
 FCall prog zrd #[a0,u,w,y] z fun f aa=>
 vK (extV f 0) fun g=>
 vK (extV f 1) fun ab=>
 FCall prog ziv #[a0] aa fun ac ad=>
 FCall prog zaC #[a1] ad fun ae af=>
 FCall prog zaz #[a1] af fun ag ah=>
 FCall prog zai #[a1] ah fun ai aj=>
 FCall prog zjT #[ac,ae,ag,ai] aj fun j ak=>
 vK (extV j 0) fun k=>
 vK (extV j 1) fun al=>
 vK (binV .i .eql ab (.int .i64 0)) fun d=>
 vK (gV d true (some al)) fun am=>
 vK (gV d true (binV .i .eql am (.int .i64 0))) fun an=>
 vK (pickV d an (.bool false)) fun a=>
 vK (gV a true (some g)) fun ao=>
 vK (gV a true (zae ao)) fun ap=>
 vK (gV a true (some k)) fun aq=>
 vK (gV a true (zae aq)) fun ar=>
 vK (gV a true (binV .i .eql ap ar)) fun au=>
 vK (pickV a au (.bool false)) fun av=>
 R (.tuple #[g,k,av]) ak)
theorem znK (H:zhY a0 a1 h R):FCall prog zei #[a0,a1] h R:=fk f12 (.s .z (.s (.s .z (.s (.s .z .z) .z)) (.s .z (.s .z (.s .z .z))))) H
def zkx (a0 a1 a2 a3:Value)(h:Heap)(R:Value→Heap→Prop):Prop:=
 vK (binV .i .lss a3 (.int .i64 1)) fun b=>
 vK (gV b false (some a3)) fun f=>
 vK (gV b false (binV .i .gtr f (.int .i64 65535))) fun g=>
 vK (pickV b (.bool true) g) fun a=>
 vK (gV a false (some a2)) fun j=>
 vK (gV a false (binV .i .neq j (.int .i64 1))) fun k=>
 vK (gV a false (some k)) fun c=>
 vK (gV c true (some a2)) fun l=>
 vK (gV c true (binV .i .neq l (.int .i64 3))) fun m=>
 vK (gV a false (pickV c m (.bool false))) fun n=>
 vK (pickV a (.bool true) n) fun o=>
 iteK o (
 R (.tuple #[(.pointer none),(.int .i64 2)]) h) (
 FCall prog zdH #[a0,a1,a2] h fun p d=>
 vK (unV .not p) fun q=>
 iteK q (
 R (.tuple #[(.pointer none),(.int .i64 5)]) d) (
 vK (binV .i .mul a0 a1) fun r=>
 vK (binV .i .mul r a2) fun e=>
 mkK (.int .u16 0) 22 1 2 e e d fun s t=>
 vK ((fillL #[(.int .i64 0),(.int .i64 0),(.int .i64 0),(.int .i64 0),(.slice none 0 0)] [(0,1,a0),(1,1,a1),(2,1,a2),(3,1,a3),(4,1,s)]).map .agg) fun u=>
 newK (Value.cells u) 151 t fun v w=>
 R (.tuple #[v,(.int .i64 0)]) w))
theorem zqt (H:zkx a0 a1 a2 a3 h R):FCall prog zaB #[a0,a1,a2,a3] h R:=fk f13 (.s .z (.s (.s .z (.s (.s .z .z) (.s .z (.s (.s .z .z) .z)))) (.s .z .z))) H
def zgz (a0:Value)(h:Heap)(R:Value→Heap→Prop):Prop:=
 vK (nilV a0) fun a=>
 vK (fldV 1 a) fun b=>
 vK (ldV h b) fun c=>
 vK (zae c) fun d=>
 R d h
theorem zlz (H:zgz a0 h R):FCall prog zak #[a0] h R:=fk f14 (.s .z (.s .z .z)) H
def zdh (a0:Value)(h:Heap)(R:Value→Heap→Prop):Prop:=
 vK (nilV a0) fun a=>
 vK (fldV 2 a) fun b=>
 vK (ldV h b) fun c=>
 R c h
theorem zgH (H:zdh a0 h R):FCall prog zai #[a0] h R:=fk f15 (.s .z (.s .z .z)) H
def zeN (a0:Value)(h:Heap)(R:Value→Heap→Prop):Prop:=
 vK (nilV a0) fun a=>
 vK (fldV 3 a) fun b=>
 vK (ldV h b) fun c=>
 R c h
theorem ziX (H:zeN a0 h R):FCall prog zaq #[a0] h R:=fk f16 (.s .z (.s .z .z)) H
def znm (a0 a1 a2:Value)(h:Heap)(R:Value→Heap→Prop):Prop:=
 newK (Value.cells a0) 46 h fun d a=>
 vK (fldV 0 d) fun g=>
 vK (ldV a g) fun i=>
 vK (binV .p .eql i (.pointer none)) fun b=>
 vK (gV b false (fldV 1 d)) fun j=>
 vK (gV b false (ldV a j)) fun k=>
 vK (gV b false (binV .p .eql k (.pointer none))) fun l=>
 vK (pickV b (.bool true) l) fun m=>
 iteK m (
 R (.tuple #[(.pointer none),(.int .i64 6)]) a) (
 FCall prog zhf #[a1] a fun n f=>
 vK (unV .not n) fun c=>
 vK (gV c false (some a2)) fun o=>
 gK c false (fun q=>FCall prog zhf #[o] f q) f fun r e=>
 vK (gV c false (unV .not r)) fun s=>
 vK (pickV c (.bool true) s) fun t=>
 iteK t (
 R (.tuple #[(.pointer none),(.int .i64 9)]) e) (
 vK (ldsV 3 e d) fun u=>
 vK ((fillL #[(.pointer none),(.pointer none),(.int .i64 0),(.int .i64 0),(.int .i64 0)] [(0,3,u),(3,1,a1),(4,1,a2)]).map .agg) fun v=>
 newK (Value.cells v) 156 e fun w x=>
 R (.tuple #[w,(.int .i64 0)]) x))
theorem ok_plan_New (H:znm a0 a1 a2 h R):FCall prog zgM #[a0,a1,a2] h R:=fk f17 (.s .z (.s (.s .z (.s (.s .z .z) (.s .z (.s (.s .z .z) .z)))) (.s .z .z))) H
def zmd (a0 a1 a2:Value)(h:Heap)(R:Value→Heap→Prop):Prop:=
 newK (Value.cells a0) 56 h fun c t=>
 loopK [(.slice none 0 0),(.int .i64 0)] t fun d b6 j u=>
 vK (fldV 1 c) fun v=>
 vK (ldV j v) fun w=>
 vK (zae w) fun x=>
 vK (binV .i .lss (ix d 1) x) fun y=>
 iteK y (
 loopK [(ix d 0),(.int .i64 0)] j fun a b7 e z=>
 vK (fldV 0 c) fun aa=>
 vK (ldV e aa) fun ab=>
 vK (zae ab) fun ac=>
 vK (binV .i .lss (ix a 1) ac) fun ad=>
 iteK ad (
 vK (zae (ix a 0)) fun ae=>
 vK (fldV 1 c) fun af=>
 vK (ldV e af) fun ag=>
 FCall prog zio #[ag] e fun ah ai=>
 vK ((fillL #[(.int .i64 0),(.int .i64 0),(.int .i64 0),(.int .i64 0),(.int .i64 0),(.int .i64 0),(.int .i64 0),(.int .i64 0),(.int .i64 0),(.int .i64 0)] [(0,1,ae),(1,1,(ix a 1)),(2,1,(ix d 1)),(3,1,a1),(4,1,a2),(9,1,ah)]).map .agg) fun aj=>
 newK #[(.int .i64 0),(.int .i64 0),(.int .i64 0),(.int .i64 0),(.int .i64 0),(.int .i64 0),(.int .i64 0),(.int .i64 0),(.int .i64 0),(.int .i64 0)] 58 ai fun b ak=>
 stK 10 b aj ak fun b8 f=>
 joinK (fun o=>
 vK (binV .i .add (ix a 1) a1) fun al=>
 vK (fldV 0 c) fun am=>
 vK (ldV f am) fun an=>
 vK (zae an) fun ao=>
 vK (binV .i .gtr al ao) fun ap=>
 iteK ap (
 vK (fldV 0 c) fun aq=>
 vK (ldV f aq) fun ar=>
 vK (zae ar) fun au=>
 vK (binV .i .sub au (ix a 1)) fun av=>
 vK (fldV 3 b) fun aw=>
 stK 1 aw av f fun b9 ax=>
 o [] ax) (
 o [] f))
 fun ca cb g=>
 joinK (fun p=>
 vK (binV .i .add (ix d 1) a2) fun ay=>
 vK (fldV 1 c) fun az=>
 vK (ldV g az) fun a3=>
 vK (zae a3) fun a4=>
 vK (binV .i .gtr ay a4) fun a5=>
 iteK a5 (
 vK (fldV 1 c) fun a6=>
 vK (ldV g a6) fun a7=>
 vK (zae a7) fun a8=>
 vK (binV .i .sub a8 (ix d 1)) fun a9=>
 vK (fldV 4 b) fun ba=>
 stK 1 ba a9 g fun cc bb=>
 p [] bb) (
 p [] g))
 fun cd ce k=>
 vK (fldV 0 c) fun bc=>
 vK (ldV k bc) fun bd=>
 vK (fldV 3 b) fun be=>
 vK (ldV k be) fun bf=>
 vK (binV .i .add (ix a 1) bf) fun bg=>
 FCall prog ze0 #[bd,(ix a 1),bg] k fun l m=>
 vK (extV l 0) fun q=>
 vK (extV l 1) fun bh=>
 vK (extV l 2) fun cf=>
 vK (fldV 1 c) fun bi=>
 vK (ldV m bi) fun bj=>
 vK (fldV 4 b) fun bk=>
 vK (ldV m bk) fun bl=>
 vK (binV .i .add (ix d 1) bl) fun bm=>
 FCall prog ze0 #[bj,(ix d 1),bm] m fun n bn=>
 vK (extV n 0) fun r=>
 vK (extV n 1) fun bo=>
 vK (extV n 2) fun cg=>
 vK (fldV 5 b) fun bp=>
 stK 1 bp q bn fun ch bq=>
 vK (binV .i .sub bh q) fun br=>
 vK (fldV 7 b) fun bs=>
 stK 1 bs br bq fun ci bt=>
 vK (fldV 6 b) fun bu=>
 stK 1 bu r bt fun cj bv=>
 vK (binV .i .sub bo r) fun bw=>
 vK (fldV 8 b) fun bx=>
 stK 1 bx bw bv fun ck s=>
 vK (ldsV 10 s b) fun bz=>
 rowK #[(.int .i64 0),(.int .i64 0),(.int .i64 0),(.int .i64 0),(.int .i64 0),(.int .i64 0),(.int .i64 0),(.int .i64 0),(.int .i64 0),(.int .i64 0)] 58 1 [(0,10,bz)] s fun b0 b1=>
 appK (.agg #[.int .i64 0,.int .i64 0,.int .i64 0,.int .i64 0,.int .i64 0,.int .i64 0,.int .i64 0,.int .i64 0,.int .i64 0,.int .i64 0]) 58 10 80 (ix a 0) b0 b1 fun b2 b3=>
 vK (binV .i .add (ix a 1) a1) fun b4=>
 z [b2,b4] b3) (
 vK (binV .i .add (ix d 1) a2) fun b5=>
 u [(ix a 0),b5] e)) (
 R (ix d 0) j)
theorem ok_ref14_All (H:zmd a0 a1 a2 h R):FCall prog zjS #[a0,a1,a2] h R:=fk f18 (.s .z (.s .z (.s (.s .z (.l 649037107316853453566312041152384 [7,8] (.s (.s .z (.s .z .z)) (.s (.s .z (.l 649037107316853453566312007728768 [7,9] (.s (.s .z (.s .z .z)) (.s (.s .z (.j 72048797944905728 [] (.s .z (.s .z .z)) (.j 590223752764667723776 [] (.s .z (.s .z .z)) (.s .z (.s .z (.s .z (.s .z (.s .z (.s .z .z))))))))) .z)))) .z)))) (.s .z .z)))) H
def zi6 (a0 a1 a2:Value)(h:Heap)(R:Value→Heap→Prop):Prop:=
 newK (Value.cells a0) 56 h fun o p=>
 vK (fldV 1 o) fun w=>
 vK (ldV p w) fun q=>
 vK (zae q) fun x=>
 loopK [(.int .i64 0),(.int .i64 0)] p fun b bo f r=>
 vK (binV .i .lss (ix b 1) x) fun y=>
 iteK y (
 vK (idxV 2 q (ix b 1)) fun z=>
 vK (ldsV 2 f z) fun aa=>
 newK #[(.int .i64 0),(.slice none 0 0)] 161 f fun g ab=>
 stK 2 g aa ab fun bp d=>
 vK (fldV 1 g) fun ac=>
 vK (ldV d ac) fun ad=>
 vK (zae ad) fun ae=>
 vK (binV .i .gtr ae (ix b 0)) fun af=>
 iteK af (
 vK (fldV 1 g) fun ag=>
 vK (ldV d ag) fun ah=>
 vK (zae ah) fun ai=>
 vK (binV .i .add (ix b 1) (.int .i64 1)) fun aj=>
 r [ai,aj] d) (
 vK (binV .i .add (ix b 1) (.int .i64 1)) fun ak=>
 r [(ix b 0),ak] d)) (
 loopK [(.slice none 0 0),(.slice none 0 0),(.int .i64 0)] f fun c bq e al=>
 vK (binV .i .lss (ix c 2) a2) fun am=>
 iteK am (
 vK (fldV 1 o) fun an=>
 vK (ldV e an) fun ao=>
 vK (binV .i .add a1 (ix c 2)) fun ap=>
 vK (idxV 2 ao ap) fun aq=>
 vK (ldsV 2 e aq) fun ar=>
 newK #[(.int .i64 0),(.slice none 0 0)] 161 e fun j au=>
 stK 2 j ar au fun br s=>
 vK (fldV 1 j) fun av=>
 vK (ldV s av) fun aw=>
 vK (zae aw) fun ax=>
 loopK [(ix c 0),(ix c 1),(.int .i64 0)] s fun a bs k l=>
 vK (binV .i .lss (ix a 2) ax) fun ay=>
 iteK ay (
 vK (fldV 0 j) fun az=>
 vK (ldV k az) fun a3=>
 vK (binV .i .add a3 (ix a 2)) fun m=>
 FCall prog zl0 #[(ix a 1),m] k fun a4 t=>
 iteK a4 (
 vK (binV .i .add (ix a 2) (.int .i64 1)) fun a5=>
 l [(ix a 0),(ix a 1),a5] t) (
 vK ((fillL #[(.int .i64 0),(.int .i64 0)] [(0,1,(.int .i64 1)),(1,1,m)]).map .agg) fun a6=>
 rowK #[(.int .i64 0),(.int .i64 0)] 88 1 [(0,2,a6)] t fun a7 a8=>
 appK (.agg #[.int .i64 0,.int .i64 0]) 88 2 16 (ix a 0) a7 a8 fun u a9=>
 rowK #[(.int .i64 0)] 2 1 [(0,1,m)] a9 fun ba bb=>
 appK (.int .i64 0) 2 1 8 (ix a 1) ba bb fun n v=>
 vK (zae n) fun bc=>
 vK (binV .i .gtr bc (ix b 0)) fun bd=>
 iteK bd (
 vK (slcV 1 n (some (.int .i64 1)) none) fun be=>
 vK (binV .i .add (ix a 2) (.int .i64 1)) fun bf=>
 l [u,be,bf] v) (
 vK (binV .i .add (ix a 2) (.int .i64 1)) fun bg=>
 l [u,n,bg] v))) (
 vK (binV .i .add a1 (ix c 2)) fun bh=>
 vK ((fillL #[(.int .i64 0),(.int .i64 0)] [(0,1,(.int .i64 2)),(1,1,bh)]).map .agg) fun bi=>
 rowK #[(.int .i64 0),(.int .i64 0)] 88 1 [(0,2,bi)] k fun bj bk=>
 appK (.agg #[.int .i64 0,.int .i64 0]) 88 2 16 (ix a 0) bj bk fun bl bm=>
 vK (binV .i .add (ix c 2) (.int .i64 1)) fun bn=>
 al [bl,(ix a 1),bn] bm)) (
 R (ix c 0) e))
theorem zou (H:zi6 a0 a1 a2 h R):FCall prog zeZ #[a0,a1,a2] h R:=fk f19 (.s .z (.s .z (.s (.s .z (.l 4294443648 [7,19] (.s .z (.s (.s .z .z) (.s (.s .z (.s .z (.s .z .z))) .z))))) (.s .z (.s .z (.s (.s .z (.l 1208925819614620584836096 [10,11,33] (.s .z (.s (.s .z .z) (.s (.s .z (.s .z (.s (.s .z (.l 4722366412500901088256 [10,11,46] (.s .z (.s (.s .z .z) (.s (.s .z (.s .z (.s (.s .z (.s .z .z)) (.s .z (.s .z (.s .z (.s .z .z))))))) .z))))) .z))) .z))))) (.s .z .z))))))) H
def zck (a0 a1 a2 a3 a4:Value)(h:Heap)(R:Value→Heap→Prop):Prop:=
 vK (ldV h a1) fun f=>
 FCall prog zbR #[f,a0] h fun b g=>
 vK (extV b 0) fun j=>
 vK (extV b 1) fun k=>
 newK #[(.int .i64 0),(.int .i64 0),(.int .i64 0),(.int .i64 0),(.int .i64 0),(.int .i64 0),(.int .i64 0),(.int .i64 0),(.int .i64 0),(.int .i64 0)] 65 g fun c l=>
 stK 10 c j l fun w a=>
 vK (unV .not k) fun m=>
 iteK m (
 R (.pointer none) a) (
 drawK a fun S=>
 qK S (fun a=>ldV a a2) fun n=>
 qK S (fun a=>ldV a a3) fun o=>
 qK S (fun a=>ldV a a4) fun p=>
 vK (idxV 3 p (.int .i64 0)) fun q=>
 qK S (fun a=>ldsV 3 a q) fun r=>
 qK S (fun a=>ldsV 10 a c) fun s=>
 FCall prog zew #[n,o,r,s] a fun d e=>
 vK (extV d 0) fun t=>
 vK (extV d 1) fun u=>
 vK (binV .i .neq u (.int .i64 0)) fun v=>
 iteK v (
 R (.pointer none) e) (
 R t e))
theorem zdw (H:zck a0 a1 a2 a3 a4 h R):FCall prog zaM #[a0,a1,a2,a3,a4] h R:=fk f20 (.s .z (.s .z (.s (.s .z (.s (.s .z .z) .z)) (.s (.d (.op 0 .r (.op 1 .r (.op 2 .r (.op 3 .r (.op 4 .r (.op 5 .r (.op 6 .n (.op 7 .r (.op 8 .r (.op 9 .r (.op 10 .r (.op 11 .r .nil))))))))))))) (.s (.s .z (.s (.s .z .z) .z)) (.s .z .z)))))) H
def zdT (a0 a1:Value)(h:Heap)(R:Value→Heap→Prop):Prop:=
 newK #[(.int .i64 0),(.int .i64 0),(.int .i64 0),(.int .i64 0),(.int .i64 0),(.int .i64 0),(.int .i64 0),(.int .i64 0),(.int .i64 0),(.int .i64 0)] 65 h fun f l=>
 vK (binV .i .lss a1 (.int .i64 0)) fun e=>
 vK (gV e false (some a1)) fun af=>
 vK (gV e false (some a0)) fun ag=>
 gK e false (fun ah=>FCall prog zcO #[ag] l ah) l fun ai d=>
 vK (gV e false (binV .i .geq af ai)) fun aj=>
 vK (pickV e (.bool true) aj) fun ak=>
 iteK ak (
 vK ((fillL #[(.int .i64 0),(.int .i64 0),(.int .i64 0),(.int .i64 0),(.int .i64 0),(.int .i64 0),(.int .i64 0),(.int .i64 0),(.int .i64 0),(.int .i64 0)] []).map .agg) fun al=>
 stK 10 f al d fun b8 m=>
 vK (ldsV 10 m f) fun am=>
 R (.tuple #[am,(.bool false)]) m) (
 joinK (fun g=>
 drawK d fun S=>
 vK (nilV a0) fun an=>
 vK (fldV 0 an) fun ao=>
 vK (fldV 1 ao) fun ap=>
 qK S (fun d=>ldV d ap) fun j=>
 (FCall prog zdI #[a0,a1] d fun n k=>
 S k∧((FCall prog zbm #[j] k fun aq o=>
 S o∧(vK ((fillL #[(.int .i64 0),(.int .i64 0),(.int .i64 0),(.int .i64 0),(.int .i64 0),(.int .i64 0),(.int .i64 0),(.int .i64 0),(.int .i64 0),(.int .i64 0)] [(0,1,a1),(1,4,n),(9,1,aq)]).map .agg) fun ar=>
 newK #[(.int .i64 0),(.int .i64 0),(.int .i64 0),(.int .i64 0),(.int .i64 0),(.int .i64 0),(.int .i64 0),(.int .i64 0),(.int .i64 0),(.int .i64 0)] 65 o fun p q=>
 S q∧(stK 10 p ar q fun b9 r=>
 S r∧(g [p] r))))∧(newK #[(.int .i64 0),(.int .i64 0),(.int .i64 0),(.int .i64 0),(.int .i64 0),(.int .i64 0),(.int .i64 0),(.int .i64 0),(.int .i64 0),(.int .i64 0)] 65 k fun s t=>
 S t∧(FCall prog zbm #[j] t fun au u=>
 S u∧(vK ((fillL #[(.int .i64 0),(.int .i64 0),(.int .i64 0),(.int .i64 0),(.int .i64 0),(.int .i64 0),(.int .i64 0),(.int .i64 0),(.int .i64 0),(.int .i64 0)] [(0,1,a1),(1,4,n),(9,1,au)]).map .agg) fun av=>
 stK 10 s av u fun ca v=>
 S v∧(g [s] v))))))∧(newK #[(.int .i64 0),(.int .i64 0),(.int .i64 0),(.int .i64 0),(.int .i64 0),(.int .i64 0),(.int .i64 0),(.int .i64 0),(.int .i64 0),(.int .i64 0)] 65 d fun w x=>
 S x∧(FCall prog zdI #[a0,a1] x fun aw y=>
 S y∧(FCall prog zbm #[j] y fun ax z=>
 S z∧(vK ((fillL #[(.int .i64 0),(.int .i64 0),(.int .i64 0),(.int .i64 0),(.int .i64 0),(.int .i64 0),(.int .i64 0),(.int .i64 0),(.int .i64 0),(.int .i64 0)] [(0,1,a1),(1,4,aw),(9,1,ax)]).map .agg) fun ay=>
 stK 10 w ay z fun cb aa=>
 S aa∧(g [w] aa))))))
 fun a cc b=>
 drawK b fun S=>
 vK (nilV a0) fun az=>
 vK (fldV 0 az) fun a2=>
 vK (fldV 0 a2) fun a3=>
 qK S (fun b=>ldV b a3) fun a4=>
 vK (fldV 1 (ix a 0)) fun a5=>
 vK (fldV 0 a5) fun a6=>
 qK S (fun b=>ldV b a6) fun a7=>
 vK (fldV 1 (ix a 0)) fun a8=>
 vK (fldV 0 a8) fun a9=>
 qK S (fun b=>ldV b a9) fun ba=>
 vK (fldV 1 (ix a 0)) fun bb=>
 vK (fldV 2 bb) fun bc=>
 qK S (fun b=>ldV b bc) fun bd=>
 vK (binV .i .add ba bd) fun be=>
 FCall prog zbF #[a4,a7,be] b fun ab bf=>
 vK (extV ab 0) fun bg=>
 vK (extV ab 1) fun bh=>
 vK (fldV 5 (ix a 0)) fun bi=>
 stK 1 bi bg bf fun cd bj=>
 vK (fldV 7 (ix a 0)) fun bk=>
 stK 1 bk bh bj fun ce c=>
 drawK c fun S=>
 vK (nilV a0) fun bl=>
 vK (fldV 0 bl) fun bm=>
 vK (fldV 1 bm) fun bn=>
 qK S (fun c=>ldV c bn) fun bo=>
 vK (fldV 1 (ix a 0)) fun bp=>
 vK (fldV 1 bp) fun bq=>
 qK S (fun c=>ldV c bq) fun br=>
 vK (fldV 1 (ix a 0)) fun bs=>
 vK (fldV 1 bs) fun bt=>
 qK S (fun c=>ldV c bt) fun bu=>
 vK (fldV 1 (ix a 0)) fun bv=>
 vK (fldV 3 bv) fun bw=>
 qK S (fun c=>ldV c bw) fun bx=>
 vK (binV .i .add bu bx) fun bz=>
 FCall prog zbF #[bo,br,bz] c fun ac b0=>
 vK (extV ac 0) fun b1=>
 vK (extV ac 1) fun b2=>
 vK (fldV 6 (ix a 0)) fun b3=>
 stK 1 b3 b1 b0 fun cf b4=>
 vK (fldV 8 (ix a 0)) fun b5=>
 stK 1 b5 b2 b4 fun cg ad=>
 vK (ldsV 10 ad (ix a 0)) fun b6=>
 stK 10 f b6 ad fun ch ae=>
 vK (ldsV 10 ae f) fun b7=>
 R (.tuple #[b7,(.bool true)]) ae)
theorem zgI (H:zdT a0 a1 h R):FCall prog zbR #[a0,a1] h R:=fk f21 (.s .z (.s (.s .z (.s (.s .z .z) .z)) (.j 134152256 [6] (.d (.op 0 .r (.op 1 .r (.op 2 .r (.op 4 .r (.op 5 .r (.op 6 .r (.op 7 .r (.op 8 .r (.alt (.op 3 .e (.alt (.op 9 .e (.op 10 .r (.op 11 .e (.op 12 .e .nil)))) (.op 11 .e (.op 9 .e (.op 10 .r (.op 12 .e .nil)))))) (.op 11 .e (.op 3 .e (.op 9 .e (.op 10 .r (.op 12 .e .nil))))))))))))))) (.s (.d (.op 0 .r (.op 1 .r (.op 2 .r (.op 3 .r (.op 4 .r (.op 5 .r (.op 6 .r (.op 7 .r (.op 8 .r (.op 9 .r (.op 10 .r (.op 11 .r (.op 12 .r (.op 13 .r (.op 14 .r (.op 15 .n (.op 16 .r (.op 17 .r (.op 18 .r (.op 19 .r (.op 20 .n (.op 21 .r (.op 22 .n .nil)))))))))))))))))))))))) (.s (.d (.op 0 .r (.op 1 .r (.op 2 .r (.op 3 .r (.op 4 .r (.op 5 .r (.op 6 .r (.op 7 .r (.op 8 .r (.op 9 .r (.op 10 .r (.op 11 .r (.op 12 .r (.op 13 .r (.op 14 .r (.op 15 .n (.op 16 .r (.op 17 .r (.op 18 .r (.op 19 .r (.op 20 .n (.op 21 .r (.op 22 .n .nil)))))))))))))))))))))))) (.s .z .z)))))) H
def zj8 (a0 a1 a2 a3:Value)(h:Heap)(R:Value→Heap→Prop):Prop:=
 newK (Value.cells a2) 46 h fun b k=>
 newK (Value.cells a3) 65 k fun c e=>
 vK (ldsV 3 e b) fun l=>
 FCall prog zgp #[a0,a1,l] e fun m d=>
 vK (unV .not m) fun n=>
 iteK n (
 R (.tuple #[(.pointer none),(.int .i64 6)]) d) (
 vK (ldsV 3 d b) fun o=>
 vK (fldV 1 c) fun p=>
 vK (ldsV 4 d p) fun q=>
 FCall prog zfB #[o,q] d fun r a=>
 vK (unV .not r) fun s=>
 iteK s (
 R (.tuple #[(.pointer none),(.int .i64 9)]) a) (
 drawK a fun S=>
 qK S (fun a=>ldsV 3 a b) fun t=>
 qK S (fun a=>ldsV 10 a c) fun u=>
 vK (fldV 1 b) fun v=>
 qK S (fun a=>ldV a v) fun w=>
 vK (fldV 1 c) fun x=>
 vK (fldV 2 x) fun y=>
 qK S (fun a=>ldV a y) fun z=>
 vK (fldV 1 c) fun aa=>
 vK (fldV 1 aa) fun ab=>
 qK S (fun a=>ldV a ab) fun ac=>
 FCall prog zbm #[w] a fun ad f=>
 S f∧(FCall prog zai #[a0] f fun ae g=>
 S g∧(vK (binV .i .mul z ae) fun af=>
 FCall prog zlZ #[ad,af] g fun ag j=>
 S j∧(vK ((fillL #[(.pointer none),(.pointer none),(.pointer none),(.pointer none),(.int .i64 0),(.int .i64 0),(.int .i64 0),(.int .i64 0),(.int .i64 0),(.int .i64 0),(.int .i64 0),(.int .i64 0),(.int .i64 0),(.int .i64 0),(.int .i64 0),(.pointer none),(.int .i64 0)] [(0,1,a0),(1,1,a1),(2,3,t),(5,10,u),(15,1,ag),(16,1,ac)]).map .agg) fun ah=>
 newK (Value.cells ah) 171 j fun ai aj=>
 R (.tuple #[ai,(.int .i64 0)]) aj)))))
theorem zp4 (H:zj8 a0 a1 a2 a3 h R):FCall prog zew #[a0,a1,a2,a3] h R:=fk f22 (.s .z (.s (.s .z (.s (.s .z .z) (.s .z (.s (.s .z .z) .z)))) (.s (.d (.op 0 .r (.op 1 .r (.op 2 .r (.op 3 .r (.op 4 .r (.op 5 .r (.op 7 .r (.op 8 .r (.op 9 .r (.op 10 .r (.op 14 .r (.op 15 .r (.op 16 .r (.op 6 .e (.op 11 .e (.op 12 .r (.op 13 .e (.op 17 .r (.op 18 .n (.op 19 .r (.op 20 .r .nil)))))))))))))))))))))) .z))) H
def zmn (a0:Value)(h:Heap)(R:Value→Heap→Prop):Prop:=
 vK (maxV (.int .i64 1) a0) fun a=>
 vK (minV a (.int .i64 4096)) fun b=>
 vK ((fillL #[(.int .i64 0),(.slice none 0 0),(.bool false)] [(0,1,b)]).map .agg) fun c=>
 newK (Value.cells c) 173 h fun d e=>
 R d e
theorem ok_queue_New (H:zmn a0 h R):FCall prog zhe #[a0] h R:=fk f23 (.s .z (.s .z .z)) H
def zmc (a0:Value)(h:Heap)(R:Value→Heap→Prop):Prop:=
 newK #[(.int .i64 0),(.slice none 0 0),(.bool false)] 75 h fun a b=>
 vK (binV .i .lss a0 (.int .i64 1)) fun g=>
 iteK g (
 vK (binV .i .gtr (.int .i64 1) (.int .i64 4096)) fun j=>
 iteK j (
 vK ((fillL #[(.int .i64 0),(.slice none 0 0),(.bool false)] [(0,1,(.int .i64 4096))]).map .agg) fun k=>
 stK 3 a k b fun t c=>
 vK (ldsV 3 c a) fun l=>
 R l c) (
 vK ((fillL #[(.int .i64 0),(.slice none 0 0),(.bool false)] [(0,1,(.int .i64 1))]).map .agg) fun m=>
 stK 3 a m b fun u d=>
 vK (ldsV 3 d a) fun n=>
 R n d)) (
 vK (binV .i .gtr a0 (.int .i64 4096)) fun o=>
 iteK o (
 vK ((fillL #[(.int .i64 0),(.slice none 0 0),(.bool false)] [(0,1,(.int .i64 4096))]).map .agg) fun p=>
 stK 3 a p b fun v e=>
 vK (ldsV 3 e a) fun q=>
 R q e) (
 vK ((fillL #[(.int .i64 0),(.slice none 0 0),(.bool false)] [(0,1,a0)]).map .agg) fun r=>
 stK 3 a r b fun w f=>
 vK (ldsV 3 f a) fun s=>
 R s f))
theorem ok_ref18_New (H:zmc a0 h R):FCall prog zjR #[a0] h R:=fk f24 (.s .z (.s (.s .z (.s .z .z)) (.s (.s .z (.s .z .z)) (.s .z .z)))) H
def zj7 (h:Heap)(R:Value→Heap→Prop):Prop:=
 vK ((fillL #[(.int .i64 0),(.slice none 0 0),(.pointer none),(.int .i64 0)] []).map .agg) fun a=>
 newK (Value.cells a) 175 h fun b c=>
 R b c
theorem zp3 (H:zj7 h R):FCall prog zev #[] h R:=fk f25 (.s .z (.s .z .z)) H
def zke (a0 a1:Value)(h:Heap)(R:Value→Heap→Prop):Prop:=
 newK (Value.cells a0) 75 h fun a k=>
 newK #[(.int .i64 0),(.slice none 0 0),(.bool false)] 75 k fun c b=>
 vK (fldV 2 a) fun l=>
 vK (ldV b l) fun m=>
 iteK m (
 vK (ldsV 3 b a) fun n=>
 stK 3 c n b fun aj d=>
 vK (ldsV 3 d c) fun o=>
 R (.tuple #[o,(.int .i64 2)]) d) (
 vK (fldV 1 a) fun p=>
 vK (ldV b p) fun q=>
 vK (zae q) fun r=>
 vK (fldV 0 a) fun s=>
 vK (ldV b s) fun t=>
 vK (binV .i .geq r t) fun u=>
 iteK u (
 vK (ldsV 3 b a) fun v=>
 stK 3 c v b fun ak e=>
 vK (ldsV 3 e c) fun w=>
 R (.tuple #[w,(.int .i64 1)]) e) (
 rowK #[] 3 0 [] b fun x f=>
 vK (fldV 1 a) fun y=>
 vK (ldV f y) fun z=>
 appK (.int .i64 0) 3 1 8 x z f fun aa ab=>
 rowK #[(.int .i64 0)] 3 1 [(0,1,a1)] ab fun ac ad=>
 appK (.int .i64 0) 3 1 8 aa ac ad fun ae af=>
 vK (fldV 1 a) fun ag=>
 stK 1 ag ae af fun al g=>
 vK (ldsV 3 g a) fun ah=>
 stK 3 c ah g fun am j=>
 vK (ldsV 3 j c) fun ai=>
 R (.tuple #[ai,(.int .i64 0)]) j))
theorem zqa (H:zke a0 a1 h R):FCall prog zge #[a0,a1] h R:=fk f26 (.s .z (.s (.s .z (.s (.s .z .z) .z)) (.s (.s .z (.s (.s .z .z) .z)) (.s .z (.s .z .z))))) H
end
section
variable {a0 a1 a2 a3 a4 a5 a6:Value}{h:Heap}{R:Value→Heap→Prop}
def zfo (a0 a1:Value)(h:Heap)(R:Value→Heap→Prop):Prop:=
 vK (nilV a0) fun b=>
 vK (fldV 2 b) fun c=>
 vK (ldV h c) fun d=>
 iteK d (
 R (.int .i64 2) h) (
 FCall prog zcI #[a0] h fun e a=>
 vK (unV .not e) fun f=>
 iteK f (
 R (.int .i64 1) a) (
 vK (nilV a0) fun g=>
 vK (fldV 1 g) fun i=>
 vK (ldV a i) fun j=>
 rowK #[(.int .i64 0)] 3 1 [(0,1,a1)] a fun k l=>
 appK (.int .i64 0) 3 1 8 j k l fun m n=>
 vK (nilV a0) fun o=>
 vK (fldV 1 o) fun p=>
 stK 1 p m n fun r q=>
 R (.int .i64 0) q))
theorem zjI (H:zfo a0 a1 h R):FCall prog zbU #[a0,a1] h R:=fk f27 (.s .z (.s (.s .z (.s (.s .z .z) (.s .z (.s (.s .z .z) .z)))) (.s .z (.s .z .z)))) H
def zeO (a0:Value)(h:Heap)(R:Value→Heap→Prop):Prop:=
 vK (nilV a0) fun a=>
 vK (fldV 2 a) fun b=>
 vK (ldV h b) fun c=>
 vK (nilV a0) fun d=>
 vK (fldV 2 d) fun e=>
 stK 1 e (.bool true) h fun i f=>
 vK (unV .not c) fun g=>
 R g f
theorem ziY (H:zeO a0 h R):FCall prog zbd #[a0] h R:=fk f28 (.s .z (.s .z (.s .z (.s .z .z)))) H
def zkd (a0 a1 a2:Value)(h:Heap)(R:Value→Heap→Prop):Prop:=
 newK (Value.cells a0) 81 h fun b am=>
 newK (Value.cells a1) 75 am fun l an=>
 newK #[(.int .i64 0),(.slice none 0 0),(.slice none 0 0)] 81 an fun c ao=>
 newK #[(.int .i64 0),(.slice none 0 0),(.bool false)] 75 ao fun d ap=>
 newK #[(.int .i64 0),(.int .i64 0),(.int .i64 0),(.int .i64 0)] 90 ap fun e a=>
 vK (fldV 0 b) fun aq=>
 vK (ldV a aq) fun ar=>
 vK (binV .i .eql ar (.int .i64 2)) fun au=>
 iteK au (
 drawK a fun S=>
 qK S (fun a=>ldsV 3 a b) fun av=>
 qK S (fun a=>ldsV 3 a l) fun aw=>
 vK ((fillL #[(.int .i64 0),(.int .i64 0),(.int .i64 0),(.int .i64 0)] []).map .agg) fun ax=>
 stK 3 c av a fun dl x=>
 S x∧(stK 3 d aw x fun dm ay=>
 stK 4 e ax ay fun dn o=>
 vK (ldsV 3 o c) fun az=>
 vK (ldsV 3 o d) fun a3=>
 vK (ldsV 4 o e) fun a4=>
 R (.tuple #[az,a3,a4]) o)) (
 vK (fldV 0 b) fun a5=>
 vK (ldV a a5) fun a6=>
 vK (binV .i .eql a6 (.int .i64 1)) fun a7=>
 iteK a7 (
 drawK a fun S=>
 vK (fldV 1 b) fun a8=>
 qK S (fun a=>ldV a a8) fun a9=>
 vK (fldV 1 b) fun ba=>
 qK S (fun a=>ldV a ba) fun bb=>
 qK S (fun a=>zae bb) fun bc=>
 vK (binV .i .sub bc (.int .i64 1)) fun bd=>
 vK (idxV 1 a9 bd) fun be=>
 qK S (fun a=>ldV a be) fun bf=>
 vK (fldV 2 b) fun bg=>
 qK S (fun a=>ldV a bg) fun bh=>
 vK (idxV 2 bh (.int .i64 0)) fun bi=>
 qK S (fun a=>ldsV 2 a bi) fun bj=>
 vK ((fillL #[(.int .i64 0),(.int .i64 0),(.int .i64 0),(.int .i64 0)] [(0,1,(.int .i64 2)),(1,1,bf),(2,2,bj)]).map .agg) fun bk=>
 newK #[(.int .i64 0),(.int .i64 0),(.int .i64 0),(.int .i64 0)] 90 a fun y z=>
 S z∧(stK 4 y bk z fun dp aa=>
 vK (fldV 2 b) fun bl=>
 vK (ldV aa bl) fun bm=>
 vK (slcV 2 bm (some (.int .i64 1)) none) fun bn=>
 vK (fldV 2 b) fun bo=>
 stK 1 bo bn aa fun dq t=>
 joinK (fun ab=>
 vK (fldV 2 b) fun bp=>
 vK (ldV t bp) fun bq=>
 vK (zae bq) fun br=>
 vK (binV .i .eql br (.int .i64 0)) fun bs=>
 iteK bs (
 vK (fldV 0 b) fun bt=>
 stK 1 bt (.int .i64 0) t fun dr bu=>
 ab [] bu) (
 ab [] t))
 fun ds dt f=>
 drawK f fun S=>
 qK S (fun f=>ldsV 3 f b) fun bv=>
 qK S (fun f=>ldsV 3 f l) fun bw=>
 qK S (fun f=>ldsV 4 f y) fun bx=>
 stK 3 c bv f fun du ac=>
 S ac∧(stK 3 d bw ac fun dv ad=>
 S ad∧(stK 4 e bx ad fun dw p=>
 vK (ldsV 3 p c) fun bz=>
 vK (ldsV 3 p d) fun b0=>
 vK (ldsV 4 p e) fun b1=>
 R (.tuple #[bz,b0,b1]) p)))) (
 vK (ldsV 3 a l) fun b2=>
 FCall prog zfH #[b2] a fun u b3=>
 vK (extV u 0) fun b4=>
 vK (extV u 1) fun m=>
 vK (extV u 2) fun ae=>
 newK #[(.int .i64 0),(.slice none 0 0),(.bool false)] 75 b3 fun af b5=>
 stK 3 af b4 b5 fun dx g=>
 vK (binV .i .eql ae (.int .i64 1)) fun b6=>
 iteK b6 (
 drawK g fun S=>
 qK S (fun g=>ldsV 3 g b) fun b7=>
 qK S (fun g=>ldsV 3 g l) fun b8=>
 vK ((fillL #[(.int .i64 0),(.int .i64 0),(.int .i64 0),(.int .i64 0)] []).map .agg) fun b9=>
 stK 3 c b7 g fun dy ag=>
 S ag∧(stK 3 d b8 ag fun dz ca=>
 stK 4 e b9 ca fun d0 q=>
 vK (ldsV 3 q c) fun cb=>
 vK (ldsV 3 q d) fun cc=>
 vK (ldsV 4 q e) fun cd=>
 R (.tuple #[cb,cc,cd]) q)) (
 vK (binV .i .eql ae (.int .i64 2)) fun ce=>
 iteK ce (
 vK (fldV 0 b) fun cf=>
 stK 1 cf (.int .i64 2) g fun d1 j=>
 drawK j fun S=>
 qK S (fun j=>ldsV 3 j b) fun cg=>
 qK S (fun j=>ldsV 3 j l) fun ch=>
 vK ((fillL #[(.int .i64 0),(.int .i64 0),(.int .i64 0),(.int .i64 0)] [(0,1,(.int .i64 3))]).map .agg) fun ci=>
 stK 3 c cg j fun d2 ah=>
 S ah∧(stK 3 d ch ah fun d3 cj=>
 stK 4 e ci cj fun d4 r=>
 vK (ldsV 3 r c) fun ck=>
 vK (ldsV 3 r d) fun cl=>
 vK (ldsV 4 r e) fun cm=>
 R (.tuple #[ck,cl,cm]) r)) (
 rowK #[] 3 0 [] g fun cn ai=>
 vK (fldV 1 b) fun co=>
 vK (ldV ai co) fun cp=>
 appK (.int .i64 0) 3 1 8 cn cp ai fun cq cr=>
 rowK #[(.int .i64 0)] 3 1 [(0,1,m)] cr fun cs ct=>
 appK (.int .i64 0) 3 1 8 cq cs ct fun cu cv=>
 vK (fldV 1 b) fun cw=>
 stK 1 cw cu cv fun d5 cx=>
 vK (fldV 2 b) fun cy=>
 stK 1 cy (.slice none 0 0) cx fun d6 v=>
 joinK (fun aj=>
 vK (binV .i .geq m (.int .i64 0)) fun n=>
 vK (gV n true (some m)) fun cz=>
 vK (gV n true (some a2)) fun c0=>
 vK (gV n true (zae c0)) fun c1=>
 vK (gV n true (binV .i .lss cz c1)) fun c2=>
 vK (pickV n c2 (.bool false)) fun c3=>
 iteK c3 (
 vK (idxV 1 a2 m) fun c4=>
 vK (ldV v c4) fun c5=>
 vK (fldV 2 b) fun c6=>
 stK 1 c6 c5 v fun d7 c7=>
 aj [] c7) (
 aj [] v))
 fun d8 d9 w=>
 joinK (fun ak=>
 vK (fldV 2 b) fun c8=>
 vK (ldV w c8) fun c9=>
 vK (zae c9) fun da=>
 vK (binV .i .gtr da (.int .i64 0)) fun db=>
 iteK db (
 vK (fldV 0 b) fun dc=>
 stK 1 dc (.int .i64 1) w fun ea dd=>
 ak [] dd) (
 ak [] w))
 fun eb ec k=>
 drawK k fun S=>
 qK S (fun k=>ldsV 3 k b) fun de=>
 qK S (fun k=>ldsV 3 k af) fun df=>
 vK ((fillL #[(.int .i64 0),(.int .i64 0),(.int .i64 0),(.int .i64 0)] [(0,1,(.int .i64 1)),(1,1,m)]).map .agg) fun dg=>
 stK 3 c de k fun ed al=>
 S al∧(stK 3 d df al fun ee dh=>
 stK 4 e dg dh fun ef s=>
 vK (ldsV 3 s c) fun di=>
 vK (ldsV 3 s d) fun dj=>
 vK (ldsV 4 s e) fun dk=>
 R (.tuple #[di,dj,dk]) s)))))
theorem zp9 (H:zkd a0 a1 a2 h R):FCall prog zam #[a0,a1,a2] h R:=fk f29 (.s .z (.s (.s .z (.s (.s (.d (.op 0 .r (.op 1 .r (.op 2 .r (.op 3 .e (.op 4 .n (.op 5 .n .nil))))))) .z) .z)) (.s (.s .z (.s (.s (.d (.op 0 .r (.op 1 .r (.op 2 .r (.op 3 .r (.op 4 .r (.op 5 .r (.op 6 .r (.op 7 .r (.op 8 .r (.op 9 .r (.op 10 .r (.op 11 .r (.op 12 .r (.op 13 .e (.op 14 .n .nil)))))))))))))))) (.s .z (.j 17042430230528 [] (.s .z (.s .z .z)) (.s (.d (.op 0 .r (.op 1 .r (.op 2 .r (.op 3 .e (.op 4 .e (.op 5 .n .nil))))))) .z)))) .z)) (.s .z (.s (.s .z (.s (.s (.d (.op 0 .r (.op 1 .r (.op 2 .r (.op 3 .e (.op 4 .n (.op 5 .n .nil))))))) .z) .z)) (.s (.s .z (.s (.s .z (.s (.d (.op 0 .r (.op 1 .r (.op 2 .r (.op 3 .e (.op 4 .n (.op 5 .n .nil))))))) .z)) .z)) (.s .z (.s .z (.j 77361807722370527890767872 [] (.s .z (.s .z .z)) (.j 2398508826115424282617053184 [] (.s .z (.s .z .z)) (.s (.d (.op 0 .r (.op 1 .r (.op 2 .r (.op 3 .r (.op 4 .e (.op 5 .n (.op 6 .n .nil)))))))) .z))))))))))) H
def zc1 (a0 a1:Value)(h:Heap)(R:Value→Heap→Prop):Prop:=
 vK (nilV a0) fun b=>
 vK (fldV 0 b) fun c=>
 vK (ldV h c) fun a=>
 vK (binV .i .eql a (.int .i64 0)) fun d=>
 iteK d (
 FCall prog zcb #[a1] h fun e f=>
 R e f) (
 vK (binV .i .eql a (.int .i64 1)) fun g=>
 iteK g (
 R (.bool true) h) (
 R (.bool false) h))
theorem zgm (H:zc1 a0 a1 h R):FCall prog zaG #[a0,a1] h R:=fk f30 (.s .z (.s (.s .z (.s .z (.s (.s .z .z) (.s .z (.s (.s .z .z) .z))))) (.s .z .z))) H
def zem (a0 a1 a2:Value)(h:Heap)(R:Value→Heap→Prop):Prop:=
 newK #[(.int .i64 0),(.int .i64 0),(.int .i64 0),(.int .i64 0)] 99 h fun b c=>
 vK (nilV a0) fun p=>
 vK (fldV 0 p) fun q=>
 vK (ldV c q) fun e=>
 vK (binV .i .eql e (.int .i64 1)) fun r=>
 iteK r (
 vK (nilV a0) fun s=>
 vK (fldV 2 s) fun t=>
 vK (ldV c t) fun u=>
 FCall prog zby #[u] c fun v w=>
 newK #[(.int .i64 0),(.int .i64 0)] 97 w fun f x=>
 stK 2 f v x fun a7 y=>
 FCall prog zaT #[a0] y fun a8 a=>
 drawK a fun S=>
 vK (nilV a0) fun z=>
 vK (fldV 1 z) fun aa=>
 qK S (fun a=>ldV a aa) fun ab=>
 vK (nilV a0) fun ac=>
 vK (fldV 1 ac) fun ad=>
 qK S (fun a=>ldV a ad) fun ae=>
 qK S (fun a=>zae ae) fun af=>
 vK (binV .i .sub af (.int .i64 1)) fun ag=>
 vK (idxV 1 ab ag) fun ah=>
 qK S (fun a=>ldV a ah) fun ai=>
 qK S (fun a=>ldsV 2 a f) fun aj=>
 vK ((fillL #[(.int .i64 0),(.int .i64 0),(.int .i64 0),(.int .i64 0)] [(0,1,(.int .i64 2)),(1,1,ai),(2,2,aj)]).map .agg) fun ak=>
 stK 4 b ak a fun a9 g=>
 vK (ldsV 4 g b) fun al=>
 R al g) (
 vK (binV .i .eql e (.int .i64 2)) fun am=>
 iteK am (
 vK ((fillL #[(.int .i64 0),(.int .i64 0),(.int .i64 0),(.int .i64 0)] []).map .agg) fun an=>
 stK 4 b an c fun ba j=>
 vK (ldsV 4 j b) fun ao=>
 R ao j) (
 FCall prog zcH #[a1] c fun k d=>
 vK (extV k 0) fun ap=>
 vK (extV k 1) fun l=>
 vK (binV .i .eql l (.int .i64 0)) fun aq=>
 iteK aq (
 FCall prog zcY #[a0,ap,a2] d fun ar au=>
 stK 4 b ar au fun bb m=>
 vK (ldsV 4 m b) fun av=>
 R av m) (
 vK (binV .i .eql l (.int .i64 2)) fun aw=>
 iteK aw (
 vK (nilV a0) fun ax=>
 vK (fldV 0 ax) fun ay=>
 stK 1 ay (.int .i64 2) d fun bc az=>
 vK ((fillL #[(.int .i64 0),(.int .i64 0),(.int .i64 0),(.int .i64 0)] [(0,1,(.int .i64 3))]).map .agg) fun a3=>
 stK 4 b a3 az fun bd n=>
 vK (ldsV 4 n b) fun a4=>
 R a4 n) (
 vK ((fillL #[(.int .i64 0),(.int .i64 0),(.int .i64 0),(.int .i64 0)] []).map .agg) fun a5=>
 stK 4 b a5 d fun be o=>
 vK (ldsV 4 o b) fun a6=>
 R a6 o))))
theorem zh9 (H:zem a0 a1 a2 h R):FCall prog zaF #[a0,a1,a2] h R:=fk f31 (.s .z (.s (.s .z (.s .z (.s (.s .z (.s .z (.s (.d (.op 0 .r (.op 1 .r (.op 2 .r (.op 3 .r (.op 4 .r (.op 5 .r (.op 6 .r (.op 7 .r (.op 8 .r (.op 9 .r (.op 10 .r (.op 11 .r (.op 12 .r (.op 13 .r (.op 14 .n .nil)))))))))))))))) .z))) (.s .z (.s (.s .z .z) .z))))) (.s .z (.s (.s .z (.s .z (.s (.s .z .z) (.s .z (.s (.s .z (.s .z .z)) .z))))) (.s .z .z))))) H
def zdL (a0:Value)(h:Heap)(R:Value→Heap→Prop):Prop:=
 vK (nilV a0) fun a=>
 vK (fldV 1 a) fun b=>
 vK (ldV h b) fun c=>
 FCall prog zbX #[c] h fun d e=>
 R d e
theorem zhD (H:zdL a0 h R):FCall prog zbi #[a0] h R:=fk f32 (.s .z (.s .z .z)) H
def zdM (a0:Value)(h:Heap)(R:Value→Heap→Prop):Prop:=
 vK (nilV a0) fun a=>
 vK (fldV 0 a) fun b=>
 vK (ldV h b) fun c=>
 R c h
theorem zhE (H:zdM a0 h R):FCall prog za1 #[a0] h R:=fk f33 (.s .z (.s .z .z)) H
def zeo (a0:Value)(h:Heap)(R:Value→Heap→Prop):Prop:=
 vK (nilV a0) fun a=>
 vK (fldV 0 a) fun b=>
 vK (ldV h b) fun c=>
 R c h
theorem zib (H:zeo a0 h R):FCall prog zaC #[a0] h R:=fk f59 (.s .z (.s .z .z)) H
def zdN (a0:Value)(h:Heap)(R:Value→Heap→Prop):Prop:=
 vK (nilV a0) fun a=>
 vK (fldV 1 a) fun b=>
 vK (ldV h b) fun c=>
 R c h
theorem zhF (H:zdN a0 h R):FCall prog zaz #[a0] h R:=fk f60 (.s .z (.s .z .z)) H
def zji (h:Heap)(R:Value→Heap→Prop):Prop:=
 FCall prog zaB #[(.int .i64 3),(.int .i64 1),(.int .i64 1),(.int .i64 255)] h fun l w=>
 vK (extV l 0) fun x=>
 vK (extV l 1) fun y=>
 vK ((fillL #[(.int .i64 0),(.int .i64 0),(.int .i64 0),(.int .i64 0),(.slice none 0 0),(.slice none 0 0),(.int .i64 0),(.int .i64 0),(.int .i64 0)] [(0,1,(.int .i64 1)),(3,1,(.int .i64 1))]).map .agg) fun z=>
 FCall prog zfK #[z,(.int .i64 3),(.int .i64 1)] w fun m aa=>
 vK (extV m 0) fun ab=>
 vK (extV m 1) fun ac=>
 newK #[(.pointer none),(.pointer none),(.int .i64 0)] 46 aa fun n ad=>
 stK 3 n ab ad fun bh ae=>
 FCall prog zaB #[(.int .i64 3),(.int .i64 1),(.int .i64 1),(.int .i64 255)] ae fun o af=>
 vK (extV o 0) fun ag=>
 vK (extV o 1) fun ah=>
 FCall prog zhi #[] af fun ai q=>
 vK (unV .not ai) fun c=>
 gK c false (fun aj=>FCall prog zhh #[] q aj) q fun ak d=>
 vK (gV c false (unV .not ak)) fun al=>
 vK (pickV c (.bool true) al) fun e=>
 vK (gV e false (some y)) fun am=>
 vK (gV e false (binV .i .neq am (.int .i64 0))) fun an=>
 vK (pickV e (.bool true) an) fun f=>
 vK (gV f false (some ac)) fun ao=>
 vK (gV f false (binV .i .neq ao (.int .i64 0))) fun ap=>
 vK (pickV f (.bool true) ap) fun g=>
 vK (gV g false (some ah)) fun aq=>
 vK (gV g false (binV .i .neq aq (.int .i64 0))) fun ar=>
 vK (pickV g (.bool true) ar) fun au=>
 iteK au (
 R (.bool false) d) (
 vK (ldsV 3 d n) fun av=>
 vK ((fillL #[(.int .i64 0),(.int .i64 0),(.int .i64 0),(.int .i64 0)] [(2,1,(.int .i64 3)),(3,1,(.int .i64 1))]).map .agg) fun aw=>
 vK ((fillL #[(.int .i64 0),(.int .i64 0),(.int .i64 0),(.int .i64 0),(.int .i64 0),(.int .i64 0),(.int .i64 0),(.int .i64 0),(.int .i64 0),(.int .i64 0)] [(1,4,aw)]).map .agg) fun ax=>
 FCall prog zew #[x,ag,av,ax] d fun r s=>
 vK (extV r 0) fun b=>
 vK (extV r 1) fun ay=>
 vK (binV .i .neq ay (.int .i64 0)) fun j=>
 vK (gV j false (some b)) fun az=>
 vK (gV j false (binV .p .eql az (.pointer none))) fun a0=>
 vK (pickV j (.bool true) a0) fun a1=>
 iteK a1 (
 R (.bool false) s) (
 loopK [(.int .i64 (-1))] s fun k bi t a2=>
 vK (binV .i .lss (ix k 0) (.int .i64 2)) fun a3=>
 iteK a3 (
 FCall prog zby #[b] t fun a4 u=>
 vK ((fillL #[(.int .i64 0),(.int .i64 0)] [(0,1,(.int .i64 1)),(1,1,(ix k 0))]).map .agg) fun a5=>
 vK (binV (.st [(0,1,.i),(1,1,.i)]) .neq a4 a5) fun a6=>
 iteK a6 (
 R (.bool false) u) (
 vK (binV .i .add (ix k 0) (.int .i64 1)) fun a7=>
 a2 [a7] u)) (
 FCall prog zby #[b] t fun a8 v=>
 vK ((fillL #[(.int .i64 0),(.int .i64 0)] [(0,1,(.int .i64 2))]).map .agg) fun a9=>
 vK (binV (.st [(0,1,.i),(1,1,.i)]) .eql a8 a9) fun a=>
 vK (gV a true (some b)) fun ba=>
 gK a true (fun bb=>FCall prog zby #[ba] v bb) v fun bc bd=>
 vK (gV a true ((fillL #[(.int .i64 0),(.int .i64 0)] []).map .agg)) fun be=>
 vK (gV a true (binV (.st [(0,1,.i),(1,1,.i)]) .eql bc be)) fun bf=>
 vK (pickV a bf (.bool false)) fun bg=>
 R bg bd)))
theorem zoG (H:zji h R):FCall prog zhg #[] h R:=fk f62 (.s .z (.s .z (.s .z (.s .z (.s (.s .z (.s (.s .z .z) .z)) (.s .z (.s (.s .z (.s (.s .z .z) .z)) (.s (.s .z (.l 36821430553381175809 [9] (.s (.s .z (.s .z .z)) (.s (.s .z (.s (.s .z .z) .z)) .z)))) (.s .z .z))))))))) H
def zkB (a0 a1 a2 a3 a4:Value)(h:Heap)(R:Value→Heap→Prop):Prop:=
 vK (binV .i .rem a0 (.int .u16 20)) fun n=>
 vK (cviV .i64 n) fun o=>
 vK (binV .i .add (.int .i64 1) o) fun d=>
 vK (binV .i .rem a1 (.int .u16 20)) fun p=>
 vK (cviV .i64 p) fun q=>
 vK (binV .i .add (.int .i64 1) q) fun e=>
 vK (binV .i .rem a2 (.int .u16 2)) fun r=>
 vK (cviV .i64 r) fun s=>
 vK (binV .i .mul (.int .i64 2) s) fun t=>
 vK (binV .i .add (.int .i64 1) t) fun f=>
 vK (cviV .i64 a3) fun u=>
 vK (binV .i .rem u (.int .i64 65535)) fun v=>
 vK (binV .i .add (.int .i64 1) v) fun g=>
 vK (binV .i .mul d e) fun w=>
 vK (binV .i .mul w f) fun j=>
 mkK (.int .u16 0) 22 1 2 j j h fun c x=>
 vK (zae c) fun y=>
 loopK [(.int .i64 0)] x fun b aw a k=>
 vK (binV .i .lss (ix b 0) y) fun z=>
 iteK z (
 vK (zae a4) fun aa=>
 vK (binV .i .gtr aa (.int .i64 0)) fun ab=>
 iteK ab (
 drawK a fun S=>
 qK S (fun a=>zae a4) fun ac=>
 vK (binV .i .rem (ix b 0) ac) fun ad=>
 vK (idxV 1 a4 ad) fun ae=>
 qK S (fun a=>ldV a ae) fun af=>
 vK (cviV .i64 af) fun ag=>
 qK S (fun a=>zae a4) fun ah=>
 vK (binV .i .quo (ix b 0) ah) fun ai=>
 vK (binV .i .add ag ai) fun aj=>
 vK (binV .i .add g (.int .i64 1)) fun ak=>
 vK (binV .i .rem aj ak) fun al=>
 vK (cviV .u16 al) fun am=>
 vK (idxV 1 c (ix b 0)) fun an=>
 stK 1 an am a fun ax ao=>
 vK (binV .i .add (ix b 0) (.int .i64 1)) fun ap=>
 k [ap] ao) (
 vK (binV .i .add (ix b 0) (.int .i64 1)) fun aq=>
 k [aq] a)) (
 FCall prog zhd #[d,e,f,g,c] a fun l m=>
 vK (extV l 0) fun ar=>
 vK (extV l 1) fun au=>
 vK (binV .i .neq au (.int .i64 0)) fun av=>
 iteK av (
 R (.pointer none) m) (
 R ar m))
theorem zqx (H:zkB a0 a1 a2 a3 a4 h R):FCall prog ziw #[a0,a1,a2,a3,a4] h R:=fk f63 (.s .z (.s .z (.s .z (.s .z (.s (.s .z (.l 2361183223842636627968 [44] (.s .z (.s (.s .z .z) (.s (.s .z (.s .z (.s (.d (.op 0 .r (.op 1 .r (.op 2 .r (.op 3 .r (.op 4 .r (.op 5 .r (.op 6 .r (.op 7 .r (.op 8 .r (.op 9 .r (.op 10 .r (.op 11 .r (.op 12 .r (.op 13 .r (.op 14 .r (.op 15 .r (.op 16 .r (.op 17 .r (.op 18 .r (.op 19 .r (.op 20 .n .nil)))))))))))))))))))))) .z))) .z))))) (.s .z (.s (.s .z (.s (.s .z .z) .z)) (.s .z .z)))))))) H
def zhZ (a0 a1:Value)(h:Heap)(R:Value→Heap→Prop):Prop:=
 vK (zae a0) fun p=>
 loopK [(.int .i64 0)] h fun n bc o q=>
 vK (binV .i .lss (ix n 0) p) fun r=>
 iteK r (
 vK (idxV 9 a0 (ix n 0)) fun s=>
 vK (ldsV 9 o s) fun t=>
 newK #[(.int .i64 0),(.int .i64 0),(.int .i64 0),(.int .i64 0),(.slice none 0 0),(.slice none 0 0),(.int .i64 0),(.int .i64 0),(.int .i64 0)] 31 o fun b u=>
 stK 9 b t u fun bd a=>
 vK (fldV 4 b) fun v=>
 vK (ldV a v) fun w=>
 vK (zae w) fun x=>
 vK (binV .i .gtr x (.int .i64 40)) fun g=>
 vK (gV g false (fldV 5 b)) fun y=>
 vK (gV g false (ldV a y)) fun z=>
 vK (gV g false (zae z)) fun aa=>
 vK (gV g false (binV .i .gtr aa (.int .i64 40))) fun ab=>
 vK (pickV g (.bool true) ab) fun e=>
 vK (gV e false (fldV 2 b)) fun ac=>
 vK (gV e false (ldV a ac)) fun ad=>
 vK (gV e false (binV .i .gtr ad (.int .i64 262144))) fun ae=>
 vK (gV e false (some ae)) fun j=>
 vK (gV j true (fldV 2 b)) fun af=>
 vK (gV j true (ldV a af)) fun ag=>
 vK (gV j true (binV .i .leq ag (.int .i64 4194304))) fun ah=>
 vK (gV e false (pickV j ah (.bool false))) fun ai=>
 vK (pickV e (.bool true) ai) fun f=>
 vK (gV f false (fldV 3 b)) fun aj=>
 vK (gV f false (ldV a aj)) fun ak=>
 vK (gV f false (binV .i .gtr ak (.int .i64 20))) fun al=>
 vK (gV f false (some al)) fun k=>
 vK (gV k true (fldV 3 b)) fun am=>
 vK (gV k true (ldV a am)) fun an=>
 vK (gV k true (binV .i .lss an (.int .i64 512))) fun ao=>
 vK (gV f false (pickV k ao (.bool false))) fun ap=>
 vK (pickV f (.bool true) ap) fun c=>
 vK (gV c false (fldV 7 b)) fun aq=>
 vK (gV c false (ldV a aq)) fun ar=>
 vK (gV c false (some a1)) fun au=>
 vK (gV c false (binV .i .gtr ar au)) fun av=>
 vK (gV c false (some av)) fun l=>
 vK (gV l true (fldV 7 b)) fun aw=>
 vK (gV l true (ldV a aw)) fun ax=>
 vK (gV l true (binV .i .leq ax (.int .i64 65536))) fun ay=>
 vK (gV c false (pickV l ay (.bool false))) fun az=>
 vK (pickV c (.bool true) az) fun d=>
 vK (gV d false (fldV 8 b)) fun a2=>
 vK (gV d false (ldV a a2)) fun a3=>
 vK (gV d false (some a1)) fun a4=>
 vK (gV d false (binV .i .gtr a3 a4)) fun a5=>
 vK (gV d false (some a5)) fun m=>
 vK (gV m true (fldV 8 b)) fun a6=>
 vK (gV m true (ldV a a6)) fun a7=>
 vK (gV m true (binV .i .leq a7 (.int .i64 65536))) fun a8=>
 vK (gV d false (pickV m a8 (.bool false))) fun a9=>
 vK (pickV d (.bool true) a9) fun ba=>
 iteK ba (
 R (.bool false) a) (
 vK (binV .i .add (ix n 0) (.int .i64 1)) fun bb=>
 q [bb] a)) (
 R (.bool true) o)
theorem znL (H:zhZ a0 a1 h R):FCall prog zgs #[a0,a1] h R:=fk f64 (.s .z (.s (.s .z (.l 73786976294838206032 [9] (.s .z (.s (.s .z .z) (.s (.s .z (.s .z (.s (.s .z .z) .z))) .z))))) (.s .z .z))) H
def sh_op_All (a0 a1 a2 a3:Value)(h:Heap)(R:Value→Heap→Prop):Prop:=
 vK (zae a0) fun p=>
 vK (binV .i .gtr p (.int .i64 16)) fun q=>
 iteK q (
 R (.tuple #[(.slice none 0 0),(.int .i64 6)]) h) (
 FCall prog zdH #[a1,a2,a3] h fun r f=>
 vK (unV .not r) fun s=>
 iteK s (
 R (.tuple #[(.slice none 0 0),(.int .i64 5)]) f) (
 vK (zae a0) fun t=>
 loopK [a1,a2,(.slice none 0 0),(.int .i64 0)] f fun a ao b u=>
 vK (binV .i .lss (ix a 3) t) fun v=>
 iteK v (
 vK (idxV 9 a0 (ix a 3)) fun w=>
 vK (ldsV 9 b w) fun x=>
 newK #[(.int .i64 0),(.int .i64 0),(.int .i64 0),(.int .i64 0),(.slice none 0 0),(.slice none 0 0),(.int .i64 0),(.int .i64 0),(.int .i64 0)] 31 b fun c y=>
 stK 9 c x y fun ap g=>
 vK (ldsV 9 g c) fun z=>
 FCall prog zfK #[z,(ix a 0),(ix a 1)] g fun j aa=>
 vK (extV j 0) fun ab=>
 vK (extV j 1) fun k=>
 newK #[(.pointer none),(.pointer none),(.int .i64 0)] 46 aa fun l ac=>
 stK 3 l ab ac fun aq d=>
 vK (binV .i .neq k (.int .i64 0)) fun ad=>
 iteK ad (
 R (.tuple #[(.slice none 0 0),k]) d) (
 vK (ldsV 9 d c) fun ae=>
 FCall prog zoo #[ae,(ix a 0),(ix a 1)] d fun m af=>
 vK (extV m 0) fun n=>
 vK (extV m 1) fun o=>
 FCall prog zdH #[n,o,a3] af fun ag e=>
 vK (unV .not ag) fun ah=>
 iteK ah (
 R (.tuple #[(.slice none 0 0),(.int .i64 5)]) e) (
 vK (ldsV 3 e l) fun ai=>
 rowK #[(.pointer none),(.pointer none),(.int .i64 0)] 46 1 [(0,3,ai)] e fun aj ak=>
 appK (.agg #[.pointer none,.pointer none,.int .i64 0]) 46 3 24 (ix a 2) aj ak fun al am=>
 vK (binV .i .add (ix a 3) (.int .i64 1)) fun an=>
 u [n,o,al,an] am))) (
 R (.tuple #[(ix a 2),(.int .i64 0)]) b)))
theorem ok_op_All (H:sh_op_All a0 a1 a2 a3 h R):FCall prog zrd #[a0,a1,a2,a3] h R:=fk f65 (.s .z (.s (.s .z (.s (.s .z .z) (.s .z (.s (.s .z .z) .z)))) (.s .z (.s (.s .z (.l 288230376017524486 [1,2,10,27] (.s .z (.s (.s .z .z) (.s (.s .z (.s .z (.s (.s .z (.s (.s .z .z) .z)) (.s (.s .z (.s .z (.s (.s .z .z) .z))) .z)))) .z))))) (.s .z .z))))) H
def zme (a0 a1 a2 a3:Value)(h:Heap)(R:Value→Heap→Prop):Prop:=
 vK (zae a0) fun p=>
 vK (binV .i .gtr p (.int .i64 16)) fun q=>
 iteK q (
 R (.tuple #[(.slice none 0 0),(.int .i64 6)]) h) (
 FCall prog zgf #[a1,a2,a3] h fun r f=>
 vK (unV .not r) fun s=>
 iteK s (
 R (.tuple #[(.slice none 0 0),(.int .i64 5)]) f) (
 vK (zae a0) fun t=>
 loopK [a1,a2,(.slice none 0 0),(.int .i64 0)] f fun a ao b u=>
 vK (binV .i .lss (ix a 3) t) fun v=>
 iteK v (
 vK (idxV 9 a0 (ix a 3)) fun w=>
 vK (ldsV 9 b w) fun x=>
 newK #[(.int .i64 0),(.int .i64 0),(.int .i64 0),(.int .i64 0),(.slice none 0 0),(.slice none 0 0),(.int .i64 0),(.int .i64 0),(.int .i64 0)] 230 b fun c y=>
 stK 9 c x y fun ap g=>
 vK (ldsV 9 g c) fun z=>
 FCall prog ziq #[z,(ix a 0),(ix a 1)] g fun j aa=>
 vK (extV j 0) fun ab=>
 vK (extV j 1) fun k=>
 newK #[(.slice none 0 0),(.slice none 0 0),(.int .i64 0),(.int .i64 0),(.int .i64 0)] 56 aa fun l ac=>
 stK 5 l ab ac fun aq d=>
 vK (binV .i .neq k (.int .i64 0)) fun ad=>
 iteK ad (
 R (.tuple #[(.slice none 0 0),k]) d) (
 vK (ldsV 9 d c) fun ae=>
 FCall prog zip #[ae,(ix a 0),(ix a 1)] d fun m af=>
 vK (extV m 0) fun n=>
 vK (extV m 1) fun o=>
 FCall prog zgf #[n,o,a3] af fun ag e=>
 vK (unV .not ag) fun ah=>
 iteK ah (
 R (.tuple #[(.slice none 0 0),(.int .i64 5)]) e) (
 vK (ldsV 5 e l) fun ai=>
 rowK #[(.slice none 0 0),(.slice none 0 0),(.int .i64 0),(.int .i64 0),(.int .i64 0)] 56 1 [(0,5,ai)] e fun aj ak=>
 appK (.agg #[.slice none 0 0,.slice none 0 0,.int .i64 0,.int .i64 0,.int .i64 0]) 56 5 72 (ix a 2) aj ak fun al am=>
 vK (binV .i .add (ix a 3) (.int .i64 1)) fun an=>
 u [n,o,al,an] am))) (
 R (.tuple #[(ix a 2),(.int .i64 0)]) b)))
theorem ok_ref12_All (H:zme a0 a1 a2 a3 h R):FCall prog zjT #[a0,a1,a2,a3] h R:=fk f66 (.s .z (.s (.s .z (.s (.s .z .z) .z)) (.s (.s .z (.s (.s .z .z) .z)) (.s .z (.s (.s .z (.l 72057594004403974 [1,2,10,25] (.s .z (.s (.s .z .z) (.s (.s .z (.s .z (.s (.s .z (.s (.s .z .z) .z)) (.s .z (.s (.s .z (.s (.s .z .z) .z)) .z))))) .z))))) (.s .z .z)))))) H
def zkA (a0:Value)(h:Heap)(R:Value→Heap→Prop):Prop:=
 vK (zae a0) fun e=>
 loopK [(.slice none 0 0),(.int .i64 0)] h fun a u b f=>
 vK (binV .i .lss (ix a 1) e) fun g=>
 iteK g (
 vK (idxV 9 a0 (ix a 1)) fun j=>
 vK (ldsV 9 b j) fun k=>
 newK #[(.int .i64 0),(.int .i64 0),(.int .i64 0),(.int .i64 0),(.slice none 0 0),(.slice none 0 0),(.int .i64 0),(.int .i64 0),(.int .i64 0)] 31 b fun c l=>
 stK 9 c k l fun v d=>
 vK (ldsV 9 d c) fun m=>
 FCall prog zj0 #[m] d fun n o=>
 rowK #[(.int .i64 0),(.int .i64 0),(.int .i64 0),(.int .i64 0),(.slice none 0 0),(.slice none 0 0),(.int .i64 0),(.int .i64 0),(.int .i64 0)] 230 1 [(0,9,n)] o fun p q=>
 appK (.agg #[.int .i64 0,.int .i64 0,.int .i64 0,.int .i64 0,.slice none 0 0,.slice none 0 0,.int .i64 0,.int .i64 0,.int .i64 0]) 230 9 104 (ix a 0) p q fun r s=>
 vK (binV .i .add (ix a 1) (.int .i64 1)) fun t=>
 f [r,t] s) (
 R (ix a 0) b)
theorem zqw (H:zkA a0 h R):FCall prog ziv #[a0] h R:=fk f67 (.s .z (.s .z (.s (.s .z (.l 261928 [3,8] (.s .z (.s (.s .z .z) (.s (.s .z .z) .z))))) (.s .z .z)))) H
def zjg (a0 a1 a2:Value)(h:Heap)(R:Value→Heap→Prop):Prop:=
 vK (binV .i .geq a0 (.int .i64 1)) fun c=>
 vK (gV c true (some a0)) fun g=>
 vK (gV c true (binV .i .leq g (.int .i64 65536))) fun j=>
 vK (pickV c j (.bool false)) fun d=>
 vK (gV d true (some a1)) fun k=>
 vK (gV d true (binV .i .geq k (.int .i64 1))) fun l=>
 vK (pickV d l (.bool false)) fun e=>
 vK (gV e true (some a1)) fun m=>
 vK (gV e true (binV .i .leq m (.int .i64 65536))) fun n=>
 vK (pickV e n (.bool false)) fun b=>
 vK (gV b true (some a2)) fun o=>
 vK (gV b true (binV .i .eql o (.int .i64 1))) fun p=>
 vK (gV b true (some p)) fun f=>
 vK (gV f false (some a2)) fun q=>
 vK (gV f false (binV .i .eql q (.int .i64 3))) fun r=>
 vK (gV b true (pickV f (.bool true) r)) fun s=>
 vK (pickV b s (.bool false)) fun a=>
 vK (gV a true (some a0)) fun t=>
 vK (gV a true (some a1)) fun u=>
 vK (gV a true (binV .i .mul t u)) fun v=>
 vK (gV a true (some a2)) fun w=>
 vK (gV a true (binV .i .mul v w)) fun x=>
 vK (gV a true (binV .i .leq x (.int .i64 268435456))) fun y=>
 vK (pickV a y (.bool false)) fun z=>
 R z h
theorem zoE (H:zjg a0 a1 a2 h R):FCall prog zdH #[a0,a1,a2] h R:=fk f68 (.s .z (.s .z .z)) H
def zmo (a0:Value)(h:Heap)(R:Value→Heap→Prop):Prop:=
 vK (binV .i .geq a0 (.int .i64 1)) fun a=>
 vK (gV a true (some a0)) fun b=>
 vK (gV a true (binV .i .leq b (.int .i64 4096))) fun c=>
 vK (pickV a c (.bool false)) fun d=>
 R d h
theorem ok_plan_side (H:zmo a0 h R):FCall prog zhf #[a0] h R:=fk f69 (.s .z (.s .z .z)) H
def zkf (a0:Value)(h:Heap)(R:Value→Heap→Prop):Prop:=
 vK (zae a0) fun f=>
 loopK [(.int .i64 0),(.int .i64 0)] h fun a v c e=>
 vK (binV .i .lss (ix a 1) f) fun g=>
 iteK g (
 vK (idxV 2 a0 (ix a 1)) fun j=>
 vK (ldsV 2 c j) fun k=>
 newK #[(.int .i64 0),(.slice none 0 0)] 161 c fun d l=>
 stK 2 d k l fun w b=>
 vK (fldV 1 d) fun m=>
 vK (ldV b m) fun n=>
 vK (zae n) fun o=>
 vK (binV .i .gtr o (ix a 0)) fun p=>
 iteK p (
 vK (fldV 1 d) fun q=>
 vK (ldV b q) fun r=>
 vK (zae r) fun s=>
 vK (binV .i .add (ix a 1) (.int .i64 1)) fun t=>
 e [s,t] b) (
 vK (binV .i .add (ix a 1) (.int .i64 1)) fun u=>
 e [(ix a 0),u] b)) (
 R (ix a 0) c)
theorem zqb (H:zkf a0 h R):FCall prog zio #[a0] h R:=fk f70 (.s .z (.s .z (.s (.s .z (.l 2096936 [3,8] (.s .z (.s (.s .z .z) (.s (.s .z (.s .z (.s .z .z))) .z))))) (.s .z .z)))) H
def zi7 (a0 a1 a2:Value)(h:Heap)(R:Value→Heap→Prop):Prop:=
 vK (zae a0) fun r=>
 loopK [(.int .i64 0),(.int .i64 0),(.bool false),(.int .i64 0)] h fun a aw j m=>
 vK (binV .i .lss (ix a 3) r) fun s=>
 iteK s (
 vK (idxV 2 a0 (ix a 3)) fun t=>
 vK (ldsV 2 j t) fun u=>
 newK #[(.int .i64 0),(.slice none 0 0)] 161 j fun k v=>
 stK 2 k u v fun ax l=>
 vK (binV .i .lss (ix a 3) a1) fun d=>
 vK (gV d false (some (ix a 3))) fun w=>
 vK (gV d false (some a2)) fun x=>
 vK (gV d false (binV .i .geq w x)) fun y=>
 vK (pickV d (.bool true) y) fun z=>
 iteK z (
 vK (binV .i .add (ix a 3) (.int .i64 1)) fun aa=>
 m [(ix a 0),(ix a 1),(ix a 2),aa] l) (
 vK (fldV 1 k) fun ab=>
 vK (ldV l ab) fun ac=>
 vK (zae ac) fun ad=>
 loopK [(ix a 0),(ix a 1),(ix a 2),(.int .i64 0)] l fun b ay e n=>
 vK (binV .i .lss (ix b 3) ad) fun ae=>
 iteK ae (
 vK (fldV 0 k) fun af=>
 vK (ldV e af) fun ag=>
 vK (binV .i .add ag (ix b 3)) fun f=>
 joinK (fun o=>
 vK (unV .not (ix b 2)) fun g=>
 vK (gV g false (some f)) fun ah=>
 vK (gV g false (some (ix b 0))) fun ai=>
 vK (gV g false (binV .i .lss ah ai)) fun aj=>
 vK (pickV g (.bool true) aj) fun ak=>
 iteK ak (
 o [f] e) (
 o [(ix b 0)] e))
 fun p az q=>
 vK (unV .not (ix b 2)) fun c=>
 vK (gV c false (some f)) fun al=>
 vK (gV c false (binV .i .add al (.int .i64 1))) fun am=>
 vK (gV c false (some (ix b 1))) fun an=>
 vK (gV c false (binV .i .gtr am an)) fun ao=>
 vK (pickV c (.bool true) ao) fun ap=>
 iteK ap (
 vK (binV .i .add f (.int .i64 1)) fun aq=>
 vK (binV .i .add (ix b 3) (.int .i64 1)) fun ar=>
 n [(ix p 0),aq,(.bool true),ar] q) (
 vK (binV .i .add (ix b 3) (.int .i64 1)) fun au=>
 n [(ix p 0),(ix b 1),(.bool true),au] q)) (
 vK (binV .i .add (ix a 3) (.int .i64 1)) fun av=>
 m [(ix b 0),(ix b 1),(ix b 2),av] e))) (
 R (.tuple #[(ix a 0),(ix a 1),(ix a 2)]) j)
theorem zov (H:zi7 a0 a1 a2 h R):FCall prog ze0 #[a0,a1,a2] h R:=fk f71 (.s .z (.s .z (.s .z (.s .z (.s (.s .z (.l 2305843009213496832 [9,10,11,18] (.s .z (.s (.s .z .z) (.s (.s .z (.s (.s .z (.s .z .z)) (.s .z (.l 1152921487427030528 [9,10,11,34] (.s .z (.s (.s .z .z) (.s (.s .z (.s .z (.j 560750930166272 [9] (.s .z (.s .z .z)) (.s (.s .z (.s .z .z)) .z)))) .z))))))) .z))))) (.s .z .z)))))) H
def znh (a0 a1:Value)(h:Heap)(R:Value→Heap→Prop):Prop:=
 vK (zae a0) fun c=>
 loopK [(.int .i64 0)] h fun b l a d=>
 vK (binV .i .lss (ix b 0) c) fun e=>
 iteK e (
 vK (idxV 1 a0 (ix b 0)) fun f=>
 vK (ldV a f) fun g=>
 vK (binV .i .eql g a1) fun j=>
 iteK j (
 R (.bool true) a) (
 vK (binV .i .add (ix b 0) (.int .i64 1)) fun k=>
 d [k] a)) (
 R (.bool false) a)
theorem ok_ref17_in (H:znh a0 a1 h R):FCall prog zl0 #[a0,a1] h R:=fk f72 (.s .z (.s (.s .z (.l 130640 [9] (.s .z (.s (.s .z .z) (.s (.s .z (.s .z (.s (.s .z .z) .z))) .z))))) (.s .z .z))) H
def zf0 (a0:Value)(h:Heap)(R:Value→Heap→Prop):Prop:=
 drawK h fun S=>
 vK (nilV a0) fun c=>
 vK (fldV 0 c) fun d=>
 vK (fldV 1 d) fun e=>
 qK S (fun h=>ldV h e) fun f=>
 vK (nilV a0) fun g=>
 vK (fldV 4 g) fun j=>
 qK S (fun h=>ldV h j) fun k=>
 FCall prog zbH #[a0] h fun l a=>
 S a∧(FCall prog zak #[f] a fun m b=>
 S b∧(FCall prog zgk #[m,k] b fun n o=>
 vK (binV .i .mul l n) fun p=>
 R p o))
theorem zk0 (H:zf0 a0 h R):FCall prog zcO #[a0] h R:=fk f73 (.s .z (.s (.d (.op 0 .r (.op 2 .r (.op 3 .r (.op 4 .r (.op 5 .r (.op 6 .r (.op 8 .r (.op 9 .r (.op 10 .r (.op 11 .r (.op 1 .e (.op 7 .e (.op 12 .n (.op 13 .r (.op 14 .r .nil)))))))))))))))) .z)) H
def zhy (a0 a1:Value)(h:Heap)(R:Value→Heap→Prop):Prop:=
 newK #[(.int .i64 0),(.int .i64 0),(.int .i64 0),(.int .i64 0)] 63 h fun e b=>
 drawK b fun S=>
 vK (nilV a0) fun l=>
 vK (fldV 3 l) fun m=>
 qK S (fun b=>ldV b m) fun n=>
 vK (nilV a0) fun o=>
 vK (fldV 4 o) fun p=>
 qK S (fun b=>ldV b p) fun q=>
 FCall prog zbH #[a0] b fun r f=>
 S f∧(vK (binV .i .rem a1 r) fun s=>
 vK (binV .i .mul s n) fun g=>
 FCall prog zbH #[a0] f fun t a=>
 S a∧(vK (binV .i .quo a1 t) fun u=>
 vK (binV .i .mul u q) fun j=>
 drawK a fun S=>
 vK (nilV a0) fun v=>
 vK (fldV 3 v) fun w=>
 qK S (fun a=>ldV a w) fun x=>
 vK (nilV a0) fun y=>
 vK (fldV 0 y) fun z=>
 vK (fldV 0 z) fun aa=>
 qK S (fun a=>ldV a aa) fun ab=>
 vK (nilV a0) fun ac=>
 vK (fldV 4 ac) fun ad=>
 qK S (fun a=>ldV a ad) fun ae=>
 vK (nilV a0) fun af=>
 vK (fldV 0 af) fun ag=>
 vK (fldV 1 ag) fun ah=>
 qK S (fun a=>ldV a ah) fun ai=>
 FCall prog zak #[ab] a fun aj c=>
 S c∧(vK (binV .i .sub aj g) fun ak=>
 qK S (fun c=>minV x ak) fun al=>
 FCall prog zak #[ai] c fun am d=>
 S d∧(vK (binV .i .sub am j) fun an=>
 qK S (fun d=>minV ae an) fun ao=>
 vK ((fillL #[(.int .i64 0),(.int .i64 0),(.int .i64 0),(.int .i64 0)] [(0,1,g),(1,1,j),(2,1,al),(3,1,ao)]).map .agg) fun ap=>
 stK 4 e ap d fun ar k=>
 vK (ldsV 4 k e) fun aq=>
 R aq k))))
theorem zmQ (H:zhy a0 a1 h R):FCall prog zdI #[a0,a1] h R:=fk f74 (.s .z (.s (.d (.op 0 .r (.op 1 .r (.op 4 .r (.op 5 .r (.op 6 .r (.op 7 .r (.op 9 .r (.op 10 .r (.op 13 .r (.op 14 .r (.op 15 .r (.op 16 .r (.op 2 .e (.op 3 .r (.op 8 .r (.op 11 .e (.op 12 .r (.op 17 .r (.op 18 .r (.op 19 .r .nil))))))))))))))))))))) (.s (.d (.op 0 .r (.op 1 .r (.op 2 .r (.op 3 .r (.op 4 .r (.op 5 .r (.op 6 .r (.op 7 .r (.op 8 .r (.op 9 .r (.op 10 .r (.op 12 .r (.op 15 .r (.op 16 .r (.op 17 .r (.op 18 .r (.op 19 .r (.op 20 .r (.op 21 .r (.op 22 .r (.op 23 .r (.op 25 .r (.op 11 .e (.op 13 .r (.op 14 .r (.op 24 .e (.op 26 .r (.op 27 .r (.op 28 .r (.op 29 .n .nil))))))))))))))))))))))))))))))) .z))) H
def zfk (a0:Value)(h:Heap)(R:Value→Heap→Prop):Prop:=
 vK (nilV a0) fun a=>
 vK (fldV 2 a) fun b=>
 vK (ldV h b) fun c=>
 R c h
theorem zjE (H:zfk a0 h R):FCall prog zbm #[a0] h R:=fk f75 (.s .z (.s .z .z)) H
def zeM (a0 a1 a2:Value)(h:Heap)(R:Value→Heap→Prop):Prop:=
 vK (maxV a1 (.int .i64 0)) fun d=>
 vK (nilV a0) fun k=>
 vK (fldV 1 k) fun l=>
 vK (ldV h l) fun m=>
 vK (zae m) fun n=>
 vK (minV a2 n) fun f=>
 vK (binV .i .geq d f) fun o=>
 iteK o (
 R (.tuple #[(.int .i64 0),(.int .i64 0)]) h) (
 vK (nilV a0) fun p=>
 vK (fldV 1 p) fun q=>
 vK (ldV h q) fun r=>
 vK (idxV 2 r d) fun s=>
 vK (fldV 0 s) fun t=>
 vK (ldV h t) fun g=>
 vK (nilV a0) fun u=>
 vK (fldV 1 u) fun v=>
 vK (ldV h v) fun w=>
 vK (slcV 2 w (some d) (some f)) fun j=>
 vK (zae j) fun x=>
 loopK [g,g,(.int .i64 0)] h fun a ap e y=>
 vK (binV .i .lss (ix a 2) x) fun z=>
 iteK z (
 vK (idxV 2 j (ix a 2)) fun aa=>
 vK (ldsV 2 e aa) fun ab=>
 newK #[(.int .i64 0),(.slice none 0 0)] 235 e fun b ac=>
 stK 2 b ab ac fun aq c=>
 vK (fldV 0 b) fun ad=>
 vK (ldV c ad) fun ae=>
 vK (minV (ix a 0) ae) fun af=>
 vK (fldV 0 b) fun ag=>
 vK (ldV c ag) fun ah=>
 vK (fldV 1 b) fun ai=>
 vK (ldV c ai) fun aj=>
 vK (zae aj) fun ak=>
 vK (binV .i .add ah ak) fun al=>
 vK (maxV (ix a 1) al) fun am=>
 vK (binV .i .add (ix a 2) (.int .i64 1)) fun an=>
 y [af,am,an] c) (
 vK (binV .i .sub (ix a 1) (ix a 0)) fun ao=>
 R (.tuple #[(ix a 0),ao]) e))
theorem ziW (H:zeM a0 a1 a2 h R):FCall prog zbF #[a0,a1,a2] h R:=fk f76 (.s .z (.s .z (.s (.s .z (.s (.s .z .z) .z)) (.s .z (.s .z (.s (.s .z (.l 144114088564229440 [6,8,40] (.s .z (.s (.s .z .z) (.s (.s .z (.s .z .z)) .z))))) (.s .z .z))))))) H
def zhO (a0 a1 a2:Value)(h:Heap)(R:Value→Heap→Prop):Prop:=
 newK (Value.cells a2) 46 h fun l a=>
 drawK a fun S=>
 vK (binV .p .neq a0 (.pointer none)) fun m=>
 vK (gV m true (some a1)) fun u=>
 vK (gV m true (binV .p .neq u (.pointer none))) fun v=>
 vK (pickV m v (.bool false)) fun j=>
 vK (gV j true (some a0)) fun w=>
 vK (gV j true (some a1)) fun x=>
 qK S (fun a=>gV j true (peV a .neq w x)) fun y=>
 vK (pickV j y (.bool false)) fun k=>
 vK (gV k true (some a0)) fun z=>
 qK S (fun a=>gV k true (ldsV 3 a l)) fun aa=>
 gK k true (fun ab=>FCall prog zc4 #[z,aa] a ab) a fun ac f=>
 drawK f fun S=>
 vK (pickV k ac (.bool false)) fun b=>
 vK (gV b true (some a1)) fun ad=>
 vK (gV b true (fldV 0 l)) fun ae=>
 qK S (fun f=>gV b true (ldV f ae)) fun af=>
 gK b true (fun ag=>FCall prog zaC #[ad] f ag) f fun ah n=>
 S n∧(gK b true (fun ai=>FCall prog zak #[af] n ai) n fun aj g=>
 drawK g fun S=>
 vK (gV b true (binV .i .eql ah aj)) fun ak=>
 vK (pickV b ak (.bool false)) fun c=>
 vK (gV c true (some a1)) fun al=>
 vK (gV c true (fldV 1 l)) fun am=>
 qK S (fun g=>gV c true (ldV g am)) fun an=>
 gK c true (fun ao=>FCall prog zaz #[al] g ao) g fun ap o=>
 S o∧(gK c true (fun aq=>FCall prog zak #[an] o aq) o fun ar q=>
 vK (gV c true (binV .i .eql ap ar)) fun au=>
 vK (pickV c au (.bool false)) fun d=>
 vK (gV d true (some a1)) fun av=>
 vK (gV d true (some a0)) fun aw=>
 gK d true (fun ax=>FCall prog zai #[av] q ax) q fun ay r=>
 gK d true (fun az=>FCall prog zai #[aw] r az) r fun a3 s=>
 vK (gV d true (binV .i .eql ay a3)) fun a4=>
 vK (pickV d a4 (.bool false)) fun e=>
 vK (gV e true (some a1)) fun a5=>
 vK (gV e true (some a0)) fun a6=>
 gK e true (fun a7=>FCall prog zaq #[a5] s a7) s fun a8 t=>
 gK e true (fun a9=>FCall prog zaq #[a6] t a9) t fun ba bb=>
 vK (gV e true (binV .i .eql a8 ba)) fun bc=>
 vK (pickV e bc (.bool false)) fun bd=>
 R bd bb))
theorem znA (H:zhO a0 a1 a2 h R):FCall prog zgp #[a0,a1,a2] h R:=fk f77 (.s .z (.s (.d (.op 0 .r (.op 1 .r (.op 2 .r (.op 3 .r (.op 4 .r (.op 5 .r (.op 6 .r (.op 7 .r (.op 8 .r (.op 9 .r (.op 10 .r (.op 11 .r (.op 12 .r (.op 13 .r (.op 14 .f (.op 15 .r (.op 16 .r (.op 17 .r (.op 19 .r (.op 20 .r (.op 18 .e (.op 21 .f (.op 22 .r (.op 23 .r (.op 24 .r (.op 25 .r (.op 27 .r (.op 28 .r (.op 26 .e (.op 29 .n (.op 30 .r (.op 31 .r (.op 32 .r (.op 33 .r (.op 35 .r (.op 34 .n (.op 36 .n (.op 37 .r (.op 38 .r (.op 39 .r (.op 40 .r (.op 42 .r (.op 41 .n (.op 43 .n (.op 44 .r (.op 45 .r (.op 46 .r .nil)))))))))))))))))))))))))))))))))))))))))))))))) .z)) H
def zho (a0 a1:Value)(h:Heap)(R:Value→Heap→Prop):Prop:=
 newK (Value.cells a0) 46 h fun l t=>
 newK (Value.cells a1) 63 t fun b a=>
 drawK a fun S=>
 vK (fldV 0 l) fun u=>
 qK S (fun a=>ldV a u) fun v=>
 vK (binV .p .neq v (.pointer none)) fun m=>
 vK (gV m true (fldV 1 l)) fun w=>
 qK S (fun a=>gV m true (ldV a w)) fun x=>
 vK (gV m true (binV .p .neq x (.pointer none))) fun y=>
 vK (pickV m y (.bool false)) fun n=>
 vK (gV n true (fldV 2 b)) fun z=>
 qK S (fun a=>gV n true (ldV a z)) fun aa=>
 vK (gV n true (binV .i .geq aa (.int .i64 1))) fun ab=>
 vK (pickV n ab (.bool false)) fun o=>
 vK (gV o true (fldV 3 b)) fun ac=>
 qK S (fun a=>gV o true (ldV a ac)) fun ad=>
 vK (gV o true (binV .i .geq ad (.int .i64 1))) fun ae=>
 vK (pickV o ae (.bool false)) fun q=>
 vK (gV q true (fldV 0 b)) fun af=>
 qK S (fun a=>gV q true (ldV a af)) fun ag=>
 vK (gV q true (binV .i .geq ag (.int .i64 0))) fun ah=>
 vK (pickV q ah (.bool false)) fun r=>
 vK (gV r true (fldV 1 b)) fun ai=>
 qK S (fun a=>gV r true (ldV a ai)) fun aj=>
 vK (gV r true (binV .i .geq aj (.int .i64 0))) fun ak=>
 vK (pickV r ak (.bool false)) fun g=>
 vK (gV g true (fldV 0 b)) fun al=>
 qK S (fun a=>gV g true (ldV a al)) fun am=>
 vK (gV g true (fldV 0 l)) fun an=>
 qK S (fun a=>gV g true (ldV a an)) fun ao=>
 gK g true (fun ap=>FCall prog zak #[ao] a ap) a fun aq j=>
 S j∧(vK (gV g true (binV .i .lss am aq)) fun ar=>
 vK (pickV g ar (.bool false)) fun k=>
 vK (gV k true (fldV 1 b)) fun au=>
 qK S (fun j=>gV k true (ldV j au)) fun av=>
 vK (gV k true (fldV 1 l)) fun aw=>
 qK S (fun j=>gV k true (ldV j aw)) fun ax=>
 gK k true (fun ay=>FCall prog zak #[ax] j ay) j fun az e=>
 S e∧(vK (gV k true (binV .i .lss av az)) fun a2=>
 vK (pickV k a2 (.bool false)) fun c=>
 vK (gV c true (fldV 2 b)) fun a3=>
 qK S (fun e=>gV c true (ldV e a3)) fun a4=>
 vK (gV c true (fldV 0 l)) fun a5=>
 qK S (fun e=>gV c true (ldV e a5)) fun a6=>
 vK (gV c true (fldV 0 b)) fun a7=>
 qK S (fun e=>gV c true (ldV e a7)) fun a8=>
 gK c true (fun a9=>FCall prog zak #[a6] e a9) e fun ba f=>
 S f∧(vK (gV c true (binV .i .sub ba a8)) fun bb=>
 vK (gV c true (binV .i .leq a4 bb)) fun bc=>
 vK (pickV c bc (.bool false)) fun d=>
 vK (gV d true (fldV 3 b)) fun bd=>
 qK S (fun f=>gV d true (ldV f bd)) fun be=>
 vK (gV d true (fldV 1 l)) fun bf=>
 qK S (fun f=>gV d true (ldV f bf)) fun bg=>
 vK (gV d true (fldV 1 b)) fun bh=>
 qK S (fun f=>gV d true (ldV f bh)) fun bi=>
 gK d true (fun bj=>FCall prog zak #[bg] f bj) f fun bk s=>
 S s∧(vK (gV d true (binV .i .sub bk bi)) fun bl=>
 vK (gV d true (binV .i .leq be bl)) fun bm=>
 vK (pickV d bm (.bool false)) fun bn=>
 R bn s))))
theorem zmG (H:zho a0 a1 h R):FCall prog zfB #[a0,a1] h R:=fk f78 (.s .z (.s (.d (.op 0 .r (.op 1 .r (.op 2 .r (.op 3 .r (.op 4 .r (.op 5 .r (.op 6 .r (.op 7 .r (.op 8 .r (.op 9 .r (.op 10 .r (.op 11 .r (.op 12 .r (.op 13 .r (.op 14 .r (.op 15 .r (.op 16 .r (.op 17 .r (.op 18 .r (.op 19 .r (.op 20 .r (.op 21 .r (.op 22 .r (.op 23 .r (.op 24 .r (.op 25 .r (.op 26 .r (.op 27 .r (.op 28 .r (.op 29 .r (.op 30 .r (.op 31 .r (.op 32 .r (.op 33 .e (.op 34 .r (.op 35 .r (.op 36 .r (.op 37 .r (.op 38 .r (.op 39 .r (.op 40 .r (.op 41 .e (.op 42 .r (.op 43 .r (.op 44 .r (.op 45 .r (.op 46 .r (.op 47 .r (.op 48 .r (.op 50 .r (.op 51 .r (.op 49 .e (.op 52 .r (.op 53 .r (.op 54 .r (.op 55 .r (.op 56 .r (.op 57 .r (.op 58 .r (.op 59 .r (.op 61 .r (.op 62 .r (.op 60 .e (.op 63 .r (.op 64 .r (.op 65 .r (.op 66 .r .nil)))))))))))))))))))))))))))))))))))))))))))))))))))))))))))))))))))) .z)) H
def zng (a0 a1:Value)(h:Heap)(R:Value→Heap→Prop):Prop:=
 vK (maxV (.int .i64 1) a0) fun a=>
 vK (minV a (.int .i64 65536)) fun b=>
 vK (maxV (.int .i64 0) a1) fun c=>
 vK (minV c (.int .i64 262144)) fun d=>
 newmK h fun e f=>
 vK ((fillL #[(.int .i64 0),(.int .i64 0),(.map none),(.slice none 0 0)] [(0,1,b),(1,1,d),(2,1,e)]).map .agg) fun g=>
 newK (Value.cells g) 239 f fun i j=>
 R i j
theorem ok_ring_New (H:zng a0 a1 h R):FCall prog zlZ #[a0,a1] h R:=fk f79 (.s .z (.s .z .z)) H
def zdP (a0:Value)(h:Heap)(R:Value→Heap→Prop):Prop:=
 vK (nilV a0) fun b=>
 vK (fldV 2 b) fun c=>
 vK (ldV h c) fun a=>
 vK (gV a false (some a0)) fun d=>
 vK (gV a false (nilV d)) fun e=>
 vK (gV a false (fldV 1 e)) fun f=>
 vK (gV a false (ldV h f)) fun g=>
 vK (gV a false (zae g)) fun j=>
 vK (gV a false (some a0)) fun k=>
 vK (gV a false (nilV k)) fun l=>
 vK (gV a false (fldV 0 l)) fun m=>
 vK (gV a false (ldV h m)) fun n=>
 vK (gV a false (binV .i .lss j n)) fun o=>
 vK (pickV a (.bool true) o) fun p=>
 R p h
theorem zhH (H:zdP a0 h R):FCall prog zcI #[a0] h R:=fk f80 (.s .z (.s .z .z)) H
def zhv (a0:Value)(h:Heap)(R:Value→Heap→Prop):Prop:=
 newK (Value.cells a0) 75 h fun b j=>
 newK #[(.int .i64 0),(.slice none 0 0),(.bool false)] 75 j fun c a=>
 vK (fldV 1 b) fun k=>
 vK (ldV a k) fun l=>
 vK (zae l) fun m=>
 vK (binV .i .eql m (.int .i64 0)) fun n=>
 iteK n (
 vK (fldV 2 b) fun o=>
 vK (ldV a o) fun p=>
 iteK p (
 vK (ldsV 3 a b) fun q=>
 stK 3 c q a fun ae d=>
 vK (ldsV 3 d c) fun r=>
 R (.tuple #[r,(.int .i64 0),(.int .i64 2)]) d) (
 vK (ldsV 3 a b) fun s=>
 stK 3 c s a fun af e=>
 vK (ldsV 3 e c) fun t=>
 R (.tuple #[t,(.int .i64 0),(.int .i64 1)]) e)) (
 vK (fldV 1 b) fun u=>
 vK (ldV a u) fun v=>
 vK (idxV 1 v (.int .i64 0)) fun w=>
 vK (ldV a w) fun x=>
 vK (fldV 1 b) fun y=>
 vK (ldV a y) fun z=>
 vK (slcV 1 z (some (.int .i64 1)) none) fun aa=>
 vK (fldV 1 b) fun ab=>
 stK 1 ab aa a fun ag f=>
 vK (ldsV 3 f b) fun ac=>
 stK 3 c ac f fun ah g=>
 vK (ldsV 3 g c) fun ad=>
 R (.tuple #[ad,x,(.int .i64 0)]) g)
theorem zmN (H:zhv a0 h R):FCall prog zfH #[a0] h R:=fk f81 (.s .z (.s (.s .z (.s (.s (.s .z (.s (.s .z .z) .z)) (.s .z .z)) .z)) (.s .z (.s .z (.s .z .z))))) H
def zc2 (a0:Value)(h:Heap)(R:Value→Heap→Prop):Prop:=
 vK (nilV a0) fun b=>
 vK (fldV 2 b) fun c=>
 vK (ldV h c) fun a=>
 vK (gV a false (some a0)) fun d=>
 vK (gV a false (nilV d)) fun e=>
 vK (gV a false (fldV 1 e)) fun f=>
 vK (gV a false (ldV h f)) fun g=>
 vK (gV a false (zae g)) fun j=>
 vK (gV a false (binV .i .gtr j (.int .i64 0))) fun k=>
 vK (pickV a (.bool true) k) fun l=>
 R l h
theorem zgn (H:zc2 a0 h R):FCall prog zcb #[a0] h R:=fk f82 (.s .z (.s .z .z)) H
def zfR (a0:Value)(h:Heap)(R:Value→Heap→Prop):Prop:=
 newK #[(.int .i64 0),(.int .i64 0)] 97 h fun a l=>
 FCall prog zb8 #[a0] l fun m n=>
 newK #[(.int .i64 0),(.int .i64 0)] 97 n fun b o=>
 stK 2 b m o fun aa c=>
 vK (fldV 0 b) fun p=>
 vK (ldV c p) fun d=>
 vK (binV .i .eql d (.int .i64 1)) fun q=>
 iteK q (
 vK (fldV 1 b) fun r=>
 vK (ldV c r) fun s=>
 FCall prog zdc #[a0,s] c fun ab e=>
 vK (ldsV 2 e b) fun t=>
 stK 2 a t e fun ac f=>
 vK (ldsV 2 f a) fun u=>
 R u f) (
 vK (binV .i .eql d (.int .i64 2)) fun v=>
 iteK v (
 FCall prog zdB #[a0] c fun ad g=>
 vK (ldsV 2 g b) fun w=>
 stK 2 a w g fun ae j=>
 vK (ldsV 2 j a) fun x=>
 R x j) (
 vK (ldsV 2 c b) fun y=>
 stK 2 a y c fun af k=>
 vK (ldsV 2 k a) fun z=>
 R z k))
theorem zkR (H:zfR a0 h R):FCall prog zby #[a0] h R:=fk f83 (.s .z (.s .z (.s (.s .z (.s .z (.s .z (.s .z (.s .z .z))))) (.s .z .z)))) H
def zds (a0:Value)(h:Heap)(R:Value→Heap→Prop):Prop:=
 vK (nilV a0) fun d=>
 vK (fldV 0 d) fun e=>
 stK 1 e (.int .i64 1) h fun aa b=>
 vK (nilV a0) fun f=>
 vK (fldV 2 f) fun g=>
 vK (ldV b g) fun j=>
 vK (binV .p .eql j (.pointer none)) fun a=>
 vK (gV a false (some a0)) fun k=>
 vK (gV a false (nilV k)) fun l=>
 vK (gV a false (fldV 2 l)) fun m=>
 vK (gV a false (ldV b m)) fun n=>
 gK a false (fun o=>FCall prog zb8 #[n] b o) b fun q c=>
 vK (gV a false (partV false 1 0 q)) fun r=>
 vK (gV a false (binV .i .eql r (.int .i64 0))) fun s=>
 vK (pickV a (.bool true) s) fun t=>
 iteK t (
 vK (nilV a0) fun u=>
 vK (fldV 0 u) fun v=>
 stK 1 v (.int .i64 0) c fun ab w=>
 vK (nilV a0) fun x=>
 vK (fldV 2 x) fun y=>
 stK 1 y (.pointer none) w fun ac z=>
 R (.tuple #[]) z) (
 R (.tuple #[]) c)
theorem zgU (H:zds a0 h R):FCall prog zaT #[a0] h R:=fk f84 (.s .z (.s .z (.s .z .z))) H
def zdO (a0:Value)(h:Heap)(R:Value→Heap→Prop):Prop:=
 vK (nilV a0) fun a=>
 vK (fldV 1 a) fun b=>
 vK (ldV h b) fun c=>
 vK (zae c) fun d=>
 vK (binV .i .gtr d (.int .i64 0)) fun e=>
 iteK e (
 vK (nilV a0) fun f=>
 vK (fldV 1 f) fun g=>
 vK (ldV h g) fun j=>
 vK (idxV 1 j (.int .i64 0)) fun k=>
 vK (ldV h k) fun l=>
 vK (nilV a0) fun m=>
 vK (fldV 1 m) fun n=>
 vK (ldV h n) fun o=>
 FCall prog zcU #[o,(.int .i64 0),(.int .i64 1)] h fun p q=>
 vK (nilV a0) fun r=>
 vK (fldV 1 r) fun s=>
 stK 1 s p q fun x t=>
 R (.tuple #[l,(.int .i64 0)]) t) (
 vK (nilV a0) fun u=>
 vK (fldV 2 u) fun v=>
 vK (ldV h v) fun w=>
 iteK w (
 R (.tuple #[(.int .i64 0),(.int .i64 2)]) h) (
 R (.tuple #[(.int .i64 0),(.int .i64 1)]) h))
theorem zhG (H:zdO a0 h R):FCall prog zcH #[a0] h R:=fk f85 (.s .z (.s (.s .z (.s (.s .z (.s .z (.s .z .z))) (.s .z (.s (.s .z .z) .z)))) (.s .z .z))) H
def zel (a0 a1 a2:Value)(h:Heap)(R:Value→Heap→Prop):Prop:=
 newK #[(.int .i64 0),(.int .i64 0),(.int .i64 0),(.int .i64 0)] 99 h fun b d=>
 vK (nilV a0) fun k=>
 vK (fldV 1 k) fun l=>
 vK (ldV d l) fun m=>
 rowK #[(.int .i64 0)] 3 1 [(0,1,a1)] d fun n o=>
 appK (.int .i64 0) 3 1 8 m n o fun q r=>
 vK (nilV a0) fun s=>
 vK (fldV 1 s) fun t=>
 stK 1 t q r fun ax e=>
 joinK (fun g=>
 vK (binV .f .neq a2 .nilFunc) fun u=>
 iteK u (
 clK prog a2 #[a1] e fun v w=>
 vK (nilV a0) fun x=>
 vK (fldV 2 x) fun y=>
 stK 1 y v w fun ay z=>
 g [] z) (
 g [] e))
 fun az a3 a=>
 vK (nilV a0) fun aa=>
 vK (fldV 2 aa) fun ab=>
 vK (ldV a ab) fun ac=>
 vK (binV .p .neq ac (.pointer none)) fun ad=>
 iteK ad (
 drawK a fun S=>
 vK (nilV a0) fun ae=>
 vK (fldV 3 ae) fun af=>
 qK S (fun a=>ldV a af) fun ag=>
 vK (nilV a0) fun ah=>
 vK (fldV 2 ah) fun ai=>
 qK S (fun a=>ldV a ai) fun aj=>
 FCall prog zdC #[aj] a fun ak c=>
 S c∧(qK S (fun c=>maxV ag ak) fun al=>
 vK (nilV a0) fun am=>
 vK (fldV 3 am) fun an=>
 stK 1 an al c fun a4 ao=>
 FCall prog zaT #[a0] ao fun a5 ap=>
 vK ((fillL #[(.int .i64 0),(.int .i64 0),(.int .i64 0),(.int .i64 0)] [(0,1,(.int .i64 1)),(1,1,a1)]).map .agg) fun aq=>
 stK 4 b aq ap fun a6 i=>
 vK (ldsV 4 i b) fun ar=>
 R ar i)) (
 FCall prog zaT #[a0] a fun a7 au=>
 vK ((fillL #[(.int .i64 0),(.int .i64 0),(.int .i64 0),(.int .i64 0)] [(0,1,(.int .i64 1)),(1,1,a1)]).map .agg) fun av=>
 stK 4 b av au fun a8 j=>
 vK (ldsV 4 j b) fun aw=>
 R aw j)
theorem zh8 (H:zel a0 a1 a2 h R):FCall prog zcY #[a0,a1,a2] h R:=fk f86 (.s .z (.s .z (.j 33423360 [] (.s .z (.s .z .z)) (.s (.s .z (.s (.d (.op 0 .r (.op 1 .r (.op 2 .r (.op 3 .r (.op 4 .r (.op 5 .r (.op 6 .r (.op 7 .r (.op 8 .r (.op 9 .e (.op 10 .r (.op 11 .r (.op 12 .r (.op 13 .n .nil))))))))))))))) .z)) (.s .z (.s .z .z)))))) H
end
section
variable {a0 a1 a2 a3 a4 a5 a6:Value}{h:Heap}{R:Value→Heap→Prop}
def zcT (a0:Value)(h:Heap)(R:Value→Heap→Prop):Prop:=
 vK (binV .sl .eql a0 (.slice none 0 0)) fun a=>
 iteK a (
 R (.slice none 0 0) h) (
 rowK #[] 3 0 [] h fun b c=>
 appK (.int .i64 0) 3 1 8 b a0 c fun d e=>
 R d e)
theorem zfN (H:zcT a0 h R):FCall prog zbX #[a0] h R:=fk f87 (.s .z (.s (.s .z (.s (.s .z .z) .z)) (.s .z .z))) H
def zmm (a0 a1 a2 a3 a4:Value)(h:Heap)(R:Value→Heap→Prop):Prop:=
 FCall prog zaB #[a0,a1,a2,a3] h fun d a=>
 vK (extV d 0) fun b=>
 vK (extV d 1) fun e=>
 vK (binV .i .neq e (.int .i64 0)) fun f=>
 iteK f (
 R (.tuple #[(.pointer none),e]) a) (
 vK (zae a4) fun g=>
 vK (nilV b) fun j=>
 vK (fldV 4 j) fun k=>
 vK (ldV a k) fun l=>
 vK (zae l) fun m=>
 vK (binV .i .neq g m) fun n=>
 iteK n (
 R (.tuple #[(.pointer none),(.int .i64 2)]) a) (
 FCall prog zbs #[a4] a fun o c=>
 vK (cviV .i64 o) fun p=>
 vK (binV .i .gtr p a3) fun q=>
 iteK q (
 R (.tuple #[(.pointer none),(.int .i64 4)]) c) (
 vK (nilV b) fun r=>
 vK (fldV 4 r) fun s=>
 vK (ldV c s) fun t=>
 cpyK 1 t a4 c fun v u=>
 R (.tuple #[b,(.int .i64 0)]) u)))
theorem ok_raster_Of (H:zmm a0 a1 a2 a3 a4 h R):FCall prog zhd #[a0,a1,a2,a3,a4] h R:=fk f88 (.s .z (.s .z (.s (.s .z (.s (.s .z .z) (.s .z (.s (.s .z .z) (.s .z (.s (.s .z .z) .z)))))) (.s .z (.s .z .z))))) H
def zo3 (a0 a1 a2:Value)(h:Heap)(R:Value→Heap→Prop):Prop:=
 newK (Value.cells a0) 31 h fun d q=>
 newK #[(.pointer none),(.pointer none),(.int .i64 0)] 46 q fun a j=>
 vK (ldsV 9 j d) fun r=>
 FCall prog zrc #[r] j fun s k=>
 vK (unV .not s) fun b=>
 vK (gV b false (some a1)) fun t=>
 gK b false (fun u=>FCall prog zgN #[t] k u) k fun v l=>
 vK (gV b false (unV .not v)) fun w=>
 vK (pickV b (.bool true) w) fun c=>
 vK (gV c false (some a2)) fun x=>
 gK c false (fun y=>FCall prog zgN #[x] l y) l fun z e=>
 vK (gV c false (unV .not z)) fun aa=>
 vK (pickV c (.bool true) aa) fun ab=>
 iteK ab (
 vK ((fillL #[(.pointer none),(.pointer none),(.int .i64 0)] []).map .agg) fun ac=>
 stK 3 a ac e fun ao m=>
 vK (ldsV 3 m a) fun ad=>
 R (.tuple #[ad,(.int .i64 6)]) m) (
 vK (ldsV 9 e d) fun ae=>
 FCall prog zjZ #[ae,a1,a2] e fun f g=>
 vK (extV f 0) fun af=>
 vK (extV f 1) fun ag=>
 vK (extV f 2) fun n=>
 vK (binV .i .neq n (.int .i64 0)) fun ah=>
 iteK ah (
 vK ((fillL #[(.pointer none),(.pointer none),(.int .i64 0)] []).map .agg) fun ai=>
 stK 3 a ai g fun ap o=>
 vK (ldsV 3 o a) fun aj=>
 R (.tuple #[aj,n]) o) (
 vK (fldV 1 d) fun ak=>
 vK (ldV g ak) fun al=>
 vK ((fillL #[(.pointer none),(.pointer none),(.int .i64 0)] [(0,1,af),(1,1,ag),(2,1,al)]).map .agg) fun am=>
 stK 3 a am g fun aq p=>
 vK (ldsV 3 p a) fun an=>
 R (.tuple #[an,(.int .i64 0)]) p))
theorem ok_op_Make (H:zo3 a0 a1 a2 h R):FCall prog zfK #[a0,a1,a2] h R:=fk f89 (.s .z (.s (.s .z (.s (.s .z .z) .z)) (.s .z (.s (.s .z (.s (.s .z .z) .z)) (.s .z .z))))) H
def zfZ (a0 a1 a2 a3:Value)(h:Heap)(R:Value→Heap→Prop):Prop:=
 FCall prog zb4 #[a0,a1,a2,a3] h fun b a=>
 vK (binV .i .geq b (.int .i64 0)) fun c=>
 iteK c (
 vK (nilV a0) fun d=>
 vK (fldV 4 d) fun e=>
 vK (ldV a e) fun f=>
 vK (idxV 1 f b) fun g=>
 vK (ldV a g) fun j=>
 R j a) (
 R (.int .u16 0) a)
theorem zkZ (H:zfZ a0 a1 a2 a3 h R):FCall prog zca #[a0,a1,a2,a3] h R:=fk f91 (.s .z (.s (.s .z (.s .z (.s (.s .z .z) .z))) (.s .z .z))) H
def zdt (a0:Value)(h:Heap)(R:Value→Heap→Prop):Prop:=
 vK (nilV a0) fun a=>
 vK (fldV 4 a) fun b=>
 vK (ldV h b) fun c=>
 FCall prog zbc #[c] h fun d e=>
 R d e
theorem zgV (H:zdt a0 h R):FCall prog zcs #[a0] h R:=fk f93 (.s .z (.s .z .z)) H
def zh0 (a0 a1:Value)(h:Heap)(R:Value→Heap→Prop):Prop:=
 newK (Value.cells a1) 46 h fun c d=>
 vK (fldV 0 c) fun m=>
 vK (ldV d m) fun n=>
 vK (binV .p .neq n (.pointer none)) fun f=>
 vK (gV f true (fldV 1 c)) fun o=>
 vK (gV f true (ldV d o)) fun q=>
 vK (gV f true (binV .p .neq q (.pointer none))) fun r=>
 vK (pickV f r (.bool false)) fun a=>
 vK (gV a true (fldV 0 c)) fun t=>
 vK (gV a true (ldV d t)) fun u=>
 gK a true (fun v=>FCall prog zbn #[u] d v) d fun w k=>
 vK (gV a true (some a0)) fun x=>
 gK a true (fun y=>FCall prog zaC #[x] k y) k fun z g=>
 vK (gV a true (binV .i .eql w z)) fun aa=>
 vK (pickV a aa (.bool false)) fun b=>
 vK (gV b true (fldV 1 c)) fun ab=>
 vK (gV b true (ldV g ab)) fun ac=>
 gK b true (fun ad=>FCall prog zbn #[ac] g ad) g fun ae l=>
 vK (gV b true (some a0)) fun af=>
 gK b true (fun ag=>FCall prog zaz #[af] l ag) l fun ah j=>
 vK (gV b true (binV .i .eql ae ah)) fun ai=>
 vK (pickV b ai (.bool false)) fun e=>
 vK (gV e true (fldV 2 c)) fun aj=>
 vK (gV e true (ldV j aj)) fun ak=>
 gK e true (fun al=>FCall prog ze7 #[ak] j al) j fun am an=>
 vK (gV e true (binV .s .neq am (.string ⟨#[]⟩))) fun ao=>
 vK (pickV e ao (.bool false)) fun ap=>
 R ap an
theorem znM (H:zh0 a0 a1 h R):FCall prog zc4 #[a0,a1] h R:=fk f102 (.s .z (.s .z .z)) H
def zjk (h:Heap)(R:Value→Heap→Prop):Prop:=
 vK ((fillL #[(.int .i64 0),(.int .i64 0),(.int .i64 0),(.int .i64 0),(.slice none 0 0),(.slice none 0 0),(.int .i64 0),(.int .i64 0),(.int .i64 0)] [(0,1,(.int .i64 3)),(7,1,(.int .i64 5)),(8,1,(.int .i64 3)),(6,1,(.int .i64 0))]).map .agg) fun q=>
 FCall prog zfK #[q,(.int .i64 9),(.int .i64 9)] h fun f r=>
 vK (extV f 0) fun s=>
 vK (extV f 1) fun t=>
 newK #[(.pointer none),(.pointer none),(.int .i64 0)] 46 r fun g u=>
 stK 3 g s u fun ar v=>
 FCall prog ze5 #[] v fun w b=>
 vK (unV .not w) fun c=>
 vK (gV c false (some t)) fun x=>
 vK (gV c false (binV .i .neq x (.int .i64 0))) fun y=>
 vK (pickV c (.bool true) y) fun z=>
 iteK z (
 R (.bool false) b) (
 vK (ldsV 3 b g) fun aa=>
 FCall prog zgM #[aa,(.int .i64 2),(.int .i64 2)] b fun j k=>
 vK (extV j 0) fun d=>
 vK (extV j 1) fun ab=>
 vK (binV .i .neq ab (.int .i64 0)) fun e=>
 vK (gV e false (some d)) fun ac=>
 vK (gV e false (binV .p .eql ac (.pointer none))) fun ad=>
 vK (pickV e (.bool true) ad) fun ae=>
 iteK ae (
 R (.bool false) k) (
 FCall prog zbR #[d,(.int .i64 5)] k fun l af=>
 vK (extV l 0) fun ag=>
 vK (extV l 1) fun ah=>
 newK #[(.int .i64 0),(.int .i64 0),(.int .i64 0),(.int .i64 0),(.int .i64 0),(.int .i64 0),(.int .i64 0),(.int .i64 0),(.int .i64 0),(.int .i64 0)] 65 af fun m ai=>
 stK 10 m ag ai fun au aj=>
 FCall prog zcO #[d] aj fun ak n=>
 vK (binV .i .eql ak (.int .i64 6)) fun o=>
 vK (gV o true (some ah)) fun al=>
 vK (pickV o al (.bool false)) fun a=>
 vK (gV a true (fldV 1 m)) fun am=>
 vK (gV a true (ldsV 4 n am)) fun an=>
 vK (gV a true ((fillL #[(.int .i64 0),(.int .i64 0),(.int .i64 0),(.int .i64 0)] [(0,1,(.int .i64 4)),(1,1,(.int .i64 2)),(2,1,(.int .i64 1)),(3,1,(.int .i64 1))]).map .agg)) fun ao=>
 vK (gV a true (binV (.st [(0,1,.i),(1,1,.i),(2,1,.i),(3,1,.i)]) .eql an ao)) fun ap=>
 vK (pickV a ap (.bool false)) fun aq=>
 R aq n))
theorem zoI (H:zjk h R):FCall prog zhi #[] h R:=fk f118 (.s .z (.s .z (.s (.s .z (.s (.s .z .z) .z)) (.s .z (.s (.s .z (.s (.s .z .z) .z)) (.s .z (.s .z .z))))))) H
def zjj (h:Heap)(R:Value→Heap→Prop):Prop:=
 rowK #[(.int .u16 0)] 22 1 [(0,1,(.int .u16 7))] h fun s t=>
 FCall prog zhd #[(.int .i64 1),(.int .i64 1),(.int .i64 1),(.int .i64 255),s] t fun j u=>
 vK (extV j 0) fun k=>
 vK (extV j 1) fun v=>
 vK ((fillL #[(.int .i64 0),(.int .i64 0),(.int .i64 0),(.int .i64 0),(.slice none 0 0),(.slice none 0 0),(.int .i64 0),(.int .i64 0),(.int .i64 0)] [(0,1,(.int .i64 1)),(3,1,(.int .i64 2))]).map .agg) fun w=>
 FCall prog zfK #[w,(.int .i64 1),(.int .i64 1)] u fun l x=>
 vK (extV l 0) fun y=>
 vK (extV l 1) fun z=>
 newK #[(.pointer none),(.pointer none),(.int .i64 0)] 46 x fun m aa=>
 stK 3 m y aa fun az ab=>
 FCall prog zhj #[] ab fun ac n=>
 vK (unV .not ac) fun b=>
 gK b false (fun ad=>FCall prog ze5 #[] n ad) n fun ae c=>
 vK (gV b false (unV .not ae)) fun af=>
 vK (pickV b (.bool true) af) fun d=>
 vK (gV d false (some v)) fun ag=>
 vK (gV d false (binV .i .neq ag (.int .i64 0))) fun ah=>
 vK (pickV d (.bool true) ah) fun e=>
 vK (gV e false (some z)) fun ai=>
 vK (gV e false (binV .i .neq ai (.int .i64 0))) fun aj=>
 vK (pickV e (.bool true) aj) fun f=>
 vK (gV f false (some k)) fun ak=>
 vK (gV f false (binV .p .eql ak (.pointer none))) fun al=>
 vK (pickV f (.bool true) al) fun am=>
 iteK am (
 R (.bool false) c) (
 vK (ldsV 3 c m) fun an=>
 FCall prog zgt #[k,an] c fun o q=>
 vK (extV o 0) fun r=>
 vK (extV o 1) fun ao=>
 vK (binV .i .eql ao (.int .i64 0)) fun g=>
 vK (gV g true (some r)) fun ap=>
 vK (gV g true (binV .p .neq ap (.pointer none))) fun aq=>
 vK (pickV g aq (.bool false)) fun a=>
 vK (gV a true (some r)) fun ar=>
 gK a true (fun au=>FCall prog zca #[ar,(.int .i64 0),(.int .i64 0),(.int .i64 0)] q au) q fun av aw=>
 vK (gV a true (binV .i .eql av (.int .u16 7))) fun ax=>
 vK (pickV a ax (.bool false)) fun ay=>
 R ay aw)
theorem zoH (H:zjj h R):FCall prog zhh #[] h R:=fk f119 (.s .z (.s .z (.s .z (.s (.s .z (.s (.s .z .z) .z)) (.s .z (.s .z .z)))))) H
def zo2 (a0 a1 a2:Value)(h:Heap)(R:Value→Heap→Prop):Prop:=
 newK (Value.cells a0) 31 h fun b a=>
 vK (fldV 0 b) fun c=>
 vK (ldV a c) fun d=>
 vK (binV .i .eql d (.int .i64 3)) fun e=>
 iteK e (
 vK (fldV 7 b) fun f=>
 vK (ldV a f) fun g=>
 vK (fldV 8 b) fun j=>
 vK (ldV a j) fun k=>
 R (.tuple #[g,k]) a) (
 R (.tuple #[a1,a2]) a)
theorem ok_op_Size (H:zo2 a0 a1 a2 h R):FCall prog zoo #[a0,a1,a2] h R:=fk f120 (.s .z (.s (.s .z (.s (.s .z .z) .z)) (.s .z .z))) H
def zkj (a0 a1 a2:Value)(h:Heap)(R:Value→Heap→Prop):Prop:=
 vK (binV .i .lss a0 (.int .i64 1)) fun a=>
 vK (gV a false (some a0)) fun e=>
 vK (gV a false (binV .i .gtr e (.int .i64 65536))) fun f=>
 vK (pickV a (.bool true) f) fun b=>
 vK (gV b false (some a1)) fun g=>
 vK (gV b false (binV .i .lss g (.int .i64 1))) fun j=>
 vK (pickV b (.bool true) j) fun c=>
 vK (gV c false (some a1)) fun k=>
 vK (gV c false (binV .i .gtr k (.int .i64 65536))) fun l=>
 vK (pickV c (.bool true) l) fun m=>
 iteK m (
 R (.bool false) h) (
 vK (binV .i .neq a2 (.int .i64 1)) fun d=>
 vK (gV d true (some a2)) fun n=>
 vK (gV d true (binV .i .neq n (.int .i64 3))) fun o=>
 vK (pickV d o (.bool false)) fun p=>
 iteK p (
 R (.bool false) h) (
 vK (binV .i .mul a0 a1) fun q=>
 vK (binV .i .quo (.int .i64 268435456) a2) fun r=>
 vK (binV .i .leq q r) fun s=>
 R s h))
theorem zqf (H:zkj a0 a1 a2 h R):FCall prog zgf #[a0,a1,a2] h R:=fk f121 (.s .z (.s (.s .z (.s (.s .z .z) .z)) (.s (.s .z (.s (.s .z .z) .z)) (.s .z .z)))) H
def zki (a0 a1 a2:Value)(h:Heap)(R:Value→Heap→Prop):Prop:=
 newK (Value.cells a0) 230 h fun a a8=>
 newK #[(.slice none 0 0),(.slice none 0 0),(.int .i64 0),(.int .i64 0),(.int .i64 0)] 56 a8 fun b e=>
 vK (fldV 0 a) fun a9=>
 vK (ldV e a9) fun ba=>
 vK (binV .i .lss ba (.int .i64 0)) fun k=>
 vK (gV k false (fldV 0 a)) fun bb=>
 vK (gV k false (ldV e bb)) fun bc=>
 vK (gV k false (binV .i .gtr bc (.int .i64 3))) fun bd=>
 vK (pickV k (.bool true) bd) fun l=>
 vK (gV l false (fldV 1 a)) fun be=>
 vK (gV l false (ldV e be)) fun bf=>
 vK (gV l false (binV .i .lss bf (.int .i64 0))) fun bg=>
 vK (pickV l (.bool true) bg) fun m=>
 vK (gV m false (fldV 1 a)) fun bh=>
 vK (gV m false (ldV e bh)) fun bi=>
 vK (gV m false (binV .i .gtr bi (.int .i64 2))) fun bj=>
 vK (pickV m (.bool true) bj) fun n=>
 vK (gV n false (some a1)) fun bk=>
 gK n false (fun bl=>FCall prog zdm #[bk] e bl) e fun bm y=>
 vK (gV n false (unV .not bm)) fun bn=>
 vK (pickV n (.bool true) bn) fun o=>
 vK (gV o false (some a2)) fun bo=>
 gK o false (fun bp=>FCall prog zdm #[bo] y bp) y fun bq t=>
 vK (gV o false (unV .not bq)) fun br=>
 vK (pickV o (.bool true) br) fun bs=>
 iteK bs (
 vK ((fillL #[(.slice none 0 0),(.slice none 0 0),(.int .i64 0),(.int .i64 0),(.int .i64 0)] []).map .agg) fun bt=>
 stK 5 b bt t fun d6 z=>
 vK (ldsV 5 z b) fun bu=>
 R (.tuple #[bu,(.int .i64 6)]) z) (
 vK (fldV 1 a) fun bv=>
 vK (ldV t bv) fun bw=>
 vK ((fillL #[(.slice none 0 0),(.slice none 0 0),(.int .i64 0),(.int .i64 0),(.int .i64 0)] [(2,1,a1),(3,1,a2),(4,1,bw)]).map .agg) fun bx=>
 newK #[(.slice none 0 0),(.slice none 0 0),(.int .i64 0),(.int .i64 0),(.int .i64 0)] 56 t fun d bz=>
 stK 5 d bx bz fun d7 c=>
 vK (fldV 0 a) fun b0=>
 vK (ldV c b0) fun b1=>
 vK (binV .i .eql b1 (.int .i64 3)) fun b2=>
 iteK b2 (
 vK (fldV 7 a) fun b3=>
 vK (ldV c b3) fun b4=>
 FCall prog zdm #[b4] c fun b5 u=>
 vK (unV .not b5) fun g=>
 vK (gV g false (fldV 8 a)) fun b6=>
 vK (gV g false (ldV u b6)) fun b7=>
 gK g false (fun b8=>FCall prog zdm #[b7] u b8) u fun b9 f=>
 vK (gV g false (unV .not b9)) fun ca=>
 vK (pickV g (.bool true) ca) fun p=>
 vK (gV p false (fldV 6 a)) fun cb=>
 vK (gV p false (ldV f cb)) fun cc=>
 vK (gV p false (binV .i .lss cc (.int .i64 0))) fun cd=>
 vK (pickV p (.bool true) cd) fun q=>
 vK (gV q false (fldV 6 a)) fun ce=>
 vK (gV q false (ldV f ce)) fun cf=>
 vK (gV q false (binV .i .gtr cf (.int .i64 2))) fun cg=>
 vK (pickV q (.bool true) cg) fun ch=>
 iteK ch (
 vK ((fillL #[(.slice none 0 0),(.slice none 0 0),(.int .i64 0),(.int .i64 0),(.int .i64 0)] []).map .agg) fun ci=>
 stK 5 b ci f fun d8 aa=>
 vK (ldsV 5 aa b) fun cj=>
 R (.tuple #[cj,(.int .i64 6)]) aa) (
 vK (fldV 6 a) fun ck=>
 vK (ldV f ck) fun cl=>
 vK (fldV 7 a) fun cm=>
 vK (ldV f cm) fun cn=>
 FCall prog zef #[cl,a1,cn] f fun ab co=>
 vK (extV ab 0) fun cp=>
 vK (extV ab 1) fun ac=>
 vK (fldV 0 d) fun cq=>
 stK 1 cq cp co fun d9 r=>
 vK (binV .i .neq ac (.int .i64 0)) fun cr=>
 iteK cr (
 vK ((fillL #[(.slice none 0 0),(.slice none 0 0),(.int .i64 0),(.int .i64 0),(.int .i64 0)] []).map .agg) fun cs=>
 stK 5 b cs r fun ea ad=>
 vK (ldsV 5 ad b) fun ct=>
 R (.tuple #[ct,ac]) ad) (
 vK (fldV 6 a) fun cu=>
 vK (ldV r cu) fun cv=>
 vK (fldV 8 a) fun cw=>
 vK (ldV r cw) fun cx=>
 FCall prog zef #[cv,a2,cx] r fun ae cy=>
 vK (extV ae 0) fun cz=>
 vK (extV ae 1) fun af=>
 vK (fldV 1 d) fun c0=>
 stK 1 c0 cz cy fun eb v=>
 vK (binV .i .neq af (.int .i64 0)) fun c1=>
 iteK c1 (
 vK ((fillL #[(.slice none 0 0),(.slice none 0 0),(.int .i64 0),(.int .i64 0),(.int .i64 0)] []).map .agg) fun c2=>
 stK 5 b c2 v fun ec ag=>
 vK (ldsV 5 ag b) fun c3=>
 R (.tuple #[c3,af]) ag) (
 vK (ldsV 5 v d) fun c4=>
 stK 5 b c4 v fun ed ah=>
 vK (ldsV 5 ah b) fun c5=>
 R (.tuple #[c5,(.int .i64 0)]) ah)))) (
 vK (fldV 0 a) fun c6=>
 vK (ldV c c6) fun w=>
 joinK (fun j=>
 vK (binV .i .eql w (.int .i64 0)) fun c7=>
 iteK c7 (
 vK (fldV 2 a) fun c8=>
 vK (ldV c c8) fun c9=>
 FCall prog zeH #[c9] c fun ai da=>
 vK (extV ai 0) fun aj=>
 vK (extV ai 1) fun db=>
 j [db,aj,aj] da) (
 vK (binV .i .eql w (.int .i64 1)) fun dc=>
 iteK dc (
 vK (fldV 3 a) fun dd=>
 vK (ldV c dd) fun de=>
 FCall prog zir #[de] c fun ak df=>
 vK (extV ak 0) fun al=>
 vK (extV ak 1) fun dg=>
 j [dg,al,al] df) (
 vK (binV .i .eql w (.int .i64 2)) fun dh=>
 iteK dh (
 vK (fldV 4 a) fun di=>
 vK (ldV c di) fun dj=>
 FCall prog zez #[dj] c fun am an=>
 vK (extV am 0) fun ao=>
 vK (extV am 1) fun ap=>
 vK (fldV 5 a) fun dk=>
 vK (ldV an dk) fun dl=>
 FCall prog zez #[dl] an fun aq ar=>
 vK (extV aq 0) fun au=>
 vK (extV aq 1) fun dm=>
 vK (binV .i .eql ap (.int .i64 0)) fun dn=>
 iteK dn (
 j [dm,ao,au] ar) (
 j [ap,ao,au] ar)) (
 j [(.int .i64 0),(.slice none 0 0),(.slice none 0 0)] c))))
 fun s ee av=>
 vK (binV .i .neq (ix s 0) (.int .i64 0)) fun dp=>
 iteK dp (
 vK ((fillL #[(.slice none 0 0),(.slice none 0 0),(.int .i64 0),(.int .i64 0),(.int .i64 0)] []).map .agg) fun dq=>
 stK 5 b dq av fun ef aw=>
 vK (ldsV 5 aw b) fun dr=>
 R (.tuple #[dr,(ix s 0)]) aw) (
 FCall prog zeg #[(ix s 1),a1] av fun ax ds=>
 vK (extV ax 0) fun dt=>
 vK (extV ax 1) fun ay=>
 vK (fldV 0 d) fun du=>
 stK 1 du dt ds fun eg az=>
 vK (binV .i .neq ay (.int .i64 0)) fun dv=>
 iteK dv (
 vK ((fillL #[(.slice none 0 0),(.slice none 0 0),(.int .i64 0),(.int .i64 0),(.int .i64 0)] []).map .agg) fun dw=>
 stK 5 b dw az fun eh a3=>
 vK (ldsV 5 a3 b) fun dx=>
 R (.tuple #[dx,ay]) a3) (
 FCall prog zeg #[(ix s 2),a2] az fun a4 dy=>
 vK (extV a4 0) fun dz=>
 vK (extV a4 1) fun a5=>
 vK (fldV 1 d) fun d0=>
 stK 1 d0 dz dy fun ei x=>
 vK (binV .i .neq a5 (.int .i64 0)) fun d1=>
 iteK d1 (
 vK ((fillL #[(.slice none 0 0),(.slice none 0 0),(.int .i64 0),(.int .i64 0),(.int .i64 0)] []).map .agg) fun d2=>
 stK 5 b d2 x fun ej a6=>
 vK (ldsV 5 a6 b) fun d3=>
 R (.tuple #[d3,a5]) a6) (
 vK (ldsV 5 x d) fun d4=>
 stK 5 b d4 x fun ek a7=>
 vK (ldsV 5 a7 b) fun d5=>
 R (.tuple #[d5,(.int .i64 0)]) a7)))))
theorem zqe (H:zki a0 a1 a2 h R):FCall prog ziq #[a0,a1,a2] h R:=fk f122 (.s .z (.s (.s .z (.s (.s .z .z) .z)) (.s .z (.s .z (.s (.s .z (.s (.s (.s .z (.s (.s .z .z) .z)) (.s .z (.s (.s .z (.s (.s .z .z) .z)) (.s .z (.s (.s .z (.s (.s .z .z) .z)) (.s .z .z)))))) .z)) (.s .z (.s .z (.s (.s .z (.m 174224571858449890892334881399078511451648 [9,10,11] (.s .z (.s (.s .z .z) (.s .z (.s (.s .z .z) (.s .z (.s (.s .z (.s .z (.s .z (.s .z (.s .z .z))))) .z)))))))) (.s (.s .z (.s (.s .z .z) .z)) (.s .z (.s (.s .z (.s (.s .z .z) .z)) (.s .z (.s (.s .z (.s (.s .z .z) .z)) (.s .z .z)))))))))))))) H
end
section
variable {a0 a1 a2 a3 a4 a5 a6:Value}{h:Heap}{R:Value→Heap→Prop}
def zkh (a0 a1 a2:Value)(h:Heap)(R:Value→Heap→Prop):Prop:=
 newK (Value.cells a0) 230 h fun b a=>
 vK (fldV 0 b) fun c=>
 vK (ldV a c) fun d=>
 vK (binV .i .eql d (.int .i64 3)) fun e=>
 iteK e (
 vK (fldV 7 b) fun f=>
 vK (ldV a f) fun g=>
 vK (fldV 8 b) fun j=>
 vK (ldV a j) fun k=>
 R (.tuple #[g,k]) a) (
 R (.tuple #[a1,a2]) a)
theorem zqd (H:zkh a0 a1 a2 h R):FCall prog zip #[a0,a1,a2] h R:=fk f123 (.s .z (.s (.s .z (.s (.s .z .z) .z)) (.s .z .z))) H
def zmq (a0:Value)(h:Heap)(R:Value→Heap→Prop):Prop:=
 newK (Value.cells a0) 31 h fun b e=>
 newK #[(.int .i64 0),(.int .i64 0),(.int .i64 0),(.int .i64 0),(.slice none 0 0),(.slice none 0 0),(.int .i64 0),(.int .i64 0),(.int .i64 0)] 230 e fun c a=>
 vK (fldV 0 b) fun f=>
 vK (ldV a f) fun g=>
 vK (fldV 1 b) fun i=>
 vK (ldV a i) fun j=>
 vK (fldV 2 b) fun k=>
 vK (ldV a k) fun l=>
 vK (fldV 3 b) fun m=>
 vK (ldV a m) fun n=>
 vK (fldV 4 b) fun o=>
 vK (ldV a o) fun p=>
 vK (fldV 5 b) fun q=>
 vK (ldV a q) fun r=>
 vK (fldV 6 b) fun s=>
 vK (ldV a s) fun t=>
 vK (fldV 7 b) fun u=>
 vK (ldV a u) fun v=>
 vK (fldV 8 b) fun w=>
 vK (ldV a w) fun x=>
 vK ((fillL #[(.int .i64 0),(.int .i64 0),(.int .i64 0),(.int .i64 0),(.slice none 0 0),(.slice none 0 0),(.int .i64 0),(.int .i64 0),(.int .i64 0)] [(0,1,g),(1,1,j),(2,1,l),(3,1,n),(4,1,p),(5,1,r),(6,1,t),(7,1,v),(8,1,x)]).map .agg) fun y=>
 stK 9 c y a fun aa d=>
 vK (ldsV 9 d c) fun z=>
 R z d
theorem ok_law12_Ref (H:zmq a0 h R):FCall prog zj0 #[a0] h R:=fk f124 (.s .z (.s .z .z)) H
def zeP (a0:Value)(h:Heap)(R:Value→Heap→Prop):Prop:=
 drawK h fun S=>
 vK (nilV a0) fun b=>
 vK (fldV 0 b) fun c=>
 vK (fldV 0 c) fun d=>
 qK S (fun h=>ldV h d) fun e=>
 vK (nilV a0) fun f=>
 vK (fldV 3 f) fun g=>
 qK S (fun h=>ldV h g) fun i=>
 FCall prog zak #[e] h fun j a=>
 S a∧(FCall prog zgk #[j,i] a fun k l=>
 R k l)
theorem ziZ (H:zeP a0 h R):FCall prog zbH #[a0] h R:=fk f125 (.s .z (.s (.d (.op 0 .r (.op 1 .r (.op 2 .r (.op 3 .r (.op 4 .r (.op 6 .r (.op 7 .r (.op 8 .r (.op 9 .r (.op 5 .e (.op 10 .n (.op 11 .r .nil))))))))))))) .z)) H
def zky (a0 a1:Value)(h:Heap)(R:Value→Heap→Prop):Prop:=
 vK (binV .i .add a0 a1) fun a=>
 vK (binV .i .sub a (.int .i64 1)) fun b=>
 vK (binV .i .quo b a1) fun c=>
 R c h
theorem zqu (H:zky a0 a1 h R):FCall prog zgk #[a0,a1] h R:=fk f126 (.s .z (.s .z .z)) H
def zfS (a0:Value)(h:Heap)(R:Value→Heap→Prop):Prop:=
 newK #[(.int .i64 0),(.int .i64 0)] 97 h fun b l=>
 FCall prog zd2 #[a0] l fun m e=>
 iteK m (
 vK ((fillL #[(.int .i64 0),(.int .i64 0)] []).map .agg) fun n=>
 stK 2 b n e fun am f=>
 vK (ldsV 2 f b) fun o=>
 R o f) (
 FCall prog zcM #[a0] e fun p q=>
 newK #[(.int .i64 0),(.slice none 0 0)] 235 q fun c r=>
 stK 2 c p r fun an a=>
 drawK a fun S=>
 vK (nilV a0) fun s=>
 vK (fldV 15 s) fun t=>
 qK S (fun a=>ldV a t) fun u=>
 vK (fldV 0 c) fun v=>
 qK S (fun a=>ldV a v) fun w=>
 vK (fldV 0 c) fun x=>
 qK S (fun a=>ldV a x) fun y=>
 vK (fldV 1 c) fun z=>
 qK S (fun a=>ldV a z) fun aa=>
 qK S (fun a=>zae aa) fun ab=>
 vK (binV .i .add y ab) fun ac=>
 FCall prog zeG #[u,w,ac] a fun g d=>
 vK (extV g 0) fun ad=>
 vK (extV g 1) fun ae=>
 iteK ae (
 vK ((fillL #[(.int .i64 0),(.int .i64 0)] [(0,1,(.int .i64 1)),(1,1,ad)]).map .agg) fun af=>
 stK 2 b af d fun ao j=>
 vK (ldsV 2 j b) fun ag=>
 R ag j) (
 vK (nilV a0) fun ah=>
 vK (fldV 16 ah) fun ai=>
 vK (ldV d ai) fun aj=>
 vK ((fillL #[(.int .i64 0),(.int .i64 0)] [(0,1,(.int .i64 2)),(1,1,aj)]).map .agg) fun ak=>
 stK 2 b ak d fun ap k=>
 vK (ldsV 2 k b) fun al=>
 R al k))
theorem zkS (H:zfS a0 h R):FCall prog zb8 #[a0] h R:=fk f127 (.s .z (.s (.s .z (.s (.s .z .z) .z)) (.s .z (.s (.s (.d (.op 0 .r (.op 1 .r (.op 2 .r (.op 3 .r (.op 4 .r (.op 5 .r (.op 6 .r (.op 7 .r (.op 8 .r (.op 9 .r (.op 10 .r (.op 11 .r (.op 12 .n (.op 13 .r (.op 14 .r (.op 15 .r (.op 16 .r (.op 17 .r .nil))))))))))))))))))) (.s .z (.s (.s .z .z) .z))) (.s .z .z))))) H
def zeJ (a0 a1:Value)(h:Heap)(R:Value→Heap→Prop):Prop:=
 drawK h fun S=>
 vK (nilV a0) fun e=>
 vK (fldV 2 e) fun f=>
 vK (fldV 2 f) fun g=>
 qK S (fun h=>ldV h g) fun j=>
 vK (nilV a0) fun k=>
 vK (fldV 0 k) fun l=>
 qK S (fun h=>ldV h l) fun m=>
 FCall prog zaz #[m] h fun n c=>
 S c∧(FCall prog zd8 #[j,a1,n] c fun o d=>
 vK (nilV a0) fun p=>
 vK (fldV 5 p) fun q=>
 vK (fldV 1 q) fun r=>
 vK (fldV 2 r) fun s=>
 vK (ldV d s) fun t=>
 loopK [(.slice none 0 0),(.int .i64 0)] d fun a aj b u=>
 vK (binV .i .lss (ix a 1) t) fun v=>
 iteK v (
 vK (nilV a0) fun w=>
 vK (fldV 5 w) fun x=>
 vK (fldV 1 x) fun y=>
 vK (fldV 0 y) fun z=>
 vK (ldV b z) fun aa=>
 vK (binV .i .add aa (ix a 1)) fun ab=>
 FCall prog zdd #[a0,ab,o,(ix a 0)] b fun ac ad=>
 vK (binV .i .add (ix a 1) (.int .i64 1)) fun ae=>
 u [ac,ae] ad) (
 vK (nilV a0) fun af=>
 vK (fldV 15 af) fun ag=>
 vK (ldV b ag) fun ah=>
 FCall prog zfG #[ah,a1,(ix a 0)] b fun ak ai=>
 R (.tuple #[]) ai))
theorem ziT (H:zeJ a0 a1 h R):FCall prog zdc #[a0,a1] h R:=fk f128 (.s (.d (.op 0 .r (.op 1 .r (.op 2 .r (.op 3 .r (.op 4 .r (.op 5 .r (.op 6 .r (.op 7 .r (.op 8 .r (.op 9 .r (.op 10 .e (.op 11 .n (.op 12 .r .nil)))))))))))))) (.s .z (.s (.s .z (.l 2198989701216 [5,25] (.s .z (.s (.s .z .z) (.s (.s .z .z) .z))))) .z))) H
def zfi (a0:Value)(h:Heap)(R:Value→Heap→Prop):Prop:=
 FCall prog zcM #[a0] h fun t u=>
 newK #[(.int .i64 0),(.slice none 0 0)] 235 u fun j v=>
 stK 2 j t v fun b5 k=>
 vK (nilV a0) fun w=>
 vK (fldV 15 w) fun x=>
 vK (ldV k x) fun y=>
 FCall prog zd5 #[y] k fun l z=>
 mkK (.int .i64 0) 2 1 8 l l z fun e m=>
 vK (fldV 1 j) fun aa=>
 vK (ldV m aa) fun n=>
 vK (zae n) fun ab=>
 loopK [(.int .i64 0)] m fun f b6 b ac=>
 vK (binV .i .lss (ix f 0) ab) fun ad=>
 iteK ad (
 vK (idxV 1 n (ix f 0)) fun ae=>
 vK (ldV b ae) fun af=>
 drawK b fun S=>
 vK (nilV a0) fun ag=>
 vK (fldV 15 ag) fun ah=>
 qK S (fun b=>ldV b ah) fun ai=>
 vK (fldV 0 j) fun aj=>
 qK S (fun b=>ldV b aj) fun ak=>
 vK (binV .i .add ak (ix f 0)) fun al=>
 FCall prog zfF #[ai,al] b fun o am=>
 vK (extV o 0) fun p=>
 vK (extV o 1) fun b7=>
 vK (zae p) fun an=>
 loopK [(.int .i64 0)] am fun c b8 g ao=>
 vK (binV .i .lss (ix c 0) an) fun ap=>
 iteK ap (
 vK (idxV 1 p (ix c 0)) fun aq=>
 vK (ldV g aq) fun ar=>
 vK (idxV 1 e (ix c 0)) fun au=>
 vK (ldV g au) fun av=>
 vK (binV .i .mul af ar) fun aw=>
 vK (binV .i .add av aw) fun ax=>
 vK (idxV 1 e (ix c 0)) fun ay=>
 stK 1 ay ax g fun b9 az=>
 vK (binV .i .add (ix c 0) (.int .i64 1)) fun a1=>
 ao [a1] az) (
 vK (binV .i .add (ix f 0) (.int .i64 1)) fun a2=>
 ac [a2] g)) (
 vK (nilV a0) fun a3=>
 vK (fldV 1 a3) fun a4=>
 vK (ldV b a4) fun a5=>
 FCall prog zai #[a5] b fun q a6=>
 vK (zae e) fun a7=>
 loopK [(.int .i64 0)] a6 fun d ca a a8=>
 vK (binV .i .lss (ix d 0) a7) fun a9=>
 iteK a9 (
 vK (idxV 1 e (ix d 0)) fun ba=>
 vK (ldV a ba) fun bb=>
 drawK a fun S=>
 vK (nilV a0) fun bc=>
 vK (fldV 1 bc) fun bd=>
 qK S (fun a=>ldV a bd) fun be=>
 vK (nilV a0) fun bf=>
 vK (fldV 5 bf) fun bg=>
 vK (fldV 1 bg) fun bh=>
 vK (fldV 0 bh) fun bi=>
 qK S (fun a=>ldV a bi) fun bj=>
 vK (binV .i .quo (ix d 0) q) fun bk=>
 vK (binV .i .add bj bk) fun bl=>
 vK (nilV a0) fun bm=>
 vK (fldV 16 bm) fun bn=>
 qK S (fun a=>ldV a bn) fun bo=>
 vK (binV .i .rem (ix d 0) q) fun bp=>
 vK (nilV a0) fun bq=>
 vK (fldV 1 bq) fun br=>
 qK S (fun a=>ldV a br) fun bs=>
 FCall prog zaq #[bs] a fun bt r=>
 S r∧(FCall prog zej #[bb,bt] r fun bu s=>
 S s∧(FCall prog zbo #[be,bl,bo,bp,bu] s fun cb bv=>
 vK (binV .i .add (ix d 0) (.int .i64 1)) fun bw=>
 a8 [bw] bv))) (
 vK (nilV a0) fun bx=>
 vK (fldV 16 bx) fun bz=>
 vK (ldV a bz) fun b0=>
 vK (binV .i .add b0 (.int .i64 1)) fun b1=>
 vK (nilV a0) fun b2=>
 vK (fldV 16 b2) fun b3=>
 stK 1 b3 b1 a fun cc b4=>
 R (.tuple #[]) b4))
theorem zjC (H:zfi a0 h R):FCall prog zdB #[a0] h R:=fk f129 (.s .z (.s .z (.s (.s .z (.l 576460752286647280 [24] (.s .z (.s (.s .z .z) (.s (.s .z (.s (.d (.op 0 .r (.op 1 .r (.op 2 .r (.op 3 .r (.op 4 .r (.op 5 .r (.op 6 .r (.op 7 .r (.op 8 .n (.op 9 .r (.op 10 .r (.op 11 .r (.op 12 .r (.op 13 .r .nil))))))))))))))) (.s .z (.l 288221580058690304 [43] (.s .z (.s (.s .z .z) (.s (.s .z .z) .z))))))) .z))))) (.s .z (.s (.s .z (.l 2535301200382671826698568210432 [66] (.s .z (.s (.s .z .z) (.s (.s .z (.d (.op 0 .r (.op 1 .r (.op 2 .r (.op 3 .r (.op 4 .r (.op 5 .r (.op 6 .r (.op 7 .r (.op 8 .r (.op 9 .r (.op 10 .r (.op 11 .r (.op 12 .r (.op 13 .r (.op 14 .r (.op 15 .r (.op 16 .r (.op 17 .r (.op 18 .r (.op 19 .r (.op 20 .r (.op 21 .r (.op 22 .r (.op 23 .r (.op 24 .r (.op 25 .r (.op 26 .e (.op 27 .e (.op 28 .n .nil))))))))))))))))))))))))))))))) .z))))) .z))))) H
def zfj (a0:Value)(h:Heap)(R:Value→Heap→Prop):Prop:=
 vK (nilV a0) fun a=>
 vK (fldV 15 a) fun b=>
 vK (ldV h b) fun c=>
 FCall prog zd4 #[c] h fun d e=>
 R d e
theorem zjD (H:zfj a0 h R):FCall prog zdC #[a0] h R:=fk f131 (.s .z (.s .z .z)) H
def zcd (a0:Value)(h:Heap)(R:Value→Heap→Prop):Prop:=
 joinK (fun c=>
 vK (zae a0) fun e=>
 vK (binV .i .lss e (.int .i64 1)) fun f=>
 iteK f (
 failK h fun s g=>
 c [] g) (
 c [] h))
 fun t u d=>
 vK (idxV 1 a0 (.int .i64 0)) fun j=>
 vK (ldV d j) fun k=>
 loopK [k,(.int .i64 1)] d fun a v b l=>
 vK (zae a0) fun m=>
 vK (binV .i .lss (ix a 1) m) fun n=>
 iteK n (
 vK (idxV 1 a0 (ix a 1)) fun o=>
 vK (ldV b o) fun p=>
 vK (maxV (ix a 0) p) fun q=>
 vK (binV .i .add (ix a 1) (.int .i64 1)) fun r=>
 l [q,r] b) (
 R (ix a 0) b)
theorem zer (H:zcd a0 h R):FCall prog zbs #[a0] h R:=fk f132 (.s .z (.j 480 [] (.s .z (.s .z .z)) (.s .z (.s (.s .z (.l 16773144 [3,4] (.s (.s .z (.s .z .z)) (.s .z .z)))) (.s .z .z))))) H
def sh_op_may (a0:Value)(h:Heap)(R:Value→Heap→Prop):Prop:=
 newK (Value.cells a0) 31 h fun b c=>
 vK (fldV 0 b) fun m=>
 vK (ldV c m) fun n=>
 vK (binV .i .lss n (.int .i64 0)) fun g=>
 vK (gV g false (fldV 0 b)) fun o=>
 vK (gV g false (ldV c o)) fun p=>
 vK (gV g false (binV .i .geq p (.int .i64 4))) fun q=>
 vK (pickV g (.bool true) q) fun d=>
 vK (gV d false (fldV 1 b)) fun r=>
 vK (gV d false (ldV c r)) fun t=>
 gK d false (fun u=>FCall prog ze7 #[t] c u) c fun v e=>
 vK (gV d false (binV .s .eql v (.string ⟨#[]⟩))) fun w=>
 vK (pickV d (.bool true) w) fun x=>
 iteK x (
 R (.bool false) e) (
 vK (fldV 0 b) fun y=>
 vK (ldV e y) fun z=>
 vK (binV .i .neq z (.int .i64 3)) fun a=>
 vK (gV a false (fldV 7 b)) fun aa=>
 vK (gV a false (ldV e aa)) fun ab=>
 gK a false (fun ac=>FCall prog zgN #[ab] e ac) e fun ad k=>
 vK (gV a false (some ad)) fun j=>
 vK (gV j true (fldV 8 b)) fun ae=>
 vK (gV j true (ldV k ae)) fun af=>
 gK j true (fun ag=>FCall prog zgN #[af] k ag) k fun ah l=>
 vK (gV a false (pickV j ah (.bool false))) fun ai=>
 vK (gV a false (some ai)) fun f=>
 vK (gV f true (fldV 6 b)) fun aj=>
 vK (gV f true (ldV l aj)) fun ak=>
 gK f true (fun al=>FCall prog ziS #[ak] l al) l fun am an=>
 vK (gV f true (binV .s .neq am (.string ⟨#[]⟩))) fun ao=>
 vK (gV a false (pickV f ao (.bool false))) fun ap=>
 vK (pickV a (.bool true) ap) fun aq=>
 R aq an)
theorem ok_op_may (H:sh_op_may a0 h R):FCall prog zrc #[a0] h R:=fk f133 (.s .z (.s (.s .z (.s (.s .z .z) .z)) (.s .z .z))) H
def zo1 (a0:Value)(h:Heap)(R:Value→Heap→Prop):Prop:=
 vK (binV .i .geq a0 (.int .i64 1)) fun a=>
 vK (gV a true (some a0)) fun b=>
 vK (gV a true (binV .i .leq b (.int .i64 65536))) fun c=>
 vK (pickV a c (.bool false)) fun d=>
 R d h
theorem ok_op_side (H:zo1 a0 h R):FCall prog zgN #[a0] h R:=fk f134 (.s .z (.s .z .z)) H
def zmp (a0 a1 a2:Value)(h:Heap)(R:Value→Heap→Prop):Prop:=
 newK (Value.cells a0) 31 h fun a b=>
 vK (fldV 0 a) fun r=>
 vK (ldV b r) fun s=>
 vK (binV .i .eql s (.int .i64 3)) fun t=>
 iteK t (
 vK (fldV 6 a) fun u=>
 vK (ldV b u) fun v=>
 vK (fldV 7 a) fun w=>
 vK (ldV b w) fun x=>
 FCall prog zc3 #[v,a1,x] b fun e c=>
 vK (extV e 0) fun f=>
 vK (extV e 1) fun g=>
 vK (binV .i .eql g (.int .i64 0)) fun y=>
 iteK y (
 vK (fldV 6 a) fun z=>
 vK (ldV c z) fun aa=>
 vK (fldV 8 a) fun ab=>
 vK (ldV c ab) fun ac=>
 FCall prog zc3 #[aa,a2,ac] c fun j ad=>
 vK (extV j 0) fun ae=>
 vK (extV j 1) fun af=>
 R (.tuple #[f,ae,af]) ad) (
 R (.tuple #[f,(.pointer none),g]) c)) (
 vK (ldsV 9 b a) fun ag=>
 FCall prog ziu #[ag] b fun d k=>
 vK (extV d 0) fun ah=>
 vK (extV d 1) fun ai=>
 vK (extV d 2) fun l=>
 vK (binV .i .neq l (.int .i64 0)) fun aj=>
 iteK aj (
 R (.tuple #[(.pointer none),(.pointer none),l]) k) (
 FCall prog zee #[ah,a1] k fun m n=>
 vK (extV m 0) fun o=>
 vK (extV m 1) fun p=>
 vK (binV .i .eql p (.int .i64 0)) fun ak=>
 iteK ak (
 FCall prog zee #[ai,a2] n fun q al=>
 vK (extV q 0) fun am=>
 vK (extV q 1) fun an=>
 R (.tuple #[o,am,an]) al) (
 R (.tuple #[o,(.pointer none),p]) n)))
theorem ok_op_tables (H:zmp a0 a1 a2 h R):FCall prog zjZ #[a0,a1,a2] h R:=fk f135 (.s .z (.s (.s .z (.s (.s (.s .z (.s .z (.s .z .z))) (.s .z .z)) .z)) (.s .z (.s (.s .z (.s (.s .z .z) .z)) (.s (.s .z (.s .z (.s .z .z))) (.s .z .z)))))) H
def zen (a0 a1 a2 a3:Value)(h:Heap)(R:Value→Heap→Prop):Prop:=
 vK (binV .i .lss a1 (.int .i64 0)) fun a=>
 vK (gV a false (some a1)) fun f=>
 vK (gV a false (some a0)) fun g=>
 vK (gV a false (nilV g)) fun j=>
 vK (gV a false (fldV 0 j)) fun k=>
 vK (gV a false (ldV h k)) fun l=>
 vK (gV a false (binV .i .geq f l)) fun m=>
 vK (pickV a (.bool true) m) fun d=>
 vK (gV d false (some a2)) fun n=>
 vK (gV d false (binV .i .lss n (.int .i64 0))) fun o=>
 vK (pickV d (.bool true) o) fun b=>
 vK (gV b false (some a2)) fun p=>
 vK (gV b false (some a0)) fun q=>
 vK (gV b false (nilV q)) fun r=>
 vK (gV b false (fldV 1 r)) fun s=>
 vK (gV b false (ldV h s)) fun t=>
 vK (gV b false (binV .i .geq p t)) fun u=>
 vK (pickV b (.bool true) u) fun e=>
 vK (gV e false (some a3)) fun v=>
 vK (gV e false (binV .i .lss v (.int .i64 0))) fun w=>
 vK (pickV e (.bool true) w) fun c=>
 vK (gV c false (some a3)) fun x=>
 vK (gV c false (some a0)) fun y=>
 vK (gV c false (nilV y)) fun z=>
 vK (gV c false (fldV 2 z)) fun aa=>
 vK (gV c false (ldV h aa)) fun ab=>
 vK (gV c false (binV .i .geq x ab)) fun ac=>
 vK (pickV c (.bool true) ac) fun ad=>
 iteK ad (
 R (.int .i64 (-1)) h) (
 vK (nilV a0) fun ae=>
 vK (fldV 0 ae) fun af=>
 vK (ldV h af) fun ag=>
 vK (binV .i .mul a2 ag) fun ah=>
 vK (binV .i .add ah a1) fun ai=>
 vK (nilV a0) fun aj=>
 vK (fldV 2 aj) fun ak=>
 vK (ldV h ak) fun al=>
 vK (binV .i .mul ai al) fun am=>
 vK (binV .i .add am a3) fun an=>
 R an h)
theorem zia (H:zen a0 a1 a2 a3 h R):FCall prog zb4 #[a0,a1,a2,a3] h R:=fk f136 (.s .z (.s (.s .z (.s (.s .z .z) .z)) (.s .z .z))) H
def zbZ (a0:Value)(h:Heap)(R:Value→Heap→Prop):Prop:=
 vK (binV .sl .eql a0 (.slice none 0 0)) fun a=>
 iteK a (
 R (.slice none 0 0) h) (
 rowK #[] 22 0 [] h fun b c=>
 appK (.int .u16 0) 22 1 2 b a0 c fun d e=>
 R d e)
theorem zdJ (H:zbZ a0 h R):FCall prog zbc #[a0] h R:=fk f139 (.s .z (.s (.s .z (.s (.s .z .z) .z)) (.s .z .z))) H
def zfl (a0 a1:Value)(h:Heap)(R:Value→Heap→Prop):Prop:=
 newK #[(.int .i64 0),(.slice none 0 0)] 235 h fun c a=>
 vK (binV .i .lss a1 (.int .i64 0)) fun b=>
 vK (gV b false (some a1)) fun g=>
 vK (gV b false (some a0)) fun j=>
 vK (gV b false (nilV j)) fun k=>
 vK (gV b false (fldV 1 k)) fun l=>
 vK (gV b false (ldV a l)) fun m=>
 vK (gV b false (zae m)) fun n=>
 vK (gV b false (binV .i .geq g n)) fun o=>
 vK (pickV b (.bool true) o) fun p=>
 iteK p (
 vK ((fillL #[(.int .i64 0),(.slice none 0 0)] []).map .agg) fun q=>
 stK 2 c q a fun ah d=>
 vK (ldsV 2 d c) fun r=>
 R r d) (
 drawK a fun S=>
 vK (nilV a0) fun s=>
 vK (fldV 1 s) fun t=>
 qK S (fun a=>ldV a t) fun u=>
 vK (idxV 2 u a1) fun v=>
 vK (fldV 0 v) fun w=>
 qK S (fun a=>ldV a w) fun x=>
 vK (nilV a0) fun y=>
 vK (fldV 1 y) fun z=>
 qK S (fun a=>ldV a z) fun aa=>
 vK (idxV 2 aa a1) fun ab=>
 vK (fldV 1 ab) fun ac=>
 qK S (fun a=>ldV a ac) fun ad=>
 FCall prog zaL #[ad] a fun ae e=>
 S e∧(vK ((fillL #[(.int .i64 0),(.slice none 0 0)] [(0,1,x),(1,1,ae)]).map .agg) fun af=>
 stK 2 c af e fun ai f=>
 vK (ldsV 2 f c) fun ag=>
 R ag f))
theorem zjF (H:zfl a0 a1 h R):FCall prog zaj #[a0,a1] h R:=fk f140 (.s .z (.s (.s .z (.s (.s .z .z) .z)) (.s (.d (.op 0 .r (.op 1 .r (.op 2 .r (.op 3 .r (.op 4 .r (.op 5 .r (.op 6 .r (.op 7 .r (.op 8 .r (.op 9 .r (.op 10 .r (.op 11 .r (.op 12 .r (.op 13 .r (.op 14 .r (.op 15 .r (.op 16 .e (.op 17 .r (.op 18 .n .nil)))))))))))))))))))) .z))) H
def zjd (a0 a1:Value)(h:Heap)(R:Value→Heap→Prop):Prop:=
 vK (binV .i .lss a1 (.int .i64 1)) fun w=>
 iteK w (
 R a0 h) (
 vK (binV .i .gtr a1 (.int .i64 64)) fun x=>
 iteK x (
 R (.int .i64 0) h) (
 vK ((fillL #[(.int .u64 0),(.int .u64 0)] [(0,1,(.int .u64 0)),(1,1,(.int .u64 1))]).map .agg) fun y=>
 newK #[(.int .u64 0),(.int .u64 0)] 293 h fun c z=>
 stK 2 c y z fun cf aa=>
 vK (binV .i .sub a1 (.int .i64 1)) fun ab=>
 loopK [(.int .i64 0)] aa fun p cg n ac=>
 vK (binV .i .lss (ix p 0) ab) fun ad=>
 iteK ad (
 vK (ldsV 2 n c) fun ae=>
 FCall prog zbf #[ae,(.int .u64 0)] n fun af ag=>
 stK 2 c af ag fun ch ah=>
 vK (binV .i .add (ix p 0) (.int .i64 1)) fun ai=>
 ac [ai] ah) (
 FCall prog zbx #[a0] n fun aj ak=>
 vK ((fillL #[(.int .u64 0),(.int .u64 0)] [(0,1,(.int .u64 0)),(1,1,aj)]).map .agg) fun al=>
 newK #[(.int .u64 0),(.int .u64 0)] 293 ak fun j am=>
 stK 2 j al am fun ci an=>
 vK ((fillL #[(.int .u64 0),(.int .u64 0)] []).map .agg) fun ao=>
 newK #[(.int .u64 0),(.int .u64 0)] 293 an fun b ap=>
 stK 2 b ao ap fun cj aq=>
 loopK [(.int .i64 127)] aq fun o ck a ar=>
 vK (binV .i .geq (ix o 0) a1) fun au=>
 iteK au (
 drawK a fun S=>
 qK S (fun a=>ldsV 2 a b) fun av=>
 qK S (fun a=>ldsV 2 a j) fun aw=>
 FCall prog zcl #[aw,(ix o 0)] a fun ax q=>
 S q∧(FCall prog zbf #[av,ax] q fun ay az=>
 stK 2 b ay az fun cl a2=>
 vK (binV .i .sub (ix o 0) (.int .i64 1)) fun a3=>
 ar [a3] a2)) (
 vK (ldsV 2 a j) fun a4=>
 newK #[(.int .u64 0),(.int .u64 0)] 293 a fun d a5=>
 stK 2 d a4 a5 fun cm a6=>
 loopK [a1] a6 fun e cn f r=>
 vK (binV .i .lss (ix e 0) (.int .i64 128)) fun a7=>
 iteK a7 (
 vK (ldsV 2 f j) fun a8=>
 FCall prog zcl #[a8,(ix e 0)] f fun a9 s=>
 vK (binV .i .eql a9 (.int .u64 1)) fun ba=>
 iteK ba (
 vK ((fillL #[(.int .u64 0),(.int .u64 0)] [(0,1,(.int .u64 0)),(1,1,(.int .u64 1))]).map .agg) fun bb=>
 newK #[(.int .u64 0),(.int .u64 0)] 293 s fun k bc=>
 stK 2 k bb bc fun co bd=>
 loopK [(.int .i64 0)] bd fun t cp g be=>
 vK (binV .i .lss (ix t 0) (ix e 0)) fun bf=>
 iteK bf (
 vK (ldsV 2 g k) fun bg=>
 FCall prog zbf #[bg,(.int .u64 0)] g fun bh bi=>
 stK 2 k bh bi fun cq bj=>
 vK (binV .i .add (ix t 0) (.int .i64 1)) fun bk=>
 be [bk] bj) (
 vK (ldsV 2 g d) fun bl=>
 vK (ldsV 2 g k) fun bm=>
 FCall prog ze2 #[bl,bm] g fun bn bo=>
 stK 2 d bn bo fun cr bp=>
 vK (binV .i .add (ix e 0) (.int .i64 1)) fun bq=>
 r [bq] bp)) (
 vK (binV .i .add (ix e 0) (.int .i64 1)) fun br=>
 r [br] s)) (
 vK (ldsV 2 f d) fun bs=>
 vK (ldsV 2 f c) fun bt=>
 FCall prog zcG #[bs,bt] f fun bu l=>
 vK (unV .not bu) fun bv=>
 joinK (fun u=>
 vK (binV .i .lss a0 (.int .i64 0)) fun bw=>
 iteK bw (
 vK (ldsV 2 l c) fun bx=>
 vK (ldsV 2 l d) fun bz=>
 FCall prog zcG #[bx,bz] l fun b0 b1=>
 u [b0] b1) (
 u [bv] l))
 fun b2 cs m=>
 iteK (ix b2 0) (
 vK (ldsV 2 m b) fun b3=>
 vK ((fillL #[(.int .u64 0),(.int .u64 0)] [(0,1,(.int .u64 0)),(1,1,(.int .u64 1))]).map .agg) fun b4=>
 FCall prog zcg #[b3,b4] m fun b5 b6=>
 stK 2 b b5 b6 fun ct v=>
 vK (ldsV 2 v b) fun b7=>
 vK (binV .i .lss a0 (.int .i64 0)) fun b8=>
 FCall prog za2 #[b7,b8] v fun b9 ca=>
 R b9 ca) (
 vK (ldsV 2 m b) fun cb=>
 vK (binV .i .lss a0 (.int .i64 0)) fun cc=>
 FCall prog za2 #[cb,cc] m fun cd ce=>
 R cd ce))))))
theorem zoB (H:zjd a0 a1 h R):FCall prog zdG #[a0,a1] h R:=fk f143 (.s .z (.s (.s .z (.s (.s .z .z) .z)) (.s (.s .z (.s (.s .z .z) .z)) (.s .z (.s (.s .z (.l 65011712 [21] (.s .z (.s (.s .z .z) (.s .z .z))))) (.s .z (.s .z (.s (.s .z (.l 1098437886208 [8] (.s (.s .z (.s .z .z)) (.s (.d (.op 0 .r (.op 1 .r (.op 2 .r (.op 3 .e (.op 4 .n (.op 5 .n .nil))))))) .z)))) (.s .z (.s (.s .z (.l 1152917106560338944 [10] (.s (.s .z (.s .z .z)) (.s (.s .z (.s (.s .z (.s (.s .z (.l 139611588448485376 [52] (.s .z (.s (.s .z .z) (.s .z .z))))) .z)) .z)) .z)))) (.s .z (.j 571849066284996104192 [12] (.s .z (.s .z .z)) (.s (.s .z (.s .z .z)) (.s .z .z)))))))))))))) H
def zfm (a0:Value)(h:Heap)(R:Value→Heap→Prop):Prop:=
 vK (nilV a0) fun a=>
 vK (fldV 0 a) fun b=>
 vK (ldV h b) fun c=>
 R c h
theorem zjG (H:zfm a0 h R):FCall prog zbn #[a0] h R:=fk f146 (.s .z (.s .z .z)) H
def zjt (a0:Value)(h:Heap)(R:Value→Heap→Prop):Prop:=
 vK (binV .i .lss a0 (.int .i64 0)) fun a=>
 vK (gV a false (some a0)) fun b=>
 vK (gV a false (ldV h (.pointer (some ⟨zec,0,none⟩)))) fun c=>
 vK (gV a false (zae c)) fun d=>
 vK (gV a false (binV .i .geq b d)) fun e=>
 vK (pickV a (.bool true) e) fun f=>
 iteK f (
 R (.string ⟨#[]⟩) h) (
 vK (ldV h (.pointer (some ⟨zec,0,none⟩))) fun g=>
 vK (idxV 1 g a0) fun j=>
 vK (ldV h j) fun k=>
 R k h)
theorem zoR (H:zjt a0 h R):FCall prog ze7 #[a0] h R:=fk f147 (.s .z (.s (.s .z (.s (.s .z .z) .z)) (.s .z .z))) H
def zjl (h:Heap)(R:Value→Heap→Prop):Prop:=
 vK ((fillL #[(.int .i64 0),(.int .i64 0),(.int .i64 0),(.int .i64 0),(.slice none 0 0),(.slice none 0 0),(.int .i64 0),(.int .i64 0),(.int .i64 0)] [(0,1,(.int .i64 3)),(7,1,(.int .i64 2)),(8,1,(.int .i64 1)),(6,1,(.int .i64 0))]).map .agg) fun q=>
 FCall prog zfK #[q,(.int .i64 4),(.int .i64 3)] h fun o r=>
 vK (extV o 0) fun s=>
 vK (extV o 1) fun t=>
 newK #[(.pointer none),(.pointer none),(.int .i64 0)] 46 r fun a u=>
 stK 3 a s u fun a2 v=>
 FCall prog zhk #[] v fun k b=>
 vK (gV k true (some t)) fun w=>
 vK (gV k true (binV .i .eql w (.int .i64 0))) fun x=>
 vK (pickV k x (.bool false)) fun g=>
 vK (gV g true (fldV 0 a)) fun y=>
 vK (gV g true (ldV b y)) fun z=>
 vK (gV g true (binV .p .neq z (.pointer none))) fun aa=>
 vK (pickV g aa (.bool false)) fun j=>
 vK (gV j true (fldV 1 a)) fun ab=>
 vK (gV j true (ldV b ab)) fun ac=>
 vK (gV j true (binV .p .neq ac (.pointer none))) fun ad=>
 vK (pickV j ad (.bool false)) fun c=>
 vK (gV c true (fldV 0 a)) fun ae=>
 vK (gV c true (ldV b ae)) fun af=>
 gK c true (fun ag=>FCall prog zbn #[af] b ag) b fun ah l=>
 vK (gV c true (binV .i .eql ah (.int .i64 4))) fun ai=>
 vK (pickV c ai (.bool false)) fun d=>
 vK (gV d true (fldV 0 a)) fun aj=>
 vK (gV d true (ldV l aj)) fun ak=>
 gK d true (fun al=>FCall prog zak #[ak] l al) l fun am m=>
 vK (gV d true (binV .i .eql am (.int .i64 2))) fun an=>
 vK (pickV d an (.bool false)) fun e=>
 vK (gV e true (fldV 1 a)) fun ao=>
 vK (gV e true (ldV m ao)) fun ap=>
 gK e true (fun aq=>FCall prog zbn #[ap] m aq) m fun ar n=>
 vK (gV e true (binV .i .eql ar (.int .i64 3))) fun au=>
 vK (pickV e au (.bool false)) fun f=>
 vK (gV f true (fldV 1 a)) fun av=>
 vK (gV f true (ldV n av)) fun aw=>
 gK f true (fun ax=>FCall prog zak #[aw] n ax) n fun ay az=>
 vK (gV f true (binV .i .eql ay (.int .i64 1))) fun a0=>
 vK (pickV f a0 (.bool false)) fun a1=>
 R a1 az
theorem zoJ (H:zjl h R):FCall prog ze5 #[] h R:=fk f163 (.s .z (.s .z (.s .z .z))) H
def zjm (h:Heap)(R:Value→Heap→Prop):Prop:=
 FCall prog zaB #[(.int .i64 2),(.int .i64 1),(.int .i64 3),(.int .i64 255)] h fun f g=>
 vK (extV f 0) fun b=>
 vK (extV f 1) fun l=>
 vK (binV .i .eql l (.int .i64 0)) fun d=>
 vK (gV d true (some b)) fun m=>
 vK (gV d true (binV .p .neq m (.pointer none))) fun n=>
 vK (pickV d n (.bool false)) fun a=>
 vK (gV a true (some b)) fun o=>
 gK a true (fun q=>FCall prog zcs #[o] g q) g fun r j=>
 vK (gV a true (zae r)) fun s=>
 vK (gV a true (binV .i .eql s (.int .i64 6))) fun t=>
 vK (pickV a t (.bool false)) fun c=>
 vK (gV c true (some b)) fun u=>
 gK c true (fun v=>FCall prog zbo #[u,(.int .i64 1),(.int .i64 0),(.int .i64 2),(.int .u16 256)] j v) j fun w k=>
 vK (gV c true (unV .not w)) fun x=>
 vK (pickV c x (.bool false)) fun e=>
 vK (gV e true (some b)) fun y=>
 gK e true (fun z=>FCall prog zbo #[y,(.int .i64 1),(.int .i64 0),(.int .i64 2),(.int .u16 255)] k z) k fun aa ab=>
 vK (pickV e aa (.bool false)) fun ac=>
 R ac ab
theorem zoK (H:zjm h R):FCall prog zhj #[] h R:=fk f164 (.s .z (.s .z (.s .z .z))) H
def zh2 (a0 a1:Value)(h:Heap)(R:Value→Heap→Prop):Prop:=
 newK (Value.cells a1) 46 h fun c j=>
 vK (ldsV 3 j c) fun q=>
 FCall prog zc4 #[a0,q] j fun r a=>
 vK (unV .not r) fun s=>
 iteK s (
 R (.tuple #[(.pointer none),(.int .i64 6)]) a) (
 drawK a fun S=>
 vK (fldV 0 c) fun t=>
 qK S (fun a=>ldV a t) fun u=>
 vK (fldV 1 c) fun v=>
 qK S (fun a=>ldV a v) fun w=>
 FCall prog zak #[u] a fun x k=>
 S k∧(FCall prog zak #[w] k fun y z=>
 FCall prog zai #[a0] z fun aa ab=>
 FCall prog zaq #[a0] ab fun ac ad=>
 FCall prog zaB #[x,y,aa,ac] ad fun l m=>
 vK (extV l 0) fun b=>
 vK (extV l 1) fun n=>
 vK (binV .i .neq n (.int .i64 0)) fun ae=>
 iteK ae (
 R (.tuple #[(.pointer none),n]) m) (
 FCall prog zaz #[b] m fun af ag=>
 loopK [(.int .i64 0)] ag fun d a6 o ah=>
 vK (binV .i .lss (ix d 0) af) fun ai=>
 iteK ai (
 FCall prog zaC #[b] o fun aj ak=>
 loopK [(.int .i64 0)] ak fun e a7 p al=>
 vK (binV .i .lss (ix e 0) aj) fun am=>
 iteK am (
 FCall prog zai #[b] p fun an ao=>
 loopK [(.int .i64 0)] ao fun f a8 g ap=>
 vK (binV .i .lss (ix f 0) an) fun aq=>
 iteK aq (
 vK (ldsV 3 g c) fun ar=>
 FCall prog ziz #[a0,ar,(ix e 0),(ix d 0),(ix f 0)] g fun au av=>
 FCall prog zaq #[a0] av fun aw ax=>
 FCall prog zej #[au,aw] ax fun ay az=>
 FCall prog zbo #[b,(ix e 0),(ix d 0),(ix f 0),ay] az fun a9 a2=>
 vK (binV .i .add (ix f 0) (.int .i64 1)) fun a3=>
 ap [a3] a2) (
 vK (binV .i .add (ix e 0) (.int .i64 1)) fun a4=>
 al [a4] g)) (
 vK (binV .i .add (ix d 0) (.int .i64 1)) fun a5=>
 ah [a5] p)) (
 R (.tuple #[b,(.int .i64 0)]) o))))
theorem znO (H:zh2 a0 a1 h R):FCall prog zgt #[a0,a1] h R:=fk f165 (.s .z (.s (.s .z (.s (.s .z .z) .z)) (.s (.d (.op 0 .r (.op 1 .r (.op 3 .r (.op 4 .r (.op 6 .r (.op 8 .r (.op 2 .e (.op 5 .n (.op 7 .n (.op 9 .n (.op 10 .n (.op 11 .r (.op 12 .r (.op 13 .r (.op 14 .r (.op 15 .r .nil))))))))))))))))) (.s (.s .z (.s (.s .z .z) .z)) (.s (.s .z (.l 18446744056529684224 [34] (.s .z (.s (.s .z .z) (.s (.s .z (.s .z (.l 9223371487098963456 [39] (.s .z (.s (.s .z .z) (.s (.s .z (.s .z (.l 4611668426241344512 [44] (.s .z (.s (.s .z .z) (.s (.s .z .z) .z)))))) .z)))))) .z))))) (.s .z .z)))))) H
def zkg (a0:Value)(h:Heap)(R:Value→Heap→Prop):Prop:=
 vK (binV .i .geq a0 (.int .i64 1)) fun a=>
 vK (gV a true (some a0)) fun b=>
 vK (gV a true (binV .i .leq b (.int .i64 65536))) fun c=>
 vK (pickV a c (.bool false)) fun d=>
 R d h
theorem zqc (H:zkg a0 h R):FCall prog zdm #[a0] h R:=fk f166 (.s .z (.s .z .z)) H
def zhT (a0 a1 a2:Value)(h:Heap)(R:Value→Heap→Prop):Prop:=
 vK (binV .i .lss a0 (.int .i64 0)) fun d=>
 vK (gV d false (some a0)) fun n=>
 vK (gV d false (binV .i .gtr n (.int .i64 2))) fun o=>
 vK (pickV d (.bool true) o) fun b=>
 vK (gV b false (some a1)) fun p=>
 gK b false (fun q=>FCall prog zey #[p] h q) h fun r e=>
 vK (gV b false (unV .not r)) fun s=>
 vK (pickV b (.bool true) s) fun c=>
 vK (gV c false (some a2)) fun t=>
 gK c false (fun u=>FCall prog zey #[t] e u) e fun v f=>
 vK (gV c false (unV .not v)) fun w=>
 vK (pickV c (.bool true) w) fun x=>
 iteK x (
 R (.tuple #[(.slice none 0 0),(.int .i64 6)]) f) (
 loopK [(.slice none 0 0),(.int .i64 0)] f fun a al g y=>
 vK (binV .i .lss (ix a 1) a2) fun z=>
 iteK z (
 FCall prog zha #[a0,a1,a2,(ix a 1)] g fun j aa=>
 vK (extV j 0) fun ab=>
 vK (extV j 1) fun ac=>
 FCall prog zb9 #[ac] aa fun k l=>
 vK (extV k 0) fun ad=>
 vK (extV k 1) fun m=>
 vK (binV .i .neq m (.int .i64 0)) fun ae=>
 iteK ae (
 R (.tuple #[(.slice none 0 0),m]) l) (
 vK ((fillL #[(.int .i64 0),(.slice none 0 0)] [(0,1,ab),(1,1,ad)]).map .agg) fun af=>
 rowK #[(.int .i64 0),(.slice none 0 0)] 161 1 [(0,2,af)] l fun ag ah=>
 appK (.agg #[.int .i64 0,.slice none 0 0]) 161 2 32 (ix a 0) ag ah fun ai aj=>
 vK (binV .i .add (ix a 1) (.int .i64 1)) fun ak=>
 y [ai,ak] aj)) (
 R (.tuple #[(ix a 0),(.int .i64 0)]) g))
theorem znF (H:zhT a0 a1 a2 h R):FCall prog zef #[a0,a1,a2] h R:=fk f167 (.s .z (.s (.s .z (.s (.s .z .z) .z)) (.s .z (.s (.s .z (.l 144115185928388544 [8,31] (.s .z (.s (.s .z .z) (.s (.s .z (.s .z (.s .z (.s (.s .z (.s (.s .z .z) .z)) .z)))) .z))))) (.s .z .z))))) H
def zgC (a0:Value)(h:Heap)(R:Value→Heap→Prop):Prop:=
 vK (binV .i .lss a0 (.int .i64 1)) fun c=>
 vK (gV c false (some a0)) fun f=>
 vK (gV c false (binV .i .gtr f (.int .i64 4194304))) fun g=>
 vK (pickV c (.bool true) g) fun j=>
 iteK j (
 R (.tuple #[(.slice none 0 0),(.int .i64 7)]) h) (
 loopK [(.int .i64 0)] h fun b z d k=>
 vK (binV .i .mul (ix b 0) (.int .i64 65536)) fun l=>
 vK (binV .i .mul (.int .i64 3) a0) fun m=>
 vK (binV .i .lss l m) fun n=>
 iteK n (
 vK (binV .i .add (ix b 0) (.int .i64 1)) fun o=>
 k [o] d) (
 vK (unV .neg (ix b 0)) fun p=>
 loopK [(.slice none 0 0),p] d fun a aa e q=>
 vK (binV .i .leq (ix a 1) (ix b 0)) fun r=>
 iteK r (
 FCall prog zhc #[(ix a 1),a0] e fun s t=>
 rowK #[(.int .i64 0)] 2 1 [(0,1,s)] t fun u v=>
 appK (.int .i64 0) 2 1 8 (ix a 0) u v fun w x=>
 vK (binV .i .add (ix a 1) (.int .i64 1)) fun y=>
 q [w,y] x) (
 R (.tuple #[(ix a 0),(.int .i64 0)]) e)))
theorem zlC (H:zgC a0 h R):FCall prog zeH #[a0] h R:=fk f168 (.s .z (.s (.s .z (.s (.s .z .z) .z)) (.s .z (.s (.l 1040400 [4] (.s (.s .z (.s .z .z)) .z)) (.s .z (.s (.s .z (.l 8585740384 [5,6] (.s (.s .z (.s .z .z)) (.s .z .z)))) (.s .z .z))))))) H
def zkp (a0:Value)(h:Heap)(R:Value→Heap→Prop):Prop:=
 vK (binV .i .lss a0 (.int .i64 0)) fun b=>
 vK (gV b false (some a0)) fun e=>
 vK (gV b false (binV .i .gtr e (.int .i64 511))) fun f=>
 vK (pickV b (.bool true) f) fun g=>
 iteK g (
 R (.tuple #[(.slice none 0 0),(.int .i64 7)]) h) (
 vK (binV .i .mul (.int .i64 2) a0) fun j=>
 vK (binV .i .add j (.int .i64 1)) fun k=>
 loopK [(.slice none 0 0),(.int .i64 0)] h fun a v c l=>
 vK (binV .i .lss (ix a 1) k) fun m=>
 iteK m (
 rowK #[(.int .i64 0)] 2 1 [(0,1,(.int .i64 1))] c fun n o=>
 appK (.int .i64 0) 2 1 8 (ix a 0) n o fun p q=>
 vK (binV .i .add (ix a 1) (.int .i64 1)) fun r=>
 l [p,r] q) (
 FCall prog zez #[(ix a 0)] c fun d s=>
 vK (extV d 0) fun t=>
 vK (extV d 1) fun u=>
 R (.tuple #[t,u]) s))
theorem zql (H:zkp a0 h R):FCall prog zir #[a0] h R:=fk f169 (.s .z (.s (.s .z (.s (.s .z .z) .z)) (.s .z (.s (.s .z (.l 1032208 [4,14] (.s .z (.s (.s .z .z) (.s .z .z))))) (.s .z .z))))) H
def zkm (a0:Value)(h:Heap)(R:Value→Heap→Prop):Prop:=
 FCall prog zg9 #[a0] h fun c g=>
 vK (zae a0) fun j=>
 vK (binV .i .rem j (.int .i64 2)) fun k=>
 vK (binV .i .eql k (.int .i64 0)) fun b=>
 vK (gV b false (some a0)) fun l=>
 vK (gV b false (zae l)) fun m=>
 vK (gV b false (binV .i .gtr m (.int .i64 1024))) fun n=>
 vK (pickV b (.bool true) n) fun d=>
 vK (gV d false (some c)) fun o=>
 vK (gV d false (binV .i .eql o (.int .i64 0))) fun p=>
 vK (pickV d (.bool true) p) fun e=>
 vK (gV e false (some c)) fun q=>
 vK (gV e false (binV .i .gtr q (.int .i64 1048576))) fun r=>
 vK (pickV e (.bool true) r) fun s=>
 iteK s (
 R (.tuple #[(.slice none 0 0),(.int .i64 7)]) g) (
 vK (zae a0) fun t=>
 loopK [(.slice none 0 0),(.int .i64 0)] g fun a af f u=>
 vK (binV .i .lss (ix a 1) t) fun v=>
 iteK v (
 vK (idxV 1 a0 (ix a 1)) fun w=>
 vK (ldV f w) fun x=>
 FCall prog zaQ #[x,(.int .i64 1073741824),c] f fun y z=>
 rowK #[(.int .i64 0)] 2 1 [(0,1,y)] z fun aa ab=>
 appK (.int .i64 0) 2 1 8 (ix a 0) aa ab fun ac ad=>
 vK (binV .i .add (ix a 1) (.int .i64 1)) fun ae=>
 u [ac,ae] ad) (
 R (.tuple #[(ix a 0),(.int .i64 0)]) f))
theorem zqi (H:zkm a0 h R):FCall prog zez #[a0] h R:=fk f170 (.s .z (.s .z (.s (.s .z (.s (.s .z .z) .z)) (.s .z (.s (.s .z (.l 1098974757024 [5,29] (.s .z (.s (.s .z .z) (.s (.s .z .z) .z))))) (.s .z .z)))))) H
def zhU (a0 a1:Value)(h:Heap)(R:Value→Heap→Prop):Prop:=
 FCall prog zey #[a1] h fun g b=>
 vK (unV .not g) fun j=>
 iteK j (
 R (.tuple #[(.slice none 0 0),(.int .i64 6)]) b) (
 vK (zae a0) fun k=>
 vK (binV .i .rem k (.int .i64 2)) fun l=>
 vK (binV .i .eql l (.int .i64 0)) fun m=>
 iteK m (
 R (.tuple #[(.slice none 0 0),(.int .i64 7)]) b) (
 FCall prog zb9 #[a0] b fun c d=>
 vK (extV c 0) fun n=>
 vK (extV c 1) fun e=>
 vK (binV .i .neq e (.int .i64 0)) fun o=>
 iteK o (
 R (.tuple #[(.slice none 0 0),e]) d) (
 loopK [(.slice none 0 0),(.int .i64 0)] d fun a aa f p=>
 vK (binV .i .lss (ix a 1) a1) fun q=>
 iteK q (
 vK (zae a0) fun r=>
 vK (binV .i .quo r (.int .i64 2)) fun s=>
 vK (binV .i .sub (ix a 1) s) fun t=>
 vK ((fillL #[(.int .i64 0),(.slice none 0 0)] [(0,1,t),(1,1,n)]).map .agg) fun u=>
 rowK #[(.int .i64 0),(.slice none 0 0)] 161 1 [(0,2,u)] f fun v w=>
 appK (.agg #[.int .i64 0,.slice none 0 0]) 161 2 32 (ix a 0) v w fun x y=>
 vK (binV .i .add (ix a 1) (.int .i64 1)) fun z=>
 p [x,z] y) (
 R (.tuple #[(ix a 0),(.int .i64 0)]) f))))
theorem znG (H:zhU a0 a1 h R):FCall prog zeg #[a0,a1] h R:=fk f171 (.s .z (.s (.s .z (.s (.s .z .z) .z)) (.s (.s .z (.s (.s .z .z) .z)) (.s .z (.s (.s .z (.s (.s .z .z) .z)) (.s .z (.s (.s .z (.l 1099444519680 [8,26] (.s .z (.s (.s .z .z) (.s (.s .z .z) .z))))) (.s .z .z)))))))) H
def zfP (a0:Value)(h:Heap)(R:Value→Heap→Prop):Prop:=
 vK (nilV a0) fun a=>
 vK (fldV 16 a) fun b=>
 vK (ldV h b) fun c=>
 vK (nilV a0) fun d=>
 vK (fldV 5 d) fun e=>
 vK (fldV 1 e) fun f=>
 vK (fldV 1 f) fun g=>
 vK (ldV h g) fun j=>
 vK (nilV a0) fun k=>
 vK (fldV 5 k) fun l=>
 vK (fldV 1 l) fun m=>
 vK (fldV 3 m) fun n=>
 vK (ldV h n) fun o=>
 vK (binV .i .add j o) fun p=>
 vK (binV .i .geq c p) fun q=>
 R q h
theorem zkP (H:zfP a0 h R):FCall prog zd2 #[a0] h R:=fk f172 (.s .z (.s .z .z)) H
def zfQ (a0:Value)(h:Heap)(R:Value→Heap→Prop):Prop:=
 newK #[(.int .i64 0),(.slice none 0 0)] 235 h fun b a=>
 drawK a fun S=>
 vK (nilV a0) fun d=>
 vK (fldV 2 d) fun e=>
 vK (fldV 1 e) fun f=>
 qK S (fun a=>ldV a f) fun g=>
 vK (nilV a0) fun i=>
 vK (fldV 16 i) fun j=>
 qK S (fun a=>ldV a j) fun k=>
 FCall prog zaj #[g,k] a fun l m=>
 stK 2 b l m fun o c=>
 vK (ldsV 2 c b) fun n=>
 R n c
theorem zkQ (H:zfQ a0 h R):FCall prog zcM #[a0] h R:=fk f173 (.s .z (.s (.d (.op 0 .r (.op 1 .r (.op 2 .r (.op 3 .r (.op 4 .r (.op 5 .r (.op 6 .r (.op 7 .r (.op 8 .r (.op 9 .n (.op 10 .n .nil)))))))))))) .z)) H
def zgB (a0 a1 a2:Value)(h:Heap)(R:Value→Heap→Prop):Prop:=
 loopK [a1] h fun a k b d=>
 vK (binV .i .lss (ix a 0) a2) fun e=>
 iteK e (
 FCall prog zdF #[a0,(ix a 0)] b fun f c=>
 vK (unV .not f) fun g=>
 iteK g (
 R (.tuple #[(ix a 0),(.bool true)]) c) (
 vK (binV .i .add (ix a 0) (.int .i64 1)) fun j=>
 d [j] c)) (
 R (.tuple #[(.int .i64 0),(.bool false)]) b)
theorem zlB (H:zgB a0 a1 a2 h R):FCall prog zeG #[a0,a1,a2] h R:=fk f174 (.s .z (.s (.s .z (.l 1048000 [8] (.s (.s .z (.s .z .z)) (.s (.s .z (.s (.s .z .z) .z)) .z)))) (.s .z .z))) H
def zmu (a0 a1 a2:Value)(h:Heap)(R:Value→Heap→Prop):Prop:=
 vK (binV .i .lss a2 (.int .i64 1)) fun a=>
 vK (gV a false (some a2)) fun c=>
 vK (gV a false (binV .i .gtr c (.int .i64 65536))) fun d=>
 vK (pickV a (.bool true) d) fun e=>
 iteK e (
 R (.int .i64 0) h) (
 vK (binV .i .eql a0 (.int .i64 0)) fun f=>
 iteK f (
 vK (binV .i .sub a2 (.int .i64 1)) fun g=>
 FCall prog ze6 #[a1,(.int .i64 0),g] h fun j k=>
 R j k) (
 vK (binV .i .eql a0 (.int .i64 1)) fun l=>
 iteK l (
 vK (binV .i .mul (.int .i64 2) a2) fun m=>
 FCall prog zfM #[a1,m] h fun b n=>
 vK (binV .i .mul (.int .i64 2) a2) fun o=>
 vK (binV .i .sub o (.int .i64 1)) fun p=>
 vK (binV .i .sub p b) fun q=>
 vK (minV b q) fun r=>
 R r n) (
 vK (binV .i .eql a0 (.int .i64 2)) fun s=>
 iteK s (
 FCall prog zfM #[a1,a2] h fun t u=>
 R t u) (
 R (.int .i64 0) h))))
theorem ok_border_At (H:zmu a0 a1 a2 h R):FCall prog zd8 #[a0,a1,a2] h R:=fk f175 (.s .z (.s (.s .z (.s (.s .z .z) .z)) (.s (.s .z (.s .z (.s (.s .z .z) (.s .z (.s (.s .z (.s .z .z)) (.s .z (.s (.s .z .z) .z))))))) (.s .z .z)))) H
def zeK (a0 a1 a2 a3:Value)(h:Heap)(R:Value→Heap→Prop):Prop:=
 vK (nilV a0) fun l=>
 vK (fldV 2 l) fun m=>
 vK (fldV 0 m) fun n=>
 vK (ldV h n) fun o=>
 FCall prog zaj #[o,a1] h fun p q=>
 newK #[(.int .i64 0),(.slice none 0 0)] 235 q fun d r=>
 stK 2 d p r fun bb f=>
 vK (nilV a0) fun s=>
 vK (fldV 0 s) fun t=>
 vK (ldV f t) fun u=>
 FCall prog zai #[u] f fun v w=>
 loopK [a3,(.int .i64 0)] w fun c bc e x=>
 vK (binV .i .lss (ix c 1) v) fun y=>
 iteK y (
 vK (fldV 1 d) fun z=>
 vK (ldV e z) fun g=>
 vK (zae g) fun aa=>
 loopK [(.int .i64 0),(.int .i64 0)] e fun b bd a ab=>
 vK (binV .i .lss (ix b 1) aa) fun ac=>
 iteK ac (
 vK (idxV 1 g (ix b 1)) fun ad=>
 vK (ldV a ad) fun ae=>
 drawK a fun S=>
 vK (nilV a0) fun af=>
 vK (fldV 2 af) fun ag=>
 vK (fldV 2 ag) fun ah=>
 qK S (fun a=>ldV a ah) fun ai=>
 vK (fldV 0 d) fun aj=>
 qK S (fun a=>ldV a aj) fun ak=>
 vK (binV .i .add ak (ix b 1)) fun al=>
 vK (nilV a0) fun am=>
 vK (fldV 0 am) fun an=>
 qK S (fun a=>ldV a an) fun ao=>
 FCall prog zaC #[ao] a fun ap j=>
 S j∧(FCall prog zd8 #[ai,al,ap] j fun aq k=>
 vK (nilV a0) fun ar=>
 vK (fldV 0 ar) fun au=>
 vK (ldV k au) fun av=>
 FCall prog zca #[av,aq,a2,(ix c 1)] k fun aw ax=>
 vK (cviV .i64 aw) fun ay=>
 vK (binV .i .mul ae ay) fun az=>
 vK (binV .i .add (ix b 0) az) fun a4=>
 vK (binV .i .add (ix b 1) (.int .i64 1)) fun a5=>
 ab [a4,a5] ax)) (
 rowK #[(.int .i64 0)] 2 1 [(0,1,(ix b 0))] a fun a6 a7=>
 appK (.int .i64 0) 2 1 8 (ix c 0) a6 a7 fun a8 a9=>
 vK (binV .i .add (ix c 1) (.int .i64 1)) fun ba=>
 x [a8,ba] a9)) (
 R (ix c 0) e)
theorem ziU (H:zeK a0 a1 a2 a3 h R):FCall prog zdd #[a0,a1,a2,a3] h R:=fk f176 (.s .z (.s .z (.s (.s .z (.l 4722366482869511027720 [3,27] (.s .z (.s (.s .z .z) (.s (.s .z (.s .z (.s (.s .z (.l 147573952581086509056 [11,33] (.s .z (.s (.s .z .z) (.s (.s .z (.s (.d (.op 0 .r (.op 1 .r (.op 2 .r (.op 3 .r (.op 4 .r (.op 5 .r (.op 6 .r (.op 7 .r (.op 8 .r (.op 9 .r (.op 10 .r (.op 11 .r (.op 12 .r (.op 13 .e (.op 14 .n (.op 15 .r .nil))))))))))))))))) .z)) .z))))) .z))) .z))))) (.s .z .z)))) H
def zht (a0 a1 a2:Value)(h:Heap)(R:Value→Heap→Prop):Prop:=
 vK (zae a2) fun k=>
 vK (nilV a0) fun l=>
 vK (fldV 1 l) fun m=>
 vK (ldV h m) fun n=>
 vK (binV .i .neq k n) fun b=>
 vK (gV b false (some a0)) fun o=>
 vK (gV b false (some a1)) fun p=>
 gK b false (fun q=>FCall prog zdF #[o,p] h q) h fun r c=>
 vK (pickV b (.bool true) r) fun s=>
 iteK s (
 R (.bool false) c) (
 joinK (fun d=>
 FCall prog zd6 #[a0] c fun e a=>
 vK (extV e 0) fun f=>
 vK (extV e 1) fun aj=>
 vK (nilV a0) fun t=>
 vK (fldV 2 t) fun u=>
 vK (ldV a u) fun v=>
 vK (lenmV a v) fun w=>
 vK (nilV a0) fun x=>
 vK (fldV 0 x) fun y=>
 vK (ldV a y) fun z=>
 vK (binV .i .geq w z) fun aa=>
 iteK aa (
 vK (binV .i .lss a1 f) fun ab=>
 iteK ab (
 R (.bool false) a) (
 FCall prog zeF #[a0,f] a fun ak ac=>
 d [] ac)) (
 d [] a))
 fun al am ad=>
 FCall prog zd3 #[a0] ad fun g ae=>
 cpyK 1 g a2 ae fun an j=>
 vK (nilV a0) fun af=>
 vK (fldV 2 af) fun ag=>
 vK (ldV j ag) fun ah=>
 zgY (.int .i64) ah a1 g j fun ao ai=>
 R (.bool true) ai)
theorem zmL (H:zht a0 a1 a2 h R):FCall prog zfG #[a0,a1,a2] h R:=fk f177 (.s .z (.s (.s .z (.s (.s .z .z) .z)) (.j 8796088828352 [] (.s .z (.s .z (.s (.s (.s .z (.s (.s .z .z) .z)) .z) .z))) (.s .z (.s .z (.s .z (.s .z .z))))))) H
def zfW (a0:Value)(h:Heap)(R:Value→Heap→Prop):Prop:=
 vK (nilV a0) fun a=>
 vK (fldV 1 a) fun b=>
 vK (ldV h b) fun c=>
 R c h
theorem zkW (H:zfW a0 h R):FCall prog zd5 #[a0] h R:=fk f178 (.s .z (.s .z .z)) H
def zhs (a0 a1:Value)(h:Heap)(R:Value→Heap→Prop):Prop:=
 vK (nilV a0) fun b=>
 vK (fldV 2 b) fun c=>
 vK (ldV h c) fun d=>
 vK (lookV (.int .i64) (.slice none 0 0) true h d a1) fun a=>
 vK (extV a 0) fun e=>
 vK (extV a 1) fun f=>
 FCall prog zaL #[e] h fun g i=>
 R (.tuple #[g,f]) i
theorem zmK (H:zhs a0 a1 h R):FCall prog zfF #[a0,a1] h R:=fk f179 (.s .z (.s .z (.s .z .z))) H
def zfn (a0 a1 a2 a3 a4:Value)(h:Heap)(R:Value→Heap→Prop):Prop:=
 FCall prog zb4 #[a0,a1,a2,a3] h fun c b=>
 vK (binV .i .lss c (.int .i64 0)) fun a=>
 vK (gV a false (some a4)) fun d=>
 vK (gV a false (cviV .i64 d)) fun e=>
 vK (gV a false (some a0)) fun f=>
 vK (gV a false (nilV f)) fun g=>
 vK (gV a false (fldV 3 g)) fun j=>
 vK (gV a false (ldV b j)) fun k=>
 vK (gV a false (binV .i .gtr e k)) fun l=>
 vK (pickV a (.bool true) l) fun m=>
 iteK m (
 R (.bool false) b) (
 vK (nilV a0) fun n=>
 vK (fldV 4 n) fun o=>
 vK (ldV b o) fun p=>
 vK (idxV 1 p c) fun q=>
 stK 1 q a4 b fun s r=>
 R (.bool true) r)
theorem zjH (H:zfn a0 a1 a2 a3 a4 h R):FCall prog zbo #[a0,a1,a2,a3,a4] h R:=fk f180 (.s .z (.s .z (.s (.s .z (.s (.s .z .z) .z)) (.s .z (.s .z .z))))) H
def zh1 (a0 a1:Value)(h:Heap)(R:Value→Heap→Prop):Prop:=
 FCall prog zcQ #[a0,(.int .i64 28)] h fun a b=>
 vK (minV a1 (.int .i64 65535)) fun c=>
 vK (maxV (.int .i64 0) c) fun d=>
 FCall prog ze6 #[a,(.int .i64 0),d] b fun e f=>
 vK (cviV .u16 e) fun g=>
 R g f
theorem znN (H:zh1 a0 a1 h R):FCall prog zej #[a0,a1] h R:=fk f181 (.s .z (.s .z .z)) H
def zfV (a0:Value)(h:Heap)(R:Value→Heap→Prop):Prop:=
 vK (nilV a0) fun a=>
 vK (fldV 0 a) fun b=>
 vK (ldV h b) fun c=>
 vK (nilV a0) fun d=>
 vK (fldV 1 d) fun e=>
 vK (ldV h e) fun f=>
 vK (binV .i .mul c f) fun g=>
 R g h
theorem zkV (H:zfV a0 h R):FCall prog zd4 #[a0] h R:=fk f182 (.s .z (.s .z .z)) H
def znk (a0:Value)(h:Heap)(R:Value→Heap→Prop):Prop:=
 vK (binV .i .lss a0 (.int .i64 0)) fun a=>
 vK (gV a false (some a0)) fun b=>
 vK (gV a false (binV .i .geq b (.int .i64 3))) fun c=>
 vK (pickV a (.bool true) c) fun d=>
 iteK d (
 R (.string ⟨#[]⟩) h) (
 vK (idxaV 3 2 (.pointer (some ⟨zbr,0,none⟩)) a0) fun e=>
 vK (fldV 0 e) fun f=>
 vK (ldV h f) fun g=>
 R g h)
theorem ok_raw_Name (H:znk a0 h R):FCall prog ziS #[a0] h R:=fk f183 (.s .z (.s (.s .z (.s (.s .z .z) .z)) (.s .z .z))) H
def zhQ (a0 a1 a2:Value)(h:Heap)(R:Value→Heap→Prop):Prop:=
 FCall prog ziS #[a0] h fun o d=>
 vK (binV .s .eql o (.string ⟨#[]⟩)) fun a=>
 vK (gV a false (some a1)) fun p=>
 gK a false (fun q=>FCall prog zex #[p] d q) d fun r e=>
 vK (gV a false (unV .not r)) fun t=>
 vK (pickV a (.bool true) t) fun b=>
 vK (gV b false (some a2)) fun u=>
 gK b false (fun v=>FCall prog zex #[u] e v) e fun w f=>
 vK (gV b false (unV .not w)) fun x=>
 vK (pickV b (.bool true) x) fun y=>
 iteK y (
 R (.tuple #[(.pointer none),(.int .i64 6)]) f) (
 vK ((fillL #[(.int .i64 0),(.slice none 0 0),(.int .i64 0),(.int .i64 0)] [(0,1,a1)]).map .agg) fun z=>
 newK (Value.cells z) 154 f fun g aa=>
 loopK [(.int .i64 0)] aa fun c ak j ab=>
 vK (binV .i .lss (ix c 0) a2) fun ac=>
 iteK ac (
 FCall prog zlm #[a0,a1,a2,(ix c 0)] j fun k ad=>
 vK (extV k 0) fun ae=>
 vK (extV k 1) fun af=>
 FCall prog zcp #[af] ad fun l m=>
 vK (extV l 0) fun ag=>
 vK (extV l 1) fun n=>
 vK (binV .i .neq n (.int .i64 0)) fun ah=>
 iteK ah (
 R (.tuple #[(.pointer none),n]) m) (
 FCall prog zcN #[g,ae,ag] m fun al ai=>
 vK (binV .i .add (ix c 0) (.int .i64 1)) fun aj=>
 ab [aj] ai)) (
 R (.tuple #[g,(.int .i64 0)]) j))
theorem znC (H:zhQ a0 a1 a2 h R):FCall prog zc3 #[a0,a1,a2] h R:=fk f184 (.s .z (.s (.s .z (.s (.s .z .z) .z)) (.s .z (.s (.s .z (.l 36028794871496384 [31] (.s .z (.s (.s .z .z) (.s (.s .z (.s .z (.s .z (.s (.s .z (.s (.s .z .z) .z)) .z)))) .z))))) (.s .z .z))))) H
def zkz (a0:Value)(h:Heap)(R:Value→Heap→Prop):Prop:=
 newK (Value.cells a0) 31 h fun b a=>
 vK (fldV 0 b) fun n=>
 vK (ldV a n) fun d=>
 vK (binV .i .eql d (.int .i64 0)) fun o=>
 iteK o (
 vK (fldV 2 b) fun p=>
 vK (ldV a p) fun q=>
 FCall prog zdE #[q] a fun e r=>
 vK (extV e 0) fun f=>
 vK (extV e 1) fun s=>
 R (.tuple #[f,f,s]) r) (
 vK (binV .i .eql d (.int .i64 1)) fun t=>
 iteK t (
 vK (fldV 3 b) fun u=>
 vK (ldV a u) fun v=>
 FCall prog zjQ #[v] a fun g w=>
 vK (extV g 0) fun j=>
 vK (extV g 1) fun x=>
 R (.tuple #[j,j,x]) w) (
 vK (fldV 4 b) fun y=>
 vK (ldV a y) fun z=>
 FCall prog zfE #[z] a fun k c=>
 vK (extV k 0) fun aa=>
 vK (extV k 1) fun l=>
 vK (binV .i .neq l (.int .i64 0)) fun ab=>
 iteK ab (
 R (.tuple #[(.slice none 0 0),(.slice none 0 0),l]) c) (
 vK (fldV 5 b) fun ac=>
 vK (ldV c ac) fun ad=>
 FCall prog zfE #[ad] c fun m ae=>
 vK (extV m 0) fun af=>
 vK (extV m 1) fun ag=>
 R (.tuple #[aa,af,ag]) ae)))
theorem zqv (H:zkz a0 h R):FCall prog ziu #[a0] h R:=fk f185 (.s .z (.s (.s .z (.s .z (.s (.s .z (.s .z .z)) (.s .z (.s (.s .z (.s .z .z)) .z))))) (.s (.s .z (.s .z (.s (.s .z .z) .z))) (.s .z (.s .z .z))))) H
def zhR (a0 a1:Value)(h:Heap)(R:Value→Heap→Prop):Prop:=
 FCall prog zex #[a1] h fun k a=>
 vK (unV .not k) fun l=>
 iteK l (
 R (.tuple #[(.pointer none),(.int .i64 6)]) a) (
 vK (zae a0) fun m=>
 vK (binV .i .rem m (.int .i64 2)) fun n=>
 vK (binV .i .eql n (.int .i64 0)) fun o=>
 iteK o (
 R (.tuple #[(.pointer none),(.int .i64 7)]) a) (
 FCall prog zcp #[a0] a fun c d=>
 vK (extV c 0) fun e=>
 vK (extV c 1) fun f=>
 vK (binV .i .neq f (.int .i64 0)) fun p=>
 iteK p (
 R (.tuple #[(.pointer none),f]) d) (
 vK ((fillL #[(.int .i64 0),(.slice none 0 0),(.int .i64 0),(.int .i64 0)] [(0,1,a1)]).map .agg) fun q=>
 newK (Value.cells q) 154 d fun g r=>
 loopK [(.int .i64 0)] r fun b z j s=>
 vK (binV .i .lss (ix b 0) a1) fun t=>
 iteK t (
 vK (zae e) fun u=>
 vK (binV .i .quo u (.int .i64 2)) fun v=>
 vK (binV .i .sub (ix b 0) v) fun w=>
 FCall prog zcN #[g,w,e] j fun aa x=>
 vK (binV .i .add (ix b 0) (.int .i64 1)) fun y=>
 s [y] x) (
 R (.tuple #[g,(.int .i64 0)]) j))))
theorem znD (H:zhR a0 a1 h R):FCall prog zee #[a0,a1] h R:=fk f186 (.s .z (.s (.s .z (.s (.s .z .z) (.s .z (.s (.s .z .z) .z)))) (.s .z (.s (.s .z (.s (.s .z .z) .z)) (.s .z (.s (.s .z (.l 8793945539072 [31] (.s .z (.s (.s .z .z) (.s (.s .z .z) .z))))) (.s .z .z))))))) H
def zbg (a0:Value)(h:Heap)(R:Value→Heap→Prop):Prop:=
 vK (binV .sl .eql a0 (.slice none 0 0)) fun a=>
 iteK a (
 R (.slice none 0 0) h) (
 rowK #[] 2 0 [] h fun b c=>
 appK (.int .i64 0) 2 1 8 b a0 c fun d e=>
 R d e)
theorem zce (H:zbg a0 h R):FCall prog zaL #[a0] h R:=fk f187 (.s .z (.s (.s .z (.s (.s .z .z) .z)) (.s .z .z))) H
def zjb (a0 a1:Value)(h:Heap)(R:Value→Heap→Prop):Prop:=
 newK (Value.cells a0) 293 h fun b e=>
 newK #[(.int .u64 0),(.int .u64 0)] 293 e fun c a=>
 vK (fldV 0 b) fun f=>
 vK (ldV a f) fun g=>
 vK (binV .i .shl g (.int .u64 1)) fun j=>
 vK (fldV 1 b) fun k=>
 vK (ldV a k) fun l=>
 vK (binV .i .shr l (.int .u64 63)) fun m=>
 vK (binV .i .add j m) fun n=>
 vK (fldV 1 b) fun o=>
 vK (ldV a o) fun p=>
 vK (binV .i .shl p (.int .u64 1)) fun q=>
 vK (binV .i .add q a1) fun r=>
 vK ((fillL #[(.int .u64 0),(.int .u64 0)] [(0,1,n),(1,1,r)]).map .agg) fun s=>
 stK 2 c s a fun u d=>
 vK (ldsV 2 d c) fun t=>
 R t d
theorem zoz (H:zjb a0 a1 h R):FCall prog zbf #[a0,a1] h R:=fk f188 (.s .z (.s .z .z)) H
def zkr (a0:Value)(h:Heap)(R:Value→Heap→Prop):Prop:=
 vK (binV .i .lss a0 (.int .i64 0)) fun a=>
 iteK a (
 vK (binV .i .add a0 (.int .i64 1)) fun b=>
 vK (unV .neg b) fun c=>
 vK (cviV .u64 c) fun d=>
 vK (binV .i .add d (.int .u64 1)) fun e=>
 R e h) (
 vK (cviV .u64 a0) fun f=>
 R f h)
theorem zqn (H:zkr a0 h R):FCall prog zbx #[a0] h R:=fk f189 (.s .z (.s (.s .z (.s (.s .z .z) .z)) (.s .z .z))) H
def zmk (a0 a1:Value)(h:Heap)(R:Value→Heap→Prop):Prop:=
 newK (Value.cells a0) 293 h fun b a=>
 vK (binV .i .geq a1 (.int .i64 64)) fun c=>
 iteK c (
 vK (fldV 0 b) fun d=>
 vK (ldV a d) fun e=>
 vK (binV .i .sub a1 (.int .i64 64)) fun f=>
 vK (binV .i .shr e f) fun g=>
 vK (binV .i .and g (.int .u64 1)) fun j=>
 R j a) (
 vK (fldV 1 b) fun k=>
 vK (ldV a k) fun l=>
 vK (binV .i .shr l a1) fun m=>
 vK (binV .i .and m (.int .u64 1)) fun n=>
 R n a)
theorem ok_ref01_Bit (H:zmk a0 a1 h R):FCall prog zcl #[a0,a1] h R:=fk f190 (.s .z (.s (.s .z (.s (.s .z .z) .z)) (.s .z .z))) H
def zje (a0 a1:Value)(h:Heap)(R:Value→Heap→Prop):Prop:=
 newK (Value.cells a0) 293 h fun e l=>
 newK (Value.cells a1) 293 l fun f m=>
 newK #[(.int .u64 0),(.int .u64 0)] 293 m fun d b=>
 vK (fldV 0 e) fun n=>
 vK (ldV b n) fun o=>
 vK (fldV 0 f) fun p=>
 vK (ldV b p) fun q=>
 vK (binV .i .sub o q) fun r=>
 vK (fldV 1 e) fun s=>
 vK (ldV b s) fun t=>
 vK (fldV 1 f) fun u=>
 vK (ldV b u) fun v=>
 vK (binV .i .sub t v) fun w=>
 vK ((fillL #[(.int .u64 0),(.int .u64 0)] [(0,1,r),(1,1,w)]).map .agg) fun x=>
 newK #[(.int .u64 0),(.int .u64 0)] 293 b fun c y=>
 stK 2 c x y fun am a=>
 vK (fldV 1 e) fun z=>
 vK (ldV a z) fun aa=>
 vK (fldV 1 f) fun ab=>
 vK (ldV a ab) fun ac=>
 vK (binV .i .lss aa ac) fun ad=>
 iteK ad (
 vK (fldV 0 c) fun ae=>
 vK (ldV a ae) fun af=>
 vK (binV .i .sub af (.int .u64 1)) fun ag=>
 vK (fldV 0 c) fun ah=>
 stK 1 ah ag a fun an g=>
 vK (ldsV 2 g c) fun ai=>
 stK 2 d ai g fun ao j=>
 vK (ldsV 2 j d) fun aj=>
 R aj j) (
 vK (ldsV 2 a c) fun ak=>
 stK 2 d ak a fun ap k=>
 vK (ldsV 2 k d) fun al=>
 R al k)
theorem zoC (H:zje a0 a1 h R):FCall prog ze2 #[a0,a1] h R:=fk f191 (.s .z (.s .z (.s (.s .z (.s .z .z)) (.s .z .z)))) H
def zku (a0 a1:Value)(h:Heap)(R:Value→Heap→Prop):Prop:=
 newK (Value.cells a0) 293 h fun b d=>
 newK (Value.cells a1) 293 d fun c a=>
 vK (fldV 0 b) fun e=>
 vK (ldV a e) fun f=>
 vK (fldV 0 c) fun g=>
 vK (ldV a g) fun j=>
 vK (binV .i .neq f j) fun k=>
 iteK k (
 vK (fldV 0 b) fun l=>
 vK (ldV a l) fun m=>
 vK (fldV 0 c) fun n=>
 vK (ldV a n) fun o=>
 vK (binV .i .lss m o) fun p=>
 R p a) (
 vK (fldV 1 b) fun q=>
 vK (ldV a q) fun r=>
 vK (fldV 1 c) fun s=>
 vK (ldV a s) fun t=>
 vK (binV .i .lss r t) fun u=>
 R u a)
theorem zqq (H:zku a0 a1 h R):FCall prog zcG #[a0,a1] h R:=fk f192 (.s .z (.s (.s .z (.s (.s .z .z) .z)) (.s .z .z))) H
def zks (a0 a1:Value)(h:Heap)(R:Value→Heap→Prop):Prop:=
 newK (Value.cells a0) 293 h fun e l=>
 newK (Value.cells a1) 293 l fun f m=>
 newK #[(.int .u64 0),(.int .u64 0)] 293 m fun d c=>
 vK (fldV 0 e) fun n=>
 vK (ldV c n) fun o=>
 vK (fldV 0 f) fun p=>
 vK (ldV c p) fun q=>
 vK (binV .i .add o q) fun r=>
 vK (fldV 1 e) fun s=>
 vK (ldV c s) fun t=>
 vK (fldV 1 f) fun u=>
 vK (ldV c u) fun v=>
 vK (binV .i .add t v) fun w=>
 vK ((fillL #[(.int .u64 0),(.int .u64 0)] [(0,1,r),(1,1,w)]).map .agg) fun x=>
 newK #[(.int .u64 0),(.int .u64 0)] 293 c fun a y=>
 stK 2 a x y fun am b=>
 vK (fldV 1 a) fun z=>
 vK (ldV b z) fun aa=>
 vK (fldV 1 e) fun ab=>
 vK (ldV b ab) fun ac=>
 vK (binV .i .lss aa ac) fun ad=>
 iteK ad (
 vK (fldV 0 a) fun ae=>
 vK (ldV b ae) fun af=>
 vK (binV .i .add af (.int .u64 1)) fun ag=>
 vK (fldV 0 a) fun ah=>
 stK 1 ah ag b fun an g=>
 vK (ldsV 2 g a) fun ai=>
 stK 2 d ai g fun ao j=>
 vK (ldsV 2 j d) fun aj=>
 R aj j) (
 vK (ldsV 2 b a) fun ak=>
 stK 2 d ak b fun ap k=>
 vK (ldsV 2 k d) fun al=>
 R al k)
theorem zqo (H:zks a0 a1 h R):FCall prog zcg #[a0,a1] h R:=fk f193 (.s .z (.s .z (.s (.s .z (.s .z .z)) (.s .z .z)))) H
def zkv (a0 a1:Value)(h:Heap)(R:Value→Heap→Prop):Prop:=
 newK (Value.cells a0) 293 h fun b a=>
 iteK a1 (
 vK (fldV 0 b) fun e=>
 vK (ldV a e) fun f=>
 vK (binV .i .gtr f (.int .u64 0)) fun c=>
 vK (gV c false (fldV 1 b)) fun g=>
 vK (gV c false (ldV a g)) fun j=>
 vK (gV c false (binV .i .gtr j (.int .u64 9223372036854775807))) fun k=>
 vK (pickV c (.bool true) k) fun l=>
 iteK l (
 R (.int .i64 (-9223372036854775808)) a) (
 vK (fldV 1 b) fun m=>
 vK (ldV a m) fun n=>
 vK (cviV .i64 n) fun o=>
 vK (unV .neg o) fun p=>
 R p a)) (
 vK (fldV 0 b) fun q=>
 vK (ldV a q) fun r=>
 vK (binV .i .gtr r (.int .u64 0)) fun d=>
 vK (gV d false (fldV 1 b)) fun s=>
 vK (gV d false (ldV a s)) fun t=>
 vK (gV d false (binV .i .gtr t (.int .u64 9223372036854775807))) fun u=>
 vK (pickV d (.bool true) u) fun v=>
 iteK v (
 R (.int .i64 9223372036854775807) a) (
 vK (fldV 1 b) fun w=>
 vK (ldV a w) fun x=>
 vK (cviV .i64 x) fun y=>
 R y a))
theorem zqr (H:zkv a0 a1 h R):FCall prog za2 #[a0,a1] h R:=fk f194 (.s .z (.s (.s .z (.s (.s (.s .z (.s (.s .z .z) .z)) (.s .z .z)) .z)) (.s (.s .z (.s (.s .z .z) .z)) (.s .z .z)))) H
end
section
variable {a0 a1 a2 a3 a4 a5 a6:Value}{h:Heap}{R:Value→Heap→Prop}
def zjn (h:Heap)(R:Value→Heap→Prop):Prop:=
 FCall prog zhm #[] h fun s l=>
 vK (unV .not s) fun e=>
 gK e false (fun t=>FCall prog zhl #[] l t) l fun u m=>
 vK (gV e false (unV .not u)) fun v=>
 vK (pickV e (.bool true) v) fun w=>
 iteK w (
 R (.bool false) m) (
 FCall prog zc3 #[(.int .i64 0),(.int .i64 4),(.int .i64 2)] m fun n o=>
 vK (extV n 0) fun b=>
 vK (extV n 1) fun x=>
 vK (binV .i .neq x (.int .i64 0)) fun f=>
 vK (gV f false (some b)) fun y=>
 vK (gV f false (binV .p .eql y (.pointer none))) fun z=>
 vK (pickV f (.bool true) z) fun aa=>
 iteK aa (
 R (.bool false) o) (
 FCall prog zaj #[b,(.int .i64 1)] o fun ab ac=>
 newK #[(.int .i64 0),(.slice none 0 0)] 235 ac fun g ad=>
 stK 2 g ab ad fun a1 ae=>
 FCall prog zbF #[b,(.int .i64 0),(.int .i64 2)] ae fun q af=>
 vK (extV q 0) fun ag=>
 vK (extV q 1) fun ah=>
 FCall prog zaj #[b,(.int .i64 0)] af fun ai c=>
 vK (partV false 1 0 ai) fun aj=>
 vK (binV .i .eql aj (.int .i64 0)) fun d=>
 vK (gV d true (fldV 0 g)) fun ak=>
 vK (gV d true (ldV c ak)) fun al=>
 vK (gV d true (binV .i .eql al (.int .i64 2))) fun am=>
 vK (pickV d am (.bool false)) fun a=>
 vK (gV a true (fldV 1 g)) fun an=>
 vK (gV a true (ldV c an)) fun ao=>
 gK a true (fun ap=>rowK #[(.int .i64 0),(.int .i64 0)] 2 2 [(0,1,(.int .i64 8192)),(1,1,(.int .i64 8192))] c ap) c fun aq r=>
 gK a true (fun ar=>FCall prog zgi #[ao,aq] r ar) r fun au av=>
 vK (pickV a au (.bool false)) fun j=>
 vK (gV j true (some ag)) fun aw=>
 vK (gV j true (binV .i .eql aw (.int .i64 0))) fun ax=>
 vK (pickV j ax (.bool false)) fun k=>
 vK (gV k true (some ah)) fun ay=>
 vK (gV k true (binV .i .eql ay (.int .i64 4))) fun az=>
 vK (pickV k az (.bool false)) fun a0=>
 R a0 av))
theorem zoL (H:zjn h R):FCall prog zhk #[] h R:=fk f208 (.s .z (.s (.s .z (.s (.s .z .z) .z)) (.s .z (.s (.s .z (.s (.s .z .z) .z)) (.s .z (.s .z (.s .z .z))))))) H
def zkG (a0 a1 a2 a3 a4:Value)(h:Heap)(R:Value→Heap→Prop):Prop:=
 newK (Value.cells a1) 46 h fun m ab=>
 vK (ldsV 3 ab m) fun cm=>
 FCall prog zc4 #[a0,cm] ab fun cn ac=>
 vK (unV .not cn) fun t=>
 vK (gV t false (some a4)) fun co=>
 vK (gV t false (binV .i .lss co (.int .i64 0))) fun cp=>
 vK (pickV t (.bool true) cp) fun n=>
 vK (gV n false (some a4)) fun cq=>
 vK (gV n false (some a0)) fun cr=>
 gK n false (fun cs=>FCall prog zai #[cr] ac cs) ac fun ct c=>
 vK (gV n false (binV .i .geq cq ct)) fun cu=>
 vK (pickV n (.bool true) cu) fun cv=>
 iteK cv (
 R (.int .i64 0) c) (
 joinK (fun a=>
 drawK c fun S=>
 vK (fldV 0 m) fun cw=>
 qK S (fun c=>ldV c cw) fun o=>
 vK (fldV 1 m) fun cx=>
 qK S (fun c=>ldV c cx) fun b=>
 (FCall prog zaj #[o,a2] c fun f p=>
 S p∧((FCall prog zaj #[b,a3] p fun ad u=>
 S u∧((newK #[(.int .i64 0),(.slice none 0 0)] 235 u fun ae af=>
 S af∧(newK #[(.int .i64 0),(.slice none 0 0)] 235 af fun ag ah=>
 S ah∧(stK 2 ae f ah fun ea ai=>
 S ai∧(stK 2 ag ad ai fun eb aj=>
 S aj∧(a [ae,ag] aj)))))∧(newK #[(.int .i64 0),(.slice none 0 0)] 235 u fun ak al=>
 S al∧(newK #[(.int .i64 0),(.slice none 0 0)] 235 al fun am an=>
 S an∧(stK 2 am f an fun ec ao=>
 S ao∧(stK 2 ak ad ao fun ed ap=>
 S ap∧(a [am,ak] ap)))))))∧((newK #[(.int .i64 0),(.slice none 0 0)] 235 p fun q v=>
 S v∧((FCall prog zaj #[b,a3] v fun cy aq=>
 S aq∧(newK #[(.int .i64 0),(.slice none 0 0)] 235 aq fun ar au=>
 S au∧(stK 2 q f au fun ee av=>
 S av∧(stK 2 ar cy av fun ef aw=>
 S aw∧(a [q,ar] aw)))))∧(newK #[(.int .i64 0),(.slice none 0 0)] 235 v fun ax ay=>
 S ay∧(FCall prog zaj #[b,a3] ay fun cz az=>
 S az∧(stK 2 q f az fun eg a5=>
 S a5∧(stK 2 ax cz a5 fun eh a6=>
 S a6∧(a [q,ax] a6)))))))∧(newK #[(.int .i64 0),(.slice none 0 0)] 235 p fun r w=>
 S w∧((FCall prog zaj #[b,a3] w fun c0 a7=>
 S a7∧(newK #[(.int .i64 0),(.slice none 0 0)] 235 a7 fun a8 a9=>
 S a9∧(stK 2 a8 f a9 fun ei ba=>
 S ba∧(stK 2 r c0 ba fun ej bb=>
 S bb∧(a [a8,r] bb)))))∧(newK #[(.int .i64 0),(.slice none 0 0)] 235 w fun bc bd=>
 S bd∧(FCall prog zaj #[b,a3] bd fun c1 be=>
 S be∧(stK 2 bc f be fun ek bf=>
 S bf∧(stK 2 r c1 bf fun el bg=>
 S bg∧(a [bc,r] bg))))))))))∧((newK #[(.int .i64 0),(.slice none 0 0)] 235 c fun g x=>
 S x∧((FCall prog zaj #[o,a2] x fun bh y=>
 S y∧((FCall prog zaj #[b,a3] y fun c2 bi=>
 S bi∧(newK #[(.int .i64 0),(.slice none 0 0)] 235 bi fun bj bk=>
 S bk∧(stK 2 g bh bk fun em bl=>
 S bl∧(stK 2 bj c2 bl fun en bm=>
 S bm∧(a [g,bj] bm)))))∧(newK #[(.int .i64 0),(.slice none 0 0)] 235 y fun bn bo=>
 S bo∧(FCall prog zaj #[b,a3] bo fun c3 bp=>
 S bp∧(stK 2 g bh bp fun eo bq=>
 S bq∧(stK 2 bn c3 bq fun ep br=>
 S br∧(a [g,bn] br)))))))∧(newK #[(.int .i64 0),(.slice none 0 0)] 235 x fun bs bt=>
 S bt∧(FCall prog zaj #[o,a2] bt fun c4 bu=>
 S bu∧(FCall prog zaj #[b,a3] bu fun c5 bv=>
 S bv∧(stK 2 g c4 bv fun eq bw=>
 S bw∧(stK 2 bs c5 bw fun er bx=>
 S bx∧(a [g,bs] bx))))))))∧(newK #[(.int .i64 0),(.slice none 0 0)] 235 c fun j z=>
 S z∧((FCall prog zaj #[o,a2] z fun bz aa=>
 S aa∧((FCall prog zaj #[b,a3] aa fun c6 b0=>
 S b0∧(newK #[(.int .i64 0),(.slice none 0 0)] 235 b0 fun b1 b2=>
 S b2∧(stK 2 b1 bz b2 fun es b3=>
 S b3∧(stK 2 j c6 b3 fun et b4=>
 S b4∧(a [b1,j] b4)))))∧(newK #[(.int .i64 0),(.slice none 0 0)] 235 aa fun b5 b6=>
 S b6∧(FCall prog zaj #[b,a3] b6 fun c7 b7=>
 S b7∧(stK 2 b5 bz b7 fun eu b8=>
 S b8∧(stK 2 j c7 b8 fun ev b9=>
 S b9∧(a [b5,j] b9)))))))∧(newK #[(.int .i64 0),(.slice none 0 0)] 235 z fun ca cb=>
 S cb∧(FCall prog zaj #[o,a2] cb fun c8 cc=>
 S cc∧(FCall prog zaj #[b,a3] cc fun c9 cd=>
 S cd∧(stK 2 ca c8 cd fun ew ce=>
 S ce∧(stK 2 j c9 ce fun ex cf=>
 S cf∧(a [ca,j] cf))))))))))
 fun s ey cg=>
 vK (fldV 1 (ix s 1)) fun da=>
 vK (ldV cg da) fun ch=>
 vK (zae ch) fun db=>
 loopK [(.int .i64 0),(.int .i64 0)] cg fun k ez d dc=>
 vK (binV .i .lss (ix k 1) db) fun dd=>
 iteK dd (
 vK (idxV 1 ch (ix k 1)) fun de=>
 vK (ldV d de) fun df=>
 drawK d fun S=>
 vK (fldV 2 m) fun dg=>
 qK S (fun d=>ldV d dg) fun dh=>
 vK (fldV 0 (ix s 1)) fun di=>
 qK S (fun d=>ldV d di) fun dj=>
 vK (binV .i .add dj (ix k 1)) fun dk=>
 FCall prog zaz #[a0] d fun dl ci=>
 S ci∧(FCall prog zd8 #[dh,dk,dl] ci fun dm cj=>
 vK (fldV 1 (ix s 0)) fun dn=>
 vK (ldV cj dn) fun ck=>
 vK (zae ck) fun dp=>
 loopK [(ix k 0),(.int .i64 0)] cj fun l e0 e dq=>
 vK (binV .i .lss (ix l 1) dp) fun dr=>
 iteK dr (
 vK (idxV 1 ck (ix l 1)) fun ds=>
 vK (ldV e ds) fun dt=>
 drawK e fun S=>
 vK (fldV 2 m) fun du=>
 qK S (fun e=>ldV e du) fun dv=>
 vK (fldV 0 (ix s 0)) fun dw=>
 qK S (fun e=>ldV e dw) fun dx=>
 vK (binV .i .add dx (ix l 1)) fun dy=>
 FCall prog zaC #[a0] e fun dz cl=>
 S cl∧(FCall prog zd8 #[dv,dy,dz] cl fun d0 d1=>
 vK (binV .i .mul dt df) fun d2=>
 FCall prog zca #[a0,d0,dm,a4] d1 fun d3 d4=>
 vK (cviV .i64 d3) fun d5=>
 vK (binV .i .mul d2 d5) fun d6=>
 vK (binV .i .add (ix l 0) d6) fun d7=>
 vK (binV .i .add (ix l 1) (.int .i64 1)) fun d8=>
 dq [d7,d8] d4)) (
 vK (binV .i .add (ix k 1) (.int .i64 1)) fun d9=>
 dc [(ix l 0),d9] e))) (
 R (ix k 0) d))
theorem zqC (H:zkG a0 a1 a2 a3 a4 h R):FCall prog ziz #[a0,a1,a2,a3,a4] h R:=fk f209 (.s .z (.s (.s .z (.s (.s .z .z) .z)) (.j 4380866648064 [11,12] (.d (.op 0 .r (.op 1 .r (.op 2 .r (.op 4 .r (.op 5 .r (.op 6 .r (.alt (.op 3 .e (.alt (.op 7 .e (.alt (.op 8 .e (.op 9 .e (.op 10 .e (.op 11 .e .nil)))) (.op 9 .e (.op 8 .e (.op 10 .e (.op 11 .e .nil)))))) (.alt (.op 8 .e (.alt (.op 7 .e (.op 9 .e (.op 10 .e (.op 11 .e .nil)))) (.op 9 .e (.op 7 .e (.op 10 .e (.op 11 .e .nil)))))) (.op 9 .e (.alt (.op 7 .e (.op 8 .e (.op 10 .e (.op 11 .e .nil)))) (.op 8 .e (.op 7 .e (.op 10 .e (.op 11 .e .nil))))))))) (.alt (.op 8 .e (.alt (.op 3 .e (.alt (.op 7 .e (.op 9 .e (.op 10 .e (.op 11 .e .nil)))) (.op 9 .e (.op 7 .e (.op 10 .e (.op 11 .e .nil)))))) (.op 9 .e (.op 3 .e (.op 7 .e (.op 10 .e (.op 11 .e .nil))))))) (.op 9 .e (.alt (.op 3 .e (.alt (.op 7 .e (.op 8 .e (.op 10 .e (.op 11 .e .nil)))) (.op 8 .e (.op 7 .e (.op 10 .e (.op 11 .e .nil)))))) (.op 8 .e (.op 3 .e (.op 7 .e (.op 10 .e (.op 11 .e .nil)))))))))))))))) (.s .z (.s (.s .z (.l 1237940039285345090528075776 [13,45] (.s .z (.s (.s .z .z) (.s (.s .z (.s (.d (.op 0 .r (.op 1 .r (.op 2 .r (.op 3 .r (.op 4 .r (.op 5 .r (.op 6 .r (.op 7 .e (.op 8 .n (.op 9 .r .nil))))))))))) (.s .z (.l 618970015031004119023099904 [13,62] (.s .z (.s (.s .z .z) (.s (.s .z (.s (.d (.op 0 .r (.op 1 .r (.op 2 .r (.op 3 .r (.op 4 .r (.op 5 .r (.op 6 .r (.op 7 .e (.op 8 .n (.op 9 .r .nil))))))))))) .z)) .z))))))) .z))))) (.s .z .z)))))) H
def zkk (a0:Value)(h:Heap)(R:Value→Heap→Prop):Prop:=
 vK (binV .i .geq a0 (.int .i64 1)) fun a=>
 vK (gV a true (some a0)) fun b=>
 vK (gV a true (binV .i .leq b (.int .i64 65536))) fun c=>
 vK (pickV a c (.bool false)) fun d=>
 R d h
theorem zqg (H:zkk a0 h R):FCall prog zey #[a0] h R:=fk f210 (.s .z (.s .z .z)) H
def zmg (a0 a1 a2 a3:Value)(h:Heap)(R:Value→Heap→Prop):Prop:=
 FCall prog zjV #[a0,a1,a2,a3] h fun j d=>
 vK (unV .not j) fun k=>
 iteK k (
 R (.tuple #[(.int .i64 0),(.slice none 0 0)]) d) (
 vK (binV .i .mul a3 a1) fun l=>
 vK (binV .i .quo l a2) fun m=>
 loopK [m] d fun c ah n o=>
 vK (binV .i .sub (ix c 0) (.int .i64 1)) fun p=>
 FCall prog zfe #[a0,a1,a2,a3,p] n fun q e=>
 iteK q (
 vK (binV .i .sub (ix c 0) (.int .i64 1)) fun r=>
 o [r] e) (
 loopK [(ix c 0)] e fun b ai s t=>
 FCall prog zfe #[a0,a1,a2,a3,(ix b 0)] s fun u f=>
 vK (unV .not u) fun v=>
 iteK v (
 vK (binV .i .add (ix b 0) (.int .i64 1)) fun w=>
 t [w] f) (
 loopK [(ix b 0),(.slice none 0 0)] f fun a aj x y=>
 FCall prog zfe #[a0,a1,a2,a3,(ix a 0)] x fun z g=>
 iteK z (
 FCall prog zgr #[a0,a1,a2,a3,(ix a 0)] g fun aa ab=>
 rowK #[(.int .i64 0)] 2 1 [(0,1,aa)] ab fun ac ad=>
 appK (.int .i64 0) 2 1 8 (ix a 1) ac ad fun ae af=>
 vK (binV .i .add (ix a 0) (.int .i64 1)) fun ag=>
 y [ag,ae] af) (
 R (.tuple #[(ix b 0),(ix a 1)]) g))))
theorem ok_ref05_Row (H:zmg a0 a1 a2 a3 h R):FCall prog zha #[a0,a1,a2,a3] h R:=fk f211 (.s .z (.s (.s .z (.s (.s .z .z) .z)) (.s .z (.s (.l 8573158400 [10] (.s (.s .z (.s .z .z)) .z)) (.s (.l 4389456577536 [10] (.s (.s .z (.s .z .z)) .z)) (.s .z (.s .z (.s (.l 1152912708513829888 [10,12] (.s (.s .z (.s .z .z)) (.s .z .z))) (.s .z .z))))))))) H
def zfY (a0:Value)(h:Heap)(R:Value→Heap→Prop):Prop:=
 vK (zae a0) fun r=>
 vK (binV .i .lss r (.int .i64 1)) fun d=>
 vK (gV d false (some a0)) fun s=>
 vK (gV d false (zae s)) fun t=>
 vK (gV d false (binV .i .gtr t (.int .i64 1048576))) fun u=>
 vK (pickV d (.bool true) u) fun v=>
 iteK v (
 R (.tuple #[(.slice none 0 0),(.int .i64 7)]) h) (
 vK (zae a0) fun w=>
 loopK [(.int .i64 0)] h fun e bk f x=>
 vK (binV .i .lss (ix e 0) w) fun y=>
 iteK y (
 vK (idxV 1 a0 (ix e 0)) fun z=>
 vK (ldV f z) fun aa=>
 FCall prog zgh #[aa] f fun ab l=>
 vK (binV .i .gtr ab (.int .i64 1099511627776)) fun ac=>
 iteK ac (
 R (.tuple #[(.slice none 0 0),(.int .i64 7)]) l) (
 vK (binV .i .add (ix e 0) (.int .i64 1)) fun ad=>
 x [ad] l)) (
 FCall prog zjU #[a0] f fun g m=>
 vK (binV .i .lss g (.int .i64 268435456)) fun ae=>
 iteK ae (
 R (.tuple #[(.slice none 0 0),(.int .i64 8)]) m) (
 vK (zae a0) fun af=>
 loopK [(.slice none 0 0),(.slice none 0 0),(.int .i64 16384),(.int .i64 0)] m fun a bl j ag=>
 vK (binV .i .lss (ix a 3) af) fun ah=>
 iteK ah (
 vK (idxV 1 a0 (ix a 3)) fun ai=>
 vK (ldV j ai) fun n=>
 vK (binV .i .mul n (.int .i64 16384)) fun aj=>
 FCall prog ze3 #[aj,g] j fun k ak=>
 rowK #[(.int .i64 0)] 2 1 [(0,1,k)] ak fun al am=>
 appK (.int .i64 0) 2 1 8 (ix a 0) al am fun an ao=>
 vK (binV .i .mul n (.int .i64 16384)) fun ap=>
 vK (binV .i .mul k g) fun aq=>
 vK (binV .i .sub ap aq) fun ar=>
 rowK #[(.int .i64 0)] 2 1 [(0,1,ar)] ao fun au av=>
 appK (.int .i64 0) 2 1 8 (ix a 1) au av fun aw ax=>
 vK (binV .i .sub (ix a 2) k) fun ay=>
 vK (binV .i .add (ix a 3) (.int .i64 1)) fun az=>
 ag [an,aw,ay,az] ax) (
 loopK [(ix a 2)] j fun o bm p a1=>
 vK (binV .i .gtr (ix o 0) (.int .i64 0)) fun a2=>
 iteK a2 (
 vK (zae (ix a 1)) fun a3=>
 loopK [(.int .i64 0),(.int .i64 0)] p fun b bn c q=>
 vK (binV .i .lss (ix b 1) a3) fun a4=>
 iteK a4 (
 vK (idxV 1 (ix a 1) (ix b 1)) fun a5=>
 vK (ldV c a5) fun a6=>
 vK (idxV 1 (ix a 1) (ix b 0)) fun a7=>
 vK (ldV c a7) fun a8=>
 vK (binV .i .gtr a6 a8) fun a9=>
 iteK a9 (
 vK (binV .i .add (ix b 1) (.int .i64 1)) fun ba=>
 q [(ix b 1),ba] c) (
 vK (binV .i .add (ix b 1) (.int .i64 1)) fun bb=>
 q [(ix b 0),bb] c)) (
 vK (idxV 1 (ix a 0) (ix b 0)) fun bc=>
 vK (ldV c bc) fun bd=>
 vK (binV .i .add bd (.int .i64 1)) fun be=>
 vK (idxV 1 (ix a 0) (ix b 0)) fun bf=>
 stK 1 bf be c fun bo bg=>
 vK (idxV 1 (ix a 1) (ix b 0)) fun bh=>
 stK 1 bh (.int .i64 (-1)) bg fun bp bi=>
 vK (binV .i .sub (ix o 0) (.int .i64 1)) fun bj=>
 a1 [bj] bi)) (
 R (.tuple #[(ix a 0),(.int .i64 0)]) p)))))
theorem zkY (H:zfY a0 h R):FCall prog zb9 #[a0] h R:=fk f212 (.s .z (.s (.s .z (.s (.s .z .z) .z)) (.s (.s .z (.l 8556380204 [25] (.s .z (.s (.s .z .z) (.s (.s .z (.s .z (.s (.s .z .z) .z))) .z))))) (.s .z (.s (.s .z (.s (.s .z .z) .z)) (.s .z (.s .z (.s .z (.s (.s .z (.l 18446743523953744768 [7,8,9,39] (.s .z (.s (.s .z .z) (.s (.s .z (.s .z (.s .z (.s .z .z)))) .z))))) (.s (.l 9903520295836298125483467264 [9] (.s (.s .z (.s .z .z)) (.s .z (.s (.s .z (.l 4835408130553337346023424 [13,68] (.s .z (.s (.s .z .z) (.s (.s .z (.s .z (.s .z .z))) .z))))) (.s .z (.s .z .z)))))) (.s .z .z))))))))))) H
def zja (a0 a1:Value)(h:Heap)(R:Value→Heap→Prop):Prop:=
 FCall prog zhb #[a0,a1] h fun a b=>
 FCall prog zjX #[a] b fun c d=>
 FCall prog zdG #[c,(.int .i64 10)] d fun e f=>
 R e f
theorem zoy (H:zja a0 a1 h R):FCall prog zhc #[a0,a1] h R:=fk f213 (.s .z (.s .z .z)) H
def zi8 (a0:Value)(h:Heap)(R:Value→Heap→Prop):Prop:=
 vK (zae a0) fun c=>
 loopK [(.int .i64 0),(.int .i64 0)] h fun a o b d=>
 vK (binV .i .lss (ix a 1) c) fun e=>
 iteK e (
 vK (idxV 1 a0 (ix a 1)) fun f=>
 vK (ldV b f) fun g=>
 FCall prog zgh #[g] b fun j k=>
 FCall prog zgg #[(ix a 0),j] k fun l m=>
 vK (binV .i .add (ix a 1) (.int .i64 1)) fun n=>
 d [l,n] m) (
 R (ix a 0) b)
theorem zow (H:zi8 a0 h R):FCall prog zg9 #[a0] h R:=fk f214 (.s .z (.s .z (.s (.s .z (.l 130856 [3,8] (.s .z (.s (.s .z .z) (.s (.s .z .z) .z))))) (.s .z .z)))) H
def zhX (a0 a1 a2:Value)(h:Heap)(R:Value→Heap→Prop):Prop:=
 vK (binV .i .eql a2 (.int .i64 0)) fun e=>
 iteK e (
 R (.int .i64 0) h) (
 FCall prog zbx #[a0] h fun f g=>
 FCall prog zbx #[a1] g fun j k=>
 FCall prog ze1 #[f,j] k fun l m=>
 newK #[(.int .u64 0),(.int .u64 0)] 293 m fun c n=>
 stK 2 c l n fun x a=>
 vK (binV .i .lss a0 (.int .i64 0)) fun o=>
 vK (binV .i .lss a1 (.int .i64 0)) fun p=>
 vK (binV .b .neq o p) fun q=>
 drawK a fun S=>
 qK S (fun a=>ldsV 2 a c) fun r=>
 vK (binV .i .lss a2 (.int .i64 0)) fun s=>
 vK (binV .b .neq q s) fun t=>
 FCall prog zbx #[a2] a fun u d=>
 S d∧(FCall prog zfJ #[r,u,t] d fun v w=>
 R v w))
theorem znJ (H:zhX a0 a1 a2 h R):FCall prog zaQ #[a0,a1,a2] h R:=fk f215 (.s .z (.s (.s .z (.s (.s .z .z) .z)) (.s .z (.s .z (.s (.d (.op 0 .r (.op 1 .r (.op 3 .r (.op 4 .r (.op 5 .r (.op 6 .r (.op 2 .e (.op 7 .n (.op 8 .r .nil)))))))))) .z))))) H
def zhu (a0 a1:Value)(h:Heap)(R:Value→Heap→Prop):Prop:=
 vK (nilV a0) fun b=>
 vK (fldV 2 b) fun c=>
 vK (ldV h c) fun d=>
 vK (lookV (.int .i64) (.slice none 0 0) true h d a1) fun a=>
 vK (extV a 0) fun f=>
 vK (extV a 1) fun e=>
 R e h
theorem zmM (H:zhu a0 a1 h R):FCall prog zdF #[a0,a1] h R:=fk f216 (.s .z (.s .z (.s .z .z))) H
def zjs (a0 a1 a2:Value)(h:Heap)(R:Value→Heap→Prop):Prop:=
 vK (minV a0 a2) fun a=>
 vK (maxV a1 a) fun b=>
 R b h
theorem zoQ (H:zjs a0 a1 a2 h R):FCall prog ze6 #[a0,a1,a2] h R:=fk f217 (.s .z (.s .z .z)) H
def zms (a0 a1:Value)(h:Heap)(R:Value→Heap→Prop):Prop:=
 vK (binV .i .eql a1 (.int .i64 0)) fun d=>
 vK (gV d false (some a1)) fun e=>
 vK (gV d false (binV .i .eql e (.int .i64 (-1)))) fun f=>
 vK (pickV d (.bool true) f) fun g=>
 iteK g (
 R (.int .i64 0) h) (
 vK (binV .i .rem a0 a1) fun c=>
 vK (binV .i .neq c (.int .i64 0)) fun a=>
 vK (gV a true (some c)) fun j=>
 vK (gV a true (binV .i .lss j (.int .i64 0))) fun k=>
 vK (gV a true (some a1)) fun l=>
 vK (gV a true (binV .i .lss l (.int .i64 0))) fun m=>
 vK (gV a true (binV .b .neq k m)) fun n=>
 vK (pickV a n (.bool false)) fun o=>
 iteK o (
 vK (binV .i .add c a1) fun p=>
 R p h) (
 R c h))
theorem ok_fixed_Mod (H:zms a0 a1 h R):FCall prog zfM #[a0,a1] h R:=fk f218 (.s .z (.s (.s .z (.s (.s .z .z) .z)) (.s .z (.s (.s .z (.s .z .z)) (.s .z .z))))) H
def zfX (a0:Value)(h:Heap)(R:Value→Heap→Prop):Prop:=
 vK (nilV a0) fun a=>
 vK (fldV 2 a) fun b=>
 vK (ldV h b) fun c=>
 vK (lenmV h c) fun d=>
 vK (binV .i .eql d (.int .i64 0)) fun e=>
 iteK e (
 R (.tuple #[(.int .i64 0),(.bool false)]) h) (
 vK (nilV a0) fun f=>
 vK (fldV 2 f) fun g=>
 vK (ldV h g) fun j=>
 FCall prog za3 #[j] h fun k l=>
 FCall prog zdQ #[k] l fun m n=>
 FCall prog zbG #[m] n fun o p=>
 R (.tuple #[o,(.bool true)]) p)
theorem zkX (H:zfX a0 h R):FCall prog zd6 #[a0] h R:=fk f219 (.s .z (.s (.s .z (.s (.s .z .z) .z)) (.s .z .z))) H
def zgA (a0 a1:Value)(h:Heap)(R:Value→Heap→Prop):Prop:=
 drawK h fun S=>
 vK (nilV a0) fun d=>
 vK (fldV 3 d) fun e=>
 qK S (fun h=>ldV h e) fun f=>
 vK (nilV a0) fun g=>
 vK (fldV 2 g) fun i=>
 qK S (fun h=>ldV h i) fun j=>
 qK S (fun h=>lookV (.int .i64) (.slice none 0 0) false h j a1) fun k=>
 rowK #[(.slice none 0 0)] 28 1 [(0,1,k)] h fun l a=>
 S a∧(appK (.slice none 0 0) 28 1 24 f l a fun m b=>
 S b∧(vK (nilV a0) fun n=>
 vK (fldV 3 n) fun o=>
 stK 1 o m b fun t c=>
 vK (nilV a0) fun p=>
 vK (fldV 2 p) fun q=>
 vK (ldV c q) fun r=>
 zfx (.int .i64) r a1 c fun u s=>
 R (.tuple #[]) s))
theorem zlA (H:zgA a0 a1 h R):FCall prog zeF #[a0,a1] h R:=fk f220 (.s (.d (.op 0 .r (.op 1 .r (.op 2 .r (.op 3 .r (.op 4 .r (.op 5 .r (.op 6 .r (.op 7 .r (.op 8 .r (.op 9 .r (.op 10 .r (.op 11 .e (.op 12 .e (.op 13 .r (.op 14 .r (.op 15 .n .nil))))))))))))))))) .z) H
def zfU (a0:Value)(h:Heap)(R:Value→Heap→Prop):Prop:=
 vK (nilV a0) fun c=>
 vK (fldV 3 c) fun d=>
 vK (ldV h d) fun e=>
 vK (zae e) fun a=>
 vK (binV .i .gtr a (.int .i64 0)) fun f=>
 iteK f (
 vK (nilV a0) fun g=>
 vK (fldV 3 g) fun j=>
 vK (ldV h j) fun k=>
 vK (binV .i .sub a (.int .i64 1)) fun l=>
 vK (idxV 1 k l) fun m=>
 vK (ldV h m) fun n=>
 vK (nilV a0) fun o=>
 vK (fldV 3 o) fun p=>
 vK (ldV h p) fun q=>
 vK (binV .i .sub a (.int .i64 1)) fun r=>
 vK (slcV 1 q none (some r)) fun s=>
 vK (nilV a0) fun t=>
 vK (fldV 3 t) fun u=>
 stK 1 u s h fun aa v=>
 R n v) (
 vK (nilV a0) fun w=>
 vK (fldV 1 w) fun x=>
 vK (ldV h x) fun b=>
 mkK (.int .i64 0) 2 1 8 b b h fun y z=>
 R y z)
theorem zkU (H:zfU a0 h R):FCall prog zd3 #[a0] h R:=fk f221 (.s .z (.s (.s .z (.s .z (.s (.s .z (.s .z (.s .z .z))) .z))) (.s .z .z))) H
def zjq (a0 a1:Value)(h:Heap)(R:Value→Heap→Prop):Prop:=
 vK (binV .i .leq a1 (.int .i64 0)) fun a=>
 iteK a (
 R a0 h) (
 vK (binV .i .geq a1 (.int .i64 64)) fun b=>
 iteK b (
 R (.int .i64 0) h) (
 vK (binV .i .shr a0 a1) fun c=>
 vK (binV .i .sub a1 (.int .i64 1)) fun d=>
 vK (binV .i .shr a0 d) fun e=>
 vK (binV .i .and e (.int .i64 1)) fun f=>
 vK (binV .i .add c f) fun g=>
 R g h))
theorem zoO (H:zjq a0 a1 h R):FCall prog zcQ #[a0,a1] h R:=fk f222 (.s .z (.s (.s .z (.s (.s .z .z) .z)) (.s (.s .z (.s (.s .z .z) .z)) (.s .z .z)))) H
def zkc (a0:Value)(h:Heap)(R:Value→Heap→Prop):Prop:=
 vK (binV .i .geq a0 (.int .i64 1)) fun a=>
 vK (gV a true (some a0)) fun b=>
 vK (gV a true (binV .i .leq b (.int .i64 65536))) fun c=>
 vK (pickV a c (.bool false)) fun d=>
 R d h
theorem zp8 (H:zkc a0 h R):FCall prog zex #[a0] h R:=fk f223 (.s .z (.s .z .z)) H
def zo0 (a0 a1 a2 a3:Value)(h:Heap)(R:Value→Heap→Prop):Prop:=
 FCall prog zit #[a0,a1,a2,a3] h fun b e=>
 vK (extV b 0) fun c=>
 vK (extV b 1) fun f=>
 loopK [(.slice none 0 0),(.int .i64 0)] e fun a s d g=>
 vK (binV .i .lss (ix a 1) f) fun j=>
 iteK j (
 vK (binV .i .add c (ix a 1)) fun k=>
 FCall prog zjY #[a0,a1,a2,a3,k] d fun l m=>
 rowK #[(.int .i64 0)] 2 1 [(0,1,l)] m fun n o=>
 appK (.int .i64 0) 2 1 8 (ix a 0) n o fun p q=>
 vK (binV .i .add (ix a 1) (.int .i64 1)) fun r=>
 g [p,r] q) (
 R (.tuple #[c,(ix a 0)]) d)
theorem ok_raw_Row (H:zo0 a0 a1 a2 a3 h R):FCall prog zlm #[a0,a1,a2,a3] h R:=fk f224 (.s .z (.s .z (.s (.s .z (.l 68717382144 [9,21] (.s .z (.s (.s .z .z) (.s (.s .z .z) .z))))) (.s .z .z)))) H
def zgy (a0:Value)(h:Heap)(R:Value→Heap→Prop):Prop:=
 FCall prog zin #[a0] h fun aj ak=>
 vK (binV .i .neq aj (.int .i64 0)) fun di=>
 iteK di (
 R (.tuple #[(.slice none 0 0),aj]) ak) (
 FCall prog ziQ #[a0] ak fun al j=>
 joinK (fun d=>
 drawK j fun S=>
 qK S (fun j=>zae a0) fun a=>
 qK S (fun j=>zae a0) fun b=>
 qK S (fun j=>zae a0) fun c=>
 (mkK (.int .i64 0) 2 1 8 a a j fun k o=>
 S o∧((mkK (.int .i64 0) 3 1 8 b b o fun am w=>
 S w∧((mkK (.int .i64 0) 2 1 8 c c w fun dj an=>
 S an∧(newK #[(.slice none 0 0)] 28 an fun ao ap=>
 S ap∧(stK 1 ao dj ap fun fd aq=>
 S aq∧(d [k,am,ao] aq))))∧(newK #[(.slice none 0 0)] 28 w fun ar au=>
 S au∧(mkK (.int .i64 0) 2 1 8 c c au fun dk av=>
 S av∧(stK 1 ar dk av fun fe aw=>
 S aw∧(d [k,am,ar] aw))))))∧((mkK (.int .i64 0) 2 1 8 c c o fun ax x=>
 S x∧((mkK (.int .i64 0) 3 1 8 b b x fun dl ay=>
 S ay∧(newK #[(.slice none 0 0)] 28 ay fun az a1=>
 S a1∧(stK 1 az ax a1 fun ff a2=>
 S a2∧(d [k,dl,az] a2))))∧(newK #[(.slice none 0 0)] 28 x fun a3 a4=>
 S a4∧(mkK (.int .i64 0) 3 1 8 b b a4 fun dm a5=>
 S a5∧(stK 1 a3 ax a5 fun fg a6=>
 S a6∧(d [k,dm,a3] a6))))))∧(newK #[(.slice none 0 0)] 28 o fun p y=>
 S y∧((mkK (.int .i64 0) 3 1 8 b b y fun dn a7=>
 S a7∧(mkK (.int .i64 0) 2 1 8 c c a7 fun dp a8=>
 S a8∧(stK 1 p dp a8 fun fh a9=>
 S a9∧(d [k,dn,p] a9))))∧(mkK (.int .i64 0) 2 1 8 c c y fun dq ba=>
 S ba∧(mkK (.int .i64 0) 3 1 8 b b ba fun dr bb=>
 S bb∧(stK 1 p dq bb fun fi bc=>
 S bc∧(d [k,dr,p] bc)))))))))∧((mkK (.int .i64 0) 3 1 8 b b j fun l q=>
 S q∧((mkK (.int .i64 0) 2 1 8 a a q fun bd z=>
 S z∧((mkK (.int .i64 0) 2 1 8 c c z fun ds be=>
 S be∧(newK #[(.slice none 0 0)] 28 be fun bf bg=>
 S bg∧(stK 1 bf ds bg fun fj bh=>
 S bh∧(d [bd,l,bf] bh))))∧(newK #[(.slice none 0 0)] 28 z fun bi bj=>
 S bj∧(mkK (.int .i64 0) 2 1 8 c c bj fun dt bk=>
 S bk∧(stK 1 bi dt bk fun fk bl=>
 S bl∧(d [bd,l,bi] bl))))))∧((mkK (.int .i64 0) 2 1 8 c c q fun bm aa=>
 S aa∧((mkK (.int .i64 0) 2 1 8 a a aa fun du bn=>
 S bn∧(newK #[(.slice none 0 0)] 28 bn fun bo bp=>
 S bp∧(stK 1 bo bm bp fun fl bq=>
 S bq∧(d [du,l,bo] bq))))∧(newK #[(.slice none 0 0)] 28 aa fun br bs=>
 S bs∧(mkK (.int .i64 0) 2 1 8 a a bs fun dv bt=>
 S bt∧(stK 1 br bm bt fun fm bu=>
 S bu∧(d [dv,l,br] bu))))))∧(newK #[(.slice none 0 0)] 28 q fun r ab=>
 S ab∧((mkK (.int .i64 0) 2 1 8 a a ab fun dw bv=>
 S bv∧(mkK (.int .i64 0) 2 1 8 c c bv fun dx bw=>
 S bw∧(stK 1 r dx bw fun fn bx=>
 S bx∧(d [dw,l,r] bx))))∧(mkK (.int .i64 0) 2 1 8 c c ab fun dy bz=>
 S bz∧(mkK (.int .i64 0) 2 1 8 a a bz fun dz b0=>
 S b0∧(stK 1 r dy b0 fun fo b1=>
 S b1∧(d [dz,l,r] b1)))))))))∧((mkK (.int .i64 0) 2 1 8 c c j fun m s=>
 S s∧((mkK (.int .i64 0) 2 1 8 a a s fun b2 ac=>
 S ac∧((mkK (.int .i64 0) 3 1 8 b b ac fun d0 b3=>
 S b3∧(newK #[(.slice none 0 0)] 28 b3 fun b4 b5=>
 S b5∧(stK 1 b4 m b5 fun fp b6=>
 S b6∧(d [b2,d0,b4] b6))))∧(newK #[(.slice none 0 0)] 28 ac fun b7 b8=>
 S b8∧(mkK (.int .i64 0) 3 1 8 b b b8 fun d1 b9=>
 S b9∧(stK 1 b7 m b9 fun fq ca=>
 S ca∧(d [b2,d1,b7] ca))))))∧((mkK (.int .i64 0) 3 1 8 b b s fun cb ad=>
 S ad∧((mkK (.int .i64 0) 2 1 8 a a ad fun d2 cc=>
 S cc∧(newK #[(.slice none 0 0)] 28 cc fun cd ce=>
 S ce∧(stK 1 cd m ce fun fr cf=>
 S cf∧(d [d2,cb,cd] cf))))∧(newK #[(.slice none 0 0)] 28 ad fun cg ch=>
 S ch∧(mkK (.int .i64 0) 2 1 8 a a ch fun d3 ci=>
 S ci∧(stK 1 cg m ci fun fs cj=>
 S cj∧(d [d3,cb,cg] cj))))))∧(newK #[(.slice none 0 0)] 28 s fun t ae=>
 S ae∧((mkK (.int .i64 0) 2 1 8 a a ae fun d4 ck=>
 S ck∧(mkK (.int .i64 0) 3 1 8 b b ck fun d5 cl=>
 S cl∧(stK 1 t m cl fun ft cm=>
 S cm∧(d [d4,d5,t] cm))))∧(mkK (.int .i64 0) 3 1 8 b b ae fun d6 cn=>
 S cn∧(mkK (.int .i64 0) 2 1 8 a a cn fun d7 co=>
 S co∧(stK 1 t m co fun fu cp=>
 S cp∧(d [d7,d6,t] cp)))))))))∧(newK #[(.slice none 0 0)] 28 j fun e u=>
 S u∧((mkK (.int .i64 0) 2 1 8 a a u fun cq af=>
 S af∧((mkK (.int .i64 0) 3 1 8 b b af fun d8 cr=>
 S cr∧(mkK (.int .i64 0) 2 1 8 c c cr fun d9 cs=>
 S cs∧(stK 1 e d9 cs fun fv ct=>
 S ct∧(d [cq,d8,e] ct))))∧(mkK (.int .i64 0) 2 1 8 c c af fun ea cu=>
 S cu∧(mkK (.int .i64 0) 3 1 8 b b cu fun eb cv=>
 S cv∧(stK 1 e ea cv fun fw cw=>
 S cw∧(d [cq,eb,e] cw))))))∧((mkK (.int .i64 0) 3 1 8 b b u fun cx ag=>
 S ag∧((mkK (.int .i64 0) 2 1 8 a a ag fun ec cy=>
 S cy∧(mkK (.int .i64 0) 2 1 8 c c cy fun ed cz=>
 S cz∧(stK 1 e ed cz fun fx c0=>
 S c0∧(d [ec,cx,e] c0))))∧(mkK (.int .i64 0) 2 1 8 c c ag fun ee c1=>
 S c1∧(mkK (.int .i64 0) 2 1 8 a a c1 fun ef c2=>
 S c2∧(stK 1 e ee c2 fun fy c3=>
 S c3∧(d [ef,cx,e] c3))))))∧(mkK (.int .i64 0) 2 1 8 c c u fun c4 ah=>
 S ah∧((mkK (.int .i64 0) 2 1 8 a a ah fun eg c5=>
 S c5∧(mkK (.int .i64 0) 3 1 8 b b c5 fun eh c6=>
 S c6∧(stK 1 e c4 c6 fun fz c7=>
 S c7∧(d [eg,eh,e] c7))))∧(mkK (.int .i64 0) 3 1 8 b b ah fun ei c8=>
 S c8∧(mkK (.int .i64 0) 2 1 8 a a c8 fun ej c9=>
 S c9∧(stK 1 e c4 c9 fun f0 da=>
 S da∧(d [ej,ei,e] da))))))))))))
 fun f f1 ek=>
 vK (zae a0) fun el=>
 loopK [(.int .i64 16384),(.int .i64 0)] ek fun g f2 n em=>
 vK (binV .i .lss (ix g 1) el) fun en=>
 iteK en (
 vK (idxV 1 a0 (ix g 1)) fun eo=>
 vK (ldV n eo) fun db=>
 drawK n fun S=>
 qK S (fun n=>ldV n (ix f 2)) fun ep=>
 vK (binV .i .mul db (.int .i64 16384)) fun eq=>
 vK (binV .i .mul db (.int .i64 16384)) fun er=>
 FCall prog zcR #[eq,al] n fun es dc=>
 S dc∧(FCall prog zfM #[er,al] dc fun et dd=>
 S dd∧(vK (idxV 1 (ix f 0) (ix g 1)) fun eu=>
 stK 1 eu es dd fun f3 de=>
 S de∧(vK (idxV 1 ep (ix g 1)) fun ev=>
 stK 1 ev et de fun f4 ew=>
 vK (idxV 1 (ix f 1) (ix g 1)) fun ex=>
 stK 1 ex (ix g 1) ew fun f5 df=>
 vK (idxV 1 (ix f 0) (ix g 1)) fun ey=>
 vK (ldV df ey) fun ez=>
 vK (binV .i .sub (ix g 0) ez) fun e0=>
 vK (binV .i .add (ix g 1) (.int .i64 1)) fun e1=>
 em [e0,e1] df)))) (
 FCall prog za4 #[(ix f 1),(.func (.func zde) #[] #[(ix f 2)])] n fun f6 e2=>
 vK (slcV 1 (ix f 1) none (some (ix g 0))) fun dg=>
 vK (zae dg) fun e3=>
 loopK [(.int .i64 0)] e2 fun ai f7 v e4=>
 vK (binV .i .lss (ix ai 0) e3) fun e5=>
 iteK e5 (
 vK (idxV 1 dg (ix ai 0)) fun e6=>
 vK (ldV v e6) fun dh=>
 vK (idxV 1 (ix f 0) dh) fun e7=>
 vK (ldV v e7) fun e8=>
 vK (binV .i .add e8 (.int .i64 1)) fun e9=>
 vK (idxV 1 (ix f 0) dh) fun fa=>
 stK 1 fa e9 v fun f8 fb=>
 vK (binV .i .add (ix ai 0) (.int .i64 1)) fun fc=>
 e4 [fc] fb) (
 R (.tuple #[(ix f 0),(.int .i64 0)]) v)))
theorem zly (H:zgy a0 h R):FCall prog zcp #[a0] h R:=fk f225 (.s .z (.s (.s .z (.s .z (.s (.s .z .z) .z))) (.s .z (.j 1071645568 [7,8,9] (.d (.op 0 .r (.op 1 .r (.op 3 .r (.op 4 .r (.op 6 .r (.op 7 .r (.alt (.op 2 .e (.alt (.op 5 .e (.alt (.op 8 .e (.op 9 .e (.op 10 .r (.op 11 .r (.op 12 .e .nil))))) (.op 9 .e (.op 10 .r (.op 11 .r (.op 8 .e (.op 12 .e .nil))))))) (.alt (.op 8 .e (.alt (.op 5 .e (.op 9 .e (.op 10 .r (.op 11 .r (.op 12 .e .nil))))) (.op 9 .e (.op 10 .r (.op 5 .e (.op 11 .r (.op 12 .e .nil))))))) (.op 9 .e (.op 10 .r (.alt (.op 5 .e (.op 11 .r (.op 8 .e (.op 12 .e .nil)))) (.op 8 .e (.op 5 .e (.op 11 .r (.op 12 .e .nil)))))))))) (.alt (.op 5 .e (.alt (.op 2 .e (.alt (.op 8 .e (.op 9 .e (.op 10 .r (.op 11 .r (.op 12 .e .nil))))) (.op 9 .e (.op 10 .r (.op 11 .r (.op 8 .e (.op 12 .e .nil))))))) (.alt (.op 8 .e (.alt (.op 2 .e (.op 9 .e (.op 10 .r (.op 11 .r (.op 12 .e .nil))))) (.op 9 .e (.op 2 .e (.op 10 .r (.op 11 .r (.op 12 .e .nil))))))) (.op 9 .e (.alt (.op 2 .e (.op 10 .r (.op 11 .r (.op 8 .e (.op 12 .e .nil))))) (.op 8 .e (.op 2 .e (.op 10 .r (.op 11 .r (.op 12 .e .nil)))))))))) (.alt (.op 8 .e (.alt (.op 2 .e (.alt (.op 5 .e (.op 9 .e (.op 10 .r (.op 11 .r (.op 12 .e .nil))))) (.op 9 .e (.op 10 .r (.op 5 .e (.op 11 .r (.op 12 .e .nil))))))) (.alt (.op 5 .e (.alt (.op 2 .e (.op 9 .e (.op 10 .r (.op 11 .r (.op 12 .e .nil))))) (.op 9 .e (.op 2 .e (.op 10 .r (.op 11 .r (.op 12 .e .nil))))))) (.op 9 .e (.alt (.op 2 .e (.op 10 .r (.op 5 .e (.op 11 .r (.op 12 .e .nil))))) (.op 5 .e (.op 2 .e (.op 10 .r (.op 11 .r (.op 12 .e .nil)))))))))) (.op 9 .e (.alt (.op 2 .e (.op 10 .r (.alt (.op 5 .e (.op 11 .r (.op 8 .e (.op 12 .e .nil)))) (.op 8 .e (.op 5 .e (.op 11 .r (.op 12 .e .nil))))))) (.alt (.op 5 .e (.alt (.op 2 .e (.op 10 .r (.op 11 .r (.op 8 .e (.op 12 .e .nil))))) (.op 8 .e (.op 2 .e (.op 10 .r (.op 11 .r (.op 12 .e .nil))))))) (.op 8 .e (.alt (.op 2 .e (.op 10 .r (.op 5 .e (.op 11 .r (.op 12 .e .nil))))) (.op 5 .e (.op 2 .e (.op 10 .r (.op 11 .r (.op 12 .e .nil)))))))))))))))))))) (.s (.s .z (.l 4611686014132423744 [6,32] (.s .z (.s (.s .z .z) (.s (.s .z (.s (.d (.op 0 .r (.op 1 .r (.op 2 .r (.op 3 .r (.op 4 .r (.op 5 .r (.op 6 .r (.op 7 .r (.op 8 .r (.op 10 .r (.op 11 .r (.op 12 .r (.op 14 .r (.op 9 .e (.op 13 .e (.op 15 .r (.op 16 .e (.op 17 .r (.op 18 .n (.op 19 .r (.op 20 .n .nil)))))))))))))))))))))) .z)) .z))))) (.s .z (.s (.s .z (.l 1208335523804270469062656 [69] (.s .z (.s (.s .z .z) (.s (.s .z .z) .z))))) (.s .z .z)))))))) H
def zfT (a0 a1 a2:Value)(h:Heap)(R:Value→Heap→Prop):Prop:=
 vK (nilV a0) fun d=>
 vK (fldV 1 d) fun e=>
 vK (ldV h e) fun f=>
 vK ((fillL #[(.int .i64 0),(.slice none 0 0)] [(0,1,a1),(1,1,a2)]).map .agg) fun g=>
 rowK #[(.int .i64 0),(.slice none 0 0)] 235 1 [(0,2,g)] h fun i j=>
 appK (.agg #[.int .i64 0,.slice none 0 0]) 235 2 32 f i j fun k l=>
 vK (nilV a0) fun m=>
 vK (fldV 1 m) fun n=>
 stK 1 n k l fun ad c=>
 vK (nilV a0) fun o=>
 vK (fldV 2 o) fun p=>
 vK (ldV c p) fun q=>
 vK (zae a2) fun r=>
 vK (maxV q r) fun s=>
 vK (nilV a0) fun t=>
 vK (fldV 2 t) fun u=>
 stK 1 u s c fun ae a=>
 drawK a fun S=>
 vK (nilV a0) fun v=>
 vK (fldV 3 v) fun w=>
 qK S (fun a=>ldV a w) fun x=>
 FCall prog zg7 #[a2] a fun y b=>
 S b∧(qK S (fun b=>maxV x y) fun z=>
 vK (nilV a0) fun aa=>
 vK (fldV 3 aa) fun ab=>
 stK 1 ab z b fun af ac=>
 R (.tuple #[]) ac)
theorem zkT (H:zfT a0 a1 a2 h R):FCall prog zcN #[a0,a1,a2] h R:=fk f226 (.s .z (.s .z (.d (.op 0 .r (.op 1 .r (.op 2 .r (.op 3 .r (.op 4 .r (.op 5 .r (.op 6 .e (.op 7 .r (.op 8 .r (.op 9 .r (.op 10 .n .nil)))))))))))))) H
def zhr (a0:Value)(h:Heap)(R:Value→Heap→Prop):Prop:=
 vK (binV .i .lss a0 (.int .i64 1)) fun b=>
 vK (gV b false (some a0)) fun e=>
 vK (gV b false (binV .i .gtr e (.int .i64 4194304))) fun f=>
 vK (pickV b (.bool true) f) fun g=>
 iteK g (
 R (.tuple #[(.slice none 0 0),(.int .i64 7)]) h) (
 vK (binV .i .mul (.int .i64 3) a0) fun j=>
 vK (binV .i .add j (.int .i64 65536)) fun k=>
 vK (binV .i .sub k (.int .i64 1)) fun l=>
 vK (binV .i .shr l (.int .u64 16)) fun c=>
 vK (unV .neg c) fun m=>
 loopK [(.slice none 0 0),m] h fun a w d n=>
 vK (binV .i .leq (ix a 1) c) fun o=>
 iteK o (
 FCall prog ziy #[(ix a 1),a0] d fun p q=>
 rowK #[(.int .i64 0)] 2 1 [(0,1,p)] q fun r s=>
 appK (.int .i64 0) 2 1 8 (ix a 0) r s fun t u=>
 vK (binV .i .add (ix a 1) (.int .i64 1)) fun v=>
 n [t,v] u) (
 R (.tuple #[(ix a 0),(.int .i64 0)]) d))
theorem zmJ (H:zhr a0 h R):FCall prog zdE #[a0] h R:=fk f227 (.s .z (.s (.s .z (.s (.s .z .z) .z)) (.s .z (.s .z (.s (.s .z (.l 2146435168 [5,6] (.s (.s .z (.s .z .z)) (.s .z .z)))) (.s .z .z)))))) H
def zma (a0:Value)(h:Heap)(R:Value→Heap→Prop):Prop:=
 vK (binV .i .lss a0 (.int .i64 0)) fun a=>
 vK (gV a false (some a0)) fun c=>
 vK (gV a false (binV .i .gtr c (.int .i64 511))) fun d=>
 vK (pickV a (.bool true) d) fun e=>
 iteK e (
 R (.tuple #[(.slice none 0 0),(.int .i64 7)]) h) (
 rowK #[(.int .i64 0)] 2 1 [(0,1,(.int .i64 1))] h fun f g=>
 vK (binV .i .mul (.int .i64 2) a0) fun j=>
 vK (binV .i .add j (.int .i64 1)) fun k=>
 FCall prog zbj #[f,k] g fun l m=>
 FCall prog zfE #[l] m fun b n=>
 vK (extV b 0) fun o=>
 vK (extV b 1) fun p=>
 R (.tuple #[o,p]) n)
theorem ok_taps_Blur (H:zma a0 h R):FCall prog zjQ #[a0] h R:=fk f228 (.s .z (.s (.s .z (.s (.s .z .z) .z)) (.s .z .z))) H
def zl8 (a0:Value)(h:Heap)(R:Value→Heap→Prop):Prop:=
 FCall prog zg7 #[a0] h fun c g=>
 vK (zae a0) fun j=>
 vK (binV .i .rem j (.int .i64 2)) fun k=>
 vK (binV .i .eql k (.int .i64 0)) fun b=>
 vK (gV b false (some a0)) fun l=>
 vK (gV b false (zae l)) fun m=>
 vK (gV b false (binV .i .gtr m (.int .i64 1024))) fun n=>
 vK (pickV b (.bool true) n) fun d=>
 vK (gV d false (some c)) fun o=>
 vK (gV d false (binV .i .lss o (.int .i64 1))) fun p=>
 vK (pickV d (.bool true) p) fun e=>
 vK (gV e false (some c)) fun q=>
 vK (gV e false (binV .i .gtr q (.int .i64 1048576))) fun r=>
 vK (pickV e (.bool true) r) fun s=>
 iteK s (
 R (.tuple #[(.slice none 0 0),(.int .i64 7)]) g) (
 vK (zae a0) fun t=>
 loopK [(.slice none 0 0),(.int .i64 0)] g fun a af f u=>
 vK (binV .i .lss (ix a 1) t) fun v=>
 iteK v (
 vK (idxV 1 a0 (ix a 1)) fun w=>
 vK (ldV f w) fun x=>
 FCall prog za9 #[x,(.int .i64 1073741824),c] f fun y z=>
 rowK #[(.int .i64 0)] 2 1 [(0,1,y)] z fun aa ab=>
 appK (.int .i64 0) 2 1 8 (ix a 0) aa ab fun ac ad=>
 vK (binV .i .add (ix a 1) (.int .i64 1)) fun ae=>
 u [ac,ae] ad) (
 R (.tuple #[(ix a 0),(.int .i64 0)]) f))
theorem ok_taps_User (H:zl8 a0 h R):FCall prog zfE #[a0] h R:=fk f229 (.s .z (.s .z (.s (.s .z (.s (.s .z .z) .z)) (.s .z (.s (.s .z (.l 1098974757024 [5,29] (.s .z (.s (.s .z .z) (.s (.s .z .z) .z))))) (.s .z .z)))))) H
def zjp (h:Heap)(R:Value→Heap→Prop):Prop:=
 FCall prog zlm #[(.int .i64 0),(.int .i64 4),(.int .i64 2),(.int .i64 1)] h fun j c=>
 vK (extV j 0) fun l=>
 vK (extV j 1) fun e=>
 vK (binV .i .eql l (.int .i64 2)) fun d=>
 vK (gV d true (some e)) fun m=>
 vK (gV d true (zae m)) fun n=>
 vK (gV d true (binV .i .eql n (.int .i64 2))) fun o=>
 vK (pickV d o (.bool false)) fun a=>
 vK (gV a true (some e)) fun p=>
 vK (gV a true (idxV 1 p (.int .i64 0))) fun q=>
 vK (gV a true (ldV c q)) fun r=>
 vK (gV a true (binV .i .eql r (.int .i64 536870912))) fun s=>
 vK (pickV a s (.bool false)) fun b=>
 vK (gV b true (some e)) fun t=>
 vK (gV b true (idxV 1 t (.int .i64 1))) fun u=>
 vK (gV b true (ldV c u)) fun v=>
 vK (gV b true (binV .i .eql v (.int .i64 536870912))) fun w=>
 vK (pickV b w (.bool false)) fun f=>
 gK f true (fun x=>FCall prog zgL #[(.int .i64 0),(.int .i64 1)] c x) c fun y k=>
 vK (gV f true (binV .i .eql y (.int .i64 1073741824))) fun z=>
 vK (pickV f z (.bool false)) fun g=>
 gK g true (fun aa=>FCall prog zgL #[(.int .i64 1),(.int .i64 2)] k aa) k fun ab ac=>
 vK (gV g true (binV .i .eql ab (.int .i64 603979776))) fun ad=>
 vK (pickV g ad (.bool false)) fun ae=>
 R ae ac
theorem zoN (H:zjp h R):FCall prog zhm #[] h R:=fk f243 (.s .z (.s .z (.s .z .z))) H
def zjo (h:Heap)(R:Value→Heap→Prop):Prop:=
 rowK #[(.int .i64 0),(.int .i64 0),(.int .i64 0)] 2 3 [(0,1,(.int .i64 536870912)),(1,1,(.int .i64 536870912)),(2,1,(.int .i64 536870912))] h fun j k=>
 FCall prog zcp #[j] k fun d l=>
 vK (extV d 0) fun m=>
 vK (extV d 1) fun n=>
 FCall prog zdE #[(.int .i64 65536)] l fun e f=>
 vK (extV e 0) fun o=>
 vK (extV e 1) fun p=>
 vK (binV .i .eql n (.int .i64 0)) fun a=>
 vK (gV a true (some m)) fun q=>
 gK a true (fun r=>rowK #[(.int .i64 0),(.int .i64 0),(.int .i64 0)] 2 3 [(0,1,(.int .i64 5462)),(1,1,(.int .i64 5461)),(2,1,(.int .i64 5461))] f r) f fun s g=>
 gK a true (fun t=>FCall prog zgi #[q,s] g t) g fun u v=>
 vK (pickV a u (.bool false)) fun c=>
 vK (gV c true (some p)) fun w=>
 vK (gV c true (binV .i .eql w (.int .i64 0))) fun x=>
 vK (pickV c x (.bool false)) fun b=>
 vK (gV b true (some o)) fun y=>
 vK (gV b true (zae y)) fun z=>
 vK (gV b true (binV .i .eql z (.int .i64 7))) fun aa=>
 vK (pickV b aa (.bool false)) fun ab=>
 R ab v
theorem zoM (H:zjo h R):FCall prog zhl #[] h R:=fk f244 (.s .z (.s .z (.s .z (.s .z .z)))) H
def zko (a0 a1:Value)(h:Heap)(R:Value→Heap→Prop):Prop:=
 vK (zae a0) fun c=>
 vK (zae a1) fun d=>
 vK (binV .i .neq c d) fun e=>
 iteK e (
 R (.bool false) h) (
 vK (zae a0) fun f=>
 loopK [(.int .i64 0)] h fun b q a g=>
 vK (binV .i .lss (ix b 0) f) fun j=>
 iteK j (
 vK (idxV 1 a0 (ix b 0)) fun k=>
 vK (ldV a k) fun l=>
 vK (idxV 1 a1 (ix b 0)) fun m=>
 vK (ldV a m) fun n=>
 vK (binV .i .neq l n) fun o=>
 iteK o (
 R (.bool false) a) (
 vK (binV .i .add (ix b 0) (.int .i64 1)) fun p=>
 g [p] a)) (
 R (.bool true) a))
theorem zqk (H:zko a0 a1 h R):FCall prog zgi #[a0,a1] h R:=fk f245 (.s .z (.s (.s .z (.s (.s .z .z) .z)) (.s (.s .z (.l 67100720 [13] (.s .z (.s (.s .z .z) (.s (.s .z (.s .z (.s (.s .z .z) .z))) .z))))) (.s .z .z)))) H
def zmh (a0 a1 a2 a3:Value)(h:Heap)(R:Value→Heap→Prop):Prop:=
 vK (binV .i .geq a0 (.int .i64 0)) fun b=>
 vK (gV b true (some a0)) fun j=>
 vK (gV b true (binV .i .leq j (.int .i64 2))) fun k=>
 vK (pickV b k (.bool false)) fun c=>
 vK (gV c true (some a1)) fun l=>
 vK (gV c true (binV .i .geq l (.int .i64 1))) fun m=>
 vK (pickV c m (.bool false)) fun d=>
 vK (gV d true (some a1)) fun n=>
 vK (gV d true (binV .i .leq n (.int .i64 65536))) fun o=>
 vK (pickV d o (.bool false)) fun e=>
 vK (gV e true (some a2)) fun p=>
 vK (gV e true (binV .i .geq p (.int .i64 1))) fun q=>
 vK (pickV e q (.bool false)) fun f=>
 vK (gV f true (some a2)) fun r=>
 vK (gV f true (binV .i .leq r (.int .i64 65536))) fun s=>
 vK (pickV f s (.bool false)) fun g=>
 vK (gV g true (some a3)) fun t=>
 vK (gV g true (binV .i .geq t (.int .i64 0))) fun u=>
 vK (pickV g u (.bool false)) fun a=>
 vK (gV a true (some a3)) fun v=>
 vK (gV a true (some a2)) fun w=>
 vK (gV a true (binV .i .lss v w)) fun x=>
 vK (pickV a x (.bool false)) fun y=>
 R y h
theorem ok_ref05_May (H:zmh a0 a1 a2 a3 h R):FCall prog zjV #[a0,a1,a2,a3] h R:=fk f246 (.s .z (.s .z .z)) H
def zni (a0 a1 a2 a3 a4:Value)(h:Heap)(R:Value→Heap→Prop):Prop:=
 vK (binV .i .eql a0 (.int .i64 0)) fun l=>
 iteK l (
 vK (binV .i .add a4 (.int .i64 1)) fun m=>
 vK (binV .i .mul m a2) fun n=>
 vK (binV .i .mul a3 a1) fun o=>
 vK (binV .i .gtr n o) fun a=>
 vK (gV a true (some a4)) fun p=>
 vK (gV a true (some a2)) fun q=>
 vK (gV a true (binV .i .mul p q)) fun r=>
 vK (gV a true (some a3)) fun s=>
 vK (gV a true (binV .i .add s (.int .i64 1))) fun t=>
 vK (gV a true (some a1)) fun u=>
 vK (gV a true (binV .i .mul t u)) fun v=>
 vK (gV a true (binV .i .lss r v)) fun w=>
 vK (pickV a w (.bool false)) fun x=>
 R x h) (
 FCall prog zc7 #[a1,a2,a3,a4] h fun e f=>
 vK (extV e 0) fun d=>
 vK (extV e 1) fun g=>
 vK (binV .i .mul (.int .i64 2) g) fun j=>
 vK (binV .i .eql a0 (.int .i64 2)) fun y=>
 iteK y (
 vK (binV .i .mul (.int .i64 3) g) fun k=>
 vK (binV .i .lss d k) fun b=>
 vK (gV b true (some d)) fun z=>
 vK (gV b true (some k)) fun aa=>
 vK (gV b true (unV .neg aa)) fun ab=>
 vK (gV b true (binV .i .gtr z ab)) fun ac=>
 vK (pickV b ac (.bool false)) fun ad=>
 R ad f) (
 vK (binV .i .lss d j) fun c=>
 vK (gV c true (some d)) fun ae=>
 vK (gV c true (some j)) fun af=>
 vK (gV c true (unV .neg af)) fun ag=>
 vK (gV c true (binV .i .gtr ae ag)) fun ah=>
 vK (pickV c ah (.bool false)) fun ai=>
 R ai f))
theorem ok_ref05_In (H:zni a0 a1 a2 a3 a4 h R):FCall prog zfe #[a0,a1,a2,a3,a4] h R:=fk f247 (.s .z (.s (.s .z (.s (.s .z .z) .z)) (.s .z (.s .z (.s (.s .z (.s .z .z)) (.s .z .z)))))) H
def zhV (a0 a1 a2 a3 a4:Value)(h:Heap)(R:Value→Heap→Prop):Prop:=
 vK (binV .i .eql a0 (.int .i64 0)) fun l=>
 iteK l (
 vK (binV .i .mul a3 a1) fun a=>
 joinK (fun b=>
 vK (binV .i .mul a4 a2) fun m=>
 vK (binV .i .gtr m a) fun n=>
 iteK n (
 vK (binV .i .mul a4 a2) fun o=>
 b [o] h) (
 b [a] h))
 fun c ag d=>
 vK (binV .i .add a3 (.int .i64 1)) fun p=>
 vK (binV .i .mul p a1) fun e=>
 vK (binV .i .add a4 (.int .i64 1)) fun q=>
 vK (binV .i .mul q a2) fun r=>
 vK (binV .i .lss r e) fun s=>
 iteK s (
 vK (binV .i .add a4 (.int .i64 1)) fun t=>
 vK (binV .i .mul t a2) fun u=>
 vK (binV .i .sub u (ix c 0)) fun v=>
 FCall prog zaQ #[v,(.int .i64 1073741824),a1] d fun w x=>
 R w x) (
 vK (binV .i .sub e (ix c 0)) fun y=>
 FCall prog zaQ #[y,(.int .i64 1073741824),a1] d fun z aa=>
 R z aa)) (
 FCall prog zc7 #[a1,a2,a3,a4] h fun f g=>
 vK (extV f 0) fun j=>
 vK (extV f 1) fun k=>
 vK (binV .i .eql a0 (.int .i64 1)) fun ab=>
 iteK ab (
 FCall prog zis #[j,k] g fun ac ad=>
 R ac ad) (
 FCall prog zfI #[j,k] g fun ae af=>
 R ae af))
theorem znH (H:zhV a0 a1 a2 a3 a4 h R):FCall prog zgr #[a0,a1,a2,a3,a4] h R:=fk f248 (.s .z (.s (.s .z (.s (.s .z (.j 267388928 [11] (.s .z (.s .z .z)) (.s .z (.s (.s .z (.s .z .z)) (.s .z .z))))) .z)) (.s .z (.s (.s .z (.s (.s .z .z) .z)) (.s .z .z))))) H
def zkn (a0:Value)(h:Heap)(R:Value→Heap→Prop):Prop:=
 vK (binV .i .geq a0 (.int .i64 0)) fun a=>
 iteK a (
 R a0 h) (
 vK (binV .i .lss a0 (.int .i64 (-9223372036854775807))) fun b=>
 iteK b (
 R (.int .i64 9223372036854775807) h) (
 vK (unV .neg a0) fun c=>
 R c h))
theorem zqj (H:zkn a0 h R):FCall prog zgh #[a0] h R:=fk f249 (.s .z (.s (.s .z (.s (.s .z .z) .z)) (.s (.s .z (.s (.s .z .z) .z)) (.s .z .z)))) H
def zmf (a0:Value)(h:Heap)(R:Value→Heap→Prop):Prop:=
 vK (zae a0) fun c=>
 loopK [(.int .i64 0),(.int .i64 0)] h fun a m b d=>
 vK (binV .i .lss (ix a 1) c) fun e=>
 iteK e (
 vK (idxV 1 a0 (ix a 1)) fun f=>
 vK (ldV b f) fun g=>
 FCall prog zgg #[(ix a 0),g] b fun j k=>
 vK (binV .i .add (ix a 1) (.int .i64 1)) fun l=>
 d [j,l] k) (
 R (ix a 0) b)
theorem ok_ref06_Sum (H:zmf a0 h R):FCall prog zjU #[a0] h R:=fk f250 (.s .z (.s .z (.s (.s .z (.l 65320 [3,8] (.s .z (.s (.s .z .z) (.s (.s .z .z) .z))))) (.s .z .z)))) H
def zjf (a0 a1:Value)(h:Heap)(R:Value→Heap→Prop):Prop:=
 vK (binV .i .eql a1 (.int .i64 0)) fun g=>
 iteK g (
 R (.int .i64 0) h) (
 FCall prog zbx #[a0] h fun j k=>
 vK ((fillL #[(.int .u64 0),(.int .u64 0)] [(0,1,(.int .u64 0)),(1,1,j)]).map .agg) fun l=>
 FCall prog zbx #[a1] k fun m n=>
 FCall prog zgj #[l,m] n fun e o=>
 vK (extV e 0) fun p=>
 vK (extV e 1) fun q=>
 newK #[(.int .u64 0),(.int .u64 0)] 293 o fun a r=>
 stK 2 a p r fun ah d=>
 vK (binV .i .lss a0 (.int .i64 0)) fun s=>
 vK (binV .i .lss a1 (.int .i64 0)) fun t=>
 vK (binV .b .neq s t) fun c=>
 vK (gV c true (some q)) fun u=>
 vK (gV c true (binV .i .gtr u (.int .u64 0))) fun v=>
 vK (pickV c v (.bool false)) fun w=>
 iteK w (
 vK (ldsV 2 d a) fun x=>
 vK ((fillL #[(.int .u64 0),(.int .u64 0)] [(0,1,(.int .u64 0)),(1,1,(.int .u64 1))]).map .agg) fun y=>
 FCall prog zcg #[x,y] d fun z aa=>
 stK 2 a z aa fun ai f=>
 vK (ldsV 2 f a) fun ab=>
 FCall prog za2 #[ab,c] f fun ac ad=>
 R ac ad) (
 vK (ldsV 2 d a) fun ae=>
 FCall prog za2 #[ae,c] d fun af ag=>
 R af ag))
theorem zoD (H:zjf a0 a1 h R):FCall prog ze3 #[a0,a1] h R:=fk f251 (.s .z (.s (.s .z (.s (.s .z .z) .z)) (.s .z (.s .z (.s (.s .z (.s .z .z)) (.s .z .z)))))) H
def zmj (a0:Value)(h:Heap)(R:Value→Heap→Prop):Prop:=
 joinK (fun c=>
 vK (binV .i .lss a0 (.int .i64 0)) fun k=>
 iteK k (
 c [(.int .i64 0)] h) (
 c [a0] h))
 fun d aa l=>
 FCall prog ze3 #[(ix d 0),(.int .i64 762123384786)] l fun e m=>
 vK (binV .i .mul e (.int .i64 762123384786)) fun n=>
 vK (binV .i .sub (ix d 0) n) fun o=>
 loopK [(.int .i64 1099511627776),(.int .i64 0),(.int .i64 1099511627776),(.int .i64 1)] m fun a ab f g=>
 vK (binV .i .leq (ix a 3) (.int .i64 16)) fun p=>
 iteK p (
 vK (binV .i .mul (ix a 3) (.int .i64 1099511627776)) fun q=>
 FCall prog zaQ #[(ix a 2),o,q] f fun b j=>
 vK (binV .i .rem (ix a 3) (.int .i64 2)) fun r=>
 vK (binV .i .eql r (.int .i64 1)) fun s=>
 iteK s (
 vK (binV .i .add (ix a 1) b) fun t=>
 vK (binV .i .add (ix a 3) (.int .i64 1)) fun u=>
 g [(ix a 0),t,b,u] j) (
 vK (binV .i .add (ix a 0) b) fun v=>
 vK (binV .i .add (ix a 3) (.int .i64 1)) fun w=>
 g [v,(ix a 1),b,w] j)) (
 vK (binV .i .sub (ix a 0) (ix a 1)) fun x=>
 FCall prog zdG #[x,e] f fun y z=>
 R y z)
theorem ok_ref03_Exp (H:zmj a0 h R):FCall prog zjX #[a0] h R:=fk f252 (.s .z (.j 1537 [0] (.s .z (.s .z .z)) (.s .z (.s .z (.s .z (.s .z (.s .z (.s (.s .z (.l 34359607776 [5,6,7,8] (.s (.s .z (.s .z .z)) (.s (.s .z (.s .z (.s .z .z))) .z)))) (.s .z .z))))))))) H
def zi9 (a0 a1:Value)(h:Heap)(R:Value→Heap→Prop):Prop:=
 vK (binV .i .lss a1 (.int .i64 1)) fun a=>
 vK (gV a false (some a1)) fun d=>
 vK (gV a false (binV .i .gtr d (.int .i64 4194304))) fun e=>
 vK (pickV a (.bool true) e) fun b=>
 vK (gV b false (some a0)) fun f=>
 vK (gV b false (binV .i .lss f (.int .i64 (-16384)))) fun g=>
 vK (pickV b (.bool true) g) fun c=>
 vK (gV c false (some a0)) fun j=>
 vK (gV c false (binV .i .gtr j (.int .i64 16384))) fun k=>
 vK (pickV c (.bool true) k) fun l=>
 iteK l (
 R (.int .i64 9223372036854775807) h) (
 vK (binV .i .mul a0 a0) fun m=>
 vK (binV .i .mul m (.int .i64 2147483648)) fun n=>
 vK (binV .i .mul a1 a1) fun o=>
 FCall prog zaQ #[n,(.int .i64 1099511627776),o] h fun p q=>
 R p q)
theorem zox (H:zi9 a0 a1 h R):FCall prog zhb #[a0,a1] h R:=fk f253 (.s .z (.s (.s .z (.s (.s .z .z) .z)) (.s .z .z))) H
def zkl (a0 a1:Value)(h:Heap)(R:Value→Heap→Prop):Prop:=
 vK (binV .i .gtr a1 (.int .i64 0)) fun a=>
 vK (gV a true (some a0)) fun c=>
 vK (gV a true (some a1)) fun d=>
 vK (gV a true (binV .i .sub (.int .i64 9223372036854775807) d)) fun e=>
 vK (gV a true (binV .i .gtr c e)) fun f=>
 vK (pickV a f (.bool false)) fun g=>
 iteK g (
 R (.int .i64 9223372036854775807) h) (
 vK (binV .i .lss a1 (.int .i64 0)) fun b=>
 vK (gV b true (some a0)) fun j=>
 vK (gV b true (some a1)) fun k=>
 vK (gV b true (binV .i .sub (.int .i64 (-9223372036854775808)) k)) fun l=>
 vK (gV b true (binV .i .lss j l)) fun m=>
 vK (pickV b m (.bool false)) fun n=>
 iteK n (
 R (.int .i64 (-9223372036854775808)) h) (
 vK (binV .i .add a0 a1) fun o=>
 R o h))
theorem zqh (H:zkl a0 a1 h R):FCall prog zgg #[a0,a1] h R:=fk f254 (.s .z (.s (.s .z (.s (.s .z .z) .z)) (.s (.s .z (.s (.s .z .z) .z)) (.s .z .z)))) H
end
end Go.Proofs.YtcoimlclclnlkaaGreatDoor
