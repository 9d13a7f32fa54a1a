/- Several texts of this session, one behind the other, without what this claim does not need (put together by its program pack.py). Conditions: none. -/
import Derived.Test.YtjljhnandbbldaaGreatDoorMw0
import Derived.Lib.ItoaNum
import Derived.Lib.LaidTab
import Derived.LaidLaws
import Derived.LaidHandle
import Derived.LaidMore
import Derived.MakeChecks
import Derived.Handed
import Derived.Stop.Joined
import Derived.Test.YtjljhnandbbldaaGreatDoorRows
set_option linter.unusedVariables false
set_option linter.unusedSimpArgs false
set_option maxRecDepth 100000
namespace Go.Proofs.YtjljhnandbbldaaGreatDoor
open Go Go.Crisp
open _root_.Go.Proofs.Tryz
section
variable {a0 a1 a2 a3 a4 a5 a6:Value}{h:ai}{R:Value→ai→Prop}
def tG (a0:Value)(h:ai)(R:Value→ai→Prop):Prop:=
 vK (aX a0) λa=>
 vK (aC 0 a) λb=>
 vK (ldV h b) λc=>
 vK (aD c) λd=>
 R d h
theorem Dl (H:tG a0 h R):ag prog mZ #[a0] h R:=fk f50 (.s .z (.s .z .z)) H
def uX (a0 a1:Value)(h:ai)(R:Value→ai→Prop):Prop:=
 aT #[aj,(.slice none 0 0),aj,aj,aj,(.bool false)] 120 h λc b=>
 vK (ak .i .lss a1 aj) λa=>
 vK (gV a false (some a1)) λf=>
 vK (gV a false (some a0)) λg=>
 vK (gV a false (aX g)) λj=>
 vK (gV a false (aC 0 j)) λk=>
 vK (gV a false (ldV b k)) λl=>
 vK (gV a false (aD l)) λm=>
 vK (gV a false (ak .i .geq f m)) λn=>
 vK (aH a (.bool true) n) λo=>
 aG o (
 vK ((aR #[aj,(.slice none 0 0),aj,aj,aj,(.bool false)] []).map .agg) λp=>
 stK 6 c p b λz d=>
 vK (aM 6 d c) λq=>
 R (.tuple #[q,(.bool false)]) d) (
 vK (aX a0) λr=>
 vK (aC 0 r) λs=>
 vK (ldV b s) λt=>
 vK (bh 6 t a1) λu=>
 vK (aM 6 b u) λv=>
 ag prog qH #[v] b λw x=>
 stK 6 c w x λaa e=>
 vK (aM 6 e c) λy=>
 R (.tuple #[y,(.bool true)]) e)
theorem Fl (H:uX a0 a1 h R):ag prog oM #[a0,a1] h R:=fk f51 (.s .z (.s (.s .z (.s (.s .z .z) .z)) (.s .z .z))) H
def Cq (a0 a1:Value)(h:ai)(R:Value→ai→Prop):Prop:=
 vK (aD a0) λc=>
 vK (aD a1) λd=>
 vK (ak .i .neq c d) λe=>
 aG e (
 R (.bool false) h) (
 vK (aD a0) λf=>
 bC [aj] h λb q a g=>
 vK (ak .i .lss (ix b 0) f) λj=>
 aG j (
 vK (bh 1 a0 (ix b 0)) λk=>
 vK (ldV a k) λl=>
 vK (bh 1 a1 (ix b 0)) λm=>
 vK (ldV a m) λn=>
 vK (ak .i .neq l n) λo=>
 aG o (
 R (.bool false) a) (
 vK (ak .i .add (ix b 0) aJ) λp=>
 g [p] a)) (
 R (.bool true) a))
theorem Ox (H:Cq a0 a1 h R):ag prog sP #[a0,a1] h R:=fk f52 (.s .z (.s (.s .z (.s (.s .z .z) .z)) (.s (.s .z (.l 67100720 [13] (.s .z (.s (.s .z .z) (.s (.s .z (.s .z (.s (.s .z .z) .z))) .z))))) (.s .z .z)))) H
def FC (a0 a1:Value)(h:ai)(R:Value→ai→Prop):Prop:=
 aT (Value.cells a0) 48 h λb a=>
 vK (ak .i .lss a1 aj) λd=>
 vK (gV d false (some a1)) λj=>
 vK (gV d false (aC 12 b)) λk=>
 vK (gV d false (ldV a k)) λl=>
 vK (gV d false (aD l)) λm=>
 vK (gV d false (ak .i .gtr j m)) λn=>
 vK (aH d (.bool true) n) λo=>
 aG o (
 R (.bool false) a) (
 vK (ak .i .gtr a1 aj) λp=>
 aG p (
 vK (aC 12 b) λq=>
 vK (ldV a q) λr=>
 vK (ak .i .sub a1 aJ) λs=>
 vK (bh 3 r s) λt=>
 vK (aM 3 a t) λu=>
 aT #[aj,(.slice none 0 0),(.slice none 0 0)] 69 a λg v=>
 stK 3 g u v λbi e=>
 vK (aC 0 g) λw=>
 vK (ldV e w) λx=>
 vK (ak .i .eql x aj) λy=>
 aG y (
 vK (aC 8 b) λz=>
 vK (aC 1 z) λaa=>
 vK (ldV e aa) λab=>
 vK (aD ab) λac=>
 vK (ak .i .gtr ac aj) λf=>
 vK (gV f false (aC 8 b)) λad=>
 vK (gV f false (aC 2 ad)) λae=>
 vK (gV f false (ldV e ae)) λaf=>
 vK (aH f (.bool true) af) λag=>
 R ag e) (
 vK (aC 0 g) λah=>
 vK (ldV e ah) λal=>
 vK (ak .i .eql al aJ) λam=>
 R am e)) (
 vK (aC 16 b) λan=>
 vK (ldV a an) λao=>
 aG ao (
 R (.bool false) a) (
 vK (aC 14 b) λap=>
 vK (ldV a ap) λaq=>
 vK (aC 6 b) λar=>
 vK (ldV a ar) λau=>
 vK (aD au) λav=>
 vK (ak .i .lss aq av) λaw=>
 aG aw (
 vK (aC 8 b) λax=>
 vK (aC 1 ax) λay=>
 vK (ldV a ay) λaz=>
 vK (aD az) λa2=>
 vK (aC 8 b) λa3=>
 vK (aC 0 a3) λa4=>
 vK (ldV a a4) λa5=>
 vK (ak .i .lss a2 a5) λa6=>
 R a6 a) (
 vK (aC 15 b) λa7=>
 vK (ldV a a7) λa8=>
 vK (unV .not a8) λc=>
 vK (gV c false (aC 19 b)) λa9=>
 vK (gV c false (ldV a a9)) λba=>
 vK (gV c false (aD ba)) λbb=>
 vK (gV c false (aC 12 b)) λbc=>
 vK (gV c false (ldV a bc)) λbd=>
 vK (gV c false (aD bd)) λbe=>
 vK (gV c false (ak .i .eql bb be)) λbf=>
 vK (aH c (.bool true) bf) λbg=>
 R bg a))))
theorem QV (H:FC a0 a1 h R):ag prog vV #[a0,a1] h R:=fk f53 (.s .z (.s (.s .z (.s (.s .z .z) .z)) (.s (.s .z (.s (.s .z (.s (.s .z (.s (.s .z .z) .z)) (.s .z .z))) .z)) (.s (.s .z (.s (.s .z .z) .z)) (.s (.s .z (.s (.s .z .z) .z)) (.s .z .z)))))) H
def sC (a0:Value)(h:ai)(R:Value→ai→Prop):Prop:=
 aT (Value.cells a0) 48 h λa x=>
 aT aK 48 x λc b=>
 vK (aC 14 a) λy=>
 vK (ldV b y) λz=>
 vK (aC 6 a) λaa=>
 vK (ldV b aa) λab=>
 vK (aD ab) λac=>
 vK (ak .i .lss z ac) λad=>
 aG ad (
 vK (aC 8 a) λae=>
 vK (aM 3 b ae) λaf=>
 vK (aC 14 a) λah=>
 vK (ldV b ah) λal=>
 ag prog Bd #[af,al] b λk am=>
 vK (aP k 0) λan=>
 vK (aP k 1) λco=>
 vK (aC 8 a) λao=>
 stK 3 ao an am λcp l=>
 vK (aM 20 l a) λap=>
 ag prog qu #[ap,aj] l λm aq=>
 vK (aP m 0) λar=>
 vK (aP m 1) λau=>
 aT aK 48 aq λd av=>
 stK 20 d ar av λcq aw=>
 cO #[] 41 0 [] aw λax n=>
 vK (aC 17 a) λay=>
 vK (ldV n ay) λaz=>
 cR (.slice none 0 0) 41 1 24 ax az n λa1 a2=>
 cO #[(.slice none 0 0)] 41 1 [(0,1,au)] a2 λa3 a4=>
 cR (.slice none 0 0) 41 1 24 a1 a3 a4 λa5 a6=>
 vK (aC 17 d) λa7=>
 stK 1 a7 a5 a6 λcr o=>
 vK (aC 14 d) λa8=>
 vK (ldV o a8) λa9=>
 vK (ak .i .add a9 aJ) λba=>
 vK (aC 14 d) λbb=>
 stK 1 bb ba o λcs p=>
 vK (aM 20 p d) λbc=>
 stK 20 c bc p λct q=>
 vK (aM 20 q c) λbd=>
 R bd q) (
 vK (aC 15 a) λbe=>
 vK (ldV b be) λbf=>
 vK (unV .not bf) λbg=>
 aG bg (
 vK (aC 15 a) λbi=>
 stK 1 bi (.bool true) b λcu bj=>
 vK (aC 8 a) λbk=>
 vK (aC 2 bk) λbl=>
 stK 1 bl (.bool true) bj λcv r=>
 vK (aM 20 r a) λbm=>
 ag prog qu #[bm,aj] r λs bn=>
 vK (aP s 0) λbo=>
 vK (aP s 1) λbp=>
 aT aK 48 bn λg bq=>
 stK 20 g bo bq λcw br=>
 vK (aC 18 g) λbs=>
 stK 1 bs bp br λcx t=>
 vK (aM 20 t g) λbt=>
 stK 20 c bt t λcy u=>
 vK (aM 20 u c) λbu=>
 R bu u) (
 vK (aC 19 a) λbv=>
 vK (ldV b bv) λv=>
 vK (aD v) λbw=>
 bC [aj] b λj cz f bx=>
 vK (ak .i .lss (ix j 0) bw) λbz=>
 aG bz (
 vK (bh 1 v (ix j 0)) λb0=>
 vK (ldV f b0) λb1=>
 vK (aM 20 f a) λb2=>
 ag prog qw #[b2,aj,b1] f λb3 b4=>
 stK 20 a b3 b4 λc0 b5=>
 vK (ak .i .add (ix j 0) aJ) λb6=>
 bx [b6] b5) (
 vK (aC 16 a) λb7=>
 stK 1 b7 (.bool true) f λc1 e=>
 vK (aM 20 e a) λb8=>
 vK (aC 0 a) λb9=>
 vK (aC 0 b9) λca=>
 vK (ldV e ca) λcb=>
 vK (aD cb) λcc=>
 vK (aC 0 a) λcd=>
 vK (aC 1 cd) λce=>
 vK (ldV e ce) λcf=>
 vK (aD cf) λcg=>
 vK (ak .i .mul cc cg) λch=>
 vK (aC 5 a) λci=>
 vK (ldV e ci) λcj=>
 vK (ak .i .mul ch cj) λck=>
 ag prog iE #[b8,aj,aJ,aj,ck,(.bool false)] e λcl cm=>
 stK 20 c cl cm λc2 w=>
 vK (aM 20 w c) λcn=>
 R cn w)))
theorem yR (H:sC a0 h R):ag prog qx #[a0] h R:=fk f54 (.s .z (.s (.s .z (.s (.s .z (.s .z (.s .z (.s .z (.s .z .z))))) .z)) (.s (.s .z (.s (.s .z (.s .z (.s .z (.s .z (.s .z .z))))) .z)) (.s (.s .z (.l 146997491837372989696 [59] (.s .z (.s (.s .z .z) (.s (.s .z .z) .z))))) (.s .z (.s .z .z)))))) H
def Fy (a0 a1:Value)(h:ai)(R:Value→ai→Prop):Prop:=
 aT (Value.cells a0) 48 h λa ct=>
 aT aK 48 ct λe c=>
 eM (λcu=>
 bL c λS=>
 vK (aC 12 a) λcv=>
 qK S (λc=>ldV c cv) λcw=>
 vK (ak .i .sub a1 aJ) λcx=>
 vK (bh 3 cw cx) λcy=>
 qK S (λc=>aM 3 c cy) λf=>
 vK (aC 8 a) λcz=>
 qK S (λc=>aM 3 c cz) λg=>
 vK (aC 7 a) λc0=>
 qK S (λc=>ldV c c0) λj=>
 (λC33:Value→Value→Value→Value→Value→Value→ai→Prop=>
 (λC44:Value→Value→Value→Value→Value→ai→Prop=>
 (λC55:Value→Value→Value→Value→Value→ai→Prop=>
 (λC66:Value→Value→Value→Value→Value→ai→Prop=>
 (λC78:Value→Value→Value→Value→ai→Prop=>
 (λC90:Value→Value→Value→Value→ai→Prop=>
 (λC102:Value→Value→Value→Value→ai→Prop=>
 (λC112:Value→Value→Value→ai→Prop=>
 (λC123:Value→Value→ai→Prop=>
 (λC134:Value→Value→ai→Prop=>
 (λC145:Value→Value→ai→Prop=>
 (ag prog gb #[f,g,j] c λr n=>
 S n∧(vK (aP r 0) λs=>
 vK (aP r 1) λt=>
 vK (aP r 2) λu=>
 (aT #[aj,(.slice none 0 0),(.slice none 0 0)] 69 n λc1 al=>
 S al∧(C78 s t u c1 al))∧((aT #[aj,(.slice none 0 0),(.bool false)] 43 n λc2 am=>
 S am∧(C90 s t u c2 am))∧(aT #[aj,aj,aj,aj] 200 n λc3 an=>
 S an∧(C102 s t u c3 an)))))∧((aT #[aj,(.slice none 0 0),(.slice none 0 0)] 69 c λv o=>
 S o∧((ag prog gb #[f,g,j] o λw ao=>
 S ao∧(vK (aP w 0) λc4=>
 vK (aP w 1) λc5=>
 vK (aP w 2) λc6=>
 C78 c4 c5 c6 v ao))∧((aT #[aj,(.slice none 0 0),(.bool false)] 43 o λc7 ap=>
 S ap∧(C123 v c7 ap))∧(aT #[aj,aj,aj,aj] 200 o λc8 aq=>
 S aq∧(C134 v c8 aq)))))∧((aT #[aj,(.slice none 0 0),(.bool false)] 43 c λx p=>
 S p∧((ag prog gb #[f,g,j] p λy ar=>
 S ar∧(vK (aP y 0) λc9=>
 vK (aP y 1) λda=>
 vK (aP y 2) λdb=>
 C90 c9 da db x ar))∧((aT #[aj,(.slice none 0 0),(.slice none 0 0)] 69 p λdc au=>
 S au∧(C123 dc x au))∧(aT #[aj,aj,aj,aj] 200 p λdd av=>
 S av∧(C145 x dd av)))))∧(aT #[aj,aj,aj,aj] 200 c λz q=>
 S q∧((ag prog gb #[f,g,j] q λaa aw=>
 S aw∧(vK (aP aa 0) λde=>
 vK (aP aa 1) λdf=>
 vK (aP aa 2) λdg=>
 C102 de df dg z aw))∧((aT #[aj,(.slice none 0 0),(.slice none 0 0)] 69 q λdh ax=>
 S ax∧(C134 dh z ax))∧(aT #[aj,(.slice none 0 0),(.bool false)] 43 q λdi ay=>
 S ay∧(C145 di z ay)))))))) (λaz a2 a3=>
 (ag prog gb #[f,g,j] a3 λab a4=>
 S a4∧(vK (aP ab 0) λdj=>
 vK (aP ab 1) λdk=>
 vK (aP ab 2) λdl=>
 C66 dj dk dl az a2 a4))∧(aT #[aj,(.slice none 0 0),(.slice none 0 0)] 69 a3 λdm a5=>
 S a5∧(C112 dm az a2 a5)))) (λa6 a7 a8=>
 (ag prog gb #[f,g,j] a8 λac a9=>
 S a9∧(vK (aP ac 0) λdn=>
 vK (aP ac 1) λdp=>
 vK (aP ac 2) λdq=>
 C55 dn dp dq a6 a7 a9))∧(aT #[aj,(.slice none 0 0),(.bool false)] 43 a8 λdr ba=>
 S ba∧(C112 a6 dr a7 ba)))) (λbb bc bd=>
 (ag prog gb #[f,g,j] bd λad be=>
 S be∧(vK (aP ad 0) λds=>
 vK (aP ad 1) λdt=>
 vK (aP ad 2) λdu=>
 C44 ds dt du bb bc be))∧(aT #[aj,aj,aj,aj] 200 bd λdv bf=>
 S bf∧(C112 bb bc dv bf)))) (λdw dx dy dz=>
 ag prog gb #[f,g,j] dz λae bg=>
 S bg∧(vK (aP ae 0) λd0=>
 vK (aP ae 1) λd1=>
 vK (aP ae 2) λd2=>
 C33 d0 d1 d2 dw dx dy bg))) (λbi bj bk bl bm=>
 (aT #[aj,(.slice none 0 0),(.slice none 0 0)] 69 bm λd3 bn=>
 S bn∧(C55 bi bj bk d3 bl bn))∧(aT #[aj,(.slice none 0 0),(.bool false)] 43 bm λd4 bo=>
 S bo∧(C66 bi bj bk d4 bl bo)))) (λbp bq br bs bt=>
 (aT #[aj,(.slice none 0 0),(.slice none 0 0)] 69 bt λd5 bu=>
 S bu∧(C44 bp bq br d5 bs bu))∧(aT #[aj,aj,aj,aj] 200 bt λd6 bv=>
 S bv∧(C66 bp bq br bs d6 bv)))) (λbw bx bz b0 b1=>
 (aT #[aj,(.slice none 0 0),(.bool false)] 43 b1 λd7 b2=>
 S b2∧(C44 bw bx bz b0 d7 b2))∧(aT #[aj,aj,aj,aj] 200 b1 λd8 b3=>
 S b3∧(C55 bw bx bz b0 d8 b3)))) (λd9 ea eb ec ed ee=>
 aT #[aj,(.slice none 0 0),(.slice none 0 0)] 69 ee λef b4=>
 S b4∧(C33 d9 ea eb ef ec ed b4))) (λeg eh ei ej ek el=>
 aT #[aj,(.slice none 0 0),(.bool false)] 43 el λem b5=>
 S b5∧(C33 eg eh ei ej em ek b5))) (λen eo ep eq er es=>
 aT #[aj,aj,aj,aj] 200 es λet b6=>
 S b6∧(C33 en eo ep eq er et b6))) (λeu ev ew b7 b8 b9 ex=>
 stK 3 b7 eu ex λib ca=>
 S ca∧(stK 3 b8 ev ca λic cb=>
 S cb∧(stK 4 b9 ew cb λid ey=>
 cu [b7,b8,b9] ey))))
 λk ie ez=>
 cO #[] 69 0 [] ez λe0 cc=>
 vK (aC 12 a) λe1=>
 vK (ldV cc e1) λe2=>
 cR (.agg #[aj,.slice none 0 0,.slice none 0 0]) 69 3 56 e0 e2 cc λcd ce=>
 vK (ak .i .sub a1 aJ) λe3=>
 vK (aM 3 ce (ix k 0)) λe4=>
 vK (bh 3 cd e3) λe5=>
 stK 3 e5 e4 ce λig e6=>
 vK (aC 12 a) λe7=>
 stK 1 e7 cd e6 λih cf=>
 vK (aM 3 cf (ix k 1)) λe8=>
 vK (aC 8 a) λe9=>
 stK 3 e9 e8 cf λii b=>
 vK (aC 0 (ix k 2)) λfa=>
 vK (ldV b fa) λcg=>
 vK (ak .i .eql cg aJ) λfb=>
 aG fb (
 bL b λS=>
 qK S (λb=>aM 20 b a) λfc=>
 vK (aC 17 a) λfd=>
 qK S (λb=>ldV b fd) λfe=>
 vK (aC 1 (ix k 2)) λff=>
 qK S (λb=>ldV b ff) λfg=>
 vK (bh 1 fe fg) λfh=>
 qK S (λb=>ldV b fh) λfi=>
 ag prog qw #[fc,a1,fi] b λfj fk=>
 stK 20 e fj fk λij ch=>
 vK (aM 20 ch e) λfl=>
 R fl ch) (
 vK (ak .i .eql cg (af 3)) λfm=>
 aG fm (
 vK (aM 20 b a) λfn=>
 vK (aC 18 a) λfo=>
 vK (ldV b fo) λfp=>
 ag prog qw #[fn,a1,fp] b λfq fr=>
 stK 20 a fq fr λik ci=>
 vK (aM 20 ci a) λfs=>
 ag prog qu #[fs,a1] ci λcj ft=>
 vK (aP cj 0) λfu=>
 vK (aP cj 1) λfv=>
 aT aK 48 ft λah fw=>
 stK 20 ah fu fw λil fx=>
 cO #[] 41 0 [] fx λfy ck=>
 vK (aC 19 a) λfz=>
 vK (ldV ck fz) λf0=>
 cR (.slice none 0 0) 41 1 24 fy f0 ck λf1 f2=>
 cO #[(.slice none 0 0)] 41 1 [(0,1,fv)] f2 λf3 f4=>
 cR (.slice none 0 0) 41 1 24 f1 f3 f4 λf5 f6=>
 vK (aC 19 ah) λf7=>
 stK 1 f7 f5 f6 λim cl=>
 vK (aM 20 cl ah) λf8=>
 stK 20 e f8 cl λio cm=>
 vK (aM 20 cm e) λf9=>
 R f9 cm) (
 vK (aC 6 a) λga=>
 vK (ldV b ga) λgc=>
 vK (aC 1 (ix k 2)) λgd=>
 vK (ldV b gd) λge=>
 vK (bh 10 gc ge) λgf=>
 vK (aM 10 b gf) λgg=>
 aT #[aj,aj,aj,aj,aj,aj,aj,aj,aj,aj] 59 b λm gh=>
 stK 10 m gg gh λip d=>
 vK (aC 9 m) λgi=>
 vK (ldV d gi) λgj=>
 vK (aC 3 m) λgk=>
 vK (ldV d gk) λgl=>
 vK (ak .i .mul gj gl) λgm=>
 vK (aC 5 a) λgn=>
 vK (ldV d gn) λgo=>
 vK (ak .i .mul gm go) λcn=>
 vK (aC 2 (ix k 2)) λgp=>
 vK (aC 0 gp) λgq=>
 vK (ldV d gq) λgr=>
 vK (ak .i .eql gr aJ) λgs=>
 aG gs (
 vK (aC 0 a) λgt=>
 vK (aC 2 gt) λgu=>
 vK (ldV d gu) λgv=>
 vK (aC 5 a) λgw=>
 vK (ldV d gw) λgx=>
 vK (ak .i .mul gv gx) λco=>
 vK (aC 0 a) λgy=>
 vK (aC 4 gy) λgz=>
 vK (ldV d gz) λg0=>
 vK (aC 2 (ix k 2)) λg1=>
 vK (aC 1 g1) λg2=>
 vK (ldV d g2) λg3=>
 vK (aC 0 a) λg4=>
 vK (aC 3 g4) λg5=>
 vK (ldV d g5) λg6=>
 ag prog If #[g0,g3,g6] d λg7 cp=>
 vK (aM 20 cp a) λg8=>
 vK (ak .i .mul g7 co) λg9=>
 ag prog iE #[g8,a1,aj,g9,co,(.bool false)] cp λha hb=>
 stK 20 a ha hb λiq cq=>
 vK (aM 20 cq a) λhc=>
 vK (ak .i .add aJ a1) λhd=>
 ag prog iE #[hc,a1,hd,aj,cn,(.bool true)] cq λhe hf=>
 stK 20 e he hf λir cr=>
 vK (aM 20 cr e) λhg=>
 R hg cr) (
 vK (aM 20 d a) λhh=>
 vK (ak .i .add aJ a1) λhi=>
 ag prog iE #[hh,a1,hi,aj,cn,(.bool false)] d λhj hk=>
 stK 20 a hj hk λit l=>
 vK (aM 20 l a) λhl=>
 vK (aC 2 (ix k 2)) λhm=>
 vK (aC 1 hm) λhn=>
 vK (ldV l hn) λho=>
 vK (aC 0 a) λhp=>
 vK (aC 0 hp) λhq=>
 vK (ldV l hq) λhr=>
 vK (aD hr) λhs=>
 vK (ak .i .mul ho hs) λht=>
 vK (aC 1 m) λhu=>
 vK (ldV l hu) λhv=>
 vK (ak .i .add ht hv) λhw=>
 vK (aC 5 a) λhx=>
 vK (ldV l hx) λhy=>
 vK (ak .i .mul hw hy) λhz=>
 vK (aC 3 m) λh0=>
 vK (ldV l h0) λh1=>
 vK (aC 5 a) λh3=>
 vK (ldV l h3) λh5=>
 vK (ak .i .mul h1 h5) λh6=>
 ag prog iE #[hl,a1,aJ,hz,h6,(.bool true)] l λh7 h9=>
 stK 20 e h7 h9 λiu cs=>
 vK (aM 20 cs e) λia=>
 R ia cs)))
theorem QR (H:Fy a0 a1 h R):ag prog vU #[a0,a1] h R:=fk f55 (.s .z (.j 1073709280 [5,6,7] (.d (.op 0 .r (.op 1 .r (.op 2 .r (.op 3 .r (.op 4 .r (.op 5 .r (.op 6 .r (.op 7 .r (.op 8 .r (.op 9 .r (.alt (.op 10 .e (.op 11 .r (.op 12 .r (.op 13 .r (.op 14 .r (.alt (.op 15 .e (.alt (.op 16 .e (.op 17 .e (.op 18 .e (.op 19 .e (.op 20 .n .nil))))) (.op 17 .e (.op 16 .e (.op 18 .e (.op 19 .e (.op 20 .n .nil))))))) (.alt (.op 16 .e (.alt (.op 15 .e (.op 17 .e (.op 18 .e (.op 19 .e (.op 20 .n .nil))))) (.op 17 .e (.op 15 .e (.op 18 .e (.op 19 .e (.op 20 .n .nil))))))) (.op 17 .e (.alt (.op 15 .e (.op 16 .e (.op 18 .e (.op 19 .e (.op 20 .n .nil))))) (.op 16 .e (.op 15 .e (.op 18 .e (.op 19 .e (.op 20 .n .nil)))))))))))))) (.alt (.op 15 .e (.alt (.op 10 .e (.op 11 .r (.op 12 .r (.op 13 .r (.op 14 .r (.alt (.op 16 .e (.op 17 .e (.op 18 .e (.op 19 .e (.op 20 .n .nil))))) (.op 17 .e (.op 16 .e (.op 18 .e (.op 19 .e (.op 20 .n .nil))))))))))) (.alt (.op 16 .e (.alt (.op 10 .e (.op 11 .r (.op 12 .r (.op 13 .r (.op 14 .r (.op 17 .e (.op 18 .e (.op 19 .e (.op 20 .n .nil))))))))) (.op 17 .e (.op 10 .e (.op 11 .r (.op 12 .r (.op 13 .r (.op 14 .r (.op 18 .e (.op 19 .e (.op 20 .n .nil))))))))))) (.op 17 .e (.alt (.op 10 .e (.op 11 .r (.op 12 .r (.op 13 .r (.op 14 .r (.op 16 .e (.op 18 .e (.op 19 .e (.op 20 .n .nil))))))))) (.op 16 .e (.op 10 .e (.op 11 .r (.op 12 .r (.op 13 .r (.op 14 .r (.op 18 .e (.op 19 .e (.op 20 .n .nil)))))))))))))) (.alt (.op 16 .e (.alt (.op 10 .e (.op 11 .r (.op 12 .r (.op 13 .r (.op 14 .r (.alt (.op 15 .e (.op 17 .e (.op 18 .e (.op 19 .e (.op 20 .n .nil))))) (.op 17 .e (.op 15 .e (.op 18 .e (.op 19 .e (.op 20 .n .nil))))))))))) (.alt (.op 15 .e (.alt (.op 10 .e (.op 11 .r (.op 12 .r (.op 13 .r (.op 14 .r (.op 17 .e (.op 18 .e (.op 19 .e (.op 20 .n .nil))))))))) (.op 17 .e (.op 10 .e (.op 11 .r (.op 12 .r (.op 13 .r (.op 14 .r (.op 18 .e (.op 19 .e (.op 20 .n .nil))))))))))) (.op 17 .e (.alt (.op 10 .e (.op 11 .r (.op 12 .r (.op 13 .r (.op 14 .r (.op 15 .e (.op 18 .e (.op 19 .e (.op 20 .n .nil))))))))) (.op 15 .e (.op 10 .e (.op 11 .r (.op 12 .r (.op 13 .r (.op 14 .r (.op 18 .e (.op 19 .e (.op 20 .n .nil)))))))))))))) (.op 17 .e (.alt (.op 10 .e (.op 11 .r (.op 12 .r (.op 13 .r (.op 14 .r (.alt (.op 15 .e (.op 16 .e (.op 18 .e (.op 19 .e (.op 20 .n .nil))))) (.op 16 .e (.op 15 .e (.op 18 .e (.op 19 .e (.op 20 .n .nil))))))))))) (.alt (.op 15 .e (.alt (.op 10 .e (.op 11 .r (.op 12 .r (.op 13 .r (.op 14 .r (.op 16 .e (.op 18 .e (.op 19 .e (.op 20 .n .nil))))))))) (.op 16 .e (.op 10 .e (.op 11 .r (.op 12 .r (.op 13 .r (.op 14 .r (.op 18 .e (.op 19 .e (.op 20 .n .nil))))))))))) (.op 16 .e (.alt (.op 10 .e (.op 11 .r (.op 12 .r (.op 13 .r (.op 14 .r (.op 15 .e (.op 18 .e (.op 19 .e (.op 20 .n .nil))))))))) (.op 15 .e (.op 10 .e (.op 11 .r (.op 12 .r (.op 13 .r (.op 14 .r (.op 18 .e (.op 19 .e (.op 20 .n .nil)))))))))))))))))))))))))))) (.s .z (.s .z (.s .z (.s .z (.s (.s .z (.s .z (.s (.s (.d (.op 0 .r (.op 1 .r (.op 2 .r (.op 3 .r (.op 4 .r (.op 5 .r (.op 6 .r (.op 7 .r (.op 8 .n (.op 9 .n .nil))))))))))) .z) (.s .z (.s (.s .z (.s .z (.s .z (.s .z .z)))) .z))))) (.s .z (.s .z (.s (.s .z (.s (.s .z (.s .z (.s .z (.s .z .z)))) .z)) (.s .z (.s .z .z)))))))))))) H
def CE (a0 a1:Value)(h:ai)(R:Value→ai→Prop):Prop:=
 aT (Value.cells a0) 120 h λd m=>
 aT (Value.cells a1) 120 m λe a=>
 vK (aC 0 d) λn=>
 vK (ldV a n) λo=>
 vK (aC 0 e) λp=>
 vK (ldV a p) λq=>
 vK (ak .i .neq o q) λf=>
 vK (gV f true (aC 5 d)) λr=>
 vK (gV f true (ldV a r)) λs=>
 vK (gV f true (some s)) λl=>
 vK (gV l false (aC 5 e)) λt=>
 vK (gV l false (ldV a t)) λu=>
 vK (gV f true (aH l (.bool true) u)) λv=>
 vK (aH f v (.bool false)) λg=>
 vK (gV g true (aM 6 a d)) λw=>
 vK (gV g true (aM 6 a e)) λx=>
 gK g true (λy=>ag prog xG #[w,x] a y) a λz j=>
 vK (aH g z (.bool false)) λb=>
 vK (gV b true (aC 1 d)) λaa=>
 vK (gV b true (ldV j aa)) λab=>
 vK (gV b true (aC 1 e)) λac=>
 vK (gV b true (ldV j ac)) λad=>
 gK b true (λae=>ag prog sZ #[ab,ad] j ae) j λaf k=>
 vK (gV b true (unV .not af)) λah=>
 vK (aH b ah (.bool false)) λc=>
 vK (gV c true (aC 1 e)) λaj=>
 vK (gV c true (ldV k aj)) λal=>
 vK (gV c true (aC 1 d)) λam=>
 vK (gV c true (ldV k am)) λan=>
 gK c true (λao=>ag prog sZ #[al,an] k ao) k λap aq=>
 vK (gV c true (unV .not ap)) λar=>
 vK (aH c ar (.bool false)) λau=>
 R au aq
theorem OJ (H:CE a0 a1 h R):ag prog sV #[a0,a1] h R:=fk f56 (.s .z (.s .z .z)) H
def F0 (a0 a1 a2 a3:Value)(h:ai)(R:Value→ai→Prop):Prop:=
 vK (ak .i .lss a3 aJ) λb=>
 vK (gV b false (some a3)) λf=>
 vK (gV b false (ak .i .gtr f (af 65535))) λg=>
 vK (aH b (.bool true) g) λa=>
 vK (gV a false (some a2)) λj=>
 vK (gV a false (ak .i .neq j aJ)) λk=>
 vK (gV a false (some k)) λc=>
 vK (gV c true (some a2)) λl=>
 vK (gV c true (ak .i .neq l (af 3))) λm=>
 vK (gV a false (aH c m (.bool false))) λn=>
 vK (aH a (.bool true) n) λo=>
 aG o (
 R (.tuple #[(.pointer none),(af 2)]) h) (
 ag prog nG #[a0,a1,a2] h λp d=>
 vK (unV .not p) λq=>
 aG q (
 R (.tuple #[(.pointer none),(af 5)]) d) (
 vK (ak .i .mul a0 a1) λr=>
 vK (ak .i .mul r a2) λe=>
 mkK (.int .u16 0) 22 1 2 e e d λs t=>
 vK ((aR #[aj,aj,aj,aj,(.slice none 0 0)] [(0,1,a0),(1,1,a1),(2,1,a2),(3,1,a3),(4,1,s)]).map .agg) λu=>
 aT (Value.cells u) 110 t λv w=>
 R (.tuple #[v,aj]) w))
theorem Rs (H:F0 a0 a1 a2 a3 h R):ag prog js #[a0,a1,a2,a3] h R:=fk f59 (.s .z (.s (.s .z (.s (.s .z .z) (.s .z (.s (.s .z .z) .z)))) (.s .z .z))) H
def jT (a0:Value)(h:ai)(R:Value→ai→Prop):Prop:=
 eM (λc=>
 vK (aD a0) λe=>
 vK (ak .i .lss e aJ) λf=>
 aG f (
 PN h λs g=>
 c [] g) (
 c [] h))
 λt u d=>
 vK (bh 1 a0 aj) λj=>
 vK (ldV d j) λk=>
 bC [k,aJ] d λa v b l=>
 vK (aD a0) λm=>
 vK (ak .i .lss (ix a 1) m) λn=>
 aG n (
 vK (bh 1 a0 (ix a 1)) λo=>
 vK (ldV b o) λp=>
 vK (kA (ix a 0) p) λq=>
 vK (ak .i .add (ix a 1) aJ) λr=>
 l [q,r] b) (
 R (ix a 0) b)
theorem rF (H:jT a0 h R):ag prog gT #[a0] h R:=fk f60 (.s .z (.j 480 [] (.s .z (.s .z .z)) (.s .z (.s (.s .z (.l 16773144 [3,4] (.s (.s .z (.s .z .z)) (.s .z .z)))) (.s .z .z))))) H
def RW (a0:Value)(h:ai)(R:Value→ai→Prop):Prop:=
 aT (Value.cells a0) 31 h λb c=>
 vK (aC 0 b) λm=>
 vK (ldV c m) λn=>
 vK (ak .i .lss n aj) λg=>
 vK (gV g false (aC 0 b)) λo=>
 vK (gV g false (ldV c o)) λp=>
 vK (gV g false (ak .i .geq p (af 4))) λq=>
 vK (aH g (.bool true) q) λd=>
 vK (gV d false (aC 1 b)) λr=>
 vK (gV d false (ldV c r)) λt=>
 gK d false (λu=>ag prog td #[t] c u) c λv e=>
 vK (gV d false (ak .s .eql v (.string ⟨#[]⟩))) λw=>
 vK (aH d (.bool true) w) λx=>
 aG x (
 R (.bool false) e) (
 vK (aC 0 b) λy=>
 vK (ldV e y) λz=>
 vK (ak .i .neq z (af 3)) λa=>
 vK (gV a false (aC 7 b)) λaa=>
 vK (gV a false (ldV e aa)) λab=>
 gK a false (λac=>ag prog wA #[ab] e ac) e λad k=>
 vK (gV a false (some ad)) λj=>
 vK (gV j true (aC 8 b)) λae=>
 vK (gV j true (ldV k ae)) λah=>
 gK j true (λal=>ag prog wA #[ah] k al) k λam l=>
 vK (gV a false (aH j am (.bool false))) λan=>
 vK (gV a false (some an)) λf=>
 vK (gV f true (aC 6 b)) λao=>
 vK (gV f true (ldV l ao)) λap=>
 gK f true (λaq=>ag prog Bn #[ap] l aq) l λar au=>
 vK (gV f true (ak .s .neq ar (.string ⟨#[]⟩))) λav=>
 vK (gV a false (aH f av (.bool false))) λaw=>
 vK (aH a (.bool true) aw) λax=>
 R ax au)
theorem zaG (H:RW a0 h R):ag prog QE #[a0] h R:=fk f61 (.s .z (.s (.s .z (.s (.s .z .z) .z)) (.s .z .z))) H
def NM (a0:Value)(h:ai)(R:Value→ai→Prop):Prop:=
 vK (ak .i .geq a0 aJ) λa=>
 vK (gV a true (some a0)) λb=>
 vK (gV a true (ak .i .leq b (af 65536))) λc=>
 vK (aH a c (.bool false)) λd=>
 R d h
theorem XV (H:NM a0 h R):ag prog wA #[a0] h R:=fk f62 (.s .z (.s .z .z)) H
def IN (a0 a1 a2:Value)(h:ai)(R:Value→ai→Prop):Prop:=
 aT (Value.cells a0) 31 h λa b=>
 vK (aC 0 a) λr=>
 vK (ldV b r) λs=>
 vK (ak .i .eql s (af 3)) λt=>
 aG t (
 vK (aC 6 a) λu=>
 vK (ldV b u) λv=>
 vK (aC 7 a) λw=>
 vK (ldV b w) λx=>
 ag prog mm #[v,a1,x] b λe c=>
 vK (aP e 0) λf=>
 vK (aP e 1) λg=>
 vK (ak .i .eql g aj) λy=>
 aG y (
 vK (aC 6 a) λz=>
 vK (ldV c z) λaa=>
 vK (aC 8 a) λab=>
 vK (ldV c ab) λac=>
 ag prog mm #[aa,a2,ac] c λj ad=>
 vK (aP j 0) λae=>
 vK (aP j 1) λah=>
 R (.tuple #[f,ae,ah]) ad) (
 R (.tuple #[f,(.pointer none),g]) c)) (
 vK (aM 9 b a) λal=>
 ag prog Bq #[al] b λd k=>
 vK (aP d 0) λam=>
 vK (aP d 1) λan=>
 vK (aP d 2) λl=>
 vK (ak .i .neq l aj) λao=>
 aG ao (
 R (.tuple #[(.pointer none),(.pointer none),l]) k) (
 ag prog qh #[am,a1] k λm n=>
 vK (aP m 0) λo=>
 vK (aP m 1) λp=>
 vK (ak .i .eql p aj) λap=>
 aG ap (
 ag prog qh #[an,a2] n λq aq=>
 vK (aP q 0) λar=>
 vK (aP q 1) λau=>
 R (.tuple #[o,ar,au]) aq) (
 R (.tuple #[o,(.pointer none),p]) n)))
theorem TM (H:IN a0 a1 a2 h R):ag prog Ec #[a0,a1,a2] h R:=fk f63 (.s .z (.s (.s .z (.s (.s (.s .z (.s .z (.s .z .z))) (.s .z .z)) .z)) (.s .z (.s (.s .z (.s (.s .z .z) .z)) (.s (.s .z (.s .z (.s .z .z))) (.s .z .z)))))) H
def Fs (h:ai)(R:Value→ai→Prop):Prop:=
 vK ((aR #[aj,(.slice none 0 0),(.pointer none),aj] []).map .agg) λa=>
 aT (Value.cells a) 182 h λb c=>
 R b c
theorem QL (H:Fs h R):ag prog p9 #[] h R:=fk f64 (.s .z (.s .z .z)) H
def IK (a0:Value)(h:ai)(R:Value→ai→Prop):Prop:=
 vK (kA aJ a0) λa=>
 vK (tW a (af 4096)) λb=>
 vK ((aR #[aj,(.slice none 0 0),(.bool false)] [(0,1,b)]).map .agg) λc=>
 aT (Value.cells c) 215 h λd e=>
 R d e
theorem TJ (H:IK a0 h R):ag prog oW #[a0] h R:=fk f65 (.s .z (.s .z .z)) H
def CJ (h:ai)(R:Value→ai→Prop):Prop:=
 ag prog js #[(af 3),aJ,aJ,(af 255)] h λl w=>
 vK (aP l 0) λx=>
 vK (aP l 1) λy=>
 vK ((aR #[aj,aj,aj,aj,(.slice none 0 0),(.slice none 0 0),aj,aj,aj] [(0,1,aJ),(3,1,aJ)]).map .agg) λz=>
 ag prog oZ #[z,(af 3),aJ] w λm aa=>
 vK (aP m 0) λab=>
 vK (aP m 1) λac=>
 aT #[(.pointer none),(.pointer none),aj] 81 aa λn ad=>
 stK 3 n ab ad λbm ae=>
 ag prog js #[(af 3),aJ,aJ,(af 255)] ae λo ah=>
 vK (aP o 0) λal=>
 vK (aP o 1) λam=>
 ag prog zo #[] ah λan q=>
 vK (unV .not an) λc=>
 gK c false (λao=>ag prog zk #[] q ao) q λap d=>
 vK (gV c false (unV .not ap)) λaq=>
 vK (aH c (.bool true) aq) λe=>
 vK (gV e false (some y)) λar=>
 vK (gV e false (ak .i .neq ar aj)) λau=>
 vK (aH e (.bool true) au) λf=>
 vK (gV f false (some ac)) λav=>
 vK (gV f false (ak .i .neq av aj)) λaw=>
 vK (aH f (.bool true) aw) λg=>
 vK (gV g false (some am)) λax=>
 vK (gV g false (ak .i .neq ax aj)) λay=>
 vK (aH g (.bool true) ay) λaz=>
 aG az (
 R (.bool false) d) (
 vK (aM 3 d n) λa0=>
 vK ((aR #[aj,aj,aj,aj] [(2,1,(af 3)),(3,1,aJ)]).map .agg) λa1=>
 vK ((aR #[aj,aj,aj,aj,aj,aj,aj,aj,aj,aj] [(1,4,a1)]).map .agg) λa2=>
 ag prog qa #[x,al,a0,a2] d λr s=>
 vK (aP r 0) λb=>
 vK (aP r 1) λa3=>
 vK (ak .i .neq a3 aj) λj=>
 vK (gV j false (some b)) λa4=>
 vK (gV j false (ak .p .eql a4 (.pointer none))) λa5=>
 vK (aH j (.bool true) a5) λa6=>
 aG a6 (
 R (.bool false) s) (
 bC [(af (-1))] s λk bn t a7=>
 vK (ak .i .lss (ix k 0) (af 2)) λa8=>
 aG a8 (
 ag prog gX #[b] t λa9 u=>
 vK ((aR #[aj,aj] [(0,1,aJ),(1,1,(ix k 0))]).map .agg) λba=>
 vK (ak (.st [(0,1,.i),(1,1,.i)]) .neq a9 ba) λbb=>
 aG bb (
 R (.bool false) u) (
 vK (ak .i .add (ix k 0) aJ) λbc=>
 a7 [bc] u)) (
 ag prog gX #[b] t λbd v=>
 vK ((aR #[aj,aj] [(0,1,(af 2))]).map .agg) λbe=>
 vK (ak (.st [(0,1,.i),(1,1,.i)]) .eql bd be) λa=>
 vK (gV a true (some b)) λbf=>
 gK a true (λbg=>ag prog gX #[bf] v bg) v λbh bi=>
 vK (gV a true ((aR #[aj,aj] []).map .agg)) λbj=>
 vK (gV a true (ak (.st [(0,1,.i),(1,1,.i)]) .eql bh bj)) λbk=>
 vK (aH a bk (.bool false)) λbl=>
 R bl bi)))
theorem OQ (H:CJ h R):ag prog zj #[] h R:=fk f66 (.s .z (.s .z (.s .z (.s .z (.s (.s .z (.s (.s .z .z) .z)) (.s .z (.s (.s .z (.s (.s .z .z) .z)) (.s (.s .z (.l 36821430553381175809 [9] (.s (.s .z (.s .z .z)) (.s (.s .z (.s (.s .z .z) .z)) .z)))) (.s .z .z))))))))) H
def qT (a0 a1 a2:Value)(h:ai)(R:Value→ai→Prop):Prop:=
 aT #[aj,aj,aj,aj] 148 h λb c=>
 vK (aX a0) λp=>
 vK (aC 0 p) λq=>
 vK (ldV c q) λe=>
 vK (ak .i .eql e aJ) λr=>
 aG r (
 vK (aX a0) λs=>
 vK (aC 2 s) λt=>
 vK (ldV c t) λu=>
 ag prog gX #[u] c λv w=>
 aT #[aj,aj] 146 w λf x=>
 stK 2 f v x λbc y=>
 ag prog dY #[a0] y λbd a=>
 bL a λS=>
 vK (aX a0) λz=>
 vK (aC 1 z) λaa=>
 qK S (λa=>ldV a aa) λab=>
 vK (aX a0) λac=>
 vK (aC 1 ac) λad=>
 qK S (λa=>ldV a ad) λae=>
 qK S (λa=>aD ae) λah=>
 vK (ak .i .sub ah aJ) λal=>
 vK (bh 1 ab al) λam=>
 qK S (λa=>ldV a am) λan=>
 qK S (λa=>aM 2 a f) λao=>
 vK ((aR #[aj,aj,aj,aj] [(0,1,(af 2)),(1,1,an),(2,2,ao)]).map .agg) λap=>
 stK 4 b ap a λbe g=>
 vK (aM 4 g b) λaq=>
 R aq g) (
 vK (ak .i .eql e (af 2)) λar=>
 aG ar (
 vK ((aR #[aj,aj,aj,aj] []).map .agg) λau=>
 stK 4 b au c λbf j=>
 vK (aM 4 j b) λav=>
 R av j) (
 ag prog ll #[a1] c λk d=>
 vK (aP k 0) λaw=>
 vK (aP k 1) λl=>
 vK (ak .i .eql l aj) λax=>
 aG ax (
 ag prog ml #[a0,aw,a2] d λay az=>
 stK 4 b ay az λbg m=>
 vK (aM 4 m b) λa3=>
 R a3 m) (
 vK (ak .i .eql l (af 2)) λa4=>
 aG a4 (
 vK (aX a0) λa5=>
 vK (aC 0 a5) λa6=>
 stK 1 a6 (af 2) d λbi a7=>
 vK ((aR #[aj,aj,aj,aj] [(0,1,(af 3))]).map .agg) λa8=>
 stK 4 b a8 a7 λbj n=>
 vK (aM 4 n b) λa9=>
 R a9 n) (
 vK ((aR #[aj,aj,aj,aj] []).map .agg) λba=>
 stK 4 b ba d λbk o=>
 vK (aM 4 o b) λbb=>
 R bb o))))
theorem B9 (H:qT a0 a1 a2 h R):ag prog dd #[a0,a1,a2] h R:=fk f67 (.s .z (.s (.s .z (.s .z (.s (.s .z (.s .z (.s (.d (.op 0 .r (.op 1 .r (.op 2 .r (.op 3 .r (.op 4 .r (.op 5 .r (.op 6 .r (.op 7 .r (.op 8 .r (.op 9 .r (.op 10 .r (.op 11 .r (.op 12 .r (.op 13 .r (.op 14 .n .nil)))))))))))))))) .z))) (.s .z (.s (.s .z .z) .z))))) (.s .z (.s (.s .z (.s .z (.s (.s .z .z) (.s .z (.s (.s .z (.s .z .z)) .z))))) (.s .z .z))))) H
def mJ (a0 a1:Value)(h:ai)(R:Value→ai→Prop):Prop:=
 vK (aX a0) λb=>
 vK (aC 0 b) λc=>
 vK (ldV h c) λa=>
 vK (ak .i .eql a aj) λd=>
 aG d (
 ag prog jH #[a1] h λe f=>
 R e f) (
 vK (ak .i .eql a aJ) λg=>
 aG g (
 R (.bool true) h) (
 R (.bool false) h))
theorem xM (H:mJ a0 a1 h R):ag prog fm #[a0,a1] h R:=fk f68 (.s .z (.s (.s .z (.s .z (.s (.s .z .z) (.s .z (.s (.s .z .z) .z))))) (.s .z .z))) H
def tD (a0:Value)(h:ai)(R:Value→ai→Prop):Prop:=
 vK (aX a0) λa=>
 vK (aC 2 a) λb=>
 vK (ldV h b) λc=>
 vK (aX a0) λd=>
 vK (aC 2 d) λe=>
 stK 1 e (.bool true) h λi f=>
 vK (unV .not c) λg=>
 R g f
theorem Dg (H:tD a0 h R):ag prog jP #[a0] h R:=fk f69 (.s .z (.s .z (.s .z (.s .z .z)))) H
def pC (a0:Value)(h:ai)(R:Value→ai→Prop):Prop:=
 vK (aX a0) λa=>
 vK (aC 0 a) λb=>
 vK (ldV h b) λc=>
 R c h
theorem AB (H:pC a0 h R):ag prog lk #[a0] h R:=fk f70 (.s .z (.s .z .z)) H
def BQ (a0 a1:Value)(h:ai)(R:Value→ai→Prop):Prop:=
 aT (Value.cells a1) 81 h λc d=>
 vK (aC 0 c) λm=>
 vK (ldV d m) λn=>
 vK (ak .p .neq n (.pointer none)) λf=>
 vK (gV f true (aC 1 c)) λo=>
 vK (gV f true (ldV d o)) λq=>
 vK (gV f true (ak .p .neq q (.pointer none))) λr=>
 vK (aH f r (.bool false)) λa=>
 vK (gV a true (aC 0 c)) λt=>
 vK (gV a true (ldV d t)) λu=>
 gK a true (λv=>ag prog gx #[u] d v) d λw k=>
 vK (gV a true (some a0)) λx=>
 gK a true (λy=>ag prog cf #[x] k y) k λz g=>
 vK (gV a true (ak .i .eql w z)) λaa=>
 vK (aH a aa (.bool false)) λb=>
 vK (gV b true (aC 1 c)) λab=>
 vK (gV b true (ldV g ab)) λac=>
 gK b true (λad=>ag prog gx #[ac] g ad) g λae l=>
 vK (gV b true (some a0)) λaf=>
 gK b true (λah=>ag prog cj #[af] l ah) l λaj j=>
 vK (gV b true (ak .i .eql ae aj)) λal=>
 vK (aH b al (.bool false)) λe=>
 vK (gV e true (aC 2 c)) λam=>
 vK (gV e true (ldV j am)) λan=>
 gK e true (λao=>ag prog td #[an] j ao) j λap aq=>
 vK (gV e true (ak .s .neq ap (.string ⟨#[]⟩))) λar=>
 vK (aH e ar (.bool false)) λau=>
 R au aq
theorem MK (H:BQ a0 a1 h R):ag prog kh #[a0,a1] h R:=fk f71 (.s .z (.s .z .z)) H
def xU (a0:Value)(h:ai)(R:Value→ai→Prop):Prop:=
 vK (aX a0) λa=>
 vK (aC 1 a) λb=>
 vK (ldV h b) λc=>
 vK (aD c) λd=>
 R d h
theorem Jj (H:xU a0 h R):ag prog bR #[a0] h R:=fk f72 (.s .z (.s .z .z)) H
def tz (a0:Value)(h:ai)(R:Value→ai→Prop):Prop:=
 vK (aX a0) λa=>
 vK (aC 3 a) λb=>
 vK (ldV h b) λc=>
 R c h
theorem De (H:tz a0 h R):ag prog dG #[a0] h R:=fk f73 (.s .z (.s .z .z)) H
def LS (a0 a1 a2:Value)(h:ai)(R:Value→ai→Prop):Prop:=
 aT (Value.cells a0) 81 h λd a=>
 vK (aC 0 d) λg=>
 vK (ldV a g) λi=>
 vK (ak .p .eql i (.pointer none)) λb=>
 vK (gV b false (aC 1 d)) λj=>
 vK (gV b false (ldV a j)) λk=>
 vK (gV b false (ak .p .eql k (.pointer none))) λl=>
 vK (aH b (.bool true) l) λm=>
 aG m (
 R (.tuple #[(.pointer none),(af 6)]) a) (
 ag prog yI #[a1] a λn f=>
 vK (unV .not n) λc=>
 vK (gV c false (some a2)) λo=>
 gK c false (λq=>ag prog yI #[o] f q) f λr e=>
 vK (gV c false (unV .not r)) λs=>
 vK (aH c (.bool true) s) λt=>
 aG t (
 R (.tuple #[(.pointer none),(af 9)]) e) (
 vK (aM 3 e d) λu=>
 vK ((aR #[(.pointer none),(.pointer none),aj,aj,aj] [(0,3,u),(3,1,a1),(4,1,a2)]).map .agg) λv=>
 aT (Value.cells v) 184 e λw x=>
 R (.tuple #[w,aj]) x))
theorem VY (H:LS a0 a1 a2 h R):ag prog Bp #[a0,a1,a2] h R:=fk f74 (.s .z (.s (.s .z (.s (.s .z .z) (.s .z (.s (.s .z .z) .z)))) (.s .z .z))) H
def IU (a0:Value)(h:ai)(R:Value→ai→Prop):Prop:=
 vK (kA aJ a0) λj=>
 vK (tW j (af 512)) λc=>
 mkK (.slice none 0 0) 104 1 24 c c h λk l=>
 vK ((aR #[(.slice none 0 0)] [(0,1,k)]).map .agg) λm=>
 aT (Value.cells m) 226 l λd f=>
 vK (aX d) λn=>
 vK (aC 0 n) λo=>
 vK (ldV f o) λp=>
 vK (aD p) λq=>
 bC [aj] f λa ah b r=>
 vK (ak .i .lss (ix a 0) q) λs=>
 aG s (
 bL b λS=>
 vK (aX d) λt=>
 vK (aC 0 t) λu=>
 qK S (λb=>ldV b u) λv=>
 mkK aj 3 1 8 c c b λw g=>
 S g∧(vK (bh 1 v (ix a 0)) λx=>
 stK 1 x w g λal e=>
 vK (aX d) λy=>
 vK (aC 0 y) λz=>
 vK (ldV e z) λaa=>
 vK (bh 1 aa (ix a 0)) λab=>
 vK (ldV e ab) λac=>
 vK (bh 1 ac (ix a 0)) λad=>
 stK 1 ad aJ e λam ae=>
 vK (ak .i .add (ix a 0) aJ) λag=>
 r [ag] ae)) (
 R d b)
theorem TT (H:IU a0 h R):ag prog pd #[a0] h R:=fk f75 (.s .z (.s .z (.s .z (.s (.s .z (.l 274877775888 [17] (.s .z (.s (.s .z .z) (.s (.s .z (.s (.d (.op 0 .r (.op 1 .r (.op 2 .r (.op 3 .r (.op 4 .r (.op 5 .r (.op 6 .e (.op 7 .r (.op 8 .n .nil)))))))))) .z)) .z))))) (.s .z .z))))) H
def ye (a0 a1 a2 a3 a4 a5:Value)(h:ai)(R:Value→ai→Prop):Prop:=
 bL h λS=>
 vK (aX a0) λa=>
 vK (aC 5 a) λb=>
 vK (aX a0) λc=>
 vK (aC 4 c) λd=>
 qK S (λh=>ldV h d) λe=>
 vK (ak .i .add a3 a4) λf=>
 ag prog lQ #[e,a1] h λg j=>
 vK ((aR #[aj,(.slice none 0 0),aj,aj,aj,(.bool false)] [(0,1,a1),(1,1,g),(2,1,a2),(3,1,a3),(4,1,f),(5,1,a5)]).map .agg) λk=>
 ag prog ng #[b,k] j λm l=>
 R (.tuple #[]) l
theorem Js (H:ye a0 a1 a2 a3 a4 a5 h R):ag prog eo #[a0,a1,a2,a3,a4,a5] h R:=fk f76 (.d (.op 0 .r (.op 1 .r (.op 2 .r (.op 3 .r (.op 4 .r (.op 5 .r (.op 6 .r (.op 7 .r (.op 8 .r (.op 10 .r (.op 11 .r (.op 12 .r (.op 13 .r (.op 14 .r (.op 15 .r (.op 9 .n (.op 16 .r (.op 17 .n .nil))))))))))))))))))) H
def IL (a0:Value)(h:ai)(R:Value→ai→Prop):Prop:=
 ag prog cf #[a0] h λa b=>
 ag prog cj #[a0] b λc d=>
 vK (ak .i .mul a c) λe=>
 ag prog bu #[a0] d λf g=>
 vK (ak .i .mul e f) λj=>
 R j g
theorem TK (H:IL a0 h R):ag prog un #[a0] h R:=fk f77 (.s .z (.s .z .z)) H
def tC (a0:Value)(h:ai)(R:Value→ai→Prop):Prop:=
 bL h λS=>
 vK (aX a0) λb=>
 vK (aC 0 b) λc=>
 qK S (λh=>ldV h c) λd=>
 vK (aX a0) λe=>
 vK (aC 1 e) λf=>
 qK S (λh=>ldV h f) λg=>
 vK (aX a0) λi=>
 vK (aC 2 i) λj=>
 qK S (λh=>ldV h j) λk=>
 vK (aX a0) λl=>
 vK (aC 3 l) λm=>
 qK S (λh=>ldV h m) λn=>
 vK (aX a0) λo=>
 vK (aC 4 o) λp=>
 qK S (λh=>ldV h p) λq=>
 ag prog dN #[q] h λr a=>
 S a∧(vK ((aR #[aj,aj,aj,aj,(.slice none 0 0)] [(0,1,d),(1,1,g),(2,1,k),(3,1,n),(4,1,r)]).map .agg) λs=>
 aT (Value.cells s) 110 a λt u=>
 R t u)
theorem Df (H:tC a0 h R):ag prog mY #[a0] h R:=fk f78 (.s .z (.s (.d (.op 0 .r (.op 1 .r (.op 2 .r (.op 3 .r (.op 4 .r (.op 5 .r (.op 6 .r (.op 7 .r (.op 8 .r (.op 9 .r (.op 10 .r (.op 11 .r (.op 12 .r (.op 13 .r (.op 14 .r (.op 15 .r (.op 16 .r (.op 17 .r (.op 18 .r (.op 19 .r (.op 20 .e (.op 21 .r (.op 22 .n (.op 23 .r .nil))))))))))))))))))))))))) .z)) H
def qU (a0 a1 a2 a3:Value)(h:ai)(R:Value→ai→Prop):Prop:=
 vK (ak .i .lss a1 aj) λa=>
 vK (gV a false (some a1)) λf=>
 vK (gV a false (some a0)) λg=>
 vK (gV a false (aX g)) λj=>
 vK (gV a false (aC 0 j)) λk=>
 vK (gV a false (ldV h k)) λl=>
 vK (gV a false (ak .i .geq f l)) λm=>
 vK (aH a (.bool true) m) λd=>
 vK (gV d false (some a2)) λn=>
 vK (gV d false (ak .i .lss n aj)) λo=>
 vK (aH d (.bool true) o) λb=>
 vK (gV b false (some a2)) λp=>
 vK (gV b false (some a0)) λq=>
 vK (gV b false (aX q)) λr=>
 vK (gV b false (aC 1 r)) λs=>
 vK (gV b false (ldV h s)) λt=>
 vK (gV b false (ak .i .geq p t)) λu=>
 vK (aH b (.bool true) u) λe=>
 vK (gV e false (some a3)) λv=>
 vK (gV e false (ak .i .lss v aj)) λw=>
 vK (aH e (.bool true) w) λc=>
 vK (gV c false (some a3)) λx=>
 vK (gV c false (some a0)) λy=>
 vK (gV c false (aX y)) λz=>
 vK (gV c false (aC 2 z)) λaa=>
 vK (gV c false (ldV h aa)) λab=>
 vK (gV c false (ak .i .geq x ab)) λac=>
 vK (aH c (.bool true) ac) λad=>
 aG ad (
 R (af (-1)) h) (
 vK (aX a0) λae=>
 vK (aC 0 ae) λag=>
 vK (ldV h ag) λah=>
 vK (ak .i .mul a2 ah) λal=>
 vK (ak .i .add al a1) λam=>
 vK (aX a0) λan=>
 vK (aC 2 an) λao=>
 vK (ldV h ao) λap=>
 vK (ak .i .mul am ap) λaq=>
 vK (ak .i .add aq a3) λar=>
 R ar h)
theorem Ca (H:qU a0 a1 a2 a3 h R):ag prog ju #[a0,a1,a2,a3] h R:=fk f79 (.s .z (.s (.s .z (.s (.s .z .z) .z)) (.s .z .z))) H
def Gf (a0 a1 a2 a3 a4:Value)(h:ai)(R:Value→ai→Prop):Prop:=
 vK (ak .i .rem a0 (.int .u16 20)) λn=>
 vK (gS .i64 n) λo=>
 vK (ak .i .add aJ o) λd=>
 vK (ak .i .rem a1 (.int .u16 20)) λp=>
 vK (gS .i64 p) λq=>
 vK (ak .i .add aJ q) λe=>
 vK (ak .i .rem a2 (.int .u16 2)) λr=>
 vK (gS .i64 r) λs=>
 vK (ak .i .mul (af 2) s) λt=>
 vK (ak .i .add aJ t) λf=>
 vK (gS .i64 a3) λu=>
 vK (ak .i .rem u (af 65535)) λv=>
 vK (ak .i .add aJ v) λg=>
 vK (ak .i .mul d e) λw=>
 vK (ak .i .mul w f) λj=>
 mkK (.int .u16 0) 22 1 2 j j h λc x=>
 vK (aD c) λy=>
 bC [aj] x λb a6 a k=>
 vK (ak .i .lss (ix b 0) y) λz=>
 aG z (
 vK (aD a4) λaa=>
 vK (ak .i .gtr aa aj) λab=>
 aG ab (
 bL a λS=>
 qK S (λa=>aD a4) λac=>
 vK (ak .i .rem (ix b 0) ac) λad=>
 vK (bh 1 a4 ad) λae=>
 qK S (λa=>ldV a ae) λah=>
 vK (gS .i64 ah) λal=>
 qK S (λa=>aD a4) λam=>
 vK (ak .i .quo (ix b 0) am) λan=>
 vK (ak .i .add al an) λao=>
 vK (ak .i .add g aJ) λap=>
 vK (ak .i .rem ao ap) λaq=>
 vK (gS .u16 aq) λar=>
 vK (bh 1 c (ix b 0)) λau=>
 stK 1 au ar a λa7 av=>
 vK (ak .i .add (ix b 0) aJ) λaw=>
 k [aw] av) (
 vK (ak .i .add (ix b 0) aJ) λax=>
 k [ax] a)) (
 ag prog um #[d,e,f,g,c] a λl m=>
 vK (aP l 0) λay=>
 vK (aP l 1) λaz=>
 vK (ak .i .neq az aj) λa5=>
 aG a5 (
 R (.pointer none) m) (
 R ay m))
theorem Rz (H:Gf a0 a1 a2 a3 a4 h R):ag prog Bt #[a0,a1,a2,a3,a4] h R:=fk f80 (.s .z (.s .z (.s .z (.s .z (.s (.s .z (.l 2361183223842636627968 [44] (.s .z (.s (.s .z .z) (.s (.s .z (.s .z (.s (.d (.op 0 .r (.op 1 .r (.op 2 .r (.op 3 .r (.op 4 .r (.op 5 .r (.op 6 .r (.op 7 .r (.op 8 .r (.op 9 .r (.op 10 .r (.op 11 .r (.op 12 .r (.op 13 .r (.op 14 .r (.op 15 .r (.op 16 .r (.op 17 .r (.op 18 .r (.op 19 .r (.op 20 .n .nil)))))))))))))))))))))) .z))) .z))))) (.s .z (.s (.s .z (.s (.s .z .z) .z)) (.s .z .z)))))))) H
def BP (a0 a1:Value)(h:ai)(R:Value→ai→Prop):Prop:=
 vK (aD a0) λp=>
 bC [aj] h λn bg o q=>
 vK (ak .i .lss (ix n 0) p) λr=>
 aG r (
 vK (bh 9 a0 (ix n 0)) λs=>
 vK (aM 9 o s) λt=>
 aT #[aj,aj,aj,aj,(.slice none 0 0),(.slice none 0 0),aj,aj,aj] 31 o λb u=>
 stK 9 b t u λbi a=>
 vK (aC 4 b) λv=>
 vK (ldV a v) λw=>
 vK (aD w) λx=>
 vK (ak .i .gtr x (af 40)) λg=>
 vK (gV g false (aC 5 b)) λy=>
 vK (gV g false (ldV a y)) λz=>
 vK (gV g false (aD z)) λaa=>
 vK (gV g false (ak .i .gtr aa (af 40))) λab=>
 vK (aH g (.bool true) ab) λe=>
 vK (gV e false (aC 2 b)) λac=>
 vK (gV e false (ldV a ac)) λad=>
 vK (gV e false (ak .i .gtr ad (af 262144))) λae=>
 vK (gV e false (some ae)) λj=>
 vK (gV j true (aC 2 b)) λag=>
 vK (gV j true (ldV a ag)) λah=>
 vK (gV j true (ak .i .leq ah (af 4194304))) λal=>
 vK (gV e false (aH j al (.bool false))) λam=>
 vK (aH e (.bool true) am) λf=>
 vK (gV f false (aC 3 b)) λan=>
 vK (gV f false (ldV a an)) λao=>
 vK (gV f false (ak .i .gtr ao (af 20))) λap=>
 vK (gV f false (some ap)) λk=>
 vK (gV k true (aC 3 b)) λaq=>
 vK (gV k true (ldV a aq)) λar=>
 vK (gV k true (ak .i .lss ar (af 512))) λau=>
 vK (gV f false (aH k au (.bool false))) λav=>
 vK (aH f (.bool true) av) λc=>
 vK (gV c false (aC 7 b)) λaw=>
 vK (gV c false (ldV a aw)) λax=>
 vK (gV c false (some a1)) λay=>
 vK (gV c false (ak .i .gtr ax ay)) λaz=>
 vK (gV c false (some az)) λl=>
 vK (gV l true (aC 7 b)) λa2=>
 vK (gV l true (ldV a a2)) λa3=>
 vK (gV l true (ak .i .leq a3 (af 65536))) λa4=>
 vK (gV c false (aH l a4 (.bool false))) λa5=>
 vK (aH c (.bool true) a5) λd=>
 vK (gV d false (aC 8 b)) λa6=>
 vK (gV d false (ldV a a6)) λa7=>
 vK (gV d false (some a1)) λa8=>
 vK (gV d false (ak .i .gtr a7 a8)) λa9=>
 vK (gV d false (some a9)) λm=>
 vK (gV m true (aC 8 b)) λba=>
 vK (gV m true (ldV a ba)) λbb=>
 vK (gV m true (ak .i .leq bb (af 65536))) λbc=>
 vK (gV d false (aH m bc (.bool false))) λbd=>
 vK (aH d (.bool true) bd) λbe=>
 aG be (
 R (.bool false) a) (
 vK (ak .i .add (ix n 0) aJ) λbf=>
 q [bf] a)) (
 R (.bool true) o)
theorem MJ (H:BP a0 a1 h R):ag prog xH #[a0,a1] h R:=fk f81 (.s .z (.s (.s .z (.l 73786976294838206032 [9] (.s .z (.s (.s .z .z) (.s (.s .z (.s .z (.s (.s .z .z) .z))) .z))))) (.s .z .z))) H
def RX (a0 a1 a2 a3:Value)(h:ai)(R:Value→ai→Prop):Prop:=
 vK (aD a0) λp=>
 vK (ak .i .gtr p (af 16)) λq=>
 aG q (
 R (.tuple #[(.slice none 0 0),(af 6)]) h) (
 ag prog nG #[a1,a2,a3] h λr f=>
 vK (unV .not r) λs=>
 aG s (
 R (.tuple #[(.slice none 0 0),(af 5)]) f) (
 vK (aD a0) λt=>
 bC [a1,a2,(.slice none 0 0),aj] f λa av b u=>
 vK (ak .i .lss (ix a 3) t) λv=>
 aG v (
 vK (bh 9 a0 (ix a 3)) λw=>
 vK (aM 9 b w) λx=>
 aT #[aj,aj,aj,aj,(.slice none 0 0),(.slice none 0 0),aj,aj,aj] 31 b λc y=>
 stK 9 c x y λaw g=>
 vK (aM 9 g c) λz=>
 ag prog oZ #[z,(ix a 0),(ix a 1)] g λj aa=>
 vK (aP j 0) λab=>
 vK (aP j 1) λk=>
 aT #[(.pointer none),(.pointer none),aj] 81 aa λl ac=>
 stK 3 l ab ac λax d=>
 vK (ak .i .neq k aj) λad=>
 aG ad (
 R (.tuple #[(.slice none 0 0),k]) d) (
 vK (aM 9 d c) λae=>
 ag prog LC #[ae,(ix a 0),(ix a 1)] d λm ah=>
 vK (aP m 0) λn=>
 vK (aP m 1) λo=>
 ag prog nG #[n,o,a3] ah λal e=>
 vK (unV .not al) λam=>
 aG am (
 R (.tuple #[(.slice none 0 0),(af 5)]) e) (
 vK (aM 3 e l) λan=>
 cO #[(.pointer none),(.pointer none),aj] 81 1 [(0,3,an)] e λao ap=>
 cR (.agg #[.pointer none,.pointer none,aj]) 81 3 24 (ix a 2) ao ap λaq ar=>
 vK (ak .i .add (ix a 3) aJ) λau=>
 u [n,o,aq,au] ar))) (
 R (.tuple #[(ix a 2),aj]) b)))
theorem zaH (H:RX a0 a1 a2 a3 h R):ag prog QF #[a0,a1,a2,a3] h R:=fk f82 (.s .z (.s (.s .z (.s (.s .z .z) (.s .z (.s (.s .z .z) .z)))) (.s .z (.s (.s .z (.l 288230376017524486 [1,2,10,27] (.s .z (.s (.s .z .z) (.s (.s .z (.s .z (.s (.s .z (.s (.s .z .z) .z)) (.s (.s .z (.s .z (.s (.s .z .z) .z))) .z)))) .z))))) (.s .z .z))))) H
def IB (a0 a1 a2 a3:Value)(h:ai)(R:Value→ai→Prop):Prop:=
 vK (aD a0) λp=>
 vK (ak .i .gtr p (af 16)) λq=>
 aG q (
 R (.tuple #[(.slice none 0 0),(af 6)]) h) (
 ag prog vW #[a1,a2,a3] h λr f=>
 vK (unV .not r) λs=>
 aG s (
 R (.tuple #[(.slice none 0 0),(af 5)]) f) (
 vK (aD a0) λt=>
 bC [a1,a2,(.slice none 0 0),aj] f λa av b u=>
 vK (ak .i .lss (ix a 3) t) λv=>
 aG v (
 vK (bh 9 a0 (ix a 3)) λw=>
 vK (aM 9 b w) λx=>
 aT #[aj,aj,aj,aj,(.slice none 0 0),(.slice none 0 0),aj,aj,aj] 232 b λc y=>
 stK 9 c x y λaw g=>
 vK (aM 9 g c) λz=>
 ag prog Bg #[z,(ix a 0),(ix a 1)] g λj aa=>
 vK (aP j 0) λab=>
 vK (aP j 1) λk=>
 aT #[(.slice none 0 0),(.slice none 0 0),aj,aj,aj] 38 aa λl ac=>
 stK 5 l ab ac λax d=>
 vK (ak .i .neq k aj) λad=>
 aG ad (
 R (.tuple #[(.slice none 0 0),k]) d) (
 vK (aM 9 d c) λae=>
 ag prog Bf #[ae,(ix a 0),(ix a 1)] d λm ah=>
 vK (aP m 0) λn=>
 vK (aP m 1) λo=>
 ag prog vW #[n,o,a3] ah λal e=>
 vK (unV .not al) λam=>
 aG am (
 R (.tuple #[(.slice none 0 0),(af 5)]) e) (
 vK (aM 5 e l) λan=>
 cO #[(.slice none 0 0),(.slice none 0 0),aj,aj,aj] 38 1 [(0,5,an)] e λao ap=>
 cR (.agg #[.slice none 0 0,.slice none 0 0,aj,aj,aj]) 38 5 72 (ix a 2) ao ap λaq ar=>
 vK (ak .i .add (ix a 3) aJ) λau=>
 u [n,o,aq,au] ar))) (
 R (.tuple #[(ix a 2),aj]) b)))
theorem TA (H:IB a0 a1 a2 a3 h R):ag prog DX #[a0,a1,a2,a3] h R:=fk f83 (.s .z (.s (.s .z (.s (.s .z .z) .z)) (.s (.s .z (.s (.s .z .z) .z)) (.s .z (.s (.s .z (.l 72057594004403974 [1,2,10,25] (.s .z (.s (.s .z .z) (.s (.s .z (.s .z (.s (.s .z (.s (.s .z .z) .z)) (.s .z (.s (.s .z (.s (.s .z .z) .z)) .z))))) .z))))) (.s .z .z)))))) H
def Ge (a0:Value)(h:ai)(R:Value→ai→Prop):Prop:=
 vK (aD a0) λe=>
 bC [(.slice none 0 0),aj] h λa u b f=>
 vK (ak .i .lss (ix a 1) e) λg=>
 aG g (
 vK (bh 9 a0 (ix a 1)) λj=>
 vK (aM 9 b j) λk=>
 aT #[aj,aj,aj,aj,(.slice none 0 0),(.slice none 0 0),aj,aj,aj] 31 b λc l=>
 stK 9 c k l λv d=>
 vK (aM 9 d c) λm=>
 ag prog Ed #[m] d λn o=>
 cO #[aj,aj,aj,aj,(.slice none 0 0),(.slice none 0 0),aj,aj,aj] 232 1 [(0,9,n)] o λp q=>
 cR (.agg #[aj,aj,aj,aj,.slice none 0 0,.slice none 0 0,aj,aj,aj]) 232 9 104 (ix a 0) p q λr s=>
 vK (ak .i .add (ix a 1) aJ) λt=>
 f [r,t] s) (
 R (ix a 0) b)
theorem Ry (H:Ge a0 h R):ag prog Bs #[a0] h R:=fk f84 (.s .z (.s .z (.s (.s .z (.l 261928 [3,8] (.s .z (.s (.s .z .z) (.s (.s .z .z) .z))))) (.s .z .z)))) H
def IA (a0 a1 a2:Value)(h:ai)(R:Value→ai→Prop):Prop:=
 aT (Value.cells a0) 38 h λc t=>
 bC [(.slice none 0 0),aj] t λd ca j u=>
 vK (aC 1 c) λv=>
 vK (ldV j v) λw=>
 vK (aD w) λx=>
 vK (ak .i .lss (ix d 1) x) λy=>
 aG y (
 bC [(ix d 0),aj] j λa cb e z=>
 vK (aC 0 c) λaa=>
 vK (ldV e aa) λab=>
 vK (aD ab) λac=>
 vK (ak .i .lss (ix a 1) ac) λad=>
 aG ad (
 vK (aD (ix a 0)) λae=>
 vK (aC 1 c) λaf=>
 vK (ldV e af) λah=>
 ag prog Be #[ah] e λal am=>
 vK ((aR #[aj,aj,aj,aj,aj,aj,aj,aj,aj,aj] [(0,1,ae),(1,1,(ix a 1)),(2,1,(ix d 1)),(3,1,a1),(4,1,a2),(9,1,al)]).map .agg) λan=>
 aT #[aj,aj,aj,aj,aj,aj,aj,aj,aj,aj] 59 am λb ao=>
 stK 10 b an ao λcc f=>
 eM (λo=>
 vK (ak .i .add (ix a 1) a1) λap=>
 vK (aC 0 c) λaq=>
 vK (ldV f aq) λar=>
 vK (aD ar) λau=>
 vK (ak .i .gtr ap au) λav=>
 aG av (
 vK (aC 0 c) λaw=>
 vK (ldV f aw) λax=>
 vK (aD ax) λay=>
 vK (ak .i .sub ay (ix a 1)) λaz=>
 vK (aC 3 b) λa3=>
 stK 1 a3 az f λcd a4=>
 o [] a4) (
 o [] f))
 λce cf g=>
 eM (λp=>
 vK (ak .i .add (ix d 1) a2) λa5=>
 vK (aC 1 c) λa6=>
 vK (ldV g a6) λa7=>
 vK (aD a7) λa8=>
 vK (ak .i .gtr a5 a8) λa9=>
 aG a9 (
 vK (aC 1 c) λba=>
 vK (ldV g ba) λbb=>
 vK (aD bb) λbc=>
 vK (ak .i .sub bc (ix d 1)) λbd=>
 vK (aC 4 b) λbe=>
 stK 1 be bd g λcg bf=>
 p [] bf) (
 p [] g))
 λch ci k=>
 vK (aC 0 c) λbg=>
 vK (ldV k bg) λbh=>
 vK (aC 3 b) λbi=>
 vK (ldV k bi) λbj=>
 vK (ak .i .add (ix a 1) bj) λbk=>
 ag prog sQ #[bh,(ix a 1),bk] k λl m=>
 vK (aP l 0) λq=>
 vK (aP l 1) λbl=>
 vK (aP l 2) λcj=>
 vK (aC 1 c) λbm=>
 vK (ldV m bm) λbn=>
 vK (aC 4 b) λbo=>
 vK (ldV m bo) λbp=>
 vK (ak .i .add (ix d 1) bp) λbq=>
 ag prog sQ #[bn,(ix d 1),bq] m λn br=>
 vK (aP n 0) λr=>
 vK (aP n 1) λbs=>
 vK (aP n 2) λck=>
 vK (aC 5 b) λbt=>
 stK 1 bt q br λcl bu=>
 vK (ak .i .sub bl q) λbv=>
 vK (aC 7 b) λbw=>
 stK 1 bw bv bu λcm bx=>
 vK (aC 6 b) λbz=>
 stK 1 bz r bx λcn b0=>
 vK (ak .i .sub bs r) λb1=>
 vK (aC 8 b) λb2=>
 stK 1 b2 b1 b0 λco s=>
 vK (aM 10 s b) λb3=>
 cO #[aj,aj,aj,aj,aj,aj,aj,aj,aj,aj] 59 1 [(0,10,b3)] s λb4 b5=>
 cR (.agg #[aj,aj,aj,aj,aj,aj,aj,aj,aj,aj]) 59 10 80 (ix a 0) b4 b5 λb6 b7=>
 vK (ak .i .add (ix a 1) a1) λb8=>
 z [b6,b8] b7) (
 vK (ak .i .add (ix d 1) a2) λb9=>
 u [(ix a 0),b9] e)) (
 R (ix d 0) j)
theorem Tz (H:IA a0 a1 a2 h R):ag prog mu #[a0,a1,a2] h R:=fk f85 (.s .z (.s .z (.s (.s .z (.l 649037107316853453566312041152384 [7,8] (.s (.s .z (.s .z .z)) (.s (.s .z (.l 649037107316853453566312007728768 [7,9] (.s (.s .z (.s .z .z)) (.s (.s .z (.j 72048797944905728 [] (.s .z (.s .z .z)) (.j 590223752764667723776 [] (.s .z (.s .z .z)) (.s .z (.s .z (.s .z (.s .z (.s .z (.s .z .z))))))))) .z)))) .z)))) (.s .z .z)))) H
def Iz (a0:Value)(h:ai)(R:Value→ai→Prop):Prop:=
 aT #[aj,(.slice none 0 0),(.bool false)] 43 h λa b=>
 vK (ak .i .lss a0 aJ) λg=>
 aG g (
 vK (ak .i .gtr aJ (af 4096)) λj=>
 aG j (
 vK ((aR #[aj,(.slice none 0 0),(.bool false)] [(0,1,(af 4096))]).map .agg) λk=>
 stK 3 a k b λt c=>
 vK (aM 3 c a) λl=>
 R l c) (
 vK ((aR #[aj,(.slice none 0 0),(.bool false)] [(0,1,aJ)]).map .agg) λm=>
 stK 3 a m b λu d=>
 vK (aM 3 d a) λn=>
 R n d)) (
 vK (ak .i .gtr a0 (af 4096)) λo=>
 aG o (
 vK ((aR #[aj,(.slice none 0 0),(.bool false)] [(0,1,(af 4096))]).map .agg) λp=>
 stK 3 a p b λv e=>
 vK (aM 3 e a) λq=>
 R q e) (
 vK ((aR #[aj,(.slice none 0 0),(.bool false)] [(0,1,a0)]).map .agg) λr=>
 stK 3 a r b λw f=>
 vK (aM 3 f a) λs=>
 R s f))
theorem Ty (H:Iz a0 h R):ag prog ms #[a0] h R:=fk f86 (.s .z (.s (.s .z (.s .z .z)) (.s (.s .z (.s .z .z)) (.s .z .z)))) H
def Iy (a0:Value)(h:ai)(R:Value→ai→Prop):Prop:=
 eM (λc=>
 vK (ak .i .lss a0 aJ) λk=>
 aG k (
 c [aJ] h) (
 c [a0] h))
 λd x e=>
 eM (λf=>
 vK (ak .i .gtr (ix d 0) (af 512)) λl=>
 aG l (
 f [(af 512)] e) (
 f [(ix d 0)] e))
 λb y m=>
 bC [(.slice none 0 0),aj] m λa z g n=>
 vK (ak .i .lss (ix a 1) (ix b 0)) λo=>
 aG o (
 mkK aj 3 1 8 (ix b 0) (ix b 0) g λj p=>
 vK (bh 1 j (ix a 1)) λq=>
 stK 1 q aJ p λaa r=>
 cO #[(.slice none 0 0)] 41 1 [(0,1,j)] r λs t=>
 cR (.slice none 0 0) 41 1 24 (ix a 0) s t λu v=>
 vK (ak .i .add (ix a 1) aJ) λw=>
 n [u,w] v) (
 R (ix a 0) g)
theorem Tx (H:Iy a0 h R):ag prog mq #[a0] h R:=fk f87 (.s .z (.j 193 [0] (.s .z (.s .z .z)) (.j 769 [0] (.s .z (.s .z .z)) (.s .z (.s (.s .z (.l 16775224 [3,11] (.s .z (.s (.s .z .z) (.s (.s .z (.s .z (.s .z .z))) .z))))) (.s .z .z)))))) H
def Cr (a0 a1 a2:Value)(h:ai)(R:Value→ai→Prop):Prop:=
 aT (Value.cells a0) 38 h λo p=>
 vK (aC 1 o) λw=>
 vK (ldV p w) λq=>
 vK (aD q) λx=>
 bC [aj,aj] p λb bu f r=>
 vK (ak .i .lss (ix b 1) x) λy=>
 aG y (
 vK (bh 2 q (ix b 1)) λz=>
 vK (aM 2 f z) λaa=>
 aT #[aj,(.slice none 0 0)] 240 f λg ab=>
 stK 2 g aa ab λbv d=>
 vK (aC 1 g) λac=>
 vK (ldV d ac) λad=>
 vK (aD ad) λae=>
 vK (ak .i .gtr ae (ix b 0)) λah=>
 aG ah (
 vK (aC 1 g) λal=>
 vK (ldV d al) λam=>
 vK (aD am) λan=>
 vK (ak .i .add (ix b 1) aJ) λao=>
 r [an,ao] d) (
 vK (ak .i .add (ix b 1) aJ) λap=>
 r [(ix b 0),ap] d)) (
 bC [(.slice none 0 0),(.slice none 0 0),aj] f λc bw e aq=>
 vK (ak .i .lss (ix c 2) a2) λar=>
 aG ar (
 vK (aC 1 o) λau=>
 vK (ldV e au) λav=>
 vK (ak .i .add a1 (ix c 2)) λaw=>
 vK (bh 2 av aw) λax=>
 vK (aM 2 e ax) λay=>
 aT #[aj,(.slice none 0 0)] 240 e λj az=>
 stK 2 j ay az λbx s=>
 vK (aC 1 j) λa3=>
 vK (ldV s a3) λa4=>
 vK (aD a4) λa5=>
 bC [(ix c 0),(ix c 1),aj] s λa bz k l=>
 vK (ak .i .lss (ix a 2) a5) λa6=>
 aG a6 (
 vK (aC 0 j) λa7=>
 vK (ldV k a7) λa8=>
 vK (ak .i .add a8 (ix a 2)) λm=>
 ag prog Ie #[(ix a 1),m] k λa9 t=>
 aG a9 (
 vK (ak .i .add (ix a 2) aJ) λba=>
 l [(ix a 0),(ix a 1),ba] t) (
 vK ((aR #[aj,aj] [(0,1,aJ),(1,1,m)]).map .agg) λbb=>
 cO #[aj,aj] 198 1 [(0,2,bb)] t λbc bd=>
 cR (.agg #[aj,aj]) 198 2 16 (ix a 0) bc bd λu be=>
 cO #[aj] 2 1 [(0,1,m)] be λbf bg=>
 cR aj 2 1 8 (ix a 1) bf bg λn v=>
 vK (aD n) λbi=>
 vK (ak .i .gtr bi (ix b 0)) λbj=>
 aG bj (
 vK (ni 1 n (some aJ) none) λbk=>
 vK (ak .i .add (ix a 2) aJ) λbl=>
 l [u,bk,bl] v) (
 vK (ak .i .add (ix a 2) aJ) λbm=>
 l [u,n,bm] v))) (
 vK (ak .i .add a1 (ix c 2)) λbn=>
 vK ((aR #[aj,aj] [(0,1,(af 2)),(1,1,bn)]).map .agg) λbo=>
 cO #[aj,aj] 198 1 [(0,2,bo)] k λbp bq=>
 cR (.agg #[aj,aj]) 198 2 16 (ix a 0) bp bq λbr bs=>
 vK (ak .i .add (ix c 2) aJ) λbt=>
 aq [br,(ix a 1),bt] bs)) (
 R (ix c 0) e))
theorem Oy (H:Cr a0 a1 a2 h R):ag prog y6 #[a0,a1,a2] h R:=fk f88 (.s .z (.s .z (.s (.s .z (.l 4294443648 [7,19] (.s .z (.s (.s .z .z) (.s (.s .z (.s .z (.s .z .z))) .z))))) (.s .z (.s .z (.s (.s .z (.l 1208925819614620584836096 [10,11,33] (.s .z (.s (.s .z .z) (.s (.s .z (.s .z (.s (.s .z (.l 4722366412500901088256 [10,11,46] (.s .z (.s (.s .z .z) (.s (.s .z (.s .z (.s (.s .z (.s .z .z)) (.s .z (.s .z (.s .z (.s .z .z))))))) .z))))) .z))) .z))))) (.s .z .z))))))) H
def FA (a0 a1 a2 a3 a4 a5:Value)(h:ai)(R:Value→ai→Prop):Prop:=
 aT (Value.cells a0) 48 h λb y=>
 aT aK 48 y λj c=>
 vK (aC 11 b) λz=>
 vK (ldV c z) λaa=>
 vK (bh 1 aa a1) λab=>
 vK (ldV c ab) λac=>
 vK (ak .i .add a3 a4) λad=>
 vK ((aR #[aj,(.slice none 0 0),aj,aj,aj,(.bool false)] [(0,1,a1),(1,1,ac),(2,1,a2),(3,1,a3),(4,1,ad),(5,1,a5)]).map .agg) λae=>
 aT #[aj,(.slice none 0 0),aj,aj,aj,(.bool false)] 124 c λk af=>
 stK 6 k ae af λba a=>
 eM (λd=>
 bL a λS=>
 vK (aC 13 b) λag=>
 qK S (λa=>ldV a ag) λe=>
 qK S (λa=>aM 6 a k) λf=>
 (cO #[] 124 0 [] a λl g=>
 S g∧((cR (.agg #[aj,.slice none 0 0,aj,aj,aj,.bool false]) 124 6 64 l e g λah m=>
 S m∧(cO #[aj,(.slice none 0 0),aj,aj,aj,(.bool false)] 124 1 [(0,6,f)] m λal n=>
 S n∧(cR (.agg #[aj,.slice none 0 0,aj,aj,aj,.bool false]) 124 6 64 ah al n λam o=>
 S o∧(vK (aC 13 b) λan=>
 stK 1 an am o λbb ao=>
 d [] ao))))∧(cO #[aj,(.slice none 0 0),aj,aj,aj,(.bool false)] 124 1 [(0,6,f)] g λap p=>
 S p∧(cR (.agg #[aj,.slice none 0 0,aj,aj,aj,.bool false]) 124 6 64 l e p λaq q=>
 S q∧(cR (.agg #[aj,.slice none 0 0,aj,aj,aj,.bool false]) 124 6 64 aq ap q λar r=>
 S r∧(vK (aC 13 b) λau=>
 stK 1 au ar r λbc av=>
 d [] av))))))∧(cO #[aj,(.slice none 0 0),aj,aj,aj,(.bool false)] 124 1 [(0,6,f)] a λaw s=>
 S s∧(cO #[] 124 0 [] s λax t=>
 S t∧(cR (.agg #[aj,.slice none 0 0,aj,aj,aj,.bool false]) 124 6 64 ax e t λay u=>
 S u∧(cR (.agg #[aj,.slice none 0 0,aj,aj,aj,.bool false]) 124 6 64 ay aw u λaz v=>
 S v∧(vK (aC 13 b) λa6=>
 stK 1 a6 az v λbd a7=>
 d [] a7))))))
 λbe bf w=>
 vK (aM 20 w b) λa8=>
 stK 20 j a8 w λbg x=>
 vK (aM 20 x j) λa9=>
 R a9 x
theorem QT (H:FA a0 a1 a2 a3 a4 a5 h R):ag prog iE #[a0,a1,a2,a3,a4,a5] h R:=fk f89 (.s .z (.s .z (.j 34225520640 [] (.d (.op 1 .r (.op 2 .r (.op 4 .r (.alt (.op 0 .e (.alt (.op 3 .e (.op 5 .e (.op 6 .e (.op 7 .r (.op 8 .n .nil))))) (.op 5 .e (.op 3 .e (.op 6 .e (.op 7 .r (.op 8 .n .nil))))))) (.op 5 .e (.op 0 .e (.op 3 .e (.op 6 .e (.op 7 .r (.op 8 .n .nil))))))))))) (.s .z .z)))) H
def pF (a0:Value)(h:ai)(R:Value→ai→Prop):Prop:=
 vK (aX a0) λb=>
 vK (aC 2 b) λc=>
 vK (ldV h c) λa=>
 vK (gV a false (some a0)) λd=>
 vK (gV a false (aX d)) λe=>
 vK (gV a false (aC 1 e)) λf=>
 vK (gV a false (ldV h f)) λg=>
 vK (gV a false (aD g)) λj=>
 vK (gV a false (some a0)) λk=>
 vK (gV a false (aX k)) λl=>
 vK (gV a false (aC 0 l)) λm=>
 vK (gV a false (ldV h m)) λn=>
 vK (gV a false (ak .i .lss j n)) λo=>
 vK (aH a (.bool true) o) λp=>
 R p h
theorem AE (H:pF a0 h R):ag prog ja #[a0] h R:=fk f90 (.s .z (.s .z .z)) H
def qW (a0:Value)(h:ai)(R:Value→ai→Prop):Prop:=
 vK (aX a0) λa=>
 vK (aC 2 a) λb=>
 vK (ldV h b) λc=>
 R c h
theorem Cc (H:qW a0 h R):ag prog jw #[a0] h R:=fk f91 (.s .z (.s .z .z)) H
def yg (a0:Value)(h:ai)(R:Value→ai→Prop):Prop:=
 vK (aX a0) λa=>
 vK (aC 11 a) λb=>
 vK (ldV h b) λc=>
 vK (aD c) λd=>
 vK (aX a0) λe=>
 vK (aC 6 e) λf=>
 vK (ldV h f) λg=>
 vK (aD g) λj=>
 vK (ak .i .eql d j) λk=>
 R k h
theorem Ju (H:yg a0 h R):ag prog sw #[a0] h R:=fk f92 (.s .z (.s .z .z)) H
def uT (a0 a1:Value)(h:ai)(R:Value→ai→Prop):Prop:=
 vK (aX a0) λb=>
 vK (aC 2 b) λc=>
 vK (ldV h c) λd=>
 aG d (
 R (af 2) h) (
 ag prog ja #[a0] h λe a=>
 vK (unV .not e) λf=>
 aG f (
 R aJ a) (
 vK (aX a0) λg=>
 vK (aC 1 g) λi=>
 vK (ldV a i) λj=>
 cO #[aj] 3 1 [(0,1,a1)] a λk l=>
 cR aj 3 1 8 j k l λm n=>
 vK (aX a0) λo=>
 vK (aC 1 o) λp=>
 stK 1 p m n λr q=>
 R aj q))
theorem Fh (H:uT a0 a1 h R):ag prog oJ #[a0,a1] h R:=fk f93 (.s .z (.s (.s .z (.s (.s .z .z) (.s .z (.s (.s .z .z) .z)))) (.s .z (.s .z .z)))) H
def uY (a0 a1:Value)(h:ai)(R:Value→ai→Prop):Prop:=
 ag prog lQ #[a0,a1] h λb d=>
 ag prog ki #[a0,a1] d λe a=>
 aG e (
 vK (aX a0) λf=>
 vK (aC 0 f) λg=>
 vK (ldV a g) λj=>
 vK (bh 1 j a1) λk=>
 vK (ldV a k) λc=>
 vK (bh 1 c a1) λl=>
 vK (ldV a l) λm=>
 vK (ak .i .add m aJ) λn=>
 vK (bh 1 c a1) λo=>
 stK 1 o n a λq p=>
 R b p) (
 R b a)
theorem Fm (H:uY a0 a1 h R):ag prog iZ #[a0,a1] h R:=fk f94 (.s .z (.s .z (.s (.s .z (.s .z .z)) (.s .z .z)))) H
def uZ (a0 a1 a2:Value)(h:ai)(R:Value→ai→Prop):Prop:=
 ag prog ki #[a0,a1] h λf d=>
 vK (unV .not f) λa=>
 vK (gV a false (some a2)) λg=>
 vK (gV a false (aD g)) λj=>
 vK (gV a false (some a0)) λk=>
 vK (gV a false (aX k)) λl=>
 vK (gV a false (aC 0 l)) λm=>
 vK (gV a false (ldV d m)) λn=>
 vK (gV a false (aD n)) λo=>
 vK (gV a false (ak .i .neq j o)) λp=>
 vK (aH a (.bool true) p) λc=>
 vK (gV c false (some a2)) λq=>
 gK c false (λr=>ag prog ij #[q] d r) d λs b=>
 vK (gV c false (ak .i .lss s aj)) λt=>
 vK (aH c (.bool true) t) λu=>
 aG u (
 R (.bool false) b) (
 bL b λS=>
 vK (aX a0) λv=>
 vK (aC 0 v) λw=>
 qK S (λb=>ldV b w) λx=>
 vK (aX a0) λy=>
 vK (aC 0 y) λz=>
 qK S (λb=>ldV b z) λaa=>
 vK (bh 1 aa a1) λab=>
 qK S (λb=>ldV b ab) λac=>
 ag prog Bx #[ac,a2] b λad e=>
 S e∧(vK (bh 1 x a1) λae=>
 stK 1 ae ad e λah af=>
 R (.bool true) af))
theorem Fo (H:uZ a0 a1 a2 h R):ag prog gE #[a0,a1,a2] h R:=fk f95 (.s .z (.s (.s .z (.s (.s .z .z) .z)) (.s (.d (.op 0 .r (.op 1 .r (.op 2 .r (.op 3 .r (.op 4 .r (.op 5 .r (.op 6 .r (.op 7 .r (.op 8 .r (.op 9 .r (.op 10 .r (.op 11 .r (.op 12 .r (.op 13 .e (.op 14 .r (.op 15 .n .nil))))))))))))))))) (.s .z .z)))) H
def tE (a0 a1 a2:Value)(h:ai)(R:Value→ai→Prop):Prop:=
 vK (ldV h a1) λd=>
 ag prog sq #[d,a0] h λb a=>
 vK (ak .p .neq b (.pointer none)) λe=>
 aG e (
 bL a λS=>
 qK S (λa=>ldV a a1) λf=>
 vK (aX f) λg=>
 vK (aC 7 g) λj=>
 qK S (λa=>ldV a j) λk=>
 qK S (λa=>ldV a a2) λl=>
 vK (ak .i .sub l aJ) λm=>
 ag prog kI #[b] a λn c=>
 S c∧(vK (bh 1 k m) λo=>
 stK 1 o n c λr q=>
 R b q)) (
 R b a)
theorem Dh (H:tE a0 a1 a2 h R):ag prog iy #[a0,a1,a2] h R:=fk f96 (.s .z (.s .z (.s (.s .z (.s (.d (.op 0 .r (.op 1 .r (.op 2 .r (.op 3 .r (.op 4 .r (.op 5 .r (.op 6 .r (.op 7 .e (.op 8 .r (.op 9 .n .nil))))))))))) .z)) (.s .z .z)))) H
def yd (a0 a1:Value)(h:ai)(R:Value→ai→Prop):Prop:=
 vK (aX a0) λg=>
 vK (aC 2 g) λj=>
 vK (ldV h j) λk=>
 ag prog gC #[k,a1] h λb l=>
 vK (aP b 0) λm=>
 vK (aP b 1) λac=>
 aT #[aj,aj,aj,aj,aj,aj,aj,aj,aj,aj] 116 l λc n=>
 stK 10 c m n λad a=>
 bL a λS=>
 vK (aX a0) λo=>
 vK (aC 0 o) λp=>
 qK S (λa=>ldV a p) λq=>
 vK (aX a0) λr=>
 vK (aC 1 r) λs=>
 qK S (λa=>ldV a s) λt=>
 vK (aX a0) λu=>
 vK (aC 2 u) λv=>
 qK S (λa=>ldV a v) λw=>
 qK S (λa=>aM 10 a c) λx=>
 ag prog jy #[w] a λy d=>
 S d∧(ag prog qa #[q,t,y,x] d λe f=>
 vK (aP e 0) λz=>
 vK (aP e 1) λaa=>
 vK (ak .i .neq aa aj) λab=>
 aG ab (
 R (.pointer none) f) (
 R z f))
theorem Jr (H:yd a0 a1 h R):ag prog sq #[a0,a1] h R:=fk f97 (.s .z (.s .z (.s (.d (.op 0 .r (.op 1 .r (.op 2 .r (.op 3 .r (.op 4 .r (.op 5 .r (.op 6 .r (.op 7 .r (.op 8 .r (.op 9 .r (.op 10 .r (.op 11 .r (.op 13 .r (.op 12 .e (.op 14 .n (.op 15 .r (.op 16 .r (.op 17 .r (.op 18 .r (.op 19 .r .nil))))))))))))))))))))) (.s (.s .z (.s (.s .z .z) .z)) (.s .z .z))))) H
def uO (a0:Value)(h:ai)(R:Value→ai→Prop):Prop:=
 vK (aX a0) λa=>
 vK (aC 15 a) λb=>
 vK (ldV h b) λc=>
 ag prog qn #[c] h λd e=>
 R d e
theorem Fb (H:uO a0 h R):ag prog kI #[a0] h R:=fk f98 (.s .z (.s .z .z)) H
def wO (a0 a1 a2:Value)(h:ai)(R:Value→ai→Prop):Prop:=
 aT (Value.cells a2) 148 h λe d=>
 eM (λf=>
 bL d λS=>
 vK (aX a0) λac=>
 vK (aC 2 ac) λad=>
 qK S (λd=>ldV d ad) λg=>
 vK (aC 1 e) λae=>
 qK S (λd=>ldV d ae) λj=>
 (ag prog gC #[g,j] d λk l=>
 S l∧(vK (aP k 0) λaf=>
 vK (aP k 1) λcg=>
 aT #[aj,aj,aj,aj,aj,aj,aj,aj,aj,aj] 116 l λm n=>
 S n∧(stK 10 m af n λch o=>
 S o∧(f [m] o))))∧(aT #[aj,aj,aj,aj,aj,aj,aj,aj,aj,aj] 116 d λp q=>
 S q∧(ag prog gC #[g,j] q λr s=>
 S s∧(vK (aP r 0) λah=>
 vK (aP r 1) λci=>
 stK 10 p ah s λck t=>
 S t∧(f [p] t)))))
 λu cl a=>
 vK (aX a0) λal=>
 vK (aC 7 al) λam=>
 vK (ldV a am) λan=>
 vK (ak .i .sub a1 aJ) λao=>
 vK (bh 1 an ao) λap=>
 vK (ldV a ap) λv=>
 vK (aC 2 e) λaq=>
 vK (aC 0 aq) λar=>
 vK (ldV a ar) λau=>
 vK (ak .i .eql au aJ) λav=>
 aG av (
 bL a λS=>
 vK (aX a0) λaw=>
 vK (aC 0 aw) λax=>
 qK S (λa=>ldV a ax) λay=>
 vK (aX a0) λaz=>
 vK (aC 0 az) λa3=>
 qK S (λa=>ldV a a3) λa4=>
 ag prog cf #[ay] a λa5 w=>
 S w∧(ag prog bu #[a4] w λa6 c=>
 vK (ak .i .mul a5 a6) λx=>
 bL c λS=>
 vK (aX a0) λa7=>
 vK (aC 2 a7) λa8=>
 qK S (λc=>ldV c a8) λa9=>
 vK (aC 2 e) λba=>
 vK (aC 1 ba) λbb=>
 qK S (λc=>ldV c bb) λbc=>
 vK (aX a0) λbd=>
 vK (aC 0 bd) λbe=>
 qK S (λc=>ldV c be) λbf=>
 ag prog jy #[a9] c λbg y=>
 S y∧(vK (rh false 1 2 bg) λbi=>
 ag prog cj #[bf] y λbj z=>
 S z∧(ag prog my #[bi,bc,bj] z λbk bl=>
 vK (ak .i .mul bk x) λbm=>
 ag prog eo #[a0,a1,aj,bm,x,(.bool false)] bl λcm bn=>
 vK (ak .i .add aJ a1) λbo=>
 ag prog eo #[a0,a1,bo,aj,v,(.bool true)] bn λcn bp=>
 R (.tuple #[]) bp)))) (
 vK (aX a0) λbq=>
 vK (aC 1 bq) λbr=>
 vK (ldV a br) λbs=>
 ag prog bu #[bs] a λaa bt=>
 vK (ak .i .add aJ a1) λbv=>
 ag prog eo #[a0,a1,bv,aj,v,(.bool false)] bt λco b=>
 bL b λS=>
 vK (aC 2 e) λbw=>
 vK (aC 1 bw) λbx=>
 qK S (λb=>ldV b bx) λbz=>
 vK (aX a0) λb0=>
 vK (aC 1 b0) λb1=>
 qK S (λb=>ldV b b1) λb2=>
 vK (aC 1 (ix u 0)) λb3=>
 vK (aC 0 b3) λb4=>
 qK S (λb=>ldV b b4) λb5=>
 vK (aC 1 (ix u 0)) λb6=>
 vK (aC 2 b6) λb7=>
 qK S (λb=>ldV b b7) λb8=>
 vK (ak .i .mul b8 aa) λb9=>
 ag prog cf #[b2] b λca ab=>
 S ab∧(vK (ak .i .mul bz ca) λcb=>
 vK (ak .i .add cb b5) λcc=>
 vK (ak .i .mul cc aa) λcd=>
 ag prog eo #[a0,a1,aJ,cd,b9,(.bool true)] ab λcp ce=>
 R (.tuple #[]) ce))
theorem GX (H:wO a0 a1 a2 h R):ag prog qE #[a0,a1,a2] h R:=fk f99 (.s .z (.j 4190400 [6] (.d (.op 0 .r (.op 1 .r (.op 2 .r (.op 3 .r (.op 4 .r (.op 5 .r (.alt (.op 6 .e (.op 7 .r (.op 8 .r (.op 9 .r (.op 10 .e (.op 11 .e (.op 12 .r .nil))))))) (.op 10 .e (.op 6 .e (.op 7 .r (.op 8 .r (.op 9 .r (.op 11 .e (.op 12 .r .nil))))))))))))))) (.s .z (.s (.s .z (.s (.s (.d (.op 0 .r (.op 1 .r (.op 2 .r (.op 3 .r (.op 5 .r (.op 6 .r (.op 7 .r (.op 8 .r (.op 4 .e (.op 9 .n (.op 10 .r (.op 11 .r .nil))))))))))))) (.s (.d (.op 0 .r (.op 1 .r (.op 2 .r (.op 3 .r (.op 6 .r (.op 7 .r (.op 8 .r (.op 9 .r (.op 10 .r (.op 11 .r (.op 12 .r (.op 4 .e (.op 5 .r (.op 13 .e (.op 14 .n (.op 15 .r .nil))))))))))))))))) (.s .z (.s .z .z)))) .z)) (.s .z (.s .z (.d (.op 0 .r (.op 1 .r (.op 2 .r (.op 3 .r (.op 4 .r (.op 5 .r (.op 6 .r (.op 7 .r (.op 8 .r (.op 11 .r (.op 12 .r (.op 13 .r (.op 15 .r (.op 17 .r (.op 18 .r (.op 19 .r (.op 20 .r (.op 21 .r (.op 9 .e (.op 10 .r (.op 14 .r (.op 16 .r (.op 22 .n .nil)))))))))))))))))))))))))))))) H
def lS (a0:Value)(h:ai)(R:Value→ai→Prop):Prop:=
 vK (ak .sl .eql a0 (.slice none 0 0)) λa=>
 aG a (
 R (.slice none 0 0) h) (
 cO #[] 3 0 [] h λb c=>
 cR aj 3 1 8 b a0 c λd e=>
 R d e)
theorem xa (H:lS a0 h R):ag prog je #[a0] h R:=fk f100 (.s .z (.s (.s .z (.s (.s .z .z) .z)) (.s .z .z))) H
def tF (a0:Value)(h:ai)(R:Value→ai→Prop):Prop:=
 bL h λS=>
 vK (aX a0) λb=>
 vK (aC 0 b) λc=>
 vK (aC 0 c) λd=>
 qK S (λh=>ldV h d) λe=>
 vK (aX a0) λf=>
 vK (aC 3 f) λg=>
 qK S (λh=>ldV h g) λi=>
 ag prog bR #[e] h λj a=>
 S a∧(ag prog wh #[j,i] a λk l=>
 R k l)
theorem Dj (H:tF a0 h R):ag prog iz #[a0] h R:=fk f101 (.s .z (.s (.d (.op 0 .r (.op 1 .r (.op 2 .r (.op 3 .r (.op 4 .r (.op 6 .r (.op 7 .r (.op 8 .r (.op 9 .r (.op 5 .e (.op 10 .n (.op 11 .r .nil))))))))))))) .z)) H
def F9 (a0 a1:Value)(h:ai)(R:Value→ai→Prop):Prop:=
 vK (ak .i .add a0 a1) λa=>
 vK (ak .i .sub a aJ) λb=>
 vK (ak .i .quo b a1) λc=>
 R c h
theorem Rt (H:F9 a0 a1 h R):ag prog wh #[a0,a1] h R:=fk f102 (.s .z (.s .z .z)) H
def yj (a0 a1:Value)(h:ai)(R:Value→ai→Prop):Prop:=
 aT #[aj,aj,aj,aj,aj,aj,aj,aj,aj,aj] 116 h λf l=>
 vK (ak .i .lss a1 aj) λe=>
 vK (gV e false (some a1)) λaf=>
 vK (gV e false (some a0)) λah=>
 gK e false (λal=>ag prog eO #[ah] l al) l λam d=>
 vK (gV e false (ak .i .geq af am)) λan=>
 vK (aH e (.bool true) an) λao=>
 aG ao (
 vK ((aR #[aj,aj,aj,aj,aj,aj,aj,aj,aj,aj] []).map .agg) λap=>
 stK 10 f ap d λcc m=>
 vK (aM 10 m f) λaq=>
 R (.tuple #[aq,(.bool false)]) m) (
 eM (λg=>
 bL d λS=>
 vK (aX a0) λar=>
 vK (aC 0 ar) λau=>
 vK (aC 1 au) λav=>
 qK S (λd=>ldV d av) λj=>
 (ag prog nU #[a0,a1] d λn k=>
 S k∧((ag prog gw #[j] k λaw o=>
 S o∧(vK ((aR #[aj,aj,aj,aj,aj,aj,aj,aj,aj,aj] [(0,1,a1),(1,4,n),(9,1,aw)]).map .agg) λax=>
 aT #[aj,aj,aj,aj,aj,aj,aj,aj,aj,aj] 116 o λp q=>
 S q∧(stK 10 p ax q λcd r=>
 S r∧(g [p] r))))∧(aT #[aj,aj,aj,aj,aj,aj,aj,aj,aj,aj] 116 k λs t=>
 S t∧(ag prog gw #[j] t λay u=>
 S u∧(vK ((aR #[aj,aj,aj,aj,aj,aj,aj,aj,aj,aj] [(0,1,a1),(1,4,n),(9,1,ay)]).map .agg) λaz=>
 stK 10 s az u λce v=>
 S v∧(g [s] v))))))∧(aT #[aj,aj,aj,aj,aj,aj,aj,aj,aj,aj] 116 d λw x=>
 S x∧(ag prog nU #[a0,a1] x λa2 y=>
 S y∧(ag prog gw #[j] y λa3 z=>
 S z∧(vK ((aR #[aj,aj,aj,aj,aj,aj,aj,aj,aj,aj] [(0,1,a1),(1,4,a2),(9,1,a3)]).map .agg) λa4=>
 stK 10 w a4 z λcf aa=>
 S aa∧(g [w] aa))))))
 λa cg b=>
 bL b λS=>
 vK (aX a0) λa5=>
 vK (aC 0 a5) λa6=>
 vK (aC 0 a6) λa7=>
 qK S (λb=>ldV b a7) λa8=>
 vK (aC 1 (ix a 0)) λa9=>
 vK (aC 0 a9) λba=>
 qK S (λb=>ldV b ba) λbb=>
 vK (aC 1 (ix a 0)) λbc=>
 vK (aC 0 bc) λbd=>
 qK S (λb=>ldV b bd) λbe=>
 vK (aC 1 (ix a 0)) λbf=>
 vK (aC 2 bf) λbg=>
 qK S (λb=>ldV b bg) λbh=>
 vK (ak .i .add be bh) λbi=>
 ag prog iu #[a8,bb,bi] b λab bj=>
 vK (aP ab 0) λbk=>
 vK (aP ab 1) λbl=>
 vK (aC 5 (ix a 0)) λbm=>
 stK 1 bm bk bj λch bn=>
 vK (aC 7 (ix a 0)) λbo=>
 stK 1 bo bl bn λci c=>
 bL c λS=>
 vK (aX a0) λbp=>
 vK (aC 0 bp) λbq=>
 vK (aC 1 bq) λbr=>
 qK S (λc=>ldV c br) λbs=>
 vK (aC 1 (ix a 0)) λbt=>
 vK (aC 1 bt) λbu=>
 qK S (λc=>ldV c bu) λbv=>
 vK (aC 1 (ix a 0)) λbw=>
 vK (aC 1 bw) λbx=>
 qK S (λc=>ldV c bx) λbz=>
 vK (aC 1 (ix a 0)) λb0=>
 vK (aC 3 b0) λb1=>
 qK S (λc=>ldV c b1) λb2=>
 vK (ak .i .add bz b2) λb3=>
 ag prog iu #[bs,bv,b3] c λac b4=>
 vK (aP ac 0) λb5=>
 vK (aP ac 1) λb6=>
 vK (aC 6 (ix a 0)) λb7=>
 stK 1 b7 b5 b4 λcj b8=>
 vK (aC 8 (ix a 0)) λb9=>
 stK 1 b9 b6 b8 λck ad=>
 vK (aM 10 ad (ix a 0)) λca=>
 stK 10 f ca ad λcl ae=>
 vK (aM 10 ae f) λcb=>
 R (.tuple #[cb,(.bool true)]) ae)
theorem Jw (H:yj a0 a1 h R):ag prog gC #[a0,a1] h R:=fk f103 (.s .z (.s (.s .z (.s (.s .z .z) .z)) (.j 134152256 [6] (.d (.op 0 .r (.op 1 .r (.op 2 .r (.op 4 .r (.op 5 .r (.op 6 .r (.op 7 .r (.op 8 .r (.alt (.op 3 .e (.alt (.op 9 .e (.op 10 .r (.op 11 .e (.op 12 .e .nil)))) (.op 11 .e (.op 9 .e (.op 10 .r (.op 12 .e .nil)))))) (.op 11 .e (.op 3 .e (.op 9 .e (.op 10 .r (.op 12 .e .nil))))))))))))))) (.s (.d (.op 0 .r (.op 1 .r (.op 2 .r (.op 3 .r (.op 4 .r (.op 5 .r (.op 6 .r (.op 7 .r (.op 8 .r (.op 9 .r (.op 10 .r (.op 11 .r (.op 12 .r (.op 13 .r (.op 14 .r (.op 15 .n (.op 16 .r (.op 17 .r (.op 18 .r (.op 19 .r (.op 20 .n (.op 21 .r (.op 22 .n .nil)))))))))))))))))))))))) (.s (.d (.op 0 .r (.op 1 .r (.op 2 .r (.op 3 .r (.op 4 .r (.op 5 .r (.op 6 .r (.op 7 .r (.op 8 .r (.op 9 .r (.op 10 .r (.op 11 .r (.op 12 .r (.op 13 .r (.op 14 .r (.op 15 .n (.op 16 .r (.op 17 .r (.op 18 .r (.op 19 .r (.op 20 .n (.op 21 .r (.op 22 .n .nil)))))))))))))))))))))))) (.s .z .z)))))) H
def zH (a0 a1:Value)(h:ai)(R:Value→ai→Prop):Prop:=
 aT (Value.cells a0) 81 h λl t=>
 aT (Value.cells a1) 114 t λb a=>
 bL a λS=>
 vK (aC 0 l) λu=>
 qK S (λa=>ldV a u) λv=>
 vK (ak .p .neq v (.pointer none)) λm=>
 vK (gV m true (aC 1 l)) λw=>
 qK S (λa=>gV m true (ldV a w)) λx=>
 vK (gV m true (ak .p .neq x (.pointer none))) λy=>
 vK (aH m y (.bool false)) λn=>
 vK (gV n true (aC 2 b)) λz=>
 qK S (λa=>gV n true (ldV a z)) λaa=>
 vK (gV n true (ak .i .geq aa aJ)) λab=>
 vK (aH n ab (.bool false)) λo=>
 vK (gV o true (aC 3 b)) λac=>
 qK S (λa=>gV o true (ldV a ac)) λad=>
 vK (gV o true (ak .i .geq ad aJ)) λae=>
 vK (aH o ae (.bool false)) λq=>
 vK (gV q true (aC 0 b)) λaf=>
 qK S (λa=>gV q true (ldV a af)) λah=>
 vK (gV q true (ak .i .geq ah aj)) λal=>
 vK (aH q al (.bool false)) λr=>
 vK (gV r true (aC 1 b)) λam=>
 qK S (λa=>gV r true (ldV a am)) λan=>
 vK (gV r true (ak .i .geq an aj)) λao=>
 vK (aH r ao (.bool false)) λg=>
 vK (gV g true (aC 0 b)) λap=>
 qK S (λa=>gV g true (ldV a ap)) λaq=>
 vK (gV g true (aC 0 l)) λar=>
 qK S (λa=>gV g true (ldV a ar)) λau=>
 gK g true (λav=>ag prog bR #[au] a av) a λaw j=>
 S j∧(vK (gV g true (ak .i .lss aq aw)) λax=>
 vK (aH g ax (.bool false)) λk=>
 vK (gV k true (aC 1 b)) λay=>
 qK S (λj=>gV k true (ldV j ay)) λaz=>
 vK (gV k true (aC 1 l)) λa2=>
 qK S (λj=>gV k true (ldV j a2)) λa3=>
 gK k true (λa4=>ag prog bR #[a3] j a4) j λa5 e=>
 S e∧(vK (gV k true (ak .i .lss az a5)) λa6=>
 vK (aH k a6 (.bool false)) λc=>
 vK (gV c true (aC 2 b)) λa7=>
 qK S (λe=>gV c true (ldV e a7)) λa8=>
 vK (gV c true (aC 0 l)) λa9=>
 qK S (λe=>gV c true (ldV e a9)) λba=>
 vK (gV c true (aC 0 b)) λbb=>
 qK S (λe=>gV c true (ldV e bb)) λbc=>
 gK c true (λbd=>ag prog bR #[ba] e bd) e λbe f=>
 S f∧(vK (gV c true (ak .i .sub be bc)) λbf=>
 vK (gV c true (ak .i .leq a8 bf)) λbg=>
 vK (aH c bg (.bool false)) λd=>
 vK (gV d true (aC 3 b)) λbh=>
 qK S (λf=>gV d true (ldV f bh)) λbi=>
 vK (gV d true (aC 1 l)) λbj=>
 qK S (λf=>gV d true (ldV f bj)) λbk=>
 vK (gV d true (aC 1 b)) λbl=>
 qK S (λf=>gV d true (ldV f bl)) λbm=>
 gK d true (λbn=>ag prog bR #[bk] f bn) f λbo s=>
 S s∧(vK (gV d true (ak .i .sub bo bm)) λbp=>
 vK (gV d true (ak .i .leq bi bp)) λbq=>
 vK (aH d bq (.bool false)) λbr=>
 R br s))))
theorem KS (H:zH a0 a1 h R):ag prog nP #[a0,a1] h R:=fk f104 (.s .z (.s (.d (.op 0 .r (.op 1 .r (.op 2 .r (.op 3 .r (.op 4 .r (.op 5 .r (.op 6 .r (.op 7 .r (.op 8 .r (.op 9 .r (.op 10 .r (.op 11 .r (.op 12 .r (.op 13 .r (.op 14 .r (.op 15 .r (.op 16 .r (.op 17 .r (.op 18 .r (.op 19 .r (.op 20 .r (.op 21 .r (.op 22 .r (.op 23 .r (.op 24 .r (.op 25 .r (.op 26 .r (.op 27 .r (.op 28 .r (.op 29 .r (.op 30 .r (.op 31 .r (.op 32 .r (.op 33 .e (.op 34 .r (.op 35 .r (.op 36 .r (.op 37 .r (.op 38 .r (.op 39 .r (.op 40 .r (.op 41 .e (.op 42 .r (.op 43 .r (.op 44 .r (.op 45 .r (.op 46 .r (.op 47 .r (.op 48 .r (.op 50 .r (.op 51 .r (.op 49 .e (.op 52 .r (.op 53 .r (.op 54 .r (.op 55 .r (.op 56 .r (.op 57 .r (.op 58 .r (.op 59 .r (.op 61 .r (.op 62 .r (.op 60 .e (.op 63 .r (.op 64 .r (.op 65 .r (.op 66 .r .nil)))))))))))))))))))))))))))))))))))))))))))))))))))))))))))))))))))) .z)) H
end
section
variable {a0 a1 a2 a3 a4 a5 a6:Value}{h:ai}{R:Value→ai→Prop}
def uQ (a0 a1:Value)(h:ai)(R:Value→ai→Prop):Prop:=
 aT #[aj,(.slice none 0 0)] 189 h λc a=>
 vK (ak .i .lss a1 aj) λb=>
 vK (gV b false (some a1)) λg=>
 vK (gV b false (some a0)) λj=>
 vK (gV b false (aX j)) λk=>
 vK (gV b false (aC 1 k)) λl=>
 vK (gV b false (ldV a l)) λm=>
 vK (gV b false (aD m)) λn=>
 vK (gV b false (ak .i .geq g n)) λo=>
 vK (aH b (.bool true) o) λp=>
 aG p (
 vK ((aR #[aj,(.slice none 0 0)] []).map .agg) λq=>
 stK 2 c q a λal d=>
 vK (aM 2 d c) λr=>
 R r d) (
 bL a λS=>
 vK (aX a0) λs=>
 vK (aC 1 s) λt=>
 qK S (λa=>ldV a t) λu=>
 vK (bh 2 u a1) λv=>
 vK (aC 0 v) λw=>
 qK S (λa=>ldV a w) λx=>
 vK (aX a0) λy=>
 vK (aC 1 y) λz=>
 qK S (λa=>ldV a z) λaa=>
 vK (bh 2 aa a1) λab=>
 vK (aC 1 ab) λac=>
 qK S (λa=>ldV a ac) λad=>
 ag prog dx #[ad] a λae e=>
 S e∧(vK ((aR #[aj,(.slice none 0 0)] [(0,1,x),(1,1,ae)]).map .agg) λaf=>
 stK 2 c af e λam f=>
 vK (aM 2 f c) λah=>
 R ah f))
theorem Fe (H:uQ a0 a1 h R):ag prog bM #[a0,a1] h R:=fk f105 (.s .z (.s (.s .z (.s (.s .z .z) .z)) (.s (.d (.op 0 .r (.op 1 .r (.op 2 .r (.op 3 .r (.op 4 .r (.op 5 .r (.op 6 .r (.op 7 .r (.op 8 .r (.op 9 .r (.op 10 .r (.op 11 .r (.op 12 .r (.op 13 .r (.op 14 .r (.op 15 .r (.op 16 .e (.op 17 .r (.op 18 .n .nil)))))))))))))))))))) .z))) H
def BN (a0:Value)(h:ai)(R:Value→ai→Prop):Prop:=
 aT (Value.cells a0) 120 h λa f=>
 aT #[aj,(.slice none 0 0),aj,aj,aj,(.bool false)] 120 f λb c=>
 vK (aC 1 a) λg=>
 vK (ldV c g) λi=>
 ag prog dZ #[i] c λj k=>
 vK (aC 1 a) λl=>
 stK 1 l j k λo d=>
 vK (aM 6 d a) λm=>
 stK 6 b m d λp e=>
 vK (aM 6 e b) λn=>
 R n e
theorem MH (H:BN a0 h R):ag prog qH #[a0] h R:=fk f106 (.s .z (.s .z (.s .z .z))) H
def FH (a0 a1:Value)(h:ai)(R:Value→ai→Prop):Prop:=
 aT (Value.cells a0) 43 h λa k=>
 aT #[aj,(.slice none 0 0),(.bool false)] 43 k λc b=>
 vK (aC 2 a) λl=>
 vK (ldV b l) λm=>
 aG m (
 vK (aM 3 b a) λn=>
 stK 3 c n b λan d=>
 vK (aM 3 d c) λo=>
 R (.tuple #[o,(af 2)]) d) (
 vK (aC 1 a) λp=>
 vK (ldV b p) λq=>
 vK (aD q) λr=>
 vK (aC 0 a) λs=>
 vK (ldV b s) λt=>
 vK (ak .i .geq r t) λu=>
 aG u (
 vK (aM 3 b a) λv=>
 stK 3 c v b λao e=>
 vK (aM 3 e c) λw=>
 R (.tuple #[w,aJ]) e) (
 cO #[] 3 0 [] b λx f=>
 vK (aC 1 a) λy=>
 vK (ldV f y) λz=>
 cR aj 3 1 8 x z f λaa ab=>
 cO #[aj] 3 1 [(0,1,a1)] ab λac ad=>
 cR aj 3 1 8 aa ac ad λae ag=>
 vK (aC 1 a) λah=>
 stK 1 ah ae ag λap g=>
 vK (aM 3 g a) λal=>
 stK 3 c al g λaq j=>
 vK (aM 3 j c) λam=>
 R (.tuple #[am,aj]) j))
theorem QZ (H:FH a0 a1 h R):ag prog Bd #[a0,a1] h R:=fk f107 (.s .z (.s (.s .z (.s (.s .z .z) .z)) (.s (.s .z (.s (.s .z .z) .z)) (.s .z (.s .z .z))))) H
def Fz (a0 a1:Value)(h:ai)(R:Value→ai→Prop):Prop:=
 aT (Value.cells a0) 48 h λa l=>
 aT aK 48 l λd b=>
 vK (aC 11 a) λm=>
 vK (ldV b m) λn=>
 vK (bh 1 n a1) λo=>
 vK (ldV b o) λe=>
 cO #[] 3 0 [] b λp q=>
 cR aj 3 1 8 p e q λc f=>
 vK (bh 1 c a1) λr=>
 vK (ldV f r) λs=>
 vK (ak .i .add s aJ) λt=>
 vK (bh 1 c a1) λu=>
 stK 1 u t f λac g=>
 vK (aC 11 a) λv=>
 vK (ldV g v) λw=>
 ag prog yG #[w,a1,c] g λx y=>
 vK (aC 11 a) λz=>
 stK 1 z x y λad j=>
 vK (aM 20 j a) λaa=>
 stK 20 d aa j λae k=>
 vK (aM 20 k d) λab=>
 R (.tuple #[ab,e]) k
theorem QS (H:Fz a0 a1 h R):ag prog qu #[a0,a1] h R:=fk f108 (.s .z (.s .z (.s .z (.s .z (.s .z (.s .z .z)))))) H
def FB (a0 a1 a2:Value)(h:ai)(R:Value→ai→Prop):Prop:=
 aT (Value.cells a0) 48 h λb g=>
 aT aK 48 g λc a=>
 bL a λS=>
 vK (aC 11 b) λi=>
 qK S (λa=>ldV a i) λj=>
 vK (aC 11 b) λk=>
 qK S (λa=>ldV a k) λl=>
 vK (bh 1 l a1) λm=>
 qK S (λa=>ldV a m) λn=>
 ag prog Bc #[n,a2] a λo d=>
 S d∧(ag prog yG #[j,a1,o] d λp q=>
 vK (aC 11 b) λr=>
 stK 1 r p q λu e=>
 vK (aM 20 e b) λs=>
 stK 20 c s e λv f=>
 vK (aM 20 f c) λt=>
 R t f)
theorem QU (H:FB a0 a1 a2 h R):ag prog qw #[a0,a1,a2] h R:=fk f109 (.s .z (.s (.d (.op 0 .r (.op 1 .r (.op 2 .r (.op 3 .r (.op 4 .r (.op 5 .r (.op 6 .r (.op 7 .r (.op 8 .r (.op 9 .e (.op 10 .n (.op 11 .r (.op 12 .n .nil)))))))))))))) (.s .z .z))) H
def FE (a0 a1 a2:Value)(h:ai)(R:Value→ai→Prop):Prop:=
 aT (Value.cells a0) 69 h λb ar=>
 aT (Value.cells a1) 43 ar λl au=>
 aT #[aj,(.slice none 0 0),(.slice none 0 0)] 69 au λc av=>
 aT #[aj,(.slice none 0 0),(.bool false)] 43 av λd aw=>
 aT #[aj,aj,aj,aj] 200 aw λe a=>
 vK (aC 0 b) λax=>
 vK (ldV a ax) λay=>
 vK (ak .i .eql ay (af 2)) λaz=>
 aG az (
 bL a λS=>
 qK S (λa=>aM 3 a b) λa3=>
 qK S (λa=>aM 3 a l) λa4=>
 vK ((aR #[aj,aj,aj,aj] []).map .agg) λa5=>
 stK 3 c a3 a λds x=>
 S x∧(stK 3 d a4 x λdt a6=>
 stK 4 e a5 a6 λdu o=>
 vK (aM 3 o c) λa7=>
 vK (aM 3 o d) λa8=>
 vK (aM 4 o e) λa9=>
 R (.tuple #[a7,a8,a9]) o)) (
 vK (aC 0 b) λba=>
 vK (ldV a ba) λbb=>
 vK (ak .i .eql bb aJ) λbc=>
 aG bc (
 bL a λS=>
 vK (aC 1 b) λbd=>
 qK S (λa=>ldV a bd) λbe=>
 vK (aC 1 b) λbf=>
 qK S (λa=>ldV a bf) λbg=>
 qK S (λa=>aD bg) λbi=>
 vK (ak .i .sub bi aJ) λbj=>
 vK (bh 1 be bj) λbk=>
 qK S (λa=>ldV a bk) λbl=>
 vK (aC 2 b) λbm=>
 qK S (λa=>ldV a bm) λbn=>
 vK (bh 2 bn aj) λbo=>
 qK S (λa=>aM 2 a bo) λbp=>
 vK ((aR #[aj,aj,aj,aj] [(0,1,(af 2)),(1,1,bl),(2,2,bp)]).map .agg) λbq=>
 aT #[aj,aj,aj,aj] 200 a λy z=>
 S z∧(stK 4 y bq z λdv aa=>
 vK (aC 2 b) λbr=>
 vK (ldV aa br) λbs=>
 vK (ni 2 bs (some aJ) none) λbt=>
 vK (aC 2 b) λbu=>
 stK 1 bu bt aa λdw t=>
 eM (λab=>
 vK (aC 2 b) λbv=>
 vK (ldV t bv) λbw=>
 vK (aD bw) λbx=>
 vK (ak .i .eql bx aj) λbz=>
 aG bz (
 vK (aC 0 b) λb0=>
 stK 1 b0 aj t λdx b1=>
 ab [] b1) (
 ab [] t))
 λdy dz f=>
 bL f λS=>
 qK S (λf=>aM 3 f b) λb2=>
 qK S (λf=>aM 3 f l) λb3=>
 qK S (λf=>aM 4 f y) λb4=>
 stK 3 c b2 f λd0 ac=>
 S ac∧(stK 3 d b3 ac λd1 ad=>
 S ad∧(stK 4 e b4 ad λd2 p=>
 vK (aM 3 p c) λb5=>
 vK (aM 3 p d) λb6=>
 vK (aM 4 p e) λb7=>
 R (.tuple #[b5,b6,b7]) p)))) (
 vK (aM 3 a l) λb8=>
 ag prog uH #[b8] a λu b9=>
 vK (aP u 0) λca=>
 vK (aP u 1) λm=>
 vK (aP u 2) λae=>
 aT #[aj,(.slice none 0 0),(.bool false)] 43 b9 λah cb=>
 stK 3 ah ca cb λd3 g=>
 vK (ak .i .eql ae aJ) λcc=>
 aG cc (
 bL g λS=>
 qK S (λg=>aM 3 g b) λcd=>
 qK S (λg=>aM 3 g l) λce=>
 vK ((aR #[aj,aj,aj,aj] []).map .agg) λcf=>
 stK 3 c cd g λd4 al=>
 S al∧(stK 3 d ce al λd5 cg=>
 stK 4 e cf cg λd6 q=>
 vK (aM 3 q c) λch=>
 vK (aM 3 q d) λci=>
 vK (aM 4 q e) λcj=>
 R (.tuple #[ch,ci,cj]) q)) (
 vK (ak .i .eql ae (af 2)) λck=>
 aG ck (
 vK (aC 0 b) λcl=>
 stK 1 cl (af 2) g λd7 j=>
 bL j λS=>
 qK S (λj=>aM 3 j b) λcm=>
 qK S (λj=>aM 3 j l) λcn=>
 vK ((aR #[aj,aj,aj,aj] [(0,1,(af 3))]).map .agg) λco=>
 stK 3 c cm j λd8 am=>
 S am∧(stK 3 d cn am λd9 cp=>
 stK 4 e co cp λea r=>
 vK (aM 3 r c) λcq=>
 vK (aM 3 r d) λcr=>
 vK (aM 4 r e) λcs=>
 R (.tuple #[cq,cr,cs]) r)) (
 cO #[] 3 0 [] g λct an=>
 vK (aC 1 b) λcu=>
 vK (ldV an cu) λcv=>
 cR aj 3 1 8 ct cv an λcw cx=>
 cO #[aj] 3 1 [(0,1,m)] cx λcy cz=>
 cR aj 3 1 8 cw cy cz λc0 c1=>
 vK (aC 1 b) λc2=>
 stK 1 c2 c0 c1 λeb c3=>
 vK (aC 2 b) λc4=>
 stK 1 c4 (.slice none 0 0) c3 λec v=>
 eM (λao=>
 vK (ak .i .geq m aj) λn=>
 vK (gV n true (some m)) λc5=>
 vK (gV n true (some a2)) λc6=>
 vK (gV n true (aD c6)) λc7=>
 vK (gV n true (ak .i .lss c5 c7)) λc8=>
 vK (aH n c8 (.bool false)) λc9=>
 aG c9 (
 vK (bh 1 a2 m) λda=>
 vK (ldV v da) λdb=>
 vK (aC 2 b) λdc=>
 stK 1 dc db v λed dd=>
 ao [] dd) (
 ao [] v))
 λee ef w=>
 eM (λap=>
 vK (aC 2 b) λde=>
 vK (ldV w de) λdf=>
 vK (aD df) λdg=>
 vK (ak .i .gtr dg aj) λdh=>
 aG dh (
 vK (aC 0 b) λdi=>
 stK 1 di aJ w λeg dj=>
 ap [] dj) (
 ap [] w))
 λeh ei k=>
 bL k λS=>
 qK S (λk=>aM 3 k b) λdk=>
 qK S (λk=>aM 3 k ah) λdl=>
 vK ((aR #[aj,aj,aj,aj] [(0,1,aJ),(1,1,m)]).map .agg) λdm=>
 stK 3 c dk k λej aq=>
 S aq∧(stK 3 d dl aq λek dn=>
 stK 4 e dm dn λel s=>
 vK (aM 3 s c) λdp=>
 vK (aM 3 s d) λdq=>
 vK (aM 4 s e) λdr=>
 R (.tuple #[dp,dq,dr]) s)))))
theorem QX (H:FE a0 a1 a2 h R):ag prog gb #[a0,a1,a2] h R:=fk f110 (.s .z (.s (.s .z (.s (.s (.d (.op 0 .r (.op 1 .r (.op 2 .r (.op 3 .e (.op 4 .n (.op 5 .n .nil))))))) .z) .z)) (.s (.s .z (.s (.s (.d (.op 0 .r (.op 1 .r (.op 2 .r (.op 3 .r (.op 4 .r (.op 5 .r (.op 6 .r (.op 7 .r (.op 8 .r (.op 9 .r (.op 10 .r (.op 11 .r (.op 12 .r (.op 13 .e (.op 14 .n .nil)))))))))))))))) (.s .z (.j 17042430230528 [] (.s .z (.s .z .z)) (.s (.d (.op 0 .r (.op 1 .r (.op 2 .r (.op 3 .e (.op 4 .e (.op 5 .n .nil))))))) .z)))) .z)) (.s .z (.s (.s .z (.s (.s (.d (.op 0 .r (.op 1 .r (.op 2 .r (.op 3 .e (.op 4 .n (.op 5 .n .nil))))))) .z) .z)) (.s (.s .z (.s (.s .z (.s (.d (.op 0 .r (.op 1 .r (.op 2 .r (.op 3 .e (.op 4 .n (.op 5 .n .nil))))))) .z)) .z)) (.s .z (.s .z (.j 77361807722370527890767872 [] (.s .z (.s .z .z)) (.j 2398508826115424282617053184 [] (.s .z (.s .z .z)) (.s (.d (.op 0 .r (.op 1 .r (.op 2 .r (.op 3 .r (.op 4 .e (.op 5 .n (.op 6 .n .nil)))))))) .z))))))))))) H
def LM (a0 a1 a2:Value)(h:ai)(R:Value→ai→Prop):Prop:=
 vK (ak .i .lss a2 (.int .i64 1)) λd=>
 vK (gV d false (some a2)) λg=>
 vK (gV d false (ak .i .gtr g (.int .i64 65536))) λj=>
 vK (aH d (.bool true) j) λe=>
 vK (gV e false (some a0)) λk=>
 vK (gV e false (ak .i .lss k (.int .i64 0))) λl=>
 vK (aH e (.bool true) l) λf=>
 vK (gV f false (some a0)) λm=>
 vK (gV f false (ak .i .gtr m (.int .i64 2))) λn=>
 vK (aH f (.bool true) n) λo=>
 aG o (
 R (.int .i64 0) h) (
 vK (ak .i .geq a1 (.int .i64 0)) λb=>
 vK (gV b true (some a1)) λp=>
 vK (gV b true (some a2)) λq=>
 vK (gV b true (ak .i .lss p q)) λr=>
 vK (aH b r (.bool false)) λs=>
 aG s (
 R a1 h) (
 vK (ak .i .eql a0 (.int .i64 0)) λt=>
 aG t (
 vK (ak .i .lss a1 (.int .i64 0)) λu=>
 aG u (
 R (.int .i64 0) h) (
 vK (ak .i .sub a2 (.int .i64 1)) λv=>
 R v h)) (
 vK (ak .i .mul (.int .i64 2) a2) λw=>
 vK (ak .i .rem a1 w) λx=>
 bC [x] h λa aj c y=>
 vK (ak .i .lss (ix a 0) (.int .i64 0)) λz=>
 aG z (
 vK (ak .i .mul (.int .i64 2) a2) λaa=>
 vK (ak .i .add (ix a 0) aa) λab=>
 y [ab] c) (
 vK (ak .i .lss (ix a 0) a2) λac=>
 aG ac (
 R (ix a 0) c) (
 vK (ak .i .eql a0 (.int .i64 2)) λad=>
 aG ad (
 vK (ak .i .sub (ix a 0) a2) λae=>
 R ae c) (
 vK (ak .i .mul (.int .i64 2) a2) λaf=>
 vK (ak .i .sub af (.int .i64 1)) λag=>
 vK (ak .i .sub ag (ix a 0)) λah=>
 R ah c))))))
theorem VS (H:LM a0 a1 a2 h R):ag prog If #[a0,a1,a2] h R:=fk f111 (.s .z (.s (.s .z (.s (.s .z .z) .z)) (.s (.s .z (.s (.s .z .z) .z)) (.s (.s .z (.s (.s (.s .z (.s (.s .z .z) .z)) (.s .z .z)) .z)) (.s .z (.s (.l 69269232550016 [7] (.s (.s .z (.s .z .z)) .z)) (.s (.s .z (.s (.s .z .z) .z)) (.s (.s .z (.s (.s .z .z) .z)) (.s .z .z))))))))) H
def BM (a0 a1:Value)(h:ai)(R:Value→ai→Prop):Prop:=
 aT (Value.cells a0) 120 h λc e=>
 aT (Value.cells a1) 120 e λd b=>
 vK (aC 2 c) λf=>
 vK (ldV b f) λg=>
 vK (aC 2 d) λj=>
 vK (ldV b j) λk=>
 vK (ak .i .eql g k) λa=>
 vK (gV a true (aC 3 c)) λl=>
 vK (gV a true (ldV b l)) λm=>
 vK (gV a true (aC 3 d)) λn=>
 vK (gV a true (ldV b n)) λo=>
 vK (gV a true (kA m o)) λp=>
 vK (gV a true (aC 4 c)) λq=>
 vK (gV a true (ldV b q)) λr=>
 vK (gV a true (aC 4 d)) λs=>
 vK (gV a true (ldV b s)) λt=>
 vK (gV a true (tW r t)) λu=>
 vK (gV a true (ak .i .lss p u)) λv=>
 vK (aH a v (.bool false)) λw=>
 R w b
theorem MG (H:BM a0 a1 h R):ag prog xG #[a0,a1] h R:=fk f112 (.s .z (.s .z .z)) H
def CY (a0 a1:Value)(h:ai)(R:Value→ai→Prop):Prop:=
 ag prog zD #[a0,a1] h λa b=>
 vK (gV a true (some a0)) λc=>
 vK (gV a true (some a1)) λd=>
 gK a true (λe=>ag prog zE #[c,d] b e) b λf g=>
 vK (gV a true (unV .not f)) λi=>
 vK (aH a i (.bool false)) λj=>
 R j g
theorem Pb (H:CY a0 a1 h R):ag prog sZ #[a0,a1] h R:=fk f113 (.s .z (.s .z .z)) H
def CD (a0 a1 a2:Value)(h:ai)(R:Value→ai→Prop):Prop:=
 vK (ak .i .geq a0 aJ) λc=>
 vK (gV c true (some a0)) λg=>
 vK (gV c true (ak .i .leq g (af 65536))) λj=>
 vK (aH c j (.bool false)) λd=>
 vK (gV d true (some a1)) λk=>
 vK (gV d true (ak .i .geq k aJ)) λl=>
 vK (aH d l (.bool false)) λe=>
 vK (gV e true (some a1)) λm=>
 vK (gV e true (ak .i .leq m (af 65536))) λn=>
 vK (aH e n (.bool false)) λb=>
 vK (gV b true (some a2)) λo=>
 vK (gV b true (ak .i .eql o aJ)) λp=>
 vK (gV b true (some p)) λf=>
 vK (gV f false (some a2)) λq=>
 vK (gV f false (ak .i .eql q (af 3))) λr=>
 vK (gV b true (aH f (.bool true) r)) λs=>
 vK (aH b s (.bool false)) λa=>
 vK (gV a true (some a0)) λt=>
 vK (gV a true (some a1)) λu=>
 vK (gV a true (ak .i .mul t u)) λv=>
 vK (gV a true (some a2)) λw=>
 vK (gV a true (ak .i .mul v w)) λx=>
 vK (gV a true (ak .i .leq x (af 268435456))) λy=>
 vK (aH a y (.bool false)) λz=>
 R z h
theorem OI (H:CD a0 a1 a2 h R):ag prog nG #[a0,a1,a2] h R:=fk f117 (.s .z (.s .z .z)) H
def CZ (a0:Value)(h:ai)(R:Value→ai→Prop):Prop:=
 vK (ak .i .lss a0 aj) λa=>
 vK (gV a false (some a0)) λb=>
 vK (gV a false (ldV h (.pointer (some ⟨p8,0,none⟩)))) λc=>
 vK (gV a false (aD c)) λd=>
 vK (gV a false (ak .i .geq b d)) λe=>
 vK (aH a (.bool true) e) λf=>
 aG f (
 R (.string ⟨#[]⟩) h) (
 vK (ldV h (.pointer (some ⟨p8,0,none⟩))) λg=>
 vK (bh 1 g a0) λj=>
 vK (ldV h j) λk=>
 R k h)
theorem Pc (H:CZ a0 h R):ag prog td #[a0] h R:=fk f118 (.s .z (.s (.s .z (.s (.s .z .z) .z)) (.s .z .z))) H
def LP (a0:Value)(h:ai)(R:Value→ai→Prop):Prop:=
 vK (ak .i .lss a0 aj) λa=>
 vK (gV a false (some a0)) λb=>
 vK (gV a false (ak .i .geq b (af 3))) λc=>
 vK (aH a (.bool true) c) λd=>
 aG d (
 R (.string ⟨#[]⟩) h) (
 vK (PF 3 2 (.pointer (some ⟨gh,0,none⟩)) a0) λe=>
 vK (aC 0 e) λf=>
 vK (ldV h f) λg=>
 R g h)
theorem VV (H:LP a0 h R):ag prog Bn #[a0] h R:=fk f119 (.s .z (.s (.s .z (.s (.s .z .z) .z)) (.s .z .z))) H
def BE (a0 a1 a2:Value)(h:ai)(R:Value→ai→Prop):Prop:=
 ag prog Bn #[a0] h λo d=>
 vK (ak .s .eql o (.string ⟨#[]⟩)) λa=>
 vK (gV a false (some a1)) λp=>
 gK a false (λq=>ag prog qg #[p] d q) d λr e=>
 vK (gV a false (unV .not r)) λt=>
 vK (aH a (.bool true) t) λb=>
 vK (gV b false (some a2)) λu=>
 gK b false (λv=>ag prog qg #[u] e v) e λw f=>
 vK (gV b false (unV .not w)) λx=>
 vK (aH b (.bool true) x) λy=>
 aG y (
 R (.tuple #[(.pointer none),(af 6)]) f) (
 vK ((aR #[aj,(.slice none 0 0),aj,aj] [(0,1,a1)]).map .agg) λz=>
 aT (Value.cells z) 224 f λg aa=>
 bC [aj] aa λc ap j ab=>
 vK (ak .i .lss (ix c 0) a2) λac=>
 aG ac (
 ag prog EV #[a0,a1,a2,(ix c 0)] j λk ad=>
 vK (aP k 0) λae=>
 vK (aP k 1) λah=>
 ag prog kf #[ah] ad λl m=>
 vK (aP l 0) λal=>
 vK (aP l 1) λn=>
 vK (ak .i .neq n aj) λam=>
 aG am (
 R (.tuple #[(.pointer none),n]) m) (
 ag prog lL #[g,ae,al] m λaq an=>
 vK (ak .i .add (ix c 0) aJ) λao=>
 ab [ao] an)) (
 R (.tuple #[g,aj]) j))
theorem My (H:BE a0 a1 a2 h R):ag prog mm #[a0,a1,a2] h R:=fk f120 (.s .z (.s (.s .z (.s (.s .z .z) .z)) (.s .z (.s (.s .z (.l 36028794871496384 [31] (.s .z (.s (.s .z .z) (.s (.s .z (.s .z (.s .z (.s (.s .z (.s (.s .z .z) .z)) .z)))) .z))))) (.s .z .z))))) H
def Ga (a0:Value)(h:ai)(R:Value→ai→Prop):Prop:=
 aT (Value.cells a0) 31 h λb a=>
 vK (aC 0 b) λn=>
 vK (ldV a n) λd=>
 vK (ak .i .eql d aj) λo=>
 aG o (
 vK (aC 2 b) λp=>
 vK (ldV a p) λq=>
 ag prog nR #[q] a λe r=>
 vK (aP e 0) λf=>
 vK (aP e 1) λs=>
 R (.tuple #[f,f,s]) r) (
 vK (ak .i .eql d aJ) λt=>
 aG t (
 vK (aC 3 b) λu=>
 vK (ldV a u) λv=>
 ag prog DU #[v] a λg w=>
 vK (aP g 0) λj=>
 vK (aP g 1) λx=>
 R (.tuple #[j,j,x]) w) (
 vK (aC 4 b) λy=>
 vK (ldV a y) λz=>
 ag prog ul #[z] a λk c=>
 vK (aP k 0) λaa=>
 vK (aP k 1) λl=>
 vK (ak .i .neq l aj) λab=>
 aG ab (
 R (.tuple #[(.slice none 0 0),(.slice none 0 0),l]) c) (
 vK (aC 5 b) λac=>
 vK (ldV c ac) λad=>
 ag prog ul #[ad] c λm ae=>
 vK (aP m 0) λaf=>
 vK (aP m 1) λah=>
 R (.tuple #[aa,af,ah]) ae)))
theorem Ru (H:Ga a0 h R):ag prog Bq #[a0] h R:=fk f121 (.s .z (.s (.s .z (.s .z (.s (.s .z (.s .z .z)) (.s .z (.s (.s .z (.s .z .z)) .z))))) (.s (.s .z (.s .z (.s (.s .z .z) .z))) (.s .z (.s .z .z))))) H
def BF (a0 a1:Value)(h:ai)(R:Value→ai→Prop):Prop:=
 ag prog qg #[a1] h λk a=>
 vK (unV .not k) λl=>
 aG l (
 R (.tuple #[(.pointer none),(af 6)]) a) (
 vK (aD a0) λm=>
 vK (ak .i .rem m (af 2)) λn=>
 vK (ak .i .eql n aj) λo=>
 aG o (
 R (.tuple #[(.pointer none),(af 7)]) a) (
 ag prog kf #[a0] a λc d=>
 vK (aP c 0) λe=>
 vK (aP c 1) λf=>
 vK (ak .i .neq f aj) λp=>
 aG p (
 R (.tuple #[(.pointer none),f]) d) (
 vK ((aR #[aj,(.slice none 0 0),aj,aj] [(0,1,a1)]).map .agg) λq=>
 aT (Value.cells q) 224 d λg r=>
 bC [aj] r λb z j s=>
 vK (ak .i .lss (ix b 0) a1) λt=>
 aG t (
 vK (aD e) λu=>
 vK (ak .i .quo u (af 2)) λv=>
 vK (ak .i .sub (ix b 0) v) λw=>
 ag prog lL #[g,w,e] j λaa x=>
 vK (ak .i .add (ix b 0) aJ) λy=>
 s [y] x) (
 R (.tuple #[g,aj]) j))))
theorem Mz (H:BF a0 a1 h R):ag prog qh #[a0,a1] h R:=fk f122 (.s .z (.s (.s .z (.s (.s .z .z) (.s .z (.s (.s .z .z) .z)))) (.s .z (.s (.s .z (.s (.s .z .z) .z)) (.s .z (.s (.s .z (.l 8793945539072 [31] (.s .z (.s (.s .z .z) (.s (.s .z .z) .z))))) (.s .z .z))))))) H
def CM (h:ai)(R:Value→ai→Prop):Prop:=
 vK ((aR #[aj,aj,aj,aj,(.slice none 0 0),(.slice none 0 0),aj,aj,aj] [(0,1,(af 3)),(7,1,(af 5)),(8,1,(af 3)),(6,1,aj)]).map .agg) λq=>
 ag prog oZ #[q,(af 9),(af 9)] h λf r=>
 vK (aP f 0) λs=>
 vK (aP f 1) λt=>
 aT #[(.pointer none),(.pointer none),aj] 81 r λg u=>
 stK 3 g s u λay v=>
 ag prog sX #[] v λw b=>
 vK (unV .not w) λc=>
 vK (gV c false (some t)) λx=>
 vK (gV c false (ak .i .neq x aj)) λy=>
 vK (aH c (.bool true) y) λz=>
 aG z (
 R (.bool false) b) (
 vK (aM 3 b g) λaa=>
 ag prog Bp #[aa,(af 2),(af 2)] b λj k=>
 vK (aP j 0) λd=>
 vK (aP j 1) λab=>
 vK (ak .i .neq ab aj) λe=>
 vK (gV e false (some d)) λac=>
 vK (gV e false (ak .p .eql ac (.pointer none))) λad=>
 vK (aH e (.bool true) ad) λae=>
 aG ae (
 R (.bool false) k) (
 ag prog gC #[d,(af 5)] k λl ah=>
 vK (aP l 0) λal=>
 vK (aP l 1) λam=>
 aT #[aj,aj,aj,aj,aj,aj,aj,aj,aj,aj] 116 ah λm an=>
 stK 10 m al an λaz ao=>
 ag prog eO #[d] ao λap n=>
 vK (ak .i .eql ap (af 6)) λo=>
 vK (gV o true (some am)) λaq=>
 vK (aH o aq (.bool false)) λa=>
 vK (gV a true (aC 1 m)) λar=>
 vK (gV a true (aM 4 n ar)) λau=>
 vK (gV a true ((aR #[aj,aj,aj,aj] [(0,1,(af 4)),(1,1,(af 2)),(2,1,aJ),(3,1,aJ)]).map .agg)) λav=>
 vK (gV a true (ak (.st [(0,1,.i),(1,1,.i),(2,1,.i),(3,1,.i)]) .eql au av)) λaw=>
 vK (aH a aw (.bool false)) λax=>
 R ax n))
theorem OS (H:CM h R):ag prog zo #[] h R:=fk f123 (.s .z (.s .z (.s (.s .z (.s (.s .z .z) .z)) (.s .z (.s (.s .z (.s (.s .z .z) .z)) (.s .z (.s .z .z))))))) H
def CL (h:ai)(R:Value→ai→Prop):Prop:=
 cO #[(.int .u16 0)] 22 1 [(0,1,(.int .u16 7))] h λs t=>
 ag prog um #[aJ,aJ,aJ,(af 255),s] t λj u=>
 vK (aP j 0) λk=>
 vK (aP j 1) λv=>
 vK ((aR #[aj,aj,aj,aj,(.slice none 0 0),(.slice none 0 0),aj,aj,aj] [(0,1,aJ),(3,1,(af 2))]).map .agg) λw=>
 ag prog oZ #[w,aJ,aJ] u λl x=>
 vK (aP l 0) λy=>
 vK (aP l 1) λz=>
 aT #[(.pointer none),(.pointer none),aj] 81 x λm aa=>
 stK 3 m y aa λa4 ab=>
 ag prog zq #[] ab λac n=>
 vK (unV .not ac) λb=>
 gK b false (λad=>ag prog sX #[] n ad) n λae c=>
 vK (gV b false (unV .not ae)) λah=>
 vK (aH b (.bool true) ah) λd=>
 vK (gV d false (some v)) λal=>
 vK (gV d false (ak .i .neq al aj)) λam=>
 vK (aH d (.bool true) am) λe=>
 vK (gV e false (some z)) λan=>
 vK (gV e false (ak .i .neq an aj)) λao=>
 vK (aH e (.bool true) ao) λf=>
 vK (gV f false (some k)) λap=>
 vK (gV f false (ak .p .eql ap (.pointer none))) λaq=>
 vK (aH f (.bool true) aq) λar=>
 aG ar (
 R (.bool false) c) (
 vK (aM 3 c m) λau=>
 ag prog xI #[k,au] c λo q=>
 vK (aP o 0) λr=>
 vK (aP o 1) λav=>
 vK (ak .i .eql av aj) λg=>
 vK (gV g true (some r)) λaw=>
 vK (gV g true (ak .p .neq aw (.pointer none))) λax=>
 vK (aH g ax (.bool false)) λa=>
 vK (gV a true (some r)) λay=>
 gK a true (λaz=>ag prog gY #[ay,aj,aj,aj] q az) q λa0 a1=>
 vK (gV a true (ak .i .eql a0 (.int .u16 7))) λa2=>
 vK (aH a a2 (.bool false)) λa3=>
 R a3 a1)
theorem OR (H:CL h R):ag prog zk #[] h R:=fk f124 (.s .z (.s .z (.s .z (.s (.s .z (.s (.s .z .z) .z)) (.s .z (.s .z .z)))))) H
def Ft (a0 a1 a2 a3:Value)(h:ai)(R:Value→ai→Prop):Prop:=
 aT (Value.cells a2) 81 h λb k=>
 aT (Value.cells a3) 116 k λc e=>
 vK (aM 3 e b) λl=>
 ag prog xA #[a0,a1,l] e λm d=>
 vK (unV .not m) λn=>
 aG n (
 R (.tuple #[(.pointer none),(af 6)]) d) (
 vK (aM 3 d b) λo=>
 vK (aC 1 c) λp=>
 vK (aM 4 d p) λq=>
 ag prog nP #[o,q] d λr a=>
 vK (unV .not r) λs=>
 aG s (
 R (.tuple #[(.pointer none),(af 9)]) a) (
 bL a λS=>
 qK S (λa=>aM 3 a b) λt=>
 qK S (λa=>aM 10 a c) λu=>
 vK (aC 1 b) λv=>
 qK S (λa=>ldV a v) λw=>
 vK (aC 1 c) λx=>
 vK (aC 2 x) λy=>
 qK S (λa=>ldV a y) λz=>
 vK (aC 1 c) λaa=>
 vK (aC 1 aa) λab=>
 qK S (λa=>ldV a ab) λac=>
 ag prog gw #[w] a λad f=>
 S f∧(ag prog bu #[a0] f λae g=>
 S g∧(vK (ak .i .mul z ae) λah=>
 ag prog Ic #[ad,ah] g λal j=>
 S j∧(vK ((aR EW [(0,1,a0),(1,1,a1),(2,3,t),(5,10,u),(15,1,al),(16,1,ac)]).map .agg) λam=>
 aT (Value.cells am) 246 j λan ao=>
 R (.tuple #[an,aj]) ao)))))
theorem QM (H:Ft a0 a1 a2 a3 h R):ag prog qa #[a0,a1,a2,a3] h R:=fk f125 (.s .z (.s (.s .z (.s (.s .z .z) (.s .z (.s (.s .z .z) .z)))) (.s (.d (.op 0 .r (.op 1 .r (.op 2 .r (.op 3 .r (.op 4 .r (.op 5 .r (.op 7 .r (.op 8 .r (.op 9 .r (.op 10 .r (.op 14 .r (.op 15 .r (.op 16 .r (.op 6 .e (.op 11 .e (.op 12 .r (.op 13 .e (.op 17 .r (.op 18 .n (.op 19 .r (.op 20 .r .nil)))))))))))))))))))))) .z))) H
def wF (a0:Value)(h:ai)(R:Value→ai→Prop):Prop:=
 aT #[aj,aj] 146 h λa l=>
 ag prog jn #[a0] l λm n=>
 aT #[aj,aj] 146 n λb o=>
 stK 2 b m o λaa c=>
 vK (aC 0 b) λp=>
 vK (ldV c p) λd=>
 vK (ak .i .eql d aJ) λq=>
 aG q (
 vK (aC 1 b) λr=>
 vK (ldV c r) λs=>
 ag prog mV #[a0,s] c λab e=>
 vK (aM 2 e b) λt=>
 stK 2 a t e λac f=>
 vK (aM 2 f a) λu=>
 R u f) (
 vK (ak .i .eql d (af 2)) λv=>
 aG v (
 ag prog oH #[a0] c λad g=>
 vK (aM 2 g b) λw=>
 stK 2 a w g λae j=>
 vK (aM 2 j a) λx=>
 R x j) (
 vK (aM 2 c b) λy=>
 stK 2 a y c λah k=>
 vK (aM 2 k a) λz=>
 R z k))
theorem GM (H:wF a0 h R):ag prog gX #[a0] h R:=fk f126 (.s .z (.s .z (.s (.s .z (.s .z (.s .z (.s .z (.s .z .z))))) (.s .z .z)))) H
def oO (a0:Value)(h:ai)(R:Value→ai→Prop):Prop:=
 vK (aX a0) λd=>
 vK (aC 0 d) λe=>
 stK 1 e aJ h λaa b=>
 vK (aX a0) λf=>
 vK (aC 2 f) λg=>
 vK (ldV b g) λj=>
 vK (ak .p .eql j (.pointer none)) λa=>
 vK (gV a false (some a0)) λk=>
 vK (gV a false (aX k)) λl=>
 vK (gV a false (aC 2 l)) λm=>
 vK (gV a false (ldV b m)) λn=>
 gK a false (λo=>ag prog jn #[n] b o) b λq c=>
 vK (gV a false (rh false 1 0 q)) λr=>
 vK (gV a false (ak .i .eql r aj)) λs=>
 vK (aH a (.bool true) s) λt=>
 aG t (
 vK (aX a0) λu=>
 vK (aC 0 u) λv=>
 stK 1 v aj c λab w=>
 vK (aX a0) λx=>
 vK (aC 2 x) λy=>
 stK 1 y (.pointer none) w λac z=>
 R (.tuple #[]) z) (
 R (.tuple #[]) c)
theorem z7 (H:oO a0 h R):ag prog dY #[a0] h R:=fk f127 (.s .z (.s .z (.s .z .z))) H
def pE (a0:Value)(h:ai)(R:Value→ai→Prop):Prop:=
 vK (aX a0) λa=>
 vK (aC 1 a) λb=>
 vK (ldV h b) λc=>
 vK (aD c) λd=>
 vK (ak .i .gtr d aj) λe=>
 aG e (
 vK (aX a0) λf=>
 vK (aC 1 f) λg=>
 vK (ldV h g) λj=>
 vK (bh 1 j aj) λk=>
 vK (ldV h k) λl=>
 vK (aX a0) λm=>
 vK (aC 1 m) λn=>
 vK (ldV h n) λo=>
 ag prog mo #[o,aj,aJ] h λp q=>
 vK (aX a0) λr=>
 vK (aC 1 r) λs=>
 stK 1 s p q λx t=>
 R (.tuple #[l,aj]) t) (
 vK (aX a0) λu=>
 vK (aC 2 u) λv=>
 vK (ldV h v) λw=>
 aG w (
 R (.tuple #[aj,(af 2)]) h) (
 R (.tuple #[aj,aJ]) h))
theorem AD (H:pE a0 h R):ag prog ll #[a0] h R:=fk f128 (.s .z (.s (.s .z (.s (.s .z (.s .z (.s .z .z))) (.s .z (.s (.s .z .z) .z)))) (.s .z .z))) H
def qS (a0 a1 a2:Value)(h:ai)(R:Value→ai→Prop):Prop:=
 aT #[aj,aj,aj,aj] 148 h λb d=>
 vK (aX a0) λk=>
 vK (aC 1 k) λl=>
 vK (ldV d l) λm=>
 cO #[aj] 3 1 [(0,1,a1)] d λn o=>
 cR aj 3 1 8 m n o λq r=>
 vK (aX a0) λs=>
 vK (aC 1 s) λt=>
 stK 1 t q r λa4 e=>
 eM (λg=>
 vK (ak .f .neq a2 .nilFunc) λu=>
 aG u (
 clK prog a2 #[a1] e λv w=>
 vK (aX a0) λx=>
 vK (aC 2 x) λy=>
 stK 1 y v w λa5 z=>
 g [] z) (
 g [] e))
 λa6 a7 a=>
 vK (aX a0) λaa=>
 vK (aC 2 aa) λab=>
 vK (ldV a ab) λac=>
 vK (ak .p .neq ac (.pointer none)) λad=>
 aG ad (
 bL a λS=>
 vK (aX a0) λae=>
 vK (aC 3 ae) λaf=>
 qK S (λa=>ldV a af) λah=>
 vK (aX a0) λal=>
 vK (aC 2 al) λam=>
 qK S (λa=>ldV a am) λan=>
 ag prog kI #[an] a λao c=>
 S c∧(qK S (λc=>kA ah ao) λap=>
 vK (aX a0) λaq=>
 vK (aC 3 aq) λar=>
 stK 1 ar ap c λa8 au=>
 ag prog dY #[a0] au λa9 av=>
 vK ((aR #[aj,aj,aj,aj] [(0,1,aJ),(1,1,a1)]).map .agg) λaw=>
 stK 4 b aw av λba i=>
 vK (aM 4 i b) λax=>
 R ax i)) (
 ag prog dY #[a0] a λbb ay=>
 vK ((aR #[aj,aj,aj,aj] [(0,1,aJ),(1,1,a1)]).map .agg) λaz=>
 stK 4 b az ay λbc j=>
 vK (aM 4 j b) λa3=>
 R a3 j)
theorem B5 (H:qS a0 a1 a2 h R):ag prog ml #[a0,a1,a2] h R:=fk f129 (.s .z (.s .z (.j 33423360 [] (.s .z (.s .z .z)) (.s (.s .z (.s (.d (.op 0 .r (.op 1 .r (.op 2 .r (.op 3 .r (.op 4 .r (.op 5 .r (.op 6 .r (.op 7 .r (.op 8 .r (.op 9 .e (.op 10 .r (.op 11 .r (.op 12 .r (.op 13 .n .nil))))))))))))))) .z)) (.s .z (.s .z .z)))))) H
def mK (a0:Value)(h:ai)(R:Value→ai→Prop):Prop:=
 vK (aX a0) λb=>
 vK (aC 2 b) λc=>
 vK (ldV h c) λa=>
 vK (gV a false (some a0)) λd=>
 vK (gV a false (aX d)) λe=>
 vK (gV a false (aC 1 e)) λf=>
 vK (gV a false (ldV h f)) λg=>
 vK (gV a false (aD g)) λj=>
 vK (gV a false (ak .i .gtr j aj)) λk=>
 vK (aH a (.bool true) k) λl=>
 R l h
theorem xN (H:mK a0 h R):ag prog jH #[a0] h R:=fk f130 (.s .z (.s .z .z)) H
def uR (a0:Value)(h:ai)(R:Value→ai→Prop):Prop:=
 vK (aX a0) λa=>
 vK (aC 0 a) λb=>
 vK (ldV h b) λc=>
 R c h
theorem Ff (H:uR a0 h R):ag prog gx #[a0] h R:=fk f131 (.s .z (.s .z .z)) H
def IM (a0:Value)(h:ai)(R:Value→ai→Prop):Prop:=
 vK (ak .i .geq a0 aJ) λa=>
 vK (gV a true (some a0)) λb=>
 vK (gV a true (ak .i .leq b (af 4096))) λc=>
 vK (aH a c (.bool false)) λd=>
 R d h
theorem TL (H:IM a0 h R):ag prog yI #[a0] h R:=fk f132 (.s .z (.s .z .z)) H
def tH (a0 a1:Value)(h:ai)(R:Value→ai→Prop):Prop:=
 aT (Value.cells a1) 120 h λb c=>
 vK (aM 6 c b) λg=>
 ag prog Br #[g] c λi a=>
 vK (unV .not i) λj=>
 aG j (
 R (.bool false) a) (
 bL a λS=>
 vK (aX a0) λk=>
 vK (aC 0 k) λl=>
 qK S (λa=>ldV a l) λm=>
 qK S (λa=>aM 6 a b) λn=>
 ag prog qH #[n] a λo d=>
 S d∧(cO #[aj,(.slice none 0 0),aj,aj,aj,(.bool false)] 120 1 [(0,6,o)] d λp e=>
 S e∧(cR (.agg #[aj,.slice none 0 0,aj,aj,aj,.bool false]) 120 6 64 m p e λq f=>
 S f∧(vK (aX a0) λr=>
 vK (aC 0 r) λs=>
 stK 1 s q f λu t=>
 R (.bool true) t))))
theorem Dm (H:tH a0 a1 h R):ag prog ng #[a0,a1] h R:=fk f133 (.s .z (.s (.s .z (.s (.s .z .z) .z)) (.s (.d (.op 0 .r (.op 1 .r (.op 2 .r (.op 3 .r (.op 4 .r (.op 5 .r (.op 6 .e (.op 7 .e (.op 8 .e (.op 9 .r (.op 10 .r (.op 11 .n .nil))))))))))))) (.s .z .z)))) H
def wZ (a0 a1:Value)(h:ai)(R:Value→ai→Prop):Prop:=
 ag prog ki #[a0,a1] h λb a=>
 vK (unV .not b) λc=>
 aG c (
 R (.slice none 0 0) a) (
 vK (aX a0) λd=>
 vK (aC 0 d) λe=>
 vK (ldV a e) λf=>
 vK (bh 1 f a1) λg=>
 vK (ldV a g) λi=>
 ag prog dZ #[i] a λj k=>
 R j k)
theorem Hb (H:wZ a0 a1 h R):ag prog lQ #[a0,a1] h R:=fk f134 (.s .z (.s (.s .z (.s (.s .z .z) .z)) (.s .z .z))) H
def jg (a0:Value)(h:ai)(R:Value→ai→Prop):Prop:=
 vK (ak .sl .eql a0 (.slice none 0 0)) λa=>
 aG a (
 R (.slice none 0 0) h) (
 cO #[] 22 0 [] h λb c=>
 cR (.int .u16 0) 22 1 2 b a0 c λd e=>
 R d e)
theorem pL (H:jg a0 h R):ag prog dN #[a0] h R:=fk f135 (.s .z (.s (.s .z (.s (.s .z .z) .z)) (.s .z .z))) H
def NN (a0 a1 a2:Value)(h:ai)(R:Value→ai→Prop):Prop:=
 aT (Value.cells a0) 31 h λb a=>
 vK (aC 0 b) λc=>
 vK (ldV a c) λd=>
 vK (ak .i .eql d (af 3)) λe=>
 aG e (
 vK (aC 7 b) λf=>
 vK (ldV a f) λg=>
 vK (aC 8 b) λj=>
 vK (ldV a j) λk=>
 R (.tuple #[g,k]) a) (
 R (.tuple #[a1,a2]) a)
theorem XW (H:NN a0 a1 a2 h R):ag prog LC #[a0,a1,a2] h R:=fk f136 (.s .z (.s (.s .z (.s (.s .z .z) .z)) (.s .z .z))) H
def FM (a0 a1 a2:Value)(h:ai)(R:Value→ai→Prop):Prop:=
 vK (ak .i .lss a0 aJ) λa=>
 vK (gV a false (some a0)) λe=>
 vK (gV a false (ak .i .gtr e (af 65536))) λf=>
 vK (aH a (.bool true) f) λb=>
 vK (gV b false (some a1)) λg=>
 vK (gV b false (ak .i .lss g aJ)) λj=>
 vK (aH b (.bool true) j) λc=>
 vK (gV c false (some a1)) λk=>
 vK (gV c false (ak .i .gtr k (af 65536))) λl=>
 vK (aH c (.bool true) l) λm=>
 aG m (
 R (.bool false) h) (
 vK (ak .i .neq a2 aJ) λd=>
 vK (gV d true (some a2)) λn=>
 vK (gV d true (ak .i .neq n (af 3))) λo=>
 vK (aH d o (.bool false)) λp=>
 aG p (
 R (.bool false) h) (
 vK (ak .i .mul a0 a1) λq=>
 vK (ak .i .quo (af 268435456) a2) λr=>
 vK (ak .i .leq q r) λs=>
 R s h))
theorem Rb (H:FM a0 a1 a2 h R):ag prog vW #[a0,a1,a2] h R:=fk f137 (.s .z (.s (.s .z (.s (.s .z .z) .z)) (.s (.s .z (.s (.s .z .z) .z)) (.s .z .z)))) H
def FL (a0 a1 a2:Value)(h:ai)(R:Value→ai→Prop):Prop:=
 aT (Value.cells a0) 232 h λa bd=>
 aT #[(.slice none 0 0),(.slice none 0 0),aj,aj,aj] 38 bd λb e=>
 vK (aC 0 a) λbe=>
 vK (ldV e be) λbf=>
 vK (ak .i .lss bf aj) λk=>
 vK (gV k false (aC 0 a)) λbg=>
 vK (gV k false (ldV e bg)) λbh=>
 vK (gV k false (ak .i .gtr bh (af 3))) λbi=>
 vK (aH k (.bool true) bi) λl=>
 vK (gV l false (aC 1 a)) λbj=>
 vK (gV l false (ldV e bj)) λbk=>
 vK (gV l false (ak .i .lss bk aj)) λbl=>
 vK (aH l (.bool true) bl) λm=>
 vK (gV m false (aC 1 a)) λbm=>
 vK (gV m false (ldV e bm)) λbn=>
 vK (gV m false (ak .i .gtr bn (af 2))) λbo=>
 vK (aH m (.bool true) bo) λn=>
 vK (gV n false (some a1)) λbp=>
 gK n false (λbq=>ag prog mE #[bp] e bq) e λbr y=>
 vK (gV n false (unV .not br)) λbs=>
 vK (aH n (.bool true) bs) λo=>
 vK (gV o false (some a2)) λbt=>
 gK o false (λbu=>ag prog mE #[bt] y bu) y λbv t=>
 vK (gV o false (unV .not bv)) λbw=>
 vK (aH o (.bool true) bw) λbx=>
 aG bx (
 vK ((aR #[(.slice none 0 0),(.slice none 0 0),aj,aj,aj] []).map .agg) λbz=>
 stK 5 b bz t λeb z=>
 vK (aM 5 z b) λb0=>
 R (.tuple #[b0,(af 6)]) z) (
 vK (aC 1 a) λb1=>
 vK (ldV t b1) λb2=>
 vK ((aR #[(.slice none 0 0),(.slice none 0 0),aj,aj,aj] [(2,1,a1),(3,1,a2),(4,1,b2)]).map .agg) λb3=>
 aT #[(.slice none 0 0),(.slice none 0 0),aj,aj,aj] 38 t λd b4=>
 stK 5 d b3 b4 λec c=>
 vK (aC 0 a) λb5=>
 vK (ldV c b5) λb6=>
 vK (ak .i .eql b6 (af 3)) λb7=>
 aG b7 (
 vK (aC 7 a) λb8=>
 vK (ldV c b8) λb9=>
 ag prog mE #[b9] c λca u=>
 vK (unV .not ca) λg=>
 vK (gV g false (aC 8 a)) λcb=>
 vK (gV g false (ldV u cb)) λcc=>
 gK g false (λcd=>ag prog mE #[cc] u cd) u λce f=>
 vK (gV g false (unV .not ce)) λcf=>
 vK (aH g (.bool true) cf) λp=>
 vK (gV p false (aC 6 a)) λcg=>
 vK (gV p false (ldV f cg)) λch=>
 vK (gV p false (ak .i .lss ch aj)) λci=>
 vK (aH p (.bool true) ci) λq=>
 vK (gV q false (aC 6 a)) λcj=>
 vK (gV q false (ldV f cj)) λck=>
 vK (gV q false (ak .i .gtr ck (af 2))) λcl=>
 vK (aH q (.bool true) cl) λcm=>
 aG cm (
 vK ((aR #[(.slice none 0 0),(.slice none 0 0),aj,aj,aj] []).map .agg) λcn=>
 stK 5 b cn f λed aa=>
 vK (aM 5 aa b) λco=>
 R (.tuple #[co,(af 6)]) aa) (
 vK (aC 6 a) λcp=>
 vK (ldV f cp) λcq=>
 vK (aC 7 a) λcr=>
 vK (ldV f cr) λcs=>
 ag prog qA #[cq,a1,cs] f λab ct=>
 vK (aP ab 0) λcu=>
 vK (aP ab 1) λac=>
 vK (aC 0 d) λcv=>
 stK 1 cv cu ct λee r=>
 vK (ak .i .neq ac aj) λcw=>
 aG cw (
 vK ((aR #[(.slice none 0 0),(.slice none 0 0),aj,aj,aj] []).map .agg) λcx=>
 stK 5 b cx r λef ad=>
 vK (aM 5 ad b) λcy=>
 R (.tuple #[cy,ac]) ad) (
 vK (aC 6 a) λcz=>
 vK (ldV r cz) λc0=>
 vK (aC 8 a) λc1=>
 vK (ldV r c1) λc2=>
 ag prog qA #[c0,a2,c2] r λae c3=>
 vK (aP ae 0) λc4=>
 vK (aP ae 1) λah=>
 vK (aC 1 d) λc5=>
 stK 1 c5 c4 c3 λeg v=>
 vK (ak .i .neq ah aj) λc6=>
 aG c6 (
 vK ((aR #[(.slice none 0 0),(.slice none 0 0),aj,aj,aj] []).map .agg) λc7=>
 stK 5 b c7 v λeh al=>
 vK (aM 5 al b) λc8=>
 R (.tuple #[c8,ah]) al) (
 vK (aM 5 v d) λc9=>
 stK 5 b c9 v λei am=>
 vK (aM 5 am b) λda=>
 R (.tuple #[da,aj]) am)))) (
 vK (aC 0 a) λdb=>
 vK (ldV c db) λw=>
 eM (λj=>
 vK (ak .i .eql w aj) λdc=>
 aG dc (
 vK (aC 2 a) λdd=>
 vK (ldV c dd) λde=>
 ag prog rY #[de] c λan df=>
 vK (aP an 0) λao=>
 vK (aP an 1) λdg=>
 j [dg,ao,ao] df) (
 vK (ak .i .eql w aJ) λdh=>
 aG dh (
 vK (aC 3 a) λdi=>
 vK (ldV c di) λdj=>
 ag prog Bh #[dj] c λap dk=>
 vK (aP ap 0) λaq=>
 vK (aP ap 1) λdl=>
 j [dl,aq,aq] dk) (
 vK (ak .i .eql w (af 2)) λdm=>
 aG dm (
 vK (aC 4 a) λdn=>
 vK (ldV c dn) λdp=>
 ag prog qC #[dp] c λar au=>
 vK (aP ar 0) λav=>
 vK (aP ar 1) λaw=>
 vK (aC 5 a) λdq=>
 vK (ldV au dq) λdr=>
 ag prog qC #[dr] au λax ay=>
 vK (aP ax 0) λaz=>
 vK (aP ax 1) λds=>
 vK (ak .i .eql aw aj) λdt=>
 aG dt (
 j [ds,av,az] ay) (
 j [aw,av,az] ay)) (
 j [aj,(.slice none 0 0),(.slice none 0 0)] c))))
 λs ej a3=>
 vK (ak .i .neq (ix s 0) aj) λdu=>
 aG du (
 vK ((aR #[(.slice none 0 0),(.slice none 0 0),aj,aj,aj] []).map .agg) λdv=>
 stK 5 b dv a3 λek a4=>
 vK (aM 5 a4 b) λdw=>
 R (.tuple #[dw,(ix s 0)]) a4) (
 ag prog qB #[(ix s 1),a1] a3 λa5 dx=>
 vK (aP a5 0) λdy=>
 vK (aP a5 1) λa6=>
 vK (aC 0 d) λdz=>
 stK 1 dz dy dx λel a7=>
 vK (ak .i .neq a6 aj) λd0=>
 aG d0 (
 vK ((aR #[(.slice none 0 0),(.slice none 0 0),aj,aj,aj] []).map .agg) λd1=>
 stK 5 b d1 a7 λem a8=>
 vK (aM 5 a8 b) λd2=>
 R (.tuple #[d2,a6]) a8) (
 ag prog qB #[(ix s 2),a2] a7 λa9 d3=>
 vK (aP a9 0) λd4=>
 vK (aP a9 1) λba=>
 vK (aC 1 d) λd5=>
 stK 1 d5 d4 d3 λen x=>
 vK (ak .i .neq ba aj) λd6=>
 aG d6 (
 vK ((aR #[(.slice none 0 0),(.slice none 0 0),aj,aj,aj] []).map .agg) λd7=>
 stK 5 b d7 x λeo bb=>
 vK (aM 5 bb b) λd8=>
 R (.tuple #[d8,ba]) bb) (
 vK (aM 5 x d) λd9=>
 stK 5 b d9 x λep bc=>
 vK (aM 5 bc b) λea=>
 R (.tuple #[ea,aj]) bc)))))
theorem Ra (H:FL a0 a1 a2 h R):ag prog Bg #[a0,a1,a2] h R:=fk f138 (.s .z (.s (.s .z (.s (.s .z .z) .z)) (.s .z (.s .z (.s (.s .z (.s (.s (.s .z (.s (.s .z .z) .z)) (.s .z (.s (.s .z (.s (.s .z .z) .z)) (.s .z (.s (.s .z (.s (.s .z .z) .z)) (.s .z .z)))))) .z)) (.s .z (.s .z (.s (.s .z (.m 174224571858449890892334881399078511451648 [9,10,11] (.s .z (.s (.s .z .z) (.s .z (.s (.s .z .z) (.s .z (.s (.s .z (.s .z (.s .z (.s .z (.s .z .z))))) .z)))))))) (.s (.s .z (.s (.s .z .z) .z)) (.s .z (.s (.s .z (.s (.s .z .z) .z)) (.s .z (.s (.s .z (.s (.s .z .z) .z)) (.s .z .z)))))))))))))) H
def FK (a0 a1 a2:Value)(h:ai)(R:Value→ai→Prop):Prop:=
 aT (Value.cells a0) 232 h λb a=>
 vK (aC 0 b) λc=>
 vK (ldV a c) λd=>
 vK (ak .i .eql d (af 3)) λe=>
 aG e (
 vK (aC 7 b) λf=>
 vK (ldV a f) λg=>
 vK (aC 8 b) λj=>
 vK (ldV a j) λk=>
 R (.tuple #[g,k]) a) (
 R (.tuple #[a1,a2]) a)
theorem Q9 (H:FK a0 a1 a2 h R):ag prog Bf #[a0,a1,a2] h R:=fk f139 (.s .z (.s (.s .z (.s (.s .z .z) .z)) (.s .z .z))) H
def IQ (a0:Value)(h:ai)(R:Value→ai→Prop):Prop:=
 aT (Value.cells a0) 31 h λb e=>
 aT #[aj,aj,aj,aj,(.slice none 0 0),(.slice none 0 0),aj,aj,aj] 232 e λc a=>
 vK (aC 0 b) λf=>
 vK (ldV a f) λg=>
 vK (aC 1 b) λi=>
 vK (ldV a i) λj=>
 vK (aC 2 b) λk=>
 vK (ldV a k) λl=>
 vK (aC 3 b) λm=>
 vK (ldV a m) λn=>
 vK (aC 4 b) λo=>
 vK (ldV a o) λp=>
 vK (aC 5 b) λq=>
 vK (ldV a q) λr=>
 vK (aC 6 b) λs=>
 vK (ldV a s) λt=>
 vK (aC 7 b) λu=>
 vK (ldV a u) λv=>
 vK (aC 8 b) λw=>
 vK (ldV a w) λx=>
 vK ((aR #[aj,aj,aj,aj,(.slice none 0 0),(.slice none 0 0),aj,aj,aj] [(0,1,g),(1,1,j),(2,1,l),(3,1,n),(4,1,p),(5,1,r),(6,1,t),(7,1,v),(8,1,x)]).map .agg) λy=>
 stK 9 c y a λaa d=>
 vK (aM 9 d c) λz=>
 R z d
theorem TO (H:IQ a0 h R):ag prog Ed #[a0] h R:=fk f140 (.s .z (.s .z .z)) H
def FI (a0:Value)(h:ai)(R:Value→ai→Prop):Prop:=
 vK (aD a0) λf=>
 bC [aj,aj] h λa v c e=>
 vK (ak .i .lss (ix a 1) f) λg=>
 aG g (
 vK (bh 2 a0 (ix a 1)) λj=>
 vK (aM 2 c j) λk=>
 aT #[aj,(.slice none 0 0)] 240 c λd l=>
 stK 2 d k l λw b=>
 vK (aC 1 d) λm=>
 vK (ldV b m) λn=>
 vK (aD n) λo=>
 vK (ak .i .gtr o (ix a 0)) λp=>
 aG p (
 vK (aC 1 d) λq=>
 vK (ldV b q) λr=>
 vK (aD r) λs=>
 vK (ak .i .add (ix a 1) aJ) λt=>
 e [s,t] b) (
 vK (ak .i .add (ix a 1) aJ) λu=>
 e [(ix a 0),u] b)) (
 R (ix a 0) c)
theorem Q0 (H:FI a0 h R):ag prog Be #[a0] h R:=fk f141 (.s .z (.s .z (.s (.s .z (.l 2096936 [3,8] (.s .z (.s (.s .z .z) (.s (.s .z (.s .z (.s .z .z))) .z))))) (.s .z .z)))) H
def Cs (a0 a1 a2:Value)(h:ai)(R:Value→ai→Prop):Prop:=
 vK (aD a0) λr=>
 bC [aj,aj,(.bool false),aj] h λa az j m=>
 vK (ak .i .lss (ix a 3) r) λs=>
 aG s (
 vK (bh 2 a0 (ix a 3)) λt=>
 vK (aM 2 j t) λu=>
 aT #[aj,(.slice none 0 0)] 240 j λk v=>
 stK 2 k u v λa3 l=>
 vK (ak .i .lss (ix a 3) a1) λd=>
 vK (gV d false (some (ix a 3))) λw=>
 vK (gV d false (some a2)) λx=>
 vK (gV d false (ak .i .geq w x)) λy=>
 vK (aH d (.bool true) y) λz=>
 aG z (
 vK (ak .i .add (ix a 3) aJ) λaa=>
 m [(ix a 0),(ix a 1),(ix a 2),aa] l) (
 vK (aC 1 k) λab=>
 vK (ldV l ab) λac=>
 vK (aD ac) λad=>
 bC [(ix a 0),(ix a 1),(ix a 2),aj] l λb a4 e n=>
 vK (ak .i .lss (ix b 3) ad) λae=>
 aG ae (
 vK (aC 0 k) λaf=>
 vK (ldV e af) λag=>
 vK (ak .i .add ag (ix b 3)) λf=>
 eM (λo=>
 vK (unV .not (ix b 2)) λg=>
 vK (gV g false (some f)) λah=>
 vK (gV g false (some (ix b 0))) λal=>
 vK (gV g false (ak .i .lss ah al)) λam=>
 vK (aH g (.bool true) am) λan=>
 aG an (
 o [f] e) (
 o [(ix b 0)] e))
 λp a5 q=>
 vK (unV .not (ix b 2)) λc=>
 vK (gV c false (some f)) λao=>
 vK (gV c false (ak .i .add ao aJ)) λap=>
 vK (gV c false (some (ix b 1))) λaq=>
 vK (gV c false (ak .i .gtr ap aq)) λar=>
 vK (aH c (.bool true) ar) λau=>
 aG au (
 vK (ak .i .add f aJ) λav=>
 vK (ak .i .add (ix b 3) aJ) λaw=>
 n [(ix p 0),av,(.bool true),aw] q) (
 vK (ak .i .add (ix b 3) aJ) λax=>
 n [(ix p 0),(ix b 1),(.bool true),ax] q)) (
 vK (ak .i .add (ix a 3) aJ) λay=>
 m [(ix b 0),(ix b 1),(ix b 2),ay] e))) (
 R (.tuple #[(ix a 0),(ix a 1),(ix a 2)]) j)
theorem Oz (H:Cs a0 a1 a2 h R):ag prog sQ #[a0,a1,a2] h R:=fk f142 (.s .z (.s .z (.s .z (.s .z (.s (.s .z (.l 2305843009213496832 [9,10,11,18] (.s .z (.s (.s .z .z) (.s (.s .z (.s (.s .z (.s .z .z)) (.s .z (.l 1152921487427030528 [9,10,11,34] (.s .z (.s (.s .z .z) (.s (.s .z (.s .z (.j 560750930166272 [9] (.s .z (.s .z .z)) (.s (.s .z (.s .z .z)) .z)))) .z))))))) .z))))) (.s .z .z)))))) H
def LK (a0 a1:Value)(h:ai)(R:Value→ai→Prop):Prop:=
 vK (aD a0) λc=>
 bC [aj] h λb l a d=>
 vK (ak .i .lss (ix b 0) c) λe=>
 aG e (
 vK (bh 1 a0 (ix b 0)) λf=>
 vK (ldV a f) λg=>
 vK (ak .i .eql g a1) λj=>
 aG j (
 R (.bool true) a) (
 vK (ak .i .add (ix b 0) aJ) λk=>
 d [k] a)) (
 R (.bool false) a)
theorem VR (H:LK a0 a1 h R):ag prog Ie #[a0,a1] h R:=fk f143 (.s .z (.s (.s .z (.l 130640 [9] (.s .z (.s (.s .z .z) (.s (.s .z (.s .z (.s (.s .z .z) .z))) .z))))) (.s .z .z))) H
def ym (a0 a1:Value)(h:ai)(R:Value→ai→Prop):Prop:=
 vK (ak .i .geq a1 aj) λa=>
 vK (gV a true (some a1)) λb=>
 vK (gV a true (some a0)) λc=>
 vK (gV a true (aX c)) λd=>
 vK (gV a true (aC 0 d)) λe=>
 vK (gV a true (ldV h e)) λf=>
 vK (gV a true (aD f)) λg=>
 vK (gV a true (ak .i .lss b g)) λj=>
 vK (aH a j (.bool false)) λk=>
 R k h
theorem Jy (H:ym a0 a1 h R):ag prog ki #[a0,a1] h R:=fk f144 (.s .z (.s .z .z)) H
def kl (a0:Value)(h:ai)(R:Value→ai→Prop):Prop:=
 eM (λc=>
 vK (aD a0) λe=>
 vK (ak .i .lss e aJ) λf=>
 aG f (
 PN h λs g=>
 c [] g) (
 c [] h))
 λt u d=>
 vK (bh 1 a0 aj) λj=>
 vK (ldV d j) λk=>
 bC [k,aJ] d λa v b l=>
 vK (aD a0) λm=>
 vK (ak .i .lss (ix a 1) m) λn=>
 aG n (
 vK (bh 1 a0 (ix a 1)) λo=>
 vK (ldV b o) λp=>
 vK (tW (ix a 0) p) λq=>
 vK (ak .i .add (ix a 1) aJ) λr=>
 l [q,r] b) (
 R (ix a 0) b)
theorem tQ (H:kl a0 h R):ag prog ij #[a0] h R:=fk f145 (.s .z (.j 480 [] (.s .z (.s .z .z)) (.s .z (.s (.s .z (.l 16773144 [3,4] (.s (.s .z (.s .z .z)) (.s .z .z)))) (.s .z .z))))) H
def Gl (a0 a1:Value)(h:ai)(R:Value→ai→Prop):Prop:=
 vK (aD a0) λk=>
 vK (aD a1) λl=>
 vK (kA k l) λf=>
 mkK (.int .i64 0) 3 1 8 f f h λb m=>
 HA 1 b a0 m λap n=>
 vK (aD a1) λo=>
 bC [(.int .i64 0)] n λa aq c g=>
 vK (ak .i .lss (ix a 0) o) λp=>
 aG p (
 vK (bh 1 a1 (ix a 0)) λq=>
 vK (ldV c q) λj=>
 vK (aD a0) λr=>
 vK (ak .i .geq (ix a 0) r) λs=>
 aG s (
 vK (kA (.int .i64 0) j) λt=>
 vK (bh 1 b (ix a 0)) λu=>
 stK 1 u t c λar v=>
 vK (ak .i .add (ix a 0) (.int .i64 1)) λw=>
 g [w] v) (
 vK (bh 1 b (ix a 0)) λx=>
 vK (ldV c x) λy=>
 vK (kA y j) λz=>
 vK (bh 1 b (ix a 0)) λaa=>
 stK 1 aa z c λau ab=>
 vK (ak .i .add (ix a 0) (.int .i64 1)) λac=>
 g [ac] ab)) (
 vK (aD a1) λad=>
 bC [ad] c λd av e ae=>
 vK (aD a0) λaf=>
 vK (ak .i .lss (ix d 0) af) λag=>
 aG ag (
 vK (bh 1 b (ix d 0)) λah=>
 vK (ldV e ah) λaj=>
 vK (kA (.int .i64 0) aj) λal=>
 vK (bh 1 b (ix d 0)) λam=>
 stK 1 am al e λaw an=>
 vK (ak .i .add (ix d 0) (.int .i64 1)) λao=>
 ae [ao] an) (
 R b e))
theorem RF (H:Gl a0 a1 h R):ag prog Bx #[a0,a1] h R:=fk f146 (.s .z (.s .z (.s .z (.s (.s .z (.l 17592184996032 [20] (.s .z (.s (.s .z .z) (.s (.s .z (.s .z (.s .z .z))) .z))))) (.s (.s .z (.l 1152851135862669568 [8] (.s (.s .z (.s .z .z)) (.s .z .z)))) (.s .z .z)))))) H
def wJ (a0:Value)(h:ai)(R:Value→ai→Prop):Prop:=
 vK (aX a0) λa=>
 vK (aC 0 a) λb=>
 vK (ldV h b) λc=>
 vK (aX a0) λd=>
 vK (aC 1 d) λe=>
 vK (ldV h e) λf=>
 vK (ak .i .mul c f) λg=>
 R g h
theorem GS (H:wJ a0 h R):ag prog qn #[a0] h R:=fk f147 (.s .z (.s .z .z)) H
def IV (a0 a1 a2:Value)(h:ai)(R:Value→ai→Prop):Prop:=
 vK (ak .i .lss a2 (.int .i64 1)) λa=>
 vK (gV a false (some a2)) λc=>
 vK (gV a false (ak .i .gtr c (.int .i64 65536))) λd=>
 vK (aH a (.bool true) d) λe=>
 aG e (
 R (.int .i64 0) h) (
 vK (ak .i .eql a0 (.int .i64 0)) λf=>
 aG f (
 vK (ak .i .sub a2 (.int .i64 1)) λg=>
 ag prog sY #[a1,(.int .i64 0),g] h λj k=>
 R j k) (
 vK (ak .i .eql a0 (.int .i64 1)) λl=>
 aG l (
 vK (ak .i .mul (.int .i64 2) a2) λm=>
 ag prog uo #[a1,m] h λb n=>
 vK (ak .i .mul (.int .i64 2) a2) λo=>
 vK (ak .i .sub o (.int .i64 1)) λp=>
 vK (ak .i .sub p b) λq=>
 vK (tW b q) λr=>
 R r n) (
 vK (ak .i .eql a0 (.int .i64 2)) λs=>
 aG s (
 ag prog uo #[a1,a2] h λt u=>
 R t u) (
 R (.int .i64 0) h))))
theorem TU (H:IV a0 a1 a2 h R):ag prog my #[a0,a1,a2] h R:=fk f148 (.s .z (.s (.s .z (.s (.s .z .z) .z)) (.s (.s .z (.s .z (.s (.s .z .z) (.s .z (.s (.s .z (.s .z .z)) (.s .z (.s (.s .z .z) .z))))))) (.s .z .z)))) H
def zS (a0 a1:Value)(h:ai)(R:Value→ai→Prop):Prop:=
 aT #[aj,aj,aj,aj] 114 h λe b=>
 bL b λS=>
 vK (aX a0) λl=>
 vK (aC 3 l) λm=>
 qK S (λb=>ldV b m) λn=>
 vK (aX a0) λo=>
 vK (aC 4 o) λp=>
 qK S (λb=>ldV b p) λq=>
 ag prog iz #[a0] b λr f=>
 S f∧(vK (ak .i .rem a1 r) λs=>
 vK (ak .i .mul s n) λg=>
 ag prog iz #[a0] f λt a=>
 S a∧(vK (ak .i .quo a1 t) λu=>
 vK (ak .i .mul u q) λj=>
 bL a λS=>
 vK (aX a0) λv=>
 vK (aC 3 v) λw=>
 qK S (λa=>ldV a w) λx=>
 vK (aX a0) λy=>
 vK (aC 0 y) λz=>
 vK (aC 0 z) λaa=>
 qK S (λa=>ldV a aa) λab=>
 vK (aX a0) λac=>
 vK (aC 4 ac) λad=>
 qK S (λa=>ldV a ad) λae=>
 vK (aX a0) λaf=>
 vK (aC 0 af) λah=>
 vK (aC 1 ah) λal=>
 qK S (λa=>ldV a al) λam=>
 ag prog bR #[ab] a λan c=>
 S c∧(vK (ak .i .sub an g) λao=>
 qK S (λc=>tW x ao) λap=>
 ag prog bR #[am] c λaq d=>
 S d∧(vK (ak .i .sub aq j) λar=>
 qK S (λd=>tW ae ar) λau=>
 vK ((aR #[aj,aj,aj,aj] [(0,1,g),(1,1,j),(2,1,ap),(3,1,au)]).map .agg) λav=>
 stK 4 e av d λax k=>
 vK (aM 4 k e) λaw=>
 R aw k))))
theorem K4 (H:zS a0 a1 h R):ag prog nU #[a0,a1] h R:=fk f149 (.s .z (.s (.d (.op 0 .r (.op 1 .r (.op 4 .r (.op 5 .r (.op 6 .r (.op 7 .r (.op 9 .r (.op 10 .r (.op 13 .r (.op 14 .r (.op 15 .r (.op 16 .r (.op 2 .e (.op 3 .r (.op 8 .r (.op 11 .e (.op 12 .r (.op 17 .r (.op 18 .r (.op 19 .r .nil))))))))))))))))))))) (.s (.d (.op 0 .r (.op 1 .r (.op 2 .r (.op 3 .r (.op 4 .r (.op 5 .r (.op 6 .r (.op 7 .r (.op 8 .r (.op 9 .r (.op 10 .r (.op 12 .r (.op 15 .r (.op 16 .r (.op 17 .r (.op 18 .r (.op 19 .r (.op 20 .r (.op 21 .r (.op 22 .r (.op 23 .r (.op 25 .r (.op 11 .e (.op 13 .r (.op 14 .r (.op 24 .e (.op 26 .r (.op 27 .r (.op 28 .r (.op 29 .n .nil))))))))))))))))))))))))))))))) .z))) H
def uP (a0:Value)(h:ai)(R:Value→ai→Prop):Prop:=
 vK (aX a0) λa=>
 vK (aC 2 a) λb=>
 vK (ldV h b) λc=>
 R c h
theorem Fc (H:uP a0 h R):ag prog gw #[a0] h R:=fk f150 (.s .z (.s .z .z)) H
def tu (a0 a1 a2:Value)(h:ai)(R:Value→ai→Prop):Prop:=
 vK (kA a1 aj) λd=>
 vK (aX a0) λk=>
 vK (aC 1 k) λl=>
 vK (ldV h l) λm=>
 vK (aD m) λn=>
 vK (tW a2 n) λf=>
 vK (ak .i .geq d f) λo=>
 aG o (
 R (.tuple #[aj,aj]) h) (
 vK (aX a0) λp=>
 vK (aC 1 p) λq=>
 vK (ldV h q) λr=>
 vK (bh 2 r d) λs=>
 vK (aC 0 s) λt=>
 vK (ldV h t) λg=>
 vK (aX a0) λu=>
 vK (aC 1 u) λv=>
 vK (ldV h v) λw=>
 vK (ni 2 w (some d) (some f)) λj=>
 vK (aD j) λx=>
 bC [g,g,aj] h λa au e y=>
 vK (ak .i .lss (ix a 2) x) λz=>
 aG z (
 vK (bh 2 j (ix a 2)) λaa=>
 vK (aM 2 e aa) λab=>
 aT #[aj,(.slice none 0 0)] 189 e λb ac=>
 stK 2 b ab ac λav c=>
 vK (aC 0 b) λad=>
 vK (ldV c ad) λae=>
 vK (tW (ix a 0) ae) λaf=>
 vK (aC 0 b) λag=>
 vK (ldV c ag) λah=>
 vK (aC 1 b) λal=>
 vK (ldV c al) λam=>
 vK (aD am) λan=>
 vK (ak .i .add ah an) λao=>
 vK (kA (ix a 1) ao) λap=>
 vK (ak .i .add (ix a 2) aJ) λaq=>
 y [af,ap,aq] c) (
 vK (ak .i .sub (ix a 1) (ix a 0)) λar=>
 R (.tuple #[(ix a 0),ar]) e))
theorem Dd (H:tu a0 a1 a2 h R):ag prog iu #[a0,a1,a2] h R:=fk f151 (.s .z (.s .z (.s (.s .z (.s (.s .z .z) .z)) (.s .z (.s .z (.s (.s .z (.l 144114088564229440 [6,8,40] (.s .z (.s (.s .z .z) (.s (.s .z (.s .z .z)) .z))))) (.s .z .z))))))) H
def gu (a0:Value)(h:ai)(R:Value→ai→Prop):Prop:=
 vK (ak .sl .eql a0 (.slice none 0 0)) λa=>
 aG a (
 R (.slice none 0 0) h) (
 cO #[] 2 0 [] h λb c=>
 cR aj 2 1 8 b a0 c λd e=>
 R d e)
theorem jU (H:gu a0 h R):ag prog dx #[a0] h R:=fk f152 (.s .z (.s (.s .z (.s (.s .z .z) .z)) (.s .z .z))) H
def jL (a0:Value)(h:ai)(R:Value→ai→Prop):Prop:=
 vK (ak .sl .eql a0 (.slice none 0 0)) λa=>
 aG a (
 R (.slice none 0 0) h) (
 cO #[] 3 0 [] h λb c=>
 cR aj 3 1 8 b a0 c λd e=>
 R d e)
theorem qP (H:jL a0 h R):ag prog dZ #[a0] h R:=fk f153 (.s .z (.s (.s .z (.s (.s .z .z) .z)) (.s .z .z))) H
def Ix (a0 a1 a2:Value)(h:ai)(R:Value→ai→Prop):Prop:=
 cO #[] 41 0 [] h λb c=>
 cR (.slice none 0 0) 41 1 24 b a0 c λa d=>
 vK (bh 1 a a1) λe=>
 stK 1 e a2 d λg f=>
 R a f
theorem Tw (H:Ix a0 a1 a2 h R):ag prog yG #[a0,a1,a2] h R:=fk f154 (.s .z (.s .z (.s .z (.s .z .z)))) H
def FG (a0 a1:Value)(h:ai)(R:Value→ai→Prop):Prop:=
 bC [(.slice none 0 0),(.int .i64 0)] h λa ad c d=>
 vK (aD a0) λg=>
 vK (ak .i .lss (ix a 1) g) λb=>
 vK (gV b false (some (ix a 1))) λj=>
 vK (gV b false (some a1)) λk=>
 vK (gV b false (aD k)) λl=>
 vK (gV b false (ak .i .lss j l)) λm=>
 vK (aH b (.bool true) m) λn=>
 aG n (
 ag prog xD #[a0,(ix a 1)] c λe o=>
 ag prog xD #[a1,(ix a 1)] o λp f=>
 vK (ak .i .gtr p e) λq=>
 aG q (
 ag prog xD #[a1,(ix a 1)] f λr s=>
 cO #[(.int .i64 0)] 3 1 [(0,1,r)] s λt u=>
 cR (.int .i64 0) 3 1 8 (ix a 0) t u λv w=>
 vK (ak .i .add (ix a 1) (.int .i64 1)) λx=>
 d [v,x] w) (
 cO #[(.int .i64 0)] 3 1 [(0,1,e)] f λy z=>
 cR (.int .i64 0) 3 1 8 (ix a 0) y z λaa ab=>
 vK (ak .i .add (ix a 1) (.int .i64 1)) λac=>
 d [aa,ac] ab)) (
 R (ix a 0) c)
theorem QY (H:FG a0 a1 h R):ag prog Bc #[a0,a1] h R:=fk f155 (.s .z (.s .z (.s (.s .z (.l 34359738336 [5,6] (.s (.s .z (.s .z .z)) (.s (.s .z (.s (.s .z (.s .z .z)) .z)) .z)))) (.s .z .z)))) H
def zP (a0:Value)(h:ai)(R:Value→ai→Prop):Prop:=
 aT (Value.cells a0) 43 h λb j=>
 aT #[aj,(.slice none 0 0),(.bool false)] 43 j λc a=>
 vK (aC 1 b) λk=>
 vK (ldV a k) λl=>
 vK (aD l) λm=>
 vK (ak .i .eql m aj) λn=>
 aG n (
 vK (aC 2 b) λo=>
 vK (ldV a o) λp=>
 aG p (
 vK (aM 3 a b) λq=>
 stK 3 c q a λae d=>
 vK (aM 3 d c) λr=>
 R (.tuple #[r,aj,(af 2)]) d) (
 vK (aM 3 a b) λs=>
 stK 3 c s a λag e=>
 vK (aM 3 e c) λt=>
 R (.tuple #[t,aj,aJ]) e)) (
 vK (aC 1 b) λu=>
 vK (ldV a u) λv=>
 vK (bh 1 v aj) λw=>
 vK (ldV a w) λx=>
 vK (aC 1 b) λy=>
 vK (ldV a y) λz=>
 vK (ni 1 z (some aJ) none) λaa=>
 vK (aC 1 b) λab=>
 stK 1 ab aa a λah f=>
 vK (aM 3 f b) λac=>
 stK 3 c ac f λal g=>
 vK (aM 3 g c) λad=>
 R (.tuple #[ad,x,aj]) g)
theorem KZ (H:zP a0 h R):ag prog uH #[a0] h R:=fk f156 (.s .z (.s (.s .z (.s (.s (.s .z (.s (.s .z .z) .z)) (.s .z .z)) .z)) (.s .z (.s .z (.s .z .z))))) H
def CW (a0 a1:Value)(h:ai)(R:Value→ai→Prop):Prop:=
 vK (aD a0) λc=>
 vK (aD a1) λd=>
 vK (ak .i .neq c d) λe=>
 aG e (
 R (.bool false) h) (
 vK (aD a0) λf=>
 bC [aj] h λb q a g=>
 vK (ak .i .lss (ix b 0) f) λj=>
 aG j (
 vK (bh 1 a0 (ix b 0)) λk=>
 vK (ldV a k) λl=>
 vK (bh 1 a1 (ix b 0)) λm=>
 vK (ldV a m) λn=>
 vK (ak .i .gtr l n) λo=>
 aG o (
 R (.bool false) a) (
 vK (ak .i .add (ix b 0) aJ) λp=>
 g [p] a)) (
 R (.bool true) a))
theorem O9 (H:CW a0 a1 h R):ag prog zD #[a0,a1] h R:=fk f157 (.s .z (.s (.s .z (.s (.s .z .z) .z)) (.s (.s .z (.l 67100720 [13] (.s .z (.s (.s .z .z) (.s (.s .z (.s .z (.s (.s .z .z) .z))) .z))))) (.s .z .z)))) H
def CX (a0 a1:Value)(h:ai)(R:Value→ai→Prop):Prop:=
 ag prog gA #[a0,a1] h λa b=>
 R a b
theorem Pa (H:CX a0 a1 h R):ag prog zE #[a0,a1] h R:=fk f158 (.s .z (.s .z .z)) H
def Fx (a0:Value)(h:ai)(R:Value→ai→Prop):Prop:=
 vK (ak .i .geq a0 aJ) λa=>
 vK (gV a true (some a0)) λb=>
 vK (gV a true (ak .i .leq b (af 65536))) λc=>
 vK (aH a c (.bool false)) λd=>
 R d h
theorem QQ (H:Fx a0 h R):ag prog qg #[a0] h R:=fk f162 (.s .z (.s .z .z)) H
def NL (a0 a1 a2 a3:Value)(h:ai)(R:Value→ai→Prop):Prop:=
 ag prog Bm #[a0,a1,a2,a3] h λb e=>
 vK (aP b 0) λc=>
 vK (aP b 1) λf=>
 bC [(.slice none 0 0),aj] e λa s d g=>
 vK (ak .i .lss (ix a 1) f) λj=>
 aG j (
 vK (ak .i .add c (ix a 1)) λk=>
 ag prog Eb #[a0,a1,a2,a3,k] d λl m=>
 cO #[aj] 2 1 [(0,1,l)] m λn o=>
 cR aj 2 1 8 (ix a 0) n o λp q=>
 vK (ak .i .add (ix a 1) aJ) λr=>
 g [p,r] q) (
 R (.tuple #[c,(ix a 0)]) d)
theorem XU (H:NL a0 a1 a2 a3 h R):ag prog EV #[a0,a1,a2,a3] h R:=fk f163 (.s .z (.s .z (.s (.s .z (.l 68717382144 [9,21] (.s .z (.s (.s .z .z) (.s (.s .z .z) .z))))) (.s .z .z)))) H
def xT (a0:Value)(h:ai)(R:Value→ai→Prop):Prop:=
 ag prog A9 #[a0] h λt u=>
 vK (ak .i .neq t aj) λbz=>
 aG bz (
 R (.tuple #[(.slice none 0 0),t]) u) (
 ag prog Ba #[a0] u λv f=>
 eM (λb0=>
 bL f λS=>
 qK S (λf=>aD a0) λa=>
 qK S (λf=>aD a0) λb=>
 qK S (λf=>aD a0) λc=>
 (λC22:Value→Value→Value→Value→ai→Prop=>
 (λC29:Value→Value→Value→Value→ai→Prop=>
 (λC35:Value→Value→Value→Value→ai→Prop=>
 (λC43:Value→Value→Value→ai→Prop=>
 (λC51:Value→Value→Value→ai→Prop=>
 (λC58:Value→Value→Value→ai→Prop=>
 (λC63:Value→Value→Value→ai→Prop=>
 (λC68:Value→Value→Value→ai→Prop=>
 (λC75:Value→Value→Value→ai→Prop=>
 (λC83:Value→Value→ai→Prop=>
 (λC91:Value→Value→ai→Prop=>
 (λC99:Value→Value→ai→Prop=>
 (λC107:Value→Value→ai→Prop=>
 (λC115:Value→Value→ai→Prop=>
 (λC123:Value→Value→ai→Prop=>
 (mkK aj 2 1 8 a a f λo j=>
 S j∧((mkK aj 3 1 8 b b j λb1 w=>
 S w∧(C83 o b1 w))∧((mkK aj 2 1 8 c c j λb2 x=>
 S x∧(C91 o b2 x))∧(aT #[(.slice none 0 0)] 28 j λb3 y=>
 S y∧(C99 o b3 y)))))∧((mkK aj 3 1 8 b b f λp k=>
 S k∧((mkK aj 2 1 8 a a k λb4 z=>
 S z∧(C83 b4 p z))∧((mkK aj 2 1 8 c c k λb5 aa=>
 S aa∧(C107 p b5 aa))∧(aT #[(.slice none 0 0)] 28 k λb6 ab=>
 S ab∧(C115 p b6 ab)))))∧((mkK aj 2 1 8 c c f λq l=>
 S l∧((mkK aj 2 1 8 a a l λb7 ac=>
 S ac∧(C91 b7 q ac))∧((mkK aj 3 1 8 b b l λb8 ad=>
 S ad∧(C107 b8 q ad))∧(aT #[(.slice none 0 0)] 28 l λb9 ae=>
 S ae∧(C123 q b9 ae)))))∧(aT #[(.slice none 0 0)] 28 f λr m=>
 S m∧((mkK aj 2 1 8 a a m λca ah=>
 S ah∧(C99 ca r ah))∧((mkK aj 3 1 8 b b m λcb al=>
 S al∧(C115 cb r al))∧(mkK aj 2 1 8 c c m λcc am=>
 S am∧(C123 cc r am)))))))) (λan ao ap=>
 (mkK aj 2 1 8 a a ap λcd aq=>
 S aq∧(C68 cd an ao aq))∧(mkK aj 3 1 8 b b ap λce ar=>
 S ar∧(C75 ce an ao ar)))) (λau av aw=>
 (mkK aj 2 1 8 a a aw λcf ax=>
 S ax∧(C63 cf au av ax))∧(mkK aj 2 1 8 c c aw λcg ay=>
 S ay∧(C75 au cg av ay)))) (λaz a1 a2=>
 (mkK aj 2 1 8 a a a2 λch a3=>
 S a3∧(C58 ch az a1 a3))∧(aT #[(.slice none 0 0)] 28 a2 λci a4=>
 S a4∧(C75 az a1 ci a4)))) (λa5 a6 a7=>
 (mkK aj 3 1 8 b b a7 λcj a8=>
 S a8∧(C43 cj a6 a5 a8))∧(mkK aj 2 1 8 c c a7 λck a9=>
 S a9∧(C51 ck a6 a5 a9)))) (λba bb bc=>
 (mkK aj 3 1 8 b b bc λcl bd=>
 S bd∧(C58 ba cl bb bd))∧(aT #[(.slice none 0 0)] 28 bc λcm be=>
 S be∧(C68 ba bb cm be)))) (λbf bg bi=>
 (mkK aj 2 1 8 c c bi λcn bj=>
 S bj∧(C58 bf bg cn bj))∧(aT #[(.slice none 0 0)] 28 bi λco bk=>
 S bk∧(C63 bf bg co bk)))) (λcp cq cr cs=>
 mkK aj 2 1 8 a a cs λct bl=>
 S bl∧(C35 ct cp cq cr bl))) (λcu cv cw cx=>
 C51 cv cw cu cx)) (λcy cz c0 c1=>
 C43 cz c0 cy c1)) (λc2 c3 c4 c5=>
 aT #[(.slice none 0 0)] 28 c5 λc6 bm=>
 S bm∧(C35 c2 c3 c4 c6 bm))) (λc7 c8 c9 da=>
 mkK aj 3 1 8 b b da λdb bn=>
 S bn∧(C29 db c7 c8 c9 bn))) (λdc dd de df=>
 mkK aj 2 1 8 c c df λdg bo=>
 S bo∧(C22 dg dd de dc bo))) (λdh di dj dk dl=>
 C29 di dj dk dh dl)) (λdm dn dp dq dr=>
 C22 dn dp dq dm dr)) (λds bp dt du dv=>
 stK 1 bp ds dv λep bq=>
 S bq∧(b0 [dt,du,bp] bq)))
 λd eq dw=>
 vK (aD a0) λdx=>
 bC [(af 16384),aj] dw λe er g dy=>
 vK (ak .i .lss (ix e 1) dx) λdz=>
 aG dz (
 vK (bh 1 a0 (ix e 1)) λd0=>
 vK (ldV g d0) λbr=>
 bL g λS=>
 qK S (λg=>ldV g (ix d 2)) λd1=>
 vK (ak .i .mul br (af 16384)) λd2=>
 vK (ak .i .mul br (af 16384)) λd3=>
 ag prog kW #[d2,v] g λd4 bs=>
 S bs∧(ag prog uo #[d3,v] bs λd5 bt=>
 S bt∧(vK (bh 1 (ix d 0) (ix e 1)) λd6=>
 stK 1 d6 d4 bt λes bu=>
 S bu∧(vK (bh 1 d1 (ix e 1)) λd7=>
 stK 1 d7 d5 bu λet d8=>
 vK (bh 1 (ix d 1) (ix e 1)) λd9=>
 stK 1 d9 (ix e 1) d8 λeu bv=>
 vK (bh 1 (ix d 0) (ix e 1)) λea=>
 vK (ldV bv ea) λeb=>
 vK (ak .i .sub (ix e 0) eb) λec=>
 vK (ak .i .add (ix e 1) aJ) λed=>
 dy [ec,ed] bv)))) (
 ag prog fH #[(ix d 1),(.func (.func mX) #[] #[(ix d 2)])] g λev ee=>
 vK (ni 1 (ix d 1) none (some (ix e 0))) λbw=>
 vK (aD bw) λef=>
 bC [aj] ee λs ew n eg=>
 vK (ak .i .lss (ix s 0) ef) λeh=>
 aG eh (
 vK (bh 1 bw (ix s 0)) λei=>
 vK (ldV n ei) λbx=>
 vK (bh 1 (ix d 0) bx) λej=>
 vK (ldV n ej) λek=>
 vK (ak .i .add ek aJ) λel=>
 vK (bh 1 (ix d 0) bx) λem=>
 stK 1 em el n λex en=>
 vK (ak .i .add (ix s 0) aJ) λeo=>
 eg [eo] en) (
 R (.tuple #[(ix d 0),aj]) n)))
theorem Ji (H:xT a0 h R):ag prog kf #[a0] h R:=fk f164 (.s .z (.s (.s .z (.s .z (.s (.s .z .z) .z))) (.s .z (.j 1071645568 [7,8,9] (.d (.op 0 .r (.op 1 .r (.op 3 .r (.op 4 .r (.op 6 .r (.op 7 .r (.alt (.op 2 .e (.alt (.op 5 .e (.alt (.op 8 .e (.op 9 .e (.op 10 .r (.op 11 .r (.op 12 .e .nil))))) (.op 9 .e (.op 10 .r (.op 11 .r (.op 8 .e (.op 12 .e .nil))))))) (.alt (.op 8 .e (.alt (.op 5 .e (.op 9 .e (.op 10 .r (.op 11 .r (.op 12 .e .nil))))) (.op 9 .e (.op 10 .r (.op 5 .e (.op 11 .r (.op 12 .e .nil))))))) (.op 9 .e (.op 10 .r (.alt (.op 5 .e (.op 11 .r (.op 8 .e (.op 12 .e .nil)))) (.op 8 .e (.op 5 .e (.op 11 .r (.op 12 .e .nil)))))))))) (.alt (.op 5 .e (.alt (.op 2 .e (.alt (.op 8 .e (.op 9 .e (.op 10 .r (.op 11 .r (.op 12 .e .nil))))) (.op 9 .e (.op 10 .r (.op 11 .r (.op 8 .e (.op 12 .e .nil))))))) (.alt (.op 8 .e (.alt (.op 2 .e (.op 9 .e (.op 10 .r (.op 11 .r (.op 12 .e .nil))))) (.op 9 .e (.op 2 .e (.op 10 .r (.op 11 .r (.op 12 .e .nil))))))) (.op 9 .e (.alt (.op 2 .e (.op 10 .r (.op 11 .r (.op 8 .e (.op 12 .e .nil))))) (.op 8 .e (.op 2 .e (.op 10 .r (.op 11 .r (.op 12 .e .nil)))))))))) (.alt (.op 8 .e (.alt (.op 2 .e (.alt (.op 5 .e (.op 9 .e (.op 10 .r (.op 11 .r (.op 12 .e .nil))))) (.op 9 .e (.op 10 .r (.op 5 .e (.op 11 .r (.op 12 .e .nil))))))) (.alt (.op 5 .e (.alt (.op 2 .e (.op 9 .e (.op 10 .r (.op 11 .r (.op 12 .e .nil))))) (.op 9 .e (.op 2 .e (.op 10 .r (.op 11 .r (.op 12 .e .nil))))))) (.op 9 .e (.alt (.op 2 .e (.op 10 .r (.op 5 .e (.op 11 .r (.op 12 .e .nil))))) (.op 5 .e (.op 2 .e (.op 10 .r (.op 11 .r (.op 12 .e .nil)))))))))) (.op 9 .e (.alt (.op 2 .e (.op 10 .r (.alt (.op 5 .e (.op 11 .r (.op 8 .e (.op 12 .e .nil)))) (.op 8 .e (.op 5 .e (.op 11 .r (.op 12 .e .nil))))))) (.alt (.op 5 .e (.alt (.op 2 .e (.op 10 .r (.op 11 .r (.op 8 .e (.op 12 .e .nil))))) (.op 8 .e (.op 2 .e (.op 10 .r (.op 11 .r (.op 12 .e .nil))))))) (.op 8 .e (.alt (.op 2 .e (.op 10 .r (.op 5 .e (.op 11 .r (.op 12 .e .nil))))) (.op 5 .e (.op 2 .e (.op 10 .r (.op 11 .r (.op 12 .e .nil)))))))))))))))))))) (.s (.s .z (.l 4611686014132423744 [6,32] (.s .z (.s (.s .z .z) (.s (.s .z (.s (.d (.op 0 .r (.op 1 .r (.op 2 .r (.op 3 .r (.op 4 .r (.op 5 .r (.op 6 .r (.op 7 .r (.op 8 .r (.op 10 .r (.op 11 .r (.op 12 .r (.op 14 .r (.op 9 .e (.op 13 .e (.op 15 .r (.op 16 .e (.op 17 .r (.op 18 .n (.op 19 .r (.op 20 .n .nil)))))))))))))))))))))) .z)) .z))))) (.s .z (.s (.s .z (.l 1208335523804270469062656 [69] (.s .z (.s (.s .z .z) (.s (.s .z .z) .z))))) (.s .z .z)))))))) H
def wH (a0 a1 a2:Value)(h:ai)(R:Value→ai→Prop):Prop:=
 vK (aX a0) λd=>
 vK (aC 1 d) λe=>
 vK (ldV h e) λf=>
 vK ((aR #[aj,(.slice none 0 0)] [(0,1,a1),(1,1,a2)]).map .agg) λg=>
 cO #[aj,(.slice none 0 0)] 189 1 [(0,2,g)] h λi j=>
 cR (.agg #[aj,.slice none 0 0]) 189 2 32 f i j λk l=>
 vK (aX a0) λm=>
 vK (aC 1 m) λn=>
 stK 1 n k l λad c=>
 vK (aX a0) λo=>
 vK (aC 2 o) λp=>
 vK (ldV c p) λq=>
 vK (aD a2) λr=>
 vK (kA q r) λs=>
 vK (aX a0) λt=>
 vK (aC 2 t) λu=>
 stK 1 u s c λae a=>
 bL a λS=>
 vK (aX a0) λv=>
 vK (aC 3 v) λw=>
 qK S (λa=>ldV a w) λx=>
 ag prog yE #[a2] a λy b=>
 S b∧(qK S (λb=>kA x y) λz=>
 vK (aX a0) λaa=>
 vK (aC 3 aa) λab=>
 stK 1 ab z b λaf ac=>
 R (.tuple #[]) ac)
theorem GQ (H:wH a0 a1 a2 h R):ag prog lL #[a0,a1,a2] h R:=fk f165 (.s .z (.s .z (.d (.op 0 .r (.op 1 .r (.op 2 .r (.op 3 .r (.op 4 .r (.op 5 .r (.op 6 .e (.op 7 .r (.op 8 .r (.op 9 .r (.op 10 .n .nil)))))))))))))) H
def zK (a0:Value)(h:ai)(R:Value→ai→Prop):Prop:=
 vK (ak .i .lss a0 aJ) λb=>
 vK (gV b false (some a0)) λe=>
 vK (gV b false (ak .i .gtr e (af 4194304))) λf=>
 vK (aH b (.bool true) f) λg=>
 aG g (
 R (.tuple #[(.slice none 0 0),(af 7)]) h) (
 vK (ak .i .mul (af 3) a0) λj=>
 vK (ak .i .add j (af 65536)) λk=>
 vK (ak .i .sub k aJ) λl=>
 vK (ak .i .shr l (.int .u64 16)) λc=>
 vK (unV .neg c) λm=>
 bC [(.slice none 0 0),m] h λa w d n=>
 vK (ak .i .leq (ix a 1) c) λo=>
 aG o (
 ag prog Bv #[(ix a 1),a0] d λp q=>
 cO #[aj] 2 1 [(0,1,p)] q λr s=>
 cR aj 2 1 8 (ix a 0) r s λt u=>
 vK (ak .i .add (ix a 1) aJ) λv=>
 n [t,v] u) (
 R (.tuple #[(ix a 0),aj]) d))
theorem KV (H:zK a0 h R):ag prog nR #[a0] h R:=fk f166 (.s .z (.s (.s .z (.s (.s .z .z) .z)) (.s .z (.s .z (.s (.s .z (.l 2146435168 [5,6] (.s (.s .z (.s .z .z)) (.s .z .z)))) (.s .z .z)))))) H
def Is (a0:Value)(h:ai)(R:Value→ai→Prop):Prop:=
 vK (ak .i .lss a0 aj) λa=>
 vK (gV a false (some a0)) λc=>
 vK (gV a false (ak .i .gtr c (af 511))) λd=>
 vK (aH a (.bool true) d) λe=>
 aG e (
 R (.tuple #[(.slice none 0 0),(af 7)]) h) (
 cO #[aj] 2 1 [(0,1,aJ)] h λf g=>
 vK (ak .i .mul (af 2) a0) λj=>
 vK (ak .i .add j aJ) λk=>
 ag prog gy #[f,k] g λl m=>
 ag prog ul #[l] m λb n=>
 vK (aP b 0) λo=>
 vK (aP b 1) λp=>
 R (.tuple #[o,p]) n)
theorem Ts (H:Is a0 h R):ag prog DU #[a0] h R:=fk f167 (.s .z (.s (.s .z (.s (.s .z .z) .z)) (.s .z .z))) H
def Iq (a0:Value)(h:ai)(R:Value→ai→Prop):Prop:=
 ag prog yE #[a0] h λc g=>
 vK (aD a0) λj=>
 vK (ak .i .rem j (af 2)) λk=>
 vK (ak .i .eql k aj) λb=>
 vK (gV b false (some a0)) λl=>
 vK (gV b false (aD l)) λm=>
 vK (gV b false (ak .i .gtr m (af 1024))) λn=>
 vK (aH b (.bool true) n) λd=>
 vK (gV d false (some c)) λo=>
 vK (gV d false (ak .i .lss o aJ)) λp=>
 vK (aH d (.bool true) p) λe=>
 vK (gV e false (some c)) λq=>
 vK (gV e false (ak .i .gtr q (af 1048576))) λr=>
 vK (aH e (.bool true) r) λs=>
 aG s (
 R (.tuple #[(.slice none 0 0),(af 7)]) g) (
 vK (aD a0) λt=>
 bC [(.slice none 0 0),aj] g λa ah f u=>
 vK (ak .i .lss (ix a 1) t) λv=>
 aG v (
 vK (bh 1 a0 (ix a 1)) λw=>
 vK (ldV f w) λx=>
 ag prog ft #[x,(af 1073741824),c] f λy z=>
 cO #[aj] 2 1 [(0,1,y)] z λaa ab=>
 cR aj 2 1 8 (ix a 0) aa ab λac ad=>
 vK (ak .i .add (ix a 1) aJ) λae=>
 u [ac,ae] ad) (
 R (.tuple #[(ix a 0),aj]) f))
theorem Tq (H:Iq a0 h R):ag prog ul #[a0] h R:=fk f168 (.s .z (.s .z (.s (.s .z (.s (.s .z .z) .z)) (.s .z (.s (.s .z (.l 1098974757024 [5,29] (.s .z (.s (.s .z .z) (.s (.s .z .z) .z))))) (.s .z .z)))))) H
def CN (h:ai)(R:Value→ai→Prop):Prop:=
 vK ((aR #[aj,aj,aj,aj,(.slice none 0 0),(.slice none 0 0),aj,aj,aj] [(0,1,(af 3)),(7,1,(af 2)),(8,1,aJ),(6,1,aj)]).map .agg) λq=>
 ag prog oZ #[q,(af 4),(af 3)] h λo r=>
 vK (aP o 0) λs=>
 vK (aP o 1) λt=>
 aT #[(.pointer none),(.pointer none),aj] 81 r λa u=>
 stK 3 a s u λa7 v=>
 ag prog zt #[] v λk b=>
 vK (gV k true (some t)) λw=>
 vK (gV k true (ak .i .eql w aj)) λx=>
 vK (aH k x (.bool false)) λg=>
 vK (gV g true (aC 0 a)) λy=>
 vK (gV g true (ldV b y)) λz=>
 vK (gV g true (ak .p .neq z (.pointer none))) λaa=>
 vK (aH g aa (.bool false)) λj=>
 vK (gV j true (aC 1 a)) λab=>
 vK (gV j true (ldV b ab)) λac=>
 vK (gV j true (ak .p .neq ac (.pointer none))) λad=>
 vK (aH j ad (.bool false)) λc=>
 vK (gV c true (aC 0 a)) λae=>
 vK (gV c true (ldV b ae)) λah=>
 gK c true (λal=>ag prog gx #[ah] b al) b λam l=>
 vK (gV c true (ak .i .eql am (af 4))) λan=>
 vK (aH c an (.bool false)) λd=>
 vK (gV d true (aC 0 a)) λao=>
 vK (gV d true (ldV l ao)) λap=>
 gK d true (λaq=>ag prog bR #[ap] l aq) l λar m=>
 vK (gV d true (ak .i .eql ar (af 2))) λau=>
 vK (aH d au (.bool false)) λe=>
 vK (gV e true (aC 1 a)) λav=>
 vK (gV e true (ldV m av)) λaw=>
 gK e true (λax=>ag prog gx #[aw] m ax) m λay n=>
 vK (gV e true (ak .i .eql ay (af 3))) λaz=>
 vK (aH e az (.bool false)) λf=>
 vK (gV f true (aC 1 a)) λa0=>
 vK (gV f true (ldV n a0)) λa1=>
 gK f true (λa2=>ag prog bR #[a1] n a2) n λa3 a4=>
 vK (gV f true (ak .i .eql a3 aJ)) λa5=>
 vK (aH f a5 (.bool false)) λa6=>
 R a6 a4
theorem OT (H:CN h R):ag prog sX #[] h R:=fk f169 (.s .z (.s .z (.s .z .z))) H
def CP (h:ai)(R:Value→ai→Prop):Prop:=
 ag prog js #[(af 2),aJ,(af 3),(af 255)] h λf g=>
 vK (aP f 0) λb=>
 vK (aP f 1) λl=>
 vK (ak .i .eql l aj) λd=>
 vK (gV d true (some b)) λm=>
 vK (gV d true (ak .p .neq m (.pointer none))) λn=>
 vK (aH d n (.bool false)) λa=>
 vK (gV a true (some b)) λo=>
 gK a true (λq=>ag prog kK #[o] g q) g λr j=>
 vK (gV a true (aD r)) λs=>
 vK (gV a true (ak .i .eql s (af 6))) λt=>
 vK (aH a t (.bool false)) λc=>
 vK (gV c true (some b)) λu=>
 gK c true (λv=>ag prog gB #[u,aJ,aj,(af 2),(.int .u16 256)] j v) j λw k=>
 vK (gV c true (unV .not w)) λx=>
 vK (aH c x (.bool false)) λe=>
 vK (gV e true (some b)) λy=>
 gK e true (λz=>ag prog gB #[y,aJ,aj,(af 2),(.int .u16 255)] k z) k λaa ab=>
 vK (aH e aa (.bool false)) λac=>
 R ac ab
theorem OU (H:CP h R):ag prog zq #[] h R:=fk f170 (.s .z (.s .z (.s .z .z))) H
def BT (a0 a1:Value)(h:ai)(R:Value→ai→Prop):Prop:=
 aT (Value.cells a1) 81 h λc j=>
 vK (aM 3 j c) λq=>
 ag prog kh #[a0,q] j λr a=>
 vK (unV .not r) λs=>
 aG s (
 R (.tuple #[(.pointer none),(af 6)]) a) (
 bL a λS=>
 vK (aC 0 c) λt=>
 qK S (λa=>ldV a t) λu=>
 vK (aC 1 c) λv=>
 qK S (λa=>ldV a v) λw=>
 ag prog bR #[u] a λx k=>
 S k∧(ag prog bR #[w] k λy z=>
 ag prog bu #[a0] z λaa ab=>
 ag prog dG #[a0] ab λac ad=>
 ag prog js #[x,y,aa,ac] ad λl m=>
 vK (aP l 0) λb=>
 vK (aP l 1) λn=>
 vK (ak .i .neq n aj) λae=>
 aG ae (
 R (.tuple #[(.pointer none),n]) m) (
 ag prog cj #[b] m λah al=>
 bC [aj] al λd bb o am=>
 vK (ak .i .lss (ix d 0) ah) λan=>
 aG an (
 ag prog cf #[b] o λao ap=>
 bC [aj] ap λe bc p aq=>
 vK (ak .i .lss (ix e 0) ao) λar=>
 aG ar (
 ag prog bu #[b] p λau av=>
 bC [aj] av λf bd g aw=>
 vK (ak .i .lss (ix f 0) au) λax=>
 aG ax (
 vK (aM 3 g c) λay=>
 ag prog Bw #[a0,ay,(ix e 0),(ix d 0),(ix f 0)] g λaz a2=>
 ag prog dG #[a0] a2 λa3 a4=>
 ag prog qL #[az,a3] a4 λa5 a6=>
 ag prog gB #[b,(ix e 0),(ix d 0),(ix f 0),a5] a6 λbe a7=>
 vK (ak .i .add (ix f 0) aJ) λa8=>
 aw [a8] a7) (
 vK (ak .i .add (ix e 0) aJ) λa9=>
 aq [a9] g)) (
 vK (ak .i .add (ix d 0) aJ) λba=>
 am [ba] p)) (
 R (.tuple #[b,aj]) o))))
theorem MM (H:BT a0 a1 h R):ag prog xI #[a0,a1] h R:=fk f171 (.s .z (.s (.s .z (.s (.s .z .z) .z)) (.s (.d (.op 0 .r (.op 1 .r (.op 3 .r (.op 4 .r (.op 6 .r (.op 8 .r (.op 2 .e (.op 5 .n (.op 7 .n (.op 9 .n (.op 10 .n (.op 11 .r (.op 12 .r (.op 13 .r (.op 14 .r (.op 15 .r .nil))))))))))))))))) (.s (.s .z (.s (.s .z .z) .z)) (.s (.s .z (.l 18446744056529684224 [34] (.s .z (.s (.s .z .z) (.s (.s .z (.s .z (.l 9223371487098963456 [39] (.s .z (.s (.s .z .z) (.s (.s .z (.s .z (.l 4611668426241344512 [44] (.s .z (.s (.s .z .z) (.s (.s .z .z) .z)))))) .z)))))) .z))))) (.s .z .z)))))) H
end
section
variable {a0 a1 a2 a3 a4 a5 a6:Value}{h:ai}{R:Value→ai→Prop}
def BB (a0 a1 a2:Value)(h:ai)(R:Value→ai→Prop):Prop:=
 aT (Value.cells a2) 81 h λl a=>
 bL a λS=>
 vK (ak .p .neq a0 (.pointer none)) λm=>
 vK (gV m true (some a1)) λu=>
 vK (gV m true (ak .p .neq u (.pointer none))) λv=>
 vK (aH m v (.bool false)) λj=>
 vK (gV j true (some a0)) λw=>
 vK (gV j true (some a1)) λx=>
 qK S (λa=>gV j true (peV a .neq w x)) λy=>
 vK (aH j y (.bool false)) λk=>
 vK (gV k true (some a0)) λz=>
 qK S (λa=>gV k true (aM 3 a l)) λaa=>
 gK k true (λab=>ag prog kh #[z,aa] a ab) a λac f=>
 bL f λS=>
 vK (aH k ac (.bool false)) λb=>
 vK (gV b true (some a1)) λad=>
 vK (gV b true (aC 0 l)) λae=>
 qK S (λf=>gV b true (ldV f ae)) λaf=>
 gK b true (λah=>ag prog cf #[ad] f ah) f λaj n=>
 S n∧(gK b true (λal=>ag prog bR #[af] n al) n λam g=>
 bL g λS=>
 vK (gV b true (ak .i .eql aj am)) λan=>
 vK (aH b an (.bool false)) λc=>
 vK (gV c true (some a1)) λao=>
 vK (gV c true (aC 1 l)) λap=>
 qK S (λg=>gV c true (ldV g ap)) λaq=>
 gK c true (λar=>ag prog cj #[ao] g ar) g λau o=>
 S o∧(gK c true (λav=>ag prog bR #[aq] o av) o λaw q=>
 vK (gV c true (ak .i .eql au aw)) λax=>
 vK (aH c ax (.bool false)) λd=>
 vK (gV d true (some a1)) λay=>
 vK (gV d true (some a0)) λaz=>
 gK d true (λa3=>ag prog bu #[ay] q a3) q λa4 r=>
 gK d true (λa5=>ag prog bu #[az] r a5) r λa6 s=>
 vK (gV d true (ak .i .eql a4 a6)) λa7=>
 vK (aH d a7 (.bool false)) λe=>
 vK (gV e true (some a1)) λa8=>
 vK (gV e true (some a0)) λa9=>
 gK e true (λba=>ag prog dG #[a8] s ba) s λbb t=>
 gK e true (λbc=>ag prog dG #[a9] t bc) t λbd be=>
 vK (gV e true (ak .i .eql bb bd)) λbf=>
 vK (aH e bf (.bool false)) λbg=>
 R bg be))
theorem Mv (H:BB a0 a1 a2 h R):ag prog xA #[a0,a1,a2] h R:=fk f172 (.s .z (.s (.d (.op 0 .r (.op 1 .r (.op 2 .r (.op 3 .r (.op 4 .r (.op 5 .r (.op 6 .r (.op 7 .r (.op 8 .r (.op 9 .r (.op 10 .r (.op 11 .r (.op 12 .r (.op 13 .r (.op 14 .f (.op 15 .r (.op 16 .r (.op 17 .r (.op 19 .r (.op 20 .r (.op 18 .e (.op 21 .f (.op 22 .r (.op 23 .r (.op 24 .r (.op 25 .r (.op 27 .r (.op 28 .r (.op 26 .e (.op 29 .n (.op 30 .r (.op 31 .r (.op 32 .r (.op 33 .r (.op 35 .r (.op 34 .n (.op 36 .n (.op 37 .r (.op 38 .r (.op 39 .r (.op 40 .r (.op 42 .r (.op 41 .n (.op 43 .n (.op 44 .r (.op 45 .r (.op 46 .r .nil)))))))))))))))))))))))))))))))))))))))))))))))) .z)) H
def LI (a0 a1:Value)(h:ai)(R:Value→ai→Prop):Prop:=
 vK (kA aJ a0) λa=>
 vK (tW a (af 65536)) λb=>
 vK (kA aj a1) λc=>
 vK (tW c (af 262144)) λd=>
 Zb h λe f=>
 vK ((aR #[aj,aj,(.map none),(.slice none 0 0)] [(0,1,b),(1,1,d),(2,1,e)]).map .agg) λg=>
 aT (Value.cells g) 287 f λi j=>
 R i j
theorem VP (H:LI a0 a1 h R):ag prog Ic #[a0,a1] h R:=fk f173 (.s .z (.s .z .z)) H
def wG (a0:Value)(h:ai)(R:Value→ai→Prop):Prop:=
 aT #[aj,aj] 146 h λb l=>
 ag prog qe #[a0] l λm e=>
 aG m (
 vK ((aR #[aj,aj] []).map .agg) λn=>
 stK 2 b n e λar f=>
 vK (aM 2 f b) λo=>
 R o f) (
 ag prog lK #[a0] e λp q=>
 aT #[aj,(.slice none 0 0)] 189 q λc r=>
 stK 2 c p r λau a=>
 bL a λS=>
 vK (aX a0) λs=>
 vK (aC 15 s) λt=>
 qK S (λa=>ldV a t) λu=>
 vK (aC 0 c) λv=>
 qK S (λa=>ldV a v) λw=>
 vK (aC 0 c) λx=>
 qK S (λa=>ldV a x) λy=>
 vK (aC 1 c) λz=>
 qK S (λa=>ldV a z) λaa=>
 qK S (λa=>aD aa) λab=>
 vK (ak .i .add y ab) λac=>
 ag prog rX #[u,w,ac] a λg d=>
 vK (aP g 0) λad=>
 vK (aP g 1) λae=>
 aG ae (
 vK ((aR #[aj,aj] [(0,1,aJ),(1,1,ad)]).map .agg) λah=>
 stK 2 b ah d λav j=>
 vK (aM 2 j b) λal=>
 R al j) (
 vK (aX a0) λam=>
 vK (aC 16 am) λan=>
 vK (ldV d an) λao=>
 vK ((aR #[aj,aj] [(0,1,(af 2)),(1,1,ao)]).map .agg) λap=>
 stK 2 b ap d λaw k=>
 vK (aM 2 k b) λaq=>
 R aq k))
theorem GN (H:wG a0 h R):ag prog jn #[a0] h R:=fk f174 (.s .z (.s (.s .z (.s (.s .z .z) .z)) (.s .z (.s (.s (.d (.op 0 .r (.op 1 .r (.op 2 .r (.op 3 .r (.op 4 .r (.op 5 .r (.op 6 .r (.op 7 .r (.op 8 .r (.op 9 .r (.op 10 .r (.op 11 .r (.op 12 .n (.op 13 .r (.op 14 .r (.op 15 .r (.op 16 .r (.op 17 .r .nil))))))))))))))))))) (.s .z (.s (.s .z .z) .z))) (.s .z .z))))) H
def tj (a0 a1:Value)(h:ai)(R:Value→ai→Prop):Prop:=
 bL h λS=>
 vK (aX a0) λe=>
 vK (aC 2 e) λf=>
 vK (aC 2 f) λg=>
 qK S (λh=>ldV h g) λj=>
 vK (aX a0) λk=>
 vK (aC 0 k) λl=>
 qK S (λh=>ldV h l) λm=>
 ag prog cj #[m] h λn c=>
 S c∧(ag prog my #[j,a1,n] c λo d=>
 vK (aX a0) λp=>
 vK (aC 5 p) λq=>
 vK (aC 1 q) λr=>
 vK (aC 2 r) λs=>
 vK (ldV d s) λt=>
 bC [(.slice none 0 0),aj] d λa an b u=>
 vK (ak .i .lss (ix a 1) t) λv=>
 aG v (
 vK (aX a0) λw=>
 vK (aC 5 w) λx=>
 vK (aC 1 x) λy=>
 vK (aC 0 y) λz=>
 vK (ldV b z) λaa=>
 vK (ak .i .add aa (ix a 1)) λab=>
 ag prog mW #[a0,ab,o,(ix a 0)] b λac ad=>
 vK (ak .i .add (ix a 1) aJ) λae=>
 u [ac,ae] ad) (
 vK (aX a0) λaf=>
 vK (aC 15 af) λah=>
 vK (ldV b ah) λal=>
 ag prog uG #[al,a1,(ix a 0)] b λao am=>
 R (.tuple #[]) am))
theorem Da (H:tj a0 a1 h R):ag prog mV #[a0,a1] h R:=fk f175 (.s (.d (.op 0 .r (.op 1 .r (.op 2 .r (.op 3 .r (.op 4 .r (.op 5 .r (.op 6 .r (.op 7 .r (.op 8 .r (.op 9 .r (.op 10 .e (.op 11 .n (.op 12 .r .nil)))))))))))))) (.s .z (.s (.s .z (.l 2198989701216 [5,25] (.s .z (.s (.s .z .z) (.s (.s .z .z) .z))))) .z))) H
def uN (a0:Value)(h:ai)(R:Value→ai→Prop):Prop:=
 ag prog lK #[a0] h λt u=>
 aT #[aj,(.slice none 0 0)] 189 u λj v=>
 stK 2 j t v λcb k=>
 vK (aX a0) λw=>
 vK (aC 15 w) λx=>
 vK (ldV k x) λy=>
 ag prog qp #[y] k λl z=>
 mkK aj 2 1 8 l l z λe m=>
 vK (aC 1 j) λaa=>
 vK (ldV m aa) λn=>
 vK (aD n) λab=>
 bC [aj] m λf cc b ac=>
 vK (ak .i .lss (ix f 0) ab) λad=>
 aG ad (
 vK (bh 1 n (ix f 0)) λae=>
 vK (ldV b ae) λaf=>
 bL b λS=>
 vK (aX a0) λah=>
 vK (aC 15 ah) λal=>
 qK S (λb=>ldV b al) λam=>
 vK (aC 0 j) λan=>
 qK S (λb=>ldV b an) λao=>
 vK (ak .i .add ao (ix f 0)) λap=>
 ag prog uF #[am,ap] b λo aq=>
 vK (aP o 0) λp=>
 vK (aP o 1) λcd=>
 vK (aD p) λar=>
 bC [aj] aq λc ce g au=>
 vK (ak .i .lss (ix c 0) ar) λav=>
 aG av (
 vK (bh 1 p (ix c 0)) λaw=>
 vK (ldV g aw) λax=>
 vK (bh 1 e (ix c 0)) λay=>
 vK (ldV g ay) λaz=>
 vK (ak .i .mul af ax) λa1=>
 vK (ak .i .add az a1) λa2=>
 vK (bh 1 e (ix c 0)) λa3=>
 stK 1 a3 a2 g λcf a4=>
 vK (ak .i .add (ix c 0) aJ) λa5=>
 au [a5] a4) (
 vK (ak .i .add (ix f 0) aJ) λa6=>
 ac [a6] g)) (
 vK (aX a0) λa7=>
 vK (aC 1 a7) λa8=>
 vK (ldV b a8) λa9=>
 ag prog bu #[a9] b λq ba=>
 vK (aD e) λbb=>
 bC [aj] ba λd cg a bc=>
 vK (ak .i .lss (ix d 0) bb) λbd=>
 aG bd (
 vK (bh 1 e (ix d 0)) λbe=>
 vK (ldV a be) λbf=>
 bL a λS=>
 vK (aX a0) λbg=>
 vK (aC 1 bg) λbi=>
 qK S (λa=>ldV a bi) λbj=>
 vK (aX a0) λbk=>
 vK (aC 5 bk) λbl=>
 vK (aC 1 bl) λbm=>
 vK (aC 0 bm) λbn=>
 qK S (λa=>ldV a bn) λbo=>
 vK (ak .i .quo (ix d 0) q) λbp=>
 vK (ak .i .add bo bp) λbq=>
 vK (aX a0) λbr=>
 vK (aC 16 br) λbs=>
 qK S (λa=>ldV a bs) λbt=>
 vK (ak .i .rem (ix d 0) q) λbv=>
 vK (aX a0) λbw=>
 vK (aC 1 bw) λbx=>
 qK S (λa=>ldV a bx) λbz=>
 ag prog dG #[bz] a λb0 r=>
 S r∧(ag prog qL #[bf,b0] r λb1 s=>
 S s∧(ag prog gB #[bj,bq,bt,bv,b1] s λch b2=>
 vK (ak .i .add (ix d 0) aJ) λb3=>
 bc [b3] b2))) (
 vK (aX a0) λb4=>
 vK (aC 16 b4) λb5=>
 vK (ldV a b5) λb6=>
 vK (ak .i .add b6 aJ) λb7=>
 vK (aX a0) λb8=>
 vK (aC 16 b8) λb9=>
 stK 1 b9 b7 a λci ca=>
 R (.tuple #[]) ca))
theorem Fa (H:uN a0 h R):ag prog oH #[a0] h R:=fk f176 (.s .z (.s .z (.s (.s .z (.l 576460752286647280 [24] (.s .z (.s (.s .z .z) (.s (.s .z (.s (.d (.op 0 .r (.op 1 .r (.op 2 .r (.op 3 .r (.op 4 .r (.op 5 .r (.op 6 .r (.op 7 .r (.op 8 .n (.op 9 .r (.op 10 .r (.op 11 .r (.op 12 .r (.op 13 .r .nil))))))))))))))) (.s .z (.l 288221580058690304 [43] (.s .z (.s (.s .z .z) (.s (.s .z .z) .z))))))) .z))))) (.s .z (.s (.s .z (.l 2535301200382671826698568210432 [66] (.s .z (.s (.s .z .z) (.s (.s .z (.d (.op 0 .r (.op 1 .r (.op 2 .r (.op 3 .r (.op 4 .r (.op 5 .r (.op 6 .r (.op 7 .r (.op 8 .r (.op 9 .r (.op 10 .r (.op 11 .r (.op 12 .r (.op 13 .r (.op 14 .r (.op 15 .r (.op 16 .r (.op 17 .r (.op 18 .r (.op 19 .r (.op 20 .r (.op 21 .r (.op 22 .r (.op 23 .r (.op 24 .r (.op 25 .r (.op 26 .e (.op 27 .e (.op 28 .n .nil))))))))))))))))))))))))))))))) .z))))) .z))))) H
def Gb (a0:Value)(h:ai)(R:Value→ai→Prop):Prop:=
 aT (Value.cells a0) 120 h λc a=>
 vK (aC 0 c) λf=>
 vK (ldV a f) λg=>
 vK (ak .i .geq g aj) λd=>
 vK (gV d true (aC 2 c)) λj=>
 vK (gV d true (ldV a j)) λk=>
 vK (gV d true (ak .i .geq k aj)) λl=>
 vK (aH d l (.bool false)) λe=>
 vK (gV e true (aC 3 c)) λm=>
 vK (gV e true (ldV a m)) λn=>
 vK (gV e true (ak .i .geq n aj)) λo=>
 vK (aH e o (.bool false)) λb=>
 vK (gV b true (aC 3 c)) λp=>
 vK (gV b true (ldV a p)) λq=>
 vK (gV b true (aC 4 c)) λr=>
 vK (gV b true (ldV a r)) λs=>
 vK (gV b true (ak .i .lss q s)) λt=>
 vK (aH b t (.bool false)) λu=>
 R u a
theorem Rv (H:Gb a0 h R):ag prog Br #[a0] h R:=fk f178 (.s .z (.s .z .z)) H
def FJ (a0:Value)(h:ai)(R:Value→ai→Prop):Prop:=
 vK (ak .i .geq a0 aJ) λa=>
 vK (gV a true (some a0)) λb=>
 vK (gV a true (ak .i .leq b (af 65536))) λc=>
 vK (aH a c (.bool false)) λd=>
 R d h
theorem Q8 (H:FJ a0 h R):ag prog mE #[a0] h R:=fk f179 (.s .z (.s .z .z)) H
def BH (a0 a1 a2:Value)(h:ai)(R:Value→ai→Prop):Prop:=
 vK (ak .i .lss a0 aj) λd=>
 vK (gV d false (some a0)) λn=>
 vK (gV d false (ak .i .gtr n (af 2))) λo=>
 vK (aH d (.bool true) o) λb=>
 vK (gV b false (some a1)) λp=>
 gK b false (λq=>ag prog qy #[p] h q) h λr e=>
 vK (gV b false (unV .not r)) λs=>
 vK (aH b (.bool true) s) λc=>
 vK (gV c false (some a2)) λt=>
 gK c false (λu=>ag prog qy #[t] e u) e λv f=>
 vK (gV c false (unV .not v)) λw=>
 vK (aH c (.bool true) w) λx=>
 aG x (
 R (.tuple #[(.slice none 0 0),(af 6)]) f) (
 bC [(.slice none 0 0),aj] f λa aq g y=>
 vK (ak .i .lss (ix a 1) a2) λz=>
 aG z (
 ag prog yH #[a0,a1,a2,(ix a 1)] g λj aa=>
 vK (aP j 0) λab=>
 vK (aP j 1) λac=>
 ag prog jp #[ac] aa λk l=>
 vK (aP k 0) λad=>
 vK (aP k 1) λm=>
 vK (ak .i .neq m aj) λae=>
 aG ae (
 R (.tuple #[(.slice none 0 0),m]) l) (
 vK ((aR #[aj,(.slice none 0 0)] [(0,1,ab),(1,1,ad)]).map .agg) λah=>
 cO #[aj,(.slice none 0 0)] 240 1 [(0,2,ah)] l λal am=>
 cR (.agg #[aj,.slice none 0 0]) 240 2 32 (ix a 0) al am λan ao=>
 vK (ak .i .add (ix a 1) aJ) λap=>
 y [an,ap] ao)) (
 R (.tuple #[(ix a 0),aj]) g))
theorem MB (H:BH a0 a1 a2 h R):ag prog qA #[a0,a1,a2] h R:=fk f180 (.s .z (.s (.s .z (.s (.s .z .z) .z)) (.s .z (.s (.s .z (.l 144115185928388544 [8,31] (.s .z (.s (.s .z .z) (.s (.s .z (.s .z (.s .z (.s (.s .z (.s (.s .z .z) .z)) .z)))) .z))))) (.s .z .z))))) H
def xX (a0:Value)(h:ai)(R:Value→ai→Prop):Prop:=
 vK (ak .i .lss a0 aJ) λc=>
 vK (gV c false (some a0)) λf=>
 vK (gV c false (ak .i .gtr f (af 4194304))) λg=>
 vK (aH c (.bool true) g) λj=>
 aG j (
 R (.tuple #[(.slice none 0 0),(af 7)]) h) (
 bC [aj] h λb z d k=>
 vK (ak .i .mul (ix b 0) (af 65536)) λl=>
 vK (ak .i .mul (af 3) a0) λm=>
 vK (ak .i .lss l m) λn=>
 aG n (
 vK (ak .i .add (ix b 0) aJ) λo=>
 k [o] d) (
 vK (unV .neg (ix b 0)) λp=>
 bC [(.slice none 0 0),p] d λa aa e q=>
 vK (ak .i .leq (ix a 1) (ix b 0)) λr=>
 aG r (
 ag prog y9 #[(ix a 1),a0] e λs t=>
 cO #[aj] 2 1 [(0,1,s)] t λu v=>
 cR aj 2 1 8 (ix a 0) u v λw x=>
 vK (ak .i .add (ix a 1) aJ) λy=>
 q [w,y] x) (
 R (.tuple #[(ix a 0),aj]) e)))
theorem Jm (H:xX a0 h R):ag prog rY #[a0] h R:=fk f181 (.s .z (.s (.s .z (.s (.s .z .z) .z)) (.s .z (.s (.l 1040400 [4] (.s (.s .z (.s .z .z)) .z)) (.s .z (.s (.s .z (.l 8585740384 [5,6] (.s (.s .z (.s .z .z)) (.s .z .z)))) (.s .z .z))))))) H
def FS (a0:Value)(h:ai)(R:Value→ai→Prop):Prop:=
 vK (ak .i .lss a0 aj) λb=>
 vK (gV b false (some a0)) λe=>
 vK (gV b false (ak .i .gtr e (af 511))) λf=>
 vK (aH b (.bool true) f) λg=>
 aG g (
 R (.tuple #[(.slice none 0 0),(af 7)]) h) (
 vK (ak .i .mul (af 2) a0) λj=>
 vK (ak .i .add j aJ) λk=>
 bC [(.slice none 0 0),aj] h λa v c l=>
 vK (ak .i .lss (ix a 1) k) λm=>
 aG m (
 cO #[aj] 2 1 [(0,1,aJ)] c λn o=>
 cR aj 2 1 8 (ix a 0) n o λp q=>
 vK (ak .i .add (ix a 1) aJ) λr=>
 l [p,r] q) (
 ag prog qC #[(ix a 0)] c λd s=>
 vK (aP d 0) λt=>
 vK (aP d 1) λu=>
 R (.tuple #[t,u]) s))
theorem Ri (H:FS a0 h R):ag prog Bh #[a0] h R:=fk f182 (.s .z (.s (.s .z (.s (.s .z .z) .z)) (.s .z (.s (.s .z (.l 1032208 [4,14] (.s .z (.s (.s .z .z) (.s .z .z))))) (.s .z .z))))) H
def FP (a0:Value)(h:ai)(R:Value→ai→Prop):Prop:=
 ag prog y7 #[a0] h λc g=>
 vK (aD a0) λj=>
 vK (ak .i .rem j (af 2)) λk=>
 vK (ak .i .eql k aj) λb=>
 vK (gV b false (some a0)) λl=>
 vK (gV b false (aD l)) λm=>
 vK (gV b false (ak .i .gtr m (af 1024))) λn=>
 vK (aH b (.bool true) n) λd=>
 vK (gV d false (some c)) λo=>
 vK (gV d false (ak .i .eql o aj)) λp=>
 vK (aH d (.bool true) p) λe=>
 vK (gV e false (some c)) λq=>
 vK (gV e false (ak .i .gtr q (af 1048576))) λr=>
 vK (aH e (.bool true) r) λs=>
 aG s (
 R (.tuple #[(.slice none 0 0),(af 7)]) g) (
 vK (aD a0) λt=>
 bC [(.slice none 0 0),aj] g λa ah f u=>
 vK (ak .i .lss (ix a 1) t) λv=>
 aG v (
 vK (bh 1 a0 (ix a 1)) λw=>
 vK (ldV f w) λx=>
 ag prog dE #[x,(af 1073741824),c] f λy z=>
 cO #[aj] 2 1 [(0,1,y)] z λaa ab=>
 cR aj 2 1 8 (ix a 0) aa ab λac ad=>
 vK (ak .i .add (ix a 1) aJ) λae=>
 u [ac,ae] ad) (
 R (.tuple #[(ix a 0),aj]) f))
theorem Rf (H:FP a0 h R):ag prog qC #[a0] h R:=fk f183 (.s .z (.s .z (.s (.s .z (.s (.s .z .z) .z)) (.s .z (.s (.s .z (.l 1098974757024 [5,29] (.s .z (.s (.s .z .z) (.s (.s .z .z) .z))))) (.s .z .z)))))) H
def BI (a0 a1:Value)(h:ai)(R:Value→ai→Prop):Prop:=
 ag prog qy #[a1] h λg b=>
 vK (unV .not g) λj=>
 aG j (
 R (.tuple #[(.slice none 0 0),(af 6)]) b) (
 vK (aD a0) λk=>
 vK (ak .i .rem k (af 2)) λl=>
 vK (ak .i .eql l aj) λm=>
 aG m (
 R (.tuple #[(.slice none 0 0),(af 7)]) b) (
 ag prog jp #[a0] b λc d=>
 vK (aP c 0) λn=>
 vK (aP c 1) λe=>
 vK (ak .i .neq e aj) λo=>
 aG o (
 R (.tuple #[(.slice none 0 0),e]) d) (
 bC [(.slice none 0 0),aj] d λa aa f p=>
 vK (ak .i .lss (ix a 1) a1) λq=>
 aG q (
 vK (aD a0) λr=>
 vK (ak .i .quo r (af 2)) λs=>
 vK (ak .i .sub (ix a 1) s) λt=>
 vK ((aR #[aj,(.slice none 0 0)] [(0,1,t),(1,1,n)]).map .agg) λu=>
 cO #[aj,(.slice none 0 0)] 240 1 [(0,2,u)] f λv w=>
 cR (.agg #[aj,.slice none 0 0]) 240 2 32 (ix a 0) v w λx y=>
 vK (ak .i .add (ix a 1) aJ) λz=>
 p [x,z] y) (
 R (.tuple #[(ix a 0),aj]) f))))
theorem MC (H:BI a0 a1 h R):ag prog qB #[a0,a1] h R:=fk f184 (.s .z (.s (.s .z (.s (.s .z .z) .z)) (.s (.s .z (.s (.s .z .z) .z)) (.s .z (.s (.s .z (.s (.s .z .z) .z)) (.s .z (.s (.s .z (.l 1099444519680 [8,26] (.s .z (.s (.s .z .z) (.s (.s .z .z) .z))))) (.s .z .z)))))))) H
def CV (a0 a1 a2:Value)(h:ai)(R:Value→ai→Prop):Prop:=
 vK (tW a0 a2) λa=>
 vK (kA a1 a) λb=>
 R b h
theorem O0 (H:CV a0 a1 a2 h R):ag prog sY #[a0,a1,a2] h R:=fk f185 (.s .z (.s .z .z)) H
def IS (a0 a1:Value)(h:ai)(R:Value→ai→Prop):Prop:=
 vK (ak .i .eql a1 aj) λd=>
 vK (gV d false (some a1)) λe=>
 vK (gV d false (ak .i .eql e (af (-1)))) λf=>
 vK (aH d (.bool true) f) λg=>
 aG g (
 R aj h) (
 vK (ak .i .rem a0 a1) λc=>
 vK (ak .i .neq c aj) λa=>
 vK (gV a true (some c)) λj=>
 vK (gV a true (ak .i .lss j aj)) λk=>
 vK (gV a true (some a1)) λl=>
 vK (gV a true (ak .i .lss l aj)) λm=>
 vK (gV a true (ak .b .neq k m)) λn=>
 vK (aH a n (.bool false)) λo=>
 aG o (
 vK (ak .i .add c a1) λp=>
 R p h) (
 R c h))
theorem TQ (H:IS a0 a1 h R):ag prog uo #[a0,a1] h R:=fk f186 (.s .z (.s (.s .z (.s (.s .z .z) .z)) (.s .z (.s (.s .z (.s .z .z)) (.s .z .z))))) H
def LJ (a0 a1:Value)(h:ai)(R:Value→ai→Prop):Prop:=
 vK (aD a0) λa=>
 vK (ak .i .lss a1 a) λb=>
 aG b (
 vK (bh 1 a0 a1) λc=>
 vK (ldV h c) λd=>
 R d h) (
 R aj h)
theorem VQ (H:LJ a0 a1 h R):ag prog xD #[a0,a1] h R:=fk f187 (.s .z (.s (.s .z (.s (.s .z .z) .z)) (.s .z .z))) H
def jK (a0 a1:Value)(h:ai)(R:Value→ai→Prop):Prop:=
 vK (aD a0) λc=>
 vK (aD a1) λd=>
 vK (ak .i .neq c d) λe=>
 aG e (
 R (.bool false) h) (
 vK (aD a0) λf=>
 bC [aj] h λb q a g=>
 vK (ak .i .lss (ix b 0) f) λj=>
 aG j (
 vK (bh 1 a0 (ix b 0)) λk=>
 vK (ldV a k) λl=>
 vK (bh 1 a1 (ix b 0)) λm=>
 vK (ldV a m) λn=>
 vK (ak .i .neq l n) λo=>
 aG o (
 R (.bool false) a) (
 vK (ak .i .add (ix b 0) aJ) λp=>
 g [p] a)) (
 R (.bool true) a))
theorem qO (H:jK a0 a1 h R):ag prog gA #[a0,a1] h R:=fk f188 (.s .z (.s (.s .z (.s (.s .z .z) .z)) (.s (.s .z (.l 67100720 [13] (.s .z (.s (.s .z .z) (.s (.s .z (.s .z (.s (.s .z .z) .z))) .z))))) (.s .z .z)))) H
def FZ (a0 a1 a2 a3:Value)(h:ai)(R:Value→ai→Prop):Prop:=
 ag prog LB #[a0,a1,a2,a3] h λg b=>
 vK (unV .not g) λj=>
 aG j (
 R (.tuple #[aj,aj]) b) (
 vK (ak .i .mul a3 a1) λk=>
 ag prog kW #[k,a2] b λc l=>
 vK (ak .i .add a3 aJ) λm=>
 vK (ak .i .mul m a1) λn=>
 ag prog Bk #[n,a2] l λo a=>
 vK (ak .i .neq a0 aj) λp=>
 aG p (
 vK (ak .i .mul (af 2) a3) λq=>
 vK (ak .i .add q aJ) λr=>
 vK (ak .i .mul r a1) λs=>
 vK (ak .i .sub s a2) λd=>
 vK (PF 3 2 (.pointer (some ⟨gh,0,none⟩)) a0) λt=>
 vK (aC 1 t) λu=>
 vK (ldV a u) λv=>
 vK (ak .i .mul v (af 2)) λw=>
 vK (kA a1 a2) λx=>
 vK (ak .i .mul w x) λe=>
 vK (ak .i .sub d e) λy=>
 vK (ak .i .mul (af 2) a2) λz=>
 ag prog kW #[y,z] a λaa ab=>
 vK (ak .i .add aa aJ) λf=>
 vK (ak .i .add d e) λac=>
 vK (ak .i .mul (af 2) a2) λad=>
 ag prog Bk #[ac,ad] ab λae ah=>
 vK (ak .i .sub ae f) λal=>
 R (.tuple #[f,al]) ah) (
 vK (ak .i .sub o c) λam=>
 R (.tuple #[c,am]) a))
theorem Rq (H:FZ a0 a1 a2 a3 h R):ag prog Bm #[a0,a1,a2,a3] h R:=fk f200 (.s .z (.s (.s .z (.s (.s .z .z) .z)) (.s .z (.s (.s .z (.s (.s .z .z) .z)) (.s .z .z))))) H
def II (a0 a1 a2 a3 a4:Value)(h:ai)(R:Value→ai→Prop):Prop:=
 vK (ak .i .eql a0 aj) λc=>
 aG c (
 vK (ak .i .add a3 aJ) λd=>
 vK (ak .i .mul d a1) λe=>
 vK (ak .i .add a4 aJ) λf=>
 vK (ak .i .mul f a2) λg=>
 vK (tW e g) λj=>
 vK (ak .i .mul a3 a1) λk=>
 vK (ak .i .mul a4 a2) λl=>
 vK (kA k l) λm=>
 vK (ak .i .sub j m) λn=>
 ag prog ft #[n,(af 1073741824),a1] h λo p=>
 R o p) (
 vK (ak .i .mul (af 2) a2) λq=>
 vK (ak .i .mul q a4) λr=>
 vK (ak .i .mul (af 2) a3) λs=>
 vK (ak .i .add s aJ) λt=>
 vK (ak .i .mul t a1) λu=>
 vK (ak .i .sub r u) λv=>
 vK (ak .i .add v a2) λa=>
 vK (kA a1 a2) λw=>
 vK (ak .i .mul (af 2) w) λb=>
 vK (ak .i .eql a0 aJ) λx=>
 aG x (
 ag prog xF #[a,b] h λy z=>
 R y z) (
 ag prog xC #[a,b] h λaa ab=>
 R aa ab))
theorem TH (H:II a0 a1 a2 a3 a4 h R):ag prog Eb #[a0,a1,a2,a3,a4] h R:=fk f201 (.s .z (.s (.s .z (.s (.s .z (.s .z .z)) .z)) (.s .z (.s (.s .z (.s (.s .z .z) .z)) (.s .z .z))))) H
def Fw (a0:Value)(h:ai)(R:Value→ai→Prop):Prop:=
 vK (aD a0) λe=>
 vK (ak .i .eql e aj) λa=>
 vK (gV a false (some a0)) λf=>
 vK (gV a false (aD f)) λg=>
 vK (gV a false (ak .i .gtr g (af 1048576))) λj=>
 vK (aH a (.bool true) j) λb=>
 vK (gV b false (some a0)) λk=>
 gK b false (λl=>ag prog eG #[k,(.func (.func nQ) #[] #[])] h l) h λm c=>
 vK (aH b (.bool true) m) λn=>
 aG n (
 R (af 7) c) (
 ag prog Ba #[a0] c λo d=>
 vK (ak .i .lss o (af 268435456)) λp=>
 aG p (
 R (af 8) d) (
 R aj d))
theorem QP (H:Fw a0 h R):ag prog A9 #[a0] h R:=fk f202 (.s .z (.s (.s .z (.s (.s .z .z) .z)) (.s (.s .z (.s (.s .z .z) .z)) (.s .z .z)))) H
def LG (a0:Value)(h:ai)(R:Value→ai→Prop):Prop:=
 vK (aD a0) λc=>
 bC [aj,aj] h λa m b d=>
 vK (ak .i .lss (ix a 1) c) λe=>
 aG e (
 vK (bh 1 a0 (ix a 1)) λf=>
 vK (ldV b f) λg=>
 ag prog yL #[(ix a 0),g] b λj k=>
 vK (ak .i .add (ix a 1) aJ) λl=>
 d [j,l] k) (
 R (ix a 0) b)
theorem VM (H:LG a0 h R):ag prog Ba #[a0] h R:=fk f203 (.s .z (.s .z (.s (.s .z (.l 65320 [3,8] (.s .z (.s (.s .z .z) (.s (.s .z .z) .z))))) (.s .z .z)))) H
def CU (a0 a1:Value)(h:ai)(R:Value→ai→Prop):Prop:=
 vK (ak .i .eql a1 aj) λe=>
 aG e (
 R aj h) (
 bL h λS=>
 ag prog jz #[a0] h λf g=>
 ag prog jz #[a1] g λj k=>
 vK (ak .i .quo f j) λc=>
 ag prog jz #[a0] k λl m=>
 ag prog jz #[a1] m λn d=>
 vK (ak .i .rem l n) λo=>
 vK (ak .i .lss a0 aj) λp=>
 vK (ak .i .lss a1 aj) λq=>
 vK (ak .b .neq p q) λa=>
 vK (gV a true (some o)) λr=>
 vK (gV a true (ak .i .neq r (.int .u64 0))) λs=>
 vK (aH a s (.bool false)) λt=>
 aG t (
 vK (ak .i .add c (.int .u64 1)) λu=>
 ag prog mH #[u,a] d λv w=>
 R v w) (
 ag prog mH #[c,a] d λx y=>
 R x y))
theorem OZ (H:CU a0 a1 h R):ag prog kW #[a0,a1] h R:=fk f204 (.s .z (.s (.s .z (.s (.s .z .z) .z)) (.s (.d (.op 0 .r (.op 2 .r (.op 5 .r (.op 7 .r (.op 1 .n (.op 3 .n (.op 4 .r (.op 6 .n (.op 8 .n (.op 9 .r (.op 10 .r (.op 11 .r .nil))))))))))))) (.s .z (.s (.s .z (.s .z .z)) (.s .z .z)))))) H
def iG (a0 a1:Value)(h:ai)(R:Value→ai→Prop):Prop:=
 vK (aD a0) λa=>
 ag prog iU #[a0,a,a1] h λc b=>
 R (.tuple #[]) b
theorem nA (H:iG a0 a1 h R):ag prog fH #[a0,a1] h R:=fk f205 .z H
def tt (a0 a1 a2:Value)(h:ai)(R:Value→ai→Prop):Prop:=
 bL h λS=>
 qK S (λh=>ldV h a2) λa=>
 vK (bh 1 a a1) λb=>
 qK S (λh=>ldV h b) λc=>
 qK S (λh=>ldV h a2) λd=>
 vK (bh 1 d a0) λe=>
 qK S (λh=>ldV h e) λf=>
 ag prog nh #[c,f] h λg i=>
 R g i
theorem Dc (H:tt a0 a1 a2 h R):ag prog mX #[a0,a1,a2] h R:=fk f206 (.s .z (.s (.d (.op 0 .r (.op 1 .r (.op 2 .r (.op 3 .r (.op 4 .r (.op 5 .r (.op 6 .r (.op 7 .r (.op 8 .n (.op 9 .r .nil))))))))))) .z)) H
def tJ (a0 a1:Value)(h:ai)(R:Value→ai→Prop):Prop:=
 ag prog lP #[a0] h λc d=>
 ag prog lP #[a1] d λb a=>
 aG c (
 aG b (
 R aj a) (
 R (af (-1)) a)) (
 aG b (
 R aJ a) (
 vK (ak .i .lss a0 a1) λe=>
 aG e (
 R (af (-1)) a) (
 vK (ak .i .gtr a0 a1) λf=>
 aG f (
 R aJ a) (
 R aj a))))
theorem Dn (H:tJ a0 a1 h R):ag prog nh #[a0,a1] h R:=fk f207 (.s .z (.s .z (.s .z (.s (.s .z (.s (.s (.s .z (.s (.s .z .z) .z)) (.s .z .z)) .z)) (.s (.s .z (.s (.s .z .z) .z)) (.s (.s .z (.s (.s .z .z) .z)) (.s (.s .z (.s (.s .z .z) .z)) (.s .z .z)))))))) H
def Ir (a0:Value)(h:ai)(R:Value→ai→Prop):Prop:=
 vK (aD a0) λc=>
 bC [aj,aj] h λa o b d=>
 vK (ak .i .lss (ix a 1) c) λe=>
 aG e (
 vK (bh 1 a0 (ix a 1)) λf=>
 vK (ldV b f) λg=>
 ag prog yD #[g] b λj k=>
 ag prog yL #[(ix a 0),j] k λl m=>
 vK (ak .i .add (ix a 1) aJ) λn=>
 d [l,n] m) (
 R (ix a 0) b)
theorem Tr (H:Ir a0 h R):ag prog yE #[a0] h R:=fk f208 (.s .z (.s .z (.s (.s .z (.l 130856 [3,8] (.s .z (.s (.s .z .z) (.s (.s .z .z) .z))))) (.s .z .z)))) H
def Gj (a0 a1:Value)(h:ai)(R:Value→ai→Prop):Prop:=
 ag prog Bu #[a0,a1] h λa b=>
 ag prog Ig #[a] b λc d=>
 ag prog kV #[c,(af 10)] d λe f=>
 R e f
theorem RD (H:Gj a0 a1 h R):ag prog Bv #[a0,a1] h R:=fk f209 (.s .z (.s .z .z)) H
def jJ (a0 a1:Value)(h:ai)(R:Value→ai→Prop):Prop:=
 eM (λe=>
 vK (ak .i .lss a1 aj) λm=>
 aG m (
 PN h λan n=>
 e [] n) (
 e [] h))
 λao ap o=>
 vK (aD a0) λp=>
 vK (gS .u64 p) λq=>
 vK (gS .u64 a1) λr=>
 ag prog uL #[q,r] o λf g=>
 vK (aP f 0) λs=>
 vK (aP f 1) λj=>
 eM (λk=>
 vK (ak .i .gtr s (.int .u64 0)) λc=>
 vK (gV c false (some j)) λt=>
 vK (gV c false (ak .i .gtr t (.int .u64 9223372036854775807))) λu=>
 vK (aH c (.bool true) u) λv=>
 aG v (
 PN g λaq w=>
 k [] w) (
 k [] g))
 λar au x=>
 vK (gS .i64 j) λl=>
 mkK aj 2 1 8 l l x λa y=>
 HA 1 a a0 y λz aa=>
 bC [z] aa λb av d ab=>
 vK (aD a) λac=>
 vK (ak .i .lss (ix b 0) ac) λad=>
 aG ad (
 bL d λS=>
 vK (ni 1 a (some (ix b 0)) none) λae=>
 vK (ni 1 a none (some (ix b 0))) λaf=>
 HA 1 ae af d λah al=>
 vK (ak .i .add (ix b 0) ah) λam=>
 ab [am] al) (
 R a d)
theorem qN (H:jJ a0 a1 h R):ag prog gy #[a0,a1] h R:=fk f210 (.s .z (.j 3584 [] (.s .z (.s .z .z)) (.s .z (.j 266338304 [] (.s .z (.s .z .z)) (.s .z (.s .z (.s (.l 140720308486400 [8] (.s (.s .z (.s .z .z)) (.d (.op 0 .r (.op 1 .r (.op 2 .r (.op 3 .r (.op 4 .r (.op 5 .r (.op 6 .r (.op 7 .n (.op 8 .r (.op 9 .r .nil))))))))))))) (.s .z .z)))))))) H
def Cm (a0 a1 a2:Value)(h:ai)(R:Value→ai→Prop):Prop:=
 vK (ak .i .eql a2 aj) λr=>
 aG r (
 R aj h) (
 ag prog qf #[a0,a1] h λe s=>
 vK (aP e 0) λj=>
 vK (aP e 1) λt=>
 vK (aP e 2) λu=>
 ag prog uk #[a2] s λf k=>
 vK (ak .i .lss a2 aj) λv=>
 vK (ak .b .neq u v) λa=>
 vK (ak .i .geq j f) λw=>
 aG w (
 ag prog fo #[(.int .u64 1),(.int .u64 0),a] k λx y=>
 R x y) (
 ag prog qG #[j,t,f] k λl m=>
 vK (aP l 0) λn=>
 vK (aP l 1) λg=>
 vK (ak .i .sub f g) λo=>
 vK (gV a true (some g)) λz=>
 vK (gV a true (some o)) λaa=>
 vK (gV a true (ak .i .gtr z aa)) λab=>
 vK (aH a ab (.bool false)) λc=>
 vK (gV c false (some a)) λac=>
 vK (gV c false (unV .not ac)) λad=>
 vK (gV c false (some ad)) λd=>
 vK (gV d true (some g)) λae=>
 vK (gV d true (some o)) λaf=>
 vK (gV d true (ak .i .geq ae af)) λah=>
 vK (gV c false (aH d ah (.bool false))) λal=>
 vK (aH c (.bool true) al) λam=>
 aG am (
 ag prog gZ #[n,(.int .u64 1),(.int .u64 0)] m λp an=>
 vK (aP p 0) λao=>
 vK (aP p 1) λap=>
 ag prog fo #[ap,ao,a] an λaq ar=>
 R aq ar) (
 ag prog gZ #[n,(.int .u64 0),(.int .u64 0)] m λq au=>
 vK (aP q 0) λav=>
 vK (aP q 1) λaw=>
 ag prog fo #[aw,av,a] au λax ay=>
 R ax ay)))
theorem Ot (H:Cm a0 a1 a2 h R):ag prog ft #[a0,a1,a2] h R:=fk f211 (.s .z (.s (.s .z (.s (.s .z .z) .z)) (.s .z (.s .z (.s .z (.s (.s .z (.s (.s .z .z) .z)) (.s .z (.s .z (.s .z (.s (.s .z (.s .z .z)) (.s .z (.s .z .z)))))))))))) H
def CQ (h:ai)(R:Value→ai→Prop):Prop:=
 ag prog zy #[] h λs l=>
 vK (unV .not s) λe=>
 gK e false (λt=>ag prog zv #[] l t) l λu m=>
 vK (gV e false (unV .not u)) λv=>
 vK (aH e (.bool true) v) λw=>
 aG w (
 R (.bool false) m) (
 ag prog mm #[aj,(af 4),(af 2)] m λn o=>
 vK (aP n 0) λb=>
 vK (aP n 1) λx=>
 vK (ak .i .neq x aj) λf=>
 vK (gV f false (some b)) λy=>
 vK (gV f false (ak .p .eql y (.pointer none))) λz=>
 vK (aH f (.bool true) z) λaa=>
 aG aa (
 R (.bool false) o) (
 ag prog bM #[b,aJ] o λab ac=>
 aT #[aj,(.slice none 0 0)] 189 ac λg ad=>
 stK 2 g ab ad λa6 ae=>
 ag prog iu #[b,aj,(af 2)] ae λq ah=>
 vK (aP q 0) λal=>
 vK (aP q 1) λam=>
 ag prog bM #[b,aj] ah λan c=>
 vK (rh false 1 0 an) λao=>
 vK (ak .i .eql ao aj) λd=>
 vK (gV d true (aC 0 g)) λap=>
 vK (gV d true (ldV c ap)) λaq=>
 vK (gV d true (ak .i .eql aq (af 2))) λar=>
 vK (aH d ar (.bool false)) λa=>
 vK (gV a true (aC 1 g)) λau=>
 vK (gV a true (ldV c au)) λav=>
 gK a true (λaw=>cO #[aj,aj] 2 2 [(0,1,(af 8192)),(1,1,(af 8192))] c aw) c λax r=>
 gK a true (λay=>ag prog vZ #[av,ax] r ay) r λaz a0=>
 vK (aH a az (.bool false)) λj=>
 vK (gV j true (some al)) λa1=>
 vK (gV j true (ak .i .eql a1 aj)) λa2=>
 vK (aH j a2 (.bool false)) λk=>
 vK (gV k true (some am)) λa3=>
 vK (gV k true (ak .i .eql a3 (af 4))) λa4=>
 vK (aH k a4 (.bool false)) λa5=>
 R a5 a0))
theorem OV (H:CQ h R):ag prog zt #[] h R:=fk f212 (.s .z (.s (.s .z (.s (.s .z .z) .z)) (.s .z (.s (.s .z (.s (.s .z .z) .z)) (.s .z (.s .z (.s .z .z))))))) H
def oP (a0:Value)(h:ai)(R:Value→ai→Prop):Prop:=
 vK (aX a0) λa=>
 vK (aC 4 a) λb=>
 vK (ldV h b) λc=>
 ag prog dN #[c] h λd e=>
 R d e
theorem Aa (H:oP a0 h R):ag prog kK #[a0] h R:=fk f213 (.s .z (.s .z .z)) H
def uS (a0 a1 a2 a3 a4:Value)(h:ai)(R:Value→ai→Prop):Prop:=
 ag prog ju #[a0,a1,a2,a3] h λc b=>
 vK (ak .i .lss c aj) λa=>
 vK (gV a false (some a4)) λd=>
 vK (gV a false (gS .i64 d)) λe=>
 vK (gV a false (some a0)) λf=>
 vK (gV a false (aX f)) λg=>
 vK (gV a false (aC 3 g)) λj=>
 vK (gV a false (ldV b j)) λk=>
 vK (gV a false (ak .i .gtr e k)) λl=>
 vK (aH a (.bool true) l) λm=>
 aG m (
 R (.bool false) b) (
 vK (aX a0) λn=>
 vK (aC 4 n) λo=>
 vK (ldV b o) λp=>
 vK (bh 1 p c) λq=>
 stK 1 q a4 b λs r=>
 R (.bool true) r)
theorem Fg (H:uS a0 a1 a2 a3 a4 h R):ag prog gB #[a0,a1,a2,a3,a4] h R:=fk f214 (.s .z (.s .z (.s (.s .z (.s (.s .z .z) .z)) (.s .z (.s .z .z))))) H
def BR (a0 a1:Value)(h:ai)(R:Value→ai→Prop):Prop:=
 ag prog kV #[a0,(af 28)] h λa b=>
 vK (tW a1 (af 65535)) λc=>
 vK (kA aj c) λd=>
 ag prog sY #[a,aj,d] b λe f=>
 vK (gS .u16 e) λg=>
 R g f
theorem ML (H:BR a0 a1 h R):ag prog qL #[a0,a1] h R:=fk f215 (.s .z (.s .z .z)) H
def Gk (a0 a1 a2 a3 a4:Value)(h:ai)(R:Value→ai→Prop):Prop:=
 aT (Value.cells a1) 81 h λf s=>
 vK (aM 3 s f) λbe=>
 ag prog kh #[a0,be] s λbf t=>
 vK (unV .not bf) λo=>
 vK (gV o false (some a4)) λbg=>
 vK (gV o false (ak .i .lss bg aj)) λbi=>
 vK (aH o (.bool true) bi) λg=>
 vK (gV g false (some a4)) λbj=>
 vK (gV g false (some a0)) λbk=>
 gK g false (λbl=>ag prog bu #[bk] t bl) t λbm a=>
 vK (gV g false (ak .i .geq bj bm)) λbn=>
 vK (aH g (.bool true) bn) λbo=>
 aG bo (
 R aj a) (
 eM (λbp=>
 bL a λS=>
 vK (aC 0 f) λbq=>
 qK S (λa=>ldV a bq) λj=>
 vK (aC 1 f) λbr=>
 qK S (λa=>ldV a br) λk=>
 (λC33:Value→Value→Value→Value→ai→Prop=>
 (λC40:Value→Value→Value→ai→Prop=>
 (λC47:Value→Value→Value→ai→Prop=>
 (λC54:Value→Value→Value→ai→Prop=>
 (λC62:Value→Value→ai→Prop=>
 (λC70:Value→Value→ai→Prop=>
 (λC76:Value→Value→ai→Prop=>
 (ag prog bM #[j,a2] a λl m=>
 S m∧((ag prog bM #[k,a3] m λu p=>
 S p∧((aT #[aj,(.slice none 0 0)] 189 p λbs v=>
 S v∧(C40 l u bs v))∧(aT #[aj,(.slice none 0 0)] 189 p λbt w=>
 S w∧(C47 l u bt w))))∧((aT #[aj,(.slice none 0 0)] 189 m λbv x=>
 S x∧(C62 l bv x))∧(aT #[aj,(.slice none 0 0)] 189 m λbw y=>
 S y∧(C70 l bw y)))))∧((aT #[aj,(.slice none 0 0)] 189 a λz q=>
 S q∧((ag prog bM #[j,a2] q λbx aa=>
 S aa∧(C62 bx z aa))∧(aT #[aj,(.slice none 0 0)] 189 q λbz ab=>
 S ab∧(C76 z bz ab))))∧(aT #[aj,(.slice none 0 0)] 189 a λac r=>
 S r∧((ag prog bM #[j,a2] r λb0 ad=>
 S ad∧(C70 b0 ac ad))∧(aT #[aj,(.slice none 0 0)] 189 r λb1 ae=>
 S ae∧(C76 b1 ac ae)))))) (λb2 b3 b4=>
 ag prog bM #[j,a2] b4 λb5 af=>
 S af∧(C54 b5 b2 b3 af))) (λah al am=>
 (ag prog bM #[k,a3] am λb6 an=>
 S an∧(C47 ah b6 al an))∧(aT #[aj,(.slice none 0 0)] 189 am λb7 ao=>
 S ao∧(C54 ah b7 al ao)))) (λap aq ar=>
 (ag prog bM #[k,a3] ar λb8 au=>
 S au∧(C40 ap b8 aq au))∧(aT #[aj,(.slice none 0 0)] 189 ar λb9 av=>
 S av∧(C54 ap aq b9 av)))) (λca cb cc cd=>
 ag prog bM #[k,a3] cd λce aw=>
 S aw∧(C33 ca ce cb cc aw))) (λcg ch ci ck=>
 aT #[aj,(.slice none 0 0)] 189 ck λcl ax=>
 S ax∧(C33 cg ch cl ci ax))) (λcm cn co cp=>
 aT #[aj,(.slice none 0 0)] 189 cp λcq ay=>
 S ay∧(C33 cm cn co cq ay))) (λcr cs az a5 ct=>
 stK 2 az cr ct λdu a6=>
 S a6∧(stK 2 a5 cs a6 λdv a7=>
 S a7∧(bp [az,a5] a7))))
 λn dw a8=>
 vK (aC 1 (ix n 1)) λcu=>
 vK (ldV a8 cu) λa9=>
 vK (aD a9) λcv=>
 bC [aj,aj] a8 λd dx b cw=>
 vK (ak .i .lss (ix d 1) cv) λcx=>
 aG cx (
 vK (bh 1 a9 (ix d 1)) λcy=>
 vK (ldV b cy) λcz=>
 bL b λS=>
 vK (aC 2 f) λc0=>
 qK S (λb=>ldV b c0) λc1=>
 vK (aC 0 (ix n 1)) λc2=>
 qK S (λb=>ldV b c2) λc3=>
 vK (ak .i .add c3 (ix d 1)) λc4=>
 ag prog cj #[a0] b λc5 ba=>
 S ba∧(ag prog my #[c1,c4,c5] ba λc6 bb=>
 vK (aC 1 (ix n 0)) λc7=>
 vK (ldV bb c7) λbc=>
 vK (aD bc) λc8=>
 bC [(ix d 0),aj] bb λe dy c c9=>
 vK (ak .i .lss (ix e 1) c8) λda=>
 aG da (
 vK (bh 1 bc (ix e 1)) λdb=>
 vK (ldV c db) λdc=>
 bL c λS=>
 vK (aC 2 f) λdd=>
 qK S (λc=>ldV c dd) λde=>
 vK (aC 0 (ix n 0)) λdf=>
 qK S (λc=>ldV c df) λdg=>
 vK (ak .i .add dg (ix e 1)) λdh=>
 ag prog cf #[a0] c λdi bd=>
 S bd∧(ag prog my #[de,dh,di] bd λdj dk=>
 vK (ak .i .mul dc cz) λdl=>
 ag prog gY #[a0,dj,c6,a4] dk λdm dn=>
 vK (gS .i64 dm) λdp=>
 vK (ak .i .mul dl dp) λdq=>
 vK (ak .i .add (ix e 0) dq) λdr=>
 vK (ak .i .add (ix e 1) aJ) λds=>
 c9 [dr,ds] dn)) (
 vK (ak .i .add (ix d 1) aJ) λdt=>
 cw [(ix e 0),dt] c))) (
 R (ix d 0) b))
theorem RE (H:Gk a0 a1 a2 a3 a4 h R):ag prog Bw #[a0,a1,a2,a3,a4] h R:=fk f216 (.s .z (.s (.s .z (.s (.s .z .z) .z)) (.j 4380866648064 [11,12] (.d (.op 0 .r (.op 1 .r (.op 2 .r (.op 4 .r (.op 5 .r (.op 6 .r (.alt (.op 3 .e (.alt (.op 7 .e (.alt (.op 8 .e (.op 9 .e (.op 10 .e (.op 11 .e .nil)))) (.op 9 .e (.op 8 .e (.op 10 .e (.op 11 .e .nil)))))) (.alt (.op 8 .e (.alt (.op 7 .e (.op 9 .e (.op 10 .e (.op 11 .e .nil)))) (.op 9 .e (.op 7 .e (.op 10 .e (.op 11 .e .nil)))))) (.op 9 .e (.alt (.op 7 .e (.op 8 .e (.op 10 .e (.op 11 .e .nil)))) (.op 8 .e (.op 7 .e (.op 10 .e (.op 11 .e .nil))))))))) (.alt (.op 8 .e (.alt (.op 3 .e (.alt (.op 7 .e (.op 9 .e (.op 10 .e (.op 11 .e .nil)))) (.op 9 .e (.op 7 .e (.op 10 .e (.op 11 .e .nil)))))) (.op 9 .e (.op 3 .e (.op 7 .e (.op 10 .e (.op 11 .e .nil))))))) (.op 9 .e (.alt (.op 3 .e (.alt (.op 7 .e (.op 8 .e (.op 10 .e (.op 11 .e .nil)))) (.op 8 .e (.op 7 .e (.op 10 .e (.op 11 .e .nil)))))) (.op 8 .e (.op 3 .e (.op 7 .e (.op 10 .e (.op 11 .e .nil)))))))))))))))) (.s .z (.s (.s .z (.l 1237940039285345090528075776 [13,45] (.s .z (.s (.s .z .z) (.s (.s .z (.s (.d (.op 0 .r (.op 1 .r (.op 2 .r (.op 3 .r (.op 4 .r (.op 5 .r (.op 6 .r (.op 7 .e (.op 8 .n (.op 9 .r .nil))))))))))) (.s .z (.l 618970015031004119023099904 [13,62] (.s .z (.s (.s .z .z) (.s (.s .z (.s (.d (.op 0 .r (.op 1 .r (.op 2 .r (.op 3 .r (.op 4 .r (.op 5 .r (.op 6 .r (.op 7 .e (.op 8 .n (.op 9 .r .nil))))))))))) .z)) .z))))))) .z))))) (.s .z .z)))))) H
def wD (a0:Value)(h:ai)(R:Value→ai→Prop):Prop:=
 vK (aX a0) λa=>
 vK (aC 16 a) λb=>
 vK (ldV h b) λc=>
 vK (aX a0) λd=>
 vK (aC 5 d) λe=>
 vK (aC 1 e) λf=>
 vK (aC 1 f) λg=>
 vK (ldV h g) λj=>
 vK (aX a0) λk=>
 vK (aC 5 k) λl=>
 vK (aC 1 l) λm=>
 vK (aC 3 m) λn=>
 vK (ldV h n) λo=>
 vK (ak .i .add j o) λp=>
 vK (ak .i .geq c p) λq=>
 R q h
theorem GK (H:wD a0 h R):ag prog qe #[a0] h R:=fk f217 (.s .z (.s .z .z)) H
def wE (a0:Value)(h:ai)(R:Value→ai→Prop):Prop:=
 aT #[aj,(.slice none 0 0)] 189 h λb a=>
 bL a λS=>
 vK (aX a0) λd=>
 vK (aC 2 d) λe=>
 vK (aC 1 e) λf=>
 qK S (λa=>ldV a f) λg=>
 vK (aX a0) λi=>
 vK (aC 16 i) λj=>
 qK S (λa=>ldV a j) λk=>
 ag prog bM #[g,k] a λl m=>
 stK 2 b l m λo c=>
 vK (aM 2 c b) λn=>
 R n c
theorem GL (H:wE a0 h R):ag prog lK #[a0] h R:=fk f218 (.s .z (.s (.d (.op 0 .r (.op 1 .r (.op 2 .r (.op 3 .r (.op 4 .r (.op 5 .r (.op 6 .r (.op 7 .r (.op 8 .r (.op 9 .n (.op 10 .n .nil)))))))))))) .z)) H
def xW (a0 a1 a2:Value)(h:ai)(R:Value→ai→Prop):Prop:=
 bC [a1] h λa k b d=>
 vK (ak .i .lss (ix a 0) a2) λe=>
 aG e (
 ag prog nT #[a0,(ix a 0)] b λf c=>
 vK (unV .not f) λg=>
 aG g (
 R (.tuple #[(ix a 0),(.bool true)]) c) (
 vK (ak .i .add (ix a 0) aJ) λj=>
 d [j] c)) (
 R (.tuple #[aj,(.bool false)]) b)
theorem Jl (H:xW a0 a1 a2 h R):ag prog rX #[a0,a1,a2] h R:=fk f219 (.s .z (.s (.s .z (.l 1048000 [8] (.s (.s .z (.s .z .z)) (.s (.s .z (.s (.s .z .z) .z)) .z)))) (.s .z .z))) H
def tm (a0 a1 a2 a3:Value)(h:ai)(R:Value→ai→Prop):Prop:=
 vK (aX a0) λl=>
 vK (aC 2 l) λm=>
 vK (aC 0 m) λn=>
 vK (ldV h n) λo=>
 ag prog bM #[o,a1] h λp q=>
 aT #[aj,(.slice none 0 0)] 189 q λd r=>
 stK 2 d p r λbf f=>
 vK (aX a0) λs=>
 vK (aC 0 s) λt=>
 vK (ldV f t) λu=>
 ag prog bu #[u] f λv w=>
 bC [a3,aj] w λc bg e x=>
 vK (ak .i .lss (ix c 1) v) λy=>
 aG y (
 vK (aC 1 d) λz=>
 vK (ldV e z) λg=>
 vK (aD g) λaa=>
 bC [aj,aj] e λb bi a ab=>
 vK (ak .i .lss (ix b 1) aa) λac=>
 aG ac (
 vK (bh 1 g (ix b 1)) λad=>
 vK (ldV a ad) λae=>
 bL a λS=>
 vK (aX a0) λaf=>
 vK (aC 2 af) λah=>
 vK (aC 2 ah) λal=>
 qK S (λa=>ldV a al) λam=>
 vK (aC 0 d) λan=>
 qK S (λa=>ldV a an) λao=>
 vK (ak .i .add ao (ix b 1)) λap=>
 vK (aX a0) λaq=>
 vK (aC 0 aq) λar=>
 qK S (λa=>ldV a ar) λau=>
 ag prog cf #[au] a λav j=>
 S j∧(ag prog my #[am,ap,av] j λaw k=>
 vK (aX a0) λax=>
 vK (aC 0 ax) λay=>
 vK (ldV k ay) λaz=>
 ag prog gY #[az,aw,a2,(ix c 1)] k λa4 a5=>
 vK (gS .i64 a4) λa6=>
 vK (ak .i .mul ae a6) λa7=>
 vK (ak .i .add (ix b 0) a7) λa8=>
 vK (ak .i .add (ix b 1) aJ) λa9=>
 ab [a8,a9] a5)) (
 cO #[aj] 2 1 [(0,1,(ix b 0))] a λba bb=>
 cR aj 2 1 8 (ix c 0) ba bb λbc bd=>
 vK (ak .i .add (ix c 1) aJ) λbe=>
 x [bc,be] bd)) (
 R (ix c 0) e)
theorem Db (H:tm a0 a1 a2 a3 h R):ag prog mW #[a0,a1,a2,a3] h R:=fk f220 (.s .z (.s .z (.s (.s .z (.l 4722366482869511027720 [3,27] (.s .z (.s (.s .z .z) (.s (.s .z (.s .z (.s (.s .z (.l 147573952581086509056 [11,33] (.s .z (.s (.s .z .z) (.s (.s .z (.s (.d (.op 0 .r (.op 1 .r (.op 2 .r (.op 3 .r (.op 4 .r (.op 5 .r (.op 6 .r (.op 7 .r (.op 8 .r (.op 9 .r (.op 10 .r (.op 11 .r (.op 12 .r (.op 13 .e (.op 14 .n (.op 15 .r .nil))))))))))))))))) .z)) .z))))) .z))) .z))))) (.s .z .z)))) H
def zN (a0 a1 a2:Value)(h:ai)(R:Value→ai→Prop):Prop:=
 vK (aD a2) λk=>
 vK (aX a0) λl=>
 vK (aC 1 l) λm=>
 vK (ldV h m) λn=>
 vK (ak .i .neq k n) λb=>
 vK (gV b false (some a0)) λo=>
 vK (gV b false (some a1)) λp=>
 gK b false (λq=>ag prog nT #[o,p] h q) h λr c=>
 vK (aH b (.bool true) r) λs=>
 aG s (
 R (.bool false) c) (
 eM (λd=>
 ag prog qs #[a0] c λe a=>
 vK (aP e 0) λf=>
 vK (aP e 1) λam=>
 vK (aX a0) λt=>
 vK (aC 2 t) λu=>
 vK (ldV a u) λv=>
 vK (Sj a v) λw=>
 vK (aX a0) λx=>
 vK (aC 0 x) λy=>
 vK (ldV a y) λz=>
 vK (ak .i .geq w z) λaa=>
 aG aa (
 vK (ak .i .lss a1 f) λab=>
 aG ab (
 R (.bool false) a) (
 ag prog rW #[a0,f] a λan ac=>
 d [] ac)) (
 d [] a))
 λao ap ad=>
 ag prog qk #[a0] ad λg ae=>
 HA 1 g a2 ae λaq j=>
 vK (aX a0) λaf=>
 vK (aC 2 af) λah=>
 vK (ldV j ah) λaj=>
 vu (.int .i64) aj a1 g j λar al=>
 R (.bool true) al)
theorem KX (H:zN a0 a1 a2 h R):ag prog uG #[a0,a1,a2] h R:=fk f221 (.s .z (.s (.s .z (.s (.s .z .z) .z)) (.j 8796088828352 [] (.s .z (.s .z (.s (.s (.s .z (.s (.s .z .z) .z)) .z) .z))) (.s .z (.s .z (.s .z (.s .z .z))))))) H
def wK (a0:Value)(h:ai)(R:Value→ai→Prop):Prop:=
 vK (aX a0) λa=>
 vK (aC 1 a) λb=>
 vK (ldV h b) λc=>
 R c h
theorem GT (H:wK a0 h R):ag prog qp #[a0] h R:=fk f222 (.s .z (.s .z .z)) H
def zL (a0 a1:Value)(h:ai)(R:Value→ai→Prop):Prop:=
 vK (aX a0) λb=>
 vK (aC 2 b) λc=>
 vK (ldV h c) λd=>
 vK (L5 (.int .i64) (.slice none 0 0) true h d a1) λa=>
 vK (aP a 0) λe=>
 vK (aP a 1) λf=>
 ag prog dx #[e] h λg i=>
 R (.tuple #[g,f]) i
theorem KW (H:zL a0 a1 h R):ag prog uF #[a0,a1] h R:=fk f223 (.s .z (.s .z (.s .z .z))) H
def FN (a0:Value)(h:ai)(R:Value→ai→Prop):Prop:=
 vK (ak .i .geq a0 aJ) λa=>
 vK (gV a true (some a0)) λb=>
 vK (gV a true (ak .i .leq b (af 65536))) λc=>
 vK (aH a c (.bool false)) λd=>
 R d h
theorem Rc (H:FN a0 h R):ag prog qy #[a0] h R:=fk f224 (.s .z (.s .z .z)) H
def ID (a0 a1 a2 a3:Value)(h:ai)(R:Value→ai→Prop):Prop:=
 ag prog DZ #[a0,a1,a2,a3] h λj d=>
 vK (unV .not j) λk=>
 aG k (
 R (.tuple #[aj,(.slice none 0 0)]) d) (
 vK (ak .i .mul a3 a1) λl=>
 vK (ak .i .quo l a2) λm=>
 bC [m] d λc al n o=>
 vK (ak .i .sub (ix c 0) aJ) λp=>
 ag prog rZ #[a0,a1,a2,a3,p] n λq e=>
 aG q (
 vK (ak .i .sub (ix c 0) aJ) λr=>
 o [r] e) (
 bC [(ix c 0)] e λb am s t=>
 ag prog rZ #[a0,a1,a2,a3,(ix b 0)] s λu f=>
 vK (unV .not u) λv=>
 aG v (
 vK (ak .i .add (ix b 0) aJ) λw=>
 t [w] f) (
 bC [(ix b 0),(.slice none 0 0)] f λa an x y=>
 ag prog rZ #[a0,a1,a2,a3,(ix a 0)] x λz g=>
 aG z (
 ag prog xE #[a0,a1,a2,a3,(ix a 0)] g λaa ab=>
 cO #[aj] 2 1 [(0,1,aa)] ab λac ad=>
 cR aj 2 1 8 (ix a 1) ac ad λae af=>
 vK (ak .i .add (ix a 0) aJ) λah=>
 y [ah,ae] af) (
 R (.tuple #[(ix b 0),(ix a 1)]) g))))
theorem TC (H:ID a0 a1 a2 a3 h R):ag prog yH #[a0,a1,a2,a3] h R:=fk f225 (.s .z (.s (.s .z (.s (.s .z .z) .z)) (.s .z (.s (.l 8573158400 [10] (.s (.s .z (.s .z .z)) .z)) (.s (.l 4389456577536 [10] (.s (.s .z (.s .z .z)) .z)) (.s .z (.s .z (.s (.l 1152912708513829888 [10,12] (.s (.s .z (.s .z .z)) (.s .z .z))) (.s .z .z))))))))) H
def wM (a0:Value)(h:ai)(R:Value→ai→Prop):Prop:=
 vK (aD a0) λr=>
 vK (ak .i .lss r aJ) λd=>
 vK (gV d false (some a0)) λs=>
 vK (gV d false (aD s)) λt=>
 vK (gV d false (ak .i .gtr t (af 1048576))) λu=>
 vK (aH d (.bool true) u) λv=>
 aG v (
 R (.tuple #[(.slice none 0 0),(af 7)]) h) (
 vK (aD a0) λw=>
 bC [aj] h λe bq f x=>
 vK (ak .i .lss (ix e 0) w) λy=>
 aG y (
 vK (bh 1 a0 (ix e 0)) λz=>
 vK (ldV f z) λaa=>
 ag prog vY #[aa] f λab l=>
 vK (ak .i .gtr ab (af 1099511627776)) λac=>
 aG ac (
 R (.tuple #[(.slice none 0 0),(af 7)]) l) (
 vK (ak .i .add (ix e 0) aJ) λad=>
 x [ad] l)) (
 ag prog DY #[a0] f λg m=>
 vK (ak .i .lss g (af 268435456)) λae=>
 aG ae (
 R (.tuple #[(.slice none 0 0),(af 8)]) m) (
 vK (aD a0) λah=>
 bC [(.slice none 0 0),(.slice none 0 0),(af 16384),aj] m λa br j al=>
 vK (ak .i .lss (ix a 3) ah) λam=>
 aG am (
 vK (bh 1 a0 (ix a 3)) λan=>
 vK (ldV j an) λn=>
 vK (ak .i .mul n (af 16384)) λao=>
 ag prog sU #[ao,g] j λk ap=>
 cO #[aj] 2 1 [(0,1,k)] ap λaq ar=>
 cR aj 2 1 8 (ix a 0) aq ar λau av=>
 vK (ak .i .mul n (af 16384)) λaw=>
 vK (ak .i .mul k g) λax=>
 vK (ak .i .sub aw ax) λay=>
 cO #[aj] 2 1 [(0,1,ay)] av λaz a1=>
 cR aj 2 1 8 (ix a 1) az a1 λa2 a3=>
 vK (ak .i .sub (ix a 2) k) λa4=>
 vK (ak .i .add (ix a 3) aJ) λa5=>
 al [au,a2,a4,a5] a3) (
 bC [(ix a 2)] j λo bs p a6=>
 vK (ak .i .gtr (ix o 0) aj) λa7=>
 aG a7 (
 vK (aD (ix a 1)) λa8=>
 bC [aj,aj] p λb bt c q=>
 vK (ak .i .lss (ix b 1) a8) λa9=>
 aG a9 (
 vK (bh 1 (ix a 1) (ix b 1)) λba=>
 vK (ldV c ba) λbb=>
 vK (bh 1 (ix a 1) (ix b 0)) λbc=>
 vK (ldV c bc) λbd=>
 vK (ak .i .gtr bb bd) λbe=>
 aG be (
 vK (ak .i .add (ix b 1) aJ) λbf=>
 q [(ix b 1),bf] c) (
 vK (ak .i .add (ix b 1) aJ) λbg=>
 q [(ix b 0),bg] c)) (
 vK (bh 1 (ix a 0) (ix b 0)) λbi=>
 vK (ldV c bi) λbj=>
 vK (ak .i .add bj aJ) λbk=>
 vK (bh 1 (ix a 0) (ix b 0)) λbl=>
 stK 1 bl bk c λbu bm=>
 vK (bh 1 (ix a 1) (ix b 0)) λbn=>
 stK 1 bn (af (-1)) bm λbv bo=>
 vK (ak .i .sub (ix o 0) aJ) λbp=>
 a6 [bp] bo)) (
 R (.tuple #[(ix a 0),aj]) p)))))
theorem GV (H:wM a0 h R):ag prog jp #[a0] h R:=fk f226 (.s .z (.s (.s .z (.s (.s .z .z) .z)) (.s (.s .z (.l 8556380204 [25] (.s .z (.s (.s .z .z) (.s (.s .z (.s .z (.s (.s .z .z) .z))) .z))))) (.s .z (.s (.s .z (.s (.s .z .z) .z)) (.s .z (.s .z (.s .z (.s (.s .z (.l 18446743523953744768 [7,8,9,39] (.s .z (.s (.s .z .z) (.s (.s .z (.s .z (.s .z (.s .z .z)))) .z))))) (.s (.l 9903520295836298125483467264 [9] (.s (.s .z (.s .z .z)) (.s .z (.s (.s .z (.l 4835408130553337346023424 [13,68] (.s .z (.s (.s .z .z) (.s (.s .z (.s .z (.s .z .z))) .z))))) (.s .z (.s .z .z)))))) (.s .z .z))))))))))) H
def Cv (a0 a1:Value)(h:ai)(R:Value→ai→Prop):Prop:=
 ag prog y8 #[a0,a1] h λa b=>
 ag prog Ea #[a] b λc d=>
 ag prog nF #[c,(af 10)] d λe f=>
 R e f
theorem OC (H:Cv a0 a1 h R):ag prog y9 #[a0,a1] h R:=fk f227 (.s .z (.s .z .z)) H
def Ct (a0:Value)(h:ai)(R:Value→ai→Prop):Prop:=
 vK (aD a0) λc=>
 bC [aj,aj] h λa o b d=>
 vK (ak .i .lss (ix a 1) c) λe=>
 aG e (
 vK (bh 1 a0 (ix a 1)) λf=>
 vK (ldV b f) λg=>
 ag prog vY #[g] b λj k=>
 ag prog vX #[(ix a 0),j] k λl m=>
 vK (ak .i .add (ix a 1) aJ) λn=>
 d [l,n] m) (
 R (ix a 0) b)
theorem OA (H:Ct a0 h R):ag prog y7 #[a0] h R:=fk f228 (.s .z (.s .z (.s (.s .z (.l 130856 [3,8] (.s .z (.s (.s .z .z) (.s (.s .z .z) .z))))) (.s .z .z)))) H
def BL (a0 a1 a2:Value)(h:ai)(R:Value→ai→Prop):Prop:=
 vK (ak .i .eql a2 aj) λe=>
 aG e (
 R aj h) (
 ag prog gG #[a0] h λf g=>
 ag prog gG #[a1] g λj k=>
 ag prog sS #[f,j] k λl m=>
 aT #[(.int .u64 0),(.int .u64 0)] 351 m λc n=>
 stK 2 c l n λx a=>
 vK (ak .i .lss a0 aj) λo=>
 vK (ak .i .lss a1 aj) λp=>
 vK (ak .b .neq o p) λq=>
 bL a λS=>
 qK S (λa=>aM 2 a c) λr=>
 vK (ak .i .lss a2 aj) λs=>
 vK (ak .b .neq q s) λt=>
 ag prog gG #[a2] a λu d=>
 S d∧(ag prog uJ #[r,u,t] d λv w=>
 R v w))
theorem MF (H:BL a0 a1 a2 h R):ag prog dE #[a0,a1,a2] h R:=fk f229 (.s .z (.s (.s .z (.s (.s .z .z) .z)) (.s .z (.s .z (.s (.d (.op 0 .r (.op 1 .r (.op 3 .r (.op 4 .r (.op 5 .r (.op 6 .r (.op 2 .e (.op 7 .n (.op 8 .r .nil)))))))))) .z))))) H
end
section
variable {a0 a1 a2 a3 a4 a5 a6:Value}{h:ai}{R:Value→ai→Prop}
def NK (a0 a1 a2 a3:Value)(h:ai)(R:Value→ai→Prop):Prop:=
 vK (ak .i .geq a0 aj) λb=>
 vK (gV b true (some a0)) λj=>
 vK (gV b true (ak .i .lss j (af 3))) λk=>
 vK (aH b k (.bool false)) λc=>
 vK (gV c true (some a1)) λl=>
 vK (gV c true (ak .i .geq l aJ)) λm=>
 vK (aH c m (.bool false)) λd=>
 vK (gV d true (some a1)) λn=>
 vK (gV d true (ak .i .leq n (af 65536))) λo=>
 vK (aH d o (.bool false)) λe=>
 vK (gV e true (some a2)) λp=>
 vK (gV e true (ak .i .geq p aJ)) λq=>
 vK (aH e q (.bool false)) λf=>
 vK (gV f true (some a2)) λr=>
 vK (gV f true (ak .i .leq r (af 65536))) λs=>
 vK (aH f s (.bool false)) λg=>
 vK (gV g true (some a3)) λt=>
 vK (gV g true (ak .i .geq t aj)) λu=>
 vK (aH g u (.bool false)) λa=>
 vK (gV a true (some a3)) λv=>
 vK (gV a true (some a2)) λw=>
 vK (gV a true (ak .i .lss v w)) λx=>
 vK (aH a x (.bool false)) λy=>
 R y h
theorem XT (H:NK a0 a1 a2 a3 h R):ag prog LB #[a0,a1,a2,a3] h R:=fk f236 (.s .z (.s .z .z)) H
def LO (a0 a1:Value)(h:ai)(R:Value→ai→Prop):Prop:=
 vK (unV .neg a0) λa=>
 ag prog kW #[a,a1] h λb c=>
 vK (unV .neg b) λd=>
 R d c
theorem VU (H:LO a0 a1 h R):ag prog Bk #[a0,a1] h R:=fk f237 (.s .z (.s .z .z)) H
def LQ (a0 a1:Value)(h:ai)(R:Value→ai→Prop):Prop:=
 vK (ak .i .lss a1 aJ) λd=>
 vK (gV d false (some a1)) λe=>
 vK (gV d false (ak .i .gtr e (af 262144))) λf=>
 vK (aH d (.bool true) f) λb=>
 vK (gV b false (some a0)) λg=>
 vK (gV b false (some a1)) λj=>
 vK (gV b false (ak .i .mul (af 2) j)) λk=>
 vK (gV b false (ak .i .geq g k)) λl=>
 vK (aH b (.bool true) l) λc=>
 vK (gV c false (some a0)) λm=>
 vK (gV c false (some a1)) λn=>
 vK (gV c false (ak .i .mul (af (-2)) n)) λo=>
 vK (gV c false (ak .i .leq m o)) λp=>
 vK (aH c (.bool true) p) λq=>
 aG q (
 R aj h) (
 vK (unV .neg a0) λr=>
 vK (kA a0 r) λa=>
 vK (ak .i .mul (af 3) a) λs=>
 vK (ak .i .mul s a) λt=>
 vK (ak .i .mul t a) λu=>
 vK (ak .i .mul (af 5) a) λv=>
 vK (ak .i .mul v a) λw=>
 vK (ak .i .mul w a1) λx=>
 vK (ak .i .sub u x) λy=>
 vK (ak .i .mul (af 2) a1) λz=>
 vK (ak .i .mul z a1) λaa=>
 vK (ak .i .mul aa a1) λab=>
 vK (ak .i .add y ab) λac=>
 vK (ak .i .geq a a1) λad=>
 aG ad (
 vK (unV .neg a) λae=>
 vK (ak .i .mul ae a) λah=>
 vK (ak .i .mul ah a) λal=>
 vK (ak .i .mul (af 5) a) λam=>
 vK (ak .i .mul am a) λan=>
 vK (ak .i .mul an a1) λao=>
 vK (ak .i .add al ao) λap=>
 vK (ak .i .mul (af 8) a) λaq=>
 vK (ak .i .mul aq a1) λar=>
 vK (ak .i .mul ar a1) λau=>
 vK (ak .i .sub ap au) λav=>
 vK (ak .i .mul (af 4) a1) λaw=>
 vK (ak .i .mul aw a1) λax=>
 vK (ak .i .mul ax a1) λay=>
 vK (ak .i .add av ay) λaz=>
 vK (ak .i .mul (af 2) a1) λa2=>
 vK (ak .i .mul a2 a1) λa3=>
 vK (ak .i .mul a3 a1) λa4=>
 ag prog ft #[az,(af 1073741824),a4] h λa5 a6=>
 R a5 a6) (
 vK (ak .i .mul (af 2) a1) λa7=>
 vK (ak .i .mul a7 a1) λa8=>
 vK (ak .i .mul a8 a1) λa9=>
 ag prog ft #[ac,(af 1073741824),a9] h λba bb=>
 R ba bb))
theorem VW (H:LQ a0 a1 h R):ag prog xF #[a0,a1] h R:=fk f238 (.s .z (.s (.s .z (.s (.s .z .z) .z)) (.s .z (.s .z (.s (.s .z (.s .z .z)) (.s .z .z)))))) H
def BG (a0 a1:Value)(h:ai)(R:Value→ai→Prop):Prop:=
 ag prog Ib #[a0,a1] h λd b=>
 vK (unV .not d) λa=>
 vK (gV a false (some a0)) λe=>
 gK a false (λf=>ag prog yF #[e] b f) b λg c=>
 vK (gV a false (some a1)) λj=>
 vK (gV a false (ak .i .mul (af 3) j)) λk=>
 vK (gV a false (ak .i .geq g k)) λl=>
 vK (aH a (.bool true) l) λm=>
 aG m (
 R aj c) (
 ag prog sO #[a0,a1] c λn o=>
 vK (ak .i .mul (af 3) a1) λp=>
 ag prog sO #[a0,p] o λq r=>
 ag prog uE #[n,q,(af 40)] r λs t=>
 ag prog kV #[s,(af 10)] t λu v=>
 R u v)
theorem MA (H:BG a0 a1 h R):ag prog xC #[a0,a1] h R:=fk f239 (.s .z (.s (.s .z (.s (.s .z .z) .z)) (.s .z .z))) H
def gU (a0 a1:Value)(h:ai)(R:Value→ai→Prop):Prop:=
 ag prog jc #[a0,a1] h λa b=>
 vK (ak .i .geq a aj) λc=>
 R c b
theorem mB (H:gU a0 a1 h R):ag prog eG #[a0,a1] h R:=fk f240 (.s .z (.s .z .z)) H
def zJ (a0:Value)(h:ai)(R:Value→ai→Prop):Prop:=
 ag prog yD #[a0] h λa b=>
 vK (ak .i .gtr a (af 1099511627776)) λc=>
 R c b
theorem KU (H:zJ a0 h R):ag prog nQ #[a0] h R:=fk f241 (.s .z (.s .z .z)) H
def Ip (a0:Value)(h:ai)(R:Value→ai→Prop):Prop:=
 ag prog Ee #[a0,(af (-1))] h λa b=>
 vK (kA a0 a) λc=>
 R c b
theorem Tp (H:Ip a0 h R):ag prog yD #[a0] h R:=fk f242 (.s .z (.s .z .z)) H
def IT (a0 a1:Value)(h:ai)(R:Value→ai→Prop):Prop:=
 vK (ak .i .add a0 a1) λc=>
 vK (ak .i .gtr a1 aj) λa=>
 vK (gV a true (some c)) λd=>
 vK (gV a true (some a0)) λe=>
 vK (gV a true (ak .i .lss d e)) λf=>
 vK (aH a f (.bool false)) λg=>
 aG g (
 R (af 9223372036854775807) h) (
 vK (ak .i .lss a1 aj) λb=>
 vK (gV b true (some c)) λj=>
 vK (gV b true (some a0)) λk=>
 vK (gV b true (ak .i .gtr j k)) λl=>
 vK (aH b l (.bool false)) λm=>
 aG m (
 R (af (-9223372036854775808)) h) (
 R c h))
theorem TR (H:IT a0 a1 h R):ag prog yL #[a0,a1] h R:=fk f243 (.s .z (.s .z (.s (.s .z (.s (.s .z .z) (.s .z (.s (.s .z .z) .z)))) (.s .z .z)))) H
def Gg (a0:Value)(h:ai)(R:Value→ai→Prop):Prop:=
 vK (ak .i .lss a0 aj) λa=>
 aG a (
 vK (gS .u64 a0) λb=>
 vK (unV .neg b) λc=>
 R c h) (
 vK (gS .u64 a0) λd=>
 R d h)
theorem RA (H:Gg a0 h R):ag prog jz #[a0] h R:=fk f244 (.s .z (.s (.s .z (.s (.s .z .z) .z)) (.s .z .z))) H
def Gh (a0 a1:Value)(h:ai)(R:Value→ai→Prop):Prop:=
 vK (gV a1 true (some a0)) λa=>
 vK (gV a1 true (ak .i .geq a (.int .u64 9223372036854775808))) λb=>
 vK (aH a1 b (.bool false)) λc=>
 aG c (
 R (af (-9223372036854775808)) h) (
 aG a1 (
 vK (gS .i64 a0) λd=>
 vK (unV .neg d) λe=>
 R e h) (
 vK (ak .i .gtr a0 (.int .u64 9223372036854775807)) λf=>
 aG f (
 R (af 9223372036854775807) h) (
 vK (gS .i64 a0) λg=>
 R g h)))
theorem RB (H:Gh a0 a1 h R):ag prog mH #[a0,a1] h R:=fk f245 (.s .z (.s (.s .z (.s (.s .z .z) (.s .z (.s (.s .z .z) (.s .z (.s (.s .z .z) .z)))))) (.s .z .z))) H
def lz (a0 a1 a2:Value)(h:ai)(R:Value→ai→Prop):Prop:=
 bC [aj,(af 20)] h λc ab e k=>
 vK (ak .i .leq (ix c 1) a1) λl=>
 aG l (
 ag prog dF #[a0,(ix c 0),(ix c 1),a2] e λac m=>
 vK (ak .i .add (ix c 1) (af 20)) λn=>
 k [(ix c 1),n] m) (
 ag prog dF #[a0,(ix c 0),a1,a2] e λad o=>
 bC [(af 20)] o λb ae f g=>
 vK (ak .i .lss (ix b 0) a1) λp=>
 aG p (
 vK (ak .i .mul (af 2) (ix b 0)) λq=>
 bC [aj,q] f λa ah d r=>
 vK (ak .i .leq (ix a 1) a1) λs=>
 aG s (
 vK (ak .i .add (ix a 0) (ix b 0)) λt=>
 ag prog cq #[a0,(ix a 0),t,(ix a 1),a2] d λal u=>
 vK (ak .i .mul (af 2) (ix b 0)) λv=>
 vK (ak .i .add (ix a 1) v) λw=>
 r [(ix a 1),w] u) (
 vK (ak .i .add (ix a 0) (ix b 0)) λj=>
 vK (ak .i .lss j a1) λx=>
 aG x (
 ag prog cq #[a0,(ix a 0),j,a1,a2] d λam y=>
 vK (ak .i .mul (ix b 0) (af 2)) λz=>
 g [z] y) (
 vK (ak .i .mul (ix b 0) (af 2)) λaa=>
 g [aa] d))) (
 R (.tuple #[]) f))
theorem vj (H:lz a0 a1 a2 h R):ag prog iU #[a0,a1,a2] h R:=fk f246 (.s .z (.s .z (.s (.l 8386944 [7,8] (.s (.s .z (.s .z .z)) (.s .z (.s .z .z)))) (.s .z (.l 9223372036586341312 [6] (.s (.s .z (.s .z .z)) (.s .z (.s (.l 562941363487104 [7,8] (.s (.s .z (.s .z .z)) (.s .z (.s .z .z)))) (.s (.s .z (.s .z (.s .z .z))) .z))))))))) H
def wY (a0:Value)(h:ai)(R:Value→ai→Prop):Prop:=
 vK (ak .i .neq a0 a0) λa=>
 R a h
theorem Ha (H:wY a0 h R):ag prog lP #[a0] h R:=fk f247 (.s .z (.s .z .z)) H
def CT (a0 a1:Value)(h:ai)(R:Value→ai→Prop):Prop:=
 vK (ak .i .leq a1 aj) λa=>
 aG a (
 R a0 h) (
 vK (ak .i .geq a1 (af 64)) λb=>
 aG b (
 R aj h) (
 vK (ak .i .shr a0 a1) λc=>
 vK (ak .i .sub a1 aJ) λd=>
 vK (ak .i .shr a0 d) λe=>
 vK (ak .i .and e aJ) λf=>
 vK (ak .i .add c f) λg=>
 R g h))
theorem OY (H:CT a0 a1 h R):ag prog kV #[a0,a1] h R:=fk f248 (.s .z (.s (.s .z (.s (.s .z .z) .z)) (.s (.s .z (.s (.s .z .z) .z)) (.s .z .z)))) H
def LU (a0:Value)(h:ai)(R:Value→ai→Prop):Prop:=
 vK (kA aj a0) λc=>
 vK (ak .i .quo c (af 762123384786)) λg=>
 vK (ak .i .rem c (af 762123384786)) λj=>
 bC [(af 1099511627776),(af 1099511627776),aj] h λa v d e=>
 vK (ak .i .lss (ix a 2) (af 16)) λk=>
 aG k (
 vK (ak .i .add (ix a 2) aJ) λl=>
 vK (ak .i .shl l (.int .u64 40)) λm=>
 ag prog ft #[(ix a 1),j,m] d λb f=>
 vK (ak .i .rem (ix a 2) (af 2)) λn=>
 vK (ak .i .eql n aj) λo=>
 aG o (
 vK (ak .i .sub (ix a 0) b) λp=>
 vK (ak .i .add (ix a 2) aJ) λq=>
 e [p,b,q] f) (
 vK (ak .i .add (ix a 0) b) λr=>
 vK (ak .i .add (ix a 2) aJ) λs=>
 e [r,b,s] f)) (
 ag prog kV #[(ix a 0),g] d λt u=>
 R t u)
theorem VZ (H:LU a0 h R):ag prog Ig #[a0] h R:=fk f249 (.s .z (.s .z (.s .z (.s .z (.s (.s .z (.l 8589918432 [5,6,14] (.s .z (.s (.s .z .z) (.s (.s .z (.s .z (.s .z (.s .z .z)))) .z))))) (.s .z .z)))))) H
def Gi (a0 a1:Value)(h:ai)(R:Value→ai→Prop):Prop:=
 vK (ak .i .lss a1 aJ) λa=>
 vK (gV a false (some a1)) λd=>
 vK (gV a false (ak .i .gtr d (af 4194304))) λe=>
 vK (aH a (.bool true) e) λb=>
 vK (gV b false (some a0)) λf=>
 vK (gV b false (ak .i .lss f (af (-16384)))) λg=>
 vK (aH b (.bool true) g) λc=>
 vK (gV c false (some a0)) λj=>
 vK (gV c false (ak .i .gtr j (af 16384))) λk=>
 vK (aH c (.bool true) k) λl=>
 aG l (
 R (af 9223372036854775807) h) (
 vK (ak .i .mul a0 a0) λm=>
 vK (ak .i .shl m (.int .u64 31)) λn=>
 vK (ak .i .mul a1 a1) λo=>
 ag prog ft #[n,(af 1099511627776),o] h λp q=>
 R p q)
theorem RC (H:Gi a0 a1 h R):ag prog Bu #[a0,a1] h R:=fk f250 (.s .z (.s (.s .z (.s (.s .z .z) .z)) (.s .z .z))) H
def zU (a0 a1:Value)(h:ai)(R:Value→ai→Prop):Prop:=
 aG (.bool false) (
 vK (gS .u32 a0) λc=>
 vK (gS .u32 a1) λd=>
 ag prog KE #[c,d] h λa e=>
 vK (aP a 0) λf=>
 vK (aP a 1) λg=>
 vK (gS .u64 f) λi=>
 vK (gS .u64 g) λj=>
 R (.tuple #[i,j]) e) (
 ag prog lO #[a0,a1] h λb k=>
 vK (aP b 0) λl=>
 vK (aP b 1) λm=>
 R (.tuple #[l,m]) k)
theorem K7 (H:zU a0 a1 h R):ag prog uL #[a0,a1] h R:=fk f251 (.s .z (.s (.s (.s .z (.s .z .z)) .z) (.s .z (.s .z .z)))) H
def BD (a0 a1:Value)(h:ai)(R:Value→ai→Prop):Prop:=
 ag prog uk #[a0] h λc d=>
 ag prog uk #[a1] d λe f=>
 ag prog lO #[c,e] f λa g=>
 vK (aP a 0) λj=>
 vK (aP a 1) λk=>
 vK (ak .i .lss a0 aj) λl=>
 vK (ak .i .lss a1 aj) λm=>
 vK (ak .b .neq l m) λn=>
 R (.tuple #[j,k,n]) g
theorem Mx (H:BD a0 a1 h R):ag prog qf #[a0,a1] h R:=fk f252 (.s .z (.s .z (.s .z .z))) H
def Io (a0:Value)(h:ai)(R:Value→ai→Prop):Prop:=
 vK (ak .i .lss a0 aj) λa=>
 aG a (
 vK (gS .u64 a0) λb=>
 vK (unV .neg b) λc=>
 R c h) (
 vK (gS .u64 a0) λd=>
 R d h)
theorem To (H:Io a0 h R):ag prog uk #[a0] h R:=fk f253 (.s .z (.s (.s .z (.s (.s .z .z) .z)) (.s .z .z))) H
def Cl (a0 a1 a2:Value)(h:ai)(R:Value→ai→Prop):Prop:=
 vK (gV a2 true (some a0)) λc=>
 vK (gV a2 true (ak .i .gtr c (.int .u64 0))) λd=>
 vK (gV a2 true (some d)) λa=>
 vK (gV a false (some a1)) λe=>
 vK (gV a false (ak .i .gtr e (.int .u64 9223372036854775808))) λf=>
 vK (gV a2 true (aH a (.bool true) f)) λg=>
 vK (aH a2 g (.bool false)) λj=>
 aG j (
 R (af (-9223372036854775808)) h) (
 aG a2 (
 vK (unV .neg a1) λk=>
 vK (gS .i64 k) λl=>
 R l h) (
 vK (ak .i .gtr a0 (.int .u64 0)) λb=>
 vK (gV b false (some a1)) λm=>
 vK (gV b false (ak .i .gtr m (.int .u64 9223372036854775807))) λn=>
 vK (aH b (.bool true) n) λo=>
 aG o (
 R (af 9223372036854775807) h) (
 vK (gS .i64 a1) λp=>
 R p h)))
theorem Oq (H:Cl a0 a1 a2 h R):ag prog fo #[a0,a1,a2] h R:=fk f254 (.s .z (.s (.s .z (.s (.s .z .z) (.s .z (.s (.s .z .z) (.s .z (.s (.s .z .z) .z)))))) (.s .z .z))) H
def wV (a0 a1 a2:Value)(h:ai)(R:Value→ai→Prop):Prop:=
 eM (λo=>
 vK (ak .i .eql a2 (.int .u64 0)) λaf=>
 aG af (
 vK (ldV h (.pointer (some ⟨Am,0,none⟩))) λb2=>
 PN h λb3 ah=>
 o [] ah) (
 o [] h))
 λb4 b5 j=>
 eM (λp=>
 vK (ak .i .leq a2 a0) λaj=>
 aG aj (
 vK (ldV j (.pointer (some ⟨xO,0,none⟩))) λb6=>
 PN j λb7 al=>
 p [] al) (
 p [] j))
 λb8 b9 q=>
 vK (ak .i .eql a0 (.int .u64 0)) λam=>
 aG am (
 vK (ak .i .quo a1 a2) λan=>
 vK (ak .i .rem a1 a2) λao=>
 R (.tuple #[an,ao]) q) (
 ag prog iX #[a2] q λap aq=>
 vK (gS .u64 ap) λf=>
 vK (ak .i .shl a2 f) λg=>
 vK (ak .i .shr g (.int .u64 32)) λc=>
 vK (ak .i .and g (.int .u64 4294967295)) λr=>
 vK (ak .i .shl a0 f) λar=>
 vK (ak .i .sub (.int .u64 64) f) λau=>
 vK (ak .i .shr a1 au) λav=>
 vK (ak .i .or ar av) λk=>
 vK (ak .i .shl a1 f) λs=>
 vK (ak .i .shr s (.int .u64 32)) λt=>
 vK (ak .i .and s (.int .u64 4294967295)) λu=>
 vK (ak .i .quo k c) λv=>
 vK (ak .i .mul v c) λaw=>
 vK (ak .i .sub k aw) λax=>
 eM (λw=>
 bC [v,ax] aq λd ca l ay=>
 vK (ak .i .geq (ix d 0) (.int .u64 4294967296)) λa=>
 vK (gV a false (some (ix d 0))) λaz=>
 vK (gV a false (some r)) λa3=>
 vK (gV a false (ak .i .mul az a3)) λa4=>
 vK (gV a false (some (ix d 1))) λa5=>
 vK (gV a false (ak .i .mul (.int .u64 4294967296) a5)) λa6=>
 vK (gV a false (some t)) λa7=>
 vK (gV a false (ak .i .add a6 a7)) λa8=>
 vK (gV a false (ak .i .gtr a4 a8)) λa9=>
 vK (aH a (.bool true) a9) λba=>
 aG ba (
 vK (ak .i .sub (ix d 0) (.int .u64 1)) λx=>
 vK (ak .i .add (ix d 1) c) λy=>
 vK (ak .i .geq y (.int .u64 4294967296)) λbb=>
 aG bb (
 w [x] l) (
 ay [x,y] l)) (
 w [(ix d 0)] l))
 λz cb bc=>
 vK (ak .i .mul k (.int .u64 4294967296)) λbd=>
 vK (ak .i .add bd t) λbe=>
 vK (ak .i .mul (ix z 0) g) λbf=>
 vK (ak .i .sub be bf) λm=>
 vK (ak .i .quo m c) λaa=>
 vK (ak .i .mul aa c) λbg=>
 vK (ak .i .sub m bg) λbh=>
 eM (λab=>
 bC [bh,aa] bc λe cc n bi=>
 vK (ak .i .geq (ix e 1) (.int .u64 4294967296)) λb=>
 vK (gV b false (some (ix e 1))) λbj=>
 vK (gV b false (some r)) λbk=>
 vK (gV b false (ak .i .mul bj bk)) λbl=>
 vK (gV b false (some (ix e 0))) λbm=>
 vK (gV b false (ak .i .mul (.int .u64 4294967296) bm)) λbn=>
 vK (gV b false (some u)) λbo=>
 vK (gV b false (ak .i .add bn bo)) λbp=>
 vK (gV b false (ak .i .gtr bl bp)) λbq=>
 vK (aH b (.bool true) bq) λbr=>
 aG br (
 vK (ak .i .sub (ix e 1) (.int .u64 1)) λac=>
 vK (ak .i .add (ix e 0) c) λad=>
 vK (ak .i .geq ad (.int .u64 4294967296)) λbs=>
 aG bs (
 ab [ac] n) (
 bi [ad,ac] n)) (
 ab [(ix e 1)] n))
 λae cd bt=>
 vK (ak .i .mul (ix z 0) (.int .u64 4294967296)) λbu=>
 vK (ak .i .add bu (ix ae 0)) λbv=>
 vK (ak .i .mul m (.int .u64 4294967296)) λbw=>
 vK (ak .i .add bw u) λbx=>
 vK (ak .i .mul (ix ae 0) g) λbz=>
 vK (ak .i .sub bx bz) λb0=>
 vK (ak .i .shr b0 f) λb1=>
 R (.tuple #[bv,b1]) bt)
theorem G8 (H:wV a0 a1 a2 h R):ag prog qG #[a0,a1,a2] h R:=fk f255 (.s .z (.j 3670016 [] (.s .z (.s .z .z)) (.j 62914560 [] (.s .z (.s .z .z)) (.s (.s .z (.s (.s .z .z) .z)) (.s .z (.s .z (.s .z (.s .z (.s .z (.s .z (.s .z (.s .z (.s .z (.s .z (.s (.m 77371104881383677504880640 [15] (.l 77371104881383677504880640 [15,16] (.s (.s .z (.s .z .z)) (.s .z (.s .z (.s .z (.s .z .z))))))) (.s .z (.s .z (.s .z (.s (.m 2658450920967430832890008133748195328 [18] (.l 2658450920967430832890008133748195328 [16,18] (.s (.s .z (.s .z .z)) (.s .z (.s .z (.s .z (.s .z .z))))))) (.s .z .z)))))))))))))))))))) H
def CS (h:ai)(R:Value→ai→Prop):Prop:=
 ag prog EV #[aj,(af 4),(af 2),aJ] h λj c=>
 vK (aP j 0) λl=>
 vK (aP j 1) λe=>
 vK (ak .i .eql l (af 2)) λd=>
 vK (gV d true (some e)) λm=>
 vK (gV d true (aD m)) λn=>
 vK (gV d true (ak .i .eql n (af 2))) λo=>
 vK (aH d o (.bool false)) λa=>
 vK (gV a true (some e)) λp=>
 vK (gV a true (bh 1 p aj)) λq=>
 vK (gV a true (ldV c q)) λr=>
 vK (gV a true (ak .i .eql r (af 536870912))) λs=>
 vK (aH a s (.bool false)) λb=>
 vK (gV b true (some e)) λt=>
 vK (gV b true (bh 1 t aJ)) λu=>
 vK (gV b true (ldV c u)) λv=>
 vK (gV b true (ak .i .eql v (af 536870912))) λw=>
 vK (aH b w (.bool false)) λf=>
 gK f true (λx=>ag prog xF #[aj,aJ] c x) c λy k=>
 vK (gV f true (ak .i .eql y (af 1073741824))) λz=>
 vK (aH f z (.bool false)) λg=>
 gK g true (λaa=>ag prog xF #[aJ,(af 2)] k aa) k λab ac=>
 vK (gV g true (ak .i .eql ab (af 603979776))) λad=>
 vK (aH g ad (.bool false)) λae=>
 R ae ac
theorem OX (H:CS h R):ag prog zy #[] h R:=fk f257 (.s .z (.s .z (.s .z .z))) H
def CR (h:ai)(R:Value→ai→Prop):Prop:=
 cO #[aj,aj,aj] 2 3 [(0,1,(af 536870912)),(1,1,(af 536870912)),(2,1,(af 536870912))] h λj k=>
 ag prog kf #[j] k λd l=>
 vK (aP d 0) λm=>
 vK (aP d 1) λn=>
 ag prog nR #[(af 65536)] l λe f=>
 vK (aP e 0) λo=>
 vK (aP e 1) λp=>
 vK (ak .i .eql n aj) λa=>
 vK (gV a true (some m)) λq=>
 gK a true (λr=>cO #[aj,aj,aj] 2 3 [(0,1,(af 5462)),(1,1,(af 5461)),(2,1,(af 5461))] f r) f λs g=>
 gK a true (λt=>ag prog vZ #[q,s] g t) g λu v=>
 vK (aH a u (.bool false)) λc=>
 vK (gV c true (some p)) λw=>
 vK (gV c true (ak .i .eql w aj)) λx=>
 vK (aH c x (.bool false)) λb=>
 vK (gV b true (some o)) λy=>
 vK (gV b true (aD y)) λz=>
 vK (gV b true (ak .i .eql z (af 7))) λaa=>
 vK (aH b aa (.bool false)) λab=>
 R ab v
theorem OW (H:CR h R):ag prog zv #[] h R:=fk f258 (.s .z (.s .z (.s .z (.s .z .z)))) H
def FR (a0 a1:Value)(h:ai)(R:Value→ai→Prop):Prop:=
 vK (aD a0) λc=>
 vK (aD a1) λd=>
 vK (ak .i .neq c d) λe=>
 aG e (
 R (.bool false) h) (
 vK (aD a0) λf=>
 bC [aj] h λb q a g=>
 vK (ak .i .lss (ix b 0) f) λj=>
 aG j (
 vK (bh 1 a0 (ix b 0)) λk=>
 vK (ldV a k) λl=>
 vK (bh 1 a1 (ix b 0)) λm=>
 vK (ldV a m) λn=>
 vK (ak .i .neq l n) λo=>
 aG o (
 R (.bool false) a) (
 vK (ak .i .add (ix b 0) aJ) λp=>
 g [p] a)) (
 R (.bool true) a))
theorem Rh (H:FR a0 a1 h R):ag prog vZ #[a0,a1] h R:=fk f259 (.s .z (.s (.s .z (.s (.s .z .z) .z)) (.s (.s .z (.l 67100720 [13] (.s .z (.s (.s .z .z) (.s (.s .z (.s .z (.s (.s .z .z) .z))) .z))))) (.s .z .z)))) H
def zO (a0 a1:Value)(h:ai)(R:Value→ai→Prop):Prop:=
 vK (aX a0) λb=>
 vK (aC 2 b) λc=>
 vK (ldV h c) λd=>
 vK (L5 (.int .i64) (.slice none 0 0) true h d a1) λa=>
 vK (aP a 0) λf=>
 vK (aP a 1) λe=>
 R e h
theorem KY (H:zO a0 a1 h R):ag prog nT #[a0,a1] h R:=fk f260 (.s .z (.s .z (.s .z .z))) H
def wL (a0:Value)(h:ai)(R:Value→ai→Prop):Prop:=
 vK (aX a0) λa=>
 vK (aC 2 a) λb=>
 vK (ldV h b) λc=>
 vK (Sj h c) λd=>
 vK (ak .i .eql d aj) λe=>
 aG e (
 R (.tuple #[aj,(.bool false)]) h) (
 vK (aX a0) λf=>
 vK (aC 2 f) λg=>
 vK (ldV h g) λj=>
 ag prog fD #[j] h λk l=>
 ag prog qi #[k] l λm n=>
 ag prog iD #[m] n λo p=>
 R (.tuple #[o,(.bool true)]) p)
theorem GU (H:wL a0 h R):ag prog qs #[a0] h R:=fk f261 (.s .z (.s (.s .z (.s (.s .z .z) .z)) (.s .z .z))) H
def xV (a0 a1:Value)(h:ai)(R:Value→ai→Prop):Prop:=
 bL h λS=>
 vK (aX a0) λd=>
 vK (aC 3 d) λe=>
 qK S (λh=>ldV h e) λf=>
 vK (aX a0) λg=>
 vK (aC 2 g) λi=>
 qK S (λh=>ldV h i) λj=>
 qK S (λh=>L5 (.int .i64) (.slice none 0 0) false h j a1) λk=>
 cO #[(.slice none 0 0)] 28 1 [(0,1,k)] h λl a=>
 S a∧(cR (.slice none 0 0) 28 1 24 f l a λm b=>
 S b∧(vK (aX a0) λn=>
 vK (aC 3 n) λo=>
 stK 1 o m b λt c=>
 vK (aX a0) λp=>
 vK (aC 2 p) λq=>
 vK (ldV c q) λr=>
 pP (.int .i64) r a1 c λu s=>
 R (.tuple #[]) s))
theorem Jk (H:xV a0 a1 h R):ag prog rW #[a0,a1] h R:=fk f262 (.s (.d (.op 0 .r (.op 1 .r (.op 2 .r (.op 3 .r (.op 4 .r (.op 5 .r (.op 6 .r (.op 7 .r (.op 8 .r (.op 9 .r (.op 10 .r (.op 11 .e (.op 12 .e (.op 13 .r (.op 14 .r (.op 15 .n .nil))))))))))))))))) .z) H
def wI (a0:Value)(h:ai)(R:Value→ai→Prop):Prop:=
 vK (aX a0) λc=>
 vK (aC 3 c) λd=>
 vK (ldV h d) λe=>
 vK (aD e) λa=>
 vK (ak .i .gtr a aj) λf=>
 aG f (
 vK (aX a0) λg=>
 vK (aC 3 g) λj=>
 vK (ldV h j) λk=>
 vK (ak .i .sub a aJ) λl=>
 vK (bh 1 k l) λm=>
 vK (ldV h m) λn=>
 vK (aX a0) λo=>
 vK (aC 3 o) λp=>
 vK (ldV h p) λq=>
 vK (ak .i .sub a aJ) λr=>
 vK (ni 1 q none (some r)) λs=>
 vK (aX a0) λt=>
 vK (aC 3 t) λu=>
 stK 1 u s h λaa v=>
 R n v) (
 vK (aX a0) λw=>
 vK (aC 1 w) λx=>
 vK (ldV h x) λb=>
 mkK aj 2 1 8 b b h λy z=>
 R y z)
theorem GR (H:wI a0 h R):ag prog qk #[a0] h R:=fk f263 (.s .z (.s (.s .z (.s .z (.s (.s .z (.s .z (.s .z .z))) .z))) (.s .z .z))) H
def IE (a0 a1 a2 a3:Value)(h:ai)(R:Value→ai→Prop):Prop:=
 vK (ak .i .geq a0 aj) λb=>
 vK (gV b true (some a0)) λj=>
 vK (gV b true (ak .i .leq j (af 2))) λk=>
 vK (aH b k (.bool false)) λc=>
 vK (gV c true (some a1)) λl=>
 vK (gV c true (ak .i .geq l aJ)) λm=>
 vK (aH c m (.bool false)) λd=>
 vK (gV d true (some a1)) λn=>
 vK (gV d true (ak .i .leq n (af 65536))) λo=>
 vK (aH d o (.bool false)) λe=>
 vK (gV e true (some a2)) λp=>
 vK (gV e true (ak .i .geq p aJ)) λq=>
 vK (aH e q (.bool false)) λf=>
 vK (gV f true (some a2)) λr=>
 vK (gV f true (ak .i .leq r (af 65536))) λs=>
 vK (aH f s (.bool false)) λg=>
 vK (gV g true (some a3)) λt=>
 vK (gV g true (ak .i .geq t aj)) λu=>
 vK (aH g u (.bool false)) λa=>
 vK (gV a true (some a3)) λv=>
 vK (gV a true (some a2)) λw=>
 vK (gV a true (ak .i .lss v w)) λx=>
 vK (aH a x (.bool false)) λy=>
 R y h
theorem TD (H:IE a0 a1 a2 a3 h R):ag prog DZ #[a0,a1,a2,a3] h R:=fk f264 (.s .z (.s .z .z)) H
def LN (a0 a1 a2 a3 a4:Value)(h:ai)(R:Value→ai→Prop):Prop:=
 vK (ak .i .eql a0 aj) λl=>
 aG l (
 vK (ak .i .add a4 aJ) λm=>
 vK (ak .i .mul m a2) λn=>
 vK (ak .i .mul a3 a1) λo=>
 vK (ak .i .gtr n o) λa=>
 vK (gV a true (some a4)) λp=>
 vK (gV a true (some a2)) λq=>
 vK (gV a true (ak .i .mul p q)) λr=>
 vK (gV a true (some a3)) λs=>
 vK (gV a true (ak .i .add s aJ)) λt=>
 vK (gV a true (some a1)) λu=>
 vK (gV a true (ak .i .mul t u)) λv=>
 vK (gV a true (ak .i .lss r v)) λw=>
 vK (aH a w (.bool false)) λx=>
 R x h) (
 ag prog mF #[a1,a2,a3,a4] h λe f=>
 vK (aP e 0) λd=>
 vK (aP e 1) λg=>
 vK (ak .i .mul (af 2) g) λj=>
 vK (ak .i .eql a0 (af 2)) λy=>
 aG y (
 vK (ak .i .mul (af 3) g) λk=>
 vK (ak .i .lss d k) λb=>
 vK (gV b true (some d)) λz=>
 vK (gV b true (some k)) λaa=>
 vK (gV b true (unV .neg aa)) λab=>
 vK (gV b true (ak .i .gtr z ab)) λac=>
 vK (aH b ac (.bool false)) λad=>
 R ad f) (
 vK (ak .i .lss d j) λc=>
 vK (gV c true (some d)) λae=>
 vK (gV c true (some j)) λah=>
 vK (gV c true (unV .neg ah)) λal=>
 vK (gV c true (ak .i .gtr ae al)) λam=>
 vK (aH c am (.bool false)) λan=>
 R an f))
theorem VT (H:LN a0 a1 a2 a3 a4 h R):ag prog rZ #[a0,a1,a2,a3,a4] h R:=fk f265 (.s .z (.s (.s .z (.s (.s .z .z) .z)) (.s .z (.s .z (.s (.s .z (.s .z .z)) (.s .z .z)))))) H
def BJ (a0 a1 a2 a3 a4:Value)(h:ai)(R:Value→ai→Prop):Prop:=
 vK (ak .i .eql a0 aj) λl=>
 aG l (
 vK (ak .i .mul a3 a1) λa=>
 eM (λb=>
 vK (ak .i .mul a4 a2) λm=>
 vK (ak .i .gtr m a) λn=>
 aG n (
 vK (ak .i .mul a4 a2) λo=>
 b [o] h) (
 b [a] h))
 λc al d=>
 vK (ak .i .add a3 aJ) λp=>
 vK (ak .i .mul p a1) λe=>
 vK (ak .i .add a4 aJ) λq=>
 vK (ak .i .mul q a2) λr=>
 vK (ak .i .lss r e) λs=>
 aG s (
 vK (ak .i .add a4 aJ) λt=>
 vK (ak .i .mul t a2) λu=>
 vK (ak .i .sub u (ix c 0)) λv=>
 ag prog dE #[v,(af 1073741824),a1] d λw x=>
 R w x) (
 vK (ak .i .sub e (ix c 0)) λy=>
 ag prog dE #[y,(af 1073741824),a1] d λz aa=>
 R z aa)) (
 ag prog mF #[a1,a2,a3,a4] h λf g=>
 vK (aP f 0) λj=>
 vK (aP f 1) λk=>
 vK (ak .i .eql a0 aJ) λab=>
 aG ab (
 ag prog Bi #[j,k] g λac ad=>
 R ac ad) (
 ag prog uI #[j,k] g λae ah=>
 R ae ah))
theorem MD (H:BJ a0 a1 a2 a3 a4 h R):ag prog xE #[a0,a1,a2,a3,a4] h R:=fk f266 (.s .z (.s (.s .z (.s (.s .z (.j 267388928 [11] (.s .z (.s .z .z)) (.s .z (.s (.s .z (.s .z .z)) (.s .z .z))))) .z)) (.s .z (.s (.s .z (.s (.s .z .z) .z)) (.s .z .z))))) H
def FQ (a0:Value)(h:ai)(R:Value→ai→Prop):Prop:=
 vK (ak .i .geq a0 aj) λa=>
 aG a (
 R a0 h) (
 vK (ak .i .lss a0 (af (-9223372036854775807))) λb=>
 aG b (
 R (af 9223372036854775807) h) (
 vK (unV .neg a0) λc=>
 R c h))
theorem Rg (H:FQ a0 h R):ag prog vY #[a0] h R:=fk f267 (.s .z (.s (.s .z (.s (.s .z .z) .z)) (.s (.s .z (.s (.s .z .z) .z)) (.s .z .z)))) H
def IC (a0:Value)(h:ai)(R:Value→ai→Prop):Prop:=
 vK (aD a0) λc=>
 bC [aj,aj] h λa m b d=>
 vK (ak .i .lss (ix a 1) c) λe=>
 aG e (
 vK (bh 1 a0 (ix a 1)) λf=>
 vK (ldV b f) λg=>
 ag prog vX #[(ix a 0),g] b λj k=>
 vK (ak .i .add (ix a 1) aJ) λl=>
 d [j,l] k) (
 R (ix a 0) b)
theorem TB (H:IC a0 h R):ag prog DY #[a0] h R:=fk f268 (.s .z (.s .z (.s (.s .z (.l 65320 [3,8] (.s .z (.s (.s .z .z) (.s (.s .z .z) .z))))) (.s .z .z)))) H
def CB (a0 a1:Value)(h:ai)(R:Value→ai→Prop):Prop:=
 vK (ak .i .eql a1 aj) λg=>
 aG g (
 R aj h) (
 ag prog gG #[a0] h λj k=>
 vK ((aR #[(.int .u64 0),(.int .u64 0)] [(0,1,(.int .u64 0)),(1,1,j)]).map .agg) λl=>
 ag prog gG #[a1] k λm n=>
 ag prog wg #[l,m] n λe o=>
 vK (aP e 0) λp=>
 vK (aP e 1) λq=>
 aT #[(.int .u64 0),(.int .u64 0)] 351 o λa r=>
 stK 2 a p r λal d=>
 vK (ak .i .lss a0 aj) λs=>
 vK (ak .i .lss a1 aj) λt=>
 vK (ak .b .neq s t) λc=>
 vK (gV c true (some q)) λu=>
 vK (gV c true (ak .i .gtr u (.int .u64 0))) λv=>
 vK (aH c v (.bool false)) λw=>
 aG w (
 vK (aM 2 d a) λx=>
 vK ((aR #[(.int .u64 0),(.int .u64 0)] [(0,1,(.int .u64 0)),(1,1,(.int .u64 1))]).map .agg) λy=>
 ag prog jq #[x,y] d λz aa=>
 stK 2 a z aa λam f=>
 vK (aM 2 f a) λab=>
 ag prog ed #[ab,c] f λac ad=>
 R ac ad) (
 vK (aM 2 d a) λae=>
 ag prog ed #[ae,c] d λaf ah=>
 R af ah))
theorem OH (H:CB a0 a1 h R):ag prog sU #[a0,a1] h R:=fk f269 (.s .z (.s (.s .z (.s (.s .z .z) .z)) (.s .z (.s .z (.s (.s .z (.s .z .z)) (.s .z .z)))))) H
def Cy (a0 a1:Value)(h:ai)(R:Value→ai→Prop):Prop:=
 vK (ak .i .lss a1 aJ) λw=>
 aG w (
 R a0 h) (
 vK (ak .i .gtr a1 (af 64)) λx=>
 aG x (
 R aj h) (
 vK ((aR #[(.int .u64 0),(.int .u64 0)] [(0,1,(.int .u64 0)),(1,1,(.int .u64 1))]).map .agg) λy=>
 aT #[(.int .u64 0),(.int .u64 0)] 351 h λc z=>
 stK 2 c y z λck aa=>
 vK (ak .i .sub a1 aJ) λab=>
 bC [aj] aa λp cl n ac=>
 vK (ak .i .lss (ix p 0) ab) λad=>
 aG ad (
 vK (aM 2 n c) λae=>
 ag prog fU #[ae,(.int .u64 0)] n λah al=>
 stK 2 c ah al λcm am=>
 vK (ak .i .add (ix p 0) aJ) λan=>
 ac [an] am) (
 ag prog gG #[a0] n λao ap=>
 vK ((aR #[(.int .u64 0),(.int .u64 0)] [(0,1,(.int .u64 0)),(1,1,ao)]).map .agg) λaq=>
 aT #[(.int .u64 0),(.int .u64 0)] 351 ap λj ar=>
 stK 2 j aq ar λcn au=>
 vK ((aR #[(.int .u64 0),(.int .u64 0)] []).map .agg) λav=>
 aT #[(.int .u64 0),(.int .u64 0)] 351 au λb aw=>
 stK 2 b av aw λco ax=>
 bC [(af 127)] ax λo cp a ay=>
 vK (ak .i .geq (ix o 0) a1) λaz=>
 aG az (
 bL a λS=>
 qK S (λa=>aM 2 a b) λa2=>
 qK S (λa=>aM 2 a j) λa3=>
 ag prog jr #[a3,(ix o 0)] a λa4 q=>
 S q∧(ag prog fU #[a2,a4] q λa5 a6=>
 stK 2 b a5 a6 λcq a7=>
 vK (ak .i .sub (ix o 0) aJ) λa8=>
 ay [a8] a7)) (
 vK (aM 2 a j) λa9=>
 aT #[(.int .u64 0),(.int .u64 0)] 351 a λd ba=>
 stK 2 d a9 ba λcr bb=>
 bC [a1] bb λe cs f r=>
 vK (ak .i .lss (ix e 0) (af 128)) λbc=>
 aG bc (
 vK (aM 2 f j) λbd=>
 ag prog jr #[bd,(ix e 0)] f λbe s=>
 vK (ak .i .eql be (.int .u64 1)) λbf=>
 aG bf (
 vK ((aR #[(.int .u64 0),(.int .u64 0)] [(0,1,(.int .u64 0)),(1,1,(.int .u64 1))]).map .agg) λbg=>
 aT #[(.int .u64 0),(.int .u64 0)] 351 s λk bh=>
 stK 2 k bg bh λct bi=>
 bC [aj] bi λt cu g bj=>
 vK (ak .i .lss (ix t 0) (ix e 0)) λbk=>
 aG bk (
 vK (aM 2 g k) λbl=>
 ag prog fU #[bl,(.int .u64 0)] g λbm bn=>
 stK 2 k bm bn λcv bo=>
 vK (ak .i .add (ix t 0) aJ) λbp=>
 bj [bp] bo) (
 vK (aM 2 g d) λbq=>
 vK (aM 2 g k) λbr=>
 ag prog sT #[bq,br] g λbs bt=>
 stK 2 d bs bt λcw bu=>
 vK (ak .i .add (ix e 0) aJ) λbv=>
 r [bv] bu)) (
 vK (ak .i .add (ix e 0) aJ) λbw=>
 r [bw] s)) (
 vK (aM 2 f d) λbx=>
 vK (aM 2 f c) λbz=>
 ag prog kJ #[bx,bz] f λb0 l=>
 vK (unV .not b0) λb1=>
 eM (λu=>
 vK (ak .i .lss a0 aj) λb2=>
 aG b2 (
 vK (aM 2 l c) λb3=>
 vK (aM 2 l d) λb4=>
 ag prog kJ #[b3,b4] l λb5 b6=>
 u [b5] b6) (
 u [b1] l))
 λb7 cx m=>
 aG (ix b7 0) (
 vK (aM 2 m b) λb8=>
 vK ((aR #[(.int .u64 0),(.int .u64 0)] [(0,1,(.int .u64 0)),(1,1,(.int .u64 1))]).map .agg) λb9=>
 ag prog jq #[b8,b9] m λca cb=>
 stK 2 b ca cb λcy v=>
 vK (aM 2 v b) λcc=>
 vK (ak .i .lss a0 aj) λcd=>
 ag prog ed #[cc,cd] v λce cf=>
 R ce cf) (
 vK (aM 2 m b) λcg=>
 vK (ak .i .lss a0 aj) λch=>
 ag prog ed #[cg,ch] m λci cj=>
 R ci cj))))))
theorem OF (H:Cy a0 a1 h R):ag prog nF #[a0,a1] h R:=fk f270 (.s .z (.s (.s .z (.s (.s .z .z) .z)) (.s (.s .z (.s (.s .z .z) .z)) (.s .z (.s (.s .z (.l 65011712 [21] (.s .z (.s (.s .z .z) (.s .z .z))))) (.s .z (.s .z (.s (.s .z (.l 1098437886208 [8] (.s (.s .z (.s .z .z)) (.s (.d (.op 0 .r (.op 1 .r (.op 2 .r (.op 3 .e (.op 4 .n (.op 5 .n .nil))))))) .z)))) (.s .z (.s (.s .z (.l 1152917106560338944 [10] (.s (.s .z (.s .z .z)) (.s (.s .z (.s (.s .z (.s (.s .z (.l 139611588448485376 [52] (.s .z (.s (.s .z .z) (.s .z .z))))) .z)) .z)) .z)))) (.s .z (.j 571849066284996104192 [12] (.s .z (.s .z .z)) (.s (.s .z (.s .z .z)) (.s .z .z)))))))))))))) H
def IG (a0:Value)(h:ai)(R:Value→ai→Prop):Prop:=
 eM (λc=>
 vK (ak .i .lss a0 aj) λk=>
 aG k (
 c [aj] h) (
 c [a0] h))
 λd aa l=>
 ag prog sU #[(ix d 0),(af 762123384786)] l λe m=>
 vK (ak .i .mul e (af 762123384786)) λn=>
 vK (ak .i .sub (ix d 0) n) λo=>
 bC [(af 1099511627776),aj,(af 1099511627776),aJ] m λa ab f g=>
 vK (ak .i .leq (ix a 3) (af 16)) λp=>
 aG p (
 vK (ak .i .mul (ix a 3) (af 1099511627776)) λq=>
 ag prog dE #[(ix a 2),o,q] f λb j=>
 vK (ak .i .rem (ix a 3) (af 2)) λr=>
 vK (ak .i .eql r aJ) λs=>
 aG s (
 vK (ak .i .add (ix a 1) b) λt=>
 vK (ak .i .add (ix a 3) aJ) λu=>
 g [(ix a 0),t,b,u] j) (
 vK (ak .i .add (ix a 0) b) λv=>
 vK (ak .i .add (ix a 3) aJ) λw=>
 g [v,(ix a 1),b,w] j)) (
 vK (ak .i .sub (ix a 0) (ix a 1)) λx=>
 ag prog nF #[x,e] f λy z=>
 R y z)
theorem TF (H:IG a0 h R):ag prog Ea #[a0] h R:=fk f271 (.s .z (.j 1537 [0] (.s .z (.s .z .z)) (.s .z (.s .z (.s .z (.s .z (.s .z (.s (.s .z (.l 34359607776 [5,6,7,8] (.s (.s .z (.s .z .z)) (.s (.s .z (.s .z (.s .z .z))) .z)))) (.s .z .z))))))))) H
def Cu (a0 a1:Value)(h:ai)(R:Value→ai→Prop):Prop:=
 vK (ak .i .lss a1 aJ) λa=>
 vK (gV a false (some a1)) λd=>
 vK (gV a false (ak .i .gtr d (af 4194304))) λe=>
 vK (aH a (.bool true) e) λb=>
 vK (gV b false (some a0)) λf=>
 vK (gV b false (ak .i .lss f (af (-16384)))) λg=>
 vK (aH b (.bool true) g) λc=>
 vK (gV c false (some a0)) λj=>
 vK (gV c false (ak .i .gtr j (af 16384))) λk=>
 vK (aH c (.bool true) k) λl=>
 aG l (
 R (af 9223372036854775807) h) (
 vK (ak .i .mul a0 a0) λm=>
 vK (ak .i .mul m (af 2147483648)) λn=>
 vK (ak .i .mul a1 a1) λo=>
 ag prog dE #[n,(af 1099511627776),o] h λp q=>
 R p q)
theorem OB (H:Cu a0 a1 h R):ag prog y8 #[a0,a1] h R:=fk f272 (.s .z (.s (.s .z (.s (.s .z .z) .z)) (.s .z .z))) H
def FO (a0 a1:Value)(h:ai)(R:Value→ai→Prop):Prop:=
 vK (ak .i .gtr a1 aj) λa=>
 vK (gV a true (some a0)) λc=>
 vK (gV a true (some a1)) λd=>
 vK (gV a true (ak .i .sub (af 9223372036854775807) d)) λe=>
 vK (gV a true (ak .i .gtr c e)) λf=>
 vK (aH a f (.bool false)) λg=>
 aG g (
 R (af 9223372036854775807) h) (
 vK (ak .i .lss a1 aj) λb=>
 vK (gV b true (some a0)) λj=>
 vK (gV b true (some a1)) λk=>
 vK (gV b true (ak .i .sub (af (-9223372036854775808)) k)) λl=>
 vK (gV b true (ak .i .lss j l)) λm=>
 vK (aH b m (.bool false)) λn=>
 aG n (
 R (af (-9223372036854775808)) h) (
 vK (ak .i .add a0 a1) λo=>
 R o h))
theorem Re (H:FO a0 a1 h R):ag prog vX #[a0,a1] h R:=fk f273 (.s .z (.s (.s .z (.s (.s .z .z) .z)) (.s (.s .z (.s (.s .z .z) .z)) (.s .z .z)))) H
def Cx (a0 a1:Value)(h:ai)(R:Value→ai→Prop):Prop:=
 aT #[(.int .u64 0),(.int .u64 0)] 351 h λe j=>
 vK ((aR #[(.int .u64 0),(.int .u64 0)] []).map .agg) λk=>
 aT #[(.int .u64 0),(.int .u64 0)] 351 j λa l=>
 stK 2 a k l λad m=>
 bC [(af 63)] m λb ae c f=>
 vK (ak .i .geq (ix b 0) aj) λn=>
 aG n (
 vK (aM 2 c a) λo=>
 ag prog fU #[o,(.int .u64 0)] c λp q=>
 stK 2 a p q λah d=>
 vK (ak .i .shr a1 (ix b 0)) λr=>
 vK (ak .i .and r (.int .u64 1)) λs=>
 vK (ak .i .eql s (.int .u64 1)) λt=>
 aG t (
 vK (aM 2 d a) λu=>
 vK ((aR #[(.int .u64 0),(.int .u64 0)] [(0,1,(.int .u64 0)),(1,1,a0)]).map .agg) λv=>
 ag prog jq #[u,v] d λw x=>
 stK 2 a w x λal y=>
 vK (ak .i .sub (ix b 0) aJ) λz=>
 f [z] y) (
 vK (ak .i .sub (ix b 0) aJ) λaa=>
 f [aa] d)) (
 vK (aM 2 c a) λab=>
 stK 2 e ab c λam g=>
 vK (aM 2 g e) λac=>
 R ac g)
theorem OE (H:Cx a0 a1 h R):ag prog sS #[a0,a1] h R:=fk f274 (.s .z (.s .z (.s (.s .z (.l 8388416 [6] (.s (.s .z (.s .z .z)) (.s (.s .z (.s .z (.s .z .z))) .z)))) (.s .z .z)))) H
def FU (a0:Value)(h:ai)(R:Value→ai→Prop):Prop:=
 vK (ak .i .lss a0 aj) λa=>
 aG a (
 vK (ak .i .add a0 aJ) λb=>
 vK (unV .neg b) λc=>
 vK (gS .u64 c) λd=>
 vK (ak .i .add d (.int .u64 1)) λe=>
 R e h) (
 vK (gS .u64 a0) λf=>
 R f h)
theorem Rk (H:FU a0 h R):ag prog gG #[a0] h R:=fk f275 (.s .z (.s (.s .z (.s (.s .z .z) .z)) (.s .z .z))) H
def zR (a0 a1 a2:Value)(h:ai)(R:Value→ai→Prop):Prop:=
 aT (Value.cells a0) 351 h λk e=>
 vK (aM 2 e k) λl=>
 ag prog wg #[l,a1] e λf m=>
 vK (aP f 0) λn=>
 vK (aP f 1) λo=>
 aT #[(.int .u64 0),(.int .u64 0)] 351 m λa p=>
 stK 2 a n p λaq q=>
 vK ((aR #[(.int .u64 0),(.int .u64 0)] [(0,1,(.int .u64 0)),(1,1,o)]).map .agg) λr=>
 ag prog fU #[r,(.int .u64 0)] q λs t=>
 aT #[(.int .u64 0),(.int .u64 0)] 351 t λc u=>
 stK 2 c s u λar g=>
 vK (aM 2 g c) λv=>
 vK ((aR #[(.int .u64 0),(.int .u64 0)] [(0,1,(.int .u64 0)),(1,1,a1)]).map .agg) λw=>
 ag prog kJ #[v,w] g λx d=>
 vK (unV .not x) λy=>
 eM (λi=>
 aG a2 (
 vK ((aR #[(.int .u64 0),(.int .u64 0)] [(0,1,(.int .u64 0)),(1,1,a1)]).map .agg) λz=>
 vK (aM 2 d c) λaa=>
 ag prog kJ #[z,aa] d λab ac=>
 i [ab] ac) (
 i [y] d))
 λad au b=>
 aG (ix ad 0) (
 vK (aM 2 b a) λae=>
 vK ((aR #[(.int .u64 0),(.int .u64 0)] [(0,1,(.int .u64 0)),(1,1,(.int .u64 1))]).map .agg) λaf=>
 ag prog jq #[ae,af] b λah aj=>
 stK 2 a ah aj λav j=>
 vK (aM 2 j a) λak=>
 ag prog ed #[ak,a2] j λal am=>
 R al am) (
 vK (aM 2 b a) λan=>
 ag prog ed #[an,a2] b λao ap=>
 R ao ap)
theorem K3 (H:zR a0 a1 a2 h R):ag prog uJ #[a0,a1,a2] h R:=fk f276 (.s .z (.s .z (.s .z (.s .z (.j 1040188416 [10] (.s .z (.s .z .z)) (.s (.s .z (.s .z .z)) (.s .z .z))))))) H
def LH (a0 a1:Value)(h:ai)(R:Value→ai→Prop):Prop:=
 vK (ak .i .geq a1 aJ) λc=>
 vK (gV c true (some a1)) λd=>
 vK (gV c true (ak .i .leq d (af 1048576))) λe=>
 vK (aH c e (.bool false)) λa=>
 vK (gV a true (some a0)) λf=>
 vK (gV a true (some a1)) λg=>
 vK (gV a true (ak .i .mul (af (-4)) g)) λj=>
 vK (gV a true (ak .i .geq f j)) λk=>
 vK (aH a k (.bool false)) λb=>
 vK (gV b true (some a0)) λl=>
 vK (gV b true (some a1)) λm=>
 vK (gV b true (ak .i .mul (af 4) m)) λn=>
 vK (gV b true (ak .i .leq l n)) λo=>
 vK (aH b o (.bool false)) λp=>
 R p h
theorem VN (H:LH a0 a1 h R):ag prog Ib #[a0,a1] h R:=fk f278 (.s .z (.s .z .z)) H
def Iu (a0:Value)(h:ai)(R:Value→ai→Prop):Prop:=
 vK (unV .neg a0) λa=>
 vK (kA a0 a) λb=>
 R b h
theorem Tt (H:Iu a0 h R):ag prog yF #[a0] h R:=fk f279 (.s .z (.s .z .z)) H
def zI (a0 a1 a2:Value)(h:ai)(R:Value→ai→Prop):Prop:=
 vK (kA aj a2) λb=>
 vK (ak .i .geq b (af 128)) λr=>
 aG r (
 R aj h) (
 ag prog qf #[a0,a1] h λg j=>
 vK (aP g 0) λc=>
 vK (aP g 1) λd=>
 vK (aP g 2) λe=>
 vK (ak .i .eql b aj) λs=>
 aG s (
 ag prog fo #[c,d,e] j λt u=>
 R t u) (
 ag prog vT #[c,d,b] j λk v=>
 vK (aP k 0) λl=>
 vK (aP k 1) λm=>
 vK (ak .i .sub b aJ) λw=>
 ag prog vT #[c,d,w] v λn o=>
 vK (aP n 0) λax=>
 vK (aP n 1) λx=>
 vK (ak .i .and x (.int .u64 1)) λy=>
 vK (ak .i .eql y (.int .u64 0)) λf=>
 vK (gV f false (some e)) λz=>
 vK (gV f false (some z)) λa=>
 vK (gV a true (some c)) λaa=>
 vK (gV a true (some d)) λab=>
 vK (gV a true (some b)) λac=>
 vK (gV a true (ak .i .sub ac aJ)) λad=>
 gK a true (λae=>ag prog A8 #[aa,ab,ad] o ae) o λah p=>
 vK (gV f false (aH a ah (.bool false))) λal=>
 vK (aH f (.bool true) al) λam=>
 aG am (
 ag prog fo #[l,m,e] p λan ao=>
 R an ao) (
 ag prog gZ #[m,(.int .u64 1),(.int .u64 0)] p λq ap=>
 vK (aP q 0) λaq=>
 vK (aP q 1) λar=>
 vK (ak .i .add l ar) λau=>
 ag prog fo #[au,aq,e] ap λav aw=>
 R av aw)))
theorem KT (H:zI a0 a1 a2 h R):ag prog uE #[a0,a1,a2] h R:=fk f280 (.s .z (.s .z (.s (.s .z (.s (.s .z .z) .z)) (.s .z (.s (.s .z (.s (.s .z .z) .z)) (.s .z (.s .z (.s (.s .z (.s (.s .z .z) .z)) (.s .z (.s .z .z)))))))))) H
def Cn (a0 a1:Value)(h:ai)(R:Value→ai→Prop):Prop:=
 ag prog yF #[a0] h λb f=>
 ag prog ft #[(af 10851744800547),b,a1] f λg j=>
 ag prog ft #[g,b,a1] j λk l=>
 bC [(af 1099511627776),(af 1099511627776),aJ,aJ] l λa x c m=>
 vK (ak .i .leq (ix a 3) (af 30)) λn=>
 aG n (
 vK (unV .neg (ix a 2)) λd=>
 vK (ak .i .mul (af 2) (ix a 3)) λo=>
 vK (ak .i .mul (af 2) (ix a 3)) λp=>
 vK (ak .i .add p aJ) λq=>
 vK (ak .i .mul o q) λr=>
 vK (ak .i .shl r (.int .u64 40)) λs=>
 ag prog ft #[(ix a 1),k,s] c λe t=>
 vK (ak .i .mul d e) λu=>
 vK (ak .i .add (ix a 0) u) λv=>
 vK (ak .i .add (ix a 3) aJ) λw=>
 m [v,e,d,w] t) (
 R (ix a 0) c)
theorem Ou (H:Cn a0 a1 h R):ag prog sO #[a0,a1] h R:=fk f281 (.s .z (.s .z (.s .z (.s .z (.s (.s .z (.l 549755552704 [6,7,8,9] (.s (.s .z (.s .z .z)) (.s (.s .z (.s .z .z)) .z)))) (.s .z .z)))))) H
def iK (a0 a1:Value)(h:ai)(R:Value→ai→Prop):Prop:=
 vK (aD a0) λd=>
 bC [aj] h λa m b e=>
 vK (ak .i .lss (ix a 0) d) λf=>
 aG f (
 vK (bh 1 a0 (ix a 0)) λg=>
 vK (ldV b g) λj=>
 clK prog a1 #[j] b λk c=>
 aG k (
 R (ix a 0) c) (
 vK (ak .i .add (ix a 0) aJ) λl=>
 e [l] c)) (
 R (af (-1)) b)
theorem oh (H:iK a0 a1 h R):ag prog jc #[a0,a1] h R:=fk f282 (.s .z (.s (.s .z (.l 524080 [8] (.s .z (.s (.s .z .z) (.s (.s .z (.s .z (.s (.s .z .z) .z))) .z))))) (.s .z .z))) H
def IR (a0 a1:Value)(h:ai)(R:Value→ai→Prop):Prop:=
 ag prog jz #[a0] h λd e=>
 ag prog jz #[a1] e λf g=>
 ag prog lO #[d,f] g λa c=>
 vK (aP a 0) λj=>
 vK (aP a 1) λk=>
 vK (ak .i .neq j (.int .u64 0)) λl=>
 aG l (
 vK (ak .i .lss a0 aj) λm=>
 vK (ak .i .lss a1 aj) λn=>
 vK (ak .b .neq m n) λo=>
 ag prog mH #[(.int .u64 18446744073709551615),o] c λp q=>
 R p q) (
 vK (ak .i .lss a0 aj) λr=>
 vK (ak .i .lss a1 aj) λs=>
 vK (ak .b .neq r s) λt=>
 ag prog mH #[k,t] c λu v=>
 R u v)
theorem TP (H:IR a0 a1 h R):ag prog Ee #[a0,a1] h R:=fk f283 (.s .z (.s .z (.s (.s .z (.s .z .z)) (.s .z .z)))) H
def iJ (a0 a1 a2 a3:Value)(h:ai)(R:Value→ai→Prop):Prop:=
 vK (ak .i .add a1 aJ) λg=>
 bC [g] h λe ap f j=>
 vK (ak .i .lss (ix e 0) a2) λk=>
 aG k (
 bC [(ix e 0)] f λb aq c l=>
 bL c λS=>
 vK (ak .i .gtr (ix b 0) a1) λa=>
 vK (gV a true (some a3)) λm=>
 vK (gV a true (some a0)) λn=>
 vK (gV a true (some (ix b 0))) λo=>
 vK (gV a true (bh 1 n o)) λp=>
 qK S (λc=>gV a true (ldV c p)) λq=>
 vK (gV a true (some a0)) λr=>
 vK (gV a true (some (ix b 0))) λs=>
 vK (gV a true (ak .i .sub s aJ)) λt=>
 vK (gV a true (bh 1 r t)) λu=>
 qK S (λc=>gV a true (ldV c u)) λv=>
 gK a true (λw=>clK prog m #[q,v] c w) c λx d=>
 vK (gV a true (ak .i .lss x aj)) λy=>
 vK (aH a y (.bool false)) λz=>
 aG z (
 bL d λS=>
 vK (ak .i .sub (ix b 0) aJ) λaa=>
 vK (ak .i .sub (ix b 0) aJ) λab=>
 vK (bh 1 a0 ab) λac=>
 qK S (λd=>ldV d ac) λad=>
 vK (bh 1 a0 (ix b 0)) λae=>
 qK S (λd=>ldV d ae) λaf=>
 vK (bh 1 a0 (ix b 0)) λag=>
 stK 1 ag ad d λar ah=>
 vK (bh 1 a0 aa) λal=>
 stK 1 al af ah λau am=>
 vK (ak .i .sub (ix b 0) aJ) λan=>
 l [an] am) (
 vK (ak .i .add (ix e 0) aJ) λao=>
 j [ao] d)) (
 R (.tuple #[]) f)
theorem og (H:iJ a0 a1 a2 a3 h R):ag prog dF #[a0,a1,a2,a3] h R:=fk f284 (.s .z (.l 9007199254737664 [8] (.s (.s .z (.s .z .z)) (.s (.s .z (.l 9007199254479360 [9] (.s (.s (.d (.op 0 .r (.op 1 .r (.op 2 .r (.op 3 .r (.op 4 .r (.op 5 .r (.op 6 .r (.op 7 .r (.op 8 .r (.op 9 .r (.op 10 .r (.op 11 .r (.op 12 .r (.op 13 .r (.op 14 .n (.op 15 .r (.op 16 .r .nil)))))))))))))))))) (.s .z .z)) (.s (.d (.op 0 .r (.op 1 .r (.op 2 .r (.op 3 .r (.op 4 .r (.op 5 .r (.op 6 .r (.op 7 .r (.op 8 .r (.op 9 .r (.op 10 .r (.op 11 .r (.op 12 .r (.op 13 .r (.op 14 .r (.op 15 .n (.op 16 .r (.op 17 .n .nil))))))))))))))))))) .z)))) .z)))) H
def kj (a0 a1 a2 a3 a4:Value)(h:ai)(R:Value→ai→Prop):Prop:=
 vK (ak .i .sub a2 a1) λal=>
 vK (ak .i .eql al aJ) λam=>
 aG am (
 bC [a2,a3] h λe dg f x=>
 vK (ak .i .lss (ix e 0) (ix e 1)) λan=>
 aG an (
 vK (ak .i .add (ix e 0) (ix e 1)) λao=>
 vK (gS .u64 ao) λap=>
 vK (ak .i .shr ap (.int .u64 1)) λaq=>
 vK (gS .i64 aq) λt=>
 bL f λS=>
 vK (bh 1 a0 t) λar=>
 qK S (λf=>ldV f ar) λau=>
 vK (bh 1 a0 a1) λav=>
 qK S (λf=>ldV f av) λaw=>
 clK prog a4 #[au,aw] f λax y=>
 vK (ak .i .lss ax aj) λay=>
 aG ay (
 vK (ak .i .add t aJ) λaz=>
 x [az,(ix e 1)] y) (
 x [(ix e 0),t] y)) (
 bC [a1] f λm dh g a5=>
 vK (ak .i .sub (ix e 0) aJ) λa6=>
 vK (ak .i .lss (ix m 0) a6) λa7=>
 aG a7 (
 bL g λS=>
 vK (ak .i .add (ix m 0) aJ) λa8=>
 vK (ak .i .add (ix m 0) aJ) λa9=>
 vK (bh 1 a0 a9) λba=>
 qK S (λg=>ldV g ba) λbb=>
 vK (bh 1 a0 (ix m 0)) λbc=>
 qK S (λg=>ldV g bc) λbd=>
 vK (bh 1 a0 (ix m 0)) λbe=>
 stK 1 be bb g λdi bf=>
 vK (bh 1 a0 a8) λbg=>
 stK 1 bg bd bf λdj bi=>
 vK (ak .i .add (ix m 0) aJ) λbj=>
 a5 [bj] bi) (
 R (.tuple #[]) g))) (
 vK (ak .i .sub a3 a2) λbk=>
 vK (ak .i .eql bk aJ) λbl=>
 aG bl (
 bC [a1,a2] h λj dk k z=>
 vK (ak .i .lss (ix j 0) (ix j 1)) λbm=>
 aG bm (
 vK (ak .i .add (ix j 0) (ix j 1)) λbn=>
 vK (gS .u64 bn) λbo=>
 vK (ak .i .shr bo (.int .u64 1)) λbp=>
 vK (gS .i64 bp) λu=>
 bL k λS=>
 vK (bh 1 a0 a2) λbq=>
 qK S (λk=>ldV k bq) λbr=>
 vK (bh 1 a0 u) λbs=>
 qK S (λk=>ldV k bs) λbt=>
 clK prog a4 #[br,bt] k λbu aa=>
 vK (ak .i .lss bu aj) λbv=>
 vK (unV .not bv) λbw=>
 aG bw (
 vK (ak .i .add u aJ) λbx=>
 z [bx,(ix j 1)] aa) (
 z [(ix j 0),u] aa)) (
 bC [a2] k λn dl l bz=>
 vK (ak .i .gtr (ix n 0) (ix j 0)) λb0=>
 aG b0 (
 bL l λS=>
 vK (ak .i .sub (ix n 0) aJ) λb1=>
 vK (ak .i .sub (ix n 0) aJ) λb2=>
 vK (bh 1 a0 b2) λb3=>
 qK S (λl=>ldV l b3) λb4=>
 vK (bh 1 a0 (ix n 0)) λb5=>
 qK S (λl=>ldV l b5) λb6=>
 vK (bh 1 a0 (ix n 0)) λb7=>
 stK 1 b7 b4 l λdm b8=>
 vK (bh 1 a0 b1) λb9=>
 stK 1 b9 b6 b8 λdn ca=>
 vK (ak .i .sub (ix n 0) aJ) λcb=>
 bz [cb] ca) (
 R (.tuple #[]) l))) (
 vK (ak .i .add a1 a3) λcc=>
 vK (gS .u64 cc) λcd=>
 vK (ak .i .shr cd (.int .u64 1)) λce=>
 vK (gS .i64 ce) λb=>
 vK (ak .i .add b a2) λv=>
 eM (λab=>
 vK (ak .i .gtr a2 b) λcf=>
 aG cf (
 vK (ak .i .sub v a3) λcg=>
 ab [cg,b] h) (
 ab [a1,a2] h))
 λac dp ch=>
 vK (ak .i .sub v aJ) λci=>
 bC [(ix ac 0),(ix ac 1)] ch λa dq c ad=>
 vK (ak .i .lss (ix a 0) (ix a 1)) λcj=>
 aG cj (
 vK (ak .i .add (ix a 0) (ix a 1)) λck=>
 vK (gS .u64 ck) λcl=>
 vK (ak .i .shr cl (.int .u64 1)) λcm=>
 vK (gS .i64 cm) λo=>
 bL c λS=>
 vK (ak .i .sub ci o) λcn=>
 vK (bh 1 a0 cn) λco=>
 qK S (λc=>ldV c co) λcp=>
 vK (bh 1 a0 o) λcr=>
 qK S (λc=>ldV c cr) λcs=>
 clK prog a4 #[cp,cs] c λct ae=>
 vK (ak .i .lss ct aj) λcu=>
 vK (unV .not cu) λcv=>
 aG cv (
 vK (ak .i .add o aJ) λcw=>
 ad [cw,(ix a 1)] ae) (
 ad [(ix a 0),o] ae)) (
 vK (ak .i .sub v (ix a 0)) λd=>
 eM (λaf=>
 vK (ak .i .lss (ix a 0) a2) λp=>
 vK (gV p true (some a2)) λcx=>
 vK (gV p true (some d)) λcy=>
 vK (gV p true (ak .i .lss cx cy)) λcz=>
 vK (aH p cz (.bool false)) λc0=>
 aG c0 (
 ag prog iV #[a0,(ix a 0),a2,d,a4] c λdr c1=>
 af [] c1) (
 af [] c))
 λds dt w=>
 vK (ak .i .lss a1 (ix a 0)) λq=>
 vK (gV q true (some (ix a 0))) λc2=>
 vK (gV q true (some b)) λc3=>
 vK (gV q true (ak .i .lss c2 c3)) λc4=>
 vK (aH q c4 (.bool false)) λc5=>
 aG c5 (
 ag prog cq #[a0,a1,(ix a 0),b,a4] w λdu ah=>
 vK (ak .i .lss b d) λr=>
 vK (gV r true (some d)) λc6=>
 vK (gV r true (some a3)) λc7=>
 vK (gV r true (ak .i .lss c6 c7)) λc8=>
 vK (aH r c8 (.bool false)) λc9=>
 aG c9 (
 ag prog cq #[a0,b,d,a3,a4] ah λdv da=>
 R (.tuple #[]) da) (
 R (.tuple #[]) ah)) (
 vK (ak .i .lss b d) λs=>
 vK (gV s true (some d)) λdb=>
 vK (gV s true (some a3)) λdc=>
 vK (gV s true (ak .i .lss db dc)) λdd=>
 vK (aH s dd (.bool false)) λde=>
 aG de (
 ag prog cq #[a0,b,d,a3,a4] w λdw df=>
 R (.tuple #[]) df) (
 R (.tuple #[]) w)))))
theorem tP (H:kj a0 a1 a2 a3 a4 h R):ag prog cq #[a0,a1,a2,a3,a4] h R:=fk f285 (.s (.s .z (.s (.s .z (.s .z (.s (.l 18014396362005504 [10,11] (.s (.s .z (.s .z .z)) (.s .z (.s (.d (.op 0 .r (.op 1 .r (.op 2 .r (.op 3 .r (.op 4 .r (.op 5 .r (.op 6 .r (.op 7 .r (.op 8 .r (.op 9 .n (.op 10 .r .nil)))))))))))) (.s .z .z))))) (.s (.s .z (.l 151115691423031627882496 [13] (.s (.s .z (.s .z .z)) (.s (.d (.op 0 .r (.op 1 .r (.op 2 .r (.op 3 .r (.op 4 .r (.op 5 .r (.op 6 .r (.op 7 .r (.op 8 .r (.op 9 .r (.op 10 .r (.op 11 .r (.op 12 .r (.op 13 .r (.op 14 .r (.op 15 .n (.op 16 .r (.op 17 .n .nil))))))))))))))))))) .z)))) .z)))) .z)) (.s (.s .z (.s (.s .z (.s .z (.s (.l 162259267157806806474544612753408 [14,15] (.s (.s .z (.s .z .z)) (.s .z (.s (.d (.op 0 .r (.op 1 .r (.op 2 .r (.op 3 .r (.op 4 .r (.op 5 .r (.op 6 .r (.op 7 .r (.op 8 .r (.op 9 .n (.op 10 .r (.op 11 .r .nil))))))))))))) (.s .z .z))))) (.s (.s .z (.l 680564409323323268500022431707515977728 [17] (.s (.s .z (.s .z .z)) (.s (.d (.op 0 .r (.op 1 .r (.op 2 .r (.op 3 .r (.op 4 .r (.op 5 .r (.op 6 .r (.op 7 .r (.op 8 .r (.op 9 .r (.op 10 .r (.op 11 .r (.op 12 .r (.op 13 .r (.op 14 .r (.op 15 .n (.op 16 .r (.op 17 .n .nil))))))))))))))))))) .z)))) .z)))) .z)) (.s .z (.s .z (.s .z (.j 178057512444517944145699250583176761402458112 [20,21] (.s .z (.s (.s .z .z) (.s .z .z))) (.s .z (.s (.l 47890484938435180470718404069304177263338029388398592 [20,21] (.s (.s .z (.s .z .z)) (.s .z (.s (.d (.op 0 .r (.op 1 .r (.op 2 .r (.op 3 .r (.op 4 .r (.op 5 .r (.op 6 .r (.op 7 .r (.op 8 .r (.op 9 .r (.op 10 .r (.op 11 .n (.op 12 .r (.op 13 .r .nil))))))))))))))) (.s .z .z))))) (.s .z (.j 6276718611501464291621199836450878838806450759683488612352 [] (.s .z (.s .z .z)) (.s (.s .z (.s .z .z)) (.s .z (.s .z .z))))))))))))) H
def lC (a0:Value)(h:ai)(R:Value→ai→Prop):Prop:=
 ag prog yJ #[a0] h λa b=>
 vK (ak .i .sub (af 64) a) λc=>
 R c b
theorem vl (H:lC a0 h R):ag prog iX #[a0] h R:=fk f288 (.s .z (.s .z .z)) H
def kN (a0:Value)(h:ai)(R:Value→ai→Prop):Prop:=
 eM (λc=>
 vK (aD a0) λe=>
 vK (ak .i .lss e aJ) λf=>
 aG f (
 PN h λs g=>
 c [] g) (
 c [] h))
 λt u d=>
 vK (bh 1 a0 aj) λj=>
 vK (ldV d j) λk=>
 bC [k,aJ] d λa v b l=>
 vK (aD a0) λm=>
 vK (ak .i .lss (ix a 1) m) λn=>
 aG n (
 vK (bh 1 a0 (ix a 1)) λo=>
 vK (ldV b o) λp=>
 vK (tW (ix a 0) p) λq=>
 vK (ak .i .add (ix a 1) aJ) λr=>
 l [q,r] b) (
 R (ix a 0) b)
theorem ur (H:kN a0 h R):ag prog iD #[a0] h R:=fk f289 (.s .z (.j 480 [] (.s .z (.s .z .z)) (.s .z (.s (.s .z (.l 16773144 [3,4] (.s (.s .z (.s .z .z)) (.s .z .z)))) (.s .z .z))))) H
def eU (a0:Value)(h:ai)(R:Value→ai→Prop):Prop:=
 aT (Value.cells a0) 284 h λa b=>
 R (.func (.func dW) #[] #[a]) b
theorem jD (H:eU a0 h R):ag prog fD #[a0] h R:=fk f291 (.s .z (.s .z .z)) H
def xY (a0 a1 a2 a3:Value)(h:ai)(R:Value→ai→Prop):Prop:=
 vK (ak .i .mul (af 2) a0) λb=>
 eM (λa=>
 vK (ak .i .gtr a1 a0) λc=>
 aG c (
 vK (ak .i .mul (af 2) a1) λd=>
 a [d] h) (
 a [b] h))
 λe p f=>
 vK (ak .i .mul (af 2) a1) λg=>
 vK (ak .i .mul g a3) λj=>
 vK (ak .i .mul (af 2) a2) λk=>
 vK (ak .i .add k aJ) λl=>
 vK (ak .i .mul l a0) λm=>
 vK (ak .i .sub j m) λn=>
 vK (ak .i .add n a1) λo=>
 R (.tuple #[o,(ix e 0)]) f
theorem Jn (H:xY a0 a1 a2 a3 h R):ag prog mF #[a0,a1,a2,a3] h R:=fk f292 (.s .z (.s .z (.j 254976 [10] (.s .z (.s .z .z)) (.s .z .z)))) H
def FT (a0 a1:Value)(h:ai)(R:Value→ai→Prop):Prop:=
 vK (ak .i .lss a1 aJ) λd=>
 vK (gV d false (some a1)) λl=>
 vK (gV d false (ak .i .gtr l (af 262144))) λm=>
 vK (aH d (.bool true) m) λn=>
 aG n (
 R aj h) (
 vK (ak .i .mul (af 2) a1) λo=>
 vK (ak .i .geq a0 o) λa=>
 vK (gV a false (some a0)) λp=>
 vK (gV a false (some a1)) λq=>
 vK (gV a false (ak .i .mul (af (-2)) q)) λr=>
 vK (gV a false (ak .i .leq p r)) λs=>
 vK (aH a (.bool true) s) λt=>
 aG t (
 R aj h) (
 eM (λf=>
 vK (ak .i .lss a0 aj) λu=>
 aG u (
 vK (unV .neg a0) λv=>
 f [v] h) (
 f [a0] h))
 λb ay g=>
 vK (ak .i .mul (ix b 0) (ix b 0)) λe=>
 vK (ak .i .mul e (ix b 0)) λj=>
 vK (ak .i .mul a1 a1) λk=>
 vK (ak .i .mul k a1) λc=>
 vK (ak .i .lss (ix b 0) a1) λw=>
 aG w (
 vK (ak .i .mul (af 3) j) λx=>
 vK (ak .i .mul (af 5) e) λy=>
 vK (ak .i .mul y a1) λz=>
 vK (ak .i .sub x z) λaa=>
 vK (ak .i .mul (af 2) c) λab=>
 vK (ak .i .add aa ab) λac=>
 vK (ak .i .mul (af 2) c) λad=>
 ag prog dE #[ac,(af 1073741824),ad] g λae ah=>
 R ae ah) (
 vK (ak .i .mul (af 5) e) λal=>
 vK (ak .i .mul al a1) λam=>
 vK (ak .i .sub am j) λan=>
 vK (ak .i .mul (af 8) (ix b 0)) λao=>
 vK (ak .i .mul ao k) λap=>
 vK (ak .i .sub an ap) λaq=>
 vK (ak .i .mul (af 4) c) λar=>
 vK (ak .i .add aq ar) λau=>
 vK (ak .i .mul (af 2) c) λav=>
 ag prog dE #[au,(af 1073741824),av] g λaw ax=>
 R aw ax)))
theorem Rj (H:FT a0 a1 h R):ag prog Bi #[a0,a1] h R:=fk f293 (.s .z (.s (.s .z (.s (.s .z .z) .z)) (.s (.s .z (.s (.s .z .z) .z)) (.j 503316481 [0] (.s .z (.s .z .z)) (.s .z (.s .z (.s .z (.s .z (.s (.s .z (.s (.s .z .z) .z)) (.s .z .z)))))))))) H
def zQ (a0 a1:Value)(h:ai)(R:Value→ai→Prop):Prop:=
 ag prog D0 #[a0,a1] h λd c=>
 vK (unV .not d) λa=>
 vK (gV a false (some a0)) λe=>
 vK (gV a false (some a1)) λf=>
 vK (gV a false (ak .i .mul (af 3) f)) λg=>
 vK (gV a false (ak .i .geq e g)) λj=>
 vK (aH a (.bool true) j) λb=>
 vK (gV b false (some a0)) λk=>
 vK (gV b false (some a1)) λl=>
 vK (gV b false (ak .i .mul (af (-3)) l)) λm=>
 vK (gV b false (ak .i .leq k m)) λn=>
 vK (aH b (.bool true) n) λo=>
 aG o (
 R aj c) (
 ag prog qD #[a0,a1] c λp q=>
 vK (ak .i .mul (af 3) a1) λr=>
 ag prog qD #[a0,r] q λs t=>
 ag prog sh #[p,s,(af 40)] t λu v=>
 ag prog nF #[u,(af 10)] v λw x=>
 R w x)
theorem K2 (H:zQ a0 a1 h R):ag prog uI #[a0,a1] h R:=fk f294 (.s .z (.s (.s .z (.s (.s .z .z) .z)) (.s .z (.s .z .z)))) H
def FW (a0 a1:Value)(h:ai)(R:Value→ai→Prop):Prop:=
 aT (Value.cells a0) 351 h λq r=>
 aT #[(.int .u64 0),(.int .u64 0)] 351 r λd s=>
 vK ((aR #[(.int .u64 0),(.int .u64 0)] []).map .agg) λt=>
 aT #[(.int .u64 0),(.int .u64 0)] 351 s λb u=>
 stK 2 b t u λbc v=>
 vK ((aR #[(.int .u64 0),(.int .u64 0)] []).map .agg) λw=>
 aT #[(.int .u64 0),(.int .u64 0)] 351 v λc x=>
 stK 2 c w x λbd f=>
 vK (ak .i .eql a1 (.int .u64 0)) λy=>
 aG y (
 vK (aM 2 f b) λz=>
 stK 2 d z f λbe k=>
 vK (aM 2 k d) λaa=>
 R (.tuple #[aa,(.int .u64 0)]) k) (
 bC [(af 127)] f λe bf a l=>
 vK (ak .i .geq (ix e 0) aj) λab=>
 aG ab (
 bL a λS=>
 qK S (λa=>aM 2 a c) λac=>
 qK S (λa=>aM 2 a q) λad=>
 ag prog jr #[ad,(ix e 0)] a λae m=>
 S m∧(ag prog fU #[ac,ae] m λah al=>
 stK 2 c ah al λbg n=>
 vK (aM 2 n b) λam=>
 ag prog fU #[am,(.int .u64 0)] n λan ao=>
 stK 2 b an ao λbh o=>
 vK (aM 2 o c) λap=>
 vK ((aR #[(.int .u64 0),(.int .u64 0)] [(0,1,(.int .u64 0)),(1,1,a1)]).map .agg) λaq=>
 ag prog kJ #[ap,aq] o λar g=>
 vK (unV .not ar) λau=>
 aG au (
 vK (aM 2 g c) λav=>
 vK ((aR #[(.int .u64 0),(.int .u64 0)] [(0,1,(.int .u64 0)),(1,1,a1)]).map .agg) λaw=>
 ag prog sT #[av,aw] g λax ay=>
 stK 2 c ax ay λbi p=>
 vK (aC 1 b) λaz=>
 vK (ldV p az) λa2=>
 vK (ak .i .add a2 (.int .u64 1)) λa3=>
 vK (aC 1 b) λa4=>
 stK 1 a4 a3 p λbj a5=>
 vK (ak .i .sub (ix e 0) aJ) λa6=>
 l [a6] a5) (
 vK (ak .i .sub (ix e 0) aJ) λa7=>
 l [a7] g))) (
 bL a λS=>
 qK S (λa=>aM 2 a b) λa8=>
 vK (aC 1 c) λa9=>
 qK S (λa=>ldV a a9) λba=>
 stK 2 d a8 a λbk j=>
 S j∧(vK (aM 2 j d) λbb=>
 R (.tuple #[bb,ba]) j)))
theorem Rm (H:FW a0 a1 h R):ag prog wg #[a0,a1] h R:=fk f295 (.s .z (.s .z (.s .z (.s (.s .z (.s (.s .z .z) .z)) (.s (.s .z (.l 274877890816 [8] (.s (.s .z (.s .z .z)) (.s (.s (.d (.op 0 .r (.op 1 .r (.op 2 .r (.op 3 .e (.op 4 .n (.op 5 .n .nil))))))) (.s .z (.s .z (.s (.s .z .z) .z)))) .z)))) (.s (.d (.op 0 .r (.op 1 .r (.op 2 .r (.op 3 .e (.op 4 .r .nil)))))) .z)))))) H
def FV (a0 a1:Value)(h:ai)(R:Value→ai→Prop):Prop:=
 aT (Value.cells a0) 351 h λe l=>
 aT (Value.cells a1) 351 l λf m=>
 aT #[(.int .u64 0),(.int .u64 0)] 351 m λd c=>
 vK (aC 0 e) λn=>
 vK (ldV c n) λo=>
 vK (aC 0 f) λp=>
 vK (ldV c p) λq=>
 vK (ak .i .add o q) λr=>
 vK (aC 1 e) λs=>
 vK (ldV c s) λt=>
 vK (aC 1 f) λu=>
 vK (ldV c u) λv=>
 vK (ak .i .add t v) λw=>
 vK ((aR #[(.int .u64 0),(.int .u64 0)] [(0,1,r),(1,1,w)]).map .agg) λx=>
 aT #[(.int .u64 0),(.int .u64 0)] 351 c λa y=>
 stK 2 a x y λao b=>
 vK (aC 1 a) λz=>
 vK (ldV b z) λaa=>
 vK (aC 1 e) λab=>
 vK (ldV b ab) λac=>
 vK (ak .i .lss aa ac) λad=>
 aG ad (
 vK (aC 0 a) λae=>
 vK (ldV b ae) λaf=>
 vK (ak .i .add af (.int .u64 1)) λag=>
 vK (aC 0 a) λah=>
 stK 1 ah ag b λap g=>
 vK (aM 2 g a) λaj=>
 stK 2 d aj g λaq j=>
 vK (aM 2 j d) λal=>
 R al j) (
 vK (aM 2 b a) λam=>
 stK 2 d am b λar k=>
 vK (aM 2 k d) λan=>
 R an k)
theorem Rl (H:FV a0 a1 h R):ag prog jq #[a0,a1] h R:=fk f296 (.s .z (.s .z (.s (.s .z (.s .z .z)) (.s .z .z)))) H
def FY (a0 a1:Value)(h:ai)(R:Value→ai→Prop):Prop:=
 aT (Value.cells a0) 351 h λb a=>
 aG a1 (
 vK (aC 0 b) λe=>
 vK (ldV a e) λf=>
 vK (ak .i .gtr f (.int .u64 0)) λc=>
 vK (gV c false (aC 1 b)) λg=>
 vK (gV c false (ldV a g)) λj=>
 vK (gV c false (ak .i .gtr j (.int .u64 9223372036854775807))) λk=>
 vK (aH c (.bool true) k) λl=>
 aG l (
 R (af (-9223372036854775808)) a) (
 vK (aC 1 b) λm=>
 vK (ldV a m) λn=>
 vK (gS .i64 n) λo=>
 vK (unV .neg o) λp=>
 R p a)) (
 vK (aC 0 b) λq=>
 vK (ldV a q) λr=>
 vK (ak .i .gtr r (.int .u64 0)) λd=>
 vK (gV d false (aC 1 b)) λs=>
 vK (gV d false (ldV a s)) λt=>
 vK (gV d false (ak .i .gtr t (.int .u64 9223372036854775807))) λu=>
 vK (aH d (.bool true) u) λv=>
 aG v (
 R (af 9223372036854775807) a) (
 vK (aC 1 b) λw=>
 vK (ldV a w) λx=>
 vK (gS .i64 x) λy=>
 R y a))
theorem Ro (H:FY a0 a1 h R):ag prog ed #[a0,a1] h R:=fk f297 (.s .z (.s (.s .z (.s (.s (.s .z (.s (.s .z .z) .z)) (.s .z .z)) .z)) (.s (.s .z (.s (.s .z .z) .z)) (.s .z .z)))) H
def Cw (a0 a1:Value)(h:ai)(R:Value→ai→Prop):Prop:=
 aT (Value.cells a0) 351 h λb e=>
 aT #[(.int .u64 0),(.int .u64 0)] 351 e λc a=>
 vK (aC 0 b) λf=>
 vK (ldV a f) λg=>
 vK (ak .i .shl g (.int .u64 1)) λj=>
 vK (aC 1 b) λk=>
 vK (ldV a k) λl=>
 vK (ak .i .shr l (.int .u64 63)) λm=>
 vK (ak .i .add j m) λn=>
 vK (aC 1 b) λo=>
 vK (ldV a o) λp=>
 vK (ak .i .shl p (.int .u64 1)) λq=>
 vK (ak .i .add q a1) λr=>
 vK ((aR #[(.int .u64 0),(.int .u64 0)] [(0,1,n),(1,1,r)]).map .agg) λs=>
 stK 2 c s a λu d=>
 vK (aM 2 d c) λt=>
 R t d
theorem OD (H:Cw a0 a1 h R):ag prog fU #[a0,a1] h R:=fk f298 (.s .z (.s .z .z)) H
def IH (a0 a1:Value)(h:ai)(R:Value→ai→Prop):Prop:=
 aT (Value.cells a0) 351 h λb a=>
 vK (ak .i .geq a1 (af 64)) λc=>
 aG c (
 vK (aC 0 b) λd=>
 vK (ldV a d) λe=>
 vK (ak .i .sub a1 (af 64)) λf=>
 vK (ak .i .shr e f) λg=>
 vK (ak .i .and g (.int .u64 1)) λj=>
 R j a) (
 vK (aC 1 b) λk=>
 vK (ldV a k) λl=>
 vK (ak .i .shr l a1) λm=>
 vK (ak .i .and m (.int .u64 1)) λn=>
 R n a)
theorem TG (H:IH a0 a1 h R):ag prog jr #[a0,a1] h R:=fk f299 (.s .z (.s (.s .z (.s (.s .z .z) .z)) (.s .z .z))) H
def Cz (a0 a1:Value)(h:ai)(R:Value→ai→Prop):Prop:=
 aT (Value.cells a0) 351 h λe l=>
 aT (Value.cells a1) 351 l λf m=>
 aT #[(.int .u64 0),(.int .u64 0)] 351 m λd b=>
 vK (aC 0 e) λn=>
 vK (ldV b n) λo=>
 vK (aC 0 f) λp=>
 vK (ldV b p) λq=>
 vK (ak .i .sub o q) λr=>
 vK (aC 1 e) λs=>
 vK (ldV b s) λt=>
 vK (aC 1 f) λu=>
 vK (ldV b u) λv=>
 vK (ak .i .sub t v) λw=>
 vK ((aR #[(.int .u64 0),(.int .u64 0)] [(0,1,r),(1,1,w)]).map .agg) λx=>
 aT #[(.int .u64 0),(.int .u64 0)] 351 b λc y=>
 stK 2 c x y λao a=>
 vK (aC 1 e) λz=>
 vK (ldV a z) λaa=>
 vK (aC 1 f) λab=>
 vK (ldV a ab) λac=>
 vK (ak .i .lss aa ac) λad=>
 aG ad (
 vK (aC 0 c) λae=>
 vK (ldV a ae) λaf=>
 vK (ak .i .sub af (.int .u64 1)) λag=>
 vK (aC 0 c) λah=>
 stK 1 ah ag a λap g=>
 vK (aM 2 g c) λaj=>
 stK 2 d aj g λaq j=>
 vK (aM 2 j d) λal=>
 R al j) (
 vK (aM 2 a c) λam=>
 stK 2 d am a λar k=>
 vK (aM 2 k d) λan=>
 R an k)
theorem OG (H:Cz a0 a1 h R):ag prog sT #[a0,a1] h R:=fk f300 (.s .z (.s .z (.s (.s .z (.s .z .z)) (.s .z .z)))) H
def FX (a0 a1:Value)(h:ai)(R:Value→ai→Prop):Prop:=
 aT (Value.cells a0) 351 h λb d=>
 aT (Value.cells a1) 351 d λc a=>
 vK (aC 0 b) λe=>
 vK (ldV a e) λf=>
 vK (aC 0 c) λg=>
 vK (ldV a g) λj=>
 vK (ak .i .neq f j) λk=>
 aG k (
 vK (aC 0 b) λl=>
 vK (ldV a l) λm=>
 vK (aC 0 c) λn=>
 vK (ldV a n) λo=>
 vK (ak .i .lss m o) λp=>
 R p a) (
 vK (aC 1 b) λq=>
 vK (ldV a q) λr=>
 vK (aC 1 c) λs=>
 vK (ldV a s) λt=>
 vK (ak .i .lss r t) λu=>
 R u a)
theorem Rn (H:FX a0 a1 h R):ag prog kJ #[a0,a1] h R:=fk f301 (.s .z (.s (.s .z (.s (.s .z .z) .z)) (.s .z .z))) H
def Fu (a0 a1 a2:Value)(h:ai)(R:Value→ai→Prop):Prop:=
 vK (ak .i .geq a2 (af 64)) λa=>
 aG a (
 vK (ak .i .sub a2 (af 64)) λb=>
 vK (ak .i .shr a0 b) λc=>
 R (.tuple #[(.int .u64 0),c]) h) (
 vK (ak .i .shr a0 a2) λd=>
 vK (ak .i .shr a1 a2) λe=>
 vK (ak .i .sub (af 64) a2) λf=>
 vK (ak .i .shl a0 f) λg=>
 vK (ak .i .or e g) λj=>
 R (.tuple #[d,j]) h)
theorem QN (H:Fu a0 a1 a2 h R):ag prog vT #[a0,a1,a2] h R:=fk f302 (.s .z (.s (.s .z (.s (.s .z .z) .z)) (.s .z .z))) H
def Fv (a0 a1 a2:Value)(h:ai)(R:Value→ai→Prop):Prop:=
 vK (ak .i .geq a2 (af 64)) λb=>
 aG b (
 vK (ak .i .eql a1 (.int .u64 0)) λa=>
 vK (gV a true (some a0)) λc=>
 vK (gV a true (some a2)) λd=>
 vK (gV a true (ak .i .sub (af 128) d)) λe=>
 vK (gV a true (ak .i .shl c e)) λf=>
 vK (gV a true (ak .i .eql f (.int .u64 0))) λg=>
 vK (aH a g (.bool false)) λj=>
 R j h) (
 vK (ak .i .sub (af 64) a2) λk=>
 vK (ak .i .shl a1 k) λl=>
 vK (ak .i .eql l (.int .u64 0)) λm=>
 R m h)
theorem QO (H:Fv a0 a1 a2 h R):ag prog A8 #[a0,a1,a2] h R:=fk f303 (.s .z (.s (.s .z (.s (.s .z .z) .z)) (.s .z .z))) H
def lB (a0 a1 a2 a3 a4:Value)(h:ai)(R:Value→ai→Prop):Prop:=
 vK (ak .i .sub a2 a1) λd=>
 vK (ak .i .sub a3 a2) λe=>
 bC [d,e] h λa t b c=>
 vK (ak .i .neq (ix a 0) (ix a 1)) λf=>
 aG f (
 vK (ak .i .gtr (ix a 0) (ix a 1)) λg=>
 aG g (
 vK (ak .i .sub a2 (ix a 0)) λj=>
 ag prog dw #[a0,j,a2,(ix a 1),a4] b λu k=>
 vK (ak .i .sub (ix a 0) (ix a 1)) λl=>
 c [l,(ix a 1)] k) (
 vK (ak .i .sub a2 (ix a 0)) λm=>
 vK (ak .i .add a2 (ix a 1)) λn=>
 vK (ak .i .sub n (ix a 0)) λo=>
 ag prog dw #[a0,m,o,(ix a 0),a4] b λv p=>
 vK (ak .i .sub (ix a 1) (ix a 0)) λq=>
 c [(ix a 0),q] p)) (
 vK (ak .i .sub a2 (ix a 0)) λr=>
 ag prog dw #[a0,r,a2,(ix a 0),a4] b λw s=>
 R (.tuple #[]) s)
theorem vk (H:lB a0 a1 a2 a3 a4 h R):ag prog iV #[a0,a1,a2,a3,a4] h R:=fk f304 (.s .z (.s .z (.s (.l 1125899906583552 [10,11] (.s (.s .z (.s .z .z)) (.s .z (.s (.s .z .z) (.s .z .z))))) .z))) H
def IF (a0 a1:Value)(h:ai)(R:Value→ai→Prop):Prop:=
 vK (ak .i .lss a1 aJ) λb=>
 vK (gV b false (some a1)) λc=>
 vK (gV b false (ak .i .gtr c (af 1048576))) λd=>
 vK (aH b (.bool true) d) λe=>
 aG e (
 R (.bool false) h) (
 vK (ak .i .mul (af 4) a1) λf=>
 vK (ak .i .leq a0 f) λa=>
 vK (gV a true (some a0)) λg=>
 vK (gV a true (some a1)) λj=>
 vK (gV a true (ak .i .mul (af (-4)) j)) λk=>
 vK (gV a true (ak .i .geq g k)) λl=>
 vK (aH a l (.bool false)) λm=>
 R m h)
theorem TE (H:IF a0 a1 h R):ag prog D0 #[a0,a1] h R:=fk f307 (.s .z (.s (.s .z (.s (.s .z .z) .z)) (.s .z .z))) H
def xZ (a0 a1 a2:Value)(h:ai)(R:Value→ai→Prop):Prop:=
 eM (λp=>
 vK (ak .i .lss a2 aj) λt=>
 aG t (
 p [aj] h) (
 p [a2] h))
 λe bx q=>
 vK (ak .i .gtr (ix e 0) (af 127)) λu=>
 aG u (
 R aj q) (
 vK (ak .i .lss a0 aj) λv=>
 vK (ak .i .lss a1 aj) λw=>
 vK (ak .b .neq v w) λj=>
 ag prog gG #[a0] q λx y=>
 ag prog gG #[a1] y λz aa=>
 ag prog sS #[x,z] aa λab ac=>
 aT #[(.int .u64 0),(.int .u64 0)] 351 ac λf ad=>
 stK 2 f ab ad λbz m=>
 vK (ak .i .eql (ix e 0) aj) λae=>
 aG ae (
 vK (aM 2 m f) λah=>
 ag prog ed #[ah,j] m λal am=>
 R al am) (
 vK ((aR #[(.int .u64 0),(.int .u64 0)] []).map .agg) λan=>
 aT #[(.int .u64 0),(.int .u64 0)] 351 m λc ao=>
 stK 2 c an ao λb0 ap=>
 bC [(af 127)] ap λn b1 d aq=>
 vK (ak .i .geq (ix n 0) (ix e 0)) λar=>
 aG ar (
 bL d λS=>
 qK S (λd=>aM 2 d c) λau=>
 qK S (λd=>aM 2 d f) λav=>
 ag prog jr #[av,(ix n 0)] d λaw r=>
 S r∧(ag prog fU #[au,aw] r λax ay=>
 stK 2 c ax ay λb2 az=>
 vK (ak .i .sub (ix n 0) aJ) λa3=>
 aq [a3] az)) (
 vK (ak .i .sub (ix e 0) aJ) λa4=>
 bC [(.bool false),aj] d λa b3 g a5=>
 vK (ak .i .lss (ix a 1) a4) λa6=>
 aG a6 (
 vK (gV (ix a 0) false (aM 2 g f)) λa7=>
 vK (gV (ix a 0) false (some (ix a 1))) λa8=>
 gK (ix a 0) false (λa9=>ag prog jr #[a7,a8] g a9) g λba bb=>
 vK (gV (ix a 0) false (ak .i .eql ba (.int .u64 1))) λbc=>
 vK (aH (ix a 0) (.bool true) bc) λbd=>
 vK (ak .i .add (ix a 1) aJ) λbe=>
 a5 [bd,be] bb) (
 vK (aM 2 g f) λbf=>
 vK (ak .i .sub (ix e 0) aJ) λbg=>
 ag prog jr #[bf,bg] g λbh k=>
 vK (ak .i .eql bh (.int .u64 1)) λl=>
 vK (gV l true (some (ix a 0))) λbi=>
 vK (gV l true (some bi)) λo=>
 vK (gV o false (some j)) λbj=>
 vK (gV o false (unV .not bj)) λbk=>
 vK (gV l true (aH o (.bool true) bk)) λbl=>
 vK (aH l bl (.bool false)) λbm=>
 aG bm (
 vK (aM 2 k c) λbn=>
 vK ((aR #[(.int .u64 0),(.int .u64 0)] [(1,1,(.int .u64 1))]).map .agg) λbo=>
 ag prog jq #[bn,bo] k λbp bq=>
 stK 2 c bp bq λb4 s=>
 vK (aM 2 s c) λbr=>
 ag prog ed #[br,j] s λbs bt=>
 R bs bt) (
 vK (aM 2 k c) λbu=>
 ag prog ed #[bu,j] k λbv bw=>
 R bv bw)))))
theorem Jo (H:xZ a0 a1 a2 h R):ag prog sh #[a0,a1,a2] h R:=fk f308 (.s .z (.j 24580 [2] (.s .z (.s .z .z)) (.s (.s .z (.s (.s .z .z) .z)) (.s .z (.s .z (.s (.s .z (.s (.s .z .z) .z)) (.s .z (.s (.s .z (.l 8787503088640 [10] (.s (.s .z (.s .z .z)) (.s (.d (.op 0 .r (.op 1 .r (.op 2 .r (.op 3 .e (.op 4 .n (.op 5 .n .nil))))))) .z)))) (.s .z (.s (.s .z (.l 72022409665845248 [11,45] (.s .z (.s (.s .z .z) (.s (.s .z .z) .z))))) (.s (.s .z (.s .z .z)) (.s .z .z)))))))))))) H
def BK (a0 a1:Value)(h:ai)(R:Value→ai→Prop):Prop:=
 eM (λc=>
 vK (ak .i .lss a0 aj) λj=>
 aG j (
 vK (unV .neg a0) λk=>
 c [k] h) (
 c [a0] h))
 λd ad l=>
 ag prog dE #[(af 10851744800547),(ix d 0),a1] l λm n=>
 ag prog dE #[m,(ix d 0),a1] n λo p=>
 bC [(af 1099511627776),aj,(af 1099511627776),aJ] p λa ae e f=>
 vK (ak .i .leq (ix a 3) (af 30)) λq=>
 aG q (
 vK (ak .i .mul (af 2) (ix a 3)) λr=>
 vK (ak .i .mul (af 2) (ix a 3)) λs=>
 vK (ak .i .add s aJ) λt=>
 vK (ak .i .mul r t) λu=>
 vK (ak .i .mul u (af 1099511627776)) λv=>
 ag prog dE #[(ix a 2),o,v] e λb g=>
 vK (ak .i .rem (ix a 3) (af 2)) λw=>
 vK (ak .i .eql w aJ) λx=>
 aG x (
 vK (ak .i .add (ix a 1) b) λy=>
 vK (ak .i .add (ix a 3) aJ) λz=>
 f [(ix a 0),y,b,z] g) (
 vK (ak .i .add (ix a 0) b) λaa=>
 vK (ak .i .add (ix a 3) aJ) λab=>
 f [aa,(ix a 1),b,ab] g)) (
 vK (ak .i .sub (ix a 0) (ix a 1)) λac=>
 R ac e)
theorem ME (H:BK a0 a1 h R):ag prog qD #[a0,a1] h R:=fk f309 (.s .z (.j 61441 [0] (.s .z (.s .z .z)) (.s .z (.s .z (.s .z (.s .z (.s .z (.s (.s .z (.l 140737479970688 [7,8,9,10] (.s (.s .z (.s .z .z)) (.s (.s .z (.s .z (.s .z (.s .z .z)))) .z)))) (.s .z .z))))))))) H
def jS (a0 a1 a2 a3 a4:Value)(h:ai)(R:Value→ai→Prop):Prop:=
 bC [aj] h λb t a c=>
 vK (ak .i .lss (ix b 0) a3) λd=>
 aG d (
 bL a λS=>
 vK (ak .i .add a1 (ix b 0)) λe=>
 vK (ak .i .add a2 (ix b 0)) λf=>
 vK (ak .i .add a2 (ix b 0)) λg=>
 vK (bh 1 a0 g) λj=>
 qK S (λa=>ldV a j) λk=>
 vK (ak .i .add a1 (ix b 0)) λl=>
 vK (bh 1 a0 l) λm=>
 qK S (λa=>ldV a m) λn=>
 vK (bh 1 a0 e) λo=>
 stK 1 o k a λu p=>
 vK (bh 1 a0 f) λq=>
 stK 1 q n p λv r=>
 vK (ak .i .add (ix b 0) aJ) λs=>
 c [s] r) (
 R (.tuple #[]) a)
theorem rE (H:jS a0 a1 a2 a3 a4 h R):ag prog dw #[a0,a1,a2,a3,a4] h R:=fk f310 (.s .z (.l 274877905920 [10] (.s (.s .z (.s .z .z)) (.s (.d (.op 0 .r (.op 1 .r (.op 2 .r (.op 3 .r (.op 4 .r (.op 5 .r (.op 6 .r (.op 7 .r (.op 8 .r (.op 9 .r (.op 10 .r (.op 11 .r (.op 12 .r (.op 13 .r (.op 14 .r (.op 15 .r (.op 16 .r (.op 17 .r (.op 18 .r (.op 19 .r (.op 20 .r (.op 21 .n (.op 22 .r (.op 23 .n .nil))))))))))))))))))))))))) .z)))) H
end
def kH:Nat→ByteArray
 |0=>⟨#[99,108,97,109,112]⟩
 |1=>⟨#[109,105,114,114,111,114]⟩
 |2=>⟨#[119,114,97,112]⟩
 |_=>⟨#[]⟩
def Ye:Nat→ByteArray
 |0=>⟨#[98,111,120]⟩
 |1=>⟨#[99,117,98,105,99]⟩
 |2=>⟨#[108,97,110,99,122,111,115]⟩
 |_=>⟨#[]⟩
def WC:Nat→Int
 |0=>0
 |1=>2
 |_=>3
def TabH (h:ai)(name:String)(k:IntKind)(zs:List Int):Prop:=∃g t f,prog.globalNamed name=some g∧h[g]? =some (.cells (zs.map λz=>Value.int k z).toArray t f)
theorem TabH.is {h:ai}{name:String}{k:IntKind}{zs:List Int}(H:TabH h name k zs)(w:World)(D:w.heap=h):Lib.TabIs prog w name k zs:=by
 obtain⟨g,t,f,h1,A⟩:=H;subst D;unfold Lib.TabIs World.var?;rw[h1,Option.bind_some,A]
structure fC (h:ai):Prop where
 names:∃v,aE h ⟨p8,0,none⟩=some v∧SlC 1 h v 3 [.string (kH 0),.string (kH 1),.string (kH 2)]
 kinds:∀i,i<3→aE h ⟨gh,2*i,none⟩=some (.string (Ye i))∧aE h ⟨gh,2*i+1,none⟩=some (.int .i64 (WC i))
theorem fC.ext {h h':ai}(H:fC h)(e:Ext h h'):fC h':=by
 obtain⟨⟨v,h1,D⟩,A⟩:=H;exact⟨⟨v,e.cell h1,D.ext e⟩,λi hi=>⟨e.cell (A i hi).1,e.cell (A i hi).2⟩⟩
end Go.Proofs.YtjljhnandbbldaaGreatDoor
namespace Go.Crisp
open Go Go.ChangeShapes Go.WideShapes Go.ChangeAt Go.RowKit
def DR (P:Program)(L:List (String×DataW Unit))(h:ai):Prop:=∀w:World,w.heap=h→laidMetH P L w
theorem row_laid {H:Type}{enc:TypeId×Value→H}{C:Checked}{os:Os}{f:FuncId}{fn:Func}{s:ChangeSpec}{U:List PathCond}{rt:TypeId}{ts:List TS}{L:List (String×DataW Unit)}
  (a7:tS C.prog f=true) (own:ownKnob C.prog.godebug=none) (started:os.Started) (ad:C.prog.inits.idxOf? f=none) (a8:C.prog.funcs[f]? =some fn)
  (an:laidOutB C.prog=true) (D:s.vars=[]) (hp:Jz C.prog ts fn.params.toList=true) (al:fn.params.toList.all (λt=>C.prog.readableRec t&&decide (t<C.prog.types.size))=true)
  (au:fn.resultTypes=#[rt]) (bd:C.prog.underlying rt=some .bool)
  (F:∀ds:List (DataW H),ds.length=ts.length→s.fn H ds={results:=[.lit (.bool true)],args:=ds})
  (I:∃(w:World) (A:Tape) (i:Input),w.os=os∧(w.forCall A i).Shaped C.prog∧i.vars=[]∧Input.okWide C.prog (w.forCall A i) .any w.heap.size f i∧
   ((s.pre enc C.prog fn U false (w.forCall A i).memory i.args∧laidMetH C.prog L (w.forCall A i).memory)∧sizedMet enc C.prog fn (OpenSpec.ofChange s) false (w.forCall A i).memory i.args)∧Assume.holds {} C.prog (lone (Frame.enter C.prog f i.args .normal) [] (w.forCall A i)))
  (G:∀(h:ai) (args:Array Value),DR C.prog L h→xJ ts h args.toList→ag C.prog f args h λr h'=>r=.bool true∧Ext h h'):
  ReturnsInHanded {} C os f .any (λw args=>(s.pre enc C.prog fn U false w args∧laidMetH C.prog L w)∧sizedMet enc C.prog fn (OpenSpec.ofChange s) false w args) (s.post enc C.prog fn false true false false):=by
 refine returnsInHanded_of_change_and (X:=λw _=>laidMetH C.prog L w) (λ_ _ _ hh h=>h.of_heap hh) own started ad a8 I ?_;intro W bg args ds gs before am hW _ ar hL _;have be:=hW;obtain⟨p,q,hA,hV,rfl,_,_⟩:=hW;rw[D]at hV;obtain⟨rfl,rfl⟩:=trodVars_none hV;have a9:s.plain.varTypes C.prog=[]:=by simp[DataSpec.varTypes,ChangeSpec.plain,D]
 rw[a9,iC,iC]at ar;have hw:BX (DataW.weightsEach C.prog fn.params.toList ds):=λn hn=>by
  have:=EI.1 ar n hn;exact AU this
 have ay:xJ ts W.heap args.toList:=zai hp (λj t v ht hv=>am j t v (by simpa using ht) (by simpa using hv)) hA hw;have aa:ds.length=ts.length:=by
  have l1:∀{ids:List TypeId} {vs:List Value} {ds:List (DataW H)} {ps:List MemPlace},DataW.TrodAll enc C.prog W 0 (λ_=>true) true ids vs ds ps→ds.length=ids.length:=by
   intro ids;induction ids with
   |nil=>intro vs ds ps h;obtain⟨rfl,rfl,rfl⟩:=trodAll_nil h;rfl
   |cons t ids ih=>intro vs ds ps h;obtain⟨v,bk,d,bo,p,q,rfl,rfl,rfl,h1,h2⟩:=trodAll_cons h;simp[ih h2]
  have l2:∀(ts:List TS) (ids:List TypeId),Jz C.prog ts ids=true→ids.length=ts.length:=by
   intro ts;induction ts with
   |nil=>intro ids h;cases ids<;>simp_all [Jz]
   |cons t ts ih=>intro ids h;cases ids<;>simp[Jz]at h;simp[ih _ h.2]
  rw[l1 hA,l2 _ _ hp]
 refine((G W.heap args (λw hw=>hL.of_heap hw.symm) ay).calls a7 W rfl).mono λe W' ⟨v,he,hs,hv,hx⟩=>?_
 subst he hv;have ax:Below W.heap.size W W':=⟨hs.1,hs.2.1,hs.2.2,hx.1,λk hk=>hx.2 k hk⟩
 refine⟨_,rfl,ds,[],_,[],p,[],be,?_,?_,?_,ax.frame _,λh=>by cases h⟩
 ·rw[iC,F ds aa,au];exact trodAll_mk1 (shut_bool bd _)
 ·rw[iC,F ds aa];exact SD an ax al hA
 ·rw[iC,F ds aa,D];rfl
theorem L8 {P:Program}{w:World}:∀{L:List (String×DataW Unit)} {A:List MemPlace},DataW.LaidVars P w L A→∀{n:String} {d:DataW Unit},(n,d)∈L→
  ∃g t cs fuel p,P.globalNamed n=some g∧(P.globals[g]?).map (·.type)=some t∧w.var? P n=some cs∧DataW.trod (λ_=>()) P w 0 (λ_=>true) false fuel t cs.toList=some (d,p)
 | [],_,_,n,d,hm=>absurd hm (by simp)
 |(n',d')::r,_,h,n,d,hm=>by
  obtain⟨g,t,cs,fuel,p,q,h1,G,H,D,F,_⟩:=h;rcases kC.1 hm with e|e
  ·cases e;exact⟨g,t,cs,fuel,p,h1,G,H,D⟩
  ·exact L8 F e
theorem DR.at {P:Program}{L:List (String×DataW Unit)}{h:ai}(H:DR P L h)(A:(L.all λx=>x.2.handleName?.isNone)=true){n:String}{d:DataW Unit}(G:(n,d)∈L)(w:World)(D:w.heap=h):
  ∃g t cs fuel p,P.globalNamed n=some g∧(P.globals[g]?).map (·.type)=some t∧w.var? P n=some cs∧DataW.trod (λ_=>()) P w 0 (λ_=>true) false fuel t cs.toList=some (d,p):=by
 have:=H w D;rw[MakeChecks.laidMetH_plain _ _ _ A]at this;obtain⟨I,F,_⟩:=this;exact L8 F G
def zeY (P:Program)(n:String)(g:Nat)(k:Program→TypeId→Bool):Bool:=
 decide (P.globalNamed n=some g)&&(match(P.globals[g]?).map (·.type)with|some t=>k P t|none=>false)
def ZK (k:IntKind)(P:Program)(t:TypeId):Bool:=match P.underlying t with|some (.int k')=>decide (k=k')&&P.cellsOf t==1|_=>false
def PC (P:Program)(t:TypeId):Bool:=match P.underlying t with|some .string=>P.cellsOf t==1|_=>false
def UK (e:Program→TypeId→Bool)(P:Program)(t:TypeId):Bool:=match P.underlying t with|some (.slice u)=>e P u|_=>false
def zcl (n:Nat)(e:Program→TypeId→Bool)(P:Program)(t:TypeId):Bool:=match P.underlying t with|some (.array n' u)=>n==n'&&P.cellsOf t==n*P.cellsOf u&&e P u|_=>false
def Ya (a b:Program→TypeId→Bool)(P:Program)(t:TypeId):Bool:=match P.underlying t with|some (.struct ⟨[x,y]⟩)=>x.offset==0&&y.offset==1&&a P x.type&&b P y.type&&P.cellsOf t==2|_=>false
theorem DR.kind {P:Program}{L:List (String×DataW Unit)}{h:ai}(H:DR P L h)(W:(L.all λx=>x.2.handleName?.isNone)=true){n:String}{d:DataW Unit}(hm:(n,d)∈L)(w:World)(D:w.heap=h)
  {g:Nat} {k:Program→TypeId→Bool} (A:zeY P n g k=true):
  ∃t cs fuel p,P.globalNamed n=some g∧k P t=true∧w.var? P n=some cs∧(∀i,aE h ⟨g,i,none⟩=cs[i]?)∧DataW.trod (λ_=>()) P w 0 (λ_=>true) false fuel t cs.toList=some (d,p):=by
 obtain⟨I,t,cs,fuel,p,h1,h2,G,U⟩:=H.at W hm w D;unfold zeY at A;rw[dt,dH]at A;obtain⟨k1,F⟩:=A;obtain rfl:I=g:=oE (h1.symm.trans k1);rw[h2]at F;refine⟨t,cs,fuel,p,h1,F,G,λi=>?_,U⟩;subst D;exact World.var?_cell h1 G i
theorem zar {k:IntKind}{P:Program}{w:World}{fuel:Nat}{t:TypeId}{cs:List Value}{z:Int}{p:List MemPlace}(A:ZK k P t=true)(h:DataW.trod (λ_=>()) P w 0 (λ_=>true) false fuel t cs=some (.lit (.int k z),p)):cs=[.int k z]∧P.cellsOf t=1:=by
 unfold ZK at A;split at A
 ·rename_i k' hu;rw[dt,dH]at A;obtain⟨rfl,hc⟩:=A;obtain⟨n,rfl,D,_⟩:=DataW.trod_int hu h;cases D;exact⟨rfl,by simpa using hc⟩
 ·cases A
theorem RR {P:Program}{w:World}{fuel:Nat}{t:TypeId}{cs:List Value}{z:List UInt8}{p:List MemPlace}(A:PC P t=true)(h:DataW.trod (λ_=>()) P w 0 (λ_=>true) false fuel t cs=some (.lit (.string z),p)):cs=[.string ⟨⟨z⟩⟩]∧P.cellsOf t=1:=by
 unfold PC at A;split at A
 ·rename_i hu;obtain⟨s,rfl,D,_⟩:=DataW.trod_string hu h;cases D;exact⟨rfl,by simpa using A⟩
 ·cases A
theorem Gw {cs:List Value}{i:Nat}{v:Value}(h:(cs.drop i).take 1=[v]):cs[i]? =some v:=by
 have:=congrArg (λl=>l[0]?) h;simpa using this
theorem zaq {P:Program}{w:World}{h:ai}(hw:w.heap=h){fuel:Nat}{t:TypeId}{cs:List Value}{zs:List (List UInt8)}{p:List MemPlace}(hz:zs≠[])(F:UK PC P t=true)
  (H:DataW.trod (λ_=>()) P w 0 (λ_=>true) false fuel t cs=some (.slice (zs.map λz=>.lit (.string z)) [],p)):
  ∃b o cap,cs=[.slice (some ⟨b,o,none⟩) zs.length cap]∧∀i (hi:i<zs.length),aE h ⟨b,o+i,none⟩=some (.string ⟨⟨zs[i]⟩⟩):=by
 unfold UK at F;split at F
 ·rename_i u hu;have c1:P.cellsOf u=1:=by
   unfold PC at F;split at F
   ·simpa using F
   ·cases F
  rcases DataW.trod_slice hu H with⟨_,he⟩|⟨a,len,cap,A,rest,m,rfl,rfl,he,_,_,_,al,G,_⟩
  ·cases he
  ·have I:A.map (·.1)=zs.map λz=>DataW.lit (.string z):=by
    have:=congrArg (λx=>x.1) he;simp only[DataW.slice.injEq]at this;exact this.1.symm
   have hl:A.length=zs.length:=by simpa using congrArg List.length I
   have aa:len=zs.length:=ae;subst aa;have ha:∃b o,a=⟨b,o,none⟩:=by
    have h0:0<zs.length:=vE.2 hz;have:=G 0 h0;rw[gN ae]at this;cases hc:w.cells? 0 (a.add (0*P.cellsOf u)) (P.cellsOf u)with
    |none=>rw[hc]at this;cases this
    | some l=>
     obtain⟨b,o,s⟩:=a;cases s with
     |none=>exact⟨b,o,rfl⟩
     |some x=>
      exfalso;obtain⟨h3,D⟩:=HC hc;rw[c1]at h3;have D:=D 0 ae;unfold aE at D;split at D
      ·rw[aB (by unfold Addr.add;split<;>simp_all)]at D;cases D
      ·cases D
   obtain⟨b,o,rfl⟩:=ha;refine⟨b,o,cap,rfl,λi hi=>?_⟩;have h1:=G i hi;have U:A[i]? =some (A[i]'ae):=gN ae;rw[U,c1,lW]at h1;have D:(A[i]'ae).1=.lit (.string zs[i]):=by
    have:=congrArg (λl=>l[i]?) I;simpa[hi,hl]using this
   obtain⟨x,y,ad⟩:∃x y,A[i]'ae=(x,y):=⟨_,_,rfl⟩
   rw[ad]at h1 D;simp only at D;rw[D,Ux]at h1;obtain⟨l,W,L⟩:=h1;have h3:=(RR F L).1;subst h3;have h4:=(HC W).2 0 (by simp);rw[KA,KA,hw]at h4;simpa using h4
 ·cases F
theorem Xw {k:IntKind}{P:Program}{w:World}{fuel:Nat}{t:TypeId}{cs:List Value}{zs:List (List UInt8×Int)}{p:List MemPlace}(L:zcl zs.length (Ya PC (ZK k)) P t=true)
  (h:DataW.trod (λ_=>()) P w 0 (λ_=>true) false fuel t cs=some (.agg (zs.map λz=>.agg [.lit (.string z.1),.lit (.int k z.2)]),p)):
  ∀i (hi:i<zs.length),cs[2*i]? =some (.string ⟨⟨zs[i].1⟩⟩)∧cs[2*i+1]? =some (.int k zs[i].2):=by
 unfold zcl at L;split at L
 ·rename_i n u hu;rw[dt,dt]at L;obtain⟨⟨hn,hc⟩,hi⟩:=L;obtain⟨H,m,rfl,he,hl,hx,aa⟩:=DataW.trod_array hu h;have hn:zs.length=n:=by simpa using hn
  subst hn;unfold Ya at hi;split at hi
  ·rename_i f1 f2 hs;simp only[dt,ED]at hi;obtain⟨⟨⟨⟨o1,o2⟩,t1⟩,t2⟩,c2⟩:=hi;have ad:H.map (·.1)=zs.map λz=>DataW.agg [.lit (.string z.1),.lit (.int k z.2)]:=by
    have:=congrArg (λx=>x.1) he;simpa using this.symm
   intro i I;have h1:=aa i I;have W:H[i]? =some (H[i]'ae):=gN ae;rw[W,c2]at h1;have h2:(H[i]'ae).1=.agg [.lit (.string zs[i].1),.lit (.int k zs[i].2)]:=by
    have:=congrArg (λl=>l[i]?) ad;simpa[I,hx]using this
   obtain⟨a,b,al⟩:∃a b,H[i]'ae=(a,b):=⟨_,_,rfl⟩
   rw[al]at h1 h2;simp only at h2;rw[h2]at h1;obtain⟨ys,m',rfl,A,am,hy,D⟩:=DataW.trod_struct hs h1;have U:ys.length=2:=hy
   match ys,U,A,D with
   | [y1,y2],_,A,D=>
    have A:=congrArg (λx=>x.1) A;simp only[yV,List.map_nil,DataW.agg.injEq,List.cons.injEq,and_true]at A;have a1:=D 0 f1 rfl;have a2:=D 1 f2 rfl;rw[o1]at a1;rw[o2]at a2;obtain⟨a,b⟩:=y1;obtain⟨a',b'⟩:=y2;simp only at A;obtain⟨rfl,rfl⟩:=A;have G:=RR t1 a1;have F:=zar t2 a2;rw[G.2]at G;rw[F.2]at F;have G:=Gw G.1;have F:=Gw F.1;rw[Zx ae,Uw]at G F;refine⟨?_,?_⟩
    ·rw[fG];simpa using G
    ·rw[fG];simpa using F
  ·cases hi
 ·cases L
end Go.Crisp
namespace Go.Proofs.YtjljhnandbbldaaGreatDoor
open Go Go.Crisp
open _root_.Go.Proofs.Tryz
theorem zcq {L:List (String×DataW Unit)}{h:ai}(H:DR prog L h)(hn:(L.all λx=>x.2.handleName?.isNone)=true)
  (m1:("smalto/border.names",Rows.laid_smalto_border_names)∈L) (m2:("smalto/raw.kinds",Rows.laid_smalto_raw_kinds)∈L):fC h:=by
 let w:World:=⟨h,λ_ _=>0,0,default,#[]⟩
 refine⟨?_,?_⟩
 ·obtain⟨t,cs,fuel,p,_,hk,_,hc,ht⟩:=H.kind hn m1 w rfl (g:=p8) (k:=UK PC) (by kernel_rfl);obtain⟨b,o,cap,he,hx⟩:=zaq (h:=h) rfl (zs:=[[99,108,97,109,112],[109,105,114,114,111,114],[119,114,97,112]]) (by simp) hk ht;have h0:=hc 0;obtain⟨l⟩:=cs;rw[show l=_ from he]at h0;refine⟨_,h0,by simp,some ⟨b,o,none⟩,cap,rfl,.inr ⟨b,o,rfl,λj hj=>?_⟩⟩;have:=hx j hj;rw[this]
  match j,hj with
  |0,_=>rfl
  |1,_=>rfl
  |2,_=>rfl
 ·obtain⟨t,cs,fuel,p,_,hk,_,hc,ht⟩:=H.kind hn m2 w rfl (g:=gh) (k:=zcl 3 (Ya PC (ZK .i64))) (by kernel_rfl);have:=Xw (zs:=[([98,111,120],0),([99,117,98,105,99],2),([108,97,110,99,122,111,115],3)]) hk ht;intro i hi;have h1:=this i hi;rw[hc,hc];rw[vJ,vJ]at h1;rw[h1.1,h1.2]
  match i,hi with
  |0,_=>exact⟨rfl,rfl⟩
  |1,_=>exact⟨rfl,rfl⟩
  |2,_=>exact⟨rfl,rfl⟩
end Go.Proofs.YtjljhnandbbldaaGreatDoor
namespace Go.Crisp
open Go
theorem kL (n:Int):I64 (IntKind.i64.wrap n):=by rw[jA];unfold I64;omega
theorem wB (a b:Int):IntKind.i64.wrap (IntKind.i64.wrap a+b)=IntKind.i64.wrap (a+b):=by rw[jA,jA,jA];omega
theorem rA (a b:Int):IntKind.i64.wrap (a+IntKind.i64.wrap b)=IntKind.i64.wrap (a+b):=by rw[jA,jA,jA];omega
theorem An (a b:Int):IntKind.i64.wrap (IntKind.i64.wrap a-b)=IntKind.i64.wrap (a-b):=by rw[jA,jA,jA];omega
theorem GA (a b:Int):IntKind.i64.wrap (a-IntKind.i64.wrap b)=IntKind.i64.wrap (a-b):=by rw[jA,jA,jA];omega
def pA (x n:Int):Int:=if n≤0 then x else if 64≤n then 0 else x/2^n.toNat+x/2^(n.toNat-1)%2
theorem zd5 {x:Int}{k:Nat}(D:I64 x): -9223372036854775808≤x/2^k∧x/2^k≤9223372036854775807:=by
 obtain⟨F,G⟩:=D;have A:(0:Int)<2^k:=JO ae;constructor
 ·rw[vD A];have: -9223372036854775808*(2:Int)^k≤ -9223372036854775808*1:=Uv ae ae;omega
 ·apply JN;rw[yv A];have:(9223372036854775807+1)*1≤(9223372036854775807+1)*(2:Int)^k:=sH ae ae;omega
theorem GD {x n:Int}(A:I64 x):I64 (pA x n):=by
 unfold pA;split
 ·exact A
 split
 ·unfold I64;omega
 ·have D:(2:Int)^n.toNat=2^(n.toNat-1)*2:=by
   obtain⟨j,G⟩:∃j,n.toNat=j+1:=⟨n.toNat-1,ae⟩
   rw[G,AQ,Int.pow_succ]
  have H:(0:Int)<2^(n.toNat-1):=JO ae;have F:x/2^n.toNat=x/2^(n.toNat-1)/2:=by rw[D,Int.ediv_ediv,aA ae,Int.sub_zero]
  have:=zd5 (k:=n.toNat-1) A;unfold I64;rw[F];omega
def fY (r:Int):Nat→Int×Int
 |0=>(1099511627776,1099511627776)
 | i+1=>(IntKind.i64.wrap (if i%2=0 then(fY r i).1-df (fY r i).2 r (((i:Int)+1)*1099511627776)else(fY r i).1+df (fY r i).2 r (((i:Int)+1)*1099511627776)),
   df (fY r i).2 r (((i:Int)+1)*1099511627776))
def za2 (t:Int):Int:=pA (fY (max 0 t%762123384786) 16).1 (max 0 t/762123384786)
def GH (d sigma:Int):Int:=if sigma<1∨4194304<sigma∨d< -16384∨16384<d then 9223372036854775807 else df (d*d*2147483648) 1099511627776 (sigma*sigma)
def Dz (d sigma:Int):Int:=pA (za2 (GH d sigma)) 10
theorem gL (a b d:Int):I64 (df a b d):=by
 unfold df;split
 ·unfold I64;omega
 ·exact Sq _ _
theorem DC (r:Int):∀i,I64 (fY r i).1∧I64 (fY r i).2
 |0=>⟨by unfold I64 fY;omega,by unfold I64 fY;omega⟩
 |i+1=>by simp only[fY];exact⟨kL _,gL _ _ _⟩
theorem PO (t:Int):I64 (za2 t):=GD (DC _ _).1
theorem Oi (d s:Int):I64 (GH d s):=by
 unfold GH;split
 ·unfold I64;omega
 ·exact gL _ _ _
theorem Yd (d s:Int):I64 (Dz d s):=GD (PO _)
theorem RT {d B:Int}(h1: -B≤d)(A:d≤B):0≤d*d∧d*d≤B*B:=by
 refine⟨by rcases Ey 0 d with h|h;exact mR h h;exact Int.mul_nonneg_of_nonpos_of_nonpos h h,?_⟩;rcases Ey 0 d with h|h
 ·exact lV A A h ae
 ·have: -d* -d≤B*B:=lV ae ae ae ae
  rwa [Int.neg_mul_neg]at this
def MO (p q:Int):Prop:=1≤q∧q≤1048576∧ -4*q≤p∧p≤4*q
instance (p q:Int):Decidable (MO p q):=by unfold MO;infer_instance
def cK (u:Int):Nat→Int×Int
 |0=>(1099511627776,1099511627776)
 | i+1=>(IntKind.i64.wrap (if i%2=0 then(cK u i).1-df (cK u i).2 u (2*((i:Int)+1)*(2*((i:Int)+1)+1)*1099511627776)else(cK u i).1+df (cK u i).2 u (2*((i:Int)+1)*(2*((i:Int)+1)+1)*1099511627776)),
   df (cK u i).2 u (2*((i:Int)+1)*(2*((i:Int)+1)+1)*1099511627776))
def Aw (p q:Int):Int:=(cK (df (df 10851744800547 (max p (-p)) q) (max p (-p)) q) 30).1
theorem Av (r:Int):∀i,I64 (cK r i).1∧I64 (cK r i).2
 |0=>⟨by unfold I64 cK;omega,by unfold I64 cK;omega⟩
 |i+1=>by simp only[cK];exact⟨kL _,gL _ _ _⟩
theorem yo (p q:Int):I64 (Aw p q):=(Av _ _).1
def NJ (m n:Nat)(below:Bool):Nat:=if n=0 then m else m/2^n+(if m/2^(n-1)%2=1∧¬(below=true∧m%2^(n-1)=0)then 1 else 0)
def rH (a b n:Int):Int:=if 128≤n then 0 else ko (NJ (a.natAbs*b.natAbs) n.toNat (lH a b)) (lH a b)
theorem yT (a b n:Int):I64 (rH a b n):=by
 unfold rH;split
 ·unfold I64;omega
 ·exact Sq _ _
def xj (p q:Int):Int:=if¬MO p q∨3*q≤max p (-p)then 0 else pA (rH (Aw p q) (Aw p (3*q)) 40) 10
theorem UJ (p q:Int):I64 (xj p q):=by
 unfold xj;split
 ·unfold I64;omega
 ·exact GD (yT _ _ _)
def gD (b w:Bool)(v:Value):Value:=bif b==w then v else undef
theorem gD_tt (v:Value):gD true true v=v:=de rfl rfl
theorem gD_ff (v:Value):gD false false v=v:=de rfl rfl
theorem gD_tf (v:Value):gD true false v=undef:=de rfl rfl
theorem gD_ft (v:Value):gD false true v=undef:=de rfl rfl
theorem gD_gD (b w:Bool)(v:Value):gD b w (gD b w v)=gD b w v:=by cases b<;>cases w<;>rfl
theorem gV_gD (b w:Bool)(v:Value):gV (.bool b) w (some v)=some (gD b w v):=by cases b<;>cases w<;>rfl
theorem gV_un (b w:Bool)(o:UnOp)(v:Value):gV (.bool b) w (unV o (gD b w v))=gV (.bool b) w (unV o v):=by cases b<;>cases w<;>rfl
theorem zee (b w:Bool)(e:EK)(o:BinOp)(v u:Value):gV (.bool b) w (ak e o (gD b w v) u)=gV (.bool b) w (ak e o v u):=by cases b<;>cases w<;>rfl
theorem zed (b w:Bool)(e:EK)(o:BinOp)(v u:Value):gV (.bool b) w (ak e o u (gD b w v))=gV (.bool b) w (ak e o u v):=by cases b<;>cases w<;>rfl
theorem zfx (b w:Bool)(k:IntKind)(v:Value):gV (.bool b) w (gS k (gD b w v))=gV (.bool b) w (gS k v):=by cases b<;>cases w<;>rfl
theorem zfv (b w:Bool)(n:Nat)(v:Value):gV (.bool b) w (aC n (gD b w v))=gV (.bool b) w (aC n v):=by cases b<;>cases w<;>rfl
theorem gV_ld (b w:Bool)(h:ai)(v:Value):gV (.bool b) w (ldV h (gD b w v))=gV (.bool b) w (ldV h v):=by cases b<;>cases w<;>rfl
theorem zfu (b w:Bool)(n:Nat)(h:ai)(v:Value):gV (.bool b) w (aM n h (gD b w v))=gV (.bool b) w (aM n h v):=by cases b<;>cases w<;>rfl
theorem zec (b w:Bool)(n:Nat)(v u:Value):gV (.bool b) w (bh n (gD b w v) u)=gV (.bool b) w (bh n v u):=by cases b<;>cases w<;>rfl
theorem zeb (b w:Bool)(n:Nat)(v u:Value):gV (.bool b) w (bh n u (gD b w v))=gV (.bool b) w (bh n u v):=by cases b<;>cases w<;>rfl
theorem zcx (b w:Bool)(v:Value):gV (.bool b) w (aD (gD b w v))=gV (.bool b) w (aD v):=by cases b<;>cases w<;>rfl
theorem zcw (b w:Bool)(v:Value):gV (.bool b) w (Ld (gD b w v))=gV (.bool b) w (Ld v):=by cases b<;>cases w<;>rfl
theorem zfw (b w:Bool)(n:Nat)(v:Value):gV (.bool b) w (aP (gD b w v) n)=gV (.bool b) w (aP v n):=by cases b<;>cases w<;>rfl
theorem zft (b w:Bool)(v:Value):gV (.bool b) w (aX (gD b w v))=gV (.bool b) w (aX v):=by cases b<;>cases w<;>rfl
theorem zea (b w:Bool)(v u:Value):gV (.bool b) w (kA (gD b w v) u)=gV (.bool b) w (kA v u):=by cases b<;>cases w<;>rfl
theorem zd9 (b w:Bool)(v u:Value):gV (.bool b) w (kA u (gD b w v))=gV (.bool b) w (kA u v):=by cases b<;>cases w<;>rfl
theorem zd8 (b w:Bool)(v u:Value):gV (.bool b) w (tW (gD b w v) u)=gV (.bool b) w (tW v u):=by cases b<;>cases w<;>rfl
theorem zd7 (b w:Bool)(v u:Value):gV (.bool b) w (tW u (gD b w v))=gV (.bool b) w (tW u v):=by cases b<;>cases w<;>rfl
theorem zd6 (b w a:Bool)(n o:Nat)(v:Value):gV (.bool b) w (rh a n o (gD b w v))=gV (.bool b) w (rh a n o v):=by cases b<;>cases w<;>rfl
theorem zct (b w:Bool)(v u x:Value):gV (.bool b) w (aH (gD b w v) u x)=gV (.bool b) w (aH v u x):=by cases b<;>cases w<;>rfl
theorem zcs (b w:Bool)(v u x:Value):gV (.bool b) w (aH v (gD b w u) x)=gV (.bool b) w (aH v u x):=by cases b<;>cases w<;>rfl
theorem zcr (b w:Bool)(v u x:Value):gV (.bool b) w (aH v u (gD b w x))=gV (.bool b) w (aH v u x):=by cases b<;>cases w<;>rfl
theorem zb6 (b c:Bool):aH (.bool b) (gD b true (.bool c)) (.bool false)=some (.bool (b&&c)):=by cases b<;>rfl
theorem zdR (b c:Bool):aH (.bool b) (.bool true) (gD b false (.bool c))=some (.bool (b||c)):=by cases b<;>rfl
theorem zcy (b w c A:Bool)(r:Option Value):gV (gD b w (.bool c)) A r=gV (.bool ((b==w)&&(c==A))) true r:=by cases b<;>cases w<;>cases c<;>cases A<;>rfl
theorem zcz (b w c A:Bool)(m:(Value→ai→Prop)→Prop)(h:ai)(K:Value→ai→Prop):gK (gD b w (.bool c)) A m h K=gK (.bool ((b==w)&&(c==A))) true m h K:=by cases b<;>cases w<;>cases c<;>cases A<;>rfl
theorem Ww (b c d:Bool):gV (.bool b) true (aH (.bool c) (gD (b&&c) true (.bool d)) (.bool false))=some (gD b true (.bool (c&&d))):=by cases b<;>cases c<;>rfl
theorem Wx (b c d:Bool):gV (.bool b) false (aH (.bool c) (gD (!b&&c) true (.bool d)) (.bool false))=some (gD b false (.bool (c&&d))):=by cases b<;>cases c<;>rfl
theorem ZP (b c d:Bool):gV (.bool b) true (aH (.bool c) (.bool true) (gD (b&& !c) true (.bool d)))=some (gD b true (.bool (c||d))):=by cases b<;>cases c<;>rfl
theorem ZQ (b c d:Bool):gV (.bool b) false (aH (.bool c) (.bool true) (gD (!b&& !c) true (.bool d)))=some (gD b false (.bool (c||d))):=by cases b<;>cases c<;>rfl
theorem zaY (p q:Prop)[Decidable p][Decidable q](d:Bool):gV (.bool (decide p)) true (aH (.bool (decide q)) (gD (decide (p∧q)) true (.bool d)) (.bool false))=some (gD (decide p) true (.bool (decide q&&d))):=by rw[JM];exact Ww _ _ _
theorem zaZ (p q:Prop)[Decidable p][Decidable q](d:Bool):gV (.bool (decide p)) false (aH (.bool (decide q)) (gD (decide (¬p∧q)) true (.bool d)) (.bool false))=some (gD (decide p) false (.bool (decide q&&d))):=by rw[JM,JL];exact Wx _ _ _
theorem zcu (p q:Prop)[Decidable p][Decidable q](d:Bool):gV (.bool (decide p)) true (aH (.bool (decide q)) (.bool true) (gD (decide (p∧¬q)) true (.bool d)))=some (gD (decide p) true (.bool (decide q||d))):=by rw[JM,JL];exact ZP _ _ _
theorem zcv (p q:Prop)[Decidable p][Decidable q](d:Bool):gV (.bool (decide p)) false (aH (.bool (decide q)) (.bool true) (gD (decide (¬p∧¬q)) true (.bool d)))=some (gD (decide p) false (.bool (decide q||d))):=by rw[JM,JL,JL];exact ZQ _ _ _
theorem beq_t (b:Bool):(b==true)=b:=by cases b<;>rfl
theorem beq_f (b:Bool):(b==false)= !b:=by cases b<;>rfl
theorem zel (p q:Prop)[Decidable p][Decidable q]:(decide p&&decide q)=decide (p∧q):=(JM p q).symm
theorem zfH (p q:Prop)[Decidable p][Decidable q]:(decide p||decide q)=decide (p∨q):=(Bool.decide_or p q).symm
theorem ZU (p:Prop)[Decidable p]:(!decide p)=decide (¬p):=JL.symm
theorem zfG (p:Prop)[Decidable p]:decide (True∧p)=decide p:=by by_cases h:p<;>simp[h]
theorem zfJ (p:Prop)[Decidable p]:decide (p∧True)=decide p:=by by_cases h:p<;>simp[h]
theorem zfI (p:Prop)[Decidable p]:decide (False∧p)=false:=by simp
theorem zfK (p:Prop)[Decidable p]:decide (p∧False)=false:=by simp
theorem gK_f {b:Bool}{m:(Value→ai→Prop)→Prop}{h:ai}{K:Value→ai→Prop}(h1:b=false→m K)(A:b=true→K undef h):gK (.bool b) false m h K:=by
 cases b
 ·exact h1 rfl
 ·exact A rfl
theorem kB {init:List Value}{h:ai}{body:List Value→Env→ai→(List Value→ai→Prop)→Prop}(st:Nat→List Value)(N A:Nat)(hi:init=st A)(h0:A≤N)
  (step:∀i again ρj,A≤i→i≤N→(i<N→again (st (i+1)) h)→body (st i) ρj h again):bC init h body:=by
 refine dy (λd D h'=>∃i,d=N-i∧A≤i∧i≤N∧D=st i∧h'=h) (N-A) ⟨A,rfl,ck _,h0,hi,rfl⟩ ?_;rintro d D ρj h' again ⟨i,rfl,h1,G,rfl,rfl⟩ H;exact step i again ρj h1 G λF=>H _ _ (N-(i+1)) ae ⟨i+1,rfl,ae,F,rfl,rfl⟩
theorem bO {α:Type}{init:List Value}{h:ai}{body:List Value→Env→ai→(List Value→ai→Prop)→Prop}(N A:Nat)(st:Nat→α→List Value)(I:Nat→α→ai→Prop)(a0:α)(hi:init=st A a0)(h0:A≤N)(L:I A a0 h)
  (step:∀i a h again ρj,A≤i→i≤N→I i a h→(∀D h',i<N→I (i+1) D h'→again (st (i+1) D) h')→body (st i a) ρj h again):bC init h body:=by
 refine dy (λd G h'=>∃i a,d=N-i∧A≤i∧i≤N∧G=st i a∧I i a h') (N-A) ⟨A,a0,rfl,ck _,h0,hi,L⟩ ?_;rintro d G ρj h' again ⟨i,a,rfl,h1,W,rfl,hi⟩ H;exact step i a h' again ρj h1 W hi λD h' U F=>H _ _ (N-(i+1)) ae ⟨i+1,D,rfl,ae,U,rfl,F⟩
attribute [go_sem] gD_gD gD_tt gD_ff gD_tf gD_ft gV_gD gV_un zee zed zfx zfv gV_ld zfu zec zeb zcx zcw zfw zft zea zd9 zd8 zd7 zd6 zct zcs zcr true_or or_true false_or or_false zfG zfJ zfI zfK zb6 zdR zcy zcz Ww Wx ZP ZQ zaY zaZ zcu zcv beq_t beq_f zel zfH ZU
attribute [irreducible] gD
end Go.Crisp
namespace Go.Proofs.YtjljhnandbbldaaGreatDoor
open Go Go.Crisp
attribute [local irreducible] ag cO aT stK aG vK qK bL gK eM bC mkK cR HA JA Ep bsK
open _root_.Go.Proofs.Tryz
theorem oU {h:ai}{x:Int}(A:I64 x):ag prog jz #[af x] h λr h'=>r=.int .u64 (x.natAbs:Int)∧h'=h:=by
 apply RA;unfold Gg;simp only[go_sem];refine aq (λh0=>?_) (λh0=>?_)
 ·rw[Vp A h0];exact⟨rfl,trivial⟩
 ·rw[Vo A h0];exact⟨rfl,trivial⟩
theorem ug {h:ai}{m:Nat}{b:Bool}(A:m<18446744073709551616):ag prog mH #[.int .u64 (m:Int),.bool b] h λr h'=>r=af (ko m b)∧h'=h:=by
 apply RB;unfold Gh;unfold ko;cases b
 ·simp only[go_sem,ig,cS];refine aq (λh0=>?_) (λh0=>?_)
  ·rw[aB ae];exact⟨rfl,trivial⟩
  ·rw[aA ae,w64 ae ae];exact⟨rfl,trivial⟩
 ·simp only[go_sem,cV];refine aq (λh0=>?_) (λh0=>?_)
  ·rw[aB ae];exact⟨rfl,trivial⟩
  ·rw[aA ae,w64 (n:=(m:Int)) ae ae,w64 ae ae];exact⟨by congr 1;omega,trivial⟩
theorem MS {a b:Nat}(D:0<b)(A:a<18446744073709551616):ak .i .quo (.int .u64 (a:Int)) (.int .u64 (b:Int))=some (.int .u64 ((a/b:Nat):Int)):=by
 have e:(a:Int).tdiv (b:Int)=((a/b:Nat):Int):=(Int.ofNat_tdiv a b).symm;rw[nD _ _ _ _ ae,e,gF (uz (ka _ _) A)]
theorem Y6 {a b:Nat}(A:0<b):ak .i .rem (.int .u64 (a:Int)) (.int .u64 (b:Int))=some (.int .u64 ((a%b:Nat):Int)):=by
 have e:(a:Int).tmod (b:Int)=((a%b:Nat):Int):=(Int.ofNat_tmod a b).symm;rw[dS _ _ _ _ ae,e]
theorem jV {x:Int}(h:I64 x):x.natAbs<18446744073709551616:=by unfold I64 at h;omega
theorem rG {x:Int}(h:I64 x):x.natAbs≤9223372036854775808:=by unfold I64 at h;omega
theorem Nx {h:ai}{a b:Int}(F:I64 a)(H:I64 b):ag prog kW #[af a,af b] h λr h'=>r=af (Lh a b)∧h'=h:=by
 apply OZ;unfold CU;simp only[go_sem];unfold Lh;refine aq (λh0=>?_) (λh0=>?_)
 ·rw[aB h0];exact⟨rfl,trivial⟩
 rw[aA h0];refine aQ (λh'=>h'=h) rfl ?_;refine(oU F).mono λv1 h1 ⟨W,w1⟩=>?_
 subst W w1
 try refine⟨rfl,?_⟩
 refine(oU H).mono λv2 h2 ⟨e2,w2⟩=>?_
 subst e2 w2
 try refine⟨rfl,?_⟩
 have D:0<b.natAbs:=ae;have aa:=rG F;rw[MS D (jV F),ah];refine(oU F).mono λv3 h3 ⟨U,I⟩=>?_
 subst U I
 try refine⟨rfl,?_⟩
 refine(oU H).mono λv4 h4 ⟨L,w4⟩=>?_
 subst L w4
 try refine⟨rfl,?_⟩
 rw[Y6 D,ah];simp only[go_sem];have hq:a.natAbs/b.natAbs≤a.natAbs:=ka _ _;by_cases hd:lH a b=true
 ·have A:(!(decide (a<0)==decide (b<0)))=true:=hd;rw[A];simp only[go_sem];by_cases G:a.natAbs%b.natAbs=0
  ·have q:(((a.natAbs%b.natAbs:Nat):Int)=0)=True:=jZ ae;simp only[go_sem,q];rw[hd];unfold Hs;rw[aA (by simp[G])];exact ug ae
  ·have q:(((a.natAbs%b.natAbs:Nat):Int)=0)=False:=gk ae;simp only[go_sem,q];rw[hd,show((a.natAbs/b.natAbs:Nat):Int)+1=((a.natAbs/b.natAbs+1:Nat):Int)from rfl,gF (m:=a.natAbs/b.natAbs+1) ae];unfold Hs;rw[aB ⟨rfl,G⟩];exact ug (m:=a.natAbs/b.natAbs+1) ae
 ·have hd:lH a b=false:=by simpa using hd
  have A:(!(decide (a<0)==decide (b<0)))=false:=hd;rw[A];simp only[go_sem];rw[hd];unfold Hs;rw[aA (by simp)];exact ug ae
theorem zeU (a:Int):ak .i .and (af a) aJ=some (af (a%2)):=by
 have e:(BitVec.ofInt 64 a&&& BitVec.ofInt 64 1).toNat=(a%2).toNat:=by
  rw[BitVec.toNat_and,Uu,Uu];have h1:(1%((2^64:Nat):Int)).toNat=1:=by decide
  rw[h1,JY];omega
 show some (af (IntKind.i64.wrap (((BitVec.ofInt 64 a&&& BitVec.ofInt 64 1).toNat:Nat):Int)))=_;rw[e,w64 ae ae]
 congr 2;omega
theorem YZ (x:Int)(n:Nat)(A:n≤64):ak .i .shr (af x) (af (n:Int))=some (af (x/2^n)):=by
 show(if(n:Int)<0 then none else some (af (x.fdiv (2^(min (n:Int).toNat 64)))))=_;rw[aA ae,dJ,vF A,Ut _ (Int.le_of_lt (JO ae))]
theorem Nv {h:ai}{x n:Int}(F:I64 x)(H:I64 n):ag prog kV #[af x,af n] h λr h'=>r=af (pA x n)∧h'=h:=by
 apply OY;unfold CT;simp only[go_sem];unfold pA;refine aq (λh0=>?_) (λh0=>?_)
 ·rw[aB h0];exact⟨rfl,trivial⟩
 rw[aA h0];refine aq (λh1=>?_) (λh1=>?_)
 ·rw[aB h1];exact⟨rfl,trivial⟩
 rw[aA h1];obtain⟨k,rfl⟩:∃k:Nat,n=(k:Int):=⟨n.toNat,ae⟩
 rw[w64 (n:=(k:Int)-1) ae ae,show(k:Int)-1=((k-1:Nat):Int)by omega,YZ x k ae,ah,YZ x (k-1) ae,ah,zeU,ah];simp only[go_sem,dJ];refine⟨?_,trivial⟩
 congr 1
 have D:(2:Int)^k=2*2^(k-1):=by
  obtain⟨j,rfl⟩:∃j,k=j+1:=⟨k-1,ae⟩
  rw[AQ,Int.pow_succ,gv]
 have A:(0:Int)<2^(k-1):=JO ae;have G:x/2^k=x/2^(k-1)/2:=by rw[D,gv,Int.ediv_ediv,aA ae,Int.sub_zero]
 obtain⟨I,L⟩:=F;have U: -9223372036854775808≤x/2^(k-1)∧x/2^(k-1)≤9223372036854775807:=by
  constructor
  ·rw[vD A];have: -9223372036854775808*(2:Int)^(k-1)≤ -9223372036854775808*1:=Uv ae ae;omega
  ·apply JN;rw[yv A];have:(9223372036854775807+1)*1≤(9223372036854775807+1)*(2:Int)^(k-1):=sH ae ae;omega
 rw[w64 ae ae]
end Go.Proofs.YtjljhnandbbldaaGreatDoor
