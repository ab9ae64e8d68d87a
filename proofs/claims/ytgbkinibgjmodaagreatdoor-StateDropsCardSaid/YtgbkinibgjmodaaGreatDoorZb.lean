/- own texts, made small by a tool (wip/ holds them as they were written): no statement of the seat. -/
import Derived.Test.YtgbkinibgjmodaaGreatDoorZa
set_option linter.unusedVariables false
set_option linter.unusedSimpArgs false
set_option linter.unnecessarySimpa false
open Array renaming getElem?_eq_some_iff→l7,getElem?_toList→U7
open BitVec renaming ofInt→W6
open Bool renaming not_true→Y1,not_false→X0,eq_iff_iff→X8,and_eq_true→U1,or_eq_false_iff→U5
open Decidable renaming not_not→X2
open Go renaming Value→x4,World→x5,Builtin→u7,TypeId→o6,IntKind→o8,Program→X1,Oper→U8
open Go.Addr renaming add_mid→V9
open Go.Builtin renaming len_→u6,append_→r9
open Go.Instr renaming loadAt→x1,fieldAt→x2,indexAt→x7,storeAt→x8,extract→u5,buildSlice→u9,alloc→n9,sliceAt→c7,build→Z0,box→Z2,index→Y0,lookup→V3,makeSlice→V8
open Go.IntKind renaming i64→Y9,u64→V0
open Go.Op renaming unary→Z5
open Go.Proofs.Tryz renaming prog→y0
open Go.Result renaming andThen→Y4
open Go.Sem renaming run_bind→Y2,run_pure→Y6
open Go.Sort renaming Holds→U4
open Go.Value renaming int→X4
open Int renaming toNat_natCast→c9
open List renaming getElem?_eq_getElem→x3,getElem?_eq_some_iff→x6,mem_of_getElem?→u4,getElem?_map→r8,getD_eq_getElem?_getD→p8,replicate→p9,take_add_one→o3,length_map→o4,length_append→o5,mem_singleton→o9,mem_append→n0,take_length→l5,length_take→l6,mem_map→l9,take_of_length_le→j0,map_append→j4,eq_nil_of_length_eq_zero→j9,length_cons→c8,getElem?_append_left→Z1,getElem?_append_right→Z4,getElem?_take_of_lt→Z6,getElem?_eq_none→Z8,mem_iff_getElem?→Y5,getElem?_set→Y7,drop_eq_getElem_cons→Y8,flatMap_cons→X5,ext_getElem?→X6,range→X7,length_set→W0,pairwise_iff_getElem→W5,length→W8,append_assoc→W9,mem_or_eq_of_mem_set→V1,set_append_right→V2,length_eq_one_iff→V6,getElem?_set_self→V7,append_nil→U3,mem_cons→U6,length_singleton→T0,getElem_mem→T1
open Nat renaming le_refl→o7,zero_le→Z9,le_trans→Y3,mul_le_mul_right→X3,sub_self→W3,add_mul→W7,zero_add→V5,mul_one→U9
open Option renaming toList_some→j5,some→j6,map_some→b6,isNone_some→b8,map_eq_some_iff→Z3,map→X9,getD_some→V4
open Option.some renaming inj→b9,injEq→Z7
open Prod.mk renaming injEq→U2
namespace Go.Proofs.YtgbkinibgjmodaaGreatDoor
open Go Go.Vc Go.RowKit Go.Proofs Go.Proofs.Tryz
set_option maxRecDepth 100000
section
variable {Z:x5} {ac:aS} {V ao bk fO jr k6 k7 k8 k9 la lb ld:x4}
theorem mi.enter (h:aa y0 (n9 aF true (.tuple #[])) Z fun t4 bY=>aa y0 (n9 aF true (.tuple #[])) bY fun f bZ=>O y0 en [V,(.int .i64 (-4611686018427387904)),(.int .i64 4611686018427387904)] bZ fun aY ap=>I y0 (u5 aY 0) ap fun aK=>I y0 (u5 aY 1) ap fun aZ=>I y0 (U .lss ae false true aK (.int .i64 0)) ap fun a1=>@aB aS (fun a2 b1=>bc (.int .i64 0) b1 fun i ai k=>@aB aS (fun b2 aj=>Split b2 (I y0 (u6 #[af] J #[ao]) aj fun t53=>I y0 (U .sub ae false true t53 (.int .i64 1)) aj fun b3=>O y0 en [V,(.int .i64 0),b3] aj fun t55 X=>I y0 (u5 t55 0) X fun aL=>I y0 (u5 t55 1) X fun b4=>I y0 (am V) X fun b5=>I y0 (x2 aN b5 3) X fun b6=>I y0 (x1 J b6) X fun b7=>I y0 (U .neq J false true b7 (.int .i64 0)) X fun b8=>Split b8 (I y0 (x1 aF f) X fun b9=>aa y0 (x8 aF t4 b9) X fun _ a6=>I y0 (do loadVar aF (←asAddr t4)) a6 fun ca=>ac ca a6) (I y0 (x2 aF f 0) X fun cb=>I y0 (x1 af cb) X fun a7=>I y0 (u6 #[af] J #[a7]) X fun t66=>bc (.int .i64 0) X fun aM ab cc=>I y0 (U .lss J false false aM t66) ab fun cd=>Split cd (I y0 (x7 af a7 aM) ab fun ce=>I y0 (x1 ae ce) ab fun t70=>I y0 (U .eql ae false false t70 aL) ab fun cg=>Split cg (O y0 fy [V,(.int .i64 4),b4] ab fun _ ba=>I y0 (x1 aF f) ba fun t77=>aa y0 (x8 aF t4 t77) ba fun _ bb=>I y0 (do loadVar aF (←asAddr t4)) bb fun ch=>ac ch bb) (I y0 (U .add J false true aM (.int .i64 1)) ab fun ci=>cc ci ab)) (I y0 (x2 aF f 0) ab fun cj=>I y0 (x1 af cj) ab fun ck=>aa y0 (u9 af 1 #[(0,aL)]) ab fun cl cm=>aa y0 (r9 #[af,af] af #[ck,cl]) cm fun cn bd=>I y0 (x2 aF f 0) bd fun cp=>aa y0 (x8 af cp cn) bd fun _ cq=>aQ cq fun aq=>I y0 (x2 aF f 1) aq fun aO=>I y0 (x1 af aO) aq fun be=>I y0 (x7 af ao aL) aq fun ct=>I y0 (x1 ae ct) aq fun cu=>aa y0 (u9 af 1 #[(0,cu)]) aq fun cw aD=>(Ext aq aD∨al y0 (x1 af aO) be aD∧al y0 (x2 aF f 1) aO aD∧True)∧aa y0 (r9 #[af,af] af #[be,cw]) aD fun cz bf=>I y0 (x2 aF f 1) bf fun cA=>aa y0 (x8 af cA cz) bf fun _ bg=>I y0 (U .add ae false true i (.int .i64 1)) bg fun cB=>k cB bg))) (I y0 (x2 aF f 1) aj fun cC=>I y0 (x1 af cC) aj fun bh=>I y0 (u6 #[af] J #[bh]) aj fun cD=>a8 (.int .i64 1) (.int .i64 0) aj fun bi aP ad cE=>I y0 (U .lss J false false aP cD) ad fun cF=>Split cF (@aB aS (fun cG bj=>I y0 (U .add J false true aP (.int .i64 1)) bj fun cH=>cE cG cH bj) fun bk=>I y0 (x7 af bh aP) ad fun cI=>I y0 (x1 ae cI) ad fun bl=>@aB aS (fun cJ aG=>I y0 (U .mul ae false false bi cJ) aG fun bm=>I y0 (U .gtr ae false true bm (.int .i64 4096)) aG fun cK=>Split cK (bk (.int .i64 4097) aG) (bk bm aG)) fun bn=>I y0 (U .gtr ae false true bl (.int .i64 4096)) ad fun cL=>Split cL (bn (.int .i64 4097) ad) (bn bl ad)) (@aB dL (fun cM=>O y0 en [V,(.int .i64 0),(.int .i64 4611686018427387904)] cM fun bo aH=>I y0 (u5 bo 0) aH fun cN=>I y0 (u5 bo 1) aH fun _=>I y0 (x2 aF f 2) aH fun cO=>aa y0 (x8 ae cO cN) aH fun _ cP=>O y0 en [V,(.int .i64 (-4611686018427387904)),(.int .i64 4611686018427387904)] cP fun bp W=>I y0 (u5 bp 0) W fun au=>I y0 (u5 bp 1) W fun bq=>I y0 (am V) W fun cQ=>I y0 (x2 aN cQ 3) W fun cR=>I y0 (x1 J cR) W fun cS=>I y0 (U .neq J false true cS (.int .i64 0)) W fun cT=>Split cT (I y0 (x1 aF f) W fun cU=>aa y0 (x8 aF t4 cU) W fun _ br=>I y0 (do loadVar aF (←asAddr t4)) br fun cV=>ac cV br) (@aB dL (fun cW=>bc (.int .i64 0) cW fun bt ak cX=>@aB aS (fun cY aR=>Split cY (aa y0 (n9 bx true (.tuple #[])) aR fun x aI=>I y0 (x2 aF f 1) aI fun cZ=>I y0 (x1 af cZ) aI fun bu=>I y0 (u6 #[af] J #[bu]) aI fun c0=>bc (.int .i64 0) aI fun aT av c1=>I y0 (U .lss J false false aT c0) av fun c2=>Split c2 (I y0 (x7 af bu aT) av fun c3=>I y0 (x1 ae c3) av fun c4=>I y0 (U .sub ae false true c4 (.int .i64 1)) av fun c5=>O y0 en [V,(.int .i64 0),c5] av fun bw az=>I y0 (u5 bw 0) az fun c6=>I y0 (u5 bw 1) az fun _=>I y0 (x2 bx x 0) az fun c7=>I y0 (x1 af c7) az fun c8=>aa y0 (u9 af 1 #[(0,c6)]) az fun c9 da=>aa y0 (r9 #[af,af] af #[c8,c9]) da fun db bz=>I y0 (x2 bx x 0) bz fun dc=>aa y0 (x8 af dc db) bz fun _ bA=>I y0 (U .add J false true aT (.int .i64 1)) bA fun dd=>c1 dd bA) (O y0 en [V,(.int .i64 0),(.int .i64 4611686018427387904)] av fun bB aw=>I y0 (u5 bB 0) aw fun de=>I y0 (u5 bB 1) aw fun df=>I y0 (x2 aF f 3) aw fun dg=>I y0 (x1 cr dg) aw fun bC=>I y0 (u6 #[cr] J #[bC]) aw fun dh=>bc (.int .i64 0) aw fun aU ax di=>I y0 (U .lss J false false aU dh) ax fun dj=>Split dj (@aB dL (fun bD=>I y0 (U .add J false true aU (.int .i64 1)) bD fun dk=>di dk bD) fun bE=>I y0 (x7 cr bC aU) ax fun dl=>I y0 (x1 bx dl) ax fun dm=>aa y0 (n9 bx true (.tuple #[])) ax fun y dn=>aa y0 (x8 bx y dm) dn fun _ ag=>@aB aS (fun dp bF=>Split dp (O y0 fy [V,(.int .i64 4),df] bF fun _ dq=>bE dq) (bE bF)) fun bG=>I y0 (am V) ag fun dr=>I y0 (x2 aN dr 3) ag fun ds=>I y0 (x1 J ds) ag fun dt=>I y0 (U .eql J false true dt (.int .i64 0)) ag fun du=>Split du (I y0 (x2 bx x 0) ag fun dv=>I y0 (x1 af dv) ag fun dw=>I y0 (x2 bx y 0) ag fun dx=>I y0 (x1 af dx) ag fun dy=>O y0 iL [dw,dy] ag fun dz dA=>bG dz dA) (bG (.bool false) ag)) (I y0 (x2 bx x 1) ax fun dB=>aa y0 (x8 ae dB de) ax fun _ aJ=>I y0 (x2 aF f 3) aJ fun dC=>I y0 (x1 cr dC) aJ fun dD=>I y0 (x1 bx x) aJ fun dE=>aa y0 (u9 cr 1 #[(0,dE)]) aJ fun dF dG=>aa y0 (r9 #[cr,cr] cr #[dD,dF]) dG fun dH bH=>I y0 (x2 aF f 3) bH fun dI=>aa y0 (x8 cr dI dH) bH fun _ bI=>I y0 (U .add ae false true bt (.int .i64 1)) bI fun dJ=>cX dJ bI))) (@aB dL (fun bJ=>I y0 (x1 aF f) bJ fun dK=>aa y0 (x8 aF t4 dK) bJ fun _ bK=>I y0 (do loadVar aF (←asAddr t4)) bK fun dM=>ac dM bK) fun bL=>Split a1 (aQ aR fun ay=>I y0 (am V) ay fun aV=>I y0 (x2 aN aV 8) ay fun aW=>I y0 (x1 bU aW) ay fun bM=>I y0 (x1 aF f) ay fun dN=>aa y0 (u9 bU 1 #[(0,dN)]) ay fun dO aA=>(Ext ay aA∨al y0 (x1 bU aW) bM aA∧al y0 (x2 aN aV 8) aW aA∧al y0 (am V) aV aA∧True)∧aa y0 (r9 #[bU,bU] bU #[bM,dO]) aA fun dP aX=>I y0 (am V) aX fun dQ=>I y0 (x2 aN dQ 8) aX fun dR=>aa y0 (x8 bU dR dP) aX fun _ dS=>bL dS) (bL aR))) fun bN=>I y0 (U .lss ae false false bt au) ak fun dT=>Split dT (I y0 (am V) ak fun dU=>I y0 (x2 aN dU 3) ak fun dV=>I y0 (x1 J dV) ak fun dW=>I y0 (U .eql J false true dW (.int .i64 0)) ak fun dX=>bN dX ak) (bN (.bool false) ak)) fun bO=>I y0 (U .lss ae false true au (.int .i64 0)) W fun dY=>Split dY (@aB aS (fun dZ Y=>Split dZ (O y0 fy [V,(.int .i64 4),bq] Y fun _ bP=>I y0 (x1 aF f) bP fun ea=>aa y0 (x8 aF t4 ea) bP fun _ bQ=>I y0 (do loadVar aF (←asAddr t4)) bQ fun eb=>ac eb bQ) (I y0 (am V) Y fun ec=>I y0 (x2 aN ec 8) Y fun ed=>I y0 (x1 bU ed) Y fun ee=>I y0 (Z5 .neg au) Y fun ef=>I y0 (U .sub ae false true ef (.int .i64 1)) Y fun eg=>I y0 (x7 bU ee eg) Y fun eh=>I y0 (x2 aF eh 3) Y fun ei=>I y0 (x1 cr ei) Y fun ej=>I y0 (x2 aF f 3) Y fun ek=>aa y0 (x8 cr ek ej) Y fun _ em=>bO em)) fun bR=>aQ W fun E=>I y0 (Z5 .neg au) E fun eo=>I y0 (am V) E fun ep=>I y0 (x2 aN ep 8) E fun er=>I y0 (x1 bU er) E fun es=>I y0 (u6 #[bU] J #[es]) E fun et=>I y0 (U .gtr ae false false eo et) E fun eu=>Split eu (bR (.bool true) E) (I y0 (am V) E fun ev=>I y0 (x2 aN ev 8) E fun ew=>I y0 (x1 bU ew) E fun ey=>I y0 (Z5 .neg au) E fun ez=>I y0 (U .sub ae false true ez (.int .i64 1)) E fun eA=>I y0 (x7 bU ey eA) E fun eB=>I y0 (x2 aF eB 1) E fun eC=>I y0 (x1 af eC) E fun eD=>I y0 (x2 aF f 1) E fun eE=>I y0 (x1 af eE) E fun eF=>O y0 iL [eD,eF] E fun eG bS=>I y0 (Z5 .not eG) bS fun eH=>bR eH bS)) (I y0 (am V) W fun eI=>I y0 (x2 aN eI 7) W fun eJ=>I y0 (x1 ae eJ) W fun eK=>I y0 (U .add ae false false eK au) W fun eL=>I y0 (am V) W fun eM=>I y0 (x2 aN eM 7) W fun eN=>aa y0 (x8 ae eN eL) W fun _ ah=>@aB dL (fun aC=>I y0 (am V) aC fun eO=>I y0 (x2 aN eO 7) aC fun eP=>I y0 (x1 ae eP) aC fun eQ=>I y0 (U .gtr ae false true eQ (.int .i64 16384)) aC fun eR=>O y0 fZ [V,eR,bq] aC fun _ eS=>bO eS) fun bT=>I y0 (am V) ah fun eT=>I y0 (x2 aN eT 7) ah fun eU=>I y0 (x1 ae eU) ah fun eV=>I y0 (U .gtr ae false true eV (.int .i64 4611686018427387904)) ah fun eW=>Split eW (I y0 (am V) ah fun eX=>I y0 (x2 aN eX 7) ah fun eY=>aa y0 (x8 ae eY (.int .i64 4611686018427387904)) ah fun _ eZ=>bT eZ) (bT ah)))) fun bV=>I y0 (U .gtr ae false true a2 (.int .i64 6)) ad fun e0=>Split e0 (O y0 fZ [V,(.bool true),aZ] ad fun _ e1=>bV e1) (I y0 (U .gtr ae false true bi (.int .i64 4096)) ad fun e2=>O y0 fZ [V,e2,aZ] ad fun _ e3=>bV e3)))) fun bW=>I y0 (U .lss ae false false i a2) ai fun e4=>Split e4 (I y0 (am V) ai fun e5=>I y0 (x2 aN e5 3) ai fun e6=>I y0 (x1 J e6) ai fun t45=>I y0 (U .eql J false true t45 (.int .i64 0)) ai fun t46=>bW t46 ai) (bW (.bool false) ai)) fun bX=>Split a1 (I y0 (Z5 .neg aK) ap fun e7=>bX e7 ap) (bX aK ap)):O y0 mi [V,ao] Z ac:=aE Tryz.func160 rfl (by kernel_rfl) (by kernel_rfl) h
theorem fy.enter (h:I y0 (am V) Z fun W=>I y0 (x2 aN W 3) Z fun X=>I y0 (x1 J X) Z fun t9=>I y0 (U .eql J false true t9 (.int .i64 0)) Z fun Y=>Split Y (I y0 (am V) Z fun ab=>I y0 (x2 aN ab 3) Z fun ad=>aa y0 (x8 J ad ao) Z fun _ E=>I y0 (am V) E fun ae=>I y0 (x2 aN ae 4) E fun af=>aa y0 (x8 J af bk) E fun _ ag=>ac (.tuple #[]) ag) (ac (.tuple #[]) Z)):O y0 fy [V,ao,bk] Z ac:=aE Tryz.func161 rfl (by kernel_rfl) (by kernel_rfl) h
theorem og.enter (h:O y0 oy [V] Z fun aH ad=>I y0 (U .neq cb false true aH (.int .i64 0)) ad fun aW=>Split aW (ac (.tuple #[(.pointer none),aH]) ad) (I y0 (am V) ad fun aX=>I y0 (x2 bf aX 3) ad fun t22=>I y0 (x1 bJ t22) ad fun aI=>I y0 (u6 #[bJ] J #[aI]) ad fun aY=>a8 (.slice none 0 0) (.int .i64 0) ad fun l t25 ah k=>I y0 (U .lss J false false t25 aY) ah fun aZ=>Split aZ (@aB aS (fun a2 aJ=>I y0 (U .add J false true t25 (.int .i64 1)) aJ fun a6=>k a2 a6 aJ) fun aK=>I y0 (x7 bJ aI t25) ah fun a7=>I y0 (x1 bg a7) ah fun ba=>aa y0 (n9 bg true (.tuple #[])) ah fun x bb=>aa y0 (x8 bg x ba) bb fun _ aL=>I y0 (x1 bg x) aL fun bd=>O y0 oz [bd] aL fun aM au=>I y0 (u5 aM 0) au fun be=>I y0 (u5 aM 1) au fun aN=>aa y0 (n9 ab true (.tuple #[])) au fun scope bh=>aa y0 (x8 ab scope be) bh fun _ aO=>I y0 (Instr.makeFunc (.func mw) #[] #[scope]) aO fun bi=>O y0 jZ [l,bi] aO fun av ai=>I y0 (U .lss J false true av (.int .i64 0)) ai fun bj=>Split bj (I y0 (x1 ab scope) ai fun bk=>I y0 (Z0 bB #[(0,bk),(1,aN)]) ai fun bl=>aa y0 (u9 cX 1 #[(0,bl)]) ai fun bm bn=>aa y0 (r9 #[cX,cX] cX #[l,bm]) bn fun bo bp=>aK bo bp) (aQ ai fun af=>I y0 (x7 cX l av) af fun t50=>I y0 (x2 bB t50 1) af fun bq=>I y0 (x1 bA bq) af fun br=>I y0 (x1 ab scope) af fun t53=>I y0 (x1 ab scope) af fun t55=>O y0 my [br,t53,aN,t55] af fun aw ag=>I y0 (u5 aw 0) ag fun bt=>I y0 (u5 aw 1) ag fun _=>I y0 (u5 aw 2) ag fun _=>I y0 (x7 cX l av) ag fun bu=>I y0 (x2 bB bu 1) ag fun bw=>aa y0 (x8 bA bw bt) ag fun _ bx=>aK l bx)) (O y0 oB [l,(.func (.func jp) #[] #[])] ah fun ax bz=>O y0 u2 [ax,(.func (.func mz) #[] #[])] bz fun _ bC=>aQ bC fun E=>I y0 (am V) E fun ay=>I y0 (x2 bf ay 0) E fun t70=>I y0 (x1 a1 t70) E fun aP=>I y0 (am V) E fun az=>I y0 (x2 bf az 1) E fun aA=>I y0 (x1 ae aA) E fun aR=>I y0 (am V) E fun t77=>I y0 (x2 bf t77 2) E fun bD=>I y0 (x1 ab bD) E fun bE=>O y0 gX [bE] E fun bF X=>(Ext E X∨al y0 (x1 ae aA) aR X∧al y0 (x2 bf az 1) aA X∧al y0 (am V) az X∧al y0 (x1 a1 t70) aP X∧al y0 (x2 bf ay 0) t70 X∧al y0 (am V) ay X∧True)∧I y0 (Z0 bf #[(0,aP),(1,aR),(2,bF)]) X fun bG=>aa y0 (Z2 bf bG) X fun aj aT=>I y0 (u6 #[cX] J #[ax]) aT fun bH=>bc (.int .i64 0) aT fun aC ak bI=>I y0 (U .lss J false false aC bH) ak fun bK=>Split bK (I y0 (x7 cX ax aC) ak fun bL=>I y0 (x1 bB bL) ak fun bM=>aa y0 (n9 bB true (.tuple #[])) ak fun y bN=>aa y0 (x8 bB y bM) bN fun _ bO=>aQ bO fun W=>I y0 (am aj) W fun ao=>I y0 (x2 bf ao 3) W fun ap=>I y0 (x1 bJ ap) W fun aD=>I y0 (x2 bB y 0) W fun aF=>I y0 (x1 ab aF) W fun aU=>I y0 (x2 bB y 1) W fun bP=>I y0 (x1 bA bP) W fun bQ=>O y0 mA [bQ] W fun bR Y=>(Ext W Y∨al y0 (x1 ab aF) aU Y∧al y0 (x2 bB y 0) aF Y∧al y0 (x1 bJ ap) aD Y∧al y0 (x2 bf ao 3) ap Y∧al y0 (am aj) ao Y∧True)∧I y0 (Z0 bg #[(0,aU),(1,bR)]) Y fun bS=>aa y0 (u9 bJ 1 #[(0,bS)]) Y fun bT aq=>(Ext W aq∨al y0 (x1 bJ ap) aD aq∧al y0 (x2 bf ao 3) ap aq∧al y0 (am aj) ao aq∧True)∧aa y0 (r9 #[bJ,bJ] bJ #[aD,bT]) aq fun bU aG=>I y0 (am aj) aG fun bV=>I y0 (x2 bf bV 3) aG fun bW=>aa y0 (x8 bJ bW bU) aG fun _ aV=>I y0 (U .add J false true aC (.int .i64 1)) aV fun bX=>bI bX aV) (ac (.tuple #[aj,(.int .i64 0)]) ak)))):O y0 og [V] Z ac:=aE Tryz.func162 rfl (by kernel_rfl) (by kernel_rfl) h
theorem mj.enter (h:I y0 (U .eql b5 false true V (.pointer none)) Z fun t9=>Split t9 (ac (.tuple #[(.pointer none),(.int .i64 2)]) Z) (aQ Z fun E=>I y0 (am V) E fun ak=>I y0 (x2 cL ak 0) E fun al=>I y0 (x1 ab al) E fun ao=>I y0 (am V) E fun ap=>I y0 (x2 cL ap 1) E fun aq=>I y0 (x1 ae aq) E fun au=>I y0 (am V) E fun av=>I y0 (x2 cL av 2) E fun aw=>I y0 (x1 ae aw) E fun t22=>O y0 kS [ao,au,t22] E fun af W=>I y0 (u5 af 0) W fun ag=>I y0 (u5 af 1) W fun t25=>I y0 (U .neq cb false true t25 (.int .i64 0)) W fun ax=>Split ax (ac (.tuple #[(.pointer none),t25]) W) (O y0 oD [V] W fun ah ai=>I y0 (u6 #[hx] J #[ah]) ai fun ay=>bc (.int .i64 0) ai fun ad X k=>I y0 (U .lss J false false ad ay) X fun az=>Split az (I y0 (x7 hx ah ad) X fun aA=>I y0 (x1 dn aA) X fun aB=>aa y0 (n9 dn true (.tuple #[])) X fun l aC=>aa y0 (x8 dn l aB) aC fun _ Y=>I y0 (x2 dn l 0) Y fun aD=>I y0 (x1 ab aD) Y fun aF=>I y0 (x2 dn l 1) Y fun t39=>I y0 (x1 ae t39) Y fun aG=>O y0 n1 [ag,aF,aG] Y fun _ aj=>I y0 (U .add J false true ad (.int .i64 1)) aj fun aH=>k aH aj) (ac (.tuple #[ag,(.int .i64 0)]) X)))):O y0 mj [V] Z ac:=aE Tryz.func163 rfl (by kernel_rfl) (by kernel_rfl) h
theorem hs.enter (h:I y0 (U .eql bA false true V (.pointer none)) Z fun t4=>Split t4 (ac (.slice none 0 0) Z) (I y0 (am V) Z fun E=>I y0 (x2 bq E 2) Z fun J=>I y0 (x1 af J) Z fun W=>O y0 jY [W] Z fun t9 X=>ac t9 X)):O y0 hs [V] Z ac:=aE Tryz.func164 rfl (by kernel_rfl) (by kernel_rfl) h
theorem oh.enter (h:I y0 (am V) Z fun bj=>I y0 (x2 b2 bj 3) Z fun bk=>I y0 (x1 bU bk) Z fun aO=>I y0 (u6 #[bU] J #[aO]) Z fun t22=>a8 (.slice none 0 0) (.int .i64 0) Z fun l aH ah k=>I y0 (U .lss J false false aH t22) ah fun bl=>Split bl (@aB aS (fun bm aP=>I y0 (U .add J false true aH (.int .i64 1)) aP fun bo=>k bm bo aP) fun aR=>I y0 (x7 bU aO aH) ah fun t25=>I y0 (x1 aF t25) ah fun bp=>aa y0 (n9 aF true (.tuple #[])) ah fun x bq=>aa y0 (x8 aF x bp) bq fun _ br=>@aB aS (fun g aT=>I y0 (u6 #[bn] J #[l]) aT fun bt=>a8 (.bool false) (.int .i64 0) aT fun aU t39 ai bu=>I y0 (U .lss J false false t39 bt) ai fun bw=>Split bw (@aB aS (fun bx aV=>I y0 (U .add J false true t39 (.int .i64 1)) aV fun bz=>bu bx bz aV) fun aW=>aQ ai fun aj=>I y0 (x7 bn l t39) aj fun bA=>I y0 (x2 aD bA 0) aj fun t45=>I y0 (x1 ab t45) aj fun t46=>I y0 (x2 aD g 0) aj fun bB=>I y0 (x1 ab bB) aj fun bC=>O y0 n4 [t46,bC] aj fun bD ak=>Split bD (I y0 (x2 aD g 2) ak fun t50=>I y0 (x1 af t50) ak fun bE=>I y0 (u6 #[af] J #[bE]) ak fun bF=>bc (.int .i64 0) ak fun t53 aI bG=>I y0 (U .lss J false false t53 bF) aI fun bH=>Split bH (aQ aI fun E=>I y0 (x7 bn l t39) E fun aX=>I y0 (x2 aD aX 2) E fun aJ=>I y0 (x1 af aJ) E fun aY=>I y0 (x7 bn l t39) E fun bI=>I y0 (x2 aD bI 2) E fun bJ=>I y0 (x1 af bJ) E fun t66=>I y0 (x7 af t66 t53) E fun bK=>I y0 (x1 ae bK) E fun bL=>I y0 (x2 aD g 2) E fun t70=>I y0 (x1 af t70) E fun bM=>I y0 (x7 af bM t53) E fun bN=>I y0 (x1 ae bN) E fun bO=>I y0 (am V) E fun t76=>I y0 (x2 b2 t76 1) E fun t77=>I y0 (x1 ae t77) E fun bP=>O y0 kR [bL,bO,bP] E fun bQ ao=>(Ext E ao∨al y0 (x1 af aJ) aY ao∧al y0 (x2 aD aX 2) aJ ao∧True)∧I y0 (x7 af aY t53) ao fun bR=>aa y0 (x8 ae bR bQ) ao fun _ aZ=>I y0 (U .add J false true t53 (.int .i64 1)) aZ fun bS=>bG bS aZ) (aW (.bool true) aI)) (aW aU ak)) (I y0 (Z5 .not aU) ai fun bT=>Split bT (I y0 (x1 aD g) ai fun bV=>aa y0 (u9 bn 1 #[(0,bV)]) ai fun bW bX=>aa y0 (r9 #[bn,bn] bn #[l,bW]) bX fun bY bZ=>aR bY bZ) (aR l ai))) fun a1=>aQ br fun W=>I y0 (x1 aF x) W fun ax=>I y0 (am V) W fun ap=>I y0 (x2 b2 ap 2) W fun aq=>I y0 (x1 af aq) W fun ay=>I y0 (am V) W fun au=>I y0 (x2 b2 au 1) W fun av=>I y0 (x1 ae av) W fun az=>(O y0 mB [ax,ay,az] W fun b1 b3=>aa y0 (n9 aD true (.tuple #[])) b3 fun a2 X=>(Ext W X∨al y0 (x1 ae av) az X∧al y0 (x2 b2 au 1) av X∧al y0 (am V) au X∧al y0 (x1 af aq) ay X∧al y0 (x2 b2 ap 2) aq X∧al y0 (am V) ap X∧al y0 (x1 aF x) ax X∧True)∧aa y0 (x8 aD a2 b1) X fun _ b4=>a1 a2 b4)∧(aa y0 (n9 aD true (.tuple #[])) W fun a6 Y=>(Ext W Y∨al y0 (x1 ae av) az Y∧al y0 (x2 b2 au 1) av Y∧al y0 (am V) au Y∧al y0 (x1 af aq) ay Y∧al y0 (x2 b2 ap 2) aq Y∧al y0 (am V) ap Y∧al y0 (x1 aF x) ax Y∧True)∧O y0 mB [ax,ay,az] Y fun b5 b6=>aa y0 (x8 aD a6 b5) b6 fun _ b7=>a1 a6 b7)) (I y0 (u6 #[bn] J #[l]) ah fun b8=>a8 (.slice none 0 0) (.int .i64 0) ah fun out aK aw b9=>I y0 (U .lss J false false aK b8) aw fun ca=>Split ca (@aB aS (fun cb a7=>I y0 (U .add J false true aK (.int .i64 1)) a7 fun cc=>b9 cb cc a7) fun ba=>I y0 (x7 bn l aK) aw fun cd=>I y0 (x1 aD cd) aw fun ce=>aa y0 (n9 aD true (.tuple #[])) aw fun aA cg=>aa y0 (x8 aD aA ce) cg fun _ aC=>I y0 (x2 aD aA 2) aC fun ch=>I y0 (x1 af ch) aC fun bb=>I y0 (u6 #[af] J #[bb]) aC fun ci=>a8 (.bool false) (.int .i64 0) aC fun bd aL ad cj=>I y0 (U .lss J false false aL ci) ad fun ck=>Split ck (@aB aS (fun cl be=>I y0 (U .add J false true aL (.int .i64 1)) be fun cm=>cj cl cm be) fun bf=>I y0 (x7 af bb aL) ad fun cn=>I y0 (x1 ae cn) ad fun cp=>Split bd (bf (.bool true) ad) (I y0 (U .gtr ae false true cp (.int .i64 0)) ad fun cq=>bf cq ad)) (I y0 (Z5 .not bd) ad fun cr=>Split cr (ba out ad) (bc (.int .i64 0) ad fun i ct cu=>@aB aS (fun cw aM=>Split cw (I y0 (U .add J false true i (.int .i64 1)) aM fun cz=>cu cz aM) (aQ aM fun aG=>I y0 (x1 aD aA) aG fun cA=>I y0 (c7 bn out (some i) none none) aG fun bg=>aa y0 (u9 bn 1 #[(0,cA)]) aG fun cB aN=>(Ext aG aN∨al y0 (c7 bn out (some i) none none) bg aN∧True)∧aa y0 (r9 #[bn,bn] bn #[cB,bg]) aN fun cC cD=>aa y0 (u9 bn 0 #[]) cD fun cE bh=>I y0 (c7 bn out none (some i) none) bh fun cF=>aa y0 (r9 #[bn,bn] bn #[cE,cF]) bh fun cG cH=>aa y0 (r9 #[bn,bn] bn #[cG,cC]) cH fun cI cJ=>ba cI cJ)) fun bi=>aQ ct fun ag=>I y0 (u6 #[bn] J #[out]) ag fun cK=>I y0 (U .lss J false false i cK) ag fun cL=>Split cL (I y0 (x7 bn out i) ag fun cM=>I y0 (x1 aD cM) ag fun cN=>I y0 (x1 aD aA) ag fun cO=>O y0 mC [cN,cO] ag fun cP cQ=>bi cP cQ) (bi (.bool false) ag)))) (ac out aw))):O y0 oh [V] Z ac:=aE Tryz.func165 rfl (by kernel_rfl) (by kernel_rfl) h
theorem ml.enter (h:@aB aS (fun t4 X=>ac t4 X) fun E=>I y0 (U .geq J false true ao (.int .i64 0)) Z fun Y=>Split Y (O y0 mD [V] Z fun aa W=>I y0 (U .lss J false false ao aa) W fun ab=>E ab W) (E (.bool false) Z)):O y0 ml [V,ao] Z ac:=aE Tryz.func166 rfl (by kernel_rfl) (by kernel_rfl) h
theorem iJ.enter (h:@aB aS (fun t4 W=>ac t4 W) fun J=>O y0 mE [ao] Z fun X E=>Split X (I y0 (U .geq ae false true V (.int .i64 0)) E fun t9=>Split t9 (I y0 (U .leq ae false false V ao) E fun Y=>J Y E) (J (.bool false) E)) (J (.bool false) E)):O y0 iJ [V,ao] Z ac:=aE Tryz.func167 rfl (by kernel_rfl) (by kernel_rfl) h
theorem jX.enter (h:I y0 (u6 #[ab] J #[V]) Z fun Y=>a8 (.int .i64 0) (.int .i64 0) Z fun t4 W E k=>I y0 (U .lss J false false W Y) E fun t9=>Split t9 (I y0 (x7 ab V W) E fun aa=>I y0 (x1 J aa) E fun ad=>hS y0 false ao [ad] E fun ae X=>Split ae (ac W X) (I y0 (U .add J false true W (.int .i64 1)) X fun af=>k t4 af X)) (ac (.int .i64 (-1)) E)):O y0 jX [V,ao] Z ac:=aE Tryz.func170 rfl (by kernel_rfl) (by kernel_rfl) h
theorem oi.enter (h:aa y0 (n9 aJ true (.tuple #[])) Z fun E X=>@aB aS (fun aj Y=>Split aj (I y0 (Z0 aJ #[]) Y fun ak=>aa y0 (x8 aJ E ak) Y fun _ ad=>I y0 (do loadVar aJ (←asAddr E)) ad fun r=>ac (.tuple #[r,(.int .i64 1)]) ad) (O y0 gX [V] Y fun al ae=>I y0 (Z0 aJ #[(0,al)]) ae fun am=>aa y0 (n9 aJ true (.tuple #[])) ae fun s ao=>aa y0 (x8 aJ s am) ao fun _ af=>I y0 (x1 aJ s) af fun ap=>O y0 iK [ap] af fun aq W=>I y0 (U .gtr J false true aq (.int .i64 4096)) W fun au=>Split au (I y0 (Z0 aJ #[]) W fun av=>aa y0 (x8 aJ E av) W fun _ ag=>I y0 (do loadVar aJ (←asAddr E)) ag fun aw=>ac (.tuple #[aw,(.int .i64 5)]) ag) (I y0 (x1 aJ s) W fun t22=>aa y0 (x8 aJ E t22) W fun _ ah=>I y0 (do loadVar aJ (←asAddr E)) ah fun ax=>ac (.tuple #[ax,(.int .i64 0)]) ah))) fun ai=>I y0 (u6 #[ab] J #[V]) X fun ay=>I y0 (U .gtr J false true ay (.int .i64 6)) X fun az=>Split az (ai (.bool true) X) (O y0 h0 [V,(.func (.func j1) #[] #[])] X fun aA aC=>ai aA aC)):O y0 oi [V] Z ac:=aE Tryz.func171 rfl (by kernel_rfl) (by kernel_rfl) h
theorem mm.enter (h:@aB dL (fun X=>I y0 (u6 #[af] J #[V]) X fun al=>I y0 (convert J hv al) X fun am=>I y0 (convert J hv ao) X fun ap=>O y0 oE [am,ap] X fun ad E=>I y0 (u5 ad 0) E fun aq=>I y0 (u5 ad 1) E fun ae=>@aB dL (fun ag=>I y0 (convert hv J ae) ag fun ah=>aa y0 (V8 af ah ah) ag fun W au=>aa y0 (u7.copy_ #[af,af] J #[W,V]) au fun av aw=>bc av aw fun n Y k=>I y0 (u6 #[af] J #[W]) Y fun ax=>I y0 (U .lss J false false n ax) Y fun ay=>Split ay (aQ Y fun ab=>I y0 (c7 af W (some n) none none) ab fun az=>I y0 (c7 af W none (some n) none) ab fun aA=>aa y0 (u7.copy_ #[af,af] J #[az,aA]) ab fun t45 ai=>I y0 (U .add J false false n t45) ai fun t46=>k t46 ai) (ac W Y)) fun aC=>@aB aS (fun aD aj=>Split aD (I y0 (Instr.makeInterface a1 (.string ⟨#[116,104,101,32,114,101,115,117,108,116,32,111,102,32,40,108,101,110,40,120,41,32,42,32,99,111,117,110,116,41,32,111,118,101,114,102,108,111,119,115]⟩)) aj fun _=>False) (aC aj)) fun ak=>I y0 (U .gtr hv false true aq (.int .u64 0)) E fun t22=>Split t22 (ak (.bool true) E) (I y0 (U .gtr hv false true ae (.int .u64 9223372036854775807)) E fun t25=>ak t25 E)) fun aF=>I y0 (U .lss J false true ao (.int .i64 0)) Z fun aG=>Split aG (I y0 (Instr.makeInterface a1 (.string ⟨#[99,97,110,110,111,116,32,98,101,32,110,101,103,97,116,105,118,101]⟩)) Z fun _=>False) (aF Z)):O y0 mm [V,ao] Z ac:=aE Tryz.func172 rfl (by kernel_rfl) (by kernel_rfl) h
theorem iK.enter (h:aa y0 (Z2 aJ V) Z fun Y W=>I y0 (x2 aJ Y 0) W fun ad=>I y0 (x1 ab ad) W fun X=>I y0 (u6 #[ab] J #[X]) W fun ae=>a8 (.int .i64 1) (.int .i64 0) W fun n t9 E k=>I y0 (U .lss J false false t9 ae) E fun af=>Split af (I y0 (x7 ab X t9) E fun ag=>I y0 (x1 J ag) E fun ah=>I y0 (U .mul J false false n ah) E fun ai=>I y0 (U .add J false true t9 (.int .i64 1)) E fun aj=>k ai aj E) (ac n E)):O y0 iK [V] Z ac:=aE Tryz.func173 rfl (by kernel_rfl) (by kernel_rfl) h
theorem mn.enter (h:I y0 (U .eql bA false true V (.pointer none)) Z fun W=>Split W (ac (.tuple #[(.int .i64 0),(.int .i64 2)]) Z) (I y0 (am V) Z fun t9=>I y0 (x2 bq t9 0) Z fun X=>I y0 (x1 aJ X) Z fun Y=>O y0 mq [Y,ao] Z fun J E=>I y0 (u5 J 0) E fun aa=>I y0 (u5 J 1) E fun ab=>ac (.tuple #[aa,ab]) E)):O y0 mn [V,ao] Z ac:=aE Tryz.func174 rfl (by kernel_rfl) (by kernel_rfl) h
theorem oj.enter (h:O y0 kZ [V] Z fun E I=>ac E I):O y0 oj [V] Z ac:=aE Tryz.func181 rfl (by kernel_rfl) (by kernel_rfl) h
theorem cmp_isNaN_int.enter (h:I y0 (U .neq J false false V V) Z fun t5=>ac t5 Z):O y0 cmp_isNaN_int [V] Z ac:=aE Tryz.func182 rfl (by kernel_rfl) (by kernel_rfl) h
theorem mo.enter (h:aa y0 (Z2 ab V) Z fun E W=>uS y0 ao W (fun X Y k=>Over Y fun J=>I y0 (x1 ab E) J fun ad=>aa y0 (u9 ab 1 #[(0,X)]) J fun ae af=>aa y0 (r9 #[ab,ab] ab #[ad,ae]) af fun ag ah=>aa y0 (x8 ab E ag) ah fun _ ai=>k .normal ai) (fun U=>I y0 (x1 ab E) U fun aj=>fY U fun ak=>ac aj ak) (fun _=>False) []):O y0 mo [V,ao] Z ac:=O.enter (P:=y0) mixed (show y0.funcs[mo]? =some Tryz.f183 from Tryz.func183) rfl (by kernel_rfl) (by kernel_rfl) (by kernel_rfl) (Eq.mp (by kernel_rfl) h)
theorem gv.enter (h:I y0 (x1 aJ ao) Z fun aa=>eA y0 iK [aa] Z fun ab ad=>bc (.int .i64 0) ad fun E O k=>I y0 (U .lss J false false E ab) O fun t9=>Split t9 (I y0 (x1 aJ ao) O fun ae=>eA y0 ol [ae,E] O fun Y X=>I y0 (u5 Y 0) X fun af=>I y0 (u5 Y 1) X fun _=>hS y0 true V [E,af] X fun ag W=>I y0 (Z5 .not ag) W fun ah=>Split ah (ac (.tuple #[]) W) (I y0 (U .add J false true E (.int .i64 1)) W fun t22=>k t22 W)) (ac (.tuple #[]) O)):eA y0 gv [V,ao] Z ac:=eA.enter (P:=y0) mixed (show y0.funcs[gv]? =some Tryz.f187 from Tryz.func187) rfl (by kernel_rfl) (by kernel_rfl) (by kernel_rfl) (Eq.mp (by kernel_rfl) h)
theorem ol.enter (h:aa y0 (Z2 aJ V) Z fun Y ad=>@aB aS (fun al W=>Split al (ac (.tuple #[(.slice none 0 0),(.int .i64 3)]) W) (I y0 (x2 aJ Y 0) W fun am=>I y0 (x1 ab am) W fun ap=>I y0 (u6 #[ab] J #[ap]) W fun ag=>aa y0 (V8 ab ag ag) W fun af ah=>I y0 (u6 #[ab] J #[af]) ah fun t22=>bc (.int .i64 0) ah fun X ae k=>I y0 (U .lss J false false X t22) ae fun aq=>Split aq (I y0 (x1 aJ Y) ae fun au=>O y0 oF [au,X] ae fun av aw=>aQ aw fun E=>I y0 (U .quo J false false ao av) E fun ax=>I y0 (x2 aJ Y 0) E fun ay=>I y0 (x1 ab ay) E fun az=>I y0 (x7 ab az X) E fun aA=>I y0 (x1 J aA) E fun aC=>I y0 (U .rem J false false ax aC) E fun t39=>I y0 (x7 ab af X) E fun aD=>aa y0 (x8 J aD t39) E fun _ ai=>I y0 (U .add J false true X (.int .i64 1)) ai fun aF=>k aF ai) (ac (.tuple #[af,(.int .i64 0)]) ae))) fun aj=>I y0 (U .lss J false true ao (.int .i64 0)) ad fun aG=>Split aG (aj (.bool true) ad) (I y0 (x1 aJ Y) ad fun aH=>O y0 iK [aH] ad fun aI ak=>I y0 (U .geq J false false ao aI) ak fun aK=>aj aK ak)):O y0 ol [V,ao] Z ac:=aE Tryz.func188 rfl (by kernel_rfl) (by kernel_rfl) h
theorem jY.enter (h:I y0 (U .eql af false true V (.slice none 0 0)) Z fun t4=>Split t4 (ac (.slice none 0 0) Z) (aa y0 (u9 af 0 #[]) Z fun t5 E=>aa y0 (r9 #[af,af] af #[t5,V]) E fun J W=>ac J W)):O y0 jY [V] Z ac:=aE Tryz.func191 rfl (by kernel_rfl) (by kernel_rfl) h
theorem om.enter (h:O y0 mD [V] Z fun ad W=>@aB dL (fun ae=>ac ad ae) fun Y=>@aB aS (fun af E=>Split af (I y0 (am V) E fun ag=>I y0 (x2 cR ag 0) E fun ah=>I y0 (x1 dm ah) E fun ai=>aa y0 (r9 #[dm,J] dm #[ai,ao]) E fun aj X=>I y0 (am V) X fun ak=>I y0 (x2 cR ak 0) X fun t22=>aa y0 (x8 dm t22 aj) X fun _ al=>Y al) (Y E)) fun ab=>I y0 (U .neq ep false true V (.pointer none)) W fun t9=>Split t9 (I y0 (U .gtr J false true ao (.int .i64 0)) W fun ap=>ab ap W) (ab (.bool false) W)):O y0 om [V,ao] Z ac:=aE Tryz.func192 rfl (by kernel_rfl) (by kernel_rfl) h
theorem oo.enter (h:I y0 (U .eql bA false true V (.pointer none)) Z fun t4=>Split t4 (ac (.pointer none) Z) (aQ Z fun E=>I y0 (am V) E fun W=>I y0 (x2 bq W 0) E fun X=>I y0 (x1 aJ X) E fun ad=>I y0 (am V) E fun Y=>I y0 (x2 bq Y 1) E fun ab=>I y0 (x1 ae ab) E fun ag=>I y0 (am V) E fun ah=>I y0 (x2 bq ah 2) E fun ai=>I y0 (x1 af ai) E fun aj=>O y0 jY [aj] E fun ak J=>(Ext E J∨al y0 (x1 ae ab) ag J∧al y0 (x2 bq Y 1) ab J∧al y0 (am V) Y J∧al y0 (x1 aJ X) ad J∧al y0 (x2 bq W 0) X J∧al y0 (am V) W J∧True)∧I y0 (Z0 bq #[(0,ad),(1,ag),(2,ak)]) J fun ao=>aa y0 (Z2 bq ao) J fun ap aq=>ac ap aq)):O y0 oo [V] Z ac:=aE Tryz.func193 rfl (by kernel_rfl) (by kernel_rfl) h
theorem mq.enter (h:aa y0 (Z2 aJ V) Z fun ad X=>I y0 (u6 #[ab] J #[ao]) X fun ag=>I y0 (x2 aJ ad 0) X fun ah=>I y0 (x1 ab ah) X fun ai=>I y0 (u6 #[ab] J #[ai]) X fun aj=>I y0 (U .neq J false false ag aj) X fun ak=>Split ak (ac (.tuple #[(.int .i64 0),(.int .i64 3)]) X) (I y0 (u6 #[ab] J #[ao]) X fun al=>lW (.int .i64 0) (.int .i64 0) (.int .i64 0) (.int .i64 0) X fun t4 t5 n Y E k=>I y0 (U .lss J false false Y al) E fun am=>Split am (I y0 (x7 ab ao Y) E fun ap=>I y0 (x1 J ap) E fun ae=>@aB aS (fun aq W=>Split aq (ac (.tuple #[(.int .i64 0),(.int .i64 3)]) W) (I y0 (x2 aJ ad 0) W fun au=>I y0 (x1 ab au) W fun av=>I y0 (x7 ab av Y) W fun aw=>I y0 (x1 J aw) W fun ax=>I y0 (U .mul J false false n ax) W fun t39=>I y0 (U .add J false false t39 ae) W fun ay=>I y0 (U .add J false true Y (.int .i64 1)) W fun az=>k t4 t5 ay az W)) fun af=>I y0 (U .lss J false true ae (.int .i64 0)) E fun aA=>Split aA (af (.bool true) E) (I y0 (x2 aJ ad 0) E fun aC=>I y0 (x1 ab aC) E fun aD=>I y0 (x7 ab aD Y) E fun aF=>I y0 (x1 J aF) E fun aG=>I y0 (U .geq J false false ae aG) E fun aH=>af aH E)) (ac (.tuple #[n,(.int .i64 0)]) E))):O y0 mq [V,ao] Z ac:=aE Tryz.func194 rfl (by kernel_rfl) (by kernel_rfl) h
theorem h0.enter (h:O y0 jX [V,ao] Z fun W E=>I y0 (U .geq J false true W (.int .i64 0)) E fun X=>ac X E):O y0 h0 [V,ao] Z ac:=aE Tryz.func196 rfl (by kernel_rfl) (by kernel_rfl) h
theorem oq.enter (h:I y0 (U .eql aV false true V (.slice none 0 0)) Z fun t4=>Split t4 (ac (.slice none 0 0) Z) (aa y0 (u9 aV 0 #[]) Z fun t5 E=>aa y0 (r9 #[aV,aV] aV #[t5,V]) E fun J W=>ac J W)):O y0 oq [V] Z ac:=aE Tryz.func197 rfl (by kernel_rfl) (by kernel_rfl) h
theorem ot.enter (h:aB (α:=x4→x4→x5→Prop) (fun(ad au:x4) (X:x5)=>I y0 (U .eql a1 false true ad (.string ⟨#[]⟩)) X fun av=>Split av (ac (.tuple #[(.int .i64 0),(.int .i64 4)]) X) (aa y0 (convert a1 aV ad) X fun af ag=>I y0 (u6 #[aV] J #[af]) ag fun t22=>lW (.int .i64 0) (.int .i64 0) (.int .i64 0) (.int .i64 0) ag fun ah t3 n Y W k=>I y0 (U .lss J false false Y t22) W fun aw=>Split aw (aB (α:=x4→x4→x4→x5→Prop) (fun(ax ay az:x4) (ai:x5)=>I y0 (U .add J false true Y (.int .i64 1)) ai fun t45=>k ax ay az t45 ai) fun aj=>I y0 (x7 aV af Y) W fun t25=>I y0 (x1 bb t25) W fun ab=>@aB aS (fun aA E=>Split aA (ac (.tuple #[(.int .i64 0),(.int .i64 4)]) E) (I y0 (U .sub bb false true ab (.int .u8 48)) E fun aC=>I y0 (convert bb ae aC) E fun ak=>I y0 (U .sub ae true false (.int .i64 4611686018427387904) ak) E fun aD=>I y0 (U .quo ae false true aD (.int .i64 10)) E fun t39=>I y0 (U .gtr ae false false n t39) E fun aF=>Split aF (aj ah t3 (.int .i64 4611686018427387904) E) (I y0 (U .mul ae true false (.int .i64 10) n) E fun aG=>I y0 (U .add ae false false aG ak) E fun aH=>aj ah t3 aH E))) fun al=>I y0 (U .lss bb false true ab (.int .u8 48)) W fun aI=>Split aI (al (.bool true) W) (I y0 (U .gtr bb false true ab (.int .u8 57)) W fun aJ=>al aJ W)) (I y0 (U .mul ae false false au n) W fun aK=>ac (.tuple #[aK,(.int .i64 0)]) W))) fun am=>@aB aS (fun aL ao=>Split aL (aQ ao fun ap=>I y0 (c7 a1 V (some (.int .i64 1)) none none) ap fun aM=>am aM (.int .i64 (-1)) ap) (am V (.int .i64 1) ao)) fun aq=>I y0 (U .neq a1 false true V (.string ⟨#[]⟩)) Z fun aN=>Split aN (I y0 (Y0 a1 V (.int .i64 0)) Z fun aO=>I y0 (U .eql bb false true aO (.int .u8 45)) Z fun aP=>aq aP Z) (aq (.bool false) Z)):O y0 ot [V] Z ac:=aE Tryz.func198 rfl (by kernel_rfl) (by kernel_rfl) h
theorem kX.enter (h:a8 (.slice none 0 0) (.int .i64 0) Z fun out i E k=>@aB aS (fun aj J=>Split aj (I y0 (U .sub ae false true bk (.int .i64 1)) J fun ak=>O y0 eB [V,(.int .i64 0),ak] J fun X W=>I y0 (u5 X 0) W fun t25=>I y0 (u5 X 1) W fun al=>@aB dL (fun am=>aa y0 (u9 af 1 #[(0,t25)]) am fun t39 ap=>aa y0 (r9 #[af,af] af #[out,t39]) ap fun aq Y=>I y0 (U .add ae false true i (.int .i64 1)) Y fun au=>k aq au Y) fun ab=>@aB aS (fun av ad=>Split av (O y0 fk [V,(.int .i64 4),al] ad fun _ aw=>ab aw) (ab ad)) fun ag=>O y0 ed [V] W fun ax ah=>Split ax (O y0 oG [out,t25] ah fun ay az=>ag ay az) (ag (.bool false) ah)) (ac out J)) fun ai=>I y0 (U .lss ae false false i ao) E fun aA=>Split aA (O y0 ed [V] E fun aC aD=>ai aC aD) (ai (.bool false) E)):O y0 kX [V,ao,bk] Z ac:=aE Tryz.func199 rfl (by kernel_rfl) (by kernel_rfl) h
theorem mr.enter (h:I y0 (u6 #[af] J #[V]) Z fun Y=>hV (.bool false) (.int .i64 1) (.int .i64 0) Z fun aa n W E k=>I y0 (U .lss J false false W Y) E fun t9=>Split t9 (I y0 (x7 af V W) E fun ab=>I y0 (x1 ae ab) E fun ad=>I y0 (u7.min_ #[ae,ae] ae #[ad,(.int .i64 4097)]) E fun ag=>I y0 (U .mul ae false false n ag) E fun X=>I y0 (U .gtr ae false true X (.int .i64 4096)) E fun ah=>Split ah (ac (.bool true) E) (I y0 (U .add J false true W (.int .i64 1)) E fun ai=>k aa X ai E)) (ac (.bool false) E)):O y0 mr [V] Z ac:=aE Tryz.func200 rfl (by kernel_rfl) (by kernel_rfl) h
theorem ou.enter (h:O y0 eB [V,(.int .i64 (-4611686018427387904)),(.int .i64 4611686018427387904)] Z fun av aj=>I y0 (u5 av 0) aj fun X=>I y0 (u5 av 1) aj fun t22=>@aB aS (fun aN E=>Split aN (@aB aS (fun aO W=>Split aO (O y0 fk [V,(.int .i64 4),t22] W fun _ aP=>ac (.slice none 0 0) aP) (I y0 (am V) W fun aQ=>I y0 (x2 bi aQ 3) W fun aR=>I y0 (x1 dy aR) W fun aT=>I y0 (Z5 .neg X) W fun aU=>I y0 (U .sub ae false true aU (.int .i64 1)) W fun aV=>I y0 (x7 dy aT aV) W fun aW=>I y0 (x2 gb aW 1) W fun aX=>I y0 (x1 ef aX) W fun aY=>ac aY W)) fun aw=>I y0 (Z5 .neg X) E fun aZ=>I y0 (am V) E fun a2=>I y0 (x2 bi a2 3) E fun a6=>I y0 (x1 dy a6) E fun a7=>I y0 (u6 #[dy] J #[a7]) E fun ba=>I y0 (U .gtr ae false false aZ ba) E fun bb=>Split bb (aw (.bool true) E) (I y0 (am V) E fun t39=>I y0 (x2 bi t39 3) E fun bc=>I y0 (x1 dy bc) E fun bd=>I y0 (Z5 .neg X) E fun be=>I y0 (U .sub ae false true be (.int .i64 1)) E fun bf=>I y0 (x7 dy bd bf) E fun t45=>I y0 (x2 gb t45 0) E fun t46=>I y0 (x1 af t46) E fun bg=>O y0 l3 [bg,ao] E fun bh ax=>I y0 (Z5 .not bh) ax fun t50=>aw t50 ax)) (I y0 (am V) E fun bj=>I y0 (x2 bi bj 2) E fun bk=>I y0 (x1 ae bk) E fun bl=>I y0 (U .add ae false false bl X) E fun bm=>I y0 (u7.min_ #[ae,ae] ae #[bm,(.int .i64 4611686018427387904)]) E fun bn=>I y0 (am V) E fun bo=>I y0 (x2 bi bo 2) E fun bp=>aa y0 (x8 ae bp bn) E fun _ ab=>I y0 (am V) ab fun t77=>I y0 (x2 bi t77 2) ab fun bq=>I y0 (x1 ae bq) ab fun br=>I y0 (U .gtr ae false true br (.int .i64 16384)) ab fun bt=>O y0 fx [V,bt,t22] ab fun _ bu=>aa y0 (Instr.makeMap eD none) bu fun ak bw=>a8 (.slice none 0 0) (.int .i64 0) bw fun out i al k=>@aB aS (fun bx ay=>Split bx (aa y0 (n9 cB true (.tuple #[])) ay fun x az=>I y0 (u6 #[af] J #[ao]) az fun bz=>a8 (.string ⟨#[]⟩) (.int .i64 0) az fun key ap Y bA=>I y0 (U .lss J false false ap bz) Y fun bB=>Split bB (I y0 (x7 af ao ap) Y fun bC=>I y0 (x1 ae bC) Y fun bD=>I y0 (U .sub ae false true bD (.int .i64 1)) Y fun bE=>O y0 eB [V,(.int .i64 0),bE] Y fun aA ad=>I y0 (u5 aA 0) ad fun aC=>I y0 (u5 aA 1) ad fun _=>I y0 (x2 cB x 0) ad fun bF=>I y0 (x1 af bF) ad fun bG=>aa y0 (u9 af 1 #[(0,aC)]) ad fun bH bI=>aa y0 (r9 #[af,af] af #[bG,bH]) bI fun bJ aD=>I y0 (x2 cB x 0) aD fun bK=>aa y0 (x8 af bK bJ) aD fun _ bL=>O y0 k0 [aC] bL fun bM ag=>I y0 (U .add a1 false true bM (.string ⟨#[32]⟩)) ag fun bN=>I y0 (U .add a1 false false key bN) ag fun bO=>I y0 (U .add J false true ap (.int .i64 1)) ag fun bP=>bA bO bP ag) (O y0 eB [V,(.int .i64 0),(.int .i64 4611686018427387904)] Y fun aF ah=>I y0 (u5 aF 0) ah fun bQ=>I y0 (u5 aF 1) ah fun bR=>I y0 (x2 cB x 1) ah fun bS=>aa y0 (x8 ae bS bQ) ah fun _ bT=>@aB dL (fun aq=>I y0 (V3 eD ak key false) aq fun bU=>I y0 (U .add J false true bU (.int .i64 1)) aq fun bV=>aa y0 (Instr.mapUpdate eD ak key bV) aq fun _ aG=>I y0 (x1 cB x) aG fun bW=>aa y0 (u9 ef 1 #[(0,bW)]) aG fun bX bY=>aa y0 (r9 #[ef,ef] ef #[out,bX]) bY fun bZ aH=>I y0 (U .add ae false true i (.int .i64 1)) aH fun b1=>k bZ b1 aH) fun aI=>@aB aS (fun b2 aJ=>Split b2 (O y0 fk [V,(.int .i64 4),bR] aJ fun _ b3=>aI b3) (aI aJ)) fun aK=>O y0 ed [V] bT fun b4 ai=>Split b4 (I y0 (V3 eD ak key false) ai fun b5=>I y0 (U .gtr J false true b5 (.int .i64 0)) ai fun b6=>aK b6 ai) (aK (.bool false) ai))) (ac out ay)) fun aL=>I y0 (U .lss ae false false i X) al fun b7=>Split b7 (O y0 ed [V] al fun b8 b9=>aL b8 b9) (aL (.bool false) al))) fun aM=>O y0 ed [V] aj fun ca au=>Split ca (I y0 (U .lss ae false true X (.int .i64 0)) au fun cb=>aM cb au) (aM (.bool false) au)):O y0 ou [V,ao] Z ac:=aE Tryz.func201 rfl (by kernel_rfl) (by kernel_rfl) h
theorem ov.enter (h:I y0 (am V) Z fun t5=>I y0 (x2 du t5 1) Z fun Y=>I y0 (x1 J Y) Z fun aa=>bc aa Z fun i E k=>@aB aS (fun ab W=>Split ab (I y0 (U .add J false true i (.int .i64 1)) W fun ad=>k ad W) (ac i W)) fun X=>I y0 (am V) E fun ae=>I y0 (x2 du ae 0) E fun af=>I y0 (x1 aV af) E fun ag=>I y0 (u6 #[aV] J #[ag]) E fun ah=>I y0 (U .lss J false false i ah) E fun ai=>Split ai (I y0 (am V) E fun aj=>I y0 (x2 du aj 0) E fun ak=>I y0 (x1 aV ak) E fun al=>I y0 (x7 aV al i) E fun ao=>I y0 (x1 bb ao) E fun t22=>O y0 mu [t22] E fun ap aq=>X ap aq) (X (.bool false) E)):O y0 ov [V] Z ac:=aE Tryz.func202 rfl (by kernel_rfl) (by kernel_rfl) h
theorem ow.enter (h:@aB aS (fun J W=>ac J W) fun E=>I y0 (U .geq bb false true V (.int .u8 33)) Z fun t4=>Split t4 (I y0 (U .leq bb false true V (.int .u8 126)) Z fun X=>E X Z) (E (.bool false) Z)):O y0 ow [V] Z ac:=aE Tryz.func203 rfl (by kernel_rfl) (by kernel_rfl) h
theorem mu.enter (h:@aB aS (fun J W=>ac J W) fun E=>I y0 (U .eql bb false true V (.int .u8 32)) Z fun t4=>Split t4 (E (.bool true) Z) (I y0 (U .eql bb false true V (.int .u8 9)) Z fun X=>Split X (E (.bool true) Z) (I y0 (U .eql bb false true V (.int .u8 10)) Z fun Y=>Split Y (E (.bool true) Z) (I y0 (U .eql bb false true V (.int .u8 13)) Z fun aa=>E aa Z)))):O y0 mu [V] Z ac:=aE Tryz.func204 rfl (by kernel_rfl) (by kernel_rfl) h
theorem fz.enter (h:@aB aS (fun t9 W=>Split t9 (ac (.tuple #[(.pointer none),(.int .i64 1)]) W) (O y0 iJ [bk,ao] W fun ad E=>I y0 (Z5 .not ad) E fun t22=>Split t22 (ac (.tuple #[(.pointer none),(.int .i64 3)]) E) (O y0 gX [V] E fun ae af=>aa y0 (Instr.makeMap dC none) af fun ag X=>I y0 (Z0 cL #[(0,ae),(1,ao),(2,bk),(3,ag)]) X fun ah=>aa y0 (Z2 cL ah) X fun ai aj=>ac (.tuple #[ai,(.int .i64 0)]) aj))) fun Y=>I y0 (u6 #[ab] J #[V]) Z fun ak=>I y0 (U .gtr J false true ak (.int .i64 6)) Z fun al=>Split al (Y (.bool true) Z) (O y0 h0 [V,(.func (.func j2) #[] #[])] Z fun am ap=>Y am ap)):O y0 fz [V,ao,bk] Z ac:=aE Tryz.func205 rfl (by kernel_rfl) (by kernel_rfl) h
theorem mv.enter (h:O y0 oH [V,ao] Z fun ab Y=>I y0 (u5 ab 0) Y fun ag=>I y0 (u5 ab 1) Y fun ad=>aa y0 (n9 bh true (.tuple #[])) Y fun x ah=>aa y0 (x8 bh x ag) ah fun _ J=>@aB aS (fun _ ai=>ac (.int .i64 0) ai) fun af=>I y0 (U .neq cb false true ad (.int .i64 0)) J fun aj=>Split aj (ac ad J) (I y0 (am V) J fun ak=>I y0 (x2 cL ak 1) J fun al=>I y0 (x1 ae al) J fun ap=>O y0 iJ [bk,ap] J fun aq E=>I y0 (Z5 .not aq) E fun au=>Split au (ac (.int .i64 3) E) (I y0 (am V) E fun av=>I y0 (x2 cL av 2) E fun aw=>I y0 (x1 ae aw) E fun ax=>I y0 (U .eql ae false false bk ax) E fun t39=>Split t39 (aQ E fun W=>I y0 (am V) W fun ay=>I y0 (x2 cL ay 3) W fun az=>I y0 (x1 dC az) W fun aA=>I y0 (x1 bh x) W fun aC=>aa y0 (u7.delete_ #[dC,bh] qJ #[aA,aC]) W fun _ aD=>af (.int .i64 0) aD) (aQ E fun X=>I y0 (am V) X fun aF=>I y0 (x2 cL aF 3) X fun aG=>I y0 (x1 dC aG) X fun aH=>I y0 (x1 bh x) X fun aI=>aa y0 (Instr.mapUpdate dC aH aI bk) X fun _ aJ=>af (.int .i64 0) aJ)))):O y0 mv [V,ao,bk] Z ac:=aE Tryz.func206 rfl (by kernel_rfl) (by kernel_rfl) h
theorem ox.enter (h:aB (α:=x4→x4→x5→Prop) (fun(X av:x4) (Y:x5)=>I y0 (u6 #[a1] J #[X]) Y fun aw=>I y0 (U .eql J false true aw (.int .i64 0)) Y fun ax=>Split ax (ac (.tuple #[(.int .i64 0),(.int .i64 4)]) Y) (jj (.int .i64 0) (.int .i64 0) (.int .u64 0) (.bool false) (.int .i64 0) Y fun ag t3 n ah i E k=>I y0 (u6 #[a1] J #[X]) E fun ay=>I y0 (U .lss J false false i ay) E fun az=>Split az (aB (α:=x4→x4→x4→x4→x5→Prop) (fun(aA aC aD aF:x4) (ai:x5)=>I y0 (U .add J false true i (.int .i64 1)) ai fun aG=>k aA aC aD aF aG ai) fun aj=>@aB aS (fun aH aa=>Split aH (ac (.tuple #[(.int .i64 0),(.int .i64 4)]) aa) (@aB aS (fun ab W=>I y0 (Z5 .not ab) W fun aI=>Split aI (I y0 (U .mul bD true false (.int .u64 10) n) W fun aJ=>I y0 (Y0 a1 X i) W fun t45=>I y0 (U .sub bb false true t45 (.int .u8 48)) W fun t46=>I y0 (convert bb bD t46) W fun aK=>I y0 (U .add bD false false aJ aK) W fun aL=>aj ag t3 aL ab W) (aj ag t3 n ab W)) fun ak=>I y0 (U .gtr bD false true n (.int .u64 461168601842738790)) aa fun aM=>Split aM (ak (.bool true) aa) (ak ah aa))) fun al=>I y0 (Y0 a1 X i) E fun aN=>I y0 (U .lss bb false true aN (.int .u8 48)) E fun aO=>Split aO (al (.bool true) E) (I y0 (Y0 a1 X i) E fun aP=>I y0 (U .gtr bb false true aP (.int .u8 57)) E fun aQ=>al aQ E)) (@aB aS (fun aR ad=>I y0 (convert bD ae aR) ad fun aT=>I y0 (U .mul ae false false av aT) ad fun aU=>ac (.tuple #[aU,(.int .i64 0)]) ad) fun am=>@aB aS (fun t53 ao=>Split t53 (am (.int .u64 4611686018427387904) ao) (am n ao)) fun ap=>Split ah (ap (.bool true) E) (I y0 (U .gtr bD false true n (.int .u64 4611686018427387904)) E fun aV=>ap aV E)))) fun aq=>@aB aS (fun aW af=>Split aW (I y0 (c7 a1 V (some (.int .i64 1)) none none) af fun aX=>aq aX (.int .i64 (-1)) af) (aq V (.int .i64 1) af)) fun au=>I y0 (u6 #[a1] J #[V]) Z fun t9=>I y0 (U .gtr J false true t9 (.int .i64 0)) Z fun aY=>Split aY (I y0 (Y0 a1 V (.int .i64 0)) Z fun aZ=>I y0 (U .eql bb false true aZ (.int .u8 45)) Z fun a2=>au a2 Z) (au (.bool false) Z)):O y0 ox [V] Z ac:=aE Tryz.func207 rfl (by kernel_rfl) (by kernel_rfl) h
theorem iL.enter (h:I y0 (u6 #[af] J #[V]) Z fun Y=>I y0 (u6 #[af] J #[ao]) Z fun t9=>I y0 (U .neq J false false Y t9) Z fun aa=>Split aa (ac (.bool false) Z) (I y0 (u6 #[af] J #[V]) Z fun ab=>a8 (.bool false) (.int .i64 0) Z fun t4 W X k=>I y0 (U .lss J false false W ab) X fun ad=>Split ad (aQ X fun E=>I y0 (x7 af V W) E fun ag=>I y0 (x1 ae ag) E fun ah=>I y0 (x7 af ao W) E fun t22=>I y0 (x1 ae t22) E fun ai=>I y0 (U .neq ae false false ah ai) E fun aj=>Split aj (ac (.bool false) E) (I y0 (U .add J false true W (.int .i64 1)) E fun t25=>k t4 t25 E)) (ac (.bool true) X))):O y0 iL [V,ao] Z ac:=aE Tryz.func208 rfl (by kernel_rfl) (by kernel_rfl) h
theorem oy.enter (h:I y0 (U .eql mO false true V (.pointer none)) Z fun aD=>Split aD (ac (.int .i64 2) Z) (@aB aS (fun aF E=>Split aF (ac (.int .i64 1) E) (@aB aS (fun aG ag=>I y0 (am V) ag fun aH=>I y0 (x2 bf aH 3) ag fun t76=>I y0 (x1 bJ t76) ag fun t77=>I y0 (u6 #[bJ] J #[t77]) ag fun aI=>hV (.int .i64 0) aG (.int .i64 0) ag fun lines aq ak X k=>I y0 (U .lss J false false ak aI) X fun aJ=>Split aJ (aB (α:=x4→x4→x5→Prop) (fun(aK aL:x4) (au:x5)=>I y0 (U .add J false true ak (.int .i64 1)) au fun aM=>k aK aL aM au) fun av=>I y0 (x7 bJ t77 ak) X fun aN=>I y0 (x1 bg aN) X fun aO=>aa y0 (n9 bg true (.tuple #[])) X fun x aP=>aa y0 (x8 bg x aO) aP fun _ al=>I y0 (x2 bg x 1) al fun aQ=>I y0 (x1 b5 aQ) al fun aR=>O y0 oK [aR] al fun aT aj=>I y0 (U .add J false false lines aT) aj fun aw=>I y0 (x2 bg x 1) aj fun aU=>I y0 (x1 b5 aU) aj fun aV=>O y0 k3 [aV] aj fun ax ay=>I y0 (u6 #[ab] J #[ax]) ay fun aW=>a8 (.slice none 0 0) (.int .i64 0) ay fun sizes ao ad aX=>I y0 (U .lss J false false ao aW) ad fun aY=>Split aY (I y0 (x7 ab ax ao) ad fun aZ=>I y0 (x1 J aZ) ad fun a2=>aa y0 (u9 af 1 #[(0,a2)]) ad fun a6 a7=>aa y0 (r9 #[af,af] af #[sizes,a6]) a7 fun ba az=>I y0 (U .add J false true ao (.int .i64 1)) az fun bb=>aX ba bb az) (Split aq (av aw (.bool true) ad) (O y0 mr [sizes] ad fun bc bd=>av aw bc bd))) (@aB aS (fun be aA=>Split be (ac (.int .i64 5) aA) (ac (.int .i64 0) aA)) fun aC=>Split aq (aC (.bool true) X) (I y0 (U .gtr J false true lines (.int .i64 16384)) X fun bh=>aC bh X))) fun ap=>I y0 (am V) E fun t53=>I y0 (x2 bf t53 0) E fun bi=>I y0 (x1 a1 bi) E fun t55=>I y0 (u6 #[a1] J #[t55]) E fun bj=>I y0 (U .gtr J false true bj (.int .i64 64)) E fun bk=>Split bk (ap (.bool true) E) (I y0 (am V) E fun bl=>I y0 (x2 bf bl 2) E fun bm=>I y0 (x1 ab bm) E fun bn=>I y0 (u6 #[ab] J #[bn]) E fun bo=>I y0 (U .gtr J false true bo (.int .i64 64)) E fun bp=>Split bp (ap (.bool true) E) (I y0 (am V) E fun bq=>I y0 (x2 bf bq 3) E fun br=>I y0 (x1 bJ br) E fun t70=>I y0 (u6 #[bJ] J #[t70]) E fun bt=>I y0 (U .gtr J false true bt (.int .i64 256)) E fun bu=>ap bu E)))) fun ah=>I y0 (am V) Z fun bw=>I y0 (x2 bf bw 0) Z fun bx=>I y0 (x1 a1 bx) Z fun bz=>O y0 oI [bz] Z fun bA W=>I y0 (Z5 .not bA) W fun bB=>Split bB (ah (.bool true) W) (I y0 (am V) W fun bC=>I y0 (x2 bf bC 2) W fun t22=>I y0 (x1 ab t22) W fun bD=>I y0 (u6 #[ab] J #[bD]) W fun bE=>I y0 (U .eql J false true bE (.int .i64 0)) W fun t25=>Split t25 (ah (.bool true) W) (I y0 (am V) W fun bF=>I y0 (x2 bf bF 2) W fun bG=>I y0 (x1 ab bG) W fun bH=>O y0 h0 [bH,(.func (.func k1) #[] #[])] W fun bI ai=>Split bI (ah (.bool true) ai) (I y0 (am V) ai fun bK=>I y0 (x2 bf bK 1) ai fun bL=>I y0 (x1 ae bL) ai fun t39=>O y0 mE [t39] ai fun bM Y=>I y0 (Z5 .not bM) Y fun bN=>Split bN (ah (.bool true) Y) (I y0 (am V) Y fun t45=>I y0 (x2 bf t45 3) Y fun t46=>I y0 (x1 bJ t46) Y fun bO=>I y0 (Instr.makeFunc (.func k2) #[V] #[]) Y fun bP=>O y0 oJ [bO,bP] Y fun t50 bQ=>ah t50 bQ)))))):O y0 oy [V] Z ac:=aE Tryz.func209 rfl (by kernel_rfl) (by kernel_rfl) h
theorem oz.enter (h:aa y0 (Z2 bg V) Z fun ad ae=>I y0 (x2 bg ad 1) ae fun ap=>I y0 (x1 b5 ap) ae fun aq=>O y0 mj [aq] ae fun ag W=>I y0 (u5 ag 0) W fun au=>I y0 (u5 ag 1) W fun _=>I y0 (x2 bg ad 0) W fun av=>I y0 (x1 ab av) W fun aw=>O y0 j7 [aw] W fun ax ay=>O y0 j3 [ax] ay fun X ah=>I y0 (u6 #[ab] J #[X]) ah fun ai=>aa y0 (V8 ab ai ai) ah fun aj ak=>I y0 (u6 #[ab] J #[X]) ak fun az=>bc (.int .i64 0) ak fun Y E k=>I y0 (U .lss J false false Y az) E fun aA=>Split aA (I y0 (x7 ab X Y) E fun aB=>I y0 (x1 J aB) E fun aC=>I y0 (x2 bg ad 0) E fun aD=>I y0 (x1 ab aD) E fun aF=>O y0 hZ [aF,aC] E fun aG al=>I y0 (x7 ab aj Y) al fun aH=>aa y0 (x8 J aH aG) al fun _ am=>I y0 (U .add J false true Y (.int .i64 1)) am fun t39=>k t39 am) (O y0 mF [au,aj] E fun ao af=>I y0 (u5 ao 0) af fun aI=>I y0 (u5 ao 1) af fun _=>ac (.tuple #[X,aI]) af)):O y0 oz [V] Z ac:=aE Tryz.func210 rfl (by kernel_rfl) (by kernel_rfl) h
theorem jZ.enter (h:I y0 (u6 #[cX] J #[V]) Z fun Y=>a8 (.int .i64 0) (.int .i64 0) Z fun t4 W E k=>I y0 (U .lss J false false W Y) E fun t9=>Split t9 (I y0 (x7 cX V W) E fun aa=>I y0 (x1 bB aa) E fun ab=>hS y0 false ao [ab] E fun ad X=>Split ad (ac W X) (I y0 (U .add J false true W (.int .i64 1)) X fun ae=>k t4 ae X)) (ac (.int .i64 (-1)) E)):O y0 jZ [V,ao] Z ac:=aE Tryz.func211 rfl (by kernel_rfl) (by kernel_rfl) h
theorem mw.enter (h:aa y0 (Z2 bB V) Z fun J E=>I y0 (x2 bB J 0) E fun t4=>I y0 (x1 ab t4) E fun t5=>I y0 (x1 ab ao) E fun U=>O y0 me [t5,U] E fun W X=>ac W X):O y0 mw [V,ao] Z ac:=aE Tryz.func212 rfl (by kernel_rfl) (by kernel_rfl) h
theorem gv.enters:Enters y0 gv:=Enters.of y0 (show y0.funcs[gv]? =some Tryz.f187 from Tryz.func187) rfl (by kernel_rfl)
end
section
variable {Z:x5} {ac:aS} {V ao bk fO jr k6 k7 k8 k9 la lb ld:x4}
theorem my.enter (h:aa y0 (Z2 bA V) Z fun X aX=>aa y0 (Z2 ab ao) aX fun aq aY=>aa y0 (Z2 bA bk) aY fun ad aZ=>aa y0 (Z2 ab fO) aZ fun au ag=>@aB aS (fun a1 av=>Split a1 (fY av fun a2=>ac (.tuple #[(.pointer none),(.slice none 0 0),(.int .i64 2)]) a2) (@aB aS (fun a6 aw=>Split a6 (fY aw fun a7=>ac (.tuple #[(.pointer none),(.slice none 0 0),(.int .i64 1)]) a7) (I y0 (x1 ab aq) aw fun a8=>I y0 (x1 ab au) aw fun t39=>aa y0 (u9 cq 2 #[(0,a8),(1,t39)]) aw fun ba bb=>O y0 oM [ba] bb fun bc bd=>O y0 j7 [bc] bd fun be bf=>O y0 j3 [be] bf fun bg bh=>O y0 oL [bg] bh fun bi bj=>aa y0 (n9 ab true (.tuple #[])) bj fun vars bl=>aa y0 (x8 ab vars bi) bl fun _ ah=>I y0 (x1 ab vars) ah fun t46=>I y0 (x1 bA X) ah fun bm=>I y0 (x1 ab aq) ah fun bn=>I y0 (x1 bA ad) ah fun bo=>I y0 (x1 ab au) ah fun t50=>O y0 oN [t46,bm,bn,bo,t50] ah fun aH ai=>I y0 (u5 aH 0) ai fun bp=>I y0 (u5 aH 1) ai fun t53=>I y0 (Z5 .not t53) ai fun br=>Split br (fY ai fun bt=>ac (.tuple #[(.pointer none),(.slice none 0 0),(.int .i64 1)]) bt) (aQ ai fun E=>I y0 (x1 bA X) E fun bu=>I y0 (am bu) E fun bw=>I y0 (x2 bq bw 1) E fun bx=>I y0 (x1 ae bx) E fun bz=>I y0 (x1 bA ad) E fun bB=>I y0 (am bB) E fun bC=>I y0 (x2 bq bC 1) E fun bD=>I y0 (x1 ae bD) E fun bE=>I y0 (U .neq ae false false bz bE) E fun t66=>Split t66 (fY E fun bF=>ac (.tuple #[(.pointer none),(.slice none 0 0),(.int .i64 3)]) bF) (I y0 (x1 bA X) E fun bG=>I y0 (am bG) E fun t70=>I y0 (x2 bq t70 1) E fun bH=>I y0 (x1 ae bH) E fun bI=>O y0 kS [bp,bI,(.int .i64 0)] E fun aI ax=>I y0 (u5 aI 0) ax fun bJ=>I y0 (u5 aI 1) ax fun aK=>aa y0 (n9 bA true (.tuple #[])) ax fun t bK=>aa y0 (x8 bA t bJ) bK fun _ Y=>I y0 (U .neq cb false true aK (.int .i64 0)) Y fun t77=>Split t77 (fY Y fun bL=>ac (.tuple #[(.pointer none),(.slice none 0 0),aK]) bL) (I y0 (x1 bA t) Y fun bM=>I y0 (am bM) Y fun bN=>I y0 (x2 bq bN 0) Y fun bO=>I y0 (x1 aJ bO) Y fun bP=>O y0 kU [bP] Y fun bQ bR=>sB y0 bQ bR (fun bS aL bT k=>Over bT fun bU=>aQ bU fun aj=>I y0 (x1 bA X) aj fun aM=>I y0 (x1 ab vars) aj fun bV=>I y0 (x1 ab aq) aj fun bW=>O y0 mH [aL,bV,bW] aj fun bX ay=>(Ext aj ay∨al y0 (x1 bA X) aM ay∧True)∧O y0 k4 [aM,bX] ay fun aN az=>I y0 (u5 aN 0) az fun bY=>I y0 (u5 aN 1) az fun _=>aQ az fun ak=>I y0 (x1 bA ad) ak fun aO=>I y0 (x1 ab vars) ak fun bZ=>I y0 (x1 ab au) ak fun b1=>O y0 mH [aL,bZ,b1] ak fun b2 aA=>(Ext ak aA∨al y0 (x1 bA ad) aO aA∧True)∧O y0 k4 [aO,b2] aA fun aP aC=>I y0 (u5 aP 0) aC fun b3=>I y0 (u5 aP 1) aC fun _=>aQ aC fun J=>I y0 (x1 bA t) J fun aD=>I y0 (am aD) J fun aE=>I y0 (x2 bq aE 2) J fun aF=>I y0 (x1 af aF) J fun aR=>I y0 (x1 bA t) J fun b4=>I y0 (am b4) J fun b5=>I y0 (x2 bq b5 1) J fun b6=>I y0 (x1 ae b6) J fun b7=>O y0 jn [bY,b3,b7] J fun aT W=>(Ext J W∨al y0 (x1 af aF) aR W∧al y0 (x2 bq aE 2) aF W∧al y0 (am aD) aE W∧al y0 (x1 bA t) aD W∧True)∧I y0 (u5 aT 0) W fun b8=>I y0 (u5 aT 1) W fun _=>I y0 (x7 af aR bS) W fun b9=>aa y0 (x8 ae b9 b8) W fun _ ca=>k .normal ca) (fun cc=>aQ cc fun aG=>I y0 (x1 bA t) aG fun cd=>I y0 (x1 ab vars) aG fun ce=>fY aG fun cg=>ac (.tuple #[cd,ce,(.int .i64 0)]) cg) (fun _=>False) []))))) fun aU=>I y0 (x1 bA X) av fun ch=>I y0 (x1 ab aq) av fun ci=>O y0 mG [ch,ci] av fun cj ap=>I y0 (Z5 .not cj) ap fun ck=>Split ck (aU (.bool true) ap) (I y0 (x1 bA ad) ap fun cl=>I y0 (x1 ab au) ap fun cm=>O y0 mG [cl,cm] ap fun cn aV=>I y0 (Z5 .not cn) aV fun cp=>aU cp aV))) fun aW=>I y0 (x1 bA X) ag fun t22=>I y0 (U .eql bA false true t22 (.pointer none)) ag fun cr=>Split cr (aW (.bool true) ag) (I y0 (x1 bA ad) ag fun t25=>I y0 (U .eql bA false true t25 (.pointer none)) ag fun ct=>aW ct ag)):O y0 my [V,ao,bk,fO] Z ac:=O.enter (P:=y0) mixed (show y0.funcs[my]? =some Tryz.f213 from Tryz.func213) rfl (by kernel_rfl) (by kernel_rfl) (by kernel_rfl) (Eq.mp (by kernel_rfl) h)
theorem jp.enter (h:aa y0 (Z2 bB V) Z fun U E=>I y0 (x2 bB U 1) E fun t3=>I y0 (x1 bA t3) E fun t4=>O y0 hs [t4] E fun t5 W=>O y0 oA [t5,(.func (.func kY) #[] #[])] W fun X J=>I y0 (Z5 .not X) J fun Y=>ac Y J):O y0 jp [V] Z ac:=aE Tryz.func214 rfl (by kernel_rfl) (by kernel_rfl) h
theorem oA.enter (h:O y0 qD [V,ao] Z fun W E=>I y0 (U .geq J false true W (.int .i64 0)) E fun X=>ac X E):O y0 oA [V,ao] Z ac:=aE Tryz.func215 rfl (by kernel_rfl) (by kernel_rfl) h
theorem kY.enter (h:I y0 (U .gtr ae false true V (.int .i64 0)) Z fun t4=>ac t4 Z):O y0 kY [V] Z ac:=aE Tryz.func216 rfl (by kernel_rfl) (by kernel_rfl) h
theorem oB.enter (h:O y0 jZ [V,ao] Z fun Y X=>I y0 (U .eql J false true Y (.int .i64 (-1))) X fun ah=>Split ah (ac V X) (I y0 (U .add J false true Y (.int .i64 1)) X fun ai=>a8 Y ai X fun i j E k=>I y0 (u6 #[cX] J #[V]) E fun aj=>I y0 (U .lss J false false j aj) E fun ak=>Split ak (@aB aS (fun al ab=>I y0 (U .add J false true j (.int .i64 1)) ab fun am=>k al am ab) fun ad=>I y0 (x7 cX V j) E fun ap=>I y0 (x1 bB ap) E fun t25=>aa y0 (n9 bB true (.tuple #[])) E fun v aq=>aa y0 (x8 bB v t25) aq fun _ ae=>I y0 (x1 bB v) ae fun au=>hS y0 false ao [au] ae fun av W=>I y0 (Z5 .not av) W fun aw=>Split aw (I y0 (x1 bB v) W fun ax=>I y0 (x7 cX V i) W fun ay=>aa y0 (x8 bB ay ax) W fun _ af=>I y0 (U .add J false true i (.int .i64 1)) af fun az=>ad az af) (ad i W)) (I y0 (c7 cX V (some i) none none) E fun aA=>aa y0 (u7.clear_ #[cX] qJ #[aA]) E fun _ ag=>I y0 (c7 cX V none (some i) none) ag fun aC=>ac aC ag))):O y0 oB [V,ao] Z ac:=aE Tryz.func217 rfl (by kernel_rfl) (by kernel_rfl) h
theorem mz.enter (h:aa y0 (Z2 bB V) Z fun W ag=>aa y0 (Z2 bB ao) ag fun X ah=>aQ ah fun E=>I y0 (x2 bB W 0) E fun t5=>I y0 (x1 ab t5) E fun ai=>I y0 (u6 #[ab] J #[ai]) E fun aj=>I y0 (x2 bB X 0) E fun ak=>I y0 (x1 ab ak) E fun t9=>I y0 (u6 #[ab] J #[t9]) E fun am=>I y0 (x2 bB W 0) E fun Y=>I y0 (x1 ab Y) E fun ae=>I y0 (x2 bB X 0) E fun ad=>I y0 (x1 ab ad) E fun af=>O y0 md [aj,am] E fun ap U=>(Ext E U∨al y0 (x1 ab ad) af U∧al y0 (x2 bB X 0) ad U∧al y0 (x1 ab Y) ae U∧al y0 (x2 bB W 0) Y U∧True)∧O y0 oC [ae,af] U fun aq au=>aa y0 (u9 ab 2 #[(0,ap),(1,aq)]) au fun av aw=>O y0 n2 [av] aw fun ax ay=>ac ax ay):O y0 mz [V,ao] Z ac:=aE Tryz.func219 rfl (by kernel_rfl) (by kernel_rfl) h
theorem oC.enter (h:I y0 (u6 #[ab] J #[V]) Z fun aa=>a8 (.int .i64 0) (.int .i64 0) Z fun t4 W E k=>I y0 (U .lss J false false W aa) E fun ad=>Split ad (I y0 (x7 ab V W) E fun ae=>I y0 (x1 J ae) E fun af=>I y0 (u6 #[ab] J #[ao]) E fun ag=>I y0 (U .geq J false false W ag) E fun ah=>Split ah (ac (.int .i64 1) E) (I y0 (x7 ab ao W) E fun t22=>I y0 (x1 J t22) E fun ai=>O y0 md [af,ai] E fun Y X=>I y0 (U .neq J false true Y (.int .i64 0)) X fun aj=>Split aj (ac Y X) (I y0 (U .add J false true W (.int .i64 1)) X fun ak=>k t4 ak X))) (I y0 (u6 #[ab] J #[V]) E fun al=>I y0 (u6 #[ab] J #[ao]) E fun am=>I y0 (U .lss J false false al am) E fun ap=>Split ap (ac (.int .i64 (-1)) E) (ac (.int .i64 0) E))):O y0 oC [V,ao] Z ac:=aE Tryz.func220 rfl (by kernel_rfl) (by kernel_rfl) h
theorem mA.enter (h:I y0 (U .eql bA false true V (.pointer none)) Z fun t9=>Split t9 (fY Z fun aY=>ac (.pointer none) aY) (O y0 hs [V] Z fun aZ a1=>aa y0 (n9 af true (.tuple #[])) a1 fun l a2=>aa y0 (x8 af l aZ) a2 fun _ a6=>@aB aS (fun u a7=>O y0 iH [V] a7 fun a8 ba=>O y0 kU [a8] ba fun t25 bb=>sB y0 t25 bb (fun bc bd be k=>Over be fun bf=>aQ bf fun X=>I y0 (x1 b5 u) X fun bg=>I y0 (x1 af l) X fun bh=>I y0 (x7 af bh bc) X fun bi=>I y0 (x1 ae bi) X fun bj=>O y0 mv [bg,bd,bj] X fun _ bk=>k .normal bk) (fun aG=>I y0 (x1 b5 u) aG fun bl=>fY aG fun bm=>ac bl bm) (fun _=>False) []) fun W=>aQ a6 fun J=>I y0 (x1 af l) J fun E=>(O y0 iH [V] J fun aH Y=>(Ext J Y∨al y0 (x1 af l) E Y∧True)∧(O y0 jU [aH] Y fun ab ad=>(Ext J ad∨al y0 (x1 af l) E ad∧True)∧(O y0 iG [V] ad fun ah ag=>(Ext J ag∨al y0 (x1 af l) E ag∧True)∧(O y0 ht [E] ag fun aI aJ=>(O y0 fz [ab,ah,aI] aJ fun aK ai=>I y0 (u5 aK 0) ai fun bn=>I y0 (u5 aK 1) ai fun _=>aa y0 (n9 b5 true (.tuple #[])) ai fun aL aj=>(Ext J aj∨al y0 (x1 af l) E aj∧True)∧aa y0 (x8 b5 aL bn) aj fun _ bo=>W aL bo)∧(aa y0 (n9 b5 true (.tuple #[])) aJ fun aM ak=>(Ext J ak∨al y0 (x1 af l) E ak∧True)∧O y0 fz [ab,ah,aI] ak fun aN am=>I y0 (u5 aN 0) am fun bp=>I y0 (u5 aN 1) am fun _=>aa y0 (x8 b5 aM bp) am fun _ bq=>W aM bq))∧(aa y0 (n9 b5 true (.tuple #[])) ag fun aO ao=>(Ext J ao∨al y0 (x1 af l) E ao∧True)∧O y0 ht [E] ao fun br bt=>O y0 fz [ab,ah,br] bt fun aP ap=>I y0 (u5 aP 0) ap fun bu=>I y0 (u5 aP 1) ap fun _=>aa y0 (x8 b5 aO bu) ap fun _ bw=>W aO bw))∧(aa y0 (n9 b5 true (.tuple #[])) ad fun aR aq=>(Ext J aq∨al y0 (x1 af l) E aq∧True)∧O y0 iG [V] aq fun bx au=>(Ext J au∨al y0 (x1 af l) E au∧True)∧O y0 ht [E] au fun bz bB=>O y0 fz [ab,bx,bz] bB fun aT av=>I y0 (u5 aT 0) av fun bC=>I y0 (u5 aT 1) av fun _=>aa y0 (x8 b5 aR bC) av fun _ bD=>W aR bD))∧(aa y0 (n9 b5 true (.tuple #[])) Y fun aU aw=>(Ext J aw∨al y0 (x1 af l) E aw∧True)∧O y0 jU [aH] aw fun bE ax=>(Ext J ax∨al y0 (x1 af l) E ax∧True)∧O y0 iG [V] ax fun bF ay=>(Ext J ay∨al y0 (x1 af l) E ay∧True)∧O y0 ht [E] ay fun bG bH=>O y0 fz [bE,bF,bG] bH fun aV az=>I y0 (u5 aV 0) az fun bI=>I y0 (u5 aV 1) az fun _=>aa y0 (x8 b5 aU bI) az fun _ bJ=>W aU bJ))∧(aa y0 (n9 b5 true (.tuple #[])) J fun aW aA=>(Ext J aA∨al y0 (x1 af l) E aA∧True)∧O y0 iH [V] aA fun bK aC=>(Ext J aC∨al y0 (x1 af l) E aC∧True)∧O y0 jU [bK] aC fun bL aD=>(Ext J aD∨al y0 (x1 af l) E aD∧True)∧O y0 iG [V] aD fun bM aE=>(Ext J aE∨al y0 (x1 af l) E aE∧True)∧O y0 ht [E] aE fun bN bO=>O y0 fz [bL,bM,bN] bO fun aX aF=>I y0 (u5 aX 0) aF fun bP=>I y0 (u5 aX 1) aF fun _=>aa y0 (x8 b5 aW bP) aF fun _ bQ=>W aW bQ))):O y0 mA [V] Z ac:=O.enter (P:=y0) mixed (show y0.funcs[mA]? =some Tryz.f221 from Tryz.func221) rfl (by kernel_rfl) (by kernel_rfl) (by kernel_rfl) (Eq.mp (by kernel_rfl) h)
theorem oD.enter (h:I y0 (U .eql b5 false true V (.pointer none)) Z fun ax=>Split ax (ac (.slice none 0 0) Z) (I y0 (am V) Z fun ay=>I y0 (x2 cL ay 3) Z fun az=>I y0 (x1 dC az) Z fun aA=>O y0 oQ [aA] Z fun aB aC=>O y0 oP [aB,(.func (.func mI) #[] #[])] aC fun ak ao=>I y0 (u6 #[et] J #[ak]) ao fun aD=>a8 (.slice none 0 0) (.int .i64 0) ao fun out ae ad k=>I y0 (U .lss J false false ae aD) ad fun aF=>Split aF (I y0 (x7 et ak ae) ad fun t22=>I y0 (x1 bh t22) ad fun aG=>aa y0 (n9 bh true (.tuple #[])) ad fun x aH=>aa y0 (x8 bh x aG) aH fun _ aI=>aQ aI fun W=>I y0 (am V) W fun t25=>I y0 (x2 cL t25 3) W fun af=>I y0 (x1 dC af) W fun ag=>I y0 (x1 bh x) W fun ah=>I y0 (V3 dC ag ah false) W fun ai=>I y0 (Z0 dn #[(1,ai)]) W fun ap=>aa y0 (n9 dn true (.tuple #[])) W fun l X=>(Ext W X∨al y0 (Z0 dn #[(1,ai)]) ap X∧al y0 (V3 dC ag ah false) ai X∧al y0 (x1 bh x) ah X∧al y0 (x1 dC af) ag X∧al y0 (x2 cL t25 3) af X∧al y0 (am V) t25 X∧True)∧aa y0 (x8 dn l ap) X fun _ Y=>I y0 (am V) Y fun aJ=>I y0 (x2 cL aJ 0) Y fun aK=>I y0 (x1 ab aK) Y fun aL=>I y0 (u6 #[ab] J #[aL]) Y fun aM=>I y0 (c7 bh x none (some aM) none) Y fun aq=>I y0 (u6 #[fm] J #[aq]) Y fun aN=>bc (.int .i64 0) Y fun aj E aO=>I y0 (U .lss J false false aj aN) E fun t39=>Split t39 (I y0 (x7 fm aq aj) E fun aP=>I y0 (x1 dz aP) E fun aR=>I y0 (x2 dn l 0) E fun aS=>I y0 (x1 ab aS) E fun aT=>I y0 (convert dz J aR) E fun t45=>aa y0 (u9 ab 1 #[(0,t45)]) E fun t46 aU=>aa y0 (r9 #[ab,ab] ab #[aT,t46]) aU fun aV au=>I y0 (x2 dn l 0) au fun aW=>aa y0 (x8 ab aW aV) au fun _ av=>I y0 (U .add J false true aj (.int .i64 1)) av fun aX=>aO aX av) (I y0 (x1 dn l) E fun aY=>aa y0 (u9 hx 1 #[(0,aY)]) E fun aZ a1=>aa y0 (r9 #[hx,hx] hx #[out,aZ]) a1 fun t53 aw=>I y0 (U .add J false true ae (.int .i64 1)) aw fun a2=>k t53 a2 aw)) (ac out ad))):O y0 oD [V] Z ac:=aE Tryz.func222 rfl (by kernel_rfl) (by kernel_rfl) h
theorem mB.enter (h:aa y0 (Z2 aF V) Z fun aq aV=>aa y0 (n9 aD true (.tuple #[])) aV fun aC au=>I y0 (x2 aF aq 0) au fun aW=>I y0 (x1 af aW) au fun aX=>O y0 oR [aX] au fun aY aG=>I y0 (Z0 aD #[(0,aY)]) aG fun aZ=>aa y0 (n9 aD true (.tuple #[])) aG fun g a1=>aa y0 (x8 aD g aZ) a1 fun _ ai=>I y0 (x2 aD g 0) ai fun a2=>I y0 (x1 ab a2) ai fun t22=>I y0 (u6 #[ab] J #[t22]) ai fun a6=>bc (.int .i64 0) ai fun av Y a7=>I y0 (U .lss J false false av a6) Y fun t25=>Split t25 (I y0 (x7 ab t22 av) Y fun ba=>I y0 (x1 J ba) Y fun bb=>aQ Y fun ad=>I y0 (x2 aD g 1) ad fun aw=>I y0 (x1 ab aw) ad fun aH=>I y0 (x7 af ao bb) ad fun bd=>I y0 (x1 ae bd) ad fun be=>aa y0 (u9 ab 1 #[(0,be)]) ad fun bf aj=>(Ext ad aj∨al y0 (x1 ab aw) aH aj∧al y0 (x2 aD g 1) aw aj∧True)∧aa y0 (r9 #[ab,ab] ab #[aH,bf]) aj fun bg aI=>I y0 (x2 aD g 1) aI fun bh=>aa y0 (x8 ab bh bg) aI fun _ aJ=>I y0 (U .add J false true av (.int .i64 1)) aJ fun bi=>a7 bi aJ) (I y0 (x2 aD g 1) Y fun bj=>I y0 (x1 ab bj) Y fun t39=>O y0 kT [t39] Y fun aK aL=>I y0 (u6 #[cq] J #[aK]) aL fun bl=>bc (.int .i64 0) aL fun ax W bm=>I y0 (U .lss J false false ax bl) W fun bn=>Split bn (I y0 (x7 cq aK ax) W fun bo=>I y0 (x1 ab bo) W fun t45=>I y0 (x2 aF aq 0) W fun t46=>I y0 (x1 af t46) W fun aM=>I y0 (u6 #[af] J #[aM]) W fun bp=>a8 (.slice none 0 0) (.int .i64 0) W fun own ay X bq=>I y0 (U .lss J false false ay bp) X fun t50=>Split t50 (I y0 (x7 af aM ay) X fun br=>I y0 (x1 ae br) X fun bt=>I y0 (x2 aD g 0) X fun t53=>I y0 (x1 ab t53) X fun aN=>I y0 (u6 #[ab] J #[aN]) X fun t55=>a8 own (.int .i64 0) X fun az ak E bu=>I y0 (U .lss J false false ak t55) E fun bw=>Split bw (@aB aS (fun bx aO=>I y0 (U .add J false true ak (.int .i64 1)) aO fun bz=>bu bx bz aO) fun aP=>I y0 (x7 ab aN ak) E fun bA=>I y0 (x1 J bA) E fun bB=>I y0 (U .eql ae false false bB bt) E fun bC=>Split bC (I y0 (x7 ab t45 ak) E fun bD=>I y0 (x1 J bD) E fun bE=>aa y0 (u9 af 1 #[(0,bE)]) E fun bF bG=>aa y0 (r9 #[af,af] af #[az,bF]) bG fun t70 bH=>aP t70 bH) (aP az E)) (I y0 (U .add J false true ay (.int .i64 1)) E fun bI=>bq az bI E)) (aQ X fun ag=>I y0 (x2 aD g 2) ag fun ah=>I y0 (x1 af ah) ag fun aA=>I y0 (x1 aF aq) ag fun bJ=>O y0 oS [bJ,own,bk] ag fun bK am=>(Ext ag am∨al y0 (x1 af ah) aA am∧al y0 (x2 aD g 2) ah am∧True)∧aa y0 (u9 af 1 #[(0,bK)]) am fun bL ap=>(Ext ag ap∨al y0 (x1 af ah) aA ap∧al y0 (x2 aD g 2) ah ap∧True)∧aa y0 (r9 #[af,af] af #[aA,bL]) ap fun bM aR=>I y0 (x2 aD g 2) aR fun bN=>aa y0 (x8 af bN bM) aR fun _ aT=>I y0 (U .add J false true ax (.int .i64 1)) aT fun bO=>bm bO aT)) (I y0 (x1 aD g) W fun bP=>aa y0 (x8 aD aC bP) W fun _ aU=>I y0 (do loadVar aD (←asAddr aC)) aU fun r=>ac r aU))):O y0 mB [V,ao,bk] Z ac:=aE Tryz.func223 rfl (by kernel_rfl) (by kernel_rfl) h
theorem mC.enter (h:aa y0 (Z2 aD V) Z fun ad ag=>aa y0 (Z2 aD ao) ag fun ae E=>I y0 (x2 aD ad 0) E fun ah=>I y0 (x1 ab ah) E fun ai=>I y0 (u6 #[ab] J #[ai]) E fun aj=>I y0 (x2 aD ae 0) E fun t9=>I y0 (x1 ab t9) E fun ak=>I y0 (u6 #[ab] J #[ak]) E fun al=>I y0 (U .neq J false false aj al) E fun am=>Split am (I y0 (x2 aD ad 0) E fun ap=>I y0 (x1 ab ap) E fun aq=>I y0 (u6 #[ab] J #[aq]) E fun au=>I y0 (x2 aD ae 0) E fun av=>I y0 (x1 ab av) E fun aw=>I y0 (u6 #[ab] J #[aw]) E fun ax=>I y0 (U .lss J false false au ax) E fun ay=>ac ay E) (I y0 (x2 aD ad 0) E fun az=>I y0 (x1 ab az) E fun aA=>I y0 (u6 #[ab] J #[aA]) E fun t22=>a8 (.bool false) (.int .i64 0) E fun t4 Y af k=>I y0 (U .lss J false false Y t22) af fun aB=>Split aB (aQ af fun W=>I y0 (x2 aD ad 0) W fun aC=>I y0 (x1 ab aC) W fun aF=>I y0 (x7 ab aF Y) W fun aG=>I y0 (x1 J aG) W fun aH=>I y0 (x2 aD ae 0) W fun aI=>I y0 (x1 ab aI) W fun aJ=>I y0 (x7 ab aJ Y) W fun aK=>I y0 (x1 J aK) W fun aL=>I y0 (U .neq J false false aH aL) W fun aM=>Split aM (aQ W fun X=>I y0 (x2 aD ad 0) X fun aN=>I y0 (x1 ab aN) X fun aO=>I y0 (x7 ab aO Y) X fun aP=>I y0 (x1 J aP) X fun aR=>I y0 (x2 aD ae 0) X fun aS=>I y0 (x1 ab aS) X fun aT=>I y0 (x7 ab aT Y) X fun t45=>I y0 (x1 J t45) X fun t46=>I y0 (U .lss J false false aR t46) X fun aU=>ac aU X) (I y0 (U .add J false true Y (.int .i64 1)) W fun aV=>k t4 aV W)) (ac (.bool false) af))):O y0 mC [V,ao] Z ac:=aE Tryz.func224 rfl (by kernel_rfl) (by kernel_rfl) h
theorem mD.enter (h:I y0 (U .eql ep false true V (.pointer none)) Z fun t4=>Split t4 (ac (.int .i64 0) Z) (I y0 (am V) Z fun E=>I y0 (x2 cR E 0) Z fun W=>I y0 (x1 dm W) Z fun X=>I y0 (u6 #[dm] J #[X]) Z fun t9=>ac t9 Z)):O y0 mD [V] Z ac:=aE Tryz.func225 rfl (by kernel_rfl) (by kernel_rfl) h
theorem mE.enter (h:@aB aS (fun J W=>ac J W) fun E=>I y0 (U .geq ae false true V (.int .i64 1)) Z fun t4=>Split t4 (I y0 (U .leq ae false true V (.int .i64 2147483648)) Z fun X=>E X Z) (E (.bool false) Z)):O y0 mE [V] Z ac:=aE Tryz.func226 rfl (by kernel_rfl) (by kernel_rfl) h
theorem j1.enter (h:@aB aS (fun W X=>ac W X) fun E=>I y0 (U .lss J false true V (.int .i64 1)) Z fun t4=>Split t4 (E (.bool true) Z) (I y0 (U .gtr J false true V (.int .i64 32)) Z fun Y=>E Y Z)):O y0 j1 [V] Z ac:=aE Tryz.func227 rfl (by kernel_rfl) (by kernel_rfl) h
theorem oE.enter (h:O y0 qE [V,ao] Z fun t25 E=>I y0 (u5 t25 0) E fun J=>I y0 (u5 t25 1) E fun U=>ac (.tuple #[J,U]) E):O y0 oE [V,ao] Z ac:=aE Tryz.func228 rfl (by kernel_rfl) (by kernel_rfl) h
theorem kZ.enter (h:aB (α:=x4→x4→x5→Prop) (fun(Y n:x4) (E:x5)=>aB (α:=x4→x4→x5→Prop) (fun(aa ab:x4) (W:x5)=>aB (α:=x4→x4→x5→Prop) (fun(ag ah:x4) (X:x5)=>I y0 (convert bD bb ag) X fun ai=>I y0 (Y0 a1 (.string ⟨#[0,1,2,2,3,3,3,3,4,4,4,4,4,4,4,4,5,5,5,5,5,5,5,5,5,5,5,5,5,5,5,5,6,6,6,6,6,6,6,6,6,6,6,6,6,6,6,6,6,6,6,6,6,6,6,6,6,6,6,6,6,6,6,6,7,7,7,7,7,7,7,7,7,7,7,7,7,7,7,7,7,7,7,7,7,7,7,7,7,7,7,7,7,7,7,7,7,7,7,7,7,7,7,7,7,7,7,7,7,7,7,7,7,7,7,7,7,7,7,7,7,7,7,7,7,7,7,7,8,8,8,8,8,8,8,8,8,8,8,8,8,8,8,8,8,8,8,8,8,8,8,8,8,8,8,8,8,8,8,8,8,8,8,8,8,8,8,8,8,8,8,8,8,8,8,8,8,8,8,8,8,8,8,8,8,8,8,8,8,8,8,8,8,8,8,8,8,8,8,8,8,8,8,8,8,8,8,8,8,8,8,8,8,8,8,8,8,8,8,8,8,8,8,8,8,8,8,8,8,8,8,8,8,8,8,8,8,8,8,8,8,8,8,8,8,8,8,8,8,8,8,8,8,8,8,8]⟩) ai) X fun t22=>I y0 (convert bb J t22) X fun aj=>I y0 (U .add J false false ah aj) X fun ak=>ac ak X) fun ad=>I y0 (U .geq bD false true aa (.int .u64 256)) W fun al=>Split al (I y0 (U .shr bD false true aa (.int .u64 8)) W fun am=>I y0 (U .add J false true ab (.int .i64 8)) W fun ao=>ad am ao W) (ad aa ab W)) fun ae=>I y0 (U .geq bD false true Y (.int .u64 65536)) E fun ap=>Split ap (I y0 (U .shr bD false true Y (.int .u64 16)) E fun aq=>I y0 (U .add J false true n (.int .i64 16)) E fun au=>ae aq au E) (ae Y n E)) fun af=>I y0 (U .geq bD false true V (.int .u64 4294967296)) Z fun t4=>Split t4 (I y0 (U .shr bD false true V (.int .u64 32)) Z fun av=>af av (.int .i64 32) Z) (af V (.int .i64 0) Z)):O y0 kZ [V] Z ac:=aE Tryz.func238 rfl (by kernel_rfl) (by kernel_rfl) h
theorem oF.enter (h:aa y0 (Z2 aJ V) Z fun X E=>@aB aS (fun ad W=>Split ad (ac (.int .i64 0) W) (I y0 (x2 aJ X 0) W fun ae=>I y0 (x1 ab ae) W fun af=>I y0 (U .add J false true ao (.int .i64 1)) W fun ag=>I y0 (c7 ab af (some ag) none none) W fun ah=>I y0 (Z0 aJ #[(0,ah)]) W fun ai=>O y0 iK [ai] W fun aj ak=>ac aj ak)) fun Y=>I y0 (U .lss J false true ao (.int .i64 0)) E fun al=>Split al (Y (.bool true) E) (I y0 (x2 aJ X 0) E fun t9=>I y0 (x1 ab t9) E fun am=>I y0 (u6 #[ab] J #[am]) E fun ap=>I y0 (U .geq J false false ao ap) E fun aq=>Y aq E)):O y0 oF [V,ao] Z ac:=aE Tryz.func240 rfl (by kernel_rfl) (by kernel_rfl) h
theorem oG.enter (h:O y0 oT [V,ao] Z fun W E=>I y0 (U .geq J false true W (.int .i64 0)) E fun X=>ac X E):O y0 oG [V,ao] Z ac:=aE Tryz.func242 rfl (by kernel_rfl) (by kernel_rfl) h
theorem k0.enter (h:O y0 qF [V,(.int .i64 10)] Z fun t4 E=>ac t4 E):O y0 k0 [V] Z ac:=aE Tryz.func243 rfl (by kernel_rfl) (by kernel_rfl) h
theorem j2.enter (h:@aB aS (fun W X=>ac W X) fun E=>I y0 (U .lss J false true V (.int .i64 1)) Z fun t4=>Split t4 (E (.bool true) Z) (I y0 (U .gtr J false true V (.int .i64 32)) Z fun Y=>E Y Z)):O y0 j2 [V] Z ac:=aE Tryz.func244 rfl (by kernel_rfl) (by kernel_rfl) h
theorem oH.enter (h:aa y0 (n9 bh true (.tuple #[])) Z fun t4 ak=>aa y0 (n9 bh true (.tuple #[])) ak fun x W=>I y0 (U .eql b5 false true V (.pointer none)) W fun al=>Split al (I y0 (x1 bh x) W fun ap=>aa y0 (x8 bh t4 ap) W fun _ ae=>I y0 (do loadVar bh (←asAddr t4)) ae fun r=>ac (.tuple #[r,(.int .i64 2)]) ae) (I y0 (u6 #[ab] J #[ao]) W fun aq=>I y0 (am V) W fun au=>I y0 (x2 cL au 0) W fun av=>I y0 (x1 ab av) W fun aw=>I y0 (u6 #[ab] J #[aw]) W fun ax=>I y0 (U .neq J false false aq ax) W fun ay=>Split ay (I y0 (x1 bh x) W fun az=>aa y0 (x8 bh t4 az) W fun _ af=>I y0 (do loadVar bh (←asAddr t4)) af fun aA=>ac (.tuple #[aA,(.int .i64 3)]) af) (I y0 (u6 #[ab] J #[ao]) W fun t22=>a8 (.int .i64 0) (.int .i64 0) W fun t5 X E k=>I y0 (U .lss J false false X t22) E fun aC=>Split aC (I y0 (x7 ab ao X) E fun aD=>I y0 (x1 J aD) E fun ad=>@aB aS (fun aF Y=>Split aF (I y0 (x1 bh x) Y fun aG=>aa y0 (x8 bh t4 aG) Y fun _ ag=>I y0 (do loadVar bh (←asAddr t4)) ag fun aH=>ac (.tuple #[aH,(.int .i64 3)]) ag) (I y0 (convert J dz ad) Y fun aI=>I y0 (x7 bh x X) Y fun t45=>aa y0 (x8 dz t45 aI) Y fun _ ah=>I y0 (U .add J false true X (.int .i64 1)) ah fun t46=>k t5 t46 ah)) fun ai=>I y0 (U .lss J false true ad (.int .i64 0)) E fun aJ=>Split aJ (ai (.bool true) E) (I y0 (am V) E fun aK=>I y0 (x2 cL aK 0) E fun aL=>I y0 (x1 ab aL) E fun aM=>I y0 (x7 ab aM X) E fun aN=>I y0 (x1 J aN) E fun aO=>I y0 (U .geq J false false ad aO) E fun t39=>ai t39 E)) (I y0 (x1 bh x) E fun aP=>aa y0 (x8 bh t4 aP) E fun _ aj=>I y0 (do loadVar bh (←asAddr t4)) aj fun aQ=>ac (.tuple #[aQ,(.int .i64 0)]) aj)))):O y0 oH [V,ao] Z ac:=aE Tryz.func245 rfl (by kernel_rfl) (by kernel_rfl) h
theorem k1.enter (h:@aB aS (fun W X=>ac W X) fun E=>I y0 (U .lss J false true V (.int .i64 1)) Z fun t4=>Split t4 (E (.bool true) Z) (I y0 (U .gtr J false true V (.int .i64 32)) Z fun Y=>E Y Z)):O y0 k1 [V] Z ac:=aE Tryz.func246 rfl (by kernel_rfl) (by kernel_rfl) h
theorem oI.enter (h:aa y0 (convert a1 aV V) Z fun ad ae=>O y0 oU [ad] ae fun X W=>I y0 (u5 X 0) W fun af=>I y0 (u5 X 1) W fun _=>I y0 (u5 X 2) W fun ag=>aa y0 (convert a1 aV V) W fun ah ai=>O y0 jV [ah] ai fun aj ak=>O y0 iI [aj] ak fun Y E=>I y0 (u5 Y 0) E fun al=>I y0 (u5 Y 1) E fun _=>I y0 (u5 Y 2) E fun _=>@aB aS (fun am ao=>ac am ao) fun ab=>I y0 (U .eql cb false true ag (.int .i64 0)) E fun t25=>Split t25 (I y0 (U .eql J false true af (.int .i64 1)) E fun ap=>Split ap (I y0 (U .eql a1 false false al V) E fun aq=>ab aq E) (ab (.bool false) E)) (ab (.bool false) E)):O y0 oI [V] Z ac:=aE Tryz.func247 rfl (by kernel_rfl) (by kernel_rfl) h
theorem oJ.enter (h:O y0 qG [V,ao] Z fun W E=>I y0 (U .geq J false true W (.int .i64 0)) E fun X=>ac X E):O y0 oJ [V,ao] Z ac:=aE Tryz.func248 rfl (by kernel_rfl) (by kernel_rfl) h
theorem k2.enter (h:aa y0 (Z2 bg ao) Z fun U E=>I y0 (x1 bg U) E fun W=>O y0 oV [V,W] E fun X J=>I y0 (Z5 .not X) J fun Y=>ac Y J):O y0 k2 [V,ao] Z ac:=aE Tryz.func249 rfl (by kernel_rfl) (by kernel_rfl) h
theorem oK.enter (h:I y0 (U .eql b5 false true V (.pointer none)) Z fun t4=>Split t4 (ac (.int .i64 0) Z) (I y0 (am V) Z fun E=>I y0 (x2 cL E 3) Z fun W=>I y0 (x1 dC W) Z fun X=>I y0 (u6 #[dC] J #[X]) Z fun t9=>ac t9 Z)):O y0 oK [V] Z ac:=aE Tryz.func250 rfl (by kernel_rfl) (by kernel_rfl) h
theorem k3.enter (h:I y0 (U .eql b5 false true V (.pointer none)) Z fun t4=>Split t4 (ac (.slice none 0 0) Z) (I y0 (am V) Z fun E=>I y0 (x2 cL E 0) Z fun J=>I y0 (x1 ab J) Z fun W=>O y0 gX [W] Z fun t9 X=>ac t9 X)):O y0 k3 [V] Z ac:=aE Tryz.func251 rfl (by kernel_rfl) (by kernel_rfl) h
theorem j3.enter (h:O y0 n3 [V] Z fun t5 E=>O y0 oW [t5] E fun _ I=>ac t5 I):O y0 j3 [V] Z ac:=aE Tryz.func252 rfl (by kernel_rfl) (by kernel_rfl) h
theorem j7.enter (h:aa y0 (Z2 ab V) Z fun J E=>I y0 (Instr.makeFunc (.func h2) #[] #[J]) E fun t3=>ac t3 E):O y0 j7 [V] Z ac:=aE Tryz.func253 rfl (by kernel_rfl) (by kernel_rfl) h
theorem mF.enter (h:aa y0 (Z2 bA V) Z fun aj aV=>aa y0 (Z2 ab ao) aV fun ai ak=>I y0 (x1 bA aj) ak fun aW=>I y0 (U .eql bA false true aW (.pointer none)) ak fun aX=>Split aX (fY ak fun aY=>ac (.tuple #[(.pointer none),(.int .i64 2)]) aY) (I y0 (x1 ab ai) ak fun aZ=>O y0 j7 [aZ] ak fun t22 a1=>O y0 j3 [t22] a1 fun aD aE=>I y0 (u6 #[ab] J #[aD]) aE fun t25=>hV (.pointer none) (.int .i64 0) (.int .i64 0) aE fun t4 t5 aq X k=>I y0 (U .lss J false false aq t25) X fun a2=>Split a2 (I y0 (x7 ab aD aq) X fun a6=>I y0 (x1 J a6) X fun a7=>I y0 (U .neq J false false aq a7) X fun a8=>Split a8 (fY X fun ba=>ac (.tuple #[(.pointer none),(.int .i64 1)]) ba) (I y0 (U .add J false true aq (.int .i64 1)) X fun bb=>k t4 t5 bb X)) (aQ X fun Y=>I y0 (x1 ab ai) Y fun aw=>I y0 (u6 #[ab] J #[aw]) Y fun aF=>I y0 (x1 bA aj) Y fun bd=>I y0 (am bd) Y fun be=>I y0 (x2 bq be 0) Y fun t39=>I y0 (x1 aJ t39) Y fun bf=>O y0 mJ [bf] Y fun bg ad=>(Ext Y ad∨al y0 (u6 #[ab] J #[aw]) aF ad∧al y0 (x1 ab ai) aw ad∧True)∧I y0 (U .neq J false false aF bg) ad fun bh=>Split bh (fY ad fun bi=>ac (.tuple #[(.pointer none),(.int .i64 1)]) bi) (I y0 (x1 ab ai) ad fun bj=>I y0 (u6 #[ab] J #[bj]) ad fun aG=>aa y0 (V8 ab aG aG) ad fun t45 ax=>I y0 (x1 ab ai) ax fun t46=>I y0 (u6 #[ab] J #[t46]) ax fun bk=>bc (.int .i64 0) ax fun au E bl=>I y0 (U .lss J false false au bk) E fun bm=>Split bm (I y0 (x7 ab t46 au) E fun bn=>I y0 (x1 J bn) E fun bo=>I y0 (x1 bA aj) E fun t55=>I y0 (am t55) E fun bp=>I y0 (x2 bq bp 0) E fun br=>I y0 (x1 aJ br) E fun bt=>O y0 jq [bt,bo] E fun bu aH=>I y0 (x7 ab t45 au) aH fun bw=>aa y0 (x8 J bw bu) aH fun _ aI=>I y0 (U .add J false true au (.int .i64 1)) aI fun bx=>bl bx aI) (I y0 (x1 bA aj) E fun bz=>I y0 (am bz) E fun t66=>I y0 (x2 bq t66 1) E fun bB=>I y0 (x1 ae bB) E fun bC=>O y0 kS [t45,bC,(.int .i64 0)] E fun aK ay=>I y0 (u5 aK 0) ay fun t70=>I y0 (u5 aK 1) ay fun _=>aa y0 (n9 bA true (.tuple #[])) ay fun u bD=>aa y0 (x8 bA u t70) bD fun _ ap=>I y0 (x1 bA u) ap fun bE=>I y0 (am bE) ap fun bF=>I y0 (x2 bq bF 0) ap fun bG=>I y0 (x1 aJ bG) ap fun bH=>O y0 kU [bH] ap fun t76 bI=>sB y0 t76 bI (fun t77 aL bJ bK=>Over bJ fun aM=>I y0 (u6 #[ab] J #[aL]) aM fun aN=>aa y0 (V8 ab aN aN) aM fun aO az=>I y0 (x1 ab ai) az fun aP=>I y0 (u6 #[ab] J #[aP]) az fun bL=>bc (.int .i64 0) az fun av ag bM=>I y0 (U .lss J false false av bL) ag fun bN=>Split bN (I y0 (x7 ab aP av) ag fun bO=>I y0 (x1 J bO) ag fun bP=>I y0 (x7 ab aL av) ag fun bQ=>I y0 (x1 J bQ) ag fun bR=>I y0 (x7 ab aO bP) ag fun bS=>aa y0 (x8 J bS bR) ag fun _ aR=>I y0 (U .add J false true av (.int .i64 1)) aR fun bT=>bM bT aR) (aQ ag fun ah=>I y0 (x1 bA u) ah fun aA=>I y0 (am aA) ah fun aB=>I y0 (x2 bq aB 2) ah fun aC=>I y0 (x1 af aC) ah fun aS=>I y0 (x1 bA aj) ah fun bU=>O y0 k4 [bU,aO] ah fun aT W=>(Ext ah W∨al y0 (x1 af aC) aS W∧al y0 (x2 bq aB 2) aC W∧al y0 (am aA) aB W∧al y0 (x1 bA u) aA W∧True)∧I y0 (u5 aT 0) W fun bV=>I y0 (u5 aT 1) W fun _=>I y0 (x7 af aS t77) W fun bW=>aa y0 (x8 ae bW bV) W fun _ bX=>bK .normal bX)) (fun aU=>I y0 (x1 bA u) aU fun bY=>fY aU fun bZ=>ac (.tuple #[bY,(.int .i64 0)]) bZ) (fun _=>False) []))))):O y0 mF [V,ao] Z ac:=O.enter (P:=y0) mixed (show y0.funcs[mF]? =some Tryz.f254 from Tryz.func254) rfl (by kernel_rfl) (by kernel_rfl) (by kernel_rfl) (Eq.mp (by kernel_rfl) h)
theorem mG.enter (h:I y0 (u6 #[ab] J #[ao]) Z fun ae=>I y0 (am V) Z fun af=>I y0 (x2 bq af 0) Z fun ag=>I y0 (x1 aJ ag) Z fun ah=>O y0 mJ [ah] Z fun ai X=>I y0 (U .neq J false false ae ai) X fun aj=>Split aj (ac (.bool false) X) (I y0 (u6 #[ab] J #[ao]) X fun ak=>a8 (.bool false) (.int .i64 0) X fun t4 W E k=>I y0 (U .lss J false false W ak) E fun al=>Split al (I y0 (x7 ab ao W) E fun ap=>I y0 (x1 J ap) E fun ad=>@aB aS (fun aq Y=>Split aq (ac (.bool false) Y) (I y0 (U .add J false true W (.int .i64 1)) Y fun au=>k t4 au Y)) fun aa=>I y0 (U .lss J false true ad (.int .i64 0)) E fun av=>Split av (aa (.bool true) E) (I y0 (U .gtr J false true W (.int .i64 0)) E fun aw=>Split aw (I y0 (U .sub J false true W (.int .i64 1)) E fun ax=>I y0 (x7 ab ao ax) E fun ay=>I y0 (x1 J ay) E fun az=>I y0 (U .geq J false false az ad) E fun aA=>aa aA E) (aa (.bool false) E))) (ac (.bool true) E))):O y0 mG [V,ao] Z ac:=aE Tryz.func255 rfl (by kernel_rfl) (by kernel_rfl) h
theorem oL.enter (h:I y0 (u6 #[ab] J #[V]) Z fun ak=>I y0 (U .lss J false true ak (.int .i64 2)) Z fun al=>Split al (ac V Z) (a8 (.slice none 0 0) (.int .i64 1) Z fun am k ae ao=>I y0 (u6 #[ab] J #[V]) ae fun ap=>I y0 (U .lss J false false k ap) ae fun aq=>Split aq (aQ ae fun W=>I y0 (x7 ab V k) W fun au=>I y0 (x1 J au) W fun av=>I y0 (U .sub J false true k (.int .i64 1)) W fun t22=>I y0 (x7 ab V t22) W fun aw=>I y0 (x1 J aw) W fun ax=>I y0 (U .eql J false false av ax) W fun t25=>Split t25 (I y0 (c7 ab V (some k) none none) W fun af=>a8 k (.int .i64 1) W fun X Y ad ay=>I y0 (u6 #[ab] J #[af]) ad fun az=>I y0 (U .lss J false false Y az) ad fun aA=>Split aA (@aB aS (fun aC ag=>I y0 (U .add J false true Y (.int .i64 1)) ag fun aD=>ay aC aD ag) fun ah=>aQ ad fun E=>I y0 (x7 ab af Y) E fun aF=>I y0 (x1 J aF) E fun aG=>I y0 (U .sub J false true Y (.int .i64 1)) E fun aH=>I y0 (x7 ab af aH) E fun aI=>I y0 (x1 J aI) E fun aJ=>I y0 (U .neq J false false aG aJ) E fun aK=>Split aK (I y0 (x7 ab af Y) E fun aL=>I y0 (x1 J aL) E fun t50=>I y0 (x7 ab V X) E fun aM=>aa y0 (x8 J aM t50) E fun _ ai=>I y0 (U .add J false true X (.int .i64 1)) ai fun t53=>ah t53 ai) (ah X E)) (I y0 (c7 ab V (some X) none none) ad fun aN=>aa y0 (u7.clear_ #[ab] qJ #[aN]) ad fun _ aj=>I y0 (c7 ab V none (some X) none) aj fun aO=>ac aO aj)) (I y0 (U .add J false true k (.int .i64 1)) W fun aP=>ao am aP W)) (ac V ae))):O y0 oL [V] Z ac:=aE Tryz.func256 rfl (by kernel_rfl) (by kernel_rfl) h
theorem oM.enter (h:I y0 (u6 #[cq] J #[V]) Z fun ai=>a8 (.int .i64 0) (.int .i64 0) Z fun size X E k=>I y0 (U .lss J false false X ai) E fun aj=>Split aj (@aB aS (fun ak ad=>I y0 (U .add J false true X (.int .i64 1)) ad fun t22=>k ak t22 ad) fun al=>I y0 (x7 cq V X) E fun am=>I y0 (x1 ab am) E fun ao=>I y0 (u6 #[ab] J #[ao]) E fun ap=>I y0 (U .add J false false size ap) E fun ae=>I y0 (U .lss J false true ae (.int .i64 0)) E fun aq=>Split aq (I y0 (Instr.makeInterface a1 (.string ⟨#[108,101,110,32,111,117,116,32,111,102,32,114,97,110,103,101]⟩)) E fun _=>False) (al ae E)) (O y0 oX [(.slice none 0 0),size] E fun au af=>I y0 (u6 #[cq] J #[V]) af fun av=>a8 au (.int .i64 0) af fun ag Y W aw=>I y0 (U .lss J false false Y av) W fun ax=>Split ax (I y0 (x7 cq V Y) W fun ay=>I y0 (x1 ab ay) W fun az=>aa y0 (r9 #[ab,ab] ab #[ag,az]) W fun aA ah=>I y0 (U .add J false true Y (.int .i64 1)) ah fun aC=>aw aA aC ah) (ac ag W))):O y0 oM [V] Z ac:=aE Tryz.func257 rfl (by kernel_rfl) (by kernel_rfl) h
theorem oN.enter (h:I y0 (u6 #[ab] J #[V]) Z fun aq=>aa y0 (V8 ab aq aq) Z fun au av=>I y0 (u6 #[ab] J #[V]) av fun aD=>hV (.slice none 0 0) (.bool false) (.int .i64 0) av fun aF aG t22 X k=>I y0 (U .lss J false false t22 aD) X fun aH=>Split aH (I y0 (x7 ab V t22) X fun t25=>I y0 (x1 J t25) X fun aw=>O y0 hZ [bk,aw] X fun ae aI=>O y0 hZ [jr,aw] aI fun af aK=>@aB aS (fun t53 ax=>Split t53 (ac (.tuple #[(.slice none 0 0),(.bool false)]) ax) (aQ ax fun W=>I y0 (am ao) W fun aL=>I y0 (x2 bq aL 0) W fun aM=>I y0 (x1 aJ aM) W fun aN=>I y0 (am fO) W fun ag=>I y0 (x2 bq ag 0) W fun ah=>I y0 (x1 aJ ah) W fun ay=>O y0 jq [aN,ae] W fun aO Y=>(Ext W Y∨al y0 (x1 aJ ah) ay Y∧al y0 (x2 bq ag 0) ah Y∧al y0 (am fO) ag Y∧True)∧O y0 jq [ay,af] Y fun aP ai=>I y0 (u7.max_ #[J,J] J #[aO,aP]) ai fun aR=>I y0 (x7 ab au t22) ai fun aT=>aa y0 (x8 J aT aR) ai fun _ az=>I y0 (U .add J false true t22 (.int .i64 1)) az fun t70=>k aF aG t70 az)) fun aj=>aQ aK fun E=>I y0 (U .geq J false true ae (.int .i64 0)) E fun aU=>Split aU (I y0 (U .geq J false true af (.int .i64 0)) E fun aV=>Split aV (I y0 (am ao) E fun aW=>I y0 (x2 bq aW 0) E fun aX=>I y0 (x1 aJ aX) E fun aY=>I y0 (am fO) E fun ak=>I y0 (x2 bq ak 0) E fun ap=>I y0 (x1 aJ ap) E fun aA=>O y0 jq [aY,ae] E fun t45 ad=>(Ext E ad∨al y0 (x1 aJ ap) aA ad∧al y0 (x2 bq ak 0) ap ad∧al y0 (am fO) ak ad∧True)∧O y0 jq [aA,af] ad fun aZ aC=>I y0 (U .neq J false false t45 aZ) aC fun a1=>aj a1 aC) ((Ext E E∨True∧True∧True∧True)∧aj (.bool false) E)) ((Ext E E∨True∧True∧True∧True)∧aj (.bool false) E)) (ac (.tuple #[au,(.bool true)]) X)):O y0 oN [V,ao,bk,fO,jr] Z ac:=aE Tryz.func258 rfl (by kernel_rfl) (by kernel_rfl) h
theorem k4.enter (h:O y0 mn [V,ao] Z fun J E=>I y0 (u5 J 0) E fun X=>I y0 (u5 J 1) E fun W=>I y0 (U .neq cb false true W (.int .i64 0)) E fun Y=>Split Y (ac (.tuple #[(.int .i64 0),W]) E) (I y0 (am V) E fun aa=>I y0 (x2 bq aa 2) E fun ab=>I y0 (x1 af ab) E fun ad=>I y0 (x7 af ad X) E fun t22=>I y0 (x1 ae t22) E fun ag=>ac (.tuple #[ag,(.int .i64 0)]) E)):O y0 k4 [V,ao] Z ac:=aE Tryz.func259 rfl (by kernel_rfl) (by kernel_rfl) h
theorem mH.enter (h:I y0 (u6 #[ab] J #[bk]) Z fun Y=>aa y0 (V8 ab Y Y) Z fun ad ae=>I y0 (u6 #[ab] J #[bk]) ae fun ag=>bc (.int .i64 0) ae fun W E k=>I y0 (U .lss J false false W ag) E fun ah=>Split ah (I y0 (x7 ab bk W) E fun ai=>I y0 (x1 J ai) E fun aj=>O y0 hZ [ao,aj] E fun t25 X=>I y0 (x7 ab V t25) X fun ak=>I y0 (x1 J ak) X fun al=>I y0 (x7 ab ad W) X fun am=>aa y0 (x8 J am al) X fun _ af=>I y0 (U .add J false true W (.int .i64 1)) af fun ap=>k ap af) (ac ad E)):O y0 mH [V,ao,bk] Z ac:=aE Tryz.func260 rfl (by kernel_rfl) (by kernel_rfl) h
theorem qD.enter (h:I y0 (u6 #[af] J #[V]) Z fun Y=>a8 (.int .i64 0) (.int .i64 0) Z fun t4 W E k=>I y0 (U .lss J false false W Y) E fun t9=>Split t9 (I y0 (x7 af V W) E fun aa=>I y0 (x1 ae aa) E fun ab=>hS y0 false ao [ab] E fun ad X=>Split ad (ac W X) (I y0 (U .add J false true W (.int .i64 1)) X fun ag=>k t4 ag X)) (ac (.int .i64 (-1)) E)):O y0 qD [V,ao] Z ac:=aE Tryz.func261 rfl (by kernel_rfl) (by kernel_rfl) h
theorem ht.enter (h:aa y0 (Instr.makeMap gd none) Z fun t9 ad=>I y0 (u6 #[af] J #[V]) ad fun ap=>bc (.int .i64 0) ad fun X W k=>I y0 (U .lss J false false X ap) W fun aq=>Split aq (I y0 (x7 af V X) W fun au=>I y0 (x1 ae au) W fun ag=>I y0 (V3 gd t9 ag false) W fun av=>I y0 (U .add J false true av (.int .i64 1)) W fun aw=>aa y0 (Instr.mapUpdate gd t9 ag aw) W fun _ ah=>I y0 (U .add J false true X (.int .i64 1)) ah fun ax=>k ax ah) (O y0 oY [V] W fun t22 ay=>aa y0 (Instr.range gd t9) ay fun ai az=>bc t22 az fun hy aA aj=>ny y0 (false,Z.heap.size) (Instr.next ai false 0) aA fun t25 Y=>I y0 (u5 t25 0) Y fun aC=>Split aC (aa y0 (Instr.entry ai) Y fun ak E=>I y0 (u5 ak 0) E fun al=>I y0 (u5 ak 1) E fun am=>@aB aS (fun t46 ao=>Split t46 (aj al ao) (aj hy ao)) fun ab=>I y0 (V3 gd t9 hy false) E fun aD=>I y0 (U .gtr J false false am aD) E fun aF=>Split aF (ab (.bool true) E) (I y0 (V3 gd t9 hy false) E fun t39=>I y0 (U .eql J false false am t39) E fun aG=>Split aG (I y0 (U .lss ae false false al hy) E fun aH=>ab aH E) (ab (.bool false) E))) (ac hy Y))):O y0 ht [V] Z ac:=aE Tryz.func263 rfl (by kernel_rfl) (by kernel_rfl) h
end
section
variable {Z:x5} {ac:aS} {V ao bk fO jr k6 k7 k8 k9 la lb ld:x4}
theorem mI.enter (h:aa y0 (Z2 bh V) Z fun J U=>aa y0 (Z2 bh ao) U fun W X=>aQ X fun E=>I y0 (c7 bh J none none none) E fun t5=>I y0 (c7 bh W none none none) E fun Y=>O y0 oO [t5,Y] E fun ab ad=>ac ab ad):O y0 mI [V,ao] Z ac:=aE Tryz.func264 rfl (by kernel_rfl) (by kernel_rfl) h
theorem oO.enter (h:I y0 (u6 #[fm] J #[V]) Z fun aa=>a8 (.int .i64 0) (.int .i64 0) Z fun t4 W E k=>I y0 (U .lss J false false W aa) E fun ab=>Split ab (I y0 (x7 fm V W) E fun ad=>I y0 (x1 dz ad) E fun ae=>I y0 (u6 #[fm] J #[ao]) E fun af=>I y0 (U .geq J false false W af) E fun ag=>Split ag (ac (.int .i64 1) E) (I y0 (x7 fm ao W) E fun t22=>I y0 (x1 dz t22) E fun ah=>O y0 oZ [ae,ah] E fun Y X=>I y0 (U .neq J false true Y (.int .i64 0)) X fun ai=>Split ai (ac Y X) (I y0 (U .add J false true W (.int .i64 1)) X fun aj=>k t4 aj X))) (I y0 (u6 #[fm] J #[V]) E fun ak=>I y0 (u6 #[fm] J #[ao]) E fun al=>I y0 (U .lss J false false ak al) E fun am=>Split am (ac (.int .i64 (-1)) E) (ac (.int .i64 0) E))):O y0 oO [V,ao] Z ac:=aE Tryz.func265 rfl (by kernel_rfl) (by kernel_rfl) h
theorem oP.enter (h:O y0 o0 [V] Z fun E I=>O y0 u3 [E,ao] I fun _ J=>ac E J):O y0 oP [V,ao] Z ac:=aE Tryz.func266 rfl (by kernel_rfl) (by kernel_rfl) h
theorem oQ.enter (h:aa y0 (Z2 dC V) Z fun J E=>I y0 (Instr.makeFunc (.func gw) #[] #[J]) E fun t3=>ac t3 E):O y0 oQ [V] Z ac:=aE Tryz.func267 rfl (by kernel_rfl) (by kernel_rfl) h
theorem oR.enter (h:a8 (.slice none 0 0) (.int .i64 0) Z fun out v W k=>I y0 (U .lss J false true v (.int .i64 64)) W fun ah=>Split ah (I y0 (u6 #[af] J #[V]) W fun ai=>a8 out (.int .i64 0) W fun X Y E aj=>I y0 (U .lss J false false Y ai) E fun ak=>Split ak (@aB aS (fun al ad=>I y0 (U .add J false true Y (.int .i64 1)) ad fun am=>aj al am ad) fun ag=>I y0 (x7 af V Y) E fun ao=>I y0 (x1 ae ao) E fun ap=>I y0 (U .eql ae false false ap v) E fun aq=>Split aq (aa y0 (u9 ab 1 #[(0,v)]) E fun t22 au=>aa y0 (r9 #[ab,ab] ab #[X,t22]) au fun av aw=>ag av aw) (ag X E)) (I y0 (U .add J false true v (.int .i64 1)) E fun ax=>k X ax E)) (ac out W)):O y0 oR [V] Z ac:=aE Tryz.func268 rfl (by kernel_rfl) (by kernel_rfl) h
theorem oS.enter (h:aa y0 (Z2 aF V) Z fun ad E=>I y0 (x2 aF ad 2) E fun aj=>I y0 (x1 ae aj) E fun ak=>I y0 (x2 aF ad 3) E fun al=>I y0 (x1 cr al) E fun ag=>I y0 (u6 #[cr] J #[ag]) E fun am=>a8 ak (.int .i64 0) E fun c Y W ap=>I y0 (U .lss J false false Y am) W fun aq=>Split aq (@aB aS (fun au ah=>I y0 (U .add J false true Y (.int .i64 1)) ah fun t25=>ap au t25 ah) fun ai=>I y0 (x7 cr ag Y) W fun av=>I y0 (x1 bx av) W fun aw=>aa y0 (n9 bx true (.tuple #[])) W fun x ax=>aa y0 (x8 bx x aw) ax fun _ ab=>I y0 (x2 bx x 0) ab fun ay=>I y0 (x1 af ay) ab fun az=>O y0 iL [az,ao] ab fun t22 X=>Split t22 (I y0 (x2 bx x 1) X fun aA=>I y0 (x1 ae aA) X fun aC=>ai aC X) (ai c X)) (O y0 o1 [c,bk] W fun aD aG=>ac aD aG)):O y0 oS [V,ao,bk] Z ac:=aE Tryz.func269 rfl (by kernel_rfl) (by kernel_rfl) h
theorem qE.enter (h:I y0 (U .and bD false true V (.int .u64 4294967295)) Z fun E=>I y0 (U .shr bD false true V (.int .u64 32)) Z fun J=>I y0 (U .and bD false true ao (.int .u64 4294967295)) Z fun W=>I y0 (U .shr bD false true ao (.int .u64 32)) Z fun X=>I y0 (U .mul bD false false E W) Z fun aa=>I y0 (U .mul bD false false J W) Z fun ab=>I y0 (U .shr bD false true aa (.int .u64 32)) Z fun ad=>I y0 (U .add bD false false ab ad) Z fun Y=>I y0 (U .and bD false true Y (.int .u64 4294967295)) Z fun ae=>I y0 (U .shr bD false true Y (.int .u64 32)) Z fun af=>I y0 (U .mul bD false false E X) Z fun ag=>I y0 (U .add bD false false ae ag) Z fun t39=>I y0 (U .mul bD false false J X) Z fun ah=>I y0 (U .add bD false false ah af) Z fun ai=>I y0 (U .shr bD false true t39 (.int .u64 32)) Z fun t46=>I y0 (U .add bD false false ai t46) Z fun aj=>I y0 (U .mul bD false false V ao) Z fun t50=>ac (.tuple #[aj,t50]) Z):O y0 qE [V,ao] Z ac:=aE Tryz.func271 rfl (by kernel_rfl) (by kernel_rfl) h
theorem oT.enter (h:I y0 (u6 #[af] J #[V]) Z fun X=>a8 (.int .i64 0) (.int .i64 0) Z fun t4 W E k=>I y0 (U .lss J false false W X) E fun t9=>Split t9 (I y0 (x7 af V W) E fun Y=>I y0 (x1 ae Y) E fun aa=>I y0 (U .eql ae false false ao aa) E fun ab=>Split ab (ac W E) (I y0 (U .add J false true W (.int .i64 1)) E fun ad=>k t4 ad E)) (ac (.int .i64 (-1)) E)):O y0 oT [V,ao] Z ac:=aE Tryz.func277 rfl (by kernel_rfl) (by kernel_rfl) h
theorem qF.enter (h:O y0 o2 [V,ao] Z fun E I=>ac E I):O y0 qF [V,ao] Z ac:=aE Tryz.func278 rfl (by kernel_rfl) (by kernel_rfl) h
theorem oU.enter (h:O y0 jV [V] Z fun Y aa=>lW (.int .i64 0) (.int .i64 0) (.int .i64 0) (.int .i64 0) aa fun ab t3 t4 n ad k=>O y0 iI [Y] ad fun W E=>I y0 (u5 W 0) E fun _=>I y0 (u5 W 1) E fun ae=>I y0 (u5 W 2) E fun X=>I y0 (U .eql cb false true X (.int .i64 0)) E fun af=>Split af (I y0 (U .add J false true n (.int .i64 1)) E fun t22=>k ab t3 t4 t22 E) (I y0 (U .eql cb false true X (.int .i64 11)) E fun ag=>Split ag (ac (.tuple #[n,ae,X]) E) (I y0 (u6 #[aV] J #[V]) E fun ah=>ac (.tuple #[n,ah,(.int .i64 0)]) E))):O y0 oU [V] Z ac:=aE Tryz.func279 rfl (by kernel_rfl) (by kernel_rfl) h
theorem qG.enter (h:I y0 (u6 #[bJ] J #[V]) Z fun Y=>a8 (.int .i64 0) (.int .i64 0) Z fun t4 W E k=>I y0 (U .lss J false false W Y) E fun t9=>Split t9 (I y0 (x7 bJ V W) E fun aa=>I y0 (x1 bg aa) E fun ab=>hS y0 false ao [ab] E fun ad X=>Split ad (ac W X) (I y0 (U .add J false true W (.int .i64 1)) X fun ae=>k t4 ae X)) (ac (.int .i64 (-1)) E)):O y0 qG [V,ao] Z ac:=aE Tryz.func280 rfl (by kernel_rfl) (by kernel_rfl) h
theorem oV.enter (h:aa y0 (Z2 bg ao) Z fun af aH=>@aB aS (fun aI ah=>Split aI (ac (.bool false) ah) (I y0 (x2 bg af 0) ah fun aJ=>I y0 (x1 ab aJ) ah fun aA=>I y0 (u6 #[ab] J #[aA]) ah fun aK=>a8 (.bool false) (.int .i64 0) ah fun t4 ai aj k=>I y0 (U .lss J false false ai aK) aj fun aL=>Split aL (I y0 (x7 ab aA ai) aj fun aM=>I y0 (x1 J aM) aj fun ak=>@aB aS (fun aN aq=>Split aN (ac (.bool false) aq) (I y0 (U .add J false true ai (.int .i64 1)) aq fun aO=>k t4 aO aq)) fun ap=>aQ aj fun E=>I y0 (U .lss J false true ak (.int .i64 0)) E fun aP=>Split aP ((Ext E E∨True∧True∧True∧True∧True)∧ap (.bool true) E) (I y0 (am V) E fun aR=>I y0 (x2 bf aR 2) E fun aT=>I y0 (x1 ab aT) E fun aU=>I y0 (u6 #[ab] J #[aU]) E fun t45=>I y0 (U .geq J false false ak t45) E fun t46=>Split t46 ((Ext E E∨True∧True∧True∧True∧True)∧ap (.bool true) E) (I y0 (x2 bg af 0) E fun aV=>I y0 (x1 ab aV) E fun t50=>O y0 hZ [t50,ak] E fun aW Y=>I y0 (U .neq J false false aW ai) Y fun aX=>Split aX ((Ext Y Y∨True∧True∧True∧True∧True)∧ap (.bool true) Y) (I y0 (x2 bg af 1) Y fun aY=>I y0 (x1 b5 aY) Y fun aZ=>I y0 (am V) Y fun au=>I y0 (x2 bf au 2) Y fun av=>I y0 (x1 ab av) Y fun t66=>I y0 (x7 ab t66 ak) Y fun aC=>I y0 (x1 J aC) Y fun aD=>O y0 k3 [aZ] Y fun a1 ad=>(Ext Y ad∨al y0 (x1 J aC) aD ad∧al y0 (x1 ab av) t66 ad∧al y0 (x2 bf au 2) av ad∧al y0 (am V) au ad∧True)∧I y0 (x7 ab a1 ai) ad fun a2=>I y0 (x1 J a2) ad fun a6=>I y0 (U .neq J false false a6 aD) ad fun t70=>ap t70 ad)))) (ac (.bool true) aj))) fun aw=>aQ aH fun W=>I y0 (x2 bg af 1) W fun a7=>I y0 (x1 b5 a7) W fun ba=>I y0 (U .eql b5 false true ba (.pointer none)) W fun t9=>Split t9 ((Ext W W∨True∧True∧True∧True)∧(Ext W W∨True∧True∧True∧True)∧aw (.bool true) W) (I y0 (x2 bg af 1) W fun bb=>I y0 (x1 b5 bb) W fun bc=>I y0 (am V) W fun ax=>I y0 (x2 bf ax 1) W fun ay=>I y0 (x1 ae ay) W fun aF=>O y0 pa [bc] W fun bd X=>(Ext W X∨al y0 (x1 ae ay) aF X∧al y0 (x2 bf ax 1) ay X∧al y0 (am V) ax X∧True)∧I y0 (U .neq ae false false bd aF) X fun be=>Split be ((Ext X X∨True∧True∧True∧True)∧aw (.bool true) X) (I y0 (x2 bg af 1) X fun bh=>I y0 (x1 b5 bh) X fun t22=>I y0 (x2 bg af 0) X fun az=>I y0 (x1 ab az) X fun t25=>I y0 (u6 #[ab] J #[t25]) X fun aG=>O y0 pb [t22] X fun bi ag=>(Ext X ag∨al y0 (u6 #[ab] J #[t25]) aG ag∧al y0 (x1 ab az) t25 ag∧al y0 (x2 bg af 0) az ag∧True)∧I y0 (U .neq J false false bi aG) ag fun bj=>aw bj ag))):O y0 oV [V,ao] Z ac:=aE Tryz.func281 rfl (by kernel_rfl) (by kernel_rfl) h
theorem oW.enter (h:I y0 (u6 #[ab] J #[V]) Z fun t4=>I y0 (convert J hv t4) Z fun E=>O y0 oj [E] Z fun t9 U=>O y0 mK [V,(.int .i64 0),t4,t9] U fun _ W=>ac (.tuple #[]) W):O y0 oW [V] Z ac:=aE Tryz.func282 rfl (by kernel_rfl) (by kernel_rfl) h
theorem h2.enter (h:I y0 (x1 ab ao) Z fun t5=>I y0 (u6 #[ab] J #[t5]) Z fun X=>bc (.int .i64 0) Z fun W E k=>I y0 (U .lss J false false W X) E fun Y=>Split Y (I y0 (x7 ab t5 W) E fun t9=>I y0 (x1 J t9) E fun aa=>hS y0 true V [aa] E fun ad O=>I y0 (Z5 .not ad) O fun ae=>Split ae (ac (.tuple #[]) O) (I y0 (U .add J false true W (.int .i64 1)) O fun af=>k af O)) (ac (.tuple #[]) E)):eA y0 h2 [V,ao] Z ac:=eA.enter (P:=y0) mixed (show y0.funcs[h2]? =some Tryz.f283 from Tryz.func283) rfl (by kernel_rfl) (by kernel_rfl) (by kernel_rfl) (Eq.mp (by kernel_rfl) h)
theorem mJ.enter (h:aa y0 (Z2 aJ V) Z fun U E=>I y0 (x2 aJ U 0) E fun t3=>I y0 (x1 ab t3) E fun t4=>I y0 (u6 #[ab] J #[t4]) E fun t5=>ac t5 E):O y0 mJ [V] Z ac:=aE Tryz.func284 rfl (by kernel_rfl) (by kernel_rfl) h
theorem jq.enter (h:aa y0 (Z2 aJ V) Z fun X E=>@aB aS (fun ad W=>Split ad (ac (.int .i64 0) W) (I y0 (x2 aJ X 0) W fun ae=>I y0 (x1 ab ae) W fun af=>I y0 (x7 ab af ao) W fun ag=>I y0 (x1 J ag) W fun ah=>ac ah W)) fun Y=>I y0 (U .lss J false true ao (.int .i64 0)) E fun ai=>Split ai (Y (.bool true) E) (I y0 (x2 aJ X 0) E fun t9=>I y0 (x1 ab t9) E fun aj=>I y0 (u6 #[ab] J #[aj]) E fun ak=>I y0 (U .geq J false false ao ak) E fun al=>Y al E)):O y0 jq [V,ao] Z ac:=aE Tryz.func285 rfl (by kernel_rfl) (by kernel_rfl) h
theorem oX.enter (h:@aB dL (fun E=>@aB aS (fun ad ae=>ac ad ae) fun X=>I y0 (u7.cap_ #[ab] J #[V]) E fun af=>I y0 (u6 #[ab] J #[V]) E fun ag=>I y0 (U .sub J false false af ag) E fun ah=>I y0 (U .sub J false false ao ah) E fun Y=>I y0 (U .gtr J false true Y (.int .i64 0)) E fun ai=>Split ai (I y0 (u7.cap_ #[ab] J #[V]) E fun aj=>I y0 (c7 ab V none (some aj) none) E fun ak=>aa y0 (r9 #[ab,J] ab #[ak,Y]) E fun t22 W=>I y0 (u6 #[ab] J #[V]) W fun al=>I y0 (c7 ab t22 none (some al) none) W fun t25=>X t25 W) (X V E)) fun am=>I y0 (U .lss J false true ao (.int .i64 0)) Z fun ap=>Split ap (I y0 (Instr.makeInterface a1 (.string ⟨#[99,97,110,110,111,116,32,98,101,32,110,101,103,97,116,105,118,101]⟩)) Z fun _=>False) (am Z)):O y0 oX [V,ao] Z ac:=aE Tryz.func286 rfl (by kernel_rfl) (by kernel_rfl) h
theorem oY.enter (h:@aB dL (fun W=>I y0 (x7 af V (.int .i64 0)) W fun X=>I y0 (x1 ae X) W fun Y=>a8 Y (.int .i64 1) W fun m i E k=>I y0 (u6 #[af] J #[V]) E fun aa=>I y0 (U .lss J false false i aa) E fun ab=>Split ab (I y0 (x7 af V i) E fun ad=>I y0 (x1 ae ad) E fun t22=>I y0 (u7.min_ #[ae,ae] ae #[m,t22]) E fun ag=>I y0 (U .add J false true i (.int .i64 1)) E fun ah=>k ag ah E) (ac m E)) fun ai=>I y0 (u6 #[af] J #[V]) Z fun aj=>I y0 (U .lss J false true aj (.int .i64 1)) Z fun ak=>Split ak (I y0 (Instr.makeInterface a1 (.string ⟨#[115,108,105,99,101,115,46,77,105,110,58,32,101,109,112,116,121,32,108,105,115,116]⟩)) Z fun _=>False) (ai Z)):O y0 oY [V] Z ac:=aE Tryz.func295 rfl (by kernel_rfl) (by kernel_rfl) h
theorem oZ.enter (h:O y0 mL [V] Z fun W X=>O y0 mL [ao] X fun J E=>Split W (Split J (ac (.int .i64 0) E) (ac (.int .i64 (-1)) E)) (Split J (ac (.int .i64 1) E) (I y0 (U .lss dz false false V ao) E fun Y=>Split Y (ac (.int .i64 (-1)) E) (I y0 (U .gtr dz false false V ao) E fun aa=>Split aa (ac (.int .i64 1) E) (ac (.int .i64 0) E))))):O y0 oZ [V,ao] Z ac:=aE Tryz.func296 rfl (by kernel_rfl) (by kernel_rfl) h
theorem o0.enter (h:O y0 mM [(.slice none 0 0),V] Z fun t4 E=>ac t4 E):O y0 o0 [V] Z ac:=aE Tryz.func297 rfl (by kernel_rfl) (by kernel_rfl) h
theorem gw.enter (h:I y0 (x1 dC ao) Z fun t4=>aa y0 (Instr.range dC t4) Z fun t5 X=>z6 X fun Y k=>ny y0 (true,0) (Instr.next t5 false 0) Y fun ab E=>I y0 (u5 ab 0) E fun ad=>Split ad (aa y0 (Instr.entry t5) E fun ae O=>I y0 (u5 ae 0) O fun t9=>aa y0 (n9 bh true (.tuple #[])) O fun U af=>aa y0 (x8 bh U t9) af fun _ W=>I y0 (x1 bh U) W fun ag=>hS y0 true V [ag] W fun ah J=>I y0 (Z5 .not ah) J fun ai=>Split ai (ac (.tuple #[]) J) (k J)) (ac (.tuple #[]) E)):eA y0 gw [V,ao] Z ac:=eA.enter (P:=y0) mixed (show y0.funcs[gw]? =some Tryz.f299 from Tryz.func299) rfl (by kernel_rfl) (by kernel_rfl) (by kernel_rfl) (Eq.mp (by kernel_rfl) h)
theorem o1.enter (h:I y0 (U .lss ae false false V ao) Z fun E=>Split E (ac V Z) (ac ao Z)):O y0 o1 [V,ao] Z ac:=aE Tryz.func300 rfl (by kernel_rfl) (by kernel_rfl) h
theorem o2.enter (h:I y0 (U .eql J false true ao (.int .i64 10)) Z fun aj=>Split aj (@aB aS (fun ak af=>Split ak (O y0 pc [V] af fun al am=>ac al am) (aa y0 (n9 gZ true (.tuple #[])) af fun a W=>I y0 (convert ae bD V) W fun ag=>@aB aS (fun u ap=>O y0 pd [u] ap fun Y ab=>I y0 (U .add J true false (.int .i64 1) Y) ab fun aq=>I y0 (c7 gZ a (some (.int .i64 1)) (some aq) none) ab fun au=>O y0 pe [au,u] ab fun _ E=>I y0 (U .lss ae false true V (.int .i64 0)) E fun av=>Split av (I y0 (x7 gZ a (.int .i64 0)) E fun aw=>aa y0 (x8 bb aw (.int .u8 45)) E fun _ X=>I y0 (U .add J true false (.int .i64 1) Y) X fun ax=>I y0 (c7 gZ a none (some ax) none) X fun ay=>I y0 (convert aV a1 ay) X fun t39=>ac t39 X) (I y0 (U .add J true false (.int .i64 1) Y) E fun az=>I y0 (c7 gZ a (some (.int .i64 1)) (some az) none) E fun aA=>I y0 (convert aV a1 aA) E fun aC=>ac aC E)) fun ah=>I y0 (U .lss ae false true V (.int .i64 0)) W fun aD=>Split aD (I y0 (Z5 .neg ag) W fun t25=>ah t25 W) (ah ag W))) fun ai=>I y0 (U .leq ae true false (.int .i64 0) V) Z fun aF=>Split aF (I y0 (U .lss ae false true V (.int .i64 100)) Z fun aG=>ai aG Z) (ai (.bool false) Z)) (I y0 (convert ae bD V) Z fun t46=>I y0 (U .lss ae false true V (.int .i64 0)) Z fun aH=>O y0 Ak [(.slice none 0 0),t46,ao,aH,(.bool false)] Z fun t50 ad=>I y0 (u5 t50 0) ad fun _=>I y0 (u5 t50 1) ad fun aI=>ac aI ad)):O y0 o2 [V,ao] Z ac:=aE Tryz.func302 rfl (by kernel_rfl) (by kernel_rfl) h
theorem pa.enter (h:I y0 (U .eql b5 false true V (.pointer none)) Z fun t4=>Split t4 (ac (.int .i64 0) Z) (I y0 (am V) Z fun E=>I y0 (x2 cL E 1) Z fun J=>I y0 (x1 ae J) Z fun W=>ac W Z)):O y0 pa [V] Z ac:=aE Tryz.func303 rfl (by kernel_rfl) (by kernel_rfl) h
theorem pb.enter (h:O y0 k3 [V] Z fun t4 E=>I y0 (u6 #[ab] J #[t4]) E fun t5=>ac t5 E):O y0 pb [V] Z ac:=aE Tryz.func304 rfl (by kernel_rfl) (by kernel_rfl) h
theorem mK.enter (h:jj ao bk fO (.bool true) (.bool true) Z fun E W ai aj am Y k=>I y0 (U .sub J false false W E) Y fun ap=>I y0 (U .leq J false true ap (.int .i64 12)) Y fun aM=>Split aM (O y0 pf [V,E,W] Y fun _ aN=>ac (.tuple #[]) aN) (I y0 (U .eql J false true ai (.int .i64 0)) Y fun aO=>Split aO (O y0 Al [V,E,W] Y fun _ aP=>ac (.tuple #[]) aP) (@aB aS (fun ae aR=>O y0 An [V,E,W] aR fun t46 af=>I y0 (u5 t46 0) af fun aq=>I y0 (u5 t46 1) af fun au=>aB (α:=x4→x4→x5→Prop) (fun(ak aT:x4) (ag:x5)=>@aB dL (fun aU=>@aB aS (fun aV av=>Split aV (O y0 Aq [V,E,W,ak] av fun aW aX=>k aW W ae aj am aX) (O y0 Ar [V,E,W,ak] av fun aw X=>I y0 (u5 aw 0) X fun ad=>I y0 (u5 aw 1) X fun ax=>I y0 (U .sub J false false ad E) X fun ay=>I y0 (U .sub J false false W ad) X fun az=>I y0 (U .quo J false true ap (.int .i64 8)) X fun aA=>I y0 (U .lss J false false ay az) X fun aY=>Split aY (I y0 (U .geq J false false ay aA) X fun aZ=>O y0 mK [V,E,ad,ae] X fun _ aC=>I y0 (U .add J false true ad (.int .i64 1)) aC fun a1=>k a1 W ae aZ ax aC) (I y0 (U .geq J false false az aA) X fun a2=>I y0 (U .add J false true ad (.int .i64 1)) X fun a6=>O y0 mK [V,a6,W,ae] X fun _ a7=>k E ad ae a2 ax a7))) fun aD=>aQ aU fun aa=>I y0 (U .gtr J false true E (.int .i64 0)) aa fun a8=>Split a8 (I y0 (U .sub J false true E (.int .i64 1)) aa fun ba=>I y0 (x7 ab V ba) aa fun bb=>I y0 (x1 J bb) aa fun bc=>I y0 (x7 ab V ak) aa fun bd=>I y0 (x1 J bd) aa fun be=>O y0 cmp_Less_int [bc,be] aa fun bf aF=>I y0 (Z5 .not bf) aF fun bg=>aD bg aF) (aD (.bool false) aa)) fun aG=>@aB aS (fun bh aH=>Split bh (O y0 Ap [V,E,W] aH fun bi aI=>Split bi (ac (.tuple #[]) aI) (aG aI)) (aG aH)) fun al=>Split aj (Split am (I y0 (U .eql vb false true aT (.int .i64 1)) ag fun bj=>al bj ag) (al (.bool false) ag)) (al (.bool false) ag)) fun aJ=>I y0 (U .eql vb false true au (.int .i64 2)) af fun t50=>Split t50 (O y0 Ao [V,E,W] af fun _ ah=>I y0 (U .sub J false true W (.int .i64 1)) ah fun bl=>I y0 (U .sub J false false aq E) ah fun bm=>I y0 (U .sub J false false bl bm) ah fun bn=>aJ bn (.int .i64 1) ah) (aJ aq au af)) fun aK=>I y0 (Z5 .not aj) Y fun bo=>Split bo (O y0 Am [V,E,W] Y fun _ aL=>I y0 (U .sub J false true ai (.int .i64 1)) aL fun bp=>aK bp aL) (aK ai Y)))):O y0 mK [V,ao,bk,fO] Z ac:=aE Tryz.func305 rfl (by kernel_rfl) (by kernel_rfl) h
theorem mL.enter (h:I y0 (U .neq dz false false V V) Z fun t5=>ac t5 Z):O y0 mL [V] Z ac:=aE Tryz.func309 rfl (by kernel_rfl) (by kernel_rfl) h
theorem mM.enter (h:aa y0 (Z2 et V) Z fun E W=>uS y0 ao W (fun X Y k=>aa y0 (n9 bh true (.tuple #[])) Y fun v ab=>aa y0 (x8 bh v X) ab fun _ ad=>Over ad fun J=>I y0 (x1 et E) J fun ae=>I y0 (x1 bh v) J fun t9=>aa y0 (u9 et 1 #[(0,t9)]) J fun af ag=>aa y0 (r9 #[et,et] et #[ae,af]) ag fun ah ai=>aa y0 (x8 et E ah) ai fun _ aj=>k .normal aj) (fun U=>I y0 (x1 et E) U fun ak=>fY U fun al=>ac ak al) (fun _=>False) []):O y0 mM [V,ao] Z ac:=O.enter (P:=y0) mixed (show y0.funcs[mM]? =some Tryz.f310 from Tryz.func310) rfl (by kernel_rfl) (by kernel_rfl) (by kernel_rfl) (Eq.mp (by kernel_rfl) h)
theorem pc.enter (h:I y0 (U .lss J false true V (.int .i64 10)) Z fun t4=>Split t4 (I y0 (U .add J false true V (.int .i64 1)) Z fun E=>I y0 (c7 a1 (.string ⟨#[48,49,50,51,52,53,54,55,56,57,97,98,99,100,101,102,103,104,105,106,107,108,109,110,111,112,113,114,115,116,117,118,119,120,121,122]⟩) (some V) (some E) none) Z fun W=>ac W Z) (I y0 (U .mul J false true V (.int .i64 2)) Z fun X=>I y0 (U .mul J false true V (.int .i64 2)) Z fun Y=>I y0 (U .add J false true Y (.int .i64 2)) Z fun aa=>I y0 (c7 a1 (.string ⟨#[48,48,48,49,48,50,48,51,48,52,48,53,48,54,48,55,48,56,48,57,49,48,49,49,49,50,49,51,49,52,49,53,49,54,49,55,49,56,49,57,50,48,50,49,50,50,50,51,50,52,50,53,50,54,50,55,50,56,50,57,51,48,51,49,51,50,51,51,51,52,51,53,51,54,51,55,51,56,51,57,52,48,52,49,52,50,52,51,52,52,52,53,52,54,52,55,52,56,52,57,53,48,53,49,53,50,53,51,53,52,53,53,53,54,53,55,53,56,53,57,54,48,54,49,54,50,54,51,54,52,54,53,54,54,54,55,54,56,54,57,55,48,55,49,55,50,55,51,55,52,55,53,55,54,55,55,55,56,55,57,56,48,56,49,56,50,56,51,56,52,56,53,56,54,56,55,56,56,56,57,57,48,57,49,57,50,57,51,57,52,57,53,57,54,57,55,57,56,57,57]⟩) (some X) (some aa) none) Z fun ab=>ac ab Z)):O y0 pc [V] Z ac:=aE Tryz.func312 rfl (by kernel_rfl) (by kernel_rfl) h
theorem pd.enter (h:O y0 kZ [V] Z fun t5 Y=>O y0 qH [t5] Y fun W E=>I y0 (x7 ph (.pointer (some ⟨1,0,none⟩)) W) E fun aa=>I y0 (x1 bD aa) E fun ab=>I y0 (U .geq bD false false V ab) E fun ad=>O y0 qI [ad] E fun ae X=>I y0 (U .add J false false W ae) X fun af=>ac af X):O y0 pd [V] Z ac:=aE Tryz.func313 rfl (by kernel_rfl) (by kernel_rfl) h
theorem h2.enters:Enters y0 h2:=Enters.of y0 (show y0.funcs[h2]? =some Tryz.f283 from Tryz.func283) rfl (by kernel_rfl)
theorem gw.enters:Enters y0 gw:=Enters.of y0 (show y0.funcs[gw]? =some Tryz.f299 from Tryz.func299) rfl (by kernel_rfl)
end
section
variable {Z:x5} {ac:aS} {V ao bk fO jr k6 k7 k8 k9 la lb ld:x4}
theorem pe.enter (h:I y0 (u6 #[aV] J #[V]) Z fun be=>a8 ao be Z fun aw nd E k=>I y0 (U .geq J false true nd (.int .i64 8)) E fun bf=>Split bf (I y0 (U .rem bD false true aw (.int .u64 100000000)) E fun t22=>I y0 (convert bD cY t22) E fun aH=>I y0 (U .quo bD false true aw (.int .u64 100000000)) E fun t25=>I y0 (U .quo cY false true aH (.int .u32 10000)) E fun aI=>I y0 (U .rem cY false true aH (.int .u32 10000)) E fun aJ=>I y0 (U .quo cY false true aJ (.int .u32 100)) E fun bg=>I y0 (U .mul cY false true bg (.int .u32 2)) E fun ax=>I y0 (U .rem cY false true aJ (.int .u32 100)) E fun bh=>I y0 (U .mul cY false true bh (.int .u32 2)) E fun ay=>I y0 (U .quo cY false true aI (.int .u32 100)) E fun bi=>I y0 (U .mul cY false true bi (.int .u32 2)) E fun az=>I y0 (U .rem cY false true aI (.int .u32 100)) E fun bj=>I y0 (U .mul cY false true bj (.int .u32 2)) E fun aA=>aQ E fun W=>I y0 (U .sub J false true nd (.int .i64 1)) W fun bk=>I y0 (U .sub J false true nd (.int .i64 2)) W fun aK=>I y0 (U .add cY false true ay (.int .u32 1)) W fun bl=>I y0 (Y0 a1 (.string ⟨#[48,48,48,49,48,50,48,51,48,52,48,53,48,54,48,55,48,56,48,57,49,48,49,49,49,50,49,51,49,52,49,53,49,54,49,55,49,56,49,57,50,48,50,49,50,50,50,51,50,52,50,53,50,54,50,55,50,56,50,57,51,48,51,49,51,50,51,51,51,52,51,53,51,54,51,55,51,56,51,57,52,48,52,49,52,50,52,51,52,52,52,53,52,54,52,55,52,56,52,57,53,48,53,49,53,50,53,51,53,52,53,53,53,54,53,55,53,56,53,57,54,48,54,49,54,50,54,51,54,52,54,53,54,54,54,55,54,56,54,57,55,48,55,49,55,50,55,51,55,52,55,53,55,54,55,55,55,56,55,57,56,48,56,49,56,50,56,51,56,52,56,53,56,54,56,55,56,56,56,57,57,48,57,49,57,50,57,51,57,52,57,53,57,54,57,55,57,56,57,57]⟩) bl) W fun t50=>I y0 (Y0 a1 (.string ⟨#[48,48,48,49,48,50,48,51,48,52,48,53,48,54,48,55,48,56,48,57,49,48,49,49,49,50,49,51,49,52,49,53,49,54,49,55,49,56,49,57,50,48,50,49,50,50,50,51,50,52,50,53,50,54,50,55,50,56,50,57,51,48,51,49,51,50,51,51,51,52,51,53,51,54,51,55,51,56,51,57,52,48,52,49,52,50,52,51,52,52,52,53,52,54,52,55,52,56,52,57,53,48,53,49,53,50,53,51,53,52,53,53,53,54,53,55,53,56,53,57,54,48,54,49,54,50,54,51,54,52,54,53,54,54,54,55,54,56,54,57,55,48,55,49,55,50,55,51,55,52,55,53,55,54,55,55,55,56,55,57,56,48,56,49,56,50,56,51,56,52,56,53,56,54,56,55,56,56,56,57,57,48,57,49,57,50,57,51,57,52,57,53,57,54,57,55,57,56,57,57]⟩) ay) W fun aL=>I y0 (x7 aV V bk) W fun t53=>aa y0 (x8 bb t53 t50) W fun _ aj=>(Ext W aj∨al y0 (Y0 a1 (.string ⟨#[48,48,48,49,48,50,48,51,48,52,48,53,48,54,48,55,48,56,48,57,49,48,49,49,49,50,49,51,49,52,49,53,49,54,49,55,49,56,49,57,50,48,50,49,50,50,50,51,50,52,50,53,50,54,50,55,50,56,50,57,51,48,51,49,51,50,51,51,51,52,51,53,51,54,51,55,51,56,51,57,52,48,52,49,52,50,52,51,52,52,52,53,52,54,52,55,52,56,52,57,53,48,53,49,53,50,53,51,53,52,53,53,53,54,53,55,53,56,53,57,54,48,54,49,54,50,54,51,54,52,54,53,54,54,54,55,54,56,54,57,55,48,55,49,55,50,55,51,55,52,55,53,55,54,55,55,55,56,55,57,56,48,56,49,56,50,56,51,56,52,56,53,56,54,56,55,56,56,56,57,57,48,57,49,57,50,57,51,57,52,57,53,57,54,57,55,57,56,57,57]⟩) ay) aL aj∧al y0 (U .sub J false true nd (.int .i64 2)) aK aj∧True)∧I y0 (x7 aV V aK) aj fun bm=>aa y0 (x8 bb bm aL) aj fun _ bn=>aQ bn fun X=>I y0 (U .sub J false true nd (.int .i64 3)) X fun bo=>I y0 (U .sub J false true nd (.int .i64 4)) X fun aM=>I y0 (U .add cY false true ax (.int .u32 1)) X fun bp=>I y0 (Y0 a1 (.string ⟨#[48,48,48,49,48,50,48,51,48,52,48,53,48,54,48,55,48,56,48,57,49,48,49,49,49,50,49,51,49,52,49,53,49,54,49,55,49,56,49,57,50,48,50,49,50,50,50,51,50,52,50,53,50,54,50,55,50,56,50,57,51,48,51,49,51,50,51,51,51,52,51,53,51,54,51,55,51,56,51,57,52,48,52,49,52,50,52,51,52,52,52,53,52,54,52,55,52,56,52,57,53,48,53,49,53,50,53,51,53,52,53,53,53,54,53,55,53,56,53,57,54,48,54,49,54,50,54,51,54,52,54,53,54,54,54,55,54,56,54,57,55,48,55,49,55,50,55,51,55,52,55,53,55,54,55,55,55,56,55,57,56,48,56,49,56,50,56,51,56,52,56,53,56,54,56,55,56,56,56,57,57,48,57,49,57,50,57,51,57,52,57,53,57,54,57,55,57,56,57,57]⟩) bp) X fun bq=>I y0 (Y0 a1 (.string ⟨#[48,48,48,49,48,50,48,51,48,52,48,53,48,54,48,55,48,56,48,57,49,48,49,49,49,50,49,51,49,52,49,53,49,54,49,55,49,56,49,57,50,48,50,49,50,50,50,51,50,52,50,53,50,54,50,55,50,56,50,57,51,48,51,49,51,50,51,51,51,52,51,53,51,54,51,55,51,56,51,57,52,48,52,49,52,50,52,51,52,52,52,53,52,54,52,55,52,56,52,57,53,48,53,49,53,50,53,51,53,52,53,53,53,54,53,55,53,56,53,57,54,48,54,49,54,50,54,51,54,52,54,53,54,54,54,55,54,56,54,57,55,48,55,49,55,50,55,51,55,52,55,53,55,54,55,55,55,56,55,57,56,48,56,49,56,50,56,51,56,52,56,53,56,54,56,55,56,56,56,57,57,48,57,49,57,50,57,51,57,52,57,53,57,54,57,55,57,56,57,57]⟩) ax) X fun aN=>I y0 (x7 aV V bo) X fun t66=>aa y0 (x8 bb t66 bq) X fun _ ak=>(Ext X ak∨al y0 (Y0 a1 (.string ⟨#[48,48,48,49,48,50,48,51,48,52,48,53,48,54,48,55,48,56,48,57,49,48,49,49,49,50,49,51,49,52,49,53,49,54,49,55,49,56,49,57,50,48,50,49,50,50,50,51,50,52,50,53,50,54,50,55,50,56,50,57,51,48,51,49,51,50,51,51,51,52,51,53,51,54,51,55,51,56,51,57,52,48,52,49,52,50,52,51,52,52,52,53,52,54,52,55,52,56,52,57,53,48,53,49,53,50,53,51,53,52,53,53,53,54,53,55,53,56,53,57,54,48,54,49,54,50,54,51,54,52,54,53,54,54,54,55,54,56,54,57,55,48,55,49,55,50,55,51,55,52,55,53,55,54,55,55,55,56,55,57,56,48,56,49,56,50,56,51,56,52,56,53,56,54,56,55,56,56,56,57,57,48,57,49,57,50,57,51,57,52,57,53,57,54,57,55,57,56,57,57]⟩) ax) aN ak∧al y0 (U .sub J false true nd (.int .i64 4)) aM ak∧True)∧I y0 (x7 aV V aM) ak fun br=>aa y0 (x8 bb br aN) ak fun _ bt=>aQ bt fun Y=>I y0 (U .sub J false true nd (.int .i64 5)) Y fun t70=>I y0 (U .sub J false true nd (.int .i64 6)) Y fun aO=>I y0 (U .add cY false true aA (.int .u32 1)) Y fun bu=>I y0 (Y0 a1 (.string ⟨#[48,48,48,49,48,50,48,51,48,52,48,53,48,54,48,55,48,56,48,57,49,48,49,49,49,50,49,51,49,52,49,53,49,54,49,55,49,56,49,57,50,48,50,49,50,50,50,51,50,52,50,53,50,54,50,55,50,56,50,57,51,48,51,49,51,50,51,51,51,52,51,53,51,54,51,55,51,56,51,57,52,48,52,49,52,50,52,51,52,52,52,53,52,54,52,55,52,56,52,57,53,48,53,49,53,50,53,51,53,52,53,53,53,54,53,55,53,56,53,57,54,48,54,49,54,50,54,51,54,52,54,53,54,54,54,55,54,56,54,57,55,48,55,49,55,50,55,51,55,52,55,53,55,54,55,55,55,56,55,57,56,48,56,49,56,50,56,51,56,52,56,53,56,54,56,55,56,56,56,57,57,48,57,49,57,50,57,51,57,52,57,53,57,54,57,55,57,56,57,57]⟩) bu) Y fun t76=>I y0 (Y0 a1 (.string ⟨#[48,48,48,49,48,50,48,51,48,52,48,53,48,54,48,55,48,56,48,57,49,48,49,49,49,50,49,51,49,52,49,53,49,54,49,55,49,56,49,57,50,48,50,49,50,50,50,51,50,52,50,53,50,54,50,55,50,56,50,57,51,48,51,49,51,50,51,51,51,52,51,53,51,54,51,55,51,56,51,57,52,48,52,49,52,50,52,51,52,52,52,53,52,54,52,55,52,56,52,57,53,48,53,49,53,50,53,51,53,52,53,53,53,54,53,55,53,56,53,57,54,48,54,49,54,50,54,51,54,52,54,53,54,54,54,55,54,56,54,57,55,48,55,49,55,50,55,51,55,52,55,53,55,54,55,55,55,56,55,57,56,48,56,49,56,50,56,51,56,52,56,53,56,54,56,55,56,56,56,57,57,48,57,49,57,50,57,51,57,52,57,53,57,54,57,55,57,56,57,57]⟩) aA) Y fun aP=>I y0 (x7 aV V t70) Y fun bw=>aa y0 (x8 bb bw t76) Y fun _ am=>(Ext Y am∨al y0 (Y0 a1 (.string ⟨#[48,48,48,49,48,50,48,51,48,52,48,53,48,54,48,55,48,56,48,57,49,48,49,49,49,50,49,51,49,52,49,53,49,54,49,55,49,56,49,57,50,48,50,49,50,50,50,51,50,52,50,53,50,54,50,55,50,56,50,57,51,48,51,49,51,50,51,51,51,52,51,53,51,54,51,55,51,56,51,57,52,48,52,49,52,50,52,51,52,52,52,53,52,54,52,55,52,56,52,57,53,48,53,49,53,50,53,51,53,52,53,53,53,54,53,55,53,56,53,57,54,48,54,49,54,50,54,51,54,52,54,53,54,54,54,55,54,56,54,57,55,48,55,49,55,50,55,51,55,52,55,53,55,54,55,55,55,56,55,57,56,48,56,49,56,50,56,51,56,52,56,53,56,54,56,55,56,56,56,57,57,48,57,49,57,50,57,51,57,52,57,53,57,54,57,55,57,56,57,57]⟩) aA) aP am∧al y0 (U .sub J false true nd (.int .i64 6)) aO am∧True)∧I y0 (x7 aV V aO) am fun bx=>aa y0 (x8 bb bx aP) am fun _ bz=>aQ bz fun ab=>I y0 (U .sub J false true nd (.int .i64 7)) ab fun bA=>I y0 (U .sub J false true nd (.int .i64 8)) ab fun aR=>I y0 (U .add cY false true az (.int .u32 1)) ab fun bB=>I y0 (Y0 a1 (.string ⟨#[48,48,48,49,48,50,48,51,48,52,48,53,48,54,48,55,48,56,48,57,49,48,49,49,49,50,49,51,49,52,49,53,49,54,49,55,49,56,49,57,50,48,50,49,50,50,50,51,50,52,50,53,50,54,50,55,50,56,50,57,51,48,51,49,51,50,51,51,51,52,51,53,51,54,51,55,51,56,51,57,52,48,52,49,52,50,52,51,52,52,52,53,52,54,52,55,52,56,52,57,53,48,53,49,53,50,53,51,53,52,53,53,53,54,53,55,53,56,53,57,54,48,54,49,54,50,54,51,54,52,54,53,54,54,54,55,54,56,54,57,55,48,55,49,55,50,55,51,55,52,55,53,55,54,55,55,55,56,55,57,56,48,56,49,56,50,56,51,56,52,56,53,56,54,56,55,56,56,56,57,57,48,57,49,57,50,57,51,57,52,57,53,57,54,57,55,57,56,57,57]⟩) bB) ab fun bC=>I y0 (Y0 a1 (.string ⟨#[48,48,48,49,48,50,48,51,48,52,48,53,48,54,48,55,48,56,48,57,49,48,49,49,49,50,49,51,49,52,49,53,49,54,49,55,49,56,49,57,50,48,50,49,50,50,50,51,50,52,50,53,50,54,50,55,50,56,50,57,51,48,51,49,51,50,51,51,51,52,51,53,51,54,51,55,51,56,51,57,52,48,52,49,52,50,52,51,52,52,52,53,52,54,52,55,52,56,52,57,53,48,53,49,53,50,53,51,53,52,53,53,53,54,53,55,53,56,53,57,54,48,54,49,54,50,54,51,54,52,54,53,54,54,54,55,54,56,54,57,55,48,55,49,55,50,55,51,55,52,55,53,55,54,55,55,55,56,55,57,56,48,56,49,56,50,56,51,56,52,56,53,56,54,56,55,56,56,56,57,57,48,57,49,57,50,57,51,57,52,57,53,57,54,57,55,57,56,57,57]⟩) az) ab fun aS=>I y0 (x7 aV V bA) ab fun bE=>aa y0 (x8 bb bE bC) ab fun _ ap=>(Ext ab ap∨al y0 (Y0 a1 (.string ⟨#[48,48,48,49,48,50,48,51,48,52,48,53,48,54,48,55,48,56,48,57,49,48,49,49,49,50,49,51,49,52,49,53,49,54,49,55,49,56,49,57,50,48,50,49,50,50,50,51,50,52,50,53,50,54,50,55,50,56,50,57,51,48,51,49,51,50,51,51,51,52,51,53,51,54,51,55,51,56,51,57,52,48,52,49,52,50,52,51,52,52,52,53,52,54,52,55,52,56,52,57,53,48,53,49,53,50,53,51,53,52,53,53,53,54,53,55,53,56,53,57,54,48,54,49,54,50,54,51,54,52,54,53,54,54,54,55,54,56,54,57,55,48,55,49,55,50,55,51,55,52,55,53,55,54,55,55,55,56,55,57,56,48,56,49,56,50,56,51,56,52,56,53,56,54,56,55,56,56,56,57,57,48,57,49,57,50,57,51,57,52,57,53,57,54,57,55,57,56,57,57]⟩) az) aS ap∧al y0 (U .sub J false true nd (.int .i64 8)) aR ap∧True)∧I y0 (x7 aV V aR) ap fun bF=>aa y0 (x8 bb bF aS) ap fun _ aT=>I y0 (U .sub J false true nd (.int .i64 8)) aT fun bG=>k t25 bG aT) (I y0 (convert bD cY aw) E fun aC=>aB (α:=x4→x4→x5→Prop) (fun(ag x:x4) (ah:x5)=>aB (α:=x4→x4→x5→Prop) (fun(bH bI:x4) (ai:x5)=>I y0 (U .gtr J false true bH (.int .i64 0)) ai fun bJ=>Split bJ (I y0 (U .add cY true false (.int .u32 48) bI) ai fun bK=>I y0 (convert cY bb bK) ai fun bL=>I y0 (x7 aV V (.int .i64 0)) ai fun bM=>aa y0 (x8 bb bM bL) ai fun _ bN=>ac (.tuple #[]) bN) (ac (.tuple #[]) ai)) fun aU=>I y0 (U .geq J false true ag (.int .i64 2)) ah fun bO=>Split bO (I y0 (U .rem cY false true x (.int .u32 100)) ah fun bP=>I y0 (U .mul cY false true bP (.int .u32 2)) ah fun aD=>I y0 (U .quo cY false true x (.int .u32 100)) ah fun bQ=>aQ ah fun ad=>I y0 (U .sub J false true ag (.int .i64 1)) ad fun bR=>I y0 (U .sub J false true ag (.int .i64 2)) ad fun aW=>I y0 (U .add cY false true aD (.int .u32 1)) ad fun bS=>I y0 (Y0 a1 (.string ⟨#[48,48,48,49,48,50,48,51,48,52,48,53,48,54,48,55,48,56,48,57,49,48,49,49,49,50,49,51,49,52,49,53,49,54,49,55,49,56,49,57,50,48,50,49,50,50,50,51,50,52,50,53,50,54,50,55,50,56,50,57,51,48,51,49,51,50,51,51,51,52,51,53,51,54,51,55,51,56,51,57,52,48,52,49,52,50,52,51,52,52,52,53,52,54,52,55,52,56,52,57,53,48,53,49,53,50,53,51,53,52,53,53,53,54,53,55,53,56,53,57,54,48,54,49,54,50,54,51,54,52,54,53,54,54,54,55,54,56,54,57,55,48,55,49,55,50,55,51,55,52,55,53,55,54,55,55,55,56,55,57,56,48,56,49,56,50,56,51,56,52,56,53,56,54,56,55,56,56,56,57,57,48,57,49,57,50,57,51,57,52,57,53,57,54,57,55,57,56,57,57]⟩) bS) ad fun bT=>I y0 (Y0 a1 (.string ⟨#[48,48,48,49,48,50,48,51,48,52,48,53,48,54,48,55,48,56,48,57,49,48,49,49,49,50,49,51,49,52,49,53,49,54,49,55,49,56,49,57,50,48,50,49,50,50,50,51,50,52,50,53,50,54,50,55,50,56,50,57,51,48,51,49,51,50,51,51,51,52,51,53,51,54,51,55,51,56,51,57,52,48,52,49,52,50,52,51,52,52,52,53,52,54,52,55,52,56,52,57,53,48,53,49,53,50,53,51,53,52,53,53,53,54,53,55,53,56,53,57,54,48,54,49,54,50,54,51,54,52,54,53,54,54,54,55,54,56,54,57,55,48,55,49,55,50,55,51,55,52,55,53,55,54,55,55,55,56,55,57,56,48,56,49,56,50,56,51,56,52,56,53,56,54,56,55,56,56,56,57,57,48,57,49,57,50,57,51,57,52,57,53,57,54,57,55,57,56,57,57]⟩) aD) ad fun aX=>I y0 (x7 aV V bR) ad fun bU=>aa y0 (x8 bb bU bT) ad fun _ aq=>(Ext ad aq∨al y0 (Y0 a1 (.string ⟨#[48,48,48,49,48,50,48,51,48,52,48,53,48,54,48,55,48,56,48,57,49,48,49,49,49,50,49,51,49,52,49,53,49,54,49,55,49,56,49,57,50,48,50,49,50,50,50,51,50,52,50,53,50,54,50,55,50,56,50,57,51,48,51,49,51,50,51,51,51,52,51,53,51,54,51,55,51,56,51,57,52,48,52,49,52,50,52,51,52,52,52,53,52,54,52,55,52,56,52,57,53,48,53,49,53,50,53,51,53,52,53,53,53,54,53,55,53,56,53,57,54,48,54,49,54,50,54,51,54,52,54,53,54,54,54,55,54,56,54,57,55,48,55,49,55,50,55,51,55,52,55,53,55,54,55,55,55,56,55,57,56,48,56,49,56,50,56,51,56,52,56,53,56,54,56,55,56,56,56,57,57,48,57,49,57,50,57,51,57,52,57,53,57,54,57,55,57,56,57,57]⟩) aD) aX aq∧al y0 (U .sub J false true ag (.int .i64 2)) aW aq∧True)∧I y0 (x7 aV V aW) aq fun bV=>aa y0 (x8 bb bV aX) aq fun _ aY=>I y0 (U .sub J false true ag (.int .i64 2)) aY fun bW=>aU bW bQ aY) (aU ag x ah)) fun aZ=>I y0 (U .geq J false true nd (.int .i64 4)) E fun bX=>Split bX (I y0 (U .rem cY false true aC (.int .u32 10000)) E fun a2=>I y0 (U .quo cY false true aC (.int .u32 10000)) E fun bY=>I y0 (U .quo cY false true a2 (.int .u32 100)) E fun bZ=>I y0 (U .mul cY false true bZ (.int .u32 2)) E fun aF=>I y0 (U .rem cY false true a2 (.int .u32 100)) E fun b1=>I y0 (U .mul cY false true b1 (.int .u32 2)) E fun aG=>aQ E fun ae=>I y0 (U .sub J false true nd (.int .i64 1)) ae fun b2=>I y0 (U .sub J false true nd (.int .i64 2)) ae fun a6=>I y0 (U .add cY false true aG (.int .u32 1)) ae fun b3=>I y0 (Y0 a1 (.string ⟨#[48,48,48,49,48,50,48,51,48,52,48,53,48,54,48,55,48,56,48,57,49,48,49,49,49,50,49,51,49,52,49,53,49,54,49,55,49,56,49,57,50,48,50,49,50,50,50,51,50,52,50,53,50,54,50,55,50,56,50,57,51,48,51,49,51,50,51,51,51,52,51,53,51,54,51,55,51,56,51,57,52,48,52,49,52,50,52,51,52,52,52,53,52,54,52,55,52,56,52,57,53,48,53,49,53,50,53,51,53,52,53,53,53,54,53,55,53,56,53,57,54,48,54,49,54,50,54,51,54,52,54,53,54,54,54,55,54,56,54,57,55,48,55,49,55,50,55,51,55,52,55,53,55,54,55,55,55,56,55,57,56,48,56,49,56,50,56,51,56,52,56,53,56,54,56,55,56,56,56,57,57,48,57,49,57,50,57,51,57,52,57,53,57,54,57,55,57,56,57,57]⟩) b3) ae fun b4=>I y0 (Y0 a1 (.string ⟨#[48,48,48,49,48,50,48,51,48,52,48,53,48,54,48,55,48,56,48,57,49,48,49,49,49,50,49,51,49,52,49,53,49,54,49,55,49,56,49,57,50,48,50,49,50,50,50,51,50,52,50,53,50,54,50,55,50,56,50,57,51,48,51,49,51,50,51,51,51,52,51,53,51,54,51,55,51,56,51,57,52,48,52,49,52,50,52,51,52,52,52,53,52,54,52,55,52,56,52,57,53,48,53,49,53,50,53,51,53,52,53,53,53,54,53,55,53,56,53,57,54,48,54,49,54,50,54,51,54,52,54,53,54,54,54,55,54,56,54,57,55,48,55,49,55,50,55,51,55,52,55,53,55,54,55,55,55,56,55,57,56,48,56,49,56,50,56,51,56,52,56,53,56,54,56,55,56,56,56,57,57,48,57,49,57,50,57,51,57,52,57,53,57,54,57,55,57,56,57,57]⟩) aG) ae fun a7=>I y0 (x7 aV V b2) ae fun b5=>aa y0 (x8 bb b5 b4) ae fun _ au=>(Ext ae au∨al y0 (Y0 a1 (.string ⟨#[48,48,48,49,48,50,48,51,48,52,48,53,48,54,48,55,48,56,48,57,49,48,49,49,49,50,49,51,49,52,49,53,49,54,49,55,49,56,49,57,50,48,50,49,50,50,50,51,50,52,50,53,50,54,50,55,50,56,50,57,51,48,51,49,51,50,51,51,51,52,51,53,51,54,51,55,51,56,51,57,52,48,52,49,52,50,52,51,52,52,52,53,52,54,52,55,52,56,52,57,53,48,53,49,53,50,53,51,53,52,53,53,53,54,53,55,53,56,53,57,54,48,54,49,54,50,54,51,54,52,54,53,54,54,54,55,54,56,54,57,55,48,55,49,55,50,55,51,55,52,55,53,55,54,55,55,55,56,55,57,56,48,56,49,56,50,56,51,56,52,56,53,56,54,56,55,56,56,56,57,57,48,57,49,57,50,57,51,57,52,57,53,57,54,57,55,57,56,57,57]⟩) aG) a7 au∧al y0 (U .sub J false true nd (.int .i64 2)) a6 au∧True)∧I y0 (x7 aV V a6) au fun b6=>aa y0 (x8 bb b6 a7) au fun _ b7=>aQ b7 fun af=>I y0 (U .sub J false true nd (.int .i64 3)) af fun b8=>I y0 (U .sub J false true nd (.int .i64 4)) af fun ba=>I y0 (U .add cY false true aF (.int .u32 1)) af fun b9=>I y0 (Y0 a1 (.string ⟨#[48,48,48,49,48,50,48,51,48,52,48,53,48,54,48,55,48,56,48,57,49,48,49,49,49,50,49,51,49,52,49,53,49,54,49,55,49,56,49,57,50,48,50,49,50,50,50,51,50,52,50,53,50,54,50,55,50,56,50,57,51,48,51,49,51,50,51,51,51,52,51,53,51,54,51,55,51,56,51,57,52,48,52,49,52,50,52,51,52,52,52,53,52,54,52,55,52,56,52,57,53,48,53,49,53,50,53,51,53,52,53,53,53,54,53,55,53,56,53,57,54,48,54,49,54,50,54,51,54,52,54,53,54,54,54,55,54,56,54,57,55,48,55,49,55,50,55,51,55,52,55,53,55,54,55,55,55,56,55,57,56,48,56,49,56,50,56,51,56,52,56,53,56,54,56,55,56,56,56,57,57,48,57,49,57,50,57,51,57,52,57,53,57,54,57,55,57,56,57,57]⟩) b9) af fun ca=>I y0 (Y0 a1 (.string ⟨#[48,48,48,49,48,50,48,51,48,52,48,53,48,54,48,55,48,56,48,57,49,48,49,49,49,50,49,51,49,52,49,53,49,54,49,55,49,56,49,57,50,48,50,49,50,50,50,51,50,52,50,53,50,54,50,55,50,56,50,57,51,48,51,49,51,50,51,51,51,52,51,53,51,54,51,55,51,56,51,57,52,48,52,49,52,50,52,51,52,52,52,53,52,54,52,55,52,56,52,57,53,48,53,49,53,50,53,51,53,52,53,53,53,54,53,55,53,56,53,57,54,48,54,49,54,50,54,51,54,52,54,53,54,54,54,55,54,56,54,57,55,48,55,49,55,50,55,51,55,52,55,53,55,54,55,55,55,56,55,57,56,48,56,49,56,50,56,51,56,52,56,53,56,54,56,55,56,56,56,57,57,48,57,49,57,50,57,51,57,52,57,53,57,54,57,55,57,56,57,57]⟩) aF) af fun bc=>I y0 (x7 aV V b8) af fun cb=>aa y0 (x8 bb cb ca) af fun _ av=>(Ext af av∨al y0 (Y0 a1 (.string ⟨#[48,48,48,49,48,50,48,51,48,52,48,53,48,54,48,55,48,56,48,57,49,48,49,49,49,50,49,51,49,52,49,53,49,54,49,55,49,56,49,57,50,48,50,49,50,50,50,51,50,52,50,53,50,54,50,55,50,56,50,57,51,48,51,49,51,50,51,51,51,52,51,53,51,54,51,55,51,56,51,57,52,48,52,49,52,50,52,51,52,52,52,53,52,54,52,55,52,56,52,57,53,48,53,49,53,50,53,51,53,52,53,53,53,54,53,55,53,56,53,57,54,48,54,49,54,50,54,51,54,52,54,53,54,54,54,55,54,56,54,57,55,48,55,49,55,50,55,51,55,52,55,53,55,54,55,55,55,56,55,57,56,48,56,49,56,50,56,51,56,52,56,53,56,54,56,55,56,56,56,57,57,48,57,49,57,50,57,51,57,52,57,53,57,54,57,55,57,56,57,57]⟩) aF) bc av∧al y0 (U .sub J false true nd (.int .i64 4)) ba av∧True)∧I y0 (x7 aV V ba) av fun cc=>aa y0 (x8 bb cc bc) av fun _ bd=>I y0 (U .sub J false true nd (.int .i64 4)) bd fun cd=>aZ cd bY bd) (aZ nd aC E))):O y0 pe [V,ao] Z ac:=aE Tryz.func314 rfl (by kernel_rfl) (by kernel_rfl) h
theorem pf.enter (h:I y0 (U .add J false true ao (.int .i64 1)) Z fun t9=>bc t9 Z fun i Y k=>I y0 (U .lss J false false i bk) Y fun ah=>Split ah (bc i Y fun j ai aj=>@aB aS (fun ak ad=>Split ak (aQ ad fun E=>I y0 (U .sub J false true j (.int .i64 1)) E fun ae=>I y0 (U .sub J false true j (.int .i64 1)) E fun am=>I y0 (x7 ab V am) E fun ap=>I y0 (x1 J ap) E fun aq=>I y0 (x7 ab V j) E fun t45=>I y0 (x1 J t45) E fun t46=>I y0 (x7 ab V j) E fun au=>aa y0 (x8 J au aq) E fun _ X=>(Ext E X∨al y0 (U .sub J false true j (.int .i64 1)) ae X∧True)∧I y0 (x7 ab V ae) X fun av=>aa y0 (x8 J av t46) X fun _ af=>I y0 (U .sub J false true j (.int .i64 1)) af fun aw=>aj aw af) (I y0 (U .add J false true i (.int .i64 1)) ad fun ax=>k ax ad)) fun ag=>aQ ai fun W=>I y0 (U .gtr J false false j ao) W fun ay=>Split ay (I y0 (x7 ab V j) W fun t22=>I y0 (x1 J t22) W fun az=>I y0 (U .sub J false true j (.int .i64 1)) W fun aA=>I y0 (x7 ab V aA) W fun aC=>I y0 (x1 J aC) W fun aD=>O y0 cmp_Less_int [az,aD] W fun aF aG=>ag aF aG) (ag (.bool false) W)) (ac (.tuple #[]) Y)):O y0 pf [V,ao,bk] Z ac:=aE Tryz.func316 rfl (by kernel_rfl) (by kernel_rfl) h
theorem cmp_Less_int.enter (h:@aB aS (fun t4 Y=>ac t4 Y) fun W=>O y0 cmp_isNaN_int [V] Z fun aa X=>Split aa (O y0 cmp_isNaN_int [ao] X fun t9 E=>I y0 (Z5 .not t9) E fun ab=>Split ab (W (.bool true) E) (I y0 (U .lss J false false V ao) E fun ad=>W ad E)) (I y0 (U .lss J false false V ao) X fun ae=>W ae X)):O y0 cmp_Less_int [V,ao] Z ac:=aE Tryz.func322 rfl (by kernel_rfl) (by kernel_rfl) h
theorem qH.enter (h:I y0 (U .mul J false true V (.int .i64 78913)) Z fun t4=>I y0 (U .shr J false true t4 (.int .u64 18)) Z fun t5=>ac t5 Z):O y0 qH [V] Z ac:=aE Tryz.func334 rfl (by kernel_rfl) (by kernel_rfl) h
theorem qI.enter (h:Split V (ac (.int .i64 1) Z) (ac (.int .i64 0) Z)):O y0 qI [V] Z ac:=aE Tryz.func335 rfl (by kernel_rfl) (by kernel_rfl) h
end
end Go.Proofs.YtgbkinibgjmodaaGreatDoor
namespace Go.Vc
open Go Go.RowKit
structure aj (S:Nat→Prop) (w w':x5):Prop where
 size:w.heap.size≤w'.heap.size
 bw:∀ (r:Nat) (o:Obj),w.heap[r]? =some o→fw o=true→¬S r→w'.heap[r]? =some o
theorem Ext.ad {w w':x5} (S:Nat→Prop) (h:Ext w w'):aj S w w':=⟨h.size,fun r o E I _=>h.bw r o E I⟩
theorem aj.ext {S:Nat→Prop} {w w':x5} (h:aj S w w') (I:∀ r,r<w.heap.size→¬S r):Ext w w':=
 ⟨h.size,fun r o E J=>h.bw r o E J (I r (l7.1 E).1)⟩
theorem aj.refl (S:Nat→Prop) (w:x5):aj S w w:=⟨o7 _,fun _ _ h _ _=>h⟩
theorem aj.trans {S:Nat→Prop} {a b c:x5} (h:aj S a b) (k:aj S b c):aj S a c:=
 ⟨Y3 h.size k.size,fun r o J E I=>k.bw r o (h.bw r o J E I) E I⟩
theorem aj.mono {S T:Nat→Prop} {a b:x5} (h:aj S a b) (I:∀ r,r<a.heap.size→S r→T r):aj T a b:=
 ⟨h.size,fun r o E J O=>h.bw r o E J fun U=>O (I r (l7.1 E).1 U)⟩
theorem Ext.then {S:Nat→Prop} {a b c:x5} (h:Ext a b) (k:aj S b c) (J:∀ r,r<a.heap.size→¬S r):Ext a c:=
 ⟨Y3 h.size k.size,fun r o E I=>k.bw r o (h.bw r o E I) I (J r (l7.1 E).1)⟩
theorem sG {w:x5} {b o:Nat} {v:x4} (h:w.cell? ⟨b,o,none⟩=some v):∃ c e f,w.heap[b]? =some (.cells c e f)∧c[o]? =some v:=by
 simp only[x5.cell?] at h;split at h
 ·rename_i c e f E;exact⟨c,e,f,E,by simpa using h⟩
 ·cases h
theorem vc {S:Nat→Prop} {w w':x5} (E:aj S w w') {b o:Nat} (I:¬S b) {v:x4} (h:w.cell? ⟨b,o,none⟩=some v):w'.cell? ⟨b,o,none⟩=some v:=by
 obtain⟨c,e,f,J,O⟩:=sG h;simp[x5.cell?,E.bw b _ J rfl I,O]
theorem lf {w w':x5} (E:Ext w w') {b o:Nat} {v:x4} (h:w.cell? ⟨b,o,none⟩=some v):w'.cell? ⟨b,o,none⟩=some v:=
 vc (E.ad fun _=>False) (fun h=>h) h
theorem pi {w w':x5} (E:Ext w w') {b o:Nat} {cs:List x4} (h:w.rangeAt b o cs):w'.rangeAt b o cs:=fun j v I=>lf E (h j v I)
theorem qL {S:Nat→Prop} {w w':x5} (E:aj S w w') {b o:Nat} (I:¬S b) {cs:List x4} (h:w.rangeAt b o cs):w'.rangeAt b o cs:=fun j v J=>vc E I (h j v J)
def ak (w:x5) (g:Nat) (e:o6) (cs:List x4):Prop:=w.heap[g]? =some (.cells cs.toArray e (0,0))
theorem ak.ext {w w':x5} {g:Nat} {e:o6} {cs:List x4} (h:ak w g e cs) (E:Ext w w'):ak w' g e cs:=E.bw g _ h rfl
theorem ak.ad {S:Nat→Prop} {w w':x5} {g:Nat} {e:o6} {cs:List x4} (h:ak w g e cs) (E:aj S w w') (I:¬S g):ak w' g e cs:=E.bw g _ h rfl I
theorem ak.lt {w:x5} {g:Nat} {e:o6} {cs:List x4} (h:ak w g e cs):g<w.heap.size:=(l7.1 h).1
theorem ak.cell {w:x5} {g:Nat} {e:o6} {cs:List x4} (h:ak w g e cs) {o:Nat} {v:x4} (E:cs[o]? =some v):w.cell? ⟨g,o,none⟩=some v:=by
 unfold ak at h;simp[x5.cell?,h,E]
theorem ak.range {w:x5} {g:Nat} {e:o6} {cs:List x4} (h:ak w g e cs):w.rangeAt g 0 cs:=fun j v E=>by rw[V5];exact h.cell E
theorem ak.frozen {w:x5} {g:Nat} {e:o6} {cs:List x4} (h:ak w g e cs) (o:Nat) (E:Option Nat):w.frozen? ⟨g,o,E⟩=false:=by
 unfold ak at h;simp[x5.frozen?,h]
def b7 (w:x5) (k:Nat) (v:x4) (n:Nat) (cs:List x4):Prop:=
 cs.length=n*k∧ ∃ b o base cap,v= .slice base n cap∧n≤cap∧cap≤maxLen∧(0<n→base=some ⟨b,o,none⟩)∧w.rangeAt b o cs
theorem b7.ext {w w':x5} {k:Nat} {v:x4} {n:Nat} {cs:List x4} (h:b7 w k v n cs) (E:Ext w w'):b7 w' k v n cs:=by
 obtain⟨h1,b,o,base,cap,I,J,O,U,V⟩:=h;exact⟨h1,b,o,base,cap,I,J,O,U,pi E V⟩
theorem b7.le {w:x5} {k:Nat} {v:x4} {n:Nat} {cs:List x4} (h:b7 w k v n cs):n≤maxLen:=by
 obtain⟨_,_,_,_,_,_,E,I,_⟩:=h;exact Y3 E I
theorem b7.nil (w:x5) (k:Nat):b7 w k (.slice none 0 0) 0 []:=⟨by simp,0,0,none,0,rfl,o7 _,Z9 _,fun h=>absurd h (Nat.lt_irrefl _),fun j v h=>by simp at h⟩
def aI (P:X1) (t:o6) (k b:Nat) (z:x4):Prop:=∃ i,P.info? t=some i∧i.size=k∧i.bytes=b∧i.zero=some z
theorem aI.of {P:X1} {t:o6} {k b:Nat} {z:x4} (h:(P.info? t).map (fun i=>(i.size,i.bytes,i.zero))=some (k,b,some z)):aI P t k b z:=by
 cases hi:P.info? t with
 |none=>simp[hi] at h
 |some i=>simp[hi] at h;exact⟨i,hi,h⟩
theorem aI.size {P:X1} {t:o6} {k b:Nat} {z:x4} (h:aI P t k b z):(P.info? t).map (·.size)=some k:=by
 obtain⟨i,hi,E,_⟩:=h;simp[hi,E]
def bH (P:X1) (t:o6) (I:List (Nat×Nat)):Prop:=∃ E,P.underlying t=some (.struct E)∧E.toList.map (fun f=>(f.offset,((P.info? f.type).map (·.size)).getD 0))=I
def vd (P:X1) (t:o6):Option (List (Nat×Nat)):=match P.underlying t with
 |some (.struct E)=>some (E.toList.map fun f=>(f.offset,((P.info? f.type).map (·.size)).getD 0))
 |_=>none
theorem bH.of {P:X1} {t:o6} {E:List (Nat×Nat)} (h:vd P t=some E):bH P t E:=by
 unfold vd at h;split at h
 ·rename_i I hu;exact⟨I,hu,by simpa using h⟩
 ·cases h
section
variable {P:X1} {w:x5}
theorem I.of {s:Sem x4} {v:x4} {K:x4→Prop} (h:∀ w',Ext w w'→s.run P w'= .ok v w'):I P s w K=K v:=by
 refine propext ⟨fun⟨E,h',k⟩=>?_,fun k=>⟨v,h,k⟩⟩;have:=h' w (Ext.refl w);rw[h w (Ext.refl w)] at this;cases this;exact k
theorem aa.of {α:Type} {s:Sem α} {v:α} {w':x5} {K:α→x5→Prop} (h:s.run P w= .ok v w') (E:cP w w') (k:K v w'):aa P s w K:=⟨v,w',h,E,k⟩
theorem cE {c:Bool} {A B:Prop}:Split (.bool c) A B=((c=true→A)∧(c=false→B)):=by
 refine propext ⟨fun⟨I,h,h1,E⟩=>?_,fun⟨h1,E⟩=>⟨c,rfl,h1,E⟩⟩;cases h;exact⟨h1,E⟩
theorem ag {p:Prop} [Decidable p] {A B:Prop}:Split (.bool (decide p)) A B=((p→A)∧(¬p→B)):=by rw[cE];simp
theorem bP {A B:Prop}:Split (.bool true) A B=A:=by rw[cE];simp
theorem aT {A B:Prop}:Split (.bool false) A B=B:=by rw[cE];simp
theorem aK {t:o6} {cx cy:Bool} {k:o8} {a b:Int} {K:x4→Prop}:I P (U .add t cx cy (.int k a) (.int k b)) w K=K (.int k (k.wrap (a+b))):=
 I.of fun w' _=>by simp[U,eqGuard,binOp,Op.intArith]
theorem dD {t:o6} {cx cy:Bool} {k:o8} {a b:Int} {K:x4→Prop}:I P (U .sub t cx cy (.int k a) (.int k b)) w K=K (.int k (k.wrap (a-b))):=
 I.of fun w' _=>by simp[U,eqGuard,binOp,Op.intArith]
theorem fA {t:o6} {cx cy:Bool} {k:o8} {a b:Int} {K:x4→Prop}:I P (U .mul t cx cy (.int k a) (.int k b)) w K=K (.int k (k.wrap (a*b))):=
 I.of fun w' _=>by simp[U,eqGuard,binOp,Op.intArith]
theorem qM {t:o6} {cx cy:Bool} {k:o8} {a b:Int} {K:x4→Prop} (E:b≠0):I P (U .quo t cx cy (.int k a) (.int k b)) w K=K (.int k (k.wrap (a.tdiv b))):=
 I.of fun w' _=>by simp[U,eqGuard,binOp,Op.intDiv,E]
theorem pj {t:o6} {cx cy:Bool} {k:o8} {a b:Int} {K:x4→Prop} (E:b≠0):I P (U .rem t cx cy (.int k a) (.int k b)) w K=K (.int k (a.tmod b)):=
 I.of fun w' _=>by simp[U,eqGuard,binOp,Op.intDiv,E]
theorem au {t:o6} {cx cy:Bool} {k:o8} {a b:Int} {K:x4→Prop}:I P (U .lss t cx cy (.int k a) (.int k b)) w K=K (.bool (decide (a<b))):=
 I.of fun w' _=>by simp[U,eqGuard,binOp,Op.intCmp]
theorem pk {t:o6} {cx cy:Bool} {k:o8} {a b:Int} {K:x4→Prop}:I P (U .leq t cx cy (.int k a) (.int k b)) w K=K (.bool (decide (a≤b))):=
 I.of fun w' _=>by simp[U,eqGuard,binOp,Op.intCmp]
theorem bV {t:o6} {cx cy:Bool} {k:o8} {a b:Int} {K:x4→Prop}:I P (U .gtr t cx cy (.int k a) (.int k b)) w K=K (.bool (decide (b<a))):=
 I.of fun w' _=>by simp[U,eqGuard,binOp,Op.intCmp]
theorem cV {t:o6} {cx cy:Bool} {k:o8} {a b:Int} {K:x4→Prop}:I P (U .geq t cx cy (.int k a) (.int k b)) w K=K (.bool (decide (b≤a))):=
 I.of fun w' _=>by simp[U,eqGuard,binOp,Op.intCmp]
theorem bQ {t:o6} {cx cy:Bool} {k:o8} {a b:Int} {K:x4→Prop}:I P (U .eql t cx cy (.int k a) (.int k b)) w K=K (.bool (decide (a=b))):=
 I.of fun w' _=>by
  have:(a == b)=decide (a=b):=by by_cases h:a=b <;> simp[h]
  simp[U,eqGuard,binOp,Op.intCmp,this]
theorem bN {t:o6} {cx cy:Bool} {k:o8} {a b:Int} {K:x4→Prop}:I P (U .neq t cx cy (.int k a) (.int k b)) w K=K (.bool (decide (a≠b))):=
 I.of fun w' _=>by
  have:(a != b)=decide (a≠b):=by by_cases h:a=b <;> simp[h,bne]
  simp[U,eqGuard,binOp,Op.intCmp,this]
theorem ve {t:o6} {cx cy:Bool} {k E:o8} {a b:Int} {K:x4→Prop} (J:0≤b):I P (U .shl t cx cy (.int k a) (.int E b)) w K=K (.int k (k.wrap (a*2 ^ min b.toNat k.bits))):=
 I.of fun w' _=>by simp[U,eqGuard,binOp,Op.shift,show ¬b<0 by omega]
theorem b3 {c:Bool} {K:x4→Prop}:I P (Z5 .not (.bool c)) w K=K (.bool !c):=I.of fun w' _=>by simp[Z5]
theorem ka {k:o8} {a:Int} {K:x4→Prop}:I P (Z5 .neg (.int k a)) w K=K (.int k (k.wrap (0-a))):=I.of fun w' _=>by simp[Z5,Op.intArith]
theorem fc {s d:o6} {k E:o8} {a:Int} {K:x4→Prop} (J:P.underlying s=some (.int E)) (O:P.underlying d=some (.int k)):
  I P (convert s d (.int E a)) w K=K (.int k (k.wrap a)):=I.of fun w' _=>by simp[convert,run_underlying J,run_underlying O,Conv.intToInt]
theorem sH {t:o6} {cx cy:Bool} {x y:x4} {r:Bool} {K:x4→Prop} (E:∀ w',(eqGuard .eql t (aM cx) (aM cy) x y).run P w'= .ok () w')
  (J:binOp .eql t x y=(do pure (.bool (←Op.equal t x y)))) (h:∀ w',Ext w w'→(Op.equal t x y).run P w'= .ok r w'):I P (U .eql t cx cy x y) w K=K (.bool r):=I.of fun w' O=>by
 unfold U;rw[J,Y2,E w',Result.andThen_ok,Y2,h w' O];rfl
theorem As {t:o6} {cx cy:Bool} {x y:x4} {r:Bool} {K:x4→Prop} (E:∀ w',(eqGuard .neq t (aM cx) (aM cy) x y).run P w'= .ok () w')
  (J:binOp .neq t x y=(do pure (.bool (!(←Op.equal t x y))))) (h:∀ w',Ext w w'→(Op.equal t x y).run P w'= .ok r w'):I P (U .neq t cx cy x y) w K=K (.bool !r):=I.of fun w' O=>by
 unfold U;rw[J,Y2,E w',Result.andThen_ok,Y2,h w' O];rfl
theorem vf (w:x5) (d:Nat) {t e:o6} {p:Option Addr} (h:P.underlying t=some (.pointer e)):(Op.equalIn (d+1) t (.pointer p) (.pointer none)).run P w= .ok p.isNone w:=by
 cases p <;> simp[Op.equalIn,run_underlying h]
theorem qN {t e:o6} {cx cy:Bool} {base:Option Addr} {n c:Nat} {K:x4→Prop} (E:P.underlying t=some (.slice e)):
  I P (U .eql t cx cy (.slice base n c) (.slice none 0 0)) w K=K (.bool base.isNone):=sH (fun _=>rfl) rfl fun w' _=>run_equal_slice_nil w' t e base n c E
theorem cZ {t e:o6} {cx cy:Bool} {p:Option Addr} {K:x4→Prop} (E:P.underlying t=some (.pointer e)):
  I P (U .eql t cx cy (.pointer p) (.pointer none)) w K=K (.bool p.isNone):=sH (fun _=>rfl) rfl fun w' _=>vf w' 9999 E
theorem vg {t e:o6} {cx cy:Bool} {p:Option Addr} {K:x4→Prop} (E:P.underlying t=some (.pointer e)):
  I P (U .neq t cx cy (.pointer p) (.pointer none)) w K=K (.bool !p.isNone):=As (fun _=>rfl) rfl fun w' _=>vf w' 9999 E
theorem gf {t e ty:o6} {base:Option Addr} {n c:Nat} {K:x4→Prop} (E:P.underlying t=some (.slice e)):
  I P (u6 #[t] ty #[.slice base n c]) w K=K (.int .i64 n):=I.of fun w' _=>by simp[u6,run_underlying E,goInt]
theorem kb {ci:Array o6} {ty:o6} {k:o8} {a b:Int} {K:x4→Prop}:
  I P (u7.min_ ci ty #[.int k a,.int k b]) w K=K (.int k (min a b)):=I.of fun w' _=>by
 simp only[u7.min_,List.foldlM,u7.min2];simp only[Y2,Y6,Result.andThen_ok,Int.min_def];congr 2;split <;> split <;> omega
theorem sI {ci:Array o6} {ty:o6} {k:o8} {a b:Int} {K:x4→Prop}:
  I P (u7.max_ ci ty #[.int k a,.int k b]) w K=K (.int k (max a b)):=I.of fun w' _=>by
 simp only[u7.max_,List.foldlM,u7.max2];simp only[Y2,Y6,Result.andThen_ok,Int.max_def];congr 2;split <;> split <;> omega
theorem aC {vs:Array x4} {i:Nat} {v:x4} {K:x4→Prop} (h:vs[i]? =some v):I P (u5 (.tuple vs) i) w K=K v:=I.of fun w' _=>by simp[u5,h]
theorem pm {f:Fn} {a b:Array x4} {K:x4→Prop}:I P (Instr.makeFunc f a b) w K=K (.func f a b):=I.of fun _ _=>rfl
def kc (P:X1) (t:o6):Bool:=match P.underlying t with
 |some (.struct _)|some (.array _ _)|none=>false
 |_=>true
theorem ai {t:o6} {b o:Nat} {v:x4} {K:x4→Prop} (E:kc P t=true) (h:w.cell? ⟨b,o,none⟩=some v):
  I P (x1 t (.pointer (some ⟨b,o,none⟩))) w K=K v:=I.of fun w' J=>by
 have h':=lf J h;unfold kc at E;cases hu:P.underlying t with
 |none=>rw[hu] at E;cases E
 |some d=>
  rw[hu] at E;cases d <;> first|(cases E;done)|simp[x1,Instr.sureAddr,loadVar,isAgg,run_underlying hu,h']
theorem sJ {t:o6} {d:TypeDesc} {b o k E:Nat} {z:x4} {cs:List x4} {K:x4→Prop} (hu:P.underlying t=some d) (J:d.isRow=true) (hi:aI P t k E z) (O:cs.length=k)
  (h:w.rangeAt b o cs):I P (x1 t (.pointer (some ⟨b,o,none⟩))) w K=K (.agg cs.toArray):=I.of fun w' U=>
 run_loadAt_mid (P:=P) w' b o t cs d (pi U h) hu J (by rw[hi.size,O])
theorem bI {t:o6} {E:List (Nat×Nat)} {b o k J:Nat} {z:x4} {cs:List x4} {K:x4→Prop} (hu:bH P t E) (hi:aI P t k J z) (O:cs.length=k)
  (h:w.rangeAt b o cs):I P (x1 t (.pointer (some ⟨b,o,none⟩))) w K=K (.agg cs.toArray):=by
 obtain⟨U,hu,_⟩:=hu;exact sJ hu rfl hi O h
theorem ah {t:o6} {U:List (Nat×Nat)} {i b o off z:Nat} {K:x4→Prop} (W:bH P t U) (E:U[i]? =some (off,z+1)):
  I P (x2 t (.pointer (some ⟨b,o,none⟩)) i) w K=K (.pointer (some ⟨b,o+off,none⟩)):=I.of fun w' _=>by
 obtain⟨X,hu,rfl⟩:=W;rw[r8] at E;cases J:X[i]? with
 |none=>rw[U7,J] at E;cases E
 |some f=>
  rw[U7,J] at E;simp only[b6,Z7,U2] at E;obtain⟨rfl,V⟩:=E;cases O:P.info? f.type with
  |none=>simp[O] at V
  |some j=>
   have Y:j.size=z+1:=by simpa[O] using V
   simp[x2,run_underlying hu,J,Instr.sureAddr,fieldPlace,sizeOf,typeInfo,O,Y,V9]
theorem vh {t e:o6} {k:o8} {i:Int} {b o n c z J:Nat} {O:x4} {base:Option Addr} {K:x4→Prop} (hu:P.underlying t=some (.slice e)) (U:aI P e z J O)
  (V:0≤i) (hi:i<n) (E:0<n→base=some ⟨b,o,none⟩):
  I P (x7 t (.slice base n c) (.int k i)) w K=K (.pointer (some ⟨b,o+i.toNat*z,none⟩)):=I.of fun w' _=>by
 have E:=E (by omega);subst E;obtain⟨j,W,X,_⟩:=U;simp[x7,asIntOf,run_underlying hu,V,hi,sizeOf,typeInfo,W,X,V9]
theorem gy {t e:o6} {k:o8} {i:Nat} {b o n c z E:Nat} {J:x4} {base:Option Addr} {K:x4→Prop} (hu:P.underlying t=some (.slice e)) (O:aI P e z E J)
  (hi:i<n) (U:0<n→base=some ⟨b,o,none⟩):
  I P (x7 t (.slice base n c) (.int k (i:Int))) w K=K (.pointer (some ⟨b,o+i*z,none⟩)):=by
 rw[vh (i:=(i:Int)) hu O (by omega) (by omega) U];rfl
theorem Au {t e:o6} {k:o8} {i:Int} {b o n z E:Nat} {J:x4} {K:x4→Prop} (hu:P.underlying t=some (.array n e)) (O:aI P e z E J)
  (U:0≤i) (hi:i<n):
  I P (x7 t (.pointer (some ⟨b,o,none⟩)) (.int k i)) w K=K (.pointer (some ⟨b,o+i.toNat*z,none⟩)):=I.of fun w' _=>by
 obtain⟨j,V,W,_⟩:=O;simp[x7,asIntOf,run_underlying hu,Instr.sureAddr,U,hi,sizeOf,typeInfo,V,W,V9]
theorem sK {t e:o6} {k:o8} {i:Nat} {b o n z E:Nat} {J:x4} {K:x4→Prop} (hu:P.underlying t=some (.array n e)) (O:aI P e z E J) (hi:i<n):
  I P (x7 t (.pointer (some ⟨b,o,none⟩)) (.int k (i:Int))) w K=K (.pointer (some ⟨b,o+i*z,none⟩)):=by
 rw[Au (i:=(i:Int)) hu O (by omega) (by omega)];rfl
theorem vi (i:Nat) (x:Int) {t e:o6} {k:o8} {b o n z E:Nat} {J:x4} {K:x4→Prop} (hu:P.underlying t=some (.array n e)) (O:aI P e z E J) (U:x=(i:Int)) (hi:i<n):
  I P (x7 t (.pointer (some ⟨b,o,none⟩)) (.int k x)) w K=K (.pointer (some ⟨b,o+i*z,none⟩)):=by
 subst U;exact sK hu O hi
def js:Option x4→Nat→Prop
 |none,l=>l=0
 |some v,l=>∃ k,v= .int k l
def jt:Option x4→Nat→Nat→Prop
 |none,n,h=>h=n
 |some v,_,h=>∃ k,v= .int k h
def maxOf:Option x4→Option x4→Nat→Nat→Prop
 |none,_,c,m=>m=c
 |some v,some _,_,m=>∃ k,v= .int k m
 |some _,none,_,_=>False
theorem qO {k:o8} {l:Nat}:js (some (.int k (l:Int))) l:=⟨_,rfl⟩
theorem lg (l:Nat) (x:Int) {k:o8} (h:x=(l:Int)):js (some (.int k x)) l:=⟨k,by rw[h]⟩
theorem lh (l:Nat) (x:Int) {k:o8} {n:Nat} (h:x=(l:Int)):jt (some (.int k x)) n l:=⟨k,by rw[h]⟩
theorem h3:js none 0:=rfl
theorem qP {k:o8} {n h:Nat}:jt (some (.int k (h:Int))) n h:=⟨_,rfl⟩
theorem h4 {n:Nat}:jt none n n:=rfl
theorem eY {h:Option x4} {c:Nat}:maxOf none h c c:=by cases h <;> rfl
theorem qQ (w:x5) {sl:Bool} {n c l h m:Nat} {low high mx:Option x4} (h1:js low l) (I:jt high n h) (E:maxOf mx high c m) (J:l≤h) (O:h≤m) (hm:m≤c):
  (Instr.sliceBounds sl n c low high mx).run P w= .ok (l,h,m) w:=by
 cases low <;> cases high <;> cases mx <;> simp only[js,jt,maxOf] at h1 I E <;> (try exact E.elim) <;> (try obtain⟨U,rfl⟩:=h1) <;> (try obtain⟨V,rfl⟩:=I) <;> (try obtain⟨W,rfl⟩:=E) <;> (try subst h1) <;> (try subst I) <;> (try subst E) <;>
  simp[Instr.sliceBounds,Instr.sliceBound,asIntOf,J,O,hm]
theorem gz {t e:o6} {n c z E l h m:Nat} {J:x4} {base:Option Addr} {low high mx:Option x4} {K:x4→Prop} (hu:P.underlying t=some (.slice e)) (O:aI P e z E J)
  (h1:js low l) (U:jt high n h) (V:maxOf mx high c m) (W:l≤h) (X:h≤m) (hm:m≤c):
  I P (c7 t (.slice base n c) low high mx) w K=K (.slice (if m=l then base else base.map (·.add (l*z))) (h-l) (m-l)):=I.of fun w' _=>by
 obtain⟨j,Y,Z,_⟩:=O;simp[c7,Instr.slice,run_underlying hu,qQ w' h1 U V W X hm,sizeOf,typeInfo,Y,Z]
theorem qR {t e:o6} {n z E l h m b o:Nat} {J:x4} {low high mx:Option x4} {K:x4→Prop} (hu:P.underlying t=some (.array n e)) (O:aI P e z E J)
  (h1:js low l) (U:jt high n h) (V:maxOf mx high n m) (W:l≤h) (X:h≤m) (hm:m≤n):
  I P (c7 t (.pointer (some ⟨b,o,none⟩)) low high mx) w K=K (.slice (some (if m=l then⟨b,o,none⟩ else⟨b,o+l*z,none⟩)) (h-l) (m-l)):=I.of fun w' _=>by
 obtain⟨j,Y,Z,_⟩:=O;simp[c7,Instr.sureAddr,run_underlying hu,qQ w' h1 U V W X hm,sizeOf,typeInfo,Y,Z,V9]
theorem cW {t:o6} {parts:Array (Nat×x4)} {cs:Array x4} {K:x4→Prop} (h:P.built t parts.toList=some cs):I P (Z0 t parts) w K=K (.agg cs):=I.of fun w' _=>
 run_build (P:=P) w' t parts cs h
end
theorem b7.part {w:x5} {k n c l h m:Nat} {base:Option Addr} {cs:List x4} (I:b7 w k (.slice base n c) n cs) (W:l≤h) (J:h≤n) (hm:h≤m) (X:m≤c):
  b7 w k (.slice (if m=l then base else base.map (·.add (l*k))) (h-l) (m-l)) (h-l) ((cs.drop (l*k)).take ((h-l)*k)):=by
 obtain⟨h1,b,o,Y,cap,he,Z,aa,O,U⟩:=I;cases he;have ab:h*k≤n*k:=X3 _ J;have ac:l*k+(h-l)*k=h*k:=by rw[←W7];congr 1;omega
 refine⟨by simp[h1];omega,b,o+l*k,_,m-l,rfl,by omega,by omega,fun ad=>?_,fun j v E=>?_⟩
 ·rw[O (by omega),if_neg (by omega)];simp[V9]
 ·have V:=(x6.1 E).1;simp at V;rw[Z6 (by omega),List.getElem?_drop] at E;rw[Nat.add_assoc];exact U _ _ E
section
variable {P:X1} {w:x5}
structure ha (g:Nat) (w w':x5):Prop where
 os:w'.os=w.os
 tape:ix w w'
 output:w'.output=w.output
 size:w'.heap.size=w.heap.size
 bw:∀ r,r≠g→w'.heap[r]? =w.heap[r]?
theorem ha.refl (g:Nat) (w:x5):ha g w w:=⟨rfl,.iy,rfl,rfl,fun _ _=>rfl⟩
theorem ha.trans {g:Nat} {a b c:x5} (h:ha g a b) (k:ha g b c):ha g a c:=
 ⟨k.os.trans h.os,k.tape.trans h.tape,k.output.trans h.output,k.size.trans h.size,fun r E=>(k.bw r E).trans (h.bw r E)⟩
theorem ha.ad {g:Nat} {w w':x5} (h:ha g w w'):aj (fun r=>r=g) w w':=⟨Nat.le_of_eq h.size.symm,fun r o E _ I=>by rw[h.bw r I];exact E⟩
theorem ha.db {g:Nat} {w w':x5} (h:ha g w w') {e:o6} {cs:List x4} (I:ak w g e cs):cP w w':=
 ⟨h.os,h.tape,h.output,Nat.le_of_eq h.size.symm,fun r o E O=>by
  by_cases J:r=g
  ·subst J;unfold ak at I;rw[I] at E;cases E;simp[fw] at O
  ·rw[h.bw r J];exact E⟩
theorem vj {g:Nat} {e:o6} {cs:List x4} (h:ak w g e cs) (o:Nat) (v:x4):ak (w.setCell ⟨g,o,none⟩ v) g e (cs.set o v)∧ha g w (w.setCell ⟨g,o,none⟩ v):=by
 unfold ak at h;refine⟨?_,rfl,.iy,rfl,by simp[x5.setCell],fun r E=>?_⟩
 ·simp[ak,x5.setCell,Array.getElem?_modify,h]
 ·simp[x5.setCell,Array.getElem?_modify,Ne.symm E]
def over (cs:List x4):Nat→List x4→List x4
 |_,[]=>cs
 |o,v::r=>over (cs.set o v) (o+1) r
theorem mP:∀ (vs cs:List x4) (o:Nat),(over cs o vs).length=cs.length
 |[],_,_=>rfl
 |v::r,cs,o=>by simp[over,mP r]
theorem pn:∀ (vs cs:List x4) (o:Nat),o+vs.length≤cs.length→ ∀ j,(over cs o vs)[j]? =if o≤j∧j<o+vs.length then vs[j-o]? else cs[j]?
 |[],cs,o,_,j=>by simp[over];intro h1 E;omega
 |v::r,cs,o,h,j=>by
  simp only[c8] at h;rw[over,pn r (cs.set o v) (o+1) (by simp;omega) j];simp only[c8];by_cases h1:o+1≤j∧j<o+1+r.length
  ·rw[if_pos h1,if_pos (by omega)];rw[show j-o=(j-(o+1))+1 by omega,List.getElem?_cons_succ]
  ·rw[if_neg h1];by_cases E:j=o
   ·subst E;rw[if_pos (by omega),V7 (by omega)];simp
   ·rw[if_neg (by omega),List.getElem?_set_ne (Ne.symm E)]
theorem kd {vs cs:List x4} {o:Nat} (h:o+vs.length≤cs.length):over cs o vs=cs.take o++vs++cs.drop (o+vs.length):=by
 apply X6;intro j;rw[pn vs cs o h];by_cases h1:j<o
 ·rw[if_neg (by omega),Z1 (by simp;omega),Z1 (by simp;omega),Z6 h1]
 ·by_cases E:j<o+vs.length
  ·rw[if_pos (by omega),Z1 (by simp;omega),Z4 (by simp;omega)];congr 1;simp;omega
  ·rw[if_neg (by omega),Z4 (by simp;omega),List.getElem?_drop];congr 1;simp;omega
theorem li {g:Nat} {e:o6}:∀ (vs:List x4) (cs:List x4) (o:Nat) (w:x5),ak w g e cs→ak (w.setCells g o vs) g e (over cs o vs)∧ha g w (w.setCells g o vs)
 |[],cs,o,w,h=>⟨h,ha.refl _ _⟩
 |v::r,cs,o,w,h=>by
  obtain⟨h1,E⟩:=vj h o v;obtain⟨I,J⟩:=li r (cs.set o v) (o+1) _ h1;exact⟨I,E.trans J⟩
theorem qS (w:x5) (c:List x4) (e:o6):ak (w.alloc (.cells c.toArray e)) w.heap.size e c∧Ext w (w.alloc (.cells c.toArray e))∧cP w (w.alloc (.cells c.toArray e)):=
 ⟨heap_alloc_new w _,nw w _,nx w _⟩
theorem bO {t:o6} {k E:Nat} {z:x4} {K:x4→x5→Prop} (hi:aI P t k E z)
  (h:∀ g w',g=w.heap.size→Ext w w'→ak w' g t z.cells.toList→K (.pointer (some ⟨g,0,none⟩)) w'):aa P (n9 t true (.tuple #[])) w K:=by
 obtain⟨i,hi,_,_,I⟩:=hi;obtain⟨h1,J,O⟩:=qS w z.cells.toList t;refine .of ?_ O (h _ _ rfl J h1);simp[n9,zeroValue,typeInfo,hi,I,newVar,newRow]
theorem ce {t:o6} {v:x4} {K:x4→x5→Prop}
  (h:∀ g w',g=w.heap.size→Ext w w'→ak w' g t v.cells.toList→K (.pointer (some ⟨g,0,none⟩)) w'):aa P (Z2 t v) w K:=by
 obtain⟨h1,E,I⟩:=qS w v.cells.toList t;refine .of ?_ I (h _ _ rfl E h1);simp[Z2,newVar,newRow]
def dd (z:Array x4) (n:Nat):List x4:=((Array.range n).map (z[·% z.size]!)).toList
theorem mQ (z:Array x4) (n:Nat):(dd z n).length=n:=by simp[dd]
theorem h5 {t e:o6} {k O:Nat} {z:x4} {n:Nat} {parts:Array (Nat×x4)} {cs:Array x4} {K:x4→x5→Prop} (J:P.underlying t=some (.slice e)) (hi:aI P e k O z)
  (Y:n*k≤2 ^ 24) (E:Instr.fill (fun j=>some (j*k,k)) ((Array.range (n*k)).map ((if n*k=0 then #[] else z.cells)[·% (if n*k=0 then #[] else z.cells).size]!)) parts.toList=some cs)
  (h:∀ g w',g=w.heap.size→Ext w w'→ak w' g e cs.toList→K (.slice (some ⟨g,0,none⟩) n n) w'):aa P (u9 t n parts) w K:=by
 obtain⟨i,hi,rfl,_,U⟩:=hi;obtain⟨h1,V,W⟩:=qS w cs.toList e;refine .of ?_ W (h _ _ rfl V h1);have X:¬(16777216<n*i.size):=by omega
 by_cases I:n*i.size=0
 ·simp only[I,if_true] at E;simp[u9,run_underlying J,sizeOf,typeInfo,hi,I,newRow];simp at E;simp[E]
 ·simp only[I,if_false] at E;simp[u9,run_underlying J,sizeOf,typeInfo,hi,X,I,newRow,zeroValue,U,E]
theorem bE {t:o6} {J g o:Nat} {z:x4} {e:o6} {cs:List x4} {v:x4} {K:Unit→x5→Prop} (hi:aI P t 1 J z) (h1:v.cells= #[v]) (O:v.oneCell'=true) (E:ak w g e cs) (U:o<cs.length)
  (h:∀ w',aj (fun r=>r=g) w w'→w'.heap.size=w.heap.size→ak w' g e (cs.set o v)→K () w'):aa P (x8 t (.pointer (some ⟨g,o,none⟩)) v) w K:=by
 obtain⟨i,hi,V,_⟩:=hi;obtain⟨W,I⟩:=vj E o v;refine .of (w':=w.setCell ⟨g,o,none⟩ v) ?_ (I.db E) (h _ I.ad I.size W);have X:=E.cell (x3 U);have Y:(⟨g,o,none⟩:Addr).add 0=⟨g,o,none⟩:=rfl;simp[x8,Instr.sureAddr,storeVar,sizeOf,typeInfo,hi,V,h1,storeCells,Y,run_store P w _ v _ O,X,E.frozen]
theorem vk {t:o6} {k J g o:Nat} {z:x4} {e:o6} {cs vs:List x4} {K:Unit→x5→Prop} (hi:aI P t k J z) (O:vs.length=k) (U:∀ v∈vs,v.oneCell'=true) (E:ak w g e cs) (X:o+vs.length≤cs.length)
  (h:∀ w',aj (fun r=>r=g) w w'→w'.heap.size=w.heap.size→ak w' g e (over cs o vs)→K () w'):aa P (x8 t (.pointer (some ⟨g,o,none⟩)) (.agg vs.toArray)) w K:=by
 obtain⟨V,I⟩:=li vs cs o w E;refine .of (w':=w.setCells g o vs) ?_ (I.db E) (h _ I.ad I.size V);exact run_storeAt_mid (P:=P) w g o t vs.toArray (fun j W=>⟨by rw[E.cell (x3 (show o+j<cs.length by simp at W;omega))];rfl,E.frozen _ _⟩) (by rw[hi.size];simp[O]) (by simpa using U)
def bL (w:x5) (g:Nat) (e:o6) (k:Nat) (v:x4) (n:Nat) (xs:List x4):Prop:=
 xs.length=n*k∧((v= .slice none 0 0∧n=0)∨ ∃ cap cs,v= .slice (some ⟨g,0,none⟩) n cap∧ak w g e cs∧n≤cap∧cap≤maxLen∧cs.length=cap*k∧cs.take (n*k)=xs)
theorem bL.nil (w:x5) (g:Nat) (e:o6) (k:Nat):bL w g e k (.slice none 0 0) 0 []:=⟨by simp,.inl ⟨rfl,rfl⟩⟩
theorem bL.full {g:Nat} {e:o6} {k n:Nat} {cs:List x4} (h:ak w g e cs) (E:cs.length=n*k) (I:n≤maxLen):bL w g e k (.slice (some ⟨g,0,none⟩) n n) n cs:=
 ⟨E,.inr ⟨n,cs,rfl,h,o7 _,I,E,by rw[←E,l5]⟩⟩
theorem bL.ad {g:Nat} {e:o6} {k:Nat} {v:x4} {n:Nat} {xs:List x4} {S:Nat→Prop} {w':x5} (h:bL w g e k v n xs) (I:aj S w w') (J:g<w.heap.size→¬S g):bL w' g e k v n xs:=
 ⟨h.1,h.2.imp id fun⟨cap,cs,h1,E,O⟩=>⟨cap,cs,h1,E.ad I (J E.lt),O⟩⟩
theorem bL.ext {g:Nat} {e:o6} {k:Nat} {v:x4} {n:Nat} {xs:List x4} {w':x5} (h:bL w g e k v n xs) (E:Ext w w'):bL w' g e k v n xs:=h.ad (E.ad fun _=>False) (fun _ h=>h)
theorem bL.sl {g:Nat} {e:o6} {k:Nat} {v:x4} {n:Nat} {xs:List x4} (h:bL w g e k v n xs):b7 w k v n xs:=by
 obtain⟨h1,⟨rfl,rfl⟩|⟨cap,cs,rfl,I,J,O,V,U⟩⟩:=h
 ·have:xs=[]:=j9 (by simpa using h1);subst this;exact b7.nil w k
 ·refine⟨h1,g,0,_,cap,rfl,J,O,fun _=>rfl,fun j v E=>?_⟩;rw[V5];have W:=(x6.1 E).1;rw[←U,Z6 (by omega)] at E;exact I.cell E
theorem b7.src {k:Nat} {x:x4} {m:Nat} {E:List x4} {J O:o6} (U:b7 w k x m E) (V:P.underlying J=some (.slice O)) (h1:∀ u∈E,u.oneCell'=true) (W:0<m):Src P k J x m E w:=by
 obtain⟨X,b,o,base,cap,rfl,_,_,I,Y⟩:=U;have I:=I W;subst I;exact Src.ofSlice w V ⟨b,o,none⟩ m cap E X (fun j u hu=>by rw[V9];exact Y j u hu) h1
theorem b7.Av {k:Nat} {x:x4} {J:List x4} {E O:o6} (U:b7 w k x 0 J) (I:P.underlying E=some (.slice O)):Src P k E x 0 [] w:=by
 obtain⟨V,b,o,base,cap,rfl,_,_,W,X⟩:=U;cases base with
 |none=>exact Src.ofNil w I cap
 |some a=>exact Src.ofSlice w I a 0 cap [] (by simp) (by simp) (by simp)
theorem vl {t J ty e ah av:o6} {z:x4} {k ai g n m:Nat} {v x:x4} {xs E:List x4} {K:x4→x5→Prop}
  (X:P.underlying t=some (.slice e)) (Y:P.underlying J=some (.slice av)) (hi:aI P e k ai z) (aw:z.cells.size=k)
  (ak:bL w g ah k v n xs) (W:b7 w k x m E) (h1:∀ u∈E,u.oneCell'=true) (ax:(n+m)*ai≤140737488355328) (al:n+m≤maxLen)
  (h:∀ Z ab w' ac,(ab=g∧ac=ah∧(v=Z∨g<w.heap.size∧v≠ .slice none 0 0)∨ab=w.heap.size∧ac=e)→bL w' ab ac k Z (n+m) (xs++E)→aj (fun r=>r=g∧v≠ .slice none 0 0) w w'→K Z w'):
  aa P (r9 #[t,J] ty #[v,x]) w K:=by
 obtain⟨i,hi,rfl,rfl,ay⟩:=hi;have az:=ak.sl;obtain⟨I,ae⟩:=ak;have O:=W.1;have grow:∀ (base:Option Addr) (cap:Nat),v= .slice base n cap→cap<n+m→0<m→(u7.firstCells i.size n (.slice base n cap)).run P w.drew= .ok xs.toArray w.drew→aa P (r9 #[t,J] ty #[v,x]) w K:=by
  rintro base cap rfl am hm aA;have U:=run_append_grow_src (P:=P) w t J ty e i z X hi ay base n cap xs aA x m E (W.src Y h1 hm) am (by simp only[maxLen] at al;omega) (growslice_fits am ax);have aB:n+m≤grownCap w (n+m) cap e:=grownCap_ge w _ _ _;have af:grownCap w (n+m) cap e≤maxLen:=grownCap_le_maxLen w (n+m) cap e al;have aC:Ext w (w.drew.alloc (.cells ((xs++E).toArray++u7.zeroCells z.cells (grownCap w (n+m) cap e-(n+m))) e)):=(qj w _).trans (nw _ _);refine .of U ((nv w _ (Nat.le_succ _)).trans (nx _ _)) (h _ w.heap.size _ _ (.inr ⟨rfl,rfl⟩) ⟨by simp[I,O,W7],.inr ⟨_,((xs++E).toArray++u7.zeroCells z.cells (grownCap w (n+m) cap e-(n+m))).toList,rfl,?_,aB,af,?_,?_⟩⟩ (aC.ad _))
  ·show _=_;rw[Array.toArray_toList];exact heap_alloc_new w.drew _
  ·simp[I,O,size_zeroCells,aw,←W7];congr 1;omega
  ·rw[Array.toList_append,List.toList_toArray,W7,←I,←O,←o5];exact List.take_left
 rcases Nat.eq_zero_or_pos m with rfl|hm
 ·have aD:E=[]:=j9 (by simpa using O);subst aD;have aE:=W.Av Y;have ao:∀ base cap,v= .slice base n cap→n≤cap→aa P (r9 #[t,J] ty #[v,x]) w K:=by
   rintro base cap rfl af;refine .of (run_append_nothing (P:=P) w t J ty e i X hi base n cap af x aE) (cP.refl _) (h _ g _ _ (.inl ⟨rfl,rfl,.inl rfl⟩) ?_ (aj.refl _ _));rw[Nat.add_zero,U3];exact⟨I,ae⟩
  obtain⟨rfl,rfl⟩|⟨cap,cs,rfl,_,ap,_⟩:=ae
  ·exact ao _ _ rfl (o7 _)
  ·exact ao _ _ rfl ap
 ·obtain⟨rfl,rfl⟩|⟨cap,cs,rfl,V,ap,aF,aq,aG⟩:=ae
  ·have aH:xs=[]:=j9 (by simpa using I);subst aH;exact grow none 0 rfl (by omega) hm (run_firstCells_none w.drew i.size 0 0 0)
  ·by_cases ag:n+m≤cap
   ·have aJ:n*i.size+E.length≤cs.length:=by rw[O,aq,←W7];exact X3 _ ag
    have U:=run_append_room_src (P:=P) w t J ty e i X hi g 0 n cap x m E (W.src Y h1 hm) ag
     (fun j aO=>by rw[V.cell (x3 (show 0+n*i.size+j<cs.length by omega))];rfl) (fun j _=>V.frozen _ _)
    obtain⟨aK,au⟩:=li E cs (n*i.size) w V;rw[V5] at U;refine .of U (au.db V) (h _ g _ _ (.inl ⟨rfl,rfl,.inr ⟨V.lt,by simp⟩⟩) ⟨by simp[I,O,W7],.inr ⟨cap,_,rfl,aK,ag,aF,by rw[mP,aq],?_⟩⟩ (au.ad.mono fun r _ h=>⟨h,by simp⟩));rw[kd aJ,aG,W7,←I,←O,←o5];exact List.take_left
   ·refine grow _ cap rfl (by omega) hm (run_firstCells_some w.drew i.size n _ n cap xs I fun j u hu=>?_);rw[V9];obtain⟨_,b,o,base,aP,he,_,_,aL,U⟩:=az;cases he;have aM:0<n:=by
     rcases Nat.eq_zero_or_pos n with rfl|aN
     ·simp at I;subst I;simp at hu
     ·exact aN
    have:=aL aM;cases this;simpa using U j u hu
theorem lj {t O ty e W:o6} {z:x4} {k U g n m:Nat} {v x:x4} {xs J:List x4} {K:x4→x5→Prop}
  (X:P.underlying t=some (.slice e)) (Y:P.underlying O=some (.slice W)) (hi:aI P e k U z) (Z:z.cells.size=k)
  (ab:bL w g e k v n xs) (ac:b7 w k x m J) (h1:∀ u∈J,u.oneCell'=true) (ad:(n+m)*U≤140737488355328) (ae:n+m≤maxLen)
  (h:∀ I E w',(E=g∨w.heap.size≤E)→bL w' E e k I (n+m) (xs++J)→aj (fun r=>r=g) w w'→K I w'):
  aa P (r9 #[t,O] ty #[v,x]) w K:=
 vl X Y hi Z ab ac h1 ad ae fun I E w' ag V hm af=>by
  refine h I E w' (V.imp And.left fun h=>Nat.le_of_eq h.1.symm) ?_ (af.mono fun r _ h=>h.1);obtain⟨_,rfl,_⟩|⟨_,rfl⟩:=V <;> exact hm
theorem vm {J U ty e:o6} {af g o E V n:Nat} {z:x4} {x:x4} {base:Option Addr} {cs xs:List x4} {Y:o6} {K:x4→x5→Prop} (Z:P.underlying J=some (.slice e)) (hi:aI P e 1 af z)
  (I:ak w g Y cs) (ag:0<E→base=some ⟨g,o,none⟩) (aw:o+E≤cs.length) (ah:b7 w 1 x n xs) (h1:∀ u∈xs,u.oneCell'=true)
  (h:∀ w',aj (fun r=>r=g) w w'→w'.heap.size=w.heap.size→ak w' g Y (over cs o (xs.take E))→K (.int .i64 (min n E:Nat)) w'):
  aa P (u7.copy_ #[J,U] ty #[.slice base E V,x]) w K:=by
 obtain⟨W,b,o',ai,cap,rfl,_,_,al,am⟩:=ah;simp only[U9] at W;have ab:(P.info? e).map (·.size)=some 1:=hi.size;by_cases O:Nat.min n E=0
 ·have he:xs.take E=[]:=j9 (by rw[l6,W];rw[Nat.min_comm];exact O);rw[he] at h;refine .of (run_copy_none (P:=P) w J U ty e base ai E V n cap Z ab O) (cP.refl _) ?_;have ac:min n E=0:=O;rw[ac] at h;exact h w (aj.refl _ _) rfl I
 ·have ac:min n E≠0:=O;have ao:=al (by omega);have ap:=ag (by omega);subst ao;subst ap;have ae:(xs.take E).length=min n E:=by rw[l6,W,Nat.min_comm]
  obtain⟨aq,X⟩:=li (xs.take E) cs o w I;have au:=run_copy_cells (P:=P) w J U ty e g o E V ⟨b,o',none⟩ n cap (xs.take E) Z ab ae
   (fun j u hu=>by
    rw[V9];have av:=(x6.1 hu).1;rw[Z6 (by omega)] at hu;exact am j u hu)
   (fun j av=>by rw[I.cell (x3 (show o+j<cs.length by omega))];rfl) (fun j _=>I.frozen _ _) (fun u hu=>h1 u (List.mem_of_mem_take hu))
  refine .of au (X.db I) ?_;rw[ae];exact h _ X.ad X.size aq
theorem O.mono {f:FuncId} {args:List x4} {K I:x4→x5→Prop} (h:O P f args w K) (J:∀ v w',cP w w'→K v w'→I v w'):O P f args w I:=by
 cases h with
 |code h1 E=>exact .code h1 (E.mono fun _ w' ⟨v,h1,U,E⟩=>⟨v,h1,U,J v w' U E⟩)
 |ext v w' h1 E V=>exact .ext v w' h1 E (J v w' E V)
theorem eA.mono {f:FuncId} {args:List x4} {K I:x4→x5→Prop} (h:eA P f args w K) (J:∀ v w',K v w'→I v w'):eA P f args w I:=by
 cases h with
 |code h1 E=>exact .code h1 (E.mono fun _ w' ⟨v,h1,E⟩=>⟨v,h1,J v w' E⟩)
 |ext v w' h1 O=>exact .ext v w' h1 (J v w' O)
theorem lS.mono {l:Nat} {args:List x4} {K E:x4→x5→Prop} (h:lS P l args w K) (I:∀ v w',K v w'→E v w'):lS P l args w E:=
 YieldAt.mono h fun _ w' ⟨v,h1,J⟩=>⟨v,h1,I v w' J⟩
end
end Go.Vc
namespace Go.Proofs.YtgbkinibgjmodaaGreatDoor
open Go Go.Vc Go.RowKit Go.Proofs Go.Proofs.Tryz
set_option maxRecDepth 100000
theorem ae.u:y0.underlying ae=some (.int .i64):=by kernel_rfl
theorem ae.i:aI y0 ae 1 8 (.int .i64 0):=aI.of (by kernel_rfl)
theorem J.u:y0.underlying J=some (.int .i64):=by kernel_rfl
theorem J.i:aI y0 J 1 8 (.int .i64 0):=aI.of (by kernel_rfl)
theorem ga.u:y0.underlying ga=some .bool:=by kernel_rfl
theorem ga.i:aI y0 ga 1 1 (.bool false):=aI.of (by kernel_rfl)
theorem bb.u:y0.underlying bb=some (.int .u8):=by kernel_rfl
theorem bb.i:aI y0 bb 1 1 (.int .u8 0):=aI.of (by kernel_rfl)
theorem a1.u:y0.underlying a1=some .string:=by kernel_rfl
theorem a1.i:aI y0 a1 1 16 (.string ⟨#[]⟩):=aI.of (by kernel_rfl)
theorem aV.u:y0.underlying aV=some (.slice bb):=by kernel_rfl
theorem mN.u:y0.underlying mN=some (.slice fM):=by kernel_rfl
theorem eC.u:y0.underlying eC=some (.pointer aR):=by kernel_rfl
theorem ab.u:y0.underlying ab=some (.slice J):=by kernel_rfl
theorem ab.i:aI y0 ab 1 24 (.slice none 0 0):=aI.of (by kernel_rfl)
theorem cq.u:y0.underlying cq=some (.slice ab):=by kernel_rfl
theorem cq.i:aI y0 cq 1 24 (.slice none 0 0):=aI.of (by kernel_rfl)
theorem fa.u:y0.underlying fa=some (.slice ga):=by kernel_rfl
theorem fa.i:aI y0 fa 1 24 (.slice none 0 0):=aI.of (by kernel_rfl)
theorem bZ.u:y0.underlying bZ=some (.slice af):=by kernel_rfl
theorem bZ.i:aI y0 bZ 1 24 (.slice none 0 0):=aI.of (by kernel_rfl)
theorem ee.u:y0.underlying ee=some (.slice eo):=by kernel_rfl
theorem ee.i:aI y0 ee 1 24 (.slice none 0 0):=aI.of (by kernel_rfl)
theorem aX.p:bH y0 aX [(0,1),(1,1),(2,1),(3,1),(4,1),(5,1),(6,1),(7,1)]:=bH.of (by kernel_rfl)
theorem aX.i:aI y0 aX 8 160 (.agg #[(.int .i64 0),(.slice none 0 0),(.int .i64 0),(.slice none 0 0),(.slice none 0 0),(.slice none 0 0),(.slice none 0 0),(.slice none 0 0)]):=aI.of (by kernel_rfl)
theorem fM.u:y0.underlying fM=some (.array 2 bb):=by kernel_rfl
theorem fM.i:aI y0 fM 2 2 (.agg #[(.int .u8 0),(.int .u8 0)]):=aI.of (by kernel_rfl)
theorem cb.i:aI y0 cb 1 8 (.int .i64 0):=aI.of (by kernel_rfl)
theorem bD.u:y0.underlying bD=some (.int .u64):=by kernel_rfl
theorem bD.i:aI y0 bD 1 8 (.int .u64 0):=aI.of (by kernel_rfl)
theorem bl.p:bH y0 bl [(0,1),(1,1)]:=bH.of (by kernel_rfl)
theorem bl.i:aI y0 bl 2 16 (.agg #[(.int .u64 0),(.int .i64 0)]):=aI.of (by kernel_rfl)
theorem af.u:y0.underlying af=some (.slice ae):=by kernel_rfl
theorem af.i:aI y0 af 1 24 (.slice none 0 0):=aI.of (by kernel_rfl)
theorem aD.p:bH y0 aD [(0,1),(1,1),(2,1)]:=bH.of (by kernel_rfl)
theorem aD.i:aI y0 aD 3 72 (.agg #[(.slice none 0 0),(.slice none 0 0),(.slice none 0 0)]):=aI.of (by kernel_rfl)
theorem eo.p:bH y0 eo [(0,3),(3,1)]:=bH.of (by kernel_rfl)
theorem eo.i:aI y0 eo 4 80 (.agg #[(.slice none 0 0),(.slice none 0 0),(.slice none 0 0),(.bool false)]):=aI.of (by kernel_rfl)
theorem fN.u:y0.underlying fN=some (.pointer cK):=by kernel_rfl
theorem mO.u:y0.underlying mO=some (.pointer bf):=by kernel_rfl
theorem qK.u:y0.underlying qK=some (.pointer b2):=by kernel_rfl
theorem bn.u:y0.underlying bn=some (.slice aD):=by kernel_rfl
theorem bn.i:aI y0 bn 1 24 (.slice none 0 0):=aI.of (by kernel_rfl)
theorem bT.p:bH y0 bT [(0,1),(1,1),(2,1),(3,1),(4,1)]:=bH.of (by kernel_rfl)
theorem bT.i:aI y0 bT 5 88 (.agg #[(.int .i64 0),(.slice none 0 0),(.int .i64 0),(.slice none 0 0),(.slice none 0 0)]):=aI.of (by kernel_rfl)
theorem ep.u:y0.underlying ep=some (.pointer cR):=by kernel_rfl
theorem bj.u:y0.underlying bj=some (.slice cz):=by kernel_rfl
theorem bj.i:aI y0 bj 1 24 (.slice none 0 0):=aI.of (by kernel_rfl)
theorem aR.p:bH y0 aR [(0,1),(1,1),(2,1),(3,1),(4,1)]:=bH.of (by kernel_rfl)
theorem aJ.p:bH y0 aJ [(0,1)]:=bH.of (by kernel_rfl)
theorem aJ.i:aI y0 aJ 1 24 (.agg #[(.slice none 0 0)]):=aI.of (by kernel_rfl)
theorem cz.p:bH y0 cz [(0,1),(1,1),(2,1)]:=bH.of (by kernel_rfl)
theorem cz.i:aI y0 cz 3 56 (.agg #[(.slice none 0 0),(.slice none 0 0),(.int .i64 0)]):=aI.of (by kernel_rfl)
theorem bA.u:y0.underlying bA=some (.pointer bq):=by kernel_rfl
theorem bA.i:aI y0 bA 1 8 (.pointer none):=aI.of (by kernel_rfl)
theorem k5.u:y0.underlying k5=some (.pointer du):=by kernel_rfl
theorem cQ.p:bH y0 cQ [(0,1),(1,1),(2,1),(3,1)]:=bH.of (by kernel_rfl)
theorem dy.u:y0.underlying dy=some (.slice gb):=by kernel_rfl
theorem dy.i:aI y0 dy 1 24 (.slice none 0 0):=aI.of (by kernel_rfl)
theorem bi.p:bH y0 bi [(0,1),(1,4),(5,1),(6,1)]:=bH.of (by kernel_rfl)
theorem fb.u:y0.underlying fb=some (.slice be):=by kernel_rfl
theorem ef.u:y0.underlying ef=some (.slice cB):=by kernel_rfl
theorem ef.i:aI y0 ef 1 24 (.slice none 0 0):=aI.of (by kernel_rfl)
theorem be.p:bH y0 be [(0,1),(1,1),(2,1),(3,1)]:=bH.of (by kernel_rfl)
theorem be.i:aI y0 be 4 80 (.agg #[(.slice none 0 0),(.slice none 0 0),(.int .i64 0),(.slice none 0 0)]):=aI.of (by kernel_rfl)
theorem bJ.u:y0.underlying bJ=some (.slice bg):=by kernel_rfl
theorem bJ.i:aI y0 bJ 1 24 (.slice none 0 0):=aI.of (by kernel_rfl)
theorem bf.p:bH y0 bf [(0,1),(1,1),(2,1),(3,1)]:=bH.of (by kernel_rfl)
theorem b5.u:y0.underlying b5=some (.pointer cL):=by kernel_rfl
theorem b5.i:aI y0 b5 1 8 (.pointer none):=aI.of (by kernel_rfl)
theorem bg.p:bH y0 bg [(0,1),(1,1)]:=bH.of (by kernel_rfl)
theorem bg.i:aI y0 bg 2 32 (.agg #[(.slice none 0 0),(.pointer none)]):=aI.of (by kernel_rfl)
theorem cA.u:y0.underlying cA=some (.slice bo):=by kernel_rfl
theorem cA.i:aI y0 cA 1 24 (.slice none 0 0):=aI.of (by kernel_rfl)
theorem bU.u:y0.underlying bU=some (.slice aF):=by kernel_rfl
theorem bU.i:aI y0 bU 1 24 (.slice none 0 0):=aI.of (by kernel_rfl)
theorem aN.p:bH y0 aN [(0,1),(1,1),(2,1),(3,1),(4,1),(5,1),(6,1),(7,1),(8,1)]:=bH.of (by kernel_rfl)
theorem b2.p:bH y0 b2 [(0,1),(1,1),(2,1),(3,1)]:=bH.of (by kernel_rfl)
theorem bo.p:bH y0 bo [(0,1),(1,1)]:=bH.of (by kernel_rfl)
theorem bo.i:aI y0 bo 2 24 (.agg #[(.string ⟨#[]⟩),(.int .i64 0)]):=aI.of (by kernel_rfl)
theorem cr.u:y0.underlying cr=some (.slice bx):=by kernel_rfl
theorem cr.i:aI y0 cr 1 24 (.slice none 0 0):=aI.of (by kernel_rfl)
theorem aF.p:bH y0 aF [(0,1),(1,1),(2,1),(3,1)]:=bH.of (by kernel_rfl)
theorem aF.i:aI y0 aF 4 80 (.agg #[(.slice none 0 0),(.slice none 0 0),(.int .i64 0),(.slice none 0 0)]):=aI.of (by kernel_rfl)
theorem er.u:y0.underlying er=some (.slice fl):=by kernel_rfl
theorem er.i:aI y0 er 1 24 (.slice none 0 0):=aI.of (by kernel_rfl)
theorem cK.p:bH y0 cK [(0,1),(1,1),(2,1),(3,1)]:=bH.of (by kernel_rfl)
theorem fl.p:bH y0 fl [(0,1),(1,1)]:=bH.of (by kernel_rfl)
theorem fl.i:aI y0 fl 2 32 (.agg #[(.slice none 0 0),(.pointer none)]):=aI.of (by kernel_rfl)
theorem dm.u:y0.underlying dm=some (.slice dc):=by kernel_rfl
theorem dm.i:aI y0 dm 1 24 (.slice none 0 0):=aI.of (by kernel_rfl)
theorem gx.u:y0.underlying gx=some (.slice gY):=by kernel_rfl
theorem gx.i:aI y0 gx 1 24 (.slice none 0 0):=aI.of (by kernel_rfl)
theorem j8.u:y0.underlying j8=some (.slice dE):=by kernel_rfl
theorem cR.p:bH y0 cR [(0,1),(1,1),(2,1),(3,1)]:=bH.of (by kernel_rfl)
theorem dE.p:bH y0 dE [(0,1),(1,1),(2,1)]:=bH.of (by kernel_rfl)
theorem dE.i:aI y0 dE 3 24 (.agg #[(.int .i64 0),(.int .i64 0),(.int .u64 0)]):=aI.of (by kernel_rfl)
theorem dc.p:bH y0 dc [(0,1),(1,1)]:=bH.of (by kernel_rfl)
theorem dc.i:aI y0 dc 2 16 (.agg #[(.int .i64 0),(.int .u64 0)]):=aI.of (by kernel_rfl)
theorem gY.i:aI y0 gY 3 24 (.agg #[(.int .i64 0),(.int .i64 0),(.int .u64 0)]):=aI.of (by kernel_rfl)
theorem bq.p:bH y0 bq [(0,1),(1,1),(2,1)]:=bH.of (by kernel_rfl)
theorem hv.u:y0.underlying hv=some (.int .u64):=by kernel_rfl
theorem du.p:bH y0 du [(0,1),(1,1),(2,1)]:=bH.of (by kernel_rfl)
theorem gb.p:bH y0 gb [(0,1),(1,1)]:=bH.of (by kernel_rfl)
theorem gb.i:aI y0 gb 2 48 (.agg #[(.slice none 0 0),(.slice none 0 0)]):=aI.of (by kernel_rfl)
theorem cB.p:bH y0 cB [(0,1),(1,1)]:=bH.of (by kernel_rfl)
theorem cB.i:aI y0 cB 2 32 (.agg #[(.slice none 0 0),(.int .i64 0)]):=aI.of (by kernel_rfl)
theorem bx.p:bH y0 bx [(0,1),(1,1)]:=bH.of (by kernel_rfl)
theorem bx.i:aI y0 bx 2 32 (.agg #[(.slice none 0 0),(.int .i64 0)]):=aI.of (by kernel_rfl)
theorem cX.u:y0.underlying cX=some (.slice bB):=by kernel_rfl
theorem bB.p:bH y0 bB [(0,1),(1,1)]:=bH.of (by kernel_rfl)
theorem bB.i:aI y0 bB 2 32 (.agg #[(.slice none 0 0),(.pointer none)]):=aI.of (by kernel_rfl)
theorem dC.u:y0.underlying dC=some (.map bh ae):=by kernel_rfl
theorem cL.p:bH y0 cL [(0,1),(1,1),(2,1),(3,1)]:=bH.of (by kernel_rfl)
theorem hx.u:y0.underlying hx=some (.slice dn):=by kernel_rfl
theorem dn.p:bH y0 dn [(0,1),(1,1)]:=bH.of (by kernel_rfl)
theorem dn.i:aI y0 dn 2 32 (.agg #[(.slice none 0 0),(.int .i64 0)]):=aI.of (by kernel_rfl)
theorem cY.u:y0.underlying cY=some (.int .u32):=by kernel_rfl
theorem eD.u:y0.underlying eD=some (.map a1 J):=by kernel_rfl
theorem dz.u:y0.underlying dz=some (.int .i8):=by kernel_rfl
theorem dz.i:aI y0 dz 1 1 (.int .i8 0):=aI.of (by kernel_rfl)
theorem bh.u:y0.underlying bh=some (.array 6 dz):=by kernel_rfl
theorem bh.i:aI y0 bh 6 6 (.agg #[(.int .i8 0),(.int .i8 0),(.int .i8 0),(.int .i8 0),(.int .i8 0),(.int .i8 0)]):=aI.of (by kernel_rfl)
theorem fm.u:y0.underlying fm=some (.slice dz):=by kernel_rfl
theorem et.u:y0.underlying et=some (.slice bh):=by kernel_rfl
theorem et.i:aI y0 et 1 24 (.slice none 0 0):=aI.of (by kernel_rfl)
theorem gd.u:y0.underlying gd=some (.map ae J):=by kernel_rfl
theorem gZ.u:y0.underlying gZ=some (.array 24 bb):=by kernel_rfl
theorem gZ.i:aI y0 gZ 24 24 (.agg #[(.int .u8 0),(.int .u8 0),(.int .u8 0),(.int .u8 0),(.int .u8 0),(.int .u8 0),(.int .u8 0),(.int .u8 0),(.int .u8 0),(.int .u8 0),(.int .u8 0),(.int .u8 0),(.int .u8 0),(.int .u8 0),(.int .u8 0),(.int .u8 0),(.int .u8 0),(.int .u8 0),(.int .u8 0),(.int .u8 0),(.int .u8 0),(.int .u8 0),(.int .u8 0),(.int .u8 0)]):=aI.of (by kernel_rfl)
theorem ph.u:y0.underlying ph=some (.array 20 bD):=by kernel_rfl
end Go.Proofs.YtgbkinibgjmodaaGreatDoor
namespace Go.Vc
open Go Go.RowKit
def bM:x4→Int
 | .int _ i=>i
 |_=>0
theorem wrap_i64 {x:Int} (h1: -9223372036854775808≤x) (E:x<9223372036854775808):Y9.wrap x=x:=by
 simp only[o8.wrap,o8.bits,o8.signed];simp;omega
theorem wrap_u8 {x:Int} (h1:0≤x) (E:x<256):o8.u8.wrap x=x:=by
 simp only[o8.wrap,o8.bits,o8.signed];simp;omega
theorem Aw {x:Int} (h1: -128≤x) (E:x<128):o8.i8.wrap x=x:=by
 simp only[o8.wrap,o8.bits,o8.signed];simp;omega
theorem wrap_u64 {x:Int} (h1:0≤x) (E:x<18446744073709551616):V0.wrap x=x:=by
 simp only[o8.wrap,o8.bits,o8.signed];simp;omega
abbrev ints (k:o8) (l:List Int):List x4:=l.map (X4 k)
theorem po (k:o8) (l:List Int):∀ u∈ints k l,u.oneCell'=true:=by
 intro u hu;obtain⟨x,_,rfl⟩:=l9.1 hu;rfl
theorem ju {k:o8} {l:List Int} {i:Nat} {x:Int} (h:l[i]? =some x):(ints k l)[i]? =some (.int k x):=by simp[ints,h]
theorem sL {α:Type} {a b:List α} {i:Nat} {x y:α} (h:a.take i=b.take i) (E:a[i]? =some x) (I:b[i]? =some y) (J:x=y):a.take (i+1)=b.take (i+1):=by
 rw[o3,o3,h,E,I,J]
theorem dF {E:x5→Prop} {B:(x5→Prop)→Prop} (G:x5→Prop) (h1:∀ w,G w→E w) (J:∀ I:x5→Prop,(∀ w,G w→I w)→B I):aB E B:=J E h1
theorem aZ {E:x4→x5→Prop} {B:(x4→x5→Prop)→Prop} (G:x4→x5→Prop) (h1:∀ v w,G v w→E v w)
  (J:∀ I:x4→x5→Prop,(∀ v w,G v w→I v w)→B I):aB E B:=J E h1
theorem h6 {E:x4→x4→x5→Prop} {B:(x4→x4→x5→Prop)→Prop} (G:x4→x4→x5→Prop) (h1:∀ u v w,G u v w→E u v w)
  (J:∀ I:x4→x4→x5→Prop,(∀ u v w,G u v w→I u v w)→B I):aB E B:=J E h1
theorem O.calls {P:X1} {f:FuncId} {args:List x4} {w:x5} {K:x4→x5→Prop} (h:O P f args w K) (E:Enters P f):Calls P f args.toArray w fun e w'=>∃ v,e= .returned v∧cP w w'∧K v w':=by
 cases h with
 |code _ h=>exact h
 |ext v w' h1=>rw[E] at h1;cases h1
theorem Ax {w w':x5} (J:Ext w w') (E:cP w w'):Below w.heap.size w w':=
 ⟨E.os,E.tape.1,E.output,J.size,fun k U=>by
  have I:w.heap[k]? =some w.heap[k]:=Array.getElem?_eq_getElem U;rw[I];cases O:fw w.heap[k] with
  |true=>exact J.bw k _ I O
  |false=>exact E.bw k _ I O⟩
theorem sM {w:x5} {x:Addr} {v:x4} (h:w.cell? x=some v):x=⟨x.block,x.off,none⟩:=by
 obtain⟨b,o,s⟩:=x;cases s with
 |none=>rfl
 |some s=>
  unfold x5.cell? at h;split at h <;> simp at h
theorem Ay {k:o8} {w:x5} {a:Option Addr} {len cap:Nat} {E:List Int}
  (h:(a=none∧len=0∧cap=0∧E=[])∨
   ∃ x,a=some x∧len≤cap∧cap≤maxLen∧E.length=cap∧(∀ i,i<E.length→w.cell? (x.add i)=some (.int k (E.getD i 0)))∧ ∀ n∈E,(Lit.int k n).wf=true):
  b7 w 1 (.slice a len cap) len (ints k (E.take len))∧ ∀ n∈E.take len,k.min≤n∧n≤k.max:=by
 rcases h with⟨rfl,rfl,rfl,rfl⟩|⟨x,rfl,h1,U,V,I,W⟩
 ·exact⟨b7.nil _ _,by simp⟩
 ·refine⟨⟨by simp[V,h1],x.block,x.off,some x,cap,rfl,h1,U,fun aa=>?_,fun j v J=>?_⟩,fun n X=>?_⟩
  ·have:=I 0 (by omega);exact congrArg some (sM this)
  ·have Y:=(x6.1 J).1;rw[o4,l6] at Y;have Z:x=⟨x.block,x.off,none⟩:=sM (v:=.int k (E.getD 0 0)) (I 0 (by omega));have O:=I j (by omega);rw[Z,V9] at O;rw[O,←J,ints,r8,Z6 (by omega),p8,x3 (by omega)];rfl
  ·have:=W n (List.mem_of_mem_take X);simpa[Lit.wf] using this
def aH (k:o8) (w:x5) (v:x4) (l:List Int):Prop:=b7 w 1 v l.length (ints k l)
def aq (k:o8) (e:o6) (w:x5) (g:Nat) (v:x4) (l:List Int):Prop:=bL w g e 1 v l.length (ints k l)
theorem aH.ext {k:o8} {w w':x5} {v:x4} {l:List Int} (h:aH k w v l) (E:Ext w w'):aH k w' v l:=b7.ext h E
theorem aq.ext {k:o8} {e:o6} {w w':x5} {g:Nat} {v:x4} {l:List Int} (h:aq k e w g v l) (E:Ext w w'):aq k e w' g v l:=bL.ext h E
theorem aq.ad {k:o8} {e:o6} {S:Nat→Prop} {w w':x5} {g:Nat} {v:x4} {l:List Int} (h:aq k e w g v l) (E:aj S w w') (I:g<w.heap.size→¬S g):aq k e w' g v l:=bL.ad h E I
theorem aq.ls {k:o8} {e:o6} {w:x5} {g:Nat} {v:x4} {l:List Int} (h:aq k e w g v l):aH k w v l:=bL.sl h
theorem aH.of {k:o8} {w:x5} {v:x4} {n:Nat} {l:List Int} (h:b7 w 1 v n (ints k l)):aH k w v l:=by
 have:l.length=n:=by simpa using h.1
 unfold aH;rw[this];exact h
theorem aq.of {k:o8} {e:o6} {w:x5} {g:Nat} {v:x4} {n:Nat} {l:List Int} (h:bL w g e 1 v n (ints k l)):aq k e w g v l:=by
 have:l.length=n:=by simpa using h.1
 unfold aq;rw[this];exact h
theorem aH.le {k:o8} {w:x5} {v:x4} {l:List Int} (h:aH k w v l):l.length≤9223372036854775807:=by
 have:=b7.le h;simpa[maxLen] using this
theorem aH.cells {k:o8} {w:x5} {v:x4} {l:List Int} (h:aH k w v l):v.cells= #[v]∧v.oneCell'=true:=by
 obtain⟨_,_,_,_,_,rfl,_⟩:=h;exact⟨rfl,rfl⟩
theorem aq.nil (k:o8) (e:o6) (w:x5) (g:Nat):aq k e w g (.slice none 0 0) []:=bL.nil w g e 1
section
variable {P:X1} {w:x5}
theorem aO {t e ty:o6} {k:o8} {v:x4} {l:List Int} {K:x4→Prop} (E:P.underlying t=some (.slice e)) (h:aH k w v l):
  I P (u6 #[t] ty #[v]) w K=K (.int .i64 l.length):=by
 obtain⟨_,_,_,_,_,rfl,_⟩:=h;exact gf E
theorem bm {t e:o6} {k J:o8} {b:Nat} {z v:x4} {l:List Int} {i:Nat} {x:Int} {K:x4→Prop} (O:P.underlying t=some (.slice e)) (hi:aI P e 1 b z) (h1:kc P e=true)
  (h:aH k w v l) (E:l[i]? =some x):I P (x7 t v (.int J (i:Int))) w (fun p=>I P (x1 e p) w K)=K (.int k x):=by
 have U:=(x6.1 E).1;obtain⟨_,_,_,_,_,rfl,_,_,V,W⟩:=h;rw[gy O hi U V,U9,ai h1 (W i _ (ju E))]
theorem eE {t e:o6} {k E:o8} {b:Nat} {z v:x4} {l:List Int} {i:Nat} {y x:Int} {K:x4→Prop} (J:y=(i:Int)) (O:P.underlying t=some (.slice e)) (hi:aI P e 1 b z) (h1:kc P e=true)
  (h:aH k w v l) (U:l[i]? =some x):I P (x7 t v (.int E y)) w (fun p=>I P (x1 e p) w K)=K (.int k x):=by
 subst J;exact bm O hi h1 h U
theorem hb {t e ty:o6} {k:o8} {b g:Nat} {z v x:x4} {l m:List Int} {K:x4→x5→Prop} (J:P.underlying t=some (.slice e)) (hi:aI P e 1 b z) (O:z.cells.size=1)
  (h:aq k e w g v l) (U:aH k w x m) (V:(l.length+m.length)*b≤140737488355328) (W:l.length+m.length≤9223372036854775807)
  (X:∀ I E w',(E=g∨w.heap.size≤E)→aq k e w' E I (l++m)→aj (fun r=>r=g) w w'→K I w'):aa P (r9 #[t,t] ty #[v,x]) w K:=
 lj J J hi O h U (po _ _) V (by simpa[maxLen] using W) fun I E w' h1 Y Z=>X I E w' h1 (aq.of (by rw[ints,j4];exact Y)) Z
theorem dW {t e:o6} {k:o8} {b:Nat} {z:x4} {x:Int} {K:x4→x5→Prop} (I:P.underlying t=some (.slice e)) (hi:aI P e 1 b z) (W:z.cells.size=1)
  (h:∀ v g w',g=w.heap.size→Ext w w'→aq k e w' g v [x]→K v w'):aa P (u9 t 1 #[(0,.int k x)]) w K:=
 h5 I hi (by omega) (cs:=#[.int k x]) (by
   have J:∀ (a:Array x4),a.size=1→a.setIfInBounds 0 (.int k x)= #[.int k x]:=fun a E=>by
    apply Array.ext
    ·simp[E]
    ·intro i h1 X;have:i=0:=by simp[E] at h1;exact h1
     subst this;simp
   simp only[Instr.fill,x4.cells,List.zipIdx];simp;exact J _ (by simp)) fun g w' O U V=>h _ g w' O U (aq.of (n:=1) (bL.full V rfl (by simp[maxLen])))
theorem O.free {f:FuncId} {args:List x4} {K:x4→x5→Prop} (h:O P f args w K):eA P f args w fun v w'=>cP w w'∧K v w':=by
 cases h with
 |code h1 E=>exact .code h1 (E.mono fun _ w' ⟨v,h1,I,E⟩=>⟨v,h1,I,E⟩)
 |ext v w' h1 E J=>exact .ext v w' h1 ⟨E,J⟩
theorem az {a:Addr} {K:x4→Prop}:I P (am (.pointer (some a))) w K=K (.pointer (some a)):=I.of fun _ _=>by
 simp[am,ql,execOp]
theorem vn {t e:o6} {E I:o8} {n:Nat} {k J:Nat} {z:x4} {K:x4→x5→Prop} (U:P.underlying t=some (.slice e)) (hi:aI P e k J z) (Z:n*J≤281474976710656) (ab:n≤9223372036854775807)
  (h:∀ g w',g=w.heap.size→Ext w w'→ak w' g e (dd z.cells (n*k))→K (.slice (some ⟨g,0,none⟩) n n) w'):aa P (V8 t (.int E (n:Int)) (.int I (n:Int))) w K:=by
 obtain⟨i,hi,rfl,rfl,V⟩:=hi;have W:(i.bytes:Int)*(n:Int)≤281474976710656:=by
  rw[Int.mul_comm];have h:((n*i.bytes:Nat):Int)≤281474976710656:=by omega
  rwa [Int.natCast_mul] at h
 have O:=run_make (P:=P) w t e i z U hi V E I n n (by omega) (Int.le_refl _) W (by omega);have hm:madeCells z.cells ((n:Int).toNat*i.size)=(dd z.cells (n*i.size)).toArray:=by rw[dd,Array.toArray_toList];rfl
 rw[hm] at O;obtain⟨h1,X,Y⟩:=qS w (dd z.cells (n*i.size)) e;exact .of O Y (h _ _ rfl X h1)
theorem Az (v:x4) (n:Nat):dd #[v] n=p9 n v:=by
 apply List.ext_getElem
 ·simp[dd]
 ·intro i h1 E;simp[dd,Nat.mod_one]
theorem hz {t e:o6} {I J k:o8} {n:Nat} {E:Nat} {K:x4→x5→Prop} (O:P.underlying t=some (.slice e)) (hi:aI P e 1 E (.int k 0)) (U:n*E≤281474976710656) (V:n≤9223372036854775807)
  (h:∀ g w',g=w.heap.size→Ext w w'→ak w' g e (ints k (p9 n 0))→K (.slice (some ⟨g,0,none⟩) n n) w'):aa P (V8 t (.int I (n:Int)) (.int J (n:Int))) w K:=
 vn O hi U V fun g w' W X Y=>h g w' W X (by
  have e:dd (X4 k 0).cells (n*1)=ints k (p9 n 0):=by rw[U9];show dd #[_] n=_;rw[Az];simp[ints]
  rw[←e];exact Y)
theorem eN {t:o6} {E:List (Nat×Nat)} {b o k J:Nat} {z:x4} {cs:List x4} {K:x4→Prop} (hu:bH P t E) (hi:aI P t k J z) (O:cs.length=k)
  (h:w.rangeAt b o cs):I P (do loadVar t (←asAddr (.pointer (some ⟨b,o,none⟩)))) w K=K (.agg cs.toArray):=I.of fun w' U=>by
 obtain⟨V,hu,_⟩:=hu;have:=run_loadVar_mid (P:=P) w' b o t cs (.struct V) (pi U h) hu rfl (by rw[hi.size,O]);simp only[asAddr,Y2,Y6,Result.andThen_ok,this]
theorem AA {cs vs:List x4} (h:vs.length=cs.length):over cs 0 vs=vs:=by
 rw[kd (by omega)];simp[h]
theorem b4 {t e:o6} {k I g:Nat} {z:x4} {cs vs:List x4} {K:Unit→x5→Prop} (hi:aI P t k I z) (J:vs.length=k) (W:cs.length=k) (O:∀ v∈vs,v.oneCell'=true) (U:ak w g e cs)
  (h:∀ w',aj (fun r=>r=g) w w'→w'.heap.size=w.heap.size→ak w' g e vs→K () w'):aa P (x8 t (.pointer (some ⟨g,0,none⟩)) (.agg vs.toArray)) w K:=
 vk hi J O U (by omega) fun w' h1 V E=>h w' h1 V (by rw[AA (by omega)] at E;exact E)
end
abbrev av:=Nat→Prop
def h7 (S:av) (w:x5) (k:Nat) (v:x4) (n:Nat) (cs:List x4):Prop:=
 cs.length=n*k∧ ∃ b o base cap,v= .slice base n cap∧n≤cap∧cap≤maxLen∧(0<n→base=some ⟨b,o,none⟩)∧(0<cs.length→S b)∧w.rangeAt b o cs
theorem h7.sl {S:av} {w:x5} {k:Nat} {v:x4} {n:Nat} {cs:List x4} (h:h7 S w k v n cs):b7 w k v n cs:=by
 obtain⟨h1,b,o,base,cap,E,I,J,O,_,U⟩:=h;exact⟨h1,b,o,base,cap,E,I,J,O,U⟩
theorem vo {w:x5} {b o:Nat} {cs:List x4} (h:w.rangeAt b o cs) (E:0<cs.length):b<w.heap.size:=by
 have:=h 0 cs[0] (x3 E);obtain⟨c,e,f,I,_⟩:=sG this;exact (l7.1 I).1
theorem h7.ad {S T:av} {w w':x5} {k:Nat} {v:x4} {n:Nat} {cs:List x4} (h:h7 S w k v n cs) (O:aj T w w') (U:∀ r,r<w.heap.size→S r→¬T r):h7 S w' k v n cs:=by
 obtain⟨h1,b,o,base,cap,V,W,X,Y,I,J⟩:=h;refine⟨h1,b,o,base,cap,V,W,X,Y,I,?_⟩;rcases Nat.eq_zero_or_pos cs.length with E|E
 ·intro j v Z;have:=(x6.1 Z).1;omega
 ·exact qL O (U b (vo J E) (I E)) J
theorem h7.mono {S T:av} {w:x5} {k:Nat} {v:x4} {n:Nat} {cs:List x4} (h:h7 S w k v n cs) (J:∀ r,r<w.heap.size→S r→T r):h7 T w k v n cs:=by
 obtain⟨h1,b,o,base,cap,O,U,V,W,X,E⟩:=h;exact⟨h1,b,o,base,cap,O,U,V,W,fun I=>J b (vo E I) (X I),E⟩
class ax (α:Type) where
 n:Nat
 rep:Bool→av→av→x5→List x4→α→Prop
 len:∀ {m S R w cs a},rep m S R w cs a→cs.length=n
 one:∀ {m S R w cs a},rep m S R w cs a→ ∀ u∈cs,u.oneCell'=true
 ad:∀ {m S R T w w' cs a},rep m S R w cs a→aj T w w'→(∀ r,r<w.heap.size→S r∨R r→¬T r)→rep m S R w' cs a
 mono:∀ {m S S' R R' w cs a},rep m S R w cs a→(∀ r,r<w.heap.size→S r→S' r)→(∀ r,r<w.heap.size→R r→R' r)→rep m S' R' w cs a
 fL:∀ {m S R w cs a},rep m S R w cs a→rep false (fun _=>False) (fun r=>S r∨R r) w cs a
section
variable {α β:Type} [ax α] [ax β] {m:Bool} {S R T:av} {w w':x5}
abbrev dv (S R:av) (w:x5) (cs:List x4) (a:α):Prop:=ax.rep true S R w cs a
abbrev Seen (R:av) (w:x5) (cs:List x4) (a:α):Prop:=ax.rep false (fun _=>False) R w cs a
abbrev lk:av:=fun _=>True
theorem c0 {cs:List x4} {a:α} (h:ax.rep m S R w cs a) (E:Ext w w'):ax.rep m S R w' cs a:=ax.ad h (E.ad fun _=>False) fun _ _ _ h=>h
theorem ke {cs:List x4} {a:α} (h:ax.rep m S R w cs a):ax.rep m (fun r=>S r∧r<w.heap.size) R w cs a:=ax.mono h (fun _ h1 E=>⟨E,h1⟩) fun _ _ h=>h
theorem AB {cs:List x4} {a:α} (h:ax.rep m S R w cs a):Seen lk w cs a:=ax.mono (ax.fL h) (fun _ _ h=>h.elim) fun _ _ _=>trivial
theorem qT {cs:List x4} {a:α} {Q:av} (h:ax.rep m S R w cs a) (E:∀ r,r<w.heap.size→S r∨R r→Q r):Seen Q w cs a:=ax.mono (ax.fL h) (fun _ _ h=>h.elim) E
instance:ax Int where
 n:=1
 rep _ _ _ _ cs a:=cs=[.int .i64 a]
 len h:=by subst h;rfl
 one h:=by subst h;intro u hu;simp at hu;subst hu;rfl
 ad h _ _:=h
 mono h _ _:=h
 fL h:=h
instance:ax Bool where
 n:=1
 rep _ _ _ _ cs a:=cs=[.bool a]
 len h:=by subst h;rfl
 one h:=by subst h;intro u hu;simp at hu;subst hu;rfl
 ad h _ _:=h
 mono h _ _:=h
 fL h:=h
instance:ax ByteArray where
 n:=1
 rep _ _ _ _ cs a:=cs=[.string a]
 len h:=by subst h;rfl
 one h:=by subst h;intro u hu;simp at hu;subst hu;rfl
 ad h _ _:=h
 mono h _ _:=h
 fL h:=h
def eg (_:o8):Type:=Int
instance (k:o8):ax (eg k) where
 n:=1
 rep _ _ _ _ cs a:=cs=[.int k a]
 len h:=by subst h;rfl
 one h:=by subst h;intro u hu;simp at hu;subst hu;rfl
 ad h _ _:=h
 mono h _ _:=h
 fL h:=h
def Rd (α:Type):Type:=α
instance G0:ax (Rd α) where
 n:=ax.n α
 rep _ _ R w cs a:=ax.rep (α:=α) false (fun _=>False) R w cs a
 len h:=ax.len (α:=α) h
 one h:=ax.one (α:=α) h
 ad h E I:=ax.ad (α:=α) h E fun r J h=>I r J (.inr (h.elim False.elim id))
 mono h _ O:=ax.mono (α:=α) h (fun _ _ h=>h) O
 fL h:=ax.mono (α:=α) h (fun _ _ h=>h) fun _ _ h=>.inr h
instance G1:ax (α×β) where
 n:=ax.n α+ax.n β
 rep m S R w cs a:=∃ c d A B,cs=c++d∧(∀ r,A r→S r)∧(∀ r,B r→S r)∧(m=true→ ∀ r,A r→¬B r)∧ax.rep m A R w c a.1∧ax.rep m B R w d a.2
 len:=by
  rintro m S R w cs a ⟨c,d,A,B,rfl,_,_,_,h1,E⟩;simp[ax.len h1,ax.len E]
 one:=by
  rintro m S R w cs a ⟨c,d,A,B,rfl,_,_,_,h1,E⟩ u hu;rcases n0.1 hu with hu|hu
  ·exact ax.one h1 u hu
  ·exact ax.one E u hu
 ad:=by
  rintro m S R T w w' cs a ⟨c,d,A,B,rfl,J,O,V,h1,E⟩ W U;exact⟨c,d,A,B,rfl,J,O,V,ax.ad h1 W fun r I h=>U r I (h.imp (J r) id),ax.ad E W fun r I h=>U r I (h.imp (O r) id)⟩
 mono:=by
  rintro m S S' R R' w cs a ⟨c,d,A,B,rfl,J,O,V,h1,E⟩ U X;exact⟨c,d,fun r=>A r∧r<w.heap.size,fun r=>B r∧r<w.heap.size,rfl,fun r h=>U r h.2 (J r h.1),fun r h=>U r h.2 (O r h.1),fun hm r h k=>V hm r h.1 k.1,
   ax.mono h1 (fun r I h=>⟨h,I⟩) X,ax.mono E (fun r I h=>⟨h,I⟩) X⟩
 fL:=by
  rintro m S R w cs a ⟨c,d,A,B,rfl,J,O,V,h1,E⟩;exact⟨c,d,fun _=>False,fun _=>False,rfl,fun _ h=>h.elim,fun _ h=>h.elim,(fun h=>by cases h),ax.mono (ax.fL h1) (fun _ _ h=>h) fun r _ h=>h.imp (J r) id,
   ax.mono (ax.fL E) (fun _ _ h=>h) fun r _ h=>h.imp (O r) id⟩
def kf (m:Bool) (R:av) (F:Nat→av) (w:x5) (vs:List (List x4)) (l:List α):Prop:=
 vs.length=l.length∧ ∀ (i:Nat) (c:List x4) (a:α),vs[i]? =some c→l[i]? =some a→ax.rep m (F i) R w c a
structure vp (m:Bool) (S:av) (g:Nat) (F:Nat→av):Prop where
 sub:∀ i r,F i r→S r
 top:m=true→ ∀ i,¬F i g
 vq:m=true→ ∀ i j r,i≠j→F i r→¬F j r
theorem kf.len {F:Nat→av} {vs:List (List x4)} {l:List α} (h:kf m R F w vs l):∀ c∈vs,c.length=ax.n α:=by
 intro c E;obtain⟨i,hi,rfl⟩:=List.mem_iff_getElem.1 E;exact ax.len (h.2 i _ _ (x3 hi) (x3 (h.1▸hi)))
theorem kf.one {F:Nat→av} {vs:List (List x4)} {l:List α} (h:kf m R F w vs l):∀ u∈vs.flatten,u.oneCell'=true:=by
 intro u hu;obtain⟨c,E,hu⟩:=List.mem_flatten.1 hu;obtain⟨i,hi,rfl⟩:=List.mem_iff_getElem.1 E;exact ax.one (h.2 i _ _ (x3 hi) (x3 (h.1▸hi))) u hu
theorem sN {k:Nat}:∀ {vs:List (List x4)},(∀ c∈vs,c.length=k)→vs.flatten.length=vs.length*k
 |[],_=>by simp
 |c::r,h=>by
  have:=sN (vs:=r) fun x E=>h x (.tail _ E);simp only[List.flatten_cons,o5,this,h c (.head _),c8,W7];omega
theorem ll {k:Nat}:∀ {vs:List (List x4)},(∀ c∈vs,c.length=k)→ ∀ {i j:Nat} {c:List x4},vs[i]? =some c→j<k→vs.flatten[i*k+j]? =c[j]?
 |I::r,h,0,j,c,E,J=>by
  simp only[List.getElem?_cons_zero,Z7] at E;subst E;rw[List.flatten_cons,Z1 (by rw[h _ (.head _)];omega)];simp
 |I::r,h,i+1,j,c,E,J=>by
  simp only[List.getElem?_cons_succ] at E;have O:=h I (.head _);rw[List.flatten_cons,Z4 (by rw[O,W7];omega),O,W7,show i*k+1*k+j-k=i*k+j by omega];exact ll (fun x U=>h x (.tail _ U)) E J
 |[],_,i,_,c,E,_=>by simp at E
instance instList:ax (List α) where
 n:=1
 rep m S R w cs l:=∃ v,cs=[v]∧ ∃ (vs:List (List x4)) (g:Nat) (F:Nat→av),vp m S g F∧kf m R F w vs l∧h7 (fun r=>S r∨R r) w (ax.n α) v l.length vs.flatten∧
  (m=true→(v= .slice none 0 0∨S g)∧ ∃ e,bL w g e (ax.n α) v l.length vs.flatten)
 len:=by rintro m S R w cs a ⟨v,rfl,_⟩;rfl
 one:=by
  rintro m S R w cs a ⟨v,rfl,vs,g,F,_,_,⟨_,_,_,_,_,rfl,_⟩,_⟩ u hu;simp at hu;subst hu;rfl
 ad:=by
  rintro m S R T w w' cs a ⟨v,rfl,vs,g,F,I,he,V,hm⟩ Y O;refine⟨v,rfl,vs,g,F,I,⟨he.1,fun i c a W X=>ax.ad (he.2 i c a W X) Y fun r J h=>O r J (h.imp (I.sub i r) id)⟩,V.ad Y O,fun h=>?_⟩;obtain⟨h1,e,E⟩:=hm h;refine⟨h1,e,?_⟩;rcases h1 with rfl|h1
  ·obtain⟨aa,⟨_,U⟩|⟨_,_,U,_⟩⟩:=E
   ·exact⟨aa,.inl ⟨rfl,U⟩⟩
   ·cases U
  ·exact E.ad Y fun J=>O g J (.inl h1)
 mono:=by
  rintro m S S' R R' w cs a ⟨v,rfl,vs,g,F,I,he,V,hm⟩ O Z;refine⟨v,rfl,vs,g,fun i r=>F i r∧r<w.heap.size,⟨fun i r h=>O r h.2 (I.sub i r h.1),fun h i E=>I.top h i E.1,fun h i j r ab h1 E=>I.vq h i j r ab h1.1 E.1⟩,
   ⟨he.1,fun i c a W X=>ax.mono (he.2 i c a W X) (fun r J h=>⟨h,J⟩) Z⟩,V.mono fun r J h=>h.imp (O r J) (Z r J),fun h=>?_⟩
  obtain⟨h1,e,E⟩:=hm h;refine⟨?_,e,E⟩;obtain⟨_,⟨U,_⟩|⟨_,_,U,ac,_⟩⟩:=E
  ·exact .inl U
  ·rcases h1 with h1|h1
   ·exact .inl h1
   ·exact .inr (O g ac.lt h1)
 fL:=by
  rintro m S R w cs a ⟨v,rfl,vs,g,F,I,he,V,hm⟩;exact⟨v,rfl,vs,g,fun _ _=>False,⟨fun _ _ h=>h,(fun h=>by cases h),fun h=>by cases h⟩,
   ⟨he.1,fun i c a W X=>ax.mono (ax.fL (he.2 i c a W X)) (fun _ _ h=>h) fun r _ h=>h.imp (I.sub i r) id⟩,V.mono fun r _ h=>.inr h,fun h=>by cases h⟩
end
section
variable {P:X1} {w:x5} {α β:Type} [ax α] [ax β] {m:Bool} {S R:av}
theorem kg {v:x4} {l:List α} (h:ax.rep m S R w [v] l):∃ (vs:List (List x4)) (g:Nat) (F:Nat→av),vp m S g F∧kf m R F w vs l∧h7 (fun r=>S r∨R r) w (ax.n α) v l.length vs.flatten∧
  (m=true→(v= .slice none 0 0∨S g)∧ ∃ e,bL w g e (ax.n α) v l.length vs.flatten):=by
 obtain⟨_,E,h⟩:=h;cases E;exact h
theorem sO {v:x4} {a:α} (h:ax.rep m S R w [v] a):v.oneCell'=true:=ax.one h v (.head _)
theorem qU {v:x4} {l:List α} (h:ax.rep m S R w [v] l):v.cells= #[v]:=by
 obtain⟨_,_,_,_,_,⟨_,_,_,_,_,rfl,_⟩,_⟩:=kg h;rfl
theorem qV {v:x4} {l:List α} (h:ax.rep m S R w [v] l):l.length≤9223372036854775807:=by
 obtain⟨_,_,_,_,_,h,_⟩:=kg h;have:=h.sl.le;simpa[maxLen] using this
theorem h8:ax.rep m S R w [.slice none 0 0] ([]:List α):=
 ⟨_,rfl,[],0,fun _ _=>False,⟨fun _ _ h=>h.elim,fun _ _ h=>h,fun _ _ _ _ _ h=>h.elim⟩,⟨rfl,fun i c a E=>by simp at E⟩,
  ⟨by simp,0,0,none,0,rfl,o7 _,Z9 _,fun h=>absurd h (Nat.lt_irrefl _),fun h=>by simp at h,fun j v h=>by simp at h⟩,
  fun _=>⟨.inl rfl,0,bL.nil w 0 0 _⟩⟩
theorem AC {F:Nat→av} {vs:List (List x4)} {l:List Int} (h:kf m R F w vs l):vs.flatten=ints .i64 l:=by
 have:vs=l.map fun x=>[X4 .i64 x]:=by
  apply List.ext_getElem
  ·simp[h.1]
  ·intro i h1 E;have I:i<l.length:=by simpa using E
   have:=h.2 i _ _ (x3 h1) (x3 I);rw[List.getElem_map];exact this
 subst this;clear h;induction l with
 |nil=>rfl
 |cons x l J=>simp only[List.map_cons,List.flatten_cons,J];rfl
theorem kh {v:x4} {l:List Int} (h:ax.rep m S R w [v] l):aH .i64 w v l:=by
 obtain⟨vs,g,F,_,he,E,_⟩:=kg h;have:=E.sl;rw[AC he] at this;exact this
theorem h9 {t e ty:o6} {v:x4} {l:List α} {K:x4→Prop} (E:P.underlying t=some (.slice e)) (h:ax.rep m S R w [v] l):
  I P (u6 #[t] ty #[v]) w K=K (.int .i64 l.length):=by
 obtain⟨_,_,_,_,_,⟨_,_,_,_,_,rfl,_⟩,_⟩:=kg h;exact gf E
theorem pp {t e:o6} {V:o8} {i b:Nat} {y:Int} {z v:x4} {l:List α} {a:α} {K:x4→Prop} (W:y=(i:Int)) (X:P.underlying t=some (.slice e)) (hi:aI P e (ax.n α) b z)
  (h:ax.rep m S R w [v] l) (E:l[i]? =some a) (Y:∀ b o cs,w.rangeAt b o cs→ax.rep m S R w cs a→K (.pointer (some ⟨b,o,none⟩))):I P (x7 t v (.int V y)) w K:=by
 subst W;obtain⟨vs,g,F,Z,he,⟨_,b,o,base,cap,rfl,_,_,aa,_,ab⟩,_⟩:=kg h;have J:=(x6.1 E).1;rw[gy X hi J aa];obtain⟨c,O⟩:∃ c,vs[i]? =some c:=⟨_,x3 (by rw[he.1];exact J)⟩;have U:=he.2 i c a O E;have ac:=ax.len U;refine Y _ _ c (fun j u hu=>?_) (ax.mono U (fun r _ h=>Z.sub i r h) fun _ _ h=>h);have ad:=(x6.1 hu).1;rw[Nat.add_assoc];refine ab (i*ax.n α+j) u ?_;rw[ll he.len O (by omega)];exact hu
theorem vr {t e:o6} {O:o8} {i b:Nat} {y:Int} {z v:x4} {l:List α} {a:α} {K:x4→Prop} (U:ax.n α=1) (V:y=(i:Int)) (W:P.underlying t=some (.slice e)) (hi:aI P e (ax.n α) b z)
  (h1:kc P e=true) (h:ax.rep m S R w [v] l) (X:l[i]? =some a) (Y:∀ u,ax.rep m S R w [u] a→K u):
  I P (x7 t v (.int O y)) w fun p=>I P (x1 e p) w K:=by
 refine pp V W hi h X fun b o cs Z E=>?_;have J:=ax.len E;rw[U] at J;obtain⟨u,rfl⟩:=V6.1 J;rw[ai h1 (by have:=Z 0 u rfl;simpa using this)];exact Y u E
theorem mR {t e:o6} {J:List (Nat×Nat)} {O:o8} {i b:Nat} {y:Int} {z v:x4} {l:List α} {a:α} {K:x4→Prop} (hu:bH P e J) (U:y=(i:Int)) (V:P.underlying t=some (.slice e)) (hi:aI P e (ax.n α) b z)
  (h:ax.rep m S R w [v] l) (W:l[i]? =some a) (X:∀ cs,ax.rep m S R w cs a→K (.agg cs.toArray)):
  I P (x7 t v (.int O y)) w fun p=>I P (x1 e p) w K:=by
 refine pp U V hi h W fun b o cs Y E=>?_;rw[bI hu hi (ax.len E) Y];exact X cs E
theorem sP {g:Nat} {e:o6} {k:Nat} {v:x4} {n:Nat} {xs:List x4} (h:bL w g e k v n xs) (I:v= .slice none 0 0∨S g):h7 S w k v n xs:=by
 obtain⟨h1,⟨rfl,rfl⟩|⟨cap,cs,rfl,J,O,U,W,V⟩⟩:=h
 ·have:xs=[]:=j9 (by simpa using h1);subst this;exact⟨by simp,0,0,none,0,rfl,o7 _,Z9 _,fun h=>absurd h (Nat.lt_irrefl _),fun h=>by simp at h,fun j v h=>by simp at h⟩
 ·refine⟨h1,g,0,_,cap,rfl,O,U,fun _=>rfl,fun _=>I.resolve_left (by simp),fun j v E=>?_⟩;rw[V5];have X:=(x6.1 E).1;rw[←V,Z6 (by omega)] at E;exact J.cell E
open Classical in
theorem AD {t ak e ao ty:o6} {b:Nat} {z v x:x4} {us:List (List x4)} {l l':List α} {G:Nat→av} {K:x4→x5→Prop} (ap:P.underlying t=some (.slice e)) (aq:P.underlying ak=some (.slice ao)) (hi:aI P e (ax.n α) b z) (au:z.cells.size=ax.n α)
  (h:dv S R w [v] l) (aw:b7 w (ax.n α) x l'.length us.flatten) (ac:kf true R G w us l') (ay:∀ i j r,i≠j→G i r→¬G j r)
  (Y:∀ r,r<w.heap.size→S r→(∀ i,¬G i r)∧¬R r) (az:(l.length+l'.length)*b≤140737488355328) (aA:l.length+l'.length≤9223372036854775807)
  (aB:∀ I w',dv (fun r=>S r∨(∃ i,G i r)∨w.heap.size≤r) R w' [I] (l++l')→aj S w w'→K I w'):aa P (r9 #[t,ak] ty #[v,x]) w K:=by
 obtain⟨vs,g,F,V,he,aG,hm⟩:=kg h;obtain⟨ae,aH,al⟩:=hm rfl;refine vl ap aq hi au al aw ac.one az (by simpa[maxLen] using aA) ?_;intro I Z w' aC aD af ag;have ah:∀ r,r=g∧v≠ .slice none 0 0→S r:=fun r ⟨h1,E⟩=>h1▸ae.resolve_left E;have aE:=al;have ai:(I= .slice none 0 0)∨(Z=g∧S g∧g<w.heap.size)∨Z=w.heap.size:=by
  rcases aD with⟨h1,_,E|E⟩|⟨h1,_⟩
  ·rcases ae with O|O
   ·exact .inl (E▸O)
   ·obtain⟨_,⟨U,_⟩|⟨_,_,_,U,_⟩⟩:=aE
    ·exact .inl (E▸U)
    ·exact .inr (.inl ⟨h1,O,U.lt⟩)
  ·exact .inr (.inl ⟨h1,ae.resolve_left E.2,E.1⟩)
  ·exact .inr (.inr h1)
 refine aB I w' ⟨I,rfl,vs++us,if I= .slice none 0 0 then w.heap.size else Z,fun i r=>if i<l.length then F i r∧r<w.heap.size else G (i-l.length) r∧r<w.heap.size,⟨fun i r h=>?_,fun _ i h=>?_,fun _ i j r aF h1 E=>?_⟩,⟨by simp[he.1,ac.1],fun i c a hi ab=>?_⟩,?_,fun _=>⟨?_,aC,?_⟩⟩ (ag.mono fun r _ h=>ah r h)
 ·split at h
  ·exact .inl (V.sub i r h.1)
  ·exact .inr (.inl ⟨_,h.1⟩)
 ·have W:(if I= .slice none 0 0 then w.heap.size else Z)<w.heap.size:=by split at h <;> exact h.2
  split at W
  ·omega
  ·rename_i J;rw[if_neg J] at h;rcases ai with h1|⟨rfl,E,O⟩|h1
   ·exact J h1
   ·split at h
    ·exact V.top rfl i h.1
    ·exact (Y _ O E).1 _ h.1
   ·omega
 ·split at h1 <;> split at E
  ·exact V.vq rfl i j r aF h1.1 E.1
  ·exact (Y r h1.2 (V.sub i r h1.1)).1 _ E.1
  ·exact (Y r h1.2 (V.sub j r E.1)).1 _ h1.1
  ·exact ay (i-l.length) (j-l.length) r (by omega) h1.1 E.1
 ·have am:∀ r,r<w.heap.size→R r→¬(r=g∧v≠ .slice none 0 0):=fun r X h1 E=>(Y r X (ah r E)).2 h1;by_cases W:i<l.length
  ·rw[Z1 (by rw[he.1];exact W)] at hi;rw[Z1 W] at ab;simp only[if_pos W];refine ax.ad (ke (he.2 i c a hi ab)) ag fun r X h1 E=>?_;rcases h1 with h1|h1
   ·exact V.top rfl i (E.1▸h1.1)
   ·exact am r X h1 E
  ·rw[Z4 (by rw[he.1];omega),he.1] at hi;rw[Z4 (by omega)] at ab;simp only[if_neg W];refine ax.ad (ke (ac.2 _ c a hi ab)) ag fun r X h1 E=>?_;rcases h1 with h1|h1
   ·exact (Y r X (ah r E)).1 _ h1.1
   ·exact am r X h1 E
 ·rw[o5,List.flatten_append];refine sP af ?_;rcases ai with h1|⟨rfl,E,_⟩|rfl
  ·exact .inl h1
  ·exact .inr (.inl (.inl E))
  ·exact .inr (.inl (.inr (.inr (o7 _))))
 ·rcases ai with h1|⟨rfl,E,_⟩|rfl
  ·exact .inl h1
  ·by_cases J:I= .slice none 0 0
   ·exact .inl J
   ·rw[if_neg J];exact .inr (.inl E)
  ·split
   ·exact .inr (.inr (.inr (o7 _)))
   ·exact .inr (.inr (.inr (o7 _)))
 ·rw[o5,List.flatten_append];by_cases J:I= .slice none 0 0
  ·subst J;obtain⟨O,⟨_,U⟩|⟨_,_,U,_⟩⟩:=af
   ·exact⟨O,.inl ⟨rfl,U⟩⟩
   ·cases U
  ·rw[if_neg J];exact af
theorem mS {t e ty:o6} {b:Nat} {z v x:x4} {cs:List x4} {l:List α} {a:α} {A:av} {K:x4→x5→Prop} (V:P.underlying t=some (.slice e)) (hi:aI P e (ax.n α) b z) (Z:z.cells.size=ax.n α)
  (h:dv S R w [v] l) (ab:b7 w (ax.n α) x 1 cs) (ac:dv A R w cs a) (W:∀ r,r<w.heap.size→S r→¬(A r∨R r)) (E:(l.length+1)*b≤140737488355328) (ad:l.length+1≤9223372036854775807)
  (ae:∀ I w',dv (fun r=>S r∨A r∨w.heap.size≤r) R w' [I] (l++[a])→aj S w w'→K I w'):aa P (r9 #[t,t] ty #[v,x]) w K:=by
 refine AD (l':=[a]) (us:=[cs]) (G:=fun i r=>i=0∧A r) V V hi Z h (by simpa using ab) ⟨rfl,fun i c b J E=>?_⟩ (fun i j r af h1 O=>af (h1.1.trans O.1.symm)) (fun r X Y=>⟨fun i h=>W r X Y (.inl h.2),fun h=>W r X Y (.inr h)⟩) (by simpa using E) (by simpa using ad)
  fun I w' h1 O=>ae I w' (ax.mono h1 (fun r _ h=>h.imp id (Or.imp (fun⟨_,h⟩=>h.2) id)) fun _ _ h=>h) O
 have U:=(x6.1 J).1;have U:i=0:=by simpa using U
 subst U;simp at J E;subst J E;exact ax.mono ac (fun r _ h=>⟨rfl,h⟩) fun _ _ h=>h
end
theorem vt:∀ (c:List x4) (i:Nat) (z:Array x4),(i+c.length≤z.size)→((c.zipIdx i).foldl (fun cs (x:x4×Nat)=>cs.setIfInBounds x.2 x.1) z).toList=z.toList.take i++c++z.toList.drop (i+c.length)
 |[],i,z,h=>by simp
 |x::r,i,z,h=>by
  simp only[c8] at h;rw[List.zipIdx_cons,List.foldl_cons,vt r (i+1) _ (by simp;omega)];simp only[Array.toList_setIfInBounds,c8];rw[List.drop_set_of_lt (by omega),List.take_set,o3,x3 (by simp;omega)];simp only[j5];rw[V2 _ _ (by simp;omega)];have e:i-(z.toList.take i).length=0:=by simp;omega
  rw[e,show i+1+r.length=i+(r.length+1) by omega];simp
theorem vu {k:Nat} {z:Array x4} {v:x4} (E:z.size=k) (I:v.cells.size=k):Instr.fill (fun j=>some (j*k,k)) z [(0,v)]=some v.cells:=by
 have h:=vt v.cells.toList 0 z (by simp;omega);simp only[Instr.fill,Nat.zero_mul,V5];rw[if_neg (by simp;omega)];congr 1;apply Array.toList_inj.1;rw[←Array.foldl_toList,Array.toList_zipIdx,h];simp;omega
section
variable {P:X1} {w:x5} {α β:Type} [ax α] [ax β] {m:Bool} {S R:av}
theorem lm {t e:o6} {b:Nat} {z x:x4} {cs:List x4} {a:α} {A:av} {K:x4→x5→Prop} (W:P.underlying t=some (.slice e)) (hi:aI P e (ax.n α) b z) (ae:ax.n α≤100000)
  (J:x.cells=cs.toArray) (O:dv A R w cs a)
  (X:∀ v w',Ext w w'→dv (fun r=>A r∨w.heap.size≤r) R w' [v] [a]→b7 w' (ax.n α) v 1 cs→K v w'):aa P (u9 t 1 #[(0,x)]) w K:=by
 have Y:=ax.len O;refine h5 W hi (by omega) (cs:=x.cells) (vu (by simp) (by rw[J];simpa using Y)) fun g w' af U E=>?_;have E:ak w' g e cs:=by rw[J] at E;simpa using E
 have hm:bL w' g e (ax.n α) (.slice (some ⟨g,0,none⟩) 1 1) 1 cs:=bL.full E (by omega) (by simp[maxLen]);refine X _ w' U ⟨_,rfl,[cs],g,fun i r=>i=0∧A r∧r<w.heap.size,⟨fun i r h=>.inl h.2.1,fun _ i h=>by omega,fun _ i j r Z h1 ab=>Z (h1.1.trans ab.1.symm)⟩,⟨rfl,fun i c a' I V=>?_⟩,?_,fun _=>⟨.inr (.inr (by omega)),e,by simpa using hm⟩⟩ hm.sl
 ·have ac:i=0:=by simpa using (x6.1 I).1
  subst ac;simp at I V;subst I V;exact c0 (ax.mono O (fun r ad h=>⟨rfl,h,ad⟩) fun _ _ h=>h) U
 ·have:=sP (S:=fun r=>(A r∨w.heap.size≤r)∨R r) hm (.inr (.inl (.inr (by omega))));simpa using this
end
theorem bc.range {w:x5} {B:x4→x5→(x4→x5→Prop)→Prop} (n:Nat) (E:Nat→x5→Prop)
  (V:n≤9223372036854775807) (J:E 0 w)
  (O:∀ (i:Nat) (w:x5) (k:x4→x5→Prop),i<n→E i w→(∀ w',E (i+1) w'→k (.int .i64 (Y9.wrap ((i:Int)+1))) w')→B (.int .i64 (i:Int)) w k)
  (U:∀ (w:x5) (k:x4→x5→Prop),E n w→B (.int .i64 (n:Int)) w k):bc (.int .i64 0) w B:=by
 refine⟨fun t w=>∃ i:Nat,t= .int .i64 (i:Int)∧i≤n∧E i w,fun t _=>n-(bM t).toNat,⟨0,rfl,Z9 _,J⟩,?_⟩;rintro _ w ⟨i,rfl,hi,h⟩;by_cases I:i<n
 ·refine O i w _ I h fun w' h'=>⟨⟨i+1,?_,I,h'⟩,?_⟩
  ·rw[wrap_i64 (by omega) (by omega)];rfl
  ·rw[wrap_i64 (by omega) (by omega)];simp only[bM];omega
 ·have:i=n:=by omega
  subst this;exact U w _ h
theorem a8.range {a:x4} {w:x5} {B:x4→x4→x5→(x4→x4→x5→Prop)→Prop} (n:Nat) (E:Nat→x4→x5→Prop)
  (V:n≤9223372036854775807) (J:E 0 a w)
  (O:∀ (i:Nat) (a:x4) (w:x5) (k:x4→x4→x5→Prop),i<n→E i a w→(∀ a' w',E (i+1) a' w'→k a' (.int .i64 (Y9.wrap ((i:Int)+1))) w')→B a (.int .i64 (i:Int)) w k)
  (U:∀ (a:x4) (w:x5) (k:x4→x4→x5→Prop),E n a w→B a (.int .i64 (n:Int)) w k):a8 a (.int .i64 0) w B:=by
 refine⟨fun a t w=>∃ i:Nat,t= .int .i64 (i:Int)∧i≤n∧E i a w,fun a t _=>n-(bM t).toNat,⟨0,rfl,Z9 _,J⟩,?_⟩;rintro a _ w ⟨i,rfl,hi,h⟩;by_cases I:i<n
 ·refine O i a w _ I h fun a' w' h'=>⟨⟨i+1,?_,I,h'⟩,?_⟩
  ·rw[wrap_i64 (by omega) (by omega)];rfl
  ·rw[wrap_i64 (by omega) (by omega)];simp only[bM];omega
 ·have:i=n:=by omega
  subst this;exact U a w _ h
theorem hV.range {a b:x4} {w:x5} {B:x4→x4→x4→x5→(x4→x4→x4→x5→Prop)→Prop} (n:Nat) (E:Nat→x4→x4→x5→Prop)
  (W:n≤9223372036854775807) (O:E 0 a b w)
  (U:∀ (i:Nat) (a b:x4) (w:x5) (k:x4→x4→x4→x5→Prop),i<n→E i a b w→(∀ a' I w',E (i+1) a' I w'→k a' I (.int .i64 (Y9.wrap ((i:Int)+1))) w')→B a b (.int .i64 (i:Int)) w k)
  (V:∀ (a b:x4) (w:x5) (k:x4→x4→x4→x5→Prop),E n a b w→B a b (.int .i64 (n:Int)) w k):hV a b (.int .i64 0) w B:=by
 refine⟨fun a b t w=>∃ i:Nat,t= .int .i64 (i:Int)∧i≤n∧E i a b w,fun a b t _=>n-(bM t).toNat,⟨0,rfl,Z9 _,O⟩,?_⟩;rintro a b _ w ⟨i,rfl,hi,h⟩;by_cases J:i<n
 ·refine U i a b w _ J h fun a' I w' h'=>⟨⟨i+1,?_,J,h'⟩,?_⟩
  ·rw[wrap_i64 (by omega) (by omega)];rfl
  ·rw[wrap_i64 (by omega) (by omega)];simp only[bM];omega
 ·have:i=n:=by omega
  subst this;exact V a b w _ h
theorem lW.range {a b c:x4} {w:x5} {B:x4→x4→x4→x4→x5→(x4→x4→x4→x4→x5→Prop)→Prop} (n:Nat) (E:Nat→x4→x4→x4→x5→Prop)
  (X:n≤9223372036854775807) (U:E 0 a b c w)
  (V:∀ (i:Nat) (a b c:x4) (w:x5) (k:x4→x4→x4→x4→x5→Prop),i<n→E i a b c w→(∀ a' I J w',E (i+1) a' I J w'→k a' I J (.int .i64 (Y9.wrap ((i:Int)+1))) w')→B a b c (.int .i64 (i:Int)) w k)
  (W:∀ (a b c:x4) (w:x5) (k:x4→x4→x4→x4→x5→Prop),E n a b c w→B a b c (.int .i64 (n:Int)) w k):lW a b c (.int .i64 0) w B:=by
 refine⟨fun a b c t w=>∃ i:Nat,t= .int .i64 (i:Int)∧i≤n∧E i a b c w,fun a b c t _=>n-(bM t).toNat,⟨0,rfl,Z9 _,U⟩,?_⟩;rintro a b c _ w ⟨i,rfl,hi,h⟩;by_cases O:i<n
 ·refine V i a b c w _ O h fun a' I J w' h'=>⟨⟨i+1,?_,O,h'⟩,?_⟩
  ·rw[wrap_i64 (by omega) (by omega)];rfl
  ·rw[wrap_i64 (by omega) (by omega)];simp only[bM];omega
 ·have:i=n:=by omega
  subst this;exact W a b c w _ h
theorem jj.range {a b c d:x4} {w:x5} {B:x4→x4→x4→x4→x4→x5→(x4→x4→x4→x4→x4→x5→Prop)→Prop} (n:Nat) (E:Nat→x4→x4→x4→x4→x5→Prop)
  (Y:n≤9223372036854775807) (V:E 0 a b c d w)
  (W:∀ (i:Nat) (a b c d:x4) (w:x5) (k:x4→x4→x4→x4→x4→x5→Prop),i<n→E i a b c d w→(∀ a' I J O w',E (i+1) a' I J O w'→k a' I J O (.int .i64 (Y9.wrap ((i:Int)+1))) w')→B a b c d (.int .i64 (i:Int)) w k)
  (X:∀ (a b c d:x4) (w:x5) (k:x4→x4→x4→x4→x4→x5→Prop),E n a b c d w→B a b c d (.int .i64 (n:Int)) w k):jj a b c d (.int .i64 0) w B:=by
 refine⟨fun a b c d t w=>∃ i:Nat,t= .int .i64 (i:Int)∧i≤n∧E i a b c d w,fun a b c d t _=>n-(bM t).toNat,⟨0,rfl,Z9 _,V⟩,?_⟩;rintro a b c d _ w ⟨i,rfl,hi,h⟩;by_cases U:i<n
 ·refine W i a b c d w _ U h fun a' I J O w' h'=>⟨⟨i+1,?_,U,h'⟩,?_⟩
  ·rw[wrap_i64 (by omega) (by omega)];rfl
  ·rw[wrap_i64 (by omega) (by omega)];simp only[bM];omega
 ·have:i=n:=by omega
  subst this;exact X a b c d w _ h
section
variable {P:X1} {w:x5} {m:Bool} {S R:av}
theorem AE {k:o8} (l:List Int):(l.map fun x=>[X4 k x]).flatten=ints k l:=by
 induction l with
 |nil=>rfl
 |cons x l E=>simp only[List.map_cons,List.flatten_cons,E];rfl
theorem mT {e:o6} {g:Nat} {v:x4} {l:List Int} (h:aq .i64 e w g v l):dv (fun r=>r=g) R w [v] l:=by
 have I:(l.map fun x=>[X4 .i64 x]).flatten=ints .i64 l:=AE l;refine⟨v,rfl,l.map fun x=>[.int .i64 x],g,fun _ _=>False,⟨fun _ _ h=>h.elim,fun _ _ h=>h,fun _ _ _ _ _ h=>h.elim⟩,⟨by simp,fun i c a E J=>?_⟩,?_,fun _=>⟨.inr rfl,e,?_⟩⟩
 ·rw[r8,J] at E;simp at E;exact E.symm
 ·rw[I];exact sP h (.inr (.inl rfl))
 ·rw[I];exact h
def eg.val {k:o8} (x:eg k):Int:=x
end
end Go.Vc
namespace Go.Proofs.YtgbkinibgjmodaaGreatDoor
open Go Go.Vc Go.RowKit Go.Proofs Go.Proofs.Tryz
set_option maxRecDepth 100000
def right (k:Int):Prop:=1≤k∧k≤2147483648
def cF (a k:Int):Prop:=right k∧0≤a∧a≤k
instance (k:Int):Decidable (right k):=by unfold right;infer_instance
instance (a k:Int):Decidable (cF a k):=by unfold cF;infer_instance
theorem vv {k:Int} {w:x5}:O y0 mE [.int .i64 k] w fun v w'=>v= .bool (decide (right k))∧Ext w w':=by
 apply mE.enter;simp only[aB,cV,pk,ag];refine⟨fun h=>⟨?_,Ext.refl _⟩,fun h=>⟨?_,Ext.refl _⟩⟩
 ·congr 1;simp[right,h]
 ·rw[decide_eq_false];intro E;exact h E.1
theorem ln {a k:Int} {w:x5}:O y0 iJ [.int .i64 a,.int .i64 k] w fun v w'=>v= .bool (decide (cF a k))∧Ext w w':=by
 apply iJ.enter;simp only[aB];refine vv.mono ?_;rintro _ U _ ⟨rfl,E⟩;simp only[cV,pk,ag];refine⟨fun h=>⟨fun I=>⟨?_,E⟩,fun I=>⟨?_,E⟩⟩,fun h=>⟨?_,E⟩⟩
 ·congr 1;simp[cF,h,I]
 ·rw[decide_eq_false];intro J;exact I J.2.1
 ·rw[decide_eq_false];intro J;exact h J.1
end Go.Proofs.YtgbkinibgjmodaaGreatDoor
namespace Go.Proofs.YtgbkinibgjmodaaGreatDoor
open Go Go.Vc Go.RowKit Go.Proofs Go.Proofs.Tryz
set_option maxRecDepth 100000
def aG:List Int→Int
 |[]=>1
 |x::r=>x*aG r
theorem vw:∀ (a b:List Int),aG (a++b)=aG a*aG b
 |[],b=>by simp[aG]
 |x::a,b=>by simp[aG,vw a b,Int.mul_assoc]
theorem qW {l:List Int} {i:Nat} {x:Int} (h:l[i]? =some x):aG (l.take (i+1))=aG (l.take i)*x:=by
 rw[o3,h,vw];simp[aG]
def bR (l:List Int):Prop:=l.length≤6∧ ∀ x∈l,1≤x∧x≤32
theorem bR.take {l:List Int} (h:bR l) (i:Nat):bR (l.take i):=⟨by rw[l6];have:=h.1;omega,fun x E=>h.2 x (List.mem_of_mem_take E)⟩
theorem bR.drop {l:List Int} (h:bR l) (i:Nat):bR (l.drop i):=⟨by rw[List.length_drop];have:=h.1;omega,fun x E=>h.2 x (List.mem_of_mem_drop E)⟩
theorem pq:∀ (l:List Int),(∀ x∈l,1≤x∧x≤32)→1≤aG l∧aG l≤32 ^ l.length
 |[],_=>by simp[aG]
 |x::r,h=>by
  obtain⟨h1,E⟩:=pq r fun y I=>h y (.tail _ I);obtain⟨J,O⟩:=h x (.head _);simp only[aG,c8];constructor
  ·have:=Int.mul_le_mul J h1 (by omega) (by omega);simpa using this
  ·have:=Int.mul_le_mul O E (by omega) (by omega);rw[Int.pow_succ];rw[Int.mul_comm (32 ^ r.length) 32];exact this
theorem prod_bound {l:List Int} (h:bR l):1≤aG l∧aG l≤1073741824:=by
 obtain⟨h1,E⟩:=pq l h.2;refine⟨h1,Int.le_trans E ?_⟩;have:(32:Int) ^ l.length≤32 ^ 6:=by
  have I:=h.1
  match l.length,I with
  |0,_=>decide
  |1,_=>decide
  |2,_=>decide
  |3,_=>decide
  |4,_=>decide
  |5,_=>decide
  |6,_=>decide
 simpa using this
def cg:List Int→List Int→Int→Option Int
 |[],[],n=>some n
 |k::s,v::t,n=>if 0≤v∧v<k then cg s t (n*k+v) else none
 |_,_,_=>none
theorem sQ:∀ (s t:List Int) (n:Int),s.length≠t.length→cg s t n=none
 |[],[],_,h=>absurd rfl h
 |[],_::_,_,_=>rfl
 |_::_,[],_,_=>rfl
 |k::s,v::t,n,h=>by
  unfold cg;split
  ·exact sQ s t _ (by simpa using h)
  ·rfl
def cv:List Int→Int→List Int
 |[],_=>[]
 |k::s,n=>(n / aG s) % k::cv s n
theorem hc:∀ (s:List Int) (n:Int),(cv s n).length=s.length
 |[],_=>rfl
 |_::s,n=>by simp[cv,hc s n]
theorem vx:∀ {s:List Int} {n:Int} {i:Nat} {k:Int},s[i]? =some k→(cv s n)[i]? =some ((n / aG (s.drop (i+1))) % k)
 |E::s,n,0,k,h=>by simp at h;subst h;simp[cv]
 |E::s,n,i+1,k,h=>by
  simp only[List.getElem?_cons_succ] at h;simp only[cv,List.getElem?_cons_succ,List.drop_succ_cons];exact vx h
theorem iM:∀ {s t:List Int} {m n:Int},(∀ x∈s,1≤x∧x≤32)→cg s t m=some n→m*aG s≤n∧n<(m+1)*aG s
 |[],[],m,n,_,h=>by simp[cg] at h;subst h;simp[aG];omega
 |k::s,v::t,m,n,I,h=>by
  unfold cg at h;split at h
  ·rename_i V;have J:=iM (fun x E=>I x (.tail _ E)) h;have W:=(pq s fun x E=>I x (.tail _ E)).1;simp only[aG];have O:m*(k*aG s)=m*k*aG s:=(Int.mul_assoc _ _ _).symm;have U:(m+1)*(k*aG s)=(m*k+k)*aG s:=by rw[←Int.mul_assoc,Int.add_mul,Int.one_mul]
   rw[O,U];constructor
   ·refine Int.le_trans ?_ J.1;exact Int.mul_le_mul_of_nonneg_right (by omega) (by omega)
   ·refine Int.lt_of_lt_of_le J.2 ?_;exact Int.mul_le_mul_of_nonneg_right (by omega) (by omega)
  ·cases h
 |[],_::_,_,_,_,h=>by cases h
 |_::_,[],_,_,_,h=>by cases h
end Go.Proofs.YtgbkinibgjmodaaGreatDoor
namespace Go.Proofs.YtgbkinibgjmodaaGreatDoor
open Go Go.Vc Go.RowKit Go.Proofs Go.Proofs.Tryz
set_option maxRecDepth 100000
def bG:List Int→List (List Int)
 |[]=>[[]]
 |k::s=>(X7 k.toNat).flatMap fun(v:Nat)=>(bG s).map fun t=>(v:Int)::t
theorem iN:∀ {s:List Int},(∀ x∈s,1≤x∧x≤32)→(bG s).length=(aG s).toNat
 |[],_=>rfl
 |k::s,h=>by
  have I:=iN (s:=s) fun x E=>h x (.tail _ E);have J:=h k (.head _);have O:=(pq s fun x E=>h x (.tail _ E)).1;simp only[bG,aG,List.length_flatMap,o4,I];rw[List.map_const',List.length_range,List.sum_replicate_nat,Int.toNat_mul (by omega) (by omega)]
theorem sR:∀ {s x:List Int},x∈bG s→x.length=s.length
 |[],x,h=>by simp[bG] at h;subst h;rfl
 |k::s,x,h=>by
  simp only[bG,List.mem_flatMap,l9] at h;obtain⟨v,_,t,E,rfl⟩:=h;simp[sR E]
theorem AF {s x:List Int} {j:Nat} (h:(bG s)[j]? =some x):x.length=s.length:=sR (u4 h)
end Go.Proofs.YtgbkinibgjmodaaGreatDoor
namespace Go.Proofs.YtgbkinibgjmodaaGreatDoor
open Go Go.Vc Go.RowKit Go.Proofs Go.Proofs.Tryz
set_option maxRecDepth 100000
theorem mU {sv:x4} {l:List Int} {w:x5} (h:aH .i64 w sv l) (U:bR l):
  O y0 iK [.agg #[sv]] w fun v w'=>v= .int .i64 (aG l)∧Ext w w':=by
 apply iK.enter;refine ce fun g w0 Z V X=>?_;rw[ah aJ.p rfl,ai (by kernel_rfl) (X.cell (o:=0+0) rfl),aO ab.u (h.ext V)];refine⟨fun n t W=>Ext w W∧ ∃ i:Nat,t= .int .i64 i∧i≤l.length∧n= .int .i64 (aG (l.take i)),fun _ t _=>l.length-(bM t).toNat,⟨V,0,rfl,Z9 _,rfl⟩,?_⟩;rintro _ _ W ⟨E,i,rfl,hi,rfl⟩;have aa:=U.1;simp only[au,ag];refine⟨fun ac=>?_,fun ad=>⟨?_,E⟩⟩
 ·obtain⟨x,I⟩:∃ x,l[i]? =some x:=⟨_,x3 (by omega)⟩;rw[bm ab.u J.i (by kernel_rfl) (h.ext E) I];have Y:=prod_bound (U.take (i+1));rw[qW I] at Y;simp only[fA,aK];rw[wrap_i64 (by omega) (by omega),wrap_i64 (by omega) (by omega),←qW I];refine⟨⟨E,i+1,rfl,by omega,rfl⟩,?_⟩;simp only[bM];omega
 ·have:i=l.length:=by omega
  rw[this,l5]
theorem AG {sv:x4} {l:List Int} {w:x5} {i:Nat} (h:aH .i64 w sv l) (U:bR l) (hi:i<l.length):
  O y0 oF [.agg #[sv],.int .i64 i] w fun v w'=>v= .int .i64 (aG (l.drop (i+1)))∧Ext w w':=by
 have ad:=U.1;apply oF.enter;refine ce fun g w0 ae V W=>?_;have E:=h.ext V;simp only[aB,au,ag];refine⟨fun af=>by omega,fun _=>?_⟩;rw[ah aJ.p rfl,ai (by kernel_rfl) (W.cell (o:=0+0) rfl),aO ab.u E];simp only[cV,ag];refine⟨fun aj=>by omega,fun _=>?_⟩;rw[ah aJ.p rfl,ai (by kernel_rfl) (W.cell (o:=0+0) rfl)];simp only[aK];have X:Y9.wrap ((i:Int)+1)=((i+1:Nat):Int):=by rw[wrap_i64 (by omega) (by omega)];omega
 rw[X];have Y:=E;obtain⟨_,b,o,base,cap,rfl,ak,al,am,ao⟩:=id E;rw[gz ab.u J.i (l:=i+1) (h:=l.length) (m:=cap) qO h4 eY (by omega) (by omega) (by omega)];have I:=b7.part (l:=i+1) (h:=l.length) (m:=cap) Y (by omega) (by omega) (by omega) (by omega);generalize Z:(x4.slice (if cap=i+1 then base else X9 (fun x=>x.add ((i+1)*1)) base) (l.length-(i+1)) (cap-(i+1)))=q at I ⊢;have aa:((ints .i64 l).drop ((i+1)*1)).take ((l.length-(i+1))*1)=ints .i64 (l.drop (i+1)):=by
  rw[j0 (by simp),U9,ints,←List.map_drop]
 rw[aa] at I;rw[cW (cs:=#[q]) (by subst Z;kernel_rfl)];refine (mU (aH.of I) (U.drop (i+1))).mono ?_;rintro _ ap _ ⟨rfl,ac⟩;exact⟨rfl,V.trans ac⟩
def iO (s t:List Int):x4:=match cg s t 0 with
 |some n=>.tuple #[.int .i64 n,.int .i64 0]
 |none=>.tuple #[.int .i64 0,.int .i64 3]
theorem vy {sv aa:x4} {s t:List Int} {w:x5} (h:aH .i64 w sv s) (Y:aH .i64 w aa t) (W:bR s):
  O y0 mq [.agg #[sv],aa] w fun v w'=>v=iO s t∧Ext w w':=by
 have ap:=W.1;apply mq.enter;refine ce fun g w0 aq I Z=>?_;rw[aO ab.u (Y.ext I),ah aJ.p rfl,ai (by kernel_rfl) (Z.cell (o:=0+0) rfl),aO ab.u (h.ext I)];simp only[bN,ag];refine⟨fun av=>⟨?_,I⟩,fun ae=>?_⟩
 ·unfold iO;rw[sQ _ _ _ (by omega)]
 ·have ae:s.length=t.length:=by omega
  rw[aO ab.u (Y.ext I)];refine⟨fun _ _ n c ac=>Ext w0 ac∧ ∃ (i:Nat) (m:Int),c= .int .i64 i∧i≤t.length∧n= .int .i64 m∧0≤m∧m<aG (s.take i)∧cg s t 0=cg (s.drop i) (t.drop i) m,fun _ _ _ c _=>t.length-(bM c).toNat,
   ⟨Ext.refl _,0,0,rfl,Z9 _,rfl,Int.le_refl _,by simp[aG],rfl⟩,?_⟩
  rintro _ _ _ _ ac ⟨X,i,m,rfl,hi,rfl,af,aw,U⟩;have E:=I.trans X;simp only[au,ag];refine⟨fun ax=>?_,fun ay=>⟨?_,E⟩⟩
  ·obtain⟨v,aj,ak⟩:∃ v,t[i]? =some v∧t.drop i=v::t.drop (i+1):=⟨t[i],x3 (by omega),Y8 (by omega)⟩;obtain⟨k,V,al⟩:∃ k,s[i]? =some k∧s.drop i=k::s.drop (i+1):=⟨s[i],x3 (by omega),Y8 (by omega)⟩;rw[ak,al] at U;have am:=prod_bound (W.take (i+1));have az:=prod_bound (W.take i);have aA:=W.2 k (u4 V);rw[qW V] at am;have ad:¬(0≤v∧v<k)→iO s t= .tuple #[.int .i64 0,.int .i64 3]:=fun ao=>by unfold iO;rw[U];simp[cg,ao]
   rw[bm ab.u J.i (by kernel_rfl) (Y.ext E) aj];simp only[aB,au,ag,bP];refine⟨fun aC=>⟨(ad (by omega)).symm,E⟩,fun aD=>?_⟩;rw[ah aJ.p rfl,ai (by kernel_rfl) ((Z.ext X).cell (o:=0+0) rfl),bm ab.u J.i (by kernel_rfl) (h.ext E) V];simp only[cV,ag];refine⟨fun aE=>⟨(ad (by omega)).symm,E⟩,fun aF=>?_⟩;rw[ah aJ.p rfl,ai (by kernel_rfl) ((Z.ext X).cell (o:=0+0) rfl),bm ab.u J.i (by kernel_rfl) (h.ext E) V];have aI:0≤m*k∧m*k+k≤aG (s.take i)*k:=by
    constructor
    ·exact Int.mul_nonneg af (by omega)
    ·have:=Int.mul_le_mul_of_nonneg_right (show m+1≤aG (s.take i) by omega) (show 0≤k by omega);rw[Int.add_mul,Int.one_mul] at this;exact this
   simp only[fA,aK];rw[wrap_i64 (x:=m*k) (by omega) (by omega),wrap_i64 (x:=m*k+v) (by omega) (by omega),wrap_i64 (x:=(i:Int)+1) (by omega) (by omega)];refine⟨⟨X,i+1,m*k+v,rfl,by omega,rfl,by omega,by rw[qW V];omega,?_⟩,?_⟩
   ·rw[U];simp[cg,show 0≤v∧v<k from⟨by omega,by omega⟩]
   ·simp only[bM];omega
  ·have:i=t.length:=by omega
   rw[this,List.drop_of_length_le (by omega),List.drop_of_length_le (by omega)] at U;unfold iO;rw[U];rfl
end Go.Proofs.YtgbkinibgjmodaaGreatDoor
namespace Go.Proofs.YtgbkinibgjmodaaGreatDoor
open Go Go.Vc Go.RowKit Go.Proofs Go.Proofs.Tryz
set_option maxRecDepth 100000
theorem AH {aa ac:x4} {w:x5} {E V:Nat} {a b:List Int} (h1:b7 w 1 aa E (ints .i64 a)) (ad:b7 w 1 ac V (ints .i64 b)):
  O y0 me [aa,ac] w fun v w'=>v= .bool (decide (a=b))∧Ext w w':=by
 have ax:a.length=E:=by simpa using h1.1
 have ay:b.length=V:=by simpa using ad.1
 have ae:=h1.le;obtain⟨_,az,aA,aB,aC,rfl,aD,aE,ak,al⟩:=h1;obtain⟨_,aF,aG,aH,aI,rfl,aJ,aL,am,ao⟩:=ad;apply me.enter;simp only[gf ab.u,bN,ag];refine⟨fun af=>⟨?_,Ext.refl _⟩,fun ah=>?_⟩
 ·rw[decide_eq_false];rintro rfl;omega
 ·have ah:E=V:=by omega
  refine⟨fun t4 W aj=>Ext w aj∧ ∃ i:Nat,W= .int .i64 i∧i≤E∧a.take i=b.take i,fun _ W _=>E-(bM W).toNat,⟨Ext.refl _,0,rfl,Z9 _,rfl⟩,?_⟩;rintro t4 _ aj ⟨I,i,rfl,hi,X⟩;simp only[au,ag,aQ];refine⟨fun Y aM ap _ _=>?_,fun aN=>⟨?_,I⟩⟩
  ·have Y:i<E:=by omega
   have I:=I.trans ap;obtain⟨x,Z⟩:∃ x,a[i]? =some x:=⟨_,x3 (by omega)⟩;obtain⟨y,U⟩:∃ y,b[i]? =some y:=⟨_,x3 (by omega)⟩;have aq:=lf I (al i _ (ju Z));have av:=lf I (ao i _ (ju U));rw[gy ab.u J.i Y ak,U9,ai (by kernel_rfl) aq,gy ab.u J.i (ah▸Y) am,U9,ai (by kernel_rfl) av];simp only[bN,ag,aK];refine⟨fun af=>⟨?_,I⟩,fun aO=>⟨⟨I,i+1,?_,by omega,sL X Z U (by omega)⟩,?_⟩⟩
   ·rw[decide_eq_false];rintro rfl;rw[Z] at U;cases U;exact af rfl
   ·rw[wrap_i64 (by omega) (by simp only[maxLen] at ae;omega)];rfl
   ·rw[wrap_i64 (by omega) (by simp only[maxLen] at ae;omega)];simp only[bM];omega
  ·have aw:i=E:=by omega
   subst aw;rw[decide_eq_true];rw[j0 (by omega),j0 (by omega)] at X;exact X
theorem AI {s:x4} {w:x5} {n:Nat} {a:List Int} (h1:b7 w 1 s n (ints .i64 a)) (ac:n≤1000000):
  O y0 gX [s] w fun v w'=>Ext w w'∧ ∃ g,w.heap.size≤g∧bL w' g J 1 v n (ints .i64 a):=by
 have U:=h1;obtain⟨V,ad,ae,af,ag,rfl,ah,ai,W,aj⟩:=h1;apply gX.enter;simp only[qN ab.u,cE];refine⟨fun I=>⟨Ext.refl _,w.heap.size,o7 _,?_⟩,fun _=>?_⟩
 ·have:n=0:=by
   rcases Nat.eq_zero_or_pos n with h|h
   ·exact h
   ·rw[W h] at I;cases I
  subst this;have:ints .i64 a=[]:=j9 (by simpa using V);rw[this];exact bL.nil _ _ _ _
 ·refine h5 ab.u J.i (by omega) (cs:=#[]) (by kernel_rfl) ?_;intro g ak al E X;refine lj (g:=g) ab.u ab.u J.i rfl (bL.full X rfl (by omega)) (U.ext E) (po _ _) (by omega) (by simp only[maxLen];omega) ?_;intro am Y ao ap Z aa;refine⟨E.then aa (by rintro r aq rfl;omega),Y,?_,?_⟩
  ·have:=E.size;omega
  ·simpa using Z
theorem AJ {Z aa:x4} {w:x5} {E U:Nat} {a b:List Int} (h1:b7 w 1 Z E (ints .i64 a)) (ab:b7 w 1 aa U (ints .i64 b)):
  O y0 l3 [Z,aa] w fun v w'=>v= .bool (decide (a=b))∧Ext w w':=by
 have ax:a.length=E:=by simpa using h1.1
 have ay:b.length=U:=by simpa using ab.1
 have ac:=h1.le;obtain⟨_,az,aA,aB,aC,rfl,aD,aE,ak,al⟩:=h1;obtain⟨_,aF,aG,aH,aI,rfl,aJ,aL,am,ao⟩:=ab;apply l3.enter;simp only[gf af.u,bN,ag];refine⟨fun ad=>⟨?_,Ext.refl _⟩,fun ah=>?_⟩
 ·rw[decide_eq_false];rintro rfl;omega
 ·have ah:E=U:=by omega
  refine⟨fun t4 V aj=>Ext w aj∧ ∃ i:Nat,V= .int .i64 i∧i≤E∧a.take i=b.take i,fun _ V _=>E-(bM V).toNat,⟨Ext.refl _,0,rfl,Z9 _,rfl⟩,?_⟩;rintro t4 _ aj ⟨I,i,rfl,hi,W⟩;simp only[au,ag,aQ];refine⟨fun X aM ap _ _=>?_,fun aN=>⟨?_,I⟩⟩
  ·have X:i<E:=by omega
   have I:=I.trans ap;obtain⟨x,Y⟩:∃ x,a[i]? =some x:=⟨_,x3 (by omega)⟩;obtain⟨y,J⟩:∃ y,b[i]? =some y:=⟨_,x3 (by omega)⟩;have aq:=lf I (al i _ (ju Y));have av:=lf I (ao i _ (ju J));rw[gy af.u ae.i X ak,U9,ai (by kernel_rfl) aq,gy af.u ae.i (ah▸X) am,U9,ai (by kernel_rfl) av];simp only[bN,ag,aK];refine⟨fun ad=>⟨?_,I⟩,fun aO=>⟨⟨I,i+1,?_,by omega,sL W Y J (by omega)⟩,?_⟩⟩
   ·rw[decide_eq_false];rintro rfl;rw[Y] at J;cases J;exact ad rfl
   ·rw[wrap_i64 (by omega) (by simp only[maxLen] at ac;omega)];rfl
   ·rw[wrap_i64 (by omega) (by simp only[maxLen] at ac;omega)];simp only[bM];omega
  ·have aw:i=E:=by omega
   subst aw;rw[decide_eq_true];rw[j0 (by omega),j0 (by omega)] at W;exact W
theorem AK {s:x4} {w:x5} {n:Nat} {a:List Int} (h1:b7 w 1 s n (ints .i64 a)) (aa:n≤1000000):
  O y0 jY [s] w fun v w'=>Ext w w'∧ ∃ g,w.heap.size≤g∧bL w' g ae 1 v n (ints .i64 a):=by
 have J:=h1;obtain⟨U,ab,ac,ad,ag,rfl,ah,ai,V,aj⟩:=h1;apply jY.enter;simp only[qN af.u,cE];refine⟨fun I=>⟨Ext.refl _,w.heap.size,o7 _,?_⟩,fun _=>?_⟩
 ·have:n=0:=by
   rcases Nat.eq_zero_or_pos n with h|h
   ·exact h
   ·rw[V h] at I;cases I
  subst this;have:ints .i64 a=[]:=j9 (by simpa using U);rw[this];exact bL.nil _ _ _ _
 ·refine h5 af.u ae.i (by omega) (cs:=#[]) (by kernel_rfl) ?_;intro g ak al E W;refine lj (g:=g) af.u af.u ae.i rfl (bL.full W rfl (by omega)) (J.ext E) (po _ _) (by omega) (by simp only[maxLen];omega) ?_;intro am X ao ap Y Z;refine⟨E.then Z (by rintro r aq rfl;omega),X,?_,?_⟩
  ·have:=E.size;omega
  ·simpa using Y
theorem AL {E I:x4} {w:x5} {a b:List Int} (h1:aH .i64 w E a) (J:aH .i64 w I b):
  O y0 me [E,I] w fun v w'=>v= .bool (decide (a=b))∧Ext w w':=AH h1 J
theorem jv {s:x4} {w:x5} {a:List Int} (h1:aH .i64 w s a) (E:a.length≤1000000):
  O y0 gX [s] w fun v w'=>Ext w w'∧ ∃ g,w.heap.size≤g∧aq .i64 J w' g v a:=AI h1 E
theorem AM {E I:x4} {w:x5} {a b:List Int} (h1:aH .i64 w E a) (J:aH .i64 w I b):
  O y0 l3 [E,I] w fun v w'=>v= .bool (decide (a=b))∧Ext w w':=AJ h1 J
theorem sS {s:x4} {w:x5} {a:List Int} (h1:aH .i64 w s a) (E:a.length≤1000000):
  O y0 jY [s] w fun v w'=>Ext w w'∧ ∃ g,w.heap.size≤g∧aq .i64 ae w' g v a:=AK h1 E
end Go.Proofs.YtgbkinibgjmodaaGreatDoor
namespace Go.Proofs.YtgbkinibgjmodaaGreatDoor
open Go Go.Vc Go.RowKit Go.Proofs Go.Proofs.Tryz
set_option maxRecDepth 100000
theorem AN {sv:x4} {l:List Int} {w:x5} {n:Int} (h:aH .i64 w sv l) (E:bR l) (Y:0≤n) (aI:n<aG l):
  O y0 ol [.agg #[sv],.int .i64 n] w fun v w'=>Ext w w'∧ ∃ aj g,v= .tuple #[aj,.int .i64 0]∧w.heap.size≤g∧aq .i64 J w' g aj (cv l n):=by
 have aL:=E.1;have aM:=prod_bound E;apply ol.enter;refine ce fun g w0 aN Z I=>?_;have aP:=h.cells;simp only[aB,au,ag];refine⟨fun aR=>by omega,fun _=>?_⟩;rw[bI aJ.p aJ.i rfl I.range];refine (mU (h.ext Z) E).mono ?_;rintro _ aS _ ⟨rfl,U⟩;simp only[cV,ag];refine⟨fun aT=>by omega,fun _=>?_⟩;have V:=Z.trans U;rw[ah aJ.p rfl,ai (by kernel_rfl) ((I.ext U).cell (o:=0+0) rfl),aO ab.u (h.ext V)];refine hz ab.u J.i (by omega) (by omega) ?_;intro al aU aV aa av;simp only[gf ab.u];have aw:=V.trans aa;have s0:=Z.size;have aW:=U.size;have aX:=I.lt;refine⟨fun t W=>Ext w W∧Ext w0 W∧ ∃ i:Nat,t= .int .i64 i∧i≤l.length∧ak W al J (ints .i64 ((cv l n).take i++p9 (l.length-i) 0)),fun t _=>l.length-(bM t).toNat,
  ⟨aw,U.trans aa,0,rfl,Z9 _,by simpa using av⟩,?_⟩
 rintro _ W ⟨ac,ad,i,rfl,hi,am⟩;simp only[au,ag];refine⟨fun ae=>?_,fun aY=>?_⟩
 ·have ae:i<l.length:=by omega
  rw[bI aJ.p aJ.i rfl (I.ext ad).range];refine (AG (h.ext ac) E ae).mono ?_;rintro _ aZ _ ⟨rfl,ax⟩;simp only[aQ];intro a1 ay _ _;have X:=ax.trans ay;have ao:=ac.trans X;obtain⟨k,af⟩:∃ k,l[i]? =some k:=⟨l[i],x3 (by omega)⟩;have a2:=E.2 k (u4 af);have a6:=prod_bound (E.drop (i+1));have az:0≤n / aG (l.drop (i+1)):=Int.ediv_nonneg Y (by omega);have a7:n / aG (l.drop (i+1))≤n:=Int.ediv_le_self _ Y;rw[qM (by omega),Int.tdiv_eq_ediv_of_nonneg Y,wrap_i64 (by omega) (by omega),
   ah aJ.p rfl,ai (by kernel_rfl) (((I.ext ad).ext X).cell (o:=0+0) rfl),bm ab.u J.i (by kernel_rfl) (h.ext ao) af,
   pj (by omega),Int.tmod_eq_emod_of_nonneg az,gy ab.u J.i ae (fun _=>rfl),U9]
  refine bE J.i rfl rfl (am.ext X) (by simp[hc];omega) ?_;intro a8 ap ba aA;simp only[aK];rw[wrap_i64 (by omega) (by omega)];have bb:=aa.size;have bc:=V.size;refine⟨⟨ao.then ap (by rintro r aC rfl;omega),(ad.trans X).then ap (by rintro r aC rfl;omega),i+1,rfl,by omega,?_⟩,?_⟩
  ·have aD:=vx (n:=n) af;have e:(ints .i64 ((cv l n).take i++p9 (l.length-i) 0)).set (0+i) (.int .i64 (n / aG (l.drop (i+1)) % k))=ints .i64 ((cv l n).take (i+1)++p9 (l.length-(i+1)) 0):=by
    have aE:((cv l n).take i).length=i:=by rw[l6,hc];omega
    rw[V5,ints,←List.map_set];congr 1;rw[List.set_append,if_neg (by omega),aE,W3,show l.length-i=(l.length-(i+1))+1 by omega,List.replicate_succ,List.set_cons_zero,o3,aD];simp
   rw[←e];exact aA
  ·simp only[bM];omega
 ·have aF:i=l.length:=by omega
  subst aF;refine⟨ac,_,al,rfl,by have:=V.size;omega,aq.of (n:=l.length) (bL.full ?_ (by simp[ints,hc]) (by simp[maxLen];omega))⟩;have e:(cv l n).take l.length++p9 (l.length-l.length) 0=cv l n:=by rw[W3,j0 (by rw[hc];omega)];simp
  rw[←e];exact am
end Go.Proofs.YtgbkinibgjmodaaGreatDoor
namespace Go.Proofs.YtgbkinibgjmodaaGreatDoor
open Go Go.Vc Go.RowKit Go.Proofs Go.Proofs.Tryz
set_option maxRecDepth 100000
def gg (x:Int):Prop:=1≤x∧x≤32
instance (x:Int):Decidable (gg x):=by unfold gg;infer_instance
theorem AO {x:Int} {w:x5}:O y0 j1 [.int .i64 x] w fun v w'=>v= .bool (decide (¬gg x))∧Ext w w':=by
 apply j1.enter;simp only[aB,au,bV,ag];refine⟨fun h=>⟨?_,Ext.refl _⟩,fun h=>⟨?_,Ext.refl _⟩⟩
 ·rw[decide_eq_true];intro E;have:=E.1;omega
 ·congr 1;have:(32<x)=(¬gg x):=propext ⟨fun I E=>by have:=E.2;omega,fun I=>by
   by_cases J:32<x
   ·exact J
   ·exact absurd ⟨by omega,by omega⟩ I⟩
  simp only[this]
theorem AP {sv:x4} {l:List Int} {w:x5} (h:aH .i64 w sv l):
  O y0 jX [sv,.func (.func j1) #[] #[]] w fun v w'=>Ext w w'∧ ∃ n:Int,v= .int .i64 n∧((0≤n)=¬∀ x∈l,gg x):=by
 have ac:=h.le;apply jX.enter;rw[aO ab.u h];refine⟨fun _ t U=>Ext w U∧ ∃ i:Nat,t= .int .i64 i∧i≤l.length∧ ∀ x∈l.take i,gg x,fun _ t _=>l.length-(bM t).toNat,⟨Ext.refl _,0,rfl,Z9 _,by simp⟩,?_⟩;rintro _ _ U ⟨I,i,rfl,hi,V⟩;simp only[au,ag];refine⟨fun ad=>?_,fun ae=>⟨I,-1,rfl,?_⟩⟩
 ·obtain⟨x,W⟩:∃ x,l[i]? =some x:=⟨_,x3 (by omega)⟩;rw[bm ab.u J.i (by kernel_rfl) (h.ext I) W];show O y0 j1 [.int .i64 x] U _;refine AO.mono ?_;rintro _ af _ ⟨rfl,X⟩;simp only[ag,aK];refine⟨fun Y=>⟨I.trans X,i,rfl,?_⟩,fun Z=>?_⟩
  ·exact propext ⟨fun _ aa=>Y (aa x (u4 W)),fun _=>by omega⟩
  ·rw[wrap_i64 (by omega) (by omega)];refine⟨⟨I.trans X,i+1,rfl,by omega,fun y E=>?_⟩,?_⟩
   ·rw[o3,W] at E;rcases n0.1 E with E|E
    ·exact V y E
    ·simp at E;subst E;exact X2.1 Z
   ·simp only[bM];omega
 ·have:i=l.length:=by omega
  rw[this,l5] at V;exact propext ⟨fun h=>by omega,fun h=>absurd V h⟩
theorem AQ {sv:x4} {l:List Int} {w:x5} (h:aH .i64 w sv l):
  O y0 h0 [sv,.func (.func j1) #[] #[]] w fun v w'=>v= .bool (decide (¬∀ x∈l,gg x))∧Ext w w':=by
 apply h0.enter;refine (AP h).mono ?_;rintro _ J _ ⟨E,n,rfl,I⟩;simp only[cV];exact⟨by congr 1;simp only[I],E⟩
def AR (w:x5) (l:List Int) (v:x4) (w':x5):Prop:=
 Ext w w'∧
   (¬bR l→v= .tuple #[.agg #[.slice none 0 0],.int .i64 1])∧
   (bR l→4096<aG l→v= .tuple #[.agg #[.slice none 0 0],.int .i64 5])∧
   (bR l→aG l≤4096→ ∃ g E,v= .tuple #[.agg #[E],.int .i64 0]∧w.heap.size≤g∧aq .i64 J w' g E l)
theorem AS {sv:x4} {l:List Int} {w:x5} (h:aH .i64 w sv l):O y0 oi [sv] w (AR w l):=by
 apply oi.enter;refine bO aJ.i fun aG aI aW E Z=>?_;have aX:=Z.lt;refine aZ (fun v V=>Ext w V∧Ext aI V∧ ∃ c:Bool,v= .bool c∧((c=true)=¬bR l)) ?_ ?_
 ·rintro _ V ⟨aa,ac,c,rfl,ap⟩;simp only[cE];refine⟨fun aK=>?_,fun aL=>?_⟩
  ·have au:¬bR l:=by rw[←ap];exact aK
   rw[cW (cs:=#[.slice none 0 0]) (by kernel_rfl)];refine b4 (vs:=[.slice none 0 0]) aJ.i rfl rfl (by simp;rfl) (Z.ext ac) ?_;intro aY aM a1 aN;rw[eN aJ.p aJ.i rfl aN.range];exact⟨aa.then aM (by rintro r ae rfl;omega),fun _=>rfl,fun h=>absurd h au,fun h=>absurd h au⟩
  ·have W:bR l:=by
    have av:¬(c=true):=by simp[aL]
    rw[ap] at av;exact Classical.not_not.1 av
   have a2:=W.1;refine (jv (h.ext aa) (by omega)).mono ?_;rintro I aw _ ⟨af,ax,a6,hm⟩;have ay:=hm.ls.cells;rw[cW (cs:=#[I]) (by obtain⟨_,_,_,_,_,rfl,_⟩:=hm.ls;kernel_rfl)];refine bO aJ.i fun gs a7 a8 ah aP=>?_;refine b4 (vs:=[I]) aJ.i rfl rfl (by intro u hu;simp at hu;subst hu;exact ay.2) aP ?_;intro ai az ba aA;rw[bI aJ.p aJ.i rfl aA.range];have bb:=af.size;have bc:=ah.size;have bd:=ac.size;have be:aj (fun r=>r=gs) aw ai:=(ah.ad _).trans az;have al:Ext aw ai:=ah.then az (by rintro r ae rfl;omega);have aQ:=(aa.trans af).trans al;have aB:aq .i64 J ai ax I l:=hm.ext al;refine (mU aB.ls W).mono ?_;rintro _ aR _ ⟨rfl,X⟩;have aC:=aQ.trans X;have aD:ak aR aG aJ [.slice none 0 0]:=Z.ext (((ac.trans af).trans al).trans X);simp only[bV,ag];refine⟨fun aS=>?_,fun aT=>?_⟩
   ·rw[cW (cs:=#[.slice none 0 0]) (by kernel_rfl)];refine b4 (vs:=[.slice none 0 0]) aJ.i rfl rfl (by simp;rfl) aD ?_;intro aU Y aV am;rw[eN aJ.p aJ.i rfl am.range];exact⟨aC.then Y (by rintro r ae rfl;omega),fun h=>absurd W h,fun _ _=>rfl,fun _ h=>by omega⟩
   ·rw[bI aJ.p aJ.i rfl (aA.ext X).range];refine b4 (vs:=[I]) aJ.i rfl rfl (by intro u hu;simp at hu;subst hu;exact ay.2) aD ?_;intro aU Y aV am;rw[eN aJ.p aJ.i rfl am.range];have bf:=E.size;exact⟨aC.then Y (by rintro r ae rfl;omega),fun h=>absurd W h,fun _ h=>by omega,fun _ _=>⟨ax,I,rfl,by omega,(aB.ext X).ad Y (by omega)⟩⟩
 ·intro bg aE;rw[aO ab.u (h.ext E)];simp only[bV,ag];refine⟨fun aS=>aE _ _ ⟨E,Ext.refl _,true,rfl,?_⟩,fun aT=>?_⟩
  ·exact propext ⟨fun _ U=>by have:=U.1;omega,fun _=>rfl⟩
  ·refine (AQ (h.ext E)).mono ?_;rintro _ V _ ⟨rfl,aF⟩;refine aE _ _ ⟨E.trans aF,aF,_,rfl,?_⟩;rw[decide_eq_true_eq];exact propext ⟨fun ao U=>ao U.2,fun ao U=>ao ⟨by omega,U⟩⟩
end Go.Proofs.YtgbkinibgjmodaaGreatDoor
namespace Go.Proofs.YtgbkinibgjmodaaGreatDoor
open Go Go.Vc Go.RowKit Go.Proofs Go.Proofs.Tryz
set_option maxRecDepth 100000
theorem sT {P:X1} {w:x5} {t:o6} {cx cy:Bool} {a:Int} {K:x4→Prop} (E:0≤a) (h1:a<4294967296):
  I P (U .and t cx cy (.int .u64 a) (.int .u64 4294967295)) w K=K (.int .u64 a):=I.of fun w' _=>by
 obtain⟨n,rfl⟩:=Int.eq_ofNat_of_zero_le E;have W:n<4294967296:=by omega
 have e:(W6 64 (n:Int) &&& W6 64 4294967295).toNat=n:=by
  rw[BitVec.toNat_and,BitVec.toNat_ofInt,BitVec.toNat_ofInt];have J:((n:Int) % ((2 ^ 64:Nat):Int)).toNat=n:=by omega
  have O:((4294967295:Int) % ((2 ^ 64:Nat):Int)).toNat=2 ^ 32-1:=by decide
  rw[J,O,Nat.and_two_pow_sub_one_eq_mod];omega
 have V:(W6 V0.bits (n:Int) &&& W6 V0.bits 4294967295).toNat=n:=e;simp only[U,eqGuard,binOp,Op.intBits,V];rw[wrap_u64 (by omega) (by omega)];rfl
theorem pr {P:X1} {w:x5} {t:o6} {cx cy:Bool} {a:Int} {K:x4→Prop} (E:0≤a) (h1:a<4294967296):
  I P (U .shr t cx cy (.int .u64 a) (.int .u64 32)) w K=K (.int .u64 0):=I.of fun w' _=>by
 have e:a.fdiv (2 ^ min 32 V0.bits)=0:=by
  have:(2:Int) ^ min 32 V0.bits=4294967296:=rfl;rw[this,Int.fdiv_eq_ediv_of_nonneg _ (by omega)];omega
 simp[U,eqGuard,binOp,Op.shift,e]
theorem AT {x y:Int} {w:x5} (I:0≤x∧x<65536) (E:0≤y∧y<65536):
  O y0 oE [.int .u64 x,.int .u64 y] w fun v w'=>v= .tuple #[.int .u64 0,.int .u64 (x*y)]∧Ext w w':=by
 have U:0≤x*y∧x*y<4294967296:=⟨Int.mul_nonneg I.1 E.1,by
  have:x*y≤65535*65535:=Int.mul_le_mul (by omega) (by omega) E.1 (by omega);omega⟩
 apply oE.enter;refine O.mono (K:=fun v w'=>v= .tuple #[.int .u64 0,.int .u64 (x*y)]∧Ext w w') ?_ ?_
 ·apply qE.enter;rw[sT (by omega) (by omega),pr (by omega) (by omega),sT (by omega) (by omega),pr (by omega) (by omega)];simp only[fA,Int.zero_mul,Int.mul_zero];rw[wrap_u64 (x:=x*y) (by omega) (by omega),show V0.wrap 0=0 from rfl,pr (a:=x*y) (by omega) (by omega)];simp only[aK,Int.add_zero];rw[show V0.wrap 0=0 from rfl,sT (by omega) (by omega),pr (by omega) (by omega)];simp only[fA,aK,Int.zero_mul,Int.mul_zero,Int.add_zero,show V0.wrap 0=0 from rfl];rw[pr (by omega) (by omega)];simp only[fA,aK,Int.add_zero,show V0.wrap 0=0 from rfl];exact⟨trivial,Ext.refl _⟩
 ·rintro _ V _ ⟨rfl,J⟩;rw[aC (v:=.int .u64 0) rfl,aC (v:=.int .u64 (x*y)) rfl];exact⟨rfl,J⟩
theorem vz {Z:x4} {w:x5} {c:Int} {n:Nat} (h:aH .i64 w Z [c]) (aJ:n<65536):
  O y0 mm [Z,.int .i64 n] w fun v w'=>Ext w w'∧ ∃ g,w.heap.size≤g∧aq .i64 ae w' g v (p9 n c):=by
 apply mm.enter;refine dF (fun aj=>w=aj) ?_ ?_
 ·rintro _ rfl;rw[aO af.u h,fc J.u hv.u,fc J.u hv.u,wrap_u64 (by simp) (by simp),wrap_u64 (by omega) (by omega)];refine (AT (x:=([c].length:Int)) (by simp) (by omega)).mono ?_;rintro _ aa _ ⟨rfl,ab⟩;rw[aC (v:=.int .u64 0) rfl,aC (v:=.int .u64 (([c].length:Int)*n)) rfl];have al:(([c].length:Int)*n)=(n:Int):=by simp
  rw[al];refine dF (fun E=>aa=E) ?_ ?_
  ·rintro _ rfl;rw[fc hv.u J.u,wrap_i64 (by omega) (by omega)];refine hz af.u ae.i (by omega) (by omega) ?_;intro g aL aM am ao;have ac:=ab.trans am;have aN:=ab.size;refine vm af.u ae.i ao (o:=0) (fun _=>rfl) (by simp) (h.ext ac) (po _ _) ?_;intro aP ap aR ad;have av:=ac.then ap (by rintro r aw rfl;omega);have st:over (ints .i64 (p9 n 0)) 0 ((ints .i64 [c]).take n)=ints .i64 (p9 (min 1 n) c++p9 (n-min 1 n) 0):=by
    rcases Nat.eq_zero_or_pos n with rfl|I
    ·simp[over]
    ·rw[j0 (by simp;omega),kd (by simp;omega)];have:min 1 n=1:=by omega
     simp[this,ints]
   rw[st] at ad;refine⟨fun t U=>Ext w U∧ ∃ i:Nat,t= .int .i64 i∧i≤n∧(0<n→0<i)∧ak U g ae (ints .i64 (p9 i c++p9 (n-i) 0)),fun t _=>n-(bM t).toNat,
    ⟨av,min 1 n,by simp,by omega,by omega,ad⟩,?_⟩
   rintro _ U ⟨V,i,rfl,hi,aS,W⟩;simp only[gf af.u,au,ag,aQ];refine⟨fun ax ay X _ _=>?_,fun aU=>?_⟩
   ·have ax:i<n:=by omega
    have ah:=W.ext X;rw[gz af.u ae.i (l:=i) (h:=n) (m:=n) qO h4 eY (by omega) (by omega) (by omega),
     gz af.u ae.i (l:=0) (h:=i) (m:=n) h3 qP eY (by omega) (by omega) (by omega)]
    have az:b7 ay 1 (.slice (some ⟨g,0,none⟩) n n) n (ints .i64 (p9 i c++p9 (n-i) 0)):=(bL.full ah (by simp <;> omega) (by simp[maxLen] <;> omega)).sl;have I:=az.part (l:=0) (h:=i) (m:=n) (by omega) (by omega) (by omega) (by omega);have aA:((ints .i64 (p9 i c++p9 (n-i) 0)).drop (0*1)).take ((i-0)*1)=ints .i64 (p9 i c):=by
     simp[ints]
    rw[aA] at I;refine vm af.u ae.i ah (o:=i) (fun _=>?_) (by simp <;> omega) I (po _ _) ?_
    ·rw[if_neg (by omega)];simp[V9]
    ·intro aV aB aW ai;have aX:=V.size;have aY:=X.size;have aD:over (ints .i64 (p9 i c++p9 (n-i) 0)) i ((ints .i64 (p9 i c)).take (n-i))=ints .i64 (p9 (i+min i (n-i)) c++p9 (n-(i+min i (n-i))) 0):=by
      apply X6;intro j;rw[pn _ _ _ (by simp[ints] <;> omega)];simp only[ints,j4,List.map_replicate,List.getElem?_append,List.getElem?_take,List.getElem?_replicate,l6,List.length_replicate]
      repeat' split
      all_goals first|rfl|omega
     rw[aD] at ai;have aE:min (i-0) (n-i)=min i (n-i):=by omega
     simp only[aK,aE];have aF:Y9.wrap ((i:Int)+((min i (n-i):Nat):Int))=((i+min i (n-i):Nat):Int):=by rw[wrap_i64 (by omega) (by omega)];omega
     rw[aF];refine⟨⟨(V.trans X).then aB (by rintro r aw rfl;omega),_,rfl,by omega,by omega,ai⟩,?_⟩;simp only[bM,c9];omega
   ·have:i=n:=by omega
    subst this;rw[W3,List.replicate_zero,U3] at W;exact⟨V,g,by omega,aq.of (n:=i) (bL.full W (by simp) (by simp[maxLen];omega))⟩
  ·intro aG Y;refine aZ (fun v E=>v= .bool false∧aa=E) ?_ ?_
   ·rintro _ _ ⟨rfl,rfl⟩;rw[aT];exact Y _ rfl
   ·intro a1 aI;simp only[bV,ag];refine⟨fun h=>by omega,fun _=>aI _ _ ⟨?_,rfl⟩⟩;rw[decide_eq_false];omega
 ·intro aG Y;simp only[au,ag];exact⟨fun h=>by omega,fun _=>Y _ rfl⟩
end Go.Proofs.YtgbkinibgjmodaaGreatDoor
namespace Go.Proofs.YtgbkinibgjmodaaGreatDoor
open Go Go.Vc Go.RowKit Go.Proofs Go.Proofs.Tryz
set_option maxRecDepth 100000
def leads (v:x4) (r:Nat):Prop:=∃ a n c,v= .slice (some a) n c∧a.block=r
theorem bX {k:o8} {e:o6} {w:x5} {g:Nat} {v:x4} {l:List Int} (h:aq k e w g v l) {r:Nat} (E:leads v r):r=g∧g<w.heap.size:=by
 obtain⟨a,n,c,rfl,rfl⟩:=E;obtain⟨_,⟨h,_⟩|⟨cap,cs,h,I,_⟩⟩:=h
 ·cases h
 ·cases h;exact⟨rfl,I.lt⟩
theorem bp {k:o8} {e:o6} {S:Nat→Prop} {w w':x5} {g:Nat} {v:x4} {l:List Int} (h:aq k e w g v l) (E:aj S w w') (I:∀ r,leads v r→¬S r):aq k e w' g v l:=by
 refine⟨h.1,h.2.imp id fun⟨cap,cs,h1,J,O⟩=>⟨cap,cs,h1,J.ad E (I g ⟨_,_,_,h1,rfl⟩),O⟩⟩
def cG (w:x5) (g E:Nat) (sv:x4) (an:List Int) (k:Int) (cs:List Int):Prop:=
 (∃ aM gs,ak w g bq [sv,.int .i64 k,aM]∧aq .i64 J w gs sv an∧aq .i64 ae w E aM cs)∧(g≠E∧¬leads sv E∧aG an≤4096)∧bR an∧cs.length=(aG an).toNat
theorem cG.ext {w w':x5} {g I:Nat} {sv:x4} {an:List Int} {k:Int} {cs:List Int} (h:cG w g I sv an k cs) (E:Ext w w'):cG w' g I sv an k cs:=by
 obtain⟨⟨aM,gs,h1,J,O⟩,U⟩:=h;exact⟨⟨aM,gs,h1.ext E,J.ext E,O.ext E⟩,U⟩
def vA (w:x5) (l:List Int) (k E:Int) (v:x4) (w':x5):Prop:=
 Ext w w'∧
  (¬bR l→v= .tuple #[.pointer none,.int .i64 1])∧
  (bR l→4096<aG l→v= .tuple #[.pointer none,.int .i64 5])∧
  (bR l→aG l≤4096→¬cF E k→v= .tuple #[.pointer none,.int .i64 3])∧
  (bR l→aG l≤4096→cF E k→ ∃ g I sv,v= .tuple #[.pointer (some ⟨g,0,none⟩),.int .i64 0]∧w.heap.size≤g∧w.heap.size≤I∧(∀ r,leads sv r→w.heap.size≤r)∧
   cG w' g I sv l k (p9 (aG l).toNat E))
theorem sU {sv:x4} {l:List Int} {k ah:Int} {w:x5} (h:aH .i64 w sv l):O y0 kS [sv,.int .i64 k,.int .i64 ah] w (vA w l k ah):=by
 apply kS.enter;refine (AS h).mono ?_;rintro v ak _ ⟨au,aK,aL,aM⟩;obtain⟨U,e,rfl,aN,he⟩:∃ (U:x4) (e:Int),v= .tuple #[.agg #[U],.int .i64 e]∧U.oneCell'=true∧
   ((e=1∧¬bR l)∨(e=5∧bR l∧4096<aG l)∨(e=0∧bR l∧aG l≤4096∧ ∃ g,w.heap.size≤g∧aq .i64 J ak g U l)):=by
  by_cases E:bR l
  ·by_cases ad:aG l≤4096
   ·obtain⟨g,U,rfl,h1,av⟩:=aM E ad;exact⟨U,0,rfl,av.ls.cells.2,.inr (.inr ⟨rfl,E,ad,g,h1,av⟩)⟩
   ·exact⟨_,_,aL E (by omega),rfl,.inr (.inl ⟨rfl,E,by omega⟩)⟩
  ·exact⟨_,_,aK E,rfl,.inl ⟨rfl,E⟩⟩
 rw[aC (v:=.agg #[U]) rfl,aC (v:=.int .i64 e) rfl];refine bO aJ.i fun bi bj bk aO aP=>?_;refine b4 (vs:=[U]) aJ.i rfl rfl (by intro u hu;simp at hu;subst hu;exact aN) aP ?_;intro aR aS bl aT;have aw:Ext ak aR:=aO.then aS (by rintro r X rfl;omega);have ax:=au.trans aw;simp only[bN,ag];refine⟨fun aU=>⟨ax,?_⟩,fun bm=>?_⟩
 ·rcases he with⟨rfl,ai⟩|⟨rfl,E,ad⟩|⟨rfl,_⟩
  ·exact⟨fun _=>rfl,fun h=>absurd h ai,fun h=>absurd h ai,fun h=>absurd h ai⟩
  ·exact⟨fun h=>absurd E h,fun _ _=>rfl,fun _ h=>by omega,fun _ h=>by omega⟩
  ·exact absurd rfl aU
 ·obtain⟨rfl,E,ad,gs,bn,hm⟩:e=0∧bR l∧aG l≤4096∧ ∃ g,w.heap.size≤g∧aq .i64 J ak g U l:=by
   rcases he with⟨rfl,ai⟩|⟨rfl,E,ad⟩|h
   ·omega
   ·omega
   ·exact h
  have bo:=prod_bound E;refine ln.mono ?_;rintro _ bp _ ⟨rfl,al⟩;have ay:=ax.trans al;simp only[b3,cE];refine⟨fun aV=>⟨ay,fun h=>absurd E h,fun _ h=>by omega,fun _ _ _=>rfl,fun _ _ h=>by simp[h] at aV⟩,fun aW=>?_⟩;have aX:cF ah k:=by simpa using aW
  simp only[aB,aQ];intro az am _ _;have aY:=ay.trans am;have aj:=(aw.trans al).trans am;have aA:=(aT.ext al).ext am;rw[bI aJ.p aJ.i rfl aA.range,bI aJ.p aJ.i rfl aA.range];have br:=au.size;have bt:=aj.size;have aD:((aG l).toNat:Int)=aG l:=by omega
  have aE:∀ {ab:x5} {Z:x4} {ac:Nat},Ext az ab→az.heap.size≤ac→aq .i64 ae ab ac Z (p9 (aG l).toNat ah)→
    I y0 (Z0 bq #[(0,.agg #[U]),(1,.int .i64 k),(2,Z)]) ab fun aZ=>aa y0 (Z2 bq aZ) ab fun a1 aF=>vA w l k ah (.tuple #[a1,.int .i64 0]) aF:=by
   intro ab Z ac Y aI X;rw[cW (cs:=#[U,.int .i64 k,Z]) (by
    obtain⟨_,_,_,_,_,rfl,_⟩:=X.ls;obtain⟨_,_,_,_,_,rfl,_⟩:=hm.ls;kernel_rfl)]
   refine ce fun g aF bu ao a2=>?_;have bw:=Y.size;have a6:leads Z ac:=by
    obtain⟨bx,⟨_,a7⟩|⟨cap,cs,rfl,_⟩⟩:=X
    ·simp at a7;omega
    ·exact⟨_,_,_,rfl,rfl⟩
   have bz:=(bX X a6).2;refine⟨(aY.trans Y).trans ao,fun h=>absurd E h,fun _ h=>by omega,fun _ _ h=>absurd aX h,fun _ _ _=>⟨g,ac,U,rfl,by omega,by omega,fun r a8=>?_,⟨Z,gs,a2,((hm.ext aj).ext Y).ext ao,X.ext ao⟩,⟨by omega,fun ba=>?_,ad⟩,E,by simp⟩⟩
   ·have:=(bX hm a8).1;omega
   ·have:=bX hm ba;omega
  constructor
  ·refine dW af.u ae.i rfl fun bb bc bd be V ap=>⟨.inl V,?_⟩;refine (mU ((hm.ext aj).ext V).ls E).mono ?_;rintro _ bf _ ⟨rfl,W⟩;refine⟨.inl (V.trans W),?_⟩;rw[←aD];refine (vz (ap.ext W).ls (by omega)).mono ?_;rintro Z ab _ ⟨Y,ac,aI,X⟩;have bg:=V.size;have bh:=W.size;exact⟨.inl ((V.trans W).trans Y),aE ((V.trans W).trans Y) (by omega) X⟩
  ·refine (mU (hm.ext aj).ls E).mono ?_;rintro _ bd _ ⟨rfl,V⟩;refine⟨.inl V,?_⟩;refine dW af.u ae.i rfl fun bb bc bf be W ap=>⟨.inl (V.trans W),?_⟩;rw[←aD];refine (vz ap.ls (by omega)).mono ?_;rintro Z ab _ ⟨Y,ac,aI,X⟩;have bg:=V.size;have bh:=W.size;exact⟨.inl ((V.trans W).trans Y),aE ((V.trans W).trans Y) (by omega) X⟩
end Go.Proofs.YtgbkinibgjmodaaGreatDoor
namespace Go.Proofs.YtgbkinibgjmodaaGreatDoor
open Go Go.Vc Go.RowKit Go.Proofs Go.Proofs.Tryz
set_option maxRecDepth 100000
theorem lp {w:x5} {g:Nat} {e:o6} {cs E:List x4} {o:Nat} (h:ak w g e cs) (I:∀ j v,E[j]? =some v→cs[o+j]? =some v):w.rangeAt g o E:=fun j v J=>h.cell (I j v J)
theorem vB {w:x5} {g U:Nat} {sv I:x4} {an t:List Int} {k:Int} {cs:List Int} (h:cG w g U sv an k cs) (V:aH .i64 w I t):
  O y0 mn [.pointer (some ⟨g,0,none⟩),I] w fun v w'=>v=iO an t∧Ext w w':=by
 obtain⟨⟨aM,gs,W,hm,Y⟩,_,X,_⟩:=h;apply mn.enter;rw[cZ bA.u];simp only[b8,aT];rw[az,ah bq.p rfl,bI (cs:=[sv]) aJ.p aJ.i rfl (lp W (by
  intro j v E
  match j,E with
  |0,E=>exact E))]
 refine (vy hm.ls V X).mono ?_;rintro _ Z _ ⟨rfl,J⟩;unfold iO;cases cg an t 0 with
 |none=>rw[aC (v:=.int .i64 0) rfl,aC (v:=.int .i64 3) rfl];exact⟨rfl,J⟩
 |some n=>rw[aC (v:=.int .i64 n) rfl,aC (v:=.int .i64 0) rfl];exact⟨rfl,J⟩
def mV (an t cs:List Int):x4:=match cg an t 0 with
 |some n=>.tuple #[.int .i64 (cs.getD n.toNat 0),.int .i64 0]
 |none=>.tuple #[.int .i64 0,.int .i64 3]
theorem vC {an t cs:List Int} {n:Int} (E:bR an) (I:cs.length=(aG an).toNat) (h:cg an t 0=some n):n=(n.toNat:Int)∧n.toNat<cs.length:=by
 have:=iM E.2 h;simp only[Int.zero_mul,Int.zero_add,Int.one_mul] at this;omega
theorem sV {w:x5} {g U:Nat} {sv I:x4} {an t:List Int} {k:Int} {cs:List Int} (h:cG w g U sv an k cs) (V:aH .i64 w I t):
  O y0 k4 [.pointer (some ⟨g,0,none⟩),I] w fun v w'=>v=mV an t cs∧Ext w w':=by
 apply k4.enter;refine (vB h V).mono ?_;rintro _ ab _ ⟨rfl,E⟩;obtain⟨⟨aM,gs,W,hm,X⟩,_,Y,Z⟩:=h.ext E;unfold iO mV;cases hi:cg an t 0 with
 |none=>
  rw[aC (v:=.int .i64 0) rfl,aC (v:=.int .i64 3) rfl];simp only[bN,ag];exact⟨fun _=>⟨trivial,E⟩,fun h=>by simp at h⟩
 |some n=>
  obtain⟨aa,J⟩:=vC Y Z hi;rw[aC (v:=.int .i64 n) rfl,aC (v:=.int .i64 0) rfl];simp only[bN,ag];refine⟨fun h=>absurd rfl h,fun _=>?_⟩;rw[az,ah bq.p rfl,ai (by kernel_rfl) (W.cell (o:=0+2) rfl),
   eE aa af.u ae.i (by kernel_rfl) X.ls (x3 J)]
  refine⟨?_,E⟩;rw[p8,x3 J];rfl
def qX (an t:List Int) (k c:Int) (cs:List Int):List Int:=match cg an t 0 with
 |some n=>if cF c k then cs.set n.toNat c else cs
 |none=>cs
def vD (an t:List Int) (k c:Int):Int:=match cg an t 0 with
 |some _=>if cF c k then 0 else 3
 |none=>3
theorem AU {w:x5} {g J:Nat} {sv Z:x4} {an t:List Int} {k c:Int} {cs:List Int} (h:cG w g J sv an k cs) (al:aH .i64 w Z t):
  O y0 n1 [.pointer (some ⟨g,0,none⟩),Z,.int .i64 c] w fun v w'=>v= .int .i64 (vD an t k c)∧aj (fun r=>r=J) w w'∧cG w' g J sv an k (qX an t k c cs):=by
 apply n1.enter;refine (vB h al).mono ?_;rintro _ ay _ ⟨rfl,E⟩;have h1:=h.ext E;obtain⟨⟨aM,gs,I,hm,U⟩,_,V,W⟩:=h1;unfold iO vD qX;cases hi:cg an t 0 with
 |none=>
  rw[aC (v:=.int .i64 0) rfl,aC (v:=.int .i64 3) rfl];simp only[bN,ag];exact⟨fun _=>⟨trivial,E.ad _,h.ext E⟩,fun h=>by simp at h⟩
 |some n=>
  obtain⟨aA,aB⟩:=vC V W hi;rw[aC (v:=.int .i64 n) rfl,aC (v:=.int .i64 0) rfl];simp only[bN,ag];refine⟨fun h=>absurd rfl h,fun _=>?_⟩;rw[az,ah bq.p rfl,ai (by kernel_rfl) (I.cell (o:=0+1) rfl)];refine ln.mono ?_;rintro _ aD _ ⟨rfl,X⟩;have aa:=(h.ext E).ext X;by_cases ab:cF c k
  ·simp only[ab,decide_true,b3,Y1,aT,if_true];obtain⟨⟨aM,gs,I,hm,U⟩,⟨am,ac⟩,V,W⟩:=aa;have aE:=U;obtain⟨aF,⟨rfl,aG⟩|⟨cap,full,rfl,ao,ap,aq,au,ak⟩⟩:=U
   ·omega
   ·rw[az,ah bq.p rfl,ai (by kernel_rfl) (I.cell (o:=0+2) rfl),
     vh (i:=n) af.u ae.i (by omega) (by omega) (fun _=>rfl)]
    refine bE ae.i rfl rfl ao (by omega) ?_;intro aI Y aJ av;refine⟨trivial,((E.trans X).ad _).trans Y,⟨_,gs,I.ad Y (by omega),bp hm Y (fun r aw ax=>ac.1 (ax▸aw)),?_⟩,⟨am,ac⟩,V,by simp[W]⟩;refine⟨by simp,.inr ⟨cap,full.set (0+n.toNat*1) (.int .i64 c),?_,av,by simpa using ap,aq,by simpa using au,?_⟩⟩
    ·simp
    ·simp only[W0,V5,U9] at ak ⊢;rw[List.take_set,ak,ints,ints,List.map_set]
  ·simp only[ab,decide_false,b3,X0,bP,if_false];exact⟨trivial,(E.trans X).ad _,aa⟩
def cc (b:Int):Bool:=decide (b=32∨b=9∨b=10∨b=13)
def bC (b:Int):Bool:=decide (33≤b∧b≤126)
def lq:Nat→List Int→List (List Int)×Bool
 |0,_=>([],true)
 |n+1,p=>
  match p.dropWhile cc with
  |[]=>([],true)
  |b::q=>
   if bC b then
    match (b::q).dropWhile bC with
    |[]=>([(b::q).takeWhile bC],true)
    |c::r=>if cc c then (((b::q).takeWhile bC)::(lq n (c::r)).1,(lq n (c::r)).2) else ([],false)
   else ([],false)
def lex (p:List Int):List (List Int)×Bool:=lq (p.length+1) p
theorem mW (f:Int→Bool):∀ (l:List Int),(l.dropWhile f).length≤l.length
 |[]=>o7 _
 |x::l=>by
  rw[List.dropWhile_cons];split
  ·exact Y3 (mW f l) (Nat.le_succ _)
  ·exact o7 _
theorem qY {f:Int→Bool} {x:Int} {l:List Int} (h:f x=true):((x::l).dropWhile f).length≤l.length:=by
 rw[List.dropWhile_cons,if_pos h];exact mW f l
theorem vE:∀ {n m:Nat} {p:List Int},p.length<n→p.length<m→lq n p=lq m p
 |n+1,m+1,p,U,hm=>by
  unfold lq;have h1:=mW cc p;cases J:p.dropWhile cc with
  |nil=>rfl
  |cons b q=>
   rw[J] at h1;simp only;by_cases E:bC b=true
   ·rw[if_pos E,if_pos E];have I:=qY (l:=q) E;cases O:(b::q).dropWhile bC with
    |nil=>rfl
    |cons c r=>
     rw[O] at I;simp only[c8] at h1 I;simp only;rw[vE (n:=n) (m:=m) (p:=c::r) (by rw[c8];omega) (by rw[c8];omega)]
   ·rw[if_neg E,if_neg E]
theorem ia (p:List Int):lex p=match p.dropWhile cc with
  |[]=>([],true)
  |b::q=>
   if bC b then
    match (b::q).dropWhile bC with
    |[]=>([(b::q).takeWhile bC],true)
    |c::r=>if cc c then (((b::q).takeWhile bC)::(lex (c::r)).1,(lex (c::r)).2) else ([],false)
   else ([],false):=by
 unfold lex
 conv=>lhs;unfold lq
 have h1:=mW cc p;cases J:p.dropWhile cc with
 |nil=>rfl
 |cons b q=>
  rw[J] at h1;simp only;by_cases E:bC b=true
  ·rw[if_pos E,if_pos E];have I:=qY (l:=q) E;cases O:(b::q).dropWhile bC with
   |nil=>rfl
   |cons c r=>
    rw[O] at I;simp only[c8] at h1 I;simp only;rw[vE (n:=p.length) (m:=(c::r).length+1) (p:=c::r) (by rw[c8];omega) (by omega)]
  ·rw[if_neg E,if_neg E]
theorem ps:∀ (n:Nat) (p:List Int),p.length≤n→(lex p).1.length≤p.length
 |n,p,V=>by
  rw[ia];have h1:=mW cc p;cases O:p.dropWhile cc with
  |nil=>simp
  |cons b q=>
   rw[O] at h1;simp only;by_cases E:bC b=true
   ·rw[if_pos E];have I:=qY (l:=q) E;cases U:(b::q).dropWhile bC with
    |nil=>simp only[c8,List.length_nil] at h1 ⊢;omega
    |cons c r=>
     rw[U] at I;simp only[c8] at h1 I;simp only;by_cases J:cc c=true
     ·rw[if_pos J]
      match n with
      |0=>omega
      |n+1=>
       have:=ps n (c::r) (by rw[c8];omega);simp only[c8] at this ⊢;omega
     ·rw[if_neg J];simp
   ·rw[if_neg E];simp
theorem qZ:∀ (n:Nat) (p:List Int),p.length≤n→ ∀ w∈(lex p).1,w≠[]∧(∀ b∈w,bC b=true)∧w.length≤p.length
 |n,p,Y,w,hw=>by
  rw[ia] at hw;have h1:=mW cc p;cases I:p.dropWhile cc with
  |nil=>rw[I] at hw;simp at hw
  |cons b q=>
   rw[I] at h1 hw;simp only at hw;have W:(b::q).length≤p.length:=h1;by_cases E:bC b=true
   ·rw[if_pos E] at hw;have J:=qY (l:=q) E;have O:(b::q).takeWhile bC≠[]∧(∀ x∈(b::q).takeWhile bC,bC x=true)∧((b::q).takeWhile bC).length≤p.length:=
     ⟨by rw[List.takeWhile_cons,if_pos E];simp,fun x X=>List.all_takeWhile (l:=b::q) (p:=bC) |> List.all_eq_true.1 |> fun h=>h x X,Y3 (List.takeWhile_sublist _).length_le W⟩
    cases U:(b::q).dropWhile bC with
    |nil=>
     rw[U] at hw;simp only[o9] at hw;subst hw;exact O
    |cons c r=>
     rw[U] at J hw;simp only[c8] at h1 J;simp only at hw;by_cases V:cc c=true
     ·rw[if_pos V] at hw;rcases U6.1 hw with rfl|hw
      ·exact O
      ·match n with
       |0=>omega
       |n+1=>
        have:=qZ n (c::r) (by rw[c8];omega) w hw;exact⟨this.1,this.2.1,Y3 this.2.2 (by rw[c8];omega)⟩
     ·rw[if_neg V] at hw;simp at hw
   ·rw[if_neg E] at hw;simp at hw
def ap:Int:=4611686018427387904
def eZ (b:Int):Bool:=decide (48≤b∧b≤57)
def dX (n b:Int):Int:=min ap (10*n+(b-48))
def ib:List Int→Option Int
 |[]=>none
 |l=>if l.all eZ then some (l.foldl dX 0) else none
def e0:List Int→Option Int
 |45::l=>(ib l).map fun n=>-n
 |l=>ib l
theorem AV {n b:Int} (I:0≤n) (E:eZ b=true):0≤dX n b∧dX n b≤ap:=by
 have E:=of_decide_eq_true E;unfold dX ap;omega
theorem q0:∀ {l:List Int} {n:Int},l.all eZ=true→0≤n∧n≤ap→0≤l.foldl dX n∧l.foldl dX n≤ap
 |[],n,_,E=>E
 |b::l,n,h,E=>by
  rw[List.all_cons,U1] at h;exact q0 (l:=l) h.2 (AV E.1 h.1)
structure aA where
 toks:List (List Int)
 told:Int
 big:Bool
 shared:List (List Int×List (List Int×Int))
deriving DecidableEq
def de (s:aA):Option (List Int×aA):=match s.toks with
 |[]=>none
 |w::l=>some (w,{s with toks:=l})
def a7 (lo hi:Int) (s:aA):Option (Int×aA):=match de s with
 |none=>none
 |some (w,s)=>match e0 w with
  |none=>none
  |some n=>if lo≤n∧n≤hi then some (n,s) else none
def aY (b:Bool) (s:aA):aA:={s with big:=s.big||b}
def ck {α:Type} (f:List α→aA→Option (α×aA)):Nat→List α→aA→Option (List α×aA)
 |0,acc,s=>some (acc,s)
 |n+1,acc,s=>match f acc s with
  |none=>none
  |some (a,s)=>ck f n (acc++[a]) s
def dY (n:Int) (E:Nat) (s:aA):Option (List Int×aA):=ck (fun acc s=>match a7 0 (n-1) s with
 |none=>none
 |some (v,s)=>if v∈acc then none else some (v,s)) E [] s
def gA:List Int→List Int→aA→Option (List Int×aA)
 |[],acc,s=>some (acc,s)
 |k::l,acc,s=>match a7 0 (k-1) s with
  |none=>none
  |some (v,s)=>gA l (acc++[v]) s
def df (sizes:List Int) (acc:List (List Int×Int)) (s:aA):Option ((List Int×Int)×aA):=match gA sizes [] s with
 |none=>none
 |some (t,s)=>match a7 0 ap s with
  |none=>none
  |some (c,s)=>if t∈acc.map (·.1) then none else some ((t,c),s)
def dg (sizes:List Int) (s:aA):Option (List (List Int×Int)×aA):=match a7 (-ap) ap s with
 |none=>none
 |some (n,s)=>
  if n<0 then match s.shared[(-n-1).toNat]? with
   |none=>none
   |some (z,l)=>if z=sizes then some (l,s) else none
  else ck (df sizes) n.toNat [] (aY (decide (16384<min (s.told+n) ap)) {s with told:=min (s.told+n) ap})
def cS (sizes:List Int):Bool:=decide (4096<aG (sizes.map fun k=>min k 4097))
structure ca where
 scope:List Int
 sizes:List Int
 other:Int
 lines:List (List Int×Int)
deriving DecidableEq
def cC (all:List Int) (s:aA):Option (ca×aA):=match a7 (-ap) ap s with
 |none=>none
 |some (a,s)=>match dY all.length a.natAbs s with
  |none=>none
  |some (scope,s)=>
   let sizes:=scope.map fun v=>all.getD v.toNat 0
   match a7 0 ap (aY (decide (6<a.natAbs)||cS sizes) s) with
   |none=>none
   |some (other,s)=>match dg sizes s with
    |none=>none
    |some (lines,s)=>some (⟨scope,sizes,other,lines⟩,if a<0 then {s with shared:=s.shared++[(sizes,lines)]} else s)
def eO (most:Int) (_:List Int) (s:aA):Option (Int×aA):=match a7 1 most s with
 |none=>none
 |some (z,s)=>some (z,aY (decide (32<z)) s)
structure bS where
 name:List Int
 k:Int
 sizes:List Int
 funs:List ca
deriving DecidableEq
def fP (s:aA):Option (bS×aA):=match de s with
 |none=>none
 |some (name,s)=>match a7 1 ap (aY (decide (64<name.length)) s) with
  |none=>none
  |some (n,s)=>match a7 1 ap (aY (decide (64<n)) s) with
   |none=>none
   |some (most,s)=>match a7 0 ap s with
    |none=>none
    |some (E,s)=>match a7 1 ap (aY (decide (256<E)) s) with
     |none=>none
     |some (k,s)=>match ck (eO most) n.toNat [] (aY (decide (2147483648<k)) s) with
      |none=>none
      |some (sizes,s)=>match ck (fun _ s=>cC sizes s) E.toNat [] s with
       |none=>none
       |some (funs,s)=>some (⟨name,k,sizes,funs⟩,s)
def fd (p:List Int):Option bS:=if 65536<p.length then none else match fP ⟨(lex p).1,0,false,[]⟩ with
 |none=>none
 |some (f,s)=>if s.toks=[]∧(lex p).2=true∧s.big=false then some f else none
def ki (n:Int) (E:Bool) (v:Int):Prop:=0≤n∧n≤4611686018427387909∧(E=true→v=ap)∧(E=false→v=min ap n)
theorem AW {n b v:Int} {E:Bool} (h:ki n E v) (V:48≤b∧b≤57):
  ki (if E=true∨461168601842738790<n then n else 10*n+(b-48)) (E||decide (461168601842738790<n)) (dX v b):=by
 obtain⟨h1,J,O,U⟩:=h;unfold dX ki ap at*;cases E with
 |true=>
  have:=O rfl;rw[if_pos (.inl rfl)];exact⟨h1,J,fun _=>by omega,fun h=>by cases h⟩
 |false=>
  have:=U rfl;by_cases I:461168601842738790<n
  ·rw[if_pos (.inr I),decide_eq_true I];exact⟨h1,J,fun _=>by omega,fun h=>by cases h⟩
  ·rw[if_neg (by simp[I]),decide_eq_false I];exact⟨by omega,by omega,(fun h=>by cases h),fun _=>by omega⟩
theorem AX:ki 0 false 0:=by unfold ki ap;exact⟨by omega,by omega,(fun h=>by cases h),fun _=>by omega⟩
theorem AY {n v:Int} {E:Bool} (h:ki n E v):v=if E=true∨4611686018427387904<n then 4611686018427387904 else n:=by
 obtain⟨h1,U,J,O⟩:=h;unfold ap at*;cases E with
 |true=>rw[if_pos (.inl rfl)];exact J rfl
 |false=>
  have:=O rfl;by_cases I:4611686018427387904<n
  ·rw[if_pos (.inr I)];omega
  ·rw[if_neg (by simp[I])];omega
structure Cell where
 v:Int
 st:Nat
structure iP where
 i:Nat
 c:Cell
structure q1 where
 olds:Nat
 cells:Nat
 st:Nat
structure aP where
 cells:List Cell
 olds:List iP
 marks:List q1
 kj:Nat
def aP.b1 (t:aP):List Int:=t.cells.map (·.v)
def aP.set (t:aP) (i:Nat) (x:Int):aP:=match t.cells[i]? with
 |none=>t
 |some c=>match t.marks.getLast? with
  |none=>{t with cells:=t.cells.set i ⟨x,c.st⟩}
  |some m=>if c.st<m.st∧i<m.cells then {t with olds:=t.olds++[⟨i,c⟩],cells:=t.cells.set i ⟨x,m.st⟩} else {t with cells:=t.cells.set i ⟨x,c.st⟩}
def aP.grow (t:aP) (n:Nat):aP:={t with cells:=t.cells++p9 n ⟨0,0⟩}
def back (os:List iP) (cs:List Cell):List Cell:=os.foldr (fun o cs=>cs.set o.i o.c) cs
theorem pt:∀ (os:List iP) (cs:List Cell),(back os cs).length=cs.length
 |[],_=>rfl
 |o::os,cs=>by
  have:=pt os cs;show ((back os cs).set o.i o.c).length=_;rw[W0,this]
theorem back_append (a b:List iP) (cs:List Cell):back (a++b) cs=back a (back b cs):=by unfold back;rw[List.foldr_append]
theorem sW:∀ {os:List iP} {cs:List Cell} {n:Nat},(back os cs).take n=back (os.filter fun o=>decide (o.i<n)) (cs.take n)
 |[],cs,n=>rfl
 |o::os,cs,n=>by
  show ((back os cs).set o.i o.c).take n=_;by_cases h:o.i<n
  ·rw[List.filter_cons_of_pos (by simpa using h),List.take_set,sW];rfl
  ·rw[List.filter_cons_of_neg (by simpa using h),List.take_set_of_le (by omega),sW]
theorem vF {os:List iP} {cs:List Cell} {n:Nat} (h:∀ o∈os,o.i<n):(back os cs).take n=back os (cs.take n):=by
 rw[sW,List.filter_eq_self.2 fun o E=>by simpa using h o E]
theorem vG:∀ {os:List iP} {cs E:List Cell} {i:Nat},cs.length=E.length→(∃ o∈os,o.i=i)→(back os cs)[i]? =(back os E)[i]?
 |[],_,_,_,_,⟨_,h,_⟩=>by cases h
 |o::os,cs,E,i,J,hm=>by
  show ((back os cs).set o.i o.c)[i]? =((back os E).set o.i o.c)[i]?;rw[Y7,Y7];by_cases h:o.i=i
  ·rw[if_pos h,if_pos h,pt,pt,J]
  ·rw[if_neg h,if_neg h];obtain⟨x,I,he⟩:=hm;rcases U6.1 I with rfl|I
   ·exact absurd he h
   ·exact vG J ⟨x,I,he⟩
theorem vH:∀ {os:List iP} {cs E:List Cell} {i:Nat},cs[i]? =E[i]? →cs.length=E.length→(back os cs)[i]? =(back os E)[i]?
 |[],_,_,_,h,_=>h
 |o::os,cs,E,i,h,I=>by
  show ((back os cs).set o.i o.c)[i]? =((back os E).set o.i o.c)[i]?;rw[Y7,Y7,pt,pt,I,vH h I]
def hA:aP→List aP→Prop
 |t,[]=>t.marks=[]∧t.olds=[]∧ ∀ c∈t.cells,c.st≤t.kj
 |t,s::h=>hA s h∧(∀ c∈t.cells,c.st≤t.kj)∧ ∃ m new,t.marks=s.marks++[m]∧m.olds=s.olds.length∧m.cells=s.cells.length∧t.olds=s.olds++new∧m.cells≤t.cells.length∧(back new t.cells).take m.cells=s.cells∧
   (∀ c∈s.cells,c.st<m.st)∧(∀ c∈t.cells,c.st≤m.st)∧(∀ (i:Nat) c,i<m.cells→t.cells[i]? =some c→c.st=m.st→ ∃ o∈new,o.i=i)∧(∀ o∈new,o.i<m.cells)∧m.st≤t.kj∧s.kj≤t.kj
theorem hA.grow {h:List aP} {t:aP} {n:Nat} (I:hA t h):hA (t.grow n) h:=by
 cases h with
 |nil=>
  refine⟨I.1,I.2.1,fun c E=>?_⟩;rcases n0.1 E with E|E
  ·exact I.2.2 c E
  ·rw[(List.mem_replicate.1 E).2];exact Z9 _
 |cons s h=>
  obtain⟨h1,U,m,new,V,W,a3,a4,a5,X,Y,Z,a9,J,aa,ab⟩:=I;have O:∀ {b:Nat},(∀ c∈t.cells,c.st≤b)→ ∀ c∈(t.grow n).cells,c.st≤b:=fun ac c E=>by
   rcases n0.1 E with E|E
   ·exact ac c E
   ·rw[(List.mem_replicate.1 E).2];exact Z9 _
  refine⟨h1,O U,m,new,V,W,a3,a4,by show m.cells≤(t.cells++_).length;rw[o5];omega,?_,Y,O Z,fun i c hi E he=>?_,J,aa,ab⟩
  ·show (back new (t.cells++_)).take m.cells=_;rw[vF J,List.take_append_of_le_length a5,←vF J];exact X
  ·have E:(t.cells++p9 n ⟨0,0⟩)[i]? =some c:=E;rw[Z1 (by omega)] at E;exact a9 i c hi E he
theorem AZ {s:aP} {m:q1} {l:List q1} (h:l=s.marks++[m]):l.getLast? =some m:=by rw[h,List.getLast?_concat]
theorem hA.set {h:List aP} {t:aP} {i:Nat} {x:Int} (aa:hA t h):hA (t.set i x) h:=by
 unfold aP.set;cases U:t.cells[i]? with
 |none=>exact aa
 |some c=>
  have ae:=(x6.1 U).1;have X:=u4 U;have V:∀ {b st:Nat},(∀ c∈t.cells,c.st≤b)→st≤b→ ∀ d∈t.cells.set i ⟨x,st⟩,d.st≤b:=fun al ab d E=>by
   rcases V1 E with E|rfl
   ·exact al d E
   ·exact ab
  cases h with
  |nil=>
   obtain⟨h1,W,af⟩:=aa;simp only[h1,List.getLast?_nil];exact⟨rfl,W,V af (af c X)⟩
  |cons s h=>
   obtain⟨h1,W,m,new,ac,ag,a3,a4,a5,ah,ai,Y,a9,aj,ad,ak⟩:=aa;simp only[AZ ac];by_cases Z:c.st<m.st∧i<m.cells
   ·rw[if_pos Z];refine⟨h1,V W ad,m,new++[⟨i,c⟩],ac,ag,a3,by show t.olds++_=_;rw[a4,W9],by show m.cells≤(t.cells.set i _).length;rw[W0];exact a5,?_,ai,V Y (o7 _),fun j d I E he=>?_,fun o O=>?_,ad,ak⟩
    ·show (back (new++[⟨i,c⟩]) (t.cells.set i _)).take m.cells=_;rw[back_append];have:back [⟨i,c⟩] (t.cells.set i ⟨x,m.st⟩)=t.cells:=by
      show (t.cells.set i _).set i c=_;rw[List.set_set];refine X6 fun j=>?_;rw[Y7];by_cases I:i=j
      ·subst I;rw[if_pos rfl,if_pos ae,U]
      ·rw[if_neg I]
     rw[this];exact ah
    ·have E:(t.cells.set i ⟨x,m.st⟩)[j]? =some d:=E;by_cases J:i=j
     ·exact⟨⟨i,c⟩,by simp,J⟩
     ·rw[Y7,if_neg J] at E;obtain⟨o,O,he⟩:=a9 j d I E he;exact⟨o,List.mem_append_left _ O,he⟩
    ·rcases n0.1 O with O|O
     ·exact aj o O
     ·rw[o9.1 O];exact Z.2
   ·rw[if_neg Z];refine⟨h1,V W (W c X),m,new,ac,ag,a3,a4,by show m.cells≤(t.cells.set i _).length;rw[W0];exact a5,?_,ai,V Y (Y c X),fun j d I E he=>?_,aj,ad,ak⟩
    ·rw[←ah];show (back new (t.cells.set i _)).take m.cells=_;refine X6 fun j=>?_;by_cases I:j<m.cells
     ·rw[Z6 I,Z6 I];by_cases J:i=j
      ·subst J;have ab:c.st=m.st:=by
        have:=Y c X;have:¬c.st<m.st:=fun am=>Z ⟨am,I⟩;omega
       exact vG (by rw[W0]) (a9 i c I U ab)
      ·exact vH (by rw[Y7,if_neg J]) (by rw[W0])
     ·rw[Z8 (by rw[l6];omega),Z8 (by rw[l6];omega)]
    ·have E:(t.cells.set i ⟨x,c.st⟩)[j]? =some d:=E;by_cases J:i=j
     ·subst J;rw[Y7,if_pos rfl,if_pos ae] at E;cases E;exact a9 i c I U he
     ·rw[Y7,if_neg J] at E;exact a9 j d I E he
theorem aP.pu {t:aP} {i:Nat} {x:Int}:(t.set i x).b1=t.b1.set i x:=by
 unfold aP.set aP.b1;cases E:t.cells[i]? with
 |none=>rw[List.set_eq_of_length_le (by rw[o4];exact List.getElem?_eq_none_iff.1 E)]
 |some c=>
  simp only;cases t.marks.getLast? with
  |none=>simp only;rw[List.map_set]
  |some m=>simp only;split <;> rw[List.map_set]
theorem aP.A0 {t:aP} {n:Nat}:(t.grow n).b1=t.b1++p9 n 0:=by
 unfold aP.grow aP.b1;rw[j4,List.map_replicate]
end Go.Proofs.YtgbkinibgjmodaaGreatDoor
namespace Go.Vc
open Go Go.RowKit
section
variable {P:X1} {w:x5} {m:Bool} {S R:av}
theorem q2 {t e:o6} {b n k l h:Nat} {z v:x4} {low high:Option x4} {cs:List x4} {K:x4→Prop} (U:P.underlying t=some (.slice e)) (hi:aI P e k b z)
  (E:b7 w k v n cs) (h1:js low l) (V:jt high n h) (J:l≤h) (W:h≤n) (X:∀ O,b7 w k O (h-l) ((cs.drop (l*k)).take ((h-l)*k))→K O):
  I P (c7 t v low high none) w K:=by
 have Y:=E;obtain⟨_,Z,o,base,cap,rfl,aa,_⟩:=E;rw[gz U hi h1 V eY J (by omega) (o7 _)];exact X _ (b7.part Y J W (by omega) (o7 _))
theorem A1 {t e:o6} {J k:o8} {b i:Nat} {y:Int} {z v:x4} {l:List Int} {K:x4→Prop} (O:y=(i:Int)) (U:P.underlying t=some (.slice e)) (hi:aI P e 1 b z)
  (h:aH k w v l) (V:i≤l.length) (W:∀ E,aH k w E (l.drop i)→K E):I P (c7 t v (some (.int J y)) none none) w K:=by
 refine q2 U hi h (lg i y O) h4 V (o7 _) fun E h'=>W E (aH.of (n:=l.length-i) ?_);have X:((ints k l).drop (i*1)).take ((l.length-i)*1)=ints k (l.drop i):=by
  rw[j0 (by simp),U9,ints,←List.map_drop]
 rw[X] at h';exact h'
theorem A2 {t e:o6} {J k:o8} {b i:Nat} {y:Int} {z v:x4} {l:List Int} {K:x4→Prop} (O:y=(i:Int)) (U:P.underlying t=some (.slice e)) (hi:aI P e 1 b z)
  (h:aH k w v l) (V:i≤l.length) (W:∀ E,aH k w E (l.take i)→K E):I P (c7 t v none (some (.int J y)) none) w K:=by
 refine q2 U hi h h3 (lh i y O) (Z9 _) V fun E h'=>W E (aH.of (n:=i) ?_);have X:((ints k l).drop (0*1)).take ((i-0)*1)=ints k (l.take i):=by
  simp[ints,List.map_take]
 rw[X] at h';exact h'
theorem q3 {t e:o6} {b n:Nat} {parts:Array (Nat×x4)} {l:List Int} {K:x4→x5→Prop} (E:P.underlying t=some (.slice e)) (hi:aI P e 1 b (.int .i64 0)) (X:n≤100000) (I:l.length=n)
  (J:Instr.fill (fun j=>some (j*1,1)) ((Array.range (n*1)).map ((if n*1=0 then #[] else (X4 .i64 0).cells)[·% (if n*1=0 then #[] else (X4 .i64 0).cells).size]!)) parts.toList=some (ints .i64 l).toArray)
  (O:∀ v g w',g=w.heap.size→Ext w w'→aq .i64 e w' g v l→K v w'):aa P (u9 t n parts) w K:=
 h5 E hi (by omega) J fun g w' U V W=>O _ g w' U V (aq.of (n:=n) (bL.full (by simpa using W) (by simp[I]) (by simp[maxLen];omega)))
end
section
variable {P:X1} {w:x5}
theorem A3 {t I ty e:o6} {J kn:o8} {b n k cap:Nat} {y:Int} {z:x4} {base:Option Addr} {xs:List x4} {K:x4→x5→Prop} (V:y=(k:Int)) (W:P.underlying t=some (.slice e)) (X:P.underlying I=some (.int kn)) (hi:aI P e 1 b z) (Y:z.cells= #[z])
  (Z:b7 w 1 (.slice base n cap) n xs) (ab:0<k) (O:cap<n+k) (ac:(n+k)*b≤140737488355328) (ad:n+k≤9223372036854775807)
  (ae:∀ v g w',g=w.heap.size→Ext w w'→bL w' g e 1 v (n+k) (xs++p9 k z)→K v w'):aa P (r9 #[t,I] ty #[.slice base n cap,.int J y]) w K:=by
 subst V;obtain⟨i,hi,af,rfl,ag⟩:=hi;obtain⟨E,au,o,av,aw,he,ah,ax,ai,aj⟩:=Z;cases he;have ak:(u7.firstCells i.size n (.slice base n cap)).run P w.drew= .ok xs.toArray w.drew:=by
  rcases Nat.eq_zero_or_pos n with rfl|al
  ·have:xs=[]:=j9 (by simpa using E);subst this;cases base with
   |none=>exact run_firstCells_none w.drew i.size 0 0 cap
   |some a=>exact run_firstCells_some w.drew i.size 0 a 0 cap [] (by simp) (by simp)
  ·have:=ai al;subst this;refine run_firstCells_some w.drew i.size n _ n cap xs (by rw[af];exact E) fun j u hu=>?_;rw[V9];exact aj j u hu
 have am:k*i.bytes≤281474976710656:=by
  have:k*i.bytes≤(n+k)*i.bytes:=X3 _ (by omega);omega
 have ao:=Lib.run_append_grow_zeros (P:=P) w t I ty e i z J kn W X hi ag base n cap xs ak k ab (by omega) O (by omega) am (growslice_fits O ac);have ap:n+k≤grownCap w (n+k) cap e:=grownCap_ge w _ _ _;have aq:grownCap w (n+k) cap e≤maxLen:=grownCap_le_maxLen w (n+k) cap e (by simpa[maxLen] using ad);have U:∀ m,u7.zeroCells z.cells m=(p9 m z).toArray:=fun m=>by
  rw[Y];apply Array.ext
  ·simp[size_zeroCells]
  ·intro j h1 ah;simp[u7.zeroCells,Nat.mod_one]
 refine .of ao ((nv w _ (Nat.le_succ _)).trans (nx _ _)) (ae _ w.heap.size _ rfl ((qj w _).trans (nw _ _)) ⟨by simp at E;simp[E],.inr ⟨_,xs++p9 k z++p9 (grownCap w (n+k) cap e-(n+k)) z,rfl,?_,ap,aq,?_,?_⟩⟩)
 ·rw[U,U];have:=heap_alloc_new w.drew (.cells (xs.toArray++(p9 k z).toArray++(p9 (grownCap w (n+k) cap e-(n+k)) z).toArray) e);rw[List.append_toArray,List.append_toArray] at this ⊢;exact this
 ·simp at E;simp[E];omega
 ·simp at E;rw[List.take_append_of_le_length (by simp[E]),j0 (by simp[E])]
theorem vI {t e ty:o6} {base:Option Addr} {n c:Nat} {K:x4→Prop} (E:P.underlying t=some (.slice e)):
  I P (u7.cap_ #[t] ty #[.slice base n c]) w K=K (.int .i64 c):=I.of fun w' _=>by simp[u7.cap_,run_underlying E,goInt]
theorem A4 {g o k c:Nat} {e:o6} {cs:List x4} (h:ak w g e cs) (U:o+k≤cs.length) (I:k≤c) (J:c≤maxLen):b7 w 1 (.slice (some ⟨g,o,none⟩) k c) k ((cs.drop o).take k):=by
 refine⟨by simp;omega,g,o,_,c,rfl,I,J,fun _=>rfl,fun j v E=>?_⟩;have O:=(x6.1 E).1;simp at O;rw[Z6 (by omega),List.getElem?_drop] at E;exact h.cell E
theorem A5 {t ty e J:o6} {O g o n cap:Nat} {z:x4} {cs:List x4} {K:x4→x5→Prop} (U:P.underlying t=some (.slice e)) (hi:aI P e 1 O z) (V:z.cells= #[z]) (h1:z.oneCell'=true)
  (E:ak w g J cs) (W:0<n) (ac:o+n≤cs.length)
  (X:∀ w',aj (fun r=>r=g) w w'→w'.heap.size=w.heap.size→ak w' g J (over cs o (p9 n z))→K (.tuple #[]) w'):aa P (u7.clear_ #[t] ty #[.slice (some ⟨g,o,none⟩) n cap]) w K:=by
 obtain⟨i,hi,ae,rfl,Y⟩:=hi;have Z:=Lib.run_clear_slice (P:=P) w t e ty z U (fun w=>by simp[zeroValue,typeInfo,hi,Y]) V h1 g o n cap W
  (fun j af=>by rw[E.cell (x3 (show o+j<cs.length by omega))];rfl) (fun j _=>E.frozen _ _)
 obtain⟨ab,I⟩:=li (p9 n z) cs o w E;exact .of Z (I.db E) (X _ I.ad I.size ab)
end
section
variable {P:X1} {w:x5}
theorem gB {t e E:o6} {J k:o8} {i b g:Nat} {y:Int} {z v:x4} {l:List Int} {K:x4→Prop} (O:y=(i:Int)) (U:P.underlying t=some (.slice e)) (hi:aI P e 1 b z)
  (h:aq k E w g v l) (V:i<l.length):I P (x7 t v (.int J y)) w K=K (.pointer (some ⟨g,i,none⟩)):=by
 subst O;obtain⟨_,⟨_,W⟩|⟨cap,cs,rfl,_⟩⟩:=h
 ·omega
 ·rw[gy U hi V (fun _=>rfl)];simp
theorem q4 {t e:o6} {J k:o8} {i b:Nat} {y x:Int} {z v:x4} {l:List Int} {K:x4→Prop} (O:y=(i:Int)) (U:P.underlying t=some (.slice e)) (hi:aI P e 1 b z)
  (h:aH k w v l) (E:l[i]? =some x) (V:∀ b o,w.cell? ⟨b,o,none⟩=some (.int k x)→K (.pointer (some ⟨b,o,none⟩))):I P (x7 t v (.int J y)) w K:=by
 subst O;have W:=(x6.1 E).1;obtain⟨_,_,_,_,_,rfl,_,_,X,Y⟩:=h;rw[gy U hi W X,U9];exact V _ _ (Y i _ (ju E))
theorem gC {e E:o6} {k:o8} {i b g:Nat} {x:Int} {z v:x4} {l:List Int} {K:Unit→x5→Prop} (hi:aI P e 1 b z)
  (h:aq k E w g v l) (ac:i<l.length) (O:∀ w',aj (fun r=>r=g) w w'→w'.heap.size=w.heap.size→aq k E w' g v (l.set i x)→K () w'):aa P (x8 e (.pointer (some ⟨g,i,none⟩)) (.int k x)) w K:=by
 obtain⟨ad,⟨_,ae⟩|⟨cap,full,rfl,U,V,W,I,J⟩⟩:=h
 ·omega
 ·have X:i<full.length:=by simp at I;omega
  refine bE hi rfl rfl U X fun w' Y Z ab=>O w' Y Z ⟨by simp,.inr ⟨cap,full.set i (.int k x),by simp,ab,by simpa using V,W,by simpa using I,?_⟩⟩;simp only[W0,U9] at J ⊢;rw[List.take_set,J,ints,ints,List.map_set]
theorem vJ {t:o6} {b o:Nat} {v:x4} (E:kc P t=true) (h:w.cell? ⟨b,o,none⟩=some v):al P (x1 t (.pointer (some ⟨b,o,none⟩))) v w:=fun w' I=>by
 have h':=lf I h;unfold kc at E;cases hu:P.underlying t with
 |none=>rw[hu] at E;cases E
 |some d=>
  rw[hu] at E;cases d <;> first|(cases E;done)|simp[x1,Instr.sureAddr,loadVar,isAgg,run_underlying hu,h']
theorem hB {k:o8} {S:av} {w':x5} {v:x4} {l:List Int} (h:aH k w v l) (J:aj S w w') (O:∀ r,S r→ ∀ a n c,v= .slice (some a) n c→a.block≠r):aH k w' v l:=by
 obtain⟨h1,b,o,base,cap,rfl,U,V,E,W⟩:=h;refine⟨h1,b,o,base,cap,rfl,U,V,E,?_⟩;rcases Nat.eq_zero_or_pos l.length with I|I
 ·intro j u hu;have:=(x6.1 hu).1;simp at this;omega
 ·have X:=E I;subst X;exact qL J (fun h=>O _ h _ _ _ rfl rfl) W
end
end Go.Vc
namespace Go.Vc
open Go Go.RowKit Go.ChangeShapes Go.WideShapes
structure mX (P:X1) (t:o6) (α:Type) [ax α] (G:α→Prop):Prop where
 op:∀ {H:Type} {enc:o6×x4→H} {w:x5} {base:Nat} {spare:Nat→Bool} {held:Bool} {fuel:Nat} {cs:List x4} {x:DataW H×List MemPlace},
  DataW.trod enc P w base spare held fuel t cs=some x→ ∃ a:α,Seen lk w cs a∧G a
section
variable {P:X1} {α β:Type} [ax α] [ax β]
theorem A6 {k:o8} {n:Int} (h:(Lit.int k n).wf=true):k.min≤n∧n≤k.max:=by simpa[Lit.wf] using h
theorem A7 {t:o6} {k:o8} (E:P.underlying t=some (.int k)):mX P t (eg k) fun n=>k.min≤n.val∧n.val≤k.max:=⟨fun h=>by
 obtain⟨n,rfl,_,hw⟩:=DataW.trod_int E h;exact⟨(n:Int),rfl,A6 hw⟩⟩
theorem A8 (a:Addr) (m n:Nat):(a.add m).add n=a.add (m+n):=by
 unfold Addr.add;by_cases hm:m=0 <;> by_cases E:n=0 <;> simp[hm,E,Nat.add_assoc]
theorem A9 {w:x5} {base:Nat} {a:Addr} {n:Nat} {cs:List x4} (h:w.cells? base a n=some cs):cs.length=n∧ ∀ j v,cs[j]? =some v→w.cell? (a.add j)=some v:=by
 unfold x5.cells? at h;split at h
 ·have I:cs.length=n:=by
   have:=mapM_some_length h;simpa using this
  refine⟨I,fun j v E=>?_⟩;have J:=(x6.1 E).1;have:=mapM_some_get h j j (List.getElem?_range (by omega));rw[this,E]
 ·cases h
theorem Ba {t e:o6} {G:α→Prop} (af:P.underlying t=some (.slice e)) (he:mX P e α G) (ag:P.cellsOf e=ax.n α) (ao:0<ax.n α):mX P t (List α) fun l=>∀ a∈l,G a:=by
 constructor;intro H enc w base ap aq fuel cs x h;rcases DataW.trod_slice af h with⟨rfl,_⟩|⟨a,len,cap,au,rest,n,_,rfl,rfl,av,aw,hm,ay,ah,_,_⟩
 ·exact⟨[],h8,fun _ h=>by cases h⟩
 ·
  have ac:∀ i,i<len→ ∃ (c:List x4) (y:α),c.length=ax.n α∧(∀ j v,c[j]? =some v→w.cell? (a.add (i*ax.n α+j))=some v)∧Seen lk w c y∧G y:=by
   intro i hi;have h1:=ah i hi;rw[x3 (by omega),ag,Option.bind_eq_some_iff] at h1;obtain⟨c,O,U⟩:=h1;obtain⟨W,X⟩:=A9 O;obtain⟨y,Y,ai⟩:=he.op U;exact⟨c,y,W,fun j v J=>by have:=X j v J;rwa [A8] at this,Y,ai⟩
  have all:∀ m,m≤len→ ∃ (vs:List (List x4)) (l:List α),vs.length=m∧l.length=m∧(∀ c∈vs,c.length=ax.n α)∧(∀ (j:Nat) (v:x4),vs.flatten[j]? =some v→w.cell? (a.add j)=some v)∧
    (∀ (i:Nat) (c:List x4) (y:α),vs[i]? =some c→l[i]? =some y→Seen lk w c y)∧ ∀ y∈l,G y:=by
   intro m;induction m with
   |zero=>exact fun _=>⟨[],[],rfl,rfl,(fun _ h=>by cases h),(fun j v h=>by simp at h),(fun i c y h=>by simp at h),(fun _ h=>by cases h)⟩
   |succ m aj=>
    intro hm;obtain⟨vs,l,h1,O,U,W,X,Y⟩:=aj (by omega);obtain⟨c,y,ad,Z,ak,al⟩:=ac m (by omega);refine⟨vs++[c],l++[y],by simp[h1],by simp[O],fun d E=>?_,fun j v J=>?_,fun i d z E I=>?_,fun z I=>?_⟩
    ·rcases n0.1 E with E|E
     ·exact U d E
     ·simp at E;subst E;exact ad
    ·have V:=sN U;rw[h1] at V;rw[List.flatten_append] at J;by_cases am:j<m*ax.n α
     ·rw[Z1 (by omega)] at J;exact W j v J
     ·rw[Z4 (by omega),V] at J;simp at J;have:=Z _ v J;rwa [show m*ax.n α+(j-m*ax.n α)=j by omega] at this
    ·by_cases hi:i<m
     ·rw[Z1 (by omega)] at E I;exact X i d z E I
     ·have aa:=(x6.1 E).1;simp[h1] at aa;have aa:i=m:=by omega
      subst aa;rw[Z4 (by omega),h1] at E;rw[Z4 (by omega),O] at I;simp at E I;subst E I;exact ak
    ·rcases n0.1 I with I|I
     ·exact Y z I
     ·simp at I;subst I;exact al
  obtain⟨vs,l,h1,O,U,W,X,Y⟩:=all len (o7 _);have V:=sN U;rw[h1] at V;have ae:0<len→a=⟨a.block,a.off,none⟩:=fun ab=>by
   obtain⟨c,y,ad,Z,_⟩:=ac 0 (by omega);have:=Z 0 c[0] (x3 (by omega));rw[Nat.zero_mul] at this;exact sM this
  refine⟨l,⟨_,rfl,vs,0,fun _ _=>False,⟨fun _ _ h=>h.elim,(fun h=>by cases h),(fun h=>by cases h)⟩,⟨by omega,X⟩,⟨by rw[V,O],a.block,a.off,some a,cap,by rw[O],by omega,hm,fun ab=>congrArg some (ae (by omega)),fun _=>.inr trivial,fun j v J=>?_⟩,fun h=>by cases h⟩,Y⟩;have:=W j v J;have am:=(x6.1 J).1;have ab:0<len:=by
   rcases Nat.eq_zero_or_pos len with h|h
   ·rw[h,Nat.zero_mul] at V;omega
   ·exact h
  rw[ae ab,V9] at this;exact this
theorem Bb {t e:o6} {G:α→Prop} (U:P.underlying t=some (.array 2 e)) (he:mX P e α G) (V:P.cellsOf e=ax.n α) (Y:P.cellsOf t=2*ax.n α):mX P t (α×α) fun p=>G p.1∧G p.2:=by
 constructor;intro H enc w base Z aa fuel cs x h;obtain⟨xs,m,_,rfl,ab,ac,E⟩:=DataW.trod_array U h;have I:=E 0 (by omega);have h1:=E 1 (by omega);rw[x3 (by omega),V] at I h1;obtain⟨a,J,W⟩:=he.op I;obtain⟨b,O,X⟩:=he.op h1;rw[Nat.zero_mul,List.drop_zero] at J;rw[Nat.one_mul,j0 (by simp;omega)] at O;exact⟨(a,b),⟨cs.take (ax.n α),cs.drop (ax.n α),fun _=>False,fun _=>False,by rw[List.take_append_drop],fun _ h=>h,fun _ h=>h,(fun h=>by cases h),J,O⟩,W,X⟩
end
end Go.Vc
namespace Go.Vc
open Go Go.RowKit
set_option maxRecDepth 100000
theorem Bc:(⟨#[]⟩:ByteArray)=strOfNums []:=rfl
theorem Bd {E:x4→x4→x4→x5→Prop} {B:(x4→x4→x4→x5→Prop)→Prop} (G:x4→x4→x4→x5→Prop) (h1:∀ t u v w,G t u v w→E t u v w)
  (J:∀ I:x4→x4→x4→x5→Prop,(∀ t u v w,G t u v w→I t u v w)→B I):aB E B:=J E h1
theorem sX {E:x4→x4→x4→x4→x5→Prop} {B:(x4→x4→x4→x4→x5→Prop)→Prop} (G:x4→x4→x4→x4→x5→Prop) (h1:∀ s t u v w,G s t u v w→E s t u v w)
  (J:∀ I:x4→x4→x4→x4→x5→Prop,(∀ s t u v w,G s t u v w→I s t u v w)→B I):aB E B:=J E h1
abbrev bu (l:List Int):x4:=.string (strOfNums l)
def Bytes (l:List Int):Prop:=∀ b∈l,0≤b∧b<256
theorem kk (l:List Int):(strOfNums l).size=l.length:=strOfNums_size l
theorem Be {l:List Int} (h:Bytes l) {i:Nat} {b:Int} (hi:l[i]? =some b):(strOfNums l)[i]? =some (UInt8.ofNat b.toNat)∧((UInt8.ofNat b.toNat).toNat:Int)=b:=by
 have O:=h b (u4 hi);have I:=x6.1 hi;refine⟨?_,by rw[UInt8.toNat_ofNat'];omega⟩;have J:i<(strOfNums l).size:=by rw[kk];exact I.1
 rw[getElem?_pos (strOfNums l) i J];congr 1;show (strOfNums l).data[i]=_;have E:(strOfNums l).data.toList[i]? =some (UInt8.ofNat b.toNat):=by rw[strOfNums_data,r8,hi];rfl
 rw[U7] at E;exact (l7.1 E).2
theorem str_inj {a b:List Int} (E:Bytes a) (I:Bytes b) (h:strOfNums a=strOfNums b):a=b:=by
 have h1:(strOfNums a).data.toList=(strOfNums b).data.toList:=by rw[h]
 rw[strOfNums_data,strOfNums_data] at h1;have key:∀ {l:List Int},Bytes l→(l.map fun n=>UInt8.ofNat n.toNat).map (fun u=>((u.toNat:Nat):Int))=l:=fun {l} J=>by
  rw[List.map_map]
  conv=>rhs;rw[←List.map_id l]
  refine List.map_congr_left fun x O=>?_;have:=J x O;show (((UInt8.ofNat x.toNat).toNat:Nat):Int)=x;rw[UInt8.toNat_ofNat'];omega
 rw[←key E,←key I,h1]
theorem Bf (a b:List Int):strOfNums a++strOfNums b=strOfNums (a++b):=by
 apply ByteArray.ext;rw[ByteArray.data_append];simp[strOfNums]
theorem Bg (l:List Int) (i j:Nat):(strOfNums l).extract i j=strOfNums ((l.take j).drop i):=by
 apply ByteArray.ext;rw[ByteArray.data_extract];apply Array.toList_inj.1;rw[Array.toList_extract];simp[strOfNums,List.extract_eq_take_drop,List.map_drop,List.map_take,List.drop_take]
theorem vK (l:List Int):(strOfNums l).toList=l.map fun n=>UInt8.ofNat n.toNat:=by
 rw[ByteArray.toList_eq];exact strOfNums_data l
theorem vL {a b:List Int} (E:Bytes a) (I:Bytes b):((strOfNums a).toList == (strOfNums b).toList)=decide (a=b):=by
 rw[X8,beq_iff_eq,decide_eq_true_eq,vK,vK];refine⟨fun h=>str_inj E I ?_,fun h=>by rw[h]⟩;unfold strOfNums;rw[h]
section
variable {P:X1} {w:x5}
theorem lr {t ty:o6} {l:List Int} {K:x4→Prop} (E:P.underlying t=some .string):I P (u6 #[t] ty #[bu l]) w K=K (.int .i64 l.length):=I.of fun w' _=>by
 simp[u6,run_underlying E,goInt,kk]
theorem pv {t:o6} {k:o8} {y b:Int} {i:Nat} {l:List Int} {K:x4→Prop} (E:y=(i:Int)) (J:P.underlying t=some .string) (O:Bytes l) (hi:l[i]? =some b):I P (Y0 t (bu l) (.int k y)) w K=K (.int .u8 b):=I.of fun w' _=>by
 subst E;obtain⟨h1,U⟩:=Be O hi;have e:(0:Int)≤(i:Int):=by omega
 simp only[Y0,asIntOf,Y2,Y6,Y4,run_underlying J];rw[if_pos e,c9,h1];simp only[Y6,U]
theorem sY {t:o6} {cx cy:Bool} {a b:List Int} {K:x4→Prop} (h:a.length+b.length≤9223372036854775807):I P (U .add t cx cy (bu a) (bu b)) w K=K (bu (a++b)):=I.of fun w' _=>by
 have:=run_string_add_sum (P:=P) (w:=w') (strOfNums a) (strOfNums b) (by rw[kk,kk];exact h);simp only[U,eqGuard,binOp];simp[this,Bf]
theorem vM {t:o6} {cx cy:Bool} {a b:List Int} {K:x4→Prop} (E:Bytes a) (J:Bytes b):I P (U .eql t cx cy (bu a) (bu b)) w K=K (.bool (decide (a=b))):=I.of fun w' _=>by
 simp[U,eqGuard,binOp,Op.stringOp,vL E J]
theorem Bh {t:o6} {cx cy:Bool} {a b:List Int} {K:x4→Prop} (E:Bytes a) (J:Bytes b):I P (U .neq t cx cy (bu a) (bu b)) w K=K (.bool (decide (a≠b))):=I.of fun w' _=>by
 simp[U,eqGuard,binOp,Op.stringOp,vL E J]
theorem vN {t:o6} {k:o8} {y:Int} {i:Nat} {l:List Int} {K:x4→Prop} (E:y=(i:Int)) (J:P.underlying t=some .string) (hi:i≤l.length):I P (c7 t (bu l) (some (.int k y)) none none) w K=K (bu (l.drop i)):=I.of fun w' _=>by
 have O:=qQ (P:=P) w' (sl:=false) (n:=(strOfNums l).size) (c:=(strOfNums l).size) (low:=some (.int k y)) (high:=none) (mx:=none) (l:=i) (h:=(strOfNums l).size) (m:=(strOfNums l).size) (lg i y E) h4 eY (by rw[kk];exact hi) (o7 _) (o7 _);have e:(strOfNums l).extract i (strOfNums l).size=strOfNums (l.drop i):=by rw[Bg,kk,l5]
 simp[c7,Instr.slice,run_underlying J,O,e]
theorem sZ {s t e:o6} {v:x4} {l:List Int} {K:x4→Prop} (E:P.underlying s=some (.slice e)) (he:P.underlying e=some (.int .u8)) (J:P.underlying t=some .string) (h:aH .u8 w v l):I P (convert s t v) w K=K (bu l):=I.of fun w' V=>by
 obtain⟨O,b,o,base,cap,rfl,_,_,W,X⟩:=h.ext V;have O:l.length=l.length*1:=by simpa using O
 by_cases Y:0<l.length
 ·rw[W Y];refine run_convert_bytes_arg w' s e E he b o l.length cap l rfl (fun i hi=>?_) t J;have U:l[i]? =some l[i]:=x3 hi;rw[p8,U];exact X i _ (ju U)
 ·have Z:l=[]:=j9 (by omega);subst Z;cases base with
  |none=>
   rw[run_convert_bytes_nil w' s e E he _ _ t J];rfl
  |some a=>
   rw[run_convert_bytes_string w' s t e _ _ _ E he J];have:=run_bytesToString (P:=P) w' a 0 cap [] (by have:=run_loadCells_list (P:=P) w' a [] (fun j v aa=>by simp at aa);simpa using this);simp only[List.length_nil];rw[this];rfl
theorem s3 {s t e:o6} {u:TypeDesc} {l:List Int} {K:x4→x5→Prop} (V:P.underlying s=some u) (W:P.underlying t=some (.slice e)) (he:P.underlying e=some (.int .u8)) (X:Bytes l) (hm:l.length≤1000000000)
  (Y:∀ v w',Ext w w'→aH .u8 w' v l→(∀ r,(∃ a n c,v= .slice (some a) n c∧a.block=r)→w.heap.size≤r)→K v w'):aa P (convert s t (bu l)) w K:=by
 have Z:=Lib.bytesWorld_at_new w e (strOfNums l);have O:=fun j E=>Lib.bytesWorld_at_old w e (strOfNums l) j E;have ab:=Lib.bytesWorld_size w e (strOfNums l);refine .of (Lib.run_convert_string_bytes w s t e (strOfNums l) V W he) ⟨rfl,⟨rfl,Nat.le_succ _⟩,rfl,by omega,fun r o I _=>?_⟩ (Y _ _ ⟨by omega,fun r o I _=>?_⟩ ?_ ?_)
 ·rw[O r (l7.1 I).1];exact I
 ·rw[O r (l7.1 I).1];exact I
 ·rw[kk];refine⟨by simp,w.heap.size,0,_,_,rfl,?_,?_,fun _=>rfl,fun j v J=>?_⟩
  ·exact grownCap_ge w _ _ _
  ·exact grownCap_le_maxLen w _ _ _ (by simp[maxLen];omega)
  ·have E:j<l.length:=by have:=(x6.1 J).1;simpa using this
   have U:l[j]? =some l[j]:=x3 E;rw[V5,Lib.bytesWorld_cell w e (strOfNums l) j (by rw[kk];exact E)];rw[ju U] at J;rw[←b9 J,strOfNums_data,p8,r8,U];have:=X l[j] (T1 E);simp only[b6,V4];congr 2;rw[UInt8.toNat_ofNat'];omega
 ·rintro r ⟨a,n,c,h1,rfl⟩;cases h1;exact o7 _
end
end Go.Vc
namespace Go.Proofs.YtgbkinibgjmodaaGreatDoor
open Go Go.Vc Go.RowKit Go.Proofs Go.Proofs.Tryz
set_option maxRecDepth 100000
theorem vO {b:Int} (h:cc b=true):bC b=false:=by
 have h:=of_decide_eq_true h;unfold bC;rw[decide_eq_false_iff_not];omega
theorem vP {b:Int} {p:List Int} (h:cc b=true):lex (b::p)=lex p:=by
 rw[ia,ia p,List.dropWhile_cons,if_pos h]
theorem Bi {b:Int} {p:List Int} (h:cc b=false) (E:bC b=false):lex (b::p)=([],false):=by
 rw[ia,List.dropWhile_cons,if_neg (by simp[h])];simp only[E,Bool.false_eq_true,if_false]
theorem vQ {b:Int} {p:List Int} (h:bC b=true):lex (b::p)=match p.dropWhile bC with
  |[]=>([b::p.takeWhile bC],true)
  |c::r=>if cc c then ((b::p.takeWhile bC)::(lex (c::r)).1,(lex (c::r)).2) else ([],false):=by
 have E:cc b=false:=by
  cases I:cc b with
  |false=>rfl
  |true=>rw[vO I] at h;cases h
 rw[ia,List.dropWhile_cons,if_neg (by simp[E])];simp only[h,if_true,List.dropWhile_cons,List.takeWhile_cons]
 all_goals (cases List.dropWhile bC p <;> rfl)
def gh:List Int→List (List Int)→List Int→Bool→List (List Int)×Bool
 |[],out,w,op=>(if op then out++[w] else out,true)
 |b::p,out,w,op=>
  if cc b then gh p (if op then out++[w] else out) [] false
  else if bC b then gh p out (if op then w++[b] else[b]) true
  else (out,false)
theorem pw:∀ (p:List Int) (out:List (List Int)) (w:List Int),gh p out w false=(out++(lex p).1,(lex p).2)∧
  gh p out w true=match p.dropWhile bC with
   |[]=>(out++[w++p.takeWhile bC],true)
   |c::r=>if cc c then (out++[w++p.takeWhile bC]++(lex (c::r)).1,(lex (c::r)).2) else (out,false)
 |[],out,w=>by simp[gh,ia []]
 |b::p,out,w=>by
  by_cases E:cc b=true
  ·have hw:=vO E;refine⟨?_,?_⟩
   ·rw[gh,if_pos E,(pw p _ _).1,vP E];simp
   ·rw[gh,if_pos E,if_pos rfl,(pw p _ _).1,List.dropWhile_cons,if_neg (by simp[hw])];simp only[E,if_true,vP E,List.takeWhile_cons,hw,Bool.false_eq_true,if_false,U3]
  ·have J:cc b=false:=by cases h:cc b;rfl;exact absurd h E
   by_cases hw:bC b=true
   ·refine⟨?_,?_⟩
    ·rw[gh,if_neg E,if_pos hw,if_neg (by simp),(pw p _ _).2,vQ hw];cases p.dropWhile bC with
     |nil=>simp
     |cons c r=>
      simp only;by_cases I:cc c=true
      ·simp[I]
      ·simp[I]
    ·rw[gh,if_neg E,if_pos hw,if_pos rfl,(pw p _ _).2,List.dropWhile_cons,if_pos hw,List.takeWhile_cons,if_pos hw];cases p.dropWhile bC with
     |nil=>simp
     |cons c r=>
      simp only;by_cases I:cc c=true
      ·simp[I]
      ·simp[I]
   ·have O:bC b=false:=by cases h:bC b;rfl;exact absurd h hw
    refine⟨?_,?_⟩
    ·rw[gh,if_neg E,if_neg hw,Bi J O];simp
    ·rw[gh,if_neg E,if_neg hw,List.dropWhile_cons,if_neg hw];simp[J]
theorem Bj (p:List Int):gh p [] [] false=lex p:=by rw[(pw p [] []).1];simp
def mY:Nat→Nat→List Int
 |0,_=>[]
 |k+1,n=>(if n<10 then[] else mY k (n / 10))++[48+((n % 10:Nat):Int)]
def eu (n:Nat):List Int:=mY (n+1) n
theorem vR:∀ {k m n:Nat},n<k→n<m→mY k n=mY m n
 |k+1,m+1,n,h1,E=>by
  unfold mY;by_cases h:n<10
  ·rw[if_pos h,if_pos h]
  ·rw[if_neg h,if_neg h,vR (k:=k) (m:=m) (n:=n / 10) (by omega) (by omega)]
theorem lu (n:Nat):eu n=(if n<10 then[] else eu (n / 10))++[48+((n % 10:Nat):Int)]:=by
 unfold eu;rw[mY];by_cases h:n<10
 ·rw[if_pos h,if_pos h]
 ·rw[if_neg h,if_neg h,vR (k:=n) (m:=n / 10+1) (by omega) (by omega)]
theorem vS:∀ (k n:Nat),n<k→ ∀ b∈eu n,48≤b∧b≤57
 |k+1,n,I,b,E=>by
  rw[lu] at E;rcases n0.1 E with E|E
  ·by_cases h:n<10
   ·rw[if_pos h] at E;simp at E
   ·rw[if_neg h] at E;exact vS k (n / 10) (by omega) b E
  ·rw[o9] at E;omega
theorem vT (n:Nat):∀ b∈eu n,48≤b∧b≤57:=vS (n+1) n (by omega)
def px (l:List Int):Int:=l.foldl (fun n b=>10*n+(b-48)) 0
theorem Bk (l:List Int) (b:Int):px (l++[b])=10*px l+(b-48):=by simp[px]
theorem s4:∀ (k n:Nat),n<k→px (eu n)=n
 |k+1,n,E=>by
  rw[lu,Bk];by_cases h:n<10
  ·rw[if_pos h];have:px []=0:=rfl;omega
  ·rw[if_neg h,s4 k (n / 10) (by omega)];omega
theorem Bl {a b:Nat} (h:eu a=eu b):a=b:=by
 have h1:=s4 (a+1) a (by omega);have E:=s4 (b+1) b (by omega);rw[h,E] at h1;omega
theorem s5:∀ (k n:Nat),n<10 ^ k→1≤k→(eu n).length≤k
 |k+1,n,h,_=>by
  rw[lu,o5];by_cases E:n<10
  ·rw[if_pos E];simp
  ·rw[if_neg E];have I:1≤k:=by
    rcases k with _|k
    ·simp at h;omega
    ·omega
   have J:(10:Nat) ^ (k+1)=10*10 ^ k:=by rw[Nat.pow_succ,Nat.mul_comm]
   have:=s5 k (n / 10) (by omega) I;simp only[T0];omega
def dp (t:List Int):List Int:=t.flatMap fun v=>eu v.toNat++[32]
theorem Bm (t:List Int) (v:Int):dp (t++[v])=dp t++(eu v.toNat++[32]):=by simp[dp]
theorem vU {l r:List Int} (E:∀ b∈l,b≠32):(l++32::r).takeWhile (fun b=>decide (b≠32))=l∧(l++32::r).dropWhile (fun b=>decide (b≠32))=32::r:=by
 induction l with
 |nil=>simp
 |cons x l I=>
  have J:=E x (.head _);have:=I fun b O=>E b (.tail _ O);simp only[List.cons_append,List.takeWhile_cons,List.dropWhile_cons];simp only[J,ne_eq,not_false_eq_true,decide_true,if_true];exact⟨by rw[this.1],this.2⟩
theorem vV:∀ {a b:List Int},(∀ x∈a,0≤x)→(∀ x∈b,0≤x)→dp a=dp b→a=b
 |[],[],_,_,_=>rfl
 |[],y::b,_,_,h=>by simp[dp] at h
 |x::a,[],_,_,h=>by simp[dp] at h
 |x::a,y::b,J,O,h=>by
  have e:∀ (z:Int) (l:List Int),dp (z::l)=eu z.toNat++32::dp l:=fun z l=>by simp[dp]
  rw[e,e] at h;have d:∀ z:Int,∀ c∈eu z.toNat,c≠32:=fun z c V=>by have:=vT _ c V;omega
  have E:=vU (r:=dp a) (d x);have U:=vU (r:=dp b) (d y);rw[h] at E;have W:eu x.toNat=eu y.toNat:=E.1.symm.trans U.1;have X:=E.2.symm.trans U.2;have Z:=J x (.head _);have aa:=O y (.head _);have:=Bl W;have Y:x=y:=by omega
  subst Y;rw[vV (fun z I=>J z (.tail _ I)) (fun z I=>O z (.tail _ I)) (List.cons.inj X).2]
theorem vW (t:List Int):Bytes (dp t):=fun b E=>by
 obtain⟨v,_,E⟩:=List.mem_flatMap.1 E;rcases n0.1 E with E|E
 ·have:=vT _ b E;omega
 ·rw[o9] at E;omega
end Go.Proofs.YtgbkinibgjmodaaGreatDoor
