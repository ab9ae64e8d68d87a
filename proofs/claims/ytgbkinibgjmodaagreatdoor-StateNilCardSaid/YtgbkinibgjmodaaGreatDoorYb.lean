/- own texts, made small by a tool (wip/ holds them as they were written): no statement of the seat. -/
import Derived.Test.YtgbkinibgjmodaaGreatDoorYa
set_option linter.unusedVariables false
set_option linter.unusedSimpArgs false
set_option linter.unnecessarySimpa false
open Array renaming getElem?_eq_some_iff→l6,getElem?_toList→U8
open BitVec renaming ofInt→W9
open Bool renaming not_true→Y7,not_false→Y8,eq_iff_iff→W5,and_eq_true→V7,or_eq_false_iff→U4
open Decidable renaming not_not→X4
open Go renaming Value→x4,World→x5,Builtin→u7,TypeId→o6,IntKind→o8,Program→X5,Oper→U9
open Go.Addr renaming add_mid→U5
open Go.Builtin renaming len_→u6,append_→r8,min_→T1
open Go.Instr renaming loadAt→x1,fieldAt→x2,storeAt→x6,indexAt→x7,extract→x8,buildSlice→u9,alloc→n0,sliceAt→j4,build→Z3,box→Z5,index→Y2,lookup→V3,makeSlice→U7
open Go.IntKind renaming i64→X3,u64→V2
open Go.Op renaming unary→Z4
open Go.Proofs.Tryz renaming prog→y0
open Go.Result renaming andThen→Y6
open Go.Sem renaming run_bind→Y4,run_pure→X0
open Go.Sort renaming Holds→U3
open Go.Value renaming int→X7
open Int renaming toNat_natCast→c7
open List renaming getElem?_eq_getElem→x3,getElem?_eq_some_iff→u4,mem_of_getElem?→u5,getElem?_map→r9,getD_eq_getElem?_getD→p8,replicate→p9,length_map→o3,take_add_one→o4,length_append→o5,mem_singleton→o9,mem_append→n9,take_length→l5,length_take→l7,mem_map→l9,map_append→j0,eq_nil_of_length_eq_zero→j5,length_cons→j9,take_of_length_le→Z1,getElem?_eq_none→Z7,getElem?_take_of_lt→Z8,getElem?_append_left→Y0,getElem?_append_right→Y3,mem_iff_getElem?→X1,drop_eq_getElem_cons→X2,getElem?_set→X8,flatMap_cons→X9,ext_getElem?→W0,range→W3,pairwise_iff_getElem→W8,append_assoc→V0,length→V4,length_eq_one_iff→V6,mem_or_eq_of_mem_set→V9,length_set→U1,append_nil→U2,mem_cons→U6,set_append_right→T2,length_singleton→T3
open Nat renaming le_refl→o7,zero_le→Y1,le_trans→Y5,mul_le_mul_right→X6,sub_self→W7,add_mul→V1,zero_add→V5,mul_one→T0
open Option renaming some→j6,toList_some→c8,isNone_some→c9,map_some→Z0,map_eq_some_iff→Z6,isNone_none→Y9,map→W6,getD_some→T4
open Option.some renaming inj→Z2,injEq→Z9
open Prod.mk renaming injEq→V8
namespace Go.Proofs.YtgbkinibgjmodaaGreatDoor
open Go Go.Vc Go.RowKit Go.Proofs Go.Proofs.Tryz
set_option maxRecDepth 100000
section
variable {Z:x5} {ac:aT} {V an bb cQ jz lg lh li lj lk ll lm:x4}
theorem oc.enter (h:I y0 (u6 #[ab] J #[V]) Z fun Y=>ba (.int .i64 0) (.int .i64 0) Z fun aa W E k=>I y0 (U .lss J false false W Y) E fun t9=>Split t9 (I y0 (x7 ab V W) E fun ad=>I y0 (x1 J ad) E fun X=>I y0 (U .neq J false false X (.int .i64 0)) E fun ae=>Split ae (ac X E) (I y0 (U .add J false true W (.int .i64 1)) E fun af=>k aa af E)) (ac (.int .i64 0) E)):O y0 oc [V] Z ac:=aD Tryz.func113 rfl (by kernel_rfl) (by kernel_rfl) h
theorem mh.enter (h:O y0 cmp_isNaN_int [V] Z fun X Y=>O y0 cmp_isNaN_int [an] Y fun W E=>Split X (Split W (ac (.int .i64 0) E) (ac (.int .i64 (-1)) E)) (Split W (ac (.int .i64 1) E) (I y0 (U .lss J false false V an) E fun aa=>Split aa (ac (.int .i64 (-1)) E) (I y0 (U .gtr J false false V an) E fun ab=>Split ab (ac (.int .i64 1) E) (ac (.int .i64 0) E))))):O y0 mh [V,an] Z ac:=aD Tryz.func114 rfl (by kernel_rfl) (by kernel_rfl) h
theorem kd.enter (h:I y0 (u6 #[ab] J #[V]) Z fun Y=>I y0 (u6 #[ab] J #[an]) Z fun t9=>I y0 (U .neq J false false Y t9) Z fun aa=>Split aa (ac (.bool false) Z) (I y0 (u6 #[ab] J #[V]) Z fun ad=>ba (.bool false) (.int .i64 0) Z fun t4 W X k=>I y0 (U .lss J false false W ad) X fun ae=>Split ae (aS X fun E=>I y0 (x7 ab V W) E fun af=>I y0 (x1 J af) E fun ag=>I y0 (x7 ab an W) E fun t22=>I y0 (x1 J t22) E fun ah=>I y0 (U .neq J false false ag ah) E fun ai=>Split ai (ac (.bool false) E) (I y0 (U .add J false true W (.int .i64 1)) E fun t25=>k t4 t25 E)) (ac (.bool true) X))):O y0 kd [V,an] Z ac:=aD Tryz.func116 rfl (by kernel_rfl) (by kernel_rfl) h
theorem mi.enter (h:O y0 mw [(.slice none 0 0),V] Z fun t4 E=>ac t4 E):O y0 mi [V] Z ac:=aD Tryz.func117 rfl (by kernel_rfl) (by kernel_rfl) h
theorem ke.enter (h:aa y0 (Z5 aK V) Z fun J E=>I y0 (Instr.makeFunc (.func gr) #[] #[J]) E fun t3=>ac t3 E):O y0 ke [V] Z ac:=aD Tryz.func121 rfl (by kernel_rfl) (by kernel_rfl) h
theorem od.enter (h:I y0 (u6 #[ab] J #[V]) Z fun Y=>I y0 (u6 #[ab] J #[an]) Z fun t9=>I y0 (U .neq J false false Y t9) Z fun aa=>Split aa (ac (.bool false) Z) (I y0 (u6 #[ab] J #[V]) Z fun ad=>ba (.bool false) (.int .i64 0) Z fun t4 W X k=>I y0 (U .lss J false false W ad) X fun ae=>Split ae (aS X fun E=>I y0 (x7 ab V W) E fun af=>I y0 (x1 J af) E fun ag=>I y0 (x7 ab an W) E fun t22=>I y0 (x1 J t22) E fun ah=>I y0 (U .neq J false false ag ah) E fun ai=>Split ai (ac (.bool false) E) (I y0 (U .add J false true W (.int .i64 1)) E fun t25=>k t4 t25 E)) (ac (.bool true) X))):O y0 od [V,an] Z ac:=aD Tryz.func124 rfl (by kernel_rfl) (by kernel_rfl) h
theorem oe.enter (h:I y0 (u7.max_ #[J,J] J #[V,(.int .i64 0)]) Z fun t4=>aa y0 (U7 dn t4 t4) Z fun t5 E=>I y0 (Z3 cX #[(0,t5)]) E fun U=>aa y0 (Z5 cX U) E fun W X=>ac W X):O y0 oe [V] Z ac:=aD Tryz.func127 rfl (by kernel_rfl) (by kernel_rfl) h
theorem og.enter (h:I y0 (U .eql dl false true V (.pointer none)) Z fun t4=>Split t4 (ac (.int .i64 0) Z) (I y0 (aj V) Z fun E=>I y0 (x2 cK E 1) Z fun J=>I y0 (x1 af J) Z fun W=>ac W Z)):O y0 og [V] Z ac:=aD Tryz.func128 rfl (by kernel_rfl) (by kernel_rfl) h
theorem ju.enter (h:I y0 (U .eql dl false true V (.pointer none)) Z fun t4=>Split t4 (ac (.int .i64 0) Z) (I y0 (aj V) Z fun E=>I y0 (x2 cK E 0) Z fun W=>I y0 (x1 mS W) Z fun X=>I y0 (aj X) Z fun t9=>I y0 (x2 bg t9 2) Z fun Y=>I y0 (x1 ab Y) Z fun aa=>I y0 (u6 #[ab] J #[aa]) Z fun ad=>ac ad Z)):O y0 ju [V] Z ac:=aD Tryz.func129 rfl (by kernel_rfl) (by kernel_rfl) h
theorem mj.enter (h:@aB aT (fun Y E=>Split Y (ac (.slice none 0 0) E) (I y0 (aj V) E fun aa=>I y0 (x2 cK aa 2) E fun ab=>I y0 (x1 b5 ab) E fun ad=>I y0 (x7 b5 ad an) E fun af=>I y0 (x1 ae af) E fun ag=>O y0 kk [ag] E fun ah ai=>ac ah ai)) fun W=>I y0 (U .lss J false true an (.int .i64 0)) Z fun ak=>Split ak (W (.bool true) Z) (O y0 ju [V] Z fun al X=>I y0 (U .geq J false false an al) X fun am=>W am X)):O y0 mj [V,an] Z ac:=aD Tryz.func130 rfl (by kernel_rfl) (by kernel_rfl) h
theorem iC.enter (h:I y0 (aj V) Z fun t9=>I y0 (x2 aM t9 1) Z fun ab=>I y0 (x1 dm ab) Z fun ad=>I y0 (u6 #[ae] J #[an]) Z fun ag=>O y0 ov [ad,ag] Z fun X Y=>I y0 (u6 #[ae] J #[an]) Y fun ah=>bd (.int .i64 0) Y fun W E k=>I y0 (U .lss J false false W ah) E fun ai=>Split ai (I y0 (x7 ae an W) E fun ak=>I y0 (x1 af ak) E fun al=>I y0 (aj V) E fun am=>I y0 (x2 aM am 1) E fun ao=>I y0 (x1 dm ao) E fun t25=>I y0 (U .add J false false X W) E fun ap=>O y0 gS [t25,ap,al] E fun _ aa=>I y0 (U .add J false true W (.int .i64 1)) aa fun aq=>k aq aa) (ac X E)):O y0 iC [V,an] Z ac:=aD Tryz.func131 rfl (by kernel_rfl) (by kernel_rfl) h
theorem kf.enter (h:I y0 (U .eql dl false true V (.pointer none)) Z fun t4=>Split t4 (ac (.int .i64 0) Z) (I y0 (aj V) Z fun E=>I y0 (x2 cK E 3) Z fun W=>I y0 (x1 ep W) Z fun X=>I y0 (u6 #[ep] J #[X]) Z fun t9=>ac t9 Z)):O y0 kf [V] Z ac:=aD Tryz.func132 rfl (by kernel_rfl) (by kernel_rfl) h
theorem ml.enter (h:@aB dF (fun aU=>aS aU fun Y=>I y0 (aj V) Y fun aV=>I y0 (x2 aM aV 1) Y fun aW=>I y0 (x1 dm aW) Y fun aX=>I y0 (aj V) Y fun aY=>I y0 (x2 aM aY 3) Y fun aZ=>I y0 (x1 bc aZ) Y fun a1=>I y0 (u6 #[bc] J #[a1]) Y fun a2=>O y0 gS [aX,(.int .i64 1),a2] Y fun _ ab=>I y0 (aj V) ab fun a6=>I y0 (x2 aM a6 3) ab fun t39=>I y0 (x1 bc t39) ab fun a7=>I y0 (u6 #[bc] J #[a7]) ab fun a8=>I y0 (U .sub J false true a8 (.int .i64 1)) ab fun ba=>ac ba ab) fun aL=>aS Z fun W=>I y0 (aj V) W fun t9=>I y0 (x2 aM t9 3) W fun E=>I y0 (x1 bc E) W fun X=>(O y0 gq [an] W fun aN ad=>(Ext W ad∨ai y0 (x1 bc E) X ad∧ai y0 (x2 aM t9 3) E ad∧ai y0 (aj V) t9 ad∧True)∧(O y0 hT [bb] ad fun aT af=>(Ext W af∨ai y0 (x1 bc E) X af∧ai y0 (x2 aM t9 3) E af∧ai y0 (aj V) t9 af∧True)∧(aa y0 (u9 ae 1 #[(0,(.int .i64 1))]) af fun bd am=>(Ext W am∨ai y0 (x1 bc E) X am∧ai y0 (x2 aM t9 3) E am∧ai y0 (aj V) t9 am∧True)∧O y0 hj [bb] am fun be ao=>(Ext W ao∨ai y0 (x1 bc E) X ao∧ai y0 (x2 aM t9 3) E ao∧ai y0 (aj V) t9 ao∧True)∧aa y0 (r8 #[ae,ae] ae #[bd,be]) ao fun bf ap=>(Ext W ap∨ai y0 (x1 bc E) X ap∧ai y0 (x2 aM t9 3) E ap∧ai y0 (aj V) t9 ap∧True)∧O y0 iC [V,bf] ap fun bg ag=>(Ext W ag∨ai y0 (x1 bc E) X ag∧ai y0 (x2 aM t9 3) E ag∧ai y0 (aj V) t9 ag∧True)∧I y0 (Z3 cj #[(0,aN),(1,aT),(2,bg)]) ag fun t22=>aa y0 (u9 bc 1 #[(0,t22)]) ag fun bh aq=>(Ext W aq∨ai y0 (x1 bc E) X aq∧ai y0 (x2 aM t9 3) E aq∧ai y0 (aj V) t9 aq∧True)∧aa y0 (r8 #[bc,bc] bc #[X,bh]) aq fun bi aO=>I y0 (aj V) aO fun t25=>I y0 (x2 aM t25 3) aO fun bj=>aa y0 (x6 bc bj bi) aO fun _ bk=>aL bk)∧(O y0 hj [bb] af fun bl au=>(Ext W au∨ai y0 (x1 bc E) X au∧ai y0 (x2 aM t9 3) E au∧ai y0 (aj V) t9 au∧True)∧aa y0 (u9 ae 1 #[(0,(.int .i64 1))]) au fun bm av=>(Ext W av∨ai y0 (x1 bc E) X av∧ai y0 (x2 aM t9 3) E av∧ai y0 (aj V) t9 av∧True)∧aa y0 (r8 #[ae,ae] ae #[bm,bl]) av fun bn aw=>(Ext W aw∨ai y0 (x1 bc E) X aw∧ai y0 (x2 aM t9 3) E aw∧ai y0 (aj V) t9 aw∧True)∧O y0 iC [V,bn] aw fun bo ah=>(Ext W ah∨ai y0 (x1 bc E) X ah∧ai y0 (x2 aM t9 3) E ah∧ai y0 (aj V) t9 ah∧True)∧I y0 (Z3 cj #[(0,aN),(1,aT),(2,bo)]) ah fun bp=>aa y0 (u9 bc 1 #[(0,bp)]) ah fun bq ax=>(Ext W ax∨ai y0 (x1 bc E) X ax∧ai y0 (x2 aM t9 3) E ax∧ai y0 (aj V) t9 ax∧True)∧aa y0 (r8 #[bc,bc] bc #[X,bq]) ax fun br aP=>I y0 (aj V) aP fun bt=>I y0 (x2 aM bt 3) aP fun bu=>aa y0 (x6 bc bu br) aP fun _ bw=>aL bw))∧(aa y0 (u9 ae 1 #[(0,(.int .i64 1))]) ad fun bx ay=>(Ext W ay∨ai y0 (x1 bc E) X ay∧ai y0 (x2 aM t9 3) E ay∧ai y0 (aj V) t9 ay∧True)∧O y0 hT [bb] ay fun bz az=>(Ext W az∨ai y0 (x1 bc E) X az∧ai y0 (x2 aM t9 3) E az∧ai y0 (aj V) t9 az∧True)∧O y0 hj [bb] az fun bA aA=>(Ext W aA∨ai y0 (x1 bc E) X aA∧ai y0 (x2 aM t9 3) E aA∧ai y0 (aj V) t9 aA∧True)∧aa y0 (r8 #[ae,ae] ae #[bx,bA]) aA fun bB aC=>(Ext W aC∨ai y0 (x1 bc E) X aC∧ai y0 (x2 aM t9 3) E aC∧ai y0 (aj V) t9 aC∧True)∧O y0 iC [V,bB] aC fun bC ak=>(Ext W ak∨ai y0 (x1 bc E) X ak∧ai y0 (x2 aM t9 3) E ak∧ai y0 (aj V) t9 ak∧True)∧I y0 (Z3 cj #[(0,aN),(1,bz),(2,bC)]) ak fun bD=>aa y0 (u9 bc 1 #[(0,bD)]) ak fun bE aE=>(Ext W aE∨ai y0 (x1 bc E) X aE∧ai y0 (x2 aM t9 3) E aE∧ai y0 (aj V) t9 aE∧True)∧aa y0 (r8 #[bc,bc] bc #[X,bE]) aE fun bF aQ=>I y0 (aj V) aQ fun bG=>I y0 (x2 aM bG 3) aQ fun bH=>aa y0 (x6 bc bH bF) aQ fun _ bI=>aL bI))∧(aa y0 (u9 ae 1 #[(0,(.int .i64 1))]) W fun bJ aF=>(Ext W aF∨ai y0 (x1 bc E) X aF∧ai y0 (x2 aM t9 3) E aF∧ai y0 (aj V) t9 aF∧True)∧O y0 gq [an] aF fun bK aG=>(Ext W aG∨ai y0 (x1 bc E) X aG∧ai y0 (x2 aM t9 3) E aG∧ai y0 (aj V) t9 aG∧True)∧O y0 hT [bb] aG fun bL aH=>(Ext W aH∨ai y0 (x1 bc E) X aH∧ai y0 (x2 aM t9 3) E aH∧ai y0 (aj V) t9 aH∧True)∧O y0 hj [bb] aH fun bM aI=>(Ext W aI∨ai y0 (x1 bc E) X aI∧ai y0 (x2 aM t9 3) E aI∧ai y0 (aj V) t9 aI∧True)∧aa y0 (r8 #[ae,ae] ae #[bJ,bM]) aI fun bN aJ=>(Ext W aJ∨ai y0 (x1 bc E) X aJ∧ai y0 (x2 aM t9 3) E aJ∧ai y0 (aj V) t9 aJ∧True)∧O y0 iC [V,bN] aJ fun bO al=>(Ext W al∨ai y0 (x1 bc E) X al∧ai y0 (x2 aM t9 3) E al∧ai y0 (aj V) t9 al∧True)∧I y0 (Z3 cj #[(0,bK),(1,bL),(2,bO)]) al fun bP=>aa y0 (u9 bc 1 #[(0,bP)]) al fun bQ aK=>(Ext W aK∨ai y0 (x1 bc E) X aK∧ai y0 (x2 aM t9 3) E aK∧ai y0 (aj V) t9 aK∧True)∧aa y0 (r8 #[bc,bc] bc #[X,bQ]) aK fun bR aR=>I y0 (aj V) aR fun bS=>I y0 (x2 aM bS 3) aR fun bT=>aa y0 (x6 bc bT bR) aR fun _ bU=>aL bU)):O y0 ml [V,an,bb] Z ac:=aD Tryz.func133 rfl (by kernel_rfl) (by kernel_rfl) h
theorem oh.enter (h:@aB aT (fun Y E=>Split Y (ac (.slice none 0 0) E) (I y0 (aj V) E fun aa=>I y0 (x2 cK aa 3) E fun ad=>I y0 (x1 ep ad) E fun ae=>I y0 (x7 ep ae an) E fun af=>I y0 (x2 fi af 0) E fun ag=>I y0 (x1 ab ag) E fun ah=>O y0 gq [ah] E fun ai ak=>ac ai ak)) fun W=>I y0 (U .lss J false true an (.int .i64 0)) Z fun al=>Split al (W (.bool true) Z) (O y0 kf [V] Z fun am X=>I y0 (U .geq J false false an am) X fun ao=>W ao X)):O y0 oh [V,an] Z ac:=aD Tryz.func134 rfl (by kernel_rfl) (by kernel_rfl) h
theorem oi.enter (h:@aB aT (fun Y E=>Split Y (ac (.pointer none) E) (I y0 (aj V) E fun aa=>I y0 (x2 cK aa 3) E fun ab=>I y0 (x1 ep ab) E fun ad=>I y0 (x7 ep ad an) E fun ae=>I y0 (x2 fi ae 1) E fun af=>I y0 (x1 bB af) E fun ag=>O y0 ow [ag] E fun ah ai=>ac ah ai)) fun W=>I y0 (U .lss J false true an (.int .i64 0)) Z fun ak=>Split ak (W (.bool true) Z) (O y0 kf [V] Z fun al X=>I y0 (U .geq J false false an al) X fun am=>W am X)):O y0 oi [V,an] Z ac:=aD Tryz.func135 rfl (by kernel_rfl) (by kernel_rfl) h
theorem kg.enter (h:O y0 ff [V,an] Z fun Y W=>I y0 (Z4 .not Y) W fun aa=>Split aa (ac (.int .i64 (-1)) W) (I y0 (aj V) W fun ab=>I y0 (x2 aM ab 3) W fun ad=>I y0 (x1 bc ad) W fun ae=>I y0 (x7 bc ae an) W fun af=>I y0 (x2 cj af 1) W fun ag=>I y0 (x1 aK ag) W fun ah=>O y0 my [ah,bb] W fun X E=>I y0 (x8 X 0) E fun ai=>I y0 (x8 X 1) E fun t25=>I y0 (U .neq bJ false true t25 (.int .i64 0)) E fun ak=>Split ak (ac (.int .i64 (-1)) E) (I y0 (aj V) E fun al=>I y0 (x2 aM al 3) E fun am=>I y0 (x1 bc am) E fun ao=>I y0 (x7 bc ao an) E fun ap=>I y0 (x2 cj ap 2) E fun aq=>I y0 (x1 J aq) E fun au=>I y0 (U .add J false true au (.int .i64 1)) E fun av=>I y0 (U .add J false false av ai) E fun aw=>ac aw E))):O y0 kg [V,an,bb] Z ac:=aD Tryz.func137 rfl (by kernel_rfl) (by kernel_rfl) h
theorem oj.enter (h:I y0 (u6 #[ab] J #[an]) Z fun ae=>ba (.bool false) (.int .i64 0) Z fun t4 t9 W k=>I y0 (U .lss J false false t9 ae) W fun af=>Split af (I y0 (x7 ab an t9) W fun ag=>I y0 (x1 J ag) W fun Y=>@aB aT (fun ah aa=>Split ah (ac (.bool false) aa) (I y0 (U .add J false true t9 (.int .i64 1)) aa fun ai=>k t4 ai aa)) fun X=>O y0 iB [V,Y] W fun aj ad=>I y0 (Z4 .not aj) ad fun ak=>Split ak (X (.bool true) ad) (O y0 gR [V,Y] ad fun al E=>Split al (X (.bool true) E) (I y0 (U .gtr J false true t9 (.int .i64 0)) E fun t25=>Split t25 (I y0 (U .sub J false true t9 (.int .i64 1)) E fun am=>I y0 (x7 ab an am) E fun ao=>I y0 (x1 J ao) E fun ap=>I y0 (U .geq J false false ap Y) E fun aq=>X aq E) (X (.bool false) E)))) (ac (.bool true) W)):O y0 oj [V,an] Z ac:=aD Tryz.func138 rfl (by kernel_rfl) (by kernel_rfl) h
theorem hS.enter (h:I y0 (U .eql bB false true V (.pointer none)) Z fun t4=>Split t4 (ac (.int .i64 0) Z) (I y0 (aj V) Z fun E=>I y0 (x2 bq E 1) Z fun J=>I y0 (x1 af J) Z fun W=>ac W Z)):O y0 hS [V] Z ac:=aD Tryz.func139 rfl (by kernel_rfl) (by kernel_rfl) h
theorem hT.enter (h:aa y0 (n0 aK true (.tuple #[])) Z fun J E=>I y0 (U .eql bB false true V (.pointer none)) E fun t4=>Split t4 (I y0 (Z3 aK #[]) E fun t5=>aa y0 (x6 aK J t5) E fun _ W=>I y0 (do loadVar aK (←asAddr J)) W fun r=>ac r W) (I y0 (aj V) E fun Y=>I y0 (x2 bq Y 0) E fun ab=>I y0 (x1 aK ab) E fun t9=>aa y0 (x6 aK J t9) E fun _ X=>I y0 (do loadVar aK (←asAddr J)) X fun ad=>ac ad X)):O y0 hT [V] Z ac:=aD Tryz.func140 rfl (by kernel_rfl) (by kernel_rfl) h
theorem jv.enter (h:aa y0 (Z5 aK V) Z fun J E=>I y0 (x2 aK J 0) E fun t3=>I y0 (x1 ab t3) E fun t4=>O y0 gq [t4] E fun t5 U=>ac t5 U):O y0 jv [V] Z ac:=aD Tryz.func141 rfl (by kernel_rfl) (by kernel_rfl) h
theorem k2.enter (h:I y0 (U .eql bI false true V (.pointer none)) Z fun t9=>Split t9 (ac (.int .i64 2) Z) (I y0 (U .lss J false true an (.int .i64 0)) Z fun W=>Split W (ac (.int .i64 1) Z) (O y0 gQ [V] Z fun X Y=>O y0 hU [bb,X] Y fun aa E=>I y0 (Z4 .not aa) E fun ab=>Split ab (ac (.int .i64 3) E) (I y0 (aj V) E fun ad=>I y0 (x2 aM ad 1) E fun ae=>I y0 (x1 dm ae) E fun t22=>O y0 gS [t22,an,bb] E fun t25 af=>ac t25 af)))):O y0 k2 [V,an,bb] Z ac:=aD Tryz.func143 rfl (by kernel_rfl) (by kernel_rfl) h
theorem k3.enter (h:I y0 (U .eql dl false true V (.pointer none)) Z fun t4=>Split t4 (ac (.int .i64 0) Z) (I y0 (aj V) Z fun E=>I y0 (x2 cK E 0) Z fun J=>I y0 (x1 mS J) Z fun W=>I y0 (aj W) Z fun t9=>I y0 (x2 bg t9 1) Z fun X=>I y0 (x1 af X) Z fun Y=>ac Y Z)):O y0 k3 [V] Z ac:=aD Tryz.func145 rfl (by kernel_rfl) (by kernel_rfl) h
theorem kh.enter (h:O y0 ox [V] Z fun t4 E=>I y0 (Z3 dv #[(0,t4),(2,(.int .i64 (-1)))]) E fun t5=>aa y0 (Z5 dv t5) E fun J U=>ac J U):O y0 kh [V] Z ac:=aD Tryz.func146 rfl (by kernel_rfl) (by kernel_rfl) h
theorem ki.enter (h:O y0 ef [V] Z fun ae E=>I y0 (Z4 .not ae) E fun t9=>Split t9 (ac (.tuple #[(.string ⟨#[]⟩),(.int .i64 0)]) E) (I y0 (aj V) E fun af=>I y0 (x2 bn af 0) E fun ag=>I y0 (x1 lf ag) E fun ah=>O y0 iD [ah] E fun W J=>I y0 (x8 W 0) J fun ai=>I y0 (x8 W 1) J fun Y=>I y0 (x8 W 2) J fun aa=>@aB aT (fun e X=>@aB dF (fun ak=>ac (.tuple #[ai,Y]) ak) fun ab=>I y0 (U .neq bJ false true e (.int .i64 0)) X fun t22=>Split t22 (O y0 fh [V,e,Y] X fun _ al=>ab al) (ab X)) fun ad=>I y0 (U .eql bJ false true aa (.int .i64 2)) J fun am=>Split am (ad (.int .i64 4) J) (ad aa J))):O y0 ki [V] Z ac:=aD Tryz.func147 rfl (by kernel_rfl) (by kernel_rfl) h
theorem fz.enter (h:@aB aT (fun t22 E=>Split t22 (I y0 (aj V) E fun Y=>I y0 (x2 bn Y 1) E fun ab=>I y0 (x2 cP ab 1) E fun ad=>aa y0 (x6 bJ ad (.int .i64 5)) E fun _ W=>I y0 (aj V) W fun ae=>I y0 (x2 bn ae 1) W fun af=>I y0 (x2 cP af 3) W fun ag=>aa y0 (x6 J ag bb) W fun _ ah=>ac (.tuple #[]) ah) (ac (.tuple #[]) E)) fun X=>Split an (I y0 (aj V) Z fun t9=>I y0 (x2 bn t9 1) Z fun ai=>I y0 (x2 cP ai 1) Z fun ak=>I y0 (x1 bJ ak) Z fun al=>I y0 (U .eql bJ false true al (.int .i64 0)) Z fun am=>Split am (I y0 (aj V) Z fun ao=>I y0 (x2 bn ao 1) Z fun ap=>I y0 (x2 cP ap 0) Z fun aq=>I y0 (x1 bJ aq) Z fun au=>I y0 (U .eql bJ false true au (.int .i64 0)) Z fun av=>X av Z) (X (.bool false) Z)) (X (.bool false) Z)):O y0 fz [V,an,bb] Z ac:=aD Tryz.func148 rfl (by kernel_rfl) (by kernel_rfl) h
theorem ez.enter (h:O y0 ki [V] Z fun ab W=>I y0 (x8 ab 0) W fun ag=>I y0 (x8 ab 1) W fun J=>O y0 ef [V] W fun ah X=>I y0 (Z4 .not ah) X fun ai=>Split ai (ac (.tuple #[(.int .i64 0),J]) X) (O y0 oy [ag] X fun ad E=>I y0 (x8 ad 0) E fun Y=>I y0 (x8 ad 1) E fun t25=>@aB aT (fun aj ae=>Split aj (O y0 fh [V,(.int .i64 4),J] ae fun _ ak=>ac (.tuple #[(.int .i64 0),J]) ak) (ac (.tuple #[Y,J]) ae)) fun aa=>I y0 (U .neq bJ false true t25 (.int .i64 0)) E fun al=>Split al (aa (.bool true) E) (I y0 (U .lss af false false Y an) E fun am=>Split am (aa (.bool true) E) (I y0 (U .gtr af false false Y bb) E fun ao=>aa ao E)))):O y0 ez [V,an,bb] Z ac:=aD Tryz.func149 rfl (by kernel_rfl) (by kernel_rfl) h
theorem ef.enter (h:I y0 (aj V) Z fun t4=>I y0 (x2 bn t4 1) Z fun t5=>I y0 (x2 cP t5 0) Z fun E=>I y0 (x1 bJ E) Z fun J=>I y0 (U .eql bJ false true J (.int .i64 0)) Z fun W=>ac W Z):O y0 ef [V] Z ac:=aD Tryz.func150 rfl (by kernel_rfl) (by kernel_rfl) h
theorem mm.enter (h:aa y0 (n0 bf true (.tuple #[])) Z fun t4 aN=>O y0 ez [V,(.int .i64 (-4611686018427387904)),(.int .i64 4611686018427387904)] aN fun au X=>I y0 (x8 au 0) X fun ak=>I y0 (x8 au 1) X fun av=>I y0 (U .lss af false true ak (.int .i64 0)) X fun aO=>I y0 (Z4 .neg ak) X fun aP=>I y0 (u7.max_ #[af,af] af #[ak,aP]) X fun aw=>I y0 (u6 #[ae] J #[an]) X fun t25=>O y0 k5 [V,aw,t25] X fun aQ ax=>I y0 (Z3 bf #[(0,aQ)]) ax fun aR=>aa y0 (n0 bf true (.tuple #[])) ax fun f aT=>aa y0 (x6 bf f aR) aT fun _ aU=>O y0 ef [V] aU fun aV Y=>I y0 (Z4 .not aV) Y fun aW=>Split aW (I y0 (x1 bf f) Y fun aX=>aa y0 (x6 bf t4 aX) Y fun _ ay=>I y0 (do loadVar bf (←asAddr t4)) ay fun aY=>ac aY ay) (I y0 (x2 bf f 0) Y fun aZ=>I y0 (x1 ae aZ) Y fun az=>I y0 (u6 #[ae] J #[az]) Y fun a1=>bd (.int .i64 0) Y fun al W k=>I y0 (U .lss J false false al a1) W fun a2=>Split a2 (I y0 (x7 ae az al) W fun a6=>I y0 (x1 af a6) W fun a7=>aS W fun ab=>I y0 (x2 bf f 1) ab fun t39=>I y0 (x1 ae t39) ab fun aA=>I y0 (x7 ae an a7) ab fun a8=>I y0 (x1 af a8) ab fun ba=>aa y0 (u9 ae 1 #[(0,ba)]) ab fun t45 ag=>(Ext ab ag∨ai y0 (x1 ae t39) aA ag∧ai y0 (x2 bf f 1) t39 ag∧True)∧aa y0 (r8 #[ae,ae] ae #[aA,t45]) ag fun t46 aC=>I y0 (x2 bf f 1) aC fun bb=>aa y0 (x6 ae bb t46) aC fun _ aE=>I y0 (U .add J false true al (.int .i64 1)) aE fun bc=>k bc aE) (@aB dF (fun be=>O y0 ez [V,(.int .i64 0),(.int .i64 4611686018427387904)] be fun aF ah=>I y0 (x8 aF 0) ah fun bg=>I y0 (x8 aF 1) ah fun _=>I y0 (x2 bf f 2) ah fun bh=>aa y0 (x6 af bh bg) ah fun _ am=>I y0 (x2 bf f 1) am fun t66=>I y0 (x1 ae t66) am fun bi=>O y0 oz [V,bi] am fun bj aG=>I y0 (x2 bf f 3) aG fun bk=>aa y0 (x6 eg bk bj) aG fun _ aH=>@aB dF (fun aI=>I y0 (x1 bf f) aI fun bl=>aa y0 (x6 bf t4 bl) aI fun _ aJ=>I y0 (do loadVar bf (←asAddr t4)) aJ fun bm=>ac bm aJ) fun aK=>Split aO (aS aH fun E=>I y0 (aj V) E fun ao=>I y0 (x2 bn ao 3) E fun ap=>I y0 (x1 dz ap) E fun aL=>I y0 (x2 bf f 1) E fun t76=>I y0 (x1 ae t76) E fun t77=>I y0 (x2 bf f 3) E fun bo=>I y0 (x1 eg bo) E fun bp=>I y0 (Z3 fX #[(0,t77),(1,bp)]) E fun bq=>aa y0 (u9 dz 1 #[(0,bq)]) E fun br ad=>(Ext E ad∨ai y0 (x1 dz ap) aL ad∧ai y0 (x2 bn ao 3) ap ad∧ai y0 (aj V) ao ad∧True)∧aa y0 (r8 #[dz,dz] dz #[aL,br]) ad fun bt aq=>I y0 (aj V) aq fun bu=>I y0 (x2 bn bu 3) aq fun bw=>aa y0 (x6 dz bw bt) aq fun _ bx=>aK bx) (aK aH)) fun aM=>I y0 (U .gtr af false true aw (.int .i64 6)) W fun bz=>Split bz (O y0 fz [V,(.bool true),av] W fun _ bA=>aM bA) (I y0 (x2 bf f 1) W fun t53=>I y0 (x1 ae t53) W fun bB=>O y0 mz [bB] W fun t55 bC=>O y0 fz [V,t55,av] bC fun _ bD=>aM bD)))):O y0 mm [V,an] Z ac:=aD Tryz.func151 rfl (by kernel_rfl) (by kernel_rfl) h
theorem iD.enter (h:I y0 (U .eql lf false true V (.pointer none)) Z fun ai=>Split ai (ac (.tuple #[(.string ⟨#[]⟩),(.int .i64 0),(.int .i64 2)]) Z) (I y0 (aj V) Z fun ak=>I y0 (x2 dv ak 2) Z fun al=>I y0 (x1 J al) Z fun am=>I y0 (U .geq J false true am (.int .i64 0)) Z fun ao=>Split ao (aS Z fun ad=>I y0 (aj V) ad fun ap=>I y0 (x2 dv ap 2) ad fun aq=>I y0 (x1 J aq) ad fun au=>ac (.tuple #[(.string ⟨#[]⟩),au,(.int .i64 11)]) ad) (O y0 oA [V] Z fun ae av=>bd ae av fun to W k=>@aB aT (fun aw E=>Split aw (I y0 (U .add J false true to (.int .i64 1)) E fun t39=>k t39 E) (@aB aT (fun ax X=>Split ax (I y0 (aj V) X fun ay=>I y0 (x2 dv ay 2) X fun az=>aa y0 (x6 J az to) X fun _ aA=>ac (.tuple #[(.string ⟨#[]⟩),to,(.int .i64 11)]) aA) (I y0 (U .eql J false false ae to) X fun aC=>Split aC (aS X fun ab=>I y0 (aj V) ab fun aE=>I y0 (x2 dv aE 0) ab fun t70=>I y0 (x1 aX t70) ab fun aF=>I y0 (u6 #[aX] J #[aF]) ab fun aG=>ac (.tuple #[(.string ⟨#[]⟩),aG,(.int .i64 2)]) ab) (I y0 (aj V) X fun aH=>I y0 (x2 dv aH 1) X fun t76=>aa y0 (x6 J t76 to) X fun _ Y=>I y0 (aj V) Y fun aI=>I y0 (x2 dv aI 0) Y fun aJ=>I y0 (x1 aX aJ) Y fun aK=>I y0 (j4 aX aK (some ae) (some to) none) Y fun aL=>I y0 (convert aX a1 aL) Y fun aM=>ac (.tuple #[aM,ae,(.int .i64 0)]) Y))) fun af=>I y0 (aj V) E fun aN=>I y0 (x2 dv aN 0) E fun aO=>I y0 (x1 aX aO) E fun t45=>I y0 (u6 #[aX] J #[t45]) E fun t46=>I y0 (U .lss J false false to t46) E fun aP=>Split aP (I y0 (aj V) E fun t50=>I y0 (x2 dv t50 0) E fun aQ=>I y0 (x1 aX aQ) E fun aR=>I y0 (x7 aX aR to) E fun aU=>I y0 (x1 bi aU) E fun t55=>O y0 mA [t55] E fun aV ag=>I y0 (Z4 .not aV) ag fun aW=>af aW ag) (af (.bool false) E))) fun ah=>I y0 (aj V) W fun aY=>I y0 (x2 dv aY 0) W fun aZ=>I y0 (x1 aX aZ) W fun t25=>I y0 (u6 #[aX] J #[t25]) W fun a2=>I y0 (U .lss J false false to a2) W fun a6=>Split a6 (I y0 (aj V) W fun a7=>I y0 (x2 dv a7 0) W fun a8=>I y0 (x1 aX a8) W fun ba=>I y0 (x7 aX ba to) W fun bb=>I y0 (x1 bi bb) W fun bc=>O y0 oB [bc] W fun be bf=>ah be bf) (ah (.bool false) W)))):O y0 iD [V] Z ac:=aD Tryz.func152 rfl (by kernel_rfl) (by kernel_rfl) h
theorem fh.enter (h:I y0 (aj V) Z fun W=>I y0 (x2 bn W 1) Z fun X=>I y0 (x2 cP X 0) Z fun t9=>I y0 (x1 bJ t9) Z fun Y=>I y0 (U .eql bJ false true Y (.int .i64 0)) Z fun ab=>Split ab (I y0 (aj V) Z fun ad=>I y0 (x2 bn ad 1) Z fun ae=>I y0 (x2 cP ae 0) Z fun af=>aa y0 (x6 bJ af an) Z fun _ E=>I y0 (aj V) E fun ag=>I y0 (x2 bn ag 1) E fun ah=>I y0 (x2 cP ah 2) E fun ai=>aa y0 (x6 J ai bb) E fun _ ak=>ac (.tuple #[]) ak) (ac (.tuple #[]) Z)):O y0 fh [V,an,bb] Z ac:=aD Tryz.func153 rfl (by kernel_rfl) (by kernel_rfl) h
theorem jw.enter (h:I y0 (u6 #[ae] J #[V]) Z fun X=>aa y0 (U7 ab X X) Z fun Y ad=>I y0 (u6 #[ae] J #[V]) ad fun ah=>bd (.int .i64 0) ad fun W E k=>I y0 (U .lss J false false W ah) E fun ai=>Split ai (I y0 (x7 ae V W) E fun aj=>I y0 (x1 af aj) E fun ak=>I y0 (x7 ab Y W) E fun al=>aa y0 (x6 J al ak) E fun _ ag=>I y0 (U .add J false true W (.int .i64 1)) ag fun am=>k am ag) (ac Y E)):O y0 jw [V] Z ac:=aD Tryz.func154 rfl (by kernel_rfl) (by kernel_rfl) h
theorem k4.enter (h:aa y0 (Z5 bf an) Z fun ag aH=>aa y0 (n0 bj true (.tuple #[])) aH fun t4 aI=>aS aI fun E=>I y0 (x2 bf ag 1) E fun aJ=>I y0 (x1 ae aJ) E fun aK=>I y0 (aj V) E fun ah=>I y0 (x2 bg ah 1) E fun ak=>I y0 (x1 af ak) E fun ay=>I y0 (x2 bf ag 2) E fun al=>I y0 (x1 af al) E fun am=>I y0 (aj V) E fun ao=>I y0 (x2 bg ao 1) E fun ap=>I y0 (x1 af ap) E fun t22=>I y0 (T1 #[af,af] af #[am,t22]) E fun az=>O y0 jw [aK] E fun aL W=>(Ext E W∨ai y0 (T1 #[af,af] af #[am,t22]) az W∧ai y0 (x1 af ap) t22 W∧ai y0 (x2 bg ao 1) ap W∧ai y0 (aj V) ao W∧ai y0 (x1 af al) am W∧ai y0 (x2 bf ag 2) al W∧ai y0 (x1 af ak) ay W∧ai y0 (x2 bg ah 1) ak W∧ai y0 (aj V) ah W∧True)∧O y0 fB [aL,ay,az] W fun aA ad=>I y0 (x8 aA 0) ad fun t25=>I y0 (x8 aA 1) ad fun _=>I y0 (x2 bf ag 3) ad fun aM=>I y0 (x1 eg aM) ad fun aB=>I y0 (u6 #[eg] J #[aB]) ad fun aN=>bd (.int .i64 0) ad fun aq ab k=>I y0 (U .lss J false false aq aN) ab fun aO=>Split aO (I y0 (x7 eg aB aq) ab fun aP=>I y0 (x1 cB aP) ab fun aQ=>aa y0 (n0 cB true (.tuple #[])) ab fun l aR=>aa y0 (x6 cB l aQ) aR fun _ aT=>aS aT fun X=>I y0 (x2 cB l 0) X fun aU=>I y0 (x1 ae aU) X fun aV=>I y0 (x2 cB l 1) X fun au=>I y0 (x1 af au) X fun t39=>I y0 (aj V) X fun av=>I y0 (x2 bg av 1) X fun aw=>I y0 (x1 af aw) X fun ax=>I y0 (T1 #[af,af] af #[t39,ax]) X fun aC=>O y0 jw [aV] X fun aW Y=>(Ext X Y∨ai y0 (T1 #[af,af] af #[t39,ax]) aC Y∧ai y0 (x1 af aw) ax Y∧ai y0 (x2 bg av 1) aw Y∧ai y0 (aj V) av Y∧ai y0 (x1 af au) t39 Y∧ai y0 (x2 cB l 1) au Y∧True)∧O y0 mB [t25,aW,aC] Y fun _ aE=>I y0 (U .add J false true aq (.int .i64 1)) aE fun t46=>k t46 aE) (I y0 (x2 bf ag 0) ab fun aX=>I y0 (x1 ae aX) ab fun aY=>O y0 jw [aY] ab fun aZ aF=>I y0 (Z3 bj #[(0,aZ),(1,t25)]) aF fun a1=>aa y0 (x6 bj t4 a1) aF fun _ aG=>I y0 (do loadVar bj (←asAddr t4)) aG fun r=>ac r aG)):O y0 k4 [V,an] Z ac:=aD Tryz.func155 rfl (by kernel_rfl) (by kernel_rfl) h
theorem ol.enter (h:I y0 (u6 #[aX] J #[V]) Z fun t9=>jk (.slice none 0 0) (.int .i64 0) (.slice none 0 0) (.bool false) (.int .i64 0) Z fun ag t3 out ah Y E k=>I y0 (U .lss J false false Y t9) E fun ao=>Split ao (aB (α:=x4→x4→x4→x4→x5→Prop) (fun(ap aq au av:x4) (ai:x5)=>I y0 (U .add J false true Y (.int .i64 1)) ai fun t66=>k ap aq au av t66 ai) fun aj=>I y0 (x7 aX V Y) E fun aw=>I y0 (x1 bi aw) E fun ab=>@aB aT (fun ax ad=>Split ax (aj ag t3 out (.bool false) ad) (@aB aT (fun ay X=>Split ay (@aB aT (fun az aA=>ac (.tuple #[az,Y]) aA) fun ak=>Split ah (I y0 (u6 #[cA] J #[out]) X fun aC=>I y0 (U .sub J false true aC (.int .i64 1)) X fun t39=>I y0 (j4 cA out none (some t39) none) X fun aE=>ak aE X) (ak out X)) (@aB aT (fun ae aF=>aS aF fun W=>I y0 (u6 #[cA] J #[ae]) W fun aG=>I y0 (U .sub J false true aG (.int .i64 1)) W fun t53=>I y0 (x7 cA ae t53) W fun aH=>I y0 (x2 bp aH 0) W fun t55=>I y0 (x1 a1 t55) W fun aI=>I y0 (U .add J false true Y (.int .i64 1)) W fun aJ=>I y0 (j4 aX V (some Y) (some aJ) none) W fun aK=>I y0 (convert aX a1 aK) W fun aL=>I y0 (U .add a1 false false aI aL) W fun aM=>I y0 (x7 cA ae t53) W fun aN=>I y0 (x2 bp aN 0) W fun aO=>aa y0 (x6 a1 aO aM) W fun _ aP=>aj ag t3 ae (.bool true) aP) fun al=>I y0 (Z4 .not ah) X fun aQ=>Split aQ (I y0 (Z3 bp #[(0,(.string ⟨#[]⟩)),(1,Y)]) X fun aR=>aa y0 (u9 cA 1 #[(0,aR)]) X fun aU aV=>aa y0 (r8 #[cA,cA] cA #[out,aU]) aV fun aW aY=>al aW aY) (al out X))) fun am=>I y0 (U .lss bi false true ab (.int .u8 33)) ad fun aZ=>Split aZ (am (.bool true) ad) (I y0 (U .gtr bi false true ab (.int .u8 126)) ad fun a2=>am a2 ad))) fun af=>I y0 (U .eql bi false true ab (.int .u8 32)) E fun a6=>Split a6 (af (.bool true) E) (I y0 (U .eql bi false true ab (.int .u8 9)) E fun a7=>Split a7 (af (.bool true) E) (I y0 (U .eql bi false true ab (.int .u8 10)) E fun a8=>Split a8 (af (.bool true) E) (I y0 (U .eql bi false true ab (.int .u8 13)) E fun ba=>af ba E)))) (ac (.tuple #[out,(.int .i64 (-1))]) E)):O y0 ol [V] Z ac:=aD Tryz.func156 rfl (by kernel_rfl) (by kernel_rfl) h
theorem mn.enter (h:aa y0 (n0 bp true (.tuple #[])) Z fun Y E=>I y0 (aj V) E fun t5=>I y0 (x2 aN t5 3) E fun ai=>I y0 (x1 J ai) E fun ak=>I y0 (U .neq J false true ak (.int .i64 0)) E fun al=>Split al (I y0 (Z3 bp #[]) E fun t9=>aa y0 (x6 bp Y t9) E fun _ ab=>I y0 (do loadVar bp (←asAddr Y)) ab fun am=>ac am ab) (I y0 (aj V) E fun ao=>I y0 (x2 aN ao 0) E fun ap=>I y0 (x1 cA ap) E fun aq=>I y0 (u6 #[cA] J #[aq]) E fun au=>I y0 (U .eql J false true au (.int .i64 0)) E fun av=>Split av (aS E fun W=>I y0 (aj V) W fun aw=>I y0 (x2 aN aw 2) W fun ax=>I y0 (x1 J ax) W fun ay=>I y0 (aj V) W fun t22=>I y0 (x2 aN t22 1) W fun az=>I y0 (x1 J az) W fun aA=>O y0 fA [V,ay,aA] W fun _ ad=>I y0 (Z3 bp #[]) ad fun aB=>aa y0 (x6 bp Y aB) ad fun _ ae=>I y0 (do loadVar bp (←asAddr Y)) ae fun aC=>ac aC ae) (I y0 (aj V) E fun aE=>I y0 (x2 aN aE 0) E fun aF=>I y0 (x1 cA aF) E fun aG=>I y0 (x7 cA aG (.int .i64 0)) E fun aH=>I y0 (x1 bp aH) E fun aI=>aa y0 (n0 bp true (.tuple #[])) E fun af aJ=>aa y0 (x6 bp af aI) aJ fun _ X=>I y0 (aj V) X fun aK=>I y0 (x2 aN aK 0) X fun aL=>I y0 (x1 cA aL) X fun aM=>I y0 (j4 cA aM (some (.int .i64 1)) none none) X fun aO=>I y0 (aj V) X fun t39=>I y0 (x2 aN t39 0) X fun aP=>aa y0 (x6 cA aP aO) X fun _ ag=>I y0 (x1 bp af) ag fun aQ=>aa y0 (x6 bp Y aQ) ag fun _ ah=>I y0 (do loadVar bp (←asAddr Y)) ah fun aR=>ac aR ah))):O y0 mn [V] Z ac:=aD Tryz.func157 rfl (by kernel_rfl) (by kernel_rfl) h
theorem fW.enter (h:@aB aT (fun Y E=>Split Y (I y0 (aj V) E fun ab=>I y0 (x2 aN ab 5) E fun t25=>aa y0 (x6 J t25 (.int .i64 5)) E fun _ W=>I y0 (aj V) W fun ad=>I y0 (x2 aN ad 6) W fun ae=>aa y0 (x6 J ae bb) W fun _ af=>ac (.tuple #[]) af) (ac (.tuple #[]) E)) fun X=>Split an (I y0 (aj V) Z fun t9=>I y0 (x2 aN t9 5) Z fun ag=>I y0 (x1 J ag) Z fun ah=>I y0 (U .eql J false true ah (.int .i64 0)) Z fun ai=>Split ai (I y0 (aj V) Z fun ak=>I y0 (x2 aN ak 3) Z fun al=>I y0 (x1 J al) Z fun am=>I y0 (U .eql J false true am (.int .i64 0)) Z fun ao=>X ao Z) (X (.bool false) Z)) (X (.bool false) Z)):O y0 fW [V,an,bb] Z ac:=aD Tryz.func158 rfl (by kernel_rfl) (by kernel_rfl) h
theorem en.enter (h:O y0 mn [V] Z fun ak al=>aa y0 (n0 bp true (.tuple #[])) al fun X am=>aa y0 (x6 bp X ak) am fun _ ad=>I y0 (x2 bp X 0) ad fun ao=>I y0 (x1 a1 ao) ad fun ap=>O y0 oC [ap] ad fun ah E=>I y0 (x8 ah 0) E fun ae=>I y0 (x8 ah 1) E fun aq=>@aB dF (fun W=>I y0 (aj V) W fun au=>I y0 (x2 aN au 3) W fun av=>I y0 (x1 J av) W fun t45=>I y0 (U .neq J false true t45 (.int .i64 0)) W fun t46=>Split t46 (ac (.tuple #[(.int .i64 0),(.int .i64 0)]) W) (aS W fun ag=>I y0 (x2 bp X 1) ag fun aw=>I y0 (x1 J aw) ag fun ax=>ac (.tuple #[ae,ax]) ag)) fun ai=>@aB aT (fun ay Y=>Split ay (I y0 (x2 bp X 1) Y fun t39=>I y0 (x1 J t39) Y fun az=>O y0 fA [V,(.int .i64 4),az] Y fun _ aA=>ai aA) (ai Y)) fun ab=>I y0 (aj V) E fun aC=>I y0 (x2 aN aC 3) E fun aE=>I y0 (x1 J aE) E fun t22=>I y0 (U .eql J false true t22 (.int .i64 0)) E fun aF=>Split aF (I y0 (U .neq J false true aq (.int .i64 0)) E fun aG=>Split aG (ab (.bool true) E) (I y0 (U .lss af false false ae an) E fun aH=>Split aH (ab (.bool true) E) (I y0 (U .gtr af false false ae bb) E fun aI=>ab aI E))) (ab (.bool false) E)):O y0 en [V,an,bb] Z ac:=aD Tryz.func159 rfl (by kernel_rfl) (by kernel_rfl) h
end
section
variable {Z:x5} {ac:aT} {V an bb cQ jz lg lh li lj lk ll lm:x4}
theorem mo.enter (h:aa y0 (n0 aF true (.tuple #[])) Z fun t4 bW=>aa y0 (n0 aF true (.tuple #[])) bW fun f bX=>O y0 en [V,(.int .i64 (-4611686018427387904)),(.int .i64 4611686018427387904)] bX fun aX ao=>I y0 (x8 aX 0) ao fun aJ=>I y0 (x8 aX 1) ao fun aY=>I y0 (U .lss af false true aJ (.int .i64 0)) ao fun aZ=>@aB aT (fun a1 bZ=>bd (.int .i64 0) bZ fun i ak k=>@aB aT (fun b1 al=>Split b1 (I y0 (u6 #[ae] J #[an]) al fun t53=>I y0 (U .sub af false true t53 (.int .i64 1)) al fun b2=>O y0 en [V,(.int .i64 0),b2] al fun t55 X=>I y0 (x8 t55 0) X fun aK=>I y0 (x8 t55 1) X fun b3=>I y0 (aj V) X fun b4=>I y0 (x2 aN b4 3) X fun b5=>I y0 (x1 J b5) X fun b6=>I y0 (U .neq J false true b6 (.int .i64 0)) X fun b7=>Split b7 (I y0 (x1 aF f) X fun b8=>aa y0 (x6 aF t4 b8) X fun _ a2=>I y0 (do loadVar aF (←asAddr t4)) a2 fun b9=>ac b9 a2) (I y0 (x2 aF f 0) X fun ca=>I y0 (x1 ae ca) X fun a6=>I y0 (u6 #[ae] J #[a6]) X fun t66=>bd (.int .i64 0) X fun aL ab cb=>I y0 (U .lss J false false aL t66) ab fun cc=>Split cc (I y0 (x7 ae a6 aL) ab fun cd=>I y0 (x1 af cd) ab fun t70=>I y0 (U .eql af false false t70 aK) ab fun ce=>Split ce (O y0 fA [V,(.int .i64 4),b3] ab fun _ a7=>I y0 (x1 aF f) a7 fun t77=>aa y0 (x6 aF t4 t77) a7 fun _ a8=>I y0 (do loadVar aF (←asAddr t4)) a8 fun cg=>ac cg a8) (I y0 (U .add J false true aL (.int .i64 1)) ab fun ch=>cb ch ab)) (I y0 (x2 aF f 0) ab fun ci=>I y0 (x1 ae ci) ab fun cj=>aa y0 (u9 ae 1 #[(0,aK)]) ab fun ck cl=>aa y0 (r8 #[ae,ae] ae #[cj,ck]) cl fun cm bb=>I y0 (x2 aF f 0) bb fun cn=>aa y0 (x6 ae cn cm) bb fun _ cq=>aS cq fun ap=>I y0 (x2 aF f 1) ap fun aM=>I y0 (x1 ae aM) ap fun bc=>I y0 (x7 ae an aK) ap fun cr=>I y0 (x1 af cr) ap fun ct=>aa y0 (u9 ae 1 #[(0,ct)]) ap fun cu aC=>(Ext ap aC∨ai y0 (x1 ae aM) bc aC∧ai y0 (x2 aF f 1) aM aC∧True)∧aa y0 (r8 #[ae,ae] ae #[bc,cu]) aC fun cw be=>I y0 (x2 aF f 1) be fun cz=>aa y0 (x6 ae cz cw) be fun _ bf=>I y0 (U .add af false true i (.int .i64 1)) bf fun cA=>k cA bf))) (I y0 (x2 aF f 1) al fun cB=>I y0 (x1 ae cB) al fun bg=>I y0 (u6 #[ae] J #[bg]) al fun cC=>ba (.int .i64 1) (.int .i64 0) al fun bh aO ad cD=>I y0 (U .lss J false false aO cC) ad fun cE=>Split cE (@aB aT (fun cF bi=>I y0 (U .add J false true aO (.int .i64 1)) bi fun cG=>cD cF cG bi) fun bj=>I y0 (x7 ae bg aO) ad fun cH=>I y0 (x1 af cH) ad fun bk=>@aB aT (fun cI aE=>I y0 (U .mul af false false bh cI) aE fun bl=>I y0 (U .gtr af false true bl (.int .i64 4096)) aE fun cJ=>Split cJ (bj (.int .i64 4097) aE) (bj bl aE)) fun bm=>I y0 (U .gtr af false true bk (.int .i64 4096)) ad fun cK=>Split cK (bm (.int .i64 4097) ad) (bm bk ad)) (@aB dF (fun cL=>O y0 en [V,(.int .i64 0),(.int .i64 4611686018427387904)] cL fun bn aG=>I y0 (x8 bn 0) aG fun cM=>I y0 (x8 bn 1) aG fun _=>I y0 (x2 aF f 2) aG fun cN=>aa y0 (x6 af cN cM) aG fun _ cO=>O y0 en [V,(.int .i64 (-4611686018427387904)),(.int .i64 4611686018427387904)] cO fun bo W=>I y0 (x8 bo 0) W fun aq=>I y0 (x8 bo 1) W fun bp=>I y0 (aj V) W fun cP=>I y0 (x2 aN cP 3) W fun cQ=>I y0 (x1 J cQ) W fun cR=>I y0 (U .neq J false true cR (.int .i64 0)) W fun cS=>Split cS (I y0 (x1 aF f) W fun cT=>aa y0 (x6 aF t4 cT) W fun _ bq=>I y0 (do loadVar aF (←asAddr t4)) bq fun cU=>ac cU bq) (@aB dF (fun cV=>bd (.int .i64 0) cV fun br am cW=>@aB aT (fun cX aP=>Split cX (aa y0 (n0 bA true (.tuple #[])) aP fun x aH=>I y0 (x2 aF f 1) aH fun cY=>I y0 (x1 ae cY) aH fun bt=>I y0 (u6 #[ae] J #[bt]) aH fun cZ=>bd (.int .i64 0) aH fun aQ au c0=>I y0 (U .lss J false false aQ cZ) au fun c1=>Split c1 (I y0 (x7 ae bt aQ) au fun c2=>I y0 (x1 af c2) au fun c3=>I y0 (U .sub af false true c3 (.int .i64 1)) au fun c4=>O y0 en [V,(.int .i64 0),c4] au fun bu ay=>I y0 (x8 bu 0) ay fun c5=>I y0 (x8 bu 1) ay fun _=>I y0 (x2 bA x 0) ay fun c6=>I y0 (x1 ae c6) ay fun c7=>aa y0 (u9 ae 1 #[(0,c5)]) ay fun c8 c9=>aa y0 (r8 #[ae,ae] ae #[c7,c8]) c9 fun da bw=>I y0 (x2 bA x 0) bw fun db=>aa y0 (x6 ae db da) bw fun _ bx=>I y0 (U .add J false true aQ (.int .i64 1)) bx fun dc=>c0 dc bx) (O y0 en [V,(.int .i64 0),(.int .i64 4611686018427387904)] au fun bz av=>I y0 (x8 bz 0) av fun dd=>I y0 (x8 bz 1) av fun de=>I y0 (x2 aF f 3) av fun df=>I y0 (x1 cp df) av fun bB=>I y0 (u6 #[cp] J #[bB]) av fun dg=>bd (.int .i64 0) av fun aR aw dh=>I y0 (U .lss J false false aR dg) aw fun di=>Split di (@aB dF (fun bC=>I y0 (U .add J false true aR (.int .i64 1)) bC fun dj=>dh dj bC) fun bD=>I y0 (x7 cp bB aR) aw fun dk=>I y0 (x1 bA dk) aw fun dl=>aa y0 (n0 bA true (.tuple #[])) aw fun y dm=>aa y0 (x6 bA y dl) dm fun _ ag=>@aB aT (fun dn bE=>Split dn (O y0 fA [V,(.int .i64 4),de] bE fun _ dp=>bD dp) (bD bE)) fun bF=>I y0 (aj V) ag fun dq=>I y0 (x2 aN dq 3) ag fun dr=>I y0 (x1 J dr) ag fun ds=>I y0 (U .eql J false true ds (.int .i64 0)) ag fun dt=>Split dt (I y0 (x2 bA x 0) ag fun du=>I y0 (x1 ae du) ag fun dv=>I y0 (x2 bA y 0) ag fun dw=>I y0 (x1 ae dw) ag fun dx=>O y0 iF [dv,dx] ag fun dy dz=>bF dy dz) (bF (.bool false) ag)) (I y0 (x2 bA x 1) aw fun dA=>aa y0 (x6 af dA dd) aw fun _ aI=>I y0 (x2 aF f 3) aI fun dB=>I y0 (x1 cp dB) aI fun dC=>I y0 (x1 bA x) aI fun dD=>aa y0 (u9 cp 1 #[(0,dD)]) aI fun dE dG=>aa y0 (r8 #[cp,cp] cp #[dC,dE]) dG fun dH bG=>I y0 (x2 aF f 3) bG fun dI=>aa y0 (x6 cp dI dH) bG fun _ bH=>I y0 (U .add af false true br (.int .i64 1)) bH fun dJ=>cW dJ bH))) (@aB dF (fun bI=>I y0 (x1 aF f) bI fun dK=>aa y0 (x6 aF t4 dK) bI fun _ bJ=>I y0 (do loadVar aF (←asAddr t4)) bJ fun dL=>ac dL bJ) fun bK=>Split aZ (aS aP fun ax=>I y0 (aj V) ax fun aU=>I y0 (x2 aN aU 8) ax fun aV=>I y0 (x1 bY aV) ax fun bL=>I y0 (x1 aF f) ax fun dM=>aa y0 (u9 bY 1 #[(0,dM)]) ax fun dN az=>(Ext ax az∨ai y0 (x1 bY aV) bL az∧ai y0 (x2 aN aU 8) aV az∧ai y0 (aj V) aU az∧True)∧aa y0 (r8 #[bY,bY] bY #[bL,dN]) az fun dO aW=>I y0 (aj V) aW fun dP=>I y0 (x2 aN dP 8) aW fun dQ=>aa y0 (x6 bY dQ dO) aW fun _ dR=>bK dR) (bK aP))) fun bM=>I y0 (U .lss af false false br aq) am fun dS=>Split dS (I y0 (aj V) am fun dT=>I y0 (x2 aN dT 3) am fun dU=>I y0 (x1 J dU) am fun dV=>I y0 (U .eql J false true dV (.int .i64 0)) am fun dW=>bM dW am) (bM (.bool false) am)) fun bN=>I y0 (U .lss af false true aq (.int .i64 0)) W fun dX=>Split dX (@aB aT (fun dY Y=>Split dY (O y0 fA [V,(.int .i64 4),bp] Y fun _ bO=>I y0 (x1 aF f) bO fun dZ=>aa y0 (x6 aF t4 dZ) bO fun _ bP=>I y0 (do loadVar aF (←asAddr t4)) bP fun ea=>ac ea bP) (I y0 (aj V) Y fun eb=>I y0 (x2 aN eb 8) Y fun ec=>I y0 (x1 bY ec) Y fun ed=>I y0 (Z4 .neg aq) Y fun ee=>I y0 (U .sub af false true ee (.int .i64 1)) Y fun ef=>I y0 (x7 bY ed ef) Y fun eg=>I y0 (x2 aF eg 3) Y fun eh=>I y0 (x1 cp eh) Y fun ei=>I y0 (x2 aF f 3) Y fun ej=>aa y0 (x6 cp ej ei) Y fun _ ek=>bN ek)) fun bQ=>aS W fun E=>I y0 (Z4 .neg aq) E fun em=>I y0 (aj V) E fun eo=>I y0 (x2 aN eo 8) E fun ep=>I y0 (x1 bY ep) E fun er=>I y0 (u6 #[bY] J #[er]) E fun es=>I y0 (U .gtr af false false em es) E fun et=>Split et (bQ (.bool true) E) (I y0 (aj V) E fun eu=>I y0 (x2 aN eu 8) E fun ev=>I y0 (x1 bY ev) E fun ew=>I y0 (Z4 .neg aq) E fun ey=>I y0 (U .sub af false true ey (.int .i64 1)) E fun ez=>I y0 (x7 bY ew ez) E fun eA=>I y0 (x2 aF eA 1) E fun eB=>I y0 (x1 ae eB) E fun eC=>I y0 (x2 aF f 1) E fun eD=>I y0 (x1 ae eD) E fun eE=>O y0 iF [eC,eE] E fun eF bR=>I y0 (Z4 .not eF) bR fun eG=>bQ eG bR)) (I y0 (aj V) W fun eH=>I y0 (x2 aN eH 7) W fun eI=>I y0 (x1 af eI) W fun eJ=>I y0 (U .add af false false eJ aq) W fun eK=>I y0 (aj V) W fun eL=>I y0 (x2 aN eL 7) W fun eM=>aa y0 (x6 af eM eK) W fun _ ah=>@aB dF (fun aA=>I y0 (aj V) aA fun eN=>I y0 (x2 aN eN 7) aA fun eO=>I y0 (x1 af eO) aA fun eP=>I y0 (U .gtr af false true eP (.int .i64 16384)) aA fun eQ=>O y0 fW [V,eQ,bp] aA fun _ eR=>bN eR) fun bS=>I y0 (aj V) ah fun eS=>I y0 (x2 aN eS 7) ah fun eT=>I y0 (x1 af eT) ah fun eU=>I y0 (U .gtr af false true eU (.int .i64 4611686018427387904)) ah fun eV=>Split eV (I y0 (aj V) ah fun eW=>I y0 (x2 aN eW 7) ah fun eX=>aa y0 (x6 af eX (.int .i64 4611686018427387904)) ah fun _ eY=>bS eY) (bS ah)))) fun bT=>I y0 (U .gtr af false true a1 (.int .i64 6)) ad fun eZ=>Split eZ (O y0 fW [V,(.bool true),aY] ad fun _ e0=>bT e0) (I y0 (U .gtr af false true bh (.int .i64 4096)) ad fun e1=>O y0 fW [V,e1,aY] ad fun _ e2=>bT e2)))) fun bU=>I y0 (U .lss af false false i a1) ak fun e3=>Split e3 (I y0 (aj V) ak fun e4=>I y0 (x2 aN e4 3) ak fun e5=>I y0 (x1 J e5) ak fun t45=>I y0 (U .eql J false true t45 (.int .i64 0)) ak fun t46=>bU t46 ak) (bU (.bool false) ak)) fun bV=>Split aZ (I y0 (Z4 .neg aJ) ao fun e6=>bV e6 ao) (bV aJ ao)):O y0 mo [V,an] Z ac:=aD Tryz.func160 rfl (by kernel_rfl) (by kernel_rfl) h
theorem fA.enter (h:I y0 (aj V) Z fun W=>I y0 (x2 aN W 3) Z fun X=>I y0 (x1 J X) Z fun t9=>I y0 (U .eql J false true t9 (.int .i64 0)) Z fun Y=>Split Y (I y0 (aj V) Z fun ab=>I y0 (x2 aN ab 3) Z fun ad=>aa y0 (x6 J ad an) Z fun _ E=>I y0 (aj V) E fun ae=>I y0 (x2 aN ae 4) E fun af=>aa y0 (x6 J af bb) E fun _ ag=>ac (.tuple #[]) ag) (ac (.tuple #[]) Z)):O y0 fA [V,an,bb] Z ac:=aD Tryz.func161 rfl (by kernel_rfl) (by kernel_rfl) h
theorem om.enter (h:O y0 oD [V] Z fun aH ad=>I y0 (U .neq bJ false true aH (.int .i64 0)) ad fun aW=>Split aW (ac (.tuple #[(.pointer none),aH]) ad) (I y0 (aj V) ad fun aX=>I y0 (x2 bg aX 3) ad fun t22=>I y0 (x1 bO t22) ad fun aI=>I y0 (u6 #[bO] J #[aI]) ad fun aY=>ba (.slice none 0 0) (.int .i64 0) ad fun l t25 ah k=>I y0 (U .lss J false false t25 aY) ah fun aZ=>Split aZ (@aB aT (fun a2 aJ=>I y0 (U .add J false true t25 (.int .i64 1)) aJ fun a6=>k a2 a6 aJ) fun aK=>I y0 (x7 bO aI t25) ah fun a7=>I y0 (x1 bj a7) ah fun a8=>aa y0 (n0 bj true (.tuple #[])) ah fun x bb=>aa y0 (x6 bj x a8) bb fun _ aL=>I y0 (x1 bj x) aL fun bc=>O y0 oE [bc] aL fun aM au=>I y0 (x8 aM 0) au fun be=>I y0 (x8 aM 1) au fun aN=>aa y0 (n0 ab true (.tuple #[])) au fun scope bf=>aa y0 (x6 ab scope be) bf fun _ aO=>I y0 (Instr.makeFunc (.func mC) #[] #[scope]) aO fun bh=>O y0 kl [l,bh] aO fun av ak=>I y0 (U .lss J false true av (.int .i64 0)) ak fun bi=>Split bi (I y0 (x1 ab scope) ak fun bk=>I y0 (Z3 bE #[(0,bk),(1,aN)]) ak fun bl=>aa y0 (u9 cY 1 #[(0,bl)]) ak fun bm bn=>aa y0 (r8 #[cY,cY] cY #[l,bm]) bn fun bo bp=>aK bo bp) (aS ak fun ae=>I y0 (x7 cY l av) ae fun t50=>I y0 (x2 bE t50 1) ae fun bq=>I y0 (x1 bB bq) ae fun br=>I y0 (x1 ab scope) ae fun t53=>I y0 (x1 ab scope) ae fun t55=>O y0 mD [br,t53,aN,t55] ae fun aw ag=>I y0 (x8 aw 0) ag fun bt=>I y0 (x8 aw 1) ag fun _=>I y0 (x8 aw 2) ag fun _=>I y0 (x7 cY l av) ag fun bu=>I y0 (x2 bE bu 1) ag fun bw=>aa y0 (x6 bB bw bt) ag fun _ bx=>aK l bx)) (O y0 oG [l,(.func (.func jx) #[] #[])] ah fun ax bz=>O y0 vc [ax,(.func (.func mE) #[] #[])] bz fun _ bA=>aS bA fun E=>I y0 (aj V) E fun ay=>I y0 (x2 bg ay 0) E fun t70=>I y0 (x1 a1 t70) E fun aP=>I y0 (aj V) E fun az=>I y0 (x2 bg az 1) E fun aA=>I y0 (x1 af aA) E fun aQ=>I y0 (aj V) E fun t77=>I y0 (x2 bg t77 2) E fun bC=>I y0 (x1 ab bC) E fun bD=>O y0 gq [bD] E fun bF X=>(Ext E X∨ai y0 (x1 af aA) aQ X∧ai y0 (x2 bg az 1) aA X∧ai y0 (aj V) az X∧ai y0 (x1 a1 t70) aP X∧ai y0 (x2 bg ay 0) t70 X∧ai y0 (aj V) ay X∧True)∧I y0 (Z3 bg #[(0,aP),(1,aQ),(2,bF)]) X fun bG=>aa y0 (Z5 bg bG) X fun al aR=>I y0 (u6 #[cY] J #[ax]) aR fun bH=>bd (.int .i64 0) aR fun aC am bI=>I y0 (U .lss J false false aC bH) am fun bK=>Split bK (I y0 (x7 cY ax aC) am fun bL=>I y0 (x1 bE bL) am fun bM=>aa y0 (n0 bE true (.tuple #[])) am fun y bN=>aa y0 (x6 bE y bM) bN fun _ bP=>aS bP fun W=>I y0 (aj al) W fun ao=>I y0 (x2 bg ao 3) W fun ap=>I y0 (x1 bO ap) W fun aE=>I y0 (x2 bE y 0) W fun aF=>I y0 (x1 ab aF) W fun aU=>I y0 (x2 bE y 1) W fun bQ=>I y0 (x1 bB bQ) W fun bR=>O y0 mF [bR] W fun bS Y=>(Ext W Y∨ai y0 (x1 ab aF) aU Y∧ai y0 (x2 bE y 0) aF Y∧ai y0 (x1 bO ap) aE Y∧ai y0 (x2 bg ao 3) ap Y∧ai y0 (aj al) ao Y∧True)∧I y0 (Z3 bj #[(0,aU),(1,bS)]) Y fun bT=>aa y0 (u9 bO 1 #[(0,bT)]) Y fun bU aq=>(Ext W aq∨ai y0 (x1 bO ap) aE aq∧ai y0 (x2 bg ao 3) ap aq∧ai y0 (aj al) ao aq∧True)∧aa y0 (r8 #[bO,bO] bO #[aE,bU]) aq fun bV aG=>I y0 (aj al) aG fun bW=>I y0 (x2 bg bW 3) aG fun bX=>aa y0 (x6 bO bX bV) aG fun _ aV=>I y0 (U .add J false true aC (.int .i64 1)) aV fun bY=>bI bY aV) (ac (.tuple #[al,(.int .i64 0)]) am)))):O y0 om [V] Z ac:=aD Tryz.func162 rfl (by kernel_rfl) (by kernel_rfl) h
theorem mq.enter (h:I y0 (U .eql b6 false true V (.pointer none)) Z fun t9=>Split t9 (ac (.tuple #[(.pointer none),(.int .i64 2)]) Z) (aS Z fun E=>I y0 (aj V) E fun al=>I y0 (x2 cL al 0) E fun am=>I y0 (x1 ab am) E fun ao=>I y0 (aj V) E fun ap=>I y0 (x2 cL ap 1) E fun aq=>I y0 (x1 af aq) E fun au=>I y0 (aj V) E fun av=>I y0 (x2 cL av 2) E fun aw=>I y0 (x1 af aw) E fun t22=>O y0 k0 [ao,au,t22] E fun ae W=>I y0 (x8 ae 0) W fun ag=>I y0 (x8 ae 1) W fun t25=>I y0 (U .neq bJ false true t25 (.int .i64 0)) W fun ax=>Split ax (ac (.tuple #[(.pointer none),t25]) W) (O y0 oI [V] W fun ah ai=>I y0 (u6 #[ho] J #[ah]) ai fun ay=>bd (.int .i64 0) ai fun ad X k=>I y0 (U .lss J false false ad ay) X fun az=>Split az (I y0 (x7 ho ah ad) X fun aA=>I y0 (x1 dp aA) X fun aB=>aa y0 (n0 dp true (.tuple #[])) X fun l aC=>aa y0 (x6 dp l aB) aC fun _ Y=>I y0 (x2 dp l 0) Y fun aE=>I y0 (x1 ab aE) Y fun aF=>I y0 (x2 dp l 1) Y fun t39=>I y0 (x1 af t39) Y fun aG=>O y0 ob [ag,aF,aG] Y fun _ ak=>I y0 (U .add J false true ad (.int .i64 1)) ak fun aH=>k aH ak) (ac (.tuple #[ag,(.int .i64 0)]) X)))):O y0 mq [V] Z ac:=aD Tryz.func163 rfl (by kernel_rfl) (by kernel_rfl) h
theorem hj.enter (h:I y0 (U .eql bB false true V (.pointer none)) Z fun t4=>Split t4 (ac (.slice none 0 0) Z) (I y0 (aj V) Z fun E=>I y0 (x2 bq E 2) Z fun J=>I y0 (x1 ae J) Z fun W=>O y0 kk [W] Z fun t9 X=>ac t9 X)):O y0 hj [V] Z ac:=aD Tryz.func164 rfl (by kernel_rfl) (by kernel_rfl) h
theorem oo.enter (h:I y0 (aj V) Z fun bj=>I y0 (x2 b3 bj 3) Z fun bk=>I y0 (x1 bY bk) Z fun aO=>I y0 (u6 #[bY] J #[aO]) Z fun t22=>ba (.slice none 0 0) (.int .i64 0) Z fun l aH ah k=>I y0 (U .lss J false false aH t22) ah fun bl=>Split bl (@aB aT (fun bm aP=>I y0 (U .add J false true aH (.int .i64 1)) aP fun bn=>k bm bn aP) fun aQ=>I y0 (x7 bY aO aH) ah fun t25=>I y0 (x1 aF t25) ah fun bp=>aa y0 (n0 aF true (.tuple #[])) ah fun x bq=>aa y0 (x6 aF x bp) bq fun _ br=>@aB aT (fun g aR=>I y0 (u6 #[bo] J #[l]) aR fun bt=>ba (.bool false) (.int .i64 0) aR fun aU t39 ak bu=>I y0 (U .lss J false false t39 bt) ak fun bw=>Split bw (@aB aT (fun bx aV=>I y0 (U .add J false true t39 (.int .i64 1)) aV fun bz=>bu bx bz aV) fun aW=>aS ak fun al=>I y0 (x7 bo l t39) al fun bA=>I y0 (x2 aE bA 0) al fun t45=>I y0 (x1 ab t45) al fun t46=>I y0 (x2 aE g 0) al fun bB=>I y0 (x1 ab bB) al fun bC=>O y0 od [t46,bC] al fun bD am=>Split bD (I y0 (x2 aE g 2) am fun t50=>I y0 (x1 ae t50) am fun bE=>I y0 (u6 #[ae] J #[bE]) am fun bF=>bd (.int .i64 0) am fun t53 aI bG=>I y0 (U .lss J false false t53 bF) aI fun bH=>Split bH (aS aI fun E=>I y0 (x7 bo l t39) E fun aX=>I y0 (x2 aE aX 2) E fun aJ=>I y0 (x1 ae aJ) E fun aY=>I y0 (x7 bo l t39) E fun bI=>I y0 (x2 aE bI 2) E fun bJ=>I y0 (x1 ae bJ) E fun t66=>I y0 (x7 ae t66 t53) E fun bK=>I y0 (x1 af bK) E fun bL=>I y0 (x2 aE g 2) E fun t70=>I y0 (x1 ae t70) E fun bM=>I y0 (x7 ae bM t53) E fun bN=>I y0 (x1 af bN) E fun bO=>I y0 (aj V) E fun t76=>I y0 (x2 b3 t76 1) E fun t77=>I y0 (x1 af t77) E fun bP=>O y0 oa [bL,bO,bP] E fun bQ ao=>(Ext E ao∨ai y0 (x1 ae aJ) aY ao∧ai y0 (x2 aE aX 2) aJ ao∧True)∧I y0 (x7 ae aY t53) ao fun bR=>aa y0 (x6 af bR bQ) ao fun _ aZ=>I y0 (U .add J false true t53 (.int .i64 1)) aZ fun bS=>bG bS aZ) (aW (.bool true) aI)) (aW aU am)) (I y0 (Z4 .not aU) ak fun bT=>Split bT (I y0 (x1 aE g) ak fun bU=>aa y0 (u9 bo 1 #[(0,bU)]) ak fun bV bW=>aa y0 (r8 #[bo,bo] bo #[l,bV]) bW fun bX bZ=>aQ bX bZ) (aQ l ak))) fun a1=>aS br fun W=>I y0 (x1 aF x) W fun ax=>I y0 (aj V) W fun ap=>I y0 (x2 b3 ap 2) W fun aq=>I y0 (x1 ae aq) W fun ay=>I y0 (aj V) W fun au=>I y0 (x2 b3 au 1) W fun av=>I y0 (x1 af av) W fun az=>(O y0 mG [ax,ay,az] W fun b1 b2=>aa y0 (n0 aE true (.tuple #[])) b2 fun a2 X=>(Ext W X∨ai y0 (x1 af av) az X∧ai y0 (x2 b3 au 1) av X∧ai y0 (aj V) au X∧ai y0 (x1 ae aq) ay X∧ai y0 (x2 b3 ap 2) aq X∧ai y0 (aj V) ap X∧ai y0 (x1 aF x) ax X∧True)∧aa y0 (x6 aE a2 b1) X fun _ b4=>a1 a2 b4)∧(aa y0 (n0 aE true (.tuple #[])) W fun a6 Y=>(Ext W Y∨ai y0 (x1 af av) az Y∧ai y0 (x2 b3 au 1) av Y∧ai y0 (aj V) au Y∧ai y0 (x1 ae aq) ay Y∧ai y0 (x2 b3 ap 2) aq Y∧ai y0 (aj V) ap Y∧ai y0 (x1 aF x) ax Y∧True)∧O y0 mG [ax,ay,az] Y fun b5 b6=>aa y0 (x6 aE a6 b5) b6 fun _ b7=>a1 a6 b7)) (I y0 (u6 #[bo] J #[l]) ah fun b8=>ba (.slice none 0 0) (.int .i64 0) ah fun out aK aw b9=>I y0 (U .lss J false false aK b8) aw fun ca=>Split ca (@aB aT (fun cb a7=>I y0 (U .add J false true aK (.int .i64 1)) a7 fun cc=>b9 cb cc a7) fun a8=>I y0 (x7 bo l aK) aw fun cd=>I y0 (x1 aE cd) aw fun ce=>aa y0 (n0 aE true (.tuple #[])) aw fun aA cg=>aa y0 (x6 aE aA ce) cg fun _ aC=>I y0 (x2 aE aA 2) aC fun ch=>I y0 (x1 ae ch) aC fun bb=>I y0 (u6 #[ae] J #[bb]) aC fun ci=>ba (.bool false) (.int .i64 0) aC fun bc aL ad cj=>I y0 (U .lss J false false aL ci) ad fun ck=>Split ck (@aB aT (fun cl be=>I y0 (U .add J false true aL (.int .i64 1)) be fun cm=>cj cl cm be) fun bf=>I y0 (x7 ae bb aL) ad fun cn=>I y0 (x1 af cn) ad fun cp=>Split bc (bf (.bool true) ad) (I y0 (U .gtr af false true cp (.int .i64 0)) ad fun cq=>bf cq ad)) (I y0 (Z4 .not bc) ad fun cr=>Split cr (a8 out ad) (bd (.int .i64 0) ad fun i ct cu=>@aB aT (fun cw aM=>Split cw (I y0 (U .add J false true i (.int .i64 1)) aM fun cz=>cu cz aM) (aS aM fun aG=>I y0 (x1 aE aA) aG fun cA=>I y0 (j4 bo out (some i) none none) aG fun bg=>aa y0 (u9 bo 1 #[(0,cA)]) aG fun cB aN=>(Ext aG aN∨ai y0 (j4 bo out (some i) none none) bg aN∧True)∧aa y0 (r8 #[bo,bo] bo #[cB,bg]) aN fun cC cD=>aa y0 (u9 bo 0 #[]) cD fun cE bh=>I y0 (j4 bo out none (some i) none) bh fun cF=>aa y0 (r8 #[bo,bo] bo #[cE,cF]) bh fun cG cH=>aa y0 (r8 #[bo,bo] bo #[cG,cC]) cH fun cI cJ=>a8 cI cJ)) fun bi=>aS ct fun ag=>I y0 (u6 #[bo] J #[out]) ag fun cK=>I y0 (U .lss J false false i cK) ag fun cL=>Split cL (I y0 (x7 bo out i) ag fun cM=>I y0 (x1 aE cM) ag fun cN=>I y0 (x1 aE aA) ag fun cO=>O y0 mH [cN,cO] ag fun cP cQ=>bi cP cQ) (bi (.bool false) ag)))) (ac out aw))):O y0 oo [V] Z ac:=aD Tryz.func165 rfl (by kernel_rfl) (by kernel_rfl) h
theorem mr.enter (h:@aB aT (fun t4 X=>ac t4 X) fun E=>I y0 (U .geq J false true an (.int .i64 0)) Z fun Y=>Split Y (O y0 mI [V] Z fun aa W=>I y0 (U .lss J false false an aa) W fun ab=>E ab W) (E (.bool false) Z)):O y0 mr [V,an] Z ac:=aD Tryz.func166 rfl (by kernel_rfl) (by kernel_rfl) h
theorem hU.enter (h:@aB aT (fun t4 W=>ac t4 W) fun J=>O y0 mJ [an] Z fun X E=>Split X (I y0 (U .geq af false true V (.int .i64 0)) E fun t9=>Split t9 (I y0 (U .leq af false false V an) E fun Y=>J Y E) (J (.bool false) E)) (J (.bool false) E)):O y0 hU [V,an] Z ac:=aD Tryz.func167 rfl (by kernel_rfl) (by kernel_rfl) h
theorem kj.enter (h:I y0 (u6 #[ab] J #[V]) Z fun Y=>ba (.int .i64 0) (.int .i64 0) Z fun t4 W E k=>I y0 (U .lss J false false W Y) E fun t9=>Split t9 (I y0 (x7 ab V W) E fun aa=>I y0 (x1 J aa) E fun ad=>hJ y0 false an [ad] E fun ae X=>Split ae (ac W X) (I y0 (U .add J false true W (.int .i64 1)) X fun af=>k t4 af X)) (ac (.int .i64 (-1)) E)):O y0 kj [V,an] Z ac:=aD Tryz.func170 rfl (by kernel_rfl) (by kernel_rfl) h
theorem oq.enter (h:aa y0 (n0 aK true (.tuple #[])) Z fun E X=>@aB aT (fun aj Y=>Split aj (I y0 (Z3 aK #[]) Y fun ak=>aa y0 (x6 aK E ak) Y fun _ ad=>I y0 (do loadVar aK (←asAddr E)) ad fun r=>ac (.tuple #[r,(.int .i64 1)]) ad) (O y0 gq [V] Y fun al ae=>I y0 (Z3 aK #[(0,al)]) ae fun am=>aa y0 (n0 aK true (.tuple #[])) ae fun s ao=>aa y0 (x6 aK s am) ao fun _ af=>I y0 (x1 aK s) af fun ap=>O y0 iE [ap] af fun aq W=>I y0 (U .gtr J false true aq (.int .i64 4096)) W fun au=>Split au (I y0 (Z3 aK #[]) W fun av=>aa y0 (x6 aK E av) W fun _ ag=>I y0 (do loadVar aK (←asAddr E)) ag fun aw=>ac (.tuple #[aw,(.int .i64 5)]) ag) (I y0 (x1 aK s) W fun t22=>aa y0 (x6 aK E t22) W fun _ ah=>I y0 (do loadVar aK (←asAddr E)) ah fun ax=>ac (.tuple #[ax,(.int .i64 0)]) ah))) fun ai=>I y0 (u6 #[ab] J #[V]) X fun ay=>I y0 (U .gtr J false true ay (.int .i64 6)) X fun az=>Split az (ai (.bool true) X) (O y0 hV [V,(.func (.func km) #[] #[])] X fun aA aC=>ai aA aC)):O y0 oq [V] Z ac:=aD Tryz.func171 rfl (by kernel_rfl) (by kernel_rfl) h
theorem mu.enter (h:@aB dF (fun X=>I y0 (u6 #[ae] J #[V]) X fun al=>I y0 (convert J hn al) X fun am=>I y0 (convert J hn an) X fun ao=>O y0 oJ [am,ao] X fun ad E=>I y0 (x8 ad 0) E fun ap=>I y0 (x8 ad 1) E fun af=>@aB dF (fun ag=>I y0 (convert hn J af) ag fun ah=>aa y0 (U7 ae ah ah) ag fun W aq=>aa y0 (u7.copy_ #[ae,ae] J #[W,V]) aq fun au av=>bd au av fun n Y k=>I y0 (u6 #[ae] J #[W]) Y fun aw=>I y0 (U .lss J false false n aw) Y fun ax=>Split ax (aS Y fun ab=>I y0 (j4 ae W (some n) none none) ab fun ay=>I y0 (j4 ae W none (some n) none) ab fun az=>aa y0 (u7.copy_ #[ae,ae] J #[ay,az]) ab fun t45 ai=>I y0 (U .add J false false n t45) ai fun t46=>k t46 ai) (ac W Y)) fun aA=>@aB aT (fun aC aj=>Split aC (I y0 (Instr.makeInterface a1 (.string ⟨#[116,104,101,32,114,101,115,117,108,116,32,111,102,32,40,108,101,110,40,120,41,32,42,32,99,111,117,110,116,41,32,111,118,101,114,102,108,111,119,115]⟩)) aj fun _=>False) (aA aj)) fun ak=>I y0 (U .gtr hn false true ap (.int .u64 0)) E fun t22=>Split t22 (ak (.bool true) E) (I y0 (U .gtr hn false true af (.int .u64 9223372036854775807)) E fun t25=>ak t25 E)) fun aE=>I y0 (U .lss J false true an (.int .i64 0)) Z fun aF=>Split aF (I y0 (Instr.makeInterface a1 (.string ⟨#[99,97,110,110,111,116,32,98,101,32,110,101,103,97,116,105,118,101]⟩)) Z fun _=>False) (aE Z)):O y0 mu [V,an] Z ac:=aD Tryz.func172 rfl (by kernel_rfl) (by kernel_rfl) h
theorem iE.enter (h:aa y0 (Z5 aK V) Z fun Y W=>I y0 (x2 aK Y 0) W fun ad=>I y0 (x1 ab ad) W fun X=>I y0 (u6 #[ab] J #[X]) W fun ae=>ba (.int .i64 1) (.int .i64 0) W fun n t9 E k=>I y0 (U .lss J false false t9 ae) E fun af=>Split af (I y0 (x7 ab X t9) E fun ag=>I y0 (x1 J ag) E fun ah=>I y0 (U .mul J false false n ah) E fun ai=>I y0 (U .add J false true t9 (.int .i64 1)) E fun aj=>k ai aj E) (ac n E)):O y0 iE [V] Z ac:=aD Tryz.func173 rfl (by kernel_rfl) (by kernel_rfl) h
theorem mv.enter (h:I y0 (U .eql bB false true V (.pointer none)) Z fun W=>Split W (ac (.tuple #[(.int .i64 0),(.int .i64 2)]) Z) (I y0 (aj V) Z fun t9=>I y0 (x2 bq t9 0) Z fun X=>I y0 (x1 aK X) Z fun Y=>O y0 my [Y,an] Z fun J E=>I y0 (x8 J 0) E fun aa=>I y0 (x8 J 1) E fun ab=>ac (.tuple #[aa,ab]) E)):O y0 mv [V,an] Z ac:=aD Tryz.func174 rfl (by kernel_rfl) (by kernel_rfl) h
theorem ot.enter (h:O y0 k7 [V] Z fun E I=>ac E I):O y0 ot [V] Z ac:=aD Tryz.func181 rfl (by kernel_rfl) (by kernel_rfl) h
theorem cmp_isNaN_int.enter (h:I y0 (U .neq J false false V V) Z fun t5=>ac t5 Z):O y0 cmp_isNaN_int [V] Z ac:=aD Tryz.func182 rfl (by kernel_rfl) (by kernel_rfl) h
theorem mw.enter (h:aa y0 (Z5 ab V) Z fun E W=>sJ y0 an W (fun X Y k=>Over Y fun J=>I y0 (x1 ab E) J fun ad=>aa y0 (u9 ab 1 #[(0,X)]) J fun ae af=>aa y0 (r8 #[ab,ab] ab #[ad,ae]) af fun ag ah=>aa y0 (x6 ab E ag) ah fun _ ai=>k .normal ai) (fun U=>I y0 (x1 ab E) U fun aj=>fy U fun ak=>ac aj ak) (fun _=>False) []):O y0 mw [V,an] Z ac:=O.enter (P:=y0) mixed (show y0.funcs[mw]? =some Tryz.f183 from Tryz.func183) rfl (by kernel_rfl) (by kernel_rfl) (by kernel_rfl) (Eq.mp (by kernel_rfl) h)
theorem gr.enter (h:I y0 (x1 aK an) Z fun aa=>ey y0 iE [aa] Z fun ab ad=>bd (.int .i64 0) ad fun E O k=>I y0 (U .lss J false false E ab) O fun t9=>Split t9 (I y0 (x1 aK an) O fun ae=>ey y0 ou [ae,E] O fun Y X=>I y0 (x8 Y 0) X fun af=>I y0 (x8 Y 1) X fun _=>hJ y0 true V [E,af] X fun ag W=>I y0 (Z4 .not ag) W fun ah=>Split ah (ac (.tuple #[]) W) (I y0 (U .add J false true E (.int .i64 1)) W fun t22=>k t22 W)) (ac (.tuple #[]) O)):ey y0 gr [V,an] Z ac:=ey.enter (P:=y0) mixed (show y0.funcs[gr]? =some Tryz.f187 from Tryz.func187) rfl (by kernel_rfl) (by kernel_rfl) (by kernel_rfl) (Eq.mp (by kernel_rfl) h)
theorem ou.enter (h:aa y0 (Z5 aK V) Z fun Y ad=>@aB aT (fun al W=>Split al (ac (.tuple #[(.slice none 0 0),(.int .i64 3)]) W) (I y0 (x2 aK Y 0) W fun am=>I y0 (x1 ab am) W fun ao=>I y0 (u6 #[ab] J #[ao]) W fun ag=>aa y0 (U7 ab ag ag) W fun af ah=>I y0 (u6 #[ab] J #[af]) ah fun t22=>bd (.int .i64 0) ah fun X ae k=>I y0 (U .lss J false false X t22) ae fun ap=>Split ap (I y0 (x1 aK Y) ae fun aq=>O y0 oK [aq,X] ae fun au av=>aS av fun E=>I y0 (U .quo J false false an au) E fun aw=>I y0 (x2 aK Y 0) E fun ax=>I y0 (x1 ab ax) E fun ay=>I y0 (x7 ab ay X) E fun az=>I y0 (x1 J az) E fun aA=>I y0 (U .rem J false false aw aA) E fun t39=>I y0 (x7 ab af X) E fun aC=>aa y0 (x6 J aC t39) E fun _ ai=>I y0 (U .add J false true X (.int .i64 1)) ai fun aE=>k aE ai) (ac (.tuple #[af,(.int .i64 0)]) ae))) fun aj=>I y0 (U .lss J false true an (.int .i64 0)) ad fun aF=>Split aF (aj (.bool true) ad) (I y0 (x1 aK Y) ad fun aG=>O y0 iE [aG] ad fun aH ak=>I y0 (U .geq J false false an aH) ak fun aI=>aj aI ak)):O y0 ou [V,an] Z ac:=aD Tryz.func188 rfl (by kernel_rfl) (by kernel_rfl) h
theorem kk.enter (h:I y0 (U .eql ae false true V (.slice none 0 0)) Z fun t4=>Split t4 (ac (.slice none 0 0) Z) (aa y0 (u9 ae 0 #[]) Z fun t5 E=>aa y0 (r8 #[ae,ae] ae #[t5,V]) E fun J W=>ac J W)):O y0 kk [V] Z ac:=aD Tryz.func191 rfl (by kernel_rfl) (by kernel_rfl) h
theorem ov.enter (h:O y0 mI [V] Z fun ad W=>@aB dF (fun ae=>ac ad ae) fun Y=>@aB aT (fun af E=>Split af (I y0 (aj V) E fun ag=>I y0 (x2 cX ag 0) E fun ah=>I y0 (x1 dn ah) E fun ai=>aa y0 (r8 #[dn,J] dn #[ai,an]) E fun ak X=>I y0 (aj V) X fun al=>I y0 (x2 cX al 0) X fun t22=>aa y0 (x6 dn t22 ak) X fun _ am=>Y am) (Y E)) fun ab=>I y0 (U .neq dm false true V (.pointer none)) W fun t9=>Split t9 (I y0 (U .gtr J false true an (.int .i64 0)) W fun ao=>ab ao W) (ab (.bool false) W)):O y0 ov [V,an] Z ac:=aD Tryz.func192 rfl (by kernel_rfl) (by kernel_rfl) h
theorem ow.enter (h:I y0 (U .eql bB false true V (.pointer none)) Z fun t4=>Split t4 (ac (.pointer none) Z) (aS Z fun E=>I y0 (aj V) E fun W=>I y0 (x2 bq W 0) E fun X=>I y0 (x1 aK X) E fun ad=>I y0 (aj V) E fun Y=>I y0 (x2 bq Y 1) E fun ab=>I y0 (x1 af ab) E fun ag=>I y0 (aj V) E fun ah=>I y0 (x2 bq ah 2) E fun ak=>I y0 (x1 ae ak) E fun al=>O y0 kk [al] E fun am J=>(Ext E J∨ai y0 (x1 af ab) ag J∧ai y0 (x2 bq Y 1) ab J∧ai y0 (aj V) Y J∧ai y0 (x1 aK X) ad J∧ai y0 (x2 bq W 0) X J∧ai y0 (aj V) W J∧True)∧I y0 (Z3 bq #[(0,ad),(1,ag),(2,am)]) J fun ao=>aa y0 (Z5 bq ao) J fun ap aq=>ac ap aq)):O y0 ow [V] Z ac:=aD Tryz.func193 rfl (by kernel_rfl) (by kernel_rfl) h
theorem my.enter (h:aa y0 (Z5 aK V) Z fun ad X=>I y0 (u6 #[ab] J #[an]) X fun ag=>I y0 (x2 aK ad 0) X fun ah=>I y0 (x1 ab ah) X fun ai=>I y0 (u6 #[ab] J #[ai]) X fun aj=>I y0 (U .neq J false false ag aj) X fun ak=>Split ak (ac (.tuple #[(.int .i64 0),(.int .i64 3)]) X) (I y0 (u6 #[ab] J #[an]) X fun al=>l4 (.int .i64 0) (.int .i64 0) (.int .i64 0) (.int .i64 0) X fun t4 t5 n Y E k=>I y0 (U .lss J false false Y al) E fun am=>Split am (I y0 (x7 ab an Y) E fun ao=>I y0 (x1 J ao) E fun ae=>@aB aT (fun ap W=>Split ap (ac (.tuple #[(.int .i64 0),(.int .i64 3)]) W) (I y0 (x2 aK ad 0) W fun aq=>I y0 (x1 ab aq) W fun au=>I y0 (x7 ab au Y) W fun av=>I y0 (x1 J av) W fun aw=>I y0 (U .mul J false false n aw) W fun t39=>I y0 (U .add J false false t39 ae) W fun ax=>I y0 (U .add J false true Y (.int .i64 1)) W fun ay=>k t4 t5 ax ay W)) fun af=>I y0 (U .lss J false true ae (.int .i64 0)) E fun az=>Split az (af (.bool true) E) (I y0 (x2 aK ad 0) E fun aA=>I y0 (x1 ab aA) E fun aC=>I y0 (x7 ab aC Y) E fun aE=>I y0 (x1 J aE) E fun aF=>I y0 (U .geq J false false ae aF) E fun aG=>af aG E)) (ac (.tuple #[n,(.int .i64 0)]) E))):O y0 my [V,an] Z ac:=aD Tryz.func194 rfl (by kernel_rfl) (by kernel_rfl) h
theorem hV.enter (h:O y0 kj [V,an] Z fun W E=>I y0 (U .geq J false true W (.int .i64 0)) E fun X=>ac X E):O y0 hV [V,an] Z ac:=aD Tryz.func196 rfl (by kernel_rfl) (by kernel_rfl) h
theorem ox.enter (h:I y0 (U .eql aX false true V (.slice none 0 0)) Z fun t4=>Split t4 (ac (.slice none 0 0) Z) (aa y0 (u9 aX 0 #[]) Z fun t5 E=>aa y0 (r8 #[aX,aX] aX #[t5,V]) E fun J W=>ac J W)):O y0 ox [V] Z ac:=aD Tryz.func197 rfl (by kernel_rfl) (by kernel_rfl) h
theorem oy.enter (h:aB (α:=x4→x4→x5→Prop) (fun(ad au:x4) (X:x5)=>I y0 (U .eql a1 false true ad (.string ⟨#[]⟩)) X fun av=>Split av (ac (.tuple #[(.int .i64 0),(.int .i64 4)]) X) (aa y0 (convert a1 aX ad) X fun ae ag=>I y0 (u6 #[aX] J #[ae]) ag fun t22=>l4 (.int .i64 0) (.int .i64 0) (.int .i64 0) (.int .i64 0) ag fun ah t3 n Y W k=>I y0 (U .lss J false false Y t22) W fun aw=>Split aw (aB (α:=x4→x4→x4→x5→Prop) (fun(ax ay az:x4) (ai:x5)=>I y0 (U .add J false true Y (.int .i64 1)) ai fun t45=>k ax ay az t45 ai) fun aj=>I y0 (x7 aX ae Y) W fun t25=>I y0 (x1 bi t25) W fun ab=>@aB aT (fun aA E=>Split aA (ac (.tuple #[(.int .i64 0),(.int .i64 4)]) E) (I y0 (U .sub bi false true ab (.int .u8 48)) E fun aC=>I y0 (convert bi af aC) E fun ak=>I y0 (U .sub af true false (.int .i64 4611686018427387904) ak) E fun aE=>I y0 (U .quo af false true aE (.int .i64 10)) E fun t39=>I y0 (U .gtr af false false n t39) E fun aF=>Split aF (aj ah t3 (.int .i64 4611686018427387904) E) (I y0 (U .mul af true false (.int .i64 10) n) E fun aG=>I y0 (U .add af false false aG ak) E fun aH=>aj ah t3 aH E))) fun al=>I y0 (U .lss bi false true ab (.int .u8 48)) W fun aI=>Split aI (al (.bool true) W) (I y0 (U .gtr bi false true ab (.int .u8 57)) W fun aJ=>al aJ W)) (I y0 (U .mul af false false au n) W fun aK=>ac (.tuple #[aK,(.int .i64 0)]) W))) fun am=>@aB aT (fun aL ao=>Split aL (aS ao fun ap=>I y0 (j4 a1 V (some (.int .i64 1)) none none) ap fun aM=>am aM (.int .i64 (-1)) ap) (am V (.int .i64 1) ao)) fun aq=>I y0 (U .neq a1 false true V (.string ⟨#[]⟩)) Z fun aN=>Split aN (I y0 (Y2 a1 V (.int .i64 0)) Z fun aO=>I y0 (U .eql bi false true aO (.int .u8 45)) Z fun aP=>aq aP Z) (aq (.bool false) Z)):O y0 oy [V] Z ac:=aD Tryz.func198 rfl (by kernel_rfl) (by kernel_rfl) h
theorem k5.enter (h:ba (.slice none 0 0) (.int .i64 0) Z fun out i E k=>@aB aT (fun aj J=>Split aj (I y0 (U .sub af false true bb (.int .i64 1)) J fun ak=>O y0 ez [V,(.int .i64 0),ak] J fun X W=>I y0 (x8 X 0) W fun t25=>I y0 (x8 X 1) W fun al=>@aB dF (fun am=>aa y0 (u9 ae 1 #[(0,t25)]) am fun t39 ao=>aa y0 (r8 #[ae,ae] ae #[out,t39]) ao fun ap Y=>I y0 (U .add af false true i (.int .i64 1)) Y fun aq=>k ap aq Y) fun ab=>@aB aT (fun au ad=>Split au (O y0 fh [V,(.int .i64 4),al] ad fun _ av=>ab av) (ab ad)) fun ag=>O y0 ef [V] W fun aw ah=>Split aw (O y0 oL [out,t25] ah fun ax ay=>ag ax ay) (ag (.bool false) ah)) (ac out J)) fun ai=>I y0 (U .lss af false false i an) E fun az=>Split az (O y0 ef [V] E fun aA aC=>ai aA aC) (ai (.bool false) E)):O y0 k5 [V,an,bb] Z ac:=aD Tryz.func199 rfl (by kernel_rfl) (by kernel_rfl) h
theorem mz.enter (h:I y0 (u6 #[ae] J #[V]) Z fun Y=>jj (.bool false) (.int .i64 1) (.int .i64 0) Z fun aa n W E k=>I y0 (U .lss J false false W Y) E fun t9=>Split t9 (I y0 (x7 ae V W) E fun ab=>I y0 (x1 af ab) E fun ad=>I y0 (T1 #[af,af] af #[ad,(.int .i64 4097)]) E fun ag=>I y0 (U .mul af false false n ag) E fun X=>I y0 (U .gtr af false true X (.int .i64 4096)) E fun ah=>Split ah (ac (.bool true) E) (I y0 (U .add J false true W (.int .i64 1)) E fun ai=>k aa X ai E)) (ac (.bool false) E)):O y0 mz [V] Z ac:=aD Tryz.func200 rfl (by kernel_rfl) (by kernel_rfl) h
theorem oz.enter (h:O y0 ez [V,(.int .i64 (-4611686018427387904)),(.int .i64 4611686018427387904)] Z fun au ak=>I y0 (x8 au 0) ak fun X=>I y0 (x8 au 1) ak fun t22=>@aB aT (fun aM E=>Split aM (@aB aT (fun aN W=>Split aN (O y0 fh [V,(.int .i64 4),t22] W fun _ aO=>ac (.slice none 0 0) aO) (I y0 (aj V) W fun aP=>I y0 (x2 bn aP 3) W fun aQ=>I y0 (x1 dz aQ) W fun aR=>I y0 (Z4 .neg X) W fun aS=>I y0 (U .sub af false true aS (.int .i64 1)) W fun aU=>I y0 (x7 dz aR aU) W fun aV=>I y0 (x2 fX aV 1) W fun aW=>I y0 (x1 eg aW) W fun aX=>ac aX W)) fun av=>I y0 (Z4 .neg X) E fun aY=>I y0 (aj V) E fun aZ=>I y0 (x2 bn aZ 3) E fun a2=>I y0 (x1 dz a2) E fun a6=>I y0 (u6 #[dz] J #[a6]) E fun a7=>I y0 (U .gtr af false false aY a7) E fun a8=>Split a8 (av (.bool true) E) (I y0 (aj V) E fun t39=>I y0 (x2 bn t39 3) E fun bb=>I y0 (x1 dz bb) E fun bc=>I y0 (Z4 .neg X) E fun bd=>I y0 (U .sub af false true bd (.int .i64 1)) E fun be=>I y0 (x7 dz bc be) E fun t45=>I y0 (x2 fX t45 0) E fun t46=>I y0 (x1 ae t46) E fun bf=>O y0 md [bf,an] E fun bg aw=>I y0 (Z4 .not bg) aw fun t50=>av t50 aw)) (I y0 (aj V) E fun bh=>I y0 (x2 bn bh 2) E fun bi=>I y0 (x1 af bi) E fun bj=>I y0 (U .add af false false bj X) E fun bk=>I y0 (T1 #[af,af] af #[bk,(.int .i64 4611686018427387904)]) E fun bl=>I y0 (aj V) E fun bm=>I y0 (x2 bn bm 2) E fun bo=>aa y0 (x6 af bo bl) E fun _ ab=>I y0 (aj V) ab fun t77=>I y0 (x2 bn t77 2) ab fun bp=>I y0 (x1 af bp) ab fun bq=>I y0 (U .gtr af false true bq (.int .i64 16384)) ab fun br=>O y0 fz [V,br,t22] ab fun _ bt=>aa y0 (Instr.makeMap eA none) bt fun al bu=>ba (.slice none 0 0) (.int .i64 0) bu fun out i am k=>@aB aT (fun bw ax=>Split bw (aa y0 (n0 cB true (.tuple #[])) ax fun x ay=>I y0 (u6 #[ae] J #[an]) ay fun bx=>ba (.string ⟨#[]⟩) (.int .i64 0) ay fun key ao Y bz=>I y0 (U .lss J false false ao bx) Y fun bA=>Split bA (I y0 (x7 ae an ao) Y fun bB=>I y0 (x1 af bB) Y fun bC=>I y0 (U .sub af false true bC (.int .i64 1)) Y fun bD=>O y0 ez [V,(.int .i64 0),bD] Y fun az ad=>I y0 (x8 az 0) ad fun aA=>I y0 (x8 az 1) ad fun _=>I y0 (x2 cB x 0) ad fun bE=>I y0 (x1 ae bE) ad fun bF=>aa y0 (u9 ae 1 #[(0,aA)]) ad fun bG bH=>aa y0 (r8 #[ae,ae] ae #[bF,bG]) bH fun bI aC=>I y0 (x2 cB x 0) aC fun bJ=>aa y0 (x6 ae bJ bI) aC fun _ bK=>O y0 k8 [aA] bK fun bL ag=>I y0 (U .add a1 false true bL (.string ⟨#[32]⟩)) ag fun bM=>I y0 (U .add a1 false false key bM) ag fun bN=>I y0 (U .add J false true ao (.int .i64 1)) ag fun bO=>bz bN bO ag) (O y0 ez [V,(.int .i64 0),(.int .i64 4611686018427387904)] Y fun aE ah=>I y0 (x8 aE 0) ah fun bP=>I y0 (x8 aE 1) ah fun bQ=>I y0 (x2 cB x 1) ah fun bR=>aa y0 (x6 af bR bP) ah fun _ bS=>@aB dF (fun ap=>I y0 (V3 eA al key false) ap fun bT=>I y0 (U .add J false true bT (.int .i64 1)) ap fun bU=>aa y0 (Instr.mapUpdate eA al key bU) ap fun _ aF=>I y0 (x1 cB x) aF fun bV=>aa y0 (u9 eg 1 #[(0,bV)]) aF fun bW bX=>aa y0 (r8 #[eg,eg] eg #[out,bW]) bX fun bY aG=>I y0 (U .add af false true i (.int .i64 1)) aG fun bZ=>k bY bZ aG) fun aH=>@aB aT (fun b1 aI=>Split b1 (O y0 fh [V,(.int .i64 4),bQ] aI fun _ b2=>aH b2) (aH aI)) fun aJ=>O y0 ef [V] bS fun b3 ai=>Split b3 (I y0 (V3 eA al key false) ai fun b4=>I y0 (U .gtr J false true b4 (.int .i64 0)) ai fun b5=>aJ b5 ai) (aJ (.bool false) ai))) (ac out ax)) fun aK=>I y0 (U .lss af false false i X) am fun b6=>Split b6 (O y0 ef [V] am fun b7 b8=>aK b7 b8) (aK (.bool false) am))) fun aL=>O y0 ef [V] ak fun b9 aq=>Split b9 (I y0 (U .lss af false true X (.int .i64 0)) aq fun ca=>aL ca aq) (aL (.bool false) aq)):O y0 oz [V,an] Z ac:=aD Tryz.func201 rfl (by kernel_rfl) (by kernel_rfl) h
theorem oA.enter (h:I y0 (aj V) Z fun t5=>I y0 (x2 dv t5 1) Z fun Y=>I y0 (x1 J Y) Z fun aa=>bd aa Z fun i E k=>@aB aT (fun ab W=>Split ab (I y0 (U .add J false true i (.int .i64 1)) W fun ad=>k ad W) (ac i W)) fun X=>I y0 (aj V) E fun ae=>I y0 (x2 dv ae 0) E fun af=>I y0 (x1 aX af) E fun ag=>I y0 (u6 #[aX] J #[ag]) E fun ah=>I y0 (U .lss J false false i ah) E fun ai=>Split ai (I y0 (aj V) E fun ak=>I y0 (x2 dv ak 0) E fun al=>I y0 (x1 aX al) E fun am=>I y0 (x7 aX am i) E fun ao=>I y0 (x1 bi ao) E fun t22=>O y0 mA [t22] E fun ap aq=>X ap aq) (X (.bool false) E)):O y0 oA [V] Z ac:=aD Tryz.func202 rfl (by kernel_rfl) (by kernel_rfl) h
theorem oB.enter (h:@aB aT (fun J W=>ac J W) fun E=>I y0 (U .geq bi false true V (.int .u8 33)) Z fun t4=>Split t4 (I y0 (U .leq bi false true V (.int .u8 126)) Z fun X=>E X Z) (E (.bool false) Z)):O y0 oB [V] Z ac:=aD Tryz.func203 rfl (by kernel_rfl) (by kernel_rfl) h
theorem mA.enter (h:@aB aT (fun J W=>ac J W) fun E=>I y0 (U .eql bi false true V (.int .u8 32)) Z fun t4=>Split t4 (E (.bool true) Z) (I y0 (U .eql bi false true V (.int .u8 9)) Z fun X=>Split X (E (.bool true) Z) (I y0 (U .eql bi false true V (.int .u8 10)) Z fun Y=>Split Y (E (.bool true) Z) (I y0 (U .eql bi false true V (.int .u8 13)) Z fun aa=>E aa Z)))):O y0 mA [V] Z ac:=aD Tryz.func204 rfl (by kernel_rfl) (by kernel_rfl) h
theorem fB.enter (h:@aB aT (fun t9 W=>Split t9 (ac (.tuple #[(.pointer none),(.int .i64 1)]) W) (O y0 hU [bb,an] W fun ad E=>I y0 (Z4 .not ad) E fun t22=>Split t22 (ac (.tuple #[(.pointer none),(.int .i64 3)]) E) (O y0 gq [V] E fun ae af=>aa y0 (Instr.makeMap dD none) af fun ag X=>I y0 (Z3 cL #[(0,ae),(1,an),(2,bb),(3,ag)]) X fun ah=>aa y0 (Z5 cL ah) X fun ai aj=>ac (.tuple #[ai,(.int .i64 0)]) aj))) fun Y=>I y0 (u6 #[ab] J #[V]) Z fun ak=>I y0 (U .gtr J false true ak (.int .i64 6)) Z fun al=>Split al (Y (.bool true) Z) (O y0 hV [V,(.func (.func ko) #[] #[])] Z fun am ao=>Y am ao)):O y0 fB [V,an,bb] Z ac:=aD Tryz.func205 rfl (by kernel_rfl) (by kernel_rfl) h
theorem mB.enter (h:O y0 oM [V,an] Z fun ab Y=>I y0 (x8 ab 0) Y fun ag=>I y0 (x8 ab 1) Y fun ad=>aa y0 (n0 bl true (.tuple #[])) Y fun x ah=>aa y0 (x6 bl x ag) ah fun _ J=>@aB aT (fun _ ai=>ac (.int .i64 0) ai) fun ae=>I y0 (U .neq bJ false true ad (.int .i64 0)) J fun ak=>Split ak (ac ad J) (I y0 (aj V) J fun al=>I y0 (x2 cL al 1) J fun am=>I y0 (x1 af am) J fun ao=>O y0 hU [bb,ao] J fun ap E=>I y0 (Z4 .not ap) E fun aq=>Split aq (ac (.int .i64 3) E) (I y0 (aj V) E fun au=>I y0 (x2 cL au 2) E fun av=>I y0 (x1 af av) E fun aw=>I y0 (U .eql af false false bb aw) E fun t39=>Split t39 (aS E fun W=>I y0 (aj V) W fun ax=>I y0 (x2 cL ax 3) W fun ay=>I y0 (x1 dD ay) W fun az=>I y0 (x1 bl x) W fun aA=>aa y0 (u7.delete_ #[dD,bl] qS #[az,aA]) W fun _ aC=>ae (.int .i64 0) aC) (aS E fun X=>I y0 (aj V) X fun aE=>I y0 (x2 cL aE 3) X fun aF=>I y0 (x1 dD aF) X fun aG=>I y0 (x1 bl x) X fun aH=>aa y0 (Instr.mapUpdate dD aG aH bb) X fun _ aI=>ae (.int .i64 0) aI)))):O y0 mB [V,an,bb] Z ac:=aD Tryz.func206 rfl (by kernel_rfl) (by kernel_rfl) h
theorem oC.enter (h:aB (α:=x4→x4→x5→Prop) (fun(X av:x4) (Y:x5)=>I y0 (u6 #[a1] J #[X]) Y fun aw=>I y0 (U .eql J false true aw (.int .i64 0)) Y fun ax=>Split ax (ac (.tuple #[(.int .i64 0),(.int .i64 4)]) Y) (jk (.int .i64 0) (.int .i64 0) (.int .u64 0) (.bool false) (.int .i64 0) Y fun ag t3 n ah i E k=>I y0 (u6 #[a1] J #[X]) E fun ay=>I y0 (U .lss J false false i ay) E fun az=>Split az (aB (α:=x4→x4→x4→x4→x5→Prop) (fun(aA aC aE aF:x4) (ai:x5)=>I y0 (U .add J false true i (.int .i64 1)) ai fun aG=>k aA aC aE aF aG ai) fun aj=>@aB aT (fun aH aa=>Split aH (ac (.tuple #[(.int .i64 0),(.int .i64 4)]) aa) (@aB aT (fun ab W=>I y0 (Z4 .not ab) W fun aI=>Split aI (I y0 (U .mul bG true false (.int .u64 10) n) W fun aJ=>I y0 (Y2 a1 X i) W fun t45=>I y0 (U .sub bi false true t45 (.int .u8 48)) W fun t46=>I y0 (convert bi bG t46) W fun aK=>I y0 (U .add bG false false aJ aK) W fun aL=>aj ag t3 aL ab W) (aj ag t3 n ab W)) fun ak=>I y0 (U .gtr bG false true n (.int .u64 461168601842738790)) aa fun aM=>Split aM (ak (.bool true) aa) (ak ah aa))) fun al=>I y0 (Y2 a1 X i) E fun aN=>I y0 (U .lss bi false true aN (.int .u8 48)) E fun aO=>Split aO (al (.bool true) E) (I y0 (Y2 a1 X i) E fun aP=>I y0 (U .gtr bi false true aP (.int .u8 57)) E fun aQ=>al aQ E)) (@aB aT (fun aR ad=>I y0 (convert bG af aR) ad fun aS=>I y0 (U .mul af false false av aS) ad fun aU=>ac (.tuple #[aU,(.int .i64 0)]) ad) fun am=>@aB aT (fun t53 ao=>Split t53 (am (.int .u64 4611686018427387904) ao) (am n ao)) fun ap=>Split ah (ap (.bool true) E) (I y0 (U .gtr bG false true n (.int .u64 4611686018427387904)) E fun aV=>ap aV E)))) fun aq=>@aB aT (fun aW ae=>Split aW (I y0 (j4 a1 V (some (.int .i64 1)) none none) ae fun aX=>aq aX (.int .i64 (-1)) ae) (aq V (.int .i64 1) ae)) fun au=>I y0 (u6 #[a1] J #[V]) Z fun t9=>I y0 (U .gtr J false true t9 (.int .i64 0)) Z fun aY=>Split aY (I y0 (Y2 a1 V (.int .i64 0)) Z fun aZ=>I y0 (U .eql bi false true aZ (.int .u8 45)) Z fun a2=>au a2 Z) (au (.bool false) Z)):O y0 oC [V] Z ac:=aD Tryz.func207 rfl (by kernel_rfl) (by kernel_rfl) h
theorem iF.enter (h:I y0 (u6 #[ae] J #[V]) Z fun Y=>I y0 (u6 #[ae] J #[an]) Z fun t9=>I y0 (U .neq J false false Y t9) Z fun aa=>Split aa (ac (.bool false) Z) (I y0 (u6 #[ae] J #[V]) Z fun ab=>ba (.bool false) (.int .i64 0) Z fun t4 W X k=>I y0 (U .lss J false false W ab) X fun ad=>Split ad (aS X fun E=>I y0 (x7 ae V W) E fun ag=>I y0 (x1 af ag) E fun ah=>I y0 (x7 ae an W) E fun t22=>I y0 (x1 af t22) E fun ai=>I y0 (U .neq af false false ah ai) E fun aj=>Split aj (ac (.bool false) E) (I y0 (U .add J false true W (.int .i64 1)) E fun t25=>k t4 t25 E)) (ac (.bool true) X))):O y0 iF [V,an] Z ac:=aD Tryz.func208 rfl (by kernel_rfl) (by kernel_rfl) h
theorem oD.enter (h:I y0 (U .eql mS false true V (.pointer none)) Z fun aE=>Split aE (ac (.int .i64 2) Z) (@aB aT (fun aF E=>Split aF (ac (.int .i64 1) E) (@aB aT (fun aG ag=>I y0 (aj V) ag fun aH=>I y0 (x2 bg aH 3) ag fun t76=>I y0 (x1 bO t76) ag fun t77=>I y0 (u6 #[bO] J #[t77]) ag fun aI=>jj (.int .i64 0) aG (.int .i64 0) ag fun lines aq al X k=>I y0 (U .lss J false false al aI) X fun aJ=>Split aJ (aB (α:=x4→x4→x5→Prop) (fun(aK aL:x4) (au:x5)=>I y0 (U .add J false true al (.int .i64 1)) au fun aM=>k aK aL aM au) fun av=>I y0 (x7 bO t77 al) X fun aN=>I y0 (x1 bj aN) X fun aO=>aa y0 (n0 bj true (.tuple #[])) X fun x aP=>aa y0 (x6 bj x aO) aP fun _ am=>I y0 (x2 bj x 1) am fun aQ=>I y0 (x1 b6 aQ) am fun aR=>O y0 oP [aR] am fun aS ak=>I y0 (U .add J false false lines aS) ak fun aw=>I y0 (x2 bj x 1) ak fun aU=>I y0 (x1 b6 aU) ak fun aV=>O y0 lb [aV] ak fun ax ay=>I y0 (u6 #[ab] J #[ax]) ay fun aW=>ba (.slice none 0 0) (.int .i64 0) ay fun sizes ao ad aX=>I y0 (U .lss J false false ao aW) ad fun aY=>Split aY (I y0 (x7 ab ax ao) ad fun aZ=>I y0 (x1 J aZ) ad fun a2=>aa y0 (u9 ae 1 #[(0,a2)]) ad fun a6 a7=>aa y0 (r8 #[ae,ae] ae #[sizes,a6]) a7 fun a8 az=>I y0 (U .add J false true ao (.int .i64 1)) az fun bb=>aX a8 bb az) (Split aq (av aw (.bool true) ad) (O y0 mz [sizes] ad fun bc bd=>av aw bc bd))) (@aB aT (fun be aA=>Split be (ac (.int .i64 5) aA) (ac (.int .i64 0) aA)) fun aC=>Split aq (aC (.bool true) X) (I y0 (U .gtr J false true lines (.int .i64 16384)) X fun bf=>aC bf X))) fun ap=>I y0 (aj V) E fun t53=>I y0 (x2 bg t53 0) E fun bh=>I y0 (x1 a1 bh) E fun t55=>I y0 (u6 #[a1] J #[t55]) E fun bi=>I y0 (U .gtr J false true bi (.int .i64 64)) E fun bk=>Split bk (ap (.bool true) E) (I y0 (aj V) E fun bl=>I y0 (x2 bg bl 2) E fun bm=>I y0 (x1 ab bm) E fun bn=>I y0 (u6 #[ab] J #[bn]) E fun bo=>I y0 (U .gtr J false true bo (.int .i64 64)) E fun bp=>Split bp (ap (.bool true) E) (I y0 (aj V) E fun bq=>I y0 (x2 bg bq 3) E fun br=>I y0 (x1 bO br) E fun t70=>I y0 (u6 #[bO] J #[t70]) E fun bt=>I y0 (U .gtr J false true bt (.int .i64 256)) E fun bu=>ap bu E)))) fun ah=>I y0 (aj V) Z fun bw=>I y0 (x2 bg bw 0) Z fun bx=>I y0 (x1 a1 bx) Z fun bz=>O y0 oN [bz] Z fun bA W=>I y0 (Z4 .not bA) W fun bB=>Split bB (ah (.bool true) W) (I y0 (aj V) W fun bC=>I y0 (x2 bg bC 2) W fun t22=>I y0 (x1 ab t22) W fun bD=>I y0 (u6 #[ab] J #[bD]) W fun bE=>I y0 (U .eql J false true bE (.int .i64 0)) W fun t25=>Split t25 (ah (.bool true) W) (I y0 (aj V) W fun bF=>I y0 (x2 bg bF 2) W fun bG=>I y0 (x1 ab bG) W fun bH=>O y0 hV [bH,(.func (.func k9) #[] #[])] W fun bI ai=>Split bI (ah (.bool true) ai) (I y0 (aj V) ai fun bJ=>I y0 (x2 bg bJ 1) ai fun bK=>I y0 (x1 af bK) ai fun t39=>O y0 mJ [t39] ai fun bL Y=>I y0 (Z4 .not bL) Y fun bM=>Split bM (ah (.bool true) Y) (I y0 (aj V) Y fun t45=>I y0 (x2 bg t45 3) Y fun t46=>I y0 (x1 bO t46) Y fun bN=>I y0 (Instr.makeFunc (.func la) #[V] #[]) Y fun bP=>O y0 oO [bN,bP] Y fun t50 bQ=>ah t50 bQ)))))):O y0 oD [V] Z ac:=aD Tryz.func209 rfl (by kernel_rfl) (by kernel_rfl) h
theorem oE.enter (h:aa y0 (Z5 bj V) Z fun ad ae=>I y0 (x2 bj ad 1) ae fun ap=>I y0 (x1 b6 ap) ae fun aq=>O y0 mq [aq] ae fun ag W=>I y0 (x8 ag 0) W fun au=>I y0 (x8 ag 1) W fun _=>I y0 (x2 bj ad 0) W fun av=>I y0 (x1 ab av) W fun aw=>O y0 kq [aw] W fun ax ay=>O y0 kp [ax] ay fun X ah=>I y0 (u6 #[ab] J #[X]) ah fun ai=>aa y0 (U7 ab ai ai) ah fun aj ak=>I y0 (u6 #[ab] J #[X]) ak fun az=>bd (.int .i64 0) ak fun Y E k=>I y0 (U .lss J false false Y az) E fun aA=>Split aA (I y0 (x7 ab X Y) E fun aB=>I y0 (x1 J aB) E fun aC=>I y0 (x2 bj ad 0) E fun aE=>I y0 (x1 ab aE) E fun aF=>O y0 hR [aF,aC] E fun aG al=>I y0 (x7 ab aj Y) al fun aH=>aa y0 (x6 J aH aG) al fun _ am=>I y0 (U .add J false true Y (.int .i64 1)) am fun t39=>k t39 am) (O y0 mK [au,aj] E fun ao af=>I y0 (x8 ao 0) af fun aI=>I y0 (x8 ao 1) af fun _=>ac (.tuple #[X,aI]) af)):O y0 oE [V] Z ac:=aD Tryz.func210 rfl (by kernel_rfl) (by kernel_rfl) h
theorem kl.enter (h:I y0 (u6 #[cY] J #[V]) Z fun Y=>ba (.int .i64 0) (.int .i64 0) Z fun t4 W E k=>I y0 (U .lss J false false W Y) E fun t9=>Split t9 (I y0 (x7 cY V W) E fun aa=>I y0 (x1 bE aa) E fun ab=>hJ y0 false an [ab] E fun ad X=>Split ad (ac W X) (I y0 (U .add J false true W (.int .i64 1)) X fun ae=>k t4 ae X)) (ac (.int .i64 (-1)) E)):O y0 kl [V,an] Z ac:=aD Tryz.func211 rfl (by kernel_rfl) (by kernel_rfl) h
theorem mC.enter (h:aa y0 (Z5 bE V) Z fun J E=>I y0 (x2 bE J 0) E fun t4=>I y0 (x1 ab t4) E fun t5=>I y0 (x1 ab an) E fun U=>O y0 kd [t5,U] E fun W X=>ac W X):O y0 mC [V,an] Z ac:=aD Tryz.func212 rfl (by kernel_rfl) (by kernel_rfl) h
theorem gr.enters:Enters y0 gr:=Enters.of y0 (show y0.funcs[gr]? =some Tryz.f187 from Tryz.func187) rfl (by kernel_rfl)
end
section
variable {Z:x5} {ac:aT} {V an bb cQ jz lg lh li lj lk ll lm:x4}
theorem mD.enter (h:aa y0 (Z5 bB V) Z fun X aW=>aa y0 (Z5 ab an) aW fun ap aX=>aa y0 (Z5 bB bb) aX fun ad aY=>aa y0 (Z5 ab cQ) aY fun aq ag=>@aB aT (fun aZ au=>Split aZ (fy au fun a1=>ac (.tuple #[(.pointer none),(.slice none 0 0),(.int .i64 2)]) a1) (@aB aT (fun a2 av=>Split a2 (fy av fun a6=>ac (.tuple #[(.pointer none),(.slice none 0 0),(.int .i64 1)]) a6) (I y0 (x1 ab ap) av fun a7=>I y0 (x1 ab aq) av fun t39=>aa y0 (u9 cz 2 #[(0,a7),(1,t39)]) av fun a8 ba=>O y0 oR [a8] ba fun bc bd=>O y0 kq [bc] bd fun be bf=>O y0 kp [be] bf fun bg bh=>O y0 oQ [bg] bh fun bi bj=>aa y0 (n0 ab true (.tuple #[])) bj fun vars bk=>aa y0 (x6 ab vars bi) bk fun _ ah=>I y0 (x1 ab vars) ah fun t46=>I y0 (x1 bB X) ah fun bl=>I y0 (x1 ab ap) ah fun bm=>I y0 (x1 bB ad) ah fun bn=>I y0 (x1 ab aq) ah fun t50=>O y0 oS [t46,bl,bm,bn,t50] ah fun aG ak=>I y0 (x8 aG 0) ak fun bo=>I y0 (x8 aG 1) ak fun t53=>I y0 (Z4 .not t53) ak fun bp=>Split bp (fy ak fun br=>ac (.tuple #[(.pointer none),(.slice none 0 0),(.int .i64 1)]) br) (aS ak fun E=>I y0 (x1 bB X) E fun bt=>I y0 (aj bt) E fun bu=>I y0 (x2 bq bu 1) E fun bw=>I y0 (x1 af bw) E fun bx=>I y0 (x1 bB ad) E fun bz=>I y0 (aj bz) E fun bA=>I y0 (x2 bq bA 1) E fun bC=>I y0 (x1 af bC) E fun bD=>I y0 (U .neq af false false bx bD) E fun t66=>Split t66 (fy E fun bE=>ac (.tuple #[(.pointer none),(.slice none 0 0),(.int .i64 3)]) bE) (I y0 (x1 bB X) E fun bF=>I y0 (aj bF) E fun t70=>I y0 (x2 bq t70 1) E fun bG=>I y0 (x1 af bG) E fun bH=>O y0 k0 [bo,bH,(.int .i64 0)] E fun aH aw=>I y0 (x8 aH 0) aw fun bI=>I y0 (x8 aH 1) aw fun aI=>aa y0 (n0 bB true (.tuple #[])) aw fun t bK=>aa y0 (x6 bB t bI) bK fun _ Y=>I y0 (U .neq bJ false true aI (.int .i64 0)) Y fun t77=>Split t77 (fy Y fun bL=>ac (.tuple #[(.pointer none),(.slice none 0 0),aI]) bL) (I y0 (x1 bB t) Y fun bM=>I y0 (aj bM) Y fun bN=>I y0 (x2 bq bN 0) Y fun bO=>I y0 (x1 aK bO) Y fun bP=>O y0 ke [bP] Y fun bQ bR=>qD y0 bQ bR (fun bS aJ bT k=>Over bT fun bU=>aS bU fun al=>I y0 (x1 bB X) al fun aL=>I y0 (x1 ab vars) al fun bV=>I y0 (x1 ab ap) al fun bW=>O y0 mM [aJ,bV,bW] al fun bX ax=>(Ext al ax∨ai y0 (x1 bB X) aL ax∧True)∧O y0 ld [aL,bX] ax fun aM ay=>I y0 (x8 aM 0) ay fun bY=>I y0 (x8 aM 1) ay fun _=>aS ay fun am=>I y0 (x1 bB ad) am fun aN=>I y0 (x1 ab vars) am fun bZ=>I y0 (x1 ab aq) am fun b1=>O y0 mM [aJ,bZ,b1] am fun b2 az=>(Ext am az∨ai y0 (x1 bB ad) aN az∧True)∧O y0 ld [aN,b2] az fun aO aA=>I y0 (x8 aO 0) aA fun b3=>I y0 (x8 aO 1) aA fun _=>aS aA fun J=>I y0 (x1 bB t) J fun aC=>I y0 (aj aC) J fun aD=>I y0 (x2 bq aD 2) J fun aE=>I y0 (x1 ae aE) J fun aP=>I y0 (x1 bB t) J fun b4=>I y0 (aj b4) J fun b5=>I y0 (x2 bq b5 1) J fun b6=>I y0 (x1 af b6) J fun b7=>O y0 jt [bY,b3,b7] J fun aQ W=>(Ext J W∨ai y0 (x1 ae aE) aP W∧ai y0 (x2 bq aD 2) aE W∧ai y0 (aj aC) aD W∧ai y0 (x1 bB t) aC W∧True)∧I y0 (x8 aQ 0) W fun b8=>I y0 (x8 aQ 1) W fun _=>I y0 (x7 ae aP bS) W fun b9=>aa y0 (x6 af b9 b8) W fun _ ca=>k .normal ca) (fun cb=>aS cb fun aF=>I y0 (x1 bB t) aF fun cc=>I y0 (x1 ab vars) aF fun cd=>fy aF fun ce=>ac (.tuple #[cc,cd,(.int .i64 0)]) ce) (fun _=>False) []))))) fun aR=>I y0 (x1 bB X) au fun cg=>I y0 (x1 ab ap) au fun ch=>O y0 mL [cg,ch] au fun ci ao=>I y0 (Z4 .not ci) ao fun cj=>Split cj (aR (.bool true) ao) (I y0 (x1 bB ad) ao fun ck=>I y0 (x1 ab aq) ao fun cl=>O y0 mL [ck,cl] ao fun cm aU=>I y0 (Z4 .not cm) aU fun cn=>aR cn aU))) fun aV=>I y0 (x1 bB X) ag fun t22=>I y0 (U .eql bB false true t22 (.pointer none)) ag fun cp=>Split cp (aV (.bool true) ag) (I y0 (x1 bB ad) ag fun t25=>I y0 (U .eql bB false true t25 (.pointer none)) ag fun cq=>aV cq ag)):O y0 mD [V,an,bb,cQ] Z ac:=O.enter (P:=y0) mixed (show y0.funcs[mD]? =some Tryz.f213 from Tryz.func213) rfl (by kernel_rfl) (by kernel_rfl) (by kernel_rfl) (Eq.mp (by kernel_rfl) h)
theorem jx.enter (h:aa y0 (Z5 bE V) Z fun U E=>I y0 (x2 bE U 1) E fun t3=>I y0 (x1 bB t3) E fun t4=>O y0 hj [t4] E fun t5 W=>O y0 oF [t5,(.func (.func k6) #[] #[])] W fun X J=>I y0 (Z4 .not X) J fun Y=>ac Y J):O y0 jx [V] Z ac:=aD Tryz.func214 rfl (by kernel_rfl) (by kernel_rfl) h
theorem oF.enter (h:O y0 qM [V,an] Z fun W E=>I y0 (U .geq J false true W (.int .i64 0)) E fun X=>ac X E):O y0 oF [V,an] Z ac:=aD Tryz.func215 rfl (by kernel_rfl) (by kernel_rfl) h
theorem k6.enter (h:I y0 (U .gtr af false true V (.int .i64 0)) Z fun t4=>ac t4 Z):O y0 k6 [V] Z ac:=aD Tryz.func216 rfl (by kernel_rfl) (by kernel_rfl) h
theorem oG.enter (h:O y0 kl [V,an] Z fun Y X=>I y0 (U .eql J false true Y (.int .i64 (-1))) X fun ah=>Split ah (ac V X) (I y0 (U .add J false true Y (.int .i64 1)) X fun ai=>ba Y ai X fun i j E k=>I y0 (u6 #[cY] J #[V]) E fun aj=>I y0 (U .lss J false false j aj) E fun ak=>Split ak (@aB aT (fun al ab=>I y0 (U .add J false true j (.int .i64 1)) ab fun am=>k al am ab) fun ad=>I y0 (x7 cY V j) E fun ao=>I y0 (x1 bE ao) E fun t25=>aa y0 (n0 bE true (.tuple #[])) E fun v ap=>aa y0 (x6 bE v t25) ap fun _ ae=>I y0 (x1 bE v) ae fun aq=>hJ y0 false an [aq] ae fun au W=>I y0 (Z4 .not au) W fun av=>Split av (I y0 (x1 bE v) W fun aw=>I y0 (x7 cY V i) W fun ax=>aa y0 (x6 bE ax aw) W fun _ af=>I y0 (U .add J false true i (.int .i64 1)) af fun ay=>ad ay af) (ad i W)) (I y0 (j4 cY V (some i) none none) E fun az=>aa y0 (u7.clear_ #[cY] qS #[az]) E fun _ ag=>I y0 (j4 cY V none (some i) none) ag fun aA=>ac aA ag))):O y0 oG [V,an] Z ac:=aD Tryz.func217 rfl (by kernel_rfl) (by kernel_rfl) h
theorem mE.enter (h:aa y0 (Z5 bE V) Z fun W ag=>aa y0 (Z5 bE an) ag fun X ah=>aS ah fun E=>I y0 (x2 bE W 0) E fun t5=>I y0 (x1 ab t5) E fun aj=>I y0 (u6 #[ab] J #[aj]) E fun ak=>I y0 (x2 bE X 0) E fun al=>I y0 (x1 ab al) E fun t9=>I y0 (u6 #[ab] J #[t9]) E fun am=>I y0 (x2 bE W 0) E fun Y=>I y0 (x1 ab Y) E fun ae=>I y0 (x2 bE X 0) E fun ad=>I y0 (x1 ab ad) E fun af=>O y0 mh [ak,am] E fun ao U=>(Ext E U∨ai y0 (x1 ab ad) af U∧ai y0 (x2 bE X 0) ad U∧ai y0 (x1 ab Y) ae U∧ai y0 (x2 bE W 0) Y U∧True)∧O y0 oH [ae,af] U fun ap aq=>aa y0 (u9 ab 2 #[(0,ao),(1,ap)]) aq fun au av=>O y0 oc [au] av fun aw ax=>ac aw ax):O y0 mE [V,an] Z ac:=aD Tryz.func219 rfl (by kernel_rfl) (by kernel_rfl) h
theorem oH.enter (h:I y0 (u6 #[ab] J #[V]) Z fun aa=>ba (.int .i64 0) (.int .i64 0) Z fun t4 W E k=>I y0 (U .lss J false false W aa) E fun ad=>Split ad (I y0 (x7 ab V W) E fun ae=>I y0 (x1 J ae) E fun af=>I y0 (u6 #[ab] J #[an]) E fun ag=>I y0 (U .geq J false false W ag) E fun ah=>Split ah (ac (.int .i64 1) E) (I y0 (x7 ab an W) E fun t22=>I y0 (x1 J t22) E fun ai=>O y0 mh [af,ai] E fun Y X=>I y0 (U .neq J false true Y (.int .i64 0)) X fun aj=>Split aj (ac Y X) (I y0 (U .add J false true W (.int .i64 1)) X fun ak=>k t4 ak X))) (I y0 (u6 #[ab] J #[V]) E fun al=>I y0 (u6 #[ab] J #[an]) E fun am=>I y0 (U .lss J false false al am) E fun ao=>Split ao (ac (.int .i64 (-1)) E) (ac (.int .i64 0) E))):O y0 oH [V,an] Z ac:=aD Tryz.func220 rfl (by kernel_rfl) (by kernel_rfl) h
theorem mF.enter (h:I y0 (U .eql bB false true V (.pointer none)) Z fun t9=>Split t9 (fy Z fun aY=>ac (.pointer none) aY) (O y0 hj [V] Z fun aZ a1=>aa y0 (n0 ae true (.tuple #[])) a1 fun l a2=>aa y0 (x6 ae l aZ) a2 fun _ a6=>@aB aT (fun u a7=>O y0 hT [V] a7 fun a8 ba=>O y0 ke [a8] ba fun t25 bb=>qD y0 t25 bb (fun bc bd be k=>Over be fun bf=>aS bf fun X=>I y0 (x1 b6 u) X fun bg=>I y0 (x1 ae l) X fun bh=>I y0 (x7 ae bh bc) X fun bi=>I y0 (x1 af bi) X fun bj=>O y0 mB [bg,bd,bj] X fun _ bk=>k .normal bk) (fun aG=>I y0 (x1 b6 u) aG fun bl=>fy aG fun bm=>ac bl bm) (fun _=>False) []) fun W=>aS a6 fun J=>I y0 (x1 ae l) J fun E=>(O y0 hT [V] J fun aH Y=>(Ext J Y∨ai y0 (x1 ae l) E Y∧True)∧(O y0 jv [aH] Y fun ab ad=>(Ext J ad∨ai y0 (x1 ae l) E ad∧True)∧(O y0 hS [V] ad fun ah ag=>(Ext J ag∨ai y0 (x1 ae l) E ag∧True)∧(O y0 hl [E] ag fun aI aJ=>(O y0 fB [ab,ah,aI] aJ fun aK aj=>I y0 (x8 aK 0) aj fun bn=>I y0 (x8 aK 1) aj fun _=>aa y0 (n0 b6 true (.tuple #[])) aj fun aL ak=>(Ext J ak∨ai y0 (x1 ae l) E ak∧True)∧aa y0 (x6 b6 aL bn) ak fun _ bo=>W aL bo)∧(aa y0 (n0 b6 true (.tuple #[])) aJ fun aM al=>(Ext J al∨ai y0 (x1 ae l) E al∧True)∧O y0 fB [ab,ah,aI] al fun aN am=>I y0 (x8 aN 0) am fun bp=>I y0 (x8 aN 1) am fun _=>aa y0 (x6 b6 aM bp) am fun _ bq=>W aM bq))∧(aa y0 (n0 b6 true (.tuple #[])) ag fun aO ao=>(Ext J ao∨ai y0 (x1 ae l) E ao∧True)∧O y0 hl [E] ao fun br bt=>O y0 fB [ab,ah,br] bt fun aP ap=>I y0 (x8 aP 0) ap fun bu=>I y0 (x8 aP 1) ap fun _=>aa y0 (x6 b6 aO bu) ap fun _ bw=>W aO bw))∧(aa y0 (n0 b6 true (.tuple #[])) ad fun aQ aq=>(Ext J aq∨ai y0 (x1 ae l) E aq∧True)∧O y0 hS [V] aq fun bx au=>(Ext J au∨ai y0 (x1 ae l) E au∧True)∧O y0 hl [E] au fun bz bA=>O y0 fB [ab,bx,bz] bA fun aR av=>I y0 (x8 aR 0) av fun bC=>I y0 (x8 aR 1) av fun _=>aa y0 (x6 b6 aQ bC) av fun _ bD=>W aQ bD))∧(aa y0 (n0 b6 true (.tuple #[])) Y fun aU aw=>(Ext J aw∨ai y0 (x1 ae l) E aw∧True)∧O y0 jv [aH] aw fun bE ax=>(Ext J ax∨ai y0 (x1 ae l) E ax∧True)∧O y0 hS [V] ax fun bF ay=>(Ext J ay∨ai y0 (x1 ae l) E ay∧True)∧O y0 hl [E] ay fun bG bH=>O y0 fB [bE,bF,bG] bH fun aV az=>I y0 (x8 aV 0) az fun bI=>I y0 (x8 aV 1) az fun _=>aa y0 (x6 b6 aU bI) az fun _ bJ=>W aU bJ))∧(aa y0 (n0 b6 true (.tuple #[])) J fun aW aA=>(Ext J aA∨ai y0 (x1 ae l) E aA∧True)∧O y0 hT [V] aA fun bK aC=>(Ext J aC∨ai y0 (x1 ae l) E aC∧True)∧O y0 jv [bK] aC fun bL aD=>(Ext J aD∨ai y0 (x1 ae l) E aD∧True)∧O y0 hS [V] aD fun bM aE=>(Ext J aE∨ai y0 (x1 ae l) E aE∧True)∧O y0 hl [E] aE fun bN bO=>O y0 fB [bL,bM,bN] bO fun aX aF=>I y0 (x8 aX 0) aF fun bP=>I y0 (x8 aX 1) aF fun _=>aa y0 (x6 b6 aW bP) aF fun _ bQ=>W aW bQ))):O y0 mF [V] Z ac:=O.enter (P:=y0) mixed (show y0.funcs[mF]? =some Tryz.f221 from Tryz.func221) rfl (by kernel_rfl) (by kernel_rfl) (by kernel_rfl) (Eq.mp (by kernel_rfl) h)
theorem oI.enter (h:I y0 (U .eql b6 false true V (.pointer none)) Z fun ax=>Split ax (ac (.slice none 0 0) Z) (I y0 (aj V) Z fun ay=>I y0 (x2 cL ay 3) Z fun az=>I y0 (x1 dD az) Z fun aA=>O y0 oV [aA] Z fun aB aC=>O y0 oU [aB,(.func (.func mN) #[] #[])] aC fun am ao=>I y0 (u6 #[er] J #[am]) ao fun aE=>ba (.slice none 0 0) (.int .i64 0) ao fun out ae ad k=>I y0 (U .lss J false false ae aE) ad fun aF=>Split aF (I y0 (x7 er am ae) ad fun t22=>I y0 (x1 bl t22) ad fun aG=>aa y0 (n0 bl true (.tuple #[])) ad fun x aH=>aa y0 (x6 bl x aG) aH fun _ aI=>aS aI fun W=>I y0 (aj V) W fun t25=>I y0 (x2 cL t25 3) W fun af=>I y0 (x1 dD af) W fun ag=>I y0 (x1 bl x) W fun ah=>I y0 (V3 dD ag ah false) W fun ak=>I y0 (Z3 dp #[(1,ak)]) W fun ap=>aa y0 (n0 dp true (.tuple #[])) W fun l X=>(Ext W X∨ai y0 (Z3 dp #[(1,ak)]) ap X∧ai y0 (V3 dD ag ah false) ak X∧ai y0 (x1 bl x) ah X∧ai y0 (x1 dD af) ag X∧ai y0 (x2 cL t25 3) af X∧ai y0 (aj V) t25 X∧True)∧aa y0 (x6 dp l ap) X fun _ Y=>I y0 (aj V) Y fun aJ=>I y0 (x2 cL aJ 0) Y fun aK=>I y0 (x1 ab aK) Y fun aL=>I y0 (u6 #[ab] J #[aL]) Y fun aM=>I y0 (j4 bl x none (some aM) none) Y fun aq=>I y0 (u6 #[fj] J #[aq]) Y fun aN=>bd (.int .i64 0) Y fun al E aO=>I y0 (U .lss J false false al aN) E fun t39=>Split t39 (I y0 (x7 fj aq al) E fun aP=>I y0 (x1 dA aP) E fun aQ=>I y0 (x2 dp l 0) E fun aR=>I y0 (x1 ab aR) E fun aT=>I y0 (convert dA J aQ) E fun t45=>aa y0 (u9 ab 1 #[(0,t45)]) E fun t46 aU=>aa y0 (r8 #[ab,ab] ab #[aT,t46]) aU fun aV au=>I y0 (x2 dp l 0) au fun aW=>aa y0 (x6 ab aW aV) au fun _ av=>I y0 (U .add J false true al (.int .i64 1)) av fun aX=>aO aX av) (I y0 (x1 dp l) E fun aY=>aa y0 (u9 ho 1 #[(0,aY)]) E fun aZ a1=>aa y0 (r8 #[ho,ho] ho #[out,aZ]) a1 fun t53 aw=>I y0 (U .add J false true ae (.int .i64 1)) aw fun a2=>k t53 a2 aw)) (ac out ad))):O y0 oI [V] Z ac:=aD Tryz.func222 rfl (by kernel_rfl) (by kernel_rfl) h
theorem mG.enter (h:aa y0 (Z5 aF V) Z fun ap aU=>aa y0 (n0 aE true (.tuple #[])) aU fun aA aq=>I y0 (x2 aF ap 0) aq fun aV=>I y0 (x1 ae aV) aq fun aW=>O y0 oW [aW] aq fun aX aC=>I y0 (Z3 aE #[(0,aX)]) aC fun aY=>aa y0 (n0 aE true (.tuple #[])) aC fun g aZ=>aa y0 (x6 aE g aY) aZ fun _ aj=>I y0 (x2 aE g 0) aj fun a1=>I y0 (x1 ab a1) aj fun t22=>I y0 (u6 #[ab] J #[t22]) aj fun a2=>bd (.int .i64 0) aj fun au Y a6=>I y0 (U .lss J false false au a2) Y fun t25=>Split t25 (I y0 (x7 ab t22 au) Y fun a7=>I y0 (x1 J a7) Y fun a8=>aS Y fun ad=>I y0 (x2 aE g 1) ad fun av=>I y0 (x1 ab av) ad fun aG=>I y0 (x7 ae an a8) ad fun bc=>I y0 (x1 af bc) ad fun be=>aa y0 (u9 ab 1 #[(0,be)]) ad fun bf ak=>(Ext ad ak∨ai y0 (x1 ab av) aG ak∧ai y0 (x2 aE g 1) av ak∧True)∧aa y0 (r8 #[ab,ab] ab #[aG,bf]) ak fun bg aH=>I y0 (x2 aE g 1) aH fun bh=>aa y0 (x6 ab bh bg) aH fun _ aI=>I y0 (U .add J false true au (.int .i64 1)) aI fun bi=>a6 bi aI) (I y0 (x2 aE g 1) Y fun bj=>I y0 (x1 ab bj) Y fun t39=>O y0 k1 [t39] Y fun aJ aK=>I y0 (u6 #[cz] J #[aJ]) aK fun bk=>bd (.int .i64 0) aK fun aw W bl=>I y0 (U .lss J false false aw bk) W fun bm=>Split bm (I y0 (x7 cz aJ aw) W fun bn=>I y0 (x1 ab bn) W fun t45=>I y0 (x2 aF ap 0) W fun t46=>I y0 (x1 ae t46) W fun aL=>I y0 (u6 #[ae] J #[aL]) W fun bo=>ba (.slice none 0 0) (.int .i64 0) W fun own ax X bp=>I y0 (U .lss J false false ax bo) X fun t50=>Split t50 (I y0 (x7 ae aL ax) X fun bq=>I y0 (x1 af bq) X fun br=>I y0 (x2 aE g 0) X fun t53=>I y0 (x1 ab t53) X fun aM=>I y0 (u6 #[ab] J #[aM]) X fun t55=>ba own (.int .i64 0) X fun ay al E bt=>I y0 (U .lss J false false al t55) E fun bu=>Split bu (@aB aT (fun bw aN=>I y0 (U .add J false true al (.int .i64 1)) aN fun bx=>bt bw bx aN) fun aO=>I y0 (x7 ab aM al) E fun bz=>I y0 (x1 J bz) E fun bA=>I y0 (U .eql af false false bA br) E fun bB=>Split bB (I y0 (x7 ab t45 al) E fun bC=>I y0 (x1 J bC) E fun bD=>aa y0 (u9 ae 1 #[(0,bD)]) E fun bE bF=>aa y0 (r8 #[ae,ae] ae #[ay,bE]) bF fun t70 bG=>aO t70 bG) (aO ay E)) (I y0 (U .add J false true ax (.int .i64 1)) E fun bH=>bp ay bH E)) (aS X fun ag=>I y0 (x2 aE g 2) ag fun ah=>I y0 (x1 ae ah) ag fun az=>I y0 (x1 aF ap) ag fun bI=>O y0 oX [bI,own,bb] ag fun bJ am=>(Ext ag am∨ai y0 (x1 ae ah) az am∧ai y0 (x2 aE g 2) ah am∧True)∧aa y0 (u9 ae 1 #[(0,bJ)]) am fun bK ao=>(Ext ag ao∨ai y0 (x1 ae ah) az ao∧ai y0 (x2 aE g 2) ah ao∧True)∧aa y0 (r8 #[ae,ae] ae #[az,bK]) ao fun bL aP=>I y0 (x2 aE g 2) aP fun bM=>aa y0 (x6 ae bM bL) aP fun _ aQ=>I y0 (U .add J false true aw (.int .i64 1)) aQ fun bN=>bl bN aQ)) (I y0 (x1 aE g) W fun bO=>aa y0 (x6 aE aA bO) W fun _ aR=>I y0 (do loadVar aE (←asAddr aA)) aR fun r=>ac r aR))):O y0 mG [V,an,bb] Z ac:=aD Tryz.func223 rfl (by kernel_rfl) (by kernel_rfl) h
theorem mH.enter (h:aa y0 (Z5 aE V) Z fun ad ag=>aa y0 (Z5 aE an) ag fun ae E=>I y0 (x2 aE ad 0) E fun ah=>I y0 (x1 ab ah) E fun ai=>I y0 (u6 #[ab] J #[ai]) E fun aj=>I y0 (x2 aE ae 0) E fun t9=>I y0 (x1 ab t9) E fun ak=>I y0 (u6 #[ab] J #[ak]) E fun al=>I y0 (U .neq J false false aj al) E fun am=>Split am (I y0 (x2 aE ad 0) E fun ao=>I y0 (x1 ab ao) E fun ap=>I y0 (u6 #[ab] J #[ap]) E fun aq=>I y0 (x2 aE ae 0) E fun au=>I y0 (x1 ab au) E fun av=>I y0 (u6 #[ab] J #[av]) E fun aw=>I y0 (U .lss J false false aq aw) E fun ax=>ac ax E) (I y0 (x2 aE ad 0) E fun ay=>I y0 (x1 ab ay) E fun az=>I y0 (u6 #[ab] J #[az]) E fun t22=>ba (.bool false) (.int .i64 0) E fun t4 Y af k=>I y0 (U .lss J false false Y t22) af fun aA=>Split aA (aS af fun W=>I y0 (x2 aE ad 0) W fun aB=>I y0 (x1 ab aB) W fun aC=>I y0 (x7 ab aC Y) W fun aF=>I y0 (x1 J aF) W fun aG=>I y0 (x2 aE ae 0) W fun aH=>I y0 (x1 ab aH) W fun aI=>I y0 (x7 ab aI Y) W fun aJ=>I y0 (x1 J aJ) W fun aK=>I y0 (U .neq J false false aG aK) W fun aL=>Split aL (aS W fun X=>I y0 (x2 aE ad 0) X fun aM=>I y0 (x1 ab aM) X fun aN=>I y0 (x7 ab aN Y) X fun aO=>I y0 (x1 J aO) X fun aP=>I y0 (x2 aE ae 0) X fun aQ=>I y0 (x1 ab aQ) X fun aR=>I y0 (x7 ab aR Y) X fun t45=>I y0 (x1 J t45) X fun t46=>I y0 (U .lss J false false aP t46) X fun aT=>ac aT X) (I y0 (U .add J false true Y (.int .i64 1)) W fun aU=>k t4 aU W)) (ac (.bool false) af))):O y0 mH [V,an] Z ac:=aD Tryz.func224 rfl (by kernel_rfl) (by kernel_rfl) h
theorem mI.enter (h:I y0 (U .eql dm false true V (.pointer none)) Z fun t4=>Split t4 (ac (.int .i64 0) Z) (I y0 (aj V) Z fun E=>I y0 (x2 cX E 0) Z fun W=>I y0 (x1 dn W) Z fun X=>I y0 (u6 #[dn] J #[X]) Z fun t9=>ac t9 Z)):O y0 mI [V] Z ac:=aD Tryz.func225 rfl (by kernel_rfl) (by kernel_rfl) h
theorem mJ.enter (h:@aB aT (fun J W=>ac J W) fun E=>I y0 (U .geq af false true V (.int .i64 1)) Z fun t4=>Split t4 (I y0 (U .leq af false true V (.int .i64 2147483648)) Z fun X=>E X Z) (E (.bool false) Z)):O y0 mJ [V] Z ac:=aD Tryz.func226 rfl (by kernel_rfl) (by kernel_rfl) h
theorem km.enter (h:@aB aT (fun W X=>ac W X) fun E=>I y0 (U .lss J false true V (.int .i64 1)) Z fun t4=>Split t4 (E (.bool true) Z) (I y0 (U .gtr J false true V (.int .i64 32)) Z fun Y=>E Y Z)):O y0 km [V] Z ac:=aD Tryz.func227 rfl (by kernel_rfl) (by kernel_rfl) h
theorem oJ.enter (h:O y0 qN [V,an] Z fun t25 E=>I y0 (x8 t25 0) E fun J=>I y0 (x8 t25 1) E fun U=>ac (.tuple #[J,U]) E):O y0 oJ [V,an] Z ac:=aD Tryz.func228 rfl (by kernel_rfl) (by kernel_rfl) h
theorem k7.enter (h:aB (α:=x4→x4→x5→Prop) (fun(Y n:x4) (E:x5)=>aB (α:=x4→x4→x5→Prop) (fun(aa ab:x4) (W:x5)=>aB (α:=x4→x4→x5→Prop) (fun(ag ah:x4) (X:x5)=>I y0 (convert bG bi ag) X fun ai=>I y0 (Y2 a1 (.string ⟨#[0,1,2,2,3,3,3,3,4,4,4,4,4,4,4,4,5,5,5,5,5,5,5,5,5,5,5,5,5,5,5,5,6,6,6,6,6,6,6,6,6,6,6,6,6,6,6,6,6,6,6,6,6,6,6,6,6,6,6,6,6,6,6,6,7,7,7,7,7,7,7,7,7,7,7,7,7,7,7,7,7,7,7,7,7,7,7,7,7,7,7,7,7,7,7,7,7,7,7,7,7,7,7,7,7,7,7,7,7,7,7,7,7,7,7,7,7,7,7,7,7,7,7,7,7,7,7,7,8,8,8,8,8,8,8,8,8,8,8,8,8,8,8,8,8,8,8,8,8,8,8,8,8,8,8,8,8,8,8,8,8,8,8,8,8,8,8,8,8,8,8,8,8,8,8,8,8,8,8,8,8,8,8,8,8,8,8,8,8,8,8,8,8,8,8,8,8,8,8,8,8,8,8,8,8,8,8,8,8,8,8,8,8,8,8,8,8,8,8,8,8,8,8,8,8,8,8,8,8,8,8,8,8,8,8,8,8,8,8,8,8,8,8,8,8,8,8,8,8,8,8,8,8,8,8,8]⟩) ai) X fun t22=>I y0 (convert bi J t22) X fun aj=>I y0 (U .add J false false ah aj) X fun ak=>ac ak X) fun ad=>I y0 (U .geq bG false true aa (.int .u64 256)) W fun al=>Split al (I y0 (U .shr bG false true aa (.int .u64 8)) W fun am=>I y0 (U .add J false true ab (.int .i64 8)) W fun ao=>ad am ao W) (ad aa ab W)) fun ae=>I y0 (U .geq bG false true Y (.int .u64 65536)) E fun ap=>Split ap (I y0 (U .shr bG false true Y (.int .u64 16)) E fun aq=>I y0 (U .add J false true n (.int .i64 16)) E fun au=>ae aq au E) (ae Y n E)) fun af=>I y0 (U .geq bG false true V (.int .u64 4294967296)) Z fun t4=>Split t4 (I y0 (U .shr bG false true V (.int .u64 32)) Z fun av=>af av (.int .i64 32) Z) (af V (.int .i64 0) Z)):O y0 k7 [V] Z ac:=aD Tryz.func238 rfl (by kernel_rfl) (by kernel_rfl) h
theorem oK.enter (h:aa y0 (Z5 aK V) Z fun X E=>@aB aT (fun ad W=>Split ad (ac (.int .i64 0) W) (I y0 (x2 aK X 0) W fun ae=>I y0 (x1 ab ae) W fun af=>I y0 (U .add J false true an (.int .i64 1)) W fun ag=>I y0 (j4 ab af (some ag) none none) W fun ah=>I y0 (Z3 aK #[(0,ah)]) W fun ai=>O y0 iE [ai] W fun aj ak=>ac aj ak)) fun Y=>I y0 (U .lss J false true an (.int .i64 0)) E fun al=>Split al (Y (.bool true) E) (I y0 (x2 aK X 0) E fun t9=>I y0 (x1 ab t9) E fun am=>I y0 (u6 #[ab] J #[am]) E fun ao=>I y0 (U .geq J false false an ao) E fun ap=>Y ap E)):O y0 oK [V,an] Z ac:=aD Tryz.func240 rfl (by kernel_rfl) (by kernel_rfl) h
theorem oL.enter (h:O y0 oY [V,an] Z fun W E=>I y0 (U .geq J false true W (.int .i64 0)) E fun X=>ac X E):O y0 oL [V,an] Z ac:=aD Tryz.func242 rfl (by kernel_rfl) (by kernel_rfl) h
theorem k8.enter (h:O y0 qO [V,(.int .i64 10)] Z fun t4 E=>ac t4 E):O y0 k8 [V] Z ac:=aD Tryz.func243 rfl (by kernel_rfl) (by kernel_rfl) h
theorem ko.enter (h:@aB aT (fun W X=>ac W X) fun E=>I y0 (U .lss J false true V (.int .i64 1)) Z fun t4=>Split t4 (E (.bool true) Z) (I y0 (U .gtr J false true V (.int .i64 32)) Z fun Y=>E Y Z)):O y0 ko [V] Z ac:=aD Tryz.func244 rfl (by kernel_rfl) (by kernel_rfl) h
theorem oM.enter (h:aa y0 (n0 bl true (.tuple #[])) Z fun t4 al=>aa y0 (n0 bl true (.tuple #[])) al fun x W=>I y0 (U .eql b6 false true V (.pointer none)) W fun am=>Split am (I y0 (x1 bl x) W fun ao=>aa y0 (x6 bl t4 ao) W fun _ ae=>I y0 (do loadVar bl (←asAddr t4)) ae fun r=>ac (.tuple #[r,(.int .i64 2)]) ae) (I y0 (u6 #[ab] J #[an]) W fun ap=>I y0 (aj V) W fun aq=>I y0 (x2 cL aq 0) W fun au=>I y0 (x1 ab au) W fun av=>I y0 (u6 #[ab] J #[av]) W fun aw=>I y0 (U .neq J false false ap aw) W fun ax=>Split ax (I y0 (x1 bl x) W fun ay=>aa y0 (x6 bl t4 ay) W fun _ af=>I y0 (do loadVar bl (←asAddr t4)) af fun az=>ac (.tuple #[az,(.int .i64 3)]) af) (I y0 (u6 #[ab] J #[an]) W fun t22=>ba (.int .i64 0) (.int .i64 0) W fun t5 X E k=>I y0 (U .lss J false false X t22) E fun aA=>Split aA (I y0 (x7 ab an X) E fun aC=>I y0 (x1 J aC) E fun ad=>@aB aT (fun aE Y=>Split aE (I y0 (x1 bl x) Y fun aF=>aa y0 (x6 bl t4 aF) Y fun _ ag=>I y0 (do loadVar bl (←asAddr t4)) ag fun aG=>ac (.tuple #[aG,(.int .i64 3)]) ag) (I y0 (convert J dA ad) Y fun aH=>I y0 (x7 bl x X) Y fun t45=>aa y0 (x6 dA t45 aH) Y fun _ ah=>I y0 (U .add J false true X (.int .i64 1)) ah fun t46=>k t5 t46 ah)) fun ai=>I y0 (U .lss J false true ad (.int .i64 0)) E fun aI=>Split aI (ai (.bool true) E) (I y0 (aj V) E fun aJ=>I y0 (x2 cL aJ 0) E fun aK=>I y0 (x1 ab aK) E fun aL=>I y0 (x7 ab aL X) E fun aM=>I y0 (x1 J aM) E fun aN=>I y0 (U .geq J false false ad aN) E fun t39=>ai t39 E)) (I y0 (x1 bl x) E fun aO=>aa y0 (x6 bl t4 aO) E fun _ ak=>I y0 (do loadVar bl (←asAddr t4)) ak fun aP=>ac (.tuple #[aP,(.int .i64 0)]) ak)))):O y0 oM [V,an] Z ac:=aD Tryz.func245 rfl (by kernel_rfl) (by kernel_rfl) h
theorem k9.enter (h:@aB aT (fun W X=>ac W X) fun E=>I y0 (U .lss J false true V (.int .i64 1)) Z fun t4=>Split t4 (E (.bool true) Z) (I y0 (U .gtr J false true V (.int .i64 32)) Z fun Y=>E Y Z)):O y0 k9 [V] Z ac:=aD Tryz.func246 rfl (by kernel_rfl) (by kernel_rfl) h
theorem oN.enter (h:aa y0 (convert a1 aX V) Z fun ad ae=>O y0 oZ [ad] ae fun X W=>I y0 (x8 X 0) W fun af=>I y0 (x8 X 1) W fun _=>I y0 (x8 X 2) W fun ag=>aa y0 (convert a1 aX V) W fun ah ai=>O y0 kh [ah] ai fun aj ak=>O y0 iD [aj] ak fun Y E=>I y0 (x8 Y 0) E fun al=>I y0 (x8 Y 1) E fun _=>I y0 (x8 Y 2) E fun _=>@aB aT (fun am ao=>ac am ao) fun ab=>I y0 (U .eql bJ false true ag (.int .i64 0)) E fun t25=>Split t25 (I y0 (U .eql J false true af (.int .i64 1)) E fun ap=>Split ap (I y0 (U .eql a1 false false al V) E fun aq=>ab aq E) (ab (.bool false) E)) (ab (.bool false) E)):O y0 oN [V] Z ac:=aD Tryz.func247 rfl (by kernel_rfl) (by kernel_rfl) h
theorem oO.enter (h:O y0 qP [V,an] Z fun W E=>I y0 (U .geq J false true W (.int .i64 0)) E fun X=>ac X E):O y0 oO [V,an] Z ac:=aD Tryz.func248 rfl (by kernel_rfl) (by kernel_rfl) h
theorem la.enter (h:aa y0 (Z5 bj an) Z fun U E=>I y0 (x1 bj U) E fun W=>O y0 o0 [V,W] E fun X J=>I y0 (Z4 .not X) J fun Y=>ac Y J):O y0 la [V,an] Z ac:=aD Tryz.func249 rfl (by kernel_rfl) (by kernel_rfl) h
theorem oP.enter (h:I y0 (U .eql b6 false true V (.pointer none)) Z fun t4=>Split t4 (ac (.int .i64 0) Z) (I y0 (aj V) Z fun E=>I y0 (x2 cL E 3) Z fun W=>I y0 (x1 dD W) Z fun X=>I y0 (u6 #[dD] J #[X]) Z fun t9=>ac t9 Z)):O y0 oP [V] Z ac:=aD Tryz.func250 rfl (by kernel_rfl) (by kernel_rfl) h
theorem lb.enter (h:I y0 (U .eql b6 false true V (.pointer none)) Z fun t4=>Split t4 (ac (.slice none 0 0) Z) (I y0 (aj V) Z fun E=>I y0 (x2 cL E 0) Z fun J=>I y0 (x1 ab J) Z fun W=>O y0 gq [W] Z fun t9 X=>ac t9 X)):O y0 lb [V] Z ac:=aD Tryz.func251 rfl (by kernel_rfl) (by kernel_rfl) h
theorem kp.enter (h:O y0 mi [V] Z fun t5 E=>O y0 o1 [t5] E fun _ I=>ac t5 I):O y0 kp [V] Z ac:=aD Tryz.func252 rfl (by kernel_rfl) (by kernel_rfl) h
theorem kq.enter (h:aa y0 (Z5 ab V) Z fun J E=>I y0 (Instr.makeFunc (.func hW) #[] #[J]) E fun t3=>ac t3 E):O y0 kq [V] Z ac:=aD Tryz.func253 rfl (by kernel_rfl) (by kernel_rfl) h
theorem mK.enter (h:aa y0 (Z5 bB V) Z fun al aU=>aa y0 (Z5 ab an) aU fun ak am=>I y0 (x1 bB al) am fun aV=>I y0 (U .eql bB false true aV (.pointer none)) am fun aW=>Split aW (fy am fun aX=>ac (.tuple #[(.pointer none),(.int .i64 2)]) aX) (I y0 (x1 ab ak) am fun aY=>O y0 kq [aY] am fun t22 aZ=>O y0 kp [t22] aZ fun aC aD=>I y0 (u6 #[ab] J #[aC]) aD fun t25=>jj (.pointer none) (.int .i64 0) (.int .i64 0) aD fun t4 t5 ap X k=>I y0 (U .lss J false false ap t25) X fun a1=>Split a1 (I y0 (x7 ab aC ap) X fun a2=>I y0 (x1 J a2) X fun a6=>I y0 (U .neq J false false ap a6) X fun a7=>Split a7 (fy X fun a8=>ac (.tuple #[(.pointer none),(.int .i64 1)]) a8) (I y0 (U .add J false true ap (.int .i64 1)) X fun ba=>k t4 t5 ba X)) (aS X fun Y=>I y0 (x1 ab ak) Y fun av=>I y0 (u6 #[ab] J #[av]) Y fun aE=>I y0 (x1 bB al) Y fun bb=>I y0 (aj bb) Y fun bc=>I y0 (x2 bq bc 0) Y fun t39=>I y0 (x1 aK t39) Y fun be=>O y0 mO [be] Y fun bf ad=>(Ext Y ad∨ai y0 (u6 #[ab] J #[av]) aE ad∧ai y0 (x1 ab ak) av ad∧True)∧I y0 (U .neq J false false aE bf) ad fun bg=>Split bg (fy ad fun bh=>ac (.tuple #[(.pointer none),(.int .i64 1)]) bh) (I y0 (x1 ab ak) ad fun bi=>I y0 (u6 #[ab] J #[bi]) ad fun aF=>aa y0 (U7 ab aF aF) ad fun t45 aw=>I y0 (x1 ab ak) aw fun t46=>I y0 (u6 #[ab] J #[t46]) aw fun bj=>bd (.int .i64 0) aw fun aq E bk=>I y0 (U .lss J false false aq bj) E fun bl=>Split bl (I y0 (x7 ab t46 aq) E fun bm=>I y0 (x1 J bm) E fun bn=>I y0 (x1 bB al) E fun t55=>I y0 (aj t55) E fun bo=>I y0 (x2 bq bo 0) E fun bp=>I y0 (x1 aK bp) E fun br=>O y0 jy [br,bn] E fun bt aG=>I y0 (x7 ab t45 aq) aG fun bu=>aa y0 (x6 J bu bt) aG fun _ aH=>I y0 (U .add J false true aq (.int .i64 1)) aH fun bw=>bk bw aH) (I y0 (x1 bB al) E fun bx=>I y0 (aj bx) E fun t66=>I y0 (x2 bq t66 1) E fun bz=>I y0 (x1 af bz) E fun bA=>O y0 k0 [t45,bA,(.int .i64 0)] E fun aI ax=>I y0 (x8 aI 0) ax fun t70=>I y0 (x8 aI 1) ax fun _=>aa y0 (n0 bB true (.tuple #[])) ax fun u bC=>aa y0 (x6 bB u t70) bC fun _ ao=>I y0 (x1 bB u) ao fun bD=>I y0 (aj bD) ao fun bE=>I y0 (x2 bq bE 0) ao fun bF=>I y0 (x1 aK bF) ao fun bG=>O y0 ke [bG] ao fun t76 bH=>qD y0 t76 bH (fun t77 aJ bI bJ=>Over bI fun aL=>I y0 (u6 #[ab] J #[aJ]) aL fun aM=>aa y0 (U7 ab aM aM) aL fun aN ay=>I y0 (x1 ab ak) ay fun aO=>I y0 (u6 #[ab] J #[aO]) ay fun bK=>bd (.int .i64 0) ay fun au ag bL=>I y0 (U .lss J false false au bK) ag fun bM=>Split bM (I y0 (x7 ab aO au) ag fun bN=>I y0 (x1 J bN) ag fun bO=>I y0 (x7 ab aJ au) ag fun bP=>I y0 (x1 J bP) ag fun bQ=>I y0 (x7 ab aN bO) ag fun bR=>aa y0 (x6 J bR bQ) ag fun _ aP=>I y0 (U .add J false true au (.int .i64 1)) aP fun bS=>bL bS aP) (aS ag fun ah=>I y0 (x1 bB u) ah fun az=>I y0 (aj az) ah fun aA=>I y0 (x2 bq aA 2) ah fun aB=>I y0 (x1 ae aB) ah fun aQ=>I y0 (x1 bB al) ah fun bT=>O y0 ld [bT,aN] ah fun aR W=>(Ext ah W∨ai y0 (x1 ae aB) aQ W∧ai y0 (x2 bq aA 2) aB W∧ai y0 (aj az) aA W∧ai y0 (x1 bB u) az W∧True)∧I y0 (x8 aR 0) W fun bU=>I y0 (x8 aR 1) W fun _=>I y0 (x7 ae aQ t77) W fun bV=>aa y0 (x6 af bV bU) W fun _ bW=>bJ .normal bW)) (fun aT=>I y0 (x1 bB u) aT fun bX=>fy aT fun bY=>ac (.tuple #[bX,(.int .i64 0)]) bY) (fun _=>False) []))))):O y0 mK [V,an] Z ac:=O.enter (P:=y0) mixed (show y0.funcs[mK]? =some Tryz.f254 from Tryz.func254) rfl (by kernel_rfl) (by kernel_rfl) (by kernel_rfl) (Eq.mp (by kernel_rfl) h)
theorem mL.enter (h:I y0 (u6 #[ab] J #[an]) Z fun ae=>I y0 (aj V) Z fun af=>I y0 (x2 bq af 0) Z fun ag=>I y0 (x1 aK ag) Z fun ah=>O y0 mO [ah] Z fun ai X=>I y0 (U .neq J false false ae ai) X fun ak=>Split ak (ac (.bool false) X) (I y0 (u6 #[ab] J #[an]) X fun al=>ba (.bool false) (.int .i64 0) X fun t4 W E k=>I y0 (U .lss J false false W al) E fun am=>Split am (I y0 (x7 ab an W) E fun ao=>I y0 (x1 J ao) E fun ad=>@aB aT (fun ap Y=>Split ap (ac (.bool false) Y) (I y0 (U .add J false true W (.int .i64 1)) Y fun aq=>k t4 aq Y)) fun aa=>I y0 (U .lss J false true ad (.int .i64 0)) E fun au=>Split au (aa (.bool true) E) (I y0 (U .gtr J false true W (.int .i64 0)) E fun av=>Split av (I y0 (U .sub J false true W (.int .i64 1)) E fun aw=>I y0 (x7 ab an aw) E fun ax=>I y0 (x1 J ax) E fun ay=>I y0 (U .geq J false false ay ad) E fun az=>aa az E) (aa (.bool false) E))) (ac (.bool true) E))):O y0 mL [V,an] Z ac:=aD Tryz.func255 rfl (by kernel_rfl) (by kernel_rfl) h
theorem oQ.enter (h:I y0 (u6 #[ab] J #[V]) Z fun ak=>I y0 (U .lss J false true ak (.int .i64 2)) Z fun al=>Split al (ac V Z) (ba (.slice none 0 0) (.int .i64 1) Z fun am k ae ao=>I y0 (u6 #[ab] J #[V]) ae fun ap=>I y0 (U .lss J false false k ap) ae fun aq=>Split aq (aS ae fun W=>I y0 (x7 ab V k) W fun au=>I y0 (x1 J au) W fun av=>I y0 (U .sub J false true k (.int .i64 1)) W fun t22=>I y0 (x7 ab V t22) W fun aw=>I y0 (x1 J aw) W fun ax=>I y0 (U .eql J false false av ax) W fun t25=>Split t25 (I y0 (j4 ab V (some k) none none) W fun af=>ba k (.int .i64 1) W fun X Y ad ay=>I y0 (u6 #[ab] J #[af]) ad fun az=>I y0 (U .lss J false false Y az) ad fun aA=>Split aA (@aB aT (fun aC ag=>I y0 (U .add J false true Y (.int .i64 1)) ag fun aE=>ay aC aE ag) fun ah=>aS ad fun E=>I y0 (x7 ab af Y) E fun aF=>I y0 (x1 J aF) E fun aG=>I y0 (U .sub J false true Y (.int .i64 1)) E fun aH=>I y0 (x7 ab af aH) E fun aI=>I y0 (x1 J aI) E fun aJ=>I y0 (U .neq J false false aG aJ) E fun aK=>Split aK (I y0 (x7 ab af Y) E fun aL=>I y0 (x1 J aL) E fun t50=>I y0 (x7 ab V X) E fun aM=>aa y0 (x6 J aM t50) E fun _ ai=>I y0 (U .add J false true X (.int .i64 1)) ai fun t53=>ah t53 ai) (ah X E)) (I y0 (j4 ab V (some X) none none) ad fun aN=>aa y0 (u7.clear_ #[ab] qS #[aN]) ad fun _ aj=>I y0 (j4 ab V none (some X) none) aj fun aO=>ac aO aj)) (I y0 (U .add J false true k (.int .i64 1)) W fun aP=>ao am aP W)) (ac V ae))):O y0 oQ [V] Z ac:=aD Tryz.func256 rfl (by kernel_rfl) (by kernel_rfl) h
theorem oR.enter (h:I y0 (u6 #[cz] J #[V]) Z fun ai=>ba (.int .i64 0) (.int .i64 0) Z fun size X E k=>I y0 (U .lss J false false X ai) E fun aj=>Split aj (@aB aT (fun ak ad=>I y0 (U .add J false true X (.int .i64 1)) ad fun t22=>k ak t22 ad) fun al=>I y0 (x7 cz V X) E fun am=>I y0 (x1 ab am) E fun ao=>I y0 (u6 #[ab] J #[ao]) E fun ap=>I y0 (U .add J false false size ap) E fun ae=>I y0 (U .lss J false true ae (.int .i64 0)) E fun aq=>Split aq (I y0 (Instr.makeInterface a1 (.string ⟨#[108,101,110,32,111,117,116,32,111,102,32,114,97,110,103,101]⟩)) E fun _=>False) (al ae E)) (O y0 o2 [(.slice none 0 0),size] E fun au af=>I y0 (u6 #[cz] J #[V]) af fun av=>ba au (.int .i64 0) af fun ag Y W aw=>I y0 (U .lss J false false Y av) W fun ax=>Split ax (I y0 (x7 cz V Y) W fun ay=>I y0 (x1 ab ay) W fun az=>aa y0 (r8 #[ab,ab] ab #[ag,az]) W fun aA ah=>I y0 (U .add J false true Y (.int .i64 1)) ah fun aC=>aw aA aC ah) (ac ag W))):O y0 oR [V] Z ac:=aD Tryz.func257 rfl (by kernel_rfl) (by kernel_rfl) h
theorem oS.enter (h:I y0 (u6 #[ab] J #[V]) Z fun ap=>aa y0 (U7 ab ap ap) Z fun aq au=>I y0 (u6 #[ab] J #[V]) au fun aC=>jj (.slice none 0 0) (.bool false) (.int .i64 0) au fun aE aF t22 X k=>I y0 (U .lss J false false t22 aC) X fun aG=>Split aG (I y0 (x7 ab V t22) X fun t25=>I y0 (x1 J t25) X fun av=>O y0 hR [bb,av] X fun ae aH=>O y0 hR [jz,av] aH fun af aI=>@aB aT (fun t53 aw=>Split t53 (ac (.tuple #[(.slice none 0 0),(.bool false)]) aw) (aS aw fun W=>I y0 (aj an) W fun aJ=>I y0 (x2 bq aJ 0) W fun aL=>I y0 (x1 aK aL) W fun aM=>I y0 (aj cQ) W fun ag=>I y0 (x2 bq ag 0) W fun ah=>I y0 (x1 aK ah) W fun ax=>O y0 jy [aM,ae] W fun aN Y=>(Ext W Y∨ai y0 (x1 aK ah) ax Y∧ai y0 (x2 bq ag 0) ah Y∧ai y0 (aj cQ) ag Y∧True)∧O y0 jy [ax,af] Y fun aO ak=>I y0 (u7.max_ #[J,J] J #[aN,aO]) ak fun aP=>I y0 (x7 ab aq t22) ak fun aQ=>aa y0 (x6 J aQ aP) ak fun _ ay=>I y0 (U .add J false true t22 (.int .i64 1)) ay fun t70=>k aE aF t70 ay)) fun al=>aS aI fun E=>I y0 (U .geq J false true ae (.int .i64 0)) E fun aR=>Split aR (I y0 (U .geq J false true af (.int .i64 0)) E fun aU=>Split aU (I y0 (aj an) E fun aV=>I y0 (x2 bq aV 0) E fun aW=>I y0 (x1 aK aW) E fun aX=>I y0 (aj cQ) E fun am=>I y0 (x2 bq am 0) E fun ao=>I y0 (x1 aK ao) E fun az=>O y0 jy [aX,ae] E fun t45 ad=>(Ext E ad∨ai y0 (x1 aK ao) az ad∧ai y0 (x2 bq am 0) ao ad∧ai y0 (aj cQ) am ad∧True)∧O y0 jy [az,af] ad fun aY aA=>I y0 (U .neq J false false t45 aY) aA fun aZ=>al aZ aA) ((Ext E E∨True∧True∧True∧True)∧al (.bool false) E)) ((Ext E E∨True∧True∧True∧True)∧al (.bool false) E)) (ac (.tuple #[aq,(.bool true)]) X)):O y0 oS [V,an,bb,cQ,jz] Z ac:=aD Tryz.func258 rfl (by kernel_rfl) (by kernel_rfl) h
theorem ld.enter (h:O y0 mv [V,an] Z fun J E=>I y0 (x8 J 0) E fun X=>I y0 (x8 J 1) E fun W=>I y0 (U .neq bJ false true W (.int .i64 0)) E fun Y=>Split Y (ac (.tuple #[(.int .i64 0),W]) E) (I y0 (aj V) E fun aa=>I y0 (x2 bq aa 2) E fun ab=>I y0 (x1 ae ab) E fun ad=>I y0 (x7 ae ad X) E fun t22=>I y0 (x1 af t22) E fun ag=>ac (.tuple #[ag,(.int .i64 0)]) E)):O y0 ld [V,an] Z ac:=aD Tryz.func259 rfl (by kernel_rfl) (by kernel_rfl) h
theorem mM.enter (h:I y0 (u6 #[ab] J #[bb]) Z fun Y=>aa y0 (U7 ab Y Y) Z fun ad ae=>I y0 (u6 #[ab] J #[bb]) ae fun ag=>bd (.int .i64 0) ae fun W E k=>I y0 (U .lss J false false W ag) E fun ah=>Split ah (I y0 (x7 ab bb W) E fun ai=>I y0 (x1 J ai) E fun aj=>O y0 hR [an,aj] E fun t25 X=>I y0 (x7 ab V t25) X fun ak=>I y0 (x1 J ak) X fun al=>I y0 (x7 ab ad W) X fun am=>aa y0 (x6 J am al) X fun _ af=>I y0 (U .add J false true W (.int .i64 1)) af fun ao=>k ao af) (ac ad E)):O y0 mM [V,an,bb] Z ac:=aD Tryz.func260 rfl (by kernel_rfl) (by kernel_rfl) h
theorem qM.enter (h:I y0 (u6 #[ae] J #[V]) Z fun Y=>ba (.int .i64 0) (.int .i64 0) Z fun t4 W E k=>I y0 (U .lss J false false W Y) E fun t9=>Split t9 (I y0 (x7 ae V W) E fun aa=>I y0 (x1 af aa) E fun ab=>hJ y0 false an [ab] E fun ad X=>Split ad (ac W X) (I y0 (U .add J false true W (.int .i64 1)) X fun ag=>k t4 ag X)) (ac (.int .i64 (-1)) E)):O y0 qM [V,an] Z ac:=aD Tryz.func261 rfl (by kernel_rfl) (by kernel_rfl) h
theorem hl.enter (h:aa y0 (Instr.makeMap fY none) Z fun t9 ad=>I y0 (u6 #[ae] J #[V]) ad fun ap=>bd (.int .i64 0) ad fun X W k=>I y0 (U .lss J false false X ap) W fun aq=>Split aq (I y0 (x7 ae V X) W fun au=>I y0 (x1 af au) W fun ag=>I y0 (V3 fY t9 ag false) W fun av=>I y0 (U .add J false true av (.int .i64 1)) W fun aw=>aa y0 (Instr.mapUpdate fY t9 ag aw) W fun _ ah=>I y0 (U .add J false true X (.int .i64 1)) ah fun ax=>k ax ah) (O y0 pa [V] W fun t22 ay=>aa y0 (Instr.range fY t9) ay fun ai az=>bd t22 az fun hp aA aj=>nC y0 (false,Z.heap.size) (Instr.next ai false 0) aA fun t25 Y=>I y0 (x8 t25 0) Y fun aC=>Split aC (aa y0 (Instr.entry ai) Y fun ak E=>I y0 (x8 ak 0) E fun al=>I y0 (x8 ak 1) E fun am=>@aB aT (fun t46 ao=>Split t46 (aj al ao) (aj hp ao)) fun ab=>I y0 (V3 fY t9 hp false) E fun aE=>I y0 (U .gtr J false false am aE) E fun aF=>Split aF (ab (.bool true) E) (I y0 (V3 fY t9 hp false) E fun t39=>I y0 (U .eql J false false am t39) E fun aG=>Split aG (I y0 (U .lss af false false al hp) E fun aH=>ab aH E) (ab (.bool false) E))) (ac hp Y))):O y0 hl [V] Z ac:=aD Tryz.func263 rfl (by kernel_rfl) (by kernel_rfl) h
end
section
variable {Z:x5} {ac:aT} {V an bb cQ jz lg lh li lj lk ll lm:x4}
theorem mN.enter (h:aa y0 (Z5 bl V) Z fun J U=>aa y0 (Z5 bl an) U fun W X=>aS X fun E=>I y0 (j4 bl J none none none) E fun t5=>I y0 (j4 bl W none none none) E fun Y=>O y0 oT [t5,Y] E fun ab ad=>ac ab ad):O y0 mN [V,an] Z ac:=aD Tryz.func264 rfl (by kernel_rfl) (by kernel_rfl) h
theorem oT.enter (h:I y0 (u6 #[fj] J #[V]) Z fun aa=>ba (.int .i64 0) (.int .i64 0) Z fun t4 W E k=>I y0 (U .lss J false false W aa) E fun ab=>Split ab (I y0 (x7 fj V W) E fun ad=>I y0 (x1 dA ad) E fun ae=>I y0 (u6 #[fj] J #[an]) E fun af=>I y0 (U .geq J false false W af) E fun ag=>Split ag (ac (.int .i64 1) E) (I y0 (x7 fj an W) E fun t22=>I y0 (x1 dA t22) E fun ah=>O y0 pb [ae,ah] E fun Y X=>I y0 (U .neq J false true Y (.int .i64 0)) X fun ai=>Split ai (ac Y X) (I y0 (U .add J false true W (.int .i64 1)) X fun aj=>k t4 aj X))) (I y0 (u6 #[fj] J #[V]) E fun ak=>I y0 (u6 #[fj] J #[an]) E fun al=>I y0 (U .lss J false false ak al) E fun am=>Split am (ac (.int .i64 (-1)) E) (ac (.int .i64 0) E))):O y0 oT [V,an] Z ac:=aD Tryz.func265 rfl (by kernel_rfl) (by kernel_rfl) h
theorem oU.enter (h:O y0 pc [V] Z fun E I=>O y0 vd [E,an] I fun _ J=>ac E J):O y0 oU [V,an] Z ac:=aD Tryz.func266 rfl (by kernel_rfl) (by kernel_rfl) h
theorem oV.enter (h:aa y0 (Z5 dD V) Z fun J E=>I y0 (Instr.makeFunc (.func gu) #[] #[J]) E fun t3=>ac t3 E):O y0 oV [V] Z ac:=aD Tryz.func267 rfl (by kernel_rfl) (by kernel_rfl) h
theorem oW.enter (h:ba (.slice none 0 0) (.int .i64 0) Z fun out v W k=>I y0 (U .lss J false true v (.int .i64 64)) W fun ah=>Split ah (I y0 (u6 #[ae] J #[V]) W fun ai=>ba out (.int .i64 0) W fun X Y E aj=>I y0 (U .lss J false false Y ai) E fun ak=>Split ak (@aB aT (fun al ad=>I y0 (U .add J false true Y (.int .i64 1)) ad fun am=>aj al am ad) fun ag=>I y0 (x7 ae V Y) E fun ao=>I y0 (x1 af ao) E fun ap=>I y0 (U .eql af false false ap v) E fun aq=>Split aq (aa y0 (u9 ab 1 #[(0,v)]) E fun t22 au=>aa y0 (r8 #[ab,ab] ab #[X,t22]) au fun av aw=>ag av aw) (ag X E)) (I y0 (U .add J false true v (.int .i64 1)) E fun ax=>k X ax E)) (ac out W)):O y0 oW [V] Z ac:=aD Tryz.func268 rfl (by kernel_rfl) (by kernel_rfl) h
theorem oX.enter (h:aa y0 (Z5 aF V) Z fun ad E=>I y0 (x2 aF ad 2) E fun aj=>I y0 (x1 af aj) E fun ak=>I y0 (x2 aF ad 3) E fun al=>I y0 (x1 cp al) E fun ag=>I y0 (u6 #[cp] J #[ag]) E fun am=>ba ak (.int .i64 0) E fun c Y W ao=>I y0 (U .lss J false false Y am) W fun ap=>Split ap (@aB aT (fun aq ah=>I y0 (U .add J false true Y (.int .i64 1)) ah fun t25=>ao aq t25 ah) fun ai=>I y0 (x7 cp ag Y) W fun au=>I y0 (x1 bA au) W fun av=>aa y0 (n0 bA true (.tuple #[])) W fun x aw=>aa y0 (x6 bA x av) aw fun _ ab=>I y0 (x2 bA x 0) ab fun ax=>I y0 (x1 ae ax) ab fun ay=>O y0 iF [ay,an] ab fun t22 X=>Split t22 (I y0 (x2 bA x 1) X fun az=>I y0 (x1 af az) X fun aA=>ai aA X) (ai c X)) (O y0 pd [c,bb] W fun aC aE=>ac aC aE)):O y0 oX [V,an,bb] Z ac:=aD Tryz.func269 rfl (by kernel_rfl) (by kernel_rfl) h
theorem qN.enter (h:I y0 (U .and bG false true V (.int .u64 4294967295)) Z fun E=>I y0 (U .shr bG false true V (.int .u64 32)) Z fun J=>I y0 (U .and bG false true an (.int .u64 4294967295)) Z fun W=>I y0 (U .shr bG false true an (.int .u64 32)) Z fun X=>I y0 (U .mul bG false false E W) Z fun aa=>I y0 (U .mul bG false false J W) Z fun ab=>I y0 (U .shr bG false true aa (.int .u64 32)) Z fun ad=>I y0 (U .add bG false false ab ad) Z fun Y=>I y0 (U .and bG false true Y (.int .u64 4294967295)) Z fun ae=>I y0 (U .shr bG false true Y (.int .u64 32)) Z fun af=>I y0 (U .mul bG false false E X) Z fun ag=>I y0 (U .add bG false false ae ag) Z fun t39=>I y0 (U .mul bG false false J X) Z fun ah=>I y0 (U .add bG false false ah af) Z fun ai=>I y0 (U .shr bG false true t39 (.int .u64 32)) Z fun t46=>I y0 (U .add bG false false ai t46) Z fun aj=>I y0 (U .mul bG false false V an) Z fun t50=>ac (.tuple #[aj,t50]) Z):O y0 qN [V,an] Z ac:=aD Tryz.func271 rfl (by kernel_rfl) (by kernel_rfl) h
theorem oY.enter (h:I y0 (u6 #[ae] J #[V]) Z fun X=>ba (.int .i64 0) (.int .i64 0) Z fun t4 W E k=>I y0 (U .lss J false false W X) E fun t9=>Split t9 (I y0 (x7 ae V W) E fun Y=>I y0 (x1 af Y) E fun aa=>I y0 (U .eql af false false an aa) E fun ab=>Split ab (ac W E) (I y0 (U .add J false true W (.int .i64 1)) E fun ad=>k t4 ad E)) (ac (.int .i64 (-1)) E)):O y0 oY [V,an] Z ac:=aD Tryz.func277 rfl (by kernel_rfl) (by kernel_rfl) h
theorem qO.enter (h:O y0 pe [V,an] Z fun E I=>ac E I):O y0 qO [V,an] Z ac:=aD Tryz.func278 rfl (by kernel_rfl) (by kernel_rfl) h
theorem oZ.enter (h:O y0 kh [V] Z fun Y aa=>l4 (.int .i64 0) (.int .i64 0) (.int .i64 0) (.int .i64 0) aa fun ab t3 t4 n ad k=>O y0 iD [Y] ad fun W E=>I y0 (x8 W 0) E fun _=>I y0 (x8 W 1) E fun ae=>I y0 (x8 W 2) E fun X=>I y0 (U .eql bJ false true X (.int .i64 0)) E fun af=>Split af (I y0 (U .add J false true n (.int .i64 1)) E fun t22=>k ab t3 t4 t22 E) (I y0 (U .eql bJ false true X (.int .i64 11)) E fun ag=>Split ag (ac (.tuple #[n,ae,X]) E) (I y0 (u6 #[aX] J #[V]) E fun ah=>ac (.tuple #[n,ah,(.int .i64 0)]) E))):O y0 oZ [V] Z ac:=aD Tryz.func279 rfl (by kernel_rfl) (by kernel_rfl) h
theorem qP.enter (h:I y0 (u6 #[bO] J #[V]) Z fun Y=>ba (.int .i64 0) (.int .i64 0) Z fun t4 W E k=>I y0 (U .lss J false false W Y) E fun t9=>Split t9 (I y0 (x7 bO V W) E fun aa=>I y0 (x1 bj aa) E fun ab=>hJ y0 false an [ab] E fun ad X=>Split ad (ac W X) (I y0 (U .add J false true W (.int .i64 1)) X fun ae=>k t4 ae X)) (ac (.int .i64 (-1)) E)):O y0 qP [V,an] Z ac:=aD Tryz.func280 rfl (by kernel_rfl) (by kernel_rfl) h
theorem o0.enter (h:aa y0 (Z5 bj an) Z fun ae aG=>@aB aT (fun aH ah=>Split aH (ac (.bool false) ah) (I y0 (x2 bj ae 0) ah fun aI=>I y0 (x1 ab aI) ah fun az=>I y0 (u6 #[ab] J #[az]) ah fun aJ=>ba (.bool false) (.int .i64 0) ah fun t4 ak al k=>I y0 (U .lss J false false ak aJ) al fun aK=>Split aK (I y0 (x7 ab az ak) al fun aL=>I y0 (x1 J aL) al fun am=>@aB aT (fun aM ap=>Split aM (ac (.bool false) ap) (I y0 (U .add J false true ak (.int .i64 1)) ap fun aN=>k t4 aN ap)) fun ao=>aS al fun E=>I y0 (U .lss J false true am (.int .i64 0)) E fun aO=>Split aO ((Ext E E∨True∧True∧True∧True∧True)∧ao (.bool true) E) (I y0 (aj V) E fun aP=>I y0 (x2 bg aP 2) E fun aQ=>I y0 (x1 ab aQ) E fun aR=>I y0 (u6 #[ab] J #[aR]) E fun t45=>I y0 (U .geq J false false am t45) E fun t46=>Split t46 ((Ext E E∨True∧True∧True∧True∧True)∧ao (.bool true) E) (I y0 (x2 bj ae 0) E fun aU=>I y0 (x1 ab aU) E fun t50=>O y0 hR [t50,am] E fun aV Y=>I y0 (U .neq J false false aV ak) Y fun aW=>Split aW ((Ext Y Y∨True∧True∧True∧True∧True)∧ao (.bool true) Y) (I y0 (x2 bj ae 1) Y fun aX=>I y0 (x1 b6 aX) Y fun aY=>I y0 (aj V) Y fun aq=>I y0 (x2 bg aq 2) Y fun au=>I y0 (x1 ab au) Y fun t66=>I y0 (x7 ab t66 am) Y fun aA=>I y0 (x1 J aA) Y fun aC=>O y0 lb [aY] Y fun aZ ad=>(Ext Y ad∨ai y0 (x1 J aA) aC ad∧ai y0 (x1 ab au) t66 ad∧ai y0 (x2 bg aq 2) au ad∧ai y0 (aj V) aq ad∧True)∧I y0 (x7 ab aZ ak) ad fun a1=>I y0 (x1 J a1) ad fun a2=>I y0 (U .neq J false false a2 aC) ad fun t70=>ao t70 ad)))) (ac (.bool true) al))) fun av=>aS aG fun W=>I y0 (x2 bj ae 1) W fun a6=>I y0 (x1 b6 a6) W fun a7=>I y0 (U .eql b6 false true a7 (.pointer none)) W fun t9=>Split t9 ((Ext W W∨True∧True∧True∧True)∧(Ext W W∨True∧True∧True∧True)∧av (.bool true) W) (I y0 (x2 bj ae 1) W fun a8=>I y0 (x1 b6 a8) W fun bb=>I y0 (aj V) W fun aw=>I y0 (x2 bg aw 1) W fun ax=>I y0 (x1 af ax) W fun aE=>O y0 pf [bb] W fun bc X=>(Ext W X∨ai y0 (x1 af ax) aE X∧ai y0 (x2 bg aw 1) ax X∧ai y0 (aj V) aw X∧True)∧I y0 (U .neq af false false bc aE) X fun bd=>Split bd ((Ext X X∨True∧True∧True∧True)∧av (.bool true) X) (I y0 (x2 bj ae 1) X fun be=>I y0 (x1 b6 be) X fun t22=>I y0 (x2 bj ae 0) X fun ay=>I y0 (x1 ab ay) X fun t25=>I y0 (u6 #[ab] J #[t25]) X fun aF=>O y0 pg [t22] X fun bf ag=>(Ext X ag∨ai y0 (u6 #[ab] J #[t25]) aF ag∧ai y0 (x1 ab ay) t25 ag∧ai y0 (x2 bj ae 0) ay ag∧True)∧I y0 (U .neq J false false bf aF) ag fun bh=>av bh ag))):O y0 o0 [V,an] Z ac:=aD Tryz.func281 rfl (by kernel_rfl) (by kernel_rfl) h
theorem o1.enter (h:I y0 (u6 #[ab] J #[V]) Z fun t4=>I y0 (convert J hn t4) Z fun E=>O y0 ot [E] Z fun t9 U=>O y0 mP [V,(.int .i64 0),t4,t9] U fun _ W=>ac (.tuple #[]) W):O y0 o1 [V] Z ac:=aD Tryz.func282 rfl (by kernel_rfl) (by kernel_rfl) h
theorem hW.enter (h:I y0 (x1 ab an) Z fun t5=>I y0 (u6 #[ab] J #[t5]) Z fun X=>bd (.int .i64 0) Z fun W E k=>I y0 (U .lss J false false W X) E fun Y=>Split Y (I y0 (x7 ab t5 W) E fun t9=>I y0 (x1 J t9) E fun aa=>hJ y0 true V [aa] E fun ad O=>I y0 (Z4 .not ad) O fun ae=>Split ae (ac (.tuple #[]) O) (I y0 (U .add J false true W (.int .i64 1)) O fun af=>k af O)) (ac (.tuple #[]) E)):ey y0 hW [V,an] Z ac:=ey.enter (P:=y0) mixed (show y0.funcs[hW]? =some Tryz.f283 from Tryz.func283) rfl (by kernel_rfl) (by kernel_rfl) (by kernel_rfl) (Eq.mp (by kernel_rfl) h)
theorem mO.enter (h:aa y0 (Z5 aK V) Z fun U E=>I y0 (x2 aK U 0) E fun t3=>I y0 (x1 ab t3) E fun t4=>I y0 (u6 #[ab] J #[t4]) E fun t5=>ac t5 E):O y0 mO [V] Z ac:=aD Tryz.func284 rfl (by kernel_rfl) (by kernel_rfl) h
theorem jy.enter (h:aa y0 (Z5 aK V) Z fun X E=>@aB aT (fun ad W=>Split ad (ac (.int .i64 0) W) (I y0 (x2 aK X 0) W fun ae=>I y0 (x1 ab ae) W fun af=>I y0 (x7 ab af an) W fun ag=>I y0 (x1 J ag) W fun ah=>ac ah W)) fun Y=>I y0 (U .lss J false true an (.int .i64 0)) E fun ai=>Split ai (Y (.bool true) E) (I y0 (x2 aK X 0) E fun t9=>I y0 (x1 ab t9) E fun aj=>I y0 (u6 #[ab] J #[aj]) E fun ak=>I y0 (U .geq J false false an ak) E fun al=>Y al E)):O y0 jy [V,an] Z ac:=aD Tryz.func285 rfl (by kernel_rfl) (by kernel_rfl) h
theorem o2.enter (h:@aB dF (fun E=>@aB aT (fun ad ae=>ac ad ae) fun X=>I y0 (u7.cap_ #[ab] J #[V]) E fun af=>I y0 (u6 #[ab] J #[V]) E fun ag=>I y0 (U .sub J false false af ag) E fun ah=>I y0 (U .sub J false false an ah) E fun Y=>I y0 (U .gtr J false true Y (.int .i64 0)) E fun ai=>Split ai (I y0 (u7.cap_ #[ab] J #[V]) E fun aj=>I y0 (j4 ab V none (some aj) none) E fun ak=>aa y0 (r8 #[ab,J] ab #[ak,Y]) E fun t22 W=>I y0 (u6 #[ab] J #[V]) W fun al=>I y0 (j4 ab t22 none (some al) none) W fun t25=>X t25 W) (X V E)) fun am=>I y0 (U .lss J false true an (.int .i64 0)) Z fun ao=>Split ao (I y0 (Instr.makeInterface a1 (.string ⟨#[99,97,110,110,111,116,32,98,101,32,110,101,103,97,116,105,118,101]⟩)) Z fun _=>False) (am Z)):O y0 o2 [V,an] Z ac:=aD Tryz.func286 rfl (by kernel_rfl) (by kernel_rfl) h
theorem pa.enter (h:@aB dF (fun W=>I y0 (x7 ae V (.int .i64 0)) W fun X=>I y0 (x1 af X) W fun Y=>ba Y (.int .i64 1) W fun m i E k=>I y0 (u6 #[ae] J #[V]) E fun aa=>I y0 (U .lss J false false i aa) E fun ab=>Split ab (I y0 (x7 ae V i) E fun ad=>I y0 (x1 af ad) E fun t22=>I y0 (T1 #[af,af] af #[m,t22]) E fun ag=>I y0 (U .add J false true i (.int .i64 1)) E fun ah=>k ag ah E) (ac m E)) fun ai=>I y0 (u6 #[ae] J #[V]) Z fun aj=>I y0 (U .lss J false true aj (.int .i64 1)) Z fun ak=>Split ak (I y0 (Instr.makeInterface a1 (.string ⟨#[115,108,105,99,101,115,46,77,105,110,58,32,101,109,112,116,121,32,108,105,115,116]⟩)) Z fun _=>False) (ai Z)):O y0 pa [V] Z ac:=aD Tryz.func295 rfl (by kernel_rfl) (by kernel_rfl) h
theorem pb.enter (h:O y0 mQ [V] Z fun W X=>O y0 mQ [an] X fun J E=>Split W (Split J (ac (.int .i64 0) E) (ac (.int .i64 (-1)) E)) (Split J (ac (.int .i64 1) E) (I y0 (U .lss dA false false V an) E fun Y=>Split Y (ac (.int .i64 (-1)) E) (I y0 (U .gtr dA false false V an) E fun aa=>Split aa (ac (.int .i64 1) E) (ac (.int .i64 0) E))))):O y0 pb [V,an] Z ac:=aD Tryz.func296 rfl (by kernel_rfl) (by kernel_rfl) h
theorem pc.enter (h:O y0 mR [(.slice none 0 0),V] Z fun t4 E=>ac t4 E):O y0 pc [V] Z ac:=aD Tryz.func297 rfl (by kernel_rfl) (by kernel_rfl) h
theorem gu.enter (h:I y0 (x1 dD an) Z fun t4=>aa y0 (Instr.range dD t4) Z fun t5 X=>Ag X fun Y k=>nC y0 (true,0) (Instr.next t5 false 0) Y fun ab E=>I y0 (x8 ab 0) E fun ad=>Split ad (aa y0 (Instr.entry t5) E fun ae O=>I y0 (x8 ae 0) O fun t9=>aa y0 (n0 bl true (.tuple #[])) O fun U af=>aa y0 (x6 bl U t9) af fun _ W=>I y0 (x1 bl U) W fun ag=>hJ y0 true V [ag] W fun ah J=>I y0 (Z4 .not ah) J fun ai=>Split ai (ac (.tuple #[]) J) (k J)) (ac (.tuple #[]) E)):ey y0 gu [V,an] Z ac:=ey.enter (P:=y0) mixed (show y0.funcs[gu]? =some Tryz.f299 from Tryz.func299) rfl (by kernel_rfl) (by kernel_rfl) (by kernel_rfl) (Eq.mp (by kernel_rfl) h)
theorem pd.enter (h:I y0 (U .lss af false false V an) Z fun E=>Split E (ac V Z) (ac an Z)):O y0 pd [V,an] Z ac:=aD Tryz.func300 rfl (by kernel_rfl) (by kernel_rfl) h
theorem pe.enter (h:I y0 (U .eql J false true an (.int .i64 10)) Z fun aj=>Split aj (@aB aT (fun ak ae=>Split ak (O y0 ph [V] ae fun al am=>ac al am) (aa y0 (n0 gU true (.tuple #[])) ae fun a W=>I y0 (convert af bG V) W fun ag=>@aB aT (fun u ao=>O y0 pi [u] ao fun Y ab=>I y0 (U .add J true false (.int .i64 1) Y) ab fun ap=>I y0 (j4 gU a (some (.int .i64 1)) (some ap) none) ab fun aq=>O y0 pj [aq,u] ab fun _ E=>I y0 (U .lss af false true V (.int .i64 0)) E fun au=>Split au (I y0 (x7 gU a (.int .i64 0)) E fun av=>aa y0 (x6 bi av (.int .u8 45)) E fun _ X=>I y0 (U .add J true false (.int .i64 1) Y) X fun aw=>I y0 (j4 gU a none (some aw) none) X fun ax=>I y0 (convert aX a1 ax) X fun t39=>ac t39 X) (I y0 (U .add J true false (.int .i64 1) Y) E fun ay=>I y0 (j4 gU a (some (.int .i64 1)) (some ay) none) E fun az=>I y0 (convert aX a1 az) E fun aA=>ac aA E)) fun ah=>I y0 (U .lss af false true V (.int .i64 0)) W fun aC=>Split aC (I y0 (Z4 .neg ag) W fun t25=>ah t25 W) (ah ag W))) fun ai=>I y0 (U .leq af true false (.int .i64 0) V) Z fun aE=>Split aE (I y0 (U .lss af false true V (.int .i64 100)) Z fun aF=>ai aF Z) (ai (.bool false) Z)) (I y0 (convert af bG V) Z fun t46=>I y0 (U .lss af false true V (.int .i64 0)) Z fun aG=>O y0 AB [(.slice none 0 0),t46,an,aG,(.bool false)] Z fun t50 ad=>I y0 (x8 t50 0) ad fun _=>I y0 (x8 t50 1) ad fun aH=>ac aH ad)):O y0 pe [V,an] Z ac:=aD Tryz.func302 rfl (by kernel_rfl) (by kernel_rfl) h
theorem pf.enter (h:I y0 (U .eql b6 false true V (.pointer none)) Z fun t4=>Split t4 (ac (.int .i64 0) Z) (I y0 (aj V) Z fun E=>I y0 (x2 cL E 1) Z fun J=>I y0 (x1 af J) Z fun W=>ac W Z)):O y0 pf [V] Z ac:=aD Tryz.func303 rfl (by kernel_rfl) (by kernel_rfl) h
theorem pg.enter (h:O y0 lb [V] Z fun t4 E=>I y0 (u6 #[ab] J #[t4]) E fun t5=>ac t5 E):O y0 pg [V] Z ac:=aD Tryz.func304 rfl (by kernel_rfl) (by kernel_rfl) h
theorem mP.enter (h:jk an bb cQ (.bool true) (.bool true) Z fun E W ai aj am Y k=>I y0 (U .sub J false false W E) Y fun ao=>I y0 (U .leq J false true ao (.int .i64 12)) Y fun aL=>Split aL (O y0 pk [V,E,W] Y fun _ aM=>ac (.tuple #[]) aM) (I y0 (U .eql J false true ai (.int .i64 0)) Y fun aN=>Split aN (O y0 AC [V,E,W] Y fun _ aO=>ac (.tuple #[]) aO) (@aB aT (fun ae aP=>O y0 AE [V,E,W] aP fun t46 af=>I y0 (x8 t46 0) af fun ap=>I y0 (x8 t46 1) af fun aq=>aB (α:=x4→x4→x5→Prop) (fun(ak aQ:x4) (ag:x5)=>@aB dF (fun aR=>@aB aT (fun aU au=>Split aU (O y0 AH [V,E,W,ak] au fun aV aW=>k aV W ae aj am aW) (O y0 AI [V,E,W,ak] au fun av X=>I y0 (x8 av 0) X fun ad=>I y0 (x8 av 1) X fun aw=>I y0 (U .sub J false false ad E) X fun ax=>I y0 (U .sub J false false W ad) X fun ay=>I y0 (U .quo J false true ao (.int .i64 8)) X fun az=>I y0 (U .lss J false false ax ay) X fun aX=>Split aX (I y0 (U .geq J false false ax az) X fun aY=>O y0 mP [V,E,ad,ae] X fun _ aA=>I y0 (U .add J false true ad (.int .i64 1)) aA fun aZ=>k aZ W ae aY aw aA) (I y0 (U .geq J false false ay az) X fun a1=>I y0 (U .add J false true ad (.int .i64 1)) X fun a2=>O y0 mP [V,a2,W,ae] X fun _ a6=>k E ad ae a1 aw a6))) fun aC=>aS aR fun aa=>I y0 (U .gtr J false true E (.int .i64 0)) aa fun a7=>Split a7 (I y0 (U .sub J false true E (.int .i64 1)) aa fun a8=>I y0 (x7 ab V a8) aa fun ba=>I y0 (x1 J ba) aa fun bc=>I y0 (x7 ab V ak) aa fun bd=>I y0 (x1 J bd) aa fun be=>O y0 cmp_Less_int [bc,be] aa fun bf aE=>I y0 (Z4 .not bf) aE fun bg=>aC bg aE) (aC (.bool false) aa)) fun aF=>@aB aT (fun bh aG=>Split bh (O y0 AG [V,E,W] aG fun bi aH=>Split bi (ac (.tuple #[]) aH) (aF aH)) (aF aG)) fun al=>Split aj (Split am (I y0 (U .eql vf false true aQ (.int .i64 1)) ag fun bj=>al bj ag) (al (.bool false) ag)) (al (.bool false) ag)) fun aI=>I y0 (U .eql vf false true aq (.int .i64 2)) af fun t50=>Split t50 (O y0 AF [V,E,W] af fun _ ah=>I y0 (U .sub J false true W (.int .i64 1)) ah fun bk=>I y0 (U .sub J false false ap E) ah fun bl=>I y0 (U .sub J false false bk bl) ah fun bm=>aI bm (.int .i64 1) ah) (aI ap aq af)) fun aJ=>I y0 (Z4 .not aj) Y fun bn=>Split bn (O y0 AD [V,E,W] Y fun _ aK=>I y0 (U .sub J false true ai (.int .i64 1)) aK fun bo=>aJ bo aK) (aJ ai Y)))):O y0 mP [V,an,bb,cQ] Z ac:=aD Tryz.func305 rfl (by kernel_rfl) (by kernel_rfl) h
theorem mQ.enter (h:I y0 (U .neq dA false false V V) Z fun t5=>ac t5 Z):O y0 mQ [V] Z ac:=aD Tryz.func309 rfl (by kernel_rfl) (by kernel_rfl) h
theorem mR.enter (h:aa y0 (Z5 er V) Z fun E W=>sJ y0 an W (fun X Y k=>aa y0 (n0 bl true (.tuple #[])) Y fun v ab=>aa y0 (x6 bl v X) ab fun _ ad=>Over ad fun J=>I y0 (x1 er E) J fun ae=>I y0 (x1 bl v) J fun t9=>aa y0 (u9 er 1 #[(0,t9)]) J fun af ag=>aa y0 (r8 #[er,er] er #[ae,af]) ag fun ah ai=>aa y0 (x6 er E ah) ai fun _ aj=>k .normal aj) (fun U=>I y0 (x1 er E) U fun ak=>fy U fun al=>ac ak al) (fun _=>False) []):O y0 mR [V,an] Z ac:=O.enter (P:=y0) mixed (show y0.funcs[mR]? =some Tryz.f310 from Tryz.func310) rfl (by kernel_rfl) (by kernel_rfl) (by kernel_rfl) (Eq.mp (by kernel_rfl) h)
theorem ph.enter (h:I y0 (U .lss J false true V (.int .i64 10)) Z fun t4=>Split t4 (I y0 (U .add J false true V (.int .i64 1)) Z fun E=>I y0 (j4 a1 (.string ⟨#[48,49,50,51,52,53,54,55,56,57,97,98,99,100,101,102,103,104,105,106,107,108,109,110,111,112,113,114,115,116,117,118,119,120,121,122]⟩) (some V) (some E) none) Z fun W=>ac W Z) (I y0 (U .mul J false true V (.int .i64 2)) Z fun X=>I y0 (U .mul J false true V (.int .i64 2)) Z fun Y=>I y0 (U .add J false true Y (.int .i64 2)) Z fun aa=>I y0 (j4 a1 (.string ⟨#[48,48,48,49,48,50,48,51,48,52,48,53,48,54,48,55,48,56,48,57,49,48,49,49,49,50,49,51,49,52,49,53,49,54,49,55,49,56,49,57,50,48,50,49,50,50,50,51,50,52,50,53,50,54,50,55,50,56,50,57,51,48,51,49,51,50,51,51,51,52,51,53,51,54,51,55,51,56,51,57,52,48,52,49,52,50,52,51,52,52,52,53,52,54,52,55,52,56,52,57,53,48,53,49,53,50,53,51,53,52,53,53,53,54,53,55,53,56,53,57,54,48,54,49,54,50,54,51,54,52,54,53,54,54,54,55,54,56,54,57,55,48,55,49,55,50,55,51,55,52,55,53,55,54,55,55,55,56,55,57,56,48,56,49,56,50,56,51,56,52,56,53,56,54,56,55,56,56,56,57,57,48,57,49,57,50,57,51,57,52,57,53,57,54,57,55,57,56,57,57]⟩) (some X) (some aa) none) Z fun ab=>ac ab Z)):O y0 ph [V] Z ac:=aD Tryz.func312 rfl (by kernel_rfl) (by kernel_rfl) h
theorem pi.enter (h:O y0 k7 [V] Z fun t5 Y=>O y0 qQ [t5] Y fun W E=>I y0 (x7 pm (.pointer (some ⟨1,0,none⟩)) W) E fun aa=>I y0 (x1 bG aa) E fun ab=>I y0 (U .geq bG false false V ab) E fun ad=>O y0 qR [ad] E fun ae X=>I y0 (U .add J false false W ae) X fun af=>ac af X):O y0 pi [V] Z ac:=aD Tryz.func313 rfl (by kernel_rfl) (by kernel_rfl) h
theorem hW.enters:Enters y0 hW:=Enters.of y0 (show y0.funcs[hW]? =some Tryz.f283 from Tryz.func283) rfl (by kernel_rfl)
theorem gu.enters:Enters y0 gu:=Enters.of y0 (show y0.funcs[gu]? =some Tryz.f299 from Tryz.func299) rfl (by kernel_rfl)
end
section
variable {Z:x5} {ac:aT} {V an bb cQ jz lg lh li lj lk ll lm:x4}
theorem pj.enter (h:I y0 (u6 #[aX] J #[V]) Z fun bc=>ba an bc Z fun av nd E k=>I y0 (U .geq J false true nd (.int .i64 8)) E fun bd=>Split bd (I y0 (U .rem bG false true av (.int .u64 100000000)) E fun t22=>I y0 (convert bG cZ t22) E fun aG=>I y0 (U .quo bG false true av (.int .u64 100000000)) E fun t25=>I y0 (U .quo cZ false true aG (.int .u32 10000)) E fun aH=>I y0 (U .rem cZ false true aG (.int .u32 10000)) E fun aI=>I y0 (U .quo cZ false true aI (.int .u32 100)) E fun be=>I y0 (U .mul cZ false true be (.int .u32 2)) E fun aw=>I y0 (U .rem cZ false true aI (.int .u32 100)) E fun bf=>I y0 (U .mul cZ false true bf (.int .u32 2)) E fun ax=>I y0 (U .quo cZ false true aH (.int .u32 100)) E fun bg=>I y0 (U .mul cZ false true bg (.int .u32 2)) E fun ay=>I y0 (U .rem cZ false true aH (.int .u32 100)) E fun bh=>I y0 (U .mul cZ false true bh (.int .u32 2)) E fun az=>aS E fun W=>I y0 (U .sub J false true nd (.int .i64 1)) W fun bj=>I y0 (U .sub J false true nd (.int .i64 2)) W fun aJ=>I y0 (U .add cZ false true ax (.int .u32 1)) W fun bk=>I y0 (Y2 a1 (.string ⟨#[48,48,48,49,48,50,48,51,48,52,48,53,48,54,48,55,48,56,48,57,49,48,49,49,49,50,49,51,49,52,49,53,49,54,49,55,49,56,49,57,50,48,50,49,50,50,50,51,50,52,50,53,50,54,50,55,50,56,50,57,51,48,51,49,51,50,51,51,51,52,51,53,51,54,51,55,51,56,51,57,52,48,52,49,52,50,52,51,52,52,52,53,52,54,52,55,52,56,52,57,53,48,53,49,53,50,53,51,53,52,53,53,53,54,53,55,53,56,53,57,54,48,54,49,54,50,54,51,54,52,54,53,54,54,54,55,54,56,54,57,55,48,55,49,55,50,55,51,55,52,55,53,55,54,55,55,55,56,55,57,56,48,56,49,56,50,56,51,56,52,56,53,56,54,56,55,56,56,56,57,57,48,57,49,57,50,57,51,57,52,57,53,57,54,57,55,57,56,57,57]⟩) bk) W fun t50=>I y0 (Y2 a1 (.string ⟨#[48,48,48,49,48,50,48,51,48,52,48,53,48,54,48,55,48,56,48,57,49,48,49,49,49,50,49,51,49,52,49,53,49,54,49,55,49,56,49,57,50,48,50,49,50,50,50,51,50,52,50,53,50,54,50,55,50,56,50,57,51,48,51,49,51,50,51,51,51,52,51,53,51,54,51,55,51,56,51,57,52,48,52,49,52,50,52,51,52,52,52,53,52,54,52,55,52,56,52,57,53,48,53,49,53,50,53,51,53,52,53,53,53,54,53,55,53,56,53,57,54,48,54,49,54,50,54,51,54,52,54,53,54,54,54,55,54,56,54,57,55,48,55,49,55,50,55,51,55,52,55,53,55,54,55,55,55,56,55,57,56,48,56,49,56,50,56,51,56,52,56,53,56,54,56,55,56,56,56,57,57,48,57,49,57,50,57,51,57,52,57,53,57,54,57,55,57,56,57,57]⟩) ax) W fun aK=>I y0 (x7 aX V bj) W fun t53=>aa y0 (x6 bi t53 t50) W fun _ ak=>(Ext W ak∨ai y0 (Y2 a1 (.string ⟨#[48,48,48,49,48,50,48,51,48,52,48,53,48,54,48,55,48,56,48,57,49,48,49,49,49,50,49,51,49,52,49,53,49,54,49,55,49,56,49,57,50,48,50,49,50,50,50,51,50,52,50,53,50,54,50,55,50,56,50,57,51,48,51,49,51,50,51,51,51,52,51,53,51,54,51,55,51,56,51,57,52,48,52,49,52,50,52,51,52,52,52,53,52,54,52,55,52,56,52,57,53,48,53,49,53,50,53,51,53,52,53,53,53,54,53,55,53,56,53,57,54,48,54,49,54,50,54,51,54,52,54,53,54,54,54,55,54,56,54,57,55,48,55,49,55,50,55,51,55,52,55,53,55,54,55,55,55,56,55,57,56,48,56,49,56,50,56,51,56,52,56,53,56,54,56,55,56,56,56,57,57,48,57,49,57,50,57,51,57,52,57,53,57,54,57,55,57,56,57,57]⟩) ax) aK ak∧ai y0 (U .sub J false true nd (.int .i64 2)) aJ ak∧True)∧I y0 (x7 aX V aJ) ak fun bl=>aa y0 (x6 bi bl aK) ak fun _ bm=>aS bm fun X=>I y0 (U .sub J false true nd (.int .i64 3)) X fun bn=>I y0 (U .sub J false true nd (.int .i64 4)) X fun aL=>I y0 (U .add cZ false true aw (.int .u32 1)) X fun bo=>I y0 (Y2 a1 (.string ⟨#[48,48,48,49,48,50,48,51,48,52,48,53,48,54,48,55,48,56,48,57,49,48,49,49,49,50,49,51,49,52,49,53,49,54,49,55,49,56,49,57,50,48,50,49,50,50,50,51,50,52,50,53,50,54,50,55,50,56,50,57,51,48,51,49,51,50,51,51,51,52,51,53,51,54,51,55,51,56,51,57,52,48,52,49,52,50,52,51,52,52,52,53,52,54,52,55,52,56,52,57,53,48,53,49,53,50,53,51,53,52,53,53,53,54,53,55,53,56,53,57,54,48,54,49,54,50,54,51,54,52,54,53,54,54,54,55,54,56,54,57,55,48,55,49,55,50,55,51,55,52,55,53,55,54,55,55,55,56,55,57,56,48,56,49,56,50,56,51,56,52,56,53,56,54,56,55,56,56,56,57,57,48,57,49,57,50,57,51,57,52,57,53,57,54,57,55,57,56,57,57]⟩) bo) X fun bp=>I y0 (Y2 a1 (.string ⟨#[48,48,48,49,48,50,48,51,48,52,48,53,48,54,48,55,48,56,48,57,49,48,49,49,49,50,49,51,49,52,49,53,49,54,49,55,49,56,49,57,50,48,50,49,50,50,50,51,50,52,50,53,50,54,50,55,50,56,50,57,51,48,51,49,51,50,51,51,51,52,51,53,51,54,51,55,51,56,51,57,52,48,52,49,52,50,52,51,52,52,52,53,52,54,52,55,52,56,52,57,53,48,53,49,53,50,53,51,53,52,53,53,53,54,53,55,53,56,53,57,54,48,54,49,54,50,54,51,54,52,54,53,54,54,54,55,54,56,54,57,55,48,55,49,55,50,55,51,55,52,55,53,55,54,55,55,55,56,55,57,56,48,56,49,56,50,56,51,56,52,56,53,56,54,56,55,56,56,56,57,57,48,57,49,57,50,57,51,57,52,57,53,57,54,57,55,57,56,57,57]⟩) aw) X fun aM=>I y0 (x7 aX V bn) X fun t66=>aa y0 (x6 bi t66 bp) X fun _ al=>(Ext X al∨ai y0 (Y2 a1 (.string ⟨#[48,48,48,49,48,50,48,51,48,52,48,53,48,54,48,55,48,56,48,57,49,48,49,49,49,50,49,51,49,52,49,53,49,54,49,55,49,56,49,57,50,48,50,49,50,50,50,51,50,52,50,53,50,54,50,55,50,56,50,57,51,48,51,49,51,50,51,51,51,52,51,53,51,54,51,55,51,56,51,57,52,48,52,49,52,50,52,51,52,52,52,53,52,54,52,55,52,56,52,57,53,48,53,49,53,50,53,51,53,52,53,53,53,54,53,55,53,56,53,57,54,48,54,49,54,50,54,51,54,52,54,53,54,54,54,55,54,56,54,57,55,48,55,49,55,50,55,51,55,52,55,53,55,54,55,55,55,56,55,57,56,48,56,49,56,50,56,51,56,52,56,53,56,54,56,55,56,56,56,57,57,48,57,49,57,50,57,51,57,52,57,53,57,54,57,55,57,56,57,57]⟩) aw) aM al∧ai y0 (U .sub J false true nd (.int .i64 4)) aL al∧True)∧I y0 (x7 aX V aL) al fun bq=>aa y0 (x6 bi bq aM) al fun _ br=>aS br fun Y=>I y0 (U .sub J false true nd (.int .i64 5)) Y fun t70=>I y0 (U .sub J false true nd (.int .i64 6)) Y fun aN=>I y0 (U .add cZ false true az (.int .u32 1)) Y fun bt=>I y0 (Y2 a1 (.string ⟨#[48,48,48,49,48,50,48,51,48,52,48,53,48,54,48,55,48,56,48,57,49,48,49,49,49,50,49,51,49,52,49,53,49,54,49,55,49,56,49,57,50,48,50,49,50,50,50,51,50,52,50,53,50,54,50,55,50,56,50,57,51,48,51,49,51,50,51,51,51,52,51,53,51,54,51,55,51,56,51,57,52,48,52,49,52,50,52,51,52,52,52,53,52,54,52,55,52,56,52,57,53,48,53,49,53,50,53,51,53,52,53,53,53,54,53,55,53,56,53,57,54,48,54,49,54,50,54,51,54,52,54,53,54,54,54,55,54,56,54,57,55,48,55,49,55,50,55,51,55,52,55,53,55,54,55,55,55,56,55,57,56,48,56,49,56,50,56,51,56,52,56,53,56,54,56,55,56,56,56,57,57,48,57,49,57,50,57,51,57,52,57,53,57,54,57,55,57,56,57,57]⟩) bt) Y fun t76=>I y0 (Y2 a1 (.string ⟨#[48,48,48,49,48,50,48,51,48,52,48,53,48,54,48,55,48,56,48,57,49,48,49,49,49,50,49,51,49,52,49,53,49,54,49,55,49,56,49,57,50,48,50,49,50,50,50,51,50,52,50,53,50,54,50,55,50,56,50,57,51,48,51,49,51,50,51,51,51,52,51,53,51,54,51,55,51,56,51,57,52,48,52,49,52,50,52,51,52,52,52,53,52,54,52,55,52,56,52,57,53,48,53,49,53,50,53,51,53,52,53,53,53,54,53,55,53,56,53,57,54,48,54,49,54,50,54,51,54,52,54,53,54,54,54,55,54,56,54,57,55,48,55,49,55,50,55,51,55,52,55,53,55,54,55,55,55,56,55,57,56,48,56,49,56,50,56,51,56,52,56,53,56,54,56,55,56,56,56,57,57,48,57,49,57,50,57,51,57,52,57,53,57,54,57,55,57,56,57,57]⟩) az) Y fun aO=>I y0 (x7 aX V t70) Y fun bu=>aa y0 (x6 bi bu t76) Y fun _ am=>(Ext Y am∨ai y0 (Y2 a1 (.string ⟨#[48,48,48,49,48,50,48,51,48,52,48,53,48,54,48,55,48,56,48,57,49,48,49,49,49,50,49,51,49,52,49,53,49,54,49,55,49,56,49,57,50,48,50,49,50,50,50,51,50,52,50,53,50,54,50,55,50,56,50,57,51,48,51,49,51,50,51,51,51,52,51,53,51,54,51,55,51,56,51,57,52,48,52,49,52,50,52,51,52,52,52,53,52,54,52,55,52,56,52,57,53,48,53,49,53,50,53,51,53,52,53,53,53,54,53,55,53,56,53,57,54,48,54,49,54,50,54,51,54,52,54,53,54,54,54,55,54,56,54,57,55,48,55,49,55,50,55,51,55,52,55,53,55,54,55,55,55,56,55,57,56,48,56,49,56,50,56,51,56,52,56,53,56,54,56,55,56,56,56,57,57,48,57,49,57,50,57,51,57,52,57,53,57,54,57,55,57,56,57,57]⟩) az) aO am∧ai y0 (U .sub J false true nd (.int .i64 6)) aN am∧True)∧I y0 (x7 aX V aN) am fun bw=>aa y0 (x6 bi bw aO) am fun _ bx=>aS bx fun ab=>I y0 (U .sub J false true nd (.int .i64 7)) ab fun bz=>I y0 (U .sub J false true nd (.int .i64 8)) ab fun aP=>I y0 (U .add cZ false true ay (.int .u32 1)) ab fun bA=>I y0 (Y2 a1 (.string ⟨#[48,48,48,49,48,50,48,51,48,52,48,53,48,54,48,55,48,56,48,57,49,48,49,49,49,50,49,51,49,52,49,53,49,54,49,55,49,56,49,57,50,48,50,49,50,50,50,51,50,52,50,53,50,54,50,55,50,56,50,57,51,48,51,49,51,50,51,51,51,52,51,53,51,54,51,55,51,56,51,57,52,48,52,49,52,50,52,51,52,52,52,53,52,54,52,55,52,56,52,57,53,48,53,49,53,50,53,51,53,52,53,53,53,54,53,55,53,56,53,57,54,48,54,49,54,50,54,51,54,52,54,53,54,54,54,55,54,56,54,57,55,48,55,49,55,50,55,51,55,52,55,53,55,54,55,55,55,56,55,57,56,48,56,49,56,50,56,51,56,52,56,53,56,54,56,55,56,56,56,57,57,48,57,49,57,50,57,51,57,52,57,53,57,54,57,55,57,56,57,57]⟩) bA) ab fun bB=>I y0 (Y2 a1 (.string ⟨#[48,48,48,49,48,50,48,51,48,52,48,53,48,54,48,55,48,56,48,57,49,48,49,49,49,50,49,51,49,52,49,53,49,54,49,55,49,56,49,57,50,48,50,49,50,50,50,51,50,52,50,53,50,54,50,55,50,56,50,57,51,48,51,49,51,50,51,51,51,52,51,53,51,54,51,55,51,56,51,57,52,48,52,49,52,50,52,51,52,52,52,53,52,54,52,55,52,56,52,57,53,48,53,49,53,50,53,51,53,52,53,53,53,54,53,55,53,56,53,57,54,48,54,49,54,50,54,51,54,52,54,53,54,54,54,55,54,56,54,57,55,48,55,49,55,50,55,51,55,52,55,53,55,54,55,55,55,56,55,57,56,48,56,49,56,50,56,51,56,52,56,53,56,54,56,55,56,56,56,57,57,48,57,49,57,50,57,51,57,52,57,53,57,54,57,55,57,56,57,57]⟩) ay) ab fun aQ=>I y0 (x7 aX V bz) ab fun bC=>aa y0 (x6 bi bC bB) ab fun _ ao=>(Ext ab ao∨ai y0 (Y2 a1 (.string ⟨#[48,48,48,49,48,50,48,51,48,52,48,53,48,54,48,55,48,56,48,57,49,48,49,49,49,50,49,51,49,52,49,53,49,54,49,55,49,56,49,57,50,48,50,49,50,50,50,51,50,52,50,53,50,54,50,55,50,56,50,57,51,48,51,49,51,50,51,51,51,52,51,53,51,54,51,55,51,56,51,57,52,48,52,49,52,50,52,51,52,52,52,53,52,54,52,55,52,56,52,57,53,48,53,49,53,50,53,51,53,52,53,53,53,54,53,55,53,56,53,57,54,48,54,49,54,50,54,51,54,52,54,53,54,54,54,55,54,56,54,57,55,48,55,49,55,50,55,51,55,52,55,53,55,54,55,55,55,56,55,57,56,48,56,49,56,50,56,51,56,52,56,53,56,54,56,55,56,56,56,57,57,48,57,49,57,50,57,51,57,52,57,53,57,54,57,55,57,56,57,57]⟩) ay) aQ ao∧ai y0 (U .sub J false true nd (.int .i64 8)) aP ao∧True)∧I y0 (x7 aX V aP) ao fun bD=>aa y0 (x6 bi bD aQ) ao fun _ aR=>I y0 (U .sub J false true nd (.int .i64 8)) aR fun bE=>k t25 bE aR) (I y0 (convert bG cZ av) E fun aA=>aB (α:=x4→x4→x5→Prop) (fun(ag x:x4) (ah:x5)=>aB (α:=x4→x4→x5→Prop) (fun(bF bH:x4) (aj:x5)=>I y0 (U .gtr J false true bF (.int .i64 0)) aj fun bI=>Split bI (I y0 (U .add cZ true false (.int .u32 48) bH) aj fun bJ=>I y0 (convert cZ bi bJ) aj fun bK=>I y0 (x7 aX V (.int .i64 0)) aj fun bL=>aa y0 (x6 bi bL bK) aj fun _ bM=>ac (.tuple #[]) bM) (ac (.tuple #[]) aj)) fun aT=>I y0 (U .geq J false true ag (.int .i64 2)) ah fun bN=>Split bN (I y0 (U .rem cZ false true x (.int .u32 100)) ah fun bO=>I y0 (U .mul cZ false true bO (.int .u32 2)) ah fun aC=>I y0 (U .quo cZ false true x (.int .u32 100)) ah fun bP=>aS ah fun ad=>I y0 (U .sub J false true ag (.int .i64 1)) ad fun bQ=>I y0 (U .sub J false true ag (.int .i64 2)) ad fun aU=>I y0 (U .add cZ false true aC (.int .u32 1)) ad fun bR=>I y0 (Y2 a1 (.string ⟨#[48,48,48,49,48,50,48,51,48,52,48,53,48,54,48,55,48,56,48,57,49,48,49,49,49,50,49,51,49,52,49,53,49,54,49,55,49,56,49,57,50,48,50,49,50,50,50,51,50,52,50,53,50,54,50,55,50,56,50,57,51,48,51,49,51,50,51,51,51,52,51,53,51,54,51,55,51,56,51,57,52,48,52,49,52,50,52,51,52,52,52,53,52,54,52,55,52,56,52,57,53,48,53,49,53,50,53,51,53,52,53,53,53,54,53,55,53,56,53,57,54,48,54,49,54,50,54,51,54,52,54,53,54,54,54,55,54,56,54,57,55,48,55,49,55,50,55,51,55,52,55,53,55,54,55,55,55,56,55,57,56,48,56,49,56,50,56,51,56,52,56,53,56,54,56,55,56,56,56,57,57,48,57,49,57,50,57,51,57,52,57,53,57,54,57,55,57,56,57,57]⟩) bR) ad fun bS=>I y0 (Y2 a1 (.string ⟨#[48,48,48,49,48,50,48,51,48,52,48,53,48,54,48,55,48,56,48,57,49,48,49,49,49,50,49,51,49,52,49,53,49,54,49,55,49,56,49,57,50,48,50,49,50,50,50,51,50,52,50,53,50,54,50,55,50,56,50,57,51,48,51,49,51,50,51,51,51,52,51,53,51,54,51,55,51,56,51,57,52,48,52,49,52,50,52,51,52,52,52,53,52,54,52,55,52,56,52,57,53,48,53,49,53,50,53,51,53,52,53,53,53,54,53,55,53,56,53,57,54,48,54,49,54,50,54,51,54,52,54,53,54,54,54,55,54,56,54,57,55,48,55,49,55,50,55,51,55,52,55,53,55,54,55,55,55,56,55,57,56,48,56,49,56,50,56,51,56,52,56,53,56,54,56,55,56,56,56,57,57,48,57,49,57,50,57,51,57,52,57,53,57,54,57,55,57,56,57,57]⟩) aC) ad fun aV=>I y0 (x7 aX V bQ) ad fun bT=>aa y0 (x6 bi bT bS) ad fun _ ap=>(Ext ad ap∨ai y0 (Y2 a1 (.string ⟨#[48,48,48,49,48,50,48,51,48,52,48,53,48,54,48,55,48,56,48,57,49,48,49,49,49,50,49,51,49,52,49,53,49,54,49,55,49,56,49,57,50,48,50,49,50,50,50,51,50,52,50,53,50,54,50,55,50,56,50,57,51,48,51,49,51,50,51,51,51,52,51,53,51,54,51,55,51,56,51,57,52,48,52,49,52,50,52,51,52,52,52,53,52,54,52,55,52,56,52,57,53,48,53,49,53,50,53,51,53,52,53,53,53,54,53,55,53,56,53,57,54,48,54,49,54,50,54,51,54,52,54,53,54,54,54,55,54,56,54,57,55,48,55,49,55,50,55,51,55,52,55,53,55,54,55,55,55,56,55,57,56,48,56,49,56,50,56,51,56,52,56,53,56,54,56,55,56,56,56,57,57,48,57,49,57,50,57,51,57,52,57,53,57,54,57,55,57,56,57,57]⟩) aC) aV ap∧ai y0 (U .sub J false true ag (.int .i64 2)) aU ap∧True)∧I y0 (x7 aX V aU) ap fun bU=>aa y0 (x6 bi bU aV) ap fun _ aW=>I y0 (U .sub J false true ag (.int .i64 2)) aW fun bV=>aT bV bP aW) (aT ag x ah)) fun aY=>I y0 (U .geq J false true nd (.int .i64 4)) E fun bW=>Split bW (I y0 (U .rem cZ false true aA (.int .u32 10000)) E fun aZ=>I y0 (U .quo cZ false true aA (.int .u32 10000)) E fun bX=>I y0 (U .quo cZ false true aZ (.int .u32 100)) E fun bY=>I y0 (U .mul cZ false true bY (.int .u32 2)) E fun aE=>I y0 (U .rem cZ false true aZ (.int .u32 100)) E fun bZ=>I y0 (U .mul cZ false true bZ (.int .u32 2)) E fun aF=>aS E fun ae=>I y0 (U .sub J false true nd (.int .i64 1)) ae fun b1=>I y0 (U .sub J false true nd (.int .i64 2)) ae fun a2=>I y0 (U .add cZ false true aF (.int .u32 1)) ae fun b2=>I y0 (Y2 a1 (.string ⟨#[48,48,48,49,48,50,48,51,48,52,48,53,48,54,48,55,48,56,48,57,49,48,49,49,49,50,49,51,49,52,49,53,49,54,49,55,49,56,49,57,50,48,50,49,50,50,50,51,50,52,50,53,50,54,50,55,50,56,50,57,51,48,51,49,51,50,51,51,51,52,51,53,51,54,51,55,51,56,51,57,52,48,52,49,52,50,52,51,52,52,52,53,52,54,52,55,52,56,52,57,53,48,53,49,53,50,53,51,53,52,53,53,53,54,53,55,53,56,53,57,54,48,54,49,54,50,54,51,54,52,54,53,54,54,54,55,54,56,54,57,55,48,55,49,55,50,55,51,55,52,55,53,55,54,55,55,55,56,55,57,56,48,56,49,56,50,56,51,56,52,56,53,56,54,56,55,56,56,56,57,57,48,57,49,57,50,57,51,57,52,57,53,57,54,57,55,57,56,57,57]⟩) b2) ae fun b3=>I y0 (Y2 a1 (.string ⟨#[48,48,48,49,48,50,48,51,48,52,48,53,48,54,48,55,48,56,48,57,49,48,49,49,49,50,49,51,49,52,49,53,49,54,49,55,49,56,49,57,50,48,50,49,50,50,50,51,50,52,50,53,50,54,50,55,50,56,50,57,51,48,51,49,51,50,51,51,51,52,51,53,51,54,51,55,51,56,51,57,52,48,52,49,52,50,52,51,52,52,52,53,52,54,52,55,52,56,52,57,53,48,53,49,53,50,53,51,53,52,53,53,53,54,53,55,53,56,53,57,54,48,54,49,54,50,54,51,54,52,54,53,54,54,54,55,54,56,54,57,55,48,55,49,55,50,55,51,55,52,55,53,55,54,55,55,55,56,55,57,56,48,56,49,56,50,56,51,56,52,56,53,56,54,56,55,56,56,56,57,57,48,57,49,57,50,57,51,57,52,57,53,57,54,57,55,57,56,57,57]⟩) aF) ae fun a6=>I y0 (x7 aX V b1) ae fun b4=>aa y0 (x6 bi b4 b3) ae fun _ aq=>(Ext ae aq∨ai y0 (Y2 a1 (.string ⟨#[48,48,48,49,48,50,48,51,48,52,48,53,48,54,48,55,48,56,48,57,49,48,49,49,49,50,49,51,49,52,49,53,49,54,49,55,49,56,49,57,50,48,50,49,50,50,50,51,50,52,50,53,50,54,50,55,50,56,50,57,51,48,51,49,51,50,51,51,51,52,51,53,51,54,51,55,51,56,51,57,52,48,52,49,52,50,52,51,52,52,52,53,52,54,52,55,52,56,52,57,53,48,53,49,53,50,53,51,53,52,53,53,53,54,53,55,53,56,53,57,54,48,54,49,54,50,54,51,54,52,54,53,54,54,54,55,54,56,54,57,55,48,55,49,55,50,55,51,55,52,55,53,55,54,55,55,55,56,55,57,56,48,56,49,56,50,56,51,56,52,56,53,56,54,56,55,56,56,56,57,57,48,57,49,57,50,57,51,57,52,57,53,57,54,57,55,57,56,57,57]⟩) aF) a6 aq∧ai y0 (U .sub J false true nd (.int .i64 2)) a2 aq∧True)∧I y0 (x7 aX V a2) aq fun b5=>aa y0 (x6 bi b5 a6) aq fun _ b6=>aS b6 fun af=>I y0 (U .sub J false true nd (.int .i64 3)) af fun b7=>I y0 (U .sub J false true nd (.int .i64 4)) af fun a7=>I y0 (U .add cZ false true aE (.int .u32 1)) af fun b8=>I y0 (Y2 a1 (.string ⟨#[48,48,48,49,48,50,48,51,48,52,48,53,48,54,48,55,48,56,48,57,49,48,49,49,49,50,49,51,49,52,49,53,49,54,49,55,49,56,49,57,50,48,50,49,50,50,50,51,50,52,50,53,50,54,50,55,50,56,50,57,51,48,51,49,51,50,51,51,51,52,51,53,51,54,51,55,51,56,51,57,52,48,52,49,52,50,52,51,52,52,52,53,52,54,52,55,52,56,52,57,53,48,53,49,53,50,53,51,53,52,53,53,53,54,53,55,53,56,53,57,54,48,54,49,54,50,54,51,54,52,54,53,54,54,54,55,54,56,54,57,55,48,55,49,55,50,55,51,55,52,55,53,55,54,55,55,55,56,55,57,56,48,56,49,56,50,56,51,56,52,56,53,56,54,56,55,56,56,56,57,57,48,57,49,57,50,57,51,57,52,57,53,57,54,57,55,57,56,57,57]⟩) b8) af fun b9=>I y0 (Y2 a1 (.string ⟨#[48,48,48,49,48,50,48,51,48,52,48,53,48,54,48,55,48,56,48,57,49,48,49,49,49,50,49,51,49,52,49,53,49,54,49,55,49,56,49,57,50,48,50,49,50,50,50,51,50,52,50,53,50,54,50,55,50,56,50,57,51,48,51,49,51,50,51,51,51,52,51,53,51,54,51,55,51,56,51,57,52,48,52,49,52,50,52,51,52,52,52,53,52,54,52,55,52,56,52,57,53,48,53,49,53,50,53,51,53,52,53,53,53,54,53,55,53,56,53,57,54,48,54,49,54,50,54,51,54,52,54,53,54,54,54,55,54,56,54,57,55,48,55,49,55,50,55,51,55,52,55,53,55,54,55,55,55,56,55,57,56,48,56,49,56,50,56,51,56,52,56,53,56,54,56,55,56,56,56,57,57,48,57,49,57,50,57,51,57,52,57,53,57,54,57,55,57,56,57,57]⟩) aE) af fun a8=>I y0 (x7 aX V b7) af fun ca=>aa y0 (x6 bi ca b9) af fun _ au=>(Ext af au∨ai y0 (Y2 a1 (.string ⟨#[48,48,48,49,48,50,48,51,48,52,48,53,48,54,48,55,48,56,48,57,49,48,49,49,49,50,49,51,49,52,49,53,49,54,49,55,49,56,49,57,50,48,50,49,50,50,50,51,50,52,50,53,50,54,50,55,50,56,50,57,51,48,51,49,51,50,51,51,51,52,51,53,51,54,51,55,51,56,51,57,52,48,52,49,52,50,52,51,52,52,52,53,52,54,52,55,52,56,52,57,53,48,53,49,53,50,53,51,53,52,53,53,53,54,53,55,53,56,53,57,54,48,54,49,54,50,54,51,54,52,54,53,54,54,54,55,54,56,54,57,55,48,55,49,55,50,55,51,55,52,55,53,55,54,55,55,55,56,55,57,56,48,56,49,56,50,56,51,56,52,56,53,56,54,56,55,56,56,56,57,57,48,57,49,57,50,57,51,57,52,57,53,57,54,57,55,57,56,57,57]⟩) aE) a8 au∧ai y0 (U .sub J false true nd (.int .i64 4)) a7 au∧True)∧I y0 (x7 aX V a7) au fun cb=>aa y0 (x6 bi cb a8) au fun _ bb=>I y0 (U .sub J false true nd (.int .i64 4)) bb fun cc=>aY cc bX bb) (aY nd aA E))):O y0 pj [V,an] Z ac:=aD Tryz.func314 rfl (by kernel_rfl) (by kernel_rfl) h
theorem pk.enter (h:I y0 (U .add J false true an (.int .i64 1)) Z fun t9=>bd t9 Z fun i Y k=>I y0 (U .lss J false false i bb) Y fun ah=>Split ah (bd i Y fun j aj ak=>@aB aT (fun al ad=>Split al (aS ad fun E=>I y0 (U .sub J false true j (.int .i64 1)) E fun ae=>I y0 (U .sub J false true j (.int .i64 1)) E fun am=>I y0 (x7 ab V am) E fun ao=>I y0 (x1 J ao) E fun ap=>I y0 (x7 ab V j) E fun t45=>I y0 (x1 J t45) E fun t46=>I y0 (x7 ab V j) E fun aq=>aa y0 (x6 J aq ap) E fun _ X=>(Ext E X∨ai y0 (U .sub J false true j (.int .i64 1)) ae X∧True)∧I y0 (x7 ab V ae) X fun au=>aa y0 (x6 J au t46) X fun _ af=>I y0 (U .sub J false true j (.int .i64 1)) af fun av=>ak av af) (I y0 (U .add J false true i (.int .i64 1)) ad fun aw=>k aw ad)) fun ag=>aS aj fun W=>I y0 (U .gtr J false false j an) W fun ax=>Split ax (I y0 (x7 ab V j) W fun t22=>I y0 (x1 J t22) W fun ay=>I y0 (U .sub J false true j (.int .i64 1)) W fun az=>I y0 (x7 ab V az) W fun aA=>I y0 (x1 J aA) W fun aC=>O y0 cmp_Less_int [ay,aC] W fun aE aF=>ag aE aF) (ag (.bool false) W)) (ac (.tuple #[]) Y)):O y0 pk [V,an,bb] Z ac:=aD Tryz.func316 rfl (by kernel_rfl) (by kernel_rfl) h
theorem cmp_Less_int.enter (h:@aB aT (fun t4 Y=>ac t4 Y) fun W=>O y0 cmp_isNaN_int [V] Z fun aa X=>Split aa (O y0 cmp_isNaN_int [an] X fun t9 E=>I y0 (Z4 .not t9) E fun ab=>Split ab (W (.bool true) E) (I y0 (U .lss J false false V an) E fun ad=>W ad E)) (I y0 (U .lss J false false V an) X fun ae=>W ae X)):O y0 cmp_Less_int [V,an] Z ac:=aD Tryz.func322 rfl (by kernel_rfl) (by kernel_rfl) h
theorem qQ.enter (h:I y0 (U .mul J false true V (.int .i64 78913)) Z fun t4=>I y0 (U .shr J false true t4 (.int .u64 18)) Z fun t5=>ac t5 Z):O y0 qQ [V] Z ac:=aD Tryz.func334 rfl (by kernel_rfl) (by kernel_rfl) h
theorem qR.enter (h:Split V (ac (.int .i64 1) Z) (ac (.int .i64 0) Z)):O y0 qR [V] Z ac:=aD Tryz.func335 rfl (by kernel_rfl) (by kernel_rfl) h
end
end Go.Proofs.YtgbkinibgjmodaaGreatDoor
namespace Go.Vc
open Go Go.RowKit
structure am (S:Nat→Prop) (w w':x5):Prop where
 size:w.heap.size≤w'.heap.size
 bz:∀ (r:Nat) (o:Obj),w.heap[r]? =some o→fx o=true→¬S r→w'.heap[r]? =some o
theorem Ext.ad {w w':x5} (S:Nat→Prop) (h:Ext w w'):am S w w':=⟨h.size,fun r o E I _=>h.bz r o E I⟩
theorem am.ext {S:Nat→Prop} {w w':x5} (h:am S w w') (I:∀ r,r<w.heap.size→¬S r):Ext w w':=
 ⟨h.size,fun r o E J=>h.bz r o E J (I r (l6.1 E).1)⟩
theorem am.refl (S:Nat→Prop) (w:x5):am S w w:=⟨o7 _,fun _ _ h _ _=>h⟩
theorem am.trans {S:Nat→Prop} {a b c:x5} (h:am S a b) (k:am S b c):am S a c:=
 ⟨Y5 h.size k.size,fun r o J E I=>k.bz r o (h.bz r o J E I) E I⟩
theorem am.mono {S T:Nat→Prop} {a b:x5} (h:am S a b) (I:∀ r,r<a.heap.size→S r→T r):am T a b:=
 ⟨h.size,fun r o E J O=>h.bz r o E J fun U=>O (I r (l6.1 E).1 U)⟩
theorem Ext.then {S:Nat→Prop} {a b c:x5} (h:Ext a b) (k:am S b c) (J:∀ r,r<a.heap.size→¬S r):Ext a c:=
 ⟨Y5 h.size k.size,fun r o E I=>k.bz r o (h.bz r o E I) I (J r (l6.1 E).1)⟩
theorem sO {w:x5} {b o:Nat} {v:x4} (h:w.cell? ⟨b,o,none⟩=some v):∃ c e f,w.heap[b]? =some (.cells c e f)∧c[o]? =some v:=by
 simp only[x5.cell?] at h;split at h
 ·rename_i c e f E;exact⟨c,e,f,E,by simpa using h⟩
 ·cases h
theorem vg {S:Nat→Prop} {w w':x5} (E:am S w w') {b o:Nat} (I:¬S b) {v:x4} (h:w.cell? ⟨b,o,none⟩=some v):w'.cell? ⟨b,o,none⟩=some v:=by
 obtain⟨c,e,f,J,O⟩:=sO h;simp[x5.cell?,E.bz b _ J rfl I,O]
theorem ln {w w':x5} (E:Ext w w') {b o:Nat} {v:x4} (h:w.cell? ⟨b,o,none⟩=some v):w'.cell? ⟨b,o,none⟩=some v:=
 vg (E.ad fun _=>False) (fun h=>h) h
theorem pn {w w':x5} (E:Ext w w') {b o:Nat} {cs:List x4} (h:w.rangeAt b o cs):w'.rangeAt b o cs:=fun j v I=>ln E (h j v I)
theorem qU {S:Nat→Prop} {w w':x5} (E:am S w w') {b o:Nat} (I:¬S b) {cs:List x4} (h:w.rangeAt b o cs):w'.rangeAt b o cs:=fun j v J=>vg E I (h j v J)
def ak (w:x5) (g:Nat) (e:o6) (cs:List x4):Prop:=w.heap[g]? =some (.cells cs.toArray e (0,0))
theorem ak.ext {w w':x5} {g:Nat} {e:o6} {cs:List x4} (h:ak w g e cs) (E:Ext w w'):ak w' g e cs:=E.bz g _ h rfl
theorem ak.ad {S:Nat→Prop} {w w':x5} {g:Nat} {e:o6} {cs:List x4} (h:ak w g e cs) (E:am S w w') (I:¬S g):ak w' g e cs:=E.bz g _ h rfl I
theorem ak.lt {w:x5} {g:Nat} {e:o6} {cs:List x4} (h:ak w g e cs):g<w.heap.size:=(l6.1 h).1
theorem ak.cell {w:x5} {g:Nat} {e:o6} {cs:List x4} (h:ak w g e cs) {o:Nat} {v:x4} (E:cs[o]? =some v):w.cell? ⟨g,o,none⟩=some v:=by
 unfold ak at h;simp[x5.cell?,h,E]
theorem ak.range {w:x5} {g:Nat} {e:o6} {cs:List x4} (h:ak w g e cs):w.rangeAt g 0 cs:=fun j v E=>by rw[V5];exact h.cell E
theorem ak.frozen {w:x5} {g:Nat} {e:o6} {cs:List x4} (h:ak w g e cs) (o:Nat) (E:Option Nat):w.frozen? ⟨g,o,E⟩=false:=by
 unfold ak at h;simp[x5.frozen?,h]
def b7 (w:x5) (k:Nat) (v:x4) (n:Nat) (cs:List x4):Prop:=
 cs.length=n*k∧ ∃ b o base cap,v= .slice base n cap∧n≤cap∧cap≤maxLen∧(0<n→base=some ⟨b,o,none⟩)∧w.rangeAt b o cs
theorem b7.ext {w w':x5} {k:Nat} {v:x4} {n:Nat} {cs:List x4} (h:b7 w k v n cs) (E:Ext w w'):b7 w' k v n cs:=by
 obtain⟨h1,b,o,base,cap,I,J,O,U,V⟩:=h;exact⟨h1,b,o,base,cap,I,J,O,U,pn E V⟩
theorem b7.le {w:x5} {k:Nat} {v:x4} {n:Nat} {cs:List x4} (h:b7 w k v n cs):n≤maxLen:=by
 obtain⟨_,_,_,_,_,_,E,I,_⟩:=h;exact Y5 E I
theorem b7.nil (w:x5) (k:Nat):b7 w k (.slice none 0 0) 0 []:=⟨by simp,0,0,none,0,rfl,o7 _,Y1 _,fun h=>absurd h (Nat.lt_irrefl _),fun j v h=>by simp at h⟩
def aJ (P:X5) (t:o6) (k b:Nat) (z:x4):Prop:=∃ i,P.info? t=some i∧i.size=k∧i.bytes=b∧i.zero=some z
theorem aJ.of {P:X5} {t:o6} {k b:Nat} {z:x4} (h:(P.info? t).map (fun i=>(i.size,i.bytes,i.zero))=some (k,b,some z)):aJ P t k b z:=by
 cases hi:P.info? t with
 |none=>simp[hi] at h
 |some i=>simp[hi] at h;exact⟨i,hi,h⟩
theorem aJ.size {P:X5} {t:o6} {k b:Nat} {z:x4} (h:aJ P t k b z):(P.info? t).map (·.size)=some k:=by
 obtain⟨i,hi,E,_⟩:=h;simp[hi,E]
def bL (P:X5) (t:o6) (I:List (Nat×Nat)):Prop:=∃ E,P.underlying t=some (.struct E)∧E.toList.map (fun f=>(f.offset,((P.info? f.type).map (·.size)).getD 0))=I
def vh (P:X5) (t:o6):Option (List (Nat×Nat)):=match P.underlying t with
 |some (.struct E)=>some (E.toList.map fun f=>(f.offset,((P.info? f.type).map (·.size)).getD 0))
 |_=>none
theorem bL.of {P:X5} {t:o6} {E:List (Nat×Nat)} (h:vh P t=some E):bL P t E:=by
 unfold vh at h;split at h
 ·rename_i I hu;exact⟨I,hu,by simpa using h⟩
 ·cases h
section
variable {P:X5} {w:x5}
theorem I.of {s:Sem x4} {v:x4} {K:x4→Prop} (h:∀ w',Ext w w'→s.run P w'= .ok v w'):I P s w K=K v:=by
 refine propext ⟨fun⟨E,h',k⟩=>?_,fun k=>⟨v,h,k⟩⟩;have:=h' w (Ext.refl w);rw[h w (Ext.refl w)] at this;cases this;exact k
theorem aa.of {α:Type} {s:Sem α} {v:α} {w':x5} {K:α→x5→Prop} (h:s.run P w= .ok v w') (E:cO w w') (k:K v w'):aa P s w K:=⟨v,w',h,E,k⟩
theorem cv {c:Bool} {A B:Prop}:Split (.bool c) A B=((c=true→A)∧(c=false→B)):=by
 refine propext ⟨fun⟨I,h,h1,E⟩=>?_,fun⟨h1,E⟩=>⟨c,rfl,h1,E⟩⟩;cases h;exact⟨h1,E⟩
theorem ag {p:Prop} [Decidable p] {A B:Prop}:Split (.bool (decide p)) A B=((p→A)∧(¬p→B)):=by rw[cv];simp
theorem bm {A B:Prop}:Split (.bool true) A B=A:=by rw[cv];simp
theorem aU {A B:Prop}:Split (.bool false) A B=B:=by rw[cv];simp
theorem aL {t:o6} {cx cy:Bool} {k:o8} {a b:Int} {K:x4→Prop}:I P (U .add t cx cy (.int k a) (.int k b)) w K=K (.int k (k.wrap (a+b))):=
 I.of fun w' _=>by simp[U,eqGuard,binOp,Op.intArith]
theorem dw {t:o6} {cx cy:Bool} {k:o8} {a b:Int} {K:x4→Prop}:I P (U .sub t cx cy (.int k a) (.int k b)) w K=K (.int k (k.wrap (a-b))):=
 I.of fun w' _=>by simp[U,eqGuard,binOp,Op.intArith]
theorem fZ {t:o6} {cx cy:Bool} {k:o8} {a b:Int} {K:x4→Prop}:I P (U .mul t cx cy (.int k a) (.int k b)) w K=K (.int k (k.wrap (a*b))):=
 I.of fun w' _=>by simp[U,eqGuard,binOp,Op.intArith]
theorem qV {t:o6} {cx cy:Bool} {k:o8} {a b:Int} {K:x4→Prop} (E:b≠0):I P (U .quo t cx cy (.int k a) (.int k b)) w K=K (.int k (k.wrap (a.tdiv b))):=
 I.of fun w' _=>by simp[U,eqGuard,binOp,Op.intDiv,E]
theorem vi {t:o6} {cx cy:Bool} {k:o8} {a b:Int} {K:x4→Prop} (E:b≠0):I P (U .rem t cx cy (.int k a) (.int k b)) w K=K (.int k (a.tmod b)):=
 I.of fun w' _=>by simp[U,eqGuard,binOp,Op.intDiv,E]
theorem au {t:o6} {cx cy:Bool} {k:o8} {a b:Int} {K:x4→Prop}:I P (U .lss t cx cy (.int k a) (.int k b)) w K=K (.bool (decide (a<b))):=
 I.of fun w' _=>by simp[U,eqGuard,binOp,Op.intCmp]
theorem po {t:o6} {cx cy:Bool} {k:o8} {a b:Int} {K:x4→Prop}:I P (U .leq t cx cy (.int k a) (.int k b)) w K=K (.bool (decide (a≤b))):=
 I.of fun w' _=>by simp[U,eqGuard,binOp,Op.intCmp]
theorem bT {t:o6} {cx cy:Bool} {k:o8} {a b:Int} {K:x4→Prop}:I P (U .gtr t cx cy (.int k a) (.int k b)) w K=K (.bool (decide (b<a))):=
 I.of fun w' _=>by simp[U,eqGuard,binOp,Op.intCmp]
theorem cw {t:o6} {cx cy:Bool} {k:o8} {a b:Int} {K:x4→Prop}:I P (U .geq t cx cy (.int k a) (.int k b)) w K=K (.bool (decide (b≤a))):=
 I.of fun w' _=>by simp[U,eqGuard,binOp,Op.intCmp]
theorem bM {t:o6} {cx cy:Bool} {k:o8} {a b:Int} {K:x4→Prop}:I P (U .eql t cx cy (.int k a) (.int k b)) w K=K (.bool (decide (a=b))):=
 I.of fun w' _=>by
  have:(a == b)=decide (a=b):=by by_cases h:a=b <;> simp[h]
  simp[U,eqGuard,binOp,Op.intCmp,this]
theorem bC {t:o6} {cx cy:Bool} {k:o8} {a b:Int} {K:x4→Prop}:I P (U .neq t cx cy (.int k a) (.int k b)) w K=K (.bool (decide (a≠b))):=
 I.of fun w' _=>by
  have:(a != b)=decide (a≠b):=by by_cases h:a=b <;> simp[h,bne]
  simp[U,eqGuard,binOp,Op.intCmp,this]
theorem vj {t:o6} {cx cy:Bool} {k E:o8} {a b:Int} {K:x4→Prop} (J:0≤b):I P (U .shl t cx cy (.int k a) (.int E b)) w K=K (.int k (k.wrap (a*2 ^ min b.toNat k.bits))):=
 I.of fun w' _=>by simp[U,eqGuard,binOp,Op.shift,show ¬b<0 by omega]
theorem b4 {c:Bool} {K:x4→Prop}:I P (Z4 .not (.bool c)) w K=K (.bool !c):=I.of fun w' _=>by simp[Z4]
theorem kt {k:o8} {a:Int} {K:x4→Prop}:I P (Z4 .neg (.int k a)) w K=K (.int k (k.wrap (0-a))):=I.of fun w' _=>by simp[Z4,Op.intArith]
theorem fC {s d:o6} {k E:o8} {a:Int} {K:x4→Prop} (J:P.underlying s=some (.int E)) (O:P.underlying d=some (.int k)):
  I P (convert s d (.int E a)) w K=K (.int k (k.wrap a)):=I.of fun w' _=>by simp[convert,run_underlying J,run_underlying O,Conv.intToInt]
theorem sP {t:o6} {cx cy:Bool} {x y:x4} {r:Bool} {K:x4→Prop} (E:∀ w',(eqGuard .eql t (aO cx) (aO cy) x y).run P w'= .ok () w')
  (J:binOp .eql t x y=(do pure (.bool (←Op.equal t x y)))) (h:∀ w',Ext w w'→(Op.equal t x y).run P w'= .ok r w'):I P (U .eql t cx cy x y) w K=K (.bool r):=I.of fun w' O=>by
 unfold U;rw[J,Y4,E w',Result.andThen_ok,Y4,h w' O];rfl
theorem AJ {t:o6} {cx cy:Bool} {x y:x4} {r:Bool} {K:x4→Prop} (E:∀ w',(eqGuard .neq t (aO cx) (aO cy) x y).run P w'= .ok () w')
  (J:binOp .neq t x y=(do pure (.bool (!(←Op.equal t x y))))) (h:∀ w',Ext w w'→(Op.equal t x y).run P w'= .ok r w'):I P (U .neq t cx cy x y) w K=K (.bool !r):=I.of fun w' O=>by
 unfold U;rw[J,Y4,E w',Result.andThen_ok,Y4,h w' O];rfl
theorem vk (w:x5) (d:Nat) {t e:o6} {p:Option Addr} (h:P.underlying t=some (.pointer e)):(Op.equalIn (d+1) t (.pointer p) (.pointer none)).run P w= .ok p.isNone w:=by
 cases p <;> simp[Op.equalIn,run_underlying h]
theorem qW {t e:o6} {cx cy:Bool} {base:Option Addr} {n c:Nat} {K:x4→Prop} (E:P.underlying t=some (.slice e)):
  I P (U .eql t cx cy (.slice base n c) (.slice none 0 0)) w K=K (.bool base.isNone):=sP (fun _=>rfl) rfl fun w' _=>run_equal_slice_nil w' t e base n c E
theorem b8 {t e:o6} {cx cy:Bool} {p:Option Addr} {K:x4→Prop} (E:P.underlying t=some (.pointer e)):
  I P (U .eql t cx cy (.pointer p) (.pointer none)) w K=K (.bool p.isNone):=sP (fun _=>rfl) rfl fun w' _=>vk w' 9999 E
theorem pp {t e:o6} {cx cy:Bool} {p:Option Addr} {K:x4→Prop} (E:P.underlying t=some (.pointer e)):
  I P (U .neq t cx cy (.pointer p) (.pointer none)) w K=K (.bool !p.isNone):=AJ (fun _=>rfl) rfl fun w' _=>vk w' 9999 E
theorem ga {t e E:o6} {base:Option Addr} {n c:Nat} {K:x4→Prop} (J:P.underlying t=some (.slice e)):
  I P (u6 #[t] E #[.slice base n c]) w K=K (.int .i64 n):=I.of fun w' _=>by simp[u6,run_underlying J,goInt]
theorem jA {ch:Array o6} {E:o6} {k:o8} {a b:Int} {K:x4→Prop}:
  I P (T1 ch E #[.int k a,.int k b]) w K=K (.int k (min a b)):=I.of fun w' _=>by
 simp only[T1,List.foldlM,u7.min2];simp only[Y4,X0,Result.andThen_ok,Int.min_def];congr 2;split <;> split <;> omega
theorem qX {ch:Array o6} {E:o6} {k:o8} {a b:Int} {K:x4→Prop}:
  I P (u7.max_ ch E #[.int k a,.int k b]) w K=K (.int k (max a b)):=I.of fun w' _=>by
 simp only[u7.max_,List.foldlM,u7.max2];simp only[Y4,X0,Result.andThen_ok,Int.max_def];congr 2;split <;> split <;> omega
theorem aC {vs:Array x4} {i:Nat} {v:x4} {K:x4→Prop} (h:vs[i]? =some v):I P (x8 (.tuple vs) i) w K=K v:=I.of fun w' _=>by simp[x8,h]
theorem pq {f:Fn} {a b:Array x4} {K:x4→Prop}:I P (Instr.makeFunc f a b) w K=K (.func f a b):=I.of fun _ _=>rfl
def ku (P:X5) (t:o6):Bool:=match P.underlying t with
 |some (.struct _)|some (.array _ _)|none=>false
 |_=>true
theorem al {t:o6} {b o:Nat} {v:x4} {K:x4→Prop} (E:ku P t=true) (h:w.cell? ⟨b,o,none⟩=some v):
  I P (x1 t (.pointer (some ⟨b,o,none⟩))) w K=K v:=I.of fun w' J=>by
 have h':=ln J h;unfold ku at E;cases hu:P.underlying t with
 |none=>rw[hu] at E;cases E
 |some d=>
  rw[hu] at E;cases d <;> first|(cases E;done)|simp[x1,Instr.sureAddr,loadVar,isAgg,run_underlying hu,h']
theorem vl {t:o6} {d:TypeDesc} {b o k E:Nat} {z:x4} {cs:List x4} {K:x4→Prop} (hu:P.underlying t=some d) (J:d.isRow=true) (hi:aJ P t k E z) (O:cs.length=k)
  (h:w.rangeAt b o cs):I P (x1 t (.pointer (some ⟨b,o,none⟩))) w K=K (.agg cs.toArray):=I.of fun w' U=>
 run_loadAt_mid (P:=P) w' b o t cs d (pn U h) hu J (by rw[hi.size,O])
theorem bN {t:o6} {E:List (Nat×Nat)} {b o k J:Nat} {z:x4} {cs:List x4} {K:x4→Prop} (hu:bL P t E) (hi:aJ P t k J z) (O:cs.length=k)
  (h:w.rangeAt b o cs):I P (x1 t (.pointer (some ⟨b,o,none⟩))) w K=K (.agg cs.toArray):=by
 obtain⟨U,hu,_⟩:=hu;exact vl hu rfl hi O h
theorem ah {t:o6} {U:List (Nat×Nat)} {i b o off z:Nat} {K:x4→Prop} (W:bL P t U) (E:U[i]? =some (off,z+1)):
  I P (x2 t (.pointer (some ⟨b,o,none⟩)) i) w K=K (.pointer (some ⟨b,o+off,none⟩)):=I.of fun w' _=>by
 obtain⟨X,hu,rfl⟩:=W;rw[r9] at E;cases J:X[i]? with
 |none=>rw[U8,J] at E;cases E
 |some f=>
  rw[U8,J] at E;simp only[Z0,Z9,V8] at E;obtain⟨rfl,V⟩:=E;cases O:P.info? f.type with
  |none=>simp[O] at V
  |some j=>
   have Y:j.size=z+1:=by simpa[O] using V
   simp[x2,run_underlying hu,J,Instr.sureAddr,fieldPlace,sizeOf,typeInfo,O,Y,U5]
theorem vm {t e:o6} {k:o8} {i:Int} {b o n c z J:Nat} {O:x4} {base:Option Addr} {K:x4→Prop} (hu:P.underlying t=some (.slice e)) (U:aJ P e z J O)
  (V:0≤i) (hi:i<n) (E:0<n→base=some ⟨b,o,none⟩):
  I P (x7 t (.slice base n c) (.int k i)) w K=K (.pointer (some ⟨b,o+i.toNat*z,none⟩)):=I.of fun w' _=>by
 have E:=E (by omega);subst E;obtain⟨j,W,X,_⟩:=U;simp[x7,asIntOf,run_underlying hu,V,hi,sizeOf,typeInfo,W,X,U5]
theorem gx {t e:o6} {k:o8} {i:Nat} {b o n c z E:Nat} {J:x4} {base:Option Addr} {K:x4→Prop} (hu:P.underlying t=some (.slice e)) (O:aJ P e z E J)
  (hi:i<n) (U:0<n→base=some ⟨b,o,none⟩):
  I P (x7 t (.slice base n c) (.int k (i:Int))) w K=K (.pointer (some ⟨b,o+i*z,none⟩)):=by
 rw[vm (i:=(i:Int)) hu O (by omega) (by omega) U];rfl
theorem AK {t e:o6} {k:o8} {i:Int} {b o n z E:Nat} {J:x4} {K:x4→Prop} (hu:P.underlying t=some (.array n e)) (O:aJ P e z E J)
  (U:0≤i) (hi:i<n):
  I P (x7 t (.pointer (some ⟨b,o,none⟩)) (.int k i)) w K=K (.pointer (some ⟨b,o+i.toNat*z,none⟩)):=I.of fun w' _=>by
 obtain⟨j,V,W,_⟩:=O;simp[x7,asIntOf,run_underlying hu,Instr.sureAddr,U,hi,sizeOf,typeInfo,V,W,U5]
theorem vn {t e:o6} {k:o8} {i:Nat} {b o n z E:Nat} {J:x4} {K:x4→Prop} (hu:P.underlying t=some (.array n e)) (O:aJ P e z E J) (hi:i<n):
  I P (x7 t (.pointer (some ⟨b,o,none⟩)) (.int k (i:Int))) w K=K (.pointer (some ⟨b,o+i*z,none⟩)):=by
 rw[AK (i:=(i:Int)) hu O (by omega) (by omega)];rfl
def jB:Option x4→Nat→Prop
 |none,l=>l=0
 |some v,l=>∃ k,v= .int k l
def jC:Option x4→Nat→Nat→Prop
 |none,n,h=>h=n
 |some v,_,h=>∃ k,v= .int k h
def maxOf:Option x4→Option x4→Nat→Nat→Prop
 |none,_,c,m=>m=c
 |some v,some _,_,m=>∃ k,v= .int k m
 |some _,none,_,_=>False
theorem qY {k:o8} {l:Nat}:jB (some (.int k (l:Int))) l:=⟨_,rfl⟩
theorem lp (l:Nat) (x:Int) {k:o8} (h:x=(l:Int)):jB (some (.int k x)) l:=⟨k,by rw[h]⟩
theorem lq (l:Nat) (x:Int) {k:o8} {n:Nat} (h:x=(l:Int)):jC (some (.int k x)) n l:=⟨k,by rw[h]⟩
theorem hX:jB none 0:=rfl
theorem qZ {k:o8} {n h:Nat}:jC (some (.int k (h:Int))) n h:=⟨_,rfl⟩
theorem hY {n:Nat}:jC none n n:=rfl
theorem eU {h:Option x4} {c:Nat}:maxOf none h c c:=by cases h <;> rfl
theorem q0 (w:x5) {sl:Bool} {n c l h m:Nat} {low high mx:Option x4} (h1:jB low l) (I:jC high n h) (E:maxOf mx high c m) (J:l≤h) (O:h≤m) (hm:m≤c):
  (Instr.sliceBounds sl n c low high mx).run P w= .ok (l,h,m) w:=by
 cases low <;> cases high <;> cases mx <;> simp only[jB,jC,maxOf] at h1 I E <;> (try exact E.elim) <;> (try obtain⟨U,rfl⟩:=h1) <;> (try obtain⟨V,rfl⟩:=I) <;> (try obtain⟨W,rfl⟩:=E) <;> (try subst h1) <;> (try subst I) <;> (try subst E) <;>
  simp[Instr.sliceBounds,Instr.sliceBound,asIntOf,J,O,hm]
theorem gy {t e:o6} {n c z E l h m:Nat} {J:x4} {base:Option Addr} {low high mx:Option x4} {K:x4→Prop} (hu:P.underlying t=some (.slice e)) (O:aJ P e z E J)
  (h1:jB low l) (U:jC high n h) (V:maxOf mx high c m) (W:l≤h) (X:h≤m) (hm:m≤c):
  I P (j4 t (.slice base n c) low high mx) w K=K (.slice (if m=l then base else base.map (·.add (l*z))) (h-l) (m-l)):=I.of fun w' _=>by
 obtain⟨j,Y,Z,_⟩:=O;simp[j4,Instr.slice,run_underlying hu,q0 w' h1 U V W X hm,sizeOf,typeInfo,Y,Z]
theorem q1 {t e:o6} {n z E l h m b o:Nat} {J:x4} {low high mx:Option x4} {K:x4→Prop} (hu:P.underlying t=some (.array n e)) (O:aJ P e z E J)
  (h1:jB low l) (U:jC high n h) (V:maxOf mx high n m) (W:l≤h) (X:h≤m) (hm:m≤n):
  I P (j4 t (.pointer (some ⟨b,o,none⟩)) low high mx) w K=K (.slice (some (if m=l then⟨b,o,none⟩ else⟨b,o+l*z,none⟩)) (h-l) (m-l)):=I.of fun w' _=>by
 obtain⟨j,Y,Z,_⟩:=O;simp[j4,Instr.sureAddr,run_underlying hu,q0 w' h1 U V W X hm,sizeOf,typeInfo,Y,Z,U5]
theorem cR {t:o6} {parts:Array (Nat×x4)} {cs:Array x4} {K:x4→Prop} (h:P.built t parts.toList=some cs):I P (Z3 t parts) w K=K (.agg cs):=I.of fun w' _=>
 run_build (P:=P) w' t parts cs h
end
theorem b7.part {w:x5} {k n c l h m:Nat} {base:Option Addr} {cs:List x4} (I:b7 w k (.slice base n c) n cs) (W:l≤h) (J:h≤n) (hm:h≤m) (X:m≤c):
  b7 w k (.slice (if m=l then base else base.map (·.add (l*k))) (h-l) (m-l)) (h-l) ((cs.drop (l*k)).take ((h-l)*k)):=by
 obtain⟨h1,b,o,Y,cap,he,Z,aa,O,U⟩:=I;cases he;have ab:h*k≤n*k:=X6 _ J;have ac:l*k+(h-l)*k=h*k:=by rw[←V1];congr 1;omega
 refine⟨by simp[h1];omega,b,o+l*k,_,m-l,rfl,by omega,by omega,fun ad=>?_,fun j v E=>?_⟩
 ·rw[O (by omega),if_neg (by omega)];simp[U5]
 ·have V:=(u4.1 E).1;simp at V;rw[Z8 (by omega),List.getElem?_drop] at E;rw[Nat.add_assoc];exact U _ _ E
section
variable {P:X5} {w:x5}
structure gV (g:Nat) (w w':x5):Prop where
 os:w'.os=w.os
 tape:iq w w'
 output:w'.output=w.output
 size:w'.heap.size=w.heap.size
 bz:∀ r,r≠g→w'.heap[r]? =w.heap[r]?
theorem gV.refl (g:Nat) (w:x5):gV g w w:=⟨rfl,.ir,rfl,rfl,fun _ _=>rfl⟩
theorem gV.trans {g:Nat} {a b c:x5} (h:gV g a b) (k:gV g b c):gV g a c:=
 ⟨k.os.trans h.os,k.tape.trans h.tape,k.output.trans h.output,k.size.trans h.size,fun r E=>(k.bz r E).trans (h.bz r E)⟩
theorem gV.ad {g:Nat} {w w':x5} (h:gV g w w'):am (fun r=>r=g) w w':=⟨Nat.le_of_eq h.size.symm,fun r o E _ I=>by rw[h.bz r I];exact E⟩
theorem gV.da {g:Nat} {w w':x5} (h:gV g w w') {e:o6} {cs:List x4} (I:ak w g e cs):cO w w':=
 ⟨h.os,h.tape,h.output,Nat.le_of_eq h.size.symm,fun r o E O=>by
  by_cases J:r=g
  ·subst J;unfold ak at I;rw[I] at E;cases E;simp[fx] at O
  ·rw[h.bz r J];exact E⟩
theorem vo {g:Nat} {e:o6} {cs:List x4} (h:ak w g e cs) (o:Nat) (v:x4):ak (w.setCell ⟨g,o,none⟩ v) g e (cs.set o v)∧gV g w (w.setCell ⟨g,o,none⟩ v):=by
 unfold ak at h;refine⟨?_,rfl,.ir,rfl,by simp[x5.setCell],fun r E=>?_⟩
 ·simp[ak,x5.setCell,Array.getElem?_modify,h]
 ·simp[x5.setCell,Array.getElem?_modify,Ne.symm E]
def over (cs:List x4):Nat→List x4→List x4
 |_,[]=>cs
 |o,v::r=>over (cs.set o v) (o+1) r
theorem mT:∀ (vs cs:List x4) (o:Nat),(over cs o vs).length=cs.length
 |[],_,_=>rfl
 |v::r,cs,o=>by simp[over,mT r]
theorem pr:∀ (vs cs:List x4) (o:Nat),o+vs.length≤cs.length→ ∀ j,(over cs o vs)[j]? =if o≤j∧j<o+vs.length then vs[j-o]? else cs[j]?
 |[],cs,o,_,j=>by simp[over];intro h1 E;omega
 |v::r,cs,o,h,j=>by
  simp only[j9] at h;rw[over,pr r (cs.set o v) (o+1) (by simp;omega) j];simp only[j9];by_cases h1:o+1≤j∧j<o+1+r.length
  ·rw[if_pos h1,if_pos (by omega)];rw[show j-o=(j-(o+1))+1 by omega,List.getElem?_cons_succ]
  ·rw[if_neg h1];by_cases E:j=o
   ·subst E;rw[if_pos (by omega),List.getElem?_set_self (by omega)];simp
   ·rw[if_neg (by omega),List.getElem?_set_ne (Ne.symm E)]
theorem kv {vs cs:List x4} {o:Nat} (h:o+vs.length≤cs.length):over cs o vs=cs.take o++vs++cs.drop (o+vs.length):=by
 apply W0;intro j;rw[pr vs cs o h];by_cases h1:j<o
 ·rw[if_neg (by omega),Y0 (by simp;omega),Y0 (by simp;omega),Z8 h1]
 ·by_cases E:j<o+vs.length
  ·rw[if_pos (by omega),Y0 (by simp;omega),Y3 (by simp;omega)];congr 1;simp;omega
  ·rw[if_neg (by omega),Y3 (by simp;omega),List.getElem?_drop];congr 1;simp;omega
theorem lr {g:Nat} {e:o6}:∀ (vs:List x4) (cs:List x4) (o:Nat) (w:x5),ak w g e cs→ak (w.setCells g o vs) g e (over cs o vs)∧gV g w (w.setCells g o vs)
 |[],cs,o,w,h=>⟨h,gV.refl _ _⟩
 |v::r,cs,o,w,h=>by
  obtain⟨h1,E⟩:=vo h o v;obtain⟨I,J⟩:=lr r (cs.set o v) (o+1) _ h1;exact⟨I,E.trans J⟩
theorem q2 (w:x5) (c:List x4) (e:o6):ak (w.alloc (.cells c.toArray e)) w.heap.size e c∧Ext w (w.alloc (.cells c.toArray e))∧cO w (w.alloc (.cells c.toArray e)):=
 ⟨heap_alloc_new w _,nA w _,nB w _⟩
theorem bU {t:o6} {k E:Nat} {z:x4} {K:x4→x5→Prop} (hi:aJ P t k E z)
  (h:∀ g w',g=w.heap.size→Ext w w'→ak w' g t z.cells.toList→K (.pointer (some ⟨g,0,none⟩)) w'):aa P (n0 t true (.tuple #[])) w K:=by
 obtain⟨i,hi,_,_,I⟩:=hi;obtain⟨h1,J,O⟩:=q2 w z.cells.toList t;refine .of ?_ O (h _ _ rfl J h1);simp[n0,zeroValue,typeInfo,hi,I,newVar,newRow]
theorem cc {t:o6} {v:x4} {K:x4→x5→Prop}
  (h:∀ g w',g=w.heap.size→Ext w w'→ak w' g t v.cells.toList→K (.pointer (some ⟨g,0,none⟩)) w'):aa P (Z5 t v) w K:=by
 obtain⟨h1,E,I⟩:=q2 w v.cells.toList t;refine .of ?_ I (h _ _ rfl E h1);simp[Z5,newVar,newRow]
def db (z:Array x4) (n:Nat):List x4:=((Array.range n).map (z[·% z.size]!)).toList
theorem mU (z:Array x4) (n:Nat):(db z n).length=n:=by simp[db]
theorem hZ {t e:o6} {k O:Nat} {z:x4} {n:Nat} {parts:Array (Nat×x4)} {cs:Array x4} {K:x4→x5→Prop} (J:P.underlying t=some (.slice e)) (hi:aJ P e k O z)
  (Y:n*k≤2 ^ 24) (E:Instr.fill (fun j=>some (j*k,k)) ((Array.range (n*k)).map ((if n*k=0 then #[] else z.cells)[·% (if n*k=0 then #[] else z.cells).size]!)) parts.toList=some cs)
  (h:∀ g w',g=w.heap.size→Ext w w'→ak w' g e cs.toList→K (.slice (some ⟨g,0,none⟩) n n) w'):aa P (u9 t n parts) w K:=by
 obtain⟨i,hi,rfl,_,U⟩:=hi;obtain⟨h1,V,W⟩:=q2 w cs.toList e;refine .of ?_ W (h _ _ rfl V h1);have X:¬(16777216<n*i.size):=by omega
 by_cases I:n*i.size=0
 ·simp only[I,if_true] at E;simp[u9,run_underlying J,sizeOf,typeInfo,hi,I,newRow];simp at E;simp[E]
 ·simp only[I,if_false] at E;simp[u9,run_underlying J,sizeOf,typeInfo,hi,X,I,newRow,zeroValue,U,E]
theorem bH {t:o6} {J g o:Nat} {z:x4} {e:o6} {cs:List x4} {v:x4} {K:Unit→x5→Prop} (hi:aJ P t 1 J z) (h1:v.cells= #[v]) (O:v.oneCell'=true) (E:ak w g e cs) (U:o<cs.length)
  (h:∀ w',am (fun r=>r=g) w w'→w'.heap.size=w.heap.size→ak w' g e (cs.set o v)→K () w'):aa P (x6 t (.pointer (some ⟨g,o,none⟩)) v) w K:=by
 obtain⟨i,hi,V,_⟩:=hi;obtain⟨W,I⟩:=vo E o v;refine .of (w':=w.setCell ⟨g,o,none⟩ v) ?_ (I.da E) (h _ I.ad I.size W);have X:=E.cell (x3 U);have Y:(⟨g,o,none⟩:Addr).add 0=⟨g,o,none⟩:=rfl;simp[x6,Instr.sureAddr,storeVar,sizeOf,typeInfo,hi,V,h1,storeCells,Y,run_store P w _ v _ O,X,E.frozen]
theorem vp {t:o6} {k J g o:Nat} {z:x4} {e:o6} {cs vs:List x4} {K:Unit→x5→Prop} (hi:aJ P t k J z) (O:vs.length=k) (U:∀ v∈vs,v.oneCell'=true) (E:ak w g e cs) (X:o+vs.length≤cs.length)
  (h:∀ w',am (fun r=>r=g) w w'→w'.heap.size=w.heap.size→ak w' g e (over cs o vs)→K () w'):aa P (x6 t (.pointer (some ⟨g,o,none⟩)) (.agg vs.toArray)) w K:=by
 obtain⟨V,I⟩:=lr vs cs o w E;refine .of (w':=w.setCells g o vs) ?_ (I.da E) (h _ I.ad I.size V);exact run_storeAt_mid (P:=P) w g o t vs.toArray (fun j W=>⟨by rw[E.cell (x3 (show o+j<cs.length by simp at W;omega))];rfl,E.frozen _ _⟩) (by rw[hi.size];simp[O]) (by simpa using U)
def bR (w:x5) (g:Nat) (e:o6) (k:Nat) (v:x4) (n:Nat) (xs:List x4):Prop:=
 xs.length=n*k∧((v= .slice none 0 0∧n=0)∨ ∃ cap cs,v= .slice (some ⟨g,0,none⟩) n cap∧ak w g e cs∧n≤cap∧cap≤maxLen∧cs.length=cap*k∧cs.take (n*k)=xs)
theorem bR.nil (w:x5) (g:Nat) (e:o6) (k:Nat):bR w g e k (.slice none 0 0) 0 []:=⟨by simp,.inl ⟨rfl,rfl⟩⟩
theorem bR.full {g:Nat} {e:o6} {k n:Nat} {cs:List x4} (h:ak w g e cs) (E:cs.length=n*k) (I:n≤maxLen):bR w g e k (.slice (some ⟨g,0,none⟩) n n) n cs:=
 ⟨E,.inr ⟨n,cs,rfl,h,o7 _,I,E,by rw[←E,l5]⟩⟩
theorem bR.ad {g:Nat} {e:o6} {k:Nat} {v:x4} {n:Nat} {xs:List x4} {S:Nat→Prop} {w':x5} (h:bR w g e k v n xs) (I:am S w w') (J:g<w.heap.size→¬S g):bR w' g e k v n xs:=
 ⟨h.1,h.2.imp id fun⟨cap,cs,h1,E,O⟩=>⟨cap,cs,h1,E.ad I (J E.lt),O⟩⟩
theorem bR.ext {g:Nat} {e:o6} {k:Nat} {v:x4} {n:Nat} {xs:List x4} {w':x5} (h:bR w g e k v n xs) (E:Ext w w'):bR w' g e k v n xs:=h.ad (E.ad fun _=>False) (fun _ h=>h)
theorem bR.sl {g:Nat} {e:o6} {k:Nat} {v:x4} {n:Nat} {xs:List x4} (h:bR w g e k v n xs):b7 w k v n xs:=by
 obtain⟨h1,⟨rfl,rfl⟩|⟨cap,cs,rfl,I,J,O,V,U⟩⟩:=h
 ·have:xs=[]:=j5 (by simpa using h1);subst this;exact b7.nil w k
 ·refine⟨h1,g,0,_,cap,rfl,J,O,fun _=>rfl,fun j v E=>?_⟩;rw[V5];have W:=(u4.1 E).1;rw[←U,Z8 (by omega)] at E;exact I.cell E
theorem b7.src {k:Nat} {x:x4} {m:Nat} {E:List x4} {J O:o6} (U:b7 w k x m E) (V:P.underlying J=some (.slice O)) (h1:∀ u∈E,u.oneCell'=true) (W:0<m):Src P k J x m E w:=by
 obtain⟨X,b,o,base,cap,rfl,_,_,I,Y⟩:=U;have I:=I W;subst I;exact Src.ofSlice w V ⟨b,o,none⟩ m cap E X (fun j u hu=>by rw[U5];exact Y j u hu) h1
theorem b7.AL {k:Nat} {x:x4} {J:List x4} {E O:o6} (U:b7 w k x 0 J) (I:P.underlying E=some (.slice O)):Src P k E x 0 [] w:=by
 obtain⟨V,b,o,base,cap,rfl,_,_,W,X⟩:=U;cases base with
 |none=>exact Src.ofNil w I cap
 |some a=>exact Src.ofSlice w I a 0 cap [] (by simp) (by simp) (by simp)
theorem vq {t J U e ai aw:o6} {z:x4} {k aj g n m:Nat} {v x:x4} {xs E:List x4} {K:x4→x5→Prop}
  (Y:P.underlying t=some (.slice e)) (Z:P.underlying J=some (.slice aw)) (hi:aJ P e k aj z) (ax:z.cells.size=k)
  (ak:bR w g ai k v n xs) (X:b7 w k x m E) (h1:∀ u∈E,u.oneCell'=true) (ay:(n+m)*aj≤140737488355328) (al:n+m≤maxLen)
  (h:∀ ab ac w' ae,(ac=g∧ae=ai∧(v=ab∨g<w.heap.size∧v≠ .slice none 0 0)∨ac=w.heap.size∧ae=e)→bR w' ac ae k ab (n+m) (xs++E)→am (fun r=>r=g∧v≠ .slice none 0 0) w w'→K ab w'):
  aa P (r8 #[t,J] U #[v,x]) w K:=by
 obtain⟨i,hi,rfl,rfl,az⟩:=hi;have aA:=ak.sl;obtain⟨I,af⟩:=ak;have O:=X.1;have grow:∀ (base:Option Addr) (cap:Nat),v= .slice base n cap→cap<n+m→0<m→(u7.firstCells i.size n (.slice base n cap)).run P w.drew= .ok xs.toArray w.drew→aa P (r8 #[t,J] U #[v,x]) w K:=by
  rintro base cap rfl ao hm aB;have V:=run_append_grow_src (P:=P) w t J U e i z Y hi az base n cap xs aB x m E (X.src Z h1 hm) ao (by simp only[maxLen] at al;omega) (growslice_fits ao ay);have aC:n+m≤grownCap w (n+m) cap e:=grownCap_ge w _ _ _;have ag:grownCap w (n+m) cap e≤maxLen:=grownCap_le_maxLen w (n+m) cap e al;have aD:Ext w (w.drew.alloc (.cells ((xs++E).toArray++u7.zeroCells z.cells (grownCap w (n+m) cap e-(n+m))) e)):=(qq w _).trans (nA _ _);refine .of V ((nz w _ (Nat.le_succ _)).trans (nB _ _)) (h _ w.heap.size _ _ (.inr ⟨rfl,rfl⟩) ⟨by simp[I,O,V1],.inr ⟨_,((xs++E).toArray++u7.zeroCells z.cells (grownCap w (n+m) cap e-(n+m))).toList,rfl,?_,aC,ag,?_,?_⟩⟩ (aD.ad _))
  ·show _=_;rw[Array.toArray_toList];exact heap_alloc_new w.drew _
  ·simp[I,O,size_zeroCells,ax,←V1];congr 1;omega
  ·rw[Array.toList_append,List.toList_toArray,V1,←I,←O,←o5];exact List.take_left
 rcases Nat.eq_zero_or_pos m with rfl|hm
 ·have aE:E=[]:=j5 (by simpa using O);subst aE;have aF:=X.AL Z;have ap:∀ base cap,v= .slice base n cap→n≤cap→aa P (r8 #[t,J] U #[v,x]) w K:=by
   rintro base cap rfl ag;refine .of (run_append_nothing (P:=P) w t J U e i Y hi base n cap ag x aF) (cO.refl _) (h _ g _ _ (.inl ⟨rfl,rfl,.inl rfl⟩) ?_ (am.refl _ _));rw[Nat.add_zero,U2];exact⟨I,af⟩
  obtain⟨rfl,rfl⟩|⟨cap,cs,rfl,_,aq,_⟩:=af
  ·exact ap _ _ rfl (o7 _)
  ·exact ap _ _ rfl aq
 ·obtain⟨rfl,rfl⟩|⟨cap,cs,rfl,W,aq,aG,au,aH⟩:=af
  ·have aI:xs=[]:=j5 (by simpa using I);subst aI;exact grow none 0 rfl (by omega) hm (run_firstCells_none w.drew i.size 0 0 0)
  ·by_cases ah:n+m≤cap
   ·have aK:n*i.size+E.length≤cs.length:=by rw[O,au,←V1];exact X6 _ ah
    have V:=run_append_room_src (P:=P) w t J U e i Y hi g 0 n cap x m E (X.src Z h1 hm) ah
     (fun j aP=>by rw[W.cell (x3 (show 0+n*i.size+j<cs.length by omega))];rfl) (fun j _=>W.frozen _ _)
    obtain⟨aL,av⟩:=lr E cs (n*i.size) w W;rw[V5] at V;refine .of V (av.da W) (h _ g _ _ (.inl ⟨rfl,rfl,.inr ⟨W.lt,by simp⟩⟩) ⟨by simp[I,O,V1],.inr ⟨cap,_,rfl,aL,ah,aG,by rw[mT,au],?_⟩⟩ (av.ad.mono fun r _ h=>⟨h,by simp⟩));rw[kv aK,aH,V1,←I,←O,←o5];exact List.take_left
   ·refine grow _ cap rfl (by omega) hm (run_firstCells_some w.drew i.size n _ n cap xs I fun j u hu=>?_);rw[U5];obtain⟨_,b,o,base,aQ,he,_,_,aM,V⟩:=aA;cases he;have aN:0<n:=by
     rcases Nat.eq_zero_or_pos n with rfl|aO
     ·simp at I;subst I;simp at hu
     ·exact aO
    have:=aM aN;cases this;simpa using V j u hu
theorem lu {t O W e X:o6} {z:x4} {k U g n m:Nat} {v x:x4} {xs J:List x4} {K:x4→x5→Prop}
  (Y:P.underlying t=some (.slice e)) (Z:P.underlying O=some (.slice X)) (hi:aJ P e k U z) (ab:z.cells.size=k)
  (ac:bR w g e k v n xs) (ad:b7 w k x m J) (h1:∀ u∈J,u.oneCell'=true) (ae:(n+m)*U≤140737488355328) (af:n+m≤maxLen)
  (h:∀ I E w',(E=g∨w.heap.size≤E)→bR w' E e k I (n+m) (xs++J)→am (fun r=>r=g) w w'→K I w'):
  aa P (r8 #[t,O] W #[v,x]) w K:=
 vq Y Z hi ab ac ad h1 ae af fun I E w' ah V hm ag=>by
  refine h I E w' (V.imp And.left fun h=>Nat.le_of_eq h.1.symm) ?_ (ag.mono fun r _ h=>h.1);obtain⟨_,rfl,_⟩|⟨_,rfl⟩:=V <;> exact hm
theorem vr {J U V e:o6} {ag g o E W n:Nat} {z:x4} {x:x4} {base:Option Addr} {cs xs:List x4} {Z:o6} {K:x4→x5→Prop} (ab:P.underlying J=some (.slice e)) (hi:aJ P e 1 ag z)
  (I:ak w g Z cs) (ah:0<E→base=some ⟨g,o,none⟩) (ax:o+E≤cs.length) (ai:b7 w 1 x n xs) (h1:∀ u∈xs,u.oneCell'=true)
  (h:∀ w',am (fun r=>r=g) w w'→w'.heap.size=w.heap.size→ak w' g Z (over cs o (xs.take E))→K (.int .i64 (min n E:Nat)) w'):
  aa P (u7.copy_ #[J,U] V #[.slice base E W,x]) w K:=by
 obtain⟨X,b,o',aj,cap,rfl,_,_,al,ao⟩:=ai;simp only[T0] at X;have ac:(P.info? e).map (·.size)=some 1:=hi.size;by_cases O:Nat.min n E=0
 ·have he:xs.take E=[]:=j5 (by rw[l7,X];rw[Nat.min_comm];exact O);rw[he] at h;refine .of (run_copy_none (P:=P) w J U V e base aj E W n cap ab ac O) (cO.refl _) ?_;have ae:min n E=0:=O;rw[ae] at h;exact h w (am.refl _ _) rfl I
 ·have ae:min n E≠0:=O;have ap:=al (by omega);have aq:=ah (by omega);subst ap;subst aq;have af:(xs.take E).length=min n E:=by rw[l7,X,Nat.min_comm]
  obtain⟨au,Y⟩:=lr (xs.take E) cs o w I;have av:=run_copy_cells (P:=P) w J U V e g o E W ⟨b,o',none⟩ n cap (xs.take E) ab ac af
   (fun j u hu=>by
    rw[U5];have aw:=(u4.1 hu).1;rw[Z8 (by omega)] at hu;exact ao j u hu)
   (fun j aw=>by rw[I.cell (x3 (show o+j<cs.length by omega))];rfl) (fun j _=>I.frozen _ _) (fun u hu=>h1 u (List.mem_of_mem_take hu))
  refine .of av (Y.da I) ?_;rw[af];exact h _ Y.ad Y.size au
theorem O.mono {f:FuncId} {args:List x4} {K I:x4→x5→Prop} (h:O P f args w K) (J:∀ v w',cO w w'→K v w'→I v w'):O P f args w I:=by
 cases h with
 |code h1 E=>exact .code h1 (E.mono fun _ w' ⟨v,h1,U,E⟩=>⟨v,h1,U,J v w' U E⟩)
 |ext v w' h1 E V=>exact .ext v w' h1 E (J v w' E V)
theorem ey.mono {f:FuncId} {args:List x4} {K I:x4→x5→Prop} (h:ey P f args w K) (J:∀ v w',K v w'→I v w'):ey P f args w I:=by
 cases h with
 |code h1 E=>exact .code h1 (E.mono fun _ w' ⟨v,h1,E⟩=>⟨v,h1,J v w' E⟩)
 |ext v w' h1 O=>exact .ext v w' h1 (J v w' O)
theorem l0.mono {l:Nat} {args:List x4} {K E:x4→x5→Prop} (h:l0 P l args w K) (I:∀ v w',K v w'→E v w'):l0 P l args w E:=
 YieldAt.mono h fun _ w' ⟨v,h1,J⟩=>⟨v,h1,I v w' J⟩
end
end Go.Vc
namespace Go.Proofs.YtgbkinibgjmodaaGreatDoor
open Go Go.Vc Go.RowKit Go.Proofs Go.Proofs.Tryz
set_option maxRecDepth 100000
theorem af.u:y0.underlying af=some (.int .i64):=by kernel_rfl
theorem af.i:aJ y0 af 1 8 (.int .i64 0):=aJ.of (by kernel_rfl)
theorem J.u:y0.underlying J=some (.int .i64):=by kernel_rfl
theorem J.i:aJ y0 J 1 8 (.int .i64 0):=aJ.of (by kernel_rfl)
theorem gT.u:y0.underlying gT=some .bool:=by kernel_rfl
theorem gT.i:aJ y0 gT 1 1 (.bool false):=aJ.of (by kernel_rfl)
theorem bi.u:y0.underlying bi=some (.int .u8):=by kernel_rfl
theorem bi.i:aJ y0 bi 1 1 (.int .u8 0):=aJ.of (by kernel_rfl)
theorem a1.u:y0.underlying a1=some .string:=by kernel_rfl
theorem a1.i:aJ y0 a1 1 16 (.string ⟨#[]⟩):=aJ.of (by kernel_rfl)
theorem aX.u:y0.underlying aX=some (.slice bi):=by kernel_rfl
theorem bI.u:y0.underlying bI=some (.pointer aM):=by kernel_rfl
theorem ab.u:y0.underlying ab=some (.slice J):=by kernel_rfl
theorem ab.i:aJ y0 ab 1 24 (.slice none 0 0):=aJ.of (by kernel_rfl)
theorem cz.u:y0.underlying cz=some (.slice ab):=by kernel_rfl
theorem cz.i:aJ y0 cz 1 24 (.slice none 0 0):=aJ.of (by kernel_rfl)
theorem fM.u:y0.underlying fM=some (.slice gT):=by kernel_rfl
theorem fM.i:aJ y0 fM 1 24 (.slice none 0 0):=aJ.of (by kernel_rfl)
theorem b5.u:y0.underlying b5=some (.slice ae):=by kernel_rfl
theorem b5.i:aJ y0 b5 1 24 (.slice none 0 0):=aJ.of (by kernel_rfl)
theorem dX.u:y0.underlying dX=some (.slice gv):=by kernel_rfl
theorem dX.i:aJ y0 dX 1 24 (.slice none 0 0):=aJ.of (by kernel_rfl)
theorem a6.p:bL y0 a6 [(0,1),(1,1),(2,1),(3,1),(4,1),(5,1),(6,1),(7,1)]:=bL.of (by kernel_rfl)
theorem a6.i:aJ y0 a6 8 160 (.agg #[(.int .i64 0),(.slice none 0 0),(.int .i64 0),(.slice none 0 0),(.slice none 0 0),(.slice none 0 0),(.slice none 0 0),(.slice none 0 0)]):=aJ.of (by kernel_rfl)
theorem bJ.i:aJ y0 bJ 1 8 (.int .i64 0):=aJ.of (by kernel_rfl)
theorem bG.u:y0.underlying bG=some (.int .u64):=by kernel_rfl
theorem bG.i:aJ y0 bG 1 8 (.int .u64 0):=aJ.of (by kernel_rfl)
theorem bk.p:bL y0 bk [(0,1),(1,1)]:=bL.of (by kernel_rfl)
theorem bk.i:aJ y0 bk 2 16 (.agg #[(.int .u64 0),(.int .i64 0)]):=aJ.of (by kernel_rfl)
theorem ae.u:y0.underlying ae=some (.slice af):=by kernel_rfl
theorem ae.i:aJ y0 ae 1 24 (.slice none 0 0):=aJ.of (by kernel_rfl)
theorem aE.p:bL y0 aE [(0,1),(1,1),(2,1)]:=bL.of (by kernel_rfl)
theorem aE.i:aJ y0 aE 3 72 (.agg #[(.slice none 0 0),(.slice none 0 0),(.slice none 0 0)]):=aJ.of (by kernel_rfl)
theorem gv.p:bL y0 gv [(0,3),(3,1)]:=bL.of (by kernel_rfl)
theorem gv.i:aJ y0 gv 4 80 (.agg #[(.slice none 0 0),(.slice none 0 0),(.slice none 0 0),(.bool false)]):=aJ.of (by kernel_rfl)
theorem dl.u:y0.underlying dl=some (.pointer cK):=by kernel_rfl
theorem dE.u:y0.underlying dE=some (.slice eo):=by kernel_rfl
theorem mS.u:y0.underlying mS=some (.pointer bg):=by kernel_rfl
theorem qT.u:y0.underlying qT=some (.pointer b3):=by kernel_rfl
theorem bo.u:y0.underlying bo=some (.slice aE):=by kernel_rfl
theorem bo.i:aJ y0 bo 1 24 (.slice none 0 0):=aJ.of (by kernel_rfl)
theorem bX.p:bL y0 bX [(0,1),(1,1),(2,1),(3,1),(4,1)]:=bL.of (by kernel_rfl)
theorem bX.i:aJ y0 bX 5 88 (.agg #[(.int .i64 0),(.slice none 0 0),(.int .i64 0),(.slice none 0 0),(.slice none 0 0)]):=aJ.of (by kernel_rfl)
theorem dm.u:y0.underlying dm=some (.pointer cX):=by kernel_rfl
theorem bc.u:y0.underlying bc=some (.slice cj):=by kernel_rfl
theorem bc.i:aJ y0 bc 1 24 (.slice none 0 0):=aJ.of (by kernel_rfl)
theorem aM.p:bL y0 aM [(0,1),(1,1),(2,1),(3,1),(4,1)]:=bL.of (by kernel_rfl)
theorem aK.p:bL y0 aK [(0,1)]:=bL.of (by kernel_rfl)
theorem aK.i:aJ y0 aK 1 24 (.agg #[(.slice none 0 0)]):=aJ.of (by kernel_rfl)
theorem cj.p:bL y0 cj [(0,1),(1,1),(2,1)]:=bL.of (by kernel_rfl)
theorem cj.i:aJ y0 cj 3 56 (.agg #[(.slice none 0 0),(.slice none 0 0),(.int .i64 0)]):=aJ.of (by kernel_rfl)
theorem bB.u:y0.underlying bB=some (.pointer bq):=by kernel_rfl
theorem bB.i:aJ y0 bB 1 8 (.pointer none):=aJ.of (by kernel_rfl)
theorem lf.u:y0.underlying lf=some (.pointer dv):=by kernel_rfl
theorem cP.p:bL y0 cP [(0,1),(1,1),(2,1),(3,1)]:=bL.of (by kernel_rfl)
theorem dz.u:y0.underlying dz=some (.slice fX):=by kernel_rfl
theorem dz.i:aJ y0 dz 1 24 (.slice none 0 0):=aJ.of (by kernel_rfl)
theorem bn.p:bL y0 bn [(0,1),(1,4),(5,1),(6,1)]:=bL.of (by kernel_rfl)
theorem e7.u:y0.underlying e7=some (.slice bf):=by kernel_rfl
theorem eg.u:y0.underlying eg=some (.slice cB):=by kernel_rfl
theorem eg.i:aJ y0 eg 1 24 (.slice none 0 0):=aJ.of (by kernel_rfl)
theorem bf.p:bL y0 bf [(0,1),(1,1),(2,1),(3,1)]:=bL.of (by kernel_rfl)
theorem bf.i:aJ y0 bf 4 80 (.agg #[(.slice none 0 0),(.slice none 0 0),(.int .i64 0),(.slice none 0 0)]):=aJ.of (by kernel_rfl)
theorem bO.u:y0.underlying bO=some (.slice bj):=by kernel_rfl
theorem bO.i:aJ y0 bO 1 24 (.slice none 0 0):=aJ.of (by kernel_rfl)
theorem bg.p:bL y0 bg [(0,1),(1,1),(2,1),(3,1)]:=bL.of (by kernel_rfl)
theorem b6.u:y0.underlying b6=some (.pointer cL):=by kernel_rfl
theorem b6.i:aJ y0 b6 1 8 (.pointer none):=aJ.of (by kernel_rfl)
theorem bj.p:bL y0 bj [(0,1),(1,1)]:=bL.of (by kernel_rfl)
theorem bj.i:aJ y0 bj 2 32 (.agg #[(.slice none 0 0),(.pointer none)]):=aJ.of (by kernel_rfl)
theorem cA.u:y0.underlying cA=some (.slice bp):=by kernel_rfl
theorem cA.i:aJ y0 cA 1 24 (.slice none 0 0):=aJ.of (by kernel_rfl)
theorem bY.u:y0.underlying bY=some (.slice aF):=by kernel_rfl
theorem bY.i:aJ y0 bY 1 24 (.slice none 0 0):=aJ.of (by kernel_rfl)
theorem aN.p:bL y0 aN [(0,1),(1,1),(2,1),(3,1),(4,1),(5,1),(6,1),(7,1),(8,1)]:=bL.of (by kernel_rfl)
theorem b3.p:bL y0 b3 [(0,1),(1,1),(2,1),(3,1)]:=bL.of (by kernel_rfl)
theorem bp.p:bL y0 bp [(0,1),(1,1)]:=bL.of (by kernel_rfl)
theorem bp.i:aJ y0 bp 2 24 (.agg #[(.string ⟨#[]⟩),(.int .i64 0)]):=aJ.of (by kernel_rfl)
theorem cp.u:y0.underlying cp=some (.slice bA):=by kernel_rfl
theorem cp.i:aJ y0 cp 1 24 (.slice none 0 0):=aJ.of (by kernel_rfl)
theorem aF.p:bL y0 aF [(0,1),(1,1),(2,1),(3,1)]:=bL.of (by kernel_rfl)
theorem aF.i:aJ y0 aF 4 80 (.agg #[(.slice none 0 0),(.slice none 0 0),(.int .i64 0),(.slice none 0 0)]):=aJ.of (by kernel_rfl)
theorem ep.u:y0.underlying ep=some (.slice fi):=by kernel_rfl
theorem ep.i:aJ y0 ep 1 24 (.slice none 0 0):=aJ.of (by kernel_rfl)
theorem cK.p:bL y0 cK [(0,1),(1,1),(2,1),(3,1)]:=bL.of (by kernel_rfl)
theorem fi.p:bL y0 fi [(0,1),(1,1)]:=bL.of (by kernel_rfl)
theorem fi.i:aJ y0 fi 2 32 (.agg #[(.slice none 0 0),(.pointer none)]):=aJ.of (by kernel_rfl)
theorem dn.u:y0.underlying dn=some (.slice du):=by kernel_rfl
theorem dn.i:aJ y0 dn 1 24 (.slice none 0 0):=aJ.of (by kernel_rfl)
theorem gw.u:y0.underlying gw=some (.slice iG):=by kernel_rfl
theorem gw.i:aJ y0 gw 1 24 (.slice none 0 0):=aJ.of (by kernel_rfl)
theorem kr.u:y0.underlying kr=some (.slice dY):=by kernel_rfl
theorem cX.p:bL y0 cX [(0,1),(1,1),(2,1),(3,1)]:=bL.of (by kernel_rfl)
theorem dY.p:bL y0 dY [(0,1),(1,1),(2,1)]:=bL.of (by kernel_rfl)
theorem dY.i:aJ y0 dY 3 24 (.agg #[(.int .i64 0),(.int .i64 0),(.int .u64 0)]):=aJ.of (by kernel_rfl)
theorem du.p:bL y0 du [(0,1),(1,1)]:=bL.of (by kernel_rfl)
theorem du.i:aJ y0 du 2 16 (.agg #[(.int .i64 0),(.int .u64 0)]):=aJ.of (by kernel_rfl)
theorem iG.i:aJ y0 iG 3 24 (.agg #[(.int .i64 0),(.int .i64 0),(.int .u64 0)]):=aJ.of (by kernel_rfl)
theorem bq.p:bL y0 bq [(0,1),(1,1),(2,1)]:=bL.of (by kernel_rfl)
theorem hn.u:y0.underlying hn=some (.int .u64):=by kernel_rfl
theorem dv.p:bL y0 dv [(0,1),(1,1),(2,1)]:=bL.of (by kernel_rfl)
theorem fX.p:bL y0 fX [(0,1),(1,1)]:=bL.of (by kernel_rfl)
theorem fX.i:aJ y0 fX 2 48 (.agg #[(.slice none 0 0),(.slice none 0 0)]):=aJ.of (by kernel_rfl)
theorem cB.p:bL y0 cB [(0,1),(1,1)]:=bL.of (by kernel_rfl)
theorem cB.i:aJ y0 cB 2 32 (.agg #[(.slice none 0 0),(.int .i64 0)]):=aJ.of (by kernel_rfl)
theorem bA.p:bL y0 bA [(0,1),(1,1)]:=bL.of (by kernel_rfl)
theorem bA.i:aJ y0 bA 2 32 (.agg #[(.slice none 0 0),(.int .i64 0)]):=aJ.of (by kernel_rfl)
theorem cY.u:y0.underlying cY=some (.slice bE):=by kernel_rfl
theorem bE.p:bL y0 bE [(0,1),(1,1)]:=bL.of (by kernel_rfl)
theorem bE.i:aJ y0 bE 2 32 (.agg #[(.slice none 0 0),(.pointer none)]):=aJ.of (by kernel_rfl)
theorem dD.u:y0.underlying dD=some (.map bl af):=by kernel_rfl
theorem cL.p:bL y0 cL [(0,1),(1,1),(2,1),(3,1)]:=bL.of (by kernel_rfl)
theorem ho.u:y0.underlying ho=some (.slice dp):=by kernel_rfl
theorem dp.p:bL y0 dp [(0,1),(1,1)]:=bL.of (by kernel_rfl)
theorem dp.i:aJ y0 dp 2 32 (.agg #[(.slice none 0 0),(.int .i64 0)]):=aJ.of (by kernel_rfl)
theorem cZ.u:y0.underlying cZ=some (.int .u32):=by kernel_rfl
theorem eA.u:y0.underlying eA=some (.map a1 J):=by kernel_rfl
theorem dA.u:y0.underlying dA=some (.int .i8):=by kernel_rfl
theorem dA.i:aJ y0 dA 1 1 (.int .i8 0):=aJ.of (by kernel_rfl)
theorem bl.u:y0.underlying bl=some (.array 6 dA):=by kernel_rfl
theorem bl.i:aJ y0 bl 6 6 (.agg #[(.int .i8 0),(.int .i8 0),(.int .i8 0),(.int .i8 0),(.int .i8 0),(.int .i8 0)]):=aJ.of (by kernel_rfl)
theorem fj.u:y0.underlying fj=some (.slice dA):=by kernel_rfl
theorem er.u:y0.underlying er=some (.slice bl):=by kernel_rfl
theorem er.i:aJ y0 er 1 24 (.slice none 0 0):=aJ.of (by kernel_rfl)
theorem fY.u:y0.underlying fY=some (.map af J):=by kernel_rfl
theorem gU.u:y0.underlying gU=some (.array 24 bi):=by kernel_rfl
theorem gU.i:aJ y0 gU 24 24 (.agg #[(.int .u8 0),(.int .u8 0),(.int .u8 0),(.int .u8 0),(.int .u8 0),(.int .u8 0),(.int .u8 0),(.int .u8 0),(.int .u8 0),(.int .u8 0),(.int .u8 0),(.int .u8 0),(.int .u8 0),(.int .u8 0),(.int .u8 0),(.int .u8 0),(.int .u8 0),(.int .u8 0),(.int .u8 0),(.int .u8 0),(.int .u8 0),(.int .u8 0),(.int .u8 0),(.int .u8 0)]):=aJ.of (by kernel_rfl)
theorem pm.u:y0.underlying pm=some (.array 20 bG):=by kernel_rfl
end Go.Proofs.YtgbkinibgjmodaaGreatDoor
namespace Go.Vc
open Go Go.RowKit
def bQ:x4→Int
 | .int _ i=>i
 |_=>0
theorem wrap_i64 {x:Int} (h1: -9223372036854775808≤x) (E:x<9223372036854775808):X3.wrap x=x:=by
 simp only[o8.wrap,o8.bits,o8.signed];simp;omega
theorem wrap_u8 {x:Int} (h1:0≤x) (E:x<256):o8.u8.wrap x=x:=by
 simp only[o8.wrap,o8.bits,o8.signed];simp;omega
theorem AM {x:Int} (h1: -128≤x) (E:x<128):o8.i8.wrap x=x:=by
 simp only[o8.wrap,o8.bits,o8.signed];simp;omega
theorem wrap_u64 {x:Int} (h1:0≤x) (E:x<18446744073709551616):V2.wrap x=x:=by
 simp only[o8.wrap,o8.bits,o8.signed];simp;omega
abbrev ints (k:o8) (l:List Int):List x4:=l.map (X7 k)
theorem ps (k:o8) (l:List Int):∀ u∈ints k l,u.oneCell'=true:=by
 intro u hu;obtain⟨x,_,rfl⟩:=l9.1 hu;rfl
theorem jD {k:o8} {l:List Int} {i:Nat} {x:Int} (h:l[i]? =some x):(ints k l)[i]? =some (.int k x):=by simp[ints,h]
theorem sQ {α:Type} {a b:List α} {i:Nat} {x y:α} (h:a.take i=b.take i) (E:a[i]? =some x) (I:b[i]? =some y) (J:x=y):a.take (i+1)=b.take (i+1):=by
 rw[o4,o4,h,E,I,J]
theorem dG {E:x5→Prop} {B:(x5→Prop)→Prop} (G:x5→Prop) (h1:∀ w,G w→E w) (J:∀ I:x5→Prop,(∀ w,G w→I w)→B I):aB E B:=J E h1
theorem aV {E:x4→x5→Prop} {B:(x4→x5→Prop)→Prop} (G:x4→x5→Prop) (h1:∀ v w,G v w→E v w)
  (J:∀ I:x4→x5→Prop,(∀ v w,G v w→I v w)→B I):aB E B:=J E h1
theorem iH {E:x4→x4→x5→Prop} {B:(x4→x4→x5→Prop)→Prop} (G:x4→x4→x5→Prop) (h1:∀ u v w,G u v w→E u v w)
  (J:∀ I:x4→x4→x5→Prop,(∀ u v w,G u v w→I u v w)→B I):aB E B:=J E h1
theorem O.calls {P:X5} {f:FuncId} {args:List x4} {w:x5} {K:x4→x5→Prop} (h:O P f args w K) (E:Enters P f):Calls P f args.toArray w fun e w'=>∃ v,e= .returned v∧cO w w'∧K v w':=by
 cases h with
 |code _ h=>exact h
 |ext v w' h1=>rw[E] at h1;cases h1
theorem AN {w w':x5} (J:Ext w w') (E:cO w w'):Below w.heap.size w w':=
 ⟨E.os,E.tape.1,E.output,J.size,fun k U=>by
  have I:w.heap[k]? =some w.heap[k]:=Array.getElem?_eq_getElem U;rw[I];cases O:fx w.heap[k] with
  |true=>exact J.bz k _ I O
  |false=>exact E.bz k _ I O⟩
theorem vt {w:x5} {x:Addr} {v:x4} (h:w.cell? x=some v):x=⟨x.block,x.off,none⟩:=by
 obtain⟨b,o,s⟩:=x;cases s with
 |none=>rfl
 |some s=>
  unfold x5.cell? at h;split at h <;> simp at h
theorem AO {k:o8} {w:x5} {a:Option Addr} {len cap:Nat} {E:List Int}
  (h:(a=none∧len=0∧cap=0∧E=[])∨
   ∃ x,a=some x∧len≤cap∧cap≤maxLen∧E.length=cap∧(∀ i,i<E.length→w.cell? (x.add i)=some (.int k (E.getD i 0)))∧ ∀ n∈E,(Lit.int k n).wf=true):
  b7 w 1 (.slice a len cap) len (ints k (E.take len))∧ ∀ n∈E.take len,k.min≤n∧n≤k.max:=by
 rcases h with⟨rfl,rfl,rfl,rfl⟩|⟨x,rfl,h1,U,V,I,W⟩
 ·exact⟨b7.nil _ _,by simp⟩
 ·refine⟨⟨by simp[V,h1],x.block,x.off,some x,cap,rfl,h1,U,fun aa=>?_,fun j v J=>?_⟩,fun n X=>?_⟩
  ·have:=I 0 (by omega);exact congrArg some (vt this)
  ·have Y:=(u4.1 J).1;rw[o3,l7] at Y;have Z:x=⟨x.block,x.off,none⟩:=vt (v:=.int k (E.getD 0 0)) (I 0 (by omega));have O:=I j (by omega);rw[Z,U5] at O;rw[O,←J,ints,r9,Z8 (by omega),p8,x3 (by omega)];rfl
  ·have:=W n (List.mem_of_mem_take X);simpa[Lit.wf] using this
def aG (k:o8) (w:x5) (v:x4) (l:List Int):Prop:=b7 w 1 v l.length (ints k l)
def aq (k:o8) (e:o6) (w:x5) (g:Nat) (v:x4) (l:List Int):Prop:=bR w g e 1 v l.length (ints k l)
theorem aG.ext {k:o8} {w w':x5} {v:x4} {l:List Int} (h:aG k w v l) (E:Ext w w'):aG k w' v l:=b7.ext h E
theorem aq.ext {k:o8} {e:o6} {w w':x5} {g:Nat} {v:x4} {l:List Int} (h:aq k e w g v l) (E:Ext w w'):aq k e w' g v l:=bR.ext h E
theorem aq.ad {k:o8} {e:o6} {S:Nat→Prop} {w w':x5} {g:Nat} {v:x4} {l:List Int} (h:aq k e w g v l) (E:am S w w') (I:g<w.heap.size→¬S g):aq k e w' g v l:=bR.ad h E I
theorem aq.ls {k:o8} {e:o6} {w:x5} {g:Nat} {v:x4} {l:List Int} (h:aq k e w g v l):aG k w v l:=bR.sl h
theorem aG.of {k:o8} {w:x5} {v:x4} {n:Nat} {l:List Int} (h:b7 w 1 v n (ints k l)):aG k w v l:=by
 have:l.length=n:=by simpa using h.1
 unfold aG;rw[this];exact h
theorem aq.of {k:o8} {e:o6} {w:x5} {g:Nat} {v:x4} {n:Nat} {l:List Int} (h:bR w g e 1 v n (ints k l)):aq k e w g v l:=by
 have:l.length=n:=by simpa using h.1
 unfold aq;rw[this];exact h
theorem aG.le {k:o8} {w:x5} {v:x4} {l:List Int} (h:aG k w v l):l.length≤9223372036854775807:=by
 have:=b7.le h;simpa[maxLen] using this
theorem aG.cells {k:o8} {w:x5} {v:x4} {l:List Int} (h:aG k w v l):v.cells= #[v]∧v.oneCell'=true:=by
 obtain⟨_,_,_,_,_,rfl,_⟩:=h;exact⟨rfl,rfl⟩
theorem aq.nil (k:o8) (e:o6) (w:x5) (g:Nat):aq k e w g (.slice none 0 0) []:=bR.nil w g e 1
section
variable {P:X5} {w:x5}
theorem aQ {t e E:o6} {k:o8} {v:x4} {l:List Int} {K:x4→Prop} (J:P.underlying t=some (.slice e)) (h:aG k w v l):
  I P (u6 #[t] E #[v]) w K=K (.int .i64 l.length):=by
 obtain⟨_,_,_,_,_,rfl,_⟩:=h;exact ga J
theorem bw {t e:o6} {k J:o8} {b:Nat} {z v:x4} {l:List Int} {i:Nat} {x:Int} {K:x4→Prop} (O:P.underlying t=some (.slice e)) (hi:aJ P e 1 b z) (h1:ku P e=true)
  (h:aG k w v l) (E:l[i]? =some x):I P (x7 t v (.int J (i:Int))) w (fun p=>I P (x1 e p) w K)=K (.int k x):=by
 have U:=(u4.1 E).1;obtain⟨_,_,_,_,_,rfl,_,_,V,W⟩:=h;rw[gx O hi U V,T0,al h1 (W i _ (jD E))]
theorem eV {t e:o6} {k E:o8} {b:Nat} {z v:x4} {l:List Int} {i:Nat} {y x:Int} {K:x4→Prop} (J:y=(i:Int)) (O:P.underlying t=some (.slice e)) (hi:aJ P e 1 b z) (h1:ku P e=true)
  (h:aG k w v l) (U:l[i]? =some x):I P (x7 t v (.int E y)) w (fun p=>I P (x1 e p) w K)=K (.int k x):=by
 subst J;exact bw O hi h1 h U
theorem gW {t e O:o6} {k:o8} {b g:Nat} {z v x:x4} {l m:List Int} {K:x4→x5→Prop} (J:P.underlying t=some (.slice e)) (hi:aJ P e 1 b z) (U:z.cells.size=1)
  (h:aq k e w g v l) (V:aG k w x m) (W:(l.length+m.length)*b≤140737488355328) (X:l.length+m.length≤9223372036854775807)
  (Y:∀ I E w',(E=g∨w.heap.size≤E)→aq k e w' E I (l++m)→am (fun r=>r=g) w w'→K I w'):aa P (r8 #[t,t] O #[v,x]) w K:=
 lu J J hi U h V (ps _ _) W (by simpa[maxLen] using X) fun I E w' h1 Z ab=>Y I E w' h1 (aq.of (by rw[ints,j0];exact Z)) ab
theorem dT {t e:o6} {k:o8} {b:Nat} {z:x4} {x:Int} {K:x4→x5→Prop} (I:P.underlying t=some (.slice e)) (hi:aJ P e 1 b z) (W:z.cells.size=1)
  (h:∀ v g w',g=w.heap.size→Ext w w'→aq k e w' g v [x]→K v w'):aa P (u9 t 1 #[(0,.int k x)]) w K:=
 hZ I hi (by omega) (cs:=#[.int k x]) (by
   have J:∀ (a:Array x4),a.size=1→a.setIfInBounds 0 (.int k x)= #[.int k x]:=fun a E=>by
    apply Array.ext
    ·simp[E]
    ·intro i h1 X;have:i=0:=by simp[E] at h1;exact h1
     subst this;simp
   simp only[Instr.fill,x4.cells,List.zipIdx];simp;exact J _ (by simp)) fun g w' O U V=>h _ g w' O U (aq.of (n:=1) (bR.full V rfl (by simp[maxLen])))
theorem O.free {f:FuncId} {args:List x4} {K:x4→x5→Prop} (h:O P f args w K):ey P f args w fun v w'=>cO w w'∧K v w':=by
 cases h with
 |code h1 E=>exact .code h1 (E.mono fun _ w' ⟨v,h1,I,E⟩=>⟨v,h1,I,E⟩)
 |ext v w' h1 E J=>exact .ext v w' h1 ⟨E,J⟩
theorem az {a:Addr} {K:x4→Prop}:I P (aj (.pointer (some a))) w K=K (.pointer (some a)):=I.of fun _ _=>by
 simp[aj,qt,execOp]
theorem vu {t e:o6} {E I:o8} {n:Nat} {k J:Nat} {z:x4} {K:x4→x5→Prop} (U:P.underlying t=some (.slice e)) (hi:aJ P e k J z) (Z:n*J≤281474976710656) (ab:n≤9223372036854775807)
  (h:∀ g w',g=w.heap.size→Ext w w'→ak w' g e (db z.cells (n*k))→K (.slice (some ⟨g,0,none⟩) n n) w'):aa P (U7 t (.int E (n:Int)) (.int I (n:Int))) w K:=by
 obtain⟨i,hi,rfl,rfl,V⟩:=hi;have W:(i.bytes:Int)*(n:Int)≤281474976710656:=by
  rw[Int.mul_comm];have h:((n*i.bytes:Nat):Int)≤281474976710656:=by omega
  rwa [Int.natCast_mul] at h
 have O:=run_make (P:=P) w t e i z U hi V E I n n (by omega) (Int.le_refl _) W (by omega);have hm:madeCells z.cells ((n:Int).toNat*i.size)=(db z.cells (n*i.size)).toArray:=by rw[db,Array.toArray_toList];rfl
 rw[hm] at O;obtain⟨h1,X,Y⟩:=q2 w (db z.cells (n*i.size)) e;exact .of O Y (h _ _ rfl X h1)
theorem AP (v:x4) (n:Nat):db #[v] n=p9 n v:=by
 apply List.ext_getElem
 ·simp[db]
 ·intro i h1 E;simp[db,Nat.mod_one]
theorem h0 {t e:o6} {I J k:o8} {n:Nat} {E:Nat} {K:x4→x5→Prop} (O:P.underlying t=some (.slice e)) (hi:aJ P e 1 E (.int k 0)) (U:n*E≤281474976710656) (V:n≤9223372036854775807)
  (h:∀ g w',g=w.heap.size→Ext w w'→ak w' g e (ints k (p9 n 0))→K (.slice (some ⟨g,0,none⟩) n n) w'):aa P (U7 t (.int I (n:Int)) (.int J (n:Int))) w K:=
 vu O hi U V fun g w' W X Y=>h g w' W X (by
  have e:db (X7 k 0).cells (n*1)=ints k (p9 n 0):=by rw[T0];show db #[_] n=_;rw[AP];simp[ints]
  rw[←e];exact Y)
theorem eB {t:o6} {E:List (Nat×Nat)} {b o k J:Nat} {z:x4} {cs:List x4} {K:x4→Prop} (hu:bL P t E) (hi:aJ P t k J z) (O:cs.length=k)
  (h:w.rangeAt b o cs):I P (do loadVar t (←asAddr (.pointer (some ⟨b,o,none⟩)))) w K=K (.agg cs.toArray):=I.of fun w' U=>by
 obtain⟨V,hu,_⟩:=hu;have:=run_loadVar_mid (P:=P) w' b o t cs (.struct V) (pn U h) hu rfl (by rw[hi.size,O]);simp only[asAddr,Y4,X0,Result.andThen_ok,this]
theorem AQ {cs vs:List x4} (h:vs.length=cs.length):over cs 0 vs=vs:=by
 rw[kv (by omega)];simp[h]
theorem b9 {t e:o6} {k I g:Nat} {z:x4} {cs vs:List x4} {K:Unit→x5→Prop} (hi:aJ P t k I z) (J:vs.length=k) (W:cs.length=k) (O:∀ v∈vs,v.oneCell'=true) (U:ak w g e cs)
  (h:∀ w',am (fun r=>r=g) w w'→w'.heap.size=w.heap.size→ak w' g e vs→K () w'):aa P (x6 t (.pointer (some ⟨g,0,none⟩)) (.agg vs.toArray)) w K:=
 vp hi J O U (by omega) fun w' h1 V E=>h w' h1 V (by rw[AQ (by omega)] at E;exact E)
end
abbrev av:=Nat→Prop
def h2 (S:av) (w:x5) (k:Nat) (v:x4) (n:Nat) (cs:List x4):Prop:=
 cs.length=n*k∧ ∃ b o base cap,v= .slice base n cap∧n≤cap∧cap≤maxLen∧(0<n→base=some ⟨b,o,none⟩)∧(0<cs.length→S b)∧w.rangeAt b o cs
theorem h2.sl {S:av} {w:x5} {k:Nat} {v:x4} {n:Nat} {cs:List x4} (h:h2 S w k v n cs):b7 w k v n cs:=by
 obtain⟨h1,b,o,base,cap,E,I,J,O,_,U⟩:=h;exact⟨h1,b,o,base,cap,E,I,J,O,U⟩
theorem vv {w:x5} {b o:Nat} {cs:List x4} (h:w.rangeAt b o cs) (E:0<cs.length):b<w.heap.size:=by
 have:=h 0 cs[0] (x3 E);obtain⟨c,e,f,I,_⟩:=sO this;exact (l6.1 I).1
theorem h2.ad {S T:av} {w w':x5} {k:Nat} {v:x4} {n:Nat} {cs:List x4} (h:h2 S w k v n cs) (O:am T w w') (U:∀ r,r<w.heap.size→S r→¬T r):h2 S w' k v n cs:=by
 obtain⟨h1,b,o,base,cap,V,W,X,Y,I,J⟩:=h;refine⟨h1,b,o,base,cap,V,W,X,Y,I,?_⟩;rcases Nat.eq_zero_or_pos cs.length with E|E
 ·intro j v Z;have:=(u4.1 Z).1;omega
 ·exact qU O (U b (vv J E) (I E)) J
theorem h2.mono {S T:av} {w:x5} {k:Nat} {v:x4} {n:Nat} {cs:List x4} (h:h2 S w k v n cs) (J:∀ r,r<w.heap.size→S r→T r):h2 T w k v n cs:=by
 obtain⟨h1,b,o,base,cap,O,U,V,W,X,E⟩:=h;exact⟨h1,b,o,base,cap,O,U,V,W,fun I=>J b (vv E I) (X I),E⟩
class aA (α:Type) where
 n:Nat
 rep:Bool→av→av→x5→List x4→α→Prop
 len:∀ {m S R w cs a},rep m S R w cs a→cs.length=n
 one:∀ {m S R w cs a},rep m S R w cs a→ ∀ u∈cs,u.oneCell'=true
 ad:∀ {m S R T w w' cs a},rep m S R w cs a→am T w w'→(∀ r,r<w.heap.size→S r∨R r→¬T r)→rep m S R w' cs a
 mono:∀ {m S S' R R' w cs a},rep m S R w cs a→(∀ r,r<w.heap.size→S r→S' r)→(∀ r,r<w.heap.size→R r→R' r)→rep m S' R' w cs a
 fU:∀ {m S R w cs a},rep m S R w cs a→rep false (fun _=>False) (fun r=>S r∨R r) w cs a
section
variable {α β:Type} [aA α] [aA β] {m:Bool} {S R T:av} {w w':x5}
abbrev dx (S R:av) (w:x5) (cs:List x4) (a:α):Prop:=aA.rep true S R w cs a
abbrev Seen (R:av) (w:x5) (cs:List x4) (a:α):Prop:=aA.rep false (fun _=>False) R w cs a
abbrev vw:av:=fun _=>True
theorem dc {cs:List x4} {a:α} (h:aA.rep m S R w cs a) (E:Ext w w'):aA.rep m S R w' cs a:=aA.ad h (E.ad fun _=>False) fun _ _ _ h=>h
theorem kw {cs:List x4} {a:α} (h:aA.rep m S R w cs a):aA.rep m (fun r=>S r∧r<w.heap.size) R w cs a:=aA.mono h (fun _ h1 E=>⟨E,h1⟩) fun _ _ h=>h
theorem AR {cs:List x4} {a:α} (h:aA.rep m S R w cs a):Seen vw w cs a:=aA.mono (aA.fU h) (fun _ _ h=>h.elim) fun _ _ _=>trivial
theorem q3 {cs:List x4} {a:α} {Q:av} (h:aA.rep m S R w cs a) (E:∀ r,r<w.heap.size→S r∨R r→Q r):Seen Q w cs a:=aA.mono (aA.fU h) (fun _ _ h=>h.elim) E
instance:aA Int where
 n:=1
 rep _ _ _ _ cs a:=cs=[.int .i64 a]
 len h:=by subst h;rfl
 one h:=by subst h;intro u hu;simp at hu;subst hu;rfl
 ad h _ _:=h
 mono h _ _:=h
 fU h:=h
instance:aA Bool where
 n:=1
 rep _ _ _ _ cs a:=cs=[.bool a]
 len h:=by subst h;rfl
 one h:=by subst h;intro u hu;simp at hu;subst hu;rfl
 ad h _ _:=h
 mono h _ _:=h
 fU h:=h
instance:aA ByteArray where
 n:=1
 rep _ _ _ _ cs a:=cs=[.string a]
 len h:=by subst h;rfl
 one h:=by subst h;intro u hu;simp at hu;subst hu;rfl
 ad h _ _:=h
 mono h _ _:=h
 fU h:=h
def Rd (α:Type):Type:=α
instance Hv:aA (Rd α) where
 n:=aA.n α
 rep _ _ R w cs a:=aA.rep (α:=α) false (fun _=>False) R w cs a
 len h:=aA.len (α:=α) h
 one h:=aA.one (α:=α) h
 ad h E I:=aA.ad (α:=α) h E fun r J h=>I r J (.inr (h.elim False.elim id))
 mono h _ O:=aA.mono (α:=α) h (fun _ _ h=>h) O
 fU h:=aA.mono (α:=α) h (fun _ _ h=>h) fun _ _ h=>.inr h
instance Hw:aA (α×β) where
 n:=aA.n α+aA.n β
 rep m S R w cs a:=∃ c d A B,cs=c++d∧(∀ r,A r→S r)∧(∀ r,B r→S r)∧(m=true→ ∀ r,A r→¬B r)∧aA.rep m A R w c a.1∧aA.rep m B R w d a.2
 len:=by
  rintro m S R w cs a ⟨c,d,A,B,rfl,_,_,_,h1,E⟩;simp[aA.len h1,aA.len E]
 one:=by
  rintro m S R w cs a ⟨c,d,A,B,rfl,_,_,_,h1,E⟩ u hu;rcases n9.1 hu with hu|hu
  ·exact aA.one h1 u hu
  ·exact aA.one E u hu
 ad:=by
  rintro m S R T w w' cs a ⟨c,d,A,B,rfl,J,O,V,h1,E⟩ W U;exact⟨c,d,A,B,rfl,J,O,V,aA.ad h1 W fun r I h=>U r I (h.imp (J r) id),aA.ad E W fun r I h=>U r I (h.imp (O r) id)⟩
 mono:=by
  rintro m S S' R R' w cs a ⟨c,d,A,B,rfl,J,O,V,h1,E⟩ U X;exact⟨c,d,fun r=>A r∧r<w.heap.size,fun r=>B r∧r<w.heap.size,rfl,fun r h=>U r h.2 (J r h.1),fun r h=>U r h.2 (O r h.1),fun hm r h k=>V hm r h.1 k.1,
   aA.mono h1 (fun r I h=>⟨h,I⟩) X,aA.mono E (fun r I h=>⟨h,I⟩) X⟩
 fU:=by
  rintro m S R w cs a ⟨c,d,A,B,rfl,J,O,V,h1,E⟩;exact⟨c,d,fun _=>False,fun _=>False,rfl,fun _ h=>h.elim,fun _ h=>h.elim,(fun h=>by cases h),aA.mono (aA.fU h1) (fun _ _ h=>h) fun r _ h=>h.imp (J r) id,
   aA.mono (aA.fU E) (fun _ _ h=>h) fun r _ h=>h.imp (O r) id⟩
def kx (m:Bool) (R:av) (F:Nat→av) (w:x5) (vs:List (List x4)) (l:List α):Prop:=
 vs.length=l.length∧ ∀ (i:Nat) (c:List x4) (a:α),vs[i]? =some c→l[i]? =some a→aA.rep m (F i) R w c a
structure vx (m:Bool) (S:av) (g:Nat) (F:Nat→av):Prop where
 sub:∀ i r,F i r→S r
 top:m=true→ ∀ i,¬F i g
 vy:m=true→ ∀ i j r,i≠j→F i r→¬F j r
theorem kx.len {F:Nat→av} {vs:List (List x4)} {l:List α} (h:kx m R F w vs l):∀ c∈vs,c.length=aA.n α:=by
 intro c E;obtain⟨i,hi,rfl⟩:=List.mem_iff_getElem.1 E;exact aA.len (h.2 i _ _ (x3 hi) (x3 (h.1▸hi)))
theorem kx.one {F:Nat→av} {vs:List (List x4)} {l:List α} (h:kx m R F w vs l):∀ u∈vs.flatten,u.oneCell'=true:=by
 intro u hu;obtain⟨c,E,hu⟩:=List.mem_flatten.1 hu;obtain⟨i,hi,rfl⟩:=List.mem_iff_getElem.1 E;exact aA.one (h.2 i _ _ (x3 hi) (x3 (h.1▸hi))) u hu
theorem lv {k:Nat}:∀ {vs:List (List x4)},(∀ c∈vs,c.length=k)→ ∀ {i j:Nat} {c:List x4},vs[i]? =some c→j<k→vs.flatten[i*k+j]? =c[j]?
 |I::r,h,0,j,c,E,J=>by
  simp only[List.getElem?_cons_zero,Z9] at E;subst E;rw[List.flatten_cons,Y0 (by rw[h _ (.head _)];omega)];simp
 |I::r,h,i+1,j,c,E,J=>by
  simp only[List.getElem?_cons_succ] at E;have O:=h I (.head _);rw[List.flatten_cons,Y3 (by rw[O,V1];omega),O,V1,show i*k+1*k+j-k=i*k+j by omega];exact lv (fun x U=>h x (.tail _ U)) E J
 |[],_,i,_,c,E,_=>by simp at E
instance instList:aA (List α) where
 n:=1
 rep m S R w cs l:=∃ v,cs=[v]∧ ∃ (vs:List (List x4)) (g:Nat) (F:Nat→av),vx m S g F∧kx m R F w vs l∧h2 (fun r=>S r∨R r) w (aA.n α) v l.length vs.flatten∧
  (m=true→(v= .slice none 0 0∨S g)∧ ∃ e,bR w g e (aA.n α) v l.length vs.flatten)
 len:=by rintro m S R w cs a ⟨v,rfl,_⟩;rfl
 one:=by
  rintro m S R w cs a ⟨v,rfl,vs,g,F,_,_,⟨_,_,_,_,_,rfl,_⟩,_⟩ u hu;simp at hu;subst hu;rfl
 ad:=by
  rintro m S R T w w' cs a ⟨v,rfl,vs,g,F,I,he,V,hm⟩ Y O;refine⟨v,rfl,vs,g,F,I,⟨he.1,fun i c a W X=>aA.ad (he.2 i c a W X) Y fun r J h=>O r J (h.imp (I.sub i r) id)⟩,V.ad Y O,fun h=>?_⟩;obtain⟨h1,e,E⟩:=hm h;refine⟨h1,e,?_⟩;rcases h1 with rfl|h1
  ·obtain⟨aa,⟨_,U⟩|⟨_,_,U,_⟩⟩:=E
   ·exact⟨aa,.inl ⟨rfl,U⟩⟩
   ·cases U
  ·exact E.ad Y fun J=>O g J (.inl h1)
 mono:=by
  rintro m S S' R R' w cs a ⟨v,rfl,vs,g,F,I,he,V,hm⟩ O Z;refine⟨v,rfl,vs,g,fun i r=>F i r∧r<w.heap.size,⟨fun i r h=>O r h.2 (I.sub i r h.1),fun h i E=>I.top h i E.1,fun h i j r ab h1 E=>I.vy h i j r ab h1.1 E.1⟩,
   ⟨he.1,fun i c a W X=>aA.mono (he.2 i c a W X) (fun r J h=>⟨h,J⟩) Z⟩,V.mono fun r J h=>h.imp (O r J) (Z r J),fun h=>?_⟩
  obtain⟨h1,e,E⟩:=hm h;refine⟨?_,e,E⟩;obtain⟨_,⟨U,_⟩|⟨_,_,U,ac,_⟩⟩:=E
  ·exact .inl U
  ·rcases h1 with h1|h1
   ·exact .inl h1
   ·exact .inr (O g ac.lt h1)
 fU:=by
  rintro m S R w cs a ⟨v,rfl,vs,g,F,I,he,V,hm⟩;exact⟨v,rfl,vs,g,fun _ _=>False,⟨fun _ _ h=>h,(fun h=>by cases h),fun h=>by cases h⟩,
   ⟨he.1,fun i c a W X=>aA.mono (aA.fU (he.2 i c a W X)) (fun _ _ h=>h) fun r _ h=>h.imp (I.sub i r) id⟩,V.mono fun r _ h=>.inr h,fun h=>by cases h⟩
end
section
variable {P:X5} {w:x5} {α β:Type} [aA α] [aA β] {m:Bool} {S R:av}
theorem ky {v:x4} {l:List α} (h:aA.rep m S R w [v] l):∃ (vs:List (List x4)) (g:Nat) (F:Nat→av),vx m S g F∧kx m R F w vs l∧h2 (fun r=>S r∨R r) w (aA.n α) v l.length vs.flatten∧
  (m=true→(v= .slice none 0 0∨S g)∧ ∃ e,bR w g e (aA.n α) v l.length vs.flatten):=by
 obtain⟨_,E,h⟩:=h;cases E;exact h
theorem sR {v:x4} {a:α} (h:aA.rep m S R w [v] a):v.oneCell'=true:=aA.one h v (.head _)
theorem q4 {v:x4} {l:List α} (h:aA.rep m S R w [v] l):v.cells= #[v]:=by
 obtain⟨_,_,_,_,_,⟨_,_,_,_,_,rfl,_⟩,_⟩:=ky h;rfl
theorem sS {v:x4} {l:List α} (h:aA.rep m S R w [v] l):l.length≤9223372036854775807:=by
 obtain⟨_,_,_,_,_,h,_⟩:=ky h;have:=h.sl.le;simpa[maxLen] using this
theorem iI:aA.rep m S R w [.slice none 0 0] ([]:List α):=
 ⟨_,rfl,[],0,fun _ _=>False,⟨fun _ _ h=>h.elim,fun _ _ h=>h,fun _ _ _ _ _ h=>h.elim⟩,⟨rfl,fun i c a E=>by simp at E⟩,
  ⟨by simp,0,0,none,0,rfl,o7 _,Y1 _,fun h=>absurd h (Nat.lt_irrefl _),fun h=>by simp at h,fun j v h=>by simp at h⟩,
  fun _=>⟨.inl rfl,0,bR.nil w 0 0 _⟩⟩
theorem AS {F:Nat→av} {vs:List (List x4)} {l:List Int} (h:kx m R F w vs l):vs.flatten=ints .i64 l:=by
 have:vs=l.map fun x=>[X7 .i64 x]:=by
  apply List.ext_getElem
  ·simp[h.1]
  ·intro i h1 E;have I:i<l.length:=by simpa using E
   have:=h.2 i _ _ (x3 h1) (x3 I);rw[List.getElem_map];exact this
 subst this;clear h;induction l with
 |nil=>rfl
 |cons x l J=>simp only[List.map_cons,List.flatten_cons,J];rfl
theorem kz {v:x4} {l:List Int} (h:aA.rep m S R w [v] l):aG .i64 w v l:=by
 obtain⟨vs,g,F,_,he,E,_⟩:=ky h;have:=E.sl;rw[AS he] at this;exact this
theorem iJ {t e E:o6} {v:x4} {l:List α} {K:x4→Prop} (J:P.underlying t=some (.slice e)) (h:aA.rep m S R w [v] l):
  I P (u6 #[t] E #[v]) w K=K (.int .i64 l.length):=by
 obtain⟨_,_,_,_,_,⟨_,_,_,_,_,rfl,_⟩,_⟩:=ky h;exact ga J
theorem q5 {t e:o6} {V:o8} {i b:Nat} {y:Int} {z v:x4} {l:List α} {a:α} {K:x4→Prop} (W:y=(i:Int)) (X:P.underlying t=some (.slice e)) (hi:aJ P e (aA.n α) b z)
  (h:aA.rep m S R w [v] l) (E:l[i]? =some a) (Y:∀ b o cs,w.rangeAt b o cs→aA.rep m S R w cs a→K (.pointer (some ⟨b,o,none⟩))):I P (x7 t v (.int V y)) w K:=by
 subst W;obtain⟨vs,g,F,Z,he,⟨_,b,o,base,cap,rfl,_,_,aa,_,ab⟩,_⟩:=ky h;have J:=(u4.1 E).1;rw[gx X hi J aa];obtain⟨c,O⟩:∃ c,vs[i]? =some c:=⟨_,x3 (by rw[he.1];exact J)⟩;have U:=he.2 i c a O E;have ac:=aA.len U;refine Y _ _ c (fun j u hu=>?_) (aA.mono U (fun r _ h=>Z.sub i r h) fun _ _ h=>h);have ad:=(u4.1 hu).1;rw[Nat.add_assoc];refine ab (i*aA.n α+j) u ?_;rw[lv he.len O (by omega)];exact hu
theorem vz {t e:o6} {O:o8} {i b:Nat} {y:Int} {z v:x4} {l:List α} {a:α} {K:x4→Prop} (U:aA.n α=1) (V:y=(i:Int)) (W:P.underlying t=some (.slice e)) (hi:aJ P e (aA.n α) b z)
  (h1:ku P e=true) (h:aA.rep m S R w [v] l) (X:l[i]? =some a) (Y:∀ u,aA.rep m S R w [u] a→K u):
  I P (x7 t v (.int O y)) w fun p=>I P (x1 e p) w K:=by
 refine q5 V W hi h X fun b o cs Z E=>?_;have J:=aA.len E;rw[U] at J;obtain⟨u,rfl⟩:=V6.1 J;rw[al h1 (by have:=Z 0 u rfl;simpa using this)];exact Y u E
theorem mV {t e:o6} {J:List (Nat×Nat)} {O:o8} {i b:Nat} {y:Int} {z v:x4} {l:List α} {a:α} {K:x4→Prop} (hu:bL P e J) (U:y=(i:Int)) (V:P.underlying t=some (.slice e)) (hi:aJ P e (aA.n α) b z)
  (h:aA.rep m S R w [v] l) (W:l[i]? =some a) (X:∀ cs,aA.rep m S R w cs a→K (.agg cs.toArray)):
  I P (x7 t v (.int O y)) w fun p=>I P (x1 e p) w K:=by
 refine q5 U V hi h W fun b o cs Y E=>?_;rw[bN hu hi (aA.len E) Y];exact X cs E
theorem sT {g:Nat} {e:o6} {k:Nat} {v:x4} {n:Nat} {xs:List x4} (h:bR w g e k v n xs) (I:v= .slice none 0 0∨S g):h2 S w k v n xs:=by
 obtain⟨h1,⟨rfl,rfl⟩|⟨cap,cs,rfl,J,O,U,W,V⟩⟩:=h
 ·have:xs=[]:=j5 (by simpa using h1);subst this;exact⟨by simp,0,0,none,0,rfl,o7 _,Y1 _,fun h=>absurd h (Nat.lt_irrefl _),fun h=>by simp at h,fun j v h=>by simp at h⟩
 ·refine⟨h1,g,0,_,cap,rfl,O,U,fun _=>rfl,fun _=>I.resolve_left (by simp),fun j v E=>?_⟩;rw[V5];have X:=(u4.1 E).1;rw[←V,Z8 (by omega)] at E;exact J.cell E
open Classical in
theorem AT {t aj e ao ap:o6} {b:Nat} {z v x:x4} {us:List (List x4)} {l l':List α} {G:Nat→av} {K:x4→x5→Prop} (aq:P.underlying t=some (.slice e)) (au:P.underlying aj=some (.slice ao)) (hi:aJ P e (aA.n α) b z) (aw:z.cells.size=aA.n α)
  (h:dx S R w [v] l) (ax:b7 w (aA.n α) x l'.length us.flatten) (ac:kx true R G w us l') (ay:∀ i j r,i≠j→G i r→¬G j r)
  (Y:∀ r,r<w.heap.size→S r→(∀ i,¬G i r)∧¬R r) (az:(l.length+l'.length)*b≤140737488355328) (aB:l.length+l'.length≤9223372036854775807)
  (aC:∀ I w',dx (fun r=>S r∨(∃ i,G i r)∨w.heap.size≤r) R w' [I] (l++l')→am S w w'→K I w'):aa P (r8 #[t,aj] ap #[v,x]) w K:=by
 obtain⟨vs,g,F,V,he,aH,hm⟩:=ky h;obtain⟨ae,aI,ak⟩:=hm rfl;refine vq aq au hi aw ak ax ac.one az (by simpa[maxLen] using aB) ?_;intro I Z w' aD aE af ag;have ah:∀ r,r=g∧v≠ .slice none 0 0→S r:=fun r ⟨h1,E⟩=>h1▸ae.resolve_left E;have aF:=ak;have ai:(I= .slice none 0 0)∨(Z=g∧S g∧g<w.heap.size)∨Z=w.heap.size:=by
  rcases aE with⟨h1,_,E|E⟩|⟨h1,_⟩
  ·rcases ae with O|O
   ·exact .inl (E▸O)
   ·obtain⟨_,⟨U,_⟩|⟨_,_,_,U,_⟩⟩:=aF
    ·exact .inl (E▸U)
    ·exact .inr (.inl ⟨h1,O,U.lt⟩)
  ·exact .inr (.inl ⟨h1,ae.resolve_left E.2,E.1⟩)
  ·exact .inr (.inr h1)
 refine aC I w' ⟨I,rfl,vs++us,if I= .slice none 0 0 then w.heap.size else Z,fun i r=>if i<l.length then F i r∧r<w.heap.size else G (i-l.length) r∧r<w.heap.size,⟨fun i r h=>?_,fun _ i h=>?_,fun _ i j r aG h1 E=>?_⟩,⟨by simp[he.1,ac.1],fun i c a hi ab=>?_⟩,?_,fun _=>⟨?_,aD,?_⟩⟩ (ag.mono fun r _ h=>ah r h)
 ·split at h
  ·exact .inl (V.sub i r h.1)
  ·exact .inr (.inl ⟨_,h.1⟩)
 ·have W:(if I= .slice none 0 0 then w.heap.size else Z)<w.heap.size:=by split at h <;> exact h.2
  split at W
  ·omega
  ·rename_i J;rw[if_neg J] at h;rcases ai with h1|⟨rfl,E,O⟩|h1
   ·exact J h1
   ·split at h
    ·exact V.top rfl i h.1
    ·exact (Y _ O E).1 _ h.1
   ·omega
 ·split at h1 <;> split at E
  ·exact V.vy rfl i j r aG h1.1 E.1
  ·exact (Y r h1.2 (V.sub i r h1.1)).1 _ E.1
  ·exact (Y r h1.2 (V.sub j r E.1)).1 _ h1.1
  ·exact ay (i-l.length) (j-l.length) r (by omega) h1.1 E.1
 ·have al:∀ r,r<w.heap.size→R r→¬(r=g∧v≠ .slice none 0 0):=fun r X h1 E=>(Y r X (ah r E)).2 h1;by_cases W:i<l.length
  ·rw[Y0 (by rw[he.1];exact W)] at hi;rw[Y0 W] at ab;simp only[if_pos W];refine aA.ad (kw (he.2 i c a hi ab)) ag fun r X h1 E=>?_;rcases h1 with h1|h1
   ·exact V.top rfl i (E.1▸h1.1)
   ·exact al r X h1 E
  ·rw[Y3 (by rw[he.1];omega),he.1] at hi;rw[Y3 (by omega)] at ab;simp only[if_neg W];refine aA.ad (kw (ac.2 _ c a hi ab)) ag fun r X h1 E=>?_;rcases h1 with h1|h1
   ·exact (Y r X (ah r E)).1 _ h1.1
   ·exact al r X h1 E
 ·rw[o5,List.flatten_append];refine sT af ?_;rcases ai with h1|⟨rfl,E,_⟩|rfl
  ·exact .inl h1
  ·exact .inr (.inl (.inl E))
  ·exact .inr (.inl (.inr (.inr (o7 _))))
 ·rcases ai with h1|⟨rfl,E,_⟩|rfl
  ·exact .inl h1
  ·by_cases J:I= .slice none 0 0
   ·exact .inl J
   ·rw[if_neg J];exact .inr (.inl E)
  ·split
   ·exact .inr (.inr (.inr (o7 _)))
   ·exact .inr (.inr (.inr (o7 _)))
 ·rw[o5,List.flatten_append];by_cases J:I= .slice none 0 0
  ·subst J;obtain⟨O,⟨_,U⟩|⟨_,_,U,_⟩⟩:=af
   ·exact⟨O,.inl ⟨rfl,U⟩⟩
   ·cases U
  ·rw[if_neg J];exact af
theorem mW {t e Z:o6} {b:Nat} {z v x:x4} {cs:List x4} {l:List α} {a:α} {A:av} {K:x4→x5→Prop} (V:P.underlying t=some (.slice e)) (hi:aJ P e (aA.n α) b z) (ab:z.cells.size=aA.n α)
  (h:dx S R w [v] l) (ac:b7 w (aA.n α) x 1 cs) (ad:dx A R w cs a) (W:∀ r,r<w.heap.size→S r→¬(A r∨R r)) (E:(l.length+1)*b≤140737488355328) (ae:l.length+1≤9223372036854775807)
  (af:∀ I w',dx (fun r=>S r∨A r∨w.heap.size≤r) R w' [I] (l++[a])→am S w w'→K I w'):aa P (r8 #[t,t] Z #[v,x]) w K:=by
 refine AT (l':=[a]) (us:=[cs]) (G:=fun i r=>i=0∧A r) V V hi ab h (by simpa using ac) ⟨rfl,fun i c b J E=>?_⟩ (fun i j r ag h1 O=>ag (h1.1.trans O.1.symm)) (fun r X Y=>⟨fun i h=>W r X Y (.inl h.2),fun h=>W r X Y (.inr h)⟩) (by simpa using E) (by simpa using ae)
  fun I w' h1 O=>af I w' (aA.mono h1 (fun r _ h=>h.imp id (Or.imp (fun⟨_,h⟩=>h.2) id)) fun _ _ h=>h) O
 have U:=(u4.1 J).1;have U:i=0:=by simpa using U
 subst U;simp at J E;subst J E;exact aA.mono ad (fun r _ h=>⟨rfl,h⟩) fun _ _ h=>h
end
theorem vA:∀ (c:List x4) (i:Nat) (z:Array x4),(i+c.length≤z.size)→((c.zipIdx i).foldl (fun cs (x:x4×Nat)=>cs.setIfInBounds x.2 x.1) z).toList=z.toList.take i++c++z.toList.drop (i+c.length)
 |[],i,z,h=>by simp
 |x::r,i,z,h=>by
  simp only[j9] at h;rw[List.zipIdx_cons,List.foldl_cons,vA r (i+1) _ (by simp;omega)];simp only[Array.toList_setIfInBounds,j9];rw[List.drop_set_of_lt (by omega),List.take_set,o4,x3 (by simp;omega)];simp only[c8];rw[T2 _ _ (by simp;omega)];have e:i-(z.toList.take i).length=0:=by simp;omega
  rw[e,show i+1+r.length=i+(r.length+1) by omega];simp
theorem vB {k:Nat} {z:Array x4} {v:x4} (E:z.size=k) (I:v.cells.size=k):Instr.fill (fun j=>some (j*k,k)) z [(0,v)]=some v.cells:=by
 have h:=vA v.cells.toList 0 z (by simp;omega);simp only[Instr.fill,Nat.zero_mul,V5];rw[if_neg (by simp;omega)];congr 1;apply Array.toList_inj.1;rw[←Array.foldl_toList,Array.toList_zipIdx,h];simp;omega
section
variable {P:X5} {w:x5} {α β:Type} [aA α] [aA β] {m:Bool} {S R:av}
theorem lw {t e:o6} {b:Nat} {z x:x4} {cs:List x4} {a:α} {A:av} {K:x4→x5→Prop} (W:P.underlying t=some (.slice e)) (hi:aJ P e (aA.n α) b z) (ae:aA.n α≤100000)
  (J:x.cells=cs.toArray) (O:dx A R w cs a)
  (X:∀ v w',Ext w w'→dx (fun r=>A r∨w.heap.size≤r) R w' [v] [a]→b7 w' (aA.n α) v 1 cs→K v w'):aa P (u9 t 1 #[(0,x)]) w K:=by
 have Y:=aA.len O;refine hZ W hi (by omega) (cs:=x.cells) (vB (by simp) (by rw[J];simpa using Y)) fun g w' af U E=>?_;have E:ak w' g e cs:=by rw[J] at E;simpa using E
 have hm:bR w' g e (aA.n α) (.slice (some ⟨g,0,none⟩) 1 1) 1 cs:=bR.full E (by omega) (by simp[maxLen]);refine X _ w' U ⟨_,rfl,[cs],g,fun i r=>i=0∧A r∧r<w.heap.size,⟨fun i r h=>.inl h.2.1,fun _ i h=>by omega,fun _ i j r Z h1 ab=>Z (h1.1.trans ab.1.symm)⟩,⟨rfl,fun i c a' I V=>?_⟩,?_,fun _=>⟨.inr (.inr (by omega)),e,by simpa using hm⟩⟩ hm.sl
 ·have ac:i=0:=by simpa using (u4.1 I).1
  subst ac;simp at I V;subst I V;exact dc (aA.mono O (fun r ad h=>⟨rfl,h,ad⟩) fun _ _ h=>h) U
 ·have:=sT (S:=fun r=>(A r∨w.heap.size≤r)∨R r) hm (.inr (.inl (.inr (by omega))));simpa using this
end
theorem bd.range {w:x5} {B:x4→x5→(x4→x5→Prop)→Prop} (n:Nat) (E:Nat→x5→Prop)
  (V:n≤9223372036854775807) (J:E 0 w)
  (O:∀ (i:Nat) (w:x5) (k:x4→x5→Prop),i<n→E i w→(∀ w',E (i+1) w'→k (.int .i64 (X3.wrap ((i:Int)+1))) w')→B (.int .i64 (i:Int)) w k)
  (U:∀ (w:x5) (k:x4→x5→Prop),E n w→B (.int .i64 (n:Int)) w k):bd (.int .i64 0) w B:=by
 refine⟨fun t w=>∃ i:Nat,t= .int .i64 (i:Int)∧i≤n∧E i w,fun t _=>n-(bQ t).toNat,⟨0,rfl,Y1 _,J⟩,?_⟩;rintro _ w ⟨i,rfl,hi,h⟩;by_cases I:i<n
 ·refine O i w _ I h fun w' h'=>⟨⟨i+1,?_,I,h'⟩,?_⟩
  ·rw[wrap_i64 (by omega) (by omega)];rfl
  ·rw[wrap_i64 (by omega) (by omega)];simp only[bQ];omega
 ·have:i=n:=by omega
  subst this;exact U w _ h
theorem ba.range {a:x4} {w:x5} {B:x4→x4→x5→(x4→x4→x5→Prop)→Prop} (n:Nat) (E:Nat→x4→x5→Prop)
  (V:n≤9223372036854775807) (J:E 0 a w)
  (O:∀ (i:Nat) (a:x4) (w:x5) (k:x4→x4→x5→Prop),i<n→E i a w→(∀ a' w',E (i+1) a' w'→k a' (.int .i64 (X3.wrap ((i:Int)+1))) w')→B a (.int .i64 (i:Int)) w k)
  (U:∀ (a:x4) (w:x5) (k:x4→x4→x5→Prop),E n a w→B a (.int .i64 (n:Int)) w k):ba a (.int .i64 0) w B:=by
 refine⟨fun a t w=>∃ i:Nat,t= .int .i64 (i:Int)∧i≤n∧E i a w,fun a t _=>n-(bQ t).toNat,⟨0,rfl,Y1 _,J⟩,?_⟩;rintro a _ w ⟨i,rfl,hi,h⟩;by_cases I:i<n
 ·refine O i a w _ I h fun a' w' h'=>⟨⟨i+1,?_,I,h'⟩,?_⟩
  ·rw[wrap_i64 (by omega) (by omega)];rfl
  ·rw[wrap_i64 (by omega) (by omega)];simp only[bQ];omega
 ·have:i=n:=by omega
  subst this;exact U a w _ h
theorem jj.range {a b:x4} {w:x5} {B:x4→x4→x4→x5→(x4→x4→x4→x5→Prop)→Prop} (n:Nat) (E:Nat→x4→x4→x5→Prop)
  (W:n≤9223372036854775807) (O:E 0 a b w)
  (U:∀ (i:Nat) (a b:x4) (w:x5) (k:x4→x4→x4→x5→Prop),i<n→E i a b w→(∀ a' I w',E (i+1) a' I w'→k a' I (.int .i64 (X3.wrap ((i:Int)+1))) w')→B a b (.int .i64 (i:Int)) w k)
  (V:∀ (a b:x4) (w:x5) (k:x4→x4→x4→x5→Prop),E n a b w→B a b (.int .i64 (n:Int)) w k):jj a b (.int .i64 0) w B:=by
 refine⟨fun a b t w=>∃ i:Nat,t= .int .i64 (i:Int)∧i≤n∧E i a b w,fun a b t _=>n-(bQ t).toNat,⟨0,rfl,Y1 _,O⟩,?_⟩;rintro a b _ w ⟨i,rfl,hi,h⟩;by_cases J:i<n
 ·refine U i a b w _ J h fun a' I w' h'=>⟨⟨i+1,?_,J,h'⟩,?_⟩
  ·rw[wrap_i64 (by omega) (by omega)];rfl
  ·rw[wrap_i64 (by omega) (by omega)];simp only[bQ];omega
 ·have:i=n:=by omega
  subst this;exact V a b w _ h
theorem l4.range {a b c:x4} {w:x5} {B:x4→x4→x4→x4→x5→(x4→x4→x4→x4→x5→Prop)→Prop} (n:Nat) (E:Nat→x4→x4→x4→x5→Prop)
  (X:n≤9223372036854775807) (U:E 0 a b c w)
  (V:∀ (i:Nat) (a b c:x4) (w:x5) (k:x4→x4→x4→x4→x5→Prop),i<n→E i a b c w→(∀ a' I J w',E (i+1) a' I J w'→k a' I J (.int .i64 (X3.wrap ((i:Int)+1))) w')→B a b c (.int .i64 (i:Int)) w k)
  (W:∀ (a b c:x4) (w:x5) (k:x4→x4→x4→x4→x5→Prop),E n a b c w→B a b c (.int .i64 (n:Int)) w k):l4 a b c (.int .i64 0) w B:=by
 refine⟨fun a b c t w=>∃ i:Nat,t= .int .i64 (i:Int)∧i≤n∧E i a b c w,fun a b c t _=>n-(bQ t).toNat,⟨0,rfl,Y1 _,U⟩,?_⟩;rintro a b c _ w ⟨i,rfl,hi,h⟩;by_cases O:i<n
 ·refine V i a b c w _ O h fun a' I J w' h'=>⟨⟨i+1,?_,O,h'⟩,?_⟩
  ·rw[wrap_i64 (by omega) (by omega)];rfl
  ·rw[wrap_i64 (by omega) (by omega)];simp only[bQ];omega
 ·have:i=n:=by omega
  subst this;exact W a b c w _ h
theorem jk.range {a b c d:x4} {w:x5} {B:x4→x4→x4→x4→x4→x5→(x4→x4→x4→x4→x4→x5→Prop)→Prop} (n:Nat) (E:Nat→x4→x4→x4→x4→x5→Prop)
  (Y:n≤9223372036854775807) (V:E 0 a b c d w)
  (W:∀ (i:Nat) (a b c d:x4) (w:x5) (k:x4→x4→x4→x4→x4→x5→Prop),i<n→E i a b c d w→(∀ a' I J O w',E (i+1) a' I J O w'→k a' I J O (.int .i64 (X3.wrap ((i:Int)+1))) w')→B a b c d (.int .i64 (i:Int)) w k)
  (X:∀ (a b c d:x4) (w:x5) (k:x4→x4→x4→x4→x4→x5→Prop),E n a b c d w→B a b c d (.int .i64 (n:Int)) w k):jk a b c d (.int .i64 0) w B:=by
 refine⟨fun a b c d t w=>∃ i:Nat,t= .int .i64 (i:Int)∧i≤n∧E i a b c d w,fun a b c d t _=>n-(bQ t).toNat,⟨0,rfl,Y1 _,V⟩,?_⟩;rintro a b c d _ w ⟨i,rfl,hi,h⟩;by_cases U:i<n
 ·refine W i a b c d w _ U h fun a' I J O w' h'=>⟨⟨i+1,?_,U,h'⟩,?_⟩
  ·rw[wrap_i64 (by omega) (by omega)];rfl
  ·rw[wrap_i64 (by omega) (by omega)];simp only[bQ];omega
 ·have:i=n:=by omega
  subst this;exact X a b c d w _ h
section
variable {P:X5} {w:x5} {m:Bool} {S R:av}
theorem AU {k:o8} (l:List Int):(l.map fun x=>[X7 k x]).flatten=ints k l:=by
 induction l with
 |nil=>rfl
 |cons x l E=>simp only[List.map_cons,List.flatten_cons,E];rfl
theorem mX {e:o6} {g:Nat} {v:x4} {l:List Int} (h:aq .i64 e w g v l):dx (fun r=>r=g) R w [v] l:=by
 have I:(l.map fun x=>[X7 .i64 x]).flatten=ints .i64 l:=AU l;refine⟨v,rfl,l.map fun x=>[.int .i64 x],g,fun _ _=>False,⟨fun _ _ h=>h.elim,fun _ _ h=>h,fun _ _ _ _ _ h=>h.elim⟩,⟨by simp,fun i c a E J=>?_⟩,?_,fun _=>⟨.inr rfl,e,?_⟩⟩
 ·rw[r9,J] at E;simp at E;exact E.symm
 ·rw[I];exact sT h (.inr (.inl rfl))
 ·rw[I];exact h
end
end Go.Vc
namespace Go.Proofs.YtgbkinibgjmodaaGreatDoor
open Go Go.Vc Go.RowKit Go.Proofs Go.Proofs.Tryz
set_option maxRecDepth 100000
def right (k:Int):Prop:=1≤k∧k≤2147483648
def cF (a k:Int):Prop:=right k∧0≤a∧a≤k
instance (k:Int):Decidable (right k):=by unfold right;infer_instance
instance (a k:Int):Decidable (cF a k):=by unfold cF;infer_instance
theorem vC {k:Int} {w:x5}:O y0 mJ [.int .i64 k] w fun v w'=>v= .bool (decide (right k))∧Ext w w':=by
 apply mJ.enter;simp only[aB,cw,po,ag];refine⟨fun h=>⟨?_,Ext.refl _⟩,fun h=>⟨?_,Ext.refl _⟩⟩
 ·congr 1;simp[right,h]
 ·rw[decide_eq_false];intro E;exact h E.1
theorem lx {a k:Int} {w:x5}:O y0 hU [.int .i64 a,.int .i64 k] w fun v w'=>v= .bool (decide (cF a k))∧Ext w w':=by
 apply hU.enter;simp only[aB];refine vC.mono ?_;rintro _ U _ ⟨rfl,E⟩;simp only[cw,po,ag];refine⟨fun h=>⟨fun I=>⟨?_,E⟩,fun I=>⟨?_,E⟩⟩,fun h=>⟨?_,E⟩⟩
 ·congr 1;simp[cF,h,I]
 ·rw[decide_eq_false];intro J;exact I J.2.1
 ·rw[decide_eq_false];intro J;exact h J.1
end Go.Proofs.YtgbkinibgjmodaaGreatDoor
namespace Go.Proofs.YtgbkinibgjmodaaGreatDoor
open Go Go.Vc Go.RowKit Go.Proofs Go.Proofs.Tryz
set_option maxRecDepth 100000
def aH:List Int→Int
 |[]=>1
 |x::r=>x*aH r
theorem vD:∀ (a b:List Int),aH (a++b)=aH a*aH b
 |[],b=>by simp[aH]
 |x::a,b=>by simp[aH,vD a b,Int.mul_assoc]
theorem q6 {l:List Int} {i:Nat} {x:Int} (h:l[i]? =some x):aH (l.take (i+1))=aH (l.take i)*x:=by
 rw[o4,h,vD];simp[aH]
def bV (l:List Int):Prop:=l.length≤6∧ ∀ x∈l,1≤x∧x≤32
theorem bV.take {l:List Int} (h:bV l) (i:Nat):bV (l.take i):=⟨by rw[l7];have:=h.1;omega,fun x E=>h.2 x (List.mem_of_mem_take E)⟩
theorem bV.drop {l:List Int} (h:bV l) (i:Nat):bV (l.drop i):=⟨by rw[List.length_drop];have:=h.1;omega,fun x E=>h.2 x (List.mem_of_mem_drop E)⟩
theorem pt:∀ (l:List Int),(∀ x∈l,1≤x∧x≤32)→1≤aH l∧aH l≤32 ^ l.length
 |[],_=>by simp[aH]
 |x::r,h=>by
  obtain⟨h1,E⟩:=pt r fun y I=>h y (.tail _ I);obtain⟨J,O⟩:=h x (.head _);simp only[aH,j9];constructor
  ·have:=Int.mul_le_mul J h1 (by omega) (by omega);simpa using this
  ·have:=Int.mul_le_mul O E (by omega) (by omega);rw[Int.pow_succ];rw[Int.mul_comm (32 ^ r.length) 32];exact this
theorem prod_bound {l:List Int} (h:bV l):1≤aH l∧aH l≤1073741824:=by
 obtain⟨h1,E⟩:=pt l h.2;refine⟨h1,Int.le_trans E ?_⟩;have:(32:Int) ^ l.length≤32 ^ 6:=by
  have I:=h.1
  match l.length,I with
  |0,_=>decide
  |1,_=>decide
  |2,_=>decide
  |3,_=>decide
  |4,_=>decide
  |5,_=>decide
  |6,_=>decide
 simpa using this
def cr:List Int→List Int→Int→Option Int
 |[],[],n=>some n
 |k::s,v::t,n=>if 0≤v∧v<k then cr s t (n*k+v) else none
 |_,_,_=>none
theorem sU:∀ (s t:List Int) (n:Int),s.length≠t.length→cr s t n=none
 |[],[],_,h=>absurd rfl h
 |[],_::_,_,_=>rfl
 |_::_,[],_,_=>rfl
 |k::s,v::t,n,h=>by
  unfold cr;split
  ·exact sU s t _ (by simpa using h)
  ·rfl
def ct:List Int→Int→List Int
 |[],_=>[]
 |k::s,n=>(n / aH s) % k::ct s n
theorem gX:∀ (s:List Int) (n:Int),(ct s n).length=s.length
 |[],_=>rfl
 |_::s,n=>by simp[ct,gX s n]
theorem vE:∀ {s:List Int} {n:Int} {i:Nat} {k:Int},s[i]? =some k→(ct s n)[i]? =some ((n / aH (s.drop (i+1))) % k)
 |E::s,n,0,k,h=>by simp at h;subst h;simp[ct]
 |E::s,n,i+1,k,h=>by
  simp only[List.getElem?_cons_succ] at h;simp only[ct,List.getElem?_cons_succ,List.drop_succ_cons];exact vE h
theorem ly:∀ {s t:List Int} {m n:Int},(∀ x∈s,1≤x∧x≤32)→cr s t m=some n→m*aH s≤n∧n<(m+1)*aH s
 |[],[],m,n,_,h=>by simp[cr] at h;subst h;simp[aH];omega
 |k::s,v::t,m,n,I,h=>by
  unfold cr at h;split at h
  ·rename_i V;have J:=ly (fun x E=>I x (.tail _ E)) h;have W:=(pt s fun x E=>I x (.tail _ E)).1;simp only[aH];have O:m*(k*aH s)=m*k*aH s:=(Int.mul_assoc _ _ _).symm;have U:(m+1)*(k*aH s)=(m*k+k)*aH s:=by rw[←Int.mul_assoc,Int.add_mul,Int.one_mul]
   rw[O,U];constructor
   ·refine Int.le_trans ?_ J.1;exact Int.mul_le_mul_of_nonneg_right (by omega) (by omega)
   ·refine Int.lt_of_lt_of_le J.2 ?_;exact Int.mul_le_mul_of_nonneg_right (by omega) (by omega)
  ·cases h
 |[],_::_,_,_,_,h=>by cases h
 |_::_,[],_,_,_,h=>by cases h
end Go.Proofs.YtgbkinibgjmodaaGreatDoor
namespace Go.Proofs.YtgbkinibgjmodaaGreatDoor
open Go Go.Vc Go.RowKit Go.Proofs Go.Proofs.Tryz
set_option maxRecDepth 100000
def bK:List Int→List (List Int)
 |[]=>[[]]
 |k::s=>(W3 k.toNat).flatMap fun(v:Nat)=>(bK s).map fun t=>(v:Int)::t
theorem iK:∀ {s:List Int},(∀ x∈s,1≤x∧x≤32)→(bK s).length=(aH s).toNat
 |[],_=>rfl
 |k::s,h=>by
  have I:=iK (s:=s) fun x E=>h x (.tail _ E);have J:=h k (.head _);have O:=(pt s fun x E=>h x (.tail _ E)).1;simp only[bK,aH,List.length_flatMap,o3,I];rw[List.map_const',List.length_range,List.sum_replicate_nat,Int.toNat_mul (by omega) (by omega)]
theorem sV:∀ {s x:List Int},x∈bK s→x.length=s.length
 |[],x,h=>by simp[bK] at h;subst h;rfl
 |k::s,x,h=>by
  simp only[bK,List.mem_flatMap,l9] at h;obtain⟨v,_,t,E,rfl⟩:=h;simp[sV E]
theorem AV {s x:List Int} {j:Nat} (h:(bK s)[j]? =some x):x.length=s.length:=sV (u5 h)
end Go.Proofs.YtgbkinibgjmodaaGreatDoor
namespace Go.Proofs.YtgbkinibgjmodaaGreatDoor
open Go Go.Vc Go.RowKit Go.Proofs Go.Proofs.Tryz
set_option maxRecDepth 100000
theorem mY {sv:x4} {l:List Int} {w:x5} (h:aG .i64 w sv l) (U:bV l):
  O y0 iE [.agg #[sv]] w fun v w'=>v= .int .i64 (aH l)∧Ext w w':=by
 apply iE.enter;refine cc fun g w0 Z V X=>?_;rw[ah aK.p rfl,al (by kernel_rfl) (X.cell (o:=0+0) rfl),aQ ab.u (h.ext V)];refine⟨fun n t W=>Ext w W∧ ∃ i:Nat,t= .int .i64 i∧i≤l.length∧n= .int .i64 (aH (l.take i)),fun _ t _=>l.length-(bQ t).toNat,⟨V,0,rfl,Y1 _,rfl⟩,?_⟩;rintro _ _ W ⟨E,i,rfl,hi,rfl⟩;have aa:=U.1;simp only[au,ag];refine⟨fun ac=>?_,fun ad=>⟨?_,E⟩⟩
 ·obtain⟨x,I⟩:∃ x,l[i]? =some x:=⟨_,x3 (by omega)⟩;rw[bw ab.u J.i (by kernel_rfl) (h.ext E) I];have Y:=prod_bound (U.take (i+1));rw[q6 I] at Y;simp only[fZ,aL];rw[wrap_i64 (by omega) (by omega),wrap_i64 (by omega) (by omega),←q6 I];refine⟨⟨E,i+1,rfl,by omega,rfl⟩,?_⟩;simp only[bQ];omega
 ·have:i=l.length:=by omega
  rw[this,l5]
theorem AW {sv:x4} {l:List Int} {w:x5} {i:Nat} (h:aG .i64 w sv l) (U:bV l) (hi:i<l.length):
  O y0 oK [.agg #[sv],.int .i64 i] w fun v w'=>v= .int .i64 (aH (l.drop (i+1)))∧Ext w w':=by
 have ad:=U.1;apply oK.enter;refine cc fun g w0 ae V W=>?_;have E:=h.ext V;simp only[aB,au,ag];refine⟨fun af=>by omega,fun _=>?_⟩;rw[ah aK.p rfl,al (by kernel_rfl) (W.cell (o:=0+0) rfl),aQ ab.u E];simp only[cw,ag];refine⟨fun ai=>by omega,fun _=>?_⟩;rw[ah aK.p rfl,al (by kernel_rfl) (W.cell (o:=0+0) rfl)];simp only[aL];have X:X3.wrap ((i:Int)+1)=((i+1:Nat):Int):=by rw[wrap_i64 (by omega) (by omega)];omega
 rw[X];have Y:=E;obtain⟨_,b,o,base,cap,rfl,aj,ak,am,ao⟩:=id E;rw[gy ab.u J.i (l:=i+1) (h:=l.length) (m:=cap) qY hY eU (by omega) (by omega) (by omega)];have I:=b7.part (l:=i+1) (h:=l.length) (m:=cap) Y (by omega) (by omega) (by omega) (by omega);generalize Z:(x4.slice (if cap=i+1 then base else W6 (fun x=>x.add ((i+1)*1)) base) (l.length-(i+1)) (cap-(i+1)))=q at I ⊢;have aa:((ints .i64 l).drop ((i+1)*1)).take ((l.length-(i+1))*1)=ints .i64 (l.drop (i+1)):=by
  rw[Z1 (by simp),T0,ints,←List.map_drop]
 rw[aa] at I;rw[cR (cs:=#[q]) (by subst Z;kernel_rfl)];refine (mY (aG.of I) (U.drop (i+1))).mono ?_;rintro _ ap _ ⟨rfl,ac⟩;exact⟨rfl,V.trans ac⟩
def iL (s t:List Int):x4:=match cr s t 0 with
 |some n=>.tuple #[.int .i64 n,.int .i64 0]
 |none=>.tuple #[.int .i64 0,.int .i64 3]
theorem vF {sv aa:x4} {s t:List Int} {w:x5} (h:aG .i64 w sv s) (Y:aG .i64 w aa t) (W:bV s):
  O y0 my [.agg #[sv],aa] w fun v w'=>v=iL s t∧Ext w w':=by
 have ap:=W.1;apply my.enter;refine cc fun g w0 aq I Z=>?_;rw[aQ ab.u (Y.ext I),ah aK.p rfl,al (by kernel_rfl) (Z.cell (o:=0+0) rfl),aQ ab.u (h.ext I)];simp only[bC,ag];refine⟨fun av=>⟨?_,I⟩,fun ae=>?_⟩
 ·unfold iL;rw[sU _ _ _ (by omega)]
 ·have ae:s.length=t.length:=by omega
  rw[aQ ab.u (Y.ext I)];refine⟨fun _ _ n c ac=>Ext w0 ac∧ ∃ (i:Nat) (m:Int),c= .int .i64 i∧i≤t.length∧n= .int .i64 m∧0≤m∧m<aH (s.take i)∧cr s t 0=cr (s.drop i) (t.drop i) m,fun _ _ _ c _=>t.length-(bQ c).toNat,
   ⟨Ext.refl _,0,0,rfl,Y1 _,rfl,Int.le_refl _,by simp[aH],rfl⟩,?_⟩
  rintro _ _ _ _ ac ⟨X,i,m,rfl,hi,rfl,af,aw,U⟩;have E:=I.trans X;simp only[au,ag];refine⟨fun ax=>?_,fun ay=>⟨?_,E⟩⟩
  ·obtain⟨v,ai,aj⟩:∃ v,t[i]? =some v∧t.drop i=v::t.drop (i+1):=⟨t[i],x3 (by omega),X2 (by omega)⟩;obtain⟨k,V,ak⟩:∃ k,s[i]? =some k∧s.drop i=k::s.drop (i+1):=⟨s[i],x3 (by omega),X2 (by omega)⟩;rw[aj,ak] at U;have am:=prod_bound (W.take (i+1));have az:=prod_bound (W.take i);have aA:=W.2 k (u5 V);rw[q6 V] at am;have ad:¬(0≤v∧v<k)→iL s t= .tuple #[.int .i64 0,.int .i64 3]:=fun ao=>by unfold iL;rw[U];simp[cr,ao]
   rw[bw ab.u J.i (by kernel_rfl) (Y.ext E) ai];simp only[aB,au,ag,bm];refine⟨fun aC=>⟨(ad (by omega)).symm,E⟩,fun aD=>?_⟩;rw[ah aK.p rfl,al (by kernel_rfl) ((Z.ext X).cell (o:=0+0) rfl),bw ab.u J.i (by kernel_rfl) (h.ext E) V];simp only[cw,ag];refine⟨fun aE=>⟨(ad (by omega)).symm,E⟩,fun aF=>?_⟩;rw[ah aK.p rfl,al (by kernel_rfl) ((Z.ext X).cell (o:=0+0) rfl),bw ab.u J.i (by kernel_rfl) (h.ext E) V];have aI:0≤m*k∧m*k+k≤aH (s.take i)*k:=by
    constructor
    ·exact Int.mul_nonneg af (by omega)
    ·have:=Int.mul_le_mul_of_nonneg_right (show m+1≤aH (s.take i) by omega) (show 0≤k by omega);rw[Int.add_mul,Int.one_mul] at this;exact this
   simp only[fZ,aL];rw[wrap_i64 (x:=m*k) (by omega) (by omega),wrap_i64 (x:=m*k+v) (by omega) (by omega),wrap_i64 (x:=(i:Int)+1) (by omega) (by omega)];refine⟨⟨X,i+1,m*k+v,rfl,by omega,rfl,by omega,by rw[q6 V];omega,?_⟩,?_⟩
   ·rw[U];simp[cr,show 0≤v∧v<k from⟨by omega,by omega⟩]
   ·simp only[bQ];omega
  ·have:i=t.length:=by omega
   rw[this,List.drop_of_length_le (by omega),List.drop_of_length_le (by omega)] at U;unfold iL;rw[U];rfl
end Go.Proofs.YtgbkinibgjmodaaGreatDoor
namespace Go.Proofs.YtgbkinibgjmodaaGreatDoor
open Go Go.Vc Go.RowKit Go.Proofs Go.Proofs.Tryz
set_option maxRecDepth 100000
theorem AX {aa ac:x4} {w:x5} {E V:Nat} {a b:List Int} (h1:b7 w 1 aa E (ints .i64 a)) (ad:b7 w 1 ac V (ints .i64 b)):
  O y0 kd [aa,ac] w fun v w'=>v= .bool (decide (a=b))∧Ext w w':=by
 have ax:a.length=E:=by simpa using h1.1
 have ay:b.length=V:=by simpa using ad.1
 have ae:=h1.le;obtain⟨_,az,aA,aB,aC,rfl,aD,aE,aj,ak⟩:=h1;obtain⟨_,aF,aG,aH,aI,rfl,aJ,aK,am,ao⟩:=ad;apply kd.enter;simp only[ga ab.u,bC,ag];refine⟨fun af=>⟨?_,Ext.refl _⟩,fun ah=>?_⟩
 ·rw[decide_eq_false];rintro rfl;omega
 ·have ah:E=V:=by omega
  refine⟨fun t4 W ai=>Ext w ai∧ ∃ i:Nat,W= .int .i64 i∧i≤E∧a.take i=b.take i,fun _ W _=>E-(bQ W).toNat,⟨Ext.refl _,0,rfl,Y1 _,rfl⟩,?_⟩;rintro t4 _ ai ⟨I,i,rfl,hi,X⟩;simp only[au,ag,aS];refine⟨fun Y aM ap _ _=>?_,fun aN=>⟨?_,I⟩⟩
  ·have Y:i<E:=by omega
   have I:=I.trans ap;obtain⟨x,Z⟩:∃ x,a[i]? =some x:=⟨_,x3 (by omega)⟩;obtain⟨y,U⟩:∃ y,b[i]? =some y:=⟨_,x3 (by omega)⟩;have aq:=ln I (ak i _ (jD Z));have av:=ln I (ao i _ (jD U));rw[gx ab.u J.i Y aj,T0,al (by kernel_rfl) aq,gx ab.u J.i (ah▸Y) am,T0,al (by kernel_rfl) av];simp only[bC,ag,aL];refine⟨fun af=>⟨?_,I⟩,fun aO=>⟨⟨I,i+1,?_,by omega,sQ X Z U (by omega)⟩,?_⟩⟩
   ·rw[decide_eq_false];rintro rfl;rw[Z] at U;cases U;exact af rfl
   ·rw[wrap_i64 (by omega) (by simp only[maxLen] at ae;omega)];rfl
   ·rw[wrap_i64 (by omega) (by simp only[maxLen] at ae;omega)];simp only[bQ];omega
  ·have aw:i=E:=by omega
   subst aw;rw[decide_eq_true];rw[Z1 (by omega),Z1 (by omega)] at X;exact X
theorem AY {s:x4} {w:x5} {n:Nat} {a:List Int} (h1:b7 w 1 s n (ints .i64 a)) (ac:n≤1000000):
  O y0 gq [s] w fun v w'=>Ext w w'∧ ∃ g,w.heap.size≤g∧bR w' g J 1 v n (ints .i64 a):=by
 have U:=h1;obtain⟨V,ad,ae,af,ag,rfl,ah,ai,W,aj⟩:=h1;apply gq.enter;simp only[qW ab.u,cv];refine⟨fun I=>⟨Ext.refl _,w.heap.size,o7 _,?_⟩,fun _=>?_⟩
 ·have:n=0:=by
   rcases Nat.eq_zero_or_pos n with h|h
   ·exact h
   ·rw[W h] at I;cases I
  subst this;have:ints .i64 a=[]:=j5 (by simpa using V);rw[this];exact bR.nil _ _ _ _
 ·refine hZ ab.u J.i (by omega) (cs:=#[]) (by kernel_rfl) ?_;intro g ak al E X;refine lu (g:=g) ab.u ab.u J.i rfl (bR.full X rfl (by omega)) (U.ext E) (ps _ _) (by omega) (by simp only[maxLen];omega) ?_;intro am Y ao ap Z aa;refine⟨E.then aa (by rintro r aq rfl;omega),Y,?_,?_⟩
  ·have:=E.size;omega
  ·simpa using Z
theorem AZ {Z aa:x4} {w:x5} {E U:Nat} {a b:List Int} (h1:b7 w 1 Z E (ints .i64 a)) (ab:b7 w 1 aa U (ints .i64 b)):
  O y0 md [Z,aa] w fun v w'=>v= .bool (decide (a=b))∧Ext w w':=by
 have ax:a.length=E:=by simpa using h1.1
 have ay:b.length=U:=by simpa using ab.1
 have ac:=h1.le;obtain⟨_,az,aA,aB,aC,rfl,aD,aE,aj,ak⟩:=h1;obtain⟨_,aF,aG,aH,aI,rfl,aJ,aK,am,ao⟩:=ab;apply md.enter;simp only[ga ae.u,bC,ag];refine⟨fun ad=>⟨?_,Ext.refl _⟩,fun ah=>?_⟩
 ·rw[decide_eq_false];rintro rfl;omega
 ·have ah:E=U:=by omega
  refine⟨fun t4 V ai=>Ext w ai∧ ∃ i:Nat,V= .int .i64 i∧i≤E∧a.take i=b.take i,fun _ V _=>E-(bQ V).toNat,⟨Ext.refl _,0,rfl,Y1 _,rfl⟩,?_⟩;rintro t4 _ ai ⟨I,i,rfl,hi,W⟩;simp only[au,ag,aS];refine⟨fun X aM ap _ _=>?_,fun aN=>⟨?_,I⟩⟩
  ·have X:i<E:=by omega
   have I:=I.trans ap;obtain⟨x,Y⟩:∃ x,a[i]? =some x:=⟨_,x3 (by omega)⟩;obtain⟨y,J⟩:∃ y,b[i]? =some y:=⟨_,x3 (by omega)⟩;have aq:=ln I (ak i _ (jD Y));have av:=ln I (ao i _ (jD J));rw[gx ae.u af.i X aj,T0,al (by kernel_rfl) aq,gx ae.u af.i (ah▸X) am,T0,al (by kernel_rfl) av];simp only[bC,ag,aL];refine⟨fun ad=>⟨?_,I⟩,fun aO=>⟨⟨I,i+1,?_,by omega,sQ W Y J (by omega)⟩,?_⟩⟩
   ·rw[decide_eq_false];rintro rfl;rw[Y] at J;cases J;exact ad rfl
   ·rw[wrap_i64 (by omega) (by simp only[maxLen] at ac;omega)];rfl
   ·rw[wrap_i64 (by omega) (by simp only[maxLen] at ac;omega)];simp only[bQ];omega
  ·have aw:i=E:=by omega
   subst aw;rw[decide_eq_true];rw[Z1 (by omega),Z1 (by omega)] at W;exact W
theorem A0 {s:x4} {w:x5} {n:Nat} {a:List Int} (h1:b7 w 1 s n (ints .i64 a)) (aa:n≤1000000):
  O y0 kk [s] w fun v w'=>Ext w w'∧ ∃ g,w.heap.size≤g∧bR w' g af 1 v n (ints .i64 a):=by
 have J:=h1;obtain⟨U,ab,ac,ad,ag,rfl,ah,ai,V,aj⟩:=h1;apply kk.enter;simp only[qW ae.u,cv];refine⟨fun I=>⟨Ext.refl _,w.heap.size,o7 _,?_⟩,fun _=>?_⟩
 ·have:n=0:=by
   rcases Nat.eq_zero_or_pos n with h|h
   ·exact h
   ·rw[V h] at I;cases I
  subst this;have:ints .i64 a=[]:=j5 (by simpa using U);rw[this];exact bR.nil _ _ _ _
 ·refine hZ ae.u af.i (by omega) (cs:=#[]) (by kernel_rfl) ?_;intro g ak al E W;refine lu (g:=g) ae.u ae.u af.i rfl (bR.full W rfl (by omega)) (J.ext E) (ps _ _) (by omega) (by simp only[maxLen];omega) ?_;intro am X ao ap Y Z;refine⟨E.then Z (by rintro r aq rfl;omega),X,?_,?_⟩
  ·have:=E.size;omega
  ·simpa using Y
theorem vG {E I:x4} {w:x5} {a b:List Int} (h1:aG .i64 w E a) (J:aG .i64 w I b):
  O y0 kd [E,I] w fun v w'=>v= .bool (decide (a=b))∧Ext w w':=AX h1 J
theorem jE {s:x4} {w:x5} {a:List Int} (h1:aG .i64 w s a) (E:a.length≤1000000):
  O y0 gq [s] w fun v w'=>Ext w w'∧ ∃ g,w.heap.size≤g∧aq .i64 J w' g v a:=AY h1 E
theorem A1 {E I:x4} {w:x5} {a b:List Int} (h1:aG .i64 w E a) (J:aG .i64 w I b):
  O y0 md [E,I] w fun v w'=>v= .bool (decide (a=b))∧Ext w w':=AZ h1 J
theorem sW {s:x4} {w:x5} {a:List Int} (h1:aG .i64 w s a) (E:a.length≤1000000):
  O y0 kk [s] w fun v w'=>Ext w w'∧ ∃ g,w.heap.size≤g∧aq .i64 af w' g v a:=A0 h1 E
end Go.Proofs.YtgbkinibgjmodaaGreatDoor
namespace Go.Proofs.YtgbkinibgjmodaaGreatDoor
open Go Go.Vc Go.RowKit Go.Proofs Go.Proofs.Tryz
set_option maxRecDepth 100000
theorem A2 {sv:x4} {l:List Int} {w:x5} {n:Int} (h:aG .i64 w sv l) (E:bV l) (Y:0≤n) (aI:n<aH l):
  O y0 ou [.agg #[sv],.int .i64 n] w fun v w'=>Ext w w'∧ ∃ ai g,v= .tuple #[ai,.int .i64 0]∧w.heap.size≤g∧aq .i64 J w' g ai (ct l n):=by
 have aJ:=E.1;have aM:=prod_bound E;apply ou.enter;refine cc fun g w0 aN Z I=>?_;have aO:=h.cells;simp only[aB,au,ag];refine⟨fun aP=>by omega,fun _=>?_⟩;rw[bN aK.p aK.i rfl I.range];refine (mY (h.ext Z) E).mono ?_;rintro _ aR _ ⟨rfl,U⟩;simp only[cw,ag];refine⟨fun aT=>by omega,fun _=>?_⟩;have V:=Z.trans U;rw[ah aK.p rfl,al (by kernel_rfl) ((I.ext U).cell (o:=0+0) rfl),aQ ab.u (h.ext V)];refine h0 ab.u J.i (by omega) (by omega) ?_;intro aj aU aV aa av;simp only[ga ab.u];have aw:=V.trans aa;have s0:=Z.size;have aW:=U.size;have aX:=I.lt;refine⟨fun t W=>Ext w W∧Ext w0 W∧ ∃ i:Nat,t= .int .i64 i∧i≤l.length∧ak W aj J (ints .i64 ((ct l n).take i++p9 (l.length-i) 0)),fun t _=>l.length-(bQ t).toNat,
  ⟨aw,U.trans aa,0,rfl,Y1 _,by simpa using av⟩,?_⟩
 rintro _ W ⟨ac,ad,i,rfl,hi,am⟩;simp only[au,ag];refine⟨fun ae=>?_,fun aY=>?_⟩
 ·have ae:i<l.length:=by omega
  rw[bN aK.p aK.i rfl (I.ext ad).range];refine (AW (h.ext ac) E ae).mono ?_;rintro _ aZ _ ⟨rfl,ax⟩;simp only[aS];intro a1 ay _ _;have X:=ax.trans ay;have ao:=ac.trans X;obtain⟨k,af⟩:∃ k,l[i]? =some k:=⟨l[i],x3 (by omega)⟩;have a2:=E.2 k (u5 af);have a6:=prod_bound (E.drop (i+1));have az:0≤n / aH (l.drop (i+1)):=Int.ediv_nonneg Y (by omega);have a7:n / aH (l.drop (i+1))≤n:=Int.ediv_le_self _ Y;rw[qV (by omega),Int.tdiv_eq_ediv_of_nonneg Y,wrap_i64 (by omega) (by omega),
   ah aK.p rfl,al (by kernel_rfl) (((I.ext ad).ext X).cell (o:=0+0) rfl),bw ab.u J.i (by kernel_rfl) (h.ext ao) af,
   vi (by omega),Int.tmod_eq_emod_of_nonneg az,gx ab.u J.i ae (fun _=>rfl),T0]
  refine bH J.i rfl rfl (am.ext X) (by simp[gX];omega) ?_;intro a8 ap ba aA;simp only[aL];rw[wrap_i64 (by omega) (by omega)];have bb:=aa.size;have bc:=V.size;refine⟨⟨ao.then ap (by rintro r aC rfl;omega),(ad.trans X).then ap (by rintro r aC rfl;omega),i+1,rfl,by omega,?_⟩,?_⟩
  ·have aD:=vE (n:=n) af;have e:(ints .i64 ((ct l n).take i++p9 (l.length-i) 0)).set (0+i) (.int .i64 (n / aH (l.drop (i+1)) % k))=ints .i64 ((ct l n).take (i+1)++p9 (l.length-(i+1)) 0):=by
    have aE:((ct l n).take i).length=i:=by rw[l7,gX];omega
    rw[V5,ints,←List.map_set];congr 1;rw[List.set_append,if_neg (by omega),aE,W7,show l.length-i=(l.length-(i+1))+1 by omega,List.replicate_succ,List.set_cons_zero,o4,aD];simp
   rw[←e];exact aA
  ·simp only[bQ];omega
 ·have aF:i=l.length:=by omega
  subst aF;refine⟨ac,_,aj,rfl,by have:=V.size;omega,aq.of (n:=l.length) (bR.full ?_ (by simp[ints,gX]) (by simp[maxLen];omega))⟩;have e:(ct l n).take l.length++p9 (l.length-l.length) 0=ct l n:=by rw[W7,Z1 (by rw[gX];omega)];simp
  rw[←e];exact am
end Go.Proofs.YtgbkinibgjmodaaGreatDoor
namespace Go.Proofs.YtgbkinibgjmodaaGreatDoor
open Go Go.Vc Go.RowKit Go.Proofs Go.Proofs.Tryz
set_option maxRecDepth 100000
def gb (x:Int):Prop:=1≤x∧x≤32
instance (x:Int):Decidable (gb x):=by unfold gb;infer_instance
theorem A3 {x:Int} {w:x5}:O y0 km [.int .i64 x] w fun v w'=>v= .bool (decide (¬gb x))∧Ext w w':=by
 apply km.enter;simp only[aB,au,bT,ag];refine⟨fun h=>⟨?_,Ext.refl _⟩,fun h=>⟨?_,Ext.refl _⟩⟩
 ·rw[decide_eq_true];intro E;have:=E.1;omega
 ·congr 1;have:(32<x)=(¬gb x):=propext ⟨fun I E=>by have:=E.2;omega,fun I=>by
   by_cases J:32<x
   ·exact J
   ·exact absurd ⟨by omega,by omega⟩ I⟩
  simp only[this]
theorem A4 {sv:x4} {l:List Int} {w:x5} (h:aG .i64 w sv l):
  O y0 kj [sv,.func (.func km) #[] #[]] w fun v w'=>Ext w w'∧ ∃ n:Int,v= .int .i64 n∧((0≤n)=¬∀ x∈l,gb x):=by
 have ac:=h.le;apply kj.enter;rw[aQ ab.u h];refine⟨fun _ t U=>Ext w U∧ ∃ i:Nat,t= .int .i64 i∧i≤l.length∧ ∀ x∈l.take i,gb x,fun _ t _=>l.length-(bQ t).toNat,⟨Ext.refl _,0,rfl,Y1 _,by simp⟩,?_⟩;rintro _ _ U ⟨I,i,rfl,hi,V⟩;simp only[au,ag];refine⟨fun ad=>?_,fun ae=>⟨I,-1,rfl,?_⟩⟩
 ·obtain⟨x,W⟩:∃ x,l[i]? =some x:=⟨_,x3 (by omega)⟩;rw[bw ab.u J.i (by kernel_rfl) (h.ext I) W];show O y0 km [.int .i64 x] U _;refine A3.mono ?_;rintro _ af _ ⟨rfl,X⟩;simp only[ag,aL];refine⟨fun Y=>⟨I.trans X,i,rfl,?_⟩,fun Z=>?_⟩
  ·exact propext ⟨fun _ aa=>Y (aa x (u5 W)),fun _=>by omega⟩
  ·rw[wrap_i64 (by omega) (by omega)];refine⟨⟨I.trans X,i+1,rfl,by omega,fun y E=>?_⟩,?_⟩
   ·rw[o4,W] at E;rcases n9.1 E with E|E
    ·exact V y E
    ·simp at E;subst E;exact X4.1 Z
   ·simp only[bQ];omega
 ·have:i=l.length:=by omega
  rw[this,l5] at V;exact propext ⟨fun h=>by omega,fun h=>absurd V h⟩
theorem A5 {sv:x4} {l:List Int} {w:x5} (h:aG .i64 w sv l):
  O y0 hV [sv,.func (.func km) #[] #[]] w fun v w'=>v= .bool (decide (¬∀ x∈l,gb x))∧Ext w w':=by
 apply hV.enter;refine (A4 h).mono ?_;rintro _ J _ ⟨E,n,rfl,I⟩;simp only[cw];exact⟨by congr 1;simp only[I],E⟩
def A6 (w:x5) (l:List Int) (v:x4) (w':x5):Prop:=
 Ext w w'∧
   (¬bV l→v= .tuple #[.agg #[.slice none 0 0],.int .i64 1])∧
   (bV l→4096<aH l→v= .tuple #[.agg #[.slice none 0 0],.int .i64 5])∧
   (bV l→aH l≤4096→ ∃ g E,v= .tuple #[.agg #[E],.int .i64 0]∧w.heap.size≤g∧aq .i64 J w' g E l)
theorem A7 {sv:x4} {l:List Int} {w:x5} (h:aG .i64 w sv l):O y0 oq [sv] w (A6 w l):=by
 apply oq.enter;refine bU aK.i fun aH aI aX E Z=>?_;have aY:=Z.lt;refine aV (fun v V=>Ext w V∧Ext aI V∧ ∃ c:Bool,v= .bool c∧((c=true)=¬bV l)) ?_ ?_
 ·rintro _ V ⟨aa,ac,c,rfl,ap⟩;simp only[cv];refine⟨fun aJ=>?_,fun aL=>?_⟩
  ·have au:¬bV l:=by rw[←ap];exact aJ
   rw[cR (cs:=#[.slice none 0 0]) (by kernel_rfl)];refine b9 (vs:=[.slice none 0 0]) aK.i rfl rfl (by simp;rfl) (Z.ext ac) ?_;intro aZ aM a1 aN;rw[eB aK.p aK.i rfl aN.range];exact⟨aa.then aM (by rintro r ae rfl;omega),fun _=>rfl,fun h=>absurd h au,fun h=>absurd h au⟩
  ·have W:bV l:=by
    have av:¬(c=true):=by simp[aL]
    rw[ap] at av;exact Classical.not_not.1 av
   have a2:=W.1;refine (jE (h.ext aa) (by omega)).mono ?_;rintro I aw _ ⟨af,ax,a6,hm⟩;have ay:=hm.ls.cells;rw[cR (cs:=#[I]) (by obtain⟨_,_,_,_,_,rfl,_⟩:=hm.ls;kernel_rfl)];refine bU aK.i fun gs a7 a8 ah aO=>?_;refine b9 (vs:=[I]) aK.i rfl rfl (by intro u hu;simp at hu;subst hu;exact ay.2) aO ?_;intro ai az ba aA;rw[bN aK.p aK.i rfl aA.range];have bb:=af.size;have bc:=ah.size;have bd:=ac.size;have be:am (fun r=>r=gs) aw ai:=(ah.ad _).trans az;have aj:Ext aw ai:=ah.then az (by rintro r ae rfl;omega);have aP:=(aa.trans af).trans aj;have aB:aq .i64 J ai ax I l:=hm.ext aj;refine (mY aB.ls W).mono ?_;rintro _ aR _ ⟨rfl,X⟩;have aC:=aP.trans X;have aD:ak aR aH aK [.slice none 0 0]:=Z.ext (((ac.trans af).trans aj).trans X);simp only[bT,ag];refine⟨fun aS=>?_,fun aT=>?_⟩
   ·rw[cR (cs:=#[.slice none 0 0]) (by kernel_rfl)];refine b9 (vs:=[.slice none 0 0]) aK.i rfl rfl (by simp;rfl) aD ?_;intro aU Y aW al;rw[eB aK.p aK.i rfl al.range];exact⟨aC.then Y (by rintro r ae rfl;omega),fun h=>absurd W h,fun _ _=>rfl,fun _ h=>by omega⟩
   ·rw[bN aK.p aK.i rfl (aA.ext X).range];refine b9 (vs:=[I]) aK.i rfl rfl (by intro u hu;simp at hu;subst hu;exact ay.2) aD ?_;intro aU Y aW al;rw[eB aK.p aK.i rfl al.range];have bf:=E.size;exact⟨aC.then Y (by rintro r ae rfl;omega),fun h=>absurd W h,fun _ h=>by omega,fun _ _=>⟨ax,I,rfl,by omega,(aB.ext X).ad Y (by omega)⟩⟩
 ·intro bg aE;rw[aQ ab.u (h.ext E)];simp only[bT,ag];refine⟨fun aS=>aE _ _ ⟨E,Ext.refl _,true,rfl,?_⟩,fun aT=>?_⟩
  ·exact propext ⟨fun _ U=>by have:=U.1;omega,fun _=>rfl⟩
  ·refine (A5 (h.ext E)).mono ?_;rintro _ V _ ⟨rfl,aF⟩;refine aE _ _ ⟨E.trans aF,aF,_,rfl,?_⟩;rw[decide_eq_true_eq];exact propext ⟨fun ao U=>ao U.2,fun ao U=>ao ⟨by omega,U⟩⟩
end Go.Proofs.YtgbkinibgjmodaaGreatDoor
namespace Go.Proofs.YtgbkinibgjmodaaGreatDoor
open Go Go.Vc Go.RowKit Go.Proofs Go.Proofs.Tryz
set_option maxRecDepth 100000
theorem sX {P:X5} {w:x5} {t:o6} {cx cy:Bool} {a:Int} {K:x4→Prop} (E:0≤a) (h1:a<4294967296):
  I P (U .and t cx cy (.int .u64 a) (.int .u64 4294967295)) w K=K (.int .u64 a):=I.of fun w' _=>by
 obtain⟨n,rfl⟩:=Int.eq_ofNat_of_zero_le E;have W:n<4294967296:=by omega
 have e:(W9 64 (n:Int) &&& W9 64 4294967295).toNat=n:=by
  rw[BitVec.toNat_and,BitVec.toNat_ofInt,BitVec.toNat_ofInt];have J:((n:Int) % ((2 ^ 64:Nat):Int)).toNat=n:=by omega
  have O:((4294967295:Int) % ((2 ^ 64:Nat):Int)).toNat=2 ^ 32-1:=by decide
  rw[J,O,Nat.and_two_pow_sub_one_eq_mod];omega
 have V:(W9 V2.bits (n:Int) &&& W9 V2.bits 4294967295).toNat=n:=e;simp only[U,eqGuard,binOp,Op.intBits,V];rw[wrap_u64 (by omega) (by omega)];rfl
theorem pu {P:X5} {w:x5} {t:o6} {cx cy:Bool} {a:Int} {K:x4→Prop} (E:0≤a) (h1:a<4294967296):
  I P (U .shr t cx cy (.int .u64 a) (.int .u64 32)) w K=K (.int .u64 0):=I.of fun w' _=>by
 have e:a.fdiv (2 ^ min 32 V2.bits)=0:=by
  have:(2:Int) ^ min 32 V2.bits=4294967296:=rfl;rw[this,Int.fdiv_eq_ediv_of_nonneg _ (by omega)];omega
 simp[U,eqGuard,binOp,Op.shift,e]
theorem A8 {x y:Int} {w:x5} (I:0≤x∧x<65536) (E:0≤y∧y<65536):
  O y0 oJ [.int .u64 x,.int .u64 y] w fun v w'=>v= .tuple #[.int .u64 0,.int .u64 (x*y)]∧Ext w w':=by
 have U:0≤x*y∧x*y<4294967296:=⟨Int.mul_nonneg I.1 E.1,by
  have:x*y≤65535*65535:=Int.mul_le_mul (by omega) (by omega) E.1 (by omega);omega⟩
 apply oJ.enter;refine O.mono (K:=fun v w'=>v= .tuple #[.int .u64 0,.int .u64 (x*y)]∧Ext w w') ?_ ?_
 ·apply qN.enter;rw[sX (by omega) (by omega),pu (by omega) (by omega),sX (by omega) (by omega),pu (by omega) (by omega)];simp only[fZ,Int.zero_mul,Int.mul_zero];rw[wrap_u64 (x:=x*y) (by omega) (by omega),show V2.wrap 0=0 from rfl,pu (a:=x*y) (by omega) (by omega)];simp only[aL,Int.add_zero];rw[show V2.wrap 0=0 from rfl,sX (by omega) (by omega),pu (by omega) (by omega)];simp only[fZ,aL,Int.zero_mul,Int.mul_zero,Int.add_zero,show V2.wrap 0=0 from rfl];rw[pu (by omega) (by omega)];simp only[fZ,aL,Int.add_zero,show V2.wrap 0=0 from rfl];exact⟨trivial,Ext.refl _⟩
 ·rintro _ V _ ⟨rfl,J⟩;rw[aC (v:=.int .u64 0) rfl,aC (v:=.int .u64 (x*y)) rfl];exact⟨rfl,J⟩
theorem vH {Z:x4} {w:x5} {c:Int} {n:Nat} (h:aG .i64 w Z [c]) (aJ:n<65536):
  O y0 mu [Z,.int .i64 n] w fun v w'=>Ext w w'∧ ∃ g,w.heap.size≤g∧aq .i64 af w' g v (p9 n c):=by
 apply mu.enter;refine dG (fun aj=>w=aj) ?_ ?_
 ·rintro _ rfl;rw[aQ ae.u h,fC J.u hn.u,fC J.u hn.u,wrap_u64 (by simp) (by simp),wrap_u64 (by omega) (by omega)];refine (A8 (x:=([c].length:Int)) (by simp) (by omega)).mono ?_;rintro _ aa _ ⟨rfl,ab⟩;rw[aC (v:=.int .u64 0) rfl,aC (v:=.int .u64 (([c].length:Int)*n)) rfl];have al:(([c].length:Int)*n)=(n:Int):=by simp
  rw[al];refine dG (fun E=>aa=E) ?_ ?_
  ·rintro _ rfl;rw[fC hn.u J.u,wrap_i64 (by omega) (by omega)];refine h0 ae.u af.i (by omega) (by omega) ?_;intro g aK aM am ao;have ac:=ab.trans am;have aN:=ab.size;refine vr ae.u af.i ao (o:=0) (fun _=>rfl) (by simp) (h.ext ac) (ps _ _) ?_;intro aO ap aP ad;have av:=ac.then ap (by rintro r aw rfl;omega);have st:over (ints .i64 (p9 n 0)) 0 ((ints .i64 [c]).take n)=ints .i64 (p9 (min 1 n) c++p9 (n-min 1 n) 0):=by
    rcases Nat.eq_zero_or_pos n with rfl|I
    ·simp[over]
    ·rw[Z1 (by simp;omega),kv (by simp;omega)];have:min 1 n=1:=by omega
     simp[this,ints]
   rw[st] at ad;refine⟨fun t U=>Ext w U∧ ∃ i:Nat,t= .int .i64 i∧i≤n∧(0<n→0<i)∧ak U g af (ints .i64 (p9 i c++p9 (n-i) 0)),fun t _=>n-(bQ t).toNat,
    ⟨av,min 1 n,by simp,by omega,by omega,ad⟩,?_⟩
   rintro _ U ⟨V,i,rfl,hi,aR,W⟩;simp only[ga ae.u,au,ag,aS];refine⟨fun ax ay X _ _=>?_,fun aT=>?_⟩
   ·have ax:i<n:=by omega
    have ah:=W.ext X;rw[gy ae.u af.i (l:=i) (h:=n) (m:=n) qY hY eU (by omega) (by omega) (by omega),
     gy ae.u af.i (l:=0) (h:=i) (m:=n) hX qZ eU (by omega) (by omega) (by omega)]
    have az:b7 ay 1 (.slice (some ⟨g,0,none⟩) n n) n (ints .i64 (p9 i c++p9 (n-i) 0)):=(bR.full ah (by simp <;> omega) (by simp[maxLen] <;> omega)).sl;have I:=az.part (l:=0) (h:=i) (m:=n) (by omega) (by omega) (by omega) (by omega);have aA:((ints .i64 (p9 i c++p9 (n-i) 0)).drop (0*1)).take ((i-0)*1)=ints .i64 (p9 i c):=by
     simp[ints]
    rw[aA] at I;refine vr ae.u af.i ah (o:=i) (fun _=>?_) (by simp <;> omega) I (ps _ _) ?_
    ·rw[if_neg (by omega)];simp[U5]
    ·intro aW aB aX ai;have aY:=V.size;have aZ:=X.size;have aD:over (ints .i64 (p9 i c++p9 (n-i) 0)) i ((ints .i64 (p9 i c)).take (n-i))=ints .i64 (p9 (i+min i (n-i)) c++p9 (n-(i+min i (n-i))) 0):=by
      apply W0;intro j;rw[pr _ _ _ (by simp[ints] <;> omega)];simp only[ints,j0,List.map_replicate,List.getElem?_append,List.getElem?_take,List.getElem?_replicate,l7,List.length_replicate]
      repeat' split
      all_goals first|rfl|omega
     rw[aD] at ai;have aE:min (i-0) (n-i)=min i (n-i):=by omega
     simp only[aL,aE];have aF:X3.wrap ((i:Int)+((min i (n-i):Nat):Int))=((i+min i (n-i):Nat):Int):=by rw[wrap_i64 (by omega) (by omega)];omega
     rw[aF];refine⟨⟨(V.trans X).then aB (by rintro r aw rfl;omega),_,rfl,by omega,by omega,ai⟩,?_⟩;simp only[bQ,c7];omega
   ·have:i=n:=by omega
    subst this;rw[W7,List.replicate_zero,U2] at W;exact⟨V,g,by omega,aq.of (n:=i) (bR.full W (by simp) (by simp[maxLen];omega))⟩
  ·intro aH Y;refine aV (fun v E=>v= .bool false∧aa=E) ?_ ?_
   ·rintro _ _ ⟨rfl,rfl⟩;rw[aU];exact Y _ rfl
   ·intro fk aI;simp only[bT,ag];refine⟨fun h=>by omega,fun _=>aI _ _ ⟨?_,rfl⟩⟩;rw[decide_eq_false];omega
 ·intro aH Y;simp only[au,ag];exact⟨fun h=>by omega,fun _=>Y _ rfl⟩
end Go.Proofs.YtgbkinibgjmodaaGreatDoor
namespace Go.Proofs.YtgbkinibgjmodaaGreatDoor
open Go Go.Vc Go.RowKit Go.Proofs Go.Proofs.Tryz
set_option maxRecDepth 100000
def leads (v:x4) (r:Nat):Prop:=∃ a n c,v= .slice (some a) n c∧a.block=r
theorem b1 {k:o8} {e:o6} {w:x5} {g:Nat} {v:x4} {l:List Int} (h:aq k e w g v l) {r:Nat} (E:leads v r):r=g∧g<w.heap.size:=by
 obtain⟨a,n,c,rfl,rfl⟩:=E;obtain⟨_,⟨h,_⟩|⟨cap,cs,h,I,_⟩⟩:=h
 ·cases h
 ·cases h;exact⟨rfl,I.lt⟩
theorem br {k:o8} {e:o6} {S:Nat→Prop} {w w':x5} {g:Nat} {v:x4} {l:List Int} (h:aq k e w g v l) (E:am S w w') (I:∀ r,leads v r→¬S r):aq k e w' g v l:=by
 refine⟨h.1,h.2.imp id fun⟨cap,cs,h1,J,O⟩=>⟨cap,cs,h1,J.ad E (I g ⟨_,_,_,h1,rfl⟩),O⟩⟩
def cG (w:x5) (g E:Nat) (sv:x4) (ao:List Int) (k:Int) (cs:List Int):Prop:=
 (∃ aO gs,ak w g bq [sv,.int .i64 k,aO]∧aq .i64 J w gs sv ao∧aq .i64 af w E aO cs)∧(g≠E∧¬leads sv E∧aH ao≤4096)∧bV ao∧cs.length=(aH ao).toNat
theorem cG.ext {w w':x5} {g I:Nat} {sv:x4} {ao:List Int} {k:Int} {cs:List Int} (h:cG w g I sv ao k cs) (E:Ext w w'):cG w' g I sv ao k cs:=by
 obtain⟨⟨aO,gs,h1,J,O⟩,U⟩:=h;exact⟨⟨aO,gs,h1.ext E,J.ext E,O.ext E⟩,U⟩
def vI (w:x5) (l:List Int) (k E:Int) (v:x4) (w':x5):Prop:=
 Ext w w'∧
  (¬bV l→v= .tuple #[.pointer none,.int .i64 1])∧
  (bV l→4096<aH l→v= .tuple #[.pointer none,.int .i64 5])∧
  (bV l→aH l≤4096→¬cF E k→v= .tuple #[.pointer none,.int .i64 3])∧
  (bV l→aH l≤4096→cF E k→ ∃ g I sv,v= .tuple #[.pointer (some ⟨g,0,none⟩),.int .i64 0]∧w.heap.size≤g∧w.heap.size≤I∧(∀ r,leads sv r→w.heap.size≤r)∧
   cG w' g I sv l k (p9 (aH l).toNat E))
theorem sY {sv:x4} {l:List Int} {k ah:Int} {w:x5} (h:aG .i64 w sv l):O y0 k0 [sv,.int .i64 k,.int .i64 ah] w (vI w l k ah):=by
 apply k0.enter;refine (A7 h).mono ?_;rintro v ak _ ⟨au,aJ,aL,aM⟩;obtain⟨U,e,rfl,aN,he⟩:∃ (U:x4) (e:Int),v= .tuple #[.agg #[U],.int .i64 e]∧U.oneCell'=true∧
   ((e=1∧¬bV l)∨(e=5∧bV l∧4096<aH l)∨(e=0∧bV l∧aH l≤4096∧ ∃ g,w.heap.size≤g∧aq .i64 J ak g U l)):=by
  by_cases E:bV l
  ·by_cases ad:aH l≤4096
   ·obtain⟨g,U,rfl,h1,av⟩:=aM E ad;exact⟨U,0,rfl,av.ls.cells.2,.inr (.inr ⟨rfl,E,ad,g,h1,av⟩)⟩
   ·exact⟨_,_,aL E (by omega),rfl,.inr (.inl ⟨rfl,E,by omega⟩)⟩
  ·exact⟨_,_,aJ E,rfl,.inl ⟨rfl,E⟩⟩
 rw[aC (v:=.agg #[U]) rfl,aC (v:=.int .i64 e) rfl];refine bU aK.i fun bi bj bk aO aQ=>?_;refine b9 (vs:=[U]) aK.i rfl rfl (by intro u hu;simp at hu;subst hu;exact aN) aQ ?_;intro aR aT bl aU;have aw:Ext ak aR:=aO.then aT (by rintro r X rfl;omega);have ax:=au.trans aw;simp only[bC,ag];refine⟨fun aV=>⟨ax,?_⟩,fun bm=>?_⟩
 ·rcases he with⟨rfl,ai⟩|⟨rfl,E,ad⟩|⟨rfl,_⟩
  ·exact⟨fun _=>rfl,fun h=>absurd h ai,fun h=>absurd h ai,fun h=>absurd h ai⟩
  ·exact⟨fun h=>absurd E h,fun _ _=>rfl,fun _ h=>by omega,fun _ h=>by omega⟩
  ·exact absurd rfl aV
 ·obtain⟨rfl,E,ad,gs,bn,hm⟩:e=0∧bV l∧aH l≤4096∧ ∃ g,w.heap.size≤g∧aq .i64 J ak g U l:=by
   rcases he with⟨rfl,ai⟩|⟨rfl,E,ad⟩|h
   ·omega
   ·omega
   ·exact h
  have bo:=prod_bound E;refine lx.mono ?_;rintro _ bp _ ⟨rfl,al⟩;have ay:=ax.trans al;simp only[b4,cv];refine⟨fun aW=>⟨ay,fun h=>absurd E h,fun _ h=>by omega,fun _ _ _=>rfl,fun _ _ h=>by simp[h] at aW⟩,fun aX=>?_⟩;have aY:cF ah k:=by simpa using aX
  simp only[aB,aS];intro az am _ _;have aZ:=ay.trans am;have aj:=(aw.trans al).trans am;have aA:=(aU.ext al).ext am;rw[bN aK.p aK.i rfl aA.range,bN aK.p aK.i rfl aA.range];have br:=au.size;have bt:=aj.size;have aD:((aH l).toNat:Int)=aH l:=by omega
  have aE:∀ {ab:x5} {Z:x4} {ac:Nat},Ext az ab→az.heap.size≤ac→aq .i64 af ab ac Z (p9 (aH l).toNat ah)→
    I y0 (Z3 bq #[(0,.agg #[U]),(1,.int .i64 k),(2,Z)]) ab fun a1=>aa y0 (Z5 bq a1) ab fun a2 aF=>vI w l k ah (.tuple #[a2,.int .i64 0]) aF:=by
   intro ab Z ac Y aI X;rw[cR (cs:=#[U,.int .i64 k,Z]) (by
    obtain⟨_,_,_,_,_,rfl,_⟩:=X.ls;obtain⟨_,_,_,_,_,rfl,_⟩:=hm.ls;kernel_rfl)]
   refine cc fun g aF bu ao a6=>?_;have bw:=Y.size;have a7:leads Z ac:=by
    obtain⟨bx,⟨_,a8⟩|⟨cap,cs,rfl,_⟩⟩:=X
    ·simp at a8;omega
    ·exact⟨_,_,_,rfl,rfl⟩
   have bz:=(b1 X a7).2;refine⟨(aZ.trans Y).trans ao,fun h=>absurd E h,fun _ h=>by omega,fun _ _ h=>absurd aY h,fun _ _ _=>⟨g,ac,U,rfl,by omega,by omega,fun r ba=>?_,⟨Z,gs,a6,((hm.ext aj).ext Y).ext ao,X.ext ao⟩,⟨by omega,fun bb=>?_,ad⟩,E,by simp⟩⟩
   ·have:=(b1 hm ba).1;omega
   ·have:=b1 hm bb;omega
  constructor
  ·refine dT ae.u af.i rfl fun bc aP bd be V ap=>⟨.inl V,?_⟩;refine (mY ((hm.ext aj).ext V).ls E).mono ?_;rintro _ bf _ ⟨rfl,W⟩;refine⟨.inl (V.trans W),?_⟩;rw[←aD];refine (vH (ap.ext W).ls (by omega)).mono ?_;rintro Z ab _ ⟨Y,ac,aI,X⟩;have bg:=V.size;have bh:=W.size;exact⟨.inl ((V.trans W).trans Y),aE ((V.trans W).trans Y) (by omega) X⟩
  ·refine (mY (hm.ext aj).ls E).mono ?_;rintro _ bd _ ⟨rfl,V⟩;refine⟨.inl V,?_⟩;refine dT ae.u af.i rfl fun bc aP bf be W ap=>⟨.inl (V.trans W),?_⟩;rw[←aD];refine (vH ap.ls (by omega)).mono ?_;rintro Z ab _ ⟨Y,ac,aI,X⟩;have bg:=V.size;have bh:=W.size;exact⟨.inl ((V.trans W).trans Y),aE ((V.trans W).trans Y) (by omega) X⟩
end Go.Proofs.YtgbkinibgjmodaaGreatDoor
namespace Go.Proofs.YtgbkinibgjmodaaGreatDoor
open Go Go.Vc Go.RowKit Go.Proofs Go.Proofs.Tryz
set_option maxRecDepth 100000
theorem lz {w:x5} {g:Nat} {e:o6} {cs E:List x4} {o:Nat} (h:ak w g e cs) (I:∀ j v,E[j]? =some v→cs[o+j]? =some v):w.rangeAt g o E:=fun j v J=>h.cell (I j v J)
theorem vJ {w:x5} {g U:Nat} {sv I:x4} {ao t:List Int} {k:Int} {cs:List Int} (h:cG w g U sv ao k cs) (V:aG .i64 w I t):
  O y0 mv [.pointer (some ⟨g,0,none⟩),I] w fun v w'=>v=iL ao t∧Ext w w':=by
 obtain⟨⟨aO,gs,W,hm,Y⟩,_,X,_⟩:=h;apply mv.enter;rw[b8 bB.u];simp only[c9,aU];rw[az,ah bq.p rfl,bN (cs:=[sv]) aK.p aK.i rfl (lz W (by
  intro j v E
  match j,E with
  |0,E=>exact E))]
 refine (vF hm.ls V X).mono ?_;rintro _ Z _ ⟨rfl,J⟩;unfold iL;cases cr ao t 0 with
 |none=>rw[aC (v:=.int .i64 0) rfl,aC (v:=.int .i64 3) rfl];exact⟨rfl,J⟩
 |some n=>rw[aC (v:=.int .i64 n) rfl,aC (v:=.int .i64 0) rfl];exact⟨rfl,J⟩
def mZ (ao t cs:List Int):x4:=match cr ao t 0 with
 |some n=>.tuple #[.int .i64 (cs.getD n.toNat 0),.int .i64 0]
 |none=>.tuple #[.int .i64 0,.int .i64 3]
theorem vK {ao t cs:List Int} {n:Int} (E:bV ao) (I:cs.length=(aH ao).toNat) (h:cr ao t 0=some n):n=(n.toNat:Int)∧n.toNat<cs.length:=by
 have:=ly E.2 h;simp only[Int.zero_mul,Int.zero_add,Int.one_mul] at this;omega
theorem sZ {w:x5} {g U:Nat} {sv I:x4} {ao t:List Int} {k:Int} {cs:List Int} (h:cG w g U sv ao k cs) (V:aG .i64 w I t):
  O y0 ld [.pointer (some ⟨g,0,none⟩),I] w fun v w'=>v=mZ ao t cs∧Ext w w':=by
 apply ld.enter;refine (vJ h V).mono ?_;rintro _ ab _ ⟨rfl,E⟩;obtain⟨⟨aO,gs,W,hm,X⟩,_,Y,Z⟩:=h.ext E;unfold iL mZ;cases hi:cr ao t 0 with
 |none=>
  rw[aC (v:=.int .i64 0) rfl,aC (v:=.int .i64 3) rfl];simp only[bC,ag];exact⟨fun _=>⟨trivial,E⟩,fun h=>by simp at h⟩
 |some n=>
  obtain⟨aa,J⟩:=vK Y Z hi;rw[aC (v:=.int .i64 n) rfl,aC (v:=.int .i64 0) rfl];simp only[bC,ag];refine⟨fun h=>absurd rfl h,fun _=>?_⟩;rw[az,ah bq.p rfl,al (by kernel_rfl) (W.cell (o:=0+2) rfl),
   eV aa ae.u af.i (by kernel_rfl) X.ls (x3 J)]
  refine⟨?_,E⟩;rw[p8,x3 J];rfl
def q7 (ao t:List Int) (k c:Int) (cs:List Int):List Int:=match cr ao t 0 with
 |some n=>if cF c k then cs.set n.toNat c else cs
 |none=>cs
def vL (ao t:List Int) (k c:Int):Int:=match cr ao t 0 with
 |some _=>if cF c k then 0 else 3
 |none=>3
theorem A9 {w:x5} {g J:Nat} {sv Z:x4} {ao t:List Int} {k c:Int} {cs:List Int} (h:cG w g J sv ao k cs) (aj:aG .i64 w Z t):
  O y0 ob [.pointer (some ⟨g,0,none⟩),Z,.int .i64 c] w fun v w'=>v= .int .i64 (vL ao t k c)∧am (fun r=>r=J) w w'∧cG w' g J sv ao k (q7 ao t k c cs):=by
 apply ob.enter;refine (vJ h aj).mono ?_;rintro _ aA _ ⟨rfl,E⟩;have h1:=h.ext E;obtain⟨⟨aO,gs,I,hm,U⟩,_,V,W⟩:=h1;unfold iL vL q7;cases hi:cr ao t 0 with
 |none=>
  rw[aC (v:=.int .i64 0) rfl,aC (v:=.int .i64 3) rfl];simp only[bC,ag];exact⟨fun _=>⟨trivial,E.ad _,h.ext E⟩,fun h=>by simp at h⟩
 |some n=>
  obtain⟨aB,aD⟩:=vK V W hi;rw[aC (v:=.int .i64 n) rfl,aC (v:=.int .i64 0) rfl];simp only[bC,ag];refine⟨fun h=>absurd rfl h,fun _=>?_⟩;rw[az,ah bq.p rfl,al (by kernel_rfl) (I.cell (o:=0+1) rfl)];refine lx.mono ?_;rintro _ aE _ ⟨rfl,X⟩;have aa:=(h.ext E).ext X;by_cases ab:cF c k
  ·simp only[ab,decide_true,b4,Y7,aU,if_true];obtain⟨⟨aO,gs,I,hm,U⟩,⟨ak,ac⟩,V,W⟩:=aa;have aF:=U;obtain⟨aH,⟨rfl,aI⟩|⟨cap,full,rfl,ap,aq,au,av,ai⟩⟩:=U
   ·omega
   ·rw[az,ah bq.p rfl,al (by kernel_rfl) (I.cell (o:=0+2) rfl),
     vm (i:=n) ae.u af.i (by omega) (by omega) (fun _=>rfl)]
    refine bH af.i rfl rfl ap (by omega) ?_;intro aJ Y aK aw;refine⟨trivial,((E.trans X).ad _).trans Y,⟨_,gs,I.ad Y (by omega),br hm Y (fun r ax ay=>ac.1 (ay▸ax)),?_⟩,⟨ak,ac⟩,V,by simp[W]⟩;refine⟨by simp,.inr ⟨cap,full.set (0+n.toNat*1) (.int .i64 c),?_,aw,by simpa using aq,au,by simpa using av,?_⟩⟩
    ·simp
    ·simp only[U1,V5,T0] at ai ⊢;rw[List.take_set,ai,ints,ints,List.map_set]
  ·simp only[ab,decide_false,b4,Y8,bm,if_false];exact⟨trivial,(E.trans X).ad _,aa⟩
def cd (b:Int):Bool:=decide (b=32∨b=9∨b=10∨b=13)
def bF (b:Int):Bool:=decide (33≤b∧b≤126)
def lA:Nat→List Int→List (List Int)×Bool
 |0,_=>([],true)
 |n+1,p=>
  match p.dropWhile cd with
  |[]=>([],true)
  |b::q=>
   if bF b then
    match (b::q).dropWhile bF with
    |[]=>([(b::q).takeWhile bF],true)
    |c::r=>if cd c then (((b::q).takeWhile bF)::(lA n (c::r)).1,(lA n (c::r)).2) else ([],false)
   else ([],false)
def lex (p:List Int):List (List Int)×Bool:=lA (p.length+1) p
theorem m3 (f:Int→Bool):∀ (l:List Int),(l.dropWhile f).length≤l.length
 |[]=>o7 _
 |x::l=>by
  rw[List.dropWhile_cons];split
  ·exact Y5 (m3 f l) (Nat.le_succ _)
  ·exact o7 _
theorem q8 {f:Int→Bool} {x:Int} {l:List Int} (h:f x=true):((x::l).dropWhile f).length≤l.length:=by
 rw[List.dropWhile_cons,if_pos h];exact m3 f l
theorem vM:∀ {n m:Nat} {p:List Int},p.length<n→p.length<m→lA n p=lA m p
 |n+1,m+1,p,U,hm=>by
  unfold lA;have h1:=m3 cd p;cases J:p.dropWhile cd with
  |nil=>rfl
  |cons b q=>
   rw[J] at h1;simp only;by_cases E:bF b=true
   ·rw[if_pos E,if_pos E];have I:=q8 (l:=q) E;cases O:(b::q).dropWhile bF with
    |nil=>rfl
    |cons c r=>
     rw[O] at I;simp only[j9] at h1 I;simp only;rw[vM (n:=n) (m:=m) (p:=c::r) (by rw[j9];omega) (by rw[j9];omega)]
   ·rw[if_neg E,if_neg E]
theorem h3 (p:List Int):lex p=match p.dropWhile cd with
  |[]=>([],true)
  |b::q=>
   if bF b then
    match (b::q).dropWhile bF with
    |[]=>([(b::q).takeWhile bF],true)
    |c::r=>if cd c then (((b::q).takeWhile bF)::(lex (c::r)).1,(lex (c::r)).2) else ([],false)
   else ([],false):=by
 unfold lex
 conv=>lhs;unfold lA
 have h1:=m3 cd p;cases J:p.dropWhile cd with
 |nil=>rfl
 |cons b q=>
  rw[J] at h1;simp only;by_cases E:bF b=true
  ·rw[if_pos E,if_pos E];have I:=q8 (l:=q) E;cases O:(b::q).dropWhile bF with
   |nil=>rfl
   |cons c r=>
    rw[O] at I;simp only[j9] at h1 I;simp only;rw[vM (n:=p.length) (m:=(c::r).length+1) (p:=c::r) (by rw[j9];omega) (by omega)]
  ·rw[if_neg E,if_neg E]
theorem pv:∀ (n:Nat) (p:List Int),p.length≤n→(lex p).1.length≤p.length
 |n,p,V=>by
  rw[h3];have h1:=m3 cd p;cases O:p.dropWhile cd with
  |nil=>simp
  |cons b q=>
   rw[O] at h1;simp only;by_cases E:bF b=true
   ·rw[if_pos E];have I:=q8 (l:=q) E;cases U:(b::q).dropWhile bF with
    |nil=>simp only[j9,List.length_nil] at h1 ⊢;omega
    |cons c r=>
     rw[U] at I;simp only[j9] at h1 I;simp only;by_cases J:cd c=true
     ·rw[if_pos J]
      match n with
      |0=>omega
      |n+1=>
       have:=pv n (c::r) (by rw[j9];omega);simp only[j9] at this ⊢;omega
     ·rw[if_neg J];simp
   ·rw[if_neg E];simp
theorem q9:∀ (n:Nat) (p:List Int),p.length≤n→ ∀ w∈(lex p).1,w≠[]∧(∀ b∈w,bF b=true)∧w.length≤p.length
 |n,p,Y,w,hw=>by
  rw[h3] at hw;have h1:=m3 cd p;cases I:p.dropWhile cd with
  |nil=>rw[I] at hw;simp at hw
  |cons b q=>
   rw[I] at h1 hw;simp only at hw;have W:(b::q).length≤p.length:=h1;by_cases E:bF b=true
   ·rw[if_pos E] at hw;have J:=q8 (l:=q) E;have O:(b::q).takeWhile bF≠[]∧(∀ x∈(b::q).takeWhile bF,bF x=true)∧((b::q).takeWhile bF).length≤p.length:=
     ⟨by rw[List.takeWhile_cons,if_pos E];simp,fun x X=>List.all_takeWhile (l:=b::q) (p:=bF) |> List.all_eq_true.1 |> fun h=>h x X,Y5 (List.takeWhile_sublist _).length_le W⟩
    cases U:(b::q).dropWhile bF with
    |nil=>
     rw[U] at hw;simp only[o9] at hw;subst hw;exact O
    |cons c r=>
     rw[U] at J hw;simp only[j9] at h1 J;simp only at hw;by_cases V:cd c=true
     ·rw[if_pos V] at hw;rcases U6.1 hw with rfl|hw
      ·exact O
      ·match n with
       |0=>omega
       |n+1=>
        have:=q9 n (c::r) (by rw[j9];omega) w hw;exact⟨this.1,this.2.1,Y5 this.2.2 (by rw[j9];omega)⟩
     ·rw[if_neg V] at hw;simp at hw
   ·rw[if_neg E] at hw;simp at hw
def ap:Int:=4611686018427387904
def eW (b:Int):Bool:=decide (48≤b∧b≤57)
def dZ (n b:Int):Int:=min ap (10*n+(b-48))
def h4:List Int→Option Int
 |[]=>none
 |l=>if l.all eW then some (l.foldl dZ 0) else none
def eX:List Int→Option Int
 |45::l=>(h4 l).map fun n=>-n
 |l=>h4 l
theorem Ba {n b:Int} (I:0≤n) (E:eW b=true):0≤dZ n b∧dZ n b≤ap:=by
 have E:=of_decide_eq_true E;unfold dZ ap;omega
theorem ra:∀ {l:List Int} {n:Int},l.all eW=true→0≤n∧n≤ap→0≤l.foldl dZ n∧l.foldl dZ n≤ap
 |[],n,_,E=>E
 |b::l,n,h,E=>by
  rw[List.all_cons,V7] at h;exact ra (l:=l) h.2 (Ba E.1 h.1)
structure ay where
 toks:List (List Int)
 told:Int
 big:Bool
 shared:List (List Int×List (List Int×Int))
deriving DecidableEq
def dd (s:ay):Option (List Int×ay):=match s.toks with
 |[]=>none
 |w::l=>some (w,{s with toks:=l})
def a8 (lo hi:Int) (s:ay):Option (Int×ay):=match dd s with
 |none=>none
 |some (w,s)=>match eX w with
  |none=>none
  |some n=>if lo≤n∧n≤hi then some (n,s) else none
def aY (b:Bool) (s:ay):ay:={s with big:=s.big||b}
def ck {α:Type} (f:List α→ay→Option (α×ay)):Nat→List α→ay→Option (List α×ay)
 |0,acc,s=>some (acc,s)
 |n+1,acc,s=>match f acc s with
  |none=>none
  |some (a,s)=>ck f n (acc++[a]) s
def ea (n:Int) (E:Nat) (s:ay):Option (List Int×ay):=ck (fun acc s=>match a8 0 (n-1) s with
 |none=>none
 |some (v,s)=>if v∈acc then none else some (v,s)) E [] s
def gz:List Int→List Int→ay→Option (List Int×ay)
 |[],acc,s=>some (acc,s)
 |k::l,acc,s=>match a8 0 (k-1) s with
  |none=>none
  |some (v,s)=>gz l (acc++[v]) s
def de (sizes:List Int) (acc:List (List Int×Int)) (s:ay):Option ((List Int×Int)×ay):=match gz sizes [] s with
 |none=>none
 |some (t,s)=>match a8 0 ap s with
  |none=>none
  |some (c,s)=>if t∈acc.map (·.1) then none else some ((t,c),s)
def df (sizes:List Int) (s:ay):Option (List (List Int×Int)×ay):=match a8 (-ap) ap s with
 |none=>none
 |some (n,s)=>
  if n<0 then match s.shared[(-n-1).toNat]? with
   |none=>none
   |some (z,l)=>if z=sizes then some (l,s) else none
  else ck (de sizes) n.toNat [] (aY (decide (16384<min (s.told+n) ap)) {s with told:=min (s.told+n) ap})
def cS (sizes:List Int):Bool:=decide (4096<aH (sizes.map fun k=>min k 4097))
structure ca where
 scope:List Int
 sizes:List Int
 other:Int
 lines:List (List Int×Int)
deriving DecidableEq
def cC (all:List Int) (s:ay):Option (ca×ay):=match a8 (-ap) ap s with
 |none=>none
 |some (a,s)=>match ea all.length a.natAbs s with
  |none=>none
  |some (scope,s)=>
   let sizes:=scope.map fun v=>all.getD v.toNat 0
   match a8 0 ap (aY (decide (6<a.natAbs)||cS sizes) s) with
   |none=>none
   |some (other,s)=>match df sizes s with
    |none=>none
    |some (lines,s)=>some (⟨scope,sizes,other,lines⟩,if a<0 then {s with shared:=s.shared++[(sizes,lines)]} else s)
def eK (most:Int) (_:List Int) (s:ay):Option (Int×ay):=match a8 1 most s with
 |none=>none
 |some (z,s)=>some (z,aY (decide (32<z)) s)
structure bW where
 name:List Int
 k:Int
 sizes:List Int
 funs:List ca
deriving DecidableEq
def fN (s:ay):Option (bW×ay):=match dd s with
 |none=>none
 |some (name,s)=>match a8 1 ap (aY (decide (64<name.length)) s) with
  |none=>none
  |some (n,s)=>match a8 1 ap (aY (decide (64<n)) s) with
   |none=>none
   |some (most,s)=>match a8 0 ap s with
    |none=>none
    |some (E,s)=>match a8 1 ap (aY (decide (256<E)) s) with
     |none=>none
     |some (k,s)=>match ck (eK most) n.toNat [] (aY (decide (2147483648<k)) s) with
      |none=>none
      |some (sizes,s)=>match ck (fun _ s=>cC sizes s) E.toNat [] s with
       |none=>none
       |some (funs,s)=>some (⟨name,k,sizes,funs⟩,s)
def e8 (p:List Int):Option bW:=if 65536<p.length then none else match fN ⟨(lex p).1,0,false,[]⟩ with
 |none=>none
 |some (f,s)=>if s.toks=[]∧(lex p).2=true∧s.big=false then some f else none
def kA (n:Int) (E:Bool) (v:Int):Prop:=0≤n∧n≤4611686018427387909∧(E=true→v=ap)∧(E=false→v=min ap n)
theorem Bb {n b v:Int} {E:Bool} (h:kA n E v) (V:48≤b∧b≤57):
  kA (if E=true∨461168601842738790<n then n else 10*n+(b-48)) (E||decide (461168601842738790<n)) (dZ v b):=by
 obtain⟨h1,J,O,U⟩:=h;unfold dZ kA ap at*;cases E with
 |true=>
  have:=O rfl;rw[if_pos (.inl rfl)];exact⟨h1,J,fun _=>by omega,fun h=>by cases h⟩
 |false=>
  have:=U rfl;by_cases I:461168601842738790<n
  ·rw[if_pos (.inr I),decide_eq_true I];exact⟨h1,J,fun _=>by omega,fun h=>by cases h⟩
  ·rw[if_neg (by simp[I]),decide_eq_false I];exact⟨by omega,by omega,(fun h=>by cases h),fun _=>by omega⟩
theorem Bc:kA 0 false 0:=by unfold kA ap;exact⟨by omega,by omega,(fun h=>by cases h),fun _=>by omega⟩
theorem Bd {n v:Int} {E:Bool} (h:kA n E v):v=if E=true∨4611686018427387904<n then 4611686018427387904 else n:=by
 obtain⟨h1,U,J,O⟩:=h;unfold ap at*;cases E with
 |true=>rw[if_pos (.inl rfl)];exact J rfl
 |false=>
  have:=O rfl;by_cases I:4611686018427387904<n
  ·rw[if_pos (.inr I)];omega
  ·rw[if_neg (by simp[I])];omega
structure Cell where
 v:Int
 st:Nat
structure iM where
 i:Nat
 c:Cell
structure rb where
 olds:Nat
 cells:Nat
 st:Nat
structure aR where
 cells:List Cell
 olds:List iM
 marks:List rb
 kB:Nat
def aR.b2 (t:aR):List Int:=t.cells.map (·.v)
def aR.set (t:aR) (i:Nat) (x:Int):aR:=match t.cells[i]? with
 |none=>t
 |some c=>match t.marks.getLast? with
  |none=>{t with cells:=t.cells.set i ⟨x,c.st⟩}
  |some m=>if c.st<m.st∧i<m.cells then {t with olds:=t.olds++[⟨i,c⟩],cells:=t.cells.set i ⟨x,m.st⟩} else {t with cells:=t.cells.set i ⟨x,c.st⟩}
def aR.grow (t:aR) (n:Nat):aR:={t with cells:=t.cells++p9 n ⟨0,0⟩}
def back (os:List iM) (cs:List Cell):List Cell:=os.foldr (fun o cs=>cs.set o.i o.c) cs
theorem pw:∀ (os:List iM) (cs:List Cell),(back os cs).length=cs.length
 |[],_=>rfl
 |o::os,cs=>by
  have:=pw os cs;show ((back os cs).set o.i o.c).length=_;rw[U1,this]
theorem back_append (a b:List iM) (cs:List Cell):back (a++b) cs=back a (back b cs):=by unfold back;rw[List.foldr_append]
theorem s3:∀ {os:List iM} {cs:List Cell} {n:Nat},(back os cs).take n=back (os.filter fun o=>decide (o.i<n)) (cs.take n)
 |[],cs,n=>rfl
 |o::os,cs,n=>by
  show ((back os cs).set o.i o.c).take n=_;by_cases h:o.i<n
  ·rw[List.filter_cons_of_pos (by simpa using h),List.take_set,s3];rfl
  ·rw[List.filter_cons_of_neg (by simpa using h),List.take_set_of_le (by omega),s3]
theorem vN {os:List iM} {cs:List Cell} {n:Nat} (h:∀ o∈os,o.i<n):(back os cs).take n=back os (cs.take n):=by
 rw[s3,List.filter_eq_self.2 fun o E=>by simpa using h o E]
theorem vO:∀ {os:List iM} {cs E:List Cell} {i:Nat},cs.length=E.length→(∃ o∈os,o.i=i)→(back os cs)[i]? =(back os E)[i]?
 |[],_,_,_,_,⟨_,h,_⟩=>by cases h
 |o::os,cs,E,i,J,hm=>by
  show ((back os cs).set o.i o.c)[i]? =((back os E).set o.i o.c)[i]?;rw[X8,X8];by_cases h:o.i=i
  ·rw[if_pos h,if_pos h,pw,pw,J]
  ·rw[if_neg h,if_neg h];obtain⟨x,I,he⟩:=hm;rcases U6.1 I with rfl|I
   ·exact absurd he h
   ·exact vO J ⟨x,I,he⟩
theorem vP:∀ {os:List iM} {cs E:List Cell} {i:Nat},cs[i]? =E[i]? →cs.length=E.length→(back os cs)[i]? =(back os E)[i]?
 |[],_,_,_,h,_=>h
 |o::os,cs,E,i,h,I=>by
  show ((back os cs).set o.i o.c)[i]? =((back os E).set o.i o.c)[i]?;rw[X8,X8,pw,pw,I,vP h I]
def hq:aR→List aR→Prop
 |t,[]=>t.marks=[]∧t.olds=[]∧ ∀ c∈t.cells,c.st≤t.kB
 |t,s::h=>hq s h∧(∀ c∈t.cells,c.st≤t.kB)∧ ∃ m new,t.marks=s.marks++[m]∧m.olds=s.olds.length∧m.cells=s.cells.length∧t.olds=s.olds++new∧m.cells≤t.cells.length∧(back new t.cells).take m.cells=s.cells∧
   (∀ c∈s.cells,c.st<m.st)∧(∀ c∈t.cells,c.st≤m.st)∧(∀ (i:Nat) c,i<m.cells→t.cells[i]? =some c→c.st=m.st→ ∃ o∈new,o.i=i)∧(∀ o∈new,o.i<m.cells)∧m.st≤t.kB∧s.kB≤t.kB
theorem hq.grow {h:List aR} {t:aR} {n:Nat} (I:hq t h):hq (t.grow n) h:=by
 cases h with
 |nil=>
  refine⟨I.1,I.2.1,fun c E=>?_⟩;rcases n9.1 E with E|E
  ·exact I.2.2 c E
  ·rw[(List.mem_replicate.1 E).2];exact Y1 _
 |cons s h=>
  obtain⟨h1,U,m,new,V,W,a3,a4,a5,X,Y,Z,a9,J,aa,ab⟩:=I;have O:∀ {b:Nat},(∀ c∈t.cells,c.st≤b)→ ∀ c∈(t.grow n).cells,c.st≤b:=fun ac c E=>by
   rcases n9.1 E with E|E
   ·exact ac c E
   ·rw[(List.mem_replicate.1 E).2];exact Y1 _
  refine⟨h1,O U,m,new,V,W,a3,a4,by show m.cells≤(t.cells++_).length;rw[o5];omega,?_,Y,O Z,fun i c hi E he=>?_,J,aa,ab⟩
  ·show (back new (t.cells++_)).take m.cells=_;rw[vN J,List.take_append_of_le_length a5,←vN J];exact X
  ·have E:(t.cells++p9 n ⟨0,0⟩)[i]? =some c:=E;rw[Y0 (by omega)] at E;exact a9 i c hi E he
theorem Be {s:aR} {m:rb} {l:List rb} (h:l=s.marks++[m]):l.getLast? =some m:=by rw[h,List.getLast?_concat]
theorem hq.set {h:List aR} {t:aR} {i:Nat} {x:Int} (aa:hq t h):hq (t.set i x) h:=by
 unfold aR.set;cases U:t.cells[i]? with
 |none=>exact aa
 |some c=>
  have ae:=(u4.1 U).1;have X:=u5 U;have V:∀ {b st:Nat},(∀ c∈t.cells,c.st≤b)→st≤b→ ∀ d∈t.cells.set i ⟨x,st⟩,d.st≤b:=fun al ab d E=>by
   rcases V9 E with E|rfl
   ·exact al d E
   ·exact ab
  cases h with
  |nil=>
   obtain⟨h1,W,af⟩:=aa;simp only[h1,List.getLast?_nil];exact⟨rfl,W,V af (af c X)⟩
  |cons s h=>
   obtain⟨h1,W,m,new,ac,ag,a3,a4,a5,ah,ai,Y,a9,aj,ad,ak⟩:=aa;simp only[Be ac];by_cases Z:c.st<m.st∧i<m.cells
   ·rw[if_pos Z];refine⟨h1,V W ad,m,new++[⟨i,c⟩],ac,ag,a3,by show t.olds++_=_;rw[a4,V0],by show m.cells≤(t.cells.set i _).length;rw[U1];exact a5,?_,ai,V Y (o7 _),fun j d I E he=>?_,fun o O=>?_,ad,ak⟩
    ·show (back (new++[⟨i,c⟩]) (t.cells.set i _)).take m.cells=_;rw[back_append];have:back [⟨i,c⟩] (t.cells.set i ⟨x,m.st⟩)=t.cells:=by
      show (t.cells.set i _).set i c=_;rw[List.set_set];refine W0 fun j=>?_;rw[X8];by_cases I:i=j
      ·subst I;rw[if_pos rfl,if_pos ae,U]
      ·rw[if_neg I]
     rw[this];exact ah
    ·have E:(t.cells.set i ⟨x,m.st⟩)[j]? =some d:=E;by_cases J:i=j
     ·exact⟨⟨i,c⟩,by simp,J⟩
     ·rw[X8,if_neg J] at E;obtain⟨o,O,he⟩:=a9 j d I E he;exact⟨o,List.mem_append_left _ O,he⟩
    ·rcases n9.1 O with O|O
     ·exact aj o O
     ·rw[o9.1 O];exact Z.2
   ·rw[if_neg Z];refine⟨h1,V W (W c X),m,new,ac,ag,a3,a4,by show m.cells≤(t.cells.set i _).length;rw[U1];exact a5,?_,ai,V Y (Y c X),fun j d I E he=>?_,aj,ad,ak⟩
    ·rw[←ah];show (back new (t.cells.set i _)).take m.cells=_;refine W0 fun j=>?_;by_cases I:j<m.cells
     ·rw[Z8 I,Z8 I];by_cases J:i=j
      ·subst J;have ab:c.st=m.st:=by
        have:=Y c X;have:¬c.st<m.st:=fun am=>Z ⟨am,I⟩;omega
       exact vO (by rw[U1]) (a9 i c I U ab)
      ·exact vP (by rw[X8,if_neg J]) (by rw[U1])
     ·rw[Z7 (by rw[l7];omega),Z7 (by rw[l7];omega)]
    ·have E:(t.cells.set i ⟨x,c.st⟩)[j]? =some d:=E;by_cases J:i=j
     ·subst J;rw[X8,if_pos rfl,if_pos ae] at E;cases E;exact a9 i c I U he
     ·rw[X8,if_neg J] at E;exact a9 j d I E he
theorem aR.px {t:aR} {i:Nat} {x:Int}:(t.set i x).b2=t.b2.set i x:=by
 unfold aR.set aR.b2;cases E:t.cells[i]? with
 |none=>rw[List.set_eq_of_length_le (by rw[o3];exact List.getElem?_eq_none_iff.1 E)]
 |some c=>
  simp only;cases t.marks.getLast? with
  |none=>simp only;rw[List.map_set]
  |some m=>simp only;split <;> rw[List.map_set]
theorem aR.Bf {t:aR} {n:Nat}:(t.grow n).b2=t.b2++p9 n 0:=by
 unfold aR.grow aR.b2;rw[j0,List.map_replicate]
end Go.Proofs.YtgbkinibgjmodaaGreatDoor
