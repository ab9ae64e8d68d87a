/- own texts, made small by a tool (wip/ holds them as they were written): no statement of the seat. -/
import Derived.Test.YtgbkinibgjmodaaGreatDoorYd
set_option linter.unusedVariables false
set_option linter.unusedSimpArgs false
set_option linter.unnecessarySimpa false
open Array renaming getElem?_eq_some_iff→l6,getElem?_toList→U8
open BitVec renaming ofInt→W9
open Bool renaming not_true→Y7,not_false→Y8,eq_iff_iff→W5,and_eq_true→V7,or_eq_false_iff→U4
open Decidable renaming not_not→X4
open Go renaming Value→x4,World→x5,Builtin→u7,TypeId→o6,IntKind→o8,Program→X5,Oper→U9
open Go.Addr renaming add_mid→U5
open Go.Builtin renaming len_→u6,append_→r8,min_→T1
open Go.Instr renaming loadAt→x1,fieldAt→x2,storeAt→x6,indexAt→x7,extract→x8,buildSlice→u9,alloc→n0,sliceAt→j4,build→Z3,box→Z5,index→Y2,lookup→V3,makeSlice→U7
open Go.IntKind renaming i64→X3,u64→V2
open Go.Op renaming unary→Z4
open Go.Proofs.Tryz renaming prog→y0
open Go.Result renaming andThen→Y6
open Go.Sem renaming run_bind→Y4,run_pure→X0
open Go.Sort renaming Holds→U3
open Go.Value renaming int→X7
open Int renaming toNat_natCast→c7
open List renaming getElem?_eq_getElem→x3,getElem?_eq_some_iff→u4,mem_of_getElem?→u5,getElem?_map→r9,getD_eq_getElem?_getD→p8,replicate→p9,length_map→o3,take_add_one→o4,length_append→o5,mem_singleton→o9,mem_append→n9,take_length→l5,length_take→l7,mem_map→l9,map_append→j0,eq_nil_of_length_eq_zero→j5,length_cons→j9,take_of_length_le→Z1,getElem?_eq_none→Z7,getElem?_take_of_lt→Z8,getElem?_append_left→Y0,getElem?_append_right→Y3,mem_iff_getElem?→X1,drop_eq_getElem_cons→X2,getElem?_set→X8,flatMap_cons→X9,ext_getElem?→W0,range→W3,pairwise_iff_getElem→W8,append_assoc→V0,length→V4,length_eq_one_iff→V6,mem_or_eq_of_mem_set→V9,length_set→U1,append_nil→U2,mem_cons→U6,set_append_right→T2,length_singleton→T3
open Nat renaming le_refl→o7,zero_le→Y1,le_trans→Y5,mul_le_mul_right→X6,sub_self→W7,add_mul→V1,zero_add→V5,mul_one→T0
open Option renaming some→j6,toList_some→c8,isNone_some→c9,map_some→Z0,map_eq_some_iff→Z6,isNone_none→Y9,map→W6,getD_some→T4
open Option.some renaming inj→Z2,injEq→Z9
open Prod.mk renaming injEq→V8
namespace Go.Proofs.YtgbkinibgjmodaaGreatDoor
open Go Go.Vc Go.RowKit Go.Proofs Go.Proofs.Tryz
set_option maxRecDepth 100000
theorem yF {w:x5} {ax:Nat} {A:av} {t:aR} (h:c4 w ax A t):O y0 mI [.pointer (some ⟨ax,0,none⟩)] w fun v w'=>v= .int .i64 (t.cells.length:Int)∧Ext w w':=by
 obtain⟨I,J,go,U,aO,V,W,h1,E,X,Y,Z⟩:=h;apply mI.enter;rw[b8 dm.u];simp only[c9,aU];rw[az,ah cX.p rfl,al (by kernel_rfl) (h1.cell (o:=0+0) rfl),eb dn.u E];exact⟨rfl,Ext.refl _⟩
theorem yG {w:x5} {ax:Nat} {A:av} {t:aR} {i:Int} (h:c4 w ax A t):O y0 mr [.pointer (some ⟨ax,0,none⟩),.int .i64 i] w fun v w'=>v= .bool (decide (0≤i∧i<t.cells.length))∧Ext w w':=by
 apply mr.enter;refine aV (fun v E=>v= .bool (decide (0≤i∧i<t.cells.length))∧Ext w E) (fun _ _ h=>h) ?_;intro V I;rw[cw,ag];refine⟨fun J=>?_,fun J=>I _ _ ⟨by rw[decide_eq_false];omega,Ext.refl _⟩⟩;refine (yF h).mono ?_;rintro _ E _ ⟨rfl,U⟩;rw[au];refine I _ _ ⟨?_,U⟩;congr 1;rw[W5,decide_eq_true_eq,decide_eq_true_eq];exact⟨fun h=>⟨by omega,h⟩,fun h=>h.2⟩
theorem Fa {w:x5} {ax:Nat} {A:av} {t:aR} {i:Nat} {y:Int} {c:Cell} (h:c4 w ax A t) (U:y=(i:Int)) (E:t.cells[i]? =some c):O y0 fV [.pointer (some ⟨ax,0,none⟩),.int .i64 y] w fun v w'=>v= .int .i64 c.v∧Ext w w':=by
 have V:=(u4.1 E).1;apply fV.enter;refine (yG h).mono ?_;rintro _ W _ ⟨rfl,I⟩;rw[decide_eq_true (by omega),b4,Y7,aU];obtain⟨X,Y,go,Z,aO,aa,ab,h1,J,ac,ad,ae⟩:=h.ext I;rw[az,ah cX.p rfl,al (by kernel_rfl) (h1.cell (o:=0+0) rfl),cT U dn.u du.i J V,ah du.p rfl,al (by kernel_rfl) (J.range E 0 _ rfl)];exact⟨rfl,I⟩
theorem lP {w:x5} {ax:Nat} {A:av} {t:aR} {i:Nat} {y x:Int} (h:c4 w ax A t) (I:y=(i:Int)) (E:t.b2[i]? =some x):O y0 fV [.pointer (some ⟨ax,0,none⟩),.int .i64 y] w fun v w'=>v= .int .i64 x∧Ext w w':=by
 unfold aR.b2 at E;rw[r9] at E;obtain⟨c,J,rfl⟩:=Z6.1 E;exact Fa h I J
def kK (t:aR):Prop:=t.cells.length≤100000000∧t.olds.length≤100000000∧t.marks.length≤100000000
theorem r4 {w:x5} {ax X go Y:Nat} {aO E I:x4} {t:aR} {x:x4} (h1:ak w ax cX [aO,E,I,x]) (O:aZ gl 2 du w X aO t.cells) (U:aZ lN 3 iG w go E t.olds) (V:aZ lO 3 dY w Y I t.marks):
  (¬leadsTo aO ax∧¬leadsTo E ax∧¬leadsTo I ax)∧(∀ r,leadsTo aO r→¬leadsTo E r∧¬leadsTo I r)∧ ∀ r,leadsTo E r→¬leadsTo aO r∧¬leadsTo I r:=by
 refine⟨⟨cn O h1 (by decide),cn U h1 (by decide),cn V h1 (by decide)⟩,fun r W=>?_,fun r W=>?_⟩
 ·obtain⟨rfl,c,J⟩:=ds O W;exact⟨cn U J (by decide),cn V J (by decide)⟩
 ·obtain⟨rfl,c,J⟩:=ds U W;exact⟨cn O J (by decide),cn V J (by decide)⟩
set_option maxHeartbeats 4000000 in
theorem r5 {w:x5} {ax:Nat} {A:av} {t:aR} {i:Nat} {y x:Int} (h:c4 w ax A t) (bF:y=(i:Int)) (aC:i<t.cells.length) (aX:kK t):O y0 gS [.pointer (some ⟨ax,0,none⟩),.int .i64 y,.int .i64 x] w fun v w'=>v= .int .i64 0∧ ∃ U,Grow A w U w'∧c4 w' ax U (t.set i x):=by
 subst bF;obtain⟨c,ac⟩:∃ c,t.cells[i]? =some c:=⟨_,x3 aC⟩;apply gS.enter;rw[b8 dm.u];simp only[c9,aU];refine (yG h).mono ?_;rintro _ aY _ ⟨rfl,aq⟩;rw[decide_eq_true (by omega),b4,Y7,aU];obtain⟨bk,aw,go,ay,aO,aD,ae,h1,bl,a1,aK,aL⟩:=id (h.ext aq);have bI:∀ {J:x5} {U:av} {W:aR} {st:Nat} {K:x5→Prop},c4 J ax U W→W.cells[i]? =some ⟨c.v,st⟩→
   (∀ V,am U J V→c4 V ax U {W with cells:=W.cells.set i ⟨x,st⟩}→K V)→
   (I y0 (aj (.pointer (some ⟨ax,0,none⟩))) J fun t77=>
   I y0 (x2 cX t77 0) J fun bJ=>
   I y0 (x1 dn bJ) J fun bK=>
   I y0 (x7 dn bK (.int .i64 (i:Int))) J fun bL=>
   I y0 (x2 du bL 0) J fun bM=>
   aa y0 (x6 af bM (.int .i64 x)) J fun(_:Unit) V=>
   K V):=by
  intro J U W st K a2 aM bO;obtain⟨a6,aw,go,ay,aO,aD,ae,ai,ao,aE,aF,aG⟩:=a2;have bP:=(u4.1 aM).1;rw[az,ah cX.p rfl,al (by kernel_rfl) (ai.cell (o:=0+0) rfl),cT rfl dn.u du.i ao bP,ah du.p rfl];obtain⟨⟨aH,a7,a8⟩,ap,_⟩:=r4 ai ao aE aF;refine ni (f:=gl) (j:=0) (a:=⟨c.v,st⟩) (a':=⟨x,st⟩) af.i rfl rfl ao aM rfl (by omega) fun V Z bQ bR=>?_;exact bO V (Z.mono fun r _ E=>aG r (.inl E)) ⟨a6,aw,go,ay,aO,aD,ae,ai.ad Z aH,bR,aE.ad Z fun r E he=>(ap r he).1 E,aF.ad Z fun r E he=>(ap r he).2 E,aG⟩
 refine dG (fun J=>∃ U W st,Grow A aY U J∧c4 J ax U W∧W.cells[i]? =some ⟨c.v,st⟩∧t.set i x={W with cells:=W.cells.set i ⟨x,st⟩}) ?_ ?_
 ·rintro J ⟨U,W,st,bS,a2,aM,ba⟩;refine bI a2 aM fun V Z a1=>⟨by trivial,U,?_,by rw[ba];exact a1⟩;exact (Grow.ext aq).trans (bS.trans ⟨Z,fun _ h=>.inl h,fun _ h=>h⟩)
 intro ci bb;rw[az,ah cX.p rfl,al (by kernel_rfl) (h1.cell (o:=0+2) rfl),eb kr.u aK,bT,ag];have bm:∀ (hm:t.marks.getLast? =none∨ ∃ m,t.marks.getLast? =some m∧¬(c.st<m.st∧i<m.cells)),t.set i x={t with cells:=t.cells.set i ⟨x,c.st⟩}:=fun hm=>by
  unfold aR.set;rw[ac];rcases hm with hm|⟨m,hm,bV⟩
  ·simp only[hm]
  ·simp only[hm];rw[if_neg bV]
 refine⟨fun cj=>?_,fun ck=>bb _ ⟨A,t,c.st,Grow.refl _ _,h.ext aq,ac,bm (.inl ?_)⟩⟩
 rotate_left
 ·rw[List.getLast?_eq_none_iff];exact j5 (by omega)
 obtain⟨m,hm⟩:∃ m,t.marks[t.marks.length-1]? =some m:=⟨_,x3 (by omega)⟩;have bn:t.marks.getLast? =some m:=by rw[List.getLast?_eq_getElem?];exact hm
 have cl:=aX.2.2;rw[az,ah cX.p rfl,al (by kernel_rfl) (h1.cell (o:=0+2) rfl),dw,wrap_i64 (by omega) (by omega),cT (i:=t.marks.length-1) (by omega) kr.u dY.i aK (by omega),bN dY.p dY.i rfl (aK.range hm)];refine bU dY.i fun aP J cm bo bW=>?_;refine b9 (vs:=lO m) dY.i rfl rfl (by intro v aI;simp[lO] at aI;rcases aI with rfl|rfl|rfl <;> rfl) bW fun V Z bQ bX=>?_;have bp:Ext aY V:=bo.then Z (fun r E he=>by have he:r=aP:=he;omega);have aN:∀ {w':x5},Ext V w'→ak w' aP dY (lO m):=fun aq=>bX.ext aq;refine aV (fun v bc=>v= .bool (decide (c.st<m.st∧i<m.cells))∧Ext V bc) ?_ ?_
 rotate_left
 ·intro cp bq;intro bc X _ _;have aA:=bp.trans X;have br:=aN X;have aB:=bl.ext aA;rw[az,ah cX.p rfl,al (by kernel_rfl) ((h1.ext aA).cell (o:=0+0) rfl),cT rfl dn.u du.i aB aC,ah du.p rfl,al (by kernel_rfl) (aB.range ac 1 _ rfl),ah dY.p rfl,al (by kernel_rfl) (br.cell (o:=0+2) rfl),au,ag];refine⟨fun bt=>?_,fun bu=>bq _ _ ⟨by rw[decide_eq_false];omega,X⟩⟩;rw[ah dY.p rfl,al (by kernel_rfl) (br.cell (o:=0+1) rfl),au];refine bq _ _ ⟨?_,X⟩;congr 1;rw[W5,decide_eq_true_eq,decide_eq_true_eq];exact⟨fun h=>⟨by omega,by omega⟩,fun h=>by omega⟩
 rintro _ bc ⟨rfl,X⟩;have aA:=bp.trans X;rw[ag];refine⟨fun bt=>?_,fun bu=>bb _ ⟨A,t,c.st,Grow.ext aA,(h.ext aq).ext aA,ac,bm (.inr ⟨m,bn,bu⟩)⟩⟩;intro cq aQ _ _;have aJ:=aA.trans aQ;have bd:=h1.ext aJ;have aB:=bl.ext aJ;have bY:=a1.ext aJ;have bZ:=aK.ext aJ;rw[az,ah cX.p rfl,al (by kernel_rfl) (bd.cell (o:=0+1) rfl),az,ah cX.p rfl,al (by kernel_rfl) (bd.cell (o:=0+0) rfl),cT rfl dn.u du.i aB aC,bN du.p du.i rfl (aB.range ac)];rw[cR (cs:=#[.int .i64 (i:Int),.int .i64 c.v,.int .u64 (c.st:Int)]) (by kernel_rfl)];let a:iM:=⟨i,c⟩;have b1:∀ u∈lN a,u.oneCell'=true:=by intro v aI;simp[lN] at aI;rcases aI with rfl|rfl|rfl <;> rfl
 refine fa (f:=lN) (a:=a) gw.u iG.i (by omega) rfl rfl fun cr ct bw cu Y b2=>?_;refine⟨.inl Y,?_⟩;have bx:=aJ.trans Y;have be:=bd.ext Y;have bz:=aB.ext Y;have bf:=bY.ext Y;have bA:=bZ.ext Y;obtain⟨⟨aH,a7,a8⟩,ap,b3⟩:=r4 be bz bf bA;refine fl (f:=lN) (a:=a) gw.u iG.i rfl bf (by simpa using b2.sl) b1 (by have:=aX.2.1;omega) (by have:=aX.2.1;omega) fun bg bB cw aS b5 bC=>?_;rw[az,ah cX.p rfl];have bD:=be.ad bC a7;refine bH gw.i (cJ aS.sl).1 (cJ aS.sl).2 bD (by simp) fun ab bE cz bh=>?_;have bh:ak ab ax cX [aO,bg,ae,.int .u64 (t.kB:Int)]:=bh;have aT:am (fun r=>leadsTo aD r∨r=ax) bw ab:=(bC.mono fun r _ h=>.inl h).trans (bE.mono fun r _ h=>.inr h);have b6:aZ gl 2 du ab aw aO t.cells:=bz.ad aT fun r E he=>he.elim (fun he=>(ap r E).1 he) fun he=>aH (he▸E);have b7:aZ lO 3 dY ab ay ae t.marks:=bA.ad aT fun r E he=>he.elim (fun he=>(b3 r he).2 E) fun he=>a8 (he▸E);have ca:aZ lN 3 iG ab bB bg (t.olds++[a]):=aS.ad bE fun r E he=>by
  have he:r=ax:=he;subst he;exact cn aS bD (by decide) E
 have cA:=bx.size;have cB:=bo.size;let bi:av:=fun r=>A r∨bw.heap.size≤r;have cb:Grow A aY bi ab:=⟨(bx.ad A).trans (aT.mono fun r _ he=>he.elim (fun he=>aL r (.inr (.inl he))) fun he=>he▸bk),fun r E=>E.imp id fun E=>by omega,fun r E=>.inl E⟩;have cc:c4 ab ax bi {t with olds:=t.olds++[a]}:=⟨.inl bk,aw,bB,ay,aO,bg,ae,bh,b6,ca,b7,fun r E=>by
  rcases E with E|E|E
  ·exact .inl (aL r (.inl E))
  ·rcases b5 r E with h|h
   ·exact .inl (aL r (.inr (.inl h)))
   ·exact .inr h
  ·exact .inl (aL r (.inr (.inr E)))⟩
 have cd:ak ab aP dY (lO m):=(aN ((X.trans aQ).trans Y)).ad aT fun he=>by
  rcases he with he|he
  ·obtain⟨rfl,cC,ce⟩:=ds bf he;exact absurd (eP ce (aN ((X.trans aQ).trans Y))) (by decide)
  ·subst he;exact absurd (eP be (aN ((X.trans aQ).trans Y))) (by decide)
 intro cD bj _ _;have cg:=cc.ext bj;obtain⟨a6,aw,go,ay,aO,aD,ae,ai,ao,aE,aF,aG⟩:=cg;rw[az,ah cX.p rfl,al (by kernel_rfl) (ai.cell (o:=0+0) rfl),ah dY.p rfl,al (by kernel_rfl) ((cd.ext bj).cell (o:=0+2) rfl),cT rfl dn.u du.i ao aC,ah du.p rfl];obtain⟨⟨aH,a7,a8⟩,ap,_⟩:=r4 ai ao aE aF;refine ni (f:=gl) (j:=1) (a:=c) (a':=⟨c.v,m.st⟩) bG.i rfl rfl ao ac rfl (by omega) fun cE aW cF ch=>?_;have ba:t.set i x={t with olds:=t.olds++[a],cells:=t.cells.set i ⟨x,m.st⟩}:=by
  unfold aR.set;rw[ac];simp only[bn];rw[if_pos bt]
 refine bb _ ⟨bi,{t with olds:=t.olds++[a],cells:=t.cells.set i ⟨c.v,m.st⟩},m.st,cb.trans ((Grow.ext bj).trans ⟨aW.mono fun r _ E=>aG r (.inl E),fun _ h=>.inl h,fun _ h=>h⟩),⟨a6,aw,go,ay,aO,aD,ae,ai.ad aW aH,ch,aE.ad aW fun r E he=>(ap r he).1 E,aF.ad aW fun r E he=>(ap r he).2 E,aG⟩,?_,?_⟩
 ·show (t.cells.set i _)[i]? =_;rw[List.getElem?_set_self aC]
 ·rw[ba];simp only[List.set_set]
theorem yH (n:Nat):db (#[.int .i64 0,.int .u64 0]:Array x4) (n*2)=(p9 n (⟨0,0⟩:Cell)).flatMap gl:=by
 have:∀ n,db (#[.int .i64 0,.int .u64 0]:Array x4) (n*2)=(p9 n (⟨0,0⟩:Cell)).flatMap gl:=by
  intro n;apply W0;intro j;have O:((p9 n (⟨0,0⟩:Cell)).flatMap gl).length=n*2:=by simp[gl]
  by_cases I:j<n*2
  ·have J:(db (#[.int .i64 0,.int .u64 0]:Array x4) (n*2))[j]? =some (if j % 2=0 then .int .i64 0 else .int .u64 0):=by
    unfold db;rw[U8,Array.getElem?_map,Array.getElem?_range,if_pos I];rcases Nat.mod_two_eq_zero_or_one j with h|h <;> simp[h]
   have E:=rC (f:=gl) (k:=2) (L:=p9 n (⟨0,0⟩:Cell)) (i:=j / 2) (j:=j % 2) (a:=⟨0,0⟩) (v:=if j % 2=0 then .int .i64 0 else .int .u64 0) (fun a _=>rfl) (by rw[List.getElem?_replicate,if_pos (by omega)]) (by rcases Nat.mod_two_eq_zero_or_one j with h|h <;> simp[h,gl]);rw[show j / 2*2+j % 2=j by omega] at E;rw[J,E]
  ·rw[Z7 (by rw[mU];omega),Z7 (by omega)]
 exact this n
set_option maxHeartbeats 2000000 in
theorem Fb {w:x5} {ax:Nat} {A:av} {t:aR} {n:Nat} (h:c4 w ax A t) (aE:kK t) (aL:n≤100000000):O y0 ov [.pointer (some ⟨ax,0,none⟩),.int .i64 (n:Int)] w fun v w'=>v= .int .i64 (t.cells.length:Int)∧ ∃ U,Grow A w U w'∧c4 w' ax U (t.grow n):=by
 apply ov.enter;refine (yF h).mono ?_;rintro _ Y _ ⟨rfl,V⟩;refine dG (fun I=>∃ U,Grow A w U I∧c4 I ax U (t.grow n)) (fun I h=>⟨rfl,h⟩) ?_;intro aM ac;refine aV (fun v I=>v= .bool (decide (0<n))∧Y=I) ?_ ?_
 rotate_left
 ·intro aN aF;rw[pp dm.u];simp only[c9,Y8,bm];rw[bT];refine aF _ _ ⟨?_,rfl⟩;congr 1;rw[W5,decide_eq_true_eq,decide_eq_true_eq];omega
 rintro _ _ ⟨rfl,rfl⟩;rw[ag];refine⟨fun ae=>?_,fun ae=>ac _ ⟨A,Grow.ext V,?_⟩⟩
 rotate_left
 ·have:n=0:=by omega
  subst this;have e:t.grow 0=t:=by unfold aR.grow;simp
  rw[e];exact h.ext V
 obtain⟨af,aP,go,aG,aO,ai,aj,h1,ao,ap,aq,W⟩:=id (h.ext V);rw[az,ah cX.p rfl,al (by kernel_rfl) (h1.cell (o:=0+0) rfl)];obtain⟨⟨aH,aI,aJ⟩,au,aQ⟩:=r4 h1 ao ap aq;have aS:=aE.1;refine E9 (k:=2) (m:=n) rfl dn.u J.u du.i rfl (by omega) (fun u hu=>?_) ao.1 ae (by omega) (by omega) fun Z aw I ay aK aA=>?_
 ·exact yr (by decide) (by decide) u hu
 rw[az,ah cX.p rfl];have X:aZ gl 2 du I aw Z (t.cells++p9 n ⟨0,0⟩):=by
  refine⟨?_,fun _ _=>rfl⟩;have e:(x4.agg #[.int .i64 0,.int .u64 0]).cells= #[.int .i64 0,.int .u64 0]:=rfl;rw[e,yH] at ay;rw[o5,List.length_replicate,List.flatMap_append];exact ay
 have aB:=h1.ad aA aH;refine bH dn.i (cJ X.sl).1 (cJ X.sl).2 aB (by simp) fun aC aD aT aa=>?_;have aa:ak aC ax cX [Z,ai,aj,.int .u64 (t.kB:Int)]:=aa;have ab:am (fun r=>leadsTo aO r∨r=ax) Y aC:=(aA.mono fun r _ h=>.inl h).trans (aD.mono fun r _ h=>.inr h);have z:=V.size;refine ac _ ⟨fun r=>A r∨Y.heap.size≤r,(Grow.ext V).trans ⟨ab.mono fun r _ he=>he.elim (fun he=>W r (.inl he)) fun he=>he▸af,fun r E=>E,fun r E=>.inl E⟩,.inl af,aw,go,aG,Z,ai,aj,aa,X.ad aD fun r E he=>?_,ap.ad ab fun r E he=>he.elim (fun he=>(au r he).1 E) fun he=>aI (he▸E),aq.ad ab fun r E he=>he.elim (fun he=>(au r he).2 E) fun he=>aJ (he▸E),fun r E=>?_⟩
 ·have he:r=ax:=he;subst he;exact cn X aB (by decide) E
 ·rcases E with E|E|E
  ·exact (aK r E).imp (fun h=>W r (.inl h)) id
  ·exact .inl (W r (.inr (.inl E)))
  ·exact .inl (W r (.inr (.inr E)))
theorem Fc {w:x5} {n:Nat} (Y:n≤1000):O y0 oe [.int .i64 (n:Int)] w fun v w'=>Ext w w'∧ ∃ ax,v= .pointer (some ⟨ax,0,none⟩)∧c4 w' ax (dU w.heap.size) ⟨p9 n ⟨0,0⟩,[],[],0⟩:=by
 apply oe.enter;rw[qX,Int.max_eq_left (by omega)];refine vu (k:=2) dn.u du.i (by omega) (by omega) fun g J Z U I=>?_;rw[cR (cs:=#[.slice (some ⟨g,0,none⟩) n n,.slice none 0 0,.slice none 0 0,.int .u64 0]) (by kernel_rfl)];refine cc fun ax aa ab V X=>?_;have ac:=U.size;have e:(x4.agg #[.int .i64 0,.int .u64 0]).cells= #[.int .i64 0,.int .u64 0]:=rfl;have I:ak J g du ((p9 n (⟨0,0⟩:Cell)).flatMap gl):=by rw[←yH,←e];exact I
 have W:aZ gl 2 du J g (.slice (some ⟨g,0,none⟩) n n) (p9 n ⟨0,0⟩):=by
  refine⟨?_,fun _ _=>rfl⟩;rw[List.length_replicate];exact bR.full I (by simp[gl]) (by simp[maxLen];omega)
 refine⟨U.trans V,ax,rfl,by show w.heap.size≤ax;omega,g,0,0,_,_,_,X,W.ext V,aZ.nil _ _ _ _ _,aZ.nil _ _ _ _ _,fun r E=>?_⟩;rcases E with E|E|E
 ·have:=(W.leads E).1;show w.heap.size≤r;omega
 ·exact (dI E).elim
 ·exact (dI E).elim
theorem lv {α β:Type} {f:α→List β}:∀ {L:List α} {i j:Nat} {a:α},L[i]? =some a→j<(f a).length→(L.flatMap f)[((L.take i).flatMap f).length+j]? =(f a)[j]?
 |x::L,0,j,a,h,E=>by
  cases h;rw[List.take_zero,List.flatMap_nil,List.length_nil,V5,X9,Y0 E]
 |x::L,i+1,j,a,h,E=>by
  have h:L[i]? =some a:=by simpa using h
  rw[List.take_succ_cons,X9,X9,o5,Nat.add_assoc,Y3 (by omega),Nat.add_sub_cancel_left,lv h E]
theorem yI {α β:Type} {f:α→List β}:∀ {L:List α} {i j:Nat} {a b:α} {x:β},L[i]? =some a→j<(f a).length→f b=(f a).set j x→(L.flatMap f).set (((L.take i).flatMap f).length+j) x=(L.set i b).flatMap f
 |y::L,0,j,a,b,x,h,E,I=>by
  cases h;rw[List.take_zero,List.flatMap_nil,List.length_nil,V5,X9,List.set_cons_zero,X9,I,List.set_append_left _ _ E]
 |y::L,i+1,j,a,b,x,h,E,I=>by
  have h:L[i]? =some a:=by simpa using h
  rw[List.take_succ_cons,X9,X9,o5,Nat.add_assoc,T2 _ _ (by omega),Nat.add_sub_cancel_left,yI h E I,List.set_cons_succ,X9]
theorem yJ {α β:Type} {f:α→List β} {L:List α} {i j:Nat} {a:α} (h:L[i]? =some a) (E:j<(f a).length):((L.take i).flatMap f).length+j<(L.flatMap f).length:=by
 have h1:=lv (f:=f) h E;rw[x3 E] at h1;exact (u4.1 h1).1
structure ih where
 gone:Int
 mask:Int
 un:List Int
structure iW where
 sc:List Int
 ao:List Int
 live:Int
 cs:List Int
structure tY where
 v:Int
 sc:List Int
 hp:List Int
structure bh where
 zero:Int
 vars:List ih
 funs:List iW
 lQ:List tY
def fK (x:ih):List Int:=x.gone::x.mask::x.un
def jM (x:iW):List Int:=x.live::x.cs
def jN (s:bh):List Int:=[s.zero,(s.funs.length:Int),(s.lQ.length:Int)]
def bh.cells (s:bh):List Int:=jN s++(s.vars.flatMap fK++s.funs.flatMap jM)
def eR (s:bh) (i:Nat):Nat:=3+((s.vars.take i).flatMap fK).length
def fr (s:bh) (j:Nat):Nat:=3+((s.vars.flatMap fK).length+((s.funs.take j).flatMap jM).length)
theorem Fe (s:bh):s.cells[0]? =some s.zero:=rfl
theorem qf {s:bh} {i j:Nat} {x:ih} (h:s.vars[i]? =some x) (I:j<x.un.length+2):s.cells[eR s i+j]? =(fK x)[j]?:=by
 have E:j<(fK x).length:=I;unfold bh.cells eR;rw[Nat.add_assoc,Y3 (by simp[jN]),show (jN s).length=3 from rfl,Nat.add_sub_cancel_left,Y0 (yJ h E),lv h E]
theorem tZ {s:bh} {i j:Nat} {x:iW} (h:s.funs[i]? =some x) (E:j<x.cs.length+1):s.cells[fr s i+j]? =(jM x)[j]?:=by
 have I:j<(jM x).length:=E;unfold bh.cells fr;rw[Nat.add_assoc,Nat.add_assoc,Y3 (by simp[jN]),show (jN s).length=3 from rfl,Nat.add_sub_cancel_left,Y3 (by omega),Nat.add_sub_cancel_left,lv h I]
theorem Ff {s:bh} {i j:Nat} {x y:ih} {c:Int} (h:s.vars[i]? =some x) (I:j<x.un.length+2) (J:fK y=(fK x).set j c):s.cells.set (eR s i+j) c=({s with vars:=s.vars.set i y}:bh).cells:=by
 have E:j<(fK x).length:=I;unfold bh.cells eR;rw[Nat.add_assoc,T2 _ _ (by simp[jN]),show (jN s).length=3 from rfl,Nat.add_sub_cancel_left,List.set_append_left _ _ (yJ h E),yI h E J];rfl
theorem Fg {s:bh} (x:iW):(s.cells++jM x).set 1 ((s.funs.length+1:Nat):Int)=({s with funs:=s.funs++[x]}:bh).cells:=by
 unfold bh.cells;simp only[List.flatMap_append,List.flatMap_singleton,jN,o5,T3,V0];rfl
theorem ua (s:bh):s.cells.length=3+((s.vars.flatMap fK).length+(s.funs.flatMap jM).length):=by
 unfold bh.cells;rw[o5,o5];rfl
def jO (a sc:List Int):List Int:=sc.map fun v=>a.getD v.toNat 0
def lR (k:Int) (E:Int) (p:ih×Int):Int:=if p.1.gone≠0 then E else min (E+p.1.un.getD p.2.toNat 0) k
def jP (k:Int) (a:List Int) (E:Int) (f:iW):Int:=if f.live≠0 then min (E+cH f.ao f.cs (jO a f.sc)) k else E
def dropped (mask:Int) (v:Int):Bool:=mask.toNat.testBit v.toNat
def hD (p:ih×Int):Bool:=decide (p.1.gone≠0)|| !dropped p.1.mask p.2
def ns (k:Int) (s:bh) (a:List Int):Int:=if (s.vars.zip a).all hD then s.funs.foldl (jP k a) ((s.vars.zip a).foldl (lR k) s.zero) else k
def qg (s:bh) (a:List Int):Prop:=a.length=s.vars.length∧ ∀ (i:Nat) x v,s.vars[i]? =some x→a[i]? =some v→x.gone≠0∨(0≤v∧v<x.un.length)
structure iX (k:Int) (sizes:List Int) (s:bh):Prop where
 yK:1≤k∧k≤2147483648
 qh:1≤sizes.length∧sizes.length≤64∧ ∀ z∈sizes,1≤z∧z≤32
 zero:0≤s.zero∧s.zero≤k
 vars:s.vars.length=sizes.length
 var:∀ (i:Nat) x z,s.vars[i]? =some x→sizes[i]? =some z→x.un.length=z.toNat∧(∀ c∈x.un,0≤c∧c≤k)∧0≤x.mask∧x.mask<4294967296
 funs:∀ f∈s.funs,eG sizes k (f.sc,f.cs)∧f.ao=cb sizes f.sc∧2≤f.sc.length
def newVar (u:List Int):ih:=⟨0,0,u⟩
def iY (sizes:List Int) (g:cg):iW:=⟨g.1,cb sizes g.1,1,g.2⟩
def dJ (n:bS):bh:=⟨n.zero,n.unary.map newVar,n.funs.map (iY n.sizes),[]⟩
theorem Fh {n:bS} (h:hA n):iX n.k n.sizes (dJ n):=by
 refine⟨h.k,h.sizes,h.zero,by simp[dJ,h.ig],fun i x z E J=>?_,fun f O=>?_⟩
 ·have E:(n.unary.map newVar)[i]? =some x:=E;rw[r9] at E;obtain⟨u,hu,rfl⟩:=Z6.1 E;obtain⟨h1,I⟩:=h.unary i z u J hu;exact⟨h1,I,Int.le_refl _,by show (0:Int)<_;omega⟩
 ·obtain⟨g,U,rfl⟩:=l9.1 O;obtain⟨h1,I⟩:=h.funs g U;exact⟨h1,rfl,I⟩
theorem ub {w:x5} {E:Nat} {n:bS} (h:eQ w E n):O y0 ju [.pointer (some ⟨E,0,none⟩)] w fun v w'=>v= .int .i64 (n.sizes.length:Int)∧Ext w w':=by
 obtain⟨U,V,W,X,Y,Z,L,aa,aw,ac,ad,h1,I,J,ae,af,ag,ai⟩:=h;apply ju.enter;rw[b8 dl.u];simp only[c9,aU];rw[az,ah cK.p rfl,al (by kernel_rfl) (h1.cell (o:=0+0) rfl),az,ah bg.p rfl,al (by kernel_rfl) (I.cell (o:=0+2) rfl),aQ ab.u J.ls];exact⟨rfl,Ext.refl _⟩
theorem Fi {w:x5} {E:Nat} {n:bS} (h:eQ w E n):O y0 k3 [.pointer (some ⟨E,0,none⟩)] w fun v w'=>v= .int .i64 n.k∧Ext w w':=by
 obtain⟨J,U,V,W,X,Y,L,Z,aw,aa,ab,h1,I,ac,ad,ae,af,ag⟩:=h;apply k3.enter;rw[b8 dl.u];simp only[c9,aU];rw[az,ah cK.p rfl,al (by kernel_rfl) (h1.cell (o:=0+0) rfl),az,ah bg.p rfl,al (by kernel_rfl) (I.cell (o:=0+1) rfl)];exact⟨rfl,Ext.refl _⟩
theorem Fj {w:x5} {E:Nat} {n:bS} (h:eQ w E n):O y0 og [.pointer (some ⟨E,0,none⟩)] w fun v w'=>v= .int .i64 n.zero∧Ext w w':=by
 obtain⟨I,J,U,V,W,X,L,Y,aw,Z,aa,h1,ab,ac,ad,ae,af,ag⟩:=h;apply og.enter;rw[b8 dl.u];simp only[c9,aU];rw[az,ah cK.p rfl,al (by kernel_rfl) (h1.cell (o:=0+1) rfl)];exact⟨rfl,Ext.refl _⟩
theorem yL {w:x5} {E:Nat} {n:bS} (h:eQ w E n):O y0 kf [.pointer (some ⟨E,0,none⟩)] w fun v w'=>v= .int .i64 (n.funs.length:Int)∧Ext w w':=by
 obtain⟨U,V,W,X,Y,Z,L,aa,aw,ab,ac,h1,ad,ae,af,ag,I,J⟩:=h;apply kf.enter;rw[b8 dl.u];simp only[c9,aU];rw[az,ah cK.p rfl,al (by kernel_rfl) (h1.cell (o:=0+3) rfl),eb ep.u I.1];exact⟨by rw[←J,o3],Ext.refl _⟩
theorem yM {w:x5} {X:Nat} {n:bS} {i:Int} (h:eQ w X n) (I:hA n):O y0 mj [.pointer (some ⟨X,0,none⟩),.int .i64 i] w fun v w'=>Ext w w'∧(¬(0≤i∧i<n.sizes.length)→v= .slice none 0 0)∧
  ∀ u,0≤i→n.unary[i.toNat]? =some u→ ∃ g,w.heap.size≤g∧aq .i64 af w' g v u:=by
 apply mj.enter;have ao:=I.ig;refine aV (fun v J=>v= .bool (decide (¬(0≤i∧i<n.sizes.length)))∧Ext w J) ?_ ?_
 ·rintro _ J ⟨rfl,E⟩;rw[ag];refine⟨fun ad=>⟨E,fun _=>rfl,fun u ai hu=>?_⟩,fun U=>?_⟩
  ·have:=(u4.1 hu).1;exact absurd ⟨ai,by omega⟩ ad
  have U:0≤i∧i<n.sizes.length:=X4.1 U;obtain⟨ap,av,ax,ay,aA,Y,L,aB,aw,aC,aD,h1,aE,aF,V,Z,aG,aH⟩:=h.ext E;have aI:Y.length=n.unary.length:=by rw[←Z,o3]
  obtain⟨a,W⟩:∃ a,Y[i.toNat]? =some a:=⟨_,x3 (by omega)⟩;obtain⟨aJ,hm⟩:=V.2 a (u5 W);rw[az,ah cK.p rfl,al (by kernel_rfl) (h1.cell (o:=0+2) rfl),cT (i:=i.toNat) (by omega) b5.u ae.i V.1 (by omega),al (o:=i.toNat*1) (by kernel_rfl) (V.1.range W 0 _ rfl)];have aa:n.unary[i.toNat]? =some a.l:=by rw[←Z,r9,W];rfl
  have aK:a.l.length≤32:=by
   obtain⟨z,ab⟩:∃ z,n.sizes[i.toNat]? =some z:=⟨_,x3 (by omega)⟩;have aL:=(I.unary i.toNat z a.l ab aa).1;have aM:=I.sizes.2.2 z (u5 ab);omega
  refine (sW hm.ls (by omega)).mono ?_;rintro v aN _ ⟨aj,g,aO,ak⟩;refine⟨E.trans aj,fun am=>absurd U am,fun u _ hu=>⟨g,by have:=E.size;omega,?_⟩⟩;rw[aa] at hu;cases hu;exact ak
 ·intro aP ac;rw[au,ag];refine⟨fun aQ=>ac _ _ ⟨by rw[decide_eq_true];omega,Ext.refl _⟩,fun aR=>?_⟩;refine (ub h).mono ?_;rintro _ J _ ⟨rfl,E⟩;rw[cw];refine ac _ _ ⟨?_,E⟩;congr 1;rw[W5,decide_eq_true_eq,decide_eq_true_eq];omega
theorem yN {w:x5} {U:Nat} {n:bS} {i:Int} (h:eQ w U n) (E:hA n):O y0 mf [.pointer (some ⟨U,0,none⟩),.int .i64 i] w fun v w'=>Ext w w'∧v= .int .i64 (if 0≤i then n.sizes.getD i.toNat 0 else 0):=by
 apply mf.enter;refine (yM h E).mono ?_;rintro v Z _ ⟨V,X,Y⟩;by_cases I:0≤i∧i<n.sizes.length
 ·have aa:=E.ig;obtain⟨u,hu⟩:∃ u,n.unary[i.toNat]? =some u:=⟨_,x3 (by omega)⟩;obtain⟨z,J⟩:∃ z,n.sizes[i.toNat]? =some z:=⟨_,x3 (by omega)⟩;obtain⟨g,_,hm⟩:=Y u I.1 hu;rw[aQ ae.u hm.ls];refine⟨V,?_⟩;have ab:=(E.unary i.toNat z u J hu).1;have ac:=E.sizes.2.2 z (u5 J);rw[if_pos I.1,p8,J];congr 1;simp only[T4];omega
 ·rw[X I,ga ae.u];refine⟨V,?_⟩;by_cases W:0≤i
  ·rw[if_pos W,p8,Z7 (by omega)];rfl
  ·rw[if_neg W];rfl
theorem yO {w:x5} {E:Nat} {n:bS} {j:Int} (h:eQ w E n) {K:x4→x5→Prop} (V:∀ w',Ext w w'→K (.bool (decide (¬(0≤j∧j<n.funs.length)))) w'):
  I y0 (U .lss J false true (.int .i64 j) (.int .i64 0)) w fun X=>Split X (K (.bool true) w) (O y0 kf [.pointer (some ⟨E,0,none⟩)] w fun Y W=>I y0 (U .geq J false false (.int .i64 j) Y) W fun Z=>K Z W):=by
 rw[au,ag];refine⟨fun ac=>?_,fun ad=>?_⟩
 ·have:=V w (Ext.refl _);rw[decide_eq_true (show ¬(0≤j∧j<n.funs.length) by omega)] at this;exact this
 ·refine (yL h).mono ?_;rintro _ aa _ ⟨rfl,ab⟩;rw[cw];have:=V aa ab;have e:decide ((n.funs.length:Int)≤j)=decide (¬(0≤j∧j<n.funs.length)):=by
   rw[W5,decide_eq_true_eq,decide_eq_true_eq];omega
  rw[←e] at this;exact this
theorem Fk {w:x5} {W j:Nat} {n:bS} {g:cg} (h:eQ w W n) (aa:hA n) (E:n.funs[j]? =some g):O y0 oh [.pointer (some ⟨W,0,none⟩),.int .i64 (j:Int)] w fun v w'=>Ext w w'∧ ∃ gs,w.heap.size≤gs∧aq .i64 J w' gs v g.1:=by
 apply oh.enter;have af:=(u4.1 E).1;refine aV (fun v X=>v= .bool (decide (¬(0≤(j:Int)∧(j:Int)<n.funs.length)))∧Ext w X) ?_ fun ag ab=>yO h fun w' ac=>ab _ _ ⟨rfl,ac⟩;rintro _ X ⟨rfl,I⟩;rw[decide_eq_false (by omega),aU];obtain⟨ai,aj,ak,am,ao,ap,L,au,aw,av,ax,h1,ay,aA,aB,aC,U,Y⟩:=h.ext I;have aD:L.length=n.funs.length:=by rw[←Y,o3]
 obtain⟨a,V⟩:∃ a,L[j]? =some a:=⟨_,x3 (by omega)⟩;have Z:dj a=g:=by rw[←Y,r9,V] at E;exact Z2 E
 obtain⟨⟨aE,hm⟩,_⟩:=U.2 a (u5 V);rw[az,ah cK.p rfl,al (by kernel_rfl) (h1.cell (o:=0+3) rfl),cT rfl ep.u fi.i U.1 (by omega),ah fi.p rfl,al (by kernel_rfl) (U.1.range V 0 _ rfl)];have aF:a.sc.length≤6:=by
  have:=(aa.funs g (u5 E)).1.scope.2;rw[←Z] at this;exact this
 refine (jE hm.ls (by omega)).mono ?_;rintro v aG _ ⟨ad,gs,aH,ae⟩;refine⟨I.trans ad,gs,by have:=I.size;omega,?_⟩;rw[←Z];exact ae
theorem Fl {w:x5} {g ad:Nat} {sv:x4} {ao:List Int} {k:Int} {cs:List Int} (h:cG w g ad sv ao k cs):O y0 ow [.pointer (some ⟨g,0,none⟩)] w fun v w'=>Ext w w'∧ ∃ E I,v= .pointer (some ⟨E,0,none⟩)∧w.heap.size≤E∧w.heap.size≤I∧cG w' E I sv ao k cs:=by
 obtain⟨⟨aO,gs,ae,hm,af⟩,⟨h1,ak,ag⟩,Y,Z⟩:=h;apply ow.enter;rw[b8 bB.u];simp only[c9,aU];intro am J _ _;have V:=ae.ext J;have ap:=prod_bound Y;rw[az,ah bq.p rfl,bN (cs:=[sv]) aK.p aK.i rfl (lz V (by
  intro j v W
  match j,W with
  |0,W=>exact W)),az,ah bq.p rfl,al (by kernel_rfl) (V.cell (o:=0+1) rfl),az,ah bq.p rfl,al (by kernel_rfl) (V.cell (o:=0+2) rfl)]
 refine (sW (af.ls.ext J) (by omega)).mono ?_;rintro aa aq _ ⟨X,I,au,U⟩;refine⟨.inl X,?_⟩;rw[cR (cs:=#[sv,.int .i64 k,aa]) (by obtain⟨_,_,_,rfl⟩:=c5 hm.ls;obtain⟨_,_,_,rfl⟩:=c5 U.ls;kernel_rfl)];refine cc fun E av aw ab ai=>?_;have ax:=J.size;have ay:=X.size;have aA:=U;have ac:=(J.trans X).trans ab;refine⟨ac,E,I,rfl,by omega,by omega,⟨aa,gs,ai,hm.ext ac,U.ext ab⟩,⟨?_,?_,ag⟩,Y,Z⟩
 ·have:=rP U (by rw[Z];omega);omega
 ·intro aj;obtain⟨aB,aC⟩:=b1 hm aj;omega
theorem Fm {w0 w:x5} {Y j:Nat} {n:bS} {g:cg} (Z:eQ w0 Y n) (aa:Ext w0 w) (J:n.funs[j]? =some g):O y0 oi [.pointer (some ⟨Y,0,none⟩),.int .i64 (j:Int)] w fun v w'=>Ext w w'∧ ∃ E U sv,v= .pointer (some ⟨E,0,none⟩)∧w.heap.size≤E∧w.heap.size≤U∧cG w' E U sv (cb n.sizes g.1) n.k g.2∧ ∀ r,leads sv r→r<w0.heap.size:=by
 have h:=Z.ext aa;apply oi.enter;have ap:=(u4.1 J).1;refine aV (fun v ab=>v= .bool (decide (¬(0≤(j:Int)∧(j:Int)<n.funs.length)))∧Ext w ab) ?_ fun aq ae=>yO h fun w' af=>ae _ _ ⟨rfl,af⟩;rintro _ ab ⟨rfl,V⟩;rw[decide_eq_false (by omega),aU];have I:=aa.trans V;obtain⟨au,av,ax,ay,aA,aB,L,aC,aw,aD,aE,h1,aF,aG,aH,aI,W,ac⟩:=Z;have aJ:L.length=n.funs.length:=by rw[←ac,o3]
 obtain⟨a,X⟩:∃ a,L[j]? =some a:=⟨_,x3 (by omega)⟩;have ag:dj a=g:=by rw[←ac,r9,X] at J;exact Z2 J
 obtain⟨_,U,ai,ad⟩:=W.2 a (u5 X);rw[az,ah cK.p rfl,al (by kernel_rfl) ((h1.ext I).cell (o:=0+3) rfl),cT rfl ep.u fi.i (W.1.ext I) (by omega),ah fi.p rfl,al (by kernel_rfl) ((W.1.ext I).range X 1 _ rfl)];refine (Fl (ad.ext I)).mono ?_;rintro v aK _ ⟨aj,E,ak,rfl,aL,aM,am⟩;have aN:=V.size;refine⟨V.trans aj,E,ak,ai,rfl,by omega,by omega,?_,fun r ao=>?_⟩
 ·rw[←ag];exact am
 ·obtain⟨⟨_,_,_,hm,_⟩,_⟩:=ad;obtain⟨aO,aP⟩:=b1 hm ao;omega
structure nt where
 a7:x4
 aw:x4
 at_:Nat
def jQ (x:nt):List x4:=[x.a7,x.aw,.int .i64 (x.at_:Int)]
structure qi where
 v:Int
 a7:x4
 bv:x4
def Fo (x:qi):List x4:=[.int .i64 x.v,x.a7,x.bv]
def gm (s:bh):List Int:=(W3 s.vars.length).map fun i=>(eR s i:Int)
def gH (R:av) (w:x5) (v:x4) (l:List Int):Prop:=(∃ g,aq .i64 J w g v l)∧ ∀ r,leads v r→R r
theorem gH.ls {R:av} {w:x5} {v:x4} {l:List Int} (h:gH R w v l):aG .i64 w v l:=by
 obtain⟨⟨g,h⟩,_⟩:=h;exact h.ls
theorem gH.ad {R S:av} {w w':x5} {v:x4} {l:List Int} (h:gH R w v l) (J:am S w w') (O:∀ r,r<w.heap.size→R r→¬S r):gH R w' v l:=by
 obtain⟨⟨g,h1⟩,E⟩:=h;exact⟨⟨g,br h1 J fun r I=>O r (by obtain⟨U,V⟩:=b1 h1 I;omega) (E r I)⟩,E⟩
theorem gH.mono {R R':av} {w:x5} {v:x4} {l:List Int} (h:gH R w v l) (E:∀ r,R r→R' r):gH R' w v l:=⟨h.1,fun r I=>E r (h.2 r I)⟩
def ii (R:av) (w:x5) (L:List nt) (s:bh):Prop:=L.length=s.funs.length∧ ∀ (j:Nat) x f,L[j]? =some x→s.funs[j]? =some f→gH R w x.a7 f.sc∧gH R w x.aw f.ao∧x.at_=fr s j
def jR (R:av) (w:x5) (E:List qi) (s:bh):Prop:=E.length=s.lQ.length∧ ∀ (j:Nat) x e,E[j]? =some x→s.lQ[j]? =some e→x.v=e.v∧gH R w x.a7 e.sc∧gH R w x.bv e.hp
theorem ii.ad {R S:av} {w w':x5} {L:List nt} {s:bh} (h:ii R w L s) (E:am S w w') (I:∀ r,r<w.heap.size→R r→¬S r):ii R w' L s:=⟨h.1,fun j x f J O=>by
 obtain⟨h1,U,V⟩:=h.2 j x f J O;exact⟨h1.ad E I,U.ad E I,V⟩⟩
theorem jR.ad {R S:av} {w w':x5} {E:List qi} {s:bh} (h:jR R w E s) (I:am S w w') (J:∀ r,r<w.heap.size→R r→¬S r):jR R w' E s:=⟨h.1,fun j x f O U=>by
 obtain⟨h1,V,W⟩:=h.2 j x f O U;exact⟨h1,V.ad I J,W.ad I J⟩⟩
theorem ii.mono {R R':av} {w:x5} {L:List nt} {s:bh} (h:ii R w L s) (E:∀ r,R r→R' r):ii R' w L s:=⟨h.1,fun j x f I J=>by
 obtain⟨h1,O,U⟩:=h.2 j x f I J;exact⟨h1.mono E,O.mono E,U⟩⟩
theorem jR.mono {R R':av} {w:x5} {E:List qi} {s:bh} (h:jR R w E s) (I:∀ r,R r→R' r):jR R' w E s:=⟨h.1,fun j x f J O=>by
 obtain⟨h1,U,V⟩:=h.2 j x f J O;exact⟨h1,U.mono I,V.mono I⟩⟩
theorem r6 {S:Nat→Prop} {a b c:x5} (h:Ext a b) (k:am S b c) (J:∀ r o,a.heap[r]? =some o→fx o=true→¬S r):Ext a c:=
 ⟨Y5 h.size k.size,fun r o I E=>k.bz r o (h.bz r o I E) E (J r o I E)⟩
theorem c4.cut {A:av} {w:x5} {ax:Nat} {t:aR} (h:c4 w ax A t):c4 w ax (fun r=>A r∧r<w.heap.size) t:=by
 obtain⟨W,X,go,Y,aO,Z,aa,h1,I,J,O,ab⟩:=h;refine⟨⟨W,h1.lt⟩,X,go,Y,aO,Z,aa,h1,I,J,O,fun r E=>⟨ab r E,?_⟩⟩;rcases E with E|E|E
 ·obtain⟨U,V⟩:=I.leads E;omega
 ·obtain⟨U,V⟩:=J.leads E;omega
 ·obtain⟨U,V⟩:=O.leads E;omega
def ei (w:x5) (aI ax V:Nat) (I O U:x4) (A R:av) (n:bS) (s:bh) (t:aR):Prop:=
 (A aI∧(∀ r,A r→¬R r)∧(∀ r,R r→r<w.heap.size)∧ ∀ r,A r→r<w.heap.size)∧ ∃ X Y Z,∃ (L:List nt) (W:List qi) (E:av) (w0:x5),
  ak w aI aM [.pointer (some ⟨V,0,none⟩),.pointer (some ⟨ax,0,none⟩),I,O,U]∧(eQ w0 V n∧Ext w0 w∧ ∀ r o,w0.heap[r]? =some o→fx o=true→R r)∧
  (c4 w ax E t∧(∀ r,E r→A r)∧¬E aI∧ ∀ r,leads I r∨leadsTo O r∨leadsTo U r→A r∧¬E r)∧aq .i64 J w X I (gm s)∧
  (aZ jQ 3 cj w Y O L∧ii R w L s)∧aZ Fo 3 eo w Z U W∧jR R w W s
theorem ei.ad {S:av} {w w':x5} {aI ax Y:Nat} {Z aa ab:x4} {A R:av} {n:bS} {s:bh} {t:aR} (h:ei w aI ax Y Z aa ab A R n s t) (J:am S w w') (O:∀ r,r<w.heap.size→A r∨R r→¬S r):ei w' aI ax Y Z aa ab A R n s t:=by
 obtain⟨⟨h1,U,aq,au⟩,aw,ay,az,L,aA,aB,w0,ac,⟨aC,ae,af⟩,⟨aD,V,aE,W⟩,ag,⟨ah,aF⟩,ai,aG⟩:=h;have z:=J.size;refine⟨⟨h1,U,fun r E=>by have:=aq r E;omega,fun r E=>by have:=au r E;omega⟩,aw,ay,az,L,aA,aB,w0,ac.ad J (O _ ac.lt (.inl h1)),⟨aC,r6 ae J fun r o E aH I=>O r (by have:=ae.size;have:=(l6.1 E).1;omega) (.inr (af r o E aH)) I,af⟩,
  ⟨?_,V,aE,W⟩,br ag J fun r E I=>O r ?_ (.inl (W r (.inl E)).1) I,⟨ah.ad J fun r E I=>O r ?_ (.inl (W r (.inr (.inl E))).1) I,aF.ad J fun r E h=>O r E (.inr h)⟩,ai.ad J fun r E I=>O r ?_ (.inl (W r (.inr (.inr E))).1) I,aG.ad J fun r E h=>O r E (.inr h)⟩
 ·obtain⟨aj,aJ,go,aK,aO,aL,aM,ak,al,ao,ap,X⟩:=aD;refine⟨aj,aJ,go,aK,aO,aL,aM,ak.ad J (O _ ak.lt (.inl (V _ aj))),al.ad J fun r E I=>?_,ao.ad J fun r E I=>?_,ap.ad J fun r E I=>?_,X⟩
  ·exact O r (by obtain⟨h1,U⟩:=al.leads E;omega) (.inl (V _ (X r (.inl E)))) I
  ·exact O r (by obtain⟨h1,U⟩:=ao.leads E;omega) (.inl (V _ (X r (.inr (.inl E))))) I
  ·exact O r (by obtain⟨h1,U⟩:=ap.leads E;omega) (.inl (V _ (X r (.inr (.inr E))))) I
 ·obtain⟨h1,U⟩:=b1 ag E;omega
 ·obtain⟨h1,U⟩:=ah.leads E;omega
 ·obtain⟨h1,U⟩:=ai.leads E;omega
theorem ei.ext {w w':x5} {aI ax E:Nat} {I J O:x4} {A R:av} {n:bS} {s:bh} {t:aR} (h:ei w aI ax E I J O A R n s t) (U:Ext w w'):ei w' aI ax E I J O A R n s t:=h.ad (U.ad fun _=>False) fun _ _ _ h=>h
theorem ei.lS {w:x5} {aI ax ab:Nat} {ac ae af:x4} {A R:av} {n:bS} {s:bh} {t:aR} (h:ei w aI ax ab ac ae af A R n s t):∃ W,c4 w ax W t∧ ∀ V w' Z,Grow W w V w'→c4 w' ax V Z→ ∃ ag,Grow A w ag w'∧ei w' aI ax ab ac ae af ag R n s Z:=by
 obtain⟨⟨h1,O,ah,ai⟩,ay,az,aA,L,aB,W,w0,aj,⟨aC,aD,ak⟩,⟨aE,U,al,X⟩,am,⟨ao,aF⟩,ap,aG⟩:=h;refine⟨W,aE,fun aq w' Z Y aH=>?_⟩;have au:=aH.cut;have I:Grow W w (fun r=>aq r∧r<w'.heap.size) w':=⟨Y.1,fun r E=>Y.2.1 r E.1,fun r E=>⟨Y.2.2 r E,by have:=ai r (U r E);have:=Y.1.size;omega⟩⟩;obtain⟨V,aw⟩:∃ B:av,B=fun r=>aq r∧r<w'.heap.size:=⟨_,rfl⟩;rw[←aw] at au I;have aJ:∀ r,V r→r<w'.heap.size:=fun r h=>by rw[aw] at h;exact h.2
 refine⟨fun r=>A r∨V r,⟨I.1.mono fun r _ E=>U r E,fun r E=>?_,fun r E=>.inl E⟩,⟨.inl h1,fun r E aa=>?_,fun r E=>?_,fun r E=>?_⟩,ay,az,aA,L,aB,V,w0,aj.ad I.1 al,⟨aC,r6 aD I.1 fun r o E aK J=>O r (U r J) (ak r o E aK),ak⟩,
  ⟨au,fun r E=>.inr E,fun E=>?_,fun r E=>⟨.inl (X r E).1,fun aL=>?_⟩⟩,br am I.1 fun r E J=>(X r (.inl E)).2 J,⟨ao.ad I.1 fun r E J=>(X r (.inr (.inl E))).2 J,aF.ad I.1 fun r _ E J=>O r (U r J) E⟩,ap.ad I.1 fun r E J=>(X r (.inr (.inr E))).2 J,aG.ad I.1 fun r _ E J=>O r (U r J) E⟩
 ·rcases E with E|E
  ·exact .inl E
  ·exact (I.2.1 r E).imp (U r) id
 ·have:=ah r aa;rcases E with E|E
  ·exact O r E aa
  ·rcases I.2.1 r E with h|h
   ·exact O r (U r h) aa
   ·omega
 ·have:=ah r E;have:=I.1.size;omega
 ·rcases E with E|E
  ·have:=ai r E;have:=I.1.size;omega
  ·exact aJ r E
 ·rcases I.2.1 _ E with h|h
  ·exact al h
  ·have:=aj.lt;omega
 ·rcases I.2.1 r aL with h|h
  ·exact (X r E).2 h
  ·rcases E with E|E|E
   ·obtain⟨h1,O⟩:=b1 am E;omega
   ·obtain⟨h1,O⟩:=ao.leads E;omega
   ·obtain⟨h1,O⟩:=ap.leads E;omega
def StateM (w:x5) (aI ax:Nat) (A R:av) (n:bS) (s:bh) (t:aR):Prop:=∃ E I J O,ei w aI ax E I J O A R n s t
theorem StateM.ad {S:av} {w w':x5} {aI ax:Nat} {A R:av} {n:bS} {s:bh} {t:aR} (h:StateM w aI ax A R n s t) (E:am S w w') (I:∀ r,r<w.heap.size→A r∨R r→¬S r):StateM w' aI ax A R n s t:=by
 obtain⟨J,O,U,V,h⟩:=h;exact⟨J,O,U,V,h.ad E I⟩
theorem StateM.ext {w w':x5} {aI ax:Nat} {A R:av} {n:bS} {s:bh} {t:aR} (h:StateM w aI ax A R n s t) (E:Ext w w'):StateM w' aI ax A R n s t:=h.ad (E.ad fun _=>False) fun _ _ _ h=>h
theorem StateM.lS {w:x5} {aI ax:Nat} {A R:av} {n:bS} {s:bh} {t:aR} (h:StateM w aI ax A R n s t):∃ E,c4 w ax E t∧ ∀ I w' J,Grow E w I w'→c4 w' ax I J→ ∃ O,Grow A w O w'∧StateM w' aI ax O R n s J:=by
 obtain⟨U,V,W,X,h⟩:=h;obtain⟨E,h1,Y⟩:=h.lS;exact⟨E,h1,fun I w' J Z aa=>by
  obtain⟨O,ab,ac⟩:=Y I w' J Z aa;exact⟨O,ab,U,V,W,X,ac⟩⟩
def qj (s s':bh):Prop:=gm s'=gm s∧s'.funs.length=s.funs.length∧(∀ (j:Nat) E,s'.funs[j]? =some E→ ∃ f,s.funs[j]? =some f∧E.sc=f.sc∧E.ao=f.ao∧fr s' j=fr s j)∧s'.lQ=s.lQ
theorem ei.same {w:x5} {aI ax E:Nat} {I J O:x4} {A R:av} {n:bS} {s s':bh} {t:aR} (h:ei w aI ax E I J O A R n s t) (V:qj s s'):ei w aI ax E I J O A R n s' t:=by
 obtain⟨W,X,Y,Z,L,aa,ab,w0,ac,ad,ae,af,⟨ag,U⟩,ah,ai⟩:=h;obtain⟨aj,ak,al,am⟩:=V;refine⟨W,X,Y,Z,L,aa,ab,w0,ac,ad,ae,by rw[aj];exact af,⟨ag,U.1.trans ak.symm,fun j x ao ap aq=>?_⟩,ah,?_⟩
 ·obtain⟨f,au,aw,ay,az⟩:=al j ao aq;rw[aw,ay,az];exact U.2 j x f ap au
 ·unfold jR;rw[am];exact ai
theorem StateM.same {w:x5} {aI ax:Nat} {A R:av} {n:bS} {s s':bh} {t:aR} (h:StateM w aI ax A R n s t) (E:qj s s'):StateM w aI ax A R n s' t:=by
 obtain⟨I,J,O,U,h⟩:=h;exact⟨I,J,O,U,h.same E⟩
theorem uc {α β:Type} {f:α→List β}:∀ {L:List α} {i j:Nat} {a b:α},L[i]? =some a→(f b).length=(f a).length→(((L.set i b).take j).flatMap f).length=((L.take j).flatMap f).length
 |[],_,_,_,_,h,_=>by simp at h
 |x::L,0,j,a,b,h,E=>by
  cases h;cases j with
  |zero=>rfl
  |succ j=>simp[E]
 |x::L,i+1,j,a,b,h,E=>by
  have h:L[i]? =some a:=by simpa using h
  cases j with
  |zero=>rfl
  |succ j=>
   rw[List.set_cons_succ,List.take_succ_cons,List.take_succ_cons,X9,X9,o5,o5,uc h E]
theorem Fp (s:bh) (c:Int):qj s {s with zero:=c}:=⟨rfl,rfl,fun j f h=>⟨f,h,rfl,rfl,rfl⟩,rfl⟩
theorem Fq {s:bh} {i:Nat} {x y:ih} (E:s.vars[i]? =some x) (J:y.un.length=x.un.length):qj s {s with vars:=s.vars.set i y}:=by
 have I:(fK y).length=(fK x).length:=by simp[fK,J]
 refine⟨?_,rfl,fun j f h=>⟨f,h,rfl,rfl,?_⟩,rfl⟩
 ·unfold gm;rw[show ({s with vars:=s.vars.set i y}:bh).vars.length=s.vars.length from U1];apply List.map_congr_left;intro j _;unfold eR;rw[uc E I]
 ·unfold fr;have:=uc (j:=s.vars.length) E I;rw[Z1 (by simp),Z1 (o7 _)] at this;show 3+(((s.vars.set i y).flatMap fK).length+_)=_;rw[this]
theorem aR.ud (t:aR) (i:Nat) (x:Int):(t.set i x).marks=t.marks:=by
 unfold aR.set;cases t.cells[i]? with
 |none=>rfl
 |some c=>
  simp only;cases t.marks.getLast? with
  |none=>rfl
  |some m=>simp only;split <;> rfl
theorem aR.yP (t:aR) (i:Nat) (x:Int):(t.set i x).cells.length=t.cells.length:=by
 have h:=congrArg V4 (aR.px (t:=t) (i:=i) (x:=x));rw[U1] at h;unfold aR.b2 at h;rwa [o3,o3] at h
theorem aR.yQ (t:aR) (i:Nat) (x:Int):(t.set i x).olds.length≤t.olds.length+1:=by
 unfold aR.set;cases t.cells[i]? with
 |none=>exact Nat.le_succ _
 |some c=>
  simp only;cases t.marks.getLast? with
  |none=>exact Nat.le_succ _
  |some m=>simp only;split <;> simp
theorem aR.ue {t:aR} (h:t.marks=[]) (i:Nat) (x:Int):(t.set i x).olds=t.olds:=by
 unfold aR.set;cases t.cells[i]? with
 |none=>rfl
 |some c=>simp only[h,List.getLast?_nil]
def eS (t:aR) (l:List Int):Nat→aR
 |0=>t.grow l.length
 |i+1=>(eS t l i).set (t.cells.length+i) (l.getD i 0)
def kL (t:aR) (l:List Int):aR:=eS t l l.length
theorem qk (t:aR) (l:List Int):∀ i,(eS t l i).marks=t.marks
 |0=>rfl
 |i+1=>(aR.ud _ _ _).trans (qk t l i)
theorem uf (t:aR) (l:List Int):∀ i,(eS t l i).cells.length=t.cells.length+l.length
 |0=>by simp[eS,aR.grow]
 |i+1=>(aR.yP _ _ _).trans (uf t l i)
theorem ug (t:aR) (l:List Int):∀ i,(eS t l i).olds.length≤t.olds.length+i
 |0=>o7 _
 |i+1=>by have:=aR.yQ (eS t l i) (t.cells.length+i) (l.getD i 0);have:=ug t l i;show (aR.set _ _ _).olds.length≤_;omega
theorem yR {t:aR} (h:t.marks=[]) (l:List Int):∀ i,(eS t l i).olds=t.olds
 |0=>rfl
 |i+1=>(aR.ue ((qk t l i).trans h) _ _).trans (yR h l i)
theorem yS (t:aR) (l:List Int):∀ i,i≤l.length→(eS t l i).b2=t.b2++(l.take i++p9 (l.length-i) 0)
 |0,_=>by rw[List.take_zero,List.nil_append];exact aR.Bf
 |i+1,h=>by
  have E:=yS t l i (by omega);show (aR.set _ _ _).b2=_;have I:t.b2.length=t.cells.length:=by simp[aR.b2]
  rw[aR.px,E,T2 _ _ (by omega),I,Nat.add_sub_cancel_left,T2 _ _ (by rw[l7];omega),l7,Nat.min_eq_left (by omega),W7,show l.length-i=(l.length-(i+1))+1 by omega,List.replicate_succ,List.set_cons_zero,o4,p8,x3 (show i<l.length by omega)];simp only[c8,T4,V0,List.singleton_append]
theorem yT (t:aR) (l:List Int):(kL t l).b2=t.b2++l:=by
 unfold kL;rw[yS t l _ (o7 _),l5,W7,List.replicate_zero,U2]
theorem hq.eS {h:List aR} {t:aR} (E:hq t h) (l:List Int):∀ i,hq (eS t l i) h
 |0=>E.grow
 |i+1=>(hq.eS E l i).set
theorem lI {s:Go.Sem x4} {x:x4} {w:x5} (h:I y0 s w (fun v=>v=x)):ai y0 s x w:=by
 obtain⟨v,h,rfl⟩:=h;exact h
theorem r7 {w:x5} {aI off:Nat} {z:Nat} {E:o6} {e:o6} {cs:List x4} {x:x4} (J:ak w aI e cs) (O:∀ (K:x4→Prop),I y0 (x2 aM (.pointer (some ⟨aI,0,none⟩)) z) w K=K (.pointer (some ⟨aI,0+off,none⟩))) (U:ku y0 E=true) (V:cs[0+off]? =some x):
  ai y0 (x1 E (.pointer (some ⟨aI,0+off,none⟩))) x w∧ai y0 (x2 aM (.pointer (some ⟨aI,0,none⟩)) z) (.pointer (some ⟨aI,0+off,none⟩)) w∧ai y0 (aj (.pointer (some ⟨aI,0,none⟩))) (.pointer (some ⟨aI,0,none⟩)) w∧True:=
 ⟨vR U (J.cell V),lI (by rw[O]),lI (by rw[az]),trivial⟩
set_option maxHeartbeats 2000000 in
theorem yU {w:x5} {aI ax X:Nat} {Y Z aa:x4} {A R:av} {n:bS} {s:bh} {t:aR} {I:x4} {l:List Int} (h:ei w aI ax X Y Z aa A R n s t) (ab:aG .i64 w I l) (ao:∀ r,leads I r→¬A r) (a6:t.cells.length+l.length≤100000000) (a7:t.olds.length+l.length≤100000000) (hm:t.marks.length≤100000000):
  O y0 iC [.pointer (some ⟨aI,0,none⟩),I] w fun v w'=>v= .int .i64 (t.cells.length:Int)∧ ∃ J,Grow A w J w'∧ei w' aI ax X Y Z aa J R n s (kL t l):=by
 apply iC.enter;obtain⟨_,ap,aq,aw,L,ay,_,w0,ac,_⟩:=id h;obtain⟨aA,ad,ai⟩:=h.lS;rw[az,ah aM.p rfl,al (by kernel_rfl) (ac.cell (o:=0+1) rfl),aQ ae.u ab];refine (Fb (n:=l.length) ad ⟨by omega,by omega,hm⟩ (by omega)).mono ?_;rintro _ aB _ ⟨rfl,aC,aD,aE⟩;obtain⟨aF,aj,aH⟩:=ai aC aB _ aD aE;have ak:∀ {J:av} {w':x5},Grow A w J w'→aG .i64 w' I l:=fun aJ=>hr ab aJ.1 fun r aK a aN c aO aP=>ao r ⟨a,aN,c,aO,aP⟩ aK;rw[aQ ae.u (ak aj)];have aS:=ab.le;refine bd.range l.length (fun i U=>∃ E,Grow A w E U∧ei U aI ax X Y Z aa E R n s (eS t l i)) aS ⟨aF,aj,aH⟩ ?_ ?_
 ·rintro i U k hi ⟨E,V,W⟩ aT;rw[au,ag];refine⟨fun _=>?_,fun h=>by omega⟩;obtain⟨x,am⟩:∃ x,l[i]? =some x:=⟨_,x3 hi⟩;rw[bw ae.u af.i (by kernel_rfl) (ak V) am];obtain⟨_,ap,aq,aw,L,ay,_,w0,ac,_⟩:=id W;obtain⟨aA,ad,ai⟩:=W.lS;have a8:=uf t l i;have ba:=ug t l i;have aU:=qk t l i;rw[az,ah aM.p rfl,al (by kernel_rfl) (ac.cell (o:=0+1) rfl),aL,wrap_i64 (by omega) (by omega)];refine (r5 (i:=t.cells.length+i) ad (by omega) (by omega) ⟨by omega,by omega,by rw[aU];exact hm⟩).mono ?_;rintro _ aV _ ⟨rfl,aW,aX,aY⟩;obtain⟨aZ,a1,a2⟩:=ai aW aV _ aX aY;rw[aL];refine aT _ ⟨aZ,V.trans a1,?_⟩;have e:eS t l (i+1)=(eS t l i).set (t.cells.length+i) x:=by
   show (eS t l i).set _ (l.getD i 0)=_;rw[p8,am];rfl
  rw[e];exact a2
 ·rintro U k ⟨E,V,W⟩;rw[au,ag];exact⟨fun h=>by omega,fun _=>⟨rfl,E,V,W⟩⟩
def gI (s:bh) (sc ao cs:List Int):bh:={s with funs:=s.funs++[⟨sc,ao,1,cs⟩]}
def lT (s:bh) (t:aR) (cs:List Int):aR:=(kL t (1::cs)).set 1 ((s.funs.length+1:Nat):Int)
theorem Fr {s:bh} {t:aR} {sc ao cs:List Int} (h:t.b2=s.cells):(lT s t cs).b2=(gI s sc ao cs).cells:=by
 unfold lT gI;rw[aR.px,yT,h,←Fg];rfl
set_option maxHeartbeats 4000000 in
theorem Fs {w:x5} {aI ax bk:Nat} {bl aW bm:x4} {A R:av} {n:bS} {s:bh} {t:aR} {a7:x4} {sc ao cs:List Int} {g b5:Nat} {aw:x4} {k:Int}
  (h:ei w aI ax bk bl aW bm A R n s t) (cB:t.b2=s.cells) (cC:aG .i64 w a7 sc) (dB:∀ r,leads a7 r→¬A r) (bn:cG w g b5 aw ao k cs) (b6:¬A g∧¬A b5∧ ∀ r,leads aw r→¬A r) (dC:sc.length≤1000)
  (bo:t.cells.length+cs.length+1≤100000000) (bp:t.olds.length+cs.length+1≤100000000) (hm:t.marks.length≤100000000) (dD:s.funs.length≤1000000):
  O y0 ml [.pointer (some ⟨aI,0,none⟩),a7,.pointer (some ⟨g,0,none⟩)] w fun v w'=>v= .int .i64 (s.funs.length:Int)∧ ∃ bd R' bJ,Grow A w bd w'∧ei w' aI ax bk bl bJ bm bd R' n (gI s sc ao cs) (lT s t cs)∧(∀ r,R r→R' r)∧ ∀ r,R' r→R r∨leads aw r∨w.heap.size≤r:=by
 have dE:t.cells.length=s.cells.length:=by rw[←cB];simp[aR.b2]
 have dF:=ua s;have cD:fr (gI s sc ao cs) s.funs.length=t.cells.length:=by
  unfold fr gI;simp only[List.take_left];omega
 have cE:∀ j,j<s.funs.length→fr (gI s sc ao cs) j=fr s j:=fun j bK=>by
  unfold fr gI;simp only[List.take_append_of_le_length (show j≤s.funs.length by omega)]
 have cF:gm (gI s sc ao cs)=gm s:=rfl;apply ml.enter;refine dG (fun bL=>∃ bd R' bJ,Grow A w bd bL∧ei bL aI ax bk bl bJ bm bd R' n (gI s sc ao cs) (kL t (1::cs))∧(∀ r,R r→R' r)∧ ∀ r,R' r→R r∨leads aw r∨w.heap.size≤r) ?_ ?_
 ·rintro bL ⟨dH,cH,cI,cK,cL,cM,cN⟩;intro dI b7 _ _;have b8:=cL.ext b7;obtain⟨_,bq,bM,bt,L,bu,_,w0,aF,_,_,_,⟨be,bw⟩,_⟩:=id b8;have bx:L.length=s.funs.length+1:=by rw[bw.1];simp[gI]
  rw[az,ah aM.p rfl,al (by kernel_rfl) (aF.cell (o:=0+1) rfl),az,ah aM.p rfl,al (by kernel_rfl) (aF.cell (o:=0+3) rfl),eb bc.u be];obtain⟨b9,cO,cP⟩:=b8.lS;have cQ:=uf t (1::cs) (1::cs).length;have cS:=ug t (1::cs) (1::cs).length;have cT:=qk t (1::cs) (1::cs).length;simp only[j9] at cQ cS;refine (r5 (i:=1) (y:=1) cO rfl (by show 1<(eS _ _ _).cells.length;simp only[j9];omega) ⟨by show (eS _ _ _).cells.length≤_;simp only[j9];omega,by show (eS _ _ _).olds.length≤_;simp only[j9];omega,by show (eS _ _ _).marks.length≤_;rw[cT];exact hm⟩).mono ?_;rintro _ cU _ ⟨rfl,cV,cW,cX⟩;obtain⟨cY,cZ,ca⟩:=cP cV cU _ cW cX;obtain⟨_,bq,bM,bt,c0,bu,_,w0,aF,_,_,_,⟨be,c1⟩,_⟩:=id ca;have dJ:c0.length=s.funs.length+1:=by rw[c1.1];simp[gI]
  rw[az,ah aM.p rfl,al (by kernel_rfl) (aF.cell (o:=0+3) rfl),eb bc.u be,dw,wrap_i64 (by omega) (by omega)];refine⟨by congr 1;omega,cY,cH,cI,cK.trans ((Grow.ext b7).trans cZ),?_,cM,cN⟩;have e:lT s t cs=(kL t (1::cs)).set 1 (L.length:Int):=by unfold lT;rw[bx]
  rw[e];exact ca
 intro c2 c3;intro aS a1 _ _;have cb:=h.ext a1;obtain⟨_,bq,bM,bt,L,bu,_,w0,aF,_⟩:=id cb;rw[az,ah aM.p rfl,al (by kernel_rfl) (aF.cell (o:=0+3) rfl)];have z4:=a1.size;have bz:∀ {V:x5} {aB ay:x4} {a2 aC:Nat},Ext aS V→w.heap.size≤a2→w.heap.size≤aC→aq .i64 J V a2 aB sc→aq .i64 af V aC ay (1::cs)→(∀ r,leads aB r∨leads ay r→¬A r)→
   O y0 iC [.pointer (some ⟨aI,0,none⟩),ay] V fun c4 aH=>
    (Ext aS aH∨ai y0 (x1 bc (.pointer (some ⟨aI,0+3,none⟩))) aW aH∧ai y0 (x2 aM (.pointer (some ⟨aI,0,none⟩)) 3) (.pointer (some ⟨aI,0+3,none⟩)) aH∧ai y0 (aj (.pointer (some ⟨aI,0,none⟩))) (.pointer (some ⟨aI,0,none⟩)) aH∧True)∧
    I y0 (Z3 cj #[(0,aB),(1,.agg #[aw]),(2,c4)]) aH fun t22=>
    aa y0 (u9 bc 1 #[(0,t22)]) aH fun c6 aJ=>
     (Ext aS aJ∨ai y0 (x1 bc (.pointer (some ⟨aI,0+3,none⟩))) aW aJ∧ai y0 (x2 aM (.pointer (some ⟨aI,0,none⟩)) 3) (.pointer (some ⟨aI,0+3,none⟩)) aJ∧ai y0 (aj (.pointer (some ⟨aI,0,none⟩))) (.pointer (some ⟨aI,0,none⟩)) aJ∧True)∧
    aa y0 (r8 #[bc,bc] bc #[aW,c6]) aJ fun c7 bA=>
     I y0 (aj (.pointer (some ⟨aI,0,none⟩))) bA fun t25=>
     I y0 (x2 aM t25 3) bA fun c8=>
     aa y0 (x6 bc c8 c7) bA fun(_:Unit) a6=>
      c2 a6:=by
  intro V aB ay a2 aC W cc aA Y ab bN;have c9:=cb.ext W;refine (yU c9 ab.ls (fun r E=>bN r (.inr E)) (by simp only[j9];omega) (by simp only[j9];omega) hm).mono ?_;rintro _ aH _ ⟨rfl,bf,a8,da⟩;obtain⟨⟨cd,ce,db,cg⟩,bq,bM,bt,L,bu,b9,w0,aF,⟨dc,dd,ch⟩,⟨de,ci,ck,aT⟩,bO,⟨be,bw⟩,bP,df⟩:=id da;have aO:aq .i64 J aH a2 aB sc:=br Y a8.1 fun r E=>bN r (.inl E);have bB:aq .i64 J V (Classical.choose (show ∃ gs,aq .i64 J w gs aw ao from by obtain⟨⟨_,gs,_,q,_⟩,_⟩:=bn;exact⟨gs,q⟩)) aw ao:=((Classical.choose_spec (show ∃ gs,aq .i64 J w gs aw ao from by obtain⟨⟨_,gs,_,q,_⟩,_⟩:=bn;exact⟨gs,q⟩)).ext a1).ext W;have dg:=br bB a8.1 b6.2.2;refine⟨.inr (r7 (off:=3) (z:=3) aF (fun K=>by rw[ah aM.p rfl]) (by kernel_rfl) rfl),?_⟩;rw[cR (cs:=#[aB,aw,.int .i64 (t.cells.length:Int)]) (by obtain⟨_,_,_,rfl⟩:=c5 Y.ls;obtain⟨_,_,_,rfl⟩:=c5 bB.ls;kernel_rfl)];let a:nt:=⟨aB,aw,t.cells.length⟩;have dh:∀ u∈jQ a,u.oneCell'=true:=by
   intro u hu;simp[jQ] at hu;rcases hu with rfl|rfl|rfl
   ·exact Y.ls.cells.2
   ·exact bB.ls.cells.2
   ·rfl
  refine fa (f:=jQ) (a:=a) bc.u cj.i (by omega) rfl rfl fun dK dL aJ dM Z di=>?_;refine⟨.inr (r7 (off:=3) (z:=3) (aF.ext Z) (fun K=>by rw[ah aM.p rfl]) (by kernel_rfl) rfl),?_⟩;have bC:=be.ext Z;have bx:L.length=s.funs.length:=bw.1;refine fl (f:=jQ) (a:=a) bc.u cj.i rfl bC (by simpa using di.sl) dh (by omega) (by omega) fun cl dj bA bg dk cm=>?_;have bD:=aF.ext Z;have cp:=bD.ad cm fun he=>cn bC bD (by decide) he;rw[az,ah aM.p rfl];refine bH bc.i (cJ bg.sl).1 (cJ bg.sl).2 cp (by simp) fun a6 bQ dN bR=>?_;have bR:ak a6 aI aM [.pointer (some ⟨bk,0,none⟩),.pointer (some ⟨ax,0,none⟩),bl,cl,bm]:=bR;have aP:am (fun r=>leadsTo aW r∨r=aI) aJ a6:=(cm.mono fun r _ h=>.inl h).trans (bQ.mono fun r _ h=>.inr h);have z9:=W.size;have dO:=a8.1.size;have dP:=Z.size;have dQ:=aP.size;have bT:∀ r,(leadsTo aW r∨r=aI)→bf r:=fun r E=>E.elim (fun E=>(aT r (.inr (.inl E))).1) fun E=>E▸cd;have bU:∀ r,(leadsTo aW r∨r=aI)→¬R r:=fun r E=>ce r (bT r E);let dl:av:=fun r=>bf r∨(aJ.heap.size≤r∧r<a6.heap.size);let bV:av:=fun r=>R r∨(leads aw r∧r<aH.heap.size)∨(leads aB r∧r<aH.heap.size);have dR:∀ r,r<w.heap.size→bf r→A r:=fun r E h=>(a8.2.1 r h).elim id fun h=>by omega
  have bW:∀ r,leads aB r→w.heap.size≤r∧r<V.heap.size:=fun r E=>by obtain⟨h1,ba⟩:=b1 Y E;omega
  have cq:∀ r,leads aw r→r<V.heap.size:=fun r E=>by obtain⟨h1,ba⟩:=b1 bB E;omega
  have bE:∀ r,leads aB r∨leads aw r→¬bf r:=fun r E dm=>by
   rcases a8.2.1 r dm with h|h
   ·rcases E with E|E
    ·exact bN r (.inl E) h
    ·exact b6.2.2 r E h
   ·rcases E with E|E
    ·have:=bW r E;omega
    ·have:=cq r E;omega
  refine c3 _ ⟨dl,bV,cl,(Grow.ext (a1.trans W)).trans (a8.trans ((Grow.ext Z).trans ⟨aP.mono fun r _ E=>bT r E,fun r E=>E.imp id And.left,fun r E=>.inl E⟩)),?_,fun r E=>.inl E,fun r E=>?_⟩
  rotate_left
  ·rcases E with E|E|E
   ·exact .inl E
   ·exact .inr (.inl E.1)
   ·exact .inr (.inr (bW r E.1).1)
  have cr:∀ {v:x4} {bi:Nat} {l:List Int},aq .i64 J aJ bi v l→(∀ r,leads v r→¬bf r)→aq .i64 J a6 bi v l:=fun hm dn=>br hm aP fun r E X=>dn r E (bT r X);have ct:∀ r,bV r→r<aJ.heap.size:=fun r E=>by
   rcases E with E|E|E
   ·have:=db r E;omega
   ·omega
   ·omega
  refine⟨⟨.inl cd,fun r E aU=>?_,fun r E=>by have:=ct r E;omega,fun r E=>E.elim (fun E=>by have:=cg r E;omega) And.right⟩,bq,dj,bt,L++[a],bu,b9,w0,bR,⟨dc,r6 (dd.trans Z) aP fun r o E bp X=>bU r X (ch r o E bp),fun r o E bp=>.inl (ch r o E bp)⟩,⟨(de.ext Z).ad aP fun r E X=>?_,fun r E=>.inl (ci r E),ck,fun r E=>?_⟩,?_,⟨bg.ad bQ fun r E he=>?_,?_⟩,(bP.ext Z).ad aP fun r E X=>?_,?_⟩
  ·have:=ct r aU;rcases E with E|E
   ·rcases aU with aU|aU|aU
    ·exact ce r E aU
    ·exact bE r (.inr aU.1) E
    ·exact bE r (.inl aU.1) E
   ·omega
  ·rcases X with X|rfl
   ·exact (aT r (.inr (.inl X))).2 E
   ·exact ck E
  ·rcases E with E|E|E
   ·exact⟨.inl (aT r (.inl E)).1,(aT r (.inl E)).2⟩
   ·obtain⟨h1,ba⟩:=bg.leads E;rcases dk r E with h|h
    ·exact⟨.inl (aT r (.inr (.inl h))).1,(aT r (.inr (.inl h))).2⟩
    ·refine⟨.inr ⟨h,by have:=bQ.size;omega⟩,fun dp=>?_⟩;have:=cg r (ci r dp);omega
   ·exact⟨.inl (aT r (.inr (.inr E))).1,(aT r (.inr (.inr E))).2⟩
  ·rw[cF];exact br (bO.ext Z) aP fun r E X=>by
    rcases X with X|rfl
    ·obtain⟨rfl,c,bo⟩:=ds bC X;exact bZ (bO.ext Z) bo (by decide) E rfl
    ·exact bZ (bO.ext Z) bD (by decide) E rfl
  ·have he:r=aI:=he;subst he;exact cn bg cp (by decide) E
  ·refine⟨by rw[o5,bx];simp[gI],fun j x f bF aX=>?_⟩;have aX:(s.funs++[⟨sc,ao,1,cs⟩])[j]? =some f:=aX;by_cases bK:j<s.funs.length
   ·rw[Y0 (by omega)] at bF;rw[Y0 bK] at aX;obtain⟨dq,dr,dt⟩:=((((ii.ad bw (Z.ad fun _=>False) fun _ _ _ h=>h).ad aP fun r _ E X=>bU r X E).mono (R':=bV) fun r E=>.inl E)).2 j x f bF aX;exact⟨dq,dr,by rw[cE j bK];exact dt⟩
   ·have bX:j=s.funs.length:=by have:=(u4.1 aX).1;simp at this;omega
    rw[Y3 (by omega),bx,bX,W7] at bF;rw[Y3 (by omega),bX,W7] at aX;cases bF;cases aX;refine⟨⟨⟨_,cr (aO.ext Z) fun r E=>bE r (.inl E)⟩,fun r E=>.inr (.inr ⟨E,?_⟩)⟩,⟨⟨_,cr (dg.ext Z) fun r E=>bE r (.inr E)⟩,fun r E=>.inr (.inl ⟨E,?_⟩)⟩,?_⟩
    ·have:=bW r E;omega
    ·have:=cq r E;omega
    ·rw[bX,cD]
  ·rcases X with X|rfl
   ·obtain⟨rfl,c,bo⟩:=ds bC X;exact cn (bP.ext Z) bo (by decide) E
   ·exact cn (bP.ext Z) bD (by decide) E
  ·exact ((jR.ad df (Z.ad fun _=>False) fun _ _ _ h=>h).ad aP fun r _ E X=>bU r X E).mono fun r E=>.inl E
 have bb:=bn.ext a1;have cu:=cC.ext a1;have du:∀ r,A r→r<w.heap.size:=h.1.2.2.2;obtain⟨_,⟨_,_,dS⟩,dU,dV⟩:=id bn;have dW:cs.length≤4096:=by omega
 have bG:∀ {aK:x5} {aY aZ:x4} {au:Nat} {K:x4→x5→Prop},Ext aS aK→aS.heap.size≤au→aq .i64 af aK au aY [1]→aG .i64 aK aZ cs→
   (∀ ay aC V,Ext aS V→am (fun r=>r=au) aK V→w.heap.size≤aC→aq .i64 af V aC ay (1::cs)→(Ext aS V→K ay V))→aa y0 (r8 #[ae,ae] ae #[aY,aZ]) aK K:=by
  intro aK aY aZ au K U bI aL aQ dv;refine gW ae.u af.i rfl aL aQ (by simp;omega) (by simp;omega) fun ay aC V aA ab aN=>?_;have W:Ext aS V:=U.then aN fun r E he=>by have he:r=au:=he;omega
  have dx:=U.size;exact dv ay aC V W aN (by omega) ab W
 have aV:∀ {v:x4} {bi:Nat} {dy:o8} {e:o6} {dz:x5} {l:List Int},aq dy e dz bi v l→w.heap.size≤bi→ ∀ r,leads v r→¬A r:=fun hm dX r E dA=>by
  obtain⟨h1,_⟩:=b1 hm E;have:=du r dA;omega
 refine⟨?_,?_⟩
 ·refine (jE cu (by omega)).mono ?_;rintro aB cw _ ⟨ac,a2,cc,Y⟩;have z5:=ac.size;refine⟨.inl ac,?_,?_⟩
  ·refine (ng (bb.ext ac)).mono ?_;rintro _ cz _ ⟨rfl,ag⟩;have aD:=ac.trans ag;have dY:=aD.size;have dZ:=ag.size;have cA:=(bb.ext ac).ext ag;refine⟨.inl aD,?_,?_⟩
   ·refine dT ae.u af.i rfl fun aY au aK bI U aL=>?_;refine⟨.inl (aD.trans U),?_⟩;refine (kF (cA.ext U)).mono ?_;rintro aZ bY _ ⟨ap,b3,b4,aQ⟩;have aE:=(aD.trans U).trans ap;refine⟨.inl aE,?_⟩;refine bG aE (by omega) (aL.ext ap) aQ.ls fun ay aC V W aN aA ab _=>⟨.inl W,?_⟩;have aO:=br (((Y.ext ag).ext U).ext ap) aN fun r E he=>by have he:r=au:=he;obtain⟨h1,ba⟩:=b1 Y E;omega
    exact bz W (by omega) aA aO ab fun r E=>E.elim (aV Y (by omega) r) (aV ab aA r)
   ·refine (kF cA).mono ?_;rintro aZ aK _ ⟨U,b3,b4,aQ⟩;refine⟨.inl (aD.trans U),?_⟩;have dx:=U.size;refine dT ae.u af.i rfl fun aY au bY bI ap aL=>?_;have aE:=(aD.trans U).trans ap;refine⟨.inl aE,?_⟩;refine bG aE (by omega) aL (aQ.ls.ext ap) fun ay aC V W aN aA ab _=>⟨.inl W,?_⟩;have aO:=br (((Y.ext ag).ext U).ext ap) aN fun r E he=>by have he:r=au:=he;obtain⟨h1,ba⟩:=b1 Y E;omega
    exact bz W (by omega) aA aO ab fun r E=>E.elim (aV Y (by omega) r) (aV ab aA r)
  ·refine dT ae.u af.i rfl fun aY au cz bI ag aL=>?_;have aD:=ac.trans ag;refine⟨.inl aD,?_⟩;refine (ng ((bb.ext ac).ext ag)).mono ?_;rintro _ aK _ ⟨rfl,U⟩;have bj:=aD.trans U;refine⟨.inl bj,?_⟩;refine (kF (((bb.ext ac).ext ag).ext U)).mono ?_;rintro aZ bY _ ⟨ap,b3,b4,aQ⟩;have aE:=bj.trans ap;refine⟨.inl aE,?_⟩;refine bG aE (by omega) ((aL.ext U).ext ap) aQ.ls fun ay aC V W aN aA ab _=>⟨.inl W,?_⟩;have aO:=br (((Y.ext ag).ext U).ext ap) aN fun r E he=>by have he:r=au:=he;obtain⟨h1,ba⟩:=b1 Y E;omega
   exact bz W (by omega) aA aO ab fun r E=>E.elim (aV Y (by omega) r) (aV ab aA r)
 ·refine dT ae.u af.i rfl fun aY au cw bI ac aL=>?_;refine⟨.inl ac,?_⟩;have z5:=ac.size;have ea:au<cw.heap.size:=rP aL (by simp);refine (jE (cu.ext ac) (by omega)).mono ?_;rintro aB cz _ ⟨ag,a2,cc,Y⟩;have aD:=ac.trans ag;refine⟨.inl aD,?_⟩;refine (ng ((bb.ext ac).ext ag)).mono ?_;rintro _ aK _ ⟨rfl,U⟩;have bj:=aD.trans U;refine⟨.inl bj,?_⟩;refine (kF (((bb.ext ac).ext ag).ext U)).mono ?_;rintro aZ bY _ ⟨ap,b3,b4,aQ⟩;have aE:=bj.trans ap;refine⟨.inl aE,?_⟩;refine bG aE (by omega) (((aL.ext ag).ext U).ext ap) aQ.ls fun ay aC V W aN aA ab _=>⟨.inl W,?_⟩;have aO:=br ((Y.ext U).ext ap) aN fun r E he=>by have he:r=au:=he;obtain⟨h1,ba⟩:=b1 Y E;omega
  exact bz W (by omega) aA aO ab fun r E=>E.elim (aV Y (by omega) r) (aV ab aA r)
theorem gn {P:X5} {w:x5} {t e ad:o6} {k:o8} {b g:Nat} {z v x:x4} {l m:List Int} {K:x4→x5→Prop} (W:P.underlying t=some (.slice e)) (hi:aJ P e 1 b z) (X:z.cells.size=1)
  (h:aq k e w g v l) (Y:aG k w x m) (Z:(l.length+m.length)*b≤140737488355328) (ab:l.length+m.length≤9223372036854775807)
  (ac:∀ E I w',aq k e w' I E (l++m)→(∀ r,leads E r→leads v r∨w.heap.size≤r)→am (fun r=>leads v r) w w'→K E w'):aa P (r8 #[t,t] ad #[v,x]) w K:=by
 rcases h.2 with⟨O,ae⟩|⟨cap,cs,O,ah,ai⟩
 ·have af:l=[]:=j5 ae;subst af;have h':aq k e w w.heap.size v []:=by rw[O];exact aq.nil _ _ _ _
  refine gW W hi X h' Y Z ab fun E I w' U hm V=>ac E I w' hm (fun r J=>.inr ?_) (V.mono fun r J he=>by have he:r=w.heap.size:=he;omega);obtain⟨ag,_⟩:=b1 hm J;omega
 ·refine gW W hi X h Y Z ab fun E I w' U hm V=>ac E I w' hm (fun r J=>?_) (V.mono fun r J he=>⟨_,_,_,O,he.symm⟩);obtain⟨ag,_⟩:=b1 hm J;rcases U with U|U
  ·exact .inl ⟨_,_,_,O,by show g=r;omega⟩
  ·exact .inr (by omega)
def addVar (s:bh) (u:List Int):bh:={s with vars:=s.vars++[newVar u]}
theorem Ft (s:bh) (u:List Int):gm (addVar s u)=gm s++[((3+(s.vars.flatMap fK).length:Nat):Int)]:=by
 unfold gm addVar;rw[o5,T3,List.range_succ,j0];congr 1
 ·apply List.map_congr_left;intro i hi;have:=List.mem_range.1 hi;unfold eR;simp only[List.take_append_of_le_length (show i≤s.vars.length by omega)]
 ·simp[eR]
theorem Fu {s:bh} {u:List Int} (E:s.funs=[]):(addVar s u).cells=s.cells++(0::0::u):=by
 unfold bh.cells addVar jN;simp only[E,List.flatMap_nil,U2,List.flatMap_append,List.flatMap_singleton,V0];rfl
def dV (n:bS) (i j:Nat):bh:=⟨n.zero,(n.unary.take i).map newVar,(n.funs.take j).map (iY n.sizes),[]⟩
theorem yV {n:bS} {i:Nat} {u:List Int} (h:n.unary[i]? =some u):dV n (i+1) 0=addVar (dV n i 0) u:=by
 unfold dV addVar;simp only[o4,h,c8,j0,List.map_singleton]
theorem Fv {n:bS} {i j:Nat} {g:cg} (h:n.funs[j]? =some g):dV n i (j+1)=gI (dV n i j) g.1 (cb n.sizes g.1) g.2:=by
 unfold dV gI;simp only[o4,h,c8,j0,List.map_singleton];rfl
theorem yW (n:bS):dV n n.unary.length n.funs.length=dJ n:=by
 unfold dV dJ;rw[l5,l5]
theorem uh {α β:Type} {f:α→List β} {b:Nat}:∀ {L:List α},(∀ x∈L,(f x).length≤b)→(L.flatMap f).length≤L.length*b
 |[],_=>by simp
 |x::L,h=>by
  rw[X9,o5,j9,V1];have:=uh (L:=L) fun y E=>h y (.tail _ E);have:=h x (.head _);omega
theorem ui {n:bS} (E:hA n) (Z:n.funs.length≤256) (i j:Nat):(dV n i j).cells.length≤2000000:=by
 rw[ua];have h1:=uh (f:=fK) (b:=34) (L:=(dV n i j).vars) fun x J=>by
  obtain⟨u,hu,rfl⟩:=l9.1 (show x∈(n.unary.take i).map newVar from J);obtain⟨p,O⟩:=X1.1 (List.mem_of_mem_take hu);have aa:=E.ig;have ab:=(u4.1 O).1;obtain⟨z,U⟩:∃ z,n.sizes[p]? =some z:=⟨_,x3 (by omega)⟩;have W:=(E.unary p z u U O).1;have I:=E.sizes.2.2 z (u5 U);show u.length+2≤34;omega
 have W:=uh (f:=jM) (b:=4097) (L:=(dV n i j).funs) fun x J=>by
  obtain⟨g,X,rfl⟩:=l9.1 (show x∈(n.funs.take j).map (iY n.sizes) from J);have I:=(E.funs g (List.mem_of_mem_take X)).1;have V:=I.len;have Y:=I.small;show g.2.length+1≤4097;omega
 have I:(dV n i j).vars.length≤64:=by
  show ((n.unary.take i).map newVar).length≤64;rw[o3,l7];have:=E.ig;have:=E.sizes.2.1;omega
 have V:(dV n i j).funs.length≤256:=by
  show ((n.funs.take j).map (iY n.sizes)).length≤256;rw[o3,l7];omega
 have Y:=X6 34 I;have ac:=X6 4097 V;omega
def Plain (t:aR):Prop:=t.marks=[]∧t.olds=[]∧hq t []
theorem Plain.set {t:aR} (h:Plain t) (i:Nat) (x:Int):Plain (t.set i x):=⟨(aR.ud _ _ _).trans h.1,(aR.ue h.1 _ _).trans h.2.1,h.2.2.set⟩
theorem Plain.lay {t:aR} (h:Plain t) (l:List Int):Plain (kL t l):=⟨(qk _ _ _).trans h.1,(yR h.1 _ _).trans h.2.1,h.2.2.eS l _⟩
theorem Plain.put {s:bh} {t:aR} (h:Plain t) (cs:List Int):Plain (lT s t cs):=(h.lay _).set _ _
def Fw (w:x5) (n:bS) (v:x4) (w':x5):Prop:=Ext w w'∧ ∃ aI ax A R t,v= .pointer (some ⟨aI,0,none⟩)∧StateM w' aI ax A R n (dJ n) t∧t.b2=(dJ n).cells∧Plain t∧ ∀ r,A r→w.heap.size≤r
set_option maxHeartbeats 4000000 in
theorem Fx {w:x5} {U:Nat} {n:bS} (h:eQ w U n) (V:hA n) (bk:n.funs.length≤256):O y0 kb [.pointer (some ⟨U,0,none⟩)] w (Fw w n):=by
 have bY:=V.ig;have c4:=V.sizes.2.1;apply kb.enter;rw[b8 dl.u];simp only[c9,aU];refine (Fc (n:=3) (by omega)).mono ?_;rintro _ bl _ ⟨aH,ax,rfl,b3⟩;rw[cR (cs:=#[.pointer (some ⟨U,0,none⟩),.pointer (some ⟨ax,0,none⟩),.slice none 0 0,.slice none 0 0,.slice none 0 0]) (by kernel_rfl)];refine cc fun aI bm c5 ao ap=>?_;have ap:ak bm aI aM [.pointer (some ⟨U,0,none⟩),.pointer (some ⟨ax,0,none⟩),.slice none 0 0,.slice none 0 0,.slice none 0 0]:=ap;have c6:=aH.size;have c8:=ao.size;have da:=ap.lt;have b4:ei bm aI ax U (.slice none 0 0) (.slice none 0 0) (.slice none 0 0) (fun r=>r=aI∨(w.heap.size≤r∧r<bl.heap.size)) (fun r=>r<w.heap.size) n ⟨0,[],[],[]⟩ ⟨p9 3 ⟨0,0⟩,[],[],0⟩:=by
  refine⟨⟨.inl rfl,fun r E aa=>?_,fun r E=>?_,fun r E=>?_⟩,0,0,0,[],[],fun r=>w.heap.size≤r∧r<bl.heap.size,w,ap,⟨h,aH.trans ao,fun r o E _=>(l6.1 E).1⟩,⟨(b3.cut).ext ao,fun r E=>.inr E,fun E=>?_,fun r E=>?_⟩,aq.nil _ _ _ _,⟨aZ.nil _ _ _ _ _,rfl,fun j x f av=>by simp at av⟩,aZ.nil _ _ _ _ _,rfl,fun j x f av=>by simp at av⟩
  ·have aa:r<w.heap.size:=aa;rcases E with E|E <;> omega
  ·have E:r<w.heap.size:=E;omega
  ·rcases E with E|E <;> omega
  ·omega
  ·rcases E with E|E|E
   ·obtain⟨a,db,c,aY,dc⟩:=E;cases aY
   ·exact (dI E).elim
   ·exact (dI E).elim
 intro dd aw _ _;have b5:=b4.ext aw;rw[az,ah aM.p rfl,al (by kernel_rfl) ((ap.ext aw).cell (o:=0+1) rfl)];refine (Fj (h.ext ((aH.trans ao).trans aw))).mono ?_;rintro _ de _ ⟨rfl,aJ⟩;refine⟨.inl aJ,?_⟩;have b6:=b5.ext aJ;obtain⟨a1,b7,b9⟩:=b6.lS;refine (r5 (i:=0) (y:=0) b7 rfl (by decide) ⟨by simp,by simp,by simp⟩).mono ?_;rintro _ bn _ ⟨_,ca,cb,cd⟩;obtain⟨ce,bo,a2⟩:=b9 ca bn _ cb cd;have a2:=a2.same (Fp ⟨0,[],[],[]⟩ n.zero);have z3:=aw.size;have z4:=aJ.size;have cg:=((aH.trans ao).trans aw).trans aJ;have bp:Ext w bn:=cg.then bo.1 fun r E he=>by rcases he with he|he <;> omega
 refine (ub (h.ext bp)).mono ?_;rintro _ df _ ⟨rfl,bq⟩;refine bd.range n.sizes.length (fun i aK=>∃ A Z t,Ext w aK∧ei aK aI ax U Z (.slice none 0 0) (.slice none 0 0) A (fun r=>r<w.heap.size) n (dV n i 0) t∧t.b2=(dV n i 0).cells∧Plain t∧ ∀ r,A r→w.heap.size≤r) (by omega)
  ⟨ce,_,_,bp.trans bq,a2.ext bq,?_,?_,fun r E=>?_⟩ ?_ ?_
 ·rw[aR.px];rfl
 ·exact Plain.set (t:=⟨p9 3 ⟨0,0⟩,[],[],0⟩) ⟨rfl,rfl,rfl,rfl,fun c X=>by rw[(List.mem_replicate.1 X).2];exact o7 _⟩ _ _
 ·rcases bo.2.1 r E with he|he
  ·rcases he with he|he <;> omega
  ·omega
 ·rintro i aK ch hi ⟨A,Z,t,ac,a6,ay,aA,aN⟩ ci;obtain⟨u,hu⟩:∃ u,n.unary[i]? =some u:=⟨_,x3 (by omega)⟩;obtain⟨bt,bu⟩:∃ z,n.sizes[i]? =some z:=⟨_,x3 (by omega)⟩;have dg:u.length≤32:=by
   have dh:=(V.unary i bt u bu hu).1;have di:=V.sizes.2.2 bt (u5 bu);omega
  rw[au,ag];refine⟨fun _=>?_,fun h=>by omega⟩;refine (yM (h.ext ac) V).mono ?_;rintro dj dk _ ⟨cj,_,ck⟩;obtain⟨dm,dn,cl⟩:=ck u (by omega) (by rw[c7];exact hu);intro a8 bw _ _;have ba:=cj.trans bw;have bx:=a6.ext ba;obtain⟨⟨_,_,_,aB⟩,cm,bz,bA,L,bB,a1,w0,aO,_⟩:=id bx;have dp:=ba.size;have dq:=ac.size;rw[az,ah aM.p rfl,al (by kernel_rfl) (aO.cell (o:=0+2) rfl)];refine py (l:=[0,0]) ae.u af.i (by omega) rfl (by kernel_rfl) fun cn dr ds dt aP bC=>?_;refine⟨.inl aP,?_⟩;refine gn ae.u af.i rfl bC ((cl.ext bw).ls.ext aP) (by simp;omega) (by simp;omega) fun cp du cq cr ct cu=>?_;have bD:∀ r,leads cn r→a8.heap.size≤r:=fun r E=>by obtain⟨aY,_⟩:=b1 bC E;omega
  have aQ:Ext a8 cq:=aP.then cu fun r E he=>by have:=bD r he;omega
  refine⟨.inl aQ,?_⟩;have cw:=bx.ext aQ;have cz:∀ r,leads cp r→a8.heap.size≤r:=fun r E=>by
   rcases ct r E with h|h
   ·exact bD r h
   ·have:=aP.size;omega
  have cA:t.cells.length≤2000000:=by
   have h1:=ui V bk i 0;rw[←ay] at h1;unfold aR.b2 at h1;rwa [o3] at h1
  have cB:t.olds.length=0:=by rw[aA.2.1];rfl
  have cC:t.marks.length=0:=by rw[aA.1];rfl
  refine (yU cw cr.ls (fun r E I=>by have:=aB r I;have:=cz r E;omega) (by simp;omega) (by simp;omega) (by omega)).mono ?_;rintro _ dv _ ⟨rfl,bb,bc,cD⟩;obtain⟨⟨bE,bF,cE,bG⟩,cm,bz,bA,L,bB,a1,w0,aO,⟨cF,cG,bI⟩,⟨cH,bJ,bK,aS⟩,cI,⟨cJ,cK⟩,cL,cM⟩:=id cD;refine⟨.inr (r7 (off:=2) (z:=2) aO (fun K=>by rw[ah aM.p rfl]) (by kernel_rfl) rfl),?_⟩;refine dT (k:=.i64) ab.u J.i rfl fun dw dx bL dy Y cN=>?_;have be:=aO.ext Y;refine⟨.inr (r7 (off:=2) (z:=2) be (fun K=>by rw[ah aM.p rfl]) (by kernel_rfl) rfl),?_⟩;have bM:(gm (dV n i 0)).length=i:=by
   unfold gm dV;simp only[o3,List.length_range,l7];omega
  have bN:=cI.ext Y;refine gn ab.u J.i rfl bN cN.ls (by rw[bM];simp;omega) (by rw[bM];simp;omega) fun bO cO dz aC cP bP=>?_;have bQ:=be.ad bP fun he=>bZ bN be (by decide) he rfl;rw[az,ah aM.p rfl];refine bH ab.i aC.ls.cells.1 aC.ls.cells.2 bQ (by simp) fun bf bg dA bh=>?_;have bh:ak bf aI aM [.pointer (some ⟨U,0,none⟩),.pointer (some ⟨ax,0,none⟩),bO,.slice none 0 0,.slice none 0 0]:=bh;rw[aL];have X:am (fun r=>leads Z r∨r=aI) bL bf:=(bP.mono fun r _ h=>.inl h).trans (bg.mono fun r _ h=>.inr h);have dB:=aQ.size;have z12:=bc.1.size;have dC:=Y.size;have dD:=X.size;have bR:∀ r,bb r→w.heap.size≤r:=fun r E=>(bc.2.1 r E).elim (aN r) fun h=>by omega
  have bT:∀ r,(leads Z r∨r=aI)→bb r:=fun r E=>E.elim (fun E=>(aS r (.inl E)).1) fun E=>E▸bE;have cQ:(dV n (i+1) 0).cells=(dV n i 0).cells++(0::0::u):=by rw[yV hu];exact Fu rfl
  have cS:t.cells.length=3+((dV n i 0).vars.flatMap fK).length:=by
   have h1:=congrArg V4 ay;rw[ua] at h1;unfold aR.b2 at h1;rw[o3] at h1;have:((dV n i 0).funs.flatMap jM).length=0:=by simp[dV]
   omega
  refine ci _ ⟨fun r=>bb r∨(bL.heap.size≤r∧r<bf.heap.size),bO,kL t ([0,0]++u),?_,⟨⟨.inl bE,fun r E aa=>?_,fun r E=>by have:=cE r E;omega,fun r E=>?_⟩,cO,bz,bA,L,bB,a1,w0,bh,⟨cF,r6 (cG.trans Y) X fun r o E cT W=>bF r (bT r W) (bI r o E cT),bI⟩,⟨(cH.ext Y).ad X fun r E W=>?_,fun r E=>.inl (bJ r E),bK,fun r E=>?_⟩,?_,⟨(cJ.ext Y).ad X fun r E W=>?_,?_⟩,(cL.ext Y).ad X fun r E W=>?_,?_⟩,?_,aA.lay _,fun r E=>?_⟩
  ·exact ((ac.trans (ba.trans aQ)).then bc.1 fun r E he=>by have:=aN r he;omega).trans Y |>.then X fun r E W=>by have:=bR r (bT r W);omega
  ·rcases E with E|E
   ·exact bF r E aa
   ·have aa:r<w.heap.size:=aa;omega
  ·rcases E with E|E
   ·have:=bG r E;omega
   ·exact E.2
  ·rcases W with W|rfl
   ·exact (aS r (.inl W)).2 E
   ·exact bK E
  ·rcases E with E|E|E
   ·have dE:=(b1 aC E);rcases cP r E with h|h
    ·exact⟨.inl (aS r (.inl h)).1,(aS r (.inl h)).2⟩
    ·refine⟨.inr ⟨h,by have:=bg.size;omega⟩,fun cU=>by have:=bG r (bJ r cU);omega⟩
   ·exact (dI E).elim
   ·exact (dI E).elim
  ·rw[yV hu,Ft,←cS];exact br aC bg fun r E he=>by
    have he:r=aI:=he;subst he;exact bZ aC bQ (by decide) E rfl
  ·exact (dI E).elim
  ·refine⟨cK.1,fun j x f av bi=>?_⟩;have bi:((n.funs.take 0).map (iY n.sizes))[j]? =some f:=bi;simp at bi
  ·exact (dI E).elim
  ·refine⟨cM.1,fun j x e av he=>?_⟩;have he:([]:List tY)[j]? =some e:=he;simp at he
  ·rw[yT,cQ,ay];rfl
  ·rcases E with E|E
   ·exact bR r E
   ·omega
 ·rintro aK ch ⟨A,Z,t,ac,a6,ay,aA,aN⟩;rw[au,ag];refine⟨fun h=>by omega,fun _=>?_⟩;refine (yL (h.ext ac)).mono ?_;rintro _ dF _ ⟨rfl,bU⟩;refine bd.range n.funs.length (fun j aD=>∃ A R aT t,Ext w aD∧ei aD aI ax U Z aT (.slice none 0 0) A R n (dV n n.sizes.length j) t∧t.b2=(dV n n.sizes.length j).cells∧Plain t∧ ∀ r,A r→w.heap.size≤r) (by omega)
   ⟨A,_,_,t,ac.trans bU,a6.ext bU,ay,aA,aN⟩ ?_ ?_
  ·rintro j aD cV cW ⟨A,R,aT,t,ai,aE,aj,aF,aG⟩ cX;obtain⟨g,aV⟩:∃ g,n.funs[j]? =some g:=⟨_,x3 cW⟩;have bj:=(V.funs g (u5 aV)).1;rw[au,ag];refine⟨fun _=>?_,fun h=>by omega⟩;refine (Fk (h.ext ai) V aV).mono ?_;rintro a7 dG _ ⟨aW,gs,dH,bV⟩;refine (Fm h (ai.trans aW) aV).mono ?_;rintro _ dK _ ⟨aX,dL,dM,dN,rfl,dO,dP,cY,cZ⟩;have c0:=(aE.ext aW).ext aX;have aB:∀ r,A r→r<aD.heap.size:=aE.1.2.2.2;have dQ:=aW.size;have cA:t.cells.length≤2000000:=by
    have h1:=ui V bk n.sizes.length j;rw[←aj] at h1;unfold aR.b2 at h1;rwa [o3] at h1
   have cB:t.olds.length=0:=by rw[aF.2.1];rfl
   have cC:t.marks.length=0:=by rw[aF.1];rfl
   have dR:g.2.length≤4096:=by have:=bj.len;have:=bj.small;omega
   have dS:g.1.length≤6:=bj.scope.2;refine (Fs (sc:=g.1) c0 aj (bV.ls.ext aX) (fun r E I=>by have:=aB r I;obtain⟨aY,_⟩:=b1 bV E;omega) cY ⟨fun I=>by have:=aB _ I;omega,fun I=>by have:=aB _ I;omega,fun r E I=>by have:=aG r I;have:=cZ r E;omega⟩ (by omega) (by omega) (by omega) (by omega) ?_).mono ?_
   ·show ((n.funs.take j).map (iY n.sizes)).length≤_;rw[o3,l7];omega
   rintro _ dU _ ⟨rfl,c1,R',c2,bW,c3,dW,dX⟩;rw[aL];have bX:=Fv (i:=n.sizes.length) aV;refine cX _ ⟨c1,R',c2,lT (dV n n.sizes.length j) t g.2,((ai.trans aW).trans aX).then bW.1 (fun r E I=>by have:=aG r I;omega),?_,?_,aF.put _,fun r E=>?_⟩
   ·rw[bX];exact c3
   ·rw[bX];exact Fr aj
   ·rcases bW.2.1 r E with h|h
    ·exact aG r h
    ·have:=ai.size;have:=aX.size;omega
  ·rintro aD cV ⟨A,R,aT,t,ai,aE,aj,aF,aG⟩;rw[au,ag];refine⟨fun h=>by omega,fun _=>?_⟩;have e:dV n n.sizes.length n.funs.length=dJ n:=by rw[←bY];exact yW n
   rw[e] at aE aj;exact⟨ai,aI,ax,A,R,t,rfl,⟨U,Z,aT,_,aE⟩,aj,aF,aG⟩
set_option maxHeartbeats 2000000 in
theorem Fy {l:List Int} {w:x5} (am:Bytes l) (az:l.length≤100000):O y0 oC [bx l] w fun v w'=>v=h7 l∧Ext w w':=by
 apply oC.enter;refine iH (fun aF aG ai=>Ext w ai∧ ∃ (m:List Int) (s:Int),aF=bx m∧aG= .int .i64 s∧Bytes m∧m.length≤100000∧na l m s) ?_ ?_
 ·rintro _ _ ai ⟨ao,m,s,rfl,rfl,aj,aY,ak⟩;rw[lB a1.u,bM,ag];refine⟨fun ap=>?_,fun ap=>?_⟩
  ·have aq:m=[]:=j5 (by omega);exact⟨by rw[rl ak (by rw[aq];rfl)],ao⟩
  have aq:m≠[]:=fun h=>ap (by rw[h];rfl);refine jk.range m.length (fun i _ _ av aw V=>Ext ai V∧ ∃ (n:Int) (E:Bool),av= .int .u64 n∧aw= .bool E∧kA n E ((m.take i).foldl dZ 0)∧(m.take i).all eW=true) (by omega) ⟨Ext.refl _,0,false,rfl,rfl,Bc,rfl⟩ ?_ ?_
  ·rintro i aH t3 _ _ V aI hi ⟨ac,n,E,rfl,rfl,X,ad⟩ aJ;obtain⟨b,Y⟩:∃ b,m[i]? =some b:=⟨_,x3 hi⟩;have aZ:=aj b (u5 Y);rw[lB a1.u,au,ag];refine⟨fun _=>?_,fun h=>by omega⟩;refine s5 (fun _ _ av aw W=>Ext ai W∧ ∃ (n:Int) (E:Bool),av= .int .u64 n∧aw= .bool E∧kA n E ((m.take (i+1)).foldl dZ 0)∧(m.take (i+1)).all eW=true) ?_ ?_
   ·rintro a2 a6 a3 a4 W aK;rw[aL];exact aJ _ _ _ _ _ aK
   intro aM aa;refine aV (fun v W=>V=W∧v= .bool (!eW b)) ?_ ?_
   rotate_left
   ·intro ax J;rw[pz rfl a1.u aj Y,au,ag];refine⟨fun h=>J _ _ ⟨rfl,by unfold eW;rw[decide_eq_false (by omega)];rfl⟩,fun h=>?_⟩;rw[pz rfl a1.u aj Y,bT];refine J _ _ ⟨rfl,?_⟩;unfold eW;congr 1;by_cases aA:57<b
    ·rw[decide_eq_true aA,decide_eq_false (by omega)];rfl
    ·rw[decide_eq_false aA,decide_eq_true (by omega)];rfl
   rintro _ _ ⟨rfl,rfl⟩;cases ay:eW b with
   |false=>
    rw[Y8,bm];exact⟨by rw[rl ak (wJ Y ay)],ao.trans ac⟩
   |true=>
    rw[Y7,aU];have aN:=of_decide_eq_true ay;have al:=Bb X aN;rw[wH Y,wG Y,ad,ay] at aa;have aO:=X.1;have aP:=X.2.1;refine aV (fun v W=>V=W∧v= .bool (E||decide (461168601842738790<n))) ?_ ?_
    rotate_left
    ·intro ax J;rw[bT,ag];refine⟨fun h=>J _ _ ⟨rfl,by rw[decide_eq_true h,Bool.or_true]⟩,fun h=>J _ _ ⟨rfl,by rw[decide_eq_false h,Bool.or_false]⟩⟩
    rintro _ _ ⟨rfl,rfl⟩;by_cases ae:E=true∨461168601842738790<n
    ·have Z:(E||decide (461168601842738790<n))=true:=by rcases ae with h|h <;> simp[h]
     rw[if_pos ae,Z] at al;rw[Z,b4,Y7,aU];exact aa _ _ _ _ _ ⟨ac,n,true,rfl,rfl,al,rfl⟩
    ·have Z:(E||decide (461168601842738790<n))=false:=by
      cases E with
      |true=>exact absurd (.inl rfl) ae
      |false=>simp;omega
     rw[if_neg ae,Z] at al;have a7:¬461168601842738790<n:=fun h=>ae (.inr h);rw[Z,b4,Y8,bm,fZ,pz rfl a1.u aj Y,dw,wrap_u8 (by omega) (by omega),fC bi.u bG.u,wrap_u64 (by omega) (by omega),wrap_u64 (by omega) (by omega),aL,wrap_u64 (by omega) (by omega)];exact aa _ _ _ _ _ ⟨ac,_,false,rfl,rfl,al,rfl⟩
  ·rintro aH t3 _ _ V aI ⟨ac,n,E,rfl,rfl,X,ad⟩;rw[l5] at ad X;rw[lB a1.u,au,ag];refine⟨fun h=>by omega,fun _=>?_⟩;have aB:=Bd X;have aO:=X.1;have aP:=X.2.1;have aQ:∀ {x:Int},x=m.foldl dZ 0→0≤x→x≤4611686018427387904→(I y0 (convert bG af (.int .u64 x)) V fun aR=>
     I y0 (U .mul af false false (.int .i64 s) aR) V fun aS=>(fun v w'=>v=h7 l∧Ext w w') (.tuple #[aS,(.int .i64 0)]) V):=by
    intro x aT ap h1;rw[fC bG.u af.u,wrap_i64 (by omega) (by omega),fZ];have hw:X3.wrap (s*x)=s*x:=by
     rcases ak.1 with rfl|rfl <;> exact wrap_i64 (by omega) (by omega)
    rw[hw];refine⟨?_,ao.trans ac⟩;rw[wM ak (wI aq ad),aT]
   refine aV (fun v W=>V=W∧v= .int .u64 (m.foldl dZ 0)) ?_ ?_
   ·rintro _ _ ⟨rfl,rfl⟩;have aC:=ra (l:=m) (n:=0) ad ⟨Int.le_refl _,by decide⟩;exact aQ rfl aC.1 aC.2
   intro ax J;refine aV (fun v W=>V=W∧v= .bool (E||decide (4611686018427387904<n))) ?_ ?_
   ·rintro _ _ ⟨rfl,rfl⟩;rw[cv];refine⟨fun h=>J _ _ ⟨rfl,?_⟩,fun h=>J _ _ ⟨rfl,?_⟩⟩
    ·have h':E=true∨4611686018427387904<n:=by simpa using h
     rw[aB,if_pos h']
    ·have h':¬(E=true∨4611686018427387904<n):=by
      intro ah;rcases ah with ah|ah
      ·simp[ah] at h
      ·simp[ah] at h
     rw[aB,if_neg h']
   ·intro fk aD;cases E with
    |true=>rw[bm];exact aD _ _ ⟨rfl,rfl⟩
    |false=>rw[aU,bT];exact aD _ _ ⟨rfl,by rw[Bool.false_or]⟩
 ·intro aM aa;refine aV (fun v aW=>w=aW∧ ∃ c:Bool,v= .bool c∧(c=true↔l[0]? =some 45)) ?_ ?_
  ·rintro _ _ ⟨rfl,c,rfl,aE⟩;rw[cv];refine⟨fun aX=>?_,fun Z=>?_⟩
   ·obtain⟨m,rfl⟩:∃ m,l=45::m:=by
     have:=aE.1 aX;cases l with
     |nil=>simp at this
     |cons x m=>exact⟨m,by simp at this;rw[this]⟩
    rw[vV (y:=1) (i:=1) rfl a1.u (by simp)];exact aa _ _ _ ⟨Ext.refl _,m,-1,rfl,rfl,fun b ab=>am b (.tail _ ab),by simp at az;omega,wK⟩
   ·refine aa _ _ _ ⟨Ext.refl _,l,1,rfl,rfl,am,az,wL fun b ab he=>?_⟩;subst he;have:=aE.2 ab;rw[Z] at this;cases this
  ·intro ax J;rw[lB a1.u,bT,ag];refine⟨fun h=>?_,fun h=>J _ _ ⟨rfl,false,rfl,?_⟩⟩
   ·obtain⟨b,ab⟩:∃ b,l[0]? =some b:=⟨_,x3 (by omega)⟩;rw[pz (y:=0) (i:=0) rfl a1.u am ab,bM];refine J _ _ ⟨rfl,_,rfl,?_⟩;rw[decide_eq_true_eq,ab];exact⟨fun h=>by rw[h],fun h=>Z2 h⟩
   ·have:l=[]:=j5 (by omega);subst this;simp
theorem Fz {s:Go.Sem x4} {v:x4} {w:x5} {K:x4→Prop} (h:I y0 s w fun u=>u=v) (E:K v):I y0 s w K:=by
 obtain⟨u,h1,rfl⟩:=h;exact⟨u,h1,E⟩
abbrev fs:Type:=List Int×Int
def eI (x:fs):List x4:=[bx x.1,.int .i64 x.2]
theorem uj (x:fs):∀ u∈eI x,u.oneCell'=true:=by
 intro u hu;simp[eI] at hu;rcases hu with rfl|rfl <;> rfl
def gJ (w:x5) (v:x4) (L:List fs):Prop:=b7 w 2 v L.length (L.flatMap eI)
theorem uk {w:x5} {g:Nat} {v:x4} {L:List fs} (h:aZ eI 2 bp w g v L):gJ w v L:=h.sl
theorem yX {w:x5} {v:x4} {L:List fs} {E:o6} {K:x4→Prop} (h:gJ w v L):I y0 (u6 #[cA] E #[v]) w K=K (.int .i64 (L.length:Int)):=by
 obtain⟨_,_,_,_,_,rfl,_⟩:=h;exact ga cA.u
theorem FA {S:Nat→Prop} {w w':x5} {k n:Nat} {v:x4} {cs:List x4} (h:b7 w k v n cs) (J:am S w w') (O:∀ r,leadsTo v r→¬S r):b7 w' k v n cs:=by
 obtain⟨h1,b,o,base,cap,rfl,U,V,I,W⟩:=h;refine⟨h1,b,o,base,cap,rfl,U,V,I,?_⟩;rcases Nat.eq_zero_or_pos n with E|E
 ·have:cs=[]:=j5 (by rw[h1,E,Nat.zero_mul]);subst this;intro j v X;simp at X
 ·have Y:=I E;exact qU J (O b ⟨⟨b,o,none⟩,n,cap,by rw[Y],rfl⟩) W
theorem gJ.ad {S:Nat→Prop} {w w':x5} {v:x4} {L:List fs} (h:gJ w v L) (E:am S w w') (I:∀ r,leadsTo v r→¬S r):gJ w' v L:=FA h E I
theorem yY {w:x5} {v:x4} {x:fs} {L:List fs} {K:x4→Prop} (h:gJ w v (x::L)) (E:∀ b o,w.rangeAt b o (eI x)→K (.pointer (some ⟨b,o,none⟩))):I y0 (x7 cA v (.int .i64 0)) w K:=by
 obtain⟨_,b,o,base,cap,rfl,_,_,J,O⟩:=h;have:=gx (P:=y0) (w:=w) (K:=K) (k:=.i64) (c:=cap) cA.u bp.i (show 0<(x::L).length by simp) J;rw[show ((0:Nat):Int)=0 from rfl] at this;rw[this];refine E _ _ fun j u hu=>?_;have U:=(u4.1 hu).1;rw[Nat.zero_mul,Nat.add_zero];exact O j u (by rw[X9,Y0 U];exact hu)
theorem FB {w:x5} {v:x4} {x:fs} {L:List fs} {K:x4→Prop} (h:gJ w v (x::L)) (U:∀ J,(∀ w',gJ w' v (x::L)→gJ w' J L)→(∀ r,leadsTo J r→leadsTo v r)→K J):I y0 (j4 cA v (some (.int .i64 1)) none none) w K:=by
 have Y:=h;obtain⟨_,b,o,base,cap,rfl,Z,_⟩:=h;rw[gy cA.u bp.i (lp 1 1 rfl) hY eU (by simp) (by omega) (o7 _)];refine U _ (fun w' V=>?_) fun r W=>?_
 ·have:=b7.part (l:=1) (h:=(x::L).length) (m:=cap) V (by simp) (o7 _) (by omega) (o7 _);have e:(((x::L).flatMap eI).drop (1*2)).take (((x::L).length-1)*2)=L.flatMap eI:=by
   rw[X9];have X:(L.flatMap eI).length=L.length*2:=gi (k:=2) fun _ _=>rfl;show (L.flatMap eI).take _=_;rw[Z1 (by rw[X,j9,Nat.add_sub_cancel];exact o7 _)]
  rw[e] at this;exact this
 ·obtain⟨a,n,c,E,O⟩:=W;split at E
  ·cases E;exact⟨_,_,_,rfl,O⟩
  ·cases base with
   |none=>cases E
   |some q=>cases E;exact⟨_,_,_,rfl,O⟩
theorem FC {w:x5} {g n:Nat} {y:Int} {v:x4} {L:List fs} {K:x4→Prop} (U:y=(n:Int)) (h:aZ eI 2 bp w g v L) (V:n≤L.length) (W:∀ J,gJ w J (L.take n)→(∀ r,leadsTo J r→leadsTo v r)→K J):I y0 (j4 cA v none (some (.int .i64 y)) none) w K:=by
 have X:=uk h;obtain⟨_,b,o,base,cap,rfl,aa,_⟩:=h.sl;rw[gy cA.u bp.i hX (lq n y U) eU (Y1 _) (by omega) (o7 _)];refine W _ ?_ fun r Y=>?_
 ·have:=b7.part (l:=0) (h:=n) (m:=cap) X (Y1 _) V (by omega) (o7 _);have e:((L.flatMap eI).drop (0*2)).take ((n-0)*2)=(L.take n).flatMap eI:=by
   rw[Nat.zero_mul,List.drop_zero,Nat.sub_zero,pU (f:=eI) (k:=2) n fun _ _=>rfl]
  rw[e] at this;have Z:(L.take n).length=n-0:=by rw[l7];omega
  unfold gJ;rw[Z];exact this
 ·obtain⟨a,n,c,E,O⟩:=Y;split at E
  ·cases E;exact⟨_,_,_,rfl,O⟩
  ·cases base with
   |none=>cases E
   |some q=>cases E;exact⟨_,_,_,rfl,O⟩
def FD (w:x5) (I:List Int) (v:x4) (w':x5):Prop:=Ext w w'∧ ∃ E L,∃ bad:Int,v= .tuple #[E,.int .i64 bad]∧gJ w' E L∧L.map (·.1)=(lex I).1∧(0≤bad↔(lex I).2=false)∧(∀ r,leadsTo E r→w.heap.size≤r)∧ ∀ r,leadsTo E r→ ∃ c,ak w' r bp c
set_option maxHeartbeats 4000000 in
theorem FE {p:x4} {U:List Int} {w:x5} (ak:aG .u8 w p U) (aT:Bytes U) (bu:U.length≤65536):O y0 ol [p] w (FD w U):=by
 apply ol.enter;rw[aQ aX.u ak];refine jk.range U.length (fun i _ _ X ae ab=>Ext w ab∧ ∃ g L,∃ (E:List (List Int)) (Y:List Int) (op:Bool),ae= .bool op∧aZ eI 2 bp ab g X L∧L.map (·.1)=(if op then E++[Y] else E)∧(op=true→Y.length≤i)∧L.length≤i∧gd (U.drop i) E Y op=lex U∧ ∀ r,leadsTo X r→w.heap.size≤r) ak.le
  ⟨Ext.refl _,0,[],[],[],false,rfl,aZ.nil _ _ _ _ _,rfl,(fun h=>by cases h),o7 _,Bs U,fun r Z=>(dI Z).elim⟩ ?_ ?_
 rotate_left
 ·rintro aW t3 X ae ab aY ⟨ac,g,L,E,Y,op,rfl,aa,W,_,_,J,ad⟩;rw[au,ag];refine⟨fun h=>by omega,fun _=>?_⟩;rw[List.drop_length] at J;have J:(if op then E++[Y] else E,true)=lex U:=J;exact⟨ac,X,L,-1,rfl,uk aa,by rw[W,←J],by rw[←J];simp,ad,fun r Z=>by obtain⟨rfl,c,aq⟩:=ds aa Z;exact⟨c,aq⟩⟩
 rintro i aW t3 X ae ab aY hi ⟨ac,g,L,E,Y,op,rfl,aa,W,aH,bz,J,ad⟩ a2;obtain⟨b,av⟩:∃ b,U[i]? =some b:=⟨_,x3 hi⟩;have bA:=aT b (u5 av);have aI:U.drop i=b::U.drop (i+1):=by rw[X2 hi,(u4.1 av).2]
 rw[aI] at J;unfold gd at J;rw[au,ag];refine⟨fun _=>?_,fun h=>by omega⟩;refine s5 (fun _ _ X ae aw=>Ext w aw∧ ∃ g L,∃ (E:List (List Int)) (Y:List Int) (op:Bool),ae= .bool op∧aZ eI 2 bp aw g X L∧L.map (·.1)=(if op then E++[Y] else E)∧(op=true→Y.length≤i+1)∧L.length≤i+1∧gd (U.drop (i+1)) E Y op=lex U∧ ∀ r,leadsTo X r→w.heap.size≤r) ?_ ?_
 ·rintro bB bC a3 a4 aw a6;rw[aL];exact a2 _ _ _ _ _ a6
 intro bD aJ;rw[bw aX.u bi.i (by kernel_rfl) (ak.ext ac) av];refine aV (fun v af=>ab=af∧v= .bool (cd b)) ?_ ?_
 rotate_left
 ·intro ax V;unfold cd at V;rw[bM,ag];refine⟨fun h=>V _ _ ⟨rfl,by rw[decide_eq_true (.inl h)]⟩,fun h1=>?_⟩;rw[bM,ag];refine⟨fun h=>V _ _ ⟨rfl,by rw[decide_eq_true (.inr (.inl h))]⟩,fun am=>?_⟩;rw[bM,ag];refine⟨fun h=>V _ _ ⟨rfl,by rw[decide_eq_true (.inr (.inr (.inl h)))]⟩,fun a7=>?_⟩;rw[bM];refine V _ _ ⟨rfl,?_⟩;congr 1;rw[W5,decide_eq_true_eq,decide_eq_true_eq];exact⟨fun h=>.inr (.inr (.inr h)),fun h=>by rcases h with h|h|h|h;exact absurd h h1;exact absurd h am;exact absurd h a7;exact h⟩
 rintro _ _ ⟨rfl,rfl⟩;cases aK:cd b with
 |true=>
  rw[bm];rw[if_pos aK] at J;exact aJ _ _ _ _ _ ⟨ac,g,L,_,[],false,rfl,aa,W,(fun h=>by cases h),by omega,J,ad⟩
 |false=>
  rw[aU];rw[if_neg (by rw[aK];simp)] at J;refine aV (fun v af=>ab=af∧v= .bool (!bF b)) ?_ ?_
  rotate_left
  ·intro ax V;unfold bF at V;rw[au,ag];refine⟨fun h=>V _ _ ⟨rfl,by rw[decide_eq_false (by omega)];rfl⟩,fun h=>?_⟩;rw[bT];refine V _ _ ⟨rfl,?_⟩;by_cases am:126<b
   ·rw[decide_eq_true am,decide_eq_false (by omega)];rfl
   ·rw[decide_eq_false am,decide_eq_true (by omega)];rfl
  rintro _ _ ⟨rfl,rfl⟩;cases hw:bF b with
  |false=>
   rw[Y8,bm];rw[if_neg (by rw[hw];simp)] at J;refine aV (fun v af=>ab=af∧ ∃ ao,gJ ab v ao∧ao.map (·.1)=E∧(∀ r,leadsTo v r→w.heap.size≤r)∧ ∀ r,leadsTo v r→leadsTo X r) ?_ ?_
   ·rintro v _ ⟨rfl,ao,ay,a8,ap,ba⟩;exact⟨ac,v,ao,(i:Int),rfl,ay,by rw[a8,←J],by rw[←J];simp,ap,fun r Z=>by obtain⟨rfl,c,aq⟩:=ds aa (ba r Z);exact⟨c,aq⟩⟩
   ·intro ax V;cases op with
    |false=>
     rw[aU];rw[if_neg (by simp)] at W;exact V _ _ ⟨rfl,L,uk aa,W,ad,fun _ h=>h⟩
    |true=>
     rw[bm];rw[if_pos rfl] at W;have az:L.length=E.length+1:=by have:=congrArg V4 W;simpa using this
     rw[eb cA.u aa,dw,wrap_i64 (by omega) (by omega)];refine FC (n:=E.length) (by omega) aa (by omega) fun ai ay ap=>V _ _ ⟨rfl,_,ay,?_,fun r Z=>ad r (ap r Z),ap⟩;rw[List.map_take,W,List.take_left]
  |true=>
   rw[Y7,aU];rw[if_pos hw] at J;refine aV (fun X aA=>Ext w aA∧ ∃ g M,∃ x:fs,aZ eI 2 bp aA g X (M++[x])∧M.map (·.1)=E∧x.1=(if op then Y else[])∧(M++[x]).length≤i+1∧ ∀ r,leadsTo X r→w.heap.size≤r) ?_ ?_
   ·rintro bE aA ⟨aM,bb,M,x,bc,bd,aB,be,aN⟩;intro aC aD _ _;have aj:=bc.ext aD;have aO:(M++[x])[M.length]? =some x:=by simp
    have bG:(M++[x]).length=M.length+1:=by simp
    rw[eb cA.u aj,dw,wrap_i64 (by omega) (by omega),cT (i:=M.length) (by omega) cA.u bp.i aj (by omega),ah bp.p rfl,al (o:=M.length*2+0) (by kernel_rfl) (aj.range aO 0 _ rfl),aL,wrap_i64 (by omega) (by omega)];obtain⟨bH,aP⟩:∃ ai,aG .u8 aC ai [b]∧I y0 (j4 aX p (some (.int .i64 (i:Int))) (some (.int .i64 ((i:Int)+1))) none) aC (fun v=>v=ai):=by
     have bf:=ak.ext (aM.trans aD);have:=re (P:=y0) (low:=some (.int .i64 (i:Int))) (high:=some (.int .i64 ((i:Int)+1))) (K:=fun v=>aG .u8 aC v [b]) aX.u bi.i bf (lp i _ rfl) (lq (i+1) ((i:Int)+1) (by omega)) (by omega) (by omega) fun ai aR=>by
      have e:((ints .u8 U).drop (i*1)).take ((i+1-i)*1)=ints .u8 [b]:=by
       simp only[T0,show i+1-i=1 by omega];rw[ints,←List.map_drop,←List.map_take,aI];rfl
      rw[e] at aR;exact aG.of (n:=i+1-i) aR
     obtain⟨v,bg,bh⟩:=this;exact⟨v,bh,v,bg,rfl⟩
    refine Fz aP.2 ?_;have bI:x.1.length≤65536:=by
     rw[aB];cases op with
     |true=>rw[if_pos rfl];have:=aH rfl;omega
     |false=>simp
    rw[s7 aX.u bi.u a1.u aP.1,s6 (by simp;omega),cT (i:=M.length) (by omega) cA.u bp.i aj (by omega),ah bp.p rfl];refine ni (f:=eI) (j:=0) (a:=x) (a':=(x.1++[b],x.2)) a1.i rfl rfl aj aO rfl (by omega) fun bJ bj bK aS=>?_;have e:(M++[x]).set M.length (x.1++[b],x.2)=M++[(x.1++[b],x.2)]:=by
     rw[T2 _ _ (o7 _),W7];rfl
    rw[e] at aS;refine aJ _ _ _ _ _ ⟨(aM.trans aD).then bj (fun r Z he=>by have:=aN r he;omega),bb,_,E,x.1++[b],true,rfl,aS,by rw[j0,bd];rfl,fun _=>?_,by simp at be ⊢;omega,?_,aN⟩
    ·rw[o5,aB];cases op with
     |true=>rw[if_pos rfl];have:=aH rfl;simp;omega
     |false=>simp
    ·rw[←J,aB];cases op with
     |true=>rfl
     |false=>rfl
   ·intro ax V;cases op with
    |true=>
     rw[b4,Y7,aU];rw[if_pos rfl] at W;have az:L.length=E.length+1:=by have:=congrArg V4 W;simpa using this
     obtain⟨M,x,rfl⟩:∃ M x,L=M++[x]:=by
      have:L≠[]:=fun h=>by rw[h] at az;simp at az
      exact⟨L.dropLast,L.getLast this,(List.dropLast_concat_getLast this).symm⟩
     rw[j0] at W;obtain⟨bk,aE⟩:=List.append_inj' W (by simp);refine V _ _ ⟨ac,g,M,x,aa,bk,?_,by omega,ad⟩;rw[if_pos rfl];have aE:[x.1]=[Y]:=aE;exact (List.cons.inj aE).1
    |false=>
     rw[b4,Y8,bm];rw[if_neg (by simp)] at W;rw[cR (cs:=#[bx [],.int .i64 (i:Int)]) (by kernel_rfl)];refine fa (f:=eI) (a:=(([],(i:Int)):fs)) cA.u bp.i (by omega) rfl rfl fun v9 bL bN bO aF bl=>?_;have bn:=aa.ext aF;refine fl (f:=eI) (a:=(([],(i:Int)):fs)) cA.u bp.i rfl bn (by simpa using bl.sl) (uj _) (by omega) (by omega) fun ai bo bP bq br bt=>?_;have bQ:=ac.size;have z9:=aF.size;refine V _ _ ⟨(ac.trans aF).then bt (fun r Z he=>by have:=ad r he;omega),bo,L,_,bq,W,rfl,by simp;omega,fun r Z=>?_⟩;rcases br r Z with h|h
     ·exact ad r h
     ·omega
structure ul where
 v:x4
 t:List Int
 c:Int
def lU (y:ul):List x4:=[y.v,.int .i64 y.c]
def ij (w:x5) (g:Nat) (v:x4) (l:List (List Int×Int)):Prop:=∃ L:List ul,aZ lU 2 bA w g v L∧(∀ y∈L,∃ E,aq .i64 af w E y.v y.t)∧L.map (fun y=>(y.t,y.c))=l
structure gK where
 a7:x4
 aw:x4
 o:Int
 bP:x4
def dW (h:gK):List x4:=[h.a7,h.aw,.int .i64 h.o,h.bP]
def fd (w:x5) (h:gK) (x:ca):Prop:=(∃ g,aq .i64 af w g h.a7 x.scope)∧(∃ g,aq .i64 af w g h.aw x.sizes)∧h.o=x.other∧ ∃ g,ij w g h.bP x.lines
def ft (w:x5) (r:Nat):Prop:=∃ e c,ak w r e c∧e≠af∧e≠bA
theorem dK {w w':x5} {S:Nat→Prop} {g:Nat} {v:x4} {l:List Int} (h:aq .i64 af w g v l) (I:am S w w') (J:∀ r,S r→ft w r∨w.heap.size≤r):aq .i64 af w' g v l:=br h I fun r E O=>by
 rcases J r O with⟨e,c,U,V,_⟩|W
 ·exact bZ h U (fun he=>V he.symm) E rfl
 ·obtain⟨X,Y⟩:=b1 h E;omega
theorem um {α:Type} {f:α→List x4} {k:Nat} {e:o6} {w w':x5} {S:Nat→Prop} {g:Nat} {v:x4} {L:List α} (h:aZ f k e w g v L) (J:am S w w') (O:∀ r,S r→(∃ E c,ak w r E c∧E≠e)∨w.heap.size≤r):aZ f k e w' g v L:=h.ad J fun r I U=>by
 rcases O r U with⟨E,c,V,W⟩|X
 ·exact cn h V (fun he=>W he.symm) I
 ·obtain⟨Y,Z⟩:=h.leads I;omega
theorem ij.c6 {w w':x5} {S:Nat→Prop} {g:Nat} {v:x4} {l:List (List Int×Int)} (h:ij w g v l) (E:am S w w') (I:∀ r,S r→ft w r∨w.heap.size≤r):ij w' g v l:=by
 obtain⟨L,h1,J,O⟩:=h;refine⟨L,um h1 E fun r U=>(I r U).imp (fun⟨e,c,V,_,W⟩=>⟨e,c,V,W⟩) id,fun y X=>?_,O⟩;obtain⟨Y,hm⟩:=J y X;exact⟨Y,dK hm E I⟩
theorem fd.c6 {w w':x5} {S:Nat→Prop} {h:gK} {x:ca} (J:fd w h x) (E:am S w w') (I:∀ r,S r→ft w r∨w.heap.size≤r):fd w' h x:=by
 obtain⟨⟨O,h1⟩,⟨U,V⟩,W,X,Y⟩:=J;exact⟨⟨O,dK h1 E I⟩,⟨U,dK V E I⟩,W,X,Y.c6 E I⟩
theorem fd.ext {w w':x5} {h:gK} {x:ca} (E:fd w h x) (I:Ext w w'):fd w' h x:=E.c6 (I.ad fun _=>False) fun _ h=>h.elim
theorem fd.one {w:x5} {h:gK} {x:ca} (E:fd w h x):∀ u∈dW h,u.oneCell'=true:=by
 obtain⟨⟨O,h1⟩,⟨U,I⟩,V,W,L,J,_⟩:=E;intro u hu;simp[dW] at hu;rcases hu with rfl|rfl|rfl|rfl
 ·exact h1.ls.cells.2
 ·exact I.ls.cells.2
 ·rfl
 ·exact (cJ J.sl).2
def jS (w:x5) (E:x4) (J:List fs) (gs:Nat) (sv:x4) (L:List gK) (I:List ca):Prop:=(gJ w E J∧ ∀ r,leadsTo E r→ ∃ c,ak w r bp c)∧aZ dW 4 aF w gs sv L∧I.length=L.length∧ ∀ (i:Nat) h x,L[i]? =some h→I[i]? =some x→fd w h x
theorem jS.c6 {w w':x5} {S:Nat→Prop} {O:x4} {X:List fs} {gs:Nat} {sv:x4} {L:List gK} {Y:List ca} (h:jS w O X gs sv L Y) (J:am S w w') (U:∀ r,S r→(∃ e c,ak w r e c∧e≠af∧e≠bA∧e≠bp∧¬leadsTo sv r)∨w.heap.size≤r):jS w' O X gs sv L Y:=by
 obtain⟨⟨h1,Z⟩,aa,ac,ae⟩:=h;have hw:∀ r,leadsTo O r→¬S r:=fun r E V=>by
  obtain⟨c,I⟩:=Z r E;rcases U r V with⟨e,ag,ab,_,_,W,_⟩|ah
  ·exact W (eP ab I)
  ·have:=I.lt;omega
 refine⟨⟨h1.ad J hw,fun r E=>?_⟩,aa.ad J fun r E V=>?_,ac,fun i ai x hi aj=>(ae i ai x hi aj).c6 J fun r E=>(U r E).imp (fun⟨e,c,I,al,ao,_⟩=>⟨e,c,I,al,ao⟩) id⟩
 ·obtain⟨c,I⟩:=Z r E;exact⟨c,I.ad J (hw r E)⟩
 ·rcases U r V with⟨e,ag,ab,_,_,_,W⟩|ah
  ·exact W E
  ·obtain⟨ap,aq⟩:=aa.leads E;omega
def e2 (E:x4) (I J bad O big U told:Int) (sv:x4):List x4:=[E,.int .i64 I,.int .i64 J,.int .i64 bad,.int .i64 O,.int .i64 big,.int .i64 U,.int .i64 told,sv]
def FF (N:Nat) (so:Option ay) (E:List fs) (I bad big told:Int) (L:List gK) (J:List ca):Prop:=match so with
 |some s=>bad=0∧I≠0∧(big≠0↔s.big=true)∧(s.big=false→told=s.told)∧True∧E.map (·.1)=s.toks∧(∀ t∈s.toks,Bytes t∧t.length≤65536)∧J.map (fun x=>(x.sizes,x.lines))=s.shared∧L.length+E.length≤100000
 |none=>bad≠0∧L.length≤N
def bD (w:x5) (g B:Nat) (H:av) (N:Nat) (so:Option ay):Prop:=100000≤N∧ ∃ w0 E I gs sv L J,∃ (U O bad V big W told:Int),w0.heap.size=B∧am (fun r=>r=g) w0 w∧(∃ c,ak w0 g aN c)∧ak w g aN (e2 E U O bad V big W told sv)∧jS w0 E I gs sv L J∧(∀ r,leadsTo sv r→H r)∧FF N so I O bad big told L J
theorem jS.g {w w':x5} {g:Nat} {I:x4} {J:List fs} {gs:Nat} {sv:x4} {L:List gK} {O:List ca} (h:jS w I J gs sv L O) (V:am (fun r=>r=g) w w') (W:∃ c,ak w g aN c):jS w' I J gs sv L O:=
 h.c6 V fun r E=>.inl (by
  have E:r=g:=E;subst E;obtain⟨c,U⟩:=W;exact⟨_,c,U,by decide,by decide,by decide,fun X=>cn h.2.1 U (by decide) X⟩)
theorem bD.new {S:Nat→Prop} {w w':x5} {g B N:Nat} {H:av} {so:Option ay} (h:bD w g B H N so) (I:am S w w') (J:∀ r,S r→B≤r):bD w' g B H N so:=by
 obtain⟨X,w0,Y,Z,gs,sv,L,aa,ab,ac,bad,ae,big,af,told,h1,O,U,ag,ah,ai,aj⟩:=h;have V:g<w0.heap.size:=by obtain⟨c,ak⟩:=U;exact ak.lt
 exact⟨X,w0,Y,Z,gs,sv,L,aa,ab,ac,bad,ae,big,af,told,h1,⟨Y5 O.size I.size,fun r o W E V=>I.bz r o (O.bz r o W E V) E fun al=>by
  have:=J r al;have:=(l6.1 W).1;omega⟩,U,ag.ad I fun E=>by have:=J g E;omega,ah,ai,aj⟩
theorem bD.ext {w w':x5} {g B N:Nat} {H:av} {so:Option ay} (h:bD w g B H N so) (E:Ext w w'):bD w' g B H N so:=h.new (E.ad fun _=>False) fun _ h=>h.elim
theorem bD.base {w:x5} {g B N:Nat} {H:av} {so:Option ay} (h:bD w g B H N so):bD w g w.heap.size H N so:=by
 obtain⟨I,w0,J,O,gs,sv,L,U,V,W,bad,X,big,Y,told,h1,Z,aa,E,ab,ac,ad⟩:=h;exact⟨I,w,J,O,gs,sv,L,U,V,W,bad,X,big,Y,told,rfl,am.refl _ _,⟨_,E⟩,E,ab.g Z aa,ac,ad⟩
theorem bD.c6 {S:Nat→Prop} {w w':x5} {g B N:Nat} {H:av} {so:Option ay} (h:bD w g B H N so) (J:am S w w') (O:∀ r,S r→(∃ e c,ak w r e c∧e≠af∧e≠bA∧e≠bp∧e≠aN∧¬H r)∨w.heap.size≤r):bD w' g w'.heap.size H N so:=by
 obtain⟨Y,w0,U,V,gs,sv,L,W,Z,aa,bad,ab,big,ac,told,h1,ae,ag,I,ah,X,ai⟩:=h.base;have aj:jS w U V gs sv L W:=ah.g ae ag;have E:=I.ad J fun al=>by
  rcases O g al with⟨e,c,E,_,_,_,ao,_⟩|aA
  ·exact ao (eP E I)
  ·have:=I.lt;omega
 refine⟨Y,w',U,V,gs,sv,L,W,Z,aa,bad,ab,big,ac,told,rfl,am.refl _ _,⟨_,E⟩,E,aj.c6 J fun r ap=>(O r ap).imp (fun⟨e,c,E,aq,au,aw,_,ax⟩=>⟨e,c,E,aq,au,aw,fun az=>ax (X r az)⟩) id,X,ai⟩
theorem bD.lt {w:x5} {g B N:Nat} {H:av} {so:Option ay} (h:bD w g B H N so):g<B∧B≤w.heap.size:=by
 obtain⟨J,w0,O,U,gs,sv,L,V,W,X,bad,Y,big,Z,told,h1,E,⟨c,I⟩,_⟩:=h;have:=I.lt;have:=E.size;omega
theorem fR {w:x5} {g B N:Nat} {H:av} {so:Option ay} (h:bD w g B H N so):∃ E,∃ (I J bad O big U told:Int),∃ sv,ak w g aN (e2 E I J bad O big U told sv)∧(so.isSome=true↔bad=0):=by
 obtain⟨X,w0,E,Y,gs,sv,L,Z,I,J,bad,O,big,U,told,h1,aa,ab,W,ac,ad,V⟩:=h;refine⟨E,I,J,bad,O,big,U,told,sv,W,?_⟩;cases so with
 |none=>exact⟨(fun h=>by cases h),fun h=>absurd h V.1⟩
 |some s=>exact⟨fun _=>V.1,fun _=>rfl⟩
theorem iZ {w:x5} {g B N:Nat} {H:av} {so:Option ay} {K:x4→Prop} (h:bD w g B H N so):I y0 (aj (.pointer (some ⟨g,0,none⟩))) w (fun E=>I y0 (x2 aN E 3) w fun t45=>I y0 (x1 J t45) w fun t46=>I y0 (U .eql J false true t46 (.int .i64 0)) w K)=K (.bool so.isSome):=by
 obtain⟨V,W,X,bad,Y,big,Z,told,sv,O,hi⟩:=fR h;rw[az,ah aN.p rfl,al (by kernel_rfl) (O.cell (o:=0+3) rfl),bM];congr 2;rw[W5,decide_eq_true_eq];exact hi.symm
theorem ql {w:x5} {g B N:Nat} {H:av} {so:Option ay} {K:x4→Prop} (h:bD w g B H N so):I y0 (aj (.pointer (some ⟨g,0,none⟩))) w (fun V=>I y0 (x2 aN V 3) w fun t45=>I y0 (x1 J t45) w fun t46=>I y0 (U .neq J false true t46 (.int .i64 0)) w K)=K (.bool (!so.isSome)):=by
 obtain⟨X,Y,Z,bad,aa,big,ab,told,sv,W,hi⟩:=fR h;rw[az,ah aN.p rfl,al (by kernel_rfl) (W.cell (o:=0+3) rfl),bC];congr 2;cases O:so.isSome with
 |true=>have E:=hi.1 O;simp[E]
 |false=>
  have E:bad≠0:=fun E=>by rw[hi.2 E] at O;cases O
  simp[E]
def nu (w:x5) (g B:Nat) (H:av) (N:Nat) (so:Option ay) (w':x5):Prop:=am (fun r=>r=g) w w'∧bD w' g B H N so
theorem lV {w:x5} {g B N:Nat} {H:av} {so:Option ay} {e at_:Int} (h:bD w g B H N so) (he:e≠0):O y0 fA [.pointer (some ⟨g,0,none⟩),.int .i64 e,.int .i64 at_] w fun _ w'=>nu w g B H N none w':=by
 apply fA.enter;rw[iZ h];cases so with
 |none=>rw[Option.isSome_none,aU];exact⟨am.refl _ _,h⟩
 |some s=>
  rw[Option.isSome_some,bm];obtain⟨Y,w0,I,Z,gs,sv,L,aa,U,V,bad,ap,big,W,told,h1,ab,ac,ad,ae,af,ag⟩:=h;rw[az,ah aN.p rfl];refine bH (g:=g) (o:=3) J.i rfl rfl ad (by simp[e2]) fun aq ai au aj=>?_;rw[az,ah aN.p rfl];refine bH (g:=g) (o:=4) J.i rfl rfl aj (by simp[e2]) fun al ao aw E=>?_;have E:ak al g aN (e2 I U V e at_ big W told sv):=E;have X:=ai.trans ao;obtain⟨_,_,_,_,_,_,_,_,ax⟩:=ag;exact⟨X,Y,w0,I,Z,gs,sv,L,aa,U,V,e,at_,big,W,told,h1,ab.trans X,ac,E,ae,af,he,by omega⟩
theorem kM {w:x5} {g B N:Nat} {H:av} {so:Option ay} {b:Bool} {at_:Int} (h:bD w g B H N so):O y0 fW [.pointer (some ⟨g,0,none⟩),.bool b,.int .i64 at_] w fun _ w'=>nu w g B H N (so.map (aY b)) w':=by
 apply fW.enter;obtain⟨ai,w0,I,aj,gs,sv,L,ao,U,V,bad,W,big,aD,told,h1,ap,aq,X,au,aw,Y⟩:=id h;refine aV (fun v ax=>w=ax∧v= .bool (b&&decide (big=0)&&so.isSome)) ?_ ?_
 ·rintro _ _ ⟨rfl,rfl⟩;rw[cv];refine⟨fun aA=>?_,fun aE=>⟨am.refl _ _,ai,w0,I,aj,gs,sv,L,ao,U,V,bad,W,big,aD,told,h1,ap,aq,X,au,aw,?_⟩⟩
  ·rw[V7,V7] at aA;obtain⟨⟨aF,aL⟩,aG⟩:=aA;rw[az,ah aN.p rfl];refine bH (g:=g) (o:=5) J.i rfl rfl X (by simp[e2]) fun ax aH aM aI=>?_;rw[az,ah aN.p rfl];refine bH (g:=g) (o:=6) J.i rfl rfl aI (by simp[e2]) fun aJ aK aO Z=>?_;have Z:ak aJ g aN (e2 I U V bad W 5 at_ told sv):=Z;have aB:=aH.trans aK;refine⟨aB,ai,w0,I,aj,gs,sv,L,ao,U,V,bad,W,5,at_,told,h1,ap.trans aB,aq,Z,au,aw,?_⟩;cases so with
   |none=>cases aG
   |some s=>
    obtain⟨aa,ab,aC,ac,ad⟩:=Y;exact⟨aa,ab,⟨fun _=>by show (s.big||b)=true;rw[aF,Bool.or_true],fun _=>by omega⟩,fun ae=>ac (U4.1 ae).1,ad⟩
  ·cases so with
   |none=>exact Y
   |some s=>
    obtain⟨aa,ab,aC,ac,ad⟩:=Y;refine⟨aa,ab,?_,fun ae=>ac (U4.1 ae).1,ad⟩;show big≠0↔(s.big||b)=true;cases b with
    |false=>rw[Bool.or_false];exact aC
    |true=>
     have E:big≠0:=by simpa using aE
     simp[E]
 ·intro aP af;cases b with
  |false=>rw[aU];exact af _ _ ⟨rfl,by simp⟩
  |true=>
   rw[bm,az,ah aN.p rfl,al (by kernel_rfl) (X.cell (o:=0+5) rfl),bM,ag];refine⟨fun E=>?_,fun E=>af _ _ ⟨rfl,by rw[decide_eq_false E];simp⟩⟩;rw[iZ h];exact af _ _ ⟨rfl,by rw[decide_eq_true E];simp⟩
def hc (so:Option ay):Option (List Int×ay):=so.bind dd
theorem yZ {w:x5} {g B N:Nat} {H:av} {so:Option ay} (h:bD w g B H N so):O y0 mn [.pointer (some ⟨g,0,none⟩)] w fun v w'=>nu w g B H N ((hc so).map (·.2)) w'∧ ∃ (t:List Int) (n:Int),v= .agg #[bx t,.int .i64 n]∧Bytes t∧t.length≤65536∧ ∀ q,hc so=some q→t=q.1:=by
 have a1:=h.lt;apply mn.enter;refine bU bp.i fun E ae bJ W X=>?_;have h1:=h.ext W;have zero:∀ {U:x5},nu ae g B H N none U→ak U E bp [.string ⟨#[]⟩,.int .i64 0]→hc so=none→(I y0 (Z3 bp #[]) U fun t9=>
   aa y0 (x6 bp (.pointer (some ⟨E,0,none⟩)) t9) U fun(_:Unit) aD=>
   I y0 (do loadVar bp (←asAddr (.pointer (some ⟨E,0,none⟩)))) aD fun a2=>(fun v w'=>nu w g B H N ((hc so).map (·.2)) w'∧ ∃ (t:List Int) (n:Int),v= .agg #[bx t,.int .i64 n]∧Bytes t∧t.length≤65536∧ ∀ q,hc so=some q→t=q.1) a2 aD):=by
  intro U V af aq;rw[cR (cs:=#[.string ⟨#[]⟩,.int .i64 0]) (by kernel_rfl)];refine b9 (vs:=[.string ⟨#[]⟩,.int .i64 0]) bp.i rfl rfl (by intro v aE;simp at aE;rcases aE with rfl|rfl <;> rfl) af fun a6 aF bK a7=>?_;rw[eB bp.p bp.i rfl a7.range,aq];have a8:=W.size;have bL:=a1;refine⟨⟨fD ((W.ad _).trans V.1) aF fun r J he=>?_,V.2.new aF fun r J=>?_⟩,[],0,rfl,(fun b ba=>by cases ba),by simp,fun q au=>by cases au⟩
  ·have he:r=E:=he;omega
  ·have J:r=E:=J;omega
 rw[ql h1];cases so with
 |none=>
  rw[Option.isSome_none,Y8,bm];exact zero ⟨am.refl _ _,h1⟩ X rfl
 |some s=>
 rw[Option.isSome_some,Y7,aU];obtain⟨bb,w0,bO,aw,gs,sv,L,aG,aH,aI,bad,aJ,big,aK,told,bc,aL,aM,Y,ai,bd,be⟩:=id h1;have bf:=ai.g aL aM;obtain⟨⟨aj,bP⟩,_⟩:=id bf;obtain⟨bg,aO,bh,bi,bj,aP,aQ,bk,bl⟩:=id be;rw[az,ah aN.p rfl,al (by kernel_rfl) (Y.cell (o:=0+0) rfl),yX aj,bM,ag];refine⟨fun aR=>?_,fun aR=>?_⟩
 ·have bn:aw=[]:=j5 (by omega);have Z:s.toks=[]:=by rw[←aP,bn];rfl
  have aq:hc (some s)=none:=by show dd s=none;unfold dd;rw[Z]
  intro U ao _ _;have af:=Y.ext ao;rw[az,ah aN.p rfl,al (by kernel_rfl) (af.cell (o:=0+2) rfl),az,ah aN.p rfl,al (by kernel_rfl) (af.cell (o:=0+1) rfl)];refine (lV (h1.ext ao) aO).mono ?_;rintro _ a6 _ V;have bo:=X.lt;exact zero ⟨(ao.ad _).trans V.1,V.2⟩ ((X.ext ao).ad V.1 fun he=>by have he:E=g:=he;omega) aq
 ·obtain⟨x,ab,rfl⟩:∃ x l,aw=x::l:=by
   cases aw with
   |nil=>exact absurd rfl aR
   |cons x l=>exact⟨x,l,rfl⟩
  have Z:s.toks=x.1::ab.map (·.1):=by rw[←aP];rfl
  have bq:hc (some s)=some (x.1,{s with toks:=ab.map (·.1)}):=by show dd s=_;unfold dd;rw[Z]
  have aS:=aQ x.1 (by rw[Z];exact .head _);rw[az,ah aN.p rfl,al (by kernel_rfl) (Y.cell (o:=0+0) rfl)];refine yY aj fun b o br=>?_;rw[bN bp.p bp.i rfl br];refine bU bp.i fun ax bQ bR bt bu=>?_;refine b9 (vs:=eI x) bp.i rfl rfl (uj x) bu fun bw bz bS aT=>?_;have ap:Ext ae bw:=bt.then bz fun r J he=>by have he:r=ax:=he;omega
  have aV:=Y.ext ap;rw[az,ah aN.p rfl,al (by kernel_rfl) (aV.cell (o:=0+0) rfl)];refine FB (aj.ad (ap.ad fun _=>False) fun _ _ h=>h) fun aA aW bA=>?_;have aX:=aW ae aj;rw[az,ah aN.p rfl];refine bH (g:=g) (o:=0) cA.i (cJ aX).1 (cJ aX).2 aV (by simp[e2]) fun ac aB bT aC=>?_;have aC:ak ac g aN (e2 aA aH aI bad aJ big aK told sv):=aC;have bo:=Y.lt;have bV:=aT.lt;have bW:=X.lt;have a8:=W.size;have bB:ak ac ax bp (eI x):=aT.ad aB fun he=>by have he:ax=g:=he;omega
  rw[bN bp.p bp.i rfl bB.range];have bC:ak ac E bp [.string ⟨#[]⟩,.int .i64 0]:=(ak.ext X ap).ad aB fun he=>by have he:E=g:=he;omega
  refine b9 (vs:=eI x) bp.i rfl rfl (uj x) bC fun bX aY bY bE=>?_;rw[eB bp.p bp.i rfl bE.range];have aZ:am (fun r=>r=g) ae ac:=(ap.ad _).trans aB;rw[bq];refine⟨⟨fD ((W.ad _).trans aZ) aY fun r J he=>?_,?_⟩,x.1,x.2,rfl,aS.1,aS.2,fun q au=>by cases au;rfl⟩
  ·have he:r=E:=he;omega
  ·have bF:jS w0 aA ab gs sv L aG:=⟨⟨aW w0 ai.1.1,fun r J=>ai.1.2 r (bA r J)⟩,ai.2⟩;have bG:bD ac g B H N (some {s with toks:=ab.map (·.1)}):=⟨bb,w0,aA,ab,gs,sv,L,aG,aH,aI,bad,aJ,big,aK,told,bc,aL.trans aZ,aM,aC,bF,bd,bg,aO,bh,bi,bj,rfl,fun t bI=>aQ t (by rw[Z];exact .tail _ bI),bk,by simp at bl;omega⟩;refine bG.new aY fun r J=>?_;have J:r=E:=J;omega
theorem FG {lo hi:Int} {so:Option ay}:aW lo hi so=match hc so with
  |none=>none
  |some (w,s)=>match eX w with
   |none=>none
   |some n=>if lo≤n∧n≤hi then some (n,s) else none:=by
 cases so with
 |none=>rfl
 |some s=>rfl
set_option maxHeartbeats 1000000 in
theorem ik {w:x5} {g B N:Nat} {H:av} {so:Option ay} {lo hi:Int} (h:bD w g B H N so):O y0 en [.pointer (some ⟨g,0,none⟩),.int .i64 lo,.int .i64 hi] w fun v w'=>nu w g B H N ((aW lo hi so).map (·.2)) w'∧ ∃ n at_:Int,v= .tuple #[.int .i64 n,.int .i64 at_]∧(∀ q,aW lo hi so=some q→n=q.1)∧(aW lo hi so=none→n=0):=by
 have aY:=h.lt;apply en.enter;refine (yZ h).mono ?_;rintro _ aE _ ⟨⟨ao,h1⟩,t,at_,rfl,aF,aZ,ap⟩;have a1:=h1.lt;refine bU bp.i fun aq a2 a6 aG aH=>?_;refine b9 (vs:=[bx t,.int .i64 at_]) bp.i rfl rfl (by intro v aw;simp at aw;rcases aw with rfl|rfl <;> rfl) aH fun aI aJ a7 ax=>?_;have az:Ext aE aI:=aG.then aJ fun r a8 he=>by have he:r=aq:=he;omega
 have aK:=h1.ext az;rw[ah bp.p rfl,al (by kernel_rfl) (ax.cell (o:=0+0) rfl)];refine (Fy aF (by omega)).mono ?_;rintro _ Z _ ⟨rfl,aa⟩;have ab:=aK.ext aa;have aA:=ax.ext aa;have aL:=az.trans aa;have ba:=ao.size;obtain⟨n,e,aM,ac,aN⟩:∃ n e:Int,h7 t= .tuple #[.int .i64 n,.int .i64 e]∧(∀ m,eX t=some m→n=m∧e=0)∧(eX t=none→e≠0):=by
  unfold h7;cases eX t with
  |none=>exact⟨0,4,rfl,(fun m hm=>by cases hm),fun _=>by omega⟩
  |some m=>exact⟨m,0,rfl,(fun m hm=>by cases hm;exact⟨rfl,rfl⟩),fun h=>by cases h⟩
 rw[aM,aC (v:=.int .i64 n) rfl,aC (v:=.int .i64 e) rfl];have E:=FG (lo:=lo) (hi:=hi) (so:=so);have aB:am (fun r=>r=g) w Z:=ao.trans (aL.ad _);refine dG (fun V=>am (fun r=>r=g) Z V∧bD V g B H N ((aW lo hi so).map (·.2))) ?_ ?_
 ·rintro V ⟨W,U⟩;rw[ql U];cases X:aW lo hi so with
  |none=>
   rw[X] at U;rw[Option.map_none,Option.isSome_none,Y8,bm];exact⟨⟨aB.trans W,U⟩,0,0,rfl,(fun q X=>by cases X),fun _=>rfl⟩
  |some q=>
   rw[X] at U E;rw[Z0,Option.isSome_some,Y7,aU];intro bb ae _ _;have aO:=(aA.ad W fun he=>by have he:aq=g:=he;omega).ext ae;rw[ah bp.p rfl,al (by kernel_rfl) (aO.cell (o:=0+1) rfl)];refine⟨⟨(aB.trans W).trans (ae.ad _),U.ext ae⟩,n,at_,rfl,fun bc aP=>?_,fun h=>by cases h⟩;cases aP;cases J:hc so with
   |none=>rw[J] at E;cases E
   |some p=>
    obtain⟨af,ai⟩:=p;have aj:=ap (af,ai) J;subst aj;rw[J] at E;simp only at E;cases I:eX t with
    |none=>rw[I] at E;cases E
    |some m=>
     rw[I] at E;simp only at E;split at E
     ·cases E;exact (ac m I).1
     ·cases E
 ·intro bd aD;refine aV (fun v V=>Z=V∧ ∃ c:Bool,v= .bool c∧(c=true→aW lo hi so=none)∧(c=false→(aW lo hi so).map (·.2)=(hc so).map (·.2))) ?_ ?_
  ·rintro _ _ ⟨rfl,c,rfl,aQ,aR⟩;rw[cv];refine⟨fun h=>?_,fun h=>aD _ ⟨am.refl _ _,by rw[aR h];exact ab⟩⟩;rw[ah bp.p rfl,al (by kernel_rfl) (aA.cell (o:=0+1) rfl)];refine (lV ab (by omega)).mono ?_;rintro _ V _ ⟨W,U⟩;exact aD _ ⟨W,by rw[aQ h];exact U⟩
  ·intro be Y;rw[iZ ab];cases J:hc so with
   |none=>
    rw[J] at E;simp only at E;rw[Option.map_none,Option.isSome_none,aU];exact Y _ _ ⟨rfl,false,rfl,(fun h=>by cases h),fun _=>by rw[E,J];rfl⟩
   |some p=>
    obtain⟨af,ai⟩:=p;have aj:=ap (af,ai) J;subst aj;rw[J] at E;simp only at E;rw[Z0,Option.isSome_some,bm,bC,ag];refine⟨fun he=>?_,fun he=>?_⟩
    ·refine Y _ _ ⟨rfl,true,rfl,fun _=>?_,fun h=>by cases h⟩;cases I:eX t with
     |none=>rw[E,I]
     |some m=>exact absurd (ac m I).2 he
    ·have aS:e=0:=X4.1 he;cases I:eX t with
     |none=>exact absurd aS (aN I)
     |some m=>
      rw[I] at E;simp only at E;have aT:=(ac m I).1;subst aT;rw[au,ag];refine⟨fun aX=>Y _ _ ⟨rfl,true,rfl,fun _=>by rw[E,if_neg (by omega)],fun h=>by cases h⟩,fun aX=>?_⟩;rw[bT];refine Y _ _ ⟨rfl,_,rfl,fun ak=>?_,fun ak=>?_⟩
      ·rw[E,if_neg (by have:=of_decide_eq_true ak;omega)]
      ·rw[E,if_pos (by have:=of_decide_eq_false ak;omega),J];rfl
theorem uo {Y bv:x4} {a b:List Int} {w:x5} (E:aG .i64 w Y a) (Z:aG .i64 w bv b):O y0 iF [Y,bv] w fun v w'=>v= .bool (decide (a=b))∧Ext w w':=by
 apply iF.enter;rw[aQ ae.u E,aQ ae.u Z,bC,ag];refine⟨fun h=>⟨by rw[decide_eq_false];intro he;rw[he] at h;exact h rfl,Ext.refl _⟩,fun h=>?_⟩;have aa:a.length=b.length:=by have:=X4.1 h;omega
 rw[aQ ae.u E];refine ba.range a.length (fun i _ V=>Ext w V∧a.take i=b.take i) E.le ⟨Ext.refl _,rfl⟩ ?_ ?_
 ·rintro i _ V k hi ⟨W,I⟩ ab;obtain⟨x,J⟩:∃ x,a[i]? =some x:=⟨_,x3 hi⟩;obtain⟨y,X⟩:∃ y,b[i]? =some y:=⟨_,x3 (by omega)⟩;rw[au,ag];refine⟨fun _=>?_,fun h=>by omega⟩;intro ah ac _ _;have U:=W.trans ac;rw[bw ae.u af.i (by kernel_rfl) (E.ext U) J,bw ae.u af.i (by kernel_rfl) (Z.ext U) X,bC,ag];refine⟨fun ad=>⟨by rw[decide_eq_false];intro he;rw[he,X] at J;exact ad (Z2 J).symm,U⟩,fun he=>?_⟩;rw[aL];refine ab _ _ ⟨U,?_⟩;rw[o4,o4,I,J,X,X4.1 he]
 ·rintro _ V k ⟨W,I⟩;rw[au,ag];refine⟨fun h=>by omega,fun _=>⟨?_,W⟩⟩;rw[l5,aa,l5] at I;rw[decide_eq_true I]
def fu (w:x5) (B E:Nat) (x:ca):Prop:=∃ a7 aw bP I J O,ak w E aF [a7,aw,.int .i64 x.other,bP]∧aq .i64 af w I a7 x.scope∧aq .i64 af w J aw x.sizes∧ij w O bP x.lines∧(∀ r,leads a7 r∨leads aw r→B≤r)∧(∀ r,leads a7 r→¬leads aw r)∧B≤E
def y1 (w:x5) (r:Nat):Prop:=(∃ e c,ak w r e c∧e≠af∧e≠bA∧e≠aF)∨w.heap.size≤r
theorem fu.c6 {w w':x5} {S:Nat→Prop} {B I:Nat} {x:ca} (h:fu w B I x) (E:am S w w') (U:∀ r,S r→y1 w r):fu w' B I x:=by
 obtain⟨a7,aw,bP,V,W,X,h1,Y,Z,aa,ab,ac,ae⟩:=h;have J:∀ r,S r→ft w r∨w.heap.size≤r:=fun r af=>(U r af).imp (fun⟨e,c,O,ag,ah,_⟩=>⟨e,c,O,ag,ah⟩) id;refine⟨a7,aw,bP,V,W,X,h1.ad E fun ai=>?_,dK Y E J,dK Z E J,aa.c6 E J,ab,ac,ae⟩;rcases U I ai with⟨e,c,O,_,_,aj⟩|ak
 ·exact aj (eP O h1)
 ·have:=h1.lt;omega
theorem fu.ext {w w':x5} {B E:Nat} {x:ca} (h:fu w B E x) (I:Ext w w'):fu w' B E x:=h.c6 (I.ad fun _=>False) fun _ h=>h.elim
theorem il {w:x5} {g B N:Nat} {H:av} {so:Option ay} (h:bD w g B H N so):∀ r,r=g→y1 w r:=fun r E=>by
 subst E;obtain⟨J,O,U,bad,V,big,W,told,sv,I,_⟩:=fR h;exact .inl ⟨_,_,I,by decide,by decide,by decide⟩
def fe (g B:Nat):av:=fun r=>r=g∨B≤r
theorem FH {n:Int} {k:Nat} {acc:List Int} {s:ay}:ck (fun acc s=>match a8 0 (n-1) s with
 |none=>none
 |some (v,s)=>if v∈acc then none else some (v,s)) (k+1) acc s=match a8 0 (n-1) s with
  |none=>none
  |some (v,s')=>if v∈acc then none else ck (fun acc s=>match a8 0 (n-1) s with
 |none=>none
 |some (v,s)=>if v∈acc then none else some (v,s)) k (acc++[v]) s':=by
 rw[ck];cases a8 0 (n-1) s with
 |none=>rfl
 |some q=>
  obtain⟨v,s'⟩:=q;simp only;by_cases E:v∈acc
  ·rw[if_pos E,if_pos E]
  ·rw[if_neg E,if_neg E]
def y2 (n:Int) (k:Nat) (acc:List Int) (s:ay):Option (List Int×ay):=ck (fun acc s=>match a8 0 (n-1) s with
 |none=>none
 |some (v,s)=>if v∈acc then none else some (v,s)) k acc s
set_option maxHeartbeats 4000000 in
theorem y3 {w:x5} {g B N V bV ar:Nat} {H:av} {s:ay} {so:Option ay} {aO:x4} {all:List Int} {bj bk:x5→Prop} (bW:bD w g B H N so) (cm:so=some s∨(so=none∧ar=0)) (cp:fu w B V ⟨[],[],0,[]⟩) (cq:∀ c,ak w V aF c→c[3]? =some (.slice none 0 0)) (bX:aq .i64 af w bV aO all) (cr:∀ r,leads aO r→r<B) (dC:all.length≤100001) (dD:ar≤4611686018427387904) (bl:so=some s→s.toks.length≤100000)
  (a1:so=some s→ ∀ w' x,am (fe g B) w w'→ea all.length ar s=none→bD w' g B H N none→fu w' B V x→bj w')
  (ct:so=none→bk w)
  (bn:so=some s→ ∀ w' scope s',am (fe g B) w w'→ea all.length ar s=some (scope,s')→bD w' g B H N (some s')→fu w' B V ⟨scope,scope.map fun v=>all.getD v.toNat 0,0,[]⟩→(∀ c,ak w' V aF c→c[3]? =some (.slice none 0 0))→bk w'):
  bd (.int .i64 0) w fun i X k=>
   aB (α:=x4→x5→Prop) (fun(cu:x4) (ax:x5)=>
    Split cu (I y0 (u6 #[ae] J #[aO]) ax fun t53=>
   I y0 (U .sub af false true t53 (.int .i64 1)) ax fun cw=>
   O y0 en [.pointer (some ⟨g,0,none⟩),(.int .i64 0),cw] ax fun t55 Y=>
   I y0 (x8 t55 0) Y fun bo=>
   I y0 (x8 t55 1) Y fun cz=>
   I y0 (aj (.pointer (some ⟨g,0,none⟩))) Y fun cA=>
   I y0 (x2 aN cA 3) Y fun cB=>
   I y0 (x1 J cB) Y fun cC=>
   I y0 (U .neq J false true cC (.int .i64 0)) Y fun cD=>
   Split cD (bj Y)
    (I y0 (x2 aF (.pointer (some ⟨V,0,none⟩)) 0) Y fun cE=>
   I y0 (x1 ae cE) Y fun bY=>
   I y0 (u6 #[ae] J #[bY]) Y fun t66=>
   bd (.int .i64 0) Y fun bp ab cF=>
    I y0 (U .lss J false false bp t66) ab fun cG=>
    Split cG (I y0 (x7 ae bY bp) ab fun cH=>
    I y0 (x1 af cH) ab fun t70=>
    I y0 (U .eql af false false t70 bo) ab fun cI=>
    Split cI (O y0 fA [.pointer (some ⟨g,0,none⟩),(.int .i64 4),cz] ab fun t76 bq=>bj bq)
     (I y0 (U .add J false true bp (.int .i64 1)) ab fun cJ=>
    cF cJ ab))
     (I y0 (x2 aF (.pointer (some ⟨V,0,none⟩)) 0) ab fun cK=>
   I y0 (x1 ae cK) ab fun cL=>
   aa y0 (u9 ae 1 #[(0,bo)]) ab fun cM aP=>
   aa y0 (r8 #[ae,ae] ae #[cL,cM]) aP fun cN bt=>
   I y0 (x2 aF (.pointer (some ⟨V,0,none⟩)) 0) bt fun cO=>
   aa y0 (x6 ae cO cN) bt fun(_:Unit) aD=>
   aS aD fun aG=>
   I y0 (x2 aF (.pointer (some ⟨V,0,none⟩)) 1) aG fun bu=>
   I y0 (x1 ae bu) aG fun b2=>
   I y0 (x7 ae aO bo) aG fun cP=>
   I y0 (x1 af cP) aG fun cQ=>
   aa y0 (u9 ae 1 #[(0,cQ)]) aG fun cR aM=>
    (Ext aG aM∨ai y0 (x1 ae bu) b2 aM∧ai y0 (x2 aF (.pointer (some ⟨V,0,none⟩)) 1) bu aM∧True)∧
   aa y0 (r8 #[ae,ae] ae #[b2,cR]) aM fun cS bx=>
    I y0 (x2 aF (.pointer (some ⟨V,0,none⟩)) 1) bx fun cT=>
    aa y0 (x6 ae cT cS) bx fun(_:Unit) aH=>
     I y0 (U .add af false true i (.int .i64 1)) aH fun cU=>
   k cU aH)))
     (bk ax)) fun b3=>
   I y0 (U .lss af false false i (.int .i64 (ar:Int))) X fun cV=>
   Split cV (I y0 (aj (.pointer (some ⟨g,0,none⟩))) X fun cW=>
   I y0 (x2 aN cW 3) X fun cX=>
   I y0 (x1 J cX) X fun t45=>
   I y0 (U .eql J false true t45 (.int .i64 0)) X fun t46=>
   b3 t46 X)
    (b3 (.bool false) X):=by
 have dE:=bW.lt;rcases cm with rfl|⟨rfl,rfl⟩
 rotate_left
 ·refine bd.range 0 (fun _ b4=>w=b4) (by omega) rfl (fun i b4 k hi=>by omega) ?_;rintro _ k rfl;refine aV (fun v ax=>w=ax∧v= .bool false) ?_ ?_
  ·rintro _ _ ⟨rfl,rfl⟩;rw[aU];exact ct rfl
  ·intro b5 aR;rw[au,ag];exact⟨fun h=>by omega,fun _=>aR _ _ ⟨rfl,rfl⟩⟩
 have h:=bW;have bl:=bl rfl;have a1:=a1 rfl;have bn:=bn rfl;refine bd.range ar (fun i X=>∃ scope az,am (fe g B) w X∧bD X g B H N (some az)∧fu X B V ⟨scope,scope.map fun v=>all.getD v.toNat 0,0,[]⟩∧scope.length=i∧scope.length+az.toks.length≤100000∧ea all.length ar s=y2 all.length (ar-i) scope az∧ ∀ c,ak X V aF c→c[3]? =some (.slice none 0 0)) (by omega) ⟨[],s,am.refl _ _,h,cp,rfl,by simpa using bl,rfl,cq⟩ ?_ ?_
 rotate_left
 ·rintro X k ⟨scope,az,a2,aE,a6,b6,cY,Z,bz⟩;refine aV (fun v ax=>X=ax∧v= .bool false) ?_ ?_
  ·rintro _ _ ⟨rfl,rfl⟩;rw[aU];rw[W7] at Z;exact bn X scope az a2 Z aE a6 bz
  ·intro b5 aR;rw[au,ag];exact⟨fun h=>by omega,fun _=>aR _ _ ⟨rfl,rfl⟩⟩
 rintro i X k hi ⟨scope,az,a2,aE,a6,b6,cY,Z,bz⟩ cZ;refine aV (fun v ax=>X=ax∧v= .bool true) ?_ ?_
 rotate_left
 ·intro b5 aR;rw[au,ag];refine⟨fun _=>?_,fun h=>by omega⟩;rw[iZ aE];exact aR _ _ ⟨rfl,rfl⟩
 rintro _ _ ⟨rfl,rfl⟩;rw[bm];have b7:∀ {w':x5},am (fe g B) w w'→aq .i64 af w' bV aO all:=fun c1=>br bX c1 fun r E W=>by
  rcases W with rfl|W
  ·obtain⟨c2,ac,aT,bad,c3,big,c4,told,sv,ao,_⟩:=fR h;exact bZ bX ao (by decide) E rfl
  ·have:=cr r E;omega
 rw[aQ ae.u (b7 a2).ls,dw,wrap_i64 (by omega) (by omega)];refine (ik aE).mono ?_;rintro _ Y _ ⟨⟨bA,ap⟩,n,at_,rfl,bB,c5⟩;rw[aC (v:=.int .i64 n) rfl,aC (v:=.int .i64 at_) rfl,ql ap];have bC:=a6.c6 bA (il aE);have bE:am (fe g B) w Y:=a2.trans (bA.mono fun r _ h=>.inl h);have c7:=FH (n:=(all.length:Int)) (k:=ar-(i+1)) (acc:=scope) (s:=az);have c8:ar-i=(ar-(i+1))+1:=by omega
 rw[c8] at Z;unfold y2 at Z;rw[c7] at Z;have c9:aW 0 ((all.length:Int)-1) (some az)=a8 0 ((all.length:Int)-1) az:=rfl;rw[c9] at ap bB c5 ⊢;cases ba:a8 0 ((all.length:Int)-1) az with
 |none=>
  rw[ba] at ap Z;rw[Option.map_none,Option.isSome_none,Y8,bm];exact a1 Y _ bE Z ap bC
 |some q=>
  obtain⟨v,bF⟩:=q;rw[ba] at ap Z bB;have da:n=v:=bB _ rfl;subst da;have dF:=(fO ba).1;have dG:=(c0 ba).1;simp only at Z;rw[Z0,Option.isSome_some,Y7,aU];have ap:bD Y g B H N (some bF):=ap;obtain⟨a7,aw,bP,dH,db,bG,f1,f2,f3,f4,f5,f6,f7⟩:=id bC;rw[ah aF.p rfl,al (by kernel_rfl) (f1.cell (o:=0+0) rfl),aQ ae.u f2.ls];have dI:scope.length≤100000:=by omega
  refine bd.range scope.length (fun j ab=>Y=ab∧n∉scope.take j) (by omega) ⟨rfl,by simp⟩ ?_ ?_
  ·rintro j _ dc dd ⟨rfl,bb⟩ de;obtain⟨u,hu⟩:∃ u,scope[j]? =some u:=⟨_,x3 dd⟩;rw[au,ag];refine⟨fun _=>?_,fun h=>by simp only at h;omega⟩;rw[bw ae.u af.i (by kernel_rfl) f2.ls hu,bM,ag];refine⟨fun he=>?_,fun df=>?_⟩
   ·refine (lV ap (by omega)).mono ?_;rintro _ bq _ ⟨b8,dg⟩;rw[if_pos (by rw[←he];exact u5 hu)] at Z;exact a1 bq _ (bE.trans (b8.mono fun r _ h=>.inl h)) Z dg (bC.c6 b8 (il ap))
   ·rw[aL];refine de _ ⟨rfl,?_⟩;rw[o4,hu];intro hm;rcases n9.1 hm with hm|hm
    ·exact bb hm
    ·simp at hm;exact df hm.symm
  ·rintro _ dc ⟨rfl,bb⟩;rw[l5] at bb;rw[au,ag];refine⟨fun h=>by simp only at h;omega,fun _=>?_⟩;rw[if_neg bb] at Z;rw[ah aF.p rfl,al (by kernel_rfl) (f1.cell (o:=0+0) rfl)];refine dT ae.u af.i rfl fun dJ dK aP dL aA dh=>?_;have dM:=ap.lt;refine gn ae.u af.i rfl (f2.ext aA) dh.ls (by simp;omega) (by simp;omega) fun aI bI bt bc di b9=>?_;have be:=f1.ext aA;have f113:=be.ad b9 fun he=>bZ (f2.ext aA) be (by decide) he rfl;rw[ah aF.p rfl];refine bH (g:=V) (o:=0) ae.i bc.ls.cells.1 bc.ls.cells.2 f113 (by simp) fun aD ca dN bf=>?_;have bf:ak aD V aF [aI,aw,.int .i64 0,bP]:=bf;intro aG bJ _ _;have aX:am (fun r=>leads a7 r∨r=V) aP aD:=(b9.mono fun r _ h=>.inl h).trans (ca.mono fun r _ h=>.inr h);have cb:∀ r,(leads a7 r∨r=V)→fe g B r:=fun r E=>.inr (E.elim (fun E=>f5 r (.inl E)) fun E=>E▸f7);have cc:am (fe g B) w aD:=(bE.trans (aA.ad _)).trans (aX.mono fun r _ E=>cb r E);have dj:am (fe g B) w aG:=cc.trans (bJ.ad _);have dk:aq .i64 af aD db aw _:=br (f3.ext aA) aX fun r E W=>by
    rcases W with W|rfl
    ·exact f6 r W E
    ·exact bZ (f3.ext aA) be (by decide) E rfl
   have dl:aq .i64 af aD bI aI (scope++[n]):=br bc ca fun r E he=>by
    have he:r=V:=he;subst he;exact bZ bc f113 (by decide) E rfl
   have dm:∀ r,(leads a7 r∨r=V)→(∃ c,ak aP r af c)∨ ∃ c,ak aP r aF c:=fun r E=>by
    rcases E with E|rfl
    ·obtain⟨ac,_⟩:=b1 f2 E;obtain⟨_,⟨aY,_⟩|⟨_,cs,aY,ao,_⟩⟩:=f2.ext aA
     ·rw[aY] at E;obtain⟨a,dn,c,ac,aT⟩:=E;cases ac
     ·exact .inl ⟨cs,ac▸ao⟩
    ·exact .inr ⟨_,be⟩
   have dp:ij aD bG bP []:=by
    obtain⟨L,aJ,dq,bK⟩:=f4.c6 (aA.ad fun _=>False) fun _ h=>h.elim;have bL:L=[]:=List.map_eq_nil_iff.1 bK;subst bL;refine⟨[],aJ.ad aX fun r E W=>?_,fun y bN=>(by cases bN),rfl⟩;rcases dm r W with⟨c,ao⟩|⟨c,ao⟩
    ·exact cn aJ ao (by decide) E
    ·exact cn aJ ao (by decide) E
   have dr:bD aD g B H N (some bF):=(ap.ext aA).new aX fun r E=>by
    rcases cb r E with rfl|h
    ·rcases E with E|E
     ·exact f5 _ (.inl E)
     ·exact E▸f7
    ·exact h
   rw[ah aF.p rfl,al (by kernel_rfl) ((bf.ext bJ).cell (o:=0+1) rfl)];have ds:all[n.toNat]? =some (all.getD n.toNat 0):=by rw[p8,x3 (by omega)];rfl
   rw[eV (y:=n) (i:=n.toNat) (by omega) ae.u af.i (by kernel_rfl) (b7 dj).ls ds];refine dT ae.u af.i rfl fun dO dP aM dQ cd dt=>?_;refine⟨.inl cd,?_⟩;have aK:=bJ.trans cd;have f316:=dk.ext aK;have ce:(scope.map fun v=>all.getD v.toNat 0).length=scope.length:=o3 _;refine gn ae.u af.i rfl f316 dt.ls (by simp at ce ⊢;omega) (by simp at ce ⊢;omega) fun bO du bx bg cg ch=>?_;have bh:=bf.ext aK;have ci:=bh.ad ch fun he=>bZ f316 bh (by decide) he rfl;rw[ah aF.p rfl];refine bH (g:=V) (o:=1) ae.i bg.ls.cells.1 bg.ls.cells.2 ci (by simp) fun aH cj dR aZ=>?_;have aZ:ak aH V aF [aI,bO,.int .i64 0,bP]:=aZ;rw[aL];have bi:am (fun r=>leads aw r∨r=V) aM aH:=(ch.mono fun r _ h=>.inl h).trans (cj.mono fun r _ h=>.inr h);have ck:∀ r,(leads aw r∨r=V)→B≤r:=fun r E=>E.elim (fun E=>f5 r (.inr E)) fun E=>E▸f7;have bQ:=dl.ext aK;have dS:=aA.size;have dU:=aX.size;have bR:∀ r,leads aI r→B≤r∧¬leads aw r:=fun r E=>by
    rcases di r E with h|h
    ·exact⟨f5 r (.inl h),f6 r h⟩
    ·exact⟨by omega,fun bS=>by obtain⟨ac,aT⟩:=b1 f3 bS;omega⟩
   have dv:aq .i64 af aH bI aI (scope++[n]):=br bQ bi fun r E W=>by
    rcases W with W|rfl
    ·exact (bR r E).2 W
    ·exact bZ bQ bh (by decide) E rfl
   have dx:=br bg cj fun r E he=>by
    have he:r=V:=he;subst he;exact bZ bg ci (by decide) E rfl
   have dy:ij aH bG bP []:=by
    obtain⟨L,aJ,dq,bK⟩:=dp.c6 (aK.ad fun _=>False) fun _ h=>h.elim;have bL:L=[]:=List.map_eq_nil_iff.1 bK;subst bL;refine⟨[],aJ.ad bi fun r E W=>?_,fun y bN=>(by cases bN),rfl⟩;rcases W with W|rfl
    ·obtain⟨ac,_⟩:=b1 f316 W;obtain⟨_,⟨aY,_⟩|⟨_,cs,aY,ao,_⟩⟩:=f316
     ·rw[aY] at W;obtain⟨a,dn,c,ac,aT⟩:=W;cases ac
     ·exact cn aJ (ac▸ao) (by decide) E
    ·exact cn aJ bh (by decide) E
   refine cZ _ ⟨scope++[n],bF,((cc.trans (aK.ad _)).trans (bi.mono fun r _ E=>.inr (ck r E))),(dr.ext aK).new bi ck,⟨aI,bO,bP,bI,du,bG,aZ,dv,by rw[j0];exact dx,dy,fun r E=>?_,fun r E bS=>?_,f7⟩,by rw[o5,b6];rfl,by rw[o5];simp;omega,Z,fun c bT=>?_⟩
   ·rcases E with E|E
    ·exact (bR r E).1
    ·rcases cg r E with h|h
     ·exact f5 r (.inr h)
     ·have:=aK.size;omega
   ·rcases cg r bS with h|h
    ·exact (bR r E).2 h
    ·obtain⟨ac,aT⟩:=b1 bQ E;omega
   ·have dz:c=[aI,bO,.int .i64 0,bP]:=by
     unfold ak at bT aZ;rw[aZ] at bT;have:=(Obj.cells.inj (Z2 bT)).1;exact (Array.toList_inj.2 this).symm
    have dA:bP= .slice none 0 0:=by
     obtain⟨dV,dW,dX,_,_,_,b0,_⟩:=a6;have cl:=bz _ b0;have bU:=b0.ad bA fun he=>by
      have he:V=g:=he;obtain⟨c2,ac,aT,bad,c3,big,c4,told,sv,ao,_⟩:=fR aE;subst he;exact absurd (eP ao b0) (by decide)
     unfold ak at bU f1;rw[f1] at bU;have dB:=Array.toList_inj.2 (Obj.cells.inj (Z2 bU)).1;have aE:=congrArg (fun l=>l[3]?) dB;simp at aE;simp at cl;rw[aE,cl]
    rw[dz,dA];rfl
set_option maxHeartbeats 1000000 in
theorem FI {w:x5} {sv:x4} {l:List Int} {ab:x4→x5→Prop} (h:aG .i64 w sv l) (h1:∀ z∈l,1≤z) (ao:∀ c:Int,(4096<c↔cS l=true)→ab (.int .i64 c) w):
  ba (.int .i64 1) (.int .i64 0) w fun ac X E ap=>
   I y0 (U .lss J false false X (.int .i64 (l.length:Int))) E fun aq=>
   Split aq (aB (α:=x4→x5→Prop) (fun(av:x4) (ad:x5)=>
    I y0 (U .add J false true X (.int .i64 1)) ad fun aw=>
    ap av aw ad) fun ah=>
   I y0 (x7 ae sv X) E fun ax=>
   I y0 (x1 af ax) E fun ai=>
   aB (α:=x4→x5→Prop) (fun(ay:x4) (V:x5)=>
    I y0 (U .mul af false false ac ay) V fun aj=>
    I y0 (U .gtr af false true aj (.int .i64 4096)) V fun az=>
    Split az (ah (.int .i64 4097) V)
     (ah aj V)) fun ak=>
   I y0 (U .gtr af false true ai (.int .i64 4096)) E fun aA=>
   Split aA (ak (.int .i64 4097) E)
    (ak ai E))
    (ab ac E):=by
 refine ba.range l.length (fun i c aC=>w=aC∧ ∃ p:Int,p=aH ((l.take i).map fun k=>min k 4097)∧1≤p∧c= .int .i64 (if 4096<p then 4097 else p)) h.le ⟨rfl,1,by simp[aH],by omega,by rw[if_neg (by omega)]⟩ ?_ ?_
 ·rintro i _ _ aD hi ⟨rfl,p,W,aE,rfl⟩ aF;obtain⟨z,Y⟩:∃ z,l[i]? =some z:=⟨_,x3 hi⟩;have aJ:=h1 z (u5 Y);have e:aH ((l.take (i+1)).map fun k=>min k 4097)=p*min z 4097:=by
   rw[W,o4,Y,c8,j0,List.map_cons,List.map_nil,wS]
  have aK:p*1≤p*min z 4097:=Int.mul_le_mul_of_nonneg_left (by omega) (by omega);rw[au,ag];refine⟨fun _=>?_,fun h=>by omega⟩;refine aV (fun v Z=>w=Z∧v= .int .i64 (if 4096<p*min z 4097 then 4097 else p*min z 4097)) ?_ ?_
  ·rintro _ _ ⟨rfl,rfl⟩;rw[aL];exact aF _ _ ⟨rfl,_,e.symm,by omega,rfl⟩
  intro aM aa;rw[bw ae.u af.i (by kernel_rfl) h Y];refine aV (fun v Z=>w=Z∧v= .int .i64 (min z 4097)) ?_ ?_
  ·rintro _ _ ⟨rfl,rfl⟩;rw[fZ];by_cases al:4096<p
   ·rw[if_pos al];have aI:(4097:Int)*1≤4097*min z 4097:=Int.mul_le_mul_of_nonneg_left (by omega) (by omega);rw[wrap_i64 (by omega) (by omega),bT,ag];refine⟨fun _=>aa _ _ ⟨rfl,by rw[if_pos (by omega)]⟩,fun aN=>by omega⟩
   ·rw[if_neg al];have aI:p*min z 4097≤4096*4097:=by
     have aO:=Int.mul_le_mul_of_nonneg_right (show p≤4096 by omega) (show 0≤min z 4097 by omega);have aP:=Int.mul_le_mul_of_nonneg_left (show min z 4097≤4097 by omega) (show (0:Int)≤4096 by omega);omega
    rw[wrap_i64 (by omega) (by omega),bT,ag];exact⟨fun O=>aa _ _ ⟨rfl,by rw[if_pos O]⟩,fun O=>aa _ _ ⟨rfl,by rw[if_neg O]⟩⟩
  ·intro aQ am;rw[bT,ag];exact⟨fun O=>am _ _ ⟨rfl,by congr 1;omega⟩,fun O=>am _ _ ⟨rfl,by congr 1;omega⟩⟩
 ·rintro _ _ aD ⟨rfl,p,W,aE,rfl⟩;rw[l5] at W;rw[au,ag];refine⟨fun h=>by omega,fun _=>ao _ ?_⟩;unfold cS;rw[←W,decide_eq_true_eq];split
  ·exact⟨fun _=>by omega,fun _=>by omega⟩
  ·exact Iff.rfl
set_option maxHeartbeats 2000000 in
theorem FJ {w:x5} {g B N aP aQ:Nat} {H:av} {so:Option ay} {aw:x4} {sizes:List Int} {aR:x5→Prop} (h:bD w g B H N so) (ao:aq .i64 af w aQ aw sizes) (be:∀ z∈sizes,1≤z∧z≤ap) (bS:sizes.length≤100001)
  (aI:ak w aP bA [.slice none 0 0,.int .i64 0]) (bf:B≤aP)
  (aS:∀ t w' V Y,t.length=sizes.length→am (fun r=>r=g∨r=aP∨w.heap.size≤r) w w'→ak w' aP bA [V,.int .i64 0]→aq .i64 af w' Y V t→(∀ r,leads V r→w.heap.size≤r)→bD w' g B H N ((ec sizes [] so).map (·.2))→(∀ q,ec sizes [] so=some q→t=q.1)→aR w'):
  bd (.int .i64 0) w fun aJ ab bg=>
      I y0 (U .lss J false false aJ (.int .i64 (sizes.length:Int))) ab fun bh=>
      Split bh (I y0 (x7 ae aw aJ) ab fun bi=>
      I y0 (x1 af bi) ab fun bj=>
      I y0 (U .sub af false true bj (.int .i64 1)) ab fun bk=>
      O y0 en [.pointer (some ⟨g,0,none⟩),(.int .i64 0),bk] ab fun aT ax=>
      I y0 (x8 aT 0) ax fun bl=>
      I y0 (x8 aT 1) ax fun bT=>
      I y0 (x2 bA (.pointer (some ⟨aP,0,none⟩)) 0) ax fun bm=>
      I y0 (x1 ae bm) ax fun bn=>
      aa y0 (u9 ae 1 #[(0,bl)]) ax fun bo bp=>
      aa y0 (r8 #[ae,ae] ae #[bn,bo]) bp fun bq aU=>
      I y0 (x2 bA (.pointer (some ⟨aP,0,none⟩)) 0) aU fun bt=>
      aa y0 (x6 ae bt bq) aU fun(_:Unit) aV=>
      I y0 (U .add J false true aJ (.int .i64 1)) aV fun bu=>
      bg bu aV)
       (aR ab):=by
 have bU:=aI.lt;have bV:=h.lt;refine bd.range sizes.length (fun j W=>∃ t V Y X,t.length=j∧am (fun r=>r=g∨r=aP∨w.heap.size≤r) w W∧ak W aP bA [V,.int .i64 0]∧aq .i64 af W Y V t∧(∀ r,leads V r→w.heap.size≤r)∧bD W g B H N X∧ec sizes [] so=ec (sizes.drop j) t X) ao.ls.le
  ⟨[],_,0,so,rfl,am.refl _ _,aI,aq.nil _ _ _ _,(fun r E=>by obtain⟨a,n,c,aD,aK⟩:=E;cases aD),h,rfl⟩ ?_ ?_
 rotate_left
 ·rintro W bx ⟨t,V,Y,X,aE,ac,aF,az,ai,aA,he⟩;rw[au,ag];refine⟨fun h=>by omega,fun _=>?_⟩;rw[List.drop_length] at he;cases X with
  |none=>
   have he:ec sizes [] so=none:=he;exact aS t W V Y aE ac aF az ai (by rw[he];exact aA) (fun q Z=>by rw[he] at Z;cases Z)
  |some X=>
   have he:ec sizes [] so=some (t,X):=he;exact aS t W V Y aE ac aF az ai (by rw[he];exact aA) (fun q Z=>by rw[he] at Z;cases Z;rfl)
 rintro j W bx aX ⟨t,V,Y,X,aE,ac,aF,az,ai,aA,he⟩ bz;obtain⟨z,aM⟩:∃ z,sizes[j]? =some z:=⟨_,x3 aX⟩;have bB:=be z (u5 aM);have bW:z≤4611686018427387904:=bB.2;have bC:aq .i64 af W aQ aw sizes:=br ao ac fun r E aY=>by
  rcases aY with rfl|rfl|aY
  ·obtain⟨bE,aD,aK,bad,bF,big,bG,told,sv,aB,_⟩:=fR h;exact bZ ao aB (by decide) E rfl
  ·exact bZ ao aI (by decide) E rfl
  ·obtain⟨aD,aK⟩:=b1 ao E;omega
 rw[au,ag];refine⟨fun _=>?_,fun h=>by omega⟩;rw[bw ae.u af.i (by kernel_rfl) bC.ls aM,dw,wrap_i64 (by omega) (by omega)];refine (ik aA).mono ?_;rintro _ bI _ ⟨⟨aG,bJ⟩,n,at_,rfl,bK,bX⟩;rw[aC (v:=.int .i64 n) rfl,aC (v:=.int .i64 at_) rfl];have bL:aP≠g:=by omega
 have aZ:=aF.ad aG fun he=>bL he;have bM:∃ c,ak W g aN c:=by obtain⟨bE,aD,aK,bad,bF,big,bG,told,sv,aB,_⟩:=fR aA;exact⟨_,aB⟩
 have a1:aq .i64 af bI Y V t:=br az aG fun r E he=>by
  have he:r=g:=he;obtain⟨c,aB⟩:=bM;exact bZ az aB (by decide) E he
 rw[ah bA.p rfl,al (by kernel_rfl) (aZ.cell (o:=0+0) rfl)];refine dT ae.u af.i rfl fun a3 bY bN b2 aj bO=>?_;refine gn ae.u af.i rfl (a1.ext aj) bO.ls (by simp;omega) (by simp;omega) fun a2 bP b3 aH bQ a6=>?_;have a7:=aZ.ext aj;have a8:=a7.ad a6 fun he=>bZ (a1.ext aj) a7 (by decide) he rfl;rw[ah bA.p rfl];refine bH (g:=aP) (o:=0) ae.i aH.ls.cells.1 aH.ls.cells.2 a8 (by simp) fun ba bb b4 aO=>?_;have aO:ak ba aP bA [a2,.int .i64 0]:=aO;rw[aL];have bc:am (fun r=>leads V r∨r=aP) bN ba:=(a6.mono fun r _ h=>.inl h).trans (bb.mono fun r _ h=>.inr h);have b5:=ac.size;have b6:=aG.size;have z3:=aj.size;refine bz _ ⟨t++[n],a2,bP,(aW 0 (z-1) X).map (·.2),by simp[aE],?_,aO,br aH bb fun r E he=>?_,fun r E=>?_,?_,?_⟩
 ·refine (ac.trans (aG.mono fun r _ h=>.inl h)).trans ((aj.ad _).trans (bc.mono fun r _ h=>?_));exact h.elim (fun h=>.inr (.inr (ai r h))) fun h=>.inr (.inl h)
 ·have he:r=aP:=he;subst he;exact bZ aH a8 (by decide) E rfl
 ·rcases bQ r E with h|h
  ·exact ai r h
  ·omega
 ·refine (bJ.ext aj).new bc fun r E=>?_;rcases E with E|rfl
  ·have:=ai r E;omega
  ·exact bf
 ·rw[he];have bR:sizes.drop j=z::sizes.drop (j+1):=by rw[X2 aX,(u4.1 aM).2]
  rw[bR,xy];cases Z:aW 0 (z-1) X with
  |none=>rfl
  |some q=>
   obtain⟨v,b7⟩:=q;have:=bK _ Z;subst this;rfl
theorem uq {w:x5} {g:Nat} {v:x4} {t:List Int} {c:Int} (h:aq .i64 af w g v t):∀ u∈lU ⟨v,t,c⟩,u.oneCell'=true:=by
 intro u hu;simp[lU] at hu;rcases hu with rfl|rfl
 ·exact h.ls.cells.2
 ·rfl
def FK (sizes:List Int) (cnt i:Nat) (s0:ay) (A:List (List Int×Int)) (so:Option ay):Prop:=(∃ s,so=some s∧ck (de sizes) cnt [] s0=ck (de sizes) (cnt-i) A s∧A.length+s.toks.length≤100000)∨(so=none∧ck (de sizes) cnt [] s0=none)
set_option maxHeartbeats 8000000 in
theorem FL {w:x5} {g B N Y bl bn aA:Nat} {H:av} {s0:ay} {a7 aw bP:x4} {scope sizes:List Int} {o n:Int} {aY:List (List Int×Int)} {cc:x5→Prop} (h:bD w g B H N (some s0)) (f1:ak w Y aF [a7,aw,.int .i64 o,bP]) (f2:aq .i64 af w bl a7 scope) (f3:aq .i64 af w bn aw sizes) (f4:ij w aA bP aY)
  (f5:∀ r,leads a7 r∨leads aw r→B≤r) (f6:∀ r,leads a7 r→¬leads aw r) (f7:B≤Y) (c9:∀ z∈sizes,1≤z∧z≤ap) (da:sizes.length≤100001) (e5:n≤4611686018427387904) (bI:0<n→aY=[]∧ ∀ r,¬leadsTo bP r) (db:s0.toks.length≤100000)
  (cd:∀ w' A bJ,am (fe g B) w w'→fu w' B Y ⟨scope,sizes,o,A⟩→bD w' g B H N bJ→(n≤0→A=aY∧bJ=some s0)→(0<n→bJ=(ck (de sizes) n.toNat [] s0).map (·.2)∧ ∀ q,ck (de sizes) n.toNat [] s0=some q→A=q.1)→cc w'):
  bd (.int .i64 0) w fun ce aH dc=>
     aB (α:=x4→x5→Prop) (fun(dd:x4) (cg:x5)=>
      Split dd (aa y0 (n0 bA true (.tuple #[])) cg fun x aD=>
     I y0 (x2 aF (.pointer (some ⟨Y,0,none⟩)) 1) aD fun df=>
     I y0 (x1 ae df) aD fun ch=>
     I y0 (u6 #[ae] J #[ch]) aD fun dg=>
     bd (.int .i64 0) aD fun bK aI dh=>
      I y0 (U .lss J false false bK dg) aI fun di=>
      Split di (I y0 (x7 ae ch bK) aI fun dj=>
      I y0 (x1 af dj) aI fun dk=>
      I y0 (U .sub af false true dk (.int .i64 1)) aI fun dl=>
      O y0 en [.pointer (some ⟨g,0,none⟩),(.int .i64 0),dl] aI fun ci aZ=>
      I y0 (x8 ci 0) aZ fun dm=>
      I y0 (x8 ci 1) aZ fun e6=>
      I y0 (x2 bA x 0) aZ fun dn=>
      I y0 (x1 ae dn) aZ fun dp=>
      aa y0 (u9 ae 1 #[(0,dm)]) aZ fun dq dr=>
      aa y0 (r8 #[ae,ae] ae #[dp,dq]) dr fun dt cj=>
      I y0 (x2 bA x 0) cj fun du=>
      aa y0 (x6 ae du dt) cj fun(_:Unit) cl=>
      I y0 (U .add J false true bK (.int .i64 1)) cl fun dv=>
      dh dv cl)
       (O y0 en [.pointer (some ⟨g,0,none⟩),(.int .i64 0),(.int .i64 4611686018427387904)] aI fun cm W=>
     I y0 (x8 cm 0) W fun dw=>
     I y0 (x8 cm 1) W fun dx=>
     I y0 (x2 aF (.pointer (some ⟨Y,0,none⟩)) 3) W fun dy=>
     I y0 (x1 cp dy) W fun cq=>
     I y0 (u6 #[cp] J #[cq]) W fun dz=>
     bd (.int .i64 0) W fun bL Z dA=>
      I y0 (U .lss J false false bL dz) Z fun dB=>
      Split dB (aB (α:=x5→Prop) (fun(aS:x5)=>
       I y0 (U .add J false true bL (.int .i64 1)) aS fun dC=>
       dA dC aS) fun cr=>
      I y0 (x7 cp cq bL) Z fun dD=>
      I y0 (x1 bA dD) Z fun dE=>
      aa y0 (n0 bA true (.tuple #[])) Z fun y ct=>
      aa y0 (x6 bA y dE) ct fun(_:Unit) ab=>
      aB (α:=x4→x5→Prop) (fun(dF:x4) (a1:x5)=>
       Split dF (O y0 fA [.pointer (some ⟨g,0,none⟩),(.int .i64 4),dx] a1 fun e7 cu=>
        cr cu)
        (cr a1)) fun cw=>
      I y0 (aj (.pointer (some ⟨g,0,none⟩))) ab fun dH=>
      I y0 (x2 aN dH 3) ab fun dI=>
      I y0 (x1 J dI) ab fun dJ=>
      I y0 (U .eql J false true dJ (.int .i64 0)) ab fun dL=>
      Split dL (I y0 (x2 bA x 0) ab fun dM=>
       I y0 (x1 ae dM) ab fun dN=>
      I y0 (x2 bA y 0) ab fun dO=>
      I y0 (x1 ae dO) ab fun dP=>
      O y0 iF [dN,dP] ab fun dQ cz=>
      cw dQ cz)
       (cw (.bool false) ab))
       (I y0 (x2 bA x 1) Z fun dR=>
     aa y0 (x6 af dR dw) Z fun(_:Unit) aE=>
     I y0 (x2 aF (.pointer (some ⟨Y,0,none⟩)) 3) aE fun dS=>
     I y0 (x1 cp dS) aE fun dT=>
     I y0 (x1 bA x) aE fun dU=>
     aa y0 (u9 cp 1 #[(0,dU)]) aE fun dV bo=>
     aa y0 (r8 #[cp,cp] cp #[dT,dV]) bo fun dW bM=>
     I y0 (x2 aF (.pointer (some ⟨Y,0,none⟩)) 3) bM fun dX=>
     aa y0 (x6 cp dX dW) bM fun(_:Unit) aG=>
     I y0 (U .add af false true ce (.int .i64 1)) aG fun dY=>
     dc dY aG)))
       (cc cg)) fun cA=>
     I y0 (U .lss af false false ce (.int .i64 n)) aH fun dZ=>
     Split dZ (I y0 (aj (.pointer (some ⟨g,0,none⟩))) aH fun ea=>
     I y0 (x2 aN ea 3) aH fun ed=>
     I y0 (x1 J ed) aH fun ee=>
     I y0 (U .eql J false true ee (.int .i64 0)) aH fun ef=>
     cA ef aH)
      (cA (.bool false) aH):=by
 have eg:=h.lt;refine bd.range n.toNat (fun i V=>∃ A so bP aA,am (fe g B) w V∧ak V Y aF [a7,aw,.int .i64 o,bP]∧aq .i64 af V bl a7 scope∧aq .i64 af V bn aw sizes∧ij V aA bP A∧(0<n→ ∀ r,leadsTo bP r→B≤r)∧bD V g B H N so∧(n≤0→A=aY∧so=some s0)∧(0<n→FK sizes n.toNat i s0 A so)) (by omega)
  ⟨aY,some s0,bP,aA,am.refl _ _,f1,f2,f3,f4,fun ax r E=>absurd E ((bI ax).2 r),h,fun _=>⟨rfl,rfl⟩,fun ax=>.inl ⟨s0,rfl,by rw[(bI ax).1];rfl,by rw[(bI ax).1];simpa using db⟩⟩ ?_ ?_
 rotate_left
 ·rintro V k ⟨A,so,bP,aA,a2,aT,bp,a6,ba,bO,aJ,cB,X⟩;refine aV (fun v bQ=>V=bQ∧v= .bool false) ?_ ?_
  ·rintro _ _ ⟨rfl,rfl⟩;rw[aU];refine cd V A so a2 ⟨a7,aw,bP,bl,bn,aA,aT,bp,a6,ba,f5,f6,f7⟩ aJ cB fun ax=>?_;rcases X ax with⟨s,rfl,he,_⟩|⟨rfl,he⟩
   ·rw[W7] at he;rw[he];exact⟨rfl,fun q ac=>by cases ac;rfl⟩
   ·rw[he];exact⟨rfl,fun q ac=>by cases ac⟩
  ·intro eh bR;rw[au,ag];exact⟨fun h=>by omega,fun _=>bR _ _ ⟨rfl,rfl⟩⟩
 rintro i V k hi ⟨A,so,bP,aA,a2,aT,bp,a6,ba,bO,aJ,cB,X⟩ ei;have ax:0<n:=by omega
 refine aV (fun v bQ=>V=bQ∧v= .bool so.isSome) ?_ ?_
 rotate_left
 ·intro eh bR;rw[au,ag];refine⟨fun _=>?_,fun h=>by omega⟩;rw[iZ aJ];exact bR _ _ ⟨rfl,rfl⟩
 rintro _ _ ⟨rfl,rfl⟩;rcases X ax with⟨bb,rfl,he,e8⟩|⟨rfl,he⟩
 rotate_left
 ·rw[Option.isSome_none,aU];refine cd V A none a2 ⟨a7,aw,bP,bl,bn,aA,aT,bp,a6,ba,f5,f6,f7⟩ aJ (fun h=>by omega) fun _=>?_;rw[he];exact⟨rfl,fun q ac=>by cases ac⟩
 rw[Option.isSome_some,bm];have e9:=aJ.lt;refine bU bA.i fun aP aD fb bc bS=>?_;have bS:ak aD aP bA [.slice none 0 0,.int .i64 0]:=bS;have ej:=aT.ext bc;have cC:=a6.ext bc;have fc:=bc.size;have fd:=aT.lt;rw[ah aF.p rfl,al (by kernel_rfl) (ej.cell (o:=0+1) rfl),aQ ae.u cC.ls];refine FJ (aJ.ext bc) cC c9 da bS (by omega) fun t aI bq cD ff ek em eo ep er es=>?_;refine (ik er).mono ?_;rintro _ W _ ⟨⟨bT,bt⟩,c,at_,rfl,et,fg⟩;rw[aC (v:=.int .i64 c) rfl,aC (v:=.int .i64 at_) rfl];have bV:aP≠g:=by omega
 have cE:Y≠g:=by have:=h.lt;omega
 have eu:am (fun r=>r=g∨r=aP∨aD.heap.size≤r) aD W:=ek.trans (bT.mono fun r _ h=>.inl h);have cF:∀ {S:Nat→Prop},(∀ r,S r→r=g∨V.heap.size≤r)→ ∀ r,S r→ft V r∨V.heap.size≤r:=fun ev r E=>(ev r E).imp (fun he=>by
  subst he;obtain⟨cG,be,bf,bad,cH,big,cI,told,sv,X,_⟩:=fR aJ;exact⟨_,_,X,by decide,by decide⟩) id
 have bu:am (fun r=>r=g∨V.heap.size≤r) V W:=(bc.ad _).trans (eu.mono fun r _ h=>h.elim .inl fun h=>h.elim (fun h=>.inr (by omega)) fun h=>.inr (by omega));have cK:ak W Y aF [a7,aw,.int .i64 o,bP]:=aT.ad bu fun h=>h.elim cE fun h=>by omega
 obtain⟨L,bw,cL,bW⟩:=ba.c6 bu (cF fun r E=>E);have cM:ak W aP bA [bq,.int .i64 0]:=em.ad bT fun he=>bV he;have cN:aq .i64 af W cD bq t:=br eo bT fun r E he=>by
  have he:r=g:=he;have:=ep r E;omega
 have fh:L.length=A.length:=by rw[←bW,o3]
 rw[ah aF.p rfl,al (by kernel_rfl) (cK.cell (o:=0+3) rfl),eb cp.u bw];generalize cO:(aW 0 4611686018427387904 (W6 (fun x=>x.snd) (ec sizes [] (some bb)))).map (·.2)=aK at bt;have fi:=bu.size;refine bd.range L.length (fun j Z=>am (fun r=>r=g) W Z∧bD Z g B H N (if t∈(L.take j).map (·.t) then none else aK)) bw.le ⟨am.refl _ _,by simpa using bt⟩ ?_ ?_
 ·rintro j Z ew cP ⟨ai,bg⟩ ey;obtain⟨y,ao⟩:∃ y,L[j]? =some y:=⟨_,x3 cP⟩;have bX:∃ c,ak W g aN c:=by obtain⟨cG,be,bf,bad,cH,big,cI,told,sv,X,_⟩:=fR bt;exact⟨_,X⟩
  have aM:∀ r,r=g→ft W r∨W.heap.size≤r:=fun r E=>by
   subst E;obtain⟨c,X⟩:=bX;exact .inl ⟨_,c,X,by decide,by decide⟩
  have bx:=um bw ai fun r E=>(aM r E).imp (fun⟨e,c,X,_,bh⟩=>⟨e,c,X,bh⟩) id;obtain⟨fj,ez⟩:=cL y (u5 ao);have cQ:=dK ez ai aM;have bY:=dK cN ai aM;have bz:=cM.ad ai fun he=>bV he;rw[au,ag];refine⟨fun _=>?_,fun h=>by omega⟩;have b1:t∈(L.take (j+1)).map (·.t)↔t∈(L.take j).map (·.t)∨t=y.t:=by
   rw[o4,ao,c8,j0,n9];simp
  refine dG (fun aS=>am (fun r=>r=g) W aS∧bD aS g B H N (if t∈(L.take (j+1)).map (·.t) then none else aK)) ?_ ?_
  ·rintro aS eA;rw[aL];exact ey _ eA
  intro fk cR;rw[cT rfl cp.u bA.i bx cP,bN bA.p bA.i rfl (bx.range ao)];refine bU bA.i fun aO ct fm eB eC=>?_;refine b9 (vs:=lU y) bA.i rfl rfl (uq cQ) eC fun ab eD fo eE=>?_;have bi:Ext Z ab:=eB.then eD fun r E he=>by have he:r=aO:=he;omega
  have cS:=bg.ext bi;have cU:am (fun r=>r=g) W ab:=ai.trans (bi.ad _);refine aV (fun v a1=>∃ b:Bool,v= .bool b∧Ext ab a1∧(b=true→t=y.t)∧(b=false→t≠y.t∨(if t∈(L.take j).map (·.t) then none else aK)=none)) ?_ ?_
  ·rintro _ a1 ⟨b,rfl,b2,eF,eG⟩;have aR:=cS.ext b2;cases b with
   |true=>
    rw[bm];refine (lV aR (by omega)).mono ?_;rintro _ cu _ ⟨eH,eI⟩;refine cR _ ⟨(cU.trans (b2.ad _)).trans eH,?_⟩;rw[if_pos (b1.2 (.inr (eF rfl)))];exact eI
   |false=>
    rw[aU];refine cR _ ⟨cU.trans (b2.ad _),?_⟩;by_cases hm:t∈(L.take j).map (·.t)
    ·rw[if_pos (b1.2 (.inl hm))];rw[if_pos hm] at aR;exact aR
    ·rw[if_neg hm] at aR;rcases eG rfl with bh|cV
     ·rw[if_neg (fun h=>(b1.1 h).elim hm bh)];exact aR
     ·rw[if_neg hm] at cV;rw[cV] at aR ⊢;split <;> exact aR
  ·intro fp cW;rw[iZ cS];cases bj:(if t∈(L.take j).map (·.t) then none else aK) with
   |none=>
    rw[Option.isSome_none,aU];exact cW _ _ ⟨false,rfl,Ext.refl _,(fun h=>by cases h),fun _=>.inr bj⟩
   |some fq=>
    rw[Option.isSome_some,bm];have eJ:=bz.ext bi;rw[ah bA.p rfl,al (by kernel_rfl) (eJ.cell (o:=0+0) rfl),ah bA.p rfl,al (by kernel_rfl) (eE.cell (o:=0+0) rfl)];refine (uo (bY.ls.ext bi) (cQ.ls.ext bi)).mono ?_;rintro _ cz _ ⟨rfl,eK⟩;exact cW _ _ ⟨_,rfl,eK,fun h=>of_decide_eq_true h,fun h=>.inl (of_decide_eq_false h)⟩
 ·rintro Z ew ⟨ai,bg⟩;rw[l5] at bg;have eL:L.map (·.t)=A.map (·.1):=by rw[←bW,List.map_map];rfl
  rw[eL] at bg;have bX:∃ c,ak W g aN c:=by obtain⟨cG,be,bf,bad,cH,big,cI,told,sv,X,_⟩:=fR bt;exact⟨_,X⟩
  have aM:∀ r,r=g→ft W r∨W.heap.size≤r:=fun r E=>by
   subst E;obtain⟨c,X⟩:=bX;exact .inl ⟨_,c,X,by decide,by decide⟩
  have cX:∀ r,(r=g∨V.heap.size≤r)→ft V r∨V.heap.size≤r:=cF fun r E=>E;have bB:am (fun r=>r=g∨V.heap.size≤r) V Z:=bu.trans (ai.mono fun r _ h=>.inl h);have eM:=cK.ad ai fun he=>cE he;have eN:=dK bp bB cX;have eO:=dK a6 bB cX;have bx:=um bw ai fun r E=>(aM r E).imp (fun⟨e,c,X,_,bh⟩=>⟨e,c,X,bh⟩) id;have eP:∀ y∈L,∃ aO,aq .i64 af Z aO y.v y.t:=fun y ao=>by
   obtain⟨aO,hm⟩:=cL y ao;exact⟨aO,dK hm ai aM⟩
  have bY:=dK cN ai aM;have bz:=cM.ad ai fun he=>bV he;rw[au,ag];refine⟨fun h=>by omega,fun _=>?_⟩;rw[ah bA.p rfl];refine bH (g:=aP) (o:=1) af.i rfl rfl bz (by simp) fun aE aX fr b3=>?_;have b3:ak aE aP bA [bq,.int .i64 c]:=b3;have eQ:Y≠aP:=by omega
  have cY:=eM.ad aX fun he=>eQ he;have fs:V.heap.size≤aP:=by omega
  have eR:∀ r,leadsTo bP r→r≠aP:=fun r E=>by obtain⟨be,bf⟩:=ba.choose_spec.1.leads E;omega
  have eS:=bx.ad aX fun r E he=>eR r E he;rw[ah aF.p rfl,al (by kernel_rfl) (cY.cell (o:=0+3) rfl),bN bA.p bA.i rfl b3.range];let a:ul:=⟨bq,t,c⟩;have bC:∀ {v:x4} {bk:Nat} {l:List Int},aq .i64 af Z bk v l→aq .i64 af aE bk v l:=fun hm=>br hm aX fun r E he=>by
   have he:r=aP:=he;exact bZ hm bz (by decide) E he
  have cZ:=bC bY;refine fa (f:=lU) (a:=a) cp.u bA.i (by omega) rfl rfl fun v45 fv bo fw az eT=>?_;have b4:=eS.ext az;refine fl (f:=lU) (a:=a) cp.u bA.i rfl b4 (by simpa using eT.sl) (uq (cZ.ext az)) (by omega) (by omega) fun b5 c1 bM bE eU c2=>?_;have b6:=cY.ext az;have c3:=b6.ad c2 fun he=>cn b4 b6 (by decide) he;rw[ah aF.p rfl];refine bH (g:=Y) (o:=3) cp.i (cJ bE.sl).1 (cJ bE.sl).2 c3 (by simp) fun aG c4 fx b7=>?_;have b7:ak aG Y aF [a7,aw,.int .i64 o,b5]:=b7;rw[aL];have b8:am (fun r=>leadsTo bP r∨r=Y) bo aG:=(c2.mono fun r _ h=>.inl h).trans (c4.mono fun r _ h=>.inr h);have bF:∀ {v:x4} {bk:Nat} {l:List Int},aq .i64 af bo bk v l→aq .i64 af aG bk v l:=fun hm=>br hm b8 fun r E ca=>by
   rcases ca with ca|rfl
   ·obtain⟨rfl,fy,X⟩:=ds b4 ca;exact bZ hm X (by decide) E rfl
   ·exact bZ hm b6 (by decide) E rfl
  have c5:∀ r,(leadsTo bP r∨r=Y)→B≤r:=fun r E=>E.elim (fun E=>bO ax r E) fun E=>E▸f7;have eV:bD aE g B H N (if t∈A.map (·.1) then none else aK):=bg.new aX fun r E=>by
   have E:r=aP:=E;omega
  have eW:=(eV.ext az).new b8 c5;have eX:am (fe g B) V aG:=((bB.mono fun r _ h=>h.elim .inl fun h=>.inr (by omega)).trans (aX.mono fun r _ h=>.inr (by have h:r=aP:=h;omega))).trans ((az.ad _).trans (b8.mono fun r _ h=>.inr (c5 r h)));have eY:ij aG c1 b5 (A++[(t,c)]):=⟨L++[a],bE.ad c4 fun r E he=>by
   have he:r=Y:=he;subst he;exact cn bE c3 (by decide) E,fun y ao=>by
   rcases n9.1 ao with ao|ao
   ·obtain⟨aO,hm⟩:=eP y ao;exact⟨aO,bF ((bC hm).ext az)⟩
   ·rw[o9.1 ao];exact⟨cD,bF (cZ.ext az)⟩,by rw[j0,bW];rfl⟩
  refine ei _ ⟨A++[(t,c)],_,b5,c1,a2.trans eX,b7,bF ((bC eN).ext az),bF ((bC eO).ext az),eY,fun _ r E=>?_,eW,fun h=>by omega,fun _=>?_⟩
  ·rcases eU r E with h|h
   ·exact bO ax r h
   ·have:=a2.size;have:=bB.size;have:=aX.size;have:=az.size;have:=eg.2;omega
  ·have eZ:n.toNat-i=(n.toNat-(i+1))+1:=by omega
   rw[eZ] at he;obtain⟨e0,e1⟩:=xC (sizes:=sizes) (acc:=A) (st:=bb) (t:=t) (c:=c) es et;cases ac:aW 0 ap ((ec sizes [] (some bb)).map (·.2)) with
   |none=>
    have bj:aK=none:=by rw[←cO];show (aW 0 ap _).map _=none;rw[ac];rfl
    rw[nf (e0 ac)] at he;refine .inr ⟨?_,he⟩;rw[bj];split <;> rfl
   |some q=>
    have bj:aK=some q.2:=by rw[←cO];show (aW 0 ap _).map _=_;rw[ac];rfl
    have bG:=e1 q ac;by_cases hm:t∈A.map (·.1)
    ·rw[if_pos hm] at bG;rw[nf bG] at he;exact .inr ⟨by rw[if_pos hm],he⟩
    ·rw[if_neg hm] at bG;rw[rv bG] at he;refine .inl ⟨q.2,by rw[if_neg hm,bj],he,?_⟩;cases cb:ec sizes [] (some bb) with
     |none=>rw[cb] at ac;cases ac
     |some p=>
      rw[cb] at ac;obtain⟨e2,c7⟩:=p;have be:gz sizes [] bb=some (e2,c7):=cb;obtain⟨u,_,_,e3⟩:=tl be;have bf:a8 0 ap c7=some q:=ac;obtain⟨fz,fB⟩:=q;have e4:=c0 bf;have:=e3.1;have:=e4.1;rw[o5];simp only[T3];omega
def hE (s:ay):Prop:=s.big=false→0≤s.told∧s.told≤16384
def hF (neg:Bool) (ar:Nat) (scope sizes:List Int) (I:Option ay):Option (ca×ay):=match aW 0 ap (I.map (aY (decide (6<ar)||cS sizes))) with
 |none=>none
 |some (other,J)=>match df sizes J with
  |none=>none
  |some (lines,E)=>some (⟨scope,sizes,other,lines⟩,if neg=true then {E with shared:=E.shared++[(sizes,lines)]} else E)
theorem y4 {sizes:List Int} {s s':ay} {l:List (List Int×Int)} (h:df sizes s=some (l,s')):s'.toks.length+1≤s.toks.length∧s'.shared=s.shared:=by
 unfold df at h;cases I:a8 (-ap) ap s with
 |none=>rw[I] at h;cases h
 |some q=>
  obtain⟨n,E⟩:=q;have O:=c0 I;have Y:=O.1;have U:=O.eqs.2.2;rw[I] at h;simp only at h;split at h
  ·split at h
   ·cases h
   ·split at h
    ·cases h;exact⟨by omega,U⟩
    ·cases h
  ·have h':ck (de sizes) n.toNat [] (aY (decide (16384<min (E.told+n) ap)) {E with told:=min (E.told+n) ap})=some (l,s'):=h;have:=h8 (f:=de sizes) (fun _ t=>t.toks.length≤E.toks.length∧t.shared=E.shared) (fun acc t a Z V X=>by
    obtain⟨_,_,_,W⟩:=nb X;have h1:=W.1;have J:=W.eqs.2.2;exact⟨by have:=V.1;omega,J.trans V.2⟩) n.toNat [] (aY (decide (16384<min (E.told+n) ap)) {E with told:=min (E.told+n) ap}) l s' ⟨o7 _,rfl⟩ h'
   obtain⟨⟨h1,J⟩,_⟩:=this;exact⟨by omega,J.trans U⟩
theorem sa {w:x5} {g B N:Nat} {H:av} {s:ay} (h:bD w g B H N (some s)):s.toks.length≤100000∧s.shared.length+s.toks.length≤100000:=by
 obtain⟨O,w0,U,V,gs,sv,L,W,X,Y,bad,Z,big,aa,told,h1,ab,ac,ad,I,ae,af,ag,ah,ai,aj,E,ak,J,al⟩:=h;have am:=I.2.2.1;refine⟨by rw[←E,o3];omega,by rw[←E,←J,o3,o3];omega⟩
def y5 (w:x5) (g O B:Nat) (H:av) (I:Option (ca×ay)) (v:x4) (w':x5):Prop:=∃ J x E,am (fun r=>r=g∨H r∨r=O∨B≤r) w w'∧v= .agg (dW J).toArray∧fd w' J x∧bD w' g w'.heap.size E 100001 (I.map (·.2))∧(∀ q,I=some q→x=q.1)∧(∀ r,H r→E r)∧(∀ r,E r→H r∨B≤r)∧ ∀ r,E r→r<w'.heap.size
set_option maxHeartbeats 16000000 in
theorem y6 {w:x5} {g B W ab ar:Nat} {H:av} {ax:Option ay} {neg:Bool} {dR:Int} {scope sizes:List Int} {Q:x4→x5→Prop}
  (h:bD w g B H 100000 ax) (dS:fu w B W ⟨scope,sizes,0,[]⟩) (fB:∀ c,ak w W aF c→c[3]? =some (.slice none 0 0)) (dT:∀ z∈sizes,1≤z∧z≤ap) (fC:sizes.length≤100001) (dU:ak w ab aF [.slice none 0 0,.slice none 0 0,.int .i64 0,.slice none 0 0]) (jA:ab<B) (cR:¬H ab) (cU:∀ r,H r→r<B) (fD:∀ aT,ax=some aT→hE aT)
  (fE:∀ v w',y5 w g ab B H (hF neg ar scope sizes ax) v w'→Q v w'):
  I y0 (x2 aF (.pointer (some ⟨W,0,none⟩)) 1) w fun fF=>
  I y0 (x1 ae fF) w fun dV=>
  I y0 (u6 #[ae] J #[dV]) w fun fG=>
  ba (.int .i64 1) (.int .i64 0) w fun dX dd bb fH=>
   I y0 (U .lss J false false dd fG) bb fun fI=>
   Split fI (aB (α:=x4→x5→Prop) (fun(fJ:x4) (dY:x5)=>
    I y0 (U .add J false true dd (.int .i64 1)) dY fun fK=>
    fH fJ fK dY) fun dZ=>
   I y0 (x7 ae dV dd) bb fun fL=>
   I y0 (x1 af fL) bb fun ea=>
   aB (α:=x4→x5→Prop) (fun(fM:x4) (cV:x5)=>
    I y0 (U .mul af false false dX fM) cV fun ec=>
    I y0 (U .gtr af false true ec (.int .i64 4096)) cV fun fN=>
    Split fN (dZ (.int .i64 4097) cV)
     (dZ ec cV)) fun ed=>
   I y0 (U .gtr af false true ea (.int .i64 4096)) bb fun fP=>
   Split fP (ed (.int .i64 4097) bb)
    (ed ea bb))
    (aB (α:=x5→Prop) (fun(cc:x5)=>
   O y0 en [(.pointer (some ⟨g,0,none⟩)),(.int .i64 0),(.int .i64 4611686018427387904)] cc fun ee bS=>
   I y0 (x8 ee 0) bS fun fQ=>
   I y0 (x8 ee 1) bS fun jB=>
   I y0 (x2 aF (.pointer (some ⟨W,0,none⟩)) 2) bS fun fS=>
   aa y0 (x6 af fS fQ) bS fun(_:Unit) bx=>
   O y0 en [(.pointer (some ⟨g,0,none⟩)),(.int .i64 (-4611686018427387904)),(.int .i64 4611686018427387904)] bx fun ef ac=>
   I y0 (x8 ef 0) ac fun bU=>
   I y0 (x8 ef 1) ac fun eg=>
   I y0 (aj (.pointer (some ⟨g,0,none⟩))) ac fun fT=>
   I y0 (x2 aN fT 3) ac fun fU=>
   I y0 (x1 J fU) ac fun fV=>
   I y0 (U .neq J false true fV (.int .i64 0)) ac fun fX=>
   Split fX (I y0 (x1 aF (.pointer (some ⟨W,0,none⟩))) ac fun cd=>
    aa y0 (x6 aF (.pointer (some ⟨ab,0,none⟩)) cd) ac fun(_:Unit) bz=>
    I y0 (do loadVar aF (←asAddr (.pointer (some ⟨ab,0,none⟩)))) bz fun ce=>
 Q ce bz)
    (aB (α:=x5→Prop) (fun(bj:x5)=>
    bd (.int .i64 0) bj fun eh bI fY=>
     aB (α:=x4→x5→Prop) (fun(fZ:x4) (cg:x5)=>
      Split fZ (aa y0 (n0 bA true (.tuple #[])) cg fun x cW=>
     I y0 (x2 aF (.pointer (some ⟨W,0,none⟩)) 1) cW fun ga=>
     I y0 (x1 ae ga) cW fun ei=>
     I y0 (u6 #[ae] J #[ei]) cW fun gb=>
     bd (.int .i64 0) cW fun dg bV gc=>
      I y0 (U .lss J false false dg gb) bV fun gd=>
      Split gd (I y0 (x7 ae ei dg) bV fun ge=>
      I y0 (x1 af ge) bV fun gf=>
      I y0 (U .sub af false true gf (.int .i64 1)) bV fun gg=>
      O y0 en [(.pointer (some ⟨g,0,none⟩)),(.int .i64 0),gg] bV fun ej ch=>
      I y0 (x8 ej 0) ch fun gh=>
      I y0 (x8 ej 1) ch fun jC=>
      I y0 (x2 bA x 0) ch fun gi=>
      I y0 (x1 ae gi) ch fun gj=>
      aa y0 (u9 ae 1 #[(0,gh)]) ch fun gk gl=>
      aa y0 (r8 #[ae,ae] ae #[gj,gk]) gl fun gm ek=>
      I y0 (x2 bA x 0) ek fun gn=>
      aa y0 (x6 ae gn gm) ek fun(_:Unit) em=>
      I y0 (U .add J false true dg (.int .i64 1)) em fun gp=>
      gc gp em)
       (O y0 en [(.pointer (some ⟨g,0,none⟩)),(.int .i64 0),(.int .i64 4611686018427387904)] bV fun eo bW=>
     I y0 (x8 eo 0) bW fun gq=>
     I y0 (x8 eo 1) bW fun gr=>
     I y0 (x2 aF (.pointer (some ⟨W,0,none⟩)) 3) bW fun gt=>
     I y0 (x1 cp gt) bW fun ep=>
     I y0 (u6 #[cp] J #[ep]) bW fun gu=>
     bd (.int .i64 0) bW fun dh bX gv=>
      I y0 (U .lss J false false dh gu) bX fun gw=>
      Split gw (aB (α:=x5→Prop) (fun(er:x5)=>
       I y0 (U .add J false true dh (.int .i64 1)) er fun gx=>
       gv gx er) fun es=>
      I y0 (x7 cp ep dh) bX fun gy=>
      I y0 (x1 bA gy) bX fun gz=>
      aa y0 (n0 bA true (.tuple #[])) bX fun y gA=>
      aa y0 (x6 bA y gz) gA fun(_:Unit) bc=>
      aB (α:=x4→x5→Prop) (fun(gB:x4) (et:x5)=>
       Split gB (O y0 fA [(.pointer (some ⟨g,0,none⟩)),(.int .i64 4),gr] et fun jD gC=>
        es gC)
        (es et)) fun eu=>
      I y0 (aj (.pointer (some ⟨g,0,none⟩))) bc fun gD=>
      I y0 (x2 aN gD 3) bc fun gE=>
      I y0 (x1 J gE) bc fun gF=>
      I y0 (U .eql J false true gF (.int .i64 0)) bc fun gG=>
      Split gG (I y0 (x2 bA x 0) bc fun gH=>
       I y0 (x1 ae gH) bc fun gI=>
      I y0 (x2 bA y 0) bc fun gJ=>
      I y0 (x1 ae gJ) bc fun gL=>
      O y0 iF [gI,gL] bc fun gM gN=>
      eu gM gN)
       (eu (.bool false) bc))
       (I y0 (x2 bA x 1) bX fun gO=>
     aa y0 (x6 af gO gq) bX fun(_:Unit) cX=>
     I y0 (x2 aF (.pointer (some ⟨W,0,none⟩)) 3) cX fun gP=>
     I y0 (x1 cp gP) cX fun gQ=>
     I y0 (x1 bA x) cX fun gR=>
     aa y0 (u9 cp 1 #[(0,gR)]) cX fun gS gT=>
     aa y0 (r8 #[cp,cp] cp #[gQ,gS]) gT fun gU ev=>
     I y0 (x2 aF (.pointer (some ⟨W,0,none⟩)) 3) ev fun gV=>
     aa y0 (x6 cp gV gU) ev fun(_:Unit) ew=>
     I y0 (U .add af false true eh (.int .i64 1)) ew fun gW=>
     fY gW ew)))
       (aB (α:=x5→Prop) (fun(aM:x5)=>
     I y0 (x1 aF (.pointer (some ⟨W,0,none⟩))) aM fun gX=>
     aa y0 (x6 aF (.pointer (some ⟨ab,0,none⟩)) gX) aM fun(_:Unit) ey=>
     I y0 (do loadVar aF (←asAddr (.pointer (some ⟨ab,0,none⟩)))) ey fun gY=>
 Q gY ey) fun ez=>
    Split (.bool neg) (aS cg fun aX=>
     I y0 (aj (.pointer (some ⟨g,0,none⟩))) aX fun di=>
     I y0 (x2 aN di 8) aX fun dj=>
     I y0 (x1 bY dj) aX fun eA=>
     I y0 (x1 aF (.pointer (some ⟨W,0,none⟩))) aX fun gZ=>
     aa y0 (u9 bY 1 #[(0,gZ)]) aX fun g0 bk=>
     (Ext aX bk∨ai y0 (x1 bY dj) eA bk∧ai y0 (x2 aN di 8) dj bk∧ai y0 (aj (.pointer (some ⟨g,0,none⟩))) di bk∧True)∧
     aa y0 (r8 #[bY,bY] bY #[eA,g0]) bk fun g1 cY=>
      I y0 (aj (.pointer (some ⟨g,0,none⟩))) cY fun g2=>
      I y0 (x2 aN g2 8) cY fun g3=>
      aa y0 (x6 bY g3 g1) cY fun(_:Unit) bJ=>
      ez bJ)
     (ez cg))) fun eC=>
     I y0 (U .lss af false false eh bU) bI fun g4=>
     Split g4 (I y0 (aj (.pointer (some ⟨g,0,none⟩))) bI fun g5=>
     I y0 (x2 aN g5 3) bI fun g6=>
     I y0 (x1 J g6) bI fun g7=>
     I y0 (U .eql J false true g7 (.int .i64 0)) bI fun g8=>
     eC g8 bI)
      (eC (.bool false) bI)) fun eD=>
   I y0 (U .lss af false true bU (.int .i64 0)) ac fun g9=>
   Split g9 (aB (α:=x4→x5→Prop) (fun(ha:x4) (aG:x5)=>
     Split ha (O y0 fA [(.pointer (some ⟨g,0,none⟩)),(.int .i64 4),eg] aG fun jE dk=>
     I y0 (x1 aF (.pointer (some ⟨W,0,none⟩))) dk fun hb=>
     aa y0 (x6 aF (.pointer (some ⟨ab,0,none⟩)) hb) dk fun(_:Unit) eE=>
     I y0 (do loadVar aF (←asAddr (.pointer (some ⟨ab,0,none⟩)))) eE fun hc=>
 Q hc eE)
     (I y0 (aj (.pointer (some ⟨g,0,none⟩))) aG fun hd=>
    I y0 (x2 aN hd 8) aG fun hf=>
    I y0 (x1 bY hf) aG fun hg=>
    I y0 (Z4 .neg bU) aG fun hh=>
    I y0 (U .sub af false true hh (.int .i64 1)) aG fun hj=>
    I y0 (x7 bY hg hj) aG fun hk=>
    I y0 (x2 aF hk 3) aG fun hl=>
    I y0 (x1 cp hl) aG fun hn=>
    I y0 (x2 aF (.pointer (some ⟨W,0,none⟩)) 3) aG fun ho=>
    aa y0 (x6 cp ho hn) aG fun(_:Unit) eF=>
    eD eF)) fun eG=>
    aS ac fun ao=>
    I y0 (Z4 .neg bU) ao fun hp=>
    I y0 (aj (.pointer (some ⟨g,0,none⟩))) ao fun hq=>
    I y0 (x2 aN hq 8) ao fun hr=>
    I y0 (x1 bY hr) ao fun hs=>
    I y0 (u6 #[bY] J #[hs]) ao fun ht=>
    I y0 (U .gtr af false false hp ht) ao fun hv=>
    Split hv (eG (.bool true) ao)
    (I y0 (aj (.pointer (some ⟨g,0,none⟩))) ao fun hx=>
    I y0 (x2 aN hx 8) ao fun hy=>
    I y0 (x1 bY hy) ao fun hz=>
    I y0 (Z4 .neg bU) ao fun hA=>
    I y0 (U .sub af false true hA (.int .i64 1)) ao fun hB=>
    I y0 (x7 bY hz hB) ao fun hC=>
    I y0 (x2 aF hC 1) ao fun hD=>
    I y0 (x1 ae hD) ao fun hG=>
    I y0 (x2 aF (.pointer (some ⟨W,0,none⟩)) 1) ao fun hH=>
    I y0 (x1 ae hH) ao fun hI=>
    O y0 iF [hG,hI] ao fun hJ dl=>
    I y0 (Z4 .not hJ) dl fun hK=>
    eG hK dl))
    (I y0 (aj (.pointer (some ⟨g,0,none⟩))) ac fun hL=>
    I y0 (x2 aN hL 7) ac fun hM=>
    I y0 (x1 af hM) ac fun hN=>
    I y0 (U .add af false false hN bU) ac fun hO=>
    I y0 (aj (.pointer (some ⟨g,0,none⟩))) ac fun hP=>
    I y0 (x2 aN hP 7) ac fun hQ=>
    aa y0 (x6 af hQ hO) ac fun(_:Unit) be=>
    aB (α:=x5→Prop) (fun(bf:x5)=>
     I y0 (aj (.pointer (some ⟨g,0,none⟩))) bf fun hR=>
     I y0 (x2 aN hR 7) bf fun hS=>
     I y0 (x1 af hS) bf fun hT=>
     I y0 (U .gtr af false true hT (.int .i64 16384)) bf fun hU=>
     O y0 fW [(.pointer (some ⟨g,0,none⟩)),hU,eg] bf fun jF dm=>
     eD dm) fun eH=>
    I y0 (aj (.pointer (some ⟨g,0,none⟩))) be fun hV=>
    I y0 (x2 aN hV 7) be fun hW=>
    I y0 (x1 af hW) be fun hX=>
    I y0 (U .gtr af false true hX (.int .i64 4611686018427387904)) be fun hY=>
    Split hY (I y0 (aj (.pointer (some ⟨g,0,none⟩))) be fun hZ=>
    I y0 (x2 aN hZ 7) be fun h0=>
    aa y0 (x6 af h0 (.int .i64 4611686018427387904)) be fun(_:Unit) eI=>
    eH eI)
    (eH be)))) fun eJ=>
  I y0 (U .gtr af false true (.int .i64 (ar:Int)) (.int .i64 6)) bb fun h2=>
  Split h2 (O y0 fW [(.pointer (some ⟨g,0,none⟩)),(.bool true),(.int .i64 dR)] bb fun jG h3=>
  eJ h3)
   (I y0 (U .gtr af false true dX (.int .i64 4096)) bb fun h4=>
  O y0 fW [(.pointer (some ⟨g,0,none⟩)),h4,(.int .i64 dR)] bb fun jH h5=>
  eJ h5)):=by
 have h6:=h.lt;have eK:ab≠g:=fun he=>by
  obtain⟨aZ,aI,aJ,bad,a1,big,a2,told,sv,V,_⟩:=fR h;subst he;exact absurd (eP V dU) (by decide)
 obtain⟨a7,aw,bP,cZ,c1,c2,f1,f2,f3,f4,f5,f6,f7⟩:=id dS;have ci:W≠g:=by omega
 have ret:∀ {X:x5} {x:ca} {aA:av},fu X B W x→ak X ab aF [.slice none 0 0,.slice none 0 0,.int .i64 0,.slice none 0 0]→am (fun r=>r=g∨H r∨B≤r) w X→bD X g X.heap.size aA 100001 ((hF neg ar scope sizes ax).map (·.2))→(∀ q,hF neg ar scope sizes ax=some q→x=q.1)→¬aA ab→(∀ r,H r→aA r)→(∀ r,aA r→H r∨B≤r)→(∀ r,aA r→r<X.heap.size)→
   (I y0 (x1 aF (.pointer (some ⟨W,0,none⟩))) X fun cd=>
    aa y0 (x6 aF (.pointer (some ⟨ab,0,none⟩)) cd) X fun(_:Unit) bz=>
    I y0 (do loadVar aF (←asAddr (.pointer (some ⟨ab,0,none⟩)))) bz fun ce=>Q ce bz):=by
  intro X x aA dn dp h7 h8 h9 ia dq ib ic;obtain⟨a7,aw,bP,cZ,c1,c2,dr,dt,du,dv,dx,eL,eM⟩:=dn;let aK:gK:=⟨a7,aw,x.other,bP⟩;have cj:fd X aK x:=⟨⟨cZ,dt⟩,⟨c1,du⟩,rfl,c2,dv⟩;rw[bN aF.p aF.i rfl (show X.rangeAt W 0 (dW aK) from dr.range)];refine b9 (vs:=dW aK) aF.i rfl rfl cj.one dp fun jI dy ie ig=>?_;rw[eB aF.p aF.i rfl ig.range];have ih:∀ r,r=ab→ft X r∨X.heap.size≤r:=fun r E=>by subst E;exact .inl ⟨_,_,dp,by decide,by decide⟩
  refine fE _ _ ⟨aK,x,aA,(h7.mono fun r _ h=>?_).trans (dy.mono fun r _ h=>.inr (.inr (.inl h))),rfl,cj.c6 dy ih,h8.c6 dy fun r E=>.inl ?_,h9,dq,ib,fun r E=>by rw[ie];exact ic r E⟩
  ·exact h.elim .inl fun h=>h.elim (fun h=>.inr (.inl h)) fun h=>.inr (.inr (.inr h))
  ·have E:r=ab:=E;subst E;exact⟨_,_,dp,by decide,by decide,by decide,by decide,ia⟩
 have dz:∀ {X:x5},am (fe g B) w X→ak X ab aF [.slice none 0 0,.slice none 0 0,.int .i64 0,.slice none 0 0]:=fun bl=>dU.ad bl fun bn=>bn.elim eK fun h=>by omega
 have dA:∀ {X:x5},am (fe g B) w X→am (fun r=>r=g∨H r∨B≤r) w X:=fun bl=>bl.mono fun r _ h=>h.elim .inl fun h=>.inr (.inr h);have eN:∀ {X:x5} {eO:Nat} {aA:av} {so:Option ay},bD X g eO aA 100000 so→bD X g eO aA 100001 so:=fun E=>by
  obtain⟨cl,w0,aZ,bB,gs,sv,L,a6,aI,aJ,bad,a1,big,a2,told,h1,ii,im,io,ip,dB,dC⟩:=E;refine⟨by omega,w0,aZ,bB,gs,sv,L,a6,aI,aJ,bad,a1,big,a2,told,h1,ii,im,io,ip,dB,?_⟩;rename_i so;cases so with
  |none=>exact⟨dC.1,by have:=dC.2;omega⟩
  |some s=>exact dC
 have eQ:∀ {X:x5} {x:ca},fu X B W x→am (fe g B) w X→bD X g B H 100000 none→hF neg ar scope sizes ax=none→(I y0 (x1 aF (.pointer (some ⟨W,0,none⟩))) X fun cd=>
    aa y0 (x6 aF (.pointer (some ⟨ab,0,none⟩)) cd) X fun(_:Unit) bz=>
    I y0 (do loadVar aF (←asAddr (.pointer (some ⟨ab,0,none⟩)))) bz fun ce=>Q ce bz):=fun dn bl E eR=>
  ret dn (dz bl) (dA bl) (by rw[eR];exact eN E.base) (fun q aD=>by rw[eR] at aD;cases aD) cR (fun _ h=>h) (fun _ h=>.inl h) fun r E=>by have:=cU r E;have:=bl.size;omega
 rw[ah aF.p rfl,al (by kernel_rfl) (f1.cell (o:=0+1) rfl),aQ ae.u f3.ls];refine FI f3.ls (fun z iq=>(dT z iq).1) fun c bl=>?_;refine dG (fun cc=>am (fun r=>r=g) w cc∧bD cc g B H 100000 (ax.map (aY (decide (6<ar)||cS sizes)))) ?_ ?_
 rotate_left
 ·intro dD bo;rw[bT,ag];refine⟨fun dB=>?_,fun dB=>?_⟩
  ·refine (kM h).mono ?_;rintro _ ir _ bp;refine bo _ ⟨bp.1,?_⟩;rw[decide_eq_true (show 6<ar by omega),Bool.true_or];exact bp.2
  ·rw[bT];refine (kM h).mono ?_;rintro _ ir _ bp;refine bo _ ⟨bp.1,?_⟩;have e:cS sizes=decide (4096<c):=by rw[W5,decide_eq_true_eq];exact bl.symm
   rw[decide_eq_false (show ¬6<ar by omega),Bool.false_or,e];exact bp.2
 rintro cc ⟨it,iu⟩;refine (ik iu).mono ?_;rintro _ bS _ ⟨⟨iv,iw⟩,o,ix,rfl,iy,jJ⟩;rw[aC (v:=.int .i64 o) rfl,aC (v:=.int .i64 ix) rfl];have bZ:am (fun r=>r=g) w bS:=it.trans iv;have jK:=dS.c6 bZ (il h);have f123:=f1.ad bZ fun he=>ci he;rw[ah aF.p rfl];refine bH (g:=W) (o:=2) af.i rfl rfl f123 (by simp) fun bx cm jL b1=>?_;have b1:ak bx W aF [a7,aw,.int .i64 o,bP]:=b1;have dE:∀ r,r=g→ft w r∨w.heap.size≤r:=fun r E=>(il h r E).imp (fun⟨e,c,V,bq,br,_⟩=>⟨e,c,V,bq,br⟩) id;have b2:∀ {X:x5} {c:List x4},ak X W aF c→ ∀ r,r=W→ft X r∨X.heap.size≤r:=fun V r E=>by subst E;exact .inl ⟨_,_,V,by decide,by decide⟩
 have f224:=dK (dK f2 bZ dE) cm (b2 f123);have f324:=dK (dK f3 bZ dE) cm (b2 f123);have eS:=(f4.c6 bZ dE).c6 cm (b2 f123);have b3:=iw.new cm fun r E=>by have E:r=W:=E;omega
 have eT:am (fe g B) w bx:=(bZ.mono fun r _ h=>.inl h).trans (cm.mono fun r _ h=>.inr (by have h:r=W:=h;omega));refine (ik b3).mono ?_;rintro _ ac _ ⟨⟨bC,bt⟩,n,iz,rfl,iA,eU⟩;rw[aC (v:=.int .i64 n) rfl,aC (v:=.int .i64 iz) rfl,ql bt];have eV:am (fe g B) w ac:=eT.trans (bC.mono fun r _ h=>.inl h);have iB:fu bx B W ⟨scope,sizes,o,[]⟩:=⟨a7,aw,bP,cZ,c1,c2,b1,f224,f324,eS,f5,f6,f7⟩;have eW:=iB.c6 bC (il b3);cases bu:aW (-4611686018427387904) 4611686018427387904 (W6 (fun x=>x.snd) (aW 0 4611686018427387904 (ax.map (aY (decide (6<ar)||cS sizes))))) with
 |none=>
  rw[bu] at bt;rw[Option.map_none,Option.isSome_none,Y8,bm];refine eQ eW eV bt ?_;unfold hF;cases aE:aW 0 ap (ax.map (aY (decide (6<ar)||cS sizes))) with
  |none=>rfl
  |some p=>
   obtain⟨o',Z⟩:=p;have iC:aW 0 4611686018427387904 (ax.map (aY (decide (6<ar)||cS sizes)))=some (o',Z):=aE;rw[iC] at bu;have e:a8 (-ap) ap Z=none:=bu;simp only;unfold df;rw[e]
 |some q=>
 obtain⟨jM,Y⟩:=q;have iD:=iA _ bu;subst iD;rw[bu] at bt;have bt:bD ac g B H 100000 (some Y):=bt;rw[Z0,Option.isSome_some,Y7,aU];obtain⟨Z,aE,dF⟩:∃ Z,aW 0 ap (ax.map (aY (decide (6<ar)||cS sizes)))=some (o,Z)∧a8 (-ap) ap Z=some (n,Y):=by
  cases aE:aW 0 4611686018427387904 (ax.map (aY (decide (6<ar)||cS sizes))) with
  |none=>rw[aE] at bu;cases bu
  |some p=>
   obtain⟨o',Z⟩:=p;have:=iy _ aE;subst this;rw[aE] at bu;exact⟨Z,aE,bu⟩
 have cq:hF neg ar scope sizes ax=match df sizes Z with
   |none=>none
   |some (lines,Y)=>some (⟨scope,sizes,o,lines⟩,if neg=true then {Y with shared:=Y.shared++[(sizes,lines)]} else Y):=by
  unfold hF;rw[aE]
 have iE:=(fO dF).1;have iG: -4611686018427387904≤n∧n≤4611686018427387904:=iE;have eX:df sizes Z=(if n<0 then match Y.shared[(-n-1).toNat]? with
   |none=>none
   |some (z,l)=>if z=sizes then some (l,Y) else none
  else ck (de sizes) n.toNat [] (aY (decide (16384<min (Y.told+n) ap)) {Y with told:=min (Y.told+n) ap})):=by
  unfold df;rw[dF];rfl
 have iH:hE Y:=by
  cases b5:ax with
  |none=>rw[b5] at aE;cases aE
  |some aT=>
   rw[b5] at aE;have dH:a8 0 ap (aY (decide (6<ar)||cS sizes) aT)=some (o,Z):=aE;have c3:=(c0 dH).eqs;have cr:=(c0 dF).eqs;intro V;rw[cr.2.1,c3.2.1] at V;rw[cr.1,c3.1];exact fD aT b5 (U4.1 V).1
 refine dG (fun bj=>am (fe g B) w bj∧ ∃ bK ct c4 bE,ak bj W aF [a7,aw,.int .i64 o,bK]∧aq .i64 af bj cZ a7 scope∧aq .i64 af bj c1 aw sizes∧ij bj ct bK c4∧bD bj g B H 100000 (some bE)∧(0<n→c4=[]∧ ∀ r,¬leadsTo bK r)∧df sizes Z=(if n≤0 then some (c4,bE) else ck (de sizes) n.toNat [] bE)) ?_ ?_
 ·rintro bj ⟨iI,bK,ct,c4,bE,dr,dt,du,dv,dx,eL,eM⟩;refine FL dx dr dt du dv f5 f6 f7 dT fC iG.2 eL (sa dx).1 fun cg A dJ iJ eY eZ iK cu=>?_;have b6:=iI.trans iJ;have bL:dJ=(df sizes Z).map (·.2)∧ ∀ q,df sizes Z=some q→A=q.1:=by
   rw[eM];by_cases dL:n≤0
   ·obtain⟨aI,aJ⟩:=iK dL;rw[if_pos dL];exact⟨aJ,fun q aD=>by cases aD;exact aI⟩
   ·rw[if_neg dL];exact cu (by omega)
  obtain⟨bL,bp⟩:=bL;cases neg with
  |false=>
   refine dG (fun aM=>cg=aM) ?_ ?_
   ·rintro _ rfl;refine ret eY (dz b6) (dA b6) ?_ ?_ cR (fun _ h=>h) (fun _ h=>.inl h) fun r E=>by have:=cU r E;have:=b6.size;omega
    ·have:(hF false ar scope sizes ax).map (·.2)=dJ:=by
      rw[cq,bL];cases df sizes Z with
      |none=>rfl
      |some p=>rfl
     rw[this];exact eN eZ.base
    ·intro q aD;rw[cq] at aD;cases aO:df sizes Z with
     |none=>rw[aO] at aD;cases aD
     |some p=>
      rw[aO] at aD;have:=bp p aO;cases aD;rw[this]
   ·intro dD bo;rw[aU];exact bo _ rfl
  |true=>
   refine dG (fun aM=>∃ aA,am (fun r=>r=g∨H r∨B≤r) w aM∧fu aM B W ⟨scope,sizes,o,A⟩∧ak aM ab aF [.slice none 0 0,.slice none 0 0,.int .i64 0,.slice none 0 0]∧bD aM g aM.heap.size aA 100001 ((hF true ar scope sizes ax).map (·.2))∧¬aA ab∧(∀ r,H r→aA r)∧(∀ r,aA r→H r∨B≤r)∧ ∀ r,aA r→r<aM.heap.size) ?_ ?_
   ·rintro aM ⟨aA,iL,iM,a3,a4,a5,iN,iO,iP⟩;refine ret iM a3 iL a4 ?_ a5 iN iO iP;intro q aD;rw[cq] at aD;cases aO:df sizes Z with
    |none=>rw[aO] at aD;cases aD
    |some p=>
     rw[aO] at aD;have:=bp p aO;cases aD;rw[this]
   ·intro dD bo;rw[bm];intro aX cw _ _;have iQ:=eZ.ext cw;have iR:=eY.ext cw;have iS:=(dz b6).ext cw;obtain⟨cl,w0,aZ,bB,gs,sv,L,a6,aI,aJ,bad,a1,big,a2,told,c5,bM,bO,aP,bQ,bF,bR⟩:=id iQ;have iT:=bQ.g bM bO;obtain⟨⟨iU,e0⟩,bg,cz,cA⟩:=id iT;have iV:∀ r,leadsTo sv r→r<B:=fun r E=>cU r (bF r E);rw[az,ah aN.p rfl,al (by kernel_rfl) (aP.cell (o:=0+8) rfl)];obtain⟨e1,e3,bK,e4,e5,ct,e6,e7,e8,e9,iW,iX,iY⟩:=id iR;let aK:gK:=⟨e1,e3,o,bK⟩;let x:ca:=⟨scope,sizes,o,A⟩;have cj:fd aX aK x:=⟨⟨e4,e7⟩,⟨e5,e8⟩,rfl,ct,e9⟩;rw[bN aF.p aF.i rfl (show aX.rangeAt W 0 (dW aK) from e6.range)];refine fa (f:=dW) (a:=aK) bY.u aF.i (by omega) rfl rfl fun jN jO bk jP aH iZ=>?_;refine⟨.inl aH,?_⟩;have jQ:L.length≤100000:=by
     cases dJ with
     |none=>exact bR.2
     |some s=>have:=bR.2.2.2.2.2.2.2.2;omega
    have dM:=bg.ext aH;refine fl (f:=dW) (a:=aK) bY.u aF.i rfl dM (by simpa using iZ.sl) (cj.ext aH).one (by omega) (by omega) fun fb i0 cY cB i1 fc=>?_;have dN:=aP.ext aH;have ff:=dN.ad fc fun he=>cn dM dN (by decide) he;rw[az,ah aN.p rfl];refine bH (g:=g) (o:=8) bY.i (cJ cB.sl).1 (cJ cB.sl).2 ff (by simp[e2]) fun bJ dO jR c7=>?_;have c7:ak bJ g aN (e2 aZ aI aJ bad a1 big a2 told fb):=c7;have bh:am (fun r=>leadsTo sv r∨r=g) bk bJ:=(fc.mono fun r _ h=>.inl h).trans (dO.mono fun r _ h=>.inr h);have c8:∀ r,(leadsTo sv r∨r=g)→ft bk r∨bk.heap.size≤r:=fun r E=>by
     rcases E with E|rfl
     ·obtain⟨rfl,c,V⟩:=ds dM E;exact .inl ⟨_,c,V,by decide,by decide⟩
     ·exact .inl ⟨_,_,dN,by decide,by decide⟩
    have fg:∀ {aK x},fd aX aK x→fd bJ aK x:=fun he=>(he.ext aH).c6 bh c8;have z50:=cw.size;have jS:=aH.size;have z53:=bh.size;have jT:=b6.size;have jU:=h6.2;refine bo _ ⟨fun r=>H r∨(aX.heap.size≤r∧r<bJ.heap.size),?_,?_,?_,?_,?_,fun r E=>.inl E,fun r E=>E.imp id fun E=>by omega,fun r E=>?_⟩
    ·refine (((dA b6).trans (cw.ad _)).trans (aH.ad _)).trans (bh.mono fun r _ E=>?_);exact E.elim (fun E=>.inr (.inl (bF r E))) .inl
    ·have i2:=e6.ext aH;refine⟨e1,e3,bK,e4,e5,ct,i2.ad bh fun E=>?_,dK (e7.ext aH) bh c8,dK (e8.ext aH) bh c8,(e9.c6 (aH.ad fun _=>False) fun _ h=>h.elim).c6 bh c8,iW,iX,iY⟩;rcases E with E|E
     ·have:=iV _ E;omega
     ·exact ci E
    ·exact (iS.ext aH).ad bh fun E=>E.elim (fun E=>cR (bF _ E)) eK
    ·refine⟨by omega,bJ,aZ,bB,i0,fb,L++[aK],a6++[x],aI,aJ,bad,a1,big,a2,told,rfl,am.refl _ _,⟨_,c7⟩,c7,⟨⟨?_,fun r E=>?_⟩,cB.ad dO fun r E he=>?_,by rw[o5,o5,cz];rfl,fun i i3 i4 hi cC=>?_⟩,fun r E=>?_,?_⟩
     ·refine (iU.ad (aH.ad fun _=>False) fun _ _ h=>h).ad bh fun r E bn=>?_;obtain⟨c,V⟩:=e0 r E;rcases bn with bn|rfl
      ·obtain⟨rfl,i5,dP⟩:=ds bg bn;exact absurd (eP V dP) (by decide)
      ·exact absurd (eP V aP) (by decide)
     ·obtain⟨c,V⟩:=e0 r E;refine⟨c,(V.ext aH).ad bh fun bn=>?_⟩;rcases bn with bn|rfl
      ·obtain⟨rfl,i5,dP⟩:=ds bg bn;exact absurd (eP V dP) (by decide)
      ·exact absurd (eP V aP) (by decide)
     ·have he:r=g:=he;subst he;exact cn cB ff (by decide) E
     ·by_cases i6:i<L.length
      ·rw[Y0 i6] at hi;rw[Y0 (by omega)] at cC;exact fg (cA i i3 i4 hi cC)
      ·rw[Y3 (by omega)] at hi;rw[Y3 (by omega)] at cC;have i7:i-L.length=0:=by have:=(u4.1 hi).1;simp at this;omega
       have dq:i-a6.length=0:=by omega
       rw[i7] at hi;rw[dq] at cC;cases hi;cases cC;exact fg cj
     ·rcases i1 r E with h|h
      ·exact .inl (bF r h)
      ·have:=(cB.leads E);have:=dO.size;exact .inr ⟨by omega,by omega⟩
     ·rw[cq];cases aO:df sizes Z with
      |none=>
       rw[aO] at bL;rw[bL] at bR;exact⟨bR.1,by rw[o5];simp;have:=bR.2;omega⟩
      |some p=>
       obtain⟨lines,bE⟩:=p;rw[aO] at bL;rw[bL] at bR;have i8:=bp _ aO;obtain⟨cD,cE,cF,cG,cH,b7,cI,bi,c9⟩:=id bR;have fh:=y4 aO;refine⟨cD,cE,cF,cG,cH,b7,cI,?_,?_⟩
       ·show (a6++[x]).map _=bE.shared++[(sizes,lines)];rw[j0,bi];simp only[x,List.map_cons,List.map_nil];rw[i8]
       ·have jV:Z.shared.length+Z.toks.length≤100000:=by
         cases b5:ax with
         |none=>rw[b5] at aE;cases aE
         |some aT=>
          rw[b5] at aE h;have dH:a8 0 ap (aY (decide (6<ar)||cS sizes) aT)=some (o,Z):=aE;have t9:=c0 dH;have c3:=t9.1;have cr:=t9.eqs.2.2;have t3:=(sa h).2;have fi:(aY (decide (6<ar)||cS sizes) aT).toks=aT.toks:=rfl;have fj:(aY (decide (6<ar)||cS sizes) aT).shared=aT.shared:=rfl;rw[fi] at c3;rw[fj] at cr;rw[cr];omega
        have fk:L.length=bE.shared.length:=by rw[←bi,o3,cz]
        have i9:bB.length=bE.toks.length:=by rw[←b7,o3]
        rw[fh.2] at fk;rw[o5,fk,i9];simp only[T3];have:=fh.1;omega
    ·rintro (E|E)
     ·exact cR E
     ·omega
    ·rcases E with E|E
     ·have:=cU r E;omega
     ·exact E.2
 ·intro dD bo;rw[au,ag];refine⟨fun ja=>?_,fun jb=>?_⟩
  ·
   refine aV (fun v aG=>Ext ac aG∧ ∃ b:Bool,v= .bool b∧(b=true→df sizes Z=none)∧(b=false→ ∃ lines,df sizes Z=some (lines,Y)∧Y.shared[(-n-1).toNat]? =some (sizes,lines))) ?_ ?_
   ·rintro _ aG ⟨b8,b,rfl,jc,jd⟩;have da:=bt.ext b8;have je:=eW.ext b8;have fm:=eV.trans (b8.ad _);cases b with
    |true=>
     rw[bm];refine (lV da (by omega)).mono ?_;rintro _ dk _ ⟨fo,jf⟩;exact eQ (je.c6 fo (il da)) (fm.trans (fo.mono fun r _ h=>.inl h)) jf (by rw[cq,jc rfl])
    |false=>
     rw[aU];obtain⟨lines,jg,cb⟩:=jd rfl;obtain⟨cl,w0,aZ,bB,gs,sv,L,a6,aI,aJ,bad,a1,big,a2,told,c5,bM,bO,aP,bQ,bF,cD,cE,cF,cG,cH,b7,cI,bi,c9⟩:=id da;obtain⟨_,bg,cz,cA⟩:=bQ.g bM bO;have cK:(-n-1).toNat<L.length:=by
      have h1:=(u4.1 cb).1;rw[←bi,o3] at h1;omega
     obtain⟨db,cL⟩:∃ h,L[(-n-1).toNat]? =some h:=⟨_,x3 cK⟩;obtain⟨bw,cM⟩:∃ x,a6[(-n-1).toNat]? =some x:=⟨_,x3 (by omega)⟩;obtain⟨_,_,_,jh,aR⟩:=cA _ db bw cL cM;have ji:bw.lines=lines:=by
      rw[←bi,r9,cM] at cb;have:=Z2 cb;exact (Prod.mk.inj this).2
     rw[az,ah aN.p rfl,al (by kernel_rfl) (aP.cell (o:=0+8) rfl),kt,wrap_i64 (by omega) (by omega),dw,wrap_i64 (by omega) (by omega),cT (i:=(-n-1).toNat) (by omega) bY.u aF.i bg cK,ah aF.p rfl,al (by kernel_rfl) (bg.range cL 3 _ rfl)];obtain⟨jW,fp,jX,jY⟩:=id aR;have dc:ak aG W aF [a7,aw,.int .i64 o,bP]:=(b1.ad bC fun he=>ci he).ext b8;have jj:=(dK f224 bC fun r E=>(il b3 r E).imp (fun⟨e,c,V,bq,br,_⟩=>⟨e,c,V,bq,br⟩) id).ext b8;have jk:=(dK f324 bC fun r E=>(il b3 r E).imp (fun⟨e,c,V,bq,br,_⟩=>⟨e,c,V,bq,br⟩) id).ext b8;rw[ah aF.p rfl];refine bH (g:=W) (o:=3) cp.i (cJ fp.sl).1 (cJ fp.sl).2 dc (by simp) fun eF cN jZ jl=>?_;refine bo _ ⟨fm.trans (cN.mono fun r _ h=>.inr (by have h:r=W:=h;omega)),db.bP,jh,lines,Y,jl,dK jj cN (b2 dc),dK jk cN (b2 dc),?_,da.new cN fun r E=>by have E:r=W:=E;omega,fun h=>by omega,by rw[jg,if_pos (by omega)]⟩;rw[←ji];exact aR.c6 cN (b2 dc)
   ·intro j1 fq;intro ao cO _ _;have jm:=bt.ext cO;obtain⟨cl,w0,aZ,bB,gs,sv,L,a6,aI,aJ,bad,a1,big,a2,told,c5,bM,bO,aP,bQ,bF,cD,cE,cF,cG,cH,b7,cI,bi,c9⟩:=id jm;obtain⟨_,bg,cz,cA⟩:=bQ.g bM bO;have j2:Y.shared.length=L.length:=by rw[←bi,o3,cz]
    have aR:=eX;rw[if_pos ja] at aR;rw[kt,wrap_i64 (by omega) (by omega),az,ah aN.p rfl,al (by kernel_rfl) (aP.cell (o:=0+8) rfl),eb bY.u bg,bT,ag];refine⟨fun cu=>fq _ _ ⟨cO,true,rfl,fun _=>?_,fun h=>by cases h⟩,fun cu=>?_⟩
    ·rw[aR,Z7 (by omega)]
    have cK:(-n-1).toNat<L.length:=by omega
    obtain⟨db,cL⟩:∃ h,L[(-n-1).toNat]? =some h:=⟨_,x3 cK⟩;obtain⟨bw,cM⟩:∃ x,a6[(-n-1).toNat]? =some x:=⟨_,x3 (by omega)⟩;obtain⟨_,⟨j3,jn⟩,_,_⟩:=cA _ db bw cL cM;have cb:Y.shared[(-n-1).toNat]? =some (bw.sizes,bw.lines):=by rw[←bi,r9,cM];rfl
    rw[cb] at aR;simp only at aR;rw[az,ah aN.p rfl,al (by kernel_rfl) (aP.cell (o:=0+8) rfl),kt,wrap_i64 (by omega) (by omega),dw,wrap_i64 (by omega) (by omega),cT (i:=(-n-1).toNat) (by omega) bY.u aF.i bg cK,ah aF.p rfl,al (by kernel_rfl) (bg.range cL 1 _ rfl)];have jo:ak ao W aF [a7,aw,.int .i64 o,bP]:=(b1.ad bC fun he=>ci he).ext cO;have jp:=(dK f324 bC fun r E=>(il b3 r E).imp (fun⟨e,c,V,bq,br,_⟩=>⟨e,c,V,bq,br⟩) id).ext cO;rw[ah aF.p rfl,al (by kernel_rfl) (jo.cell (o:=0+1) rfl)];refine (uo jn.ls jp.ls).mono ?_;rintro _ dl _ ⟨rfl,jq⟩;rw[b4];refine fq _ _ ⟨cO.trans jq,_,rfl,fun V=>?_,fun V=>?_⟩
    ·have jr:bw.sizes≠sizes:=by simpa using V
     rw[aR,if_neg jr]
    ·have fr:bw.sizes=sizes:=by simpa using V
     exact⟨bw.lines,by rw[aR,if_pos fr],by rw[cb,fr]⟩
  ·
   have aR:=eX;rw[if_neg jb] at aR;obtain⟨cl,w0,aZ,bB,gs,sv,L,a6,aI,aJ,bad,a1,big,a2,told,c5,bM,bO,aP,bQ,bF,cD,cE,cF,cG,cH,b7,cI,bi,c9⟩:=id bt;rw[az,ah aN.p rfl,al (by kernel_rfl) (aP.cell (o:=0+7) rfl),aL];generalize js:X3.wrap (told+n)=bG;have fs:Y.big=false→bG=Y.told+n∧0≤bG:=fun V=>by
    obtain⟨fi,fj⟩:=iH V;have jt:=cG V;rw[←js,jt,wrap_i64 (by omega) (by omega)];exact⟨rfl,by omega⟩
   rw[az,ah aN.p rfl];refine bH (g:=g) (o:=7) af.i rfl rfl aP (by simp[e2]) fun be fv j4 cP=>?_;have cP:ak be g aN (e2 aZ aI aJ bad a1 big a2 bG sv):=cP;refine dG (fun bf=>am (fun r=>r=g) ac bf∧ak bf g aN (e2 aZ aI aJ bad a1 big a2 (min bG ap) sv)) ?_ ?_
   rotate_left
   ·intro j5 fw;rw[az,ah aN.p rfl,al (by kernel_rfl) (cP.cell (o:=0+7) rfl),bT,ag];refine⟨fun cu=>?_,fun cu=>fw _ ⟨fv,?_⟩⟩
    ·rw[az,ah aN.p rfl];refine bH (g:=g) (o:=7) af.i rfl rfl cP (by simp[e2]) fun eI ju j7 jv=>?_;refine fw _ ⟨fv.trans ju,?_⟩;have e:min bG ap=4611686018427387904:=by unfold ap;omega
     rw[e];exact jv
    ·have e:min bG ap=bG:=by unfold ap;omega
     rw[e];exact cP
   rintro bf ⟨fx,fy⟩;have jw:bD bf g B H 100000 (some {Y with told:=min (Y.told+n) ap}):=⟨cl,w0,aZ,bB,gs,sv,L,a6,aI,aJ,bad,a1,big,a2,_,c5,bM.trans fx,bO,fy,bQ,bF,cD,cE,cF,fun V=>by
    have V:Y.big=false:=V;rw[(fs V).1],cH,b7,cI,bi,c9⟩
   rw[az,ah aN.p rfl,al (by kernel_rfl) (fy.cell (o:=0+7) rfl),bT];refine (kM jw).mono ?_;rintro _ dm _ ⟨jx,fz⟩;have jy:(some {Y with told:=min (Y.told+n) ap}).map (aY (decide (16384<min bG ap)))=some (aY (decide (16384<min (Y.told+n) ap)) {Y with told:=min (Y.told+n) ap}):=by
    show some (aY _ _)=_;congr 1;unfold aY;cases V:Y.big with
    |true=>simp
    |false=>rw[(fs V).1]
   rw[jy] at fz;have cQ:am (fun r=>r=g) bx dm:=(bC.trans fx).trans jx;have dQ:∀ r,r=g→ft bx r∨bx.heap.size≤r:=fun r E=>(il b3 r E).imp (fun⟨e,c,V,bq,br,_⟩=>⟨e,c,V,bq,br⟩) id;have jz:bP= .slice none 0 0:=by
    have:=fB _ f1;simpa using this
   refine bo _ ⟨eT.trans (cQ.mono fun r _ h=>.inl h),bP,c2,[],_,b1.ad cQ fun he=>ci he,dK f224 cQ dQ,dK f324 cQ dQ,eS.c6 cQ dQ,fz,fun _=>⟨rfl,fun r E=>by rw[jz] at E;exact dI E⟩,?_⟩;rw[aR];by_cases eU:n≤0
   ·have:n=0:=by omega
    subst this;rw[if_pos (Int.le_refl _)];rfl
   ·rw[if_neg eU]
theorem y7 {all:List Int} {s:ay}:cC all s=match a8 (-ap) ap s with
  |none=>none
  |some (a,I)=>match ea all.length a.natAbs I with
   |none=>none
   |some (scope,E)=>hF (decide (a<0)) a.natAbs scope (scope.map fun v=>all.getD v.toNat 0) (some E):=by
 unfold cC;cases a8 (-ap) ap s with
 |none=>rfl
 |some q=>
  obtain⟨a,I⟩:=q;simp only;cases ea all.length a.natAbs I with
  |none=>rfl
  |some p=>
   obtain⟨scope,E⟩:=p;simp only;unfold hF;show _=match a8 0 ap (aY (decide (6<a.natAbs)||cS (scope.map fun v=>all.getD v.toNat 0)) E) with
    |none=>none
    |some (other,J)=>_
   cases a8 0 ap (aY (decide (6<a.natAbs)||cS (scope.map fun v=>all.getD v.toNat 0)) E) with
   |none=>rfl
   |some U=>
    obtain⟨o,J⟩:=U;simp only;cases df (scope.map fun v=>all.getD v.toNat 0) J with
    |none=>rfl
    |some V=>
     obtain⟨ls,W⟩:=V;by_cases O:a<0
     ·simp[O]
     ·simp[O]
def ur (w:x5) (g:Nat) (H:av) (I:Option (ca×ay)) (v:x4) (w':x5):Prop:=∃ J x E,am (fun r=>r=g∨H r) w w'∧v= .agg (dW J).toArray∧fd w' J x∧bD w' g w'.heap.size E 100001 (I.map (·.2))∧(∀ q,I=some q→x=q.1)∧(∀ r,H r→E r)∧(∀ r,E r→H r∨w.heap.size≤r)∧ ∀ r,E r→r<w'.heap.size
theorem y8 {n:Int} {k:Nat} {s s':ay} {l:List Int} (h:ea n k s=some (l,s')):s'.toks.length+l.length≤s.toks.length∧s'.told=s.told∧s'.big=s.big∧s'.shared=s.shared∧ ∀ v∈l,0≤v∧v<n:=by
 have:=h8 (f:=h9 n) (fun(acc:List Int) t=>t.toks.length+acc.length≤s.toks.length∧t.told=s.told∧t.big=s.big∧t.shared=s.shared∧ ∀ v∈acc,0≤v∧v<n) (fun acc t a Z I E=>by
  unfold h9 at E;cases O:a8 0 (n-1) t with
  |none=>rw[O] at E;cases E
  |some q=>
   obtain⟨v,aa⟩:=q;rw[O] at E;simp only at E;split at E
   ·cases E
   ·cases E;have U:=c0 O;have ab:=(fO O).1;obtain⟨V,W,X⟩:=U.eqs;have t0:=U.1;refine⟨by have:=I.1;rw[o5];simp only[T3];omega,V.trans I.2.1,W.trans I.2.2.1,X.trans I.2.2.2.1,fun y J=>?_⟩;rcases n9.1 J with J|J
    ·exact I.2.2.2.2 y J
    ·rw[o9.1 J];omega) k [] s l s' ⟨by simp,rfl,rfl,rfl,fun v Y=>by cases Y⟩ h
 exact this.1
set_option maxHeartbeats 8000000 in
theorem FM {w:x5} {g B0 bf:Nat} {H:av} {s:ay} {al:x4} {all:List Int} (h:bD w g B0 H 100000 (some s)) (aH:aq .i64 af w bf al all) (aI:∀ z∈all,1≤z∧z≤ap) (bg:all.length≤100001) (ao:∀ r,H r→r<w.heap.size) (bE:hE s):
  O y0 mo [.pointer (some ⟨g,0,none⟩),al] w (ur w g H (cC all s)):=by
 have cj:=h.lt;apply mo.enter;refine bU aF.i fun ab U ck ax az=>?_;have az:ak U ab aF [.slice none 0 0,.slice none 0 0,.int .i64 0,.slice none 0 0]:=az;refine bU aF.i fun ae bF cl aA aB=>?_;have aB:ak bF ae aF [.slice none 0 0,.slice none 0 0,.int .i64 0,.slice none 0 0]:=aB;have h1:=(h.ext ax).base;have aJ:=h1.ext aA;have cm:=ax.size;have bh:=az.lt;have cn:=aB.lt;refine (ik aJ).mono ?_;rintro _ Z _ ⟨⟨aD,V⟩,a,bG,rfl,aK,aL⟩;rw[aC (v:=.int .i64 a) rfl,aC (v:=.int .i64 bG) rfl,au];have bH:ae≠g:=by omega
 have aM:ab≠g:=by omega
 have aN:=aB.ad aD fun he=>bH he;have aO:=(az.ext aA).ad aD fun he=>aM he;have bi:aq .i64 af Z bf al all:=br ((aH.ext ax).ext aA) aD fun r E he=>by
  have he:r=g:=he;obtain⟨bj,X,ac,bad,bk,big,bl,told,sv,aE,_⟩:=fR h;subst he;exact bZ aH aE (by decide) E rfl
 have bm:∀ r,leads al r→r<U.heap.size:=fun r E=>by obtain⟨X,ac⟩:=b1 aH E;omega
 have aP:fu Z U.heap.size ae ⟨[],[],0,[]⟩:=⟨_,_,_,0,0,0,aN,aq.nil _ _ _ _,aq.nil _ _ _ _,⟨[],aZ.nil _ _ _ _ _,fun y bI=>(by cases bI),rfl⟩,(fun r E=>by rcases E with⟨a,n,c,X,ac⟩|⟨a,n,c,X,ac⟩ <;> cases X),(fun r E=>by obtain⟨a,n,c,X,ac⟩:=E;cases X),by omega⟩;have aQ:∀ c,ak Z ae aF c→c[3]? =some (.slice none 0 0):=fun c aR=>by
  unfold ak at aR aN;rw[aN] at aR;have:=Array.toList_inj.2 (Obj.cells.inj (Z2 aR)).1;simp at this;rw[←this];rfl
 have bn:am (fun r=>r=g) U Z:=(aA.ad _).trans aD;have cp:U.heap.size≤Z.heap.size:=bn.size;have aS:∀ {J:x5} {aT:Option (ca×ay)} {v:x4} {w':x5},am (fe g U.heap.size) Z J→aT=cC all s→y5 J g ab U.heap.size H aT v w'→ur w g H (cC all s) v w':=by
  rintro J aT v w' Y rfl ⟨aj,x,bJ,aU,aX,aY,a1,bo,bp,bq,bK⟩;refine⟨aj,x,bJ,?_,aX,aY,a1,bo,bp,fun r E=>(bq r E).imp id fun h=>by omega,bK⟩;refine fD (fD ((ax.ad _).trans (bn.mono fun r _ h=>.inl h)) Y fun r E he=>?_) aU fun r E he=>?_
  ·exact he.elim .inl fun he=>by omega
  ·rcases he with he|he|he|he
   ·exact .inl he
   ·exact .inr he
   ·omega
   ·omega
 have bL:∀ {J:x5} {x:ca},am (fe g U.heap.size) Z J→cC all s=none→bD J g U.heap.size H 100000 none→fu J U.heap.size ae x→
   (I y0 (x1 aF (.pointer (some ⟨ae,0,none⟩))) J fun bM=>
    aa y0 (x6 aF (.pointer (some ⟨ab,0,none⟩)) bM) J fun(_:Unit) bt=>
    I y0 (do loadVar aF (←asAddr (.pointer (some ⟨ab,0,none⟩)))) bt fun bO=>ur w g H (cC all s) bO bt):=by
  intro J x Y bu a2 bQ;obtain⟨a7,aw,bP,bR,bS,bT,aU,aX,aY,a1,bo,bp,bq⟩:=bQ;let aj:gK:=⟨a7,aw,x.other,bP⟩;have bw:fd J aj x:=⟨⟨bR,aX⟩,⟨bS,aY⟩,rfl,bT,a1⟩;have a6:=aO.ad Y fun ah=>ah.elim aM fun h=>by omega
  rw[bN aF.p aF.i rfl (show J.rangeAt ae 0 (dW aj) from aU.range)];refine b9 (vs:=dW aj) aF.i rfl rfl bw.one a6 fun cq ba cr bV=>?_;rw[eB aF.p aF.i rfl bV.range];have bW:∀ r,r=ab→ft J r∨J.heap.size≤r:=fun r E=>by subst E;exact .inl ⟨_,_,a6,by decide,by decide⟩
  have ct:=Y.size;refine aS Y rfl ⟨aj,x,H,ba.mono fun r _ h=>.inr (.inr (.inl h)),rfl,bw.c6 ba bW,?_,(fun q W=>by rw[bu] at W;cases W),fun _ h=>h,fun _ h=>.inl h,fun r E=>by have:=ao r E;omega⟩;rw[bu];have bX:bD J g U.heap.size H 100001 none:=by
   obtain⟨cu,w0,bj,bY,gs,sv,L,b2,X,ac,bad,bk,big,bl,told,h1,aJ,V,b3,b4,bb,bx⟩:=a2;exact⟨by omega,w0,bj,bY,gs,sv,L,b2,X,ac,bad,bk,big,bl,told,h1,aJ,V,b3,b4,bb,bx.1,by have:=bx.2;omega⟩
  refine bX.c6 ba fun r E=>.inl ?_;have E:r=ab:=E;subst E;exact⟨_,_,a6,by decide,by decide,by decide,by decide,fun bc=>by have:=ao _ bc;omega⟩
 have ai:=y7 (all:=all) (s:=s);have b5:aW (-4611686018427387904) 4611686018427387904 (some s)=a8 (-ap) ap s:=rfl;rw[b5] at V aK aL;have cw: -4611686018427387904≤a∧a≤4611686018427387904:=by
  cases W:a8 (-ap) ap s with
  |none=>have:=aL W;omega
  |some q=>have:=aK q W;rw[this];exact (fO (n:=q.1) (s':=q.2) W).1
 refine aV (fun v b6=>Z=b6∧v= .int .i64 (a.natAbs:Int)) ?_ ?_
 rotate_left
 ·intro cz bz;rw[ag];refine⟨fun cA=>?_,fun cB=>bz _ _ ⟨rfl,by congr 1;omega⟩⟩;rw[kt,wrap_i64 (by omega) (by omega)];exact bz _ _ ⟨rfl,by congr 1;omega⟩
 rintro _ _ ⟨rfl,rfl⟩;have bA:∀ r,H r→r<U.heap.size:=fun r E=>by have:=ao r E;omega
 have bB:¬H ab:=fun bc=>by have:=ao _ bc;omega
 have b7:∀ {scope:List Int},(∀ v∈scope,0≤v∧v<(all.length:Int))→ ∀ z∈scope.map (fun v=>all.getD v.toNat 0),1≤z∧z≤ap:=fun b8 z cb=>by
  obtain⟨v,cc,rfl⟩:=l9.1 cb;have:=b8 v cc;refine aI _ ?_;rw[p8,x3 (by omega)];exact List.getElem_mem _
 cases W:a8 (-ap) ap s with
 |none=>
  rw[W] at V ai;have cd:=aL W;subst cd;refine y3 (s:=s) (ar:=(0:Int).natAbs) V (.inr ⟨rfl,rfl⟩) aP aQ bi bm bg (by decide) (fun h=>by cases h) ?_ ?_ ?_
  ·intro h;cases h
  ·intro _;exact y6 (neg:=decide ((0:Int)<0)) V aP aQ (fun z aI=>by cases aI) (by simp) aO bh bB bA (fun ce ah=>by cases ah) fun v w' bd=>aS (am.refl _ _) (by rw[ai];rfl) bd
  ·intro h;cases h
 |some q=>
  obtain⟨a',bC⟩:=q;rw[W] at V ai;have:=aK _ W;subst this;simp only at ai;have V:bD Z g U.heap.size H 100000 (some bC):=V;have cg:=c0 W;refine y3 (s:=bC) (ar:=a.natAbs) V (.inl rfl) aP aQ bi bm bg (by omega) (fun _=>(sa V).1) ?_ ?_ ?_
  ·intro _ J x Y aG a2 be;exact bL Y (by rw[ai,aG]) a2 be
  ·intro h;cases h
  ·intro _ J scope s' Y aG bb be ch;obtain⟨cD,ci,t3,t4,t5⟩:=y8 aG;rw[aG] at ai;obtain⟨X,ac,cE⟩:=cg.eqs;refine y6 (neg:=decide (a<0)) bb be ch (b7 t5) ?_ (aO.ad Y fun ah=>ah.elim aM fun h=>by omega) bh bB bA (fun ce ah=>?_) fun v w' bd=>aS Y ai.symm bd
   ·rw[o3];have:=(sa V).1;omega
   ·cases ah;intro aE;rw[t3,ac] at aE;rw[ci,X];exact bE aE
theorem FN {sizes:List Int} {s s':ay} {l:List (List Int×Int)} (h:df sizes s=some (l,s')) (U:hE s):hE s':=by
 unfold df at h;cases J:a8 (-ap) ap s with
 |none=>rw[J] at h;cases h
 |some q=>
  obtain⟨n,E⟩:=q;obtain⟨V,W,t3⟩:=(c0 J).eqs;have O:hE E:=fun I=>by rw[V];exact U (by rw[←W];exact I)
  rw[J] at h;simp only at h;split at h
  ·split at h
   ·cases h
   ·split at h
    ·cases h;exact O
    ·cases h
  ·rename_i ae;have h':ck (de sizes) n.toNat [] (aY (decide (16384<min (E.told+n) ap)) {E with told:=min (E.told+n) ap})=some (l,s'):=h;have:=h8 (f:=de sizes) (fun _ t=>hE t) (fun acc t a af X Y=>by
    obtain⟨_,_,_,Z⟩:=nb Y;obtain⟨aa,ab,ag⟩:=Z.eqs;intro I;rw[aa];exact X (by rw[←ab];exact I)) n.toNat [] (aY (decide (16384<min (E.told+n) ap)) {E with told:=min (E.told+n) ap}) l s' (fun I=>by
     obtain⟨ac,ad⟩:=U4.1 I;have ah:=O ac;have ai:=of_decide_eq_false ad;show 0≤min (E.told+n) ap∧min (E.told+n) ap≤16384;unfold ap at*;omega) h'
   exact this.1
theorem FO {all:List Int} {s s':ay} {x:ca} (h:cC all s=some (x,s')):s'.toks.length+1≤s.toks.length∧(hE s→hE s'):=by
 rw[y7] at h;cases J:a8 (-ap) ap s with
 |none=>rw[J] at h;cases h
 |some q=>
  obtain⟨a,ab⟩:=q;rw[J] at h;simp only at h;have X:=c0 J;cases O:ea all.length a.natAbs ab with
  |none=>rw[O] at h;cases h
  |some p=>
   obtain⟨scope,E⟩:=p;rw[O] at h;simp only at h;obtain⟨au,ac,t3,_⟩:=y8 O;unfold hF at h;have e:aW 0 ap ((some E).map (aY (decide (6<a.natAbs)||cS (scope.map fun v=>all.getD v.toNat 0))))=a8 0 ap (aY (decide (6<a.natAbs)||cS (scope.map fun v=>all.getD v.toNat 0)) E):=rfl;rw[e] at h;cases U:a8 0 ap (aY (decide (6<a.natAbs)||cS (scope.map fun v=>all.getD v.toNat 0)) E) with
   |none=>rw[U] at h;cases h
   |some ad=>
    obtain⟨o,Y⟩:=ad;rw[U] at h;simp only at h;have Z:=c0 U;cases I:df (scope.map fun v=>all.getD v.toNat 0) Y with
    |none=>rw[I] at h;cases h
    |some ae=>
     obtain⟨ls,V⟩:=ae;rw[I] at h;simp only[Z9,V8] at h;obtain⟨_,af⟩:=h;have av:=y4 I;have ag:(aY (decide (6<a.natAbs)||cS (scope.map fun v=>all.getD v.toNat 0)) E).toks=E.toks:=rfl;have ah:=Z.1;rw[ag] at ah;have aw:=X.1;obtain⟨ai,aj,_⟩:=X.eqs;obtain⟨f1,f2,_⟩:=Z.eqs;have W:s'.toks=V.toks∧s'.told=V.told∧s'.big=V.big:=by
      rw[←af];split <;> exact⟨rfl,rfl,rfl⟩
     refine⟨by rw[W.1];omega,fun ak=>?_⟩;have al:hE Y:=fun aa=>by
      rw[f2] at aa;rw[f1];have am:E.big=false:=(U4.1 aa).1;show 0≤E.told∧E.told≤16384;rw[ac,ai];exact ak (by rw[←aj,←t3];exact am)
     have ao:=FN I al;intro aq;rw[W.2.1];exact ao (by rw[←W.2.2];exact aq)
theorem bD.shrink {w:x5} {g B N:Nat} {H:av} {so:Option ay} (h:bD w g B H N so):∃ E,bD w g B E N so∧(∀ r,E r→H r)∧ ∀ r,E r→ ∃ c,ak w r aF c:=by
 obtain⟨W,w0,X,Y,gs,sv,L,Z,aa,ab,bad,ac,big,ae,told,h1,J,O,af,U,ag,ah⟩:=h;refine⟨fun r=>leadsTo sv r,⟨W,w0,X,Y,gs,sv,L,Z,aa,ab,bad,ac,big,ae,told,h1,J,O,af,U,fun r I=>I,ah⟩,ag,fun r I=>?_⟩;obtain⟨rfl,c,V⟩:=ds U.2.1 I;refine⟨c,V.ad J fun he=>?_⟩;obtain⟨aj,ai⟩:=O;subst he;exact absurd (eP V ai) (by decide)
theorem bD.low {w:x5} {g B N:Nat} {H:av} {s:ay} (h:bD w g B H N (some s)):bD w g B H 100000 (some s):=by
 obtain⟨ad,w0,E,I,gs,sv,L,J,O,U,bad,V,big,W,told,h1,X,Y,Z,aa,ab,ac⟩:=h;exact⟨o7 _,w0,E,I,gs,sv,L,J,O,U,bad,V,big,W,told,h1,X,Y,Z,aa,ab,ac⟩
theorem bD.up {w:x5} {g B N M:Nat} {H:av} {so:Option ay} (h:bD w g B H N so) (ad:N≤M):bD w g B H M so:=by
 obtain⟨ae,w0,I,J,gs,sv,L,O,U,V,bad,W,big,X,told,h1,Y,Z,aa,ab,ac,E⟩:=h;refine⟨by omega,w0,I,J,gs,sv,L,O,U,V,bad,W,big,X,told,h1,Y,Z,aa,ab,ac,?_⟩;cases so with
 |none=>exact⟨E.1,by have:=E.2;omega⟩
 |some s=>exact E
def i7 {α:Type} (f:List α→ay→Option (α×ay)) (cnt i:Nat) (E:Option ay) (A:List α) (so:Option ay):Prop:=E.bind (ck f cnt [])=(match so with
 |none=>none
 |some s=>ck f (cnt-i) A s)
theorem i7.step {α:Type} {f:List α→ay→Option (α×ay)} {cnt i:Nat} {I:Option ay} {A:List α} {s:ay} {a:α} {J:Option ay} (h:i7 f cnt i I A (some s)) (hi:i<cnt) (h1:J=(f A s).map (·.2)) (O:∀ q,f A s=some q→a=q.1):i7 f cnt (i+1) I (A++[a]) J:=by
 unfold i7 at*;rw[h,show cnt-i=(cnt-(i+1))+1 by omega];simp only;cases E:f A s with
 |none=>rw[nf E,h1,E];rfl
 |some q=>
  obtain⟨a',s'⟩:=q;have:=O _ E;subst this;rw[rv E,h1,E];rfl
theorem FP {s0:ay} {t acc:List Int} {n most V k:Int} {ag:List ca} {Y Z aa ab ah so6 I:Option ay} (h1:Y=((dd s0).map (·.2)).map (aY (decide (64<t.length)))) (aw:∀ q,dd s0=some q→t=q.1)
  (W:Z=((aW 1 ap Y).map (·.2)).map (aY (decide (64<n)))) (ao:∀ q,aW 1 ap Y=some q→n=q.1) (O:aa=(aW 1 ap Z).map (·.2)) (hm:∀ q,aW 1 ap Z=some q→most=q.1)
  (J:ab=((aW 0 ap aa).map (·.2)).map (aY (decide (256<V)))) (aq:∀ q,aW 0 ap aa=some q→V=q.1) (E:ah=((aW 1 ap ab).map (·.2)).map (aY (decide (2147483648<k)))) (au:∀ q,aW 1 ap ab=some q→k=q.1)
  (X:ah.bind (ck (eK most) n.toNat [])=so6.map fun s=>(acc,s)) (U:so6.bind (ck (fun _ s=>cC acc s) V.toNat [])=I.map fun s=>(ag,s)):fN s0=I.map fun s=>(⟨t,k,acc,ag⟩,s):=by
 unfold fN;cases ai:dd s0 with
 |none=>
  rw[ai] at h1;subst h1;subst W;subst O;subst J;subst E;have:so6=none:=by cases so6 with|none=>rfl|some s=>cases X
  subst this;cases I with|none=>rfl|some s=>cases U
 |some ax=>
 obtain⟨aI,ac⟩:=ax;have:=aw _ ai;subst this;rw[ai] at h1;have h1:Y=some (aY (decide (64<t.length)) ac):=h1;subst h1;simp only;have az:aW 1 ap (some (aY (decide (64<t.length)) ac))=a8 1 ap (aY (decide (64<t.length)) ac):=rfl;rw[az] at W ao;cases aj:a8 1 ap (aY (decide (64<t.length)) ac) with
 |none=>
  rw[aj] at W;subst W;subst O;subst J;subst E;have:so6=none:=by cases so6 with|none=>rfl|some s=>cases X
  subst this;cases I with|none=>rfl|some s=>cases U
 |some aA=>
 obtain⟨aJ,ad⟩:=aA;have:=ao _ aj;subst this;rw[aj] at W;have W:Z=some (aY (decide (64<n)) ad):=W;subst W;simp only;have aB:aW 1 ap (some (aY (decide (64<n)) ad))=a8 1 ap (aY (decide (64<n)) ad):=rfl;rw[aB] at O hm;cases ak:a8 1 ap (aY (decide (64<n)) ad) with
 |none=>
  rw[ak] at O;subst O;subst J;subst E;have:so6=none:=by cases so6 with|none=>rfl|some s=>cases X
  subst this;cases I with|none=>rfl|some s=>cases U
 |some aC=>
 obtain⟨aK,ae⟩:=aC;have:=hm _ ak;subst this;rw[ak] at O;have O:aa=some ae:=O;subst O;simp only;have aD:aW 0 ap (some ae)=a8 0 ap ae:=rfl;rw[aD] at J aq;cases al:a8 0 ap ae with
 |none=>
  rw[al] at J;subst J;subst E;have:so6=none:=by cases so6 with|none=>rfl|some s=>cases X
  subst this;cases I with|none=>rfl|some s=>cases U
 |some aE=>
 obtain⟨aL,af⟩:=aE;have:=aq _ al;subst this;rw[al] at J;have J:ab=some (aY (decide (256<V)) af):=J;subst J;simp only;have aF:aW 1 ap (some (aY (decide (256<V)) af))=a8 1 ap (aY (decide (256<V)) af):=rfl;rw[aF] at E au;cases am:a8 1 ap (aY (decide (256<V)) af) with
 |none=>
  rw[am] at E;subst E;have:so6=none:=by cases so6 with|none=>rfl|some s=>cases X
  subst this;cases I with|none=>rfl|some s=>cases U
 |some aG=>
 obtain⟨aM,av⟩:=aG;have:=au _ am;subst this;rw[am] at E;have E:ah=some (aY (decide (2147483648<k)) av):=E;subst E;simp only;have X:ck (eK most) n.toNat [] (aY (decide (2147483648<k)) av)=so6.map fun s=>(acc,s):=X;rw[X];cases so6 with
 |none=>cases I with|none=>rfl|some s=>cases U
 |some aH=>
  simp only[Z0];have U:ck (fun _ s=>cC acc s) V.toNat [] aH=I.map fun s=>(ag,s):=U;rw[U];cases I <;> rfl
def nv (w:x5) (I:Nat) (J:x4) (E:List ca):Prop:=∃ L,aZ dW 4 aF w I J L∧E.length=L.length∧ ∀ (i:Nat) h x,L[i]? =some h→E[i]? =some x→fd w h x
def lW (w:x5) (I:Nat) (f:bW):Prop:=∃ aw J E O,ak w I b3 [bx f.name,.int .i64 f.k,aw,E]∧aq .i64 af w J aw f.sizes∧nv w O E f.funs
theorem nv.ext {w w':x5} {E:Nat} {I:x4} {J:List ca} (h:nv w E I J) (O:Ext w w'):nv w' E I J:=by
 obtain⟨L,h1,U,V⟩:=h;exact⟨L,h1.ext O,U,fun i W x hi X=>(V i W x hi X).ext O⟩
theorem lW.ext {w w':x5} {I:Nat} {f:bW} (h:lW w I f) (E:Ext w w'):lW w' I f:=by
 obtain⟨aw,J,O,U,h1,V,W⟩:=h;exact⟨aw,J,O,U,h1.ext E,V.ext E,W.ext E⟩
def FQ (w:x5) (E:List Int) (v:x4) (w':x5):Prop:=Ext w w'∧ ∃ n e:Int,(e8 E=none→v= .tuple #[.pointer none,.int .i64 n,.int .i64 e])∧ ∀ f,e8 E=some f→ ∃ I,v= .tuple #[.pointer (some ⟨I,0,none⟩),.int .i64 n,.int .i64 e]∧lW w' I f
set_option maxHeartbeats 16000000 in
theorem FR {w0 w:x5} {g V br B:Nat} {so6:Option ay} {t acc cq:List Int} {k aD bad:Int} {aw p:x4} {Q:x4→x5→Prop} (dw:am (fun r=>w0.heap.size≤r) w0 w) (cr:ak w V b3 [bx t,.int .i64 k,aw,.slice none 0 0]) (dx:aq .i64 af w br aw acc)
  (h:bD w g B bt 100000 so6) (dy:∀ s,so6=some s→hE s∧s.toks.length≤100000∧(∀ z∈acc,1≤z∧z≤ap)∧acc.length≤100001) (fr:w0.heap.size≤g) (fs:w0.heap.size≤V) (dz:aG .u8 w0 p cq) (fu:0≤aD∧aD≤4611686018427387904)
  (bO:∀ v w' ac bP,Ext w0 w'→so6.bind (ck (fun _ s=>cC acc s) aD.toNat [])=bP.map (fun s=>(ac,s))→
   (∀ s,bP=some s→s.toks=[]∧¬0≤bad∧s.big=false→v= .tuple #[.pointer (some ⟨V,0,none⟩),.int .i64 (cq.length:Int),.int .i64 0]∧lW w' V ⟨t,k,acc,ac⟩)→
   ((∀ s,bP=some s→¬(s.toks=[]∧¬0≤bad∧s.big=false))→ ∃ n e:Int,v= .tuple #[.pointer none,.int .i64 n,.int .i64 e])→Q v w'):
  bd (.int .i64 0) w fun ct X dA=>
   aB (α:=x4→x5→Prop) (fun(dB:x4) (ao:x5)=>
    Split dB (aS ao fun Z=>
   I y0 (aj (.pointer (some ⟨V,0,none⟩))) Z fun be=>
   I y0 (x2 b3 be 3) Z fun bf=>
   I y0 (x1 bY bf) Z fun bR=>
   I y0 (aj (.pointer (some ⟨V,0,none⟩))) Z fun dC=>
   I y0 (x2 b3 dC 2) Z fun dD=>
   I y0 (x1 ae dD) Z fun dE=>
   O y0 mo [(.pointer (some ⟨g,0,none⟩)),dE] Z fun dF aT=>
    (Ext Z aT∨ai y0 (x1 bY bf) bR aT∧ai y0 (x2 b3 be 3) bf aT∧ai y0 (aj (.pointer (some ⟨V,0,none⟩))) be aT∧True)∧
   aa y0 (u9 bY 1 #[(0,dF)]) aT fun dH aE=>
    (Ext Z aE∨ai y0 (x1 bY bf) bR aE∧ai y0 (x2 b3 be 3) bf aE∧ai y0 (aj (.pointer (some ⟨V,0,none⟩))) be aE∧True)∧
    aa y0 (r8 #[bY,bY] bY #[bR,dH]) aE fun dJ bu=>
     I y0 (aj (.pointer (some ⟨V,0,none⟩))) bu fun dL=>
     I y0 (x2 b3 dL 3) bu fun dM=>
     aa y0 (x6 bY dM dJ) bu fun(_:Unit) bg=>
     I y0 (U .add af false true ct (.int .i64 1)) bg fun dN=>
   dA dN bg)
     (aB (α:=x5→Prop) (fun(aC:x5)=>
   aB (α:=x5→Prop) (fun(Y:x5)=>
    I y0 (aj (.pointer (some ⟨g,0,none⟩))) Y fun dO=>
    I y0 (x2 aN dO 3) Y fun dP=>
    I y0 (x1 J dP) Y fun dQ=>
    I y0 (U .neq J false true dQ (.int .i64 0)) Y fun dR=>
    Split dR (aS Y fun aM=>
     I y0 (aj (.pointer (some ⟨g,0,none⟩))) aM fun dS=>
     I y0 (x2 aN dS 4) aM fun dT=>
     I y0 (x1 J dT) aM fun dU=>
     I y0 (aj (.pointer (some ⟨g,0,none⟩))) aM fun dV=>
     I y0 (x2 aN dV 3) aM fun dX=>
     I y0 (x1 J dX) aM fun dY=>
     Q (.tuple #[(.pointer none),dU,dY]) aM)
     (I y0 (aj (.pointer (some ⟨g,0,none⟩))) Y fun dZ=>
    I y0 (x2 aN dZ 5) Y fun ea=>
    I y0 (x1 J ea) Y fun eb=>
    I y0 (U .neq J false true eb (.int .i64 0)) Y fun ec=>
    Split ec (aS Y fun aO=>
     I y0 (aj (.pointer (some ⟨g,0,none⟩))) aO fun ed=>
     I y0 (x2 aN ed 6) aO fun ee=>
     I y0 (x1 J ee) aO fun ef=>
     I y0 (aj (.pointer (some ⟨g,0,none⟩))) aO fun eg=>
     I y0 (x2 aN eg 5) aO fun eh=>
     I y0 (x1 J eh) aO fun ei=>
     Q (.tuple #[(.pointer none),ef,ei]) aO)
     (I y0 (u6 #[aX] J #[p]) Y fun ej=>
    Q (.tuple #[(.pointer (some ⟨V,0,none⟩)),ej,(.int .i64 0)]) Y))) fun cu=>
   aB (α:=x4→x5→Prop) (fun(ek:x4) (bw:x5)=>
    Split ek (O y0 fA [(.pointer (some ⟨g,0,none⟩)),(.int .i64 11),(.int .i64 bad)] bw fun fv cz=>
     cu cz)
     (cu bw)) fun cB=>
   I y0 (aj (.pointer (some ⟨g,0,none⟩))) aC fun em=>
   I y0 (x2 aN em 3) aC fun en=>
   I y0 (x1 J en) aC fun eo=>
   I y0 (U .eql J false true eo (.int .i64 0)) aC fun ep=>
   Split ep (I y0 (U .geq J false true (.int .i64 bad) (.int .i64 0)) aC fun er=>
   cB er aC)
    (cB (.bool false) aC)) fun cD=>
  aB (α:=x4→x5→Prop) (fun(es:x4) (aH:x5)=>
   Split es (I y0 (aj (.pointer (some ⟨g,0,none⟩))) aH fun et=>
    I y0 (x2 aN et 0) aH fun eu=>
    I y0 (x1 cA eu) aH fun ev=>
    I y0 (x7 cA ev (.int .i64 0)) aH fun ew=>
    I y0 (x2 bp ew 1) aH fun ey=>
    I y0 (x1 J ey) aH fun ez=>
    O y0 fA [(.pointer (some ⟨g,0,none⟩)),(.int .i64 4),ez] aH fun fw bS=>
    cD bS)
    (cD aH)) fun cE=>
  I y0 (aj (.pointer (some ⟨g,0,none⟩))) ao fun eA=>
  I y0 (x2 aN eA 3) ao fun eB=>
  I y0 (x1 J eB) ao fun eC=>
  I y0 (U .eql J false true eC (.int .i64 0)) ao fun eD=>
  Split eD (I y0 (aj (.pointer (some ⟨g,0,none⟩))) ao fun eE=>
  I y0 (x2 aN eE 0) ao fun eF=>
  I y0 (x1 cA eF) ao fun eG=>
  I y0 (u6 #[cA] J #[eG]) ao fun eH=>
  I y0 (U .gtr J false true eH (.int .i64 0)) ao fun eI=>
  cE eI ao)
   (cE (.bool false) ao))) fun cF=>
   I y0 (U .lss af false false ct (.int .i64 aD)) X fun eJ=>
   Split eJ (I y0 (aj (.pointer (some ⟨g,0,none⟩))) X fun eK=>
   I y0 (x2 aN eK 3) X fun eL=>
   I y0 (x1 J eL) X fun eM=>
   I y0 (U .eql J false true eM (.int .i64 0)) X fun eN=>
   cF eN X)
    (cF (.bool false) X):=by
 have cG:V≠g:=fun he=>by
  obtain⟨aW,aP,aR,bad,aY,big,a1,told,sv,W,_⟩:=fR h;subst he;exact absurd (eP W cr) (by decide)
 refine⟨fun bU X=>∃ i:Nat,bU= .int .i64 (i:Int)∧i≤aD.toNat∧am (fun r=>w0.heap.size≤r) w0 X∧ ∃ ax bh ac so,∃ H:av,ak X V b3 [bx t,.int .i64 k,aw,ax]∧aq .i64 af X br aw acc∧nv X bh ax ac∧(∀ r,leadsTo ax r→w0.heap.size≤r∧¬H r)∧¬H V∧(∀ r,leads aw r→¬H r)∧(∀ r,H r→w0.heap.size≤r)∧bD X g X.heap.size H 100001 so∧i7 (fun _ s=>cC acc s) aD.toNat i so6 ac so∧
   ∀ s,so=some s→hE s∧ac.length+s.toks.length≤100000∧(∀ z∈acc,1≤z∧z≤ap)∧acc.length≤100001,fun bU _=>aD.toNat-(bQ bU).toNat,
  ⟨0,rfl,Y1 _,dw,_,0,[],so6,bt,cr,dx,⟨[],aZ.nil _ _ _ _ _,rfl,fun i h x hi=>by simp at hi⟩,fun r E=>(dI E).elim,id,fun r _ h=>h,fun r h=>h.elim,h.base.up (by omega),?_,fun s aA=>?_⟩,?_⟩
 ·unfold i7;cases so6 <;> rfl
 ·obtain⟨eO,eQ,a3,a4⟩:=dy s aA;exact⟨eO,by simpa using eQ,a3,a4⟩
 rintro _ X ⟨i,rfl,hi,bz,ax,bh,ac,so,H,cH,cI,cK,bi,bV,eR,cL,aK,bW,eS⟩;refine aV (fun v ao=>X=ao∧((v= .bool true∧i<aD.toNat∧ ∃ s,so=some s)∨(v= .bool false∧(so=none∨i=aD.toNat)))) ?_ ?_
 rotate_left
 ·intro fx bX;rw[au,ag];refine⟨fun cM=>?_,fun fy=>bX _ _ ⟨rfl,.inr ⟨rfl,.inr (by omega)⟩⟩⟩;rw[iZ aK];cases so with
  |none=>exact bX _ _ ⟨rfl,.inr ⟨rfl,.inl rfl⟩⟩
  |some s=>exact bX _ _ ⟨rfl,.inl ⟨rfl,by omega,s,rfl⟩⟩
 rintro _ _ ⟨rfl,⟨rfl,cM,s,rfl⟩|⟨rfl,eT⟩⟩
 ·
  rw[bm];intro Z a2 _ _;obtain⟨cN,fz,cO,cP⟩:=eS s rfl;have bj:=cH.ext a2;obtain⟨eU,cQ,bk,cR⟩:=(aK.ext a2).low.shrink;have bZ:=cI.ext a2;have eV:=cK.ext a2;rw[az,ah b3.p rfl,al (by kernel_rfl) (bj.cell (o:=0+3) rfl),az,ah b3.p rfl,al (by kernel_rfl) (bj.cell (o:=0+2) rfl)];refine (FM cQ bZ cO cP (fun r E=>by obtain⟨c,W⟩:=cR r E;exact W.lt) cN).mono ?_;rintro _ aT _ ⟨b2,x,cS,a6,rfl,cT,eW,eX,fB,cU,eY⟩;have cV:∃ c,ak Z g aN c:=by obtain⟨aW,aP,aR,bad,aY,big,a1,told,sv,W,_⟩:=fR cQ;exact⟨_,W⟩
  have cW:∀ r,(r=g∨eU r)→ft Z r∨Z.heap.size≤r:=fun r E=>by
   rcases E with rfl|E
   ·obtain⟨c,W⟩:=cV;exact .inl ⟨_,c,W,by decide,by decide⟩
   ·obtain⟨c,W⟩:=cR r E;exact .inl ⟨_,c,W,by decide,by decide⟩
  have b4:=bj.ad a6 fun E=>E.elim (fun he=>cG he) fun E=>bV (bk _ E);have st:∀ {w':x5},ak w' V b3 [bx t,.int .i64 k,aw,ax]→ai y0 (x1 bY (.pointer (some ⟨V,0+3,none⟩))) ax w'∧ai y0 (x2 b3 (.pointer (some ⟨V,0,none⟩)) 3) (.pointer (some ⟨V,0+3,none⟩)) w'∧ai y0 (aj (.pointer (some ⟨V,0,none⟩))) (.pointer (some ⟨V,0,none⟩)) w'∧True:=fun W=>
   ⟨vR (by kernel_rfl) (W.cell (o:=0+3) rfl),lI (by rw[ah b3.p rfl]),lI (by rw[az]),trivial⟩
  refine⟨.inr (st b4),?_⟩;refine fa (f:=dW) (a:=b2) bY.u aF.i (by omega) rfl rfl fun fC fD aE fE aI eZ=>?_;refine⟨.inr (st (b4.ext aI)),?_⟩;obtain⟨L,a7,b5,b6⟩:=id eV;have e0:aZ dW 4 aF aT bh ax L:=a7.ad a6 fun r E aA=>aA.elim (fun he=>by
   obtain⟨c,W⟩:=cV;subst he;exact cn a7 W (by decide) E) fun aA=>(bi r E).2 (bk r aA)
  have b7:=e0.ext aI;refine fl (f:=dW) (a:=b2) bY.u aF.i rfl b7 (by simpa using eZ.sl) (cT.ext aI).one (by omega) (by omega) fun cX e1 bu bB e2 cY=>?_;have b8:=b4.ext aI;have cZ:=b8.ad cY fun he=>cn b7 b8 (by decide) he;rw[az,ah b3.p rfl];refine bH (g:=V) (o:=3) bY.i (cJ bB.sl).1 (cJ bB.sl).2 cZ (by simp) fun bg c0 fF b9=>?_;have b9:ak bg V b3 [bx t,.int .i64 k,aw,cX]:=b9;have fG:i≤4611686018427387904:=by omega
  rw[aL,wrap_i64 (by omega) (by omega)];have a8:am (fun r=>leadsTo ax r∨r=V) aE bg:=(cY.mono fun r _ h=>.inl h).trans (c0.mono fun r _ h=>.inr h);have c1:∀ r,(leadsTo ax r∨r=V)→ ∃ e c,ak aE r e c∧e≠af∧e≠bA∧e≠bp∧e≠aN:=fun r E=>by
   rcases E with E|rfl
   ·obtain⟨rfl,c,W⟩:=ds b7 E;exact⟨_,c,W,by decide,by decide,by decide,by decide⟩
   ·exact⟨_,_,b8,by decide,by decide,by decide,by decide⟩
  have ca:∀ r,(leadsTo ax r∨r=V)→ft aE r∨aE.heap.size≤r:=fun r E=>by
   obtain⟨e,c,W,cb,cc,_⟩:=c1 r E;exact .inl ⟨e,c,W,cb,cc⟩
  have fH:=a2.size;have fI:=a6.size;have fJ:=aI.size;have fK:=a8.size;have c2:∀ r,leadsTo ax r→r<Z.heap.size:=fun r E=>by obtain⟨aP,aR⟩:=a7.leads E;omega
  have bl:∀ r,r<Z.heap.size→¬H r→¬cS r:=fun r E e3 cd=>(cU r cd).elim (fun h=>e3 (bk r h)) fun h=>by omega
  have e4:∀ r,leads aw r→r<Z.heap.size:=fun r E=>by obtain⟨aP,aR⟩:=b1 bZ E;omega
  refine⟨⟨i+1,rfl,by omega,?_,cX,e1,ac++[x],_,cS,b9,dK ((dK bZ a6 cW).ext aI) a8 ca,⟨L++[b2],bB.ad c0 fun r E he=>?_,by rw[o5,o5,b5];rfl,fun j c3 e5 ba bn=>?_⟩,fun r E=>?_,bl V bj.lt bV,fun r E=>bl r (e4 r E) (eR r E),fun r E=>?_,?_,bW.step cM rfl fun q ab=>eX q ab,fun s' aJ=>?_⟩,by simp only[bQ];omega⟩
  ·refine (((bz.trans (a2.ad _)).trans (a6.mono fun r _ h=>?_)).trans (aI.ad _)).trans (a8.mono fun r _ h=>?_)
   ·exact h.elim (fun h=>by omega) fun h=>cL r (bk r h)
   ·exact h.elim (fun h=>(bi r h).1) fun h=>by omega
  ·have he:r=V:=he;subst he;exact cn bB cZ (by decide) E
  ·by_cases e6:j<L.length
   ·rw[Y0 e6] at ba;rw[Y0 (by omega)] at bn;exact (((b6 j c3 e5 ba bn).c6 a6 cW).ext aI).c6 a8 ca
   ·rw[Y3 (by omega)] at ba;rw[Y3 (by omega)] at bn;have e7:j-L.length=0:=by have:=(u4.1 ba).1;simp at this;omega
    have e8:j-ac.length=0:=by omega
    rw[e7] at ba;rw[e8] at bn;cases ba;cases bn;exact (cT.ext aI).c6 a8 ca
  ·rcases e2 r E with h|h
   ·exact⟨(bi r h).1,bl r (c2 r h) (bi r h).2⟩
   ·exact⟨by have:=bz.size;omega,fun cd=>by have:=eY r cd;omega⟩
  ·rcases cU r E with h|h
   ·exact cL r (bk r h)
   ·have:=bz.size;omega
  ·refine (eW.ext aI).c6 a8 fun r E=>.inl ?_;obtain⟨e,c,W,cb,cc,e9,fb⟩:=c1 r E;refine⟨e,c,W,cb,cc,e9,fb,?_⟩;rcases E with E|rfl
   ·exact bl r (c2 r E) (bi r E).2
   ·exact bl _ bj.lt bV
  ·cases ce:cC acc s with
   |none=>rw[ce] at aJ;cases aJ
   |some q=>
    obtain⟨fL,c4⟩:=q;rw[ce] at aJ;cases aJ;obtain⟨fM,fc⟩:=FO ce;refine⟨fc cN,?_,cO,cP⟩;rw[o5];simp only[T3];omega
 ·
  rw[aU];have cg:so6.bind (ck (fun _ s=>cC acc s) aD.toNat [])=so.map fun s=>(ac,s):=by
   unfold i7 at bW;rw[bW];cases so with
   |none=>rfl
   |some s=>
    rcases eT with h|rfl
    ·cases h
    ·simp only[W7];rfl
  have row:∀ {w':x5},am (fun r=>r=g) X w'→nv w' bh ax ac∧ak w' V b3 [bx t,.int .i64 k,aw,ax]∧aq .i64 af w' br aw acc:=fun bE=>by
   obtain⟨aW,aP,aR,bad,aY,big,a1,told,sv,W,_⟩:=fR aK;have c5:∀ r,r=g→ft X r∨X.heap.size≤r:=fun r E=>by subst E;exact .inl ⟨_,_,W,by decide,by decide⟩
   obtain⟨L,a7,b5,b6⟩:=id cK;refine⟨⟨L,a7.ad bE fun r E he=>?_,b5,fun i h x hi fd=>(b6 i h x hi fd).c6 bE c5⟩,cH.ad bE fun he=>cG he,dK cI bE c5⟩;have he:r=g:=he;subst he;exact cn a7 W (by decide) E
  refine dG (fun aC=>am (fun r=>r=g) X aC∧bD aC g X.heap.size H 100001 (so.bind fun s=>if s.toks=[] then some s else none)) ?_ ?_
  rotate_left
  ·intro fN c7;refine aV (fun v aH=>X=aH∧ ∃ b:Bool,v= .bool b∧(b=true→ ∃ s,so=some s∧s.toks≠[])∧(b=false→ ∀ s,so=some s→s.toks=[])) ?_ ?_
   ·rintro _ _ ⟨rfl,b,rfl,ch,ci⟩;cases b with
    |true=>
     obtain⟨s,rfl,bF⟩:=ch rfl;rw[bm];obtain⟨c8,c9,aW,bo,gs,sv,L,da,aP,aR,cj,aY,big,a1,told,db,bG,bI,bb,bJ,dc,dd,de,bK,df,dg,bL,dh,di,dj⟩:=id aK;obtain⟨⟨cl,fe⟩,_⟩:=bJ.g bG bI;obtain⟨x,fO,rfl⟩:∃ x l,bo=x::l:=by
      cases bo with
      |nil=>exact absurd bL.symm (by simpa using bF)
      |cons x l=>exact⟨x,l,rfl⟩
     rw[az,ah aN.p rfl,al (by kernel_rfl) (bb.cell (o:=0+0) rfl)];refine yY cl fun b o ff=>?_;rw[ah bp.p rfl,al (by kernel_rfl) (ff 1 _ rfl)];refine (lV aK (by omega)).mono ?_;rintro _ bS _ ⟨fg,fh⟩;refine c7 _ ⟨fg,?_⟩;show bD bS g _ H 100001 (if s.toks=[] then some s else none);rw[if_neg bF];exact fh
    |false=>
     rw[aU];refine c7 _ ⟨am.refl _ _,?_⟩;cases so with
     |none=>exact aK
     |some s=>
      show bD _ g _ H 100001 (if s.toks=[] then some s else none);rw[if_pos (ci rfl s rfl)];exact aK
   ·intro fP dk;rw[iZ aK];cases so with
    |none=>
     rw[Option.isSome_none,aU];exact dk _ _ ⟨rfl,false,rfl,(fun h=>by cases h),fun _ s aA=>by cases aA⟩
    |some s=>
     rw[Option.isSome_some,bm];obtain⟨c8,c9,aW,bo,gs,sv,L,da,aP,aR,cj,aY,big,a1,told,db,bG,bI,bb,bJ,dc,dd,de,bK,df,dg,bL,dh,di,dj⟩:=id aK;obtain⟨⟨cl,fe⟩,_⟩:=bJ.g bG bI;rw[az,ah aN.p rfl,al (by kernel_rfl) (bb.cell (o:=0+0) rfl),yX cl,bT];have fQ:bo.length=s.toks.length:=by rw[←bL,o3]
     refine dk _ _ ⟨rfl,_,rfl,fun h=>⟨s,rfl,fun bq=>?_⟩,fun h s' aJ=>?_⟩
     ·have:=of_decide_eq_true h;have c3:s.toks.length=0:=by rw[bq];rfl
      omega
     ·cases aJ;have:=of_decide_eq_false h;exact j5 (by omega)
  rintro aC ⟨dl,cm⟩;refine dG (fun Y=>am (fun r=>r=g) X Y∧bD Y g X.heap.size H 100001 (so.bind fun s=>if s.toks=[]∧¬0≤bad then some s else none)) ?_ ?_
  rotate_left
  ·intro fS dm;refine aV (fun v bw=>aC=bw∧ ∃ b:Bool,v= .bool b∧(b=true→(so.bind fun s=>if s.toks=[]∧¬0≤bad then some s else none)=none)∧(b=false→(so.bind fun s=>if s.toks=[]∧¬0≤bad then some s else none)=so.bind fun s=>if s.toks=[] then some s else none)) ?_ ?_
   ·rintro _ _ ⟨rfl,b,rfl,ch,ci⟩;cases b with
    |true=>
     rw[bm];refine (lV cm (by omega)).mono ?_;rintro _ cz _ ⟨fi,fj⟩;exact dm _ ⟨dl.trans fi,by rw[ch rfl];exact fj⟩
    |false=>
     rw[aU];exact dm _ ⟨dl,by rw[ci rfl];exact cm⟩
   ·intro fT dn;rw[iZ cm];cases ab:(so.bind fun s=>if s.toks=[] then some s else none) with
    |none=>
     rw[Option.isSome_none,aU];refine dn _ _ ⟨rfl,false,rfl,(fun h=>by cases h),fun _=>?_⟩;cases so with
     |none=>rfl
     |some s=>
      have ab:(if s.toks=[] then some s else none)=none:=ab;show (if s.toks=[]∧¬0≤bad then some s else none)=(if s.toks=[] then some s else none);rw[ab];split at ab
      ·cases ab
      ·rename_i bF;rw[if_neg (fun h=>bF h.1)]
    |some s=>
     rw[Option.isSome_some,bm,cw];refine dn _ _ ⟨rfl,_,rfl,fun h=>?_,fun h=>?_⟩
     ·have bq:=of_decide_eq_true h;cases so with
      |none=>rfl
      |some s=>exact if_neg fun h=>h.2 bq
     ·have bq:=of_decide_eq_false h;cases so with
      |none=>rfl
      |some s=>
       show (if s.toks=[]∧¬0≤bad then some s else none)=(if s.toks=[] then some s else none);by_cases aA:s.toks=[]
       ·rw[if_pos aA,if_pos ⟨aA,bq⟩]
       ·rw[if_neg aA,if_neg fun h=>aA h.1]
  rintro Y ⟨dp,bM⟩;obtain⟨fk,fm,fo⟩:=row dp;have fp:am (fun r=>w0.heap.size≤r) w0 Y:=bz.trans (dp.mono fun r _ h=>by have h:r=g:=h;omega);have bN:Ext w0 Y:=fp.ext fun r E he=>by omega
  rw[ql bM];cases ab:(so.bind fun s=>if s.toks=[]∧¬0≤bad then some s else none) with
  |none=>
   rw[Option.isSome_none,Y8,bm];intro aM dq _ _;obtain⟨aW,aP,aR,cj,aY,big,a1,told,sv,W,_⟩:=fR (bM.ext dq);rw[az,ah aN.p rfl,al (by kernel_rfl) (W.cell (o:=0+4) rfl),az,ah aN.p rfl,al (by kernel_rfl) (W.cell (o:=0+3) rfl)];refine bO _ _ ac so (bN.trans dq) cg (fun s aA bc=>?_) fun _=>⟨_,_,rfl⟩;subst aA;have ab:(if s.toks=[]∧¬0≤bad then some s else none)=none:=ab;rw[if_pos ⟨bc.1,bc.2.1⟩] at ab;cases ab
  |some s=>
   rw[ab] at bM;rw[Option.isSome_some,Y7,aU];obtain⟨s',rfl,aJ⟩:∃ s',so=some s'∧(if s'.toks=[]∧¬0≤bad then some s' else none)=some s:=by
    cases so with
    |none=>cases ab
    |some s'=>exact⟨s',rfl,ab⟩
   split at aJ
   ·rename_i dr;cases aJ;obtain⟨c8,c9,aW,bo,gs,sv,L,da,aP,aR,cj,aY,big,a1,told,db,bG,bI,bb,bJ,dc,dd,de,bK,df,dg,bL,dh,di,dj⟩:=id bM;rw[az,ah aN.p rfl,al (by kernel_rfl) (bb.cell (o:=0+5) rfl),bC,ag];refine⟨fun cp=>?_,fun cp=>?_⟩
    ·intro aO dt _ _;have du:=bb.ext dt;rw[az,ah aN.p rfl,al (by kernel_rfl) (du.cell (o:=0+6) rfl),az,ah aN.p rfl,al (by kernel_rfl) (du.cell (o:=0+5) rfl)];refine bO _ _ ac _ (bN.trans dt) cg (fun c4 dv bc=>?_) fun _=>⟨_,_,rfl⟩;cases dv;rw[bK.1 cp] at bc;cases bc.2.2
    ·rw[aQ aX.u (dz.ext bN)];refine bO _ _ ac _ bN cg (fun c4 dv bc=>⟨rfl,aw,br,ax,bh,fm,fo,fk⟩) fun fq=>?_;refine absurd ⟨dr.1,dr.2,?_⟩ (fq s rfl);cases W:s.big with
     |false=>rfl
     |true=>exact absurd (bK.2 W) cp
   ·cases aJ
def Zero (so:Option ay):Prop:=∀ s,so=some s→s.told=0∧s.toks.length≤100000
theorem Zero.big {so:Option ay} (h:Zero so) (b:Bool):Zero (so.map (aY b)):=fun s E=>by
 cases so with
 |none=>cases E
 |some s0=>cases E;exact h s0 rfl
theorem zero_num {lo hi:Int} {so:Option ay} (h:Zero so):Zero ((aW lo hi so).map (·.2)):=fun s E=>by
 cases so with
 |none=>cases E
 |some s0=>
  have E:W6 (fun x=>x.2) (a8 lo hi s0)=some s:=E;cases I:a8 lo hi s0 with
  |none=>rw[I] at E;cases E
  |some q=>
   obtain⟨n,O⟩:=q;rw[I] at E;cases E;have J:=c0 I;have:=J.1;obtain⟨h1,U⟩:=h s0 rfl;exact⟨J.eqs.1.trans h1,by show O.toks.length≤100000;omega⟩
theorem FS {so:Option ay} (h:Zero so):Zero ((hc so).map (·.2)):=fun s E=>by
 cases so with
 |none=>cases E
 |some s0=>
  have E:W6 (fun x=>x.2) (dd s0)=some s:=E;cases I:dd s0 with
  |none=>rw[I] at E;cases E
  |some q=>
   obtain⟨n,J⟩:=q;rw[I] at E;cases E;obtain⟨O,U⟩:=rm I;obtain⟨h1,V⟩:=h s0 rfl;have:s0.toks.length=J.toks.length+1:=by rw[O];rfl
   exact⟨by show J.told=0;rw[U];exact h1,by show J.toks.length≤100000;omega⟩
theorem FT {E:List Int} {so:Option ay} {f:bW} (h:fN ⟨(lex E).1,0,false,[]⟩=so.map fun s=>(f,s)) (I:¬65536<E.length):e8 E=so.bind fun s=>if s.toks=[]∧(lex E).2=true∧s.big=false then some f else none:=by
 unfold e8;rw[if_neg I,h];cases so <;> rfl
theorem FU {E:List Int} (I:E.length≤60000):(∀ t∈(lex E).1,Bytes t∧t.length≤65536)∧(lex E).1.length≤60000:=by
 refine⟨fun t J=>?_,Y5 (pv E.length E (o7 _)) I⟩;obtain⟨_,O,V⟩:=q9 E.length E (o7 _) t J;refine⟨fun b U=>?_,by omega⟩;have:=of_decide_eq_true (O b U);omega
set_option maxHeartbeats 16000000 in
theorem y9 {p:x4} {V:List Int} {w:x5} (aR:aG .u8 w p V) (cS:Bytes V) (cT:V.length≤60000):O y0 n2 [p] w (FQ w V):=by
 obtain⟨cU,em⟩:=FU cT;apply n2.enter;rw[aQ aX.u aR,bT,ag];refine⟨fun h=>by omega,fun _=>?_⟩;refine (FE aR cS (by omega)).mono ?_;rintro _ en _ ⟨bd,aD,bG,bad,rfl,bI,bJ,cV,eo,bK⟩;rw[aC (v:=aD) rfl,aC (v:=.int .i64 bad) rfl,aQ aX.u (aR.ext bd),cR (cs:=#[aD,.int .i64 (V.length:Int),.int .i64 4,.int .i64 0,.int .i64 0,.int .i64 0,.int .i64 0,.int .i64 0,.slice none 0 0]) (by obtain⟨_,_,_,_,_,rfl,_⟩:=bI;kernel_rfl)];refine cc fun g bL ep aS aE=>?_;have aE:ak bL g aN (e2 aD (V.length:Int) 4 0 0 0 0 0 (.slice none 0 0)):=aE;have er:=bd.size;have es:=aS.size;have et:=aE.lt;refine dG (fun W=>Ext w W∧am (fun r=>r=g) bL W∧ ∃ aF aH:Int,aH≠0∧ak W g aN (e2 aD aF aH 0 0 0 0 0 (.slice none 0 0))) ?_ ?_
 rotate_left
 ·intro cW aA;have bM:=bd.trans aS;rw[cw,ag];refine⟨fun _=>?_,fun _=>aA _ ⟨bM,am.refl _ _,_,_,by omega,aE⟩⟩;rw[az,ah aN.p rfl];refine bH (g:=g) (o:=1) J.i rfl rfl aE (by simp[e2]) fun eu cX ev cY=>?_;rw[az,ah aN.p rfl];refine bH (g:=g) (o:=2) J.i rfl rfl cY (by simp[e2]) fun ew cZ ey c1=>?_;have X:=cX.trans cZ;exact aA _ ⟨bM.then X fun r E he=>by have he:r=g:=he;omega,X,bad,11,by omega,c1⟩
 rintro W ⟨bN,be,aF,aH,c2,bO⟩;have z3:=be.size;have c3:bD W g W.heap.size bt 100000 (some ⟨(lex V).1,0,false,[]⟩):=by
  refine⟨o7 _,W,aD,bG,0,_,[],[],aF,aH,0,0,0,0,0,rfl,am.refl _ _,⟨_,bO⟩,bO,⟨⟨?_,fun r E=>?_⟩,aZ.nil _ _ _ _ _,rfl,fun i h x hi=>by simp at hi⟩,fun r E=>dI E,rfl,c2,by simp,fun _=>rfl,trivial,bJ,cU,rfl,?_⟩
  ·refine (bI.ad (aS.ad fun _=>False) fun _ _ h=>h).ad be fun r E he=>?_;have he:r=g:=he;obtain⟨c,ac⟩:=bK r E;have:=ac.lt;omega
  ·obtain⟨c,ac⟩:=bK r E;exact⟨c,(ac.ext aS).ad be fun he=>by have he:r=g:=he;have:=ac.lt;omega⟩
  ·have:bG.length=(lex V).1.length:=by rw[←bJ,o3]
   simp only[List.length_nil];omega
 have ez:∀ {ax:x5} {c4 N:Nat} {H:av} {so:Option ay},bD ax g c4 H N so→True:=fun _=>trivial;rw[cR (cs:=#[bx [],.int .i64 0,.slice none 0 0,.slice none 0 0]) (by kernel_rfl)];refine cc fun I c5 eA bf aT=>?_;have aT:ak c5 I b3 [bx [],.int .i64 0,.slice none 0 0,.slice none 0 0]:=aT;have eB:W.heap.size≤I:=by omega
 have eC:=aT.lt;have c6:I≠g:=by omega
 have Z:∀ {ax aI:x5} {c:List x4},ak ax I b3 c→am (fun r=>r=g) ax aI→ak aI I b3 c:=fun ac X=>ac.ad X fun he=>c6 he;refine (yZ (c3.ext bf)).mono ?_;rintro _ c7 _ ⟨⟨bg,c8⟩,t,bP,rfl,eD,eE,c9⟩;refine bU bp.i fun bh eF eG da db=>?_;refine b9 (vs:=[bx t,.int .i64 bP]) bp.i rfl rfl (by intro v bR;simp at bR;rcases bR with rfl|rfl <;> rfl) db fun dc dd eH bS=>?_;have a2:Ext c7 dc:=da.then dd fun r E he=>by have he:r=bh:=he;omega
 have de:=(Z aT bg).ext a2;rw[ah bp.p rfl,al (by kernel_rfl) (bS.cell (o:=0+0) rfl),az,ah b3.p rfl];refine bH (g:=I) (o:=0) a1.i rfl rfl de (by simp) fun bi bj eI bk=>?_;have bk:ak bi I b3 [bx t,.int .i64 0,.slice none 0 0,.slice none 0 0]:=bk;have df:=(c8.ext a2).new bj fun r E=>by have E:r=I:=E;omega
 have z4:=bf.size;have z5:=bg.size;have eJ:=a2.size;have bV:ak bi bh bp [bx t,.int .i64 bP]:=bS.ad bj fun he=>by have he:bh=I:=he;omega
 rw[ah bp.p rfl,al (by kernel_rfl) (bV.cell (o:=0+0) rfl),lB a1.u,bT,ah bp.p rfl,al (by kernel_rfl) (bV.cell (o:=0+1) rfl)];have dg:am (fun r=>w.heap.size≤r) w bi:=((((bN.ad _).trans (bf.ad _)).trans (bg.mono fun r _ h=>by have h:r=g:=h;omega)).trans (a2.ad _)).trans (bj.mono fun r _ h=>by have h:r=I:=h;omega);have up:∀ {ax aI:x5},am (fun r=>w.heap.size≤r) w ax→am (fun r=>r=g) ax aI→am (fun r=>w.heap.size≤r) w aI:=fun h k=>h.trans (k.mono fun r _ h=>by have h:r=g:=h;omega);refine (kM df).mono ?_;rintro _ eL _ ⟨bW,aJ⟩;have dh:=up dg bW;have di:=Z bk bW;generalize bl:(((hc (some ⟨(lex V).1,0,false,[]⟩)).map (·.2)).map (aY (decide ((64:Int)<(t.length:Int)))))=bn at aJ;refine (ik aJ).mono ?_;rintro _ eM _ ⟨⟨bX,dj⟩,n,dk,rfl,bY,dl⟩;rw[aC (v:=.int .i64 n) rfl,aC (v:=.int .i64 dk) rfl,bT];refine (kM dj).mono ?_;rintro _ eN _ ⟨b1,b2⟩;have dm:=up (up dh bX) b1;have dn:=Z (Z di bX) b1;generalize b4:((aW 1 4611686018427387904 bn).map (·.2)).map (aY (decide (64<n)))=bo at b2;refine (ik b2).mono ?_;rintro _ eO _ ⟨⟨b5,b6⟩,most,dp,rfl,hm,dq⟩;rw[aC (v:=.int .i64 most) rfl,aC (v:=.int .i64 dp) rfl];generalize b7:(aW 1 4611686018427387904 bo).map (·.2)=bq at b6;refine (ik b6).mono ?_;rintro _ eP _ ⟨⟨b8,dr⟩,a6,ds,rfl,ca,dt⟩;rw[aC (v:=.int .i64 a6) rfl,aC (v:=.int .i64 ds) rfl,bT];refine (kM dr).mono ?_;rintro _ eQ _ ⟨cb,cd⟩;generalize ce:((aW 0 4611686018427387904 bq).map (·.2)).map (aY (decide (256<a6)))=cg at cd;refine (ik cd).mono ?_;rintro _ eR _ ⟨⟨ch,du⟩,k,dv,rfl,dw,eS⟩;rw[aC (v:=.int .i64 k) rfl,aC (v:=.int .i64 dv) rfl,bT];refine (kM du).mono ?_;rintro _ eT _ ⟨ci,cj⟩;generalize cl:((aW 1 4611686018427387904 cg).map (·.2)).map (aY (decide (2147483648<k)))=aK at cj;have dx:=up (up (up (up (up dm b5) b8) cb) ch) ci;have dy:=Z (Z (Z (Z (Z dn b5) b8) cb) ch) ci;rw[az,ah b3.p rfl];refine bH (g:=I) (o:=1) af.i rfl rfl dy (by simp) fun cm cn eU bu=>?_;have bu:ak cm I b3 [bx t,.int .i64 k,.slice none 0 0,.slice none 0 0]:=bu;have dz:=cj.new cn fun r E=>by have E:r=I:=E;omega
 have cp:am (fun r=>w.heap.size≤r) w cm:=dx.trans (cn.mono fun r _ h=>by have h:r=I:=h;omega);have eV:0≤n∧n≤4611686018427387904:=by
  cases U:aW 1 4611686018427387904 bn with
  |none=>have:=dl U;omega
  |some q=>have aJ:=bY q U;have:=kH (n:=q.1) (s':=q.2) U;omega
 have eW:0≤most∧most≤4611686018427387904:=by
  cases U:aW 1 4611686018427387904 bo with
  |none=>have:=dq U;omega
  |some q=>have aJ:=hm q U;have:=kH (n:=q.1) (s':=q.2) U;omega
 have dA:0≤a6∧a6≤4611686018427387904:=by
  cases U:aW 0 4611686018427387904 bq with
  |none=>have:=dt U;omega
  |some q=>have aJ:=ca q U;have:=kH (n:=q.1) (s':=q.2) U;omega
 have dB:Zero (some (⟨(lex V).1,0,false,[]⟩:ay)):=fun s ai=>by cases ai;exact⟨rfl,by simp only;omega⟩
 have dC:Zero bn:=by rw[←bl];exact (FS dB).big _
 have dD:Zero bo:=by rw[←b4];exact (zero_num dC).big _
 have dE:Zero bq:=by rw[←b7];exact zero_num dD
 have dF:Zero cg:=by rw[←ce];exact (zero_num dE).big _
 have cq:Zero aK:=by rw[←cl];exact (zero_num dF).big _
 have eX:=cp.size;refine⟨fun bw aj=>∃ i:Nat,bw= .int .i64 (i:Int)∧i≤n.toNat∧am (fun r=>w.heap.size≤r) w aj∧ ∃ aw cr acc so,ak aj I b3 [bx t,.int .i64 k,aw,.slice none 0 0]∧aq .i64 af aj cr aw acc∧(∀ r,leads aw r→W.heap.size≤r)∧bD aj g W.heap.size bt 100000 so∧i7 (eK most) n.toNat i aK acc so∧ ∀ s,so=some s→s.told=0∧acc.length+s.toks.length≤100000∧ ∀ z∈acc,1≤z∧z≤ap,fun bw _=>n.toNat-(bQ bw).toNat,
  ⟨0,rfl,Y1 _,cp,_,0,[],aK,bu,aq.nil _ _ _ _,(fun r E=>by obtain⟨a,a7,c,aF,aH⟩:=E;cases aF),dz,?_,fun s ai=>⟨(cq s ai).1,by simpa using (cq s ai).2,fun z dH=>by cases dH⟩⟩,?_⟩
 ·unfold i7;cases aK <;> rfl
 rintro _ aj ⟨i,rfl,hi,bz,aw,cr,acc,so,ct,cu,cz,aM,bA,cA⟩;refine aV (fun v dJ=>aj=dJ∧((v= .bool true∧i<n.toNat∧ ∃ s,so=some s)∨(v= .bool false∧(so=none∨i=n.toNat)))) ?_ ?_
 rotate_left
 ·intro cW aA;rw[au,ag];refine⟨fun cB=>?_,fun eY=>aA _ _ ⟨rfl,.inr ⟨rfl,.inr (by omega)⟩⟩⟩;rw[iZ aM];cases so with
  |none=>exact aA _ _ ⟨rfl,.inr ⟨rfl,.inl rfl⟩⟩
  |some s=>exact aA _ _ ⟨rfl,.inl ⟨rfl,by omega,s,rfl⟩⟩
 rintro _ _ ⟨rfl,⟨rfl,cB,s,rfl⟩|⟨rfl,dL⟩⟩
 ·rw[bm];obtain⟨dM,eZ,dN⟩:=cA s rfl;refine (ik aM).mono ?_;rintro _ e0 _ ⟨⟨dO,dP⟩,z,dQ,rfl,bB,e1⟩;rw[aC (v:=.int .i64 z) rfl,aC (v:=.int .i64 dQ) rfl,bT];refine (kM dP).mono ?_;rintro _ e3 _ ⟨dR,dS⟩;have ba:=dO.trans dR;have cC:=Z ct ba;have dU:∀ r,r=g→ft aj r∨aj.heap.size≤r:=fun r E=>(il aM r E).imp (fun⟨e,c,ac,dV,dW,_⟩=>⟨e,c,ac,dV,dW⟩) id;have cD:=dK cu ba dU;rw[az,ah b3.p rfl,al (by kernel_rfl) (cC.cell (o:=0+2) rfl)];refine dT ae.u af.i rfl fun a22 e4 dX e5 aB dY=>?_;refine gn ae.u af.i rfl (cD.ext aB) dY.ls (by simp;omega) (by simp;omega) fun cE dZ e6 bb ea cF=>?_;have cG:=cC.ext aB;have cH:=cG.ad cF fun he=>bZ (cD.ext aB) cG (by decide) he rfl;rw[az,ah b3.p rfl];refine bH (g:=I) (o:=2) ae.i bb.ls.cells.1 bb.ls.cells.2 cH (by simp) fun cI cJ e7 bC=>?_;have bC:ak cI I b3 [bx t,.int .i64 k,cE,.slice none 0 0]:=bC;rw[aL,wrap_i64 (by omega) (by omega)];have cK:am (fun r=>leads aw r∨r=I) dX cI:=(cF.mono fun r _ h=>.inl h).trans (cJ.mono fun r _ h=>.inr h);have cL:∀ r,(leads aw r∨r=I)→W.heap.size≤r:=fun r E=>E.elim (cz r) fun E=>by omega
  have e9:w.heap.size≤W.heap.size:=bN.size;have fa:=ba.size;have z22:=aB.size;have fb:=bz.size;have fc:=aM.lt;refine⟨⟨i+1,rfl,by omega,((up bz ba).trans (aB.ad _)).trans (cK.mono fun r _ h=>by have:=cL r h;omega),cE,dZ,acc++[z],((aW 1 most (some s)).map (·.2)).map (aY (decide (32<z))),bC,br bb cJ fun r E he=>?_,fun r E=>?_,(dS.ext aB).new cK cL,?_,fun s' aa=>?_⟩,by simp only[bQ];omega⟩
  ·have he:r=I:=he;subst he;exact bZ bb cH (by decide) E rfl
  ·rcases ea r E with h|h
   ·exact cz r h
   ·omega
  ·refine bA.step cB ?_ fun q U=>?_
   ·show (W6 _ (a8 1 most s)).map _=_;unfold eK;cases U:a8 1 most s with
    |none=>rfl
    |some q=>
     have:=bB q U;obtain⟨cM,bc⟩:=q;subst this;rfl
   ·unfold eK at U;cases ab:a8 1 most s with
    |none=>rw[ab] at U;cases U
    |some aO=>
     rw[ab] at U;have:=bB aO ab;obtain⟨cM,bc⟩:=aO;cases U;exact this
  ·cases ab:a8 1 most s with
   |none=>
    have aa:(W6 (fun x=>x.2) (a8 1 most s)).map (aY (decide (32<z)))=some s':=aa;rw[ab] at aa;cases aa
   |some aO=>
    have aa:(W6 (fun x=>x.2) (a8 1 most s)).map (aY (decide (32<z)))=some s':=aa;rw[ab] at aa;have eb:=bB aO ab;obtain⟨cM,bc⟩:=aO;cases aa;have cN:=c0 ab;have cO:=(fO ab).1;have fd:=cN.1;refine⟨by show bc.told=0;rw[cN.eqs.1];exact dM,?_,fun y aP=>?_⟩
    ·rw[o5];show acc.length+1+bc.toks.length≤100000;omega
    ·rcases n9.1 aP with aP|aP
     ·exact dN y aP
     ·rw[o9.1 aP,eb];exact⟨cO.1,by unfold ap;have:=cO.2;simp only at*;omega⟩
 ·rw[aU];have ec:aK.bind (ck (eK most) n.toNat [])=so.map fun s=>(acc,s):=by
   unfold i7 at bA;rw[bA];cases so with
   |none=>rfl
   |some s=>
    rcases dL with h|rfl
    ·cases h
    ·simp only[W7];rfl
  refine FR bz ct cu aM (fun s ai=>?_) (by omega) (by omega) aR dA fun v w' ed ee bE ef eg cP=>?_
  ·obtain⟨eh,fe,a3⟩:=cA s ai;exact⟨fun _=>by rw[eh];omega,by omega,a3,by omega⟩
  ·have ei:(decide ((64:Int)<(t.length:Int)))=decide (64<t.length):=by rw[W5,decide_eq_true_eq,decide_eq_true_eq];omega
   rw[ei] at bl;have ej:=FP (s0:=⟨(lex V).1,0,false,[]⟩) bl.symm (fun q U=>c9 q U) b4.symm bY b7.symm hm ce.symm ca cl.symm dw ec ef;have ao:=FT ej (by omega);have cQ:¬0≤bad↔(lex V).2=true:=by
    rw[cV];cases (lex V).2 <;> simp
   cases ee with
   |none=>
    obtain⟨a7,e,rfl⟩:=cP fun s ai=>by cases ai
    exact⟨bE,a7,e,fun _=>rfl,fun f Y=>by rw[ao] at Y;cases Y⟩
   |some s=>
    have ao:e8 V=if s.toks=[]∧(lex V).2=true∧s.big=false then some ⟨t,k,acc,ed⟩ else none:=ao;by_cases X:s.toks=[]∧(lex V).2=true∧s.big=false
    ·rw[if_pos X] at ao;obtain⟨rfl,ek⟩:=eg s rfl ⟨X.1,cQ.2 X.2.1,X.2.2⟩;exact⟨bE,_,_,(fun Y=>by rw[ao] at Y;cases Y),fun f Y=>⟨I,rfl,by rw[ao] at Y;cases Y;exact ek⟩⟩
    ·rw[if_neg X] at ao;obtain⟨a7,e,rfl⟩:=cP fun s' aa bF=>by
      cases aa;exact X ⟨bF.1,cQ.1 bF.2.1,bF.2.2⟩
     exact⟨bE,a7,e,fun _=>rfl,fun f Y=>by rw[ao] at Y;cases Y⟩
theorem FV {a b:Int} {w:x5}:O y0 pd [.int .i64 a,.int .i64 b] w fun v w'=>v= .int .i64 (min a b)∧Ext w w':=by
 apply pd.enter;rw[au,ag];exact⟨fun h=>⟨by congr 1;omega,Ext.refl _⟩,fun h=>⟨by congr 1;omega,Ext.refl _⟩⟩
set_option maxHeartbeats 1000000 in
theorem FW {w:x5} {E:gK} {x:ca} {ae:x4} {t:List Int} {k:Int} (h:fd w E x) (av:(x.lines.map (·.1)).Nodup) (aw:aG .i64 w ae t):O y0 oX [.agg (dW E).toArray,ae,.int .i64 k] w fun v w'=>v= .int .i64 (hs x k t)∧Ext w w':=by
 obtain⟨⟨aW,ax⟩,⟨aX,ay⟩,az,aY,L,U,aA,af⟩:=id h;apply oX.enter;refine cc fun aB Z aZ aa I=>?_;have I:ak Z aB aF (dW E):=by
  obtain⟨_,_,_,aC⟩:=c5 ax.ls;obtain⟨_,_,_,aD⟩:=c5 ay.ls;obtain⟨_,_,_,_,_,aE,_⟩:=U.sl;simp only[dW,aC,aD,aE] at I ⊢;exact I
 have aH:=U.ext aa;have aI:L.length=x.lines.length:=by rw[←af,o3]
 rw[ah aF.p rfl,al (v:=.int .i64 E.o) (by kernel_rfl) (I.cell (o:=0+2) rfl),ah aF.p rfl,al (v:=E.bP) (by kernel_rfl) (I.cell (o:=0+3) rfl),eb cp.u aH,az];refine ba.range L.length (fun i V W=>Ext Z W∧ ∃ c:Int,V= .int .i64 c∧min c k=iU x k i t) U.le ⟨Ext.refl _,x.other,rfl,(xU x k t).symm⟩ ?_ ?_
 ·rintro i _ W aJ hi ⟨J,c,rfl,X⟩ aK;obtain⟨y,ab⟩:∃ y,L[i]? =some y:=⟨_,x3 hi⟩;obtain⟨a1,ai⟩:=aA y (u5 ab);have ac:=aa.trans J;have aM:x.lines[i]? =some (y.t,y.c):=by rw[←af,r9,ab];rfl
  have aj:=xW (k:=k) av aM t;rw[au,ag];refine⟨fun _=>?_,fun h=>by omega⟩;refine aV (fun V am=>Ext Z am∧ ∃ c:Int,V= .int .i64 c∧min c k=iU x k (i+1) t) ?_ ?_
  ·rintro V am aN;rw[aL];exact aK _ _ aN
  intro a2 ao;have ap:=U.ext ac;rw[cT rfl cp.u bA.i ap hi,bN bA.p bA.i rfl (ap.range ab)];refine bU bA.i fun aP a6 a7 aO aQ=>?_;refine b9 (vs:=lU y) bA.i rfl rfl (uq ai) aQ fun aR aS a8 aq=>?_;have Y:Ext W aR:=aO.then aS fun r bb he=>by have he:r=aP:=he;omega
  rw[ah bA.p rfl,al (by kernel_rfl) (aq.cell (o:=0+0) rfl)];refine (uo ((ai.ls.ext ac).ext Y) ((aw.ext ac).ext Y)).mono ?_;rintro _ bc _ ⟨rfl,ad⟩;rw[ag];refine⟨fun he=>?_,fun aT=>?_⟩
  ·rw[ah bA.p rfl,al (by kernel_rfl) ((aq.ext ad).cell (o:=0+1) rfl)];refine ao _ _ ⟨(J.trans Y).trans ad,y.c,rfl,?_⟩;rw[aj,if_pos he.symm]
  ·refine ao _ _ ⟨(J.trans Y).trans ad,c,rfl,?_⟩;rw[aj,if_neg fun he=>aT he.symm,X]
 ·rintro _ W aJ ⟨J,c,rfl,X⟩;rw[aI,xV] at X;rw[au,ag];refine⟨fun h=>by omega,fun _=>?_⟩;refine FV.mono ?_;rintro _ bd _ ⟨rfl,aU⟩;exact⟨by rw[X],(aa.trans J).trans aU⟩
set_option maxHeartbeats 1000000 in
theorem FX {w:x5} {am:x4} {l:List Int} (h:aG .i64 w am l) (ap:l.Nodup) (aP:l.length≤64):O y0 oW [am] w fun v w'=>Ext w w'∧ ∃ g,aq .i64 J w' g v (be l)∧ ∀ r,leads v r→w.heap.size≤r:=by
 apply oW.enter;have av:∀ i,i≤64→(((W3 i).map fun(v:Nat)=>(v:Int)).filter fun v=>decide (v∈l)).length≤i:=fun i _=>by
  have:=List.length_filter_le (fun v=>decide (v∈l)) ((W3 i).map fun(v:Nat)=>(v:Int));simp at this;omega
 refine ba.range 64 (fun i E W=>Ext w W∧ ∃ g,aq .i64 J W g E (((W3 i).map fun(v:Nat)=>(v:Int)).filter fun v=>decide (v∈l))∧ ∀ r,leads E r→w.heap.size≤r) (by omega) ⟨Ext.refl _,0,aq.nil _ _ _ _,fun r X=>by obtain⟨a,n,c,aw,aR⟩:=X;cases aw⟩ ?_ ?_
 ·rintro i E W k hi ⟨Y,g,hm,ac⟩ ax;rw[au,ag];refine⟨fun _=>?_,fun h=>by omega⟩;rw[aQ ae.u (h.ext Y)];have ay:=av i (by omega);generalize az:(((W3 i).map fun(v:Nat)=>(v:Int)).filter fun v=>decide (v∈l))=A at hm ay;refine ba.range l.length (fun j E Z=>Ext w Z∧ ∃ g,aq .i64 J Z g E (A++(if (i:Int)∈l.take j then[(i:Int)] else[]))∧ ∀ r,leads E r→w.heap.size≤r) h.le ⟨Y,g,by simpa using hm,ac⟩ ?_ ?_
  ·rintro j aA Z aB aC ⟨U,ad,I,V⟩ aD;obtain⟨x,ah⟩:∃ x,l[j]? =some x:=⟨_,x3 aC⟩;rw[au,ag];refine⟨fun _=>?_,fun h=>by omega⟩;refine aV (fun E aa=>Ext w aa∧ ∃ g,aq .i64 J aa g E (A++(if (i:Int)∈l.take (j+1) then[(i:Int)] else[]))∧ ∀ r,leads E r→w.heap.size≤r) ?_ ?_
   ·rintro aS aa aE;rw[aL];exact aD _ _ aE
   intro aT ao;have ai:(i:Int)∈l.take (j+1)↔(i:Int)∈l.take j∨(i:Int)=x:=by
    rw[o4,ah,c8,n9,o9]
   rw[bw ae.u af.i (by kernel_rfl) (h.ext U) ah,bM,ag];refine⟨fun he=>?_,fun aF=>?_⟩
   ·have aH:(i:Int)∉l.take j:=fun hm=>by
     obtain⟨p,aj⟩:=X1.1 hm;have aI:p<j:=by have:=(u4.1 aj).1;rw[l7] at this;omega
     rw[Z8 aI,←he] at aj;have:=ia ap aj ah;omega
    rw[if_neg aH,U2] at I;refine dT (k:=.i64) ab.u J.i rfl fun a3 aU aa aW ak aJ=>?_;refine gn ab.u J.i rfl (I.ext ak) aJ.ls (by simp;omega) (by simp;omega) fun aX aK aY aM aN aO=>?_;have aZ:=U.size;have z3:=ak.size;refine ao _ _ ⟨(U.trans ak).then aO fun r X he=>by have:=V r he;omega,aK,?_,fun r X=>(aN r X).elim (V r) fun h=>by omega⟩;rw[if_pos (ai.2 (.inr he.symm))];exact aM
   ·refine ao _ _ ⟨U,ad,?_,V⟩;have:((i:Int)∈l.take (j+1))=((i:Int)∈l.take j):=propext ⟨fun al=>(ai.1 al).resolve_right fun he=>aF he.symm,fun al=>ai.2 (.inl al)⟩;simp only[this];exact I
  ·rintro aA Z aB ⟨U,ad,I,V⟩;rw[l5] at I;rw[au,ag];refine⟨fun h=>by omega,fun _=>?_⟩;rw[aL];refine ax _ _ ⟨U,ad,?_,V⟩;rw[List.range_succ,j0,List.filter_append,az];by_cases hm:(i:Int)∈l
   ·rw[if_pos hm] at I;simpa[hm] using I
   ·rw[if_neg hm] at I;simpa[hm] using I
 ·rintro E W k ⟨Y,g,hm,ac⟩;rw[au,ag];exact⟨fun h=>by omega,fun _=>⟨Y,g,hm,ac⟩⟩
structure ej where
 a7:x4
 aw:x4
 aO:x4
 sc:List Int
 cs:List Int
def cE (h:ej):List x4:=[h.a7,h.aw,h.aO]
def dL (w:x5) (sizes:List Int) (h:ej):Prop:=(∃ g,aq .i64 J w g h.a7 h.sc)∧(∃ g,aq .i64 J w g h.aw (cb sizes h.sc))∧ ∃ g,aq .i64 af w g h.aO h.cs
theorem dL.ext {w w':x5} {sizes:List Int} {h:ej} (I:dL w sizes h) (E:Ext w w'):dL w' sizes h:=by
 obtain⟨⟨J,h1⟩,⟨O,U⟩,V,W⟩:=I;exact⟨⟨J,h1.ext E⟩,⟨O,U.ext E⟩,V,W.ext E⟩
theorem dL.one {w:x5} {sizes:List Int} {h:ej} (E:dL w sizes h):∀ u∈cE h,u.oneCell'=true:=by
 obtain⟨⟨O,h1⟩,⟨U,I⟩,V,J⟩:=E;intro u hu;simp[cE] at hu;rcases hu with rfl|rfl|rfl
 ·exact h1.ls.cells.2
 ·exact I.ls.cells.2
 ·exact J.ls.cells.2
set_option maxHeartbeats 8000000 in
theorem za {N cL:Nat} {w:x5} {f:bW} {x:ca} {ax:gK} {sv:x4} (h:fd w ax x) (aX:eh N f) (bY:x∈f.funs) (cM:aq .i64 af w cL sv f.sizes):
  O y0 mG [.agg (dW ax).toArray,sv,.int .i64 f.k] w fun v w'=>Ext w w'∧ ∃ c:ej,v= .agg (cE c).toArray∧c.sc=be x.scope∧c.cs=(fP f.sizes f.k x).2∧dL w' f.sizes c∧ ∀ r,leads c.aO r→w.heap.size≤r:=by
 obtain⟨aI,cN,ed⟩:=aX.funs x bY;have b2:=rL aI aX.sizes.2.1;have b3:=rK b2 aI.scope.1;have cO:(be x.scope).length≤6:=by rw[b3.length_eq];exact cN
 have cP:=nn aX bY;have b4:=xL x.scope;obtain⟨⟨ee,aY⟩,⟨ef,cQ⟩,eg,ei,cS⟩:=id h;apply mG.enter;refine cc fun bm cT ek b5 aJ=>?_;have aJ:ak cT bm aF (dW ax):=by
  obtain⟨L,cU,_⟩:=cS;obtain⟨_,_,_,X⟩:=c5 aY.ls;obtain⟨_,_,_,aa⟩:=c5 cQ.ls;obtain⟨_,_,_,_,_,cV,_⟩:=cU.sl;simp only[dW,X,aa,cV] at aJ ⊢;exact aJ
 refine bU aE.i fun b6 em en bn bo=>?_;have bp:=b5.trans bn;rw[ah aF.p rfl,al (v:=ax.a7) (by kernel_rfl) ((aJ.ext bn).cell (o:=0+0) rfl)];refine (FX (aY.ls.ext bp) aI.scope.1 (by omega)).mono ?_;rintro a7 b7 _ ⟨aZ,a1,bq,eo⟩;rw[cR (cs:=#[a7,.slice none 0 0,.slice none 0 0]) (by obtain⟨_,_,_,rfl⟩:=c5 bq.ls;kernel_rfl)];refine bU aE.i fun U ep cW cX cY=>?_;refine b9 (vs:=[a7,.slice none 0 0,.slice none 0 0]) aE.i rfl rfl (by intro u hu;simp at hu;rcases hu with rfl|rfl;exact bq.ls.cells.2;rfl) cY fun ac cZ er aB=>?_;have a2:Ext b7 ac:=cX.then cZ fun r E he=>by have he:r=U:=he;omega
 have b8:=(bp.trans aZ).trans a2;have ay:=bq.ext a2;have bu:=((aJ.ext bn).ext aZ).ext a2;have cd:=(bo.ext aZ).ext a2;have es:=bp.size;have z3:=aZ.size;have et:=b8.size;have eu:=aB.lt;have ev:U=b7.heap.size:=cW;rw[ah aE.p rfl,al (by kernel_rfl) (aB.cell (o:=0+0) rfl),aQ ab.u ay.ls];have ce:∀ v∈be x.scope,0≤v∧v<f.sizes.length:=fun v hm=>aI.scope.2 v ((p1 b2).1 hm);have bx:∀ {w':x5},am (fun r=>r=U∨ac.heap.size≤r) ac w'→Ext w w':=fun bA=>b8.then bA fun r E he=>by omega
 have bB:(cb f.sizes (be x.scope)).length=(be x.scope).length:=by simp[cb]
 refine bd.range (be x.scope).length (fun i ai=>am (fun r=>r=U∨ac.heap.size≤r) ac ai∧ ∃ aw gs,ak ai U aE [a7,aw,.slice none 0 0]∧aq .i64 J ai gs aw ((cb f.sizes (be x.scope)).take i)∧ ∀ r,leads aw r→ac.heap.size≤r) (by omega)
  ⟨am.refl _ _,_,0,aB,aq.nil _ _ _ _,fun r E=>by obtain⟨a,n,c,X,aa⟩:=E;cases X⟩ ?_ ?_
 ·rintro i ai c0 hi ⟨aj,aw,gs,c1,aK,bC⟩ c2;obtain⟨v,bD⟩:∃ v,(be x.scope)[i]? =some v:=⟨_,x3 hi⟩;have ew:=ce v (u5 bD);have c3:aq .i64 J ai a1 a7 (be x.scope):=br ay aj fun r E I=>by
   rcases I with rfl|I
   ·exact bZ ay aB (by decide) E rfl
   ·obtain⟨X,aa⟩:=b1 ay E;omega
  rw[au,ag];refine⟨fun _=>?_,fun h=>by omega⟩;rw[bw ab.u J.i (by kernel_rfl) c3.ls bD];intro ey aM _ _;have cg:=c1.ext aM;have c4:f.sizes[v.toNat]? =some (f.sizes.getD v.toNat 0):=by rw[p8,x3 (by omega)];rfl
  rw[ah aE.p rfl,al (by kernel_rfl) (cg.cell (o:=0+1) rfl),eV (y:=v) (i:=v.toNat) (by omega) ae.u af.i (by kernel_rfl) (cM.ext ((bx aj).trans aM)).ls c4];refine dT (k:=.i64) ab.u J.i rfl fun ez eA c6 eC aN c7=>?_;refine⟨.inl aN,?_⟩;have ch:=(aK.ext aM).ext aN;refine gn ab.u J.i rfl ch c7.ls (by simp;omega) (by simp;omega) fun c9 da eD a6 db ci=>?_;have cj:=cg.ext aN;have ck:=cj.ad ci fun he=>bZ ch cj (by decide) he rfl;rw[ah aE.p rfl];refine bH (g:=U) (o:=1) ab.i a6.ls.cells.1 a6.ls.cells.2 ck (by simp) fun dc cl eE dd=>?_;rw[aL];have de:am (fun r=>leads aw r∨r=U) c6 dc:=(ci.mono fun r _ h=>.inl h).trans (cl.mono fun r _ h=>.inr h);have df:=aj.size;have eF:=(aM.trans aN).size;refine c2 _ ⟨((aj.trans (aM.ad _)).trans (aN.ad _)).trans (de.mono fun r _ h=>h.elim (fun h=>.inr (bC r h)) .inl),c9,da,dd,?_,fun r E=>(db r E).elim (bC r) fun h=>by omega⟩;have e:(cb f.sizes (be x.scope)).take (i+1)=(cb f.sizes (be x.scope)).take i++[f.sizes.getD v.toNat 0]:=by
   unfold cb;rw[←List.map_take,←List.map_take,o4,bD,c8,j0];rfl
  rw[e];exact br a6 cl fun r E he=>by
   have he:r=U:=he;subst he;exact bZ a6 ck (by decide) E rfl
 rintro ai c0 ⟨aj,aw,gs,bE,aK,bC⟩;rw[←bB,l5] at aK;rw[au,ag];refine⟨fun h=>by omega,fun _=>?_⟩;have eG:=bx aj;have a8:bV (cb f.sizes (be x.scope)):=⟨by rw[bB];exact cO,p2 aX.sizes.2.2 ce⟩;have dg:=cP.small;rw[ah aE.p rfl,al (by kernel_rfl) (bE.cell (o:=0+1) rfl)];refine (wk _ aK.ls a8).mono ?_;rintro dh W _ ⟨bb,cm⟩;have eH:=iK a8.2;have eI:=jG a8.2;have eJ:aH (cb f.sizes (be x.scope))≤4096:=dg;rw[iJ cz.u cm];have bc:am (fun r=>r=U∨ac.heap.size≤r) ac W:=aj.trans (bb.ad _);have aP:=bE.ext bb;have cn:=aK.ext bb;have df:=aj.size;have eK:=bb.size;have bF:aq .i64 J W a1 a7 (be x.scope):=br ay bc fun r E I=>by
  rcases I with rfl|I
  ·exact bZ ay aB (by decide) E rfl
  ·obtain⟨X,aa⟩:=b1 ay E;omega
 have bG:ak W bm aF (dW ax):=bu.ad bc fun I=>I.elim (fun he=>by subst he;exact absurd (eP bu aB) (by decide)) fun h=>by have:=bu.lt;omega
 have cp:=cd.ad bc fun I=>I.elim (fun he=>by have:=bo.lt;omega) fun h=>by have:=cd.lt;omega
 have cq:∀ {w':x5},am (fun r=>r=U∨W.heap.size≤r) W w'→Ext w w':=fun bA=>(bx bc).then bA fun r E he=>by
  have he:r=U∨W.heap.size≤r:=he;omega
 have eL:U<W.heap.size:=aP.lt;refine bd.range (bK (cb f.sizes (be x.scope))).length (fun q V=>am (fun r=>r=U∨W.heap.size≤r) W V∧ ∃ aO aR,ak V U aE [a7,aw,aO]∧aq .i64 af V aR aO (((bK (cb f.sizes (be x.scope))).take q).map fun t=>hs x f.k (nc x.scope (be x.scope) t))∧ ∀ r,leads aO r→W.heap.size≤r) (by omega)
  ⟨am.refl _ _,_,0,aP,aq.nil _ _ _ _,fun r E=>by obtain⟨a,n,c,X,aa⟩:=E;cases X⟩ ?_ ?_
 ·rintro q V di dj ⟨Y,aO,aR,aS,aT,bf⟩ dk;obtain⟨t,bg⟩:∃ t,(bK (cb f.sizes (be x.scope)))[q]? =some t:=⟨_,x3 dj⟩;have eM:t.length=(be x.scope).length:=by
   have dl:=rh a8.2 (i:=q) (by omega);rw[dl] at bg;cases bg;rw[gX,bB]
  have bI:=cq Y;have dm:aA.rep (α:=List (List Int)) true (dU ai.heap.size) bt V [dh] (bK (cb f.sizes (be x.scope))):=aA.ad cm Y fun r E h I=>by
   rcases h with h|h
   ·have h:ai.heap.size≤r:=h;have:=bE.lt;rcases I with I|I <;> omega
   ·exact h
  have aC:∀ {ao:Nat} {ap:x4} {av:List Int},aq .i64 J W ao ap av→aq .i64 J V ao ap av:=fun hm=>br hm Y fun r E I=>by
   rcases I with rfl|I
   ·exact bZ hm aP (by decide) E rfl
   ·obtain⟨X,aa⟩:=b1 hm E;omega
  have cr:=aC bF;have ct:ak V bm aF (dW ax):=bG.ad Y fun I=>I.elim (fun he=>by subst he;exact absurd (eP bG aP) (by decide)) fun h=>by have:=bG.lt;omega
  rw[au,ag];refine⟨fun _=>?_,fun h=>by omega⟩;refine vz (α:=List Int) rfl rfl cz.u ab.i (by kernel_rfl) dm bg fun eN dn=>?_;have dp:=kz dn;rw[ah aF.p rfl,al (v:=ax.a7) (by kernel_rfl) (ct.cell (o:=0+0) rfl),aQ ae.u (aY.ls.ext bI)];have z12:=Y.size;refine ba.range x.scope.length (fun p Z bh=>Ext V bh∧ ∃ go,aq .i64 af bh go Z ((x.scope.take p).map fun v=>t.getD ((be x.scope).idxOf v) 0)∧ ∀ r,leads Z r→V.heap.size≤r) (by omega) ⟨Ext.refl _,0,aq.nil _ _ _ _,fun r E=>by obtain⟨a,n,c,X,aa⟩:=E;cases X⟩ ?_ ?_
  ·rintro p Z bh dq dr ⟨aD,go,aU,cu⟩ ds;obtain⟨v,bJ⟩:∃ v,x.scope[p]? =some v:=⟨_,x3 dr⟩;have dt:v∈be x.scope:=b3.mem_iff.2 (u5 bJ);rw[au,ag];refine⟨fun _=>?_,fun h=>by omega⟩;have du:=bI.trans aD;have dv:=aS.ext aD;have dw:=cr.ext aD;rw[bw ae.u af.i (by kernel_rfl) (aY.ls.ext du) bJ,ah aE.p rfl,al (by kernel_rfl) (dv.cell (o:=0+0) rfl),aQ ab.u dw.ls];generalize cw:((x.scope.take p).map fun v=>t.getD ((be x.scope).idxOf v) 0)=A at aU;have eO:A.length=p:=by rw[←cw,o3,l7];omega
   refine ba.range (be x.scope).length (fun j Z bi=>Ext V bi∧ ∃ go,aq .i64 af bi go Z (A++if v∈(be x.scope).take j then[t.getD ((be x.scope).idxOf v) 0] else[])∧ ∀ r,leads Z r→V.heap.size≤r) (by omega) ⟨aD,go,by simpa using aU,cu⟩ ?_ ?_
   ·rintro j dx bi dy dz ⟨az,bL,aG,aW⟩ dA;obtain⟨u,hu⟩:∃ u,(be x.scope)[j]? =some u:=⟨_,x3 dz⟩;have dB:=cr.ext az;rw[au,ag];refine⟨fun _=>?_,fun h=>by omega⟩;refine aV (fun Z bO=>Ext V bO∧ ∃ go,aq .i64 af bO go Z (A++if v∈(be x.scope).take (j+1) then[t.getD ((be x.scope).idxOf v) 0] else[])∧ ∀ r,leads Z r→V.heap.size≤r) ?_ ?_
    ·rintro eQ bO dC;rw[aL];exact dA _ _ dC
    intro eR cA;have bP:v∈(be x.scope).take (j+1)↔v∈(be x.scope).take j∨v=u:=by
     rw[o4,hu,c8,n9,o9]
    rw[bw ab.u J.i (by kernel_rfl) dB.ls hu,bM,ag];refine⟨fun he=>?_,fun bQ=>?_⟩
    ·have dD:v∉(be x.scope).take j:=fun hm=>by
      obtain⟨dE,bR⟩:=X1.1 hm;have dF:dE<j:=by have:=(u4.1 bR).1;rw[l7] at this;omega
      rw[Z8 dF,←he] at bR;have:=ia b4 bR hu;omega
     rw[if_neg dD,U2] at aG;have dG:t[j]? =some (t.getD ((be x.scope).idxOf v) 0):=by
      have:(be x.scope).idxOf v=j:=p4 b4 (by rw[hu,he]);rw[this,p8,x3 (show j<t.length by omega)];rfl
     rw[bw ab.u J.i (by kernel_rfl) (dp.ext az) dG];refine dT ae.u af.i rfl fun eS eT eU eW bS dH=>?_;refine gn ae.u af.i rfl (aG.ext bS) dH.ls (by simp;omega) (by simp;omega) fun eX dI eY dJ dK dM=>?_;have eZ:=az.size;have e0:=bS.size;refine cA _ _ ⟨(az.trans bS).then dM fun r E he=>by have:=aW r he;omega,dI,?_,fun r E=>(dK r E).elim (aW r) fun h=>by omega⟩;rw[if_pos (bP.2 (.inr he.symm))];exact dJ
    ·refine cA _ _ ⟨az,bL,?_,aW⟩;have:(v∈(be x.scope).take (j+1))=(v∈(be x.scope).take j):=propext ⟨fun bT=>(bP.1 bT).resolve_right fun he=>bQ he.symm,fun bT=>bP.2 (.inl bT)⟩;simp only[this];exact aG
   ·rintro dx bi dy ⟨az,bL,aG,aW⟩;rw[l5,if_pos dt] at aG;rw[au,ag];refine⟨fun h=>by omega,fun _=>?_⟩;rw[aL];refine ds _ _ ⟨az,bL,?_,aW⟩;rw[o4,bJ,c8,j0,cw];exact aG
  ·rintro Z bh dq ⟨aD,go,aU,cu⟩;rw[l5] at aU;rw[au,ag];refine⟨fun h=>by omega,fun _=>?_⟩;intro e1 cB _ _;have bj:=aD.trans cB;have dN:=aS.ext bj;have dO:=ct.ext bj;rw[ah aE.p rfl,al (by kernel_rfl) (dN.cell (o:=0+2) rfl),bN aF.p aF.i rfl dO.range];refine (FW (h.ext (bI.trans bj)) aI.lines.1 (aU.ls.ext cB)).mono ?_;rintro _ e2 _ ⟨rfl,bX⟩;refine⟨.inl bX,?_⟩;refine dT ae.u af.i rfl fun e3 e4 dP e5 cC dQ=>?_;refine⟨.inl (bX.trans cC),?_⟩;have bk:=(bj.trans bX).trans cC;have cD:=aT.ext bk;refine gn ae.u af.i rfl cD dQ.ls (by simp;omega) (by simp;omega) fun dR dS e6 bl dV cF=>?_;have cG:=aS.ext bk;have cH:=cG.ad cF fun he=>bZ cD cG (by decide) he rfl;rw[ah aE.p rfl];refine bH (g:=U) (o:=2) ae.i bl.ls.cells.1 bl.ls.cells.2 cH (by simp) fun dX cI e7 dY=>?_;rw[aL];have dZ:am (fun r=>leads aO r∨r=U) dP dX:=(cF.mono fun r _ h=>.inl h).trans (cI.mono fun r _ h=>.inr h);have e8:=bk.size;refine dk _ ⟨(Y.trans (bk.ad _)).trans (dZ.mono fun r _ h=>h.elim (fun h=>.inr (bf r h)) .inl),dR,dS,dY,?_,fun r E=>(dV r E).elim (bf r) fun h=>by omega⟩;rw[o4,bg,c8,j0];exact br bl cI fun r E he=>by
    have he:r=U:=he;subst he;exact bZ bl cH (by decide) E rfl
 ·rintro V di ⟨Y,aO,aR,aS,aT,bf⟩;rw[l5] at aT;rw[au,ag];refine⟨fun h=>by omega,fun _=>?_⟩;have aC:∀ {ao:Nat} {ap:x4} {av:List Int},aq .i64 J W ao ap av→aq .i64 J V ao ap av:=fun hm=>br hm Y fun r E I=>by
   rcases I with rfl|I
   ·exact bZ hm aP (by decide) E rfl
   ·obtain⟨X,aa⟩:=b1 hm E;omega
  let c:ej:=⟨a7,aw,aO,be x.scope,(fP f.sizes f.k x).2⟩;have ea:dL V f.sizes c:=⟨⟨a1,aC bF⟩,⟨gs,aC cn⟩,aR,aT⟩;rw[bN aE.p aE.i rfl (show V.rangeAt U 0 (cE c) from aS.range)];have cJ:=cp.ad Y fun I=>I.elim (fun he=>by have:=bo.lt;omega) fun h=>by have:=cp.lt;omega
  refine b9 (vs:=cE c) aE.i rfl rfl ea.one cJ fun eb cK e9 ec=>?_;rw[eB aE.p aE.i rfl ec.range];have bz:∀ {ao:Nat} {ap:x4} {av:List Int} {e:o6},e≠aE→aq .i64 e V ao ap av→aq .i64 e eb ao ap av:=fun bQ hm=>br hm cK fun r E he=>by
   have he:r=b6:=he;exact bZ hm cJ bQ E he
  refine⟨(cq Y).then cK fun r E he=>by have he:r=b6:=he;have:=b5.size;omega,c,rfl,rfl,rfl,⟨⟨a1,bz (by decide) (aC bF)⟩,⟨gs,bz (by decide) (aC cn)⟩,aR,bz (by decide) aT⟩,fun r E=>?_⟩;have:=bf r E;omega
theorem zb {w:x5} {sizes:List Int} {h:ej} {g:Nat} (I:dL w sizes h) {w':x5} (E:ak w' g aE (x4.agg (cE h).toArray).cells.toList):ak w' g aE (cE h):=by
 obtain⟨⟨X,h1⟩,⟨Y,J⟩,Z,O⟩:=I;obtain⟨_,_,_,U⟩:=c5 h1.ls;obtain⟨_,_,_,V⟩:=c5 J.ls;obtain⟨_,_,_,W⟩:=c5 O.ls;simp only[cE,U,V,W] at E ⊢;exact E
set_option maxHeartbeats 1000000 in
theorem FY {w:x5} {sizes:List Int} {a b:ej} (aw:dL w sizes a) (ax:dL w sizes b) (aA:hz a.sc) (aB:hz b.sc):O y0 mH [.agg (cE a).toArray,.agg (cE b).toArray] w fun v w'=>v= .bool (decide (cD a.sc<cD b.sc))∧Ext w w':=by
 obtain⟨⟨aV,ay⟩,_⟩:=id aw;obtain⟨⟨aW,aC⟩,_⟩:=id ax;have ai:=(tF aA aB).1;apply mH.enter;refine cc fun aD aX aY aF aj=>?_;refine cc fun aG ak aZ az am=>?_;have aj:=(zb aw aj).ext az;have am:=zb ax am;have W:=aF.trans az;have X:=ay.ls.ext W;have aa:=aC.ls.ext W;have Y:∀ {w':x5},Ext ak w'→ ∀ {K:x4→Prop},I y0 (x2 aE (.pointer (some ⟨aD,0,none⟩)) 0) w' (fun t=>I y0 (x1 ab t) w' K)=K a.a7:=fun E K=>by
  rw[ah aE.p rfl,al (v:=a.a7) (by kernel_rfl) ((aj.ext E).cell (o:=0+0) rfl)]
 have ac:∀ {w':x5},Ext ak w'→ ∀ {K:x4→Prop},I y0 (x2 aE (.pointer (some ⟨aG,0,none⟩)) 0) w' (fun t=>I y0 (x1 ab t) w' K)=K b.a7:=fun E K=>by
  rw[ah aE.p rfl,al (v:=b.a7) (by kernel_rfl) ((am.ext E).cell (o:=0+0) rfl)]
 rw[Y (Ext.refl _),aQ ab.u X,ac (Ext.refl _),aQ ab.u aa,bC,ag];refine⟨fun aH=>?_,fun aI=>?_⟩
 ·rw[Y (Ext.refl _),aQ ab.u X,ac (Ext.refl _),aQ ab.u aa,au];refine⟨?_,W⟩;congr 1;rw[W5,decide_eq_true_eq,decide_eq_true_eq,ai];exact⟨fun h=>.inl (by omega),fun h=>by rcases h with h|h <;> omega⟩
 have aJ:a.sc.length=b.sc.length:=by have:=X4.1 aI;omega
 rw[Y (Ext.refl _),aQ ab.u X];refine ba.range a.sc.length (fun i _ ao=>Ext ak ao∧ ∀ (j:Nat) (x y:Int),j<i→a.sc[j]? =some x→b.sc[j]? =some y→x=y) ay.ls.le ⟨Ext.refl _,fun j x y aK=>by omega⟩ ?_ ?_
 ·rintro i _ ao k hi ⟨ap,ad⟩ aM;obtain⟨x,E⟩:∃ x,a.sc[i]? =some x:=⟨_,x3 hi⟩;obtain⟨y,ae⟩:∃ y,b.sc[i]? =some y:=⟨_,x3 (by omega)⟩;have U:eM a.sc b.sc=eM (a.sc.drop i) (b.sc.drop i):=rW ad (by omega) (by omega);have aN:a.sc.drop i=x::a.sc.drop (i+1):=by rw[X2 hi,(u4.1 E).2]
  have aO:b.sc.drop i=y::b.sc.drop (i+1):=by rw[X2 (show i<b.sc.length by omega),(u4.1 ae).2]
  rw[aN,aO] at U;simp only[eM] at U;rw[au,ag];refine⟨fun _=>?_,fun h=>by omega⟩;intro a1 aP _ _;have V:=ap.trans aP;rw[Y V,bw ab.u J.i (by kernel_rfl) (X.ext V) E,ac V,bw ab.u J.i (by kernel_rfl) (aa.ext V) ae,bC,ag];refine⟨fun aH=>?_,fun he=>?_⟩
  ·intro a2 aR _ _;have Z:=V.trans aR;rw[Y Z,bw ab.u J.i (by kernel_rfl) (X.ext Z) E,ac Z,bw ab.u J.i (by kernel_rfl) (aa.ext Z) ae,au];refine⟨?_,W.trans Z⟩;congr 1;rw[W5,decide_eq_true_eq,decide_eq_true_eq,ai,U];by_cases af:x<y
   ·rw[if_pos af];exact⟨fun _=>.inr ⟨aJ,by omega⟩,fun _=>af⟩
   ·rw[if_neg af,if_pos (show y<x by omega)];exact⟨fun h=>absurd h af,fun h=>by rcases h with h|h <;> omega⟩
  ·rw[aL];refine aM _ _ ⟨V,fun j aS aT aK aq av=>?_⟩;by_cases aU:j=i
   ·subst aU;rw[E] at aq;rw[ae] at av;cases aq;cases av;exact X4.1 he
   ·exact ad j aS aT (by omega) aq av
 ·rintro _ ao k ⟨ap,ad⟩;rw[au,ag];refine⟨fun h=>by omega,fun _=>⟨?_,W.trans ap⟩⟩;congr 1;symm;rw[decide_eq_false_iff_not,ai];have U:eM a.sc b.sc=eM (a.sc.drop a.sc.length) (b.sc.drop a.sc.length):=rW ad (o7 _) (by omega);rw[List.drop_length,show b.sc.drop a.sc.length=[] from List.drop_eq_nil_of_le (by omega)] at U;rw[U];simp only[eM];omega
def cW (h:ej):cg:=(h.sc,h.cs)
def im (w:x5) (B g:Nat) (v:x4) (sizes:List Int) (L:List ej):Prop:=aZ cE 3 aE w g v L∧(∀ h∈L,dL w sizes h∧ ∀ r,leads h.aO r→B≤r)∧(∀ (i j:Nat) x y,L[i]? =some x→L[j]? =some y→i≠j→ ∀ r,leads x.aO r→¬leads y.aO r)∧ ∀ r,leadsTo v r→B≤r
theorem jT {S:Nat→Prop} {w w':x5} {sizes:List Int} {h:ej} (Z:dL w sizes h) (W:am S w w') (X:∀ r,S r→(∃ e c,ak w r e c∧e≠J∧e≠af)∨w.heap.size≤r∨((∃ c,ak w r af c)∧¬leads h.aO r)):dL w' sizes h:=by
 obtain⟨⟨aa,h1⟩,⟨ab,ac⟩,ad,O⟩:=Z;have Y:∀ {g:Nat} {v:x4} {l:List Int},aq .i64 J w g v l→aq .i64 J w' g v l:=fun hm=>br hm W fun r E U=>by
  rcases X r U with⟨e,c,I,V,_⟩|ae|⟨⟨c,I⟩,_⟩
  ·exact bZ hm I (fun he=>V he.symm) E rfl
  ·obtain⟨ag,ah⟩:=b1 hm E;omega
  ·exact bZ hm I (by decide) E rfl
 refine⟨⟨aa,Y h1⟩,⟨ab,Y ac⟩,ad,br O W fun r E U=>?_⟩;rcases X r U with⟨e,c,I,_,V⟩|ae|⟨_,ai⟩
 ·exact bZ O I (fun he=>V he.symm) E rfl
 ·obtain⟨ag,ah⟩:=b1 O E;omega
 ·exact ai E
theorem im.ext {w w':x5} {B g:Nat} {v:x4} {sizes:List Int} {L:List ej} (h:im w B g v sizes L) (E:Ext w w'):im w' B g v sizes L:=⟨h.1.ext E,fun x I=>⟨(h.2.1 x I).1.ext E,(h.2.1 x I).2⟩,h.2.2⟩
section
variable {α:Type} {f:α→List x4} {k:Nat} {P:X5} {w:x5} {e:o6} {g:Nat} {v:x4} {L:List α}
theorem FZ {M:List α} (h:aZ f k e w g v L) (E:L.map f=M.map f):aZ f k e w g v M:=by
 have I:L.length=M.length:=by have:=congrArg V4 E;simpa using this
 have hm:L.flatMap f=M.flatMap f:=by rw[List.flatMap_def,List.flatMap_def,E]
 refine⟨by rw[←I,←hm];exact h.1,fun a J=>?_⟩;obtain⟨b,O,he⟩:=l9.1 (show f a∈L.map f by rw[E];exact l9.2 ⟨a,J,rfl⟩);rw[←he];exact h.2 b O
theorem zc {t:o6} {b l h':Nat} {z:x4} {low high:Option x4} {K:x4→Prop} (U:P.underlying t=some (.slice e)) (hi:aJ P e k b z) (h:aZ f k e w g v L) (h1:jB low l) (V:jC high L.length h') (J:l≤h') (W:h'≤L.length)
  (X:∀ O,(∀ w',aZ f k e w' g v L→b7 w' k O ((L.drop l).take (h'-l)).length (((L.drop l).take (h'-l)).flatMap f))→K O):I P (j4 t v low high none) w K:=by
 have Y:=h.sl;obtain⟨_,aa,o,base,cap,rfl,ab,_⟩:=Y;rw[gy U hi h1 V eU J (by omega) (o7 _)];refine X _ fun w' E=>?_;have:=b7.part (l:=l) (h:=h') (m:=cap) E.sl J W (by omega) (o7 _);rw[rB l E.2,pU (h'-l) (fun a Z=>E.2 a (List.mem_of_mem_drop Z))] at this;have el:((L.drop l).take (h'-l)).length=h'-l:=by rw[l7,List.length_drop];omega
 rw[el];exact this
theorem ut {t ag:o6} {b:Nat} {z x:x4} {M:List α} {K:x4→x5→Prop} (V:P.underlying t=some (.slice e)) (hi:aJ P e k b z) (ab:z.cells.size=k) (h:aZ f k e w g v L) (ac:b7 w k x M.length (M.flatMap f)) (ah:∀ a∈M,(f a).length=k) (h1:∀ a∈M,∀ u∈f a,u.oneCell'=true)
  (W:(L.length+M.length)*b≤140737488355328) (ad:L.length+M.length≤9223372036854775807)
  (ae:∀ E I w',aZ f k e w' I E (L++M)→(∀ r,leadsTo E r→leadsTo v r∨w.heap.size≤r)→am (fun r=>leadsTo v r) w w'→K E w'):aa P (r8 #[t,t] ag #[v,x]) w K:=by
 have af:∀ u∈M.flatMap f,u.oneCell'=true:=fun u hu=>by
  obtain⟨a,ai,hu⟩:=List.mem_flatMap.1 hu;exact h1 a ai u hu
 have X:∀ E I w',bR w' I e k E (L.length+M.length) (L.flatMap f++M.flatMap f)→aZ f k e w' I E (L++M):=fun E I w' hm=>⟨by simpa using hm,fun b W=>by
  rcases n9.1 W with h'|h'
  ·exact h.2 b h'
  ·exact ah b h'⟩
 rcases h.1.2 with⟨J,aj⟩|⟨cap,cs,J,ak,_⟩
 ·have hm:bR w w.heap.size e k v L.length (L.flatMap f):=⟨h.1.1,.inl ⟨J,aj⟩⟩;subst J;refine lu V V hi ab hm ac af (by simpa using W) (by simpa[maxLen] using ad) fun E I w' Y O Z=>ae E I w' (X _ _ _ O) (fun r U=>.inr ?_) (Z.mono fun r U h=>by omega);have:=((X _ _ _ O).leads U).1;omega
 ·refine lu V V hi ab h.1 ac af (by simpa using W) (by simpa[maxLen] using ad) fun E I w' Y O Z=>ae E I w' (X _ _ _ O) (fun r U=>?_) (Z.mono fun r U h=>⟨_,_,_,J,h.symm⟩);have:=((X _ _ _ O).leads U).1;rcases Y with Y|Y
  ·exact .inl ⟨_,_,_,J,by show g=r;omega⟩
  ·exact .inr (by omega)
theorem F0 {t:o6} {b:Nat} {z:x4} {K:x4→x5→Prop} (E:P.underlying t=some (.slice e)) (hi:aJ P e k b z)
  (I:∀ v g w',g=w.heap.size→Ext w w'→aZ f k e w' g v []→K v w'):aa P (u9 t 0 #[]) w K:=
 hZ E hi (by omega) (cs:=#[]) (by simp[Instr.fill]) fun g w' J O U=>by
  exact I _ g w' J O ⟨by simpa using bR.full (k:=k) (n:=0) U (by simp) (by simp[maxLen]),fun c V=>by cases V⟩
end
theorem sb {α:Type} {A B:List α} {s:Nat} {a:α} (I:s<B.length) (E:A[s]? =some a):(A.take s++B.drop s).set s a=A.take (s+1)++B.drop (s+1):=by
 have J:=(u4.1 E).1;have h1:(A.take s).length=s:=by rw[l7];omega
 rw[T2 _ _ (by omega),h1,W7,X2 I,List.set_cons_zero,o4,E,c8,V0];rfl
theorem zd {α:Type} {A B:List α} {s:Nat} (E:s≤A.length):(A.take s++B.drop s)[s]? =B[s]?:=by
 have h1:(A.take s).length=s:=by rw[l7];omega
 rw[Y3 (by omega),h1,W7,List.getElem?_drop,Nat.add_zero]
theorem ze {g:cg}:∀ {l:List cg} {i:Nat},(∀ p<i,∀ x,l[p]? =some x→cD x.1<cD g.1)→i≤l.length→(∀ x,l[i]? =some x→¬cD x.1<cD g.1)→fF g l=l.take i++g::l.drop i
 |[],i,_,E,_=>by
  have:i=0:=by simpa using E
  subst this;rfl
 |x::l,0,_,_,I=>by
  unfold fF;rw[if_neg (I x rfl)];rfl
 |x::l,i+1,h1,E,I=>by
  unfold fF;rw[if_pos (h1 0 (by omega) x rfl),ze (i:=i) (fun p O y J=>h1 (p+1) (by omega) y J) (by simpa using E) (fun y J=>I y J)];rfl
theorem F1 {w:x5} {B g:Nat} {v:x4} {sizes:List Int} {L:List ej} {h:ej} {j s:Nat} {n:Int} {K:Unit→x5→Prop} (E:im w B g v sizes L) (Y:L[j]? =some h) (U:s<h.cs.length)
  (av:∀ w',am (fun r=>leads h.aO r) w w'→(∀ r,leads h.aO r→ ∃ c,ak w r af c)→im w' B g v sizes (L.set j {h with cs:=h.cs.set s n})→K () w'):
  I y0 (x7 ae h.aO (.int .i64 (s:Int))) w fun t=>aa y0 (x6 af t (.int .i64 n)) w K:=by
 obtain⟨h1,ai,aj,aw⟩:=E;have ag:=(u4.1 Y).1;obtain⟨al,ax⟩:=ai h (u5 Y);obtain⟨_,_,ao,Z⟩:=id al;have ab:∀ r,leads h.aO r→ ∃ c,ak w r af c:=fun r E=>by
  obtain⟨rfl,_⟩:=b1 Z E;obtain⟨_,⟨ay,_⟩|⟨cap,full,_,V,_⟩⟩:=Z
  ·obtain⟨a,n,c,e,_⟩:=E;rw[ay] at e;cases e
  ·exact⟨_,V⟩
 have az:∀ r,r=ao→leads h.aO r:=fun r he=>by
  subst he;obtain⟨_,⟨_,aP⟩|⟨cap,full,e,V,_⟩⟩:=Z
  ·omega
  ·exact⟨_,_,_,e,rfl⟩
 rw[gY rfl ae.u af.i Z U];refine gZ af.i Z U fun w' W aQ aA=>?_;have W:=W.mono (T:=fun r=>leads h.aO r) fun r _ he=>az r he;refine av w' W ab ⟨?_,fun x O=>?_,fun p q x y O aB aC r aD aE=>?_,aw⟩
 ·refine FZ (h1.ad W fun r E U=>?_) ?_
  ·obtain⟨c,V⟩:=ab r U;exact cn h1 V (by decide) E
  ·rw[List.map_set];symm;refine W0 fun p=>?_;rw[X8,r9];by_cases J:j=p
   ·subst J;rw[if_pos rfl,if_pos (by simpa using ag),Y];rfl
   ·rw[if_neg J]
 ·have aF:x={h with cs:=h.cs.set s n}∨ ∃ p,p≠j∧L[p]? =some x:=by
   obtain⟨p,J⟩:=X1.1 O;rw[X8] at J;by_cases X:j=p
   ·subst X;rw[if_pos rfl,if_pos ag] at J;exact .inl (Z2 J).symm
   ·rw[if_neg X] at J;exact .inr ⟨p,fun h=>X h.symm,J⟩
  rcases aF with rfl|⟨p,aG,J⟩
  ·obtain⟨⟨aH,ap⟩,⟨aI,aq⟩,_⟩:=al;refine⟨⟨⟨aH,br ap W fun r E U=>?_⟩,⟨aI,br aq W fun r E U=>?_⟩,ao,aA⟩,ax⟩
   ·obtain⟨c,V⟩:=ab r U;exact bZ ap V (by decide) E rfl
   ·obtain⟨c,V⟩:=ab r U;exact bZ aq V (by decide) E rfl
  ·obtain⟨aJ,aK⟩:=ai x (u5 J);refine⟨jT aJ W fun r E=>.inr (.inr ⟨ab r E,fun ah=>aj p j x h J Y aG r ah E⟩),aK⟩
 ·have au:∀ {p:Nat} {x:ej},(L.set j {h with cs:=h.cs.set s n})[p]? =some x→ ∃ ac,L[p]? =some ac∧ac.aO=x.aO:=fun {p x} O=>by
   rw[X8] at O;by_cases X:j=p
   ·subst X;rw[if_pos rfl,if_pos ag] at O;cases O;exact⟨h,Y,rfl⟩
   ·rw[if_neg X] at O;exact⟨x,O,rfl⟩
  obtain⟨ac,ah,ex⟩:=au O;obtain⟨aL,aM,aN⟩:=au aB;exact aj p q ac aL ah aM aC r (by rw[ex];exact aD) (by rw[aN];exact aE)
def i9 (f:bW) (j:Nat):List cg:=(((eu f).take j).filter eC).foldl (fun l g=>fF g l) []
theorem zf {f:bW} {j:Nat} {x:cg} (h:(eu f)[j]? =some x):i9 f (j+1)=if eC x then fF x (i9 f j) else i9 f j:=by
 unfold i9;rw[o4,h,c8,List.filter_append,List.foldl_append];cases E:eC x with
 |true=>rw[List.filter_cons_of_pos E];rfl
 |false=>rw[List.filter_cons_of_neg (by simp[E])];rfl
theorem F2 (f:bW):i9 f (eu f).length=eD f:=by unfold i9 eD;rw[l5]
theorem zg (g:cg):∀ l,(fF g l).length=l.length+1
 |[]=>rfl
 |h::l=>by
  unfold fF;split
  ·rw[j9,zg g l,j9]
  ·rfl
theorem F3 {f:bW} {j:Nat} (I:j≤(eu f).length):(i9 f j).length≤j:=by
 induction j with
 |zero=>simp[i9]
 |succ j E=>
  have:=E (by omega);rw[zf (x:=(eu f)[j]) (x3 (by omega))];split
  ·rw[zg];omega
  ·omega
set_option maxHeartbeats 4000000 in
theorem F4 {w:x5} {N B g:Nat} {l:x4} {f:bW} {L:List ej} {Q:x4→x5→Prop} (aX:eh N f) (W:im w B g l f.sizes L) (aY:L.map cW=eu f)
  (b8:∀ out w' go V,Ext w w'→aZ cE 3 aE w' go out V→(∀ h∈V,h∈L)→(∀ h∈V,dL w' f.sizes h)→V.map cW=eD f→(∀ r,leadsTo out r→w.heap.size≤r)→Q out w'):
  I y0 (u6 #[bo] J #[l]) w fun ca=>
 ba (.slice none 0 0) (.int .i64 0) w fun out a1 ap cb=>
  I y0 (U .lss J false false a1 ca) ap fun cc=>
  Split cc (aB (α:=x4→x5→Prop) (fun(cd:x4) (aq:x5)=>
   I y0 (U .add J false true a1 (.int .i64 1)) aq fun ce=>
   cb cd ce aq) fun bA=>
  I y0 (x7 bo l a1) ap fun cg=>
  I y0 (x1 aE cg) ap fun ch=>
  aa y0 (n0 aE true (.tuple #[])) ap fun aJ bB=>
  aa y0 (x6 aE aJ ch) bB fun(_:Unit) ak=>
  I y0 (x2 aE aJ 2) ak fun ci=>
  I y0 (x1 ae ci) ak fun bC=>
  I y0 (u6 #[ae] J #[bC]) ak fun cj=>
  ba (.bool false) (.int .i64 0) ak fun bD a2 X ck=>
   I y0 (U .lss J false false a2 cj) X fun cl=>
   Split cl (aB (α:=x4→x5→Prop) (fun(cm:x4) (ay:x5)=>
    I y0 (U .add J false true a2 (.int .i64 1)) ay fun cn=>
    ck cm cn ay) fun bE=>
   I y0 (x7 ae bC a2) X fun cp=>
   I y0 (x1 af cp) X fun cq=>
   Split bD (bE (.bool true) X)
    (I y0 (U .gtr af false true cq (.int .i64 0)) X fun cr=>
   bE cr X))
    (I y0 (Z4 .not bD) X fun ct=>
  Split ct (bA out X)
   (bd (.int .i64 0) X fun i aK cu=>
   aB (α:=x4→x5→Prop) (fun(cw:x4) (av:x5)=>
    Split cw (I y0 (U .add J false true i (.int .i64 1)) av fun cz=>
   cu cz av)
     (aS av fun Z=>
  I y0 (x1 aE aJ) Z fun cA=>
  I y0 (j4 bo out (some i) none none) Z fun bF=>
  aa y0 (u9 bo 1 #[(0,cA)]) Z fun cB az=>
   (Ext Z az∨ai y0 (j4 bo out (some i) none none) bF az∧True)∧
  aa y0 (r8 #[bo,bo] bo #[cB,bF]) az fun cC a6=>
   aa y0 (u9 bo 0 #[]) a6 fun cF aM=>
  I y0 (j4 bo out none (some i) none) aM fun cG=>
  aa y0 (r8 #[bo,bo] bo #[cF,cG]) aM fun cH a7=>
  aa y0 (r8 #[bo,bo] bo #[cH,cC]) a7 fun cI a8=>
  bA cI a8)) fun bG=>
   aS aK fun ab=>
   I y0 (u6 #[bo] J #[out]) ab fun cJ=>
   I y0 (U .lss J false false i cJ) ab fun cK=>
   Split cK (I y0 (x7 bo out i) ab fun cL=>
   I y0 (x1 aE cL) ab fun cM=>
   I y0 (x1 aE aJ) ab fun cN=>
   O y0 mH [cM,cN] ab fun cO bH=>
    bG cO bH)
    (bG (.bool false) ab))))
   (Q out ap):=by
 have cP:L.length=(eu f).length:=by rw[←aY,o3]
 have dx:L.length≤256:=by have:=(iT aX).2.2;have:=aX.iN;omega
 have bI:=(iT aX).1;rw[eb bo.u W.1];refine ba.range L.length (fun j out bb=>∃ go V,Ext w bb∧aZ cE 3 aE bb go out V∧(∀ h∈V,h∈L)∧V.map cW=i9 f j∧ ∀ r,leadsTo out r→w.heap.size≤r) W.1.le
  ⟨0,[],Ext.refl _,aZ.nil _ _ _ _ _,fun h ac=>(by cases ac),rfl,fun r W=>(dI W).elim⟩ ?_ ?_
 rotate_left
 ·rintro out bb cQ ⟨go,V,bJ,aA,am,aC,bc⟩;rw[au,ag];refine⟨fun h=>by omega,fun _=>b8 _ _ go V bJ aA am (fun h ac=>((W.ext bJ).2.1 h (am h ac)).1) ?_ bc⟩;rw[aC,cP,F2]
 rintro j out ap cQ bK ⟨go,V,aN,aA,am,aC,bc⟩ cR;obtain⟨h,ac⟩:∃ h,L[j]? =some h:=⟨_,x3 bK⟩;have hm:(eu f)[j]? =some (cW h):=by rw[←aY,r9,ac];rfl
 have cS:=bI _ (u5 hm);have dy:V.length≤256:=by
  have:=F3 (f:=f) (j:=j) (by omega);rw[←aC,o3] at this;omega
 have aD:=W.ext aN;obtain⟨be,_⟩:=aD.2.1 h (u5 ac);obtain⟨_,_,dz,cU⟩:=id be;rw[au,ag];refine⟨fun _=>?_,fun h=>by omega⟩;refine aV (fun bf aq=>∃ bg aF,Ext w aq∧aZ cE 3 aE aq bg bf aF∧(∀ h∈aF,h∈L)∧aF.map cW=i9 f (j+1)∧ ∀ r,leadsTo bf r→w.heap.size≤r) ?_ ?_
 ·rintro bf aq ⟨bg,aF,h1,cV,cX,cY,cZ⟩;rw[aL];exact cR _ _ ⟨bg,aF,h1,cV,cX,cY,cZ⟩
 intro c0 aG;rw[cT rfl bo.u aE.i aD.1 bK,bN aE.p aE.i rfl (aD.1.range ac)];refine bU aE.i fun bh bB dA c1 c2=>?_;refine b9 (vs:=cE h) aE.i rfl rfl be.one c2 fun ak c3 dB bL=>?_;have bM:Ext ap ak:=c1.then c3 fun r W he=>by have he:r=bh:=he;omega
 have bi:=cU.ext bM;rw[ah aE.p rfl,al (v:=h.aO) (by kernel_rfl) (bL.cell (o:=0+2) rfl),aQ ae.u bi.ls];refine ba.range h.cs.length (fun q sv X=>Ext ak X∧sv= .bool ((h.cs.take q).any fun c=>decide (0<c))) bi.ls.le ⟨Ext.refl _,rfl⟩ ?_ ?_
 ·rintro q _ X c4 c5 ⟨aw,rfl⟩ c6;obtain⟨c,bO⟩:∃ c,h.cs[q]? =some c:=⟨_,x3 c5⟩;have e:(h.cs.take (q+1)).any (fun c=>decide (0<c))=((h.cs.take q).any (fun c=>decide (0<c))||decide (0<c)):=by
   rw[o4,bO,c8,List.any_append];simp
  rw[au,ag];refine⟨fun _=>?_,fun h=>by omega⟩;refine aV (fun sv ay=>Ext ak ay∧sv= .bool ((h.cs.take (q+1)).any fun c=>decide (0<c))) ?_ ?_
  ·rintro _ ay ⟨c7,rfl⟩;rw[aL];exact c6 _ _ ⟨c7,rfl⟩
  intro c0 aG;rw[bw ae.u af.i (by kernel_rfl) (bi.ext aw).ls bO,cv];refine⟨fun c9=>aG _ _ ⟨aw,by rw[e,c9];rfl⟩,fun da=>?_⟩;rw[bT];exact aG _ _ ⟨aw,by rw[e,da];rfl⟩
 rintro _ X c4 ⟨aw,rfl⟩;have bP:=bL.ext aw;have ao:=bM.trans aw;rw[l5,au,ag];refine⟨fun h=>by omega,fun _=>?_⟩;rw[b4,cv];have aP:=zf hm;have db:(h.cs.any fun c=>decide (0<c))=eC (cW h):=rfl;rw[db];refine⟨fun bj=>?_,fun aH=>?_⟩
 ·have bj:eC (cW h)=false:=by simpa using bj
  rw[bj] at aP;exact aG _ _ ⟨go,V,aN.trans ao,aA.ext ao,am,by rw[aC,aP];rfl,bc⟩
 have aH:eC (cW h)=true:=by simpa using aH
 rw[aH,if_pos rfl] at aP;refine⟨fun bk aK=>∃ i:Nat,bk= .int .i64 (i:Int)∧i≤V.length∧Ext X aK∧ ∀ p<i,∀ x,V[p]? =some x→cD x.sc<cD h.sc,fun bk _=>V.length-(bQ bk).toNat,⟨0,rfl,Y1 _,Ext.refl _,fun p bl=>by omega⟩,?_⟩;rintro _ aK ⟨i,rfl,hi,dc,bn⟩;refine aV (fun bR av=>Ext X av∧((bR= .bool true∧i<V.length∧ ∀ x,V[i]? =some x→cD x.sc<cD h.sc)∨(bR= .bool false∧ ∀ x,V[i]? =some x→¬cD x.sc<cD h.sc))) ?_ ?_
 rotate_left
 ·intro dC bp;intro ab dd _ _;have ax:=dc.trans dd;have bq:=aA.ext (ao.trans ax);rw[eb bo.u bq,au,ag];refine⟨fun bn=>?_,fun dD=>bp _ _ ⟨ax,.inr ⟨rfl,fun x E=>absurd (u4.1 E).1 (by omega)⟩⟩⟩;obtain⟨x,E⟩:∃ x,V[i]? =some x:=⟨_,x3 (by omega)⟩;have bS:=am x (u5 E);have de:hz x.sc:=(bI (cW x) (by rw[←aY];exact l9.2 ⟨x,bS,rfl⟩)).scope;have bV:=aD.ext (ao.trans ax);rw[cT rfl bo.u aE.i bq (by omega),bN aE.p aE.i rfl (bq.range E),bN aE.p aE.i rfl (show ab.rangeAt bh 0 (cE h) from (bP.ext ax).range)];refine (FY (bV.2.1 x bS).1 (bV.2.1 h (u5 ac)).1 de cS.scope).mono ?_;rintro _ bH _ ⟨rfl,bX⟩;by_cases aR:cD x.sc<cD h.sc
  ·rw[decide_eq_true aR];exact bp _ _ ⟨ax.trans bX,.inl ⟨rfl,by omega,fun y Y=>by rw[E] at Y;cases Y;exact aR⟩⟩
  ·rw[decide_eq_false aR];exact bp _ _ ⟨ax.trans bX,.inr ⟨rfl,fun y Y=>by rw[E] at Y;cases Y;exact aR⟩⟩
 rintro _ av ⟨bY,⟨rfl,dE,df⟩|⟨rfl,dg⟩⟩
 ·rw[bm,aL,wrap_i64 (by omega) (by omega)];refine⟨⟨i+1,rfl,by omega,bY,fun p bl x E=>?_⟩,by simp only[bQ];omega⟩;by_cases dh:p=i
  ·subst dh;exact df x E
  ·exact bn p (by omega) x E
 ·rw[aU];intro Z di _ _;have aI:=bY.trans di;have aT:=aA.ext (ao.trans aI);have dj:=aD.ext (ao.trans aI);have br:∀ x∈V,∀ u∈cE x,u.oneCell'=true:=fun x E=>(dj.2.1 x (am x E)).1.one;have dk:∀ u∈cE h,u.oneCell'=true:=be.one;rw[bN aE.p aE.i rfl (show Z.rangeAt bh 0 (cE h) from (bP.ext aI).range)];refine zc (h':=V.length) bo.u aE.i aT (lp i _ rfl) hY hi (o7 _) fun dF bZ=>?_;refine fa (f:=cE) (k:=3) (a:=h) bo.u aE.i (by omega) rfl rfl fun dG dH az dJ bt b1=>?_;refine⟨.inl bt,?_⟩;have dl:(V.drop i).take (V.length-i)=V.drop i:=Z1 (by rw[List.length_drop];omega);rw[dl] at bZ;refine ut (M:=V.drop i) bo.u aE.i rfl b1 (bZ az (aT.ext bt)) (fun _ _=>rfl) (fun a aj=>br a (List.mem_of_mem_drop aj)) (by simp;omega) (by simp;omega) fun dK dM a6 bu dN dm=>?_;have b2:Ext Z a6:=bt.then dm fun r W he=>by have:=(b1.leads he).1;omega
  refine F0 (f:=cE) (k:=3) bo.u aE.i fun dO dP aM dQ bx aW=>?_;have bz:=b2.trans bx;refine zc (h':=i) bo.u aE.i (aT.ext bz) hX (lq i _ rfl) (Y1 _) hi fun dR b3=>?_;rw[List.drop_zero,Nat.sub_zero] at b3;refine ut (M:=V.take i) bo.u aE.i rfl aW (b3 aM (aT.ext bz)) (fun _ _=>rfl) (fun a aj=>br a (List.mem_of_mem_take aj)) (by simp;omega) (by simp;omega) fun dn dS a7 dp dq b5=>?_;have dT:=b2.size;have dU:=bx.size;have dr:=(bu.ext bx).ad b5 fun r W aH=>by have:=(bu.leads W).1;have:=(bu.leads W).2;have:=(aW.leads aH).1;omega
  refine ut (M:=[h]++V.drop i) bo.u aE.i rfl dp dr.sl (fun _ _=>rfl) (fun a aj=>?_) (by simp;omega) (by simp;omega) fun dV ds a8 dt du dv=>?_
  ·rcases n9.1 aj with aj|aj
   ·rw[o9.1 aj];exact dk
   ·exact br a (List.mem_of_mem_drop aj)
  have b6:Ext Z a7:=bz.then b5 fun r W he=>by have:=(aW.leads he).1;omega
  have b7:∀ r,leadsTo dn r→Z.heap.size≤r:=fun r W=>(dq r W).elim (fun h=>by have:=(aW.leads h).1;omega) fun h=>by omega
  have dw:Ext Z a8:=b6.then dv fun r W he=>by have:=b7 r he;omega
  have dW:=(aN.trans (ao.trans aI)).size;have dX:=b6.size;refine aG _ _ ⟨ds,_,(aN.trans (ao.trans aI)).trans dw,dt,fun x E=>?_,?_,fun r W=>(du r W).elim (fun h=>by have:=b7 r h;omega) fun h=>by omega⟩
  ·rcases n9.1 E with E|E
   ·exact am x (List.mem_of_mem_take (by simpa using E))
   ·rcases n9.1 E with E|E
    ·rw[o9.1 E];exact u5 ac
    ·exact am x (List.mem_of_mem_drop E)
  ·rw[aP,←aC,ze (i:=i) (fun p bl x E=>?_) (by simpa using hi) (fun x E=>?_)]
   ·simp
   ·rw[r9] at E;cases Y:V[p]? with
    |none=>rw[Y] at E;cases E
    |some y=>rw[Y] at E;cases E;exact bn p bl y Y
   ·rw[r9] at E;cases Y:V[i]? with
    |none=>rw[Y] at E;cases E
    |some y=>rw[Y] at E;cases E;exact dg y Y
def F5 (w:x5) (f:bW) (v:x4) (w':x5):Prop:=Ext w w'∧ ∃ go E,aZ cE 3 aE w' go v E∧(∀ h∈E,dL w' f.sizes h∧ ∀ r,leads h.aO r→w.heap.size≤r)∧E.map cW=eD f∧ ∀ r,leadsTo v r→w.heap.size≤r
def ja (k:Int) (sc cs:List Int) (h:cg):cg:=if h.1=sc then (h.1,dh k h.2 cs) else h
set_option maxHeartbeats 8000000 in
theorem F6 {N:Nat} {w:x5} {bQ:Nat} {f:bW} (cO:lW w bQ f) (ai:eh N f):O y0 oo [.pointer (some ⟨bQ,0,none⟩)] w (F5 w f):=by
 have dS:=ai.k;obtain⟨aw,dT,aK,dU,bf,bR,cP⟩:=id cO;obtain⟨bS,bg,cQ,cR⟩:=id cP;apply oo.enter;rw[az,ah b3.p rfl,al (by kernel_rfl) (bf.cell (o:=0+3) rfl),eb bY.u bg];refine ba.range bS.length (fun i l W=>∃ g L,Ext w W∧im W w.heap.size g l f.sizes L∧L.map cW=dR f i) bg.le
  ⟨0,[],Ext.refl _,⟨aZ.nil _ _ _ _ _,fun h X=>(by cases X),fun i j x y bh=>(by simp at bh),fun r E=>(dI E).elim⟩,rfl⟩ ?_ ?_
 rotate_left
 ·rintro l W cS ⟨g,L,aj,E,am⟩;rw[←cQ,yD] at am;rw[au,ag];refine⟨fun h=>by omega,fun _=>F4 ai E am fun out w' go cU bh bi cV ao cX cY=>?_⟩;have cZ:=aj.size;exact⟨aj.trans bh,go,cU,bi,fun h X=>⟨ao h X,(E.2.1 h (cV h X)).2⟩,cX,fun r E=>by have:=cY r E;omega⟩
 rintro i l W cS hi ⟨g,L,aj,E,am⟩ c0;obtain⟨bj,bT⟩:∃ d,bS[i]? =some d:=⟨_,x3 hi⟩;obtain⟨x,bk⟩:∃ x,f.funs[i]? =some x:=⟨_,x3 (by omega)⟩;have bl:=u5 bk;have bm:=cR i bj x bT bk;have bV:=nn ai bl;obtain⟨c1,dV,dX⟩:=yC ai i;have bX:L.length=(dR f i).length:=by rw[←am,o3]
 have dY:=ai.iN;have bZ:=bg.ext aj;rw[au,ag];refine⟨fun _=>?_,fun h=>by omega⟩;refine aV (fun l' bn=>∃ g L,Ext w bn∧im bn w.heap.size g l' f.sizes L∧L.map cW=dR f (i+1)) ?_ ?_
 ·rintro l' bn bp;rw[aL];exact c0 _ _ bp
 intro dZ b2;rw[cT rfl bY.u aF.i bZ hi,bN aF.p aF.i rfl (bZ.range bT)];refine bU aF.i fun aP ea ec c2 c3=>?_;refine b9 (vs:=dW bj) aF.i rfl rfl bm.one c3 fun c4 c5 ed c6=>?_;have b5:Ext W c4:=c2.then c5 fun r E he=>by have he:r=aP:=he;omega
 have ee:=b5.size;refine aV (fun c7 aM=>∃ U c,c7= .pointer (some ⟨U,0,none⟩)∧Ext W aM∧ak aM U aE (cE c)∧c.sc=be x.scope∧c.cs=(fP f.sizes f.k x).2∧dL aM f.sizes c∧W.heap.size≤U∧ ∀ r,leads c.aO r→W.heap.size≤r) ?_ ?_
 rotate_left
 ·intro ef b6;intro c9 b7 _ _;have aN:=b5.trans b7;have aR:=aj.trans aN;have da:=c6.ext b7;have b8:=bf.ext aR;have eg:=aN.size;rw[bN aF.p aF.i rfl (show c9.rangeAt aP 0 (dW bj) from da.range),az,ah b3.p rfl,al (v:=aw) (by kernel_rfl) (b8.cell (o:=0+2) rfl),az,ah b3.p rfl,al (v:=.int .i64 f.k) (by kernel_rfl) (b8.cell (o:=0+1) rfl)];refine⟨?_,?_⟩
  ·refine (za (bm.ext aR) ai bl (bR.ext aR)).mono ?_;rintro _ ei _ ⟨bq,c,rfl,h1,br,ao,aa⟩;refine bU aE.i fun U ek ca bt aS=>?_;refine⟨.inl (bq.trans bt),?_⟩;refine b9 (vs:=cE c) aE.i rfl rfl ao.one aS fun em cc en db=>?_;have eo:=bq.size;refine b6 _ _ ⟨U,c,rfl,(aN.trans bq).trans (bt.then cc fun r E he=>by have he:r=U:=he;omega),db,h1,br,?_,by omega,fun r E=>by have:=aa r E;omega⟩;exact jT (ao.ext bt) cc fun r E=>.inl ⟨_,_,by have E:r=U:=E;subst E;exact aS,by decide,by decide⟩
  ·refine bU aE.i fun U ep ca aT aS=>?_;refine⟨.inl aT,?_⟩;have cd:=aR.trans aT;refine (za (bm.ext cd) ai bl (bR.ext cd)).mono ?_;rintro _ er _ ⟨ce,c,rfl,h1,br,ao,aa⟩;have cg:=aS.ext ce;have es:=aT.size;refine b9 (vs:=cE c) aE.i rfl rfl ao.one cg fun et ch eu dc=>?_;refine b6 _ _ ⟨U,c,rfl,aN.trans ((aT.trans ce).then ch fun r E he=>by have he:r=U:=he;omega),dc,h1,br,?_,by omega,fun r E=>by have:=aa r E;omega⟩;exact jT ao ch fun r E=>.inl ⟨_,_,by have E:r=U:=E;subst E;exact cg,by decide,by decide⟩
 rintro _ aM ⟨U,c,rfl,bu,dd,aB,aU,de,ca,aa⟩;have ci:=E.ext bu;have df:∀ h∈L,∀ r,leads h.aO r→r<W.heap.size:=fun h X r dg=>by
  obtain⟨⟨_,_,di,cj⟩,_⟩:=E.2.1 h X;have:=b1 cj dg;omega
 have dj:∀ {j:Nat},decide (c.sc∈(L.take j).map (·.sc))=decide (be x.scope∈((dR f i).take j).map (·.1)):=fun {j}=>by
  rw[aB,←am,←List.map_take,List.map_map];rfl
 have cZ:=aj.size;rw[eb bo.u ci.1];refine ba.range L.length (fun j aK ab=>∃ I,aK= .bool (decide (c.sc∈(L.take j).map (·.sc)))∧Ext w ab∧W.heap.size≤ab.heap.size∧im ab w.heap.size g l f.sizes I∧I.map cW=((dR f i).map (ja f.k c.sc c.cs)).take j++(dR f i).drop j∧ak ab U aE (cE c)∧dL ab f.sizes c∧ ∀ h∈I,∀ r,leads h.aO r→r<W.heap.size) E.1.le
  ⟨L,by simp,aj.trans bu,bu.size,ci,by simpa using am,dd,de,df⟩ ?_ ?_
 ·rintro j _ ab dk ck ⟨I,rfl,aC,dl,aW,Z,bx,bz,ap⟩ dm;have dn:I.length=L.length:=by
   have:=congrArg V4 Z;simp only[o3,o5,l7,List.length_drop] at this;omega
  obtain⟨h,X⟩:∃ h,I[j]? =some h:=⟨_,x3 (by omega)⟩;have aX:(dR f i)[j]? =some (cW h):=by
   have cl:(I.map cW)[j]? =some (cW h):=by rw[r9,X];rfl
   rw[Z,zd (by rw[o3];omega)] at cl;exact cl
  have aY:((dR f i).map (ja f.k c.sc c.cs))[j]? =some (ja f.k c.sc c.cs (cW h)):=by rw[r9,aX];rfl
  have dp:∃ y,L[j]? =some y∧y.sc=h.sc:=by
   refine⟨_,x3 ck,?_⟩;rw[←am,r9,x3 ck] at aX;exact congrArg Prod.fst (Z2 aX)
  obtain⟨y,Y,dq⟩:=dp;have bA:(c.sc∈(L.take (j+1)).map (·.sc))↔c.sc∈(L.take j).map (·.sc)∨h.sc=c.sc:=by
   rw[o4,Y,c8,j0,n9,List.map_singleton,o9,dq];exact or_congr Iff.rfl ⟨fun e=>e.symm,fun e=>e.symm⟩
  have cm:eG f.sizes f.k (cW h):=c1 _ (u5 aX);rw[au,ag];refine⟨fun _=>?_,fun h=>by omega⟩;refine aV (fun aK ac=>∃ I,aK= .bool (decide (c.sc∈(L.take (j+1)).map (·.sc)))∧Ext w ac∧W.heap.size≤ac.heap.size∧im ac w.heap.size g l f.sizes I∧I.map cW=((dR f i).map (ja f.k c.sc c.cs)).take (j+1)++(dR f i).drop (j+1)∧ak ac U aE (cE c)∧dL ac f.sizes c∧ ∀ h∈I,∀ r,leads h.aO r→r<W.heap.size) ?_ ?_
  ·rintro ev ac bp;rw[aL];exact dm _ _ bp
  intro fk cn;intro dr aD _ _;have a1:=aW.ext aD;have cp:=bx.ext aD;have cq:=bz.ext aD;obtain⟨dt,ew⟩:=a1.2.1 h (u5 X);obtain⟨⟨ey,h1⟩,_,di,cj⟩:=id dt;obtain⟨⟨ez,du⟩,_,eA,cr⟩:=id cq;rw[cT rfl bo.u aE.i a1.1 (by omega),ah aE.p rfl,al (v:=h.a7) (by kernel_rfl) (a1.1.range X 0 _ rfl),ah aE.p rfl,al (v:=c.a7) (by kernel_rfl) (cp.cell (o:=0+0) rfl)];refine (BD h1.ls du.ls).mono ?_;rintro _ eB _ ⟨rfl,ax⟩;have ct:=a1.ext ax;have bB:=cp.ext ax;have cu:=cq.ext ax;have cw:=(aC.trans aD).trans ax;have z9:=(aD.trans ax).size;rw[ag];refine⟨fun bC=>?_,fun cz=>?_⟩
  rotate_left
  ·refine cn _ _ ⟨I,?_,cw,by omega,ct,?_,bB,cu,ap⟩
   ·congr 1;exact decide_eq_decide.2 ⟨fun h=>bA.2 (.inl h),fun h=>(bA.1 h).resolve_right cz⟩
   ·have e:ja f.k c.sc c.cs (cW h)=cW h:=if_neg cz;rw[e] at aY;rw[←sb (by omega) aY,←Z];symm;refine W0 fun p=>?_;rw[X8];by_cases aG:j=p
    ·subst aG;rw[if_pos rfl,if_pos (by simp;omega),r9,X];rfl
    ·rw[if_neg aG]
  have dv:h.cs.length=c.cs.length:=by
   have dw:h.cs.length=_:=cm.len;have dx:c.cs.length=(aH (cb f.sizes (fP f.sizes f.k x).1)).toNat:=by rw[aU];exact bV.len
   rw[dw,dx,show (cW h).1=h.sc from rfl,bC,aB];rfl
  have eC:(dh f.k h.cs c.cs).length=h.cs.length:=by unfold dh;rw[List.length_zipWith];omega
  rw[ah aE.p rfl,al (v:=c.aO) (by kernel_rfl) (bB.cell (o:=0+2) rfl),aQ ae.u (cr.ext ax).ls];refine bd.range c.cs.length (fun s aq=>Ext w aq∧W.heap.size≤aq.heap.size∧im aq w.heap.size g l f.sizes (I.set j {h with cs:=(dh f.k h.cs c.cs).take s++h.cs.drop s})∧ak aq U aE (cE c)∧dL aq f.sizes c) cr.ls.le
   ⟨cw,by omega,?_,bB,cu⟩ ?_ ?_
  ·have e:I.set j {h with cs:=(dh f.k h.cs c.cs).take 0++h.cs.drop 0}=I:=by
    refine W0 fun p=>?_;rw[X8];by_cases aG:j=p
    ·subst aG;rw[if_pos rfl,if_pos (by omega),X];rfl
    ·rw[if_neg aG]
   rw[e];exact ct
  ·rintro s aq dy bD ⟨bE,cA,a2,bF,bG⟩ dz;rw[au,ag];refine⟨fun _=>?_,fun h=>by omega⟩;intro eD aI _ _;have ay:=a2.ext aI;have cB:=bF.ext aI;have cC:=bG.ext aI;have cD:=bE.trans aI;have a6:(I.set j {h with cs:=(dh f.k h.cs c.cs).take s++h.cs.drop s})[j]? =some {h with cs:=(dh f.k h.cs c.cs).take s++h.cs.drop s}:=by
    rw[X8,if_pos rfl,if_pos (by omega)]
   have cF:j<(I.set j {h with cs:=(dh f.k h.cs c.cs).take s++h.cs.drop s}).length:=by rw[U1];omega
   obtain⟨⟨_,_,dA,bH⟩,dB⟩:=ay.2.1 _ (u5 a6);obtain⟨_,_,eE,dC⟩:=id cC;obtain⟨a,bI⟩:∃ a,h.cs[s]? =some a:=⟨_,x3 (by omega)⟩;obtain⟨b,aJ⟩:∃ b,c.cs[s]? =some b:=⟨_,x3 bD⟩;have dD:s<({h with cs:=(dh f.k h.cs c.cs).take s++h.cs.drop s}:ej).cs.length:=by show s<((dh f.k h.cs c.cs).take s++h.cs.drop s).length;rw[o5,l7,List.length_drop];omega
   have dE:((dh f.k h.cs c.cs).take s++h.cs.drop s)[s]? =some a:=by rw[zd (by omega)];exact bI
   have bJ:(dh f.k h.cs c.cs)[s]? =some (min (a+b) f.k):=by
    unfold dh;rw[List.getElem?_zipWith,bI,aJ]
   have eF:=cm.ie a (u5 bI);have eH:=bV.ie b (by rw[←aU];exact u5 aJ);have dF:=bf.ext cD;rw[cT rfl bo.u aE.i ay.1 cF,ah aE.p rfl,al (v:=h.aO) (by kernel_rfl) (ay.1.range a6 2 _ rfl),cT rfl bo.u aE.i ay.1 cF,ah aE.p rfl,al (v:=h.aO) (by kernel_rfl) (ay.1.range a6 2 _ rfl),bw ae.u af.i (by kernel_rfl) bH.ls dE,ah aE.p rfl,al (v:=c.aO) (by kernel_rfl) (cB.cell (o:=0+2) rfl),bw ae.u af.i (by kernel_rfl) dC.ls aJ,az,ah b3.p rfl,al (v:=.int .i64 f.k) (by kernel_rfl) (dF.cell (o:=0+1) rfl)];refine (Cb (by omega) (by omega)).mono ?_;rintro _ eI _ ⟨rfl,aA⟩;refine⟨.inl aA,?_⟩;have z12:=(aI.trans aA).size;refine F1 (h:={h with cs:=(dh f.k h.cs c.cs).take s++h.cs.drop s}) (ay.ext aA) a6 dD fun eJ a8 cG bK=>?_;rw[aL];have dG:=cC.ext aA;have cH:=cB.ext aA;have eK:=a8.size;refine dz _ ⟨(cD.trans aA).then a8 fun r E he=>by have:=dB r he;omega,by omega,?_,?_,?_⟩
   ·rw[List.set_set] at bK;have e:=sb (A:=dh f.k h.cs c.cs) (B:=h.cs) (s:=s) (by omega) bJ;simp only[e] at bK;exact bK
   ·exact cH.ad a8 fun bD=>by
     obtain⟨eL,dH⟩:=cG _ bD;exact absurd (eP cH dH) (by decide)
   ·refine jT dG a8 fun r E=>.inr (.inr ⟨cG r E,fun dJ=>?_⟩);have:=aa r dJ;have:=ap h (u5 X) r E;omega
  ·rintro aq dy ⟨bE,cA,a2,bF,bG⟩;rw[au,ag];refine⟨fun h=>by omega,fun _=>?_⟩;have e:(dh f.k h.cs c.cs).take c.cs.length++h.cs.drop c.cs.length=dh f.k h.cs c.cs:=by
    rw[←dv,List.drop_length,U2,Z1 (by omega)]
   simp only[e] at a2;refine cn _ _ ⟨_,?_,bE,cA,a2,?_,bF,bG,fun z V r E=>?_⟩
   ·congr 1;symm;exact decide_eq_true (bA.2 (.inr bC))
   ·have dK:ja f.k c.sc c.cs (cW h)=cW {h with cs:=dh f.k h.cs c.cs}:=if_pos bC;rw[dK] at aY;rw[List.map_set,Z,sb (by omega) aY]
   ·rcases V9 V with V|rfl
    ·exact ap z V r E
    ·exact ap h (u5 X) r E
 rintro _ ab dk ⟨I,rfl,aC,dl,aW,Z,bx,bz,ap⟩;rw[au,ag];refine⟨fun h=>by omega,fun _=>?_⟩;rw[dj,bX,l5,b4,cv];have cI:=tU bk;have bJ:((dR f i).map (ja f.k c.sc c.cs)).take L.length++(dR f i).drop L.length=(dR f i).map (ja f.k c.sc c.cs):=by
  rw[bX,List.drop_length,U2,Z1 (by rw[o3];exact o7 _)]
 rw[bJ] at Z;have dn:I.length=L.length:=by
  have:=congrArg V4 Z;rw[o3,o3] at this;omega
 refine⟨fun bb=>?_,fun bL=>?_⟩
 ·have bb:be x.scope∉(dR f i).map (·.1):=by simpa using bb
  have dM:(dR f i).map (ja f.k c.sc c.cs)=dR f i:=by
   refine (List.map_congr_left fun z V=>?_).trans (List.map_id _);exact if_neg fun he=>bb (l9.2 ⟨z,V,by rw[he,aB]⟩)
  rw[dM] at Z;rw[bN aE.p aE.i rfl (show ab.rangeAt U 0 (cE c) from bx.range)];refine fa (f:=cE) (k:=3) (a:=c) bo.u aE.i (by omega) rfl rfl fun eM dA ac eN bc bH=>?_;have av:=aW.ext bc;have cJ:=bz.ext bc;refine fl (f:=cE) (a:=c) bo.u aE.i rfl av.1 (by simpa using bH.sl) cJ.one (by omega) (by omega) fun eO dN dr bi dO bM=>?_;have cK:∀ r,leadsTo l r→ ∃ e c,ak ac r e c∧e≠J∧e≠af:=fun r E=>by
   obtain⟨rfl,c,aJ⟩:=ds av.1 E;exact⟨_,c,aJ,by decide,by decide⟩
  have eQ:=bc.size;have eR:=aC.size;refine b2 _ _ ⟨dN,I++[c],(aC.trans bc).then bM fun r E he=>by have:=av.2.2.2 r he;omega,⟨bi,fun z V=>?_,fun p q y z Y V dP r bO bP=>?_,fun r E=>(dO r E).elim (av.2.2.2 r) fun h=>by omega⟩,?_⟩
  ·rcases n9.1 V with V|V
   ·exact⟨jT (av.2.1 z V).1 bM fun r E=>.inl (cK r E),(av.2.1 z V).2⟩
   ·rw[o9.1 V];exact⟨jT cJ bM fun r E=>.inl (cK r E),fun r E=>by have:=aa r E;omega⟩
  ·have cL:∀ {p:Nat} {y:ej},(I++[c])[p]? =some y→I[p]? =some y∨(p=I.length∧y=c):=fun {p y} Y=>by
    rw[List.getElem?_append] at Y;split at Y
    ·exact .inl Y
    ·by_cases dQ:p-I.length=0
     ·rw[dQ] at Y;cases Y;exact .inr ⟨by omega,rfl⟩
     ·rw[Z7 (by simp;omega)] at Y;cases Y
   rcases cL Y with cM|⟨eS,rfl⟩ <;> rcases cL V with cN|⟨eq,rfl⟩
   ·exact av.2.2.1 p q y z cM cN dP r bO bP
   ·have:=ap y (u5 cM) r bO;have:=aa r bP;omega
   ·have:=ap z (u5 cN) r bP;have:=aa r bO;omega
   ·omega
  ·rw[j0,Z,cI,yB fun z V he=>bb (l9.2 ⟨z,V,he⟩)];show _++[(c.sc,c.cs)]=_;rw[aB,aU];rfl
 ·have bL:be x.scope∈(dR f i).map (·.1):=by simpa using bL
  refine b2 _ _ ⟨g,I,aC,aW,?_⟩;rw[Z,cI];unfold gg;rw[if_pos (show (fP f.sizes f.k x).1∈_ from bL)];refine List.map_congr_left fun z _=>?_;unfold ja;rw[aB,aU];rfl
end Go.Proofs.YtgbkinibgjmodaaGreatDoor
