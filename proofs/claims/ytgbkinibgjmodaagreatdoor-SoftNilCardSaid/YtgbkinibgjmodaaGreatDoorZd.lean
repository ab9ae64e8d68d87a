/- own texts, made small by a tool (wip/ holds them as they were written): no statement of the seat. -/
import Derived.Test.YtgbkinibgjmodaaGreatDoorZc
set_option linter.unusedVariables false
set_option linter.unusedSimpArgs false
set_option linter.unnecessarySimpa false
open Array renaming getElem?_eq_some_iff→o4,getElem?_toList→V9
open BitVec renaming ofInt→V0
open Bool renaming not_true→Z3,not_false→Y8,and_eq_true→X2,eq_iff_iff→X5,or_eq_false_iff→V7
open Decidable renaming not_not→Z7
open Go renaming Value→x1,World→x2,TypeId→u5,IntKind→r9,Builtin→n0,Program→Y3,Oper→W0,Operand→V5
open Go.Addr renaming add_mid→W5
open Go.Builtin renaming append_→l5,len_→Z8
open Go.Instr renaming loadAt→x7,fieldAt→x8,storeAt→o7,indexAt→j4,buildSlice→j9,extract→c9,sliceAt→Y9
open Go.IntKind renaming i64→X0,u64→X9
open Go.Proofs.Tryz renaming prog→x5
open Go.Result renaming andThen→Z6
open Go.Sem renaming run_bind→Z4,run_pure→Z9
open Go.Sort renaming Holds→V6
open Go.Value renaming int→Y5
open Int renaming toNat_natCast→c8
open List renaming getElem?_eq_getElem→y0,getElem?_eq_some_iff→x3,mem_of_getElem?→x4,getElem?_map→x6,replicate→v8,take_add_one→u4,getD_eq_getElem?_getD→u6,length_map→u7,length_append→r8,mem_singleton→p8,mem_append→p9,take_length→o3,length_take→o5,mem_map→o6,eq_nil_of_length_eq_zero→o8,map_append→o9,length_cons→l6,getElem?_eq_none→c6,getElem?_take_of_lt→c7,take_of_length_le→b6,getElem?_append_left→Z0,getElem?_append_right→Z2,getElem?_set→Y0,range→Y1,drop_eq_getElem_cons→Y2,ext_getElem?→Y4,mem_iff_getElem?→Y6,pairwise_iff_getElem→X3,length_set→X4,length→X7,append_assoc→X8,flatMap_cons→W7,length_eq_one_iff→W8,mem_or_eq_of_mem_set→V2,append_nil→V4,mem_cons→V8,getElem?_set_self→U1,length_singleton→U2
open Nat renaming le_refl→u9,zero_le→Z1,le_trans→Z5,mul_le_mul_right→Y7,sub_self→X6,add_mul→W3,beq→W6,mul_one→W9,zero_add→V3
open Option renaming some→n9,toList_some→l9,map_some→j6,isNone_some→c5,map_eq_some_iff→b8,map→X1
open Option.some renaming inj→j5,injEq→b9
open Prod.mk renaming injEq→V1
namespace Go.Proofs.YtgbkinibgjmodaaGreatDoor
open Go Go.Vc Go.RowKit Go.Proofs Go.Proofs.Tryz
set_option maxRecDepth 100000
theorem xR {w:x2} {gT:Nat} {A:an} {t:aM} (h:dy w gT A t):ah x5 By [.pointer (some ⟨gT,0,none⟩)] w fun v w'=>v= .int .i64 (t.cells.length:Int)∧Ext w w':=by
 obtain⟨J,O,go,U,aH,W,X,h1,E,Y,Z,aa⟩:=h;refine aq func225 ?_;rw[cB mm.u];simp only[c5,aP];rw[ax,ae eG.p rfl,V (by kernel_rfl) (h1.cell (o:=0+0) rfl),dK fP.u E];exact⟨rfl,Ext.refl _⟩
theorem xS {w:x2} {gT:Nat} {A:an} {t:aM} {i:Int} (h:dy w gT A t):ah x5 A0 [.pointer (some ⟨gT,0,none⟩),.int .i64 i] w fun v w'=>v= .bool (decide (0≤i∧i<t.cells.length))∧Ext w w':=by
 refine aq func166 ?_;refine aL (fun v E=>v= .bool (decide (0≤i∧i<t.cells.length))∧Ext w E) (fun _ _ h=>h) ?_;intro V O;rw[ca,aa];refine⟨fun U=>?_,fun U=>O _ _ ⟨by rw[decide_eq_false];omega,Ext.refl _⟩⟩;refine (xR h).mono ?_;rintro _ E _ ⟨rfl,J⟩;rw[ao];refine O _ _ ⟨?_,J⟩;congr 1;rw[X5,decide_eq_true_eq,decide_eq_true_eq];exact⟨fun h=>⟨by omega,h⟩,fun h=>h.2⟩
theorem GX {w:x2} {gT:Nat} {A:an} {t:aM} {i:Nat} {y:Int} {c:Cell} (h:dy w gT A t) (U:y=(i:Int)) (E:t.cells[i]? =some c):ah x5 tJ [.pointer (some ⟨gT,0,none⟩),.int .i64 y] w fun v w'=>v= .int .i64 c.v∧Ext w w':=by
 have W:=(x3.1 E).1;refine aq func74 ?_;refine (xS h).mono ?_;rintro _ X _ ⟨rfl,J⟩;rw[decide_eq_true (by omega),bJ,Z3,aP];obtain⟨Y,Z,go,aa,aH,ab,ac,h1,O,ad,af,ag⟩:=h.ext J;rw[ax,ae eG.p rfl,V (by kernel_rfl) (h1.cell (o:=0+0) rfl),cr U fP.u dH.i O W,ae dH.p rfl,V (by kernel_rfl) (O.range E 0 _ rfl)];exact⟨rfl,J⟩
theorem ni {w:x2} {gT:Nat} {A:an} {t:aM} {i:Nat} {y x:Int} (h:dy w gT A t) (J:y=(i:Int)) (E:t.bF[i]? =some x):ah x5 tJ [.pointer (some ⟨gT,0,none⟩),.int .i64 y] w fun v w'=>v= .int .i64 x∧Ext w w':=by
 unfold aM.bF at E;rw[x6] at E;obtain⟨c,O,rfl⟩:=b8.1 E;exact GX h J O
def nj (t:aM):Prop:=t.cells.length≤100000000∧t.olds.length≤100000000∧t.marks.length≤100000000
theorem pw {w:x2} {gT Y go Z:Nat} {aH E J:x1} {t:aM} {x:x1} (h1:ad w gT eG [aH,E,J,x]) (U:aR ga 2 dH w Y aH t.cells) (V:aR kI 3 jz w go E t.olds) (W:aR kJ 3 e5 w Z J t.marks):
  (¬leadsTo aH gT∧¬leadsTo E gT∧¬leadsTo J gT)∧(∀ r,leadsTo aH r→¬leadsTo E r∧¬leadsTo J r)∧ ∀ r,leadsTo E r→¬leadsTo aH r∧¬leadsTo J r:=by
 refine⟨⟨b4 U h1 (by decide),b4 V h1 (by decide),b4 W h1 (by decide)⟩,fun r X=>?_,fun r X=>?_⟩
 ·obtain⟨rfl,c,O⟩:=dk U X;exact⟨b4 V O (by decide),b4 W O (by decide)⟩
 ·obtain⟨rfl,c,O⟩:=dk V X;exact⟨b4 U O (by decide),b4 W O (by decide)⟩
set_option maxHeartbeats 4000000 in
theorem rN {w:x2} {gT:Nat} {A:an} {t:aM} {i:Nat} {y x:Int} (h:dy w gT A t) (bK:y=(i:Int)) (aC:i<t.cells.length) (aX:nj t):ah x5 Al [.pointer (some ⟨gT,0,none⟩),.int .i64 y,.int .i64 x] w fun v w'=>v= .int .i64 0∧ ∃ X,Grow A w X w'∧dy w' gT X (t.set i x):=by
 subst bK;obtain⟨c,al⟩:∃ c,t.cells[i]? =some c:=⟨_,y0 aC⟩;refine aq func73 ?_;rw[cB mm.u];simp only[c5,aP];refine (xS h).mono ?_;rintro _ aY _ ⟨rfl,J⟩;rw[decide_eq_true (by omega),bJ,Z3,aP];obtain⟨bn,aw,go,ay,aH,aD,am,h1,bo,a1,aN,aO⟩:=id (h.ext J);have bL:∀ {W:x2} {X:an} {Z:aM} {st:Nat} {K:x2→Prop},dy W gT X Z→Z.cells[i]? =some ⟨c.v,st⟩→
   (∀ Y,af X W Y→dy Y gT X {Z with cells:=Z.cells.set i ⟨x,st⟩}→K Y)→
   (O x5 (bk (.pointer (some ⟨gT,0,none⟩))) W fun t77=>
   O x5 (x8 eG t77 0) W fun bM=>
   O x5 (x7 fP bM) W fun bN=>
   O x5 (j4 fP bN (.int .i64 (i:Int))) W fun bO=>
   O x5 (x8 dH bO 0) W fun bQ=>
   aA x5 (o7 aj bQ (.int .i64 x)) W fun(_:Unit) Y=>
   K Y):=by
  intro W X Z st K a2 aQ bR;obtain⟨a6,aw,go,ay,aH,aD,am,ap,au,aE,aF,aG⟩:=a2;have bS:=(x3.1 aQ).1;rw[ax,ae eG.p rfl,V (by kernel_rfl) (ap.cell (o:=0+0) rfl),cr rfl fP.u dH.i au bS,ae dH.p rfl];obtain⟨⟨aI,a7,a8⟩,av,_⟩:=pw ap au aE aF;refine lH (f:=ga) (j:=0) (a:=⟨c.v,st⟩) (a':=⟨x,st⟩) aj.i rfl rfl au aQ rfl (by omega) fun Y ai bT bU=>?_;exact bR Y (ai.mono fun r _ E=>aG r (.inl E)) ⟨a6,aw,go,ay,aH,aD,am,ap.U ai aI,bU,aE.U ai fun r E he=>(av r he).1 E,aF.U ai fun r E he=>(av r he).2 E,aG⟩
 refine dd (fun W=>∃ X Z st,Grow A aY X W∧dy W gT X Z∧Z.cells[i]? =some ⟨c.v,st⟩∧t.set i x={Z with cells:=Z.cells.set i ⟨x,st⟩}) ?_ ?_
 ·rintro W ⟨X,Z,st,bV,a2,aQ,ba⟩;refine bL a2 aQ fun Y ai a1=>⟨by trivial,X,?_,by rw[ba];exact a1⟩;exact (Grow.ext J).trans (bV.trans ⟨ai,fun _ h=>.inl h,fun _ h=>h⟩)
 intro ch bb;rw[ax,ae eG.p rfl,V (by kernel_rfl) (h1.cell (o:=0+2) rfl),dK n4.u aN,bA,aa];have bp:∀ (hm:t.marks.getLast? =none∨ ∃ m,t.marks.getLast? =some m∧¬(c.st<m.st∧i<m.cells)),t.set i x={t with cells:=t.cells.set i ⟨x,c.st⟩}:=fun hm=>by
  unfold aM.set;rw[al];rcases hm with hm|⟨m,hm,bW⟩
  ·simp only[hm]
  ·simp only[hm];rw[if_neg bW]
 refine⟨fun ci=>?_,fun cj=>bb _ ⟨A,t,c.st,Grow.refl _ _,h.ext J,al,bp (.inl ?_)⟩⟩
 rotate_left
 ·rw[List.getLast?_eq_none_iff];exact o8 (by omega)
 obtain⟨m,hm⟩:∃ m,t.marks[t.marks.length-1]? =some m:=⟨_,y0 (by omega)⟩;have bq:t.marks.getLast? =some m:=by rw[List.getLast?_eq_getElem?];exact hm
 have ck:=aX.2.2;rw[ax,ae eG.p rfl,V (by kernel_rfl) (h1.cell (o:=0+2) rfl),cY,wrap_i64 (by omega) (by omega),cr (i:=t.marks.length-1) (by omega) n4.u e5.i aN (by omega),bj e5.p e5.i rfl (aN.range hm)];refine bi e5.i fun aJ W cl br bX=>?_;refine bP (vs:=kJ m) e5.i rfl rfl (by intro v ac;simp[kJ] at ac;rcases ac with rfl|rfl|rfl <;> rfl) bX fun Y ai bT bY=>?_;have bt:Ext aY Y:=br.then ai (fun r E he=>by have he:r=aJ:=he;omega);have aS:∀ {w':x2},Ext Y w'→ad w' aJ e5 (kJ m):=fun J=>bY.ext J;refine aL (fun v bc=>v= .bool (decide (c.st<m.st∧i<m.cells))∧Ext Y bc) ?_ ?_
 rotate_left
 ·intro cm bu;intro bc ab _ _;have az:=bt.trans ab;have bw:=aS ab;have aB:=bo.ext az;rw[ax,ae eG.p rfl,V (by kernel_rfl) ((h1.ext az).cell (o:=0+0) rfl),cr rfl fP.u dH.i aB aC,ae dH.p rfl,V (by kernel_rfl) (aB.range al 1 _ rfl),ae e5.p rfl,V (by kernel_rfl) (bw.cell (o:=0+2) rfl),ao,aa];refine⟨fun bx=>?_,fun bz=>bu _ _ ⟨by rw[decide_eq_false];omega,ab⟩⟩;rw[ae e5.p rfl,V (by kernel_rfl) (bw.cell (o:=0+1) rfl),ao];refine bu _ _ ⟨?_,ab⟩;congr 1;rw[X5,decide_eq_true_eq,decide_eq_true_eq];exact⟨fun h=>⟨by omega,by omega⟩,fun h=>by omega⟩
 rintro _ bc ⟨rfl,ab⟩;have az:=bt.trans ab;rw[aa];refine⟨fun bx=>?_,fun bz=>bb _ ⟨A,t,c.st,Grow.ext az,(h.ext J).ext az,al,bp (.inr ⟨m,bq,bz⟩)⟩⟩;intro cn aT _ _;have aK:=az.trans aT;have bd:=h1.ext aK;have aB:=bo.ext aK;have bZ:=a1.ext aK;have b1:=aN.ext aK;rw[ax,ae eG.p rfl,V (by kernel_rfl) (bd.cell (o:=0+1) rfl),ax,ae eG.p rfl,V (by kernel_rfl) (bd.cell (o:=0+0) rfl),cr rfl fP.u dH.i aB aC,bj dH.p dH.i rfl (aB.range al)];rw[cI (cs:=#[.int .i64 (i:Int),.int .i64 c.v,.int .u64 (c.st:Int)]) (by kernel_rfl)];let a:ir:=⟨i,c⟩;have b2:∀ u∈kI a,u.oneCell'=true:=by intro v ac;simp[kI] at ac;rcases ac with rfl|rfl|rfl <;> rfl
 refine eV (f:=kI) (a:=a) kg.u jz.i (by omega) rfl rfl fun cp cq bB ct ag b3=>?_;refine⟨.inl ag,?_⟩;have bC:=aK.trans ag;have be:=bd.ext ag;have bD:=aB.ext ag;have bf:=bZ.ext ag;have bE:=b1.ext ag;obtain⟨⟨aI,a7,a8⟩,av,b5⟩:=pw be bD bf bE;refine e9 (f:=kI) (a:=a) kg.u jz.i rfl bf (by simpa using b3.sl) b2 (by have:=aX.2.1;omega) (by have:=aX.2.1;omega) fun bg bF cw aU b6 bG=>?_;rw[ax,ae eG.p rfl];have bH:=be.U bG a7;refine aZ kg.i (cu aU.sl).1 (cu aU.sl).2 bH (by simp) fun ak bI cz bh=>?_;have bh:ad ak gT eG [aH,bg,am,.int .u64 (t.jJ:Int)]:=bh;have aV:af (fun r=>leadsTo aD r∨r=gT) bB ak:=(bG.mono fun r _ h=>.inl h).trans (bI.mono fun r _ h=>.inr h);have b7:aR ga 2 dH ak aw aH t.cells:=bD.U aV fun r E he=>he.elim (fun he=>(av r E).1 he) fun he=>aI (he▸E);have b8:aR kJ 3 e5 ak ay am t.marks:=bE.U aV fun r E he=>he.elim (fun he=>(b5 r he).2 E) fun he=>a8 (he▸E);have b9:aR kI 3 jz ak bF bg (t.olds++[a]):=aU.U bI fun r E he=>by
  have he:r=gT:=he;subst he;exact b4 aU bH (by decide) E
 have cA:=bC.size;have cC:=br.size;let bl:an:=fun r=>A r∨bB.heap.size≤r;have ca:Grow A aY bl ak:=⟨(bC.U A).trans (aV.mono fun r _ he=>he.elim (fun he=>aO r (.inr (.inl he))) fun he=>he▸bn),fun r E=>E.imp id fun E=>by omega,fun r E=>.inl E⟩;have cb:dy ak gT bl {t with olds:=t.olds++[a]}:=⟨.inl bn,aw,bF,ay,aH,bg,am,bh,b7,b9,b8,fun r E=>by
  rcases E with E|E|E
  ·exact .inl (aO r (.inl E))
  ·rcases b6 r E with h|h
   ·exact .inl (aO r (.inr (.inl h)))
   ·exact .inr h
  ·exact .inl (aO r (.inr (.inr E)))⟩
 have cc:ad ak aJ e5 (kJ m):=(aS ((ab.trans aT).trans ag)).U aV fun he=>by
  rcases he with he|he
  ·obtain⟨rfl,cD,cd⟩:=dk bf he;exact absurd (ew cd (aS ((ab.trans aT).trans ag))) (by decide)
  ·subst he;exact absurd (ew be (aS ((ab.trans aT).trans ag))) (by decide)
 intro cE bm _ _;have ce:=cb.ext bm;obtain⟨a6,aw,go,ay,aH,aD,am,ap,au,aE,aF,aG⟩:=ce;rw[ax,ae eG.p rfl,V (by kernel_rfl) (ap.cell (o:=0+0) rfl),ae e5.p rfl,V (by kernel_rfl) ((cc.ext bm).cell (o:=0+2) rfl),cr rfl fP.u dH.i au aC,ae dH.p rfl];obtain⟨⟨aI,a7,a8⟩,av,_⟩:=pw ap au aE aF;refine lH (f:=ga) (j:=1) (a:=c) (a':=⟨c.v,m.st⟩) e4.i rfl rfl au al rfl (by omega) fun cF aW cG cg=>?_;have ba:t.set i x={t with olds:=t.olds++[a],cells:=t.cells.set i ⟨x,m.st⟩}:=by
  unfold aM.set;rw[al];simp only[bq];rw[if_pos bx]
 refine bb _ ⟨bl,{t with olds:=t.olds++[a],cells:=t.cells.set i ⟨c.v,m.st⟩},m.st,ca.trans ((Grow.ext bm).trans ⟨aW.mono fun r _ E=>aG r (.inl E),fun _ h=>.inl h,fun _ h=>h⟩),⟨a6,aw,go,ay,aH,aD,am,ap.U aW aI,cg,aE.U aW fun r E he=>(av r he).1 E,aF.U aW fun r E he=>(av r he).2 E,aG⟩,?_,?_⟩
 ·show (t.cells.set i _)[i]? =_;rw[U1 aC]
 ·rw[ba];simp only[List.set_set]
theorem xT (n:Nat):cS (#[.int .i64 0,.int .u64 0]:Array x1) (n*2)=(v8 n (⟨0,0⟩:Cell)).flatMap ga:=by
 have:∀ n,cS (#[.int .i64 0,.int .u64 0]:Array x1) (n*2)=(v8 n (⟨0,0⟩:Cell)).flatMap ga:=by
  intro n;apply Y4;intro j;have O:((v8 n (⟨0,0⟩:Cell)).flatMap ga).length=n*2:=by simp[ga]
  by_cases E:j<n*2
  ·have J:(cS (#[.int .i64 0,.int .u64 0]:Array x1) (n*2))[j]? =some (if j % 2=0 then .int .i64 0 else .int .u64 0):=by
    unfold cS;rw[V9,Array.getElem?_map,Array.getElem?_range,if_pos E];rcases Nat.mod_two_eq_zero_or_one j with h|h <;> simp[h]
   have ag:=oV (f:=ga) (k:=2) (L:=v8 n (⟨0,0⟩:Cell)) (i:=j / 2) (j:=j % 2) (a:=⟨0,0⟩) (v:=if j % 2=0 then .int .i64 0 else .int .u64 0) (fun a _=>rfl) (by rw[List.getElem?_replicate,if_pos (by omega)]) (by rcases Nat.mod_two_eq_zero_or_one j with h|h <;> simp[h,ga]);rw[show j / 2*2+j % 2=j by omega] at ag;rw[J,ag]
  ·rw[c6 (by rw[lj];omega),c6 (by omega)]
 exact this n
set_option maxHeartbeats 2000000 in
theorem GY {w:x2} {gT:Nat} {A:an} {t:aM} {n:Nat} (h:dy w gT A t) (aE:nj t) (aO:n≤100000000):ah x5 Bc [.pointer (some ⟨gT,0,none⟩),.int .i64 (n:Int)] w fun v w'=>v= .int .i64 (t.cells.length:Int)∧ ∃ W,Grow A w W w'∧dy w' gT W (t.grow n):=by
 refine aq func192 ?_;refine (xR h).mono ?_;rintro _ Z _ ⟨rfl,J⟩;refine dd (fun O=>∃ W,Grow A w W O∧dy O gT W (t.grow n)) (fun O h=>⟨rfl,h⟩) ?_;intro aP aj;refine aL (fun v O=>v= .bool (decide (0<n))∧Z=O) ?_ ?_
 rotate_left
 ·intro aQ aF;rw[ul mm.u];simp only[c5,Y8,bh];rw[bA];refine aF _ _ ⟨?_,rfl⟩;congr 1;rw[X5,decide_eq_true_eq,decide_eq_true_eq];omega
 rintro _ _ ⟨rfl,rfl⟩;rw[aa];refine⟨fun ak=>?_,fun ak=>aj _ ⟨A,Grow.ext J,?_⟩⟩
 rotate_left
 ·have:n=0:=by omega
  subst this;have e:t.grow 0=t:=by unfold aM.grow;simp
  rw[e];exact h.ext J
 obtain⟨al,aS,go,aG,aH,am,ao,h1,ap,au,av,X⟩:=id (h.ext J);rw[ax,ae eG.p rfl,V (by kernel_rfl) (h1.cell (o:=0+0) rfl)];obtain⟨⟨aI,aJ,aK⟩,aw,aT⟩:=pw h1 ap au av;have aU:=aE.1;refine GW (k:=2) (m:=n) rfl fP.u ab.u dH.i rfl (by omega) (fun u hu=>?_) ap.1 ak (by omega) (by omega) fun ac ay O az aN aA=>?_
 ·exact xE (by decide) (by decide) u hu
 rw[ax,ae eG.p rfl];have Y:aR ga 2 dH O ay ac (t.cells++v8 n ⟨0,0⟩):=by
  refine⟨?_,fun _ _=>rfl⟩;have e:(x1.agg #[.int .i64 0,.int .u64 0]).cells= #[.int .i64 0,.int .u64 0]:=rfl;rw[e,xT] at az;rw[r8,List.length_replicate,List.flatMap_append];exact az
 have aB:=h1.U aA aI;refine aZ fP.i (cu Y.sl).1 (cu Y.sl).2 aB (by simp) fun aC aD aV ag=>?_;have ag:ad aC gT eG [ac,am,ao,.int .u64 (t.jJ:Int)]:=ag;have ai:af (fun r=>leadsTo aH r∨r=gT) Z aC:=(aA.mono fun r _ h=>.inl h).trans (aD.mono fun r _ h=>.inr h);have z:=J.size;refine aj _ ⟨fun r=>A r∨Z.heap.size≤r,(Grow.ext J).trans ⟨ai.mono fun r _ he=>he.elim (fun he=>X r (.inl he)) fun he=>he▸al,fun r E=>E,fun r E=>.inl E⟩,.inl al,ay,go,aG,ac,am,ao,ag,Y.U aD fun r E he=>?_,au.U ai fun r E he=>he.elim (fun he=>(aw r he).1 E) fun he=>aJ (he▸E),av.U ai fun r E he=>he.elim (fun he=>(aw r he).2 E) fun he=>aK (he▸E),fun r E=>?_⟩
 ·have he:r=gT:=he;subst he;exact b4 Y aB (by decide) E
 ·rcases E with E|E|E
  ·exact (aN r E).imp (fun h=>X r (.inl h)) id
  ·exact .inl (X r (.inr (.inl E)))
  ·exact .inl (X r (.inr (.inr E)))
theorem GZ {w:x2} {n:Nat} (Y:n≤1000):ah x5 AL [.int .i64 (n:Int)] w fun v w'=>Ext w w'∧ ∃ gT,v= .pointer (some ⟨gT,0,none⟩)∧dy w' gT (dD w.heap.size) ⟨v8 n ⟨0,0⟩,[],[],0⟩:=by
 refine aq func127 ?_;rw[oc,Int.max_eq_left (by omega)];refine uw (k:=2) fP.u dH.i (by omega) (by omega) fun g O Z U J=>?_;rw[cI (cs:=#[.slice (some ⟨g,0,none⟩) n n,.slice none 0 0,.slice none 0 0,.int .u64 0]) (by kernel_rfl)];refine a7 fun gT aa ab V X=>?_;have ac:=U.size;have e:(x1.agg #[.int .i64 0,.int .u64 0]).cells= #[.int .i64 0,.int .u64 0]:=rfl;have J:ad O g dH ((v8 n (⟨0,0⟩:Cell)).flatMap ga):=by rw[←xT,←e];exact J
 have W:aR ga 2 dH O g (.slice (some ⟨g,0,none⟩) n n) (v8 n ⟨0,0⟩):=by
  refine⟨?_,fun _ _=>rfl⟩;rw[List.length_replicate];exact br.full J (by simp[ga]) (by simp[maxLen];omega)
 refine⟨U.trans V,gT,rfl,by show w.heap.size≤gT;omega,g,0,0,_,_,_,X,W.ext V,aR.nil _ _ _ _ _,aR.nil _ _ _ _ _,fun r E=>?_⟩;rcases E with E|E|E
 ·have:=(W.leads E).1;show w.heap.size≤r;omega
 ·exact (dp E).elim
 ·exact (dp E).elim
theorem ko {α β:Type} {f:α→List β}:∀ {L:List α} {i j:Nat} {a:α},L[i]? =some a→j<(f a).length→(L.flatMap f)[((L.take i).flatMap f).length+j]? =(f a)[j]?
 |x::L,0,j,a,h,E=>by
  cases h;rw[List.take_zero,List.flatMap_nil,List.length_nil,V3,W7,Z0 E]
 |x::L,i+1,j,a,h,E=>by
  have h:L[i]? =some a:=by simpa using h
  rw[List.take_succ_cons,W7,W7,r8,Nat.add_assoc,Z2 (by omega),Nat.add_sub_cancel_left,ko h E]
theorem G0 {α β:Type} {f:α→List β} {L:List α} {i j:Nat} {a:α} (h:L[i]? =some a) (E:j<(f a).length):((L.take i).flatMap f).length+j<(L.flatMap f).length:=by
 have h1:=ko (f:=f) h E;rw[y0 E] at h1;exact (x3.1 h1).1
structure gv where
 gone:Int
 mask:Int
 un:List Int
structure gb where
 sc:List Int
 ai:List Int
 live:Int
 cs:List Int
structure rO where
 v:Int
 sc:List Int
 lP:List Int
structure aU where
 zero:Int
 vars:List gv
 funs:List gb
 kK:List rO
def iD (x:gv):List Int:=x.gone::x.mask::x.un
def fE (x:gb):List Int:=x.live::x.cs
def kL (s:aU):List Int:=[s.zero,(s.funs.length:Int),(s.kK.length:Int)]
def aU.cells (s:aU):List Int:=kL s++(s.vars.flatMap iD++s.funs.flatMap fE)
def gw (s:aU) (i:Nat):Nat:=3+((s.vars.take i).flatMap iD).length
def e0 (s:aU) (j:Nat):Nat:=3+((s.vars.flatMap iD).length+((s.funs.take j).flatMap fE).length)
theorem px {s:aU} {i j:Nat} {x:gv} (h:s.vars[i]? =some x) (J:j<x.un.length+2):s.cells[gw s i+j]? =(iD x)[j]?:=by
 have E:j<(iD x).length:=J;unfold aU.cells gw;rw[Nat.add_assoc,Z2 (by simp[kL]),show (kL s).length=3 from rfl,Nat.add_sub_cancel_left,Z0 (G0 h E),ko h E]
theorem rP {s:aU} {i j:Nat} {x:gb} (h:s.funs[i]? =some x) (E:j<x.cs.length+1):s.cells[e0 s i+j]? =(fE x)[j]?:=by
 have J:j<(fE x).length:=E;unfold aU.cells e0;rw[Nat.add_assoc,Nat.add_assoc,Z2 (by simp[kL]),show (kL s).length=3 from rfl,Nat.add_sub_cancel_left,Z2 (by omega),Nat.add_sub_cancel_left,ko h J]
theorem G1 {s:aU} (x:gb):(s.cells++fE x).set 1 ((s.funs.length+1:Nat):Int)=({s with funs:=s.funs++[x]}:aU).cells:=by
 unfold aU.cells;simp only[List.flatMap_append,List.flatMap_singleton,kL,r8,U2,X8];rfl
theorem nk (s:aU):s.cells.length=3+((s.vars.flatMap iD).length+(s.funs.flatMap fE).length):=by
 unfold aU.cells;rw[r8,r8];rfl
def dropped (mask:Int) (v:Int):Bool:=mask.toNat.testBit v.toNat
structure hx (k:Int) (sizes:List Int) (s:aU):Prop where
 lR:1≤k∧k≤2147483648
 py:1≤sizes.length∧sizes.length≤64∧ ∀ z∈sizes,1≤z∧z≤32
 zero:0≤s.zero∧s.zero≤k
 vars:s.vars.length=sizes.length
 var:∀ (i:Nat) x z,s.vars[i]? =some x→sizes[i]? =some z→x.un.length=z.toNat∧(∀ c∈x.un,0≤c∧c≤k)∧0≤x.mask∧x.mask<4294967296
 funs:∀ f∈s.funs,ef sizes k (f.sc,f.cs)∧f.ai=bI sizes f.sc∧2≤f.sc.length
def newVar (u:List Int):gv:=⟨0,0,u⟩
def jS (sizes:List Int) (g:bU):gb:=⟨g.1,bI sizes g.1,1,g.2⟩
def cD (n:bd):aU:=⟨n.zero,n.unary.map newVar,n.funs.map (jS n.sizes),[]⟩
theorem G2 {n:bd} (h:gR n):hx n.k n.sizes (cD n):=by
 refine⟨h.k,h.sizes,h.zero,by simp[cD,h.hs],fun i x z J O=>?_,fun f ag=>?_⟩
 ·have J:(n.unary.map newVar)[i]? =some x:=J;rw[x6] at J;obtain⟨u,hu,rfl⟩:=b8.1 J;obtain⟨h1,E⟩:=h.unary i z u O hu;exact⟨h1,E,Int.le_refl _,by show (0:Int)<_;omega⟩
 ·obtain⟨g,U,rfl⟩:=o6.1 ag;obtain⟨h1,E⟩:=h.funs g U;exact⟨h1,rfl,E⟩
theorem rQ {w:x2} {E:Nat} {n:bd} (h:eO w E n):ah x5 tN [.pointer (some ⟨E,0,none⟩)] w fun v w'=>v= .int .i64 (n.sizes.length:Int)∧Ext w w':=by
 obtain⟨U,W,X,Y,Z,aG,L,aa,au,ab,ac,h1,J,O,ad,af,ag,ai⟩:=h;refine aq func129 ?_;rw[cB iX.u];simp only[c5,aP];rw[ax,ae ek.p rfl,V (by kernel_rfl) (h1.cell (o:=0+0) rfl),ax,ae bS.p rfl,V (by kernel_rfl) (J.cell (o:=0+2) rfl),aI al.u O.ls];exact⟨rfl,Ext.refl _⟩
theorem G3 {w:x2} {E:Nat} {n:bd} (h:eO w E n):ah x5 AT [.pointer (some ⟨E,0,none⟩)] w fun v w'=>v= .int .i64 n.k∧Ext w w':=by
 obtain⟨O,U,W,X,Y,aG,L,Z,au,aa,ab,h1,J,ac,ad,af,ag,ai⟩:=h;refine aq func145 ?_;rw[cB iX.u];simp only[c5,aP];rw[ax,ae ek.p rfl,V (by kernel_rfl) (h1.cell (o:=0+0) rfl),ax,ae bS.p rfl,V (by kernel_rfl) (J.cell (o:=0+1) rfl)];exact⟨rfl,Ext.refl _⟩
theorem G4 {w:x2} {E:Nat} {n:bd} (h:eO w E n):ah x5 AM [.pointer (some ⟨E,0,none⟩)] w fun v w'=>v= .int .i64 n.zero∧Ext w w':=by
 obtain⟨J,O,U,W,X,aG,L,Y,au,Z,aa,h1,ab,ac,ad,af,ag,ai⟩:=h;refine aq func128 ?_;rw[cB iX.u];simp only[c5,aP];rw[ax,ae ek.p rfl,V (by kernel_rfl) (h1.cell (o:=0+1) rfl)];exact⟨rfl,Ext.refl _⟩
theorem xU {w:x2} {E:Nat} {n:bd} (h:eO w E n):ah x5 tP [.pointer (some ⟨E,0,none⟩)] w fun v w'=>v= .int .i64 (n.funs.length:Int)∧Ext w w':=by
 obtain⟨U,W,X,Y,Z,aG,L,aa,au,ab,ac,h1,ad,af,ag,ai,J,O⟩:=h;refine aq func132 ?_;rw[cB iX.u];simp only[c5,aP];rw[ax,ae ek.p rfl,V (by kernel_rfl) (h1.cell (o:=0+3) rfl),dK ij.u J.1];exact⟨by rw[←O,u7],Ext.refl _⟩
theorem xV {w:x2} {Y:Nat} {n:bd} {i:Int} (h:eO w Y n) (J:gR n):ah x5 AN [.pointer (some ⟨Y,0,none⟩),.int .i64 i] w fun v w'=>Ext w w'∧(¬(0≤i∧i<n.sizes.length)→v= .slice none 0 0)∧
  ∀ u,0≤i→n.unary[i.toNat]? =some u→ ∃ g,w.heap.size≤g∧am .i64 aj w' g v u:=by
 refine aq func130 ?_;have av:=J.hs;refine aL (fun v O=>v= .bool (decide (¬(0≤i∧i<n.sizes.length)))∧Ext w O) ?_ ?_
 ·rintro _ O ⟨rfl,E⟩;rw[aa];refine⟨fun af=>⟨E,fun _=>rfl,fun u ag hu=>?_⟩,fun U=>?_⟩
  ·have:=(x3.1 hu).1;exact absurd ⟨ag,by omega⟩ af
  have U:0≤i∧i<n.sizes.length:=Z7.1 U;obtain⟨aw,ay,az,aA,aB,aG,L,aC,au,aD,aE,h1,aF,aH,W,Z,aI,aJ⟩:=h.ext E;have aK:aG.length=n.unary.length:=by rw[←Z,u7]
  obtain⟨a,X⟩:∃ a,aG[i.toNat]? =some a:=⟨_,y0 (by omega)⟩;obtain⟨aM,hm⟩:=W.2 a (x4 X);rw[ax,ae ek.p rfl,V (by kernel_rfl) (h1.cell (o:=0+2) rfl),cr (i:=i.toNat) (by omega) eE.u ap.i W.1 (by omega),V (o:=i.toNat*1) (by kernel_rfl) (W.1.range X 0 _ rfl)];have ab:n.unary[i.toNat]? =some a.l:=by rw[←Z,x6,X];rfl
  have aN:a.l.length≤32:=by
   obtain⟨z,ac⟩:∃ z,n.sizes[i.toNat]? =some z:=⟨_,y0 (by omega)⟩;have aO:=(J.unary i.toNat z a.l ac ab).1;have aP:=J.sizes.2.2 z (x4 ac);omega
  refine (qL hm.ls (by omega)).mono ?_;rintro v aQ _ ⟨ai,g,aR,ak⟩;refine⟨E.trans ai,fun al=>absurd U al,fun u _ hu=>⟨g,by have:=E.size;omega,?_⟩⟩;rw[ab] at hu;cases hu;exact ak
 ·intro aS ad;rw[ao,aa];refine⟨fun aT=>ad _ _ ⟨by rw[decide_eq_true];omega,Ext.refl _⟩,fun aU=>?_⟩;refine (rQ h).mono ?_;rintro _ O _ ⟨rfl,E⟩;rw[ca];refine ad _ _ ⟨?_,E⟩;congr 1;rw[X5,decide_eq_true_eq,decide_eq_true_eq];omega
theorem xW {w:x2} {U:Nat} {n:bd} {i:Int} (h:eO w U n) (E:gR n):ah x5 Ao [.pointer (some ⟨U,0,none⟩),.int .i64 i] w fun v w'=>Ext w w'∧v= .int .i64 (if 0≤i then n.sizes.getD i.toNat 0 else 0):=by
 refine aq func77 ?_;refine (xV h E).mono ?_;rintro v Z _ ⟨V,X,Y⟩;by_cases J:0≤i∧i<n.sizes.length
 ·have aa:=E.hs;obtain⟨u,hu⟩:∃ u,n.unary[i.toNat]? =some u:=⟨_,y0 (by omega)⟩;obtain⟨z,O⟩:∃ z,n.sizes[i.toNat]? =some z:=⟨_,y0 (by omega)⟩;obtain⟨g,_,hm⟩:=Y u J.1 hu;rw[aI ap.u hm.ls];refine⟨V,?_⟩;have ab:=(E.unary i.toNat z u O hu).1;have ac:=E.sizes.2.2 z (x4 O);rw[if_pos J.1,u6,O];congr 1;simp only[Option.getD_some];omega
 ·rw[X J,fy ap.u];refine⟨V,?_⟩;by_cases W:0≤i
  ·rw[if_pos W,u6,c6 (by omega)];rfl
  ·rw[if_neg W];rfl
theorem xX {w:x2} {E:Nat} {n:bd} {j:Int} (h:eO w E n) {K:x1→x2→Prop} (J:∀ w',Ext w w'→K (.bool (decide (¬(0≤j∧j<n.funs.length)))) w'):
  O x5 (aB .lss ab false true (.int .i64 j) (.int .i64 0)) w fun V=>Split V (K (.bool true) w) (ah x5 tP [.pointer (some ⟨E,0,none⟩)] w fun W U=>O x5 (aB .geq ab false false (.int .i64 j) W) U fun X=>K X U):=by
 rw[ao,aa];refine⟨fun ac=>?_,fun ad=>?_⟩
 ·have:=J w (Ext.refl _);rw[decide_eq_true (show ¬(0≤j∧j<n.funs.length) by omega)] at this;exact this
 ·refine (xU h).mono ?_;rintro _ Y _ ⟨rfl,Z⟩;rw[ca];have:=J Y Z;have e:decide ((n.funs.length:Int)≤j)=decide (¬(0≤j∧j<n.funs.length)):=by
   rw[X5,decide_eq_true_eq,decide_eq_true_eq];omega
  rw[←e] at this;exact this
theorem G5 {w:x2} {X j:Nat} {n:bd} {g:bU} (h:eO w X n) (ac:gR n) (E:n.funs[j]? =some g):ah x5 AP [.pointer (some ⟨X,0,none⟩),.int .i64 (j:Int)] w fun v w'=>Ext w w'∧ ∃ gs,w.heap.size≤gs∧am .i64 ab w' gs v g.1:=by
 refine aq func134 ?_;have ai:=(x3.1 E).1;refine aL (fun v Y=>v= .bool (decide (¬(0≤(j:Int)∧(j:Int)<n.funs.length)))∧Ext w Y) ?_ fun aj ad=>xX h fun w' J=>ad _ _ ⟨rfl,J⟩;rintro _ Y ⟨rfl,O⟩;rw[decide_eq_false (by omega),aP];obtain⟨ak,al,ao,ap,av,aG,L,aw,au,ay,az,h1,aA,aB,aC,aD,U,Z⟩:=h.ext O;have aE:L.length=n.funs.length:=by rw[←Z,u7]
 obtain⟨a,W⟩:∃ a,L[j]? =some a:=⟨_,y0 (by omega)⟩;have aa:c3 a=g:=by rw[←Z,x6,W] at E;exact j5 E
 obtain⟨⟨aF,hm⟩,_⟩:=U.2 a (x4 W);rw[ax,ae ek.p rfl,V (by kernel_rfl) (h1.cell (o:=0+3) rfl),cr rfl ij.u fO.i U.1 (by omega),ae fO.p rfl,V (by kernel_rfl) (U.1.range W 0 _ rfl)];have aH:a.sc.length≤6:=by
  have:=(ac.funs g (x4 E)).1.scope.2;rw[←aa] at this;exact this
 refine (hQ hm.ls (by omega)).mono ?_;rintro v aI _ ⟨af,gs,aJ,ag⟩;refine⟨O.trans af,gs,by have:=O.size;omega,?_⟩;rw[←aa];exact ag
theorem G6 {w:x2} {g af:Nat} {sv:x1} {ai:List Int} {k:Int} {cs:List Int} (h:cp w g af sv ai k cs):ah x5 Bd [.pointer (some ⟨g,0,none⟩)] w fun v w'=>Ext w w'∧ ∃ E J,v= .pointer (some ⟨E,0,none⟩)∧w.heap.size≤E∧w.heap.size≤J∧cp w' E J sv ai k cs:=by
 obtain⟨⟨aH,gs,ag,hm,aj⟩,⟨h1,ao,ak⟩,Y,Z⟩:=h;refine aq func193 ?_;rw[cB dA.u];simp only[c5,aP];intro ap O _ _;have W:=ag.ext O;have au:=prod_bound Y;rw[ax,ae ci.p rfl,bj (cs:=[sv]) a6.p a6.i rfl (kt W (by
  intro j v ac
  match j,ac with
  |0,ac=>exact ac)),ax,ae ci.p rfl,V (by kernel_rfl) (W.cell (o:=0+1) rfl),ax,ae ci.p rfl,V (by kernel_rfl) (W.cell (o:=0+2) rfl)]
 refine (qL (aj.ls.ext O) (by omega)).mono ?_;rintro aa av _ ⟨X,J,aw,U⟩;refine⟨.inl X,?_⟩;rw[cI (cs:=#[sv,.int .i64 k,aa]) (by obtain⟨_,_,_,rfl⟩:=ct hm.ls;obtain⟨_,_,_,rfl⟩:=ct U.ls;kernel_rfl)];refine a7 fun E ay az ab al=>?_;have aA:=O.size;have aB:=X.size;have aC:=U;have ad:=(O.trans X).trans ab;refine⟨ad,E,J,rfl,by omega,by omega,⟨aa,gs,al,hm.ext ad,U.ext ab⟩,⟨?_,?_,ak⟩,Y,Z⟩
 ·have:=pf U (by rw[Z];omega);omega
 ·intro am;obtain⟨aD,aE⟩:=bw hm am;omega
theorem G7 {w0 w:x2} {Z j:Nat} {n:bd} {g:bU} (aa:eO w0 Z n) (ab:Ext w0 w) (O:n.funs[j]? =some g):ah x5 AQ [.pointer (some ⟨Z,0,none⟩),.int .i64 (j:Int)] w fun v w'=>Ext w w'∧ ∃ gt U sv,v= .pointer (some ⟨gt,0,none⟩)∧w.heap.size≤gt∧w.heap.size≤U∧cp w' gt U sv (bI n.sizes g.1) n.k g.2∧ ∀ r,leads sv r→r<w0.heap.size:=by
 have h:=aa.ext ab;refine aq func135 ?_;have ap:=(x3.1 O).1;refine aL (fun v ac=>v= .bool (decide (¬(0≤(j:Int)∧(j:Int)<n.funs.length)))∧Ext w ac) ?_ fun av ag=>xX h fun w' J=>ag _ _ ⟨rfl,J⟩;rintro _ ac ⟨rfl,W⟩;rw[decide_eq_false (by omega),aP];have E:=ab.trans W;obtain⟨aw,ay,az,aA,aB,aG,L,aC,au,aD,aE,h1,aF,aH,aI,aJ,X,ad⟩:=aa;have aK:L.length=n.funs.length:=by rw[←ad,u7]
 obtain⟨a,Y⟩:∃ a,L[j]? =some a:=⟨_,y0 (by omega)⟩;have ai:c3 a=g:=by rw[←ad,x6,Y] at O;exact j5 O
 obtain⟨_,U,aj,af⟩:=X.2 a (x4 Y);rw[ax,ae ek.p rfl,V (by kernel_rfl) ((h1.ext E).cell (o:=0+3) rfl),cr rfl ij.u fO.i (X.1.ext E) (by omega),ae fO.p rfl,V (by kernel_rfl) ((X.1.ext E).range Y 1 _ rfl)];refine (G6 (af.ext E)).mono ?_;rintro v aM _ ⟨ak,gt,al,rfl,aN,aO,am⟩;have aQ:=W.size;refine⟨W.trans ak,gt,al,aj,rfl,by omega,by omega,?_,fun r ao=>?_⟩
 ·rw[←ai];exact am
 ·obtain⟨⟨_,_,_,hm,_⟩,_⟩:=af;obtain⟨aR,aS⟩:=bw hm ao;omega
structure lS where
 aN:x1
 au:x1
 at_:Nat
def lT (x:lS):List x1:=[x.aN,x.au,.int .i64 (x.at_:Int)]
structure nl where
 v:Int
 aN:x1
 bv:x1
def G8 (x:nl):List x1:=[.int .i64 x.v,x.aN,x.bv]
def gS (s:aU):List Int:=(Y1 s.vars.length).map fun i=>(gw s i:Int)
def gx (R:an) (w:x2) (v:x1) (l:List Int):Prop:=(∃ g,am .i64 ab w g v l)∧ ∀ r,leads v r→R r
theorem gx.ls {R:an} {w:x2} {v:x1} {l:List Int} (h:gx R w v l):aC .i64 w v l:=by
 obtain⟨⟨g,h⟩,_⟩:=h;exact h.ls
theorem gx.U {R S:an} {w w':x2} {v:x1} {l:List Int} (h:gx R w v l) (O:af S w w') (V:∀ r,r<w.heap.size→R r→¬S r):gx R w' v l:=by
 obtain⟨⟨g,h1⟩,E⟩:=h;exact⟨⟨g,aX h1 O fun r J=>V r (by obtain⟨W,X⟩:=bw h1 J;omega) (E r J)⟩,E⟩
theorem gx.mono {R R':an} {w:x2} {v:x1} {l:List Int} (h:gx R w v l) (E:∀ r,R r→R' r):gx R' w v l:=⟨h.1,fun r J=>E r (h.2 r J)⟩
def ji (R:an) (w:x2) (L:List lS) (s:aU):Prop:=L.length=s.funs.length∧ ∀ (j:Nat) x f,L[j]? =some x→s.funs[j]? =some f→gx R w x.aN f.sc∧gx R w x.au f.ai∧x.at_=e0 s j
def jj (R:an) (w:x2) (E:List nl) (s:aU):Prop:=E.length=s.kK.length∧ ∀ (j:Nat) x e,E[j]? =some x→s.kK[j]? =some e→x.v=e.v∧gx R w x.aN e.sc∧gx R w x.bv e.lP
theorem ji.U {R S:an} {w w':x2} {L:List lS} {s:aU} (h:ji R w L s) (E:af S w w') (O:∀ r,r<w.heap.size→R r→¬S r):ji R w' L s:=⟨h.1,fun j x f J ag=>by
 obtain⟨h1,V,W⟩:=h.2 j x f J ag;exact⟨h1.U E O,V.U E O,W⟩⟩
theorem jj.U {R S:an} {w w':x2} {E:List nl} {s:aU} (h:jj R w E s) (O:af S w w') (V:∀ r,r<w.heap.size→R r→¬S r):jj R w' E s:=⟨h.1,fun j x f J ag=>by
 obtain⟨h1,W,X⟩:=h.2 j x f J ag;exact⟨h1,W.U O V,X.U O V⟩⟩
theorem ji.mono {R R':an} {w:x2} {L:List lS} {s:aU} (h:ji R w L s) (E:∀ r,R r→R' r):ji R' w L s:=⟨h.1,fun j x f J ag=>by
 obtain⟨h1,O,U⟩:=h.2 j x f J ag;exact⟨h1.mono E,O.mono E,U⟩⟩
theorem jj.mono {R R':an} {w:x2} {E:List nl} {s:aU} (h:jj R w E s) (O:∀ r,R r→R' r):jj R' w E s:=⟨h.1,fun j x f J ag=>by
 obtain⟨h1,U,V⟩:=h.2 j x f J ag;exact⟨h1,U.mono O,V.mono O⟩⟩
theorem pz {S:Nat→Prop} {a b c:x2} (h:Ext a b) (k:af S b c) (O:∀ r o,a.heap[r]? =some o→fJ o=true→¬S r):Ext a c:=
 ⟨Z5 h.size k.size,fun r o J E=>k.aW r o (h.aW r o J E) E (O r o J E)⟩
theorem dy.cut {A:an} {w:x2} {gT:Nat} {t:aM} (h:dy w gT A t):dy w gT (fun r=>A r∧r<w.heap.size) t:=by
 obtain⟨X,Y,go,Z,aH,aa,ab,h1,J,O,U,ac⟩:=h;refine⟨⟨X,h1.lt⟩,Y,go,Z,aH,aa,ab,h1,J,O,U,fun r E=>⟨ac r E,?_⟩⟩;rcases E with E|E|E
 ·obtain⟨V,W⟩:=J.leads E;omega
 ·obtain⟨V,W⟩:=O.leads E;omega
 ·obtain⟨V,W⟩:=U.leads E;omega
def eh (w:x2) (az gT V:Nat) (J O U:x1) (A R:an) (n:bd) (s:aU) (t:aM):Prop:=
 (A az∧(∀ r,A r→¬R r)∧(∀ r,R r→r<w.heap.size)∧ ∀ r,A r→r<w.heap.size)∧ ∃ X Y Z,∃ (L:List lS) (W:List nl) (E:an) (w0:x2),
  ad w az ch [.pointer (some ⟨V,0,none⟩),.pointer (some ⟨gT,0,none⟩),J,O,U]∧(eO w0 V n∧Ext w0 w∧ ∀ r o,w0.heap[r]? =some o→fJ o=true→R r)∧
  (dy w gT E t∧(∀ r,E r→A r)∧¬E az∧ ∀ r,leads J r∨leadsTo O r∨leadsTo U r→A r∧¬E r)∧am .i64 ab w X J (gS s)∧
  (aR lT 3 eF w Y O L∧ji R w L s)∧aR G8 3 Cj w Z U W∧jj R w W s
theorem eh.U {S:an} {w w':x2} {az gT aa:Nat} {ab ac ad:x1} {A R:an} {n:bd} {s:aU} {t:aM} (h:eh w az gT aa ab ac ad A R n s t) (O:af S w w') (V:∀ r,r<w.heap.size→A r∨R r→¬S r):eh w' az gT aa ab ac ad A R n s t:=by
 obtain⟨⟨h1,W,au,av⟩,aw,ax,ay,L,aA,aB,w0,ae,⟨aC,ag,ah⟩,⟨aD,X,aE,Y⟩,ai,⟨aj,aF⟩,ak,aG⟩:=h;have z:=O.size;refine⟨⟨h1,W,fun r E=>by have:=au r E;omega,fun r E=>by have:=av r E;omega⟩,aw,ax,ay,L,aA,aB,w0,ae.U O (V _ ae.lt (.inl h1)),⟨aC,pz ag O fun r o E aI J=>V r (by have:=ag.size;have:=(o4.1 E).1;omega) (.inr (ah r o E aI)) J,ah⟩,
  ⟨?_,X,aE,Y⟩,aX ai O fun r E J=>V r ?_ (.inl (Y r (.inl E)).1) J,⟨aj.U O fun r E J=>V r ?_ (.inl (Y r (.inr (.inl E))).1) J,aF.U O fun r E h=>V r E (.inr h)⟩,ak.U O fun r E J=>V r ?_ (.inl (Y r (.inr (.inr E))).1) J,aG.U O fun r E h=>V r E (.inr h)⟩
 ·obtain⟨al,aJ,go,aK,aH,aL,aN,am,ao,ap,aq,Z⟩:=aD;refine⟨al,aJ,go,aK,aH,aL,aN,am.U O (V _ am.lt (.inl (X _ al))),ao.U O fun r E J=>?_,ap.U O fun r E J=>?_,aq.U O fun r E J=>?_,Z⟩
  ·exact V r (by obtain⟨h1,W⟩:=ao.leads E;omega) (.inl (X _ (Z r (.inl E)))) J
  ·exact V r (by obtain⟨h1,W⟩:=ap.leads E;omega) (.inl (X _ (Z r (.inr (.inl E))))) J
  ·exact V r (by obtain⟨h1,W⟩:=aq.leads E;omega) (.inl (X _ (Z r (.inr (.inr E))))) J
 ·obtain⟨h1,W⟩:=bw ai E;omega
 ·obtain⟨h1,W⟩:=aj.leads E;omega
 ·obtain⟨h1,W⟩:=ak.leads E;omega
theorem eh.ext {w w':x2} {az gT E:Nat} {O V W:x1} {A R:an} {n:bd} {s:aU} {t:aM} (h:eh w az gT E O V W A R n s t) (J:Ext w w'):eh w' az gT E O V W A R n s t:=h.U (J.U fun _=>False) fun _ _ _ h=>h
theorem eh.pA {w:x2} {az gT ad:Nat} {ae af ag:x1} {A R:an} {n:bd} {s:aU} {t:aM} (h:eh w az gT ad ae af ag A R n s t):∃ Y,dy w gT Y t∧ ∀ X w' ab,Grow Y w X w'→dy w' gT X ab→ ∃ ah,Grow A w ah w'∧eh w' az gT ad ae af ag ah R n s ab:=by
 obtain⟨⟨h1,V,ai,aj⟩,ax,ay,aA,L,aB,Y,w0,ak,⟨aC,aD,al⟩,⟨aE,W,am,Z⟩,ao,⟨ap,aF⟩,aq,aG⟩:=h;refine⟨Y,aE,fun au w' ab aa aH=>?_⟩;have av:=aH.cut;have J:Grow Y w (fun r=>au r∧r<w'.heap.size) w':=⟨aa.1,fun r E=>aa.2.1 r E.1,fun r E=>⟨aa.2.2 r E,by have:=aj r (W r E);have:=aa.1.size;omega⟩⟩;obtain⟨X,aw⟩:∃ B:an,B=fun r=>au r∧r<w'.heap.size:=⟨_,rfl⟩;rw[←aw] at av J;have aI:∀ r,X r→r<w'.heap.size:=fun r h=>by rw[aw] at h;exact h.2
 refine⟨fun r=>A r∨X r,⟨J.1.mono fun r _ E=>W r E,fun r E=>?_,fun r E=>.inl E⟩,⟨.inl h1,fun r E ac=>?_,fun r E=>?_,fun r E=>?_⟩,ax,ay,aA,L,aB,X,w0,ak.U J.1 am,⟨aC,pz aD J.1 fun r o E aJ O=>V r (W r O) (al r o E aJ),al⟩,
  ⟨av,fun r E=>.inr E,fun E=>?_,fun r E=>⟨.inl (Z r E).1,fun aK=>?_⟩⟩,aX ao J.1 fun r E O=>(Z r (.inl E)).2 O,⟨ap.U J.1 fun r E O=>(Z r (.inr (.inl E))).2 O,aF.U J.1 fun r _ E O=>V r (W r O) E⟩,aq.U J.1 fun r E O=>(Z r (.inr (.inr E))).2 O,aG.U J.1 fun r _ E O=>V r (W r O) E⟩
 ·rcases E with E|E
  ·exact .inl E
  ·exact (J.2.1 r E).imp (W r) id
 ·have:=ai r ac;rcases E with E|E
  ·exact V r E ac
  ·rcases J.2.1 r E with h|h
   ·exact V r (W r h) ac
   ·omega
 ·have:=ai r E;have:=J.1.size;omega
 ·rcases E with E|E
  ·have:=aj r E;have:=J.1.size;omega
  ·exact aI r E
 ·rcases J.2.1 _ E with h|h
  ·exact am h
  ·have:=ak.lt;omega
 ·rcases J.2.1 r aK with h|h
  ·exact (Z r E).2 h
  ·rcases E with E|E|E
   ·obtain⟨h1,V⟩:=bw ao E;omega
   ·obtain⟨h1,V⟩:=ap.leads E;omega
   ·obtain⟨h1,V⟩:=aq.leads E;omega
def StateM (w:x2) (az gT:Nat) (A R:an) (n:bd) (s:aU) (t:aM):Prop:=∃ E J O U,eh w az gT E J O U A R n s t
theorem StateM.U {S:an} {w w':x2} {az gT:Nat} {A R:an} {n:bd} {s:aU} {t:aM} (h:StateM w az gT A R n s t) (E:af S w w') (J:∀ r,r<w.heap.size→A r∨R r→¬S r):StateM w' az gT A R n s t:=by
 obtain⟨O,V,W,X,h⟩:=h;exact⟨O,V,W,X,h.U E J⟩
theorem StateM.ext {w w':x2} {az gT:Nat} {A R:an} {n:bd} {s:aU} {t:aM} (h:StateM w az gT A R n s t) (J:Ext w w'):StateM w' az gT A R n s t:=h.U (J.U fun _=>False) fun _ _ _ h=>h
def xY (s s':aU):Prop:=gS s'=gS s∧s'.funs.length=s.funs.length∧(∀ (j:Nat) E,s'.funs[j]? =some E→ ∃ f,s.funs[j]? =some f∧E.sc=f.sc∧E.ai=f.ai∧e0 s' j=e0 s j)∧s'.kK=s.kK
theorem eh.same {w:x2} {az gT E:Nat} {O U V:x1} {A R:an} {n:bd} {s s':aU} {t:aM} (h:eh w az gT E O U V A R n s t) (X:xY s s'):eh w az gT E O U V A R n s' t:=by
 obtain⟨Y,Z,aa,ab,L,ac,ad,w0,ae,af,ah,ai,⟨aj,W⟩,ak,al⟩:=h;obtain⟨am,ao,ap,aq⟩:=X;refine⟨Y,Z,aa,ab,L,ac,ad,w0,ae,af,ah,by rw[am];exact ai,⟨aj,W.1.trans ao.symm,fun j x au J av=>?_⟩,ak,?_⟩
 ·obtain⟨f,ag,aw,ax,ay⟩:=ap j au av;rw[aw,ax,ay];exact W.2 j x f J ag
 ·unfold jj;rw[aq];exact al
theorem G9 (s:aU) (c:Int):xY s {s with zero:=c}:=⟨rfl,rfl,fun j f h=>⟨f,h,rfl,rfl,rfl⟩,rfl⟩
theorem aM.xZ (t:aM) (i:Nat) (x:Int):(t.set i x).marks=t.marks:=by
 unfold aM.set;cases t.cells[i]? with
 |none=>rfl
 |some c=>
  simp only;cases t.marks.getLast? with
  |none=>rfl
  |some m=>simp only;split <;> rfl
theorem aM.Ha (t:aM) (i:Nat) (x:Int):(t.set i x).cells.length=t.cells.length:=by
 have h:=congrArg X7 (aM.ov (t:=t) (i:=i) (x:=x));rw[X4] at h;unfold aM.bF at h;rwa [u7,u7] at h
theorem aM.Hb (t:aM) (i:Nat) (x:Int):(t.set i x).olds.length≤t.olds.length+1:=by
 unfold aM.set;cases t.cells[i]? with
 |none=>exact Nat.le_succ _
 |some c=>
  simp only;cases t.marks.getLast? with
  |none=>exact Nat.le_succ _
  |some m=>simp only;split <;> simp
theorem aM.x0 {t:aM} (h:t.marks=[]) (i:Nat) (x:Int):(t.set i x).olds=t.olds:=by
 unfold aM.set;cases t.cells[i]? with
 |none=>rfl
 |some c=>simp only[h,List.getLast?_nil]
def ez (t:aM) (l:List Int):Nat→aM
 |0=>t.grow l.length
 |i+1=>(ez t l i).set (t.cells.length+i) (l.getD i 0)
def jT (t:aM) (l:List Int):aM:=ez t l l.length
theorem nm (t:aM) (l:List Int):∀ i,(ez t l i).marks=t.marks
 |0=>rfl
 |i+1=>(aM.xZ _ _ _).trans (nm t l i)
theorem rR (t:aM) (l:List Int):∀ i,(ez t l i).cells.length=t.cells.length+l.length
 |0=>by simp[ez,aM.grow]
 |i+1=>(aM.Ha _ _ _).trans (rR t l i)
theorem rS (t:aM) (l:List Int):∀ i,(ez t l i).olds.length≤t.olds.length+i
 |0=>u9 _
 |i+1=>by have:=aM.Hb (ez t l i) (t.cells.length+i) (l.getD i 0);have:=rS t l i;show (aM.set _ _ _).olds.length≤_;omega
theorem x9 {t:aM} (h:t.marks=[]) (l:List Int):∀ i,(ez t l i).olds=t.olds
 |0=>rfl
 |i+1=>(aM.x0 ((nm t l i).trans h) _ _).trans (x9 h l i)
theorem ya (t:aM) (l:List Int):∀ i,i≤l.length→(ez t l i).bF=t.bF++(l.take i++v8 (l.length-i) 0)
 |0,_=>by rw[List.take_zero,List.nil_append];exact aM.CS
 |i+1,h=>by
  have E:=ya t l i (by omega);show (aM.set _ _ _).bF=_;have J:t.bF.length=t.cells.length:=by simp[aM.bF]
  rw[aM.ov,E,List.set_append_right _ _ (by omega),J,Nat.add_sub_cancel_left,List.set_append_right _ _ (by rw[o5];omega),o5,Nat.min_eq_left (by omega),X6,show l.length-i=(l.length-(i+1))+1 by omega,List.replicate_succ,List.set_cons_zero,u4,u6,y0 (show i<l.length by omega)];simp only[l9,Option.getD_some,X8,List.singleton_append]
theorem yb (t:aM) (l:List Int):(jT t l).bF=t.bF++l:=by
 unfold jT;rw[ya t l _ (u9 _),o3,X6,List.replicate_zero,V4]
theorem hf.ez {h:List aM} {t:aM} (E:hf t h) (l:List Int):∀ i,hf (ez t l i) h
 |0=>E.grow
 |i+1=>(hf.ez E l i).set
theorem kD {s:Go.Sem x1} {x:x1} {w:x2} (h:O x5 s w (fun v=>v=x)):bL x5 s x w:=by
 obtain⟨v,h,rfl⟩:=h;exact h
theorem pB {w:x2} {az off:Nat} {z:Nat} {E:u5} {e:u5} {cs:List x1} {x:x1} (J:ad w az e cs) (U:∀ (K:x1→Prop),O x5 (x8 ch (.pointer (some ⟨az,0,none⟩)) z) w K=K (.pointer (some ⟨az,0+off,none⟩))) (V:jC x5 E=true) (W:cs[0+off]? =some x):
  bL x5 (x7 E (.pointer (some ⟨az,0+off,none⟩))) x w∧bL x5 (x8 ch (.pointer (some ⟨az,0,none⟩)) z) (.pointer (some ⟨az,0+off,none⟩)) w∧bL x5 (bk (.pointer (some ⟨az,0,none⟩))) (.pointer (some ⟨az,0,none⟩)) w∧True:=
 ⟨uT V (J.cell W),kD (by rw[U]),kD (by rw[ax]),trivial⟩
set_option maxHeartbeats 2000000 in
theorem yc {w:x2} {az gT Z:Nat} {ab ad af:x1} {A R:an} {n:bd} {s:aU} {t:aM} {O:x1} {l:List Int} (h:eh w az gT Z ab ad af A R n s t) (ag:aC .i64 w O l) (av:∀ r,leads O r→¬A r) (a7:t.cells.length+l.length≤100000000) (a8:t.olds.length+l.length≤100000000) (hm:t.marks.length≤100000000):
  ah x5 tO [.pointer (some ⟨az,0,none⟩),O] w fun v w'=>v= .int .i64 (t.cells.length:Int)∧ ∃ U,Grow A w U w'∧eh w' az gT Z ab ad af U R n s (jT t l):=by
 refine aq func131 ?_;obtain⟨_,aw,ay,aA,L,aB,_,w0,ai,_⟩:=id h;obtain⟨aD,ak,al⟩:=h.pA;rw[ax,ae ch.p rfl,V (by kernel_rfl) (ai.cell (o:=0+1) rfl),aI ap.u ag];refine (GY (n:=l.length) ak ⟨by omega,by omega,hm⟩ (by omega)).mono ?_;rintro _ aE _ ⟨rfl,aG,aH,aJ⟩;obtain⟨aK,am,aL⟩:=al aG aE _ aH aJ;have au:∀ {U:an} {w':x2},Grow A w U w'→aC .i64 w' O l:=fun aN=>hg ag aN.1 fun r aO a aP c ac aQ=>av r ⟨a,aP,c,ac,aQ⟩ aO;rw[aI ap.u (au am)];have aR:=ag.le;refine bV.range l.length (fun i W=>∃ E,Grow A w E W∧eh W az gT Z ab ad af E R n s (ez t l i)) aR ⟨aK,am,aL⟩ ?_ ?_
 ·rintro i W k hi ⟨E,X,Y⟩ aS;rw[ao,aa];refine⟨fun _=>?_,fun h=>by omega⟩;obtain⟨x,J⟩:∃ x,l[i]? =some x:=⟨_,y0 hi⟩;rw[a1 ap.u aj.i (by kernel_rfl) (au X) J];obtain⟨_,aw,ay,aA,L,aB,_,w0,ai,_⟩:=id Y;obtain⟨aD,ak,al⟩:=Y.pA;have ba:=rR t l i;have bb:=rS t l i;have aT:=nm t l i;rw[ax,ae ch.p rfl,V (by kernel_rfl) (ai.cell (o:=0+1) rfl),aF,wrap_i64 (by omega) (by omega)];refine (rN (i:=t.cells.length+i) ak (by omega) (by omega) ⟨by omega,by omega,by rw[aT];exact hm⟩).mono ?_;rintro _ aV _ ⟨rfl,aW,aX,aY⟩;obtain⟨aZ,a2,a6⟩:=al aW aV _ aX aY;rw[aF];refine aS _ ⟨aZ,X.trans a2,?_⟩;have e:ez t l (i+1)=(ez t l i).set (t.cells.length+i) x:=by
   show (ez t l i).set _ (l.getD i 0)=_;rw[u6,J];rfl
  rw[e];exact a6
 ·rintro W k ⟨E,X,Y⟩;rw[ao,aa];exact⟨fun h=>by omega,fun _=>⟨rfl,E,X,Y⟩⟩
def gy (s:aU) (sc ai cs:List Int):aU:={s with funs:=s.funs++[⟨sc,ai,1,cs⟩]}
def kM (s:aU) (t:aM) (cs:List Int):aM:=(jT t (1::cs)).set 1 ((s.funs.length+1:Nat):Int)
theorem Hc {s:aU} {t:aM} {sc ai cs:List Int} (h:t.bF=s.cells):(kM s t cs).bF=(gy s sc ai cs).cells:=by
 unfold kM gy;rw[aM.ov,yb,h,←G1];rfl
set_option maxHeartbeats 4000000 in
theorem Hd {w:x2} {az gT bn:Nat} {bo a1 bp:x1} {A R:an} {n:bd} {s:aU} {t:aM} {aN:x1} {sc ai cs:List Int} {g b6:Nat} {ay:x1} {k:Int}
  (h:eh w az gT bn bo a1 bp A R n s t) (ac:t.bF=s.cells) (cE:aC .i64 w aN sc) (dD:∀ r,leads aN r→¬A r) (bq:cp w g b6 ay ai k cs) (b7:¬A g∧¬A b6∧ ∀ r,leads ay r→¬A r) (dE:sc.length≤1000)
  (br:t.cells.length+cs.length+1≤100000000) (bt:t.olds.length+cs.length+1≤100000000) (hm:t.marks.length≤100000000) (ag:s.funs.length≤1000000):
  ah x5 AO [.pointer (some ⟨az,0,none⟩),aN,.pointer (some ⟨g,0,none⟩)] w fun v w'=>v= .int .i64 (s.funs.length:Int)∧ ∃ bg R' bN,Grow A w bg w'∧eh w' az gT bn bo bN bp bg R' n (gy s sc ai cs) (kM s t cs)∧(∀ r,R r→R' r)∧ ∀ r,R' r→R r∨leads ay r∨w.heap.size≤r:=by
 have dF:t.cells.length=s.cells.length:=by rw[←ac];simp[aM.bF]
 have dG:=nk s;have cF:e0 (gy s sc ai cs) s.funs.length=t.cells.length:=by
  unfold e0 gy;simp only[List.take_left];omega
 have cG:∀ j,j<s.funs.length→e0 (gy s sc ai cs) j=e0 s j:=fun j bO=>by
  unfold e0 gy;simp only[List.take_append_of_le_length (show j≤s.funs.length by omega)]
 have cH:gS (gy s sc ai cs)=gS s:=rfl;refine aq func133 ?_;refine dd (fun bP=>∃ bg R' bN,Grow A w bg bP∧eh bP az gT bn bo bN bp bg R' n (gy s sc ai cs) (jT t (1::cs))∧(∀ r,R r→R' r)∧ ∀ r,R' r→R r∨leads ay r∨w.heap.size≤r) ?_ ?_
 ·rintro bP ⟨dH,cJ,cK,cL,cM,cN,cO⟩;intro dI b8 _ _;have b9:=cM.ext b8;obtain⟨_,bu,bQ,bx,L,bz,_,w0,aI,_,_,_,⟨bh,bA⟩,_⟩:=id b9;have bC:L.length=s.funs.length+1:=by rw[bA.1];simp[gy]
  rw[ax,ae ch.p rfl,V (by kernel_rfl) (aI.cell (o:=0+1) rfl),ax,ae ch.p rfl,V (by kernel_rfl) (aI.cell (o:=0+3) rfl),dK dZ.u bh];obtain⟨ca,cP,cQ⟩:=b9.pA;have cR:=rR t (1::cs) (1::cs).length;have cS:=rS t (1::cs) (1::cs).length;have cT:=nm t (1::cs) (1::cs).length;simp only[l6] at cR cS;refine (rN (i:=1) (y:=1) cP rfl (by show 1<(ez _ _ _).cells.length;simp only[l6];omega) ⟨by show (ez _ _ _).cells.length≤_;simp only[l6];omega,by show (ez _ _ _).olds.length≤_;simp only[l6];omega,by show (ez _ _ _).marks.length≤_;rw[cT];exact hm⟩).mono ?_;rintro _ cU _ ⟨rfl,cV,cW,cX⟩;obtain⟨cZ,c0,cb⟩:=cQ cV cU _ cW cX;obtain⟨_,bu,bQ,bx,c1,bz,_,w0,aI,_,_,_,⟨bh,c2⟩,_⟩:=id cb;have dJ:c1.length=s.funs.length+1:=by rw[c2.1];simp[gy]
  rw[ax,ae ch.p rfl,V (by kernel_rfl) (aI.cell (o:=0+3) rfl),dK dZ.u bh,cY,wrap_i64 (by omega) (by omega)];refine⟨by congr 1;omega,cZ,cJ,cK,cL.trans ((Grow.ext b8).trans c0),?_,cN,cO⟩;have e:kM s t cs=(jT t (1::cs)).set 1 (L.length:Int):=by unfold kM;rw[bC]
  rw[e];exact cb
 intro c3 c4;intro aT a8 _ _;have cc:=h.ext a8;obtain⟨_,bu,bQ,bx,L,bz,_,w0,aI,_⟩:=id cc;rw[ax,ae ch.p rfl,V (by kernel_rfl) (aI.cell (o:=0+3) rfl)];have z4:=a8.size;have bD:∀ {X:x2} {aE aB:x1} {ba aF:Nat},Ext aT X→w.heap.size≤ba→w.heap.size≤aF→am .i64 ab X ba aE sc→am .i64 aj X aF aB (1::cs)→(∀ r,leads aE r∨leads aB r→¬A r)→
   ah x5 tO [.pointer (some ⟨az,0,none⟩),aB] X fun c5 aJ=>
    (Ext aT aJ∨bL x5 (x7 dZ (.pointer (some ⟨az,0+3,none⟩))) a1 aJ∧bL x5 (x8 ch (.pointer (some ⟨az,0,none⟩)) 3) (.pointer (some ⟨az,0+3,none⟩)) aJ∧bL x5 (bk (.pointer (some ⟨az,0,none⟩))) (.pointer (some ⟨az,0,none⟩)) aJ∧True)∧
    O x5 (Instr.build eF #[(0,aE),(1,.agg #[ay]),(2,c5)]) aJ fun t22=>
    aA x5 (j9 dZ 1 #[(0,t22)]) aJ fun c6 aK=>
     (Ext aT aK∨bL x5 (x7 dZ (.pointer (some ⟨az,0+3,none⟩))) a1 aK∧bL x5 (x8 ch (.pointer (some ⟨az,0,none⟩)) 3) (.pointer (some ⟨az,0+3,none⟩)) aK∧bL x5 (bk (.pointer (some ⟨az,0,none⟩))) (.pointer (some ⟨az,0,none⟩)) aK∧True)∧
    aA x5 (l5 #[dZ,dZ] dZ #[a1,c6]) aK fun c7 bE=>
     O x5 (bk (.pointer (some ⟨az,0,none⟩))) bE fun t25=>
     O x5 (x8 ch t25 3) bE fun c8=>
     aA x5 (o7 dZ c8 c7) bE fun(_:Unit) bb=>
      c3 bb:=by
  intro X aE aB ba aF Y cd aD aa al bR;have c9:=cc.ext Y;refine (yc c9 al.ls (fun r E=>bR r (.inr E)) (by simp only[l6];omega) (by simp only[l6];omega) hm).mono ?_;rintro _ aJ _ ⟨rfl,bi,bc,da⟩;obtain⟨⟨ce,cg,db,ci⟩,bu,bQ,bx,L,bz,ca,w0,aI,⟨dc,de,cj⟩,⟨df,ck,cl,aV⟩,bS,⟨bh,bA⟩,bT,dg⟩:=id da;have aQ:am .i64 ab aJ ba aE sc:=aX aa bc.1 fun r E=>bR r (.inl E);have bG:am .i64 ab X (Classical.choose (show ∃ gs,am .i64 ab w gs ay ai from by obtain⟨⟨_,gs,_,q,_⟩,_⟩:=bq;exact⟨gs,q⟩)) ay ai:=((Classical.choose_spec (show ∃ gs,am .i64 ab w gs ay ai from by obtain⟨⟨_,gs,_,q,_⟩,_⟩:=bq;exact⟨gs,q⟩)).ext a8).ext Y;have dh:=aX bG bc.1 b7.2.2;refine⟨.inr (pB (off:=3) (z:=3) aI (fun K=>by rw[ae ch.p rfl]) (by kernel_rfl) rfl),?_⟩;rw[cI (cs:=#[aE,ay,.int .i64 (t.cells.length:Int)]) (by obtain⟨_,_,_,rfl⟩:=ct aa.ls;obtain⟨_,_,_,rfl⟩:=ct bG.ls;kernel_rfl)];let a:lS:=⟨aE,ay,t.cells.length⟩;have di:∀ u∈lT a,u.oneCell'=true:=by
   intro u hu;simp[lT] at hu;rcases hu with rfl|rfl|rfl
   ·exact aa.ls.cells.2
   ·exact bG.ls.cells.2
   ·rfl
  refine eV (f:=lT) (a:=a) dZ.u eF.i (by omega) rfl rfl fun dL dM aK dN ak dj=>?_;refine⟨.inr (pB (off:=3) (z:=3) (aI.ext ak) (fun K=>by rw[ae ch.p rfl]) (by kernel_rfl) rfl),?_⟩;have bH:=bh.ext ak;have bC:L.length=s.funs.length:=bA.1;refine e9 (f:=lT) (a:=a) dZ.u eF.i rfl bH (by simpa using dj.sl) di (by omega) (by omega) fun cm dl bE bj dm cn=>?_;have bI:=aI.ext ak;have cq:=bI.U cn fun he=>b4 bH bI (by decide) he;rw[ax,ae ch.p rfl];refine aZ dZ.i (cu bj.sl).1 (cu bj.sl).2 cq (by simp) fun bb bU dO bV=>?_;have bV:ad bb az ch [.pointer (some ⟨bn,0,none⟩),.pointer (some ⟨gT,0,none⟩),bo,cm,bp]:=bV;have aR:af (fun r=>leadsTo a1 r∨r=az) aK bb:=(cn.mono fun r _ h=>.inl h).trans (bU.mono fun r _ h=>.inr h);have z9:=Y.size;have dP:=bc.1.size;have dQ:=ak.size;have dR:=aR.size;have bW:∀ r,(leadsTo a1 r∨r=az)→bi r:=fun r E=>E.elim (fun E=>(aV r (.inr (.inl E))).1) fun E=>E▸ce;have bX:∀ r,(leadsTo a1 r∨r=az)→¬R r:=fun r E=>cg r (bW r E);let dn:an:=fun r=>bi r∨(aK.heap.size≤r∧r<bb.heap.size);let bY:an:=fun r=>R r∨(leads ay r∧r<aJ.heap.size)∨(leads aE r∧r<aJ.heap.size);have dS:∀ r,r<w.heap.size→bi r→A r:=fun r E h=>(bc.2.1 r h).elim id fun h=>by omega
  have bZ:∀ r,leads aE r→w.heap.size≤r∧r<X.heap.size:=fun r E=>by obtain⟨h1,be⟩:=bw aa E;omega
  have cr:∀ r,leads ay r→r<X.heap.size:=fun r E=>by obtain⟨h1,be⟩:=bw bG E;omega
  have bJ:∀ r,leads aE r∨leads ay r→¬bi r:=fun r E dp=>by
   rcases bc.2.1 r dp with h|h
   ·rcases E with E|E
    ·exact bR r (.inl E) h
    ·exact b7.2.2 r E h
   ·rcases E with E|E
    ·have:=bZ r E;omega
    ·have:=cr r E;omega
  refine c4 _ ⟨dn,bY,cm,(Grow.ext (a8.trans Y)).trans (bc.trans ((Grow.ext ak).trans ⟨aR.mono fun r _ E=>bW r E,fun r E=>E.imp id And.left,fun r E=>.inl E⟩)),?_,fun r E=>.inl E,fun r E=>?_⟩
  rotate_left
  ·rcases E with E|E|E
   ·exact .inl E
   ·exact .inr (.inl E.1)
   ·exact .inr (.inr (bZ r E.1).1)
  have cw:∀ {v:x1} {bl:Nat} {l:List Int},am .i64 ab aK bl v l→(∀ r,leads v r→¬bi r)→am .i64 ab bb bl v l:=fun hm dq=>aX hm aR fun r E Z=>dq r E (bW r Z);have cz:∀ r,bY r→r<aK.heap.size:=fun r E=>by
   rcases E with E|E|E
   ·have:=db r E;omega
   ·omega
   ·omega
  refine⟨⟨.inl ce,fun r E aW=>?_,fun r E=>by have:=cz r E;omega,fun r E=>E.elim (fun E=>by have:=ci r E;omega) And.right⟩,bu,dl,bx,L++[a],bz,ca,w0,bV,⟨dc,pz (de.trans ak) aR fun r o E bt Z=>bX r Z (cj r o E bt),fun r o E bt=>.inl (cj r o E bt)⟩,⟨(df.ext ak).U aR fun r E Z=>?_,fun r E=>.inl (ck r E),cl,fun r E=>?_⟩,?_,⟨bj.U bU fun r E he=>?_,?_⟩,(bT.ext ak).U aR fun r E Z=>?_,?_⟩
  ·have:=cz r aW;rcases E with E|E
   ·rcases aW with aW|aW|aW
    ·exact cg r E aW
    ·exact bJ r (.inr aW.1) E
    ·exact bJ r (.inl aW.1) E
   ·omega
  ·rcases Z with Z|rfl
   ·exact (aV r (.inr (.inl Z))).2 E
   ·exact cl E
  ·rcases E with E|E|E
   ·exact⟨.inl (aV r (.inl E)).1,(aV r (.inl E)).2⟩
   ·obtain⟨h1,be⟩:=bj.leads E;rcases dm r E with h|h
    ·exact⟨.inl (aV r (.inr (.inl h))).1,(aV r (.inr (.inl h))).2⟩
    ·refine⟨.inr ⟨h,by have:=bU.size;omega⟩,fun dr=>?_⟩;have:=ci r (ck r dr);omega
   ·exact⟨.inl (aV r (.inr (.inr E))).1,(aV r (.inr (.inr E))).2⟩
  ·rw[cH];exact aX (bS.ext ak) aR fun r E Z=>by
    rcases Z with Z|rfl
    ·obtain⟨rfl,c,br⟩:=dk bH Z;exact bB (bS.ext ak) br (by decide) E rfl
    ·exact bB (bS.ext ak) bI (by decide) E rfl
  ·have he:r=az:=he;subst he;exact b4 bj cq (by decide) E
  ·refine⟨by rw[r8,bC];simp[gy],fun j x f J a2=>?_⟩;have a2:(s.funs++[⟨sc,ai,1,cs⟩])[j]? =some f:=a2;by_cases bO:j<s.funs.length
   ·rw[Z0 (by omega)] at J;rw[Z0 bO] at a2;obtain⟨ds,dt,du⟩:=((((ji.U bA (ak.U fun _=>False) fun _ _ _ h=>h).U aR fun r _ E Z=>bX r Z E).mono (R':=bY) fun r E=>.inl E)).2 j x f J a2;exact⟨ds,dt,by rw[cG j bO];exact du⟩
   ·have b1:j=s.funs.length:=by have:=(x3.1 a2).1;simp at this;omega
    rw[Z2 (by omega),bC,b1,X6] at J;rw[Z2 (by omega),b1,X6] at a2;cases J;cases a2;refine⟨⟨⟨_,cw (aQ.ext ak) fun r E=>bJ r (.inl E)⟩,fun r E=>.inr (.inr ⟨E,?_⟩)⟩,⟨⟨_,cw (dh.ext ak) fun r E=>bJ r (.inr E)⟩,fun r E=>.inr (.inl ⟨E,?_⟩)⟩,?_⟩
    ·have:=bZ r E;omega
    ·have:=cr r E;omega
    ·rw[b1,cF]
  ·rcases Z with Z|rfl
   ·obtain⟨rfl,c,br⟩:=dk bH Z;exact b4 (bT.ext ak) br (by decide) E
   ·exact b4 (bT.ext ak) bI (by decide) E
  ·exact ((jj.U dg (ak.U fun _=>False) fun _ _ _ h=>h).U aR fun r _ E Z=>bX r Z E).mono fun r E=>.inl E
 have bf:=bq.ext a8;have cA:=cE.ext a8;have dv:∀ r,A r→r<w.heap.size:=h.1.2.2.2;obtain⟨_,⟨_,_,dT⟩,dU,dV⟩:=id bq;have dW:cs.length≤4096:=by omega
 have bK:∀ {aL:x2} {a6 a7:x1} {aw:Nat} {K:x1→x2→Prop},Ext aT aL→aT.heap.size≤aw→am .i64 aj aL aw a6 [1]→aC .i64 aL a7 cs→
   (∀ aB aF X,Ext aT X→af (fun r=>r=aw) aL X→w.heap.size≤aF→am .i64 aj X aF aB (1::cs)→(Ext aT X→K aB X))→aA x5 (l5 #[ap,ap] ap #[a6,a7]) aL K:=by
  intro aL a6 a7 aw K W bM aO aS dw;refine gM ap.u aj.i rfl aO aS (by simp;omega) (by simp;omega) fun aB aF X aD al aP=>?_;have Y:Ext aT X:=W.then aP fun r E he=>by have he:r=aw:=he;omega
  have dx:=W.size;exact dw aB aF X Y aP (by omega) al Y
 have aY:∀ {v:x1} {bl:Nat} {dy:r9} {e:u5} {dz:x2} {l:List Int},am dy e dz bl v l→w.heap.size≤bl→ ∀ r,leads v r→¬A r:=fun hm dX r E dA=>by
  obtain⟨h1,_⟩:=bw hm E;have:=dv r dA;omega
 refine⟨?_,?_⟩
 ·refine (hQ cA (by omega)).mono ?_;rintro aE cB _ ⟨ao,ba,cd,aa⟩;have z5:=ao.size;refine⟨.inl ao,?_,?_⟩
  ·refine (lF (bf.ext ao)).mono ?_;rintro _ cC _ ⟨rfl,au⟩;have aG:=ao.trans au;have dY:=aG.size;have ea:=au.size;have cD:=(bf.ext ao).ext au;refine⟨.inl aG,?_,?_⟩
   ·refine dC ap.u aj.i rfl fun a6 aw aL bM W aO=>?_;refine⟨.inl (aG.trans W),?_⟩;refine (jN (cD.ext W)).mono ?_;rintro a7 b2 _ ⟨av,b3,b5,aS⟩;have aH:=(aG.trans W).trans av;refine⟨.inl aH,?_⟩;refine bK aH (by omega) (aO.ext av) aS.ls fun aB aF X Y aP aD al _=>⟨.inl Y,?_⟩;have aQ:=aX (((aa.ext au).ext W).ext av) aP fun r E he=>by have he:r=aw:=he;obtain⟨h1,be⟩:=bw aa E;omega
    exact bD Y (by omega) aD aQ al fun r E=>E.elim (aY aa (by omega) r) (aY al aD r)
   ·refine (jN cD).mono ?_;rintro a7 aL _ ⟨W,b3,b5,aS⟩;refine⟨.inl (aG.trans W),?_⟩;have dx:=W.size;refine dC ap.u aj.i rfl fun a6 aw b2 bM av aO=>?_;have aH:=(aG.trans W).trans av;refine⟨.inl aH,?_⟩;refine bK aH (by omega) aO (aS.ls.ext av) fun aB aF X Y aP aD al _=>⟨.inl Y,?_⟩;have aQ:=aX (((aa.ext au).ext W).ext av) aP fun r E he=>by have he:r=aw:=he;obtain⟨h1,be⟩:=bw aa E;omega
    exact bD Y (by omega) aD aQ al fun r E=>E.elim (aY aa (by omega) r) (aY al aD r)
  ·refine dC ap.u aj.i rfl fun a6 aw cC bM au aO=>?_;have aG:=ao.trans au;refine⟨.inl aG,?_⟩;refine (lF ((bf.ext ao).ext au)).mono ?_;rintro _ aL _ ⟨rfl,W⟩;have bm:=aG.trans W;refine⟨.inl bm,?_⟩;refine (jN (((bf.ext ao).ext au).ext W)).mono ?_;rintro a7 b2 _ ⟨av,b3,b5,aS⟩;have aH:=bm.trans av;refine⟨.inl aH,?_⟩;refine bK aH (by omega) ((aO.ext W).ext av) aS.ls fun aB aF X Y aP aD al _=>⟨.inl Y,?_⟩;have aQ:=aX (((aa.ext au).ext W).ext av) aP fun r E he=>by have he:r=aw:=he;obtain⟨h1,be⟩:=bw aa E;omega
   exact bD Y (by omega) aD aQ al fun r E=>E.elim (aY aa (by omega) r) (aY al aD r)
 ·refine dC ap.u aj.i rfl fun a6 aw cB bM ao aO=>?_;refine⟨.inl ao,?_⟩;have z5:=ao.size;have eb:aw<cB.heap.size:=pf aO (by simp);refine (hQ (cA.ext ao) (by omega)).mono ?_;rintro aE cC _ ⟨au,ba,cd,aa⟩;have aG:=ao.trans au;refine⟨.inl aG,?_⟩;refine (lF ((bf.ext ao).ext au)).mono ?_;rintro _ aL _ ⟨rfl,W⟩;have bm:=aG.trans W;refine⟨.inl bm,?_⟩;refine (jN (((bf.ext ao).ext au).ext W)).mono ?_;rintro a7 b2 _ ⟨av,b3,b5,aS⟩;have aH:=bm.trans av;refine⟨.inl aH,?_⟩;refine bK aH (by omega) (((aO.ext au).ext W).ext av) aS.ls fun aB aF X Y aP aD al _=>⟨.inl Y,?_⟩;have aQ:=aX ((aa.ext W).ext av) aP fun r E he=>by have he:r=aw:=he;obtain⟨h1,be⟩:=bw aa E;omega
  exact bD Y (by omega) aD aQ al fun r E=>E.elim (aY aa (by omega) r) (aY al aD r)
theorem fF {P:Y3} {w:x2} {t e ad:u5} {k:r9} {b g:Nat} {z v x:x1} {l m:List Int} {K:x1→x2→Prop} (X:P.underlying t=some (.slice e)) (hi:aE P e 1 b z) (Y:z.cells.size=1)
  (h:am k e w g v l) (J:aC k w x m) (Z:(l.length+m.length)*b≤140737488355328) (aa:l.length+m.length≤9223372036854775807)
  (ab:∀ E O w',am k e w' O E (l++m)→(∀ r,leads E r→leads v r∨w.heap.size≤r)→af (fun r=>leads v r) w w'→K E w'):aA P (l5 #[t,t] ad #[v,x]) w K:=by
 rcases h.2 with⟨ac,ae⟩|⟨cap,cs,ac,ai,aj⟩
 ·have ag:l=[]:=o8 ae;subst ag;have h':am k e w w.heap.size v []:=by rw[ac];exact am.nil _ _ _ _
  refine gM X hi Y h' J Z aa fun E O w' V hm W=>ab E O w' hm (fun r U=>.inr ?_) (W.mono fun r U he=>by have he:r=w.heap.size:=he;omega);obtain⟨ah,_⟩:=bw hm U;omega
 ·refine gM X hi Y h J Z aa fun E O w' V hm W=>ab E O w' hm (fun r U=>?_) (W.mono fun r U he=>⟨_,_,_,ac,he.symm⟩);obtain⟨ah,_⟩:=bw hm U;rcases V with V|V
  ·exact .inl ⟨_,_,_,ac,by show g=r;omega⟩
  ·exact .inr (by omega)
def addVar (s:aU) (u:List Int):aU:={s with vars:=s.vars++[newVar u]}
theorem He (s:aU) (u:List Int):gS (addVar s u)=gS s++[((3+(s.vars.flatMap iD).length:Nat):Int)]:=by
 unfold gS addVar;rw[r8,U2,List.range_succ,o9];congr 1
 ·apply List.map_congr_left;intro i hi;have:=List.mem_range.1 hi;unfold gw;simp only[List.take_append_of_le_length (show i≤s.vars.length by omega)]
 ·simp[gw]
theorem Hf {s:aU} {u:List Int} (ag:s.funs=[]):(addVar s u).cells=s.cells++(0::0::u):=by
 unfold aU.cells addVar kL;simp only[ag,List.flatMap_nil,V4,List.flatMap_append,List.flatMap_singleton,X8];rfl
def dE (n:bd) (i j:Nat):aU:=⟨n.zero,(n.unary.take i).map newVar,(n.funs.take j).map (jS n.sizes),[]⟩
theorem yd {n:bd} {i:Nat} {u:List Int} (h:n.unary[i]? =some u):dE n (i+1) 0=addVar (dE n i 0) u:=by
 unfold dE addVar;simp only[u4,h,l9,o9,List.map_singleton]
theorem Hg {n:bd} {i j:Nat} {g:bU} (h:n.funs[j]? =some g):dE n i (j+1)=gy (dE n i j) g.1 (bI n.sizes g.1) g.2:=by
 unfold dE gy;simp only[u4,h,l9,o9,List.map_singleton];rfl
theorem ye (n:bd):dE n n.unary.length n.funs.length=cD n:=by
 unfold dE cD;rw[o3,o3]
theorem rT {α β:Type} {f:α→List β} {b:Nat}:∀ {L:List α},(∀ x∈L,(f x).length≤b)→(L.flatMap f).length≤L.length*b
 |[],_=>by simp
 |x::L,h=>by
  rw[W7,r8,l6,W3];have:=rT (L:=L) fun y E=>h y (.tail _ E);have:=h x (.head _);omega
theorem rU {n:bd} (E:gR n) (ag:n.funs.length≤256) (i j:Nat):(dE n i j).cells.length≤2000000:=by
 rw[nk];have h1:=rT (f:=iD) (b:=34) (L:=(dE n i j).vars) fun x J=>by
  obtain⟨u,hu,rfl⟩:=o6.1 (show x∈(n.unary.take i).map newVar from J);obtain⟨p,U⟩:=Y6.1 (List.mem_of_mem_take hu);have aa:=E.hs;have ab:=(x3.1 U).1;obtain⟨z,V⟩:∃ z,n.sizes[p]? =some z:=⟨_,y0 (by omega)⟩;have X:=(E.unary p z u V U).1;have O:=E.sizes.2.2 z (x4 V);show u.length+2≤34;omega
 have X:=rT (f:=fE) (b:=4097) (L:=(dE n i j).funs) fun x J=>by
  obtain⟨g,Y,rfl⟩:=o6.1 (show x∈(n.funs.take j).map (jS n.sizes) from J);have O:=(E.funs g (List.mem_of_mem_take Y)).1;have W:=O.len;have Z:=O.small;show g.2.length+1≤4097;omega
 have O:(dE n i j).vars.length≤64:=by
  show ((n.unary.take i).map newVar).length≤64;rw[u7,o5];have:=E.hs;have:=E.sizes.2.1;omega
 have W:(dE n i j).funs.length≤256:=by
  show ((n.funs.take j).map (jS n.sizes)).length≤256;rw[u7,o5];omega
 have Z:=Y7 34 O;have ac:=Y7 4097 W;omega
def Plain (t:aM):Prop:=t.marks=[]∧t.olds=[]∧hf t []
theorem Plain.set {t:aM} (h:Plain t) (i:Nat) (x:Int):Plain (t.set i x):=⟨(aM.xZ _ _ _).trans h.1,(aM.x0 h.1 _ _).trans h.2.1,h.2.2.set⟩
theorem Plain.lay {t:aM} (h:Plain t) (l:List Int):Plain (jT t l):=⟨(nm _ _ _).trans h.1,(x9 h.1 _ _).trans h.2.1,h.2.2.ez l _⟩
theorem Plain.put {s:aU} {t:aM} (h:Plain t) (cs:List Int):Plain (kM s t cs):=(h.lay _).set _ _
def Hh (w:x2) (n:bd) (v:x1) (w':x2):Prop:=Ext w w'∧ ∃ az gT A R t,v= .pointer (some ⟨az,0,none⟩)∧StateM w' az gT A R n (cD n) t∧t.bF=(cD n).cells∧Plain t∧ ∀ r,A r→w.heap.size≤r
set_option maxHeartbeats 4000000 in
theorem Hi {w:x2} {W:Nat} {n:bd} (h:eO w W n) (X:gR n) (ag:n.funs.length≤256):ah x5 tE [.pointer (some ⟨W,0,none⟩)] w (Hh w n):=by
 have b3:=X.hs;have c7:=X.sizes.2.1;refine aq func48 ?_;rw[cB iX.u];simp only[c5,aP];refine (GZ (n:=3) (by omega)).mono ?_;rintro _ bo _ ⟨aL,gT,rfl,b4⟩;rw[cI (cs:=#[.pointer (some ⟨W,0,none⟩),.pointer (some ⟨gT,0,none⟩),.slice none 0 0,.slice none 0 0,.slice none 0 0]) (by kernel_rfl)];refine a7 fun az bp c9 ay aA=>?_;have aA:ad bp az ch [.pointer (some ⟨W,0,none⟩),.pointer (some ⟨gT,0,none⟩),.slice none 0 0,.slice none 0 0,.slice none 0 0]:=aA;have da:=aL.size;have db:=ay.size;have dc:=aA.lt;have b5:eh bp az gT W (.slice none 0 0) (.slice none 0 0) (.slice none 0 0) (fun r=>r=az∨(w.heap.size≤r∧r<bo.heap.size)) (fun r=>r<w.heap.size) n ⟨0,[],[],[]⟩ ⟨v8 3 ⟨0,0⟩,[],[],0⟩:=by
  refine⟨⟨.inl rfl,fun r E ak=>?_,fun r E=>?_,fun r E=>?_⟩,0,0,0,[],[],fun r=>w.heap.size≤r∧r<bo.heap.size,w,aA,⟨h,aL.trans ay,fun r o E _=>(o4.1 E).1⟩,⟨(b4.cut).ext ay,fun r E=>.inr E,fun E=>?_,fun r E=>?_⟩,am.nil _ _ _ _,⟨aR.nil _ _ _ _ _,rfl,fun j x f J=>by simp at J⟩,aR.nil _ _ _ _ _,rfl,fun j x f J=>by simp at J⟩
  ·have ak:r<w.heap.size:=ak;rcases E with E|E <;> omega
  ·have E:r<w.heap.size:=E;omega
  ·rcases E with E|E <;> omega
  ·omega
  ·rcases E with E|E|E
   ·obtain⟨a,dd,c,a8,de⟩:=E;cases a8
   ·exact (dp E).elim
   ·exact (dp E).elim
 intro df aB _ _;have b6:=b5.ext aB;rw[ax,ae ch.p rfl,V (by kernel_rfl) ((aA.ext aB).cell (o:=0+1) rfl)];refine (G4 (h.ext ((aL.trans ay).trans aB))).mono ?_;rintro _ dg _ ⟨rfl,aO⟩;refine⟨.inl aO,?_⟩;have b7:=b6.ext aO;obtain⟨ba,b8,b9⟩:=b7.pA;refine (rN (i:=0) (y:=0) b8 rfl (by decide) ⟨by simp,by simp,by simp⟩).mono ?_;rintro _ bq _ ⟨_,ca,cb,cc⟩;obtain⟨cd,br,bb⟩:=b9 ca bq _ cb cc;have bb:=bb.same (G9 ⟨0,[],[],[]⟩ n.zero);have z3:=aB.size;have z4:=aO.size;have ce:=((aL.trans ay).trans aB).trans aO;have bt:Ext w bq:=ce.then br.1 fun r E he=>by rcases he with he|he <;> omega
 refine (rQ (h.ext bt)).mono ?_;rintro _ dh _ ⟨rfl,bu⟩;refine bV.range n.sizes.length (fun i aQ=>∃ A ai t,Ext w aQ∧eh aQ az gT W ai (.slice none 0 0) (.slice none 0 0) A (fun r=>r<w.heap.size) n (dE n i 0) t∧t.bF=(dE n i 0).cells∧Plain t∧ ∀ r,A r→w.heap.size≤r) (by omega)
  ⟨cd,_,_,bt.trans bu,bb.ext bu,?_,?_,fun r E=>?_⟩ ?_ ?_
 ·rw[aM.ov];rfl
 ·exact Plain.set (t:=⟨v8 3 ⟨0,0⟩,[],[],0⟩) ⟨rfl,rfl,rfl,rfl,fun c Z=>by rw[(List.mem_replicate.1 Z).2];exact u9 _⟩ _ _
 ·rcases br.2.1 r E with he|he
  ·rcases he with he|he <;> omega
  ·omega
 ·rintro i aQ cg hi ⟨A,ai,t,au,bc,aC,aD,aS⟩ ci;obtain⟨u,hu⟩:∃ u,n.unary[i]? =some u:=⟨_,y0 (by omega)⟩;obtain⟨bx,bz⟩:∃ z,n.sizes[i]? =some z:=⟨_,y0 (by omega)⟩;have di:u.length≤32:=by
   have dj:=(X.unary i bx u bz hu).1;have dk:=X.sizes.2.2 bx (x4 bz);omega
  rw[ao,aa];refine⟨fun _=>?_,fun h=>by omega⟩;refine (xV (h.ext au) X).mono ?_;rintro dl dm _ ⟨cj,_,ck⟩;obtain⟨dn,dq,cl⟩:=ck u (by omega) (by rw[c8];exact hu);intro be bA _ _;have bf:=cj.trans bA;have bC:=bc.ext bf;obtain⟨⟨_,_,_,aE⟩,cm,bD,bE,L,bG,ba,w0,aT,_⟩:=id bC;have dr:=bf.size;have ds:=au.size;rw[ax,ae ch.p rfl,V (by kernel_rfl) (aT.cell (o:=0+2) rfl)];refine ox (l:=[0,0]) ap.u aj.i (by omega) rfl (by kernel_rfl) fun cn dt du dv aU bH=>?_;refine⟨.inl aU,?_⟩;refine fF ap.u aj.i rfl bH ((cl.ext bA).ls.ext aU) (by simp;omega) (by simp;omega) fun cp dw cq cr ct cu=>?_;have bI:∀ r,leads cn r→be.heap.size≤r:=fun r E=>by obtain⟨a8,_⟩:=bw bH E;omega
  have aV:Ext be cq:=aU.then cu fun r E he=>by have:=bI r he;omega
  refine⟨.inl aV,?_⟩;have cw:=bC.ext aV;have cz:∀ r,leads cp r→be.heap.size≤r:=fun r E=>by
   rcases ct r E with h|h
   ·exact bI r h
   ·have:=aU.size;omega
  have cA:t.cells.length≤2000000:=by
   have h1:=rU X ag i 0;rw[←aC] at h1;unfold aM.bF at h1;rwa [u7] at h1
  have cC:t.olds.length=0:=by rw[aD.2.1];rfl
  have cE:t.marks.length=0:=by rw[aD.1];rfl
  refine (yc cw cr.ls (fun r E O=>by have:=aE r O;have:=cz r E;omega) (by simp;omega) (by simp;omega) (by omega)).mono ?_;rintro _ dx _ ⟨rfl,bg,bh,cF⟩;obtain⟨⟨bJ,bK,cG,bL⟩,cm,bD,bE,L,bG,ba,w0,aT,⟨cH,cJ,bM⟩,⟨cK,bN,bO,aW⟩,cL,⟨cM,cN⟩,cO,cP⟩:=id cF;refine⟨.inr (pB (off:=2) (z:=2) aT (fun K=>by rw[ae ch.p rfl]) (by kernel_rfl) rfl),?_⟩;refine dC (k:=.i64) al.u ab.i rfl fun dy dz bP dA ac cQ=>?_;have bi:=aT.ext ac;refine⟨.inr (pB (off:=2) (z:=2) bi (fun K=>by rw[ae ch.p rfl]) (by kernel_rfl) rfl),?_⟩;have bQ:(gS (dE n i 0)).length=i:=by
   unfold gS dE;simp only[u7,List.length_range,o5];omega
  have bR:=cL.ext ac;refine fF al.u ab.i rfl bR cQ.ls (by rw[bQ];simp;omega) (by rw[bQ];simp;omega) fun bS cR dD aG cS bT=>?_;have bU:=bi.U bT fun he=>bB bR bi (by decide) he rfl;rw[ax,ae ch.p rfl];refine aZ al.i aG.ls.cells.1 aG.ls.cells.2 bU (by simp) fun bj bk dF bl=>?_;have bl:ad bj az ch [.pointer (some ⟨W,0,none⟩),.pointer (some ⟨gT,0,none⟩),bS,.slice none 0 0,.slice none 0 0]:=bl;rw[aF];have Z:af (fun r=>leads ai r∨r=az) bP bj:=(bT.mono fun r _ h=>.inl h).trans (bk.mono fun r _ h=>.inr h);have dG:=aV.size;have z12:=bh.1.size;have dH:=ac.size;have dI:=Z.size;have bW:∀ r,bg r→w.heap.size≤r:=fun r E=>(bh.2.1 r E).elim (aS r) fun h=>by omega
  have bX:∀ r,(leads ai r∨r=az)→bg r:=fun r E=>E.elim (fun E=>(aW r (.inl E)).1) fun E=>E▸bJ;have cT:(dE n (i+1) 0).cells=(dE n i 0).cells++(0::0::u):=by rw[yd hu];exact Hf rfl
  have cU:t.cells.length=3+((dE n i 0).vars.flatMap iD).length:=by
   have h1:=congrArg X7 aC;rw[nk] at h1;unfold aM.bF at h1;rw[u7] at h1;have:((dE n i 0).funs.flatMap fE).length=0:=by simp[dE]
   omega
  refine ci _ ⟨fun r=>bg r∨(bP.heap.size≤r∧r<bj.heap.size),bS,jT t ([0,0]++u),?_,⟨⟨.inl bJ,fun r E ak=>?_,fun r E=>by have:=cG r E;omega,fun r E=>?_⟩,cR,bD,bE,L,bG,ba,w0,bl,⟨cH,pz (cJ.trans ac) Z fun r o E cV Y=>bK r (bX r Y) (bM r o E cV),bM⟩,⟨(cK.ext ac).U Z fun r E Y=>?_,fun r E=>.inl (bN r E),bO,fun r E=>?_⟩,?_,⟨(cM.ext ac).U Z fun r E Y=>?_,?_⟩,(cO.ext ac).U Z fun r E Y=>?_,?_⟩,?_,aD.lay _,fun r E=>?_⟩
  ·exact ((au.trans (bf.trans aV)).then bh.1 fun r E he=>by have:=aS r he;omega).trans ac |>.then Z fun r E Y=>by have:=bW r (bX r Y);omega
  ·rcases E with E|E
   ·exact bK r E ak
   ·have ak:r<w.heap.size:=ak;omega
  ·rcases E with E|E
   ·have:=bL r E;omega
   ·exact E.2
  ·rcases Y with Y|rfl
   ·exact (aW r (.inl Y)).2 E
   ·exact bO E
  ·rcases E with E|E|E
   ·have dJ:=(bw aG E);rcases cS r E with h|h
    ·exact⟨.inl (aW r (.inl h)).1,(aW r (.inl h)).2⟩
    ·refine⟨.inr ⟨h,by have:=bk.size;omega⟩,fun cW=>by have:=bL r (bN r cW);omega⟩
   ·exact (dp E).elim
   ·exact (dp E).elim
  ·rw[yd hu,He,←cU];exact aX aG bk fun r E he=>by
    have he:r=az:=he;subst he;exact bB aG bU (by decide) E rfl
  ·exact (dp E).elim
  ·refine⟨cN.1,fun j x f J bm=>?_⟩;have bm:((n.funs.take 0).map (jS n.sizes))[j]? =some f:=bm;simp at bm
  ·exact (dp E).elim
  ·refine⟨cP.1,fun j x e J he=>?_⟩;have he:([]:List rO)[j]? =some e:=he;simp at he
  ·rw[yb,cT,aC];rfl
  ·rcases E with E|E
   ·exact bW r E
   ·omega
 ·rintro aQ cg ⟨A,ai,t,au,bc,aC,aD,aS⟩;rw[ao,aa];refine⟨fun h=>by omega,fun _=>?_⟩;refine (xU (h.ext au)).mono ?_;rintro _ dK _ ⟨rfl,bY⟩;refine bV.range n.funs.length (fun j aH=>∃ A R aY t,Ext w aH∧eh aH az gT W ai aY (.slice none 0 0) A R n (dE n n.sizes.length j) t∧t.bF=(dE n n.sizes.length j).cells∧Plain t∧ ∀ r,A r→w.heap.size≤r) (by omega)
   ⟨A,_,_,t,au.trans bY,bc.ext bY,aC,aD,aS⟩ ?_ ?_
  ·rintro j aH cX cY ⟨A,R,aY,t,av,aI,aw,aJ,aK⟩ cZ;obtain⟨g,a1⟩:∃ g,n.funs[j]? =some g:=⟨_,y0 cY⟩;have bn:=(X.funs g (x4 a1)).1;rw[ao,aa];refine⟨fun _=>?_,fun h=>by omega⟩;refine (G5 (h.ext av) X a1).mono ?_;rintro aN dL _ ⟨a2,gs,dM,bZ⟩;refine (G7 h (av.trans a2) a1).mono ?_;rintro _ dN _ ⟨a6,gt,dO,dP,rfl,dQ,dR,c0,c1⟩;have c2:=(aI.ext a2).ext a6;have aE:∀ r,A r→r<aH.heap.size:=aI.1.2.2.2;have dS:=a2.size;have cA:t.cells.length≤2000000:=by
    have h1:=rU X ag n.sizes.length j;rw[←aw] at h1;unfold aM.bF at h1;rwa [u7] at h1
   have cC:t.olds.length=0:=by rw[aJ.2.1];rfl
   have cE:t.marks.length=0:=by rw[aJ.1];rfl
   have dT:g.2.length≤4096:=by have:=bn.len;have:=bn.small;omega
   have dU:g.1.length≤6:=bn.scope.2;refine (Hd (sc:=g.1) c2 aw (bZ.ls.ext a6) (fun r E O=>by have:=aE r O;obtain⟨a8,_⟩:=bw bZ E;omega) c0 ⟨fun O=>by have:=aE _ O;omega,fun O=>by have:=aE _ O;omega,fun r E O=>by have:=aK r O;have:=c1 r E;omega⟩ (by omega) (by omega) (by omega) (by omega) ?_).mono ?_
   ·show ((n.funs.take j).map (jS n.sizes)).length≤_;rw[u7,o5];omega
   rintro _ dV _ ⟨rfl,c3,R',c4,b1,c6,dW,dX⟩;rw[aF];have b2:=Hg (i:=n.sizes.length) a1;refine cZ _ ⟨c3,R',c4,kM (dE n n.sizes.length j) t g.2,((av.trans a2).trans a6).then b1.1 (fun r E O=>by have:=aK r O;omega),?_,?_,aJ.put _,fun r E=>?_⟩
   ·rw[b2];exact c6
   ·rw[b2];exact Hc aw
   ·rcases b1.2.1 r E with h|h
    ·exact aK r h
    ·have:=av.size;have:=a6.size;omega
  ·rintro aH cX ⟨A,R,aY,t,av,aI,aw,aJ,aK⟩;rw[ao,aa];refine⟨fun h=>by omega,fun _=>?_⟩;have e:dE n n.sizes.length n.funs.length=cD n:=by rw[←b3];exact ye n
   rw[e] at aI aw;exact⟨av,az,gT,A,R,t,rfl,⟨W,ai,aY,_,aI⟩,aw,aJ,aK⟩
set_option maxHeartbeats 2000000 in
theorem Hj {l:List Int} {w:x2} (ap:Bytes l) (aC:l.length≤100000):ah x5 Bn [bb l] w fun v w'=>v=hT l∧Ext w w':=by
 refine aq func207 ?_;refine gH (fun aJ aK ai=>Ext w ai∧ ∃ (m:List Int) (s:Int),aJ=bb m∧aK= .int .i64 s∧Bytes m∧m.length≤100000∧lz l m s) ?_ ?_
 ·rintro _ _ ai ⟨au,m,s,rfl,rfl,ak,a1,al⟩;rw[kv cc.u,bc,aa];refine⟨fun av=>?_,fun av=>?_⟩
  ·have aw:m=[]:=o8 (by omega);exact⟨by rw[oH al (by rw[aw];rfl)],au⟩
  have aw:m≠[]:=fun h=>av (by rw[h];rfl);refine ma.range m.length (fun i _ _ ax ay V=>Ext ai V∧ ∃ (n:Int) (E:Bool),ax= .int .u64 n∧ay= .bool E∧jI n E ((m.take i).foldl dI 0)∧(m.take i).all eJ=true) (by omega) ⟨Ext.refl _,0,false,rfl,rfl,CP,rfl⟩ ?_ ?_
  ·rintro i aM t3 _ _ V aN hi ⟨ac,n,E,rfl,rfl,X,ad⟩ aO;obtain⟨b,Y⟩:∃ b,m[i]? =some b:=⟨_,y0 hi⟩;have a2:=ak b (x4 Y);rw[kv cc.u,ao,aa];refine⟨fun _=>?_,fun h=>by omega⟩;refine uU (fun _ _ ax ay W=>Ext ai W∧ ∃ (n:Int) (E:Bool),ax= .int .u64 n∧ay= .bool E∧jI n E ((m.take (i+1)).foldl dI 0)∧(m.take (i+1)).all eJ=true) ?_ ?_
   ·rintro a6 a7 a3 a4 W aQ;rw[aF];exact aO _ _ _ _ _ aQ
   intro aR Z;refine aL (fun v W=>V=W∧v= .bool (!eJ b)) ?_ ?_
   rotate_left
   ·intro az U;rw[mz rfl cc.u ak Y,ao,aa];refine⟨fun h=>U _ _ ⟨rfl,by unfold eJ;rw[decide_eq_false (by omega)];rfl⟩,fun h=>?_⟩;rw[mz rfl cc.u ak Y,bA];refine U _ _ ⟨rfl,?_⟩;unfold eJ;congr 1;by_cases aD:57<b
    ·rw[decide_eq_true aD,decide_eq_false (by omega)];rfl
    ·rw[decide_eq_false aD,decide_eq_true (by omega)];rfl
   rintro _ _ ⟨rfl,rfl⟩;cases aA:eJ b with
   |false=>
    rw[Y8,bh];exact⟨by rw[oH al (vR Y aA)],au.trans ac⟩
   |true=>
    rw[Z3,aP];have aS:=of_decide_eq_true aA;have am:=CO X aS;rw[vP Y,vO Y,ad,aA] at Z;have aT:=X.1;have aU:=X.2.1;refine aL (fun v W=>V=W∧v= .bool (E||decide (461168601842738790<n))) ?_ ?_
    rotate_left
    ·intro az U;rw[bA,aa];refine⟨fun h=>U _ _ ⟨rfl,by rw[decide_eq_true h,Bool.or_true]⟩,fun h=>U _ _ ⟨rfl,by rw[decide_eq_false h,Bool.or_false]⟩⟩
    rintro _ _ ⟨rfl,rfl⟩;by_cases ae:E=true∨461168601842738790<n
    ·have ag:(E||decide (461168601842738790<n))=true:=by rcases ae with h|h <;> simp[h]
     rw[if_pos ae,ag] at am;rw[ag,bJ,Z3,aP];exact Z _ _ _ _ _ ⟨ac,n,true,rfl,rfl,am,rfl⟩
    ·have ag:(E||decide (461168601842738790<n))=false:=by
      cases E with
      |true=>exact absurd (.inl rfl) ae
      |false=>simp;omega
     rw[if_neg ae,ag] at am;have a8:¬461168601842738790<n:=fun h=>ae (.inr h);rw[ag,bJ,Y8,bh,fx,mz rfl cc.u ak Y,cY,wrap_u8 (by omega) (by omega),e7 bY.u e4.u,wrap_u64 (by omega) (by omega),wrap_u64 (by omega) (by omega),aF,wrap_u64 (by omega) (by omega)];exact Z _ _ _ _ _ ⟨ac,_,false,rfl,rfl,am,rfl⟩
  ·rintro aM t3 _ _ V aN ⟨ac,n,E,rfl,rfl,X,ad⟩;rw[o3] at ad X;rw[kv cc.u,ao,aa];refine⟨fun h=>by omega,fun _=>?_⟩;have aE:=CQ X;have aT:=X.1;have aU:=X.2.1;have aV:∀ {x:Int},x=m.foldl dI 0→0≤x→x≤4611686018427387904→(O x5 (convert e4 aj (.int .u64 x)) V fun aW=>
     O x5 (aB .mul aj false false (.int .i64 s) aW) V fun aX=>(fun v w'=>v=hT l∧Ext w w') (.tuple #[aX,(.int .i64 0)]) V):=by
    intro x J av h1;rw[e7 e4.u aj.u,wrap_i64 (by omega) (by omega),fx];have hw:X0.wrap (s*x)=s*x:=by
     rcases al.1 with rfl|rfl <;> exact wrap_i64 (by omega) (by omega)
    rw[hw];refine⟨?_,au.trans ac⟩;rw[vU al (vQ aw ad),J]
   refine aL (fun v W=>V=W∧v= .int .u64 (m.foldl dI 0)) ?_ ?_
   ·rintro _ _ ⟨rfl,rfl⟩;have aG:=ot (l:=m) (n:=0) ad ⟨Int.le_refl _,by decide⟩;exact aV rfl aG.1 aG.2
   intro az U;refine aL (fun v W=>V=W∧v= .bool (E||decide (4611686018427387904<n))) ?_ ?_
   ·rintro _ _ ⟨rfl,rfl⟩;rw[b3];refine⟨fun h=>U _ _ ⟨rfl,?_⟩,fun h=>U _ _ ⟨rfl,?_⟩⟩
    ·have h':E=true∨4611686018427387904<n:=by simpa using h
     rw[aE,if_pos h']
    ·have h':¬(E=true∨4611686018427387904<n):=by
      intro af;rcases af with af|af
      ·simp[af] at h
      ·simp[af] at h
     rw[aE,if_neg h']
   ·intro ba aH;cases E with
    |true=>rw[bh];exact aH _ _ ⟨rfl,rfl⟩
    |false=>rw[aP,bA];exact aH _ _ ⟨rfl,by rw[Bool.false_or]⟩
 ·intro aR Z;refine aL (fun v aY=>w=aY∧ ∃ c:Bool,v= .bool c∧(c=true↔l[0]? =some 45)) ?_ ?_
  ·rintro _ _ ⟨rfl,c,rfl,aI⟩;rw[b3];refine⟨fun aZ=>?_,fun ag=>?_⟩
   ·obtain⟨m,rfl⟩:∃ m,l=45::m:=by
     have:=aI.1 aZ;cases l with
     |nil=>simp at this
     |cons x m=>exact⟨m,by simp at this;rw[this]⟩
    rw[uY (y:=1) (i:=1) rfl cc.u (by simp)];exact Z _ _ _ ⟨Ext.refl _,m,-1,rfl,rfl,fun b ab=>ap b (.tail _ ab),by simp at aC;omega,vS⟩
   ·refine Z _ _ _ ⟨Ext.refl _,l,1,rfl,rfl,ap,aC,vT fun b ab he=>?_⟩;subst he;have:=aI.2 ab;rw[ag] at this;cases this
  ·intro az U;rw[kv cc.u,bA,aa];refine⟨fun h=>?_,fun h=>U _ _ ⟨rfl,false,rfl,?_⟩⟩
   ·obtain⟨b,ab⟩:∃ b,l[0]? =some b:=⟨_,y0 (by omega)⟩;rw[mz (y:=0) (i:=0) rfl cc.u ap ab,bc];refine U _ _ ⟨rfl,_,rfl,?_⟩;rw[decide_eq_true_eq,ab];exact⟨fun h=>by rw[h],fun h=>j5 h⟩
   ·have:l=[]:=o8 (by omega);subst this;simp
theorem Hk {s:Go.Sem x1} {v:x1} {w:x2} {K:x1→Prop} (h:O x5 s w fun u=>u=v) (E:K v):O x5 s w K:=by
 obtain⟨u,h1,rfl⟩:=h;exact⟨u,h1,E⟩
abbrev fd:Type:=List Int×Int
def ei (x:fd):List x1:=[bb x.1,.int .i64 x.2]
theorem rV (x:fd):∀ u∈ei x,u.oneCell'=true:=by
 intro u hu;simp[ei] at hu;rcases hu with rfl|rfl <;> rfl
def gz (w:x2) (v:x1) (L:List fd):Prop:=bG w 2 v L.length (L.flatMap ei)
theorem rW {w:x2} {g:Nat} {v:x1} {L:List fd} (h:aR ei 2 bE w g v L):gz w v L:=h.sl
theorem yf {w:x2} {v:x1} {L:List fd} {E:u5} {K:x1→Prop} (h:gz w v L):O x5 (Z8 #[dT] E #[v]) w K=K (.int .i64 (L.length:Int)):=by
 obtain⟨_,_,_,_,_,rfl,_⟩:=h;exact fy dT.u
theorem Hl {S:Nat→Prop} {w w':x2} {k n:Nat} {v:x1} {cs:List x1} (h:bG w k v n cs) (O:af S w w') (U:∀ r,leadsTo v r→¬S r):bG w' k v n cs:=by
 obtain⟨h1,b,o,base,cap,rfl,V,W,J,X⟩:=h;refine⟨h1,b,o,base,cap,rfl,V,W,J,?_⟩;rcases Nat.eq_zero_or_pos n with E|E
 ·have:cs=[]:=o8 (by rw[h1,E,Nat.zero_mul]);subst this;intro j v ac;simp at ac
 ·have Y:=J E;exact oa O (U b ⟨⟨b,o,none⟩,n,cap,by rw[Y],rfl⟩) X
theorem gz.U {S:Nat→Prop} {w w':x2} {v:x1} {L:List fd} (h:gz w v L) (E:af S w w') (J:∀ r,leadsTo v r→¬S r):gz w' v L:=Hl h E J
theorem yg {w:x2} {v:x1} {x:fd} {L:List fd} {K:x1→Prop} (h:gz w v (x::L)) (E:∀ b o,w.rangeAt b o (ei x)→K (.pointer (some ⟨b,o,none⟩))):O x5 (j4 dT v (.int .i64 0)) w K:=by
 obtain⟨_,b,o,base,cap,rfl,_,_,J,U⟩:=h;have:=gj (P:=x5) (w:=w) (K:=K) (k:=.i64) (c:=cap) dT.u bE.i (show 0<(x::L).length by simp) J;rw[show ((0:Nat):Int)=0 from rfl] at this;rw[this];refine E _ _ fun j u hu=>?_;have V:=(x3.1 hu).1;rw[Nat.zero_mul,Nat.add_zero];exact U j u (by rw[W7,Z0 V];exact hu)
theorem Hm {w:x2} {v:x1} {x:fd} {L:List fd} {K:x1→Prop} (h:gz w v (x::L)) (V:∀ J,(∀ w',gz w' v (x::L)→gz w' J L)→(∀ r,leadsTo J r→leadsTo v r)→K J):O x5 (Y9 dT v (some (.int .i64 1)) none none) w K:=by
 have Z:=h;obtain⟨_,b,o,base,cap,rfl,aa,_⟩:=h;rw[fz dT.u bE.i (ki 1 1 rfl) hd eb (by simp) (by omega) (u9 _)];refine V _ (fun w' W=>?_) fun r X=>?_
 ·have:=bG.part (l:=1) (h:=(x::L).length) (m:=cap) W (by simp) (u9 _) (by omega) (u9 _);have e:(((x::L).flatMap ei).drop (1*2)).take (((x::L).length-1)*2)=L.flatMap ei:=by
   rw[W7];have Y:(L.flatMap ei).length=L.length*2:=fX (k:=2) fun _ _=>rfl;show (L.flatMap ei).take _=_;rw[b6 (by rw[Y,l6,Nat.add_sub_cancel];exact u9 _)]
  rw[e] at this;exact this
 ·obtain⟨a,n,c,E,U⟩:=X;split at E
  ·cases E;exact⟨_,_,_,rfl,U⟩
  ·cases base with
   |none=>cases E
   |some q=>cases E;exact⟨_,_,_,rfl,U⟩
theorem Hn {w:x2} {g n:Nat} {y:Int} {v:x1} {L:List fd} {K:x1→Prop} (V:y=(n:Int)) (h:aR ei 2 bE w g v L) (W:n≤L.length) (X:∀ J,gz w J (L.take n)→(∀ r,leadsTo J r→leadsTo v r)→K J):O x5 (Y9 dT v none (some (.int .i64 y)) none) w K:=by
 have Y:=rW h;obtain⟨_,b,o,base,cap,rfl,ab,_⟩:=h.sl;rw[fz dT.u bE.i hc (kj n y V) eb (Z1 _) (by omega) (u9 _)];refine X _ ?_ fun r Z=>?_
 ·have:=bG.part (l:=0) (h:=n) (m:=cap) Y (Z1 _) W (by omega) (u9 _);have e:((L.flatMap ei).drop (0*2)).take ((n-0)*2)=(L.take n).flatMap ei:=by
   rw[Nat.zero_mul,List.drop_zero,Nat.sub_zero,mS (f:=ei) (k:=2) n fun _ _=>rfl]
  rw[e] at this;have aa:(L.take n).length=n-0:=by rw[o5];omega
  unfold gz;rw[aa];exact this
 ·obtain⟨a,n,c,E,U⟩:=Z;split at E
  ·cases E;exact⟨_,_,_,rfl,U⟩
  ·cases base with
   |none=>cases E
   |some q=>cases E;exact⟨_,_,_,rfl,U⟩
def Ho (w:x2) (J:List Int) (v:x1) (w':x2):Prop:=Ext w w'∧ ∃ E L,∃ bad:Int,v= .tuple #[E,.int .i64 bad]∧gz w' E L∧L.map (·.1)=(lex J).1∧(0≤bad↔(lex J).2=false)∧(∀ r,leadsTo E r→w.heap.size≤r)∧ ∀ r,leadsTo E r→ ∃ c,ad w' r bE c
set_option maxHeartbeats 4000000 in
theorem Hp {p:x1} {W:List Int} {w:x2} (ap:aC .u8 w p W) (aY:Bytes W) (bx:W.length≤65536):ah x5 AU [p] w (Ho w W):=by
 refine aq func156 ?_;rw[aI bZ.u ap];refine ma.range W.length (fun i _ _ Z aj af=>Ext w af∧ ∃ g L,∃ (E:List (List Int)) (ab:List Int) (op:Bool),aj= .bool op∧aR ei 2 bE af g Z L∧L.map (·.1)=(if op then E++[ab] else E)∧(op=true→ab.length≤i)∧L.length≤i∧fT (W.drop i) E ab op=lex W∧ ∀ r,leadsTo Z r→w.heap.size≤r) ap.le
  ⟨Ext.refl _,0,[],[],[],false,rfl,aR.nil _ _ _ _ _,rfl,(fun h=>by cases h),u9 _,C4 W,fun r ac=>(dp ac).elim⟩ ?_ ?_
 rotate_left
 ·rintro aZ t3 Z aj af a2 ⟨ag,g,L,E,ab,op,rfl,ad,Y,_,_,U,ai⟩;rw[ao,aa];refine⟨fun h=>by omega,fun _=>?_⟩;rw[List.drop_length] at U;have U:(if op then E++[ab] else E,true)=lex W:=U;exact⟨ag,Z,L,-1,rfl,rW ad,by rw[Y,←U],by rw[←U];simp,ai,fun r ac=>by obtain⟨rfl,c,ax⟩:=dk ad ac;exact⟨c,ax⟩⟩
 rintro i aZ t3 Z aj af a2 hi ⟨ag,g,L,E,ab,op,rfl,ad,Y,aM,bz,U,ai⟩ a6;obtain⟨b,ay⟩:∃ b,W[i]? =some b:=⟨_,y0 hi⟩;have bB:=aY b (x4 ay);have aN:W.drop i=b::W.drop (i+1):=by rw[Y2 hi,(x3.1 ay).2]
 rw[aN] at U;unfold fT at U;rw[ao,aa];refine⟨fun _=>?_,fun h=>by omega⟩;refine uU (fun _ _ Z aj az=>Ext w az∧ ∃ g L,∃ (E:List (List Int)) (ab:List Int) (op:Bool),aj= .bool op∧aR ei 2 bE az g Z L∧L.map (·.1)=(if op then E++[ab] else E)∧(op=true→ab.length≤i+1)∧L.length≤i+1∧fT (W.drop (i+1)) E ab op=lex W∧ ∀ r,leadsTo Z r→w.heap.size≤r) ?_ ?_
 ·rintro bC bD a3 a4 az a7;rw[aF];exact a6 _ _ _ _ _ a7
 intro bF aO;rw[a1 bZ.u bY.i (by kernel_rfl) (ap.ext ag) ay];refine aL (fun v ak=>af=ak∧v= .bool (bK b)) ?_ ?_
 rotate_left
 ·intro aA X;unfold bK at X;rw[bc,aa];refine⟨fun h=>X _ _ ⟨rfl,by rw[decide_eq_true (.inl h)]⟩,fun h1=>?_⟩;rw[bc,aa];refine⟨fun h=>X _ _ ⟨rfl,by rw[decide_eq_true (.inr (.inl h))]⟩,fun au=>?_⟩;rw[bc,aa];refine⟨fun h=>X _ _ ⟨rfl,by rw[decide_eq_true (.inr (.inr (.inl h)))]⟩,fun a8=>?_⟩;rw[bc];refine X _ _ ⟨rfl,?_⟩;congr 1;rw[X5,decide_eq_true_eq,decide_eq_true_eq];exact⟨fun h=>.inr (.inr (.inr h)),fun h=>by rcases h with h|h|h|h;exact absurd h h1;exact absurd h au;exact absurd h a8;exact h⟩
 rintro _ _ ⟨rfl,rfl⟩;cases aQ:bK b with
 |true=>
  rw[bh];rw[if_pos aQ] at U;exact aO _ _ _ _ _ ⟨ag,g,L,_,[],false,rfl,ad,Y,(fun h=>by cases h),by omega,U,ai⟩
 |false=>
  rw[aP];rw[if_neg (by rw[aQ];simp)] at U;refine aL (fun v ak=>af=ak∧v= .bool (!bg b)) ?_ ?_
  rotate_left
  ·intro aA X;unfold bg at X;rw[ao,aa];refine⟨fun h=>X _ _ ⟨rfl,by rw[decide_eq_false (by omega)];rfl⟩,fun h=>?_⟩;rw[bA];refine X _ _ ⟨rfl,?_⟩;by_cases au:126<b
   ·rw[decide_eq_true au,decide_eq_false (by omega)];rfl
   ·rw[decide_eq_false au,decide_eq_true (by omega)];rfl
  rintro _ _ ⟨rfl,rfl⟩;cases hw:bg b with
  |false=>
   rw[Y8,bh];rw[if_neg (by rw[hw];simp)] at U;refine aL (fun v ak=>af=ak∧ ∃ av,gz af v av∧av.map (·.1)=E∧(∀ r,leadsTo v r→w.heap.size≤r)∧ ∀ r,leadsTo v r→leadsTo Z r) ?_ ?_
   ·rintro v _ ⟨rfl,av,aB,ba,aw,bd⟩;exact⟨ag,v,av,(i:Int),rfl,aB,by rw[ba,←U],by rw[←U];simp,aw,fun r ac=>by obtain⟨rfl,c,ax⟩:=dk ad (bd r ac);exact⟨c,ax⟩⟩
   ·intro aA X;cases op with
    |false=>
     rw[aP];rw[if_neg (by simp)] at Y;exact X _ _ ⟨rfl,L,rW ad,Y,ai,fun _ h=>h⟩
    |true=>
     rw[bh];rw[if_pos rfl] at Y;have aD:L.length=E.length+1:=by have:=congrArg X7 Y;simpa using this
     rw[dK dT.u ad,cY,wrap_i64 (by omega) (by omega)];refine Hn (n:=E.length) (by omega) ad (by omega) fun al aB aw=>X _ _ ⟨rfl,_,aB,?_,fun r ac=>ai r (aw r ac),aw⟩;rw[List.map_take,Y,List.take_left]
  |true=>
   rw[Z3,aP];rw[if_pos hw] at U;refine aL (fun Z aE=>Ext w aE∧ ∃ g M,∃ x:fd,aR ei 2 bE aE g Z (M++[x])∧M.map (·.1)=E∧x.1=(if op then ab else[])∧(M++[x]).length≤i+1∧ ∀ r,leadsTo Z r→w.heap.size≤r) ?_ ?_
   ·rintro bG aE ⟨aS,be,M,x,bf,bi,J,bj,aT⟩;intro aG aH _ _;have am:=bf.ext aH;have aU:(M++[x])[M.length]? =some x:=by simp
    have bH:(M++[x]).length=M.length+1:=by simp
    rw[dK dT.u am,cY,wrap_i64 (by omega) (by omega),cr (i:=M.length) (by omega) dT.u bE.i am (by omega),ae bE.p rfl,V (o:=M.length*2+0) (by kernel_rfl) (am.range aU 0 _ rfl),aF,wrap_i64 (by omega) (by omega)];obtain⟨bI,aV⟩:∃ al,aC .u8 aG al [b]∧O x5 (Y9 bZ p (some (.int .i64 (i:Int))) (some (.int .i64 ((i:Int)+1))) none) aG (fun v=>v=al):=by
     have bk:=ap.ext (aS.trans aH);have:=ow (P:=x5) (low:=some (.int .i64 (i:Int))) (high:=some (.int .i64 ((i:Int)+1))) (K:=fun v=>aC .u8 aG v [b]) bZ.u bY.i bk (ki i _ rfl) (kj (i+1) ((i:Int)+1) (by omega)) (by omega) (by omega) fun al aW=>by
      have e:((ints .u8 W).drop (i*1)).take ((i+1-i)*1)=ints .u8 [b]:=by
       simp only[W9,show i+1-i=1 by omega];rw[ints,←List.map_drop,←List.map_take,aN];rfl
      rw[e] at aW;exact aC.of (n:=i+1-i) aW
     obtain⟨v,bl,bm⟩:=this;exact⟨v,bm,v,bl,rfl⟩
    refine Hk aV.2 ?_;have bL:x.1.length≤65536:=by
     rw[J];cases op with
     |true=>rw[if_pos rfl];have:=aM rfl;omega
     |false=>simp
    rw[qR bZ.u bY.u cc.u aV.1,qQ (by simp;omega),cr (i:=M.length) (by omega) dT.u bE.i am (by omega),ae bE.p rfl];refine lH (f:=ei) (j:=0) (a:=x) (a':=(x.1++[b],x.2)) cc.i rfl rfl am aU rfl (by omega) fun bM bn bN aX=>?_;have e:(M++[x]).set M.length (x.1++[b],x.2)=M++[(x.1++[b],x.2)]:=by
     rw[List.set_append_right _ _ (u9 _),X6];rfl
    rw[e] at aX;refine aO _ _ _ _ _ ⟨(aS.trans aH).then bn (fun r ac he=>by have:=aT r he;omega),be,_,E,x.1++[b],true,rfl,aX,by rw[o9,bi];rfl,fun _=>?_,by simp at bj ⊢;omega,?_,aT⟩
    ·rw[r8,J];cases op with
     |true=>rw[if_pos rfl];have:=aM rfl;simp;omega
     |false=>simp
    ·rw[←U,J];cases op with
     |true=>rfl
     |false=>rfl
   ·intro aA X;cases op with
    |true=>
     rw[bJ,Z3,aP];rw[if_pos rfl] at Y;have aD:L.length=E.length+1:=by have:=congrArg X7 Y;simpa using this
     obtain⟨M,x,rfl⟩:∃ M x,L=M++[x]:=by
      have:L≠[]:=fun h=>by rw[h] at aD;simp at aD
      exact⟨L.dropLast,L.getLast this,(List.dropLast_concat_getLast this).symm⟩
     rw[o9] at Y;obtain⟨bo,aJ⟩:=List.append_inj' Y (by simp);refine X _ _ ⟨ag,g,M,x,ad,bo,?_,by omega,ai⟩;rw[if_pos rfl];have aJ:[x.1]=[ab]:=aJ;exact (List.cons.inj aJ).1
    |false=>
     rw[bJ,Y8,bh];rw[if_neg (by simp)] at Y;rw[cI (cs:=#[bb [],.int .i64 (i:Int)]) (by kernel_rfl)];refine eV (f:=ei) (a:=(([],(i:Int)):fd)) dT.u bE.i (by omega) rfl rfl fun v9 bO bP bQ aK bp=>?_;have bq:=ad.ext aK;refine e9 (f:=ei) (a:=(([],(i:Int)):fd)) dT.u bE.i rfl bq (by simpa using bp.sl) (rV _) (by omega) (by omega) fun al br bR bt bu bw=>?_;have bS:=ag.size;have z9:=aK.size;refine X _ _ ⟨(ag.trans aK).then bw (fun r ac he=>by have:=ai r he;omega),br,L,_,bt,Y,rfl,by simp;omega,fun r ac=>?_⟩;rcases bu r ac with h|h
     ·exact ai r h
     ·omega
structure rX where
 v:x1
 t:List Int
 c:Int
def kN (y:rX):List x1:=[y.v,.int .i64 y.c]
def h0 (w:x2) (g:Nat) (v:x1) (l:List (List Int×Int)):Prop:=∃ L:List rX,aR kN 2 bt w g v L∧(∀ y∈L,∃ E,am .i64 aj w E y.v y.t)∧L.map (fun y=>(y.t,y.c))=l
structure gA where
 aN:x1
 au:x1
 o:Int
 bo:x1
def dF (h:gA):List x1:=[h.aN,h.au,.int .i64 h.o,h.bo]
def e1 (w:x2) (h:gA) (x:bH):Prop:=(∃ g,am .i64 aj w g h.aN x.scope)∧(∃ g,am .i64 aj w g h.au x.sizes)∧h.o=x.other∧ ∃ g,h0 w g h.bo x.lines
def fe (w:x2) (r:Nat):Prop:=∃ e c,ad w r e c∧e≠aj∧e≠bt
theorem dq {w w':x2} {S:Nat→Prop} {g:Nat} {v:x1} {l:List Int} (h:am .i64 aj w g v l) (J:af S w w') (O:∀ r,S r→fe w r∨w.heap.size≤r):am .i64 aj w' g v l:=aX h J fun r E U=>by
 rcases O r U with⟨e,c,V,W,_⟩|X
 ·exact bB h V (fun he=>W he.symm) E rfl
 ·obtain⟨Y,Z⟩:=bw h E;omega
theorem rY {α:Type} {f:α→List x1} {k:Nat} {e:u5} {w w':x2} {S:Nat→Prop} {g:Nat} {v:x1} {L:List α} (h:aR f k e w g v L) (O:af S w w') (V:∀ r,S r→(∃ E c,ad w r E c∧E≠e)∨w.heap.size≤r):aR f k e w' g v L:=h.U O fun r J W=>by
 rcases V r W with⟨E,c,X,Y⟩|Z
 ·exact b4 h X (fun he=>Y he.symm) J
 ·obtain⟨aa,ab⟩:=h.leads J;omega
theorem h0.cQ {w w':x2} {S:Nat→Prop} {g:Nat} {v:x1} {l:List (List Int×Int)} (h:h0 w g v l) (E:af S w w') (J:∀ r,S r→fe w r∨w.heap.size≤r):h0 w' g v l:=by
 obtain⟨L,h1,O,U⟩:=h;refine⟨L,rY h1 E fun r V=>(J r V).imp (fun⟨e,c,W,_,X⟩=>⟨e,c,W,X⟩) id,fun y Y=>?_,U⟩;obtain⟨Z,hm⟩:=O y Y;exact⟨Z,dq hm E J⟩
theorem e1.cQ {w w':x2} {S:Nat→Prop} {h:gA} {x:bH} (O:e1 w h x) (E:af S w w') (J:∀ r,S r→fe w r∨w.heap.size≤r):e1 w' h x:=by
 obtain⟨⟨U,h1⟩,⟨V,W⟩,X,Y,Z⟩:=O;exact⟨⟨U,dq h1 E J⟩,⟨V,dq W E J⟩,X,Y,Z.cQ E J⟩
theorem e1.ext {w w':x2} {h:gA} {x:bH} (E:e1 w h x) (J:Ext w w'):e1 w' h x:=E.cQ (J.U fun _=>False) fun _ h=>h.elim
theorem e1.one {w:x2} {h:gA} {x:bH} (E:e1 w h x):∀ u∈dF h,u.oneCell'=true:=by
 obtain⟨⟨U,h1⟩,⟨V,J⟩,W,X,L,O,_⟩:=E;intro u hu;simp[dF] at hu;rcases hu with rfl|rfl|rfl|rfl
 ·exact h1.ls.cells.2
 ·exact J.ls.cells.2
 ·rfl
 ·exact (cu O.sl).2
def jk (w:x2) (E:x1) (O:List fd) (gs:Nat) (sv:x1) (L:List gA) (J:List bH):Prop:=(gz w E O∧ ∀ r,leadsTo E r→ ∃ c,ad w r bE c)∧aR dF 4 aK w gs sv L∧J.length=L.length∧ ∀ (i:Nat) h x,L[i]? =some h→J[i]? =some x→e1 w h x
theorem jk.cQ {w w':x2} {S:Nat→Prop} {W:x1} {aa:List fd} {gs:Nat} {sv:x1} {L:List gA} {ab:List bH} (h:jk w W aa gs sv L ab) (V:af S w w') (X:∀ r,S r→(∃ e c,ad w r e c∧e≠aj∧e≠bt∧e≠bE∧¬leadsTo sv r)∨w.heap.size≤r):jk w' W aa gs sv L ab:=by
 obtain⟨⟨h1,ac⟩,ae,ah,ai⟩:=h;have hw:∀ r,leadsTo W r→¬S r:=fun r E Y=>by
  obtain⟨c,O⟩:=ac r E;rcases X r Y with⟨e,ak,ag,_,_,Z,_⟩|al
  ·exact Z (ew ag O)
  ·have:=O.lt;omega
 refine⟨⟨h1.U V hw,fun r E=>?_⟩,ae.U V fun r E Y=>?_,ah,fun i am x hi J=>(ai i am x hi J).cQ V fun r E=>(X r E).imp (fun⟨e,c,O,ao,ap,_⟩=>⟨e,c,O,ao,ap⟩) id⟩
 ·obtain⟨c,O⟩:=ac r E;exact⟨c,O.U V (hw r E)⟩
 ·rcases X r Y with⟨e,ak,ag,_,_,_,Z⟩|al
  ·exact Z E
  ·obtain⟨aq,au⟩:=ae.leads E;omega
def eP (E:x1) (J O bad U big V told:Int) (sv:x1):List x1:=[E,.int .i64 J,.int .i64 O,.int .i64 bad,.int .i64 U,.int .i64 big,.int .i64 V,.int .i64 told,sv]
def Hq (N:Nat) (so:Option aw) (E:List fd) (J bad big told:Int) (L:List gA) (O:List bH):Prop:=match so with
 |some s=>bad=0∧J≠0∧(big≠0↔s.big=true)∧(s.big=false→told=s.told)∧True∧E.map (·.1)=s.toks∧(∀ t∈s.toks,Bytes t∧t.length≤65536)∧O.map (fun x=>(x.sizes,x.lines))=s.shared∧L.length+E.length≤100000
 |none=>bad≠0∧L.length≤N
def bf (w:x2) (g B:Nat) (H:an) (N:Nat) (so:Option aw):Prop:=100000≤N∧ ∃ w0 E J gs sv L O,∃ (V U bad W big X told:Int),w0.heap.size=B∧af (fun r=>r=g) w0 w∧(∃ c,ad w0 g aY c)∧ad w g aY (eP E V U bad W big X told sv)∧jk w0 E J gs sv L O∧(∀ r,leadsTo sv r→H r)∧Hq N so J U bad big told L O
theorem jk.g {w w':x2} {g:Nat} {J:x1} {O:List fd} {gs:Nat} {sv:x1} {L:List gA} {U:List bH} (h:jk w J O gs sv L U) (W:af (fun r=>r=g) w w') (X:∃ c,ad w g aY c):jk w' J O gs sv L U:=
 h.cQ W fun r E=>.inl (by
  have E:r=g:=E;subst E;obtain⟨c,V⟩:=X;exact⟨_,c,V,by decide,by decide,by decide,fun Y=>b4 h.2.1 V (by decide) Y⟩)
theorem bf.new {S:Nat→Prop} {w w':x2} {g B N:Nat} {H:an} {so:Option aw} (h:bf w g B H N so) (J:af S w w') (O:∀ r,S r→B≤r):bf w' g B H N so:=by
 obtain⟨Z,w0,aa,ab,gs,sv,L,ac,ad,ae,bad,ag,big,ah,told,h1,V,W,ai,aj,ak,al⟩:=h;have X:g<w0.heap.size:=by obtain⟨c,am⟩:=W;exact am.lt
 exact⟨Z,w0,aa,ab,gs,sv,L,ac,ad,ae,bad,ag,big,ah,told,h1,⟨Z5 V.size J.size,fun r o Y E X=>J.aW r o (V.aW r o Y E X) E fun ao=>by
  have:=O r ao;have:=(o4.1 Y).1;omega⟩,W,ai.U J fun E=>by have:=O g E;omega,aj,ak,al⟩
theorem bf.ext {w w':x2} {g B N:Nat} {H:an} {so:Option aw} (h:bf w g B H N so) (J:Ext w w'):bf w' g B H N so:=h.new (J.U fun _=>False) fun _ h=>h.elim
theorem bf.base {w:x2} {g B N:Nat} {H:an} {so:Option aw} (h:bf w g B H N so):bf w g w.heap.size H N so:=by
 obtain⟨J,w0,O,U,gs,sv,L,V,W,X,bad,Y,big,Z,told,h1,aa,ab,E,ac,ad,ae⟩:=h;exact⟨J,w,O,U,gs,sv,L,V,W,X,bad,Y,big,Z,told,rfl,af.refl _ _,⟨_,E⟩,E,ac.g aa ab,ad,ae⟩
theorem bf.cQ {S:Nat→Prop} {w w':x2} {g B N:Nat} {H:an} {so:Option aw} (h:bf w g B H N so) (O:af S w w') (V:∀ r,S r→(∃ e c,ad w r e c∧e≠aj∧e≠bt∧e≠bE∧e≠aY∧¬H r)∨w.heap.size≤r):bf w' g w'.heap.size H N so:=by
 obtain⟨aa,w0,W,X,gs,sv,L,Y,ab,ac,bad,ae,big,ag,told,h1,ah,ai,J,ak,Z,al⟩:=h.base;have am:jk w W X gs sv L Y:=ak.g ah ai;have E:=J.U O fun ao=>by
  rcases V g ao with⟨e,c,E,_,_,_,ap,_⟩|aA
  ·exact ap (ew E J)
  ·have:=J.lt;omega
 refine⟨aa,w',W,X,gs,sv,L,Y,ab,ac,bad,ae,big,ag,told,rfl,af.refl _ _,⟨_,E⟩,E,am.cQ O fun r aq=>(V r aq).imp (fun⟨e,c,E,au,av,ax,_,ay⟩=>⟨e,c,E,au,av,ax,fun az=>ay (Z r az)⟩) id,Z,al⟩
theorem bf.lt {w:x2} {g B N:Nat} {H:an} {so:Option aw} (h:bf w g B H N so):g<B∧B≤w.heap.size:=by
 obtain⟨O,w0,U,V,gs,sv,L,W,X,Y,bad,Z,big,aa,told,h1,E,⟨c,J⟩,_⟩:=h;have:=J.lt;have:=E.size;omega
theorem fG {w:x2} {g B N:Nat} {H:an} {so:Option aw} (h:bf w g B H N so):∃ E,∃ (J O bad U big V told:Int),∃ sv,ad w g aY (eP E J O bad U big V told sv)∧(so.isSome=true↔bad=0):=by
 obtain⟨Y,w0,E,Z,gs,sv,L,aa,J,O,bad,U,big,V,told,h1,ab,ac,X,ae,af,W⟩:=h;refine⟨E,J,O,bad,U,big,V,told,sv,X,?_⟩;cases so with
 |none=>exact⟨(fun h=>by cases h),fun h=>absurd h W.1⟩
 |some s=>exact⟨fun _=>W.1,fun _=>rfl⟩
theorem iE {w:x2} {g B N:Nat} {H:an} {so:Option aw} {K:x1→Prop} (h:bf w g B H N so):O x5 (bk (.pointer (some ⟨g,0,none⟩))) w (fun E=>O x5 (x8 aY E 3) w fun t45=>O x5 (x7 ab t45) w fun t46=>O x5 (aB .eql ab false true t46 (.int .i64 0)) w K)=K (.bool so.isSome):=by
 obtain⟨U,W,X,bad,Y,big,Z,told,sv,J,hi⟩:=fG h;rw[ax,ae aY.p rfl,V (by kernel_rfl) (J.cell (o:=0+3) rfl),bc];congr 2;rw[X5,decide_eq_true_eq];exact hi.symm
theorem nn {w:x2} {g B N:Nat} {H:an} {so:Option aw} {K:x1→Prop} (h:bf w g B H N so):O x5 (bk (.pointer (some ⟨g,0,none⟩))) w (fun U=>O x5 (x8 aY U 3) w fun t45=>O x5 (x7 ab t45) w fun t46=>O x5 (aB .neq ab false true t46 (.int .i64 0)) w K)=K (.bool (!so.isSome)):=by
 obtain⟨X,Y,Z,bad,aa,big,ac,told,sv,W,hi⟩:=fG h;rw[ax,ae aY.p rfl,V (by kernel_rfl) (W.cell (o:=0+3) rfl),be];congr 2;cases J:so.isSome with
 |true=>have E:=hi.1 J;simp[E]
 |false=>
  have E:bad≠0:=fun E=>by rw[hi.2 E] at J;cases J
  simp[E]
def lU (w:x2) (g B:Nat) (H:an) (N:Nat) (so:Option aw) (w':x2):Prop:=af (fun r=>r=g) w w'∧bf w' g B H N so
theorem kO {w:x2} {g B N:Nat} {H:an} {so:Option aw} {e at_:Int} (h:bf w g B H N so) (he:e≠0):ah x5 kf [.pointer (some ⟨g,0,none⟩),.int .i64 e,.int .i64 at_] w fun _ w'=>lU w g B H N none w':=by
 refine aq func161 ?_;rw[iE h];cases so with
 |none=>rw[Option.isSome_none,aP];exact⟨af.refl _ _,h⟩
 |some s=>
  rw[Option.isSome_some,bh];obtain⟨X,w0,J,Y,gs,sv,L,Z,O,U,bad,au,big,V,told,h1,aa,ac,ag,ai,aj,ak⟩:=h;rw[ax,ae aY.p rfl];refine aZ (g:=g) (o:=3) ab.i rfl rfl ag (by simp[eP]) fun av al ay am=>?_;rw[ax,ae aY.p rfl];refine aZ (g:=g) (o:=4) ab.i rfl rfl am (by simp[eP]) fun ao ap az E=>?_;have E:ad ao g aY (eP J O U e at_ big V told sv):=E;have W:=al.trans ap;obtain⟨_,_,_,_,_,_,_,_,aA⟩:=ak;exact⟨W,X,w0,J,Y,gs,sv,L,Z,O,U,e,at_,big,V,told,h1,aa.trans W,ac,E,ai,aj,he,by omega⟩
theorem jU {w:x2} {g B N:Nat} {H:an} {so:Option aw} {b:Bool} {at_:Int} (h:bf w g B H N so):ah x5 nW [.pointer (some ⟨g,0,none⟩),.bool b,.int .i64 at_] w fun _ w'=>lU w g B H N (so.map (aQ b)) w':=by
 refine aq func158 ?_;obtain⟨ao,w0,J,ap,gs,sv,L,au,O,U,bad,W,big,aF,told,h1,av,ay,X,az,aA,Y⟩:=id h;refine aL (fun v aB=>w=aB∧v= .bool (b&&decide (big=0)&&so.isSome)) ?_ ?_
 ·rintro _ _ ⟨rfl,rfl⟩;rw[b3];refine⟨fun aC=>?_,fun ag=>⟨af.refl _ _,ao,w0,J,ap,gs,sv,L,au,O,U,bad,W,big,aF,told,h1,av,ay,X,az,aA,?_⟩⟩
  ·rw[X2,X2] at aC;obtain⟨⟨aG,aN⟩,aH⟩:=aC;rw[ax,ae aY.p rfl];refine aZ (g:=g) (o:=5) ab.i rfl rfl X (by simp[eP]) fun aB aI aO aJ=>?_;rw[ax,ae aY.p rfl];refine aZ (g:=g) (o:=6) ab.i rfl rfl aJ (by simp[eP]) fun aK aM aR Z=>?_;have Z:ad aK g aY (eP J O U bad W 5 at_ told sv):=Z;have aD:=aI.trans aM;refine⟨aD,ao,w0,J,ap,gs,sv,L,au,O,U,bad,W,5,at_,told,h1,av.trans aD,ay,Z,az,aA,?_⟩;cases so with
   |none=>cases aH
   |some s=>
    obtain⟨ac,ai,aE,aj,ak⟩:=Y;exact⟨ac,ai,⟨fun _=>by show (s.big||b)=true;rw[aG,Bool.or_true],fun _=>by omega⟩,fun al=>aj (V7.1 al).1,ak⟩
  ·cases so with
   |none=>exact Y
   |some s=>
    obtain⟨ac,ai,aE,aj,ak⟩:=Y;refine⟨ac,ai,?_,fun al=>aj (V7.1 al).1,ak⟩;show big≠0↔(s.big||b)=true;cases b with
    |false=>rw[Bool.or_false];exact aE
    |true=>
     have E:big≠0:=by simpa using ag
     simp[E]
 ·intro aS am;cases b with
  |false=>rw[aP];exact am _ _ ⟨rfl,by simp⟩
  |true=>
   rw[bh,ax,ae aY.p rfl,V (by kernel_rfl) (X.cell (o:=0+5) rfl),bc,aa];refine⟨fun E=>?_,fun E=>am _ _ ⟨rfl,by rw[decide_eq_false E];simp⟩⟩;rw[iE h];exact am _ _ ⟨rfl,by rw[decide_eq_true E];simp⟩
def gU (so:Option aw):Option (List Int×aw):=so.bind cU
theorem yh {w:x2} {g B N:Nat} {H:an} {so:Option aw} (h:bf w g B H N so):ah x5 AV [.pointer (some ⟨g,0,none⟩)] w fun v w'=>lU w g B H N ((gU so).map (·.2)) w'∧ ∃ (t:List Int) (n:Int),v= .agg #[bb t,.int .i64 n]∧Bytes t∧t.length≤65536∧ ∀ q,gU so=some q→t=q.1:=by
 have a6:=h.lt;refine aq func157 ?_;refine bi bE.i fun E ak bN Y Z=>?_;have h1:=h.ext Y;have zero:∀ {W:x2},lU ak g B H N none W→ad W E bE [.string ⟨#[]⟩,.int .i64 0]→gU so=none→(O x5 (Instr.build bE #[]) W fun t9=>
   aA x5 (o7 bE (.pointer (some ⟨E,0,none⟩)) t9) W fun(_:Unit) aF=>
   O x5 (do loadVar bE (←asAddr (.pointer (some ⟨E,0,none⟩)))) aF fun a7=>(fun v w'=>lU w g B H N ((gU so).map (·.2)) w'∧ ∃ (t:List Int) (n:Int),v= .agg #[bb t,.int .i64 n]∧Bytes t∧t.length≤65536∧ ∀ q,gU so=some q→t=q.1) a7 aF):=by
  intro W X al av;rw[cI (cs:=#[.string ⟨#[]⟩,.int .i64 0]) (by kernel_rfl)];refine bP (vs:=[.string ⟨#[]⟩,.int .i64 0]) bE.i rfl rfl (by intro v ac;simp at ac;rcases ac with rfl|rfl <;> rfl) al fun a8 aG bO ba=>?_;rw[eo bE.p bE.i rfl ba.range,av];have bd:=Y.size;have bQ:=a6;refine⟨⟨fk ((Y.U _).trans X.1) aG fun r J he=>?_,X.2.new aG fun r J=>?_⟩,[],0,rfl,(fun b be=>by cases be),by simp,fun q ay=>by cases ay⟩
  ·have he:r=E:=he;omega
  ·have J:r=E:=J;omega
 rw[nn h1];cases so with
 |none=>
  rw[Option.isSome_none,Y8,bh];exact zero ⟨af.refl _ _,h1⟩ Z rfl
 |some s=>
 rw[Option.isSome_some,Z3,aP];obtain⟨bg,w0,bR,az,gs,sv,L,aH,aI,aJ,bad,aK,big,aL,told,bk,aM,aN,ab,am,bl,bm⟩:=id h1;have bn:=am.g aM aN;obtain⟨⟨ao,bS⟩,_⟩:=id bn;obtain⟨bo,aO,bp,bq,br,aQ,aR,bt,bu⟩:=id bm;rw[ax,ae aY.p rfl,V (by kernel_rfl) (ab.cell (o:=0+0) rfl),yf ao,bc,aa];refine⟨fun aS=>?_,fun aS=>?_⟩
 ·have bw:az=[]:=o8 (by omega);have ag:s.toks=[]:=by rw[←aQ,bw];rfl
  have av:gU (some s)=none:=by show cU s=none;unfold cU;rw[ag]
  intro W ap _ _;have al:=ab.ext ap;rw[ax,ae aY.p rfl,V (by kernel_rfl) (al.cell (o:=0+2) rfl),ax,ae aY.p rfl,V (by kernel_rfl) (al.cell (o:=0+1) rfl)];refine (kO (h1.ext ap) aO).mono ?_;rintro _ a8 _ X;have bx:=Z.lt;exact zero ⟨(ap.U _).trans X.1,X.2⟩ ((Z.ext ap).U X.1 fun he=>by have he:E=g:=he;omega) av
 ·obtain⟨x,ai,rfl⟩:∃ x l,az=x::l:=by
   cases az with
   |nil=>exact absurd rfl aS
   |cons x l=>exact⟨x,l,rfl⟩
  have ag:s.toks=x.1::ai.map (·.1):=by rw[←aQ];rfl
  have bz:gU (some s)=some (x.1,{s with toks:=ai.map (·.1)}):=by show cU s=_;unfold cU;rw[ag]
  have aT:=aR x.1 (by rw[ag];exact .head _);rw[ax,ae aY.p rfl,V (by kernel_rfl) (ab.cell (o:=0+0) rfl)];refine yg ao fun b o bA=>?_;rw[bj bE.p bE.i rfl bA];refine bi bE.i fun aB bT bU bB bC=>?_;refine bP (vs:=ei x) bE.i rfl rfl (rV x) bC fun bD bF bV aU=>?_;have au:Ext ak bD:=bB.then bF fun r J he=>by have he:r=aB:=he;omega
  have aV:=ab.ext au;rw[ax,ae aY.p rfl,V (by kernel_rfl) (aV.cell (o:=0+0) rfl)];refine Hm (ao.U (au.U fun _=>False) fun _ _ h=>h) fun aC aW bG=>?_;have aX:=aW ak ao;rw[ax,ae aY.p rfl];refine aZ (g:=g) (o:=0) dT.i (cu aX).1 (cu aX).2 aV (by simp[eP]) fun aj aD bW aE=>?_;have aE:ad aj g aY (eP aC aI aJ bad aK big aL told sv):=aE;have bx:=ab.lt;have bX:=aU.lt;have bY:=Z.lt;have bd:=Y.size;have bH:ad aj aB bE (ei x):=aU.U aD fun he=>by have he:aB=g:=he;omega
  rw[bj bE.p bE.i rfl bH.range];have bI:ad aj E bE [.string ⟨#[]⟩,.int .i64 0]:=(ad.ext Z au).U aD fun he=>by have he:E=g:=he;omega
  refine bP (vs:=ei x) bE.i rfl rfl (rV x) bI fun bZ a1 b1 bJ=>?_;rw[eo bE.p bE.i rfl bJ.range];have a2:af (fun r=>r=g) ak aj:=(au.U _).trans aD;rw[bz];refine⟨⟨fk ((Y.U _).trans a2) a1 fun r J he=>?_,?_⟩,x.1,x.2,rfl,aT.1,aT.2,fun q ay=>by cases ay;rfl⟩
  ·have he:r=E:=he;omega
  ·have bK:jk w0 aC ai gs sv L aH:=⟨⟨aW w0 am.1.1,fun r J=>am.1.2 r (bG r J)⟩,am.2⟩;have bL:bf aj g B H N (some {s with toks:=ai.map (·.1)}):=⟨bg,w0,aC,ai,gs,sv,L,aH,aI,aJ,bad,aK,big,aL,told,bk,aM.trans a2,aN,aE,bK,bl,bo,aO,bp,bq,br,rfl,fun t bM=>aR t (by rw[ag];exact .tail _ bM),bt,by simp at bu;omega⟩;refine bL.new a1 fun r J=>?_;have J:r=E:=J;omega
theorem Hr {lo hi:Int} {so:Option aw}:aO lo hi so=match gU so with
  |none=>none
  |some (w,s)=>match eK w with
   |none=>none
   |some n=>if lo≤n∧n≤hi then some (n,s) else none:=by
 cases so with
 |none=>rfl
 |some s=>rfl
set_option maxHeartbeats 1000000 in
theorem h2 {w:x2} {g B N:Nat} {H:an} {so:Option aw} {lo hi:Int} (h:bf w g B H N so):ah x5 iU [.pointer (some ⟨g,0,none⟩),.int .i64 lo,.int .i64 hi] w fun v w'=>lU w g B H N ((aO lo hi so).map (·.2)) w'∧ ∃ n at_:Int,v= .tuple #[.int .i64 n,.int .i64 at_]∧(∀ q,aO lo hi so=some q→n=q.1)∧(aO lo hi so=none→n=0):=by
 have aZ:=h.lt;refine aq func159 ?_;refine (yh h).mono ?_;rintro _ aF _ ⟨⟨ax,h1⟩,t,at_,rfl,aG,a1,ay⟩;have a2:=h1.lt;refine bi bE.i fun az a6 a7 aH aI=>?_;refine bP (vs:=[bb t,.int .i64 at_]) bE.i rfl rfl (by intro v ac;simp at ac;rcases ac with rfl|rfl <;> rfl) aI fun aJ aK a8 aA=>?_;have aB:Ext aF aJ:=aH.then aK fun r ba he=>by have he:r=az:=he;omega
 have aM:=h1.ext aB;rw[ae bE.p rfl,V (by kernel_rfl) (aA.cell (o:=0+0) rfl)];refine (Hj aG (by omega)).mono ?_;rintro _ ad _ ⟨rfl,ag⟩;have ai:=aM.ext ag;have aC:=aA.ext ag;have aN:=aB.trans ag;have bc:=ax.size;obtain⟨n,e,aQ,aj,aR⟩:∃ n e:Int,hT t= .tuple #[.int .i64 n,.int .i64 e]∧(∀ m,eK t=some m→n=m∧e=0)∧(eK t=none→e≠0):=by
  unfold hT;cases eK t with
  |none=>exact⟨0,4,rfl,(fun m hm=>by cases hm),fun _=>by omega⟩
  |some m=>exact⟨m,0,rfl,(fun m hm=>by cases hm;exact⟨rfl,rfl⟩),fun h=>by cases h⟩
 rw[aQ,av (v:=.int .i64 n) rfl,av (v:=.int .i64 e) rfl];have E:=Hr (lo:=lo) (hi:=hi) (so:=so);have aD:af (fun r=>r=g) w ad:=ax.trans (aN.U _);refine dd (fun X=>af (fun r=>r=g) ad X∧bf X g B H N ((aO lo hi so).map (·.2))) ?_ ?_
 ·rintro X ⟨Y,W⟩;rw[nn W];cases Z:aO lo hi so with
  |none=>
   rw[Z] at W;rw[Option.map_none,Option.isSome_none,Y8,bh];exact⟨⟨aD.trans Y,W⟩,0,0,rfl,(fun q Z=>by cases Z),fun _=>rfl⟩
  |some q=>
   rw[Z] at W E;rw[j6,Option.isSome_some,Z3,aP];intro bd ak _ _;have aS:=(aC.U Y fun he=>by have he:az=g:=he;omega).ext ak;rw[ae bE.p rfl,V (by kernel_rfl) (aS.cell (o:=0+1) rfl)];refine⟨⟨(aD.trans Y).trans (ak.U _),W.ext ak⟩,n,at_,rfl,fun bg aT=>?_,fun h=>by cases h⟩;cases aT;cases O:gU so with
   |none=>rw[O] at E;cases E
   |some p=>
    obtain⟨al,am⟩:=p;have ap:=ay (al,am) O;subst ap;rw[O] at E;simp only at E;cases J:eK t with
    |none=>rw[J] at E;cases E
    |some m=>
     rw[J] at E;simp only at E;split at E
     ·cases E;exact (aj m J).1
     ·cases E
 ·intro bj aE;refine aL (fun v X=>ad=X∧ ∃ c:Bool,v= .bool c∧(c=true→aO lo hi so=none)∧(c=false→(aO lo hi so).map (·.2)=(gU so).map (·.2))) ?_ ?_
  ·rintro _ _ ⟨rfl,c,rfl,aU,aV⟩;rw[b3];refine⟨fun h=>?_,fun h=>aE _ ⟨af.refl _ _,by rw[aV h];exact ai⟩⟩;rw[ae bE.p rfl,V (by kernel_rfl) (aC.cell (o:=0+1) rfl)];refine (kO ai (by omega)).mono ?_;rintro _ X _ ⟨Y,W⟩;exact aE _ ⟨Y,by rw[aU h];exact W⟩
  ·intro bk ab;rw[iE ai];cases O:gU so with
   |none=>
    rw[O] at E;simp only at E;rw[Option.map_none,Option.isSome_none,aP];exact ab _ _ ⟨rfl,false,rfl,(fun h=>by cases h),fun _=>by rw[E,O];rfl⟩
   |some p=>
    obtain⟨al,am⟩:=p;have ap:=ay (al,am) O;subst ap;rw[O] at E;simp only at E;rw[j6,Option.isSome_some,bh,be,aa];refine⟨fun he=>?_,fun he=>?_⟩
    ·refine ab _ _ ⟨rfl,true,rfl,fun _=>?_,fun h=>by cases h⟩;cases J:eK t with
     |none=>rw[E,J]
     |some m=>exact absurd (aj m J).2 he
    ·have aW:e=0:=Z7.1 he;cases J:eK t with
     |none=>exact absurd aW (aR J)
     |some m=>
      rw[J] at E;simp only at E;have aX:=(aj m J).1;subst aX;rw[ao,aa];refine⟨fun aY=>ab _ _ ⟨rfl,true,rfl,fun _=>by rw[E,if_neg (by omega)],fun h=>by cases h⟩,fun aY=>?_⟩;rw[bA];refine ab _ _ ⟨rfl,_,rfl,fun au=>?_,fun au=>?_⟩
      ·rw[E,if_neg (by have:=of_decide_eq_true au;omega)]
      ·rw[E,if_pos (by have:=of_decide_eq_false au;omega),O];rfl
theorem rZ {Y bv:x1} {a b:List Int} {w:x2} (E:aC .i64 w Y a) (Z:aC .i64 w bv b):ah x5 nY [Y,bv] w fun v w'=>v= .bool (decide (a=b))∧Ext w w':=by
 refine aq func208 ?_;rw[aI ap.u E,aI ap.u Z,be,aa];refine⟨fun h=>⟨by rw[decide_eq_false];intro he;rw[he] at h;exact h rfl,Ext.refl _⟩,fun h=>?_⟩;have ab:a.length=b.length:=by have:=Z7.1 h;omega
 rw[aI ap.u E];refine bM.range a.length (fun i _ V=>Ext w V∧a.take i=b.take i) E.le ⟨Ext.refl _,rfl⟩ ?_ ?_
 ·rintro i _ V k hi ⟨W,O⟩ ac;obtain⟨x,J⟩:∃ x,a[i]? =some x:=⟨_,y0 hi⟩;obtain⟨y,X⟩:∃ y,b[i]? =some y:=⟨_,y0 (by omega)⟩;rw[ao,aa];refine⟨fun _=>?_,fun h=>by omega⟩;intro af ad _ _;have U:=W.trans ad;rw[a1 ap.u aj.i (by kernel_rfl) (E.ext U) J,a1 ap.u aj.i (by kernel_rfl) (Z.ext U) X,be,aa];refine⟨fun ae=>⟨by rw[decide_eq_false];intro he;rw[he,X] at J;exact ae (j5 J).symm,U⟩,fun he=>?_⟩;rw[aF];refine ac _ _ ⟨U,?_⟩;rw[u4,u4,O,J,X,Z7.1 he]
 ·rintro _ V k ⟨W,O⟩;rw[ao,aa];refine⟨fun h=>by omega,fun _=>⟨?_,W⟩⟩;rw[o3,ab,o3] at O;rw[decide_eq_true O]
def ff (w:x2) (B E:Nat) (x:bH):Prop:=∃ aN au bo J O U,ad w E aK [aN,au,.int .i64 x.other,bo]∧am .i64 aj w J aN x.scope∧am .i64 aj w O au x.sizes∧h0 w U bo x.lines∧(∀ r,leads aN r∨leads au r→B≤r)∧(∀ r,leads aN r→¬leads au r)∧B≤E
def yi (w:x2) (r:Nat):Prop:=(∃ e c,ad w r e c∧e≠aj∧e≠bt∧e≠aK)∨w.heap.size≤r
theorem ff.cQ {w w':x2} {S:Nat→Prop} {B J:Nat} {x:bH} (h:ff w B J x) (E:af S w w') (W:∀ r,S r→yi w r):ff w' B J x:=by
 obtain⟨aN,au,bo,X,Y,Z,h1,aa,ab,ac,ad,ae,ag⟩:=h;have O:∀ r,S r→fe w r∨w.heap.size≤r:=fun r ah=>(W r ah).imp (fun⟨e,c,V,ai,aj,_⟩=>⟨e,c,V,ai,aj⟩) id;refine⟨aN,au,bo,X,Y,Z,h1.U E fun ak=>?_,dq aa E O,dq ab E O,ac.cQ E O,ad,ae,ag⟩;rcases W J ak with⟨e,c,V,_,_,al⟩|am
 ·exact al (ew V h1)
 ·have:=h1.lt;omega
theorem ff.ext {w w':x2} {B E:Nat} {x:bH} (h:ff w B E x) (J:Ext w w'):ff w' B E x:=h.cQ (J.U fun _=>False) fun _ h=>h.elim
theorem h3 {w:x2} {g B N:Nat} {H:an} {so:Option aw} (h:bf w g B H N so):∀ r,r=g→yi w r:=fun r E=>by
 subst E;obtain⟨O,U,V,bad,W,big,X,told,sv,J,_⟩:=fG h;exact .inl ⟨_,_,J,by decide,by decide,by decide⟩
def e2 (g B:Nat):an:=fun r=>r=g∨B≤r
theorem Hs {n:Int} {k:Nat} {acc:List Int} {s:aw}:b1 (fun acc s=>match aT 0 (n-1) s with
 |none=>none
 |some (v,s)=>if v∈acc then none else some (v,s)) (k+1) acc s=match aT 0 (n-1) s with
  |none=>none
  |some (v,s')=>if v∈acc then none else b1 (fun acc s=>match aT 0 (n-1) s with
 |none=>none
 |some (v,s)=>if v∈acc then none else some (v,s)) k (acc++[v]) s':=by
 rw[b1];cases aT 0 (n-1) s with
 |none=>rfl
 |some q=>
  obtain⟨v,s'⟩:=q;simp only;by_cases ac:v∈acc
  ·rw[if_pos ac,if_pos ac]
  ·rw[if_neg ac,if_neg ac]
def yj (n:Int) (k:Nat) (acc:List Int) (s:aw):Option (List Int×aw):=b1 (fun acc s=>match aT 0 (n-1) s with
 |none=>none
 |some (v,s)=>if v∈acc then none else some (v,s)) k acc s
set_option maxHeartbeats 4000000 in
theorem yk {w:x2} {g B N J bW ar:Nat} {H:an} {s:aw} {so:Option aw} {aQ:x1} {all:List Int} {bl bm:x2→Prop} (bX:bf w g B H N so) (cm:so=some s∨(so=none∧ar=0)) (cn:ff w B J ⟨[],[],0,[]⟩) (cp:∀ c,ad w J aK c→c[3]? =some (.slice none 0 0)) (bY:am .i64 aj w bW aQ all) (cq:∀ r,leads aQ r→r<B) (dF:all.length≤100001) (dG:ar≤4611686018427387904) (bn:so=some s→s.toks.length≤100000)
  (a2:so=some s→ ∀ w' x,af (e2 g B) w w'→dJ all.length ar s=none→bf w' g B H N none→ff w' B J x→bl w')
  (cr:so=none→bm w)
  (bp:so=some s→ ∀ w' scope s',af (e2 g B) w w'→dJ all.length ar s=some (scope,s')→bf w' g B H N (some s')→ff w' B J ⟨scope,scope.map fun v=>all.getD v.toNat 0,0,[]⟩→(∀ c,ad w' J aK c→c[3]? =some (.slice none 0 0))→bm w'):
  bV (.int .i64 0) w fun i X k=>
   bR (α:=x1→x2→Prop) (fun(ct:x1) (aq:x2)=>
    Split ct (O x5 (Z8 #[ap] ab #[aQ]) aq fun t53=>
   O x5 (aB .sub aj false true t53 (.int .i64 1)) aq fun cu=>
   ah x5 iU [.pointer (some ⟨g,0,none⟩),(.int .i64 0),cu] aq fun t55 Y=>
   O x5 (c9 t55 0) Y fun bq=>
   O x5 (c9 t55 1) Y fun cw=>
   O x5 (bk (.pointer (some ⟨g,0,none⟩))) Y fun cz=>
   O x5 (x8 aY cz 3) Y fun cA=>
   O x5 (x7 ab cA) Y fun cB=>
   O x5 (aB .neq ab false true cB (.int .i64 0)) Y fun cC=>
   Split cC (bl Y)
    (O x5 (x8 aK (.pointer (some ⟨J,0,none⟩)) 0) Y fun cD=>
   O x5 (x7 ap cD) Y fun bZ=>
   O x5 (Z8 #[ap] ab #[bZ]) Y fun t66=>
   bV (.int .i64 0) Y fun br ag cE=>
    O x5 (aB .lss ab false false br t66) ag fun cF=>
    Split cF (O x5 (j4 ap bZ br) ag fun cG=>
    O x5 (x7 aj cG) ag fun t70=>
    O x5 (aB .eql aj false false t70 bq) ag fun cH=>
    Split cH (ah x5 kf [.pointer (some ⟨g,0,none⟩),(.int .i64 4),cw] ag fun t76 bt=>bl bt)
     (O x5 (aB .add ab false true br (.int .i64 1)) ag fun cI=>
    cE cI ag))
     (O x5 (x8 aK (.pointer (some ⟨J,0,none⟩)) 0) ag fun cJ=>
   O x5 (x7 ap cJ) ag fun cK=>
   aA x5 (j9 ap 1 #[(0,bq)]) ag fun cL aR=>
   aA x5 (l5 #[ap,ap] ap #[cK,cL]) aR fun cM bu=>
   O x5 (x8 aK (.pointer (some ⟨J,0,none⟩)) 0) bu fun cO=>
   aA x5 (o7 ap cO cM) bu fun(_:Unit) az=>
   dj az fun aD=>
   O x5 (x8 aK (.pointer (some ⟨J,0,none⟩)) 1) aD fun bx=>
   O x5 (x7 ap bx) aD fun b1=>
   O x5 (j4 ap aQ bq) aD fun cP=>
   O x5 (x7 aj cP) aD fun cR=>
   aA x5 (j9 ap 1 #[(0,cR)]) aD fun cS aM=>
    (Ext aD aM∨bL x5 (x7 ap bx) b1 aM∧bL x5 (x8 aK (.pointer (some ⟨J,0,none⟩)) 1) bx aM∧True)∧
   aA x5 (l5 #[ap,ap] ap #[b1,cS]) aM fun cT bz=>
    O x5 (x8 aK (.pointer (some ⟨J,0,none⟩)) 1) bz fun cU=>
    aA x5 (o7 ap cU cT) bz fun(_:Unit) aE=>
     O x5 (aB .add aj false true i (.int .i64 1)) aE fun cV=>
   k cV aE)))
     (bm aq)) fun b2=>
   O x5 (aB .lss aj false false i (.int .i64 (ar:Int))) X fun cW=>
   Split cW (O x5 (bk (.pointer (some ⟨g,0,none⟩))) X fun cX=>
   O x5 (x8 aY cX 3) X fun cZ=>
   O x5 (x7 ab cZ) X fun t45=>
   O x5 (aB .eql ab false true t45 (.int .i64 0)) X fun t46=>
   b2 t46 X)
    (b2 (.bool false) X):=by
 have dH:=bX.lt;rcases cm with rfl|⟨rfl,rfl⟩
 rotate_left
 ·refine bV.range 0 (fun _ b3=>w=b3) (by omega) rfl (fun i b3 k hi=>by omega) ?_;rintro _ k rfl;refine aL (fun v aq=>w=aq∧v= .bool false) ?_ ?_
  ·rintro _ _ ⟨rfl,rfl⟩;rw[aP];exact cr rfl
  ·intro b5 aS;rw[ao,aa];exact⟨fun h=>by omega,fun _=>aS _ _ ⟨rfl,rfl⟩⟩
 have h:=bX;have bn:=bn rfl;have a2:=a2 rfl;have bp:=bp rfl;refine bV.range ar (fun i X=>∃ scope ax,af (e2 g B) w X∧bf X g B H N (some ax)∧ff X B J ⟨scope,scope.map fun v=>all.getD v.toNat 0,0,[]⟩∧scope.length=i∧scope.length+ax.toks.length≤100000∧dJ all.length ar s=yj all.length (ar-i) scope ax∧ ∀ c,ad X J aK c→c[3]? =some (.slice none 0 0)) (by omega) ⟨[],s,af.refl _ _,h,cn,rfl,by simpa using bn,rfl,cp⟩ ?_ ?_
 rotate_left
 ·rintro X k ⟨scope,ax,a6,aC,a7,b6,c0,Z,bA⟩;refine aL (fun v aq=>X=aq∧v= .bool false) ?_ ?_
  ·rintro _ _ ⟨rfl,rfl⟩;rw[aP];rw[X6] at Z;exact bp X scope ax a6 Z aC a7 bA
  ·intro b5 aS;rw[ao,aa];exact⟨fun h=>by omega,fun _=>aS _ _ ⟨rfl,rfl⟩⟩
 rintro i X k hi ⟨scope,ax,a6,aC,a7,b6,c0,Z,bA⟩ c1;refine aL (fun v aq=>X=aq∧v= .bool true) ?_ ?_
 rotate_left
 ·intro b5 aS;rw[ao,aa];refine⟨fun _=>?_,fun h=>by omega⟩;rw[iE aC];exact aS _ _ ⟨rfl,rfl⟩
 rintro _ _ ⟨rfl,rfl⟩;rw[bh];have b7:∀ {w':x2},af (e2 g B) w w'→am .i64 aj w' bW aQ all:=fun c2=>aX bY c2 fun r E W=>by
  rcases W with rfl|W
  ·obtain⟨c3,ai,aU,bad,c4,big,c5,told,sv,ak,_⟩:=fG h;exact bB bY ak (by decide) E rfl
  ·have:=cq r E;omega
 rw[aI ap.u (b7 a6).ls,cY,wrap_i64 (by omega) (by omega)];refine (h2 aC).mono ?_;rintro _ Y _ ⟨⟨bC,al⟩,n,at_,rfl,bD,c6⟩;rw[av (v:=.int .i64 n) rfl,av (v:=.int .i64 at_) rfl,nn al];have bE:=a7.cQ bC (h3 aC);have bF:af (e2 g B) w Y:=a6.trans (bC.mono fun r _ h=>.inl h);have c7:=Hs (n:=(all.length:Int)) (k:=ar-(i+1)) (acc:=scope) (s:=ax);have c8:ar-i=(ar-(i+1))+1:=by omega
 rw[c8] at Z;unfold yj at Z;rw[c7] at Z;have da:aO 0 ((all.length:Int)-1) (some ax)=aT 0 ((all.length:Int)-1) ax:=rfl;rw[da] at al bD c6 ⊢;cases a8:aT 0 ((all.length:Int)-1) ax with
 |none=>
  rw[a8] at al Z;rw[Option.map_none,Option.isSome_none,Y8,bh];exact a2 Y _ bF Z al bE
 |some q=>
  obtain⟨v,bG⟩:=q;rw[a8] at al Z bD;have db:n=v:=bD _ rfl;subst db;have dI:=(fB a8).1;have dK:=(cN a8).1;simp only at Z;rw[j6,Option.isSome_some,Z3,aP];have al:bf Y g B H N (some bG):=al;obtain⟨aN,au,bo,dL,dc,bH,f1,f2,f3,f4,f5,f6,f7⟩:=id bE;rw[ae aK.p rfl,V (by kernel_rfl) (f1.cell (o:=0+0) rfl),aI ap.u f2.ls];have dM:scope.length≤100000:=by omega
  refine bV.range scope.length (fun j ag=>Y=ag∧n∉scope.take j) (by omega) ⟨rfl,by simp⟩ ?_ ?_
  ·rintro j _ dd de ⟨rfl,ba⟩ df;obtain⟨u,hu⟩:∃ u,scope[j]? =some u:=⟨_,y0 de⟩;rw[ao,aa];refine⟨fun _=>?_,fun h=>by simp only at h;omega⟩;rw[a1 ap.u aj.i (by kernel_rfl) f2.ls hu,bc,aa];refine⟨fun he=>?_,fun dg=>?_⟩
   ·refine (kO al (by omega)).mono ?_;rintro _ bt _ ⟨b8,dh⟩;rw[if_pos (by rw[←he];exact x4 hu)] at Z;exact a2 bt _ (bF.trans (b8.mono fun r _ h=>.inl h)) Z dh (bE.cQ b8 (h3 al))
   ·rw[aF];refine df _ ⟨rfl,?_⟩;rw[u4,hu];intro hm;rcases p9.1 hm with hm|hm
    ·exact ba hm
    ·simp at hm;exact dg hm.symm
  ·rintro _ dd ⟨rfl,ba⟩;rw[o3] at ba;rw[ao,aa];refine⟨fun h=>by simp only at h;omega,fun _=>?_⟩;rw[if_neg ba] at Z;rw[ae aK.p rfl,V (by kernel_rfl) (f1.cell (o:=0+0) rfl)];refine dC ap.u aj.i rfl fun dN dO aR dP ay di=>?_;have dQ:=al.lt;refine fF ap.u aj.i rfl (f2.ext ay) di.ls (by simp;omega) (by simp;omega) fun aG bI bu bb dk b9=>?_;have bd:=f1.ext ay;have f113:=bd.U b9 fun he=>bB (f2.ext ay) bd (by decide) he rfl;rw[ae aK.p rfl];refine aZ (g:=J) (o:=0) ap.i bb.ls.cells.1 bb.ls.cells.2 f113 (by simp) fun az ca dR be=>?_;have be:ad az J aK [aG,au,.int .i64 0,bo]:=be;intro aD bJ _ _;have aV:af (fun r=>leads aN r∨r=J) aR az:=(b9.mono fun r _ h=>.inl h).trans (ca.mono fun r _ h=>.inr h);have cb:∀ r,(leads aN r∨r=J)→e2 g B r:=fun r E=>.inr (E.elim (fun E=>f5 r (.inl E)) fun E=>E▸f7);have cc:af (e2 g B) w az:=(bF.trans (ay.U _)).trans (aV.mono fun r _ E=>cb r E);have dl:af (e2 g B) w aD:=cc.trans (bJ.U _);have dm:am .i64 aj az dc au _:=aX (f3.ext ay) aV fun r E W=>by
    rcases W with W|rfl
    ·exact f6 r W E
    ·exact bB (f3.ext ay) bd (by decide) E rfl
   have dn:am .i64 aj az bI aG (scope++[n]):=aX bb ca fun r E he=>by
    have he:r=J:=he;subst he;exact bB bb f113 (by decide) E rfl
   have dp:∀ r,(leads aN r∨r=J)→(∃ c,ad aR r aj c)∨ ∃ c,ad aR r aK c:=fun r E=>by
    rcases E with E|rfl
    ·obtain⟨ai,_⟩:=bw f2 E;obtain⟨_,⟨ac,_⟩|⟨_,cs,ac,ak,_⟩⟩:=f2.ext ay
     ·rw[ac] at E;obtain⟨a,dq,c,ai,aU⟩:=E;cases ai
     ·exact .inl ⟨cs,ai▸ak⟩
    ·exact .inr ⟨_,bd⟩
   have dr:h0 az bH bo []:=by
    obtain⟨L,aH,ds,bK⟩:=f4.cQ (ay.U fun _=>False) fun _ h=>h.elim;have bM:L=[]:=List.map_eq_nil_iff.1 bK;subst bM;refine⟨[],aH.U aV fun r E W=>?_,fun y bN=>(by cases bN),rfl⟩;rcases dp r W with⟨c,ak⟩|⟨c,ak⟩
    ·exact b4 aH ak (by decide) E
    ·exact b4 aH ak (by decide) E
   have dt:bf az g B H N (some bG):=(al.ext ay).new aV fun r E=>by
    rcases cb r E with rfl|h
    ·rcases E with E|E
     ·exact f5 _ (.inl E)
     ·exact E▸f7
    ·exact h
   rw[ae aK.p rfl,V (by kernel_rfl) ((be.ext bJ).cell (o:=0+1) rfl)];have du:all[n.toNat]? =some (all.getD n.toNat 0):=by rw[u6,y0 (by omega)];rfl
   rw[eS (y:=n) (i:=n.toNat) (by omega) ap.u aj.i (by kernel_rfl) (b7 dl).ls du];refine dC ap.u aj.i rfl fun dS dT aM dU cd dv=>?_;refine⟨.inl cd,?_⟩;have aJ:=bJ.trans cd;have f316:=dm.ext aJ;have ce:(scope.map fun v=>all.getD v.toNat 0).length=scope.length:=u7 _;refine fF ap.u aj.i rfl f316 dv.ls (by simp at ce ⊢;omega) (by simp at ce ⊢;omega) fun bO dw bz bg cg ch=>?_;have bi:=be.ext aJ;have ci:=bi.U ch fun he=>bB f316 bi (by decide) he rfl;rw[ae aK.p rfl];refine aZ (g:=J) (o:=1) ap.i bg.ls.cells.1 bg.ls.cells.2 ci (by simp) fun aE cj dV aW=>?_;have aW:ad aE J aK [aG,bO,.int .i64 0,bo]:=aW;rw[aF];have bj:af (fun r=>leads au r∨r=J) aM aE:=(ch.mono fun r _ h=>.inl h).trans (cj.mono fun r _ h=>.inr h);have ck:∀ r,(leads au r∨r=J)→B≤r:=fun r E=>E.elim (fun E=>f5 r (.inr E)) fun E=>E▸f7;have bP:=dn.ext aJ;have dW:=ay.size;have dX:=aV.size;have bQ:∀ r,leads aG r→B≤r∧¬leads au r:=fun r E=>by
    rcases dk r E with h|h
    ·exact⟨f5 r (.inl h),f6 r h⟩
    ·exact⟨by omega,fun bS=>by obtain⟨ai,aU⟩:=bw f3 bS;omega⟩
   have dx:am .i64 aj aE bI aG (scope++[n]):=aX bP bj fun r E W=>by
    rcases W with W|rfl
    ·exact (bQ r E).2 W
    ·exact bB bP bi (by decide) E rfl
   have dy:=aX bg cj fun r E he=>by
    have he:r=J:=he;subst he;exact bB bg ci (by decide) E rfl
   have dz:h0 aE bH bo []:=by
    obtain⟨L,aH,ds,bK⟩:=dr.cQ (aJ.U fun _=>False) fun _ h=>h.elim;have bM:L=[]:=List.map_eq_nil_iff.1 bK;subst bM;refine⟨[],aH.U bj fun r E W=>?_,fun y bN=>(by cases bN),rfl⟩;rcases W with W|rfl
    ·obtain⟨ai,_⟩:=bw f316 W;obtain⟨_,⟨ac,_⟩|⟨_,cs,ac,ak,_⟩⟩:=f316
     ·rw[ac] at W;obtain⟨a,dq,c,ai,aU⟩:=W;cases ai
     ·exact b4 aH (ai▸ak) (by decide) E
    ·exact b4 aH bi (by decide) E
   refine c1 _ ⟨scope++[n],bG,((cc.trans (aJ.U _)).trans (bj.mono fun r _ E=>.inr (ck r E))),(dt.ext aJ).new bj ck,⟨aG,bO,bo,bI,dw,bH,aW,dx,by rw[o9];exact dy,dz,fun r E=>?_,fun r E bS=>?_,f7⟩,by rw[r8,b6];rfl,by rw[r8];simp;omega,Z,fun c bT=>?_⟩
   ·rcases E with E|E
    ·exact (bQ r E).1
    ·rcases cg r E with h|h
     ·exact f5 r (.inr h)
     ·have:=aJ.size;omega
   ·rcases cg r bS with h|h
    ·exact (bQ r E).2 h
    ·obtain⟨ai,aU⟩:=bw bP E;omega
   ·have dA:c=[aG,bO,.int .i64 0,bo]:=by
     unfold ad at bT aW;rw[aW] at bT;have:=(Obj.cells.inj (j5 bT)).1;exact (Array.toList_inj.2 this).symm
    have dD:bo= .slice none 0 0:=by
     obtain⟨dY,dZ,ea,_,_,_,b0,_⟩:=a7;have cl:=bA _ b0;have bU:=b0.U bC fun he=>by
      have he:J=g:=he;obtain⟨c3,ai,aU,bad,c4,big,c5,told,sv,ak,_⟩:=fG aC;subst he;exact absurd (ew ak b0) (by decide)
     unfold ad at bU f1;rw[f1] at bU;have dE:=Array.toList_inj.2 (Obj.cells.inj (j5 bU)).1;have aC:=congrArg (fun l=>l[3]?) dE;simp at aC;simp at cl;rw[aC,cl]
    rw[dA,dD];rfl
set_option maxHeartbeats 1000000 in
theorem Ht {w:x2} {sv:x1} {l:List Int} {ac:x1→x2→Prop} (h:aC .i64 w sv l) (h1:∀ z∈l,1≤z) (am:∀ c:Int,(4096<c↔cE l=true)→ac (.int .i64 c) w):
  bM (.int .i64 1) (.int .i64 0) w fun ad W E aq=>
   O x5 (aB .lss ab false false W (.int .i64 (l.length:Int))) E fun au=>
   Split au (bR (α:=x1→x2→Prop) (fun(av:x1) (ae:x2)=>
    O x5 (aB .add ab false true W (.int .i64 1)) ae fun aw=>
    aq av aw ae) fun af=>
   O x5 (j4 ap sv W) E fun ax=>
   O x5 (x7 aj ax) E fun ag=>
   bR (α:=x1→x2→Prop) (fun(ay:x1) (U:x2)=>
    O x5 (aB .mul aj false false ad ay) U fun ah=>
    O x5 (aB .gtr aj false true ah (.int .i64 4096)) U fun az=>
    Split az (af (.int .i64 4097) U)
     (af ah U)) fun ai=>
   O x5 (aB .gtr aj false true ag (.int .i64 4096)) E fun aA=>
   Split aA (ai (.int .i64 4097) E)
    (ai ag E))
    (ac ad E):=by
 refine bM.range l.length (fun i c aE=>w=aE∧ ∃ p:Int,p=aD ((l.take i).map fun k=>min k 4097)∧1≤p∧c= .int .i64 (if 4096<p then 4097 else p)) h.le ⟨rfl,1,by simp[aD],by omega,by rw[if_neg (by omega)]⟩ ?_ ?_
 ·rintro i _ _ aG hi ⟨rfl,p,V,aH,rfl⟩ aI;obtain⟨z,X⟩:∃ z,l[i]? =some z:=⟨_,y0 hi⟩;have aK:=h1 z (x4 X);have e:aD ((l.take (i+1)).map fun k=>min k 4097)=p*min z 4097:=by
   rw[V,u4,X,l9,o9,List.map_cons,List.map_nil,v7]
  have aM:p*1≤p*min z 4097:=Int.mul_le_mul_of_nonneg_left (by omega) (by omega);rw[ao,aa];refine⟨fun _=>?_,fun h=>by omega⟩;refine aL (fun v Y=>w=Y∧v= .int .i64 (if 4096<p*min z 4097 then 4097 else p*min z 4097)) ?_ ?_
  ·rintro _ _ ⟨rfl,rfl⟩;rw[aF];exact aI _ _ ⟨rfl,_,e.symm,by omega,rfl⟩
  intro aN Z;rw[a1 ap.u aj.i (by kernel_rfl) h X];refine aL (fun v Y=>w=Y∧v= .int .i64 (min z 4097)) ?_ ?_
  ·rintro _ _ ⟨rfl,rfl⟩;rw[fx];by_cases ak:4096<p
   ·rw[if_pos ak];have aJ:(4097:Int)*1≤4097*min z 4097:=Int.mul_le_mul_of_nonneg_left (by omega) (by omega);rw[wrap_i64 (by omega) (by omega),bA,aa];refine⟨fun _=>Z _ _ ⟨rfl,by rw[if_pos (by omega)]⟩,fun aO=>by omega⟩
   ·rw[if_neg ak];have aJ:p*min z 4097≤4096*4097:=by
     have aP:=Int.mul_le_mul_of_nonneg_right (show p≤4096 by omega) (show 0≤min z 4097 by omega);have aQ:=Int.mul_le_mul_of_nonneg_left (show min z 4097≤4097 by omega) (show (0:Int)≤4096 by omega);omega
    rw[wrap_i64 (by omega) (by omega),bA,aa];exact⟨fun J=>Z _ _ ⟨rfl,by rw[if_pos J]⟩,fun J=>Z _ _ ⟨rfl,by rw[if_neg J]⟩⟩
  ·intro aR al;rw[bA,aa];exact⟨fun J=>al _ _ ⟨rfl,by congr 1;omega⟩,fun J=>al _ _ ⟨rfl,by congr 1;omega⟩⟩
 ·rintro _ _ aG ⟨rfl,p,V,aH,rfl⟩;rw[o3] at V;rw[ao,aa];refine⟨fun h=>by omega,fun _=>am _ ?_⟩;unfold cE;rw[←V,decide_eq_true_eq];split
  ·exact⟨fun _=>by omega,fun _=>by omega⟩
  ·exact Iff.rfl
set_option maxHeartbeats 2000000 in
theorem Hu {w:x2} {g B N aJ aP:Nat} {H:an} {so:Option aw} {au:x1} {sizes:List Int} {aQ:x2→Prop} (h:bf w g B H N so) (al:am .i64 aj w aP au sizes) (bg:∀ z∈sizes,1≤z∧z≤ak) (bS:sizes.length≤100001)
  (aI:ad w aJ bt [.slice none 0 0,.int .i64 0]) (bh:B≤aJ)
  (aR:∀ t w' J gt,t.length=sizes.length→af (fun r=>r=g∨r=aJ∨w.heap.size≤r) w w'→ad w' aJ bt [J,.int .i64 0]→am .i64 aj w' gt J t→(∀ r,leads J r→w.heap.size≤r)→bf w' g B H N ((dL sizes [] so).map (·.2))→(∀ q,dL sizes [] so=some q→t=q.1)→aQ w'):
  bV (.int .i64 0) w fun aK Z bi=>
      O x5 (aB .lss ab false false aK (.int .i64 (sizes.length:Int))) Z fun bj=>
      Split bj (O x5 (j4 ap au aK) Z fun bk=>
      O x5 (x7 aj bk) Z fun bl=>
      O x5 (aB .sub aj false true bl (.int .i64 1)) Z fun bm=>
      ah x5 iU [.pointer (some ⟨g,0,none⟩),(.int .i64 0),bm] Z fun aS aq=>
      O x5 (c9 aS 0) aq fun bn=>
      O x5 (c9 aS 1) aq fun bT=>
      O x5 (x8 bt (.pointer (some ⟨aJ,0,none⟩)) 0) aq fun bo=>
      O x5 (x7 ap bo) aq fun bp=>
      aA x5 (j9 ap 1 #[(0,bn)]) aq fun bq br=>
      aA x5 (l5 #[ap,ap] ap #[bp,bq]) br fun bu aT=>
      O x5 (x8 bt (.pointer (some ⟨aJ,0,none⟩)) 0) aT fun bx=>
      aA x5 (o7 ap bx bu) aT fun(_:Unit) aU=>
      O x5 (aB .add ab false true aK (.int .i64 1)) aU fun bz=>
      bi bz aU)
       (aQ Z):=by
 have bU:=aI.lt;have bW:=h.lt;refine bV.range sizes.length (fun j W=>∃ t J gt X,t.length=j∧af (fun r=>r=g∨r=aJ∨w.heap.size≤r) w W∧ad W aJ bt [J,.int .i64 0]∧am .i64 aj W gt J t∧(∀ r,leads J r→w.heap.size≤r)∧bf W g B H N X∧dL sizes [] so=dL (sizes.drop j) t X) al.ls.le
  ⟨[],_,0,so,rfl,af.refl _ _,aI,am.nil _ _ _ _,(fun r E=>by obtain⟨a,n,c,aC,aL⟩:=E;cases aC),h,rfl⟩ ?_ ?_
 rotate_left
 ·rintro W bA ⟨t,J,gt,X,aD,ac,aE,ax,ag,ay,he⟩;rw[ao,aa];refine⟨fun h=>by omega,fun _=>?_⟩;rw[List.drop_length] at he;cases X with
  |none=>
   have he:dL sizes [] so=none:=he;exact aR t W J gt aD ac aE ax ag (by rw[he];exact ay) (fun q Y=>by rw[he] at Y;cases Y)
  |some X=>
   have he:dL sizes [] so=some (t,X):=he;exact aR t W J gt aD ac aE ax ag (by rw[he];exact ay) (fun q Y=>by rw[he] at Y;cases Y;rfl)
 rintro j W bA aV ⟨t,J,gt,X,aD,ac,aE,ax,ag,ay,he⟩ bC;obtain⟨z,aM⟩:∃ z,sizes[j]? =some z:=⟨_,y0 aV⟩;have bD:=bg z (x4 aM);have bX:z≤4611686018427387904:=bD.2;have bE:am .i64 aj W aP au sizes:=aX al ac fun r E aW=>by
  rcases aW with rfl|rfl|aW
  ·obtain⟨bF,aC,aL,bad,bG,big,bH,told,sv,az,_⟩:=fG h;exact bB al az (by decide) E rfl
  ·exact bB al aI (by decide) E rfl
  ·obtain⟨aC,aL⟩:=bw al E;omega
 rw[ao,aa];refine⟨fun _=>?_,fun h=>by omega⟩;rw[a1 ap.u aj.i (by kernel_rfl) bE.ls aM,cY,wrap_i64 (by omega) (by omega)];refine (h2 ay).mono ?_;rintro _ bI _ ⟨⟨aG,bJ⟩,n,at_,rfl,bK,bY⟩;rw[av (v:=.int .i64 n) rfl,av (v:=.int .i64 at_) rfl];have bL:aJ≠g:=by omega
 have a2:=aE.U aG fun he=>bL he;have bM:∃ c,ad W g aY c:=by obtain⟨bF,aC,aL,bad,bG,big,bH,told,sv,az,_⟩:=fG ay;exact⟨_,az⟩
 have a6:am .i64 aj bI gt J t:=aX ax aG fun r E he=>by
  have he:r=g:=he;obtain⟨c,az⟩:=bM;exact bB ax az (by decide) E he
 rw[ae bt.p rfl,V (by kernel_rfl) (a2.cell (o:=0+0) rfl)];refine dC ap.u aj.i rfl fun a3 bZ bN b1 ai bO=>?_;refine fF ap.u aj.i rfl (a6.ext ai) bO.ls (by simp;omega) (by simp;omega) fun a7 bP b2 aH bQ a8=>?_;have ba:=a2.ext ai;have bb:=ba.U a8 fun he=>bB (a6.ext ai) ba (by decide) he rfl;rw[ae bt.p rfl];refine aZ (g:=aJ) (o:=0) ap.i aH.ls.cells.1 aH.ls.cells.2 bb (by simp) fun bc bd b3 aN=>?_;have aN:ad bc aJ bt [a7,.int .i64 0]:=aN;rw[aF];have be:af (fun r=>leads J r∨r=aJ) bN bc:=(a8.mono fun r _ h=>.inl h).trans (bd.mono fun r _ h=>.inr h);have b4:=ac.size;have b5:=aG.size;have z3:=ai.size;refine bC _ ⟨t++[n],a7,bP,(aO 0 (z-1) X).map (·.2),by simp[aD],?_,aN,aX aH bd fun r E he=>?_,fun r E=>?_,?_,?_⟩
 ·refine (ac.trans (aG.mono fun r _ h=>.inl h)).trans ((ai.U _).trans (be.mono fun r _ h=>?_));exact h.elim (fun h=>.inr (.inr (ag r h))) fun h=>.inr (.inl h)
 ·have he:r=aJ:=he;subst he;exact bB aH bb (by decide) E rfl
 ·rcases bQ r E with h|h
  ·exact ag r h
  ·omega
 ·refine (bJ.ext ai).new be fun r E=>?_;rcases E with E|rfl
  ·have:=ag r E;omega
  ·exact bh
 ·rw[he];have bR:sizes.drop j=z::sizes.drop (j+1):=by rw[Y2 aV,(x3.1 aM).2]
  rw[bR,wS];cases Y:aO 0 (z-1) X with
  |none=>rfl
  |some q=>
   obtain⟨v,b6⟩:=q;have:=bK _ Y;subst this;rfl
theorem r0 {w:x2} {g:Nat} {v:x1} {t:List Int} {c:Int} (h:am .i64 aj w g v t):∀ u∈kN ⟨v,t,c⟩,u.oneCell'=true:=by
 intro u hu;simp[kN] at hu;rcases hu with rfl|rfl
 ·exact h.ls.cells.2
 ·rfl
def Hv (sizes:List Int) (cnt i:Nat) (s0:aw) (A:List (List Int×Int)) (so:Option aw):Prop:=(∃ s,so=some s∧b1 (cV sizes) cnt [] s0=b1 (cV sizes) (cnt-i) A s∧A.length+s.toks.length≤100000)∨(so=none∧b1 (cV sizes) cnt [] s0=none)
set_option maxHeartbeats 8000000 in
theorem Hw {w:x2} {g B N Y bq br ay:Nat} {H:an} {s0:aw} {aN au bo:x1} {scope sizes:List Int} {o n:Int} {a1:List (List Int×Int)} {ce:x2→Prop} (h:bf w g B H N (some s0)) (f1:ad w Y aK [aN,au,.int .i64 o,bo]) (f2:am .i64 aj w bq aN scope) (f3:am .i64 aj w br au sizes) (f4:h0 w ay bo a1)
  (f5:∀ r,leads aN r∨leads au r→B≤r) (f6:∀ r,leads aN r→¬leads au r) (f7:B≤Y) (c7:∀ z∈sizes,1≤z∧z≤ak) (c8:sizes.length≤100001) (e7:n≤4611686018427387904) (bK:0<n→a1=[]∧ ∀ r,¬leadsTo bo r) (db:s0.toks.length≤100000)
  (cg:∀ w' A bL,af (e2 g B) w w'→ff w' B Y ⟨scope,sizes,o,A⟩→bf w' g B H N bL→(n≤0→A=a1∧bL=some s0)→(0<n→bL=(b1 (cV sizes) n.toNat [] s0).map (·.2)∧ ∀ q,b1 (cV sizes) n.toNat [] s0=some q→A=q.1)→ce w'):
  bV (.int .i64 0) w fun ch aE dc=>
     bR (α:=x1→x2→Prop) (fun(de:x1) (ci:x2)=>
      Split de (aA x5 (Instr.alloc bt true (.tuple #[])) ci fun x az=>
     O x5 (x8 aK (.pointer (some ⟨Y,0,none⟩)) 1) az fun df=>
     O x5 (x7 ap df) az fun cj=>
     O x5 (Z8 #[ap] ab #[cj]) az fun dg=>
     bV (.int .i64 0) az fun bM aG dh=>
      O x5 (aB .lss ab false false bM dg) aG fun di=>
      Split di (O x5 (j4 ap cj bM) aG fun dj=>
      O x5 (x7 aj dj) aG fun dl=>
      O x5 (aB .sub aj false true dl (.int .i64 1)) aG fun dm=>
      ah x5 iU [.pointer (some ⟨g,0,none⟩),(.int .i64 0),dm] aG fun ck a2=>
      O x5 (c9 ck 0) a2 fun dn=>
      O x5 (c9 ck 1) a2 fun e8=>
      O x5 (x8 bt x 0) a2 fun dp=>
      O x5 (x7 ap dp) a2 fun dr=>
      aA x5 (j9 ap 1 #[(0,dn)]) a2 fun ds dt=>
      aA x5 (l5 #[ap,ap] ap #[dr,ds]) dt fun du cl=>
      O x5 (x8 bt x 0) cl fun dv=>
      aA x5 (o7 ap dv du) cl fun(_:Unit) cm=>
      O x5 (aB .add ab false true bM (.int .i64 1)) cm fun dw=>
      dh dw cm)
       (ah x5 iU [.pointer (some ⟨g,0,none⟩),(.int .i64 0),(.int .i64 4611686018427387904)] aG fun cn W=>
     O x5 (c9 cn 0) W fun dx=>
     O x5 (c9 cn 1) W fun dy=>
     O x5 (x8 aK (.pointer (some ⟨Y,0,none⟩)) 3) W fun dz=>
     O x5 (x7 da dz) W fun cp=>
     O x5 (Z8 #[da] ab #[cp]) W fun dA=>
     bV (.int .i64 0) W fun bN Z dC=>
      O x5 (aB .lss ab false false bN dA) Z fun dD=>
      Split dD (bR (α:=x2→Prop) (fun(aU:x2)=>
       O x5 (aB .add ab false true bN (.int .i64 1)) aU fun dE=>
       dC dE aU) fun cq=>
      O x5 (j4 da cp bN) Z fun dF=>
      O x5 (x7 bt dF) Z fun dG=>
      aA x5 (Instr.alloc bt true (.tuple #[])) Z fun y ct=>
      aA x5 (o7 bt y dG) ct fun(_:Unit) ac=>
      bR (α:=x1→x2→Prop) (fun(dH:x1) (a6:x2)=>
       Split dH (ah x5 kf [.pointer (some ⟨g,0,none⟩),(.int .i64 4),dy] a6 fun fa cw=>
        cq cw)
        (cq a6)) fun cz=>
      O x5 (bk (.pointer (some ⟨g,0,none⟩))) ac fun dI=>
      O x5 (x8 aY dI 3) ac fun dJ=>
      O x5 (x7 ab dJ) ac fun dM=>
      O x5 (aB .eql ab false true dM (.int .i64 0)) ac fun dN=>
      Split dN (O x5 (x8 bt x 0) ac fun dO=>
       O x5 (x7 ap dO) ac fun dP=>
      O x5 (x8 bt y 0) ac fun dQ=>
      O x5 (x7 ap dQ) ac fun dR=>
      ah x5 nY [dP,dR] ac fun dS cA=>
      cz dS cA)
       (cz (.bool false) ac))
       (O x5 (x8 bt x 1) Z fun dT=>
     aA x5 (o7 aj dT dx) Z fun(_:Unit) aC=>
     O x5 (x8 aK (.pointer (some ⟨Y,0,none⟩)) 3) aC fun dU=>
     O x5 (x7 da dU) aC fun dV=>
     O x5 (x7 bt x) aC fun dW=>
     aA x5 (j9 da 1 #[(0,dW)]) aC fun dX bu=>
     aA x5 (l5 #[da,da] da #[dV,dX]) bu fun dY bO=>
     O x5 (x8 aK (.pointer (some ⟨Y,0,none⟩)) 3) bO fun dZ=>
     aA x5 (o7 da dZ dY) bO fun(_:Unit) aD=>
     O x5 (aB .add aj false true ch (.int .i64 1)) aD fun ea=>
     dc ea aD)))
       (ce ci)) fun cB=>
     O x5 (aB .lss aj false false ch (.int .i64 n)) aE fun eb=>
     Split eb (O x5 (bk (.pointer (some ⟨g,0,none⟩))) aE fun ec=>
     O x5 (x8 aY ec 3) aE fun ed=>
     O x5 (x7 ab ed) aE fun ee=>
     O x5 (aB .eql ab false true ee (.int .i64 0)) aE fun ef=>
     cB ef aE)
      (cB (.bool false) aE):=by
 have eg:=h.lt;refine bV.range n.toNat (fun i J=>∃ A so bo ay,af (e2 g B) w J∧ad J Y aK [aN,au,.int .i64 o,bo]∧am .i64 aj J bq aN scope∧am .i64 aj J br au sizes∧h0 J ay bo A∧(0<n→ ∀ r,leadsTo bo r→B≤r)∧bf J g B H N so∧(n≤0→A=a1∧so=some s0)∧(0<n→Hv sizes n.toNat i s0 A so)) (by omega)
  ⟨a1,some s0,bo,ay,af.refl _ _,f1,f2,f3,f4,fun aq r E=>absurd E ((bK aq).2 r),h,fun _=>⟨rfl,rfl⟩,fun aq=>.inl ⟨s0,rfl,by rw[(bK aq).1];rfl,by rw[(bK aq).1];simpa using db⟩⟩ ?_ ?_
 rotate_left
 ·rintro J k ⟨A,so,bo,ay,a7,aV,bw,a8,ba,bQ,aH,cC,X⟩;refine aL (fun v bS=>J=bS∧v= .bool false) ?_ ?_
  ·rintro _ _ ⟨rfl,rfl⟩;rw[aP];refine cg J A so a7 ⟨aN,au,bo,bq,br,ay,aV,bw,a8,ba,f5,f6,f7⟩ aH cC fun aq=>?_;rcases X aq with⟨s,rfl,he,_⟩|⟨rfl,he⟩
   ·rw[X6] at he;rw[he];exact⟨rfl,fun q ag=>by cases ag;rfl⟩
   ·rw[he];exact⟨rfl,fun q ag=>by cases ag⟩
  ·intro eh bT;rw[ao,aa];exact⟨fun h=>by omega,fun _=>bT _ _ ⟨rfl,rfl⟩⟩
 rintro i J k hi ⟨A,so,bo,ay,a7,aV,bw,a8,ba,bQ,aH,cC,X⟩ ei;have aq:0<n:=by omega
 refine aL (fun v bS=>J=bS∧v= .bool so.isSome) ?_ ?_
 rotate_left
 ·intro eh bT;rw[ao,aa];refine⟨fun _=>?_,fun h=>by omega⟩;rw[iE aH];exact bT _ _ ⟨rfl,rfl⟩
 rintro _ _ ⟨rfl,rfl⟩;rcases X aq with⟨bb,rfl,he,fb⟩|⟨rfl,he⟩
 rotate_left
 ·rw[Option.isSome_none,aP];refine cg J A none a7 ⟨aN,au,bo,bq,br,ay,aV,bw,a8,ba,f5,f6,f7⟩ aH (fun h=>by omega) fun _=>?_;rw[he];exact⟨rfl,fun q ag=>by cases ag⟩
 rw[Option.isSome_some,bh];have fc:=aH.lt;refine bi bt.i fun aJ az fd bc bU=>?_;have bU:ad az aJ bt [.slice none 0 0,.int .i64 0]:=bU;have ej:=aV.ext bc;have cD:=a8.ext bc;have fg:=bc.size;have fh:=aV.lt;rw[ae aK.p rfl,V (by kernel_rfl) (ej.cell (o:=0+1) rfl),aI ap.u cD.ls];refine Hu (aH.ext bc) cD c7 c8 bU (by omega) fun t aG bx gt fi ek em en eo ep er=>?_;refine (h2 ep).mono ?_;rintro _ W _ ⟨⟨bW,bz⟩,c,at_,rfl,es,fj⟩;rw[av (v:=.int .i64 c) rfl,av (v:=.int .i64 at_) rfl];have bX:aJ≠g:=by omega
 have cE:Y≠g:=by have:=h.lt;omega
 have et:af (fun r=>r=g∨r=aJ∨az.heap.size≤r) az W:=ek.trans (bW.mono fun r _ h=>.inl h);have cF:∀ {S:Nat→Prop},(∀ r,S r→r=g∨J.heap.size≤r)→ ∀ r,S r→fe J r∨J.heap.size≤r:=fun eu r E=>(eu r E).imp (fun he=>by
  subst he;obtain⟨cG,bd,be,bad,cH,big,cI,told,sv,X,_⟩:=fG aH;exact⟨_,_,X,by decide,by decide⟩) id
 have bA:af (fun r=>r=g∨J.heap.size≤r) J W:=(bc.U _).trans (et.mono fun r _ h=>h.elim .inl fun h=>h.elim (fun h=>.inr (by omega)) fun h=>.inr (by omega));have cJ:ad W Y aK [aN,au,.int .i64 o,bo]:=aV.U bA fun h=>h.elim cE fun h=>by omega
 obtain⟨L,bC,cK,bY⟩:=ba.cQ bA (cF fun r E=>E);have cL:ad W aJ bt [bx,.int .i64 0]:=em.U bW fun he=>bX he;have cM:am .i64 aj W gt bx t:=aX en bW fun r E he=>by
  have he:r=g:=he;have:=eo r E;omega
 have fk:L.length=A.length:=by rw[←bY,u7]
 rw[ae aK.p rfl,V (by kernel_rfl) (cJ.cell (o:=0+3) rfl),dK da.u bC];generalize cO:(aO 0 4611686018427387904 (X1 (fun x=>x.snd) (dL sizes [] (some bb)))).map (·.2)=aM at bz;have fl:=bA.size;refine bV.range L.length (fun j Z=>af (fun r=>r=g) W Z∧bf Z g B H N (if t∈(L.take j).map (·.t) then none else aM)) bC.le ⟨af.refl _ _,by simpa using bz⟩ ?_ ?_
 ·rintro j Z ev cP ⟨ai,bg⟩ ew;obtain⟨y,al⟩:∃ y,L[j]? =some y:=⟨_,y0 cP⟩;have bZ:∃ c,ad W g aY c:=by obtain⟨cG,bd,be,bad,cH,big,cI,told,sv,X,_⟩:=fG bz;exact⟨_,X⟩
  have aQ:∀ r,r=g→fe W r∨W.heap.size≤r:=fun r E=>by
   subst E;obtain⟨c,X⟩:=bZ;exact .inl ⟨_,c,X,by decide,by decide⟩
  have bD:=rY bC ai fun r E=>(aQ r E).imp (fun⟨e,c,X,_,bl⟩=>⟨e,c,X,bl⟩) id;obtain⟨fm,ey⟩:=cK y (x4 al);have cR:=dq ey ai aQ;have b2:=dq cM ai aQ;have bE:=cL.U ai fun he=>bX he;rw[ao,aa];refine⟨fun _=>?_,fun h=>by omega⟩;have b3:t∈(L.take (j+1)).map (·.t)↔t∈(L.take j).map (·.t)∨t=y.t:=by
   rw[u4,al,l9,o9,p9];simp
  refine dd (fun aU=>af (fun r=>r=g) W aU∧bf aU g B H N (if t∈(L.take (j+1)).map (·.t) then none else aM)) ?_ ?_
  ·rintro aU ez;rw[aF];exact ew _ ez
  intro fo cS;rw[cr rfl da.u bt.i bD cP,bj bt.p bt.i rfl (bD.range al)];refine bi bt.i fun aR ct fp eA eB=>?_;refine bP (vs:=kN y) bt.i rfl rfl (r0 cR) eB fun ac eC fq eD=>?_;have bm:Ext Z ac:=eA.then eC fun r E he=>by have he:r=aR:=he;omega
  have cT:=bg.ext bm;have cU:af (fun r=>r=g) W ac:=ai.trans (bm.U _);refine aL (fun v a6=>∃ b:Bool,v= .bool b∧Ext ac a6∧(b=true→t=y.t)∧(b=false→t≠y.t∨(if t∈(L.take j).map (·.t) then none else aM)=none)) ?_ ?_
  ·rintro _ a6 ⟨b,rfl,b5,eE,eF⟩;have aS:=cT.ext b5;cases b with
   |true=>
    rw[bh];refine (kO aS (by omega)).mono ?_;rintro _ cw _ ⟨eH,eI⟩;refine cS _ ⟨(cU.trans (b5.U _)).trans eH,?_⟩;rw[if_pos (b3.2 (.inr (eE rfl)))];exact eI
   |false=>
    rw[aP];refine cS _ ⟨cU.trans (b5.U _),?_⟩;by_cases hm:t∈(L.take j).map (·.t)
    ·rw[if_pos (b3.2 (.inl hm))];rw[if_pos hm] at aS;exact aS
    ·rw[if_neg hm] at aS;rcases eF rfl with bl|cW
     ·rw[if_neg (fun h=>(b3.1 h).elim hm bl)];exact aS
     ·rw[if_neg hm] at cW;rw[cW] at aS ⊢;split <;> exact aS
  ·intro fs cX;rw[iE cT];cases bn:(if t∈(L.take j).map (·.t) then none else aM) with
   |none=>
    rw[Option.isSome_none,aP];exact cX _ _ ⟨false,rfl,Ext.refl _,(fun h=>by cases h),fun _=>.inr bn⟩
   |some ft=>
    rw[Option.isSome_some,bh];have eJ:=bE.ext bm;rw[ae bt.p rfl,V (by kernel_rfl) (eJ.cell (o:=0+0) rfl),ae bt.p rfl,V (by kernel_rfl) (eD.cell (o:=0+0) rfl)];refine (rZ (b2.ls.ext bm) (cR.ls.ext bm)).mono ?_;rintro _ cA _ ⟨rfl,eK⟩;exact cX _ _ ⟨_,rfl,eK,fun h=>of_decide_eq_true h,fun h=>.inl (of_decide_eq_false h)⟩
 ·rintro Z ev ⟨ai,bg⟩;rw[o3] at bg;have eL:L.map (·.t)=A.map (·.1):=by rw[←bY,List.map_map];rfl
  rw[eL] at bg;have bZ:∃ c,ad W g aY c:=by obtain⟨cG,bd,be,bad,cH,big,cI,told,sv,X,_⟩:=fG bz;exact⟨_,X⟩
  have aQ:∀ r,r=g→fe W r∨W.heap.size≤r:=fun r E=>by
   subst E;obtain⟨c,X⟩:=bZ;exact .inl ⟨_,c,X,by decide,by decide⟩
  have cY:∀ r,(r=g∨J.heap.size≤r)→fe J r∨J.heap.size≤r:=cF fun r E=>E;have bF:af (fun r=>r=g∨J.heap.size≤r) J Z:=bA.trans (ai.mono fun r _ h=>.inl h);have eM:=cJ.U ai fun he=>cE he;have eN:=dq bw bF cY;have eO:=dq a8 bF cY;have bD:=rY bC ai fun r E=>(aQ r E).imp (fun⟨e,c,X,_,bl⟩=>⟨e,c,X,bl⟩) id;have eP:∀ y∈L,∃ aR,am .i64 aj Z aR y.v y.t:=fun y al=>by
   obtain⟨aR,hm⟩:=cK y al;exact⟨aR,dq hm ai aQ⟩
  have b2:=dq cM ai aQ;have bE:=cL.U ai fun he=>bX he;rw[ao,aa];refine⟨fun h=>by omega,fun _=>?_⟩;rw[ae bt.p rfl];refine aZ (g:=aJ) (o:=1) aj.i rfl rfl bE (by simp) fun aC aW fu b6=>?_;have b6:ad aC aJ bt [bx,.int .i64 c]:=b6;have eQ:Y≠aJ:=by omega
  have cZ:=eM.U aW fun he=>eQ he;have fv:J.heap.size≤aJ:=by omega
  have eR:∀ r,leadsTo bo r→r≠aJ:=fun r E=>by obtain⟨bd,be⟩:=ba.choose_spec.1.leads E;omega
  have eS:=bD.U aW fun r E he=>eR r E he;rw[ae aK.p rfl,V (by kernel_rfl) (cZ.cell (o:=0+3) rfl),bj bt.p bt.i rfl b6.range];let a:rX:=⟨bx,t,c⟩;have bG:∀ {v:x1} {bp:Nat} {l:List Int},am .i64 aj Z bp v l→am .i64 aj aC bp v l:=fun hm=>aX hm aW fun r E he=>by
   have he:r=aJ:=he;exact bB hm bE (by decide) E he
  have c0:=bG b2;refine eV (f:=kN) (a:=a) da.u bt.i (by omega) rfl rfl fun v45 fw bu fx ax eT=>?_;have b7:=eS.ext ax;refine e9 (f:=kN) (a:=a) da.u bt.i rfl b7 (by simpa using eT.sl) (r0 (c0.ext ax)) (by omega) (by omega) fun b8 c1 bO bH eU c2=>?_;have b9:=cZ.ext ax;have c3:=b9.U c2 fun he=>b4 b7 b9 (by decide) he;rw[ae aK.p rfl];refine aZ (g:=Y) (o:=3) da.i (cu bH.sl).1 (cu bH.sl).2 c3 (by simp) fun aD c4 fy ca=>?_;have ca:ad aD Y aK [aN,au,.int .i64 o,b8]:=ca;rw[aF];have cb:af (fun r=>leadsTo bo r∨r=Y) bu aD:=(c2.mono fun r _ h=>.inl h).trans (c4.mono fun r _ h=>.inr h);have bI:∀ {v:x1} {bp:Nat} {l:List Int},am .i64 aj bu bp v l→am .i64 aj aD bp v l:=fun hm=>aX hm cb fun r E cc=>by
   rcases cc with cc|rfl
   ·obtain⟨rfl,fz,X⟩:=dk b7 cc;exact bB hm X (by decide) E rfl
   ·exact bB hm b9 (by decide) E rfl
  have c5:∀ r,(leadsTo bo r∨r=Y)→B≤r:=fun r E=>E.elim (fun E=>bQ aq r E) fun E=>E▸f7;have eW:bf aC g B H N (if t∈A.map (·.1) then none else aM):=bg.new aW fun r E=>by
   have E:r=aJ:=E;omega
  have eX:=(eW.ext ax).new cb c5;have eY:af (e2 g B) J aD:=((bF.mono fun r _ h=>h.elim .inl fun h=>.inr (by omega)).trans (aW.mono fun r _ h=>.inr (by have h:r=aJ:=h;omega))).trans ((ax.U _).trans (cb.mono fun r _ h=>.inr (c5 r h)));have eZ:h0 aD c1 b8 (A++[(t,c)]):=⟨L++[a],bH.U c4 fun r E he=>by
   have he:r=Y:=he;subst he;exact b4 bH c3 (by decide) E,fun y al=>by
   rcases p9.1 al with al|al
   ·obtain⟨aR,hm⟩:=eP y al;exact⟨aR,bI ((bG hm).ext ax)⟩
   ·rw[p8.1 al];exact⟨gt,bI (c0.ext ax)⟩,by rw[o9,bY];rfl⟩
  refine ei _ ⟨A++[(t,c)],_,b8,c1,a7.trans eY,ca,bI ((bG eN).ext ax),bI ((bG eO).ext ax),eZ,fun _ r E=>?_,eX,fun h=>by omega,fun _=>?_⟩
  ·rcases eU r E with h|h
   ·exact bQ aq r h
   ·have:=a7.size;have:=bF.size;have:=aW.size;have:=ax.size;have:=eg.2;omega
  ·have e0:n.toNat-i=(n.toNat-(i+1))+1:=by omega
   rw[e0] at he;obtain⟨e1,e3⟩:=wW (sizes:=sizes) (acc:=A) (st:=bb) (t:=t) (c:=c) er es;cases ag:aO 0 ak ((dL sizes [] (some bb)).map (·.2)) with
   |none=>
    have bn:aM=none:=by rw[←cO];show (aO 0 ak _).map _=none;rw[ag];rfl
    rw[lD (e1 ag)] at he;refine .inr ⟨?_,he⟩;rw[bn];split <;> rfl
   |some q=>
    have bn:aM=some q.2:=by rw[←cO];show (aO 0 ak _).map _=_;rw[ag];rfl
    have bJ:=e3 q ag;by_cases hm:t∈A.map (·.1)
    ·rw[if_pos hm] at bJ;rw[lD bJ] at he;exact .inr ⟨by rw[if_pos hm],he⟩
    ·rw[if_neg hm] at bJ;rw[oP bJ] at he;refine .inl ⟨q.2,by rw[if_neg hm,bn],he,?_⟩;cases cd:dL sizes [] (some bb) with
     |none=>rw[cd] at ag;cases ag
     |some p=>
      rw[cd] at ag;obtain⟨e4,c6⟩:=p;have bd:gk sizes [] bb=some (e4,c6):=cd;obtain⟨u,_,_,e5⟩:=q6 bd;have be:aT 0 ak c6=some q:=ag;obtain⟨fA,fB⟩:=q;have e6:=cN be;have:=e5.1;have:=e6.1;rw[r8];simp only[U2];omega
def hy (s:aw):Prop:=s.big=false→0≤s.told∧s.told≤16384
def hz (neg:Bool) (ar:Nat) (scope sizes:List Int) (J:Option aw):Option (bH×aw):=match aO 0 ak (J.map (aQ (decide (6<ar)||cE sizes))) with
 |none=>none
 |some (other,O)=>match cW sizes O with
  |none=>none
  |some (lines,E)=>some (⟨scope,sizes,other,lines⟩,if neg=true then {E with shared:=E.shared++[(sizes,lines)]} else E)
theorem yl {sizes:List Int} {s s':aw} {l:List (List Int×Int)} (h:cW sizes s=some (l,s')):s'.toks.length+1≤s.toks.length∧s'.shared=s.shared:=by
 unfold cW at h;cases J:aT (-ak) ak s with
 |none=>rw[J] at h;cases h
 |some q=>
  obtain⟨n,E⟩:=q;have U:=cN J;have Z:=U.1;have V:=U.eqs.2.2;rw[J] at h;simp only at h;split at h
  ·split at h
   ·cases h
   ·split at h
    ·cases h;exact⟨by omega,V⟩
    ·cases h
  ·have h':b1 (cV sizes) n.toNat [] (aQ (decide (16384<min (E.told+n) ak)) {E with told:=min (E.told+n) ak})=some (l,s'):=h;have:=hU (f:=cV sizes) (fun _ t=>t.toks.length≤E.toks.length∧t.shared=E.shared) (fun acc t a aa W Y=>by
    obtain⟨_,_,_,X⟩:=lA Y;have h1:=X.1;have O:=X.eqs.2.2;exact⟨by have:=W.1;omega,O.trans W.2⟩) n.toNat [] (aQ (decide (16384<min (E.told+n) ak)) {E with told:=min (E.told+n) ak}) l s' ⟨u9 _,rfl⟩ h'
   obtain⟨⟨h1,O⟩,_⟩:=this;exact⟨by omega,O.trans V⟩
theorem pC {w:x2} {g B N:Nat} {H:an} {s:aw} (h:bf w g B H N (some s)):s.toks.length≤100000∧s.shared.length+s.toks.length≤100000:=by
 obtain⟨U,w0,V,W,gs,sv,L,X,Y,Z,bad,aa,big,ab,told,h1,ac,ad,ae,J,af,ag,ah,ai,aj,ak,E,al,O,am⟩:=h;have ao:=J.2.2.1;refine⟨by rw[←E,u7];omega,by rw[←E,←O,u7,u7];omega⟩
def ym (w:x2) (g U B:Nat) (H:an) (J:Option (bH×aw)) (v:x1) (w':x2):Prop:=∃ O x E,af (fun r=>r=g∨H r∨r=U∨B≤r) w w'∧v= .agg (dF O).toArray∧e1 w' O x∧bf w' g w'.heap.size E 100001 (J.map (·.2))∧(∀ q,J=some q→x=q.1)∧(∀ r,H r→E r)∧(∀ r,E r→H r∨B≤r)∧ ∀ r,E r→r<w'.heap.size
set_option maxHeartbeats 16000000 in
theorem yn {w:x2} {g B X ag ar:Nat} {H:an} {aq:Option aw} {neg:Bool} {dX:Int} {scope sizes:List Int} {Q:x1→x2→Prop}
  (h:bf w g B H 100000 aq) (dY:ff w B X ⟨scope,sizes,0,[]⟩) (fH:∀ c,ad w X aK c→c[3]? =some (.slice none 0 0)) (dZ:∀ z∈sizes,1≤z∧z≤ak) (fI:sizes.length≤100001) (ea:ad w ag aK [.slice none 0 0,.slice none 0 0,.int .i64 0,.slice none 0 0]) (jJ:ag<B) (cU:¬H ag) (cX:∀ r,H r→r<B) (fJ:∀ aV,aq=some aV→hy aV)
  (fK:∀ v w',ym w g ag B H (hz neg ar scope sizes aq) v w'→Q v w'):
  O x5 (x8 aK (.pointer (some ⟨X,0,none⟩)) 1) w fun fL=>
  O x5 (x7 ap fL) w fun eb=>
  O x5 (Z8 #[ap] ab #[eb]) w fun fM=>
  bM (.int .i64 1) (.int .i64 0) w fun ec dl a7 fN=>
   O x5 (aB .lss ab false false dl fM) a7 fun fO=>
   Split fO (bR (α:=x1→x2→Prop) (fun(fP:x1) (ed:x2)=>
    O x5 (aB .add ab false true dl (.int .i64 1)) ed fun fQ=>
    fN fP fQ ed) fun ee=>
   O x5 (j4 ap eb dl) a7 fun fR=>
   O x5 (x7 aj fR) a7 fun ef=>
   bR (α:=x1→x2→Prop) (fun(fS:x1) (cZ:x2)=>
    O x5 (aB .mul aj false false ec fS) cZ fun eg=>
    O x5 (aB .gtr aj false true eg (.int .i64 4096)) cZ fun fT=>
    Split fT (ee (.int .i64 4097) cZ)
     (ee eg cZ)) fun eh=>
   O x5 (aB .gtr aj false true ef (.int .i64 4096)) a7 fun fU=>
   Split fU (eh (.int .i64 4097) a7)
    (eh ef a7))
    (bR (α:=x2→Prop) (fun(cd:x2)=>
   ah x5 iU [(.pointer (some ⟨g,0,none⟩)),(.int .i64 0),(.int .i64 4611686018427387904)] cd fun ei bW=>
   O x5 (c9 ei 0) bW fun fV=>
   O x5 (c9 ei 1) bW fun jK=>
   O x5 (x8 aK (.pointer (some ⟨X,0,none⟩)) 2) bW fun fW=>
   aA x5 (o7 aj fW fV) bW fun(_:Unit) bz=>
   ah x5 iU [(.pointer (some ⟨g,0,none⟩)),(.int .i64 (-4611686018427387904)),(.int .i64 4611686018427387904)] bz fun ej ai=>
   O x5 (c9 ej 0) ai fun bX=>
   O x5 (c9 ej 1) ai fun ek=>
   O x5 (bk (.pointer (some ⟨g,0,none⟩))) ai fun fX=>
   O x5 (x8 aY fX 3) ai fun fY=>
   O x5 (x7 ab fY) ai fun fZ=>
   O x5 (aB .neq ab false true fZ (.int .i64 0)) ai fun ga=>
   Split ga (O x5 (x7 aK (.pointer (some ⟨X,0,none⟩))) ai fun ce=>
    aA x5 (o7 aK (.pointer (some ⟨ag,0,none⟩)) ce) ai fun(_:Unit) bB=>
    O x5 (do loadVar aK (←asAddr (.pointer (some ⟨ag,0,none⟩)))) bB fun cg=>
 Q cg bB)
    (bR (α:=x2→Prop) (fun(bg:x2)=>
    bV (.int .i64 0) bg fun em bI gb=>
     bR (α:=x1→x2→Prop) (fun(gc:x1) (ch:x2)=>
      Split gc (aA x5 (Instr.alloc bt true (.tuple #[])) ch fun x c0=>
     O x5 (x8 aK (.pointer (some ⟨X,0,none⟩)) 1) c0 fun gd=>
     O x5 (x7 ap gd) c0 fun en=>
     O x5 (Z8 #[ap] ab #[en]) c0 fun ge=>
     bV (.int .i64 0) c0 fun dm bY gf=>
      O x5 (aB .lss ab false false dm ge) bY fun gg=>
      Split gg (O x5 (j4 ap en dm) bY fun gh=>
      O x5 (x7 aj gh) bY fun gi=>
      O x5 (aB .sub aj false true gi (.int .i64 1)) bY fun gj=>
      ah x5 iU [(.pointer (some ⟨g,0,none⟩)),(.int .i64 0),gj] bY fun ep ci=>
      O x5 (c9 ep 0) ci fun gk=>
      O x5 (c9 ep 1) ci fun jL=>
      O x5 (x8 bt x 0) ci fun gl=>
      O x5 (x7 ap gl) ci fun gm=>
      aA x5 (j9 ap 1 #[(0,gk)]) ci fun gn gp=>
      aA x5 (l5 #[ap,ap] ap #[gm,gn]) gp fun gq er=>
      O x5 (x8 bt x 0) er fun gr=>
      aA x5 (o7 ap gr gq) er fun(_:Unit) es=>
      O x5 (aB .add ab false true dm (.int .i64 1)) es fun gu=>
      gf gu es)
       (ah x5 iU [(.pointer (some ⟨g,0,none⟩)),(.int .i64 0),(.int .i64 4611686018427387904)] bY fun et bZ=>
     O x5 (c9 et 0) bZ fun gv=>
     O x5 (c9 et 1) bZ fun gw=>
     O x5 (x8 aK (.pointer (some ⟨X,0,none⟩)) 3) bZ fun gx=>
     O x5 (x7 da gx) bZ fun eu=>
     O x5 (Z8 #[da] ab #[eu]) bZ fun gy=>
     bV (.int .i64 0) bZ fun dn b2 gz=>
      O x5 (aB .lss ab false false dn gy) b2 fun gB=>
      Split gB (bR (α:=x2→Prop) (fun(ev:x2)=>
       O x5 (aB .add ab false true dn (.int .i64 1)) ev fun gC=>
       gz gC ev) fun ey=>
      O x5 (j4 da eu dn) b2 fun gD=>
      O x5 (x7 bt gD) b2 fun gE=>
      aA x5 (Instr.alloc bt true (.tuple #[])) b2 fun y gF=>
      aA x5 (o7 bt y gE) gF fun(_:Unit) a8=>
      bR (α:=x1→x2→Prop) (fun(gH:x1) (ez:x2)=>
       Split gH (ah x5 kf [(.pointer (some ⟨g,0,none⟩)),(.int .i64 4),gw] ez fun jM gI=>
        ey gI)
        (ey ez)) fun eA=>
      O x5 (bk (.pointer (some ⟨g,0,none⟩))) a8 fun gJ=>
      O x5 (x8 aY gJ 3) a8 fun gK=>
      O x5 (x7 ab gK) a8 fun gL=>
      O x5 (aB .eql ab false true gL (.int .i64 0)) a8 fun gM=>
      Split gM (O x5 (x8 bt x 0) a8 fun gN=>
       O x5 (x7 ap gN) a8 fun gO=>
      O x5 (x8 bt y 0) a8 fun gP=>
      O x5 (x7 ap gP) a8 fun gQ=>
      ah x5 nY [gO,gQ] a8 fun gR gS=>
      eA gR gS)
       (eA (.bool false) a8))
       (O x5 (x8 bt x 1) b2 fun gU=>
     aA x5 (o7 aj gU gv) b2 fun(_:Unit) c1=>
     O x5 (x8 aK (.pointer (some ⟨X,0,none⟩)) 3) c1 fun gV=>
     O x5 (x7 da gV) c1 fun gW=>
     O x5 (x7 bt x) c1 fun gX=>
     aA x5 (j9 da 1 #[(0,gX)]) c1 fun gY gZ=>
     aA x5 (l5 #[da,da] da #[gW,gY]) gZ fun g0 eB=>
     O x5 (x8 aK (.pointer (some ⟨X,0,none⟩)) 3) eB fun g1=>
     aA x5 (o7 da g1 g0) eB fun(_:Unit) eC=>
     O x5 (aB .add aj false true em (.int .i64 1)) eC fun g2=>
     gb g2 eC)))
       (bR (α:=x2→Prop) (fun(aM:x2)=>
     O x5 (x7 aK (.pointer (some ⟨X,0,none⟩))) aM fun g3=>
     aA x5 (o7 aK (.pointer (some ⟨ag,0,none⟩)) g3) aM fun(_:Unit) eD=>
     O x5 (do loadVar aK (←asAddr (.pointer (some ⟨ag,0,none⟩)))) eD fun g4=>
 Q g4 eD) fun eE=>
    Split (.bool neg) (dj ch fun aW=>
     O x5 (bk (.pointer (some ⟨g,0,none⟩))) aW fun dr=>
     O x5 (x8 aY dr 8) aW fun ds=>
     O x5 (x7 cH ds) aW fun eF=>
     O x5 (x7 aK (.pointer (some ⟨X,0,none⟩))) aW fun g5=>
     aA x5 (j9 cH 1 #[(0,g5)]) aW fun g6 bi=>
     (Ext aW bi∨bL x5 (x7 cH ds) eF bi∧bL x5 (x8 aY dr 8) ds bi∧bL x5 (bk (.pointer (some ⟨g,0,none⟩))) dr bi∧True)∧
     aA x5 (l5 #[cH,cH] cH #[eF,g6]) bi fun g7 c2=>
      O x5 (bk (.pointer (some ⟨g,0,none⟩))) c2 fun g8=>
      O x5 (x8 aY g8 8) c2 fun g9=>
      aA x5 (o7 cH g9 g7) c2 fun(_:Unit) bK=>
      eE bK)
     (eE ch))) fun eH=>
     O x5 (aB .lss aj false false em bX) bI fun ha=>
     Split ha (O x5 (bk (.pointer (some ⟨g,0,none⟩))) bI fun hb=>
     O x5 (x8 aY hb 3) bI fun hc=>
     O x5 (x7 ab hc) bI fun hd=>
     O x5 (aB .eql ab false true hd (.int .i64 0)) bI fun hg=>
     eH hg bI)
      (eH (.bool false) bI)) fun eI=>
   O x5 (aB .lss aj false true bX (.int .i64 0)) ai fun hh=>
   Split hh (bR (α:=x1→x2→Prop) (fun(hj:x1) (aD:x2)=>
     Split hj (ah x5 kf [(.pointer (some ⟨g,0,none⟩)),(.int .i64 4),ek] aD fun jN dt=>
     O x5 (x7 aK (.pointer (some ⟨X,0,none⟩))) dt fun hk=>
     aA x5 (o7 aK (.pointer (some ⟨ag,0,none⟩)) hk) dt fun(_:Unit) eJ=>
     O x5 (do loadVar aK (←asAddr (.pointer (some ⟨ag,0,none⟩)))) eJ fun hl=>
 Q hl eJ)
     (O x5 (bk (.pointer (some ⟨g,0,none⟩))) aD fun hn=>
    O x5 (x8 aY hn 8) aD fun ho=>
    O x5 (x7 cH ho) aD fun hp=>
    O x5 (Op.unary .neg bX) aD fun hq=>
    O x5 (aB .sub aj false true hq (.int .i64 1)) aD fun hr=>
    O x5 (j4 cH hp hr) aD fun hs=>
    O x5 (x8 aK hs 3) aD fun ht=>
    O x5 (x7 da ht) aD fun hA=>
    O x5 (x8 aK (.pointer (some ⟨X,0,none⟩)) 3) aD fun hB=>
    aA x5 (o7 da hB hA) aD fun(_:Unit) eK=>
    eI eK)) fun eL=>
    dj ai fun al=>
    O x5 (Op.unary .neg bX) al fun hC=>
    O x5 (bk (.pointer (some ⟨g,0,none⟩))) al fun hD=>
    O x5 (x8 aY hD 8) al fun hE=>
    O x5 (x7 cH hE) al fun hF=>
    O x5 (Z8 #[cH] ab #[hF]) al fun hG=>
    O x5 (aB .gtr aj false false hC hG) al fun hH=>
    Split hH (eL (.bool true) al)
    (O x5 (bk (.pointer (some ⟨g,0,none⟩))) al fun hI=>
    O x5 (x8 aY hI 8) al fun hJ=>
    O x5 (x7 cH hJ) al fun hK=>
    O x5 (Op.unary .neg bX) al fun hL=>
    O x5 (aB .sub aj false true hL (.int .i64 1)) al fun hM=>
    O x5 (j4 cH hK hM) al fun hN=>
    O x5 (x8 aK hN 1) al fun hO=>
    O x5 (x7 ap hO) al fun hP=>
    O x5 (x8 aK (.pointer (some ⟨X,0,none⟩)) 1) al fun hQ=>
    O x5 (x7 ap hQ) al fun hR=>
    ah x5 nY [hP,hR] al fun hS du=>
    O x5 (Op.unary .not hS) du fun hT=>
    eL hT du))
    (O x5 (bk (.pointer (some ⟨g,0,none⟩))) ai fun hU=>
    O x5 (x8 aY hU 7) ai fun hV=>
    O x5 (x7 aj hV) ai fun hW=>
    O x5 (aB .add aj false false hW bX) ai fun hX=>
    O x5 (bk (.pointer (some ⟨g,0,none⟩))) ai fun hY=>
    O x5 (x8 aY hY 7) ai fun hZ=>
    aA x5 (o7 aj hZ hX) ai fun(_:Unit) ba=>
    bR (α:=x2→Prop) (fun(bb:x2)=>
     O x5 (bk (.pointer (some ⟨g,0,none⟩))) bb fun h4=>
     O x5 (x8 aY h4 7) bb fun h5=>
     O x5 (x7 aj h5) bb fun h6=>
     O x5 (aB .gtr aj false true h6 (.int .i64 16384)) bb fun h7=>
     ah x5 nW [(.pointer (some ⟨g,0,none⟩)),h7,ek] bb fun jO dv=>
     eI dv) fun eM=>
    O x5 (bk (.pointer (some ⟨g,0,none⟩))) ba fun h8=>
    O x5 (x8 aY h8 7) ba fun h9=>
    O x5 (x7 aj h9) ba fun ia=>
    O x5 (aB .gtr aj false true ia (.int .i64 4611686018427387904)) ba fun ib=>
    Split ib (O x5 (bk (.pointer (some ⟨g,0,none⟩))) ba fun ic=>
    O x5 (x8 aY ic 7) ba fun ie=>
    aA x5 (o7 aj ie (.int .i64 4611686018427387904)) ba fun(_:Unit) eN=>
    eM eN)
    (eM ba)))) fun eO=>
  O x5 (aB .gtr aj false true (.int .i64 (ar:Int)) (.int .i64 6)) a7 fun ig=>
  Split ig (ah x5 nW [(.pointer (some ⟨g,0,none⟩)),(.bool true),(.int .i64 dX)] a7 fun jP ih=>
  eO ih)
   (O x5 (aB .gtr aj false true ec (.int .i64 4096)) a7 fun ii=>
  ah x5 nW [(.pointer (some ⟨g,0,none⟩)),ii,(.int .i64 dX)] a7 fun jQ ij=>
  eO ij)):=by
 have ik:=h.lt;have eQ:ag≠g:=fun he=>by
  obtain⟨aX,aG,aH,bad,a1,big,a2,told,sv,W,_⟩:=fG h;subst he;exact absurd (ew W ea) (by decide)
 obtain⟨aN,au,bo,c3,c4,c5,f1,f2,f3,f4,f5,f6,f7⟩:=id dY;have cj:X≠g:=by omega
 have ret:∀ {Y:x2} {x:bH} {ay:an},ff Y B X x→ad Y ag aK [.slice none 0 0,.slice none 0 0,.int .i64 0,.slice none 0 0]→af (fun r=>r=g∨H r∨B≤r) w Y→bf Y g Y.heap.size ay 100001 ((hz neg ar scope sizes aq).map (·.2))→(∀ q,hz neg ar scope sizes aq=some q→x=q.1)→¬ay ag→(∀ r,H r→ay r)→(∀ r,ay r→H r∨B≤r)→(∀ r,ay r→r<Y.heap.size)→
   (O x5 (x7 aK (.pointer (some ⟨X,0,none⟩))) Y fun ce=>
    aA x5 (o7 aK (.pointer (some ⟨ag,0,none⟩)) ce) Y fun(_:Unit) bB=>
    O x5 (do loadVar aK (←asAddr (.pointer (some ⟨ag,0,none⟩)))) bB fun cg=>Q cg bB):=by
  intro Y x ay dw dx il im J io dy ip iq;obtain⟨aN,au,bo,c3,c4,c5,dz,dA,dC,dD,dE,eR,eS⟩:=dw;let aJ:gA:=⟨aN,au,x.other,bo⟩;have ck:e1 Y aJ x:=⟨⟨c3,dA⟩,⟨c4,dC⟩,rfl,c5,dD⟩;rw[bj aK.p aK.i rfl (show Y.rangeAt X 0 (dF aJ) from dz.range)];refine bP (vs:=dF aJ) aK.i rfl rfl ck.one dx fun jR dG ir it=>?_;rw[eo aK.p aK.i rfl it.range];have iu:∀ r,r=ag→fe Y r∨Y.heap.size≤r:=fun r E=>by subst E;exact .inl ⟨_,_,dx,by decide,by decide⟩
  refine fK _ _ ⟨aJ,x,ay,(il.mono fun r _ h=>?_).trans (dG.mono fun r _ h=>.inr (.inr (.inl h))),rfl,ck.cQ dG iu,im.cQ dG fun r E=>.inl ?_,J,dy,ip,fun r E=>by rw[ir];exact iq r E⟩
  ·exact h.elim .inl fun h=>h.elim (fun h=>.inr (.inl h)) fun h=>.inr (.inr (.inr h))
  ·have E:r=ag:=E;subst E;exact⟨_,_,dx,by decide,by decide,by decide,by decide,io⟩
 have dH:∀ {Y:x2},af (e2 g B) w Y→ad Y ag aK [.slice none 0 0,.slice none 0 0,.int .i64 0,.slice none 0 0]:=fun bl=>ea.U bl fun bm=>bm.elim eQ fun h=>by omega
 have dI:∀ {Y:x2},af (e2 g B) w Y→af (fun r=>r=g∨H r∨B≤r) w Y:=fun bl=>bl.mono fun r _ h=>h.elim .inl fun h=>.inr (.inr h);have eT:∀ {Y:x2} {eU:Nat} {ay:an} {so:Option aw},bf Y g eU ay 100000 so→bf Y g eU ay 100001 so:=fun E=>by
  obtain⟨cl,w0,aX,bC,gs,sv,L,a6,aG,aH,bad,a1,big,a2,told,h1,iv,iw,ix,iy,dJ,dL⟩:=E;refine⟨by omega,w0,aX,bC,gs,sv,L,a6,aG,aH,bad,a1,big,a2,told,h1,iv,iw,ix,iy,dJ,?_⟩;rename_i so;cases so with
  |none=>exact⟨dL.1,by have:=dL.2;omega⟩
  |some s=>exact dL
 have eW:∀ {Y:x2} {x:bH},ff Y B X x→af (e2 g B) w Y→bf Y g B H 100000 none→hz neg ar scope sizes aq=none→(O x5 (x7 aK (.pointer (some ⟨X,0,none⟩))) Y fun ce=>
    aA x5 (o7 aK (.pointer (some ⟨ag,0,none⟩)) ce) Y fun(_:Unit) bB=>
    O x5 (do loadVar aK (←asAddr (.pointer (some ⟨ag,0,none⟩)))) bB fun cg=>Q cg bB):=fun dw bl E eX=>
  ret dw (dH bl) (dI bl) (by rw[eX];exact eT E.base) (fun q az=>by rw[eX] at az;cases az) cU (fun _ h=>h) (fun _ h=>.inl h) fun r E=>by have:=cX r E;have:=bl.size;omega
 rw[ae aK.p rfl,V (by kernel_rfl) (f1.cell (o:=0+1) rfl),aI ap.u f3.ls];refine Ht f3.ls (fun z iz=>(dZ z iz).1) fun c bl=>?_;refine dd (fun cd=>af (fun r=>r=g) w cd∧bf cd g B H 100000 (aq.map (aQ (decide (6<ar)||cE sizes)))) ?_ ?_
 rotate_left
 ·intro dM bn;rw[bA,aa];refine⟨fun dJ=>?_,fun dJ=>?_⟩
  ·refine (jU h).mono ?_;rintro _ iA _ bp;refine bn _ ⟨bp.1,?_⟩;rw[decide_eq_true (show 6<ar by omega),Bool.true_or];exact bp.2
  ·rw[bA];refine (jU h).mono ?_;rintro _ iA _ bp;refine bn _ ⟨bp.1,?_⟩;have e:cE sizes=decide (4096<c):=by rw[X5,decide_eq_true_eq];exact bl.symm
   rw[decide_eq_false (show ¬6<ar by omega),Bool.false_or,e];exact bp.2
 rintro cd ⟨iB,iC⟩;refine (h2 iC).mono ?_;rintro _ bW _ ⟨⟨iD,iE⟩,o,iF,rfl,iG,jS⟩;rw[av (v:=.int .i64 o) rfl,av (v:=.int .i64 iF) rfl];have b3:af (fun r=>r=g) w bW:=iB.trans iD;have jT:=dY.cQ b3 (h3 h);have f123:=f1.U b3 fun he=>cj he;rw[ae aK.p rfl];refine aZ (g:=X) (o:=2) aj.i rfl rfl f123 (by simp) fun bz cm jV b5=>?_;have b5:ad bz X aK [aN,au,.int .i64 o,bo]:=b5;have dN:∀ r,r=g→fe w r∨w.heap.size≤r:=fun r E=>(h3 h r E).imp (fun⟨e,c,W,bq,br,_⟩=>⟨e,c,W,bq,br⟩) id;have b6:∀ {Y:x2} {c:List x1},ad Y X aK c→ ∀ r,r=X→fe Y r∨Y.heap.size≤r:=fun W r E=>by subst E;exact .inl ⟨_,_,W,by decide,by decide⟩
 have f224:=dq (dq f2 b3 dN) cm (b6 f123);have f324:=dq (dq f3 b3 dN) cm (b6 f123);have eY:=(f4.cQ b3 dN).cQ cm (b6 f123);have b7:=iE.new cm fun r E=>by have E:r=X:=E;omega
 have eZ:af (e2 g B) w bz:=(b3.mono fun r _ h=>.inl h).trans (cm.mono fun r _ h=>.inr (by have h:r=X:=h;omega));refine (h2 b7).mono ?_;rintro _ ai _ ⟨⟨bD,bu⟩,n,iH,rfl,iI,e0⟩;rw[av (v:=.int .i64 n) rfl,av (v:=.int .i64 iH) rfl,nn bu];have e3:af (e2 g B) w ai:=eZ.trans (bD.mono fun r _ h=>.inl h);have iJ:ff bz B X ⟨scope,sizes,o,[]⟩:=⟨aN,au,bo,c3,c4,c5,b5,f224,f324,eY,f5,f6,f7⟩;have e4:=iJ.cQ bD (h3 b7);cases bw:aO (-4611686018427387904) 4611686018427387904 (X1 (fun x=>x.snd) (aO 0 4611686018427387904 (aq.map (aQ (decide (6<ar)||cE sizes))))) with
 |none=>
  rw[bw] at bu;rw[Option.map_none,Option.isSome_none,Y8,bh];refine eW e4 e3 bu ?_;unfold hz;cases aC:aO 0 ak (aq.map (aQ (decide (6<ar)||cE sizes))) with
  |none=>rfl
  |some p=>
   obtain⟨o',ac⟩:=p;have iK:aO 0 4611686018427387904 (aq.map (aQ (decide (6<ar)||cE sizes)))=some (o',ac):=aC;rw[iK] at bw;have e:aT (-ak) ak ac=none:=bw;simp only;unfold cW;rw[e]
 |some q=>
 obtain⟨jW,Z⟩:=q;have iL:=iI _ bw;subst iL;rw[bw] at bu;have bu:bf ai g B H 100000 (some Z):=bu;rw[j6,Option.isSome_some,Z3,aP];obtain⟨ac,aC,dO⟩:∃ ac,aO 0 ak (aq.map (aQ (decide (6<ar)||cE sizes)))=some (o,ac)∧aT (-ak) ak ac=some (n,Z):=by
  cases aC:aO 0 4611686018427387904 (aq.map (aQ (decide (6<ar)||cE sizes))) with
  |none=>rw[aC] at bw;cases bw
  |some p=>
   obtain⟨o',ac⟩:=p;have:=iG _ aC;subst this;rw[aC] at bw;exact⟨ac,aC,bw⟩
 have cn:hz neg ar scope sizes aq=match cW sizes ac with
   |none=>none
   |some (lines,Z)=>some (⟨scope,sizes,o,lines⟩,if neg=true then {Z with shared:=Z.shared++[(sizes,lines)]} else Z):=by
  unfold hz;rw[aC]
 have iM:=(fB dO).1;have iN: -4611686018427387904≤n∧n≤4611686018427387904:=iM;have e5:cW sizes ac=(if n<0 then match Z.shared[(-n-1).toNat]? with
   |none=>none
   |some (z,l)=>if z=sizes then some (l,Z) else none
  else b1 (cV sizes) n.toNat [] (aQ (decide (16384<min (Z.told+n) ak)) {Z with told:=min (Z.told+n) ak})):=by
  unfold cW;rw[dO];rfl
 have iO:hy Z:=by
  cases b8:aq with
  |none=>rw[b8] at aC;cases aC
  |some aV=>
   rw[b8] at aC;have dP:aT 0 ak (aQ (decide (6<ar)||cE sizes) aV)=some (o,ac):=aC;have c7:=(cN dP).eqs;have cp:=(cN dO).eqs;intro W;rw[cp.2.1,c7.2.1] at W;rw[cp.1,c7.1];exact fJ aV b8 (V7.1 W).1
 refine dd (fun bg=>af (e2 g B) w bg∧ ∃ bN cq c8 bE,ad bg X aK [aN,au,.int .i64 o,bN]∧am .i64 aj bg c3 aN scope∧am .i64 aj bg c4 au sizes∧h0 bg cq bN c8∧bf bg g B H 100000 (some bE)∧(0<n→c8=[]∧ ∀ r,¬leadsTo bN r)∧cW sizes ac=(if n≤0 then some (c8,bE) else b1 (cV sizes) n.toNat [] bE)) ?_ ?_
 ·rintro bg ⟨iP,bN,cq,c8,bE,dz,dA,dC,dD,dE,eR,eS⟩;refine Hw dE dz dA dC dD f5 f6 f7 dZ fI iN.2 eR (pC dE).1 fun ch A dQ iQ e6 e7 iR ct=>?_;have b9:=iP.trans iQ;have bO:dQ=(cW sizes ac).map (·.2)∧ ∀ q,cW sizes ac=some q→A=q.1:=by
   rw[eS];by_cases dR:n≤0
   ·obtain⟨aG,aH⟩:=iR dR;rw[if_pos dR];exact⟨aH,fun q az=>by cases az;exact aG⟩
   ·rw[if_neg dR];exact ct (by omega)
  obtain⟨bO,bp⟩:=bO;cases neg with
  |false=>
   refine dd (fun aM=>ch=aM) ?_ ?_
   ·rintro _ rfl;refine ret e6 (dH b9) (dI b9) ?_ ?_ cU (fun _ h=>h) (fun _ h=>.inl h) fun r E=>by have:=cX r E;have:=b9.size;omega
    ·have:(hz false ar scope sizes aq).map (·.2)=dQ:=by
      rw[cn,bO];cases cW sizes ac with
      |none=>rfl
      |some p=>rfl
     rw[this];exact eT e7.base
    ·intro q az;rw[cn] at az;cases aR:cW sizes ac with
     |none=>rw[aR] at az;cases az
     |some p=>
      rw[aR] at az;have:=bp p aR;cases az;rw[this]
   ·intro dM bn;rw[aP];exact bn _ rfl
  |true=>
   refine dd (fun aM=>∃ ay,af (fun r=>r=g∨H r∨B≤r) w aM∧ff aM B X ⟨scope,sizes,o,A⟩∧ad aM ag aK [.slice none 0 0,.slice none 0 0,.int .i64 0,.slice none 0 0]∧bf aM g aM.heap.size ay 100001 ((hz true ar scope sizes aq).map (·.2))∧¬ay ag∧(∀ r,H r→ay r)∧(∀ r,ay r→H r∨B≤r)∧ ∀ r,ay r→r<aM.heap.size) ?_ ?_
   ·rintro aM ⟨ay,iS,iT,a3,a4,a5,iV,iW,iX⟩;refine ret iT a3 iS a4 ?_ a5 iV iW iX;intro q az;rw[cn] at az;cases aR:cW sizes ac with
    |none=>rw[aR] at az;cases az
    |some p=>
     rw[aR] at az;have:=bp p aR;cases az;rw[this]
   ·intro dM bn;rw[bh];intro aW cw _ _;have iY:=e7.ext cw;have i0:=e6.ext cw;have i1:=(dH b9).ext cw;obtain⟨cl,w0,aX,bC,gs,sv,L,a6,aG,aH,bad,a1,big,a2,told,db,bQ,bS,aS,bT,bF,bU⟩:=id iY;have i2:=bT.g bQ bS;obtain⟨⟨i3,e8⟩,bc,cz,cA⟩:=id i2;have i4:∀ r,leadsTo sv r→r<B:=fun r E=>cX r (bF r E);rw[ax,ae aY.p rfl,V (by kernel_rfl) (aS.cell (o:=0+8) rfl)];obtain⟨fa,fb,bN,fc,fd,cq,fg,fh,fi,fj,i5,i6,i7⟩:=id i0;let aJ:gA:=⟨fa,fb,o,bN⟩;let x:bH:=⟨scope,sizes,o,A⟩;have ck:e1 aW aJ x:=⟨⟨fc,fh⟩,⟨fd,fi⟩,rfl,cq,fj⟩;rw[bj aK.p aK.i rfl (show aW.rangeAt X 0 (dF aJ) from fg.range)];refine eV (f:=dF) (a:=aJ) cH.u aK.i (by omega) rfl rfl fun jX jY bi jZ aE i8=>?_;refine⟨.inl aE,?_⟩;have j1:L.length≤100000:=by
     cases dQ with
     |none=>exact bU.2
     |some s=>have:=bU.2.2.2.2.2.2.2.2;omega
    have dS:=bc.ext aE;refine e9 (f:=dF) (a:=aJ) cH.u aK.i rfl dS (by simpa using i8.sl) (ck.ext aE).one (by omega) (by omega) fun fk i9 c2 cB ja fl=>?_;have dT:=aS.ext aE;have fm:=dT.U fl fun he=>b4 dS dT (by decide) he;rw[ax,ae aY.p rfl];refine aZ (g:=g) (o:=8) cH.i (cu cB.sl).1 (cu cB.sl).2 fm (by simp[eP]) fun bK dU j2 dc=>?_;have dc:ad bK g aY (eP aX aG aH bad a1 big a2 told fk):=dc;have bd:af (fun r=>leadsTo sv r∨r=g) bi bK:=(fl.mono fun r _ h=>.inl h).trans (dU.mono fun r _ h=>.inr h);have de:∀ r,(leadsTo sv r∨r=g)→fe bi r∨bi.heap.size≤r:=fun r E=>by
     rcases E with E|rfl
     ·obtain⟨rfl,c,W⟩:=dk dS E;exact .inl ⟨_,c,W,by decide,by decide⟩
     ·exact .inl ⟨_,_,dT,by decide,by decide⟩
    have fo:∀ {aJ x},e1 aW aJ x→e1 bK aJ x:=fun he=>(he.ext aE).cQ bd de;have z50:=cw.size;have j3:=aE.size;have z53:=bd.size;have j7:=b9.size;have j8:=ik.2;refine bn _ ⟨fun r=>H r∨(aW.heap.size≤r∧r<bK.heap.size),?_,?_,?_,?_,?_,fun r E=>.inl E,fun r E=>E.imp id fun E=>by omega,fun r E=>?_⟩
    ·refine (((dI b9).trans (cw.U _)).trans (aE.U _)).trans (bd.mono fun r _ E=>?_);exact E.elim (fun E=>.inr (.inl (bF r E))) .inl
    ·have jb:=fg.ext aE;refine⟨fa,fb,bN,fc,fd,cq,jb.U bd fun E=>?_,dq (fh.ext aE) bd de,dq (fi.ext aE) bd de,(fj.cQ (aE.U fun _=>False) fun _ h=>h.elim).cQ bd de,i5,i6,i7⟩;rcases E with E|E
     ·have:=i4 _ E;omega
     ·exact cj E
    ·exact (i1.ext aE).U bd fun E=>E.elim (fun E=>cU (bF _ E)) eQ
    ·refine⟨by omega,bK,aX,bC,i9,fk,L++[aJ],a6++[x],aG,aH,bad,a1,big,a2,told,rfl,af.refl _ _,⟨_,dc⟩,dc,⟨⟨?_,fun r E=>?_⟩,cB.U dU fun r E he=>?_,by rw[r8,r8,cz];rfl,fun i jc jd hi cC=>?_⟩,fun r E=>?_,?_⟩
     ·refine (i3.U (aE.U fun _=>False) fun _ _ h=>h).U bd fun r E bm=>?_;obtain⟨c,W⟩:=e8 r E;rcases bm with bm|rfl
      ·obtain⟨rfl,je,dV⟩:=dk bc bm;exact absurd (ew W dV) (by decide)
      ·exact absurd (ew W aS) (by decide)
     ·obtain⟨c,W⟩:=e8 r E;refine⟨c,(W.ext aE).U bd fun bm=>?_⟩;rcases bm with bm|rfl
      ·obtain⟨rfl,je,dV⟩:=dk bc bm;exact absurd (ew W dV) (by decide)
      ·exact absurd (ew W aS) (by decide)
     ·have he:r=g:=he;subst he;exact b4 cB fm (by decide) E
     ·by_cases jf:i<L.length
      ·rw[Z0 jf] at hi;rw[Z0 (by omega)] at cC;exact fo (cA i jc jd hi cC)
      ·rw[Z2 (by omega)] at hi;rw[Z2 (by omega)] at cC;have jg:i-L.length=0:=by have:=(x3.1 hi).1;simp at this;omega
       have dy:i-a6.length=0:=by omega
       rw[jg] at hi;rw[dy] at cC;cases hi;cases cC;exact fo ck
     ·rcases ja r E with h|h
      ·exact .inl (bF r h)
      ·have:=(cB.leads E);have:=dU.size;exact .inr ⟨by omega,by omega⟩
     ·rw[cn];cases aR:cW sizes ac with
      |none=>
       rw[aR] at bO;rw[bO] at bU;exact⟨bU.1,by rw[r8];simp;have:=bU.2;omega⟩
      |some p=>
       obtain⟨lines,bE⟩:=p;rw[aR] at bO;rw[bO] at bU;have jh:=bp _ aR;obtain⟨cD,cF,cG,cI,cJ,ca,cK,be,df⟩:=id bU;have fp:=yl aR;refine⟨cD,cF,cG,cI,cJ,ca,cK,?_,?_⟩
       ·show (a6++[x]).map _=bE.shared++[(sizes,lines)];rw[o9,be];simp only[x,List.map_cons,List.map_nil];rw[jh]
       ·have ka:ac.shared.length+ac.toks.length≤100000:=by
         cases b8:aq with
         |none=>rw[b8] at aC;cases aC
         |some aV=>
          rw[b8] at aC h;have dP:aT 0 ak (aQ (decide (6<ar)||cE sizes) aV)=some (o,ac):=aC;have t9:=cN dP;have c7:=t9.1;have cp:=t9.eqs.2.2;have t3:=(pC h).2;have fq:(aQ (decide (6<ar)||cE sizes) aV).toks=aV.toks:=rfl;have fs:(aQ (decide (6<ar)||cE sizes) aV).shared=aV.shared:=rfl;rw[fq] at c7;rw[fs] at cp;rw[cp];omega
        have ft:L.length=bE.shared.length:=by rw[←be,u7,cz]
        have ji:bC.length=bE.toks.length:=by rw[←ca,u7]
        rw[fp.2] at ft;rw[r8,ft,ji];simp only[U2];have:=fp.1;omega
    ·rintro (E|E)
     ·exact cU E
     ·omega
    ·rcases E with E|E
     ·have:=cX r E;omega
     ·exact E.2
 ·intro dM bn;rw[ao,aa];refine⟨fun jj=>?_,fun jk=>?_⟩
  ·
   refine aL (fun v aD=>Ext ai aD∧ ∃ b:Bool,v= .bool b∧(b=true→cW sizes ac=none)∧(b=false→ ∃ lines,cW sizes ac=some (lines,Z)∧Z.shared[(-n-1).toNat]? =some (sizes,lines))) ?_ ?_
   ·rintro _ aD ⟨cb,b,rfl,jl,jm⟩;have dg:=bu.ext cb;have jn:=e4.ext cb;have fu:=e3.trans (cb.U _);cases b with
    |true=>
     rw[bh];refine (kO dg (by omega)).mono ?_;rintro _ dt _ ⟨fv,jo⟩;exact eW (jn.cQ fv (h3 dg)) (fu.trans (fv.mono fun r _ h=>.inl h)) jo (by rw[cn,jl rfl])
    |false=>
     rw[aP];obtain⟨lines,jp,cc⟩:=jm rfl;obtain⟨cl,w0,aX,bC,gs,sv,L,a6,aG,aH,bad,a1,big,a2,told,db,bQ,bS,aS,bT,bF,cD,cF,cG,cI,cJ,ca,cK,be,df⟩:=id dg;obtain⟨_,bc,cz,cA⟩:=bT.g bQ bS;have cL:(-n-1).toNat<L.length:=by
      have h1:=(x3.1 cc).1;rw[←be,u7] at h1;omega
     obtain⟨dh,cM⟩:∃ h,L[(-n-1).toNat]? =some h:=⟨_,y0 cL⟩;obtain⟨bx,cO⟩:∃ x,a6[(-n-1).toNat]? =some x:=⟨_,y0 (by omega)⟩;obtain⟨_,_,_,jq,aU⟩:=cA _ dh bx cM cO;have jr:bx.lines=lines:=by
      rw[←be,x6,cO] at cc;have:=j5 cc;exact (Prod.mk.inj this).2
     rw[ax,ae aY.p rfl,V (by kernel_rfl) (aS.cell (o:=0+8) rfl),iZ,wrap_i64 (by omega) (by omega),cY,wrap_i64 (by omega) (by omega),cr (i:=(-n-1).toNat) (by omega) cH.u aK.i bc cL,ae aK.p rfl,V (by kernel_rfl) (bc.range cM 3 _ rfl)];obtain⟨kb,fw,kc,kd⟩:=id aU;have di:ad aD X aK [aN,au,.int .i64 o,bo]:=(b5.U bD fun he=>cj he).ext cb;have js:=(dq f224 bD fun r E=>(h3 b7 r E).imp (fun⟨e,c,W,bq,br,_⟩=>⟨e,c,W,bq,br⟩) id).ext cb;have jt:=(dq f324 bD fun r E=>(h3 b7 r E).imp (fun⟨e,c,W,bq,br,_⟩=>⟨e,c,W,bq,br⟩) id).ext cb;rw[ae aK.p rfl];refine aZ (g:=X) (o:=3) da.i (cu fw.sl).1 (cu fw.sl).2 di (by simp) fun eK cP ke ju=>?_;refine bn _ ⟨fu.trans (cP.mono fun r _ h=>.inr (by have h:r=X:=h;omega)),dh.bo,jq,lines,Z,ju,dq js cP (b6 di),dq jt cP (b6 di),?_,dg.new cP fun r E=>by have E:r=X:=E;omega,fun h=>by omega,by rw[jp,if_pos (by omega)]⟩;rw[←jr];exact aU.cQ cP (b6 di)
   ·intro kg fx;intro al cR _ _;have jv:=bu.ext cR;obtain⟨cl,w0,aX,bC,gs,sv,L,a6,aG,aH,bad,a1,big,a2,told,db,bQ,bS,aS,bT,bF,cD,cF,cG,cI,cJ,ca,cK,be,df⟩:=id jv;obtain⟨_,bc,cz,cA⟩:=bT.g bQ bS;have kh:Z.shared.length=L.length:=by rw[←be,u7,cz]
    have aU:=e5;rw[if_pos jj] at aU;rw[iZ,wrap_i64 (by omega) (by omega),ax,ae aY.p rfl,V (by kernel_rfl) (aS.cell (o:=0+8) rfl),dK cH.u bc,bA,aa];refine⟨fun ct=>fx _ _ ⟨cR,true,rfl,fun _=>?_,fun h=>by cases h⟩,fun ct=>?_⟩
    ·rw[aU,c6 (by omega)]
    have cL:(-n-1).toNat<L.length:=by omega
    obtain⟨dh,cM⟩:∃ h,L[(-n-1).toNat]? =some h:=⟨_,y0 cL⟩;obtain⟨bx,cO⟩:∃ x,a6[(-n-1).toNat]? =some x:=⟨_,y0 (by omega)⟩;obtain⟨_,⟨ki,jw⟩,_,_⟩:=cA _ dh bx cM cO;have cc:Z.shared[(-n-1).toNat]? =some (bx.sizes,bx.lines):=by rw[←be,x6,cO];rfl
    rw[cc] at aU;simp only at aU;rw[ax,ae aY.p rfl,V (by kernel_rfl) (aS.cell (o:=0+8) rfl),iZ,wrap_i64 (by omega) (by omega),cY,wrap_i64 (by omega) (by omega),cr (i:=(-n-1).toNat) (by omega) cH.u aK.i bc cL,ae aK.p rfl,V (by kernel_rfl) (bc.range cM 1 _ rfl)];have jx:ad al X aK [aN,au,.int .i64 o,bo]:=(b5.U bD fun he=>cj he).ext cR;have jy:=(dq f324 bD fun r E=>(h3 b7 r E).imp (fun⟨e,c,W,bq,br,_⟩=>⟨e,c,W,bq,br⟩) id).ext cR;rw[ae aK.p rfl,V (by kernel_rfl) (jx.cell (o:=0+1) rfl)];refine (rZ jw.ls jy.ls).mono ?_;rintro _ du _ ⟨rfl,jz⟩;rw[bJ];refine fx _ _ ⟨cR.trans jz,_,rfl,fun W=>?_,fun W=>?_⟩
    ·have jA:bx.sizes≠sizes:=by simpa using W
     rw[aU,if_neg jA]
    ·have fy:bx.sizes=sizes:=by simpa using W
     exact⟨bx.lines,by rw[aU,if_pos fy],by rw[cc,fy]⟩
  ·
   have aU:=e5;rw[if_neg jk] at aU;obtain⟨cl,w0,aX,bC,gs,sv,L,a6,aG,aH,bad,a1,big,a2,told,db,bQ,bS,aS,bT,bF,cD,cF,cG,cI,cJ,ca,cK,be,df⟩:=id bu;rw[ax,ae aY.p rfl,V (by kernel_rfl) (aS.cell (o:=0+7) rfl),aF];generalize jB:X0.wrap (told+n)=bG;have fz:Z.big=false→bG=Z.told+n∧0≤bG:=fun W=>by
    obtain⟨fq,fs⟩:=iO W;have jC:=cI W;rw[←jB,jC,wrap_i64 (by omega) (by omega)];exact⟨rfl,by omega⟩
   rw[ax,ae aY.p rfl];refine aZ (g:=g) (o:=7) aj.i rfl rfl aS (by simp[eP]) fun ba fA kj cS=>?_;have cS:ad ba g aY (eP aX aG aH bad a1 big a2 bG sv):=cS;refine dd (fun bb=>af (fun r=>r=g) ai bb∧ad bb g aY (eP aX aG aH bad a1 big a2 (min bG ak) sv)) ?_ ?_
   rotate_left
   ·intro kk fC;rw[ax,ae aY.p rfl,V (by kernel_rfl) (cS.cell (o:=0+7) rfl),bA,aa];refine⟨fun ct=>?_,fun ct=>fC _ ⟨fA,?_⟩⟩
    ·rw[ax,ae aY.p rfl];refine aZ (g:=g) (o:=7) aj.i rfl rfl cS (by simp[eP]) fun eN jD kl jE=>?_;refine fC _ ⟨fA.trans jD,?_⟩;have e:min bG ak=4611686018427387904:=by unfold ak;omega
     rw[e];exact jE
    ·have e:min bG ak=bG:=by unfold ak;omega
     rw[e];exact cS
   rintro bb ⟨fD,fE⟩;have jF:bf bb g B H 100000 (some {Z with told:=min (Z.told+n) ak}):=⟨cl,w0,aX,bC,gs,sv,L,a6,aG,aH,bad,a1,big,a2,_,db,bQ.trans fD,bS,fE,bT,bF,cD,cF,cG,fun W=>by
    have W:Z.big=false:=W;rw[(fz W).1],cJ,ca,cK,be,df⟩
   rw[ax,ae aY.p rfl,V (by kernel_rfl) (fE.cell (o:=0+7) rfl),bA];refine (jU jF).mono ?_;rintro _ dv _ ⟨jG,fF⟩;have jH:(some {Z with told:=min (Z.told+n) ak}).map (aQ (decide (16384<min bG ak)))=some (aQ (decide (16384<min (Z.told+n) ak)) {Z with told:=min (Z.told+n) ak}):=by
    show some (aQ _ _)=_;congr 1;unfold aQ;cases W:Z.big with
    |true=>simp
    |false=>rw[(fz W).1]
   rw[jH] at fF;have cT:af (fun r=>r=g) bz dv:=(bD.trans fD).trans jG;have dW:∀ r,r=g→fe bz r∨bz.heap.size≤r:=fun r E=>(h3 b7 r E).imp (fun⟨e,c,W,bq,br,_⟩=>⟨e,c,W,bq,br⟩) id;have jI:bo= .slice none 0 0:=by
    have:=fH _ f1;simpa using this
   refine bn _ ⟨eZ.trans (cT.mono fun r _ h=>.inl h),bo,c5,[],_,b5.U cT fun he=>cj he,dq f224 cT dW,dq f324 cT dW,eY.cQ cT dW,fF,fun _=>⟨rfl,fun r E=>by rw[jI] at E;exact dp E⟩,?_⟩;rw[aU];by_cases e0:n≤0
   ·have:n=0:=by omega
    subst this;rw[if_pos (Int.le_refl _)];rfl
   ·rw[if_neg e0]
theorem yo {all:List Int} {s:aw}:ck all s=match aT (-ak) ak s with
  |none=>none
  |some (a,J)=>match dJ all.length a.natAbs J with
   |none=>none
   |some (scope,E)=>hz (decide (a<0)) a.natAbs scope (scope.map fun v=>all.getD v.toNat 0) (some E):=by
 unfold ck;cases aT (-ak) ak s with
 |none=>rfl
 |some q=>
  obtain⟨a,J⟩:=q;simp only;cases dJ all.length a.natAbs J with
  |none=>rfl
  |some p=>
   obtain⟨scope,E⟩:=p;simp only;unfold hz;show _=match aT 0 ak (aQ (decide (6<a.natAbs)||cE (scope.map fun v=>all.getD v.toNat 0)) E) with
    |none=>none
    |some (other,O)=>_
   cases aT 0 ak (aQ (decide (6<a.natAbs)||cE (scope.map fun v=>all.getD v.toNat 0)) E) with
   |none=>rfl
   |some V=>
    obtain⟨o,O⟩:=V;simp only;cases cW (scope.map fun v=>all.getD v.toNat 0) O with
    |none=>rfl
    |some W=>
     obtain⟨ls,X⟩:=W;by_cases U:a<0
     ·simp[U]
     ·simp[U]
def r1 (w:x2) (g:Nat) (H:an) (J:Option (bH×aw)) (v:x1) (w':x2):Prop:=∃ O x E,af (fun r=>r=g∨H r) w w'∧v= .agg (dF O).toArray∧e1 w' O x∧bf w' g w'.heap.size E 100001 (J.map (·.2))∧(∀ q,J=some q→x=q.1)∧(∀ r,H r→E r)∧(∀ r,E r→H r∨w.heap.size≤r)∧ ∀ r,E r→r<w'.heap.size
theorem yp {n:Int} {k:Nat} {s s':aw} {l:List Int} (h:dJ n k s=some (l,s')):s'.toks.length+l.length≤s.toks.length∧s'.told=s.told∧s'.big=s.big∧s'.shared=s.shared∧ ∀ v∈l,0≤v∧v<n:=by
 have:=hU (f:=hV n) (fun(acc:List Int) t=>t.toks.length+acc.length≤s.toks.length∧t.told=s.told∧t.big=s.big∧t.shared=s.shared∧ ∀ v∈acc,0≤v∧v<n) (fun acc t a Z J E=>by
  unfold hV at E;cases U:aT 0 (n-1) t with
  |none=>rw[U] at E;cases E
  |some q=>
   obtain⟨v,aa⟩:=q;rw[U] at E;simp only at E;split at E
   ·cases E
   ·cases E;have V:=cN U;have ab:=(fB U).1;obtain⟨W,X,Y⟩:=V.eqs;have t0:=V.1;refine⟨by have:=J.1;rw[r8];simp only[U2];omega,W.trans J.2.1,X.trans J.2.2.1,Y.trans J.2.2.2.1,fun y O=>?_⟩;rcases p9.1 O with O|O
    ·exact J.2.2.2.2 y O
    ·rw[p8.1 O];omega) k [] s l s' ⟨by simp,rfl,rfl,rfl,fun v ac=>by cases ac⟩ h
 exact this.1
set_option maxHeartbeats 8000000 in
theorem Hx {w:x2} {g B0 bl:Nat} {H:an} {s:aw} {ay:x1} {all:List Int} (h:bf w g B0 H 100000 (some s)) (aI:am .i64 aj w bl ay all) (aJ:∀ z∈all,1≤z∧z≤ak) (bm:all.length≤100001) (az:∀ r,H r→r<w.heap.size) (bM:hy s):
  ah x5 tV [.pointer (some ⟨g,0,none⟩),ay] w (r1 w g H (ck all s)):=by
 have cl:=h.lt;refine aq func160 ?_;refine bi aK.i fun ae V cm aB aC=>?_;have aC:ad V ae aK [.slice none 0 0,.slice none 0 0,.int .i64 0,.slice none 0 0]:=aC;refine bi aK.i fun ai bN cn aD aE=>?_;have aE:ad bN ai aK [.slice none 0 0,.slice none 0 0,.int .i64 0,.slice none 0 0]:=aE;have h1:=(h.ext aB).base;have aM:=h1.ext aD;have cp:=aB.size;have bn:=aC.lt;have cq:=aE.lt;refine (h2 aM).mono ?_;rintro _ ab _ ⟨⟨aF,W⟩,a,bO,rfl,aP,aQ⟩;rw[av (v:=.int .i64 a) rfl,av (v:=.int .i64 bO) rfl,ao];have bQ:ai≠g:=by omega
 have aS:ae≠g:=by omega
 have aU:=aE.U aF fun he=>bQ he;have aV:=(aC.ext aD).U aF fun he=>aS he;have bp:am .i64 aj ab bl ay all:=aX ((aI.ext aB).ext aD) aF fun r E he=>by
  have he:r=g:=he;obtain⟨bq,Y,ag,bad,br,big,bt,told,sv,aG,_⟩:=fG h;subst he;exact bB aI aG (by decide) E rfl
 have bu:∀ r,leads ay r→r<V.heap.size:=fun r E=>by obtain⟨Y,ag⟩:=bw aI E;omega
 have aW:ff ab V.heap.size ai ⟨[],[],0,[]⟩:=⟨_,_,_,0,0,0,aU,am.nil _ _ _ _,am.nil _ _ _ _,⟨[],aR.nil _ _ _ _ _,fun y bR=>(by cases bR),rfl⟩,(fun r E=>by rcases E with⟨a,n,c,Y,ag⟩|⟨a,n,c,Y,ag⟩ <;> cases Y),(fun r E=>by obtain⟨a,n,c,Y,ag⟩:=E;cases Y),by omega⟩;have aY:∀ c,ad ab ai aK c→c[3]? =some (.slice none 0 0):=fun c aZ=>by
  unfold ad at aZ aU;rw[aU] at aZ;have:=Array.toList_inj.2 (Obj.cells.inj (j5 aZ)).1;simp at this;rw[←this];rfl
 have bx:af (fun r=>r=g) V ab:=(aD.U _).trans aF;have cr:V.heap.size≤ab.heap.size:=bx.size;have a1:∀ {J:x2} {a2:Option (bH×aw)} {v:x1} {w':x2},af (e2 g V.heap.size) ab J→a2=ck all s→ym J g ae V.heap.size H a2 v w'→r1 w g H (ck all s) v w':=by
  rintro J a2 v w' Z rfl ⟨ax,x,bS,a6,a7,a8,ba,bz,bA,bC,bT⟩;refine⟨ax,x,bS,?_,a7,a8,ba,bz,bA,fun r E=>(bC r E).imp id fun h=>by omega,bT⟩;refine fk (fk ((aB.U _).trans (bx.mono fun r _ h=>.inl h)) Z fun r E he=>?_) a6 fun r E he=>?_
  ·exact he.elim .inl fun he=>by omega
  ·rcases he with he|he|he|he
   ·exact .inl he
   ·exact .inr he
   ·omega
   ·omega
 have bU:∀ {J:x2} {x:bH},af (e2 g V.heap.size) ab J→ck all s=none→bf J g V.heap.size H 100000 none→ff J V.heap.size ai x→
   (O x5 (x7 aK (.pointer (some ⟨ai,0,none⟩))) J fun bV=>
    aA x5 (o7 aK (.pointer (some ⟨ae,0,none⟩)) bV) J fun(_:Unit) bD=>
    O x5 (do loadVar aK (←asAddr (.pointer (some ⟨ae,0,none⟩)))) bD fun bW=>r1 w g H (ck all s) bW bD):=by
  intro J x Z bE bb bX;obtain⟨aN,au,bo,bY,bZ,b1,a6,a7,a8,ba,bz,bA,bC⟩:=bX;let ax:gA:=⟨aN,au,x.other,bo⟩;have bF:e1 J ax x:=⟨⟨bY,a7⟩,⟨bZ,a8⟩,rfl,b1,ba⟩;have bc:=aV.U Z fun al=>al.elim aS fun h=>by omega
  rw[bj aK.p aK.i rfl (show J.rangeAt ai 0 (dF ax) from a6.range)];refine bP (vs:=dF ax) aK.i rfl rfl bF.one bc fun ct bd cu b2=>?_;rw[eo aK.p aK.i rfl b2.range];have b3:∀ r,r=ae→fe J r∨J.heap.size≤r:=fun r E=>by subst E;exact .inl ⟨_,_,bc,by decide,by decide⟩
  have cw:=Z.size;refine a1 Z rfl ⟨ax,x,H,bd.mono fun r _ h=>.inr (.inr (.inl h)),rfl,bF.cQ bd b3,?_,(fun q X=>by rw[bE] at X;cases X),fun _ h=>h,fun _ h=>.inl h,fun r E=>by have:=az r E;omega⟩;rw[bE];have b4:bf J g V.heap.size H 100001 none:=by
   obtain⟨cz,w0,bq,b5,gs,sv,L,b6,Y,ag,bad,br,big,bt,told,h1,aM,W,b7,b8,be,bG⟩:=bb;exact⟨by omega,w0,bq,b5,gs,sv,L,b6,Y,ag,bad,br,big,bt,told,h1,aM,W,b7,b8,be,bG.1,by have:=bG.2;omega⟩
  refine b4.cQ bd fun r E=>.inl ?_;have E:r=ae:=E;subst E;exact⟨_,_,bc,by decide,by decide,by decide,by decide,fun bg=>by have:=az _ bg;omega⟩
 have ap:=yo (all:=all) (s:=s);have b9:aO (-4611686018427387904) 4611686018427387904 (some s)=aT (-ak) ak s:=rfl;rw[b9] at W aP aQ;have cA: -4611686018427387904≤a∧a≤4611686018427387904:=by
  cases X:aT (-ak) ak s with
  |none=>have:=aQ X;omega
  |some q=>have:=aP q X;rw[this];exact (fB (n:=q.1) (s':=q.2) X).1
 refine aL (fun v ca=>ab=ca∧v= .int .i64 (a.natAbs:Int)) ?_ ?_
 rotate_left
 ·intro cB bI;rw[aa];refine⟨fun cC=>?_,fun cD=>bI _ _ ⟨rfl,by congr 1;omega⟩⟩;rw[iZ,wrap_i64 (by omega) (by omega)];exact bI _ _ ⟨rfl,by congr 1;omega⟩
 rintro _ _ ⟨rfl,rfl⟩;have bJ:∀ r,H r→r<V.heap.size:=fun r E=>by have:=az r E;omega
 have bK:¬H ae:=fun bg=>by have:=az _ bg;omega
 have cb:∀ {scope:List Int},(∀ v∈scope,0≤v∧v<(all.length:Int))→ ∀ z∈scope.map (fun v=>all.getD v.toNat 0),1≤z∧z≤ak:=fun ac z cc=>by
  obtain⟨v,cd,rfl⟩:=o6.1 cc;have:=ac v cd;refine aJ _ ?_;rw[u6,y0 (by omega)];exact List.getElem_mem _
 cases X:aT (-ak) ak s with
 |none=>
  rw[X] at W ap;have ce:=aQ X;subst ce;refine yk (s:=s) (ar:=(0:Int).natAbs) W (.inr ⟨rfl,rfl⟩) aW aY bp bu bm (by decide) (fun h=>by cases h) ?_ ?_ ?_
  ·intro h;cases h
  ·intro _;exact yn (neg:=decide ((0:Int)<0)) W aW aY (fun z aJ=>by cases aJ) (by simp) aV bn bK bJ (fun cg al=>by cases al) fun v w' bh=>a1 (af.refl _ _) (by rw[ap];rfl) bh
  ·intro h;cases h
 |some q=>
  obtain⟨a',bL⟩:=q;rw[X] at W ap;have:=aP _ X;subst this;simp only at ap;have W:bf ab g V.heap.size H 100000 (some bL):=W;have ch:=cN X;refine yk (s:=bL) (ar:=a.natAbs) W (.inl rfl) aW aY bp bu bm (by omega) (fun _=>(pC W).1) ?_ ?_ ?_
  ·intro _ J x Z aH bb bk;exact bU Z (by rw[ap,aH]) bb bk
  ·intro h;cases h
  ·intro _ J scope s' Z aH be bk ci;obtain⟨cE,cj,t3,t4,t5⟩:=yp aH;rw[aH] at ap;obtain⟨Y,ag,cF⟩:=ch.eqs;refine yn (neg:=decide (a<0)) be bk ci (cb t5) ?_ (aV.U Z fun al=>al.elim aS fun h=>by omega) bn bK bJ (fun cg al=>?_) fun v w' bh=>a1 Z ap.symm bh
   ·rw[u7];have:=(pC W).1;omega
   ·cases al;intro aG;rw[t3,ag] at aG;rw[cj,Y];exact bM aG
theorem Hy {sizes:List Int} {s s':aw} {l:List (List Int×Int)} (h:cW sizes s=some (l,s')) (V:hy s):hy s':=by
 unfold cW at h;cases O:aT (-ak) ak s with
 |none=>rw[O] at h;cases h
 |some q=>
  obtain⟨n,E⟩:=q;obtain⟨W,X,t3⟩:=(cN O).eqs;have U:hy E:=fun J=>by rw[W];exact V (by rw[←X];exact J)
  rw[O] at h;simp only at h;split at h
  ·split at h
   ·cases h
   ·split at h
    ·cases h;exact U
    ·cases h
  ·rename_i af;have h':b1 (cV sizes) n.toNat [] (aQ (decide (16384<min (E.told+n) ak)) {E with told:=min (E.told+n) ak})=some (l,s'):=h;have:=hU (f:=cV sizes) (fun _ t=>hy t) (fun acc t a ag Y Z=>by
    obtain⟨_,_,_,aa⟩:=lA Z;obtain⟨ab,ac,ah⟩:=aa.eqs;intro J;rw[ab];exact Y (by rw[←ac];exact J)) n.toNat [] (aQ (decide (16384<min (E.told+n) ak)) {E with told:=min (E.told+n) ak}) l s' (fun J=>by
     obtain⟨ad,ae⟩:=V7.1 J;have ai:=U ad;have aj:=of_decide_eq_false ae;show 0≤min (E.told+n) ak∧min (E.told+n) ak≤16384;unfold ak at*;omega) h'
   exact this.1
theorem Hz {all:List Int} {s s':aw} {x:bH} (h:ck all s=some (x,s')):s'.toks.length+1≤s.toks.length∧(hy s→hy s'):=by
 rw[yo] at h;cases O:aT (-ak) ak s with
 |none=>rw[O] at h;cases h
 |some q=>
  obtain⟨a,ac⟩:=q;rw[O] at h;simp only at h;have Y:=cN O;cases U:dJ all.length a.natAbs ac with
  |none=>rw[U] at h;cases h
  |some p=>
   obtain⟨scope,E⟩:=p;rw[U] at h;simp only at h;obtain⟨av,ad,t3,_⟩:=yp U;unfold hz at h;have e:aO 0 ak ((some E).map (aQ (decide (6<a.natAbs)||cE (scope.map fun v=>all.getD v.toNat 0))))=aT 0 ak (aQ (decide (6<a.natAbs)||cE (scope.map fun v=>all.getD v.toNat 0)) E):=rfl;rw[e] at h;cases V:aT 0 ak (aQ (decide (6<a.natAbs)||cE (scope.map fun v=>all.getD v.toNat 0)) E) with
   |none=>rw[V] at h;cases h
   |some ae=>
    obtain⟨o,Z⟩:=ae;rw[V] at h;simp only at h;have aa:=cN V;cases J:cW (scope.map fun v=>all.getD v.toNat 0) Z with
    |none=>rw[J] at h;cases h
    |some af=>
     obtain⟨ls,W⟩:=af;rw[J] at h;simp only[b9,V1] at h;obtain⟨_,ag⟩:=h;have ax:=yl J;have ah:(aQ (decide (6<a.natAbs)||cE (scope.map fun v=>all.getD v.toNat 0)) E).toks=E.toks:=rfl;have ai:=aa.1;rw[ah] at ai;have ay:=Y.1;obtain⟨aj,al,_⟩:=Y.eqs;obtain⟨f1,f2,_⟩:=aa.eqs;have X:s'.toks=W.toks∧s'.told=W.told∧s'.big=W.big:=by
      rw[←ag];split <;> exact⟨rfl,rfl,rfl⟩
     refine⟨by rw[X.1];omega,fun am=>?_⟩;have ao:hy Z:=fun ab=>by
      rw[f2] at ab;rw[f1];have ap:E.big=false:=(V7.1 ab).1;show 0≤E.told∧E.told≤16384;rw[ad,aj];exact am (by rw[←al,←t3];exact ap)
     have aq:=Hy J ao;intro au;rw[X.2.1];exact aq (by rw[←X.2.2];exact au)
theorem bf.shrink {w:x2} {g B N:Nat} {H:an} {so:Option aw} (h:bf w g B H N so):∃ E,bf w g B E N so∧(∀ r,E r→H r)∧ ∀ r,E r→ ∃ c,ad w r aK c:=by
 obtain⟨Y,w0,Z,aa,gs,sv,L,ab,ac,ae,bad,af,big,ag,told,h1,O,V,ah,W,ai,aj⟩:=h;refine⟨fun r=>leadsTo sv r,⟨Y,w0,Z,aa,gs,sv,L,ab,ac,ae,bad,af,big,ag,told,h1,O,V,ah,W,fun r J=>J,aj⟩,ai,fun r J=>?_⟩;obtain⟨rfl,c,X⟩:=dk W.2.1 J;refine⟨c,X.U O fun he=>?_⟩;obtain⟨al,ak⟩:=V;subst he;exact absurd (ew X ak) (by decide)
theorem bf.low {w:x2} {g B N:Nat} {H:an} {s:aw} (h:bf w g B H N (some s)):bf w g B H 100000 (some s):=by
 obtain⟨ae,w0,E,J,gs,sv,L,O,U,V,bad,W,big,X,told,h1,Y,Z,aa,ab,ac,ad⟩:=h;exact⟨u9 _,w0,E,J,gs,sv,L,O,U,V,bad,W,big,X,told,h1,Y,Z,aa,ab,ac,ad⟩
theorem bf.up {w:x2} {g B N M:Nat} {H:an} {so:Option aw} (h:bf w g B H N so) (ae:N≤M):bf w g B H M so:=by
 obtain⟨af,w0,J,O,gs,sv,L,U,V,W,bad,X,big,Y,told,h1,Z,aa,ab,ac,ad,E⟩:=h;refine⟨by omega,w0,J,O,gs,sv,L,U,V,W,bad,X,big,Y,told,h1,Z,aa,ab,ac,ad,?_⟩;cases so with
 |none=>exact⟨E.1,by have:=E.2;omega⟩
 |some s=>exact E
def iF {α:Type} (f:List α→aw→Option (α×aw)) (cnt i:Nat) (E:Option aw) (A:List α) (so:Option aw):Prop:=E.bind (b1 f cnt [])=(match so with
 |none=>none
 |some s=>b1 f (cnt-i) A s)
theorem iF.step {α:Type} {f:List α→aw→Option (α×aw)} {cnt i:Nat} {J:Option aw} {A:List α} {s:aw} {a:α} {O:Option aw} (h:iF f cnt i J A (some s)) (hi:i<cnt) (h1:O=(f A s).map (·.2)) (U:∀ q,f A s=some q→a=q.1):iF f cnt (i+1) J (A++[a]) O:=by
 unfold iF at*;rw[h,show cnt-i=(cnt-(i+1))+1 by omega];simp only;cases E:f A s with
 |none=>rw[lD E,h1,E];rfl
 |some q=>
  obtain⟨a',s'⟩:=q;have:=U _ E;subst this;rw[oP E,h1,E];rfl
theorem HA {s0:aw} {t acc:List Int} {n most W k:Int} {ah:List bH} {Z aa ab ac ai so6 J:Option aw} (h1:Z=((cU s0).map (·.2)).map (aQ (decide (64<t.length)))) (ay:∀ q,cU s0=some q→t=q.1)
  (X:aa=((aO 1 ak Z).map (·.2)).map (aQ (decide (64<n)))) (aq:∀ q,aO 1 ak Z=some q→n=q.1) (U:ab=(aO 1 ak aa).map (·.2)) (hm:∀ q,aO 1 ak aa=some q→most=q.1)
  (O:ac=((aO 0 ak ab).map (·.2)).map (aQ (decide (256<W)))) (au:∀ q,aO 0 ak ab=some q→W=q.1) (E:ai=((aO 1 ak ac).map (·.2)).map (aQ (decide (2147483648<k)))) (av:∀ q,aO 1 ak ac=some q→k=q.1)
  (Y:ai.bind (b1 (ep most) n.toNat [])=so6.map fun s=>(acc,s)) (V:so6.bind (b1 (fun _ s=>ck acc s) W.toNat [])=J.map fun s=>(ah,s)):fA s0=J.map fun s=>(⟨t,k,acc,ah⟩,s):=by
 unfold fA;cases aj:cU s0 with
 |none=>
  rw[aj] at h1;subst h1;subst X;subst U;subst O;subst E;have:so6=none:=by cases so6 with|none=>rfl|some s=>cases Y
  subst this;cases J with|none=>rfl|some s=>cases V
 |some az=>
 obtain⟨aJ,ad⟩:=az;have:=ay _ aj;subst this;rw[aj] at h1;have h1:Z=some (aQ (decide (64<t.length)) ad):=h1;subst h1;simp only;have aA:aO 1 ak (some (aQ (decide (64<t.length)) ad))=aT 1 ak (aQ (decide (64<t.length)) ad):=rfl;rw[aA] at X aq;cases al:aT 1 ak (aQ (decide (64<t.length)) ad) with
 |none=>
  rw[al] at X;subst X;subst U;subst O;subst E;have:so6=none:=by cases so6 with|none=>rfl|some s=>cases Y
  subst this;cases J with|none=>rfl|some s=>cases V
 |some aB=>
 obtain⟨aK,ae⟩:=aB;have:=aq _ al;subst this;rw[al] at X;have X:aa=some (aQ (decide (64<n)) ae):=X;subst X;simp only;have aC:aO 1 ak (some (aQ (decide (64<n)) ae))=aT 1 ak (aQ (decide (64<n)) ae):=rfl;rw[aC] at U hm;cases am:aT 1 ak (aQ (decide (64<n)) ae) with
 |none=>
  rw[am] at U;subst U;subst O;subst E;have:so6=none:=by cases so6 with|none=>rfl|some s=>cases Y
  subst this;cases J with|none=>rfl|some s=>cases V
 |some aD=>
 obtain⟨aL,af⟩:=aD;have:=hm _ am;subst this;rw[am] at U;have U:ab=some af:=U;subst U;simp only;have aE:aO 0 ak (some af)=aT 0 ak af:=rfl;rw[aE] at O au;cases ao:aT 0 ak af with
 |none=>
  rw[ao] at O;subst O;subst E;have:so6=none:=by cases so6 with|none=>rfl|some s=>cases Y
  subst this;cases J with|none=>rfl|some s=>cases V
 |some aF=>
 obtain⟨aM,ag⟩:=aF;have:=au _ ao;subst this;rw[ao] at O;have O:ac=some (aQ (decide (256<W)) ag):=O;subst O;simp only;have aG:aO 1 ak (some (aQ (decide (256<W)) ag))=aT 1 ak (aQ (decide (256<W)) ag):=rfl;rw[aG] at E av;cases ap:aT 1 ak (aQ (decide (256<W)) ag) with
 |none=>
  rw[ap] at E;subst E;have:so6=none:=by cases so6 with|none=>rfl|some s=>cases Y
  subst this;cases J with|none=>rfl|some s=>cases V
 |some aH=>
 obtain⟨aN,ax⟩:=aH;have:=av _ ap;subst this;rw[ap] at E;have E:ai=some (aQ (decide (2147483648<k)) ax):=E;subst E;simp only;have Y:b1 (ep most) n.toNat [] (aQ (decide (2147483648<k)) ax)=so6.map fun s=>(acc,s):=Y;rw[Y];cases so6 with
 |none=>cases J with|none=>rfl|some s=>cases V
 |some aI=>
  simp only[j6];have V:b1 (fun _ s=>ck acc s) W.toNat [] aI=J.map fun s=>(ah,s):=V;rw[V];cases J <;> rfl
def lV (w:x2) (J:Nat) (O:x1) (E:List bH):Prop:=∃ L,aR dF 4 aK w J O L∧E.length=L.length∧ ∀ (i:Nat) h x,L[i]? =some h→E[i]? =some x→e1 w h x
def kP (w:x2) (J:Nat) (f:bx):Prop:=∃ au O E U,ad w J cM [bb f.name,.int .i64 f.k,au,E]∧am .i64 aj w O au f.sizes∧lV w U E f.funs
theorem lV.ext {w w':x2} {E:Nat} {O:x1} {U:List bH} (h:lV w E O U) (J:Ext w w'):lV w' E O U:=by
 obtain⟨L,h1,V,W⟩:=h;exact⟨L,h1.ext J,V,fun i X x hi Y=>(W i X x hi Y).ext J⟩
theorem kP.ext {w w':x2} {E:Nat} {f:bx} (h:kP w E f) (J:Ext w w'):kP w' E f:=by
 obtain⟨au,O,U,V,h1,W,X⟩:=h;exact⟨au,O,U,V,h1.ext J,W.ext J,X.ext J⟩
def HB (w:x2) (E:List Int) (v:x1) (w':x2):Prop:=Ext w w'∧ ∃ n e:Int,(eT E=none→v= .tuple #[.pointer none,.int .i64 n,.int .i64 e])∧ ∀ f,eT E=some f→ ∃ J,v= .tuple #[.pointer (some ⟨J,0,none⟩),.int .i64 n,.int .i64 e]∧kP w' J f
set_option maxHeartbeats 16000000 in
theorem HC {w0 w:x2} {g W bu B:Nat} {so6:Option aw} {t acc cq:List Int} {k az bad:Int} {au p:x1} {Q:x1→x2→Prop} (dz:af (fun r=>w0.heap.size≤r) w0 w) (cr:ad w W cM [bb t,.int .i64 k,au,.slice none 0 0]) (dA:am .i64 aj w bu au acc)
  (h:bf w g B a8 100000 so6) (dC:∀ s,so6=some s→hy s∧s.toks.length≤100000∧(∀ z∈acc,1≤z∧z≤ak)∧acc.length≤100001) (fv:w0.heap.size≤g) (fw:w0.heap.size≤W) (dD:aC .u8 w0 p cq) (fx:0≤az∧az≤4611686018427387904)
  (bO:∀ v w' ai bP,Ext w0 w'→so6.bind (b1 (fun _ s=>ck acc s) az.toNat [])=bP.map (fun s=>(ai,s))→
   (∀ s,bP=some s→s.toks=[]∧¬0≤bad∧s.big=false→v= .tuple #[.pointer (some ⟨W,0,none⟩),.int .i64 (cq.length:Int),.int .i64 0]∧kP w' W ⟨t,k,acc,ai⟩)→
   ((∀ s,bP=some s→¬(s.toks=[]∧¬0≤bad∧s.big=false))→ ∃ n e:Int,v= .tuple #[.pointer none,.int .i64 n,.int .i64 e])→Q v w'):
  bV (.int .i64 0) w fun ct Y dE=>
   bR (α:=x1→x2→Prop) (fun(dG:x1) (al:x2)=>
    Split dG (dj al fun ac=>
   O x5 (bk (.pointer (some ⟨W,0,none⟩))) ac fun bc=>
   O x5 (x8 cM bc 3) ac fun bd=>
   O x5 (x7 cH bd) ac fun bQ=>
   O x5 (bk (.pointer (some ⟨W,0,none⟩))) ac fun dH=>
   O x5 (x8 cM dH 2) ac fun dI=>
   O x5 (x7 ap dI) ac fun dJ=>
   ah x5 tV [(.pointer (some ⟨g,0,none⟩)),dJ] ac fun dK aS=>
    (Ext ac aS∨bL x5 (x7 cH bd) bQ aS∧bL x5 (x8 cM bc 3) bd aS∧bL x5 (bk (.pointer (some ⟨W,0,none⟩))) bc aS∧True)∧
   aA x5 (j9 cH 1 #[(0,dK)]) aS fun dL aD=>
    (Ext ac aD∨bL x5 (x7 cH bd) bQ aD∧bL x5 (x8 cM bc 3) bd aD∧bL x5 (bk (.pointer (some ⟨W,0,none⟩))) bc aD∧True)∧
    aA x5 (l5 #[cH,cH] cH #[bQ,dL]) aD fun dM bx=>
     O x5 (bk (.pointer (some ⟨W,0,none⟩))) bx fun dN=>
     O x5 (x8 cM dN 3) bx fun dO=>
     aA x5 (o7 cH dO dM) bx fun(_:Unit) bg=>
     O x5 (aB .add aj false true ct (.int .i64 1)) bg fun dP=>
   dE dP bg)
     (bR (α:=x2→Prop) (fun(ay:x2)=>
   bR (α:=x2→Prop) (fun(Z:x2)=>
    O x5 (bk (.pointer (some ⟨g,0,none⟩))) Z fun dQ=>
    O x5 (x8 aY dQ 3) Z fun dR=>
    O x5 (x7 ab dR) Z fun dS=>
    O x5 (aB .neq ab false true dS (.int .i64 0)) Z fun dU=>
    Split dU (dj Z fun aM=>
     O x5 (bk (.pointer (some ⟨g,0,none⟩))) aM fun dV=>
     O x5 (x8 aY dV 4) aM fun dW=>
     O x5 (x7 ab dW) aM fun dX=>
     O x5 (bk (.pointer (some ⟨g,0,none⟩))) aM fun dY=>
     O x5 (x8 aY dY 3) aM fun dZ=>
     O x5 (x7 ab dZ) aM fun ea=>
     Q (.tuple #[(.pointer none),dX,ea]) aM)
     (O x5 (bk (.pointer (some ⟨g,0,none⟩))) Z fun eb=>
    O x5 (x8 aY eb 5) Z fun ec=>
    O x5 (x7 ab ec) Z fun ed=>
    O x5 (aB .neq ab false true ed (.int .i64 0)) Z fun ee=>
    Split ee (dj Z fun aN=>
     O x5 (bk (.pointer (some ⟨g,0,none⟩))) aN fun ef=>
     O x5 (x8 aY ef 6) aN fun eg=>
     O x5 (x7 ab eg) aN fun eh=>
     O x5 (bk (.pointer (some ⟨g,0,none⟩))) aN fun ei=>
     O x5 (x8 aY ei 5) aN fun ej=>
     O x5 (x7 ab ej) aN fun ek=>
     Q (.tuple #[(.pointer none),eh,ek]) aN)
     (O x5 (Z8 #[bZ] ab #[p]) Z fun em=>
    Q (.tuple #[(.pointer (some ⟨W,0,none⟩)),em,(.int .i64 0)]) Z))) fun cw=>
   bR (α:=x1→x2→Prop) (fun(en:x1) (bz:x2)=>
    Split en (ah x5 kf [(.pointer (some ⟨g,0,none⟩)),(.int .i64 11),(.int .i64 bad)] bz fun fy cz=>
     cw cz)
     (cw bz)) fun cA=>
   O x5 (bk (.pointer (some ⟨g,0,none⟩))) ay fun eo=>
   O x5 (x8 aY eo 3) ay fun ep=>
   O x5 (x7 ab ep) ay fun er=>
   O x5 (aB .eql ab false true er (.int .i64 0)) ay fun es=>
   Split es (O x5 (aB .geq ab false true (.int .i64 bad) (.int .i64 0)) ay fun et=>
   cA et ay)
    (cA (.bool false) ay)) fun cB=>
  bR (α:=x1→x2→Prop) (fun(eu:x1) (aE:x2)=>
   Split eu (O x5 (bk (.pointer (some ⟨g,0,none⟩))) aE fun ev=>
    O x5 (x8 aY ev 0) aE fun ey=>
    O x5 (x7 dT ey) aE fun ez=>
    O x5 (j4 dT ez (.int .i64 0)) aE fun eA=>
    O x5 (x8 bE eA 1) aE fun eB=>
    O x5 (x7 ab eB) aE fun eC=>
    ah x5 kf [(.pointer (some ⟨g,0,none⟩)),(.int .i64 4),eC] aE fun fz bS=>
    cB bS)
    (cB aE)) fun cC=>
  O x5 (bk (.pointer (some ⟨g,0,none⟩))) al fun eD=>
  O x5 (x8 aY eD 3) al fun eE=>
  O x5 (x7 ab eE) al fun eF=>
  O x5 (aB .eql ab false true eF (.int .i64 0)) al fun eH=>
  Split eH (O x5 (bk (.pointer (some ⟨g,0,none⟩))) al fun eI=>
  O x5 (x8 aY eI 0) al fun eJ=>
  O x5 (x7 dT eJ) al fun eK=>
  O x5 (Z8 #[dT] ab #[eK]) al fun eL=>
  O x5 (aB .gtr ab false true eL (.int .i64 0)) al fun eM=>
  cC eM al)
   (cC (.bool false) al))) fun cD=>
   O x5 (aB .lss aj false false ct (.int .i64 az)) Y fun eN=>
   Split eN (O x5 (bk (.pointer (some ⟨g,0,none⟩))) Y fun eO=>
   O x5 (x8 aY eO 3) Y fun eP=>
   O x5 (x7 ab eP) Y fun eQ=>
   O x5 (aB .eql ab false true eQ (.int .i64 0)) Y fun eR=>
   cD eR Y)
    (cD (.bool false) Y):=by
 have cE:W≠g:=fun he=>by
  obtain⟨aT,aO,aQ,bad,aU,big,aV,told,sv,X,_⟩:=fG h;subst he;exact absurd (ew X cr) (by decide)
 refine⟨fun bT Y=>∃ i:Nat,bT= .int .i64 (i:Int)∧i≤az.toNat∧af (fun r=>w0.heap.size≤r) w0 Y∧ ∃ aq bi ai so,∃ H:an,ad Y W cM [bb t,.int .i64 k,au,aq]∧am .i64 aj Y bu au acc∧lV Y bi aq ai∧(∀ r,leadsTo aq r→w0.heap.size≤r∧¬H r)∧¬H W∧(∀ r,leads au r→¬H r)∧(∀ r,H r→w0.heap.size≤r)∧bf Y g Y.heap.size H 100001 so∧iF (fun _ s=>ck acc s) az.toNat i so6 ai so∧
   ∀ s,so=some s→hy s∧ai.length+s.toks.length≤100000∧(∀ z∈acc,1≤z∧z≤ak)∧acc.length≤100001,fun bT _=>az.toNat-(bl bT).toNat,
  ⟨0,rfl,Z1 _,dz,_,0,[],so6,a8,cr,dA,⟨[],aR.nil _ _ _ _ _,rfl,fun i h x hi=>by simp at hi⟩,fun r E=>(dp E).elim,id,fun r _ h=>h,fun r h=>h.elim,h.base.up (by omega),?_,fun s av=>?_⟩,?_⟩
 ·unfold iF;cases so6 <;> rfl
 ·obtain⟨eS,eT,a3,a4⟩:=dC s av;exact⟨eS,by simpa using eT,a3,a4⟩
 rintro _ Y ⟨i,rfl,hi,bB,aq,bi,ai,so,H,cF,cG,cI,bj,bU,eU,cJ,aJ,bW,eW⟩;refine aL (fun v al=>Y=al∧((v= .bool true∧i<az.toNat∧ ∃ s,so=some s)∨(v= .bool false∧(so=none∨i=az.toNat)))) ?_ ?_
 rotate_left
 ·intro fA bX;rw[ao,aa];refine⟨fun cK=>?_,fun fB=>bX _ _ ⟨rfl,.inr ⟨rfl,.inr (by omega)⟩⟩⟩;rw[iE aJ];cases so with
  |none=>exact bX _ _ ⟨rfl,.inr ⟨rfl,.inl rfl⟩⟩
  |some s=>exact bX _ _ ⟨rfl,.inl ⟨rfl,by omega,s,rfl⟩⟩
 rintro _ _ ⟨rfl,⟨rfl,cK,s,rfl⟩|⟨rfl,eX⟩⟩
 ·
  rw[bh];intro ac aW _ _;obtain⟨cL,fC,cN,cO⟩:=eW s rfl;have bm:=cF.ext aW;obtain⟨eY,cP,bn,cR⟩:=(aJ.ext aW).low.shrink;have bY:=cG.ext aW;have eZ:=cI.ext aW;rw[ax,ae cM.p rfl,V (by kernel_rfl) (bm.cell (o:=0+3) rfl),ax,ae cM.p rfl,V (by kernel_rfl) (bm.cell (o:=0+2) rfl)];refine (Hx cP bY cN cO (fun r E=>by obtain⟨c,X⟩:=cR r E;exact X.lt) cL).mono ?_;rintro _ aS _ ⟨b2,x,cS,aX,rfl,cT,e0,e1,fD,cU,e2⟩;have cV:∃ c,ad ac g aY c:=by obtain⟨aT,aO,aQ,bad,aU,big,aV,told,sv,X,_⟩:=fG cP;exact⟨_,X⟩
  have cW:∀ r,(r=g∨eY r)→fe ac r∨ac.heap.size≤r:=fun r E=>by
   rcases E with rfl|E
   ·obtain⟨c,X⟩:=cV;exact .inl ⟨_,c,X,by decide,by decide⟩
   ·obtain⟨c,X⟩:=cR r E;exact .inl ⟨_,c,X,by decide,by decide⟩
  have b3:=bm.U aX fun E=>E.elim (fun he=>cE he) fun E=>bU (bn _ E);have st:∀ {w':x2},ad w' W cM [bb t,.int .i64 k,au,aq]→bL x5 (x7 cH (.pointer (some ⟨W,0+3,none⟩))) aq w'∧bL x5 (x8 cM (.pointer (some ⟨W,0,none⟩)) 3) (.pointer (some ⟨W,0+3,none⟩)) w'∧bL x5 (bk (.pointer (some ⟨W,0,none⟩))) (.pointer (some ⟨W,0,none⟩)) w'∧True:=fun X=>
   ⟨uT (by kernel_rfl) (X.cell (o:=0+3) rfl),kD (by rw[ae cM.p rfl]),kD (by rw[ax]),trivial⟩
  refine⟨.inr (st b3),?_⟩;refine eV (f:=dF) (a:=b2) cH.u aK.i (by omega) rfl rfl fun fE fF aD fH aG e3=>?_;refine⟨.inr (st (b3.ext aG)),?_⟩;obtain⟨L,a1,b5,b6⟩:=id eZ;have e4:aR dF 4 aK aS bi aq L:=a1.U aX fun r E av=>av.elim (fun he=>by
   obtain⟨c,X⟩:=cV;subst he;exact b4 a1 X (by decide) E) fun av=>(bj r E).2 (bn r av)
  have b7:=e4.ext aG;refine e9 (f:=dF) (a:=b2) cH.u aK.i rfl b7 (by simpa using e3.sl) (cT.ext aG).one (by omega) (by omega) fun cX e5 bx bC e6 cY=>?_;have b8:=b3.ext aG;have cZ:=b8.U cY fun he=>b4 b7 b8 (by decide) he;rw[ax,ae cM.p rfl];refine aZ (g:=W) (o:=3) cH.i (cu bC.sl).1 (cu bC.sl).2 cZ (by simp) fun bg c0 fI b9=>?_;have b9:ad bg W cM [bb t,.int .i64 k,au,cX]:=b9;have fJ:i≤4611686018427387904:=by omega
  rw[aF,wrap_i64 (by omega) (by omega)];have a2:af (fun r=>leadsTo aq r∨r=W) aD bg:=(cY.mono fun r _ h=>.inl h).trans (c0.mono fun r _ h=>.inr h);have c1:∀ r,(leadsTo aq r∨r=W)→ ∃ e c,ad aD r e c∧e≠aj∧e≠bt∧e≠bE∧e≠aY:=fun r E=>by
   rcases E with E|rfl
   ·obtain⟨rfl,c,X⟩:=dk b7 E;exact⟨_,c,X,by decide,by decide,by decide,by decide⟩
   ·exact⟨_,_,b8,by decide,by decide,by decide,by decide⟩
  have cb:∀ r,(leadsTo aq r∨r=W)→fe aD r∨aD.heap.size≤r:=fun r E=>by
   obtain⟨e,c,X,cc,cd,_⟩:=c1 r E;exact .inl ⟨e,c,X,cc,cd⟩
  have fK:=aW.size;have fL:=aX.size;have fM:=aG.size;have fN:=a2.size;have c2:∀ r,leadsTo aq r→r<ac.heap.size:=fun r E=>by obtain⟨aO,aQ⟩:=a1.leads E;omega
  have bo:∀ r,r<ac.heap.size→¬H r→¬cS r:=fun r E e7 ce=>(cU r ce).elim (fun h=>e7 (bn r h)) fun h=>by omega
  have e8:∀ r,leads au r→r<ac.heap.size:=fun r E=>by obtain⟨aO,aQ⟩:=bw bY E;omega
  refine⟨⟨i+1,rfl,by omega,?_,cX,e5,ai++[x],_,cS,b9,dq ((dq bY aX cW).ext aG) a2 cb,⟨L++[b2],bC.U c0 fun r E he=>?_,by rw[r8,r8,b5];rfl,fun j c3 fa a6 bp=>?_⟩,fun r E=>?_,bo W bm.lt bU,fun r E=>bo r (e8 r E) (eU r E),fun r E=>?_,?_,bW.step cK rfl fun q ag=>e1 q ag,fun s' aH=>?_⟩,by simp only[bl];omega⟩
  ·refine (((bB.trans (aW.U _)).trans (aX.mono fun r _ h=>?_)).trans (aG.U _)).trans (a2.mono fun r _ h=>?_)
   ·exact h.elim (fun h=>by omega) fun h=>cJ r (bn r h)
   ·exact h.elim (fun h=>(bj r h).1) fun h=>by omega
  ·have he:r=W:=he;subst he;exact b4 bC cZ (by decide) E
  ·by_cases fb:j<L.length
   ·rw[Z0 fb] at a6;rw[Z0 (by omega)] at bp;exact (((b6 j c3 fa a6 bp).cQ aX cW).ext aG).cQ a2 cb
   ·rw[Z2 (by omega)] at a6;rw[Z2 (by omega)] at bp;have fc:j-L.length=0:=by have:=(x3.1 a6).1;simp at this;omega
    have fd:j-ai.length=0:=by omega
    rw[fc] at a6;rw[fd] at bp;cases a6;cases bp;exact (cT.ext aG).cQ a2 cb
  ·rcases e6 r E with h|h
   ·exact⟨(bj r h).1,bo r (c2 r h) (bj r h).2⟩
   ·exact⟨by have:=bB.size;omega,fun ce=>by have:=e2 r ce;omega⟩
  ·rcases cU r E with h|h
   ·exact cJ r (bn r h)
   ·have:=bB.size;omega
  ·refine (e0.ext aG).cQ a2 fun r E=>.inl ?_;obtain⟨e,c,X,cc,cd,ff,fg⟩:=c1 r E;refine⟨e,c,X,cc,cd,ff,fg,?_⟩;rcases E with E|rfl
   ·exact bo r (c2 r E) (bj r E).2
   ·exact bo _ bm.lt bU
  ·cases cg:ck acc s with
   |none=>rw[cg] at aH;cases aH
   |some q=>
    obtain⟨fO,c4⟩:=q;rw[cg] at aH;cases aH;obtain⟨fP,fh⟩:=Hz cg;refine⟨fh cL,?_,cN,cO⟩;rw[r8];simp only[U2];omega
 ·
  rw[aP];have ch:so6.bind (b1 (fun _ s=>ck acc s) az.toNat [])=so.map fun s=>(ai,s):=by
   unfold iF at bW;rw[bW];cases so with
   |none=>rfl
   |some s=>
    rcases eX with h|rfl
    ·cases h
    ·simp only[X6];rfl
  have row:∀ {w':x2},af (fun r=>r=g) Y w'→lV w' bi aq ai∧ad w' W cM [bb t,.int .i64 k,au,aq]∧am .i64 aj w' bu au acc:=fun bD=>by
   obtain⟨aT,aO,aQ,bad,aU,big,aV,told,sv,X,_⟩:=fG aJ;have c5:∀ r,r=g→fe Y r∨Y.heap.size≤r:=fun r E=>by subst E;exact .inl ⟨_,_,X,by decide,by decide⟩
   obtain⟨L,a1,b5,b6⟩:=id cI;refine⟨⟨L,a1.U bD fun r E he=>?_,b5,fun i h x hi J=>(b6 i h x hi J).cQ bD c5⟩,cF.U bD fun he=>cE he,dq cG bD c5⟩;have he:r=g:=he;subst he;exact b4 a1 X (by decide) E
  refine dd (fun ay=>af (fun r=>r=g) Y ay∧bf ay g Y.heap.size H 100001 (so.bind fun s=>if s.toks=[] then some s else none)) ?_ ?_
  rotate_left
  ·intro fQ c6;refine aL (fun v aE=>Y=aE∧ ∃ b:Bool,v= .bool b∧(b=true→ ∃ s,so=some s∧s.toks≠[])∧(b=false→ ∀ s,so=some s→s.toks=[])) ?_ ?_
   ·rintro _ _ ⟨rfl,b,rfl,ci,cj⟩;cases b with
    |true=>
     obtain⟨s,rfl,bF⟩:=ci rfl;rw[bh];obtain⟨c7,c8,aT,bq,gs,sv,L,c9,aO,aQ,cl,aU,big,aV,told,da,bG,bH,a7,bI,db,dc,de,bJ,df,dg,bK,dh,di,dl⟩:=id aJ;obtain⟨⟨cm,fi⟩,_⟩:=bI.g bG bH;obtain⟨x,fR,rfl⟩:∃ x l,bq=x::l:=by
      cases bq with
      |nil=>exact absurd bK.symm (by simpa using bF)
      |cons x l=>exact⟨x,l,rfl⟩
     rw[ax,ae aY.p rfl,V (by kernel_rfl) (a7.cell (o:=0+0) rfl)];refine yg cm fun b o fj=>?_;rw[ae bE.p rfl,V (by kernel_rfl) (fj 1 _ rfl)];refine (kO aJ (by omega)).mono ?_;rintro _ bS _ ⟨fk,fl⟩;refine c6 _ ⟨fk,?_⟩;show bf bS g _ H 100001 (if s.toks=[] then some s else none);rw[if_neg bF];exact fl
    |false=>
     rw[aP];refine c6 _ ⟨af.refl _ _,?_⟩;cases so with
     |none=>exact aJ
     |some s=>
      show bf _ g _ H 100001 (if s.toks=[] then some s else none);rw[if_pos (cj rfl s rfl)];exact aJ
   ·intro fS dm;rw[iE aJ];cases so with
    |none=>
     rw[Option.isSome_none,aP];exact dm _ _ ⟨rfl,false,rfl,(fun h=>by cases h),fun _ s av=>by cases av⟩
    |some s=>
     rw[Option.isSome_some,bh];obtain⟨c7,c8,aT,bq,gs,sv,L,c9,aO,aQ,cl,aU,big,aV,told,da,bG,bH,a7,bI,db,dc,de,bJ,df,dg,bK,dh,di,dl⟩:=id aJ;obtain⟨⟨cm,fi⟩,_⟩:=bI.g bG bH;rw[ax,ae aY.p rfl,V (by kernel_rfl) (a7.cell (o:=0+0) rfl),yf cm,bA];have fT:bq.length=s.toks.length:=by rw[←bK,u7]
     refine dm _ _ ⟨rfl,_,rfl,fun h=>⟨s,rfl,fun br=>?_⟩,fun h s' aH=>?_⟩
     ·have:=of_decide_eq_true h;have c3:s.toks.length=0:=by rw[br];rfl
      omega
     ·cases aH;have:=of_decide_eq_false h;exact o8 (by omega)
  rintro ay ⟨dn,cn⟩;refine dd (fun Z=>af (fun r=>r=g) Y Z∧bf Z g Y.heap.size H 100001 (so.bind fun s=>if s.toks=[]∧¬0≤bad then some s else none)) ?_ ?_
  rotate_left
  ·intro fU dr;refine aL (fun v bz=>ay=bz∧ ∃ b:Bool,v= .bool b∧(b=true→(so.bind fun s=>if s.toks=[]∧¬0≤bad then some s else none)=none)∧(b=false→(so.bind fun s=>if s.toks=[]∧¬0≤bad then some s else none)=so.bind fun s=>if s.toks=[] then some s else none)) ?_ ?_
   ·rintro _ _ ⟨rfl,b,rfl,ci,cj⟩;cases b with
    |true=>
     rw[bh];refine (kO cn (by omega)).mono ?_;rintro _ cz _ ⟨fm,fo⟩;exact dr _ ⟨dn.trans fm,by rw[ci rfl];exact fo⟩
    |false=>
     rw[aP];exact dr _ ⟨dn,by rw[cj rfl];exact cn⟩
   ·intro fV ds;rw[iE cn];cases ag:(so.bind fun s=>if s.toks=[] then some s else none) with
    |none=>
     rw[Option.isSome_none,aP];refine ds _ _ ⟨rfl,false,rfl,(fun h=>by cases h),fun _=>?_⟩;cases so with
     |none=>rfl
     |some s=>
      have ag:(if s.toks=[] then some s else none)=none:=ag;show (if s.toks=[]∧¬0≤bad then some s else none)=(if s.toks=[] then some s else none);rw[ag];split at ag
      ·cases ag
      ·rename_i bF;rw[if_neg (fun h=>bF h.1)]
    |some s=>
     rw[Option.isSome_some,bh,ca];refine ds _ _ ⟨rfl,_,rfl,fun h=>?_,fun h=>?_⟩
     ·have br:=of_decide_eq_true h;cases so with
      |none=>rfl
      |some s=>exact if_neg fun h=>h.2 br
     ·have br:=of_decide_eq_false h;cases so with
      |none=>rfl
      |some s=>
       show (if s.toks=[]∧¬0≤bad then some s else none)=(if s.toks=[] then some s else none);by_cases av:s.toks=[]
       ·rw[if_pos av,if_pos ⟨av,br⟩]
       ·rw[if_neg av,if_neg fun h=>av h.1]
  rintro Z ⟨dt,bM⟩;obtain⟨fp,fq,fs⟩:=row dt;have ft:af (fun r=>w0.heap.size≤r) w0 Z:=bB.trans (dt.mono fun r _ h=>by have h:r=g:=h;omega);have bN:Ext w0 Z:=ft.ext fun r E he=>by omega
  rw[nn bM];cases ag:(so.bind fun s=>if s.toks=[]∧¬0≤bad then some s else none) with
  |none=>
   rw[Option.isSome_none,Y8,bh];intro aM du _ _;obtain⟨aT,aO,aQ,cl,aU,big,aV,told,sv,X,_⟩:=fG (bM.ext du);rw[ax,ae aY.p rfl,V (by kernel_rfl) (X.cell (o:=0+4) rfl),ax,ae aY.p rfl,V (by kernel_rfl) (X.cell (o:=0+3) rfl)];refine bO _ _ ai so (bN.trans du) ch (fun s av ba=>?_) fun _=>⟨_,_,rfl⟩;subst av;have ag:(if s.toks=[]∧¬0≤bad then some s else none)=none:=ag;rw[if_pos ⟨ba.1,ba.2.1⟩] at ag;cases ag
  |some s=>
   rw[ag] at bM;rw[Option.isSome_some,Z3,aP];obtain⟨s',rfl,aH⟩:∃ s',so=some s'∧(if s'.toks=[]∧¬0≤bad then some s' else none)=some s:=by
    cases so with
    |none=>cases ag
    |some s'=>exact⟨s',rfl,ag⟩
   split at aH
   ·rename_i dv;cases aH;obtain⟨c7,c8,aT,bq,gs,sv,L,c9,aO,aQ,cl,aU,big,aV,told,da,bG,bH,a7,bI,db,dc,de,bJ,df,dg,bK,dh,di,dl⟩:=id bM;rw[ax,ae aY.p rfl,V (by kernel_rfl) (a7.cell (o:=0+5) rfl),be,aa];refine⟨fun cp=>?_,fun cp=>?_⟩
    ·intro aN dw _ _;have dx:=a7.ext dw;rw[ax,ae aY.p rfl,V (by kernel_rfl) (dx.cell (o:=0+6) rfl),ax,ae aY.p rfl,V (by kernel_rfl) (dx.cell (o:=0+5) rfl)];refine bO _ _ ai _ (bN.trans dw) ch (fun c4 dy ba=>?_) fun _=>⟨_,_,rfl⟩;cases dy;rw[bJ.1 cp] at ba;cases ba.2.2
    ·rw[aI bZ.u (dD.ext bN)];refine bO _ _ ai _ bN ch (fun c4 dy ba=>⟨rfl,au,bu,aq,bi,fq,fs,fp⟩) fun fu=>?_;refine absurd ⟨dv.1,dv.2,?_⟩ (fu s rfl);cases X:s.big with
     |false=>rfl
     |true=>exact absurd (bJ.2 X) cp
   ·cases aH
def Zero (so:Option aw):Prop:=∀ s,so=some s→s.told=0∧s.toks.length≤100000
theorem Zero.big {so:Option aw} (h:Zero so) (b:Bool):Zero (so.map (aQ b)):=fun s E=>by
 cases so with
 |none=>cases E
 |some s0=>cases E;exact h s0 rfl
theorem zero_num {lo hi:Int} {so:Option aw} (h:Zero so):Zero ((aO lo hi so).map (·.2)):=fun s E=>by
 cases so with
 |none=>cases E
 |some s0=>
  have E:X1 (fun x=>x.2) (aT lo hi s0)=some s:=E;cases J:aT lo hi s0 with
  |none=>rw[J] at E;cases E
  |some q=>
   obtain⟨n,U⟩:=q;rw[J] at E;cases E;have O:=cN J;have:=O.1;obtain⟨h1,V⟩:=h s0 rfl;exact⟨O.eqs.1.trans h1,by show U.toks.length≤100000;omega⟩
theorem HD {so:Option aw} (h:Zero so):Zero ((gU so).map (·.2)):=fun s E=>by
 cases so with
 |none=>cases E
 |some s0=>
  have E:X1 (fun x=>x.2) (cU s0)=some s:=E;cases J:cU s0 with
  |none=>rw[J] at E;cases E
  |some q=>
   obtain⟨n,O⟩:=q;rw[J] at E;cases E;obtain⟨U,V⟩:=oI J;obtain⟨h1,W⟩:=h s0 rfl;have:s0.toks.length=O.toks.length+1:=by rw[U];rfl
   exact⟨by show O.told=0;rw[V];exact h1,by show O.toks.length≤100000;omega⟩
theorem HE {E:List Int} {so:Option aw} {f:bx} (h:fA ⟨(lex E).1,0,false,[]⟩=so.map fun s=>(f,s)) (J:¬65536<E.length):eT E=so.bind fun s=>if s.toks=[]∧(lex E).2=true∧s.big=false then some f else none:=by
 unfold eT;rw[if_neg J,h];cases so <;> rfl
theorem HF {E:List Int} (J:E.length≤60000):(∀ t∈(lex E).1,Bytes t∧t.length≤65536)∧(lex E).1.length≤60000:=by
 refine⟨fun t O=>?_,Z5 (mw E.length E (u9 _)) J⟩;obtain⟨_,U,W⟩:=oq E.length E (u9 _) t O;refine⟨fun b V=>?_,by omega⟩;have:=of_decide_eq_true (U b V);omega
set_option maxHeartbeats 16000000 in
theorem yq {p:x1} {X:List Int} {w:x2} (a6:aC .u8 w p X) (cU:Bytes X) (cV:X.length≤60000):ah x5 Ag [p] w (HB w X):=by
 obtain⟨cW,eo⟩:=HF cV;refine aq func68 ?_;rw[aI bZ.u a6,bA,aa];refine⟨fun h=>by omega,fun _=>?_⟩;refine (Hp a6 cU (by omega)).mono ?_;rintro _ er _ ⟨bn,aJ,bM,bad,rfl,bN,bO,cX,es,bQ⟩;rw[av (v:=aJ) rfl,av (v:=.int .i64 bad) rfl,aI bZ.u (a6.ext bn),cI (cs:=#[aJ,.int .i64 (X.length:Int),.int .i64 4,.int .i64 0,.int .i64 0,.int .i64 0,.int .i64 0,.int .i64 0,.slice none 0 0]) (by obtain⟨_,_,_,_,_,rfl,_⟩:=bN;kernel_rfl)];refine a7 fun g bR et ba aK=>?_;have aK:ad bR g aY (eP aJ (X.length:Int) 4 0 0 0 0 0 (.slice none 0 0)):=aK;have eu:=bn.size;have ev:=ba.size;have ew:=aK.lt;refine dd (fun Y=>Ext w Y∧af (fun r=>r=g) bR Y∧ ∃ aM aN:Int,aN≠0∧ad Y g aY (eP aJ aM aN 0 0 0 0 0 (.slice none 0 0))) ?_ ?_
 rotate_left
 ·intro cY aG;have bS:=bn.trans ba;rw[ca,aa];refine⟨fun _=>?_,fun _=>aG _ ⟨bS,af.refl _ _,_,_,by omega,aK⟩⟩;rw[ax,ae aY.p rfl];refine aZ (g:=g) (o:=1) ab.i rfl rfl aK (by simp[eP]) fun ey cZ ez c0=>?_;rw[ax,ae aY.p rfl];refine aZ (g:=g) (o:=2) ab.i rfl rfl c0 (by simp[eP]) fun eA c1 eB c2=>?_;have Z:=cZ.trans c1;exact aG _ ⟨bS.then Z fun r E he=>by have he:r=g:=he;omega,Z,bad,11,by omega,c2⟩
 rintro Y ⟨bT,bo,aM,aN,c3,bU⟩;have z3:=bo.size;have c4:bf Y g Y.heap.size a8 100000 (some ⟨(lex X).1,0,false,[]⟩):=by
  refine⟨u9 _,Y,aJ,bM,0,_,[],[],aM,aN,0,0,0,0,0,rfl,af.refl _ _,⟨_,bU⟩,bU,⟨⟨?_,fun r E=>?_⟩,aR.nil _ _ _ _ _,rfl,fun i h x hi=>by simp at hi⟩,fun r E=>dp E,rfl,c3,by simp,fun _=>rfl,trivial,bO,cW,rfl,?_⟩
  ·refine (bN.U (ba.U fun _=>False) fun _ _ h=>h).U bo fun r E he=>?_;have he:r=g:=he;obtain⟨c,az⟩:=bQ r E;have:=az.lt;omega
  ·obtain⟨c,az⟩:=bQ r E;exact⟨c,(az.ext ba).U bo fun he=>by have he:r=g:=he;have:=az.lt;omega⟩
  ·have:bM.length=(lex X).1.length:=by rw[←bO,u7]
   simp only[List.length_nil];omega
 have eC:∀ {aE:x2} {c5 N:Nat} {H:an} {so:Option aw},bf aE g c5 H N so→True:=fun _=>trivial;rw[cI (cs:=#[bb [],.int .i64 0,.slice none 0 0,.slice none 0 0]) (by kernel_rfl)];refine a7 fun O c6 eD bp bc=>?_;have bc:ad c6 O cM [bb [],.int .i64 0,.slice none 0 0,.slice none 0 0]:=bc;have eE:Y.heap.size≤O:=by omega
 have eF:=bc.lt;have c7:O≠g:=by omega
 have ai:∀ {aE aS:x2} {c:List x1},ad aE O cM c→af (fun r=>r=g) aE aS→ad aS O cM c:=fun az Z=>az.U Z fun he=>c7 he;refine (yh (c4.ext bp)).mono ?_;rintro _ c8 _ ⟨⟨bq,c9⟩,t,bV,rfl,eH,eI,da⟩;refine bi bE.i fun br eJ eK db dc=>?_;refine bP (vs:=[bb t,.int .i64 bV]) bE.i rfl rfl (by intro v ac;simp at ac;rcases ac with rfl|rfl <;> rfl) dc fun de df eL bW=>?_;have bd:Ext c8 de:=db.then df fun r E he=>by have he:r=br:=he;omega
 have dg:=(ai bc bq).ext bd;rw[ae bE.p rfl,V (by kernel_rfl) (bW.cell (o:=0+0) rfl),ax,ae cM.p rfl];refine aZ (g:=O) (o:=0) cc.i rfl rfl dg (by simp) fun bt bu eM bw=>?_;have bw:ad bt O cM [bb t,.int .i64 0,.slice none 0 0,.slice none 0 0]:=bw;have dh:=(c9.ext bd).new bu fun r E=>by have E:r=O:=E;omega
 have z4:=bp.size;have z5:=bq.size;have eN:=bd.size;have bX:ad bt br bE [bb t,.int .i64 bV]:=bW.U bu fun he=>by have he:br=O:=he;omega
 rw[ae bE.p rfl,V (by kernel_rfl) (bX.cell (o:=0+0) rfl),kv cc.u,bA,ae bE.p rfl,V (by kernel_rfl) (bX.cell (o:=0+1) rfl)];have di:af (fun r=>w.heap.size≤r) w bt:=((((bT.U _).trans (bp.U _)).trans (bq.mono fun r _ h=>by have h:r=g:=h;omega)).trans (bd.U _)).trans (bu.mono fun r _ h=>by have h:r=O:=h;omega);have up:∀ {aE aS:x2},af (fun r=>w.heap.size≤r) w aE→af (fun r=>r=g) aE aS→af (fun r=>w.heap.size≤r) w aS:=fun h k=>h.trans (k.mono fun r _ h=>by have h:r=g:=h;omega);refine (jU dh).mono ?_;rintro _ eO _ ⟨bY,aU⟩;have dj:=up di bY;have dk:=ai bw bY;generalize bx:(((gU (some ⟨(lex X).1,0,false,[]⟩)).map (·.2)).map (aQ (decide ((64:Int)<(t.length:Int)))))=bz at aU;refine (h2 aU).mono ?_;rintro _ eQ _ ⟨⟨b2,dl⟩,n,dm,rfl,b3,dn⟩;rw[av (v:=.int .i64 n) rfl,av (v:=.int .i64 dm) rfl,bA];refine (jU dl).mono ?_;rintro _ eR _ ⟨b4,b5⟩;have dr:=up (up dj b2) b4;have ds:=ai (ai dk b2) b4;generalize b6:((aO 1 4611686018427387904 bz).map (·.2)).map (aQ (decide (64<n)))=bC at b5;refine (h2 b5).mono ?_;rintro _ eS _ ⟨⟨b7,b8⟩,most,dt,rfl,hm,du⟩;rw[av (v:=.int .i64 most) rfl,av (v:=.int .i64 dt) rfl];generalize b9:(aO 1 4611686018427387904 bC).map (·.2)=bD at b8;refine (h2 b8).mono ?_;rintro _ eU _ ⟨⟨cb,dv⟩,be,dw,rfl,cd,dx⟩;rw[av (v:=.int .i64 be) rfl,av (v:=.int .i64 dw) rfl,bA];refine (jU dv).mono ?_;rintro _ eV _ ⟨ce,cg⟩;generalize ch:((aO 0 4611686018427387904 bD).map (·.2)).map (aQ (decide (256<be)))=ci at cg;refine (h2 cg).mono ?_;rintro _ eW _ ⟨⟨cj,dy⟩,k,dz,rfl,dA,eX⟩;rw[av (v:=.int .i64 k) rfl,av (v:=.int .i64 dz) rfl,bA];refine (jU dy).mono ?_;rintro _ eY _ ⟨ck,cl⟩;generalize cm:((aO 1 4611686018427387904 ci).map (·.2)).map (aQ (decide (2147483648<k)))=aV at cl;have dD:=up (up (up (up (up dr b7) cb) ce) cj) ck;have dE:=ai (ai (ai (ai (ai ds b7) cb) ce) cj) ck;rw[ax,ae cM.p rfl];refine aZ (g:=O) (o:=1) aj.i rfl rfl dE (by simp) fun cn cp eZ bF=>?_;have bF:ad cn O cM [bb t,.int .i64 k,.slice none 0 0,.slice none 0 0]:=bF;have dF:=cl.new cp fun r E=>by have E:r=O:=E;omega
 have cq:af (fun r=>w.heap.size≤r) w cn:=dD.trans (cp.mono fun r _ h=>by have h:r=O:=h;omega);have e0:0≤n∧n≤4611686018427387904:=by
  cases W:aO 1 4611686018427387904 bz with
  |none=>have:=dn W;omega
  |some q=>have aU:=b3 q W;have:=jP (n:=q.1) (s':=q.2) W;omega
 have e1:0≤most∧most≤4611686018427387904:=by
  cases W:aO 1 4611686018427387904 bC with
  |none=>have:=du W;omega
  |some q=>have aU:=hm q W;have:=jP (n:=q.1) (s':=q.2) W;omega
 have dG:0≤be∧be≤4611686018427387904:=by
  cases W:aO 0 4611686018427387904 bD with
  |none=>have:=dx W;omega
  |some q=>have aU:=cd q W;have:=jP (n:=q.1) (s':=q.2) W;omega
 have dH:Zero (some (⟨(lex X).1,0,false,[]⟩:aw)):=fun s aA=>by cases aA;exact⟨rfl,by simp only;omega⟩
 have dI:Zero bz:=by rw[←bx];exact (HD dH).big _
 have dJ:Zero bC:=by rw[←b6];exact (zero_num dI).big _
 have dK:Zero bD:=by rw[←b9];exact zero_num dJ
 have dL:Zero ci:=by rw[←ch];exact (zero_num dK).big _
 have cr:Zero aV:=by rw[←cm];exact (zero_num dL).big _
 have e2:=cq.size;refine⟨fun bG aB=>∃ i:Nat,bG= .int .i64 (i:Int)∧i≤n.toNat∧af (fun r=>w.heap.size≤r) w aB∧ ∃ au ct acc so,ad aB O cM [bb t,.int .i64 k,au,.slice none 0 0]∧am .i64 aj aB ct au acc∧(∀ r,leads au r→Y.heap.size≤r)∧bf aB g Y.heap.size a8 100000 so∧iF (ep most) n.toNat i aV acc so∧ ∀ s,so=some s→s.told=0∧acc.length+s.toks.length≤100000∧ ∀ z∈acc,1≤z∧z≤ak,fun bG _=>n.toNat-(bl bG).toNat,
  ⟨0,rfl,Z1 _,cq,_,0,[],aV,bF,am.nil _ _ _ _,(fun r E=>by obtain⟨a,bg,c,aM,aN⟩:=E;cases aM),dF,?_,fun s aA=>⟨(cr s aA).1,by simpa using (cr s aA).2,fun z dM=>by cases dM⟩⟩,?_⟩
 ·unfold iF;cases aV <;> rfl
 rintro _ aB ⟨i,rfl,hi,bH,au,ct,acc,so,cu,cw,cz,aW,bI,cA⟩;refine aL (fun v dN=>aB=dN∧((v= .bool true∧i<n.toNat∧ ∃ s,so=some s)∨(v= .bool false∧(so=none∨i=n.toNat)))) ?_ ?_
 rotate_left
 ·intro cY aG;rw[ao,aa];refine⟨fun cB=>?_,fun e3=>aG _ _ ⟨rfl,.inr ⟨rfl,.inr (by omega)⟩⟩⟩;rw[iE aW];cases so with
  |none=>exact aG _ _ ⟨rfl,.inr ⟨rfl,.inl rfl⟩⟩
  |some s=>exact aG _ _ ⟨rfl,.inl ⟨rfl,by omega,s,rfl⟩⟩
 rintro _ _ ⟨rfl,⟨rfl,cB,s,rfl⟩|⟨rfl,dO⟩⟩
 ·rw[bh];obtain⟨dP,e4,dQ⟩:=cA s rfl;refine (h2 aW).mono ?_;rintro _ e5 _ ⟨⟨dR,dS⟩,z,dT,rfl,bJ,e6⟩;rw[av (v:=.int .i64 z) rfl,av (v:=.int .i64 dT) rfl,bA];refine (jU dS).mono ?_;rintro _ e7 _ ⟨dU,dV⟩;have bj:=dR.trans dU;have cC:=ai cu bj;have dW:∀ r,r=g→fe aB r∨aB.heap.size≤r:=fun r E=>(h3 aW r E).imp (fun⟨e,c,az,dX,dY,_⟩=>⟨e,c,az,dX,dY⟩) id;have cD:=dq cw bj dW;rw[ax,ae cM.p rfl,V (by kernel_rfl) (cC.cell (o:=0+2) rfl)];refine dC ap.u aj.i rfl fun a22 e8 dZ e9 aH ea=>?_;refine fF ap.u aj.i rfl (cD.ext aH) ea.ls (by simp;omega) (by simp;omega) fun cE eb fa bk ec cF=>?_;have cG:=cC.ext aH;have cH:=cG.U cF fun he=>bB (cD.ext aH) cG (by decide) he rfl;rw[ax,ae cM.p rfl];refine aZ (g:=O) (o:=2) ap.i bk.ls.cells.1 bk.ls.cells.2 cH (by simp) fun cJ cK fb bK=>?_;have bK:ad cJ O cM [bb t,.int .i64 k,cE,.slice none 0 0]:=bK;rw[aF,wrap_i64 (by omega) (by omega)];have cL:af (fun r=>leads au r∨r=O) dZ cJ:=(cF.mono fun r _ h=>.inl h).trans (cK.mono fun r _ h=>.inr h);have cO:∀ r,(leads au r∨r=O)→Y.heap.size≤r:=fun r E=>E.elim (cz r) fun E=>by omega
  have fc:w.heap.size≤Y.heap.size:=bT.size;have fd:=bj.size;have z22:=aH.size;have ff:=bH.size;have fg:=aW.lt;refine⟨⟨i+1,rfl,by omega,((up bH bj).trans (aH.U _)).trans (cL.mono fun r _ h=>by have:=cO r h;omega),cE,eb,acc++[z],((aO 1 most (some s)).map (·.2)).map (aQ (decide (32<z))),bK,aX bk cK fun r E he=>?_,fun r E=>?_,(dV.ext aH).new cL cO,?_,fun s' al=>?_⟩,by simp only[bl];omega⟩
  ·have he:r=O:=he;subst he;exact bB bk cH (by decide) E rfl
  ·rcases ec r E with h|h
   ·exact cz r h
   ·omega
  ·refine bI.step cB ?_ fun q W=>?_
   ·show (X1 _ (aT 1 most s)).map _=_;unfold ep;cases W:aT 1 most s with
    |none=>rfl
    |some q=>
     have:=bJ q W;obtain⟨cP,bm⟩:=q;subst this;rfl
   ·unfold ep at W;cases ay:aT 1 most s with
    |none=>rw[ay] at W;cases W
    |some a1=>
     rw[ay] at W;have:=bJ a1 ay;obtain⟨cP,bm⟩:=a1;cases W;exact this
  ·cases ay:aT 1 most s with
   |none=>
    have al:(X1 (fun x=>x.2) (aT 1 most s)).map (aQ (decide (32<z)))=some s':=al;rw[ay] at al;cases al
   |some a1=>
    have al:(X1 (fun x=>x.2) (aT 1 most s)).map (aQ (decide (32<z)))=some s':=al;rw[ay] at al;have ed:=bJ a1 ay;obtain⟨cP,bm⟩:=a1;cases al;have cQ:=cN ay;have cR:=(fB ay).1;have fh:=cQ.1;refine⟨by show bm.told=0;rw[cQ.eqs.1];exact dP,?_,fun y a2=>?_⟩
    ·rw[r8];show acc.length+1+bm.toks.length≤100000;omega
    ·rcases p9.1 a2 with a2|a2
     ·exact dQ y a2
     ·rw[p8.1 a2,ed];exact⟨cR.1,by unfold ak;have:=cR.2;simp only at*;omega⟩
 ·rw[aP];have ee:aV.bind (b1 (ep most) n.toNat [])=so.map fun s=>(acc,s):=by
   unfold iF at bI;rw[bI];cases so with
   |none=>rfl
   |some s=>
    rcases dO with h|rfl
    ·cases h
    ·simp only[X6];rfl
  refine HC bH cu cw aW (fun s aA=>?_) (by omega) (by omega) a6 dG fun v w' ef eg J eh ei cS=>?_
  ·obtain⟨ej,fi,a3⟩:=cA s aA;exact⟨fun _=>by rw[ej];omega,by omega,a3,by omega⟩
  ·have ek:(decide ((64:Int)<(t.length:Int)))=decide (64<t.length):=by rw[X5,decide_eq_true_eq,decide_eq_true_eq];omega
   rw[ek] at bx;have em:=HA (s0:=⟨(lex X).1,0,false,[]⟩) bx.symm (fun q W=>da q W) b6.symm b3 b9.symm hm ch.symm cd cm.symm dA ee eh;have aD:=HE em (by omega);have cT:¬0≤bad↔(lex X).2=true:=by
    rw[cX];cases (lex X).2 <;> simp
   cases eg with
   |none=>
    obtain⟨bg,e,rfl⟩:=cS fun s aA=>by cases aA
    exact⟨J,bg,e,fun _=>rfl,fun f ag=>by rw[aD] at ag;cases ag⟩
   |some s=>
    have aD:eT X=if s.toks=[]∧(lex X).2=true∧s.big=false then some ⟨t,k,acc,ef⟩ else none:=aD;by_cases Z:s.toks=[]∧(lex X).2=true∧s.big=false
    ·rw[if_pos Z] at aD;obtain⟨rfl,en⟩:=ei s rfl ⟨Z.1,cT.2 Z.2.1,Z.2.2⟩;exact⟨J,_,_,(fun ag=>by rw[aD] at ag;cases ag),fun f ag=>⟨O,rfl,by rw[aD] at ag;cases ag;exact en⟩⟩
    ·rw[if_neg Z] at aD;obtain⟨bg,e,rfl⟩:=cS fun s' al bL=>by
      cases al;exact Z ⟨bL.1,cT.1 bL.2.1,bL.2.2⟩
     exact⟨J,bg,e,fun _=>rfl,fun f ag=>by rw[aD] at ag;cases ag⟩
theorem HG {a b:Int} {w:x2}:ah x5 B8 [.int .i64 a,.int .i64 b] w fun v w'=>v= .int .i64 (min a b)∧Ext w w':=by
 refine aq func300 ?_;rw[ao,aa];exact⟨fun h=>⟨by congr 1;omega,Ext.refl _⟩,fun h=>⟨by congr 1;omega,Ext.refl _⟩⟩
set_option maxHeartbeats 1000000 in
theorem HH {w:x2} {E:gA} {x:bH} {aj:x1} {t:List Int} {k:Int} (h:e1 w E x) (ax:(x.lines.map (·.1)).Nodup) (ay:aC .i64 w aj t):ah x5 BV [.agg (dF E).toArray,aj,.int .i64 k] w fun v w'=>v= .int .i64 (hl x k t)∧Ext w w':=by
 obtain⟨⟨aY,az⟩,⟨aZ,aA⟩,aB,a1,L,U,aD,ak⟩:=id h;refine aq func269 ?_;refine a7 fun aE ab a2 ac J=>?_;have J:ad ab aE aK (dF E):=by
  obtain⟨_,_,_,aG⟩:=ct az.ls;obtain⟨_,_,_,aH⟩:=ct aA.ls;obtain⟨_,_,_,_,_,aI,_⟩:=U.sl;simp only[dF,aG,aH,aI] at J ⊢;exact J
 have aM:=U.ext ac;have aN:L.length=x.lines.length:=by rw[←ak,u7]
 rw[ae aK.p rfl,V (v:=.int .i64 E.o) (by kernel_rfl) (J.cell (o:=0+2) rfl),ae aK.p rfl,V (v:=E.bo) (by kernel_rfl) (J.cell (o:=0+3) rfl),dK da.u aM,aB];refine bM.range L.length (fun i W X=>Ext ab X∧ ∃ c:Int,W= .int .i64 c∧min c k=iB x k i t) U.le ⟨Ext.refl _,x.other,rfl,(xf x k t).symm⟩ ?_ ?_
 ·rintro i _ X aO hi ⟨O,c,rfl,Y⟩ aP;obtain⟨y,af⟩:∃ y,L[i]? =some y:=⟨_,y0 hi⟩;obtain⟨a6,al⟩:=aD y (x4 af);have ag:=ac.trans O;have aQ:x.lines[i]? =some (y.t,y.c):=by rw[←ak,x6,af];rfl
  have am:=xh (k:=k) ax aQ t;rw[ao,aa];refine⟨fun _=>?_,fun h=>by omega⟩;refine aL (fun W ap=>Ext ab ap∧ ∃ c:Int,W= .int .i64 c∧min c k=iB x k (i+1) t) ?_ ?_
  ·rintro W ap aR;rw[aF];exact aP _ _ aR
  intro a8 au;have av:=U.ext ag;rw[cr rfl da.u bt.i av hi,bj bt.p bt.i rfl (av.range af)];refine bi bt.i fun aJ ba bb aS aT=>?_;refine bP (vs:=kN y) bt.i rfl rfl (r0 al) aT fun aU aV bc aw=>?_;have Z:Ext X aU:=aS.then aV fun r bd he=>by have he:r=aJ:=he;omega
  rw[ae bt.p rfl,V (by kernel_rfl) (aw.cell (o:=0+0) rfl)];refine (rZ ((al.ls.ext ag).ext Z) ((ay.ext ag).ext Z)).mono ?_;rintro _ be _ ⟨rfl,ai⟩;rw[aa];refine⟨fun he=>?_,fun aW=>?_⟩
  ·rw[ae bt.p rfl,V (by kernel_rfl) ((aw.ext ai).cell (o:=0+1) rfl)];refine au _ _ ⟨(O.trans Z).trans ai,y.c,rfl,?_⟩;rw[am,if_pos he.symm]
  ·refine au _ _ ⟨(O.trans Z).trans ai,c,rfl,?_⟩;rw[am,if_neg fun he=>aW he.symm,Y]
 ·rintro _ X aO ⟨O,c,rfl,Y⟩;rw[aN,xg] at Y;rw[ao,aa];refine⟨fun h=>by omega,fun _=>?_⟩;refine HG.mono ?_;rintro _ bf _ ⟨rfl,aX⟩;exact⟨by rw[Y],(ac.trans O).trans aX⟩
set_option maxHeartbeats 1000000 in
theorem HI {w:x2} {au:x1} {l:List Int} (h:aC .i64 w au l) (aw:l.Nodup) (aT:l.length≤64):ah x5 BU [au] w fun v w'=>Ext w w'∧ ∃ g,am .i64 ab w' g v (aV l)∧ ∀ r,leads v r→w.heap.size≤r:=by
 refine aq func268 ?_;have ax:∀ i,i≤64→(((Y1 i).map fun(v:Nat)=>(v:Int)).filter fun v=>decide (v∈l)).length≤i:=fun i _=>by
  have:=List.length_filter_le (fun v=>decide (v∈l)) ((Y1 i).map fun(v:Nat)=>(v:Int));simp at this;omega
 refine bM.range 64 (fun i E W=>Ext w W∧ ∃ g,am .i64 ab W g E (((Y1 i).map fun(v:Nat)=>(v:Int)).filter fun v=>decide (v∈l))∧ ∀ r,leads E r→w.heap.size≤r) (by omega) ⟨Ext.refl _,0,am.nil _ _ _ _,fun r X=>by obtain⟨a,n,c,ay,aU⟩:=X;cases ay⟩ ?_ ?_
 ·rintro i E W k hi ⟨Y,g,hm,ad⟩ az;rw[ao,aa];refine⟨fun _=>?_,fun h=>by omega⟩;rw[aI ap.u (h.ext Y)];have aA:=ax i (by omega);generalize aB:(((Y1 i).map fun(v:Nat)=>(v:Int)).filter fun v=>decide (v∈l))=A at hm aA;refine bM.range l.length (fun j E Z=>Ext w Z∧ ∃ g,am .i64 ab Z g E (A++(if (i:Int)∈l.take j then[(i:Int)] else[]))∧ ∀ r,leads E r→w.heap.size≤r) h.le ⟨Y,g,by simpa using hm,ad⟩ ?_ ?_
  ·rintro j aD Z aE aG ⟨U,ae,O,V⟩ aH;obtain⟨x,J⟩:∃ x,l[j]? =some x:=⟨_,y0 aG⟩;rw[ao,aa];refine⟨fun _=>?_,fun h=>by omega⟩;refine aL (fun E ac=>Ext w ac∧ ∃ g,am .i64 ab ac g E (A++(if (i:Int)∈l.take (j+1) then[(i:Int)] else[]))∧ ∀ r,leads E r→w.heap.size≤r) ?_ ?_
   ·rintro aW ac aJ;rw[aF];exact aH _ _ aJ
   intro aX av;have af:(i:Int)∈l.take (j+1)↔(i:Int)∈l.take j∨(i:Int)=x:=by
    rw[u4,J,l9,p9,p8]
   rw[a1 ap.u aj.i (by kernel_rfl) (h.ext U) J,bc,aa];refine⟨fun he=>?_,fun aK=>?_⟩
   ·have aM:(i:Int)∉l.take j:=fun hm=>by
     obtain⟨p,ag⟩:=Y6.1 hm;have aN:p<j:=by have:=(x3.1 ag).1;rw[o5] at this;omega
     rw[c7 aN,←he] at ag;have:=hW aw ag J;omega
    rw[if_neg aM,V4] at O;refine dC (k:=.i64) al.u ab.i rfl fun a3 aY ac aZ ai aO=>?_;refine fF al.u ab.i rfl (O.ext ai) aO.ls (by simp;omega) (by simp;omega) fun a2 aP a6 aQ aR aS=>?_;have a7:=U.size;have z3:=ai.size;refine av _ _ ⟨(U.trans ai).then aS fun r X he=>by have:=V r he;omega,aP,?_,fun r X=>(aR r X).elim (V r) fun h=>by omega⟩;rw[if_pos (af.2 (.inr he.symm))];exact aQ
   ·refine av _ _ ⟨U,ae,?_,V⟩;have:((i:Int)∈l.take (j+1))=((i:Int)∈l.take j):=propext ⟨fun ak=>(af.1 ak).resolve_right fun he=>aK he.symm,fun ak=>af.2 (.inl ak)⟩;simp only[this];exact O
  ·rintro aD Z aE ⟨U,ae,O,V⟩;rw[o3] at O;rw[ao,aa];refine⟨fun h=>by omega,fun _=>?_⟩;rw[aF];refine az _ _ ⟨U,ae,?_,V⟩;rw[List.range_succ,o9,List.filter_append,aB];by_cases hm:(i:Int)∈l
   ·rw[if_pos hm] at O;simpa[hm] using O
   ·rw[if_neg hm] at O;simpa[hm] using O
 ·rintro E W k ⟨Y,g,hm,ad⟩;rw[ao,aa];exact⟨fun h=>by omega,fun _=>⟨Y,g,hm,ad⟩⟩
structure dQ where
 aN:x1
 au:x1
 aH:x1
 sc:List Int
 cs:List Int
def cn (h:dQ):List x1:=[h.aN,h.au,h.aH]
def dr (w:x2) (sizes:List Int) (h:dQ):Prop:=(∃ g,am .i64 ab w g h.aN h.sc)∧(∃ g,am .i64 ab w g h.au (bI sizes h.sc))∧ ∃ g,am .i64 aj w g h.aH h.cs
theorem dr.ext {w w':x2} {sizes:List Int} {h:dQ} (E:dr w sizes h) (J:Ext w w'):dr w' sizes h:=by
 obtain⟨⟨O,h1⟩,⟨U,V⟩,W,X⟩:=E;exact⟨⟨O,h1.ext J⟩,⟨U,V.ext J⟩,W,X.ext J⟩
theorem dr.one {w:x2} {sizes:List Int} {h:dQ} (E:dr w sizes h):∀ u∈cn h,u.oneCell'=true:=by
 obtain⟨⟨U,h1⟩,⟨V,J⟩,W,O⟩:=E;intro u hu;simp[cn] at hu;rcases hu with rfl|rfl|rfl
 ·exact h1.ls.cells.2
 ·exact J.ls.cells.2
 ·exact O.ls.cells.2
set_option maxHeartbeats 8000000 in
theorem yr {N cO:Nat} {w:x2} {f:bx} {x:bH} {aB:gA} {sv:x1} (h:e1 w aB x) (be:dP N f) (b8:x∈f.funs) (cP:am .i64 aj w cO sv f.sizes):
  ah x5 Bx [.agg (dF aB).toArray,sv,.int .i64 f.k] w fun v w'=>Ext w w'∧ ∃ c:dQ,v= .agg (cn c).toArray∧c.sc=aV x.scope∧c.cs=(fC f.sizes f.k x).2∧dr w' f.sizes c∧ ∀ r,leads c.aH r→w.heap.size≤r:=by
 obtain⟨aP,cQ,ei⟩:=be.funs x b8;have ac:=pb aP be.sizes.2.1;have b9:=pa ac aP.scope.1;have cR:(aV x.scope).length≤6:=by rw[b9.length_eq];exact cQ
 have cS:=lM be b8;have ca:=w6 x.scope;obtain⟨⟨ej,bf⟩,⟨ek,cT⟩,em,en,cU⟩:=id h;refine aq func223 ?_;refine a7 fun bE cV ep cb aQ=>?_;have aQ:ad cV bE aK (dF aB):=by
  obtain⟨L,cW,_⟩:=cU;obtain⟨_,_,_,Y⟩:=ct bf.ls;obtain⟨_,_,_,ai⟩:=ct cT.ls;obtain⟨_,_,_,_,_,cX,_⟩:=cW.sl;simp only[dF,Y,ai,cX] at aQ ⊢;exact aQ
 refine bi aS.i fun cc er es bF bG=>?_;have bJ:=cb.trans bF;rw[ae aK.p rfl,V (v:=aB.aN) (by kernel_rfl) ((aQ.ext bF).cell (o:=0+0) rfl)];refine (HI (bf.ls.ext bJ) aP.scope.1 (by omega)).mono ?_;rintro aN cd _ ⟨bg,bh,bK,et⟩;rw[cI (cs:=#[aN,.slice none 0 0,.slice none 0 0]) (by obtain⟨_,_,_,rfl⟩:=ct bK.ls;kernel_rfl)];refine bi aS.i fun O eu cY cZ c0=>?_;refine bP (vs:=[aN,.slice none 0 0,.slice none 0 0]) aS.i rfl rfl (by intro u hu;simp at hu;rcases hu with rfl|rfl;exact bK.ls.cells.2;rfl) c0 fun ak c1 ev aG=>?_;have bk:Ext cd ak:=cZ.then c1 fun r E he=>by have he:r=O:=he;omega
 have ce:=(bJ.trans bg).trans bk;have aC:=bK.ext bk;have bL:=((aQ.ext bF).ext bg).ext bk;have cg:=(bG.ext bg).ext bk;have ey:=bJ.size;have z3:=bg.size;have ez:=ce.size;have eA:=aG.lt;have eB:O=cd.heap.size:=cY;rw[ae aS.p rfl,V (by kernel_rfl) (aG.cell (o:=0+0) rfl),aI al.u aC.ls];have ch:∀ v∈aV x.scope,0≤v∧v<f.sizes.length:=fun v hm=>aP.scope.2 v ((mZ ac).1 hm);have bN:∀ {w':x2},af (fun r=>r=O∨ak.heap.size≤r) ak w'→Ext w w':=fun bO=>ce.then bO fun r E he=>by omega
 have bQ:(bI f.sizes (aV x.scope)).length=(aV x.scope).length:=by simp[bI]
 refine bV.range (aV x.scope).length (fun i av=>af (fun r=>r=O∨ak.heap.size≤r) ak av∧ ∃ au gs,ad av O aS [aN,au,.slice none 0 0]∧am .i64 ab av gs au ((bI f.sizes (aV x.scope)).take i)∧ ∀ r,leads au r→ak.heap.size≤r) (by omega)
  ⟨af.refl _ _,_,0,aG,am.nil _ _ _ _,fun r E=>by obtain⟨a,n,c,Y,ai⟩:=E;cases Y⟩ ?_ ?_
 ·rintro i av c2 hi ⟨aw,au,gs,c3,aR,bR⟩ c4;obtain⟨v,bS⟩:∃ v,(aV x.scope)[i]? =some v:=⟨_,y0 hi⟩;have eC:=ch v (x4 bS);have c5:am .i64 ab av bh aN (aV x.scope):=aX aC aw fun r E J=>by
   rcases J with rfl|J
   ·exact bB aC aG (by decide) E rfl
   ·obtain⟨Y,ai⟩:=bw aC E;omega
  rw[ao,aa];refine⟨fun _=>?_,fun h=>by omega⟩;rw[a1 al.u ab.i (by kernel_rfl) c5.ls bS];intro eD aT _ _;have ci:=c3.ext aT;have c6:f.sizes[v.toNat]? =some (f.sizes.getD v.toNat 0):=by rw[u6,y0 (by omega)];rfl
  rw[ae aS.p rfl,V (by kernel_rfl) (ci.cell (o:=0+1) rfl),eS (y:=v) (i:=v.toNat) (by omega) ap.u aj.i (by kernel_rfl) (cP.ext ((bN aw).trans aT)).ls c6];refine dC (k:=.i64) al.u ab.i rfl fun eE eF c8 eH aU c9=>?_;refine⟨.inl aU,?_⟩;have cj:=(aR.ext aT).ext aU;refine fF al.u ab.i rfl cj c9.ls (by simp;omega) (by simp;omega) fun da db eI bl dc ck=>?_;have cl:=ci.ext aU;have cm:=cl.U ck fun he=>bB cj cl (by decide) he rfl;rw[ae aS.p rfl];refine aZ (g:=O) (o:=1) al.i bl.ls.cells.1 bl.ls.cells.2 cm (by simp) fun dd cp eJ de=>?_;rw[aF];have df:af (fun r=>leads au r∨r=O) c8 dd:=(ck.mono fun r _ h=>.inl h).trans (cp.mono fun r _ h=>.inr h);have dg:=aw.size;have eK:=(aT.trans aU).size;refine c4 _ ⟨((aw.trans (aT.U _)).trans (aU.U _)).trans (df.mono fun r _ h=>h.elim (fun h=>.inr (bR r h)) .inl),da,db,de,?_,fun r E=>(dc r E).elim (bR r) fun h=>by omega⟩;have e:(bI f.sizes (aV x.scope)).take (i+1)=(bI f.sizes (aV x.scope)).take i++[f.sizes.getD v.toNat 0]:=by
   unfold bI;rw[←List.map_take,←List.map_take,u4,bS,l9,o9];rfl
  rw[e];exact aX bl cp fun r E he=>by
   have he:r=O:=he;subst he;exact bB bl cm (by decide) E rfl
 rintro av c2 ⟨aw,au,gs,bT,aR,bR⟩;rw[←bQ,o3] at aR;rw[ao,aa];refine⟨fun h=>by omega,fun _=>?_⟩;have eL:=bN aw;have bn:bu (bI f.sizes (aV x.scope)):=⟨by rw[bQ];exact cR,m3 be.sizes.2.2 ch⟩;have dh:=cS.small;rw[ae aS.p rfl,V (by kernel_rfl) (bT.cell (o:=0+1) rfl)];refine (vj _ aR.ls bn).mono ?_;rintro di X _ ⟨bo,cq⟩;have eM:=ip bn.2;have eN:=jc bn.2;have eO:aD (bI f.sizes (aV x.scope))≤4096:=dh;rw[io dO.u cq];have bp:af (fun r=>r=O∨ak.heap.size≤r) ak X:=aw.trans (bo.U _);have aY:=bT.ext bo;have cr:=aR.ext bo;have dg:=aw.size;have eP:=bo.size;have bU:am .i64 ab X bh aN (aV x.scope):=aX aC bp fun r E J=>by
  rcases J with rfl|J
  ·exact bB aC aG (by decide) E rfl
  ·obtain⟨Y,ai⟩:=bw aC E;omega
 have bW:ad X bE aK (dF aB):=bL.U bp fun J=>J.elim (fun he=>by subst he;exact absurd (ew bL aG) (by decide)) fun h=>by have:=bL.lt;omega
 have cu:=cg.U bp fun J=>J.elim (fun he=>by have:=bG.lt;omega) fun h=>by have:=cg.lt;omega
 have cw:∀ {w':x2},af (fun r=>r=O∨X.heap.size≤r) X w'→Ext w w':=fun bO=>(bN bp).then bO fun r E he=>by
  have he:r=O∨X.heap.size≤r:=he;omega
 have eQ:O<X.heap.size:=aY.lt;refine bV.range (bm (bI f.sizes (aV x.scope))).length (fun q W=>af (fun r=>r=O∨X.heap.size≤r) X W∧ ∃ aH a2,ad W O aS [aN,au,aH]∧am .i64 aj W a2 aH (((bm (bI f.sizes (aV x.scope))).take q).map fun t=>hl x f.k (lB x.scope (aV x.scope) t))∧ ∀ r,leads aH r→X.heap.size≤r) (by omega)
  ⟨af.refl _ _,_,0,aY,am.nil _ _ _ _,fun r E=>by obtain⟨a,n,c,Y,ai⟩:=E;cases Y⟩ ?_ ?_
 ·rintro q W dj dk ⟨Z,aH,a2,a6,ba,bq⟩ dl;obtain⟨t,br⟩:∃ t,(bm (bI f.sizes (aV x.scope)))[q]? =some t:=⟨_,y0 dk⟩;have eR:t.length=(aV x.scope).length:=by
   have dm:=oD bn.2 (i:=q) (by omega);rw[dm] at br;cases br;rw[gN,bQ]
  have bX:=cw Z;have dn:ay.rep (α:=List (List Int)) true (dD av.heap.size) a8 W [di] (bm (bI f.sizes (aV x.scope))):=ay.U cq Z fun r E h J=>by
   rcases h with h|h
   ·have h:av.heap.size≤r:=h;have:=bT.lt;rcases J with J|J <;> omega
   ·exact h
  have aJ:∀ {ax:Nat} {az:x1} {aA:List Int},am .i64 ab X ax az aA→am .i64 ab W ax az aA:=fun hm=>aX hm Z fun r E J=>by
   rcases J with rfl|J
   ·exact bB hm aY (by decide) E rfl
   ·obtain⟨Y,ai⟩:=bw hm E;omega
  have cz:=aJ bU;have cA:ad W bE aK (dF aB):=bW.U Z fun J=>J.elim (fun he=>by subst he;exact absurd (ew bW aY) (by decide)) fun h=>by have:=bW.lt;omega
  rw[ao,aa];refine⟨fun _=>?_,fun h=>by omega⟩;refine uB (α:=List Int) rfl rfl dO.u al.i (by kernel_rfl) dn br fun eT dp=>?_;have dq:=jH dp;rw[ae aK.p rfl,V (v:=aB.aN) (by kernel_rfl) (cA.cell (o:=0+0) rfl),aI ap.u (bf.ls.ext bX)];have z12:=Z.size;refine bM.range x.scope.length (fun p ag bt=>Ext W bt∧ ∃ go,am .i64 aj bt go ag ((x.scope.take p).map fun v=>t.getD ((aV x.scope).idxOf v) 0)∧ ∀ r,leads ag r→W.heap.size≤r) (by omega) ⟨Ext.refl _,0,am.nil _ _ _ _,fun r E=>by obtain⟨a,n,c,Y,ai⟩:=E;cases Y⟩ ?_ ?_
  ·rintro p ag bt ds dt ⟨aM,go,bb,cB⟩ du;obtain⟨v,bY⟩:∃ v,x.scope[p]? =some v:=⟨_,y0 dt⟩;have dv:v∈aV x.scope:=b9.mem_iff.2 (x4 bY);rw[ao,aa];refine⟨fun _=>?_,fun h=>by omega⟩;have dw:=bX.trans aM;have dx:=a6.ext aM;have dy:=cz.ext aM;rw[a1 ap.u aj.i (by kernel_rfl) (bf.ls.ext dw) bY,ae aS.p rfl,V (by kernel_rfl) (dx.cell (o:=0+0) rfl),aI al.u dy.ls];generalize cC:((x.scope.take p).map fun v=>t.getD ((aV x.scope).idxOf v) 0)=A at bb;have eU:A.length=p:=by rw[←cC,u7,o5];omega
   refine bM.range (aV x.scope).length (fun j ag bz=>Ext W bz∧ ∃ go,am .i64 aj bz go ag (A++if v∈(aV x.scope).take j then[t.getD ((aV x.scope).idxOf v) 0] else[])∧ ∀ r,leads ag r→W.heap.size≤r) (by omega) ⟨aM,go,by simpa using bb,cB⟩ ?_ ?_
   ·rintro j dz bz dA dE ⟨aE,bZ,aO,bd⟩ dG;obtain⟨u,hu⟩:∃ u,(aV x.scope)[j]? =some u:=⟨_,y0 dE⟩;have dH:=cz.ext aE;rw[ao,aa];refine⟨fun _=>?_,fun h=>by omega⟩;refine aL (fun ag b1=>Ext W b1∧ ∃ go,am .i64 aj b1 go ag (A++if v∈(aV x.scope).take (j+1) then[t.getD ((aV x.scope).idxOf v) 0] else[])∧ ∀ r,leads ag r→W.heap.size≤r) ?_ ?_
    ·rintro eV b1 dI;rw[aF];exact dG _ _ dI
    intro eW cD;have b2:v∈(aV x.scope).take (j+1)↔v∈(aV x.scope).take j∨v=u:=by
     rw[u4,hu,l9,p9,p8]
    rw[a1 al.u ab.i (by kernel_rfl) dH.ls hu,bc,aa];refine⟨fun he=>?_,fun b3=>?_⟩
    ·have dJ:v∉(aV x.scope).take j:=fun hm=>by
      obtain⟨dK,b4⟩:=Y6.1 hm;have dL:dK<j:=by have:=(x3.1 b4).1;rw[o5] at this;omega
      rw[c7 dL,←he] at b4;have:=hW ca b4 hu;omega
     rw[if_neg dJ,V4] at aO;have dM:t[j]? =some (t.getD ((aV x.scope).idxOf v) 0):=by
      have:(aV x.scope).idxOf v=j:=m7 ca (by rw[hu,he]);rw[this,u6,y0 (show j<t.length by omega)];rfl
     rw[a1 al.u ab.i (by kernel_rfl) (dq.ext aE) dM];refine dC ap.u aj.i rfl fun eX eY eZ e0 b5 dN=>?_;refine fF ap.u aj.i rfl (aO.ext b5) dN.ls (by simp;omega) (by simp;omega) fun e2 dR e3 dS dT dU=>?_;have e4:=aE.size;have e5:=b5.size;refine cD _ _ ⟨(aE.trans b5).then dU fun r E he=>by have:=bd r he;omega,dR,?_,fun r E=>(dT r E).elim (bd r) fun h=>by omega⟩;rw[if_pos (b2.2 (.inr he.symm))];exact dS
    ·refine cD _ _ ⟨aE,bZ,?_,bd⟩;have:(v∈(aV x.scope).take (j+1))=(v∈(aV x.scope).take j):=propext ⟨fun b6=>(b2.1 b6).resolve_right fun he=>b3 he.symm,fun b6=>b2.2 (.inl b6)⟩;simp only[this];exact aO
   ·rintro dz bz dA ⟨aE,bZ,aO,bd⟩;rw[o3,if_pos dv] at aO;rw[ao,aa];refine⟨fun h=>by omega,fun _=>?_⟩;rw[aF];refine du _ _ ⟨aE,bZ,?_,bd⟩;rw[u4,bY,l9,o9,cC];exact aO
  ·rintro ag bt ds ⟨aM,go,bb,cB⟩;rw[o3] at bb;rw[ao,aa];refine⟨fun h=>by omega,fun _=>?_⟩;intro e6 cE _ _;have bA:=aM.trans cE;have dV:=a6.ext bA;have dW:=cA.ext bA;rw[ae aS.p rfl,V (by kernel_rfl) (dV.cell (o:=0+2) rfl),bj aK.p aK.i rfl dW.range];refine (HH (h.ext (bX.trans bA)) aP.lines.1 (bb.ls.ext cE)).mono ?_;rintro _ e7 _ ⟨rfl,b7⟩;refine⟨.inl b7,?_⟩;refine dC ap.u aj.i rfl fun e8 e9 dX fa cF dY=>?_;refine⟨.inl (b7.trans cF),?_⟩;have bC:=(bA.trans b7).trans cF;have cG:=ba.ext bC;refine fF ap.u aj.i rfl cG dY.ls (by simp;omega) (by simp;omega) fun dZ ea fb bD eb cH=>?_;have cJ:=a6.ext bC;have cK:=cJ.U cH fun he=>bB cG cJ (by decide) he rfl;rw[ae aS.p rfl];refine aZ (g:=O) (o:=2) ap.i bD.ls.cells.1 bD.ls.cells.2 cK (by simp) fun ec cL fc ed=>?_;rw[aF];have ee:af (fun r=>leads aH r∨r=O) dX ec:=(cH.mono fun r _ h=>.inl h).trans (cL.mono fun r _ h=>.inr h);have fd:=bC.size;refine dl _ ⟨(Z.trans (bC.U _)).trans (ee.mono fun r _ h=>h.elim (fun h=>.inr (bq r h)) .inl),dZ,ea,ed,?_,fun r E=>(eb r E).elim (bq r) fun h=>by omega⟩;rw[u4,br,l9,o9];exact aX bD cL fun r E he=>by
    have he:r=O:=he;subst he;exact bB bD cK (by decide) E rfl
 ·rintro W dj ⟨Z,aH,a2,a6,ba,bq⟩;rw[o3] at ba;rw[ao,aa];refine⟨fun h=>by omega,fun _=>?_⟩;have aJ:∀ {ax:Nat} {az:x1} {aA:List Int},am .i64 ab X ax az aA→am .i64 ab W ax az aA:=fun hm=>aX hm Z fun r E J=>by
   rcases J with rfl|J
   ·exact bB hm aY (by decide) E rfl
   ·obtain⟨Y,ai⟩:=bw hm E;omega
  let c:dQ:=⟨aN,au,aH,aV x.scope,(fC f.sizes f.k x).2⟩;have ef:dr W f.sizes c:=⟨⟨bh,aJ bU⟩,⟨gs,aJ cr⟩,a2,ba⟩;rw[bj aS.p aS.i rfl (show W.rangeAt O 0 (cn c) from a6.range)];have cM:=cu.U Z fun J=>J.elim (fun he=>by have:=bG.lt;omega) fun h=>by have:=cu.lt;omega
  refine bP (vs:=cn c) aS.i rfl rfl ef.one cM fun eg cN fe eh=>?_;rw[eo aS.p aS.i rfl eh.range];have aW:∀ {ax:Nat} {az:x1} {aA:List Int} {e:u5},e≠aS→am .i64 e W ax az aA→am .i64 e eg ax az aA:=fun b3 hm=>aX hm cN fun r E he=>by
   have he:r=cc:=he;exact bB hm cM b3 E he
  refine⟨(cw Z).then cN fun r E he=>by have he:r=cc:=he;have:=cb.size;omega,c,rfl,rfl,rfl,⟨⟨bh,aW (by decide) (aJ bU)⟩,⟨gs,aW (by decide) (aJ cr)⟩,a2,aW (by decide) ba⟩,fun r E=>?_⟩;have:=bq r E;omega
theorem ys {w:x2} {sizes:List Int} {h:dQ} {g:Nat} (J:dr w sizes h) {w':x2} (E:ad w' g aS (x1.agg (cn h).toArray).cells.toList):ad w' g aS (cn h):=by
 obtain⟨⟨Y,h1⟩,⟨Z,O⟩,aa,U⟩:=J;obtain⟨_,_,_,V⟩:=ct h1.ls;obtain⟨_,_,_,W⟩:=ct O.ls;obtain⟨_,_,_,X⟩:=ct U.ls;simp only[cn,V,W,X] at E ⊢;exact E
set_option maxHeartbeats 1000000 in
theorem HJ {w:x2} {sizes:List Int} {a b:dQ} (ay:dr w sizes a) (az:dr w sizes b) (aC:hr a.sc) (aD:hr b.sc):ah x5 ub [.agg (cn a).toArray,.agg (cn b).toArray] w fun v w'=>v= .bool (decide (cm a.sc<cm b.sc))∧Ext w w':=by
 obtain⟨⟨aY,aA⟩,_⟩:=id ay;obtain⟨⟨aZ,aE⟩,_⟩:=id az;have aj:=(rr aC aD).1;refine aq func224 ?_;refine a7 fun aG a2 a6 aH ak=>?_;refine a7 fun aJ am a8 aB ap=>?_;have ak:=(ys ay ak).ext aB;have ap:=ys az ap;have W:=aH.trans aB;have X:=aA.ls.ext W;have ac:=aE.ls.ext W;have Y:∀ {w':x2},Ext am w'→ ∀ {K:x1→Prop},O x5 (x8 aS (.pointer (some ⟨aG,0,none⟩)) 0) w' (fun t=>O x5 (x7 al t) w' K)=K a.aN:=fun J K=>by
  rw[ae aS.p rfl,V (v:=a.aN) (by kernel_rfl) ((ak.ext J).cell (o:=0+0) rfl)]
 have ad:∀ {w':x2},Ext am w'→ ∀ {K:x1→Prop},O x5 (x8 aS (.pointer (some ⟨aJ,0,none⟩)) 0) w' (fun t=>O x5 (x7 al t) w' K)=K b.aN:=fun J K=>by
  rw[ae aS.p rfl,V (v:=b.aN) (by kernel_rfl) ((ap.ext J).cell (o:=0+0) rfl)]
 rw[Y (Ext.refl _),aI al.u X,ad (Ext.refl _),aI al.u ac,be,aa];refine⟨fun aK=>?_,fun aL=>?_⟩
 ·rw[Y (Ext.refl _),aI al.u X,ad (Ext.refl _),aI al.u ac,ao];refine⟨?_,W⟩;congr 1;rw[X5,decide_eq_true_eq,decide_eq_true_eq,aj];exact⟨fun h=>.inl (by omega),fun h=>by rcases h with h|h <;> omega⟩
 have aM:a.sc.length=b.sc.length:=by have:=Z7.1 aL;omega
 rw[Y (Ext.refl _),aI al.u X];refine bM.range a.sc.length (fun i _ au=>Ext am au∧ ∀ (j:Nat) (x y:Int),j<i→a.sc[j]? =some x→b.sc[j]? =some y→x=y) aA.ls.le ⟨Ext.refl _,fun j x y aO=>by omega⟩ ?_ ?_
 ·rintro i _ au k hi ⟨av,af⟩ aP;obtain⟨x,J⟩:∃ x,a.sc[i]? =some x:=⟨_,y0 hi⟩;obtain⟨y,ag⟩:∃ y,b.sc[i]? =some y:=⟨_,y0 (by omega)⟩;have E:et a.sc b.sc=et (a.sc.drop i) (b.sc.drop i):=po af (by omega) (by omega);have aQ:a.sc.drop i=x::a.sc.drop (i+1):=by rw[Y2 hi,(x3.1 J).2]
  have aR:b.sc.drop i=y::b.sc.drop (i+1):=by rw[Y2 (show i<b.sc.length by omega),(x3.1 ag).2]
  rw[aQ,aR] at E;simp only[et] at E;rw[ao,aa];refine⟨fun _=>?_,fun h=>by omega⟩;intro ba aT _ _;have U:=av.trans aT;rw[Y U,a1 al.u ab.i (by kernel_rfl) (X.ext U) J,ad U,a1 al.u ab.i (by kernel_rfl) (ac.ext U) ag,be,aa];refine⟨fun aK=>?_,fun he=>?_⟩
  ·intro bb aU _ _;have Z:=U.trans aU;rw[Y Z,a1 al.u ab.i (by kernel_rfl) (X.ext Z) J,ad Z,a1 al.u ab.i (by kernel_rfl) (ac.ext Z) ag,ao];refine⟨?_,W.trans Z⟩;congr 1;rw[X5,decide_eq_true_eq,decide_eq_true_eq,aj,E];by_cases ai:x<y
   ·rw[if_pos ai];exact⟨fun _=>.inr ⟨aM,by omega⟩,fun _=>ai⟩
   ·rw[if_neg ai,if_pos (show y<x by omega)];exact⟨fun h=>absurd h ai,fun h=>by rcases h with h|h <;> omega⟩
  ·rw[aF];refine aP _ _ ⟨U,fun j aV aW aO aw ax=>?_⟩;by_cases aX:j=i
   ·subst aX;rw[J] at aw;rw[ag] at ax;cases aw;cases ax;exact Z7.1 he
   ·exact af j aV aW (by omega) aw ax
 ·rintro _ au k ⟨av,af⟩;rw[ao,aa];refine⟨fun h=>by omega,fun _=>⟨?_,W.trans av⟩⟩;congr 1;symm;rw[decide_eq_false_iff_not,aj];have E:et a.sc b.sc=et (a.sc.drop a.sc.length) (b.sc.drop a.sc.length):=po af (u9 _) (by omega);rw[List.drop_length,show b.sc.drop a.sc.length=[] from List.drop_eq_nil_of_le (by omega)] at E;rw[E];simp only[et];omega
def cK (h:dQ):bU:=(h.sc,h.cs)
def h4 (w:x2) (B g:Nat) (v:x1) (sizes:List Int) (L:List dQ):Prop:=aR cn 3 aS w g v L∧(∀ h∈L,dr w sizes h∧ ∀ r,leads h.aH r→B≤r)∧(∀ (i j:Nat) x y,L[i]? =some x→L[j]? =some y→i≠j→ ∀ r,leads x.aH r→¬leads y.aH r)∧ ∀ r,leadsTo v r→B≤r
theorem jl {S:Nat→Prop} {w w':x2} {sizes:List Int} {h:dQ} (Z:dr w sizes h) (W:af S w w') (X:∀ r,S r→(∃ e c,ad w r e c∧e≠ab∧e≠aj)∨w.heap.size≤r∨((∃ c,ad w r aj c)∧¬leads h.aH r)):dr w' sizes h:=by
 obtain⟨⟨aa,h1⟩,⟨ac,ae⟩,ag,O⟩:=Z;have Y:∀ {g:Nat} {v:x1} {l:List Int},am .i64 ab w g v l→am .i64 ab w' g v l:=fun hm=>aX hm W fun r E U=>by
  rcases X r U with⟨e,c,J,V,_⟩|ah|⟨⟨c,J⟩,_⟩
  ·exact bB hm J (fun he=>V he.symm) E rfl
  ·obtain⟨ai,ak⟩:=bw hm E;omega
  ·exact bB hm J (by decide) E rfl
 refine⟨⟨aa,Y h1⟩,⟨ac,Y ae⟩,ag,aX O W fun r E U=>?_⟩;rcases X r U with⟨e,c,J,_,V⟩|ah|⟨_,al⟩
 ·exact bB O J (fun he=>V he.symm) E rfl
 ·obtain⟨ai,ak⟩:=bw O E;omega
 ·exact al E
theorem h4.ext {w w':x2} {B g:Nat} {v:x1} {sizes:List Int} {L:List dQ} (h:h4 w B g v sizes L) (J:Ext w w'):h4 w' B g v sizes L:=⟨h.1.ext J,fun x E=>⟨(h.2.1 x E).1.ext J,(h.2.1 x E).2⟩,h.2.2⟩
section
variable {α:Type} {f:α→List x1} {k:Nat} {P:Y3} {w:x2} {e:u5} {g:Nat} {v:x1} {L:List α}
theorem HK {M:List α} (h:aR f k e w g v L) (ag:L.map f=M.map f):aR f k e w g v M:=by
 have E:L.length=M.length:=by have:=congrArg X7 ag;simpa using this
 have hm:L.flatMap f=M.flatMap f:=by rw[List.flatMap_def,List.flatMap_def,ag]
 refine⟨by rw[←E,←hm];exact h.1,fun a J=>?_⟩;obtain⟨b,O,he⟩:=o6.1 (show f a∈L.map f by rw[ag];exact o6.2 ⟨a,J,rfl⟩);rw[←he];exact h.2 b O
theorem yt {t:u5} {b l h':Nat} {z:x1} {low high:Option x1} {K:x1→Prop} (V:P.underlying t=some (.slice e)) (hi:aE P e k b z) (h:aR f k e w g v L) (h1:i9 low l) (W:ja high L.length h') (J:l≤h') (X:h'≤L.length)
  (Y:∀ U,(∀ w',aR f k e w' g v L→bG w' k U ((L.drop l).take (h'-l)).length (((L.drop l).take (h'-l)).flatMap f))→K U):O P (Y9 t v low high none) w K:=by
 have Z:=h.sl;obtain⟨_,ab,o,base,cap,rfl,ac,_⟩:=Z;rw[fz V hi h1 W eb J (by omega) (u9 _)];refine Y _ fun w' E=>?_;have:=bG.part (l:=l) (h:=h') (m:=cap) E.sl J X (by omega) (u9 _);rw[oU l E.2,mS (h'-l) (fun a aa=>E.2 a (List.mem_of_mem_drop aa))] at this;have el:((L.drop l).take (h'-l)).length=h'-l:=by rw[o5,List.length_drop];omega
 rw[el];exact this
theorem r2 {t ah:u5} {b:Nat} {z x:x1} {M:List α} {K:x1→x2→Prop} (W:P.underlying t=some (.slice e)) (hi:aE P e k b z) (ab:z.cells.size=k) (h:aR f k e w g v L) (J:bG w k x M.length (M.flatMap f)) (ai:∀ a∈M,(f a).length=k) (h1:∀ a∈M,∀ u∈f a,u.oneCell'=true)
  (X:(L.length+M.length)*b≤140737488355328) (ad:L.length+M.length≤9223372036854775807)
  (ae:∀ E O w',aR f k e w' O E (L++M)→(∀ r,leadsTo E r→leadsTo v r∨w.heap.size≤r)→af (fun r=>leadsTo v r) w w'→K E w'):aA P (l5 #[t,t] ah #[v,x]) w K:=by
 have ag:∀ u∈M.flatMap f,u.oneCell'=true:=fun u hu=>by
  obtain⟨a,aj,hu⟩:=List.mem_flatMap.1 hu;exact h1 a aj u hu
 have Y:∀ E O w',br w' O e k E (L.length+M.length) (L.flatMap f++M.flatMap f)→aR f k e w' O E (L++M):=fun E O w' hm=>⟨by simpa using hm,fun b X=>by
  rcases p9.1 X with h'|h'
  ·exact h.2 b h'
  ·exact ai b h'⟩
 rcases h.1.2 with⟨ac,ak⟩|⟨cap,cs,ac,al,_⟩
 ·have hm:br w w.heap.size e k v L.length (L.flatMap f):=⟨h.1.1,.inl ⟨ac,ak⟩⟩;subst ac;refine km W W hi ab hm J ag (by simpa using X) (by simpa[maxLen] using ad) fun E O w' Z U aa=>ae E O w' (Y _ _ _ U) (fun r V=>.inr ?_) (aa.mono fun r V h=>by omega);have:=((Y _ _ _ U).leads V).1;omega
 ·refine km W W hi ab h.1 J ag (by simpa using X) (by simpa[maxLen] using ad) fun E O w' Z U aa=>ae E O w' (Y _ _ _ U) (fun r V=>?_) (aa.mono fun r V h=>⟨_,_,_,ac,h.symm⟩);have:=((Y _ _ _ U).leads V).1;rcases Z with Z|Z
  ·exact .inl ⟨_,_,_,ac,by show g=r;omega⟩
  ·exact .inr (by omega)
theorem HL {t:u5} {b:Nat} {z:x1} {K:x1→x2→Prop} (E:P.underlying t=some (.slice e)) (hi:aE P e k b z)
  (J:∀ v g w',g=w.heap.size→Ext w w'→aR f k e w' g v []→K v w'):aA P (j9 t 0 #[]) w K:=
 hM E hi (by omega) (cs:=#[]) (by simp[Instr.fill]) fun g w' O U V=>by
  exact J _ g w' O U ⟨by simpa using br.full (k:=k) (n:=0) V (by simp) (by simp[maxLen]),fun c W=>by cases W⟩
end
theorem r3 {α:Type} {A B:List α} {s:Nat} {a:α} (J:s<B.length) (E:A[s]? =some a):(A.take s++B.drop s).set s a=A.take (s+1)++B.drop (s+1):=by
 have O:=(x3.1 E).1;have h1:(A.take s).length=s:=by rw[o5];omega
 rw[List.set_append_right _ _ (by omega),h1,X6,Y2 J,List.set_cons_zero,u4,E,l9,X8];rfl
theorem yu {α:Type} {A B:List α} {s:Nat} (E:s≤A.length):(A.take s++B.drop s)[s]? =B[s]?:=by
 have h1:(A.take s).length=s:=by rw[o5];omega
 rw[Z2 (by omega),h1,X6,List.getElem?_drop,Nat.add_zero]
theorem yv {g:bU}:∀ {l:List bU} {i:Nat},(∀ p<i,∀ x,l[p]? =some x→cm x.1<cm g.1)→i≤l.length→(∀ x,l[i]? =some x→¬cm x.1<cm g.1)→fm g l=l.take i++g::l.drop i
 |[],i,_,E,_=>by
  have:i=0:=by simpa using E
  subst this;rfl
 |x::l,0,_,_,J=>by
  unfold fm;rw[if_neg (J x rfl)];rfl
 |x::l,i+1,h1,E,J=>by
  unfold fm;rw[if_pos (h1 0 (by omega) x rfl),yv (i:=i) (fun p U y O=>h1 (p+1) (by omega) y O) (by simpa using E) (fun y O=>J y O)];rfl
theorem HM {w:x2} {B g:Nat} {v:x1} {sizes:List Int} {L:List dQ} {h:dQ} {j s:Nat} {n:Int} {K:Unit→x2→Prop} (E:h4 w B g v sizes L) (aa:L[j]? =some h) (W:s<h.cs.length)
  (aw:∀ w',af (fun r=>leads h.aH r) w w'→(∀ r,leads h.aH r→ ∃ c,ad w r aj c)→h4 w' B g v sizes (L.set j {h with cs:=h.cs.set s n})→K () w'):
  O x5 (j4 ap h.aH (.int .i64 (s:Int))) w fun t=>aA x5 (o7 aj t (.int .i64 n)) w K:=by
 obtain⟨h1,ak,al,ax⟩:=E;have ah:=(x3.1 aa).1;obtain⟨am,ay⟩:=ak h (x4 aa);obtain⟨_,_,ao,ab⟩:=id am;have ae:∀ r,leads h.aH r→ ∃ c,ad w r aj c:=fun r E=>by
  obtain⟨rfl,_⟩:=bw ab E;obtain⟨_,⟨ac,_⟩|⟨cap,full,_,X,_⟩⟩:=ab
  ·obtain⟨a,n,c,e,_⟩:=E;rw[ac] at e;cases e
  ·exact⟨_,X⟩
 have az:∀ r,r=ao→leads h.aH r:=fun r he=>by
  subst he;obtain⟨_,⟨_,aQ⟩|⟨cap,full,e,X,_⟩⟩:=ab
  ·omega
  ·exact⟨_,_,_,e,rfl⟩
 rw[fR rfl ap.u aj.i ab W];refine fS aj.i ab W fun w' Y aR aB=>?_;have Y:=Y.mono (T:=fun r=>leads h.aH r) fun r _ he=>az r he;refine aw w' Y ae ⟨?_,fun x J=>?_,fun p q x y J aC aD r aE aF=>?_,ax⟩
 ·refine HK (h1.U Y fun r E W=>?_) ?_
  ·obtain⟨c,X⟩:=ae r W;exact b4 h1 X (by decide) E
  ·rw[List.map_set];symm;refine Y4 fun p=>?_;rw[Y0,x6];by_cases V:j=p
   ·subst V;rw[if_pos rfl,if_pos (by simpa using ah),aa];rfl
   ·rw[if_neg V]
 ·have aG:x={h with cs:=h.cs.set s n}∨ ∃ p,p≠j∧L[p]? =some x:=by
   obtain⟨p,V⟩:=Y6.1 J;rw[Y0] at V;by_cases Z:j=p
   ·subst Z;rw[if_pos rfl,if_pos ah] at V;exact .inl (j5 V).symm
   ·rw[if_neg Z] at V;exact .inr ⟨p,fun h=>Z h.symm,V⟩
  rcases aG with rfl|⟨p,aI,V⟩
  ·obtain⟨⟨aJ,aq⟩,⟨aK,au⟩,_⟩:=am;refine⟨⟨⟨aJ,aX aq Y fun r E W=>?_⟩,⟨aK,aX au Y fun r E W=>?_⟩,ao,aB⟩,ay⟩
   ·obtain⟨c,X⟩:=ae r W;exact bB aq X (by decide) E rfl
   ·obtain⟨c,X⟩:=ae r W;exact bB au X (by decide) E rfl
  ·obtain⟨aL,aM⟩:=ak x (x4 V);refine⟨jl aL Y fun r E=>.inr (.inr ⟨ae r E,fun ai=>al p j x h V aa aI r ai E⟩),aM⟩
 ·have av:∀ {p:Nat} {x:dQ},(L.set j {h with cs:=h.cs.set s n})[p]? =some x→ ∃ ag,L[p]? =some ag∧ag.aH=x.aH:=fun {p x} J=>by
   rw[Y0] at J;by_cases Z:j=p
   ·subst Z;rw[if_pos rfl,if_pos ah] at J;cases J;exact⟨h,aa,rfl⟩
   ·rw[if_neg Z] at J;exact⟨x,J,rfl⟩
  obtain⟨ag,ai,ex⟩:=av J;obtain⟨aN,aO,aP⟩:=av aC;exact al p q ag aN ai aO aD r (by rw[ex];exact aE) (by rw[aP];exact aF)
def iG (f:bx) (j:Nat):List bU:=(((dV f).take j).filter ec).foldl (fun l g=>fm g l) []
theorem yw {f:bx} {j:Nat} {x:bU} (h:(dV f)[j]? =some x):iG f (j+1)=if ec x then fm x (iG f j) else iG f j:=by
 unfold iG;rw[u4,h,l9,List.filter_append,List.foldl_append];cases E:ec x with
 |true=>rw[List.filter_cons_of_pos E];rfl
 |false=>rw[List.filter_cons_of_neg (by simp[E])];rfl
theorem HN (f:bx):iG f (dV f).length=ed f:=by unfold iG ed;rw[o3]
theorem yx (g:bU):∀ l,(fm g l).length=l.length+1
 |[]=>rfl
 |h::l=>by
  unfold fm;split
  ·rw[l6,yx g l,l6]
  ·rfl
theorem HO {f:bx} {j:Nat} (J:j≤(dV f).length):(iG f j).length≤j:=by
 induction j with
 |zero=>simp[iG]
 |succ j E=>
  have:=E (by omega);rw[yw (x:=(dV f)[j]) (y0 (by omega))];split
  ·rw[yx];omega
  ·omega
set_option maxHeartbeats 4000000 in
theorem HP {w:x2} {N B g:Nat} {l:x1} {f:bx} {L:List dQ} {Q:x1→x2→Prop} (aX:dP N f) (W:h4 w B g l f.sizes L) (aY:L.map cK=dV f)
  (cc:∀ out w' go E,Ext w w'→aR cn 3 aS w' go out E→(∀ h∈E,h∈L)→(∀ h∈E,dr w' f.sizes h)→E.map cK=ed f→(∀ r,leadsTo out r→w.heap.size≤r)→Q out w'):
  O x5 (Z8 #[b5] ab #[l]) w fun cd=>
 bM (.slice none 0 0) (.int .i64 0) w fun out aZ am ce=>
  O x5 (aB .lss ab false false aZ cd) am fun cg=>
  Split cg (bR (α:=x1→x2→Prop) (fun(ch:x1) (aq:x2)=>
   O x5 (aB .add ab false true aZ (.int .i64 1)) aq fun ci=>
   ce ch ci aq) fun bB=>
  O x5 (j4 b5 l aZ) am fun cj=>
  O x5 (x7 aS cj) am fun ck=>
  aA x5 (Instr.alloc aS true (.tuple #[])) am fun aM bC=>
  aA x5 (o7 aS aM ck) bC fun(_:Unit) ai=>
  O x5 (x8 aS aM 2) ai fun cl=>
  O x5 (x7 ap cl) ai fun bD=>
  O x5 (Z8 #[ap] ab #[bD]) ai fun cp=>
  bM (.bool false) (.int .i64 0) ai fun bE a2 X cq=>
   O x5 (aB .lss ab false false a2 cp) X fun ct=>
   Split ct (bR (α:=x1→x2→Prop) (fun(cu:x1) (ax:x2)=>
    O x5 (aB .add ab false true a2 (.int .i64 1)) ax fun cw=>
    cq cu cw ax) fun bF=>
   O x5 (j4 ap bD a2) X fun cz=>
   O x5 (x7 aj cz) X fun cA=>
   Split bE (bF (.bool true) X)
    (O x5 (aB .gtr aj false true cA (.int .i64 0)) X fun cB=>
   bF cB X))
    (O x5 (Op.unary .not bE) X fun cC=>
  Split cC (bB out X)
   (bV (.int .i64 0) X fun i aN cD=>
   bR (α:=x1→x2→Prop) (fun(cE:x1) (au:x2)=>
    Split cE (O x5 (aB .add ab false true i (.int .i64 1)) au fun cF=>
   cD cF au)
     (dj au fun Z=>
  O x5 (x7 aS aM) Z fun cG=>
  O x5 (Y9 b5 out (some i) none none) Z fun bG=>
  aA x5 (j9 b5 1 #[(0,cG)]) Z fun cH ay=>
   (Ext Z ay∨bL x5 (Y9 b5 out (some i) none none) bG ay∧True)∧
  aA x5 (l5 #[b5,b5] b5 #[cH,bG]) ay fun cI a6=>
   aA x5 (j9 b5 0 #[]) a6 fun cJ aO=>
  O x5 (Y9 b5 out none (some i) none) aO fun cL=>
  aA x5 (l5 #[b5,b5] b5 #[cJ,cL]) aO fun cM a7=>
  aA x5 (l5 #[b5,b5] b5 #[cM,cI]) a7 fun cN a8=>
  bB cN a8)) fun bH=>
   dj aN fun ac=>
   O x5 (Z8 #[b5] ab #[out]) ac fun cO=>
   O x5 (aB .lss ab false false i cO) ac fun cP=>
   Split cP (O x5 (j4 b5 out i) ac fun cQ=>
   O x5 (x7 aS cQ) ac fun cR=>
   O x5 (x7 aS aM) ac fun cS=>
   ah x5 ub [cR,cS] ac fun cT bI=>
    bH cT bI)
    (bH (.bool false) ac))))
   (Q out am):=by
 have cU:L.length=(dV f).length:=by rw[←aY,u7]
 have dC:L.length≤256:=by have:=(iA aX).2.2;have:=aX.iu;omega
 have bK:=(iA aX).1;rw[dK b5.u W.1];refine bM.range L.length (fun j out ba=>∃ go E,Ext w ba∧aR cn 3 aS ba go out E∧(∀ h∈E,h∈L)∧E.map cK=iG f j∧ ∀ r,leadsTo out r→w.heap.size≤r) W.1.le
  ⟨0,[],Ext.refl _,aR.nil _ _ _ _ _,fun h ad=>(by cases ad),rfl,fun r W=>(dp W).elim⟩ ?_ ?_
 rotate_left
 ·rintro out ba cV ⟨go,E,bN,az,ak,aC,bb⟩;rw[ao,aa];refine⟨fun h=>by omega,fun _=>cc _ _ go E bN az ak (fun h ad=>((W.ext bN).2.1 h (ak h ad)).1) ?_ bb⟩;rw[aC,cU,HN]
 rintro j out am cV bO ⟨go,E,aQ,az,ak,aC,bb⟩ cW;obtain⟨h,ad⟩:∃ h,L[j]? =some h:=⟨_,y0 bO⟩;have hm:(dV f)[j]? =some (cK h):=by rw[←aY,x6,ad];rfl
 have cX:=bK _ (x4 hm);have dD:E.length≤256:=by
  have:=HO (f:=f) (j:=j) (by omega);rw[←aC,u7] at this;omega
 have aD:=W.ext aQ;obtain⟨bc,_⟩:=aD.2.1 h (x4 ad);obtain⟨_,_,dE,cY⟩:=id bc;rw[ao,aa];refine⟨fun _=>?_,fun h=>by omega⟩;refine aL (fun bd aq=>∃ be aE,Ext w aq∧aR cn 3 aS aq be bd aE∧(∀ h∈aE,h∈L)∧aE.map cK=iG f (j+1)∧ ∀ r,leadsTo bd r→w.heap.size≤r) ?_ ?_
 ·rintro bd aq ⟨be,aE,h1,cZ,c0,c1,c2⟩;rw[aF];exact cW _ _ ⟨be,aE,h1,cZ,c0,c1,c2⟩
 intro c3 aG;rw[cr rfl b5.u aS.i aD.1 bO,bj aS.p aS.i rfl (aD.1.range ad)];refine bi aS.i fun bf bC dF c4 c5=>?_;refine bP (vs:=cn h) aS.i rfl rfl bc.one c5 fun ai c6 dG bQ=>?_;have bS:Ext am ai:=c4.then c6 fun r W he=>by have he:r=bf:=he;omega
 have bg:=cY.ext bS;rw[ae aS.p rfl,V (v:=h.aH) (by kernel_rfl) (bQ.cell (o:=0+2) rfl),aI ap.u bg.ls];refine bM.range h.cs.length (fun q sv X=>Ext ai X∧sv= .bool ((h.cs.take q).any fun c=>decide (0<c))) bg.ls.le ⟨Ext.refl _,rfl⟩ ?_ ?_
 ·rintro q _ X c7 c8 ⟨av,rfl⟩ c9;obtain⟨c,bT⟩:∃ c,h.cs[q]? =some c:=⟨_,y0 c8⟩;have e:(h.cs.take (q+1)).any (fun c=>decide (0<c))=((h.cs.take q).any (fun c=>decide (0<c))||decide (0<c)):=by
   rw[u4,bT,l9,List.any_append];simp
  rw[ao,aa];refine⟨fun _=>?_,fun h=>by omega⟩;refine aL (fun sv ax=>Ext ai ax∧sv= .bool ((h.cs.take (q+1)).any fun c=>decide (0<c))) ?_ ?_
  ·rintro _ ax ⟨da,rfl⟩;rw[aF];exact c9 _ _ ⟨da,rfl⟩
  intro c3 aG;rw[a1 ap.u aj.i (by kernel_rfl) (bg.ext av).ls bT,b3];refine⟨fun db=>aG _ _ ⟨av,by rw[e,db];rfl⟩,fun ag=>?_⟩;rw[bA];exact aG _ _ ⟨av,by rw[e,ag];rfl⟩
 rintro _ X c7 ⟨av,rfl⟩;have bU:=bQ.ext av;have al:=bS.trans av;rw[o3,ao,aa];refine⟨fun h=>by omega,fun _=>?_⟩;rw[bJ,b3];have aT:=yw hm;have dc:(h.cs.any fun c=>decide (0<c))=ec (cK h):=rfl;rw[dc];refine⟨fun bk=>?_,fun aJ=>?_⟩
 ·have bk:ec (cK h)=false:=by simpa using bk
  rw[bk] at aT;exact aG _ _ ⟨go,E,aQ.trans al,az.ext al,ak,by rw[aC,aT];rfl,bb⟩
 have aJ:ec (cK h)=true:=by simpa using aJ
 rw[aJ,if_pos rfl] at aT;refine⟨fun bm aN=>∃ i:Nat,bm= .int .i64 (i:Int)∧i≤E.length∧Ext X aN∧ ∀ p<i,∀ x,E[p]? =some x→cm x.sc<cm h.sc,fun bm _=>E.length-(bl bm).toNat,⟨0,rfl,Z1 _,Ext.refl _,fun p bn=>by omega⟩,?_⟩;rintro _ aN ⟨i,rfl,hi,dd,bo⟩;refine aL (fun bW au=>Ext X au∧((bW= .bool true∧i<E.length∧ ∀ x,E[i]? =some x→cm x.sc<cm h.sc)∨(bW= .bool false∧ ∀ x,E[i]? =some x→¬cm x.sc<cm h.sc))) ?_ ?_
 rotate_left
 ·intro dH bp;intro ac de _ _;have aw:=dd.trans de;have bq:=az.ext (al.trans aw);rw[dK b5.u bq,ao,aa];refine⟨fun bo=>?_,fun dI=>bp _ _ ⟨aw,.inr ⟨rfl,fun x J=>absurd (x3.1 J).1 (by omega)⟩⟩⟩;obtain⟨x,J⟩:∃ x,E[i]? =some x:=⟨_,y0 (by omega)⟩;have bX:=ak x (x4 J);have df:hr x.sc:=(bK (cK x) (by rw[←aY];exact o6.2 ⟨x,bX,rfl⟩)).scope;have bY:=aD.ext (al.trans aw);rw[cr rfl b5.u aS.i bq (by omega),bj aS.p aS.i rfl (bq.range J),bj aS.p aS.i rfl (show ac.rangeAt bf 0 (cn h) from (bU.ext aw).range)];refine (HJ (bY.2.1 x bX).1 (bY.2.1 h (x4 ad)).1 df cX.scope).mono ?_;rintro _ bI _ ⟨rfl,bZ⟩;by_cases aU:cm x.sc<cm h.sc
  ·rw[decide_eq_true aU];exact bp _ _ ⟨aw.trans bZ,.inl ⟨rfl,by omega,fun y Y=>by rw[J] at Y;cases Y;exact aU⟩⟩
  ·rw[decide_eq_false aU];exact bp _ _ ⟨aw.trans bZ,.inr ⟨rfl,fun y Y=>by rw[J] at Y;cases Y;exact aU⟩⟩
 rintro _ au ⟨b1,⟨rfl,dJ,dg⟩|⟨rfl,dh⟩⟩
 ·rw[bh,aF,wrap_i64 (by omega) (by omega)];refine⟨⟨i+1,rfl,by omega,b1,fun p bn x J=>?_⟩,by simp only[bl];omega⟩;by_cases di:p=i
  ·subst di;exact dg x J
  ·exact bo p (by omega) x J
 ·rw[aP];intro Z dk _ _;have aK:=b1.trans dk;have aV:=az.ext (al.trans aK);have dl:=aD.ext (al.trans aK);have br:∀ x∈E,∀ u∈cn x,u.oneCell'=true:=fun x J=>(dl.2.1 x (ak x J)).1.one;have dm:∀ u∈cn h,u.oneCell'=true:=bc.one;rw[bj aS.p aS.i rfl (show Z.rangeAt bf 0 (cn h) from (bU.ext aK).range)];refine yt (h':=E.length) b5.u aS.i aV (ki i _ rfl) hd hi (u9 _) fun dL b2=>?_;refine eV (f:=cn) (k:=3) (a:=h) b5.u aS.i (by omega) rfl rfl fun dM dN ay dO bt b4=>?_;refine⟨.inl bt,?_⟩;have dn:(E.drop i).take (E.length-i)=E.drop i:=b6 (by rw[List.length_drop];omega);rw[dn] at b2;refine r2 (M:=E.drop i) b5.u aS.i rfl b4 (b2 ay (aV.ext bt)) (fun _ _=>rfl) (fun a af=>br a (List.mem_of_mem_drop af)) (by simp;omega) (by simp;omega) fun dR dS a6 bu dT dq=>?_;have b7:Ext Z a6:=bt.then dq fun r W he=>by have:=(b4.leads he).1;omega
  refine HL (f:=cn) (k:=3) b5.u aS.i fun dU dW aO dX bw aW=>?_;have bz:=b7.trans bw;refine yt (h':=i) b5.u aS.i (aV.ext bz) hc (kj i _ rfl) (Z1 _) hi fun dY b8=>?_;rw[List.drop_zero,Nat.sub_zero] at b8;refine r2 (M:=E.take i) b5.u aS.i rfl aW (b8 aO (aV.ext bz)) (fun _ _=>rfl) (fun a af=>br a (List.mem_of_mem_take af)) (by simp;omega) (by simp;omega) fun ds dZ a7 dt du b9=>?_;have ea:=b7.size;have eb:=bw.size;have dv:=(bu.ext bw).U b9 fun r W aJ=>by have:=(bu.leads W).1;have:=(bu.leads W).2;have:=(aW.leads aJ).1;omega
  refine r2 (M:=[h]++E.drop i) b5.u aS.i rfl dt dv.sl (fun _ _=>rfl) (fun a af=>?_) (by simp;omega) (by simp;omega) fun ee dw a8 dx dy dz=>?_
  ·rcases p9.1 af with af|af
   ·rw[p8.1 af];exact dm
   ·exact br a (List.mem_of_mem_drop af)
  have ca:Ext Z a7:=bz.then b9 fun r W he=>by have:=(aW.leads he).1;omega
  have cb:∀ r,leadsTo ds r→Z.heap.size≤r:=fun r W=>(du r W).elim (fun h=>by have:=(aW.leads h).1;omega) fun h=>by omega
  have dA:Ext Z a8:=ca.then dz fun r W he=>by have:=cb r he;omega
  have ef:=(aQ.trans (al.trans aK)).size;have eg:=ca.size;refine aG _ _ ⟨dw,_,(aQ.trans (al.trans aK)).trans dA,dx,fun x J=>?_,?_,fun r W=>(dy r W).elim (fun h=>by have:=cb r h;omega) fun h=>by omega⟩
  ·rcases p9.1 J with J|J
   ·exact ak x (List.mem_of_mem_take (by simpa using J))
   ·rcases p9.1 J with J|J
    ·rw[p8.1 J];exact x4 ad
    ·exact ak x (List.mem_of_mem_drop J)
  ·rw[aT,←aC,yv (i:=i) (fun p bn x J=>?_) (by simpa using hi) (fun x J=>?_)]
   ·simp
   ·rw[x6] at J;cases Y:E[p]? with
    |none=>rw[Y] at J;cases J
    |some y=>rw[Y] at J;cases J;exact bo p bn y Y
   ·rw[x6] at J;cases Y:E[i]? with
    |none=>rw[Y] at J;cases J
    |some y=>rw[Y] at J;cases J;exact dh y Y
def HQ (w:x2) (f:bx) (v:x1) (w':x2):Prop:=Ext w w'∧ ∃ go E,aR cn 3 aS w' go v E∧(∀ h∈E,dr w' f.sizes h∧ ∀ r,leads h.aH r→w.heap.size≤r)∧E.map cK=ed f∧ ∀ r,leadsTo v r→w.heap.size≤r
def iH (k:Int) (sc cs:List Int) (h:bU):bU:=if h.1=sc then (h.1,cZ k h.2 cs) else h
set_option maxHeartbeats 8000000 in
theorem HR {N:Nat} {w:x2} {bX:Nat} {f:bx} (cU:kP w bX f) (am:dP N f):ah x5 AZ [.pointer (some ⟨bX,0,none⟩)] w (HQ w f):=by
 have eb:=am.k;obtain⟨au,ec,aW,ed,bk,bY,cV⟩:=id cU;obtain⟨bZ,bl,cW,cX⟩:=id cV;refine aq func165 ?_;rw[ax,ae cM.p rfl,V (by kernel_rfl) (bk.cell (o:=0+3) rfl),dK cH.u bl];refine bM.range bZ.length (fun i l Y=>∃ g L,Ext w Y∧h4 Y w.heap.size g l f.sizes L∧L.map cK=dx f i) bl.le
  ⟨0,[],Ext.refl _,⟨aR.nil _ _ _ _ _,fun h Z=>(by cases Z),fun i j x y J=>(by simp at J),fun r E=>(dp E).elim⟩,rfl⟩ ?_ ?_
 rotate_left
 ·rintro l Y cY ⟨g,L,av,E,aw⟩;rw[←cW,xP] at aw;rw[ao,aa];refine⟨fun h=>by omega,fun _=>HP am E aw fun out w' go c0 J bm c1 ay c2 c3=>?_⟩;have c4:=av.size;exact⟨av.trans J,go,c0,bm,fun h Z=>⟨ay h Z,(E.2.1 h (c1 h Z)).2⟩,c2,fun r E=>by have:=c3 r E;omega⟩
 rintro i l Y cY hi ⟨g,L,av,E,aw⟩ c5;obtain⟨bn,b1⟩:∃ d,bZ[i]? =some d:=⟨_,y0 hi⟩;obtain⟨x,bo⟩:∃ x,f.funs[i]? =some x:=⟨_,y0 (by omega)⟩;have bp:=x4 bo;have bq:=cX i bn x b1 bo;have b2:=lM am bp;obtain⟨c7,ee,eg⟩:=xO am i;have b4:L.length=(dx f i).length:=by rw[←aw,u7]
 have eh:=am.iu;have b7:=bl.ext av;rw[ao,aa];refine⟨fun _=>?_,fun h=>by omega⟩;refine aL (fun l' br=>∃ g L,Ext w br∧h4 br w.heap.size g l' f.sizes L∧L.map cK=dx f (i+1)) ?_ ?_
 ·rintro l' br bt;rw[aF];exact c5 _ _ bt
 intro ei b8;rw[cr rfl cH.u aK.i b7 hi,bj aK.p aK.i rfl (b7.range b1)];refine bi aK.i fun aJ ej ek c8 c9=>?_;refine bP (vs:=dF bn) aK.i rfl rfl bq.one c9 fun da db em dc=>?_;have b9:Ext Y da:=c8.then db fun r E he=>by have he:r=aJ:=he;omega
 have en:=b9.size;refine aL (fun dd aX=>∃ W c,dd= .pointer (some ⟨W,0,none⟩)∧Ext Y aX∧ad aX W aS (cn c)∧c.sc=aV x.scope∧c.cs=(fC f.sizes f.k x).2∧dr aX f.sizes c∧Y.heap.size≤W∧ ∀ r,leads c.aH r→Y.heap.size≤r) ?_ ?_
 rotate_left
 ·intro eo ca;intro de cb _ _;have aY:=b9.trans cb;have aZ:=av.trans aY;have df:=dc.ext cb;have cc:=bk.ext aZ;have ep:=aY.size;rw[bj aK.p aK.i rfl (show de.rangeAt aJ 0 (dF bn) from df.range),ax,ae cM.p rfl,V (v:=au) (by kernel_rfl) (cc.cell (o:=0+2) rfl),ax,ae cM.p rfl,V (v:=.int .i64 f.k) (by kernel_rfl) (cc.cell (o:=0+1) rfl)];refine⟨?_,?_⟩
  ·refine (yr (bq.ext aZ) am bp (bY.ext aZ)).mono ?_;rintro _ er _ ⟨bu,c,rfl,h1,bz,ay,ai⟩;refine bi aS.i fun W es cd bA a2=>?_;refine⟨.inl (bu.trans bA),?_⟩;refine bP (vs:=cn c) aS.i rfl rfl ay.one a2 fun et ce eu dg=>?_;have ev:=bu.size;refine ca _ _ ⟨W,c,rfl,(aY.trans bu).trans (bA.then ce fun r E he=>by have he:r=W:=he;omega),dg,h1,bz,?_,by omega,fun r E=>by have:=ai r E;omega⟩;exact jl (ay.ext bA) ce fun r E=>.inl ⟨_,_,by have E:r=W:=E;subst E;exact a2,by decide,by decide⟩
  ·refine bi aS.i fun W ey cd a6 a2=>?_;refine⟨.inl a6,?_⟩;have cg:=aZ.trans a6;refine (yr (bq.ext cg) am bp (bY.ext cg)).mono ?_;rintro _ ez _ ⟨ch,c,rfl,h1,bz,ay,ai⟩;have ci:=a2.ext ch;have eA:=a6.size;refine bP (vs:=cn c) aS.i rfl rfl ay.one ci fun eB cj eC dh=>?_;refine ca _ _ ⟨W,c,rfl,aY.trans ((a6.trans ch).then cj fun r E he=>by have he:r=W:=he;omega),dh,h1,bz,?_,by omega,fun r E=>by have:=ai r E;omega⟩;exact jl ay cj fun r E=>.inl ⟨_,_,by have E:r=W:=E;subst E;exact ci,by decide,by decide⟩
 rintro _ aX ⟨W,c,rfl,bB,di,aM,a7,dj,cd,ai⟩;have ck:=E.ext bB;have dl:∀ h∈L,∀ r,leads h.aH r→r<Y.heap.size:=fun h Z r dm=>by
  obtain⟨⟨_,_,dn,cl⟩,_⟩:=E.2.1 h Z;have:=bw cl dm;omega
 have dq:∀ {j:Nat},decide (c.sc∈(L.take j).map (·.sc))=decide (aV x.scope∈((dx f i).take j).map (·.1)):=fun {j}=>by
  rw[aM,←aw,←List.map_take,List.map_map];rfl
 have c4:=av.size;rw[dK b5.u ck.1];refine bM.range L.length (fun j aW ak=>∃ O,aW= .bool (decide (c.sc∈(L.take j).map (·.sc)))∧Ext w ak∧Y.heap.size≤ak.heap.size∧h4 ak w.heap.size g l f.sizes O∧O.map cK=((dx f i).map (iH f.k c.sc c.cs)).take j++(dx f i).drop j∧ad ak W aS (cn c)∧dr ak f.sizes c∧ ∀ h∈O,∀ r,leads h.aH r→r<Y.heap.size) E.1.le
  ⟨L,by simp,av.trans bB,bB.size,ck,by simpa using aw,di,dj,dl⟩ ?_ ?_
 ·rintro j _ ak ds cm ⟨O,rfl,aO,dt,a8,af,bC,bD,az⟩ du;have dv:O.length=L.length:=by
   have:=congrArg X7 af;simp only[u7,r8,o5,List.length_drop] at this;omega
  obtain⟨h,Z⟩:∃ h,O[j]? =some h:=⟨_,y0 (by omega)⟩;have ba:(dx f i)[j]? =some (cK h):=by
   have cp:(O.map cK)[j]? =some (cK h):=by rw[x6,Z];rfl
   rw[af,yu (by rw[u7];omega)] at cp;exact cp
  have bb:((dx f i).map (iH f.k c.sc c.cs))[j]? =some (iH f.k c.sc c.cs (cK h)):=by rw[x6,ba];rfl
  have dw:∃ y,L[j]? =some y∧y.sc=h.sc:=by
   refine⟨_,y0 cm,?_⟩;rw[←aw,x6,y0 cm] at ba;exact congrArg Prod.fst (j5 ba)
  obtain⟨y,ac,dy⟩:=dw;have bE:(c.sc∈(L.take (j+1)).map (·.sc))↔c.sc∈(L.take j).map (·.sc)∨h.sc=c.sc:=by
   rw[u4,ac,l9,o9,p9,List.map_singleton,p8,dy];exact or_congr Iff.rfl ⟨fun e=>e.symm,fun e=>e.symm⟩
  have cq:ef f.sizes f.k (cK h):=c7 _ (x4 ba);rw[ao,aa];refine⟨fun _=>?_,fun h=>by omega⟩;refine aL (fun aW al=>∃ O,aW= .bool (decide (c.sc∈(L.take (j+1)).map (·.sc)))∧Ext w al∧Y.heap.size≤al.heap.size∧h4 al w.heap.size g l f.sizes O∧O.map cK=((dx f i).map (iH f.k c.sc c.cs)).take (j+1)++(dx f i).drop (j+1)∧ad al W aS (cn c)∧dr al f.sizes c∧ ∀ h∈O,∀ r,leads h.aH r→r<Y.heap.size) ?_ ?_
  ·rintro eD al bt;rw[aF];exact du _ _ bt
  intro eE ct;intro dz aP _ _;have bc:=a8.ext aP;have cu:=bC.ext aP;have cw:=bD.ext aP;obtain⟨dA,eF⟩:=bc.2.1 h (x4 Z);obtain⟨⟨eH,h1⟩,_,dn,cl⟩:=id dA;obtain⟨⟨eI,dC⟩,_,eJ,cz⟩:=id cw;rw[cr rfl b5.u aS.i bc.1 (by omega),ae aS.p rfl,V (v:=h.aN) (by kernel_rfl) (bc.1.range Z 0 _ rfl),ae aS.p rfl,V (v:=c.aN) (by kernel_rfl) (cu.cell (o:=0+0) rfl)];refine (Df h1.ls dC.ls).mono ?_;rintro _ eK _ ⟨rfl,aC⟩;have cA:=bc.ext aC;have bF:=cu.ext aC;have cB:=cw.ext aC;have cC:=(aO.trans aP).trans aC;have z9:=(aP.trans aC).size;rw[aa];refine⟨fun bG=>?_,fun cD=>?_⟩
  rotate_left
  ·refine ct _ _ ⟨O,?_,cC,by omega,cA,?_,bF,cB,az⟩
   ·congr 1;exact decide_eq_decide.2 ⟨fun h=>bE.2 (.inl h),fun h=>(bE.1 h).resolve_right cD⟩
   ·have e:iH f.k c.sc c.cs (cK h)=cK h:=if_neg cD;rw[e] at bb;rw[←r3 (by omega) bb,←af];symm;refine Y4 fun p=>?_;rw[Y0];by_cases aQ:j=p
    ·subst aQ;rw[if_pos rfl,if_pos (by simp;omega),x6,Z];rfl
    ·rw[if_neg aQ]
  have dD:h.cs.length=c.cs.length:=by
   have dE:h.cs.length=_:=cq.len;have dG:c.cs.length=(aD (bI f.sizes (fC f.sizes f.k x).1)).toNat:=by rw[a7];exact b2.len
   rw[dE,dG,show (cK h).1=h.sc from rfl,bG,aM];rfl
  have eL:(cZ f.k h.cs c.cs).length=h.cs.length:=by unfold cZ;rw[List.length_zipWith];omega
  rw[ae aS.p rfl,V (v:=c.aH) (by kernel_rfl) (bF.cell (o:=0+2) rfl),aI ap.u (cz.ext aC).ls];refine bV.range c.cs.length (fun s aA=>Ext w aA∧Y.heap.size≤aA.heap.size∧h4 aA w.heap.size g l f.sizes (O.set j {h with cs:=(cZ f.k h.cs c.cs).take s++h.cs.drop s})∧ad aA W aS (cn c)∧dr aA f.sizes c) cz.ls.le
   ⟨cC,by omega,?_,bF,cB⟩ ?_ ?_
  ·have e:O.set j {h with cs:=(cZ f.k h.cs c.cs).take 0++h.cs.drop 0}=O:=by
    refine Y4 fun p=>?_;rw[Y0];by_cases aQ:j=p
    ·subst aQ;rw[if_pos rfl,if_pos (by omega),Z];rfl
    ·rw[if_neg aQ]
   rw[e];exact cA
  ·rintro s aA dH bH ⟨bK,cE,bd,bL,bN⟩ dI;rw[ao,aa];refine⟨fun _=>?_,fun h=>by omega⟩;intro eM aT _ _;have aE:=bd.ext aT;have cF:=bL.ext aT;have cG:=bN.ext aT;have cI:=bK.trans aT;have be:(O.set j {h with cs:=(cZ f.k h.cs c.cs).take s++h.cs.drop s})[j]? =some {h with cs:=(cZ f.k h.cs c.cs).take s++h.cs.drop s}:=by
    rw[Y0,if_pos rfl,if_pos (by omega)]
   have cJ:j<(O.set j {h with cs:=(cZ f.k h.cs c.cs).take s++h.cs.drop s}).length:=by rw[X4];omega
   obtain⟨⟨_,_,dJ,bO⟩,dL⟩:=aE.2.1 _ (x4 be);obtain⟨_,_,eN,dM⟩:=id cG;obtain⟨a,bQ⟩:∃ a,h.cs[s]? =some a:=⟨_,y0 (by omega)⟩;obtain⟨b,aU⟩:∃ b,c.cs[s]? =some b:=⟨_,y0 bH⟩;have dN:s<({h with cs:=(cZ f.k h.cs c.cs).take s++h.cs.drop s}:dQ).cs.length:=by show s<((cZ f.k h.cs c.cs).take s++h.cs.drop s).length;rw[r8,o5,List.length_drop];omega
   have dO:((cZ f.k h.cs c.cs).take s++h.cs.drop s)[s]? =some a:=by rw[yu (by omega)];exact bQ
   have bR:(cZ f.k h.cs c.cs)[s]? =some (min (a+b) f.k):=by
    unfold cZ;rw[List.getElem?_zipWith,bQ,aU]
   have eO:=cq.hZ a (x4 bQ);have eP:=b2.hZ b (by rw[←a7];exact x4 aU);have dR:=bk.ext cI;rw[cr rfl b5.u aS.i aE.1 cJ,ae aS.p rfl,V (v:=h.aH) (by kernel_rfl) (aE.1.range be 2 _ rfl),cr rfl b5.u aS.i aE.1 cJ,ae aS.p rfl,V (v:=h.aH) (by kernel_rfl) (aE.1.range be 2 _ rfl),a1 ap.u aj.i (by kernel_rfl) bO.ls dO,ae aS.p rfl,V (v:=c.aH) (by kernel_rfl) (cF.cell (o:=0+2) rfl),a1 ap.u aj.i (by kernel_rfl) dM.ls aU,ax,ae cM.p rfl,V (v:=.int .i64 f.k) (by kernel_rfl) (dR.cell (o:=0+1) rfl)];refine (DU (by omega) (by omega)).mono ?_;rintro _ eQ _ ⟨rfl,aG⟩;refine⟨.inl aG,?_⟩;have z12:=(aT.trans aG).size;refine HM (h:={h with cs:=(cZ f.k h.cs c.cs).take s++h.cs.drop s}) (aE.ext aG) be dN fun eR bf cL bS=>?_;rw[aF];have dS:=cG.ext aG;have cN:=cF.ext aG;have eS:=bf.size;refine dI _ ⟨(cI.trans aG).then bf fun r E he=>by have:=dL r he;omega,by omega,?_,?_,?_⟩
   ·rw[List.set_set] at bS;have e:=r3 (A:=cZ f.k h.cs c.cs) (B:=h.cs) (s:=s) (by omega) bR;simp only[e] at bS;exact bS
   ·exact cN.U bf fun bH=>by
     obtain⟨eT,dT⟩:=cL _ bH;exact absurd (ew cN dT) (by decide)
   ·refine jl dS bf fun r E=>.inr (.inr ⟨cL r E,fun dU=>?_⟩);have:=ai r dU;have:=az h (x4 Z) r E;omega
  ·rintro aA dH ⟨bK,cE,bd,bL,bN⟩;rw[ao,aa];refine⟨fun h=>by omega,fun _=>?_⟩;have e:(cZ f.k h.cs c.cs).take c.cs.length++h.cs.drop c.cs.length=cZ f.k h.cs c.cs:=by
    rw[←dD,List.drop_length,V4,b6 (by omega)]
   simp only[e] at bd;refine ct _ _ ⟨_,?_,bK,cE,bd,?_,bL,bN,fun z X r E=>?_⟩
   ·congr 1;symm;exact decide_eq_true (bE.2 (.inr bG))
   ·have dV:iH f.k c.sc c.cs (cK h)=cK {h with cs:=cZ f.k h.cs c.cs}:=if_pos bG;rw[dV] at bb;rw[List.map_set,af,r3 (by omega) bb]
   ·rcases V2 X with X|rfl
    ·exact az z X r E
    ·exact az h (x4 Z) r E
 rintro _ ak ds ⟨O,rfl,aO,dt,a8,af,bC,bD,az⟩;rw[ao,aa];refine⟨fun h=>by omega,fun _=>?_⟩;rw[dq,b4,o3,bJ,b3];have cO:=rJ bo;have bR:((dx f i).map (iH f.k c.sc c.cs)).take L.length++(dx f i).drop L.length=(dx f i).map (iH f.k c.sc c.cs):=by
  rw[b4,List.drop_length,V4,b6 (by rw[u7];exact u9 _)]
 rw[bR] at af;have dv:O.length=L.length:=by
  have:=congrArg X7 af;rw[u7,u7] at this;omega
 refine⟨fun bg=>?_,fun ag=>?_⟩
 ·have bg:aV x.scope∉(dx f i).map (·.1):=by simpa using bg
  have dW:(dx f i).map (iH f.k c.sc c.cs)=dx f i:=by
   refine (List.map_congr_left fun z X=>?_).trans (List.map_id _);exact if_neg fun he=>bg (o6.2 ⟨z,X,by rw[he,aM]⟩)
  rw[dW] at af;rw[bj aS.p aS.i rfl (show ak.rangeAt W 0 (cn c) from bC.range)];refine eV (f:=cn) (k:=3) (a:=c) b5.u aS.i (by omega) rfl rfl fun eU dJ al eW bh bO=>?_;have aB:=a8.ext bh;have cP:=bD.ext bh;refine e9 (f:=cn) (a:=c) b5.u aS.i rfl aB.1 (by simpa using bO.sl) cP.one (by omega) (by omega) fun eX dX dz bm dY bT=>?_;have cQ:∀ r,leadsTo l r→ ∃ e c,ad al r e c∧e≠ab∧e≠aj:=fun r E=>by
   obtain⟨rfl,c,aU⟩:=dk aB.1 E;exact⟨_,c,aU,by decide,by decide⟩
  have eY:=bh.size;have eZ:=aO.size;refine b8 _ _ ⟨dX,O++[c],(aO.trans bh).then bT fun r E he=>by have:=aB.2.2.2 r he;omega,⟨bm,fun z X=>?_,fun p q y z ac X dZ r bU bW=>?_,fun r E=>(dY r E).elim (aB.2.2.2 r) fun h=>by omega⟩,?_⟩
  ·rcases p9.1 X with X|X
   ·exact⟨jl (aB.2.1 z X).1 bT fun r E=>.inl (cQ r E),(aB.2.1 z X).2⟩
   ·rw[p8.1 X];exact⟨jl cP bT fun r E=>.inl (cQ r E),fun r E=>by have:=ai r E;omega⟩
  ·have cR:∀ {p:Nat} {y:dQ},(O++[c])[p]? =some y→O[p]? =some y∨(p=O.length∧y=c):=fun {p y} ac=>by
    rw[List.getElem?_append] at ac;split at ac
    ·exact .inl ac
    ·by_cases ea:p-O.length=0
     ·rw[ea] at ac;cases ac;exact .inr ⟨by omega,rfl⟩
     ·rw[c6 (by simp;omega)] at ac;cases ac
   rcases cR ac with cS|⟨e0,rfl⟩ <;> rcases cR X with cT|⟨eq,rfl⟩
   ·exact aB.2.2.1 p q y z cS cT dZ r bU bW
   ·have:=az y (x4 cS) r bU;have:=ai r bW;omega
   ·have:=az z (x4 cT) r bW;have:=ai r bU;omega
   ·omega
  ·rw[o9,af,cO,xN fun z X he=>bg (o6.2 ⟨z,X,he⟩)];show _++[(c.sc,c.cs)]=_;rw[aM,a7];rfl
 ·have ag:aV x.scope∈(dx f i).map (·.1):=by simpa using ag
  refine b8 _ _ ⟨g,O,aO,a8,?_⟩;rw[af,cO];unfold fV;rw[if_pos (show (fC f.sizes f.k x).1∈_ from ag)];refine List.map_congr_left fun z _=>?_;unfold iH;rw[aM,a7];rfl
end Go.Proofs.YtgbkinibgjmodaaGreatDoor
