/- own texts, made small by a tool (wip/ holds them as they were written): no statement of the seat. -/
import Derived.Test.YtgbkinibgjmodaaGreatDoorZc
set_option linter.unusedVariables false
set_option linter.unusedSimpArgs false
set_option linter.unnecessarySimpa false
open Array renaming getElem?_eq_some_iff→l7,getElem?_toList→T5
open BitVec renaming ofInt→V6
open Bool renaming not_true→Y4,not_false→X4,eq_iff_iff→V1,and_eq_true→V5,or_eq_false_iff→T3
open Decidable renaming not_not→Y9
open Go renaming Value→x1,World→x2,TypeId→r8,IntKind→o4,Builtin→n0,Program→X5,Oper→U2,Operand→T0
open Go.Addr renaming add_mid→U4
open Go.Builtin renaming append_→l9,len_→Z5
open Go.Instr renaming loadAt→x6,fieldAt→x7,storeAt→o3,indexAt→o6,extract→j6,buildSlice→Z4,sliceAt→X6,alloc→T7
open Go.IntKind renaming i64→Y0,u64→U1
open Go.Proofs.Tryz renaming prog→x3
open Go.Result renaming andThen→X3
open Go.Sem renaming run_bind→X2,run_pure→X8
open Go.Sort renaming Holds→T2
open Go.Value renaming int→W5
open Int renaming toNat_natCast→Z3
open List renaming getElem?_eq_getElem→y0,getElem?_eq_some_iff→x4,mem_of_getElem?→x5,getElem?_map→x8,getD_eq_getElem?_getD→u4,length_map→u5,take_add_one→u9,replicate→r9,length_append→o5,length_take→o8,take_length→o9,mem_append→n9,take_of_length_le→l5,mem_singleton→j0,length_cons→j4,mem_map→j5,map_append→b6,eq_nil_of_length_eq_zero→b8,getElem?_take_of_lt→Z6,getElem?_append_left→Z7,getElem?_append_right→Z8,getElem?_eq_none→Z9,mem_iff_getElem?→Y2,getElem?_set→Y5,length_set→Y6,ext_getElem?→Y8,length_eq_one_iff→X1,range→X7,mem_or_eq_of_mem_set→X9,drop_eq_getElem_cons→W0,getElem?_set_ne→W3,getElem?_set_self→W8,flatMap_cons→W9,pairwise_iff_getElem→V3,append_assoc→V7,set_append_right→V8,append_nil→V9,map_set→U3,mem_cons→U5,length_singleton→U8,map_cons→T4,getElem_mem→T6,length→T9
open List.cons renaming inj→T8
open Nat renaming le_refl→o7,zero_le→Y7,mul_le_mul_right→X0,zero_add→W6,le_trans→W7,sub_self→V2,add_mul→V4,beq→U6,mul_one→T1
open Option renaming some→j9,toList_some→Z0,isNone_some→Z1,map_some→Z2,map_eq_some_iff→Y1,map→V0,getD_some→U7
open Option.some renaming inj→b9,injEq→Y3
open Prod.mk renaming injEq→U9
variable {w w':x2}{B N ah aj j:Nat}{k n y:Int}{J aq sv v x z:x1}{K:x1→Prop}{all l pl sizes:List Int}{S:Nat→Prop}{t:r8}
namespace Go.Proofs.YtgbkinibgjmodaaGreatDoor
open Go Go.Vc Go.RowKit Go.Proofs Go.Proofs.Tryz
set_option maxRecDepth 100000
theorem zs {A:ag} {t:aH} (h:cV w ah A t):af x3 C3 [.pointer (some ⟨ah,0,none⟩)] w fun v w'=>v= .int .i64 (t.cells.length:Int)∧Ext w w':=by
 obtain⟨J,O,go,U,aG,W,cN,h1,I,Y,ab,ac⟩:=h;refine az func225 ?_;rw[cI nD.u];simp only[Z1,aP];rw[aw,V eK.p rfl,aa (by kernel_rfl) (h1.cell (o:=0+0) rfl),ef gE.u I];exact⟨rfl,Ext.refl _⟩
theorem zt {A:ag} {t:aH} {i:Int} (h:cV w ah A t):af x3 Cv [.pointer (some ⟨ah,0,none⟩),.int .i64 i] w fun v w'=>v= .bool (decide (0≤i∧i<t.cells.length))∧Ext w w':=by
 refine az func166 ?_;refine aM (fun v J=>v= .bool (decide (0≤i∧i<t.cells.length))∧Ext w J) (fun _ _ h=>h) ?_;intro V I;rw[cm,ab];refine⟨fun O=>?_,fun O=>I _ _ ⟨by rw[decide_eq_false];omega,Ext.refl _⟩⟩;refine (zs h).mono ?_;rintro _ J _ ⟨rfl,U⟩;rw[an];refine I _ _ ⟨?_,U⟩;congr 1;rw[V1,decide_eq_true_eq,decide_eq_true_eq];exact⟨fun h=>⟨by omega,h⟩,fun h=>h.2⟩
theorem Ij {A:ag} {t:aH} {i:Nat} {c:Cell} (h:cV w ah A t) (W:y=(i:Int)) (I:t.cells[i]? =some c):af x3 vE [.pointer (some ⟨ah,0,none⟩),.int .i64 y] w fun v w'=>v= .int .i64 c.v∧Ext w w':=by
 have Y:=(x4.1 I).1;refine az func74 ?_;refine (zt h).mono ?_;rintro _ J _ ⟨rfl,O⟩;rw[decide_eq_true (by omega),bc,Y4,aP];obtain⟨ab,ac,go,ad,aG,ae,cN,h1,U,ai,aj,ak⟩:=h.ext O;rw[aw,V eK.p rfl,aa (by kernel_rfl) (h1.cell (o:=0+0) rfl),cT W gE.u dN.i U Y,V dN.p rfl,aa (by kernel_rfl) (U.range I 0 _ rfl)];exact⟨rfl,O⟩
theorem lM {A:ag} {t:aH} {i:Nat} {x:Int} (h:cV w ah A t) (J:y=(i:Int)) (I:t.bW[i]? =some x):af x3 vE [.pointer (some ⟨ah,0,none⟩),.int .i64 y] w fun v w'=>v= .int .i64 x∧Ext w w':=by
 unfold aH.bW at I;rw[x8] at I;obtain⟨c,O,rfl⟩:=Y1.1 I;exact Ij h J O
def jn (t:aH):Prop:=t.cells.length≤100000000∧t.olds.length≤100000000∧t.marks.length≤100000000
theorem qV {Y go aa:Nat} {aG I cN:x1} {t:aH} (h1:ae w ah eK [aG,I,cN,x]) (O:a1 gQ 2 dN w Y aG t.cells) (U:a1 lK 3 iW w go I t.olds) (V:a1 lL 3 fb w aa cN t.marks):
  (¬leadsTo aG ah∧¬leadsTo I ah∧¬leadsTo cN ah)∧(∀ r,leadsTo aG r→¬leadsTo I r∧¬leadsTo cN r)∧ ∀ r,leadsTo I r→¬leadsTo aG r∧¬leadsTo cN r:=by
 refine⟨⟨cb O h1 (by decide),cb U h1 (by decide),cb V h1 (by decide)⟩,fun r W=>?_,fun r W=>?_⟩
 ·obtain⟨rfl,c,J⟩:=c9 O W;exact⟨cb U J (by decide),cb V J (by decide)⟩
 ·obtain⟨rfl,c,J⟩:=c9 U W;exact⟨cb O J (by decide),cb V J (by decide)⟩
set_option maxHeartbeats 4000000 in
theorem oD {A:ag} {t:aH} {i:Nat} {x:Int} (h:cV w ah A t) (bM:y=(i:Int)) (aF:i<t.cells.length) (a2:jn t):af x3 vD [.pointer (some ⟨ah,0,none⟩),.int .i64 y,.int .i64 x] w fun v w'=>v= .int .i64 0∧ ∃ Y,Grow A w Y w'∧cV w' ah Y (t.set i x):=by
 subst bM;obtain⟨c,aq⟩:∃ c,t.cells[i]? =some c:=⟨_,y0 aF⟩;refine az func73 ?_;rw[cI nD.u];simp only[Z1,aP];refine (zt h).mono ?_;rintro _ J _ ⟨rfl,aA⟩;rw[decide_eq_true (by omega),bc,Y4,aP];obtain⟨bo,aB,go,aC,aG,aI,cN,h1,bp,a6,aR,aS⟩:=id (h.ext aA);have bO:∀ {W:x2} {Y:ag} {ai:aH} {st:Nat} {K:x2→Prop},cV W ah Y ai→ai.cells[i]? =some ⟨c.v,st⟩→
   (∀ ac,ad Y W ac→cV ac ah Y {ai with cells:=ai.cells.set i ⟨x,st⟩}→K ac)→
   (I x3 (aX (.pointer (some ⟨ah,0,none⟩))) W fun t77=>
   I x3 (x7 eK t77 0) W fun bP=>
   I x3 (x6 gE bP) W fun bQ=>
   I x3 (o6 gE bQ (.int .i64 (i:Int))) W fun bR=>
   I x3 (x7 dN bR 0) W fun bS=>
   ax x3 (o3 ak bS (.int .i64 x)) W fun(_:Unit) ac=>
   K ac):=by
  intro W Y ai st K a7 aT bT;obtain⟨a8,aB,go,aC,aG,aI,cN,au,av,aJ,aK,aL⟩:=a7;have bU:=(x4.1 aT).1;rw[aw,V eK.p rfl,aa (by kernel_rfl) (au.cell (o:=0+0) rfl),cT rfl gE.u dN.i av bU,V dN.p rfl];obtain⟨⟨aN,ba,bb⟩,ay,_⟩:=qV au av aJ aK;refine mQ (f:=gQ) (j:=0) (a:=⟨c.v,st⟩) (a':=⟨x,st⟩) ak.i rfl rfl av aT rfl (by omega) fun ac ao bV bW=>?_;exact bT ac (ao.mono fun r _ U=>aL r (.inl U)) ⟨a8,aB,go,aC,aG,aI,cN,au.O ao aN,bW,aJ.O ao fun r U he=>(ay r he).1 U,aK.O ao fun r U he=>(ay r he).2 U,aL⟩
 refine c3 (fun W=>∃ Y ai st,Grow A J Y W∧cV W ah Y ai∧ai.cells[i]? =some ⟨c.v,st⟩∧t.set i x={ai with cells:=ai.cells.set i ⟨x,st⟩}) ?_ ?_
 ·rintro W ⟨Y,ai,st,bX,a7,aT,bd⟩;refine bO a7 aT fun ac ao a6=>⟨by trivial,Y,?_,by rw[bd];exact a6⟩;exact (Grow.ext aA).trans (bX.trans ⟨ao,fun _ h=>.inl h,fun _ h=>h⟩)
 intro cj be;rw[aw,V eK.p rfl,aa (by kernel_rfl) (h1.cell (o:=0+2) rfl),ef pQ.u aR,bA,ab];have bq:∀ (hm:t.marks.getLast? =none∨ ∃ m,t.marks.getLast? =some m∧¬(c.st<m.st∧i<m.cells)),t.set i x={t with cells:=t.cells.set i ⟨x,c.st⟩}:=fun hm=>by
  unfold aH.set;rw[aq];rcases hm with hm|⟨m,hm,bY⟩
  ·simp only[hm]
  ·simp only[hm];rw[if_neg bY]
 refine⟨fun ck=>?_,fun cl=>be _ ⟨A,t,c.st,Grow.refl _ _,h.ext aA,aq,bq (.inl ?_)⟩⟩
 rotate_left
 ·rw[List.getLast?_eq_none_iff];exact b8 (by omega)
 obtain⟨m,hm⟩:∃ m,t.marks[t.marks.length-1]? =some m:=⟨_,y0 (by omega)⟩;have br:t.marks.getLast? =some m:=by rw[List.getLast?_eq_getElem?];exact hm
 have cm:=a2.2.2;rw[aw,V eK.p rfl,aa (by kernel_rfl) (h1.cell (o:=0+2) rfl),dd,wrap_i64 (by omega) (by omega),cT (i:=t.marks.length-1) (by omega) pQ.u fb.i aR (by omega),bw fb.p fb.i rfl (aR.range hm)];refine bu fb.i fun al W cn bt bZ=>?_;refine bN (vs:=lL m) fb.i rfl rfl (by intro v aO;simp[lL] at aO;rcases aO with rfl|rfl|rfl <;> rfl) bZ fun ac ao bV b0=>?_;have bx:Ext J ac:=bt.then ao (fun r U he=>by have he:r=al:=he;omega);have aU:∀ {w':x2},Ext ac w'→ae w' al fb (lL m):=fun aA=>b0.ext aA;refine aM (fun v bf=>v= .bool (decide (c.st<m.st∧i<m.cells))∧Ext ac bf) ?_ ?_
 rotate_left
 ·intro cp bz;intro bf aj _ _;have aD:=bx.trans aj;have bB:=aU aj;have aE:=bp.ext aD;rw[aw,V eK.p rfl,aa (by kernel_rfl) ((h1.ext aD).cell (o:=0+0) rfl),cT rfl gE.u dN.i aE aF,V dN.p rfl,aa (by kernel_rfl) (aE.range aq 1 _ rfl),V fb.p rfl,aa (by kernel_rfl) (bB.cell (o:=0+2) rfl),an,ab];refine⟨fun bC=>?_,fun bD=>bz _ _ ⟨by rw[decide_eq_false];omega,aj⟩⟩;rw[V fb.p rfl,aa (by kernel_rfl) (bB.cell (o:=0+1) rfl),an];refine bz _ _ ⟨?_,aj⟩;congr 1;rw[V1,decide_eq_true_eq,decide_eq_true_eq];exact⟨fun h=>⟨by omega,by omega⟩,fun h=>by omega⟩
 rintro _ bf ⟨rfl,aj⟩;have aD:=bx.trans aj;rw[ab];refine⟨fun bC=>?_,fun bD=>be _ ⟨A,t,c.st,Grow.ext aD,(h.ext aA).ext aD,aq,bq (.inr ⟨m,br,bD⟩)⟩⟩;intro cq aV _ _;have aQ:=aD.trans aV;have bg:=h1.ext aQ;have aE:=bp.ext aQ;have b1:=a6.ext aQ;have b2:=aR.ext aQ;rw[aw,V eK.p rfl,aa (by kernel_rfl) (bg.cell (o:=0+1) rfl),aw,V eK.p rfl,aa (by kernel_rfl) (bg.cell (o:=0+0) rfl),cT rfl gE.u dN.i aE aF,bw dN.p dN.i rfl (aE.range aq)];rw[cH (cs:=#[.int .i64 (i:Int),.int .i64 c.v,.int .u64 (c.st:Int)]) (by kernel_rfl)];let a:jb:=⟨i,c⟩;have b3:∀ u∈lK a,u.oneCell'=true:=by intro v aO;simp[lK] at aO;rcases aO with rfl|rfl|rfl <;> rfl
 refine gp (f:=lK) (a:=a) la.u iW.i (by omega) rfl rfl fun cr ct bE cu am b4=>?_;refine⟨.inl am,?_⟩;have bF:=aQ.trans am;have bh:=bg.ext am;have bG:=aE.ext am;have bi:=b1.ext am;have bH:=b2.ext am;obtain⟨⟨aN,ba,bb⟩,ay,b5⟩:=qV bh bG bi bH;refine gN (f:=lK) (a:=a) la.u iW.i rfl bi (by simpa using b4.sl) b3 (by have:=a2.2.1;omega) (by have:=a2.2.1;omega) fun bj bI cw aW b6 bJ=>?_;rw[aw,V eK.p rfl];have bK:=bh.O bJ ba;refine bl la.i (dD aW.sl).1 (dD aW.sl).2 bK (by simp) fun ap bL cz bk=>?_;have bk:ae ap ah eK [aG,bj,cN,.int .u64 (t.kI:Int)]:=bk;have aY:ad (fun r=>leadsTo aI r∨r=ah) bE ap:=(bJ.mono fun r _ h=>.inl h).trans (bL.mono fun r _ h=>.inr h);have b7:a1 gQ 2 dN ap aB aG t.cells:=bG.O aY fun r U he=>he.elim (fun he=>(ay r U).1 he) fun he=>aN (he▸U);have b9:a1 lL 3 fb ap aC cN t.marks:=bH.O aY fun r U he=>he.elim (fun he=>(b5 r he).2 U) fun he=>bb (he▸U);have ca:a1 lK 3 iW ap bI bj (t.olds++[a]):=aW.O bL fun r U he=>by
  have he:r=ah:=he;subst he;exact cb aW bK (by decide) U
 have cA:=bF.size;have cB:=bt.size;let bm:ag:=fun r=>A r∨bE.heap.size≤r;have cc:Grow A J bm ap:=⟨(bF.O A).trans (aY.mono fun r _ he=>he.elim (fun he=>aS r (.inr (.inl he))) fun he=>he▸bo),fun r U=>U.imp id fun U=>by omega,fun r U=>.inl U⟩;have cd:cV ap ah bm {t with olds:=t.olds++[a]}:=⟨.inl bo,aB,bI,aC,aG,bj,cN,bk,b7,ca,b9,fun r U=>by
  rcases U with U|U|U
  ·exact .inl (aS r (.inl U))
  ·rcases b6 r U with h|h
   ·exact .inl (aS r (.inr (.inl h)))
   ·exact .inr h
  ·exact .inl (aS r (.inr (.inr U)))⟩
 have ce:ae ap al fb (lL m):=(aU ((aj.trans aV).trans am)).O aY fun he=>by
  rcases he with he|he
  ·obtain⟨rfl,cC,cg⟩:=c9 bi he;exact absurd (ei cg (aU ((aj.trans aV).trans am))) (by decide)
  ·subst he;exact absurd (ei bh (aU ((aj.trans aV).trans am))) (by decide)
 intro cD bn _ _;have ch:=cd.ext bn;obtain⟨a8,aB,go,aC,aG,aI,cN,au,av,aJ,aK,aL⟩:=ch;rw[aw,V eK.p rfl,aa (by kernel_rfl) (au.cell (o:=0+0) rfl),V fb.p rfl,aa (by kernel_rfl) ((ce.ext bn).cell (o:=0+2) rfl),cT rfl gE.u dN.i av aF,V dN.p rfl];obtain⟨⟨aN,ba,bb⟩,ay,_⟩:=qV au av aJ aK;refine mQ (f:=gQ) (j:=1) (a:=c) (a':=⟨c.v,m.st⟩) eb.i rfl rfl av aq rfl (by omega) fun cE aZ cF ci=>?_;have bd:t.set i x={t with olds:=t.olds++[a],cells:=t.cells.set i ⟨x,m.st⟩}:=by
  unfold aH.set;rw[aq];simp only[br];rw[if_pos bC]
 refine be _ ⟨bm,{t with olds:=t.olds++[a],cells:=t.cells.set i ⟨c.v,m.st⟩},m.st,cc.trans ((Grow.ext bn).trans ⟨aZ.mono fun r _ U=>aL r (.inl U),fun _ h=>.inl h,fun _ h=>h⟩),⟨a8,aB,go,aC,aG,aI,cN,au.O aZ aN,ci,aJ.O aZ fun r U he=>(ay r he).1 U,aK.O aZ fun r U he=>(ay r he).2 U,aL⟩,?_,?_⟩
 ·show (t.cells.set i _)[i]? =_;rw[W8 aF]
 ·rw[bd];simp only[List.set_set]
theorem zu (n:Nat):de (#[.int .i64 0,.int .u64 0]:Array x1) (n*2)=(r9 n (⟨0,0⟩:Cell)).flatMap gQ:=by
 have:∀ n,de (#[.int .i64 0,.int .u64 0]:Array x1) (n*2)=(r9 n (⟨0,0⟩:Cell)).flatMap gQ:=by
  intro n;apply Y8;intro j;have U:((r9 n (⟨0,0⟩:Cell)).flatMap gQ).length=n*2:=by simp[gQ]
  by_cases J:j<n*2
  ·have O:(de (#[.int .i64 0,.int .u64 0]:Array x1) (n*2))[j]? =some (if j % 2=0 then .int .i64 0 else .int .u64 0):=by
    unfold de;rw[T5,Array.getElem?_map,Array.getElem?_range,if_pos J];rcases Nat.mod_two_eq_zero_or_one j with h|h <;> simp[h]
   have I:=mP (f:=gQ) (k:=2) (L:=r9 n (⟨0,0⟩:Cell)) (i:=j / 2) (j:=j % 2) (a:=⟨0,0⟩) (v:=if j % 2=0 then .int .i64 0 else .int .u64 0) (fun a _=>rfl) (by rw[List.getElem?_replicate,if_pos (by omega)]) (by rcases Nat.mod_two_eq_zero_or_one j with h|h <;> simp[h,gQ]);rw[show j / 2*2+j % 2=j by omega] at I;rw[O,I]
  ·rw[Z9 (by rw[mq];omega),Z9 (by omega)]
 exact this n
set_option maxHeartbeats 2000000 in
theorem Ik {A:ag} {t:aH} {n:Nat} (h:cV w ah A t) (aI:jn t) (aQ:n≤100000000):af x3 CH [.pointer (some ⟨ah,0,none⟩),.int .i64 (n:Int)] w fun v w'=>v= .int .i64 (t.cells.length:Int)∧ ∃ Y,Grow A w Y w'∧cV w' ah Y (t.grow n):=by
 refine az func192 ?_;refine (zs h).mono ?_;rintro _ J _ ⟨rfl,ac⟩;refine c3 (fun W=>∃ Y,Grow A w Y W∧cV W ah Y (t.grow n)) (fun W h=>⟨rfl,h⟩) ?_;intro aR an;refine aM (fun v W=>v= .bool (decide (0<n))∧J=W) ?_ ?_
 rotate_left
 ·intro aS aJ;rw[wi nD.u];simp only[Z1,X4,bC];rw[bA];refine aJ _ _ ⟨?_,rfl⟩;congr 1;rw[V1,decide_eq_true_eq,decide_eq_true_eq];omega
 rintro _ _ ⟨rfl,rfl⟩;rw[ab];refine⟨fun ao=>?_,fun ao=>an _ ⟨A,Grow.ext ac,?_⟩⟩
 rotate_left
 ·have:n=0:=by omega
  subst this;have e:t.grow 0=t:=by unfold aH.grow;simp
  rw[e];exact h.ext ac
 obtain⟨ap,aT,go,aK,aG,aq,cN,h1,au,av,ax,ai⟩:=id (h.ext ac);rw[aw,V eK.p rfl,aa (by kernel_rfl) (h1.cell (o:=0+0) rfl)];obtain⟨⟨aL,aN,aO⟩,ay,aU⟩:=qV h1 au av ax;have aV:=aI.1;refine Ii (k:=2) (m:=n) rfl gE.u U.u dN.i rfl (by omega) (fun u hu=>?_) au.1 ao (by omega) (by omega) fun ak aA W aB aP aC=>?_
 ·exact zd (by decide) (by decide) u hu
 rw[aw,V eK.p rfl];have aj:a1 gQ 2 dN W aA ak (t.cells++r9 n ⟨0,0⟩):=by
  refine⟨?_,fun _ _=>rfl⟩;have e:(x1.agg #[.int .i64 0,.int .u64 0]).cells= #[.int .i64 0,.int .u64 0]:=rfl;rw[e,zu] at aB;rw[o5,List.length_replicate,List.flatMap_append];exact aB
 have aD:=h1.O aC aL;refine bl gE.i (dD aj.sl).1 (dD aj.sl).2 aD (by simp) fun aE aF aW al=>?_;have al:ae aE ah eK [ak,aq,cN,.int .u64 (t.kI:Int)]:=al;have am:ad (fun r=>leadsTo aG r∨r=ah) J aE:=(aC.mono fun r _ h=>.inl h).trans (aF.mono fun r _ h=>.inr h);have z:=ac.size;refine an _ ⟨fun r=>A r∨J.heap.size≤r,(Grow.ext ac).trans ⟨am.mono fun r _ he=>he.elim (fun he=>ai r (.inl he)) fun he=>he▸ap,fun r I=>I,fun r I=>.inl I⟩,.inl ap,aA,go,aK,ak,aq,cN,al,aj.O aF fun r I he=>?_,av.O am fun r I he=>he.elim (fun he=>(ay r he).1 I) fun he=>aN (he▸I),ax.O am fun r I he=>he.elim (fun he=>(ay r he).2 I) fun he=>aO (he▸I),fun r I=>?_⟩
 ·have he:r=ah:=he;subst he;exact cb aj aD (by decide) I
 ·rcases I with I|I|I
  ·exact (aP r I).imp (fun h=>ai r (.inl h)) id
  ·exact .inl (ai r (.inr (.inl I)))
  ·exact .inl (ai r (.inr (.inr I)))
theorem Il {n:Nat} (aa:n≤1000):af x3 Cc [.int .i64 (n:Int)] w fun v w'=>Ext w w'∧ ∃ ah,v= .pointer (some ⟨ah,0,none⟩)∧cV w' ah (dV w.heap.size) ⟨r9 n ⟨0,0⟩,[],[],0⟩:=by
 refine az func127 ?_;rw[pU,Int.max_eq_left (by omega)];refine ws (k:=2) gE.u dN.i (by omega) (by omega) fun g J ab U O=>?_;rw[cH (cs:=#[.slice (some ⟨g,0,none⟩) n n,.slice none 0 0,.slice none 0 0,.int .u64 0]) (by kernel_rfl)];refine bL fun ah ac ad V Y=>?_;have ag:=U.size;have e:(x1.agg #[.int .i64 0,.int .u64 0]).cells= #[.int .i64 0,.int .u64 0]:=rfl;have O:ae J g dN ((r9 n (⟨0,0⟩:Cell)).flatMap gQ):=by rw[←zu,←e];exact O
 have W:a1 gQ 2 dN J g (.slice (some ⟨g,0,none⟩) n n) (r9 n ⟨0,0⟩):=by
  refine⟨?_,fun _ _=>rfl⟩;rw[List.length_replicate];exact bG.full O (by simp[gQ]) (by simp[maxLen];omega)
 refine⟨U.trans V,ah,rfl,by show w.heap.size≤ah;omega,g,0,0,_,_,_,Y,W.ext V,a1.nil _ _ _ _ _,a1.nil _ _ _ _ _,fun r I=>?_⟩;rcases I with I|I|I
 ·have:=(W.leads I).1;show w.heap.size≤r;omega
 ·exact (eC I).elim
 ·exact (eC I).elim
theorem ll {α β:Type} {f:α→List β}:∀ {L:List α} {i j:Nat} {a:α},L[i]? =some a→j<(f a).length→(L.flatMap f)[((L.take i).flatMap f).length+j]? =(f a)[j]?
 |x::L,0,j,a,h,I=>by
  cases h;rw[List.take_zero,List.flatMap_nil,List.length_nil,W6,W9,Z7 I]
 |x::L,i+1,j,a,h,I=>by
  have h:L[i]? =some a:=by simpa using h
  rw[List.take_succ_cons,W9,W9,o5,Nat.add_assoc,Z8 (by omega),Nat.add_sub_cancel_left,ll h I]
theorem tr {α β:Type} {f:α→List β}:∀ {L:List α} {i j:Nat} {a b:α} {x:β},L[i]? =some a→j<(f a).length→f b=(f a).set j x→(L.flatMap f).set (((L.take i).flatMap f).length+j) x=(L.set i b).flatMap f
 |y::L,0,j,a,b,x,h,I,J=>by
  cases h;rw[List.take_zero,List.flatMap_nil,List.length_nil,W6,W9,List.set_cons_zero,W9,J,List.set_append_left _ _ I]
 |y::L,i+1,j,a,b,x,h,I,J=>by
  have h:L[i]? =some a:=by simpa using h
  rw[List.take_succ_cons,W9,W9,o5,Nat.add_assoc,V8 _ _ (by omega),Nat.add_sub_cancel_left,tr h I J,List.set_cons_succ,W9]
theorem zv {α β:Type} {f:α→List β} {L:List α} {i:Nat} {a:α} (h:L[i]? =some a) (I:j<(f a).length):((L.take i).flatMap f).length+j<(L.flatMap f).length:=by
 have h1:=ll (f:=f) h I;rw[y0 I] at h1;exact (x4.1 h1).1
structure gR where
 gone:Int
 mask:Int
 un:List Int
structure eF where
 sc:List Int
 szs:List Int
 live:Int
 cs:List Int
structure iC where
 v:Int
 sc:List Int
 er:List Int
structure aF where
 zero:Int
 vars:List gR
 funs:List eF
 elims:List iC
def fZ (x:gR):List Int:=x.gone::x.mask::x.un
def fG (x:eF):List Int:=x.live::x.cs
def gS (s:aF):List Int:=[s.zero,(s.funs.length:Int),(s.elims.length:Int)]
def aF.cells (s:aF):List Int:=gS s++(s.vars.flatMap fZ++s.funs.flatMap fG)
def eG (s:aF) (i:Nat):Nat:=3+((s.vars.take i).flatMap fZ).length
def dW (s:aF) (j:Nat):Nat:=3+((s.vars.flatMap fZ).length+((s.funs.take j).flatMap fG).length)
theorem Im (s:aF):s.cells[0]? =some s.zero:=rfl
theorem oE {s:aF} {i:Nat} {x:gR} (h:s.vars[i]? =some x) (J:j<x.un.length+2):s.cells[eG s i+j]? =(fZ x)[j]?:=by
 have I:j<(fZ x).length:=J;unfold aF.cells eG;rw[Nat.add_assoc,Z8 (by simp[gS]),show (gS s).length=3 from rfl,Nat.add_sub_cancel_left,Z7 (zv h I),ll h I]
theorem ts {s:aF} {i:Nat} {x:eF} (h:s.funs[i]? =some x) (I:j<x.cs.length+1):s.cells[dW s i+j]? =(fG x)[j]?:=by
 have J:j<(fG x).length:=I;unfold aF.cells dW;rw[Nat.add_assoc,Nat.add_assoc,Z8 (by simp[gS]),show (gS s).length=3 from rfl,Nat.add_sub_cancel_left,Z8 (by omega),Nat.add_sub_cancel_left,ll h J]
theorem In (s:aF) (c:Int):s.cells.set 0 c=({s with zero:=c}:aF).cells:=rfl
theorem tt {s:aF} {i:Nat} {x y:gR} {c:Int} (h:s.vars[i]? =some x) (J:j<x.un.length+2) (O:fZ y=(fZ x).set j c):s.cells.set (eG s i+j) c=({s with vars:=s.vars.set i y}:aF).cells:=by
 have I:j<(fZ x).length:=J;unfold aF.cells eG;rw[Nat.add_assoc,V8 _ _ (by simp[gS]),show (gS s).length=3 from rfl,Nat.add_sub_cancel_left,List.set_append_left _ _ (zv h I),tr h I O];rfl
theorem zw {s:aF} {i:Nat} {x y:eF} {c:Int} (h:s.funs[i]? =some x) (I:j<x.cs.length+1) (J:fG y=(fG x).set j c):s.cells.set (dW s i+j) c=({s with funs:=s.funs.set i y}:aF).cells:=by
 have O:j<(fG x).length:=I;unfold aF.cells dW;rw[Nat.add_assoc,Nat.add_assoc,V8 _ _ (by simp[gS]),show (gS s).length=3 from rfl,Nat.add_sub_cancel_left,V8 _ _ (by omega),Nat.add_sub_cancel_left,tr h O J];show _=gS {s with funs:=s.funs.set i y}++_;unfold gS;rw[Y6]
theorem Io {s:aF} (x:eF):(s.cells++fG x).set 1 ((s.funs.length+1:Nat):Int)=({s with funs:=s.funs++[x]}:aF).cells:=by
 unfold aF.cells;simp only[List.flatMap_append,List.flatMap_singleton,gS,o5,U8,V7];rfl
theorem Ip {s:aF} (e:iC):s.cells.set 2 ((s.elims.length+1:Nat):Int)=({s with elims:=s.elims++[e]}:aF).cells:=by
 unfold aF.cells;simp only[gS,o5,U8];rfl
theorem oF (s:aF):s.cells.length=3+((s.vars.flatMap fZ).length+(s.funs.flatMap fG).length):=by
 unfold aF.cells;rw[o5,o5];rfl
def fl (a sc:List Int):List Int:=sc.map fun v=>a.getD v.toNat 0
def ga (k:Int) (I:Int) (p:gR×Int):Int:=if p.1.gone≠0 then I else min (I+p.1.un.getD p.2.toNat 0) k
def e8 (k:Int) (a:List Int) (I:Int) (f:eF):Int:=if f.live≠0 then min (I+cu f.szs f.cs (fl a f.sc)) k else I
def dropped (mask:Int) (v:Int):Bool:=mask.toNat.testBit v.toNat
def eH (p:gR×Int):Bool:=decide (p.1.gone≠0)|| !dropped p.1.mask p.2
def gr (k:Int) (s:aF) (a:List Int):Int:=if (s.vars.zip a).all eH then s.funs.foldl (e8 k a) ((s.vars.zip a).foldl (ga k) s.zero) else k
def h5 (s:aF) (a:List Int):Prop:=a.length=s.vars.length∧ ∀ (i:Nat) x v,s.vars[i]? =some x→a[i]? =some v→x.gone≠0∨(0≤v∧v<x.un.length)
structure et (k:Int) (sizes:List Int) (s:aF):Prop where
 iD:1≤k∧k≤2147483648
 dX:1≤sizes.length∧sizes.length≤64∧ ∀ z∈sizes,1≤z∧z≤32
 zero:0≤s.zero∧s.zero≤k
 vars:s.vars.length=sizes.length
 var:∀ (i:Nat) x z,s.vars[i]? =some x→sizes[i]? =some z→x.un.length=z.toNat∧(∀ c∈x.un,0≤c∧c≤k)∧0≤x.mask∧x.mask<4294967296
 funs:∀ f∈s.funs,eE sizes k (f.sc,f.cs)∧f.szs=bd sizes f.sc∧2≤f.sc.length
def newVar (u:List Int):gR:=⟨0,0,u⟩
def iE (sizes:List Int) (g:ca):eF:=⟨g.1,bd sizes g.1,1,g.2⟩
def dH (n:aS):aF:=⟨n.zero,n.unary.map newVar,n.funs.map (iE n.sizes),[]⟩
theorem Iq {n:aS} (h:h3 n):et n.k n.sizes (dH n):=by
 refine⟨h.k,h.sizes,h.zero,by simp[dH,h.iB],fun i x z I O=>?_,fun f U=>?_⟩
 ·have I:(n.unary.map newVar)[i]? =some x:=I;rw[x8] at I;obtain⟨u,hu,rfl⟩:=Y1.1 I;obtain⟨h1,J⟩:=h.unary i z u O hu;exact⟨h1,J,Int.le_refl _,by show (0:Int)<_;omega⟩
 ·obtain⟨g,V,rfl⟩:=j5.1 U;obtain⟨h1,J⟩:=h.funs g V;exact⟨h1,rfl,J⟩
theorem tu {I:Nat} {n:aS} (h:e7 w I n):af x3 Ce [.pointer (some ⟨I,0,none⟩)] w fun v w'=>v= .int .i64 (n.sizes.length:Int)∧Ext w w':=by
 obtain⟨U,W,Y,ab,ad,aO,L,ae,aq,ag,ah,h1,J,O,ai,aj,ak,al⟩:=h;refine az func129 ?_;rw[cI kA.u];simp only[Z1,aP];rw[aw,V eY.p rfl,aa (by kernel_rfl) (h1.cell (o:=0+0) rfl),aw,V b4.p rfl,aa (by kernel_rfl) (J.cell (o:=0+2) rfl),aL ac.u O.ls];exact⟨rfl,Ext.refl _⟩
theorem Ir {I:Nat} {n:aS} (h:e7 w I n):af x3 Co [.pointer (some ⟨I,0,none⟩)] w fun v w'=>v= .int .i64 n.k∧Ext w w':=by
 obtain⟨O,U,W,Y,ab,aO,L,ac,aq,ad,ae,h1,J,ag,ah,ai,aj,ak⟩:=h;refine az func145 ?_;rw[cI kA.u];simp only[Z1,aP];rw[aw,V eY.p rfl,aa (by kernel_rfl) (h1.cell (o:=0+0) rfl),aw,V b4.p rfl,aa (by kernel_rfl) (J.cell (o:=0+1) rfl)];exact⟨rfl,Ext.refl _⟩
theorem Is {I:Nat} {n:aS} (h:e7 w I n):af x3 Cd [.pointer (some ⟨I,0,none⟩)] w fun v w'=>v= .int .i64 n.zero∧Ext w w':=by
 obtain⟨J,O,U,W,Y,aO,L,ab,aq,ac,ad,h1,ae,ag,ah,ai,aj,ak⟩:=h;refine az func128 ?_;rw[cI kA.u];simp only[Z1,aP];rw[aw,V eY.p rfl,aa (by kernel_rfl) (h1.cell (o:=0+1) rfl)];exact⟨rfl,Ext.refl _⟩
theorem zx {I:Nat} {n:aS} (h:e7 w I n):af x3 vM [.pointer (some ⟨I,0,none⟩)] w fun v w'=>v= .int .i64 (n.funs.length:Int)∧Ext w w':=by
 obtain⟨U,W,Y,ab,ac,aO,L,ad,aq,ae,ag,h1,ah,ai,aj,ak,J,O⟩:=h;refine az func132 ?_;rw[cI kA.u];simp only[Z1,aP];rw[aw,V eY.p rfl,aa (by kernel_rfl) (h1.cell (o:=0+3) rfl),ef iV.u J.1];exact⟨by rw[←O,u5],Ext.refl _⟩
theorem zy {ac:Nat} {n:aS} {i:Int} (h:e7 w ac n) (O:h3 n):af x3 Cf [.pointer (some ⟨ac,0,none⟩),.int .i64 i] w fun v w'=>Ext w w'∧(¬(0≤i∧i<n.sizes.length)→v= .slice none 0 0)∧
  ∀ u,0≤i→n.unary[i.toNat]? =some u→ ∃ g,w.heap.size≤g∧am .i64 ak w' g v u:=by
 refine az func130 ?_;have av:=O.iB;refine aM (fun v J=>v= .bool (decide (¬(0≤i∧i<n.sizes.length)))∧Ext w J) ?_ ?_
 ·rintro _ J ⟨rfl,I⟩;rw[ab];refine⟨fun ai=>⟨I,fun _=>rfl,fun u aj hu=>?_⟩,fun U=>?_⟩
  ·have:=(x4.1 hu).1;exact absurd ⟨aj,by omega⟩ ai
  have U:0≤i∧i<n.sizes.length:=Y9.1 U;obtain⟨ax,ay,aA,aB,aC,aO,L,aD,aq,aE,aF,h1,aG,aH,W,ad,aI,aJ⟩:=h.ext I;have aK:aO.length=n.unary.length:=by rw[←ad,u5]
  obtain⟨a,Y⟩:∃ a,aO[i.toNat]? =some a:=⟨_,y0 (by omega)⟩;obtain⟨aL,hm⟩:=W.2 a (x5 Y);rw[aw,V eY.p rfl,aa (by kernel_rfl) (h1.cell (o:=0+2) rfl),cT (i:=i.toNat) (by omega) ek.u au.i W.1 (by omega),aa (o:=i.toNat*1) (by kernel_rfl) (W.1.range Y 0 _ rfl)];have ae:n.unary[i.toNat]? =some a.l:=by rw[←ad,x8,Y];rfl
  have aN:a.l.length≤32:=by
   obtain⟨z,ag⟩:∃ z,n.sizes[i.toNat]? =some z:=⟨_,y0 (by omega)⟩;have aP:=(O.unary i.toNat z a.l ag ae).1;have aQ:=O.sizes.2.2 z (x5 ag);omega
  refine (sm hm.ls (by omega)).mono ?_;rintro v aR _ ⟨al,g,aT,ao⟩;refine⟨I.trans al,fun ap=>absurd U ap,fun u _ hu=>⟨g,by have:=I.size;omega,?_⟩⟩;rw[ae] at hu;cases hu;exact ao
 ·intro aU ah;rw[an,ab];refine⟨fun aV=>ah _ _ ⟨by rw[decide_eq_true];omega,Ext.refl _⟩,fun aW=>?_⟩;refine (tu h).mono ?_;rintro _ J _ ⟨rfl,I⟩;rw[cm];refine ah _ _ ⟨?_,I⟩;congr 1;rw[V1,decide_eq_true_eq,decide_eq_true_eq];omega
theorem qW {V:Nat} {n:aS} {i:Int} (h:e7 w V n) (I:h3 n):af x3 BZ [.pointer (some ⟨V,0,none⟩),.int .i64 i] w fun v w'=>Ext w w'∧v= .int .i64 (if 0≤i then n.sizes.getD i.toNat 0 else 0):=by
 refine az func77 ?_;refine (zy h I).mono ?_;rintro v J _ ⟨W,aa,ab⟩;by_cases O:0≤i∧i<n.sizes.length
 ·have ac:=I.iB;obtain⟨u,hu⟩:∃ u,n.unary[i.toNat]? =some u:=⟨_,y0 (by omega)⟩;obtain⟨z,U⟩:∃ z,n.sizes[i.toNat]? =some z:=⟨_,y0 (by omega)⟩;obtain⟨g,_,hm⟩:=ab u O.1 hu;rw[aL au.u hm.ls];refine⟨W,?_⟩;have ad:=(I.unary i.toNat z u U hu).1;have ae:=I.sizes.2.2 z (x5 U);rw[if_pos O.1,u4,U];congr 1;simp only[U7];omega
 ·rw[aa O,gg au.u];refine⟨W,?_⟩;by_cases Y:0≤i
  ·rw[if_pos Y,u4,Z9 (by omega)];rfl
  ·rw[if_neg Y];rfl
theorem zz {O:Nat} {n:aS} {j:Int} (h:e7 w O n) {K:x1→x2→Prop} (V:∀ w',Ext w w'→K (.bool (decide (¬(0≤j∧j<n.funs.length)))) w'):
  I x3 (av .lss U false true (.int .i64 j) (.int .i64 0)) w fun Y=>Split Y (K (.bool true) w) (af x3 vM [.pointer (some ⟨O,0,none⟩)] w fun aa W=>I x3 (av .geq U false false (.int .i64 j) aa) W fun ac=>K ac W):=by
 rw[an,ab];refine⟨fun ae=>?_,fun ag=>?_⟩
 ·have:=V w (Ext.refl _);rw[decide_eq_true (show ¬(0≤j∧j<n.funs.length) by omega)] at this;exact this
 ·refine (zx h).mono ?_;rintro _ J _ ⟨rfl,ad⟩;rw[cm];have:=V J ad;have e:decide ((n.funs.length:Int)≤j)=decide (¬(0≤j∧j<n.funs.length)):=by
   rw[V1,decide_eq_true_eq,decide_eq_true_eq];omega
  rw[←e] at this;exact this
theorem It {ab:Nat} {n:aS} {g:ca} (h:e7 w ab n) (ae:h3 n) (I:n.funs[j]? =some g):af x3 Ch [.pointer (some ⟨ab,0,none⟩),.int .i64 (j:Int)] w fun v w'=>Ext w w'∧ ∃ gs,w.heap.size≤gs∧am .i64 U w' gs v g.1:=by
 refine az func134 ?_;have ak:=(x4.1 I).1;refine aM (fun v J=>v= .bool (decide (¬(0≤(j:Int)∧(j:Int)<n.funs.length)))∧Ext w J) ?_ fun al ag=>zz h fun w' ah=>ag _ _ ⟨rfl,ah⟩;rintro _ J ⟨rfl,O⟩;rw[decide_eq_false (by omega),aP];obtain⟨an,ao,ap,au,av,aO,L,ax,aq,ay,aA,h1,aB,aC,aD,aE,W,ac⟩:=h.ext O;have aF:L.length=n.funs.length:=by rw[←ac,u5]
 obtain⟨a,Y⟩:∃ a,L[j]? =some a:=⟨_,y0 (by omega)⟩;have ad:dn a=g:=by rw[←ac,x8,Y] at I;exact b9 I
 obtain⟨⟨aG,hm⟩,_⟩:=W.2 a (x5 Y);rw[aw,V eY.p rfl,aa (by kernel_rfl) (h1.cell (o:=0+3) rfl),cT rfl iV.u gD.i W.1 (by omega),V gD.p rfl,aa (by kernel_rfl) (W.1.range Y 0 _ rfl)];have aH:a.sc.length≤6:=by
  have:=(ae.funs g (x5 I)).1.scope.2;rw[←ad] at this;exact this
 refine (hc hm.ls (by omega)).mono ?_;rintro v aI _ ⟨ai,gs,aJ,aj⟩;refine⟨O.trans ai,gs,by have:=O.size;omega,?_⟩;rw[←ad];exact aj
theorem Iu {g:Nat} {szs:List Int} {cs:List Int} (h:cB w g aj sv szs k cs):af x3 CI [.pointer (some ⟨g,0,none⟩)] w fun v w'=>Ext w w'∧ ∃ I O,v= .pointer (some ⟨I,0,none⟩)∧w.heap.size≤I∧w.heap.size≤O∧cB w' I O sv szs k cs:=by
 obtain⟨⟨aG,gs,ak,hm,al⟩,⟨h1,ap,am⟩,ad,ae⟩:=h;refine az func193 ?_;rw[cI dM.u];simp only[Z1,aP];intro J U _ _;have Y:=ak.ext U;have aq:=prod_bound ad;rw[aw,V cD.p rfl,bw (cs:=[sv]) bg.p bg.i rfl (lp Y (by
  intro j v ab
  match j,ab with
  |0,ab=>exact ab)),aw,V cD.p rfl,aa (by kernel_rfl) (Y.cell (o:=0+1) rfl),aw,V cD.p rfl,aa (by kernel_rfl) (Y.cell (o:=0+2) rfl)]
 refine (sm (al.ls.ext U) (by omega)).mono ?_;rintro ag au _ ⟨ac,O,av,W⟩;refine⟨.inl ac,?_⟩;rw[cH (cs:=#[sv,.int .i64 k,ag]) (by obtain⟨_,_,_,rfl⟩:=bH hm.ls;obtain⟨_,_,_,rfl⟩:=bH W.ls;kernel_rfl)];refine bL fun I ax ay ah an=>?_;have aA:=U.size;have aB:=ac.size;have aC:=W;have ai:=(U.trans ac).trans ah;refine⟨ai,I,O,rfl,by omega,by omega,⟨ag,gs,an,hm.ext ai,W.ext ah⟩,⟨?_,?_,am⟩,ad,ae⟩
 ·have:=mY W (by rw[ae];omega);omega
 ·intro ao;obtain⟨aD,aE⟩:=bn hm ao;omega
theorem Iv {w0:x2} {ad:Nat} {n:aS} {g:ca} (ae:e7 w0 ad n) (ag:Ext w0 w) (U:n.funs[j]? =some g):af x3 Ci [.pointer (some ⟨ad,0,none⟩),.int .i64 (j:Int)] w fun v w'=>Ext w w'∧ ∃ I W sv,v= .pointer (some ⟨I,0,none⟩)∧w.heap.size≤I∧w.heap.size≤W∧cB w' I W sv (bd n.sizes g.1) n.k g.2∧ ∀ r,leads sv r→r<w0.heap.size:=by
 have h:=ae.ext ag;refine az func135 ?_;have av:=(x4.1 U).1;refine aM (fun v J=>v= .bool (decide (¬(0≤(j:Int)∧(j:Int)<n.funs.length)))∧Ext w J) ?_ fun ax aj=>zz h fun w' ak=>aj _ _ ⟨rfl,ak⟩;rintro _ J ⟨rfl,Y⟩;rw[decide_eq_false (by omega),aP];have O:=ag.trans Y;obtain⟨ay,aA,aB,aC,aD,aO,L,aE,aq,aF,aG,h1,aH,aI,aJ,aK,ab,ah⟩:=ae;have aL:L.length=n.funs.length:=by rw[←ah,u5]
 obtain⟨a,ac⟩:∃ a,L[j]? =some a:=⟨_,y0 (by omega)⟩;have al:dn a=g:=by rw[←ah,x8,ac] at U;exact b9 U
 obtain⟨_,W,am,ai⟩:=ab.2 a (x5 ac);rw[aw,V eY.p rfl,aa (by kernel_rfl) ((h1.ext O).cell (o:=0+3) rfl),cT rfl iV.u gD.i (ab.1.ext O) (by omega),V gD.p rfl,aa (by kernel_rfl) ((ab.1.ext O).range ac 1 _ rfl)];refine (Iu (ai.ext O)).mono ?_;rintro v aN _ ⟨an,I,ao,rfl,aQ,aR,ap⟩;have aT:=Y.size;refine⟨Y.trans an,I,ao,am,rfl,by omega,by omega,?_,fun r au=>?_⟩
 ·rw[←al];exact ap
 ·obtain⟨⟨_,_,_,hm,_⟩,_⟩:=ai;obtain⟨aU,aV⟩:=bn hm au;omega
structure m4 where
 ay:x1
 aq:x1
 at_:Nat
def kc (x:m4):List x1:=[x.ay,x.aq,.int .i64 (x.at_:Int)]
structure m7 where
 v:Int
 ay:x1
 bv:x1
def oG (x:m7):List x1:=[.int .i64 x.v,x.ay,x.bv]
def gT (s:aF):List Int:=(X7 s.vars.length).map fun i=>(eG s i:Int)
def hq (R:ag) (w:x2) (v:x1) (l:List Int):Prop:=(∃ g,am .i64 U w g v l)∧ ∀ r,leads v r→R r
theorem hq.ls {R:ag} (h:hq R w v l):aB .i64 w v l:=by
 obtain⟨⟨g,h⟩,_⟩:=h;exact h.ls
theorem hq.O {R S:ag} (h:hq R w v l) (U:ad S w w') (V:∀ r,r<w.heap.size→R r→¬S r):hq R w' v l:=by
 obtain⟨⟨g,h1⟩,I⟩:=h;exact⟨⟨g,a6 h1 U fun r J=>V r (by obtain⟨W,Y⟩:=bn h1 J;omega) (I r J)⟩,I⟩
theorem hq.mono {R R':ag} (h:hq R w v l) (I:∀ r,R r→R' r):hq R' w v l:=⟨h.1,fun r J=>I r (h.2 r J)⟩
def h6 (R:ag) (w:x2) (L:List m4) (s:aF):Prop:=L.length=s.funs.length∧ ∀ (j:Nat) x f,L[j]? =some x→s.funs[j]? =some f→hq R w x.ay f.sc∧hq R w x.aq f.szs∧x.at_=dW s j
def jo (R:ag) (w:x2) (E:List m7) (s:aF):Prop:=E.length=s.elims.length∧ ∀ (j:Nat) x e,E[j]? =some x→s.elims[j]? =some e→x.v=e.v∧hq R w x.ay e.sc∧hq R w x.bv e.er
theorem h6.O {R S:ag} {L:List m4} {s:aF} (h:h6 R w L s) (I:ad S w w') (J:∀ r,r<w.heap.size→R r→¬S r):h6 R w' L s:=⟨h.1,fun j x f U V=>by
 obtain⟨h1,W,Y⟩:=h.2 j x f U V;exact⟨h1.O I J,W.O I J,Y⟩⟩
theorem jo.O {R S:ag} {E:List m7} {s:aF} (h:jo R w E s) (I:ad S w w') (J:∀ r,r<w.heap.size→R r→¬S r):jo R w' E s:=⟨h.1,fun j x f U V=>by
 obtain⟨h1,W,Y⟩:=h.2 j x f U V;exact⟨h1,W.O I J,Y.O I J⟩⟩
theorem h6.mono {R R':ag} {L:List m4} {s:aF} (h:h6 R w L s) (I:∀ r,R r→R' r):h6 R' w L s:=⟨h.1,fun j x f J O=>by
 obtain⟨h1,U,V⟩:=h.2 j x f J O;exact⟨h1.mono I,U.mono I,V⟩⟩
theorem jo.mono {R R':ag} {E:List m7} {s:aF} (h:jo R w E s) (I:∀ r,R r→R' r):jo R' w E s:=⟨h.1,fun j x f J O=>by
 obtain⟨h1,U,V⟩:=h.2 j x f J O;exact⟨h1,U.mono I,V.mono I⟩⟩
theorem oH {a b c:x2} (h:Ext a b) (k:ad S b c) (O:∀ r o,a.heap[r]? =some o→fK o=true→¬S r):Ext a c:=
 ⟨W7 h.size k.size,fun r o J I=>k.ba r o (h.ba r o J I) I (O r o J I)⟩
theorem cV.cut {A:ag} {t:aH} (h:cV w ah A t):cV w ah (fun r=>A r∧r<w.heap.size) t:=by
 obtain⟨Y,aa,go,ab,aG,ac,cN,h1,J,O,U,ad⟩:=h;refine⟨⟨Y,h1.lt⟩,aa,go,ab,aG,ac,cN,h1,J,O,U,fun r I=>⟨ad r I,?_⟩⟩;rcases I with I|I|I
 ·obtain⟨V,W⟩:=J.leads I;omega
 ·obtain⟨V,W⟩:=O.leads I;omega
 ·obtain⟨V,W⟩:=U.leads I;omega
def dI (w:x2) (aj ah W:Nat) (J O V:x1) (A R:ag) (n:aS) (s:aF) (t:aH):Prop:=
 (A aj∧(∀ r,A r→¬R r)∧(∀ r,R r→r<w.heap.size)∧ ∀ r,A r→r<w.heap.size)∧ ∃ Y aa ge,∃ (L:List m4) (E:List m7) (I:ag) (w0:x2),
  ae w aj bM [.pointer (some ⟨W,0,none⟩),.pointer (some ⟨ah,0,none⟩),J,O,V]∧(e7 w0 W n∧Ext w0 w∧ ∀ r o,w0.heap[r]? =some o→fK o=true→R r)∧
  (cV w ah I t∧(∀ r,I r→A r)∧¬I aj∧ ∀ r,leads J r∨leadsTo O r∨leadsTo V r→A r∧¬I r)∧am .i64 U w Y J (gT s)∧
  (a1 kc 3 dw w aa O L∧h6 R w L s)∧a1 oG 3 cY w ge V E∧jo R w E s
theorem dI.O {S:ag} {ac:Nat} {ae af ai:x1} {A R:ag} {n:aS} {s:aF} {t:aH} (h:dI w aj ah ac ae af ai A R n s t) (U:ad S w w') (V:∀ r,r<w.heap.size→A r∨R r→¬S r):dI w' aj ah ac ae af ai A R n s t:=by
 obtain⟨⟨h1,W,ay,az⟩,aA,aB,ge,L,E,aC,w0,ak,⟨aD,al,am⟩,⟨aE,Y,aI,aa⟩,an,⟨ao,aJ⟩,ap,aK⟩:=h;have z:=U.size;refine⟨⟨h1,W,fun r I=>by have:=ay r I;omega,fun r I=>by have:=az r I;omega⟩,aA,aB,ge,L,E,aC,w0,ak.O U (V _ ak.lt (.inl h1)),⟨aD,oH al U fun r o I aL J=>V r (by have:=al.size;have:=(l7.1 I).1;omega) (.inr (am r o I aL)) J,am⟩,
  ⟨?_,Y,aI,aa⟩,a6 an U fun r I J=>V r ?_ (.inl (aa r (.inl I)).1) J,⟨ao.O U fun r I J=>V r ?_ (.inl (aa r (.inr (.inl I))).1) J,aJ.O U fun r I h=>V r I (.inr h)⟩,ap.O U fun r I J=>V r ?_ (.inl (aa r (.inr (.inr I))).1) J,aK.O U fun r I h=>V r I (.inr h)⟩
 ·obtain⟨aq,aM,go,aN,aG,aO,cN,au,av,aw,ax,ab⟩:=aE;refine⟨aq,aM,go,aN,aG,aO,cN,au.O U (V _ au.lt (.inl (Y _ aq))),av.O U fun r I J=>?_,aw.O U fun r I J=>?_,ax.O U fun r I J=>?_,ab⟩
  ·exact V r (by obtain⟨h1,W⟩:=av.leads I;omega) (.inl (Y _ (ab r (.inl I)))) J
  ·exact V r (by obtain⟨h1,W⟩:=aw.leads I;omega) (.inl (Y _ (ab r (.inr (.inl I))))) J
  ·exact V r (by obtain⟨h1,W⟩:=ax.leads I;omega) (.inl (Y _ (ab r (.inr (.inr I))))) J
 ·obtain⟨h1,W⟩:=bn an I;omega
 ·obtain⟨h1,W⟩:=ao.leads I;omega
 ·obtain⟨h1,W⟩:=ap.leads I;omega
theorem dI.ext {I:Nat} {U V:x1} {A R:ag} {n:aS} {s:aF} {t:aH} (h:dI w aj ah I J U V A R n s t) (W:Ext w w'):dI w' aj ah I J U V A R n s t:=h.O (W.O fun _=>False) fun _ _ _ h=>h
theorem dI.oI {af:Nat} {ai ak al:x1} {A R:ag} {n:aS} {s:aF} {t:aH} (h:dI w aj ah af ai ak al A R n s t):∃ aa,cV w ah aa t∧ ∀ Y w' ad,Grow aa w Y w'→cV w' ah Y ad→ ∃ am,Grow A w am w'∧dI w' aj ah af ai ak al am R n s ad:=by
 obtain⟨⟨h1,V,an,ao⟩,aB,aC,ge,L,E,aa,w0,ap,⟨aD,aE,aq⟩,⟨aG,W,au,ab⟩,av,⟨aw,aI⟩,ax,aJ⟩:=h;refine⟨aa,aG,fun ay w' ad ac aK=>?_⟩;have az:=aK.cut;have J:Grow aa w (fun r=>ay r∧r<w'.heap.size) w':=⟨ac.1,fun r I=>ac.2.1 r I.1,fun r I=>⟨ac.2.2 r I,by have:=ao r (W r I);have:=ac.1.size;omega⟩⟩;obtain⟨Y,aA⟩:∃ B:ag,B=fun r=>ay r∧r<w'.heap.size:=⟨_,rfl⟩;rw[←aA] at az J;have aL:∀ r,Y r→r<w'.heap.size:=fun r h=>by rw[aA] at h;exact h.2
 refine⟨fun r=>A r∨Y r,⟨J.1.mono fun r _ I=>W r I,fun r I=>?_,fun r I=>.inl I⟩,⟨.inl h1,fun r I ae=>?_,fun r I=>?_,fun r I=>?_⟩,aB,aC,ge,L,E,Y,w0,ap.O J.1 au,⟨aD,oH aE J.1 fun r o I aM U=>V r (W r U) (aq r o I aM),aq⟩,
  ⟨az,fun r I=>.inr I,fun I=>?_,fun r I=>⟨.inl (ab r I).1,fun aN=>?_⟩⟩,a6 av J.1 fun r I U=>(ab r (.inl I)).2 U,⟨aw.O J.1 fun r I U=>(ab r (.inr (.inl I))).2 U,aI.O J.1 fun r _ I U=>V r (W r U) I⟩,ax.O J.1 fun r I U=>(ab r (.inr (.inr I))).2 U,aJ.O J.1 fun r _ I U=>V r (W r U) I⟩
 ·rcases I with I|I
  ·exact .inl I
  ·exact (J.2.1 r I).imp (W r) id
 ·have:=an r ae;rcases I with I|I
  ·exact V r I ae
  ·rcases J.2.1 r I with h|h
   ·exact V r (W r h) ae
   ·omega
 ·have:=an r I;have:=J.1.size;omega
 ·rcases I with I|I
  ·have:=ao r I;have:=J.1.size;omega
  ·exact aL r I
 ·rcases J.2.1 _ I with h|h
  ·exact au h
  ·have:=ap.lt;omega
 ·rcases J.2.1 r aN with h|h
  ·exact (ab r I).2 h
  ·rcases I with I|I|I
   ·obtain⟨h1,V⟩:=bn av I;omega
   ·obtain⟨h1,V⟩:=aw.leads I;omega
   ·obtain⟨h1,V⟩:=ax.leads I;omega
def StateM (w:x2) (aj ah:Nat) (A R:ag) (n:aS) (s:aF) (t:aH):Prop:=∃ I J O U,dI w aj ah I J O U A R n s t
theorem StateM.O {S:ag} {A R:ag} {n:aS} {s:aF} {t:aH} (h:StateM w aj ah A R n s t) (I:ad S w w') (J:∀ r,r<w.heap.size→A r∨R r→¬S r):StateM w' aj ah A R n s t:=by
 obtain⟨U,V,W,Y,h⟩:=h;exact⟨U,V,W,Y,h.O I J⟩
theorem StateM.ext {A R:ag} {n:aS} {s:aF} {t:aH} (h:StateM w aj ah A R n s t) (I:Ext w w'):StateM w' aj ah A R n s t:=h.O (I.O fun _=>False) fun _ _ _ h=>h
theorem StateM.oI {A R:ag} {n:aS} {s:aF} {t:aH} (h:StateM w aj ah A R n s t):∃ I,cV w ah I t∧ ∀ J w' O,Grow I w J w'→cV w' ah J O→ ∃ U,Grow A w U w'∧StateM w' aj ah U R n s O:=by
 obtain⟨V,W,Y,aa,h⟩:=h;obtain⟨I,h1,ab⟩:=h.oI;exact⟨I,h1,fun J w' O ac ad=>by
  obtain⟨U,ae,af⟩:=ab J w' O ac ad;exact⟨U,ae,V,W,Y,aa,af⟩⟩
def lN (s s':aF):Prop:=gT s'=gT s∧s'.funs.length=s.funs.length∧(∀ (j:Nat) I,s'.funs[j]? =some I→ ∃ f,s.funs[j]? =some f∧I.sc=f.sc∧I.szs=f.szs∧dW s' j=dW s j)∧s'.elims=s.elims
theorem dI.same {I:Nat} {O U:x1} {A R:ag} {n:aS} {s s':aF} {t:aH} (h:dI w aj ah I J O U A R n s t) (W:lN s s'):dI w aj ah I J O U A R n s' t:=by
 obtain⟨Y,aa,ab,ge,L,E,ac,w0,ad,ae,af,ai,⟨ak,V⟩,al,am⟩:=h;obtain⟨an,ao,ap,aq⟩:=W;refine⟨Y,aa,ab,ge,L,E,ac,w0,ad,ae,af,by rw[an];exact ai,⟨ak,V.1.trans ao.symm,fun j x au av aw=>?_⟩,al,?_⟩
 ·obtain⟨f,ax,ay,az,aA⟩:=ap j au aw;rw[ay,az,aA];exact V.2 j x f av ax
 ·unfold jo;rw[aq];exact am
theorem StateM.same {A R:ag} {n:aS} {s s':aF} {t:aH} (h:StateM w aj ah A R n s t) (I:lN s s'):StateM w aj ah A R n s' t:=by
 obtain⟨J,O,U,V,h⟩:=h;exact⟨J,O,U,V,h.same I⟩
theorem qX {α β:Type} {f:α→List β}:∀ {L:List α} {i j:Nat} {a b:α},L[i]? =some a→(f b).length=(f a).length→(((L.set i b).take j).flatMap f).length=((L.take j).flatMap f).length
 |[],_,_,_,_,h,_=>by simp at h
 |x::L,0,j,a,b,h,I=>by
  cases h;cases j with
  |zero=>rfl
  |succ j=>simp[I]
 |x::L,i+1,j,a,b,h,I=>by
  have h:L[i]? =some a:=by simpa using h
  cases j with
  |zero=>rfl
  |succ j=>
   rw[List.set_cons_succ,List.take_succ_cons,List.take_succ_cons,W9,W9,o5,o5,qX h I]
theorem zA (s:aF) (c:Int):lN s {s with zero:=c}:=⟨rfl,rfl,fun j f h=>⟨f,h,rfl,rfl,rfl⟩,rfl⟩
theorem tv {s:aF} {i:Nat} {x y:gR} (I:s.vars[i]? =some x) (O:y.un.length=x.un.length):lN s {s with vars:=s.vars.set i y}:=by
 have J:(fZ y).length=(fZ x).length:=by simp[fZ,O]
 refine⟨?_,rfl,fun j f h=>⟨f,h,rfl,rfl,?_⟩,rfl⟩
 ·unfold gT;rw[show ({s with vars:=s.vars.set i y}:aF).vars.length=s.vars.length from Y6];apply List.map_congr_left;intro j _;unfold eG;rw[qX I J]
 ·unfold dW;have:=qX (j:=s.vars.length) I J;rw[l5 (by simp),l5 (o7 _)] at this;show 3+(((s.vars.set i y).flatMap fZ).length+_)=_;rw[this]
theorem zB {s:aF} {i:Nat} {x y:eF} (I:s.funs[i]? =some x) (O:y.cs.length=x.cs.length) (h1:y.sc=x.sc) (U:y.szs=x.szs):lN s {s with funs:=s.funs.set i y}:=by
 have V:(fG y).length=(fG x).length:=by simp[fG,O]
 refine⟨rfl,Y6,fun j f h=>?_,rfl⟩;have h:(s.funs.set i y)[j]? =some f:=h;have e:dW {s with funs:=s.funs.set i y} j=dW s j:=by
  unfold dW;show 3+(_+(((s.funs.set i y).take j).flatMap fG).length)=_;rw[qX I V]
 by_cases J:i=j
 ·subst J;rw[W8 (x4.1 I).1] at h;cases h;exact⟨x,I,h1,U,e⟩
 ·rw[W3 J] at h;exact⟨f,h,rfl,rfl,e⟩
theorem aH.tw (t:aH) (i:Nat) (x:Int):(t.set i x).marks=t.marks:=by
 unfold aH.set;cases t.cells[i]? with
 |none=>rfl
 |some c=>
  simp only;cases t.marks.getLast? with
  |none=>rfl
  |some m=>simp only;split <;> rfl
theorem aH.zC (t:aH) (i:Nat) (x:Int):(t.set i x).cells.length=t.cells.length:=by
 have h:=congrArg T9 (aH.mB (t:=t) (i:=i) (x:=x));rw[Y6] at h;unfold aH.bW at h;rwa [u5,u5] at h
theorem aH.tx (t:aH) (i:Nat) (x:Int):(t.set i x).olds.length≤t.olds.length+1:=by
 unfold aH.set;cases t.cells[i]? with
 |none=>exact Nat.le_succ _
 |some c=>
  simp only;cases t.marks.getLast? with
  |none=>exact Nat.le_succ _
  |some m=>simp only;split <;> simp
theorem aH.tz {t:aH} (h:t.marks=[]) (i:Nat) (x:Int):(t.set i x).olds=t.olds:=by
 unfold aH.set;cases t.cells[i]? with
 |none=>rfl
 |some c=>simp only[h,List.getLast?_nil]
def eS (t:aH) (l:List Int):Nat→aH
 |0=>t.grow l.length
 |i+1=>(eS t l i).set (t.cells.length+i) (l.getD i 0)
def gU (t:aH) (l:List Int):aH:=eS t l l.length
theorem lO (t:aH) (l:List Int):∀ i,(eS t l i).marks=t.marks
 |0=>rfl
 |i+1=>(aH.tw _ _ _).trans (lO t l i)
theorem oJ (t:aH) (l:List Int):∀ i,(eS t l i).cells.length=t.cells.length+l.length
 |0=>by simp[eS,aH.grow]
 |i+1=>(aH.zC _ _ _).trans (oJ t l i)
theorem oK (t:aH) (l:List Int):∀ i,(eS t l i).olds.length≤t.olds.length+i
 |0=>o7 _
 |i+1=>by have:=aH.tx (eS t l i) (t.cells.length+i) (l.getD i 0);have:=oK t l i;show (aH.set _ _ _).olds.length≤_;omega
theorem zD {t:aH} (h:t.marks=[]) (l:List Int):∀ i,(eS t l i).olds=t.olds
 |0=>rfl
 |i+1=>(aH.tz ((lO t l i).trans h) _ _).trans (zD h l i)
theorem zE (t:aH) (l:List Int):∀ i,i≤l.length→(eS t l i).bW=t.bW++(l.take i++r9 (l.length-i) 0)
 |0,_=>by rw[List.take_zero,List.nil_append];exact aH.Eh
 |i+1,h=>by
  have I:=zE t l i (by omega);show (aH.set _ _ _).bW=_;have J:t.bW.length=t.cells.length:=by simp[aH.bW]
  rw[aH.mB,I,V8 _ _ (by omega),J,Nat.add_sub_cancel_left,V8 _ _ (by rw[o8];omega),o8,Nat.min_eq_left (by omega),V2,show l.length-i=(l.length-(i+1))+1 by omega,List.replicate_succ,List.set_cons_zero,u9,u4,y0 (show i<l.length by omega)];simp only[Z0,U7,V7,List.singleton_append]
theorem zF (t:aH) (l:List Int):(gU t l).bW=t.bW++l:=by
 unfold gU;rw[zE t l _ (o7 _),o9,V2,List.replicate_zero,V9]
theorem gG.eS {h:List aH} {t:aH} (I:gG t h) (l:List Int):∀ i,gG (eS t l i) h
 |0=>I.grow
 |i+1=>(gG.eS I l i).set
theorem jh {s:Go.Sem x1} (h:I x3 s w (fun v=>v=x)):bb x3 s x w:=by
 obtain⟨v,h,rfl⟩:=h;exact h
theorem qY {off:Nat} {z:Nat} {J:r8} {e:r8} {cs:List x1} (O:ae w aj e cs) (U:∀ (K:x1→Prop),I x3 (x7 bM (.pointer (some ⟨aj,0,none⟩)) z) w K=K (.pointer (some ⟨aj,0+off,none⟩))) (V:kF x3 J=true) (W:cs[0+off]? =some x):
  bb x3 (x6 J (.pointer (some ⟨aj,0+off,none⟩))) x w∧bb x3 (x7 bM (.pointer (some ⟨aj,0,none⟩)) z) (.pointer (some ⟨aj,0+off,none⟩)) w∧bb x3 (aX (.pointer (some ⟨aj,0,none⟩))) (.pointer (some ⟨aj,0,none⟩)) w∧True:=
 ⟨p5 V (O.cell W),jh (by rw[U]),jh (by rw[aw]),trivial⟩
def zG (w:x2) (r:Nat):Prop:=∃ e c,ae w r e c∧(e=eK∨e=dN∨e=iW∨e=fb∨e=bM∨e=dw∨e=cY)
def dz (w:x2) (r:Nat):Prop:=zG w r∨ ∀ o,w.heap[r]? =some o→fK o≠true
theorem m8 {J:x2} {r:Nat} (W:∀ o,w.heap[r]? =some o→fK o=true→¬dz w r→J.heap[r]? =some o) (h:dz J r):dz w r:=by
 by_cases I:dz w r
 ·exact I
 ·refine absurd (.inr fun o U V=>?_) I;have h1:=W o U V I;rcases h with⟨e,c,O,he⟩|Y
  ·refine I (.inl ⟨e,c,?_,he⟩);unfold ae at O ⊢;rw[h1] at O;rw[U];exact O
  ·exact Y o h1 V
theorem jp {J I:x2} (U:Ext w J) (V:ad (dz J) J I):ad (dz w) w I:=(U.O _).trans (V.mono fun r _ h=>m8 (fun o W Y _=>U.ba r o W Y) h)
theorem oL {J I:x2} (h:ad (dz w) w J) (O:ad (dz J) J I):ad (dz w) w I:=h.trans (O.mono fun r _ U=>m8 (fun o V W Y=>h.ba r o V W Y) U)
theorem cV.min {A:ag} {t:aH} (h:cV w ah A t):cV w ah (fun r=>A r∧zG w r) t:=by
 obtain⟨W,Y,go,aa,aG,ab,cN,h1,O,U,V,ac⟩:=h;refine⟨⟨W,_,_,h1,.inl rfl⟩,Y,go,aa,aG,ab,cN,h1,O,U,V,fun r I=>⟨ac r I,?_⟩⟩;rcases I with I|I|I
 ·obtain⟨rfl,c,J⟩:=c9 O I;exact⟨_,c,J,.inr (.inl rfl)⟩
 ·obtain⟨rfl,c,J⟩:=c9 U I;exact⟨_,c,J,.inr (.inr (.inl rfl))⟩
 ·obtain⟨rfl,c,J⟩:=c9 V I;exact⟨_,c,J,.inr (.inr (.inr (.inl rfl)))⟩
theorem dI.qZ {W:Nat} {Y aa ab:x1} {A R:ag} {n:aS} {s:aF} {t:aH} (h:dI w aj ah W Y aa ab A R n s t):∃ I,cV w ah I t∧ ∀ ac w' O,Grow I w ac w'→cV w' ah ac O→ad (dz w) w w'∧ ∃ ae,Grow A w ae w'∧dI w' aj ah W Y aa ab ae R n s O:=by
 obtain⟨I,af,ai⟩:=h.oI;refine⟨_,af.min,fun ak J O U al=>⟨U.1.mono fun r _ h=>.inl h.2,?_⟩⟩;exact ai (fun r=>I r∨ak r) J _ ⟨U.1.mono fun r _ h=>h.1,fun r V=>V.elim .inl fun h=>(U.2.1 r h).imp (fun h=>h.1) id,fun r V=>.inl V⟩ (al.mono fun r h=>.inr h)
set_option maxHeartbeats 2000000 in
theorem zH {ae:Nat} {ai al am:x1} {A R:ag} {n:aS} {s:aF} {t:aH} {U:x1} (h:dI w aj ah ae ai al am A R n s t) (ao:aB .i64 w U l) (aD:∀ r,leads U r→¬A r) (be:t.cells.length+l.length≤100000000) (bf:t.olds.length+l.length≤100000000) (hm:t.marks.length≤100000000):
  af x3 vL [.pointer (some ⟨aj,0,none⟩),U] w fun v w'=>v= .int .i64 (t.cells.length:Int)∧ad (dz w) w w'∧ ∃ W,Grow A w W w'∧dI w' aj ah ae ai al am W R n s (gU t l):=by
 refine az func131 ?_;obtain⟨_,aE,aG,ge,L,E,_,w0,ap,_⟩:=id h;obtain⟨aJ,aq,av⟩:=h.qZ;rw[aw,V bM.p rfl,aa (by kernel_rfl) (ap.cell (o:=0+1) rfl),aL au.u ao];refine (Ik (n:=l.length) aq ⟨by omega,by omega,hm⟩ (by omega)).mono ?_;rintro _ J _ ⟨rfl,aK,aM,aN⟩;obtain⟨aO,aP,ay,aQ⟩:=av aK J _ aM aN;have aA:∀ {W:ag} {w':x2},Grow A w W w'→aB .i64 w' U l:=fun aR=>hW ao aR.1 fun r aT a aU c aV aW=>aD r ⟨a,aU,c,aV,aW⟩ aT;rw[aL au.u (aA ay)];have aX:=ao.le;refine bJ.range l.length (fun i I=>ad (dz w) w I∧ ∃ O,Grow A w O I∧dI I aj ah ae ai al am O R n s (eS t l i)) aX ⟨aO,aP,ay,aQ⟩ ?_ ?_
 ·rintro i I k hi ⟨ax,O,Y,ac⟩ aY;rw[an,ab];refine⟨fun _=>?_,fun h=>by omega⟩;obtain⟨x,aC⟩:∃ x,l[i]? =some x:=⟨_,y0 hi⟩;rw[aZ au.u ak.i (by kernel_rfl) (aA Y) aC];obtain⟨_,aE,aG,ge,L,E,_,w0,ap,_⟩:=id ac;obtain⟨aJ,aq,av⟩:=ac.qZ;have bg:=oJ t l i;have bh:=oK t l i;have a1:=lO t l i;rw[aw,V bM.p rfl,aa (by kernel_rfl) (ap.cell (o:=0+1) rfl),aI,wrap_i64 (by omega) (by omega)];refine (oD (i:=t.cells.length+i) aq (by omega) (by omega) ⟨by omega,by omega,by rw[a1];exact hm⟩).mono ?_;rintro _ a2 _ ⟨rfl,a6,a7,a8⟩;obtain⟨ba,bb,bc,bd⟩:=av a6 a2 _ a7 a8;rw[aI];refine aY _ ⟨oL ax ba,bb,Y.trans bc,?_⟩;have e:eS t l (i+1)=(eS t l i).set (t.cells.length+i) x:=by
   show (eS t l i).set _ (l.getD i 0)=_;rw[u4,aC];rfl
  rw[e];exact bd
 ·rintro I k ⟨ax,O,Y,ac⟩;rw[an,ab];exact⟨fun h=>by omega,fun _=>⟨rfl,ax,O,Y,ac⟩⟩
def fw (s:aF) (sc szs cs:List Int):aF:={s with funs:=s.funs++[⟨sc,szs,1,cs⟩]}
def kd (s:aF) (t:aH) (cs:List Int):aH:=(gU t (1::cs)).set 1 ((s.funs.length+1:Nat):Int)
theorem zI {s:aF} {t:aH} {sc szs cs:List Int} (h:t.bW=s.cells):(kd s t cs).bW=(fw s sc szs cs).cells:=by
 unfold kd fw;rw[aH.mB,zF,h,←Io];rfl
set_option maxHeartbeats 4000000 in
theorem zJ {bt:Nat} {bu a1 bw:x1} {A R:ag} {n:aS} {s:aF} {t:aH} {ay:x1} {sc szs cs:List Int} {g b5:Nat} {aC:x1}
  (h:dI w aj ah bt bu a1 bw A R n s t) (cz:t.bW=s.cells) (cA:aB .i64 w ay sc) (dH:∀ r,leads ay r→¬A r) (bx:cB w g b5 aC szs k cs) (b6:¬A g∧¬A b5∧ ∀ r,leads aC r→¬A r) (dJ:sc.length≤1000)
  (bd:t.cells.length+cs.length+1≤100000000) (bz:t.olds.length+cs.length+1≤100000000) (hm:t.marks.length≤100000000) (dK:s.funs.length≤1000000):
  af x3 Cg [.pointer (some ⟨aj,0,none⟩),ay,.pointer (some ⟨g,0,none⟩)] w fun v w'=>v= .int .i64 (s.funs.length:Int)∧ad (dz w) w w'∧ ∃ bi R' bL,Grow A w bi w'∧dI w' aj ah bt bu bL bw bi R' n (fw s sc szs cs) (kd s t cs)∧(∀ r,R r→R' r)∧ ∀ r,R' r→R r∨leads aC r∨w.heap.size≤r:=by
 have dL:t.cells.length=s.cells.length:=by rw[←cz];simp[aH.bW]
 have dM:=oF s;have cC:dW (fw s sc szs cs) s.funs.length=t.cells.length:=by
  unfold dW fw;simp only[List.take_left];omega
 have cD:∀ j,j<s.funs.length→dW (fw s sc szs cs) j=dW s j:=fun j bN=>by
  unfold dW fw;simp only[List.take_append_of_le_length (show j≤s.funs.length by omega)]
 have cE:gT (fw s sc szs cs)=gT s:=rfl;refine az func133 ?_;refine c3 (fun J=>ad (dz w) w J∧ ∃ bi R' bL,Grow A w bi J∧dI J aj ah bt bu bL bw bi R' n (fw s sc szs cs) (gU t (1::cs))∧(∀ r,R r→R' r)∧ ∀ r,R' r→R r∨leads aC r∨w.heap.size≤r) ?_ ?_
 ·rintro J ⟨cF,dN,cG,cI,cJ,cK,cL,cM⟩;intro dO bO _ _;have b7:=cK.ext bO;obtain⟨_,bA,bP,ge,L,E,_,w0,aL,_,_,_,⟨bj,bB⟩,_⟩:=id b7;have bC:L.length=s.funs.length+1:=by rw[bB.1];simp[fw]
  rw[aw,V bM.p rfl,aa (by kernel_rfl) (aL.cell (o:=0+1) rfl),aw,V bM.p rfl,aa (by kernel_rfl) (aL.cell (o:=0+3) rfl),ef en.u bj];obtain⟨b8,cN,cO⟩:=b7.qZ;have cP:=oJ t (1::cs) (1::cs).length;have cQ:=oK t (1::cs) (1::cs).length;have cR:=lO t (1::cs) (1::cs).length;simp only[j4] at cP cQ;refine (oD (i:=1) (y:=1) cN rfl (by show 1<(eS _ _ _).cells.length;simp only[j4];omega) ⟨by show (eS _ _ _).cells.length≤_;simp only[j4];omega,by show (eS _ _ _).olds.length≤_;simp only[j4];omega,by show (eS _ _ _).marks.length≤_;rw[cR];exact hm⟩).mono ?_;rintro _ cS _ ⟨rfl,cT,cU,cV⟩;obtain⟨cW,cX,cY,b9⟩:=cO cT cS _ cU cV;obtain⟨_,bA,bP,ge,cZ,E,_,w0,aL,_,_,_,⟨bj,c0⟩,_⟩:=id b9;have dP:cZ.length=s.funs.length+1:=by rw[c0.1];simp[fw]
  rw[aw,V bM.p rfl,aa (by kernel_rfl) (aL.cell (o:=0+3) rfl),ef en.u bj,dd,wrap_i64 (by omega) (by omega)];refine⟨by congr 1;omega,oL cF (jp bO cW),cX,cG,cI,cJ.trans ((Grow.ext bO).trans cY),?_,cL,cM⟩;have e:kd s t cs=(gU t (1::cs)).set 1 (L.length:Int):=by unfold kd;rw[bC]
  rw[e];exact b9
 intro c1 c2;intro aV a2 _ _;have ca:=h.ext a2;obtain⟨_,bA,bP,ge,L,E,_,w0,aL,_⟩:=id ca;rw[aw,V bM.p rfl,aa (by kernel_rfl) (aL.cell (o:=0+3) rfl)];have z4:=a2.size;have bD:∀ {ab:x2} {aG aD:x1} {be aI:Nat},Ext aV ab→w.heap.size≤be→w.heap.size≤aI→am .i64 U ab be aG sc→am .i64 ak ab aI aD (1::cs)→(∀ r,leads aG r∨leads aD r→¬A r)→
   af x3 vL [.pointer (some ⟨aj,0,none⟩),aD] ab fun c4 aM=>
    (Ext aV aM∨bb x3 (x6 en (.pointer (some ⟨aj,0+3,none⟩))) a1 aM∧bb x3 (x7 bM (.pointer (some ⟨aj,0,none⟩)) 3) (.pointer (some ⟨aj,0+3,none⟩)) aM∧bb x3 (aX (.pointer (some ⟨aj,0,none⟩))) (.pointer (some ⟨aj,0,none⟩)) aM∧True)∧
    I x3 (Instr.build dw #[(0,aG),(1,.agg #[aC]),(2,c4)]) aM fun t22=>
    ax x3 (Z4 en 1 #[(0,t22)]) aM fun c5 aN=>
     (Ext aV aN∨bb x3 (x6 en (.pointer (some ⟨aj,0+3,none⟩))) a1 aN∧bb x3 (x7 bM (.pointer (some ⟨aj,0,none⟩)) 3) (.pointer (some ⟨aj,0+3,none⟩)) aN∧bb x3 (aX (.pointer (some ⟨aj,0,none⟩))) (.pointer (some ⟨aj,0,none⟩)) aN∧True)∧
    ax x3 (l9 #[en,en] en #[a1,c5]) aN fun c6 bE=>
     I x3 (aX (.pointer (some ⟨aj,0,none⟩))) bE fun t25=>
     I x3 (x7 bM t25 3) bE fun c7=>
     ax x3 (o3 en c7 c6) bE fun(_:Unit) a7=>
      c1 a7:=by
  intro ab aG aD be aI ac cc aE al ao bR;have c8:=ca.ext ac;refine (zH c8 ao.ls (fun r W=>bR r (.inr W)) (by simp only[j4];omega) (by simp only[j4];omega) hm).mono ?_;rintro _ aM _ ⟨rfl,da,bk,bf,db⟩;obtain⟨⟨cd,ce,dc,cg⟩,bA,bP,ge,L,E,b8,w0,aL,⟨de,df,ch⟩,⟨dg,ci,cj,aW⟩,bS,⟨bj,bB⟩,bT,dh⟩:=id db;have aT:am .i64 U aM be aG sc:=a6 al bf.1 fun r W=>bR r (.inl W);have bF:am .i64 U ab (Classical.choose (show ∃ gs,am .i64 U w gs aC szs from by obtain⟨⟨_,gs,_,q,_⟩,_⟩:=bx;exact⟨gs,q⟩)) aC szs:=((Classical.choose_spec (show ∃ gs,am .i64 U w gs aC szs from by obtain⟨⟨_,gs,_,q,_⟩,_⟩:=bx;exact⟨gs,q⟩)).ext a2).ext ac;have di:=a6 bF bf.1 b6.2.2;refine⟨.inr (qY (off:=3) (z:=3) aL (fun K=>by rw[V bM.p rfl]) (by kernel_rfl) rfl),?_⟩;rw[cH (cs:=#[aG,aC,.int .i64 (t.cells.length:Int)]) (by obtain⟨_,_,_,rfl⟩:=bH al.ls;obtain⟨_,_,_,rfl⟩:=bH bF.ls;kernel_rfl)];let a:m4:=⟨aG,aC,t.cells.length⟩;have dj:∀ u∈kc a,u.oneCell'=true:=by
   intro u hu;simp[kc] at hu;rcases hu with rfl|rfl|rfl
   ·exact al.ls.cells.2
   ·exact bF.ls.cells.2
   ·rfl
  refine gp (f:=kc) (a:=a) en.u dw.i (by omega) rfl rfl fun dQ dR aN dS an dk=>?_;refine⟨.inr (qY (off:=3) (z:=3) (aL.ext an) (fun K=>by rw[V bM.p rfl]) (by kernel_rfl) rfl),?_⟩;have bm:=bj.ext an;have bC:L.length=s.funs.length:=bB.1;refine gN (f:=kc) (a:=a) en.u dw.i rfl bm (by simpa using dk.sl) dj (by omega) (by omega) fun ck dl bE bo dm cl=>?_;have bp:=aL.ext an;have cm:=bp.O cl fun he=>cb bm bp (by decide) he;rw[aw,V bM.p rfl];refine bl en.i (dD bo.sl).1 (dD bo.sl).2 cm (by simp) fun a7 bU dT bV=>?_;have bV:ae a7 aj bM [.pointer (some ⟨bt,0,none⟩),.pointer (some ⟨ah,0,none⟩),bu,ck,bw]:=bV;have aO:ad (fun r=>leadsTo a1 r∨r=aj) aN a7:=(cl.mono fun r _ h=>.inl h).trans (bU.mono fun r _ h=>.inr h);have z9:=ac.size;have dU:=bf.1.size;have dV:=an.size;have dX:=aO.size;have bX:∀ r,(leadsTo a1 r∨r=aj)→bk r:=fun r W=>W.elim (fun W=>(aW r (.inr (.inl W))).1) fun W=>W▸cd;have bY:∀ r,(leadsTo a1 r∨r=aj)→¬R r:=fun r W=>ce r (bX r W);have dn:ad (dz w) w a7:=oL (jp (a2.trans ac) da) (jp an (aO.mono fun r _ W=>by
   rcases W with W|rfl
   ·obtain⟨_,c,bd⟩:=c9 bm W;exact .inl ⟨_,c,‹r=_› ▸bd,by decide⟩
   ·exact .inl ⟨_,_,bp,by decide⟩))
  let dp:ag:=fun r=>bk r∨(aN.heap.size≤r∧r<a7.heap.size);let bZ:ag:=fun r=>R r∨(leads aC r∧r<aM.heap.size)∨(leads aG r∧r<aM.heap.size);have dY:∀ r,r<w.heap.size→bk r→A r:=fun r W h=>(bf.2.1 r h).elim id fun h=>by omega
  have b0:∀ r,leads aG r→w.heap.size≤r∧r<ab.heap.size:=fun r W=>by obtain⟨h1,bg⟩:=bn al W;omega
  have cn:∀ r,leads aC r→r<ab.heap.size:=fun r W=>by obtain⟨h1,bg⟩:=bn bF W;omega
  have bG:∀ r,leads aG r∨leads aC r→¬bk r:=fun r W dq=>by
   rcases bf.2.1 r dq with h|h
   ·rcases W with W|W
    ·exact bR r (.inl W) h
    ·exact b6.2.2 r W h
   ·rcases W with W|W
    ·have:=b0 r W;omega
    ·have:=cn r W;omega
  refine c2 _ ⟨dn,dp,bZ,ck,(Grow.ext (a2.trans ac)).trans (bf.trans ((Grow.ext an).trans ⟨aO.mono fun r _ W=>bX r W,fun r W=>W.imp id And.left,fun r W=>.inl W⟩)),?_,fun r W=>.inl W,fun r W=>?_⟩
  rotate_left
  ·rcases W with W|W|W
   ·exact .inl W
   ·exact .inr (.inl W.1)
   ·exact .inr (.inr (b0 r W.1).1)
  have cp:∀ {v:x1} {bq:Nat} {l:List Int},am .i64 U aN bq v l→(∀ r,leads v r→¬bk r)→am .i64 U a7 bq v l:=fun hm dr=>a6 hm aO fun r W ai=>dr r W (bX r ai);have cq:∀ r,bZ r→r<aN.heap.size:=fun r W=>by
   rcases W with W|W|W
   ·have:=dc r W;omega
   ·omega
   ·omega
  refine⟨⟨.inl cd,fun r W aY=>?_,fun r W=>by have:=cq r W;omega,fun r W=>W.elim (fun W=>by have:=cg r W;omega) And.right⟩,bA,dl,ge,L++[a],E,b8,w0,bV,⟨de,oH (df.trans an) aO fun r o W bz ai=>bY r ai (ch r o W bz),fun r o W bz=>.inl (ch r o W bz)⟩,⟨(dg.ext an).O aO fun r W ai=>?_,fun r W=>.inl (ci r W),cj,fun r W=>?_⟩,?_,⟨bo.O bU fun r W he=>?_,?_⟩,(bT.ext an).O aO fun r W ai=>?_,?_⟩
  ·have:=cq r aY;rcases W with W|W
   ·rcases aY with aY|aY|aY
    ·exact ce r W aY
    ·exact bG r (.inr aY.1) W
    ·exact bG r (.inl aY.1) W
   ·omega
  ·rcases ai with ai|rfl
   ·exact (aW r (.inr (.inl ai))).2 W
   ·exact cj W
  ·rcases W with W|W|W
   ·exact⟨.inl (aW r (.inl W)).1,(aW r (.inl W)).2⟩
   ·obtain⟨h1,bg⟩:=bo.leads W;rcases dm r W with h|h
    ·exact⟨.inl (aW r (.inr (.inl h))).1,(aW r (.inr (.inl h))).2⟩
    ·refine⟨.inr ⟨h,by have:=bU.size;omega⟩,fun ds=>?_⟩;have:=cg r (ci r ds);omega
   ·exact⟨.inl (aW r (.inr (.inr W))).1,(aW r (.inr (.inr W))).2⟩
  ·rw[cE];exact a6 (bS.ext an) aO fun r W ai=>by
    rcases ai with ai|rfl
    ·obtain⟨rfl,c,bd⟩:=c9 bm ai;exact bQ (bS.ext an) bd (by decide) W rfl
    ·exact bQ (bS.ext an) bp (by decide) W rfl
  ·have he:r=aj:=he;subst he;exact cb bo cm (by decide) W
  ·refine⟨by rw[o5,bC];simp[fw],fun j x f bI a8=>?_⟩;have a8:(s.funs++[⟨sc,szs,1,cs⟩])[j]? =some f:=a8;by_cases bN:j<s.funs.length
   ·rw[Z7 (by omega)] at bI;rw[Z7 bN] at a8;obtain⟨dt,du,dv⟩:=((((h6.O bB (an.O fun _=>False) fun _ _ _ h=>h).O aO fun r _ W ai=>bY r ai W).mono (R':=bZ) fun r W=>.inl W)).2 j x f bI a8;exact⟨dt,du,by rw[cD j bN];exact dv⟩
   ·have b1:j=s.funs.length:=by have:=(x4.1 a8).1;simp at this;omega
    rw[Z8 (by omega),bC,b1,V2] at bI;rw[Z8 (by omega),b1,V2] at a8;cases bI;cases a8;refine⟨⟨⟨_,cp (aT.ext an) fun r W=>bG r (.inl W)⟩,fun r W=>.inr (.inr ⟨W,?_⟩)⟩,⟨⟨_,cp (di.ext an) fun r W=>bG r (.inr W)⟩,fun r W=>.inr (.inl ⟨W,?_⟩)⟩,?_⟩
    ·have:=b0 r W;omega
    ·have:=cn r W;omega
    ·rw[b1,cC]
  ·rcases ai with ai|rfl
   ·obtain⟨rfl,c,bd⟩:=c9 bm ai;exact cb (bT.ext an) bd (by decide) W
   ·exact cb (bT.ext an) bp (by decide) W
  ·exact ((jo.O dh (an.O fun _=>False) fun _ _ _ h=>h).O aO fun r _ W ai=>bY r ai W).mono fun r W=>.inl W
 have bh:=bx.ext a2;have cr:=cA.ext a2;have dy:∀ r,A r→r<w.heap.size:=h.1.2.2.2;obtain⟨_,⟨_,_,dZ⟩,ea,eb⟩:=id bx;have ec:cs.length≤4096:=by omega
 have bJ:∀ {aP:x2} {ba bc:x1} {aA:Nat} {K:x1→x2→Prop},Ext aV aP→aV.heap.size≤aA→am .i64 ak aP aA ba [1]→aB .i64 aP bc cs→
   (∀ aD aI ab,Ext aV ab→ad (fun r=>r=aA) aP ab→w.heap.size≤aI→am .i64 ak ab aI aD (1::cs)→(Ext aV ab→K aD ab))→ax x3 (l9 #[au,au] au #[ba,bc]) aP K:=by
  intro aP ba bc aA K Y bK aQ aU dA;refine hb au.u ak.i rfl aQ aU (by simp;omega) (by simp;omega) fun aD aI ab aE ao aR=>?_;have ac:Ext aV ab:=Y.then aR fun r W he=>by have he:r=aA:=he;omega
  have dC:=Y.size;exact dA aD aI ab ac aR (by omega) ao ac
 have aZ:∀ {v:x1} {bq:Nat} {dE:o4} {e:r8} {dF:x2} {l:List Int},am dE e dF bq v l→w.heap.size≤bq→ ∀ r,leads v r→¬A r:=fun hm ed r W dG=>by
  obtain⟨h1,_⟩:=bn hm W;have:=dy r dG;omega
 refine⟨?_,?_⟩
 ·refine (hc cr (by omega)).mono ?_;rintro aG ct _ ⟨ap,be,cc,al⟩;have z5:=ap.size;refine⟨.inl ap,?_,?_⟩
  ·refine (lC (bh.ext ap)).mono ?_;rintro _ cu _ ⟨rfl,aq⟩;have aJ:=ap.trans aq;have ee:=aJ.size;have eg:=aq.size;have cw:=(bh.ext ap).ext aq;refine⟨.inl aJ,?_,?_⟩
   ·refine dx au.u ak.i rfl fun ba aA aP bK Y aQ=>?_;refine⟨.inl (aJ.trans Y),?_⟩;refine (kN (cw.ext Y)).mono ?_;rintro bc b2 _ ⟨av,b3,b4,aU⟩;have aK:=(aJ.trans Y).trans av;refine⟨.inl aK,?_⟩;refine bJ aK (by omega) (aQ.ext av) aU.ls fun aD aI ab ac aR aE ao _=>⟨.inl ac,?_⟩;have aT:=a6 (((al.ext aq).ext Y).ext av) aR fun r W he=>by have he:r=aA:=he;obtain⟨h1,bg⟩:=bn al W;omega
    exact bD ac (by omega) aE aT ao fun r W=>W.elim (aZ al (by omega) r) (aZ ao aE r)
   ·refine (kN cw).mono ?_;rintro bc aP _ ⟨Y,b3,b4,aU⟩;refine⟨.inl (aJ.trans Y),?_⟩;have dC:=Y.size;refine dx au.u ak.i rfl fun ba aA b2 bK av aQ=>?_;have aK:=(aJ.trans Y).trans av;refine⟨.inl aK,?_⟩;refine bJ aK (by omega) aQ (aU.ls.ext av) fun aD aI ab ac aR aE ao _=>⟨.inl ac,?_⟩;have aT:=a6 (((al.ext aq).ext Y).ext av) aR fun r W he=>by have he:r=aA:=he;obtain⟨h1,bg⟩:=bn al W;omega
    exact bD ac (by omega) aE aT ao fun r W=>W.elim (aZ al (by omega) r) (aZ ao aE r)
  ·refine dx au.u ak.i rfl fun ba aA cu bK aq aQ=>?_;have aJ:=ap.trans aq;refine⟨.inl aJ,?_⟩;refine (lC ((bh.ext ap).ext aq)).mono ?_;rintro _ aP _ ⟨rfl,Y⟩;have br:=aJ.trans Y;refine⟨.inl br,?_⟩;refine (kN (((bh.ext ap).ext aq).ext Y)).mono ?_;rintro bc b2 _ ⟨av,b3,b4,aU⟩;have aK:=br.trans av;refine⟨.inl aK,?_⟩;refine bJ aK (by omega) ((aQ.ext Y).ext av) aU.ls fun aD aI ab ac aR aE ao _=>⟨.inl ac,?_⟩;have aT:=a6 (((al.ext aq).ext Y).ext av) aR fun r W he=>by have he:r=aA:=he;obtain⟨h1,bg⟩:=bn al W;omega
   exact bD ac (by omega) aE aT ao fun r W=>W.elim (aZ al (by omega) r) (aZ ao aE r)
 ·refine dx au.u ak.i rfl fun ba aA ct bK ap aQ=>?_;refine⟨.inl ap,?_⟩;have z5:=ap.size;have eh:aA<ct.heap.size:=mY aQ (by simp);refine (hc (cr.ext ap) (by omega)).mono ?_;rintro aG cu _ ⟨aq,be,cc,al⟩;have aJ:=ap.trans aq;refine⟨.inl aJ,?_⟩;refine (lC ((bh.ext ap).ext aq)).mono ?_;rintro _ aP _ ⟨rfl,Y⟩;have br:=aJ.trans Y;refine⟨.inl br,?_⟩;refine (kN (((bh.ext ap).ext aq).ext Y)).mono ?_;rintro bc b2 _ ⟨av,b3,b4,aU⟩;have aK:=br.trans av;refine⟨.inl aK,?_⟩;refine bJ aK (by omega) (((aQ.ext aq).ext Y).ext av) aU.ls fun aD aI ab ac aR aE ao _=>⟨.inl ac,?_⟩;have aT:=a6 ((al.ext Y).ext av) aR fun r W he=>by have he:r=aA:=he;obtain⟨h1,bg⟩:=bn al W;omega
  exact bD ac (by omega) aE aT ao fun r W=>W.elim (aZ al (by omega) r) (aZ ao aE r)
theorem fx {P:X5} {e ag:r8} {k:o4} {b g:Nat} {m:List Int} {K:x1→x2→Prop} (Y:P.underlying t=some (.slice e)) (hi:aJ P e 1 b z) (aa:z.cells.size=1)
  (h:am k e w g v l) (ab:aB k w x m) (ac:(l.length+m.length)*b≤140737488355328) (ae:l.length+m.length≤9223372036854775807)
  (af:∀ I J w',am k e w' J I (l++m)→(∀ r,leads I r→leads v r∨w.heap.size≤r)→ad (fun r=>leads v r) w w'→K I w'):ax P (l9 #[t,t] ag #[v,x]) w K:=by
 rcases h.2 with⟨U,ah⟩|⟨cap,cs,U,ak,al⟩
 ·have ai:l=[]:=b8 ah;subst ai;have h':am k e w w.heap.size v []:=by rw[U];exact am.nil _ _ _ _
  refine hb Y hi aa h' ab ac ae fun I J w' V hm W=>af I J w' hm (fun r O=>.inr ?_) (W.mono fun r O he=>by have he:r=w.heap.size:=he;omega);obtain⟨aj,_⟩:=bn hm O;omega
 ·refine hb Y hi aa h ab ac ae fun I J w' V hm W=>af I J w' hm (fun r O=>?_) (W.mono fun r O he=>⟨_,_,_,U,he.symm⟩);obtain⟨aj,_⟩:=bn hm O;rcases V with V|V
  ·exact .inl ⟨_,_,_,U,by show g=r;omega⟩
  ·exact .inr (by omega)
def addVar (s:aF) (u:List Int):aF:={s with vars:=s.vars++[newVar u]}
theorem Iw (s:aF) (u:List Int):gT (addVar s u)=gT s++[((3+(s.vars.flatMap fZ).length:Nat):Int)]:=by
 unfold gT addVar;rw[o5,U8,List.range_succ,b6];congr 1
 ·apply List.map_congr_left;intro i hi;have:=List.mem_range.1 hi;unfold eG;simp only[List.take_append_of_le_length (show i≤s.vars.length by omega)]
 ·simp[eG]
theorem Ix {s:aF} {u:List Int} (I:s.funs=[]):(addVar s u).cells=s.cells++(0::0::u):=by
 unfold aF.cells addVar gS;simp only[I,List.flatMap_nil,V9,List.flatMap_append,List.flatMap_singleton,V7];rfl
def dY (n:aS) (i j:Nat):aF:=⟨n.zero,(n.unary.take i).map newVar,(n.funs.take j).map (iE n.sizes),[]⟩
theorem zK {n:aS} {i:Nat} {u:List Int} (h:n.unary[i]? =some u):dY n (i+1) 0=addVar (dY n i 0) u:=by
 unfold dY addVar;simp only[u9,h,Z0,b6,List.map_singleton]
theorem Iy {n:aS} {i:Nat} {g:ca} (h:n.funs[j]? =some g):dY n i (j+1)=fw (dY n i j) g.1 (bd n.sizes g.1) g.2:=by
 unfold dY fw;simp only[u9,h,Z0,b6,List.map_singleton];rfl
theorem tA (n:aS):dY n n.unary.length n.funs.length=dH n:=by
 unfold dY dH;rw[o9,o9]
theorem tB {α β:Type} {f:α→List β} {b:Nat}:∀ {L:List α},(∀ x∈L,(f x).length≤b)→(L.flatMap f).length≤L.length*b
 |[],_=>by simp
 |x::L,h=>by
  rw[W9,o5,j4,V4];have:=tB (L:=L) fun y I=>h y (.tail _ I);have:=h x (.head _);omega
theorem q0 {n:aS} (I:h3 n) (ac:n.funs.length≤256) (i j:Nat):(dY n i j).cells.length≤2000000:=by
 rw[oF];have h1:=tB (f:=fZ) (b:=34) (L:=(dY n i j).vars) fun x O=>by
  obtain⟨u,hu,rfl⟩:=j5.1 (show x∈(n.unary.take i).map newVar from O);obtain⟨p,U⟩:=Y2.1 (List.mem_of_mem_take hu);have ad:=I.iB;have ae:=(x4.1 U).1;obtain⟨z,V⟩:∃ z,n.sizes[p]? =some z:=⟨_,y0 (by omega)⟩;have Y:=(I.unary p z u V U).1;have J:=I.sizes.2.2 z (x5 V);show u.length+2≤34;omega
 have Y:=tB (f:=fG) (b:=4097) (L:=(dY n i j).funs) fun x O=>by
  obtain⟨g,aa,rfl⟩:=j5.1 (show x∈(n.funs.take j).map (iE n.sizes) from O);have J:=(I.funs g (List.mem_of_mem_take aa)).1;have W:=J.len;have ab:=J.small;show g.2.length+1≤4097;omega
 have J:(dY n i j).vars.length≤64:=by
  show ((n.unary.take i).map newVar).length≤64;rw[u5,o8];have:=I.iB;have:=I.sizes.2.1;omega
 have W:(dY n i j).funs.length≤256:=by
  show ((n.funs.take j).map (iE n.sizes)).length≤256;rw[u5,o8];omega
 have ab:=X0 34 J;have af:=X0 4097 W;omega
def Plain (t:aH):Prop:=t.marks=[]∧t.olds=[]∧gG t []
theorem Plain.set {t:aH} (h:Plain t) (i:Nat) (x:Int):Plain (t.set i x):=⟨(aH.tw _ _ _).trans h.1,(aH.tz h.1 _ _).trans h.2.1,h.2.2.set⟩
theorem Plain.lay {t:aH} (h:Plain t) (l:List Int):Plain (gU t l):=⟨(lO _ _ _).trans h.1,(zD h.1 _ _).trans h.2.1,h.2.2.eS l _⟩
theorem Plain.put {s:aF} {t:aH} (h:Plain t) (cs:List Int):Plain (kd s t cs):=(h.lay _).set _ _
def Iz (w:x2) (n:aS) (v:x1) (w':x2):Prop:=Ext w w'∧ ∃ aj ah A R t,v= .pointer (some ⟨aj,0,none⟩)∧StateM w' aj ah A R n (dH n) t∧t.bW=(dH n).cells∧Plain t∧ ∀ r,A r→w.heap.size≤r
set_option maxHeartbeats 4000000 in
theorem IA {Y:Nat} {n:aS} (h:e7 w Y n) (ag:h3 n) (bq:n.funs.length≤256):af x3 vz [.pointer (some ⟨Y,0,none⟩)] w (Iz w n):=by
 have b3:=ag.iB;have c4:=ag.sizes.2.1;refine az func48 ?_;rw[cI kA.u];simp only[Z1,aP];refine (Il (n:=3) (by omega)).mono ?_;rintro _ J _ ⟨aQ,ah,rfl,b4⟩;rw[cH (cs:=#[.pointer (some ⟨Y,0,none⟩),.pointer (some ⟨ah,0,none⟩),.slice none 0 0,.slice none 0 0,.slice none 0 0]) (by kernel_rfl)];refine bL fun aj br c5 aB aC=>?_;have aC:ae br aj bM [.pointer (some ⟨Y,0,none⟩),.pointer (some ⟨ah,0,none⟩),.slice none 0 0,.slice none 0 0,.slice none 0 0]:=aC;have c6:=aQ.size;have c7:=aB.size;have c8:=aC.lt;have b5:dI br aj ah Y (.slice none 0 0) (.slice none 0 0) (.slice none 0 0) (fun r=>r=aj∨(w.heap.size≤r∧r<J.heap.size)) (fun r=>r<w.heap.size) n ⟨0,[],[],[]⟩ ⟨r9 3 ⟨0,0⟩,[],[],0⟩:=by
  refine⟨⟨.inl rfl,fun r I aq=>?_,fun r I=>?_,fun r I=>?_⟩,0,0,0,[],[],fun r=>w.heap.size≤r∧r<J.heap.size,w,aC,⟨h,aQ.trans aB,fun r o I _=>(l7.1 I).1⟩,⟨(b4.cut).ext aB,fun r I=>.inr I,fun I=>?_,fun r I=>?_⟩,am.nil _ _ _ _,⟨a1.nil _ _ _ _ _,rfl,fun j x f aD=>by simp at aD⟩,a1.nil _ _ _ _ _,rfl,fun j x f aD=>by simp at aD⟩
  ·have aq:r<w.heap.size:=aq;rcases I with I|I <;> omega
  ·have I:r<w.heap.size:=I;omega
  ·rcases I with I|I <;> omega
  ·omega
  ·rcases I with I|I|I
   ·obtain⟨a,c9,c,ba,da⟩:=I;cases ba
   ·exact (eC I).elim
   ·exact (eC I).elim
 intro db aE _ _;have b6:=b5.ext aE;rw[aw,V bM.p rfl,aa (by kernel_rfl) ((aC.ext aE).cell (o:=0+1) rfl)];refine (Is (h.ext ((aQ.trans aB).trans aE))).mono ?_;rintro _ dc _ ⟨rfl,aR⟩;refine⟨.inl aR,?_⟩;have b7:=b6.ext aR;obtain⟨bb,b8,b9⟩:=b7.oI;refine (oD (i:=0) (y:=0) b8 rfl (by decide) ⟨by simp,by simp,by simp⟩).mono ?_;rintro _ bt _ ⟨_,ca,cb,cc⟩;obtain⟨cd,bu,bc⟩:=b9 ca bt _ cb cc;have bc:=bc.same (zA ⟨0,[],[],[]⟩ n.zero);have z3:=aE.size;have z4:=aR.size;have ce:=((aQ.trans aB).trans aE).trans aR;have bw:Ext w bt:=ce.then bu.1 fun r I he=>by rcases he with he|he <;> omega
 refine (tu (h.ext bw)).mono ?_;rintro _ dd _ ⟨rfl,bx⟩;refine bJ.range n.sizes.length (fun i aT=>∃ A ap t,Ext w aT∧dI aT aj ah Y ap (.slice none 0 0) (.slice none 0 0) A (fun r=>r<w.heap.size) n (dY n i 0) t∧t.bW=(dY n i 0).cells∧Plain t∧ ∀ r,A r→w.heap.size≤r) (by omega)
  ⟨cd,_,_,bw.trans bx,bc.ext bx,?_,?_,fun r I=>?_⟩ ?_ ?_
 ·rw[aH.mB];rfl
 ·exact Plain.set (t:=⟨r9 3 ⟨0,0⟩,[],[],0⟩) ⟨rfl,rfl,rfl,rfl,fun c al=>by rw[(List.mem_replicate.1 al).2];exact o7 _⟩ _ _
 ·rcases bu.2.1 r I with he|he
  ·rcases he with he|he <;> omega
  ·omega
 ·rintro i aT cg hi ⟨A,ap,t,av,bd,aF,aG,aU⟩ ch;obtain⟨u,hu⟩:∃ u,n.unary[i]? =some u:=⟨_,y0 (by omega)⟩;obtain⟨bz,bA⟩:∃ z,n.sizes[i]? =some z:=⟨_,y0 (by omega)⟩;have de:u.length≤32:=by
   have df:=(ag.unary i bz u bA hu).1;have dg:=ag.sizes.2.2 bz (x5 bA);omega
  rw[an,ab];refine⟨fun _=>?_,fun h=>by omega⟩;refine (zy (h.ext av) ag).mono ?_;rintro dh di _ ⟨ci,_,cj⟩;obtain⟨dj,dk,ck⟩:=cj u (by omega) (by rw[Z3];exact hu);intro be bB _ _;have bf:=ci.trans bB;have bC:=bd.ext bf;obtain⟨⟨_,_,_,aJ⟩,cl,bD,ge,L,E,bb,w0,aV,_⟩:=id bC;have dl:=bf.size;have dm:=av.size;rw[aw,V bM.p rfl,aa (by kernel_rfl) (aV.cell (o:=0+2) rfl)];refine nR (l:=[0,0]) au.u ak.i (by omega) rfl (by kernel_rfl) fun cm dn dp dq aW bE=>?_;refine⟨.inl aW,?_⟩;refine fx au.u ak.i rfl bE ((ck.ext bB).ls.ext aW) (by simp;omega) (by simp;omega) fun cn dr cp cq cr ct=>?_;have bF:∀ r,leads cm r→be.heap.size≤r:=fun r I=>by obtain⟨ba,_⟩:=bn bE I;omega
  have aX:Ext be cp:=aW.then ct fun r I he=>by have:=bF r he;omega
  refine⟨.inl aX,?_⟩;have cu:=bC.ext aX;have cw:∀ r,leads cn r→be.heap.size≤r:=fun r I=>by
   rcases cr r I with h|h
   ·exact bF r h
   ·have:=aW.size;omega
  have cz:t.cells.length≤2000000:=by
   have h1:=q0 ag bq i 0;rw[←aF] at h1;unfold aH.bW at h1;rwa [u5] at h1
  have cA:t.olds.length=0:=by rw[aG.2.1];rfl
  have cB:t.marks.length=0:=by rw[aG.1];rfl
  refine (zH cu cq.ls (fun r I W=>by have:=aJ r W;have:=cw r I;omega) (by simp;omega) (by simp;omega) (by omega)).mono ?_;rintro _ ds _ ⟨rfl,_,bg,bh,cC⟩;obtain⟨⟨bG,bH,cD,bI⟩,cl,bD,ge,L,E,bb,w0,aV,⟨cE,cF,bK⟩,⟨cG,bN,bO,aY⟩,cJ,⟨cK,cL⟩,cM,cN⟩:=id cC;refine⟨.inr (qY (off:=2) (z:=2) aV (fun K=>by rw[V bM.p rfl]) (by kernel_rfl) rfl),?_⟩;refine dx (k:=.i64) ac.u U.i rfl fun dt du bP dv ao cO=>?_;have bi:=aV.ext ao;refine⟨.inr (qY (off:=2) (z:=2) bi (fun K=>by rw[V bM.p rfl]) (by kernel_rfl) rfl),?_⟩;have bR:(gT (dY n i 0)).length=i:=by
   unfold gT dY;simp only[u5,List.length_range,o8];omega
  have bS:=cJ.ext ao;refine fx ac.u U.i rfl bS cO.ls (by rw[bR];simp;omega) (by rw[bR];simp;omega) fun bT cP dw aK cQ bU=>?_;have bV:=bi.O bU fun he=>bQ bS bi (by decide) he rfl;rw[aw,V bM.p rfl];refine bl ac.i aK.ls.cells.1 aK.ls.cells.2 bV (by simp) fun bj bk dy bm=>?_;have bm:ae bj aj bM [.pointer (some ⟨Y,0,none⟩),.pointer (some ⟨ah,0,none⟩),bT,.slice none 0 0,.slice none 0 0]:=bm;rw[aI];have al:ad (fun r=>leads ap r∨r=aj) bP bj:=(bU.mono fun r _ h=>.inl h).trans (bk.mono fun r _ h=>.inr h);have dz:=aX.size;have z12:=bh.1.size;have dA:=ao.size;have dC:=al.size;have bX:∀ r,bg r→w.heap.size≤r:=fun r I=>(bh.2.1 r I).elim (aU r) fun h=>by omega
  have bY:∀ r,(leads ap r∨r=aj)→bg r:=fun r I=>I.elim (fun I=>(aY r (.inl I)).1) fun I=>I▸bG;have cR:(dY n (i+1) 0).cells=(dY n i 0).cells++(0::0::u):=by rw[zK hu];exact Ix rfl
  have cS:t.cells.length=3+((dY n i 0).vars.flatMap fZ).length:=by
   have h1:=congrArg T9 aF;rw[oF] at h1;unfold aH.bW at h1;rw[u5] at h1;have:((dY n i 0).funs.flatMap fG).length=0:=by simp[dY]
   omega
  refine ch _ ⟨fun r=>bg r∨(bP.heap.size≤r∧r<bj.heap.size),bT,gU t ([0,0]++u),?_,⟨⟨.inl bG,fun r I aq=>?_,fun r I=>by have:=cD r I;omega,fun r I=>?_⟩,cP,bD,ge,L,E,bb,w0,bm,⟨cE,oH (cF.trans ao) al fun r o I cT ai=>bH r (bY r ai) (bK r o I cT),bK⟩,⟨(cG.ext ao).O al fun r I ai=>?_,fun r I=>.inl (bN r I),bO,fun r I=>?_⟩,?_,⟨(cK.ext ao).O al fun r I ai=>?_,?_⟩,(cM.ext ao).O al fun r I ai=>?_,?_⟩,?_,aG.lay _,fun r I=>?_⟩
  ·exact ((av.trans (bf.trans aX)).then bh.1 fun r I he=>by have:=aU r he;omega).trans ao |>.then al fun r I ai=>by have:=bX r (bY r ai);omega
  ·rcases I with I|I
   ·exact bH r I aq
   ·have aq:r<w.heap.size:=aq;omega
  ·rcases I with I|I
   ·have:=bI r I;omega
   ·exact I.2
  ·rcases ai with ai|rfl
   ·exact (aY r (.inl ai)).2 I
   ·exact bO I
  ·rcases I with I|I|I
   ·have dD:=(bn aK I);rcases cQ r I with h|h
    ·exact⟨.inl (aY r (.inl h)).1,(aY r (.inl h)).2⟩
    ·refine⟨.inr ⟨h,by have:=bk.size;omega⟩,fun cU=>by have:=bI r (bN r cU);omega⟩
   ·exact (eC I).elim
   ·exact (eC I).elim
  ·rw[zK hu,Iw,←cS];exact a6 aK bk fun r I he=>by
    have he:r=aj:=he;subst he;exact bQ aK bV (by decide) I rfl
  ·exact (eC I).elim
  ·refine⟨cL.1,fun j x f aD bo=>?_⟩;have bo:((n.funs.take 0).map (iE n.sizes))[j]? =some f:=bo;simp at bo
  ·exact (eC I).elim
  ·refine⟨cN.1,fun j x e aD he=>?_⟩;have he:([]:List iC)[j]? =some e:=he;simp at he
  ·rw[zF,cR,aF];rfl
  ·rcases I with I|I
   ·exact bX r I
   ·omega
 ·rintro aT cg ⟨A,ap,t,av,bd,aF,aG,aU⟩;rw[an,ab];refine⟨fun h=>by omega,fun _=>?_⟩;refine (zx (h.ext av)).mono ?_;rintro _ dE _ ⟨rfl,bZ⟩;refine bJ.range n.funs.length (fun j aL=>∃ A R aZ t,Ext w aL∧dI aL aj ah Y ap aZ (.slice none 0 0) A R n (dY n n.sizes.length j) t∧t.bW=(dY n n.sizes.length j).cells∧Plain t∧ ∀ r,A r→w.heap.size≤r) (by omega)
   ⟨A,_,_,t,av.trans bZ,bd.ext bZ,aF,aG,aU⟩ ?_ ?_
  ·rintro j aL cV cW ⟨A,R,aZ,t,ax,aM,aA,aN,aO⟩ cX;obtain⟨g,a2⟩:∃ g,n.funs[j]? =some g:=⟨_,y0 cW⟩;have bp:=(ag.funs g (x5 a2)).1;rw[an,ab];refine⟨fun _=>?_,fun h=>by omega⟩;refine (It (h.ext ax) ag a2).mono ?_;rintro ay dF _ ⟨a7,gs,dG,b0⟩;refine (Iv h (ax.trans a7) a2).mono ?_;rintro _ dJ _ ⟨a8,dK,dL,dM,rfl,dN,dO,cY,cZ⟩;have c0:=(aM.ext a7).ext a8;have aJ:∀ r,A r→r<aL.heap.size:=aM.1.2.2.2;have dP:=a7.size;have cz:t.cells.length≤2000000:=by
    have h1:=q0 ag bq n.sizes.length j;rw[←aA] at h1;unfold aH.bW at h1;rwa [u5] at h1
   have cA:t.olds.length=0:=by rw[aN.2.1];rfl
   have cB:t.marks.length=0:=by rw[aN.1];rfl
   have dQ:g.2.length≤4096:=by have:=bp.len;have:=bp.small;omega
   have dR:g.1.length≤6:=bp.scope.2;refine (zJ (sc:=g.1) c0 aA (b0.ls.ext a8) (fun r I W=>by have:=aJ r W;obtain⟨ba,_⟩:=bn b0 I;omega) cY ⟨fun W=>by have:=aJ _ W;omega,fun W=>by have:=aJ _ W;omega,fun r I W=>by have:=aO r W;have:=cZ r I;omega⟩ (by omega) (by omega) (by omega) (by omega) ?_).mono ?_
   ·show ((n.funs.take j).map (iE n.sizes)).length≤_;rw[u5,o8];omega
   rintro _ dS _ ⟨rfl,_,c1,R',c2,b1,c3,dT,dU⟩;rw[aI];have b2:=Iy (i:=n.sizes.length) a2;refine cX _ ⟨c1,R',c2,kd (dY n n.sizes.length j) t g.2,((ax.trans a7).trans a8).then b1.1 (fun r I W=>by have:=aO r W;omega),?_,?_,aN.put _,fun r I=>?_⟩
   ·rw[b2];exact c3
   ·rw[b2];exact zI aA
   ·rcases b1.2.1 r I with h|h
    ·exact aO r h
    ·have:=ax.size;have:=a8.size;omega
  ·rintro aL cV ⟨A,R,aZ,t,ax,aM,aA,aN,aO⟩;rw[an,ab];refine⟨fun h=>by omega,fun _=>?_⟩;have e:dY n n.sizes.length n.funs.length=dH n:=by rw[←b3];exact tA n
   rw[e] at aM aA;exact⟨ax,aj,ah,A,R,t,rfl,⟨Y,ap,aZ,_,aM⟩,aA,aN,aO⟩
set_option maxHeartbeats 2000000 in
theorem IB (ap:Bytes l) (aC:l.length≤100000):af x3 CS [bk l] w fun v w'=>v=iu l∧Ext w w':=by
 refine az func207 ?_;refine gY (fun aJ aK J=>Ext w J∧ ∃ (m:List Int) (s:Int),aJ=bk m∧aK= .int .i64 s∧Bytes m∧m.length≤100000∧mJ l m s) ?_ ?_
 ·rintro _ _ J ⟨aq,m,s,rfl,rfl,al,a2,am⟩;rw[lr cz.u,a8,ab];refine⟨fun au=>?_,fun au=>?_⟩
  ·have aw:m=[]:=b8 (by omega);exact⟨by rw[qd am (by rw[aw];rfl)],aq⟩
  have aw:m≠[]:=fun h=>au (by rw[h];rfl);refine md.range m.length (fun i _ _ ax ay V=>Ext J V∧ ∃ (n:Int) (O:Bool),ax= .int .u64 n∧ay= .bool O∧kH n O ((m.take i).foldl ed 0)∧(m.take i).all fg=true) (by omega) ⟨Ext.refl _,0,false,rfl,rfl,Ee,rfl⟩ ?_ ?_
  ·rintro i aL t3 _ _ V aN hi ⟨ag,n,O,rfl,rfl,Y,ah⟩ aO;obtain⟨b,aa⟩:∃ b,m[i]? =some b:=⟨_,y0 hi⟩;have a6:=al b (x5 aa);rw[lr cz.u,an,ab];refine⟨fun _=>?_,fun h=>by omega⟩;refine su (fun _ _ ax ay W=>Ext J W∧ ∃ (n:Int) (O:Bool),ax= .int .u64 n∧ay= .bool O∧kH n O ((m.take (i+1)).foldl ed 0)∧(m.take (i+1)).all fg=true) ?_ ?_
   ·rintro a7 ba a3 a4 W aQ;rw[aI];exact aO _ _ _ _ _ aQ
   intro aR ad;refine aM (fun v W=>V=W∧v= .bool (!fg b)) ?_ ?_
   rotate_left
   ·intro aA U;rw[nS rfl cz.u al aa,an,ab];refine⟨fun h=>U _ _ ⟨rfl,by unfold fg;rw[decide_eq_false (by omega)];rfl⟩,fun h=>?_⟩;rw[nS rfl cz.u al aa,bA];refine U _ _ ⟨rfl,?_⟩;unfold fg;congr 1;by_cases aD:57<b
    ·rw[decide_eq_true aD,decide_eq_false (by omega)];rfl
    ·rw[decide_eq_false aD,decide_eq_true (by omega)];rfl
   rintro _ _ ⟨rfl,rfl⟩;cases aB:fg b with
   |false=>
    rw[X4,bC];exact⟨by rw[qd am (xz aa aB)],aq.trans ag⟩
   |true=>
    rw[Y4,aP];have aS:=of_decide_eq_true aB;have ao:=Ed Y aS;rw[xx aa,xw aa,ah,aB] at ad;have aT:=Y.1;have aU:=Y.2.1;refine aM (fun v W=>V=W∧v= .bool (O||decide (461168601842738790<n))) ?_ ?_
    rotate_left
    ·intro aA U;rw[bA,ab];refine⟨fun h=>U _ _ ⟨rfl,by rw[decide_eq_true h,Bool.or_true]⟩,fun h=>U _ _ ⟨rfl,by rw[decide_eq_false h,Bool.or_false]⟩⟩
    rintro _ _ ⟨rfl,rfl⟩;by_cases ai:O=true∨461168601842738790<n
    ·have ac:(O||decide (461168601842738790<n))=true:=by rcases ai with h|h <;> simp[h]
     rw[if_pos ai,ac] at ao;rw[ac,bc,Y4,aP];exact ad _ _ _ _ _ ⟨ag,n,true,rfl,rfl,ao,rfl⟩
    ·have ac:(O||decide (461168601842738790<n))=false:=by
      cases O with
      |true=>exact absurd (.inl rfl) ai
      |false=>simp;omega
     rw[if_neg ai,ac] at ao;have bb:¬461168601842738790<n:=fun h=>ai (.inr h);rw[ac,bc,X4,bC,e0,nS rfl cz.u al aa,dd,wrap_u8 (by omega) (by omega),e1 b5.u eb.u,wrap_u64 (by omega) (by omega),wrap_u64 (by omega) (by omega),aI,wrap_u64 (by omega) (by omega)];exact ad _ _ _ _ _ ⟨ag,_,false,rfl,rfl,ao,rfl⟩
  ·rintro aL t3 _ _ V aN ⟨ag,n,O,rfl,rfl,Y,ah⟩;rw[o9] at ah Y;rw[lr cz.u,an,ab];refine⟨fun h=>by omega,fun _=>?_⟩;have aE:=Ef Y;have aT:=Y.1;have aU:=Y.2.1;have aV:∀ {x:Int},x=m.foldl ed 0→0≤x→x≤4611686018427387904→(I x3 (convert eb ak (.int .u64 x)) V fun aW=>
     I x3 (av .mul ak false false (.int .i64 s) aW) V fun aX=>(fun v w'=>v=iu l∧Ext w w') (.tuple #[aX,(.int .i64 0)]) V):=by
    intro x aY au h1;rw[e1 eb.u ak.u,wrap_i64 (by omega) (by omega),e0];have hw:Y0.wrap (s*x)=s*x:=by
     rcases am.1 with rfl|rfl <;> exact wrap_i64 (by omega) (by omega)
    rw[hw];refine⟨?_,aq.trans ag⟩;rw[xC am (xy aw ah),aY]
   refine aM (fun v W=>V=W∧v= .int .u64 (m.foldl ed 0)) ?_ ?_
   ·rintro _ _ ⟨rfl,rfl⟩;have aF:=p1 (l:=m) (n:=0) ah ⟨Int.le_refl _,by decide⟩;exact aV rfl aF.1 aF.2
   intro aA U;refine aM (fun v W=>V=W∧v= .bool (O||decide (4611686018427387904<n))) ?_ ?_
   ·rintro _ _ ⟨rfl,rfl⟩;rw[br];refine⟨fun h=>U _ _ ⟨rfl,?_⟩,fun h=>U _ _ ⟨rfl,?_⟩⟩
    ·have h':O=true∨4611686018427387904<n:=by simpa using h
     rw[aE,if_pos h']
    ·have h':¬(O=true∨4611686018427387904<n):=by
      intro aj;rcases aj with aj|aj
      ·simp[aj] at h
      ·simp[aj] at h
     rw[aE,if_neg h']
   ·intro bd aG;cases O with
    |true=>rw[bC];exact aG _ _ ⟨rfl,rfl⟩
    |false=>rw[aP,bA];exact aG _ _ ⟨rfl,by rw[Bool.false_or]⟩
 ·intro aR ad;refine aM (fun v aZ=>w=aZ∧ ∃ c:Bool,v= .bool c∧(c=true↔l[0]? =some 45)) ?_ ?_
  ·rintro _ _ ⟨rfl,c,rfl,aH⟩;rw[br];refine⟨fun a1=>?_,fun ac=>?_⟩
   ·obtain⟨m,rfl⟩:∃ m,l=45::m:=by
     have:=aH.1 a1;cases l with
     |nil=>simp at this
     |cons x m=>exact⟨m,by simp at this;rw[this]⟩
    rw[wW (y:=1) (i:=1) rfl cz.u (by simp)];exact ad _ _ _ ⟨Ext.refl _,m,-1,rfl,rfl,fun b ae=>ap b (.tail _ ae),by simp at aC;omega,xA⟩
   ·refine ad _ _ _ ⟨Ext.refl _,l,1,rfl,rfl,ap,aC,xB fun b ae he=>?_⟩;subst he;have:=aH.2 ae;rw[ac] at this;cases this
  ·intro aA U;rw[lr cz.u,bA,ab];refine⟨fun h=>?_,fun h=>U _ _ ⟨rfl,false,rfl,?_⟩⟩
   ·obtain⟨b,ae⟩:∃ b,l[0]? =some b:=⟨_,y0 (by omega)⟩;rw[nS (y:=0) (i:=0) rfl cz.u ap ae,a8];refine U _ _ ⟨rfl,_,rfl,?_⟩;rw[decide_eq_true_eq,ae];exact⟨fun h=>by rw[h],fun h=>b9 h⟩
   ·have:l=[]:=b8 (by omega);subst this;simp
theorem IC {s:Go.Sem x1} (h:I x3 s w fun u=>u=v) (J:K v):I x3 s w K:=by
 obtain⟨u,h1,rfl⟩:=h;exact⟨u,h1,J⟩
abbrev fH:Type:=List Int×Int
def eT (x:fH):List x1:=[bk x.1,.int .i64 x.2]
theorem tC (x:fH):∀ u∈eT x,u.oneCell'=true:=by
 intro u hu;simp[eT] at hu;rcases hu with rfl|rfl <;> rfl
def hr (w:x2) (v:x1) (L:List fH):Prop:=bS w 2 v L.length (L.flatMap eT)
theorem tD {g:Nat} {L:List fH} (h:a1 eT 2 bY w g v L):hr w v L:=h.sl
theorem zL {L:List fH} {J:r8} (h:hr w v L):I x3 (Z5 #[ey] J #[v]) w K=K (.int .i64 (L.length:Int)):=by
 obtain⟨_,_,_,_,_,rfl,_⟩:=h;exact gg ey.u
theorem ID {k n:Nat} {cs:List x1} (h:bS w k v n cs) (O:ad S w w') (U:∀ r,leadsTo v r→¬S r):bS w' k v n cs:=by
 obtain⟨h1,b,o,base,cap,rfl,V,W,J,Y⟩:=h;refine⟨h1,b,o,base,cap,rfl,V,W,J,?_⟩;rcases Nat.eq_zero_or_pos n with I|I
 ·have:cs=[]:=b8 (by rw[h1,I,Nat.zero_mul]);subst this;intro j v aa;simp at aa
 ·have ab:=J I;exact pS O (U b ⟨⟨b,o,none⟩,n,cap,by rw[ab],rfl⟩) Y
theorem hr.O {L:List fH} (h:hr w v L) (I:ad S w w') (J:∀ r,leadsTo v r→¬S r):hr w' v L:=ID h I J
theorem zM {x:fH} {L:List fH} (h:hr w v (x::L)) (J:∀ b o,w.rangeAt b o (eT x)→K (.pointer (some ⟨b,o,none⟩))):I x3 (o6 ey v (.int .i64 0)) w K:=by
 obtain⟨_,b,o,base,cap,rfl,_,_,O,U⟩:=h;have:=fe (P:=x3) (w:=w) (K:=K) (k:=.i64) (c:=cap) ey.u bY.i (show 0<(x::L).length by simp) O;rw[show ((0:Nat):Int)=0 from rfl] at this;rw[this];refine J _ _ fun j u hu=>?_;have V:=(x4.1 hu).1;rw[Nat.zero_mul,Nat.add_zero];exact U j u (by rw[W9,Z7 V];exact hu)
theorem IE {x:fH} {L:List fH} (h:hr w v (x::L)) (V:∀ O,(∀ w',hr w' v (x::L)→hr w' O L)→(∀ r,leadsTo O r→leadsTo v r)→K O):I x3 (X6 ey v (some (.int .i64 1)) none none) w K:=by
 have ab:=h;obtain⟨_,b,o,base,cap,rfl,ac,_⟩:=h;rw[gh ey.u bY.i (lg 1 1 rfl) hT eM (by simp) (by omega) (o7 _)];refine V _ (fun w' W=>?_) fun r Y=>?_
 ·have:=bS.part (l:=1) (h:=(x::L).length) (m:=cap) W (by simp) (o7 _) (by omega) (o7 _);have e:(((x::L).flatMap eT).drop (1*2)).take (((x::L).length-1)*2)=L.flatMap eT:=by
   rw[W9];have aa:(L.flatMap eT).length=L.length*2:=gM (k:=2) fun _ _=>rfl;show (L.flatMap eT).take _=_;rw[l5 (by rw[aa,j4,Nat.add_sub_cancel];exact o7 _)]
  rw[e] at this;exact this
 ·obtain⟨a,n,c,J,U⟩:=Y;split at J
  ·cases J;exact⟨_,_,_,rfl,U⟩
  ·cases base with
   |none=>cases J
   |some q=>cases J;exact⟨_,_,_,rfl,U⟩
theorem IF {g n:Nat} {L:List fH} (V:y=(n:Int)) (h:a1 eT 2 bY w g v L) (W:n≤L.length) (Y:∀ O,hr w O (L.take n)→(∀ r,leadsTo O r→leadsTo v r)→K O):I x3 (X6 ey v none (some (.int .i64 y)) none) w K:=by
 have aa:=tD h;obtain⟨_,b,o,base,cap,rfl,ad,_⟩:=h.sl;rw[gh ey.u bY.i hS (lh n y V) eM (Y7 _) (by omega) (o7 _)];refine Y _ ?_ fun r ab=>?_
 ·have:=bS.part (l:=0) (h:=n) (m:=cap) aa (Y7 _) W (by omega) (o7 _);have e:((L.flatMap eT).drop (0*2)).take ((n-0)*2)=(L.take n).flatMap eT:=by
   rw[Nat.zero_mul,List.drop_zero,Nat.sub_zero,og (f:=eT) (k:=2) n fun _ _=>rfl]
  rw[e] at this;have ac:(L.take n).length=n-0:=by rw[o8];omega
  unfold hr;rw[ac];exact this
 ·obtain⟨a,n,c,J,U⟩:=ab;split at J
  ·cases J;exact⟨_,_,_,rfl,U⟩
  ·cases base with
   |none=>cases J
   |some q=>cases J;exact⟨_,_,_,rfl,U⟩
def IG (w:x2) (pl:List Int) (v:x1) (w':x2):Prop:=Ext w w'∧ ∃ I L,∃ bad:Int,v= .tuple #[I,.int .i64 bad]∧hr w' I L∧L.map (·.1)=(lex pl).1∧(0≤bad↔(lex pl).2=false)∧(∀ r,leadsTo I r→w.heap.size≤r)∧ ∀ r,leadsTo I r→ ∃ c,ae w' r bY c
set_option maxHeartbeats 4000000 in
theorem IH {p:x1} (ao:aB .u8 w p pl) (aX:Bytes pl) (bx:pl.length≤65536):af x3 Cp [p] w (IG w pl):=by
 refine az func156 ?_;rw[aL b7.u ao];refine md.range pl.length (fun i _ _ ac aj J=>Ext w J∧ ∃ g L,∃ (O:List (List Int)) (ad:List Int) (op:Bool),aj= .bool op∧a1 eT 2 bY J g ac L∧L.map (·.1)=(if op then O++[ad] else O)∧(op=true→ad.length≤i)∧L.length≤i∧gH (pl.drop i) O ad op=lex pl∧ ∀ r,leadsTo ac r→w.heap.size≤r) ao.le
  ⟨Ext.refl _,0,[],[],[],false,rfl,a1.nil _ _ _ _ _,rfl,(fun h=>by cases h),o7 _,Ey pl,fun r ae=>(eC ae).elim⟩ ?_ ?_
 rotate_left
 ·rintro aY t3 ac aj J a2 ⟨ah,g,L,O,ad,op,rfl,ag,Y,_,_,U,ai⟩;rw[an,ab];refine⟨fun h=>by omega,fun _=>?_⟩;rw[List.drop_length] at U;have U:(if op then O++[ad] else O,true)=lex pl:=U;exact⟨ah,ac,L,-1,rfl,tD ag,by rw[Y,←U],by rw[←U];simp,ai,fun r ae=>by obtain⟨rfl,c,av⟩:=c9 ag ae;exact⟨c,av⟩⟩
 rintro i aY t3 ac aj J a2 hi ⟨ah,g,L,O,ad,op,rfl,ag,Y,aK,bz,U,ai⟩ a6;obtain⟨b,aw⟩:∃ b,pl[i]? =some b:=⟨_,y0 hi⟩;have bB:=aX b (x5 aw);have aN:pl.drop i=b::pl.drop (i+1):=by rw[W0 hi,(x4.1 aw).2]
 rw[aN] at U;unfold gH at U;rw[an,ab];refine⟨fun _=>?_,fun h=>by omega⟩;refine su (fun _ _ ac aj ax=>Ext w ax∧ ∃ g L,∃ (O:List (List Int)) (ad:List Int) (op:Bool),aj= .bool op∧a1 eT 2 bY ax g ac L∧L.map (·.1)=(if op then O++[ad] else O)∧(op=true→ad.length≤i+1)∧L.length≤i+1∧gH (pl.drop (i+1)) O ad op=lex pl∧ ∀ r,leadsTo ac r→w.heap.size≤r) ?_ ?_
 ·rintro bD bE a3 a4 ax a7;rw[aI];exact a6 _ _ _ _ _ a7
 intro bF aO;rw[aZ b7.u b5.i (by kernel_rfl) (ao.ext ah) aw];refine aM (fun v ak=>J=ak∧v= .bool (b0 b)) ?_ ?_
 rotate_left
 ·intro ay W;unfold b0 at W;rw[a8,ab];refine⟨fun h=>W _ _ ⟨rfl,by rw[decide_eq_true (.inl h)]⟩,fun h1=>?_⟩;rw[a8,ab];refine⟨fun h=>W _ _ ⟨rfl,by rw[decide_eq_true (.inr (.inl h))]⟩,fun ap=>?_⟩;rw[a8,ab];refine⟨fun h=>W _ _ ⟨rfl,by rw[decide_eq_true (.inr (.inr (.inl h)))]⟩,fun ba=>?_⟩;rw[a8];refine W _ _ ⟨rfl,?_⟩;congr 1;rw[V1,decide_eq_true_eq,decide_eq_true_eq];exact⟨fun h=>.inr (.inr (.inr h)),fun h=>by rcases h with h|h|h|h;exact absurd h h1;exact absurd h ap;exact absurd h ba;exact h⟩
 rintro _ _ ⟨rfl,rfl⟩;cases aQ:b0 b with
 |true=>
  rw[bC];rw[if_pos aQ] at U;exact aO _ _ _ _ _ ⟨ah,g,L,_,[],false,rfl,ag,Y,(fun h=>by cases h),by omega,U,ai⟩
 |false=>
  rw[aP];rw[if_neg (by rw[aQ];simp)] at U;refine aM (fun v ak=>J=ak∧v= .bool (!bq b)) ?_ ?_
  rotate_left
  ·intro ay W;unfold bq at W;rw[an,ab];refine⟨fun h=>W _ _ ⟨rfl,by rw[decide_eq_false (by omega)];rfl⟩,fun h=>?_⟩;rw[bA];refine W _ _ ⟨rfl,?_⟩;by_cases ap:126<b
   ·rw[decide_eq_true ap,decide_eq_false (by omega)];rfl
   ·rw[decide_eq_false ap,decide_eq_true (by omega)];rfl
  rintro _ _ ⟨rfl,rfl⟩;cases hw:bq b with
  |false=>
   rw[X4,bC];rw[if_neg (by rw[hw];simp)] at U;refine aM (fun v ak=>J=ak∧ ∃ aq,hr J v aq∧aq.map (·.1)=O∧(∀ r,leadsTo v r→w.heap.size≤r)∧ ∀ r,leadsTo v r→leadsTo ac r) ?_ ?_
   ·rintro v _ ⟨rfl,aq,aA,bb,au,bd⟩;exact⟨ah,v,aq,(i:Int),rfl,aA,by rw[bb,←U],by rw[←U];simp,au,fun r ae=>by obtain⟨rfl,c,av⟩:=c9 ag (bd r ae);exact⟨c,av⟩⟩
   ·intro ay W;cases op with
    |false=>
     rw[aP];rw[if_neg (by simp)] at Y;exact W _ _ ⟨rfl,L,tD ag,Y,ai,fun _ h=>h⟩
    |true=>
     rw[bC];rw[if_pos rfl] at Y;have aC:L.length=O.length+1:=by have:=congrArg T9 Y;simpa using this
     rw[ef ey.u ag,dd,wrap_i64 (by omega) (by omega)];refine IF (n:=O.length) (by omega) ag (by omega) fun al aA au=>W _ _ ⟨rfl,_,aA,?_,fun r ae=>ai r (au r ae),au⟩;rw[List.map_take,Y,List.take_left]
  |true=>
   rw[Y4,aP];rw[if_pos hw] at U;refine aM (fun ac aD=>Ext w aD∧ ∃ g M,∃ x:fH,a1 eT 2 bY aD g ac (M++[x])∧M.map (·.1)=O∧x.1=(if op then ad else[])∧(M++[x]).length≤i+1∧ ∀ r,leadsTo ac r→w.heap.size≤r) ?_ ?_
   ·rintro bG aD ⟨aR,be,M,x,bf,bg,aE,bh,aS⟩;intro aF aG _ _;have am:=bf.ext aG;have aT:(M++[x])[M.length]? =some x:=by simp
    have bH:(M++[x]).length=M.length+1:=by simp
    rw[ef ey.u am,dd,wrap_i64 (by omega) (by omega),cT (i:=M.length) (by omega) ey.u bY.i am (by omega),V bY.p rfl,aa (o:=M.length*2+0) (by kernel_rfl) (am.range aT 0 _ rfl),aI,wrap_i64 (by omega) (by omega)];obtain⟨bI,aU⟩:∃ al,aB .u8 aF al [b]∧I x3 (X6 b7 p (some (.int .i64 (i:Int))) (some (.int .i64 ((i:Int)+1))) none) aF (fun v=>v=al):=by
     have bi:=ao.ext (aR.trans aG);have:=p3 (P:=x3) (low:=some (.int .i64 (i:Int))) (high:=some (.int .i64 ((i:Int)+1))) (K:=fun v=>aB .u8 aF v [b]) b7.u b5.i bi (lg i _ rfl) (lh (i+1) ((i:Int)+1) (by omega)) (by omega) (by omega) fun al aV=>by
      have e:((ints .u8 pl).drop (i*1)).take ((i+1-i)*1)=ints .u8 [b]:=by
       simp only[T1,show i+1-i=1 by omega];rw[ints,←List.map_drop,←List.map_take,aN];rfl
      rw[e] at aV;exact aB.of (n:=i+1-i) aV
     obtain⟨v,bj,bl⟩:=this;exact⟨v,bl,v,bj,rfl⟩
    refine IC aU.2 ?_;have bJ:x.1.length≤65536:=by
     rw[aE];cases op with
     |true=>rw[if_pos rfl];have:=aK rfl;omega
     |false=>simp
    rw[sx b7.u b5.u cz.u aU.1,sw (by simp;omega),cT (i:=M.length) (by omega) ey.u bY.i am (by omega),V bY.p rfl];refine mQ (f:=eT) (j:=0) (a:=x) (a':=(x.1++[b],x.2)) cz.i rfl rfl am aT rfl (by omega) fun bK bm bL aW=>?_;have e:(M++[x]).set M.length (x.1++[b],x.2)=M++[(x.1++[b],x.2)]:=by
     rw[V8 _ _ (o7 _),V2];rfl
    rw[e] at aW;refine aO _ _ _ _ _ ⟨(aR.trans aG).then bm (fun r ae he=>by have:=aS r he;omega),be,_,O,x.1++[b],true,rfl,aW,by rw[b6,bg];rfl,fun _=>?_,by simp at bh ⊢;omega,?_,aS⟩
    ·rw[o5,aE];cases op with
     |true=>rw[if_pos rfl];have:=aK rfl;simp;omega
     |false=>simp
    ·rw[←U,aE];cases op with
     |true=>rfl
     |false=>rfl
   ·intro ay W;cases op with
    |true=>
     rw[bc,Y4,aP];rw[if_pos rfl] at Y;have aC:L.length=O.length+1:=by have:=congrArg T9 Y;simpa using this
     obtain⟨M,x,rfl⟩:∃ M x,L=M++[x]:=by
      have:L≠[]:=fun h=>by rw[h] at aC;simp at aC
      exact⟨L.dropLast,L.getLast this,(List.dropLast_concat_getLast this).symm⟩
     rw[b6] at Y;obtain⟨bn,aH⟩:=List.append_inj' Y (by simp);refine W _ _ ⟨ah,g,M,x,ag,bn,?_,by omega,ai⟩;rw[if_pos rfl];have aH:[x.1]=[ad]:=aH;exact (T8 aH).1
    |false=>
     rw[bc,X4,bC];rw[if_neg (by simp)] at Y;rw[cH (cs:=#[bk [],.int .i64 (i:Int)]) (by kernel_rfl)];refine gp (f:=eT) (a:=(([],(i:Int)):fH)) ey.u bY.i (by omega) rfl rfl fun v9 bM bN bO aJ bo=>?_;have bp:=ag.ext aJ;refine gN (f:=eT) (a:=(([],(i:Int)):fH)) ey.u bY.i rfl bp (by simpa using bo.sl) (tC _) (by omega) (by omega) fun al br bP bt bu bw=>?_;have bQ:=ah.size;have z9:=aJ.size;refine W _ _ ⟨(ah.trans aJ).then bw (fun r ae he=>by have:=ai r he;omega),br,L,_,bt,Y,rfl,by simp;omega,fun r ae=>?_⟩;rcases bu r ae with h|h
     ·exact ai r h
     ·omega
structure tE where
 v:x1
 t:List Int
 c:Int
def lP (y:tE):List x1:=[y.v,.int .i64 y.c]
def iF (w:x2) (g:Nat) (v:x1) (l:List (List Int×Int)):Prop:=∃ L:List tE,a1 lP 2 bR w g v L∧(∀ y∈L,∃ I,am .i64 ak w I y.v y.t)∧L.map (fun y=>(y.t,y.c))=l
structure hs where
 ay:x1
 aq:x1
 o:Int
 bI:x1
def dZ (h:hs):List x1:=[h.ay,h.aq,.int .i64 h.o,h.bI]
def fy (w:x2) (h:hs) (x:bZ):Prop:=(∃ g,am .i64 ak w g h.ay x.scope)∧(∃ g,am .i64 ak w g h.aq x.sizes)∧h.o=x.other∧ ∃ g,iF w g h.bI x.lines
def fI (w:x2) (r:Nat):Prop:=∃ e c,ae w r e c∧e≠ak∧e≠bR
theorem dJ {g:Nat} (h:am .i64 ak w g v l) (J:ad S w w') (O:∀ r,S r→fI w r∨w.heap.size≤r):am .i64 ak w' g v l:=a6 h J fun r I U=>by
 rcases O r U with⟨e,c,V,W,_⟩|Y
 ·exact bQ h V (fun he=>W he.symm) I rfl
 ·obtain⟨aa,ab⟩:=bn h I;omega
theorem tF {α:Type} {f:α→List x1} {k:Nat} {e:r8} {g:Nat} {L:List α} (h:a1 f k e w g v L) (U:ad S w w') (V:∀ r,S r→(∃ I c,ae w r I c∧I≠e)∨w.heap.size≤r):a1 f k e w' g v L:=h.O U fun r J W=>by
 rcases V r W with⟨I,c,Y,aa⟩|ab
 ·exact cb h Y (fun he=>aa he.symm) J
 ·obtain⟨ac,af⟩:=h.leads J;omega
theorem iF.da {g:Nat} {l:List (List Int×Int)} (h:iF w g v l) (I:ad S w w') (J:∀ r,S r→fI w r∨w.heap.size≤r):iF w' g v l:=by
 obtain⟨L,h1,O,U⟩:=h;refine⟨L,tF h1 I fun r V=>(J r V).imp (fun⟨e,c,W,_,Y⟩=>⟨e,c,W,Y⟩) id,fun y aa=>?_,U⟩;obtain⟨ab,hm⟩:=O y aa;exact⟨ab,dJ hm I J⟩
theorem fy.da {h:hs} {x:bZ} (O:fy w h x) (I:ad S w w') (J:∀ r,S r→fI w r∨w.heap.size≤r):fy w' h x:=by
 obtain⟨⟨U,h1⟩,⟨V,W⟩,Y,aa,ab⟩:=O;exact⟨⟨U,dJ h1 I J⟩,⟨V,dJ W I J⟩,Y,aa,ab.da I J⟩
theorem fy.ext {h:hs} {x:bZ} (I:fy w h x) (J:Ext w w'):fy w' h x:=I.da (J.O fun _=>False) fun _ h=>h.elim
theorem fy.one {h:hs} {x:bZ} (I:fy w h x):∀ u∈dZ h,u.oneCell'=true:=by
 obtain⟨⟨U,h1⟩,⟨V,J⟩,W,Y,L,O,_⟩:=I;intro u hu;simp[dZ] at hu;rcases hu with rfl|rfl|rfl|rfl
 ·exact h1.ls.cells.2
 ·exact J.ls.cells.2
 ·rfl
 ·exact (dD O.sl).2
def ke (w:x2) (I:x1) (J:List fH) (gs:Nat) (sv:x1) (L:List hs) (X:List bZ):Prop:=(hr w I J∧ ∀ r,leadsTo I r→ ∃ c,ae w r bY c)∧a1 dZ 4 aR w gs sv L∧X.length=L.length∧ ∀ (i:Nat) h x,L[i]? =some h→X[i]? =some x→fy w h x
theorem ke.da {V:x1} {ab:List fH} {gs:Nat} {L:List hs} {X:List bZ} (h:ke w V ab gs sv L X) (U:ad S w w') (W:∀ r,S r→(∃ e c,ae w r e c∧e≠ak∧e≠bR∧e≠bY∧¬leadsTo sv r)∨w.heap.size≤r):ke w' V ab gs sv L X:=by
 obtain⟨⟨h1,ac⟩,af,ah,ai⟩:=h;have hw:∀ r,leadsTo V r→¬S r:=fun r I Y=>by
  obtain⟨c,J⟩:=ac r I;rcases W r Y with⟨e,aj,ag,_,_,aa,_⟩|al
  ·exact aa (ei ag J)
  ·have:=J.lt;omega
 refine⟨⟨h1.O U hw,fun r I=>?_⟩,af.O U fun r I Y=>?_,ah,fun i am x hi an=>(ai i am x hi an).da U fun r I=>(W r I).imp (fun⟨e,c,J,ao,ap,_⟩=>⟨e,c,J,ao,ap⟩) id⟩
 ·obtain⟨c,J⟩:=ac r I;exact⟨c,J.O U (hw r I)⟩
 ·rcases W r Y with⟨e,aj,ag,_,_,_,aa⟩|al
  ·exact aa I
  ·obtain⟨aq,au⟩:=af.leads I;omega
def fm (I:x1) (J O bad U big V told:Int) (sv:x1):List x1:=[I,.int .i64 J,.int .i64 O,.int .i64 bad,.int .i64 U,.int .i64 big,.int .i64 V,.int .i64 told,sv]
def II (N:Nat) (so:Option aC) (I:List fH) (J bad big told:Int) (L:List hs) (X:List bZ):Prop:=match so with
 |some s=>bad=0∧J≠0∧(big≠0↔s.big=true)∧(s.big=false→told=s.told)∧True∧I.map (·.1)=s.toks∧(∀ t∈s.toks,Bytes t∧t.length≤65536)∧X.map (fun x=>(x.sizes,x.lines))=s.shared∧L.length+I.length≤100000
 |none=>bad≠0∧L.length≤N
def bp (w:x2) (g B:Nat) (H:ag) (N:Nat) (so:Option aC):Prop:=100000≤N∧ ∃ w0 I J gs sv L X,∃ (U O bad V big W told:Int),w0.heap.size=B∧ad (fun r=>r=g) w0 w∧(∃ c,ae w0 g bf c)∧ae w g bf (fm I U O bad V big W told sv)∧ke w0 I J gs sv L X∧(∀ r,leadsTo sv r→H r)∧II N so J O bad big told L X
theorem ke.g {g:Nat} {O:List fH} {gs:Nat} {L:List hs} {X:List bZ} (h:ke w J O gs sv L X) (V:ad (fun r=>r=g) w w') (W:∃ c,ae w g bf c):ke w' J O gs sv L X:=
 h.da V fun r I=>.inl (by
  have I:r=g:=I;subst I;obtain⟨c,U⟩:=W;exact⟨_,c,U,by decide,by decide,by decide,fun Y=>cb h.2.1 U (by decide) Y⟩)
theorem bp.new {g:Nat} {H:ag} {so:Option aC} (h:bp w g B H N so) (J:ad S w w') (U:∀ r,S r→B≤r):bp w' g B H N so:=by
 obtain⟨ab,w0,ac,ae,gs,sv,L,X,af,ah,bad,ai,big,aj,told,h1,V,W,ak,al,am,an⟩:=h;have Y:g<w0.heap.size:=by obtain⟨c,ao⟩:=W;exact ao.lt
 exact⟨ab,w0,ac,ae,gs,sv,L,X,af,ah,bad,ai,big,aj,told,h1,⟨W7 V.size J.size,fun r o aa I Y=>J.ba r o (V.ba r o aa I Y) I fun ap=>by
  have:=U r ap;have:=(l7.1 aa).1;omega⟩,W,ak.O J fun I=>by have:=U g I;omega,al,am,an⟩
theorem bp.ext {g:Nat} {H:ag} {so:Option aC} (h:bp w g B H N so) (I:Ext w w'):bp w' g B H N so:=h.new (I.O fun _=>False) fun _ h=>h.elim
theorem bp.base {g:Nat} {H:ag} {so:Option aC} (h:bp w g B H N so):bp w g w.heap.size H N so:=by
 obtain⟨J,w0,O,U,gs,sv,L,X,V,W,bad,Y,big,aa,told,h1,ab,ac,I,ae,af,ah⟩:=h;exact⟨J,w,O,U,gs,sv,L,X,V,W,bad,Y,big,aa,told,rfl,ad.refl _ _,⟨_,I⟩,I,ae.g ab ac,af,ah⟩
theorem bp.da {g:Nat} {H:ag} {so:Option aC} (h:bp w g B H N so) (U:ad S w w') (V:∀ r,S r→(∃ e c,ae w r e c∧e≠ak∧e≠bR∧e≠bY∧e≠bf∧¬H r)∨w.heap.size≤r):bp w' g w'.heap.size H N so:=by
 obtain⟨ab,w0,W,Y,gs,sv,L,X,ac,af,bad,ah,big,ai,told,h1,aj,al,J,am,aa,an⟩:=h.base;have ao:ke w W Y gs sv L X:=am.g aj al;have I:=J.O U fun ap=>by
  rcases V g ap with⟨e,c,I,_,_,_,aq,_⟩|aA
  ·exact aq (ei I J)
  ·have:=J.lt;omega
 refine⟨ab,w',W,Y,gs,sv,L,X,ac,af,bad,ah,big,ai,told,rfl,ad.refl _ _,⟨_,I⟩,I,ao.da U fun r au=>(V r au).imp (fun⟨e,c,I,av,aw,ax,_,ay⟩=>⟨e,c,I,av,aw,ax,fun az=>ay (aa r az)⟩) id,aa,an⟩
theorem bp.lt {g:Nat} {H:ag} {so:Option aC} (h:bp w g B H N so):g<B∧B≤w.heap.size:=by
 obtain⟨O,w0,U,V,gs,sv,L,X,W,Y,bad,aa,big,ab,told,h1,I,⟨c,J⟩,_⟩:=h;have:=J.lt;have:=I.size;omega
theorem gu {g:Nat} {H:ag} {so:Option aC} (h:bp w g B H N so):∃ I,∃ (J O bad U big V told:Int),∃ sv,ae w g bf (fm I J O bad U big V told sv)∧(so.isSome=true↔bad=0):=by
 obtain⟨aa,w0,I,ab,gs,sv,L,X,J,O,bad,U,big,V,told,h1,ac,ad,Y,af,ah,W⟩:=h;refine⟨I,J,O,bad,U,big,V,told,sv,Y,?_⟩;cases so with
 |none=>exact⟨(fun h=>by cases h),fun h=>absurd h W.1⟩
 |some s=>exact⟨fun _=>W.1,fun _=>rfl⟩
theorem jq {g:Nat} {H:ag} {so:Option aC} (h:bp w g B H N so):I x3 (aX (.pointer (some ⟨g,0,none⟩))) w (fun J=>I x3 (x7 bf J 3) w fun t45=>I x3 (x6 U t45) w fun t46=>I x3 (av .eql U false true t46 (.int .i64 0)) w K)=K (.bool so.isSome):=by
 obtain⟨W,Y,ab,bad,ac,big,ad,told,sv,O,hi⟩:=gu h;rw[aw,V bf.p rfl,aa (by kernel_rfl) (O.cell (o:=0+3) rfl),a8];congr 2;rw[V1,decide_eq_true_eq];exact hi.symm
theorem oM {g:Nat} {H:ag} {so:Option aC} (h:bp w g B H N so):I x3 (aX (.pointer (some ⟨g,0,none⟩))) w (fun W=>I x3 (x7 bf W 3) w fun t45=>I x3 (x6 U t45) w fun t46=>I x3 (av .neq U false true t46 (.int .i64 0)) w K)=K (.bool (!so.isSome)):=by
 obtain⟨ab,ac,ad,bad,ae,big,af,told,sv,Y,hi⟩:=gu h;rw[aw,V bf.p rfl,aa (by kernel_rfl) (Y.cell (o:=0+3) rfl),bF];congr 2;cases O:so.isSome with
 |true=>have J:=hi.1 O;simp[J]
 |false=>
  have J:bad≠0:=fun J=>by rw[hi.2 J] at O;cases O
  simp[J]
def m9 (w:x2) (g B:Nat) (H:ag) (N:Nat) (so:Option aC) (w':x2):Prop:=ad (fun r=>r=g) w w'∧bp w' g B H N so
theorem lQ {g:Nat} {H:ag} {so:Option aC} {e at_:Int} (h:bp w g B H N so) (he:e≠0):af x3 k9 [.pointer (some ⟨g,0,none⟩),.int .i64 e,.int .i64 at_] w fun _ w'=>m9 w g B H N none w':=by
 refine az func161 ?_;rw[jq h];cases so with
 |none=>rw[Option.isSome_none,aP];exact⟨ad.refl _ _,h⟩
 |some s=>
  rw[Option.isSome_some,bC];obtain⟨ac,w0,O,ah,gs,sv,L,X,W,Y,bad,av,big,aa,told,h1,ai,aj,ak,al,am,an⟩:=h;rw[aw,V bf.p rfl];refine bl (g:=g) (o:=3) U.i rfl rfl ak (by simp[fm]) fun J ao ax ap=>?_;rw[aw,V bf.p rfl];refine bl (g:=g) (o:=4) U.i rfl rfl ap (by simp[fm]) fun aq au ay I=>?_;have I:ae aq g bf (fm O W Y e at_ big aa told sv):=I;have ab:=ao.trans au;obtain⟨_,_,_,_,_,_,_,_,aA⟩:=an;exact⟨ab,ac,w0,O,ah,gs,sv,L,X,W,Y,e,at_,big,aa,told,h1,ai.trans ab,aj,I,al,am,he,by omega⟩
theorem kS {g:Nat} {H:ag} {so:Option aC} {b:Bool} {at_:Int} (h:bp w g B H N so):af x3 pJ [.pointer (some ⟨g,0,none⟩),.bool b,.int .i64 at_] w fun _ w'=>m9 w g B H N (so.map (aV b)) w':=by
 refine az func158 ?_;obtain⟨aq,w0,O,au,gs,sv,L,X,W,Y,bad,ac,big,aF,told,h1,av,ax,ah,ay,aA,ai⟩:=id h;refine aM (fun v J=>w=J∧v= .bool (b&&decide (big=0)&&so.isSome)) ?_ ?_
 ·rintro _ _ ⟨rfl,rfl⟩;rw[br];refine⟨fun aB=>?_,fun aG=>⟨ad.refl _ _,aq,w0,O,au,gs,sv,L,X,W,Y,bad,ac,big,aF,told,h1,av,ax,ah,ay,aA,?_⟩⟩
  ·rw[V5,V5] at aB;obtain⟨⟨aH,aO⟩,aI⟩:=aB;rw[aw,V bf.p rfl];refine bl (g:=g) (o:=5) U.i rfl rfl ah (by simp[fm]) fun J aJ aQ aK=>?_;rw[aw,V bf.p rfl];refine bl (g:=g) (o:=6) U.i rfl rfl aK (by simp[fm]) fun aL aN aR aj=>?_;have aj:ae aL g bf (fm O W Y bad ac 5 at_ told sv):=aj;have aD:=aJ.trans aN;refine⟨aD,aq,w0,O,au,gs,sv,L,X,W,Y,bad,ac,5,at_,told,h1,av.trans aD,ax,aj,ay,aA,?_⟩;cases so with
   |none=>cases aI
   |some s=>
    obtain⟨ak,al,aE,am,an⟩:=ai;exact⟨ak,al,⟨fun _=>by show (s.big||b)=true;rw[aH,Bool.or_true],fun _=>by omega⟩,fun ao=>am (T3.1 ao).1,an⟩
  ·cases so with
   |none=>exact ai
   |some s=>
    obtain⟨ak,al,aE,am,an⟩:=ai;refine⟨ak,al,?_,fun ao=>am (T3.1 ao).1,an⟩;show big≠0↔(s.big||b)=true;cases b with
    |false=>rw[Bool.or_false];exact aE
    |true=>
     have I:big≠0:=by simpa using aG
     simp[I]
 ·intro aS ap;cases b with
  |false=>rw[aP];exact ap _ _ ⟨rfl,by simp⟩
  |true=>
   rw[bC,aw,V bf.p rfl,aa (by kernel_rfl) (ah.cell (o:=0+5) rfl),a8,ab];refine⟨fun I=>?_,fun I=>ap _ _ ⟨rfl,by rw[decide_eq_false I];simp⟩⟩;rw[jq h];exact ap _ _ ⟨rfl,by rw[decide_eq_true I];simp⟩
def hL (so:Option aC):Option (List Int×aC):=so.bind df
theorem zN {g:Nat} {H:ag} {so:Option aC} (h:bp w g B H N so):af x3 Cq [.pointer (some ⟨g,0,none⟩)] w fun v w'=>m9 w g B H N ((hL so).map (·.2)) w'∧ ∃ (t:List Int) (n:Int),v= .agg #[bk t,.int .i64 n]∧Bytes t∧t.length≤65536∧ ∀ q,hL so=some q→t=q.1:=by
 have a2:=h.lt;refine az func157 ?_;refine bu bY.i fun U J bO ah ai=>?_;have h1:=h.ext ah;have zero:∀ {Y:x2},m9 J g B H N none Y→ae Y U bY [.string ⟨#[]⟩,.int .i64 0]→hL so=none→(I x3 (Instr.build bY #[]) Y fun t9=>
   ax x3 (o3 bY (.pointer (some ⟨U,0,none⟩)) t9) Y fun(_:Unit) aG=>
   I x3 (do loadVar bY (←asAddr (.pointer (some ⟨U,0,none⟩)))) aG fun a6=>(fun v w'=>m9 w g B H N ((hL so).map (·.2)) w'∧ ∃ (t:List Int) (n:Int),v= .agg #[bk t,.int .i64 n]∧Bytes t∧t.length≤65536∧ ∀ q,hL so=some q→t=q.1) a6 aG):=by
  intro Y ac an av;rw[cH (cs:=#[.string ⟨#[]⟩,.int .i64 0]) (by kernel_rfl)];refine bN (vs:=[.string ⟨#[]⟩,.int .i64 0]) bY.i rfl rfl (by intro v aH;simp at aH;rcases aH with rfl|rfl <;> rfl) an fun a7 aI bP ba=>?_;rw[ez bY.p bY.i rfl ba.range,av];have bb:=ah.size;have bQ:=a2;refine⟨⟨fB ((ah.O _).trans ac.1) aI fun r W he=>?_,ac.2.new aI fun r W=>?_⟩,[],0,rfl,(fun b bc=>by cases bc),by simp,fun q ay=>by cases ay⟩
  ·have he:r=U:=he;omega
  ·have W:r=U:=W;omega
 rw[oM h1];cases so with
 |none=>
  rw[Option.isSome_none,X4,bC];exact zero ⟨ad.refl _ _,h1⟩ ai rfl
 |some s=>
 rw[Option.isSome_some,Y4,aP];obtain⟨bd,w0,bR,aA,gs,sv,L,X,aJ,aK,bad,aL,big,aM,told,be,aN,aO,aj,ao,bg,bh⟩:=id h1;have bi:=ao.g aN aO;obtain⟨⟨ap,bS⟩,_⟩:=id bi;obtain⟨bj,aQ,bm,bn,bo,aR,aS,bq,br⟩:=id bh;rw[aw,V bf.p rfl,aa (by kernel_rfl) (aj.cell (o:=0+0) rfl),zL ap,a8,ab];refine⟨fun aT=>?_,fun aT=>?_⟩
 ·have bt:aA=[]:=b8 (by omega);have ak:s.toks=[]:=by rw[←aR,bt];rfl
  have av:hL (some s)=none:=by show df s=none;unfold df;rw[ak]
  intro Y aq _ _;have an:=aj.ext aq;rw[aw,V bf.p rfl,aa (by kernel_rfl) (an.cell (o:=0+2) rfl),aw,V bf.p rfl,aa (by kernel_rfl) (an.cell (o:=0+1) rfl)];refine (lQ (h1.ext aq) aQ).mono ?_;rintro _ a7 _ ac;have bx:=ai.lt;exact zero ⟨(aq.O _).trans ac.1,ac.2⟩ ((ai.ext aq).O ac.1 fun he=>by have he:U=g:=he;omega) av
 ·obtain⟨x,al,rfl⟩:∃ x l,aA=x::l:=by
   cases aA with
   |nil=>exact absurd rfl aT
   |cons x l=>exact⟨x,l,rfl⟩
  have ak:s.toks=x.1::al.map (·.1):=by rw[←aR];rfl
  have bz:hL (some s)=some (x.1,{s with toks:=al.map (·.1)}):=by show df s=_;unfold df;rw[ak]
  have aU:=aS x.1 (by rw[ak];exact .head _);rw[aw,V bf.p rfl,aa (by kernel_rfl) (aj.cell (o:=0+0) rfl)];refine zM ap fun b o bA=>?_;rw[bw bY.p bY.i rfl bA];refine bu bY.i fun aB bT bU bB bD=>?_;refine bN (vs:=eT x) bY.i rfl rfl (tC x) bD fun bE bF bV aV=>?_;have au:Ext J bE:=bB.then bF fun r W he=>by have he:r=aB:=he;omega
  have aW:=aj.ext au;rw[aw,V bf.p rfl,aa (by kernel_rfl) (aW.cell (o:=0+0) rfl)];refine IE (ap.O (au.O fun _=>False) fun _ _ h=>h) fun aD aX bG=>?_;have aY:=aX J ap;rw[aw,V bf.p rfl];refine bl (g:=g) (o:=0) ey.i (dD aY).1 (dD aY).2 aW (by simp[fm]) fun am aE bW aF=>?_;have aF:ae am g bf (fm aD aJ aK bad aL big aM told sv):=aF;have bx:=aj.lt;have bX:=aV.lt;have bZ:=ai.lt;have bb:=ah.size;have bH:ae am aB bY (eT x):=aV.O aE fun he=>by have he:aB=g:=he;omega
  rw[bw bY.p bY.i rfl bH.range];have bI:ae am U bY [.string ⟨#[]⟩,.int .i64 0]:=(ae.ext ai au).O aE fun he=>by have he:U=g:=he;omega
  refine bN (vs:=eT x) bY.i rfl rfl (tC x) bI fun b0 aZ b1 bJ=>?_;rw[ez bY.p bY.i rfl bJ.range];have a1:ad (fun r=>r=g) J am:=(au.O _).trans aE;rw[bz];refine⟨⟨fB ((ah.O _).trans a1) aZ fun r W he=>?_,?_⟩,x.1,x.2,rfl,aU.1,aU.2,fun q ay=>by cases ay;rfl⟩
  ·have he:r=U:=he;omega
  ·have bK:ke w0 aD al gs sv L X:=⟨⟨aX w0 ao.1.1,fun r W=>ao.1.2 r (bG r W)⟩,ao.2⟩;have bL:bp am g B H N (some {s with toks:=al.map (·.1)}):=⟨bd,w0,aD,al,gs,sv,L,X,aJ,aK,bad,aL,big,aM,told,be,aN.trans a1,aO,aF,bK,bg,bj,aQ,bm,bn,bo,rfl,fun t bM=>aS t (by rw[ak];exact .tail _ bM),bq,by simp at br;omega⟩;refine bL.new aZ fun r W=>?_;have W:r=U:=W;omega
theorem IJ {lo hi:Int} {so:Option aC}:aU lo hi so=match hL so with
  |none=>none
  |some (w,s)=>match fh w with
   |none=>none
   |some n=>if lo≤n∧n≤hi then some (n,s) else none:=by
 cases so with
 |none=>rfl
 |some s=>rfl
set_option maxHeartbeats 1000000 in
theorem iG {g:Nat} {H:ag} {so:Option aC} {lo hi:Int} (h:bp w g B H N so):af x3 jL [.pointer (some ⟨g,0,none⟩),.int .i64 lo,.int .i64 hi] w fun v w'=>m9 w g B H N ((aU lo hi so).map (·.2)) w'∧ ∃ n at_:Int,v= .tuple #[.int .i64 n,.int .i64 at_]∧(∀ q,aU lo hi so=some q→n=q.1)∧(aU lo hi so=none→n=0):=by
 have a2:=h.lt;refine az func159 ?_;refine (zN h).mono ?_;rintro _ J _ ⟨⟨aw,h1⟩,t,at_,rfl,aI,a6,ax⟩;have a7:=h1.lt;refine bu bY.i fun ay a8 ba aJ aK=>?_;refine bN (vs:=[bk t,.int .i64 at_]) bY.i rfl rfl (by intro v aA;simp at aA;rcases aA with rfl|rfl <;> rfl) aK fun aL aN bb aB=>?_;have aE:Ext J aL:=aJ.then aN fun r bc he=>by have he:r=ay:=he;omega
 have aO:=h1.ext aE;rw[V bY.p rfl,aa (by kernel_rfl) (aB.cell (o:=0+0) rfl)];refine (IB aI (by omega)).mono ?_;rintro _ aj _ ⟨rfl,ak⟩;have al:=aO.ext ak;have aF:=aB.ext ak;have aQ:=aE.trans ak;have bd:=aw.size;obtain⟨n,e,aR,am,aS⟩:∃ n e:Int,iu t= .tuple #[.int .i64 n,.int .i64 e]∧(∀ m,fh t=some m→n=m∧e=0)∧(fh t=none→e≠0):=by
  unfold iu;cases fh t with
  |none=>exact⟨0,4,rfl,(fun m hm=>by cases hm),fun _=>by omega⟩
  |some m=>exact⟨m,0,rfl,(fun m hm=>by cases hm;exact⟨rfl,rfl⟩),fun h=>by cases h⟩
 rw[aR,aD (v:=.int .i64 n) rfl,aD (v:=.int .i64 e) rfl];have I:=IJ (lo:=lo) (hi:=hi) (so:=so);have aG:ad (fun r=>r=g) w aj:=aw.trans (aQ.O _);refine c3 (fun ac=>ad (fun r=>r=g) aj ac∧bp ac g B H N ((aU lo hi so).map (·.2))) ?_ ?_
 ·rintro ac ⟨ae,Y⟩;rw[oM Y];cases ah:aU lo hi so with
  |none=>
   rw[ah] at Y;rw[Option.map_none,Option.isSome_none,X4,bC];exact⟨⟨aG.trans ae,Y⟩,0,0,rfl,(fun q ah=>by cases ah),fun _=>rfl⟩
  |some q=>
   rw[ah] at Y I;rw[Z2,Option.isSome_some,Y4,aP];intro be ao _ _;have aT:=(aF.O ae fun he=>by have he:ay=g:=he;omega).ext ao;rw[V bY.p rfl,aa (by kernel_rfl) (aT.cell (o:=0+1) rfl)];refine⟨⟨(aG.trans ae).trans (ao.O _),Y.ext ao⟩,n,at_,rfl,fun bf aV=>?_,fun h=>by cases h⟩;cases aV;cases W:hL so with
   |none=>rw[W] at I;cases I
   |some p=>
    obtain⟨ap,aq⟩:=p;have au:=ax (ap,aq) W;subst au;rw[W] at I;simp only at I;cases U:fh t with
    |none=>rw[U] at I;cases I
    |some m=>
     rw[U] at I;simp only at I;split at I
     ·cases I;exact (am m U).1
     ·cases I
 ·intro bg aH;refine aM (fun v ac=>aj=ac∧ ∃ c:Bool,v= .bool c∧(c=true→aU lo hi so=none)∧(c=false→(aU lo hi so).map (·.2)=(hL so).map (·.2))) ?_ ?_
  ·rintro _ _ ⟨rfl,c,rfl,aW,aX⟩;rw[br];refine⟨fun h=>?_,fun h=>aH _ ⟨ad.refl _ _,by rw[aX h];exact al⟩⟩;rw[V bY.p rfl,aa (by kernel_rfl) (aF.cell (o:=0+1) rfl)];refine (lQ al (by omega)).mono ?_;rintro _ ac _ ⟨ae,Y⟩;exact aH _ ⟨ae,by rw[aW h];exact Y⟩
  ·intro bh ai;rw[jq al];cases W:hL so with
   |none=>
    rw[W] at I;simp only at I;rw[Option.map_none,Option.isSome_none,aP];exact ai _ _ ⟨rfl,false,rfl,(fun h=>by cases h),fun _=>by rw[I,W];rfl⟩
   |some p=>
    obtain⟨ap,aq⟩:=p;have au:=ax (ap,aq) W;subst au;rw[W] at I;simp only at I;rw[Z2,Option.isSome_some,bC,bF,ab];refine⟨fun he=>?_,fun he=>?_⟩
    ·refine ai _ _ ⟨rfl,true,rfl,fun _=>?_,fun h=>by cases h⟩;cases U:fh t with
     |none=>rw[I,U]
     |some m=>exact absurd (am m U).2 he
    ·have aY:e=0:=Y9.1 he;cases U:fh t with
     |none=>exact absurd aY (aS U)
     |some m=>
      rw[U] at I;simp only at I;have aZ:=(am m U).1;subst aZ;rw[an,ab];refine⟨fun a1=>ai _ _ ⟨rfl,true,rfl,fun _=>by rw[I,if_neg (by omega)],fun h=>by cases h⟩,fun a1=>?_⟩;rw[bA];refine ai _ _ ⟨rfl,_,rfl,fun av=>?_,fun av=>?_⟩
      ·rw[I,if_neg (by have:=of_decide_eq_true av;omega)]
      ·rw[I,if_pos (by have:=of_decide_eq_false av;omega),W];rfl
theorem tG {cn bv:x1} {a b:List Int} (I:aB .i64 w cn a) (aa:aB .i64 w bv b):af x3 pL [cn,bv] w fun v w'=>v= .bool (decide (a=b))∧Ext w w':=by
 refine az func208 ?_;rw[aL au.u I,aL au.u aa,bF,ab];refine⟨fun h=>⟨by rw[decide_eq_false];intro he;rw[he] at h;exact h rfl,Ext.refl _⟩,fun h=>?_⟩;have ac:a.length=b.length:=by have:=Y9.1 h;omega
 rw[aL au.u I];refine bt.range a.length (fun i _ J=>Ext w J∧a.take i=b.take i) I.le ⟨Ext.refl _,rfl⟩ ?_ ?_
 ·rintro i _ J k hi ⟨W,O⟩ ad;obtain⟨x,U⟩:∃ x,a[i]? =some x:=⟨_,y0 hi⟩;obtain⟨y,Y⟩:∃ y,b[i]? =some y:=⟨_,y0 (by omega)⟩;rw[an,ab];refine⟨fun _=>?_,fun h=>by omega⟩;intro ah ae _ _;have V:=W.trans ae;rw[aZ au.u ak.i (by kernel_rfl) (I.ext V) U,aZ au.u ak.i (by kernel_rfl) (aa.ext V) Y,bF,ab];refine⟨fun ag=>⟨by rw[decide_eq_false];intro he;rw[he,Y] at U;exact ag (b9 U).symm,V⟩,fun he=>?_⟩;rw[aI];refine ad _ _ ⟨V,?_⟩;rw[u9,u9,O,U,Y,Y9.1 he]
 ·rintro _ J k ⟨W,O⟩;rw[an,ab];refine⟨fun h=>by omega,fun _=>⟨?_,W⟩⟩;rw[o9,ac,o9] at O;rw[decide_eq_true O]
def fJ (w:x2) (B I:Nat) (x:bZ):Prop:=∃ ay aq bI J O U,ae w I aR [ay,aq,.int .i64 x.other,bI]∧am .i64 ak w J ay x.scope∧am .i64 ak w O aq x.sizes∧iF w U bI x.lines∧(∀ r,leads ay r∨leads aq r→B≤r)∧(∀ r,leads ay r→¬leads aq r)∧B≤I
def zO (w:x2) (r:Nat):Prop:=(∃ e c,ae w r e c∧e≠ak∧e≠bR∧e≠aR)∨w.heap.size≤r
theorem fJ.da {J:Nat} {x:bZ} (h:fJ w B J x) (I:ad S w w') (W:∀ r,S r→zO w r):fJ w' B J x:=by
 obtain⟨ay,aq,bI,Y,aa,ab,h1,ac,ae,af,ag,ah,ai⟩:=h;have U:∀ r,S r→fI w r∨w.heap.size≤r:=fun r aj=>(W r aj).imp (fun⟨e,c,V,ak,al,_⟩=>⟨e,c,V,ak,al⟩) id;refine⟨ay,aq,bI,Y,aa,ab,h1.O I fun am=>?_,dJ ac I U,dJ ae I U,af.da I U,ag,ah,ai⟩;rcases W J am with⟨e,c,V,_,_,an⟩|ao
 ·exact an (ei V h1)
 ·have:=h1.lt;omega
theorem fJ.ext {I:Nat} {x:bZ} (h:fJ w B I x) (J:Ext w w'):fJ w' B I x:=h.da (J.O fun _=>False) fun _ h=>h.elim
theorem iH {g:Nat} {H:ag} {so:Option aC} (h:bp w g B H N so):∀ r,r=g→zO w r:=fun r I=>by
 subst I;obtain⟨O,U,V,bad,W,big,Y,told,sv,J,_⟩:=gu h;exact .inl ⟨_,_,J,by decide,by decide,by decide⟩
def fz (g B:Nat):ag:=fun r=>r=g∨B≤r
theorem IK {k:Nat} {acc:List Int} {s:aC}:ch (fun acc s=>match aY 0 (n-1) s with
 |none=>none
 |some (v,s)=>if v∈acc then none else some (v,s)) (k+1) acc s=match aY 0 (n-1) s with
  |none=>none
  |some (v,s')=>if v∈acc then none else ch (fun acc s=>match aY 0 (n-1) s with
 |none=>none
 |some (v,s)=>if v∈acc then none else some (v,s)) k (acc++[v]) s':=by
 rw[ch];cases aY 0 (n-1) s with
 |none=>rfl
 |some q=>
  obtain⟨v,s'⟩:=q;simp only;by_cases I:v∈acc
  ·rw[if_pos I,if_pos I]
  ·rw[if_neg I,if_neg I]
def zP (n:Int) (k:Nat) (acc:List Int) (s:aC):Option (List Int×aC):=ch (fun acc s=>match aY 0 (n-1) s with
 |none=>none
 |some (v,s)=>if v∈acc then none else some (v,s)) k acc s
set_option maxHeartbeats 4000000 in
theorem zQ {g Y b0 ar:Nat} {H:ag} {s:aC} {so:Option aC} {aQ:x1} {bq br:x2→Prop} (b1:bp w g B H N so) (ct:so=some s∨(so=none∧ar=0)) (cu:fJ w B Y ⟨[],[],0,[]⟩) (cw:∀ c,ae w Y aR c→c[3]? =some (.slice none 0 0)) (b2:am .i64 ak w b0 aQ all) (cz:∀ r,leads aQ r→r<B) (dJ:all.length≤100001) (dK:ar≤4611686018427387904) (bt:so=some s→s.toks.length≤100000)
  (a7:so=some s→ ∀ w' x,ad (fz g B) w w'→ee all.length ar s=none→bp w' g B H N none→fJ w' B Y x→bq w')
  (cA:so=none→br w)
  (bu:so=some s→ ∀ w' scope s',ad (fz g B) w w'→ee all.length ar s=some (scope,s')→bp w' g B H N (some s')→fJ w' B Y ⟨scope,scope.map fun v=>all.getD v.toNat 0,0,[]⟩→(∀ c,ae w' Y aR c→c[3]? =some (.slice none 0 0))→br w'):
  bJ (.int .i64 0) w fun i ah k=>
   be (α:=x1→x2→Prop) (fun(cB:x1) (az:x2)=>
    Split cB (I x3 (Z5 #[au] U #[aQ]) az fun t53=>
   I x3 (av .sub ak false true t53 (.int .i64 1)) az fun cC=>
   af x3 jL [.pointer (some ⟨g,0,none⟩),(.int .i64 0),cC] az fun t55 ai=>
   I x3 (j6 t55 0) ai fun bw=>
   I x3 (j6 t55 1) ai fun cD=>
   I x3 (aX (.pointer (some ⟨g,0,none⟩))) ai fun cE=>
   I x3 (x7 bf cE 3) ai fun cF=>
   I x3 (x6 U cF) ai fun cG=>
   I x3 (av .neq U false true cG (.int .i64 0)) ai fun cH=>
   Split cH (bq ai)
    (I x3 (x7 aR (.pointer (some ⟨Y,0,none⟩)) 0) ai fun cI=>
   I x3 (x6 au cI) ai fun b3=>
   I x3 (Z5 #[au] U #[b3]) ai fun t66=>
   bJ (.int .i64 0) ai fun bx al cJ=>
    I x3 (av .lss U false false bx t66) al fun cK=>
    Split cK (I x3 (o6 au b3 bx) al fun cL=>
    I x3 (x6 ak cL) al fun t70=>
    I x3 (av .eql ak false false t70 bw) al fun cM=>
    Split cM (af x3 k9 [.pointer (some ⟨g,0,none⟩),(.int .i64 4),cD] al fun t76 bz=>bq bz)
     (I x3 (av .add U false true bx (.int .i64 1)) al fun cN=>
    cJ cN al))
     (I x3 (x7 aR (.pointer (some ⟨Y,0,none⟩)) 0) al fun cO=>
   I x3 (x6 au cO) al fun cP=>
   ax x3 (Z4 au 1 #[(0,bw)]) al fun cQ aS=>
   ax x3 (l9 #[au,au] au #[cP,cQ]) aS fun cR bA=>
   I x3 (x7 aR (.pointer (some ⟨Y,0,none⟩)) 0) bA fun cS=>
   ax x3 (o3 au cS cR) bA fun(_:Unit) aE=>
   cj aE fun aG=>
   I x3 (x7 aR (.pointer (some ⟨Y,0,none⟩)) 1) aG fun bB=>
   I x3 (x6 au bB) aG fun b4=>
   I x3 (o6 au aQ bw) aG fun cT=>
   I x3 (x6 ak cT) aG fun cU=>
   ax x3 (Z4 au 1 #[(0,cU)]) aG fun cV aO=>
    (Ext aG aO∨bb x3 (x6 au bB) b4 aO∧bb x3 (x7 aR (.pointer (some ⟨Y,0,none⟩)) 1) bB aO∧True)∧
   ax x3 (l9 #[au,au] au #[b4,cV]) aO fun cW bD=>
    I x3 (x7 aR (.pointer (some ⟨Y,0,none⟩)) 1) bD fun cX=>
    ax x3 (o3 au cX cW) bD fun(_:Unit) aH=>
     I x3 (av .add ak false true i (.int .i64 1)) aH fun cY=>
   k cY aH)))
     (br az)) fun b5=>
   I x3 (av .lss ak false false i (.int .i64 (ar:Int))) ah fun cZ=>
   Split cZ (I x3 (aX (.pointer (some ⟨g,0,none⟩))) ah fun c0=>
   I x3 (x7 bf c0 3) ah fun c1=>
   I x3 (x6 U c1) ah fun t45=>
   I x3 (av .eql U false true t45 (.int .i64 0)) ah fun t46=>
   b5 t46 ah)
    (b5 (.bool false) ah):=by
 have dL:=b1.lt;rcases ct with rfl|⟨rfl,rfl⟩
 rotate_left
 ·refine bJ.range 0 (fun _ J=>w=J) (by omega) rfl (fun i J k hi=>by omega) ?_;rintro _ k rfl;refine aM (fun v az=>w=az∧v= .bool false) ?_ ?_
  ·rintro _ _ ⟨rfl,rfl⟩;rw[aP];exact cA rfl
  ·intro b7 aT;rw[an,ab];exact⟨fun h=>by omega,fun _=>aT _ _ ⟨rfl,rfl⟩⟩
 have h:=b1;have bt:=bt rfl;have a7:=a7 rfl;have bu:=bu rfl;refine bJ.range ar (fun i ah=>∃ scope aA,ad (fz g B) w ah∧bp ah g B H N (some aA)∧fJ ah B Y ⟨scope,scope.map fun v=>all.getD v.toNat 0,0,[]⟩∧scope.length=i∧scope.length+aA.toks.length≤100000∧ee all.length ar s=zP all.length (ar-i) scope aA∧ ∀ c,ae ah Y aR c→c[3]? =some (.slice none 0 0)) (by omega) ⟨[],s,ad.refl _ _,h,cu,rfl,by simpa using bt,rfl,cw⟩ ?_ ?_
 rotate_left
 ·rintro ah k ⟨scope,aA,ba,aF,bc,b8,c2,aj,bE⟩;refine aM (fun v az=>ah=az∧v= .bool false) ?_ ?_
  ·rintro _ _ ⟨rfl,rfl⟩;rw[aP];rw[V2] at aj;exact bu ah scope aA ba aj aF bc bE
  ·intro b7 aT;rw[an,ab];exact⟨fun h=>by omega,fun _=>aT _ _ ⟨rfl,rfl⟩⟩
 rintro i ah k hi ⟨scope,aA,ba,aF,bc,b8,c2,aj,bE⟩ c3;refine aM (fun v az=>ah=az∧v= .bool true) ?_ ?_
 rotate_left
 ·intro b7 aT;rw[an,ab];refine⟨fun _=>?_,fun h=>by omega⟩;rw[jq aF];exact aT _ _ ⟨rfl,rfl⟩
 rintro _ _ ⟨rfl,rfl⟩;rw[bC];have ca:∀ {w':x2},ad (fz g B) w w'→am .i64 ak w' b0 aQ all:=fun c4=>a6 b2 c4 fun r W ac=>by
  rcases ac with rfl|ac
  ·obtain⟨c5,ao,aV,bad,c7,big,c8,told,sv,ap,_⟩:=gu h;exact bQ b2 ap (by decide) W rfl
  ·have:=cz r W;omega
 rw[aL au.u (ca ba).ls,dd,wrap_i64 (by omega) (by omega)];refine (iG aF).mono ?_;rintro _ ai _ ⟨⟨bF,aw⟩,n,at_,rfl,bG,c9⟩;rw[aD (v:=.int .i64 n) rfl,aD (v:=.int .i64 at_) rfl,oM aw];have bH:=bc.da bF (iH aF);have bK:ad (fz g B) w ai:=ba.trans (bF.mono fun r _ h=>.inl h);have db:=IK (n:=(all.length:Int)) (k:=ar-(i+1)) (acc:=scope) (s:=aA);have dc:ar-i=(ar-(i+1))+1:=by omega
 rw[dc] at aj;unfold zP at aj;rw[db] at aj;have de:aU 0 ((all.length:Int)-1) (some aA)=aY 0 ((all.length:Int)-1) aA:=rfl;rw[de] at aw bG c9 ⊢;cases bd:aY 0 ((all.length:Int)-1) aA with
 |none=>
  rw[bd] at aw aj;rw[Option.map_none,Option.isSome_none,X4,bC];exact a7 ai _ bK aj aw bH
 |some q=>
  obtain⟨v,bL⟩:=q;rw[bd] at aw aj bG;have df:n=v:=bG _ rfl;subst df;have dM:=(gl bd).1;have dN:=(c6 bd).1;simp only at aj;rw[Z2,Option.isSome_some,Y4,aP];have aw:bp ai g B H N (some bL):=aw;obtain⟨ay,aq,bI,dO,dg,bM,f1,f2,f3,f4,f5,f6,f7⟩:=id bH;rw[V aR.p rfl,aa (by kernel_rfl) (f1.cell (o:=0+0) rfl),aL au.u f2.ls];have dP:scope.length≤100000:=by omega
  refine bJ.range scope.length (fun j al=>ai=al∧n∉scope.take j) (by omega) ⟨rfl,by simp⟩ ?_ ?_
  ·rintro j _ dh di ⟨rfl,bg⟩ dj;obtain⟨u,hu⟩:∃ u,scope[j]? =some u:=⟨_,y0 di⟩;rw[an,ab];refine⟨fun _=>?_,fun h=>by simp only at h;omega⟩;rw[aZ au.u ak.i (by kernel_rfl) f2.ls hu,a8,ab];refine⟨fun he=>?_,fun dk=>?_⟩
   ·refine (lQ aw (by omega)).mono ?_;rintro _ bz _ ⟨cc,dl⟩;rw[if_pos (by rw[←he];exact x5 hu)] at aj;exact a7 bz _ (bK.trans (cc.mono fun r _ h=>.inl h)) aj dl (bH.da cc (iH aw))
   ·rw[aI];refine dj _ ⟨rfl,?_⟩;rw[u9,hu];intro hm;rcases n9.1 hm with hm|hm
    ·exact bg hm
    ·simp at hm;exact dk hm.symm
  ·rintro _ dh ⟨rfl,bg⟩;rw[o9] at bg;rw[an,ab];refine⟨fun h=>by simp only at h;omega,fun _=>?_⟩;rw[if_neg bg] at aj;rw[V aR.p rfl,aa (by kernel_rfl) (f1.cell (o:=0+0) rfl)];refine dx au.u ak.i rfl fun dQ dR aS dS aB dm=>?_;have dT:=aw.lt;refine fx au.u ak.i rfl (f2.ext aB) dm.ls (by simp;omega) (by simp;omega) fun aJ bN bA bh dn cd=>?_;have bi:=f1.ext aB;have f113:=bi.O cd fun he=>bQ (f2.ext aB) bi (by decide) he rfl;rw[V aR.p rfl];refine bl (g:=Y) (o:=0) au.i bh.ls.cells.1 bh.ls.cells.2 f113 (by simp) fun aE ce dU bj=>?_;have bj:ae aE Y aR [aJ,aq,.int .i64 0,bI]:=bj;intro aG bO _ _;have aW:ad (fun r=>leads ay r∨r=Y) aS aE:=(cd.mono fun r _ h=>.inl h).trans (ce.mono fun r _ h=>.inr h);have cg:∀ r,(leads ay r∨r=Y)→fz g B r:=fun r W=>.inr (W.elim (fun W=>f5 r (.inl W)) fun W=>W▸f7);have ch:ad (fz g B) w aE:=(bK.trans (aB.O _)).trans (aW.mono fun r _ W=>cg r W);have dp:ad (fz g B) w aG:=ch.trans (bO.O _);have dq:am .i64 ak aE dg aq _:=a6 (f3.ext aB) aW fun r W ac=>by
    rcases ac with ac|rfl
    ·exact f6 r ac W
    ·exact bQ (f3.ext aB) bi (by decide) W rfl
   have dr:am .i64 ak aE bN aJ (scope++[n]):=a6 bh ce fun r W he=>by
    have he:r=Y:=he;subst he;exact bQ bh f113 (by decide) W rfl
   have ds:∀ r,(leads ay r∨r=Y)→(∃ c,ae aS r ak c)∨ ∃ c,ae aS r aR c:=fun r W=>by
    rcases W with W|rfl
    ·obtain⟨ao,_⟩:=bn f2 W;obtain⟨_,⟨a1,_⟩|⟨_,cs,a1,ap,_⟩⟩:=f2.ext aB
     ·rw[a1] at W;obtain⟨a,du,c,ao,aV⟩:=W;cases ao
     ·exact .inl ⟨cs,ao▸ap⟩
    ·exact .inr ⟨_,bi⟩
   have dv:iF aE bM bI []:=by
    obtain⟨L,aK,dw,bP⟩:=f4.da (aB.O fun _=>False) fun _ h=>h.elim;have bR:L=[]:=List.map_eq_nil_iff.1 bP;subst bR;refine⟨[],aK.O aW fun r W ac=>?_,fun y bS=>(by cases bS),rfl⟩;rcases ds r ac with⟨c,ap⟩|⟨c,ap⟩
    ·exact cb aK ap (by decide) W
    ·exact cb aK ap (by decide) W
   have dy:bp aE g B H N (some bL):=(aw.ext aB).new aW fun r W=>by
    rcases cg r W with rfl|h
    ·rcases W with W|W
     ·exact f5 _ (.inl W)
     ·exact W▸f7
    ·exact h
   rw[V aR.p rfl,aa (by kernel_rfl) ((bj.ext bO).cell (o:=0+1) rfl)];have dz:all[n.toNat]? =some (all.getD n.toNat 0):=by rw[u4,y0 (by omega)];rfl
   rw[dt (y:=n) (i:=n.toNat) (by omega) au.u ak.i (by kernel_rfl) (ca dp).ls dz];refine dx au.u ak.i rfl fun dV dW aO dX ci dA=>?_;refine⟨.inl ci,?_⟩;have aN:=bO.trans ci;have f316:=dq.ext aN;have ck:(scope.map fun v=>all.getD v.toNat 0).length=scope.length:=u5 _;refine fx au.u ak.i rfl f316 dA.ls (by simp at ck ⊢;omega) (by simp at ck ⊢;omega) fun bT dC bD bk cl cm=>?_;have bm:=bj.ext aN;have cn:=bm.O cm fun he=>bQ f316 bm (by decide) he rfl;rw[V aR.p rfl];refine bl (g:=Y) (o:=1) au.i bk.ls.cells.1 bk.ls.cells.2 cn (by simp) fun aH cp dY a2=>?_;have a2:ae aH Y aR [aJ,bT,.int .i64 0,bI]:=a2;rw[aI];have bo:ad (fun r=>leads aq r∨r=Y) aO aH:=(cm.mono fun r _ h=>.inl h).trans (cp.mono fun r _ h=>.inr h);have cq:∀ r,(leads aq r∨r=Y)→B≤r:=fun r W=>W.elim (fun W=>f5 r (.inr W)) fun W=>W▸f7;have bU:=dr.ext aN;have dZ:=aB.size;have ea:=aW.size;have bV:∀ r,leads aJ r→B≤r∧¬leads aq r:=fun r W=>by
    rcases dn r W with h|h
    ·exact⟨f5 r (.inl h),f6 r h⟩
    ·exact⟨by omega,fun bW=>by obtain⟨ao,aV⟩:=bn f3 bW;omega⟩
   have dD:am .i64 ak aH bN aJ (scope++[n]):=a6 bU bo fun r W ac=>by
    rcases ac with ac|rfl
    ·exact (bV r W).2 ac
    ·exact bQ bU bm (by decide) W rfl
   have dE:=a6 bk cp fun r W he=>by
    have he:r=Y:=he;subst he;exact bQ bk cn (by decide) W rfl
   have dF:iF aH bM bI []:=by
    obtain⟨L,aK,dw,bP⟩:=dv.da (aN.O fun _=>False) fun _ h=>h.elim;have bR:L=[]:=List.map_eq_nil_iff.1 bP;subst bR;refine⟨[],aK.O bo fun r W ac=>?_,fun y bS=>(by cases bS),rfl⟩;rcases ac with ac|rfl
    ·obtain⟨ao,_⟩:=bn f316 ac;obtain⟨_,⟨a1,_⟩|⟨_,cs,a1,ap,_⟩⟩:=f316
     ·rw[a1] at ac;obtain⟨a,du,c,ao,aV⟩:=ac;cases ao
     ·exact cb aK (ao▸ap) (by decide) W
    ·exact cb aK bm (by decide) W
   refine c3 _ ⟨scope++[n],bL,((ch.trans (aN.O _)).trans (bo.mono fun r _ W=>.inr (cq r W))),(dy.ext aN).new bo cq,⟨aJ,bT,bI,bN,dC,bM,a2,dD,by rw[b6];exact dE,dF,fun r W=>?_,fun r W bW=>?_,f7⟩,by rw[o5,b8];rfl,by rw[o5];simp;omega,aj,fun c bX=>?_⟩
   ·rcases W with W|W
    ·exact (bV r W).1
    ·rcases cl r W with h|h
     ·exact f5 r (.inr h)
     ·have:=aN.size;omega
   ·rcases cl r bW with h|h
    ·exact (bV r W).2 h
    ·obtain⟨ao,aV⟩:=bn bU W;omega
   ·have dG:c=[aJ,bT,.int .i64 0,bI]:=by
     unfold ae at bX a2;rw[a2] at bX;have:=(Obj.cells.inj (b9 bX)).1;exact (Array.toList_inj.2 this).symm
    have dH:bI= .slice none 0 0:=by
     obtain⟨eb,ec,ed,_,_,_,bY,_⟩:=bc;have cr:=bE _ bY;have bZ:=bY.O bF fun he=>by
      have he:Y=g:=he;obtain⟨c5,ao,aV,bad,c7,big,c8,told,sv,ap,_⟩:=gu aF;subst he;exact absurd (ei ap bY) (by decide)
     unfold ae at bZ f1;rw[f1] at bZ;have dI:=Array.toList_inj.2 (Obj.cells.inj (b9 bZ)).1;have aF:=congrArg (fun l=>l[3]?) dI;simp at aF;simp at cr;rw[aF,cr]
    rw[dG,dH];rfl
set_option maxHeartbeats 1000000 in
theorem IL {af:x1→x2→Prop} (h:aB .i64 w sv l) (h1:∀ z∈l,1≤z) (ap:∀ c:Int,(4096<c↔cS l=true)→af (.int .i64 c) w):
  bt (.int .i64 1) (.int .i64 0) w fun count aa O aq=>
   I x3 (av .lss U false false aa (.int .i64 (l.length:Int))) O fun aw=>
   Split aw (be (α:=x1→x2→Prop) (fun(ax:x1) (ag:x2)=>
    I x3 (av .add U false true aa (.int .i64 1)) ag fun ay=>
    aq ax ay ag) fun ah=>
   I x3 (o6 au sv aa) O fun az=>
   I x3 (x6 ak az) O fun ai=>
   be (α:=x1→x2→Prop) (fun(aA:x1) (W:x2)=>
    I x3 (av .mul ak false false count aA) W fun aj=>
    I x3 (av .gtr ak false true aj (.int .i64 4096)) W fun aC=>
    Split aC (ah (.int .i64 4097) W)
     (ah aj W)) fun al=>
   I x3 (av .gtr ak false true ai (.int .i64 4096)) O fun aD=>
   Split aD (al (.int .i64 4097) O)
    (al ai O))
    (af count O):=by
 refine bt.range l.length (fun i c J=>w=J∧ ∃ p:Int,p=aE ((l.take i).map fun k=>min k 4097)∧1≤p∧c= .int .i64 (if 4096<p then 4097 else p)) h.le ⟨rfl,1,by simp[aE],by omega,by rw[if_neg (by omega)]⟩ ?_ ?_
 ·rintro i _ _ aF hi ⟨rfl,p,Y,aG,rfl⟩ aH;obtain⟨z,ac⟩:∃ z,l[i]? =some z:=⟨_,y0 hi⟩;have aK:=h1 z (x5 ac);have e:aE ((l.take (i+1)).map fun k=>min k 4097)=p*min z 4097:=by
   rw[Y,u9,ac,Z0,b6,T4,List.map_nil,ql]
  have aL:p*1≤p*min z 4097:=Int.mul_le_mul_of_nonneg_left (by omega) (by omega);rw[an,ab];refine⟨fun _=>?_,fun h=>by omega⟩;refine aM (fun v ad=>w=ad∧v= .int .i64 (if 4096<p*min z 4097 then 4097 else p*min z 4097)) ?_ ?_
  ·rintro _ _ ⟨rfl,rfl⟩;rw[aI];exact aH _ _ ⟨rfl,_,e.symm,by omega,rfl⟩
  intro aN ae;rw[aZ au.u ak.i (by kernel_rfl) h ac];refine aM (fun v ad=>w=ad∧v= .int .i64 (min z 4097)) ?_ ?_
  ·rintro _ _ ⟨rfl,rfl⟩;rw[e0];by_cases am:4096<p
   ·rw[if_pos am];have aJ:(4097:Int)*1≤4097*min z 4097:=Int.mul_le_mul_of_nonneg_left (by omega) (by omega);rw[wrap_i64 (by omega) (by omega),bA,ab];refine⟨fun _=>ae _ _ ⟨rfl,by rw[if_pos (by omega)]⟩,fun aO=>by omega⟩
   ·rw[if_neg am];have aJ:p*min z 4097≤4096*4097:=by
     have aP:=Int.mul_le_mul_of_nonneg_right (show p≤4096 by omega) (show 0≤min z 4097 by omega);have aQ:=Int.mul_le_mul_of_nonneg_left (show min z 4097≤4097 by omega) (show (0:Int)≤4096 by omega);omega
    rw[wrap_i64 (by omega) (by omega),bA,ab];exact⟨fun V=>ae _ _ ⟨rfl,by rw[if_pos V]⟩,fun V=>ae _ _ ⟨rfl,by rw[if_neg V]⟩⟩
  ·intro aR ao;rw[bA,ab];exact⟨fun V=>ao _ _ ⟨rfl,by congr 1;omega⟩,fun V=>ao _ _ ⟨rfl,by congr 1;omega⟩⟩
 ·rintro _ _ aF ⟨rfl,p,Y,aG,rfl⟩;rw[o9] at Y;rw[an,ab];refine⟨fun h=>by omega,fun _=>ap _ ?_⟩;unfold cS;rw[←Y,decide_eq_true_eq];split
  ·exact⟨fun _=>by omega,fun _=>by omega⟩
  ·exact Iff.rfl
set_option maxHeartbeats 2000000 in
theorem IM {g al aR:Nat} {H:ag} {so:Option aC} {aS:x2→Prop} (h:bp w g B H N so) (ay:am .i64 ak w aR aq sizes) (bh:∀ z∈sizes,1≤z∧z≤ao) (bW:sizes.length≤100001)
  (aM:ae w al bR [.slice none 0 0,.int .i64 0]) (bi:B≤al)
  (aT:∀ t w' aA ac,t.length=sizes.length→ad (fun r=>r=g∨r=al∨w.heap.size≤r) w w'→ae w' al bR [aA,.int .i64 0]→am .i64 ak w' ac aA t→(∀ r,leads aA r→w.heap.size≤r)→bp w' g B H N ((eg sizes [] so).map (·.2))→(∀ q,eg sizes [] so=some q→t=q.1)→aS w'):
  bJ (.int .i64 0) w fun aN ai bj=>
      I x3 (av .lss U false false aN (.int .i64 (sizes.length:Int))) ai fun bk=>
      Split bk (I x3 (o6 au aq aN) ai fun bm=>
      I x3 (x6 ak bm) ai fun bo=>
      I x3 (av .sub ak false true bo (.int .i64 1)) ai fun bq=>
      af x3 jL [.pointer (some ⟨g,0,none⟩),(.int .i64 0),bq] ai fun aV az=>
      I x3 (j6 aV 0) az fun br=>
      I x3 (j6 aV 1) az fun bX=>
      I x3 (x7 bR (.pointer (some ⟨al,0,none⟩)) 0) az fun bt=>
      I x3 (x6 au bt) az fun bu=>
      ax x3 (Z4 au 1 #[(0,br)]) az fun bw bx=>
      ax x3 (l9 #[au,au] au #[bu,bw]) bx fun bz aW=>
      I x3 (x7 bR (.pointer (some ⟨al,0,none⟩)) 0) aW fun bA=>
      ax x3 (o3 au bA bz) aW fun(_:Unit) aX=>
      I x3 (av .add U false true aN (.int .i64 1)) aX fun bB=>
      bj bB aX)
       (aS ai):=by
 have bY:=aM.lt;have bZ:=h.lt;refine bJ.range sizes.length (fun j J=>∃ t aA ac Y,t.length=j∧ad (fun r=>r=g∨r=al∨w.heap.size≤r) w J∧ae J al bR [aA,.int .i64 0]∧am .i64 ak J ac aA t∧(∀ r,leads aA r→w.heap.size≤r)∧bp J g B H N Y∧eg sizes [] so=eg (sizes.drop j) t Y) ay.ls.le
  ⟨[],_,0,so,rfl,ad.refl _ _,aM,am.nil _ _ _ _,(fun r W=>by obtain⟨a,n,c,aG,aO⟩:=W;cases aG),h,rfl⟩ ?_ ?_
 rotate_left
 ·rintro J bC ⟨t,aA,ac,Y,aH,aj,aJ,aB,ap,aE,he⟩;rw[an,ab];refine⟨fun h=>by omega,fun _=>?_⟩;rw[List.drop_length] at he;cases Y with
  |none=>
   have he:eg sizes [] so=none:=he;exact aT t J aA ac aH aj aJ aB ap (by rw[he];exact aE) (fun q ah=>by rw[he] at ah;cases ah)
  |some Y=>
   have he:eg sizes [] so=some (t,Y):=he;exact aT t J aA ac aH aj aJ aB ap (by rw[he];exact aE) (fun q ah=>by rw[he] at ah;cases ah;rfl)
 rintro j J bC aY ⟨t,aA,ac,Y,aH,aj,aJ,aB,ap,aE,he⟩ bD;obtain⟨z,aP⟩:∃ z,sizes[j]? =some z:=⟨_,y0 aY⟩;have bE:=bh z (x5 aP);have b0:z≤4611686018427387904:=bE.2;have bF:am .i64 ak J aR aq sizes:=a6 ay aj fun r W a1=>by
  rcases a1 with rfl|rfl|a1
  ·obtain⟨bG,aG,aO,bad,bH,big,bI,told,sv,aF,_⟩:=gu h;exact bQ ay aF (by decide) W rfl
  ·exact bQ ay aM (by decide) W rfl
  ·obtain⟨aG,aO⟩:=bn ay W;omega
 rw[an,ab];refine⟨fun _=>?_,fun h=>by omega⟩;rw[aZ au.u ak.i (by kernel_rfl) bF.ls aP,dd,wrap_i64 (by omega) (by omega)];refine (iG aE).mono ?_;rintro _ bK _ ⟨⟨aK,bL⟩,n,at_,rfl,bM,b1⟩;rw[aD (v:=.int .i64 n) rfl,aD (v:=.int .i64 at_) rfl];have bN:al≠g:=by omega
 have a2:=aJ.O aK fun he=>bN he;have bO:∃ c,ae J g bf c:=by obtain⟨bG,aG,aO,bad,bH,big,bI,told,sv,aF,_⟩:=gu aE;exact⟨_,aF⟩
 have a7:am .i64 ak bK ac aA t:=a6 aB aK fun r W he=>by
  have he:r=g:=he;obtain⟨c,aF⟩:=bO;exact bQ aB aF (by decide) W he
 rw[V bR.p rfl,aa (by kernel_rfl) (a2.cell (o:=0+0) rfl)];refine dx au.u ak.i rfl fun a3 b2 bP b3 aw bS=>?_;refine fx au.u ak.i rfl (a7.ext aw) bS.ls (by simp;omega) (by simp;omega) fun a8 bT b4 aL bU ba=>?_;have bb:=a2.ext aw;have bc:=bb.O ba fun he=>bQ (a7.ext aw) bb (by decide) he rfl;rw[V bR.p rfl];refine bl (g:=al) (o:=0) au.i aL.ls.cells.1 aL.ls.cells.2 bc (by simp) fun bd be b5 aQ=>?_;have aQ:ae bd al bR [a8,.int .i64 0]:=aQ;rw[aI];have bg:ad (fun r=>leads aA r∨r=al) bP bd:=(ba.mono fun r _ h=>.inl h).trans (be.mono fun r _ h=>.inr h);have b6:=aj.size;have b7:=aK.size;have z3:=aw.size;refine bD _ ⟨t++[n],a8,bT,(aU 0 (z-1) Y).map (·.2),by simp[aH],?_,aQ,a6 aL be fun r W he=>?_,fun r W=>?_,?_,?_⟩
 ·refine (aj.trans (aK.mono fun r _ h=>.inl h)).trans ((aw.O _).trans (bg.mono fun r _ h=>?_));exact h.elim (fun h=>.inr (.inr (ap r h))) fun h=>.inr (.inl h)
 ·have he:r=al:=he;subst he;exact bQ aL bc (by decide) W rfl
 ·rcases bU r W with h|h
  ·exact ap r h
  ·omega
 ·refine (bL.ext aw).new bg fun r W=>?_;rcases W with W|rfl
  ·have:=ap r W;omega
  ·exact bi
 ·rw[he];have bV:sizes.drop j=z::sizes.drop (j+1):=by rw[W0 aY,(x4.1 aP).2]
  rw[bV,yr];cases ah:aU 0 (z-1) Y with
  |none=>rfl
  |some q=>
   obtain⟨v,b8⟩:=q;have:=bM _ ah;subst this;rfl
theorem tH {g:Nat} {t:List Int} {c:Int} (h:am .i64 ak w g v t):∀ u∈lP ⟨v,t,c⟩,u.oneCell'=true:=by
 intro u hu;simp[lP] at hu;rcases hu with rfl|rfl
 ·exact h.ls.cells.2
 ·rfl
def IN (sizes:List Int) (cnt i:Nat) (s0:aC) (A:List (List Int×Int)) (so:Option aC):Prop:=(∃ s,so=some s∧ch (dg sizes) cnt [] s0=ch (dg sizes) (cnt-i) A s∧A.length+s.toks.length≤100000)∨(so=none∧ch (dg sizes) cnt [] s0=none)
set_option maxHeartbeats 8000000 in
theorem IP {g bo bq aF:Nat} {H:ag} {s0:aC} {ay bI:x1} {scope:List Int} {o:Int} {a2:List (List Int×Int)} {ce:x2→Prop} (h:bp w g B H N (some s0)) (f1:ae w ah aR [ay,aq,.int .i64 o,bI]) (f2:am .i64 ak w bo ay scope) (f3:am .i64 ak w bq aq sizes) (f4:iF w aF bI a2)
  (f5:∀ r,leads ay r∨leads aq r→B≤r) (f6:∀ r,leads ay r→¬leads aq r) (f7:B≤ah) (c8:∀ z∈sizes,1≤z∧z≤ao) (db:sizes.length≤100001) (e8:n≤4611686018427387904) (bL:0<n→a2=[]∧ ∀ r,¬leadsTo bI r) (dc:s0.toks.length≤100000)
  (cg:∀ w' A bM,ad (fz g B) w w'→fJ w' B ah ⟨scope,sizes,o,A⟩→bp w' g B H N bM→(n≤0→A=a2∧bM=some s0)→(0<n→bM=(ch (dg sizes) n.toNat [] s0).map (·.2)∧ ∀ q,ch (dg sizes) n.toNat [] s0=some q→A=q.1)→ce w'):
  bJ (.int .i64 0) w fun ci aK dd=>
     be (α:=x1→x2→Prop) (fun(de:x1) (cj:x2)=>
      Split de (ax x3 (T7 bR true (.tuple #[])) cj fun x aG=>
     I x3 (x7 aR (.pointer (some ⟨ah,0,none⟩)) 1) aG fun df=>
     I x3 (x6 au df) aG fun ck=>
     I x3 (Z5 #[au] U #[ck]) aG fun dh=>
     bJ (.int .i64 0) aG fun bO aN di=>
      I x3 (av .lss U false false bO dh) aN fun dj=>
      Split dj (I x3 (o6 au ck bO) aN fun dk=>
      I x3 (x6 ak dk) aN fun dl=>
      I x3 (av .sub ak false true dl (.int .i64 1)) aN fun dm=>
      af x3 jL [.pointer (some ⟨g,0,none⟩),(.int .i64 0),dm] aN fun cl a7=>
      I x3 (j6 cl 0) a7 fun dn=>
      I x3 (j6 cl 1) a7 fun e9=>
      I x3 (x7 bR x 0) a7 fun dp=>
      I x3 (x6 au dp) a7 fun dr=>
      ax x3 (Z4 au 1 #[(0,dn)]) a7 fun ds dt=>
      ax x3 (l9 #[au,au] au #[dr,ds]) dt fun du cm=>
      I x3 (x7 bR x 0) cm fun dv=>
      ax x3 (o3 au dv du) cm fun(_:Unit) cn=>
      I x3 (av .add U false true bO (.int .i64 1)) cn fun dw=>
      di dw cn)
       (af x3 jL [.pointer (some ⟨g,0,none⟩),(.int .i64 0),(.int .i64 4611686018427387904)] aN fun cp Y=>
     I x3 (j6 cp 0) Y fun dx=>
     I x3 (j6 cp 1) Y fun dy=>
     I x3 (x7 aR (.pointer (some ⟨ah,0,none⟩)) 3) Y fun dz=>
     I x3 (x6 dq dz) Y fun cq=>
     I x3 (Z5 #[dq] U #[cq]) Y fun dA=>
     bJ (.int .i64 0) Y fun bP ai dC=>
      I x3 (av .lss U false false bP dA) ai fun dE=>
      Split dE (be (α:=x2→Prop) (fun(aW:x2)=>
       I x3 (av .add U false true bP (.int .i64 1)) aW fun dF=>
       dC dF aW) fun cr=>
      I x3 (o6 dq cq bP) ai fun dG=>
      I x3 (x6 bR dG) ai fun dH=>
      ax x3 (T7 bR true (.tuple #[])) ai fun y ct=>
      ax x3 (o3 bR y dH) ct fun(_:Unit) aj=>
      be (α:=x1→x2→Prop) (fun(dI:x1) (a8:x2)=>
       Split dI (af x3 k9 [.pointer (some ⟨g,0,none⟩),(.int .i64 4),dy] a8 fun fa cu=>
        cr cu)
        (cr a8)) fun cw=>
      I x3 (aX (.pointer (some ⟨g,0,none⟩))) aj fun dK=>
      I x3 (x7 bf dK 3) aj fun dL=>
      I x3 (x6 U dL) aj fun dM=>
      I x3 (av .eql U false true dM (.int .i64 0)) aj fun dN=>
      Split dN (I x3 (x7 bR x 0) aj fun dO=>
       I x3 (x6 au dO) aj fun dP=>
      I x3 (x7 bR y 0) aj fun dQ=>
      I x3 (x6 au dQ) aj fun dR=>
      af x3 pL [dP,dR] aj fun dS cz=>
      cw dS cz)
       (cw (.bool false) aj))
       (I x3 (x7 bR x 1) ai fun dT=>
     ax x3 (o3 ak dT dx) ai fun(_:Unit) aH=>
     I x3 (x7 aR (.pointer (some ⟨ah,0,none⟩)) 3) aH fun dU=>
     I x3 (x6 dq dU) aH fun dV=>
     I x3 (x6 bR x) aH fun dW=>
     ax x3 (Z4 dq 1 #[(0,dW)]) aH fun dX br=>
     ax x3 (l9 #[dq,dq] dq #[dV,dX]) br fun dY bS=>
     I x3 (x7 aR (.pointer (some ⟨ah,0,none⟩)) 3) bS fun dZ=>
     ax x3 (o3 dq dZ dY) bS fun(_:Unit) aJ=>
     I x3 (av .add ak false true ci (.int .i64 1)) aJ fun ea=>
     dd ea aJ)))
       (ce cj)) fun cA=>
     I x3 (av .lss ak false false ci (.int .i64 n)) aK fun eb=>
     Split eb (I x3 (aX (.pointer (some ⟨g,0,none⟩))) aK fun ec=>
     I x3 (x7 bf ec 3) aK fun ed=>
     I x3 (x6 U ed) aK fun ee=>
     I x3 (av .eql U false true ee (.int .i64 0)) aK fun eh=>
     cA eh aK)
      (cA (.bool false) aK):=by
 have ei:=h.lt;refine bJ.range n.toNat (fun i J=>∃ A so bI aF,ad (fz g B) w J∧ae J ah aR [ay,aq,.int .i64 o,bI]∧am .i64 ak J bo ay scope∧am .i64 ak J bq aq sizes∧iF J aF bI A∧(0<n→ ∀ r,leadsTo bI r→B≤r)∧bp J g B H N so∧(n≤0→A=a2∧so=some s0)∧(0<n→IN sizes n.toNat i s0 A so)) (by omega)
  ⟨a2,some s0,bI,aF,ad.refl _ _,f1,f2,f3,f4,fun aB r W=>absurd W ((bL aB).2 r),h,fun _=>⟨rfl,rfl⟩,fun aB=>.inl ⟨s0,rfl,by rw[(bL aB).1];rfl,by rw[(bL aB).1];simpa using dc⟩⟩ ?_ ?_
 rotate_left
 ·rintro J k ⟨A,so,bI,aF,ba,aZ,bt,bb,bc,bT,aO,cB,ac⟩;refine aM (fun v bU=>J=bU∧v= .bool false) ?_ ?_
  ·rintro _ _ ⟨rfl,rfl⟩;rw[aP];refine cg J A so ba ⟨ay,aq,bI,bo,bq,aF,aZ,bt,bb,bc,f5,f6,f7⟩ aO cB fun aB=>?_;rcases ac aB with⟨s,rfl,he,_⟩|⟨rfl,he⟩
   ·rw[V2] at he;rw[he];exact⟨rfl,fun q ap=>by cases ap;rfl⟩
   ·rw[he];exact⟨rfl,fun q ap=>by cases ap⟩
  ·intro ej bV;rw[an,ab];exact⟨fun h=>by omega,fun _=>bV _ _ ⟨rfl,rfl⟩⟩
 rintro i J k hi ⟨A,so,bI,aF,ba,aZ,bt,bb,bc,bT,aO,cB,ac⟩ ek;have aB:0<n:=by omega
 refine aM (fun v bU=>J=bU∧v= .bool so.isSome) ?_ ?_
 rotate_left
 ·intro ej bV;rw[an,ab];refine⟨fun _=>?_,fun h=>by omega⟩;rw[jq aO];exact bV _ _ ⟨rfl,rfl⟩
 rintro _ _ ⟨rfl,rfl⟩;rcases ac aB with⟨cE,rfl,he,fb⟩|⟨rfl,he⟩
 rotate_left
 ·rw[Option.isSome_none,aP];refine cg J A none ba ⟨ay,aq,bI,bo,bq,aF,aZ,bt,bb,bc,f5,f6,f7⟩ aO (fun h=>by omega) fun _=>?_;rw[he];exact⟨rfl,fun q ap=>by cases ap⟩
 rw[Option.isSome_some,bC];have fc:=aO.lt;refine bu bR.i fun al aG fd bd bW=>?_;have bW:ae aG al bR [.slice none 0 0,.int .i64 0]:=bW;have em:=aZ.ext bd;have cC:=bb.ext bd;have fe:=bd.size;have ff:=aZ.lt;rw[V aR.p rfl,aa (by kernel_rfl) (em.cell (o:=0+1) rfl),aL au.u cC.ls];refine IM (aO.ext bd) cC c8 db bW (by omega) fun t aN aA cD fg en eo ep er es et=>?_;refine (iG es).mono ?_;rintro _ Y _ ⟨⟨bX,bx⟩,c,at_,rfl,eu,fh⟩;rw[aD (v:=.int .i64 c) rfl,aD (v:=.int .i64 at_) rfl];have bY:al≠g:=by omega
 have cF:ah≠g:=by have:=h.lt;omega
 have ev:ad (fun r=>r=g∨r=al∨aG.heap.size≤r) aG Y:=en.trans (bX.mono fun r _ h=>.inl h);have cG:∀ {S:Nat→Prop},(∀ r,S r→r=g∨J.heap.size≤r)→ ∀ r,S r→fI J r∨J.heap.size≤r:=fun ew r W=>(ew r W).imp (fun he=>by
  subst he;obtain⟨cH,bg,bh,bad,cI,big,cJ,told,sv,ac,_⟩:=gu aO;exact⟨_,_,ac,by decide,by decide⟩) id
 have bz:ad (fun r=>r=g∨J.heap.size≤r) J Y:=(bd.O _).trans (ev.mono fun r _ h=>h.elim .inl fun h=>h.elim (fun h=>.inr (by omega)) fun h=>.inr (by omega));have cK:ae Y ah aR [ay,aq,.int .i64 o,bI]:=aZ.O bz fun h=>h.elim cF fun h=>by omega
 obtain⟨L,bA,cL,bZ⟩:=bc.da bz (cG fun r W=>W);have cM:ae Y al bR [aA,.int .i64 0]:=eo.O bX fun he=>bY he;have cN:am .i64 ak Y cD aA t:=a6 ep bX fun r W he=>by
  have he:r=g:=he;have:=er r W;omega
 have fi:L.length=A.length:=by rw[←bZ,u5]
 rw[V aR.p rfl,aa (by kernel_rfl) (cK.cell (o:=0+3) rfl),ef dq.u bA];generalize cO:(aU 0 4611686018427387904 (V0 (fun x=>x.snd) (eg sizes [] (some cE)))).map (·.2)=aQ at bx;have fj:=bz.size;refine bJ.range L.length (fun j ai=>ad (fun r=>r=g) Y ai∧bp ai g B H N (if t∈(L.take j).map (·.t) then none else aQ)) bA.le ⟨ad.refl _ _,by simpa using bx⟩ ?_ ?_
 ·rintro j ai ey cP ⟨aw,bi⟩ ez;obtain⟨y,az⟩:∃ y,L[j]? =some y:=⟨_,y0 cP⟩;have b0:∃ c,ae Y g bf c:=by obtain⟨cH,bg,bh,bad,cI,big,cJ,told,sv,ac,_⟩:=gu bx;exact⟨_,ac⟩
  have aS:∀ r,r=g→fI Y r∨Y.heap.size≤r:=fun r W=>by
   subst W;obtain⟨c,ac⟩:=b0;exact .inl ⟨_,c,ac,by decide,by decide⟩
  have bB:=tF bA aw fun r W=>(aS r W).imp (fun⟨e,c,ac,_,bj⟩=>⟨e,c,ac,bj⟩) id;obtain⟨fk,eA⟩:=cL y (x5 az);have cQ:=dJ eA aw aS;have b1:=dJ cN aw aS;have bD:=cM.O aw fun he=>bY he;rw[an,ab];refine⟨fun _=>?_,fun h=>by omega⟩;have b2:t∈(L.take (j+1)).map (·.t)↔t∈(L.take j).map (·.t)∨t=y.t:=by
   rw[u9,az,Z0,b6,n9];simp
  refine c3 (fun aW=>ad (fun r=>r=g) Y aW∧bp aW g B H N (if t∈(L.take (j+1)).map (·.t) then none else aQ)) ?_ ?_
  ·rintro aW eB;rw[aI];exact ez _ eB
  intro fl cR;rw[cT rfl dq.u bR.i bB cP,bw bR.p bR.i rfl (bB.range az)];refine bu bR.i fun aT ct fm eC eD=>?_;refine bN (vs:=lP y) bR.i rfl rfl (tH cQ) eD fun aj eE fo eF=>?_;have bk:Ext ai aj:=eC.then eE fun r W he=>by have he:r=aT:=he;omega
  have cS:=bi.ext bk;have cU:ad (fun r=>r=g) Y aj:=aw.trans (bk.O _);refine aM (fun v a8=>∃ b:Bool,v= .bool b∧Ext aj a8∧(b=true→t=y.t)∧(b=false→t≠y.t∨(if t∈(L.take j).map (·.t) then none else aQ)=none)) ?_ ?_
  ·rintro _ a8 ⟨b,rfl,b3,eH,eI⟩;have aV:=cS.ext b3;cases b with
   |true=>
    rw[bC];refine (lQ aV (by omega)).mono ?_;rintro _ cu _ ⟨eJ,eK⟩;refine cR _ ⟨(cU.trans (b3.O _)).trans eJ,?_⟩;rw[if_pos (b2.2 (.inr (eH rfl)))];exact eK
   |false=>
    rw[aP];refine cR _ ⟨cU.trans (b3.O _),?_⟩;by_cases hm:t∈(L.take j).map (·.t)
    ·rw[if_pos (b2.2 (.inl hm))];rw[if_pos hm] at aV;exact aV
    ·rw[if_neg hm] at aV;rcases eI rfl with bj|cV
     ·rw[if_neg (fun h=>(b2.1 h).elim hm bj)];exact aV
     ·rw[if_neg hm] at cV;rw[cV] at aV ⊢;split <;> exact aV
  ·intro fp cW;rw[jq cS];cases bm:(if t∈(L.take j).map (·.t) then none else aQ) with
   |none=>
    rw[Option.isSome_none,aP];exact cW _ _ ⟨false,rfl,Ext.refl _,(fun h=>by cases h),fun _=>.inr bm⟩
   |some fq=>
    rw[Option.isSome_some,bC];have eL:=bD.ext bk;rw[V bR.p rfl,aa (by kernel_rfl) (eL.cell (o:=0+0) rfl),V bR.p rfl,aa (by kernel_rfl) (eF.cell (o:=0+0) rfl)];refine (tG (b1.ls.ext bk) (cQ.ls.ext bk)).mono ?_;rintro _ cz _ ⟨rfl,eM⟩;exact cW _ _ ⟨_,rfl,eM,fun h=>of_decide_eq_true h,fun h=>.inl (of_decide_eq_false h)⟩
 ·rintro ai ey ⟨aw,bi⟩;rw[o9] at bi;have eN:L.map (·.t)=A.map (·.1):=by rw[←bZ,List.map_map];rfl
  rw[eN] at bi;have b0:∃ c,ae Y g bf c:=by obtain⟨cH,bg,bh,bad,cI,big,cJ,told,sv,ac,_⟩:=gu bx;exact⟨_,ac⟩
  have aS:∀ r,r=g→fI Y r∨Y.heap.size≤r:=fun r W=>by
   subst W;obtain⟨c,ac⟩:=b0;exact .inl ⟨_,c,ac,by decide,by decide⟩
  have cX:∀ r,(r=g∨J.heap.size≤r)→fI J r∨J.heap.size≤r:=cG fun r W=>W;have bE:ad (fun r=>r=g∨J.heap.size≤r) J ai:=bz.trans (aw.mono fun r _ h=>.inl h);have eO:=cK.O aw fun he=>cF he;have eP:=dJ bt bE cX;have eQ:=dJ bb bE cX;have bB:=tF bA aw fun r W=>(aS r W).imp (fun⟨e,c,ac,_,bj⟩=>⟨e,c,ac,bj⟩) id;have eR:∀ y∈L,∃ aT,am .i64 ak ai aT y.v y.t:=fun y az=>by
   obtain⟨aT,hm⟩:=cL y az;exact⟨aT,dJ hm aw aS⟩
  have b1:=dJ cN aw aS;have bD:=cM.O aw fun he=>bY he;rw[an,ab];refine⟨fun h=>by omega,fun _=>?_⟩;rw[V bR.p rfl];refine bl (g:=al) (o:=1) ak.i rfl rfl bD (by simp) fun aH a1 fs b4=>?_;have b4:ae aH al bR [aA,.int .i64 c]:=b4;have eS:ah≠al:=by omega
  have cY:=eO.O a1 fun he=>eS he;have ft:J.heap.size≤al:=by omega
  have eU:∀ r,leadsTo bI r→r≠al:=fun r W=>by obtain⟨bg,bh⟩:=bc.choose_spec.1.leads W;omega
  have eV:=bB.O a1 fun r W he=>eU r W he;rw[V aR.p rfl,aa (by kernel_rfl) (cY.cell (o:=0+3) rfl),bw bR.p bR.i rfl b4.range];let a:tE:=⟨aA,t,c⟩;have bF:∀ {v:x1} {bn:Nat} {l:List Int},am .i64 ak ai bn v l→am .i64 ak aH bn v l:=fun hm=>a6 hm a1 fun r W he=>by
   have he:r=al:=he;exact bQ hm bD (by decide) W he
  have cZ:=bF b1;refine gp (f:=lP) (a:=a) dq.u bR.i (by omega) rfl rfl fun v45 fu br fv aE eW=>?_;have b5:=eV.ext aE;refine gN (f:=lP) (a:=a) dq.u bR.i rfl b5 (by simpa using eW.sl) (tH (cZ.ext aE)) (by omega) (by omega) fun b7 c0 bS bG eX c1=>?_;have b8:=cY.ext aE;have c2:=b8.O c1 fun he=>cb b5 b8 (by decide) he;rw[V aR.p rfl];refine bl (g:=ah) (o:=3) dq.i (dD bG.sl).1 (dD bG.sl).2 c2 (by simp) fun aJ c4 fw b9=>?_;have b9:ae aJ ah aR [ay,aq,.int .i64 o,b7]:=b9;rw[aI];have ca:ad (fun r=>leadsTo bI r∨r=ah) br aJ:=(c1.mono fun r _ h=>.inl h).trans (c4.mono fun r _ h=>.inr h);have bH:∀ {v:x1} {bn:Nat} {l:List Int},am .i64 ak br bn v l→am .i64 ak aJ bn v l:=fun hm=>a6 hm ca fun r W cc=>by
   rcases cc with cc|rfl
   ·obtain⟨rfl,fx,ac⟩:=c9 b5 cc;exact bQ hm ac (by decide) W rfl
   ·exact bQ hm b8 (by decide) W rfl
  have c5:∀ r,(leadsTo bI r∨r=ah)→B≤r:=fun r W=>W.elim (fun W=>bT aB r W) fun W=>W▸f7;have eY:bp aH g B H N (if t∈A.map (·.1) then none else aQ):=bi.new a1 fun r W=>by
   have W:r=al:=W;omega
  have eZ:=(eY.ext aE).new ca c5;have e0:ad (fz g B) J aJ:=((bE.mono fun r _ h=>h.elim .inl fun h=>.inr (by omega)).trans (a1.mono fun r _ h=>.inr (by have h:r=al:=h;omega))).trans ((aE.O _).trans (ca.mono fun r _ h=>.inr (c5 r h)));have e1:iF aJ c0 b7 (A++[(t,c)]):=⟨L++[a],bG.O c4 fun r W he=>by
   have he:r=ah:=he;subst he;exact cb bG c2 (by decide) W,fun y az=>by
   rcases n9.1 az with az|az
   ·obtain⟨aT,hm⟩:=eR y az;exact⟨aT,bH ((bF hm).ext aE)⟩
   ·rw[j0.1 az];exact⟨cD,bH (cZ.ext aE)⟩,by rw[b6,bZ];rfl⟩
  refine ek _ ⟨A++[(t,c)],_,b7,c0,ba.trans e0,b9,bH ((bF eP).ext aE),bH ((bF eQ).ext aE),e1,fun _ r W=>?_,eZ,fun h=>by omega,fun _=>?_⟩
  ·rcases eX r W with h|h
   ·exact bT aB r h
   ·have:=ba.size;have:=bE.size;have:=a1.size;have:=aE.size;have:=ei.2;omega
  ·have e2:n.toNat-i=(n.toNat-(i+1))+1:=by omega
   rw[e2] at he;obtain⟨e3,e4⟩:=yv (sizes:=sizes) (acc:=A) (st:=cE) (t:=t) (c:=c) et eu;cases ap:aU 0 ao ((eg sizes [] (some cE)).map (·.2)) with
   |none=>
    have bm:aQ=none:=by rw[←cO];show (aU 0 ao _).map _=none;rw[ap];rfl
    rw[mN (e3 ap)] at he;refine .inr ⟨?_,he⟩;rw[bm];split <;> rfl
   |some q=>
    have bm:aQ=some q.2:=by rw[←cO];show (aU 0 ao _).map _=_;rw[ap];rfl
    have bK:=e4 q ap;by_cases hm:t∈A.map (·.1)
    ·rw[if_pos hm] at bK;rw[mN bK] at he;exact .inr ⟨by rw[if_pos hm],he⟩
    ·rw[if_neg hm] at bK;rw[qm bK] at he;refine .inl ⟨q.2,by rw[if_neg hm,bm],he,?_⟩;cases cd:eg sizes [] (some cE) with
     |none=>rw[cd] at ap;cases ap
     |some p=>
      rw[cd] at ap;obtain⟨e5,c7⟩:=p;have bg:hd sizes [] cE=some (e5,c7):=cd;obtain⟨u,_,_,e6⟩:=sJ bg;have bh:aY 0 ao c7=some q:=ap;obtain⟨fy,fA⟩:=q;have e7:=c6 bh;have:=e6.1;have:=e7.1;rw[o5];simp only[U8];omega
def h7 (s:aC):Prop:=s.big=false→0≤s.told∧s.told≤16384
def h8 (neg:Bool) (ar:Nat) (scope sizes:List Int) (J:Option aC):Option (bZ×aC):=match aU 0 ao (J.map (aV (decide (6<ar)||cS sizes))) with
 |none=>none
 |some (other,O)=>match dh sizes O with
  |none=>none
  |some (lines,I)=>some (⟨scope,sizes,other,lines⟩,if neg=true then {I with shared:=I.shared++[(sizes,lines)]} else I)
theorem zR {s s':aC} {l:List (List Int×Int)} (h:dh sizes s=some (l,s')):s'.toks.length+1≤s.toks.length∧s'.shared=s.shared:=by
 unfold dh at h;cases J:aY (-ao) ao s with
 |none=>rw[J] at h;cases h
 |some q=>
  obtain⟨n,I⟩:=q;have U:=c6 J;have ab:=U.1;have V:=U.eqs.2.2;rw[J] at h;simp only at h;split at h
  ·split at h
   ·cases h
   ·split at h
    ·cases h;exact⟨by omega,V⟩
    ·cases h
  ·have h':ch (dg sizes) n.toNat [] (aV (decide (16384<min (I.told+n) ao)) {I with told:=min (I.told+n) ao})=some (l,s'):=h;have:=iv (f:=dg sizes) (fun _ t=>t.toks.length≤I.toks.length∧t.shared=I.shared) (fun acc t a ac W aa=>by
    obtain⟨_,_,_,Y⟩:=mK aa;have h1:=Y.1;have O:=Y.eqs.2.2;exact⟨by have:=W.1;omega,O.trans W.2⟩) n.toNat [] (aV (decide (16384<min (I.told+n) ao)) {I with told:=min (I.told+n) ao}) l s' ⟨o7 _,rfl⟩ h'
   obtain⟨⟨h1,O⟩,_⟩:=this;exact⟨by omega,O.trans V⟩
theorem q1 {g:Nat} {H:ag} {s:aC} (h:bp w g B H N (some s)):s.toks.length≤100000∧s.shared.length+s.toks.length≤100000:=by
 obtain⟨U,w0,V,W,gs,sv,L,X,Y,aa,bad,ab,big,ac,told,h1,ad,ae,af,J,ah,ai,aj,ak,al,am,I,an,O,ao⟩:=h;have ap:=J.2.2.1;refine⟨by rw[←I,u5];omega,by rw[←I,←O,u5,u5];omega⟩
def zS (w:x2) (g U B:Nat) (H:ag) (J:Option (bZ×aC)) (v:x1) (w':x2):Prop:=∃ O x I,ad (fun r=>r=g∨H r∨r=U∨B≤r) w w'∧v= .agg (dZ O).toArray∧fy w' O x∧bp w' g w'.heap.size I 100001 (J.map (·.2))∧(∀ q,J=some q→x=q.1)∧(∀ r,H r→I r)∧(∀ r,I r→H r∨B≤r)∧ ∀ r,I r→r<w'.heap.size
set_option maxHeartbeats 16000000 in
theorem zT {g ac al ar:Nat} {H:ag} {aA:Option aC} {neg:Bool} {dU:Int} {scope:List Int} {Q:x1→x2→Prop}
  (h:bp w g B H 100000 aA) (dV:fJ w B ac ⟨scope,sizes,0,[]⟩) (fB:∀ c,ae w ac aR c→c[3]? =some (.slice none 0 0)) (dW:∀ z∈sizes,1≤z∧z≤ao) (fC:sizes.length≤100001) (dX:ae w al aR [.slice none 0 0,.slice none 0 0,.int .i64 0,.slice none 0 0]) (jE:al<B) (cR:¬H al) (cU:∀ r,H r→r<B) (fD:∀ aW,aA=some aW→h7 aW)
  (fE:∀ v w',zS w g al B H (h8 neg ar scope sizes aA) v w'→Q v w'):
  I x3 (x7 aR (.pointer (some ⟨ac,0,none⟩)) 1) w fun fF=>
  I x3 (x6 au fF) w fun dY=>
  I x3 (Z5 #[au] U #[dY]) w fun fG=>
  bt (.int .i64 1) (.int .i64 0) w fun count dj a7 fH=>
   I x3 (av .lss U false false dj fG) a7 fun fK=>
   Split fK (be (α:=x1→x2→Prop) (fun(fL:x1) (ea:x2)=>
    I x3 (av .add U false true dj (.int .i64 1)) ea fun fM=>
    fH fL fM ea) fun eb=>
   I x3 (o6 au dY dj) a7 fun fN=>
   I x3 (x6 ak fN) a7 fun ec=>
   be (α:=x1→x2→Prop) (fun(fO:x1) (cV:x2)=>
    I x3 (av .mul ak false false count fO) cV fun ed=>
    I x3 (av .gtr ak false true ed (.int .i64 4096)) cV fun fP=>
    Split fP (eb (.int .i64 4097) cV)
     (eb ed cV)) fun ee=>
   I x3 (av .gtr ak false true ec (.int .i64 4096)) a7 fun fQ=>
   Split fQ (ee (.int .i64 4097) a7)
    (ee ec a7))
    (be (α:=x2→Prop) (fun(ce:x2)=>
   af x3 jL [(.pointer (some ⟨g,0,none⟩)),(.int .i64 0),(.int .i64 4611686018427387904)] ce fun eg bW=>
   I x3 (j6 eg 0) bW fun fR=>
   I x3 (j6 eg 1) bW fun jF=>
   I x3 (x7 aR (.pointer (some ⟨ac,0,none⟩)) 2) bW fun fS=>
   ax x3 (o3 ak fS fR) bW fun(_:Unit) bD=>
   af x3 jL [(.pointer (some ⟨g,0,none⟩)),(.int .i64 (-4611686018427387904)),(.int .i64 4611686018427387904)] bD fun eh ap=>
   I x3 (j6 eh 0) ap fun bX=>
   I x3 (j6 eh 1) ap fun ej=>
   I x3 (aX (.pointer (some ⟨g,0,none⟩))) ap fun fU=>
   I x3 (x7 bf fU 3) ap fun fV=>
   I x3 (x6 U fV) ap fun fW=>
   I x3 (av .neq U false true fW (.int .i64 0)) ap fun fX=>
   Split fX (I x3 (x6 aR (.pointer (some ⟨ac,0,none⟩))) ap fun cg=>
    ax x3 (o3 aR (.pointer (some ⟨al,0,none⟩)) cg) ap fun(_:Unit) bE=>
    I x3 (do loadVar aR (←asAddr (.pointer (some ⟨al,0,none⟩)))) bE fun ci=>
 Q ci bE)
    (be (α:=x2→Prop) (fun(bj:x2)=>
    bJ (.int .i64 0) bj fun ek bM fY=>
     be (α:=x1→x2→Prop) (fun(fZ:x1) (ck:x2)=>
      Split fZ (ax x3 (T7 bR true (.tuple #[])) ck fun x cW=>
     I x3 (x7 aR (.pointer (some ⟨ac,0,none⟩)) 1) cW fun ga=>
     I x3 (x6 au ga) cW fun em=>
     I x3 (Z5 #[au] U #[em]) cW fun gb=>
     bJ (.int .i64 0) cW fun dk bY gc=>
      I x3 (av .lss U false false dk gb) bY fun gd=>
      Split gd (I x3 (o6 au em dk) bY fun gf=>
      I x3 (x6 ak gf) bY fun gg=>
      I x3 (av .sub ak false true gg (.int .i64 1)) bY fun gh=>
      af x3 jL [(.pointer (some ⟨g,0,none⟩)),(.int .i64 0),gh] bY fun en cl=>
      I x3 (j6 en 0) cl fun gi=>
      I x3 (j6 en 1) cl fun jG=>
      I x3 (x7 bR x 0) cl fun gj=>
      I x3 (x6 au gj) cl fun gk=>
      ax x3 (Z4 au 1 #[(0,gi)]) cl fun gm gn=>
      ax x3 (l9 #[au,au] au #[gk,gm]) gn fun gq eo=>
      I x3 (x7 bR x 0) eo fun gr=>
      ax x3 (o3 au gr gq) eo fun(_:Unit) ep=>
      I x3 (av .add U false true dk (.int .i64 1)) ep fun gt=>
      gc gt ep)
       (af x3 jL [(.pointer (some ⟨g,0,none⟩)),(.int .i64 0),(.int .i64 4611686018427387904)] bY fun er b0=>
     I x3 (j6 er 0) b0 fun gv=>
     I x3 (j6 er 1) b0 fun gw=>
     I x3 (x7 aR (.pointer (some ⟨ac,0,none⟩)) 3) b0 fun gx=>
     I x3 (x6 dq gx) b0 fun es=>
     I x3 (Z5 #[dq] U #[es]) b0 fun gy=>
     bJ (.int .i64 0) b0 fun dl b1 gz=>
      I x3 (av .lss U false false dl gy) b1 fun gA=>
      Split gA (be (α:=x2→Prop) (fun(et:x2)=>
       I x3 (av .add U false true dl (.int .i64 1)) et fun gB=>
       gz gB et) fun eu=>
      I x3 (o6 dq es dl) b1 fun gC=>
      I x3 (x6 bR gC) b1 fun gD=>
      ax x3 (T7 bR true (.tuple #[])) b1 fun y gE=>
      ax x3 (o3 bR y gD) gE fun(_:Unit) a8=>
      be (α:=x1→x2→Prop) (fun(gF:x1) (ev:x2)=>
       Split gF (af x3 k9 [(.pointer (some ⟨g,0,none⟩)),(.int .i64 4),gw] ev fun jH gH=>
        eu gH)
        (eu ev)) fun ew=>
      I x3 (aX (.pointer (some ⟨g,0,none⟩))) a8 fun gI=>
      I x3 (x7 bf gI 3) a8 fun gJ=>
      I x3 (x6 U gJ) a8 fun gK=>
      I x3 (av .eql U false true gK (.int .i64 0)) a8 fun gL=>
      Split gL (I x3 (x7 bR x 0) a8 fun gM=>
       I x3 (x6 au gM) a8 fun gO=>
      I x3 (x7 bR y 0) a8 fun gP=>
      I x3 (x6 au gP) a8 fun gQ=>
      af x3 pL [gO,gQ] a8 fun gR gS=>
      ew gR gS)
       (ew (.bool false) a8))
       (I x3 (x7 bR x 1) b1 fun gT=>
     ax x3 (o3 ak gT gv) b1 fun(_:Unit) cX=>
     I x3 (x7 aR (.pointer (some ⟨ac,0,none⟩)) 3) cX fun gU=>
     I x3 (x6 dq gU) cX fun gV=>
     I x3 (x6 bR x) cX fun gW=>
     ax x3 (Z4 dq 1 #[(0,gW)]) cX fun gX gY=>
     ax x3 (l9 #[dq,dq] dq #[gV,gX]) gY fun gZ ey=>
     I x3 (x7 aR (.pointer (some ⟨ac,0,none⟩)) 3) ey fun g0=>
     ax x3 (o3 dq g0 gZ) ey fun(_:Unit) eA=>
     I x3 (av .add ak false true ek (.int .i64 1)) eA fun g1=>
     fY g1 eA)))
       (be (α:=x2→Prop) (fun(aO:x2)=>
     I x3 (x6 aR (.pointer (some ⟨ac,0,none⟩))) aO fun g2=>
     ax x3 (o3 aR (.pointer (some ⟨al,0,none⟩)) g2) aO fun(_:Unit) eB=>
     I x3 (do loadVar aR (←asAddr (.pointer (some ⟨al,0,none⟩)))) eB fun g3=>
 Q g3 eB) fun eD=>
    Split (.bool neg) (cj ck fun aZ=>
     I x3 (aX (.pointer (some ⟨g,0,none⟩))) aZ fun dm=>
     I x3 (x7 bf dm 8) aZ fun dn=>
     I x3 (x6 cZ dn) aZ fun eE=>
     I x3 (x6 aR (.pointer (some ⟨ac,0,none⟩))) aZ fun g4=>
     ax x3 (Z4 cZ 1 #[(0,g4)]) aZ fun g5 bk=>
     (Ext aZ bk∨bb x3 (x6 cZ dn) eE bk∧bb x3 (x7 bf dm 8) dn bk∧bb x3 (aX (.pointer (some ⟨g,0,none⟩))) dm bk∧True)∧
     ax x3 (l9 #[cZ,cZ] cZ #[eE,g5]) bk fun g6 cY=>
      I x3 (aX (.pointer (some ⟨g,0,none⟩))) cY fun g7=>
      I x3 (x7 bf g7 8) cY fun g8=>
      ax x3 (o3 cZ g8 g6) cY fun(_:Unit) bO=>
      eD bO)
     (eD ck))) fun eF=>
     I x3 (av .lss ak false false ek bX) bM fun g9=>
     Split g9 (I x3 (aX (.pointer (some ⟨g,0,none⟩))) bM fun ha=>
     I x3 (x7 bf ha 3) bM fun hb=>
     I x3 (x6 U hb) bM fun hc=>
     I x3 (av .eql U false true hc (.int .i64 0)) bM fun hd=>
     eF hd bM)
      (eF (.bool false) bM)) fun eH=>
   I x3 (av .lss ak false true bX (.int .i64 0)) ap fun hf=>
   Split hf (be (α:=x1→x2→Prop) (fun(hg:x1) (aG:x2)=>
     Split hg (af x3 k9 [(.pointer (some ⟨g,0,none⟩)),(.int .i64 4),ej] aG fun jI dp=>
     I x3 (x6 aR (.pointer (some ⟨ac,0,none⟩))) dp fun hh=>
     ax x3 (o3 aR (.pointer (some ⟨al,0,none⟩)) hh) dp fun(_:Unit) eI=>
     I x3 (do loadVar aR (←asAddr (.pointer (some ⟨al,0,none⟩)))) eI fun hj=>
 Q hj eI)
     (I x3 (aX (.pointer (some ⟨g,0,none⟩))) aG fun hk=>
    I x3 (x7 bf hk 8) aG fun hl=>
    I x3 (x6 cZ hl) aG fun hn=>
    I x3 (Op.unary .neg bX) aG fun ho=>
    I x3 (av .sub ak false true ho (.int .i64 1)) aG fun hp=>
    I x3 (o6 cZ hn hp) aG fun hq=>
    I x3 (x7 aR hq 3) aG fun hr=>
    I x3 (x6 dq hr) aG fun ht=>
    I x3 (x7 aR (.pointer (some ⟨ac,0,none⟩)) 3) aG fun hv=>
    ax x3 (o3 dq hv ht) aG fun(_:Unit) eJ=>
    eH eJ)) fun eK=>
    cj ap fun az=>
    I x3 (Op.unary .neg bX) az fun hx=>
    I x3 (aX (.pointer (some ⟨g,0,none⟩))) az fun hy=>
    I x3 (x7 bf hy 8) az fun hz=>
    I x3 (x6 cZ hz) az fun hA=>
    I x3 (Z5 #[cZ] U #[hA]) az fun hB=>
    I x3 (av .gtr ak false false hx hB) az fun hC=>
    Split hC (eK (.bool true) az)
    (I x3 (aX (.pointer (some ⟨g,0,none⟩))) az fun hD=>
    I x3 (x7 bf hD 8) az fun hE=>
    I x3 (x6 cZ hE) az fun hF=>
    I x3 (Op.unary .neg bX) az fun hG=>
    I x3 (av .sub ak false true hG (.int .i64 1)) az fun hH=>
    I x3 (o6 cZ hF hH) az fun hI=>
    I x3 (x7 aR hI 1) az fun hJ=>
    I x3 (x6 au hJ) az fun hK=>
    I x3 (x7 aR (.pointer (some ⟨ac,0,none⟩)) 1) az fun hL=>
    I x3 (x6 au hL) az fun hM=>
    af x3 pL [hK,hM] az fun hN dr=>
    I x3 (Op.unary .not hN) dr fun hO=>
    eK hO dr))
    (I x3 (aX (.pointer (some ⟨g,0,none⟩))) ap fun hP=>
    I x3 (x7 bf hP 7) ap fun hQ=>
    I x3 (x6 ak hQ) ap fun hR=>
    I x3 (av .add ak false false hR bX) ap fun hS=>
    I x3 (aX (.pointer (some ⟨g,0,none⟩))) ap fun hT=>
    I x3 (x7 bf hT 7) ap fun hU=>
    ax x3 (o3 ak hU hS) ap fun(_:Unit) ba=>
    be (α:=x2→Prop) (fun(bd:x2)=>
     I x3 (aX (.pointer (some ⟨g,0,none⟩))) bd fun hV=>
     I x3 (x7 bf hV 7) bd fun hW=>
     I x3 (x6 ak hW) bd fun hX=>
     I x3 (av .gtr ak false true hX (.int .i64 16384)) bd fun hY=>
     af x3 pJ [(.pointer (some ⟨g,0,none⟩)),hY,ej] bd fun jJ ds=>
     eH ds) fun eL=>
    I x3 (aX (.pointer (some ⟨g,0,none⟩))) ba fun hZ=>
    I x3 (x7 bf hZ 7) ba fun h0=>
    I x3 (x6 ak h0) ba fun h2=>
    I x3 (av .gtr ak false true h2 (.int .i64 4611686018427387904)) ba fun h3=>
    Split h3 (I x3 (aX (.pointer (some ⟨g,0,none⟩))) ba fun h4=>
    I x3 (x7 bf h4 7) ba fun h5=>
    ax x3 (o3 ak h5 (.int .i64 4611686018427387904)) ba fun(_:Unit) eM=>
    eL eM)
    (eL ba)))) fun eN=>
  I x3 (av .gtr ak false true (.int .i64 (ar:Int)) (.int .i64 6)) a7 fun h6=>
  Split h6 (af x3 pJ [(.pointer (some ⟨g,0,none⟩)),(.bool true),(.int .i64 dU)] a7 fun jK h9=>
  eN h9)
   (I x3 (av .gtr ak false true count (.int .i64 4096)) a7 fun ia=>
  af x3 pJ [(.pointer (some ⟨g,0,none⟩)),ia,(.int .i64 dU)] a7 fun jM ib=>
  eN ib)):=by
 have ic:=h.lt;have eO:al≠g:=fun he=>by
  obtain⟨a1,aJ,aK,bad,a2,big,a6,told,sv,Y,_⟩:=gu h;subst he;exact absurd (ei Y dX) (by decide)
 obtain⟨ay,aq,bI,c0,c1,c2,f1,f2,f3,f4,f5,f6,f7⟩:=id dV;have cm:ac≠g:=by omega
 have ret:∀ {ah:x2} {x:bZ} {aB:ag},fJ ah B ac x→ae ah al aR [.slice none 0 0,.slice none 0 0,.int .i64 0,.slice none 0 0]→ad (fun r=>r=g∨H r∨B≤r) w ah→bp ah g ah.heap.size aB 100001 ((h8 neg ar scope sizes aA).map (·.2))→(∀ q,h8 neg ar scope sizes aA=some q→x=q.1)→¬aB al→(∀ r,H r→aB r)→(∀ r,aB r→H r∨B≤r)→(∀ r,aB r→r<ah.heap.size)→
   (I x3 (x6 aR (.pointer (some ⟨ac,0,none⟩))) ah fun cg=>
    ax x3 (o3 aR (.pointer (some ⟨al,0,none⟩)) cg) ah fun(_:Unit) bE=>
    I x3 (do loadVar aR (←asAddr (.pointer (some ⟨al,0,none⟩)))) bE fun ci=>Q ci bE):=by
  intro ah x aB dt du ie ig ih ii dv ij ik;obtain⟨ay,aq,bI,c0,c1,c2,dw,dx,dy,dz,dA,eP,eQ⟩:=dt;let aN:hs:=⟨ay,aq,x.other,bI⟩;have cn:fy ah aN x:=⟨⟨c0,dx⟩,⟨c1,dy⟩,rfl,c2,dz⟩;rw[bw aR.p aR.i rfl (show ah.rangeAt ac 0 (dZ aN) from dw.range)];refine bN (vs:=dZ aN) aR.i rfl rfl cn.one du fun jN dC il im=>?_;rw[ez aR.p aR.i rfl im.range];have io:∀ r,r=al→fI ah r∨ah.heap.size≤r:=fun r W=>by subst W;exact .inl ⟨_,_,du,by decide,by decide⟩
  refine fE _ _ ⟨aN,x,aB,(ie.mono fun r _ h=>?_).trans (dC.mono fun r _ h=>.inr (.inr (.inl h))),rfl,cn.da dC io,ig.da dC fun r W=>.inl ?_,ih,dv,ij,fun r W=>by rw[il];exact ik r W⟩
  ·exact h.elim .inl fun h=>h.elim (fun h=>.inr (.inl h)) fun h=>.inr (.inr (.inr h))
  ·have W:r=al:=W;subst W;exact⟨_,_,du,by decide,by decide,by decide,by decide,ii⟩
 have dE:∀ {ah:x2},ad (fz g B) w ah→ae ah al aR [.slice none 0 0,.slice none 0 0,.int .i64 0,.slice none 0 0]:=fun bm=>dX.O bm fun bn=>bn.elim eO fun h=>by omega
 have dF:∀ {ah:x2},ad (fz g B) w ah→ad (fun r=>r=g∨H r∨B≤r) w ah:=fun bm=>bm.mono fun r _ h=>h.elim .inl fun h=>.inr (.inr h);have eR:∀ {ah:x2} {eS:Nat} {aB:ag} {so:Option aC},bp ah g eS aB 100000 so→bp ah g eS aB 100001 so:=fun W=>by
  obtain⟨cp,w0,a1,bF,gs,sv,L,X,aJ,aK,bad,a2,big,a6,told,h1,ip,iq,ir,it,dG,dH⟩:=W;refine⟨by omega,w0,a1,bF,gs,sv,L,X,aJ,aK,bad,a2,big,a6,told,h1,ip,iq,ir,it,dG,?_⟩;rename_i so;cases so with
  |none=>exact⟨dH.1,by have:=dH.2;omega⟩
  |some s=>exact dH
 have eU:∀ {ah:x2} {x:bZ},fJ ah B ac x→ad (fz g B) w ah→bp ah g B H 100000 none→h8 neg ar scope sizes aA=none→(I x3 (x6 aR (.pointer (some ⟨ac,0,none⟩))) ah fun cg=>
    ax x3 (o3 aR (.pointer (some ⟨al,0,none⟩)) cg) ah fun(_:Unit) bE=>
    I x3 (do loadVar aR (←asAddr (.pointer (some ⟨al,0,none⟩)))) bE fun ci=>Q ci bE):=fun dt bm W eV=>
  ret dt (dE bm) (dF bm) (by rw[eV];exact eR W.base) (fun q aE=>by rw[eV] at aE;cases aE) cR (fun _ h=>h) (fun _ h=>.inl h) fun r W=>by have:=cU r W;have:=bm.size;omega
 rw[V aR.p rfl,aa (by kernel_rfl) (f1.cell (o:=0+1) rfl),aL au.u f3.ls];refine IL f3.ls (fun z iu=>(dW z iu).1) fun c bm=>?_;refine c3 (fun ce=>ad (fun r=>r=g) w ce∧bp ce g B H 100000 (aA.map (aV (decide (6<ar)||cS sizes)))) ?_ ?_
 rotate_left
 ·intro dI bo;rw[bA,ab];refine⟨fun dG=>?_,fun dG=>?_⟩
  ·refine (kS h).mono ?_;rintro _ J _ bq;refine bo _ ⟨bq.1,?_⟩;rw[decide_eq_true (show 6<ar by omega),Bool.true_or];exact bq.2
  ·rw[bA];refine (kS h).mono ?_;rintro _ J _ bq;refine bo _ ⟨bq.1,?_⟩;have e:cS sizes=decide (4096<c):=by rw[V1,decide_eq_true_eq];exact bm.symm
   rw[decide_eq_false (show ¬6<ar by omega),Bool.false_or,e];exact bq.2
 rintro ce ⟨iv,iw⟩;refine (iG iw).mono ?_;rintro _ bW _ ⟨⟨ix,iy⟩,o,iz,rfl,iA,jO⟩;rw[aD (v:=.int .i64 o) rfl,aD (v:=.int .i64 iz) rfl];have b2:ad (fun r=>r=g) w bW:=iv.trans ix;have jP:=dV.da b2 (iH h);have f123:=f1.O b2 fun he=>cm he;rw[V aR.p rfl];refine bl (g:=ac) (o:=2) ak.i rfl rfl f123 (by simp) fun bD cq jQ b3=>?_;have b3:ae bD ac aR [ay,aq,.int .i64 o,bI]:=b3;have dK:∀ r,r=g→fI w r∨w.heap.size≤r:=fun r W=>(iH h r W).imp (fun⟨e,c,Y,br,bu,_⟩=>⟨e,c,Y,br,bu⟩) id;have b4:∀ {ah:x2} {c:List x1},ae ah ac aR c→ ∀ r,r=ac→fI ah r∨ah.heap.size≤r:=fun Y r W=>by subst W;exact .inl ⟨_,_,Y,by decide,by decide⟩
 have f224:=dJ (dJ f2 b2 dK) cq (b4 f123);have f324:=dJ (dJ f3 b2 dK) cq (b4 f123);have eW:=(f4.da b2 dK).da cq (b4 f123);have b5:=iy.new cq fun r W=>by have W:r=ac:=W;omega
 have eX:ad (fz g B) w bD:=(b2.mono fun r _ h=>.inl h).trans (cq.mono fun r _ h=>.inr (by have h:r=ac:=h;omega));refine (iG b5).mono ?_;rintro _ ap _ ⟨⟨bG,bx⟩,n,iB,rfl,iC,eY⟩;rw[aD (v:=.int .i64 n) rfl,aD (v:=.int .i64 iB) rfl,oM bx];have eZ:ad (fz g B) w ap:=eX.trans (bG.mono fun r _ h=>.inl h);have iD:fJ bD B ac ⟨scope,sizes,o,[]⟩:=⟨ay,aq,bI,c0,c1,c2,b3,f224,f324,eW,f5,f6,f7⟩;have e0:=iD.da bG (iH b5);cases bz:aU (-4611686018427387904) 4611686018427387904 (V0 (fun x=>x.snd) (aU 0 4611686018427387904 (aA.map (aV (decide (6<ar)||cS sizes))))) with
 |none=>
  rw[bz] at bx;rw[Option.map_none,Option.isSome_none,X4,bC];refine eU e0 eZ bx ?_;unfold h8;cases aF:aU 0 ao (aA.map (aV (decide (6<ar)||cS sizes))) with
  |none=>rfl
  |some p=>
   obtain⟨o',aj⟩:=p;have iE:aU 0 4611686018427387904 (aA.map (aV (decide (6<ar)||cS sizes)))=some (o',aj):=aF;rw[iE] at bz;have e:aY (-ao) ao aj=none:=bz;simp only;unfold dh;rw[e]
 |some q=>
 obtain⟨jR,ai⟩:=q;have iI:=iC _ bz;subst iI;rw[bz] at bx;have bx:bp ap g B H 100000 (some ai):=bx;rw[Z2,Option.isSome_some,Y4,aP];obtain⟨aj,aF,dL⟩:∃ aj,aU 0 ao (aA.map (aV (decide (6<ar)||cS sizes)))=some (o,aj)∧aY (-ao) ao aj=some (n,ai):=by
  cases aF:aU 0 4611686018427387904 (aA.map (aV (decide (6<ar)||cS sizes))) with
  |none=>rw[aF] at bz;cases bz
  |some p=>
   obtain⟨o',aj⟩:=p;have:=iA _ aF;subst this;rw[aF] at bz;exact⟨aj,aF,bz⟩
 have cr:h8 neg ar scope sizes aA=match dh sizes aj with
   |none=>none
   |some (lines,ai)=>some (⟨scope,sizes,o,lines⟩,if neg=true then {ai with shared:=ai.shared++[(sizes,lines)]} else ai):=by
  unfold h8;rw[aF]
 have iJ:=(gl dL).1;have iK: -4611686018427387904≤n∧n≤4611686018427387904:=iJ;have e1:dh sizes aj=(if n<0 then match ai.shared[(-n-1).toNat]? with
   |none=>none
   |some (z,l)=>if z=sizes then some (l,ai) else none
  else ch (dg sizes) n.toNat [] (aV (decide (16384<min (ai.told+n) ao)) {ai with told:=min (ai.told+n) ao})):=by
  unfold dh;rw[dL];rfl
 have iL:h7 ai:=by
  cases b7:aA with
  |none=>rw[b7] at aF;cases aF
  |some aW=>
   rw[b7] at aF;have dM:aY 0 ao (aV (decide (6<ar)||cS sizes) aW)=some (o,aj):=aF;have c4:=(c6 dM).eqs;have ct:=(c6 dL).eqs;intro Y;rw[ct.2.1,c4.2.1] at Y;rw[ct.1,c4.1];exact fD aW b7 (T3.1 Y).1
 refine c3 (fun bj=>ad (fz g B) w bj∧ ∃ bP cu c5 bH,ae bj ac aR [ay,aq,.int .i64 o,bP]∧am .i64 ak bj c0 ay scope∧am .i64 ak bj c1 aq sizes∧iF bj cu bP c5∧bp bj g B H 100000 (some bH)∧(0<n→c5=[]∧ ∀ r,¬leadsTo bP r)∧dh sizes aj=(if n≤0 then some (c5,bH) else ch (dg sizes) n.toNat [] bH)) ?_ ?_
 ·rintro bj ⟨iM,bP,cu,c5,bH,dw,dx,dy,dz,dA,eP,eQ⟩;refine IP dA dw dx dy dz f5 f6 f7 dW fC iK.2 eP (q1 dA).1 fun ck A dN iN e2 e3 iO cw=>?_;have b8:=iM.trans iN;have bQ:dN=(dh sizes aj).map (·.2)∧ ∀ q,dh sizes aj=some q→A=q.1:=by
   rw[eQ];by_cases dO:n≤0
   ·obtain⟨aJ,aK⟩:=iO dO;rw[if_pos dO];exact⟨aK,fun q aE=>by cases aE;exact aJ⟩
   ·rw[if_neg dO];exact cw (by omega)
  obtain⟨bQ,bq⟩:=bQ;cases neg with
  |false=>
   refine c3 (fun aO=>ck=aO) ?_ ?_
   ·rintro _ rfl;refine ret e2 (dE b8) (dF b8) ?_ ?_ cR (fun _ h=>h) (fun _ h=>.inl h) fun r W=>by have:=cU r W;have:=b8.size;omega
    ·have:(h8 false ar scope sizes aA).map (·.2)=dN:=by
      rw[cr,bQ];cases dh sizes aj with
      |none=>rfl
      |some p=>rfl
     rw[this];exact eR e3.base
    ·intro q aE;rw[cr] at aE;cases aQ:dh sizes aj with
     |none=>rw[aQ] at aE;cases aE
     |some p=>
      rw[aQ] at aE;have:=bq p aQ;cases aE;rw[this]
   ·intro dI bo;rw[aP];exact bo _ rfl
  |true=>
   refine c3 (fun aO=>∃ aB,ad (fun r=>r=g∨H r∨B≤r) w aO∧fJ aO B ac ⟨scope,sizes,o,A⟩∧ae aO al aR [.slice none 0 0,.slice none 0 0,.int .i64 0,.slice none 0 0]∧bp aO g aO.heap.size aB 100001 ((h8 true ar scope sizes aA).map (·.2))∧¬aB al∧(∀ r,H r→aB r)∧(∀ r,aB r→H r∨B≤r)∧ ∀ r,aB r→r<aO.heap.size) ?_ ?_
   ·rintro aO ⟨aB,iP,iQ,a3,a4,a5,iR,iS,iT⟩;refine ret iQ a3 iP a4 ?_ a5 iR iS iT;intro q aE;rw[cr] at aE;cases aQ:dh sizes aj with
    |none=>rw[aQ] at aE;cases aE
    |some p=>
     rw[aQ] at aE;have:=bq p aQ;cases aE;rw[this]
   ·intro dI bo;rw[bC];intro aZ cz _ _;have iU:=e3.ext cz;have iV:=e2.ext cz;have iW:=(dE b8).ext cz;obtain⟨cp,w0,a1,bF,gs,sv,L,X,aJ,aK,bad,a2,big,a6,told,c7,bS,bT,aS,bU,bK,bV⟩:=id iU;have iX:=bU.g bS bT;obtain⟨⟨iY,e4⟩,bg,cA,cB⟩:=id iX;have iZ:∀ r,leadsTo sv r→r<B:=fun r W=>cU r (bK r W);rw[aw,V bf.p rfl,aa (by kernel_rfl) (aS.cell (o:=0+8) rfl)];obtain⟨e5,e6,bP,e7,e8,cu,e9,fa,fb,fc,i0,i1,i2⟩:=id iV;let aN:hs:=⟨e5,e6,o,bP⟩;let x:bZ:=⟨scope,sizes,o,A⟩;have cn:fy aZ aN x:=⟨⟨e7,fa⟩,⟨e8,fb⟩,rfl,cu,fc⟩;rw[bw aR.p aR.i rfl (show aZ.rangeAt ac 0 (dZ aN) from e9.range)];refine gp (f:=dZ) (a:=aN) cZ.u aR.i (by omega) rfl rfl fun jS jT bk jU aH i3=>?_;refine⟨.inl aH,?_⟩;have jV:L.length≤100000:=by
     cases dN with
     |none=>exact bV.2
     |some s=>have:=bV.2.2.2.2.2.2.2.2;omega
    have dP:=bg.ext aH;refine gN (f:=dZ) (a:=aN) cZ.u aR.i rfl dP (by simpa using i3.sl) (cn.ext aH).one (by omega) (by omega) fun fd i4 cY cC i5 fe=>?_;have dQ:=aS.ext aH;have ff:=dQ.O fe fun he=>cb dP dQ (by decide) he;rw[aw,V bf.p rfl];refine bl (g:=g) (o:=8) cZ.i (dD cC.sl).1 (dD cC.sl).2 ff (by simp[fm]) fun bO dR jW c8=>?_;have c8:ae bO g bf (fm a1 aJ aK bad a2 big a6 told fd):=c8;have bh:ad (fun r=>leadsTo sv r∨r=g) bk bO:=(fe.mono fun r _ h=>.inl h).trans (dR.mono fun r _ h=>.inr h);have db:∀ r,(leadsTo sv r∨r=g)→fI bk r∨bk.heap.size≤r:=fun r W=>by
     rcases W with W|rfl
     ·obtain⟨rfl,c,Y⟩:=c9 dP W;exact .inl ⟨_,c,Y,by decide,by decide⟩
     ·exact .inl ⟨_,_,dQ,by decide,by decide⟩
    have fg:∀ {aN x},fy aZ aN x→fy bO aN x:=fun he=>(he.ext aH).da bh db;have z50:=cz.size;have jX:=aH.size;have z53:=bh.size;have jY:=b8.size;have jZ:=ic.2;refine bo _ ⟨fun r=>H r∨(aZ.heap.size≤r∧r<bO.heap.size),?_,?_,?_,?_,?_,fun r W=>.inl W,fun r W=>W.imp id fun W=>by omega,fun r W=>?_⟩
    ·refine (((dF b8).trans (cz.O _)).trans (aH.O _)).trans (bh.mono fun r _ W=>?_);exact W.elim (fun W=>.inr (.inl (bK r W))) .inl
    ·have i6:=e9.ext aH;refine⟨e5,e6,bP,e7,e8,cu,i6.O bh fun W=>?_,dJ (fa.ext aH) bh db,dJ (fb.ext aH) bh db,(fc.da (aH.O fun _=>False) fun _ h=>h.elim).da bh db,i0,i1,i2⟩;rcases W with W|W
     ·have:=iZ _ W;omega
     ·exact cm W
    ·exact (iW.ext aH).O bh fun W=>W.elim (fun W=>cR (bK _ W)) eO
    ·refine⟨by omega,bO,a1,bF,i4,fd,L++[aN],X++[x],aJ,aK,bad,a2,big,a6,told,rfl,ad.refl _ _,⟨_,c8⟩,c8,⟨⟨?_,fun r W=>?_⟩,cC.O dR fun r W he=>?_,by rw[o5,o5,cA];rfl,fun i i7 i8 hi cD=>?_⟩,fun r W=>?_,?_⟩
     ·refine (iY.O (aH.O fun _=>False) fun _ _ h=>h).O bh fun r W bn=>?_;obtain⟨c,Y⟩:=e4 r W;rcases bn with bn|rfl
      ·obtain⟨rfl,i9,dS⟩:=c9 bg bn;exact absurd (ei Y dS) (by decide)
      ·exact absurd (ei Y aS) (by decide)
     ·obtain⟨c,Y⟩:=e4 r W;refine⟨c,(Y.ext aH).O bh fun bn=>?_⟩;rcases bn with bn|rfl
      ·obtain⟨rfl,i9,dS⟩:=c9 bg bn;exact absurd (ei Y dS) (by decide)
      ·exact absurd (ei Y aS) (by decide)
     ·have he:r=g:=he;subst he;exact cb cC ff (by decide) W
     ·by_cases ja:i<L.length
      ·rw[Z7 ja] at hi;rw[Z7 (by omega)] at cD;exact fg (cB i i7 i8 hi cD)
      ·rw[Z8 (by omega)] at hi;rw[Z8 (by omega)] at cD;have jb:i-L.length=0:=by have:=(x4.1 hi).1;simp at this;omega
       have dv:i-X.length=0:=by omega
       rw[jb] at hi;rw[dv] at cD;cases hi;cases cD;exact fg cn
     ·rcases i5 r W with h|h
      ·exact .inl (bK r h)
      ·have:=(cC.leads W);have:=dR.size;exact .inr ⟨by omega,by omega⟩
     ·rw[cr];cases aQ:dh sizes aj with
      |none=>
       rw[aQ] at bQ;rw[bQ] at bV;exact⟨bV.1,by rw[o5];simp;have:=bV.2;omega⟩
      |some p=>
       obtain⟨lines,bH⟩:=p;rw[aQ] at bQ;rw[bQ] at bV;have jc:=bq _ aQ;obtain⟨cE,cF,cG,cH,cI,ca,cJ,bi,dc⟩:=id bV;have fh:=zR aQ;refine⟨cE,cF,cG,cH,cI,ca,cJ,?_,?_⟩
       ·show (X++[x]).map _=bH.shared++[(sizes,lines)];rw[b6,bi];simp only[x,T4,List.map_nil];rw[jc]
       ·have j0:aj.shared.length+aj.toks.length≤100000:=by
         cases b7:aA with
         |none=>rw[b7] at aF;cases aF
         |some aW=>
          rw[b7] at aF h;have dM:aY 0 ao (aV (decide (6<ar)||cS sizes) aW)=some (o,aj):=aF;have t9:=c6 dM;have c4:=t9.1;have ct:=t9.eqs.2.2;have t3:=(q1 h).2;have fi:(aV (decide (6<ar)||cS sizes) aW).toks=aW.toks:=rfl;have fj:(aV (decide (6<ar)||cS sizes) aW).shared=aW.shared:=rfl;rw[fi] at c4;rw[fj] at ct;rw[ct];omega
        have fk:L.length=bH.shared.length:=by rw[←bi,u5,cA]
        have jd:bF.length=bH.toks.length:=by rw[←ca,u5]
        rw[fh.2] at fk;rw[o5,fk,jd];simp only[U8];have:=fh.1;omega
    ·rintro (W|W)
     ·exact cR W
     ·omega
    ·rcases W with W|W
     ·have:=cU r W;omega
     ·exact W.2
 ·intro dI bo;rw[an,ab];refine⟨fun je=>?_,fun jf=>?_⟩
  ·
   refine aM (fun v aG=>Ext ap aG∧ ∃ b:Bool,v= .bool b∧(b=true→dh sizes aj=none)∧(b=false→ ∃ lines,dh sizes aj=some (lines,ai)∧ai.shared[(-n-1).toNat]? =some (sizes,lines))) ?_ ?_
   ·rintro _ aG ⟨cc,b,rfl,jg,jh⟩;have de:=bx.ext cc;have ji:=e0.ext cc;have fl:=eZ.trans (cc.O _);cases b with
    |true=>
     rw[bC];refine (lQ de (by omega)).mono ?_;rintro _ dp _ ⟨fo,jj⟩;exact eU (ji.da fo (iH de)) (fl.trans (fo.mono fun r _ h=>.inl h)) jj (by rw[cr,jg rfl])
    |false=>
     rw[aP];obtain⟨lines,jk,cd⟩:=jh rfl;obtain⟨cp,w0,a1,bF,gs,sv,L,X,aJ,aK,bad,a2,big,a6,told,c7,bS,bT,aS,bU,bK,cE,cF,cG,cH,cI,ca,cJ,bi,dc⟩:=id de;obtain⟨_,bg,cA,cB⟩:=bU.g bS bT;have cK:(-n-1).toNat<L.length:=by
      have h1:=(x4.1 cd).1;rw[←bi,u5] at h1;omega
     obtain⟨df,cL⟩:∃ h,L[(-n-1).toNat]? =some h:=⟨_,y0 cK⟩;obtain⟨bB,cM⟩:∃ x,X[(-n-1).toNat]? =some x:=⟨_,y0 (by omega)⟩;obtain⟨_,_,_,jl,aT⟩:=cB _ df bB cL cM;have jm:bB.lines=lines:=by
      rw[←bi,x8,cM] at cd;have:=b9 cd;exact (Prod.mk.inj this).2
     rw[aw,V bf.p rfl,aa (by kernel_rfl) (aS.cell (o:=0+8) rfl),kE,wrap_i64 (by omega) (by omega),dd,wrap_i64 (by omega) (by omega),cT (i:=(-n-1).toNat) (by omega) cZ.u aR.i bg cK,V aR.p rfl,aa (by kernel_rfl) (bg.range cL 3 _ rfl)];obtain⟨j1,fp,j2,j3⟩:=id aT;have di:ae aG ac aR [ay,aq,.int .i64 o,bI]:=(b3.O bG fun he=>cm he).ext cc;have jn:=(dJ f224 bG fun r W=>(iH b5 r W).imp (fun⟨e,c,Y,br,bu,_⟩=>⟨e,c,Y,br,bu⟩) id).ext cc;have jo:=(dJ f324 bG fun r W=>(iH b5 r W).imp (fun⟨e,c,Y,br,bu,_⟩=>⟨e,c,Y,br,bu⟩) id).ext cc;rw[V aR.p rfl];refine bl (g:=ac) (o:=3) dq.i (dD fp.sl).1 (dD fp.sl).2 di (by simp) fun eJ cN j4 jp=>?_;refine bo _ ⟨fl.trans (cN.mono fun r _ h=>.inr (by have h:r=ac:=h;omega)),df.bI,jl,lines,ai,jp,dJ jn cN (b4 di),dJ jo cN (b4 di),?_,de.new cN fun r W=>by have W:r=ac:=W;omega,fun h=>by omega,by rw[jk,if_pos (by omega)]⟩;rw[←jm];exact aT.da cN (b4 di)
   ·intro j5 fq;intro az cO _ _;have jq:=bx.ext cO;obtain⟨cp,w0,a1,bF,gs,sv,L,X,aJ,aK,bad,a2,big,a6,told,c7,bS,bT,aS,bU,bK,cE,cF,cG,cH,cI,ca,cJ,bi,dc⟩:=id jq;obtain⟨_,bg,cA,cB⟩:=bU.g bS bT;have j7:ai.shared.length=L.length:=by rw[←bi,u5,cA]
    have aT:=e1;rw[if_pos je] at aT;rw[kE,wrap_i64 (by omega) (by omega),aw,V bf.p rfl,aa (by kernel_rfl) (aS.cell (o:=0+8) rfl),ef cZ.u bg,bA,ab];refine⟨fun cw=>fq _ _ ⟨cO,true,rfl,fun _=>?_,fun h=>by cases h⟩,fun cw=>?_⟩
    ·rw[aT,Z9 (by omega)]
    have cK:(-n-1).toNat<L.length:=by omega
    obtain⟨df,cL⟩:∃ h,L[(-n-1).toNat]? =some h:=⟨_,y0 cK⟩;obtain⟨bB,cM⟩:∃ x,X[(-n-1).toNat]? =some x:=⟨_,y0 (by omega)⟩;obtain⟨_,⟨j8,jr⟩,_,_⟩:=cB _ df bB cL cM;have cd:ai.shared[(-n-1).toNat]? =some (bB.sizes,bB.lines):=by rw[←bi,x8,cM];rfl
    rw[cd] at aT;simp only at aT;rw[aw,V bf.p rfl,aa (by kernel_rfl) (aS.cell (o:=0+8) rfl),kE,wrap_i64 (by omega) (by omega),dd,wrap_i64 (by omega) (by omega),cT (i:=(-n-1).toNat) (by omega) cZ.u aR.i bg cK,V aR.p rfl,aa (by kernel_rfl) (bg.range cL 1 _ rfl)];have js:ae az ac aR [ay,aq,.int .i64 o,bI]:=(b3.O bG fun he=>cm he).ext cO;have jt:=(dJ f324 bG fun r W=>(iH b5 r W).imp (fun⟨e,c,Y,br,bu,_⟩=>⟨e,c,Y,br,bu⟩) id).ext cO;rw[V aR.p rfl,aa (by kernel_rfl) (js.cell (o:=0+1) rfl)];refine (tG jr.ls jt.ls).mono ?_;rintro _ dr _ ⟨rfl,ju⟩;rw[bc];refine fq _ _ ⟨cO.trans ju,_,rfl,fun Y=>?_,fun Y=>?_⟩
    ·have jv:bB.sizes≠sizes:=by simpa using Y
     rw[aT,if_neg jv]
    ·have fs:bB.sizes=sizes:=by simpa using Y
     exact⟨bB.lines,by rw[aT,if_pos fs],by rw[cd,fs]⟩
  ·
   have aT:=e1;rw[if_neg jf] at aT;obtain⟨cp,w0,a1,bF,gs,sv,L,X,aJ,aK,bad,a2,big,a6,told,c7,bS,bT,aS,bU,bK,cE,cF,cG,cH,cI,ca,cJ,bi,dc⟩:=id bx;rw[aw,V bf.p rfl,aa (by kernel_rfl) (aS.cell (o:=0+7) rfl),aI];generalize jw:Y0.wrap (told+n)=bL;have ft:ai.big=false→bL=ai.told+n∧0≤bL:=fun Y=>by
    obtain⟨fi,fj⟩:=iL Y;have jx:=cH Y;rw[←jw,jx,wrap_i64 (by omega) (by omega)];exact⟨rfl,by omega⟩
   rw[aw,V bf.p rfl];refine bl (g:=g) (o:=7) ak.i rfl rfl aS (by simp[fm]) fun ba fu ka cP=>?_;have cP:ae ba g bf (fm a1 aJ aK bad a2 big a6 bL sv):=cP;refine c3 (fun bd=>ad (fun r=>r=g) ap bd∧ae bd g bf (fm a1 aJ aK bad a2 big a6 (min bL ao) sv)) ?_ ?_
   rotate_left
   ·intro kb fv;rw[aw,V bf.p rfl,aa (by kernel_rfl) (cP.cell (o:=0+7) rfl),bA,ab];refine⟨fun cw=>?_,fun cw=>fv _ ⟨fu,?_⟩⟩
    ·rw[aw,V bf.p rfl];refine bl (g:=g) (o:=7) ak.i rfl rfl cP (by simp[fm]) fun eM jy kc jz=>?_;refine fv _ ⟨fu.trans jy,?_⟩;have e:min bL ao=4611686018427387904:=by unfold ao;omega
     rw[e];exact jz
    ·have e:min bL ao=bL:=by unfold ao;omega
     rw[e];exact cP
   rintro bd ⟨fw,fx⟩;have jA:bp bd g B H 100000 (some {ai with told:=min (ai.told+n) ao}):=⟨cp,w0,a1,bF,gs,sv,L,X,aJ,aK,bad,a2,big,a6,_,c7,bS.trans fw,bT,fx,bU,bK,cE,cF,cG,fun Y=>by
    have Y:ai.big=false:=Y;rw[(ft Y).1],cI,ca,cJ,bi,dc⟩
   rw[aw,V bf.p rfl,aa (by kernel_rfl) (fx.cell (o:=0+7) rfl),bA];refine (kS jA).mono ?_;rintro _ ds _ ⟨jB,fA⟩;have jC:(some {ai with told:=min (ai.told+n) ao}).map (aV (decide (16384<min bL ao)))=some (aV (decide (16384<min (ai.told+n) ao)) {ai with told:=min (ai.told+n) ao}):=by
    show some (aV _ _)=_;congr 1;unfold aV;cases Y:ai.big with
    |true=>simp
    |false=>rw[(ft Y).1]
   rw[jC] at fA;have cQ:ad (fun r=>r=g) bD ds:=(bG.trans fw).trans jB;have dT:∀ r,r=g→fI bD r∨bD.heap.size≤r:=fun r W=>(iH b5 r W).imp (fun⟨e,c,Y,br,bu,_⟩=>⟨e,c,Y,br,bu⟩) id;have jD:bI= .slice none 0 0:=by
    have:=fB _ f1;simpa using this
   refine bo _ ⟨eX.trans (cQ.mono fun r _ h=>.inl h),bI,c2,[],_,b3.O cQ fun he=>cm he,dJ f224 cQ dT,dJ f324 cQ dT,eW.da cQ dT,fA,fun _=>⟨rfl,fun r W=>by rw[jD] at W;exact eC W⟩,?_⟩;rw[aT];by_cases eY:n≤0
   ·have:n=0:=by omega
    subst this;rw[if_pos (Int.le_refl _)];rfl
   ·rw[if_neg eY]
theorem zU {s:aC}:cF all s=match aY (-ao) ao s with
  |none=>none
  |some (a,J)=>match ee all.length a.natAbs J with
   |none=>none
   |some (scope,I)=>h8 (decide (a<0)) a.natAbs scope (scope.map fun v=>all.getD v.toNat 0) (some I):=by
 unfold cF;cases aY (-ao) ao s with
 |none=>rfl
 |some q=>
  obtain⟨a,J⟩:=q;simp only;cases ee all.length a.natAbs J with
  |none=>rfl
  |some p=>
   obtain⟨scope,I⟩:=p;simp only;unfold h8;show _=match aY 0 ao (aV (decide (6<a.natAbs)||cS (scope.map fun v=>all.getD v.toNat 0)) I) with
    |none=>none
    |some (other,O)=>_
   cases aY 0 ao (aV (decide (6<a.natAbs)||cS (scope.map fun v=>all.getD v.toNat 0)) I) with
   |none=>rfl
   |some V=>
    obtain⟨o,O⟩:=V;simp only;cases dh (scope.map fun v=>all.getD v.toNat 0) O with
    |none=>rfl
    |some W=>
     obtain⟨ls,Y⟩:=W;by_cases U:a<0
     ·simp[U]
     ·simp[U]
def tI (w:x2) (g:Nat) (H:ag) (J:Option (bZ×aC)) (v:x1) (w':x2):Prop:=∃ O x I,ad (fun r=>r=g∨H r) w w'∧v= .agg (dZ O).toArray∧fy w' O x∧bp w' g w'.heap.size I 100001 (J.map (·.2))∧(∀ q,J=some q→x=q.1)∧(∀ r,H r→I r)∧(∀ r,I r→H r∨w.heap.size≤r)∧ ∀ r,I r→r<w'.heap.size
theorem zV {k:Nat} {s s':aC} (h:ee n k s=some (l,s')):s'.toks.length+l.length≤s.toks.length∧s'.told=s.told∧s'.big=s.big∧s'.shared=s.shared∧ ∀ v∈l,0≤v∧v<n:=by
 have:=iv (f:=iw n) (fun(acc:List Int) t=>t.toks.length+acc.length≤s.toks.length∧t.told=s.told∧t.big=s.big∧t.shared=s.shared∧ ∀ v∈acc,0≤v∧v<n) (fun acc t a ac J I=>by
  unfold iw at I;cases U:aY 0 (n-1) t with
  |none=>rw[U] at I;cases I
  |some q=>
   obtain⟨v,ad⟩:=q;rw[U] at I;simp only at I;split at I
   ·cases I
   ·cases I;have V:=c6 U;have ae:=(gl U).1;obtain⟨W,Y,aa⟩:=V.eqs;have t0:=V.1;refine⟨by have:=J.1;rw[o5];simp only[U8];omega,W.trans J.2.1,Y.trans J.2.2.1,aa.trans J.2.2.2.1,fun y O=>?_⟩;rcases n9.1 O with O|O
    ·exact J.2.2.2.2 y O
    ·rw[j0.1 O];omega) k [] s l s' ⟨by simp,rfl,rfl,rfl,fun v ab=>by cases ab⟩ h
 exact this.1
set_option maxHeartbeats 8000000 in
theorem IQ {g B0 bj:Nat} {H:ag} {s:aC} {aw:x1} (h:bp w g B0 H 100000 (some s)) (aK:am .i64 ak w bj aw all) (aL:∀ z∈all,1≤z∧z≤ao) (bk:all.length≤100001) (aA:∀ r,H r→r<w.heap.size) (bL:h7 s):
  af x3 vU [.pointer (some ⟨g,0,none⟩),aw] w (tI w g H (cF all s)):=by
 have cl:=h.lt;refine az func160 ?_;refine bu aR.i fun ai J cm aB aE=>?_;have aE:ae J ai aR [.slice none 0 0,.slice none 0 0,.int .i64 0,.slice none 0 0]:=aE;refine bu aR.i fun al bM cn aF aG=>?_;have aG:ae bM al aR [.slice none 0 0,.slice none 0 0,.int .i64 0,.slice none 0 0]:=aG;have h1:=(h.ext aB).base;have aN:=h1.ext aF;have cp:=aB.size;have bl:=aE.lt;have cq:=aG.lt;refine (iG aN).mono ?_;rintro _ ah _ ⟨⟨aH,W⟩,a,bO,rfl,aO,aP⟩;rw[aD (v:=.int .i64 a) rfl,aD (v:=.int .i64 bO) rfl,an];have bP:al≠g:=by omega
 have aQ:ai≠g:=by omega
 have aS:=aG.O aH fun he=>bP he;have aT:=(aE.ext aF).O aH fun he=>aQ he;have bm:am .i64 ak ah bj aw all:=a6 ((aK.ext aB).ext aF) aH fun r U he=>by
  have he:r=g:=he;obtain⟨bo,aa,aj,bad,bq,big,br,told,sv,aI,_⟩:=gu h;subst he;exact bQ aK aI (by decide) U rfl
 have bt:∀ r,leads aw r→r<J.heap.size:=fun r U=>by obtain⟨aa,aj⟩:=bn aK U;omega
 have aV:fJ ah J.heap.size al ⟨[],[],0,[]⟩:=⟨_,_,_,0,0,0,aS,am.nil _ _ _ _,am.nil _ _ _ _,⟨[],a1.nil _ _ _ _ _,fun y bR=>(by cases bR),rfl⟩,(fun r U=>by rcases U with⟨a,n,c,aa,aj⟩|⟨a,n,c,aa,aj⟩ <;> cases aa),(fun r U=>by obtain⟨a,n,c,aa,aj⟩:=U;cases aa),by omega⟩;have aW:∀ c,ae ah al aR c→c[3]? =some (.slice none 0 0):=fun c aX=>by
  unfold ae at aX aS;rw[aS] at aX;have:=Array.toList_inj.2 (Obj.cells.inj (b9 aX)).1;simp at this;rw[←this];rfl
 have bx:ad (fun r=>r=g) J ah:=(aF.O _).trans aH;have cr:J.heap.size≤ah.heap.size:=bx.size;have aZ:∀ {V:x2} {a2:Option (bZ×aC)} {v:x1} {w':x2},ad (fz g J.heap.size) ah V→a2=cF all s→zS V g ai J.heap.size H a2 v w'→tI w g H (cF all s) v w':=by
  rintro V a2 v w' ac rfl ⟨av,x,bS,a7,a8,ba,bb,bz,bA,bB,bT⟩;refine⟨av,x,bS,?_,a8,ba,bb,bz,bA,fun r U=>(bB r U).imp id fun h=>by omega,bT⟩;refine fB (fB ((aB.O _).trans (bx.mono fun r _ h=>.inl h)) ac fun r U he=>?_) a7 fun r U he=>?_
  ·exact he.elim .inl fun he=>by omega
  ·rcases he with he|he|he|he
   ·exact .inl he
   ·exact .inr he
   ·omega
   ·omega
 have bU:∀ {V:x2} {x:bZ},ad (fz g J.heap.size) ah V→cF all s=none→bp V g J.heap.size H 100000 none→fJ V J.heap.size al x→
   (I x3 (x6 aR (.pointer (some ⟨al,0,none⟩))) V fun bV=>
    ax x3 (o3 aR (.pointer (some ⟨ai,0,none⟩)) bV) V fun(_:Unit) bC=>
    I x3 (do loadVar aR (←asAddr (.pointer (some ⟨ai,0,none⟩)))) bC fun bW=>tI w g H (cF all s) bW bC):=by
  intro V x ac bD bc bX;obtain⟨ay,aq,bI,bY,b0,b1,a7,a8,ba,bb,bz,bA,bB⟩:=bX;let av:hs:=⟨ay,aq,x.other,bI⟩;have bE:fy V av x:=⟨⟨bY,a8⟩,⟨b0,ba⟩,rfl,b1,bb⟩;have bd:=aT.O ac fun ap=>ap.elim aQ fun h=>by omega
  rw[bw aR.p aR.i rfl (show V.rangeAt al 0 (dZ av) from a7.range)];refine bN (vs:=dZ av) aR.i rfl rfl bE.one bd fun ct be cu b2=>?_;rw[ez aR.p aR.i rfl b2.range];have b3:∀ r,r=ai→fI V r∨V.heap.size≤r:=fun r U=>by subst U;exact .inl ⟨_,_,bd,by decide,by decide⟩
  have cw:=ac.size;refine aZ ac rfl ⟨av,x,H,be.mono fun r _ h=>.inr (.inr (.inl h)),rfl,bE.da be b3,?_,(fun q Y=>by rw[bD] at Y;cases Y),fun _ h=>h,fun _ h=>.inl h,fun r U=>by have:=aA r U;omega⟩;rw[bD];have b4:bp V g J.heap.size H 100001 none:=by
   obtain⟨cz,w0,bo,b5,gs,sv,L,X,aa,aj,bad,bq,big,br,told,h1,aN,W,b6,b7,bf,bF⟩:=bc;exact⟨by omega,w0,bo,b5,gs,sv,L,X,aa,aj,bad,bq,big,br,told,h1,aN,W,b6,b7,bf,bF.1,by have:=bF.2;omega⟩
  refine b4.da be fun r U=>.inl ?_;have U:r=ai:=U;subst U;exact⟨_,_,bd,by decide,by decide,by decide,by decide,fun bg=>by have:=aA _ bg;omega⟩
 have au:=zU (all:=all) (s:=s);have b8:aU (-4611686018427387904) 4611686018427387904 (some s)=aY (-ao) ao s:=rfl;rw[b8] at W aO aP;have cA: -4611686018427387904≤a∧a≤4611686018427387904:=by
  cases Y:aY (-ao) ao s with
  |none=>have:=aP Y;omega
  |some q=>have:=aO q Y;rw[this];exact (gl (n:=q.1) (s':=q.2) Y).1
 refine aM (fun v ca=>ah=ca∧v= .int .i64 (a.natAbs:Int)) ?_ ?_
 rotate_left
 ·intro cB bG;rw[ab];refine⟨fun cC=>?_,fun cD=>bG _ _ ⟨rfl,by congr 1;omega⟩⟩;rw[kE,wrap_i64 (by omega) (by omega)];exact bG _ _ ⟨rfl,by congr 1;omega⟩
 rintro _ _ ⟨rfl,rfl⟩;have bH:∀ r,H r→r<J.heap.size:=fun r U=>by have:=aA r U;omega
 have bJ:¬H ai:=fun bg=>by have:=aA _ bg;omega
 have cb:∀ {scope:List Int},(∀ v∈scope,0≤v∧v<(all.length:Int))→ ∀ z∈scope.map (fun v=>all.getD v.toNat 0),1≤z∧z≤ao:=fun cc z cd=>by
  obtain⟨v,ce,rfl⟩:=j5.1 cd;have:=cc v ce;refine aL _ ?_;rw[u4,y0 (by omega)];exact T6 _
 cases Y:aY (-ao) ao s with
 |none=>
  rw[Y] at W au;have cg:=aP Y;subst cg;refine zQ (s:=s) (ar:=(0:Int).natAbs) W (.inr ⟨rfl,rfl⟩) aV aW bm bt bk (by decide) (fun h=>by cases h) ?_ ?_ ?_
  ·intro h;cases h
  ·intro _;exact zT (neg:=decide ((0:Int)<0)) W aV aW (fun z aL=>by cases aL) (by simp) aT bl bJ bH (fun ch ap=>by cases ap) fun v w' bh=>aZ (ad.refl _ _) (by rw[au];rfl) bh
  ·intro h;cases h
 |some q=>
  obtain⟨a',bK⟩:=q;rw[Y] at W au;have:=aO _ Y;subst this;simp only at au;have W:bp ah g J.heap.size H 100000 (some bK):=W;have ci:=c6 Y;refine zQ (s:=bK) (ar:=a.natAbs) W (.inl rfl) aV aW bm bt bk (by omega) (fun _=>(q1 W).1) ?_ ?_ ?_
  ·intro _ V x ac aJ bc bi;exact bU ac (by rw[au,aJ]) bc bi
  ·intro h;cases h
  ·intro _ V scope s' ac aJ bf bi cj;obtain⟨cE,ck,t3,t4,t5⟩:=zV aJ;rw[aJ] at au;obtain⟨aa,aj,cG⟩:=ci.eqs;refine zT (neg:=decide (a<0)) bf bi cj (cb t5) ?_ (aT.O ac fun ap=>ap.elim aQ fun h=>by omega) bl bJ bH (fun ch ap=>?_) fun v w' bh=>aZ ac au.symm bh
   ·rw[u5];have:=(q1 W).1;omega
   ·cases ap;intro aI;rw[t3,aj] at aI;rw[ck,aa];exact bL aI
theorem IR {s s':aC} {l:List (List Int×Int)} (h:dh sizes s=some (l,s')) (V:h7 s):h7 s':=by
 unfold dh at h;cases O:aY (-ao) ao s with
 |none=>rw[O] at h;cases h
 |some q=>
  obtain⟨n,I⟩:=q;obtain⟨W,Y,t3⟩:=(c6 O).eqs;have U:h7 I:=fun J=>by rw[W];exact V (by rw[←Y];exact J)
  rw[O] at h;simp only at h;split at h
  ·split at h
   ·cases h
   ·split at h
    ·cases h;exact U
    ·cases h
  ·rename_i ah;have h':ch (dg sizes) n.toNat [] (aV (decide (16384<min (I.told+n) ao)) {I with told:=min (I.told+n) ao})=some (l,s'):=h;have:=iv (f:=dg sizes) (fun _ t=>h7 t) (fun acc t a ai aa ab=>by
    obtain⟨_,_,_,ac⟩:=mK ab;obtain⟨ad,ae,aj⟩:=ac.eqs;intro J;rw[ad];exact aa (by rw[←ae];exact J)) n.toNat [] (aV (decide (16384<min (I.told+n) ao)) {I with told:=min (I.told+n) ao}) l s' (fun J=>by
     obtain⟨af,ag⟩:=T3.1 J;have ak:=U af;have al:=of_decide_eq_false ag;show 0≤min (I.told+n) ao∧min (I.told+n) ao≤16384;unfold ao at*;omega) h'
   exact this.1
theorem IS {s s':aC} {x:bZ} (h:cF all s=some (x,s')):s'.toks.length+1≤s.toks.length∧(h7 s→h7 s'):=by
 rw[zU] at h;cases O:aY (-ao) ao s with
 |none=>rw[O] at h;cases h
 |some q=>
  obtain⟨a,ae⟩:=q;rw[O] at h;simp only at h;have aa:=c6 O;cases U:ee all.length a.natAbs ae with
  |none=>rw[U] at h;cases h
  |some p=>
   obtain⟨scope,I⟩:=p;rw[U] at h;simp only at h;obtain⟨aw,af,t3,_⟩:=zV U;unfold h8 at h;have e:aU 0 ao ((some I).map (aV (decide (6<a.natAbs)||cS (scope.map fun v=>all.getD v.toNat 0))))=aY 0 ao (aV (decide (6<a.natAbs)||cS (scope.map fun v=>all.getD v.toNat 0)) I):=rfl;rw[e] at h;cases V:aY 0 ao (aV (decide (6<a.natAbs)||cS (scope.map fun v=>all.getD v.toNat 0)) I) with
   |none=>rw[V] at h;cases h
   |some ag=>
    obtain⟨o,ab⟩:=ag;rw[V] at h;simp only at h;have ac:=c6 V;cases J:dh (scope.map fun v=>all.getD v.toNat 0) ab with
    |none=>rw[J] at h;cases h
    |some ah=>
     obtain⟨ls,W⟩:=ah;rw[J] at h;simp only[Y3,U9] at h;obtain⟨_,ai⟩:=h;have ax:=zR J;have aj:(aV (decide (6<a.natAbs)||cS (scope.map fun v=>all.getD v.toNat 0)) I).toks=I.toks:=rfl;have ak:=ac.1;rw[aj] at ak;have ay:=aa.1;obtain⟨al,am,_⟩:=aa.eqs;obtain⟨f1,f2,_⟩:=ac.eqs;have Y:s'.toks=W.toks∧s'.told=W.told∧s'.big=W.big:=by
      rw[←ai];split <;> exact⟨rfl,rfl,rfl⟩
     refine⟨by rw[Y.1];omega,fun an=>?_⟩;have ap:h7 ab:=fun ad=>by
      rw[f2] at ad;rw[f1];have aq:I.big=false:=(T3.1 ad).1;show 0≤I.told∧I.told≤16384;rw[af,al];exact an (by rw[←am,←t3];exact aq)
     have au:=IR J ap;intro av;rw[Y.2.1];exact au (by rw[←Y.2.2];exact av)
theorem bp.shrink {g:Nat} {H:ag} {so:Option aC} (h:bp w g B H N so):∃ I,bp w g B I N so∧(∀ r,I r→H r)∧ ∀ r,I r→ ∃ c,ae w r aR c:=by
 obtain⟨aa,w0,ab,ac,gs,sv,L,X,ad,af,bad,ah,big,ai,told,h1,U,V,aj,W,ak,al⟩:=h;refine⟨fun r=>leadsTo sv r,⟨aa,w0,ab,ac,gs,sv,L,X,ad,af,bad,ah,big,ai,told,h1,U,V,aj,W,fun r J=>J,al⟩,ak,fun r J=>?_⟩;obtain⟨rfl,c,Y⟩:=c9 W.2.1 J;refine⟨c,Y.O U fun he=>?_⟩;obtain⟨an,am⟩:=V;subst he;exact absurd (ei Y am) (by decide)
theorem bp.low {g:Nat} {H:ag} {s:aC} (h:bp w g B H N (some s)):bp w g B H 100000 (some s):=by
 obtain⟨af,w0,I,J,gs,sv,L,X,O,U,bad,V,big,W,told,h1,Y,aa,ab,ac,ad,ae⟩:=h;exact⟨o7 _,w0,I,J,gs,sv,L,X,O,U,bad,V,big,W,told,h1,Y,aa,ab,ac,ad,ae⟩
theorem bp.up {g M:Nat} {H:ag} {so:Option aC} (h:bp w g B H N so) (af:N≤M):bp w g B H M so:=by
 obtain⟨ah,w0,J,O,gs,sv,L,X,U,V,bad,W,big,Y,told,h1,aa,ab,ac,ad,ae,I⟩:=h;refine⟨by omega,w0,J,O,gs,sv,L,X,U,V,bad,W,big,Y,told,h1,aa,ab,ac,ad,ae,?_⟩;cases so with
 |none=>exact⟨I.1,by have:=I.2;omega⟩
 |some s=>exact I
def jr {α:Type} (f:List α→aC→Option (α×aC)) (cnt i:Nat) (I:Option aC) (A:List α) (so:Option aC):Prop:=I.bind (ch f cnt [])=(match so with
 |none=>none
 |some s=>ch f (cnt-i) A s)
theorem jr.step {α:Type} {f:List α→aC→Option (α×aC)} {cnt i:Nat} {J:Option aC} {A:List α} {s:aC} {a:α} {O:Option aC} (h:jr f cnt i J A (some s)) (hi:i<cnt) (h1:O=(f A s).map (·.2)) (U:∀ q,f A s=some q→a=q.1):jr f cnt (i+1) J (A++[a]) O:=by
 unfold jr at*;rw[h,show cnt-i=(cnt-(i+1))+1 by omega];simp only;cases I:f A s with
 |none=>rw[mN I,h1,I];rfl
 |some q=>
  obtain⟨a',s'⟩:=q;have:=U _ I;subst this;rw[qm I,h1,I];rfl
theorem IT {s0:aC} {t acc:List Int} {most count:Int} {X:List bZ} {aa ab ac ad ai so6 J:Option aC} (h1:aa=((df s0).map (·.2)).map (aV (decide (64<t.length)))) (aw:∀ q,df s0=some q→t=q.1)
  (W:ab=((aU 1 ao aa).map (·.2)).map (aV (decide (64<n)))) (ap:∀ q,aU 1 ao aa=some q→n=q.1) (U:ac=(aU 1 ao ab).map (·.2)) (hm:∀ q,aU 1 ao ab=some q→most=q.1)
  (O:ad=((aU 0 ao ac).map (·.2)).map (aV (decide (256<count)))) (aq:∀ q,aU 0 ao ac=some q→count=q.1) (I:ai=((aU 1 ao ad).map (·.2)).map (aV (decide (2147483648<k)))) (au:∀ q,aU 1 ao ad=some q→k=q.1)
  (Y:ai.bind (ch (e2 most) n.toNat [])=so6.map fun s=>(acc,s)) (V:so6.bind (ch (fun _ s=>cF acc s) count.toNat [])=J.map fun s=>(X,s)):gk s0=J.map fun s=>(⟨t,k,acc,X⟩,s):=by
 unfold gk;cases aj:df s0 with
 |none=>
  rw[aj] at h1;subst h1;subst W;subst U;subst O;subst I;have:so6=none:=by cases so6 with|none=>rfl|some s=>cases Y
  subst this;cases J with|none=>rfl|some s=>cases V
 |some ax=>
 obtain⟨aI,ae⟩:=ax;have:=aw _ aj;subst this;rw[aj] at h1;have h1:aa=some (aV (decide (64<t.length)) ae):=h1;subst h1;simp only;have ay:aU 1 ao (some (aV (decide (64<t.length)) ae))=aY 1 ao (aV (decide (64<t.length)) ae):=rfl;rw[ay] at W ap;cases ak:aY 1 ao (aV (decide (64<t.length)) ae) with
 |none=>
  rw[ak] at W;subst W;subst U;subst O;subst I;have:so6=none:=by cases so6 with|none=>rfl|some s=>cases Y
  subst this;cases J with|none=>rfl|some s=>cases V
 |some az=>
 obtain⟨aJ,af⟩:=az;have:=ap _ ak;subst this;rw[ak] at W;have W:ab=some (aV (decide (64<n)) af):=W;subst W;simp only;have aA:aU 1 ao (some (aV (decide (64<n)) af))=aY 1 ao (aV (decide (64<n)) af):=rfl;rw[aA] at U hm;cases al:aY 1 ao (aV (decide (64<n)) af) with
 |none=>
  rw[al] at U;subst U;subst O;subst I;have:so6=none:=by cases so6 with|none=>rfl|some s=>cases Y
  subst this;cases J with|none=>rfl|some s=>cases V
 |some aB=>
 obtain⟨aK,ag⟩:=aB;have:=hm _ al;subst this;rw[al] at U;have U:ac=some ag:=U;subst U;simp only;have aD:aU 0 ao (some ag)=aY 0 ao ag:=rfl;rw[aD] at O aq;cases am:aY 0 ao ag with
 |none=>
  rw[am] at O;subst O;subst I;have:so6=none:=by cases so6 with|none=>rfl|some s=>cases Y
  subst this;cases J with|none=>rfl|some s=>cases V
 |some aE=>
 obtain⟨aL,ah⟩:=aE;have:=aq _ am;subst this;rw[am] at O;have O:ad=some (aV (decide (256<count)) ah):=O;subst O;simp only;have aF:aU 1 ao (some (aV (decide (256<count)) ah))=aY 1 ao (aV (decide (256<count)) ah):=rfl;rw[aF] at I au;cases an:aY 1 ao (aV (decide (256<count)) ah) with
 |none=>
  rw[an] at I;subst I;have:so6=none:=by cases so6 with|none=>rfl|some s=>cases Y
  subst this;cases J with|none=>rfl|some s=>cases V
 |some aG=>
 obtain⟨aM,av⟩:=aG;have:=au _ an;subst this;rw[an] at I;have I:ai=some (aV (decide (2147483648<k)) av):=I;subst I;simp only;have Y:ch (e2 most) n.toNat [] (aV (decide (2147483648<k)) av)=so6.map fun s=>(acc,s):=Y;rw[Y];cases so6 with
 |none=>cases J with|none=>rfl|some s=>cases V
 |some aH=>
  simp only[Z2];have V:ch (fun _ s=>cF acc s) count.toNat [] aH=J.map fun s=>(X,s):=V;rw[V];cases J <;> rfl
def na (w:x2) (I:Nat) (J:x1) (X:List bZ):Prop:=∃ L,a1 dZ 4 aR w I J L∧X.length=L.length∧ ∀ (i:Nat) h x,L[i]? =some h→X[i]? =some x→fy w h x
def lR (w:x2) (J:Nat) (f:bP):Prop:=∃ aq O I U,ae w J c5 [bk f.name,.int .i64 f.k,aq,I]∧am .i64 ak w O aq f.sizes∧na w U I f.funs
theorem na.ext {I:Nat} {X:List bZ} (h:na w I J X) (O:Ext w w'):na w' I J X:=by
 obtain⟨L,h1,U,V⟩:=h;exact⟨L,h1.ext O,U,fun i W x hi Y=>(V i W x hi Y).ext O⟩
theorem lR.ext {J:Nat} {f:bP} (h:lR w J f) (I:Ext w w'):lR w' J f:=by
 obtain⟨aq,O,U,V,h1,W,Y⟩:=h;exact⟨aq,O,U,V,h1.ext I,W.ext I,Y.ext I⟩
def IU (w:x2) (pl:List Int) (v:x1) (w':x2):Prop:=Ext w w'∧ ∃ n e:Int,(fs pl=none→v= .tuple #[.pointer none,.int .i64 n,.int .i64 e])∧ ∀ f,fs pl=some f→ ∃ I,v= .tuple #[.pointer (some ⟨I,0,none⟩),.int .i64 n,.int .i64 e]∧lR w' I f
set_option maxHeartbeats 16000000 in
theorem IV {w0:x2} {g W br:Nat} {so6:Option aC} {t acc:List Int} {count bad:Int} {p:x1} {Q:x1→x2→Prop} (du:ad (fun r=>w0.heap.size≤r) w0 w) (cp:ae w W c5 [bk t,.int .i64 k,aq,.slice none 0 0]) (dv:am .i64 ak w br aq acc)
  (h:bp w g B bh 100000 so6) (dw:∀ s,so6=some s→h7 s∧s.toks.length≤100000∧(∀ z∈acc,1≤z∧z≤ao)∧acc.length≤100001) (fs:w0.heap.size≤g) (ft:w0.heap.size≤W) (dx:aB .u8 w0 p pl) (fu:0≤count∧count≤4611686018427387904)
  (bN:∀ v w' X bO,Ext w0 w'→so6.bind (ch (fun _ s=>cF acc s) count.toNat [])=bO.map (fun s=>(X,s))→
   (∀ s,bO=some s→s.toks=[]∧¬0≤bad∧s.big=false→v= .tuple #[.pointer (some ⟨W,0,none⟩),.int .i64 (pl.length:Int),.int .i64 0]∧lR w' W ⟨t,k,acc,X⟩)→
   ((∀ s,bO=some s→¬(s.toks=[]∧¬0≤bad∧s.big=false))→ ∃ n e:Int,v= .tuple #[.pointer none,.int .i64 n,.int .i64 e])→Q v w'):
  bJ (.int .i64 0) w fun cq ac dy=>
   be (α:=x1→x2→Prop) (fun(dz:x1) (al:x2)=>
    Split dz (cj al fun ai=>
   I x3 (aX (.pointer (some ⟨W,0,none⟩))) ai fun a7=>
   I x3 (x7 c5 a7 3) ai fun a8=>
   I x3 (x6 cZ a8) ai fun bP=>
   I x3 (aX (.pointer (some ⟨W,0,none⟩))) ai fun dA=>
   I x3 (x7 c5 dA 2) ai fun dC=>
   I x3 (x6 au dC) ai fun dE=>
   af x3 vU [(.pointer (some ⟨g,0,none⟩)),dE] ai fun dF aO=>
    (Ext ai aO∨bb x3 (x6 cZ a8) bP aO∧bb x3 (x7 c5 a7 3) a8 aO∧bb x3 (aX (.pointer (some ⟨W,0,none⟩))) a7 aO∧True)∧
   ax x3 (Z4 cZ 1 #[(0,dF)]) aO fun dG aA=>
    (Ext ai aA∨bb x3 (x6 cZ a8) bP aA∧bb x3 (x7 c5 a7 3) a8 aA∧bb x3 (aX (.pointer (some ⟨W,0,none⟩))) a7 aA∧True)∧
    ax x3 (l9 #[cZ,cZ] cZ #[bP,dG]) aA fun dH bt=>
     I x3 (aX (.pointer (some ⟨W,0,none⟩))) bt fun dI=>
     I x3 (x7 c5 dI 3) bt fun dK=>
     ax x3 (o3 cZ dK dH) bt fun(_:Unit) ba=>
     I x3 (av .add ak false true cq (.int .i64 1)) ba fun dL=>
   dy dL ba)
     (be (α:=x2→Prop) (fun(az:x2)=>
   be (α:=x2→Prop) (fun(ah:x2)=>
    I x3 (aX (.pointer (some ⟨g,0,none⟩))) ah fun dM=>
    I x3 (x7 bf dM 3) ah fun dN=>
    I x3 (x6 U dN) ah fun dO=>
    I x3 (av .neq U false true dO (.int .i64 0)) ah fun dP=>
    Split dP (cj ah fun aH=>
     I x3 (aX (.pointer (some ⟨g,0,none⟩))) aH fun dQ=>
     I x3 (x7 bf dQ 4) aH fun dR=>
     I x3 (x6 U dR) aH fun dS=>
     I x3 (aX (.pointer (some ⟨g,0,none⟩))) aH fun dT=>
     I x3 (x7 bf dT 3) aH fun dU=>
     I x3 (x6 U dU) aH fun dV=>
     Q (.tuple #[(.pointer none),dS,dV]) aH)
     (I x3 (aX (.pointer (some ⟨g,0,none⟩))) ah fun dW=>
    I x3 (x7 bf dW 5) ah fun dX=>
    I x3 (x6 U dX) ah fun dY=>
    I x3 (av .neq U false true dY (.int .i64 0)) ah fun ea=>
    Split ea (cj ah fun aJ=>
     I x3 (aX (.pointer (some ⟨g,0,none⟩))) aJ fun eb=>
     I x3 (x7 bf eb 6) aJ fun ec=>
     I x3 (x6 U ec) aJ fun ed=>
     I x3 (aX (.pointer (some ⟨g,0,none⟩))) aJ fun ee=>
     I x3 (x7 bf ee 5) aJ fun ef=>
     I x3 (x6 U ef) aJ fun eg=>
     Q (.tuple #[(.pointer none),ed,eg]) aJ)
     (I x3 (Z5 #[b7] U #[p]) ah fun eh=>
    Q (.tuple #[(.pointer (some ⟨W,0,none⟩)),eh,(.int .i64 0)]) ah))) fun cr=>
   be (α:=x1→x2→Prop) (fun(ej:x1) (bu:x2)=>
    Split ej (af x3 k9 [(.pointer (some ⟨g,0,none⟩)),(.int .i64 11),(.int .i64 bad)] bu fun fv ct=>
     cr ct)
     (cr bu)) fun cu=>
   I x3 (aX (.pointer (some ⟨g,0,none⟩))) az fun ek=>
   I x3 (x7 bf ek 3) az fun em=>
   I x3 (x6 U em) az fun en=>
   I x3 (av .eql U false true en (.int .i64 0)) az fun eo=>
   Split eo (I x3 (av .geq U false true (.int .i64 bad) (.int .i64 0)) az fun ep=>
   cu ep az)
    (cu (.bool false) az)) fun cw=>
  be (α:=x1→x2→Prop) (fun(er:x1) (aD:x2)=>
   Split er (I x3 (aX (.pointer (some ⟨g,0,none⟩))) aD fun es=>
    I x3 (x7 bf es 0) aD fun et=>
    I x3 (x6 ey et) aD fun eu=>
    I x3 (o6 ey eu (.int .i64 0)) aD fun ev=>
    I x3 (x7 bY ev 1) aD fun ew=>
    I x3 (x6 U ew) aD fun ez=>
    af x3 k9 [(.pointer (some ⟨g,0,none⟩)),(.int .i64 4),ez] aD fun fw bQ=>
    cw bQ)
    (cw aD)) fun cz=>
  I x3 (aX (.pointer (some ⟨g,0,none⟩))) al fun eA=>
  I x3 (x7 bf eA 3) al fun eB=>
  I x3 (x6 U eB) al fun eD=>
  I x3 (av .eql U false true eD (.int .i64 0)) al fun eE=>
  Split eE (I x3 (aX (.pointer (some ⟨g,0,none⟩))) al fun eF=>
  I x3 (x7 bf eF 0) al fun eH=>
  I x3 (x6 ey eH) al fun eI=>
  I x3 (Z5 #[ey] U #[eI]) al fun eJ=>
  I x3 (av .gtr U false true eJ (.int .i64 0)) al fun eK=>
  cz eK al)
   (cz (.bool false) al))) fun cA=>
   I x3 (av .lss ak false false cq (.int .i64 count)) ac fun eL=>
   Split eL (I x3 (aX (.pointer (some ⟨g,0,none⟩))) ac fun eM=>
   I x3 (x7 bf eM 3) ac fun eN=>
   I x3 (x6 U eN) ac fun eO=>
   I x3 (av .eql U false true eO (.int .i64 0)) ac fun eP=>
   cA eP ac)
    (cA (.bool false) ac):=by
 have cB:W≠g:=fun he=>by
  obtain⟨aQ,aK,aN,bad,aS,big,aT,told,sv,Y,_⟩:=gu h;subst he;exact absurd (ei Y cp) (by decide)
 refine⟨fun bS ac=>∃ i:Nat,bS= .int .i64 (i:Int)∧i≤count.toNat∧ad (fun r=>w0.heap.size≤r) w0 ac∧ ∃ ap bc X so,∃ H:ag,ae ac W c5 [bk t,.int .i64 k,aq,ap]∧am .i64 ak ac br aq acc∧na ac bc ap X∧(∀ r,leadsTo ap r→w0.heap.size≤r∧¬H r)∧¬H W∧(∀ r,leads aq r→¬H r)∧(∀ r,H r→w0.heap.size≤r)∧bp ac g ac.heap.size H 100001 so∧jr (fun _ s=>cF acc s) count.toNat i so6 X so∧
   ∀ s,so=some s→h7 s∧X.length+s.toks.length≤100000∧(∀ z∈acc,1≤z∧z≤ao)∧acc.length≤100001,fun bS _=>count.toNat-(bB bS).toNat,
  ⟨0,rfl,Y7 _,du,_,0,[],so6,bh,cp,dv,⟨[],a1.nil _ _ _ _ _,rfl,fun i h x hi=>by simp at hi⟩,fun r J=>(eC J).elim,id,fun r _ h=>h,fun r h=>h.elim,h.base.up (by omega),?_,fun s ay=>?_⟩,?_⟩
 ·unfold jr;cases so6 <;> rfl
 ·obtain⟨eQ,eR,a3,a4⟩:=dw s ay;exact⟨eQ,by simpa using eR,a3,a4⟩
 rintro _ ac ⟨i,rfl,hi,bw,ap,bc,X,so,H,cC,cD,cE,bd,bT,eS,cG,aG,bU,eU⟩;refine aM (fun v al=>ac=al∧((v= .bool true∧i<count.toNat∧ ∃ s,so=some s)∨(v= .bool false∧(so=none∨i=count.toNat)))) ?_ ?_
 rotate_left
 ·intro fx bV;rw[an,ab];refine⟨fun cH=>?_,fun fy=>bV _ _ ⟨rfl,.inr ⟨rfl,.inr (by omega)⟩⟩⟩;rw[jq aG];cases so with
  |none=>exact bV _ _ ⟨rfl,.inr ⟨rfl,.inl rfl⟩⟩
  |some s=>exact bV _ _ ⟨rfl,.inl ⟨rfl,by omega,s,rfl⟩⟩
 rintro _ _ ⟨rfl,⟨rfl,cH,s,rfl⟩|⟨rfl,eV⟩⟩
 ·
  rw[bC];intro ai aU _ _;obtain⟨cI,fz,cJ,cK⟩:=eU s rfl;have bg:=cC.ext aU;obtain⟨eW,cL,bi,cM⟩:=(aG.ext aU).low.shrink;have bW:=cD.ext aU;have eX:=cE.ext aU;rw[aw,V c5.p rfl,aa (by kernel_rfl) (bg.cell (o:=0+3) rfl),aw,V c5.p rfl,aa (by kernel_rfl) (bg.cell (o:=0+2) rfl)];refine (IQ cL bW cJ cK (fun r J=>by obtain⟨c,Y⟩:=cM r J;exact Y.lt) cI).mono ?_;rintro _ aO _ ⟨bX,x,cN,aV,rfl,cO,eY,eZ,fA,cP,e0⟩;have cQ:∃ c,ae ai g bf c:=by obtain⟨aQ,aK,aN,bad,aS,big,aT,told,sv,Y,_⟩:=gu cL;exact⟨_,Y⟩
  have cR:∀ r,(r=g∨eW r)→fI ai r∨ai.heap.size≤r:=fun r J=>by
   rcases J with rfl|J
   ·obtain⟨c,Y⟩:=cQ;exact .inl ⟨_,c,Y,by decide,by decide⟩
   ·obtain⟨c,Y⟩:=cM r J;exact .inl ⟨_,c,Y,by decide,by decide⟩
  have bZ:=bg.O aV fun J=>J.elim (fun he=>cB he) fun J=>bT (bi _ J);have st:∀ {w':x2},ae w' W c5 [bk t,.int .i64 k,aq,ap]→bb x3 (x6 cZ (.pointer (some ⟨W,0+3,none⟩))) ap w'∧bb x3 (x7 c5 (.pointer (some ⟨W,0,none⟩)) 3) (.pointer (some ⟨W,0+3,none⟩)) w'∧bb x3 (aX (.pointer (some ⟨W,0,none⟩))) (.pointer (some ⟨W,0,none⟩)) w'∧True:=fun Y=>
   ⟨p5 (by kernel_rfl) (Y.cell (o:=0+3) rfl),jh (by rw[V c5.p rfl]),jh (by rw[aw]),trivial⟩
  refine⟨.inr (st bZ),?_⟩;refine gp (f:=dZ) (a:=bX) cZ.u aR.i (by omega) rfl rfl fun fB fC aA fD aE e1=>?_;refine⟨.inr (st (bZ.ext aE)),?_⟩;obtain⟨L,aW,b0,b1⟩:=id eX;have e2:a1 dZ 4 aR aO bc ap L:=aW.O aV fun r J ay=>ay.elim (fun he=>by
   obtain⟨c,Y⟩:=cQ;subst he;exact cb aW Y (by decide) J) fun ay=>(bd r J).2 (bi r ay)
  have b2:=e2.ext aE;refine gN (f:=dZ) (a:=bX) cZ.u aR.i rfl b2 (by simpa using e1.sl) (cO.ext aE).one (by omega) (by omega) fun cS e3 bt bx e4 cT=>?_;have b3:=bZ.ext aE;have cU:=b3.O cT fun he=>cb b2 b3 (by decide) he;rw[aw,V c5.p rfl];refine bl (g:=W) (o:=3) cZ.i (dD bx.sl).1 (dD bx.sl).2 cU (by simp) fun ba cV fE b4=>?_;have b4:ae ba W c5 [bk t,.int .i64 k,aq,cS]:=b4;have fF:i≤4611686018427387904:=by omega
  rw[aI,wrap_i64 (by omega) (by omega)];have aY:ad (fun r=>leadsTo ap r∨r=W) aA ba:=(cT.mono fun r _ h=>.inl h).trans (cV.mono fun r _ h=>.inr h);have cW:∀ r,(leadsTo ap r∨r=W)→ ∃ e c,ae aA r e c∧e≠ak∧e≠bR∧e≠bY∧e≠bf:=fun r J=>by
   rcases J with J|rfl
   ·obtain⟨rfl,c,Y⟩:=c9 b2 J;exact⟨_,c,Y,by decide,by decide,by decide,by decide⟩
   ·exact⟨_,_,b3,by decide,by decide,by decide,by decide⟩
  have b5:∀ r,(leadsTo ap r∨r=W)→fI aA r∨aA.heap.size≤r:=fun r J=>by
   obtain⟨e,c,Y,b6,b9,_⟩:=cW r J;exact .inl ⟨e,c,Y,b6,b9⟩
  have fG:=aU.size;have fH:=aV.size;have fJ:=aE.size;have fK:=aY.size;have cX:∀ r,leadsTo ap r→r<ai.heap.size:=fun r J=>by obtain⟨aK,aN⟩:=aW.leads J;omega
  have bj:∀ r,r<ai.heap.size→¬H r→¬cN r:=fun r J e5 ca=>(cP r ca).elim (fun h=>e5 (bi r h)) fun h=>by omega
  have e6:∀ r,leads aq r→r<ai.heap.size:=fun r J=>by obtain⟨aK,aN⟩:=bn bW J;omega
  refine⟨⟨i+1,rfl,by omega,?_,cS,e3,X++[x],_,cN,b4,dJ ((dJ bW aV cR).ext aE) aY b5,⟨L++[bX],bx.O cV fun r J he=>?_,by rw[o5,o5,b0];rfl,fun j cY e7 aZ bm=>?_⟩,fun r J=>?_,bj W bg.lt bT,fun r J=>bj r (e6 r J) (eS r J),fun r J=>?_,?_,bU.step cH rfl fun q aj=>eZ q aj,fun s' aF=>?_⟩,by simp only[bB];omega⟩
  ·refine (((bw.trans (aU.O _)).trans (aV.mono fun r _ h=>?_)).trans (aE.O _)).trans (aY.mono fun r _ h=>?_)
   ·exact h.elim (fun h=>by omega) fun h=>cG r (bi r h)
   ·exact h.elim (fun h=>(bd r h).1) fun h=>by omega
  ·have he:r=W:=he;subst he;exact cb bx cU (by decide) J
  ·by_cases e8:j<L.length
   ·rw[Z7 e8] at aZ;rw[Z7 (by omega)] at bm;exact (((b1 j cY e7 aZ bm).da aV cR).ext aE).da aY b5
   ·rw[Z8 (by omega)] at aZ;rw[Z8 (by omega)] at bm;have e9:j-L.length=0:=by have:=(x4.1 aZ).1;simp at this;omega
    have fa:j-X.length=0:=by omega
    rw[e9] at aZ;rw[fa] at bm;cases aZ;cases bm;exact (cO.ext aE).da aY b5
  ·rcases e4 r J with h|h
   ·exact⟨(bd r h).1,bj r (cX r h) (bd r h).2⟩
   ·exact⟨by have:=bw.size;omega,fun ca=>by have:=e0 r ca;omega⟩
  ·rcases cP r J with h|h
   ·exact cG r (bi r h)
   ·have:=bw.size;omega
  ·refine (eY.ext aE).da aY fun r J=>.inl ?_;obtain⟨e,c,Y,b6,b9,fb,fc⟩:=cW r J;refine⟨e,c,Y,b6,b9,fb,fc,?_⟩;rcases J with J|rfl
   ·exact bj r (cX r J) (bd r J).2
   ·exact bj _ bg.lt bT
  ·cases cc:cF acc s with
   |none=>rw[cc] at aF;cases aF
   |some q=>
    obtain⟨fL,c0⟩:=q;rw[cc] at aF;cases aF;obtain⟨fM,fd⟩:=IS cc;refine⟨fd cI,?_,cJ,cK⟩;rw[o5];simp only[U8];omega
 ·
  rw[aP];have cd:so6.bind (ch (fun _ s=>cF acc s) count.toNat [])=so.map fun s=>(X,s):=by
   unfold jr at bU;rw[bU];cases so with
   |none=>rfl
   |some s=>
    rcases eV with h|rfl
    ·cases h
    ·simp only[V2];rfl
  have row:∀ {w':x2},ad (fun r=>r=g) ac w'→na w' bc ap X∧ae w' W c5 [bk t,.int .i64 k,aq,ap]∧am .i64 ak w' br aq acc:=fun bz=>by
   obtain⟨aQ,aK,aN,bad,aS,big,aT,told,sv,Y,_⟩:=gu aG;have c1:∀ r,r=g→fI ac r∨ac.heap.size≤r:=fun r J=>by subst J;exact .inl ⟨_,_,Y,by decide,by decide⟩
   obtain⟨L,aW,b0,b1⟩:=id cE;refine⟨⟨L,aW.O bz fun r J he=>?_,b0,fun i h x hi fe=>(b1 i h x hi fe).da bz c1⟩,cC.O bz fun he=>cB he,dJ cD bz c1⟩;have he:r=g:=he;subst he;exact cb aW Y (by decide) J
  refine c3 (fun az=>ad (fun r=>r=g) ac az∧bp az g ac.heap.size H 100001 (so.bind fun s=>if s.toks=[] then some s else none)) ?_ ?_
  rotate_left
  ·intro fN c2;refine aM (fun v aD=>ac=aD∧ ∃ b:Bool,v= .bool b∧(b=true→ ∃ s,so=some s∧s.toks≠[])∧(b=false→ ∀ s,so=some s→s.toks=[])) ?_ ?_
   ·rintro _ _ ⟨rfl,b,rfl,ce,cg⟩;cases b with
    |true=>
     obtain⟨s,rfl,bD⟩:=ce rfl;rw[bC];obtain⟨c4,c6,aQ,bo,gs,sv,L,c7,aK,aN,ci,aS,big,aT,told,c8,bE,bG,a2,bH,db,dc,dd,bI,de,df,bK,dg,dh,di⟩:=id aG;obtain⟨⟨ck,ff⟩,_⟩:=bH.g bE bG;obtain⟨x,fO,rfl⟩:∃ x l,bo=x::l:=by
      cases bo with
      |nil=>exact absurd bK.symm (by simpa using bD)
      |cons x l=>exact⟨x,l,rfl⟩
     rw[aw,V bf.p rfl,aa (by kernel_rfl) (a2.cell (o:=0+0) rfl)];refine zM ck fun b o fg=>?_;rw[V bY.p rfl,aa (by kernel_rfl) (fg 1 _ rfl)];refine (lQ aG (by omega)).mono ?_;rintro _ bQ _ ⟨fh,fi⟩;refine c2 _ ⟨fh,?_⟩;show bp bQ g _ H 100001 (if s.toks=[] then some s else none);rw[if_neg bD];exact fi
    |false=>
     rw[aP];refine c2 _ ⟨ad.refl _ _,?_⟩;cases so with
     |none=>exact aG
     |some s=>
      show bp _ g _ H 100001 (if s.toks=[] then some s else none);rw[if_pos (cg rfl s rfl)];exact aG
   ·intro fP dj;rw[jq aG];cases so with
    |none=>
     rw[Option.isSome_none,aP];exact dj _ _ ⟨rfl,false,rfl,(fun h=>by cases h),fun _ s ay=>by cases ay⟩
    |some s=>
     rw[Option.isSome_some,bC];obtain⟨c4,c6,aQ,bo,gs,sv,L,c7,aK,aN,ci,aS,big,aT,told,c8,bE,bG,a2,bH,db,dc,dd,bI,de,df,bK,dg,dh,di⟩:=id aG;obtain⟨⟨ck,ff⟩,_⟩:=bH.g bE bG;rw[aw,V bf.p rfl,aa (by kernel_rfl) (a2.cell (o:=0+0) rfl),zL ck,bA];have fQ:bo.length=s.toks.length:=by rw[←bK,u5]
     refine dj _ _ ⟨rfl,_,rfl,fun h=>⟨s,rfl,fun bq=>?_⟩,fun h s' aF=>?_⟩
     ·have:=of_decide_eq_true h;have cY:s.toks.length=0:=by rw[bq];rfl
      omega
     ·cases aF;have:=of_decide_eq_false h;exact b8 (by omega)
  rintro az ⟨dk,cl⟩;refine c3 (fun ah=>ad (fun r=>r=g) ac ah∧bp ah g ac.heap.size H 100001 (so.bind fun s=>if s.toks=[]∧¬0≤bad then some s else none)) ?_ ?_
  rotate_left
  ·intro fR dl;refine aM (fun v bu=>az=bu∧ ∃ b:Bool,v= .bool b∧(b=true→(so.bind fun s=>if s.toks=[]∧¬0≤bad then some s else none)=none)∧(b=false→(so.bind fun s=>if s.toks=[]∧¬0≤bad then some s else none)=so.bind fun s=>if s.toks=[] then some s else none)) ?_ ?_
   ·rintro _ _ ⟨rfl,b,rfl,ce,cg⟩;cases b with
    |true=>
     rw[bC];refine (lQ cl (by omega)).mono ?_;rintro _ ct _ ⟨fj,fk⟩;exact dl _ ⟨dk.trans fj,by rw[ce rfl];exact fk⟩
    |false=>
     rw[aP];exact dl _ ⟨dk,by rw[cg rfl];exact cl⟩
   ·intro fS dm;rw[jq cl];cases aj:(so.bind fun s=>if s.toks=[] then some s else none) with
    |none=>
     rw[Option.isSome_none,aP];refine dm _ _ ⟨rfl,false,rfl,(fun h=>by cases h),fun _=>?_⟩;cases so with
     |none=>rfl
     |some s=>
      have aj:(if s.toks=[] then some s else none)=none:=aj;show (if s.toks=[]∧¬0≤bad then some s else none)=(if s.toks=[] then some s else none);rw[aj];split at aj
      ·cases aj
      ·rename_i bD;rw[if_neg (fun h=>bD h.1)]
    |some s=>
     rw[Option.isSome_some,bC,cm];refine dm _ _ ⟨rfl,_,rfl,fun h=>?_,fun h=>?_⟩
     ·have bq:=of_decide_eq_true h;cases so with
      |none=>rfl
      |some s=>exact if_neg fun h=>h.2 bq
     ·have bq:=of_decide_eq_false h;cases so with
      |none=>rfl
      |some s=>
       show (if s.toks=[]∧¬0≤bad then some s else none)=(if s.toks=[] then some s else none);by_cases ay:s.toks=[]
       ·rw[if_pos ay,if_pos ⟨ay,bq⟩]
       ·rw[if_neg ay,if_neg fun h=>ay h.1]
  rintro ah ⟨dn,bL⟩;obtain⟨fl,fm,fo⟩:=row dn;have fp:ad (fun r=>w0.heap.size≤r) w0 ah:=bw.trans (dn.mono fun r _ h=>by have h:r=g:=h;omega);have bM:Ext w0 ah:=fp.ext fun r J he=>by omega
  rw[oM bL];cases aj:(so.bind fun s=>if s.toks=[]∧¬0≤bad then some s else none) with
  |none=>
   rw[Option.isSome_none,X4,bC];intro aH dp _ _;obtain⟨aQ,aK,aN,ci,aS,big,aT,told,sv,Y,_⟩:=gu (bL.ext dp);rw[aw,V bf.p rfl,aa (by kernel_rfl) (Y.cell (o:=0+4) rfl),aw,V bf.p rfl,aa (by kernel_rfl) (Y.cell (o:=0+3) rfl)];refine bN _ _ X so (bM.trans dp) cd (fun s ay a6=>?_) fun _=>⟨_,_,rfl⟩;subst ay;have aj:(if s.toks=[]∧¬0≤bad then some s else none)=none:=aj;rw[if_pos ⟨a6.1,a6.2.1⟩] at aj;cases aj
  |some s=>
   rw[aj] at bL;rw[Option.isSome_some,Y4,aP];obtain⟨s',rfl,aF⟩:∃ s',so=some s'∧(if s'.toks=[]∧¬0≤bad then some s' else none)=some s:=by
    cases so with
    |none=>cases aj
    |some s'=>exact⟨s',rfl,aj⟩
   split at aF
   ·rename_i dq;cases aF;obtain⟨c4,c6,aQ,bo,gs,sv,L,c7,aK,aN,ci,aS,big,aT,told,c8,bE,bG,a2,bH,db,dc,dd,bI,de,df,bK,dg,dh,di⟩:=id bL;rw[aw,V bf.p rfl,aa (by kernel_rfl) (a2.cell (o:=0+5) rfl),bF,ab];refine⟨fun cn=>?_,fun cn=>?_⟩
    ·intro aJ dr _ _;have ds:=a2.ext dr;rw[aw,V bf.p rfl,aa (by kernel_rfl) (ds.cell (o:=0+6) rfl),aw,V bf.p rfl,aa (by kernel_rfl) (ds.cell (o:=0+5) rfl)];refine bN _ _ X _ (bM.trans dr) cd (fun c0 dt a6=>?_) fun _=>⟨_,_,rfl⟩;cases dt;rw[bI.1 cn] at a6;cases a6.2.2
    ·rw[aL b7.u (dx.ext bM)];refine bN _ _ X _ bM cd (fun c0 dt a6=>⟨rfl,aq,br,ap,bc,fm,fo,fl⟩) fun fq=>?_;refine absurd ⟨dq.1,dq.2,?_⟩ (fq s rfl);cases Y:s.big with
     |false=>rfl
     |true=>exact absurd (bI.2 Y) cn
   ·cases aF
def Zero (so:Option aC):Prop:=∀ s,so=some s→s.told=0∧s.toks.length≤100000
theorem Zero.big {so:Option aC} (h:Zero so) (b:Bool):Zero (so.map (aV b)):=fun s I=>by
 cases so with
 |none=>cases I
 |some s0=>cases I;exact h s0 rfl
theorem zero_num {lo hi:Int} {so:Option aC} (h:Zero so):Zero ((aU lo hi so).map (·.2)):=fun s I=>by
 cases so with
 |none=>cases I
 |some s0=>
  have I:V0 (fun x=>x.2) (aY lo hi s0)=some s:=I;cases J:aY lo hi s0 with
  |none=>rw[J] at I;cases I
  |some q=>
   obtain⟨n,U⟩:=q;rw[J] at I;cases I;have O:=c6 J;have:=O.1;obtain⟨h1,V⟩:=h s0 rfl;exact⟨O.eqs.1.trans h1,by show U.toks.length≤100000;omega⟩
theorem IW {so:Option aC} (h:Zero so):Zero ((hL so).map (·.2)):=fun s I=>by
 cases so with
 |none=>cases I
 |some s0=>
  have I:V0 (fun x=>x.2) (df s0)=some s:=I;cases O:df s0 with
  |none=>rw[O] at I;cases I
  |some q=>
   obtain⟨n,U⟩:=q;rw[O] at I;cases I;obtain⟨J,V⟩:=qe O;obtain⟨h1,W⟩:=h s0 rfl;have:s0.toks.length=U.toks.length+1:=by rw[J];rfl
   exact⟨by show U.told=0;rw[V];exact h1,by show U.toks.length≤100000;omega⟩
theorem IX {so:Option aC} {f:bP} (h:gk ⟨(lex pl).1,0,false,[]⟩=so.map fun s=>(f,s)) (I:¬65536<pl.length):fs pl=so.bind fun s=>if s.toks=[]∧(lex pl).2=true∧s.big=false then some f else none:=by
 unfold fs;rw[if_neg I,h];cases so <;> rfl
theorem IY (I:pl.length≤60000):(∀ t∈(lex pl).1,Bytes t∧t.length≤65536)∧(lex pl).1.length≤60000:=by
 refine⟨fun t J=>?_,W7 (nP pl.length pl (o7 _)) I⟩;obtain⟨_,O,V⟩:=p0 pl.length pl (o7 _) t J;refine⟨fun b U=>?_,by omega⟩;have:=of_decide_eq_true (O b U);omega
set_option maxHeartbeats 16000000 in
theorem zW {p:x1} (aX:aB .u8 w p pl) (cR:Bytes pl) (cS:pl.length≤60000):af x3 BS [p] w (IU w pl):=by
 obtain⟨cT,ek⟩:=IY cS;refine az func68 ?_;rw[aL b7.u aX,bA,ab];refine⟨fun h=>by omega,fun _=>?_⟩;refine (IH aX cR (by omega)).mono ?_;rintro _ J _ ⟨bd,aH,bJ,bad,rfl,bK,bM,cU,em,bO⟩;rw[aD (v:=aH) rfl,aD (v:=.int .i64 bad) rfl,aL b7.u (aX.ext bd),cH (cs:=#[aH,.int .i64 (pl.length:Int),.int .i64 4,.int .i64 0,.int .i64 0,.int .i64 0,.int .i64 0,.int .i64 0,.slice none 0 0]) (by obtain⟨_,_,_,_,_,rfl,_⟩:=bK;kernel_rfl)];refine bL fun g bP en aZ aJ=>?_;have aJ:ae bP g bf (fm aH (pl.length:Int) 4 0 0 0 0 0 (.slice none 0 0)):=aJ;have eo:=bd.size;have ep:=aZ.size;have er:=aJ.lt;refine c3 (fun ac=>Ext w ac∧ad (fun r=>r=g) bP ac∧ ∃ aK aN:Int,aN≠0∧ae ac g bf (fm aH aK aN 0 0 0 0 0 (.slice none 0 0))) ?_ ?_
 rotate_left
 ·intro cV aF;have bR:=bd.trans aZ;rw[cm,ab];refine⟨fun _=>?_,fun _=>aF _ ⟨bR,ad.refl _ _,_,_,by omega,aJ⟩⟩;rw[aw,V bf.p rfl];refine bl (g:=g) (o:=1) U.i rfl rfl aJ (by simp[fm]) fun es cW et cX=>?_;rw[aw,V bf.p rfl];refine bl (g:=g) (o:=2) U.i rfl rfl cX (by simp[fm]) fun eu cY ev cZ=>?_;have ah:=cW.trans cY;exact aF _ ⟨bR.then ah fun r I he=>by have he:r=g:=he;omega,ah,bad,11,by omega,cZ⟩
 rintro ac ⟨bS,be,aK,aN,c0,bT⟩;have z3:=be.size;have c1:bp ac g ac.heap.size bh 100000 (some ⟨(lex pl).1,0,false,[]⟩):=by
  refine⟨o7 _,ac,aH,bJ,0,_,[],[],aK,aN,0,0,0,0,0,rfl,ad.refl _ _,⟨_,bT⟩,bT,⟨⟨?_,fun r I=>?_⟩,a1.nil _ _ _ _ _,rfl,fun i h x hi=>by simp at hi⟩,fun r I=>eC I,rfl,c0,by simp,fun _=>rfl,trivial,bM,cT,rfl,?_⟩
  ·refine (bK.O (aZ.O fun _=>False) fun _ _ h=>h).O be fun r I he=>?_;have he:r=g:=he;obtain⟨c,av⟩:=bO r I;have:=av.lt;omega
  ·obtain⟨c,av⟩:=bO r I;exact⟨c,(av.ext aZ).O be fun he=>by have he:r=g:=he;have:=av.lt;omega⟩
  ·have:bJ.length=(lex pl).1.length:=by rw[←bM,u5]
   simp only[List.length_nil];omega
 have ew:∀ {aE:x2} {c2 N:Nat} {H:ag} {so:Option aC},bp aE g c2 H N so→True:=fun _=>trivial;rw[cH (cs:=#[bk [],.int .i64 0,.slice none 0 0,.slice none 0 0]) (by kernel_rfl)];refine bL fun W c4 ey bg a2=>?_;have a2:ae c4 W c5 [bk [],.int .i64 0,.slice none 0 0,.slice none 0 0]:=a2;have ez:ac.heap.size≤W:=by omega
 have eA:=a2.lt;have c7:W≠g:=by omega
 have aj:∀ {aE aO:x2} {c:List x1},ae aE W c5 c→ad (fun r=>r=g) aE aO→ae aO W c5 c:=fun av ah=>av.O ah fun he=>c7 he;refine (zN (c1.ext bg)).mono ?_;rintro _ c8 _ ⟨⟨bi,c9⟩,t,bU,rfl,eB,eD,da⟩;refine bu bY.i fun bj eE eF db dc=>?_;refine bN (vs:=[bk t,.int .i64 bU]) bY.i rfl rfl (by intro v bV;simp at bV;rcases bV with rfl|rfl <;> rfl) dc fun dd de eH bW=>?_;have a7:Ext c8 dd:=db.then de fun r I he=>by have he:r=bj:=he;omega
 have df:=(aj a2 bi).ext a7;rw[V bY.p rfl,aa (by kernel_rfl) (bW.cell (o:=0+0) rfl),aw,V c5.p rfl];refine bl (g:=W) (o:=0) cz.i rfl rfl df (by simp) fun bm bn eI bo=>?_;have bo:ae bm W c5 [bk t,.int .i64 0,.slice none 0 0,.slice none 0 0]:=bo;have dg:=(c9.ext a7).new bn fun r I=>by have I:r=W:=I;omega
 have z4:=bg.size;have z5:=bi.size;have eJ:=a7.size;have bX:ae bm bj bY [bk t,.int .i64 bU]:=bW.O bn fun he=>by have he:bj=W:=he;omega
 rw[V bY.p rfl,aa (by kernel_rfl) (bX.cell (o:=0+0) rfl),lr cz.u,bA,V bY.p rfl,aa (by kernel_rfl) (bX.cell (o:=0+1) rfl)];have dh:ad (fun r=>w.heap.size≤r) w bm:=((((bS.O _).trans (bg.O _)).trans (bi.mono fun r _ h=>by have h:r=g:=h;omega)).trans (a7.O _)).trans (bn.mono fun r _ h=>by have h:r=W:=h;omega);have up:∀ {aE aO:x2},ad (fun r=>w.heap.size≤r) w aE→ad (fun r=>r=g) aE aO→ad (fun r=>w.heap.size≤r) w aO:=fun h k=>h.trans (k.mono fun r _ h=>by have h:r=g:=h;omega);refine (kS dg).mono ?_;rintro _ eK _ ⟨bZ,aQ⟩;have di:=up dh bZ;have dj:=aj bo bZ;generalize bq:(((hL (some ⟨(lex pl).1,0,false,[]⟩)).map (·.2)).map (aV (decide ((64:Int)<(t.length:Int)))))=br at aQ;refine (iG aQ).mono ?_;rintro _ eL _ ⟨⟨b0,dk⟩,n,dl,rfl,b1,dm⟩;rw[aD (v:=.int .i64 n) rfl,aD (v:=.int .i64 dl) rfl,bA];refine (kS dk).mono ?_;rintro _ eM _ ⟨b2,b3⟩;have dn:=up (up di b0) b2;have dp:=aj (aj dj b0) b2;generalize b4:((aU 1 4611686018427387904 br).map (·.2)).map (aV (decide (64<n)))=bt at b3;refine (iG b3).mono ?_;rintro _ eN _ ⟨⟨b5,b6⟩,most,dq,rfl,hm,dr⟩;rw[aD (v:=.int .i64 most) rfl,aD (v:=.int .i64 dq) rfl];generalize b8:(aU 1 4611686018427387904 bt).map (·.2)=bw at b6;refine (iG b6).mono ?_;rintro _ eO _ ⟨⟨b9,ds⟩,count,dt,rfl,ca,du⟩;rw[aD (v:=.int .i64 count) rfl,aD (v:=.int .i64 dt) rfl,bA];refine (kS ds).mono ?_;rintro _ eP _ ⟨cb,cc⟩;generalize cd:((aU 0 4611686018427387904 bw).map (·.2)).map (aV (decide (256<count)))=ce at cc;refine (iG cc).mono ?_;rintro _ eQ _ ⟨⟨cg,dv⟩,k,dw,rfl,dy,eR⟩;rw[aD (v:=.int .i64 k) rfl,aD (v:=.int .i64 dw) rfl,bA];refine (kS dv).mono ?_;rintro _ eS _ ⟨ci,cj⟩;generalize ck:((aU 1 4611686018427387904 ce).map (·.2)).map (aV (decide (2147483648<k)))=aR at cj;have dz:=up (up (up (up (up dn b5) b9) cb) cg) ci;have dA:=aj (aj (aj (aj (aj dp b5) b9) cb) cg) ci;rw[aw,V c5.p rfl];refine bl (g:=W) (o:=1) ak.i rfl rfl dA (by simp) fun cl cn eU bx=>?_;have bx:ae cl W c5 [bk t,.int .i64 k,.slice none 0 0,.slice none 0 0]:=bx;have dC:=cj.new cn fun r I=>by have I:r=W:=I;omega
 have cp:ad (fun r=>w.heap.size≤r) w cl:=dz.trans (cn.mono fun r _ h=>by have h:r=W:=h;omega);have eV:0≤n∧n≤4611686018427387904:=by
  cases Y:aU 1 4611686018427387904 br with
  |none=>have:=dm Y;omega
  |some q=>have aQ:=b1 q Y;have:=kP (n:=q.1) (s':=q.2) Y;omega
 have eW:0≤most∧most≤4611686018427387904:=by
  cases Y:aU 1 4611686018427387904 bt with
  |none=>have:=dr Y;omega
  |some q=>have aQ:=hm q Y;have:=kP (n:=q.1) (s':=q.2) Y;omega
 have dD:0≤count∧count≤4611686018427387904:=by
  cases Y:aU 0 4611686018427387904 bw with
  |none=>have:=du Y;omega
  |some q=>have aQ:=ca q Y;have:=kP (n:=q.1) (s':=q.2) Y;omega
 have dE:Zero (some (⟨(lex pl).1,0,false,[]⟩:aC)):=fun s ax=>by cases ax;exact⟨rfl,by simp only;omega⟩
 have dF:Zero br:=by rw[←bq];exact (IW dE).big _
 have dG:Zero bt:=by rw[←b4];exact (zero_num dF).big _
 have dH:Zero bw:=by rw[←b8];exact zero_num dG
 have dI:Zero ce:=by rw[←cd];exact (zero_num dH).big _
 have cq:Zero aR:=by rw[←ck];exact (zero_num dI).big _
 have eX:=cp.size;refine⟨fun bz ay=>∃ i:Nat,bz= .int .i64 (i:Int)∧i≤n.toNat∧ad (fun r=>w.heap.size≤r) w ay∧ ∃ aq cr acc so,ae ay W c5 [bk t,.int .i64 k,aq,.slice none 0 0]∧am .i64 ak ay cr aq acc∧(∀ r,leads aq r→ac.heap.size≤r)∧bp ay g ac.heap.size bh 100000 so∧jr (e2 most) n.toNat i aR acc so∧ ∀ s,so=some s→s.told=0∧acc.length+s.toks.length≤100000∧ ∀ z∈acc,1≤z∧z≤ao,fun bz _=>n.toNat-(bB bz).toNat,
  ⟨0,rfl,Y7 _,cp,_,0,[],aR,bx,am.nil _ _ _ _,(fun r I=>by obtain⟨a,a8,c,aK,aN⟩:=I;cases aK),dC,?_,fun s ax=>⟨(cq s ax).1,by simpa using (cq s ax).2,fun z dK=>by cases dK⟩⟩,?_⟩
 ·unfold jr;cases aR <;> rfl
 rintro _ ay ⟨i,rfl,hi,bD,aq,cr,acc,so,ct,cu,cw,aS,bE,cA⟩;refine aM (fun v dL=>ay=dL∧((v= .bool true∧i<n.toNat∧ ∃ s,so=some s)∨(v= .bool false∧(so=none∨i=n.toNat)))) ?_ ?_
 rotate_left
 ·intro cV aF;rw[an,ab];refine⟨fun cB=>?_,fun eY=>aF _ _ ⟨rfl,.inr ⟨rfl,.inr (by omega)⟩⟩⟩;rw[jq aS];cases so with
  |none=>exact aF _ _ ⟨rfl,.inr ⟨rfl,.inl rfl⟩⟩
  |some s=>exact aF _ _ ⟨rfl,.inl ⟨rfl,by omega,s,rfl⟩⟩
 rintro _ _ ⟨rfl,⟨rfl,cB,s,rfl⟩|⟨rfl,dM⟩⟩
 ·rw[bC];obtain⟨dN,eZ,dO⟩:=cA s rfl;refine (iG aS).mono ?_;rintro _ e0 _ ⟨⟨dP,dQ⟩,z,dR,rfl,bF,e1⟩;rw[aD (v:=.int .i64 z) rfl,aD (v:=.int .i64 dR) rfl,bA];refine (kS dQ).mono ?_;rintro _ e3 _ ⟨dS,dT⟩;have ba:=dP.trans dS;have cC:=aj ct ba;have dU:∀ r,r=g→fI ay r∨ay.heap.size≤r:=fun r I=>(iH aS r I).imp (fun⟨e,c,av,dV,dW,_⟩=>⟨e,c,av,dV,dW⟩) id;have cD:=dJ cu ba dU;rw[aw,V c5.p rfl,aa (by kernel_rfl) (cC.cell (o:=0+2) rfl)];refine dx au.u ak.i rfl fun a22 e4 dX e5 aG dY=>?_;refine fx au.u ak.i rfl (cD.ext aG) dY.ls (by simp;omega) (by simp;omega) fun cE dZ e6 bb ea cF=>?_;have cG:=cC.ext aG;have cI:=cG.O cF fun he=>bQ (cD.ext aG) cG (by decide) he rfl;rw[aw,V c5.p rfl];refine bl (g:=W) (o:=2) au.i bb.ls.cells.1 bb.ls.cells.2 cI (by simp) fun cJ cK e7 bG=>?_;have bG:ae cJ W c5 [bk t,.int .i64 k,cE,.slice none 0 0]:=bG;rw[aI,wrap_i64 (by omega) (by omega)];have cL:ad (fun r=>leads aq r∨r=W) dX cJ:=(cF.mono fun r _ h=>.inl h).trans (cK.mono fun r _ h=>.inr h);have cM:∀ r,(leads aq r∨r=W)→ac.heap.size≤r:=fun r I=>I.elim (cw r) fun I=>by omega
  have e8:w.heap.size≤ac.heap.size:=bS.size;have e9:=ba.size;have z22:=aG.size;have fa:=bD.size;have fb:=aS.lt;refine⟨⟨i+1,rfl,by omega,((up bD ba).trans (aG.O _)).trans (cL.mono fun r _ h=>by have:=cM r h;omega),cE,dZ,acc++[z],((aU 1 most (some s)).map (·.2)).map (aV (decide (32<z))),bG,a6 bb cK fun r I he=>?_,fun r I=>?_,(dT.ext aG).new cL cM,?_,fun s' al=>?_⟩,by simp only[bB];omega⟩
  ·have he:r=W:=he;subst he;exact bQ bb cI (by decide) I rfl
  ·rcases ea r I with h|h
   ·exact cw r h
   ·omega
  ·refine bE.step cB ?_ fun q Y=>?_
   ·show (V0 _ (aY 1 most s)).map _=_;unfold e2;cases Y:aY 1 most s with
    |none=>rfl
    |some q=>
     have:=bF q Y;obtain⟨cN,bc⟩:=q;subst this;rfl
   ·unfold e2 at Y;cases ap:aY 1 most s with
    |none=>rw[ap] at Y;cases Y
    |some aT=>
     rw[ap] at Y;have:=bF aT ap;obtain⟨cN,bc⟩:=aT;cases Y;exact this
  ·cases ap:aY 1 most s with
   |none=>
    have al:(V0 (fun x=>x.2) (aY 1 most s)).map (aV (decide (32<z)))=some s':=al;rw[ap] at al;cases al
   |some aT=>
    have al:(V0 (fun x=>x.2) (aY 1 most s)).map (aV (decide (32<z)))=some s':=al;rw[ap] at al;have eb:=bF aT ap;obtain⟨cN,bc⟩:=aT;cases al;have cO:=c6 ap;have js:=(gl ap).1;have fc:=cO.1;refine⟨by show bc.told=0;rw[cO.eqs.1];exact dN,?_,fun y aW=>?_⟩
    ·rw[o5];show acc.length+1+bc.toks.length≤100000;omega
    ·rcases n9.1 aW with aW|aW
     ·exact dO y aW
     ·rw[j0.1 aW,eb];exact⟨js.1,by unfold ao;have:=js.2;simp only at*;omega⟩
 ·rw[aP];have ec:aR.bind (ch (e2 most) n.toNat [])=so.map fun s=>(acc,s):=by
   unfold jr at bE;rw[bE];cases so with
   |none=>rfl
   |some s=>
    rcases dM with h|rfl
    ·cases h
    ·simp only[V2];rfl
  refine IV bD ct cu aS (fun s ax=>?_) (by omega) (by omega) aX dD fun v w' X ed bH ee ef cP=>?_
  ·obtain⟨eg,fd,a3⟩:=cA s ax;exact⟨fun _=>by rw[eg];omega,by omega,a3,by omega⟩
  ·have eh:(decide ((64:Int)<(t.length:Int)))=decide (64<t.length):=by rw[V1,decide_eq_true_eq,decide_eq_true_eq];omega
   rw[eh] at bq;have ei:=IT (s0:=⟨(lex pl).1,0,false,[]⟩) bq.symm (fun q Y=>da q Y) b4.symm b1 b8.symm hm cd.symm ca ck.symm dy ec ee;have aA:=IX ei (by omega);have cQ:¬0≤bad↔(lex pl).2=true:=by
    rw[cU];cases (lex pl).2 <;> simp
   cases ed with
   |none=>
    obtain⟨a8,e,rfl⟩:=cP fun s ax=>by cases ax
    exact⟨bH,a8,e,fun _=>rfl,fun f ai=>by rw[aA] at ai;cases ai⟩
   |some s=>
    have aA:fs pl=if s.toks=[]∧(lex pl).2=true∧s.big=false then some ⟨t,k,acc,X⟩ else none:=aA;by_cases ah:s.toks=[]∧(lex pl).2=true∧s.big=false
    ·rw[if_pos ah] at aA;obtain⟨rfl,ej⟩:=ef s rfl ⟨ah.1,cQ.2 ah.2.1,ah.2.2⟩;exact⟨bH,_,_,(fun ai=>by rw[aA] at ai;cases ai),fun f ai=>⟨W,rfl,by rw[aA] at ai;cases ai;exact ej⟩⟩
    ·rw[if_neg ah] at aA;obtain⟨a8,e,rfl⟩:=cP fun s' al bI=>by
      cases al;exact ah ⟨bI.1,cQ.1 bI.2.1,bI.2.2⟩
     exact⟨bH,a8,e,fun _=>rfl,fun f ai=>by rw[aA] at ai;cases ai⟩
theorem IZ {a b:Int}:af x3 DB [.int .i64 a,.int .i64 b] w fun v w'=>v= .int .i64 (min a b)∧Ext w w':=by
 refine az func300 ?_;rw[an,ab];exact⟨fun h=>⟨by congr 1;omega,Ext.refl _⟩,fun h=>⟨by congr 1;omega,Ext.refl _⟩⟩
set_option maxHeartbeats 1000000 in
theorem I0 {I:hs} {x:bZ} {aA:x1} {t:List Int} (h:fy w I x) (ax:(x.lines.map (·.1)).Nodup) (ay:aB .i64 w aA t):af x3 Dp [.agg (dZ I).toArray,aA,.int .i64 k] w fun v w'=>v= .int .i64 (hX x k t)∧Ext w w':=by
 obtain⟨⟨aZ,aC⟩,⟨a1,aD⟩,aE,a2,L,W,aF,am⟩:=id h;refine az func269 ?_;refine bL fun aG J a6 ah O=>?_;have O:ae J aG aR (dZ I):=by
  obtain⟨_,_,_,aH⟩:=bH aC.ls;obtain⟨_,_,_,aJ⟩:=bH aD.ls;obtain⟨_,_,_,_,_,aK,_⟩:=W.sl;simp only[dZ,aH,aJ,aK] at O ⊢;exact O
 have aL:=W.ext ah;have aN:L.length=x.lines.length:=by rw[←am,u5]
 rw[V aR.p rfl,aa (v:=.int .i64 I.o) (by kernel_rfl) (O.cell (o:=0+2) rfl),V aR.p rfl,aa (v:=I.bI) (by kernel_rfl) (O.cell (o:=0+3) rfl),ef dq.u aL,aE];refine bt.range L.length (fun i Y ac=>Ext J ac∧ ∃ c:Int,Y= .int .i64 c∧min c k=jl x k i t) W.le ⟨Ext.refl _,x.other,rfl,(yN x k t).symm⟩ ?_ ?_
 ·rintro i _ ac aO hi ⟨U,c,rfl,ad⟩ aP;obtain⟨y,ai⟩:∃ y,L[i]? =some y:=⟨_,y0 hi⟩;obtain⟨a7,ao⟩:=aF y (x5 ai);have aj:=ah.trans U;have aQ:x.lines[i]? =some (y.t,y.c):=by rw[←am,x8,ai];rfl
  have ap:=yP (k:=k) ax aQ t;rw[an,ab];refine⟨fun _=>?_,fun h=>by omega⟩;refine aM (fun Y aq=>Ext J aq∧ ∃ c:Int,Y= .int .i64 c∧min c k=jl x k (i+1) t) ?_ ?_
  ·rintro Y aq aS;rw[aI];exact aP _ _ aS
  intro a8 au;have av:=W.ext aj;rw[cT rfl dq.u bR.i av hi,bw bR.p bR.i rfl (av.range ai)];refine bu bR.i fun al ba bb aT aU=>?_;refine bN (vs:=lP y) bR.i rfl rfl (tH ao) aU fun aV aW bc aw=>?_;have ag:Ext ac aV:=aT.then aW fun r bd he=>by have he:r=al:=he;omega
  rw[V bR.p rfl,aa (by kernel_rfl) (aw.cell (o:=0+0) rfl)];refine (tG ((ao.ls.ext aj).ext ag) ((ay.ext aj).ext ag)).mono ?_;rintro _ be _ ⟨rfl,ak⟩;rw[ab];refine⟨fun he=>?_,fun aX=>?_⟩
  ·rw[V bR.p rfl,aa (by kernel_rfl) ((aw.ext ak).cell (o:=0+1) rfl)];refine au _ _ ⟨(U.trans ag).trans ak,y.c,rfl,?_⟩;rw[ap,if_pos he.symm]
  ·refine au _ _ ⟨(U.trans ag).trans ak,c,rfl,?_⟩;rw[ap,if_neg fun he=>aX he.symm,ad]
 ·rintro _ ac aO ⟨U,c,rfl,ad⟩;rw[aN,yO] at ad;rw[an,ab];refine⟨fun h=>by omega,fun _=>?_⟩;refine IZ.mono ?_;rintro _ bf _ ⟨rfl,aY⟩;exact⟨by rw[ad],(ah.trans U).trans aY⟩
set_option maxHeartbeats 1000000 in
theorem I1 (h:aB .i64 w aq l) (aw:l.Nodup) (aU:l.length≤64):af x3 Do [aq] w fun v w'=>Ext w w'∧ ∃ g,am .i64 U w' g v (a7 l)∧ ∀ r,leads v r→w.heap.size≤r:=by
 refine az func268 ?_;have ax:∀ i,i≤64→(((X7 i).map fun(v:Nat)=>(v:Int)).filter fun v=>decide (v∈l)).length≤i:=fun i _=>by
  have:=List.length_filter_le (fun v=>decide (v∈l)) ((X7 i).map fun(v:Nat)=>(v:Int));simp at this;omega
 refine bt.range 64 (fun i I J=>Ext w J∧ ∃ g,am .i64 U J g I (((X7 i).map fun(v:Nat)=>(v:Int)).filter fun v=>decide (v∈l))∧ ∀ r,leads I r→w.heap.size≤r) (by omega) ⟨Ext.refl _,0,am.nil _ _ _ _,fun r Y=>by obtain⟨a,n,c,ay,aV⟩:=Y;cases ay⟩ ?_ ?_
 ·rintro i I J k hi ⟨aa,g,hm,ag⟩ aA;rw[an,ab];refine⟨fun _=>?_,fun h=>by omega⟩;rw[aL au.u (h.ext aa)];have aC:=ax i (by omega);generalize aD:(((X7 i).map fun(v:Nat)=>(v:Int)).filter fun v=>decide (v∈l))=A at hm aC;refine bt.range l.length (fun j I ad=>Ext w ad∧ ∃ g,am .i64 U ad g I (A++(if (i:Int)∈l.take j then[(i:Int)] else[]))∧ ∀ r,leads I r→w.heap.size≤r) h.le ⟨aa,g,by simpa using hm,ag⟩ ?_ ?_
  ·rintro j aE ad aF aG ⟨V,ah,O,W⟩ aH;obtain⟨x,ai⟩:∃ x,l[j]? =some x:=⟨_,y0 aG⟩;rw[an,ab];refine⟨fun _=>?_,fun h=>by omega⟩;refine aM (fun I ae=>Ext w ae∧ ∃ g,am .i64 U ae g I (A++(if (i:Int)∈l.take (j+1) then[(i:Int)] else[]))∧ ∀ r,leads I r→w.heap.size≤r) ?_ ?_
   ·rintro aW ae aJ;rw[aI];exact aH _ _ aJ
   intro aX av;have aj:(i:Int)∈l.take (j+1)↔(i:Int)∈l.take j∨(i:Int)=x:=by
    rw[u9,ai,Z0,n9,j0]
   rw[aZ au.u ak.i (by kernel_rfl) (h.ext V) ai,a8,ab];refine⟨fun he=>?_,fun aK=>?_⟩
   ·have aN:(i:Int)∉l.take j:=fun hm=>by
     obtain⟨p,al⟩:=Y2.1 hm;have aO:p<j:=by have:=(x4.1 al).1;rw[o8] at this;omega
     rw[Z6 aO,←he] at al;have:=iy aw al ai;omega
    rw[if_neg aN,V9] at O;refine dx (k:=.i64) ac.u U.i rfl fun a3 aY ae a1 ao aP=>?_;refine fx ac.u U.i rfl (O.ext ao) aP.ls (by simp;omega) (by simp;omega) fun a2 aQ a6 aR aS aT=>?_;have ba:=V.size;have z3:=ao.size;refine av _ _ ⟨(V.trans ao).then aT fun r Y he=>by have:=W r he;omega,aQ,?_,fun r Y=>(aS r Y).elim (W r) fun h=>by omega⟩;rw[if_pos (aj.2 (.inr he.symm))];exact aR
   ·refine av _ _ ⟨V,ah,?_,W⟩;have:((i:Int)∈l.take (j+1))=((i:Int)∈l.take j):=propext ⟨fun ap=>(aj.1 ap).resolve_right fun he=>aK he.symm,fun ap=>aj.2 (.inl ap)⟩;simp only[this];exact O
  ·rintro aE ad aF ⟨V,ah,O,W⟩;rw[o9] at O;rw[an,ab];refine⟨fun h=>by omega,fun _=>?_⟩;rw[aI];refine aA _ _ ⟨V,ah,?_,W⟩;rw[List.range_succ,b6,List.filter_append,aD];by_cases hm:(i:Int)∈l
   ·rw[if_pos hm] at O;simpa[hm] using O
   ·rw[if_neg hm] at O;simpa[hm] using O
 ·rintro I J k ⟨aa,g,hm,ag⟩;rw[an,ab];exact⟨fun h=>by omega,fun _=>⟨aa,g,hm,ag⟩⟩
structure eU where
 ay:x1
 aq:x1
 aG:x1
 sc:List Int
 cs:List Int
def cO (h:eU):List x1:=[h.ay,h.aq,h.aG]
def eV (w:x2) (sizes:List Int) (h:eU):Prop:=(∃ g,am .i64 U w g h.ay h.sc)∧(∃ g,am .i64 U w g h.aq (bd sizes h.sc))∧ ∃ g,am .i64 ak w g h.aG h.cs
theorem eV.ext {h:eU} (J:eV w sizes h) (I:Ext w w'):eV w' sizes h:=by
 obtain⟨⟨O,h1⟩,⟨U,V⟩,W,Y⟩:=J;exact⟨⟨O,h1.ext I⟩,⟨U,V.ext I⟩,W,Y.ext I⟩
theorem eV.one {h:eU} (I:eV w sizes h):∀ u∈cO h,u.oneCell'=true:=by
 obtain⟨⟨U,h1⟩,⟨V,J⟩,W,O⟩:=I;intro u hu;simp[cO] at hu;rcases hu with rfl|rfl|rfl
 ·exact h1.ls.cells.2
 ·exact J.ls.cells.2
 ·exact O.ls.cells.2
set_option maxHeartbeats 8000000 in
theorem zX {cS:Nat} {f:bP} {x:bZ} {aF:hs} (h:fy w aF x) (be:eo N f) (cb:x∈f.funs) (cT:am .i64 ak w cS sv f.sizes):
  af x3 C2 [.agg (dZ aF).toArray,sv,.int .i64 f.k] w fun v w'=>Ext w w'∧ ∃ c:eU,v= .agg (cO c).toArray∧c.sc=a7 x.scope∧c.cs=(gm f.sizes f.k x).2∧eV w' f.sizes c∧ ∀ r,leads c.aG r→w.heap.size≤r:=by
 obtain⟨aQ,cU,eh⟩:=be.funs x cb;have cc:=qD aQ be.sizes.2.1;have cd:=qC cc aQ.scope.1;have cV:(a7 x.scope).length≤6:=by rw[cd.length_eq];exact cU
 have cW:=mW be cb;have ce:=yE x.scope;obtain⟨⟨ej,bf⟩,⟨ek,cX⟩,em,en,cY⟩:=id h;refine az func223 ?_;refine bL fun bF J ep cg aS=>?_;have aS:ae J bF aR (dZ aF):=by
  obtain⟨L,cZ,_⟩:=cY;obtain⟨_,_,_,aj⟩:=bH bf.ls;obtain⟨_,_,_,ap⟩:=bH cX.ls;obtain⟨_,_,_,_,_,c0,_⟩:=cZ.sl;simp only[dZ,aj,ap,c0] at aS ⊢;exact aS
 refine bu aT.i fun ch er es bG bI=>?_;have bK:=cg.trans bG;rw[V aR.p rfl,aa (v:=aF.ay) (by kernel_rfl) ((aS.ext bG).cell (o:=0+0) rfl)];refine (I1 (bf.ls.ext bK) aQ.scope.1 (by omega)).mono ?_;rintro ay ci _ ⟨bg,bi,bM,et⟩;rw[cH (cs:=#[ay,.slice none 0 0,.slice none 0 0]) (by obtain⟨_,_,_,rfl⟩:=bH bM.ls;kernel_rfl)];refine bu aT.i fun Y eu c1 c2 c3=>?_;refine bN (vs:=[ay,.slice none 0 0,.slice none 0 0]) aT.i rfl rfl (by intro u hu;simp at hu;rcases hu with rfl|rfl;exact bM.ls.cells.2;rfl) c3 fun av c4 ev aK=>?_;have bj:Ext ci av:=c2.then c4 fun r I he=>by have he:r=Y:=he;omega
 have cj:=(bK.trans bg).trans bj;have aH:=bM.ext bj;have bO:=((aS.ext bG).ext bg).ext bj;have ck:=(bI.ext bg).ext bj;have ew:=bK.size;have z3:=bg.size;have ey:=cj.size;have eA:=aK.lt;have eB:Y=ci.heap.size:=c1;rw[V aT.p rfl,aa (by kernel_rfl) (aK.cell (o:=0+0) rfl),aL ac.u aH.ls];have cl:∀ v∈a7 x.scope,0≤v∧v<f.sizes.length:=fun v hm=>aQ.scope.2 v ((oo cc).1 hm);have bR:∀ {w':x2},ad (fun r=>r=Y∨av.heap.size≤r) av w'→Ext w w':=fun bS=>cj.then bS fun r I he=>by omega
 have bT:(bd f.sizes (a7 x.scope)).length=(a7 x.scope).length:=by simp[bd]
 refine bJ.range (a7 x.scope).length (fun i aw=>ad (fun r=>r=Y∨av.heap.size≤r) av aw∧ ∃ aq gs,ae aw Y aT [ay,aq,.slice none 0 0]∧am .i64 U aw gs aq ((bd f.sizes (a7 x.scope)).take i)∧ ∀ r,leads aq r→av.heap.size≤r) (by omega)
  ⟨ad.refl _ _,_,0,aK,am.nil _ _ _ _,fun r I=>by obtain⟨a,n,c,aj,ap⟩:=I;cases aj⟩ ?_ ?_
 ·rintro i aw c5 hi ⟨ax,aq,gs,c6,aU,bU⟩ c7;obtain⟨v,bV⟩:∃ v,(a7 x.scope)[i]? =some v:=⟨_,y0 hi⟩;have eC:=cl v (x5 bV);have c8:am .i64 U aw bi ay (a7 x.scope):=a6 aH ax fun r I W=>by
   rcases W with rfl|W
   ·exact bQ aH aK (by decide) I rfl
   ·obtain⟨aj,ap⟩:=bn aH I;omega
  rw[an,ab];refine⟨fun _=>?_,fun h=>by omega⟩;rw[aZ ac.u U.i (by kernel_rfl) c8.ls bV];intro eD aV _ _;have cm:=c6.ext aV;have c9:f.sizes[v.toNat]? =some (f.sizes.getD v.toNat 0):=by rw[u4,y0 (by omega)];rfl
  rw[V aT.p rfl,aa (by kernel_rfl) (cm.cell (o:=0+1) rfl),dt (y:=v) (i:=v.toNat) (by omega) au.u ak.i (by kernel_rfl) (cT.ext ((bR ax).trans aV)).ls c9];refine dx (k:=.i64) ac.u U.i rfl fun eE eF da eH aW db=>?_;refine⟨.inl aW,?_⟩;have cn:=(aU.ext aV).ext aW;refine fx ac.u U.i rfl cn db.ls (by simp;omega) (by simp;omega) fun dc dd eI bk de cp=>?_;have cq:=cm.ext aW;have cr:=cq.O cp fun he=>bQ cn cq (by decide) he rfl;rw[V aT.p rfl];refine bl (g:=Y) (o:=1) ac.i bk.ls.cells.1 bk.ls.cells.2 cr (by simp) fun df ct eJ dg=>?_;rw[aI];have dh:ad (fun r=>leads aq r∨r=Y) da df:=(cp.mono fun r _ h=>.inl h).trans (ct.mono fun r _ h=>.inr h);have di:=ax.size;have eK:=(aV.trans aW).size;refine c7 _ ⟨((ax.trans (aV.O _)).trans (aW.O _)).trans (dh.mono fun r _ h=>h.elim (fun h=>.inr (bU r h)) .inl),dc,dd,dg,?_,fun r I=>(de r I).elim (bU r) fun h=>by omega⟩;have e:(bd f.sizes (a7 x.scope)).take (i+1)=(bd f.sizes (a7 x.scope)).take i++[f.sizes.getD v.toNat 0]:=by
   unfold bd;rw[←List.map_take,←List.map_take,u9,bV,Z0,b6];rfl
  rw[e];exact a6 bk ct fun r I he=>by
   have he:r=Y:=he;subst he;exact bQ bk cr (by decide) I rfl
 rintro aw c5 ⟨ax,aq,gs,bW,aU,bU⟩;rw[←bT,o9] at aU;rw[an,ab];refine⟨fun h=>by omega,fun _=>?_⟩;have eL:=bR ax;have bo:bD (bd f.sizes (a7 x.scope)):=⟨by rw[bT];exact cV,mV be.sizes.2.2 cl⟩;have dj:=cW.small;rw[V aT.p rfl,aa (by kernel_rfl) (bW.cell (o:=0+1) rfl)];refine (p8 _ aU.ls bo).mono ?_;rintro dk ah _ ⟨bp,cu⟩;have eM:=hV bo.2;have eN:=jZ bo.2;have eO:aE (bd f.sizes (a7 x.scope))≤4096:=dj;rw[fR cQ.u cu];have bq:ad (fun r=>r=Y∨av.heap.size≤r) av ah:=ax.trans (bp.O _);have aX:=bW.ext bp;have cw:=aU.ext bp;have di:=ax.size;have eP:=bp.size;have bX:am .i64 U ah bi ay (a7 x.scope):=a6 aH bq fun r I W=>by
  rcases W with rfl|W
  ·exact bQ aH aK (by decide) I rfl
  ·obtain⟨aj,ap⟩:=bn aH I;omega
 have bY:ae ah bF aR (dZ aF):=bO.O bq fun W=>W.elim (fun he=>by subst he;exact absurd (ei bO aK) (by decide)) fun h=>by have:=bO.lt;omega
 have cz:=ck.O bq fun W=>W.elim (fun he=>by have:=bI.lt;omega) fun h=>by have:=ck.lt;omega
 have cA:∀ {w':x2},ad (fun r=>r=Y∨ah.heap.size≤r) ah w'→Ext w w':=fun bS=>(bR bq).then bS fun r I he=>by
  have he:r=Y∨ah.heap.size≤r:=he;omega
 have eQ:Y<ah.heap.size:=aX.lt;refine bJ.range (bm (bd f.sizes (a7 x.scope))).length (fun q ag=>ad (fun r=>r=Y∨ah.heap.size≤r) ah ag∧ ∃ aG aY,ae ag Y aT [ay,aq,aG]∧am .i64 ak ag aY aG (((bm (bd f.sizes (a7 x.scope))).take q).map fun t=>hX x f.k (mL x.scope (a7 x.scope) t))∧ ∀ r,leads aG r→ah.heap.size≤r) (by omega)
  ⟨ad.refl _ _,_,0,aX,am.nil _ _ _ _,fun r I=>by obtain⟨a,n,c,aj,ap⟩:=I;cases aj⟩ ?_ ?_
 ·rintro q ag dl dm ⟨al,aG,aY,a1,a2,br⟩ dn;obtain⟨t,bx⟩:∃ t,(bm (bd f.sizes (a7 x.scope)))[q]? =some t:=⟨_,y0 dm⟩;have eR:t.length=(a7 x.scope).length:=by
   have dp:=nZ bo.2 (i:=q) (by omega);rw[dp] at bx;cases bx;rw[hG,bT]
  have b0:=cA al;have dq:ai.rep (α:=List (List Int)) true (dV aw.heap.size) bh ag [dk] (bm (bd f.sizes (a7 x.scope))):=ai.O cu al fun r I h W=>by
   rcases h with h|h
   ·have h:aw.heap.size≤r:=h;have:=bW.lt;rcases W with W|W <;> omega
   ·exact h
  have aN:∀ {aB:Nat} {aC:x1} {aD:List Int},am .i64 U ah aB aC aD→am .i64 U ag aB aC aD:=fun hm=>a6 hm al fun r I W=>by
   rcases W with rfl|W
   ·exact bQ hm aX (by decide) I rfl
   ·obtain⟨aj,ap⟩:=bn hm I;omega
  have cB:=aN bX;have cC:ae ag bF aR (dZ aF):=bY.O al fun W=>W.elim (fun he=>by subst he;exact absurd (ei bY aX) (by decide)) fun h=>by have:=bY.lt;omega
  rw[an,ab];refine⟨fun _=>?_,fun h=>by omega⟩;refine io (α:=List Int) rfl rfl cQ.u ac.i (by kernel_rfl) dq bx fun aA dr=>?_;have ds:=ff dr;rw[V aR.p rfl,aa (v:=aF.ay) (by kernel_rfl) (cC.cell (o:=0+0) rfl),aL au.u (bf.ls.ext b0)];have z12:=al.size;refine bt.range x.scope.length (fun p ao bz=>Ext ag bz∧ ∃ go,am .i64 ak bz go ao ((x.scope.take p).map fun v=>t.getD ((a7 x.scope).idxOf v) 0)∧ ∀ r,leads ao r→ag.heap.size≤r) (by omega) ⟨Ext.refl _,0,am.nil _ _ _ _,fun r I=>by obtain⟨a,n,c,aj,ap⟩:=I;cases aj⟩ ?_ ?_
  ·rintro p ao bz du dv ⟨aO,go,bb,cD⟩ dw;obtain⟨v,b1⟩:∃ v,x.scope[p]? =some v:=⟨_,y0 dv⟩;have dy:v∈a7 x.scope:=cd.mem_iff.2 (x5 b1);rw[an,ab];refine⟨fun _=>?_,fun h=>by omega⟩;have dz:=b0.trans aO;have dA:=a1.ext aO;have dC:=cB.ext aO;rw[aZ au.u ak.i (by kernel_rfl) (bf.ls.ext dz) b1,V aT.p rfl,aa (by kernel_rfl) (dA.cell (o:=0+0) rfl),aL ac.u dC.ls];generalize cE:((x.scope.take p).map fun v=>t.getD ((a7 x.scope).idxOf v) 0)=A at bb;have eS:A.length=p:=by rw[←cE,u5,o8];omega
   refine bt.range (a7 x.scope).length (fun j ao bA=>Ext ag bA∧ ∃ go,am .i64 ak bA go ao (A++if v∈(a7 x.scope).take j then[t.getD ((a7 x.scope).idxOf v) 0] else[])∧ ∀ r,leads ao r→ag.heap.size≤r) (by omega) ⟨aO,go,by simpa using bb,cD⟩ ?_ ?_
   ·rintro j dD bA dE dF ⟨aJ,b2,aP,bc⟩ dG;obtain⟨u,hu⟩:∃ u,(a7 x.scope)[j]? =some u:=⟨_,y0 dF⟩;have dH:=cB.ext aJ;rw[an,ab];refine⟨fun _=>?_,fun h=>by omega⟩;refine aM (fun ao b3=>Ext ag b3∧ ∃ go,am .i64 ak b3 go ao (A++if v∈(a7 x.scope).take (j+1) then[t.getD ((a7 x.scope).idxOf v) 0] else[])∧ ∀ r,leads ao r→ag.heap.size≤r) ?_ ?_
    ·rintro eW b3 dI;rw[aI];exact dG _ _ dI
    intro eX cF;have b4:v∈(a7 x.scope).take (j+1)↔v∈(a7 x.scope).take j∨v=u:=by
     rw[u9,hu,Z0,n9,j0]
    rw[aZ ac.u U.i (by kernel_rfl) dH.ls hu,a8,ab];refine⟨fun he=>?_,fun b5=>?_⟩
    ·have dJ:v∉(a7 x.scope).take j:=fun hm=>by
      obtain⟨dK,b7⟩:=Y2.1 hm;have dL:dK<j:=by have:=(x4.1 b7).1;rw[o8] at this;omega
      rw[Z6 dL,←he] at b7;have:=iy ce b7 hu;omega
     rw[if_neg dJ,V9] at aP;have dM:t[j]? =some (t.getD ((a7 x.scope).idxOf v) 0):=by
      have:(a7 x.scope).idxOf v=j:=ot ce (by rw[hu,he]);rw[this,u4,y0 (show j<t.length by omega)];rfl
     rw[aZ ac.u U.i (by kernel_rfl) (ds.ext aJ) dM];refine dx au.u ak.i rfl fun eY eZ e0 e1 b8 dN=>?_;refine fx au.u ak.i rfl (aP.ext b8) dN.ls (by simp;omega) (by simp;omega) fun e2 dO e3 dP dQ dR=>?_;have e4:=aJ.size;have e5:=b8.size;refine cF _ _ ⟨(aJ.trans b8).then dR fun r I he=>by have:=bc r he;omega,dO,?_,fun r I=>(dQ r I).elim (bc r) fun h=>by omega⟩;rw[if_pos (b4.2 (.inr he.symm))];exact dP
    ·refine cF _ _ ⟨aJ,b2,?_,bc⟩;have:(v∈(a7 x.scope).take (j+1))=(v∈(a7 x.scope).take j):=propext ⟨fun b9=>(b4.1 b9).resolve_right fun he=>b5 he.symm,fun b9=>b4.2 (.inl b9)⟩;simp only[this];exact aP
   ·rintro dD bA dE ⟨aJ,b2,aP,bc⟩;rw[o9,if_pos dy] at aP;rw[an,ab];refine⟨fun h=>by omega,fun _=>?_⟩;rw[aI];refine dw _ _ ⟨aJ,b2,?_,bc⟩;rw[u9,b1,Z0,b6,cE];exact aP
  ·rintro ao bz du ⟨aO,go,bb,cD⟩;rw[o9] at bb;rw[an,ab];refine⟨fun h=>by omega,fun _=>?_⟩;intro e6 cG _ _;have bB:=aO.trans cG;have dS:=a1.ext bB;have dT:=cC.ext bB;rw[V aT.p rfl,aa (by kernel_rfl) (dS.cell (o:=0+2) rfl),bw aR.p aR.i rfl dT.range];refine (I0 (h.ext (b0.trans bB)) aQ.lines.1 (bb.ls.ext cG)).mono ?_;rintro _ e7 _ ⟨rfl,ca⟩;refine⟨.inl ca,?_⟩;refine dx au.u ak.i rfl fun e8 e9 dU fa cI dW=>?_;refine⟨.inl (ca.trans cI),?_⟩;have bC:=(bB.trans ca).trans cI;have cJ:=a2.ext bC;refine fx au.u ak.i rfl cJ dW.ls (by simp;omega) (by simp;omega) fun dX dY fb bE ea cK=>?_;have cL:=a1.ext bC;have cM:=cL.O cK fun he=>bQ cJ cL (by decide) he rfl;rw[V aT.p rfl];refine bl (g:=Y) (o:=2) au.i bE.ls.cells.1 bE.ls.cells.2 cM (by simp) fun eb cN fc ec=>?_;rw[aI];have ed:ad (fun r=>leads aG r∨r=Y) dU eb:=(cK.mono fun r _ h=>.inl h).trans (cN.mono fun r _ h=>.inr h);have fd:=bC.size;refine dn _ ⟨(al.trans (bC.O _)).trans (ed.mono fun r _ h=>h.elim (fun h=>.inr (br r h)) .inl),dX,dY,ec,?_,fun r I=>(ea r I).elim (br r) fun h=>by omega⟩;rw[u9,bx,Z0,b6];exact a6 bE cN fun r I he=>by
    have he:r=Y:=he;subst he;exact bQ bE cM (by decide) I rfl
 ·rintro ag dl ⟨al,aG,aY,a1,a2,br⟩;rw[o9] at a2;rw[an,ab];refine⟨fun h=>by omega,fun _=>?_⟩;have aN:∀ {aB:Nat} {aC:x1} {aD:List Int},am .i64 U ah aB aC aD→am .i64 U ag aB aC aD:=fun hm=>a6 hm al fun r I W=>by
   rcases W with rfl|W
   ·exact bQ hm aX (by decide) I rfl
   ·obtain⟨aj,ap⟩:=bn hm I;omega
  let c:eU:=⟨ay,aq,aG,a7 x.scope,(gm f.sizes f.k x).2⟩;have ee:eV ag f.sizes c:=⟨⟨bi,aN bX⟩,⟨gs,aN cw⟩,aY,a2⟩;rw[bw aT.p aT.i rfl (show ag.rangeAt Y 0 (cO c) from a1.range)];have cP:=cz.O al fun W=>W.elim (fun he=>by have:=bI.lt;omega) fun h=>by have:=cz.lt;omega
  refine bN (vs:=cO c) aT.i rfl rfl ee.one cP fun ef cR fe eg=>?_;rw[ez aT.p aT.i rfl eg.range];have ba:∀ {aB:Nat} {aC:x1} {aD:List Int} {e:r8},e≠aT→am .i64 e ag aB aC aD→am .i64 e ef aB aC aD:=fun b5 hm=>a6 hm cR fun r I he=>by
   have he:r=ch:=he;exact bQ hm cP b5 I he
  refine⟨(cA al).then cR fun r I he=>by have he:r=ch:=he;have:=cg.size;omega,c,rfl,rfl,rfl,⟨⟨bi,ba (by decide) (aN bX)⟩,⟨gs,ba (by decide) (aN cw)⟩,aY,ba (by decide) a2⟩,fun r I=>?_⟩;have:=br r I;omega
theorem zY {h:eU} {g:Nat} (J:eV w sizes h) (I:ae w' g aT (x1.agg (cO h).toArray).cells.toList):ae w' g aT (cO h):=by
 obtain⟨⟨aa,h1⟩,⟨ab,O⟩,ac,U⟩:=J;obtain⟨_,_,_,V⟩:=bH h1.ls;obtain⟨_,_,_,W⟩:=bH O.ls;obtain⟨_,_,_,Y⟩:=bH U.ls;simp only[cO,V,W,Y] at I ⊢;exact I
set_option maxHeartbeats 1000000 in
theorem I2 {a b:eU} (aB:eV w sizes a) (aC:eV w sizes b) (aF:hK a.sc) (aG:hK b.sc):af x3 v7 [.agg (cO a).toArray,.agg (cO b).toArray] w fun v w'=>v= .bool (decide (cG a.sc<cG b.sc))∧Ext w w':=by
 obtain⟨⟨aW,aD⟩,_⟩:=id aB;obtain⟨⟨a6,aH⟩,_⟩:=id aC;have ao:=(s8 aF aG).1;refine az func224 ?_;refine bL fun aJ J a7 aK ap=>?_;refine bL fun aM aq a8 aE au=>?_;have ap:=(zY aB ap).ext aE;have au:=zY aC au;have ad:=aK.trans aE;have ae:=aD.ls.ext ad;have ai:=aH.ls.ext ad;have ag:∀ {w':x2},Ext aq w'→ ∀ {K:x1→Prop},I x3 (x7 aT (.pointer (some ⟨aJ,0,none⟩)) 0) w' (fun t=>I x3 (x6 ac t) w' K)=K a.ay:=fun O K=>by
  rw[V aT.p rfl,aa (v:=a.ay) (by kernel_rfl) ((ap.ext O).cell (o:=0+0) rfl)]
 have aj:∀ {w':x2},Ext aq w'→ ∀ {K:x1→Prop},I x3 (x7 aT (.pointer (some ⟨aM,0,none⟩)) 0) w' (fun t=>I x3 (x6 ac t) w' K)=K b.ay:=fun O K=>by
  rw[V aT.p rfl,aa (v:=b.ay) (by kernel_rfl) ((au.ext O).cell (o:=0+0) rfl)]
 rw[ag (Ext.refl _),aL ac.u ae,aj (Ext.refl _),aL ac.u ai,bF,ab];refine⟨fun aN=>?_,fun aO=>?_⟩
 ·rw[ag (Ext.refl _),aL ac.u ae,aj (Ext.refl _),aL ac.u ai,an];refine⟨?_,ad⟩;congr 1;rw[V1,decide_eq_true_eq,decide_eq_true_eq,ao];exact⟨fun h=>.inl (by omega),fun h=>by rcases h with h|h <;> omega⟩
 have aP:a.sc.length=b.sc.length:=by have:=Y9.1 aO;omega
 rw[ag (Ext.refl _),aL ac.u ae];refine bt.range a.sc.length (fun i _ av=>Ext aq av∧ ∀ (j:Nat) (x y:Int),j<i→a.sc[j]? =some x→b.sc[j]? =some y→x=y) aD.ls.le ⟨Ext.refl _,fun j x y aQ=>by omega⟩ ?_ ?_
 ·rintro i _ av k hi ⟨aw,ak⟩ aR;obtain⟨x,O⟩:∃ x,a.sc[i]? =some x:=⟨_,y0 hi⟩;obtain⟨y,al⟩:∃ y,b.sc[i]? =some y:=⟨_,y0 (by omega)⟩;have W:e4 a.sc b.sc=e4 (a.sc.drop i) (b.sc.drop i):=qN ak (by omega) (by omega);have aS:a.sc.drop i=x::a.sc.drop (i+1):=by rw[W0 hi,(x4.1 O).2]
  have aU:b.sc.drop i=y::b.sc.drop (i+1):=by rw[W0 (show i<b.sc.length by omega),(x4.1 al).2]
  rw[aS,aU] at W;simp only[e4] at W;rw[an,ab];refine⟨fun _=>?_,fun h=>by omega⟩;intro ba aV _ _;have Y:=aw.trans aV;rw[ag Y,aZ ac.u U.i (by kernel_rfl) (ae.ext Y) O,aj Y,aZ ac.u U.i (by kernel_rfl) (ai.ext Y) al,bF,ab];refine⟨fun aN=>?_,fun he=>?_⟩
  ·intro bb aX _ _;have ah:=Y.trans aX;rw[ag ah,aZ ac.u U.i (by kernel_rfl) (ae.ext ah) O,aj ah,aZ ac.u U.i (by kernel_rfl) (ai.ext ah) al,an];refine⟨?_,ad.trans ah⟩;congr 1;rw[V1,decide_eq_true_eq,decide_eq_true_eq,ao,W];by_cases am:x<y
   ·rw[if_pos am];exact⟨fun _=>.inr ⟨aP,by omega⟩,fun _=>am⟩
   ·rw[if_neg am,if_pos (show y<x by omega)];exact⟨fun h=>absurd h am,fun h=>by rcases h with h|h <;> omega⟩
  ·rw[aI];refine aR _ _ ⟨Y,fun j aY a1 aQ ax aA=>?_⟩;by_cases a2:j=i
   ·subst a2;rw[O] at ax;rw[al] at aA;cases ax;cases aA;exact Y9.1 he
   ·exact ak j aY a1 (by omega) ax aA
 ·rintro _ av k ⟨aw,ak⟩;rw[an,ab];refine⟨fun h=>by omega,fun _=>⟨?_,ad.trans aw⟩⟩;congr 1;symm;rw[decide_eq_false_iff_not,ao];have W:e4 a.sc b.sc=e4 (a.sc.drop a.sc.length) (b.sc.drop a.sc.length):=qN ak (o7 _) (by omega);rw[List.drop_length,show b.sc.drop a.sc.length=[] from List.drop_eq_nil_of_le (by omega)] at W;rw[W];simp only[e4];omega
def cW (h:eU):ca:=(h.sc,h.cs)
def iI (w:x2) (B g:Nat) (v:x1) (sizes:List Int) (L:List eU):Prop:=a1 cO 3 aT w g v L∧(∀ h∈L,eV w sizes h∧ ∀ r,leads h.aG r→B≤r)∧(∀ (i j:Nat) x y,L[i]? =some x→L[j]? =some y→i≠j→ ∀ r,leads x.aG r→¬leads y.aG r)∧ ∀ r,leadsTo v r→B≤r
theorem kT {h:eU} (ac:eV w sizes h) (Y:ad S w w') (aa:∀ r,S r→(∃ e c,ae w r e c∧e≠U∧e≠ak)∨w.heap.size≤r∨((∃ c,ae w r ak c)∧¬leads h.aG r)):eV w' sizes h:=by
 obtain⟨⟨af,h1⟩,⟨ag,ah⟩,ai,O⟩:=ac;have ab:∀ {g:Nat} {v:x1} {l:List Int},am .i64 U w g v l→am .i64 U w' g v l:=fun hm=>a6 hm Y fun r I V=>by
  rcases aa r V with⟨e,c,J,W,_⟩|aj|⟨⟨c,J⟩,_⟩
  ·exact bQ hm J (fun he=>W he.symm) I rfl
  ·obtain⟨al,an⟩:=bn hm I;omega
  ·exact bQ hm J (by decide) I rfl
 refine⟨⟨af,ab h1⟩,⟨ag,ab ah⟩,ai,a6 O Y fun r I V=>?_⟩;rcases aa r V with⟨e,c,J,_,W⟩|aj|⟨_,ao⟩
 ·exact bQ O J (fun he=>W he.symm) I rfl
 ·obtain⟨al,an⟩:=bn O I;omega
 ·exact ao I
theorem iI.ext {g:Nat} {L:List eU} (h:iI w B g v sizes L) (I:Ext w w'):iI w' B g v sizes L:=⟨h.1.ext I,fun x J=>⟨(h.2.1 x J).1.ext I,(h.2.1 x J).2⟩,h.2.2⟩
section
variable {α:Type} {f:α→List x1} {k:Nat} {P:X5} {w:x2} {e:r8} {g:Nat} {v:x1} {L:List α}
theorem I3 {M:List α} (h:a1 f k e w g v L) (I:L.map f=M.map f):a1 f k e w g v M:=by
 have J:L.length=M.length:=by have:=congrArg T9 I;simpa using this
 have hm:L.flatMap f=M.flatMap f:=by rw[List.flatMap_def,List.flatMap_def,I]
 refine⟨by rw[←J,←hm];exact h.1,fun a O=>?_⟩;obtain⟨b,U,he⟩:=j5.1 (show f a∈L.map f by rw[I];exact j5.2 ⟨a,O,rfl⟩);rw[←he];exact h.2 b U
theorem zZ {b l h':Nat} {low high:Option x1} (V:P.underlying t=some (.slice e)) (hi:aJ P e k b z) (h:a1 f k e w g v L) (h1:jP low l) (W:jQ high L.length h') (O:l≤h') (Y:h'≤L.length)
  (aa:∀ U,(∀ w',a1 f k e w' g v L→bS w' k U ((L.drop l).take (h'-l)).length (((L.drop l).take (h'-l)).flatMap f))→K U):I P (X6 t v low high none) w K:=by
 have ab:=h.sl;obtain⟨_,ad,o,base,cap,rfl,ae,_⟩:=ab;rw[gh V hi h1 W eM O (by omega) (o7 _)];refine aa _ fun w' J=>?_;have:=bS.part (l:=l) (h:=h') (m:=cap) J.sl O Y (by omega) (o7 _);rw[qt l J.2,og (h'-l) (fun a ac=>J.2 a (List.mem_of_mem_drop ac))] at this;have el:((L.drop l).take (h'-l)).length=h'-l:=by rw[o8,List.length_drop];omega
 rw[el];exact this
theorem tJ {aj:r8} {b:Nat} {M:List α} {K:x1→x2→Prop} (W:P.underlying t=some (.slice e)) (hi:aJ P e k b z) (ae:z.cells.size=k) (h:a1 f k e w g v L) (af:bS w k x M.length (M.flatMap f)) (ak:∀ a∈M,(f a).length=k) (h1:∀ a∈M,∀ u∈f a,u.oneCell'=true)
  (Y:(L.length+M.length)*b≤140737488355328) (ag:L.length+M.length≤9223372036854775807)
  (ah:∀ I J w',a1 f k e w' J I (L++M)→(∀ r,leadsTo I r→leadsTo v r∨w.heap.size≤r)→ad (fun r=>leadsTo v r) w w'→K I w'):ax P (l9 #[t,t] aj #[v,x]) w K:=by
 have ai:∀ u∈M.flatMap f,u.oneCell'=true:=fun u hu=>by
  obtain⟨a,al,hu⟩:=List.mem_flatMap.1 hu;exact h1 a al u hu
 have aa:∀ I J w',bG w' J e k I (L.length+M.length) (L.flatMap f++M.flatMap f)→a1 f k e w' J I (L++M):=fun I J w' hm=>⟨by simpa using hm,fun b Y=>by
  rcases n9.1 Y with h'|h'
  ·exact h.2 b h'
  ·exact ak b h'⟩
 rcases h.1.2 with⟨O,am⟩|⟨cap,cs,O,an,_⟩
 ·have hm:bG w w.heap.size e k v L.length (L.flatMap f):=⟨h.1.1,.inl ⟨O,am⟩⟩;subst O;refine lk W W hi ae hm af ai (by simpa using Y) (by simpa[maxLen] using ag) fun I J w' ab U ac=>ah I J w' (aa _ _ _ U) (fun r V=>.inr ?_) (ac.mono fun r V h=>by omega);have:=((aa _ _ _ U).leads V).1;omega
 ·refine lk W W hi ae h.1 af ai (by simpa using Y) (by simpa[maxLen] using ag) fun I J w' ab U ac=>ah I J w' (aa _ _ _ U) (fun r V=>?_) (ac.mono fun r V h=>⟨_,_,_,O,h.symm⟩);have:=((aa _ _ _ U).leads V).1;rcases ab with ab|ab
  ·exact .inl ⟨_,_,_,O,by show g=r;omega⟩
  ·exact .inr (by omega)
theorem I4 {b:Nat} {K:x1→x2→Prop} (I:P.underlying t=some (.slice e)) (hi:aJ P e k b z)
  (J:∀ v g w',g=w.heap.size→Ext w w'→a1 f k e w' g v []→K v w'):ax P (Z4 t 0 #[]) w K:=
 il I hi (by omega) (cs:=#[]) (by simp[Instr.fill]) fun g w' O U V=>by
  exact J _ g w' O U ⟨by simpa using bG.full (k:=k) (n:=0) V (by simp) (by simp[maxLen]),fun c W=>by cases W⟩
end
theorem q2 {α:Type} {A B:List α} {s:Nat} {a:α} (J:s<B.length) (I:A[s]? =some a):(A.take s++B.drop s).set s a=A.take (s+1)++B.drop (s+1):=by
 have O:=(x4.1 I).1;have h1:(A.take s).length=s:=by rw[o8];omega
 rw[V8 _ _ (by omega),h1,V2,W0 J,List.set_cons_zero,u9,I,Z0,V7];rfl
theorem z1 {α:Type} {A B:List α} {s:Nat} (I:s≤A.length):(A.take s++B.drop s)[s]? =B[s]?:=by
 have h1:(A.take s).length=s:=by rw[o8];omega
 rw[Z8 (by omega),h1,V2,List.getElem?_drop,Nat.add_zero]
theorem z6 {g:ca}:∀ {l:List ca} {i:Nat},(∀ p<i,∀ x,l[p]? =some x→cG x.1<cG g.1)→i≤l.length→(∀ x,l[i]? =some x→¬cG x.1<cG g.1)→fV g l=l.take i++g::l.drop i
 |[],i,_,I,_=>by
  have:i=0:=by simpa using I
  subst this;rfl
 |x::l,0,_,_,J=>by
  unfold fV;rw[if_neg (J x rfl)];rfl
 |x::l,i+1,h1,I,J=>by
  unfold fV;rw[if_pos (h1 0 (by omega) x rfl),z6 (i:=i) (fun p U y O=>h1 (p+1) (by omega) y O) (by simpa using I) (fun y O=>J y O)];rfl
theorem I5 {g:Nat} {L:List eU} {h:eU} {s:Nat} {K:Unit→x2→Prop} (J:iI w B g v sizes L) (ac:L[j]? =some h) (W:s<h.cs.length)
  (aw:∀ w',ad (fun r=>leads h.aG r) w w'→(∀ r,leads h.aG r→ ∃ c,ae w r ak c)→iI w' B g v sizes (L.set j {h with cs:=h.cs.set s n})→K () w'):
  I x3 (o6 au h.aG (.int .i64 (s:Int))) w fun t=>ax x3 (o3 ak t (.int .i64 n)) w K:=by
 obtain⟨h1,al,am,ay⟩:=J;have ai:=(x4.1 ac).1;obtain⟨an,az⟩:=al h (x5 ac);obtain⟨_,_,ao,af⟩:=id an;have ag:∀ r,leads h.aG r→ ∃ c,ae w r ak c:=fun r J=>by
  obtain⟨rfl,_⟩:=bn af J;obtain⟨_,⟨aA,_⟩|⟨cap,full,_,Y,_⟩⟩:=af
  ·obtain⟨a,n,c,e,_⟩:=J;rw[aA] at e;cases e
  ·exact⟨_,Y⟩
 have aB:∀ r,r=ao→leads h.aG r:=fun r he=>by
  subst he;obtain⟨_,⟨_,aR⟩|⟨cap,full,e,Y,_⟩⟩:=af
  ·omega
  ·exact⟨_,_,_,e,rfl⟩
 rw[fS rfl au.u ak.i af W];refine fT ak.i af W fun w' aa aS aC=>?_;have aa:=aa.mono (T:=fun r=>leads h.aG r) fun r _ he=>aB r he;refine aw w' aa ag ⟨?_,fun x V=>?_,fun p q x y V aD aE r aF aH=>?_,ay⟩
 ·refine I3 (h1.O aa fun r J W=>?_) ?_
  ·obtain⟨c,Y⟩:=ag r W;exact cb h1 Y (by decide) J
  ·rw[U3];symm;refine Y8 fun p=>?_;rw[Y5,x8];by_cases U:j=p
   ·subst U;rw[if_pos rfl,if_pos (by simpa using ai),ac];rfl
   ·rw[if_neg U]
 ·have aI:x={h with cs:=h.cs.set s n}∨ ∃ p,p≠j∧L[p]? =some x:=by
   obtain⟨p,U⟩:=Y2.1 V;rw[Y5] at U;by_cases ab:j=p
   ·subst ab;rw[if_pos rfl,if_pos ai] at U;exact .inl (b9 U).symm
   ·rw[if_neg ab] at U;exact .inr ⟨p,fun h=>ab h.symm,U⟩
  rcases aI with rfl|⟨p,aJ,U⟩
  ·obtain⟨⟨aK,ap⟩,⟨aL,aq⟩,_⟩:=an;refine⟨⟨⟨aK,a6 ap aa fun r J W=>?_⟩,⟨aL,a6 aq aa fun r J W=>?_⟩,ao,aC⟩,az⟩
   ·obtain⟨c,Y⟩:=ag r W;exact bQ ap Y (by decide) J rfl
   ·obtain⟨c,Y⟩:=ag r W;exact bQ aq Y (by decide) J rfl
  ·obtain⟨aM,aN⟩:=al x (x5 U);refine⟨kT aM aa fun r J=>.inr (.inr ⟨ag r J,fun aj=>am p j x h U ac aJ r aj J⟩),aN⟩
 ·have av:∀ {p:Nat} {x:eU},(L.set j {h with cs:=h.cs.set s n})[p]? =some x→ ∃ ah,L[p]? =some ah∧ah.aG=x.aG:=fun {p x} V=>by
   rw[Y5] at V;by_cases ab:j=p
   ·subst ab;rw[if_pos rfl,if_pos ai] at V;cases V;exact⟨h,ac,rfl⟩
   ·rw[if_neg ab] at V;exact⟨x,V,rfl⟩
  obtain⟨ah,aj,ex⟩:=av V;obtain⟨aO,aP,aQ⟩:=av aD;exact am p q ah aO aj aP aE r (by rw[ex];exact aF) (by rw[aQ];exact aH)
def jt (f:bP) (j:Nat):List ca:=(((eB f).take j).filter eO).foldl (fun l g=>fV g l) []
theorem z7 {f:bP} {x:ca} (h:(eB f)[j]? =some x):jt f (j+1)=if eO x then fV x (jt f j) else jt f j:=by
 unfold jt;rw[u9,h,Z0,List.filter_append,List.foldl_append];cases I:eO x with
 |true=>rw[List.filter_cons_of_pos I];rfl
 |false=>rw[List.filter_cons_of_neg (by simp[I])];rfl
theorem I6 (f:bP):jt f (eB f).length=eP f:=by unfold jt eP;rw[o9]
theorem z8 (g:ca):∀ l,(fV g l).length=l.length+1
 |[]=>rfl
 |h::l=>by
  unfold fV;split
  ·rw[j4,z8 g l,j4]
  ·rfl
theorem I7 {f:bP} (J:j≤(eB f).length):(jt f j).length≤j:=by
 induction j with
 |zero=>simp[jt]
 |succ j I=>
  have:=I (by omega);rw[z7 (x:=(eB f)[j]) (y0 (by omega))];split
  ·rw[z8];omega
  ·omega
set_option maxHeartbeats 4000000 in
theorem I8 {g:Nat} {l:x1} {f:bP} {L:List eU} {Q:x1→x2→Prop} (aY:eo N f) (ac:iI w B g l f.sizes L) (a2:L.map cW=eB f)
  (b9:∀ out w' go Y,Ext w w'→a1 cO 3 aT w' go out Y→(∀ h∈Y,h∈L)→(∀ h∈Y,eV w' f.sizes h)→Y.map cW=eP f→(∀ r,leadsTo out r→w.heap.size≤r)→Q out w'):
  I x3 (Z5 #[cq] U #[l]) w fun ca=>
 bt (.slice none 0 0) (.int .i64 0) w fun out a6 ap cb=>
  I x3 (av .lss U false false a6 ca) ap fun cc=>
  Split cc (be (α:=x1→x2→Prop) (fun(cd:x1) (aq:x2)=>
   I x3 (av .add U false true a6 (.int .i64 1)) aq fun ce=>
   cb cd ce aq) fun bG=>
  I x3 (o6 cq l a6) ap fun cg=>
  I x3 (x6 aT cg) ap fun ch=>
  ax x3 (T7 aT true (.tuple #[])) ap fun aO bH=>
  ax x3 (o3 aT aO ch) bH fun(_:Unit) al=>
  I x3 (x7 aT aO 2) al fun ci=>
  I x3 (x6 au ci) al fun bI=>
  I x3 (Z5 #[au] U #[bI]) al fun ck=>
  bt (.bool false) (.int .i64 0) al fun bK a7 ad cl=>
   I x3 (av .lss U false false a7 ck) ad fun cm=>
   Split cm (be (α:=x1→x2→Prop) (fun(cn:x1) (aB:x2)=>
    I x3 (av .add U false true a7 (.int .i64 1)) aB fun cp=>
    cl cn cp aB) fun bL=>
   I x3 (o6 au bI a7) ad fun cr=>
   I x3 (x6 ak cr) ad fun ct=>
   Split bK (bL (.bool true) ad)
    (I x3 (av .gtr ak false true ct (.int .i64 0)) ad fun cu=>
   bL cu ad))
    (I x3 (Op.unary .not bK) ad fun cw=>
  Split cw (bG out ad)
   (bJ (.int .i64 0) ad fun i aQ cz=>
   be (α:=x1→x2→Prop) (fun(cA:x1) (aw:x2)=>
    Split cA (I x3 (av .add U false true i (.int .i64 1)) aw fun cB=>
   cz cB aw)
     (cj aw fun ag=>
  I x3 (x6 aT aO) ag fun cC=>
  I x3 (X6 cq out (some i) none none) ag fun bM=>
  ax x3 (Z4 cq 1 #[(0,cC)]) ag fun cD aC=>
   (Ext ag aC∨bb x3 (X6 cq out (some i) none none) bM aC∧True)∧
  ax x3 (l9 #[cq,cq] cq #[cD,bM]) aC fun cE a8=>
   ax x3 (Z4 cq 0 #[]) a8 fun cF aR=>
  I x3 (X6 cq out none (some i) none) aR fun cH=>
  ax x3 (l9 #[cq,cq] cq #[cF,cH]) aR fun cI ba=>
  ax x3 (l9 #[cq,cq] cq #[cI,cE]) ba fun cJ bd=>
  bG cJ bd)) fun bO=>
   cj aQ fun ah=>
   I x3 (Z5 #[cq] U #[out]) ah fun cK=>
   I x3 (av .lss U false false i cK) ah fun cL=>
   Split cL (I x3 (o6 cq out i) ah fun cM=>
   I x3 (x6 aT cM) ah fun cN=>
   I x3 (x6 aT aO) ah fun cP=>
   af x3 v7 [cN,cP] ah fun cQ bQ=>
    bO cQ bQ)
    (bO (.bool false) ah))))
   (Q out ap):=by
 have cR:L.length=(eB f).length:=by rw[←a2,u5]
 have dy:L.length≤256:=by have:=(jk aY).2.2;have:=aY.jd;omega
 have bR:=(jk aY).1;rw[ef cq.u ac.1];refine bt.range L.length (fun j out J=>∃ go Y,Ext w J∧a1 cO 3 aT J go out Y∧(∀ h∈Y,h∈L)∧Y.map cW=jt f j∧ ∀ r,leadsTo out r→w.heap.size≤r) ac.1.le
  ⟨0,[],Ext.refl _,a1.nil _ _ _ _ _,fun h ai=>(by cases ai),rfl,fun r ac=>(eC ac).elim⟩ ?_ ?_
 rotate_left
 ·rintro out J cS ⟨go,Y,bS,aD,am,aE,bf⟩;rw[an,ab];refine⟨fun h=>by omega,fun _=>b9 _ _ go Y bS aD am (fun h ai=>((ac.ext bS).2.1 h (am h ai)).1) ?_ bf⟩;rw[aE,cR,I6]
 rintro j out ap cS bT ⟨go,Y,aS,aD,am,aE,bf⟩ cU;obtain⟨h,ai⟩:∃ h,L[j]? =some h:=⟨_,y0 bT⟩;have hm:(eB f)[j]? =some (cW h):=by rw[←a2,x8,ai];rfl
 have cV:=bR _ (x5 hm);have dz:Y.length≤256:=by
  have:=I7 (f:=f) (j:=j) (by omega);rw[←aE,u5] at this;omega
 have aF:=ac.ext aS;obtain⟨bg,_⟩:=aF.2.1 h (x5 ai);obtain⟨_,_,dA,cX⟩:=id bg;rw[an,ab];refine⟨fun _=>?_,fun h=>by omega⟩;refine aM (fun bh aq=>∃ bi aH,Ext w aq∧a1 cO 3 aT aq bi bh aH∧(∀ h∈aH,h∈L)∧aH.map cW=jt f (j+1)∧ ∀ r,leadsTo bh r→w.heap.size≤r) ?_ ?_
 ·rintro bh aq ⟨bi,aH,h1,cY,cZ,c0,c1⟩;rw[aI];exact cU _ _ ⟨bi,aH,h1,cY,cZ,c0,c1⟩
 intro c2 aJ;rw[cT rfl cq.u aT.i aF.1 bT,bw aT.p aT.i rfl (aF.1.range ai)];refine bu aT.i fun bj bH dC c3 c4=>?_;refine bN (vs:=cO h) aT.i rfl rfl bg.one c4 fun al c5 dD bU=>?_;have bV:Ext ap al:=c3.then c5 fun r ac he=>by have he:r=bj:=he;omega
 have bk:=cX.ext bV;rw[V aT.p rfl,aa (v:=h.aG) (by kernel_rfl) (bU.cell (o:=0+2) rfl),aL au.u bk.ls];refine bt.range h.cs.length (fun q sv ad=>Ext al ad∧sv= .bool ((h.cs.take q).any fun c=>decide (0<c))) bk.ls.le ⟨Ext.refl _,rfl⟩ ?_ ?_
 ·rintro q _ ad c6 c7 ⟨ay,rfl⟩ c8;obtain⟨c,bW⟩:∃ c,h.cs[q]? =some c:=⟨_,y0 c7⟩;have e:(h.cs.take (q+1)).any (fun c=>decide (0<c))=((h.cs.take q).any (fun c=>decide (0<c))||decide (0<c)):=by
   rw[u9,bW,Z0,List.any_append];simp
  rw[an,ab];refine⟨fun _=>?_,fun h=>by omega⟩;refine aM (fun sv aB=>Ext al aB∧sv= .bool ((h.cs.take (q+1)).any fun c=>decide (0<c))) ?_ ?_
  ·rintro _ aB ⟨c9,rfl⟩;rw[aI];exact c8 _ _ ⟨c9,rfl⟩
  intro c2 aJ;rw[aZ au.u ak.i (by kernel_rfl) (bk.ext ay).ls bW,br];refine⟨fun da=>aJ _ _ ⟨ay,by rw[e,da];rfl⟩,fun db=>?_⟩;rw[bA];exact aJ _ _ ⟨ay,by rw[e,db];rfl⟩
 rintro _ ad c6 ⟨ay,rfl⟩;have bX:=bU.ext ay;have ao:=bV.trans ay;rw[o9,an,ab];refine⟨fun h=>by omega,fun _=>?_⟩;rw[bc,br];have aU:=z7 hm;have dc:(h.cs.any fun c=>decide (0<c))=eO (cW h):=rfl;rw[dc];refine⟨fun bl=>?_,fun aK=>?_⟩
 ·have bl:eO (cW h)=false:=by simpa using bl
  rw[bl] at aU;exact aJ _ _ ⟨go,Y,aS.trans ao,aD.ext ao,am,by rw[aE,aU];rfl,bf⟩
 have aK:eO (cW h)=true:=by simpa using aK
 rw[aK,if_pos rfl] at aU;refine⟨fun bm aQ=>∃ i:Nat,bm= .int .i64 (i:Int)∧i≤Y.length∧Ext ad aQ∧ ∀ p<i,∀ x,Y[p]? =some x→cG x.sc<cG h.sc,fun bm _=>Y.length-(bB bm).toNat,⟨0,rfl,Y7 _,Ext.refl _,fun p bn=>by omega⟩,?_⟩;rintro _ aQ ⟨i,rfl,hi,dd,bo⟩;refine aM (fun aA aw=>Ext ad aw∧((aA= .bool true∧i<Y.length∧ ∀ x,Y[i]? =some x→cG x.sc<cG h.sc)∨(aA= .bool false∧ ∀ x,Y[i]? =some x→¬cG x.sc<cG h.sc))) ?_ ?_
 rotate_left
 ·intro dE bp;intro ah de _ _;have az:=dd.trans de;have bq:=aD.ext (ao.trans az);rw[ef cq.u bq,an,ab];refine⟨fun bo=>?_,fun dF=>bp _ _ ⟨az,.inr ⟨rfl,fun x W=>absurd (x4.1 W).1 (by omega)⟩⟩⟩;obtain⟨x,W⟩:∃ x,Y[i]? =some x:=⟨_,y0 (by omega)⟩;have bY:=am x (x5 W);have df:hK x.sc:=(bR (cW x) (by rw[←a2];exact j5.2 ⟨x,bY,rfl⟩)).scope;have bZ:=aF.ext (ao.trans az);rw[cT rfl cq.u aT.i bq (by omega),bw aT.p aT.i rfl (bq.range W),bw aT.p aT.i rfl (show ah.rangeAt bj 0 (cO h) from (bX.ext az).range)];refine (I2 (bZ.2.1 x bY).1 (bZ.2.1 h (x5 ai)).1 df cV.scope).mono ?_;rintro _ bQ _ ⟨rfl,b0⟩;by_cases aV:cG x.sc<cG h.sc
  ·rw[decide_eq_true aV];exact bp _ _ ⟨az.trans b0,.inl ⟨rfl,by omega,fun y ae=>by rw[W] at ae;cases ae;exact aV⟩⟩
  ·rw[decide_eq_false aV];exact bp _ _ ⟨az.trans b0,.inr ⟨rfl,fun y ae=>by rw[W] at ae;cases ae;exact aV⟩⟩
 rintro _ aw ⟨b1,⟨rfl,dG,dg⟩|⟨rfl,dh⟩⟩
 ·rw[bC,aI,wrap_i64 (by omega) (by omega)];refine⟨⟨i+1,rfl,by omega,b1,fun p bn x W=>?_⟩,by simp only[bB];omega⟩;by_cases di:p=i
  ·subst di;exact dg x W
  ·exact bo p (by omega) x W
 ·rw[aP];intro ag dj _ _;have aN:=b1.trans dj;have aW:=aD.ext (ao.trans aN);have dk:=aF.ext (ao.trans aN);have bx:∀ x∈Y,∀ u∈cO x,u.oneCell'=true:=fun x W=>(dk.2.1 x (am x W)).1.one;have dl:∀ u∈cO h,u.oneCell'=true:=bg.one;rw[bw aT.p aT.i rfl (show ag.rangeAt bj 0 (cO h) from (bX.ext aN).range)];refine zZ (h':=Y.length) cq.u aT.i aW (lg i _ rfl) hT hi (o7 _) fun dH b2=>?_;refine gp (f:=cO) (k:=3) (a:=h) cq.u aT.i (by omega) rfl rfl fun dI dJ aC dK bz b3=>?_;refine⟨.inl bz,?_⟩;have dm:(Y.drop i).take (Y.length-i)=Y.drop i:=l5 (by rw[List.length_drop];omega);rw[dm] at b2;refine tJ (M:=Y.drop i) cq.u aT.i rfl b3 (b2 aC (aW.ext bz)) (fun _ _=>rfl) (fun a aj=>bx a (List.mem_of_mem_drop aj)) (by simp;omega) (by simp;omega) fun dL dM a8 bD dN dn=>?_;have b4:Ext ag a8:=bz.then dn fun r ac he=>by have:=(b3.leads he).1;omega
  refine I4 (f:=cO) (k:=3) cq.u aT.i fun dO dP aR dQ bE aX=>?_;have bF:=b4.trans bE;refine zZ (h':=i) cq.u aT.i (aW.ext bF) hS (lh i _ rfl) (Y7 _) hi fun dR b5=>?_;rw[List.drop_zero,Nat.sub_zero] at b5;refine tJ (M:=Y.take i) cq.u aT.i rfl aX (b5 aR (aW.ext bF)) (fun _ _=>rfl) (fun a aj=>bx a (List.mem_of_mem_take aj)) (by simp;omega) (by simp;omega) fun dp dS ba dq dr b6=>?_;have dT:=b4.size;have dU:=bE.size;have ds:=(bD.ext bE).O b6 fun r ac aK=>by have:=(bD.leads ac).1;have:=(bD.leads ac).2;have:=(aX.leads aK).1;omega
  refine tJ (M:=[h]++Y.drop i) cq.u aT.i rfl dq ds.sl (fun _ _=>rfl) (fun a aj=>?_) (by simp;omega) (by simp;omega) fun dV dt bd du dv dw=>?_
  ·rcases n9.1 aj with aj|aj
   ·rw[j0.1 aj];exact dl
   ·exact bx a (List.mem_of_mem_drop aj)
  have b7:Ext ag ba:=bF.then b6 fun r ac he=>by have:=(aX.leads he).1;omega
  have b8:∀ r,leadsTo dp r→ag.heap.size≤r:=fun r ac=>(dr r ac).elim (fun h=>by have:=(aX.leads h).1;omega) fun h=>by omega
  have dx:Ext ag bd:=b7.then dw fun r ac he=>by have:=b8 r he;omega
  have dW:=(aS.trans (ao.trans aN)).size;have dX:=b7.size;refine aJ _ _ ⟨dt,_,(aS.trans (ao.trans aN)).trans dx,du,fun x W=>?_,?_,fun r ac=>(dv r ac).elim (fun h=>by have:=b8 r h;omega) fun h=>by omega⟩
  ·rcases n9.1 W with W|W
   ·exact am x (List.mem_of_mem_take (by simpa using W))
   ·rcases n9.1 W with W|W
    ·rw[j0.1 W];exact x5 ai
    ·exact am x (List.mem_of_mem_drop W)
  ·rw[aU,←aE,z6 (i:=i) (fun p bn x W=>?_) (by simpa using hi) (fun x W=>?_)]
   ·simp
   ·rw[x8] at W;cases ae:Y[p]? with
    |none=>rw[ae] at W;cases W
    |some y=>rw[ae] at W;cases W;exact bo p bn y ae
   ·rw[x8] at W;cases ae:Y[i]? with
    |none=>rw[ae] at W;cases W
    |some y=>rw[ae] at W;cases W;exact dh y ae
def I9 (w:x2) (f:bP) (v:x1) (w':x2):Prop:=Ext w w'∧ ∃ go I,a1 cO 3 aT w' go v I∧(∀ h∈I,eV w' f.sizes h∧ ∀ r,leads h.aG r→w.heap.size≤r)∧I.map cW=eP f∧ ∀ r,leadsTo v r→w.heap.size≤r
def ju (k:Int) (sc cs:List Int) (h:ca):ca:=if h.1=sc then (h.1,dl k h.2 cs) else h
set_option maxHeartbeats 8000000 in
theorem Ja {bZ:Nat} {f:bP} (cQ:lR w bZ f) (ao:eo N f):af x3 Cu [.pointer (some ⟨bZ,0,none⟩)] w (I9 w f):=by
 have dU:=ao.k;obtain⟨aq,dV,aS,dW,bj,b0,cR⟩:=id cQ;obtain⟨X,bk,cS,cU⟩:=id cR;refine az func165 ?_;rw[aw,V c5.p rfl,aa (by kernel_rfl) (bj.cell (o:=0+3) rfl),ef cZ.u bk];refine bt.range X.length (fun i l J=>∃ g L,Ext w J∧iI J w.heap.size g l f.sizes L∧L.map cW=dR f i) bk.le
  ⟨0,[],Ext.refl _,⟨a1.nil _ _ _ _ _,fun h ad=>(by cases ad),fun i j x y bl=>(by simp at bl),fun r I=>(eC I).elim⟩,rfl⟩ ?_ ?_
 rotate_left
 ·rintro l J cV ⟨g,L,ap,I,av⟩;rw[←cS,zq] at av;rw[an,ab];refine⟨fun h=>by omega,fun _=>I8 ao I av fun out w' go cX bl bm cY ax c0 c1=>?_⟩;have c2:=ap.size;exact⟨ap.trans bl,go,cX,bm,fun h ad=>⟨ax h ad,(I.2.1 h (cY h ad)).2⟩,c0,fun r I=>by have:=c1 r I;omega⟩
 rintro i l J cV hi ⟨g,L,ap,I,av⟩ c3;obtain⟨bo,b1⟩:∃ d,X[i]? =some d:=⟨_,y0 hi⟩;obtain⟨x,bp⟩:∃ x,f.funs[i]? =some x:=⟨_,y0 (by omega)⟩;have bq:=x5 bp;have bx:=cU i bo x b1 bp;have b2:=mW ao bq;obtain⟨c4,dX,dY⟩:=zp ao i;have b3:L.length=(dR f i).length:=by rw[←av,u5]
 have ea:=ao.jd;have b4:=bk.ext ap;rw[an,ab];refine⟨fun _=>?_,fun h=>by omega⟩;refine aM (fun l' bz=>∃ g L,Ext w bz∧iI bz w.heap.size g l' f.sizes L∧L.map cW=dR f (i+1)) ?_ ?_
 ·rintro l' bz bA;rw[aI];exact c3 _ _ bA
 intro eb b5;rw[cT rfl cZ.u aR.i b4 hi,bw aR.p aR.i rfl (b4.range b1)];refine bu aR.i fun al ec ed c6 c7=>?_;refine bN (vs:=dZ bo) aR.i rfl rfl bx.one c7 fun c8 da ee db=>?_;have b7:Ext J c8:=c6.then da fun r I he=>by have he:r=al:=he;omega
 have eg:=b7.size;refine aM (fun dc aU=>∃ Y c,dc= .pointer (some ⟨Y,0,none⟩)∧Ext J aU∧ae aU Y aT (cO c)∧c.sc=a7 x.scope∧c.cs=(gm f.sizes f.k x).2∧eV aU f.sizes c∧J.heap.size≤Y∧ ∀ r,leads c.aG r→J.heap.size≤r) ?_ ?_
 rotate_left
 ·intro eh b8;intro dd ca _ _;have aV:=b7.trans ca;have aW:=ap.trans aV;have de:=db.ext ca;have cb:=bj.ext aW;have ej:=aV.size;rw[bw aR.p aR.i rfl (show dd.rangeAt al 0 (dZ bo) from de.range),aw,V c5.p rfl,aa (v:=aq) (by kernel_rfl) (cb.cell (o:=0+2) rfl),aw,V c5.p rfl,aa (v:=.int .i64 f.k) (by kernel_rfl) (cb.cell (o:=0+1) rfl)];refine⟨?_,?_⟩
  ·refine (zX (bx.ext aW) ao bq (b0.ext aW)).mono ?_;rintro _ ek _ ⟨bB,c,rfl,h1,bC,ax,ai⟩;refine bu aT.i fun Y em cc bD aX=>?_;refine⟨.inl (bB.trans bD),?_⟩;refine bN (vs:=cO c) aT.i rfl rfl ax.one aX fun en cd ep df=>?_;have er:=bB.size;refine b8 _ _ ⟨Y,c,rfl,(aV.trans bB).trans (bD.then cd fun r I he=>by have he:r=Y:=he;omega),df,h1,bC,?_,by omega,fun r I=>by have:=ai r I;omega⟩;exact kT (ax.ext bD) cd fun r I=>.inl ⟨_,_,by have I:r=Y:=I;subst I;exact aX,by decide,by decide⟩
  ·refine bu aT.i fun Y es cc aY aX=>?_;refine⟨.inl aY,?_⟩;have ce:=aW.trans aY;refine (zX (bx.ext ce) ao bq (b0.ext ce)).mono ?_;rintro _ et _ ⟨cg,c,rfl,h1,bC,ax,ai⟩;have ch:=aX.ext cg;have eu:=aY.size;refine bN (vs:=cO c) aT.i rfl rfl ax.one ch fun ev ci ew dg=>?_;refine b8 _ _ ⟨Y,c,rfl,aV.trans ((aY.trans cg).then ci fun r I he=>by have he:r=Y:=he;omega),dg,h1,bC,?_,by omega,fun r I=>by have:=ai r I;omega⟩;exact kT ax ci fun r I=>.inl ⟨_,_,by have I:r=Y:=I;subst I;exact ch,by decide,by decide⟩
 rintro _ aU ⟨Y,c,rfl,bE,dh,aJ,a2,di,cc,ai⟩;have cj:=I.ext bE;have dj:∀ h∈L,∀ r,leads h.aG r→r<J.heap.size:=fun h ad r dk=>by
  obtain⟨⟨_,_,dm,ck⟩,_⟩:=I.2.1 h ad;have:=bn ck dk;omega
 have dn:∀ {j:Nat},decide (c.sc∈(L.take j).map (·.sc))=decide (a7 x.scope∈((dR f i).take j).map (·.1)):=fun {j}=>by
  rw[aJ,←av,←List.map_take,List.map_map];rfl
 have c2:=ap.size;rw[ef cq.u cj.1];refine bt.range L.length (fun j aS aj=>∃ W,aS= .bool (decide (c.sc∈(L.take j).map (·.sc)))∧Ext w aj∧J.heap.size≤aj.heap.size∧iI aj w.heap.size g l f.sizes W∧W.map cW=((dR f i).map (ju f.k c.sc c.cs)).take j++(dR f i).drop j∧ae aj Y aT (cO c)∧eV aj f.sizes c∧ ∀ h∈W,∀ r,leads h.aG r→r<J.heap.size) I.1.le
  ⟨L,by simp,ap.trans bE,bE.size,cj,by simpa using av,dh,di,dj⟩ ?_ ?_
 ·rintro j _ aj dp cl ⟨W,rfl,aK,dq,a6,ah,bF,bG,aA⟩ dr;have ds:W.length=L.length:=by
   have:=congrArg T9 ah;simp only[u5,o5,o8,List.length_drop] at this;omega
  obtain⟨h,ad⟩:∃ h,W[j]? =some h:=⟨_,y0 (by omega)⟩;have a8:(dR f i)[j]? =some (cW h):=by
   have cm:(W.map cW)[j]? =some (cW h):=by rw[x8,ad];rfl
   rw[ah,z1 (by rw[u5];omega)] at cm;exact cm
  have ba:((dR f i).map (ju f.k c.sc c.cs))[j]? =some (ju f.k c.sc c.cs (cW h)):=by rw[x8,a8];rfl
  have dt:∃ y,L[j]? =some y∧y.sc=h.sc:=by
   refine⟨_,y0 cl,?_⟩;rw[←av,x8,y0 cl] at a8;exact congrArg Prod.fst (b9 a8)
  obtain⟨y,ag,du⟩:=dt;have bH:(c.sc∈(L.take (j+1)).map (·.sc))↔c.sc∈(L.take j).map (·.sc)∨h.sc=c.sc:=by
   rw[u9,ag,Z0,b6,n9,List.map_singleton,j0,du];exact or_congr Iff.rfl ⟨fun e=>e.symm,fun e=>e.symm⟩
  have cn:eE f.sizes f.k (cW h):=c4 _ (x5 a8);rw[an,ab];refine⟨fun _=>?_,fun h=>by omega⟩;refine aM (fun aS am=>∃ W,aS= .bool (decide (c.sc∈(L.take (j+1)).map (·.sc)))∧Ext w am∧J.heap.size≤am.heap.size∧iI am w.heap.size g l f.sizes W∧W.map cW=((dR f i).map (ju f.k c.sc c.cs)).take (j+1)++(dR f i).drop (j+1)∧ae am Y aT (cO c)∧eV am f.sizes c∧ ∀ h∈W,∀ r,leads h.aG r→r<J.heap.size) ?_ ?_
  ·rintro ey am bA;rw[aI];exact dr _ _ bA
  intro ez cp;intro dv aN _ _;have bb:=a6.ext aN;have cr:=bF.ext aN;have ct:=bG.ext aN;obtain⟨dw,eA⟩:=bb.2.1 h (x5 ad);obtain⟨⟨eB,h1⟩,_,dm,ck⟩:=id dw;obtain⟨⟨eD,dx⟩,_,eF,cu⟩:=id ct;rw[cT rfl cq.u aT.i bb.1 (by omega),V aT.p rfl,aa (v:=h.ay) (by kernel_rfl) (bb.1.range ad 0 _ rfl),V aT.p rfl,aa (v:=c.ay) (by kernel_rfl) (cr.cell (o:=0+0) rfl)];refine (xb h1.ls dx.ls).mono ?_;rintro _ eH _ ⟨rfl,aD⟩;have cw:=bb.ext aD;have bI:=cr.ext aD;have cz:=ct.ext aD;have cA:=(aK.trans aN).trans aD;have z9:=(aN.trans aD).size;rw[ab];refine⟨fun bK=>?_,fun cB=>?_⟩
  rotate_left
  ·refine cp _ _ ⟨W,?_,cA,by omega,cw,?_,bI,cz,aA⟩
   ·congr 1;exact decide_eq_decide.2 ⟨fun h=>bH.2 (.inl h),fun h=>(bH.1 h).resolve_right cB⟩
   ·have e:ju f.k c.sc c.cs (cW h)=cW h:=if_neg cB;rw[e] at ba;rw[←q2 (by omega) ba,←ah];symm;refine Y8 fun p=>?_;rw[Y5];by_cases aO:j=p
    ·subst aO;rw[if_pos rfl,if_pos (by simp;omega),x8,ad];rfl
    ·rw[if_neg aO]
  have dy:h.cs.length=c.cs.length:=by
   have dz:h.cs.length=_:=cn.len;have dA:c.cs.length=(aE (bd f.sizes (gm f.sizes f.k x).1)).toNat:=by rw[a2];exact b2.len
   rw[dz,dA,show (cW h).1=h.sc from rfl,bK,aJ];rfl
  have eI:(dl f.k h.cs c.cs).length=h.cs.length:=by unfold dl;rw[List.length_zipWith];omega
  rw[V aT.p rfl,aa (v:=c.aG) (by kernel_rfl) (bI.cell (o:=0+2) rfl),aL au.u (cu.ext aD).ls];refine bJ.range c.cs.length (fun s aB=>Ext w aB∧J.heap.size≤aB.heap.size∧iI aB w.heap.size g l f.sizes (W.set j {h with cs:=(dl f.k h.cs c.cs).take s++h.cs.drop s})∧ae aB Y aT (cO c)∧eV aB f.sizes c) cu.ls.le
   ⟨cA,by omega,?_,bI,cz⟩ ?_ ?_
  ·have e:W.set j {h with cs:=(dl f.k h.cs c.cs).take 0++h.cs.drop 0}=W:=by
    refine Y8 fun p=>?_;rw[Y5];by_cases aO:j=p
    ·subst aO;rw[if_pos rfl,if_pos (by omega),ad];rfl
    ·rw[if_neg aO]
   rw[e];exact cw
  ·rintro s aB dC bL ⟨bM,cC,be,bO,bQ⟩ dD;rw[an,ab];refine⟨fun _=>?_,fun h=>by omega⟩;intro eJ aP _ _;have aF:=be.ext aP;have cD:=bO.ext aP;have cE:=bQ.ext aP;have cF:=bM.trans aP;have bf:(W.set j {h with cs:=(dl f.k h.cs c.cs).take s++h.cs.drop s})[j]? =some {h with cs:=(dl f.k h.cs c.cs).take s++h.cs.drop s}:=by
    rw[Y5,if_pos rfl,if_pos (by omega)]
   have cG:j<(W.set j {h with cs:=(dl f.k h.cs c.cs).take s++h.cs.drop s}).length:=by rw[Y6];omega
   obtain⟨⟨_,_,dE,bR⟩,dF⟩:=aF.2.1 _ (x5 bf);obtain⟨_,_,eK,dG⟩:=id cE;obtain⟨a,bS⟩:∃ a,h.cs[s]? =some a:=⟨_,y0 (by omega)⟩;obtain⟨b,aQ⟩:∃ b,c.cs[s]? =some b:=⟨_,y0 bL⟩;have dH:s<({h with cs:=(dl f.k h.cs c.cs).take s++h.cs.drop s}:eU).cs.length:=by show s<((dl f.k h.cs c.cs).take s++h.cs.drop s).length;rw[o5,o8,List.length_drop];omega
   have dI:((dl f.k h.cs c.cs).take s++h.cs.drop s)[s]? =some a:=by rw[z1 (by omega)];exact bS
   have bT:(dl f.k h.cs c.cs)[s]? =some (min (a+b) f.k):=by
    unfold dl;rw[List.getElem?_zipWith,bS,aQ]
   have eL:=cn.hl a (x5 bS);have eM:=b2.hl b (by rw[←a2];exact x5 aQ);have dJ:=bj.ext cF;rw[cT rfl cq.u aT.i aF.1 cG,V aT.p rfl,aa (v:=h.aG) (by kernel_rfl) (aF.1.range bf 2 _ rfl),cT rfl cq.u aT.i aF.1 cG,V aT.p rfl,aa (v:=h.aG) (by kernel_rfl) (aF.1.range bf 2 _ rfl),aZ au.u ak.i (by kernel_rfl) bR.ls dI,V aT.p rfl,aa (v:=c.aG) (by kernel_rfl) (cD.cell (o:=0+2) rfl),aZ au.u ak.i (by kernel_rfl) dG.ls aQ,aw,V c5.p rfl,aa (v:=.int .i64 f.k) (by kernel_rfl) (dJ.cell (o:=0+1) rfl)];refine (sM (by omega) (by omega)).mono ?_;rintro _ eN _ ⟨rfl,aH⟩;refine⟨.inl aH,?_⟩;have z12:=(aP.trans aH).size;refine I5 (h:={h with cs:=(dl f.k h.cs c.cs).take s++h.cs.drop s}) (aF.ext aH) bf dH fun eO bg cH bU=>?_;rw[aI];have dK:=cE.ext aH;have cI:=cD.ext aH;have eP:=bg.size;refine dD _ ⟨(cF.trans aH).then bg fun r I he=>by have:=dF r he;omega,by omega,?_,?_,?_⟩
   ·rw[List.set_set] at bU;have e:=q2 (A:=dl f.k h.cs c.cs) (B:=h.cs) (s:=s) (by omega) bT;simp only[e] at bU;exact bU
   ·exact cI.O bg fun bL=>by
     obtain⟨eQ,dL⟩:=cH _ bL;exact absurd (ei cI dL) (by decide)
   ·refine kT dK bg fun r I=>.inr (.inr ⟨cH r I,fun dM=>?_⟩);have:=ai r dM;have:=aA h (x5 ad) r I;omega
  ·rintro aB dC ⟨bM,cC,be,bO,bQ⟩;rw[an,ab];refine⟨fun h=>by omega,fun _=>?_⟩;have e:(dl f.k h.cs c.cs).take c.cs.length++h.cs.drop c.cs.length=dl f.k h.cs c.cs:=by
    rw[←dy,List.drop_length,V9,l5 (by omega)]
   simp only[e] at be;refine cp _ _ ⟨_,?_,bM,cC,be,?_,bO,bQ,fun z ac r I=>?_⟩
   ·congr 1;symm;exact decide_eq_true (bH.2 (.inr bK))
   ·have dN:ju f.k c.sc c.cs (cW h)=cW {h with cs:=dl f.k h.cs c.cs}:=if_pos bK;rw[dN] at ba;rw[U3,ah,q2 (by omega) ba]
   ·rcases X9 ac with ac|rfl
    ·exact aA z ac r I
    ·exact aA h (x5 ad) r I
 rintro _ aj dp ⟨W,rfl,aK,dq,a6,ah,bF,bG,aA⟩;rw[an,ab];refine⟨fun h=>by omega,fun _=>?_⟩;rw[dn,b3,o9,bc,br];have cJ:=tm bp;have bT:((dR f i).map (ju f.k c.sc c.cs)).take L.length++(dR f i).drop L.length=(dR f i).map (ju f.k c.sc c.cs):=by
  rw[b3,List.drop_length,V9,l5 (by rw[u5];exact o7 _)]
 rw[bT] at ah;have ds:W.length=L.length:=by
  have:=congrArg T9 ah;rw[u5,u5] at this;omega
 refine⟨fun bh=>?_,fun bV=>?_⟩
 ·have bh:a7 x.scope∉(dR f i).map (·.1):=by simpa using bh
  have dO:(dR f i).map (ju f.k c.sc c.cs)=dR f i:=by
   refine (List.map_congr_left fun z ac=>?_).trans (List.map_id _);exact if_neg fun he=>bh (j5.2 ⟨z,ac,by rw[he,aJ]⟩)
  rw[dO] at ah;rw[bw aT.p aT.i rfl (show aj.rangeAt Y 0 (cO c) from bF.range)];refine gp (f:=cO) (k:=3) (a:=c) cq.u aT.i (by omega) rfl rfl fun eR dE am eS bi bR=>?_;have aC:=a6.ext bi;have cK:=bG.ext bi;refine gN (f:=cO) (a:=c) cq.u aT.i rfl aC.1 (by simpa using bR.sl) cK.one (by omega) (by omega) fun eW dP dv bm dQ bW=>?_;have cL:∀ r,leadsTo l r→ ∃ e c,ae am r e c∧e≠U∧e≠ak:=fun r I=>by
   obtain⟨rfl,c,aQ⟩:=c9 aC.1 I;exact⟨_,c,aQ,by decide,by decide⟩
  have eX:=bi.size;have eY:=aK.size;refine b5 _ _ ⟨dP,W++[c],(aK.trans bi).then bW fun r I he=>by have:=aC.2.2.2 r he;omega,⟨bm,fun z ac=>?_,fun p q y z ag ac dS r bX bY=>?_,fun r I=>(dQ r I).elim (aC.2.2.2 r) fun h=>by omega⟩,?_⟩
  ·rcases n9.1 ac with ac|ac
   ·exact⟨kT (aC.2.1 z ac).1 bW fun r I=>.inl (cL r I),(aC.2.1 z ac).2⟩
   ·rw[j0.1 ac];exact⟨kT cK bW fun r I=>.inl (cL r I),fun r I=>by have:=ai r I;omega⟩
  ·have cM:∀ {p:Nat} {y:eU},(W++[c])[p]? =some y→W[p]? =some y∨(p=W.length∧y=c):=fun {p y} ag=>by
    rw[List.getElem?_append] at ag;split at ag
    ·exact .inl ag
    ·by_cases dT:p-W.length=0
     ·rw[dT] at ag;cases ag;exact .inr ⟨by omega,rfl⟩
     ·rw[Z9 (by simp;omega)] at ag;cases ag
   rcases cM ag with cN|⟨eZ,rfl⟩ <;> rcases cM ac with cP|⟨eq,rfl⟩
   ·exact aC.2.2.1 p q y z cN cP dS r bX bY
   ·have:=aA y (x5 cN) r bX;have:=ai r bY;omega
   ·have:=aA z (x5 cP) r bY;have:=ai r bX;omega
   ·omega
  ·rw[b6,ah,cJ,zo fun z ac he=>bh (j5.2 ⟨z,ac,he⟩)];show _++[(c.sc,c.cs)]=_;rw[aJ,a2];rfl
 ·have bV:a7 x.scope∈(dR f i).map (·.1):=by simpa using bV
  refine b5 _ _ ⟨g,W,aK,a6,?_⟩;rw[ah,cJ];unfold gJ;rw[if_pos (show (gm f.sizes f.k x).1∈_ from bV)];refine List.map_congr_left fun z _=>?_;unfold ju;rw[aJ,a2];rfl
end Go.Proofs.YtgbkinibgjmodaaGreatDoor
