/- own texts, made small by a tool (wip/ holds them as they were written): no statement of the seat. -/
import Derived.Test.YtgbkinibgjmodaaGreatDoorYe
set_option linter.unusedVariables false
set_option linter.unusedSimpArgs false
set_option linter.unnecessarySimpa false
open Array renaming getElem?_eq_some_iff→l6,getElem?_toList→U8
open BitVec renaming ofInt→W9
open Bool renaming not_true→Y7,not_false→Y8,eq_iff_iff→W5,and_eq_true→V7,or_eq_false_iff→U4
open Decidable renaming not_not→X4
open Go renaming Value→x4,World→x5,Builtin→u7,TypeId→o6,IntKind→o8,Program→X5,Oper→U9
open Go.Addr renaming add_mid→U5
open Go.Builtin renaming len_→u6,append_→r8,min_→T1
open Go.Instr renaming loadAt→x1,fieldAt→x2,storeAt→x6,indexAt→x7,extract→x8,buildSlice→u9,alloc→n0,sliceAt→j4,build→Z3,box→Z5,index→Y2,lookup→V3,makeSlice→U7
open Go.IntKind renaming i64→X3,u64→V2
open Go.Op renaming unary→Z4
open Go.Proofs.Tryz renaming prog→y0
open Go.Result renaming andThen→Y6
open Go.Sem renaming run_bind→Y4,run_pure→X0
open Go.Sort renaming Holds→U3
open Go.Value renaming int→X7
open Int renaming toNat_natCast→c7
open List renaming getElem?_eq_getElem→x3,getElem?_eq_some_iff→u4,mem_of_getElem?→u5,getElem?_map→r9,getD_eq_getElem?_getD→p8,replicate→p9,length_map→o3,take_add_one→o4,length_append→o5,mem_singleton→o9,mem_append→n9,take_length→l5,length_take→l7,mem_map→l9,map_append→j0,eq_nil_of_length_eq_zero→j5,length_cons→j9,take_of_length_le→Z1,getElem?_eq_none→Z7,getElem?_take_of_lt→Z8,getElem?_append_left→Y0,getElem?_append_right→Y3,mem_iff_getElem?→X1,drop_eq_getElem_cons→X2,getElem?_set→X8,flatMap_cons→X9,ext_getElem?→W0,range→W3,pairwise_iff_getElem→W8,append_assoc→V0,length→V4,length_eq_one_iff→V6,mem_or_eq_of_mem_set→V9,length_set→U1,append_nil→U2,mem_cons→U6,set_append_right→T2,length_singleton→T3
open Nat renaming le_refl→o7,zero_le→Y1,le_trans→Y5,mul_le_mul_right→X6,sub_self→W7,add_mul→V1,zero_add→V5,mul_one→T0
open Option renaming some→j6,toList_some→c8,isNone_some→c9,map_some→Z0,map_eq_some_iff→Z6,isNone_none→Y9,map→W6,getD_some→T4
open Option.some renaming inj→Z2,injEq→Z9
open Prod.mk renaming injEq→V8
namespace Go.Proofs.YtgbkinibgjmodaaGreatDoor
open Go Go.Vc Go.RowKit Go.Proofs Go.Proofs.Tryz
set_option maxRecDepth 100000
def uu (w:x5) (v:x4) (n:bS):Prop:=∃ aw U E V I O W L,v= .agg #[.int .i64 n.k,aw,.int .i64 n.zero,E,O]∧aq .i64 J w U aw n.sizes∧fJ w V E I∧I.map (·.l)=n.unary∧aZ cE 3 aE w W O L∧(∀ h∈L,dL w n.sizes h)∧L.map cW=n.funs
def z9:List x4:=[.int .i64 0,.slice none 0 0,.int .i64 0,.slice none 0 0,.slice none 0 0]
def kN (w:x5) (C I gs go:Nat) (aw aO:x4) (f:bW) (E:List ej) (w':x5):Prop:=Ext w w'∧C≤w'.heap.size∧ak w' I bX z9∧aq .i64 J w' gs aw f.sizes∧aZ cE 3 aE w' go aO E∧(∀ r,leadsTo aO r→r<C)∧ ∀ h∈E,dL w' f.sizes h
theorem kN.ext {w w' I:x5} {C J gs go:Nat} {aw aO:x4} {f:bW} {O:List ej} (h:kN w C J gs go aw aO f O w') (E:Ext w' I):kN w C J gs go aw aO f O I:=by
 obtain⟨h1,aa,U,V,W,X,Y⟩:=h;have:=E.size;exact⟨h1.trans E,by omega,U.ext E,V.ext E,W.ext E,X,fun x Z=>(Y x Z).ext E⟩
def F7 (w w':x5) (C E:Nat) (r:Nat):Prop:=w.heap.size≤r∧r≠E∧((∃ c,ak w' r bX c)∨(∃ c,ak w' r ae c)∨((∃ c,ak w' r aE c)∧C≤r))
theorem kN.ad {w w' Y:x5} {S:Nat→Prop} {C W gs go:Nat} {aw aO:x4} {f:bW} {Z:List ej} (h:kN w C W gs go aw aO f Z w') (U:am S w' Y) (V:∀ r,S r→F7 w w' C W r):kN w C W gs go aw aO f Z Y:=by
 obtain⟨h1,aj,ae,aa,X,ab,ag⟩:=h;have:=U.size;have ac:∀ r,S r→ ∃ e c,ak w' r e c∧e≠J∧e≠af:=fun r I=>by
  obtain⟨_,_,⟨c,E⟩|⟨c,E⟩|⟨⟨c,E⟩,_⟩⟩:=V r I
  ·exact⟨_,c,E,by decide,by decide⟩
  ·exact⟨_,c,E,by decide,by decide⟩
  ·exact⟨_,c,E,by decide,by decide⟩
 refine⟨h1.then U fun r I O=>by have:=(V r O).1;omega,by omega,ae.ad U fun O=>(V _ O).2.1 rfl,br aa U fun r I O=>?_,X.ad U fun r I O=>?_,ab,fun x ah=>jT (ag x ah) U fun r I=>.inl (ac r I)⟩
 ·obtain⟨e,c,E,ai,_⟩:=ac r O;exact bZ aa E (fun he=>ai he.symm) I rfl
 ·obtain⟨_,_,⟨c,E⟩|⟨c,E⟩|⟨_,al⟩⟩:=V r O
  ·exact cn X E (by decide) I
  ·exact cn X E (by decide) I
  ·have:=ab r I;omega
def zh (w:x5) (C O:Nat) (aw:x4) (k:Int) (n:bS) (U:List ej) (w':x5):Prop:=∃ E V J I W L,ak w' O bX [.int .i64 k,aw,.int .i64 n.zero,E,I]∧fJ w' V E J∧J.map (·.l)=n.unary∧(∀ r,leadsTo E r→w.heap.size≤r)∧aZ cE 3 aE w' W I L∧(∀ h∈L,h∈U)∧L.map cW=n.funs∧ ∀ r,leadsTo I r→C≤r
set_option maxHeartbeats 8000000 in
theorem zi {N:Nat} {w:x5} {ck:Nat} {f:bW} (cl:lW w ck f) (av:eh N f):O y0 n5 [.pointer (some ⟨ck,0,none⟩)] w fun v w'=>Ext w w'∧uu w' v (dr f):=by
 have dX:=av.k;have dY:=av.sizes.2.1;obtain⟨c6,dZ,ea,ec,cm,cp,ed⟩:=id cl;apply n5.enter;refine bU bX.i fun ax c7 ee be bf=>?_;have bf:ak c7 ax bX z9:=bf;rw[az,ah b3.p rfl,al (v:=.int .i64 f.k) (by kernel_rfl) ((cm.ext be).cell (o:=0+1) rfl),cR (cs:=#[.int .i64 f.k,.slice none 0 0,.int .i64 0,.slice none 0 0,.slice none 0 0]) (by kernel_rfl)];refine bU bX.i fun W ef eg cq c9=>?_;refine b9 (vs:=[.int .i64 f.k,.slice none 0 0,.int .i64 0,.slice none 0 0,.slice none 0 0]) bX.i rfl rfl (by intro u hu;simp at hu;rcases hu with rfl|rfl|rfl|rfl <;> rfl) c9 fun da cr ei db=>?_;have bI:Ext w da:=(be.trans cq).then cr fun r E he=>by have he:r=W:=he;have:=be.size;omega
 have ej:=bf.lt;have Z:W≠ax:=by omega
 have dc:=(bf.ext cq).ad cr fun he=>by have he:ax=W:=he;omega
 rw[az,ah b3.p rfl,al (v:=c6) (by kernel_rfl) ((cm.ext bI).cell (o:=0+2) rfl),aQ ae.u (cp.ext bI).ls];have ek:=be.size;refine bd.range f.sizes.length (fun i aC=>Ext w aC∧ak aC ax bX z9∧ ∃ aw gs V ac X,ak aC W bX [.int .i64 f.k,aw,.int .i64 0,V,.slice none 0 0]∧aq .i64 J aC gs aw (f.sizes.take i)∧(∀ r,leads aw r→w.heap.size≤r)∧fJ aC ac V X∧X.map (·.l)=(f.sizes.take i).map (fun z=>p9 z.toNat 0)∧ ∀ r,leadsTo V r→w.heap.size≤r) (by omega)
  ⟨bI,dc,_,0,_,0,[],db,aq.nil _ _ _ _,(fun r E=>by obtain⟨a,n,c,dd,em⟩:=E;cases dd),⟨aZ.nil _ _ _ _ _,fun x bJ=>(by cases bJ)⟩,rfl,fun r E=>(dI E).elim⟩ ?_ ?_
 ·rintro i aC de hi ⟨aD,bK,aw,gs,V,ac,X,aW,bg,bL,bO,aX,bh⟩ df;obtain⟨z,Y⟩:∃ z,f.sizes[i]? =some z:=⟨_,x3 hi⟩;have en:=av.sizes.2.2 z (u5 Y);have eo:X.length=i:=by have:=congrArg V4 aX;simp only[o3,l7] at this;omega
  rw[au,ag];refine⟨fun _=>?_,fun h=>by omega⟩;rw[bw ae.u af.i (by kernel_rfl) (cp.ext aD).ls Y,ah bX.p rfl,al (v:=aw) (by kernel_rfl) (aW.cell (o:=0+1) rfl)];refine dT (k:=.i64) ab.u J.i rfl fun a5 ep ct er aN dg=>?_;have aY:=bg.ext aN;refine gn ab.u J.i rfl aY dg.ls (by simp;omega) (by simp;omega) fun bP cu es bi dh cw=>?_;have bQ:=aW.ext aN;have cz:=bK.ext aN;have cA:=bQ.ad cw fun he=>bZ aY bQ (by decide) he rfl;rw[ah bX.p rfl];refine bH (g:=W) (o:=1) ab.i bi.ls.cells.1 bi.ls.cells.2 cA (by simp) fun bj cB et bk=>?_;have bk:ak bj W bX [.int .i64 f.k,bP,.int .i64 0,V,.slice none 0 0]:=bk;have bS:am (fun r=>leads aw r∨r=W) ct bj:=(cw.mono fun r _ h=>.inl h).trans (cB.mono fun r _ h=>.inr h);have di:aq .i64 J bj cu bP (f.sizes.take (i+1)):=by
   rw[o4,Y];exact br bi cB fun r E he=>by
    have he:r=W:=he;subst he;exact bZ bi cA (by decide) E rfl
  have aP:∀ r,(leads aw r∨r=W)→ ∃ e c,ak ct r e c∧e≠af∧e≠ae:=fun r E=>by
   rcases E with E|rfl
   ·obtain⟨rfl,_⟩:=b1 aY E;obtain⟨_,⟨dj,_⟩|⟨cap,full,_,I,_⟩⟩:=aY
    ·obtain⟨a,n,c,e,_⟩:=E;rw[dj] at e;cases e
    ·exact⟨_,_,I,by decide,by decide⟩
   ·exact⟨_,_,bQ,by decide,by decide⟩
  have dk:=(bO.ext aN).ad bS aP;have z4:=aD.size;have z5:=aN.size;have cC:Ext w bj:=(aD.trans aN).then bS fun r E he=>by
   rcases he with he|he
   ·have:=bL r he;omega
   ·omega
  have dl:=cz.ad bS fun U=>by
   rcases U with U|U
   ·exact bZ aY cz (by decide) U rfl
   ·omega
  intro ev cD _ _;have dm:=bk.ext cD;rw[ah bX.p rfl,al (v:=V) (by kernel_rfl) (dm.cell (o:=0+3) rfl)];obtain⟨aF,rfl⟩:∃ n:Nat,z=n:=⟨z.toNat,by omega⟩;refine h0 (k:=.i64) ae.u af.i (by omega) (by omega) fun bl dn ew bT dp=>?_;refine⟨.inl bT,?_⟩;have dq:aq .i64 af dn bl (.slice (some ⟨bl,0,none⟩) aF aF) (p9 aF 0):=aq.of (bR.full (k:=1) (n:=aF) dp (by simp) (by simp[maxLen];omega));let a:e1:=⟨.slice (some ⟨bl,0,none⟩) aF aF,p9 aF 0⟩;refine fa (f:=hC) (a:=a) b5.u ae.i (by omega) rfl rfl fun ey ez bV eA bY dt=>?_;refine⟨.inl (bT.trans bY),?_⟩;have aR:=(cD.trans bT).trans bY;have a1:=dk.ext aR;refine fl (f:=hC) (a:=a) b5.u ae.i rfl a1.1 (by simpa using dt.sl) (fun u hu=>by rw[o9.1 (show u∈[a.v] from hu)];rfl) (by omega) (by omega) fun b2 b4 eE ai b6 cF=>?_;have aS:∀ {r:Nat},leadsTo V r→ ∃ c,ak bV r ae c:=fun E=>by
   obtain⟨rfl,c,I⟩:=ds a1.1 E;exact⟨c,I⟩
  have b7:=bk.ext aR;have cG:=b7.ad cF fun he=>cn a1.1 b7 (by decide) he;rw[ah bX.p rfl];refine bH b5.i (cJ ai.sl).1 (cJ ai.sl).2 cG (by simp) fun du cH eF dv=>?_;rw[aL];have ay:am (fun r=>leadsTo V r∨r=W) bV du:=(cF.mono fun r _ h=>.inl h).trans (cH.mono fun r _ h=>.inr h);have b8:∀ r,(leadsTo V r∨r=W)→ ∃ e c,ak bV r e c∧e≠af∧e≠J:=fun r E=>by
   rcases E with E|rfl
   ·obtain⟨c,I⟩:=aS E;exact⟨_,c,I,by decide,by decide⟩
   ·exact⟨_,_,b7,by decide,by decide⟩
  have cI:=di.ext aR;have eH:=cC.size;have eI:=aR.size;have cK:=dl.ext aR;refine df _ ⟨(cC.trans aR).then ay (fun r E he=>?_),cK.ad ay (fun U=>?_),bP,cu,b2,b4,X++[a],dv,br cI ay (fun r E U=>?_),fun r E=>?_,⟨ai.ad cH fun r E he=>?_,fun y aj=>?_⟩,?_,fun r E=>?_⟩
  ·rcases he with he|rfl
   ·have:=bh r he;omega
   ·omega
  ·rcases U with U|U
   ·exact cn a1.1 cK (by decide) U
   ·omega
  ·obtain⟨e,c,I,_,Z⟩:=b8 r U;exact bZ cI I (fun he=>Z he.symm) E rfl
  ·rcases dh r E with h|h
   ·exact bL r h
   ·omega
  ·have he:r=W:=he;subst he;exact cn ai cG (by decide) E
  ·rcases n9.1 aj with aj|aj
   ·exact a1.qe ay (fun r E=>by obtain⟨e,c,I,Z,_⟩:=b8 r E;exact⟨e,c,I,Z⟩) y aj
   ·rw[o9.1 aj];have cL:=dq.ext bY;exact⟨bl,br cL ay fun r E U=>by
     obtain⟨e,c,I,Z,_⟩:=b8 r U;exact bZ cL I (fun he=>Z he.symm) E rfl⟩
  ·rw[j0,aX,o4,Y,c8,j0];rfl
  ·rcases b6 r E with h|h
   ·exact bh r h
   ·omega
 rintro aC de ⟨aD,bK,aw,gs,V,ac,X,aW,bg,bL,bO,aX,bh⟩;rw[au,ag];refine⟨fun h=>by omega,fun _=>?_⟩;rw[l5] at bg aX;refine (F6 (cl.ext aD) av).mono ?_;rintro aO bm _ ⟨aT,go,ao,ai,dw,cM,eJ⟩;have cN:ao.length=(eD f).length:=by rw[←cM,o3]
 have eK:ao.length≤256:=by
  have h1:=(p3 av).2.length_eq;have bn:=(iT av).2.2;have eL:=List.length_filter_le eC (eu f);have eM:=av.iN;omega
 have z4:=aD.size;have eN:=aT.size;have eO:=aW.lt;rw[eb bo.u ai];refine bd.range ao.length (fun i aG=>kN w bm.heap.size ax gs go aw aO f ao aG∧zh w bm.heap.size W aw f.k (c3 f i) ao aG) ai.le
  ⟨⟨aD.trans aT,o7 _,bK.ext aT,bg.ext aT,ai,fun r E=>by have:=ai.leads E;omega,fun h ca=>(dw h ca).1⟩,V,ac,X,_,0,[],aW.ext aT,bO.ext aT,aX,bh,aZ.nil _ _ _ _ _,fun x bJ=>(by cases bJ),rfl,fun r E=>(dI E).elim⟩ ?_ ?_
 rotate_left
 ·rintro aG dx ⟨aU,V,ac,X,aA,bp,L,bq,bt,aI,a2,a6,a8,aJ,ba⟩;obtain⟨dy,eQ,cO,cc,eR,eS,dz⟩:=id aU;have bu:=nr f ao.length;rw[cN,r3] at bu;rw[cN,r3] at bq aI aJ;rw[au,ag];refine⟨fun h=>by omega,fun _=>?_⟩;rw[bN bX.p bX.i rfl (show aG.rangeAt W 0 [.int .i64 f.k,aw,.int .i64 (dr f).zero,V,aA] from bq.range)];refine b9 (vs:=[.int .i64 f.k,aw,.int .i64 (dr f).zero,V,aA]) bX.i rfl rfl (fun u hu=>?_) cO fun eT bb eU dA=>?_
  ·simp at hu;rcases hu with rfl|rfl|rfl|rfl|rfl
   ·rfl
   ·exact cc.ls.cells.2
   ·rfl
   ·exact (cJ bt.1.sl).2
   ·exact (cJ a6.sl).2
  rw[eB bX.p bX.i rfl dA.range];have aP:∀ r,r=ax→ ∃ e c,ak aG r e c∧e≠af∧e≠ae∧e≠J∧e≠aE:=fun r E=>by
   subst E;exact⟨_,_,cO,by decide,by decide,by decide,by decide⟩
  refine⟨dy.then bb fun r E he=>by have he:r=ax:=he;omega,aw,gs,V,ac,X,aA,bp,L,?_,?_,bt.ad bb (fun r E=>?_),aI,a6.ad bb (fun r E U=>?_),fun h ca=>?_,aJ⟩
  ·rw[bu.1]
  ·rw[bu.2.1];refine br cc bb fun r E U=>?_;obtain⟨e,c,I,_,_,Z,_⟩:=aP r U;exact bZ cc I (fun he=>Z he.symm) E rfl
  ·obtain⟨e,c,I,h1,bn,_⟩:=aP r E;exact⟨e,c,I,h1,bn⟩
  ·obtain⟨e,c,I,_,_,_,Z⟩:=aP r U;exact cn a6 I (fun he=>Z he.symm) E
  ·rw[bu.2.1];exact jT (dz h (a8 h ca)) bb fun r E=>by
    obtain⟨e,c,I,h1,_,bn,_⟩:=aP r E;exact .inl ⟨e,c,I,bn,h1⟩
 rintro i aG dx hi ⟨aU,V,ac,X,aA,bp,L,bq,bt,aI,a2,a6,a8,aJ,ba⟩ dB;obtain⟨y,aj⟩:∃ y,ao[i]? =some y:=⟨_,x3 hi⟩;have bx:=u5 aj;have cP:(eD f)[i]? =some (cW y):=by rw[←cM,r9,aj];rfl
 have cd:eG f.sizes f.k (cW y):=rM av _ (u5 cP);have ce:=tW cP;obtain⟨eW,eX,eY,eZ⟩:=nr f i;rw[au,ag];refine⟨fun _=>?_,fun h=>by omega⟩;refine dG (fun cg=>kN w bm.heap.size ax gs go aw aO f ao cg∧zh w bm.heap.size W aw f.k (c3 f (i+1)) ao cg) ?_ ?_
 ·rintro cg h;rw[aL];exact dB _ h
 intro e0 ch;rw[cT rfl bo.u aE.i aU.2.2.2.2.1 hi,bN aE.p aE.i rfl (aU.2.2.2.2.1.range aj)];refine bU aE.i fun cQ e2 e3 dC dD=>?_;refine b9 (vs:=cE y) aE.i rfl rfl (aU.2.2.2.2.2.2 y bx).one dD fun cS dE e4 bz=>?_;have bA:Ext aG cS:=dC.then dE fun r E he=>by have he:r=cQ:=he;omega
 have bB:=aU.ext bA;have aK:=bq.ext bA;have ci:=bt.ext bA;have bC:=a6.ext bA;obtain⟨e5,e6,cU,e7,e8,e9,cV⟩:=id bB;obtain⟨⟨fb,cX⟩,_,dF,cY⟩:=cV y bx;rw[ah aE.p rfl,al (v:=y.a7) (by kernel_rfl) (bz.cell (o:=0+0) rfl),aQ ab.u cX.ls];have fc:X.length=f.sizes.length:=by have:=congrArg V4 aI;rw[o3] at this;omega
 have fd:L.length≤256:=by have:=congrArg V4 aJ;rw[o3] at this;omega
 rw[bM,ag];refine⟨fun fe=>?_,fun ff=>?_⟩
 ·
  have aM:y.sc=[]:=j5 (by omega);have aa:c3 f (i+1)={c3 f i with zero:=y.cs.getD 0 0}:=by rw[ce];unfold gG;simp only[cW,aM]
  have fg:y.cs.length=1:=by have:=cd.len;simpa[cW,aM,cb,aH] using this
  have dH:y.cs[0]? =some (y.cs.getD 0 0):=by rw[p8,x3 (by omega)];rfl
  rw[ah aE.p rfl,al (v:=y.aO) (by kernel_rfl) (bz.cell (o:=0+2) rfl),eV (y:=0) (i:=0) rfl ae.u af.i (by kernel_rfl) cY.ls dH,ah bX.p rfl];refine bH af.i rfl rfl aK (by simp) fun dJ ap dK dL=>?_;refine ch _ ⟨bB.ad ap fun r E=>?_,V,ac,X,aA,bp,L,?_,ci.ad ap (fun r E=>?_),by rw[aa];exact aI,a2,bC.ad ap (fun r E U=>?_),a8,by rw[aa];exact aJ,ba⟩
  ·have E:r=W:=E;subst E;exact⟨by omega,Z,.inl ⟨_,aK⟩⟩
  ·rw[aa];exact dL
  ·have E:r=W:=E;subst E;exact⟨_,_,aK,by decide,by decide⟩
  ·have U:r=W:=U;subst U;exact cn bC aK (by decide) E
 rw[bM,ag];refine⟨fun h1=>?_,fun fh=>?_⟩
 ·
  obtain⟨v,aM⟩:∃ v,y.sc=[v]:=V6.1 (by omega);have fi:=cd.scope.1 v (by show v∈y.sc;rw[aM];exact .head _);have fj:=cd.vars v (by show v∈y.sc;rw[aM];exact .head _);have aa:c3 f (i+1)={c3 f i with unary:=(c3 f i).unary.set v.toNat y.cs}:=by rw[ce];unfold gG;simp only[cW,aM]
  intro dM aB _ _;have cj:=aK.ext aB;have cZ:=bz.ext aB;have bc:=ci.ext aB;have dN:=bB.ext aB;have c0:=bC.ext aB;rw[ah bX.p rfl,al (v:=V) (by kernel_rfl) (cj.cell (o:=0+3) rfl),ah aE.p rfl,al (v:=y.a7) (by kernel_rfl) (cZ.cell (o:=0+0) rfl)];refine s4 (y:=0) (i:=0) rfl ab.u J.i (cX.ls.ext aB) (show y.sc[0]? =some v by rw[aM];rfl) fun b o dO=>?_;rw[al (by kernel_rfl) dO,ah aE.p rfl,al (v:=y.aO) (by kernel_rfl) (cZ.cell (o:=0+2) rfl)];obtain⟨u,hu⟩:∃ u,X[v.toNat]? =some u:=⟨_,x3 (by omega)⟩;rw[cT (i:=v.toNat) (by omega) b5.u ae.i bc.1 (by omega)];let a:e1:=⟨y.aO,y.cs⟩;have bD:=cY.ext aB;refine ni (f:=hC) (j:=0) (a:=u) (a':=a) ae.i bD.ls.cells.1 bD.ls.cells.2 bc.1 hu rfl (by omega) fun dJ ap dK dP=>?_;have aS:∀ {r:Nat},leadsTo V r→ ∃ c,ak dM r ae c:=fun E=>by
   obtain⟨rfl,c,I⟩:=ds bc.1 E;exact⟨c,I⟩
  refine ch _ ⟨dN.ad ap fun r E=>?_,V,ac,X.set v.toNat a,aA,bp,L,?_,⟨dP,fun z Y=>?_⟩,?_,a2,c0.ad ap (fun r E U=>?_),a8,by rw[aa];exact aJ,ba⟩
  ·obtain⟨c,I⟩:=aS E;exact⟨a2 r E,fun he=>(by subst he;exact absurd (eP I (cU.ext aB)) (by decide)),.inr (.inl ⟨c,I⟩)⟩
  ·rw[aa];exact cj.ad ap fun he=>cn bc.1 cj (by decide) he
  ·rcases V9 Y with Y|rfl
   ·exact bc.qe ap (fun r E=>by obtain⟨c,I⟩:=aS E;exact⟨_,c,I,by decide⟩) z Y
   ·exact⟨dF,br bD ap fun r E U=>by
     obtain⟨c,I⟩:=aS U;exact bZ bD I (by decide) E rfl⟩
  ·rw[aa,List.map_set,aI]
  ·obtain⟨c,I⟩:=aS U;exact cn c0 I (by decide) E
 ·
  have aa:c3 f (i+1)={c3 f i with funs:=(c3 f i).funs++[cW y]}:=by
   rw[ce];unfold gG;have c1:2≤(cW y).1.length:=by show 2≤y.sc.length;omega
   generalize cW y=g at c1 ⊢;obtain⟨sc,cs⟩:=g
   match sc,c1 with
   |_::_::_,_=>rfl
  rw[ah bX.p rfl,al (v:=aA) (by kernel_rfl) (aK.cell (o:=0+4) rfl),bN aE.p aE.i rfl (show cS.rangeAt cQ 0 (cE y) from bz.range)];refine fa (f:=cE) (k:=3) (a:=y) bo.u aE.i (by omega) rfl rfl fun fk fm dQ fo aV dR=>?_;have bE:=bC.ext aV;have dS:=ci.ext aV;have bF:=aK.ext aV;have dU:=bB.ext aV;refine fl (f:=cE) (a:=y) bo.u aE.i rfl bE (by simpa using dR.sl) (cV y bx).one (by omega) (by omega) fun b2 b4 fp bG b6 c2=>?_;have c4:=bF.ad c2 fun he=>cn bE bF (by decide) he;rw[ah bX.p rfl];refine bH bo.i (cJ bG.sl).1 (cJ bG.sl).2 c4 (by simp) fun dV c5 fq dW=>?_;have ay:am (fun r=>leadsTo aA r∨r=W) dQ dV:=(c2.mono fun r _ h=>.inl h).trans (c5.mono fun r _ h=>.inr h);have fr:=aV.size;refine ch _ ⟨dU.ad ay fun r E=>?_,V,ac,X,b2,b4,L++[y],?_,dS.ad ay (fun r E=>?_),by rw[aa];exact aI,a2,bG.ad c5 (fun r E U=>?_),fun z Y=>?_,?_,fun r E=>?_⟩
  ·rcases E with E|rfl
   ·obtain⟨rfl,c,I⟩:=ds bE E;have:=ba _ E;refine⟨by omega,fun he=>?_,.inr (.inr ⟨⟨c,I⟩,this⟩)⟩;subst he;exact absurd (eP I (cU.ext aV)) (by decide)
   ·exact⟨by omega,Z,.inl ⟨_,bF⟩⟩
  ·rw[aa];exact dW
  ·rcases E with E|rfl
   ·obtain⟨rfl,c,I⟩:=ds bE E;exact⟨_,c,I,by decide,by decide⟩
   ·exact⟨_,_,bF,by decide,by decide⟩
  ·have U:r=W:=U;subst U;exact cn bG c4 (by decide) E
  ·rcases n9.1 Y with Y|Y
   ·exact a8 z Y
   ·rw[o9.1 Y];exact bx
  ·rw[aa,j0,aJ];rfl
  ·rcases b6 r E with h|h
   ·exact ba r h
   ·omega
def fS (w:x5) (S:Nat→Prop) (e:o6):Prop:=∀ r,S r→ ∃ c,ak w r e c
theorem hd {w w':x5} {S:Nat→Prop} {e E:o6} {k:o8} {g:Nat} {v:x4} {l:List Int} (h:aq k E w g v l) (I:am S w w') (J:fS w S e) (O:E≠e):aq k E w' g v l:=br h I fun r U V=>by
 obtain⟨c,W⟩:=J r V;exact bZ h W O U rfl
theorem lX {α:Type} {f:α→List x4} {k:Nat} {w w':x5} {S:Nat→Prop} {e E:o6} {g:Nat} {v:x4} {L:List α} (h:aZ f k E w g v L) (I:am S w w') (J:fS w S e) (O:E≠e):aZ f k E w' g v L:=h.ad I fun r U V=>by
 obtain⟨c,W⟩:=J r V;exact cn h W O U
theorem fL {w w':x5} {S:Nat→Prop} {e E:o6} {r:Nat} {c:List x4} (h:ak w r E c) (I:am S w w') (J:fS w S e) (O:E≠e):ak w' r E c:=h.ad I fun U=>by
 obtain⟨c,V⟩:=J r U;exact O (eP h V)
theorem lY {α:Type} {f:α→List x4} {k:Nat} {w:x5} {e:o6} {g:Nat} {v:x4} {L:List α} (h:aZ f k e w g v L):fS w (fun r=>leadsTo v r) e:=fun r E=>by
 obtain⟨rfl,c,I⟩:=ds h E;exact⟨c,I⟩
theorem kO {w:x5} {e:o6} {g:Nat} {c:List x4} (h:ak w g e c):fS w (fun r=>r=g) e:=fun r E=>by
 have E:r=g:=E;subst E;exact⟨c,h⟩
theorem uv {w w':x5} {S:Nat→Prop} {e:o6} {sizes:List Int} {h:ej} (E:dL w sizes h) (I:am S w w') (O:fS w S e) (h1:e≠J) (U:e≠af):dL w' sizes h:=jT E I fun r V=>by
 obtain⟨c,W⟩:=O r V;exact .inl ⟨e,c,W,h1,U⟩
def jU {α:Type} (f:α→x4) (L:List α):Prop:=∀ (i j:Nat) x y,L[i]? =some x→L[j]? =some y→i≠j→ ∀ r,leads (f x) r→¬leads (f y) r
theorem jU.nil {α:Type} (f:α→x4):jU f []:=fun i j x y h=>by simp at h
theorem jU.push {α:Type} {f:α→x4} {L:List α} {a:α} {b:Nat} (h:jU f L) (h1:∀ x∈L,∀ r,leads (f x) r→r<b) (O:∀ r,leads (f a) r→b≤r):jU f (L++[a]):=fun i j x y X Y Z r I J=>by
 have U:∀ {p:Nat} {z:α},(L++[a])[p]? =some z→L[p]? =some z∨(p=L.length∧z=a):=fun {p z} E=>by
  rw[List.getElem?_append] at E;split at E
  ·exact .inl E
  ·by_cases aa:p-L.length=0
   ·rw[aa] at E;cases E;exact .inr ⟨by omega,rfl⟩
   ·rw[Z7 (by simp;omega)] at E;cases E
 rcases U X with V|⟨ad,ab⟩ <;> rcases U Y with W|⟨eq,ac⟩
 ·exact h i j x y V W Z r I J
 ·have:=h1 x (u5 V) r I;have:=O r (by rw[←ac];exact J);omega
 ·have:=h1 y (u5 W) r J;have:=O r (by rw[←ab];exact I);omega
 ·omega
def uw (b:Bool):List x4:=[.bool b]
abbrev jb:Type:=ej×Bool
def nw (h:jb):List x4:=[h.1.a7,h.1.aw,h.1.aO,.bool h.2]
def nx (h:jb):List Int×List Int×Bool:=(h.1.sc,h.1.cs,h.2)
def qm (f:iW):List Int×List Int×Bool:=(f.sc,f.cs,decide (f.live≠0))
def kP (x:ih):List Int:=((W3 x.un.length).map fun v:Nat=>(v:Int)).filter fun v=>!dropped x.mask v
structure qn where
 v:Int
 a7:x4
 bv:x4
 sc:List Int
 hp:List Int
def F8 (h:qn):List x4:=[.int .i64 h.v,h.a7,h.bv]
def zj (h:qn):tY:=⟨h.v,h.sc,h.hp⟩
def hG (w:x5) (B:Nat) (v:x4) (D:List e1):Prop:=∃ g,aZ hC 1 ab w g v D∧(∀ h∈D,∃ g,aq .i64 J w g h.v h.l)∧ ∀ r,leadsTo v r→B≤r
def hI (w:x5) (B:Nat) (v:x4) (G:List Bool):Prop:=∃ g,aZ uw 1 gT w g v G∧ ∀ r,leadsTo v r→B≤r
def gL (w:x5) (B:Nat) (v:x4) (E:List e1):Prop:=∃ g,fJ w g v E∧(∀ r,leadsTo v r→B≤r)∧(∀ h∈E,∀ r,leads h.v r→B≤r)∧jU (·.v) E
def hf (w:x5) (B:Nat) (sizes:List Int) (v:x4) (L:List jb):Prop:=∃ g,aZ nw 4 gv w g v L∧(∀ h∈L,dL w sizes h.1∧ ∀ r,leads h.1.aO r→B≤r)∧(∀ r,leadsTo v r→B≤r)∧jU (fun h=>h.1.aO) L
def kQ (w:x5) (B:Nat) (v:x4) (E:List qn):Prop:=∃ g,aZ F8 3 ve w g v E∧(∀ h∈E,(∃ g,aq .i64 J w g h.a7 h.sc)∧ ∃ g,aq .i64 J w g h.bv h.hp)∧ ∀ r,leadsTo v r→B≤r
theorem hG.ext {w w':x5} {B:Nat} {v:x4} {D:List e1} (h:hG w B v D) (E:Ext w w'):hG w' B v D:=by
 obtain⟨g,h1,I,J⟩:=h;exact⟨g,h1.ext E,fun x O=>by obtain⟨g,hm⟩:=I x O;exact⟨g,hm.ext E⟩,J⟩
theorem hI.ext {w w':x5} {B:Nat} {v:x4} {D:List Bool} (h:hI w B v D) (E:Ext w w'):hI w' B v D:=by
 obtain⟨g,h1,I⟩:=h;exact⟨g,h1.ext E,I⟩
theorem gL.ext {w w':x5} {B:Nat} {v:x4} {D:List e1} (h:gL w B v D) (E:Ext w w'):gL w' B v D:=by
 obtain⟨g,h1,I⟩:=h;exact⟨g,h1.ext E,I⟩
theorem hf.ext {w w':x5} {B:Nat} {sizes:List Int} {v:x4} {L:List jb} (h:hf w B sizes v L) (E:Ext w w'):hf w' B sizes v L:=by
 obtain⟨g,h1,I,O⟩:=h;exact⟨g,h1.ext E,fun x J=>⟨(I x J).1.ext E,(I x J).2⟩,O⟩
theorem kQ.ext {w w':x5} {B:Nat} {v:x4} {I:List qn} (h:kQ w B v I) (E:Ext w w'):kQ w' B v I:=by
 obtain⟨g,h1,J,O⟩:=h;exact⟨g,h1.ext E,fun x U=>by obtain⟨⟨V,W⟩,X,Y⟩:=J x U;exact⟨⟨V,W.ext E⟩,X,Y.ext E⟩,O⟩
theorem hG.ch {w w':x5} {S:Nat→Prop} {e:o6} {B:Nat} {v:x4} {D:List e1} (h:hG w B v D) (E:am S w w') (I:fS w S e) (h1:ab≠e) (O:J≠e):hG w' B v D:=by
 obtain⟨g,U,V,W⟩:=h;exact⟨g,lX U E I h1,fun x X=>by obtain⟨g,hm⟩:=V x X;exact⟨g,hd hm E I O⟩,W⟩
theorem hI.ch {w w':x5} {S:Nat→Prop} {e:o6} {B:Nat} {v:x4} {D:List Bool} (h:hI w B v D) (E:am S w w') (I:fS w S e) (h1:gT≠e):hI w' B v D:=by
 obtain⟨g,J,O⟩:=h;exact⟨g,lX J E I h1,O⟩
theorem gL.ch {w w':x5} {S:Nat→Prop} {e:o6} {B:Nat} {v:x4} {D:List e1} (h:gL w B v D) (E:am S w w') (I:fS w S e) (h1:ae≠e) (O:af≠e):gL w' B v D:=by
 obtain⟨g,J,U⟩:=h;exact⟨g,⟨lX J.1 E I h1,fun x V=>by obtain⟨g,hm⟩:=J.2 x V;exact⟨g,hd hm E I O⟩⟩,U⟩
theorem hf.ch {w w':x5} {S:Nat→Prop} {e:o6} {B:Nat} {sizes:List Int} {v:x4} {L:List jb} (h:hf w B sizes v L) (E:am S w w') (I:fS w S e) (h1:gv≠e) (V:e≠J) (W:e≠af):hf w' B sizes v L:=by
 obtain⟨g,X,O,Y⟩:=h;exact⟨g,lX X E I h1,fun x U=>⟨uv (O x U).1 E I V W,(O x U).2⟩,Y⟩
def fv (B:Nat) (w:x5) (v:x4) (k:Int) (sizes:List Int) (s:bh):Prop:=∃ aw Y I D O U E V L W X,v= .agg #[.int .i64 k,aw,.int .i64 s.zero,I,O,U,V,W]∧aq .i64 J w Y aw sizes∧hG w B I D∧D.map (·.l)=s.vars.map kP∧hI w B O (s.vars.map fun x=>decide (x.gone≠0))∧
 gL w B U E∧E.map (·.l)=s.vars.map (·.un)∧hf w B sizes V L∧L.map nx=s.funs.map qm∧kQ w B W X∧X.map zj=s.lQ∧ ∀ h∈E,∀ x∈L,∀ r,leads h.v r→¬leads x.1.aO r
theorem fv.ext {B:Nat} {w w':x5} {v:x4} {k:Int} {sizes:List Int} {s:bh} (h:fv B w v k sizes s) (E:Ext w w'):fv B w' v k sizes s:=by
 obtain⟨aw,I,J,D,O,U,V,W,L,X,Y,h1,Z,aa,ab,ac,ad,ae,af,ag,ah,ai⟩:=h;exact⟨aw,I,J,D,O,U,V,W,L,X,Y,h1,Z.ext E,aa.ext E,ab,ac.ext E,ad.ext E,ae,af.ext E,ag,ah.ext E,ai⟩
theorem ux {P:X5} {w:x5} {k:o8} {t e:o6} {b:Nat} {z:x4} {K:x4→x5→Prop} (E:P.underlying t=some (.slice e)) (hi:aJ P e 1 b z)
  (I:∀ v g w',g=w.heap.size→Ext w w'→aq k e w' g v []→K v w'):aa P (u9 t 0 #[]) w K:=
 hZ E hi (by omega) (cs:=#[]) (by simp[Instr.fill]) fun g w' J O U=>I _ g w' J O (aq.of (n:=0) (bR.full (by simpa using U) (by simp) (by simp[maxLen])))
theorem F9 {w:x5} {v:x4} {n:bS} (h:uu w v n) {w':x5} {g:Nat} (X:ak w' g bX v.cells.toList):∃ aw U E V I O W L,ak w' g bX [.int .i64 n.k,aw,.int .i64 n.zero,E,O]∧aq .i64 J w U aw n.sizes∧fJ w V E I∧I.map (·.l)=n.unary∧aZ cE 3 aE w W O L∧(∀ h∈L,dL w n.sizes h)∧L.map cW=n.funs:=by
 obtain⟨aw,U,E,V,I,O,W,L,rfl,Y,Z,ab,aa,ac,ad⟩:=h;obtain⟨_,_,_,ae⟩:=c5 Y.ls;obtain⟨_,_,_,_,_,af,_⟩:=Z.1.sl;obtain⟨_,_,_,_,_,ag,_⟩:=aa.sl;refine⟨aw,U,E,V,I,O,W,L,?_,Y,Z,ab,aa,ac,ad⟩;rw[ae,af,ag] at X ⊢;exact X
def z12:List x4:=[.int .i64 0,.slice none 0 0,.int .i64 0,.slice none 0 0,.slice none 0 0,.slice none 0 0,.slice none 0 0,.slice none 0 0]
theorem Ga {w:x5} {B:Nat} {v:x4} {D:List e1} {a:e1} {ac:o6} {K:x4→x5→Prop} (h:hG w B v D) (al:B≤w.heap.size) (O:∃ g,aq .i64 J w g a.v a.l) (ao:D.length≤1000)
  (ae:∀ E w',hG w' B E (D++[a])→E.cells= #[E]→E.oneCell'=true→am (fun r=>leadsTo v r) w w'→fS w (fun r=>leadsTo v r) ab→(∀ r,leadsTo v r→B≤r)→K E w'):
  aa y0 (u9 cz 1 #[(0,a.v)]) w fun x X=>aa y0 (r8 #[cz,cz] ac #[v,x]) X K:=by
 obtain⟨g,h1,af,Y⟩:=h;obtain⟨ag,O⟩:=O;refine fa (f:=hC) (k:=1) (a:=a) cz.u ab.i (by omega) O.ls.cells.1 rfl fun ap au X av I ah=>?_;refine fl (f:=hC) (a:=a) cz.u ab.i rfl (h1.ext I) (by simpa using ah.sl) (fun u hu=>by rw[o9.1 (show u∈[a.v] from hu)];exact O.ls.cells.2) (by omega) (by omega) fun E ai w' V aj W=>?_;have Z:=lY (h1.ext I);have aw:=I.size;refine ae E w' ⟨ai,V,fun x U=>?_,fun r ak=>(aj r ak).elim (Y r) fun h=>by omega⟩ (cJ V.sl).1 (cJ V.sl).2 ((I.ad _).trans W) (lY h1) Y;rcases n9.1 U with U|U
 ·obtain⟨aP,hm⟩:=af x U;exact⟨aP,hd (hm.ext I) W Z (by decide)⟩
 ·rw[o9.1 U];exact⟨ag,hd (O.ext I) W Z (by decide)⟩
theorem Gb {w:x5} {B:Nat} {v:x4} {G:List Bool} {a:Bool} {V:o6} {K:x4→x5→Prop} (h:hI w B v G) (ae:B≤w.heap.size) (af:G.length≤1000)
  (W:∀ E w',hI w' B E (G++[a])→E.cells= #[E]→E.oneCell'=true→am (fun r=>leadsTo v r) w w'→fS w (fun r=>leadsTo v r) gT→(∀ r,leadsTo v r→B≤r)→K E w'):
  aa y0 (u9 fM 1 #[(0,.bool a)]) w fun x O=>aa y0 (r8 #[fM,fM] V #[v,x]) O K:=by
 obtain⟨g,h1,U⟩:=h;refine fa (f:=uw) (k:=1) (a:=a) fM.u gT.i (by omega) rfl rfl fun ag ah O ai I X=>?_;refine fl (f:=uw) (a:=a) fM.u gT.i rfl (h1.ext I) (by simpa using X.sl) (fun u hu=>by rw[o9.1 (show u∈[.bool a] from hu)];rfl) (by omega) (by omega) fun E Y w' J Z ab=>?_;have aj:=I.size;exact W E w' ⟨Y,J,fun r ac=>(Z r ac).elim (U r) fun h=>by omega⟩ (cJ J.sl).1 (cJ J.sl).2 ((I.ad _).trans ab) (lY h1) U
theorem Gc {w:x5} {B b0:Nat} {v:x4} {W:List e1} {a:e1} {ag:o6} {P:x5→Prop} {K:x4→x5→Prop} (h:gL w B v W) (ax:B≤b0) (ay:b0≤w.heap.size) (U:∃ g,aq .i64 af w g a.v a.l) (Z:∀ r,leads a.v r→b0≤r) (ah:∀ x∈W,∀ r,leads x.v r→r<b0) (az:W.length≤1000) (ai:∀ I,Ext w I→P I)
  (aj:∀ J w',gL w' B J (W++[a])→J.cells= #[J]→J.oneCell'=true→am (fun r=>leadsTo v r) w w'→fS w (fun r=>leadsTo v r) ae→(∀ r,leadsTo v r→B≤r)→K J w'):
  aa y0 (u9 b5 1 #[(0,a.v)]) w fun x I=>P I∧aa y0 (r8 #[b5,b5] ag #[v,x]) I K:=by
 obtain⟨g,⟨h1,ak⟩,ab,al,ao⟩:=h;obtain⟨ap,U⟩:=U;refine fa (f:=hC) (k:=1) (a:=a) b5.u ae.i (by omega) U.ls.cells.1 rfl fun aA aB I aC O au=>⟨ai I O,?_⟩;refine fl (f:=hC) (a:=a) b5.u ae.i rfl (h1.ext O) (by simpa using au.sl) (fun u hu=>by rw[o9.1 (show u∈[a.v] from hu)];exact U.ls.cells.2) (by omega) (by omega) fun J av w' X aw Y=>?_;have ac:=lY (h1.ext O);have aD:=O.size;refine aj J w' ⟨av,⟨X,fun x E=>?_⟩,fun r V=>(aw r V).elim (ab r) fun h=>by omega,fun x E r V=>?_,ao.push ah Z⟩ (cJ X.sl).1 (cJ X.sl).2 ((O.ad _).trans Y) (lY h1) ab
 ·rcases n9.1 E with E|E
  ·obtain⟨aP,hm⟩:=ak x E;exact⟨aP,hd (hm.ext O) Y ac (by decide)⟩
  ·rw[o9.1 E];exact⟨ap,hd (U.ext O) Y ac (by decide)⟩
 ·rcases n9.1 E with E|E
  ·exact al x E r V
  ·rw[o9.1 E] at V;have:=Z r V;omega
theorem Gd {w:x5} {sizes:List Int} {h:jb} (E:dL w sizes h.1):∀ u∈nw h,u.oneCell'=true:=fun u hu=>by
 have:=E.one;simp[nw] at hu;rcases hu with rfl|rfl|rfl|rfl
 ·exact this _ (by simp[cE])
 ·exact this _ (by simp[cE])
 ·exact this _ (by simp[cE])
 ·rfl
theorem Ge {w:x5} {B b0:Nat} {sizes:List Int} {v X:x4} {L:List jb} {a:jb} {af:o6} {P:x5→Prop} {K:x4→x5→Prop} (h:hf w B sizes v L) (aq:B≤b0) (au:b0≤w.heap.size) (Y:dL w sizes a.1) (Z:∀ r,leads a.1.aO r→b0≤r) (ag:∀ x∈L,∀ r,leads x.1.aO r→r<b0) (av:L.length≤1000) (ah:X.cells=(nw a).toArray) (ai:∀ E,Ext w E→P E)
  (aj:∀ I w',hf w' B sizes I (L++[a])→I.cells= #[I]→I.oneCell'=true→am (fun r=>leadsTo v r) w w'→fS w (fun r=>leadsTo v r) gv→(∀ r,leadsTo v r→B≤r)→K I w'):
  aa y0 (u9 dX 1 #[(0,X)]) w fun x E=>P E∧aa y0 (r8 #[dX,dX] af #[v,x]) E K:=by
 obtain⟨g,h1,ab,ac,ak⟩:=h;refine fa (f:=nw) (k:=4) (a:=a) dX.u gv.i (by omega) ah rfl fun aw ax E ay J al=>⟨ai E J,?_⟩;refine fl (f:=nw) (a:=a) dX.u gv.i rfl (h1.ext J) (by simpa using al.sl) (Gd Y) (by omega) (by omega) fun I ao w' U ap V=>?_;have ae:=lY (h1.ext J);have az:=J.size;refine aj I w' ⟨ao,U,fun x O=>?_,fun r W=>(ap r W).elim (ac r) fun h=>by omega,ak.push ag Z⟩ (cJ U.sl).1 (cJ U.sl).2 ((J.ad _).trans V) (lY h1) ac;rcases n9.1 O with O|O
 ·exact⟨uv ((ab x O).1.ext J) V ae (by decide) (by decide),(ab x O).2⟩
 ·rw[o9.1 O];exact⟨uv (Y.ext J) V ae (by decide) (by decide),fun r W=>by have:=Z r W;omega⟩
theorem Gf (u:List Int):kP (newVar u)=(W3 u.length).map fun v:Nat=>(v:Int):=by
 unfold kP newVar dropped;rw[List.filter_eq_self.2];intro a _;simp
theorem gL.lt {w:x5} {B:Nat} {v:x4} {E:List e1} (h:gL w B v E):∀ x∈E,∀ r,leads x.v r→r<w.heap.size:=fun x I r J=>by
 obtain⟨g,⟨h1,O⟩,_⟩:=h;obtain⟨aP,hm⟩:=O x I;have:=b1 hm J;omega
theorem hf.lt {w:x5} {B:Nat} {sizes:List Int} {v:x4} {L:List jb} (h:hf w B sizes v L):∀ x∈L,∀ r,leads x.1.aO r→r<w.heap.size:=fun x E r I=>by
 obtain⟨g,h1,J,_⟩:=h;obtain⟨_,_,aP,hm⟩:=(J x E).1;have:=b1 hm I;omega
set_option maxHeartbeats 8000000 in
theorem zk {w:x5} {ck:x4} {n:bS} (c9:uu w ck n) (aM:hA n) (eU:n.funs.length≤256):O y0 n4 [ck] w fun v w'=>Ext w w'∧fv w.heap.size w' v n.k n.sizes (dJ n):=by
 have eV:=aM.sizes.2.1;have da:=aM.ig;apply n4.enter;refine cc fun db dc eW bK dd=>?_;obtain⟨aw,de,cl,eX,cm,cn,eY,bL,bc,aD,df,cp,be,dg,cq⟩:=F9 c9 dd;refine bU a6.i fun aN dh eZ bf bg=>?_;have bg:ak dh aN a6 z12:=bg;have bM:=bc.ext bf;rw[ah bX.p rfl,al (v:=.int .i64 n.k) (by kernel_rfl) (bM.cell (o:=0+0) rfl),ah bX.p rfl,al (v:=aw) (by kernel_rfl) (bM.cell (o:=0+1) rfl),ah bX.p rfl,al (v:=.int .i64 n.zero) (by kernel_rfl) (bM.cell (o:=0+2) rfl),
  cR (cs:=#[.int .i64 n.k,aw,.int .i64 n.zero,.slice none 0 0,.slice none 0 0,.slice none 0 0,.slice none 0 0,.slice none 0 0]) (by obtain⟨_,_,_,e⟩:=c5 aD.ls;rw[e];kernel_rfl)]
 refine bU a6.i fun gs e0 e1 bO di=>?_;refine b9 (vs:=[.int .i64 n.k,aw,.int .i64 n.zero,.slice none 0 0,.slice none 0 0,.slice none 0 0,.slice none 0 0,.slice none 0 0]) a6.i rfl rfl (fun u hu=>?_) di fun bP bQ e2 dj=>?_
 ·simp at hu;rcases hu with rfl|rfl|rfl|rfl
  ·rfl
  ·exact aD.ls.cells.2
  ·rfl
  ·rfl
 have e3:=bK.size;have e4:=bf.size;have e5:=bg.lt;have aP:aN≠gs:=by omega
 have bR:Ext w bP:=((bK.trans bf).trans bO).then bQ fun r E he=>by have he:r=gs:=he;omega
 have cr:Ext dc bP:=(bf.trans bO).then bQ fun r E he=>by have he:r=gs:=he;omega
 have dk:=(bg.ext bO).ad bQ fun he=>aP he;have e6:w.heap.size≤gs:=by omega
 rw[ah bX.p rfl,al (v:=aw) (by kernel_rfl) ((bc.ext cr).cell (o:=0+1) rfl),aQ ab.u (aD.ext bR).ls];have e7:=bR.size;have e8:=bc.lt;refine bd.range n.sizes.length (fun i I=>Ext w I∧bP.heap.size≤I.heap.size∧ak I db bX [.int .i64 n.k,aw,.int .i64 n.zero,cl,cn]∧ak I aN a6 z12∧ ∃ Z D Y W ap,ak I gs a6 [.int .i64 n.k,aw,.int .i64 n.zero,Z,Y,W,.slice none 0 0,.slice none 0 0]∧hG I w.heap.size Z D∧D.map (·.l)=(n.unary.take i).map (fun u=>kP (newVar u))∧hI I w.heap.size Y (p9 i false)∧gL I w.heap.size W ap∧ap.map (·.l)=n.unary.take i) (by omega)
  ⟨bR,o7 _,bc.ext cr,dk,_,[],_,_,[],dj,⟨0,aZ.nil _ _ _ _ _,fun x U=>(by cases U),fun r E=>(dI E).elim⟩,rfl,⟨0,aZ.nil _ _ _ _ _,fun r E=>(dI E).elim⟩,⟨0,⟨aZ.nil _ _ _ _ _,fun x U=>(by cases U)⟩,fun r E=>(dI E).elim,fun x U=>(by cases U),jU.nil _⟩,rfl⟩ ?_ ?_
 ·rintro i I dl hi ⟨av,z5,bT,bV,Z,D,Y,W,ap,bh,bW,aR,bY,bi,aS⟩ dm;obtain⟨z,bZ⟩:∃ z,n.sizes[i]? =some z:=⟨_,x3 hi⟩;obtain⟨u,hu⟩:∃ u,n.unary[i]? =some u:=⟨_,x3 (by omega)⟩;have e9:=aM.sizes.2.2 z (u5 bZ);obtain⟨fa,_⟩:=aM.unary i z u bZ hu;have fb:D.length=i:=by have:=congrArg V4 aR;simp only[o3,l7] at this;omega
  have fc:ap.length=i:=by have:=congrArg V4 aS;simp only[o3,l7] at this;omega
  rw[au,ag];refine⟨fun _=>?_,fun h=>by omega⟩;rw[bw ab.u J.i (by kernel_rfl) (aD.ext av).ls bZ];obtain⟨ct,rfl⟩:∃ m:Nat,z=m:=⟨z.toNat,by omega⟩;refine ba.range ct (fun j aT bj=>Ext I bj∧ ∃ g,aq .i64 J bj g aT ((W3 j).map fun v:Nat=>(v:Int))∧ ∀ r,leads aT r→I.heap.size≤r) (by omega)
   ⟨Ext.refl _,0,aq.nil _ _ _ _,fun r E=>by obtain⟨a,n,c,ac,aj⟩:=E;cases ac⟩ ?_ ?_
  ·rintro j aT bj b2 b3 ⟨X,cu,bk,b4⟩ b6;rw[au,ag];refine⟨fun _=>?_,fun h=>by omega⟩;refine dT (k:=.i64) ab.u J.i rfl fun fd fe ff fg b7 dn=>?_;refine gn ab.u J.i rfl (bk.ext b7) dn.ls (by simp;omega) (by simp;omega) fun fh dp fi dq dr ds=>?_;rw[aL];have dt:=X.size;have fj:=b7.size;refine b6 _ _ ⟨(X.trans b7).then ds fun r E he=>by have:=b4 r he;omega,dp,?_,fun r E=>(dr r E).elim (b4 r) fun h=>by omega⟩;rw[List.range_succ,j0];exact dq
  rintro aT bj b2 ⟨X,cu,bk,b4⟩;rw[au,ag];refine⟨fun h=>by omega,fun _=>?_⟩;have du:(W3 ct).map (fun v:Nat=>(v:Int))=kP (newVar u):=by rw[Gf];congr 2;omega
  rw[du] at bk;have dt:=X.size;have dv:=av.size;rw[ah a6.p rfl,al (v:=Z) (by kernel_rfl) ((bh.ext X).cell (o:=0+3) rfl)];refine Ga (a:=⟨aT,kP (newVar u)⟩) (bW.ext X) (by omega) ⟨cu,bk⟩ (by omega) fun b8 fk dw ac aj ax aU dx=>?_;have cw:=fL (bh.ext X) ax aU (by decide);rw[ah a6.p rfl];refine bH (g:=gs) (o:=3) cz.i ac aj cw (by simp) fun bl aF fl bm=>?_;have bm:ak bl gs a6 [.int .i64 n.k,aw,.int .i64 n.zero,b8,Y,W,.slice none 0 0,.slice none 0 0]:=bm;have bn:=kO cw;have cA:Ext w bl:=((av.trans X).then ax fun r E he=>by have:=dx r he;omega).then aF fun r E he=>by have he:r=gs:=he;omega
  have dy:=fL (fL (bT.ext X) ax aU (by decide)) aF bn (by decide);have dz:=(fL (bV.ext X) ax aU (by decide)).ad aF fun he=>aP he;have dA:=dw.ch aF bn (by decide) (by decide);have dB:=((bY.ext X).ch ax aU (by decide)).ch aF bn (by decide);have dC:=((bi.ext X).ch ax aU (by decide) (by decide)).ch aF bn (by decide) (by decide);have fm:I.heap.size≤bl.heap.size:=by have:=ax.size;omega
  rw[ah a6.p rfl,al (v:=Y) (by kernel_rfl) (bm.cell (o:=0+4) rfl)];refine Gb (a:=false) dB (by omega) (by simp;omega) fun cB fo dD aV dE ay aW dF=>?_;have cC:=fL bm ay aW (by decide);rw[ah a6.p rfl];refine bH (g:=gs) (o:=4) fM.i aV dE cC (by simp) fun ca aG fp cb=>?_;have cb:ak ca gs a6 [.int .i64 n.k,aw,.int .i64 n.zero,b8,cB,W,.slice none 0 0,.slice none 0 0]:=cb;have bp:=kO cC;have fq:=cA.size;have dG:Ext w ca:=(cA.then ay fun r E he=>by have:=dF r he;omega).then aG fun r E he=>by have he:r=gs:=he;omega
  have dH:=fL (fL dy ay aW (by decide)) aG bp (by decide);have dK:=(fL dz ay aW (by decide)).ad aG fun he=>aP he;have dM:=(dA.ch ay aW (by decide) (by decide)).ch aG bp (by decide) (by decide);have dN:=dD.ch aG bp (by decide);have cD:=(dC.ch ay aW (by decide) (by decide)).ch aG bp (by decide) (by decide);have fr:bl.heap.size≤ca.heap.size:=by have:=ay.size;omega
  intro bq ai _ _;have cF:=cb.ext ai;have cG:=dH.ext ai;have cH:=dG.trans ai;obtain⟨aH,br⟩:∃ aH,cm[i]? =some aH:=⟨_,x3 (by have:=congrArg V4 cp;rw[o3] at this;omega)⟩;have dO:aH.l=u:=by
   have cI:(cm.map (·.l))[i]? =some aH.l:=by rw[r9,br];rfl
   rw[cp,hu] at cI;exact (Z2 cI).symm
  have cd:=df.ext cH;obtain⟨fs,cK⟩:=cd.2 aH (u5 br);rw[dO] at cK;rw[ah a6.p rfl,al (v:=W) (by kernel_rfl) (cF.cell (o:=0+5) rfl),ah bX.p rfl,al (v:=cl) (by kernel_rfl) (cG.cell (o:=0+3) rfl),cT rfl b5.u ae.i cd.1 (u4.1 br).1,al (v:=aH.v) (o:=i*1) (by kernel_rfl) (cd.1.range br 0 _ rfl)];refine ux (k:=.i64) ae.u af.i fun dP ft fu fw bt cL=>?_;refine⟨.inl bt,?_⟩;refine gn ae.u af.i rfl cL (cK.ext bt).ls (by simp;omega) (by simp;omega) fun cM dQ dR cN dS dU=>?_;rw[List.nil_append] at cN;have fx:=ai.size;have fy:=bt.size;have cO:∀ r,leads dP r→bq.heap.size≤r:=fun r E=>by have:=(b1 cL E).1;omega
  have dV:∀ r,leads cM r→bq.heap.size≤r:=fun r E=>(dS r E).elim (cO r) fun h=>by omega
  have aa:Ext bq dR:=bt.then dU fun r E he=>by have:=cO r he;omega
  refine⟨.inl aa,?_⟩;have cP:=cH.trans aa;have fz:=aa.size;refine Gc (a:=⟨cM,u⟩) (b0:=bq.heap.size) ((cD.ext ai).ext aa) (by omega) (by omega) ⟨dQ,cN⟩ dV (cD.ext ai).lt (by omega) (fun fA dW=>.inl (aa.trans dW)) fun dY fB dZ ea ec az aX ed=>?_;have ee:=cF.ext aa;have cQ:=fL ee az aX (by decide);rw[ah a6.p rfl];refine bH (g:=gs) (o:=5) b5.i ea ec cQ (by simp) fun fC aI fD ef=>?_;have bu:=kO cQ;rw[aL];have eg:=(dM.ext ai).ext aa;have eh:=(dN.ext ai).ext aa;have ei:=cG.ext aa;have ej:=(dK.ext ai).ext aa;have fE:=cP.size;have fF:=az.size;refine dm _ ⟨(cP.then az fun r E he=>by have:=ed r he;omega).then aI fun r E he=>by have he:r=gs:=he;omega,by omega,fL (fL ei az aX (by decide)) aI bu (by decide),(fL ej az aX (by decide)).ad aI fun he=>aP he,b8,_,cB,dY,_,ef,(eg.ch az aX (by decide) (by decide)).ch aI bu (by decide) (by decide),?_,?_,dZ.ch aI bu (by decide) (by decide),?_⟩
  ·rw[j0,aR,o4,hu,c8,j0];rfl
  ·have:=(eh.ch az aX (by decide)).ch aI bu (by decide);rw[List.replicate_succ'];exact this
  ·rw[j0,aS,o4,hu];rfl
 rintro I dl ⟨av,z5,bT,bV,Z,D,Y,W,ap,bh,bW,aR,bY,bi,aS⟩;rw[au,ag];refine⟨fun h=>by omega,fun _=>?_⟩;rw[Z1 (by omega)] at aR aS;have fG:=be.ext (bK.trans (Ext.refl _));have fH:bL.length=n.funs.length:=by rw[←cq,o3]
 have ek:=be.ext av;rw[ah bX.p rfl,al (v:=cn) (by kernel_rfl) (bT.cell (o:=0+4) rfl),eb bo.u ek];have dv:=av.size;refine bd.range bL.length (fun j V=>Ext w V∧I.heap.size≤V.heap.size∧ak V aN a6 z12∧hG V w.heap.size Z D∧hI V w.heap.size Y (p9 n.sizes.length false)∧gL V w.heap.size W ap∧ ∃ am L,ak V gs a6 [.int .i64 n.k,aw,.int .i64 n.zero,Z,Y,W,am,.slice none 0 0]∧hf V I.heap.size n.sizes am L∧L.map nx=(n.funs.take j).map (fun g=>qm (iY n.sizes g))) be.le
  ⟨av,o7 _,bV,bW,bY,bi,_,[],bh,⟨0,aZ.nil _ _ _ _ _,fun x U=>(by cases U),fun r E=>(dI E).elim,jU.nil _⟩,rfl⟩ ?_ ?_
 ·rintro j V b2 b3 ⟨aA,em,bx,bz,bA,bB,am,L,bC,aY,a1⟩ b6;obtain⟨y,ce⟩:∃ y,bL[j]? =some y:=⟨_,x3 b3⟩;have cS:n.funs[j]? =some (cW y):=by rw[←cq,r9,ce];rfl
  have cU:=(aM.funs (cW y) (u5 cS)).1;have fI:y.cs.length≤4096:=by
   have h1:y.cs.length=_:=cU.len;have fJ:=cU.small;omega
  have cV:=(dg y (u5 ce)).ext aA;have fK:L.length=j:=by have:=congrArg V4 a1;simp only[o3,l7] at this;omega
  have cX:=be.ext aA;rw[au,ag];refine⟨fun _=>?_,fun h=>by omega⟩;rw[cT rfl bo.u aE.i cX b3,bN aE.p aE.i rfl (cX.range ce)];refine bU aE.i fun en fN fO eo ep=>?_;refine b9 (vs:=cE y) aE.i rfl rfl cV.one ep fun er es fP et=>?_;have eu:Ext V er:=eo.then es fun r E he=>by have he:r=en:=he;omega
  intro bD cY _ _;have a2:=eu.trans cY;have ev:=bC.ext a2;have cg:=et.ext cY;have cZ:=cV.ext a2;obtain⟨⟨ew,ci⟩,⟨ey,cj⟩,fQ,ez⟩:=id cZ;rw[ah a6.p rfl,al (v:=am) (by kernel_rfl) (ev.cell (o:=0+6) rfl),ah aE.p rfl,al (v:=y.a7) (by kernel_rfl) (cg.cell (o:=0+0) rfl),ah aE.p rfl,al (v:=y.aw) (by kernel_rfl) (cg.cell (o:=0+1) rfl),ah aE.p rfl,al (v:=y.aO) (by kernel_rfl) (cg.cell (o:=0+2) rfl)];refine ux (k:=.i64) ae.u af.i fun v25 fR fS fT bE c0=>?_;refine⟨.inl bE,?_⟩;refine gn ae.u af.i rfl c0 (ez.ext bE).ls (by simp;omega) (by simp;omega) fun bF eA c1 bG eC eD=>?_;rw[List.nil_append] at bG;have fU:=a2.size;have z25:=bE.size;have c2:∀ r,leads v25 r→bD.heap.size≤r:=fun r E=>by have:=(b1 c0 E).1;omega
  have eE:∀ r,leads bF r→bD.heap.size≤r:=fun r E=>(eC r E).elim (c2 r) fun h=>by omega
  have ao:Ext bD c1:=bE.then eD fun r E he=>by have:=c2 r he;omega
  refine⟨.inl ao,?_⟩;have fV:=cZ.ext ao;let a:jb:=(⟨y.a7,y.aw,bF,y.sc,y.cs⟩,true);have eF:dL c1 n.sizes a.1:=⟨⟨ew,ci.ext ao⟩,⟨ey,cj.ext ao⟩,eA,bG⟩;rw[cR (cs:=#[y.a7,y.aw,bF]) (by obtain⟨_,_,_,ac⟩:=c5 ci.ls;obtain⟨_,_,_,aj⟩:=c5 cj.ls;obtain⟨_,_,_,aV⟩:=c5 bG.ls;rw[ac,aj,aV];kernel_rfl),
   cR (cs:=#[y.a7,y.aw,bF,.bool true]) (by obtain⟨_,_,_,ac⟩:=c5 ci.ls;obtain⟨_,_,_,aj⟩:=c5 cj.ls;obtain⟨_,_,_,aV⟩:=c5 bG.ls;rw[ac,aj,aV];kernel_rfl)]
  have fW:=ao.size;have c3:=aY.ext a2;refine Ge (a:=a) (b0:=bD.heap.size) (c3.ext ao) (by omega) (by omega) eF eE c3.lt (by omega) rfl (fun fX eG=>.inl (ao.trans eG)) fun eH fY eI ac aj aB a8 eJ=>?_;have aC:=a2.trans ao;have c4:=fL (bC.ext aC) aB a8 (by decide);rw[ah a6.p rfl];refine bH (g:=gs) (o:=6) dX.i ac aj c4 (by simp) fun fZ aJ ga eK=>?_;have bI:=kO c4;rw[aL];have c6:=aA.trans aC;have gb:=c6.size;have gc:=aB.size;have gd:=aC.size;refine b6 _ ⟨(c6.then aB fun r E he=>by have:=eJ r he;omega).then aJ fun r E he=>by have he:r=gs:=he;omega,by omega,(fL (bx.ext aC) aB a8 (by decide)).ad aJ fun he=>aP he,((bz.ext aC).ch aB a8 (by decide) (by decide)).ch aJ bI (by decide) (by decide),((bA.ext aC).ch aB a8 (by decide)).ch aJ bI (by decide),((bB.ext aC).ch aB a8 (by decide) (by decide)).ch aJ bI (by decide) (by decide),eH,_,eK,eI.ch aJ bI (by decide) (by decide) (by decide),?_⟩;rw[j0,a1,o4,cS,c8,j0];rfl
 rintro V b2 ⟨aA,em,bx,bz,bA,bB,am,L,bC,aY,a1⟩;rw[Z1 (by omega)] at a1;rw[au,ag];refine⟨fun h=>by omega,fun _=>?_⟩;rw[bN a6.p a6.i rfl (show V.rangeAt gs 0 [.int .i64 n.k,aw,.int .i64 n.zero,Z,Y,W,am,.slice none 0 0] from bC.range)];have one:∀ {α:Type} {f:α→List x4} {k:Nat} {e:o6} {g:Nat} {v:x4} {M:List α},aZ f k e V g v M→v.oneCell'=true:=fun h=>(cJ h.sl).2;obtain⟨_,eL,_⟩:=id bz;obtain⟨_,eM,_⟩:=id bA;obtain⟨_,⟨eN,_⟩,_⟩:=id bB;obtain⟨_,eO,_⟩:=id aY;refine b9 (vs:=[.int .i64 n.k,aw,.int .i64 n.zero,Z,Y,W,am,.slice none 0 0]) a6.i rfl rfl (fun u hu=>?_) bx fun ge aK gf eP=>?_
 ·simp at hu;rcases hu with rfl|rfl|rfl|rfl|rfl|rfl|rfl|rfl
  ·rfl
  ·exact aD.ls.cells.2
  ·rfl
  ·exact one eL
  ·exact one eM
  ·exact one eN
  ·exact one eO
  ·rfl
 rw[eB a6.p a6.i rfl eP.range];have bb:=kO bx;have gg:=aA.size;refine⟨aA.then aK fun r E he=>by have he:r=aN:=he;omega,aw,de,Z,D,Y,W,ap,am,L,_,[],rfl,hd (aD.ext aA) aK bb (by decide),bz.ch aK bb (by decide) (by decide),?_,?_,bB.ch aK bb (by decide) (by decide),?_,?_,?_,⟨0,aZ.nil _ _ _ _ _,fun x U=>(by cases U),fun r E=>(dI E).elim⟩,rfl,fun h eQ x U r E eR=>?_⟩
 ·rw[aR];show _=(n.unary.map newVar).map kP;rw[List.map_map];rfl
 ·have:=bA.ch aK bb (by decide);have e:(dJ n).vars.map (fun x=>decide (x.gone≠0))=p9 n.sizes.length false:=by
   show (n.unary.map newVar).map _=_;rw[List.map_map,←da];exact List.map_const' ..
  rw[e];exact this
 ·rw[aS];show _=(n.unary.map newVar).map _;rw[List.map_map];exact (List.map_id _).symm
 ·have:=aY.ch aK bb (by decide) (by decide) (by decide);obtain⟨g,c7,bJ,eS,eT⟩:=this;exact⟨g,c7,fun x U=>⟨(bJ x U).1,fun r E=>by have:=(bJ x U).2 r E;omega⟩,fun r E=>by have:=eS r E;omega,eT⟩
 ·rw[a1];show _=(n.funs.map (iY n.sizes)).map qm;rw[List.map_map];rfl
 ·have h1:=bi.lt h eQ r E;obtain⟨g,c7,bJ,_⟩:=aY;have:=(bJ x U).2 r eR;omega
section
variable {P:X5} {w:x5} {t:o6} {cx cy:Bool} {a b:Nat} {K:x4→Prop}
theorem Gg (E:a<2 ^ 62) (J:b<2 ^ 62):I P (U .or t cx cy (.int .i64 a) (.int .i64 b)) w K=K (.int .i64 ((a ||| b:Nat):Int)):=I.of fun w' _=>by
 have e:(W9 64 (a:Int) ||| W9 64 (b:Int)).toNat=a ||| b:=by
  rw[kD,kD,BitVec.toNat_or,BitVec.toNat_ofNat,BitVec.toNat_ofNat,Nat.mod_eq_of_lt (by omega),Nat.mod_eq_of_lt (by omega)]
 have V:a ||| b<2 ^ 62:=Nat.or_lt_two_pow E J;have hw:X3.wrap ((a ||| b:Nat):Int)=((a ||| b:Nat):Int):=wrap_i64 (by omega) (by omega);have O:(W9 X3.bits (a:Int) ||| W9 X3.bits (b:Int)).toNat=a ||| b:=e;simp only[U,eqGuard,binOp,Op.intBits,O,hw];rfl
theorem Gh (O:a<2 ^ 62) (E:b<2 ^ 62):I P (U .and t cx cy (.int .i64 a) (.int .i64 b)) w K=K (.int .i64 ((a &&& b:Nat):Int)):=I.of fun w' _=>by
 have e:(W9 64 (a:Int) &&& W9 64 (b:Int)).toNat=a &&& b:=by
  rw[kD,kD,BitVec.toNat_and,BitVec.toNat_ofNat,BitVec.toNat_ofNat,Nat.mod_eq_of_lt (by omega),Nat.mod_eq_of_lt (by omega)]
 have V:a &&& b<2 ^ 62:=Nat.and_lt_two_pow _ E;have hw:X3.wrap ((a &&& b:Nat):Int)=((a &&& b:Nat):Int):=wrap_i64 (by omega) (by omega);have J:(W9 X3.bits (a:Int) &&& W9 X3.bits (b:Int)).toNat=a &&& b:=e;simp only[U,eqGuard,binOp,Op.intBits,J,hw];rfl
theorem Gi {k:o8} {n:Nat} (E:n<62):I P (U .shl t cx cy (.int .i64 1) (.int k (n:Int))) w K=K (.int .i64 ((2 ^ n:Nat):Int)):=by
 rw[vj (by omega)];have e:min ((n:Int).toNat) X3.bits=n:=Nat.min_eq_left (by show n≤64;omega);have J:2 ^ n<2 ^ 62:=Nat.pow_lt_pow_right (by omega) E;rw[e,Int.one_mul,show ((2:Int) ^ n)=((2 ^ n:Nat):Int) by simp];generalize 2 ^ n=q at J ⊢;rw[wrap_i64 (by omega) (by omega)]
end
theorem zl (a n:Nat):(a / 2 ^ n &&& 1=1)↔a.testBit n=true:=by
 rw[Nat.and_one_is_mod,Nat.testBit_eq_decide_div_mod_eq,decide_eq_true_eq]
theorem Gj {b n:Nat} {v:Int} {w:x5} (V:pD b n):O y0 nO [h6 b n,.int .i64 v] w fun r w'=>r= .bool (decide (0≤v∧v<n)&&b.testBit v.toNat)∧Ext w w':=by
 apply nO.enter;refine cc fun g aa ab I J=>?_;refine aV (fun r W=>r= .bool (decide (0≤v∧v<n)&&b.testBit v.toNat)∧Ext w W) (fun _ _ h=>h) fun ac U=>?_;rw[bN bk.p bk.i rfl J.range];refine wo.mono ?_;rintro _ ad _ ⟨rfl,E⟩;rw[ag];refine⟨fun h=>?_,fun h=>U _ _ ⟨by rw[decide_eq_false h];rfl,I.trans E⟩⟩;obtain⟨X,ae⟩:=V;obtain⟨s,rfl⟩:∃ s:Nat,v=s:=⟨v.toNat,by omega⟩;have Y:=J.ext E;have af:(2:Nat) ^ n≤2 ^ 32:=Nat.pow_le_pow_right (by omega) X;have Z:b / 2 ^ s<2 ^ 64:=Nat.lt_of_le_of_lt (Nat.div_le_self _ _) (by omega);rw[ah bk.p rfl,al (v:=.int .u64 (b:Int)) (by kernel_rfl) (Y.cell (o:=0+0) rfl),tb (by omega),show (1:Int)=((1:Nat):Int) from rfl,u64_and Z (by omega),bM];refine U _ _ ⟨?_,I.trans E⟩;congr 1;rw[decide_eq_true h,Bool.true_and,W5,decide_eq_true_eq,c7,←zl];omega
theorem Gk (m v:Nat):dropped (m:Int) (v:Int)=m.testBit v:=by unfold dropped;rw[c7,c7]
def dt (w:x5) (aI ax:Nat) (A R:av) (n:bS) (s:bh) (t:aR):Prop:=StateM w aI ax A R n s t∧t.b2=s.cells∧kK t∧iX n.k n.sizes s∧hA n
theorem dt.ext {w w':x5} {aI ax:Nat} {A R:av} {n:bS} {s:bh} {t:aR} (h:dt w aI ax A R n s t) (E:Ext w w'):dt w' aI ax A R n s t:=⟨h.1.ext E,h.2⟩
theorem StateM.parts {w:x5} {aI ax:Nat} {A R:av} {n:bS} {s:bh} {t:aR} (h:StateM w aI ax A R n s t):∃ E I O U V W L X,ak w aI aM [.pointer (some ⟨E,0,none⟩),.pointer (some ⟨ax,0,none⟩),I,O,U]∧eQ w E n∧c4 w ax X t∧aq .i64 J w V I (gm s)∧aZ jQ 3 cj w W O L∧ii R w L s:=by
 obtain⟨E,I,O,U,_,V,W,af,L,ag,X,w0,Y,⟨Z,aa,ah⟩,⟨ab,ai,aj,al⟩,ac,⟨ad,ae⟩,am,ao⟩:=h;exact⟨E,I,O,U,V,W,L,X,Y,Z.ext aa,ab,ac,ad,ae⟩
theorem sd {s:bh} {i:Nat} (h:i<s.vars.length):(gm s)[i]? =some (eR s i:Int):=by
 unfold gm;rw[r9,List.getElem?_range h];rfl
theorem qo {s:bh} {t:aR} (E:t.b2=s.cells) (I:kK t):s.cells.length≤100000000:=by
 rw[←E];unfold aR.b2;rw[o3];exact I.1
theorem uy {s:bh} {i:Nat} {x:ih} (h:s.vars[i]? =some x):eR s i+x.un.length+2≤s.cells.length:=by
 have h1:=qf h (j:=x.un.length+1) (by omega);have E:(fK x)[x.un.length+1]? ≠none:=by
  rw[Ne,List.getElem?_eq_none_iff];show ¬(x.un.length+1+1≤x.un.length+1);omega
 rw[←h1] at E;have:=(u4.1 (Option.ne_none_iff_exists'.1 E).choose_spec).1;omega
theorem Gl {s:bh} {j:Nat} {f:iW} (h:s.funs[j]? =some f):fr s j+f.cs.length+1≤s.cells.length:=by
 have h1:=tZ h (j:=f.cs.length) (by omega);have E:(jM f)[f.cs.length]? ≠none:=by
  rw[Ne,List.getElem?_eq_none_iff];show ¬(f.cs.length+1≤f.cs.length);omega
 rw[←h1] at E;have:=(u4.1 (Option.ne_none_iff_exists'.1 E).choose_spec).1;omega
section
variable {w:x5} {aI ax:Nat} {A R:av} {n:bS} {s:bh} {t:aR}
theorem uz (h:dt w aI ax A R n s t):O y0 eT [.pointer (some ⟨aI,0,none⟩)] w fun v w'=>(∃ E,v= .pointer (some ⟨E,0,none⟩)∧eQ w' E n)∧Ext w w':=by
 obtain⟨E,U,V,W,X,Y,L,Z,I,J,aa,ab,ac,ad⟩:=h.1.parts;apply eT.enter;rw[b8 bI.u];simp only[c9,aU];rw[az,ah aM.p rfl,al (v:=.pointer (some ⟨E,0,none⟩)) (by kernel_rfl) (I.cell (o:=0+0) rfl)];exact⟨⟨E,rfl,J⟩,Ext.refl _⟩
theorem zm (h:dt w aI ax A R n s t):O y0 iA [.pointer (some ⟨aI,0,none⟩)] w fun v w'=>v= .int .i64 (n.sizes.length:Int)∧Ext w w':=by
 apply iA.enter;refine (uz h).mono ?_;rintro _ U _ ⟨⟨V,rfl,E⟩,I⟩;refine (ub E).mono ?_;rintro _ W _ ⟨rfl,J⟩;exact⟨rfl,I.trans J⟩
theorem uA (h:dt w aI ax A R n s t):O y0 gQ [.pointer (some ⟨aI,0,none⟩)] w fun v w'=>v= .int .i64 n.k∧Ext w w':=by
 apply gQ.enter;refine (uz h).mono ?_;rintro _ U _ ⟨⟨V,rfl,E⟩,I⟩;refine (Fi E).mono ?_;rintro _ W _ ⟨rfl,J⟩;exact⟨rfl,I.trans J⟩
theorem se {i:Int} (h:dt w aI ax A R n s t):O y0 iB [.pointer (some ⟨aI,0,none⟩),.int .i64 i] w fun v w'=>v= .bool (decide (0≤i∧i<n.sizes.length))∧Ext w w':=by
 apply iB.enter;refine aV (fun v E=>v= .bool (decide (0≤i∧i<n.sizes.length))∧Ext w E) (fun _ _ h=>h) fun V I=>?_;rw[cw,ag];refine⟨fun J=>?_,fun J=>I _ _ ⟨by rw[decide_eq_false (by omega)],Ext.refl _⟩⟩;refine (zm h).mono ?_;rintro _ E _ ⟨rfl,U⟩;rw[au];refine I _ _ ⟨?_,U⟩;congr 1;exact decide_eq_decide.2 ⟨fun h=>⟨J,h⟩,fun h=>h.2⟩
theorem Gm (h:dt w aI ax A R n s t):O y0 jq [.pointer (some ⟨aI,0,none⟩)] w fun v w'=>v= .int .i64 s.zero∧Ext w w':=by
 obtain⟨U,V,W,X,Y,Z,L,aa,E,ab,I,ac,ad,ae⟩:=h.1.parts;apply jq.enter;rw[b8 bI.u];simp only[c9,aU];rw[az,ah aM.p rfl,al (v:=.pointer (some ⟨ax,0,none⟩)) (by kernel_rfl) (E.cell (o:=0+1) rfl)];refine (lP (i:=0) I rfl (show t.b2[0]? =some s.zero by rw[h.2.1];exact Fe s)).mono ?_;rintro _ af _ ⟨rfl,J⟩;exact⟨rfl,J⟩
theorem uB (h:dt w aI ax A R n s t):O y0 hQ [.pointer (some ⟨aI,0,none⟩)] w fun v w'=>v= .int .i64 (s.funs.length:Int)∧Ext w w':=by
 obtain⟨V,W,E,X,Y,Z,L,aa,I,ab,ac,ad,J,U⟩:=h.1.parts;apply hQ.enter;rw[b8 bI.u];simp only[c9,aU];rw[az,ah aM.p rfl,al (v:=E) (by kernel_rfl) (I.cell (o:=0+3) rfl),eb bc.u J];exact⟨by rw[U.1],Ext.refl _⟩
def jc (s:bh) (i:Nat):Bool:=match s.vars[i]? with
 |some x=>decide (x.gone≠0)
 |none=>false
theorem uC {i:Int} (h:dt w aI ax A R n s t):O y0 gR [.pointer (some ⟨aI,0,none⟩),.int .i64 i] w fun v w'=>v= .bool (decide (0≤i)&&jc s i.toNat)∧Ext w w':=by
 apply gR.enter;refine aV (fun v X=>v= .bool (decide (0≤i)&&jc s i.toNat)∧Ext w X) (fun _ _ h=>h) fun aj I=>?_;intro ak U _ _;refine (se (h.ext U)).mono ?_;rintro _ am _ ⟨rfl,Y⟩;have E:=U.trans Y;have ao:=h.2.2.2.1.vars;rw[ag];refine⟨fun Z=>?_,fun ap=>I _ _ ⟨?_,E⟩⟩
 ·obtain⟨aq,aa,au,av,aw,ay,L,aA,V,aB,ac,ad,aC,aD⟩:=(h.ext E).1.parts;obtain⟨x,W⟩:∃ x,s.vars[i.toNat]? =some x:=⟨_,x3 (by omega)⟩;rw[az,ah aM.p rfl,al (v:=.pointer (some ⟨ax,0,none⟩)) (by kernel_rfl) (V.cell (o:=0+1) rfl),az,ah aM.p rfl,al (v:=aa) (by kernel_rfl) (V.cell (o:=0+2) rfl),eV (y:=i) (i:=i.toNat) (by omega) ab.u J.i (by kernel_rfl) ad.ls (sd (by omega))];have ae:t.b2[eR s i.toNat+0]? =some x.gone:=by rw[h.2.1,qf W (by omega)];rfl
  refine (lP (i:=eR s i.toNat) ac rfl ae).mono ?_;rintro _ aE _ ⟨rfl,af⟩;rw[bC];refine I _ _ ⟨?_,E.trans af⟩;rw[decide_eq_true Z.1,Bool.true_and];unfold jc;rw[W]
 ·by_cases ai:0≤i
  ·unfold jc;rw[Z7 (by omega),Bool.and_false]
  ·rw[decide_eq_false ai];rfl
def e3 (n:bS) (i v:Int):Prop:=0≤i∧i<n.sizes.length∧0≤v∧v<n.sizes.getD i.toNat 0
instance (n:bS) (i v:Int):Decidable (e3 n i v):=inferInstanceAs (Decidable (_∧_))
theorem e3.var {i v:Int} (O:e3 n i v) (E:iX n.k n.sizes s):∃ x,s.vars[i.toNat]? =some x∧v.toNat<x.un.length∧x.un.length≤32∧n.sizes.getD i.toNat 0=x.un.length:=by
 obtain⟨h1,V,W,U⟩:=O;have X:=E.vars;obtain⟨x,J⟩:∃ x,s.vars[i.toNat]? =some x:=⟨_,x3 (by omega)⟩;obtain⟨z,I⟩:∃ z,n.sizes[i.toNat]? =some z:=⟨_,x3 (by omega)⟩;have Y:=E.qh.2.2 z (u5 I);have Z:=(E.var i.toNat x z J I).1;rw[p8,I,T4] at U ⊢;exact⟨x,J,by omega,by omega,by omega⟩
theorem zn {i v:Int} (h:dt w aI ax A R n s t):O y0 js [.pointer (some ⟨aI,0,none⟩),.int .i64 i,.int .i64 v] w fun r w'=>r= .int .i64 (if e3 n i v then ((eR s i.toNat+2+v.toNat:Nat):Int) else-1)∧Ext w w':=by
 have aD:=h.2.2.2.1.vars;apply js.enter;refine aV (fun r Y=>r= .bool (decide (¬e3 n i v))∧Ext w Y) ?_ ?_
 ·rintro _ Y ⟨rfl,W⟩;rw[ag];refine⟨fun af=>⟨by rw[if_neg af],W⟩,fun U=>?_⟩;have U:=X4.1 U;obtain⟨x,ai,aE,aF,_⟩:=U.var h.2.2.2.1;obtain⟨Z,aa,aj,ak,am,ao,L,ap,E,ac,aq,ad,av,aw⟩:=(h.ext W).1.parts;have ae:=uy ai;have aG:=qo h.2.1 h.2.2.1;obtain⟨h1,aH,aJ,aK⟩:=id U;rw[az,ah aM.p rfl,al (v:=aa) (by kernel_rfl) (E.cell (o:=0+2) rfl),eV (y:=i) (i:=i.toNat) (by omega) ab.u J.i (by kernel_rfl) ad.ls (sd (by omega)),aL,wrap_i64 (by omega) (by omega),aL,wrap_i64 (by omega) (by omega),if_pos U];refine⟨?_,W⟩;congr 1;omega
 ·intro aN X;refine (se h).mono ?_;rintro _ aO _ ⟨rfl,V⟩;rw[b4,cv];refine⟨fun E=>?_,fun E=>?_⟩
  ·have E:¬(0≤i∧i<n.sizes.length):=fun ay=>by rw[decide_eq_true ay] at E;cases E
   exact X _ _ ⟨by rw[decide_eq_true];exact fun I=>E ⟨I.1,I.2.1⟩,V⟩
  have E:0≤i∧i<n.sizes.length:=by simpa using E
  rw[au,ag];refine⟨fun aA=>X _ _ ⟨by rw[decide_eq_true];exact fun I=>by have:=I.2.2.1;omega,V⟩,fun aA=>?_⟩;obtain⟨Z,aa,aj,ak,am,ao,L,ap,aB,ac,aq,ad,av,aw⟩:=(h.ext V).1.parts;rw[az,ah aM.p rfl,al (v:=.pointer (some ⟨Z,0,none⟩)) (by kernel_rfl) (aB.cell (o:=0+0) rfl)];refine (yN ac h.2.2.2.2).mono ?_;rintro _ aP _ ⟨aC,rfl⟩;rw[if_pos E.1,cw];refine X _ _ ⟨?_,V.trans aC⟩;congr 1;refine decide_eq_decide.2 ⟨fun h I=>?_,fun h=>?_⟩
  ·have:=I.2.2.2;omega
  ·refine Int.not_lt.1 fun ae=>h ⟨E.1,E.2,by omega,ae⟩
def ny (s:bh) (i v:Nat):Int:=match s.vars[i]? with
 |some x=>x.un.getD v 0
 |none=>0
theorem zo {i v:Int} (h:dt w aI ax A R n s t):O y0 iz [.pointer (some ⟨aI,0,none⟩),.int .i64 i,.int .i64 v] w fun r w'=>r=(if e3 n i v then .tuple #[.int .i64 (ny s i.toNat v.toNat),.int .i64 0] else .tuple #[.int .i64 0,.int .i64 1])∧Ext w w':=by
 apply iz.enter;rw[b8 bI.u];simp only[c9,aU];refine (zn h).mono ?_;rintro _ Z _ ⟨rfl,I⟩;by_cases E:e3 n i v
 ·rw[if_pos E,if_pos E,au,ag];refine⟨fun h=>by omega,fun _=>?_⟩;obtain⟨x,J,U,aa,_⟩:=E.var h.2.2.2.1;obtain⟨ab,ac,ad,ae,af,ai,L,aj,V,ak,W,am,ao,ap⟩:=(h.ext I).1.parts;rw[az,ah aM.p rfl,al (v:=.pointer (some ⟨ax,0,none⟩)) (by kernel_rfl) (V.cell (o:=0+1) rfl)];have X:t.b2[eR s i.toNat+2+v.toNat]? =some (x.un.getD v.toNat 0):=by
   rw[h.2.1,Nat.add_assoc,qf J (by omega),show 2+v.toNat=v.toNat+1+1 by omega];show x.un[v.toNat]? =_;rw[p8,x3 U];rfl
  refine (lP (i:=eR s i.toNat+2+v.toNat) W rfl X).mono ?_;rintro _ aq _ ⟨rfl,Y⟩;refine⟨?_,I.trans Y⟩;unfold ny;rw[J]
 ·rw[if_neg E,if_neg E,au,ag];exact⟨fun _=>⟨rfl,I⟩,fun h=>by omega⟩
def fw (s:bh) (j:Nat):Bool:=match s.funs[j]? with
 |some f=>decide (f.live≠0)
 |none=>false
theorem sf {j:Int} (h:dt w aI ax A R n s t):O y0 ff [.pointer (some ⟨aI,0,none⟩),.int .i64 j] w fun v w'=>v= .bool (decide (0≤j)&&fw s j.toNat)∧Ext w w':=by
 apply ff.enter;refine aV (fun v aa=>v= .bool (decide (0≤j)&&fw s j.toNat)∧Ext w aa) (fun _ _ h=>h) fun aj E=>?_;intro ak I _ _;rw[cw,ag];refine⟨fun J=>?_,fun J=>E _ _ ⟨by rw[decide_eq_false J];rfl,I⟩⟩;refine (uB (h.ext I)).mono ?_;rintro _ am _ ⟨rfl,ab⟩;have U:=I.trans ab;rw[au,ag];refine⟨fun ao=>?_,fun ap=>E _ _ ⟨?_,U⟩⟩
 ·obtain⟨aq,av,ac,aw,ay,aA,L,aB,X,aC,ad,aD,Y,V⟩:=(h.ext U).1.parts;obtain⟨f,W⟩:∃ f,s.funs[j.toNat]? =some f:=⟨_,x3 (by omega)⟩;obtain⟨y,Z⟩:∃ y,L[j.toNat]? =some y:=⟨_,x3 (by rw[V.1];omega)⟩;obtain⟨_,_,ae⟩:=V.2 j.toNat y f Z W;rw[az,ah aM.p rfl,al (v:=.pointer (some ⟨ax,0,none⟩)) (by kernel_rfl) (X.cell (o:=0+1) rfl),az,ah aM.p rfl,al (v:=ac) (by kernel_rfl) (X.cell (o:=0+3) rfl),cT (i:=j.toNat) (by omega) bc.u cj.i Y (by rw[V.1];omega),ah cj.p rfl,al (v:=.int .i64 (y.at_:Int)) (by kernel_rfl) (Y.range Z 2 _ rfl)];have af:t.b2[fr s j.toNat+0]? =some f.live:=by rw[h.2.1,tZ W (by omega)];rfl
  refine (lP (i:=fr s j.toNat) ad (by rw[ae]) af).mono ?_;rintro _ aE _ ⟨rfl,ai⟩;rw[bC];refine E _ _ ⟨?_,U.trans ai⟩;rw[decide_eq_true J,Bool.true_and];unfold fw;rw[W]
 ·unfold fw;rw[Z7 (by omega),Bool.and_false]
end
def Gn (s:bh) (n:bS) (i:Int) (b m:Nat):Prop:=pD b m∧(¬(0≤i∧i<n.sizes.length)→b=0∧m=0)∧ ∀ x,0≤i→s.vars[i.toNat]? =some x→m=x.un.length∧ ∀ j:Nat,b.testBit j=(decide (j<x.un.length)&& !dropped x.mask (j:Int))
section
variable {w:x5} {aI ax:Nat} {A R:av} {n:bS} {s:bh} {t:aR}
theorem zp {i:Int} (h:dt w aI ax A R n s t):O y0 gP [.pointer (some ⟨aI,0,none⟩),.int .i64 i] w fun v w'=>(∃ b m,v=h6 b m∧Gn s n i b m)∧Ext w w':=by
 have bH:=h.2.2.2.1.vars;apply gP.enter;refine bU bk.i fun I ba bI aH aj=>?_;have aj:ak ba I bk [.int .u64 0,.int .i64 0]:=aj;refine (se (h.ext aH)).mono ?_;rintro _ bJ _ ⟨rfl,aJ⟩;have am:=aj.ext aJ;have ao:=aH.trans aJ;rw[b4,cv];refine⟨fun U=>?_,fun U=>?_⟩
 ·have U:¬(0≤i∧i<n.sizes.length):=fun bb=>by rw[decide_eq_true bb] at U;cases U
  rw[cR (cs:=#[.int .u64 0,.int .i64 0]) (by kernel_rfl)];refine b9 (vs:=[.int .u64 0,.int .i64 0]) bk.i rfl rfl (by intro u hu;simp at hu;rcases hu with rfl|rfl <;> rfl) am fun bK bc bL be=>?_;rw[eB bk.p bk.i rfl be.range];refine⟨⟨0,0,rfl,⟨by omega,by simp⟩,fun _=>⟨rfl,rfl⟩,fun x aK bf=>?_⟩,ao.then bc fun r ap he=>by have he:r=I:=he;omega⟩;have:=(u4.1 bf).1;exact absurd ⟨aK,by omega⟩ U
 have U:0≤i∧i<n.sizes.length:=by simpa using U
 obtain⟨x,X⟩:∃ x,s.vars[i.toNat]? =some x:=⟨_,x3 (by omega)⟩;obtain⟨z,aq⟩:∃ z,n.sizes[i.toNat]? =some z:=⟨_,x3 (by omega)⟩;have bg:=h.2.2.2.1.qh.2.2 z (u5 aq);obtain⟨bO,_,bP,bQ⟩:=h.2.2.2.1.var i.toNat x z X aq;obtain⟨aN,aO,bh,bi,bj,bl,L,bm,Y,aP,_⟩:=(h.ext ao).1.parts;rw[az,ah aM.p rfl,al (v:=.pointer (some ⟨aN,0,none⟩)) (by kernel_rfl) (Y.cell (o:=0+0) rfl)];refine (yN aP h.2.2.2.2).mono ?_;rintro _ bR _ ⟨av,rfl⟩;rw[if_pos U.1,p8,aq,T4];refine BJ.mono ?_;rintro _ bS _ ⟨aw,rfl⟩;rw[if_pos bg];obtain⟨m,rfl⟩:∃ m:Nat,z=m:=⟨z.toNat,by omega⟩;rw[aC (v:=h6 (2 ^ (m:Int).toNat-1) (m:Int).toNat) rfl,aC (v:=.int .i64 0) rfl,c7];have aQ:=(ao.trans av).trans aw;refine bU bk.i fun E bT bV aR bn=>?_;refine b9 (vs:=[.int .u64 ((2 ^ m-1:Nat):Int),.int .i64 (m:Int)]) bk.i rfl rfl (by intro u hu;simp at hu;rcases hu with rfl|rfl <;> rfl) bn fun aS aT bW bo=>?_;have z5:=aQ.size;have aU:Ext w aS:=(aQ.trans aR).then aT fun r ap he=>by have he:r=E:=he;omega
 have bX:=(((am.ext av).ext aw)).lt;have bp:ak aS I bk [.int .u64 0,.int .i64 0]:=(((am.ext av).ext aw).ext aR).ad aT fun he=>by have he:I=E:=he;omega
 intro bY ay _ _;have aV:=aU.trans ay;obtain⟨aN,aO,bh,bi,bj,bl,L,bm,Y,aP,bq,br,_⟩:=(h.ext aV).1.parts;have bZ:=uy X;have b1:=qo h.2.1 h.2.2.1;rw[az,ah aM.p rfl,al (v:=.pointer (some ⟨ax,0,none⟩)) (by kernel_rfl) (Y.cell (o:=0+1) rfl),az,ah aM.p rfl,al (v:=aO) (by kernel_rfl) (Y.cell (o:=0+2) rfl),eV (y:=i) (i:=i.toNat) (by omega) ab.u J.i (by kernel_rfl) br.ls (sd (by omega)),aL,wrap_i64 (by omega) (by omega)];have bt:t.b2[eR s i.toNat+1]? =some x.mask:=by rw[h.2.1,qf X (by omega)];rfl
 refine (lP (i:=eR s i.toNat+1) bq (by omega) bt).mono ?_;rintro _ bu _ ⟨rfl,aA⟩;have aW:=(bo.ext ay).ext aA;have bw:=(bp.ext ay).ext aA;obtain⟨mk,aX⟩:∃ mk:Nat,x.mask=mk:=⟨x.mask.toNat,by omega⟩;rw[bN bk.p bk.i rfl (show bu.rangeAt E 0 [.int .u64 ((2 ^ m-1:Nat):Int),.int .i64 (m:Int)] from aW.range)];refine (tc (b:=2 ^ m-1) (n:=m)).mono ?_;rintro _ b3 _ ⟨rfl,aB⟩;have bx:=aV.trans aA;have bz:I≠E:=by omega
 have b5:=aU.size;have b6:w.heap.size≤E:=by omega
 have b7:w.heap.size≤I:=by omega
 refine bd.range m (fun q V=>Ext w V∧ak V I bk [.int .u64 0,.int .i64 0]∧ ∃ b:Nat,ak V E bk [.int .u64 (b:Int),.int .i64 (m:Int)]∧pD b m∧ ∀ j:Nat,b.testBit j=(decide (j<m)&& !(decide (j<q)&&mk.testBit j))) (by omega)
  ⟨bx.trans aB,bw.ext aB,_,aW.ext aB,⟨by omega,by have:=Nat.two_pow_pos m;omega⟩,fun j=>by rw[BI];simp⟩ ?_ ?_
 ·rintro q V bA b8 ⟨Z,aa,b,W,ac,ae⟩ bB;rw[au,ag];refine⟨fun _=>?_,fun h=>by omega⟩;refine dG (fun af=>Ext w af∧ak af I bk [.int .u64 0,.int .i64 0]∧ ∃ b:Nat,ak af E bk [.int .u64 (b:Int),.int .i64 (m:Int)]∧pD b m∧ ∀ j:Nat,b.testBit j=(decide (j<m)&& !(decide (j<q+1)&&mk.testBit j))) ?_ ?_
  ·rintro af bC;rw[aL];exact bB _ bC
  intro ca aY;have bD:mk / 2 ^ q<2 ^ 62:=Nat.lt_of_le_of_lt (Nat.div_le_self _ _) (by omega);rw[aX,xt (by omega),show (1:Int)=((1:Nat):Int) from rfl,Gh bD (by omega),bM,ag];have aZ:(((mk / 2 ^ q &&& 1:Nat):Int)=((1:Nat):Int))↔mk.testBit q=true:=by rw[←zl];omega
  refine⟨fun aD=>?_,fun aE=>?_⟩
  ·have aD:=aZ.1 aD;rw[bN bk.p bk.i rfl (show V.rangeAt E 0 [.int .u64 (b:Int),.int .i64 (m:Int)] from W.range)];refine (BK (v:=(q:Int)) ac).mono ?_;rintro _ cb _ ⟨rfl,aF⟩;rw[if_pos ⟨by omega,by omega⟩,c7];refine b9 (vs:=[.int .u64 ((h5 b (2 ^ q):Nat):Int),.int .i64 (m:Int)]) bk.i rfl rfl (by intro u hu;simp at hu;rcases hu with rfl|rfl <;> rfl) (W.ext aF) fun cc a1 cd bE=>?_;have a2:∀ j:Nat,(h5 b (2 ^ q)).testBit j=(decide (j<m)&& !(decide (j<q+1)&&mk.testBit j)):=fun j=>by
    rw[BF,ae,Nat.testBit_two_pow];by_cases a6:j<m
    ·by_cases ai:j=q
     ·subst ai;simp[aD]
     ·have aG:decide (j<q+1)=decide (j<q):=decide_eq_decide.2 ⟨fun h=>by omega,fun h=>by omega⟩;rw[aG,decide_eq_true a6,decide_eq_true (show j<64 by omega),decide_eq_false (show ¬q=j from fun h=>ai h.symm)];simp
    ·simp[a6]
   refine aY _ ⟨(Z.trans aF).then a1 fun r ap he=>by have he:r=E:=he;omega,(aa.ext aF).ad a1 fun he=>bz he,_,bE,⟨by omega,BG fun j a7=>by rw[a2,decide_eq_false (by omega)];rfl⟩,a2⟩
  ·have aE:mk.testBit q=false:=by simpa using fun h=>aE (aZ.2 h)
   refine aY _ ⟨Z,aa,b,W,ac,fun j=>?_⟩;rw[ae];by_cases ai:j=q
   ·subst ai;simp[aE]
   ·have aG:decide (j<q+1)=decide (j<q):=decide_eq_decide.2 ⟨fun h=>by omega,fun h=>by omega⟩;rw[aG]
 ·rintro V bA ⟨Z,aa,b,W,ac,ae⟩;rw[au,ag];refine⟨fun h=>by omega,fun _=>?_⟩;rw[bN bk.p bk.i rfl (show V.rangeAt E 0 [.int .u64 (b:Int),.int .i64 (m:Int)] from W.range)];refine b9 (vs:=[.int .u64 (b:Int),.int .i64 (m:Int)]) bk.i rfl rfl (by intro u hu;simp at hu;rcases hu with rfl|rfl <;> rfl) aa fun ce bF cg bG=>?_;rw[eB bk.p bk.i rfl bG.range];refine⟨⟨b,m,rfl,ac,fun h=>absurd U h,fun y aK a8=>?_⟩,Z.then bF fun r ap he=>by have he:r=I:=he;omega⟩;rw[X] at a8;cases a8;refine⟨by omega,fun j=>?_⟩;rw[ae,aX,Gk,show x.un.length=m by omega];by_cases a7:j<m <;> simp[a7]
theorem zq {k:Int} {sizes:List Int} {f:iW} (I:iX k sizes s) (O:f∈s.funs):bV f.ao∧f.cs.length=(aH f.ao).toNat∧aH f.ao≤4096:=by
 obtain⟨E,U,_⟩:=I.funs f O;rw[U];refine⟨⟨?_,p2 I.qh.2.2 fun v J=>⟨(E.scope.1 v J).1,E.vars v J⟩⟩,E.len,E.small⟩;have:=E.scope.2;simp[cb];exact this
def io (s:bh) (j:Nat) (E:List Int):Option Nat:=match s.funs[j]? with
 |some f=>if f.live≠0 then (cr f.ao E 0).map fun m=>fr s j+1+m.toNat else none
 |none=>none
def jd (s:bh) (j:Nat) (E:List Int):Int:=match s.funs[j]? with
 |some f=>cH f.ao f.cs E
 |none=>0
theorem Gp {j:Nat} {ad:x4} {W:List Int} (h:dt w aI ax A R n s t) (aj:aG .i64 w ad W):O y0 kg [.pointer (some ⟨aI,0,none⟩),.int .i64 (j:Int),ad] w fun v w'=>v= .int .i64 (match io s j W with|some p=>(p:Int)|none=>-1)∧Ext w w':=by
 apply kg.enter;refine (sf h).mono ?_;rintro _ ak _ ⟨rfl,X⟩;rw[decide_eq_true (by omega),Bool.true_and,c7,b4,cv];refine⟨fun E=>⟨?_,X⟩,fun E=>?_⟩
 ·have E:fw s j=false:=by simpa using E
  have:io s j W=none:=by
   unfold io;unfold fw at E;cases I:s.funs[j]? with
   |none=>rfl
   |some f=>
    rw[I] at E;have E:f.live=0:=by simpa using E
    simp[E]
  rw[this]
 have E:fw s j=true:=by simpa using E
 obtain⟨f,I,am⟩:∃ f,s.funs[j]? =some f∧f.live≠0:=by
  unfold fw at E;cases I:s.funs[j]? with
  |none=>rw[I] at E;cases E
  |some f=>rw[I] at E;exact⟨f,rfl,by simpa using E⟩
 obtain⟨ae,aJ,aN⟩:=zq h.2.2.2.1 (u5 I);obtain⟨ap,aq,Y,au,av,af,L,ay,Z,aA,aB,aD,U,V⟩:=(h.ext X).1.parts;obtain⟨y,J⟩:∃ y,L[j]? =some y:=⟨_,x3 (by rw[V.1];exact (u4.1 I).1)⟩;have aa:=(u4.1 J).1;obtain⟨_,aE,ai⟩:=V.2 j y f J I;have aF:ak.rangeAt af (j*3+1) [y.aw]:=fun q v ab=>by
  match q,ab with
  |0,ab=>cases ab;exact U.range J 1 _ rfl
 rw[az,ah aM.p rfl,al (v:=Y) (by kernel_rfl) (Z.cell (o:=0+3) rfl),cT rfl bc.u cj.i U aa,ah cj.p rfl,bN (cs:=[y.aw]) aK.p aK.i rfl aF];refine (vF aE.ls (aj.ext X) ae).mono ?_;rintro _ aO _ ⟨rfl,aH⟩;have ac:=X.trans aH;unfold iL io;rw[I];simp only[if_pos am];cases hi:cr f.ao W 0 with
 |none=>
  simp only[Option.map_none];rw[aC (v:=.int .i64 0) rfl,aC (v:=.int .i64 3) rfl,bC,ag];exact⟨fun _=>⟨trivial,ac⟩,fun h=>absurd (show (3:Int)≠0 by decide) h⟩
 |some m=>
  simp only[Z0];rw[aC (v:=.int .i64 m) rfl,aC (v:=.int .i64 0) rfl,bC,ag];refine⟨fun h=>absurd rfl h,fun _=>?_⟩;have aP:=ly ae.2 hi;have aQ:=Gl I;have aR:=qo h.2.1 h.2.2.1;obtain⟨ap,aq,Y,au,av,af,L,ay,Z,aA,aB,aD,U,V⟩:=(h.ext ac).1.parts;obtain⟨y,J⟩:∃ y,L[j]? =some y:=⟨_,x3 (by rw[V.1];exact (u4.1 I).1)⟩;have aa:=(u4.1 J).1;obtain⟨_,_,ai⟩:=V.2 j y f J I;rw[az,ah aM.p rfl,al (v:=Y) (by kernel_rfl) (Z.cell (o:=0+3) rfl),cT rfl bc.u cj.i U aa,ah cj.p rfl,al (v:=.int .i64 (y.at_:Int)) (by kernel_rfl) (U.range J 2 _ rfl),ai,aL,wrap_i64 (by omega) (by omega),aL,wrap_i64 (by omega) (by omega)];refine⟨?_,ac⟩;congr 1;omega
theorem zr {k:Int} {sizes:List Int} {j:Nat} {I:List Int} {p:Nat} (J:iX k sizes s) (h:io s j I=some p):s.cells[p]? =some (jd s j I)∧ ∃ f,s.funs[j]? =some f∧f.live≠0∧ ∃ m:Nat,cr f.ao I 0=some (m:Int)∧m<f.cs.length∧p=fr s j+(m+1):=by
 unfold io at h;cases E:s.funs[j]? with
 |none=>rw[E] at h;cases h
 |some f=>
  rw[E] at h;simp only at h;split at h
  ·rename_i O;obtain⟨m,hm,rfl⟩:=Z6.1 h;obtain⟨U,V,W⟩:=zq J (u5 E);have X:=ly U.2 hm;obtain⟨q,rfl⟩:∃ q:Nat,m=q:=⟨m.toNat,by omega⟩;refine⟨?_,f,rfl,O,q,hm,by omega,by omega⟩;rw[show fr s j+1+(q:Int).toNat=fr s j+(q+1) by omega,tZ E (by omega)];unfold jd cH;rw[E];simp only[hm];show f.cs[q]? =_;rw[c7,p8,x3 (by omega)];rfl
  ·cases h
theorem Gq {j:Nat} {J:x4} {E:List Int} (h:dt w aI ax A R n s t) (U:aG .i64 w J E):O y0 jp [.pointer (some ⟨aI,0,none⟩),.int .i64 (j:Int),J] w fun v w'=>v=(if (io s j E).isSome then .tuple #[.int .i64 (jd s j E),.int .i64 0] else .tuple #[.int .i64 0,.int .i64 1])∧Ext w w':=by
 apply jp.enter;rw[b8 bI.u];simp only[c9,aU];refine (Gp h U).mono ?_;rintro _ Z _ ⟨rfl,I⟩;cases V:io s j E with
 |none=>
  simp only;rw[au,ag];exact⟨fun _=>⟨rfl,I⟩,fun h=>by omega⟩
 |some p=>
  simp only;rw[au,ag];refine⟨fun h=>by omega,fun _=>?_⟩;obtain⟨aa,ab,ac,ad,ae,af,L,ai,W,aj,X,ak,am,ao⟩:=(h.ext I).1.parts;rw[az,ah aM.p rfl,al (v:=.pointer (some ⟨ax,0,none⟩)) (by kernel_rfl) (W.cell (o:=0+1) rfl)];refine (lP (i:=p) X rfl (by rw[h.2.1];exact (zr h.2.2.2.1 V).1)).mono ?_;rintro _ ap _ ⟨rfl,Y⟩;exact⟨rfl,I.trans Y⟩
end
theorem ei.parts {w:x5} {aI ax E:Nat} {I O X:x4} {A R:av} {n:bS} {s:bh} {t:aR} (h:ei w aI ax E I O X A R n s t):∃ U V L W,ak w aI aM [.pointer (some ⟨E,0,none⟩),.pointer (some ⟨ax,0,none⟩),I,O,X]∧eQ w E n∧c4 w ax W t∧aq .i64 J w U I (gm s)∧aZ jQ 3 cj w V O L∧ii R w L s:=by
 obtain⟨_,U,V,af,L,ag,W,w0,Y,⟨Z,aa,ah⟩,⟨ab,ai,aj,al⟩,ac,⟨ad,ae⟩,am,ao⟩:=h;exact⟨U,V,L,W,Y,Z.ext aa,ab,ac,ad,ae⟩
theorem zs {a b k:Int} {w:x5} (E:0≤a∧a≤k) (I:0≤b∧b≤k) (J:1≤k∧k≤2147483648):O y0 jt [.int .i64 a,.int .i64 b,.int .i64 k] w fun v w'=>v= .tuple #[.int .i64 (min (a+b) k),.int .i64 0]∧Ext w w':=by
 refine wU.mono ?_;rintro _ V _ ⟨rfl,U⟩;refine⟨?_,U⟩;unfold pM;rw[if_pos ⟨⟨J,E.1,E.2⟩,J,I.1,I.2⟩]
theorem Gr {k:Int} {sizes:List Int} {s:bh} {j:Nat} {E:List Int} {p:Nat} (I:iX k sizes s) (h:io s j E=some p):0≤jd s j E∧jd s j E≤k:=by
 obtain⟨_,f,J,_,m,hm,O,_⟩:=zr I h;obtain⟨U,_,_⟩:=I.funs f (u5 J);unfold jd cH;rw[J];simp only[hm];rw[c7,p8,x3 O,T4];exact U.ie _ (List.getElem_mem O)
set_option maxHeartbeats 4000000 in
theorem zt {w:x5} {aI ax:Nat} {A R:av} {n:bS} {s:bh} {t:aR} {bp:x4} {a:List Int} (h:dt w aI ax A R n s t) (ap:aG .i64 w bp a):O y0 jn [.pointer (some ⟨aI,0,none⟩),bp] w fun v w'=>((qg s a→v= .tuple #[.int .i64 (ns n.k s a),.int .i64 0])∧(¬qg s a→v= .tuple #[.int .i64 0,.int .i64 3]))∧Ext w w':=by
 have aa:=h.2.2.2.1;have de:=aa.vars;have bq:=aa.yK;apply jn.enter;rw[b8 bI.u];simp only[c9,aU];rw[aQ ab.u ap];refine (zm h).mono ?_;rintro _ df _ ⟨rfl,aW⟩;rw[bC,ag];refine⟨fun dg=>⟨⟨fun ak=>absurd ak.1 (by omega),fun _=>by trivial⟩,aW⟩,fun dh=>?_⟩;have b5:a.length=s.vars.length:=by omega
 refine (Gm (h.ext aW)).mono ?_;rintro _ di _ ⟨rfl,b6⟩;have br:=aW.trans b6;rw[aQ ab.u (ap.ext br)];obtain⟨V,aE⟩:∃ V,V=s.vars.zip a:=⟨_,rfl⟩;have dj:V.length=a.length:=by rw[aE,List.length_zip];omega
 refine jk.range a.length (fun i t4 t5 X aF ac=>Ext w ac∧ ∃ E:Int,X= .int .i64 E∧E=(V.take i).foldl (lR n.k) s.zero∧(0≤E∧E≤n.k)∧aF= .bool ((V.take i).all hD)∧ ∀ p<i,∀ x v,s.vars[p]? =some x→a[p]? =some v→x.gone≠0∨(0≤v∧v<x.un.length)) ap.le
  ⟨br,s.zero,rfl,rfl,aa.zero,rfl,fun p Y=>by omega⟩ ?_ ?_
 ·rintro i t4 t5 _ _ ac b7 hi ⟨W,E,rfl,aH,aJ,rfl,aX⟩ ca;obtain⟨x,ae⟩:∃ x,s.vars[i]? =some x:=⟨_,x3 (by omega)⟩;obtain⟨v,af⟩:∃ v,a[i]? =some v:=⟨_,x3 hi⟩;obtain⟨z,aY⟩:∃ z,n.sizes[i]? =some z:=⟨_,x3 (by omega)⟩;have dk:=aa.qh.2.2 z (u5 aY);obtain⟨dl,cb,_⟩:=aa.var i x z ae aY;have cc:V[i]? =some (x,v):=by rw[aE,List.getElem?_zip_eq_some];exact⟨ae,af⟩
  have bt:V.take (i+1)=V.take i++[(x,v)]:=by rw[o4,cc];rfl
  have aw:(V.take (i+1)).foldl (lR n.k) s.zero=lR n.k E (x,v):=by rw[bt,List.foldl_append,←aH];rfl
  have aZ:(V.take (i+1)).all hD=((V.take i).all hD&&hD (x,v)):=by rw[bt,List.all_append];simp
  have bu:(x.gone≠0∨(0≤v∧v<x.un.length))→ ∀ p<i+1,∀ x v,s.vars[p]? =some x→a[p]? =some v→x.gone≠0∨(0≤v∧v<x.un.length):=fun cd p Y y u am hu=>by
   by_cases ce:p=i
   ·subst ce;rw[ae] at am;rw[af] at hu;cases am;cases hu;exact cd
   ·exact aX p (by omega) y u am hu
  rw[au,ag];refine⟨fun _=>?_,fun h=>by omega⟩;refine s5 (fun t4 t5 X aF ac=>Ext w ac∧ ∃ E:Int,X= .int .i64 E∧E=(V.take (i+1)).foldl (lR n.k) s.zero∧(0≤E∧E≤n.k)∧aF= .bool ((V.take (i+1)).all hD)∧ ∀ p<i+1,∀ x v,s.vars[p]? =some x→a[p]? =some v→x.gone≠0∨(0≤v∧v<x.un.length)) ?_ ?_
  ·rintro t4 t5 X aF dm a1;rw[aL];exact ca _ _ _ _ _ a1
  intro bx ay;rw[bw ab.u J.i (by kernel_rfl) (ap.ext W) af];refine (uC (i:=(i:Int)) (h.ext W)).mono ?_;rintro _ dn _ ⟨rfl,bz⟩;have cg:jc s i=decide (x.gone≠0):=by unfold jc;rw[ae]
  rw[decide_eq_true (by omega),Bool.true_and,c7,cg,ag];refine⟨fun a2=>ay _ _ _ _ _ ⟨W.trans bz,E,rfl,?_,aJ,?_,bu (.inl a2)⟩,fun a6=>?_⟩
  ·rw[aw];unfold lR;rw[if_pos a2]
  ·rw[aZ];unfold hD;rw[decide_eq_true a2,Bool.true_or,Bool.and_true]
  have bA:=W.trans bz;refine (zo (i:=(i:Int)) (v:=v) (h.ext bA)).mono ?_;rintro _ dp _ ⟨rfl,ch⟩;have aK:=bA.trans ch;have bB:n.sizes.getD (i:Int).toNat 0=z:=by rw[c7,p8,aY];rfl
  by_cases aN:e3 n (i:Int) v
  ·have bD:=id aN;unfold e3 at bD;rw[bB] at bD;rw[if_pos aN,aC (v:=.int .i64 (ny s (i:Int).toNat v.toNat)) rfl,aC (v:=.int .i64 0) rfl,bC,ag];refine⟨fun h=>absurd rfl h,fun _=>?_⟩;have ci:ny s (i:Int).toNat v.toNat=x.un.getD v.toNat 0:=by unfold ny;rw[c7,ae]
   have ck:0≤x.un.getD v.toNat 0∧x.un.getD v.toNat 0≤n.k:=by
    rw[p8,x3 (show v.toNat<x.un.length by omega),T4];exact cb _ (List.getElem_mem _)
   rw[ci];refine aV (fun cl bE=>Ext w bE∧cl= .bool ((V.take (i+1)).all hD)) ?_ ?_
   ·rintro _ bE ⟨bF,rfl⟩;refine (uA (h.ext bF)).mono ?_;rintro _ dq _ ⟨rfl,cm⟩;refine (zs aJ ck bq).mono ?_;rintro _ dr _ ⟨rfl,cn⟩;rw[aC (v:=.int .i64 (min (E+x.un.getD v.toNat 0) n.k)) rfl,aC (v:=.int .i64 0) rfl];refine ay _ _ _ _ _ ⟨(bF.trans cm).trans cn,_,rfl,?_,⟨by omega,by omega⟩,rfl,bu (.inr ⟨by omega,by omega⟩)⟩;rw[aw];unfold lR;rw[if_neg a6]
   ·intro ds bG;rw[cv];have cp:hD (x,v)= !dropped x.mask v:=by unfold hD;rw[decide_eq_false a6,Bool.false_or]
    refine⟨fun cq=>?_,fun Z=>bG _ _ ⟨aK,by rw[aZ,Z];rfl⟩⟩;refine (zp (i:=(i:Int)) (h.ext aK)).mono ?_;rintro _ du _ ⟨⟨b,m,rfl,cr,_,ct⟩,cu⟩;refine (Gj cr).mono ?_;rintro _ dv _ ⟨rfl,cw⟩;refine bG _ _ ⟨(aK.trans cu).trans cw,?_⟩;obtain⟨hm,cz⟩:=ct x (by omega) (by rw[c7];exact ae);rw[aZ,cq,cp,Bool.true_and,decide_eq_true (show 0≤v∧v<(m:Int) by omega),Bool.true_and,cz,decide_eq_true (by omega),Bool.true_and];congr 2
  ·rw[if_neg aN,aC (v:=.int .i64 0) rfl,aC (v:=.int .i64 1) rfl,bC,ag];refine⟨fun _=>⟨⟨fun ak=>?_,fun _=>by trivial⟩,aK⟩,fun h=>absurd (show (1:Int)≠0 by decide) h⟩;rcases ak.2 i x v ae af with a8|a8
   ·exact absurd a8 a6
   ·exact absurd ⟨by omega,by omega,a8.1,by rw[bB];omega⟩ aN
 rintro t4 t5 _ _ ac b7 ⟨W,E,rfl,aH,aJ,rfl,aX⟩;have ak:qg s a:=⟨b5,fun i x v bb af=>aX i (u4.1 af).1 x v bb af⟩;rw[Z1 (by omega)] at aH;rw[Z1 (by omega),au,ag];refine⟨fun h=>by omega,fun _=>?_⟩;rw[b4,cv];refine⟨fun ai=>?_,fun ai=>?_⟩
 ·have ai:V.all hD=false:=by simpa using ai
  refine (uA (h.ext W)).mono ?_;rintro _ dw _ ⟨rfl,cA⟩;refine⟨⟨fun _=>?_,fun be=>absurd ak be⟩,W.trans cA⟩;unfold ns;rw[←aE,ai];rfl
 have ai:V.all hD=true:=by simpa using ai
 have cB:ns n.k s a=s.funs.foldl (jP n.k a) E:=by
  unfold ns;rw[←aE,ai,if_pos rfl,←aH]
 obtain⟨⟨dx,dy,cC,dz,cD⟩,dA⟩:=id h;have bf:∀ {w':x5},Ext w w'→dt w' aI ax A R n s t:=fun bb=>h.ext bb;obtain⟨dB,dC,L,dD,cE,dE,dF,dG,bg,bH⟩:=(cD.ext W).parts;rw[az,ah aM.p rfl,al (v:=cC) (by kernel_rfl) (cE.cell (o:=0+3) rfl),eb bc.u bg];have dH:=bH.1;refine ba.range L.length (fun j X aA=>Ext ac aA∧ ∃ U:Int,X= .int .i64 U∧U=(s.funs.take j).foldl (jP n.k a) E∧0≤U∧U≤n.k) bg.le
  ⟨Ext.refl _,E,rfl,rfl,aJ⟩ ?_ ?_
 rotate_left
 ·rintro _ aA cF ⟨aj,U,rfl,aO,_⟩;rw[Z1 (by omega)] at aO;rw[au,ag];refine⟨fun h=>by omega,fun _=>⟨⟨fun _=>by rw[cB,aO],fun be=>absurd ak be⟩,W.trans aj⟩⟩
 rintro j _ aA cF bJ ⟨aj,U,rfl,aO,bK⟩ cG;obtain⟨y,am⟩:∃ y,L[j]? =some y:=⟨_,x3 bJ⟩;obtain⟨f,Z⟩:∃ f,s.funs[j]? =some f:=⟨_,x3 (by omega)⟩;have cI:ii R aA L s:=bH.ad (aj.ad fun _=>False) fun _ _ _ h=>h;obtain⟨aP,bi,dI⟩:=cI.2 j y f am Z;have aP:=aP.ls;have bi:=bi.ls;obtain⟨bj,dJ,dK⟩:=aa.funs f (u5 Z);have dL:f.sc.length≤6:=bj.scope.2;have aw:(s.funs.take (j+1)).foldl (jP n.k a) E=jP n.k a U f:=by
  rw[o4,Z,c8,List.foldl_append,←aO];rfl
 have cJ:=W.trans aj;have bL:=bg.ext aj;rw[au,ag];refine⟨fun _=>?_,fun h=>by omega⟩;refine aV (fun X bM=>Ext ac bM∧ ∃ U:Int,X= .int .i64 U∧U=(s.funs.take (j+1)).foldl (jP n.k a) E∧0≤U∧U≤n.k) ?_ ?_
 ·rintro X bM a1;rw[aL];exact cG _ _ a1
 intro bx ay;rw[cT rfl bc.u cj.i bL bJ,bN cj.p cj.i rfl (bL.range am)];refine bU cj.i fun cK dM dN cL cM=>?_;refine b9 (vs:=jQ y) cj.i rfl rfl (fun u hu=>?_) cM fun cN cO dO cP=>?_
 ·simp[jQ] at hu;rcases hu with rfl|rfl|rfl
  ·exact aP.cells.2
  ·exact bi.cells.2
  ·rfl
 have bO:Ext aA cN:=cL.then cO fun r cQ he=>by have he:r=cK:=he;omega
 have bP:=cJ.trans bO;refine (sf (j:=(j:Int)) (bf bP)).mono ?_;rintro _ cR _ ⟨rfl,bk⟩;have bQ:=bP.trans bk;have bl:=bO.trans bk;have cS:fw s j=decide (f.live≠0):=by unfold fw;rw[Z]
 rw[decide_eq_true (by omega),Bool.true_and,c7,cS,ag];refine⟨fun bT=>?_,fun cU=>ay _ _ ⟨aj.trans bl,U,rfl,by rw[aw];unfold jP;rw[if_neg cU],bK⟩⟩;have bV:=cP.ext bk;have bm:=aP.ext bl;rw[ah cj.p rfl,al (v:=y.a7) (by kernel_rfl) (bV.cell (o:=0+0) rfl),aQ ab.u bm];refine h0 (k:=.i64) ab.u J.i (by omega) (by omega) fun aB cV dP bn cW=>?_;have cX:aq .i64 J cV aB (.slice (some ⟨aB,0,none⟩) f.sc.length f.sc.length) (p9 f.sc.length 0):=aq.of (bR.full (k:=1) (n:=f.sc.length) cW (by simp) (by simp[maxLen];omega));rw[ah cj.p rfl,al (v:=y.a7) (by kernel_rfl) ((bV.ext bn).cell (o:=0+0) rfl),aQ ab.u (bm.ext bn)];have dQ:(jO a f.sc).length=f.sc.length:=by unfold jO;rw[o3]
 refine bd.range f.sc.length (fun q aS=>Ext cR aS∧aq .i64 J aS aB (.slice (some ⟨aB,0,none⟩) f.sc.length f.sc.length) ((jO a f.sc).take q++(p9 f.sc.length (0:Int)).drop q)) (by omega)
  ⟨bn,by simpa using cX⟩ ?_ ?_
 ·rintro q aS cY bW ⟨ao,aD⟩ cZ;obtain⟨u,hu⟩:∃ u,f.sc[q]? =some u:=⟨_,x3 bW⟩;have dR:=bj.vars u (u5 hu);have dS:=bj.scope.1 u (u5 hu);have c0:a[u.toNat]? =some (a.getD u.toNat 0):=by rw[p8,x3 (by omega)];rfl
  have c1:(jO a f.sc)[q]? =some (a.getD u.toNat 0):=by unfold jO;rw[r9,hu];rfl
  rw[au,ag];refine⟨fun _=>?_,fun h=>by omega⟩;rw[bw ab.u J.i (by kernel_rfl) (bm.ext ao) hu,eV (y:=u) (i:=u.toNat) (by omega) ab.u J.i (by kernel_rfl) (ap.ext (bQ.trans ao)) c0,gY rfl ab.u J.i aD (by rw[o5,l7,List.length_drop,List.length_replicate];omega)];refine gZ J.i aD (by rw[o5,l7,List.length_drop,List.length_replicate];omega) fun dT c2 dU bX=>?_;rw[aL];refine cZ _ ⟨ao.then c2 fun r cQ he=>by have he:r=aB:=he;omega,?_⟩;rw[sb (by rw[List.length_replicate];exact bW) c1] at bX;exact bX
 rintro aS cY ⟨ao,aD⟩;rw[List.drop_of_length_le (by simp),U2,Z1 (by omega)] at aD;rw[au,ag];refine⟨fun h=>by omega,fun _=>?_⟩;have bY:=bQ.trans ao;refine (Gq (j:=j) (bf bY) aD.ls).mono ?_;rintro _ bo _ ⟨rfl,bZ⟩;have c3:jP n.k a U f=min (U+jd s j (jO a f.sc)) n.k:=by
  unfold jP jd;rw[if_pos bT,Z]
 have b1:∀ c e:Int,(0≤c∧c≤n.k)→c=jd s j (jO a f.sc)→(I y0 (x8 (.tuple #[.int .i64 c,.int .i64 e]) 0) bo fun c4=>
   I y0 (x8 (.tuple #[.int .i64 c,.int .i64 e]) 1) bo fun dV=>
   O y0 gQ [.pointer (some ⟨aI,0,none⟩)] bo fun c5 b2=>
   O y0 jt [.int .i64 U,c4,c5] b2 fun b3 aT=>
   I y0 (x8 b3 0) aT fun c6=>
   I y0 (x8 b3 1) aT fun dW=>
   bx c6 aT):=fun c e da db=>by
  rw[aC (v:=.int .i64 c) rfl,aC (v:=.int .i64 e) rfl];refine (uA (bf (bY.trans bZ))).mono ?_;rintro _ b2 _ ⟨rfl,dc⟩;refine (zs bK da bq).mono ?_;rintro _ aT _ ⟨rfl,dd⟩;rw[aC (v:=.int .i64 (min (U+c) n.k)) rfl,aC (v:=.int .i64 0) rfl];refine ay _ _ ⟨((((aj.trans bl).trans ao).trans bZ).trans dc).trans dd,_,rfl,by rw[aw,c3,db],by omega,by omega⟩
 cases Y:io s j (jO a f.sc) with
 |some p=>exact b1 _ _ (Gr aa Y) rfl
 |none=>
  refine b1 0 1 ⟨by omega,by omega⟩ ?_;unfold io at Y;rw[Z] at Y;simp only[if_pos bT] at Y;have Y:=Option.map_eq_none_iff.1 Y;unfold jd cH;rw[Z];simp only[Y]
def Room (t:aR):Prop:=t.marks=[]∨t.olds.length<100000000
def jV (s:bh) (i v:Nat):bh:=match s.vars[i]? with
 |some x=>{s with vars:=s.vars.set i {x with mask:=((x.mask.toNat ||| 2 ^ v:Nat):Int)}}
 |none=>s
theorem iX.Gs {k:Int} {sizes:List Int} {s:bh} {i:Nat} {x y:ih} (h:iX k sizes s) (I:s.vars[i]? =some x) (U:y.un.length=x.un.length) (V:∀ c∈y.un,0≤c∧c≤k) (hm:0≤y.mask∧y.mask<4294967296):iX k sizes {s with vars:=s.vars.set i y}:=
 ⟨h.yK,h.qh,h.zero,by show (s.vars.set i y).length=_;rw[U1];exact h.vars,fun p z q E J=>by
  have E:(s.vars.set i y)[p]? =some z:=E;rw[X8] at E;by_cases O:i=p
  ·subst O;rw[if_pos rfl,if_pos (u4.1 I).1] at E;cases E;exact⟨U.trans (h.var i x q I J).1,V,hm⟩
  ·rw[if_neg O] at E;exact h.var p z q E J,h.funs⟩
def zu (w:x5) (r:Nat):Prop:=∃ e c,ak w r e c∧(e=cX∨e=du∨e=iG∨e=dY∨e=aM∨e=cj∨e=eo)
def kR (w:x5) (r:Nat):Prop:=zu w r∨ ∀ o,w.heap[r]? =some o→fx o≠true
theorem Gt {w J:x5} {r:Nat} (V:∀ o,w.heap[r]? =some o→fx o=true→¬kR w r→J.heap[r]? =some o) (h:kR J r):kR w r:=by
 by_cases E:kR w r
 ·exact E
 ·refine absurd (.inr fun o O U=>?_) E;have h1:=V o O U E;rcases h with⟨e,c,I,he⟩|W
  ·refine E (.inl ⟨e,c,?_,he⟩);unfold ak at I ⊢;rw[h1] at I;rw[O];exact I
  ·exact W o h1 U
theorem Gu {w E I:x5} (J:Ext w E) (O:am (kR E) E I):am (kR w) w I:=(J.ad _).trans (O.mono fun r _ h=>Gt (fun o U V _=>J.bz r o U V) h)
theorem c4.min {w:x5} {ax:Nat} {A:av} {t:aR} (h:c4 w ax A t):c4 w ax (fun r=>A r∧zu w r) t:=by
 obtain⟨V,W,go,X,aO,Y,Z,h1,J,O,U,aa⟩:=h;refine⟨⟨V,_,_,h1,.inl rfl⟩,W,go,X,aO,Y,Z,h1,J,O,U,fun r E=>⟨aa r E,?_⟩⟩;rcases E with E|E|E
 ·obtain⟨rfl,c,I⟩:=ds J E;exact⟨_,c,I,.inr (.inl rfl)⟩
 ·obtain⟨rfl,c,I⟩:=ds O E;exact⟨_,c,I,.inr (.inr (.inl rfl))⟩
 ·obtain⟨rfl,c,I⟩:=ds U E;exact⟨_,c,I,.inr (.inr (.inr (.inl rfl)))⟩
section
variable {w:x5} {aI ax:Nat} {A R:av} {n:bS} {s:bh} {t:aR}
theorem kK.set (h:kK t) (E:Room t) (p:Nat) (x:Int):kK (t.set p x):=by
 refine⟨by rw[aR.yP];exact h.1,?_,by rw[aR.ud];exact h.2.2⟩;rcases E with E|E
 ·rw[aR.ue E];exact h.2.1
 ·have:=aR.yQ t p x;omega
theorem Gv {s':bh} {p:Nat} {y x:Int} (h:dt w aI ax A R n s t) (X:y=(p:Int)) (E:p<s.cells.length) (Y:s.cells.set p x=s'.cells) (Z:qj s s') (aa:iX n.k n.sizes s') (ab:Room t):
  O y0 gS [.pointer (some ⟨ax,0,none⟩),.int .i64 y,.int .i64 x] w fun r w'=>r= .int .i64 0∧am (kR w) w w'∧ ∃ I,Grow A w I w'∧dt w' aI ax I R n s' (t.set p x):=by
 obtain⟨ac,V,W,_,ad⟩:=id h;obtain⟨ae,af,ag⟩:=ac.lS;have ah:p<t.cells.length:=by rw[←V] at E;unfold aR.b2 at E;rw[o3] at E;exact E
 refine (r5 af.min X ah W).mono ?_;rintro _ ai _ ⟨rfl,aj,J,ak⟩;obtain⟨I,al,ao⟩:=ag (fun r=>ae r∨aj r) ai _ ⟨J.1.mono fun r _ h=>h.1,fun r U=>U.elim .inl fun h=>(J.2.1 r h).imp (fun h=>h.1) id,fun r U=>.inl U⟩ (ak.mono fun r h=>.inr h);exact⟨rfl,J.1.mono fun r _ h=>.inl h.2,I,al,ao.same Z,by rw[aR.px,V,Y],W.set ab p x,aa,ad⟩
theorem Gw {i v:Int} (h:dt w aI ax A R n s t) (ae:Room t):O y0 j8 [.pointer (some ⟨aI,0,none⟩),.int .i64 i,.int .i64 v] w fun r w'=>(¬e3 n i v→r= .int .i64 1∧Ext w w')∧
  (e3 n i v→r= .int .i64 0∧am (kR w) w w'∧ ∃ U x,Grow A w U w'∧dt w' aI ax U R n (jV s i.toNat v.toNat) (t.set (eR s i.toNat+1) x)):=by
 apply j8.enter;rw[b8 bI.u];simp only[c9,aU];refine (zn h).mono ?_;rintro _ aD _ ⟨rfl,V⟩;by_cases I:e3 n i v
 rotate_left
 ·rw[if_neg I,au,ag];exact⟨fun _=>⟨fun _=>⟨by trivial,V⟩,fun h=>absurd h I⟩,fun h=>by omega⟩
 rw[if_pos I,au,ag];refine⟨fun h=>by omega,fun _=>?_⟩;obtain⟨x,E,af,aE,aF⟩:=I.var h.2.2.2.1;obtain⟨h1,aG,aH,aJ⟩:=id I;have aK:=h.2.2.2.1.vars;obtain⟨z,ai⟩:∃ z,n.sizes[i.toNat]? =some z:=⟨_,x3 (by omega)⟩;obtain⟨_,aj,aN,aO⟩:=h.2.2.2.1.var i.toNat x z E ai;have aP:=uy E;have aQ:=qo h.2.1 h.2.2.1;obtain⟨aR,ak,aS,aT,ao⟩:=(h.ext V).1;obtain⟨aV,aW,L,aX,Z,aY,ap,aq,aZ,a1⟩:=ao.parts;rw[az,ah aM.p rfl,al (v:=ak) (by kernel_rfl) (Z.cell (o:=0+2) rfl),eV (y:=i) (i:=i.toNat) (by omega) ab.u J.i (by kernel_rfl) aq.ls (sd (by omega)),aL,wrap_i64 (by omega) (by omega)];intro a2 W _ _;have av:=V.trans W;have aa:=Z.ext W;have aw:=ap.ext W;obtain⟨q,rfl⟩:∃ q:Nat,v=q:=⟨v.toNat,by omega⟩;obtain⟨mk,ac⟩:∃ mk:Nat,x.mask=mk:=⟨x.mask.toNat,by omega⟩;rw[c7] at af;rw[az,ah aM.p rfl,al (v:=.pointer (some ⟨ax,0,none⟩)) (by kernel_rfl) (aa.cell (o:=0+1) rfl),az,ah aM.p rfl,al (v:=.pointer (some ⟨ax,0,none⟩)) (by kernel_rfl) (aa.cell (o:=0+1) rfl),Gi (by omega)];have ay:t.b2[eR s i.toNat+1]? =some x.mask:=by rw[h.2.1,qf E (by omega)];rfl
 refine (lP (i:=eR s i.toNat+1) aw (by omega) ay).mono ?_;rintro _ a6 _ ⟨rfl,ad⟩;refine⟨.inl ad,?_⟩;have a7:(2:Nat) ^ q≤2 ^ 31:=Nat.pow_le_pow_right (by omega) (by omega);rw[ac,Gg (by omega) (by omega)];have X:=av.trans ad;have a8:mk ||| 2 ^ q<2 ^ 32:=Nat.or_lt_two_pow (by omega) (by omega);have Y:jV s i.toNat (q:Int).toNat={s with vars:=s.vars.set i.toNat {x with mask:=((mk ||| 2 ^ q:Nat):Int)}}:=by
  unfold jV;rw[E];simp only[ac,c7]
 refine (Gv (p:=eR s i.toNat+1) (s':=jV s i.toNat (q:Int).toNat) (h.ext X) (by omega) (by omega) ?_ ?_ ?_ ae).mono ?_
 ·rw[Y,Ff E (by omega)];rfl
 ·rw[Y];exact Fq E rfl
 ·rw[Y];exact h.2.2.2.1.Gs E rfl aj ⟨by simp only;omega,by simp only;omega⟩
 rintro _ ba _ ⟨rfl,aA,U,aB,aC⟩;exact⟨fun h=>absurd I h,fun _=>⟨rfl,Gu X aA,U,_,(Grow.ext X).trans aB,aC⟩⟩
end
theorem zv {B:Nat} {w:x5} {v:x4} {k:Int} {sizes:List Int} {s:bh} (h:fv B w v k sizes s) {w':x5} {g:Nat} (ag:Ext w w') (Z:ak w' g a6 v.cells.toList):∃ aw Y E D I O U V L W X,v= .agg #[.int .i64 k,aw,.int .i64 s.zero,E,I,O,V,W]∧ak w' g a6 [.int .i64 k,aw,.int .i64 s.zero,E,I,O,V,W]∧aq .i64 J w' Y aw sizes∧hG w' B E D∧D.map (·.l)=s.vars.map kP∧hI w' B I (s.vars.map fun x=>decide (x.gone≠0))∧
  gL w' B O U∧U.map (·.l)=s.vars.map (·.un)∧hf w' B sizes V L∧L.map nx=s.funs.map qm∧kQ w' B W X∧X.map zj=s.lQ∧ ∀ h∈U,∀ x∈L,∀ r,leads h.v r→¬leads x.1.aO r:=by
 obtain⟨aw,Y,E,D,I,O,U,V,L,W,X,rfl,aa,ab,ah,ac,ad,ai,ae,aj,af,al⟩:=h.ext ag;obtain⟨_,_,_,am⟩:=c5 aa.ls;obtain⟨_,ao,_⟩:=id ab;obtain⟨_,ap,_⟩:=id ac;obtain⟨_,⟨au,_⟩,_⟩:=id ad;obtain⟨_,av,_⟩:=id ae;obtain⟨_,ax,_⟩:=id af;obtain⟨_,_,_,_,_,ay,_⟩:=ao.sl;obtain⟨_,_,_,_,_,az,_⟩:=ap.sl;obtain⟨_,_,_,_,_,aA,_⟩:=au.sl;obtain⟨_,_,_,_,_,aB,_⟩:=av.sl;obtain⟨_,_,_,_,_,aC,_⟩:=ax.sl;refine⟨aw,Y,E,D,I,O,U,V,L,W,X,rfl,?_,aa,ab,ah,ac,ad,ai,ae,aj,af,al⟩;rw[am,ay,az,aA,aB,aC] at Z ⊢;exact Z
theorem eQ.put {w w':x5} {g W:Nat} {c:List x4} {n:bS} (h:eQ w W n) (E:ak w g a6 c) (I:am (fun r=>r=g) w w'):eQ w' W n:=by
 have ch:=kO E;have X:∀ r,r=g→ ∃ e c,ak w r e c∧e≠fi∧e≠bq∧e≠J∧e≠af∧e≠ae:=fun r O=>by
  subst O;exact⟨_,c,E,by decide,by decide,by decide,by decide,by decide⟩
 obtain⟨Y,Z,aa,ab,ac,ag,L,ah,aw,ai,aj,h1,al,ao,ap,aq,au,av⟩:=h;refine⟨Y,Z,aa,ab,ac,ag,L,ah,aw,ai,aj,fL h1 I ch (by decide),fL al I ch (by decide),hd ao I ch (by decide),ap.ad I fun r O=>?_,aq,au.ad I fun r O=>?_,av⟩
 ·obtain⟨e,c,E,_,_,_,U,V⟩:=X r O;exact⟨e,c,E,U,V⟩
 ·obtain⟨e,c,E,U,V,ax,ay,_⟩:=X r O;exact⟨e,c,E,U,V,ax,ay⟩
theorem Gx:∃ o:Obj,fx o=false:=⟨.deferred none,rfl⟩
theorem StateM.put {w w':x5} {aI ax g:Nat} {A R:av} {n:bS} {s:bh} {t:aR} {c:List x4} (h:StateM w aI ax A R n s t) (O:ak w g a6 c) (J:am (fun r=>r=g) w w') (ah:¬A g):∃ R',StateM w' aI ax A R' n s t:=by
 obtain⟨ai,aj,al,ao,⟨h1,ap,aq,au⟩,aw,ay,az,L,aA,aB,w0,aC,⟨aa,V,aD⟩,⟨aE,ab,aF,aG⟩,aH,⟨aJ,ac⟩,aK,ae⟩:=h;obtain⟨da,af⟩:=Gx;have z:=J.size;have ch:=kO O;have U:∀ r,(w0.heap.setIfInBounds g da)[r]? =if g=r then (if g<w0.heap.size then some da else none) else w0.heap[r]?:=fun r=>Array.getElem?_setIfInBounds;have aL:∀ r,A r→r≠g:=fun r E he=>ah (he▸E);have int:∀ {v:x4} {l:List Int},gH R w v l→gH (fun r=>R r∧r≠g) w' v l:=fun⟨⟨aM,hm⟩,aN⟩=>⟨⟨aM,hd hm J ch (by decide)⟩,fun r E=>⟨aN r E,bZ hm O (by decide) E⟩⟩;refine⟨fun r=>R r∧r≠g,ai,aj,al,ao,⟨h1,fun r E aO=>ap r E aO.1,fun r E=>by have:=aq r E.1;omega,fun r E=>by have:=au r E;omega⟩,aw,ay,az,L,aA,aB,{w0 with heap:=w0.heap.setIfInBounds g da},fL aC J ch (by decide),⟨?_,?_,?_⟩,
  ⟨aE.ad J fun r E=>aL r (ab r E),ab,aF,aG⟩,hd aH J ch (by decide),⟨lX aJ J ch (by decide),ac.1,fun j x f W aP=>?_⟩,lX aK J ch (by decide),ae.1,fun j x e W he=>?_⟩
 ·by_cases I:∃ o,w0.heap[g]? =some o∧fx o=true
  ·obtain⟨o,ag,aQ⟩:=I;have aS:ak w0 g a6 c:=by
    unfold ak at O ⊢;have:=V.bz g o ag aQ;rw[O] at this;rw[ag,this]
   refine aa.put aS ⟨by simp,fun r o E I aT=>?_⟩;show (w0.heap.setIfInBounds g da)[r]? =some o;rw[U,if_neg fun he=>aT he.symm];exact E
  ·refine aa.ext ⟨by simp,fun r o E aU=>?_⟩;show (w0.heap.setIfInBounds g da)[r]? =some o;rw[U,if_neg fun he=>I ⟨o,by rw[he];exact E,aU⟩];exact E
 ·refine⟨by show (w0.heap.setIfInBounds g da).size≤_;rw[Array.size_setIfInBounds];exact Y5 V.size z,fun r o E I=>?_⟩;have E:(w0.heap.setIfInBounds g da)[r]? =some o:=E;rw[U] at E;by_cases he:g=r
  ·rw[if_pos he] at E;split at E
   ·cases E;rw[af] at I;cases I
   ·cases E
  ·rw[if_neg he] at E;exact J.bz r o (V.bz r o E I) I fun h=>he h.symm
 ·intro r o E I;have E:(w0.heap.setIfInBounds g da)[r]? =some o:=E;rw[U] at E;by_cases he:g=r
  ·rw[if_pos he] at E;split at E
   ·cases E;rw[af] at I;cases I
   ·cases E
  ·rw[if_neg he] at E;exact⟨aD r o E I,fun h=>he h.symm⟩
 ·obtain⟨X,Y,Z⟩:=ac.2 j x f W aP;exact⟨int X,int Y,Z⟩
 ·obtain⟨X,Y,Z⟩:=ae.2 j x e W he;exact⟨X,int Y,int Z⟩
theorem Gy {E:List Int} {f:bW} (W:E.length≤60000) (h:e8 E=some f):∃ N,N≤60000∧eh N f∧f.name≠[]∧ ∀ b∈f.name,bF b=true:=by
 unfold e8 at h;rw[if_neg (by omega)] at h;cases I:fN ⟨(lex E).1,0,false,[]⟩ with
 |none=>rw[I] at h;cases h
 |some q=>
  obtain⟨X,s⟩:=q;rw[I] at h;simp only at h;split at h
  ·rename_i J;cases h;obtain⟨h1,O⟩:=wO rfl I J.2.2;have Y:=pv E.length E (o7 _);obtain⟨U,V,_⟩:=q9 E.length E (o7 _) f.name O;exact⟨_,by show (lex E).1.length≤60000;omega,h1,U,V⟩
  ·cases h
theorem zw {w:x5}:O y0 kb [.pointer none] w fun v w'=>v= .pointer none∧Ext w w':=by
 apply kb.enter;rw[b8 dl.u];simp only[Y9,bm];exact⟨by trivial,Ext.refl _⟩
theorem Gz {v:x4} {l:List Int} {w:x5} (h:aG .u8 w v l) (ab:l.length≤100000):O y0 nZ [v] w fun I w'=>Ext w w'∧ ∃ g,aq .u8 bi w' g I l:=by
 have E:=h;obtain⟨ac,b,o,base,cap,rfl,ad,hm,V,W⟩:=h;apply nZ.enter;rw[qW aX.u,cv];refine⟨fun X=>⟨Ext.refl _,0,?_⟩,fun _=>?_⟩
 ·have:l=[]:=by
   cases base with
   |none=>
        by_cases E:0<l.length
        ·have:=V E;cases this
        ·exact j5 (by omega)
   |some a=>cases X
  subst this;exact aq.nil _ _ _ _
 ·refine ux (k:=.u8) aX.u bi.i fun ae af ag ah J U=>?_;refine gn aX.u bi.i rfl U (E.ext J) (by simp;omega) (by simp;omega) fun I Y ai Z aj aa=>?_;exact⟨J.then aa (fun r W he=>by have:=(b1 U he).1;omega),Y,by simpa using Z⟩
theorem kQ.ch {w w':x5} {S:Nat→Prop} {e:o6} {B:Nat} {v:x4} {O:List qn} (h:kQ w B v O) (E:am S w w') (I:fS w S e) (h1:ve≠e) (U:J≠e):kQ w' B v O:=by
 obtain⟨g,V,W,X⟩:=h;exact⟨g,lX V E I h1,fun x Y=>by obtain⟨⟨Z,aa⟩,ab,ac⟩:=W x Y;exact⟨⟨Z,hd aa E I U⟩,ab,hd ac E I U⟩,X⟩
theorem fv.put {B:Nat} {w w':x5} {S:Nat→Prop} {v:x4} {k:Int} {sizes:List Int} {s:bh} (h:fv B w v k sizes s) (E:am S w w') (I:fS w S a6):fv B w' v k sizes s:=by
 obtain⟨aw,J,O,D,U,V,W,X,L,Y,Z,h1,aa,ab,ac,ad,ae,af,ag,ah,ai,aj⟩:=h;exact⟨aw,J,O,D,U,V,W,X,L,Y,Z,h1,hd aa E I (by decide),ab.ch E I (by decide) (by decide),ac,ad.ch E I (by decide),ae.ch E I (by decide) (by decide),af,ag.ch E I (by decide) (by decide) (by decide),ah,ai.ch E I (by decide) (by decide),aj⟩
theorem fv.low {B O:Nat} {w:x5} {v:x4} {k:Int} {sizes:List Int} {s:bh} (h:fv B w v k sizes s) (I:O≤B):fv O w v k sizes s:=by
 obtain⟨aw,U,V,D,W,X,Y,Z,L,aa,ab,h1,ac,⟨ad,ae,af,a3⟩,ag,⟨ah,ai,aj⟩,⟨ak,al,am,ao,ap⟩,aq,⟨au,d1,d2,d3,d4⟩,av,⟨ax,ay,az,aA⟩,aB⟩:=h;exact⟨aw,U,V,D,W,X,Y,Z,L,aa,ab,h1,ac,⟨ad,ae,af,fun r E=>Y5 I (a3 r E)⟩,ag,⟨ah,ai,fun r E=>Y5 I (aj r E)⟩,⟨ak,al,fun r E=>Y5 I (am r E),fun x J r E=>Y5 I (ao x J r E),ap⟩,aq,⟨au,d1,fun x J=>⟨(d2 x J).1,fun r E=>Y5 I ((d2 x J).2 r E)⟩,fun r E=>Y5 I (d3 r E),d4⟩,av,⟨ax,ay,az,fun r E=>Y5 I (aA r E)⟩,aB⟩
def uD (sv:x4):Prop:=∃ cs:List x4,sv= .agg cs.toArray∧cs.length=8∧ ∀ u∈cs,u.oneCell'=true
theorem fv.zx {B:Nat} {w:x5} {v:x4} {k:Int} {sizes:List Int} {s:bh} (h:fv B w v k sizes s):uD v:=by
 obtain⟨aw,W,X,D,Y,Z,aa,ab,L,ac,ad,rfl,E,⟨_,I,_⟩,ae,⟨_,J,_⟩,⟨_,⟨O,_⟩,_⟩,af,⟨_,U,_⟩,ag,⟨_,V,_⟩,ah⟩:=h;refine⟨[_,_,_,_,_,_,_,_],rfl,rfl,fun u hu=>?_⟩;simp at hu;rcases hu with rfl|rfl|rfl|rfl|rfl|rfl|rfl|rfl
 ·rfl
 ·exact E.ls.cells.2
 ·rfl
 ·exact (cJ I.sl).2
 ·exact (cJ J.sl).2
 ·exact (cJ O.sl).2
 ·exact (cJ U.sl).2
 ·exact (cJ V.sl).2
theorem zy:uD (.agg z12.toArray):=⟨z12,rfl,rfl,by intro u hu;simp[z12] at hu;rcases hu with rfl|rfl|rfl|rfl <;> rfl⟩
def zz (B:Nat) (w:x5) (E sv:x4) (f:bW):Prop:=∃ aI ax A R t N,eh N f∧E= .pointer (some ⟨aI,0,none⟩)∧dt w aI ax A R (dr f) (dJ (dr f)) t∧Plain t∧(∀ r,A r→B≤r)∧fv B w sv (dr f).k (dr f).sizes (dJ (dr f))
def GA (w:x5) (q:List Int) (v:x4) (w':x5):Prop:=Ext w w'∧ ∃ E sv ok,v= .tuple #[E,sv,.bool ok]∧uD sv∧((ok=false∧E= .pointer none)∨(ok=true∧ ∃ f,e8 q=some f∧zz w.heap.size w' E sv f))∧ ∀ f,e8 q=some f→jK f.funs≤16384→ok=true
theorem GB {N:Nat} {f:bW} (E:eh N f):(dr f).funs.length≤256:=by
 have h1:=(p3 E).2.length_eq;have J:=(iT E).2.2;have O:=List.length_filter_le eC (eu f);have U:=E.iN;have I:=(nr f (eD f).length).2.2.2;rw[r3] at I;omega
theorem GC {n:bS} {t:aR} (I:hA n) (J:n.funs.length≤256) (O:t.b2=(dJ n).cells) (E:Plain t):kK t:=by
 have h1:=ui I J n.unary.length n.funs.length;rw[yW,←O] at h1;unfold aR.b2 at h1;rw[o3] at h1;refine⟨by omega,?_,?_⟩
 ·rw[E.2.1];exact Y1 _
 ·rw[E.1];exact Y1 _
set_option maxHeartbeats 4000000 in
theorem zA {w:x5} {p:x4} {I:List Int} (aP:aG .u8 w p I) (ba:Bytes I) (bb:eF w):O y0 mc [p] w (GA w (I.take 300)):=by
 apply mc.enter;refine bU a6.i fun W bc bQ au am=>?_;have am:ak bc W a6 z12:=am;rw[aQ aX.u (aP.ext au),jA];refine Bh (i:=min I.length 300) (by omega) aX.u bi.i (aP.ext au) (by omega) fun bR av=>?_;have bd:I.take (min I.length 300)=I.take 300:=by
  by_cases h:I.length≤300
  ·rw[Nat.min_eq_left h,l5,Z1 h]
  ·rw[Nat.min_eq_right (by omega)]
 rw[bd] at av;have ao:Bytes (I.take 300):=fun b be=>ba b (List.mem_of_mem_take be);have bf:(I.take 300).length≤300:=by rw[l7];omega
 generalize I.take 300=q at av ao bf;refine (Gz av (by omega)).mono ?_;rintro bS bT _ ⟨aw,bV,ay⟩;have aR:=au.trans aw;refine (DZ ay.ls ao (by omega) (bb.ext aR)).mono ?_;rintro bW bX _ ⟨ai,U⟩;have aS:=aR.trans ai;cases X:e8 q with
 |none=>
  rw[X] at U;obtain⟨n,e,rfl,he⟩:=U;rw[aC (v:=.pointer none) rfl,aC (v:=.int .i64 n) rfl,aC (v:=.int .i64 e) rfl];refine (y9 (ay.ext ai).ls ao (by omega)).mono ?_;rintro bg az _ ⟨ac,aA,aB,aD,_⟩;obtain rfl:=aD X;rw[aC (v:=.pointer none) rfl,aC (v:=.int .i64 aA) rfl,aC (v:=.int .i64 aB) rfl];refine aV (fun v aj=>v= .bool true∧Ext az aj) ?_ ?_
  ·rintro _ aj ⟨rfl,Z⟩;rw[bm,cR (cs:=#[.int .i64 0,.slice none 0 0,.int .i64 0,.slice none 0 0,.slice none 0 0,.slice none 0 0,.slice none 0 0,.slice none 0 0]) (by kernel_rfl)];obtain⟨_,_,E,J⟩:=zy;refine b9 (vs:=z12) a6.i rfl rfl (by intro u hu;simp[z12] at hu;rcases hu with rfl|rfl|rfl|rfl <;> rfl) ((((am.ext aw).ext ai).ext ac).ext Z) fun bY bh bZ bj=>?_;rw[eB a6.p a6.i rfl bj.range];refine⟨((aS.trans ac).trans Z).then bh fun r U he=>by have he:r=W:=he;omega,_,_,false,rfl,zy,.inl ⟨rfl,rfl⟩,fun f aT=>?_⟩;rw[X] at aT;cases aT
  ·intro aE aa;rw[bC,ag];exact⟨fun _=>aa _ _ ⟨rfl,Ext.refl _⟩,fun h=>absurd he h⟩
 |some f=>
  rw[X] at U;obtain⟨bk,n,rfl,bl⟩:=U;obtain⟨N,bn,ad,bo,bp⟩:=Gy (by omega) X;have ae:=xT ad;have ap:=GB ad;rw[aC (v:=.pointer (some ⟨bk,0,none⟩)) rfl,aC (v:=.int .i64 n) rfl,aC (v:=.int .i64 0) rfl];refine (y9 (ay.ext ai).ls ao (by omega)).mono ?_;rintro bg az _ ⟨ac,aA,aB,_,aD⟩;obtain⟨bq,rfl,br⟩:=aD f X;rw[aC (v:=.pointer (some ⟨bq,0,none⟩)) rfl,aC (v:=.int .i64 aA) rfl,aC (v:=.int .i64 aB) rfl];refine aV (fun v aj=>v= .bool false∧Ext az aj) ?_ ?_
  rotate_left
  ·intro aE aa;rw[bC,ag];refine⟨fun h=>absurd rfl h,fun _=>?_⟩;rw[b8 qT.u];exact aa _ _ ⟨rfl,Ext.refl _⟩
  rintro _ aj ⟨rfl,Z⟩;rw[aU];have bt:=(aS.trans ac).trans Z;refine (E8 ((bl.ext ac).ext Z) ad bn ⟨bo,bp⟩).mono ?_;rintro b1 b2 _ ⟨aF,bu⟩;have aq:=bt.trans aF;have aH:=((((am.ext aw).ext ai).ext ac).ext Z).ext aF;have aW:=(br.ext Z).ext aF;have b3:=aq.size;have b4:w.heap.size≤W:=by omega
  have b5:=aH.lt;rcases bu with⟨bw,e,he,rfl⟩|⟨bx,rfl,bz⟩
  ·rw[aC (v:=.pointer none) rfl,aC (v:=.int .i64 e) rfl];refine zw.mono ?_;rintro _ aY _ ⟨rfl,Y⟩;refine iH (fun aJ t4 V=>aJ= .pointer none∧t4= .bool false∧Ext w V∧ ∃ cs:List x4,ak V W a6 cs∧cs.length=8∧ ∀ u∈cs,u.oneCell'=true) ?_ ?_
   ·rintro _ _ V ⟨rfl,rfl,aK,cs,aL,E,J⟩;rw[eB a6.p a6.i E aL.range];exact⟨aK,_,_,false,rfl,⟨cs,rfl,E,J⟩,.inl ⟨rfl,rfl⟩,fun b6 aZ bA=>absurd bA (by rw[X] at aZ;cases aZ;exact bw)⟩
   ·intro aE aa;refine (zi (aW.ext Y) ad).mono ?_;rintro bB bD _ ⟨ab,aM⟩;refine (zk aM ae.1 ap).mono ?_;rintro bE bF _ ⟨af,ah⟩;obtain⟨cs,rfl,E,J⟩:=ah.zx;rw[bM,ag];refine⟨fun h=>absurd h he,fun _=>?_⟩;refine b9 (vs:=cs) a6.i E rfl J (((aH.ext Y).ext ab).ext af) fun bG al bH aN=>?_;exact aa _ _ _ ⟨rfl,rfl,(((aq.trans Y).trans ab).trans af).then al fun r U he=>by have he:r=W:=he;omega,cs,aN,E,J⟩
  ·rw[aC (v:=.pointer (some ⟨bx,0,none⟩)) rfl,aC (v:=.int .i64 0) rfl];refine (Fx bz ae.1 ap).mono ?_;rintro _ aY _ ⟨Y,aI,ax,A,R,t,rfl,bJ,a1,a2,a7⟩;have bK:dt aY aI ax A R (dr f) (dJ (dr f)) t:=⟨bJ,a1,GC ae.1 ap a1 a2,Fh ae.1,ae.1⟩;refine iH (fun aJ t4 V=>aJ= .pointer (some ⟨aI,0,none⟩)∧t4= .bool true∧Ext w V∧ ∃ cs:List x4,ak V W a6 cs∧cs.length=8∧(∀ u∈cs,u.oneCell'=true)∧ ∃ R',dt V aI ax A R' (dr f) (dJ (dr f)) t∧fv w.heap.size V (.agg cs.toArray) (dr f).k (dr f).sizes (dJ (dr f))) ?_ ?_
   ·rintro _ _ V ⟨rfl,rfl,aK,cs,aL,E,J,R',bL,ah⟩;rw[eB a6.p a6.i E aL.range];exact⟨aK,_,_,true,rfl,⟨cs,rfl,E,J⟩,.inr ⟨rfl,f,X,aI,ax,A,R',t,N,ad,rfl,bL,a2,fun r U=>by have:=a7 r U;omega,ah⟩,fun _ _ _=>rfl⟩
   ·intro aE aa;refine (zi (aW.ext Y) ad).mono ?_;rintro bB bD _ ⟨ab,aM⟩;refine (zk aM ae.1 ap).mono ?_;rintro bE bF _ ⟨af,ah⟩;obtain⟨cs,rfl,E,J⟩:=ah.zx;rw[bM,ag];refine⟨fun _=>?_,fun h=>absurd rfl h⟩;rw[pp bI.u];have aO:=((aH.ext Y).ext ab).ext af;have bN:=((aq.trans Y).trans ab).trans af;refine b9 (vs:=cs) a6.i E rfl J aO fun bG al bH aN=>?_;have a8:=(bK.ext ab).ext af;obtain⟨R',bO⟩:=a8.1.put aO al fun h=>by have:=a7 W h;omega
    have bP:=((aq.trans Y).trans ab).size;exact aa _ _ _ ⟨rfl,rfl,bN.then al fun r U he=>by have he:r=W:=he;omega,cs,aN,E,J,R',⟨bO,a8.2⟩,(ah.put al (kO aO)).low bP⟩
section
variable {w:x5} {i v j c:x4}
theorem GD:O y0 iz [.pointer none,i,v] w fun r w'=>r= .tuple #[.int .i64 0,.int .i64 2]∧Ext w w':=by
 apply iz.enter;rw[b8 bI.u];simp only[Y9,bm];exact⟨by trivial,Ext.refl _⟩
theorem GF:O y0 jp [.pointer none,j,v] w fun r w'=>r= .tuple #[.int .i64 0,.int .i64 2]∧Ext w w':=by
 apply jp.enter;rw[b8 bI.u];simp only[Y9,bm];exact⟨by trivial,Ext.refl _⟩
theorem GG:O y0 kc [.pointer none,i,v] w fun r w'=>r= .tuple #[.int .i64 0,.int .i64 2]∧Ext w w':=by
 apply kc.enter;rw[b8 bI.u];simp only[Y9,bm];exact⟨by trivial,Ext.refl _⟩
theorem GH:O y0 jn [.pointer none,v] w fun r w'=>r= .tuple #[.int .i64 0,.int .i64 2]∧Ext w w':=by
 apply jn.enter;rw[b8 bI.u];simp only[Y9,bm];exact⟨by trivial,Ext.refl _⟩
theorem uE:O y0 k2 [.pointer none,v,c] w fun r w'=>r= .int .i64 2∧Ext w w':=by
 apply k2.enter;rw[b8 bI.u];simp only[Y9,bm];exact⟨by trivial,Ext.refl _⟩
theorem GI:O y0 nU [.pointer none,c] w fun r w'=>r= .int .i64 2∧Ext w w':=by
 apply nU.enter;refine uE.mono ?_;rintro _ I _ ⟨rfl,E⟩;exact⟨rfl,E⟩
theorem GJ:O y0 j8 [.pointer none,i,v] w fun r w'=>r= .int .i64 2∧Ext w w':=by
 apply j8.enter;rw[b8 bI.u];simp only[Y9,bm];exact⟨by trivial,Ext.refl _⟩
theorem GK:O y0 nP [.pointer none,j] w fun r w'=>r= .int .i64 2∧Ext w w':=by
 apply nP.enter;rw[b8 bI.u];simp only[Y9,bm];exact⟨by trivial,Ext.refl _⟩
theorem GL:O y0 nS [.pointer none,j] w fun r w'=>r= .int .i64 2∧Ext w w':=by
 apply nS.enter;rw[b8 bI.u];simp only[Y9,bm];exact⟨by trivial,Ext.refl _⟩
theorem GM:O y0 nX [.pointer none,v] w fun r w'=>r= .int .i64 2∧Ext w w':=by
 apply nX.enter;refine cc fun g I J E U=>?_;rw[b8 bI.u];simp only[Y9,bm];exact⟨by trivial,E⟩
theorem uF:O y0 eT [.pointer none] w fun r w'=>r= .pointer none∧Ext w w':=by
 apply eT.enter;rw[b8 bI.u];simp only[Y9,bm];exact⟨by trivial,Ext.refl _⟩
theorem GN:O y0 k3 [.pointer none] w fun r w'=>r= .int .i64 0∧Ext w w':=by
 apply k3.enter;rw[b8 dl.u];simp only[Y9,bm];exact⟨by trivial,Ext.refl _⟩
theorem GO:O y0 ju [.pointer none] w fun r w'=>r= .int .i64 0∧Ext w w':=by
 apply ju.enter;rw[b8 dl.u];simp only[Y9,bm];exact⟨by trivial,Ext.refl _⟩
theorem GP:O y0 gQ [.pointer none] w fun r w'=>r= .int .i64 0∧Ext w w':=by
 apply gQ.enter;refine uF.mono ?_;rintro _ J _ ⟨rfl,E⟩;refine GN.mono ?_;rintro _ U _ ⟨rfl,I⟩;exact⟨rfl,E.trans I⟩
theorem zB:O y0 iA [.pointer none] w fun r w'=>r= .int .i64 0∧Ext w w':=by
 apply iA.enter;refine uF.mono ?_;rintro _ J _ ⟨rfl,E⟩;refine GO.mono ?_;rintro _ U _ ⟨rfl,I⟩;exact⟨rfl,E.trans I⟩
theorem qp:O y0 hQ [.pointer none] w fun r w'=>r= .int .i64 0∧Ext w w':=by
 apply hQ.enter;rw[b8 bI.u];simp only[Y9,bm];exact⟨by trivial,Ext.refl _⟩
theorem GQ:O y0 nQ [.pointer none] w fun r w'=>r= .int .i64 0∧Ext w w':=by
 apply nQ.enter;rw[b8 bI.u];simp only[Y9,bm];exact⟨by trivial,Ext.refl _⟩
theorem GR:O y0 nR [.pointer none] w fun r w'=>r= .int .i64 0∧Ext w w':=by
 apply nR.enter;rw[b8 bI.u];simp only[Y9,bm];exact⟨by trivial,Ext.refl _⟩
theorem GS:O y0 jq [.pointer none] w fun r w'=>r= .int .i64 0∧Ext w w':=by
 apply jq.enter;rw[b8 bI.u];simp only[Y9,bm];exact⟨by trivial,Ext.refl _⟩
theorem GU:O y0 nT [.pointer none] w fun r w'=>r= .slice none 0 0∧Ext w w':=by
 apply nT.enter;rw[b8 bI.u];simp only[Y9,bm];exact⟨by trivial,Ext.refl _⟩
theorem GV:O y0 me [.pointer none] w fun r w'=>r= .slice none 0 0∧Ext w w':=by
 apply me.enter;refine cc fun g I V J E=>?_;have E:ak I g bI [.pointer none]:=E;rw[al (v:=.pointer none) (by kernel_rfl) (E.cell (o:=0) rfl),b8 bI.u];simp only[Y9,bm];intro W U _;exact⟨by trivial,J.trans U⟩
theorem uG {n:Int}:O y0 iB [.pointer none,.int .i64 n] w fun r w'=>r= .bool false∧Ext w w':=by
 apply iB.enter;refine aV (fun v E=>v= .bool false∧Ext w E) (fun _ _ h=>h) fun V I=>?_;rw[cw,ag];refine⟨fun J=>?_,fun J=>I _ _ ⟨rfl,Ext.refl _⟩⟩;refine zB.mono ?_;rintro _ E _ ⟨rfl,U⟩;rw[au];exact I _ _ ⟨by rw[decide_eq_false (by omega)],U⟩
theorem GW {n:Int}:O y0 js [.pointer none,.int .i64 n,v] w fun r w'=>r= .int .i64 (-1)∧Ext w w':=by
 apply js.enter;refine aV (fun r E=>r= .bool true∧Ext w E) ?_ ?_
 ·rintro _ E ⟨rfl,I⟩;rw[bm];exact⟨rfl,I⟩
 ·intro V J;refine uG.mono ?_;rintro _ W _ ⟨rfl,U⟩;rw[b4,Y8,bm];exact J _ _ ⟨rfl,U⟩
theorem GX {n:Int}:O y0 nV [.pointer none,.int .i64 n,v,c] w fun r w'=>r= .int .i64 2∧Ext w w':=by
 apply nV.enter;refine GW.mono ?_;rintro _ J _ ⟨rfl,E⟩;refine uE.mono ?_;rintro _ U _ ⟨rfl,I⟩;exact⟨rfl,E.trans I⟩
theorem zC {n:Int}:O y0 ff [.pointer none,.int .i64 n] w fun r w'=>r= .bool false∧Ext w w':=by
 apply ff.enter;refine aV (fun v J=>v= .bool false∧Ext w J) (fun _ _ h=>h) fun W E=>?_;intro X I _ _;rw[cw,ag];refine⟨fun U=>?_,fun U=>E _ _ ⟨rfl,I⟩⟩;refine qp.mono ?_;rintro _ Y _ ⟨rfl,V⟩;rw[au,ag];exact⟨fun h=>by omega,fun _=>E _ _ ⟨rfl,I.trans V⟩⟩
theorem GY {n:Int}:O y0 kg [.pointer none,.int .i64 n,v] w fun r w'=>r= .int .i64 (-1)∧Ext w w':=by
 apply kg.enter;refine zC.mono ?_;rintro _ I _ ⟨rfl,E⟩;rw[b4,Y8,bm];exact⟨rfl,E⟩
theorem GZ {n:Int}:O y0 nW [.pointer none,.int .i64 n,v,c] w fun r w'=>r= .int .i64 2∧Ext w w':=by
 apply nW.enter;refine GY.mono ?_;rintro _ J _ ⟨rfl,E⟩;refine uE.mono ?_;rintro _ U _ ⟨rfl,I⟩;exact⟨rfl,E.trans I⟩
theorem G0 {n:Int}:O y0 gR [.pointer none,.int .i64 n] w fun r w'=>r= .bool false∧Ext w w':=by
 apply gR.enter;refine aV (fun v E=>v= .bool false∧Ext w E) (fun _ _ h=>h) fun V I=>?_;intro W J _ _;refine uG.mono ?_;rintro _ X _ ⟨rfl,U⟩;rw[aU];exact I _ _ ⟨rfl,J.trans U⟩
theorem G1 {n:Int}:O y0 gP [.pointer none,.int .i64 n] w fun r w'=>r=h6 0 0∧Ext w w':=by
 apply gP.enter;refine bU bk.i fun I U Y V E=>?_;have E:ak U I bk [.int .u64 0,.int .i64 0]:=E;refine uG.mono ?_;rintro _ Z _ ⟨rfl,J⟩;rw[b4,Y8,bm,cR (cs:=#[.int .u64 0,.int .i64 0]) (by kernel_rfl)];refine b9 (vs:=[.int .u64 0,.int .i64 0]) bk.i rfl rfl (by intro u hu;simp at hu;rcases hu with rfl|rfl <;> rfl) (E.ext J) fun aa W ab X=>?_;rw[eB bk.p bk.i rfl X.range];exact⟨rfl,(V.trans J).then W fun r ac he=>by have he:r=I:=he;omega⟩
theorem G2 {n:Int}:O y0 hh [.pointer none,.int .i64 n] w fun r w'=>r= .slice none 0 0∧Ext w w':=by
 apply hh.enter;refine aV (fun v E=>v= .bool true∧Ext w E) ?_ ?_
 ·rintro _ E ⟨rfl,J⟩;rw[bm];exact⟨rfl,J⟩
 intro V I;rw[au,ag];refine⟨fun _=>I _ _ ⟨rfl,Ext.refl _⟩,fun W=>?_⟩;refine qp.mono ?_;rintro _ X _ ⟨rfl,U⟩;rw[cw];exact I _ _ ⟨by rw[decide_eq_true (by omega)],U⟩
theorem G3:O y0 nY [.pointer none,i] w fun r w'=>r= .slice none 0 0∧Ext w w':=by
 apply nY.enter;refine qp.mono ?_;rintro _ U _ ⟨rfl,I⟩;refine ba.range 0 (fun q o E=>o= .slice none 0 0∧Ext w E) (by omega) ⟨rfl,I⟩ (fun q _ _ _ h=>by omega) ?_;rintro _ E V ⟨rfl,J⟩;rw[au,ag];exact⟨fun h=>by omega,fun _=>⟨rfl,J⟩⟩
theorem G4:O y0 fg [.pointer none,i] w fun r w'=>r= .int .i64 (-1)∧Ext w w':=by
 apply fg.enter;refine qp.mono ?_;rintro _ U _ ⟨rfl,I⟩;refine ba.range 0 (fun q o E=>Ext w E) (by omega) I (fun q _ _ _ h=>by omega) ?_;rintro _ E V J;rw[au,ag];exact⟨fun h=>by omega,fun _=>⟨rfl,J⟩⟩
end
def sg (n:bS) (s:bh) (l:List Int) (i:Nat):Prop:=∃ v,l[i]? =some v∧0≤v∧v<n.sizes.length∧jc s v.toNat=false∧(0<i→l.getD (i-1) 0<v)
def G5 (n:bS) (s:bh) (l:List Int):Prop:=∀ i,i<l.length→sg n s l i
section
variable {w:x5} {aI ax:Nat} {A R:av} {n:bS} {s:bh} {t:aR}
theorem G6 {af:x4} {l:List Int} (h:dt w aI ax A R n s t) (U:aG .i64 w af l):O y0 oj [.pointer (some ⟨aI,0,none⟩),af] w fun v w'=>(∃ b,v= .bool b∧(b=true↔G5 n s l))∧Ext w w':=by
 apply oj.enter;rw[aQ ab.u U];refine ba.range l.length (fun i _ ac=>Ext w ac∧ ∀ q,q<i→sg n s l q) U.le ⟨Ext.refl _,fun q am=>by omega⟩ ?_ ?_
 ·rintro i _ ac ao hi ⟨V,ad⟩ ap;obtain⟨x,W⟩:∃ x,l[i]? =some x:=⟨_,x3 hi⟩;rw[au,ag];refine⟨fun _=>?_,fun h=>by omega⟩;rw[bw ab.u J.i (by kernel_rfl) (U.ext V) W];have ah:∀ {p:Prop},(¬(0≤x∧x<n.sizes.length∧jc s x.toNat=false∧(0<i→l.getD (i-1) 0<x)))→sg n s l i→p:=fun aq ⟨v,X,I⟩=>by
   rw[W] at X;cases X;exact absurd I aq
  refine aV (fun v ai=>∃ b,v= .bool b∧(b=false↔sg n s l i)∧Ext w ai) ?_ ?_
  ·rintro _ ai ⟨b,rfl,E,aj⟩;rw[cv];refine⟨fun av=>⟨⟨false,rfl,⟨(fun h=>by cases h),fun h=>?_⟩⟩,aj⟩,fun aw=>?_⟩
   ·have:=E.2 (h i hi);rw[av] at this;cases this
   ·rw[aL];refine ap _ _ ⟨aj,fun q am=>?_⟩;by_cases ay:q=i
    ·rw[ay];exact E.1 aw
    ·exact ad q (by omega)
  intro aE Z;refine (se (h.ext V)).mono ?_;rintro _ aF _ ⟨rfl,az⟩;have ae:=V.trans az;rw[b4,cv];refine⟨fun E=>Z _ _ ⟨true,rfl,⟨(fun h=>by cases h),fun h=>?_⟩,ae⟩,fun E=>?_⟩
  ·exact ah (fun I=>by rw[decide_eq_true ⟨I.1,I.2.1⟩] at E;cases E) h
  have E:0≤x∧x<n.sizes.length:=by simpa using E
  refine (uC (h.ext ae)).mono ?_;rintro _ aH _ ⟨rfl,aA⟩;have aa:=ae.trans aA;rw[decide_eq_true E.1,Bool.true_and,cv];refine⟨fun Y=>Z _ _ ⟨true,rfl,⟨(fun h=>by cases h),fun h=>?_⟩,aa⟩,fun Y=>?_⟩
  ·exact ah (fun I=>by rw[I.2.2.1] at Y;cases Y) h
  rw[bT,ag];refine⟨fun aJ=>?_,fun aK=>Z _ _ ⟨false,rfl,⟨fun _=>⟨x,W,E.1,E.2,Y,fun h=>by omega⟩,fun _=>rfl⟩,aa⟩⟩;obtain⟨y,ak⟩:∃ y,l[i-1]? =some y:=⟨_,x3 (by omega)⟩;have al:l.getD (i-1) 0=y:=by rw[p8,ak];rfl
  have aM:=U.le;rw[dw,wrap_i64 (by omega) (by omega),eV (y:=(i:Int)-1) (i:=i-1) (by omega) ab.u J.i (by kernel_rfl) (U.ext aa) ak,cw];refine Z _ _ ⟨_,rfl,⟨fun aB=>⟨x,W,E.1,E.2,Y,fun _=>?_⟩,fun aC=>?_⟩,aa⟩
  ·have:=of_decide_eq_false aB;rw[al];omega
  ·obtain⟨v,X,_,_,_,aD⟩:=aC;rw[W] at X;cases X;have:=aD (by omega);rw[al] at this;rw[decide_eq_false];omega
 ·rintro _ ac ao ⟨V,ad⟩;rw[au,ag];exact⟨fun h=>by omega,fun _=>⟨⟨true,rfl,⟨fun _=>ad,fun _=>rfl⟩⟩,V⟩⟩
theorem G7 {U:x4} {l:List Int} (h:dt w aI ax A R n s t) (V:aG .i64 w U l):O y0 kc [.pointer (some ⟨aI,0,none⟩),U,.pointer none] w fun r w'=>r= .tuple #[.int .i64 0,.int .i64 1]∧Ext w w':=by
 apply kc.enter;rw[b8 bI.u];simp only[c9,aU];refine aV (fun v I=>v= .bool true∧Ext w I) ?_ ?_
 ·rintro _ I ⟨rfl,E⟩;rw[bm];exact⟨by trivial,E⟩
 intro W J;rw[aQ ab.u V,au,ag];refine⟨fun _=>J _ _ ⟨rfl,Ext.refl _⟩,fun _=>?_⟩;refine (G6 h V).mono ?_;rintro _ I _ ⟨⟨b,rfl,_⟩,E⟩;rw[b4,cv];refine⟨fun _=>J _ _ ⟨rfl,E⟩,fun _=>?_⟩;rw[b8 bB.u];simp only[Y9,bm];exact J _ _ ⟨rfl,E⟩
def G8 (s:bh) (l:List Int) (r:Int):Prop:=(r= -1∧ ∀ f∈s.funs,¬(f.live≠0∧f.sc=l))∨ ∃ (j:Nat) (f:iW),r=j∧s.funs[j]? =some f∧f.live≠0∧f.sc=l∧ ∀ (q:Nat) g,q<j→s.funs[q]? =some g→¬(g.live≠0∧g.sc=l)
theorem G9 {ad:x4} {l:List Int} (h:dt w aI ax A R n s t) (ak:aG .i64 w ad l):O y0 fg [.pointer (some ⟨aI,0,none⟩),ad] w fun v w'=>(∃ r:Int,v= .int .i64 r∧G8 s l r)∧Ext w w':=by
 have aR:=qo h.2.1 h.2.2.1;apply fg.enter;refine (uB h).mono ?_;rintro _ aS _ ⟨rfl,am⟩;have ao:s.funs.length≤9223372036854775807:=by
  obtain⟨ap,aq,ae,av,aw,ay,L,aA,E,aB,aC,aD,U,J⟩:=h.1.parts;have:=U.le;rw[J.1] at this;omega
 refine ba.range s.funs.length (fun j _ aa=>Ext w aa∧ ∀ (q:Nat) g,q<j→s.funs[q]? =some g→¬(g.live≠0∧g.sc=l)) ao ⟨am,fun q g V=>by omega⟩ ?_ ?_
 rotate_left
 ·rintro _ aa aE ⟨W,X⟩;rw[au,ag];refine⟨fun h=>by omega,fun _=>⟨⟨-1,rfl,.inl ⟨rfl,fun f I=>?_⟩⟩,W⟩⟩;obtain⟨q,V,rfl⟩:=List.mem_iff_getElem.1 I;exact X q _ V (x3 V)
 rintro j _ aa aE aF ⟨W,X⟩ aH;obtain⟨f,I⟩:∃ f,s.funs[j]? =some f:=⟨_,x3 aF⟩;rw[au,ag];refine⟨fun _=>?_,fun h=>by omega⟩;refine aV (fun v ab=>v= .bool (decide (f.live≠0)&&decide (f.sc=l))∧Ext w ab) ?_ ?_
 ·rintro _ ab ⟨rfl,Y⟩;rw[cv];refine⟨fun E=>⟨⟨(j:Int),rfl,.inr ⟨j,f,rfl,I,?_⟩⟩,Y⟩,fun E=>?_⟩
  ·rw[V7,decide_eq_true_eq,decide_eq_true_eq] at E;exact⟨E.1,E.2,X⟩
  ·rw[aL];refine aH _ _ ⟨Y,fun q g V ac=>?_⟩;by_cases aJ:q=j
   ·subst aJ;rw[I] at ac;cases ac;intro af;rw[decide_eq_true af.1,decide_eq_true af.2] at E;cases E
   ·exact X q g (by omega) ac
 intro aT ai;refine (sf (j:=(j:Int)) (h.ext W)).mono ?_;rintro _ ab _ ⟨rfl,Y⟩;have Z:=W.trans Y;have aK:fw s ((j:Int)).toNat=decide (f.live≠0):=by
  unfold fw;rw[c7,I]
 rw[decide_eq_true (Int.natCast_nonneg j),Bool.true_and,aK,ag];refine⟨fun aN=>?_,fun aO=>ai _ _ ⟨by rw[decide_eq_false aO];rfl,Z⟩⟩;obtain⟨ap,aq,ae,av,aw,ay,L,aA,E,aB,aC,aD,U,J⟩:=(h.ext Z).1.parts;obtain⟨y,aj⟩:∃ y,L[j]? =some y:=⟨_,x3 (by rw[J.1];omega)⟩;obtain⟨aP,_,_⟩:=J.2 j y f aj I;rw[az,ah aM.p rfl,al (v:=ae) (by kernel_rfl) (E.cell (o:=0+3) rfl),cT rfl bc.u cj.i U (by rw[J.1];omega),ah cj.p rfl,al (v:=y.a7) (by kernel_rfl) (U.range aj 0 _ rfl)];refine (vG aP.ls (ak.ext Z)).mono ?_;rintro _ aU _ ⟨rfl,aQ⟩;exact ai _ _ ⟨by rw[decide_eq_true aN,Bool.true_and],Z.trans aQ⟩
theorem Ha {j:Int} (h:dt w aI ax A R n s t) (V:¬(0≤j∧j<s.funs.length)):O y0 hh [.pointer (some ⟨aI,0,none⟩),.int .i64 j] w fun r w'=>r= .slice none 0 0∧Ext w w':=by
 apply hh.enter;refine aV (fun v E=>v= .bool true∧Ext w E) ?_ ?_
 ·rintro _ E ⟨rfl,J⟩;rw[bm];exact⟨rfl,J⟩
 intro W I;rw[au,ag];refine⟨fun _=>I _ _ ⟨rfl,Ext.refl _⟩,fun X=>?_⟩;refine (uB h).mono ?_;rintro _ Y _ ⟨rfl,U⟩;rw[cw];exact I _ _ ⟨by rw[decide_eq_true (by omega)],U⟩
end
section
variable {w:x5} {B:Nat} {sv:x4} {k:Int} {sizes:List Int} {s:bh}
theorem zD {i:Int} (h:fv B w sv k sizes s):O y0 ka [sv,.int .i64 i] w fun v w'=>v= .bool (decide (0≤i∧i<sizes.length))∧Ext w w':=by
 apply ka.enter;refine cc fun X Y Z E I=>?_;obtain⟨aw,aa,ac,D,ad,ae,af,ai,L,aj,ak,_,I,V,_⟩:=zv h E I;refine aV (fun v W=>v= .bool (decide (0≤i∧i<sizes.length))∧Ext w W) (fun _ _ h=>h) fun am J=>?_;rw[cw,ag];refine⟨fun U=>?_,fun U=>J _ _ ⟨by rw[decide_eq_false];omega,E⟩⟩;rw[ah a6.p rfl,al (v:=aw) (by kernel_rfl) (I.cell (o:=0+1) rfl),aQ ab.u V.ls,au];refine J _ _ ⟨?_,E⟩;congr 1;exact decide_eq_decide.2 ⟨fun h=>⟨U,h⟩,fun h=>h.2⟩
theorem Hb {j:Int} (h:fv B w sv k sizes s):O y0 jo [sv,.int .i64 j] w fun v w'=>v= .bool (decide (0≤j)&&fw s j.toNat)∧Ext w w':=by
 apply jo.enter;refine cc fun ae af ai E I=>?_;obtain⟨aw,aj,ak,D,am,ao,ap,W,L,aq,av,_,I,ax,_,_,_,_,_,⟨ay,J,az,_⟩,X,_⟩:=zv h E I;have aA:L.length=s.funs.length:=by have:=congrArg V4 X;simpa using this
 refine aV (fun v ab=>v= .bool (decide (0≤j)&&fw s j.toNat)∧Ext w ab) (fun _ _ h=>h) fun aB U=>?_;rw[cw,ag];refine⟨fun V=>?_,fun V=>U _ _ ⟨by rw[decide_eq_false V];rfl,E⟩⟩;rw[ah a6.p rfl,al (v:=W) (by kernel_rfl) (I.cell (o:=0+6) rfl),eb dX.u J,au,ag];refine⟨fun aC=>?_,fun aD=>U _ _ ⟨?_,E⟩⟩
 ·obtain⟨y,Y⟩:∃ y,L[j.toNat]? =some y:=⟨_,x3 (by omega)⟩;obtain⟨f,Z⟩:∃ f,s.funs[j.toNat]? =some f:=⟨_,x3 (by omega)⟩;have ac:nx y=qm f:=by
   have aa:(L.map nx)[j.toNat]? =some (nx y):=by rw[r9,Y];rfl
   rw[X,r9,Z] at aa;exact (Z2 aa).symm
  have ad:y.2=decide (f.live≠0):=congrArg (·.2.2) ac;rw[ah a6.p rfl,al (v:=W) (by kernel_rfl) (I.cell (o:=0+6) rfl),cT (i:=j.toNat) (by omega) dX.u gv.i J (by omega),ah gv.p rfl,al (v:=.bool y.2) (by kernel_rfl) (J.range Y 3 _ rfl)];refine U _ _ ⟨?_,E⟩;rw[decide_eq_true V,Bool.true_and,ad];unfold fw;rw[Z]
 ·unfold fw;rw[Z7 (by omega),Bool.and_false]
end
def ip:List Int:=[116,32,50,32,50,32,49,32,57,32,50,32,50,10,50,32,48,32,49,32,48,32,49,10,49,32,49,32,53,10]
def e4:bW:=⟨[116],9,[2,2],[⟨[0,1],[2,2],0,[([1,1],5)]⟩]⟩
theorem Hc:e8 ip=some e4:=by
 have h:(match e8 ip with
  |some f=>decide (f.name=e4.name∧f.k=e4.k∧f.sizes=e4.sizes)&&decide (f.funs.map (fun x=>(x.scope,x.sizes,x.other,x.lines))=e4.funs.map fun x=>(x.scope,x.sizes,x.other,x.lines))
  |none=>false)=true:=by decide+kernel
 cases J:e8 ip with
 |none=>rw[J] at h;cases h
 |some f=>
  rw[J] at h;simp only[V7,decide_eq_true_eq] at h;obtain⟨⟨h1,O,U⟩,E⟩:=h;obtain⟨W,k,X,I⟩:=f;simp only at h1 O U E;subst h1;subst O;subst U;have:I=e4.funs:=by
   have V:I.length=1:=by have:=congrArg V4 E;simpa[e4] using this
   match I,V with
   |[x],_=>
    obtain⟨a,b,c,d⟩:=x;simp[e4] at E;obtain⟨rfl,rfl,rfl,rfl⟩:=E;rfl
  subst this;rfl
def sh (s:bh) (a:List Int):Bool:=decide (a.length=s.vars.length)&&(s.vars.zip a).all fun p=>decide (p.1.gone≠0∨(0≤p.2∧p.2<p.1.un.length))
theorem zE {s:bh} {a:List Int}:sh s a=true↔qg s a:=by
 unfold sh qg;rw[V7,decide_eq_true_eq,List.all_eq_true];refine and_congr Iff.rfl ⟨fun h i x v E I=>?_,fun h p J=>?_⟩
 ·have:=h (x,v) (X1.2 ⟨i,by rw[List.getElem?_zip_eq_some];exact⟨E,I⟩⟩);exact of_decide_eq_true this
 ·obtain⟨i,hi⟩:=X1.1 J;obtain⟨x,v⟩:=p;rw[List.getElem?_zip_eq_some] at hi;exact decide_eq_true (h i x v hi.1 hi.2)
theorem Hd:jK e4.funs≤16384:=by decide+kernel
theorem He:e3 (dr e4) 1 1:=by decide+kernel
theorem Hf:sh (jV (dJ (dr e4)) 1 1) [1,1]=true:=by decide+kernel
theorem Hg:sh (jV (dJ (dr e4)) 1 1) [1,0]=true:=by decide+kernel
theorem Hh:ns (dr e4).k (jV (dJ (dr e4)) 1 1) [1,1]=9:=by decide+kernel
theorem Hi:ns (dr e4).k (jV (dJ (dr e4)) 1 1) [1,0]=0:=by decide+kernel
theorem Hj {w:x5} {g n c:Nat} {cs:List x4} {K:x4→x5→Prop} (E:ak w g bi cs) (O:∀ w',am (fun r=>r=g) w w'→(∀ o vs,w.rangeAt g o vs→w'.rangeAt g o vs)→K (.slice (some ⟨g,0,none⟩) n c) w'):
  aa y0 (convert aX aX (.slice (some ⟨g,0,none⟩) n c)) w K:=by
 have J:∀ r,(w.freeze ⟨g,cs.length,none⟩ 1).heap[r]? =if g=r then (w.heap[r]?).map (fun| .cells c U (lo,hi)=>.cells c U (if lo == hi then (cs.length,cs.length+1) else (min lo cs.length,max hi (cs.length+1)))|o=>o) else w.heap[r]?:=fun r=>by
  unfold x5.freeze;rw[if_neg (by decide)];exact Array.getElem?_modify
 have ac:(w.freeze ⟨g,cs.length,none⟩ 1).heap.size=w.heap.size:=by
  unfold x5.freeze;rw[if_neg (by decide)];exact Array.size_modify
 have V:w.shape? g=some (bi,cs.length):=by
  unfold x5.shape?;unfold ak at E;rw[E];simp
 have W:(convert aX aX (.slice (some ⟨g,0,none⟩) n c)).run y0 w= .ok (.slice (some ⟨g,0,none⟩) n c) (w.freeze ⟨g,cs.length,none⟩ 1):=by
  simp[convert,run_underlying aX.u,run_underlying bi.u,markStringish,V]
 unfold ak at E;refine .of W ⟨by unfold x5.freeze;rw[if_neg (by decide)],.ir (by unfold x5.freeze;rw[if_neg (by decide)]) (by unfold x5.freeze;rw[if_neg (by decide)]),by unfold x5.freeze;rw[if_neg (by decide)],by omega,fun r o I X=>?_⟩ (O _ ⟨by omega,fun r o I _ Y=>?_⟩ fun o vs Z j v ab=>?_)
 ·rw[J];by_cases he:g=r
  ·subst he;rw[E] at I;cases I;cases X
  ·rw[if_neg he];exact I
 ·rw[J,if_neg fun he=>Y he.symm];exact I
 ·have h1:=Z j v ab;unfold x5.cell? at h1 ⊢;rw[J,if_pos rfl];rw[E] at h1 ⊢;exact h1
theorem Hk {w:x5} (ap:eF w):O y0 nN [] w fun v w'=>v= .bool true∧Ext w w':=by
 apply nN.enter;refine hZ (k:=1) (cs:=(ints .u8 ip).toArray) aX.u bi.i (by omega) (by kernel_rfl) fun g au bh E U=>?_;have aa:aq .u8 bi au g (.slice (some ⟨g,0,none⟩) 30 30) ip:=aq.of (n:=30) (bR.full (by simpa using U) (by simp[ip]) (by simp[maxLen]));refine Hj U fun V ac ad=>?_;have E:Ext w V:=E.then ac fun r ae he=>by have he:r=g:=he;omega
 have av:aG .u8 V (.slice (some ⟨g,0,none⟩) 30 30) ip:=by
  obtain⟨aw,b,o,base,cap,ay,az,aA,aB,aD⟩:=aa.ls;cases ay;cases aB (by simp[ip]);exact⟨aw,g,0,_,30,rfl,az,aA,fun _=>rfl,ad _ _ aD⟩
 clear aa U ad ac;refine (zA av (by intro b aE;simp[ip] at aE;omega) (ap.ext E)).mono ?_;rintro _ af _ ⟨aF,aH,sv,ok,rfl,⟨cs,rfl,aJ,aK⟩,aL,aM⟩;have ah:e8 (ip.take 300)=some e4:=by
  rw[Z1 (by decide)];exact Hc
 have aN:ok=true:=aM e4 ah Hd;subst aN;obtain⟨f,ai,aI,ax,A,R,t,N,bj,rfl,aO,aQ,aR,bk⟩:∃ f,e8 (ip.take 300)=some f∧zz V.heap.size af aH (.agg cs.toArray) f:=by
  rcases aL with⟨h,_⟩|⟨_,h⟩
  ·cases h
  ·exact h
 rw[ah] at ai;cases ai;have aS:=E.trans aF;rw[aC (v:=.pointer (some ⟨aI,0,none⟩)) rfl,aC (v:=.agg cs.toArray) rfl,aC (v:=.bool true) rfl];refine bU a6.i fun aP bl bm aT aW=>?_;refine b9 (vs:=cs) a6.i aJ rfl aK aW fun aY aZ bn bo=>?_;have aj:Ext af aY:=aT.then aZ fun r ae he=>by have he:r=aP:=he;omega
 have a1:=aO.ext aj;refine aV (fun v W=>v= .bool false∧Ext w W∧ ∃ I ak,dt W aI ax I R (dr e4) (jV (dJ (dr e4)) 1 1) ak) ?_ ?_
 rotate_left
 ·intro a2 X;rw[b4,Y7,aU];refine (Gw (i:=1) (v:=1) a1 (.inl aQ.1)).mono ?_;rintro bp bq _ ⟨_,a7⟩;obtain⟨rfl,br,I,x,a8,ba⟩:=a7 He;rw[bC];refine X _ _ ⟨by congr 1,?_,I,_,ba⟩;exact (aS.trans aj).then a8.1 fun r ae h=>by have:=aR r h;have:=E.size;omega
 rintro _ W ⟨rfl,bb,I,ak,al⟩;rw[aU];refine py (l:=[1,1]) ab.u J.i (by omega) rfl (by kernel_rfl) fun bt bu bw bx Y bc=>?_;refine (zt (al.ext Y) bc.ls).mono ?_;rintro _ bz _ ⟨⟨Z,_⟩,am⟩;obtain rfl:=Z (zE.1 Hf);rw[Hh,aC (v:=.int .i64 9) rfl,aC (v:=.int .i64 0) rfl];refine py (l:=[1,0]) ab.u J.i (by omega) rfl (by kernel_rfl) fun bA bB bD bE ao bd=>?_;refine (zt (((al.ext Y).ext am).ext ao) bd.ls).mono ?_;rintro _ bF _ ⟨⟨Z,_⟩,be⟩;obtain rfl:=Z (zE.1 Hg);rw[Hi,aC (v:=.int .i64 0) rfl,aC (v:=.int .i64 0) rfl];have bf:=(((bb.trans Y).trans am).trans ao).trans be;refine aV (fun v bg=>v= .bool true∧Ext w bg) (fun _ _ h=>h) fun a2 X=>?_;rw[bM,ag];refine⟨fun _=>?_,fun h=>absurd rfl h⟩;rw[bM,ag];refine⟨fun _=>?_,fun h=>absurd rfl h⟩;rw[bM,ag];refine⟨fun _=>?_,fun h=>absurd rfl h⟩;rw[bM];exact X _ _ ⟨rfl,bf⟩
theorem Hl {n:bS} {j:Int} (h:(decide (0≤j)&&fw (dJ n) j.toNat)=false):¬(0≤j∧j<(dJ n).funs.length):=fun⟨J,h1⟩=>by
 obtain⟨f,E⟩:∃ f,(dJ n).funs[j.toNat]? =some f:=⟨_,x3 (by omega)⟩;have I:(n.funs.map (iY n.sizes))[j.toNat]? =some f:=E;rw[r9] at I;obtain⟨g,_,rfl⟩:=Z6.1 I;unfold fw at h;rw[decide_eq_true J,E] at h;simp[iY] at h
section
variable {w:x5} {aI ax aP B:Nat} {A R:av} {n:bS} {t:aR} {cs:List x4} {fk:x4→x5→Prop}
theorem zF (E:dt w aI ax A R n (dJ n) t) (ad:∀ w',Ext w w'→fk (.bool true) w'):aa y0 (u9 ab 1 #[(0,(.int .i64 99))]) w fun ae af=>
  O y0 fg [.pointer (some ⟨aI,0,none⟩),ae] af fun ah V=>
  I y0 (U .eql J false true ah (.int .i64 (-1))) V fun ai=>
  Split ai (O y0 eT [.pointer (some ⟨aI,0,none⟩)] V fun aj Y=>
  I y0 (U .neq dl false true aj (.pointer none)) Y fun ak=>
  fk ak Y)
   (fk (.bool false) V):=by
 refine dT (k:=.i64) ab.u J.i rfl fun v g ap aq W hm=>?_;refine (G9 (E.ext W) hm.ls).mono ?_;rintro _ au _ ⟨⟨r,rfl,X⟩,Z⟩;have X:r= -1:=by
  rcases X with⟨h,_⟩|⟨j,f,_,al,_,am,_⟩
  ·exact h
  ·obtain⟨_,_,ac⟩:=E.2.2.2.1.funs f (u5 al);rw[am] at ac;simp at ac
 subst X;rw[bM,ag];refine⟨fun _=>?_,fun h=>absurd rfl h⟩;refine (uz ((E.ext W).ext Z)).mono ?_;rintro _ av _ ⟨⟨aw,rfl,_⟩,ao⟩;rw[pp dl.u];exact ad _ ((W.trans Z).trans ao)
theorem si {j:Int} (V:dt w aI ax A R n (dJ n) t) (am:fv B w (.agg cs.toArray) n.k n.sizes (dJ n)) (ao:cs.length=8) (ap:ak w aP a6 cs) (ae:∀ w',Ext w w'→fk (.bool true) w'):
  I y0 (x1 a6 (.pointer (some ⟨aP,0,none⟩))) w fun au=>
  O y0 jo [au,.int .i64 j] w fun av af=>
  Split av (aa y0 (u9 ab 1 #[(0,(.int .i64 99))]) af fun aw ay=>
  O y0 fg [.pointer (some ⟨aI,0,none⟩),aw] ay fun az X=>
  I y0 (U .eql J false true az (.int .i64 (-1))) X fun aA=>
  Split aA (O y0 eT [.pointer (some ⟨aI,0,none⟩)] X fun aB ah=>
  I y0 (U .neq dl false true aB (.pointer none)) ah fun aC=>
  fk aC ah)
   (fk (.bool false) X))
   (O y0 ff [.pointer (some ⟨aI,0,none⟩),.int .i64 j] af fun aD Y=>
  I y0 (Z4 .not aD) Y fun aE=>
  Split aE (O y0 hh [.pointer (some ⟨aI,0,none⟩),.int .i64 j] Y fun aF W=>
  I y0 (u6 #[ab] J #[aF]) W fun aG=>
  I y0 (U .eql J false true aG (.int .i64 0)) W fun aH=>
  Split aH (aa y0 (u9 ab 1 #[(0,(.int .i64 99))]) W fun aJ aK=>
  O y0 fg [.pointer (some ⟨aI,0,none⟩),aJ] aK fun aL Z=>
  I y0 (U .eql J false true aL (.int .i64 (-1))) Z fun aM=>
  Split aM (O y0 eT [.pointer (some ⟨aI,0,none⟩)] Z fun aN ai=>
  I y0 (U .neq dl false true aN (.pointer none)) ai fun aO=>
  fk aO ai)
   (fk (.bool false) Z))
   (fk (.bool false) W))
   (fk (.bool false) Y)):=by
 rw[bN a6.p a6.i ao (show w.rangeAt aP 0 cs from ap.range)];refine (Hb (j:=j) am).mono ?_;rintro _ aS _ ⟨rfl,E⟩;rw[cv];refine⟨fun _=>zF (V.ext E) fun w' ac=>ae _ (E.trans ac),fun aj=>?_⟩;refine (sf (j:=j) (V.ext E)).mono ?_;rintro _ aT _ ⟨rfl,ad⟩;rw[aj,b4,Y8,bm];refine (Ha ((V.ext E).ext ad) (Hl aj)).mono ?_;rintro _ aR _ ⟨rfl,al⟩;rw[aQ ab.u (aq.nil .i64 J aR 0).ls,bM,ag];refine⟨fun _=>?_,fun h=>absurd rfl h⟩;exact zF (((V.ext E).ext ad).ext al) fun w' ac=>ae _ (((E.trans ad).trans al).trans ac)
end
set_option maxHeartbeats 8000000 in
theorem Hm {p:x4} {aR:List Int} {i v j:Int} {w:x5} (bg:aG .u8 w p aR) (bh:∀ b∈aR,0≤b∧b<256) (aS:eF w):O y0 qK [p,.int .i64 i,.int .i64 v,.int .i64 j] w fun r w'=>r= .bool true∧Ext w w':=by
 apply qK.enter;refine (Hk aS).mono ?_;rintro _ cP _ ⟨rfl,ap⟩;rw[b4,Y7,aU];refine (zA (bg.ext ap) bh (aS.ext ap)).mono ?_;rintro _ bi _ ⟨bj,bk,sv,ok,rfl,⟨cs,rfl,Z,bl⟩,bn,_⟩;have bo:=ap.trans bj;rw[aC (v:=bk) rfl,aC (v:=.agg cs.toArray) rfl,aC (v:=.bool ok) rfl];refine bU a6.i fun aP cQ cS bp bq=>?_;refine b9 (vs:=cs) a6.i Z rfl bl bq fun aT br cT bt=>?_;have av:Ext bi aT:=bp.then br fun r cU he=>by have he:r=aP:=he;omega
 have bu:=bo.trans av;refine GD.mono ?_;rintro _ cV _ ⟨rfl,bw⟩;rw[aC (v:=.int .i64 0) rfl,aC (v:=.int .i64 2) rfl];refine GF.mono ?_;rintro _ cW _ ⟨rfl,bx⟩;rw[aC (v:=.int .i64 0) rfl,aC (v:=.int .i64 2) rfl];refine GG.mono ?_;rintro _ cX _ ⟨rfl,bz⟩;rw[aC (v:=.int .i64 0) rfl,aC (v:=.int .i64 2) rfl];refine GH.mono ?_;rintro _ cY _ ⟨rfl,bA⟩;rw[aC (v:=.int .i64 0) rfl,aC (v:=.int .i64 2) rfl];have bB:=((bw.trans bx).trans bz).trans bA;refine aV (fun v Y=>v= .bool false∧Ext aT Y) ?_ ?_
 rotate_left
 ·intro bD ad;have V:∀ {A B:Prop} {a:Int},B→((a≠a→A)∧(¬a≠a→B)):=fun bE=>⟨fun h=>absurd rfl h,fun _=>bE⟩;rw[bC,ag];refine V ?_;rw[bC,ag];refine V ?_;rw[bC,ag];refine V ?_;rw[bC,ag];refine V ?_;refine GI.mono ?_;rintro _ cZ _ ⟨rfl,bF⟩;rw[bC,ag];refine V ?_;refine GX.mono ?_;rintro _ c0 _ ⟨rfl,bG⟩;rw[bC,ag];refine V ?_;refine GZ.mono ?_;rintro _ a3 _ ⟨rfl,bH⟩;rw[bC,ag];refine V ?_;refine GJ.mono ?_;rintro _ a4 _ ⟨rfl,bJ⟩;rw[bC,ag];refine V ?_;refine GK.mono ?_;rintro _ a5 _ ⟨rfl,bK⟩;rw[bC,ag];refine V ?_;rw[cR (cs:=#[.int .i64 0,.slice none 0 0,.slice none 0 0]) (by kernel_rfl)];refine GM.mono ?_;rintro _ c1 _ ⟨rfl,bL⟩;rw[bC,ag];refine V ?_;refine GL.mono ?_;rintro _ c2 _ ⟨rfl,bO⟩;rw[bC,ag];refine V ?_;refine uF.mono ?_;rintro _ c3 _ ⟨rfl,bP⟩;rw[pp dl.u];simp only[Y9,Y7,aU];refine GP.mono ?_;rintro _ a9 _ ⟨rfl,bQ⟩;rw[bC,ag];refine V ?_;refine zB.mono ?_;rintro _ c4 _ ⟨rfl,bR⟩;refine qp.mono ?_;rintro _ c5 _ ⟨rfl,bS⟩;rw[aL];refine GQ.mono ?_;rintro _ c6 _ ⟨rfl,bT⟩;rw[aL];refine GR.mono ?_;rintro _ c7 _ ⟨rfl,bV⟩;rw[aL,wrap_i64 (by decide) (by decide),wrap_i64 (by decide) (by decide),wrap_i64 (by decide) (by decide),bC,ag];refine⟨fun h=>absurd rfl h,fun _=>?_⟩;refine GS.mono ?_;rintro _ c8 _ ⟨rfl,bW⟩;rw[bC,ag];refine V ?_;refine G1.mono ?_;rintro _ c9 _ ⟨rfl,bX⟩;refine (tc (b:=0) (n:=0)).mono ?_;rintro _ da _ ⟨rfl,bY⟩;rw[bC,ag];refine⟨fun h=>absurd rfl h,fun _=>?_⟩;refine G0.mono ?_;rintro _ db _ ⟨rfl,bZ⟩;rw[aU];refine zC.mono ?_;rintro _ dc _ ⟨rfl,b1⟩;rw[aU];refine G2.mono ?_;rintro _ b2 _ ⟨rfl,b3⟩;rw[aQ ab.u (aq.nil .i64 J b2 0).ls];refine G3.mono ?_;rintro _ b5 _ ⟨rfl,b6⟩;rw[aQ ab.u (aq.nil .i64 J b5 0).ls,aL];refine GU.mono ?_;rintro _ b7 _ ⟨rfl,ca⟩;rw[aQ dE.u (aq.nil .i64 J b7 0).ls,aL];refine GV.mono ?_;rintro _ cb _ ⟨rfl,cc⟩;rw[aQ ae.u (aq.nil .i64 J cb 0).ls,aL,bC,ag];refine⟨fun h=>absurd rfl h,fun _=>?_⟩;refine G4.mono ?_;rintro _ dd _ ⟨rfl,cd⟩;rw[bC,ag];refine⟨fun h=>absurd rfl h,fun _=>?_⟩;refine zw.mono ?_;rintro _ de _ ⟨rfl,ce⟩;rw[pp bI.u];have cg:=((((((((bB.trans bF).trans bG).trans bH).trans bJ).trans bK).trans bL).trans bO).trans bP).trans bQ;have ch:=((((((((cg.trans bR).trans bS).trans bT).trans bV).trans bW).trans bX).trans bY).trans bZ).trans b1;exact ad _ _ ⟨rfl,(((((ch.trans b3).trans b6).trans ca).trans cc).trans cd).trans ce⟩
 rintro _ Y ⟨rfl,aj⟩;rw[aU,b4];have aW:=bu.trans aj;rcases bn with⟨rfl,rfl⟩|⟨rfl,f,_,aI,ax,df,dg,t0,N,ci,rfl,aX,dh,di,aY⟩
 ·rw[Y8,bm,b8 bI.u];exact⟨rfl,aW⟩
 rw[Y7,aU];have aZ:=xT ci;obtain⟨n,cj⟩:∃ n,n=dr f:=⟨_,rfl⟩;rw[←cj] at aX aY aZ;have a1:=aZ.1;have dj:=a1.sizes.1;have dk:=a1.sizes.2.1;have X:=(aX.ext av).ext aj;have aa:=(aY.ext av).ext aj;have ac:=bt.ext aj;obtain⟨aw,a2,ak,ck⟩:∃ aw,cs[1]? =some aw∧ ∃ ak,aq .i64 J Y ak aw n.sizes:=by
  obtain⟨aw,ak,dm,D,dn,dp,dq,ds,dt,du,dv,h1,cl,_⟩:=aa;have h1:=x4.agg.inj h1;refine⟨aw,?_,ak,cl⟩;have cm:=congrArg (fun a=>a.toList[1]?) h1;simpa using cm
 refine (zo (i:=i) (v:=v) X).mono ?_;rintro _ cn _ ⟨rfl,ay⟩;have cp:=ac.ext ay;obtain⟨e,c,he,cq⟩:∃ (e:Int) (c:x4),(e=if e3 n i v then 0 else 1)∧(if e3 n i v then (.tuple #[.int .i64 (ny (dJ n) i.toNat v.toNat),.int .i64 0]:x4) else .tuple #[.int .i64 0,.int .i64 1])= .tuple #[c,.int .i64 e]:=by
  by_cases W:e3 n i v
  ·exact⟨0,_,by rw[if_pos W],by rw[if_pos W]⟩
  ·exact⟨1,_,by rw[if_neg W],by rw[if_neg W]⟩
 rw[cq,aC (v:=c) rfl,aC (v:=.int .i64 e) rfl];refine aV (fun r az=>r= .bool (decide (e3 n i v))∧Ext Y az) ?_ ?_
 rotate_left
 ·intro bD ad;rw[bN a6.p a6.i Z (show cn.rangeAt aP 0 cs from cp.range)];refine (zD (i:=i) (aa.ext ay)).mono ?_;rintro _ az _ ⟨rfl,am⟩;have af:=ay.trans am;rw[ag];refine⟨fun a7=>?_,fun aA=>ad _ _ ⟨by rw[decide_eq_false];exact fun h=>aA ⟨h.1,h.2.1⟩,af⟩⟩;rw[cw,ag];refine⟨fun aB=>?_,fun aB=>ad _ _ ⟨by rw[decide_eq_false];exact fun h=>aB h.2.2.1,af⟩⟩;obtain⟨z,a8⟩:∃ z,n.sizes[i.toNat]? =some z:=⟨_,x3 (by omega)⟩;have ba:n.sizes.getD i.toNat 0=z:=by rw[p8,a8];rfl
  have bb:=ac.ext af;have bc:=ck.ext af;rw[ah a6.p rfl,al (v:=aw) (by kernel_rfl) (bb.cell (o:=0+1) a2),ah a6.p rfl,al (v:=aw) (by kernel_rfl) (bb.cell (o:=0+1) a2),aQ ab.u bc.ls,dw,wrap_i64 (by omega) (by omega),jA,qX,eV (y:=max (min i ((n.sizes.length:Int)-1)) 0) (i:=i.toNat) (by omega) ab.u J.i (by kernel_rfl) bc.ls a8,au];refine ad _ _ ⟨?_,af⟩;congr 1;exact decide_eq_decide.2 ⟨fun h=>⟨a7.1,a7.2,aB,by rw[ba];exact h⟩,fun h=>by have:=h.2.2.2;rw[ba] at this;exact this⟩
 rintro _ az ⟨rfl,am⟩;refine py (l:=[0,1]) ab.u J.i (by omega) rfl (by kernel_rfl) fun dx dy dz dA bd cr=>?_;refine (G7 ((X.ext am).ext bd) cr.ls).mono ?_;rintro _ dB _ ⟨rfl,ct⟩;have be:=(am.trans bd).trans ct;rw[aC (v:=.int .i64 0) rfl,aC (v:=.int .i64 1) rfl];refine aV (fun r cu=>r= .bool true∧Ext Y cu) (fun _ _ h=>⟨h.1,aW.trans h.2⟩) fun fk ao=>?_;have cz:(decide (e=0) == decide (e3 n i v))=true:=by
  by_cases W:e3 n i v
  ·rw[he,if_pos W,decide_eq_true W];rfl
  ·rw[he,if_neg W,decide_eq_false W];rfl
 rw[bM,ET gT.u,cz,bm];have tail:∀ {ai:x5},Ext Y ai→ ∀ {aD aE:x5→Prop},(∀ w',Ext Y w'→aD w')→(∀ w',Ext Y w'→aE w')→
   I y0 (x1 a6 (.pointer (some ⟨aP,0,none⟩))) ai fun cA=>
   O y0 ka [cA,.int .i64 i] ai fun cB aF=>
   Split cB (aD aF) (O y0 gP [.pointer (some ⟨aI,0,none⟩),.int .i64 i] aF fun cC cD=>
   O y0 jr [cC] cD fun cE aH=>
   I y0 (U .eql J false true cE (.int .i64 0)) aH fun cF=>
   Split cF (O y0 gR [.pointer (some ⟨aI,0,none⟩),.int .i64 i] aH fun cG aJ=>
   I y0 (Z4 .not cG) aJ fun cH=>
   Split cH (aE aJ) (fk (.bool false) aJ)) (fk (.bool false) aH)):=by
  intro ai aK aD aE cI cJ;rw[bN a6.p a6.i Z (show ai.rangeAt aP 0 cs from (ac.ext aK).range)];refine (zD (i:=i) (aa.ext aK)).mono ?_;rintro _ aF _ ⟨rfl,cK⟩;have aM:=aK.trans cK;rw[ag];refine⟨fun _=>cI _ aM,fun aA=>?_⟩;refine (zp (i:=i) (X.ext aM)).mono ?_;rintro _ dC _ ⟨⟨b,m,rfl,_,aN,_⟩,cL⟩;obtain⟨rfl,rfl⟩:=aN aA;refine (tc (b:=0) (n:=0)).mono ?_;rintro _ dD _ ⟨rfl,cM⟩;rw[bM,ag];refine⟨fun _=>?_,fun h=>absurd rfl h⟩;have bf:=(aM.trans cL).trans cM;refine (uC (i:=i) (X.ext bf)).mono ?_;rintro _ dF _ ⟨rfl,cN⟩;have cO:(decide (0≤i)&&jc (dJ n) i.toNat)=false:=by
   by_cases aN:0≤i
   ·have dG:=X.2.2.2.1.vars;unfold jc;rw[Z7 (by omega),Bool.and_false]
   ·rw[decide_eq_false aN];rfl
  rw[cO,b4,Y8,bm];exact cJ _ (bf.trans cN)
 by_cases W:e3 n i v
 ·rw[decide_eq_true W,bm,bM,ag];refine⟨fun _=>?_,fun h=>absurd rfl h⟩;exact tail be (fun aO E=>si (X.ext E) (aa.ext E) Z (ac.ext E) fun w' h=>ao _ _ ⟨rfl,E.trans h⟩) (fun aO E=>si (X.ext E) (aa.ext E) Z (ac.ext E) fun w' h=>ao _ _ ⟨rfl,E.trans h⟩)
 ·rw[decide_eq_false W,aU,he,if_neg W,bM,ag];refine⟨fun _=>?_,fun h=>absurd rfl h⟩;rw[bM,ag];refine⟨fun _=>?_,fun h=>absurd rfl h⟩;exact tail be (fun aO E=>si (X.ext E) (aa.ext E) Z (ac.ext E) fun w' h=>ao _ _ ⟨rfl,E.trans h⟩) (fun aO E=>si (X.ext E) (aa.ext E) Z (ac.ext E) fun w' h=>ao _ _ ⟨rfl,E.trans h⟩)
end Go.Proofs.YtgbkinibgjmodaaGreatDoor
