/- own texts, made small by a tool (wip/ holds them as they were written): no statement of the seat. -/
import Derived.Test.YthjegppepbbojaaGreatDoorYd
set_option linter.unusedVariables false
set_option linter.unusedSimpArgs false
set_option linter.unnecessarySimpa false
open Array renaming getElem?_eq_some_iff→o7,getElem?_toList→U5
open BitVec renaming ofInt→V9
open Bool renaming not_true→Y0,not_false→Y9,eq_iff_iff→X8,and_eq_true→W0,or_eq_false_iff→U3
open Decidable renaming not_not→Z6
open Go renaming Value→y0,World→x1,TypeId→u9,IntKind→o4,Builtin→l6,Program→Y3,Oper→W9,Operand→U1
open Go.Addr renaming add_mid→W7
open Go.Builtin renaming append_→l9,len_→Y4
open Go.Instr renaming loadAt→x6,fieldAt→x8,storeAt→n0,indexAt→j9,extract→c9,buildSlice→b6,sliceAt→X4
open Go.IntKind renaming i64→X5,u64→W6
open Go.Proofs.Tryz renaming prog→x5
open Go.Result renaming andThen→Z9
open Go.Sem renaming run_bind→Z8,run_pure→Y5
open Go.Sort renaming Holds→U2
open Go.Value renaming int→X0
open Int renaming toNat_natCast→j6
open List renaming mem_of_getElem?→x2,getElem?_eq_some_iff→x3,getElem?_eq_getElem→x4,getElem?_map→x7,getD_eq_getElem?_getD→u4,take_add_one→u5,replicate→u6,length_append→u7,length_map→r8,mem_append→p8,mem_singleton→p9,take_length→o5,length_take→o6,mem_map→o8,eq_nil_of_length_eq_zero→o9,length_cons→n9,map_append→j4,getElem?_take_of_lt→c7,getElem?_eq_none→c8,take_of_length_le→Z0,range→Z1,getElem?_append_left→Z4,getElem?_append_right→Z7,drop_eq_getElem_cons→Y1,append_assoc→Y2,getElem?_set→Y6,ext_getElem?→Y7,append_nil→Y8,mem_iff_getElem?→X1,pairwise_iff_getElem→X6,length_set→X7,mem_or_eq_of_mem_set→W3,flatMap_cons→V1,length→V3,length_singleton→V5,length_eq_one_iff→V7,getElem?_set_self→V8,mem_cons→U4,getElem_mem→U6
open Nat renaming le_refl→r9,le_trans→Z3,zero_le→Z5,mul_le_mul_right→X2,sub_self→X9,add_mul→W8,zero_add→V0,mul_one→V2,beq→V6
open Option renaming some→l5,toList_some→j5,map_some→c5,isNone_some→c6,map_eq_some_iff→Z2,map→X3,getD_some→V4
open Option.some renaming injEq→b8,inj→b9
open Prod renaming mk→U7
open Prod.mk renaming injEq→W5
variable {E V w w':x1}{S:Nat→Prop}{e:u9}{sv v:y0}{l sizes tl:List Int}{c:List y0}{B ao dv gT j m:Nat}{K:y0→x1→Prop}{k pos:Int}
namespace Go.Proofs.YthjegppepbbojaaGreatDoor
open Go Go.Vc Go.RowKit Go.Proofs Go.Proofs.Tryz
set_option maxRecDepth 100000
def tx (w:x1) (B:Nat) (v:y0) (n:aV):Prop:=∃ szv gz E O aG J gr L,v= .agg #[.int .i64 n.k,szv,.int .i64 n.zero,E,J]∧ak .i64 ab w gz szv n.sizes∧fA w O E aG∧aG.map (·.l)=n.unary∧aT cz 3 aU w gr J L∧(∀ h∈L,dD w n.sizes h)∧L.map cS=n.funs∧(∀ r,leads szv r→B≤r)∧ ∀ h∈L,∀ r,mS h r→B≤r
def z9:List y0:=[.int .i64 0,.slice none 0 0,.int .i64 0,.slice none 0 0,.slice none 0 0]
def kE (w:x1) (C gt gs go:Nat) (szv aJ:y0) (f:bu) (E:List dZ) (w':x1):Prop:=Ext w w'∧C≤w'.heap.size∧aa w' gt cT z9∧ak .i64 ab w' gs szv f.sizes∧aT cz 3 aU w' go aJ E∧(∀ r,leadsTo aJ r→r<C)∧ ∀ h∈E,dD w' f.sizes h
theorem kE.ext {C gt gs go:Nat} {szv aJ:y0} {f:bu} {E:List dZ} (h:kE w C gt gs go szv aJ f E w') (J:Ext w' V):kE w C gt gs go szv aJ f E V:=by
 obtain⟨h1,aa,O,U,W,X,Y⟩:=h;have:=J.size;exact⟨h1.trans J,by omega,O.ext J,U.ext J,W.ext J,X,fun x Z=>(Y x Z).ext J⟩
def Jz (w w':x1) (C gt:Nat) (r:Nat):Prop:=w.heap.size≤r∧r≠gt∧((∃ c,aa w' r cT c)∨(∃ c,aa w' r an c)∨((∃ c,aa w' r aU c)∧C≤r))
theorem kE.U {C gt gs go:Nat} {szv aJ:y0} {f:bu} {ac:List dZ} (h:kE w C gt gs go szv aJ f ac w') (X:ad S w' V) (Y:∀ r,S r→Jz w w' C gt r):kE w C gt gs go szv aJ f ac V:=by
 obtain⟨h1,al,ah,ae,Z,af,ai⟩:=h;have:=X.size;have ag:∀ r,S r→ ∃ e c,aa w' r e c∧e≠ab∧e≠aj:=fun r O=>by
  obtain⟨_,_,⟨c,E⟩|⟨c,E⟩|⟨⟨c,E⟩,_⟩⟩:=Y r O
  ·exact⟨_,c,E,by decide,by decide⟩
  ·exact⟨_,c,E,by decide,by decide⟩
  ·exact⟨_,c,E,by decide,by decide⟩
 refine⟨h1.then X fun r O W=>by have:=(Y r W).1;omega,by omega,ah.U X fun W=>(Y _ W).2.1 rfl,aZ ae X fun r O W=>?_,Z.U X fun r O W=>?_,af,fun x J=>jV (ai x J) X fun r O=>.inl (ag r O)⟩
 ·obtain⟨e,c,E,ak,_⟩:=ag r W;exact bE ae E (fun he=>ak he.symm) O rfl
 ·obtain⟨_,_,⟨c,E⟩|⟨c,E⟩|⟨_,am⟩⟩:=Y r W
  ·exact cb Z E (by decide) O
  ·exact cb Z E (by decide) O
  ·have:=af r O;omega
def zP (w:x1) (C O:Nat) (szv:y0) (k:Int) (n:aV) (U:List dZ) (w':x1):Prop:=∃ E V aG J gr L,aa w' O cT [.int .i64 k,szv,.int .i64 n.zero,E,J]∧fA w' V E aG∧aG.map (·.l)=n.unary∧(∀ r,leadsTo E r→w.heap.size≤r)∧aT cz 3 aU w' gr J L∧(∀ h∈L,h∈U)∧L.map cS=n.funs∧ ∀ r,leadsTo J r→C≤r
set_option maxHeartbeats 8000000 in
theorem zQ {N:Nat} {cj:Nat} {f:bu} (ck:lH w cj f) (aw:dU N f):ag x5 Bz [.pointer (some ⟨cj,0,none⟩)] w fun v w'=>Ext w w'∧tx w' w.heap.size v (dm f):=by
 have dY:=aw.k;have dZ:=aw.sizes.2.1;obtain⟨ea,eb,ee,ef,cl,cm,eg⟩:=id ck;refine ap func28 ?_;refine bg cT.i fun gt c9 eh bl bm=>?_;have bm:aa c9 gt cT z9:=bm;rw[aD cU.p 1 (cl.ext bl) rfl,ct (cs:=#[.int .i64 f.k,.slice none 0 0,.int .i64 0,.slice none 0 0,.slice none 0 0]) (by kernel_rfl)];refine bg cT.i fun X V ei cn da=>?_;refine bP (vs:=[.int .i64 f.k,.slice none 0 0,.int .i64 0,.slice none 0 0,.slice none 0 0]) cT.i rfl rfl (by intro u hu;simp at hu;rcases hu with rfl|rfl|rfl|rfl <;> rfl) da fun db cp em dc=>?_;have bU:Ext w db:=(bl.trans cn).then cp fun r E he=>by have he:r=X:=he;have:=bl.size;omega
 have en:=bm.lt;have ae:X≠gt:=by omega
 have dd:=(bm.ext cn).U cp fun he=>by have he:gt=X:=he;omega
 rw[aD cU.p 2 (cl.ext bU) rfl,aK an.u (cm.ext bU).ls];have eo:=bl.size;refine bS.range f.sizes.length (fun i aA=>Ext w aA∧aa aA gt cT z9∧ ∃ szv gs Y ai aG,aa aA X cT [.int .i64 f.k,szv,.int .i64 0,Y,.slice none 0 0]∧ak .i64 ab aA gs szv (f.sizes.take i)∧(∀ r,leads szv r→w.heap.size≤r)∧fA aA ai Y aG∧aG.map (·.l)=(f.sizes.take i).map (fun z=>u6 z.toNat 0)∧ ∀ r,leadsTo Y r→w.heap.size≤r) (by omega)
  ⟨bU,dd,_,0,_,0,[],dc,ak.nil _ _ _ _,(fun r E=>by obtain⟨a,n,c,de,ep⟩:=E;cases de),⟨aT.nil _ _ _ _ _,fun x J=>(by cases J)⟩,rfl,fun r E=>(ds E).elim⟩ ?_ ?_
 ·rintro i aA df hi ⟨aC,bV,szv,gs,Y,ai,aG,a8,bo,bq,bW,ba,br⟩ dg;obtain⟨z,Z⟩:=aE (l:=f.sizes) hi;have er:=aw.sizes.2.2 z (x2 Z);have es:aG.length=i:=by have:=congrArg V3 ba;simp only[r8,o6] at this;omega
  refine bC (by omega) ?_;rw[a1 an.u aj.i (by kernel_rfl) (cm.ext aC).ls Z,aP cT.p 1 a8 rfl];refine dM (k:=.i64) al.u ab.i rfl fun a5 et cq eu aR dh=>?_;have bb:=bo.ext aR;refine gb al.u ab.i rfl bb dh.ls (by simp;omega) (by simp;omega) fun bX cr ev bt di cu=>?_;have bY:=a8.ext aR;have cw:=bV.ext aR;have cA:=bY.U cu fun he=>bE bb bY (by decide) he rfl;rw[aF cT.p rfl];refine aY (g:=X) (o:=1) al.i bt.ls.cells.1 bt.ls.cells.2 cA (by simp) fun bw cB ew bx=>?_;have bx:aa bw X cT [.int .i64 f.k,bX,.int .i64 0,Y,.slice none 0 0]:=bx;have bZ:ad (fun r=>leads szv r∨r=X) cq bw:=(cu.mono fun r _ h=>.inl h).trans (cB.mono fun r _ h=>.inr h);have dj:ak .i64 ab bw cr bX (f.sizes.take (i+1)):=by
   rw[u5,Z];exact aZ bt cB fun r E he=>by
    have he:r=X:=he;subst he;exact bE bt cA (by decide) E rfl
  have aS:∀ r,(leads szv r∨r=X)→ ∃ e c,aa cq r e c∧e≠aj∧e≠an:=fun r E=>by
   rcases E with E|rfl
   ·obtain⟨rfl,_⟩:=bp bb E;obtain⟨_,⟨ac,_⟩|⟨cap,full,_,O,_⟩⟩:=bb
    ·obtain⟨a,n,c,e,_⟩:=E;rw[ac] at e;cases e
    ·exact⟨_,_,O,by decide,by decide⟩
   ·exact⟨_,_,bY,by decide,by decide⟩
  have dk:=(bW.ext aR).U bZ aS;have z4:=aC.size;have z5:=aR.size;have cC:Ext w bw:=(aC.trans aR).then bZ fun r E he=>by
   rcases he with he|he
   ·have:=bq r he;omega
   ·omega
  have dl:=cw.U bZ fun W=>by
   rcases W with W|W
   ·exact bE bb cw (by decide) W rfl
   ·omega
  intro ey cD _ _;have dn:=bx.ext cD;rw[aP cT.p 3 dn rfl];obtain⟨aH,rfl⟩:∃ n:Nat,z=n:=⟨z.toNat,by omega⟩;refine ih (k:=.i64) an.u aj.i (by omega) (by omega) fun bA dp ez b1 dq=>?_;refine⟨.inl b1,?_⟩;have dr:ak .i64 aj dp bA (.slice (some ⟨bA,0,none⟩) aH aH) (u6 aH 0):=ak.of (bz.full (k:=1) (n:=aH) dq (by simp) (by simp[maxLen];omega));let a:eV:=⟨.slice (some ⟨bA,0,none⟩) aH aH,u6 aH 0⟩;refine eQ (f:=h2) (a:=a) eY.u an.i (by omega) rfl rfl fun eA eB b2 eD b3 dt=>?_;refine⟨.inl (b1.trans b3),?_⟩;have aV:=(cD.trans b1).trans b3;have bd:=dk.ext aV;refine ff (f:=h2) (a:=a) eY.u an.i rfl bd.1 (by simpa using dt.sl) (fun u hu=>by rw[p9.1 (show u∈[a.v] from hu)];rfl) (by omega) (by omega) fun b4 b5 eE am b6 cE=>?_;have aW:∀ {r:Nat},leadsTo Y r→ ∃ c,aa b2 r an c:=fun E=>by
   obtain⟨rfl,c,O⟩:=c3 bd.1 E;exact⟨c,O⟩
  have b7:=bx.ext aV;have cG:=b7.U cE fun he=>cb bd.1 b7 (by decide) he;rw[aF cT.p rfl];refine aY eY.i (cF am.sl).1 (cF am.sl).2 cG (by simp) fun du cI eF dv=>?_;rw[aB];have ax:ad (fun r=>leadsTo Y r∨r=X) b2 du:=(cE.mono fun r _ h=>.inl h).trans (cI.mono fun r _ h=>.inr h);have b8:∀ r,(leadsTo Y r∨r=X)→ ∃ e c,aa b2 r e c∧e≠aj∧e≠ab:=fun r E=>by
   rcases E with E|rfl
   ·obtain⟨c,O⟩:=aW E;exact⟨_,c,O,by decide,by decide⟩
   ·exact⟨_,_,b7,by decide,by decide⟩
  have cJ:=dj.ext aV;have eH:=cC.size;have eI:=aV.size;have cK:=dl.ext aV;refine dg _ ⟨(cC.trans aV).then ax (fun r E he=>?_),cK.U ax (fun W=>?_),bX,cr,b4,b5,aG++[a],dv,aZ cJ ax (fun r E W=>?_),fun r E=>?_,⟨am.U cI fun r E he=>?_,fun y ao=>?_⟩,?_,fun r E=>?_⟩
  ·rcases he with he|rfl
   ·have:=br r he;omega
   ·omega
  ·rcases W with W|W
   ·exact cb bd.1 cK (by decide) W
   ·omega
  ·obtain⟨e,c,O,_,ae⟩:=b8 r W;exact bE cJ O (fun he=>ae he.symm) E rfl
  ·rcases di r E with h|h
   ·exact bq r h
   ·omega
  ·have he:r=X:=he;subst he;exact cb am cG (by decide) E
  ·rcases p8.1 ao with ao|ao
   ·exact bd.og ax (fun r E=>by obtain⟨e,c,O,ae,_⟩:=b8 r E;exact⟨e,c,O,ae⟩) y ao
   ·rw[p9.1 ao];have cL:=dr.ext b3;exact⟨bA,aZ cL ax fun r E W=>by
     obtain⟨e,c,O,ae,_⟩:=b8 r W;exact bE cL O (fun he=>ae he.symm) E rfl⟩
  ·rw[j4,ba,u5,Z,j5,j4];rfl
  ·rcases b6 r E with h|h
   ·exact br r h
   ·omega
 rintro aA df ⟨aC,bV,szv,gs,Y,ai,aG,a8,bo,bq,bW,ba,br⟩;refine cH (by omega) ?_;rw[o5] at bo ba;refine (Jy (ck.ext aC) aw).mono ?_;rintro aJ bB _ ⟨aX,go,aq,am,cN,cO,eJ⟩;have cP:aq.length=(ek f).length:=by rw[←cO,r8]
 have eK:aq.length≤256:=by
  have h1:=(mH aw).2.length_eq;have bD:=(iv aw).2.2;have eL:=List.length_filter_le ej (ec f);have eM:=aw.jb;omega
 have z4:=aC.size;have eN:=aX.size;have eP:=a8.lt;rw[dA cg.u am];refine bS.range aq.length (fun i aI=>kE w bB.heap.size gt gs go szv aJ f aq aI∧zP w bB.heap.size X szv f.k (cW f i) aq aI) am.le
  ⟨⟨aC.trans aX,r9 _,bV.ext aX,bo.ext aX,am,fun r E=>by have:=am.leads E;omega,fun h be=>(cN h be).1⟩,Y,ai,aG,_,0,[],a8.ext aX,bW.ext aX,ba,br,aT.nil _ _ _ _ _,fun x J=>(by cases J),rfl,fun r E=>(ds E).elim⟩ ?_ ?_
 rotate_left
 ·rintro aI dw ⟨a2,Y,ai,aG,aL,gr,L,bF,bG,aM,bf,bh,a6,aN,bi⟩;obtain⟨dx,eR,cQ,b9,eS,eT,dy⟩:=id a2;have bH:=lz f aq.length;rw[cP,oi] at bH;rw[cP,oi] at bF aM aN;refine cH (by omega) ?_;rw[bn cT.p cT.i rfl (show aI.rangeAt X 0 [.int .i64 f.k,szv,.int .i64 (dm f).zero,Y,aL] from bF.range)];refine bP (vs:=[.int .i64 f.k,szv,.int .i64 (dm f).zero,Y,aL]) cT.i rfl rfl (fun u hu=>?_) cQ fun eU bj eW dz=>?_
  ·simp at hu;rcases hu with rfl|rfl|rfl|rfl|rfl
   ·rfl
   ·exact b9.ls.cells.2
   ·rfl
   ·exact (cF bG.1.sl).2
   ·exact (cF bh.sl).2
  rw[eO cT.p cT.i rfl dz.range];have aS:∀ r,r=gt→ ∃ e c,aa aI r e c∧e≠aj∧e≠an∧e≠ab∧e≠aU:=fun r E=>by
   subst E;exact⟨_,_,cQ,by decide,by decide,by decide,by decide⟩
  refine⟨dx.then bj fun r E he=>by have he:r=gt:=he;omega,szv,gs,Y,ai,aG,aL,gr,L,?_,?_,bG.U bj (fun r E=>?_),aM,bh.U bj (fun r E W=>?_),fun h be=>?_,aN,bq,fun h be r E=>by have:=(cN h (a6 h be)).2 r E;omega⟩
  ·rw[bH.1]
  ·rw[bH.2.1];refine aZ b9 bj fun r E W=>?_;obtain⟨e,c,O,_,_,ae,_⟩:=aS r W;exact bE b9 O (fun he=>ae he.symm) E rfl
  ·obtain⟨e,c,O,h1,bD,_⟩:=aS r E;exact⟨e,c,O,h1,bD⟩
  ·obtain⟨e,c,O,_,_,_,ae⟩:=aS r W;exact cb bh O (fun he=>ae he.symm) E
  ·rw[bH.2.1];exact jV (dy h (a6 h be)) bj fun r E=>by
    obtain⟨e,c,O,h1,_,bD,_⟩:=aS r E;exact .inl ⟨e,c,O,bD,h1⟩
 rintro i aI dw hi ⟨a2,Y,ai,aG,aL,gr,L,bF,bG,aM,bf,bh,a6,aN,bi⟩ dC;obtain⟨y,ao⟩:=aE (l:=aq) hi;have bI:=x2 ao;have cR:(ek f)[i]? =some (cS y):=by rw[←cO,x7,ao];rfl
 have ca:eC f.sizes f.k (cS y):=ql aw _ (x2 cR);have cc:=ta cR;obtain⟨eX,eZ,e0,e1⟩:=lz f i;refine bC (by omega) ?_;refine cX (fun cd=>kE w bB.heap.size gt gs go szv aJ f aq cd∧zP w bB.heap.size X szv f.k (cW f (i+1)) aq cd) ?_ ?_
 ·rintro cd h;rw[aB];exact dC _ h
 intro e2 ce;rw[cM rfl cg.u aU.i a2.2.2.2.2.1 hi,bn aU.p aU.i rfl (a2.2.2.2.2.1.range ao)];refine bg aU.i fun dD e3 e4 dE dF=>?_;refine bP (vs:=cz y) aU.i rfl rfl (a2.2.2.2.2.2.2 y bI).one dF fun cV dG e5 bJ=>?_;have bL:Ext aI cV:=dE.put dG (by omega);have bM:=a2.ext bL;have aO:=bF.ext bL;have ch:=bG.ext bL;have bN:=bh.ext bL;obtain⟨e6,e7,cY,e8,e9,fa,cZ⟩:=id bM;obtain⟨⟨fb,c0⟩,_,dH,c1⟩:=cZ y bI;rw[aP aU.p 0 bJ rfl,aK al.u c0.ls];have fc:aG.length=f.sizes.length:=by have:=congrArg V3 aM;rw[r8] at this;omega
 have fd:L.length≤256:=by have:=congrArg V3 aN;rw[r8] at this;omega
 rw[bc,af];refine⟨fun fe=>?_,fun fg=>?_⟩
 ·
  have aQ:y.sc=[]:=o9 (by omega);have ah:cW f (i+1)={cW f i with zero:=y.cs.getD 0 0}:=by rw[cc];unfold gU;simp only[cS,aQ]
  have fh:y.cs.length=1:=by have:=ca.len;simpa[cS,aQ,bK,az] using this
  have dI:y.cs[0]? =some (y.cs.getD 0 0):=by rw[u4,x4 (by omega)];rfl
  rw[aP aU.p 2 bJ rfl,fv (y:=0) (i:=0) rfl an.u aj.i (by kernel_rfl) c1.ls dI,aF cT.p rfl];refine aY aj.i rfl rfl aO (by simp) fun dJ au dK dL=>?_;refine ce _ ⟨bM.U au fun r E=>?_,Y,ai,aG,aL,gr,L,?_,ch.U au (fun r E=>?_),by rw[ah];exact aM,bf,bN.U au (fun r E W=>?_),a6,by rw[ah];exact aN,bi⟩
  ·have E:r=X:=E;subst E;exact⟨by omega,ae,.inl ⟨_,aO⟩⟩
  ·rw[ah];exact dL
  ·have E:r=X:=E;subst E;exact⟨_,_,aO,by decide,by decide⟩
  ·have W:r=X:=W;subst W;exact cb bN aO (by decide) E
 rw[bc,af];refine⟨fun h1=>?_,fun fi=>?_⟩
 ·
  obtain⟨v,aQ⟩:∃ v,y.sc=[v]:=V7.1 (by omega);have fj:=ca.scope.1 v (by show v∈y.sc;rw[aQ];exact .head _);have fk:=ca.vars v (by show v∈y.sc;rw[aQ];exact .head _);have ah:cW f (i+1)={cW f i with unary:=(cW f i).unary.set v.toNat y.cs}:=by rw[cc];unfold gU;simp only[cS,aQ]
  intro dN ay _ _;have ci:=aO.ext ay;have c2:=bJ.ext ay;have bk:=ch.ext ay;have dO:=bM.ext ay;have c4:=bN.ext ay;rw[aP cT.p 3 ci rfl,aP aU.p 0 c2 rfl];refine pK (y:=0) (i:=0) rfl al.u ab.i (c0.ls.ext ay) (show y.sc[0]? =some v by rw[aQ];rfl) fun b o dP=>?_;rw[av (by kernel_rfl) dP,aP aU.p 2 c2 rfl];obtain⟨u,hu⟩:=aE (l:=aG) (i:=v.toNat) (by omega);rw[cM (i:=v.toNat) (by omega) eY.u an.i bk.1 (by omega)];let a:eV:=⟨y.aJ,y.cs⟩;have bO:=c1.ext ay;refine mB (f:=h2) (j:=0) (a:=u) (a':=a) an.i bO.ls.cells.1 bO.ls.cells.2 bk.1 hu rfl (by omega) fun dJ au dK dQ=>?_;have aW:∀ {r:Nat},leadsTo Y r→ ∃ c,aa dN r an c:=fun E=>by
   obtain⟨rfl,c,O⟩:=c3 bk.1 E;exact⟨c,O⟩
  refine ce _ ⟨dO.U au fun r E=>?_,Y,ai,aG.set v.toNat a,aL,gr,L,?_,⟨dQ,fun z Z=>?_⟩,?_,bf,c4.U au (fun r E W=>?_),a6,by rw[ah];exact aN,bi⟩
  ·obtain⟨c,O⟩:=aW E;exact⟨bf r E,fun he=>(by subst he;exact absurd (ed O (cY.ext ay)) (by decide)),.inr (.inl ⟨c,O⟩)⟩
  ·rw[ah];exact ci.U au fun he=>cb bk.1 ci (by decide) he
  ·rcases W3 Z with Z|rfl
   ·exact bk.og au (fun r E=>by obtain⟨c,O⟩:=aW E;exact⟨_,c,O,by decide⟩) z Z
   ·exact⟨dH,aZ bO au fun r E W=>by
     obtain⟨c,O⟩:=aW W;exact bE bO O (by decide) E rfl⟩
  ·rw[ah,List.map_set,aM]
  ·obtain⟨c,O⟩:=aW W;exact cb c4 O (by decide) E
 ·
  have ah:cW f (i+1)={cW f i with funs:=(cW f i).funs++[cS y]}:=by
   rw[cc];unfold gU;have c5:2≤(cS y).1.length:=by show 2≤y.sc.length;omega
   generalize cS y=g at c5 ⊢;obtain⟨sc,cs⟩:=g
   match sc,c5 with
   |_::_::_,_=>rfl
  rw[aP cT.p 4 aO rfl,bn aU.p aU.i rfl (show cV.rangeAt dD 0 (cz y) from bJ.range)];refine eQ (f:=cz) (k:=3) (a:=y) cg.u aU.i (by omega) rfl rfl fun fm fo dR fp a7 dS=>?_;have bQ:=bN.ext a7;have dT:=ch.ext a7;have bR:=aO.ext a7;have dV:=bM.ext a7;refine ff (f:=cz) (a:=y) cg.u aU.i rfl bQ (by simpa using dS.sl) (cZ y bI).one (by omega) (by omega) fun b4 b5 fq bT b6 c6=>?_;have c7:=bR.U c6 fun he=>cb bQ bR (by decide) he;rw[aF cT.p rfl];refine aY cg.i (cF bT.sl).1 (cF bT.sl).2 c7 (by simp) fun dW c8 fs dX=>?_;have ax:ad (fun r=>leadsTo aL r∨r=X) dR dW:=(c6.mono fun r _ h=>.inl h).trans (c8.mono fun r _ h=>.inr h);have ft:=a7.size;refine ce _ ⟨dV.U ax fun r E=>?_,Y,ai,aG,b4,b5,L++[y],?_,dT.U ax (fun r E=>?_),by rw[ah];exact aM,bf,bT.U c8 (fun r E W=>?_),fun z Z=>?_,?_,fun r E=>?_⟩
  ·rcases E with E|rfl
   ·obtain⟨rfl,c,O⟩:=c3 bQ E;have:=bi _ E;refine⟨by omega,fun he=>?_,.inr (.inr ⟨⟨c,O⟩,this⟩)⟩;subst he;exact absurd (ed O (cY.ext a7)) (by decide)
   ·exact⟨by omega,ae,.inl ⟨_,bR⟩⟩
  ·rw[ah];exact dX
  ·rcases E with E|rfl
   ·obtain⟨rfl,c,O⟩:=c3 bQ E;exact⟨_,c,O,by decide,by decide⟩
   ·exact⟨_,_,bR,by decide,by decide⟩
  ·have W:r=X:=W;subst W;exact cb bT c7 (by decide) E
  ·rcases p8.1 Z with Z|Z
   ·exact a6 z Z
   ·rw[p9.1 Z];exact bI
  ·rw[ah,j4,aN];rfl
  ·rcases b6 r E with h|h
   ·exact bi r h
   ·omega
def gf (w:x1) (S:Nat→Prop) (e:u9):Prop:=∀ r,S r→ ∃ c,aa w r e c
theorem hB {E:u9} {k:o4} {g:Nat} (h:ak k E w g v l) (J:ad S w w') (O:gf w S e) (U:E≠e):ak k E w' g v l:=aZ h J fun r V W=>by
 obtain⟨c,X⟩:=O r W;exact bE h X U V rfl
theorem lI {α:Type} {f:α→List y0} {k:Nat} {E:u9} {g:Nat} {L:List α} (h:aT f k E w g v L) (J:ad S w w') (O:gf w S e) (V:E≠e):aT f k E w' g v L:=h.U J fun r W X=>by
 obtain⟨c,Y⟩:=O r X;exact cb h Y V W
theorem fQ {E:u9} {r:Nat} (h:aa w r E c) (J:ad S w w') (O:gf w S e) (V:E≠e):aa w' r E c:=h.U J fun W=>by
 obtain⟨c,X⟩:=O r W;exact V (ed h X)
theorem lJ {α:Type} {f:α→List y0} {k:Nat} {g:Nat} {L:List α} (h:aT f k e w g v L):gf w (fun r=>leadsTo v r) e:=fun r E=>by
 obtain⟨rfl,c,J⟩:=c3 h E;exact⟨c,J⟩
theorem kF {g:Nat} (h:aa w g e c):gf w (fun r=>r=g) e:=fun r E=>by
 have E:r=g:=E;subst E;exact⟨c,h⟩
theorem tz {h:dZ} (E:dD w sizes h) (J:ad S w w') (O:gf w S e) (h1:e≠ab) (U:e≠aj):dD w' sizes h:=jV E J fun r V=>by
 obtain⟨c,W⟩:=O r V;exact .inl ⟨e,c,W,h1,U⟩
def jW {α:Type} (f:α→y0) (L:List α):Prop:=∀ (i j:Nat) x y,L[i]? =some x→L[j]? =some y→i≠j→ ∀ r,leads (f x) r→¬leads (f y) r
theorem jW.nil {α:Type} (f:α→y0):jW f []:=fun i j x y h=>by simp at h
theorem jW.push {α:Type} {f:α→y0} {L:List α} {a:α} {b:Nat} (h:jW f L) (h1:∀ x∈L,∀ r,leads (f x) r→r<b) (V:∀ r,leads (f a) r→b≤r):jW f (L++[a]):=fun i j x y J Z aa r O U=>by
 have W:∀ {p:Nat} {z:α},(L++[a])[p]? =some z→L[p]? =some z∨(p=L.length∧z=a):=fun {p z} E=>by
  rw[List.getElem?_append] at E;split at E
  ·exact .inl E
  ·by_cases ab:p-L.length=0
   ·rw[ab] at E;cases E;exact .inr ⟨by omega,rfl⟩
   ·rw[c8 (by simp;omega)] at E;cases E
 rcases W J with X|⟨ae,ac⟩ <;> rcases W Z with Y|⟨eq,ad⟩
 ·exact h i j x y X Y aa r O U
 ·have:=h1 x (x2 X) r O;have:=V r (by rw[←ad];exact U);omega
 ·have:=h1 y (x2 Y) r U;have:=V r (by rw[←ac];exact O);omega
 ·omega
def tA (b:Bool):List y0:=[.bool b]
abbrev jp:Type:=dZ×Bool
def mT (h:jp):List y0:=[h.1.aO,h.1.szv,h.1.aJ,.bool h.2]
def zR (h:jp):List Int×List Int×Bool:=(h.1.sc,h.1.cs,h.2)
def tB (f:ep):List Int×List Int×Bool:=(f.sc,f.cs,decide (f.live≠0))
def cc (x:gB):List Int:=((Z1 x.un.length).map fun v:Nat=>(v:Int)).filter fun v=>!dropped x.mask v
structure qL where
 v:Int
 aO:y0
 bv:y0
 sc:List Int
 mL:List Int
def JA (h:qL):List y0:=[.int .i64 h.v,h.aO,h.bv]
def JB (h:qL):td:=⟨h.v,h.sc,h.mL⟩
def iB (w:x1) (B:Nat) (v:y0) (D:List eV):Prop:=∃ g,aT h2 1 al w g v D∧(∀ h∈D,∃ g,ak .i64 ab w g h.v h.l)∧ ∀ r,leadsTo v r→B≤r
def iC (w:x1) (B:Nat) (v:y0) (G:List Bool):Prop:=∃ g,aT tA 1 ig w g v G∧ ∀ r,leadsTo v r→B≤r
def hC (w:x1) (B:Nat) (v:y0) (aG:List eV):Prop:=∃ g,fA w g v aG∧(∀ r,leadsTo v r→B≤r)∧(∀ h∈aG,∀ r,leads h.v r→B≤r)∧jW (·.v) aG
def h5 (w:x1) (B:Nat) (sizes:List Int) (v:y0) (L:List jp):Prop:=∃ g,aT mT 4 ki w g v L∧(∀ h∈L,dD w sizes h.1∧ ∀ r,leads h.1.aJ r→B≤r)∧(∀ r,leadsTo v r→B≤r)∧jW (fun h=>h.1.aJ) L
def qM (w:x1) (B:Nat) (v:y0) (E:List qL):Prop:=∃ g,aT JA 3 vF w g v E∧(∀ h∈E,(∃ g,ak .i64 ab w g h.aO h.sc)∧ ∃ g,ak .i64 ab w g h.bv h.mL)∧ ∀ r,leadsTo v r→B≤r
theorem iB.ext {D:List eV} (h:iB w B v D) (J:Ext w w'):iB w' B v D:=by
 obtain⟨g,h1,E,O⟩:=h;exact⟨g,h1.ext J,fun x U=>by obtain⟨g,hm⟩:=E x U;exact⟨g,hm.ext J⟩,O⟩
theorem iC.ext {D:List Bool} (h:iC w B v D) (J:Ext w w'):iC w' B v D:=by
 obtain⟨g,h1,E⟩:=h;exact⟨g,h1.ext J,E⟩
theorem hC.ext {D:List eV} (h:hC w B v D) (J:Ext w w'):hC w' B v D:=by
 obtain⟨g,h1,E⟩:=h;exact⟨g,h1.ext J,E⟩
theorem h5.ext {L:List jp} (h:h5 w B sizes v L) (J:Ext w w'):h5 w' B sizes v L:=by
 obtain⟨g,h1,E,U⟩:=h;exact⟨g,h1.ext J,fun x O=>⟨(E x O).1.ext J,(E x O).2⟩,U⟩
theorem iB.b2 {D:List eV} (h:iB w B v D) (E:ad S w w') (J:gf w S e) (h1:al≠e) (O:ab≠e):iB w' B v D:=by
 obtain⟨g,U,V,W⟩:=h;exact⟨g,lI U E J h1,fun x X=>by obtain⟨g,hm⟩:=V x X;exact⟨g,hB hm E J O⟩,W⟩
theorem iC.b2 {D:List Bool} (h:iC w B v D) (E:ad S w w') (J:gf w S e) (h1:ig≠e):iC w' B v D:=by
 obtain⟨g,O,U⟩:=h;exact⟨g,lI O E J h1,U⟩
theorem hC.b2 {D:List eV} (h:hC w B v D) (E:ad S w w') (J:gf w S e) (h1:an≠e) (U:aj≠e):hC w' B v D:=by
 obtain⟨g,O,V⟩:=h;exact⟨g,⟨lI O.1 E J h1,fun x W=>by obtain⟨g,hm⟩:=O.2 x W;exact⟨g,hB hm E J U⟩⟩,V⟩
theorem h5.b2 {L:List jp} (h:h5 w B sizes v L) (E:ad S w w') (J:gf w S e) (h1:ki≠e) (V:e≠ab) (W:e≠aj):h5 w' B sizes v L:=by
 obtain⟨g,X,O,Y⟩:=h;exact⟨g,lI X E J h1,fun x U=>⟨tz (O x U).1 E J V W,(O x U).2⟩,Y⟩
def iD (B:Nat) (w:x1) (v:y0) (k:Int) (sizes:List Int) (s:aN):Prop:=∃ szv gz E D J O aG U L V W,v= .agg #[.int .i64 k,szv,.int .i64 s.zero,E,J,O,U,V]∧ak .i64 ab w gz szv sizes∧iB w B E D∧D.map (·.l)=s.vars.map cc∧iC w B J (s.vars.map fun x=>decide (x.gone≠0))∧
 hC w B O aG∧aG.map (·.l)=s.vars.map (·.un)∧h5 w B sizes U L∧L.map zR=s.funs.map tB∧qM w B V W∧W.map JB=s.mN∧ ∀ h∈aG,∀ x∈L,∀ r,leads h.v r→¬leads x.1.aJ r
theorem tC {P:Y3} {k:o4} {t:u9} {b:Nat} {z:y0} (E:P.underlying t=some (.slice e)) (hi:aA P e 1 b z)
  (J:∀ v g w',g=w.heap.size→Ext w w'→ak k e w' g v []→K v w'):aw P (b6 t 0 #[]) w K:=
 hN E hi (by omega) (cs:=#[]) (by simp[Instr.fill]) fun g w' O U V=>J _ g w' O U (ak.of (n:=0) (bz.full (by simpa using V) (by simp) (by simp[maxLen])))
theorem JC {n:aV} (h:tx w B v n) {g:Nat} (U:aa w' g cT v.cells.toList):∃ szv gz E O aG J gr L,aa w' g cT [.int .i64 n.k,szv,.int .i64 n.zero,E,J]∧ak .i64 ab w gz szv n.sizes∧fA w O E aG∧aG.map (·.l)=n.unary∧aT cz 3 aU w gr J L∧(∀ h∈L,dD w n.sizes h)∧L.map cS=n.funs∧(∀ r,leads szv r→B≤r)∧ ∀ h∈L,∀ r,mS h r→B≤r:=by
 obtain⟨szv,gz,E,O,aG,J,gr,L,rfl,V,W,Y,X,Z,ac⟩:=h;obtain⟨_,_,_,ad⟩:=cL V.ls;obtain⟨_,_,_,_,_,ae,_⟩:=W.1.sl;obtain⟨_,_,_,_,_,af,_⟩:=X.sl;refine⟨szv,gz,E,O,aG,J,gr,L,?_,V,W,Y,X,Z,ac⟩;rw[ad,ae,af] at U ⊢;exact U
def z12:List y0:=[.int .i64 0,.slice none 0 0,.int .i64 0,.slice none 0 0,.slice none 0 0,.slice none 0 0,.slice none 0 0,.slice none 0 0]
theorem JD {D:List eV} {a:eV} {ac:u9} (h:iB w B v D) (ao:B≤w.heap.size) (V:∃ g,ak .i64 ab w g a.v a.l) (ap:D.length≤1000)
  (ae:∀ E w',iB w' B E (D++[a])→E.cells= #[E]→E.oneCell'=true→ad (fun r=>leadsTo v r) w w'→gf w (fun r=>leadsTo v r) al→(∀ r,leadsTo v r→B≤r)→K E w'):
  aw x5 (b6 eg 1 #[(0,a.v)]) w fun x Y=>aw x5 (l9 #[eg,eg] ac #[v,x]) Y K:=by
 obtain⟨g,h1,af,Z⟩:=h;obtain⟨ag,V⟩:=V;refine eQ (f:=h2) (k:=1) (a:=a) eg.u al.i (by omega) V.ls.cells.1 rfl fun aq au Y av O ah=>?_;refine ff (f:=h2) (a:=a) eg.u al.i rfl (h1.ext O) (by simpa using ah.sl) (fun u hu=>by rw[p9.1 (show u∈[a.v] from hu)];exact V.ls.cells.2) (by omega) (by omega) fun E ai w' W aj X=>?_;have aa:=lJ (h1.ext O);have ax:=O.size;refine ae E w' ⟨ai,W,fun x J=>?_,fun r am=>(aj r am).elim (Z r) fun h=>by omega⟩ (cF W.sl).1 (cF W.sl).2 ((O.U _).trans X) (lJ h1) Z;rcases p8.1 J with J|J
 ·obtain⟨an,hm⟩:=af x J;exact⟨an,hB (hm.ext O) X aa (by decide)⟩
 ·rw[p9.1 J];exact⟨ag,hB (V.ext O) X aa (by decide)⟩
theorem JE {G:List Bool} {a:Bool} {X:u9} (h:iC w B v G) (af:B≤w.heap.size) (ag:G.length≤1000)
  (Y:∀ E w',iC w' B E (G++[a])→E.cells= #[E]→E.oneCell'=true→ad (fun r=>leadsTo v r) w w'→gf w (fun r=>leadsTo v r) ig→(∀ r,leadsTo v r→B≤r)→K E w'):
  aw x5 (b6 iR 1 #[(0,.bool a)]) w fun x V=>aw x5 (l9 #[iR,iR] X #[v,x]) V K:=by
 obtain⟨g,h1,W⟩:=h;refine eQ (f:=tA) (k:=1) (a:=a) iR.u ig.i (by omega) rfl rfl fun ah ai V aj J Z=>?_;refine ff (f:=tA) (a:=a) iR.u ig.i rfl (h1.ext J) (by simpa using Z.sl) (fun u hu=>by rw[p9.1 (show u∈[.bool a] from hu)];rfl) (by omega) (by omega) fun E aa w' O ab ac=>?_;have ak:=J.size;exact Y E w' ⟨aa,O,fun r ae=>(ab r ae).elim (W r) fun h=>by omega⟩ (cF O.sl).1 (cF O.sl).2 ((J.U _).trans ac) (lJ h1) W
theorem JF {b0:Nat} {aG:List eV} {a:eV} {ac:u9} {P:x1→Prop} (h:hC w B v aG) (ax:B≤b0) (ay:b0≤w.heap.size) (W:∃ g,ak .i64 aj w g a.v a.l) (ae:∀ r,leads a.v r→b0≤r) (af:∀ x∈aG,∀ r,leads x.v r→r<b0) (az:aG.length≤1000) (ag:∀ E,Ext w E→P E)
  (ah:∀ O w',hC w' B O (aG++[a])→O.cells= #[O]→O.oneCell'=true→ad (fun r=>leadsTo v r) w w'→gf w (fun r=>leadsTo v r) an→(∀ r,leadsTo v r→B≤r)→K O w'):
  aw x5 (b6 eY 1 #[(0,a.v)]) w fun x E=>P E∧aw x5 (l9 #[eY,eY] ac #[v,x]) E K:=by
 obtain⟨g,⟨h1,ai⟩,aa,al,am⟩:=h;obtain⟨ao,W⟩:=W;refine eQ (f:=h2) (k:=1) (a:=a) eY.u an.i (by omega) W.ls.cells.1 rfl fun aA aB E aC V ap=>⟨ag E V,?_⟩;refine ff (f:=h2) (a:=a) eY.u an.i rfl (h1.ext V) (by simpa using ap.sl) (fun u hu=>by rw[p9.1 (show u∈[a.v] from hu)];exact W.ls.cells.2) (by omega) (by omega) fun O aq w' Y au Z=>?_;have ab:=lJ (h1.ext V);have aD:=V.size;refine ah O w' ⟨aq,⟨Y,fun x J=>?_⟩,fun r X=>(au r X).elim (aa r) fun h=>by omega,fun x J r X=>?_,am.push af ae⟩ (cF Y.sl).1 (cF Y.sl).2 ((V.U _).trans Z) (lJ h1) aa
 ·rcases p8.1 J with J|J
  ·obtain⟨av,hm⟩:=ai x J;exact⟨av,hB (hm.ext V) Z ab (by decide)⟩
  ·rw[p9.1 J];exact⟨ao,hB (W.ext V) Z ab (by decide)⟩
 ·rcases p8.1 J with J|J
  ·exact al x J r X
  ·rw[p9.1 J] at X;have:=ae r X;omega
theorem JG {h:jp} (E:dD w sizes h.1):∀ u∈mT h,u.oneCell'=true:=fun u hu=>by
 have:=E.one;simp[mT] at hu;rcases hu with rfl|rfl|rfl|rfl
 ·exact this _ (by simp[cz])
 ·exact this _ (by simp[cz])
 ·exact this _ (by simp[cz])
 ·rfl
theorem JH {b0:Nat} {Z:y0} {L:List jp} {a:jp} {ag:u9} {P:x1→Prop} (h:h5 w B sizes v L) (ap:B≤b0) (aq:b0≤w.heap.size) (aa:dD w sizes a.1) (ae:∀ r,leads a.1.aJ r→b0≤r) (ah:∀ x∈L,∀ r,leads x.1.aJ r→r<b0) (au:L.length≤1000) (ai:Z.cells=(mT a).toArray) (aj:∀ E,Ext w E→P E)
  (ak:∀ O w',h5 w' B sizes O (L++[a])→O.cells= #[O]→O.oneCell'=true→ad (fun r=>leadsTo v r) w w'→gf w (fun r=>leadsTo v r) ki→(∀ r,leadsTo v r→B≤r)→K O w'):
  aw x5 (b6 iS 1 #[(0,Z)]) w fun x E=>P E∧aw x5 (l9 #[iS,iS] ag #[v,x]) E K:=by
 obtain⟨g,h1,ab,ac,al⟩:=h;refine eQ (f:=mT) (k:=4) (a:=a) iS.u ki.i (by omega) ai rfl fun av ax E ay V am=>⟨aj E V,?_⟩;refine ff (f:=mT) (a:=a) iS.u ki.i rfl (h1.ext V) (by simpa using am.sl) (JG aa) (by omega) (by omega) fun O an w' W ao X=>?_;have af:=lJ (h1.ext V);have az:=V.size;refine ak O w' ⟨an,W,fun x J=>?_,fun r Y=>(ao r Y).elim (ac r) fun h=>by omega,al.push ah ae⟩ (cF W.sl).1 (cF W.sl).2 ((V.U _).trans X) (lJ h1) ac;rcases p8.1 J with J|J
 ·exact⟨tz ((ab x J).1.ext V) X af (by decide) (by decide),(ab x J).2⟩
 ·rw[p9.1 J];exact⟨tz (aa.ext V) X af (by decide) (by decide),fun r Y=>by have:=ae r Y;omega⟩
theorem JI (u:List Int):cc (newVar u)=(Z1 u.length).map fun v:Nat=>(v:Int):=by
 unfold cc newVar dropped;rw[List.filter_eq_self.2];intro a _;simp
theorem hC.lt {aG:List eV} (h:hC w B v aG):∀ x∈aG,∀ r,leads x.v r→r<w.heap.size:=fun x J r E=>by
 obtain⟨g,⟨h1,O⟩,_⟩:=h;obtain⟨U,hm⟩:=O x J;have:=bp hm E;omega
theorem h5.lt {L:List jp} (h:h5 w B sizes v L):∀ x∈L,∀ r,leads x.1.aJ r→r<w.heap.size:=fun x J r E=>by
 obtain⟨g,h1,O,_⟩:=h;obtain⟨_,_,U,hm⟩:=(O x J).1;have:=bp hm E;omega
set_option maxHeartbeats 8000000 in
theorem zS {cl:y0} {n:aV} (c8:tx w B cl n) (aM:hy n) (ae:n.funs.length≤256):ag x5 By [cl] w fun v w'=>Ext w w'∧iD w.heap.size w' v n.k n.sizes (er n):=by
 have eT:=aM.sizes.2.1;have c9:=aM.iw;refine ap func27 ?_;refine a7 fun da db eU bL dc=>?_;obtain⟨szv,gz,dd,eV,cm,de,eW,bM,bd,aC,df,cn,be,dg,cp,_⟩:=JC c8 dc;refine bg b7.i fun gt V eX bf bh=>?_;have bh:aa V gt b7 z12:=bh;have bN:=bd.ext bf;rw[aP cT.p 0 bN rfl,aP cT.p 1 bN rfl,aP cT.p 2 bN rfl,
  ct (cs:=#[.int .i64 n.k,szv,.int .i64 n.zero,.slice none 0 0,.slice none 0 0,.slice none 0 0,.slice none 0 0,.slice none 0 0]) (by obtain⟨_,_,_,e⟩:=cL aC.ls;rw[e];kernel_rfl)]
 refine bg b7.i fun gs eZ e0 bQ dh=>?_;refine bP (vs:=[.int .i64 n.k,szv,.int .i64 n.zero,.slice none 0 0,.slice none 0 0,.slice none 0 0,.slice none 0 0,.slice none 0 0]) b7.i rfl rfl (fun u hu=>?_) dh fun bR bT e1 di=>?_
 ·simp at hu;rcases hu with rfl|rfl|rfl|rfl
  ·rfl
  ·exact aC.ls.cells.2
  ·rfl
  ·rfl
 have e2:=bL.size;have e3:=bf.size;have e4:=bh.lt;have aN:gt≠gs:=by omega
 have bU:Ext w bR:=((bL.trans bf).trans bQ).put bT (by omega);have cq:Ext db bR:=(bf.trans bQ).put bT (by omega);have dj:=(bh.ext bQ).U bT fun he=>aN he;have e5:w.heap.size≤gs:=by omega
 rw[aP cT.p 1 (bd.ext cq) rfl,aK al.u (aC.ext bU).ls];have e6:=bU.size;have e7:=bd.lt;refine bS.range n.sizes.length (fun i O=>Ext w O∧bR.heap.size≤O.heap.size∧aa O da cT [.int .i64 n.k,szv,.int .i64 n.zero,dd,de]∧aa O gt b7 z12∧ ∃ ad D Z Y aG,aa O gs b7 [.int .i64 n.k,szv,.int .i64 n.zero,ad,Z,Y,.slice none 0 0,.slice none 0 0]∧iB O w.heap.size ad D∧D.map (·.l)=(n.unary.take i).map (fun u=>cc (newVar u))∧iC O w.heap.size Z (u6 i false)∧hC O w.heap.size Y aG∧aG.map (·.l)=n.unary.take i) (by omega)
  ⟨bU,r9 _,bd.ext cq,dj,_,[],_,_,[],di,⟨0,aT.nil _ _ _ _ _,fun x J=>(by cases J),fun r E=>(ds E).elim⟩,rfl,⟨0,aT.nil _ _ _ _ _,fun r E=>(ds E).elim⟩,⟨0,⟨aT.nil _ _ _ _ _,fun x J=>(by cases J)⟩,fun r E=>(ds E).elim,fun x J=>(by cases J),jW.nil _⟩,rfl⟩ ?_ ?_
 ·rintro i O dk hi ⟨ao,z5,bV,bW,ad,D,Z,Y,aG,bi,bX,aQ,bY,bj,aR⟩ dl;obtain⟨z,bZ⟩:=aE (l:=n.sizes) hi;obtain⟨u,hu⟩:=aE (l:=n.unary) (i:=i) (by omega);have e8:=aM.sizes.2.2 z (x2 bZ);obtain⟨e9,_⟩:=aM.unary i z u bZ hu;have fa:D.length=i:=by have:=congrArg V3 aQ;simp only[r8,o6] at this;omega
  have fb:aG.length=i:=by have:=congrArg V3 aR;simp only[r8,o6] at this;omega
  refine bC (by omega) ?_;rw[a1 al.u ab.i (by kernel_rfl) (aC.ext ao).ls bZ];obtain⟨cr,rfl⟩:∃ m:Nat,z=m:=⟨z.toNat,by omega⟩;refine bO.range cr (fun j aS bk=>Ext O bk∧ ∃ g,ak .i64 ab bk g aS ((Z1 j).map fun v:Nat=>(v:Int))∧ ∀ r,leads aS r→O.heap.size≤r) (by omega)
   ⟨Ext.refl _,0,ak.nil _ _ _ _,fun r E=>by obtain⟨a,n,c,af,ai⟩:=E;cases af⟩ ?_ ?_
  ·rintro j aS bk b1 b4 ⟨X,cu,bl,b5⟩ b6;refine bC (by omega) ?_;refine dM (k:=.i64) al.u ab.i rfl fun fc fd fe ff b8 dm=>?_;refine gb al.u ab.i rfl (bl.ext b8) dm.ls (by simp;omega) (by simp;omega) fun fg dn fh dp dq dr=>?_;rw[aB];have dt:=X.size;have fi:=b8.size;refine b6 _ _ ⟨(X.trans b8).then dr fun r E he=>by have:=b5 r he;omega,dn,?_,fun r E=>(dq r E).elim (b5 r) fun h=>by omega⟩;rw[List.range_succ,j4];exact dp
  rintro aS bk b1 ⟨X,cu,bl,b5⟩;refine cH (by omega) ?_;have du:(Z1 cr).map (fun v:Nat=>(v:Int))=cc (newVar u):=by rw[JI];congr 2;omega
  rw[du] at bl;have dt:=X.size;have dv:=ao.size;rw[aP b7.p 3 (bi.ext X) rfl];refine JD (a:=⟨aS,cc (newVar u)⟩) (bX.ext X) (by omega) ⟨cu,bl⟩ (by omega) fun ca fj dw af ai aq aW dx=>?_;have cw:=fQ (bi.ext X) aq aW (by decide);rw[aF b7.p rfl];refine aY (g:=gs) (o:=3) eg.i af ai cw (by simp) fun bm aD fk bo=>?_;have bo:aa bm gs b7 [.int .i64 n.k,szv,.int .i64 n.zero,ca,Z,Y,.slice none 0 0,.slice none 0 0]:=bo;have bq:=kF cw;have cA:Ext w bm:=((ao.trans X).then aq fun r E he=>by have:=dx r he;omega).put aD (by omega);have dy:=fQ (fQ (bV.ext X) aq aW (by decide)) aD bq (by decide);have dz:=(fQ (bW.ext X) aq aW (by decide)).U aD fun he=>aN he;have dC:=dw.b2 aD bq (by decide) (by decide);have dE:=((bY.ext X).b2 aq aW (by decide)).b2 aD bq (by decide);have dF:=((bj.ext X).b2 aq aW (by decide) (by decide)).b2 aD bq (by decide) (by decide);have fm:O.heap.size≤bm.heap.size:=by have:=aq.size;omega
  rw[aP b7.p 4 bo rfl];refine JE (a:=false) dE (by omega) (by simp;omega) fun cB fo dG aX dH au aZ dI=>?_;have cC:=fQ bo au aZ (by decide);rw[aF b7.p rfl];refine aY (g:=gs) (o:=4) iR.i aX dH cC (by simp) fun cb aH fp cd=>?_;have cd:aa cb gs b7 [.int .i64 n.k,szv,.int .i64 n.zero,ca,cB,Y,.slice none 0 0,.slice none 0 0]:=cd;have br:=kF cC;have fq:=cA.size;have dJ:Ext w cb:=(cA.then au fun r E he=>by have:=dI r he;omega).put aH (by omega);have dK:=fQ (fQ dy au aZ (by decide)) aH br (by decide);have dL:=(fQ dz au aZ (by decide)).U aH fun he=>aN he;have dN:=(dC.b2 au aZ (by decide) (by decide)).b2 aH br (by decide) (by decide);have dO:=dG.b2 aH br (by decide);have cD:=(dF.b2 au aZ (by decide) (by decide)).b2 aH br (by decide) (by decide);have fs:bm.heap.size≤cb.heap.size:=by have:=au.size;omega
  intro bt ah _ _;have cE:=cd.ext ah;have cG:=dK.ext ah;have cI:=dJ.trans ah;obtain⟨lK,bu⟩:∃ lK,cm[i]? =some lK:=⟨_,x4 (by have:=congrArg V3 cn;rw[r8] at this;omega)⟩;have dP:lK.l=u:=by
   have cJ:(cm.map (·.l))[i]? =some lK.l:=by rw[x7,bu];rfl
   rw[cn,hu] at cJ;exact (b9 cJ).symm
  have ce:=df.ext cI;obtain⟨ft,cK⟩:=ce.2 lK (x2 bu);rw[dP] at cK;rw[aP b7.p 5 cE rfl,aP cT.p 3 cG rfl,cM rfl eY.u an.i ce.1 (x3.1 bu).1,av (v:=lK.v) (o:=i*1) (by kernel_rfl) (ce.1.range bu 0 _ rfl)];refine tC (k:=.i64) an.u aj.i fun dQ fu fv fw bw cN=>?_;refine⟨.inl bw,?_⟩;refine gb an.u aj.i rfl cN (cK.ext bw).ls (by simp;omega) (by simp;omega) fun cO dR dS cP dT dU=>?_;rw[List.nil_append] at cP;have fx:=ah.size;have fy:=bw.size;have cQ:∀ r,leads dQ r→bt.heap.size≤r:=fun r E=>by have:=(bp cN E).1;omega
  have dV:∀ r,leads cO r→bt.heap.size≤r:=fun r E=>(dT r E).elim (cQ r) fun h=>by omega
  have ac:Ext bt dS:=bw.then dU fun r E he=>by have:=cQ r he;omega
  refine⟨.inl ac,?_⟩;have cR:=cI.trans ac;have fz:=ac.size;refine JF (a:=⟨cO,u⟩) (b0:=bt.heap.size) ((cD.ext ah).ext ac) (by omega) (by omega) ⟨dR,cP⟩ dV (cD.ext ah).lt (by omega) (fun fA dW=>.inl (ac.trans dW)) fun dX fB dY dZ ea aw a2 eb=>?_;have ec:=cE.ext ac;have cU:=fQ ec aw a2 (by decide);rw[aF b7.p rfl];refine aY (g:=gs) (o:=5) eY.i dZ ea cU (by simp) fun fC aI fD ed=>?_;have bx:=kF cU;rw[aB];have ee:=(dN.ext ah).ext ac;have ef:=(dO.ext ah).ext ac;have eh:=cG.ext ac;have ei:=(dL.ext ah).ext ac;have fE:=cR.size;have fF:=aw.size;refine dl _ ⟨(cR.then aw fun r E he=>by have:=eb r he;omega).then aI fun r E he=>by have he:r=gs:=he;omega,by omega,fQ (fQ eh aw a2 (by decide)) aI bx (by decide),(fQ ei aw a2 (by decide)).U aI fun he=>aN he,ca,_,cB,dX,_,ed,(ee.b2 aw a2 (by decide) (by decide)).b2 aI bx (by decide) (by decide),?_,?_,dY.b2 aI bx (by decide) (by decide),?_⟩
  ·rw[j4,aQ,u5,hu,j5,j4];rfl
  ·have:=(ef.b2 aw a2 (by decide)).b2 aI bx (by decide);rw[List.replicate_succ'];exact this
  ·rw[j4,aR,u5,hu];rfl
 rintro O dk ⟨ao,z5,bV,bW,ad,D,Z,Y,aG,bi,bX,aQ,bY,bj,aR⟩;refine cH (by omega) ?_;rw[Z0 (by omega)] at aQ aR;have fG:=be.ext (bL.trans (Ext.refl _));have fH:bM.length=n.funs.length:=by rw[←cp,r8]
 have ej:=be.ext ao;rw[aP cT.p 4 bV rfl,dA cg.u ej];have dv:=ao.size;refine bS.range bM.length (fun j W=>Ext w W∧O.heap.size≤W.heap.size∧aa W gt b7 z12∧iB W w.heap.size ad D∧iC W w.heap.size Z (u6 n.sizes.length false)∧hC W w.heap.size Y aG∧ ∃ ax L,aa W gs b7 [.int .i64 n.k,szv,.int .i64 n.zero,ad,Z,Y,ax,.slice none 0 0]∧h5 W O.heap.size n.sizes ax L∧L.map zR=(n.funs.take j).map (fun g=>tB (kB n.sizes g))) be.le
  ⟨ao,r9 _,bW,bX,bY,bj,_,[],bi,⟨0,aT.nil _ _ _ _ _,fun x J=>(by cases J),fun r E=>(ds E).elim,jW.nil _⟩,rfl⟩ ?_ ?_
 ·rintro j W b1 b4 ⟨ay,ek,bz,bA,bB,bD,ax,L,bE,a6,a8⟩ b6;obtain⟨y,ch⟩:=aE (l:=bM) b4;have cV:n.funs[j]? =some (cS y):=by rw[←cp,x7,ch];rfl
  have cW:=(aM.funs (cS y) (x2 cV)).1;have fI:y.cs.length≤4096:=by
   have h1:y.cs.length=_:=cW.len;have fJ:=cW.small;omega
  have cX:=(dg y (x2 ch)).ext ay;have fK:L.length=j:=by have:=congrArg V3 a8;simp only[r8,o6] at this;omega
  have cY:=be.ext ay;refine bC (by omega) ?_;rw[cM rfl cg.u aU.i cY b4,bn aU.p aU.i rfl (cY.range ch)];refine bg aU.i fun fL fM fN em en=>?_;refine bP (vs:=cz y) aU.i rfl rfl cX.one en fun eo ep fO es=>?_;have et:Ext W eo:=em.put ep (by omega);intro bF cZ _ _;have ba:=et.trans cZ;have eu:=bE.ext ba;have ci:=es.ext cZ;have c0:=cX.ext ba;obtain⟨⟨ev,cj⟩,⟨ew,ck⟩,fP,ey⟩:=id c0;rw[aP b7.p 6 eu rfl,aP aU.p 0 ci rfl,aP aU.p 1 ci rfl,aP aU.p 2 ci rfl];refine tC (k:=.i64) an.u aj.i fun v25 fR fS fT bG c1=>?_;refine⟨.inl bG,?_⟩;refine gb an.u aj.i rfl c1 (ey.ext bG).ls (by simp;omega) (by simp;omega) fun bH ez c2 bI eA eB=>?_;rw[List.nil_append] at bI;have fU:=ba.size;have z25:=bG.size;have c3:∀ r,leads v25 r→bF.heap.size≤r:=fun r E=>by have:=(bp c1 E).1;omega
  have eC:∀ r,leads bH r→bF.heap.size≤r:=fun r E=>(eA r E).elim (c3 r) fun h=>by omega
  have am:Ext bF c2:=bG.then eB fun r E he=>by have:=c3 r he;omega
  refine⟨.inl am,?_⟩;have fV:=c0.ext am;let a:jp:=(⟨y.aO,y.szv,bH,y.sc,y.cs⟩,true);have eD:dD c2 n.sizes a.1:=⟨⟨ev,cj.ext am⟩,⟨ew,ck.ext am⟩,ez,bI⟩;rw[ct (cs:=#[y.aO,y.szv,bH]) (by obtain⟨_,_,_,af⟩:=cL cj.ls;obtain⟨_,_,_,ai⟩:=cL ck.ls;obtain⟨_,_,_,aX⟩:=cL bI.ls;rw[af,ai,aX];kernel_rfl),
   ct (cs:=#[y.aO,y.szv,bH,.bool true]) (by obtain⟨_,_,_,af⟩:=cL cj.ls;obtain⟨_,_,_,ai⟩:=cL ck.ls;obtain⟨_,_,_,aX⟩:=cL bI.ls;rw[af,ai,aX];kernel_rfl)]
  have fW:=am.size;have c4:=a6.ext ba;refine JH (a:=a) (b0:=bF.heap.size) (c4.ext am) (by omega) (by omega) eD eC c4.lt (by omega) rfl (fun fX eE=>.inl (am.trans eE)) fun eF fY eH af ai az bb eI=>?_;have aA:=ba.trans am;have c5:=fQ (bE.ext aA) az bb (by decide);rw[aF b7.p rfl];refine aY (g:=gs) (o:=6) iS.i af ai c5 (by simp) fun fZ aJ ga eJ=>?_;have bJ:=kF c5;rw[aB];have c6:=ay.trans aA;have gc:=c6.size;have gd:=az.size;have ge:=aA.size;refine b6 _ ⟨(c6.then az fun r E he=>by have:=eI r he;omega).then aJ fun r E he=>by have he:r=gs:=he;omega,by omega,(fQ (bz.ext aA) az bb (by decide)).U aJ fun he=>aN he,((bA.ext aA).b2 az bb (by decide) (by decide)).b2 aJ bJ (by decide) (by decide),((bB.ext aA).b2 az bb (by decide)).b2 aJ bJ (by decide),((bD.ext aA).b2 az bb (by decide) (by decide)).b2 aJ bJ (by decide) (by decide),eF,_,eJ,eH.b2 aJ bJ (by decide) (by decide) (by decide),?_⟩;rw[j4,a8,u5,cV,j5,j4];rfl
 rintro W b1 ⟨ay,ek,bz,bA,bB,bD,ax,L,bE,a6,a8⟩;rw[Z0 (by omega)] at a8;refine cH (by omega) ?_;rw[bn b7.p b7.i rfl (show W.rangeAt gs 0 [.int .i64 n.k,szv,.int .i64 n.zero,ad,Z,Y,ax,.slice none 0 0] from bE.range)];have one:∀ {α:Type} {f:α→List y0} {k:Nat} {e:u9} {g:Nat} {v:y0} {M:List α},aT f k e W g v M→v.oneCell'=true:=fun h=>(cF h.sl).2;obtain⟨_,eK,_⟩:=id bA;obtain⟨_,b3,_⟩:=id bB;obtain⟨_,⟨eL,_⟩,_⟩:=id bD;obtain⟨_,eM,_⟩:=id a6;refine bP (vs:=[.int .i64 n.k,szv,.int .i64 n.zero,ad,Z,Y,ax,.slice none 0 0]) b7.i rfl rfl (fun u hu=>?_) bz fun gf aL gg eN=>?_
 ·simp at hu;rcases hu with rfl|rfl|rfl|rfl|rfl|rfl|rfl|rfl
  ·rfl
  ·exact aC.ls.cells.2
  ·rfl
  ·exact one eK
  ·exact one b3
  ·exact one eL
  ·exact one eM
  ·rfl
 rw[eO b7.p b7.i rfl eN.range];have bc:=kF bz;have gh:=ay.size;refine⟨ay.then aL fun r E he=>by have he:r=gt:=he;omega,szv,gz,ad,D,Z,Y,aG,ax,L,_,[],rfl,hB (aC.ext ay) aL bc (by decide),bA.b2 aL bc (by decide) (by decide),?_,?_,bD.b2 aL bc (by decide) (by decide),?_,?_,?_,⟨0,aT.nil _ _ _ _ _,fun x J=>(by cases J),fun r E=>(ds E).elim⟩,rfl,fun h eP x J r E eQ=>?_⟩
 ·rw[aQ];show _=(n.unary.map newVar).map cc;rw[List.map_map];rfl
 ·have:=bB.b2 aL bc (by decide);have e:(er n).vars.map (fun x=>decide (x.gone≠0))=u6 n.sizes.length false:=by
   show (n.unary.map newVar).map _=_;rw[List.map_map,←c9];exact List.map_const' ..
  rw[e];exact this
 ·rw[aR];show _=(n.unary.map newVar).map _;rw[List.map_map];exact (List.map_id _).symm
 ·have:=a6.b2 aL bc (by decide) (by decide) (by decide);obtain⟨g,c7,bK,eR,eS⟩:=this;exact⟨g,c7,fun x J=>⟨(bK x J).1,fun r E=>by have:=(bK x J).2 r E;omega⟩,fun r E=>by have:=eR r E;omega,eS⟩
 ·rw[a8];show _=(n.funs.map (kB n.sizes)).map tB;rw[List.map_map];rfl
 ·have h1:=bj.lt h eP r E;obtain⟨g,c7,bK,_⟩:=a6;have:=(bK x J).2 r eQ;omega
section
variable {P:Y3} {w:x1} {t:u9} {cx cy:Bool} {a b:Nat} {K:y0→Prop}
theorem JJ (U:a<2 ^ 62) (E:b<2 ^ 62):O P (ax .and t cx cy (.int .i64 a) (.int .i64 b)) w K=K (.int .i64 ((a &&& b:Nat):Int)):=O.of fun w' _=>by
 have e:(V9 64 (a:Int) &&& V9 64 (b:Int)).toNat=a &&& b:=by
  rw[mn,mn,BitVec.toNat_and,BitVec.toNat_ofNat,BitVec.toNat_ofNat,Nat.mod_eq_of_lt (by omega),Nat.mod_eq_of_lt (by omega)]
 have V:a &&& b<2 ^ 62:=Nat.and_lt_two_pow _ E;have hw:X5.wrap ((a &&& b:Nat):Int)=((a &&& b:Nat):Int):=wrap_i64 (by omega) (by omega);have J:(V9 X5.bits (a:Int) &&& V9 X5.bits (b:Int)).toNat=a &&& b:=e;simp only[ax,eqGuard,binOp,Op.intBits,J,hw];rfl
end
theorem zT (a n:Nat):(a / 2 ^ n &&& 1=1)↔a.testBit n=true:=by
 rw[Nat.and_one_is_mod,Nat.testBit_eq_decide_div_mod_eq,decide_eq_true_eq]
theorem JK {b n:Nat} {v:Int} (W:kv b n):ag x5 Ck [hT b n,.int .i64 v] w fun r w'=>r= .bool (decide (0≤v∧v<n)&&b.testBit v.toNat)∧Ext w w':=by
 refine ap func126 ?_;refine a7 fun g aa ab J O=>?_;refine aI (fun r V=>r= .bool (decide (0≤v∧v<n)&&b.testBit v.toNat)∧Ext w V) (fun _ _ h=>h) fun ac U=>?_;rw[bn bx.p bx.i rfl O.range];refine wW.mono ?_;rintro _ ad _ ⟨rfl,E⟩;rw[af];refine⟨fun h=>?_,fun h=>U _ _ ⟨by rw[decide_eq_false h];rfl,J.trans E⟩⟩;obtain⟨X,ae⟩:=W;obtain⟨s,rfl⟩:∃ s:Nat,v=s:=⟨v.toNat,by omega⟩;have Y:=O.ext E;have ah:(2:Nat) ^ n≤2 ^ 32:=Nat.pow_le_pow_right (by omega) X;have Z:b / 2 ^ s<2 ^ 64:=Nat.lt_of_le_of_lt (Nat.div_le_self _ _) (by omega);rw[aP bx.p 0 Y rfl,pL (by omega),show (1:Int)=((1:Nat):Int) from rfl,u64_and Z (by omega),bc];refine U _ _ ⟨?_,J.trans E⟩;congr 1;rw[decide_eq_true h,Bool.true_and,X8,decide_eq_true_eq,j6,←zT];omega
theorem JL (m v:Nat):dropped (m:Int) (v:Int)=m.testBit v:=by unfold dropped;rw[j6,j6]
def cC (w:x1) (ao gT:Nat) (A R:am) (n:aV) (s:aN) (t:aH):Prop:=StateM w ao gT A R n s t∧t.bH=s.cells∧oj t∧eF n.k n.sizes s∧hy n
theorem cC.ext {A R:am} {n:aV} {s:aN} {t:aH} (h:cC w ao gT A R n s t) (J:Ext w w'):cC w' ao gT A R n s t:=⟨h.1.ext J,h.2⟩
theorem StateM.parts {A R:am} {n:aV} {s:aN} {t:aH} (h:StateM w ao gT A R n s t):∃ E J O U V W L X,aa w ao ch [.pointer (some ⟨E,0,none⟩),.pointer (some ⟨gT,0,none⟩),J,O,U]∧eE w E n∧c4 w gT X t∧ak .i64 ab w V J (hz s)∧aT mP 3 eL w W O L∧jS R w L s:=by
 obtain⟨E,J,O,U,_,V,W,ah,L,ai,X,w0,Y,⟨Z,ac,aj⟩,⟨ad,al,an,ap⟩,ae,⟨af,ag⟩,aq,au⟩:=h;exact⟨E,J,O,U,V,W,L,X,Y,Z.ext ac,ad,ae,af,ag⟩
theorem tD {s:aN} {i:Nat} (h:i<s.vars.length):(hz s)[i]? =some (gV s i:Int):=by
 unfold hz;rw[x7,List.getElem?_range h];rfl
theorem ot {s:aN} {t:aH} (ac:t.bH=s.cells) (E:oj t):s.cells.length≤100000000:=by
 rw[←ac];unfold aH.bH;rw[r8];exact E.1
theorem zU {s:aN} {i:Nat} {x:gB} (h:s.vars[i]? =some x):gV s i+x.un.length+2≤s.cells.length:=by
 have h1:=qG h (j:=x.un.length+1) (by omega);have E:(jj x)[x.un.length+1]? ≠none:=by
  rw[Ne,List.getElem?_eq_none_iff];show ¬(x.un.length+1+1≤x.un.length+1);omega
 rw[←h1] at E;have:=(x3.1 (Option.ne_none_iff_exists'.1 E).choose_spec).1;omega
theorem zV {s:aN} {f:ep} (h:s.funs[j]? =some f):fk s j+f.cs.length+1≤s.cells.length:=by
 have h1:=te h (j:=f.cs.length) (by omega);have E:(ga f)[f.cs.length]? ≠none:=by
  rw[Ne,List.getElem?_eq_none_iff];show ¬(f.cs.length+1≤f.cs.length);omega
 rw[←h1] at E;have:=(x3.1 (Option.ne_none_iff_exists'.1 E).choose_spec).1;omega
section
variable {w:x1} {ao gT:Nat} {A R:am} {n:aV} {s:aN} {t:aH}
theorem zW (h:cC w ao gT A R n s t):ag x5 Cs [.pointer (some ⟨ao,0,none⟩)] w fun v w'=>(∃ E,v= .pointer (some ⟨E,0,none⟩)∧eE w' E n)∧Ext w w':=by
 obtain⟨E,U,V,W,X,Y,L,Z,J,O,aa,ab,ac,ad⟩:=h.1.parts;refine ap func145 ?_;rw[cQ dy.u];simp only[c6,aR];rw[aD ch.p 0 J rfl];exact⟨⟨E,rfl,O⟩,Ext.refl _⟩
theorem zX (h:cC w ao gT A R n s t):ag x5 BL [.pointer (some ⟨ao,0,none⟩)] w fun v w'=>v= .int .i64 (n.sizes.length:Int)∧Ext w w':=by
 refine ap func60 ?_;refine (zW h).mono ?_;rintro _ U _ ⟨⟨W,rfl,E⟩,J⟩;refine (tf E).mono ?_;rintro _ V _ ⟨rfl,O⟩;exact⟨rfl,J.trans O⟩
theorem ou (h:cC w ao gT A R n s t):ag x5 BT [.pointer (some ⟨ao,0,none⟩)] w fun v w'=>v= .int .i64 n.k∧Ext w w':=by
 refine ap func77 ?_;refine (zW h).mono ?_;rintro _ U _ ⟨⟨W,rfl,E⟩,J⟩;refine (IH E).mono ?_;rintro _ V _ ⟨rfl,O⟩;exact⟨rfl,J.trans O⟩
theorem tE {i:Int} (h:cC w ao gT A R n s t):ag x5 Cv [.pointer (some ⟨ao,0,none⟩),.int .i64 i] w fun v w'=>v= .bool (decide (0≤i∧i<n.sizes.length))∧Ext w w':=by
 refine ap func148 ?_;refine aI (fun v E=>v= .bool (decide (0≤i∧i<n.sizes.length))∧Ext w E) (fun _ _ h=>h) fun V J=>?_;rw[cn,af];refine⟨fun O=>?_,fun O=>J _ _ ⟨by rw[decide_eq_false (by omega)],Ext.refl _⟩⟩;refine (zX h).mono ?_;rintro _ E _ ⟨rfl,U⟩;rw[aC];refine J _ _ ⟨?_,U⟩;congr 1;exact decide_eq_decide.2 ⟨fun h=>⟨O,h⟩,fun h=>h.2⟩
theorem JM (h:cC w ao gT A R n s t):ag x5 BK [.pointer (some ⟨ao,0,none⟩)] w fun v w'=>v= .int .i64 s.zero∧Ext w w':=by
 obtain⟨U,V,W,X,Y,Z,L,aa,E,ab,J,ac,ad,ae⟩:=h.1.parts;refine ap func59 ?_;rw[cQ dy.u];simp only[c6,aR];rw[aD ch.p 1 E rfl];refine (mM (i:=0) J rfl (show t.bH[0]? =some s.zero by rw[h.2.1];exact IE s)).mono ?_;rintro _ af _ ⟨rfl,O⟩;exact⟨rfl,O⟩
theorem ov (h:cC w ao gT A R n s t):ag x5 BU [.pointer (some ⟨ao,0,none⟩)] w fun v w'=>v= .int .i64 (s.funs.length:Int)∧Ext w w':=by
 obtain⟨U,V,W,X,Y,Z,L,aa,E,ab,ac,ad,J,O⟩:=h.1.parts;refine ap func78 ?_;rw[cQ dy.u];simp only[c6,aR];rw[aD ch.p 3 E rfl,dA ew.u J];exact⟨by rw[O.1],Ext.refl _⟩
def mU (s:aN) (i:Nat):Bool:=match s.vars[i]? with
 |some x=>decide (x.gone≠0)
 |none=>false
theorem JN {i:Int} (h:cC w ao gT A R n s t):ag x5 BP [.pointer (some ⟨ao,0,none⟩),.int .i64 i] w fun v w'=>v= .bool (decide (0≤i)&&mU s i.toNat)∧Ext w w':=by
 refine ap func67 ?_;refine aI (fun v X=>v= .bool (decide (0≤i)&&mU s i.toNat)∧Ext w X) (fun _ _ h=>h) fun ai E=>?_;intro V O _ _;refine (tE (h.ext O)).mono ?_;rintro _ aj _ ⟨rfl,Y⟩;have J:=O.trans Y;have ak:=h.2.2.2.1.vars;rw[af];refine⟨fun Z=>?_,fun am=>E _ _ ⟨?_,J⟩⟩
 ·obtain⟨an,aq,au,av,aw,ax,L,ay,U,az,aa,ac,aA,aB⟩:=(h.ext J).1.parts;obtain⟨x,W⟩:=aE (l:=s.vars) (i:=i.toNat) (by omega);rw[aD ch.p 1 U rfl,aD ch.p 2 U rfl,fv (y:=i) (i:=i.toNat) (by omega) al.u ab.i (by kernel_rfl) ac.ls (tD (by omega))];have ad:t.bH[gV s i.toNat+0]? =some x.gone:=by rw[h.2.1,qG W (by omega)];rfl
  refine (mM (i:=gV s i.toNat) aa rfl ad).mono ?_;rintro _ aC _ ⟨rfl,ae⟩;rw[bj];refine E _ _ ⟨?_,J.trans ae⟩;rw[decide_eq_true Z.1,Bool.true_and];unfold mU;rw[W]
 ·by_cases ah:0≤i
  ·unfold mU;rw[c8 (by omega),Bool.and_false]
  ·rw[decide_eq_false ah];rfl
def kG (n:aV) (i v:Int):Prop:=0≤i∧i<n.sizes.length∧0≤v∧v<n.sizes.getD i.toNat 0
instance (n:aV) (i v:Int):Decidable (kG n i v):=inferInstanceAs (Decidable (_∧_))
theorem kG.var {i v:Int} (ac:kG n i v) (E:eF n.k n.sizes s):∃ x,s.vars[i.toNat]? =some x∧v.toNat<x.un.length∧x.un.length≤32∧n.sizes.getD i.toNat 0=x.un.length:=by
 obtain⟨h1,V,W,U⟩:=ac;have X:=E.vars;obtain⟨x,J⟩:=aE (l:=s.vars) (i:=i.toNat) (by omega);obtain⟨z,O⟩:=aE (l:=n.sizes) (i:=i.toNat) (by omega);have Y:=E.jk.2.2 z (x2 O);have Z:=(E.var i.toNat x z J O).1;rw[u4,O,V4] at U ⊢;exact⟨x,J,by omega,by omega,by omega⟩
theorem JO {i v:Int} (h:cC w ao gT A R n s t):ag x5 Cj [.pointer (some ⟨ao,0,none⟩),.int .i64 i,.int .i64 v] w fun r w'=>r= .int .i64 (if kG n i v then ((gV s i.toNat+2+v.toNat:Nat):Int) else-1)∧Ext w w':=by
 have aE:=h.2.2.2.1.vars;refine ap func125 ?_;refine aI (fun r Y=>r= .bool (decide (¬kG n i v))∧Ext w Y) ?_ ?_
 ·rintro _ Y ⟨rfl,W⟩;rw[af];refine⟨fun ae=>⟨by rw[if_neg ae],W⟩,fun O=>?_⟩;have O:=Z6.1 O;obtain⟨x,ah,aF,aG,_⟩:=O.var h.2.2.2.1;obtain⟨ai,aj,ak,am,an,aq,L,au,E,Z,av,aa,aw,ax⟩:=(h.ext W).1.parts;have ad:=zU ah;have aH:=ot h.2.1 h.2.2.1;obtain⟨h1,aJ,aK,aL⟩:=id O;rw[aD ch.p 2 E rfl,fv (y:=i) (i:=i.toNat) (by omega) al.u ab.i (by kernel_rfl) aa.ls (tD (by omega)),aB,wrap_i64 (by omega) (by omega),aB,wrap_i64 (by omega) (by omega),if_pos O];refine⟨?_,W⟩;congr 1;omega
 ·intro aM X;refine (tE h).mono ?_;rintro _ V _ ⟨rfl,U⟩;rw[bJ,ca];refine⟨fun E=>?_,fun E=>?_⟩
  ·have E:¬(0≤i∧i<n.sizes.length):=fun ay=>by rw[decide_eq_true ay] at E;cases E
   exact X _ _ ⟨by rw[decide_eq_true];exact fun J=>E ⟨J.1,J.2.1⟩,U⟩
  have E:0≤i∧i<n.sizes.length:=by simpa using E
  rw[aC,af];refine⟨fun ac=>X _ _ ⟨by rw[decide_eq_true];exact fun J=>by have:=J.2.2.1;omega,U⟩,fun ac=>?_⟩;obtain⟨ai,aj,ak,am,an,aq,L,au,az,Z,av,aa,aw,ax⟩:=(h.ext U).1.parts;rw[aD ch.p 0 az rfl];refine (zg Z h.2.2.2.2).mono ?_;rintro _ aN _ ⟨aA,rfl⟩;rw[if_pos E.1,cn];refine X _ _ ⟨?_,U.trans aA⟩;congr 1;refine decide_eq_decide.2 ⟨fun h J=>?_,fun h=>?_⟩
  ·have:=J.2.2.2;omega
  ·refine Int.not_lt.1 fun ad=>h ⟨E.1,E.2,by omega,ad⟩
def qN (s:aN) (i v:Nat):Int:=match s.vars[i]? with
 |some x=>x.un.getD v 0
 |none=>0
theorem JP {i v:Int} (h:cC w ao gT A R n s t):ag x5 vi [.pointer (some ⟨ao,0,none⟩),.int .i64 i,.int .i64 v] w fun r w'=>r=(if kG n i v then .tuple #[.int .i64 (qN s i.toNat v.toNat),.int .i64 0] else .tuple #[.int .i64 0,.int .i64 1])∧Ext w w':=by
 refine ap func66 ?_;rw[cQ dy.u];simp only[c6,aR];refine (JO h).mono ?_;rintro _ aa _ ⟨rfl,J⟩;by_cases E:kG n i v
 ·rw[if_pos E,if_pos E];refine cH (by omega) ?_;obtain⟨x,O,U,ab,_⟩:=E.var h.2.2.2.1;obtain⟨ac,ad,ae,ah,ai,aj,L,ak,W,al,X,am,an,aq⟩:=(h.ext J).1.parts;rw[aD ch.p 1 W rfl];have Y:t.bH[gV s i.toNat+2+v.toNat]? =some (x.un.getD v.toNat 0):=by
   rw[h.2.1,Nat.add_assoc,qG O (by omega),show 2+v.toNat=v.toNat+1+1 by omega];show x.un[v.toNat]? =_;rw[u4,x4 U];rfl
  refine (mM (i:=gV s i.toNat+2+v.toNat) X rfl Y).mono ?_;rintro _ V _ ⟨rfl,Z⟩;refine⟨?_,J.trans Z⟩;unfold qN;rw[O]
 ·rw[if_neg E,if_neg E,aC,af];exact⟨fun _=>⟨rfl,J⟩,fun h=>by omega⟩
def gD (s:aN) (j:Nat):Bool:=match s.funs[j]? with
 |some f=>decide (f.live≠0)
 |none=>false
theorem qO {j:Int} (h:cC w ao gT A R n s t):ag x5 BQ [.pointer (some ⟨ao,0,none⟩),.int .i64 j] w fun v w'=>v= .bool (decide (0≤j)&&gD s j.toNat)∧Ext w w':=by
 refine ap func68 ?_;refine aI (fun v aa=>v= .bool (decide (0≤j)&&gD s j.toNat)∧Ext w aa) (fun _ _ h=>h) fun aj E=>?_;intro V O _ _;rw[cn,af];refine⟨fun U=>?_,fun U=>E _ _ ⟨by rw[decide_eq_false U];rfl,O⟩⟩;refine (ov (h.ext O)).mono ?_;rintro _ ak _ ⟨rfl,ab⟩;have J:=O.trans ab;rw[aC,af];refine⟨fun al=>?_,fun am=>E _ _ ⟨?_,J⟩⟩
 ·obtain⟨an,aq,au,aw,ax,ay,L,az,X,aA,ac,aB,Y,W⟩:=(h.ext J).1.parts;obtain⟨f,ae⟩:=aE (l:=s.funs) (i:=j.toNat) (by omega);obtain⟨y,Z⟩:∃ y,L[j.toNat]? =some y:=⟨_,x4 (by rw[W.1];omega)⟩;obtain⟨_,_,ad⟩:=W.2 j.toNat y f Z ae;rw[aD ch.p 1 X rfl,aD ch.p 3 X rfl,cM (i:=j.toNat) (by omega) ew.u eL.i Y (by rw[W.1];omega),aF eL.p rfl,av (v:=.int .i64 (y.at_:Int)) (by kernel_rfl) (Y.range Z 2 _ rfl)];have ah:t.bH[fk s j.toNat+0]? =some f.live:=by rw[h.2.1,te ae (by omega)];rfl
  refine (mM (i:=fk s j.toNat) ac (by rw[ad]) ah).mono ?_;rintro _ aG _ ⟨rfl,ai⟩;rw[bj];refine E _ _ ⟨?_,J.trans ai⟩;rw[decide_eq_true U,Bool.true_and];unfold gD;rw[ae]
 ·unfold gD;rw[c8 (by omega),Bool.and_false]
end
def tF (s:aN) (n:aV) (i:Int) (b m:Nat):Prop:=kv b m∧(¬(0≤i∧i<n.sizes.length)→b=0∧m=0)∧ ∀ x,0≤i→s.vars[i.toNat]? =some x→m=x.un.length∧ ∀ j:Nat,b.testBit j=(decide (j<x.un.length)&& !dropped x.mask (j:Int))
section
variable {w:x1} {ao gT:Nat} {A R:am} {n:aV} {s:aN} {t:aH}
theorem mV {i:Int} (h:cC w ao gT A R n s t):ag x5 BN [.pointer (some ⟨ao,0,none⟩),.int .i64 i] w fun v w'=>(∃ b m,v=hT b m∧tF s n i b m)∧Ext w w':=by
 have bK:=h.2.2.2.1.vars;refine ap func64 ?_;refine bg bx.i fun W a1 bL aH an=>?_;have an:aa a1 W bx [.int .u64 0,.int .i64 0]:=an;refine (tE (h.ext aH)).mono ?_;rintro _ V _ ⟨rfl,aI⟩;have aq:=an.ext aI;have au:=aH.trans aI;rw[bJ,ca];refine⟨fun E=>?_,fun E=>?_⟩
 ·have E:¬(0≤i∧i<n.sizes.length):=fun a2=>by rw[decide_eq_true a2] at E;cases E
  rw[ct (cs:=#[.int .u64 0,.int .i64 0]) (by kernel_rfl)];refine bP (vs:=[.int .u64 0,.int .i64 0]) bx.i rfl rfl (by intro u hu;simp at hu;rcases hu with rfl|rfl <;> rfl) aq fun bM a6 bN a7=>?_;rw[eO bx.p bx.i rfl a7.range];refine⟨⟨0,0,rfl,⟨by omega,by simp⟩,fun _=>⟨rfl,rfl⟩,fun x aJ J=>?_⟩,au.put a6 (by omega)⟩;have:=(x3.1 J).1;exact absurd ⟨aJ,by omega⟩ E
 have E:0≤i∧i<n.sizes.length:=by simpa using E
 obtain⟨x,Z⟩:=aE (l:=s.vars) (i:=i.toNat) (by omega);obtain⟨z,av⟩:=aE (l:=n.sizes) (i:=i.toNat) (by omega);have bb:=h.2.2.2.1.jk.2.2 z (x2 av);obtain⟨bO,_,bQ,bR⟩:=h.2.2.2.1.var i.toNat x z Z av;obtain⟨bd,be,bf,bh,bi,bj,L,bk,ac,aK,_⟩:=(h.ext au).1.parts;rw[aD ch.p 0 ac rfl];refine (zg aK h.2.2.2.2).mono ?_;rintro _ bT _ ⟨aw,rfl⟩;rw[if_pos E.1,u4,av,V4];refine E1.mono ?_;rintro _ bU _ ⟨ax,rfl⟩;rw[if_pos bb];obtain⟨m,rfl⟩:∃ m:Nat,z=m:=⟨z.toNat,by omega⟩;rw[a8,ba,j6];have aL:=(au.trans aw).trans ax;refine bg bx.i fun O bV bW aM bl=>?_;refine bP (vs:=[.int .u64 ((2 ^ m-1:Nat):Int),.int .i64 (m:Int)]) bx.i rfl rfl (by intro u hu;simp at hu;rcases hu with rfl|rfl <;> rfl) bl fun aN aO bX bm=>?_;have z5:=aL.size;have aP:Ext w aN:=(aL.trans aM).put aO (by omega);have bY:=(((aq.ext aw).ext ax)).lt;have bo:aa aN W bx [.int .u64 0,.int .i64 0]:=(((aq.ext aw).ext ax).ext aM).U aO fun he=>by have he:W=O:=he;omega
 intro bZ ay _ _;have aQ:=aP.trans ay;obtain⟨bd,be,bf,bh,bi,bj,L,bk,ac,aK,bp,bq,_⟩:=(h.ext aQ).1.parts;have b1:=zU Z;have b2:=ot h.2.1 h.2.2.1;rw[aD ch.p 1 ac rfl,aD ch.p 2 ac rfl,fv (y:=i) (i:=i.toNat) (by omega) al.u ab.i (by kernel_rfl) bq.ls (tD (by omega)),aB,wrap_i64 (by omega) (by omega)];have br:t.bH[gV s i.toNat+1]? =some x.mask:=by rw[h.2.1,qG Z (by omega)];rfl
 refine (mM (i:=gV s i.toNat+1) bp (by omega) br).mono ?_;rintro _ bt _ ⟨rfl,az⟩;have aR:=(bm.ext ay).ext az;have bu:=(bo.ext ay).ext az;obtain⟨mk,aS⟩:∃ mk:Nat,x.mask=mk:=⟨x.mask.toNat,by omega⟩;rw[bn bx.p bx.i rfl (show bt.rangeAt O 0 [.int .u64 ((2 ^ m-1:Nat):Int),.int .i64 (m:Int)] from aR.range)];refine (wX (b:=2 ^ m-1) (n:=m)).mono ?_;rintro _ b3 _ ⟨rfl,aA⟩;have bw:=aQ.trans az;have bz:W≠O:=by omega
 have b4:=aP.size;have b5:w.heap.size≤O:=by omega
 have b6:w.heap.size≤W:=by omega
 refine bS.range m (fun q X=>Ext w X∧aa X W bx [.int .u64 0,.int .i64 0]∧ ∃ b:Nat,aa X O bx [.int .u64 (b:Int),.int .i64 (m:Int)]∧kv b m∧ ∀ j:Nat,b.testBit j=(decide (j<m)&& !(decide (j<q)&&mk.testBit j))) (by omega)
  ⟨bw.trans aA,bu.ext aA,_,aR.ext aA,⟨by omega,by have:=Nat.two_pow_pos m;omega⟩,fun j=>by rw[wV];simp⟩ ?_ ?_
 ·rintro q X bA b7 ⟨ad,ah,b,Y,ai,aj⟩ bB;refine bC (by omega) ?_;refine cX (fun ak=>Ext w ak∧aa ak W bx [.int .u64 0,.int .i64 0]∧ ∃ b:Nat,aa ak O bx [.int .u64 (b:Int),.int .i64 (m:Int)]∧kv b m∧ ∀ j:Nat,b.testBit j=(decide (j<m)&& !(decide (j<q+1)&&mk.testBit j))) ?_ ?_
  ·rintro ak bD;rw[aB];exact bB _ bD
  intro b8 aT;have bE:mk / 2 ^ q<2 ^ 62:=Nat.lt_of_le_of_lt (Nat.div_le_self _ _) (by omega);rw[aS,x0 (by omega),show (1:Int)=((1:Nat):Int) from rfl,JJ bE (by omega),bc,af];have aU:(((mk / 2 ^ q &&& 1:Nat):Int)=((1:Nat):Int))↔mk.testBit q=true:=by rw[←zT];omega
  refine⟨fun aC=>?_,fun ae=>?_⟩
  ·have aC:=aU.1 aC;rw[bn bx.p bx.i rfl (show X.rangeAt O 0 [.int .u64 (b:Int),.int .i64 (m:Int)] from Y.range)];refine (E3 (v:=(q:Int)) ai).mono ?_;rintro _ b9 _ ⟨rfl,aF⟩;rw[if_pos ⟨by omega,by omega⟩,j6];refine bP (vs:=[.int .u64 ((hR b (2 ^ q):Nat):Int),.int .i64 (m:Int)]) bx.i rfl rfl (by intro u hu;simp at hu;rcases hu with rfl|rfl <;> rfl) (Y.ext aF) fun cb aV cc bF=>?_;have aW:∀ j:Nat,(hR b (2 ^ q)).testBit j=(decide (j<m)&& !(decide (j<q+1)&&mk.testBit j)):=fun j=>by
    rw[wN,aj,Nat.testBit_two_pow];by_cases aX:j<m
    ·by_cases am:j=q
     ·subst am;simp[aC]
     ·have aG:decide (j<q+1)=decide (j<q):=decide_eq_decide.2 ⟨fun h=>by omega,fun h=>by omega⟩;rw[aG,decide_eq_true aX,decide_eq_true (show j<64 by omega),decide_eq_false (show ¬q=j from fun h=>am h.symm)];simp
    ·simp[aX]
   refine aT _ ⟨(ad.trans aF).then aV fun r cd he=>by have he:r=O:=he;omega,(ah.ext aF).U aV fun he=>bz he,_,bF,⟨by omega,ET fun j aY=>by rw[aW,decide_eq_false (by omega)];rfl⟩,aW⟩
  ·have ae:mk.testBit q=false:=by simpa using fun h=>ae (aU.2 h)
   refine aT _ ⟨ad,ah,b,Y,ai,fun j=>?_⟩;rw[aj];by_cases am:j=q
   ·subst am;simp[ae]
   ·have aG:decide (j<q+1)=decide (j<q):=decide_eq_decide.2 ⟨fun h=>by omega,fun h=>by omega⟩;rw[aG]
 ·rintro X bA ⟨ad,ah,b,Y,ai,aj⟩;refine cH (by omega) ?_;rw[bn bx.p bx.i rfl (show X.rangeAt O 0 [.int .u64 (b:Int),.int .i64 (m:Int)] from Y.range)];refine bP (vs:=[.int .u64 (b:Int),.int .i64 (m:Int)]) bx.i rfl rfl (by intro u hu;simp at hu;rcases hu with rfl|rfl <;> rfl) ah fun ce bG cg bI=>?_;rw[eO bx.p bx.i rfl bI.range];refine⟨⟨b,m,rfl,ai,fun h=>absurd E h,fun y aJ aZ=>?_⟩,ad.put bG (by omega)⟩;rw[Z] at aZ;cases aZ;refine⟨by omega,fun j=>?_⟩;rw[aj,aS,JL,show x.un.length=m by omega];by_cases aY:j<m <;> simp[aY]
theorem zY {f:ep} (J:eF k sizes s) (ae:f∈s.funs):bD f.ai∧f.cs.length=(az f.ai).toNat∧az f.ai≤4096:=by
 obtain⟨E,O,_⟩:=J.funs f ae;rw[O];refine⟨⟨?_,n3 J.jk.2.2 fun v ac=>⟨(E.scope.1 v ac).1,E.vars v ac⟩⟩,E.len,E.small⟩;have:=E.scope.2;simp[bK];exact this
def jq (s:aN) (j:Nat) (tl:List Int):Option Nat:=match s.funs[j]? with
 |some f=>if f.live≠0 then (cp f.ai tl 0).map fun m=>fk s j+1+m.toNat else none
 |none=>none
def mW (s:aN) (j:Nat) (tl:List Int):Int:=match s.funs[j]? with
 |some f=>cV f.ai f.cs tl
 |none=>0
theorem JQ {aa:y0} (h:cC w ao gT A R n s t) (aj:ay .i64 w aa tl):ag x5 Cl [.pointer (some ⟨ao,0,none⟩),.int .i64 (j:Int),aa] w fun v w'=>v= .int .i64 (match jq s j tl with|some p=>(p:Int)|none=>-1)∧Ext w w':=by
 refine ap func130 ?_;refine (qO h).mono ?_;rintro _ ak _ ⟨rfl,W⟩;rw[decide_eq_true (by omega),Bool.true_and,j6,bJ,ca];refine⟨fun E=>⟨?_,W⟩,fun E=>?_⟩
 ·have E:gD s j=false:=by simpa using E
  have:jq s j tl=none:=by
   unfold jq;unfold gD at E;cases ae:s.funs[j]? with
   |none=>rfl
   |some f=>
    rw[ae] at E;have E:f.live=0:=by simpa using E
    simp[E]
  rw[this]
 have E:gD s j=true:=by simpa using E
 obtain⟨f,ae,al⟩:∃ f,s.funs[j]? =some f∧f.live≠0:=by
  unfold gD at E;cases ae:s.funs[j]? with
  |none=>rw[ae] at E;cases E
  |some f=>rw[ae] at E;exact⟨f,rfl,by simpa using E⟩
 obtain⟨ab,aI,aJ⟩:=zY h.2.2.2.1 (x2 ae);obtain⟨am,an,aq,au,aw,ad,L,ax,X,az,aA,aC,O,U⟩:=(h.ext W).1.parts;obtain⟨y,J⟩:∃ y,L[j]? =some y:=⟨_,x4 (by rw[U.1];exact (x3.1 ae).1)⟩;have Y:=(x3.1 J).1;obtain⟨_,aE,ah⟩:=U.2 j y f J ae;have aG:ak.rangeAt ad (j*3+1) [y.szv]:=fun q v ac=>by
  match q,ac with
  |0,ac=>cases ac;exact O.range J 1 _ rfl
 rw[aD ch.p 3 X rfl,cM rfl ew.u eL.i O Y,aF eL.p rfl,bn (cs:=[y.szv]) bb.p bb.i rfl aG];refine (wc aE.ls (aj.ext W) ab).mono ?_;rintro _ V _ ⟨rfl,aH⟩;have Z:=W.trans aH;unfold i9 jq;rw[ae];simp only[if_pos al];cases hi:cp f.ai tl 0 with
 |none=>
  simp only[Option.map_none];rw[a8,ba,bj,af];exact⟨fun _=>⟨trivial,Z⟩,fun h=>absurd (show (3:Int)≠0 by decide) h⟩
 |some m=>
  simp only[c5];rw[a8,ba,bj,af];refine⟨fun h=>absurd rfl h,fun _=>?_⟩;have aK:=k8 ab.2 hi;have aL:=zV ae;have aM:=ot h.2.1 h.2.2.1;obtain⟨am,an,aq,au,aw,ad,L,ax,X,az,aA,aC,O,U⟩:=(h.ext Z).1.parts;obtain⟨y,J⟩:∃ y,L[j]? =some y:=⟨_,x4 (by rw[U.1];exact (x3.1 ae).1)⟩;have Y:=(x3.1 J).1;obtain⟨_,_,ah⟩:=U.2 j y f J ae;rw[aD ch.p 3 X rfl,cM rfl ew.u eL.i O Y,aF eL.p rfl,av (v:=.int .i64 (y.at_:Int)) (by kernel_rfl) (O.range J 2 _ rfl),ah,aB,wrap_i64 (by omega) (by omega),aB,wrap_i64 (by omega) (by omega)];refine⟨?_,Z⟩;congr 1;omega
theorem zZ {p:Nat} (E:eF k sizes s) (h:jq s j tl=some p):s.cells[p]? =some (mW s j tl)∧ ∃ f,s.funs[j]? =some f∧f.live≠0∧ ∃ m:Nat,cp f.ai tl 0=some (m:Int)∧m<f.cs.length∧p=fk s j+(m+1):=by
 unfold jq at h;cases ae:s.funs[j]? with
 |none=>rw[ae] at h;cases h
 |some f=>
  rw[ae] at h;simp only at h;split at h
  ·rename_i J;obtain⟨m,hm,rfl⟩:=Z2.1 h;obtain⟨O,U,V⟩:=zY E (x2 ae);have W:=k8 O.2 hm;obtain⟨q,rfl⟩:∃ q:Nat,m=q:=⟨m.toNat,by omega⟩;refine⟨?_,f,rfl,J,q,hm,by omega,by omega⟩;rw[show fk s j+1+(q:Int).toNat=fk s j+(q+1) by omega,te ae (by omega)];unfold mW cV;rw[ae];simp only[hm];show f.cs[q]? =_;rw[j6,u4,x4 (by omega)];rfl
  ·cases h
theorem JR {J:y0} (h:cC w ao gT A R n s t) (O:ay .i64 w J tl):ag x5 vj [.pointer (some ⟨ao,0,none⟩),.int .i64 (j:Int),J] w fun v w'=>v=(if (jq s j tl).isSome then .tuple #[.int .i64 (mW s j tl),.int .i64 0] else .tuple #[.int .i64 0,.int .i64 1])∧Ext w w':=by
 refine ap func70 ?_;rw[cQ dy.u];simp only[c6,aR];refine (JQ h O).mono ?_;rintro _ Z _ ⟨rfl,E⟩;cases U:jq s j tl with
 |none=>
  simp only;rw[aC,af];exact⟨fun _=>⟨rfl,E⟩,fun h=>by omega⟩
 |some p=>
  simp only;refine cH (by omega) ?_;obtain⟨aa,ab,ac,ad,ae,ah,L,ai,W,aj,X,ak,al,am⟩:=(h.ext E).1.parts;rw[aD ch.p 1 W rfl];refine (mM (i:=p) X rfl (by rw[h.2.1];exact (zZ h.2.2.2.1 U).1)).mono ?_;rintro _ V _ ⟨rfl,Y⟩;exact⟨rfl,E.trans Y⟩
end
theorem JS {a b:Int} (E:0≤a∧a≤k) (O:0≤b∧b≤k) (U:1≤k∧k≤2147483648):ag x5 vt [.int .i64 a,.int .i64 b,.int .i64 k] w fun v w'=>v= .tuple #[.int .i64 (min (a+b) k),.int .i64 0]∧Ext w w':=by
 refine sx.mono ?_;rintro _ V _ ⟨rfl,J⟩;refine⟨?_,J⟩;unfold ll;rw[if_pos ⟨⟨U,E.1,E.2⟩,U,O.1,O.2⟩]
theorem JT {x:gB} {v:Int} (h:0≤v∧v<x.un.length):v∈cc x↔dropped x.mask v=false:=by
 unfold cc;rw[List.mem_filter,o8];constructor
 ·rintro⟨_,E⟩;simpa using E
 ·intro E;exact⟨⟨v.toNat,List.mem_range.2 (by omega),by omega⟩,by simp[E]⟩
theorem eE.put {g X:Nat} {n:aV} (h:eE w X n) (E:aa w g b7 c) (J:ad (fun r=>r=g) w w'):eE w' X n:=by
 have b2:=kF E;have Y:∀ r,r=g→ ∃ e c,aa w r e c∧e≠fJ∧e≠ci∧e≠ab∧e≠aj∧e≠an:=fun r O=>by
  subst O;exact⟨_,c,E,by decide,by decide,by decide,by decide,by decide⟩
 obtain⟨Z,ac,ae,af,gr,aG,L,nm,szv,gz,fv2,h1,ag,ah,ai,ak,al,am⟩:=h;refine⟨Z,ac,ae,af,gr,aG,L,nm,szv,gz,fv2,fQ h1 J b2 (by decide),fQ ag J b2 (by decide),hB ah J b2 (by decide),ai.U J fun r O=>?_,ak,al.U J fun r O=>?_,am⟩
 ·obtain⟨e,c,E,_,_,_,V,W⟩:=Y r O;exact⟨e,c,E,V,W⟩
 ·obtain⟨e,c,E,V,W,ao,ap,_⟩:=Y r O;exact⟨e,c,E,V,W,ao,ap⟩
theorem StateM.put {g:Nat} {A R:am} {n:aV} {s:aN} {t:aH} (h:StateM w ao gT A R n s t) (W:aa w g b7 c) (V:ad (fun r=>r=g) w w') (al:¬A g):∃ R',(∀ r,R' r→R r∧r≠g)∧StateM w' ao gT A R' n s t:=by
 obtain⟨an,ap,aq,au,⟨h1,av,aw,ax⟩,ay,az,aA,L,aB,aC,w0,aD,⟨af,Y,aE⟩,⟨aF,ag,aG,aI⟩,aJ,⟨aK,ah⟩,aL,ai⟩:=h;obtain⟨cD,aj⟩:=y9;have z:=V.size;have b2:=kF W;have X:∀ r,(w0.heap.setIfInBounds g cD)[r]? =if g=r then (if g<w0.heap.size then some cD else none) else w0.heap[r]?:=fun r=>Array.getElem?_setIfInBounds;have aM:∀ r,A r→r≠g:=fun r E he=>al (he▸E);have int:∀ {v:y0} {l:List Int},gW R w v l→gW (fun r=>R r∧r≠g) w' v l:=fun⟨⟨aO,hm⟩,aP⟩=>⟨⟨aO,hB hm V b2 (by decide)⟩,fun r E=>⟨aP r E,bE hm W (by decide) E⟩⟩;refine⟨fun r=>R r∧r≠g,fun r h=>h,an,ap,aq,au,⟨h1,fun r E aQ=>av r E aQ.1,fun r E=>by have:=aw r E.1;omega,fun r E=>by have:=ax r E;omega⟩,ay,az,aA,L,aB,aC,{w0 with heap:=w0.heap.setIfInBounds g cD},fQ aD V b2 (by decide),⟨?_,?_,?_⟩,
  ⟨aF.U V fun r E=>aM r (ag r E),ag,aG,aI⟩,hB aJ V b2 (by decide),⟨lI aK V b2 (by decide),ah.1,fun j x f J ae=>?_⟩,lI aL V b2 (by decide),ai.1,fun j x e J he=>?_⟩
 ·by_cases O:∃ o,w0.heap[g]? =some o∧eK o=true
  ·obtain⟨o,ak,aR⟩:=O;have aS:aa w0 g b7 c:=by
    unfold aa at W ⊢;have:=Y.aX g o ak aR;rw[W] at this;rw[ak,this]
   refine af.put aS ⟨by simp,fun r o E O aT=>?_⟩;show (w0.heap.setIfInBounds g cD)[r]? =some o;rw[X,if_neg fun he=>aT he.symm];exact E
  ·refine af.ext ⟨by simp,fun r o E aU=>?_⟩;show (w0.heap.setIfInBounds g cD)[r]? =some o;rw[X,if_neg fun he=>O ⟨o,by rw[he];exact E,aU⟩];exact E
 ·refine⟨by show (w0.heap.setIfInBounds g cD).size≤_;rw[Array.size_setIfInBounds];exact Z3 Y.size z,fun r o E O=>?_⟩;have E:(w0.heap.setIfInBounds g cD)[r]? =some o:=E;rw[X] at E;by_cases he:g=r
  ·rw[if_pos he] at E;split at E
   ·cases E;rw[aj] at O;cases O
   ·cases E
  ·rw[if_neg he] at E;exact V.aX r o (Y.aX r o E O) O fun h=>he h.symm
 ·intro r o E O;have E:(w0.heap.setIfInBounds g cD)[r]? =some o:=E;rw[X] at E;by_cases he:g=r
  ·rw[if_pos he] at E;split at E
   ·cases E;rw[aj] at O;cases O
   ·cases E
  ·rw[if_neg he] at E;exact⟨aE r o E O,fun h=>he h.symm⟩
 ·obtain⟨Z,ab,ac⟩:=ah.2 j x f J ae;exact⟨int Z,int ab,ac⟩
 ·obtain⟨Z,ab,ac⟩:=ai.2 j x e J he;exact⟨Z,int ab,int ac⟩
theorem JU {E:List Int} {f:bu} (X:E.length≤60000) (h:eA E=some f):∃ N,N≤60000∧dU N f∧f.name≠[]∧ ∀ b∈f.name,bi b=true:=by
 unfold eA at h;rw[if_neg (by omega)] at h;cases J:fw ⟨(lex E).1,0,false,[]⟩ with
 |none=>rw[J] at h;cases h
 |some q=>
  obtain⟨Y,s⟩:=q;rw[J] at h;simp only at h;split at h
  ·rename_i O;cases h;obtain⟨h1,U⟩:=xn rfl J O.2.2;have Z:=mj E.length E (r9 _);obtain⟨W,V,_⟩:=pF E.length E (r9 _) f.name U;exact⟨_,by show (lex E).1.length≤60000;omega,h1,W,V⟩
  ·cases h
theorem JV:ag x5 rC [.pointer none] w fun v w'=>v= .pointer none∧Ext w w':=by
 refine ap func26 ?_;rw[cQ kg.u];simp only[Option.isNone_none,bq];exact⟨by trivial,Ext.refl _⟩
theorem JW (h:ay .u8 w v l) (ac:l.length≤100000):ag x5 Bu [v] w fun J w'=>Ext w w'∧ ∃ g,ak .u8 b4 w' g J l:=by
 have E:=h;obtain⟨ad,b,o,base,cap,rfl,ae,hm,W,X⟩:=h;refine ap func22 ?_;rw[ma b5.u,ca];refine⟨fun Y=>⟨Ext.refl _,0,?_⟩,fun _=>?_⟩
 ·have:l=[]:=by
   cases base with
   |none=>
        by_cases E:0<l.length
        ·have:=W E;cases this
        ·exact o9 (by omega)
   |some a=>cases Y
  subst this;exact ak.nil _ _ _ _
 ·refine tC (k:=.u8) b5.u b4.i fun af ah ai aj O U=>?_;refine gb b5.u b4.i rfl U (E.ext O) (by simp;omega) (by simp;omega) fun J Z V aa al ab=>?_;exact⟨O.then ab (fun r X he=>by have:=(bp U he).1;omega),Z,by simpa using aa⟩
theorem qM.b2 {U:List qL} (h:qM w B v U) (E:ad S w w') (O:gf w S e) (h1:vF≠e) (V:ab≠e):qM w' B v U:=by
 obtain⟨g,W,X,Y⟩:=h;exact⟨g,lI W E O h1,fun x J=>by obtain⟨⟨Z,aa⟩,ac,ae⟩:=X x J;exact⟨⟨Z,hB aa E O V⟩,ac,hB ae E O V⟩,Y⟩
theorem iD.put {s:aN} (h:iD B w v k sizes s) (E:ad S w w') (J:gf w S b7):iD B w' v k sizes s:=by
 obtain⟨szv,gz,O,D,U,V,aG,W,L,X,Y,h1,Z,aa,ab,ac,ae,af,ag,ah,ai,aj⟩:=h;exact⟨szv,gz,O,D,U,V,aG,W,L,X,Y,h1,hB Z E J (by decide),aa.b2 E J (by decide) (by decide),ab,ac.b2 E J (by decide),ae.b2 E J (by decide) (by decide),af,ag.b2 E J (by decide) (by decide) (by decide),ah,ai.b2 E J (by decide) (by decide),aj⟩
theorem iD.low {U:Nat} {s:aN} (h:iD B w v k sizes s) (O:U≤B):iD U w v k sizes s:=by
 obtain⟨szv,gz,V,D,W,X,aG,Y,L,Z,aa,h1,ab,⟨ac,ad,ae,a3⟩,af,⟨ag,ah,ai⟩,⟨aj,ak,al,am,an⟩,ao,⟨ap,d1,d2,d3,d4⟩,aq,⟨au,av,aw,ax⟩,ay⟩:=h;exact⟨szv,gz,V,D,W,X,aG,Y,L,Z,aa,h1,ab,⟨ac,ad,ae,fun r E=>Z3 O (a3 r E)⟩,af,⟨ag,ah,fun r E=>Z3 O (ai r E)⟩,⟨aj,ak,fun r E=>Z3 O (al r E),fun x J r E=>Z3 O (am x J r E),an⟩,ao,⟨ap,d1,fun x J=>⟨(d2 x J).1,fun r E=>Z3 O ((d2 x J).2 r E)⟩,fun r E=>Z3 O (d3 r E),d4⟩,aq,⟨au,av,aw,fun r E=>Z3 O (ax r E)⟩,ay⟩
def tG (sv:y0):Prop:=∃ cs:List y0,sv= .agg cs.toArray∧cs.length=8∧ ∀ u∈cs,u.oneCell'=true
theorem iD.z1 {s:aN} (h:iD B w v k sizes s):tG v:=by
 obtain⟨szv,gz,W,D,X,Y,aG,Z,L,aa,ab,rfl,E,⟨_,J,_⟩,ac,⟨_,b3,_⟩,⟨_,⟨O,_⟩,_⟩,ad,⟨_,U,_⟩,ae,⟨_,V,_⟩,af⟩:=h;refine⟨[_,_,_,_,_,_,_,_],rfl,rfl,fun u hu=>?_⟩;simp at hu;rcases hu with rfl|rfl|rfl|rfl|rfl|rfl|rfl|rfl
 ·rfl
 ·exact E.ls.cells.2
 ·rfl
 ·exact (cF J.sl).2
 ·exact (cF b3.sl).2
 ·exact (cF O.sl).2
 ·exact (cF U.sl).2
 ·exact (cF V.sl).2
theorem z6:tG (.agg z12.toArray):=⟨z12,rfl,rfl,by intro u hu;simp[z12] at hu;rcases hu with rfl|rfl|rfl|rfl <;> rfl⟩
def z7 (B:Nat) (w:x1) (E sv:y0) (f:bu):Prop:=∃ ao gT A R t N,dU N f∧E= .pointer (some ⟨ao,0,none⟩)∧cC w ao gT A R (dm f) (er (dm f)) t∧Plain t∧(∀ r,A r→B≤r)∧iD B w sv (dm f).k (dm f).sizes (er (dm f))
def JX (w:x1) (q:List Int) (v:y0) (w':x1):Prop:=Ext w w'∧ ∃ E sv ok,v= .tuple #[E,sv,.bool ok]∧tG sv∧((ok=false∧E= .pointer none)∨(ok=true∧ ∃ f,eA q=some f∧z7 w.heap.size w' E sv f))∧ ∀ f,eA q=some f→gR f.funs≤16384→ok=true
theorem JY {N:Nat} {f:bu} (E:dU N f):(dm f).funs.length≤256:=by
 have h1:=(mH E).2.length_eq;have O:=(iv E).2.2;have U:=List.length_filter_le ej (ec f);have V:=E.jb;have J:=(lz f (ek f).length).2.2.2;rw[oi] at J;omega
theorem JZ {n:aV} {t:aH} (J:hy n) (ae:n.funs.length≤256) (ac:t.bH=(er n).cells) (E:Plain t):oj t:=by
 have h1:=tn J ae n.unary.length n.funs.length;rw[zv,←ac] at h1;unfold aH.bH at h1;rw[r8] at h1;refine⟨by omega,?_,?_⟩
 ·rw[E.2.1];exact Z5 _
 ·rw[E.1];exact Z5 _
set_option maxHeartbeats 4000000 in
theorem z8 {p:y0} {J:List Int} (aS:ay .u8 w p J) (a2:Bytes J) (a6:en w):ag x5 Bq [p] w (JX w (J.take 300)):=by
 refine ap func6 ?_;refine bg b7.i fun X a7 bM aA av=>?_;have av:aa a7 X b7 z12:=av;rw[aK b5.u (aS.ext aA),kk];refine Eu (i:=min J.length 300) (by omega) b5.u b4.i (aS.ext aA) (by omega) fun bN aB=>?_;have bb:J.take (min J.length 300)=J.take 300:=by
  by_cases h:J.length≤300
  ·rw[Nat.min_eq_left h,o5,Z0 h]
  ·rw[Nat.min_eq_right (by omega)]
 rw[bb] at aB;have aw:Bytes (J.take 300):=fun b bd=>a2 b (List.mem_of_mem_take bd);have be:(J.take 300).length≤300:=by rw[o6];omega
 generalize J.take 300=q at aB aw be;refine (JW aB (by omega)).mono ?_;rintro bO V _ ⟨aC,bQ,aD⟩;have aT:=aA.trans aC;refine (Hq aD.ls aw (by omega) (a6.ext aT)).mono ?_;rintro bR bS _ ⟨an,U⟩;have aU:=aT.trans an;cases Y:eA q with
 |none=>
  rw[Y] at U;obtain⟨n,e,rfl,he⟩:=U;rw[e1,e2,e3];refine (zH (aD.ext an).ls aw (by omega)).mono ?_;rintro bf aE _ ⟨ai,bh,bi,aF,_⟩;obtain rfl:=aF Y;rw[e1,e2,e3];refine aI (fun v aq=>v= .bool true∧Ext aE aq) ?_ ?_
  ·rintro _ aq ⟨rfl,ab⟩;rw[bq,ct (cs:=#[.int .i64 0,.slice none 0 0,.int .i64 0,.slice none 0 0,.slice none 0 0,.slice none 0 0,.slice none 0 0,.slice none 0 0]) (by kernel_rfl)];obtain⟨_,_,E,O⟩:=z6;refine bP (vs:=z12) b7.i rfl rfl (by intro u hu;simp[z12] at hu;rcases hu with rfl|rfl|rfl|rfl <;> rfl) ((((av.ext aC).ext an).ext ai).ext ab) fun bT bk bU bl=>?_;rw[eO b7.p b7.i rfl bl.range];refine⟨((aU.trans ai).trans ab).then bk fun r U he=>by have he:r=X:=he;omega,_,_,false,rfl,z6,.inl ⟨rfl,rfl⟩,fun f ae=>?_⟩;rw[Y] at ae;cases ae
  ·intro aG ad;rw[bj,af];exact⟨fun _=>ad _ _ ⟨rfl,Ext.refl _⟩,fun h=>absurd he h⟩
 |some f=>
  rw[Y] at U;obtain⟨bV,n,rfl,bm⟩:=U;obtain⟨N,bn,aj,bo,bp⟩:=JU (by omega) Y;have ak:=GX aj;have ax:=JY aj;rw[e1,e2,e3];refine (zH (aD.ext an).ls aw (by omega)).mono ?_;rintro bf aE _ ⟨ai,bh,bi,_,aF⟩;obtain⟨bW,rfl,br⟩:=aF f Y;rw[e1,e2,e3];refine aI (fun v aq=>v= .bool false∧Ext aE aq) ?_ ?_
  rotate_left
  ·intro aG ad;rw[bj,af];refine⟨fun h=>absurd rfl h,fun _=>?_⟩;rw[cQ rP.u];exact ad _ _ ⟨rfl,Ext.refl _⟩
  rintro _ aq ⟨rfl,ab⟩;rw[aR];have bt:=(aU.trans ai).trans ab;refine (Iy ((bm.ext ai).ext ab) aj bn ⟨bo,bp⟩).mono ?_;rintro bX bY _ ⟨aH,bu⟩;have az:=bt.trans aH;have aJ:=((((av.ext aC).ext an).ext ai).ext ab).ext aH;have aV:=(br.ext ab).ext aH;have bZ:=az.size;have b1:w.heap.size≤X:=by omega
  have b2:=aJ.lt;rcases bu with⟨bw,e,he,rfl⟩|⟨b3,rfl,bx⟩
  ·rw[a8,ba];refine JV.mono ?_;rintro _ aW _ ⟨rfl,Z⟩;refine fS (fun aL t4 W=>aL= .pointer none∧t4= .bool false∧Ext w W∧ ∃ cs:List y0,aa W X b7 cs∧cs.length=8∧ ∀ u∈cs,u.oneCell'=true) ?_ ?_
   ·rintro _ _ W ⟨rfl,rfl,aM,cs,aN,E,O⟩;rw[eO b7.p b7.i E aN.range];exact⟨aM,_,_,false,rfl,⟨cs,rfl,E,O⟩,.inl ⟨rfl,rfl⟩,fun b6 aX bz=>absurd bz (by rw[Y] at aX;cases aX;exact bw)⟩
   ·intro aG ad;refine (zQ (aV.ext Z) aj).mono ?_;rintro bA bB _ ⟨ah,aO⟩;refine (zS aO ak.1 ax).mono ?_;rintro bC bD _ ⟨al,am⟩;obtain⟨cs,rfl,E,O⟩:=am.z1;rw[bc,af];refine⟨fun h=>absurd h he,fun _=>?_⟩;refine bP (vs:=cs) b7.i E rfl O (((aJ.ext Z).ext ah).ext al) fun bE au bF aP=>?_;exact ad _ _ _ ⟨rfl,rfl,(((az.trans Z).trans ah).trans al).then au fun r U he=>by have he:r=X:=he;omega,cs,aP,E,O⟩
  ·rw[a8,ba];refine (IZ bx.at ak.1 ax).mono ?_;rintro _ aW _ ⟨Z,ao,gT,A,R,t,rfl,bG,ac,aY,aZ⟩;have bH:cC aW ao gT A R (dm f) (er (dm f)) t:=⟨bG,ac,JZ ak.1 ax ac aY,IG ak.1,ak.1⟩;refine fS (fun aL t4 W=>aL= .pointer (some ⟨ao,0,none⟩)∧t4= .bool true∧Ext w W∧ ∃ cs:List y0,aa W X b7 cs∧cs.length=8∧(∀ u∈cs,u.oneCell'=true)∧ ∃ R',cC W ao gT A R' (dm f) (er (dm f)) t∧iD w.heap.size W (.agg cs.toArray) (dm f).k (dm f).sizes (er (dm f))) ?_ ?_
   ·rintro _ _ W ⟨rfl,rfl,aM,cs,aN,E,O,R',bI,am⟩;rw[eO b7.p b7.i E aN.range];exact⟨aM,_,_,true,rfl,⟨cs,rfl,E,O⟩,.inr ⟨rfl,f,Y,ao,gT,A,R',t,N,aj,rfl,bI,aY,fun r U=>by have:=aZ r U;omega,am⟩,fun _ _ _=>rfl⟩
   ·intro aG ad;refine (zQ (aV.ext Z) aj).mono ?_;rintro bA bB _ ⟨ah,aO⟩;refine (zS aO ak.1 ax).mono ?_;rintro bC bD _ ⟨al,am⟩;obtain⟨cs,rfl,E,O⟩:=am.z1;rw[bc,af];refine⟨fun _=>?_,fun h=>absurd rfl h⟩;rw[vL dy.u];have aQ:=((aJ.ext Z).ext ah).ext al;have bJ:=((az.trans Z).trans ah).trans al;refine bP (vs:=cs) b7.i E rfl O aQ fun bE au bF aP=>?_;have a1:=(bH.ext ah).ext al;obtain⟨R',_,bK⟩:=a1.1.put aQ au fun h=>by have:=aZ X h;omega
    have bL:=((az.trans Z).trans ah).size;exact ad _ _ _ ⟨rfl,rfl,bJ.then au fun r U he=>by have he:r=X:=he;omega,cs,aP,E,O,R',⟨bK,a1.2⟩,(am.put au (kF aQ)).low bL⟩
section
variable {w:x1} {ao gT:Nat} {A R:am} {n:aV} {s:aN} {t:aH}
theorem J0 {j:Int} (h:cC w ao gT A R n s t) (V:¬(0≤j∧j<s.funs.length)):ag x5 rD [.pointer (some ⟨ao,0,none⟩),.int .i64 j] w fun r w'=>r= .slice none 0 0∧Ext w w':=by
 refine ap func83 ?_;refine aI (fun v E=>v= .bool true∧Ext w E) ?_ ?_
 ·rintro _ E ⟨rfl,O⟩;rw[bq];exact⟨rfl,O⟩
 intro W J;rw[aC,af];refine⟨fun _=>J _ _ ⟨rfl,Ext.refl _⟩,fun X=>?_⟩;refine (ov h).mono ?_;rintro _ Y _ ⟨rfl,U⟩;rw[cn];exact J _ _ ⟨by rw[decide_eq_true (by omega)],U⟩
end
section
variable {w:x1} {B:Nat} {sv:y0} {k:Int} {sizes:List Int} {s:aN}
end
def kH (of:Int→Int) (p:Int×Int) (v:Int):Int×Int:=if p.2= -1∨of v<p.1 then (of v,v) else p
def eW (k:Int) (l:List Int) (of:Int→Int):Int×Int:=l.foldl (kH of) (k,-1)
theorem qP {s:aN} {n:aV} {i:Int} {b:Nat} {x:gB} (h:tF s n i b m) (O:0≤i) (J:s.vars[i.toNat]? =some x):(e7 b m).map (fun v:Nat=>(v:Int))=cc x:=by
 obtain⟨_,_,U⟩:=h;obtain⟨rfl,V⟩:=U x O J;unfold e7 cc;rw[List.filter_map];congr 1;refine List.filter_congr fun q E=>?_;have E:=List.mem_range.1 E;rw[V,decide_eq_true E,Bool.true_and];rfl
section
variable {w:x1} {ao gT:Nat} {A R:am} {n:aV} {s:aN} {t:aH}
theorem Aa {a b:Int} (h:cC w ao gT A R n s t) (J:0≤a∧a≤n.k) (O:0≤b∧b≤n.k):ag x5 C4 [.pointer (some ⟨ao,0,none⟩),.int .i64 a,.int .i64 b] w fun v w'=>v= .int .i64 (min (a+b) n.k)∧Ext w w':=by
 refine ap func199 ?_;refine (ou h).mono ?_;rintro _ X _ ⟨rfl,U⟩;refine (sx (a:=a) (b:=b) (k:=n.k)).mono ?_;rintro _ V _ ⟨rfl,W⟩;have E:=h.2.2.2.1.lD;have e:ll a b n.k= .tuple #[.int .i64 (min (a+b) n.k),.int .i64 0]:=by
  unfold ll;rw[if_pos (show cv a n.k∧cv b n.k from⟨⟨E,J⟩,⟨E,O⟩⟩)]
 rw[e,a8,ba];exact⟨rfl,U.trans W⟩
def ha (n:aV) (s:aN) (i:Int):Bool:=decide (0≤i∧i<n.sizes.length)&& !mU s i.toNat
theorem Ab {i:Int} (h:cC w ao gT A R n s t):ag x5 CZ [.pointer (some ⟨ao,0,none⟩),.int .i64 i] w fun v w'=>v= .int .i64 (if ha n s i=true then 0 else 1)∧Ext w w':=by
 refine ap func193 ?_;rw[cQ dy.u];simp only[c6,aR];refine aI (fun v U=>v= .bool (!ha n s i)∧Ext w U) ?_ ?_
 ·rintro _ U ⟨rfl,E⟩;rw[ca];refine⟨fun W=>⟨by rw[if_neg (by simpa using W)],E⟩,fun W=>⟨by rw[if_pos (by simpa using W)],E⟩⟩
 intro ae X;refine (JN h).mono ?_;rintro _ U _ ⟨rfl,E⟩;rw[ca];refine⟨fun J=>X _ _ ⟨?_,E⟩,fun J=>?_⟩
 ·rw[W0] at J;unfold ha;rw[J.2,Y0,Bool.and_false];rfl
 refine (mV (i:=i) (h.ext E)).mono ?_;rintro _ V _ ⟨⟨b,m,rfl,af,aa,ab⟩,ac⟩;refine (wX (b:=b) (n:=m)).mono ?_;rintro _ ah _ ⟨rfl,ad⟩;rw[bc];refine X _ _ ⟨?_,(E.trans ac).trans ad⟩;congr 1;have ai:=h.2.2.2.1.vars;unfold ha;by_cases O:0≤i∧i<n.sizes.length
 ·obtain⟨x,Y⟩:=aE (l:=s.vars) (i:=i.toNat) (by omega);obtain⟨z,Z⟩:=aE (l:=n.sizes) (i:=i.toNat) (by omega);have h1:=(h.2.2.2.1.var i.toNat x z Y Z).1;have aj:=h.2.2.2.1.jk.2.2 z (x2 Z);have hm:=(ab x O.1 Y).1;rw[decide_eq_true O.1,Bool.true_and] at J;rw[decide_eq_true O,J,decide_eq_false (by omega)];rfl
 ·rw[decide_eq_false O,(aa O).2];rfl
def mX (w:x1) (dv:Nat) (cap:Array y0) (l:List Int) (of:Int→Int):Prop:=∀ (w':x1) (v:Int),Ext w w'→v∈l→ag x5 dv (.int .i64 v::cap.toList) w' fun r E=>r= .int .i64 (of v)∧Ext w' E
set_option maxHeartbeats 1000000 in
theorem tH {i:Int} {x:gB} {of:Int→Int} {cap:Array y0} (h:cC w ao gT A R n s t) (aq:Laid w) (ba:0≤i) (J:s.vars[i.toNat]? =some x) (bb:mX w dv cap (cc x) of):
  ag x5 C0 [.pointer (some ⟨ao,0,none⟩),.int .i64 i,.func (.func dv) #[] cap] w fun r w'=>Ext w w'∧r= .tuple #[.int .i64 (eW n.k (cc x) of).1,.int .i64 (eW n.k (cc x) of).2]:=by
 refine iV func194 ?_;refine a7 fun aL bd bz au ah=>?_;have ah:aa bd aL l2 [.func (.func dv) #[] cap]:=ah;refine (ou (h.ext au)).mono ?_;rintro _ V _ ⟨rfl,ai⟩;refine bg aj.i fun aw bA bB aM aN=>?_;refine bg ab.i fun aO bC bD ax aP=>?_;have bE:=(au.trans ai).size;have z3:=aM.size;have z4:=ax.size;refine aY (v:=.int .i64 n.k) aj.i rfl rfl (aN.ext ax) (by decide) fun bF aQ bG be=>?_;have bH:=aN.lt;have bI:=aP.lt;refine aY (v:=.int .i64 (-1)) ab.i rfl rfl (aP.U aQ (by omega)) (by decide) fun bf aR bJ bh=>?_;have bi:=be.U aR (by omega);have aS:Ext V bf:=((aM.trans ax).then aQ fun r E he=>by have he:r=aw:=he;omega).put aR (by omega);have aT:=(au.trans ai).trans aS;refine (mV (i:=i) (h.ext aT)).mono ?_;rintro _ bK _ ⟨⟨b,m,rfl,ay⟩,aU⟩;refine (pO (b:=b) (n:=m)).mono ?_;rintro _ az _ ⟨bj,aA,rfl,bL,aB⟩;have bM:=ay.1;have aV:=qP ay ba J;have Z:=aU.trans bj;have X:=aT.trans Z;have bN:=X.size;have bO:=Z.size;have bP:=ah.lt;have bQ:=aU.size;have z12:=ai.size;obtain⟨S,ak⟩:∃ S:am,S=fun r=>r=aw∨r=aO:=⟨_,rfl⟩;have al:∀ r,S r→w.heap.size≤r:=fun r E=>by rw[ak] at E;rcases E with rfl|rfl <;> omega
 have aD:∀ r,S r→r≠aL∧r≠aA:=fun r E=>by rw[ak] at E;rcases E with rfl|rfl <;> omega
 let st:Nat→Int×Int:=fun j=>((cc x).take j).foldl (kH of) (n.k,-1);have bk:=ah.ext (ai.trans (aS.trans Z));refine jz.old ⟨_,false,iQ,#[.pointer (some ⟨aA,0,none⟩)],_,_,_,_,fun j w'=>ad S az w'∧aa w' aw aj [.int .i64 (st j).1]∧aa w' aO ab [.int .i64 (st j).2],fun _ _ _=>False,rfl,(pN (g:=aA) ay.1).s,?_,
  fun _ _ J h=>⟨h.1.ext J,h.2.ext J⟩,fun _ _ _ J h=>⟨h.1.trans (J.U S),h.2.1.ext J,h.2.2.ext J⟩,fun _ _ _ _ _ h=>h,⟨aB,aq.ext X⟩,⟨ad.refl _ _,bi.ext Z,bh.ext Z⟩,?_,?_,fun _ _ h=>h.elim,fun _ _ _ h=>h.elim⟩
 ·rintro _ _ _ _ ⟨_,_,_,_,rfl⟩;rfl
 ·rintro _ j _ bl ⟨_,_⟩ ⟨bR,rfl,v,ac,bm⟩ ⟨Y,an,ap⟩;cases bm;intro aE O _ _;have aW:(cc x)[j]? =some (v:Int):=by rw[←aV,x7,ac];rfl
  have aX:st (j+1)=kH of (st j) v:=by
   show ((cc x).take (j+1)).foldl _ _=_;rw[u5,aW,List.foldl_append];rfl
  have bn:Ext w aE:=((X.then Y fun r E h=>by have:=al r h;omega)).trans O;have bo:=(bk.U Y fun h=>(aD _ h).1 rfl).ext O;rw[av (v:=.func (.func dv) #[] cap) (by kernel_rfl) (bo.cell (o:=0) rfl)];refine ag.mono (bb aE v bn (x2 aW)) ?_;rintro _ aZ _ ⟨rfl,aF⟩;have aG:=O.trans aF;have aH:=an.ext aG;have aJ:=ap.ext aG;refine aI (fun r aK=>r= .bool (decide ((st j).2= -1∨of v<(st j).1))∧Ext aZ aK) ?_ ?_
  ·rintro _ aK ⟨rfl,ae⟩;have a1:=aG.trans ae;rw[af];refine⟨fun bp=>?_,fun bq=>?_⟩
   ·refine aY (v:=.int .i64 (of v)) aj.i rfl rfl (aH.ext ae) (by simp) fun bS a2 bT br=>?_;refine aY (v:=.int .i64 (v:Int)) ab.i rfl rfl ((aJ.ext ae).U a2 (by omega)) (by simp) fun bt a6 bU bu=>?_;have bw:=br.U a6 (by omega);have W:ad S az bt:=((Y.trans (a1.U S)).trans (a2.mono fun r _ h=>by rw[ak];exact .inl h)).trans (a6.mono fun r _ h=>by rw[ak];exact .inr h);have e:st (j+1)=(of v,(v:Int)):=by rw[aX];unfold kH;rw[if_pos bp]
    refine⟨⟨aB.U W fun h=>(aD _ h).2 rfl,(aq.ext (X.then W fun r E h=>by have:=al r h;omega))⟩,⟨W,?_,?_⟩,fun h=>by cases h⟩
    ·rw[e];exact bw
    ·rw[e];exact bu
   ·have e:st (j+1)=st j:=by rw[aX];unfold kH;rw[if_neg bq]
    have W:ad S az aK:=Y.trans (a1.U S);refine⟨⟨aB.U W fun h=>(aD _ h).2 rfl,(aq.ext (X.then W fun r E h=>by have:=al r h;omega))⟩,⟨W,?_,?_⟩,fun h=>by cases h⟩
    ·rw[e];exact aH.ext ae
    ·rw[e];exact aJ.ext ae
  ·intro bV a8;rw[av (v:=.int .i64 (st j).2) (by kernel_rfl) (aJ.cell (o:=0) rfl),bc,af];refine⟨fun h1=>a8 _ _ ⟨by rw[decide_eq_true (.inl h1)],Ext.refl _⟩,fun h1=>?_⟩;rw[av (v:=.int .i64 (st j).1) (by kernel_rfl) (aH.cell (o:=0) rfl),aC];refine a8 _ _ ⟨?_,Ext.refl _⟩;congr 1;exact decide_eq_decide.2 ⟨.inr,fun h=>h.resolve_left h1⟩
 ·rintro k bl rfl ⟨Y,an,ap⟩;intro aE O _ _;have bx:st (e7 b m).length=eW n.k (cc x) of:=by
   show ((cc x).take _).foldl _ _=_;rw[Z0 (by rw[←aV,r8];exact r9 _)];rfl
  rw[bx] at an ap;rw[av (v:=.int .i64 (eW n.k (cc x) of).1) (by kernel_rfl) ((an.ext O).cell (o:=0) rfl),av (v:=.int .i64 (eW n.k (cc x) of).2) (by kernel_rfl) ((ap.ext O).cell (o:=0) rfl)];intro aZ aF _;exact⟨((X.then Y fun r E h=>by have:=al r h;omega).trans O).trans aF,rfl⟩
end
theorem Ac {x:gB} {v:Int} (h:v∈cc x):0≤v∧v<x.un.length:=by
 unfold cc at h;obtain⟨h,_⟩:=List.mem_filter.1 h;obtain⟨q,E,rfl⟩:=o8.1 h;have:=List.mem_range.1 E;omega
theorem J1 {s:aN} {n:aV} {i v:Int} {b:Nat} {x:gB} (h:tF s n i b m) (O:0≤i) (J:s.vars[i.toNat]? =some x):(decide (0≤v∧v<m)&&b.testBit v.toNat)=decide (v∈cc x):=by
 obtain⟨_,_,U⟩:=h;obtain⟨rfl,V⟩:=U x O J;by_cases ac:0≤v∧v<x.un.length
 ·rw[decide_eq_true ac,Bool.true_and,V,decide_eq_true (show v.toNat<x.un.length by omega),Bool.true_and,show ((v.toNat:Nat):Int)=v by omega];have:=JT ac;cases E:dropped x.mask v with
  |false=>rw[decide_eq_true (this.2 E)];rfl
  |true=>rw[decide_eq_false fun h=>by rw[this.1 h] at E;cases E];rfl
 ·rw[decide_eq_false ac,decide_eq_false fun h=>ac (Ac h)];rfl
def dI (s:aN) (j:Nat) (tl:List Int):Int:=if (jq s j tl).isSome then mW s j tl else 0
def fR (n:aV) (s:aN) (i v:Int):Int:=if kG n i v then qN s i.toNat v.toNat else 0
theorem Ad {s:aN} (E:eF k sizes s):0≤dI s j tl∧dI s j tl≤k:=by
 have U:=E.lD;unfold dI;cases O:jq s j tl with
 |none=>simp;omega
 |some p=>
  obtain⟨V,f,ae,W,m,hm,J,rfl⟩:=zZ E O;rw[Option.isSome_some,if_pos rfl];have e:mW s j tl=f.cs.getD m 0:=by
   unfold mW cV;rw[ae];simp only;rw[hm];rfl
  rw[e,u4,x4 J];exact (E.funs f (x2 ae)).1.iu _ (U6 J)
theorem qQ {n:aV} {s:aN} {i v:Int} (E:eF n.k n.sizes s):0≤fR n s i v∧fR n s i v≤n.k:=by
 have W:=E.lD;have X:=E.vars;unfold fR;split
 ·rename_i U;obtain⟨x,J,O,_⟩:=U.var E;obtain⟨z,V⟩:∃ z,n.sizes[i.toNat]? =some z:=⟨_,x4 (by have:=(x3.1 J).1;omega)⟩;have:=(E.var i.toNat x z J V).2.1;unfold qN;rw[J];simp only;rw[u4,x4 O];exact this _ (U6 O)
 ·omega
section
variable {w:x1} {ao gT:Nat} {A R:am} {n:aV} {s:aN} {t:aH}
theorem Ae {J:y0} (h:cC w ao gT A R n s t) (V:ay .i64 w J tl) (W:∀ e w',Ext w w'→K (.tuple #[.int .i64 (dI s j tl),.int .i64 e]) w'):ag x5 vj [.pointer (some ⟨ao,0,none⟩),.int .i64 (j:Int),J] w K:=by
 refine (JR h V).mono ?_;rintro _ O _ ⟨rfl,U⟩;have:=W;unfold dI at this;split
 ·rename_i E;rw[if_pos E] at this;exact this 0 O U
 ·rename_i E;rw[if_neg E] at this;exact this 1 O U
theorem tI {i v:Int} (h:cC w ao gT A R n s t) (U:∀ e w',Ext w w'→K (.tuple #[.int .i64 (fR n s i v),.int .i64 e]) w'):ag x5 vi [.pointer (some ⟨ao,0,none⟩),.int .i64 i,.int .i64 v] w K:=by
 refine (JP h).mono ?_;rintro _ J _ ⟨rfl,O⟩;have:=U;unfold fR at this;split
 ·rename_i E;rw[if_pos E] at this;exact this 0 J O
 ·rename_i E;rw[if_neg E] at this;exact this 1 J O
theorem Af {i:Int} (h:cC w ao gT A R n s t):ag x5 C1 [.pointer (some ⟨ao,0,none⟩),.int .i64 i] w fun r w'=>Ext w w'∧ ∃ cap,r= .func (.func pm) #[] cap∧ ∀ l,mX w' pm cap l (fR n s i):=by
 refine ap func195 ?_;refine a7 fun X Y ae Z E=>?_;refine a7 fun ac V af U J=>?_;rw[hM];have W:=Z.trans U;refine⟨W,_,rfl,fun l w' v O _=>?_⟩;refine ap func253 ?_;have E:aa Y X dy [.pointer (some ⟨ao,0,none⟩)]:=E;have J:aa V ac ab [.int .i64 i]:=J;rw[av (v:=.pointer (some ⟨ao,0,none⟩)) (by kernel_rfl) (((E.ext U).ext O).cell (o:=0) rfl),av (v:=.int .i64 i) (by kernel_rfl) ((J.ext O).cell (o:=0) rfl)];refine tI (h.ext (W.trans O)) fun e ah ad=>?_;rw[a8,ba];exact⟨rfl,ad⟩
theorem tJ {i:Int} (O:eF n.k n.sizes s) (h:ha n s i=true):0≤i∧ ∃ x,s.vars[i.toNat]? =some x∧x.gone=0:=by
 unfold ha at h;rw[W0] at h;have h1:=of_decide_eq_true h.1;have U:=O.vars;obtain⟨x,J⟩:=aE (l:=s.vars) (i:=i.toNat) (by omega);have E:=h.2;unfold mU at E;rw[J] at E;exact⟨h1.1,x,J,by simpa using E⟩
theorem J2 {i:Int} (h:cC w ao gT A R n s t) (W:Laid w):ag x5 Cd [.pointer (some ⟨ao,0,none⟩),.int .i64 i] w fun r w'=>Ext w w'∧(ha n s i=false→r= .tuple #[.int .i64 0,.int .i64 (-1),.int .i64 1])∧
  ∀ x,ha n s i=true→s.vars[i.toNat]? =some x→r= .tuple #[.int .i64 (eW n.k (cc x) (fR n s i)).1,.int .i64 (eW n.k (cc x) (fR n s i)).2,.int .i64 0]:=by
 refine ap func116 ?_;refine (Ab h).mono ?_;rintro _ ab _ ⟨rfl,E⟩;cases ac:ha n s i with
 |false=>
  rw[if_neg (by decide),bj,af];exact⟨fun _=>⟨E,fun _=>rfl,fun _ h=>by cases h⟩,fun h=>absurd (by decide) h⟩
 |true=>
  obtain⟨X,x,O,_⟩:=tJ h.2.2.2.1 ac;rw[if_pos rfl,bj,af];refine⟨fun h=>absurd rfl h,fun _=>?_⟩;refine (Af (i:=i) (h.ext E)).mono ?_;rintro _ V _ ⟨Y,cap,rfl,Z⟩;have J:=E.trans Y;refine (tH (h.ext J) (W.ext J) X O (Z _)).mono ?_;rintro _ ad _ ⟨aa,rfl⟩;rw[a8,ba];exact⟨J.trans aa,(fun h=>by cases h),fun ae _ U=>by rw[O] at U;cases U;rfl⟩
theorem kI {f:ep} (h:cC w ao gT A R n s t) (ae:s.funs[j]? =some f):ag x5 rD [.pointer (some ⟨ao,0,none⟩),.int .i64 (j:Int)] w fun r w'=>Ext w w'∧ ∃ g,w.heap.size≤g∧ak .i64 ab w' g r f.sc:=by
 have ad:=(x3.1 ae).1;refine ap func83 ?_;refine aI (fun v O=>v= .bool false∧Ext w O) ?_ ?_
 ·rintro _ O ⟨rfl,E⟩;rw[aR];obtain⟨ah,ai,aj,al,am,an,L,aq,X,au,aw,ax,U,J⟩:=(h.ext E).1.parts;obtain⟨y,W⟩:∃ y,L[j]? =some y:=⟨_,x4 (by rw[J.1];omega)⟩;obtain⟨Y,_,_⟩:=J.2 j y f W ae;rw[aD ch.p 3 X rfl,cM rfl ew.u eL.i U (by rw[J.1];omega),aF eL.p rfl,av (v:=y.aO) (by kernel_rfl) (U.range W 0 _ rfl)];have ay:f.sc.length≤6:=(h.2.2.2.1.funs f (x2 ae)).1.scope.2;refine (ij Y.ls (by omega)).mono ?_;rintro v V _ ⟨Z,g,az,hm⟩;have:=E.size;exact⟨E.trans Z,g,by omega,hm⟩
 intro aA aa;rw[aC,af];refine⟨fun aB=>by omega,fun _=>?_⟩;refine (ov h).mono ?_;rintro _ aE _ ⟨rfl,ac⟩;rw[cn];exact aa _ _ ⟨by rw[decide_eq_false (by omega)],ac⟩
structure hD (s:aN) (j pos v:Int) (f:ep) (u:Int) (x:gB):Prop where
 tK:0≤j
 ae:s.funs[j.toNat]? =some f
 live:f.live≠0
 mY:0≤pos
 hu:f.sc[pos.toNat]? =some u
 lK:0≤u
 J:s.vars[u.toNat]? =some x
 ac:v∈cc x
theorem Ag {j v:Int} (h:cC w ao gT A R n s t):ag x5 C5 [.pointer (some ⟨ao,0,none⟩),.int .i64 j,.int .i64 pos,.int .i64 v] w fun r w'=>Ext w w'∧ ∃ e:Int,r= .int .i64 e∧(e=0∨e=1)∧(e=0↔ ∃ f u x,hD s j pos v f u x):=by
 have aN:=h.2.2.2.1.vars;refine ap func200 ?_;rw[cQ dy.u];simp only[c6,aR];have key:∀ (K:y0→x1→Prop),(∀ r w',Ext w w'→(∀ f,0≤j→s.funs[j.toNat]? =some f→ay .i64 w' r f.sc)→K r w')→ag x5 rD [.pointer (some ⟨ao,0,none⟩),.int .i64 j] w K:=fun K ak=>by
  by_cases am:0≤j∧j<s.funs.length
  ·obtain⟨f,ae⟩:=aE (l:=s.funs) (i:=j.toNat) (by omega);have:=kI h ae;rw[show ((j.toNat:Nat):Int)=j by omega] at this;refine this.mono ?_;rintro r Y _ ⟨O,g,_,hm⟩;exact ak r Y O fun U _ an=>by rw[ae] at an;cases an;exact hm.ls
  ·refine (J0 h am).mono ?_;rintro r Y _ ⟨rfl,O⟩;exact ak _ Y O fun f Z ae=>absurd ⟨Z,by have:=(x3.1 ae).1;omega⟩ am
 refine key _ fun r Y O aG=>?_;refine aI (fun aH V=>∃ b,aH= .bool b∧(b=false↔ ∃ f u x,hD s j pos v f u x)∧Ext w V) ?_ ?_
 ·rintro _ V ⟨b,rfl,aa,aq⟩;rw[ca];refine⟨fun au=>⟨aq,1,rfl,.inr rfl,⟨(fun h=>by cases h),fun h=>by rw[aa.2 h] at au;cases au⟩⟩,fun ae=>⟨aq,0,rfl,.inl rfl,⟨fun _=>aa.1 ae,fun _=>rfl⟩⟩⟩
 intro aO ad;refine (qO (j:=j) (h.ext O)).mono ?_;rintro _ aP _ ⟨rfl,av⟩;have W:=O.trans av;rw[bJ,ca];refine⟨fun ah=>ad _ _ ⟨true,rfl,⟨(fun h=>by cases h),fun⟨f,u,x,E⟩=>?_⟩,W⟩,fun ai=>?_⟩
 ·rw[decide_eq_true E.tK,Bool.true_and] at ah;unfold gD at ah;rw[E.ae] at ah;simp[E.live] at ah
 have ai:0≤j∧gD s j.toNat=true:=by simpa using ai
 obtain⟨Z,X⟩:=ai;obtain⟨f,ae,aJ⟩:∃ f,s.funs[j.toNat]? =some f∧f.live≠0:=by
  unfold gD at X;cases ae:s.funs[j.toNat]? with
  |none=>rw[ae] at X;cases X
  |some f=>rw[ae] at X;exact⟨f,rfl,by simpa using X⟩
 have aw:=(aG f Z ae).ext av;have ax:=(h.2.2.2.1.funs f (x2 ae)).1;have same:∀ {U u x},hD s j pos v U u x→U=f:=fun E=>by have:=E.ae;rw[ae] at this;cases this;rfl
 rw[aC,af];refine⟨fun aQ=>ad _ _ ⟨true,rfl,⟨(fun h=>by cases h),fun⟨f,u,x,E⟩=>by have:=E.mY;omega⟩,W⟩,fun aS=>?_⟩;rw[aK al.u aw,cn,af];refine⟨fun aT=>ad _ _ ⟨true,rfl,⟨(fun h=>by cases h),fun⟨U,u,x,E⟩=>?_⟩,W⟩,fun aU=>?_⟩
 ·obtain rfl:=same E;have:=(x3.1 E.hu).1;omega
 obtain⟨u,hu⟩:=aE (l:=f.sc) (i:=pos.toNat) (by omega);have az:=x2 hu;have aA:=(ax.scope.1 u az).1;have aV:=ax.vars u az;obtain⟨x,aj⟩:=aE (l:=s.vars) (i:=u.toNat) (by omega);rw[fv (y:=pos) (i:=pos.toNat) (by omega) al.u ab.i (by kernel_rfl) aw hu];refine (mV (i:=u) (h.ext W)).mono ?_;rintro _ aW _ ⟨⟨b,m,rfl,aB⟩,aL⟩;refine (JK (v:=v) aB.1).mono ?_;rintro _ aX _ ⟨rfl,aM⟩;rw[J1 aB aA aj,bJ];refine ad _ _ ⟨_,rfl,⟨fun aa=>⟨f,u,x,Z,ae,aJ,by omega,hu,aA,aj,by simpa using aa⟩,fun⟨U,aY,aZ,E⟩=>?_⟩,(W.trans aL).trans aM⟩;obtain rfl:=same E;have aD:=E.hu;rw[hu] at aD;cases aD;have aF:=E.J;rw[aj] at aF;cases aF;rw[decide_eq_true E.ac];rfl
end
def iE (n:aV) (s:aN) (j:Nat) (pos v o u:Int):Int:=min (dI s j (if pos=1 then[u,v] else[v,u])+fR n s o u) n.k
section
variable {w:x1} {ao gT:Nat} {A R:am} {n:aV} {s:aN} {t:aH}
theorem J3 {v o:Int} {ad ae ag ah ai:Nat} (h:cC w ao gT A R n s t) (h1:aa w ad ab [.int .i64 v]) (am:aa w ae ab [.int .i64 pos]) (U:aa w ag dy [.pointer (some ⟨ao,0,none⟩)]) (an:aa w ah ab [.int .i64 (j:Int)]) (aq:aa w ai ab [.int .i64 o]) (l:List Int):
  mX w Dx #[.pointer (some ⟨ad,0,none⟩),.pointer (some ⟨ae,0,none⟩),.pointer (some ⟨ag,0,none⟩),.pointer (some ⟨ah,0,none⟩),.pointer (some ⟨ai,0,none⟩)] l (iE n s j pos v o):=fun w' u J _=>by
 have h:=h.ext J;refine ap func254 ?_;rw[av (v:=.int .i64 v) (by kernel_rfl) ((h1.ext J).cell (o:=0) rfl)];refine nA (l:=[v,u]) al.u ab.i (by simp) rfl (by kernel_rfl) fun aB aC aD aE W au=>?_;have aj:=J.trans W;refine aI (fun r V=>Ext w' V∧ay .i64 V r (if pos=1 then[u,v] else[v,u])) ?_ ?_
 ·rintro aF V ⟨E,aw⟩;have X:=J.trans E;rw[av (v:=.pointer (some ⟨ao,0,none⟩)) (by kernel_rfl) ((U.ext X).cell (o:=0) rfl),av (v:=.int .i64 (j:Int)) (by kernel_rfl) ((an.ext X).cell (o:=0) rfl)];refine Ae (h.ext E) aw fun e aG O=>?_;have Y:=X.trans O;rw[a8,ba,av (v:=.pointer (some ⟨ao,0,none⟩)) (by kernel_rfl) ((U.ext Y).cell (o:=0) rfl),av (v:=.int .i64 o) (by kernel_rfl) ((aq.ext Y).cell (o:=0) rfl)];refine tI (h.ext (E.trans O)) fun aH aJ Z=>?_;have ax:=Y.trans Z;rw[a8,ba,av (v:=.pointer (some ⟨ao,0,none⟩)) (by kernel_rfl) ((U.ext ax).cell (o:=0) rfl)];refine (Aa (h.ext ((E.trans O).trans Z)) (Ad h.2.2.2.1) (qQ h.2.2.2.1)).mono ?_;rintro _ aK _ ⟨rfl,az⟩;exact⟨rfl,((E.trans O).trans Z).trans az⟩
 intro aL ak;rw[av (v:=.int .i64 pos) (by kernel_rfl) ((am.ext aj).cell (o:=0) rfl),bc,af];refine⟨fun ac=>?_,fun ac=>ak _ _ ⟨W,by rw[if_neg ac];exact au.ls⟩⟩;rw[av (v:=.int .i64 v) (by kernel_rfl) ((h1.ext aj).cell (o:=0) rfl)];refine nA (l:=[u,v]) al.u ab.i (by simp) rfl (by kernel_rfl) fun aM aN V aO E aA=>?_;exact ak _ _ ⟨W.trans E,by rw[if_pos ac];exact aA.ls⟩
theorem Ah {v o:Int} {f:ep} {x:gB} (h:cC w ao gT A R n s t) (aB:Laid w) (ae:s.funs[j]? =some f) (aV:0≤pos∧pos≤1) (aW:f.sc.length=2) (aj:f.sc[(1-pos).toNat]? =some o) (J:s.vars[o.toNat]? =some x):
  ag x5 C3 [.pointer (some ⟨ao,0,none⟩),.int .i64 (j:Int),.int .i64 pos,.int .i64 v] w fun r w'=>Ext w w'∧r= .tuple #[.int .i64 (eW n.k (cc x) (iE n s j pos v o)).1,.int .i64 (eW n.k (cc x) (iE n s j pos v o)).2]:=by
 have aC:=((h.2.2.2.1.funs f (x2 ae)).1.scope.1 o (x2 aj)).1;have aX:j<4611686018427387904:=by
  have h1:=ot h.2.1 h.2.2.1;have aZ:=zV ae;have a1:=(x3.1 ae).1;have a2:j≤fk s j:=by
   unfold fk;have:j≤((s.funs.take j).flatMap ga).length:=by
    have aD:∀ (L:List ep),L.length≤(L.flatMap ga).length:=fun L=>by
     induction L with
     |nil=>exact r9 _
     |cons a L a6=>rw[V1,u7,n9];have:(ga a).length=a.cs.length+1:=rfl;omega
    have aE:=aD (s.funs.take j);rw[o6] at aE;omega
   omega
  omega
 refine ap func198 ?_;refine a7 fun aF bb bc aG Z=>?_;refine a7 fun aH V bd ax ad=>?_;refine a7 fun aJ be bf ak af=>?_;refine a7 fun aK ac bh ah am=>?_;have ay:=((aG.trans ax).trans ak).trans ah;have Z:aa ac aF dy [.pointer (some ⟨ao,0,none⟩)]:=((Z.ext ax).ext ak).ext ah;have ad:aa ac aH ab [.int .i64 (j:Int)]:=(ad.ext ak).ext ah;have af:aa ac aJ ab [.int .i64 pos]:=af.ext ah;have am:aa ac aK ab [.int .i64 v]:=am;refine aI (fun r an=>Ext ac an∧ ∃ E,r= .pointer (some ⟨E,0,none⟩)∧aa an E ab [.int .i64 o]) ?_ ?_
 ·rintro _ an ⟨X,E,rfl,Y⟩;have ai:=ay.trans X;rw[av (v:=.pointer (some ⟨ao,0,none⟩)) (by kernel_rfl) ((Z.ext X).cell (o:=0) rfl),av (v:=.int .i64 o) (by kernel_rfl) (Y.cell (o:=0) rfl),hM];refine (tH (h.ext ai) (aB.ext ai) aC J (J3 (h.ext ai) (am.ext X) (af.ext X) (Z.ext X) (ad.ext X) Y _)).mono ?_;rintro _ bi _ ⟨aL,rfl⟩;rw[a8,ba];exact⟨ai.trans aL,rfl⟩
 intro bj az bk O _ _;have aA:=ay.trans O;rw[av (v:=.pointer (some ⟨ao,0,none⟩)) (by kernel_rfl) ((Z.ext O).cell (o:=0) rfl),av (v:=.int .i64 (j:Int)) (by kernel_rfl) ((ad.ext O).cell (o:=0) rfl),av (v:=.int .i64 pos) (by kernel_rfl) ((af.ext O).cell (o:=0) rfl),dk,wrap_i64 (by omega) (by omega)];refine⟨?_,?_⟩
 ·refine (kI (h.ext aA) ae).mono ?_;rintro r aM _ ⟨U,aN,aO,aq⟩;refine⟨.inl U,?_⟩;refine pK (y:=1-pos) (i:=(1-pos).toNat) (by omega) al.u ab.i aq.ls aj fun bl co aP=>?_;rw[av (v:=.int .i64 o) (by kernel_rfl) aP];refine bg ab.i fun E aQ aR W Y=>?_;refine⟨.inl W,.inl (U.trans W),?_⟩;have z9:=((O.trans U).trans W).size;refine aY (v:=.int .i64 o) ab.i rfl rfl Y (by decide) fun aS au aT aw=>?_;have bm:=(O.trans U).size;exact az _ _ ⟨((O.trans U).trans W).then au fun r aU he=>by have he:r=E:=he;omega,E,rfl,aw⟩
 ·refine bg ab.i fun E aQ aR W Y=>?_;refine⟨.inl W,?_⟩;refine (kI (h.ext (aA.trans W)) ae).mono ?_;rintro r aM _ ⟨U,aN,aO,aq⟩;refine⟨.inl (W.trans U),?_⟩;rw[fv (y:=1-pos) (i:=(1-pos).toNat) (by omega) al.u ab.i (by kernel_rfl) aq.ls aj];have bn:=O.size;refine aY (v:=.int .i64 o) ab.i rfl rfl (Y.ext U) (by decide) fun aS au aT aw=>?_;exact az _ _ ⟨((O.trans W).trans U).then au fun r aU he=>by have he:r=E:=he;omega,E,rfl,aw⟩
def Ai (n:aV) (s:aN) (j pos v:Int) (r:y0):Prop:=((¬∃ f u x,hD s j pos v f u x)→r= .tuple #[.int .i64 0,.int .i64 (-1),.int .i64 1])∧ ∀ f u x,hD s j pos v f u x→(f.sc.length≠2→r= .tuple #[.int .i64 0,.int .i64 (-1),.int .i64 1])∧
 (f.sc.length=2→ ∀ o y,f.sc[(1-pos).toNat]? =some o→s.vars[o.toNat]? =some y→r= .tuple #[.int .i64 (eW n.k (cc y) (iE n s j.toNat pos v o)).1,.int .i64 (eW n.k (cc y) (iE n s j.toNat pos v o)).2,.int .i64 0])
theorem hD.same {j v:Int} {f E:ep} {u O:Int} {x U:gB} (h:hD s j pos v f u x) (k:hD s j pos v E O U):E=f∧O=u∧U=x:=by
 have V:=h.ae;rw[k.ae] at V;cases V;have W:=h.hu;rw[k.hu] at W;cases W;have X:=h.J;rw[k.J] at X;cases X;exact⟨rfl,rfl,rfl⟩
theorem J4 {j v:Int} (h:cC w ao gT A R n s t) (aj:Laid w):ag x5 Cg [.pointer (some ⟨ao,0,none⟩),.int .i64 j,.int .i64 pos,.int .i64 v] w fun r w'=>Ext w w'∧Ai n s j pos v r:=by
 refine ap func120 ?_;refine (Ag h).mono ?_;rintro _ ay _ ⟨X,e,rfl,he,Z⟩;rw[bj,af];refine⟨fun J=>⟨X,fun _=>by rw[he.resolve_left J],fun f u x E=>absurd (Z.2 ⟨f,u,x,E⟩) J⟩,fun ak=>?_⟩;obtain⟨f,u,x,E⟩:=Z.1 (Z6.1 ak);have aa:=kI (h.ext X) E.ae;have az:=E.tK;rw[show ((j.toNat:Nat):Int)=j by omega] at aa;refine aa.mono ?_;rintro r V _ ⟨am,aA,_,an⟩;have O:=X.trans am;rw[aK al.u an.ls,bj,af];refine⟨fun J=>⟨O,fun _=>rfl,fun aq au av Y=>⟨fun _=>rfl,fun U=>?_⟩⟩,fun U=>?_⟩
 ·obtain⟨rfl,_⟩:=E.same Y;omega
 have U:f.sc.length=2:=by omega
 have aB:=(x3.1 E.hu).1;have aC:=E.mY;obtain⟨o,W⟩:=aE (l:=f.sc) (i:=(1-pos).toNat) (by omega);have ab:=(h.2.2.2.1.funs f (x2 E.ae)).1;have aD:=h.2.2.2.1.vars;have aF:=ab.vars o (x2 W);have aG:=(ab.scope.1 o (x2 W)).1;obtain⟨y,ac⟩:=aE (l:=s.vars) (i:=o.toNat) (by omega);have ad:=Ah (v:=v) (h.ext O) (aj.ext O) E.ae ⟨E.mY,by omega⟩ U W ac;rw[show ((j.toNat:Nat):Int)=j by omega] at ad;refine ad.mono ?_;rintro _ aH _ ⟨aw,rfl⟩;rw[a8,ba];refine⟨O.trans aw,fun ax=>absurd ⟨f,u,x,E⟩ ax,fun aq au av Y=>?_⟩;obtain⟨rfl,_⟩:=E.same Y;refine⟨fun J=>absurd U J,fun _ o' aI ah ai=>?_⟩;rw[W] at ah;cases ah;rw[ac] at ai;cases ai;rfl
end
theorem J5 {x:Int} (h:ay .i64 w sv l):ag x5 rI [sv,.int .i64 x] w fun v w'=>Ext w w'∧ ∃ r:Int,v= .int .i64 r∧(x∉l→r= -1)∧(x∈l→0≤r∧l[r.toNat]? =some x):=by
 refine ap func160 ?_;rw[aK al.u h];refine bO.range l.length (fun i _ U=>Ext w U∧x∉l.take i) h.le ⟨Ext.refl _,by simp⟩ ?_ ?_
 ·rintro i _ U k hi ⟨E,J⟩ V;refine bC (by omega) ?_;obtain⟨y,O⟩:=aE (l:=l) hi;rw[a1 al.u ab.i (by kernel_rfl) (h.ext E) O,bc,af];refine⟨fun he=>⟨E,i,rfl,fun hm=>absurd (he▸x2 O) hm,fun _=>⟨by omega,by rw[he,j6];exact O⟩⟩,fun he=>?_⟩;rw[aB];refine V _ _ ⟨E,fun hm=>?_⟩;rw[u5,O] at hm;rcases p8.1 hm with hm|hm
  ·exact J hm
  ·simp at hm;exact he hm
 ·rintro _ U k ⟨E,J⟩;rw[o5] at J;rw[aC,af];exact⟨fun h=>by omega,fun _=>⟨E,-1,rfl,fun _=>rfl,fun h=>absurd h J⟩⟩
theorem J6 {x:Int} (h:ay .i64 w sv l):ag x5 BW [sv,.int .i64 x] w fun v w'=>v= .bool (decide (x∈l))∧Ext w w':=by
 refine ap func81 ?_;refine (J5 h).mono ?_;rintro _ V _ ⟨J,r,rfl,E,O⟩;rw[cn];refine⟨?_,J⟩;congr 1;refine decide_eq_decide.2 ⟨fun W=>?_,fun hm=>(O hm).1⟩;exact Z6.1 fun U=>by have:=E U;omega
set_option maxHeartbeats 1000000 in
theorem J7 {cap:Array y0} {p:Int→Bool} (h:ay .i64 w sv l)
  (Y:∀ w' x,Ext w w'→x∈l→ag x5 dv (.int .i64 x::cap.toList) w' fun r Z=>r= .bool (p x)∧Ext w' Z):
  ag x5 rG [sv,.func (.func dv) #[] cap] w fun v w'=>Ext w w'∧((v= .int .i64 (-1)∧ ∀ x∈l,p x=false)∨ ∃ i:Nat,v= .int .i64 (i:Int)∧i<l.length∧(∀ x∈l.take i,p x=false)∧ ∀ x,l[i]? =some x→p x=true):=by
 refine ap func131 ?_;rw[aK al.u h];refine bO.range l.length (fun i _ U=>Ext w U∧ ∀ x∈l.take i,p x=false) h.le ⟨Ext.refl _,by simp⟩ ?_ ?_
 ·rintro i _ U k hi ⟨E,O⟩ aa;refine bC (by omega) ?_;obtain⟨y,W⟩:=aE (l:=l) hi;rw[a1 al.u ab.i (by kernel_rfl) (h.ext E) W];refine ag.mono (Y U y E (x2 W)) ?_;rintro _ V _ ⟨rfl,X⟩;rw[ca];refine⟨fun ac=>⟨E.trans X,.inr ⟨i,rfl,hi,O,fun x J=>by rw[W] at J;cases J;exact ac⟩⟩,fun ae=>?_⟩;rw[aB];refine aa _ _ ⟨E.trans X,fun x J=>?_⟩;rw[u5,W] at J;rcases p8.1 J with J|J
  ·exact O x J
  ·simp at J;subst J;exact ae
 ·rintro _ U k ⟨E,O⟩;rw[o5] at O;rw[aC,af];exact⟨fun h=>by omega,fun _=>⟨E,.inl ⟨rfl,O⟩⟩⟩
theorem J8 {g:Nat} {cap:Array y0} {p:Int→Bool} (h:ak .i64 e w g sv l) (a6:l.length≤100000000)
  (av:∀ w' x,ad (fun r=>leads sv r) w w'→x∈l→ag x5 dv (.int .i64 x::cap.toList) w' fun r aD=>r= .bool (p x)∧Ext w' aD):
  ag x5 BG [sv,.func (.func dv) #[] cap] w fun v w'=>ad (fun r=>leads sv r) w w'∧ak .i64 e w' g v (l.filter fun x=>!p x)∧ ∀ r,leads v r→leads sv r:=by
 refine ap func47 ?_;refine (J7 h.ls fun w' x J=>av w' x (J.U _)).mono ?_;rintro _ a7 _ ⟨X,⟨rfl,aj⟩|⟨i,rfl,hi,aj,aF⟩⟩
 ·rw[bc,af];refine⟨fun _=>⟨X.U _,?_⟩,fun h=>absurd rfl h⟩;rw[List.filter_eq_self.2 fun x J=>by rw[aj x J];rfl];exact⟨h.ext X,fun _ h=>h⟩
 rw[bc,af];refine⟨fun h=>by omega,fun _=>?_⟩;rw[aB,wrap_i64 (by omega) (by omega)];obtain⟨n,am⟩:∃ n,l.length=n:=⟨_,rfl⟩;obtain⟨O,rfl⟩:∃ O,sv= .slice (some ⟨g,0,none⟩) n O:=by
  obtain⟨_,⟨_,h1⟩|⟨O,cs,h1,_⟩⟩:=id h
  ·omega
  ·exact⟨O,by rw[h1,am]⟩
 obtain⟨_,_,_,_,a8,aG,_⟩:=oa h (by omega);have aw:∀ r,r=g→leads (.slice (some ⟨g,0,none⟩) n O) r:=fun r an=>⟨_,_,_,rfl,an.symm⟩;have aH:(l.take (i+1)).filter (fun x=>!p x)=l.take i:=by
  obtain⟨y,V⟩:=aE (l:=l) hi;rw[u5,V,List.filter_append,List.filter_eq_self.2 fun x J=>by rw[aj x J];rfl];simp[aF y V]
 refine⟨fun ao aq Y=>∃ (q j:Nat) (E:List Int),ao= .int .i64 (q:Int)∧aq= .int .i64 (j:Int)∧q<j∧j≤n∧ad (fun r=>r=g) w Y∧ak .i64 e Y g (.slice (some ⟨g,0,none⟩) n O) E∧E.length=n∧E.take q=(l.take j).filter (fun x=>!p x)∧ ∀ k,j≤k→E[k]? =l[k]?,
  fun _ aq _=>n-(bk aq).toNat,⟨i,i+1,l,rfl,rfl,by omega,by omega,X.U _,h.ext X,am,aH.symm,fun _ _=>rfl⟩,?_⟩
 rintro _ _ Y ⟨q,j,E,rfl,rfl,ba,bb,Z,aa,ax,W,au⟩;have bd:q=((l.take j).filter fun x=>!p x).length:=by rw[←W,o6];omega
 rw[fK al.u,aC,af];refine⟨fun aJ=>?_,fun be=>?_⟩
 ·have aJ:j<n:=by omega
  obtain⟨y,V⟩:=aE (l:=l) (i:=j) (by omega);have aK:E[j]? =some y:=by rw[au j (r9 _),V]
  refine aI (fun ao ac=>∃ (q:Nat) (E:List Int),ao= .int .i64 (q:Int)∧q<j+1∧ad (fun r=>r=g) w ac∧ak .i64 e ac g (.slice (some ⟨g,0,none⟩) n O) E∧E.length=n∧E.take q=(l.take (j+1)).filter (fun x=>!p x)∧ ∀ k,j+1≤k→E[k]? =l[k]?) ?_ ?_
  ·rintro _ ac ⟨q,E,rfl,h1,aL,aM,aN,aO,aP⟩;rw[aB,wrap_i64 (by omega) (by omega)];exact⟨⟨q,j+1,E,rfl,rfl,h1,by omega,aL,aM,aN,aO,aP⟩,by simp only[bk];omega⟩
  intro bf ay;rw[a1 al.u ab.i (by kernel_rfl) aa.ls aK];refine ag.mono (av Y y (Z.mono fun r _=>aw r) (x2 V)) ?_;rintro _ ac _ ⟨rfl,ah⟩;have az:(l.take (j+1)).filter (fun x=>!p x)=(l.take j).filter (fun x=>!p x)++[y].filter (fun x=>!p x):=by rw[u5,V,List.filter_append];rfl
  rw[bJ,ca];refine⟨fun aQ=>?_,fun ae=>?_⟩
  ·have aA:=aa.ext ah;rw[gn rfl al.u ab.i aA (by omega)];refine gp ab.i aA (by omega) fun bg aR bh aS=>?_;rw[aB,wrap_i64 (by omega) (by omega)];refine ay _ _ ⟨q+1,_,rfl,by omega,(Z.trans (ah.U _)).trans aR,aS,by simpa using ax,?_,fun k ai=>?_⟩
   ·rw[az,u5,V8 (by omega),List.take_set_of_le (r9 _),W];simp only[j5];rw[show[y].filter (fun x=>!p x)=[y] by simpa using aQ]
   ·rw[List.getElem?_set_ne (by omega)];exact au k (by omega)
  ·refine ay _ _ ⟨q,E,rfl,by omega,Z.trans (ah.U _),aa.ext ah,ax,?_,fun k ai=>au k (by omega)⟩;rw[az,show[y].filter (fun x=>!p x)=[] by simpa using ae,Y8];exact W
 ·have aT:j=n:=by omega
  subst aT;rw[←am,o5] at W;obtain⟨_,_,cs,aU,_,_,bi,aV⟩:=oa aa (by omega);simp only[maxLen] at aG;rw[fu al.u ab.i (l:=q) (h:=j) (m:=O) mb hp ea (by omega) (by omega) (by omega),if_neg (by omega)];have aW:X3 (fun x:Addr=>x.add (q*1)) (some ⟨g,0,none⟩)=some ⟨g,q,none⟩:=by simp[W7]
  rw[aW];refine wq al.u ab.i rfl rfl aU (by omega) (by omega) fun bj aX bl aY=>?_;rw[fu al.u ab.i (l:=0) (h:=q) (m:=O) ho mc ea (by omega) (by omega) (by omega),if_neg (by omega)];have aZ:X3 (fun x:Addr=>x.add (0*1)) (some ⟨g,0,none⟩)=some ⟨g,0,none⟩:=by simp[W7]
  rw[aZ];refine⟨(Z.trans aX).mono fun r _=>aw r,?_⟩;have bm:(l.filter fun x=>!p x).length=q:=by rw[←W,o6];omega
  rw[←W,Nat.sub_zero];refine⟨?_,fun r an=>by obtain⟨a,_,_,e,a2⟩:=an;cases e;exact⟨_,_,_,rfl,a2⟩⟩;refine ak.of (n:=q) ⟨by simp;omega,.inr ⟨O,_,by simp,aY,by omega,by simp only[maxLen];omega,by rw[kl];omega,?_⟩⟩;rw[V2];apply Y7;intro k;by_cases ai:k<q
  ·rw[c7 ai,k1 _ _ _ (by simp;omega),if_neg (by omega),ints,x7,c7 ai];have:(cs.take j)[k]? =(ints .i64 E)[k]?:=by rw[aV]
   rw[c7 (by omega),ints,x7] at this;exact this
  ·rw[c8 (by simp;omega),c8 (by simp;omega)]
def jX (s:aN) (i:Int) (j:Nat):Bool:=match s.funs[j]? with
 |some f=>decide (f.live≠0)&&decide (i∈f.sc)
 |none=>false
def gE (s:aN) (i:Int) (m:Nat):List Int:=((Z1 m).filter (jX s i)).map fun j:Nat=>(j:Int)
theorem J9 {A R:am} {n:aV} {s:aN} {t:aH} {i:Int} (h:cC w ao gT A R n s t):ag x5 BX [.pointer (some ⟨ao,0,none⟩),.int .i64 i] w fun v w'=>Ext w w'∧ ∃ g,ak .i64 ab w' g v (gE s i s.funs.length)∧ ∀ r,leads v r→w.heap.size≤r:=by
 have aW:=ot h.2.1 h.2.2.1;have aX:s.funs.length≤100000000:=by
  have h1:=ol s;have aj:∀ (L:List ep),L.length≤(L.flatMap ga).length:=fun L=>by
   induction L with
   |nil=>exact r9 _
   |cons a L aY=>rw[V1,u7,n9];have:(ga a).length=a.cs.length+1:=rfl;omega
  have aZ:=aj s.funs;omega
 refine ap func82 ?_;refine (ov h).mono ?_;rintro _ a1 _ ⟨rfl,an⟩;refine bO.range s.funs.length (fun j out V=>Ext w V∧ ∃ g,ak .i64 ab V g out (gE s i j)∧ ∀ r,leads out r→w.heap.size≤r) (by omega) ⟨an,0,ak.nil _ _ _ _,fun r X=>by obtain⟨a,n,c,aq,a2⟩:=X;cases aq⟩ ?_ ?_
 ·rintro j out V au aw ⟨J,g,hm,U⟩ ax;obtain⟨f,ae⟩:=aE (l:=s.funs) aw;have aa:gE s i (j+1)=if jX s i j=true then gE s i j++[(j:Int)] else gE s i j:=by
   unfold gE;rw[List.range_succ,List.filter_append];cases ay:jX s i j <;> simp[ay]
  refine bC (by omega) ?_;refine aI (fun out O=>Ext w O∧ ∃ g,ak .i64 ab O g out (gE s i (j+1))∧ ∀ r,leads out r→w.heap.size≤r) ?_ ?_
  ·rintro out O az;rw[aB];exact ax _ _ az
  intro a6 ac;refine aI (fun r O=>r= .bool (jX s i j)∧Ext V O) ?_ ?_
  ·rintro _ O ⟨rfl,E⟩;rw[ca];refine⟨fun aA=>?_,fun ae=>ac _ _ ⟨J.trans E,g,by rw[aa,if_neg (by rw[ae];decide)];exact hm.ext E,U⟩⟩;refine dM (k:=.i64) al.u ab.i rfl fun v4 a7 aG a8 W aJ=>?_;have ba:(gE s i j).length≤j:=by unfold gE;rw[r8];have:=List.length_filter_le (jX s i) (Z1 j);rw[List.length_range] at this;exact this
   refine gb al.u ab.i rfl ((hm.ext E).ext W) aJ.ls (by simp;omega) (by simp;omega) fun v5 aK aL aM aP aQ=>?_;have z3:=J.size;have aR:Ext w aL:=((J.trans E).trans W).then aQ fun r X he=>by have:=U r he;omega
   have z4:=((J.trans E).trans W).size;exact ac _ _ ⟨aR,aK,by rw[aa,if_pos aA];exact aM,fun r X=>(aP r X).elim (U r) fun h=>by omega⟩
  intro bb ad;refine (qO (j:=(j:Int)) (h.ext J)).mono ?_;rintro _ O _ ⟨rfl,E⟩;rw[decide_eq_true (by omega),Bool.true_and,j6];have aS:gD s j=decide (f.live≠0):=by unfold gD;rw[ae]
  rw[aS,af];refine⟨fun Y=>?_,fun Y=>ad _ _ ⟨by unfold jX;rw[ae];simp only;rw[decide_eq_false Y];rfl,E⟩⟩;obtain⟨bc,bd,be,bf,bg,bh,L,bi,aT,bj,bk,bl,ah,Z⟩:=(h.ext (J.trans E)).1.parts;obtain⟨y,ai⟩:∃ y,L[j]? =some y:=⟨_,x4 (by rw[Z.1];omega)⟩;obtain⟨aU,_,_⟩:=Z.2 j y f ai ae;rw[aD ch.p 3 aT rfl,cM rfl ew.u eL.i ah (by rw[Z.1];omega),aF eL.p rfl,av (v:=y.aO) (by kernel_rfl) (ah.range ai 0 _ rfl)];refine (J6 (x:=i) aU.ls).mono ?_;rintro _ aG _ ⟨rfl,W⟩;exact ad _ _ ⟨by unfold jX;rw[ae];simp only;rw[decide_eq_true Y,Bool.true_and],E.trans W⟩
 ·rintro out V au ⟨J,g,hm,U⟩;rw[aC,af];exact⟨fun h=>by omega,fun _=>⟨J,g,hm,U⟩⟩
def ow (s:aN) (j:Int):Bool:=match s.funs[j.toNat]? with
 |some f=>decide (f.sc.length=2)
 |none=>false
def iF (s:aN) (i:Int):List Int:=(gE s i s.funs.length).filter (ow s)
def h6 (n:aV) (s:aN) (i v j:Int):Int:=match s.funs[j.toNat]? with
 |some f=>match f.sc[(1-fi f.sc i).toNat]? with
  |some o=>match s.vars[o.toNat]? with
   |some x=>(eW n.k (cc x) (iE n s j.toNat (fi f.sc i) v o)).1
   |none=>0
  |none=>0
 |none=>0
def qR (n:aV) (s:aN) (i v:Int):Int:=(iF s i).foldl (fun c j=>min (c+h6 n s i v j) n.k) (fR n s i v)
theorem Aj {of:Int→Int} (O:0≤k) (h:∀ v∈l,0≤of v∧of v≤k):0≤(eW k l of).1∧(eW k l of).1≤k:=by
 unfold eW;have:∀ (l:List Int) (p:Int×Int),(0≤p.1∧p.1≤k)→(∀ v∈l,0≤of v∧of v≤k)→0≤(l.foldl (kH of) p).1∧(l.foldl (kH of) p).1≤k:=fun l=>by
  induction l with
  |nil=>exact fun p E _=>E
  |cons v l U=>
   intro p E J;refine U _ ?_ fun u hu=>J u (.tail _ hu);unfold kH;split
   ·exact J v (.head _)
   ·exact E
 exact this l (k,-1) ⟨O,Int.le_refl _⟩ h
theorem Ak {n:aV} {s:aN} {v o u:Int} (E:eF n.k n.sizes s):0≤iE n s j pos v o u∧iE n s j pos v o u≤n.k:=by
 have h1:=Ad (j:=j) (tl:=if pos=1 then[u,v] else[v,u]) E;have J:=qQ (i:=o) (v:=u) E;have O:=E.lD;unfold iE;omega
theorem Ka {n:aV} {s:aN} {i j:Int} (U:eF n.k n.sizes s) (O:j∈iF s i):0≤j∧ ∃ f,s.funs[j.toNat]? =some f∧f.live≠0∧i∈f.sc∧f.sc.length=2:=by
 unfold iF gE at O;obtain⟨h1,J⟩:=List.mem_filter.1 O;obtain⟨q,E,rfl⟩:=o8.1 h1;obtain⟨_,E⟩:=List.mem_filter.1 E;unfold jX at E;unfold ow at J;rw[j6] at J;cases ae:s.funs[q]? with
 |none=>rw[ae] at E;cases E
 |some f=>
  rw[ae] at E J;simp only[W0,decide_eq_true_eq] at E J;exact⟨by omega,f,by rw[j6];exact ae,E.1,E.2,J⟩
section
variable {w:x1} {ao gT:Nat} {A R:am} {n:aV} {s:aN} {t:aH}
theorem Kb {i v:Int} (E:eF n.k n.sizes s) (m:Nat):0≤((iF s i).take m).foldl (fun c j=>min (c+h6 n s i v j) n.k) (fR n s i v)∧((iF s i).take m).foldl (fun c j=>min (c+h6 n s i v j) n.k) (fR n s i v)≤n.k:=by
 have U:=E.lD;have J:∀ j,0≤h6 n s i v j∧h6 n s i v j≤n.k:=fun j=>by
  unfold h6;split
  ·split
   ·split
    ·exact Aj (by omega) fun u _=>Ak E
    ·omega
   ·omega
  ·omega
 have:∀ (l:List Int) (c:Int),(0≤c∧c≤n.k)→0≤l.foldl (fun c j=>min (c+h6 n s i v j) n.k) c∧l.foldl (fun c j=>min (c+h6 n s i v j) n.k) c≤n.k:=fun l=>by
  induction l with
  |nil=>exact fun c h=>h
  |cons j l O=>exact fun c h=>O (min (c+h6 n s i v j) n.k) (by have:=J j;omega)
 exact this _ _ (qQ E)
theorem Kc {i:Int} {aq au aw ax aQ:Nat} {X:y0} {cap:Array y0} (h:cC w ao gT A R n s t) (aR:Laid w) (h1:aa w aq l2 [.func (.func dv) #[] cap]) (aS:∀ l,mX w dv cap l (fR n s i)) (aT:aa w au al [X]) (ay:ak .i64 ab w aQ X (iF s i))
  (Y:aa w aw dy [.pointer (some ⟨ao,0,none⟩)]) (aU:aa w ax ab [.int .i64 i]) (l:List Int):
  mX w C2 #[.pointer (some ⟨aq,0,none⟩),.pointer (some ⟨au,0,none⟩),.pointer (some ⟨aw,0,none⟩),.pointer (some ⟨ax,0,none⟩)] l (qR n s i):=fun w' v Z ac=>by
 refine ap func197 ?_;rw[av (v:=.func (.func dv) #[] cap) (by kernel_rfl) ((h1.ext Z).cell (o:=0) rfl)];refine ag.mono (aS [v] w' v Z (.head _)) ?_;rintro _ aV _ ⟨rfl,az⟩;have ad:=Z.trans az;have ah:=ay.ext ad;obtain⟨_,_,_,bb⟩:=cL ah.ls;rw[av (v:=X) (by kernel_rfl) ((aT.ext ad).cell (o:=0) rfl),aK al.u ah.ls];have E:=h.2.2.2.1;refine bO.range (iF s i).length (fun q aJ V=>Ext aV V∧aJ= .int .i64 (((iF s i).take q).foldl (fun c j=>min (c+h6 n s i v j) n.k) (fR n s i v))) ah.ls.le ⟨Ext.refl _,rfl⟩ ?_ ?_
 ·rintro q _ V aW aX ⟨O,rfl⟩ aY;obtain⟨j,ai⟩:=aE (l:=(iF s i)) aX;obtain⟨bc,f,ae,bd,aZ,a2⟩:=Ka E (x2 ai);have aj:=(E.funs f (x2 ae)).1;have aA:fh f.sc:=s6 aj.up;obtain⟨p,aD⟩:=X1.1 aZ;have be:=(x3.1 aD).1;have aF:=sY aA aD;obtain⟨o,U⟩:=aE (l:=f.sc) (i:=(1-(p:Int)).toNat) (by omega);have bf:=E.vars;have bg:=aj.vars o (x2 U);have bh:=(aj.scope.1 o (x2 U)).1;obtain⟨y,aG⟩:=aE (l:=s.vars) (i:=o.toNat) (by omega);have aH:=ad.trans O;refine bC (by omega) ?_;rw[a1 al.u ab.i (by kernel_rfl) (ay.ext aH).ls ai];intro bi aI _ _;have J:=aH.trans aI;rw[av (v:=.pointer (some ⟨ao,0,none⟩)) (by kernel_rfl) ((Y.ext J).cell (o:=0) rfl),av (v:=.pointer (some ⟨ao,0,none⟩)) (by kernel_rfl) ((Y.ext J).cell (o:=0) rfl),av (v:=.int .i64 i) (by kernel_rfl) ((aU.ext J).cell (o:=0) rfl)];have aL:=kI (h.ext J) ae;rw[show ((j.toNat:Nat):Int)=j by omega] at aL;refine aL.mono ?_;rintro r bj _ ⟨W,bk,_,a6⟩;refine⟨.inl W,?_⟩;refine (qv (x:=i) a6.ls aA).mono ?_;rintro _ bl _ ⟨rfl,am⟩;refine⟨.inl (W.trans am),?_⟩;rw[aF];have an:=(J.trans W).trans am;have aM:=Ah (v:=v) (pos:=(p:Int)) (h.ext an) (aR.ext an) ae ⟨by omega,by omega⟩ a2 U aG;rw[show ((j.toNat:Nat):Int)=j by omega] at aM;refine aM.mono ?_;rintro _ bm _ ⟨aN,rfl⟩;have aO:=an.trans aN;have aP:h6 n s i v j=(eW n.k (cc y) (iE n s j.toNat (p:Int) v o)).1:=by
   unfold h6;rw[ae];simp only;rw[aF,U];simp only;rw[aG]
  rw[a8,ba,av (v:=.pointer (some ⟨ao,0,none⟩)) (by kernel_rfl) ((Y.ext aO).cell (o:=0) rfl),←aP];refine (Aa (h.ext aO) (Kb E q) (by rw[aP];exact Aj (by have:=E.lD;omega) fun u _=>Ak E)).mono ?_;rintro _ bn _ ⟨rfl,a7⟩;rw[aB];refine aY _ _ ⟨((((O.trans aI).trans W).trans am).trans aN).trans a7,?_⟩;rw[u5,ai,j5,List.foldl_append];rfl
 ·rintro _ V aW ⟨O,rfl⟩;rw[aC,af];refine⟨fun h=>by omega,fun _=>⟨?_,az.trans O⟩⟩;rw[o5];rfl
theorem Kd {i:Int} (h:cC w ao gT A R n s t) (aC:Laid w):ag x5 Ce [.pointer (some ⟨ao,0,none⟩),.int .i64 i] w fun r w'=>Ext w w'∧(ha n s i=false→r= .tuple #[.int .i64 0,.int .i64 (-1),.int .i64 1])∧
  ∀ x,ha n s i=true→s.vars[i.toNat]? =some x→r= .tuple #[.int .i64 (eW n.k (cc x) (qR n s i)).1,.int .i64 (eW n.k (cc x) (qR n s i)).2,.int .i64 0]:=by
 refine ap func118 ?_;refine a7 fun aT bA bB aU J=>?_;refine a7 fun aV V bC aD O=>?_;have J:aa V aT dy [.pointer (some ⟨ao,0,none⟩)]:=J.ext aD;have O:aa V aV ab [.int .i64 i]:=O;have au:=aU.trans aD;rw[av (v:=.pointer (some ⟨ao,0,none⟩)) (by kernel_rfl) (J.cell (o:=0) rfl),av (v:=.int .i64 i) (by kernel_rfl) (O.cell (o:=0) rfl)];refine (Ab (h.ext au)).mono ?_;rintro _ aW _ ⟨rfl,W⟩;have aw:=au.trans W;cases ac:ha n s i with
 |false=>
  rw[if_neg (by decide),bj,af];exact⟨fun _=>⟨aw,fun _=>rfl,fun _ h=>by cases h⟩,fun h=>absurd (by decide) h⟩
 |true=>
  obtain⟨aX,x,aE,_⟩:=tJ h.2.2.2.1 ac;rw[if_pos rfl,bj,af];refine⟨fun h=>absurd rfl h,fun _=>?_⟩;rw[av (v:=.pointer (some ⟨ao,0,none⟩)) (by kernel_rfl) ((J.ext W).cell (o:=0) rfl),av (v:=.int .i64 i) (by kernel_rfl) ((O.ext W).cell (o:=0) rfl)];refine (J9 (i:=i) (h.ext aw)).mono ?_;rintro aF ax _ ⟨aj,bD,aZ,aG⟩;have aI:=aw.trans aj;rw[hM];have aJ:=(J.ext W).ext aj;have a1:=(O.ext W).ext aj;have bE:=au.size;have z3:=W.size;have z4:=aj.size;have a2:(gE s i s.funs.length).length≤100000000:=by
   have h1:=(h.ext aI).2.2.1.1;have ay:=ol s;have bF:t.cells.length=s.cells.length:=by have:=congrArg V3 h.2.1;unfold aH.bH at this;rw[r8] at this;exact this
   have a6:∀ (L:List ep),L.length≤(L.flatMap ga).length:=fun L=>by
    induction L with
    |nil=>exact r9 _
    |cons a L bG=>rw[V1,u7,n9];have:(ga a).length=a.cs.length+1:=rfl;omega
   have bI:=a6 s.funs;unfold gE;rw[r8];have:=List.length_filter_le (jX s i) (Z1 s.funs.length);rw[List.length_range] at this;omega
  have low:∀ {Y:x1},ad (fun r=>leads aF r) ax Y→Ext w Y:=fun X=>aI.then X fun r bJ he=>by have:=aG r he;omega
  have az:∀ {Y:x1} {g:Nat} {e:u9} {cs:List y0},g<aW.heap.size→aa ax g e cs→ad (fun r=>leads aF r) ax Y→aa Y g e cs:=fun bK bb X=>bb.U X fun he=>by have:=aG _ he;omega
  have bL:=J.lt;have bM:=O.lt;refine (J8 (p:=fun j=>!ow s j) aZ a2 fun w' j X ak=>?_).mono ?_
  ·have ak:0≤j∧ ∃ f,s.funs[j.toNat]? =some f:=by
    unfold gE at ak;obtain⟨q,Z,rfl⟩:=o8.1 ak;obtain⟨Z,_⟩:=List.mem_filter.1 Z;have Z:=List.mem_range.1 Z;exact⟨by omega,_,x4 (by rw[j6];exact Z)⟩
   obtain⟨bN,f,ae⟩:=ak;refine ap func196 ?_;have bc:=low X;rw[av (v:=.pointer (some ⟨ao,0,none⟩)) (by kernel_rfl) ((az (by omega) aJ X).cell (o:=0) rfl)];have aL:=kI (h.ext bc) ae;rw[show ((j.toNat:Nat):Int)=j by omega] at aL;refine aL.mono ?_;rintro r aM _ ⟨bd,bO,_,ah⟩;rw[aK al.u ah.ls,bj];refine⟨?_,bd⟩;unfold ow;rw[ae];simp only;congr 1;by_cases ay:f.sc.length=2
   ·rw[decide_eq_true ay,decide_eq_false (by omega)];rfl
   ·rw[decide_eq_false ay,decide_eq_true (by omega)];rfl
  rintro be aM _ ⟨am,ah,_⟩;have bf:(gE s i s.funs.length).filter (fun j=>!!ow s j)=iF s i:=by unfold iF;congr 1;funext j;rw[Bool.not_not]
  rw[bf] at ah;have bh:=low am;have bi:=az (by omega) aJ am;have bk:=az (by omega) a1 am;refine bg al.i fun bP bQ bR aN bl=>?_;obtain⟨_,_,_,aO⟩:=cL ah.ls;have z5:=am.size;have bS:=aN.size;refine aY (v:=be) al.i (by rw[aO];rfl) (by rw[aO];rfl) bl (by decide) fun bm bn bT bo=>?_;have an:Ext aM bm:=aN.put bn (by omega);have aP:=bh.trans an;have aA:=bi.ext an;have aB:=bk.ext an;rw[av (v:=.pointer (some ⟨ao,0,none⟩)) (by kernel_rfl) (aA.cell (o:=0) rfl),av (v:=.int .i64 i) (by kernel_rfl) (aB.cell (o:=0) rfl)];refine (Af (i:=i) (h.ext aP)).mono ?_;rintro _ bp _ ⟨aQ,cap,rfl,bq⟩;refine bg l2.i fun go bU bV br bt=>?_;have bW:=aQ.size;refine aY (v:=.func (.func pm) #[] cap) l2.i rfl rfl bt (by decide) fun aR bu bX bw=>?_;have aS:Ext bp aR:=br.put bu (by omega);have E:=aQ.trans aS;have ai:=aP.trans E;rw[av (v:=.pointer (some ⟨ao,0,none⟩)) (by kernel_rfl) ((aA.ext E).cell (o:=0) rfl),av (v:=.int .i64 i) (by kernel_rfl) ((aB.ext E).cell (o:=0) rfl),hM];have bx:∀ l,mX aR pm cap l (fR n s i):=fun l w' v aq ac=>bq l w' v (aS.trans aq) ac;refine (tH (h.ext ai) (aC.ext ai) aX aE (Kc (h.ext ai) (aC.ext ai) bw bx (bo.ext E) (ah.ext (an.trans E)) (aA.ext E) (aB.ext E) _)).mono ?_;rintro _ bY _ ⟨bz,rfl⟩;rw[a8,ba];exact⟨ai.trans bz,(fun h=>by cases h),fun bZ _ aq=>by rw[aE] at aq;cases aq;rfl⟩
end
def cd (s:aN) (i:Int):List Int:=match s.vars[i.toNat]? with
 |some x=>cc x
 |none=>[]
def et (s:aN) (sc:List Int) (pos:Int):Nat→Nat→List Int→List (List Int)
 |0,_,tl=>[tl]
 |m+1,p,tl=>if (p:Int)=pos then et s sc pos m (p+1) tl else (cd s (sc.getD p 0)).flatMap fun v=>et s sc pos m (p+1) (tl.set p v)
def mZ (p:Nat) (pos:Int) (a b:List Int):Prop:=a.length=b.length∧ ∀ q:Nat,q<p∨(q:Int)=pos→a[q]? =b[q]?
theorem mZ.set {p:Nat} {a b:List Int} (h:mZ p pos a b) (E:(p:Int)≠pos) (v:Int):mZ (p+1) pos (a.set p v) (b.set p v):=by
 refine⟨by rw[X7,X7,h.1],fun q J=>?_⟩;rw[Y6,Y6,h.1];by_cases e:p=q
 ·rw[if_pos e,if_pos e]
 ·rw[if_neg e,if_neg e];exact h.2 q (by omega)
theorem tL {s:aN} {sc:List Int} {pos:Int}:∀ (m p:Nat) (a b:List Int),a.length=p+m→mZ p pos a b→et s sc pos m p a=et s sc pos m p b
 |0,p,a,b,O,h=>by
  unfold et;congr 1;refine Y7 fun q=>?_;by_cases E:q<p
  ·exact h.2 q (.inl E)
  ·rw[c8 (by omega),c8 (by have:=h.1;omega)]
 |m+1,p,a,b,O,h=>by
  unfold et;split
  ·rename_i J;refine tL m (p+1) a b (by omega) ⟨h.1,fun q E=>h.2 q ?_⟩;omega
  ·rename_i J;congr 1;funext v;exact tL m (p+1) _ _ (by rw[X7];omega) (h.set J v)
section
variable {ao gT:Nat} {A R:am} {n:aV} {s:aN} {t:aH}
set_option maxHeartbeats 1000000 in
theorem Ke {sc:List Int} {gt:Nat} {aO Y:y0} {cap:Array y0} {M:am} {I:List (List Int)→x1→Prop} (bJ:eF n.k n.sizes s) (bK:∀ u∈sc,0≤u∧u<n.sizes.length) (ci:sc.length≤6)
  (bi:∃ c,Y= .slice (some ⟨gt,0,none⟩) sc.length c) (bL:M gt) (aY:∀ d w,I d w→cC w ao gT A R n s t∧Laid w∧ay .i64 w aO sc∧ ∀ r,M r→r<w.heap.size) (J:∀ d w w',Ext w w'→I d w→I d w') (bM:∀ d w w',ad (fun r=>r=gt) w w'→I d w→I d w')
  (bN:∀ d tl w,I d w→ak .i64 ab w gt Y tl→tl.length=sc.length→ag x5 dv cap.toList w fun _ w'=>I (d++[tl]) w'∧ak .i64 ab w' gt Y tl∧ad M w w'):
  ∀ (m p:Nat) (tl:List Int) (d:List (List Int)) (w:x1),sc.length=p+m→tl.length=sc.length→I d w→ak .i64 ab w gt Y tl→
   ag x5 C6 [.pointer (some ⟨ao,0,none⟩),aO,Y,.int .i64 (p:Int),.int .i64 pos,.func (.func dv) #[] cap] w fun _ w'=>∃ aD,mZ p pos aD tl∧I (d++et s sc pos m p tl) w'∧ak .i64 ab w' gt Y aD∧ad M w w':=by
 intro m;induction m with
 |zero=>
  intro p tl d w bO aZ aF hm;obtain⟨bj,bk,aG,bl⟩:=aY d w aF;obtain⟨_,_,_,a2⟩:=cL aG;obtain⟨c,bm⟩:=id bi;refine iV func201 ?_;refine a7 fun bn bP bQ aS aH=>?_;refine a7 fun aL V bR aM W=>?_;refine a7 fun aT bS bT aw ax=>?_;refine a7 fun a6 bU bV ap X=>?_;refine a7 fun bo bW bX ai aI=>?_;refine a7 fun a8 E bY Z aq=>?_;have ae:=((((aS.trans aM).trans aw).trans ap).trans ai).trans Z;have W:aa E aL al [aO]:=by rw[a2] at W ⊢;exact (((W.ext aw).ext ap).ext ai).ext Z
  have X:aa E a6 ab [.int .i64 (p:Int)]:=(X.ext ai).ext Z;have aq:aa E a8 vE [.func (.func dv) #[] cap]:=aq;rw[av (v:=.int .i64 (p:Int)) (by kernel_rfl) (X.cell (o:=0) rfl),av (v:=aO) (by kernel_rfl) (W.cell (o:=0) rfl),aK al.u (aG.ext ae),bc,af];refine⟨fun _=>?_,fun h=>absurd (by omega) h⟩;rw[av (v:=.func (.func dv) #[] cap) (by kernel_rfl) (aq.cell (o:=0) rfl)];refine ag.mono (bN d tl E (J d w E ae aF) (hm.ext ae) aZ) ?_;rintro _ bp _ ⟨h1,ah,az⟩;intro bq aj _;exact⟨tl,⟨rfl,fun _ _=>rfl⟩,J _ _ _ aj h1,ah.ext aj,((ae.U M).trans az).trans (aj.U M)⟩
 |succ m br=>
  intro p tl d w bO aZ aF hm;obtain⟨bj,bk,aG,bl⟩:=aY d w aF;obtain⟨_,_,_,a2⟩:=cL aG;obtain⟨c,bm⟩:=id bi;refine iV func201 ?_;refine a7 fun bn bP bQ aS aH=>?_;refine a7 fun aL V bR aM W=>?_;refine a7 fun aT bS bT aw ax=>?_;refine a7 fun a6 bU bV ap X=>?_;refine a7 fun bo bW bX ai aI=>?_;refine a7 fun a8 E bY Z aq=>?_;have ae:=((((aS.trans aM).trans aw).trans ap).trans ai).trans Z;have aH:aa E bn dy [.pointer (some ⟨ao,0,none⟩)]:=((((aH.ext aM).ext aw).ext ap).ext ai).ext Z;have W:aa E aL al [aO]:=by rw[a2] at W ⊢;exact (((W.ext aw).ext ap).ext ai).ext Z
  have ax:aa E aT al [Y]:=by rw[bm] at ax ⊢;exact ((ax.ext ap).ext ai).ext Z
  have X:aa E a6 ab [.int .i64 (p:Int)]:=(X.ext ai).ext Z;have aI:aa E bo ab [.int .i64 pos]:=aI.ext Z;have aq:aa E a8 vE [.func (.func dv) #[] cap]:=aq;have aU:∀ {au:x1} {K:y0→Prop},aa au aL al [aO]→K aO→O x5 (x6 al (.pointer (some ⟨aL,0,none⟩))) au K:=fun aN ba=>by rw[av (v:=aO) (by kernel_rfl) (aN.cell (o:=0) rfl)];exact ba
  have bb:∀ {au:x1} {K:y0→Prop},aa au aT al [Y]→K Y→O x5 (x6 al (.pointer (some ⟨aT,0,none⟩))) au K:=fun aN ba=>by rw[av (v:=Y) (by kernel_rfl) (aN.cell (o:=0) rfl)];exact ba
  rw[av (v:=.int .i64 (p:Int)) (by kernel_rfl) (X.cell (o:=0) rfl)];refine aU W ?_;rw[aK al.u (aG.ext ae),bc,af];refine⟨fun h=>by omega,fun _=>?_⟩;rw[av (v:=.int .i64 (p:Int)) (by kernel_rfl) (X.cell (o:=0) rfl),av (v:=.int .i64 pos) (by kernel_rfl) (aI.cell (o:=0) rfl),bc,af];refine⟨fun he=>?_,fun bt=>?_⟩
  ·rw[av (v:=.pointer (some ⟨ao,0,none⟩)) (by kernel_rfl) (aH.cell (o:=0) rfl)];refine aU W (bb ax ?_);rw[av (v:=.int .i64 (p:Int)) (by kernel_rfl) (X.cell (o:=0) rfl),aB,wrap_i64 (by omega) (by omega),av (v:=.int .i64 pos) (by kernel_rfl) (aI.cell (o:=0) rfl),av (v:=.func (.func dv) #[] cap) (by kernel_rfl) (aq.cell (o:=0) rfl)];refine (br (p+1) tl d E (by omega) aZ (J d w E ae aF) (hm.ext ae)).mono ?_;rintro _ bp _ ⟨aD,h1,ah,az,aP⟩;intro bq aj _;refine⟨aD,⟨h1.1,fun q bu=>h1.2 q (by omega)⟩,?_,az.ext aj,((ae.U M).trans aP).trans (aj.U M)⟩;have:et s sc pos (m+1) p tl=et s sc pos m (p+1) tl:=by rw[et,if_pos he]
   rw[this];exact J _ _ _ aj ah
  intro bp aJ _ _;have bw:=ae.trans aJ;obtain⟨u,hu⟩:=aE (l:=sc) (i:=p) (by omega);obtain⟨bZ,cj⟩:=bK u (x2 hu);have ck:=bJ.vars;obtain⟨x,bx⟩:=aE (l:=s.vars) (i:=u.toNat) (by omega);have b1:cd s (sc.getD p 0)=cc x:=by unfold cd;rw[u4,hu,V4,bx]
  rw[av (v:=.pointer (some ⟨ao,0,none⟩)) (by kernel_rfl) ((aH.ext aJ).cell (o:=0) rfl)];refine aU (W.ext aJ) ?_;rw[av (v:=.int .i64 (p:Int)) (by kernel_rfl) ((X.ext aJ).cell (o:=0) rfl),a1 al.u ab.i (by kernel_rfl) (aG.ext bw) hu];refine (mV (i:=u) (bj.ext bw)).mono ?_;rintro _ bq _ ⟨⟨b,b2,rfl,bz⟩,aj⟩;refine (pO (b:=b) (n:=b2)).mono ?_;rintro _ aQ _ ⟨b3,bA,rfl,cl,bB⟩;have bC:=qP bz bZ bx;have bd:=(aJ.trans aj).trans b3;have aV:=ae.trans bd;have cm:=aS.size;have cn:=aM.size;have z3:=aw.size;have z4:=ap.size;have z5:=ai.size;have cp:=Z.size;have cq:=bd.size;have cr:=(aJ.trans aj).size;have out:∀ {r:Nat},w.heap.size≤r→¬M r:=fun h1 ah=>by have:=bl _ ah;omega
  have b4:∀ j v,(cc x)[j]? =some v→((cc x).take (j+1)).flatMap (fun v=>et s sc pos m (p+1) (tl.set p v))=((cc x).take j).flatMap (fun v=>et s sc pos m (p+1) (tl.set p v))++et s sc pos m (p+1) (tl.set p v):=fun j v bD=>by
   rw[u5,bD,j5,List.flatMap_append,List.flatMap_singleton]
  have b5:et s sc pos (m+1) p tl=(cc x).flatMap fun v=>et s sc pos m (p+1) (tl.set p v):=by rw[et,if_neg bt,b1]
  refine jz.old ⟨_,false,iQ,#[.pointer (some ⟨bA,0,none⟩)],_,_,_,_,fun j w'=>∃ an,mZ p pos an tl∧I (d++((cc x).take j).flatMap fun v=>et s sc pos m (p+1) (tl.set p v)) w'∧ak .i64 ab w' gt Y an∧ad M aQ w',fun _ _ _=>False,rfl,(pN (g:=bA) bz.1).s,?_,
   fun _ _ J h=>⟨h.1.ext J,h.2.ext J⟩,fun _ _ _ be ⟨an,h1,ah,az,aP⟩=>⟨an,h1,J _ _ _ be ah,az.ext be,aP.trans (be.U M)⟩,fun _ _ _ _ _ h=>h,⟨bB,bk.ext aV⟩,⟨tl,⟨rfl,fun _ _=>rfl⟩,by simpa using J d w aQ aV aF,hm.ext aV,ad.refl _ _⟩,?_,?_,fun _ _ h=>h.elim,fun _ _ _ h=>h.elim⟩
  ·rintro _ _ _ _ ⟨_,_,_,_,rfl⟩;rfl
  ·rintro _ j _ b6 ⟨_,_⟩ ⟨bD,rfl,v,ac,b7⟩ ⟨an,aR,aW,bf,bg⟩;cases b7;intro bE aA _ _;have b8:(cc x)[j]? =some (v:Int):=by rw[←bC,x7,ac];rfl
   have bh:ad M aQ bE:=bg.trans (aA.U M);have aX:∀ {au:x1} {g:Nat} {e:u9} {cs:List y0},ad M aQ au→w.heap.size≤g→aa E g e cs→aa au g e cs:=fun b9 ca aN=>(aN.ext bd).U b9 (out ca);have bF:=bf.ext aA;have cb:=aR.1;refine bb (aX bh (by omega) ax) ?_;rw[av (v:=.int .i64 (p:Int)) (by kernel_rfl) ((aX bh (by omega) X).cell (o:=0) rfl),gn rfl al.u ab.i bF (by omega)];refine gp ab.i bF (by omega) fun bG bH ct ce=>?_;have aC:ad M aQ bG:=bh.trans (bH.mono fun r _ h=>by have h:r=gt:=h;rw[h];exact bL);have cg:=bM _ _ _ bH (J _ _ _ aA aW);rw[av (v:=.pointer (some ⟨ao,0,none⟩)) (by kernel_rfl) ((aX aC (by omega) aH).cell (o:=0) rfl)];refine aU (aX aC (by omega) W) (bb (aX aC (by omega) ax) ?_);rw[av (v:=.int .i64 (p:Int)) (by kernel_rfl) ((aX aC (by omega) X).cell (o:=0) rfl),aB,wrap_i64 (by omega) (by omega),av (v:=.int .i64 pos) (by kernel_rfl) ((aX aC (by omega) aI).cell (o:=0) rfl),av (v:=.func (.func dv) #[] cap) (by kernel_rfl) ((aX aC (by omega) aq).cell (o:=0) rfl)];refine (br (p+1) (an.set p v) _ bG (by omega) (by rw[X7];omega) cg ce).mono ?_;rintro _ cu _ ⟨aD,h1,ah,az,aP⟩;have bI:=aC.trans aP;have hw:=tL (s:=s) (sc:=sc) m (p+1) (an.set p (v:Int)) (tl.set p (v:Int)) (by rw[X7];omega) (aR.set bt v);rw[hw,Y2,←b4 j v b8] at ah;refine⟨⟨bB.U bI (out (by omega)),(aY _ _ ah).2.1⟩,⟨aD,⟨by rw[h1.1,X7];exact cb,fun q bu=>?_⟩,ah,az,bI⟩,fun h=>by cases h⟩;have ch:p≠q:=by omega
   rw[h1.2 q (by omega),Y6,if_neg ch];exact aR.2 q bu
  ·rintro k b6 rfl ⟨an,aR,aW,bf,bg⟩;intro bE aA _;rw[Z0 (by rw[←bC,r8];exact r9 _),←b5] at aW;exact⟨an,aR,J _ _ _ aA aW,bf.ext aA,((aV.U M).trans bg).trans (aA.U M)⟩
end
def simpStep (of:List Int→Int) (p:Int×Option (List Int)) (tl:List Int):Int×Option (List Int):=if p.2=none∨of tl<p.1 then (of tl,some tl) else p
def fE (k:Int) (of:List Int→Int) (l:List (List Int)):Int×Option (List Int):=l.foldl (simpStep of) (k,none)
def h7 (w:x1) (B:Nat) (v:y0):Option (List Int)→Prop
 |none=>v= .slice none 0 0
 |some tl=>tl≠[]∧ ∃ g,B≤g∧ak .i64 ab w g v tl
theorem h7.U {o:Option (List Int)} {S:am} (h:h7 w B v o) (J:ad S w w') (O:∀ r,B≤r→r<w.heap.size→¬S r):h7 w' B v o:=by
 cases o with
 |none=>exact h
 |some tl=>
  obtain⟨h1,g,V,E⟩:=h;exact⟨h1,g,V,aZ E J fun r W=>by obtain⟨X,Y⟩:=bp E W;exact O r (by omega) (by omega)⟩
theorem h7.ext {o:Option (List Int)} (h:h7 w B v o) (J:Ext w w'):h7 w' B v o:=h.U (J.U fun _=>False) fun _ _ _ h=>h
theorem h7.one {o:Option (List Int)} (h:h7 w B v o):∃ a n c,v= .slice a n c:=by
 cases o with
 |none=>exact⟨none,0,0,h⟩
 |some tl=>
  obtain⟨_,g,_,E⟩:=h;exact cL E.ls
def Kf (n:aV) (s:aN) (B:Nat) (w':x1) (j pos v:Int) (r:y0):Prop:=((¬∃ f u x,hD s j pos v f u x)→r= .tuple #[.int .i64 0,.slice none 0 0,.int .i64 1])∧ ∀ f u x,hD s j pos v f u x→
 ∃ E,r= .tuple #[.int .i64 (fE n.k (dI s j.toNat) (et s f.sc pos f.sc.length 0 ((u6 f.sc.length 0).set pos.toNat v))).1,E,.int .i64 0]∧h7 w' B E (fE n.k (dI s j.toNat) (et s f.sc pos f.sc.length 0 ((u6 f.sc.length 0).set pos.toNat v))).2
section
variable {w:x1} {ao gT:Nat} {A R:am} {n:aV} {s:aN} {t:aH}
set_option maxHeartbeats 1000000 in
theorem Kg {j v:Int} (h:cC w ao gT A R n s t) (bU:Laid w) (cM:∀ r,A r∨R r→r<w.heap.size):ag x5 Cf [.pointer (some ⟨ao,0,none⟩),.int .i64 j,.int .i64 pos,.int .i64 v] w fun r w'=>Ext w w'∧Kf n s w.heap.size w' j pos v r:=by
 refine ap func119 ?_;refine a7 fun bV cN cO bW aA=>?_;refine a7 fun bX V cP bq aB=>?_;have aA:aa V bV dy [.pointer (some ⟨ao,0,none⟩)]:=aA.ext bq;have aB:aa V bX ab [.int .i64 j]:=aB;have aU:=bW.trans bq;rw[av (v:=.pointer (some ⟨ao,0,none⟩)) (by kernel_rfl) (aA.cell (o:=0) rfl),av (v:=.int .i64 j) (by kernel_rfl) (aB.cell (o:=0) rfl)];refine (Ag (h.ext aU)).mono ?_;rintro _ cQ _ ⟨aL,e,rfl,he,br⟩;have aV:=aU.trans aL;rw[bj,af];refine⟨fun aM=>⟨aV,fun _=>by rw[he.resolve_left aM],fun f u x ac=>absurd (br.2 ⟨f,u,x,ac⟩) aM⟩,fun bY=>?_⟩;obtain⟨f,u,x,ac⟩:=br.1 (Z6.1 bY);have az:=aA.ext aL;have bt:=aB.ext aL;rw[av (v:=.pointer (some ⟨ao,0,none⟩)) (by kernel_rfl) (az.cell (o:=0) rfl),av (v:=.int .i64 j) (by kernel_rfl) (bt.cell (o:=0) rfl)];have bu:=kI (h.ext aV) ac.ae;have cR:=ac.tK;rw[show ((j.toNat:Nat):Int)=j by omega] at bu;refine bu.mono ?_;rintro aO bZ _ ⟨aN,cS,cT,aP⟩;have b1:=aV.trans aN;obtain⟨aW,_,cU⟩:=h.2.2.2.1.funs f (x2 ac.ae);have b2:f.sc.length≤6:=aW.scope.2;obtain⟨m,hm⟩:∃ m,m=f.sc.length:=⟨_,rfl⟩;rw[aK al.u aP.ls,←hm];refine ih (k:=.i64) al.u ab.i (by omega) (by omega) fun gt bw cV bx bA=>?_;have bB:ak .i64 ab bw gt (.slice (some ⟨gt,0,none⟩) m m) (u6 m 0):=ak.of (n:=m) (bz.full (by simpa using bA) (by simp) (by simp[maxLen];omega));refine bg al.i fun cW cX cY bC b3=>?_;have cZ:=aU.size;have z3:=aL.size;have z4:=aN.size;have z5:=bx.size;have c0:=bC.size;refine aY (v:=.slice (some ⟨gt,0,none⟩) m m) al.i rfl rfl b3 (by decide) fun b4 b5 c1 aX=>?_;have aQ:Ext bw b4:=bC.put b5 (by omega);have c2:=(x3.1 ac.hu).1;have c3:=ac.mY;rw[av (v:=.slice (some ⟨gt,0,none⟩) m m) (by kernel_rfl) (aX.cell (o:=0) rfl),gn (i:=pos.toNat) (by omega) al.u ab.i (bB.ext aQ) (by simp;omega)];refine gp ab.i (bB.ext aQ) (by simp;omega) fun b6 bD b7 b8=>?_;have c4:=bA.lt;have c5:=aQ.size;have aD:Ext bZ b6:=(bx.trans aQ).put bD (by omega);have bE:=b1.trans aD;have bF:=(az.ext aN).ext aD;have b9:=(bt.ext aN).ext aD;have cb:=aX.U bD (by omega);rw[av (v:=.pointer (some ⟨ao,0,none⟩)) (by kernel_rfl) (bF.cell (o:=0) rfl)];refine (ou (h.ext bE)).mono ?_;rintro _ cc _ ⟨rfl,bG⟩;refine bg aj.i fun aE c6 c7 bH bI=>?_;refine aY (v:=.int .i64 n.k) aj.i rfl rfl bI (by decide) fun c8 cd c9 ce=>?_;have da:=b7;have z9:=bG.size;have db:=bH.size;have dc:=bI.lt;refine bg al.i fun aF ah dd a1 aR=>?_;have aR:aa ah aF al [.slice none 0 0]:=aR;have cg:Ext cc ah:=(bH.then cd fun r Z he=>by have he:r=aE:=he;omega).trans a1;have aq:=bG.trans cg;have bJ:=bE.trans aq;have bK:=bF.ext aq;have ch:=b9.ext aq;have bL:=cb.ext aq;have ci:=b8.ext aq;have cj:=ce.ext a1;have de:=aR.lt;have df:=aX.lt;have dg:=aA.lt;have dh:=aB.lt;have z12:=a1.size;have di:=bJ.size;rw[av (v:=.pointer (some ⟨ao,0,none⟩)) (by kernel_rfl) (bK.cell (o:=0) rfl),av (v:=.slice (some ⟨gt,0,none⟩) m m) (by kernel_rfl) (bL.cell (o:=0) rfl),hM];obtain⟨M,ck⟩:∃ M:am,M=fun r=>r=gt∨r=aE∨r=aF:=⟨_,rfl⟩;have au:∀ r,M r↔r=gt∨r=aE∨r=aF:=fun r=>by rw[ck]
 have a2:∀ r,M r→w.heap.size≤r∧r<ah.heap.size:=fun r Z=>by rcases (au r).1 Z with rfl|rfl|rfl <;> omega
 have dj:ay .i64 ah aO f.sc:=aP.ls.ext (aD.trans aq);have aS:∀ {bM:x1},ad M ah bM→Ext w bM:=fun E=>bJ.then E fun r Z he=>by have:=a2 r he;omega
 have cl:∀ r,leads aO r→¬M r:=fun r Z he=>by
  obtain⟨dk,cm⟩:=bp aP Z;rcases (au r).1 he with W|W|W <;> omega
 let I:List (List Int)→x1→Prop:=fun d w'=>ad M ah w'∧aa w' aE aj [.int .i64 (fE n.k (dI s j.toNat) d).1]∧ ∃ X,aa w' aF al [X]∧h7 w' ah.heap.size X (fE n.k (dI s j.toNat) d).2;have step:∀ d tl,fE n.k (dI s j.toNat) (d++[tl])=simpStep (dI s j.toNat) (fE n.k (dI s j.toNat) d) tl:=fun d tl=>by unfold fE;rw[List.foldl_append];rfl
 have bN:=h.2.2.2.1;have dl:=bN.vars;refine (Ke (gT:=gT) (sc:=f.sc) (pos:=pos) (gt:=gt) (M:=M) (I:=I) (A:=A) (R:=R) (t:=t) (n:=n) bN (fun u hu=>⟨(aW.scope.1 u hu).1,aW.vars u hu⟩) b2 ⟨m,by rw[hm]⟩ ((au _).2 (.inl rfl)) ?_ ?_ ?_ ?_ f.sc.length 0 ((u6 m 0).set pos.toNat v) [] ah (by omega) (by rw[X7,List.length_replicate,hm]) ?_ ci).mono ?_
 ·rintro d w' ⟨E,ai,_⟩;refine⟨h.ext (aS E),bU.ext (aS E),(aZ (aP.ext (aD.trans aq)) E fun r Z=>cl r Z).ls,fun r Z=>?_⟩;have:=(a2 r Z).2;have:=E.size;omega
 ·rintro d w' cn J ⟨E,ai,X,aw,Y⟩;exact⟨E.trans (J.U M),ai.ext J,X,aw.ext J,Y.ext J⟩
 ·rintro d w' cn aT ⟨E,ai,X,aw,Y⟩;have z:=E.size;exact⟨E.trans (aT.mono fun r _ he=>(au r).2 (.inl he)),ai.U aT (by omega),X,aw.U aT (by omega),Y.U aT fun r Z _ he=>by have he:r=gt:=he;omega⟩
 ·rintro d tl w' ⟨E,ai,X,aw,Y⟩ bO a6;refine ap func202 ?_;have cp:=aS E;have bb:∀ {r:Nat},r≠gt→r≠aE→r≠aF→¬M r:=fun a b c he=>by rcases (au _).1 he with W|W|W <;> omega
  have cq:=bK.U E (bb (by omega) (by omega) (by omega));have cr:=ch.U E (bb (by omega) (by omega) (by omega));have bP:=bL.U E (bb (by omega) (by omega) (by omega));rw[av (v:=.pointer (some ⟨ao,0,none⟩)) (by kernel_rfl) (cq.cell (o:=0) rfl),av (v:=.int .i64 j) (by kernel_rfl) (cr.cell (o:=0) rfl),av (v:=.slice (some ⟨gt,0,none⟩) m m) (by kernel_rfl) (bP.cell (o:=0) rfl),show j=((j.toNat:Nat):Int) by omega];refine Ae (h.ext cp) bO.ls fun cm bQ an=>?_;rw[a8,ba];have ct:=E.trans (an.U M);have az:=ai.ext an;have bc:=aw.ext an;have cu:=Y.ext an;obtain⟨dm,fn,dn,bd⟩:=Y.one;have be:=bO.ext an;refine aI (fun r bf=>r= .bool (decide ((fE n.k (dI s j.toNat) d).2=none∨dI s j.toNat tl<(fE n.k (dI s j.toNat) d).1))∧Ext bQ bf) ?_ ?_
  ·rintro _ bf ⟨rfl,O⟩;have bh:=ct.trans (O.U M);rw[af];refine⟨fun cw=>?_,fun bi=>?_⟩
   ·rw[av (v:=.slice (some ⟨gt,0,none⟩) m m) (by kernel_rfl) (((bP.ext an).ext O).cell (o:=0) rfl)];rw[←hm] at a6;refine (ij (be.ext O).ls (by omega)).mono ?_;rintro aJ cz _ ⟨aG,cA,dp,bk⟩;obtain⟨_,_,_,bR⟩:=cL bk.ls;have cB:=bh.trans (aG.U M);have dq:=bh.size;refine aY (v:=.int .i64 (dI s j.toNat tl)) aj.i rfl rfl ((az.ext O).ext aG) (by simp) fun dr bl ds cD=>?_;refine aY (v:=aJ) al.i (by rw[bR];rfl) (by rw[bR];rfl) (((bc.ext O).ext aG).U bl (by omega)) (by simp) fun cE bm dt cF=>?_;have bn:ad M cz cE:=(bl.mono fun r _ he=>(au r).2 (.inr (.inl he))).trans (bm.mono fun r _ he=>(au r).2 (.inr (.inr he)));have aH:fE n.k (dI s j.toNat) (d++[tl])=(dI s j.toNat tl,some tl):=by rw[step];unfold simpStep;rw[if_pos cw]
    refine⟨⟨cB.trans bn,?_,aJ,cF,?_⟩,?_,?_⟩
    ·rw[aH];exact cD.U bm (by omega)
    ·rw[aH];refine⟨fun W=>by rw[W] at a6;simp at a6;omega,cA,by omega,aZ bk bn fun r Z he=>?_⟩;obtain⟨du,dv⟩:=bp bk Z;have:=(a2 r he).2;omega
    ·exact ((((be.ext O).ext aG).U bl (by omega)).U bm (by omega))
    ·exact ((an.U M).trans (O.U M)).trans ((aG.U M).trans bn)
   ·have aH:fE n.k (dI s j.toNat) (d++[tl])=fE n.k (dI s j.toNat) d:=by rw[step];unfold simpStep;rw[if_neg bi]
    refine⟨⟨bh,?_,X,bc.ext O,?_⟩,be.ext O,(an.U M).trans (O.U M)⟩
    ·rw[aH];exact az.ext O
    ·rw[aH];exact cu.ext O
  intro dw bS;rw[av (v:=X) (by kernel_rfl) (bc.cell (o:=0) rfl),bd,ma al.u];cases ax:(fE n.k (dI s j.toNat) d).2 with
  |none=>
   rw[ax] at Y;have:X= .slice none 0 0:=Y;rw[bd] at this;cases this;rw[ca];exact⟨fun _=>bS _ _ ⟨by rw[decide_eq_true (.inl ax)],Ext.refl _⟩,fun W=>by cases W⟩
  |some dx=>
   rw[ax] at Y;obtain⟨aM,dz,_,cG⟩:=Y;obtain⟨_,⟨rfl,W⟩|⟨dA,_,bT,_⟩⟩:=cG
   ·exact absurd (o9 W) aM
   rw[bd] at bT;cases bT;rw[ca];refine⟨fun W=>by simp at W,fun _=>?_⟩;rw[av (v:=.int .i64 (fE n.k (dI s j.toNat) d).1) (by kernel_rfl) (az.cell (o:=0) rfl),aC];refine bS _ _ ⟨?_,Ext.refl _⟩;congr 1;exact decide_eq_decide.2 ⟨.inr,fun W=>W.resolve_left (by rw[ax];simp)⟩
 ·exact⟨ad.refl _ _,cj,_,aR,rfl⟩
 rintro _ bQ _ ⟨dC,_,⟨E,ai,X,aw,Y⟩,_,_⟩;intro bf O _ _;rw[av (v:=.int .i64 (fE n.k (dI s j.toNat) ([]++et s f.sc pos f.sc.length 0 ((u6 m 0).set pos.toNat v))).1) (by kernel_rfl) ((ai.ext O).cell (o:=0) rfl),av (v:=X) (by kernel_rfl) ((aw.ext O).cell (o:=0) rfl)];refine⟨(aS E).trans O,fun bi=>absurd ⟨f,u,x,ac⟩ bi,fun bo dD dE cH=>?_⟩;obtain⟨rfl,_⟩:=ac.same cH;rw[List.nil_append,hm] at Y ⊢;refine⟨X,rfl,?_⟩;have:=Y.ext O;cases ax:(fE n.k (dI s j.toNat) (et s bo.sc pos bo.sc.length 0 ((u6 bo.sc.length 0).set pos.toNat v))).2 with
 |none=>rw[ax] at this;exact this
 |some tl=>rw[ax] at this;obtain⟨cI,cJ,dF,cK⟩:=this;exact⟨cI,cJ,by omega,cK⟩
end
structure cG where
 ee:Int
 i:Int
 j:Int
 v:Int
def eI (a:cG):List y0:=[.int .i64 a.ee,.int .i64 a.i,.int .i64 a.j,.int .i64 a.v]
def fo (c:Prop) [Decidable c] (a:cG):List cG:=if c then[a] else[]
theorem iG {c:Prop} [Decidable c] {a:cG}:(fo c a).length≤1:=by
 unfold fo;split <;> simp
theorem ox {c:Prop} [Decidable c] {a b:cG} (h:b∈fo c a):c∧b=a:=by
 unfold fo at h;split at h
 ·rename_i E;exact⟨E,p9.1 h⟩
 ·cases h
def m4 (n:aV) (s:aN) (i:Int):Int×Int:=eW n.k (cd s i) (fR n s i)
def m7 (n:aV) (s:aN) (i:Int):Int×Int:=eW n.k (cd s i) (qR n s i)
def gF (n:aV) (s:aN) (i v:Int):List cG:=fo (min (s.zero+fR n s i v) n.k=n.k) ⟨1,i,-1,v⟩
def jY (n:aV) (s:aN) (i:Int):List cG:=fo (0<(m4 n s i).1∨(m4 n s i).2<0) ⟨1,i,-1,-1⟩
def oy (n:aV) (s:aN) (i:Int):List cG:=fo (0<(m7 n s i).1∨(m7 n s i).2<0) ⟨4,i,-1,-1⟩
def jr (n:aV) (s:aN) (i:Int):List cG:=if ha n s i=true then jY n s i++((cd s i).flatMap (gF n s i)++oy n s i) else[]
def kJ (n:aV) (s:aN) (m:Nat):List cG:=(Z1 m).flatMap fun i:Nat=>jr n s (i:Int)
def oz (n:aV) (s:aN) (j:Nat) (f:ep) (p:Nat) (v:Int):Int×Option (List Int):=fE n.k (dI s j) (et s f.sc p f.sc.length 0 ((u6 f.sc.length 0).set p v))
def qS (n:aV) (s:aN) (j:Nat) (f:ep) (v:Int):Int×Int:=eW n.k (cd s (f.sc.getD 1 0)) (iE n s j 0 v (f.sc.getD 1 0))
def eJ (n:aV) (s:aN) (j:Nat) (f:ep) (p:Nat) (i v:Int):List cG:=fo (0<(oz n s j f p v).1∨(oz n s j f p v).2=none) ⟨2,i,j,v⟩
def fF (n:aV) (s:aN) (j:Nat) (f:ep) (p:Nat) (i v:Int):List cG:=fo (f.sc.length=2∧p=0∧0<(qS n s j f v).1) ⟨3,i,j,v⟩
def hb (n:aV) (s:aN) (j:Nat) (f:ep) (p:Nat):List cG:=(cd s (f.sc.getD p 0)).flatMap fun v=>eJ n s j f p (f.sc.getD p 0) v++fF n s j f p (f.sc.getD p 0) v
def jZ (n:aV) (s:aN) (j:Nat):List cG:=match s.funs[j]? with
 |some f=>if f.live≠0 then (Z1 f.sc.length).flatMap (hb n s j f) else[]
 |none=>[]
def kK (n:aV) (s:aN) (m:Nat):List cG:=(Z1 m).flatMap (jZ n s)
def lL (n:aV) (s:aN):List cG:=kJ n s n.sizes.length++kK n s s.funs.length
def j0 (n:aV) (s:aN) (level:Int):List cG:=(lL n s).filter fun a=>decide (a.ee≤level)
theorem js {α β:Type} {f:α→List β} {k:Nat}:∀ {l:List α},(∀ a∈l,(f a).length≤k)→(l.flatMap f).length≤k*l.length
 |[],_=>by simp
 |a::l,h=>by
  have h1:=h a (.head _);have J:=js fun b E=>h b (.tail _ E);rw[V1,u7,n9,Nat.mul_add];omega
theorem qT {s:aN} {i:Int} (E:eF k sizes s):(cd s i).length≤32:=by
 unfold cd;split
 ·rename_i x J;have U:=(x3.1 J).1;have V:=E.vars;obtain⟨z,O⟩:=aE (l:=sizes) (i:=i.toNat) (by omega);have h1:=(E.var _ x z J O).1;have W:=E.jk.2.2 z (x2 O);have X:(cc x).length≤x.un.length:=by
   unfold cc;refine Z3 (List.length_filter_le _ _) ?_;rw[r8,List.length_range];exact r9 _
  omega
 ·simp
section
variable {k:Int} {n:aV} {s:aN}
theorem Kh {i:Int} (E:eF n.k n.sizes s):(jr n s i).length≤34:=by
 unfold jr;split
 ·have h1:(jY n s i).length≤1:=iG;have J:(oy n s i).length≤1:=iG;have O:=js (l:=cd s i) (f:=gF n s i) (k:=1) fun v _=>iG;have U:=qT (i:=i) E;rw[u7,u7];omega
 ·simp
theorem Al (E:eF n.k n.sizes s):(kJ n s m).length≤34*m:=by
 have:=js (l:=Z1 m) (f:=fun i:Nat=>jr n s (i:Int)) (k:=34) fun v _=>Kh E;rw[List.length_range] at this;exact this
theorem Am {p:Nat} {f:ep} (E:eF n.k n.sizes s):(hb n s j f p).length≤64:=by
 have h1:=js (l:=cd s (f.sc.getD p 0)) (f:=fun v=>eJ n s j f p (f.sc.getD p 0) v++fF n s j f p (f.sc.getD p 0) v) (k:=2) fun v _=>by
  have h1:(eJ n s j f p (f.sc.getD p 0) v).length≤1:=iG;have J:(fF n s j f p (f.sc.getD p 0) v).length≤1:=iG;rw[u7];omega
 have J:=qT (i:=f.sc.getD p 0) E;unfold hb;omega
theorem Ki (E:eF n.k n.sizes s):(jZ n s j).length≤384:=by
 unfold jZ;split
 ·rename_i f ae;split
  ·have h1:=js (l:=Z1 f.sc.length) (f:=hb n s j f) (k:=64) fun v _=>Am E;have J:f.sc.length≤6:=(E.funs f (x2 ae)).1.scope.2;rw[List.length_range] at h1;omega
  ·simp
 ·simp
theorem An (E:eF n.k n.sizes s):(kK n s m).length≤384*m:=by
 have:=js (l:=Z1 m) (f:=jZ n s) (k:=384) fun v _=>Ki E;rw[List.length_range] at this;exact this
theorem tM {α:Type} {f:Nat→List α} (m:Nat):(Z1 (m+1)).flatMap f=(Z1 m).flatMap f++f m:=by
 rw[List.range_succ,List.flatMap_append,List.flatMap_singleton]
def oA (n:aV) (s:aN) (a:cG):Prop:=(1≤a.ee∧a.ee≤4)∧(0≤a.i∧a.i<100)∧(-1≤a.j∧a.j<s.funs.length)∧ -1≤a.v∧a.v<32
theorem Ao {i v:Int} (E:eF n.k n.sizes s) (h:v∈cd s i):0≤v∧v<32:=by
 unfold cd at h;split at h
 ·rename_i x J;have U:=(x3.1 J).1;have V:=E.vars;obtain⟨z,O⟩:=aE (l:=n.sizes) (i:=i.toNat) (by omega);have h1:=(E.var _ x z J O).1;have W:=E.jk.2.2 z (x2 O);have X:=Ac h;omega
 ·cases h
theorem Kj {a:cG} (E:eF n.k n.sizes s) (h:a∈lL n s):oA n s a:=by
 have V:=E.jk.2.1;unfold lL at h;rcases p8.1 h with h|h
 ·unfold kJ at h;obtain⟨i,hi,h⟩:=List.mem_flatMap.1 h;have hi:=List.mem_range.1 hi;unfold jr at h;split at h
  ·rcases p8.1 h with h|h
   ·obtain⟨_,rfl⟩:=ox h;exact⟨by simp,by simp only;omega,by simp only;omega,by simp⟩
   ·rcases p8.1 h with h|h
    ·obtain⟨v,ac,h⟩:=List.mem_flatMap.1 h;obtain⟨_,rfl⟩:=ox h;have:=Ao E ac;exact⟨by simp,by simp only;omega,by simp only;omega,by simp only;omega⟩
    ·obtain⟨_,rfl⟩:=ox h;exact⟨by simp,by simp only;omega,by simp only;omega,by simp⟩
  ·cases h
 ·unfold kK at h;obtain⟨j,O,h⟩:=List.mem_flatMap.1 h;have O:=List.mem_range.1 O;unfold jZ at h;split at h
  ·rename_i f ae;split at h
   ·obtain⟨p,J,h⟩:=List.mem_flatMap.1 h;have J:=List.mem_range.1 J;unfold hb at h;obtain⟨v,ac,h⟩:=List.mem_flatMap.1 h;have W:=Ao E ac;have U:=(E.funs f (x2 ae)).1;have hu:f.sc.getD p 0∈f.sc:=by rw[u4,x4 J,V4];exact U6 J
    have h1:=(U.scope.1 _ hu).1;have X:=U.vars _ hu;rcases p8.1 h with h|h
    ·obtain⟨_,rfl⟩:=ox h;exact⟨by simp,by simp only;omega,by simp only;omega,by simp only;omega⟩
    ·obtain⟨_,rfl⟩:=ox h;exact⟨by simp,by simp only;omega,by simp only;omega,by simp only;omega⟩
   ·cases h
  ·cases h
def m8 (a:cG):Int:=((a.ee*100+a.i)*200000000+(a.j+1))*100+(a.v+1)
def eu (a b:Int):Int:=if a<b then-1 else if b<a then 1 else 0
def m9 (a b:cG):Int:=if eu a.ee b.ee≠0 then eu a.ee b.ee else if eu a.i b.i≠0 then eu a.i b.i else if eu a.j b.j≠0 then eu a.j b.j else eu a.v b.v
theorem qU (a b:Int):(eu a b= -1∧a<b)∨(eu a b=1∧b<a)∨(eu a b=0∧a=b):=by
 unfold eu;by_cases h:a<b
 ·rw[if_pos h];exact .inl ⟨rfl,h⟩
 ·rw[if_neg h];by_cases E:b<a
  ·rw[if_pos E];exact .inr (.inl ⟨rfl,E⟩)
  ·rw[if_neg E];exact .inr (.inr ⟨rfl,by omega⟩)
theorem Kk {a b:cG} (aa:s.funs.length≤100000000) (Y:oA n s a) (Z:oA n s b):m9 a b<0↔m8 a<m8 b:=by
 obtain⟨ab,ac,a3,a4⟩:=Y;obtain⟨ad,ae,af,ag⟩:=Z;unfold m9 m8;rcases qU a.ee b.ee with⟨E,h1⟩|⟨E,h1⟩|⟨E,h1⟩ <;> rw[E]
 ·rw[if_pos (by decide)];omega
 ·rw[if_pos (by decide)];omega
 rw[if_neg (by decide)];rcases qU a.i b.i with⟨J,V⟩|⟨J,V⟩|⟨J,V⟩ <;> rw[J]
 ·rw[if_pos (by decide)];omega
 ·rw[if_pos (by decide)];omega
 rw[if_neg (by decide)];rcases qU a.j b.j with⟨O,W⟩|⟨O,W⟩|⟨O,W⟩ <;> rw[O]
 ·rw[if_pos (by decide)];omega
 ·rw[if_pos (by decide)];omega
 rw[if_neg (by decide)];rcases qU a.v b.v with⟨U,X⟩|⟨U,X⟩|⟨U,X⟩ <;> rw[U] <;> omega
end
theorem Kl {g n c:Nat} {cs:List y0} (E:aa w g b4 cs) (U:∀ w',ad (fun r=>r=g) w w'→(∀ o vs,w.rangeAt g o vs→w'.rangeAt g o vs)→K (.slice (some ⟨g,0,none⟩) n c) w'):
  aw x5 (convert b5 b5 (.slice (some ⟨g,0,none⟩) n c)) w K:=by
 have O:∀ r,(w.freeze ⟨g,cs.length,none⟩ 1).heap[r]? =if g=r then (w.heap[r]?).map (fun| .cells c V (lo,hi)=>.cells c V (if lo == hi then (cs.length,cs.length+1) else (min lo cs.length,max hi (cs.length+1)))|o=>o) else w.heap[r]?:=fun r=>by
  unfold x1.freeze;rw[if_neg (by decide)];exact Array.getElem?_modify
 have ae:(w.freeze ⟨g,cs.length,none⟩ 1).heap.size=w.heap.size:=by
  unfold x1.freeze;rw[if_neg (by decide)];exact Array.size_modify
 have W:w.shape? g=some (b4,cs.length):=by
  unfold x1.shape?;unfold aa at E;rw[E];simp
 have X:(convert b5 b5 (.slice (some ⟨g,0,none⟩) n c)).run x5 w= .ok (.slice (some ⟨g,0,none⟩) n c) (w.freeze ⟨g,cs.length,none⟩ 1):=by
  simp[convert,run_underlying b5.u,run_underlying b4.u,markStringish,W]
 unfold aa at E;refine .of X ⟨by unfold x1.freeze;rw[if_neg (by decide)],.iI (by unfold x1.freeze;rw[if_neg (by decide)]) (by unfold x1.freeze;rw[if_neg (by decide)]),by unfold x1.freeze;rw[if_neg (by decide)],by omega,fun r o J Y=>?_⟩ (U _ ⟨by omega,fun r o J _ Z=>?_⟩ fun o vs ac j v ab=>?_)
 ·rw[O];by_cases he:g=r
  ·subst he;rw[E] at J;cases J;cases Y
  ·rw[if_neg he];exact J
 ·rw[O,if_neg fun he=>Z he.symm];exact J
 ·have h1:=ac j v ab;unfold x1.cell? at h1 ⊢;rw[O,if_pos rfl];rw[E] at h1 ⊢;exact h1
def iH:List Int:=[116,32,49,32,50,32,49,32,57,32,50,32,49,32,48,32,48,32,50,32,48,32,49,32,49,32,50]
def fG:bu:=⟨[116],9,[2],[⟨[0],[2],0,[([0],1),([1],2)]⟩]⟩
theorem Km:eA iH=some fG:=by
 have h:(match eA iH with
  |some f=>decide (f.name=fG.name∧f.k=fG.k∧f.sizes=fG.sizes)&&decide (f.funs.map (fun x=>(x.scope,x.sizes,x.other,x.lines))=fG.funs.map fun x=>(x.scope,x.sizes,x.other,x.lines))
  |none=>false)=true:=by decide+kernel
 cases O:eA iH with
 |none=>rw[O] at h;cases h
 |some f=>
  rw[O] at h;simp only[W0,decide_eq_true_eq] at h;obtain⟨⟨h1,U,V⟩,E⟩:=h;obtain⟨nm,k,X,J⟩:=f;simp only at h1 U V E;subst h1;subst U;subst V;have:J=fG.funs:=by
   have W:J.length=1:=by have:=congrArg V3 E;simpa[fG] using this
   match J,W with
   |[x],_=>
    obtain⟨a,b,c,d⟩:=x;simp[fG] at E;obtain⟨rfl,rfl,rfl,rfl⟩:=E;rfl
  subst this;rfl
theorem Kn:gR fG.funs≤16384:=by decide+kernel
def Ap (a:cG):Int×Int×Int×Int:=(a.ee,a.i,a.j,a.v)
theorem Ko:j0 (dm fG) (er (dm fG)) 1=[⟨1,0,-1,-1⟩]:=by
 have h:(j0 (dm fG) (er (dm fG)) 1).map Ap=[(1,0,-1,-1)]:=by decide+kernel
 generalize j0 (dm fG) (er (dm fG)) 1=l at h;have E:l.length=1:=by have:=congrArg V3 h;simpa using this
 match l,E with
 |[⟨a,b,c,d⟩],_=>
  simp[Ap] at h;obtain⟨rfl,rfl,rfl,rfl⟩:=h;rfl
def tN (T:Nat) (acc:List bG) (s:aq):Prop:=∃ M,(∀ x∈acc,x.lines.length≤M)∧(∀ q∈s.shared,q.2.length≤M)∧3*acc.length+M+s.toks.length≤T
theorem Kp {s s':aq} {l:List (List Int×Int)} {M:Nat} (Y:∀ q∈s.shared,q.2.length≤M) (h:cR sizes s=some (l,s')):
  s'.shared=s.shared∧ ∃ J,M≤J∧l.length≤J∧J+s'.toks.length+1≤M+s.toks.length:=by
 unfold cR at h;cases O:aS (-ah) ah s with
 |none=>rw[O] at h;cases h
 |some q=>
  obtain⟨n,E⟩:=q;rw[O] at h;simp only at h;have h1:=cB O;obtain⟨aa,ab,U⟩:=h1.eqs;have ac:=h1.1;split at h
  ·cases V:E.shared[(-n-1).toNat]? with
   |none=>rw[V] at h;cases h
   |some q=>
    obtain⟨z,l'⟩:=q;rw[V] at h;simp only at h;split at h
    ·simp only[b8,W5] at h;obtain⟨rfl,rfl⟩:=h;have hm:=x2 V;rw[U] at hm;exact⟨U,M,r9 _,Y _ hm,by omega⟩
    ·cases h
  ·have:=gM (fun acc t=>t.shared=s.shared∧t.toks.length+acc.length≤E.toks.length) (fun acc t a ad ⟨W,Z⟩ g=>by
    obtain⟨ae,af,ag,X⟩:=lj g;obtain⟨f1,f2,f3⟩:=X.eqs;exact⟨by rw[f3,W],by have:=X.1;simp only[u7,V5];omega⟩) n.toNat [] (aM (decide (16384<min (E.told+n) ah)) {E with told:=min (E.told+n) ah}) l s' ⟨U,by simp[aM]⟩ h
   obtain⟨⟨W,Z⟩,_⟩:=this;exact⟨W,M+l.length,by omega,by omega,by omega⟩
theorem Kq {all:List Int} {T:Nat} {acc:List bG} {s s':aq} {f:bG} (ag:tN T acc s) (h:ck all s=some (f,s')):tN T (acc++[f]) s':=by
 obtain⟨M,ai,Z,al⟩:=ag;unfold ck at h;cases W:aS (-ah) ah s with
 |none=>rw[W] at h;cases h
 |some q=>
 obtain⟨a,aj⟩:=q;rw[W] at h;simp only at h;have t0:=cB W;cases h1:dN all.length a.natAbs aj with
 |none=>rw[h1] at h;cases h
 |some q=>
 obtain⟨sc,U⟩:=q;rw[h1] at h;simp only at h;obtain⟨aa,_⟩:=pW h1;generalize sc.map (fun v=>all.getD v.toNat 0)=sizes at h;cases X:aS 0 ah (aM (decide (6<a.natAbs)||cI sizes) U) with
 |none=>rw[X] at h;cases h
 |some q=>
 obtain⟨other,Y⟩:=q;rw[X] at h;simp only at h;have ab:=cB X;have ac:Y.shared=s.shared:=by rw[ab.eqs.2.2];show U.shared=_;rw[aa.eqs.2.2,t0.eqs.2.2]
 have am:Y.toks.length+2≤s.toks.length:=by
  have:=t0.1;have:=aa.1;have V:=ab.1;have:(aM (decide (6<a.natAbs)||cI sizes) U).toks.length=U.toks.length:=rfl;omega
 cases V:cR sizes Y with
 |none=>rw[V] at h;cases h
 |some q=>
 obtain⟨lines,O⟩:=q;rw[V] at h;simp only[b8,W5] at h;obtain⟨rfl,rfl⟩:=h;obtain⟨ak,ad,an,ae,ao⟩:=Kp (M:=M) (by rw[ac];exact Z) V;have af:∀ q∈O.shared,q.2.length≤ad:=fun q E=>by rw[ak,ac] at E;have:=Z q E;omega
 refine⟨ad,fun x J=>?_,fun q E=>?_,?_⟩
 ·rcases p8.1 J with J|J
  ·have:=ai x J;omega
  ·rw[p9.1 J];exact ae
 ·split at E
  ·rcases p8.1 E with E|E
   ·exact af q E
   ·rw[p9.1 E];exact ae
  ·exact af q E
 ·have:(if a<0 then {O with shared:=O.shared++[(sizes,lines)]} else O).toks=O.toks:=by split <;> rfl
  rw[this,u7,V5];omega
theorem Aq {M:Nat}:∀ (l:List bG),(∀ x∈l,x.lines.length≤M)→gR l≤l.length*M
 |[],_=>by simp[gR]
 |x::l,h=>by
  have h1:=Aq l fun y E=>h y (.tail _ E);have J:=h x (.head _);unfold gR at h1 ⊢;rw[List.map_cons,List.sum_cons,n9,W8,Nat.one_mul];omega
theorem Kr {q:List Int} {f:bu} (aA:q.length≤300) (h:eA q=some f):gR f.funs≤16384∧f.funs.length≤100:=by
 have aB:=mj q.length q (r9 _);unfold eA at h;rw[if_neg (by omega)] at h;cases ae:fw ⟨(lex q).1,0,false,[]⟩ with
 |none=>rw[ae] at h;cases h
 |some p=>
 obtain⟨aC,s'⟩:=p;rw[ae] at h;simp only at h;split at h
 rotate_left
 ·cases h
 cases h;have J:(⟨(lex q).1,0,false,[]⟩:aq).toks.length≤300:=by show (lex q).1.length≤300;omega
 have ad:(⟨(lex q).1,0,false,[]⟩:aq).shared=[]:=rfl;generalize (⟨(lex q).1,0,false,[]⟩:aq)=s at ae J ad;unfold fw at ae;cases O:c0 s with
 |none=>rw[O] at ae;cases ae
 |some p=>
 obtain⟨name,s0⟩:=p;rw[O] at ae;simp only at ae;obtain⟨aj,V⟩:=nL O;have a0:s0.toks.length≤300∧s0.shared=[]:=⟨by rw[aj] at J;simp at J;omega,by rw[V];exact ad⟩;have num:∀ {lo hi n:Int} {b:Bool} {s t:aq},(s.toks.length≤300∧s.shared=[])→aS lo hi (aM b s)=some (n,t)→t.toks.length≤300∧t.shared=[]:=fun {lo hi n b s t} ak al=>by
  have:=cB al;have h1:(aM b s).toks.length=t.toks.length+1:=this.1;have E:s.toks.length=t.toks.length+1:=h1;exact⟨by omega,by rw[this.eqs.2.2];exact ak.2⟩
 cases h1:aS 1 ah (aM (decide (64<name.length)) s0) with
 |none=>rw[h1] at ae;cases ae
 |some p=>
 obtain⟨n,am⟩:=p;rw[h1] at ae;simp only at ae;have an:=num a0 h1;cases E:aS 1 ah (aM (decide (64<n)) am) with
 |none=>rw[E] at ae;cases ae
 |some p=>
 obtain⟨most,ao⟩:=p;rw[E] at ae;simp only at ae;have ap:=num an E;cases U:aS 0 ah ao with
 |none=>rw[U] at ae;cases ae
 |some p=>
 obtain⟨W,X⟩:=p;rw[U] at ae;simp only at ae;have a3:X.toks.length≤300∧X.shared=[]:=by
  have:=cB U;exact⟨by have:=this.1;omega,by rw[this.eqs.2.2];exact ap.2⟩
 cases Y:aS 1 ah (aM (decide (256<W)) X) with
 |none=>rw[Y] at ae;cases ae
 |some p=>
 obtain⟨k,af⟩:=p;rw[Y] at ae;simp only at ae;have a4:=num a3 Y;cases Z:bZ (eb most) n.toNat [] (aM (decide (2147483648<k)) af) with
 |none=>rw[Z] at ae;cases ae
 |some p=>
 obtain⟨sizes,aa⟩:=p;rw[Z] at ae;simp only at ae;have ag:=gM (f:=eb most) (fun(acc:List Int) t=>t.toks.length≤300∧t.shared=[]) (fun acc t a au av g=>by
  unfold eb at g;cases ab:aS 1 most t with
  |none=>rw[ab] at g;cases g
  |some p=>
   obtain⟨z,ai⟩:=p;rw[ab] at g;simp only[b8,W5] at g;obtain⟨rfl,rfl⟩:=g;have:=cB ab;exact⟨by show ai.toks.length≤300;have:=this.1;omega,by show ai.shared=[];rw[this.eqs.2.2];exact av.2⟩) n.toNat [] (aM (decide (2147483648<k)) af) sizes aa a4 Z
 cases ac:bZ (fun _ s=>ck sizes s) W.toNat [] aa with
 |none=>rw[ac] at ae;cases ae
 |some p=>
 obtain⟨funs,aw⟩:=p;rw[ac] at ae;simp only[b8,W5] at ae;obtain⟨rfl,rfl⟩:=ae;obtain⟨⟨M,ax,_,aD⟩,_⟩:=gM (tN 300) (fun acc t a au ay g=>Kq ay g) W.toNat [] aa funs aw ⟨0,by simp,by rw[ag.1.2];simp,by have:=ag.1.1;simp;omega⟩ ac;have aE:=Aq funs ax;show gR funs≤16384∧funs.length≤100;refine⟨?_,by omega⟩;have az:∀ k≤100,k*(300-3*k)≤16384:=by decide
 have aF:=Nat.mul_le_mul_left funs.length (show M≤300-3*funs.length by omega);have:=az funs.length (by omega);omega
theorem Ks {N:Nat} {q:List Int} {f:bu} (E:dU N f) (J:q.length≤300) (h:eA q=some f):(er (dm f)).funs.length≤100:=by
 have h1:=(mH E).2.length_eq;have U:=(iv E).2.2;have V:=List.length_filter_le ej (ec f);have W:=(Kr J h).2;have O:=(lz f (ek f).length).2.2.2;rw[oi] at O;have X:(er (dm f)).funs.length=(dm f).funs.length:=r8 _;omega
theorem oB (a:cG):∀ u∈eI a,u.oneCell'=true:=fun u hu=>by
 simp[eI] at hu;rcases hu with rfl|rfl|rfl|rfl <;> rfl
abbrev gg (w:x1) (g:Nat) (v:y0) (l:List cG):Prop:=aT eI 4 cu w g v l
section
variable {sv:y0} {l:List cG} {g dv:Nat} {cap:Array y0} {p:cG→Bool} {w:x1}
theorem qV {i:Nat} {a:cG} {K:y0→Prop} (h:gg w g sv l) (hi:l[i]? =some a):O x5 (j9 cY sv (.int .i64 (i:Int))) w (fun q=>O x5 (x6 cu q) w K)=K (.agg (eI a).toArray):=by
 rw[cM rfl cY.u cu.i h (x3.1 hi).1,bn cu.p cu.i rfl (h.range hi)]
set_option maxHeartbeats 1000000 in
theorem Kt (h:gg w g sv l) (Y:∀ w' x,Ext w w'→x∈l→ag x5 dv (.agg (eI x).toArray::cap.toList) w' fun r Z=>r= .bool (p x)∧Ext w' Z):
  ag x5 Ch [sv,.func (.func dv) #[] cap] w fun v w'=>Ext w w'∧((v= .int .i64 (-1)∧ ∀ x∈l,p x=false)∨ ∃ i:Nat,v= .int .i64 (i:Int)∧i<l.length∧(∀ x∈l.take i,p x=false)∧ ∀ x,l[i]? =some x→p x=true):=by
 refine ap func121 ?_;rw[dA cY.u h];refine bO.range l.length (fun i _ U=>Ext w U∧ ∀ x∈l.take i,p x=false) h.le ⟨Ext.refl _,by simp⟩ ?_ ?_
 ·rintro i _ U k hi ⟨E,O⟩ aa;refine bC (by omega) ?_;obtain⟨y,W⟩:=aE (l:=l) hi;rw[qV (h.ext E) W];refine ag.mono (Y U y E (x2 W)) ?_;rintro _ V _ ⟨rfl,X⟩;rw[ca];refine⟨fun ab=>⟨E.trans X,.inr ⟨i,rfl,hi,O,fun x J=>by rw[W] at J;cases J;exact ab⟩⟩,fun ae=>?_⟩;rw[aB];refine aa _ _ ⟨E.trans X,fun x J=>?_⟩;rw[u5,W] at J;rcases p8.1 J with J|J
  ·exact O x J
  ·simp at J;subst J;exact ae
 ·rintro _ U k ⟨E,O⟩;rw[o5] at O;rw[aC,af];exact⟨fun h=>by omega,fun _=>⟨E,.inl ⟨rfl,O⟩⟩⟩
set_option maxHeartbeats 2000000 in
theorem Ku (h:gg w g sv l) (bi:l.length≤100000000) (aG:∀ w' x,ad (fun r=>leadsTo sv r) w w'→x∈l→ag x5 dv (.agg (eI x).toArray::cap.toList) w' fun r aT=>r= .bool (p x)∧Ext w' aT):
  ag x5 BC [sv,.func (.func dv) #[] cap] w fun v w'=>ad (fun r=>leadsTo sv r) w w'∧gg w' g v (l.filter fun x=>!p x)∧ ∀ r,leadsTo v r→leadsTo sv r:=by
 refine ap func31 ?_;refine (Kt h fun w' x J=>aG w' x (J.U _)).mono ?_;rintro _ bj _ ⟨Z,⟨rfl,ak⟩|⟨i,rfl,hi,ak,aU⟩⟩
 ·rw[bc,af];refine⟨fun _=>⟨Z.U _,?_⟩,fun h=>absurd rfl h⟩;rw[List.filter_eq_self.2 fun x J=>by rw[ak x J];rfl];exact⟨h.ext Z,fun _ h=>h⟩
 rw[bc,af];refine⟨fun h=>by omega,fun _=>?_⟩;rw[aB,wrap_i64 (by omega) (by omega)];obtain⟨n,al⟩:∃ n,l.length=n:=⟨_,rfl⟩;obtain⟨O,rfl⟩:∃ O,sv= .slice (some ⟨g,0,none⟩) n O:=by
  obtain⟨_,⟨_,h1⟩|⟨O,cs,h1,_⟩⟩:=h.1
  ·omega
  ·exact⟨O,by rw[h1,al]⟩
 have aH:∀ r,r=g→leadsTo (.slice (some ⟨g,0,none⟩) n O) r:=fun r am=>⟨_,_,_,rfl,am.symm⟩;have aV:∀ r,leadsTo (.slice (some ⟨g,0,none⟩) n O) r→r=g:=fun r ⟨_,_,_,X,an⟩=>by cases X;exact an.symm
 have aW:(l.take (i+1)).filter (fun x=>!p x)=l.take i:=by
  obtain⟨y,V⟩:=aE (l:=l) hi;rw[u5,V,List.filter_append,List.filter_eq_self.2 fun x J=>by rw[ak x J];rfl];simp[aU y V]
 refine⟨fun ao aq Y=>∃ (q j:Nat) (E:List cG),ao= .int .i64 (q:Int)∧aq= .int .i64 (j:Int)∧q<j∧j≤n∧ad (fun r=>r=g) w Y∧gg Y g (.slice (some ⟨g,0,none⟩) n O) E∧E.length=n∧E.take q=(l.take j).filter (fun x=>!p x)∧ ∀ k,j≤k→E[k]? =l[k]?,
  fun _ aq _=>n-(bk aq).toNat,⟨i,i+1,l,rfl,rfl,by omega,by omega,Z.U _,h.ext Z,al,aW.symm,fun _ _=>rfl⟩,?_⟩
 rintro _ _ Y ⟨q,j,E,rfl,rfl,bl,bm,ab,ac,au,W,av⟩;have bo:q=((l.take j).filter fun x=>!p x).length:=by rw[←W,o6];omega
 rw[fK cY.u,aC,af];refine⟨fun aX=>?_,fun bp=>?_⟩
 ·have aX:j<n:=by omega
  obtain⟨y,V⟩:=aE (l:=l) (i:=j) (by omega);have aY:E[j]? =some y:=by rw[av j (r9 _),V]
  refine aI (fun ao ah=>∃ (q:Nat) (E:List cG),ao= .int .i64 (q:Int)∧q<j+1∧ad (fun r=>r=g) w ah∧gg ah g (.slice (some ⟨g,0,none⟩) n O) E∧E.length=n∧E.take q=(l.take (j+1)).filter (fun x=>!p x)∧ ∀ k,j+1≤k→E[k]? =l[k]?) ?_ ?_
  ·rintro _ ah ⟨q,E,rfl,h1,aw,ax,ay,az,aA⟩;rw[aB,wrap_i64 (by omega) (by omega)];exact⟨⟨q,j+1,E,rfl,rfl,h1,by omega,aw,ax,ay,az,aA⟩,by simp only[bk];omega⟩
  intro bq aJ;rw[qV ac aY];refine bg cu.i fun br ah bt aZ a1=>?_;refine bP (vs:=eI y) cu.i rfl rfl (oB y) a1 fun aK a2 bu aL=>?_;have aM:Ext Y aK:=aZ.put a2 (by omega);rw[bn cu.p cu.i rfl aL.range];refine ag.mono (aG aK y ((ab.trans (aM.U _)).mono fun r _=>aH r) (x2 V)) ?_;rintro _ bw _ ⟨rfl,aN⟩;have ai:=aM.trans aN;have aO:(l.take (j+1)).filter (fun x=>!p x)=(l.take j).filter (fun x=>!p x)++[y].filter (fun x=>!p x):=by rw[u5,V,List.filter_append];rfl
  rw[bJ,ca];refine⟨fun a6=>?_,fun ae=>?_⟩
  ·have aP:=ac.ext ai;rw[bn cu.p cu.i rfl (aL.ext aN).range,cM rfl cY.u cu.i aP (by omega)];refine xO cu.i aP rfl (oB y) (by omega) fun aQ aD bx a7=>?_;rw[aB,wrap_i64 (by omega) (by omega)];refine aJ _ _ ⟨q+1,_,rfl,by omega,(ab.trans (ai.U _)).trans (aD.mono fun r _=>aV r),a7,by simpa using au,?_,fun k aj=>?_⟩
   ·rw[aO,u5,V8 (by omega),List.take_set_of_le (r9 _),W];simp only[j5];rw[show[y].filter (fun x=>!p x)=[y] by simpa using a6]
   ·rw[List.getElem?_set_ne (by omega)];exact av k (by omega)
  ·refine aJ _ _ ⟨q,E,rfl,by omega,ab.trans (ai.U _),ac.ext ai,au,?_,fun k aj=>av k (by omega)⟩;rw[aO,show[y].filter (fun x=>!p x)=[] by simpa using ae,Y8];exact W
 ·have a8:j=n:=by omega
  subst a8;rw[←al,o5] at W;obtain⟨⟨_,ba⟩,_⟩:=id ac;obtain⟨cs,bb,bd,be,bz,aR⟩:∃ cs,aa Y g cu cs∧E.length≤O∧O≤maxLen∧cs.length=O*4∧cs.take (E.length*4)=E.flatMap eI:=by
   rcases ba with⟨_,bA⟩|⟨bB,cs,X,aw,ax,ay,az,aA⟩
   ·omega
   ·cases X;exact⟨cs,aw,ax,ay,az,aA⟩
  simp only[maxLen] at be;rw[au] at bd aR;rw[fu cY.u cu.i (l:=q) (h:=j) (m:=O) mb hp ea (by omega) (by omega) (by omega),if_neg (by omega)];have X:X3 (fun x:Addr=>x.add (q*4)) (some ⟨g,0,none⟩)=some ⟨g,q*4,none⟩:=by simp[W7]
  rw[X];refine yU (g:=g) (o:=q*4) (n:=j-q) (k:=4) cY.u cu.i rfl ?_ bb (by omega) fun aQ aD aF=>?_
  ·exact s4 (by decide) (by decide)
  obtain⟨vs,bC,aF⟩:∃ vs:List y0,vs.length=(j-q)*4∧aa aQ g cu (over cs (q*4) vs):=⟨_,k3 _ _,aF⟩;rw[fu cY.u cu.i (l:=0) (h:=q) (m:=O) ho mc ea (by omega) (by omega) (by omega),if_neg (by omega)];have an:X3 (fun x:Addr=>x.add (0*4)) (some ⟨g,0,none⟩)=some ⟨g,0,none⟩:=by simp[W7]
  rw[an];refine⟨(ab.trans aD).mono fun r _=>aH r,?_,fun r am=>by obtain⟨a,_,_,e,bf⟩:=am;cases e;exact⟨_,_,_,rfl,bf⟩⟩;have aS:(l.filter fun x=>!p x).length=q:=by rw[←W,o6];omega
  refine⟨⟨fZ fun _ _=>rfl,.inr ⟨O,_,by rw[aS,Nat.sub_zero,Nat.sub_zero],aF,by omega,by simp only[maxLen];omega,by rw[kl];omega,?_⟩⟩,fun _ _=>rfl⟩;have bh:(l.filter fun x=>!p x).flatMap eI=(E.flatMap eI).take (q*4):=by rw[mA (f:=eI) (k:=4) q (fun _ _=>rfl),W]
  rw[aS,bh,←aR,List.take_take,Nat.min_eq_left (by omega)];apply Y7;intro k;by_cases aj:k<q*4
  ·rw[c7 aj,c7 aj,k1 _ _ _ (by omega),if_neg (by omega)]
  ·rw[c8 (by rw[o6];omega),c8 (by rw[o6];omega)]
end
def hE (w w':x1) (ao E go:Nat) (l:List cG):Prop:=Ext w w'∧aa w' E dy [.pointer (some ⟨ao,0,none⟩)]∧ ∃ v g,aa w' go cY [v]∧gg w' g v l∧ ∀ r,leadsTo v r→w.heap.size≤r
theorem hE.ext {O go:Nat} {l:List cG} (h:hE w E ao O go l) (J:Ext E V):hE w V ao O go l:=by
 obtain⟨h1,U,v,g,W,X,Y⟩:=h;exact⟨h1.trans J,U.ext J,v,g,W.ext J,X.ext J,Y⟩
theorem Kv (h:∃ a n c,v= .slice a n c):v.cells= #[v]∧v.oneCell'=true:=by
 obtain⟨a,n,c,rfl⟩:=h;exact⟨rfl,rfl⟩
def oC (E V:x1):Prop:=∀ b e cs,aa E b e cs→e≠cu→e≠cY→aa V b e cs
theorem oC.ext (h:Ext E V):oC E V:=fun _ _ _ J _ _=>J.ext h
theorem oD {af go g:Nat} {x:y0} {l:List cG} {K:Unit→x1→Prop} (a:cG) (J:Ext w E) (ak:aa E af dy [.pointer (some ⟨ao,0,none⟩)]) (al:aa E go cY [v]) (hm:gg E g v l) (ag:∀ r,leadsTo v r→w.heap.size≤r)
  (aC:w.heap.size≤go) (am:x.cells=(eI a).toArray) (aD:l.length≤100000000) (an:∀ V,hE w V ao af go (l++[a])→oC E V→K () V):
  aw x5 (b6 cY 1 #[(0,x)]) E fun y V=>aw x5 (l9 #[cY,cY] cY #[v,y]) V fun z X=>
   aw x5 (n0 cY (.pointer (some ⟨go,0,none⟩)) z) X K:=by
 refine eQ (f:=eI) (a:=a) cY.u cu.i (by omega) am rfl fun y aE V aF Y ap=>?_;refine ff cY.u cu.i rfl (hm.ext Y) (by simpa using ap.sl) (oB a) (by omega) (by omega) fun z gz X Z aq ah=>?_;have aG:=J.size;have aH:=Y.size;have ab:∀ b e cs,aa E b e cs→e≠cu→aa X b e cs:=fun b e cs O he=>(O.ext Y).U ah fun W=>by
  obtain⟨rfl,au,ac⟩:=c3 hm W;exact he (ed O ac)
 have ad:=ab _ _ _ al (by decide);have av:=ab _ _ _ ak (by decide);obtain⟨ax,ay⟩:=Kv (v:=z) (by obtain⟨_,_,_,_,_,e,_⟩:=Z.sl;exact⟨_,_,_,e⟩);refine aY (g:=go) (o:=0) cY.i ax ay ad (by simp) fun ai ae aI az=>?_;have aj:∀ b e cs,aa X b e cs→e≠cY→aa ai b e cs:=fun b e cs O he=>O.U ae fun h=>by
  have h:b=go:=h;subst h;exact he (ed O ad)
 have aA:∀ r,leadsTo z r→w.heap.size≤r:=fun r W=>(aq r W).elim (ag r) fun h=>by omega
 refine an ai ⟨((J.trans Y).then ah fun r W he=>by have:=ag r he;omega).then ae fun r W he=>by have he:r=go:=he;omega,aj _ _ _ av (by decide),z,gz,az,Z.U ae fun r W he=>?_,aA⟩ fun b e cs O h1 aB=>aj b e cs (ab b e cs O h1) aB;have he:r=go:=he;subst he;obtain⟨rfl,au,ac⟩:=c3 Z W;exact absurd (ed ac ad) (by decide)
section
variable {w:x1} {ao gT:Nat} {A R:am} {n:aV} {s:aN} {t:aH}
set_option maxHeartbeats 4000000 in
theorem Kw (h:cC w ao gT A R n s t) (am:Laid w):ag x5 BA [.pointer (some ⟨ao,0,none⟩)] w fun v w'=>Ext w w'∧ ∃ g,gg w' g v (kJ n s n.sizes.length)∧ ∀ r,leadsTo v r→w.heap.size≤r:=by
 have X:=h.2.2.2.1;have cw:=X.jk.2.1;refine iV func29 ?_;refine a7 fun Y bI cz aJ aw=>?_;have aw:aa bI Y dy [.pointer (some ⟨ao,0,none⟩)]:=aw;refine bg cY.i fun go V ax an aK=>?_;have aK:aa V go cY [.slice none 0 0]:=aK;have cA:=aJ.size;have cB:=an.size;rw[av (v:=.pointer (some ⟨ao,0,none⟩)) (by kernel_rfl) ((aw.ext an).cell (o:=0) rfl)];refine (zX (h.ext (aJ.trans an))).mono ?_;rintro _ cD _ ⟨rfl,aL⟩;have ax:w.heap.size≤go:=by omega
 have Z:∀ {ap:x1} {K:y0→Prop},aa ap Y dy [.pointer (some ⟨ao,0,none⟩)]→K (.pointer (some ⟨ao,0,none⟩))→O x5 (x6 dy (.pointer (some ⟨Y,0,none⟩))) ap K:=fun aM aN=>by
  rw[av (v:=.pointer (some ⟨ao,0,none⟩)) (by kernel_rfl) (aM.cell (o:=0) rfl)];exact aN
 refine bS.range n.sizes.length (fun i aO=>hE w aO ao Y go (kJ n s i)) (by omega) ⟨(aJ.trans an).trans aL,(aw.ext an).ext aL,_,0,aK.ext aL,aT.nil _ _ _ _ _,fun r E=>(ds E).elim⟩ ?_ ?_
 rotate_left
 ·rintro aO bJ ⟨bK,_,v,g,bL,bM,bN⟩;refine cH (by omega) ?_;rw[av (v:=v) (by kernel_rfl) (bL.cell (o:=0) rfl)];intro aP bd _;exact⟨bK.trans bd,g,bM.ext bd,bN⟩
 rintro i aO bJ hi be bO;have bf:kJ n s (i+1)=kJ n s i++jr n s i:=tM i;have bP:=Al (m:=i) X;generalize kJ n s i=ay at be bf bP;refine bC (by omega) ?_;refine cX (fun aP=>hE w aP ao Y go (ay++jr n s i)) (fun aP bQ=>?_) fun cE ad=>?_
 ·rw[aB];exact bO _ (by rw[bf];exact bQ)
 refine bg ab.i fun aj cF cG bR bT=>?_;refine aY (g:=aj) (o:=0) (v:=.int .i64 (i:Int)) ab.i rfl rfl bT (by decide) fun bU bV cI az=>?_;have az:aa bU aj ab [.int .i64 (i:Int)]:=az;have aA:=be.ext (bR.put bV (by omega));have ae:∀ {ap:x1} {K:y0→Prop},aa ap aj ab [.int .i64 (i:Int)]→K (.int .i64 (i:Int))→O x5 (x6 ab (.pointer (some ⟨aj,0,none⟩))) ap K:=fun aM aN=>by
  rw[av (v:=.int .i64 (i:Int)) (by kernel_rfl) (aM.cell (o:=0) rfl)];exact aN
 refine Z aA.2.1 (ae az ?_);refine (J2 (i:=(i:Int)) (h.ext aA.1) (am.ext aA.1)).mono ?_;rintro r bW _ ⟨bh,bX,aQ⟩;have aR:=aA.ext bh;have aS:=az.ext bh;cases ac:ha n s i with
 |false=>
  obtain rfl:=bX ac;rw[e1,e2,e3,bj,af];refine⟨fun _=>ad _ ?_,fun h=>absurd (by decide) h⟩;unfold jr;rw[ac,if_neg (by decide),Y8];exact aR
 |true=>
 obtain⟨_,x,aD,_⟩:=tJ X ac;have aU:cd s i=cc x:=by unfold cd;rw[aD]
 have E:=aQ x ac aD;rw[←aU] at E;have E:r= .tuple #[.int .i64 (m4 n s i).1,.int .i64 (m4 n s i).2,.int .i64 0]:=E;subst E;have bY:jr n s i=jY n s i++((cd s i).flatMap (gF n s i)++oy n s i):=by unfold jr;rw[if_pos ac]
 have cJ:=qT (i:=(i:Int)) X;rw[e1,e2,e3,bj,af];refine⟨fun h=>absurd rfl h,fun _=>?_⟩;refine cX (fun ak=>hE w ak ao Y go (ay++jY n s i)∧aa ak aj ab [.int .i64 (i:Int)]) ?_ ?_
 rotate_left
 ·intro cK bi;refine aI (fun r ak=>r= .bool (decide (0<(m4 n s i).1∨(m4 n s i).2<0))∧ak=bW) ?_ ?_
  ·rintro _ _ ⟨rfl,rfl⟩;rw[af];refine⟨fun U=>?_,fun U=>bi _ ⟨?_,aS⟩⟩
   ·obtain⟨aq,bZ,v,g,bk,b1,b2⟩:=aR;rw[av (v:=v) (by kernel_rfl) (bk.cell (o:=0) rfl)];refine ae aS ?_;rw[ct (cs:=#[.int .i64 1,.int .i64 (i:Int),.int .i64 (-1),.int .i64 (-1)]) (by kernel_rfl)];refine oD ⟨1,i,-1,-1⟩ aq bZ bk b1 b2 ax rfl (by omega) fun ak ah b3=>bi _ ⟨?_,b3 _ _ _ aS (by decide) (by decide)⟩;unfold jY fo;rw[if_pos U];exact ah
   ·unfold jY fo;rw[if_neg U,Y8];exact aR
  ·intro b4 au;rw[br,af];refine⟨fun h1=>au _ _ ⟨by rw[decide_eq_true (.inl h1)],rfl⟩,fun h1=>?_⟩;rw[aC];refine au _ _ ⟨?_,rfl⟩;congr 1;exact decide_eq_decide.2 ⟨.inr,fun h=>h.resolve_left h1⟩
 rintro ak ⟨ah,bl⟩;have b5:(ay++jY n s i).length≤34*i+1:=by
  have:(jY n s i).length≤1:=iG;rw[u7];omega
 rw[bY,←Y2] at ad;generalize ay++jY n s i=aV at ah ad b5;refine Z ah.2.1 (ae bl ?_);refine (mV (i:=(i:Int)) (h.ext ah.1)).mono ?_;rintro _ cL _ ⟨⟨b,m,rfl,bm⟩,b6⟩;refine (pO (b:=b) (n:=m)).mono ?_;rintro _ cM _ ⟨b7,bn,rfl,cN,b8⟩;have aW:=qP bm (by omega) aD;rw[←aU] at aW;have aX:=b6.trans b7;refine jz.old ⟨_,false,iQ,#[.pointer (some ⟨bn,0,none⟩)],_,_,_,_,fun j w'=>hE w w' ao Y go (aV++((cd s i).take j).flatMap (gF n s i))∧aa w' aj ab [.int .i64 (i:Int)],fun _ _ _=>False,rfl,(pN (g:=bn) bm.1).s,?_,
  fun _ _ J h=>⟨h.1.ext J,h.2.ext J⟩,fun _ _ _ bo h=>⟨h.1.ext bo,h.2.ext bo⟩,fun _ _ _ _ _ h=>h,⟨b8,am.ext (ah.1.trans aX)⟩,⟨by simpa using ah.ext aX,bl.ext aX⟩,?_,?_,fun _ _ h=>h.elim,fun _ _ _ h=>h.elim⟩
 ·rintro _ _ _ _ ⟨_,_,_,_,rfl⟩;rfl
 ·rintro _ j _ b9 ⟨ca,_⟩ ⟨cO,rfl,v,ac,cb⟩ ⟨W,aE⟩;cases cb;intro bp al _ _;have ce:(cd s i)[j]? =some (v:Int):=by rw[←aW,x7,ac];rfl
  have bq:((cd s i).take (j+1)).flatMap (gF n s i)=((cd s i).take j).flatMap (gF n s i)++gF n s i v:=by
   rw[u5,ce,j5,List.flatMap_append,List.flatMap_singleton]
  have aF:=js (l:=(cd s i).take j) (f:=gF n s i) (k:=1) fun v _=>iG;rw[o6] at aF;generalize ((cd s i).take j).flatMap (gF n s i)=bt at W aF bq;have bu:aV++((cd s i).take (j+1)).flatMap (gF n s i)=(aV++bt)++gF n s i v:=by rw[bq,Y2]
  have ai:=W.ext al;have aG:=aE.ext al;have cg:=ca.ext al;refine Z ai.2.1 (ae aG ?_);refine tI (h.ext ai.1) fun e aZ ch=>?_;rw[a8,ba];intro cP ci _ _;have bw:=ch.trans ci;have aH:=ai.ext bw;refine Z aH.2.1 (Z aH.2.1 ?_);refine (JM (h.ext aH.1)).mono ?_;rintro _ cQ _ ⟨rfl,a1⟩;refine⟨.inl a1,?_⟩;have bx:=aH.ext a1;refine (ou (h.ext bx.1)).mono ?_;rintro _ cR _ ⟨rfl,bz⟩;refine (JS X.zero (qQ X) X.lD).mono ?_;rintro _ cS _ ⟨rfl,bA⟩;have bB:=(bx.ext bz).ext bA;rw[a8,ba];refine Z bB.2.1 ?_;refine (ou (h.ext bB.1)).mono ?_;rintro _ cT _ ⟨rfl,cj⟩;have a2:=(((bw.trans a1).trans bz).trans bA).trans cj;have a6:=ai.ext a2;have bb:=aG.ext a2;have bD:=cg.ext a2;rw[bc,af];refine⟨fun U=>?_,fun U=>?_⟩
  ·obtain⟨aq,ck,u,g,bE,cl,cm⟩:=a6;rw[av (v:=u) (by kernel_rfl) (bE.cell (o:=0) rfl)];refine ae bb ?_;rw[ct (cs:=#[.int .i64 1,.int .i64 (i:Int),.int .i64 (-1),.int .i64 (v:Int)]) (by kernel_rfl)];refine oD ⟨1,i,-1,v⟩ aq ck bE cl cm ax rfl (by rw[u7];omega) fun cU bF bG=>?_;refine⟨⟨bG _ _ _ bD (by decide) (by decide),am.ext bF.1⟩,⟨?_,bG _ _ _ bb (by decide) (by decide)⟩,fun h=>by cases h⟩;rw[bu];unfold gF fo;rw[if_pos U];exact bF
  ·refine⟨⟨bD,am.ext a6.1⟩,⟨?_,bb⟩,fun h=>by cases h⟩;rw[bu];unfold gF fo;rw[if_neg U,Y8];exact a6
 ·rintro k b9 rfl ⟨W,aE⟩;have cn:(cd s i).take (e7 b m).length=cd s i:=Z0 (by rw[←aW,r8];exact r9 _);rw[cn] at W;have aF:=js (l:=cd s i) (f:=gF n s i) (k:=1) fun v _=>iG;rw[←Y2] at ad;generalize (cd s i).flatMap (gF n s i)=bt at W ad aF;refine Z W.2.1 (ae aE ?_);refine (Kd (i:=(i:Int)) (h.ext W.1) (am.ext W.1)).mono ?_;rintro r bp _ ⟨al,_,aQ⟩;have E:=aQ x ac aD;rw[←aU] at E;have E:r= .tuple #[.int .i64 (m7 n s i).1,.int .i64 (m7 n s i).2,.int .i64 0]:=E;subst E;have ai:=W.ext al;have aG:=aE.ext al;rw[e1,e2,e3];refine aI (fun r aZ=>r= .bool (decide (0<(m7 n s i).1∨(m7 n s i).2<0))∧aZ=bp) ?_ ?_
  ·rintro _ _ ⟨rfl,rfl⟩;rw[af];refine⟨fun U=>?_,fun U=>ad _ ?_⟩
   ·obtain⟨aq,cp,v,g,bH,cq,cr⟩:=ai;rw[av (v:=v) (by kernel_rfl) (bH.cell (o:=0) rfl)];refine ae aG ?_;rw[ct (cs:=#[.int .i64 4,.int .i64 (i:Int),.int .i64 (-1),.int .i64 (-1)]) (by kernel_rfl)];refine oD ⟨4,i,-1,-1⟩ aq cp bH cq cr ax rfl (by rw[u7];omega) fun aZ cu cV=>ad _ ?_;unfold oy fo;rw[if_pos U];exact cu
   ·unfold oy fo;rw[if_neg U,Y8];exact ai
  ·intro b4 au;rw[br,af];refine⟨fun h1=>au _ _ ⟨by rw[decide_eq_true (.inl h1)],rfl⟩,fun h1=>?_⟩;rw[aC];refine au _ _ ⟨?_,rfl⟩;congr 1;exact decide_eq_decide.2 ⟨.inr,fun h=>h.resolve_left h1⟩
end
theorem Kx {k:o4} {g:Nat} (h:ak k e E g v l) (J:oC E V) (h1:e≠cu) (O:e≠cY):ak k e V g v l:=
 ⟨h.1,h.2.imp id fun⟨cap,cs,U,W,X⟩=>⟨cap,cs,U,J _ _ _ W h1 O,X⟩⟩
theorem h7.nil {o:Option (List Int)} (h:h7 w B v o):∃ a n c,v= .slice a n c∧a.isNone=decide (o=none):=by
 cases o with
 |none=>exact⟨none,0,0,h,rfl⟩
 |some tl=>
  obtain⟨h1,g,_,E⟩:=h;obtain⟨_,⟨_,J⟩|⟨cap,cs,rfl,_⟩⟩:=E
  ·exact absurd (o9 J) h1
  ·exact⟨_,_,_,rfl,rfl⟩
section
variable {w:x1} {ao gT:Nat} {A R:am} {n:aV} {s:aN} {t:aH}
theorem Ky (h:cC w ao gT A R n s t):∀ r,A r∨R r→r<w.heap.size:=fun r E=>by
 obtain⟨U,V,W,X,⟨_,_,J,O⟩,_⟩:=h.1;exact E.elim (O r) (J r)
theorem Kz {p:Nat} {v:Int} {f:ep} (E:eF n.k n.sizes s) (ae:s.funs[j]? =some f) (O:f.live≠0) (U:p<f.sc.length) (ac:v∈cd s (f.sc.getD p 0)):∃ x,hD s j p v f (f.sc.getD p 0) x:=by
 have hu:f.sc[p]? =some (f.sc.getD p 0):=by rw[u4,x4 U,V4]
 have V:=(E.funs f (x2 ae)).1;unfold cd at ac;split at ac
 ·rename_i x J;exact⟨x,by omega,by rw[j6];exact ae,O,by omega,by rw[j6];exact hu,(V.scope.1 _ (x2 hu)).1,J,ac⟩
 ·cases ac
theorem KA {p:Nat} {v:Int} {f:ep} {x:gB} {r:y0} (U:eF n.k n.sizes s) (O:hD s j p v f (f.sc.getD p 0) x) (X:Ai n s j p v r):
  ∃ c d e:Int,r= .tuple #[.int .i64 c,.int .i64 d,.int .i64 e]∧(e=0↔f.sc.length=2)∧(f.sc.length=2→p=0→c=(qS n s j f v).1):=by
 obtain⟨h1,Y⟩:=X.2 f _ x O;by_cases E:f.sc.length=2
 ·have Z:=(x3.1 O.hu).1;rw[j6] at Z;have V:=(U.funs f (x2 O.ae)).1;obtain⟨o,J⟩:=aE (l:=f.sc) (i:=(1-(p:Int)).toNat) (by omega);have ad:=U.vars;have af:=(V.scope.1 _ (x2 J)).1;have ag:=V.vars _ (x2 J);obtain⟨y,W⟩:=aE (l:=s.vars) (i:=o.toNat) (by omega);refine⟨_,_,0,Y E o y J W,⟨fun _=>E,fun _=>rfl⟩,fun _ aa=>?_⟩;subst aa;have ab:f.sc.getD 1 0=o:=by rw[u4,show f.sc[1]? =some o from J];rfl
  have ac:cd s o=cc y:=by unfold cd;rw[W]
  unfold qS;rw[ab,ac,j6];rfl
 ·exact⟨_,_,1,h1 E,⟨(fun h=>by cases h),fun h=>absurd h E⟩,fun h=>absurd h E⟩
set_option maxHeartbeats 8000000 in
theorem KB (h:cC w ao gT A R n s t) (ap:Laid w) (dM:s.funs.length≤100000):ag x5 BB [.pointer (some ⟨ao,0,none⟩)] w fun v w'=>Ext w w'∧ ∃ g,gg w' g v (kK n s s.funs.length)∧ ∀ r,leadsTo v r→w.heap.size≤r:=by
 have Z:=h.2.2.2.1;have dN:=Z.jk.2.1;refine iV func30 ?_;refine a7 fun ad cF dO ba aM=>?_;have aM:aa cF ad dy [.pointer (some ⟨ao,0,none⟩)]:=aM;refine bg cY.i fun go V bb aq bd=>?_;have bd:aa V go cY [.slice none 0 0]:=bd;have dP:=ba.size;have dQ:=aq.size;rw[av (v:=.pointer (some ⟨ao,0,none⟩)) (by kernel_rfl) ((aM.ext aq).cell (o:=0) rfl)];refine (ov (h.ext (ba.trans aq))).mono ?_;rintro _ dR _ ⟨rfl,be⟩;have bb:w.heap.size≤go:=by omega
 have au:∀ {E:x1} {K:y0→Prop},aa E ad dy [.pointer (some ⟨ao,0,none⟩)]→K (.pointer (some ⟨ao,0,none⟩))→O x5 (x6 dy (.pointer (some ⟨ad,0,none⟩))) E K:=fun bf bh=>by
  rw[av (v:=.pointer (some ⟨ao,0,none⟩)) (by kernel_rfl) (bf.cell (o:=0) rfl)];exact bh
 have Y:∀ {E:x1} {b:Nat} {z:Int} {K:y0→Prop},aa E b ab [.int .i64 z]→K (.int .i64 z)→O x5 (x6 ab (.pointer (some ⟨b,0,none⟩))) E K:=fun {E b z K} bf bh=>by
  rw[av (v:=.int .i64 z) (by kernel_rfl) (bf.cell (o:=0) rfl)];exact bh
 refine bS.range s.funs.length (fun j bi=>hE w bi ao ad go (kK n s j)) (by omega) ⟨(ba.trans aq).trans be,(aM.ext aq).ext be,_,0,bd.ext be,aT.nil _ _ _ _ _,fun r ai=>(ds ai).elim⟩ ?_ ?_
 rotate_left
 ·rintro bi cG ⟨cI,_,v,g,cJ,cK,cL⟩;refine cH (by omega) ?_;rw[av (v:=v) (by kernel_rfl) (cJ.cell (o:=0) rfl)];intro bj bM _;exact⟨cI.trans bM,g,cK.ext bM,cL⟩
 rintro j bi cG cM bN cN;have bO:kK n s (j+1)=kK n s j++jZ n s j:=tM j;have cO:=An (m:=j) Z;generalize kK n s j=aN at bN bO cO;refine bC (by omega) ?_;refine cX (fun bj=>hE w bj ao ad go (aN++jZ n s j)) (fun bj cP=>?_) fun dS bk=>?_
 ·rw[aB];exact cN _ (by rw[bO];exact cP)
 obtain⟨f,ae⟩:=aE (l:=s.funs) cM;refine bg ab.i fun aw dT dU cQ cR=>?_;refine aY (g:=aw) (o:=0) (v:=.int .i64 (j:Int)) ab.i rfl rfl cR (by decide) fun cS cT dV aP=>?_;have aP:aa cS aw ab [.int .i64 (j:Int)]:=aP;have bl:=bN.ext (cQ.put cT (by omega));refine au bl.2.1 (Y aP ?_);refine (qO (j:=(j:Int)) (h.ext bl.1)).mono ?_;rintro _ dW _ ⟨rfl,bP⟩;have aQ:=bl.ext bP;have bQ:=aP.ext bP;rw[decide_eq_true (by omega),Bool.true_and,j6];have cU:gD s j=decide (f.live≠0):=by unfold gD;rw[ae]
 rw[cU,bJ,ca];have bR:jZ n s j=if f.live≠0 then (Z1 f.sc.length).flatMap (hb n s j f) else[]:=by unfold jZ;rw[ae]
 refine⟨fun ax=>bk _ ?_,fun ay=>?_⟩
 ·rw[bR,if_neg (by simpa using ax),Y8];exact aQ
 have bT:f.live≠0:=by simpa using ay
 rw[bR,if_pos bT] at bk;have dX:f.sc.length≤6:=(Z.funs f (x2 ae)).1.scope.2;refine au aQ.2.1 (Y bQ ?_);refine (kI (h.ext aQ.1) ae).mono ?_;rintro aO dY _ ⟨bU,bm,_,bV⟩;have cV:=aQ.ext bU;have cW:=bQ.ext bU;rw[aK al.u bV.ls];refine bS.range f.sc.length (fun p aj=>hE w aj ao ad go (aN++(Z1 p).flatMap (hb n s j f))∧aa aj aw ab [.int .i64 (j:Int)]∧ak .i64 ab aj bm aO f.sc) (by omega) ⟨by simpa using cV,cW,bV⟩ ?_ ?_
 rotate_left
 ·rintro aj cZ ⟨aR,_⟩;refine cH (by omega) ?_;exact bk _ aR
 rintro p aj cZ aS ⟨aR,c0,bW⟩ az;have c1:(Z1 (p+1)).flatMap (hb n s j f)=(Z1 p).flatMap (hb n s j f)++hb n s j f p:=tM p;have c2:=js (l:=Z1 p) (f:=hb n s j f) (k:=64) fun v _=>Am Z;rw[List.length_range] at c2;rw[c1,←Y2] at az;have c3:(aN++(Z1 p).flatMap (hb n s j f)).length≤384*j+384:=by rw[u7];omega
 generalize aN++(Z1 p).flatMap (hb n s j f)=aA at aR az c3;have hu:f.sc[p]? =some (f.sc.getD p 0):=by rw[u4,x4 aS,V4]
 have bX:=(Z.funs f (x2 ae)).1;have bY:=(bX.scope.1 _ (x2 hu)).1;have c4:=bX.vars _ (x2 hu);have bZ:=fun v (ac:v∈cd s (f.sc.getD p 0))=>Kz (n:=n) Z ae bT aS ac;have c5:hb n s j f p=(cd s (f.sc.getD p 0)).flatMap fun v=>eJ n s j f p (f.sc.getD p 0) v++fF n s j f p (f.sc.getD p 0) v:=rfl;have b1:=fun v x r (aS:hD s j p v f (f.sc.getD p 0) x)=>KA (n:=n) (r:=r) Z aS;rw[c5] at az;generalize b2:f.sc.getD p 0=u at hu bY c4 bZ az b1;have bn:=Z.vars;obtain⟨x,b3⟩:=aE (l:=s.vars) (i:=u.toNat) (by omega);have c6:cd s u=cc x:=by unfold cd;rw[b3]
 refine bC (by omega) ?_;rw[a1 al.u ab.i (by kernel_rfl) bW.ls hu];refine bg ab.i fun aC dZ ea b4 b5=>?_;refine bg ab.i fun aD eb ec bo c7=>?_;have ed:=b5.lt;have ee:=b4.size;have z12:=bo.size;refine aY (g:=aC) (o:=0) (v:=.int .i64 (p:Int)) ab.i rfl rfl (b5.ext bo) (by decide) fun c8 b6 ef bp=>?_;have bp:aa c8 aC ab [.int .i64 (p:Int)]:=bp;refine aY (g:=aD) (o:=0) (v:=.int .i64 u) ab.i rfl rfl (c7.U b6 (by omega)) (by decide) fun b7 b8 eg aU=>?_;have aU:aa b7 aD ab [.int .i64 u]:=aU;have c9:=bp.U b8 (by omega);have bq:Ext aj b7:=((b4.trans bo).then b6 fun r ai he=>by have he:r=aC:=he;omega).then b8 fun r ai he=>by have he:r=aD:=he;omega
 have aV:=aR.ext bq;have da:=c0.ext bq;have db:=bW.ext bq;refine au aV.2.1 (Y aU ?_);refine (mV (i:=u) (h.ext aV.1)).mono ?_;rintro _ eh _ ⟨⟨b,m,rfl,b9⟩,dc⟩;refine (pO (b:=b) (n:=m)).mono ?_;rintro _ dd _ ⟨de,aW,rfl,ei,cb⟩;have bt:=qP b9 bY b3;rw[←c6] at bt;have am:=dc.trans de;have ej:=qT (i:=u) Z;have df:∀ v,(eJ n s j f p u v++fF n s j f p u v).length≤2:=fun v=>by
  have h1:(eJ n s j f p u v).length≤1:=iG;have bu:(fF n s j f p u v).length≤1:=iG;rw[u7];omega
 obtain⟨X,ah⟩:∃ X:x1→Prop,X=fun E=>aa E aw ab [.int .i64 (j:Int)]∧aa E aC ab [.int .i64 (p:Int)]∧aa E aD ab [.int .i64 u]∧ak .i64 ab E bm aO f.sc∧aa E aW bx [.int .u64 (b:Int),.int .i64 (m:Int)]:=⟨_,rfl⟩;have bw:∀ {aF E:x1},X aF→oC aF E→X E:=fun W aG=>by
  rw[ah] at W ⊢;obtain⟨dg,dh,di,dj,dk⟩:=W;exact⟨aG _ _ _ dg (by decide) (by decide),aG _ _ _ dh (by decide) (by decide),aG _ _ _ di (by decide) (by decide),Kx dj aG (by decide) (by decide),aG _ _ _ dk (by decide) (by decide)⟩
 have aX:∀ {aF E:x1},X aF→Ext aF E→X E:=fun W J=>bw W (.ext J);have aH:∀ {E:x1},X E→aa E aw ab [.int .i64 (j:Int)]:=fun W=>by rw[ah] at W;exact W.1
 have bz:∀ {E:x1},X E→aa E aC ab [.int .i64 (p:Int)]:=fun W=>by rw[ah] at W;exact W.2.1
 have ce:∀ {E:x1},X E→aa E aD ab [.int .i64 u]:=fun W=>by rw[ah] at W;exact W.2.2.1
 have dl:∀ {E:x1},X E→ak .i64 ab E bm aO f.sc:=fun W=>by rw[ah] at W;exact W.2.2.2.1
 have cg:∀ {E:x1},X E→aa E aW bx [.int .u64 (b:Int),.int .i64 (m:Int)]:=fun W=>by rw[ah] at W;exact W.2.2.2.2
 have dm:X dd:=by rw[ah];exact⟨da.ext am,c9.ext am,aU.ext am,db.ext am,cb⟩
 clear ah;refine jz.old ⟨_,false,iQ,#[.pointer (some ⟨aW,0,none⟩)],_,_,_,_,fun q w'=>hE w w' ao ad go (aA++((cd s u).take q).flatMap fun v=>eJ n s j f p u v++fF n s j f p u v)∧X w',fun _ _ _=>False,rfl,(pN (g:=aW) b9.1).s,?_,
  fun _ _ J h=>⟨h.1.ext J,h.2.ext J⟩,fun _ _ _ ch h=>⟨h.1.ext ch,aX h.2 ch⟩,fun _ _ _ _ _ h=>h,⟨cb,ap.ext (aV.1.trans am)⟩,⟨by simpa using aV.ext am,dm⟩,?_,?_,fun _ _ h=>h.elim,fun _ _ _ h=>h.elim⟩
 ·rintro _ _ _ _ ⟨_,_,_,_,rfl⟩;rfl
 rotate_left
 ·rintro q dn rfl ⟨aJ,aZ⟩;have dp:(cd s u).take (e7 b m).length=cd s u:=Z0 (by rw[←bt,r8];exact r9 _);rw[dp] at aJ;rw[aB];exact az _ ⟨aJ,aH aZ,dl aZ⟩
 rintro _ q _ dn ⟨_,_⟩ ⟨ek,rfl,v,ac,dq⟩ ⟨aJ,aZ⟩;cases dq;intro em ci _ _;have bn:(cd s u)[q]? =some (v:Int):=by rw[←bt,x7,ac];rfl
 obtain⟨cj,bA⟩:=bZ v (x2 bn);have dr:((cd s u).take (q+1)).flatMap (fun v=>eJ n s j f p u v++fF n s j f p u v)=((cd s u).take q).flatMap (fun v=>eJ n s j f p u v++fF n s j f p u v)++(eJ n s j f p u v++fF n s j f p u v):=by
  rw[u5,bn,j5,List.flatMap_append,List.flatMap_singleton]
 have dt:=js (l:=(cd s u).take q) (f:=fun v=>eJ n s j f p u v++fF n s j f p u v) (k:=2) fun v _=>df v;rw[o6] at dt;have du:(aA++((cd s u).take q).flatMap fun v=>eJ n s j f p u v++fF n s j f p u v).length≤384*j+448:=by rw[u7];omega
 have a2:aA++((cd s u).take (q+1)).flatMap (fun v=>eJ n s j f p u v++fF n s j f p u v)=(aA++((cd s u).take q).flatMap (fun v=>eJ n s j f p u v++fF n s j f p u v))++eJ n s j f p u v++fF n s j f p u v:=by rw[dr,Y2,Y2]
 generalize aA++((cd s u).take q).flatMap (fun v=>eJ n s j f p u v++fF n s j f p u v)=bB at aJ du a2;have a6:=aJ.ext ci;have bD:=aX aZ ci;have en:(eJ n s j f p u v).length≤1:=iG;refine cX (fun bE=>hE w bE ao ad go (bB++eJ n s j f p u v)∧X bE) ?_ ?_
 ·rintro bE ⟨aL,bF⟩;have dv:(bB++eJ n s j f p u v).length≤384*j+449:=by rw[u7];omega
  generalize bB++eJ n s j f p u v=eo at aL dv a2;refine au aL.2.1 (Y (aH bF) (Y (bz bF) ?_));refine (J4 (j:=(j:Int)) (pos:=(p:Int)) (v:=(v:Int)) (h.ext aL.1) (ap.ext aL.1)).mono ?_;rintro r dw _ ⟨ck,ai⟩;obtain⟨c,d,e,rfl,he,dx⟩:=b1 v cj r bA ai;have bG:=aL.ext ck;have an:=aX bF ck;rw[e1,e2,e3];refine aI (fun r cl=>r= .bool (decide (f.sc.length=2∧p=0∧0<(qS n s j f v).1))∧cl=dw) ?_ ?_
  ·rintro _ _ ⟨rfl,rfl⟩;rw[af];refine⟨fun ay=>?_,fun ax=>?_⟩
   ·obtain⟨bH,dz,o,g,cm,dA,dC⟩:=bG;rw[av (v:=o) (by kernel_rfl) (cm.cell (o:=0) rfl)];refine Y (ce an) (Y (aH an) ?_);rw[ct (cs:=#[.int .i64 3,.int .i64 u,.int .i64 (j:Int),.int .i64 (v:Int)]) (by kernel_rfl)];refine oD ⟨3,u,j,v⟩ bH dz cm dA dC bb rfl (by omega) fun cl cn dD=>?_;have cp:=bw an dD;refine⟨⟨cg cp,ap.ext cn.1⟩,⟨?_,cp⟩,fun h=>by cases h⟩;rw[a2];unfold fF fo;rw[if_pos ay];exact cn
   ·refine⟨⟨cg an,ap.ext bG.1⟩,⟨?_,an⟩,fun h=>by cases h⟩;rw[a2];unfold fF fo;rw[if_neg ax,Y8];exact bG
  ·intro ep bI;rw[bc,af];refine⟨fun bK=>?_,fun bK=>bI _ _ ⟨by rw[decide_eq_false fun h=>bK (he.2 h.1)],rfl⟩⟩;have bu:=he.1 bK;refine Y (bz an) ?_;rw[bc,af];refine⟨fun cq=>?_,fun cq=>bI _ _ ⟨by rw[decide_eq_false fun h=>cq (by omega)],rfl⟩⟩;rw[br];refine bI _ _ ⟨?_,rfl⟩;congr 1;rw[←dx bu (by omega)];exact decide_eq_decide.2 ⟨fun h=>⟨bu,by omega,h⟩,fun h=>h.2.2⟩
 ·intro er cr;refine au a6.2.1 (Y (aH bD) (Y (bz bD) ?_));have cu:=h.ext a6.1;refine (Kg (j:=(j:Int)) (pos:=(p:Int)) (v:=(v:Int)) cu (ap.ext a6.1) (Ky cu)).mono ?_;rintro r dE _ ⟨cw,_,ai⟩;obtain⟨es,rfl,bL⟩:=ai f u cj (by rw[←b2];rw[←b2] at bA;exact bA);simp only[j6] at bL ⊢;have cz:fE n.k (dI s j) (et s f.sc p f.sc.length 0 ((u6 f.sc.length 0).set p (v:Int)))=oz n s j f p v:=rfl;rw[cz] at bL;rw[cz];obtain⟨a,eu,ev,rfl,dF⟩:=bL.nil;have cA:=a6.ext cw;have a8:=aX bD cw;rw[e1,e2,e3];refine aI (fun r cB=>r= .bool (decide (0<(oz n s j f p v).1∨(oz n s j f p v).2=none))∧cB=dE) ?_ ?_
  ·rintro _ _ ⟨rfl,rfl⟩;rw[af];refine⟨fun ay=>?_,fun ax=>cr _ ⟨?_,a8⟩⟩
   ·obtain⟨bH,dG,o,g,cD,dH,dJ⟩:=cA;rw[av (v:=o) (by kernel_rfl) (cD.cell (o:=0) rfl)];refine Y (ce a8) (Y (aH a8) ?_);rw[ct (cs:=#[.int .i64 2,.int .i64 u,.int .i64 (j:Int),.int .i64 (v:Int)]) (by kernel_rfl)];refine oD ⟨2,u,j,v⟩ bH dG cD dH dJ bb rfl (by omega) fun cB dK dL=>cr _ ⟨?_,bw a8 dL⟩;unfold eJ fo;rw[if_pos ay];exact dK
   ·unfold eJ fo;rw[if_neg ax,Y8];exact cA
  ·intro ew cE;rw[br,af];refine⟨fun h1=>cE _ _ ⟨by rw[decide_eq_true (.inl h1)],rfl⟩,fun h1=>?_⟩;rw[ma al.u,dF];refine cE _ _ ⟨?_,rfl⟩;congr 1;exact decide_eq_decide.2 ⟨.inr,fun h=>h.resolve_left h1⟩
end
def lM (l:List Int):Int:=(l.find? fun x=>decide (x≠0)).getD 0
theorem KC {O:y0} (h:ay .i64 w O l):ag x5 vf [O] w fun v w'=>v= .int .i64 (lM l)∧Ext w w':=by
 refine ap func35 ?_;rw[aK al.u h];refine bO.range l.length (fun i _ J=>Ext w J∧lM l=lM (l.drop i)) h.le ⟨Ext.refl _,by simp⟩ ?_ ?_
 ·rintro i _ J k hi ⟨E,h1⟩ V;refine bC (by omega) ?_;obtain⟨y,U⟩:=aE (l:=l) hi;have e:l.drop i=y::l.drop (i+1):=by rw[Y1 hi,(x3.1 U).2]
  rw[a1 al.u ab.i (by kernel_rfl) (h.ext E) U,bj,af];refine⟨fun W=>⟨?_,E⟩,fun he=>?_⟩
  ·rw[h1,e];unfold lM;rw[List.find?_cons,decide_eq_true W];rfl
  ·rw[aB];refine V _ _ ⟨E,?_⟩;rw[h1,e];unfold lM;rw[List.find?_cons,decide_eq_false he]
 ·rintro _ J k ⟨E,h1⟩;rw[List.drop_length] at h1;rw[aC,af];exact⟨fun h=>by omega,fun _=>⟨by rw[h1];rfl,E⟩⟩
theorem KD (a b:cG):lM [eu a.ee b.ee,eu a.i b.i,eu a.j b.j,eu a.v b.v]=m9 a b:=by
 unfold lM m9;by_cases h1:eu a.ee b.ee≠0
 ·simp[h1]
 by_cases E:eu a.i b.i≠0
 ·simp[h1,E]
 by_cases J:eu a.j b.j≠0
 ·simp[h1,E,J]
 by_cases O:eu a.v b.v≠0
 ·simp[h1,E,J,O]
 ·simp[h1,E,J,O];omega
def hc:List (List Int):=[[110,111,110,101],[110,99],[97,99],[102,100,97,99],[101,100,97,99]]
def eT (level:Int):List Int:=if 0≤level then hc.getD level.toNat [] else[]
theorem qW (level:Int):Bytes (eT level):=by
 unfold eT;split
 ·rw[u4];cases h:hc[level.toNat]? with
  |none=>intro b E;cases E
  |some l=>
   have:∀ l∈hc,∀ b∈l,0≤b∧b<256:=by decide
   exact this l (x2 h)
 ·intro b E;cases E
theorem na (level:Int):eT level=[]↔¬(0≤level∧level<5):=by
 unfold eT;by_cases h:0≤level∧level<5
 ·rw[if_pos h.1,u4];have J:level.toNat<hc.length:=by show _<5;omega
  rw[x4 J,V4];have:∀ l∈hc,l≠[]:=by decide
  exact⟨fun E=>absurd E (this _ (U6 J)),fun E=>absurd h E⟩
 ·refine⟨fun _=>h,fun _=>?_⟩;split
  ·rw[u4,c8 (by show 5≤_;omega),Option.getD_none]
  ·rfl
section
variable {w:x1} {ao gT:Nat} {A R:am} {n:aV} {s:aN} {t:aH} {level:Int}
theorem Ar:ag x5 Br [.int .i64 level] w fun v w'=>Ext w w'∧v=be (eT level):=by
 refine ap func9 ?_;rw[ct (cs:=(hc.map be).toArray) (by kernel_rfl)];refine bg kh.i fun g ab ac W X=>?_;refine rT (k:=5) (o:=0) (vs:=hc.map be) kh.i rfl (by intro u hu;obtain⟨l,_,rfl⟩:=o8.1 hu;rfl) X (by decide) fun V Y ad E=>?_;have E:aa V g kh (hc.map be):=by rw[vT (by rfl)] at E;exact E
 have J:Ext w V:=W.put Y (by omega);refine aI (fun r Z=>r= .bool (decide (¬(0≤level∧level<5)))∧Z=V) ?_ ?_
 ·rintro _ _ ⟨rfl,rfl⟩;rw[af];refine⟨fun h=>⟨J,?_⟩,fun h=>?_⟩
  ·rw[(na level).2 h];rfl
  have h:=Z6.1 h;have O:level.toNat<hc.length:=by show _<5;omega
  have e:eT level=hc[level.toNat]:=by unfold eT;rw[if_pos h.1,u4,x4 O];rfl
  rw[show level=((level.toNat:Nat):Int) by omega,pv kh.u bY.i (by omega),
   av (v:=be (eT level)) (by kernel_rfl) (E.cell (by rw[V0,V2,x7,x4 O,e];rfl)),show ((level.toNat:Nat):Int)=level by omega]
  exact⟨J,rfl⟩
 ·intro ae U;rw[aC,af];refine⟨fun h1=>U _ _ ⟨by rw[decide_eq_true (by omega)],rfl⟩,fun h1=>?_⟩;rw[cn];refine U _ _ ⟨?_,rfl⟩;congr 1;exact decide_eq_decide.2 ⟨fun h=>by omega,fun h=>by omega⟩
theorem KE {a:cG} {J:Nat} (U:aa w J ab [.int .i64 level]):ag x5 BD [.agg (eI a).toArray,.pointer (some ⟨J,0,none⟩)] w fun r w'=>r= .bool (decide (level<a.ee))∧Ext w w':=by
 refine ap func32 ?_;refine a7 fun V W X O E=>?_;have E:aa W V cu (eI a):=E;rw[aP cu.p 0 E rfl,av (v:=.int .i64 level) (by kernel_rfl) ((U.ext O).cell (o:=0) rfl),br];exact⟨rfl,O⟩
theorem KF {a b:cG}:ag x5 ve [.agg (eI a).toArray,.agg (eI b).toArray] w fun u w'=>Ext w w'∧u= .int .i64 (m9 a b):=by
 refine ap func34 ?_;refine a7 fun ad am an ae U=>?_;refine a7 fun af V ao Z W=>?_;have U:aa V ad cu (eI a):=aa.ext U Z;have W:aa V af cu (eI b):=W;intro aq X _ _;have E:=U.ext X;have J:=W.ext X;rw[aF cu.p rfl,av (v:=.int .i64 a.ee) (o:=0+0) (by kernel_rfl) (E.cell rfl),aF cu.p rfl,av (v:=.int .i64 b.ee) (o:=0+0) (by kernel_rfl) (J.cell rfl),
  aF cu.p rfl,av (v:=.int .i64 a.i) (o:=0+1) (by kernel_rfl) (E.cell rfl),aF cu.p rfl,av (v:=.int .i64 b.i) (o:=0+1) (by kernel_rfl) (J.cell rfl),
  aF cu.p rfl,av (v:=.int .i64 a.j) (o:=0+2) (by kernel_rfl) (E.cell rfl),aF cu.p rfl,av (v:=.int .i64 b.j) (o:=0+2) (by kernel_rfl) (J.cell rfl),
  aF cu.p rfl,av (v:=.int .i64 a.v) (o:=0+3) (by kernel_rfl) (E.cell rfl),aF cu.p rfl,av (v:=.int .i64 b.v) (o:=0+3) (by kernel_rfl) (J.cell rfl)]
 refine mJ.mono ?_;rintro _ au _ ⟨rfl,O⟩;refine⟨.inl O,?_⟩;refine mJ.mono ?_;rintro _ aw _ ⟨rfl,Y⟩;refine⟨.inl (O.trans Y),?_⟩;refine mJ.mono ?_;rintro _ ax _ ⟨rfl,ac⟩;refine⟨.inl ((O.trans Y).trans ac),?_⟩;refine mJ.mono ?_;rintro _ ay _ ⟨rfl,ah⟩;refine nA (l:=[eu a.ee b.ee,eu a.i b.i,eu a.j b.j,eu a.v b.v]) al.u ab.i (by omega) rfl (by kernel_rfl) fun az aA aB aC ai aj=>?_;refine (KC aj.ls).mono ?_;rintro _ aD _ ⟨rfl,ak⟩;exact⟨((((((ae.trans Z).trans X).trans O).trans Y).trans ac).trans ah).trans (ai.trans ak),by rw[KD]⟩
def As (M:List cG):Prop:=∀ (p q:Nat) (x y:cG),p<q→M[p]? =some x→M[q]? =some y→m8 x≤m8 y
theorem KG {g:Nat} {L:List cG} (h:gg w g v L) (O:L.length<65536) (U:s.funs.length≤100000000) (V:∀ a∈L,oA n s a):
  ag x5 BE [v,.func (.func ve) #[] #[]] w fun _ w'=>ad (fun r=>leadsTo v r) w w'∧ ∃ M,M.Perm L∧As M∧gg w' g v M:=
 sG F5 (G:=oA n s) (num:=m8) (cf:=m9) (cap:=#[]) Gc Gd (fun a _=>oB a) (fun a _=>rfl) (fun a b E J=>Kk U E J) (Enters.of x5 Ge rfl (by kernel_rfl)) h V O fun W a b X E J=>KF
def KH (n:aV) (s:aN) (level:Int) (B:Nat) (w':x1) (r:y0):Prop:=(¬(0≤level∧level<5)→r= .tuple #[.slice none 0 0,.int .i64 1])∧
 ((0≤level∧level<5)→ ∃ v g M,r= .tuple #[v,.int .i64 0]∧gg w' g v M∧M.Perm (j0 n s level)∧As M∧ ∀ r,leadsTo v r→B≤r)
set_option maxHeartbeats 1000000 in
theorem tO (h:cC w ao gT A R n s t) (al:Laid w) (aP:s.funs.length≤160):ag x5 vc [.pointer (some ⟨ao,0,none⟩),.int .i64 level] w fun r w'=>Ext w w'∧KH n s level w.heap.size w' r:=by
 have W:=h.2.2.2.1;have aQ:=W.jk.2.1;refine ap func8 ?_;refine a7 fun X ax aS am J=>?_;have J:aa ax X ab [.int .i64 level]:=J;rw[cQ dy.u];simp only[c6,aR];rw[av (v:=.int .i64 level) (by kernel_rfl) (J.cell (o:=0) rfl)];refine Ar.mono ?_;rintro _ V _ ⟨O,rfl⟩;rw[show (y0.string ⟨#[]⟩)=be [] from rfl,r6 (qW level) (fun b ay=>by cases ay),af];refine⟨fun ad=>⟨am.trans O,fun _=>rfl,fun h1=>absurd h1 ((na level).1 ad)⟩,fun ad=>?_⟩;have az:0≤level∧level<5:=Z6.1 fun h1=>ad ((na level).2 h1);have Y:=am.trans O;refine (Kw (h.ext Y) (al.ext Y)).mono ?_;rintro v3 aT _ ⟨ae,aU,aA,ah⟩;have ai:=Y.trans ae;refine (KB (h.ext ai) (al.ext ai) (by omega)).mono ?_;rintro v4 aV _ ⟨Z,aW,aB,aX⟩;have aC:=ai.trans Z;have aY:=Al (m:=n.sizes.length) W;have aZ:=An (m:=s.funs.length) W;have a1:=Y.size;have z3:=ae.size;have z4:=Z.size;refine qK cY.u cu.i rfl (aA.ext Z) aB.sl (fun _ _=>rfl) (fun a _=>oB a) (by omega) (by omega) fun v5 an aj ak aD aq=>?_;rw[hM];have ak:gg aj an v5 (lL n s):=ak;have aE:(lL n s).length≤65000:=by unfold lL;rw[u7];omega
 have ac:∀ r,leadsTo v5 r→V.heap.size≤r:=fun r E=>(aD r E).elim (ah r) fun h=>by omega
 have aF:Ext w aj:=aC.then aq fun r E he=>by have:=ah r he;omega
 have a2:=J.lt;have aG:aa aj X ab [.int .i64 level]:=(((J.ext O).ext ae).ext Z).U aq fun he=>by have:=ah X he;have:=O.size;omega
 refine (Ku (p:=fun a=>decide (level<a.ee)) ak (by omega) fun w' x aH _=>KE (aG.U aH fun he=>by have:=ac X he;have:=O.size;omega)).mono ?_;rintro aI a6 _ ⟨aJ,au,aw⟩;have aK:(lL n s).filter (fun a=>!decide (level<a.ee))=j0 n s level:=by
  unfold j0;refine List.filter_congr fun a _=>?_;by_cases h1:level<a.ee
  ·rw[decide_eq_true h1,decide_eq_false (by omega)];rfl
  ·rw[decide_eq_false h1,decide_eq_true (by omega)];rfl
 rw[aK] at au;have a8:(j0 n s level).length≤65000:=Z3 (List.length_filter_le _ _) aE;refine (KG (s:=s) (n:=n) au (by omega) (by omega) fun a aL=>Kj W ((List.mem_filter.1 aL).1)).mono ?_;rintro _ ba _ ⟨aM,M,aN,hu,aO⟩;refine⟨(aF.then aJ fun r E he=>by have:=ac r he;omega).then aM fun r E he=>by have:=ac r (aw r he);omega,fun h1=>absurd az h1,fun _=>⟨aI,an,M,rfl,aO,aN,hu,fun r E=>by have:=ac r (aw r E);omega⟩⟩
theorem Au:ag x5 vc [.pointer none,.int .i64 level] w fun r w'=>r= .tuple #[.slice none 0 0,.int .i64 2]∧Ext w w':=by
 refine ap func8 ?_;refine a7 fun J O U E V=>?_;rw[cQ dy.u,Option.isNone_none,bq];exact⟨rfl,E⟩
theorem KI (h:cC w ao gT A R n s t) (Y:Laid w) (Z:s.funs.length≤160):ag x5 vb [.pointer (some ⟨ao,0,none⟩),.int .i64 level] w fun r w'=>Ext w w'∧(¬(0≤level∧level<5)→r= .tuple #[.bool false,.int .i64 1])∧((0≤level∧level<5)→r= .tuple #[.bool (decide (j0 n s level=[])),.int .i64 0]):=by
 refine ap func7 ?_;refine (tO h Y Z).mono ?_;rintro r U _ ⟨W,aa,ab⟩;by_cases E:0≤level∧level<5
 ·obtain⟨v,g,M,rfl,hm,ac,_⟩:=ab E;rw[a8,ba];refine fS (fun a b V=>a= .bool (decide (j0 n s level=[]))∧b= .int .i64 0∧V=U) ?_ ?_
  ·rintro _ _ _ ⟨rfl,rfl,rfl⟩;exact⟨W,fun h=>absurd E h,fun _=>rfl⟩
  ·intro ad J;rw[bc,af];refine⟨fun _=>?_,fun h=>absurd rfl h⟩;rw[dA cY.u hm,bc];refine J _ _ _ ⟨?_,rfl,rfl⟩;congr 1;have O:=ac.length_eq;refine decide_eq_decide.2 ⟨fun X=>o9 (by omega),fun X=>?_⟩;rw[X] at O;simp at O;simp[O]
 ·obtain rfl:=aa E;rw[a8,ba];refine fS (fun a b V=>a= .bool false∧b= .int .i64 1∧V=U) ?_ ?_
  ·rintro _ _ _ ⟨rfl,rfl,rfl⟩;exact⟨W,fun _=>rfl,fun h=>absurd h E⟩
  ·intro ad J;rw[bc,af];exact⟨fun h=>absurd h (by decide),fun _=>J _ _ _ ⟨rfl,rfl,rfl⟩⟩
theorem Av:ag x5 vb [.pointer none,.int .i64 level] w fun r w'=>r= .tuple #[.bool false,.int .i64 2]∧Ext w w':=by
 refine ap func7 ?_;refine Au.mono ?_;rintro _ E _ ⟨rfl,J⟩;rw[a8,ba];refine fS (fun a b V=>a= .bool false∧b= .int .i64 2∧V=E) ?_ ?_
 ·rintro _ _ _ ⟨rfl,rfl,rfl⟩;exact⟨rfl,J⟩
 ·intro U O;rw[bc,af];exact⟨fun h=>absurd h (by decide),fun _=>O _ _ _ ⟨rfl,rfl,rfl⟩⟩
theorem KJ:ag x5 Bs [.pointer none] w fun r w'=>r= .int .i64 0∧Ext w w':=by
 refine ap func10 ?_;refine aI (fun r E=>r= .int .i64 0∧Ext w E) (fun _ _ h=>h) fun U J=>?_;refine⟨fun v E=>v= .int .i64 0∧E=w,fun _ _=>0,⟨rfl,rfl⟩,?_⟩;rintro _ _ ⟨rfl,rfl⟩;rw[aC,af];refine⟨fun _=>?_,fun h=>absurd (by decide) h⟩;rw[aB,wrap_i64 (by omega) (by omega)];refine Av.mono ?_;rintro _ V _ ⟨rfl,O⟩;rw[a8,ba,bJ,Y9,bq];exact J _ _ ⟨rfl,O⟩
end
def oE:cG:=⟨1,0,-1,-1⟩
theorem KK {Z aa:Nat} {W X:y0} (h1:gg w Z W [oE]) (Y:gg w aa X [oE]):ag x5 Bt [W,X] w fun v w'=>v= .bool true∧Ext w w':=by
 refine ap func21 ?_;rw[dA cY.u h1,dA cY.u Y,bj,af];refine⟨fun h=>absurd rfl h,fun _=>?_⟩;rw[dA cY.u h1];refine bO.range 1 (fun _ _ E=>Ext w E) (by omega) (Ext.refl _) ?_ ?_
 ·rintro i t4 E k hi J ab;refine bC (by simp;omega) ?_;intro V ac _ _;have U:=J.trans ac;obtain rfl:i=0:=by omega
  rw[qV (h1.ext U) rfl,qV (Y.ext U) rfl];have ad:∀ {ae:x1} {K:y0→Prop},O x5 (ax .neq cu false false (.agg (eI oE).toArray) (.agg (eI oE).toArray)) ae K=K (.bool false):=O.of fun w' _=>by kernel_rfl
  rw[ad,aR,aB];exact ab _ _ U
 ·rintro t4 E k J;refine cH (by simp) ?_;exact⟨rfl,J⟩
theorem KL:(er (dm fG)).funs.length≤160:=by decide+kernel
theorem KM (ad:en w) (ah:Laid w):ag x5 Bp [] w fun v w'=>v= .bool true∧Ext w w':=by
 refine ap func5 ?_;refine hN (k:=1) (cs:=(ints .u8 iH).toArray) b5.u b4.i (by omega) (by kernel_rfl) fun g ai aS E J=>?_;have U:ak .u8 b4 ai g (.slice (some ⟨g,0,none⟩) 27 27) iH:=ak.of (n:=27) (bz.full (by simpa using J) (by simp[iH]) (by simp[maxLen]));refine Kl J fun O W X=>?_;have E:Ext w O:=E.put W (by omega);have aj:ay .u8 O (.slice (some ⟨g,0,none⟩) 27 27) iH:=by
  obtain⟨al,b,o,base,cap,am,an,aq,au,av⟩:=U.ls;cases am;cases au (by simp[iH]);exact⟨al,g,0,_,27,rfl,an,aq,fun _=>rfl,X _ _ av⟩
 clear U J X W;refine (z8 aj (by intro b aw;simp[iH] at aw;omega) (ad.ext E)).mono ?_;rintro _ V _ ⟨ax,az,sv,ok,rfl,⟨cs,rfl,aA,aB⟩,aC,aD⟩;have Y:eA (iH.take 300)=some fG:=by
  rw[Z0 (by decide)];exact Km
 have aE:ok=true:=aD fG Y Kn;subst aE;obtain⟨f,ae,ao,gT,A,R,t,N,aT,rfl,aF,_⟩:∃ f,eA (iH.take 300)=some f∧z7 O.heap.size V az (.agg cs.toArray) f:=by
  rcases aC with⟨h,_⟩|⟨_,h⟩
  ·cases h
  ·exact h
 rw[Y] at ae;cases ae;have aG:=E.trans ax;rw[e1,e2,e3];refine bg b7.i fun aU aV aW aH aJ=>?_;refine bP (vs:=cs) b7.i aA rfl aB aJ fun aK aL aX aY=>?_;have Z:Ext V aK:=aH.put aL (by omega);have aa:=aG.trans Z;refine (tO (level:=1) (aF.ext Z) (ah.ext aa) KL).mono ?_;rintro r aZ _ ⟨aM,_,aN⟩;obtain⟨v,a1,M,rfl,hm,ab,_⟩:=aN (by omega);rw[Ko] at ab;obtain rfl:=List.perm_singleton.1 ab;rw[a8,ba];refine aI (fun v aO=>v= .bool true∧Ext w aO) (fun _ _ h=>h) fun a2 aP=>?_;rw[bq,bc,af];refine⟨fun _=>?_,fun h=>absurd rfl h⟩;rw[ct (cs:=#[.int .i64 1,.int .i64 0,.int .i64 (-1),.int .i64 (-1)]) (by kernel_rfl)];refine eQ (f:=eI) (a:=oE) cY.u cu.i (by omega) rfl rfl fun y a6 a7 bb ac aQ=>?_;refine (KK (hm.ext ac) aQ).mono ?_;rintro _ bd _ ⟨rfl,aR⟩;exact aP _ _ ⟨rfl,((aa.trans aM).trans ac).trans aR⟩
set_option maxHeartbeats 4000000 in
theorem KN {p:y0} {ai:List Int} {level:Int} (az:ay .u8 w p ai) (aA:∀ b∈ai,0≤b∧b<256) (aj:en w) (U:Laid w):ag x5 Bo [p,.int .i64 level] w fun r w'=>r= .bool true∧Ext w w':=by
 refine ap func3 ?_;refine (KM aj U).mono ?_;rintro _ bf _ ⟨rfl,aB⟩;rw[bJ,Y0,aR];refine hN (k:=1) (cs:=(hc.map be).toArray) pn.u bY.i (by omega) (by kernel_rfl) fun aD V bh aE W=>?_;have W:aa V aD bY (hc.map be):=by simpa using W
 refine aI (fun v X=>v=be (eT level)∧X=V) ?_ ?_
 rotate_left
 ·intro aF E;refine aI (fun r X=>r= .bool (decide (0≤level∧level<5))∧X=V) ?_ ?_
  ·rintro _ _ ⟨rfl,rfl⟩;rw[af];refine⟨fun h=>?_,fun h=>E _ _ ⟨by rw[(na level).2 h];rfl,rfl⟩⟩;have ak:level.toNat<hc.length:=by show _<5;omega
   have e:eT level=hc[level.toNat]:=by unfold eT;rw[if_pos h.1,u4,x4 ak];rfl
   have aG:level=((level.toNat:Nat):Int):=by omega
   rw[aG,gl pn.u bY.i (by omega) (fun _=>rfl),av (v:=be (eT level)) (by kernel_rfl) (W.cell (by rw[V0,V2,x7,x4 ak,e];rfl))];exact E _ _ ⟨rfl,rfl⟩
  ·intro bi al;rw[cn,af];refine⟨fun h1=>?_,fun h1=>al _ _ ⟨by rw[decide_eq_false (by omega)],rfl⟩⟩;rw[aC];refine al _ _ ⟨?_,rfl⟩;congr 1;exact decide_eq_decide.2 ⟨fun h=>⟨h1,h⟩,fun h=>h.2⟩
 rintro _ _ ⟨rfl,rfl⟩;have Y:=aB.trans aE;refine (z8 (az.ext Y) aA (aj.ext Y)).mono ?_;rintro _ aH _ ⟨aJ,bk,sv,ok,rfl,⟨cs,rfl,aK,aL⟩,aM,_⟩;have aN:=Y.trans aJ;rw[e1,e2,e3];refine bg b7.i fun bl bm bn aO aP=>?_;refine bP (vs:=cs) b7.i aK rfl aL aP fun am aQ bo bp=>?_;have an:Ext aH am:=aO.put aQ (by omega);have aS:=aN.trans an;refine Av.mono ?_;rintro _ br _ ⟨rfl,aT⟩;rw[a8,ba];refine Au.mono ?_;rintro _ bt _ ⟨rfl,aU⟩;rw[a8,ba];have aV:=aT.trans aU;refine aI (fun r Z=>r= .bool false∧Ext am Z) ?_ ?_
 rotate_left
 ·intro bu aW;refine Ar.mono ?_;rintro _ Z _ ⟨J,rfl⟩;have no:∀ {A B:Prop} {a:Int},B→((a≠a→A)∧(¬a≠a→B)):=fun ab=>⟨fun h=>absurd rfl h,fun _=>ab⟩;rw[r7 (qW level) (qW level),af];refine⟨fun h=>absurd rfl h,fun _=>?_⟩;rw[bj,af];refine no ?_;rw[bj,af];refine no ?_;refine KJ.mono ?_;rintro _ aX _ ⟨rfl,O⟩;rw[bj];exact aW _ _ ⟨rfl,(aV.trans J).trans O⟩
 rintro _ Z ⟨rfl,J⟩;rw[aR,bJ];have ac:=aS.trans J;rcases aM with⟨rfl,rfl⟩|⟨rfl,f,aY,ao,gT,bw,R0,t0,N,aZ,rfl,a1,_⟩
 ·rw[Y9,bq,cQ dy.u];exact⟨rfl,ac⟩
 rw[Y0,aR];have bx:=Ks aZ (by rw[o6];omega) aY;have aq:=(a1.ext an).ext J;refine (KI (level:=level) aq (U.ext ac) (by omega)).mono ?_;rintro r aX _ ⟨O,ad,ae⟩;have au:=ac.trans O;obtain⟨aw,rfl⟩:∃ aw,r= .tuple #[.bool aw,.int .i64 (if 0≤level∧level<5 then 0 else 1)]:=by
  by_cases h:0≤level∧level<5
  ·rw[if_pos h];exact⟨_,ae h⟩
  ·rw[if_neg h];exact⟨_,ad h⟩
 rw[a8,ba];refine (tO (level:=level) (aq.ext O) (U.ext au) (by omega)).mono ?_;rintro r a2 _ ⟨a6,ad,ae⟩;have a7:=au.trans a6;obtain⟨ax,rfl⟩:∃ ax,r= .tuple #[ax,.int .i64 (if 0≤level∧level<5 then 0 else 1)]:=by
  by_cases h:0≤level∧level<5
  ·rw[if_pos h];obtain⟨v,_,_,e,_⟩:=ae h;exact⟨v,e⟩
  ·rw[if_neg h];exact⟨_,ad h⟩
 rw[a8,ba];refine aI (fun r bb=>r= .bool true∧bb=a2) ?_ ?_
 ·rintro _ _ ⟨rfl,rfl⟩;exact⟨rfl,a7⟩
 intro aF E;rw[show (y0.string ⟨#[]⟩)=be [] from rfl,bc,r7 (qW level) (fun b ab=>by cases ab),Ij ig.u];by_cases h:0≤level∧level<5
 ·have ah:eT level≠[]:=fun bd=>(na level).1 bd h;rw[if_pos h,decide_eq_true (show (0:Int)=0 from rfl),decide_eq_true ah,beq_self_eq_true,bq,bc,af];refine⟨fun _=>?_,fun h=>absurd rfl h⟩;rw[bc,af];exact⟨fun _=>E _ _ ⟨rfl,rfl⟩,fun h=>absurd rfl h⟩
 ·have ah:eT level=[]:=(na level).2 h;rw[if_neg h,decide_eq_false (show ¬(1:Int)=0 by decide),decide_eq_false (fun h1=>h1 ah),beq_self_eq_true,bq,bc,af];refine⟨fun _=>?_,fun h=>absurd rfl h⟩;rw[bc,af];refine⟨fun h=>absurd h (by decide),fun _=>?_⟩;rw[bc];exact E _ _ ⟨rfl,rfl⟩
end Go.Proofs.YthjegppepbbojaaGreatDoor
