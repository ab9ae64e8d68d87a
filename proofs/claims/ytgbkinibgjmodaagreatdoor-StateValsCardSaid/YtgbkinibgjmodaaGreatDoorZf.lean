/- own texts, made small by a tool (wip/ holds them as they were written): no statement of the seat. -/
import Derived.Test.YtgbkinibgjmodaaGreatDoorZe
set_option linter.unusedVariables false
set_option linter.unusedSimpArgs false
set_option linter.unnecessarySimpa false
open Array renaming getElem?_eq_some_iff→l7,getElem?_toList→T5
open BitVec renaming ofInt→V6
open Bool renaming not_true→Y4,not_false→X4,eq_iff_iff→V1,and_eq_true→V5,or_eq_false_iff→T3
open Decidable renaming not_not→Y9
open Go renaming Value→x1,World→x2,TypeId→r8,IntKind→o4,Builtin→n0,Program→X5,Oper→U2,Operand→T0
open Go.Addr renaming add_mid→U4
open Go.Builtin renaming append_→l9,len_→Z5
open Go.Instr renaming loadAt→x6,fieldAt→x7,storeAt→o3,indexAt→o6,extract→j6,buildSlice→Z4,sliceAt→X6,alloc→T7
open Go.IntKind renaming i64→Y0,u64→U1
open Go.Proofs.Tryz renaming prog→x3
open Go.Result renaming andThen→X3
open Go.Sem renaming run_bind→X2,run_pure→X8
open Go.Sort renaming Holds→T2
open Go.Value renaming int→W5
open Int renaming toNat_natCast→Z3
open List renaming getElem?_eq_getElem→y0,getElem?_eq_some_iff→x4,mem_of_getElem?→x5,getElem?_map→x8,getD_eq_getElem?_getD→u4,length_map→u5,take_add_one→u9,replicate→r9,length_append→o5,length_take→o8,take_length→o9,mem_append→n9,take_of_length_le→l5,mem_singleton→j0,length_cons→j4,mem_map→j5,map_append→b6,eq_nil_of_length_eq_zero→b8,getElem?_take_of_lt→Z6,getElem?_append_left→Z7,getElem?_append_right→Z8,getElem?_eq_none→Z9,mem_iff_getElem?→Y2,getElem?_set→Y5,length_set→Y6,ext_getElem?→Y8,length_eq_one_iff→X1,range→X7,mem_or_eq_of_mem_set→X9,drop_eq_getElem_cons→W0,getElem?_set_ne→W3,getElem?_set_self→W8,flatMap_cons→W9,pairwise_iff_getElem→V3,append_assoc→V7,set_append_right→V8,append_nil→V9,map_set→U3,mem_cons→U5,length_singleton→U8,map_cons→T4,getElem_mem→T6,length→T9
open List.cons renaming inj→T8
open Nat renaming le_refl→o7,zero_le→Y7,mul_le_mul_right→X0,zero_add→W6,le_trans→W7,sub_self→V2,add_mul→V4,beq→U6,mul_one→T1
open Option renaming some→j9,toList_some→Z0,isNone_some→Z1,map_some→Z2,map_eq_some_iff→Y1,map→V0,getD_some→U7
open Option.some renaming inj→b9,injEq→Y3
open Prod.mk renaming injEq→U9
variable {w:x2}{a pl:List Int}{B m:Nat}
namespace Go.Proofs.YtgbkinibgjmodaaGreatDoor
open Go Go.Vc Go.RowKit Go.Proofs Go.Proofs.Tryz
set_option maxRecDepth 100000
theorem Ke {K:x1→x2→Prop} (I:∀ v g w',g=w.heap.size→Ext w w'→am .i64 U w' g v []→K v w'):ax x3 (Z4 ac 0 #[]) w K:=
 nR (l:=[]) ac.u U.i (by omega) rfl (by kernel_rfl) I
def gW (n:aS) (a:db):List Int:=match gz n (a.sc.take 4) with
 |[]=>[]
 |z::r=>(if a.v.tmod 5=0 then 1+z.tmod 3 else z)::r
theorem ug {n:aS} (J:∀ z∈n.sizes,1≤z∧z≤32) (l:List Int):(gz n l).length≤l.length∧ ∀ z∈gz n l,1≤z∧z≤32:=by
 unfold gz;refine⟨by rw[u5];exact List.length_filter_le _ _,fun z O=>?_⟩;obtain⟨v,U,rfl⟩:=j5.1 O;have h:=(List.mem_filter.1 U).2;have h:=of_decide_eq_true h;obtain⟨y,I⟩:∃ y,n.sizes[v.toNat]? =some y:=⟨_,y0 (by omega)⟩;rw[u4,I];exact J y (x5 I)
theorem Kf {n:aS} {a:db} (O:∀ z∈n.sizes,1≤z∧z≤32):bD (gW n a):=by
 obtain⟨h1,I⟩:=ug O (a.sc.take 4);rw[o8] at h1;unfold gW;split
 ·exact⟨by simp,by simp⟩
 ·rename_i z r e;rw[e] at h1 I;simp only[j4] at h1;refine⟨by simp only[j4];omega,fun x J=>?_⟩;rcases U5.1 J with rfl|J
  ·split
   ·have:=I z (.head _);have:=Int.tmod_nonneg 3 (show 0≤z by omega);have:=Int.tmod_lt_of_pos z (show 0<(3:Int) by omega);omega
   ·exact I z (.head _)
  ·exact I x (.tail _ J)
section
variable {w:x2} {al aW B:Nat} {n:aS} {s:aF} {a:db} {aA ay ce:x1} {K:x1→x2→Prop}
set_option maxHeartbeats 1000000 in
theorem Kg (aR:kh w al n.k n.sizes s) (aS:∀ z∈n.sizes,1≤z∧z≤32) (bg:dT w aW n.k a aA ay ce B)
  (bh:∀ O Y w',Ext w w'→am .i64 U w' Y O (gW n a)→(∀ r,leads O r→w.heap.size≤r)→K O w'):
  ax x3 (Z4 ac 0 #[]) w fun bi au=>
      I x3 (x7 aN (.pointer (some ⟨aW,0,none⟩)) 6) au fun bj=>
      I x3 (x6 ac bj) au fun aT=>
      I x3 (Z5 #[ac] U #[aT]) au fun bk=>
      bt bi (.int .i64 0) au fun sizes aC W k=>
       I x3 (av .lss U false false aC bk) W fun bl=>
       Split bl (be (α:=x1→x2→Prop) (fun(bm:x1) (aU:x2)=>
        I x3 (av .add U false true aC (.int .i64 1)) aU fun bo=>
        k bm bo aU) fun aV=>
       I x3 (o6 ac aT aC) W fun bp=>
       I x3 (x6 U bp) W fun aY=>
       I x3 (aX (.pointer (some ⟨al,0,none⟩))) W fun bq=>
       I x3 (x6 aK bq) W fun bu=>
       af x3 mi [bu,aY] W fun bw ag=>
       Split bw (I x3 (aX (.pointer (some ⟨al,0,none⟩))) ag fun bx=>
       I x3 (x7 aK bx 1) ag fun bz=>
       I x3 (x6 ac bz) ag fun bB=>
       I x3 (o6 ac bB aY) ag fun bC=>
       I x3 (x6 U bC) ag fun bD=>
       ax x3 (Z4 ac 1 #[(0,bD)]) ag fun bE bF=>
       ax x3 (l9 #[ac,ac] ac #[sizes,bE]) bF fun bG bH=>
       aV bG bH)
       (aV sizes ag))
       (be (α:=x2→Prop) (fun(bI:x2)=>K sizes bI) fun a1=>
      be (α:=x1→x2→Prop) (fun(bJ:x1) (ah:x2)=>
       Split bJ (I x3 (o6 ac sizes (.int .i64 0)) ah fun bK=>
       I x3 (x6 U bK) ah fun bL=>
       I x3 (av .rem U false true bL (.int .i64 3)) ah fun bM=>
       I x3 (av .add U true false (.int .i64 1) bM) ah fun bN=>
       I x3 (o6 ac sizes (.int .i64 0)) ah fun bO=>
       ax x3 (o3 U bO bN) ah fun(_:Unit) bP=>
       a1 bP)
       (a1 ah)) fun a2=>
      I x3 (Z5 #[ac] U #[sizes]) W fun bQ=>
      I x3 (av .gtr U false true bQ (.int .i64 0)) W fun bR=>
      Split bR (I x3 (x7 aN (.pointer (some ⟨aW,0,none⟩)) 2) W fun bS=>
      I x3 (x6 U bS) W fun bT=>
      I x3 (av .rem U false true bT (.int .i64 5)) W fun bU=>
      I x3 (av .eql U false true bU (.int .i64 0)) W fun bV=>
      a2 bV W)
      (a2 (.bool false) W)):=by
 obtain⟨a6,_,⟨cj,aD⟩,ck,cl⟩:=id bg;refine Ke fun cm bW J cn az a7=>?_;obtain⟨l,aE⟩:∃ l,l=a.sc.take 4:=⟨_,rfl⟩;rw[←aE] at aD;have cp:l.length≤4:=by rw[aE,o8];omega
 have cq:=az.size;rw[V aN.p rfl,aa (v:=ay) (by kernel_rfl) ((a6.ext az).cell (o:=0+6) rfl),aL ac.u (aD.ls.ext az)];refine bt.range l.length (fun i O ak=>Ext w ak∧ ∃ Y,am .i64 U ak Y O (gz n (l.take i))∧ ∀ r,leads O r→w.heap.size≤r) (by omega) ⟨az,bW,a7,fun r ao=>by obtain⟨h1,_⟩:=bn a7 ao;omega⟩ ?_ ?_
 ·rintro i O ak bX hi ⟨ai,Y,ae,aj⟩ bY;obtain⟨x,aF⟩:∃ x,l[i]? =some x:=⟨_,y0 hi⟩;rw[an,ab];refine⟨fun _=>?_,fun h=>by omega⟩;refine aM (fun O ad=>Ext w ad∧ ∃ Y,am .i64 U ad Y O (gz n (l.take (i+1)))∧ ∀ r,leads O r→w.heap.size≤r) ?_ ?_
  ·rintro O ad bZ;rw[aI];exact bY _ _ bZ
  intro b0 ap;rw[aZ ac.u U.i (by kernel_rfl) (aD.ls.ext ai) aF,aw];refine (aR.ext ai).load fun cr b1=>?_;refine (o1 (i:=x) b1).mono ?_;rintro _ ad _ ⟨rfl,aG⟩;have aB:=ai.trans aG;rw[ab];refine⟨fun b2=>?_,fun ba=>ap _ _ ⟨aB,Y,by rw[q7 aF,if_neg ba,V9];exact ae.ext aG,aj⟩⟩;obtain⟨aq,ct,cu,cw,cz,cA,b3,b4,_⟩:=aR.ext aB;obtain⟨z,aH⟩:∃ z,n.sizes[x.toNat]? =some z:=⟨_,y0 (by omega)⟩;rw[aw,V aK.p rfl,aa (v:=aq) (by kernel_rfl) (b3.cell (o:=0+1) rfl),dt (y:=x) (i:=x.toNat) (by omega) ac.u U.i (by kernel_rfl) b4 aH];refine dx (k:=.i64) ac.u U.i rfl fun v5 cB b5 cC aJ aO=>?_;have cD:(gz n (l.take i)).length≤4:=by have:=(ug aS (l.take i)).1;rw[o8] at this;omega
  refine fx ac.u U.i rfl ((ae.ext aG).ext aJ) aO.ls (by simp;omega) (by simp;omega) fun cE b6 cF b7 b8 b9=>?_;have z4:=aB.size;have z5:=aJ.size;refine ap _ _ ⟨(aB.trans aJ).then b9 fun r ao he=>by have:=aj r he;omega,b6,?_,fun r ao=>(b8 r ao).elim (aj r) fun h=>by omega⟩;rw[q7 aF,if_pos b2,u4,aH];exact b7
 rintro O ak bX ⟨ai,Y,ae,aj⟩;rw[o9,aE] at ae;rw[an,ab];refine⟨fun h=>by omega,fun _=>?_⟩;have ca:=ug aS (a.sc.take 4);refine c3 (fun ad=>Ext w ad∧am .i64 U ad Y O (gW n a)) (fun ad h=>bh O Y ad h.1 h.2 aj) fun b0 ap=>?_;refine aM (fun v ad=>ak=ad∧ ∃ b,v= .bool b∧(b=true↔gz n (a.sc.take 4)≠[]∧a.v.tmod 5=0)) ?_ ?_
 ·rintro _ ad ⟨rfl,b,rfl,bb⟩;rw[br];refine⟨fun cb=>?_,fun bc=>ap _ ⟨ai,?_⟩⟩
  ·obtain⟨cc,aP⟩:=bb.1 cb;obtain⟨z,r,e⟩:=List.exists_cons_of_ne_nil cc;have aQ:gW n a=(1+z.tmod 3)::r:=by unfold gW;rw[e];simp only;rw[if_pos aP]
   rw[e] at ae;have aH:=ca.2 z (by rw[e];exact .head _);have:=Int.tmod_nonneg 3 (show 0≤z by omega);have:=Int.tmod_lt_of_pos z (show 0<(3:Int) by omega);have cd:(0:Int)=((0:Nat):Int):=rfl;rw[dt (y:=0) (i:=0) rfl ac.u U.i (by kernel_rfl) ae.ls rfl,ik (by omega),aI,wrap_i64 (by omega) (by omega),cd,fS rfl ac.u U.i ae (by simp)];refine fT U.i ae (by simp) fun b5 cg cG aO=>ap _ ⟨ai.then cg fun r ao he=>?_,?_⟩
   ·obtain⟨_,⟨_,ch⟩|⟨cap,full,ci,_⟩⟩:=ae
    ·simp at ch
    ·have he:r=Y:=he;have:=aj Y ⟨_,_,_,ci,rfl⟩;omega
   ·rw[aQ];exact aO
  ·have aQ:gW n a=gz n (a.sc.take 4):=by
    unfold gW;split
    ·rename_i e;exact e.symm
    ·rename_i z r e;rw[if_neg,e];intro aP;rw[bb.2 ⟨by rw[e];simp,aP⟩] at bc;cases bc
   rw[aQ];exact ae
 ·intro cH bd;rw[aL ac.u ae.ls,bA,ab];refine⟨fun bf=>?_,fun ba=>bd _ _ ⟨rfl,false,rfl,⟨(fun h=>by cases h),fun h=>?_⟩⟩⟩
  ·rw[V aN.p rfl,aa (v:=.int .i64 a.v) (by kernel_rfl) ((a6.ext ai).cell (o:=0+2) rfl),ik (by omega),a8];refine bd _ _ ⟨rfl,_,rfl,⟨fun h=>⟨fun e=>by rw[e] at bf;simp at bf,of_decide_eq_true h⟩,fun h=>decide_eq_true h.2⟩⟩
  ·exact absurd (List.length_pos_iff.2 h.1) (by omega)
end
section
variable {w0 w:x2} {aj ah al aW:Nat} {A R:ag} {A9:Nat→ag} {aQ:ag} {n:aS} {s:aF} {t:aH} {h:List aH} {cs:List x1} {a:db} {aA ay ce:x1} {Q:x1→x2→Prop}
set_option maxHeartbeats 2000000 in
theorem Kh {L C:List Int} {b3 aU aV g a7:Nat} {ag aG bw:x1} (p:bE w0 aj ah al A R A9 aQ n s s t h cs) (dz:t.cells.length+700≤100000000) (dA:t.olds.length+700≤100000000) (b4:s.funs.length≤1000) (aO:Ext w0 w) (bx:dT w aW n.k a aA ay ce w0.heap.size)
  (aI:am .i64 U w b3 ag L) (ba:∀ r,leads ag r→w0.heap.size≤r) (b5:ae w aU dk [ag,.int .i64 n.k,aG]) (b6:w0.heap.size≤aU) (an:am .i64 ak w aV aG C) (bA:w0.heap.size≤aV)
  (b7:cB w g a7 bw L n.k C) (bB:w0.heap.size≤g∧w0.heap.size≤a7) (aY:∀ r,leads bw r→w0.heap.size≤r∧r≠aV) (b8:∀ c∈C,0≤c∧c≤n.k) (dC:C.length≤600)
  (b9:¬jy n s (a.sc.take 4) L→ ∀ w',Ext w0 w'→Q (.bool true) w') (ca:jy n s (a.sc.take 4) L→ ∀ w',ib w0 aj ah al A R A9 aQ n (fw s (a.sc.take 4) L C) t h w'→Q (.bool true) w'):
  I x3 (x7 aN (.pointer (some ⟨aW,0,none⟩)) 6) w fun cb=>
        I x3 (x6 ac cb) w fun cc=>
        af x3 rR [.pointer (some ⟨aj,0,none⟩),cc,.pointer (some ⟨g,0,none⟩)] w fun bC bd=>
        I x3 (j6 bC 0) bd fun bD=>
        I x3 (j6 bC 1) bd fun bF=>
        cj bd fun aP=>
        I x3 (aX (.pointer (some ⟨al,0,none⟩))) aP fun cd=>
        I x3 (x6 aK cd) aP fun cg=>
        I x3 (x7 aN (.pointer (some ⟨aW,0,none⟩)) 6) aP fun ch=>
        I x3 (x6 ac ch) aP fun ci=>
        af x3 rX [cg,ci,ag] aP fun cl aJ=>
        I x3 (Op.unary .not cl) aJ fun cm=>
        Split cm (be (α:=x1→x2→Prop) (fun(cn:x1) (cp:x2)=>
         Q cn cp) fun bG=>
        I x3 (av .eql dL false true bF (.int .i64 1)) aJ fun cq=>
        Split cq (I x3 (av .eql U false true bD (.int .i64 0)) aJ fun cr=>
        bG cr aJ)
         (bG (.bool false) aJ))
        (cj aJ fun ao=>
        I x3 (aX (.pointer (some ⟨al,0,none⟩))) ao fun bf=>
        I x3 (x7 aK bf 6) ao fun bg=>
        I x3 (x6 ck bg) ao fun bI=>
        I x3 (x7 aN (.pointer (some ⟨aW,0,none⟩)) 6) ao fun ct=>
        I x3 (x6 ac ct) ao fun cu=>
        I x3 (x7 dk (.pointer (some ⟨aU,0,none⟩)) 2) ao fun cw=>
        I x3 (x6 au cw) ao fun cz=>
        I x3 (Instr.build aT #[(0,cu),(1,ag),(2,cz)]) ao fun cA=>
        I x3 (Instr.build dj #[(0,cA),(1,(.bool true))]) ao fun cC=>
        ax x3 (Z4 ck 1 #[(0,cC)]) ao fun cD aR=>
        (Ext ao aR∨bb x3 (x6 ck bg) bI aR∧bb x3 (x7 aK bf 6) bg aR∧bb x3 (aX (.pointer (some ⟨al,0,none⟩))) bf aR∧True)∧
        ax x3 (l9 #[ck,ck] ck #[bI,cD]) aR fun cF bh=>
         I x3 (aX (.pointer (some ⟨al,0,none⟩))) bh fun cG=>
         I x3 (x7 aK cG 6) bh fun cI=>
         ax x3 (o3 ck cI cF) bh fun(_:Unit) az=>
         be (α:=x1→x2→Prop) (fun(cJ:x1) (cK:x2)=>
         Q cJ cK) fun bJ=>
        I x3 (av .eql dL false true bF (.int .i64 0)) az fun cL=>
        Split cL (I x3 (aX (.pointer (some ⟨al,0,none⟩))) az fun cM=>
        I x3 (x7 aK cM 6) az fun cN=>
        I x3 (x6 ck cN) az fun cO=>
        I x3 (Z5 #[ck] U #[cO]) az fun cP=>
        I x3 (av .sub U false true cP (.int .i64 1)) az fun cQ=>
        I x3 (av .eql U false false bD cQ) az fun cR=>
        bJ cR az)
        (bJ (.bool false) az)):=by
 have bK:=p.cE.2.2.2.1;have cS:=p.box.lt;have z0:=aO.size;have bj:=q5 p.cE;obtain⟨bL,_,⟨dD,aE⟩,dE,aZ⟩:=id bx;have aB:∀ r,w0.heap.size≤r→¬A r:=fun r h bk=>by have:=bj r (.inl bk);omega
 have dF:(a.sc.take 4).length≤4:=by rw[o8];omega
 rw[V aN.p rfl,aa (v:=ay) (by kernel_rfl) (bL.cell (o:=0+6) rfl)];have cT:=p.ext aO;refine (Ka (sc:=a.sc.take 4) cT.cE aE.ls (fun r W=>aB r (aZ r (.inr W))) b7 ⟨aB g bB.1,aB a7 bB.2,fun r W=>aB r (aY r W).1⟩ (by omega) b8 (by omega) (by omega) (by omega)).mono ?_;rintro v J _ ⟨cU,cV⟩;by_cases aL:jy n s (a.sc.take 4) L
 rotate_left
 ·obtain⟨rfl,a1⟩:=cU aL;rw[aD (v:=.int .i64 0) rfl,aD (v:=.int .i64 1) rfl];intro cW ai _ _;have bM:=(aO.trans a1).trans ai;rw[aw];refine (p.ext bM).look.load fun cX bl=>?_;rw[V aN.p rfl,aa (v:=ay) (by kernel_rfl) ((bL.ext (a1.trans ai)).cell (o:=0+6) rfl)];refine (AC bl bK (aE.ls.ext (a1.trans ai)) (aI.ls.ext (a1.trans ai))).mono ?_;rintro _ bN _ ⟨⟨b,rfl,bm⟩,bo⟩;rw[bc,br];refine⟨fun _=>?_,fun cY=>absurd (bm.1 (by simpa using cY)) aL⟩;refine aM (fun v a2=>v= .bool true∧bN=a2) ?_ fun cZ bp=>?_
  ·rintro _ a2 ⟨rfl,rfl⟩;exact b9 aL _ (bM.trans bo)
  ·rw[a8,ab];refine⟨fun _=>?_,fun h=>absurd rfl h⟩;rw[a8];exact bp _ _ ⟨rfl,rfl⟩
 obtain⟨rfl,c1,bP,R',ap,c2,dG,bq⟩:=cV aL;rw[aD (v:=.int .i64 (s.funs.length:Int)) rfl,aD (v:=.int .i64 0) rfl];have dH:=ap.1.size;have dI:=fun r (W:leads ag r)=>(bn aI W);have c3:∀ r,w0.heap.size≤r→r<w.heap.size→¬bP r:=fun r h1 Y bk=>(ap.2.1 r bk).elim (aB r h1) fun h=>by omega
 have c4:=(p.olds.ext aO).prog (B:=w0.heap.size) c1 ap c2 ((gG.eS p.js (1::C) _).set) (fun r W=>(bq r W).imp id fun h=>h.elim (fun h=>(aY r h).1) fun h=>by omega) (fun q r h _=>h.2) cS;intro cW ai _ _;have bQ:=c4.ext ai;have bR:=(bx.O ap.1 fun r _ h=>bj r (.inl h)).ext ai;have bS:=(a6 aE ap.1 fun r W=>aB r (aZ r (.inr W))).ext ai;have bT:=(a6 aI ap.1 fun r W=>aB r (ba r W)).ext ai;have c5:=(a6 an ap.1 fun r W=>by obtain⟨e,_⟩:=bn an W;rw[e];exact aB _ bA).ext ai;have c6:=(b5.O ap.1 (aB aU b6)).ext ai;rw[aw];refine bQ.look.load fun cX bl=>?_;rw[V aN.p rfl,aa (v:=ay) (by kernel_rfl) (bR.c0.cell (o:=0+6) rfl)];refine (AC bl bK bS.ls bT.ls).mono ?_;rintro _ bN _ ⟨⟨b,rfl,bm⟩,bo⟩;rw[bm.2 aL,bc,br];refine⟨fun h=>by simp at h,fun _=>?_⟩;intro a2 c7 _ _;have aC:=bo.trans c7;have dJ:=ai.size;have z4:=aC.size;have bV:=bS.ext aC;have bW:=bT.ext aC;have c8:=c5.ext aC;have c9:=c6.ext aC;have da:=bR.ext aC;have db:∀ r,leads ay r→w0.heap.size≤r∧r<w.heap.size:=fun r W=>⟨aZ r (.inr W),by obtain⟨e,h⟩:=bn aE W;omega⟩;have bt:=(bQ.ext aC).reads (R9':=fun r=>aQ r∨leads ay r∨leads ag r) (fun r h=>.inl h) fun r W=>by
  rcases W with W|W|W
  ·exact .inl W
  ·obtain⟨c,an⟩:=lS bV r W;have:=db r W;exact .inr ⟨oX an (by decide),an.lt,by omega,fun q h=>by have:=h.1.2;omega⟩
  ·obtain⟨c,an⟩:=lS bW r W;have:=ba r W;exact .inr ⟨oX an (by decide),an.lt,by omega,fun q h=>by have:=h.1.2;omega⟩
 obtain⟨dc,bX⟩:=bt.doc.at 6 (by omega);simp only[aw];rw[V aK.p rfl,aa (v:=dc) (by kernel_rfl) (bt.box.cell (o:=0+6) bX),V aN.p rfl,aa (v:=ay) (by kernel_rfl) (da.c0.cell (o:=0+6) rfl),V dk.p rfl,aa (v:=aG) (by kernel_rfl) (c9.cell (o:=0+2) rfl),
  cH (cs:=#[ay,ag,aG]) (by obtain⟨_,_,_,rfl⟩:=bH aE.ls;obtain⟨_,_,_,rfl⟩:=bH aI.ls;obtain⟨_,_,_,rfl⟩:=bH an.ls;kernel_rfl),
  cH (cs:=#[ay,ag,aG,.bool true]) (by obtain⟨_,_,_,rfl⟩:=bH aE.ls;obtain⟨_,_,_,rfl⟩:=bH aI.ls;obtain⟨_,_,_,rfl⟩:=bH an.ls;kernel_rfl)]
 let f:eF:=⟨a.sc.take 4,L,1,C⟩;have own:bi (α:=gx) (fun r=>leads aG r) (fun r=>aQ r∨leads ay r∨leads ag r) a2 [ay,ag,aG,.bool true] (eu f):=
  ⟨[ay,ag,aG],[.bool true],fun r=>leads aG r,fun _=>False,rfl,fun _ h=>h,fun _ h=>h.elim,fun _ _ _ h=>h,⟨[ay],[ag,aG],fun _=>False,fun r=>leads aG r,rfl,fun _ h=>h.elim,fun _ h=>h,fun _ _ h=>h.elim,j7 bV fun r h=>.inr (.inl h),[ag],[aG],fun _=>False,fun r=>leads aG r,rfl,fun _ h=>h.elim,fun _ h=>h,fun _ _ h=>h.elim,j7 bW fun r h=>.inr (.inr h),kV c8⟩,rfl⟩
 refine hF ck.u dj.i (by decide) rfl own fun dK de aS _ df=>?_;refine⟨.inl aS,?_⟩;have z5:=aS.size;have bY:∀ r,leads aG r→r=aV∧r<w.heap.size:=fun r W=>by obtain⟨e,h⟩:=bn an W;omega
 have bZ:∀ {v:x1} {dg:Nat} {l:List Int},am .i64 U w dg v l→ ∀ r,leads v r→¬leads aG r:=fun hm r h1 Y=>by
  obtain⟨dM,dh⟩:=lS hm r h1;obtain⟨dN,di⟩:=lS an r Y;exact absurd (ei dh di) (by decide)
 refine Kb (bt.ext aS) (fun q r h=>by have:=h.1.2;omega) bX df (bO own aS) (fun r W=>?_) b4 fun bz bU dl dm bu dn=>?_
 ·obtain⟨rfl,dp⟩:=bY r W;refine⟨c3 r bA dp,fun Y=>?_,by omega,fun Y=>?_,fun q Y=>by have:=Y.1.2;omega⟩
  ·rcases bq r Y with Y|Y|Y
   ·have:=bj r (.inr Y);omega
   ·exact (aY r Y).2 rfl
   ·omega
  ·rcases Y with Y|Y|Y
   ·have:=(p.read r Y).2.1;omega
   ·exact bZ aE r Y W
   ·exact bZ aI r Y W
 refine aM (fun v b0=>v= .bool true∧dl=b0) ?_ fun cZ bp=>?_
 ·rintro _ b0 ⟨rfl,rfl⟩;have dq:=oJ t (1::C) (1::C).length;have dr:=oK t (1::C) (1::C).length;have ds:=lO t (1::C) (1::C).length;simp only[j4] at dq dr;obtain⟨dt,du,b1⟩:=o2 (t:=gU t (1::C)) (i:=1) (x:=((s.funs.length+1:Nat):Int));have dv:ad (fun r=>A r∨(∃ q,A9 q r)∨r=al) w0 de:=(((aO.O _).trans (ap.1.mono fun r _ h=>.inl h)).trans (ai.O _)).trans ((aC.trans aS).O _);refine ca aL _ ⟨bP,R',bz,_,_,bU,bu,dv.trans (dm.mono fun r _ h=>.inr (h.imp (fun h=>⟨3,h.1.1⟩) id)),fun r W=>(ap.2.1 r W).imp id fun h=>by omega,fun r W=>(bq r W).imp id fun h=>h.elim (fun h=>(aY r h).1) fun h=>by omega,fun r W=>.inl W,fun r W=>?_,fun q r W=>?_,?_,?_,?_⟩
  ·rcases W with W|W|W
   ·exact .inl W
   ·exact .inr (aZ r (.inr W))
   ·exact .inr (ba r W)
  ·rcases dn q r W with Y|Y|Y
   ·exact .inl ⟨q,Y.1.1⟩
   ·have:=bY r Y;exact .inr (by omega)
   ·exact .inr (by omega)
  ·exact dt.trans ds
  ·show (aH.set _ _ _).cells.length≤_;rw[du];unfold gU;simp only[j4];omega
  ·show (aH.set _ _ _).olds.length≤_;unfold gU at b1 ⊢;simp only[j4] at b1 ⊢;omega
 ·rw[a8,ab];refine⟨fun _=>?_,fun h=>absurd rfl h⟩;obtain⟨aq,dO,dP,dQ,dw,dR,dx,_,_,_,_,dy,_⟩:=id bu.doc;have b2:=bu.box;rw[dx] at b2;rw[V aK.p rfl,aa (v:=dw) (by kernel_rfl) (b2.cell (o:=0+6) rfl),fR ck.u dy,dd];have e:(List.map eu ({s with funs:=s.funs++[f]}:aF).funs).length=s.funs.length+1:=by simp
  rw[e,wrap_i64 (by omega) (by omega),a8];refine bp _ _ ⟨?_,rfl⟩;congr 1;exact decide_eq_true (by omega)
end
end Go.Proofs.YtgbkinibgjmodaaGreatDoor
namespace Go.Proofs.YtgbkinibgjmodaaGreatDoor
open Go Go.Vc Go.RowKit Go.Proofs Go.Proofs.Tryz
set_option maxRecDepth 100000
open Classical in
noncomputable def kX (n:aS) (s:aF) (a:db):aF:=if aE (gW n a)≤600∧jy n s (a.sc.take 4) (gW n a) then fw s (a.sc.take 4) (gW n a) (gK (gW n a) n.k a.co) else s
section
variable {w0 w:x2} {aj ah al aW:Nat} {A R:ag} {A9:Nat→ag} {aQ:ag} {n:aS} {s:aF} {t:aH} {h:List aH} {cs:List x1} {a:db} {aA ay ce:x1} {Q:x1→x2→Prop}
set_option maxHeartbeats 2000000 in
theorem Ki (p:bE w0 aj ah al A R A9 aQ n s s t h cs) (cl:t.cells.length+700≤100000000) (cm:t.olds.length+700≤100000000) (cn:s.funs.length≤1000) (bL:a.ok) (bh:Ext w0 w) (bi:dT w aW n.k a aA ay ce w0.heap.size) (cp:aB .u16 w ce a.co) (bj:∀ w',ib w0 aj ah al A R A9 aQ n (kX n s a) t h w'→Q (.bool true) w'):
     ax x3 (Z4 ac 0 #[]) w fun cq a1=>
      I x3 (x7 aN (.pointer (some ⟨aW,0,none⟩)) 6) a1 fun cr=>
      I x3 (x6 ac cr) a1 fun bM=>
      I x3 (Z5 #[ac] U #[bM]) a1 fun ct=>
      bt cq (.int .i64 0) a1 fun sizes bk W k=>
       I x3 (av .lss U false false bk ct) W fun cu=>
       Split cu (be (α:=x1→x2→Prop) (fun(cw:x1) (bO:x2)=>
        I x3 (av .add U false true bk (.int .i64 1)) bO fun cz=>
        k cw cz bO) fun bP=>
       I x3 (o6 ac bM bk) W fun cA=>
       I x3 (x6 U cA) W fun bQ=>
       I x3 (aX (.pointer (some ⟨al,0,none⟩))) W fun cB=>
       I x3 (x6 aK cB) W fun cC=>
       af x3 mi [cC,bQ] W fun cD aC=>
       Split cD (I x3 (aX (.pointer (some ⟨al,0,none⟩))) aC fun cF=>
       I x3 (x7 aK cF 1) aC fun cG=>
       I x3 (x6 ac cG) aC fun cH=>
       I x3 (o6 ac cH bQ) aC fun cI=>
       I x3 (x6 U cI) aC fun cJ=>
       ax x3 (Z4 ac 1 #[(0,cJ)]) aC fun cK cL=>
       ax x3 (l9 #[ac,ac] ac #[sizes,cK]) cL fun cM cN=>
       bP cM cN)
       (bP sizes aC))
       (be (α:=x2→Prop) (fun(cO:x2)=>
       af x3 vI [sizes] cO fun cP bl=>
       I x3 (av .gtr U false true cP (.int .i64 600)) bl fun cR=>
       Split cR (Q (.bool true) bl)
       (be (α:=x1→x2→Prop) (fun(y:x1) (a2:x2)=>
        I x3 (aX (.pointer (some ⟨al,0,none⟩))) a2 fun cS=>
        I x3 (x7 aK cS 0) a2 fun cT=>
        I x3 (x6 ak cT) a2 fun cU=>
        af x3 rU [sizes,cU,(.int .i64 0)] a2 fun bR bm=>
        I x3 (j6 bR 0) bm fun bS=>
        I x3 (j6 bR 1) bm fun eu=>
        af x3 rV [sizes] bm fun bT bU=>
        I x3 (Z5 #[cQ] U #[bT]) bU fun cV=>
        bJ (.int .i64 0) bU fun a7 ag cW=>
         I x3 (av .lss U false false a7 cV) ag fun cX=>
         Split cX (I x3 (o6 cQ bT a7) ag fun cY=>
         I x3 (x6 ac cY) ag fun cZ=>
         I x3 (x7 dk y 2) ag fun c1=>
         I x3 (x6 au c1) ag fun c2=>
         I x3 (o6 au c2 a7) ag fun c3=>
         I x3 (x6 ak c3) ag fun c4=>
         af x3 rW [bS,cZ,c4] ag fun ev bV=>
         I x3 (av .add U false true a7 (.int .i64 1)) bV fun c5=>
         cW c5 bV)
         (I x3 (x7 aN (.pointer (some ⟨aW,0,none⟩)) 6) ag fun c6=>
        I x3 (x6 ac c6) ag fun c7=>
        af x3 rR [.pointer (some ⟨aj,0,none⟩),c7,bS] ag fun bW bo=>
        I x3 (j6 bW 0) bo fun bX=>
        I x3 (j6 bW 1) bo fun bY=>
        cj bo fun aO=>
        I x3 (aX (.pointer (some ⟨al,0,none⟩))) aO fun c8=>
        I x3 (x6 aK c8) aO fun c9=>
        I x3 (x7 aN (.pointer (some ⟨aW,0,none⟩)) 6) aO fun da=>
        I x3 (x6 ac da) aO fun db=>
        af x3 rX [c9,db,sizes] aO fun dc aI=>
        I x3 (Op.unary .not dc) aI fun dd=>
        Split dd (be (α:=x1→x2→Prop) (fun(de:x1) (df:x2)=>
         Q de df) fun bZ=>
        I x3 (av .eql dL false true bY (.int .i64 1)) aI fun dg=>
        Split dg (I x3 (av .eql U false true bX (.int .i64 0)) aI fun dh=>
        bZ dh aI)
         (bZ (.bool false) aI))
        (cj aI fun ai=>
        I x3 (aX (.pointer (some ⟨al,0,none⟩))) ai fun bp=>
        I x3 (x7 aK bp 6) ai fun bq=>
        I x3 (x6 ck bq) ai fun b0=>
        I x3 (x7 aN (.pointer (some ⟨aW,0,none⟩)) 6) ai fun di=>
        I x3 (x6 ac di) ai fun dl=>
        I x3 (x7 dk y 2) ai fun dm=>
        I x3 (x6 au dm) ai fun dn=>
        I x3 (Instr.build aT #[(0,dl),(1,sizes),(2,dn)]) ai fun dp=>
        I x3 (Instr.build dj #[(0,dp),(1,(.bool true))]) ai fun dq=>
        ax x3 (Z4 ck 1 #[(0,dq)]) ai fun dr aP=>
        (Ext ai aP∨bb x3 (x6 ck bq) b0 aP∧bb x3 (x7 aK bp 6) bq aP∧bb x3 (aX (.pointer (some ⟨al,0,none⟩))) bp aP∧True)∧
        ax x3 (l9 #[ck,ck] ck #[b0,dr]) aP fun ds br=>
         I x3 (aX (.pointer (some ⟨al,0,none⟩))) br fun dt=>
         I x3 (x7 aK dt 6) br fun du=>
         ax x3 (o3 ck du ds) br fun(_:Unit) an=>
         be (α:=x1→x2→Prop) (fun(dv:x1) (dw:x2)=>
         Q dv dw) fun b1=>
        I x3 (av .eql dL false true bY (.int .i64 0)) an fun dx=>
        Split dx (I x3 (aX (.pointer (some ⟨al,0,none⟩))) an fun dy=>
        I x3 (x7 aK dy 6) an fun dz=>
        I x3 (x6 ck dz) an fun dA=>
        I x3 (Z5 #[ck] U #[dA]) an fun dC=>
        I x3 (av .sub U false true dC (.int .i64 1)) an fun dD=>
        I x3 (av .eql U false false bX dD) an fun dE=>
        b1 dE an)
        (b1 (.bool false) an)))) fun b2=>
       cj bl fun ao=>
       I x3 (aX (.pointer (some ⟨al,0,none⟩))) ao fun aR=>
       I x3 (x7 aK aR 0) ao fun aS=>
       I x3 (x6 ak aS) ao fun a8=>
       I x3 (x7 aN (.pointer (some ⟨aW,0,none⟩)) 7) ao fun aU=>
       I x3 (x6 kz aU) ao fun ba=>
       (af x3 rT [sizes,a8,ba] ao fun dF dG=>
       ax x3 (T7 dk true (.tuple #[])) dG fun b3 aD=>
        (Ext ao aD∨bb x3 (x6 kz aU) ba aD∧bb x3 (x7 aN (.pointer (some ⟨aW,0,none⟩)) 7) aU aD∧bb x3 (x6 ak aS) a8 aD∧bb x3 (x7 aK aR 0) aS aD∧bb x3 (aX (.pointer (some ⟨al,0,none⟩))) aR aD∧True)∧
       ax x3 (o3 dk b3 dF) aD fun(_:Unit) dH=>
        b2 b3 dH)∧
       (ax x3 (T7 dk true (.tuple #[])) ao fun b4 aE=>
       (Ext ao aE∨bb x3 (x6 kz aU) ba aE∧bb x3 (x7 aN (.pointer (some ⟨aW,0,none⟩)) 7) aU aE∧bb x3 (x6 ak aS) a8 aE∧bb x3 (x7 aK aR 0) aS aE∧bb x3 (aX (.pointer (some ⟨al,0,none⟩))) aR aE∧True)∧
       af x3 rT [sizes,a8,ba] aE fun dI dJ=>
        ax x3 (o3 dk b4 dI) dJ fun(_:Unit) dK=>
        b2 b4 dK))) fun b5=>
      be (α:=x1→x2→Prop) (fun(dM:x1) (aF:x2)=>
       Split dM (I x3 (o6 ac sizes (.int .i64 0)) aF fun dN=>
       I x3 (x6 U dN) aF fun dO=>
       I x3 (av .rem U false true dO (.int .i64 3)) aF fun dP=>
       I x3 (av .add U true false (.int .i64 1) dP) aF fun dQ=>
       I x3 (o6 ac sizes (.int .i64 0)) aF fun dR=>
       ax x3 (o3 U dR dQ) aF fun(_:Unit) dS=>
       b5 dS)
       (b5 aF)) fun b6=>
      I x3 (Z5 #[ac] U #[sizes]) W fun dU=>
      I x3 (av .gtr U false true dU (.int .i64 0)) W fun dV=>
      Split dV (I x3 (x7 aN (.pointer (some ⟨aW,0,none⟩)) 2) W fun dW=>
      I x3 (x6 U dW) W fun dY=>
      I x3 (av .rem U false true dY (.int .i64 5)) W fun dZ=>
      I x3 (av .eql U false true dZ (.int .i64 0)) W fun ea=>
      b6 ea W)
      (b6 (.bool false) W)):=by
 have b7:=p.cE.2.2.2.1;have b8:=b7.dX.2.2;have eb:=b7.iD;have ec:=p.ext bh;have z0:=bh.size;have aJ:=Kf (a:=a) b8;refine Kg ec.look b8 bi fun bc ew J bw bx ed=>?_;have ee:=bh.trans bw;refine (sk bx.ls aJ).mono ?_;rintro _ bz _ ⟨rfl,bd⟩;have bB:=ee.trans bd;have bC:=bw.trans bd;have bD:=bx.ext bd;rw[bA,ab];refine⟨fun ey=>bj _ ?_,fun ef=>?_⟩
 ·unfold kX;rw[if_neg fun h=>by omega];exact jx p bB
 obtain⟨L,bF⟩:∃ L,L=gW n a:=⟨_,rfl⟩;rw[←bF] at aJ ef bD;have ez:=prod_bound aJ;have bG:=p.box;obtain⟨aq,eA,eB,eC,eD,eE,eg,_⟩:=p.Ax;rw[eg] at bG;refine aM (fun y aV=>∃ Y aG aH,y= .pointer (some ⟨Y,0,none⟩)∧Ext bz aV∧ae aV Y dk [bc,.int .i64 n.k,aG]∧am .i64 ak aV aH aG (gK L n.k a.co)∧bz.heap.size≤Y∧bz.heap.size≤aH) ?_ ?_
 rotate_left
 ·intro eF b9 aV ad _ _;have bf:=bB.trans ad;have aY:=bD.ext ad;have ca:=cp.ext (bC.trans ad);rw[aw,V aK.p rfl,aa (v:=.int .i64 n.k) (by kernel_rfl) ((bG.ext bf).cell (o:=0+0) rfl),V aN.p rfl,aa (v:=ce) (by kernel_rfl) ((bi.ext (bC.trans ad)).c0.cell (o:=0+7) rfl)];have z3:=ad.size;have cb:∀ {aG:x1},aG.oneCell'=true→ ∀ u∈[bc,.int .i64 n.k,aG],u.oneCell'=true:=fun ap u hu=>by
   simp at hu;rcases hu with rfl|rfl|rfl
   ·exact bx.ls.cells.2
   ·rfl
   ·exact ap
  refine⟨?_,?_⟩
  ·refine (xK aY.ls aJ ca bL.2.2.2.2.2.2.2 (by omega)).mono ?_;rintro _ cc _ ⟨O,aH,aG,rfl,cd,ap⟩;refine bu dk.i fun Y eh cg aL bg=>?_;have z4:=O.size;refine⟨.inl (O.trans aL),?_⟩;refine bN (vs:=[bc,.int .i64 n.k,aG]) dk.i rfl rfl (cb ap.ls.cells.2) bg fun ei aZ ej bH=>?_;refine b9 _ _ ⟨Y,aG,aH,rfl,((ad.trans O).trans aL).then aZ fun r az he=>by have he:r=Y:=he;omega,bH,a6 (ap.ext aL) aZ fun r az he=>?_,by omega,by omega⟩;have he:r=Y:=he;obtain⟨ek,em⟩:=bn ap az;omega
  ·refine bu dk.i fun Y cc cg O bg=>?_;refine⟨.inl O,?_⟩;have z4:=O.size;have eH:=bg.lt;refine (xK (aY.ls.ext O) aJ (ca.ext O) bL.2.2.2.2.2.2.2 (by omega)).mono ?_;rintro _ eh _ ⟨aL,aH,aG,rfl,cd,ap⟩;refine bN (vs:=[bc,.int .i64 n.k,aG]) dk.i rfl rfl (cb ap.ls.cells.2) (bg.ext aL) fun ei aZ ej bH=>?_;refine b9 _ _ ⟨Y,aG,aH,rfl,((ad.trans O).trans aL).then aZ fun r az he=>by have he:r=Y:=he;omega,bH,a6 ap aZ fun r az he=>?_,by omega,by omega⟩;have he:r=Y:=he;obtain⟨ek,em⟩:=bn ap az;omega
 rintro _ aV ⟨Y,aG,aH,rfl,ad,ch,bI,cg,cd⟩;have bf:=bB.trans ad;have aY:=bD.ext ad;refine Kd aY aJ (by omega) eb ch bI (bG.ext bf) rfl fun cc g eI eJ O en eK eL eo=>?_;have eM:=bw.size;have eN:=bd.size;have z3:=ad.size;have ep:=bf.trans O;have er:(gK L n.k a.co).length≤600:=by rw[qn];omega
 have eO:=mY bI (by rw[qn];omega);refine Kh p cl cm cn ep (bi.ext ((bC.trans ad).trans O)) (aY.ext O) (fun r az=>by have:=ed r az;omega) (ch.ext O) (by omega) (bI.ext O) (by omega) en ⟨by omega,by omega⟩ (fun r az=>by have:=eo r az;omega) (fun c ci=>?_) er (fun bK w' es=>bj _ ?_) fun bK w' et=>bj _ ?_
 ·unfold gK at ci;obtain⟨i,_,rfl⟩:=j5.1 ci;exact xJ (by omega) _
 ·unfold kX;rw[←bF,if_neg fun h=>bK h.2];exact jx p es
 ·unfold kX;rw[←bF,if_pos ⟨by omega,bK⟩];exact et
end
end Go.Proofs.YtgbkinibgjmodaaGreatDoor
namespace Go.Proofs.YtgbkinibgjmodaaGreatDoor
open Go Go.Vc Go.RowKit Go.Proofs Go.Proofs.Tryz
set_option maxRecDepth 100000
noncomputable def e9 (n:aS) (s:aF) (a:db):aF:=
 if a.d % 9=0 then lV n s (bV n.k a) else if a.d % 9=1 then kW n s a else if a.d % 9=2 then kk n s a else if a.d % 9=3 then lX n s a else if a.d % 9=4 then kX n s a else if a.d % 9=5 then lW s a else l0 n s a
theorem l1 {t:r8} {cx cy:Bool} {k:o4} {a b:Int} {A B:Prop} (J:a=b→A) (O:a≠b→B):I x3 (av .eql t cx cy (.int k a) (.int k b)) w fun v=>Split v A B:=by
 rw[a8,ab];exact⟨J,O⟩
section
variable {w0:x2} {aj ah al:Nat} {A R:ag} {A9:Nat→ag} {aQ:ag} {n:aS} {s:aF} {t:aH} {h:List aH} {cs:List x1} {a:db} {cN cn:x1} {Q:x1→x2→Prop}
set_option maxHeartbeats 4000000 in
theorem Kj (p:bE w0 aj ah al A R A9 aQ n s s t h cs) (am:t.cells.length+700≤100000000) (aF:t.olds.length+800≤100000000) (an:s.funs.length≤1000) (ao:s.elims.length≤1000) (ap:lU w0 cn a) (aG:a.d % 9<7) (U:∀ w',ib w0 aj ah al A R A9 aQ n (e9 n s a) t h w'→Q (.bool true) w'):
  af x3 pH [.pointer (some ⟨aj,0,none⟩),.pointer (some ⟨al,0,none⟩),cN,cn] w0 Q:=by
 obtain⟨Y,aA,ay,ce,rfl,aa,ab,ac⟩:=ap;have aH:0≤a.d % 9:=by omega
 have W:Room t:=.inr (by omega);have aq:a.d % 9=0→e9 n s a=lV n s (bV n.k a):=fun e=>by unfold e9;rw[if_pos e]
 have au:a.d % 9=1→e9 n s a=kW n s a:=fun e=>by unfold e9;rw[if_neg (by omega),if_pos e]
 have av:a.d % 9=2→e9 n s a=kk n s a:=fun e=>by unfold e9;rw[if_neg (by omega),if_neg (by omega),if_pos e]
 have aw:a.d % 9=3→e9 n s a=lX n s a:=fun e=>by unfold e9;rw[if_neg (by omega),if_neg (by omega),if_neg (by omega),if_pos e]
 have ax:a.d % 9=4→e9 n s a=kX n s a:=fun e=>by unfold e9;rw[if_neg (by omega),if_neg (by omega),if_neg (by omega),if_neg (by omega),if_pos e]
 have aB:a.d % 9=5→e9 n s a=lW s a:=fun e=>by unfold e9;rw[if_neg (by omega),if_neg (by omega),if_neg (by omega),if_neg (by omega),if_neg (by omega),if_pos e]
 have aC:a.d % 9=6→e9 n s a=l0 n s a:=fun e=>by unfold e9;rw[if_neg (by omega),if_neg (by omega),if_neg (by omega),if_neg (by omega),if_neg (by omega),if_neg (by omega)]
 refine az func21 ?_;refine bL fun aW J aI aD ad=>?_;have aE:ae J aW aN [.int .u8 a.d,.int .i64 a.i,.int .i64 a.v,.int .i64 a.j,.int .i64 a.c,aA,ay,ce,.bool a.ki]:=by
  obtain⟨_,_,_,ag⟩:=bH aa;obtain⟨_,_,_,ai⟩:=bH ab;obtain⟨_,_,_,ak⟩:=bH ac;rw[ag,ai,ak] at ad ⊢;exact ad
 refine JJ (w0:=w0) p Y aa ab rfl aD (by omega) aE fun aJ aK aL O V=>?_;refine l1 (fun e=>?_) fun aM=>?_
 ·exact JL p W O V fun w' I=>U w' (by rw[aq e];exact I)
 refine l1 (fun e=>?_) fun ag=>?_
 ·exact JN p W O V fun w' I=>U w' (by rw[au e];exact I)
 refine l1 (fun e=>?_) fun ai=>?_
 ·exact J0 p W O V fun w' I=>U w' (by rw[av e];exact I)
 refine l1 (fun e=>?_) fun ak=>?_
 ·exact JX p W O V fun w' I=>U w' (by rw[aw e];exact I)
 refine l1 (fun e=>?_) fun aO=>?_
 ·exact Ki p am (by omega) an Y O V (ac.ext O) fun w' I=>U w' (by rw[ax e];exact I)
 refine l1 (fun e=>?_) fun aP=>?_
 ·exact JT p W O V fun w' I=>U w' (by rw[aB e];exact I)
 refine l1 (fun e=>?_) fun aR=>by omega
 exact J8 p (by omega) ao O V fun w' I=>U w' (by rw[aC e];exact I)
theorem Kk (p:bE w0 aj ah al A R A9 aQ n s s t h cs) (I:t.cells.length+700≤100000000) (J:t.olds.length+800≤100000000) (O:s.funs.length≤1000) (U:s.elims.length≤1000) (V:lU w0 cn a) (W:a.d % 9<7):
  af x3 pH [.pointer (some ⟨aj,0,none⟩),.pointer (some ⟨al,0,none⟩),cN,cn] w0 fun v w'=>v= .bool true∧ib w0 aj ah al A R A9 aQ n (e9 n s a) t h w':=by
 exact Kj p I J O U V W fun w' Y=>⟨rfl,Y⟩
end
theorem h9.vars {s:aF} {i:Nat} {x y:gR} (h:h9 s) (V:s.vars[i]? =some x) (W:y.gone=x.gone):h9 {s with vars:=s.vars.set i y}:=fun f J O v U z I=>by
 have I:(s.vars.set i y)[v.toNat]? =some z:=I;rw[Y5] at I;split at I
 ·rename_i e;split at I
  ·cases I;subst e;rw[W];exact h f J O v U x V
  ·cases I
 ·exact h f J O v U z I
theorem h9.funs {s:aF} {j:Nat} {f g:eF} (h:h9 s) (V:s.funs[j]? =some f) (W:g.sc=f.sc) (Y:g.live≠0→f.live≠0):h9 {s with funs:=s.funs.set j g}:=fun x I J v O z U=>by
 rcases X9 I with I|rfl
 ·exact h x I J v O z U
 ·exact h f (x5 V) (Y J) v (by rw[←W];exact O) z U
theorem Kl {n:aS} {s:aF} {a:db} (h:h9 s) (ac:et n.k n.sizes s):h9 (e9 n s a):=by
 unfold e9;split
 ·unfold lV;split
  ·exact h
  ·exact h
 split
 ·unfold kW;split
  ·unfold ht;split
   ·rename_i x J;exact h.vars J rfl
   ·exact h
  ·exact h
 split
 ·unfold kk;split
  ·split
   ·split
    ·unfold gw;split
     ·rename_i f I;exact h.funs I rfl id
     ·exact h
    ·exact h
   ·exact h
  ·exact h
 split
 ·unfold lX;split
  ·unfold gv;split
   ·rename_i x J;exact h.vars J rfl
   ·exact h
  ·exact h
 split
 ·unfold kX;split
  ·rename_i ad;intro f I V v O x J;have I:f∈s.funs++[(⟨a.sc.take 4,gW n a,1,gK (gW n a) n.k a.co⟩:eF)]:=I;rcases n9.1 I with I|I
   ·exact h f I V v O x J
   ·obtain rfl:=j0.1 I;have O:v∈a.sc.take 4:=O;obtain⟨q,Y⟩:=Y2.1 O;obtain⟨ae,aa,_,_,W,_⟩:=ad.2.2.2.1 q (x4.1 Y).1;rw[Y] at aa;cases aa;unfold dv at W;have J:s.vars[v.toNat]? =some x:=J;rw[J] at W;simpa using W
  ·exact h
 split
 ·unfold lW;split
  ·unfold iJ;split
   ·rename_i f I;exact h.funs I rfl fun h=>absurd rfl h
   ·exact h
  ·exact h
 ·unfold l0;split
  ·rename_i ab;unfold iK;split
   ·rename_i x J;intro f I V v O z U;have I:f∈s.funs:=I;have U:(s.vars.set (gV n a).v.toNat {x with gone:=1})[v.toNat]? =some z:=U;rw[Y5] at U;split at U
    ·rename_i e;have af:=(ac.funs f I).1.scope.1 v O;have ag:=ab.has;exact absurd (by rw[show (gV n a).v=v by omega];exact O) (ab.lZ f I V)
    ·exact h f I V v O z U
   ·exact h
  ·exact h
theorem Km {n:aS} {s:aF} {a:db}:(e9 n s a).funs.length≤s.funs.length+1∧(e9 n s a).elims.length≤s.elims.length+1:=by
 unfold e9 lV kW kk lX kX lW l0 ht gv iJ iK fw gw
 repeat' split
 all_goals first|(constructor <;> exact Nat.le_succ _)|simp
def iL:List Int:=[116,32,50,32,50,32,49,32,57,32,50,32,50,10,50,32,48,32,49,32,48,32,49,10,49,32,49,32,53,10]
def fo:bP:=⟨[116],9,[2,2],[⟨[0,1],[2,2],0,[([1,1],5)]⟩]⟩
theorem Kn:fs iL=some fo:=by
 have h:(match fs iL with
  |some f=>decide (f.name=fo.name∧f.k=fo.k∧f.sizes=fo.sizes)&&decide (f.funs.map (fun x=>(x.scope,x.sizes,x.other,x.lines))=fo.funs.map fun x=>(x.scope,x.sizes,x.other,x.lines))
  |none=>false)=true:=by decide+kernel
 cases O:fs iL with
 |none=>rw[O] at h;cases h
 |some f=>
  rw[O] at h;simp only[V5,decide_eq_true_eq] at h;obtain⟨⟨h1,U,V⟩,I⟩:=h;obtain⟨Y,k,aa,J⟩:=f;simp only at h1 U V I;subst h1;subst U;subst V;have:J=fo.funs:=by
   have W:J.length=1:=by have:=congrArg T9 I;simpa[fo] using this
   match J,W with
   |[x],_=>
    obtain⟨a,b,c,d⟩:=x;simp[fo] at I;obtain⟨rfl,rfl,rfl,rfl⟩:=I;rfl
  subst this;rfl
def q8 (s:aF) (a:List Int):Bool:=decide (a.length=s.vars.length)&&(s.vars.zip a).all fun p=>decide (p.1.gone≠0∨(0≤p.2∧p.2<p.1.un.length))
theorem AI {s:aF}:q8 s a=true↔h5 s a:=by
 unfold q8 h5;rw[V5,decide_eq_true_eq,List.all_eq_true];refine and_congr Iff.rfl ⟨fun h i x v I J=>?_,fun h p O=>?_⟩
 ·have:=h (x,v) (Y2.2 ⟨i,by rw[List.getElem?_zip_eq_some];exact⟨I,J⟩⟩);exact of_decide_eq_true this
 ·obtain⟨i,hi⟩:=Y2.1 O;obtain⟨x,v⟩:=p;rw[List.getElem?_zip_eq_some] at hi;exact decide_eq_true (h i x v hi.1 hi.2)
theorem Ko:j8 fo.funs≤16384:=by decide+kernel
theorem Kp:ej (cR fo) 1 1:=by decide+kernel
theorem Kq:q8 (gv (dH (cR fo)) 1 1) [1,1]=true:=by decide+kernel
theorem Kr:q8 (gv (dH (cR fo)) 1 1) [1,0]=true:=by decide+kernel
theorem Ks:gr (cR fo).k (gv (dH (cR fo)) 1 1) [1,1]=9:=by decide+kernel
theorem Kt:gr (cR fo).k (gv (dH (cR fo)) 1 1) [1,0]=0:=by decide+kernel
theorem Ku {g n c:Nat} {cs:List x1} {K:x1→x2→Prop} (I:ae w g b5 cs) (U:∀ w',ad (fun r=>r=g) w w'→(∀ o vs,w.rangeAt g o vs→w'.rangeAt g o vs)→K (.slice (some ⟨g,0,none⟩) n c) w'):
  ax x3 (convert b7 b7 (.slice (some ⟨g,0,none⟩) n c)) w K:=by
 have O:∀ r,(w.freeze ⟨g,cs.length,none⟩ 1).heap[r]? =if g=r then (w.heap[r]?).map (fun| .cells c V (lo,hi)=>.cells c V (if lo == hi then (cs.length,cs.length+1) else (min lo cs.length,max hi (cs.length+1)))|o=>o) else w.heap[r]?:=fun r=>by
  unfold x2.freeze;rw[if_neg (by decide)];exact Array.getElem?_modify
 have ag:(w.freeze ⟨g,cs.length,none⟩ 1).heap.size=w.heap.size:=by
  unfold x2.freeze;rw[if_neg (by decide)];exact Array.size_modify
 have W:w.shape? g=some (b5,cs.length):=by
  unfold x2.shape?;unfold ae at I;rw[I];simp
 have Y:(convert b7 b7 (.slice (some ⟨g,0,none⟩) n c)).run x3 w= .ok (.slice (some ⟨g,0,none⟩) n c) (w.freeze ⟨g,cs.length,none⟩ 1):=by
  simp[convert,run_underlying b7.u,run_underlying b5.u,markStringish,W]
 unfold ae at I;refine .of Y ⟨by unfold x2.freeze;rw[if_neg (by decide)],.iN (by unfold x2.freeze;rw[if_neg (by decide)]) (by unfold x2.freeze;rw[if_neg (by decide)]),by unfold x2.freeze;rw[if_neg (by decide)],by omega,fun r o J aa=>?_⟩ (U _ ⟨by omega,fun r o J _ ab=>?_⟩ fun o vs ac j v af=>?_)
 ·rw[O];by_cases he:g=r
  ·subst he;rw[I] at J;cases J;cases aa
  ·rw[if_neg he];exact J
 ·rw[O,if_neg fun he=>ab he.symm];exact J
 ·have h1:=ac j v af;unfold x2.cell? at h1 ⊢;rw[O,if_pos rfl];rw[I] at h1 ⊢;exact h1
def uh (s0 s:aF):Prop:=s.zero=s0.zero∧s.funs=s0.funs∧s.vars.length=s0.vars.length∧ ∀ (i:Nat) x,s.vars[i]? =some x→ ∃ I,s0.vars[i]? =some I∧x.un=I.un∧x.gone=0∧I.gone=0∧I.mask=0
theorem uh.new (n:aS):uh (dH n) (dH n):=⟨rfl,rfl,rfl,fun i x I=>by
 refine⟨x,I,rfl,?_⟩;have I:(n.unary.map newVar)[i]? =some x:=I;rw[x8] at I;obtain⟨u,_,rfl⟩:=Y1.1 I;exact⟨rfl,rfl,rfl⟩⟩
theorem Kv (n:aS):h9 (dH n):=fun f _ _ v _ x I=>by
 obtain⟨_,_,_,h,_⟩:=(uh.new n).2.2.2 _ x I;exact h
def ui (B:Nat) (w:x2) (I:x1) (cs:List x1) (f:bP):Prop:=∃ aj ah A R t N A9 aQ,eo N f∧I= .pointer (some ⟨aj,0,none⟩)∧cp w aj ah A R (cR f) (dH (cR f)) t∧Plain t∧(∀ r,A r→B≤r)∧
 gy true A9 aQ w cs (cR f).k (cR f).sizes (dH (cR f))∧(∀ q r,A9 q r→¬A r∧¬R r∧B≤r)∧ ∀ r,aQ r→¬dz w r∧r<w.heap.size
def Kw (w:x2) (q:List Int) (v:x1) (w':x2):Prop:=Ext w w'∧ ∃ I cs ok,v= .tuple #[I,.agg cs.toArray,.bool ok]∧(cs.length=8∧ ∀ u∈cs,u.oneCell'=true)∧((ok=false∧I= .pointer none)∨(ok=true∧ ∃ f,fs q=some f∧ui w.heap.size w' I cs f))∧ ∀ f,fs q=some f→j8 f.funs≤16384→ok=true
set_option maxHeartbeats 4000000 in
theorem AJ {p:x1} (a6:aB .u8 w p pl) (bm:Bytes pl) (bn:ep w):af x3 BC [p] w (Kw w (pl.take 300)):=by
 refine az func12 ?_;refine bu aK.i fun ac J b1 aF ay=>?_;have ay:ae J ac aK z12:=ay;rw[aL b7.u (a6.ext aF),hD];refine p4 (i:=min pl.length 300) (by omega) b7.u b5.i (a6.ext aF) (by omega) fun b2 aG=>?_;have bo:pl.take (min pl.length 300)=pl.take 300:=by
  by_cases h:pl.length≤300
  ·rw[Nat.min_eq_left h,o9,l5 h]
  ·rw[Nat.min_eq_right (by omega)]
 rw[bo] at aG;have aA:Bytes (pl.take 300):=fun b I=>bm b (List.mem_of_mem_take I);have bp:(pl.take 300).length≤300:=by rw[o8];omega
 generalize pl.take 300=q at aG aA bp;refine (Jt aG (by omega)).mono ?_;rintro b3 b4 _ ⟨aH,b6,aI⟩;have a7:=aF.trans aH;refine (G9 aI.ls aA (by omega) (bn.ext a7)).mono ?_;rintro b8 b9 _ ⟨aw,ad⟩;have ba:=a7.trans aw;cases ai:fs q with
 |none=>
  rw[ai] at ad;obtain⟨n,e,rfl,he⟩:=ad;rw[aD (v:=.pointer none) rfl,aD (v:=.int .i64 n) rfl,aD (v:=.int .i64 e) rfl];refine (zW (aI.ext aw).ls aA (by omega)).mono ?_;rintro bq aJ _ ⟨ao,aN,aO,aR,_⟩;obtain rfl:=aR ai;rw[aD (v:=.pointer none) rfl,aD (v:=.int .i64 aN) rfl,aD (v:=.int .i64 aO) rfl];refine aM (fun v ax=>v= .bool true∧Ext aJ ax) ?_ ?_
  ·rintro _ ax ⟨rfl,al⟩;rw[bC,cH (cs:=#[.int .i64 0,.slice none 0 0,.int .i64 0,.slice none 0 0,.slice none 0 0,.slice none 0 0,.slice none 0 0,.slice none 0 0]) (by kernel_rfl)];obtain⟨_,_,V,ag⟩:=An;refine bN (vs:=z12) aK.i rfl rfl (by intro u hu;simp[z12] at hu;rcases hu with rfl|rfl|rfl|rfl <;> rfl) ((((ay.ext aH).ext aw).ext ao).ext al) fun ca br cb bt=>?_;rw[ez aK.p aK.i rfl bt.range];refine⟨((ba.trans ao).trans al).then br fun r ad he=>by have he:r=ac:=he;omega,_,_,false,rfl,⟨rfl,(An).elim fun _ h=>by obtain⟨_,_,h⟩:=h;exact fun u hu=>by simp[z12] at hu;rcases hu with rfl|rfl|rfl|rfl <;> rfl⟩,.inl ⟨rfl,rfl⟩,fun f bb=>?_⟩;rw[ai] at bb;cases bb
  ·intro aS am;rw[bF,ab];exact⟨fun _=>am _ _ ⟨rfl,Ext.refl _⟩,fun h=>absurd he h⟩
 |some f=>
  rw[ai] at ad;obtain⟨bw,n,rfl,bx⟩:=ad;obtain⟨N,bz,ap,bA,bB⟩:=Jr (by omega) ai;have aq:=yM ap;have aC:=tU ap;rw[aD (v:=.pointer (some ⟨bw,0,none⟩)) rfl,aD (v:=.int .i64 n) rfl,aD (v:=.int .i64 0) rfl];refine (zW (aI.ext aw).ls aA (by omega)).mono ?_;rintro bq aJ _ ⟨ao,aN,aO,_,aR⟩;obtain⟨bD,rfl,bE⟩:=aR f ai;rw[aD (v:=.pointer (some ⟨bD,0,none⟩)) rfl,aD (v:=.int .i64 aN) rfl,aD (v:=.int .i64 aO) rfl];refine aM (fun v ax=>v= .bool false∧Ext aJ ax) ?_ ?_
  rotate_left
  ·intro aS am;rw[bF,ab];refine⟨fun h=>absurd rfl h,fun _=>?_⟩;rw[cI sb.u];exact am _ _ ⟨rfl,Ext.refl _⟩
  rintro _ ax ⟨rfl,al⟩;rw[aP];have bG:=(ba.trans ao).trans al;refine (Ih ((bx.ext ao).ext al) ap bz ⟨bA,bB⟩).mono ?_;rintro cc cd _ ⟨aT,bH⟩;have aE:=bG.trans aT;have au:=((((ay.ext aH).ext aw).ext ao).ext al).ext aT;have bc:=(bE.ext al).ext aT;have ce:=aE.size;have cg:w.heap.size≤ac:=by omega
  have ch:=au.lt;rcases bH with⟨bI,e,he,rfl⟩|⟨bJ,rfl,bK⟩
  ·rw[aD (v:=.pointer none) rfl,aD (v:=.int .i64 e) rfl];refine Js.mono ?_;rintro _ bd _ ⟨rfl,W⟩;refine gY (fun aU t4 Y=>aU= .pointer none∧t4= .bool false∧Ext w Y∧ ∃ cs:List x1,ae Y ac aK cs∧cs.length=8∧ ∀ u∈cs,u.oneCell'=true) ?_ ?_
   ·rintro _ _ Y ⟨rfl,rfl,aV,cs,aW,V,ag⟩;rw[ez aK.p aK.i V aW.range];exact⟨aV,_,cs,false,rfl,⟨V,ag⟩,.inl ⟨rfl,rfl⟩,fun ci be bL=>absurd bL (by rw[ai] at be;cases be;exact bI)⟩
   ·intro aS am;refine (Ab (bc.ext W) ap).mono ?_;rintro bM aX _ ⟨aa,aY⟩;refine (Av (R:=fun r=>∃ c,ae aX r U c) (fun r h=>h.elim fun c I=>I.lt) (fun r c I=>⟨c,I⟩) aY aq.1 aC).mono ?_;rintro bO bP _ ⟨ak,A9,cs,rfl,av,aZ⟩;obtain⟨V,ag⟩:=av.len;rw[a8,ab];refine⟨fun h=>absurd h he,fun _=>?_⟩;refine bN (vs:=cs) aK.i V rfl ag (((au.ext W).ext aa).ext ak) fun bQ an bf a1=>?_;exact am _ _ _ ⟨rfl,rfl,(((aE.trans W).trans aa).trans ak).then an fun r ad he=>by have he:r=ac:=he;omega,cs,a1,V,ag⟩
  ·rw[aD (v:=.pointer (some ⟨bJ,0,none⟩)) rfl,aD (v:=.int .i64 0) rfl];refine (IA bK aq.1 aC).mono ?_;rintro _ bd _ ⟨W,aj,ah,A,R,t,rfl,bR,bg,bh,bi⟩;have bj:cp bd aj ah A R (cR f) (dH (cR f)) t:=⟨bR,bg,Jv aq.1 aC bg bh,Iq aq.1,aq.1⟩;refine gY (fun aU t4 Y=>aU= .pointer (some ⟨aj,0,none⟩)∧t4= .bool true∧Ext w Y∧ ∃ cs:List x1,ae Y ac aK cs∧cs.length=8∧(∀ u∈cs,u.oneCell'=true)∧ ∃ R' A9 aQ,cp Y aj ah A R' (cR f) (dH (cR f)) t∧gy true A9 aQ Y cs (cR f).k (cR f).sizes (dH (cR f))∧(∀ q r,A9 q r→¬A r∧¬R' r∧w.heap.size≤r)∧ ∀ r,aQ r→¬dz Y r∧r<Y.heap.size) ?_ ?_
   ·rintro _ _ Y ⟨rfl,rfl,aV,cs,aW,V,ag,R',A9,aQ,bS,av,bT,bU⟩;rw[ez aK.p aK.i V aW.range];exact⟨aV,_,cs,true,rfl,⟨V,ag⟩,.inr ⟨rfl,f,ai,aj,ah,A,R',t,N,A9,aQ,ap,rfl,bS,bh,fun r ad=>by have:=bi r ad;omega,av,bT,bU⟩,fun _ _ _=>rfl⟩
   ·intro aS am;refine (Ab (bc.ext W) ap).mono ?_;rintro bM aX _ ⟨aa,aY⟩;refine (Av (R:=fun r=>∃ c,ae aX r U c) (fun r h=>h.elim fun c I=>I.lt) (fun r c I=>⟨c,I⟩) aY aq.1 aC).mono ?_;rintro bO bP _ ⟨ak,A9,cs,rfl,av,aZ⟩;obtain⟨V,ag⟩:=av.len;rw[a8,ab];refine⟨fun _=>?_,fun h=>absurd rfl h⟩;rw[wi fN.u];have bk:=((au.ext W).ext aa).ext ak;have bV:=((aE.trans W).trans aa).trans ak;refine bN (vs:=cs) aK.i V rfl ag bk fun bQ an bf a1=>?_;have bl:=(bj.ext aa).ext ak;obtain⟨R',bW,bX⟩:=bl.1.put bk an fun h=>by have:=bi ac h;omega
    have cj:=((aE.trans W).trans aa).size;have ck:=ak.size;obtain⟨_,_,_,_,⟨_,_,bY,bZ⟩,_⟩:=(bj.ext aa).1;have cl:=au.lt;have cm:=(W.trans aa).size;have b0:=av.O an fun r ad h he=>by
     have he:r=ac:=he;rcases h with⟨q,h⟩|⟨c,I⟩
     ·have:=aZ q r h;omega
     ·subst he;exact absurd (ei I (((au.ext W).ext aa))) (by decide)
    refine am _ _ _ ⟨rfl,rfl,bV.then an fun r ad he=>by have he:r=ac:=he;omega,cs,a1,V,ag,R',A9,_,⟨bX,bl.2⟩,b0,fun q r h=>?_,fun r h=>?_⟩
    ·have cn:=aZ q r h;refine⟨fun a2=>by have:=bZ r a2;omega,fun a2=>by have:=bY r (bW r a2).1;omega,by omega⟩
    ·obtain⟨c,I⟩:=h;have cq:=I.lt;have bf:=an.size;refine⟨oX ((I.ext ak).O an fun he=>?_) (by decide),by omega⟩;have he:r=ac:=he;subst he;exact absurd (ei I (((au.ext W).ext aa))) (by decide)
abbrev l2:Type:=cJ .u8×Int×Int×Int×Int×List Int×List Int×List (cJ .u16)×Bool
def jz (x:l2):db:=⟨x.1.val,x.2.1,x.2.2.1,x.2.2.2.1,x.2.2.2.2.1,x.2.2.2.2.2.1,x.2.2.2.2.2.2.1,x.2.2.2.2.2.2.2.1,x.2.2.2.2.2.2.2.2⟩
theorem Kx {k:o4} {m:Bool} {R:ag} {F:Nat→ag} {vs:List (List x1)} {l:List (cJ k)} (h:jU m R F w vs l):vs.flatten=ints k l:=by
 have:vs=l.map fun x:cJ k=>[W5 k x]:=by
  apply List.ext_getElem
  ·simp[h.1]
  ·intro i h1 I;have J:i<l.length:=by simpa using I
   have:=h.2 i _ _ (y0 h1) (y0 J);rw[List.getElem_map];exact this
 subst this;clear h;induction l with
 |nil=>rfl
 |cons x l O=>simp only[T4,List.flatten_cons,O];rfl
theorem Ky {k:o4} {m:Bool} {S R:ag} {v:x1} {l:List (cJ k)} (h:ai.rep m S R w [v] l):aB k w v l:=by
 obtain⟨vs,g,F,_,he,I,_⟩:=gj h;have:=I.sl;rw[Kx he] at this;exact this
theorem Kz {R:ag} {cs:List x1} {x:l2} (h:Seen R w cs x) (ad:(jz x).ok):cs.length=9∧cs[0]? =some (.int .u8 (jz x).d)∧(∀ u∈cs,u.oneCell'=true)∧lU w (.agg cs.toArray) (jz x):=by
 refine⟨ai.len h,?_,ai.one h,ad,?_⟩
 ·obtain⟨J,_,_,_,rfl,_,_,_,I,_⟩:=h;have I:J=[.int .u8 x.1]:=I;subst I;rfl
 obtain⟨J,_,_,_,rfl,_,_,_,I,ae,_,_,_,rfl,_,_,_,O,af,_,_,_,rfl,_,_,_,U,ah,_,_,_,rfl,_,_,_,V,aj,_,_,_,rfl,_,_,_,W,ao,_,_,_,rfl,_,_,_,aa,ap,_,_,_,rfl,_,_,_,ab,aq,ak,_,_,rfl,_,_,_,ac,Y⟩:=h;have I:J=[.int .u8 x.1]:=I;have O:ae=[.int .i64 x.2.1]:=O;have U:af=[.int .i64 x.2.2.1]:=U;have V:ah=[.int .i64 x.2.2.2.1]:=V;have W:aj=[.int .i64 x.2.2.2.2.1]:=W;have Y:ak=[.bool x.2.2.2.2.2.2.2.2]:=Y;obtain⟨al,rfl⟩:=X1.1 (ai.len aa);obtain⟨am,rfl⟩:=X1.1 (ai.len ab);obtain⟨an,rfl⟩:=X1.1 (ai.len ac);subst I O U V W Y;exact⟨al,am,an,rfl,ff aa,ff ab,Ky ac⟩
theorem KA {I U:x2} {al:Nat} {ad:x1} {cs:List x1} {f:bP} (ag:ui B I ad cs f) (J:Ext I U) (ai:ae U al aK cs) (ap:I.heap.size≤al):
  ∃ aj ah A R A9 aQ t,ad= .pointer (some ⟨aj,0,none⟩)∧bE U aj ah al A R A9 aQ (cR f) (dH (cR f)) (dH (cR f)) t [] cs∧t.marks=[]∧(∀ r,A r→B≤r)∧(∀ q r,A9 q r→B≤r)∧t.cells.length≤2000000∧t.olds.length=0∧(cR f).funs.length≤256:=by
 obtain⟨aj,ah,A,R,t,N,A9,aQ,V,rfl,W,Y,ak,am,aa,ab⟩:=ag;have af:=q5 W;have z:=J.size;have O:=(q0 (yM V).1 (tU V) (cR f).unary.length (cR f).funs.length);rw[tA,←W.2.1] at O;unfold aH.bW at O;rw[u5] at O;refine⟨aj,ah,A,R,fun q r=>A9 q r∧r<I.heap.size,aQ,t,rfl,⟨W.ext J,Y.2.2,ai,am.old.ext J,fun q r h=>⟨(aa q r h.1).1,(aa q r h.1).2.1,by have:=h.2;omega⟩,fun r ac=>⟨fun h=>(ab r ac).1 (m8 (fun o an ao _=>J.ba r o an ao) h),by have:=(ab r ac).2;omega,by have:=(ab r ac).2;omega⟩,fun h=>by have:=af al (.inl h);omega,fun h=>by have:=af al (.inr h);omega⟩,Y.1,ak,fun q r h=>(aa q r h.1).2.2,O,by rw[Y.2.1];rfl,tU V⟩
def hM (B:Nat) (w:x2) (aj ah al:Nat) (n:aS) (m:Nat):Prop:=∃ A R A9 aQ s t cs,bE w aj ah al A R A9 aQ n s s t [] cs∧h9 s∧(∀ r,A r∨(∃ q,A9 q r)∨r=al→B≤r)∧t.cells.length≤2000000+700*m∧t.olds.length≤800*m∧s.funs.length≤256+m∧s.elims.length≤m
theorem hM.ext {w':x2} {aj ah al:Nat} {n:aS} (h:hM B w aj ah al n m) (I:Ext w w'):hM B w' aj ah al n m:=by
 obtain⟨A,R,A9,aQ,s,t,cs,p,h⟩:=h;exact⟨A,R,A9,aQ,s,t,cs,p.ext I,h⟩
theorem KB {w0:x2} {aj ah al:Nat} {n:aS} {a:db} {cn cN:x1} (h:hM B w aj ah al n m) (hm:m<100) (O:Ext w0 w) (ag:B=w0.heap.size) (U:lU w cn a) (V:a.d % 9<7):
  af x3 pH [.pointer (some ⟨aj,0,none⟩),.pointer (some ⟨al,0,none⟩),cN,cn] w fun v w'=>v= .bool true∧Ext w0 w'∧hM B w' aj ah al n (m+1):=by
 obtain⟨A,R,A9,aQ,s,t,cs,p,W,J,ai,ak,am,he⟩:=h;refine (Kk p (by omega) (by omega) (by omega) (by omega) U V).mono ?_;rintro v w' _ ⟨rfl,Y,R',bz,R9',aa,bU,ab,ac,ad,an,_,_,ae,ao,ap,aq⟩;have z:=O.size;obtain⟨au,av⟩:=Km (n:=n) (s:=s) (a:=a);refine⟨rfl,O.then ac fun r I h=>by have:=J r h;omega,Y,R',bz,R9',_,aa,bU,ab,Kl W p.cE.2.2.2.1,fun r I=>?_,by omega,by omega,by omega,by omega⟩;rcases I with I|⟨q,I⟩|I
 ·exact (ad r I).elim (fun h=>J r (.inl h)) fun h=>by omega
 ·exact (ae q r I).elim (fun h=>J r (.inr (.inl h))) fun h=>by omega
 ·exact J r (.inr (.inr I))
theorem AK {k:Int}:∀ {X:List gR} {a b:List Int},a.length=b.length→(∀ (i:Nat) x,X[i]? =some x→x.gone=0→a[i]? =b[i]?)→(X.zip a).all eH=(X.zip b).all eH∧ ∀ z,(X.zip a).foldl (ga k) z=(X.zip b).foldl (ga k) z
 |[],_,_,_,_=>⟨rfl,fun _=>rfl⟩
 |_::_,[],[],_,_=>⟨rfl,fun _=>rfl⟩
 |_::_,[],_::_,h,_=>by simp at h
 |_::_,_::_,[],h,_=>by simp at h
 |x::X,u::a,v::b,V,h=>by
  obtain⟨h1,J⟩:=AK (k:=k) (X:=X) (a:=a) (b:=b) (by simpa using V) fun i y W I=>h (i+1) y W I;rw[List.zip_cons_cons,List.zip_cons_cons,List.all_cons,List.all_cons,h1];by_cases I:x.gone=0
  ·have e:=h 0 x rfl I;simp only[List.getElem?_cons_zero,Y3] at e;subst e;exact⟨rfl,fun z=>by rw[List.foldl_cons,List.foldl_cons,J]⟩
  ·have O:∀ y,eH (x,y)=true:=fun y=>by unfold eH;simp[I]
   have U:∀ z y,ga k z (x,y)=z:=fun z y=>by unfold ga;rw[if_pos I]
   exact⟨by rw[O,O],fun z=>by rw[List.foldl_cons,List.foldl_cons,U,U,J]⟩
def l3 (s:aF) (a b:List Int):Prop:=a.length=b.length∧ ∀ q,dv s q=false→a[q]? =b[q]?
theorem KC {k:Int} {s:aF} {b:List Int} (W:h9 s) (h:l3 s a b):gr k s a=gr k s b:=by
 have U:=AK (k:=k) (X:=s.vars) h.1 fun i x J O=>h.2 i (by unfold dv;rw[J];simp[O]);unfold gr;rw[U.1,U.2];have Y:∀ (L:List eF),(∀ f∈L,f∈s.funs)→ ∀ z,L.foldl (e8 k a) z=L.foldl (e8 k b) z:=fun L=>by
  induction L with
  |nil=>exact fun _ _=>rfl
  |cons f L aa=>
   intro V z;rw[List.foldl_cons,List.foldl_cons];have e:e8 k a z f=e8 k b z f:=by
    unfold e8;by_cases I:f.live≠0
    ·rw[if_pos I,if_pos I];have:fl a f.sc=fl b f.sc:=List.map_congr_left fun v ab=>by
      rw[u4,u4,h.2 v.toNat];unfold dv;cases J:s.vars[v.toNat]? with
      |none=>rfl
      |some x=>simp[W f (V f (.head _)) I v ab x J]
     rw[this]
    ·rw[if_neg I,if_neg I]
   rw[e];exact aa (fun g O=>V g (.tail _ O)) _
 rw[Y s.funs fun _ h=>h]
theorem KD {s:aF} {b:List Int} (h:l3 s a b) (I:h5 s b):h5 s a:=by
 refine⟨h.1.trans I.1,fun i x v J O=>?_⟩;by_cases U:x.gone=0
 ·rw[h.2 i (by unfold dv;rw[J];simp[U])] at O;exact I.2 i x v J O
 ·exact .inl U
theorem l3.set {s:aF} {b:List Int} {i:Nat} {v:Int} (h:l3 s a b) (J:dv s i=true):l3 s (a.set i v) b:=by
 refine⟨by rw[Y6];exact h.1,fun q I=>?_⟩;rw[W3 (by rintro rfl;rw[J] at I;cases I)];exact h.2 q I
def gA (n:aS) (k m:Int):List Int:=(X7 n.sizes.length).map fun i:Nat=>(k*((i:Int)+1)+m) % n.sizes.getD i 0
theorem KE {n:aS} {s:aF} {k m:Int} (J:et n.k n.sizes s):h5 s (gA n k m):=by
 refine⟨by unfold gA;rw[u5,List.length_range,J.vars],fun i x v U I=>.inr ?_⟩;unfold gA at I;rw[x8] at I;have hi:=(x4.1 U).1;rw[J.vars] at hi;rw[List.getElem?_range hi,Z2] at I;have I:=b9 I;obtain⟨z,O⟩:∃ z,n.sizes[i]? =some z:=⟨_,y0 hi⟩;rw[u4,O] at I;have V:=J.dX.2.2 z (x5 O);have W:=(J.var i x z U O).1;have I:(k*((i:Int)+1)+m) % z=v:=I;have h1:=Int.emod_nonneg (k*((i:Int)+1)+m) (show z≠0 by omega);have Y:=Int.emod_lt_of_pos (k*((i:Int)+1)+m) (show 0<z by omega);omega
def nh (n:aS) (s:aF) (a:List Int) (q:Nat):Prop:=∀ v,a[q]? =some v→dv s q=true∨(0≤v∧v<n.sizes.getD q 0)
theorem KF {n:aS} {s:aF} (I:et n.k n.sizes s):h5 s a↔a.length=n.sizes.length∧ ∀ q,q<a.length→nh n s a q:=by
 unfold h5 nh;rw[I.vars];refine and_congr_right fun W=>⟨fun h q Y v U=>?_,fun h i x v J U=>?_⟩
 ·obtain⟨x,J⟩:∃ x,s.vars[q]? =some x:=⟨_,y0 (by rw[I.vars];omega)⟩;obtain⟨z,O⟩:∃ z,n.sizes[q]? =some z:=⟨_,y0 (by omega)⟩;have V:=I.dX.2.2 z (x5 O);rw[u4,O];unfold dv;rw[J];rcases h q x v J U with h|h
  ·exact .inl (by simp[h])
  ·have:=(I.var q x z J O).1;exact .inr ⟨h.1,by have aa:=h.2;show v<z;omega⟩
 ·have hi:=(x4.1 J).1;rw[I.vars] at hi;obtain⟨z,O⟩:∃ z,n.sizes[i]? =some z:=⟨_,y0 hi⟩;have V:=I.dX.2.2 z (x5 O);have:=(I.var i x z J O).1;rcases h i (x4.1 U).1 v U with h|h
  ·unfold dv at h;rw[J] at h;exact .inl (by simpa using h)
  ·rw[u4,O] at h;have h:0≤v∧v<z:=h;exact .inr (by omega)
section
variable {w0 w:x2} {aj ah al:Nat} {n:aS} {cN:x1}
theorem KG {K:x2→Prop} {ai:x1} {L:List l2} (ao:Ext w0 w) (ak:Seen eN w0 [ai] L) (aE:∀ x∈L,(jz x).ok) (h:hM w0.heap.size w aj ah al n 0) (aF:∀ w' m,Ext w0 w'→hM w0.heap.size w' aj ah al n m→K w'):
  I x3 (Z5 #[mm] U #[ai]) w fun aG=>
 bJ (.int .i64 0) w fun ac J k=>
  I x3 (av .lss U false false ac aG) J fun aH=>
  Split aH (be (α:=x2→Prop) (fun(W:x2)=>
   I x3 (av .add U false true ac (.int .i64 1)) W fun aJ=>
   k aJ W) fun am=>
  I x3 (o6 mm ai ac) J fun aK=>
  I x3 (x6 aN aK) J fun t45=>
  ax x3 (T7 aN true (.tuple #[])) J fun y ap=>
  ax x3 (o3 aN y t45) ap fun(_:Unit) O=>
  be (α:=x1→x2→Prop) (fun(t53:x1) (Y:x2)=>
   Split t53 (I x3 (x6 aN y) Y fun t55=>
    af x3 pH [.pointer (some ⟨aj,0,none⟩),.pointer (some ⟨al,0,none⟩),cN,t55] Y fun bg aq=>
    am aq)
    (am Y)) fun au=>
  I x3 (av .lss U false true ac (.int .i64 25)) O fun aL=>
  Split aL (I x3 (x7 aN y 0) O fun aO=>
   I x3 (x6 b5 aO) O fun t50=>
  I x3 (av .rem b5 false true t50 (.int .u8 9)) O fun aP=>
  I x3 (av .lss b5 false true aP (.int .u8 7)) O fun aQ=>
  au aQ O)
   (au (.bool false) O))
   (K J):=by
 rw[fR mm.u (bO ak ao)];refine bJ.range L.length (fun i J=>Ext w0 J∧ ∃ m,m≤i∧m≤25∧hM w0.heap.size J aj ah al n m) (mr ak) ⟨ao,0,by omega,by omega,h⟩ ?_ ?_
 ·rintro i J aR hi ⟨ad,m,bh,aS,ae⟩ aT;obtain⟨x,aw⟩:∃ x,L[i]? =some x:=⟨_,y0 hi⟩;have ay:=aE x (x5 aw);rw[an,ab];refine⟨fun _=>?_,fun h=>by omega⟩;refine c3 (fun W=>Ext w0 W∧ ∃ m,m≤i+1∧m≤25∧hM w0.heap.size W aj ah al n m) (fun W aU=>by rw[aI];exact aT _ aU) fun am az=>?_;refine jV (α:=l2) aN.p rfl mm.u aN.i (bO ak ad) aw fun cs aV=>?_;obtain⟨aA,aW,aX,aY⟩:=Kz aV ay;refine bu aN.i fun aZ ap bi a1 a2=>?_;refine bN (vs:=cs) aN.i aA rfl aX a2 fun O a6 bj aB=>?_;have ag:Ext J O:=a1.then a6 fun r bk he=>by have he:r=aZ:=he;omega
  have aC:=ad.trans ag;refine aM (fun v Y=>O=Y∧ ∃ b,v= .bool b∧(b=true→i<25∧(jz x).d % 9<7)) ?_ fun bl aD=>?_
  ·rintro _ Y ⟨rfl,b,rfl,a7⟩;rw[br];refine⟨fun a8=>?_,fun _=>az _ ⟨aC,m,by omega,aS,ae.ext ag⟩⟩;obtain⟨ba,bb⟩:=a7 a8;rw[bw aN.p aN.i aA aB.range];refine (KB (a:=jz x) (ae.ext ag) (by omega) aC rfl (aY.ext ag) bb).mono ?_;rintro _ aq _ ⟨_,bc,bd⟩;exact az _ ⟨bc,m+1,by omega,by omega,bd⟩
  ·rw[an,ab];refine⟨fun ba=>?_,fun _=>aD _ _ ⟨rfl,false,rfl,fun h=>by cases h⟩⟩;have bf:=ay.1;rw[V aN.p rfl,aa (v:=.int .u8 (jz x).d) (by kernel_rfl) (aB.cell (o:=0+0) aW),ik (by decide),Int.tmod_eq_emod_of_nonneg bf.1,an];exact aD _ _ ⟨rfl,_,rfl,fun h=>⟨by omega,of_decide_eq_true h⟩⟩
 ·rintro J aR ⟨ad,m,_,_,ae⟩;rw[an,ab];exact⟨fun h=>by omega,fun _=>aF J m ad ae⟩
end
section
variable {w0 w:x2} {aj ah al:Nat} {n:aS} {Q:x1→x2→Prop}
set_option maxHeartbeats 2000000 in
theorem KH {K:x2→Prop} {p:x1} (bL:Ext w0 w) (bM:aB .u8 w0 p pl) (cV:pl.length≤140737488351232) (h:hM w0.heap.size w aj ah al n m) (bN:∀ w',Ext w0 w'→hM w0.heap.size w' aj ah al n m→K w'):
  bt (.bool false) (.int .i64 0) w fun bh aY ao bO=>
  I x3 (av .lss U false true aY (.int .i64 12)) ao fun bP=>
  Split bP (I x3 (x7 aK (.pointer (some ⟨al,0,none⟩)) 1) ao fun bQ=>
  I x3 (x6 ac bQ) ao fun bR=>
  I x3 (Z5 #[ac] U #[bR]) ao fun bi=>
  ax x3 (Instr.makeSlice ac bi bi) ao fun ap aR=>
  I x3 (x7 aK (.pointer (some ⟨al,0,none⟩)) 1) aR fun bS=>
  I x3 (x6 ac bS) aR fun t66=>
  I x3 (Z5 #[ac] U #[t66]) aR fun bT=>
  bJ (.int .i64 0) aR fun aF W bU=>
   I x3 (av .lss U false false aF bT) W fun bV=>
   Split bV (I x3 (o6 ac t66 aF) W fun bW=>
   I x3 (x6 U bW) W fun bX=>
   I x3 (av .add U false true aF (.int .i64 1)) W fun t77=>
   I x3 (av .mul U false false aY t77) W fun bY=>
   I x3 (Z5 #[b7] U #[p]) W fun bZ=>
   I x3 (av .add U false false bY bZ) W fun b0=>
   I x3 (av .rem U false false b0 bX) W fun b1=>
   I x3 (o6 ac ap aF) W fun b2=>
   ax x3 (o3 U b2 b1) W fun(_:Unit) bj=>
   I x3 (av .add U false true aF (.int .i64 1)) bj fun b3=>
   bU b3 bj)
    (af x3 pG [.pointer (some ⟨aj,0,none⟩),ap] W fun bk au=>
  I x3 (j6 bk 0) au fun bl=>
  I x3 (j6 bk 1) au fun b4=>
  be (α:=x1→x2→Prop) (fun(b5:x1) (a1:x2)=>
   Split b5 (Q (.bool false) a1)
    (I x3 (Z5 #[ac] U #[ap]) a1 fun b6=>
  bJ (.int .i64 0) a1 fun aS ad b8=>
   I x3 (av .lss U false false aS b6) ad fun b9=>
   Split b9 (be (α:=x2→Prop) (fun(bm:x2)=>
    I x3 (av .add U false true aS (.int .i64 1)) bm fun ca=>
    b8 ca bm) fun bn=>
   I x3 (x7 aK (.pointer (some ⟨al,0,none⟩)) 4) ad fun cb=>
   I x3 (x6 ew cb) ad fun cc=>
   I x3 (o6 ew cc aS) ad fun cd=>
   I x3 (x6 ea cd) ad fun ce=>
   Split ce (I x3 (o6 ac ap aS) ad fun cg=>
    ax x3 (o3 U cg (.int .i64 1073741824)) ad fun(_:Unit) ch=>
    bn ch)
    (bn ad))
    (af x3 pG [.pointer (some ⟨aj,0,none⟩),ap] ad fun bo aw=>
  I x3 (j6 bo 0) aw fun ci=>
  I x3 (j6 bo 1) aw fun cj=>
  be (α:=x1→x2→Prop) (fun(ck:x1) (a2:x2)=>
   Split ck (Q (.bool false) a2)
    (I x3 (av .add U false true aY (.int .i64 1)) a2 fun cl=>
  bO bh cl a2)) fun bp=>
  I x3 (av .neq dL false true cj (.int .i64 0)) aw fun cm=>
  Split cm (bp (.bool true) aw)
   (I x3 (av .neq ak false false ci bl) aw fun cn=>
  bp cn aw)))) fun bq=>
  I x3 (av .neq dL false true b4 (.int .i64 0)) au fun cp=>
  Split cp (bq (.bool true) au)
   (I x3 (x6 aK (.pointer (some ⟨al,0,none⟩))) au fun cq=>
  af x3 vw [cq,ap] au fun cr br=>
  I x3 (av .neq ak false false bl cr) br fun ct=>
  bq ct br)))
   (K ao):=by
 obtain⟨A,R,A9,aQ,s,t,cs,a6,a7,cu,cw⟩:=h;have ay:=a6.cE.2.2.2.1;have cW:=ay.dX.1;have cX:=ay.dX.2.1;refine bt.range 12 (fun i _ J=>Ext w0 J∧Ext w J) (by omega) ⟨bL,Ext.refl _⟩ ?_ ?_
 rotate_left
 ·rintro _ J cz ⟨aT,cA⟩;rw[show ((12:Nat):Int)=12 from rfl,an,ab];exact⟨fun h=>by omega,fun _=>bN J aT ⟨A,R,A9,aQ,s,t,cs,a6.ext cA,a7,cu,cw⟩⟩
 rintro i bh J cz hi ⟨aT,bu⟩ cB;rw[an,ab];refine⟨fun _=>?_,fun h=>by omega⟩;have aG:=a6.ext bu;obtain⟨aq,cY,cZ,c0,c1,c2,bw,a8,c4,c5,c6,_⟩:=id aG.look;rw[V aK.p rfl,aa (v:=aq) (by kernel_rfl) (bw.cell (o:=0+1) rfl),aL ac.u a8];refine hU (k:=.i64) ac.u U.i (by omega) (by omega) fun O cC c7 aH bx=>?_;have cD:am .i64 U cC O (.slice (some ⟨O,0,none⟩) n.sizes.length n.sizes.length) (r9 n.sizes.length 0):=by
  refine am.of (n:=n.sizes.length) ⟨by simp,.inr ⟨n.sizes.length,ints .i64 (r9 n.sizes.length 0),rfl,bx,by omega,by simp only[maxLen];omega,by simp,by simp⟩⟩
 rw[V aK.p rfl,aa (v:=aq) (by kernel_rfl) ((bw.ext aH).cell (o:=0+1) rfl),aL ac.u (a8.ext aH)];have cF:=aT.trans aH;have c8:=aH.size;have c9:=aT.size;have da:=bx.lt;refine bJ.range n.sizes.length (fun q aJ=>Ext w0 aJ∧Ext J aJ∧am .i64 U aJ O (.slice (some ⟨O,0,none⟩) n.sizes.length n.sizes.length) (upto (gA n i pl.length) 0 q)) (by omega) ⟨cF,aH,?_⟩ ?_ ?_
 ·rw[lw,show (gA n i pl.length).length=n.sizes.length by simp[gA]];exact cD
 ·rintro q aJ cG aU ⟨aV,az,ae⟩ cH;obtain⟨z,ba⟩:∃ z,n.sizes[q]? =some z:=⟨_,y0 aU⟩;have db:=ay.dX.2.2 z (x5 ba);rw[an,ab];refine⟨fun _=>?_,fun h=>by omega⟩;have dc:0≤(i:Int)*((q:Int)+1)∧(i:Int)*((q:Int)+1)≤12*64:=⟨Int.mul_nonneg (by omega) (by omega),Int.mul_le_mul (by omega) (by omega) (by omega) (by omega)⟩;rw[aZ ac.u U.i (by kernel_rfl) (a8.ext az) ba,aI,wrap_i64 (by omega) (by omega),e0,wrap_i64 (by omega) (by omega),aL b7.u (bM.ext aV),aI,wrap_i64 (by omega) (by omega),ik (by omega),Int.tmod_eq_emod_of_nonneg (by omega),
   fS rfl ac.u U.i ae (by rw[lv];simp[gA];omega)]
  refine fT U.i ae (by rw[lv];simp[gA];omega) fun bz bA dd cI=>?_;rw[aI];refine cH _ ⟨aV.then bA fun r bb he=>by have he:r=O:=he;omega,az.then bA fun r bb he=>by have he:r=O:=he;omega,?_⟩;have e:(gA n i pl.length)[q]? =some (((i:Int)*((q:Int)+1)+(pl.length:Int)) % z):=by
   unfold gA;rw[x8,List.getElem?_range aU,Z2,u4,ba];rfl
  rw[←ly e];exact cI
 rintro aJ cG ⟨aV,az,ae⟩;rw[an,ab];refine⟨fun h=>by omega,fun _=>?_⟩;rw[show upto (gA n i pl.length) 0 n.sizes.length=gA n i pl.length by rw[←show (gA n i pl.length).length=n.sizes.length by simp[gA],lx]] at ae;have aW:=KE (k:=(i:Int)) (m:=(pl.length:Int)) ay;obtain⟨l,bB⟩:∃ l,l=gA n i pl.length:=⟨_,rfl⟩;rw[←bB] at ae aW;have bC:l.length=n.sizes.length:=by rw[bB];simp[gA]
 refine (oW (a:=l) (aG.ext az).cE ae.ls).mono ?_;rintro v bz _ ⟨⟨ag,_⟩,bc⟩;have ag:=ag aW;subst ag;rw[aD (v:=.int .i64 (gr n.k s l)) rfl,aD (v:=.int .i64 0) rfl];refine aM (fun v bd=>v= .bool false∧Ext bz bd) ?_ ?_
 rotate_left
 ·intro bD aA;rw[bF,ab];refine⟨fun h=>absurd rfl h,fun _=>?_⟩;refine (aG.ext (az.trans bc)).look.load fun de cJ=>?_;refine (J2 cJ ay a7 aW (ae.ls.ext bc)).mono ?_;rintro _ bd _ ⟨rfl,bf⟩;rw[bF];exact aA _ _ ⟨by simp,bf⟩
 rintro _ bd ⟨rfl,bf⟩;have bg:=bc.trans bf;have bE:=ae.ext bg;rw[aP,aL ac.u bE.ls,bC];refine bJ.range n.sizes.length (fun q aN=>Ext w0 aN∧Ext J aN∧ ∃ Y,am .i64 U aN O (.slice (some ⟨O,0,none⟩) n.sizes.length n.sizes.length) Y∧l3 s Y l) (by omega) ⟨aV.trans bg,az.trans bg,l,bE,rfl,fun _ _=>rfl⟩ ?_ ?_
 ·rintro q aN cK aU ⟨aX,aC,Y,aO,aE⟩ cL;obtain⟨x,bG⟩:∃ x,s.vars[q]? =some x:=⟨_,y0 (by rw[ay.vars];exact aU)⟩;have cM:dv s q=decide (x.gone≠0):=by unfold dv;rw[bG]
  rw[an,ab];refine⟨fun _=>?_,fun h=>by omega⟩;refine c3 (fun ai=>Ext w0 ai∧Ext J ai∧ ∃ Y,am .i64 U ai O (.slice (some ⟨O,0,none⟩) n.sizes.length n.sizes.length) Y∧l3 s Y l) (fun ai cN=>by rw[aI];exact cL _ cN) fun bD aA=>?_;obtain⟨_,_,cO,_,_,_,cP,_,_,_,cQ,_⟩:=(aG.ext aC).look;rw[V aK.p rfl,aa (v:=cO) (by kernel_rfl) (cP.cell (o:=0+4) rfl)];refine io (α:=Bool) (i:=q) rfl rfl ew.u ea.i (by kernel_rfl) cQ (by rw[x8,bG];rfl) fun cR cS=>?_;obtain rfl:cR= .bool (decide (x.gone≠0)):=(T8 cS).1;rw[ab];refine⟨fun cT=>?_,fun _=>aA _ ⟨aX,aC,Y,aO,aE⟩⟩;have df:Y.length=n.sizes.length:=aE.1.trans bC;rw[fS rfl ac.u U.i aO (by omega)];refine fT U.i aO (by omega) fun ai bH dg cU=>aA _ ⟨aX.then bH fun r bb he=>by have he:r=O:=he;omega,aC.then bH fun r bb he=>by have he:r=O:=he;omega,_,cU,aE.set (by rw[cM];exact decide_eq_true cT)⟩
 rintro aN cK ⟨aX,aC,Y,aO,aE⟩;rw[an,ab];refine⟨fun h=>by omega,fun _=>?_⟩;refine (oW (a:=Y) (aG.ext aC).cE aO.ls).mono ?_;rintro v ai _ ⟨⟨ag,_⟩,bI⟩;have ag:=ag (KD aE aW);subst ag;rw[aD (v:=.int .i64 (gr n.k s Y)) rfl,aD (v:=.int .i64 0) rfl,KC a7 aE];refine aM (fun v bK=>v= .bool false∧ai=bK) ?_ ?_
 ·rintro _ bK ⟨rfl,rfl⟩;rw[aP,aI];exact cB _ _ ⟨aX.trans bI,bu.trans (aC.trans bI)⟩
 ·intro bD aA;rw[bF,ab];refine⟨fun h=>absurd rfl h,fun _=>?_⟩;rw[bF];exact aA _ _ ⟨by simp,rfl⟩
end
theorem KI (aA:ep w):af x3 BB [] w fun v w'=>v= .bool true∧Ext w w':=by
 refine az func11 ?_;refine il (k:=1) (cs:=(ints .u8 iL).toArray) b7.u b5.i (by omega) (by kernel_rfl) fun g J bm I V=>?_;have ag:am .u8 b5 J g (.slice (some ⟨g,0,none⟩) 30 30) iL:=am.of (n:=30) (bG.full (by simpa using V) (by simp[iL]) (by simp[maxLen]));refine Ku V fun W ai ak=>?_;have I:Ext w W:=I.then ai fun r an he=>by have he:r=g:=he;omega
 have aC:aB .u8 W (.slice (some ⟨g,0,none⟩) 30 30) iL:=by
  obtain⟨aE,b,o,base,cap,aF,aG,aH,aI,aJ⟩:=ag.ls;cases aF;cases aI (by simp[iL]);exact⟨aE,g,0,_,30,rfl,aG,aH,fun _=>rfl,ak _ _ aJ⟩
 clear ag V ak ai;refine (AJ aC (by intro b aL;simp[iL] at aL;omega) (aA.ext I)).mono ?_;rintro _ ao _ ⟨aN,aO,cs,ok,rfl,⟨aR,aS⟩,aT,aU⟩;have ap:fs (iL.take 300)=some fo:=by
  rw[l5 (by decide)];exact Kn
 have aV:ok=true:=aU fo ap Ko;subst aV;obtain⟨f,aq,aj,ah,A,R,t,N,A9,aQ,bn,rfl,aW,aX,aY,_⟩:∃ f,fs (iL.take 300)=some f∧ui W.heap.size ao aO cs f:=by
  rcases aT with⟨h,_⟩|⟨_,h⟩
  ·cases h
  ·exact h
 rw[ap] at aq;cases aq;have aZ:=I.trans aN;rw[aD (v:=.pointer (some ⟨aj,0,none⟩)) rfl,aD (v:=.agg cs.toArray) rfl,aD (v:=.bool true) rfl];refine bu aK.i fun al bo bp a1 a2=>?_;refine bN (vs:=cs) aK.i aR rfl aS a2 fun a6 a7 bq br=>?_;have au:Ext ao a6:=a1.then a7 fun r an he=>by have he:r=al:=he;omega
 have ba:=aW.ext au;refine aM (fun v Y=>v= .bool false∧Ext w Y∧ ∃ O av,cp Y aj ah O R (cR fo) (gv (dH (cR fo)) 1 1) av) ?_ ?_
 rotate_left
 ·intro bb aa;rw[bc,Y4,aP];refine (tS (i:=1) (v:=1) ba (.inl aX.1)).mono ?_;rintro bt bw _ ⟨_,bd⟩;obtain⟨rfl,bx,O,x,be,bf⟩:=bd Kp;rw[bF];refine aa _ _ ⟨by congr 1,?_,O,_,bf⟩;exact (aZ.trans au).then be.1 fun r an h=>by have:=aY r h;have:=I.size;omega
 rintro _ Y ⟨rfl,bg,O,av,aw⟩;rw[aP];refine nR (l:=[1,1]) ac.u U.i (by omega) rfl (by kernel_rfl) fun bz bA bB bC ad bh=>?_;refine (oW (aw.ext ad) bh.ls).mono ?_;rintro _ bD _ ⟨⟨ae,_⟩,ax⟩;obtain rfl:=ae (AI.1 Kq);rw[Ks,aD (v:=.int .i64 9) rfl,aD (v:=.int .i64 0) rfl];refine nR (l:=[1,0]) ac.u U.i (by omega) rfl (by kernel_rfl) fun bE bH bI bJ ay bi=>?_;refine (oW (((aw.ext ad).ext ax).ext ay) bi.ls).mono ?_;rintro _ bK _ ⟨⟨ae,_⟩,bj⟩;obtain rfl:=ae (AI.1 Kr);rw[Kt,aD (v:=.int .i64 0) rfl,aD (v:=.int .i64 0) rfl];have bk:=(((bg.trans ad).trans ax).trans ay).trans bj;refine aM (fun v bl=>v= .bool true∧Ext w bl) (fun _ _ h=>h) fun bb aa=>?_;rw[a8,ab];refine⟨fun _=>?_,fun h=>absurd rfl h⟩;rw[a8,ab];refine⟨fun _=>?_,fun h=>absurd rfl h⟩;rw[a8,ab];refine⟨fun _=>?_,fun h=>absurd rfl h⟩;rw[a8];exact aa _ _ ⟨rfl,bk⟩
section
variable {w0 w:x2} {aj ah al:Nat} {n:aS} {Q:x1→x2→Prop}
set_option maxHeartbeats 2000000 in
theorem KJ {a:x1} {ap:List Int} (aC:Ext w0 w) (aE:aB .i64 w0 a ap) (h:hM B w aj ah al n m) (aN:∀ w',Ext w0 w'→Q (.bool true) w'):
  I x3 (Z5 #[ac] U #[a]) w fun bh=>
 I x3 (n0.min_ #[U,U] U #[bh,(.int .i64 70)]) w fun bi=>
 I x3 (X6 ac a none (some bi) none) w fun bj=>
 af x3 nz [bj] w fun au ad=>
 I x3 (Z5 #[ac] U #[au]) ad fun bk=>
 I x3 (x7 aK (.pointer (some ⟨al,0,none⟩)) 1) ad fun bl=>
 I x3 (x6 ac bl) ad fun bm=>
 I x3 (Z5 #[ac] U #[bm]) ad fun bn=>
 I x3 (av .eql U false false bk bn) ad fun bo=>
 I x3 (Z5 #[ac] U #[au]) ad fun bp=>
 bt bo (.int .i64 0) ad fun ae ai J bq=>
  I x3 (av .lss U false false ai bp) J fun bu=>
  Split bu (be (α:=x1→x2→Prop) (fun(bw:x1) (aO:x2)=>
   I x3 (av .add U false true ai (.int .i64 1)) aO fun bx=>
   bq bw bx aO) fun aw=>
  I x3 (o6 ac au ai) J fun bz=>
  I x3 (x6 U bz) J fun aR=>
  Split ae (I x3 (x7 aK (.pointer (some ⟨al,0,none⟩)) 4) J fun bA=>
   I x3 (x6 ew bA) J fun bB=>
  I x3 (o6 ew bB ai) J fun bD=>
  I x3 (x6 ea bD) J fun bE=>
  Split bE (aw (.bool true) J)
   (I x3 (av .geq U false true aR (.int .i64 0)) J fun bF=>
  Split bF (I x3 (x7 aK (.pointer (some ⟨al,0,none⟩)) 1) J fun bG=>
  I x3 (x6 ac bG) J fun bH=>
  I x3 (o6 ac bH ai) J fun bI=>
  I x3 (x6 U bI) J fun bJ=>
  I x3 (av .lss U false false aR bJ) J fun bK=>
  aw bK J)
   (aw (.bool false) J)))
   (aw (.bool false) J))
   (af x3 pG [.pointer (some ⟨aj,0,none⟩),au] J fun aS O=>
 I x3 (j6 aS 0) O fun b8=>
 I x3 (j6 aS 1) O fun aT=>
 be (α:=x1→x2→Prop) (fun(bL:x1) (bM:x2)=>
  Q bL bM) fun aF=>
 I x3 (av .eql dL false true aT (.int .i64 0)) O fun bN=>
 I x3 (av .eql ea false false bN ae) O fun bO=>
 Split bO (Split ae (aF (.bool true) O)
  (I x3 (av .eql dL false true aT (.int .i64 3)) O fun bP=>
 aF bP O))
  (aF (.bool false) O)):=by
 obtain⟨A,R,A9,aQ,s,t,cs,aU,b9,ca,cb⟩:=h;have aV:=aU.cE.2.2.2.1;have cc:=aE.le;rw[aL ac.u (aE.ext aC),hD];refine p4 (i:=min ap.length 70) (by omega) ac.u U.i (aE.ext aC) (by omega) fun cd bQ=>?_;refine (hc bQ (by rw[o8];omega)).mono ?_;rintro ce bR _ ⟨aW,cg,_,ak⟩;obtain⟨l,aX⟩:∃ l,l=ap.take (min ap.length 70):=⟨_,rfl⟩;rw[←aX] at ak;have ch:l.length≤70:=by rw[aX,o8];omega
 have aG:=aU.ext aW;obtain⟨aq,ci,cj,ck,cl,cn,bS,bT,cp,cq,cr,_⟩:=id aG.look;rw[aL ac.u ak.ls,V aK.p rfl,aa (v:=aq) (by kernel_rfl) (bS.cell (o:=0+1) rfl),aL ac.u bT,a8,aL ac.u ak.ls];refine bt.range l.length (fun i ae ax=>Ext bR ax∧ ∃ b,ae= .bool b∧(b=true↔l.length=n.sizes.length∧ ∀ q,q<i→nh n s l q)) (by omega) ⟨Ext.refl _,_,rfl,⟨fun h=>⟨by have:=of_decide_eq_true h;omega,fun q aY=>by omega⟩,fun h=>decide_eq_true (by omega)⟩⟩ ?_ ?_
 ·rintro i _ ax bU hi ⟨ag,b,rfl,ay⟩ bV;obtain⟨x,aH⟩:∃ x,l[i]? =some x:=⟨_,y0 hi⟩;rw[an,ab];refine⟨fun _=>?_,fun h=>by omega⟩;refine aM (fun ae am=>ax=am∧ ∃ az,ae= .bool az∧(az=true↔b=true∧nh n s l i)) ?_ ?_
  ·rintro _ am ⟨rfl,az,rfl,bW⟩;rw[aI];refine bV _ _ ⟨ag,az,rfl,?_⟩;rw[bW,ay];exact⟨fun⟨⟨h1,W⟩,bX⟩=>⟨h1,fun q aY=>by
    by_cases bY:q=i
    ·subst bY;exact bX
    ·exact W q (by omega)⟩,fun⟨h1,W⟩=>⟨⟨h1,fun q aY=>W q (by omega)⟩,W i (by omega)⟩⟩
  intro a1 Y;rw[aZ ac.u U.i (by kernel_rfl) (ak.ls.ext ag) aH,br];refine⟨fun aJ=>?_,fun a2=>Y _ _ ⟨rfl,false,rfl,⟨(fun h=>by cases h),fun h=>by rw[h.1] at a2;cases a2⟩⟩⟩;have ct:=(ay.1 aJ).1;obtain⟨y,a6⟩:∃ y,s.vars[i]? =some y:=⟨_,y0 (by rw[aV.vars];omega)⟩;obtain⟨z,a7⟩:∃ z,n.sizes[i]? =some z:=⟨_,y0 (by omega)⟩;have bZ:dv s i=decide (y.gone≠0):=by unfold dv;rw[a6]
  have b0:n.sizes.getD i 0=z:=by rw[u4,a7];rfl
  have aA:nh n s l i↔y.gone≠0∨(0≤x∧x<z):=by
   unfold nh;rw[bZ,b0];exact⟨fun h=>(h x aH).imp of_decide_eq_true id,fun h v ba=>by rw[aH] at ba;cases ba;exact h.imp (fun h=>decide_eq_true h) id⟩
  obtain⟨b1,_,b2,_,_,_,bb,b3,_,_,b4,_⟩:=(aG.ext ag).look;rw[V aK.p rfl,aa (v:=b2) (by kernel_rfl) (bb.cell (o:=0+4) rfl)];refine io (α:=Bool) (i:=i) rfl rfl ew.u ea.i (by kernel_rfl) b4 (by rw[x8,a6];rfl) fun b5 b6=>?_;obtain rfl:b5= .bool (decide (y.gone≠0)):=(T8 b6).1;rw[ab];refine⟨fun bc=>Y _ _ ⟨rfl,true,rfl,⟨fun _=>⟨aJ,aA.2 (.inl bc)⟩,fun _=>rfl⟩⟩,fun bc=>?_⟩;rw[cm,ab];refine⟨fun bd=>?_,fun bd=>Y _ _ ⟨rfl,false,rfl,⟨(fun h=>by cases h),fun h=>by have:=aA.1 h.2;omega⟩⟩⟩;rw[V aK.p rfl,aa (v:=b1) (by kernel_rfl) (bb.cell (o:=0+1) rfl),aZ ac.u U.i (by kernel_rfl) b3 a7,an];exact Y _ _ ⟨rfl,_,rfl,⟨fun h=>⟨aJ,aA.2 (.inr ⟨bd,of_decide_eq_true h⟩)⟩,fun h=>decide_eq_true (by have:=aA.1 h.2;omega)⟩⟩
 rintro _ ax bU ⟨ag,b,rfl,ay⟩;rw[an,ab];refine⟨fun h=>by omega,fun _=>?_⟩;have bf:b=true↔h5 s l:=ay.trans (KF aV).symm;refine (oW (a:=l) (aG.ext ag).cE (ak.ls.ext ag)).mono ?_;rintro v am _ ⟨⟨h1,W⟩,b7⟩;have bg:=((aC.trans aW).trans ag).trans b7;cases b with
 |true=>
  have h1:=h1 (bf.1 rfl);subst h1;rw[aD (v:=.int .i64 (gr n.k s l)) rfl,aD (v:=.int .i64 0) rfl];refine aM (fun v ao=>v= .bool true∧am=ao) ?_ fun a1 Y=>?_
  ·rintro _ ao ⟨rfl,rfl⟩;exact aN _ bg
  ·rw[a8,zk ea.u];simp only[decide_true,beq_self_eq_true,bC];exact Y _ _ ⟨rfl,rfl⟩
 |false=>
  have W:=W fun h=>by have:=bf.2 h;cases this
  subst W;rw[aD (v:=.int .i64 0) rfl,aD (v:=.int .i64 3) rfl];refine aM (fun v ao=>v= .bool true∧am=ao) ?_ fun a1 Y=>?_
  ·rintro _ ao ⟨rfl,rfl⟩;exact aN _ bg
  ·rw[a8,zk ea.u,show (decide ((3:Int)=0) == false)=true by decide,bC,aP,a8];exact Y _ _ ⟨by simp,rfl⟩
end
theorem KK {x:l2} (h:(o4.u8.min≤x.1.val∧x.1.val≤o4.u8.max)∧(Y0.min≤x.2.1∧x.2.1≤Y0.max)∧(Y0.min≤x.2.2.1∧x.2.2.1≤Y0.max)∧(Y0.min≤x.2.2.2.1∧x.2.2.2.1≤Y0.max)∧(Y0.min≤x.2.2.2.2.1∧x.2.2.2.2.1≤Y0.max)∧
  (∀ a∈x.2.2.2.2.2.1,Y0.min≤a∧a≤Y0.max)∧(∀ a∈x.2.2.2.2.2.2.1,Y0.min≤a∧a≤Y0.max)∧(∀ a∈x.2.2.2.2.2.2.2.1,o4.u16.min≤a.val∧a.val≤o4.u16.max)∧True):(jz x).ok:=by
 have aa:o4.u8.min=0:=by decide
 have ab:o4.u8.max=255:=by decide
 have ac:Y0.min= -9223372036854775808:=by decide
 have ad:Y0.max=9223372036854775807:=by decide
 have ae:o4.u16.min=0:=by decide
 have af:o4.u16.max=65535:=by decide
 rw[aa,ab,ac,ad,ae,af] at h;obtain⟨h1,J,O,U,V,W,Y,ag,_⟩:=h;exact⟨⟨h1.1,by have:=h1.2;show x.1.val<256;omega⟩,⟨J.1,by have:=J.2;show x.2.1<_;omega⟩,⟨O.1,by have:=O.2;show x.2.2.1<_;omega⟩,⟨U.1,by have:=U.2;show x.2.2.2.1<_;omega⟩,⟨V.1,by have:=V.2;show x.2.2.2.2.1<_;omega⟩,
  fun y I=>⟨(W y I).1,by have:=(W y I).2;omega⟩,fun y I=>⟨(Y y I).1,by have:=(Y y I).2;omega⟩,fun y I=>by have h:0≤y∧y≤65535:=ag y I;omega⟩
set_option maxHeartbeats 400000 in
theorem KL {p U a:x1} {ag:List Int} {L:List l2} {Q:x1→x2→Prop} (V:∀ w',Ext w w'→Q (.bool true) w') (W:aB .u8 w p pl) (ai:∀ b∈pl,0≤b∧b<256) (ak:pl.length≤140737488351232) (am:Seen eN w [U] L) (an:∀ x∈L,(jz x).ok) (ao:aB .i64 w a ag) (Y:ep w):
  af x3 vv [p,U,a] w Q:=by
 refine az func4 ?_;refine (KI Y).mono ?_;rintro _ J _ ⟨rfl,O⟩;rw[bc,Y4,aP];refine (AJ (W.ext O) ai (Y.ext O)).mono ?_;rintro _ ap _ ⟨aa,aq,cs,ok,rfl,⟨au,av⟩,aw,_⟩;have ax:=O.trans aa;rw[aD (v:=aq) rfl,aD (v:=.agg cs.toArray) rfl,aD (v:=.bool ok) rfl];refine bu aK.i fun al aO aR ay aA=>?_;refine bN (vs:=cs) aK.i au rfl av aA fun ab aC aS aE=>?_;have ac:Ext ap ab:=ay.then aC fun r I he=>by have he:r=al:=he;omega
 have ad:=ax.trans ac;rcases aw with⟨rfl,rfl⟩|⟨rfl,f,_,aF⟩
 ·rw[bc,X4,bC,cI fN.u];exact V _ ad
 obtain⟨aj,ah,A,R,A9,aQ,t,rfl,P,aT,aG,aH,aU,aV,aW⟩:=KA aF ac aE (by omega);rw[bc,Y4,aP];have aX:=O.size;have aY:=aa.size;have aI:hM w.heap.size ab aj ah al (cR f) 0:=⟨A,R,A9,aQ,_,t,cs,P,Kv _,fun r I=>by
  rcases I with I|⟨q,I⟩|rfl
  ·have:=aG r I;omega
  ·have:=aH q r I;omega
  ·omega,by omega,by omega,by show ((cR f).funs.map _).length≤_;rw[u5];omega,o7 _⟩
 refine bu r7.i fun aZ a1 a2 ae _=>?_;refine KG (ad.trans ae) am an (aI.ext ae) fun a6 m aJ aL=>?_;refine KH aJ W ak aL fun a7 aM aN=>?_;exact KJ aM ao aN V
theorem KM {p I a:x1} {J:List Int} {L:List l2} (O:aB .u8 w p pl) (U:∀ b∈pl,0≤b∧b<256) (V:pl.length≤140737488351232) (W:Seen eN w [I] L) (Y:∀ x∈L,(jz x).ok) (aa:aB .i64 w a J) (ab:ep w):
  af x3 vv [p,I,a] w fun v w'=>v= .bool true∧Ext w w':=by
 exact KL (fun w' ac=>⟨rfl,ac⟩) O U V W Y aa ab
end Go.Proofs.YtgbkinibgjmodaaGreatDoor
