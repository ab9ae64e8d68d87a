/- own texts, made small by a tool (wip/ holds them as they were written): no statement of the seat. -/
import Derived.Test.YtgbkinibgjmodaaGreatDoorZb
set_option linter.unusedVariables false
set_option linter.unusedSimpArgs false
set_option linter.unnecessarySimpa false
open Array renaming getElem?_eq_some_iff→o4,getElem?_toList→V9
open BitVec renaming ofInt→V0
open Bool renaming not_true→Z3,not_false→Y8,and_eq_true→X2,eq_iff_iff→X5,or_eq_false_iff→V7
open Decidable renaming not_not→Z7
open Go renaming Value→x1,World→x2,TypeId→u5,IntKind→r9,Builtin→n0,Program→Y3,Oper→W0,Operand→V5
open Go.Addr renaming add_mid→W5
open Go.Builtin renaming append_→l5,len_→Z8
open Go.Instr renaming loadAt→x7,fieldAt→x8,storeAt→o7,indexAt→j4,buildSlice→j9,extract→c9,sliceAt→Y9
open Go.IntKind renaming i64→X0,u64→X9
open Go.Proofs.Tryz renaming prog→x5
open Go.Result renaming andThen→Z6
open Go.Sem renaming run_bind→Z4,run_pure→Z9
open Go.Sort renaming Holds→V6
open Go.Value renaming int→Y5
open Int renaming toNat_natCast→c8
open List renaming getElem?_eq_getElem→y0,getElem?_eq_some_iff→x3,mem_of_getElem?→x4,getElem?_map→x6,replicate→v8,take_add_one→u4,getD_eq_getElem?_getD→u6,length_map→u7,length_append→r8,mem_singleton→p8,mem_append→p9,take_length→o3,length_take→o5,mem_map→o6,eq_nil_of_length_eq_zero→o8,map_append→o9,length_cons→l6,getElem?_eq_none→c6,getElem?_take_of_lt→c7,take_of_length_le→b6,getElem?_append_left→Z0,getElem?_append_right→Z2,getElem?_set→Y0,range→Y1,drop_eq_getElem_cons→Y2,ext_getElem?→Y4,mem_iff_getElem?→Y6,pairwise_iff_getElem→X3,length_set→X4,length→X7,append_assoc→X8,flatMap_cons→W7,length_eq_one_iff→W8,mem_or_eq_of_mem_set→V2,append_nil→V4,mem_cons→V8,getElem?_set_self→U1,length_singleton→U2
open Nat renaming le_refl→u9,zero_le→Z1,le_trans→Z5,mul_le_mul_right→Y7,sub_self→X6,add_mul→W3,beq→W6,mul_one→W9,zero_add→V3
open Option renaming some→n9,toList_some→l9,map_some→j6,isNone_some→c5,map_eq_some_iff→b8,map→X1
open Option.some renaming inj→j5,injEq→b9
open Prod.mk renaming injEq→V1
namespace Go.Proofs.YtgbkinibgjmodaaGreatDoor
open Go Go.Vc Go.RowKit Go.Proofs Go.Proofs.Tryz
set_option maxRecDepth 100000
theorem w4 {w:x2} {U E:Nat} {cs:List x1} {K:x1→x2→Prop} (J:cs.length=4) (h1:∀ v∈cs,v.oneCell'=true) (X:ad w U bp cs) {V:List x1} (Y:V.length=4) (Z:ad w E bp V)
  (aa:∀ w',af (fun r=>r=E) w w'→K (.agg cs.toArray) w'):
  O x5 (x7 bp (.pointer (some ⟨U,0,none⟩))) w fun ab=>
  aA x5 (o7 bp (.pointer (some ⟨E,0,none⟩)) ab) w fun(_:Unit) W=>
  O x5 (do loadVar bp (←asAddr (.pointer (some ⟨E,0,none⟩)))) W fun ac=>K ac W:=by
 rw[bj bp.p bp.i J X.range];refine bP bp.i J Y h1 Z fun w' ae _ ag=>?_;rw[eo bp.p bp.i J ag.range];exact aa w' ae
theorem w5 {sizes:List Int} {s s':aw} {l:List (List Int×Int)} (h:cW sizes s=some (l,s')):s'.shared=s.shared∧s'.toks.length≤s.toks.length:=by
 unfold cW at h;cases J:aT (-ak) ak s with
 |none=>rw[J] at h;cases h
 |some q=>
  obtain⟨n,E⟩:=q;rw[J] at h;simp only at h;have h1:=cN J;obtain⟨X,Y,O⟩:=h1.eqs;split at h
  ·cases U:E.shared[(-n-1).toNat]? with
   |none=>rw[U] at h;cases h
   |some q=>
    obtain⟨z,l'⟩:=q;rw[U] at h;simp only at h;split at h
    ·simp only[b9,V1] at h;obtain⟨rfl,rfl⟩:=h;exact⟨O,by have:=h1.1;omega⟩
    ·cases h
  ·have:=hU (f:=cV sizes) (fun acc t=>t.shared=s.shared∧t.toks.length≤s.toks.length) (fun acc t a Z ⟨W,aa⟩ g=>by
    obtain⟨ab,ac,ad,V⟩:=lA g;obtain⟨f1,f2,f3⟩:=V.eqs;exact⟨by rw[f3,W],by have:=V.1;omega⟩) n.toNat [] (aQ (decide (16384<min (E.told+n) ak)) {E with told:=min (E.told+n) ak}) l s' ⟨O,by have:=h1.1;show E.toks.length≤_;omega⟩ h
   exact this.1
set_option maxHeartbeats 8000000 in
theorem E8 {w:x2} {g gs:Nat} {A B:an} {s:aw} {clean:Bool} {a6:x1} {all:List Int} (h:cq w g gs A B s clean) (hi:cX s) (b9:aC .i64 w a6 all) (bE:∀ r,leads a6 r→¬ba g gs A r∧r<w.heap.size)
  (cO:∀ z∈all,1≤z∧z≤ak) (dO:all.length≤100001) (cP:dW w) (h1:bQ g gs A B 1):
  ah x5 tT [.pointer (some ⟨g,0,none⟩),a6] w fun v w'=>∃ ab aE cs,∃ ca:fp,v= .agg cs.toArray∧cs.length=4∧af (ba g gs A) w w'∧(∀ r,ab r→A r∨w.heap.size≤r)∧(∀ r,aE r→(B r∨w.heap.size≤r)∧r<w'.heap.size)∧(∀ r,B r→aE r)∧fa w' g gs ab aE clean ((ck all s).map (·.2))∧
   Seen (bQ g gs ab aE) w' cs ca∧ ∀ q,ck all s=some q→ca=fb q.1:=by
 have cQ:=h.1;obtain⟨dP,dQ,bF,cR,aF⟩:=id cQ;have gT:∀ r,ba g gs A r→r<w.heap.size:=cR;have dR:ak=4611686018427387904:=rfl;have dS:s.shared.length+s.toks.length≤100000:=h.2.2.1.2.2;refine aq func151 ?_;refine bi bp.i fun W cS dT bG bh=>?_;have bh:ad cS W bp [.slice none 0 0,.slice none 0 0,.int .i64 0,.slice none 0 0]:=bh;have dU:=bG.size;have dV:=bh.lt;have al:¬ba g gs A W:=fun O=>by have:=gT _ O;omega
 refine (q8 (lo:=-ak) (hi:=ak) (h.ext bG)).mono ?_;rintro _ bI _ ⟨aH,a,at_,rfl,cb,cU⟩;obtain⟨bK,bL⟩:=aH.of;have dX:=bK.size;rw[av (v:=.int .i64 a) rfl,av (v:=.int .i64 at_) rfl,ao,iZ];have dY: -ak≤a∧a≤ak:=by
  cases X:aT (-ak) ak s with
  |none=>rw[cU X];unfold ak;omega
  |some q=>rw[cb q X];exact (fB (n:=q.1) (s':=q.2) X).1
 rw[wrap_i64 (by omega) (by omega),oc,show max a (0-a)=((a.natAbs:Nat):Int) by omega];have cc:af (ba g gs A) w bI:=(bG.U _).trans bK;have cV:aC .i64 bI a6 all:=hg b9 cc fun r E a n c ac bM=>(bE r ⟨a,n,c,ac,bM⟩).1 E;rw[aI ap.u cV];refine (E5 (k:=a.natAbs) (m:=(all.length:Int)) bL (by omega) (by omega)).mono ?_;rintro aN dZ _ ⟨aH,bN,scope,a7,cY,ea,cZ⟩;obtain⟨bO,c0⟩:=aH.of;have z3:=bO.size;rw[cI (cs:=#[aN,.slice none 0 0,.int .i64 0,.slice none 0 0]) (by obtain⟨_,_,_,_,_,rfl,_⟩:=a7.ls;kernel_rfl)];refine bi bp.i fun J c1 eb bb bj=>?_;have bj:ad c1 J bp [.slice none 0 0,.slice none 0 0,.int .i64 0,.slice none 0 0]:=bj;have z4:=bb.size;have ec:=bj.lt;have bR:=a7.ls.cells;refine bP (vs:=[aN,.slice none 0 0,.int .i64 0,.slice none 0 0]) bp.i rfl rfl (by intro v ac;simp at ac;rcases ac with rfl|rfl|rfl|rfl <;> first|exact bR.2|rfl) bj fun bk bc ed c2=>?_;have aS:¬ba g gs A J:=fun O=>by have:=gT _ O;omega
 have cd:cw bk g gs A B clean ((mX all.length a.natAbs ((aT (-ak) ak s).map (·.2))).map (·.2)):=(c0.ext bb).U bc (fun r E he=>by have he:r=J:=he;exact aS (he▸E)) (fun r E he=>by have:=aF r E.2;have he:r=J:=he;omega);have ce:af (ba g gs A) w bk:=fk ((cc.trans bO).trans (bb.U _)) bc fun r E he=>by have he:r=J:=he;omega
 have c3:ad bk W bp [.slice none 0 0,.slice none 0 0,.int .i64 0,.slice none 0 0]:=(((bh.U bK al).U bO al).ext bb).U bc (fun he=>by have he:W=J:=he;omega);have c4:am .i64 aj bk bN aN scope:=aX (a7.ext bb) bc fun r E he=>by
  obtain⟨c5,bL⟩:=bw a7 E;have he:r=J:=he;omega
 refine (lK cd).mono ?_;rintro _ bl _ ⟨rfl,aJ⟩;have aU:=cd.ext aJ;have bd:=c4.ext aJ;have bS:=c2.ext aJ;have cg:=c3.ext aJ;have ee:=aJ.size;have z5:=bc.size;have aB:∀ r,leads aN r→bI.heap.size≤r∧r≠J∧r≠W:=fun r E=>by
  obtain⟨c5,bL⟩:=bw a7 E;have:=cY r E;exact⟨this,by omega,by omega⟩
 have ai:ck all s=match mX all.length a.natAbs ((aT (-ak) ak s).map (·.2)) with
   |none=>none
   |some (sc,Z)=>(gp (sc.map fun v=>all.getD v.toNat 0) ((aO 0 ak (some (aQ (decide (6<a.natAbs)||cE (sc.map fun v=>all.getD v.toNat 0)) Z))).map (·.2))).map fun q=>((⟨sc,sc.map fun v=>all.getD v.toNat 0,((aT 0 ak (aQ (decide (6<a.natAbs)||cE (sc.map fun v=>all.getD v.toNat 0)) Z)).map (·.1)).getD 0,q.1⟩:bH),if a<0 then o0 (sc.map fun v=>all.getD v.toNat 0) q.1 q.2 else q.2):=by
  unfold ck;cases X:aT (-ak) ak s with
  |none=>rfl
  |some q=>
   obtain⟨a',aG⟩:=q;have:=cb _ X;subst this;simp only;show _=match dJ all.length a.natAbs aG with
    |none=>none
    |some (sc,Z)=>_
   cases dJ all.length a.natAbs aG with
   |none=>rfl
   |some q=>
    obtain⟨sc,Z⟩:=q;simp only;show _=X1 _ (gp _ ((aT 0 ak _).map (·.2)));cases aT 0 ak (aQ (decide (6<a.natAbs)||cE (sc.map fun v=>all.getD v.toNat 0)) Z) with
    |none=>rfl
    |some q=>
     obtain⟨o,Y⟩:=q;simp only;show _=X1 _ (cW _ Y);cases cW (sc.map fun v=>all.getD v.toNat 0) Y with
     |none=>rfl
     |some q=>rfl
 rw[bJ,b3];cases aK:mX all.length a.natAbs ((aT (-ak) ak s).map (·.2)) with
 |none=>
  rw[aK] at aU ai;simp only at ai;refine⟨fun _=>?_,fun h=>by simp at h⟩;refine w4 rfl (by intro v ac;simp at ac;rcases ac with rfl|rfl|rfl|rfl <;> first|exact bR.2|rfl) bS rfl cg fun aL ax=>?_;have c6:=ax.size;refine⟨A,fun r=>(B r∨w.heap.size≤r)∧r<aL.heap.size,_,(scope,[],0,[]),rfl,rfl,fk (ce.trans (aJ.U _)) ax fun r E he=>by have he:r=W:=he;omega,fun r E=>.inl E,fun r E=>E,fun r E=>⟨.inl E,by have:=aF r E;omega⟩,?_,?_,fun q X=>by rw[ai] at X;cases X⟩
  ·rw[ai];have c7:fa aL g gs A B clean (X1 (fun x=>x.2) (none:Option (List Int×aw))):=aU.q.U ax (fun he=>by have:=gT g (.inl rfl);have he:g=W:=he;omega) (fun r E _ he=>by have he:r=W:=he;exact al (he▸E)) (fun r E he=>by have:=aF r E.2;have he:r=W:=he;omega);exact c7
  ·refine w2 (mY (aX bd ax fun r E he=>(aB r E).2.2 he) fun r E=>?_) im im;have az:=aB r E;have aV:=(bw bd E);exact⟨fun O=>by have:=gT _ O;omega,.inr (by omega),by omega⟩
 |some q=>
  obtain⟨sc,Z⟩:=q;have:=cZ _ aK;subst this;rw[aK] at aU ai;simp only at ai;refine⟨fun h=>by simp at h,fun _=>?_⟩;have aU:cq bl g gs A B Z clean:=aU;obtain⟨aG,c8,c9⟩:∃ aG,(aT (-ak) ak s).map (·.2)=some aG∧dJ all.length a.natAbs aG=some (scope,Z):=by
   cases X:(aT (-ak) ak s).map (·.2) with
   |none=>rw[X] at aK;cases aK
   |some aG=>rw[X] at aK;exact⟨aG,rfl,aK⟩
  obtain⟨ch,da,rfl⟩:=b8.1 c8;have ci:=cN (n:=ch.1) (s':=ch.2) da;obtain⟨cj,ef,eg,cl⟩:=q5 c9;have bT:=ci.eqs;have bU:=cj.eqs;have db:cX Z:=fun aD=>by rw[bU.1,bT.1];rw[bU.2.1,bT.2.1] at aD;exact hi aD
  have dc:Z.shared.length+1+Z.toks.length≤100000:=by rw[bU.2.2,bT.2.2];have:=ci.1;have:=cj.1;omega
  generalize bV:(scope.map fun v=>all.getD v.toNat 0)=sizes at ai;have cm:∀ z∈sizes,1≤z∧z≤ak:=fun z bm=>by
   rw[←bV] at bm;obtain⟨v,ac,rfl⟩:=o6.1 bm;have:=cl v ac;refine cO _ ?_;rw[u6,y0 (by omega)];exact List.getElem_mem _
  have eh:sizes.length=scope.length:=by rw[←bV,u7]
  have cn:af (ba g gs A) w bl:=ce.trans (aJ.U _);have de:aC .i64 bl a6 all:=hg b9 cn fun r E a n c ac bM=>(bE r ⟨a,n,c,ac,bM⟩).1 E;rw[ae bp.p rfl,V (by kernel_rfl) (bS.cell (o:=0+0) rfl),aI ap.u bd.ls];refine E7 bS bd.ls (fun r E=>(aB r E).2.1) de (fun r E=>by have:=(bE r E).2;omega) cl (by omega) fun aL au cp ax cr bn ei=>?_;rw[bV] at bn;have c6:=ax.size;have bW:∀ r,bQ g gs A B r→¬(fun r=>r=J) r:=fun r E he=>by have:=aF r E.2;have he:r=J:=he;omega
  have bX:∀ r,ba g gs A r→¬(fun r=>r=J) r:=fun r E he=>by have he:r=J:=he;exact aS (he▸E)
  have ct:=aU.U ax bX bW;have df:af (ba g gs A) w aL:=fk cn ax fun r E he=>by have he:r=J:=he;omega
  refine dd (fun bq=>af (ba g gs A) aL bq∧cq bq g gs A B (aQ (decide (6<a.natAbs)||cE sizes) Z) clean) ?_ ?_
  rotate_left
  ·intro dg be;rw[bA,aa];refine⟨fun ej=>?_,fun ek=>?_⟩
   ·refine (oN ct).mono ?_;rintro _ dh _ ⟨di,dj⟩;refine be _ ⟨di.mono fun r _ h=>.inl h,?_⟩;rw[decide_eq_true (by omega),Bool.true_or];exact dj
   ·rw[ae bp.p rfl,V (by kernel_rfl) (cr.cell (o:=0+1) rfl)];refine (wa bn.ls fun z bm=>(cm z bm).1).mono ?_;rintro _ dh _ ⟨rfl,cu⟩;refine (oN (ct.ext cu)).mono ?_;rintro _ em _ ⟨dk,dl⟩;refine be _ ⟨(cu.U _).trans (dk.mono fun r _ h=>.inl h),?_⟩;rw[decide_eq_false (by omega),Bool.false_or];exact dl
  rintro bq ⟨br,bt⟩;have en:=br.size;generalize bF:aQ (decide (6<a.natAbs)||cE sizes) Z=Y at ai bt;have dm:cX Y:=fun aD=>by
   subst bF;have aD:(Z.big||_)=false:=aD;exact db (V7.1 aD).1
  have eo:Y.shared.length+1+Y.toks.length≤100000:=by subst bF;exact dc
  have bt:cw bq g gs A B clean (some Y):=bt;refine (je (lo:=0) (hi:=ak) bt).mono ?_;rintro _ cz _ ⟨aH,o,dn,rfl,dp,ep⟩;obtain⟨bu,dq⟩:=aH.of;have er:=bu.size;rw[av (v:=.int .i64 o) rfl,av (v:=.int .i64 dn) rfl,ae bp.p rfl];have dr:=(cr.U br aS).U bu aS;refine aZ (g:=J) (o:=2) aj.i rfl rfl dr (by simp) fun bx aW es bz=>?_;have bz:ad bx J bp [aN,au,.int .i64 o,.slice none 0 0]:=bz;rw[ae bp.p rfl,V (by kernel_rfl) (bz.cell (o:=0+1) rfl)];have ds:=dq.U aW bX bW;have bY:af (ba g gs A) aL cz:=br.trans bu;have dt:af (ba g gs A) w cz:=df.trans bY;have cA:af (ba g gs A) w bx:=fk dt aW fun r E he=>by have he:r=J:=he;omega
  have aM:∀ r,leads au r→bl.heap.size≤r∧r<aL.heap.size:=fun r E=>by have:=bw bn E;omega
  have cB:am .i64 aj bx cp au sizes:=aX (aX bn bY fun r E O=>by have:=gT _ O;have:=aM r E;omega) aW fun r E he=>by have he:r=J:=he;have:=aM r E;omega
  have du:am .i64 aj bx bN aN scope:=aX (aX (aX bd ax fun r E he=>(aB r E).2.1 he) bY fun r E O=>by have:=gT _ O;have:=aB r E;omega) aW fun r E he=>(aB r E).2.1 he;have et:=aW.size;refine (E4 ds (fun t bZ=>?_) cB.ls (fun r E=>⟨fun O=>by have:=gT _ O;have:=aM r E;omega,by have:=aM r E;omega⟩) cm (by omega) (cP.U cA h1.1) h1).mono ?_
  ·obtain⟨q,X,rfl⟩:=b8.1 bZ;have cC:=(cN (n:=q.1) (s':=q.2) X).eqs;intro aD;rw[cC.1];rw[cC.2.1] at aD;exact dm aD
  rintro bo dv _ ⟨aH,l,b1,cD⟩;obtain⟨aY,dw⟩:=aH.of;have eu:=aY.size;have b2:bo.cells= #[bo]∧bo.oneCell'=true:=⟨oi b1,qG b1⟩;rw[ae bp.p rfl];have dx:=bz.U aY aS;refine aZ (g:=J) (o:=3) gh.i b2.1 b2.2 dx (by simp) fun ag aP ev bB=>?_;have bB:ad ag J bp [aN,au,.int .i64 o,bo]:=bB;have ew:=aP.size;have cF:=dw.U aP bX bW;have dy:af (ba g gs A) w dv:=cA.trans aY;have dz:af (ba g gs A) w ag:=fk dy aP fun r E he=>by have he:r=J:=he;omega
  have cG:am .i64 aj ag bN aN scope:=aX (aX du aY fun r E O=>by have:=gT _ O;have:=aB r E;omega) aP fun r E he=>(aB r E).2.1 he;have bC:am .i64 aj ag cp au sizes:=aX (aX cB aY fun r E O=>by have:=gT _ O;have:=aM r E;omega) aP fun r E he=>by have he:r=J:=he;have:=aM r E;omega
  have dA:ad ag W bp [.slice none 0 0,.slice none 0 0,.int .i64 0,.slice none 0 0]:=((((((cg.U ax (fun he=>by have he:W=J:=he;omega)).U br al).U bu al).U aW (fun he=>by have he:W=J:=he;omega)).U aY al).U aP (fun he=>by have he:W=J:=he;omega));let aA:an:=fun r=>(B r∨w.heap.size≤r)∧r<ag.heap.size;have cH:ay.rep (α:=List (List Int×Int)) false a8 (fun r=>bQ g gs A aA r∧r≠J∧r≠W) ag [bo] l:=by
   refine w3 (ay.U b1 aP fun r E h he=>?_) fun r E h=>?_
   ·have he:r=J:=he;rcases h with h|h
    ·exact h
    ·rcases h with h|h
     ·have:=aF r h.2;omega
     ·omega
   ·rcases h with h|h
    ·have:=aF r h.2;exact⟨⟨h.1,.inl h.2,E⟩,by omega,by omega⟩
    ·exact⟨⟨fun O=>by have:=gT _ O;omega,.inr (by omega),E⟩,by omega,by omega⟩
  have dC:∀ r,leads aN r→bQ g gs A aA r∧r≠J∧r≠W:=fun r E=>by
   have az:=aB r E;have aV:=(bw cG E);exact⟨⟨fun O=>by have:=gT _ O;omega,.inr (by omega),by omega⟩,az.2⟩
  have cJ:∀ r,leads au r→bQ g gs A aA r∧r≠J∧r≠W:=fun r E=>by
   have az:=aM r E;have aV:=(bw bC E);exact⟨⟨fun O=>by have:=gT _ O;omega,.inr (by omega),by omega⟩,by omega,by omega⟩
  have dD:Seen (fun r=>bQ g gs A aA r∧r≠J∧r≠W) ag [aN,au,.int .i64 o,bo] ((scope,sizes,o,l):fp):=w2 (mY cG dC) (mY bC cJ) cH;have dE:∀ q,ck all s=some q→((scope,sizes,o,l):fp)=fb q.1:=fun q X=>by
   rw[ai] at X;obtain⟨ey,b4,rfl⟩:=b8.1 X;have az:=cD _ b4;cases a1:aT 0 ak Y with
   |none=>have e:aO 0 ak (some Y)=none:=a1;rw[e] at b4;cases b4
   |some aR=>
    have aV:=dp aR a1;rw[az,aV];rfl
  have dF:∀ v∈[aN,au,Y5 .i64 o,bo],v.oneCell'=true:=by
   intro v ac;simp at ac;rcases ac with rfl|rfl|rfl|rfl
   ·exact bR.2
   ·exact bC.ls.cells.2
   ·rfl
   ·exact b2.2
  have cK:∀ r,bQ g gs A B r→bQ g gs A aA r∧r≠J∧r≠W:=fun r E=>by
   have:=aF r E.2;exact⟨⟨E.1,.inl E.2,by omega⟩,by omega,by omega⟩
  refine dd (fun b5=>∃ ab,af (ba g gs A) ag b5∧(∀ r,ab r→A r∨ag.heap.size≤r)∧ ∃ aE,iz b5 g gs ab aE (fun r=>bQ g gs A aA r∧r≠J∧r≠W) clean ((ck all s).map (·.2))) ?_ ?_
  ·rintro b5 ⟨ab,bf,bg,aE,dG⟩;have ez:=bf.size;refine w4 rfl dF (bB.U bf aS) rfl (dA.U bf al) fun b6 bD=>?_;have eA:=bD.size;have cL:∀ r,ba g gs ab r→¬(fun r=>r=W) r:=fun r E he=>by
    have he:r=W:=he;subst he;rcases E with E|E|E
    ·exact al (.inl E)
    ·exact al (.inr (.inl E))
    ·rcases bg _ E with E|E
     ·exact al (.inr (.inr E))
     ·omega
   have cM:∀ r,(bQ g gs A aA r∧r≠J∧r≠W)→bQ g gs ab (fun r=>(B r∨w.heap.size≤r)∧r<b6.heap.size∧(r<ag.heap.size∨B r)) r:=fun r h=>⟨fun O=>h.1.1 (O.imp id (Or.imp id fun O=>(bg r O).elim id fun h'=>by have:=h.1.2.2;omega)),h.1.2.1,by have:=h.1.2.2;omega,.inl h.1.2.2⟩;have dH:iz b6 g gs ab aE (fun r=>bQ g gs A aA r∧r≠J∧r≠W) clean ((ck all s).map (·.2)):=dG.U bD (cL g (.inl rfl)) (fun r E _=>cL r E) (fun r E=>E.2.2);refine⟨ab,fun r=>(B r∨w.heap.size≤r)∧r<b6.heap.size∧(r<ag.heap.size∨B r),_,(scope,sizes,o,l),rfl,rfl,fk (dz.trans bf) bD fun r E he=>by have he:r=W:=he;omega,fun r E=>(bg r E).imp id fun h=>by omega,fun r E=>⟨E.1,E.2.1⟩,fun r E=>⟨.inl E,by have:=aF r E;omega,.inr E⟩,dH.out cM fun r E=>E.2.1,?_,dE⟩;refine w3 (ay.U (ay.U dD bf fun r _ h O=>?_) bD fun r _ h he=>?_) fun r _ h=>cM r h
   ·rcases h with h|h
    ·exact h
    ·exact h.1.1 O
   ·rcases h with h|h
    ·exact h
    ·exact h.2.2 he
  ·intro dg be;rw[aa];refine⟨fun dI=>?_,fun dK=>?_⟩
   ·intro b7 a2 _ _;have eB:=a2.size;have dL:∀ r,(bQ g gs A aA r∧r≠J∧r≠W)→bQ g gs A (lL b7.heap.size) r:=fun r h=>⟨h.1.1,by have:=h.1.2.2;show r<b7.heap.size;omega⟩;refine E6 (R:=fun r=>bQ g gs A aA r∧r≠J∧r≠W) (z:=sizes) (l:=l) (cF.ext a2) cK dL (fun t bZ=>?_) (bB.ext a2) (mY (bC.ext a2) cJ) (cT cH a2) fun eC ab dM bg dN=>?_
    ·obtain⟨q,X,rfl⟩:=b8.1 bZ;cases a1:aT 0 ak Y with
     |none=>have e:aO 0 ak (some Y)=none:=a1;rw[e] at X;cases X
     |some aR=>
      have e:aO 0 ak (some Y)=some aR:=a1;rw[e] at X;have h1:q.2.shared=aR.2.shared∧q.2.toks.length≤aR.2.toks.length:=w5 (l:=q.1) (s':=q.2) X;have az:=cN (n:=aR.1) (s':=aR.2) a1;have aV:=az.eqs.2.2;have eD:=az.1;rw[h1.1,aV];have:=h1.2;omega
    ·refine be _ ⟨ab,(a2.U _).trans dM,fun r E=>(bg r E).imp id fun h=>by omega,lL b7.heap.size,?_⟩;have e:(ck all s).map (·.2)=((gp sizes ((aO 0 ak (some Y)).map (·.2))).map (·.2)).map (o0 sizes l):=by
      rw[ai];cases X:gp sizes ((aO 0 ak (some Y)).map (·.2)) with
      |none=>rfl
      |some q=>
       have az:=cD _ X;simp only[j6,if_pos dI,az]
     rw[e];exact dN
   ·refine be _ ⟨A,af.refl _ _,fun r E=>.inl E,B,?_⟩;have e:(ck all s).map (·.2)=(gp sizes ((aO 0 ak (some Y)).map (·.2))).map (·.2):=by
     rw[ai];cases X:gp sizes ((aO 0 ak (some Y)).map (·.2)) with
     |none=>rfl
     |some q=>simp only[j6,if_neg dK]
    rw[e];exact cF.qr cK
def hY (l:List Int):Prop:=∀ v∈l,0≤v∧v<64
theorem mZ {l:List Int} (h:hY l) {v:Int}:v∈aV l↔v∈l:=by
 unfold aV;rw[List.mem_filter,decide_eq_true_eq];refine⟨fun h=>h.2,fun ac=>⟨?_,ac⟩⟩;obtain⟨h1,E⟩:=h v ac;exact o6.2 ⟨v.toNat,List.mem_range.2 (by omega),by omega⟩
theorem E9 (l:List Int):hY (aV l):=fun v ac=>by
 obtain⟨n,E,rfl⟩:=o6.1 (List.mem_filter.1 ac).1;have:=List.mem_range.1 E;omega
theorem rq (l:List Int):(aV l).Pairwise (·< ·):=by
 unfold aV;refine List.Pairwise.filter _ ?_;rw[List.pairwise_map];exact List.pairwise_lt_range.imp fun h=>by omega
theorem w6 (l:List Int):(aV l).Nodup:=(rq l).imp fun h=>by omega
where
 nodup_le' {a b:List Int} (h:a.Nodup) (hs:∀ x∈a,x∈b):a.length≤b.length:=by
  induction a generalizing b with
  |nil=>exact Z1 _
  |cons x a ih=>
   have h':=List.nodup_cons.1 h;have J:=hs x (.head _);have:=ih (b:=b.erase x) h'.2 fun y hy=>(List.mem_erase_of_ne (fun(he:y=x)=>h'.1 (by rw[←he];exact hy))).2 (hs y (.tail _ hy));rw[List.length_erase_of_mem J] at this;have:=List.length_pos_of_mem J;rw[l6];omega
theorem w7 (n:Nat):(0:Int)<64 ^ n:=Int.pow_pos (by omega)
theorem o1:∀ (l:List Int),hY l→0≤gQ l∧gQ l<64 ^ l.length
 |[],_=>by simp[gQ]
 |x::l,h=>by
  have O:=o1 l fun y E=>h y (.tail _ E);have J:=h x (.head _);have U:=w7 l.length;simp only[gQ,l6];have e:(64:Int) ^ (l.length+1)=64*64 ^ l.length:=by rw[Int.pow_succ,Int.mul_comm]
  have h1:x*64 ^ l.length≤63*64 ^ l.length:=Int.mul_le_mul_of_nonneg_right (by omega) (by omega);have V:0≤x*64 ^ l.length:=Int.mul_nonneg J.1 (by omega);rw[e];omega
def et:List Int→List Int→Int
 |x::a,y::b=>if x<y then-1 else if y<x then 1 else et a b
 |[],[]=>0
 |[],_::_=>-1
 |_::_,[]=>1
theorem w8:∀ (a b:List Int),a.length=b.length→hY a→hY b→(et a b<0↔gQ a<gQ b)∧(et a b=0↔a=b)∧(gQ a=gQ b→a=b)
 |[],[],_,_,_=>by simp[et]
 |[],_::_,h,_,_=>by simp at h
 |_::_,[],h,_,_=>by simp at h
 |x::a,y::b,h,X,Y=>by
  have U:a.length=b.length:=by simpa using h
  have V:hY a:=fun z E=>X z (.tail _ E);have W:hY b:=fun z E=>Y z (.tail _ E);have J:=w8 a b U V W;have Z:=o1 a V;have ab:=o1 b W;have ac:=w7 b.length;simp only[et,gQ];rw[U] at Z ⊢;have step:∀ u v:Int,u<v→u*64 ^ b.length+64 ^ b.length≤v*64 ^ b.length:=fun u v ad=>by
   have:=Int.mul_le_mul_of_nonneg_right (show u+1≤v by omega) (show (0:Int)≤64 ^ b.length by omega);rw[Int.add_mul,Int.one_mul] at this;exact this
  by_cases h1:x<y
  ·rw[if_pos h1];have:=step x y h1;exact⟨⟨fun _=>by omega,fun _=>by omega⟩,⟨fun h=>by omega,fun h=>by have:=(List.cons.inj h).1;omega⟩,fun h=>by omega⟩
  ·rw[if_neg h1];by_cases O:y<x
   ·rw[if_pos O];have:=step y x O;exact⟨⟨fun h=>by omega,fun h=>by omega⟩,⟨fun h=>by omega,fun h=>by have:=(List.cons.inj h).1;omega⟩,fun h=>by omega⟩
   ·rw[if_neg O];have aa:x=y:=by omega
    subst aa;exact⟨J.1.trans ⟨fun h=>by omega,fun h=>by omega⟩,J.2.1.trans ⟨fun h=>by rw[h],fun h=>(List.cons.inj h).2⟩,fun h=>by rw[J.2.2 (by omega)]⟩
def hr (l:List Int):Prop:=hY l∧l.length≤6
theorem w9 {l:List Int} (h:hr l):0≤gQ l∧gQ l<64 ^ 6:=by
 have:=o1 l h.1;have J:(64:Int) ^ l.length≤64 ^ 6:=by
  have E:=h.2
  match l.length,E with
  |0,_=>decide
  |1,_=>decide
  |2,_=>decide
  |3,_=>decide
  |4,_=>decide
  |5,_=>decide
  |6,_=>decide
  |n+7,h=>omega
 omega
theorem rr {a b:List Int} (J:hr a) (O:hr b):(cm a<cm b↔a.length<b.length∨(a.length=b.length∧et a b<0))∧(cm a=cm b→a=b):=by
 have h1:=w9 J;have U:=w9 O;have e:(64:Int) ^ 6=68719476736:=by decide
 rw[e] at h1 U;unfold cm;rw[e];by_cases E:a.length=b.length
 ·have:=w8 a b E J.1 O.1;rw[E];exact⟨⟨fun h=>.inr ⟨rfl,this.1.2 (by omega)⟩,fun h=>by
   rcases h with h|⟨_,h⟩
   ·omega
   ·have:=this.1.1 h;omega⟩,fun h=>this.2.2 (by omega)⟩
 ·exact⟨⟨fun h=>.inl (by omega),fun h=>by
   rcases h with h|⟨h,_⟩
   ·omega
   ·exact absurd h E⟩,fun h=>by omega⟩
theorem o2 (g:bU):∀ l:List bU,(fm g l).Perm (g::l)
 |[]=>List.Perm.refl _
 |h::l=>by
  unfold fm;split
  ·exact ((o2 g l).cons h).trans (List.Perm.swap g h l)
  ·exact List.Perm.refl _
theorem xa {g:bU}:∀ {l:List bU},l.Pairwise (fun a b=>cm a.1<cm b.1)→(∀ h∈l,cm h.1≠cm g.1)→(fm g l).Pairwise (fun a b=>cm a.1<cm b.1)
 |[],_,_=>by simp[fm]
 |h::l,O,U=>by
  have E:=List.pairwise_cons.1 O;unfold fm;split
  ·rename_i V;refine List.pairwise_cons.2 ⟨fun x J=>?_,xa E.2 fun x J=>U x (.tail _ J)⟩;rcases V8.1 ((o2 g l).mem_iff.1 J) with rfl|J
   ·exact V
   ·exact E.1 x J
  ·rename_i W;have:=U h (.head _);refine List.pairwise_cons.2 ⟨fun x J=>?_,O⟩;rcases V8.1 J with rfl|J
   ·omega
   ·have:=E.1 x J;omega
theorem xb:∀ (l acc:List bU),acc.Pairwise (fun a b=>cm a.1<cm b.1)→l.Pairwise (fun a b=>cm a.1≠cm b.1)→(∀ a∈acc,∀ b∈l,cm a.1≠cm b.1)→
  (l.foldl (fun l g=>fm g l) acc).Pairwise (fun a b=>cm a.1<cm b.1)∧(l.foldl (fun l g=>fm g l) acc).Perm (acc++l)
 |[],acc,h,_,_=>⟨h,by simp⟩
 |g::l,acc,h,V,J=>by
  have O:=List.pairwise_cons.1 V;have:=xb l (fm g acc) (xa h fun a E=>J a E g (.head _)) O.2 fun a E b U=>by
   rcases V8.1 ((o2 g acc).mem_iff.1 E) with rfl|E
   ·exact O.1 b U
   ·exact J a E b (.tail _ U)
  refine⟨this.1,this.2.trans ?_⟩;exact ((o2 g acc).append_right l).trans (List.perm_middle (a:=g) (l₁:=acc) (l₂:=l)).symm
theorem rt {α:Type} {f:α→Int}:∀ {L M:List α},L.Pairwise (fun a b=>f a<f b)→M.Pairwise (fun a b=>f a<f b)→(∀ x,x∈L↔x∈M)→L=M
 |[],M,_,_,h=>by
  cases M with
  |nil=>rfl
  |cons y M=>exact absurd ((h y).2 (.head _)) (by simp)
 |x::L,[],_,_,h=>absurd ((h x).1 (.head _)) (by simp)
 |x::L,y::M,h1,U,h=>by
  have J:=List.pairwise_cons.1 h1;have O:=List.pairwise_cons.1 U;have V:x=y:=by
   rcases V8.1 ((h x).1 (.head _)) with he|hm
   ·exact he
   ·rcases V8.1 ((h y).2 (.head _)) with he|W
    ·exact he.symm
    ·have a:=O.1 x hm;have b:=J.1 y W;omega
  subst V;rw[rt J.2 O.2 fun z=>⟨fun E=>?_,fun E=>?_⟩]
  ·rcases V8.1 ((h z).1 (.tail _ E)) with he|hm
   ·subst he;have:=J.1 z E;omega
   ·exact hm
  ·rcases V8.1 ((h z).2 (.tail _ E)) with he|hm
   ·subst he;have:=O.1 z E;omega
   ·exact hm
structure ef (sizes:List Int) (k:Int) (g:bU):Prop where
 scope:hr g.1
 up:g.1.Pairwise (·< ·)
 vars:∀ v∈g.1,v<sizes.length
 len:g.2.length=(aD (bI sizes g.1)).toNat
 small:aD (bI sizes g.1)≤4096
 hZ:∀ c∈g.2,0≤c∧c≤k
theorem m3 {sizes:List Int} {sc:List Int} (J:∀ z∈sizes,1≤z∧z≤32) (ac:∀ v∈sc,0≤v∧v<sizes.length):∀ z∈bI sizes sc,1≤z∧z≤32:=fun z h=>by
 obtain⟨v,O,rfl⟩:=o6.1 h;obtain⟨h1,U⟩:=ac v O;have E:v.toNat<sizes.length:=by omega
 rw[u6,y0 E];exact J _ (List.getElem_mem E)
theorem Fa {a b:List Int} (h:a.Perm b):aD a=aD b:=by
 induction h with
 |nil=>rfl
 |cons x _ E=>simp only[aD,E]
 |swap x y l=>simp only[aD];rw[←Int.mul_assoc,←Int.mul_assoc,Int.mul_comm y x]
 |trans _ _ h1 J=>exact h1.trans J
theorem Fb {k:Int} {a b:List Int} (h:a.length=b.length):(cZ k a b).length=b.length:=by simp[cZ,h]
theorem Fc {k:Int} {a b:List Int} (W:0≤k) (O:∀ c∈a,0≤c∧c≤k) (U:∀ c∈b,0≤c∧c≤k):∀ c∈cZ k a b,0≤c∧c≤k:=by
 induction a generalizing b with
 |nil=>intro c E;simp[cZ] at E
 |cons x a V=>
  cases b with
  |nil=>intro c E;simp[cZ] at E
  |cons y b=>
   intro c E;have J:=O x (.head _);have X:=U y (.head _);rcases V8.1 (show c∈min (x+y) k::cZ k a b from E) with rfl|E
   ·omega
   ·exact V (fun c h=>O c (.tail _ h)) (fun c h=>U c (.tail _ h)) c E
def gq (l:List bU):Prop:=(l.map (·.1)).Nodup
theorem Fe {sizes:List Int} {k:Int} {acc:List bU} {g:bU} (Y:0≤k) (V:∀ h∈acc,ef sizes k h) (W:gq acc) (O:ef sizes k g):(∀ h∈fV k acc g,ef sizes k h)∧gq (fV k acc g)∧(fV k acc g).length≤acc.length+1:=by
 unfold fV;split
 ·refine⟨fun h E=>?_,?_,by simp⟩
  ·obtain⟨U,hm,rfl⟩:=o6.1 E;have h1:=V U hm;split
   ·rename_i he;have Z:U.2.length=g.2.length:=by rw[h1.len,O.len,he]
    exact⟨h1.scope,h1.up,h1.vars,by show (cZ k U.2 g.2).length=_;rw[Fb Z,O.len,he],h1.small,Fc Y h1.hZ O.hZ⟩
   ·exact h1
  ·unfold gq;rw[List.map_map];have e:((fun x:bU=>x.1)∘fun h:bU=>if h.1=g.1 then (h.1,cZ k h.2 g.2) else h)=fun x:bU=>x.1:=by
    funext h;simp only[Function.comp];split <;> rfl
   rw[e];exact W
 ·rename_i aa;refine⟨fun h E=>?_,?_,by simp⟩
  ·rcases p9.1 E with E|E
   ·exact V h E
   ·rw[p8.1 E];exact O
  ·unfold gq;rw[o9];exact List.nodup_append.2 ⟨W,by simp,fun x J y X he=>by
    simp only[List.map_cons,List.map_nil,p8] at X;subst X;subst he;exact aa J⟩
theorem ru {sizes:List Int} {k:Int} (U:0≤k):∀ {l acc:List bU},(∀ h∈acc,ef sizes k h)→gq acc→(∀ g∈l,ef sizes k g)→(∀ h∈l.foldl (fV k) acc,ef sizes k h)∧gq (l.foldl (fV k) acc)∧(l.foldl (fV k) acc).length≤acc.length+l.length
 |[],acc,E,O,_=>⟨E,O,by simp⟩
 |g::l,acc,E,O,V=>by
  obtain⟨h1,W,Z⟩:=Fe U E O (V g (.head _));obtain⟨X,Y,aa⟩:=ru U h1 W fun x J=>V x (.tail _ J);exact⟨X,Y,by simp only[List.foldl_cons,l6];omega⟩
theorem xc {α:Type} [DecidableEq α]:∀ {a b:List α},a.Nodup→b.Nodup→(∀ x,x∈a↔x∈b)→a.Perm b
 |[],b,_,_,h=>by
  cases b with
  |nil=>exact .refl _
  |cons y b=>exact absurd ((h y).2 (.head _)) (by simp)
 |x::a,b,V,O,h=>by
  have J:=(h x).1 (.head _);have U:=List.nodup_cons.1 V;refine .trans ?_ (List.perm_cons_erase J).symm;refine .cons x (xc U.2 (O.erase x) fun y=>?_);rw[O.mem_erase_iff];refine⟨fun E=>⟨fun he=>U.1 (he▸E),(h y).1 (.tail _ E)⟩,fun⟨W,E⟩=>?_⟩;rcases V8.1 ((h y).2 E) with he|hm
  ·exact absurd he W
  ·exact hm
theorem pa {l:List Int} (h:hY l) (E:l.Nodup):(aV l).Perm l:=xc (w6 l) E fun _=>mZ h
theorem rv:∀ {l:List Int},(∀ z∈l,1≤z∧z≤32)→l.map (fun z=>min z 4097)=l
 |[],_=>rfl
 |z::l,h=>by
  have E:=h z (.head _);rw[List.map_cons,rv fun x J=>h x (.tail _ J)];congr 1;omega
theorem Ff {x:bH} {k:Int} {t:List Int} (J:0≤k) (O:0≤x.other) (E:∀ p∈x.lines,0≤p.2):0≤hl x k t∧hl x k t≤k:=by
 unfold hl;cases ag:x.lines.find? (fun p=>decide (p.1=t)) with
 |none=>simp only;omega
 |some p=>have:=E p (List.mem_of_find?_eq_some ag);simp only;omega
theorem pb {all:List Int} {N:Nat} {x:bH} (h:oJ all N x) (E:all.length≤64):hY x.scope:=fun v ac=>by
 have:=h.scope.2 v ac;omega
theorem lM {N:Nat} {f:bx} {x:bH} (ag:dP N f) (J:x∈f.funs):ef f.sizes f.k (fC f.sizes f.k x):=by
 obtain⟨h1,W,O⟩:=ag.funs x J;have X:=ag.sizes.2.1;have ac:=pb h1 X;have E:=pa ac h1.scope.1;have U:∀ v∈aV x.scope,0≤v∧v<f.sizes.length:=fun v hm=>h1.scope.2 v ((mZ ac).1 hm);have Y:=m3 ag.sizes.2.2 U;have Z:aD (bI f.sizes (aV x.scope))=aD x.sizes:=by rw[h1.sizes];exact Fa (E.map _)
 refine⟨⟨E9 _,?_⟩,rq _,fun v hm=>(U v hm).2,?_,?_,fun c aa=>?_⟩
 ·show (aV x.scope).length≤6;rw[E.length_eq];exact W
 ·show ((bm _).map _).length=_;rw[u7,ip Y];rfl
 ·show aD (bI f.sizes (aV x.scope))≤4096;have ab:∀ z∈x.sizes,1≤z∧z≤32:=fun z V=>by
   rw[h1.sizes] at V;exact m3 ag.sizes.2.2 (fun v hm=>h1.scope.2 v hm) z V
  unfold cE at O;rw[rv ab,decide_eq_false_iff_not] at O;rw[Z];omega
 ·obtain⟨t,_,rfl⟩:=o6.1 aa;exact Ff (by have:=ag.k.1;omega) h1.other fun p E=>(h1.lines.2 p E).2
theorem iA {N:Nat} {f:bx} (ag:dP N f):(∀ g∈dV f,ef f.sizes f.k g)∧gq (dV f)∧(dV f).length≤f.funs.length:=by
 have:=ru (sizes:=f.sizes) (k:=f.k) (by have:=ag.k.1;omega) (l:=f.funs.map (fC f.sizes f.k)) (acc:=[]) (fun h O=>by cases O) List.nodup_nil fun g U=>by
  obtain⟨x,J,rfl⟩:=o6.1 U;exact lM ag J
 refine⟨this.1,this.2.1,?_⟩;have E:=this.2.2;rw[List.length_nil,u7,V3] at E;exact E
theorem xd {sizes:List Int} {k:Int} {l:List bU} (E:∀ g∈l,ef sizes k g) (J:gq l):l.Pairwise fun a b=>cm a.1≠cm b.1:=by
 have h1:l.Pairwise fun a b=>a.1≠b.1:=by
  unfold gq List.Nodup at J;rwa [List.pairwise_map] at J
 exact h1.imp_of_mem fun {a b} O U V he=>V ((rr (E a O).scope (E b U).scope).2 he)
theorem m4 {N:Nat} {f:bx} (ag:dP N f):(ed f).Pairwise (fun a b=>cm a.1<cm b.1)∧(ed f).Perm ((dV f).filter ec):=by
 obtain⟨h1,J,_⟩:=iA ag;have O:∀ g∈(dV f).filter ec,ef f.sizes f.k g:=fun g U=>h1 g (List.mem_filter.1 U).1;have V:gq ((dV f).filter ec):=(List.Sublist.map _ List.filter_sublist).nodup J;have:=xb ((dV f).filter ec) [] List.Pairwise.nil (xd O V) fun a W=>by cases W
 refine⟨this.1,?_⟩;have E:=this.2;rw[List.nil_append] at E;exact E
theorem pc {N:Nat} {f:bx} (ag:dP N f):∀ g∈ed f,ef f.sizes f.k g:=fun g E=>(iA ag).1 g (List.mem_filter.1 ((m4 ag).2.mem_iff.1 E)).1
theorem Fg {N:Nat} {f:bx} (ag:dP N f) {M:List bU} (E:M.Perm ((dV f).filter ec)) (O:M.Pairwise fun a b=>cm a.1≤cm b.1):M=ed f:=by
 obtain⟨h1,J⟩:=m4 ag;have U:gq ((dV f).filter ec):=(List.Sublist.map _ List.filter_sublist).nodup (iA ag).2.1;have V:gq M:=(E.map (fun g:bU=>g.1)).nodup_iff.2 U;have W:∀ g∈M,ef f.sizes f.k g:=fun g X=>(iA ag).1 g (List.mem_filter.1 (E.mem_iff.1 X)).1;have Y:=xd W V;refine rt (f:=fun g:bU=>cm g.1) ?_ h1 fun x=>by rw[E.mem_iff,J.mem_iff]
 exact O.imp₂ (fun a b h1 J=>Int.lt_iff_le_and_ne.2 ⟨h1,J⟩) Y
structure gR (n:bd):Prop where
 k:1≤n.k∧n.k≤2147483648
 sizes:1≤n.sizes.length∧n.sizes.length≤64∧ ∀ z∈n.sizes,1≤z∧z≤32
 zero:0≤n.zero∧n.zero≤n.k
 hs:n.unary.length=n.sizes.length
 unary:∀ (i:Nat) (z:Int) (u:List Int),n.sizes[i]? =some z→n.unary[i]? =some u→u.length=z.toNat∧ ∀ c∈u,0≤c∧c≤n.k
 funs:∀ g∈n.funs,ef n.sizes n.k g∧2≤g.1.length
theorem Fh (z:Int):aD [z]=z:=by simp[aD]
theorem pd:∀ {l:List bU} {n:bd},gR n→(∀ g∈l,ef n.sizes n.k g)→gR (l.foldl (fun n g=>match g.1 with
 |[]=>{n with zero:=g.2.getD 0 0}
 |[v]=>{n with unary:=n.unary.set v.toNat g.2}
 |_=>{n with funs:=n.funs++[g]}) n)∧(l.foldl (fun n g=>match g.1 with
 |[]=>{n with zero:=g.2.getD 0 0}
 |[v]=>{n with unary:=n.unary.set v.toNat g.2}
 |_=>{n with funs:=n.funs++[g]}) n).sizes=n.sizes
 |[],n,h,_=>⟨h,rfl⟩
 |g::l,n,h,U=>by
  have E:=U g (.head _);have O:∀ x∈l,ef n.sizes n.k x:=fun x J=>U x (.tail _ J);rw[List.foldl_cons];obtain⟨sc,cs⟩:=g
  match sc,E with
  |[],E=>
   have W:=E.len;refine pd (n:={n with zero:=cs.getD 0 0}) ⟨h.k,h.sizes,?_,h.hs,h.unary,h.funs⟩ O;have h1:cs.length=1:=by simpa[bI,aD] using W
   have X:cs[0]? =some (cs.getD 0 0):=by rw[u6,y0 (by omega)];rfl
   exact E.hZ _ (x4 X)
  |[v],E=>
   have ac:=E.scope.1 v (.head _);have Z:=E.vars v (.head _);refine pd (n:={n with unary:=n.unary.set v.toNat cs}) ⟨h.k,h.sizes,h.zero,by show (n.unary.set _ _).length=_;rw[X4];exact h.hs,fun i z u V hu=>?_,h.funs⟩ O;by_cases hi:v.toNat=i
   ·subst hi;have aa:=h.hs;rw[U1 (by omega)] at hu;cases hu;have Y:bI n.sizes [v]=[z]:=by
     simp only[bI,List.map_cons,List.map_nil];rw[u6,V];rfl
    refine⟨?_,E.hZ⟩;have:=E.len;rw[Y,Fh] at this;exact this
   ·rw[List.getElem?_set_ne hi] at hu;exact h.unary i z u V hu
  |a::b::r,E=>
   refine pd (n:={n with funs:=n.funs++[(a::b::r,cs)]}) ⟨h.k,h.sizes,h.zero,h.hs,h.unary,fun x J=>?_⟩ O;rcases p9.1 J with J|J
   ·exact h.funs x J
   ·rw[p8.1 J];exact⟨E,by simp⟩
theorem xe {N:Nat} {f:bx} (ag:dP N f):gR (cJ f)∧(cJ f).sizes=f.sizes:=by
 unfold cJ;have J:=ag.sizes;refine pd (n:=⟨f.k,f.sizes,0,f.sizes.map fun z=>v8 z.toNat 0,[]⟩) ⟨ag.k,J,⟨by show (0:Int)≤0;omega,by show (0:Int)≤f.k;have:=ag.k.1;omega⟩,by simp,fun i z u h1 E=>?_,fun g O=>by cases O⟩ (pc ag);have E:(f.sizes.map fun z=>v8 z.toNat (0:Int))[i]? =some u:=E;have h1:f.sizes[i]? =some z:=h1;rw[x6,h1] at E;cases E;refine⟨by simp,fun c U=>?_⟩;rw[(List.mem_replicate.1 U).2];have:=ag.k.1;exact⟨Int.le_refl _,by show (0:Int)≤f.k;omega⟩
def iB (x:bH) (k:Int) (i:Nat) (t:List Int):Int:=match (x.lines.take i).find? (fun p=>decide (p.1=t)) with
 |some p=>min p.2 k
 |none=>min x.other k
theorem xf (x:bH) (k:Int) (t:List Int):iB x k 0 t=min x.other k:=by simp[iB]
theorem xg (x:bH) (k:Int) (t:List Int):iB x k x.lines.length t=hl x k t:=by
 unfold iB hl;rw[o3];cases x.lines.find? (fun p=>decide (p.1=t)) <;> rfl
theorem xh {x:bH} {k:Int} {i:Nat} {p:List Int×Int} (Y:(x.lines.map (·.1)).Nodup) (hi:x.lines[i]? =some p) (t:List Int):iB x k (i+1) t=if t=p.1 then min p.2 k else iB x k i t:=by
 unfold iB;rw[u4,hi,l9,List.find?_append];by_cases E:t=p.1
 ·subst E;have Z:(x.lines.take i).find? (fun q=>decide (q.1=p.1))=none:=by
   rw[List.find?_eq_none];intro q J he;have he:q.1=p.1:=by simpa using he
   obtain⟨j,O⟩:=Y6.1 J;have U:j<i:=by have:=(x3.1 O).1;rw[o5] at this;omega
   rw[c7 U] at O;have V:=x3.1 O;have W:=x3.1 hi;have X:=X3.1 Y j i (by rw[u7];exact V.1) (by rw[u7];exact W.1) U;rw[List.getElem_map,List.getElem_map,V.2,W.2] at X;exact X he
  rw[Z,if_pos rfl];simp
 ·rw[if_neg E];have:[p].find? (fun q=>decide (q.1=t))=none:=by
   rw[List.find?_eq_none];intro q J he;rw[p8.1 J] at he;exact E (of_decide_eq_true he).symm
  rw[this,Option.or_none]
theorem lN {l:List Int} {v:Int} (h:v∈l):l[l.idxOf v]? =some v:=by
 have:=List.idxOf_lt_length_iff.2 h;rw[y0 this,List.getElem_idxOf this]
theorem m7 {l:List Int} {i:Nat} {v:Int} (U:l.Nodup) (h:l[i]? =some v):l.idxOf v=i:=by
 have hm:=x4 h;have h1:=lN hm;have E:=x3.1 h1;have J:=x3.1 h;rcases Nat.lt_trichotomy (l.idxOf v) i with O|he|O
 ·exact absurd (E.2.trans J.2.symm) (X3.1 U _ _ E.1 J.1 O)
 ·exact he
 ·exact absurd (J.2.trans E.2.symm) (X3.1 U _ _ J.1 E.1 O)
def eu (scope E:List Int):List Int:=E.map fun v=>((scope.idxOf v:Nat):Int)
theorem pe {scope J:List Int} (W:scope.Nodup) (E:J.Perm scope):Good (eu scope J) scope.length:=by
 have V:J.Nodup:=E.nodup_iff.2 W;refine⟨by simp[eu,E.length_eq],fun i p O=>?_⟩;unfold eu at O;rw[x6] at O;obtain⟨v,ac,rfl⟩:=b8.1 O;have hm:v∈scope:=E.mem_iff.1 (x4 ac);have Z:=List.idxOf_lt_length_iff.2 hm;refine⟨⟨by omega,by omega⟩,fun j aa U=>?_⟩;unfold eu at U;rw[x6] at U;obtain⟨u,hu,he⟩:=b8.1 U;have X:u∈scope:=E.mem_iff.1 (x4 hu);have e:scope.idxOf u=scope.idxOf v:=by omega
 have h1:=lN X;rw[e,lN hm] at h1;have Y:v=u:=j5 h1;subst Y;have ab:=m7 V hu;have ad:=m7 V ac;omega
theorem xi {scope E:List Int} {j:Nat} {v:Int} (ac:E[j]? =some v):(eu scope E)[j]? =some ((scope.idxOf v:Nat):Int):=by
 unfold eu;rw[x6,ac];rfl
theorem Fi {sizes scope E:List Int} (U:scope.Nodup) (J:E.Perm scope):dg (bI sizes scope) (eu scope E)=bI sizes E:=by
 refine Y4 fun j=>?_;cases ac:E[j]? with
 |none=>
  have O:=List.getElem?_eq_none_iff.1 ac;rw[c6 (by rw[oG];simp[eu];exact O),c6 (by simp[bI];exact O)]
 |some v=>
  have hm:v∈scope:=J.mem_iff.1 (x4 ac);have V:=pe U J;rw[vK V (by simp[bI]) (xi ac),c8];unfold bI;rw[x6,x6,lN hm,ac]
theorem xj {scope E t:List Int} (U:scope.Nodup) (J:E.Perm scope) (V:t.length=scope.length):jd (eu scope E) t=lB scope E t:=by
 have W:=pe U J;refine (vJ W V (by simp[lB]) fun j p O=>?_).symm;unfold eu at O;rw[x6] at O;obtain⟨v,ac,rfl⟩:=b8.1 O;have hm:v∈scope:=J.mem_iff.1 (x4 ac);have X:E.Nodup:=J.nodup_iff.2 U;have Y:=(x3.1 ac).1;have Z:=J.length_eq;unfold lB;rw[c8,x6,lN hm,j6,m7 X ac,u6,y0 (show j<t.length by omega)];rfl
theorem Fj {N:Nat} {f:bx} {x:bH} {cs:List Int} (ag:dP N f) (J:x∈f.funs) (af:cs.length=(aD x.sizes).toNat) (Y:∀ t,cv x.sizes t→cC x.sizes cs t=hl x f.k t):
  dg x.sizes (eu x.scope (aV x.scope))=bI f.sizes (aV x.scope)∧kz x.sizes cs (eu x.scope (aV x.scope))=(fC f.sizes f.k x).2:=by
 obtain⟨h1,ah,ai⟩:=ag.funs x J;have ac:=pb h1 ag.sizes.2.1;have E:=pa ac h1.scope.1;have V:x.sizes=bI f.sizes x.scope:=h1.sizes;have U:dg x.sizes (eu x.scope (aV x.scope))=bI f.sizes (aV x.scope):=by rw[V];exact Fi h1.scope.1 E
 have Z:=pe h1.scope.1 E;have aa:∀ v∈aV x.scope,0≤v∧v<f.sizes.length:=fun v hm=>h1.scope.2 v ((mZ ac).1 hm);have O:dt (bI f.sizes (aV x.scope)):=m3 ag.sizes.2.2 aa;refine⟨U,?_⟩;have ab:x.sizes.length=x.scope.length:=by rw[V];simp[bI]
 unfold kz;rw[U];show _=(bm (bI f.sizes (aV x.scope))).map fun t=>hl x f.k (lB x.scope (aV x.scope) t);refine Y4 fun q=>?_;rw[x6,x6];have aj:=jc O;by_cases W:q<(aD (bI f.sizes (aV x.scope))).toNat
 ·have ad:=oD O (i:=q) (by omega);rw[ad,List.getElem?_range W];simp only[j6];have ae:=q1 O W;have X:(ce (bI f.sizes (aV x.scope)) q).length=x.scope.length:=by rw[gN];simp[bI,E.length_eq]
  rw[xj h1.scope.1 E X,Y];have:=DH (s:=x.sizes) Z ab (by rw[U];exact ae);rw[xj h1.scope.1 E X] at this;exact this
 ·rw[c6 (by simp;omega),c6 (by rw[ip O];omega)];rfl
theorem Fk {ai:List Int} {k:Int} {E J:List Int} (O:dt ai) (h1:E.length=(aD ai).toNat) (U:J.length=(aD ai).toNat):
  cZ k E J=(Y1 (aD ai).toNat).map fun(q:Nat)=>min (cC ai E (ce ai q)+cC ai J (ce ai q)) k:=by
 conv=>lhs;rw[oF O h1,oF O U]
 unfold cZ;rw[List.zipWith_map,List.zipWith_self]
theorem Fl {J m:Nat} {d:List (x1×x1)} {KS:List (List Int)} {w:x2} (U:ad w J gi [.map (some m)]) (hm:cg w m d) (V:d.map (·.1)=KS.map c0) (O:lJ KS) (ac:KS.length<65536):
  ah x5 BS [.func (.func iW) #[] #[.pointer (some ⟨J,0,none⟩)],wI] w fun v w'=>Ext w w'∧ ∃ g M,M.Perm KS∧oY eM M 0 M.length∧kC w' g v M:=by
 refine aq func266 ?_;refine (Ep U hm V (fun ks h=>(O ks h).1) (by omega)).mono ?_;rintro v ae _ ⟨W,g,L,X,E,Y⟩;refine (ED Y (O.perm E) (by rw[E.length_eq];omega)).mono ?_;rintro _ af _ ⟨Z,M,aa,hu,ab⟩;exact⟨W.then Z (fun r ag h=>by have:=X r h;omega),g,M,aa.trans E,hu,ab⟩
theorem xk {α β:Type} {f:α→β}:∀ {M:List β} {D:List α},M.Perm (D.map f)→ ∃ L:List α,L.Perm D∧L.map f=M
 |[],D,h=>by
  have h1:=h.length_eq;simp at h1;have:D=[]:=o8 h1.symm;exact⟨[],by rw[this],rfl⟩
 |x::M,D,h=>by
  have J:x∈D.map f:=h.mem_iff.1 (.head _);obtain⟨p,E,rfl⟩:=o6.1 J;obtain⟨A,B,rfl⟩:=List.append_of_mem E;have O:(f p::M).Perm (f p::(A++B).map f):=h.trans (by
   rw[o9,List.map_cons,o9];exact List.perm_middle)
  obtain⟨L,U,V⟩:=xk (List.Perm.cons_inv O);exact⟨p::L,(U.cons p).trans List.perm_middle.symm,by rw[List.map_cons,V]⟩
theorem xl {w:x2} {g n:Nat} {ks:List Int} {cs:List x1} (V:ks.length=6) (W:n≤6) (E:cs=ints .i8 ks) (J:ad w g bO cs):aC .i8 w (.slice (some (if 6=0 then⟨g,0,none⟩ else⟨g,0+0*1,none⟩)) (n-0) (6-0)) (ks.take n):=by
 subst E;rw[if_neg (by omega)];unfold aC;have O:(ks.take n).length=n:=by rw[o5];omega
 rw[O];refine⟨by simp;omega,g,0,_,6,rfl,by omega,by simp[maxLen],fun _=>rfl,fun j v ac=>?_⟩;have U:=(x3.1 ac).1;refine J.range j v ?_;rw[ints,List.map_take,c7 (by simp[ints] at U;omega)] at ac;exact ac
def Fm (D L:Told):Prop:=L.Perm D∧oY (fun p=>eM (pad p.1)) L 0 L.length
set_option maxHeartbeats 1600000 in
theorem Fo {w:x2} {g m:Nat} {ai:List Int} {k o:Int} {D:Told} (h:du w g m ai k o D) (bu:D.length<65536):ah x5 Bw [.pointer (some ⟨g,0,none⟩)] w fun v w'=>Ext w w'∧ ∃ L:Told,Fm D L∧de (dD w.heap.size) a8 w' [v] L:=by
 obtain⟨⟨sv,gs,aL,hm⟩,bw,az,b9,aY⟩:=id h;have bx:lJ (D.map fun p=>pad p.1):=fun ks bz=>by
  obtain⟨p,bA,rfl⟩:=o6.1 bz;exact mP az (aY p bA).1
 refine aq func222 ?_;rw[cB dB.u];simp only[c5,aP];rw[ax,ae ea.p rfl,V (by kernel_rfl) (aL.cell (o:=0+3) rfl)];refine En.mono ?_;rintro _ ca _ ⟨aM,cb,rfl,cc,bB⟩;refine (Fl (KS:=D.map fun p=>pad p.1) bB (bw.ext aM) (by rw[List.map_map,List.map_map];rfl) bx (by simpa using bu)).mono ?_;rintro cd ap _ ⟨a2,ce,M,bC,bD,a6⟩;obtain⟨L,aN,aA⟩:=xk bC;have a7:M.length=L.length:=by rw[←aA];simp
 have cg:=aN.length_eq;have ch:=aM.size;have ci:=a2.size;have ba:=aM.trans a2;rw[dK gK.u a6];refine bM.range L.length (fun i out E=>Ext ap E∧de (dD ap.heap.size) a8 E [out] (L.take i)) (by omega) ⟨Ext.refl _,by rw[List.take_zero];exact im⟩ ?_ ?_
 rotate_left
 ·rintro out E bE ⟨aj,aB⟩;rw[a7];simp only[ao,aa];refine⟨fun h=>by omega,fun _=>⟨ba.trans aj,L,⟨aN,fun p q x y h1 bF cj J bG=>?_⟩,?_⟩⟩
  ·exact bD p q (pad x.1) (pad y.1) h1 bF (by omega) (by rw[←aA,x6,J];rfl) (by rw[←aA,x6,bG];rfl)
  ·rw[o3] at aB;exact ay.mono aB (fun r _ h=>by have h:ap.heap.size≤r:=h;show w.heap.size≤r;omega) fun _ _ h=>h
 rintro i out E bE hi ⟨aj,aB⟩ bH;obtain⟨⟨t,c⟩,aO⟩:∃ p,L[i]? =some p:=⟨_,y0 hi⟩;have aQ:(t,c)∈D:=aN.mem_iff.1 (x4 aO);have aR:=(aY _ aQ).1;have bb:=re az aR;have aS:t.length=ai.length:=bb.1;have bc:=az.1;have bI:iw (pad t):=mP az aR;have aC:=bI.1;have bJ:M[i]? =some (pad t):=by rw[←aA,x6,aO];rfl
 rw[a7];simp only[ao,aa];refine⟨fun _=>?_,fun h=>by omega⟩;rw[EC rfl (a6.ext aj) bJ];refine bi bO.i fun aJ ck cl bd be=>?_;refine mO aC rfl be fun bK bL cm aD=>?_;have cn:=bd.size;have cp:=be.lt;have bN:Ext E bK:=bd.then bL (fun r aE he=>by have he:r=aJ:=he;omega);intro bf au _ _;have aT:=bN.trans au;have aU:=(ba.trans aj).trans aT;have bg:=h.ext aU;obtain⟨⟨cq,cr,ct,cu⟩,cw,_⟩:=id bg;have cz:=aT.size;rw[ax,ae ea.p rfl,V (by kernel_rfl) ((aL.ext aU).cell (o:=0+3) rfl),kB aC (aD.ext au).range];refine Eg bg aR (fun O bQ=>?_) (fun bR=>absurd rfl (bR _ aQ));have bS:O=c:=by
  have:=ws h.nodup bQ aQ rfl;exact congrArg Prod.snd this
 subst bS;simp only[Bool.false_eq_true,if_false];rw[cI (cs:=#[.slice none 0 0,.int .i64 O]) (by kernel_rfl)];refine bi eI.i fun X cA cC aV bh=>?_;refine⟨.inl aV,?_⟩;refine bP (vs:=[.slice none 0 0,.int .i64 O]) eI.i rfl rfl (by intro v ac;simp at ac;rcases ac with rfl|rfl <;> rfl) bh fun ak bT cD bk=>?_;have cE:=aV.size;have cF:=bh.lt;have aG:Ext bf ak:=aV.then bT (fun r aE he=>by have he:r=X:=he;omega);have bl:=aT.trans aG;have bm:=aU.trans aG;rw[ax,ae ea.p rfl,V (by kernel_rfl) ((aL.ext bm).cell (o:=0+0) rfl),aI al.u (hm.ls.ext bm)];rw[oe bO.u en.i (l:=0) (h:=ai.length) (m:=6) hc (kj _ _ rfl) eb (by omega) (by omega) (by omega)];have bn:=xl aC bc rfl ((aD.ext au).ext aG);rw[←aS,wn] at bn;rw[←aS,aI ik.u bn];have bU:=(aD.ext au).ext aG;have cG:aJ<bf.heap.size:=(aD.ext au).lt;have cH:X<ak.heap.size:=bk.lt;refine bV.range t.length (fun j W=>af (fun r=>r=X∨ak.heap.size≤r) ak W∧ ∃ Y gt,ak.heap.size≤gt∧ad W X eI [Y,.int .i64 O]∧am .i64 ab W gt Y (t.take j)) (by omega) ⟨af.refl _ _,_,ak.heap.size,u9 _,bk,am.nil _ _ _ _⟩ ?_ ?_
 ·rintro j W bW bX ⟨Z,Y,gt,bY,aH,aK⟩ bZ;obtain⟨x,aW⟩:∃ x,t[j]? =some x:=⟨_,y0 bX⟩;have cJ:=bb.2 x (x4 aW);have cK:Ext E W:=bl.then Z (fun r aE he=>by rcases he with rfl|he <;> omega);have bo:=xl aC bc rfl (bU.U Z (fun he=>by rcases he with he|he <;> omega));rw[←aS,wn] at bo;simp only[ao,aa];refine⟨fun _=>?_,fun h=>by omega⟩;rw[a1 ik.u en.i (by kernel_rfl) bo aW,ae eI.p rfl,V (by kernel_rfl) (aH.cell (o:=0+0) rfl),e7 en.u ab.u,wrap_i64 (by omega) (by omega)];refine dC al.u ab.i rfl fun a cL b1 cM ag b2=>?_;refine gM al.u ab.i rfl (aK.ext ag) b2.ls (by simp;omega) (by simp;omega) fun bp bq b3 cN av aw=>?_;have b4:=Z.size;have b5:=ag.size;have cO:=aw.size;rw[ae eI.p rfl];refine aZ (g:=X) (o:=0) al.i av.ls.cells.1 av.ls.cells.2 ((aH.ext ag).U aw (fun he=>by have he:X=gt:=he;omega)) (by simp) fun cP br cQ b6=>?_;simp only[aF];refine bZ _ ⟨((Z.trans (ag.U _)).trans (aw.mono fun r _ he=>.inr (by have he:r=gt:=he;omega))).trans (br.mono fun r _ he=>.inl he),bp,bq,by omega,b6,?_⟩;rw[u4,aW];exact av.U br (fun _ he=>by have he:bq=X:=he;omega)
 ·rintro W bW ⟨Z,Y,gt,bY,aH,aK⟩;simp only[ao,aa];refine⟨fun h=>by omega,fun _=>?_⟩;rw[o3] at aK;rw[bj eI.p eI.i rfl aH.range];have b4:=Z.size;have b7:Ext E W:=bl.then Z (fun r aE he=>by rcases he with rfl|he <;> omega);have bt:de (dD E.heap.size) a8 W [Y,.int .i64 O] (t,O):=⟨[Y],[.int .i64 O],dD E.heap.size,a8,rfl,fun _ h=>h,fun _ h=>h.elim,fun _ _ _ h=>h,ay.mono (lm aK) (fun r _ h=>by subst h;show E.heap.size≤r;omega) (fun _ _ h=>h),rfl⟩;refine kp (α:=List Int×Int) (a:=(t,O)) (cs:=[Y,.int .i64 O]) (A:=dD E.heap.size) (R:=a8) lf.u eI.i (by decide) rfl bt fun u b1 ag _ b8=>?_;have aX:=b7.trans ag;have b5:=aX.size;refine ll (α:=List Int×Int) (a:=(t,O)) (A:=dD E.heap.size) lf.u eI.i rfl (cT (jE aB) aX) b8 (cT bt ag) (fun r _ h h'=>?_) (by simp;omega) (by simp;omega) fun bp b3 av aw=>?_
  ·rcases h' with h'|h'
   ·have:=h.2;have:E.heap.size≤r:=h';omega
   ·exact h'
  simp only[aF];have cR:=aj.size;refine bH _ _ ⟨(aj.trans aX).then aw (fun r aE h=>by have h:=h.1;have h:ap.heap.size≤r:=h;omega),?_⟩;rw[u4,aO];refine ay.mono av (fun r _ h=>?_) fun _ _ h=>h;show ap.heap.size≤r;rcases h with h|h|h
  ·exact h.1
  ·have h:E.heap.size≤r:=h;omega
  ·omega
theorem xm {s t:List Int} (E:dt s):t∈bm s↔cv s t:=by
 refine⟨fun h=>?_,fun⟨n,h⟩=>x4 (oB E h)⟩;obtain⟨i,hi⟩:=Y6.1 h;exact⟨_,qZ E hi⟩
theorem xn:∀ {s:List Int},dt s→(bm s).Pairwise fun a b=>eM a<eM b
 |[],_=>by simp[bm]
 |k::s,V=>by
  have Z:=xn V.tail;have O:∀ t∈bm s,0≤eM t∧eM t<32 ^ s.length:=fun t W=>by
   have ac:=(xm V.tail).1 W;have h1:=ky.1 ac;have X:=oX t fun x J=>by
    obtain⟨i,hi,rfl⟩:=List.getElem_of_mem J;obtain⟨a,E⟩:∃ a,s[i]? =some a:=⟨_,y0 (by omega)⟩;have ab:=h1.2 i a _ E (y0 hi);have ad:=(V.tail a (x4 E)).2;omega
   rw[h1.1];exact X
  have U:∀ t∈bm s,t.length=s.length:=fun t W=>qK W;show ((Y1 k.toNat).flatMap fun(v:Nat)=>(bm s).map fun t=>(v:Int)::t).Pairwise _;rw[List.pairwise_flatMap];refine⟨fun v _=>?_,?_⟩
  ·rw[List.pairwise_map];refine Z.imp_of_mem fun {a b} E O h=>?_;simp only[eM,U a E,U b O];omega
  ·refine List.pairwise_lt_range.imp fun {u v} ae x J y aa=>?_;obtain⟨a,E,rfl⟩:=o6.1 J;obtain⟨b,Y,rfl⟩:=o6.1 aa;simp only[eM,U a E,U b Y];have h1:=O a E;have X:=O b Y;have:=Int.mul_le_mul_of_nonneg_right (show (u:Int)+1≤v by omega) (show (0:Int)≤32 ^ s.length by have:=rh s.length;omega);rw[Int.add_mul,Int.one_mul] at this;omega
theorem Fp {D L:Told} {o:Int} (O:(D.map (·.1)).Nodup) (E:L.Perm D) (t:List Int):fW L o t=fW D o t:=by
 have V:(L.map (·.1)).Nodup:=(E.map (·.1)).nodup_iff.2 O;by_cases he:∃ p∈D,p.1=t
 ·obtain⟨p,U,rfl⟩:=he;rw[mQ O (c:=p.2) U,mQ V (c:=p.2) (E.mem_iff.2 U)]
 ·rw[mR fun p h1 J=>he ⟨p,h1,J⟩,mR fun p h1 J=>he ⟨p,E.mem_iff.1 h1,J⟩]
def fZ (ai:List Int) (f:List Int→Int) (cs:List Int):Prop:=cs.length=(aD ai).toNat∧ ∀ t,cv ai t→cC ai cs t=f t
theorem fZ.eq {ai:List Int} {f:List Int→Int} {cs E:List Int} (U:dt ai) (h1:fZ ai f cs) (J:fZ ai f E):cs=E:=Dx U h1.1 J.1 fun t O=>by rw[h1.2 t O,J.2 t O]
theorem fZ.congr {ai:List Int} {f E:List Int→Int} {cs:List Int} (h:fZ ai f cs) (he:∀ t,cv ai t→f t=E t):fZ ai E cs:=⟨h.1,fun t J=>by rw[h.2 t J,he t J]⟩
theorem rx {ai t:List Int} (J:dt ai) (h:cv ai t):∃ n:Nat,cd ai t 0=some (n:Int)∧n<(aD ai).toNat:=by
 obtain⟨n,E⟩:=h;have:=kr J E;simp only[Int.zero_mul,Int.zero_add,Int.one_mul] at this;exact⟨n.toNat,by rw[E];congr 1;omega,by omega⟩
theorem Fq {ai:List Int} (E:dt ai) (c:Int):fZ ai (fun _=>c) (v8 (aD ai).toNat c):=⟨by simp,fun t J=>by
 obtain⟨n,O,U⟩:=rx E J;unfold cC;rw[O];simp only[c8,u6,List.getElem?_replicate,U,if_true,Option.getD_some]⟩
theorem fZ.put {ai t:List Int} {f:List Int→Int} {cs:List Int} {k c:Int} (E:dt ai) (h:fZ ai f cs) (ac:cv ai t) (W:cj c k):fZ ai (fun s=>if s=t then c else f s) (om ai t k c cs):=by
 obtain⟨n,O,X⟩:=rx E ac;unfold om;rw[O];simp only[W,if_true,c8];refine⟨by simp[h.1],fun s V=>?_⟩;obtain⟨m,hm,Y⟩:=rx E V;have J:=h.2 s V;unfold cC at J ⊢;rw[hm] at J ⊢;simp only[c8] at J ⊢;by_cases he:s=t
 ·subst he;rw[O] at hm;have U:n=m:=by have:=j5 hm;omega
  subst U;rw[if_pos rfl,u6,U1 (by rw[h.1];exact X)];rfl
 ·rw[if_neg he,u6,List.getElem?_set_ne (fun U=>he ?_),←u6,J];subst U;rw[←vD E hm,←vD E O]
def Fr (w:x2) (ai:List Int) (k o:Int) (D:Told) (v:x1) (w':x2):Prop:=Ext w w'∧(4096<aD ai→v= .tuple #[.pointer none,.int .i64 5])∧
 (aD ai≤4096→ ∃ g E sv cs,v= .tuple #[.pointer (some ⟨g,0,none⟩),.int .i64 0]∧w.heap.size≤g∧w.heap.size≤E∧cp w' g E sv ai k cs∧fZ ai (fW D o) cs)
set_option maxHeartbeats 1600000 in
theorem xo {w:x2} {g m:Nat} {ai:List Int} {k o:Int} {D:Told} (h:du w g m ai k o D) (aJ:D.length<65536):ah x5 AX [.pointer (some ⟨g,0,none⟩)] w (Fr w ai k o D):=by
 obtain⟨⟨sv,gs,aK,hm⟩,bq,X,aL,aM⟩:=id h;have aw:=h.nodup;refine aq func163 ?_;rw[cB dB.u];simp only[c5,aP];intro br E _ _;have aj:=aK.ext E;rw[ax,ae ea.p rfl,V (by kernel_rfl) (aj.cell (o:=0+0) rfl),ax,ae ea.p rfl,V (by kernel_rfl) (aj.cell (o:=0+1) rfl),ax,ae ea.p rfl,V (by kernel_rfl) (aj.cell (o:=0+2) rfl)];refine (qN (hm.ls.ext E)).mono ?_;rintro _ az _ ⟨Y,_,aN,_,aO⟩;by_cases Z:aD ai≤4096
 rotate_left
 ·have:=aN X (by omega);subst this;rw[av (v:=.pointer none) rfl,av (v:=.int .i64 5) rfl];simp only[be,aa];exact⟨fun _=>⟨E.trans Y,fun _=>rfl,fun h=>absurd h Z⟩,fun h=>by simp at h⟩
 obtain⟨gt,J,aA,rfl,bt,bu,_,aB⟩:=aO X Z aL;rw[av (v:=.pointer (some ⟨gt,0,none⟩)) rfl,av (v:=.int .i64 0) rfl];simp only[be,aa];refine⟨fun h=>absurd rfl h,fun _=>?_⟩;have bw:=E.size;have bx:=Y.size;refine (Fo ((h.ext E).ext Y) aJ).mono ?_;rintro bz aQ _ ⟨ak,L,ab,aC⟩;have bA:=ak.size;have bB:J<az.heap.size:=by
  obtain⟨⟨aH,bC,_,_,aR⟩,⟨_,_,bD⟩,aS,aT⟩:=id aB;have bE:=jc aS.2;obtain⟨_,⟨_,aU⟩|⟨cap,cs,_,aV,_⟩⟩:=aR
  ·rw[aT] at aU;omega
  ·exact aV.lt
 have bF:=ab.1.length_eq;rw[io lf.u aC];refine bV.range L.length (fun i O=>af (fun r=>r=J) aQ O∧ ∃ cs,cp O gt J aA ai k cs∧fZ ai (fW (L.take i) o) cs) (by omega) ⟨af.refl _ _,_,aB.ext ak,by rw[List.take_zero];exact Fq X.2 o⟩ ?_ ?_
 ·rintro i O aW hi ⟨ad,cs,al,ag⟩ aX;simp only[ao,aa];refine⟨fun _=>?_,fun h=>by omega⟩;obtain⟨⟨t,c⟩,W⟩:∃ p,L[i]? =some p:=⟨_,y0 hi⟩;have aY:(t,c)∈D:=ab.1.mem_iff.1 (x4 W);obtain⟨aZ,a1,a2⟩:=aM _ aY;have a6:=ay.U aC ad fun r aE a7 he=>by
   have he:r=J:=he;rcases a7 with h|h
   ·have h:az.heap.size≤r:=h;omega
   ·exact h
  refine lk (α:=List Int×Int) eI.p rfl lf.u eI.i a6 W fun us a8=>?_;obtain⟨bG,ba,A,B,rfl,bH,bI,_,h1,bb⟩:=a8;have bc:ba=[.int .i64 c]:=bb;subst bc;obtain⟨bd,rfl,_⟩:=id h1;have hu:=jH h1;refine bi eI.i fun bf bJ bK bg aG=>?_;refine bP (vs:=[bd,.int .i64 c]) eI.i rfl rfl (by intro v ac;simp at ac;rcases ac with rfl|rfl;exact hu.cells.2;rfl) aG fun bh bj bL aI=>?_;have bM:=aG.lt;have am:Ext O bh:=bg.then bj (fun r aE he=>by have he:r=bf:=he;omega);rw[ae eI.p rfl,V (by kernel_rfl) (aI.cell (o:=0+0) rfl),ae eI.p rfl,V (by kernel_rfl) (aI.cell (o:=0+1) rfl)];refine (CM (al.ext am) (hu.ext am)).mono ?_;rintro _ bN _ ⟨rfl,bk,bl⟩;simp only[aF];refine aX _ ⟨(ad.trans (am.U _)).trans bk,_,bl,(ag.put X.2 aZ a1).congr fun s bO=>?_⟩;rw[u4,W];have ap:(L.map (·.1)).Nodup:=(ab.1.map (·.1)).nodup_iff.2 aw;have bm:∀ p∈L.take i,p.1≠t:=fun p Z he=>by
   obtain⟨j,au⟩:=Y6.1 Z;have bn:j<i:=by have:=(x3.1 au).1;rw[o5] at this;omega
   rw[c7 bn] at au;have:=hW ap (i:=j) (j:=i) (x:=t) (by rw[x6,au,j6,he]) (by rw[x6,W];rfl);omega
  have bo:((L.take i).map (·.1)).Nodup:=by rw[List.map_take];exact (List.take_sublist _ _).nodup ap
  have bp:((L.take i++[(t,c)]).map (·.1)).Nodup:=by
   have e:L.take i++[(t,c)]=L.take (i+1):=by rw[u4,W];rfl
   rw[e,List.map_take];exact (List.take_sublist _ _).nodup ap
  exact ((wu bm a2).cost bo bp s).symm
 ·rintro O aW ⟨ad,cs,al,ag⟩;simp only[ao,aa];refine⟨fun h=>by omega,fun _=>?_⟩;rw[o3] at ag;exact⟨((E.trans Y).trans ak).then ad (fun r aE he=>by have he:r=J:=he;omega),fun h=>by omega,fun _=>⟨gt,J,aA,cs,rfl,by omega,by omega,al,ag.congr fun s _=>Fp aw ab.1 s⟩⟩
theorem Fs {s cs t:List Int} (E:dt s) (J:cs.length=(aD s).toNat) {i:Nat} (h:(bm s)[i]? =some t):cs[i]? =some (cC s cs t):=by
 have hi:=(x3.1 h).1;rw[ip E,←J] at hi;unfold cC;rw[qZ E h];simp only[c8,u6,y0 hi,Option.getD_some]
theorem pf {k:r9} {e:u5} {w:x2} {g:Nat} {v:x1} {l:List Int} (h:am k e w g v l) (J:0<l.length):g<w.heap.size:=by
 obtain⟨_,⟨_,h1⟩|⟨_,_,_,E,_⟩⟩:=h
 ·omega
 ·exact E.lt
def eg (w:x2) (g m:Nat) (sv:x1) (gs:Nat) (ai:List Int) (k o:Int) (D:Told):Prop:=
 ad w g ea [sv,.int .i64 k,.int .i64 o,.map (some m)]∧am .i64 ab w gs sv ai∧cg w m (D.map hn)∧bu ai∧cj o k∧ ∀ p∈D,cv ai p.1∧cj p.2 k∧p.2≠o
theorem eg.is {w:x2} {g m gs:Nat} {sv:x1} {ai:List Int} {k o:Int} {D:Told} (h:eg w g m sv gs ai k o D):du w g m ai k o D:=⟨⟨sv,gs,h.1,h.2.1⟩,h.2.2⟩
theorem du.at {w:x2} {g m:Nat} {ai:List Int} {k o:Int} {D:Told} (h:du w g m ai k o D):∃ sv gs,eg w g m sv gs ai k o D:=by
 obtain⟨⟨sv,gs,h1,E⟩,J⟩:=h;exact⟨sv,gs,h1,E,J⟩
theorem eg.ext {w w':x2} {g m gs:Nat} {sv:x1} {ai:List Int} {k o:Int} {D:Told} (h:eg w g m sv gs ai k o D) (J:Ext w w'):eg w' g m sv gs ai k o D:=by
 obtain⟨h1,E,O,U⟩:=h;exact⟨h1.ext J,E.ext J,O.ext J,U⟩
theorem eg.U {S:Nat→Prop} {w w':x2} {g m gs:Nat} {sv:x1} {ai:List Int} {k o:Int} {D:Told} (h:eg w g m sv gs ai k o D) (J:af S w w') (E:¬S g) (hm:¬S m) (O:∀ r,leads sv r→¬S r):eg w' g m sv gs ai k o D:=by
 obtain⟨h1,V,W,X⟩:=h;exact⟨h1.U J E,aX V J O,W.U J hm,X⟩
theorem pg {w:x2} {g m:Nat} {e:u5} {cs:List x1} {d:List (x1×x1)} (h:ad w g e cs) (hm:cg w m d):g≠m:=by
 rintro rfl;obtain⟨E,c,h1,_⟩:=hm;unfold ad at h;rw[h1] at h;cases h
theorem xp {w:x2} {g m:Nat} {k:r9} {e:u5} {v:x1} {l:List Int} {d:List (x1×x1)} (h:am k e w g v l) (hm:cg w m d) {r:Nat} (E:leads v r):r≠m:=by
 obtain⟨rfl,_⟩:=bw h E;obtain⟨_,⟨rfl,_⟩|⟨_,_,_,J,_⟩⟩:=h
 ·obtain⟨a,n,c,h,_⟩:=E;cases h
 ·exact pg J hm
theorem eg.put {w w':x2} {g m gs:Nat} {sv:x1} {ai:List Int} {k o:Int} {D E:Told} (h:eg w g m sv gs ai k o D) (J:af (fun r=>r=m) w w') (h':du w' g m ai k o E):eg w' g m sv gs ai k o E:=
 ⟨h.1.U J (fun he=>pg h.1 h.2.2.1 he),aX h.2.1 J (fun r O he=>xp h.2.1 h.2.2.1 O he),h'.2⟩
theorem eg.mK {w:x2} {g m gs:Nat} {sv:x1} {ai:List Int} {k o:Int} {D:Told} (h:eg w g m sv gs ai k o D):g<w.heap.size∧m<w.heap.size∧ ∀ r,leads sv r→r<w.heap.size:=
 ⟨h.1.lt,h.2.2.1.lt,fun r E=>by obtain⟨rfl,J⟩:=bw h.2.1 E;exact J⟩
instance (s t:List Int):Decidable (cv s t):=decidable_of_iff ((cd s t 0).isSome=true) ⟨fun h=>by
 cases E:cd s t 0 with
 |none=>rw[E] at h;cases h
 |some n=>exact⟨n,E⟩,fun⟨n,h⟩=>by rw[h];rfl⟩
theorem ph {sv:x1} {l:List Int} {w:x2} (h:aC .i64 w sv l) (au:l.length≤1000000):ah x5 tU [sv] w fun v w'=>Ext w w'∧ ∃ g,w.heap.size≤g∧am .i64 ab w' g v l:=by
 refine aq func154 ?_;rw[aI ap.u h];refine hN (k:=.i64) al.u ab.i (by omega) (by omega) fun g V av U W=>?_;have Z:am .i64 ab V g (.slice (some ⟨g,0,none⟩) l.length l.length) (v8 l.length 0):=by
  have:=br.full (k:=1) (n:=l.length) W (by simp) (by simp[maxLen];omega);exact am.of this
 rw[aI ap.u (h.ext U)];have aw:=W.lt;refine bV.range l.length (fun i E=>af (fun r=>r=g) V E∧am .i64 ab E g (.slice (some ⟨g,0,none⟩) l.length l.length) (l.take i++v8 (l.length-i) 0)) h.le ⟨af.refl _ _,by simpa using Z⟩ ?_ ?_
 rotate_left
 ·rintro E ac ⟨O,J⟩;rw[ao,aa];rw[o3,X6,List.replicate_zero,V4] at J;exact⟨fun h=>by omega,fun _=>⟨U.then O (fun r ad he=>by have he:r=g:=he;omega),g,by omega,J⟩⟩
 rintro i E ac hi ⟨O,J⟩ ae;obtain⟨x,X⟩:∃ x,l[i]? =some x:=⟨_,y0 hi⟩;have ag:Ext w E:=U.then O (fun r ad he=>by have he:r=g:=he;omega);rw[ao,aa];refine⟨fun _=>?_,fun h=>by omega⟩;rw[a1 ap.u aj.i (by kernel_rfl) (h.ext ag) X];rw[fR rfl al.u ab.i J (by simp;omega)];refine fS ab.i J (by simp;omega) fun ax ai ay Y=>?_;rw[aF];refine ae _ ⟨O.trans ai,?_⟩;have e:(l.take i++v8 (l.length-i) 0).set i x=l.take (i+1)++v8 (l.length-(i+1)) 0:=by
  have ak:(l.take i).length=i:=by rw[o5];omega
  rw[List.set_append_right _ _ (by omega),ak,X6,show l.length-i=(l.length-(i+1))+1 by omega,List.replicate_succ,List.set_cons_zero,u4,X,l9,X8];rfl
 rw[e] at Y;exact Y
def Ft (w:x2) (l:List Int) (k o:Int) (v:x1) (w':x2):Prop:=
 Ext w w'∧(¬bu l→v= .tuple #[.pointer none,.int .i64 1])∧(bu l→¬cj o k→v= .tuple #[.pointer none,.int .i64 3])∧
  (bu l→cj o k→ ∃ g m sv gs,v= .tuple #[.pointer (some ⟨g,0,none⟩),.int .i64 0]∧w.heap.size≤g∧w.heap.size≤m∧(∀ r,leads sv r→w.heap.size≤r)∧eg w' g m sv gs l k o [])
theorem Fu {sv:x1} {l:List Int} {k o:Int} {w:x2} (h:aC .i64 w sv l):ah x5 k9 [sv,.int .i64 k,.int .i64 o] w (Ft w l k o):=by
 refine aq func205 ?_;refine aL (fun v Y=>Ext w Y∧ ∃ c,v= .bool c∧(c=true↔¬bu l)) ?_ ?_
 ·rintro _ Y ⟨O,c,rfl,U⟩;rw[b3];refine⟨fun Z=>⟨O,fun _=>rfl,fun h=>absurd h (U.1 Z),fun h=>absurd h (U.1 Z)⟩,fun ag=>?_⟩;have E:bu l:=Classical.byContradiction fun h=>by have:=U.2 h;rw[ag] at this;cases this
  have ao:=E.1;refine kq.mono ?_;rintro _ ae _ ⟨rfl,J⟩;by_cases hi:cj o k
  rotate_left
  ·simp only[hi,decide_false,bJ,Y8,bh];exact⟨O.trans J,fun h=>absurd E h,fun _ _=>rfl,fun _ h=>absurd h hi⟩
  simp only[hi,decide_true,bJ,Z3,aP];refine (hQ ((h.ext O).ext J) (by omega)).mono ?_;rintro ab ap _ ⟨ac,af,au,hm⟩;have av:=hm.ls.cells;refine oR fun m aw ax V ai=>?_;rw[cI (cs:=#[ab,.int .i64 k,.int .i64 o,.map (some m)]) (by obtain⟨_,_,_,_,_,rfl,_⟩:=hm.ls;kernel_rfl)];refine a7 fun g ay az W aj=>?_;have aA:=O.size;have aB:=J.size;have aD:=ac.size;have aE:=V.size;exact⟨((((O.trans J).trans ac).trans V).trans W),fun h=>absurd E h,fun _ h=>absurd hi h,fun _ _=>⟨g,m,ab,af,rfl,by omega,by omega,fun r ak=>by have:=(bw hm ak).1;omega,aj,(hm.ext V).ext W,ai.ext W,E,hi,fun p am=>by cases am⟩⟩
 ·intro aF ad;rw[aI al.u h];simp only[bA,aa];refine⟨fun aG=>ad _ _ ⟨Ext.refl _,true,rfl,fun _ E=>by have:=E.1;omega,fun _=>rfl⟩,fun aH=>?_⟩;refine (wo h).mono ?_;rintro _ ae _ ⟨rfl,J⟩;refine ad _ _ ⟨J,_,rfl,?_⟩;rw[decide_eq_true_eq];exact⟨fun X E=>X E.2,fun X E=>X ⟨by omega,E⟩⟩
structure xq where
 ai:List Int
 k:Int
 o:Int
 D:Told
instance Jx:ay xq where
 n:=1
 rep _ _ R w cs a:=∃ g m sv gs,cs=[.pointer (some ⟨g,0,none⟩)]∧eg w g m sv gs a.ai a.k a.o a.D∧R g∧R m∧ ∀ r,leads sv r→R r
 len:=by rintro _ _ _ _ _ _ ⟨_,_,_,_,rfl,_⟩;rfl
 one:=by rintro _ _ _ _ _ _ ⟨_,_,_,_,rfl,_⟩ u hu;simp at hu;subst hu;rfl
 U:=by
  rintro _ _ R T w w' _ a ⟨g,m,sv,gs,rfl,h1,O,V,W⟩ J X;obtain⟨Y,Z,aa⟩:=h1.mK;exact⟨g,m,sv,gs,rfl,h1.U J (X g Y (.inr O)) (X m Z (.inr V)) fun r E=>X r (aa r E) (.inr (W r E)),O,V,W⟩
 mono:=by
  rintro _ _ _ R R' w _ a ⟨g,m,sv,gs,rfl,h1,O,V,W⟩ _ ab;obtain⟨Y,Z,aa⟩:=h1.mK;exact⟨g,m,sv,gs,rfl,h1,ab g Y O,ab m Z V,fun r E=>ab r (aa r E) (W r E)⟩
 fL:=by
  rintro _ _ R w _ a ⟨g,m,sv,gs,rfl,h1,O,V,W⟩;exact⟨g,m,sv,gs,rfl,h1,.inr O,.inr V,fun r E=>.inr (W r E)⟩
abbrev fc:Type:=Rd (List Int)×xq
def m8 (k:Int) (x:bH) (f:fc):Prop:=f.1=x.scope∧f.2.ai=x.sizes∧f.2.k=k∧f.2.o=min x.other k∧f.2.D.length≤x.lines.length∧ ∀ t,fW f.2.D f.2.o t=hl x k t
theorem Fv {m:Bool} {S R:an} {w:x2} {cs:List x1} {x:bH} (h:ay.rep m S R w cs (fb x)):∃ aN au bo,cs=[aN,au,.int .i64 x.other,bo]∧ay.rep (α:=List Int) false a8 R w [aN] x.scope∧ay.rep (α:=List Int) false a8 R w [au] x.sizes∧ay.rep (α:=List (List Int×Int)) false a8 R w [bo] x.lines:=by
 obtain⟨U,d1,X,Y,rfl,_,_,_,h1,V,d2,Z,aa,rfl,_,_,_,E,W,d3,ab,ac,rfl,_,_,_,O,J⟩:=h;have h1:ay.rep (α:=List Int) false a8 R w U x.scope:=h1;have E:ay.rep (α:=List Int) false a8 R w V x.sizes:=E;have O:W=[.int .i64 x.other]:=O;have J:ay.rep (α:=List (List Int×Int)) false a8 R w d3 x.lines:=J;obtain⟨u,rfl⟩:=W8.1 (show U.length=1 from ay.len h1);obtain⟨v,rfl⟩:=W8.1 (show V.length=1 from ay.len E);obtain⟨y,rfl⟩:=W8.1 (show d3.length=1 from ay.len J);subst O;exact⟨u,v,y,rfl,h1,E,J⟩
theorem Fw {m:Bool} {S R:an} {w:x2} {cs:List x1} {p:List Int×Int} (h:ay.rep m S R w cs p):∃ J,cs=[J,.int .i64 p.2]∧aC .i64 w J p.1:=by
 obtain⟨O,d1,U,V,rfl,_,_,_,h1,E⟩:=h;obtain⟨u,rfl⟩:=W8.1 (show O.length=1 from ay.len h1);have E:d1=[.int .i64 p.2]:=E;subst E;exact⟨u,rfl,jH h1⟩
structure pi (k:Int) (x:bH):Prop where
 k:right k
 sizes:bu x.sizes
 other:0≤x.other
 lines:jM x.sizes x.lines
 len:x.lines.length≤60000
 scope:x.scope.length≤100001
theorem ct {k:r9} {w:x2} {v:x1} {l:List Int} (h:aC k w v l):∃ a n c,v= .slice a n c:=by
 obtain⟨_,b,o,base,cap,rfl,_⟩:=h;exact⟨_,_,_,rfl⟩
set_option maxHeartbeats 4000000 in
theorem Fx {w:x2} {aS:Nat} {bl bm bn:x1} {K:Int} {R:an} {cs:List x1} {x:bH} (aT:ad w aS bS [bl,.int .i64 K,bm,bn]) (J:Seen R w cs (fb x)) (bq:pi K x):
  ah x5 qt [.pointer (some ⟨aS,0,none⟩),.agg cs.toArray] w fun v w'=>Ext w w'∧ ∃ aE,∃ f:fc,v= .agg aE.toArray∧aE.length=2∧Seen (dD w.heap.size) w' aE f∧m8 K x f:=by
 obtain⟨aN,au,bo,rfl,h1,aU,aG⟩:=Fv J;obtain⟨ap,aH,b1,aV,b2,b3⟩:=bq;have b4:x.sizes.length≤6:=aH.1;refine aq func155 ?_;refine a7 fun aJ aW b5 aY X=>?_;have X:ad aW aJ bp [aN,au,.int .i64 x.other,bo]:=by
  obtain⟨_,_,_,rfl⟩:=jf h1;obtain⟨_,_,_,rfl⟩:=jf aU;obtain⟨_,_,_,rfl⟩:=jf aG;exact X
 refine bi bN.i fun Y aZ b6 aI aw=>?_;have aw:ad aZ Y bN [.slice none 0 0,.pointer none]:=aw;intro b7 az _ _;have aK:=(aY.trans aI).trans az;have aL:=aI.trans az;have b8:=aY.size;have b9:=aI.size;have z3:=az.size;have ca:=aw.lt;have a1:=aT.ext aK;rw[ae bp.p rfl,V (by kernel_rfl) ((X.ext aL).cell (o:=0+1) rfl),ax,ae bS.p rfl,V (by kernel_rfl) (a1.cell (o:=0+1) rfl),
  ae bp.p rfl,V (by kernel_rfl) ((X.ext aL).cell (o:=0+2) rfl),ax,ae bS.p rfl,V (by kernel_rfl) (a1.cell (o:=0+1) rfl),i7]
 refine (ph ((jH aU).ext aK) (by omega)).mono ?_;rintro cb cc _ ⟨ag,cd,ce,br⟩;refine⟨.inl ag,?_⟩;have z4:=ag.size;have bt:cj (min x.other K) K:=⟨ap,by have:=ap.1;omega,by omega⟩;refine (Fu br.ls).mono ?_;rintro _ bu _ ⟨aA,_,_,bx⟩;obtain⟨gT,m,sv,gs,rfl,cg,ch,a2,bz⟩:=bx aH bt;rw[av (v:=.pointer (some ⟨gT,0,none⟩)) rfl,av (v:=.int .i64 0) rfl];have z5:=aA.size;have aM:=(aK.trans ag).trans aA;have a6:=(aL.trans ag).trans aA;rw[ae bp.p rfl,V (by kernel_rfl) ((X.ext a6).cell (o:=0+3) rfl)];have ba:=cT aG aM;rw[io gh.u ba];refine bV.range x.lines.length (fun i O=>af (fun r=>r=m) bu O∧ ∃ D,D.length≤i∧eg O gT m sv gs x.sizes K (min x.other K) D∧ ∀ t,fW D (min x.other K) t=iB x K i t) (qH ba) ⟨af.refl _ _,[],u9 _,bz,fun t=>by rw[xf];rfl⟩ ?_ ?_
 ·rintro i O bA hi ⟨W,D,bb,ai,aO⟩ bB;obtain⟨p,aP⟩:∃ p,x.lines[i]? =some p:=⟨_,y0 hi⟩;have bc:=aV.2 p (x4 aP);have aj:Ext w O:=aM.then W (fun r E he=>by have he:r=m:=he;omega);have bC:=W.size;have bD:ay.rep (α:=List (List Int×Int)) false a8 R O [bo] x.lines:=cT aG aj;rw[ao,aa];refine⟨fun _=>?_,fun h=>by omega⟩;refine lk db.p rfl gh.u db.i bD aP fun ci bE=>?_;obtain⟨bF,rfl,bd⟩:=Fw bE;refine bi db.i fun bG ck cl be bI=>?_;have cm:=be.size;refine bP (vs:=[bF,.int .i64 p.2]) db.i rfl rfl (by intro v ac;simp at ac;rcases ac with rfl|rfl <;> first|exact bd.cells.2|rfl) bI fun bJ bK cn bf=>?_;have bL:Ext O bJ:=be.then bK (fun r E he=>by have he:r=bG:=he;omega);intro cp aQ _ _;have Z:=bL.trans aQ;have z9:=Z.size;rw[ae db.p rfl,V (by kernel_rfl) ((bf.ext aQ).cell (o:=0+0) rfl),ae db.p rfl,V (by kernel_rfl) ((bf.ext aQ).cell (o:=0+1) rfl),ax,ae bS.p rfl,V (by kernel_rfl) (((aT.ext aj).ext Z).cell (o:=0+1) rfl),i7];have cq:=re aH bc.1;refine (ph (bd.ext Z) (by omega)).mono ?_;rintro cr cu _ ⟨ak,cw,cz,bM⟩;refine⟨.inl ak,?_⟩;have cA:=ak.size;refine (wy (c:=min p.2 K) ((ai.ext Z).ext ak).is bM.ls).mono ?_;rintro _ cB _ ⟨_,bO⟩;have bQ:cj (min p.2 K) K:=⟨ap,by have:=ap.1;omega,by omega⟩;obtain⟨rfl,bg,bR,bh,bj⟩:=bO ⟨bc.1,bQ⟩;rw[aF];refine bB _ ⟨(W.trans ((Z.trans ak).U _)).trans bg,bR,by have:=bh.2;omega,eg.put ((ai.ext Z).ext ak) bg bj,fun t=>?_⟩;rw[xh aV.1 aP,bh.cost ai.is.nodup bj.nodup];by_cases aB:t=p.1
  ·rw[if_pos aB,if_pos aB]
  ·rw[if_neg aB,if_neg aB,aO]
 ·rintro O bA ⟨W,D,bb,ai,aO⟩;have aj:Ext w O:=aM.then W (fun r E he=>by have he:r=m:=he;omega);have bT:Ext aW O:=a6.then W (fun r E he=>by have he:r=m:=he;omega);have bC:=W.size;rw[ao,aa];refine⟨fun h=>by omega,fun _=>?_⟩;rw[ae bp.p rfl,V (by kernel_rfl) ((X.ext bT).cell (o:=0+0) rfl)];refine (ph ((jH h1).ext aj) (by omega)).mono ?_;rintro aC cC _ ⟨aD,bU,cD,al⟩;have z12:=aD.size;rw[cI (cs:=#[aC,.pointer (some ⟨gT,0,none⟩)]) (by obtain⟨_,_,_,rfl⟩:=ct al.ls;kernel_rfl)];have bW:Ext aZ O:=((az.trans ag).trans aA).then W (fun r E he=>by have he:r=m:=he;omega);refine bP (vs:=[aC,.pointer (some ⟨gT,0,none⟩)]) bN.i rfl rfl (by intro v ac;simp at ac;rcases ac with rfl|rfl <;> first|exact al.ls.cells.2|rfl) ((aw.ext bW).ext aD) fun bk aR cE bX=>?_;rw[eo bN.p bN.i rfl bX.range];have bY:eg bk gT m sv gs x.sizes K (min x.other K) D:=(ai.ext aD).U aR (fun he=>by have he:gT=Y:=he;omega) (fun he=>by have he:m=Y:=he;omega) (fun r E he=>by have he:r=Y:=he;have:=a2 r E;omega);have bZ:am .i64 ab bk bU aC x.scope:=aX al aR fun r E he=>by have he:r=Y:=he;have:=(bw al E).1;omega
  refine⟨(aj.trans aD).then aR (fun r E he=>by have he:r=Y:=he;omega),_,(x.scope,⟨x.sizes,K,min x.other K,D⟩),rfl,rfl,?_,rfl,rfl,rfl,rfl,bb,fun t=>?_⟩
  ·exact⟨[aC],[.pointer (some ⟨gT,0,none⟩)],a8,a8,rfl,fun _ h=>h,fun _ h=>h,fun _ _ h _=>h,mY bZ fun r E=>by have:=(bw al E).1;show w.heap.size≤r;omega,
    ⟨gT,m,sv,gs,rfl,bY,by show w.heap.size≤gT;omega,by show w.heap.size≤m;omega,fun r E=>by have:=a2 r E;show w.heap.size≤r;omega⟩⟩
  ·rw[aO,xg]
theorem Fy {S R:an} {w:x2} {cs:List x1} {f:fc} (h:ay.rep false S R w cs f):ay.rep (α:=fc) true a8 R w cs f:=by
 obtain⟨c,d,A,B,rfl,h1,O,_,E,J⟩:=h;exact⟨c,d,a8,a8,rfl,fun _ h=>h,fun _ h=>h,fun _ _ h _=>h,E,J⟩
def pj (k:Int) (E:List bH) (J:List fc):Prop:=J.length=E.length∧ ∀ (i:Nat) x f,E[i]? =some x→J[i]? =some f→m8 k x f
set_option maxHeartbeats 4000000 in
theorem Fz {w:x2} {E:Nat} {m:Bool} {S R:an} {aD au aN:x1} {K:Int} {J:List bH} {a1:x2→Prop} (a2:ad w E bS [aD,.int .i64 K,au,.slice none 0 0])
  (bm:ay.rep m S R w [aN] (show List fp from J.map fb)) (bn:∀ r,S r∨R r→r≠E) (bo:∀ x∈J,pi K x) (cb:J.length≤256)
  (bq:∀ w' Z,∀ W:List fc,af (fun r=>r=E) w w'→ad w' E bS [aD,.int .i64 K,au,Z]→Seen (fun r=>w.heap.size≤r) w' [Z] W→pj K J W→a1 w'):
  bV (.int .i64 0) w fun aO aj br=>
   O x5 (aB .lss ab false false aO (.int .i64 (J.length:Int))) aj fun bt=>
   Split bt (O x5 (j4 gJ aN aO) aj fun bu=>
   O x5 (x7 bp bu) aj fun bw=>
   aA x5 (Instr.alloc bp true (.tuple #[])) aj fun x bx=>
   aA x5 (o7 bp x bw) bx fun(_:Unit) bz=>
   dj bz fun ai=>
   O x5 (bk (.pointer (some ⟨E,0,none⟩))) ai fun ak=>
   O x5 (x8 bS ak 3) ai fun al=>
   O x5 (x7 cP al) ai fun aP=>
   O x5 (x7 bp x) ai fun bA=>
   ah x5 qt [(.pointer (some ⟨E,0,none⟩)),bA] ai fun bB am=>
    (Ext ai am∨bL x5 (x7 cP al) aP am∧bL x5 (x8 bS ak 3) al am∧bL x5 (bk (.pointer (some ⟨E,0,none⟩))) ak am∧True)∧
   aA x5 (j9 cP 1 #[(0,bB)]) am fun bC ap=>
    (Ext ai ap∨bL x5 (x7 cP al) aP ap∧bL x5 (x8 bS ak 3) al ap∧bL x5 (bk (.pointer (some ⟨E,0,none⟩))) ak ap∧True)∧
    aA x5 (l5 #[cP,cP] cP #[aP,bC]) ap fun bD aQ=>
     O x5 (bk (.pointer (some ⟨E,0,none⟩))) aQ fun bE=>
     O x5 (x8 bS bE 3) aQ fun bF=>
     aA x5 (o7 cP bF bD) aQ fun(_:Unit) a6=>
     O x5 (aB .add ab false true aO (.int .i64 1)) a6 fun bG=>
   br bG a6) (a1 aj):=by
 have cc:=a2.lt;have cd:(J.map fb).length=J.length:=by simp
 refine bV.range J.length (fun i X=>af (fun r=>r=E) w X∧ ∃ Z,∃ W:List fc,∃ A R':an,ad X E bS [aD,.int .i64 K,au,Z]∧de A R' X [Z] W∧(∀ r,A r→w.heap.size≤r∧r<X.heap.size)∧(∀ r,R' r→w.heap.size≤r∧¬A r∧r<X.heap.size)∧pj K (J.take i) W) (by omega)
  ⟨af.refl _ _,_,[],a8,a8,a2,im,fun _ h=>h.elim,fun _ h=>h.elim,rfl,fun i x f h=>by simp at h⟩ ?_ ?_
 rotate_left
 ·rintro X bI ⟨aq,Z,W,A,R',av,aR,ac,aw,aE⟩;rw[o3] at aE;rw[ao,aa];refine⟨fun h=>by omega,fun _=>bq X Z W aq av (oh aR fun r _ h=>?_) aE⟩;exact h.elim (fun h=>(ac r h).1) fun h=>(aw r h).1
 rintro i X bI hi ⟨aq,Z,W,A,R',av,aR,ac,aw,a7,aE⟩ bJ;obtain⟨x,aS⟩:∃ x,J[i]? =some x:=⟨_,y0 hi⟩;have bK:=bo x (x4 aS);have ce:=aq.size;rw[o5] at a7;have bM:ay.rep m S R X [aN] (show List fp from J.map fb):=ay.U bm aq fun r _ h he=>bn r h he;rw[ao,aa];refine⟨fun _=>?_,fun h=>by omega⟩;refine lk (α:=fp) (a:=fb x) bp.p rfl gJ.u bp.i bM (by show (J.map fb)[i]? =_;rw[x6,aS];rfl) fun cs aT=>?_;have ba:cs.length=4:=ay.len aT;have bO:Seen (fun r=>S r∨R r) X cs (fb x):=oh aT fun r _ h=>h;refine bi bp.i fun aJ cg ch bb bQ=>?_;have ci:=bb.size;refine bP (vs:=cs) bp.i ba rfl (ay.one aT) bQ fun bR bT cj bU=>?_;have bW:Ext X bR:=bb.then bT (fun r Y he=>by have he:r=aJ:=he;omega);intro aG bc _ _;have az:=bW.trans bc;have z4:=az.size;rw[ax,ae bS.p rfl,V (by kernel_rfl) ((av.ext az).cell (o:=0+3) rfl),bj bp.p bp.i ba (bU.ext bc).range];refine (Fx (av.ext az) (cT bO az) bK).mono ?_;rintro _ aH _ ⟨aI,bd,f,rfl,ck,ag,bX⟩;have z5:=aI.size;refine⟨.inl aI,?_⟩;have be:=Fy ag;have bY:=az.trans aI;refine kp (α:=fc) (a:=f) (cs:=bd) (A:=a8) (R:=dD aG.heap.size) cP.u bN.i (by decide) (by
  obtain⟨c,d,cl,cm,he,_,_,_,aK,bZ⟩:=ag;have aK:ay.rep (α:=List Int) false a8 _ aH c f.1:=aK;obtain⟨u,rfl⟩:=W8.1 (show c.length=1 from ay.len aK);obtain⟨cn,cp,cq,cr,rfl,_⟩:=bZ;obtain⟨_,_,_,rfl⟩:=jf aK;cases he;rfl) be fun u aU aL _ hu=>?_
 have ct:=aL.size;refine⟨.inl (aI.trans aL),?_⟩;have aV:=bY.trans aL;have b1:de A (fun r=>R' r∨(aG.heap.size≤r∧r<aH.heap.size)) aU [Z] W:=cT (ay.mono aR (fun _ _ h=>h) fun _ _ h=>.inl h) aV;have b2:de a8 (fun r=>R' r∨(aG.heap.size≤r∧r<aH.heap.size)) aU bd f:=cT (ay.mono be (fun _ _ h=>h) fun r Y h=>.inr ⟨h,Y⟩) aL;refine ll (α:=fc) (a:=f) (A:=a8) cP.u bN.i rfl b1 hu b2 (fun r _ bf h=>?_) (by omega) (by omega) fun bg b3 aW aX=>?_
 ·rcases h with h|h|h
  ·exact h
  ·exact (aw r h).2.1 bf
  ·have:=(ac r bf).2;omega
 have cu:=aX.size;rw[ax,ae bS.p rfl];have b4:=(av.ext aV).U aX (fun he=>by have:=(ac _ he).1;omega);refine aZ (g:=E) (o:=3) cP.i (oi aW) (qG aW) b4 (by simp) fun b5 bh cw aY=>?_;have aY:ad b5 E bS [aD,.int .i64 K,au,bg]:=aY;rw[aF];have b6:=jE aW;refine bJ _ ⟨(fk (aq.trans (aV.U _)) aX fun r Y he=>by have:=(ac _ he).1;omega).trans bh,bg,W++[f],fun r=>((A r∨a8 r∨aU.heap.size≤r)∧r<b3.heap.size),fun r=>R' r∨(aG.heap.size≤r∧r<aH.heap.size),aY,ay.U b6 bh fun r _ h he=>?_,fun r Y=>?_,fun r Y=>?_,?_,fun j b7 b8 aM aC=>?_⟩
 ·have he:r=E:=he;rcases h with h|h|h
  ·rcases h.1 with h1|h1|h1
   ·have:=(ac _ h1).1;omega
   ·exact h1
   ·omega
  ·have:=(aw r h).1;omega
  ·omega
 ·have cz:=Y.2;rcases Y.1 with h1|h1|h1
  ·have:=(ac _ h1).1;omega
  ·exact h1.elim
  ·omega
 ·rcases Y with Y|Y
  ·have bl:=aw r Y;refine⟨bl.1,fun h=>?_,by omega⟩;rcases h.1 with h1|h1|h1
   ·exact bl.2.1 h1
   ·exact h1
   ·omega
  ·refine⟨by omega,fun h=>?_,by omega⟩;rcases h.1 with h1|h1|h1
   ·have:=(ac _ h1).2;omega
   ·exact h1
   ·omega
 ·rw[r8,o5,a7];simp;omega
 ·have b9:=(x3.1 aC).1;rw[r8,U2] at b9;rw[c7 (by omega)] at aM;by_cases ca:j<W.length
  ·rw[Z0 ca] at aC;exact aE j b7 b8 (by rw[c7 (by omega)];exact aM) aC
  ·rw[Z2 (by omega),show j-W.length=0 by omega] at aC;rw[show j=i by omega,aS] at aM;cases aC;cases aM;exact bX
def iC (w:x2) (O:Nat) (f:bx):Prop:=∃ au E U,∃ J:List fc,ad w O bS [bb f.name,.int .i64 f.k,au,E]∧am .i64 ab w U au f.sizes∧Seen uy w [E] J∧pj f.k f.funs J
theorem iC.ext {w w':x2} {E:Nat} {f:bx} (h:iC w E f) (J:Ext w w'):iC w' E f:=by
 obtain⟨au,O,U,V,h1,W,X,Y⟩:=h;exact⟨au,O,U,V,h1.ext J,W.ext J,cT X J,Y⟩
def xr (w:x2) (res:Option bx) (v:x1) (w':x2):Prop:=Ext w w'∧match res with
 |none=>∃ n e:Int,v= .tuple #[.pointer none,.int .i64 n,.int .i64 e]∧e≠0
 |some f=>∃ E,∃ n:Int,v= .tuple #[.pointer (some ⟨E,0,none⟩),.int .i64 n,.int .i64 0]∧iC w' E f
structure FA (clean:Bool) (so:Option aw) (name:List Int) (k:Int) (sizes:List Int) (acc:List fp) (res:Option bx):Prop where
 lG:∀ s,so=some s→s.toks=[]→clean=true→s.big=false→ ∃ fs,acc=fs.map fb∧res=some ⟨name,k,sizes,fs⟩∧(∀ x∈fs,pi k x)∧fs.length≤256∧sizes.length≤1000000
 bad:res≠none→ ∃ s,so=some s∧s.toks=[]∧clean=true∧s.big=false
set_option maxHeartbeats 8000000 in
theorem FB {w0 w:x2} {g gs:Nat} {A B S R:an} {m clean:Bool} {so:Option aw} {name sizes:List Int} {k:Int} {acc:List fp} {res:Option bx} {au aQ p:x1} {bK:List Int} {Q:x1→x2→Prop}
  (aY:fa w g gs A B clean so) (ao:FA clean so name k sizes acc res) (bM:aC .i64 w au sizes) (bN:∀ r,leads au r→r≠g∧r≠gs) (bO:ay.rep m S R w [aQ] acc) (br:∀ r,S r∨R r→r≠g∧r≠gs∧r<w.heap.size)
  (dm:so=none→True) (dp:g<w.heap.size) (dq:gs<w.heap.size) (bP:af (fun r=>w0.heap.size≤r) w0 w) (dr:w0.heap.size≤g) (ds:w0.heap.size≤gs) (bQ:aC .u8 w0 p bK)
  (aE:∀ v w',xr w0 res v w'→Q v w'):
  bR (α:=x2→Prop) (fun(E:x2)=>
  O x5 (bk (.pointer (some ⟨g,0,none⟩))) E fun bT=>
  O x5 (x8 bC bT 1) E fun bU=>
  O x5 (x8 dG bU 0) E fun bW=>
  O x5 (x7 gg bW) E fun bX=>
  O x5 (aB .neq gg false true bX (.int .i64 0)) E fun bY=>
  Split bY (dj E fun ag=>
   O x5 (bk (.pointer (some ⟨g,0,none⟩))) ag fun b1=>
   O x5 (x8 bC b1 1) ag fun b2=>
   O x5 (x8 dG b2 2) ag fun b3=>
   O x5 (x7 ab b3) ag fun b4=>
   O x5 (bk (.pointer (some ⟨g,0,none⟩))) ag fun b5=>
   O x5 (x8 bC b5 1) ag fun b6=>
   O x5 (x8 dG b6 0) ag fun b7=>
   O x5 (x7 gg b7) ag fun b8=>
   Q (.tuple #[(.pointer none),b4,b8]) ag)
   (O x5 (bk (.pointer (some ⟨g,0,none⟩))) E fun b9=>
   O x5 (x8 bC b9 1) E fun ca=>
   O x5 (x8 dG ca 1) E fun cb=>
   O x5 (x7 gg cb) E fun cc=>
   O x5 (aB .neq gg false true cc (.int .i64 0)) E fun cd=>
   Split cd (dj E fun ai=>
   O x5 (bk (.pointer (some ⟨g,0,none⟩))) ai fun ce=>
   O x5 (x8 bC ce 1) ai fun cg=>
   O x5 (x8 dG cg 3) ai fun ch=>
   O x5 (x7 ab ch) ai fun ci=>
   O x5 (bk (.pointer (some ⟨g,0,none⟩))) ai fun cj=>
   O x5 (x8 bC cj 1) ai fun ck=>
   O x5 (x8 dG ck 1) ai fun cl=>
   O x5 (x7 gg cl) ai fun cm=>
   Q (.tuple #[(.pointer none),ci,cm]) ai)
   (ah x5 tU [au] E fun cn bt=>
  O x5 (Instr.build bS #[(0,bb name),(1,.int .i64 k),(2,cn)]) bt fun cp=>
  aA x5 (Instr.box bS cp) bt fun ap bu=>
  O x5 (Z8 #[gJ] ab #[aQ]) bu fun cr=>
  bV (.int .i64 0) bu fun aZ aq cu=>
   O x5 (aB .lss ab false false aZ cr) aq fun cw=>
   Split cw (O x5 (j4 gJ aQ aZ) aq fun cz=>
   O x5 (x7 bp cz) aq fun cA=>
   aA x5 (Instr.alloc bp true (.tuple #[])) aq fun x cB=>
   aA x5 (o7 bp x cA) cB fun(_:Unit) cC=>
   dj cC fun am=>
   O x5 (bk ap) am fun aF=>
   O x5 (x8 bS aF 3) am fun aG=>
   O x5 (x7 cP aG) am fun a1=>
   O x5 (x7 bp x) am fun cD=>
   ah x5 qt [ap,cD] am fun cE aH=>
    (Ext am aH∨bL x5 (x7 cP aG) a1 aH∧bL x5 (x8 bS aF 3) aG aH∧bL x5 (bk ap) aF aH∧True)∧
   aA x5 (j9 cP 1 #[(0,cE)]) aH fun cF aJ=>
    (Ext am aJ∨bL x5 (x7 cP aG) a1 aJ∧bL x5 (x8 bS aF 3) aG aJ∧bL x5 (bk ap) aF aJ∧True)∧
    aA x5 (l5 #[cP,cP] cP #[a1,cF]) aJ fun cG a2=>
     O x5 (bk ap) a2 fun cH=>
     O x5 (x8 bS cH 3) a2 fun cJ=>
     aA x5 (o7 cP cJ cG) a2 fun(_:Unit) bw=>
     O x5 (aB .add ab false true aZ (.int .i64 1)) bw fun cK=>
   cu cK bw)
    (O x5 (Z8 #[bZ] ab #[p]) aq fun cL=>
  Q (.tuple #[ap,cL,(.int .i64 0)]) aq)))) fun aR=>
 ah x5 ih [(.pointer (some ⟨g,0,none⟩))] w fun cM aK=>
 Split cM (O x5 (bk (.pointer (some ⟨g,0,none⟩))) aK fun cN=>
  O x5 (x8 bC cN 0) aK fun cO=>
  O x5 (x7 n3 cO) aK fun cQ=>
  ah x5 qs [cQ] aK fun a6 al=>
  O x5 (c9 a6 0) al fun dt=>
  O x5 (c9 a6 1) al fun bz=>
  O x5 (c9 a6 2) al fun a8=>
  O x5 (aB .eql gg false true a8 (.int .i64 0)) al fun cR=>
  Split cR (ah x5 ke [(.pointer (some ⟨g,0,none⟩)),(.int .i64 4),bz] al fun du cS=>
  aR cS)
  (O x5 (aB .eql gg false true a8 (.int .i64 11)) al fun cU=>
  Split cU (ah x5 ke [(.pointer (some ⟨g,0,none⟩)),a8,bz] al fun dv cV=>
   aR cV)
   (aR al)))
  (aR aK):=by
 refine dd (fun E=>af (fun r=>r=g∨r=gs) w E∧ ∃ (e big aj ak told:Int) (sv:x1),ad E g bC (ee gs e big aj ak told sv)∧((e≠0∧res=none)∨(e=0∧ ∃ s,so=some s∧s.toks=[]∧clean=true∧(s.big=true↔big≠0)))) ?_ ?_
 rotate_left
 ·intro cW ba;refine (w1 aY).mono ?_;rintro _ aS _ ⟨rfl,aL⟩;cases so with
  |none=>
   rw[show (none:Option aw).isSome=false from rfl,aP];obtain⟨e,big,aj,ak,told,sv,W,bd⟩:=aY.ext aL;refine ba _ ⟨aL.U _,e,big,aj,ak,told,sv,W,.inl ⟨bd,?_⟩⟩;cases Z:res with
   |none=>rfl
   |some f=>obtain⟨s,h,_⟩:=ao.bad (by rw[Z];simp);cases h
  |some s=>
   rw[show (some s:Option aw).isSome=true from rfl,bh];have cX:cq aS g gs A B s clean:=aY.ext aL;obtain⟨aT,cY,cZ,big,aj,ak,told,sv,W,bd,c0⟩:=id cX;rw[ax,ae bC.p rfl,V (by kernel_rfl) (W.cell (o:=0+0) rfl)];refine (mI cY).mono ?_;rintro v aM _ ⟨az,ac⟩;have c1:(s.toks≠[]∨clean=false)→res=none:=fun J=>by
    cases Z:res with
    |none=>rfl
    |some f=>
     obtain⟨s',h,aN,bA,_⟩:=ao.bad (by rw[Z];simp);cases h;rcases J with J|J
     ·exact absurd aN J
     ·rw[J] at bA;cases bA
   have aU:∀ X,af (fun r=>r=g) aM X→dn X g gs A B→(s.toks≠[]∨clean=false)→cW X:=fun X aO aU J=>by
    obtain⟨_,e,big,aj,ak,told,sv,l,c2,c3,_⟩:=aU;exact ba _ ⟨((aL.U _).trans (az.mono fun r _ h=>.inr h)).trans (aO.mono fun r _ h=>.inl h),e,big,aj,ak,told,sv,c2,.inl ⟨c3.1,c1 J⟩⟩
   have bf:=W.U az aT.1;have bB:=ay.U c0 az fun r _ h aN=>by
    have aN:r=gs:=aN;subst aN;rcases h with h|h
    ·exact aT.2.2.1 h
    ·exact h.1 (.inr (.inl rfl))
   have bD:s.shared.length≤100000:=by have:=cZ.2.2;omega
   cases aD:s.toks with
   |cons t l=>
    rw[aD] at ac;obtain⟨dw,n,rfl⟩:=ac;rw[av (v:=bb t) rfl,av (v:=.int .i64 n) rfl,av (v:=.int .i64 0) rfl,bc,aa];refine⟨fun _=>?_,fun h=>absurd rfl h⟩;refine (oL (aT.U az) bf bB (by omega) bD).mono ?_;rintro _ X _ ⟨aO,bg⟩;exact aU X aO bg (.inl (by rw[aD];simp))
   |nil=>
    rw[aD] at ac;obtain⟨n,rfl⟩:=ac;rw[av (v:=bb []) rfl,av (v:=.int .i64 n) rfl,av (v:=.int .i64 (if clean then 2 else 11)) rfl,bc,aa];refine⟨fun h=>by cases clean <;> simp at h,fun _=>?_⟩;rw[bc,aa];cases aV:clean with
    |true=>
     subst aV;refine⟨fun h=>by simp at h,fun _=>ba _ ⟨(aL.U _).trans (az.mono fun r _ h=>.inr h),0,big,aj,ak,told,sv,bf,.inr ⟨rfl,s,rfl,aD,rfl,bd.1⟩⟩⟩
    |false=>
     subst aV;refine⟨fun _=>?_,fun h=>absurd rfl h⟩;refine (oL (aT.U az) bf bB (by simp) bD).mono ?_;rintro _ X _ ⟨aO,bg⟩;exact aU X aO bg (.inr rfl)
 ·rintro aS ⟨aW,e,big,aj,ak,told,sv,W,c4⟩;have dx:=aW.size;have bi:Ext w0 aS:=(bP.ext fun r Z h=>by omega).then aW (fun r Z h=>by rcases h with h|h <;> omega);rw[ax,ae bC.p rfl,ae dG.p rfl,V (by kernel_rfl) (W.cell (o:=0+1+0) rfl),be,aa];rcases c4 with⟨he,bj⟩|⟨rfl,s,rfl,aD,aV,bE⟩
  ·refine⟨fun _=>?_,fun h=>absurd he h⟩;intro aM Y _ _;rw[ax,ae bC.p rfl,ae dG.p rfl,V (by kernel_rfl) ((W.ext Y).cell (o:=0+1+2) rfl),ax,ae bC.p rfl,ae dG.p rfl,V (by kernel_rfl) ((W.ext Y).cell (o:=0+1+0) rfl)];rw[bj] at aE;exact aE _ _ ⟨bi.trans Y,aj,e,rfl,he⟩
  ·refine⟨fun h=>absurd rfl h,fun _=>?_⟩;rw[ax,ae bC.p rfl,ae dG.p rfl,V (by kernel_rfl) (W.cell (o:=0+1+1) rfl),be,aa];refine⟨fun J=>?_,fun J=>?_⟩
   ·have bj:res=none:=by
     cases Z:res with
     |none=>rfl
     |some f=>
      obtain⟨s',h,_,_,bF⟩:=ao.bad (by rw[Z];simp);cases h;rw[bE.2 J] at bF;cases bF
    intro aM Y _ _;rw[ax,ae bC.p rfl,ae dG.p rfl,V (by kernel_rfl) ((W.ext Y).cell (o:=0+1+3) rfl),ax,ae bC.p rfl,ae dG.p rfl,V (by kernel_rfl) ((W.ext Y).cell (o:=0+1+1) rfl)];rw[bj] at aE;exact aE _ _ ⟨bi.trans Y,ak,big,rfl,J⟩
   ·have c5:s.big=false:=by
     cases c6:s.big with
     |false=>rfl
     |true=>exact absurd (bE.1 c6) J
    obtain⟨bl,rfl,rfl,c7,c8,da⟩:=ao.lG s rfl aD aV c5;have db:aC .i64 aS au sizes:=hg bM aW fun r Z a n c ac ao=>by
     have:=bN r ⟨a,n,c,ac,ao⟩;exact Z.elim this.1 this.2
    refine (ph db da).mono ?_;rintro bm aM _ ⟨Y,dc,dy,bn⟩;have dz:=Y.size;rw[cI (cs:=#[bb name,.int .i64 k,bm,.slice none 0 0]) (by obtain⟨_,_,_,rfl⟩:=ct bn.ls;kernel_rfl)];refine a7 fun bo X dA bq aX=>?_;have aX:ad X bo bS [bb name,.int .i64 k,bm,.slice none 0 0]:=by obtain⟨_,_,_,rfl⟩:=ct bn.ls;exact aX
    have bG:ay.rep m S R X [aQ] (show List fp from bl.map fb):=cT (cT (ay.U bO aW fun r _ h he=>by have:=br r h;exact he.elim this.1 this.2.1) Y) bq;have de:(bl.map fb).length=bl.length:=by simp
    rw[io gJ.u bG,de];refine Fz aX bG (fun r h=>by have:=br r h;omega) c7 c8 fun bH df dg dh di dk dl=>?_;have dC:=aX.lt;have z3:=bq.size;have bI:Ext aM bH:=bq.then dh (fun r Z h=>by have h:r=bo:=h;omega);have bJ:Ext w0 bH:=(bi.trans Y).trans bI;rw[aI bZ.u (bQ.ext bJ)];exact aE _ _ ⟨bJ,bo,_,rfl,bm,df,dc,dg,di,bn.ext bI,Ct dk,dl⟩
theorem xt {α:Type} {f:List α→aw→Option (α×aw)} {n:Nat} {acc:List α} {s:aw}:dX f (n+1) acc (some s)=match f acc s with
  |none=>none
  |some (a,s')=>dX f n (acc++[a]) (some s'):=by
 show b1 f (n+1) acc s=_;simp only[b1];cases f acc s <;> rfl
set_option maxHeartbeats 4000000 in
theorem FC {w:x2} {g gs N:Nat} {A B:an} {s:Option aw} {clean:Bool} {most:Int} {ay:x1→x2→Prop} (h:cw w g gs A B clean s) (aZ:(N:Int)≤ak)
  (az:∀ au w' l so E,af (ba g gs A) w w'→cw w' g gs A B clean so→am .i64 aj w' E au l→w.heap.size≤E→l.length≤100001→(∀ q,dX (ep most) N [] s=some q→so=some q.2∧l=q.1)→(dX (ep most) N [] s=none→so=none)→ay au w'):
 bM (.slice none 0 0) (.int .i64 0) w fun sizes i ac k=>
  bR (α:=x1→x2→Prop) (fun(a1:x1) (aC:x2)=>
   Split a1 (ah x5 kd [.pointer (some ⟨g,0,none⟩),(.int .i64 1),.int .i64 most] aC fun aD Y=>
  O x5 (c9 aD 0) Y fun aE=>
  O x5 (c9 aD 1) Y fun a2=>
  O x5 (aB .gtr aj false true aE (.int .i64 32)) Y fun a6=>
  ah x5 mj [.pointer (some ⟨g,0,none⟩),a6,a2] Y fun bO a7=>
  aA x5 (j9 ap 1 #[(0,aE)]) a7 fun a8 bb=>
  aA x5 (l5 #[ap,ap] ap #[sizes,a8]) bb fun bc aG=>
  O x5 (aB .add aj false true i (.int .i64 1)) aG fun bd=>
  k bc bd aG) (ay sizes aC)) fun ad=>
  O x5 (aB .lss aj false false i (.int .i64 (N:Int))) ac fun be=>
  Split be (ah x5 ih [.pointer (some ⟨g,0,none⟩)] ac fun bf bg=>
  ad bf bg)
   (ad (.bool false) ac):=by
 obtain⟨bP,aH,bS,bi,bj⟩:=h.side;have gT:∀ r,ba g gs A r→r<w.heap.size:=bi;unfold ak at aZ;generalize bk:dX (ep most) N [] s=aI at az;refine⟨fun out ae W=>∃ (i:Nat) (l:List Int) (so:Option aw) (E:Nat),ae= .int .i64 (i:Int)∧i≤N∧af (ba g gs A) w W∧am .i64 aj W E out l∧w.heap.size≤E∧cw W g gs A B clean so∧aI=dX (ep most) (N-i) l so∧l.length≤100001∧ ∀ st,so=some st→l.length+st.toks.length≤100000,
  fun _ ae _=>N-(bl ae).toNat,⟨0,[],s,w.heap.size,rfl,Z1 _,af.refl _ _,am.nil _ _ _ _,u9 _,h,bk.symm,by simp,fun st bm=>?_⟩,?_⟩
 ·subst bm;have:=h.words;simpa using this
 rintro out _ W ⟨i,l,so,E,rfl,bT,ag,aJ,bn,aK,Z,bo,aM⟩;refine aL (fun v aN=>Ext W aN∧((v= .bool true∧i<N∧ ∃ st,so=some st)∨(v= .bool false∧(so=none∨i=N)))) ?_ ?_
 rotate_left
 ·intro ad ai;rw[ao,aa];refine⟨fun bp=>?_,fun bU=>ai _ _ ⟨Ext.refl _,.inr ⟨rfl,.inr (by omega)⟩⟩⟩;refine (lK aK).mono ?_;rintro _ aN _ ⟨rfl,aQ⟩;cases so with
  |none=>exact ai _ _ ⟨aQ,.inr ⟨rfl,.inl rfl⟩⟩
  |some st=>exact ai _ _ ⟨aQ,.inl ⟨rfl,by omega,st,rfl⟩⟩
 rintro _ bq ⟨X,br⟩;have aR:=aJ.ext X;have aS:=aK.ext X;rcases br with⟨rfl,bp,st,rfl⟩|⟨rfl,bt⟩
 rotate_left
 ·rw[aP];have aU:aI=so.map fun st=>(l,st):=by
   rcases bt with rfl|rfl
   ·exact Z
   ·rw[X6] at Z;rw[Z];cases so <;> rfl
  refine az out bq l so E (ag.trans (X.U _)) aS aR bn bo (fun q J=>?_) fun aV=>?_
  ·rw[aU] at J;cases so with
   |none=>cases J
   |some st=>cases J;exact⟨rfl,rfl⟩
  ·rw[aU] at aV;cases so with
   |none=>rfl
   |some st=>cases aV
 rw[bh];have aM:=aM st rfl;refine (je (s:=some st) aS).mono ?_;rintro _ bV _ ⟨al,z,at_,rfl,bu,bW⟩;obtain⟨aq,bx⟩:=al.of;rw[av (v:=.int .i64 z) rfl,av (v:=.int .i64 at_) rfl,bA];refine (mW bx).mono ?_;rintro _ bX _ al;obtain⟨ax,bz⟩:=al.of;refine dC ap.u aj.i rfl fun a bY bB bZ ab bC=>?_;have b1:=ag.size;have b2:=X.size;have z3:=aq.size;have z4:=ax.size;have z5:=ab.size;have aW:∀ r,leads out r→¬ba g gs A r:=fun r V bD=>by have:=gT r bD;have:=(bw aJ V).1;omega
 have bE:=aX (aX aR aq aW) ax aW;refine gM ap.u aj.i rfl (bE.ext ab) bC.ls (by simp;omega) (by simp;omega) fun b3 bF bG b4 bH aY=>?_;rw[aF,wrap_i64 (by omega) (by omega)];have bI:af (ba g gs A) w bB:=((((ag.trans (X.U _)).trans aq).trans ax).trans (ab.U _));have bJ:af (ba g gs A) w bG:=fk bI aY fun r V he=>by have he:r=E:=he;omega
 have bK:∀ r,ba g gs A r→¬(fun r=>r=E) r:=fun r V he=>by have:=gT r V;have he:r=E:=he;omega
 have bL:∀ r,bQ g gs A B r→¬(fun r=>r=E) r:=fun r V he=>by have:=bj r V.2;have he:r=E:=he;omega
 refine⟨⟨i+1,l++[z],_,bF,rfl,by omega,bJ,bH,by omega,(bz.ext ab).U aY bK bL,?_,by simp;omega,fun b5 bN=>?_⟩,by simp only[bl];omega⟩
 ·rw[Z,show N-i=(N-(i+1))+1 by omega,xt];unfold ep;cases J:aT 1 most st with
  |none=>have e:aO 1 most (some st)=none:=J;rw[e];rfl
  |some q=>
   have e:aO 1 most (some st)=some q:=J;have:=bu q e;subst this;rw[e];rfl
 ·obtain⟨b6,aH,rfl⟩:=b8.1 bN;obtain⟨q,J,rfl⟩:=b8.1 aH;have h1:=(cN (n:=q.1) (s':=q.2) J).1;simp only[r8,U2];show l.length+1+q.2.toks.length≤100000;omega
theorem FD {sizes:List Int} {acc:List (List Int×Int)} {s s':aw} {a:List Int×Int} (h:cV sizes acc s=some (a,s')):s'.told=s.told∧s'.big=s.big:=by
 obtain⟨_,_,_,E⟩:=lA h;exact⟨E.eqs.1,E.eqs.2.1⟩
theorem FE {sizes:List Int} {s s':aw} {l:List (List Int×Int)} (hi:cX s) (h:cW sizes s=some (l,s')):cX s'∧(s.big=true→s'.big=true):=by
 have e:=wX sizes (some s);rw[show gp sizes (some s)=cW sizes s from rfl,h] at e;cases U:aO (-ak) ak (some s) with
 |none=>rw[U] at e;cases e
 |some q=>
  obtain⟨n,J⟩:=q;rw[U] at e;simp only at e;have h1:=(cN (n:=n) (s':=J) U).eqs;have X:cX J:=fun E=>by rw[h1.1];rw[h1.2.1] at E;exact hi E
  split at e
  ·cases W:J.shared[(-n-1).toNat]? with
   |none=>rw[W] at e;cases e
   |some q=>
    obtain⟨z,l'⟩:=q;rw[W] at e;simp only at e;split at e
    ·cases e;exact⟨X,fun E=>by rw[h1.2.1];exact E⟩
    ·cases e
  ·have:=hU (f:=cV sizes) (fun acc t=>t.told=(hq n J).told∧t.big=(hq n J).big) (fun acc t a Y ⟨V,O⟩ g=>by
    have:=FD g;exact⟨by rw[this.1,V],by rw[this.2,O]⟩) n.toNat [] _ l s' ⟨rfl,rfl⟩ e.symm
   obtain⟨⟨V,O⟩,_⟩:=this;refine⟨fun E=>by rw[V];rw[O] at E;exact EX n J E,fun E=>?_⟩;rw[O];show (J.big||_)=true;rw[h1.2.1,E];rfl
theorem FF {all:List Int} {s s':aw} {x:bH} (hi:cX s) (h:ck all s=some (x,s')):cX s'∧s'.toks.length<s.toks.length:=by
 unfold ck at h;cases U:aT (-ak) ak s with
 |none=>rw[U] at h;cases h
 |some q=>
 obtain⟨a,ac⟩:=q;rw[U] at h;simp only at h;have t0:=cN U;cases h1:dJ all.length a.natAbs ac with
 |none=>rw[h1] at h;cases h
 |some q=>
 obtain⟨sc,J⟩:=q;rw[h1] at h;simp only at h;obtain⟨V,_⟩:=q5 h1;generalize sc.map (fun v=>all.getD v.toNat 0)=sizes at h;cases W:aT 0 ak (aQ (decide (6<a.natAbs)||cE sizes) J) with
 |none=>rw[W] at h;cases h
 |some q=>
 obtain⟨other,X⟩:=q;rw[W] at h;simp only at h;have Y:=cN W;have ad:cX X:=fun E=>by
  rw[Y.eqs.1];rw[Y.eqs.2.1] at E;have E:(J.big||_)=false:=E;have aa:=(V7.1 E).1;show J.told≤16384;rw[V.eqs.1,t0.eqs.1];rw[V.eqs.2.1,t0.eqs.2.1] at aa;exact hi aa
 cases O:cW sizes X with
 |none=>rw[O] at h;cases h
 |some q=>
 obtain⟨lines,Z⟩:=q;rw[O] at h;simp only[b9,V1] at h;obtain⟨_,rfl⟩:=h;have ae:=FE ad O;have ah:=w5 O;have ai:=t0.1;have aj:=V.1;have al:J.toks.length=X.toks.length+1:=Y.1;have ab:∀ t:aw,t.told=Z.told∧t.big=Z.big∧t.toks=Z.toks→cX t∧t.toks.length<s.toks.length:=fun t ⟨af,ag,a3⟩=>⟨fun E=>by rw[af];rw[ag] at E;exact ae.1 E,by rw[a3];omega⟩;split
 ·exact ab _ ⟨rfl,rfl,rfl⟩
 ·exact ab _ ⟨rfl,rfl,rfl⟩
theorem FG {S R:an} {w:x2} {cs:List x1} {x:fp} (h:ay.rep false S R w cs x):ay.rep (α:=fp) true a8 R w cs x∧(x1.agg cs.toArray).cells=cs.toArray:=by
 obtain⟨U,d1,X,Y,rfl,_,_,_,h1,V,d2,Z,aa,rfl,_,_,_,E,W,d3,ab,ac,rfl,_,_,_,O,J⟩:=h;have h1:ay.rep (α:=List Int) false a8 R w U x.1:=h1;have E:ay.rep (α:=List Int) false a8 R w V x.2.1:=E;have O:W=[.int .i64 x.2.2.1]:=O;have J:ay.rep (α:=List (List Int×Int)) false a8 R w d3 x.2.2.2:=J;refine⟨⟨U,_,a8,a8,rfl,fun _ h=>h,fun _ h=>h,fun _ _ h _=>h,h1,V,_,a8,a8,rfl,fun _ h=>h,fun _ h=>h,fun _ _ h _=>h,E,W,d3,a8,a8,rfl,fun _ h=>h,fun _ h=>h,fun _ _ h _=>h,O,J⟩,?_⟩;obtain⟨u,rfl⟩:=W8.1 (show U.length=1 from ay.len h1);obtain⟨v,rfl⟩:=W8.1 (show V.length=1 from ay.len E);obtain⟨y,rfl⟩:=W8.1 (show d3.length=1 from ay.len J);obtain⟨_,_,_,rfl⟩:=jf h1;obtain⟨_,_,_,rfl⟩:=jf E;obtain⟨_,_,_,rfl⟩:=jf J;subst O;rfl
set_option maxHeartbeats 8000000 in
theorem FH {w0 w:x2} {g gs c:Nat} {A B:an} {o:Option aw} {clean:Bool} {am:x1} {all:List Int} {a2:x1→x2→Prop} (a6:fa w g gs A B clean o) (hi:∀ s,o=some s→cX s) (bP:(c:Int)≤ak)
  (bS:aC .i64 w am all) (a7:∀ r,leads am r→r≠g∧r≠gs∧r<w.heap.size∧(o≠none→¬A r)) (bT:o≠none→ ∀ z∈all,1≤z∧z≤ak) (bU:all.length≤100001) (bV:dW w) (h1:1<w0.heap.size∧(o≠none→bQ g gs A B 1))
  (bb:af (fun r=>w0.heap.size≤r) w0 w) (bW:w0.heap.size≤g) (bX:w0.heap.size≤gs) (cK:g<w.heap.size∧gs<w.heap.size) (bY:o≠none→ ∀ r,A r→w0.heap.size≤r)
  (bc:∀ ap w' acc so Y W bd be,af (fun r=>w0.heap.size≤r) w0 w'→w.heap.size≤w'.heap.size→fa w' g gs Y W clean so→ay.rep (α:=List fp) true bd be w' [ap] acc→(∀ r,bd r∨be r→r≠g∧r≠gs∧r<w'.heap.size)→aC .i64 w' am all→
   (∀ q,dX (fun _ s=>ck all s) c [] o=some q→so=some q.2∧acc=q.1.map fb)→(dX (fun _ s=>ck all s) c [] o=none→so=none)→a2 ap w'):
 bM (.slice none 0 0) (.int .i64 0) w fun funs bf aR bZ=>
  bR (α:=x1→x2→Prop) (fun(b1:x1) (bg:x2)=>
   Split b1 (ah x5 tT [.pointer (some ⟨g,0,none⟩),am] bg fun b2 b3=>
  aA x5 (j9 gJ 1 #[(0,b2)]) b3 fun b4 b5=>
  aA x5 (l5 #[gJ,gJ] gJ #[funs,b4]) b5 fun b6 bi=>
  O x5 (aB .add aj false true bf (.int .i64 1)) bi fun b7=>
  bZ b6 b7 bi) (a2 funs bg)) fun bj=>
  O x5 (aB .lss aj false false bf (.int .i64 (c:Int))) aR fun b9=>
  Split b9 (ah x5 ih [.pointer (some ⟨g,0,none⟩)] aR fun ca cb=>
  bj ca cb)
   (bj (.bool false) aR):=by
 unfold ak at bP;generalize J:dX (fun _ s=>ck all s) c [] o=bk at bc;have bm:∀ s,o=some s→o≠none:=fun s h=>by rw[h];simp
 refine⟨fun ap aS ag=>∃ (i:Nat) (acc:List fp) (ad:List bH) (so:Option aw) (X ai Z aq:an),aS= .int .i64 (i:Int)∧i≤c∧af (fun r=>w0.heap.size≤r) w0 ag∧w.heap.size≤ag.heap.size∧fa ag g gs X ai clean so∧ay.rep true Z aq ag [ap] acc∧
   aC .i64 ag am all∧dW ag∧bk=dX (fun _ s=>ck all s) (c-i) ad so∧(∀ r,Z r→w.heap.size≤r∧r<ag.heap.size)∧(∀ r,aq r→r≠g∧r≠gs∧¬Z r)∧
   ∀ s,so=some s→acc=ad.map fb∧cX s∧ad.length+s.toks.length≤100000∧o≠none∧(∀ r,X r→A r∨w.heap.size≤r)∧(∀ r,X r→w0.heap.size≤r)∧(∀ r,B r→ai r)∧(∀ r,Z r→¬ai r∧¬X r)∧(∀ r,aq r→bQ g gs X ai r),
  fun _ aS _=>c-(bl aS).toNat,⟨0,[],[],o,A,B,a8,a8,rfl,Z1 _,bb,u9 _,a6,im,bS,bV,J.symm,fun _ h=>h.elim,fun _ h=>h.elim,fun s aI=>⟨rfl,hi s aI,?_,bm s aI,fun r E=>.inl E,bY (bm s aI),fun r E=>E,fun _ h=>h.elim,fun _ h=>h.elim⟩⟩,?_⟩
 ·subst aI;have aT:cq w g gs A B s clean:=a6;have:=aT.2.1.words.1;simpa using this
 rintro ap _ ag ⟨i,acc,ad,so,X,ai,Z,aq,rfl,cL,cc,cM,bn,cd,aU,bo,aJ,ab,ce,bq⟩;refine aL (fun v br=>Ext ag br∧((v= .bool true∧i<c∧ ∃ st,so=some st)∨(v= .bool false∧(so=none∨i=c)))) ?_ ?_
 rotate_left
 ·intro cN aV;rw[ao,aa];refine⟨fun bt=>?_,fun cO=>aV _ _ ⟨Ext.refl _,.inr ⟨rfl,.inr (by omega)⟩⟩⟩;refine (w1 bn).mono ?_;rintro _ br _ ⟨rfl,bu⟩;cases so with
  |none=>exact aV _ _ ⟨bu,.inr ⟨rfl,.inl rfl⟩⟩
  |some st=>exact aV _ _ ⟨bu,.inl ⟨rfl,by omega,st,rfl⟩⟩
 rintro _ au ⟨al,cg⟩;have cP:=al.size;have aD:=bn.ext al;have bw:=cT cd al;have bx:af (fun r=>w0.heap.size≤r) w0 au:=cc.trans (al.U _);rcases cg with⟨rfl,bt,st,rfl⟩|⟨rfl,ch⟩
 rotate_left
 ·rw[aP];have bz:bk=so.map fun st=>(ad,st):=by
   rcases ch with rfl|rfl
   ·exact aJ
   ·rw[X6] at aJ;rw[aJ];cases so <;> rfl
  refine bc ap au acc so X ai Z (fun r=>aq r∧r<au.heap.size) bx (by omega) aD (ay.mono bw (fun _ _ h=>h) fun r E h=>⟨h,E⟩) (fun r E=>?_) (aU.ext al) (fun q ae=>?_) fun bA=>?_
  ·rcases E with E|E
   ·have:=ab r E;exact⟨by omega,by omega,by omega⟩
   ·have:=ce r E.1;exact⟨this.1,this.2.1,E.2⟩
  ·rw[bz] at ae;cases so with
   |none=>cases ae
   |some st=>cases ae;exact⟨rfl,(bq _ rfl).1⟩
  ·rw[bz] at bA;cases so with
   |none=>rfl
   |some st=>cases bA
 rw[bh];obtain⟨rfl,bB,cQ,aK,bC,aW,bD,aM,bE⟩:=bq st rfl;have aD:cq au g gs X ai st clean:=aD;obtain⟨cR,cS,cU,cV,cW⟩:=aD.1;have ci:=h1.2 aK;have bF:bQ g gs X ai 1:=⟨fun J=>by
  rcases J with J|J|J
  ·omega
  ·omega
  ·have:=aW 1 J;omega,bD 1 ci.2⟩
 have bG:∀ r,leads am r→¬ba g gs X r∧r<au.heap.size:=fun r E=>by
  obtain⟨cj,cl,cm,cn⟩:=a7 r E;refine⟨fun J=>?_,by omega⟩;rcases J with J|J|J
  ·exact cj J
  ·exact cl J
  ·rcases bC r J with h|h
   ·exact cn aK h
   ·omega
 refine (E8 aD bB (aU.ext al) bG (bT aK) bU (bo.ext al) bF).mono ?_;rintro _ cp _ ⟨Y,W,cs,aX,rfl,cY,aE,aG,aY,bI,bJ,cr,ct⟩;have z3:=aE.size;obtain⟨bK,cu⟩:=FG cr;refine kp (α:=fp) (a:=aX) (cs:=cs) (A:=a8) (R:=bQ g gs Y W) gJ.u bp.i (by decide) cu bK fun u aN av _ hu=>?_;have z4:=av.size;have cw:∀ r,r<au.heap.size→Z r∨aq r→¬ba g gs X r:=fun r E h J=>by
  rcases h with h|h
  ·have V:=ab r h;rcases J with J|J|J
   ·omega
   ·omega
   ·exact (aM r h).2 J
  ·exact (bE r h).1 J
 have cz:∀ r,r<au.heap.size→bQ g gs X ai r→bQ g gs Y W r:=fun r E h=>⟨fun J=>h.1 (J.imp id (Or.imp id fun J=>(aG r J).elim id fun h'=>by omega)),bI r h.2⟩;have cA:de Z (bQ g gs Y W) aN [ap] (ad.map fb):=cT (ay.U (ay.mono (S':=Z) (R':=fun r=>bQ g gs Y W r∧aq r) bw (fun _ _ h=>h) fun r E h=>⟨cz r E (bE r h),h⟩) aE fun r E h=>cw r E (h.imp id fun h=>h.2) |> fun h=>h) av |> fun h=>ay.mono h (fun _ _ h=>h) fun _ _ h=>h.1;have aO:∀ r,Z r→¬W r:=fun r h aQ=>by
  have V:=ab r h;rcases (aY r aQ).1 with ax|ax
  ·exact (aM r h).1 ax
  ·have aZ:=(ab r h).2;omega
 have cZ:(ad.map fb).length=ad.length:=by simp
 refine ll (α:=fp) (a:=aX) (A:=a8) gJ.u bp.i rfl cA hu (cT bK av) (fun r _ cB h=>?_) (by omega) (by omega) fun c0 az cC aH=>?_
 ·rcases h with h|h
  ·exact h
  ·exact aO r cB h.2
 have z5:=aH.size;rw[aF,wrap_i64 (by omega) (by omega)];have cD:af (fun r=>w0.heap.size≤r) w0 aN:=(bx.trans (aE.mono fun r _ J=>by
  rcases J with rfl|rfl|J
  ·exact bW
  ·exact bX
  ·exact aW r J)).trans (av.U _)
 have z0:=bb.size;have cE:af (fun r=>w0.heap.size≤r) w0 az:=cD.trans (aH.mono fun r _ h=>by have:=(ab r h).1;omega);have cF:aC .i64 aN am all:=(hg (aU.ext al) aE fun r E a n c ac a1=>(bG r ⟨a,n,c,ac,a1⟩).1 E).ext av;have cG:aC .i64 az am all:=hg cF aH fun r E a n c ac a1=>by
  have cm:=(a7 r ⟨a,n,c,ac,a1⟩).2.2.1;have:=(ab r E).1;omega
 have cH:dW az:=(((bo.ext al).U aE bF.1).ext av).U aH fun h=>by have:=(ab 1 h).1;omega
 have bL:fa az g gs Y W clean ((ck all st).map (·.2)):=by
  refine fa.U (bJ.ext av) aH (fun h=>by have:=ab _ h;omega) (fun r E c1 h=>?_) (fun r E h=>aO r h E.2);have V:=ab r h;rcases E with rfl|rfl|E
  ·omega
  ·omega
  ·rcases aG r E with ax|ax
   ·exact (aM r h).2 ax
   ·omega
 have cI:=jE cC;refine⟨⟨i+1,(ad.map fb)++[aX],ad++((ck all st).map (·.1)).toList,(ck all st).map (·.2),Y,W,fun r=>(Z r∨a8 r∨aN.heap.size≤r)∧r<az.heap.size,bQ g gs Y W,rfl,by omega,cE,by omega,bL,cI,cG,cH,?_,fun r E=>⟨?_,E.2⟩,fun r E=>⟨fun h=>E.1 (.inl h),fun h=>E.1 (.inr (.inl h)),fun h=>?_⟩,fun s' cJ=>?_⟩,by simp only[bl];omega⟩
 ·rw[aJ,show c-i=(c-(i+1))+1 by omega,xt];cases ae:ck all st with
  |none=>rfl
  |some q=>rfl
 ·rcases E.1 with h|h|h
  ·exact (ab r h).1
  ·exact h.elim
  ·omega
 ·rcases h.1 with V|V|V
  ·exact aO r V E.2
  ·exact V
  ·have:=(aY r E.2).2;omega
 ·obtain⟨q,ae,rfl⟩:=b8.1 cJ;have V:=FF (s':=q.2) (x:=q.1) bB ae;have ax:=ct q ae;refine⟨?_,V.1,?_,aK,fun r E=>?_,fun r E=>?_,fun r E=>bI r (bD r E),fun r E=>⟨fun aQ=>?_,fun bN=>?_⟩,fun r E=>E⟩
  ·rw[ae,ax];simp
  ·rw[ae];simp only[j6,l9,r8,U2];omega
  ·rcases aG r E with h|h
   ·exact bC r h
   ·exact .inr (by omega)
  ·rcases aG r E with h|h
   ·exact aW r h
   ·omega
  ·rcases E.1 with V|V|V
   ·exact aO r V aQ
   ·exact V
   ·have:=(aY r aQ).2;omega
  ·have c2:fa az g gs Y W clean ((ck all st).map (·.2)):=bL;have bO:=bJ;rw[ae] at bO;have aT:cq cp g gs Y W q.2 clean:=bO;have bt:=aT.1.2.2.2.1 r (.inr (.inr bN));rcases E.1 with V|V|V
   ·rcases aG r bN with aZ|aZ
    ·exact (aM r V).2 aZ
    ·have:=(ab r V).2;omega
   ·exact V
   ·omega
theorem cX.num {lo hi n:Int} {s s':aw} (J:cX s) (h:aT lo hi s=some (n,s')):cX s':=fun E=>by
 have h1:=(cN h).eqs;rw[h1.1];rw[h1.2.1] at E;exact J E
theorem cX.big {b:Bool} {s:aw} (h:cX s):cX (aQ b s):=fun E=>by
 have E:(s.big||b)=false:=E;exact h (V7.1 E).1
theorem cX.word {w:List Int} {s s':aw} (h:cX s) (hw:cU s=some (w,s')):cX s':=fun E=>by
 have h1:=(oI hw).2;rw[h1] at E ⊢;exact h E
theorem FI {most:Int} {N:Nat} {s s':aw} {l:List Int} (hi:cX s) (hm:most≤ak) (h:b1 (ep most) N [] s=some (l,s')):cX s'∧(∀ z∈l,1≤z∧z≤ak)∧l.length+s'.toks.length≤s.toks.length:=by
 have:=hU (f:=ep most) (fun acc t=>cX t∧(∀ z∈acc,1≤z∧z≤ak)∧acc.length+t.toks.length≤s.toks.length) (fun acc t a W ⟨h1,O,X⟩ g=>by
  unfold ep at g;cases E:aT 1 most t with
  |none=>rw[E] at g;cases g
  |some q=>
   obtain⟨z,U⟩:=q;rw[E] at g;simp only[b9,V1] at g;obtain⟨rfl,rfl⟩:=g;have Y:=(fB E).1;have Z:=(cN E).1;refine⟨(h1.num E).big,fun x J=>?_,?_⟩
   ·rcases p9.1 J with J|J
    ·exact O x J
    ·rw[p8.1 J];omega
   ·simp only[r8,U2];show acc.length+1+U.toks.length≤_;omega) N [] s l s' ⟨hi,fun z V=>(by cases V),by simp⟩ h
 exact this.1
theorem FJ {s0:aw} {name sizes:List Int} {n most cnt k:Int} {so6:Option aw}
  (h1:∀ q,cU s0=some q→name=q.1)
  (W:∀ q,aO 1 ak (((cU s0).map (·.2)).map (aQ (decide (64<(name.length:Int)))))=some q→n=q.1)
  (V:∀ q,aO 1 ak (((aO 1 ak (((cU s0).map (·.2)).map (aQ (decide (64<(name.length:Int)))))).map (·.2)).map (aQ (decide (64<n))))=some q→most=q.1)
  (U:∀ q,aO 0 ak ((aO 1 ak (((aO 1 ak (((cU s0).map (·.2)).map (aQ (decide (64<(name.length:Int)))))).map (·.2)).map (aQ (decide (64<n))))).map (·.2))=some q→cnt=q.1)
  (O:∀ q,aO 1 ak (((aO 0 ak ((aO 1 ak (((aO 1 ak (((cU s0).map (·.2)).map (aQ (decide (64<(name.length:Int)))))).map (·.2)).map (aQ (decide (64<n))))).map (·.2))).map (·.2)).map (aQ (decide (256<cnt))))=some q→k=q.1)
  (J:∀ q,dX (ep most) n.toNat [] (((aO 1 ak (((aO 0 ak ((aO 1 ak (((aO 1 ak (((cU s0).map (·.2)).map (aQ (decide (64<(name.length:Int)))))).map (·.2)).map (aQ (decide (64<n))))).map (·.2))).map (·.2)).map (aQ (decide (256<cnt))))).map (·.2)).map (aQ (decide (2147483648<k))))=some q→so6=some q.2∧sizes=q.1)
  (E:dX (ep most) n.toNat [] (((aO 1 ak (((aO 0 ak ((aO 1 ak (((aO 1 ak (((cU s0).map (·.2)).map (aQ (decide (64<(name.length:Int)))))).map (·.2)).map (aQ (decide (64<n))))).map (·.2))).map (·.2)).map (aQ (decide (256<cnt))))).map (·.2)).map (aQ (decide (2147483648<k))))=none→so6=none):
  fA s0=(dX (fun _ s=>ck sizes s) cnt.toNat [] so6).map fun q=>((⟨name,k,sizes,q.1⟩:bx),q.2):=by
 unfold fA;cases ab:cU s0 with
 |none=>
  rw[ab] at E;rw[E rfl];rfl
 |some am=>
 obtain⟨aG,ao⟩:=am;rw[ab] at h1 W V U O J E;have:=h1 _ rfl;subst this;have ap:decide (64<(name.length:Int))=decide (64<name.length):=by rw[X5,decide_eq_true_eq,decide_eq_true_eq];omega
 rw[ap] at W V U O J E;simp only[j6] at W V U O J E ⊢;generalize aQ (decide (64<name.length)) ao=Y at*;cases ac:aT 1 ak Y with
 |none=>
  rw[show aO 1 ak (some Y)=none from ac] at E;rw[E rfl];rfl
 |some aq=>
 obtain⟨au,ad⟩:=aq;rw[show aO 1 ak (some Y)=some (au,ad) from ac] at W V U O J E;have:=W _ rfl;subst this;simp only[j6] at V U O J E ⊢;generalize aQ (decide (64<n)) ad=Z at*;cases ae:aT 1 ak Z with
 |none=>
  rw[show aO 1 ak (some Z)=none from ae] at E;rw[E rfl];rfl
 |some av=>
 obtain⟨ax,X⟩:=av;rw[show aO 1 ak (some Z)=some (ax,X) from ae] at V U O J E;have:=V _ rfl;subst this;simp only[j6] at U O J E ⊢;cases af:aT 0 ak X with
 |none=>
  rw[show aO 0 ak (some X)=none from af] at E;rw[E rfl];rfl
 |some ay=>
 obtain⟨az,ag⟩:=ay;rw[show aO 0 ak (some X)=some (az,ag) from af] at U O J E;have:=U _ rfl;subst this;simp only[j6] at O J E ⊢;generalize aQ (decide (256<cnt)) ag=aa at*;cases ah:aT 1 ak aa with
 |none=>
  rw[show aO 1 ak (some aa)=none from ah] at E;rw[E rfl];rfl
 |some aA=>
 obtain⟨aB,ai⟩:=aA;rw[show aO 1 ak (some aa)=some (aB,ai) from ah] at O J E;have:=O _ rfl;subst this;simp only[j6] at J E ⊢;generalize aQ (decide (2147483648<k)) ai=aC at*;cases aj:b1 (ep most) n.toNat [] aC with
 |none=>
  rw[E aj];rfl
 |some aD=>
 obtain⟨aH,al⟩:=aD;obtain⟨aE,aF⟩:=J _ aj;subst aF;rw[aE];simp only;show _=X1 _ (b1 (fun _ s=>ck sizes s) cnt.toNat [] al);cases b1 (fun _ s=>ck sizes s) cnt.toNat [] al <;> rfl
theorem FK {N:Nat} {f:bx} (ag:dP N f) (U:N≤60000):∀ x∈f.funs,pi f.k x:=fun x J=>by
 obtain⟨h1,O,V⟩:=ag.funs x J;refine⟨ag.k,⟨?_,fun z E=>?_⟩,h1.other,h1.lines,by have:=h1.len;omega,by omega⟩
 ·rw[h1.sizes,u7];exact O
 ·rw[h1.sizes] at E;obtain⟨v,ac,rfl⟩:=o6.1 E;have:=h1.scope.2 v ac;refine ag.sizes.2.2 _ ?_;rw[u6,y0 (by omega)];exact List.getElem_mem _
set_option maxHeartbeats 8000000 in
theorem FL {w:x2} {p:x1} {W:List Int} (ao:aC .u8 w p W) (be:Bytes W) (cg:W.length≤60000) (aG:dW w):ah x5 Af [p] w (xr w (eT W)):=by
 have bf:1<w.heap.size:=by
  have:=aG 0 (.int .u64 1) rfl;obtain⟨c,e,f,bg,_⟩:=qC this;exact (o4.1 bg).1
 have ch:ak=4611686018427387904:=rfl;refine aq func67 ?_;rw[aI bZ.u ao,bA,aa];refine⟨fun h=>by omega,fun _=>?_⟩;refine (vf ao be (by omega)).mono ?_;rintro _ ad _ ⟨aH,gs,rfl,ci,bh,ap⟩;rw[cI (cs:=#[.pointer (some ⟨gs,0,none⟩),.int .i64 0,.int .i64 0,.int .i64 0,.int .i64 0,.int .i64 0,.slice none 0 0]) (by kernel_rfl)];refine a7 fun g ag cj ax aJ=>?_;have cl:=aH.size;have cm:=ax.size;have bi:=aJ.lt;have cn:gs<ad.heap.size:=ap.2.2.2.1.lt;have cp:=mw _ W (u9 _);let s0:aw:=⟨(lex W).1,0,false,[]⟩;let B0:an:=fun r=>r<ad.heap.size;have bj:cq ag g gs a8 B0 s0 (lex W).2:=by
  refine⟨⟨by omega,fun h=>h,fun h=>h,fun r J=>?_,fun r J=>by have J:r<ad.heap.size:=J;omega⟩,⟨bh,W,0,ap.ext ax,fun r J=>?_,by rw[List.drop_zero]⟩,⟨by show (0:Int)≤0;omega,by show (0:Int)≤ak;omega,by show (([]:List (List Int×List (List Int×Int))).length+(lex W).1.length≤100000);simp;omega⟩,0,0,0,0,.slice none 0 0,aJ,⟨by simp[s0],fun _=>rfl⟩,im (α:=gm)⟩
  ·rcases J with rfl|rfl|J
   ·exact bi
   ·omega
   ·exact J.elim
  ·obtain⟨_,_,_,ai,cr,hm⟩:=ap;have ab:=bw hm J;have ac:=bB hm ai (by decide) J;exact⟨fun Y=>by
    rcases Y with Y|Y|Y
    ·omega
    ·exact ac Y
    ·exact Y,by show r<ad.heap.size;omega⟩
 have ay:∀ r,ba g gs a8 r→w.heap.size≤r:=fun r J=>by
  rcases J with rfl|rfl|J
  ·omega
  ·omega
  ·exact J.elim
 refine (vZ bj).mono ?_;rintro _ ct _ ⟨V,name,bk,rfl,cu,cw,bl⟩;obtain⟨bm,bn⟩:=er.of V;rw[av (v:=bb name) rfl,av (v:=.int .i64 bk) rfl,kv cc.u,bA];refine (mW bn).mono ?_;rintro _ cz _ V;obtain⟨bo,bp⟩:=V.of;refine (je (lo:=1) (hi:=ak) bp).mono ?_;rintro _ cA _ ⟨V,n,bq,rfl,aK,br⟩;obtain⟨bt,bu⟩:=V.of;rw[av (v:=.int .i64 n) rfl,av (v:=.int .i64 bq) rfl,bA];refine (mW bu).mono ?_;rintro _ cB _ V;obtain⟨bz,bC⟩:=V.of;refine (je (lo:=1) (hi:=ak) bC).mono ?_;rintro _ cC _ ⟨V,most,bD,rfl,aL,bE⟩;obtain⟨bF,bG⟩:=V.of;rw[av (v:=.int .i64 most) rfl,av (v:=.int .i64 bD) rfl];refine (je (lo:=0) (hi:=ak) bG).mono ?_;rintro _ cD _ ⟨V,cnt,bH,rfl,aM,bI⟩;obtain⟨bJ,bK⟩:=V.of;rw[av (v:=.int .i64 cnt) rfl,av (v:=.int .i64 bH) rfl,bA];refine (mW bK).mono ?_;rintro _ cE _ V;obtain⟨bL,bM⟩:=V.of;refine (je (lo:=1) (hi:=ak) bM).mono ?_;rintro _ cF _ ⟨V,k,bN,rfl,bO,cG⟩;obtain⟨bP,bQ⟩:=V.of;rw[av (v:=.int .i64 k) rfl,av (v:=.int .i64 bN) rfl,bA];refine (mW bQ).mono ?_;rintro _ aN _ V;obtain⟨bR,az⟩:=V.of;have aP:af (ba g gs a8) ag aN:=(((((((bm.trans bo).trans bt).trans bz).trans bF).trans bJ).trans bL).trans bP).trans bR;have aA:∀ {lo:Int} {o:Option aw} {x:Int},0≤lo→lo≤1→(∀ q,aO lo ak o=some q→x=q.1)→(aO lo ak o=none→x=0)→0≤x∧x≤ak:=fun {lo o x} cH h1 X bS=>by
  cases E:aO lo ak o with
  |none=>rw[bS E];omega
  |some q=>
   have ab:=jP (n:=q.1) (s':=q.2) E;rw[X q E];omega
 have cJ:=aA (by omega) (by omega) aK br;have cK:=aA (by omega) (by omega) aM bI;have cL:=aA (by omega) (by omega) aL bE;obtain⟨N,bT⟩:∃ N:Nat,n=(N:Int):=⟨n.toNat,by omega⟩;obtain⟨C,bU⟩:∃ C:Nat,cnt=(C:Int):=⟨cnt.toNat,by omega⟩;have bV:n.toNat=N:=by omega
 have bW:cnt.toNat=C:=by omega
 have bX:cX s0:=fun _=>by show (0:Int)≤16384;omega
 have aj:∀ {o:Option aw} {b:Bool},(∀ s,o=some s→cX s)→ ∀ s,o.map (aQ b)=some s→cX s:=fun h s X=>by
  obtain⟨t,aB,rfl⟩:=b8.1 X;exact (h t aB).big
 have al:∀ {o:Option aw} {lo hi:Int},(∀ s,o=some s→cX s)→ ∀ s,(aO lo hi o).map (·.2)=some s→cX s:=fun {o lo hi} h s X=>by
  obtain⟨q,E,rfl⟩:=b8.1 X;cases o with
  |none=>cases E
  |some t=>exact (h t rfl).num (n:=q.1) (s':=q.2) E
 have bY:∀ s,(cU s0).map (·.2)=some s→cX s:=fun s X=>by
  obtain⟨q,E,rfl⟩:=b8.1 X;exact bX.word (w:=q.1) (s':=q.2) E
 have aR:=aj (b:=decide (2147483648<k)) (al (lo:=1) (hi:=ak) (aj (b:=decide (256<cnt)) (al (lo:=0) (hi:=ak) (al (lo:=1) (hi:=ak) (aj (b:=decide (64<n)) (al (lo:=1) (hi:=ak) (aj (b:=decide (64<(name.length:Int))) bY)))))));have O:=fun(sizes:List Int) (so6:Option aw)=>FJ (s0:=s0) (name:=name) (sizes:=sizes) (n:=n) (most:=most) (cnt:=cnt) (k:=k) (so6:=so6) bl aK aL aM bO;rw[bV] at O;generalize cM:X1 (aQ (decide (2147483648<k))) (X1 (fun x=>x.2) (aO 1 ak (X1 (aQ (decide (256<cnt))) (X1 (fun x=>x.2) (aO 0 ak (X1 (fun x=>x.2) (aO 1 ak (X1 (aQ (decide (64<n))) (X1 (fun x=>x.2) (aO 1 ak (X1 (aQ (decide (64<(name.length:Int)))) (X1 (fun x=>x.2) (cU s0)))))))))))))=aS at aR az O;rw[bT];refine FC (N:=N) (most:=most) az (by omega) fun au aD sizes so6 cN b1 aT aU cO b2 aV aW=>?_;have O:=O sizes so6 aV aW;rw[bW] at O;have aE:af (ba g gs a8) ag aD:=aP.trans b1;have z12:=aE.size;have aX:Ext w ag:=aH.trans ax;have b3:af (fun r=>w.heap.size≤r) w aD:=(aX.U _).trans (aE.mono fun r _ h=>ay r h);have cP:=aT.side;have aY:∀ ae,so6=some ae→cX ae∧(∀ z∈sizes,1≤z∧z≤ak)∧sizes.length≤100000:=fun ae aF=>by
  cases E:dX (ep most) N [] aS with
  |none=>rw[aW E] at aF;cases aF
  |some q=>
   obtain⟨ab,ac⟩:=aV q E;cases aF.symm.trans ab;subst ac;cases aS with
   |none=>cases E
   |some b4=>
    obtain⟨b5,b6,cQ⟩:=FI (l:=q.1) (s':=q.2) (aR b4 rfl) (by omega) E;exact⟨b5,b6,by have:=az.words;omega⟩
 rw[bU];have aZ:∀ r,leads au r→aN.heap.size≤r∧r<aD.heap.size:=fun r J=>by have:=bw aU J;omega
 have cR:=aP.size;refine FH (w0:=w) (c:=C) (all:=sizes) aT.q (fun s X=>(aY s X).1) (by omega) aU.ls (fun r J=>?_) (fun am=>?_) b2 ((aG.ext aX).U aE fun Y=>by have:=ay 1 Y;omega) ⟨bf,fun _=>⟨fun Y=>by have:=ay 1 Y;omega,by show 1<ad.heap.size;omega⟩⟩
  b3 (by omega) (by omega) ⟨by omega,by omega⟩ (fun _ r h=>h.elim) fun cS cT acc so cV cW cY cZ a1 c0 b7 b9 ca cb a2 cd=>?_
 ·have:=aZ r J;exact⟨by omega,by omega,by omega,fun _ h=>h⟩
 ·cases a6:so6 with
  |none=>exact absurd a6 am
  |some ae=>exact (aY ae a6).2.1
 have c1:=a1.size;have Z:eT W=match fA s0 with
   |none=>none
   |some (f,s)=>if s.toks=[]∧(lex W).2=true∧s.big=false then some f else none:=by
  unfold eT;rw[if_neg (by omega)];have e:fA ⟨(lex W).1,0,false,[]⟩=fA s0:=rfl;rw[e];cases fA s0 <;> rfl
 refine FB (w0:=w) (sizes:=sizes) (res:=eT W) b7 ⟨fun s X aB ce ai=>?_,fun am=>?_⟩ cb (fun r J=>by have:=aZ r J;exact⟨by omega,by omega⟩) b9 ca (fun _=>trivial) (by omega) (by omega) a1 (by omega) (by omega) ao fun v w' h=>h
 ·cases E:dX (fun _ s=>ck sizes s) C [] so6 with
  |none=>rw[cd E] at X;cases X
  |some q=>
   obtain⟨ab,ac⟩:=a2 q E;cases X.symm.trans ab;rw[E] at O;have O:fA s0=some ((⟨name,k,sizes,q.1⟩:bx),q.2):=O;have bc:=(vW rfl O ai).1;rw[O] at Z;simp only at Z;rw[if_pos ⟨aB,ce,ai⟩] at Z;exact⟨q.1,ac,Z,FK bc (by show (lex W).1.length≤60000;omega),bc.iu,by omega⟩
 ·cases E:dX (fun _ s=>ck sizes s) C [] so6 with
  |none=>
   rw[E] at O;have O:fA s0=none:=O;rw[O] at Z;exact absurd Z am
  |some q=>
   obtain⟨ab,ac⟩:=a2 q E;rw[E] at O;have O:fA s0=some ((⟨name,k,sizes,q.1⟩:bx),q.2):=O;rw[O] at Z;simp only at Z;by_cases bd:q.2.toks=[]∧(lex W).2=true∧q.2.big=false
   ·exact⟨q.2,ab,bd⟩
   ·rw[if_neg bd] at Z;exact absurd Z am
theorem ry (s t cs:List Int):∃ e,lp s t cs= .tuple #[.int .i64 (cC s cs t),.int .i64 e]:=by
 unfold lp cC;cases cd s t 0 with
 |none=>exact⟨3,rfl⟩
 |some n=>exact⟨0,rfl⟩
theorem FM {sv:x1} {w:x2}:ah x5 ud [sv] w fun r w'=>Ext w w'∧ ∃ g,r= .func (.func la) #[] #[.pointer (some ⟨g,0,none⟩)]∧w.heap.size≤g∧ad w' g al sv.cells.toList:=by
 refine aq func253 ?_;refine a7 fun g O U E J=>?_;rw[hL];exact⟨E,g,rfl,by omega,J⟩
theorem FN {f:FuncId} {cap:Array x1} {n:Nat} {aa:Nat→List x1→x2→Prop} {E:x2→Prop} {L:List Int} {w:x2} (aw:k4 x5 f cap.toList n aa E) (ae:∀ k vs w,aa k vs w→ ∃ x,L[k]? =some x∧vs=[.int .i64 x])
  (hE:∀ a b,af (fun r=>w.heap.size≤r) a b→E a→E b) (ax:E w) (ay:n=L.length) (aO:L.length≤1000000):
  ah x5 A8 [.slice none 0 0,.func (.func f) #[] cap] w fun v w'=>Ext w w'∧ ∃ g,w.heap.size≤g∧am .i64 ab w' g v L:=by
 refine jB func183 ?_;refine a7 fun gs az aP ag O=>?_;have O:ad az gs al [.slice none 0 0]:=O;have aQ:=O.lt;have ai:∀ {a b:x2},Ext a b→E a→E b:=fun J=>hE _ _ (J.U _);refine⟨Nat,false,f,cap,0,_,_,E,fun k w'=>af (fun r=>w.heap.size≤r) w w'∧ ∃ v g,gs<g∧ad w' gs al [v]∧am .i64 ab w' g v (L.take k),fun _ _ _=>False,rfl,aw.s,?_,fun _ _ J h=>ai J h,
  fun _ _ _ J h=>⟨h.1.trans (J.U _),by obtain⟨v,g,h1,aA,aB⟩:=h.2;exact⟨v,g,h1,aA.ext J,aB.ext J⟩⟩,fun _ _ _ _ _ h=>h,ai ag ax,⟨ag.U _,_,gs+1,by omega,O,am.nil _ _ _ _⟩,?_,?_,fun _ _ h=>h.elim,fun _ _ _ h=>h.elim⟩
 ·rintro k vs aR w' ⟨_,_,h⟩;obtain⟨x,_,rfl⟩:=ae k vs w' h;rfl
 ·rintro a k _ aj haC ⟨W,rfl,aD⟩ ⟨aE,v,g,aF,ak,ac⟩;obtain⟨x,J,aG⟩:=ae k _ aj aD;cases aG;intro aS X _ _;have ao:=ak.ext X;rw[V (by kernel_rfl) (ao.cell (o:=0) rfl)];refine dC al.u ab.i rfl fun a aT aU aV Y aH=>?_;have aW:(L.take k).length≤1000000:=by simp;omega
  refine gM al.u ab.i rfl ((ac.ext X).ext Y) aH.ls (by simp only[l6,List.length_nil];omega) (by simp only[l6,List.length_nil];omega) fun aI aJ aX aY Z ap=>?_;have a1:=ak.lt;have a2:=X.size;have a6:=Y.size;refine aZ al.i Z.ls.cells.1 Z.ls.cells.2 (((ao.ext Y).U ap (by omega))) (by simp) fun aK aq a8 aL=>?_;have au:af (fun r=>w.heap.size≤r) aj aK:=(((X.trans Y).U _).trans (ap.mono fun r _ h=>by show w.heap.size≤r;omega)).trans (aq.mono fun r _ h=>by show w.heap.size≤r;omega);refine⟨hE _ _ au haC,⟨aE.trans au,aI,aJ,by omega,aL,?_⟩,fun h=>by cases h⟩;rw[u4,J];exact Z.U aq (fun _=>by omega)
 ·rintro k ba W ⟨aM,v,g,aF,aN,ac⟩;have W:k=n:=W;subst W;rw[V (by kernel_rfl) (aN.cell (o:=0) rfl)];intro bb av _;rw[ay,o3] at ac;exact⟨(aM.ext fun r bc h=>by have:w.heap.size≤r:=h;omega).trans av,g,by omega,ac.ext av⟩
theorem FO {f:FuncId} {cap:Array x1} {n:Nat} {J:Nat→List x1→x2→Prop} {E:x2→Prop} {L:List Int} {w:x2} (O:k4 x5 f cap.toList n J E) (U:∀ k vs w,J k vs w→ ∃ x,L[k]? =some x∧vs=[.int .i64 x])
  (hE:∀ a b,af (fun r=>w.heap.size≤r) a b→E a→E b) (V:E w) (W:n=L.length) (X:L.length≤1000000):
  ah x5 AG [.func (.func f) #[] cap] w fun v w'=>Ext w w'∧ ∃ g,w.heap.size≤g∧am .i64 ab w' g v L:=by
 refine aq func117 ?_;exact (FN O U hE V W X).mono fun _ _ _ h=>h
theorem FP {x y:Int} {w:x2}:ah x5 cmp_Less_int [.int .i64 x,.int .i64 y] w fun v w'=>v= .bool (decide (x<y))∧Ext w w':=by
 refine aq func322 ?_;refine aL (fun v E=>v= .bool (decide (x<y))∧Ext w E) (fun _ _ h=>h) fun V J=>?_;have O:∀ {z:Int} {w:x2},ah x5 cmp_isNaN_int [.int .i64 z] w fun v w'=>v= .bool false∧Ext w w':=fun {z w}=>by
  refine aq func182 ?_;simp only[be];exact⟨by simp,Ext.refl _⟩
 refine O.mono ?_;rintro _ W _ ⟨rfl,U⟩;rw[aP];simp only[ao];exact J _ _ ⟨rfl,U⟩
theorem FQ {P:Y3} {w:x2} {t:u5} {cx cy:Bool} {k:r9} {a b:Int}:bL P (aB .sub t cx cy (.int k a) (.int k b)) (.int k (k.wrap (a-b))) w:=fun w' _=>by simp[aB,eqGuard,binOp,Op.intArith]
theorem FR {sv:x1} {l:List Int} {g:Nat} {w:x2} (h:am .i64 ab w g sv l) (aM:l.length≤1000000):
  ah x5 Ch [sv,.int .i64 0,.int .i64 l.length] w fun _ w'=>af (fun r=>r=g) w w'∧ ∃ m,m.Perm l∧m.Pairwise (·≤ ·)∧am .i64 ab w' g sv m:=by
 refine aq func316 ?_;simp only[aF];refine⟨fun t Z=>∃ (i:Nat) (m:List Int),t= .int .i64 i∧1≤i∧(i≤l.length∨i=1)∧m.Perm l∧mH m i∧af (fun r=>r=g) w Z∧am .i64 ab Z g sv m,fun t _=>l.length+1-(bl t).toNat,
  ⟨1,l,by congr 1,by omega,.inr rfl,.refl _,fun p q x y h1 ax=>by omega,af.refl _ _,h⟩,?_⟩
 rintro _ Z ⟨i,m,rfl,aN,aO,O,ag,ai,hm⟩;have ay:=O.length_eq;simp only[ao,aa];refine⟨fun az=>?_,fun aP=>?_⟩
 ·have az:i<l.length:=by omega
  refine⟨fun t W=>∃ (j:Nat) (m:List Int),t= .int .i64 j∧j≤i∧m.Perm l∧ly m i j∧af (fun r=>r=g) w W∧am .i64 ab W g sv m,fun t _=>(bl t).toNat,⟨i,m,rfl,u9 _,O,Dz ag,ai,hm⟩,?_⟩;rintro _ W ⟨j,m,rfl,aA,O,ac,aj,hm⟩;have ay:=O.length_eq;refine aL (fun v ak=>Ext W ak∧ ∃ c,v= .bool c∧(c=true→0<j∧ ∃ a b,m[j-1]? =some a∧m[j]? =some b∧b<a)∧(c=false→j=0∨0<j∧ ∃ a b,m[j-1]? =some a∧m[j]? =some b∧a≤b)) ?_ ?_
  ·rintro _ ak ⟨X,c,rfl,aB,aC⟩;rw[b3];refine⟨fun h=>?_,fun h=>?_⟩
   ·obtain⟨V,a,b,E,J,ad⟩:=aB h;intro aQ ap _ _;have Y:=(hm.ext X).ext ap;have e:X0.wrap ((j:Int)-1)=((j-1:Nat):Int):=by rw[wrap_i64 (by omega) (by omega)];omega
    simp only[cY,e];rw[a1 al.u ab.i (by kernel_rfl) Y.ls E,a1 al.u ab.i (by kernel_rfl) Y.ls J,fR rfl al.u ab.i Y (by omega)];refine fS ab.i Y (by omega) fun aD aE aR au=>⟨.inr ⟨by have:=FQ (P:=x5) (w:=aD) (t:=ab) (cx:=false) (cy:=true) (k:=.i64) (a:=(j:Int)) (b:=1);rwa [e] at this,trivial⟩,?_⟩;rw[fR rfl al.u ab.i au (by simp;omega)];refine fS ab.i au (by simp;omega) fun aS aG aT aH=>?_;refine⟨⟨j-1,_,rfl,by omega,(swap_perm (by omega) E J).trans O,DC ac V aA E J ad,((aj.trans ((X.trans ap).U _)).trans aE).trans aG,aH⟩,?_⟩;simp only[bl];omega
   ·simp only[aF];rw[wrap_i64 (by omega) (by omega)];refine⟨⟨i+1,m,rfl,by omega,.inl (by omega),O,?_,aj.trans (X.U _),hm.ext X⟩,?_⟩
    ·rcases aC h with rfl|⟨V,a,b,E,J,ad⟩
     ·exact DA ac
     ·exact DB ac V E J ad
    ·simp only[bl];omega
  ·intro aU av aV ae _ _;have aw:=hm.ext ae;simp only[bA,aa];refine⟨fun V=>?_,fun V=>av _ _ ⟨ae,false,rfl,(fun h=>by cases h),fun _=>.inl (by omega)⟩⟩;have e:X0.wrap ((j:Int)-1)=((j-1:Nat):Int):=by rw[wrap_i64 (by omega) (by omega)];omega
   obtain⟨b,J⟩:∃ b,m[j]? =some b:=⟨_,y0 (by omega)⟩;obtain⟨a,E⟩:∃ a,m[j-1]? =some a:=⟨_,y0 (by omega)⟩;rw[a1 al.u ab.i (by kernel_rfl) aw.ls J];simp only[cY,e];rw[a1 al.u ab.i (by kernel_rfl) aw.ls E];refine FP.mono ?_;rintro _ aW _ ⟨rfl,aI⟩;refine av _ _ ⟨ae.trans aI,_,rfl,fun h=>⟨by omega,a,b,E,J,by simpa using h⟩,fun h=>.inr ⟨by omega,a,b,E,J,by simpa using h⟩⟩
 ·refine⟨ai,m,O,DD fun p q x y h1 ax aJ aK=>ag p q x y h1 (by omega) aJ aK,hm⟩
theorem FS {P:Y3} {w:x2} {t:u5} {k:r9} {s:ByteArray} {i:Nat} {K:x1→Prop} (E:P.underlying t=some .string) (hi:i<s.size) (J:∀ b:Nat,b<256→K (.int .u8 b)):
  O P (Instr.index t (.string s) (.int k (i:Int))) w K:=by
 have U:s[i]? =some s[i]:=by simp[hi]
 have:O P (Instr.index t (.string s) (.int k (i:Int))) w K=K (.int .u8 s[i].toNat):=O.of fun w' _=>by
  simp[Instr.index,asIntOf,run_underlying E,hi]
 rw[this];exact J _ (UInt8.toNat_lt _)
theorem FT {n:Nat} {w:x2} (E:n<256):ah x5 A7 [.int .u64 (n:Int)] w fun v w'=>(∃ r,v= .int .i64 r)∧Ext w w':=by
 refine aq func181 ?_;refine ah.mono (K:=fun v w'=>(∃ r,v= .int .i64 r)∧Ext w w') ?_ (fun _ _ _ h=>h);refine aq func238 ?_;simp only[bR,ca,aa];refine⟨fun h=>by omega,fun _=>⟨fun h=>by omega,fun _=>⟨fun h=>by omega,fun _=>?_⟩⟩⟩;rw[e7 e4.u bY.u,wrap_u8 (by omega) (by omega)];refine FS cc.u (by exact Nat.lt_of_lt_of_le E (by decide)) fun b J=>?_;rw[e7 bY.u ab.u];simp only[aF];exact⟨⟨_,rfl⟩,Ext.refl _⟩
theorem FU {sv:x1} {l:List Int} {g:Nat} {w:x2} (h:am .i64 ab w g sv l) (V:l.length≤12):
  ah x5 BZ [sv] w fun _ w'=>af (fun r=>r=g) w w'∧ ∃ m,m.Perm l∧m.Pairwise (·≤ ·)∧am .i64 ab w' g sv m:=by
 refine aq func282 ?_;rw[aI al.u h.ls,e7 ab.u ld.u,wrap_u64 (by omega) (by omega)];refine (FT (n:=l.length) (by omega)).mono ?_;rintro _ E _ ⟨⟨r,rfl⟩,J⟩;refine ah.mono (K:=fun _ w'=>af (fun r=>r=g) E w'∧ ∃ m,m.Perm l∧m.Pairwise (·≤ ·)∧am .i64 ab w' g sv m) ?_ (fun _ _ _ h=>⟨(J.U _).trans h.1,h.2⟩);refine aq func305 ?_;refine⟨fun a b _ _ _ O=>a= .int .i64 0∧b= .int .i64 l.length∧E=O,fun _ _ _ _ _ _=>0,⟨rfl,rfl,rfl⟩,?_⟩;rintro _ _ _ _ _ _ ⟨rfl,rfl,rfl⟩;simp only[cY,mn,aa];rw[wrap_i64 (by omega) (by omega)];refine⟨fun _=>?_,fun h=>by omega⟩;refine (FR (h.ext J) (by omega)).mono ?_;exact fun _ _ _ h=>h
theorem FV {f:FuncId} {cap:Array x1} {n:Nat} {J:Nat→List x1→x2→Prop} {E:x2→Prop} {L:List Int} {w:x2} (O:k4 x5 f cap.toList n J E) (U:∀ k vs w,J k vs w→ ∃ x,L[k]? =some x∧vs=[.int .i64 x])
  (hE:∀ a b,af (fun r=>w.heap.size≤r) a b→E a→E b) (V:E w) (W:n=L.length) (X:L.length≤12):
  ah x5 uc [.func (.func f) #[] cap] w fun v w'=>Ext w w'∧ ∃ g m,w.heap.size≤g∧m.Perm L∧m.Pairwise (·≤ ·)∧am .i64 ab w' g v m:=by
 refine aq func252 ?_;refine (FO O U hE V W (by omega)).mono ?_;rintro v ag _ ⟨Y,g,Z,ac⟩;refine (FU ac X).mono ?_;rintro _ ai _ ⟨aa,m,h1,ad,ae⟩;exact⟨Y.then aa (by rintro r aj rfl;omega),g,m,Z,h1,ad,ae⟩
theorem xu {sv:x1} {l:List Int} {x:Int} {w:x2} (h:aC .i64 w sv l):
  ah x5 qp [sv,.int .i64 x] w fun v w'=>Ext w w'∧ ∃ r:Int,v= .int .i64 r∧ ∀ i:Nat,l[i]? =some x→(r=i↔ ∀ j,j<i→l[j]? ≠some x):=by
 refine aq func103 ?_;rw[aI al.u h];refine bM.range l.length (fun i _ O=>Ext w O∧ ∀ j,j<i→l[j]? ≠some x) h.le ⟨Ext.refl _,fun j V=>by omega⟩ ?_ ?_
 ·rintro i _ O k hi ⟨E,J⟩ W;simp only[ao,aa];refine⟨fun _=>?_,fun h=>by omega⟩;obtain⟨y,U⟩:∃ y,l[i]? =some y:=⟨_,y0 hi⟩;rw[a1 al.u ab.i (by kernel_rfl) (h.ext E) U];simp only[bc,aa,aF];refine⟨fun he=>⟨E,i,rfl,fun q X=>?_⟩,fun he=>W _ _ ⟨E,fun j V=>?_⟩⟩
  ·subst he;refine⟨fun ac=>by
              have:i=q:=by omega
              subst this;exact J,fun Y=>?_⟩
   rcases Nat.lt_trichotomy i q with h1|h1|h1
   ·exact absurd U (Y i h1)
   ·omega
   ·exact absurd X (J q h1)
  ·by_cases Z:j=i
   ·subst Z;rw[U];intro h;exact he (j5 h).symm
   ·exact J j (by omega)
 ·rintro _ O k ⟨E,J⟩;simp only[ao,aa];refine⟨fun h=>by omega,fun _=>⟨E,-1,rfl,fun i hi=>?_⟩⟩;exact absurd hi (J i (x3.1 hi).1)
theorem FW {g:Nat} {sv:x1} {l:List Int} {w0:x2} (X:ad w0 g al [sv]) (O:aC .i64 w0 sv l):
  k4 x5 la [.pointer (some ⟨g,0,none⟩)] l.length (fun k vs _=>∃ x,l[k]? =some x∧vs=[.int .i64 x]) (fun w=>Ext w0 w):=by
 refine⟨la.enters,fun y Y ai w aj _ Z J ac=>?_⟩;refine n8 func283 ?_;rw[V (by kernel_rfl) ((X.ext J).cell (o:=0) rfl),aI al.u (O.ext J)];refine bV.range l.length (fun i E=>Y i E∧Ext w0 E) O.le ⟨ac,J⟩ ?_ ?_
 ·rintro i E k hi ⟨U,W⟩ ae;simp only[ao,aa];refine⟨fun _=>?_,fun h=>by omega⟩;obtain⟨x,J⟩:∃ x,l[i]? =some x:=⟨_,y0 hi⟩;rw[a1 al.u ab.i (by kernel_rfl) (O.ext W) J];refine⟨rfl,(Z i _ E hi W ⟨x,J,rfl⟩ U).mono ?_⟩;rintro _ ak (⟨rfl,af,ag⟩|⟨rfl,ah⟩)
  ·simp only[bJ,Z3,aP,aF];exact ae _ ⟨ag.1,af⟩
  ·simp only[bJ,Y8,bh];exact .inr ⟨i,hi,ah⟩
 ·rintro E k ⟨U,_⟩;simp only[ao,aa];exact⟨fun h=>by omega,fun _=>.inl U⟩
theorem rz {sv:x1} {l:List Int} {w:x2} {K:x1→x2→Prop} (h:aC .i64 w sv l) (V:l.length≤12)
  (W:∀ v w' g m,Ext w w'→w.heap.size≤g→m.Perm l→m.Pairwise (·≤ ·)→am .i64 ab w' g v m→K v w'):
  ah x5 ud [sv] w fun t O=>ah x5 uc [t] O K:=by
 refine FM.mono ?_;rintro _ O _ ⟨U,g,rfl,af,E⟩;have E:ad O g al [sv]:=by rw[h.cells.1] at E;exact E
 refine (FV (FW E (h.ext U)) (fun _ _ _ h=>h) (fun a b X J=>J.then X (fun r ag h=>by omega)) (Ext.refl _) rfl V).mono ?_;rintro v Y _ ⟨Z,aa,m,ai,h1,ac,ae⟩;have:=U.size;exact W v Y aa m (U.trans Z) (by omega) h1 ac ae
def FX (w:x2) (ai:List Int) (k:Int) (cs E:List Int) (v:x1) (w':x2):Prop:=
 Ext w w'∧
  (¬Good E ai.length→v= .tuple #[.pointer none,.int .i64 1])∧
  (Good E ai.length→ ∃ J O U,v= .tuple #[.pointer (some ⟨J,0,none⟩),.int .i64 0]∧cp w' J O U (dg ai E) k (kz ai cs E))
set_option maxHeartbeats 1000000 in
theorem FY {w:x2} {g bU:Nat} {sv aL:x1} {ai:List Int} {k:Int} {cs E:List Int} (h:cp w g bU sv ai k cs) (bW:right k) (az:aC .i64 w aL E) (cL:E.length≤12) (cM:Good E ai.length→aD (dg ai E)≤4096):
  ah x5 BK [.pointer (some ⟨g,0,none⟩),aL] w (FX w ai k cs E):=by
 have a8:=h;have cN:=h.2.2.1;have cO:=az.cells;refine jB func254 ?_;refine a7 fun bX dt du bY W=>?_;refine a7 fun bZ b1 dv bw O=>?_;have dw:=bY.size;have dx:=bw.size;have dy:=W.lt;have dz:=O.lt;have bx:=bY.trans bw;have W:ad b1 bX dA [.pointer (some ⟨g,0,none⟩)]:=W.ext bw;have O:ad b1 bZ al [aL]:=by rw[cO.1] at O;exact O
 rw[V (by kernel_rfl) (W.cell (o:=0) rfl),cB dA.u];simp only[c5,aP];rw[V (by kernel_rfl) (O.cell (o:=0) rfl)];have cP:=az.ext bx;have sub:∀ {w:x2} {g:Nat} {sv:x1} {k:Int} {aH:x1},ad w g ci [sv,.int .i64 k,aH]→w.rangeAt g (0+0) [sv]:=fun au=>kt au (by
  intro j v ac
  match j,ac with
  |0,ac=>exact ac)
 refine rz cP cL fun dC cQ dD m b2 dE bz cR hm=>?_;have cS:=bz.length_eq;rw[aI al.u hm.ls];have cT:=bx.trans b2;refine k3.range m.length (fun i _ _ bA=>Ext cQ bA∧ ∀ j,j<i→m[j]? =some (j:Int)) (by omega) ⟨Ext.refl _,fun j bB=>by omega⟩ ?_ ?_
 ·rintro i _ _ bA aM hi ⟨aN,bC⟩ aO;simp only[ao,aa];refine⟨fun _=>?_,fun h=>by omega⟩;obtain⟨y,aQ⟩:∃ y,m[i]? =some y:=⟨_,y0 hi⟩;rw[a1 al.u ab.i (by kernel_rfl) (hm.ls.ext aN) aQ];simp only[be,aa,aF];refine⟨fun aR dF cU _=>⟨(cT.trans aN).trans cU,fun _=>rfl,fun bD=>?_⟩,fun he=>aO _ _ _ ⟨aN,fun j bB=>?_⟩⟩
  ·have:=vF bD bz cR i hi;rw[aQ] at this;exact absurd (j5 this).symm aR
  ·by_cases cV:j=i
   ·subst cV;rw[aQ];congr 1;omega
   ·exact bC j (by omega)
 ·rintro _ _ bA aM ⟨aN,bC⟩;simp only[ao,aa,dj];refine⟨fun h=>by omega,fun _ dG cW _ _=>?_⟩;have X:Good E m.length:=DE bC bz;have aS:=(b2.trans aN).trans cW;have ba:=bx.trans aS;have W:=W.ext aS;have O:=O.ext aS;have cX:=az.ext ba;have cY:=a8.ext ba;have dH:=aS.size;obtain⟨⟨aH,gs,au,bb,b3⟩,_⟩:=id cY;rw[V (by kernel_rfl) (O.cell (o:=0) rfl),aI al.u cX,V (by kernel_rfl) (W.cell (o:=0) rfl),ax,ae ci.p rfl,bj (cs:=[sv]) a6.p a6.i rfl (sub au)];refine (wg bb.ls).mono ?_;rintro _ bc _ ⟨rfl,aw⟩;refine⟨.inl aw,?_⟩;simp only[be,aa];refine⟨fun aR dI cZ _=>⟨(ba.trans aw).trans cZ,fun _=>rfl,fun bD=>absurd (by rw[bD.1]) aR⟩,fun dJ=>?_⟩;have bE:E.length=ai.length:=by omega
  have X:Good E ai.length:=by rw[←bE,←cS];exact X
  have dK:=aS.trans aw;have bF:=ba.trans aw;have W:=W.ext aw;have O:=O.ext aw;have b4:=az.ext bF;rw[V (by kernel_rfl) (O.cell (o:=0) rfl),aI al.u b4];refine hN al.u ab.i (by omega) (by omega) fun aT b5 dL aA b6=>?_;have c0:am .i64 ab b5 aT (.slice (some ⟨aT,0,none⟩) E.length E.length) (v8 E.length 0):=am.of (n:=E.length) (br.full b6 (by simp) (by simp[maxLen];omega));generalize (x1.slice (some ⟨aT,0,none⟩) E.length E.length)=c1 at*;have dM:=aw.size;have dN:=aA.size;have dO:=b6.lt;rw[V (by kernel_rfl) ((O.ext aA).cell (o:=0) rfl),aI al.u (b4.ext aA)];have b7:=bF.trans aA;have bd:(dg ai E).length=E.length:=oG _ _;refine bV.range E.length (fun i ak=>af (fun r=>r=aT) b5 ak∧am .i64 ab ak aT c1 (upto (dg ai E) 0 i)) (by omega) ⟨af.refl _ _,by rw[mE,bd];exact c0⟩ ?_ ?_
  ·rintro i ak aM hi ⟨ay,bf⟩ aO;simp only[ao,aa];refine⟨fun _=>?_,fun h=>by omega⟩;have aU:Ext w ak:=b7.then ay (by rintro r Z rfl;omega);have bg:Ext bc ak:=aA.then ay (by rintro r Z rfl;omega);obtain⟨p,bG⟩:∃ p,E[i]? =some p:=⟨_,y0 hi⟩;obtain⟨⟨aH,gs,au,bb,b3⟩,_⟩:=a8.ext aU;rw[a1 al.u ab.i (by kernel_rfl) (az.ext aU) bG,V (by kernel_rfl) ((W.ext bg).cell (o:=0) rfl),ax,ae ci.p rfl,bj (cs:=[sv]) a6.p a6.i rfl (sub au)];refine (mL bb.ls).mono ?_;rintro _ dP _ ⟨rfl,b8⟩;have b9:=bf.ext b8;have c2:(upto (dg ai E) 0 i).length=E.length:=by rw[mD,bd]
   rw[fR rfl al.u ab.i b9 (by omega)];refine fS ab.i b9 (by omega) fun dQ c3 _ ca=>?_;simp only[aF];have h1:=(X.2 i p bG).1;have aV:(dg ai E)[i]? =some (fD ai p):=by
    unfold dg fD;rw[x6,bG,if_pos h1.1];rfl
   rw[mG aV] at ca;exact aO _ ⟨(ay.trans (b8.U _)).trans c3,ca⟩
  ·rintro ak aM ⟨ay,bf⟩;simp only[ao,aa];refine⟨fun h=>by omega,fun _=>?_⟩;have aU:Ext w ak:=b7.then ay (by rintro r Z rfl;omega);have bg:Ext bc ak:=aA.then ay (by rintro r Z rfl;omega);rw[←bd,mF] at bf;obtain⟨⟨aH,gs,au,bb,b3⟩,_⟩:=a8.ext aU;rw[V (by kernel_rfl) ((W.ext bg).cell (o:=0) rfl),ax,ae ci.p rfl,V (by kernel_rfl) (au.cell (o:=0+1) rfl)];have bh:bu (dg ai E):=cN.DG X rfl;have cb:=cM X;have dR:=prod_bound bh;refine (qN bf.ls).mono ?_;rintro _ bH _ ⟨cc,_,_,_,c4⟩;obtain⟨aB,Y,aE,rfl,dS,dT,dU,bk⟩:=c4 bh cb ⟨bW,by omega,by have:=bW.1;omega⟩;obtain⟨N,bl⟩:∃ N:Nat,(aD (dg ai E)).toNat=N:=⟨_,rfl⟩;rw[bl] at bk;rw[av (v:=.pointer (some ⟨aB,0,none⟩)) rfl,av (v:=.int .i64 0) rfl];refine bi dA.i fun cd dV dW cg aW=>?_;refine aZ dA.i rfl rfl aW (by simp[x1.cells]) fun c6 c7 dX aW=>?_;have dY:=ay.size;have dZ:=cc.size;have ea:=cg.size;have bI:Ext bH c6:=cg.then c7 (by rintro r Z rfl;omega);have ch:=cc.trans bI;have c8:=bk.ext bI;have eb:=aW.lt;obtain⟨⟨bJ,cj,ck,cl,c9⟩,⟨cm,cn,_⟩,_,ec⟩:=id c8;have ed:0<N:=by omega
   have ee:aB<bH.heap.size:=by obtain⟨⟨_,_,q,_⟩,_⟩:=id bk;exact q.lt
   have ef:Y<bH.heap.size:=by obtain⟨⟨_,_,_,_,q⟩,_⟩:=id bk;exact pf q (by simp;omega)
   rw[V (by kernel_rfl) (aW.cell (o:=0) rfl),ax,ae ci.p rfl,bj (cs:=[aE]) a6.p a6.i rfl (sub ck)];refine ra.mono ?_;rintro _ ag _ ⟨aq,bm,rfl,eg,cq⟩;have eh:=bI.size;have ei:=aq.size;let S:Nat→Prop:=fun r=>r=Y;let aG:=kz ai cs E;have bK:aG.length=N:=by simp only[aG];rw[vL,bl]
   let da:x2→Prop:=fun w'=>ad w' bX dA [.pointer (some ⟨g,0,none⟩)]∧ad w' bZ al [aL]∧ad w' cd dA [.pointer (some ⟨aB,0,none⟩)]∧ad w' aB ci [aE,.int .i64 k,bJ]∧
    cp w' g bU sv ai k cs∧aC .i64 w' aL E∧am .i64 ab w' cj aE (dg ai E)∧ad w' bm a6 [aE]∧ag.heap.size≤w'.heap.size
   have aJ:∀ {a:x2},af S ag a→da a:=by
    intro a J;have bL:Ext bc ag:=(bg.trans ch).trans aq;have bM:Ext bc a:=bL.then J (fun r Z he=>by have he:r=Y:=he;omega);have cr:Ext w a:=bF.trans bM;refine⟨W.ext bM,O.ext bM,(aW.ext aq).U J (by show ¬(cd=Y);omega),(ck.ext aq).U J (by show ¬(aB=Y);exact cm),a8.ext cr,az.ext cr,aX (cl.ext aq) J (fun r Z he=>cn ((show r=Y from he)▸Z)),
     cq.U J (by show ¬(bm=Y);omega),J.size⟩
   have ct:=q9 (g:=bm) (B0:=ag.heap.size) (sv:=aE) bh;rw[bl] at ct;refine⟨Nat,false,iV,#[.pointer (some ⟨bm,0,none⟩)],0,_,_,_,fun q w'=>af S ag w'∧am .i64 aj w' Y bJ (upto aG 0 q),fun _ _ _=>False,rfl,ct.s,
    ?_,fun _ _ J h=>⟨h.1.ext J,h.2.1.ext J,Z5 h.2.2 J.size⟩,fun _ _ _ J h=>⟨h.1.trans (J.U S),h.2.ext J⟩,fun _ _ _ _ _ h=>h,⟨cq,(cl.ext aq).ls,u9 _⟩,⟨af.refl _ _,?_⟩,?_,?_,fun _ _ h=>h.elim,fun _ _ _ h=>h.elim⟩
   ·rintro _ _ _ _ ⟨_,_,_,_,rfl,_⟩;rfl
   ·rw[mE,bK];exact c9.ext aq
   ·rintro _ ej q _ ek ⟨_,_,em⟩ ⟨aV,rfl,en,gt,db,eo,dc⟩ ⟨bn,dd⟩;cases db;let x:=ce (dg ai E) (q:Int);have cu:x.length=E.length:=by simp only[x];rw[gN,bd]
    intro de aK _ _;have cw:=dc.ext aK;rw[aI al.u cw.ls];refine hN al.u ab.i (by rw[gN];omega) (by rw[gN];omega) fun go cz ep bN cA=>?_;have df:am .i64 ab cz go (.slice (some ⟨go,0,none⟩) (ce (dg ai E) (q:Int)).length (ce (dg ai E) (q:Int)).length) (v8 (ce (dg ai E) (q:Int)).length 0):=am.of (n:=(ce (dg ai E) (q:Int)).length) (br.full cA (by simp) (by rw[gN];simp[maxLen];omega));generalize (x1.slice (some ⟨go,0,none⟩) (ce (dg ai E) (q:Int)).length (ce (dg ai E) (q:Int)).length)=dh at*;have er:=bn.size;have es:=aK.size;have et:=bN.size;have lo:=cA.lt;have di:af S ag cz:=bn.trans ((aK.trans bN).U S);have f:=aJ di;rw[V (by kernel_rfl) (f.2.1.cell (o:=0) rfl),aI al.u f.2.2.2.2.2.1];refine bV.range E.length (fun j bo=>Ext de bo∧ ∃ y:List Int,y.length=E.length∧am .i64 ab bo go dh y∧ ∀ (i:Nat) (p:Int),i<j→E[i]? =some p→y[p.toNat]? =x[i]?) (by omega)
     ⟨bN,_,by simp[cu,x],df,fun i p hi=>by omega⟩ ?_ ?_
    ·rintro j bo aM bB ⟨aY,y,bO,bp,bP⟩ aO;simp only[ao,aa];refine⟨fun _=>?_,fun h=>by omega⟩;have f:=aJ (bn.trans ((aK.trans aY).U S));obtain⟨p,bq⟩:∃ p,E[j]? =some p:=⟨_,y0 bB⟩;obtain⟨u,hu⟩:∃ u,x[j]? =some u:=⟨_,y0 (by omega)⟩;have eu:=(X.2 j p bq).1;rw[a1 al.u ab.i (by kernel_rfl) f.2.2.2.2.2.1 bq,a1 al.u ab.i (by kernel_rfl) (cw.ext aY).ls hu,fR (i:=p.toNat) (by omega) al.u ab.i bp (by omega)];refine fS ab.i bp (by omega) fun ev dk ew dl=>?_;simp only[aF];refine aO _ ⟨aY.then dk (by rintro r Z rfl;omega),_,by simpa using bO,dl,fun i bt hi a2=>?_⟩;by_cases cD:i=j
     ·subst cD;rw[bq] at a2;cases a2;rw[U1 (by omega),hu]
     ·have ey:=(X.2 i bt a2).1;have aR:p.toNat≠bt.toNat:=fun he=>by
       have:p=bt:=by omega
       subst this;exact cD (X.inj a2 bq)
      rw[List.getElem?_set_ne aR];exact bP i bt (by omega) a2
    ·rintro bo aM ⟨aY,y,bO,bp,bP⟩;simp only[ao,aa];refine⟨fun h=>by omega,fun _ dm cE _ _=>?_⟩;have aQ:y=jd E x:=vJ X (by rw[cu,bE]) (by rw[bO,bE]) fun i p cF=>bP i p (x3.1 cF).1 cF;have cG:=aY.trans cE;have cH:af S ag dm:=bn.trans ((aK.trans cG).U S);obtain⟨f1,f2,f3,f4,f5,f6,f7,f8,f9⟩:=aJ cH;rw[V (by kernel_rfl) (f3.cell (o:=0) rfl),ax,ae ci.p rfl,V (by kernel_rfl) (f4.cell (o:=0+2) rfl),V (by kernel_rfl) (f1.cell (o:=0) rfl)];refine (qO f5 (bp.ls.ext cE)).mono ?_;rintro _ ez _ ⟨rfl,bQ⟩;refine⟨.inl bQ,?_⟩;obtain⟨e,he⟩:=ry ai y cs;rw[he,av (v:=.int .i64 (cC ai cs y)) rfl,av (v:=.int .i64 e) rfl];have dn:=cH.trans (bQ.U S);have cI:=(dd.ext ((aK.trans cG).trans bQ));have c2:(upto aG 0 q).length=N:=by rw[mD,bK]
     rw[fR rfl ap.u aj.i cI (by omega)];refine fS aj.i cI (by omega) fun dp dq eA cJ=>?_;have cK:af S ag dp:=dn.trans (dq.mono fun r _ h=>h);obtain⟨f1,f2,f3,f4,f5,f6,f7,f8,f9⟩:=aJ cK;have dr:aG[q]? =some (cC ai cs y):=by
      simp only[aG,kz];rw[x6,List.getElem?_range (by rw[bl];exact aV),aQ];rfl
     rw[mG dr] at cJ;exact⟨⟨f8,f7.ls,f9⟩,⟨cK,cJ⟩,fun h=>by cases h⟩
   ·rintro q eB aV ⟨bR,bS⟩;rw[show q=N from aV] at bS;have f:=aJ bR;rw[V (by kernel_rfl) (f.2.2.1.cell (o:=0) rfl)];intro eC bT _;obtain⟨f1,f2,f3,f4,f5,f6,f7,f8,f9⟩:=aJ (bR.trans (bT.U S));rw[←bK,mF] at bS;have bL:Ext w ag:=(aU.trans ch).trans aq;refine⟨(bL.then bR (fun r Z he=>by have he:r=Y:=he;omega)).trans bT,fun ds=>absurd X ds,fun _=>⟨aB,Y,aE,rfl,⟨bJ,cj,f4,f7,bS.ext bT⟩,⟨cm,cn,cb⟩,bh,vL _ _ _⟩⟩
def eX (l:List Int):Prop:=∀ (i j:Nat) (x y:Int),i<j→l[i]? =some x→l[j]? =some y→x<y
theorem eX.inj {l:List Int} (h:eX l) {i j:Nat} {x:Int} (hi:l[i]? =some x) (E:l[j]? =some x):i=j:=by
 rcases Nat.lt_trichotomy i j with h1|h1|h1
 ·have:=h i j x x h1 hi E;omega
 ·exact h1
 ·have:=h j i x x h1 E hi;omega
def dedup (l:List Int):Nat→List Int
 |0=>[]
 |j+1=>if 0<j∧l[j]? =l[j-1]? then dedup l j else dedup l j++[l.getD j 0]
theorem xv (l:List Int):∀ j,(dedup l j).length≤j
 |0=>u9 _
 |j+1=>by
  have:=xv l j;unfold dedup;split
  ·omega
  ·simp;omega
theorem rA {l:List Int} {j:Nat} (E:0<j) (h:l[j]? =l[j-1]?):dedup l (j+1)=dedup l j:=by
 rw[dedup,if_pos ⟨E,h⟩]
theorem rB {l:List Int} {j:Nat} {x:Int} (J:l[j]? =some x) (h:0<j→l[j]? ≠l[j-1]?):dedup l (j+1)=dedup l j++[x]:=by
 rw[dedup,if_neg (fun E=>h E.1 E.2),u6,J];rfl
theorem pk {l:List Int}:∀ {j:Nat},j≤l.length→(∀ i,i<j→0<i→l[i]? ≠l[i-1]?)→dedup l j=l.take j
 |0,_,_=>by simp[dedup]
 |j+1,O,h=>by
  have J:l[j]? =some l[j]:=y0 (by omega);rw[rB J (h j (by omega)),pk (by omega) (fun i hi E=>h i (by omega) E),u4,J];rfl
theorem xw {l:List Int} (U:l.Pairwise (·≤ ·)):∀ {j:Nat},j≤l.length→(eX (dedup l j)∧ ∀ x,x∈dedup l j↔x∈l.take j)
 |0,_=>⟨fun i j x y _ h=>by simp[dedup] at h,fun x=>by simp[dedup]⟩
 |j+1,ah=>by
  obtain⟨h1,V⟩:=xw U (j:=j) (by omega);have J:l[j]? =some l[j]:=y0 (by omega);by_cases O:0<j∧l[j]? =l[j-1]?
  ·rw[rA O.1 O.2];refine⟨h1,fun x=>?_⟩;rw[V,u4,J];simp only[l9,p9,p8];refine⟨.inl,fun h=>h.elim id fun he=>?_⟩;subst he;have X:(l.take j)[j-1]? =some l[j]:=by rw[c7 (by omega),←O.2,J]
   exact x4 X
  ·have Y:0<j→l[j]? ≠l[j-1]?:=fun ab he=>O ⟨ab,he⟩;rw[rB J Y];have ac:∀ x∈dedup l j,x<l[j]:=fun x ad=>by
    obtain⟨i,hi,he⟩:=List.getElem_of_mem ((V x).1 ad);have ai:i<j:=by rw[o5] at hi;omega
    rw[List.getElem_take] at he;subst he;have X:l[i]≤l[j-1]:=by
     by_cases Z:i=j-1
     ·subst Z;exact Int.le_refl _
     ·exact X3.1 U i (j-1) (by omega) (by omega) (by omega)
    have Z:=X3.1 U (j-1) j (by omega) (by omega) (by omega);have aa:=Y (by omega);rw[J,y0 (show j-1<l.length by omega)] at aa;have aj:l[j]≠l[j-1]:=fun h=>aa (by rw[h]);omega
   refine⟨fun a b x y ae W E=>?_,fun x=>?_⟩
   ·have af:=(x3.1 E).1;simp only[r8,l6,List.length_nil] at af;rw[Z0 (by omega)] at W;by_cases ag:b=(dedup l j).length
    ·subst ag;rw[Z2 (u9 _),X6] at E;simp at E;subst E;exact ac x (x4 W)
    ·rw[Z0 (by omega)] at E;exact h1 a b x y ae W E
   ·rw[u4,J];simp only[l9,p9,p8,V]
def m9 (l:List Int):Prop:=∀ (j:Nat) (x:Int),l[j]? =some x→0≤x∧(0<j→ ∀ y,l[j-1]? =some y→y<x)
theorem m9.up {l:List Int} (h:m9 l):eX l:=by
 intro i j x y W J;induction j generalizing y with
 |zero=>omega
 |succ j U=>
  intro O;have X:=(x3.1 O).1;obtain⟨z,E⟩:∃ z,l[j]? =some z:=⟨_,y0 (show j<l.length by omega)⟩;have h1:=(h (j+1) y O).2 (by omega) z (by simpa using E);by_cases V:i=j
  ·subst V;rw[J] at E;cases E;exact h1
  ·have:=U z (by omega) E;omega
theorem FZ {l:List Int} (h:eX l) (E:∀ x∈l,0≤x):m9 l:=fun j x J=>⟨E x (x4 J),fun U y O=>h (j-1) j y x (by omega) O J⟩
theorem xx {w:x2} {g am:Nat} {sv af:x1} {ai l:List Int} {k:Int} {cs:List Int} (h:cp w g am sv ai k cs) (E:aC .i64 w af l):
  ah x5 BL [.pointer (some ⟨g,0,none⟩),af] w fun v w'=>Ext w w'∧ ∃ c,v= .bool c∧(c=true↔l.length=ai.length∧m9 l):=by
 obtain⟨⟨aH,gs,ap,hm,V⟩,_⟩:=h;have sub:w.rangeAt g (0+0) [sv]:=kt ap (by
  intro j v ac
  match j,ac with
  |0,ac=>exact ac)
 refine aq func255 ?_;rw[aI al.u E,ax,ae ci.p rfl,bj (cs:=[sv]) a6.p a6.i rfl sub];refine (wg hm.ls).mono ?_;rintro _ aE _ ⟨rfl,W⟩;simp only[be,aa];refine⟨fun au=>⟨W,false,rfl,(fun h=>by cases h),fun h=>absurd (by rw[h.1]) au⟩,fun aj=>?_⟩;have aj:l.length=ai.length:=by omega
 rw[aI al.u (E.ext W)];refine bM.range l.length (fun i _ U=>Ext w U∧ ∀ (j:Nat) (x:Int),j<i→l[j]? =some x→0≤x∧(0<j→ ∀ y,l[j-1]? =some y→y<x)) E.le ⟨W,fun j x av=>by omega⟩ ?_ ?_
 ·rintro i _ U aw hi ⟨O,X⟩ ay;simp only[ao,aa];refine⟨fun _=>?_,fun h=>by omega⟩;obtain⟨x,J⟩:∃ x,l[i]? =some x:=⟨_,y0 hi⟩;have aG:=E.le;rw[a1 al.u ab.i (by kernel_rfl) (E.ext O) J];refine aL (fun v az=>U=az∧ ∃ c,v= .bool c∧(c=false↔0≤x∧(0<i→ ∀ y,l[i-1]? =some y→y<x))) ?_ ?_
  ·rintro _ _ ⟨rfl,c,rfl,V⟩;rw[b3];simp only[aF];refine⟨fun aA=>⟨O,false,rfl,(fun h=>by cases h),fun h=>?_⟩,fun ag=>ay _ _ ⟨O,fun j aB av Y=>?_⟩⟩
   ·have:=V.2 (h.2 i x J);rw[aA] at this;cases this
   ·by_cases aD:j=i
    ·subst aD;rw[J] at Y;cases Y;exact V.1 ag
    ·exact X j aB (by omega) Y
  ·intro aJ Z;simp only[ao,bA,cY,aa];refine⟨fun aK=>Z _ _ ⟨rfl,true,rfl,(fun h=>by cases h),fun h=>by omega⟩,fun aM=>⟨fun aN=>?_,fun aO=>Z _ _ ⟨rfl,false,rfl,fun _=>⟨by omega,fun h=>by omega⟩,fun _=>rfl⟩⟩⟩;obtain⟨y,ad⟩:∃ y,l[i-1]? =some y:=⟨_,y0 (show i-1<l.length by omega)⟩;rw[wrap_i64 (by omega) (by omega),eS (i:=i-1) (by omega) al.u ab.i (by kernel_rfl) (E.ext O) ad];simp only[ca];refine Z _ _ ⟨rfl,_,rfl,?_⟩;rw[decide_eq_false_iff_not];refine⟨fun h=>⟨by omega,fun _ aP ak=>by rw[ad] at ak;cases ak;omega⟩,fun h=>by have:=h.2 (by omega) y ad;omega⟩
 ·rintro _ U aw ⟨O,X⟩;simp only[ao,aa];exact⟨fun h=>by omega,fun _=>⟨O,true,rfl,fun _=>⟨aj,fun j x J=>X j x (x3.1 J).1 J⟩,fun _=>rfl⟩⟩
def eY (l:List Int) (x:Int):Int:=if x∈l then (l.idxOf x:Int) else-1
theorem rC {l:List Int} {i:Nat} {x:Int} (h:eX l) (hi:l[i]? =some x):eY l x=i:=by
 have hm:x∈l:=x4 hi;have E:=List.idxOf_lt_length_of_mem hm;have J:l.idxOf x=i:=h.inj (by rw[y0 E,List.getElem_idxOf E]) hi;unfold eY;rw[if_pos hm,J]
theorem F0 {l:List Int} {x:Int} (h:x∉l):eY l x= -1:=if_neg h
theorem pm {sv:x1} {l:List Int} {x:Int} {w:x2} (h:aC .i64 w sv l) (hu:eX l):
  ah x5 qp [sv,.int .i64 x] w fun v w'=>v= .int .i64 (eY l x)∧Ext w w':=by
 refine aq func103 ?_;rw[aI al.u h];refine bM.range l.length (fun i _ J=>Ext w J∧ ∀ j,j<i→l[j]? ≠some x) h.le ⟨Ext.refl _,fun j V=>by omega⟩ ?_ ?_
 ·rintro i _ J k hi ⟨E,O⟩ W;simp only[ao,aa];refine⟨fun _=>?_,fun h=>by omega⟩;obtain⟨y,U⟩:∃ y,l[i]? =some y:=⟨_,y0 hi⟩;rw[a1 al.u ab.i (by kernel_rfl) (h.ext E) U];simp only[bc,aa,aF];refine⟨fun he=>⟨?_,E⟩,fun he=>W _ _ ⟨E,fun j V=>?_⟩⟩
  ·subst he;rw[rC hu U]
  ·by_cases X:j=i
   ·subst X;rw[U];intro h;exact he (j5 h).symm
   ·exact O j (by omega)
 ·rintro _ J k ⟨E,O⟩;simp only[ao,aa];refine⟨fun h=>by omega,fun _=>⟨?_,E⟩⟩;rw[F0];intro hm;obtain⟨i,hi,he⟩:=List.getElem_of_mem hm;exact O i hi (by rw[y0 hi,he])
def dv (x vars scope:List Int):List Int:=scope.map fun p=>x.getD (vars.idxOf p) 0
theorem F1 (x vars scope:List Int):(dv x vars scope).length=scope.length:=by simp[dv]
theorem xy {w:x2} {Z ad sv:x1} {x vars scope:List Int} (J:aC .i64 w Z x) (ac:aC .i64 w ad vars) (W:aC .i64 w sv scope) (hu:eX vars) (aj:∀ p∈scope,p∈vars) (aA:x.length=vars.length) (aB:scope.length≤1000):
  ah x5 BQ [Z,ad,sv] w fun v w'=>Ext w w'∧ ∃ g,w.heap.size≤g∧am .i64 ab w' g v (dv x vars scope):=by
 refine aq func260 ?_;rw[aI al.u W];refine hN al.u ab.i (by omega) (by omega) fun O ak aD ae ap=>?_;have au:am .i64 ab ak O (.slice (some ⟨O,0,none⟩) scope.length scope.length) (v8 scope.length 0):=am.of (n:=scope.length) (br.full ap (by simp) (by simp[maxLen];omega));generalize (x1.slice (some ⟨O,0,none⟩) scope.length scope.length)=av at*;rw[aI al.u (W.ext ae)];have X:=F1 x vars scope;refine bV.range scope.length (fun i U=>Ext w U∧am .i64 ab U O av (upto (dv x vars scope) 0 i)) (by omega) ⟨ae,by rw[mE,X];exact au⟩ ?_ ?_
 ·rintro i U aw hi ⟨E,hm⟩ ax;simp only[ao,aa];refine⟨fun _=>?_,fun h=>by omega⟩;obtain⟨p,Y⟩:∃ p,scope[i]? =some p:=⟨_,y0 hi⟩;have af:=aj p (x4 Y);have aE:=List.idxOf_lt_length_of_mem af;rw[a1 al.u ab.i (by kernel_rfl) (W.ext E) Y];refine (pm (ac.ext E) hu).mono ?_;rintro _ aG _ ⟨rfl,V⟩;have e:eY vars p=(vars.idxOf p:Int):=if_pos af;obtain⟨u,ag⟩:∃ u,x[vars.idxOf p]? =some u:=⟨_,y0 (by omega)⟩;have aH:(upto (dv x vars scope) 0 i).length=scope.length:=by rw[mD,X]
  rw[eS (i:=vars.idxOf p) e al.u ab.i (by kernel_rfl) (J.ext (E.trans V)) ag,fR rfl al.u ab.i (hm.ext V) (by omega)];refine fS ab.i (hm.ext V) (by omega) fun aJ ay _ ai=>?_;simp only[aF];have az:(dv x vars scope)[i]? =some u:=by
   unfold dv;rw[x6,Y,j6,u6,ag];rfl
  rw[mG az] at ai;exact ax _ ⟨(E.trans V).then ay (by rintro r aK rfl;omega),ai⟩
 ·rintro U aw ⟨E,hm⟩;simp only[ao,aa];refine⟨fun h=>by omega,fun _=>⟨E,O,by omega,?_⟩⟩;rw[←X,mF] at hm;exact hm
theorem xz {t:List Int} (V:t≠[]) (hw:∀ b∈t,bg b=true):lex t=([t],true):=by
 cases t with
 |nil=>exact absurd rfl V
 |cons b q=>
  have E:q.dropWhile bg=[]:=by
   have:∀ (q:List Int),(∀ x∈q,bg x=true)→q.dropWhile bg=[]∧q.takeWhile bg=q:=fun q E=>by
    induction q with
    |nil=>simp
    |cons x q O=>
     have:=O fun y U=>E y (.tail _ U);simp[E x (.head _),this.1,this.2]
   exact (this q fun x J=>hw x (.tail _ J)).1
  have W:q.takeWhile bg=q:=by
   have:∀ (q:List Int),(∀ x∈q,bg x=true)→q.takeWhile bg=q:=fun q E=>by
    induction q with
    |nil=>simp
    |cons x q O=>simp[E x (.head _),O fun y U=>E y (.tail _ U)]
   exact this q fun x J=>hw x (.tail _ J)
  rw[u1 (hw b (.head _)),E,W]
theorem xA {w:x2} {p:x1} {l:List Int} (h:aC .u8 w p l) (J:Bytes l) (O:l.length≤100000):ah x5 tR [p] w fun v w'=>Ext w w'∧ ∃ g R,v= .pointer (some ⟨g,0,none⟩)∧w.heap.size≤g∧fl w' g R (lex l).1 (lex l).2∧¬R g:=by
 refine (vf h J O).mono ?_;rintro _ Z _ ⟨U,g,rfl,V,W,E⟩;obtain⟨h1,aa,ab,X,ac,hm⟩:=id E;exact⟨U,g,fun r=>r≠g,rfl,V,⟨W,l,0,E,fun r Y=>bB hm X (by decide) Y,by rw[List.drop_zero]⟩,fun h=>h rfl⟩
theorem F2 {w:x2} {p:x1} {t:List Int} (h:aC .u8 w p t) (Z:Bytes t) (ab:t.length≤100000) (ac:t≠[]) (hw:∀ b∈t,bg b=true):ah x5 BX [p] w fun v w'=>Ext w w'∧ ∃ n:Int,v= .tuple #[.int .i64 1,.int .i64 n,.int .i64 0]:=by
 have ad:=xz ac hw;refine aq func279 ?_;refine (xA h Z ab).mono ?_;rintro _ ae _ ⟨ag,g,R,rfl,aj,V,ak⟩;rw[ad] at V;refine⟨fun _ _ _ E J=>af (fun r=>r=g) ae J∧((E= .int .i64 0∧fl J g R [t] true)∨(E= .int .i64 1∧fl J g R [] true)),fun _ _ _ E _=>1-(bl E).toNat,⟨af.refl _ _,.inl ⟨rfl,V⟩⟩,?_⟩;rintro _ _ _ _ J ⟨W,⟨rfl,O⟩|⟨rfl,O⟩⟩
 ·refine (mI O).mono ?_;rintro v X _ ⟨U,ai,n,rfl⟩;rw[av (v:=bb t) rfl,av (v:=.int .i64 n) rfl,av (v:=.int .i64 0) rfl,bc,aa];refine⟨fun _=>?_,fun h=>absurd rfl h⟩;rw[aF,wrap_i64 (by omega) (by omega)];exact⟨⟨W.trans U,.inr ⟨rfl,ai⟩⟩,by simp[bl]⟩
 ·refine (mI O).mono ?_;rintro v X _ ⟨U,n,rfl⟩;rw[av (v:=bb []) rfl,av (v:=.int .i64 n) rfl,av (v:=.int .i64 (if true then 2 else 11)) rfl,bc,aa];refine⟨fun h=>by simp at h,fun _=>?_⟩;rw[bc,aa];refine⟨fun h=>by simp at h,fun _=>?_⟩;have Y:Ext w X:=ag.then (W.trans U) (fun r al he=>by have he:r=g:=he;omega);rw[aI bZ.u (h.ext Y)];exact⟨Y,_,rfl⟩
theorem F3 {w:x2} {t:List Int} (E:Bytes t) (J:t.length≤100000) (O:t≠[]) (hw:∀ b∈t,bg b=true):ah x5 BG [bb t] w fun v w'=>v= .bool true∧Ext w w':=by
 have Z:=xz O hw;refine aq func247 ?_;refine qS cc.u bZ.u bY.u E (by omega) fun bv aj U ab _=>?_;refine (F2 ab E J O hw).mono ?_;rintro _ ak _ ⟨V,n,rfl⟩;rw[av (v:=.int .i64 1) rfl,av (v:=.int .i64 n) rfl,av (v:=.int .i64 0) rfl];refine qS cc.u bZ.u bY.u E (by omega) fun al am W ac _=>?_;refine (xA ac E J).mono ?_;rintro _ ao _ ⟨ad,g,R,rfl,ap,X,au⟩;rw[Z] at X;refine (mI X).mono ?_;rintro _ Y _ ⟨ae,_,m,rfl⟩;rw[av (v:=bb t) rfl,av (v:=.int .i64 m) rfl,av (v:=.int .i64 0) rfl];have af:Ext w Y:=(((U.trans V).trans (W.trans ad))).then ae (fun r aw he=>by
  have he:r=g:=he;have:=U.size;have:=V.size;have:=W.size;omega)
 refine aL (fun v ag=>Y=ag∧v= .bool true) ?_ ?_
 ·rintro _ _ ⟨rfl,rfl⟩;exact⟨rfl,af⟩
 ·intro ax ai;rw[bc,aa];refine⟨fun _=>?_,fun h=>absurd rfl h⟩;rw[bc,aa];refine⟨fun _=>?_,fun h=>absurd rfl h⟩;rw[uX E E];exact ai _ _ ⟨rfl,by rw[decide_eq_true rfl]⟩
theorem F4 {x:Int} {w:x2}:ah x5 qy [.int .i64 x] w fun v w'=>v= .bool (decide (¬fQ x))∧Ext w w':=by
 refine aq func246 ?_;refine aL (fun v U=>w=U∧v= .bool (decide (¬fQ x))) ?_ ?_
 ·rintro _ _ ⟨rfl,rfl⟩;exact⟨rfl,Ext.refl _⟩
 ·intro W J;rw[ao,aa];refine⟨fun h=>J _ _ ⟨rfl,by rw[decide_eq_true];intro E;have:=E.1;omega⟩,fun h=>?_⟩;rw[bA];refine J _ _ ⟨rfl,?_⟩;congr 1;rw[X5,decide_eq_true_eq,decide_eq_true_eq];exact⟨fun O E=>by have:=E.2;omega,fun O=>by
   by_cases V:32<x
   ·exact V
   ·exact absurd ⟨by omega,by omega⟩ O⟩
theorem F5 {sv:x1} {l:List Int} {w:x2} (h:aC .i64 w sv l) (U:∀ x∈l,fQ x):
  ah x5 qv [sv,.func (.func qy) #[] #[]] w fun v w'=>v= .bool false∧Ext w w':=by
 refine aq func196 ?_;refine ah.mono (K:=fun v w'=>v= .int .i64 (-1)∧Ext w w') ?_ ?_
 ·refine aq func170 ?_;rw[aI al.u h];refine bM.range l.length (fun _ _ E=>Ext w E) h.le (Ext.refl _) ?_ ?_
  ·rintro i _ E k hi J V;rw[ao,aa];refine⟨fun _=>?_,fun h=>by omega⟩;obtain⟨x,O⟩:∃ x,l[i]? =some x:=⟨_,y0 hi⟩;rw[a1 al.u ab.i (by kernel_rfl) (h.ext J) O];show ah x5 qy [.int .i64 x] E _;refine F4.mono ?_;rintro _ Y _ ⟨rfl,W⟩;rw[aa];refine⟨fun X=>absurd (U x (x4 O)) X,fun _=>?_⟩;rw[aF];exact V _ _ (J.trans W)
  ·rintro _ E k J;rw[ao,aa];exact⟨fun h=>by omega,fun _=>⟨rfl,J⟩⟩
 ·rintro _ E _ ⟨rfl,J⟩;rw[ca];exact⟨rfl,J⟩
theorem pn {m:Bool} {S R:an} {w:x2} {cs:List x1} {d:fc} (h:ay.rep m S R w cs d):∃ sv g E J gs,cs=[sv,.pointer (some ⟨g,0,none⟩)]∧aC .i64 w sv d.1∧eg w g E J gs d.2.ai d.2.k d.2.o d.2.D:=by
 obtain⟨c,e,A,B,rfl,_,_,_,h1,O⟩:=h;have h1:ay.rep (α:=List Int) false a8 R w c d.1:=h1;obtain⟨u,rfl⟩:=W8.1 (show c.length=1 from ay.len h1);obtain⟨g,m,sv,gs,rfl,U,_⟩:=O;exact⟨u,g,m,sv,gs,rfl,jH h1,U⟩
set_option maxHeartbeats 4000000 in
theorem F6 {N:Nat} {w:x2} {aC:Nat} {f:bx} {cs:List x1} {d:fc} {x:bH} {m:Bool} {S R:an} (aQ:iC w aC f) (aR:dP N f) (aS:x∈f.funs) (aT:m8 f.k x d) (aU:ay.rep m S R w cs d):
  ah x5 BY [.pointer (some ⟨aC,0,none⟩),.agg cs.toArray] w fun v w'=>v= .bool true∧Ext w w':=by
 obtain⟨au,bd,bf,bg,aD,aE,_,_⟩:=aQ;obtain⟨sv,gT,bh,bi,gs,rfl,U,am⟩:=pn aU;obtain⟨aV,aG,aW,bj,bk,bl⟩:=aT;obtain⟨af,bm,bn⟩:=aR.funs x aS;rw[aV] at U;refine aq func281 ?_;refine a7 fun aJ aH bo X ag=>?_;have ag:ad aH aJ bN [sv,.pointer (some ⟨gT,0,none⟩)]:=by obtain⟨_,_,_,rfl⟩:=ct U;exact ag
 refine aL (fun v aj=>Ext aH aj∧v= .bool false) ?_ ?_
 rotate_left
 ·intro aX ap;intro aj O _ _;have W:=ag.ext O;rw[ae bN.p rfl,V (by kernel_rfl) (W.cell (o:=0+1) rfl),cB dB.u];simp only[c5,aP];rw[ae bN.p rfl,V (by kernel_rfl) (W.cell (o:=0+1) rfl),ax,ae bS.p rfl,V (by kernel_rfl) ((aD.ext (X.trans O)).cell (o:=0+1) rfl)];refine (Ei (am.ext (X.trans O)).is).mono ?_;rintro _ Y _ ⟨rfl,E⟩;refine⟨.inl E,?_⟩;rw[be,aa];refine⟨fun h=>absurd aW h,fun _=>?_⟩;have Z:=W.ext E;have av:=O.trans E;rw[ae bN.p rfl,V (by kernel_rfl) (Z.cell (o:=0+1) rfl),ae bN.p rfl,V (by kernel_rfl) (Z.cell (o:=0+0) rfl),aI al.u (U.ext (X.trans av))];refine (Ej (am.ext (X.trans av)).is).mono ?_;rintro _ ak _ ⟨rfl,J⟩;refine⟨.inl J,?_⟩;rw[be];refine ap _ _ ⟨av.trans J,?_⟩;rw[decide_eq_false];intro h;exact h (by rw[aG,af.sizes,u7])
 rintro _ aj ⟨O,rfl⟩;rw[aP];have W:=ag.ext O;have aw:=X.trans O;rw[ae bN.p rfl,V (by kernel_rfl) (W.cell (o:=0+0) rfl),aI al.u (U.ext aw)];refine bM.range x.scope.length (fun _ _ Y=>Ext aj Y) (by omega) (Ext.refl _) ?_ ?_
 rotate_left
 ·rintro _ Y k E;rw[ao,aa];exact⟨fun h=>by omega,fun _=>⟨rfl,aw.trans E⟩⟩
 rintro i _ Y k hi E aY;obtain⟨v,ac⟩:∃ v,x.scope[i]? =some v:=⟨_,y0 hi⟩;have bp:=af.scope.2 v (x4 ac);have az:=aw.trans E;have Z:=W.ext E;have aK:=aD.ext az;have aZ:f.sizes[v.toNat]? =some (f.sizes.getD v.toNat 0):=by
  rw[u6,y0 (by omega)];rfl
 rw[ao,aa];refine⟨fun _=>?_,fun h=>by omega⟩;rw[a1 al.u ab.i (by kernel_rfl) (U.ext az) ac];refine aL (fun b ak=>Ext Y ak∧b= .bool false) ?_ ?_
 ·rintro _ ak ⟨J,rfl⟩;rw[aP,aF];exact aY _ _ (E.trans J)
 ·intro aX ap;intro ak J _ _;have aA:=az.trans J;rw[ao,aa];refine⟨fun h=>by omega,fun _=>?_⟩;rw[ax,ae bS.p rfl,V (by kernel_rfl) ((aK.ext J).cell (o:=0+2) rfl),aI al.u (aE.ls.ext aA),ca,aa];refine⟨fun h=>by omega,fun _=>?_⟩;rw[ae bN.p rfl,V (by kernel_rfl) ((Z.ext J).cell (o:=0+0) rfl)];refine (xu (U.ext aA)).mono ?_;rintro _ bq _ ⟨aM,r,rfl,a2⟩;have a6:r=(i:Int):=(a2 i ac).2 fun j br a8=>by have:=hW af.scope.1 a8 ac;omega
  subst a6;have aN:=aA.trans aM;have aB:=J.trans aM;rw[be,aa];refine⟨fun h=>absurd rfl h,fun _=>?_⟩;rw[ae bN.p rfl,V (by kernel_rfl) ((Z.ext aB).cell (o:=0+1) rfl),ax,ae bS.p rfl,V (by kernel_rfl) ((aK.ext aB).cell (o:=0+2) rfl)];refine oy (y:=v) (i:=v.toNat) (by omega) al.u ab.i (aE.ls.ext aN) aZ fun b o ba=>?_;rw[V (by kernel_rfl) ba];refine (rf (am.ext aN).is).mono ?_;rintro bt bu _ ⟨aO,bw,bz,bb⟩;refine⟨.inl aO,?_⟩;have bc:d.2.ai[i]? =some (f.sizes.getD v.toNat 0):=by
   rw[aG,af.sizes,x6,ac];rfl
  rw[a1 al.u ab.i (by kernel_rfl) bb.ls bc,be];exact ap _ _ ⟨aB.trans aO,by rw[decide_eq_false (fun h=>h rfl)]⟩
theorem F7 {N:Nat} {w:x2} {U:Nat} {f:bx} {cs:List x1} {d:fc} {x:bH} {m:Bool} {S R:an} (V:iC w U f) (W:dP N f) (X:x∈f.funs) (Y:m8 f.k x d) (E:ay.rep m S R w cs d):
  ah x5 qz [.pointer (some ⟨U,0,none⟩),.agg cs.toArray] w fun v w'=>v= .bool false∧Ext w w':=by
 refine aq func249 ?_;refine a7 fun aJ Z ae J O=>?_;have aa:cs.length=2:=ay.len E;have O:ad Z aJ bN cs:=by
  obtain⟨sv,gT,af,ag,gs,rfl,ab,ai⟩:=pn E;obtain⟨_,_,_,rfl⟩:=ct ab;exact O
 rw[bj bN.p bN.i aa O.range];refine (F6 (V.ext J) W X Y (cT E J)).mono ?_;rintro _ aj _ ⟨rfl,ac⟩;rw[bJ];exact⟨rfl,J.trans ac⟩
theorem F8 {N:Nat} {w:x2} {U:Nat} {f:bx} {W:x1} {O:List fc} {m:Bool} {S R:an} (ab:iC w U f) (ac:dP N f) (V:ay.rep m S R w [W] O) (X:pj f.k f.funs O):
  ah x5 BH [W,.func (.func qz) #[.pointer (some ⟨U,0,none⟩)] #[]] w fun v w'=>v= .bool false∧Ext w w':=by
 refine aq func248 ?_;refine ah.mono (K:=fun v w'=>v= .int .i64 (-1)∧Ext w w') ?_ ?_
 ·refine aq func280 ?_;rw[io cP.u V];refine bM.range O.length (fun _ _ E=>Ext w E) (qH V) (Ext.refl _) ?_ ?_
  ·rintro i _ E k hi J ad;rw[ao,aa];refine⟨fun _=>?_,fun h=>by omega⟩;obtain⟨d,Y⟩:∃ d,O[i]? =some d:=⟨_,y0 hi⟩;obtain⟨x,Z⟩:∃ x,f.funs[i]? =some x:=⟨_,y0 (by have:=X.1;omega)⟩;refine lk (α:=fc) bN.p rfl cP.u bN.i (cT V J) Y fun cs ae=>?_;show ah x5 qz [.pointer (some ⟨U,0,none⟩),.agg cs.toArray] E _;refine (F7 (ab.ext J) ac (x4 Z) (X.2 i x d Z Y) ae).mono ?_;rintro _ ag _ ⟨rfl,af⟩;rw[aP,aF];exact ad _ _ (J.trans af)
  ·rintro _ E k J;rw[ao,aa];exact⟨fun h=>by omega,fun _=>⟨rfl,J⟩⟩
 ·rintro _ E _ ⟨rfl,J⟩;rw[ca];exact⟨rfl,J⟩
def jg (E:List bH):Nat:=(E.map fun x=>x.lines.length).sum
set_option maxHeartbeats 4000000 in
theorem F9 {N:Nat} {w:x2} {aT:Nat} {f:bx} (aU:iC w aT f) (J:dP N f) (bH:N≤60000) (aG:f.name≠[]∧ ∀ b∈f.name,bg b=true):
  ah x5 Bo [.pointer (some ⟨aT,0,none⟩)] w fun v w'=>Ext w w'∧ ∃ e:Int,v= .int .i64 e∧(jg f.funs≤16384→e=0):=by
 obtain⟨au,bI,bK,W,X,aH,aK,Y⟩:=id aU;have bL:=J.name;have a8:Bytes f.name:=fun b ba=>by
  have:=of_decide_eq_true (aG.2 b ba);omega
 refine aq func209 ?_;rw[cB qA.u];simp only[c5,aP];refine aL (fun v af=>Ext w af∧v= .bool false) ?_ ?_
 rotate_left
 ·intro aM U;rw[ax,ae bS.p rfl,V (by kernel_rfl) (X.cell (o:=0+0) rfl)];refine (F3 a8 (by omega) aG.1 aG.2).mono ?_;rintro _ af _ ⟨rfl,E⟩;rw[bJ,Z3,aP];rw[ax,ae bS.p rfl,V (by kernel_rfl) ((X.ext E).cell (o:=0+2) rfl),aI al.u (aH.ls.ext E),bc,aa];refine⟨fun h=>by have:=J.sizes.1;omega,fun _=>?_⟩;rw[ax,ae bS.p rfl,V (by kernel_rfl) ((X.ext E).cell (o:=0+2) rfl)];refine (F5 (aH.ls.ext E) J.sizes.2.2).mono ?_;rintro _ O _ ⟨rfl,Z⟩;have aV:=E.trans Z;rw[aP,ax,ae bS.p rfl,V (by kernel_rfl) ((X.ext aV).cell (o:=0+1) rfl)];refine uE.mono ?_;rintro _ ad _ ⟨rfl,ag⟩;have aA:=aV.trans ag;rw[decide_eq_true (show right f.k from J.k),bJ,Z3,aP,ax,ae bS.p rfl,V (by kernel_rfl) ((X.ext aA).cell (o:=0+3) rfl),hL];refine (F8 (aU.ext aA) J (cT aK aA) Y).mono ?_;rintro _ aW _ ⟨rfl,bb⟩;exact U _ _ ⟨aA.trans bb,rfl⟩
 rintro _ af ⟨E,rfl⟩;rw[aP];have aB:=X.ext E;refine aL (fun v O=>af=O∧v= .bool false) ?_ ?_
 rotate_left
 ·intro aM U;rw[ax,ae bS.p rfl,V (by kernel_rfl) (aB.cell (o:=0+0) rfl),kv cc.u,bA,aa];refine⟨fun h=>by omega,fun _=>?_⟩;rw[ax,ae bS.p rfl,V (by kernel_rfl) (aB.cell (o:=0+2) rfl),aI al.u (aH.ls.ext E),bA,aa];refine⟨fun h=>by have:=J.sizes.2.1;omega,fun _=>?_⟩;rw[ax,ae bS.p rfl,V (by kernel_rfl) (aB.cell (o:=0+3) rfl),io cP.u (cT aK E),bA];exact U _ _ ⟨rfl,by rw[decide_eq_false];have:=J.iu;have:=Y.1;omega⟩
 rintro _ _ ⟨rfl,rfl⟩;have aX:=cT aK E;rw[ax,ae bS.p rfl,V (by kernel_rfl) (aB.cell (o:=0+3) rfl),io cP.u aX];refine⟨fun bd be aN O=>∃ i n:Nat,aN= .int .i64 (i:Int)∧i≤W.length∧bd= .int .i64 (n:Int)∧be= .bool false∧Ext af O∧n≤jg (f.funs.take i)∧n≤i*60000,fun _ _ aN _=>W.length-(bl aN).toNat,
  ⟨0,0,rfl,Z1 _,rfl,rfl,Ext.refl _,Z1 _,by omega⟩,?_⟩
 rintro _ _ _ O ⟨i,n,rfl,hi,rfl,rfl,Z,bf,bO⟩;have bQ:W.length≤256:=by rw[Y.1];exact J.iu
 rw[ao,aa];refine⟨fun aY=>?_,fun bR=>?_⟩
 ·have aY:i<W.length:=by omega
  obtain⟨d,aZ⟩:∃ d,W[i]? =some d:=⟨_,y0 aY⟩;obtain⟨x,aO⟩:∃ x,f.funs[i]? =some x:=⟨_,y0 (by have:=Y.1;omega)⟩;have aC:=Y.2 i x d aO aZ;obtain⟨aD,bh,bj⟩:=J.funs x (x4 aO);have bT:=aD.len;refine gH (fun a b ad=>Ext O ad∧a= .int .i64 ((n+d.2.D.length:Nat):Int)∧b= .bool false) ?_ ?_
  ·rintro _ _ ad ⟨ag,rfl,rfl⟩;rw[aF,wrap_i64 (by omega) (by omega)];have bk:=aC.2.2.2.2.1;refine⟨⟨i+1,n+d.2.D.length,rfl,by omega,rfl,rfl,Z.trans ag,?_,?_⟩,by simp only[bl];omega⟩
   ·have e:jg (f.funs.take (i+1))=jg (f.funs.take i)+x.lines.length:=by
     unfold jg;rw[u4,aO,l9,o9,List.sum_append,List.map_cons,List.map_nil,List.sum_cons,List.sum_nil,Nat.add_zero]
    omega
   ·have:(i+1)*60000=i*60000+60000:=by omega
    have bU:d.2.D.length≤60000:=by omega
    omega
  ·intro aM U;refine lk (α:=fc) bN.p rfl cP.u bN.i (cT aX Z) aZ fun cs bm=>?_;obtain⟨sv,gT,bV,bW,gs,rfl,bn,a2⟩:=pn bm;refine bi bN.i fun aJ ad bX ag bo=>?_;refine bP (vs:=[sv,.pointer (some ⟨gT,0,none⟩)]) bN.i rfl rfl (by intro v ac;simp at ac;rcases ac with rfl|rfl <;> first|exact bn.cells.2|rfl) bo fun aW bp bY a6=>?_;have aQ:Ext O aW:=ag.then bp (fun r bq he=>by have he:r=aJ:=he;omega);rw[ae bN.p rfl,V (by kernel_rfl) (a6.cell (o:=0+1) rfl)];refine (Eh (a2.ext aQ).is).mono ?_;rintro _ bZ _ ⟨rfl,aR⟩;have bk:=aC.2.2.2.2.1;rw[aF,wrap_i64 (by omega) (by omega),ae bN.p rfl,V (by kernel_rfl) ((a6.ext aR).cell (o:=0+1) rfl)];refine (rf ((a2.ext aQ).ext aR).is).mono ?_;rintro b1 aS _ ⟨br,b2,b3,a7⟩;rw[aI al.u a7.ls];have b4:d.2.ai.length≤6:=by rw[aC.2.1,aD.sizes,u7];exact bh
   refine bM.range d.2.ai.length (fun j out aE=>Ext aS aE∧ ∃ ak,aS.heap.size≤ak∧am .i64 aj aE ak out (d.2.ai.take j)) (by omega) ⟨Ext.refl _,aS.heap.size,u9 _,am.nil _ _ _ _⟩ ?_ ?_
   ·rintro j out aE k bt ⟨av,ak,bu,aw⟩ bw;obtain⟨z,ay⟩:∃ z,d.2.ai[j]? =some z:=⟨_,y0 bt⟩;rw[ao,aa];refine⟨fun _=>?_,fun h=>by omega⟩;rw[a1 al.u ab.i (by kernel_rfl) (a7.ls.ext av) ay];refine dC ap.u aj.i rfl fun a b5 bz b6 az bB=>?_;refine gM ap.u aj.i rfl (aw.ext az) bB.ls (by simp;omega) (by simp;omega) fun b7 bC b8 b9 bD bE=>?_;have ca:=av.size;have cb:=az.size;rw[aF];refine bw _ _ ⟨(av.trans az).then bE (fun r bq he=>by have he:r=ak:=he;omega),bC,by omega,?_⟩;rw[u4,ay];exact bD
   ·rintro out aE k ⟨av,ak,bu,aw⟩;rw[o3] at aw;rw[ao,aa];refine⟨fun h=>by omega,fun _=>?_⟩;rw[aP];have bF:d.2.ai=x.sizes:=aC.2.1;rw[bF] at aw;refine (wa aw.ls fun z ay=>?_).mono ?_
    ·rw[aD.sizes] at ay;obtain⟨v,ac,rfl⟩:=o6.1 ay;have cd:=aD.scope.2 v ac;refine (J.sizes.2.2 _ ?_).1;rw[u6,y0 (by omega)];exact List.getElem_mem _
    ·rintro _ bz _ ⟨rfl,az⟩;refine U _ _ _ ⟨(((aQ.trans aR).trans br).trans av).trans az,by congr 1,by rw[bj]⟩
 ·have bG:i=W.length:=by omega
  subst bG;rw[Y.1,o3] at bf;refine aL (fun v ad=>O=ad∧v= .bool (decide (16384<(n:Int)))) ?_ ?_
  ·rintro _ _ ⟨rfl,rfl⟩;rw[aa];refine⟨fun h=>⟨E.trans Z,5,rfl,fun ce=>by omega⟩,fun h=>⟨E.trans Z,0,rfl,fun _=>rfl⟩⟩
  ·intro aM U;rw[aP,bA];exact U _ _ ⟨rfl,rfl⟩
theorem po:∀ {a b:List Int} {i:Nat},(∀ (j:Nat) (x y:Int),j<i→a[j]? =some x→b[j]? =some y→x=y)→i≤a.length→i≤b.length→et a b=et (a.drop i) (b.drop i)
 |_,_,0,_,_,_=>by simp
 |[],_,i+1,_,h,_=>by simp at h
 |_::_,[],i+1,_,_,h=>by simp at h
 |x::a,y::b,i+1,he,h1,E=>by
  have J:=he 0 x y (by omega) rfl rfl;subst J;simp only[et,Int.lt_irrefl,if_false,List.drop_succ_cons];exact po (fun j u v O hu ac=>he (j+1) u v (by omega) hu ac) (by simpa using h1) (by simpa using E)
theorem xB {x:Int} {w:x2}:ah x5 cmp_isNaN_int [.int .i64 x] w fun v w'=>v= .bool false∧Ext w w':=by
 refine aq func182 ?_;simp only[be];exact⟨by simp,Ext.refl _⟩
theorem xC {x y:Int} {w:x2}:ah x5 AF [.int .i64 x,.int .i64 y] w fun v w'=>v= .int .i64 (if x<y then-1 else if y<x then 1 else 0)∧Ext w w':=by
 refine aq func114 ?_;refine xB.mono ?_;rintro _ U _ ⟨rfl,E⟩;refine xB.mono ?_;rintro _ V _ ⟨rfl,J⟩;simp only[aP,ao,bA,aa];exact⟨fun h=>⟨by rw[if_pos h],E.trans J⟩,fun h=>⟨fun O=>⟨by rw[if_neg h,if_pos O],E.trans J⟩,fun O=>⟨by rw[if_neg h,if_neg O],E.trans J⟩⟩⟩
theorem Ga {af bv:x1} {a b:List Int} {w:x2} (V:aC .i64 w af a) (X:aC .i64 w bv b):ah x5 Bu [af,bv] w fun v w'=>v= .int .i64 (et a b)∧Ext w w':=by
 refine aq func220 ?_;have aE:=V.le;rw[aI al.u V];refine⟨fun _ Y ag=>∃ i:Nat,Y= .int .i64 (i:Int)∧i≤a.length∧i≤b.length∧Ext w ag∧ ∀ (j:Nat) (x y:Int),j<i→a[j]? =some x→b[j]? =some y→x=y,fun _ Y _=>a.length-(bl Y).toNat,⟨0,rfl,Z1 _,Z1 _,Ext.refl _,fun j x y au=>by omega⟩,?_⟩;rintro _ _ ag ⟨i,rfl,av,aw,E,ai⟩;have O:et a b=et (a.drop i) (b.drop i):=po ai av aw;simp only[ao,aa];refine⟨fun W=>?_,fun aG=>?_⟩
 ·have W:i<a.length:=by omega
  obtain⟨x,J⟩:∃ x,a[i]? =some x:=⟨_,y0 W⟩;have aj:a.drop i=x::a.drop (i+1):=by rw[Y2 W,(x3.1 J).2]
  rw[a1 al.u ab.i (by kernel_rfl) (V.ext E) J,aI al.u (X.ext E)];simp only[ca,aa];refine⟨fun h=>?_,fun h=>?_⟩
  ·have:b.drop i=[]:=by rw[List.drop_eq_nil_iff];omega
   rw[this,aj] at O;exact⟨by rw[O];rfl,E⟩
  have Z:i<b.length:=by omega
  obtain⟨y,ac⟩:∃ y,b[i]? =some y:=⟨_,y0 Z⟩;have ax:b.drop i=y::b.drop (i+1):=by rw[Y2 Z,(x3.1 ac).2]
  rw[a1 al.u ab.i (by kernel_rfl) (X.ext E) ac];refine xC.mono ?_;rintro _ aH _ ⟨rfl,ak⟩;rw[aj,ax] at O;simp only[et] at O;simp only[be,aa,aF];refine⟨fun am=>⟨?_,E.trans ak⟩,fun ay=>?_⟩
  ·rw[O];by_cases h1:x<y
   ·rw[if_pos h1,if_pos h1]
   ·by_cases U:y<x
    ·rw[if_neg h1,if_pos U,if_neg h1,if_pos U]
    ·rw[if_neg h1,if_neg U] at am;exact absurd rfl am
  ·rw[wrap_i64 (by omega) (by omega)];refine⟨⟨i+1,rfl,W,Z,E.trans ak,fun j az aA au ad ae=>?_⟩,by simp only[bl];omega⟩;by_cases aB:j=i
   ·subst aB;rw[J] at ad;rw[ac] at ae;cases ad;cases ae;have ap:=Z7.1 ay;by_cases h1:x<y
    ·rw[if_pos h1] at ap;omega
    ·by_cases U:y<x
     ·rw[if_neg h1,if_pos U] at ap;omega
     ·omega
   ·exact ai j az aA (by omega) ad ae
 ·have aD:i=a.length:=by omega
  subst aD;rw[List.drop_length] at O;rw[aI al.u (V.ext E),aI al.u (X.ext E)];simp only[ao,aa];refine⟨fun h=>⟨?_,E⟩,fun h=>⟨?_,E⟩⟩
  ·obtain⟨y,l,e⟩:∃ y l,b.drop a.length=y::l:=⟨_,_,Y2 (by omega)⟩;rw[O,e];rfl
  ·have:b.drop a.length=[]:=by rw[List.drop_eq_nil_iff];omega
   rw[O,this];rfl
theorem Gb {x y:Int} {V:x1} {w:x2} (h:aC .i64 w V [x,y]):ah x5 AE [V] w fun v w'=>v= .int .i64 (if x≠0 then x else y)∧Ext w w':=by
 refine aq func113 ?_;rw[aI al.u h];refine bM.range 2 (fun i _ U=>Ext w U∧(1≤i→x=0)∧(2≤i→y=0)) (by omega) ⟨Ext.refl _,by omega,by omega⟩ ?_ ?_
 ·rintro i _ U k hi ⟨E,h1,J⟩ O;rw[ao,aa];refine⟨fun _=>?_,fun h=>by simp at h;omega⟩
  match i,hi,h1,J,O with
  |0,_,h1,J,O=>
   rw[a1 (i:=0) al.u ab.i (by kernel_rfl) (h.ext E) rfl,be,aa];refine⟨fun W=>⟨by rw[if_pos W],E⟩,fun he=>?_⟩;rw[aF];exact O _ _ ⟨E,fun _=>Z7.1 he,fun h=>by omega⟩
  |1,_,h1,J,O=>
   rw[a1 (i:=1) al.u ab.i (by kernel_rfl) (h.ext E) rfl,be,aa];have X:=h1 (u9 _);refine⟨fun W=>⟨by rw[if_neg (by omega)],E⟩,fun he=>?_⟩;rw[aF];exact O _ _ ⟨E,fun _=>X,fun _=>Z7.1 he⟩
 ·rintro _ U k ⟨E,h1,J⟩;have X:=h1 (by omega);have Y:=J (by omega);rw[ao,aa];exact⟨fun h=>by simp at h,fun _=>⟨by rw[if_neg (by omega),Y],E⟩⟩
structure bX where
 sv:x1
 g:Nat
 sc:List Int
 cs:List Int
def dw (h:bX):List x1:=[h.sv,.pointer (some ⟨h.g,0,none⟩)]
abbrev ht (h:bX):x1:=.agg (dw h).toArray
def na (h:bX):Int:=cm h.sc
def gr (w:x2) (E:Nat) (h:bX):Prop:=(∃ J,am .i64 ab w J h.sv h.sc)∧(∀ r,leads h.sv r→r≠E)∧hr h.sc
theorem gr.U {S:Nat→Prop} {w w':x2} {E:Nat} {h:bX} (O:gr w E h) (J:af S w w') (V:∀ r,leads h.sv r→¬S r):gr w' E h:=by
 obtain⟨⟨W,hm⟩,X⟩:=O;exact⟨⟨W,aX hm J V⟩,X⟩
theorem gr.one {w:x2} {E:Nat} {h:bX} (J:gr w E h):∀ u∈dw h,u.oneCell'=true:=by
 obtain⟨⟨O,hm⟩,_⟩:=J;intro u hu;simp[dw] at hu;rcases hu with rfl|rfl
 ·exact hm.ls.cells.2
 ·rfl
def dM (w:x2) (g:Nat) (v:x1) (L:List bX):Prop:=aR dw 2 b7 w g v L∧ ∀ h∈L,gr w g h
theorem dM.ext {w w':x2} {g:Nat} {v:x1} {L:List bX} (h:dM w g v L) (J:Ext w w'):dM w' g v L:=⟨h.1.ext J,fun x E=>(h.2 x E).U (J.U fun _=>False) fun _ _ h=>h⟩
theorem dM.at {w:x2} {g:Nat} {v:x1} {L:List bX} (h:dM w g v L) {i:Nat} {x:bX} (hi:L[i]? =some x):gr w g x:=h.2 x (x4 hi)
theorem pp {w:x2} {g:Nat} {v:x1} {L:List bX} {i:Nat} {y:Int} {x:bX} {K:x1→Prop} (E:y=(i:Int)) (h:dM w g v L) (hi:L[i]? =some x):
  O x5 (j4 eH v (.int .i64 y)) w (fun p=>O x5 (x7 b7 p) w K)=K (ht x):=by
 rw[cr E eH.u b7.i h.1 (x3.1 hi).1,bj b7.p b7.i rfl (h.1.range hi)]
theorem Gc {w:x2} {g:Nat} {v:x1} {L:List bX} {i:Nat} {y:Int} {x:bX} {K:Unit→x2→Prop} (X:y=(i:Int)) (h:dM w g v L) (hi:i<L.length) (J:gr w g x)
  (Y:∀ w',af (fun r=>leadsTo v r) w w'→dM w' g v (L.set i x)→K () w'):O x5 (j4 eH v (.int .i64 y)) w fun p=>aA x5 (o7 b7 p (ht x)) w K:=by
 rw[cr X eH.u b7.i h.1 hi];refine Ek (f:=dw) b7.i h.1 rfl J.one hi fun w' V _ h'=>Y w' V ⟨h',fun z E=>?_⟩;rcases V2 E with E|rfl
 ·exact (h.2 z E).U V fun r W he=>(h.2 z E).2.1 r W (h.1.leads he).1
 ·exact J.U V fun r W he=>J.2.1 r W (h.1.leads he).1
abbrev Gd:x1:=.func (.func ua) #[] #[]
def pq (a b:bX):Int:=let c:Int:=if (a.sc.length:Int)<b.sc.length then-1 else if (b.sc.length:Int)<a.sc.length then 1 else 0
 if c≠0 then c else et a.sc b.sc
theorem Ge {a b:bX} (J:hr a.sc) (O:hr b.sc):pq a b<0↔na a<na b:=by
 have U:=(rr J O).1;unfold na pq;simp only;generalize V:(if (a.sc.length:Int)<b.sc.length then (-1:Int) else if (b.sc.length:Int)<a.sc.length then 1 else 0)=c;rw[U,←V];by_cases h1:(a.sc.length:Int)<b.sc.length
 ·rw[if_pos h1,if_pos (by omega)];exact⟨fun _=>.inl (by omega),fun _=>by omega⟩
 ·by_cases E:(b.sc.length:Int)<a.sc.length
  ·rw[if_neg h1,if_pos E,if_pos (by omega)];exact⟨fun h=>by omega,fun h=>by rcases h with h|h <;> omega⟩
  ·rw[if_neg h1,if_neg E,if_neg (by omega)];exact⟨fun h=>.inr ⟨by omega,h⟩,fun h=>by rcases h with h|h;omega;exact h.2⟩
theorem Gf {w:x2} {Z:Nat} {a b:bX} (ac:gr w Z a) (af:gr w Z b):ah x5 ua [ht a,ht b] w fun v w'=>Ext w w'∧v= .int .i64 (pq a b):=by
 obtain⟨⟨aw,W⟩,_,ax⟩:=ac;obtain⟨⟨ay,X⟩,_,az⟩:=af;refine aq func219 ?_;refine a7 fun ag ai aA aj J=>?_;refine a7 fun ak am aB aa O=>?_;have J:ad ai ag b7 [a.sv,.pointer (some ⟨a.g,0,none⟩)]:=by
  obtain⟨_,_,_,e⟩:=ct W.ls;simp only[ht,dw,e] at J ⊢;exact J
 have O:ad am ak b7 [b.sv,.pointer (some ⟨b.g,0,none⟩)]:=by
  obtain⟨_,_,_,e⟩:=ct X.ls;simp only[ht,dw,e] at O ⊢;exact O
 intro aC Y _ _;have E:=(aj.trans aa).trans Y;have f1:=(J.ext aa).ext Y;have f2:=O.ext Y;rw[ae b7.p rfl,V (by kernel_rfl) (f1.cell (o:=0+0) rfl),aI al.u (W.ls.ext E),ae b7.p rfl,V (by kernel_rfl) (f2.cell (o:=0+0) rfl),aI al.u (X.ls.ext E),
  ae b7.p rfl,V (by kernel_rfl) (f1.cell (o:=0+0) rfl),ae b7.p rfl,V (by kernel_rfl) (f2.cell (o:=0+0) rfl)]
 refine xC.mono ?_;rintro _ aD _ ⟨rfl,U⟩;refine⟨.inl U,?_⟩;refine (Ga ((W.ls.ext E).ext U) ((X.ls.ext E).ext U)).mono ?_;rintro _ aE _ ⟨rfl,ao⟩;refine ox (l:=[if (a.sc.length:Int)<b.sc.length then (-1:Int) else if (b.sc.length:Int)<a.sc.length then 1 else 0,et a.sc b.sc]) al.u ab.i (by omega) rfl (by kernel_rfl) fun aF aG aH aJ ap au=>?_;refine (Gb au.ls).mono ?_;rintro _ aK _ ⟨rfl,av⟩;exact⟨((((E.trans U).trans ao).trans ap).trans av),rfl⟩
theorem Gg {w:x2} {g:Nat} {v:x1} {L:List bX} (h:dM w g v L) (aa:L.length<65536):
  ah x5 Bt [v,Gd] w fun _ w'=>af (fun r=>leadsTo v r) w w'∧ ∃ M,M.Perm L∧oY na M 0 M.length∧dM w' g v M:=by
 have V:∀ {W:x2} {a:bX},af (fun r=>r=g) w W→gr w g a→gr W g a:=fun O E=>E.U O fun r X he=>E.2.1 r X he;refine (wH Ev (G:=gr w g) (num:=na) (cf:=pq) (cap:=#[]) Ez EA (fun a E=>E.one) (fun a _=>rfl) (fun a b E Y=>Ge E.2.2 Y.2.2) (Enters.of x5 EB rfl (by kernel_rfl)) h.1 h.2 aa fun W a b O E Y=>Gf (V O E) (V O Y)).mono ?_;rintro _ w' _ ⟨O,M,Z,hu,hm⟩;have ab:af (fun r=>r=g) w w':=O.mono fun r _ X=>(h.1.leads X).1;exact⟨O,M,Z,fun p q x y _ ac _ J ad=>hu p q x y ac J ad,hm,fun x J=>V ab (h.2 x (Z.mem_iff.1 J))⟩
theorem Gh {l m:List Int} (ac:hY l) (O:l.Nodup) (E:m.Perm l) (U:m.Pairwise (·≤ ·)):m=aV l:=by
 refine rt (f:=fun x=>x) ?_ (rq l) fun x=>?_
 ·have V:m.Nodup:=E.nodup_iff.2 O;exact (List.Pairwise.and U V).imp fun {a b} h=>by
   obtain⟨h1,J⟩:=h;have J:a≠b:=J;omega
 ·rw[E.mem_iff,mZ ac]
theorem Gi {l:List Int} (h:∀ z∈l,1≤z∧z≤32) (E:cE l=false):aD l≤4096:=by
 have:=of_decide_eq_false E;rw[rv h] at this;omega
set_option maxHeartbeats 4000000 in
theorem Gj {N:Nat} {w:x2} {f:bx} {cs:List x1} {d:fc} {x:bH} {m:Bool} {S R:an} (O:dP N f) (bK:N≤60000) (aA:x∈f.funs) (aX:m8 f.k x d) (aY:ay.rep m S R w cs d):
  ah x5 Bp [.agg cs.toArray] w fun v w'=>Ext w w'∧ ∃ sv gs Y aB aC,v= .tuple #[sv,.pointer (some ⟨Y,0,none⟩)]∧w.heap.size≤gs∧am .i64 ab w' gs sv (aV x.scope)∧cp w' Y aB aC (bI f.sizes (aV x.scope)) f.k (fC f.sizes f.k x).2:=by
 obtain⟨sv,gT,bL,bM,bO,rfl,ak,aZ⟩:=pn aY;obtain⟨a2,a6,a8,bP,bQ,ba⟩:=aX;obtain⟨E,bb,bc⟩:=O.funs x aA;have ac:=pb E O.sizes.2.1;have bR:=E.len;rw[a2] at ak;have bd:∀ z∈x.sizes,1≤z∧z≤32:=fun z aK=>by
  rw[E.sizes] at aK;obtain⟨v,be,rfl⟩:=o6.1 aK;have bS:=E.scope.2 v be;refine O.sizes.2.2 _ ?_;rw[u6,y0 (by omega)];exact List.getElem_mem _
 have bf:=Gi bd bc;have aD:=pa ac E.scope.1;have bT:(aV x.scope).length≤6:=by rw[aD.length_eq];exact bb
 refine aq func210 ?_;refine a7 fun aJ aL bU aM Z=>?_;have Z:ad aL aJ bN [sv,.pointer (some ⟨gT,0,none⟩)]:=by obtain⟨_,_,_,rfl⟩:=ct ak;exact Z
 rw[ae bN.p rfl,V (by kernel_rfl) (Z.cell (o:=0+1) rfl)];refine (xo (aZ.ext aM).is (by omega)).mono ?_;rintro _ bg _ ⟨aE,_,ag⟩;rw[a6] at ag;obtain⟨g,bW,bX,bh,rfl,bY,bZ,ag,aN⟩:=ag bf;rw[a8] at ag;rw[av (v:=.pointer (some ⟨g,0,none⟩)) rfl,av (v:=.int .i64 0) rfl,ae bN.p rfl,V (by kernel_rfl) ((Z.ext aE).cell (o:=0+0) rfl)];have ai:=aM.trans aE;refine rz (ak.ext ai) (by omega) fun v aO gs b1 ap b2 bi bj au=>?_;have bk:=Gh ac E.scope.1 bi bj;subst bk;have b3:=ai.size;rw[aI al.u au.ls];refine hN (k:=.i64) al.u ab.i (by omega) (by omega) fun go aP b4 aw aQ=>?_;have bl:am .i64 ab aP go (.slice (some ⟨go,0,none⟩) (aV x.scope).length (aV x.scope).length) (v8 (aV x.scope).length 0):=am.of (br.full (k:=1) (n:=(aV x.scope).length) aQ (by simp) (by simp[maxLen];omega));rw[aI al.u (au.ls.ext aw)];have b5:=aQ.lt;have ax:(eu x.scope (aV x.scope)).length=(aV x.scope).length:=by simp[eu]
 have bm:=ap.trans aw;have b7:=ai.trans bm;refine bV.range (aV x.scope).length (fun i J=>af (fun r=>r=go) aP J∧am .i64 ab J go (.slice (some ⟨go,0,none⟩) (aV x.scope).length (aV x.scope).length) ((eu x.scope (aV x.scope)).take i++v8 ((aV x.scope).length-i) 0)) (by omega) ⟨af.refl _ _,by simpa using bl⟩ ?_ ?_
 ·rintro i J k hi ⟨az,aj⟩ bn;obtain⟨v,aG⟩:∃ v,(aV x.scope)[i]? =some v:=⟨_,y0 hi⟩;have W:Ext aO J:=aw.then az (fun r aH he=>by have he:r=go:=he;omega);have bo:Ext w J:=(ai.trans ap).trans W;have bp:v∈x.scope:=aD.mem_iff.1 (x4 aG);rw[ao,aa];refine⟨fun _=>?_,fun h=>by omega⟩;rw[a1 al.u ab.i (by kernel_rfl) (au.ls.ext W) aG];have bq:Ext aL J:=(aE.trans ap).trans W;rw[ae bN.p rfl,V (by kernel_rfl) ((Z.ext bq).cell (o:=0+0) rfl)];refine (xu (ak.ext bo)).mono ?_;rintro _ bt _ ⟨X,r,rfl,aH⟩;have aR:=lN bp;have bu:r=((x.scope.idxOf v:Nat):Int):=(aH _ aR).2 fun j b8 bw=>by have:=hW E.scope.1 bw aR;omega
  rw[fR rfl al.u ab.i (aj.ext X) (by simp[ax];omega)];refine fS ab.i (aj.ext X) (by simp[ax];omega) fun b9 bz ca aS=>?_;rw[aF];refine bn _ ⟨(az.trans (X.U _)).trans bz,?_⟩;have bA:(eu x.scope (aV x.scope))[i]? =some r:=by rw[bu];exact xi aG
  have e:((eu x.scope (aV x.scope)).take i++v8 ((aV x.scope).length-i) 0).set i r=(eu x.scope (aV x.scope)).take (i+1)++v8 ((aV x.scope).length-(i+1)) 0:=by
   have bB:((eu x.scope (aV x.scope)).take i).length=i:=by rw[o5,ax];omega
   rw[List.set_append_right _ _ (by omega),bB,X6,show (aV x.scope).length-i=((aV x.scope).length-(i+1))+1 by omega,List.replicate_succ,List.set_cons_zero,u4,bA,l9,X8];rfl
  rw[e] at aS;exact aS
 ·rintro J k ⟨az,aj⟩;have W:Ext aO J:=aw.then az (fun r aH he=>by have he:r=go:=he;omega);have aT:Ext bg J:=ap.trans W;rw[ao,aa];refine⟨fun h=>by omega,fun _=>?_⟩;rw[X6,List.replicate_zero,V4,b6 (by omega)] at aj;have bC:∀ t,cv x.sizes t→cC x.sizes bh t=hl x f.k t:=fun t bD=>by rw[aN.2 t bD];exact ba t
  obtain⟨aU,bE⟩:=Fj O aA aN.1 bC;have bF:Good (eu x.scope (aV x.scope)) x.sizes.length:=by
   rw[E.sizes,u7];exact pe E.scope.1 aD
  have bG:=(lM O aA);refine (FY (ag.ext aT) O.k aj.ls (by rw[ax];omega) fun _=>?_).mono ?_
  ·rw[aU];exact bG.small
  ·rintro _ bt _ ⟨X,_,bJ⟩;obtain⟨Y,aB,aC,rfl,aW⟩:=bJ bF;rw[av (v:=.pointer (some ⟨Y,0,none⟩)) rfl,av (v:=.int .i64 0) rfl];rw[aU,bE] at aW;exact⟨(ai.trans aT).trans X,v,gs,Y,aB,aC,rfl,by omega,(au.ext W).ext X,aW⟩
theorem Gk {P:Y3} {w:x2} {t Y e J:u5} {k Z g o n cap:Nat} {z:x1} {cs:List x1} {K:x1→x2→Prop} (O:P.underlying t=some (.slice e)) (hi:aE P e k Z z) (aa:z.cells.size=k) (h1:∀ u∈cS z.cells (n*k),u.oneCell'=true)
  (E:ad w g J cs) (ai:o+n*k≤cs.length) (V:∀ w',af (fun r=>r=g) w w'→ad w' g J (over cs o (cS z.cells (n*k)))→K (.tuple #[]) w'):aA P (n0.clear_ #[t] Y #[.slice (some ⟨g,o,none⟩) n cap]) w K:=by
 obtain⟨i,hi,aj,rfl,ab⟩:=hi;have ac:∀ w,(zeroValue e).run P w= .ok z w:=fun w=>by simp[zeroValue,typeInfo,hi,ab]
 have ae:(n0.zeroCells z.cells n).toList=cS z.cells (n*k):=by
  unfold n0.zeroCells cS;rw[aa]
 have W:=run_storeCells_cells (P:=P) g o (cS z.cells (n*k)) 0 w (fun j ag=>by
   rw[lj] at ag;rw[Nat.add_zero,E.cell (y0 (show o+j<cs.length by omega))];rfl) (fun j _=>E.frozen _ _) h1
 simp only[Nat.add_zero] at W;obtain⟨ah,X⟩:=kl (cS z.cells (n*k)) cs o w E;rcases Nat.eq_zero_or_pos n with rfl|ak
 ·refine .of (v:=.tuple #[]) (w':=w) (by simp[n0.clear_,run_underlying O]) (cA.refl _) (V w (af.refl _ _) ?_);rw[Nat.zero_mul,o8 (lj z.cells 0)];exact E
 ·obtain⟨m,rfl⟩:∃ m,n=m+1:=⟨n-1,by omega⟩;refine .of (v:=.tuple #[]) (w':=_) (by simp[n0.clear_,run_underlying O,ac,ae,W]) (X.cR E) (V _ X.U ah)
theorem dk {α:Type} {f:α→List x1} {k:Nat} {e:u5} {w:x2} {g:Nat} {v:x1} {L:List α} (h:aR f k e w g v L) {r:Nat} (E:leadsTo v r):r=g∧ ∃ cs,ad w g e cs:=by
 obtain⟨_,⟨rfl,_⟩|⟨cap,cs,rfl,J,_⟩⟩:=h.1
 ·exact (dp E).elim
 ·obtain⟨a,n,c,h1,O⟩:=E;cases h1;exact⟨O.symm,cs,J⟩
theorem Gl {α:Type} {f:α→List x1} {k:Nat} {e:u5} {w:x2} {g:Nat} {v:x1} {L:List α} (h:aR f k e w g v L) (E:L≠[]):∃ cs n c,v= .slice (some ⟨g,0,none⟩) n c∧ad w g e cs:=by
 obtain⟨_,⟨rfl,J⟩|⟨cap,cs,rfl,O,_⟩⟩:=h.1
 ·exact absurd (o8 J) E
 ·exact⟨cs,_,_,rfl,O⟩
theorem dM.mk {w:x2} {g:Nat} {v:x1} {L:List bX} (h:aR dw 2 b7 w g v L) (E:∀ x∈L,(∃ O,am .i64 ab w O x.sv x.sc)∧hr x.sc):dM w g v L:=by
 refine⟨h,fun x J=>⟨(E x J).1,fun r U=>?_,(E x J).2⟩⟩;obtain⟨cs,n,c,_,V⟩:=Gl h (fun W=>by rw[W] at J;cases J);obtain⟨⟨O,hm⟩,_⟩:=E x J;exact bB hm V (by decide) U
def Sem (w:x2) (k:Int) (sizes:List Int) (L:List bX):Prop:=∀ x∈L,∃ E J,cp w x.g E J (bI sizes x.sc) k x.cs
theorem rD {w w':x2} {S:Nat→Prop} {g X:Nat} {Y:x1} {ai cs:List Int} {k:Int} (h:cp w g X Y ai k cs) (O:af S w w') (V:∀ r,S r→ ∃ c,ad w r b7 c):cp w' g X Y ai k cs:=by
 obtain⟨⟨aH,gs,h1,Z,aa⟩,ab⟩:=h;refine⟨⟨aH,gs,h1.U O fun J=>?_,aX Z O fun r W J=>?_,aX aa O fun r W J=>?_⟩,ab⟩
 ·obtain⟨c,E⟩:=V g J;unfold ad at h1 E;rw[h1] at E;have:=(Obj.cells.inj (j5 E)).2.1;exact absurd this (by decide)
 ·obtain⟨c,E⟩:=V r J;exact bB Z E (by decide) W rfl
 ·obtain⟨c,E⟩:=V r J;exact bB aa E (by decide) W rfl
theorem Sem.ext {w w':x2} {k:Int} {sizes:List Int} {L:List bX} (h:Sem w k sizes L) (J:Ext w w'):Sem w' k sizes L:=fun x E=>by
 obtain⟨O,U,V⟩:=h x E;exact⟨O,U,V.ext J⟩
theorem Sem.row {w w':x2} {k:Int} {sizes:List Int} {L M:List bX} {g:Nat} {v:x1} (h:Sem w k sizes L) (E:dM w g v M) (J:af (fun r=>leadsTo v r) w w'):Sem w' k sizes L:=fun x O=>by
 obtain⟨U,V,W⟩:=h x O;exact⟨U,V,rD W J fun r X=>by obtain⟨rfl,c,Y⟩:=dk E.1 X;exact⟨c,Y⟩⟩
def c3 (h:bX):bU:=(h.sc,h.cs)
theorem Gm {c:Int} {w:x2}:ah x5 qw [.int .i64 c] w fun v w'=>v= .bool (decide (0<c))∧Ext w w':=by
 refine aq func216 ?_;rw[bA];exact⟨rfl,Ext.refl _⟩
theorem Gn {sv:x1} {l:List Int} {w:x2} (h:aC .i64 w sv l):
  ah x5 Br [sv,.func (.func qw) #[] #[]] w fun v w'=>v= .bool (l.any fun c=>decide (0<c))∧Ext w w':=by
 refine aq func215 ?_;refine ah.mono (K:=fun v w'=>Ext w w'∧ ∃ r:Int,v= .int .i64 r∧(0≤r↔ ∃ c∈l,0<c)) ?_ ?_
 ·refine aq func261 ?_;rw[aI ap.u h];refine bM.range l.length (fun i _ U=>Ext w U∧ ∀ c∈l.take i,¬0<c) h.le ⟨Ext.refl _,fun c E=>by simp at E⟩ ?_ ?_
  ·rintro i _ U k hi ⟨J,V⟩ Y;rw[ao,aa];refine⟨fun _=>?_,fun h=>by omega⟩;obtain⟨x,W⟩:∃ x,l[i]? =some x:=⟨_,y0 hi⟩;rw[a1 ap.u aj.i (by kernel_rfl) (h.ext J) W];show ah x5 qw [.int .i64 x] U _;refine Gm.mono ?_;rintro _ ac _ ⟨rfl,X⟩;rw[aa];refine⟨fun O=>⟨J.trans X,i,rfl,⟨fun _=>⟨x,x4 W,O⟩,fun _=>by omega⟩⟩,fun Z=>?_⟩;rw[aF];refine Y _ _ ⟨J.trans X,fun c E=>?_⟩;rw[u4,W] at E;rcases p9.1 E with E|E
   ·exact V c E
   ·simp at E;subst E;exact Z
  ·rintro _ U k ⟨J,V⟩;rw[o3] at V;rw[ao,aa];exact⟨fun h=>by omega,fun _=>⟨J,-1,rfl,⟨fun h=>by omega,fun⟨c,E,O⟩=>absurd O (V c E)⟩⟩⟩
 ·rintro _ U _ ⟨J,r,rfl,ab⟩;rw[ca];refine⟨?_,J⟩;congr 1;rw[X5,decide_eq_true_eq,List.any_eq_true,ab];exact⟨fun⟨c,E,O⟩=>⟨c,E,decide_eq_true O⟩,fun⟨c,E,O⟩=>⟨c,E,of_decide_eq_true O⟩⟩
theorem xD {w:x2} {U W:Nat} {x:bX} {X:x1} {ai:List Int} {k:Int} (J:gr w U x) (Y:cp w x.g W X ai k x.cs):ah x5 ml [ht x] w fun v w'=>v= .bool (!ec (c3 x))∧Ext w w':=by
 obtain⟨⟨af,hm⟩,_⟩:=J;refine aq func214 ?_;refine a7 fun aJ Z ag O E=>?_;have E:ad Z aJ b7 [x.sv,.pointer (some ⟨x.g,0,none⟩)]:=by
  obtain⟨_,_,_,e⟩:=ct hm.ls;simp only[ht,dw,e] at E ⊢;exact E
 rw[ae b7.p rfl,V (by kernel_rfl) (E.cell (o:=0+1) rfl)];refine (jN (Y.ext O)).mono ?_;rintro aj ak _ ⟨aa,al,am,ab⟩;refine (Gn ab.ls).mono ?_;rintro _ ao _ ⟨rfl,ac⟩;rw[bJ];exact⟨rfl,(O.trans aa).trans ac⟩
theorem Gp {w:x2} {g:Nat} {v:x1} {L:List bX} {k:Int} {sizes:List Int} (h:dM w g v L) (Y:Sem w k sizes L):
  ah x5 tY [v,.func (.func ml) #[] #[]] w fun r w'=>Ext w w'∧((r= .int .i64 (-1)∧ ∀ x∈L,ec (c3 x)=true)∨ ∃ i:Nat,r= .int .i64 (i:Int)∧i<L.length∧(∀ x∈L.take i,ec (c3 x)=true)∧ ∀ x,L[i]? =some x→ec (c3 x)=false):=by
 refine aq func211 ?_;rw[dK eH.u h.1];refine bM.range L.length (fun i _ V=>Ext w V∧ ∀ x∈L.take i,ec (c3 x)=true) h.1.le ⟨Ext.refl _,fun c E=>by simp at E⟩ ?_ ?_
 ·rintro i _ V k hi ⟨J,O⟩ Z;rw[ao,aa];refine⟨fun _=>?_,fun h=>by omega⟩;obtain⟨x,U⟩:∃ x,L[i]? =some x:=⟨_,y0 hi⟩;rw[pp rfl (h.ext J) U];show ah x5 ml [ht x] V _;obtain⟨ae,af,ab⟩:=Y x (x4 U);refine (xD ((h.ext J).at U) (ab.ext J)).mono ?_;rintro _ ag _ ⟨rfl,W⟩;rw[b3];refine⟨fun ac=>⟨J.trans W,.inr ⟨i,rfl,hi,O,fun y X=>by rw[U] at X;cases X;simpa using ac⟩⟩,fun ad=>?_⟩;rw[aF];refine Z _ _ ⟨J.trans W,fun c E=>?_⟩;rw[u4,U] at E;rcases p9.1 E with E|E
  ·exact O c E
  ·simp at E;subst E;simpa using ad
 ·rintro _ V k ⟨J,O⟩;rw[o3] at O;rw[ao,aa];exact⟨fun h=>by omega,fun _=>⟨J,.inl ⟨rfl,O⟩⟩⟩
def ev (x:bX):Bool:=ec (c3 x)
theorem rE {L:List bX} {j:Nat} {x:bX} (J:L[j]? =some x):(L.take (j+1)).filter ev=if ev x=true then (L.take j).filter ev++[x] else (L.take j).filter ev:=by
 rw[u4,J,l9,List.filter_append];by_cases h:ev x=true
 ·rw[if_pos h];simp[h]
 ·rw[if_neg h];simp[h]
theorem xE {z:Array x1} {n:Nat} (E:0<z.size) (h:∀ u∈z.toList,u.oneCell'=true):∀ u∈cS z n,u.oneCell'=true:=fun u hu=>by
 unfold cS at hu;rw[Array.toList_map,o6] at hu;obtain⟨i,_,rfl⟩:=hu;have J:i % z.size<z.size:=Nat.mod_lt _ E;rw[getElem!_pos z (i % z.size) J];exact h _ (by simp)
set_option maxHeartbeats 4000000 in
theorem Gq {w:x2} {g:Nat} {v:x1} {L:List bX} {k:Int} {sizes:List Int} (h:dM w g v L) (aC:Sem w k sizes L) (bw:L.length≤100000):
  ah x5 Bs [v,.func (.func ml) #[] #[]] w fun V w'=>af (fun r=>leadsTo v r) w w'∧dM w' g V (L.filter ev)∧ ∀ r,leadsTo V r→leadsTo v r:=by
 refine aq func217 ?_;refine (Gp h aC).mono ?_;rintro r bx _ ⟨ag,W⟩;rcases W with⟨rfl,ap⟩|⟨ai,rfl,aT,ap,aU⟩
 ·rw[bc,aa];refine⟨fun _=>⟨ag.U _,?_,fun r W=>W⟩,fun h=>absurd rfl h⟩;rw[List.filter_eq_self.2 (show ∀ x∈L,ev x=true from ap)];exact h.ext ag
 rw[bc,aa];refine⟨fun h=>by omega,fun _=>?_⟩;rw[aF,wrap_i64 (by omega) (by omega)];obtain⟨au,aD⟩:∃ x,L[ai]? =some x:=⟨_,y0 aT⟩;refine⟨fun av aw X=>∃ (i j:Nat) (M:List bX),av= .int .i64 (i:Int)∧aw= .int .i64 (j:Int)∧i<j∧j≤L.length∧M.length=L.length∧M.take i=(L.take j).filter ev∧M.drop j=L.drop j∧(∀ x∈M,x∈L)∧dM X g v M∧af (fun r=>leadsTo v r) w X,
  fun _ aw _=>L.length-(bl aw).toNat,⟨ai,ai+1,L,rfl,by congr 1,by omega,by omega,rfl,?_,rfl,fun x J=>J,h.ext ag,ag.U _⟩,?_⟩
 ·have aV:¬ev au=true:=by rw[show ev au=false from aU au aD];simp
  rw[rE aD,if_neg aV,List.filter_eq_self.2 (show ∀ x∈L.take ai,ev x=true from ap)]
 rintro _ _ X ⟨i,j,M,rfl,rfl,bz,bA,aE,Z,aG,aH,E,aj⟩;have aW:Sem X k sizes L:=aC.row h aj;rw[dK eH.u E.1,ao,aa];refine⟨fun ax=>?_,fun bB=>?_⟩
 ·have ax:j<L.length:=by omega
  obtain⟨x,J⟩:∃ x,L[j]? =some x:=⟨_,y0 ax⟩;have ak:M[j]? =some x:=by
   have h1:(M.drop j)[0]? =(L.drop j)[0]?:=by rw[aG]
   rw[List.getElem?_drop,List.getElem?_drop,Nat.add_zero] at h1;rw[h1,J]
  have aI:M.drop (j+1)=L.drop (j+1):=by
   have h1:(M.drop j).drop 1=(L.drop j).drop 1:=by rw[aG]
   rw[List.drop_drop,List.drop_drop] at h1;exact h1
  refine aL (fun av al=>∃ (ad:Nat) (Y:List bX),av= .int .i64 (ad:Int)∧ad<j+1∧Y.length=L.length∧Y.take ad=(L.take (j+1)).filter ev∧Y.drop (j+1)=L.drop (j+1)∧(∀ x∈Y,x∈L)∧dM al g v Y∧af (fun r=>leadsTo v r) w al) ?_ ?_
  ·rintro _ al ⟨ad,Y,rfl,h1,ay,aX,aY,aZ,a1,a2⟩;rw[aF,wrap_i64 (by omega) (by omega)];exact⟨⟨ad,j+1,Y,rfl,rfl,h1,ax,ay,aX,aY,aZ,a1,a2⟩,by simp only[bl];omega⟩
  ·intro bC aK;rw[pp rfl E ak];refine bi b7.i fun aJ al bD a6 a7=>?_;refine bP (vs:=dw x) b7.i rfl rfl (E.at ak).one a7 fun aM a8 bE aN=>?_;have az:Ext X aM:=a6.then a8 (fun r W he=>by have he:r=aJ:=he;omega);rw[bj b7.p b7.i rfl aN.range];show ah x5 ml [ht x] aM _;obtain⟨bF,bG,ba⟩:=aW x (x4 J);refine (xD ((E.ext az).at ak) (ba.ext az)).mono ?_;rintro _ bH _ ⟨rfl,aO⟩;have ae:=az.trans aO;rw[bJ,Bool.not_not,b3];refine⟨fun bb=>?_,fun bd=>?_⟩
   ·rw[bj b7.p b7.i rfl (aN.ext aO).range];refine Gc rfl (E.ext ae) (by omega) ((E.ext ae).at ak) fun bI be bf=>?_;rw[aF,wrap_i64 (by omega) (by omega)];refine aK _ _ ⟨i+1,M.set i x,rfl,by omega,by simp[aE],?_,?_,fun y ab=>?_,bf,(aj.trans (ae.U _)).trans be⟩
    ·have aB:ev x=true:=bb;rw[rE J,if_pos aB,u4,U1 (by omega),l9,List.take_set_of_le (u9 _),Z]
    ·rw[List.drop_set_of_lt (by omega),aI]
    ·rcases V2 ab with ab|rfl
     ·exact aH y ab
     ·exact x4 J
   ·have aB:¬ev x=true:=by rw[show ev x=false from bd];simp
    exact aK _ _ ⟨i,M,rfl,by omega,aE,by rw[rE J,if_neg aB,Z],aI,aH,E.ext ae,aj.trans (ae.U _)⟩
 ·have bg:j=L.length:=by omega
  subst bg;rw[o3] at Z;obtain⟨⟨bK,bh⟩,aP⟩:=E.1;rcases bh with⟨_,bL⟩|⟨cap,cs,ac,bk,bM,bm,bn,bo⟩
  ·omega
  subst ac;have bp:(O x5 (Y9 eH (.slice (some ⟨g,0,none⟩) M.length cap) (some (.int .i64 (i:Int))) none none) X fun bq=>
    aA x5 (n0.clear_ #[eH] Ci #[bq]) X fun u am=>
    O x5 (Y9 eH (.slice (some ⟨g,0,none⟩) M.length cap) none (some (.int .i64 (i:Int))) none) am fun br=>
    (fun V w'=>af (fun r=>leadsTo (.slice (some ⟨g,0,none⟩) M.length cap) r) w w'∧dM w' g V (L.filter ev)∧ ∀ r,leadsTo V r→leadsTo (.slice (some ⟨g,0,none⟩) M.length cap) r) br am):=by
   rw[fz (l:=i) (h:=M.length) (m:=cap) eH.u b7.i (ki i _ rfl) hd eb (by omega) (by omega) (u9 _),if_neg (by omega)];simp only[j6,W5];refine Gk (g:=g) (o:=0+i*2) (n:=M.length-i) (k:=2) eH.u b7.i rfl ?_ bk (by omega) fun am aQ bt=>?_
   ·exact xE (by decide) (by decide)
   rw[fz (l:=0) (h:=i) (m:=cap) eH.u b7.i hc (kj i _ rfl) eb (by omega) (by omega) (u9 _),if_neg (by omega)];simp only[j6,W5,Nat.zero_mul,V3,Nat.sub_zero];have bu:(cS (x1.agg #[.slice none 0 0,.pointer none]).cells ((M.length-i)*2)).length=(M.length-i)*2:=lj _ _;have bN:(M.flatMap dw).length=M.length*2:=fX aP;have aR:(L.filter ev).length=i:=by rw[←Z,o5];omega
   have key:(fun V w'=>af (fun r=>leadsTo (.slice (some ⟨g,0,none⟩) M.length cap) r) w w'∧dM w' g V (L.filter ev)∧ ∀ r,leadsTo V r→leadsTo (.slice (some ⟨g,0,none⟩) M.length cap) r) (.slice (some ⟨g,0,none⟩) (L.filter ev).length cap) am:=by
    refine⟨aj.trans (aQ.mono fun r _ he=>⟨_,_,_,rfl,he.symm⟩),⟨⟨⟨fX (k:=2) (fun y _=>rfl),.inr ⟨cap,_,rfl,bt,by omega,bm,by rw[kk,bn],?_⟩⟩,fun y _=>rfl⟩,fun y ab=>?_⟩,fun r W=>?_⟩
    ·rw[aR,←Z,←mS i aP,←bo,List.take_take,jD (by rw[bu];omega),X8,List.take_append_of_le_length (by rw[o5];omega),List.take_take];congr 1;omega
    ·have aS:y∈M:=by rw[←Z] at ab;exact List.mem_of_mem_take ab
     exact (E.2 y aS).U aQ fun r W he=>(E.2 y aS).2.1 r W he
    ·obtain⟨a,n,c,h1,ay⟩:=W;cases h1;exact⟨_,_,_,rfl,ay⟩
   rw[aR] at key;exact key
  exact bp
theorem nb {k:r9} {e:u5} {w:x2} {g n cap:Nat} {b:Option Addr} {l:List Int} (h:am k e w g (.slice b n cap) l) (W:0<l.length):
  b=some ⟨g,0,none⟩∧n=l.length∧ ∃ cs,ad w g e cs∧n≤cap∧cap≤maxLen∧cs.length=cap∧cs.take n=ints k l:=by
 obtain⟨_,⟨_,h1⟩|⟨X,cs,h1,E,J,O,U,V⟩⟩:=h
 ·omega
 ·cases h1;exact⟨rfl,rfl,cs,E,J,O,by simpa using U,by simpa using V⟩
theorem Gr {w:x2} {g n cap j:Nat} {l:List Int} (h:am .i64 ab w g (.slice (some ⟨g,0,none⟩) n cap) l) (O:j<l.length):aC .i64 w (.slice (some ⟨g,j,none⟩) (n-j) (cap-j)) (l.drop j):=by
 obtain⟨_,U,cs,E,h1,V,W,J⟩:=nb h (by omega);have:=CW (o:=j) (k:=n-j) (c:=cap-j) E (by omega) (by omega) (by omega);refine aC.of (n:=n-j) ?_;have e:(cs.drop j).take (n-j)=ints .i64 (l.drop j):=by
  rw[←List.drop_take,J,ints,ints,List.map_drop]
 rw[e] at this;exact this
set_option maxHeartbeats 1000000 in
theorem Gs {sv:x1} {l:List Int} {g:Nat} {w:x2} (h:am .i64 ab w g sv l) (bk:l.length≤1000):
  ah x5 BM [sv] w fun v w'=>af (fun r=>r=g) w w'∧am .i64 ab w' g v (dedup l l.length):=by
 refine aq func256 ?_;rw[aI al.u h.ls];simp only[ao,aa];refine⟨fun bm=>⟨af.refl _ _,?_⟩,fun bn=>?_⟩
 ·rw[pk (u9 _) (fun i hi az=>by omega),o3];exact h
 obtain⟨n,V⟩:∃ n,l.length=n:=⟨_,rfl⟩;obtain⟨cap,rfl⟩:∃ cap,sv= .slice (some ⟨g,0,none⟩) n cap:=by
  obtain⟨_,⟨_,h1⟩|⟨aQ,cs,h1,_⟩⟩:=id h
  ·omega
  ·exact⟨aQ,by rw[h1,V]⟩
 obtain⟨_,_,_,_,bo,aR,_⟩:=nb h (by omega);refine⟨fun _ t aA=>∃ j:Nat,t= .int .i64 (j:Int)∧1≤j∧j≤n∧Ext w aA∧ ∀ i,i<j→0<i→l[i]? ≠l[i-1]?,fun _ t _=>n-(bl t).toNat,⟨1,rfl,by omega,by omega,Ext.refl _,fun i h1 aB=>by omega⟩,?_⟩;rintro bp _ aA ⟨j,rfl,bq,aC,W,ae⟩;rw[aI al.u (h.ls.ext W)];simp only[ao,aa,dj];refine⟨fun aS br aT _ _=>?_,fun bt=>⟨W.U _,?_⟩⟩
 ·have aS:j<n:=by omega
  have X:=W.trans aT;have aD:=h.ls.ext X;obtain⟨a,ag⟩:∃ a,l[j]? =some a:=⟨_,y0 (by omega)⟩;obtain⟨b,ai⟩:∃ b,l[j-1]? =some b:=⟨_,y0 (by omega)⟩;rw[a1 al.u ab.i (by kernel_rfl) aD ag];simp only[cY];rw[wrap_i64 (by omega) (by omega),eS (i:=j-1) (by omega) al.u ab.i (by kernel_rfl) aD ai];simp only[bc,aa,aF];refine⟨fun aj=>?_,fun aj=>?_⟩
  ·subst aj;rw[fz al.u ab.i (l:=j) (h:=n) (m:=cap) mp hd eb (by omega) (by omega) (by omega),if_neg (by omega)];have aU:X1 (fun x:Addr=>x.add (j*1)) (some ⟨g,0,none⟩)=some ⟨g,j,none⟩:=by simp[W5]
   rw[aU];have aE:dedup l (j+1)=l.take j:=by rw[rA (by omega) (by rw[ag,ai]),pk (by omega) ae]
   refine⟨fun ak t ap=>∃ (q E:Nat) (J:List Int),ak= .int .i64 (q:Int)∧t= .int .i64 (E:Int)∧1≤E∧j+E≤n∧af (fun r=>r=g) w ap∧am .i64 ab ap g (.slice (some ⟨g,0,none⟩) n cap) J∧J.length=n∧
     q=(dedup l (j+E)).length∧J.take q=dedup l (j+E)∧q≤j+E-1∧ ∀ i,j+E-1≤i→J[i]? =l[i]?,fun _ t _=>n-(bl t).toNat,
    ⟨j,1,l,rfl,rfl,by omega,by omega,X.U _,h.ext X,V,by rw[aE,o5];omega,by rw[aE],by omega,fun i _=>rfl⟩,?_⟩
   rintro _ _ ap ⟨q,E,J,rfl,rfl,bu,bw,au,aG,aH,aJ,Y,aV,Z⟩;rw[fy al.u];simp only[ao,aa,dj];refine⟨fun aK=>?_,fun aK=>?_⟩
   ·have aK:j+E<n:=by omega
    refine aL (fun ak av=>∃ (q:Nat) (J:List Int),ak= .int .i64 (q:Int)∧af (fun r=>r=g) w av∧am .i64 ab av g (.slice (some ⟨g,0,none⟩) n cap) J∧J.length=n∧
     q=(dedup l (j+(E+1))).length∧J.take q=dedup l (j+(E+1))∧q≤j+(E+1)-1∧ ∀ i,j+(E+1)-1≤i→J[i]? =l[i]?) ?_ ?_
    ·rintro _ av ⟨q,J,rfl,h1,aB,aW,aX,aY,aZ,a2⟩;simp only[aF];rw[wrap_i64 (by omega) (by omega)];exact⟨⟨q,E+1,J,rfl,rfl,by omega,by omega,h1,aB,aW,aX,aY,aZ,a2⟩,by simp only[bl];omega⟩
    ·intro bx aM bz aw _ _;have ac:=aG.ext aw;have ax:=Gr (j:=j) ac (by omega);obtain⟨y,ad⟩:∃ y,l[j+E]? =some y:=⟨_,y0 (by omega)⟩;obtain⟨z,ay⟩:∃ z,l[j+E-1]? =some z:=⟨_,y0 (by omega)⟩;have aN:(J.drop j)[E]? =some y:=by rw[List.getElem?_drop,Z _ (by omega),ad]
     have a6:(J.drop j)[E-1]? =some z:=by rw[List.getElem?_drop,Z _ (by omega),←ay];congr 1;omega
     rw[a1 al.u ab.i (by kernel_rfl) ax aN];simp only[cY];rw[wrap_i64 (by omega) (by omega),eS (i:=E-1) (by omega) al.u ab.i (by kernel_rfl) ax a6];simp only[be,aa,aF];refine⟨fun O=>?_,fun O=>?_⟩
     ·rw[a1 al.u ab.i (by kernel_rfl) ax aN,fR rfl al.u ab.i ac (by omega)];refine fS ab.i ac (by omega) fun bA a7 bB a8=>?_;rw[wrap_i64 (by omega) (by omega)];have aO:dedup l (j+E+1)=dedup l (j+E)++[y]:=rB ad (fun _=>by rw[ad,ay];simpa using O);refine aM _ _ ⟨q+1,_,rfl,(au.trans (aw.U _)).trans a7,a8,by simpa using aH,?_,?_,by omega,fun i hi=>?_⟩
      ·rw[←Nat.add_assoc,aO];simp;omega
      ·rw[←Nat.add_assoc,aO,u4,U1 (by omega),List.take_set_of_le (u9 _),Y];rfl
      ·rw[List.getElem?_set_ne (by omega)];exact Z i (by omega)
     ·have O:y=z:=Z7.1 O;have aP:dedup l (j+E+1)=dedup l (j+E):=rA (by omega) (by rw[ad,ay,O]);exact aM _ _ ⟨q,J,rfl,au.trans (aw.U _),ac,aH,by rw[←Nat.add_assoc,aP];exact aJ,by rw[←Nat.add_assoc,aP];exact Y,by omega,fun i hi=>Z i (by omega)⟩
   ·have ba:j+E=n:=by omega
    rw[ba] at aJ Y aV;obtain⟨_,_,cs,bb,_,_,bC,bd⟩:=nb aG (by omega);simp only[maxLen] at aR;rw[fz al.u ab.i (l:=q) (h:=n) (m:=cap) mp hd eb (by omega) (by omega) (by omega),if_neg (by omega)];have bf:X1 (fun x:Addr=>x.add (q*1)) (some ⟨g,0,none⟩)=some ⟨g,q,none⟩:=by simp[W5]
    rw[bf];refine uS al.u ab.i rfl rfl bb (by omega) (by omega) fun bD bg bE bh=>?_;rw[fz al.u ab.i (l:=0) (h:=q) (m:=cap) hc mq eb (by omega) (by omega) (by omega),if_neg (by omega)];have bi:X1 (fun x:Addr=>x.add (0*1)) (some ⟨g,0,none⟩)=some ⟨g,0,none⟩:=by simp[W5]
    rw[bi,V];refine⟨au.trans bg,?_⟩;rw[←Y];refine am.of (n:=q) ⟨by simp;omega,.inr ⟨cap,_,by simp,bh,by omega,by simp only[maxLen];omega,by rw[kk];omega,?_⟩⟩;rw[W9];apply Y4;intro i;by_cases hi:i<q
    ·rw[c7 hi,li _ _ _ (by simp;omega),if_neg (by omega),ints,x6,c7 hi];have:(cs.take n)[i]? =(ints .i64 J)[i]?:=by rw[bd]
     rw[c7 (by omega),ints,x6] at this;exact this
    ·rw[c6 (by simp;omega),c6 (by simp;omega)]
  ·rw[wrap_i64 (by omega) (by omega)];refine⟨⟨j+1,rfl,by omega,by omega,X,fun i hi az=>?_⟩,by simp only[bl];omega⟩;by_cases bj:i=j
   ·subst bj;rw[ag,ai];intro he;exact aj (j5 he)
   ·exact ae i (by omega) az
 ·have aC:j=n:=by omega
  rw[pk (u9 _) (by rw[V,←aC];exact ae),o3];exact h.ext W
theorem Gt {n:Nat} {w:x2} (ad:n≤1000000):ah x5 B3 [.slice none 0 0,.int .i64 (n:Int)] w fun v w'=>Ext w w'∧ ∃ g,w.heap.size≤g∧am .i64 ab w' g v []:=by
 refine aq func286 ?_;refine dd (fun O=>w=O) ?_ ?_
 ·rintro _ rfl;refine aL (fun v w'=>Ext w w'∧ ∃ g,w.heap.size≤g∧am .i64 ab w' g v []) (fun _ _ h=>h) fun U E=>?_;rw[uR al.u,fy al.u];simp only[cY];have V:X0.wrap (((0:Nat):Int)-((0:Nat):Int))=0:=by decide
  have W:X0.wrap ((n:Int)-0)=n:=by rw[wrap_i64 (by omega) (by omega)];omega
  rw[V,W];simp only[bA,aa];refine⟨fun h=>?_,fun h=>E _ _ ⟨Ext.refl _,w.heap.size,u9 _,am.nil _ _ _ _⟩⟩;rw[uR al.u,fz al.u ab.i (l:=0) (h:=0) (m:=0) hc mq eb (by omega) (by omega) (by omega),if_pos rfl];refine CV (k:=n) (xs:=[]) rfl al.u ab.u ab.i rfl ⟨rfl,0,0,none,0,rfl,u9 _,Z1 _,fun h=>absurd h (Nat.lt_irrefl _),fun j v h=>by simp at h⟩ (by omega) (by omega) (by omega) (by omega) fun v g w' ae J hm=>?_;obtain⟨_,⟨_,af⟩|⟨cap,cs,rfl,X,h1,Y,Z,ag⟩⟩:=hm
  ·omega
  rw[fy al.u,fz al.u ab.i (l:=0) (h:=0) (m:=cap) hc mq eb (by omega) (by omega) (by omega),if_neg (by omega)];have ac:X1 (fun x:Addr=>x.add (0*1)) (some ⟨g,0,none⟩)=some ⟨g,0,none⟩:=by simp[W5]
  rw[ac];refine E _ _ ⟨J,g,by omega,am.of (n:=0) ⟨by simp,.inr ⟨cap,cs,by simp,X,by omega,Y,Z,by simp⟩⟩⟩
 ·intro U E;simp only[ao,aa];exact⟨fun h=>by omega,fun _=>E _ rfl⟩
set_option maxHeartbeats 1000000 in
theorem Gu {af bv:x1} {a b:List Int} {w:x2} {K:x1→x2→Prop} (aw:aC .i64 w af a) (ax:aC .i64 w bv b) (aD:a.length≤1000) (aE:b.length≤1000)
  (aG:∀ v w' g,Ext w w'→w.heap.size≤g→am .i64 ab w' g v (a++b)→K v w'):
  aA x5 (j9 dO 2 #[(0,af),(1,bv)]) w fun t E=>ah x5 BN [t] E K:=by
 obtain⟨⟨ag,ai,aj,aH⟩,⟨ak,ap,au,aJ⟩⟩:(∃ x n c,af= .slice x n c)∧(∃ x n c,bv= .slice x n c):=by
  obtain⟨_,_,_,x,c,h1,_⟩:=id aw;obtain⟨_,_,_,y,d,aK,_⟩:=id ax;exact⟨⟨x,_,c,h1⟩,⟨y,_,d,aK⟩⟩
 subst aH;subst aJ;refine hM dO.u al.i (by omega) (cs:=#[.slice ag ai aj,.slice ak ap au]) (by kernel_rfl) fun g E a1 W X=>?_;have X:ad E g al [.slice ag ai aj,.slice ak ap au]:=X;have key:∀ i:Nat,i<2→ ∃ v l,[x1.slice ag ai aj,.slice ak ap au][i]? =some v∧[a,b][i]? =some l∧aC .i64 w v l∧l.length≤1000:=fun i hi=>by
  match i,hi with
  |0,_=>exact⟨_,_,rfl,rfl,aw,aD⟩
  |1,_=>exact⟨_,_,rfl,rfl,ax,aE⟩
 refine aq func257 ?_;rw[fy dO.u];refine bM.range 2 (fun i size Y=>Ext E Y∧ ∃ n:Nat,n≤1000*i∧size= .int .i64 (n:Int)) (by omega) ⟨Ext.refl _,0,by omega,rfl⟩ ?_ ?_
 ·rintro i _ Y aM hi ⟨J,n,aN,rfl⟩ aO;simp only[ao,aa];refine⟨fun _=>?_,fun h=>by omega⟩;obtain⟨v,l,ac,ay,av,aP⟩:=key i hi;refine aL (fun v az=>Y=az∧v= .int .i64 ((n+l.length:Nat):Int)) ?_ ?_
  ·rintro _ _ ⟨rfl,rfl⟩;simp only[aF];exact aO _ _ ⟨J,_,by omega,rfl⟩
  ·intro a2 aQ;rw[gj (b:=g) (o:=0) dO.u al.i hi (fun _=>rfl),V (by kernel_rfl) ((X.ext J).cell (o:=0+i*1) (by rw[←ac];congr 1;omega)),aI al.u (av.ext (W.trans J))];simp only[aF,ao,aa];rw[wrap_i64 (by omega) (by omega)];exact⟨fun h=>by omega,fun _=>aQ _ _ ⟨rfl,by congr 1⟩⟩
 ·rintro _ Y aM ⟨J,n,aN,rfl⟩;simp only[ao,aa];refine⟨fun h=>by omega,fun _=>?_⟩;refine (Gt (n:=n) (by omega)).mono ?_;rintro v0 az _ ⟨aB,aR,a6,aS⟩;have a7:=W.size;have a8:=J.size;have ba:=aB.size;have aT:=J.trans aB;rw[fy dO.u];refine bM.range 2 (fun i v Z=>Ext E Z∧ ∃ U,E.heap.size≤U∧am .i64 ab Z U v (([a,b].take i).flatten)∧(([a,b].take i).flatten).length≤1000*i) (by omega) ⟨aT,aR,by omega,aS,by simp⟩ ?_ ?_
  ·rintro i v4 Z aU hi ⟨O,U,aV,ae,bb⟩ aW;simp only[ao,aa];refine⟨fun _=>?_,fun h=>by omega⟩;obtain⟨v,l,ac,ay,av,aP⟩:=key i hi;rw[gj (b:=g) (o:=0) dO.u al.i hi (fun _=>rfl),V (by kernel_rfl) ((X.ext O).cell (o:=0+i*1) (by rw[←ac];congr 1;omega))];refine gM al.u ab.i rfl ae (av.ext (W.trans O)) (by omega) (by omega) fun bc aX bd be aY aZ=>?_;simp only[aF];have bf:=O.size;have e:([a,b].take (i+1)).flatten=([a,b].take i).flatten++l:=by rw[u4,ay];simp
   refine aW _ _ ⟨O.then aZ (by rintro r bg rfl;omega),aX,by omega,by rw[e];exact aY,by rw[e,r8];omega⟩
  ·rintro v4 Z aU ⟨O,U,aV,ae,_⟩;simp only[ao,aa];refine⟨fun h=>by omega,fun _=>aG _ _ U (W.trans O) (by omega) ?_⟩;have e:([a,b].take 2).flatten=a++b:=by simp
   rw[e] at ae;exact ae
def lO (O E U J vars:List Int):Prop:=∀ p∈vars,p∈E→p∈J→fD O (eY E p)=fD U (eY J p)
def cF (E J O U vars:List Int):List Int:=vars.map fun p=>max (fD E (eY J p)) (fD O (eY U p))
theorem xF (E J O U vars:List Int):(cF E J O U vars).length=vars.length:=by simp[cF]
theorem pr {l:List Int} {x:Int}:0≤eY l x↔x∈l:=by
 unfold eY;by_cases h:x∈l
 ·rw[if_pos h];exact⟨fun _=>h,fun _=>by omega⟩
 ·rw[if_neg h];exact⟨fun h=>by omega,fun E=>absurd E h⟩
set_option maxHeartbeats 1000000 in
theorem Gv {w:x2} {g bc aP bd:Nat} {sv ap aQ aR bv:x1} {O U vars E J:List Int} {k bf:Int} {bg bh:List Int} (h1:cp w g bc sv O k bg) (aS:cp w aP bd ap U bf bh) (ac:aC .i64 w aQ vars) (bi:aC .i64 w aR E) (au:aC .i64 w bv J) (bk:eX E) (bl:eX J) (bI:vars.length≤1000):
  ah x5 BO [aQ,.pointer (some ⟨g,0,none⟩),aR,.pointer (some ⟨aP,0,none⟩),bv] w fun v w'=>Ext w w'∧
   (¬lO O E U J vars→v= .tuple #[.slice none 0 0,.bool false])∧
   (lO O E U J vars→ ∃ x aJ,v= .tuple #[x,.bool true]∧w.heap.size≤aJ∧am .i64 ab w' aJ x (cF O E U J vars)):=by
 have sub:∀ {w:x2} {g:Nat} {sv:x1} {k:Int} {aH:x1},ad w g ci [sv,.int .i64 k,aH]→w.rangeAt g (0+0) [sv]:=fun au=>kt au (by
  intro j v ac
  match j,ac with
  |0,ac=>exact ac)
 refine aq func258 ?_;rw[aI al.u ac];refine hN al.u ab.i (by omega) (by omega) fun Z bm bJ aT bn=>?_;have bo:am .i64 ab bm Z (.slice (some ⟨Z,0,none⟩) vars.length vars.length) (v8 vars.length 0):=am.of (n:=vars.length) (br.full bn (by simp) (by simp[maxLen];omega));generalize (x1.slice (some ⟨Z,0,none⟩) vars.length vars.length)=bp at*;rw[aI al.u (ac.ext aT)];have av:=xF O E U J vars;refine k3.range vars.length (fun i _ _ ai=>Ext w ai∧am .i64 ab ai Z bp (upto (cF O E U J vars) 0 i)∧ ∀ (j:Nat) (p:Int),j<i→vars[j]? =some p→p∈E→p∈J→fD O (eY E p)=fD U (eY J p)) (by omega)
  ⟨aT,by rw[mE,av];exact bo,fun j p af=>by omega⟩ ?_ ?_
 ·rintro i _ _ ai bq hi ⟨V,hm,aw⟩ bt;simp only[ao,aa];refine⟨fun _=>?_,fun h=>by omega⟩;obtain⟨p,W⟩:∃ p,vars[i]? =some p:=⟨_,y0 hi⟩;rw[a1 al.u ab.i (by kernel_rfl) (ac.ext V) W];refine (pm (bi.ext V) bk).mono ?_;rintro _ bK _ ⟨rfl,ay⟩;refine (pm (au.ext (V.trans ay)) bl).mono ?_;rintro _ bu _ ⟨rfl,aU⟩;have aV:=(V.trans ay).trans aU;refine aL (fun v aW=>Ext bu aW∧ ∃ c,v= .bool c∧(c=true↔p∈E∧p∈J∧fD O (eY E p)≠fD U (eY J p))) ?_ ?_
  ·rintro _ aW ⟨aX,c,rfl,aY⟩;have aZ:=aV.trans aX;rw[b3];refine⟨fun bw=>⟨aZ,fun _=>by first|rfl|trivial,fun af=>?_⟩,fun ag=>?_⟩
   ·obtain⟨X,Y,bx⟩:=aY.1 bw;exact absurd (af p (x4 W) X Y) bx
   ·simp only[dj];intro bL a2 _ _;have az:=aZ.trans a2;obtain⟨⟨aH,gs,aA,aB,_⟩,_⟩:=h1.ext az;obtain⟨⟨bz,bA,aD,aE,_⟩,_⟩:=aS.ext az;rw[ax,ae ci.p rfl,bj (cs:=[sv]) a6.p a6.i rfl (sub aA),ax,ae ci.p rfl,bj (cs:=[ap]) a6.p a6.i rfl (sub aD)];refine (mL aB.ls).mono ?_;rintro _ bM _ ⟨rfl,aj⟩;refine⟨.inl aj,?_⟩;refine (mL (aE.ls.ext aj)).mono ?_;rintro _ bN _ ⟨rfl,a7⟩;have bB:=(az.trans aj).trans a7;have a8:=hm.ext ((((ay.trans aU).trans aX).trans a2).trans (aj.trans a7));have bO:(upto (cF O E U J vars) 0 i).length=vars.length:=by rw[mD,av]
    rw[oc,fR rfl al.u ab.i a8 (by omega)];refine fS ab.i a8 (by omega) fun bP bC _ ba=>?_;simp only[aF];have bD:(cF O E U J vars)[i]? =some (max (fD O (eY E p)) (fD U (eY J p))):=by
     unfold cF;rw[x6,W];rfl
    rw[mG bD] at ba;refine bt _ _ _ ⟨bB.then bC (by rintro r bQ rfl;omega),ba,fun j bE af aG X Y=>?_⟩;by_cases bF:j=i
    ·subst bF;rw[W] at aG;cases aG;refine Decidable.byContradiction fun bG=>?_;have:=aY.2 ⟨X,Y,bG⟩;rw[ag] at this;cases this
    ·exact aw j bE (by omega) aG X Y
  ·intro bR aK;simp only[dj,ca,aa];intro bS ak _ _;refine⟨fun aM=>⟨fun aN=>?_,fun aN=>⟨.inl (Ext.refl _),aK _ _ ⟨ak,false,rfl,⟨(fun h=>by cases h),fun h=>absurd (pr.2 h.2.1) aN⟩⟩⟩⟩,fun aM=>⟨.inl (Ext.refl _),aK _ _ ⟨ak,false,rfl,⟨(fun h=>by cases h),fun h=>absurd (pr.2 h.1) aM⟩⟩⟩⟩;have bb:=aV.trans ak;obtain⟨⟨aH,gs,aA,aB,_⟩,_⟩:=h1.ext bb;obtain⟨⟨bz,bA,aD,aE,_⟩,_⟩:=aS.ext bb;rw[ax,ae ci.p rfl,bj (cs:=[sv]) a6.p a6.i rfl (sub aA),ax,ae ci.p rfl,bj (cs:=[ap]) a6.p a6.i rfl (sub aD)];refine (mL aB.ls).mono ?_;rintro _ bT _ ⟨rfl,aO⟩;refine⟨.inl aO,?_⟩;refine (mL (aE.ls.ext aO)).mono ?_;rintro _ bU _ ⟨rfl,bH⟩;simp only[be];refine aK _ _ ⟨(ak.trans aO).trans bH,_,rfl,?_⟩;rw[decide_eq_true_iff];exact⟨fun h=>⟨pr.1 aM,pr.1 aN,h⟩,fun h=>h.2.2⟩
 ·rintro _ _ ai bq ⟨V,hm,aw⟩;simp only[ao,aa];refine⟨fun h=>by omega,fun _=>?_⟩;have af:lO O E U J vars:=fun p W X Y=>by
   obtain⟨i,hi,he⟩:=List.getElem_of_mem W;exact aw i p hi (by rw[y0 hi,he]) X Y
  rw[←av,mF] at hm;exact⟨V,fun h=>absurd af h,fun _=>⟨_,Z,rfl,by omega,hm⟩⟩
def rF (E J vars:List Int):Prop:=eX vars∧ ∀ x,x∈vars↔x∈E∨x∈J
def kH (E V J O W U vars:List Int) (k:Int):List Int:=
 (Y1 (aD (cF E J O U vars)).toNat).map fun(q:Nat)=>min (cC E V (dv (ce (cF E J O U vars) q) vars J)+cC O W (dv (ce (cF E J O U vars) q) vars U)) k
theorem xG (E V J O W U vars:List Int) (k:Int):(kH E V J O W U vars k).length=(aD (cF E J O U vars)).toNat:=by simp[kH]
theorem xH {s cs t:List Int} {k:Int} (E:right k) (h:∀ x∈cs,cj x k):cj (cC s cs t) k:=by
 have J:cj 0 k:=⟨E,Int.le_refl _,by have:=E.1;omega⟩;unfold cC;split
 ·rename_i n _;rw[u6];cases O:cs[n.toNat]? with
  |none=>exact J
  |some x=>exact h x (x4 O)
 ·exact J
def Fits (s l:List Int):Prop:=l.length=s.length∧m9 l
def nc (e:Int):x1:=.tuple #[.pointer none,.slice none 0 0,.int .i64 e]
def xI (w:x2) (O Y E U Z J:List Int) (k V:Int) (v:x1) (w':x2):Prop:=
 Ext w w'∧(¬(Fits O E∧Fits U J)→v=nc 1)∧
  (Fits O E∧Fits U J→ ∃ vars,rF E J vars∧(¬lO O E U J vars→v=nc 1)∧(lO O E U J vars→(k≠V→v=nc 3)∧
   (k=V→¬bu (cF O E U J vars)→v=nc 1)∧(k=V→bu (cF O E U J vars)→4096<aD (cF O E U J vars)→v=nc 5)∧
   (k=V→bu (cF O E U J vars)→aD (cF O E U J vars)≤4096→ ∃ W aa ab X,v= .tuple #[.pointer (some ⟨W,0,none⟩),X,.int .i64 0]∧
    cp w' W aa ab (cF O E U J vars) k (kH O Y E U Z J vars k)∧aC .i64 w' X vars)))
set_option maxHeartbeats 1000000 in
theorem Gw {w:x2} {g b2 aY b4:Nat} {sv b5 a1 bv:x1} {W X E O:List Int} {k bq:Int} {ak ao:List Int} (h1:cp w g b2 sv W k ak) (a2:cp w aY b4 b5 X bq ao) (a8:aC .i64 w a1 E) (aE:aC .i64 w bv O)
  (br:right k) (cW:∀ x∈ak,cj x k) (cX:∀ x∈ao,cj x bq):
  ah x5 Bq [.pointer (some ⟨g,0,none⟩),a1,.pointer (some ⟨aY,0,none⟩),bv] w (xI w W ak E X ao O k bq):=by
 have cY:=a8.cells;have cZ:=aE.cells;have c0:=h1.2.2.1;have c1:=a2.2.2.1;have sub:∀ {w:x2} {g:Nat} {sv:x1} {k:Int} {aH:x1},ad w g ci [sv,.int .i64 k,aH]→w.rangeAt g (0+0) [sv]:=fun aE=>kt aE (by
  intro j v ac
  match j,ac with
  |0,ac=>exact ac)
 refine jB func213 ?_;refine a7 fun b6 eh ei b7 au=>?_;refine a7 fun b8 ej ek bI aw=>?_;refine a7 fun b9 em en bt ay=>?_;refine a7 fun ca aM eo ba az=>?_;have ep:=au.lt;have er:=aw.lt;have es:=ay.lt;have et:=az.lt;have eu:=b7.size;have ev:=bI.size;have ew:=bt.size;have ey:=ba.size;have aN:=((b7.trans bI).trans bt).trans ba;have au:ad aM b6 dA [.pointer (some ⟨g,0,none⟩)]:=((au.ext bI).ext bt).ext ba;have aw:ad aM b8 al [a1]:=by rw[cY.1] at aw;exact (aw.ext bt).ext ba
 have ay:ad aM b9 dA [.pointer (some ⟨aY,0,none⟩)]:=ay.ext ba;have az:ad aM ca al [bv]:=by rw[cZ.1] at az;exact az
 refine aL (fun v cb=>v= .bool false∧aM=cb) ?_ ?_
 rotate_left
 ·intro c2 bw;rw[V (by kernel_rfl) (au.cell (o:=0) rfl),cB dA.u];simp only[c5,aP];rw[V (by kernel_rfl) (ay.cell (o:=0) rfl),cB dA.u];exact bw _ _ ⟨rfl,rfl⟩
 rintro _ _ ⟨rfl,rfl⟩;simp only[aP];refine aL (fun v bK=>Ext aM bK∧ ∃ c,v= .bool c∧(c=true↔¬(Fits W E∧Fits X O))) ?_ ?_
 rotate_left
 ·intro c2 bw;rw[V (by kernel_rfl) (au.cell (o:=0) rfl),V (by kernel_rfl) (aw.cell (o:=0) rfl)];refine (xx (h1.ext aN) (a8.ext aN)).mono ?_;rintro _ cb _ ⟨aO,c,rfl,bb⟩;simp only[bJ,b3];refine⟨fun bx=>bw _ _ ⟨aO,true,rfl,fun _ h=>?_,fun _=>rfl⟩,fun ag=>?_⟩
  ·have:=bb.2 h.1;rw[this] at bx;cases bx
  ·have c3:c=true:=by cases c <;> simp_all
   rw[V (by kernel_rfl) ((ay.ext aO).cell (o:=0) rfl),V (by kernel_rfl) ((az.ext aO).cell (o:=0) rfl)];refine (xx ((a2.ext aN).ext aO) ((aE.ext aN).ext aO)).mono ?_;rintro _ ez _ ⟨c4,d,rfl,cc⟩;simp only[bJ];refine bw _ _ ⟨aO.trans c4,_,rfl,fun h c6=>?_,fun h=>?_⟩
   ·have:=cc.2 c6.2;rw[this] at h;cases h
   ·cases d with
    |false=>rfl
    |true=>exact absurd ⟨bb.1 c3,cc.1 rfl⟩ h
 rintro _ bK ⟨bc,c,rfl,bb⟩;have bL:=aN.trans bc;rw[b3];refine⟨fun bx eA c7 _=>⟨bL.trans c7,fun _=>rfl,fun h=>absurd h (bb.1 bx)⟩,fun ag=>?_⟩;have bd:Fits W E∧Fits X O:=Classical.byContradiction fun h=>by
  have:=bb.2 h;rw[ag] at this;cases this
 obtain⟨⟨eB,c8⟩,eC,c9⟩:=id bd;have eD:=c0.1;have eE:=c1.1;rw[V (by kernel_rfl) ((aw.ext bc).cell (o:=0) rfl),V (by kernel_rfl) ((az.ext bc).cell (o:=0) rfl)];refine Gu (a8.ext bL) (aE.ext bL) (by omega) (by omega) fun eF eH eI cd eJ da=>?_;refine rz da.ls (by rw[r8];omega) fun eK eL eM m cg eN ch db dc=>?_;have dd:=ch.length_eq;rw[r8] at dd;refine (Gs dc (by omega)).mono ?_;rintro bz ck _ ⟨de,bM⟩;have eO:=bc.size;have eP:=cd.size;have eQ:=cg.size;have cl:Ext bK ck:=(cd.trans cg).then de (by rintro r aQ rfl;omega);obtain⟨df,dg⟩:=xw db (j:=m.length) (u9 _);have eR:=xv m m.length;have aA:rF E O (dedup m m.length):=⟨df,fun x=>by rw[dg,o3,ch.mem_iff,p9]⟩;generalize dedup m m.length=vars at*;refine bi al.i fun cm eS eT cn dh=>?_;refine aZ al.i bM.ls.cells.1 bM.ls.cells.2 dh (by simp[x1.cells]) fun cq di eU bf=>?_;have eV:=cl.size;have eW:=cn.size;have bN:Ext ck cq:=cn.then di (by rintro r aQ rfl;omega);have aR:=(bc.trans cl).trans bN;have bg:=aN.trans aR;have eX:=bf.lt;have cr:=bM.ls.ext bN;have bf:ad cq cm al [bz]:=bf;rw[V (by kernel_rfl) (bf.cell (o:=0) rfl),V (by kernel_rfl) ((au.ext aR).cell (o:=0) rfl),V (by kernel_rfl) ((aw.ext aR).cell (o:=0) rfl),V (by kernel_rfl) ((ay.ext aR).cell (o:=0) rfl),V (by kernel_rfl) ((az.ext aR).cell (o:=0) rfl)];refine (Gv (h1.ext bg) (a2.ext bg) cr (a8.ext bg) (aE.ext bg) c8.up c9.up (by omega)).mono ?_;rintro bW eY _ ⟨bk,dj,dk⟩;have ct:=bg.trans bk;by_cases aS:lO W E X O vars
 rotate_left
 ·rw[dj aS,av (v:=.slice none 0 0) rfl,av (v:=.bool false) rfl];simp only[bJ,Y8,bh];intro eZ dl _;exact⟨ct.trans dl,fun h=>absurd bd h,fun _=>⟨vars,aA,fun _=>rfl,fun h=>absurd h aS⟩⟩
 obtain⟨xs,aJ,rfl,e0,dm⟩:=dk aS;rw[av (v:=xs) rfl,av (v:=.bool true) rfl];simp only[bJ,Z3,aP];intro aF aT _ _;have bA:=(aR.trans bk).trans aT;have aU:=ct.trans aT;have au:=au.ext bA;have aw:=aw.ext bA;have ay:=ay.ext bA;have az:=az.ext bA;have dn:=(bf.ext bk).ext aT;obtain⟨⟨aH,gs,cu,e1,_⟩,_⟩:=h1.ext aU;obtain⟨⟨e2,e3,dp,e4,_⟩,_⟩:=a2.ext aU;rw[V (by kernel_rfl) (au.cell (o:=0) rfl),ax,ae ci.p rfl,V (by kernel_rfl) (cu.cell (o:=0+1) rfl),V (by kernel_rfl) (ay.cell (o:=0) rfl),ax,ae ci.p rfl,V (by kernel_rfl) (dp.cell (o:=0+1) rfl)];simp only[be,aa];refine⟨fun aG e5 dq _=>⟨aU.trans dq,fun h=>absurd bd h,fun _=>⟨vars,aA,fun h=>absurd aS h,fun _=>⟨fun _=>rfl,fun h=>absurd h aG,fun h=>absurd h aG,fun h=>absurd h aG⟩⟩⟩,fun aG=>?_⟩;have aG:k=bq:=Z7.1 aG;subst aG;rw[V (by kernel_rfl) (au.cell (o:=0) rfl),ax,ae ci.p rfl,V (by kernel_rfl) (cu.cell (o:=0+1) rfl)];have dr:=dm.ext aT;refine (qN dr.ls).mono ?_;rintro cw bl _ ⟨cz,ds,dt,_,du⟩;have e6:=bN.size;have e7:=bk.size;have e8:=aT.size;have e9:=cz.size;obtain⟨aV,e,rfl,fa,bB⟩:∃ (aV:Option Addr) (e:Int),cw= .tuple #[.pointer aV,.int .i64 e]∧(e=0→aV≠none)∧((e=1∧¬bu (cF W E X O vars))∨(e=5∧bu (cF W E X O vars)∧4096<aD (cF W E X O vars))∨(e=0∧bu (cF W E X O vars)∧aD (cF W E X O vars)≤4096∧
   ∃ Z Y ai,aV=some ⟨Z,0,none⟩∧aF.heap.size≤Z∧aF.heap.size≤Y∧(∀ r,leads ai r→aF.heap.size≤r)∧cp bl Z Y ai (cF W E X O vars) k (v8 (aD (cF W E X O vars)).toNat 0))):=by
  by_cases aq:bu (cF W E X O vars)
  ·by_cases aB:aD (cF W E X O vars)≤4096
   ·obtain⟨Z,Y,ai,dw,dx,dy,dz,dC⟩:=du aq aB ⟨br,by omega,by have:=br.1;omega⟩;exact⟨_,_,dw,(fun _ h=>by cases h),.inr (.inr ⟨rfl,aq,aB,Z,Y,ai,rfl,dx,dy,dz,dC⟩)⟩
   ·exact⟨_,_,dt aq (by omega),(fun h=>by omega),.inr (.inl ⟨rfl,aq,by omega⟩)⟩
  ·exact⟨_,_,ds aq,(fun h=>by omega),.inl ⟨rfl,aq⟩⟩
 rw[av (v:=.pointer aV) rfl,av (v:=.int .i64 e) rfl];refine bi dA.i fun cA fb fc cD bm=>?_;refine aZ dA.i rfl rfl bm (by simp[x1.cells]) fun dD dE fd bm=>?_;have fe:=cD.size;have bO:Ext bl dD:=cD.then dE (by rintro r aQ rfl;omega);have cE:=cz.trans bO;have dF:=aU.trans cE;have ff:=bm.lt;simp only[be,aa];refine⟨fun dG fg dH _=>⟨dF.trans dH,fun h=>absurd bd h,fun _=>⟨vars,aA,fun h=>absurd aS h,fun _=>⟨fun h=>absurd rfl h,fun _ aq=>?_,fun _ aq aB=>?_,fun _ aq aB=>?_⟩⟩⟩,fun fh=>?_⟩
 ·rcases bB with⟨rfl,_⟩|⟨_,h,_⟩|⟨_,h,_⟩
  ·rfl
  ·exact absurd h aq
  ·exact absurd h aq
 ·rcases bB with⟨_,h⟩|⟨rfl,_⟩|⟨_,_,h,_⟩
  ·exact absurd aq h
  ·rfl
  ·omega
 ·rcases bB with⟨_,h⟩|⟨_,_,h⟩|⟨h,_⟩
  ·exact absurd aq h
  ·omega
  ·exact absurd h dG
 obtain⟨bC,dI,Z,Y,ai,rfl,fi,fj,fk,bD⟩:bu (cF W E X O vars)∧aD (cF W E X O vars)≤4096∧
   ∃ Z Y ai,aV=some ⟨Z,0,none⟩∧aF.heap.size≤Z∧aF.heap.size≤Y∧(∀ r,leads ai r→aF.heap.size≤r)∧cp bl Z Y ai (cF W E X O vars) k (v8 (aD (cF W E X O vars)).toNat 0):=by
  rcases bB with⟨h,_⟩|⟨h,_⟩|⟨_,h⟩
  ·omega
  ·omega
  ·exact h
 obtain rfl:e=0:=by omega
 have dJ:(cF W E X O vars).length=vars.length:=xF _ _ _ _ _;have fl:=prod_bound bC;obtain⟨N,bE⟩:∃ N:Nat,(aD (cF W E X O vars)).toNat=N:=⟨_,rfl⟩;rw[bE] at bD;have fm:0<N:=by omega
 have dK:=bD.ext bO;obtain⟨⟨bP,cG,cH,cI,dL⟩,⟨cJ,cK,_⟩,_,fo⟩:=id dK;have fp:Z<bl.heap.size:=by obtain⟨⟨_,_,q,_⟩,_⟩:=id bD;exact q.lt
 have fq:Y<bl.heap.size:=by obtain⟨⟨_,_,_,_,q⟩,_⟩:=id bD;exact pf q (by simp;omega)
 rw[V (by kernel_rfl) (bm.cell (o:=0) rfl),ax,ae ci.p rfl,bj (cs:=[ai]) a6.p a6.i rfl (sub cH)];refine ra.mono ?_;rintro _ bn _ ⟨aI,bF,rfl,fs,cL⟩;have ft:=bO.size;have fu:=aI.size;let S:Nat→Prop:=fun r=>r=Y;let aW:=kH W ak E X ao O vars k;have bQ:aW.length=N:=by simp only[aW];rw[xG,bE]
 have dM:=(cr.ext bk).ext aT;let dN:x2→Prop:=fun w'=>ad w' b6 dA [.pointer (some ⟨g,0,none⟩)]∧ad w' b8 al [a1]∧ad w' b9 dA [.pointer (some ⟨aY,0,none⟩)]∧ad w' ca al [bv]∧ad w' cm al [bz]∧aC .i64 w' bz vars∧
  ad w' cA dA [.pointer (some ⟨Z,0,none⟩)]∧ad w' Z ci [ai,.int .i64 k,bP]∧cp w' g b2 sv W k ak∧cp w' aY b4 b5 X k ao∧aC .i64 w' a1 E∧aC .i64 w' bv O∧am .i64 ab w' cG ai (cF W E X O vars)∧ad w' bF a6 [ai]∧bn.heap.size≤w'.heap.size
 have cM:=cE.trans aI;have bo:∀ {a:x2},af S bn a→dN a:=by
  intro a J;have aK:Ext aF a:=cM.then J (fun r aQ he=>by have he:r=Y:=he;omega);have bG:=aU.trans aK;exact⟨au.ext aK,aw.ext aK,ay.ext aK,az.ext aK,dn.ext aK,dM.ext aK,(bm.ext aI).U J (by show ¬(cA=Y);omega),(cH.ext aI).U J (by show ¬(Z=Y);exact cJ),h1.ext bG,a2.ext bG,a8.ext bG,aE.ext bG,
   aX (cI.ext aI) J (fun r aQ he=>cK ((show r=Y from he)▸aQ)),cL.U J (by show ¬(bF=Y);omega),J.size⟩
 have cN:=q9 (g:=bF) (B0:=bn.heap.size) (sv:=ai) bC;rw[bE] at cN;refine⟨Nat,false,iV,#[.pointer (some ⟨bF,0,none⟩)],0,_,_,_,fun q w'=>af S bn w'∧am .i64 aj w' Y bP (upto aW 0 q),fun _ _ _=>False,rfl,cN.s,
  ?_,fun _ _ J h=>⟨h.1.ext J,h.2.1.ext J,Z5 h.2.2 J.size⟩,fun _ _ _ J h=>⟨h.1.trans (J.U S),h.2.ext J⟩,fun _ _ _ _ _ h=>h,⟨cL,(cI.ext aI).ls,u9 _⟩,⟨af.refl _ _,?_⟩,?_,?_,fun _ _ h=>h.elim,fun _ _ _ h=>h.elim⟩
 ·rintro _ _ _ _ ⟨_,_,_,_,rfl,_⟩;rfl
 ·rw[mE,bQ];exact dL.ext aI
 ·rintro _ cw q _ fv ⟨_,_,fw⟩ ⟨bR,rfl,fx,gt,dO,fy,cO⟩ ⟨bH,dP⟩;cases dO;let x:=ce (cF W E X O vars) (q:Int);have cP:x.length=vars.length:=by simp only[x];rw[gN,dJ]
  intro fz dQ _ _;intro fA dR _ _;have bS:=dQ.trans dR;obtain⟨f1,f2,f3,f4,f5,f6,f7,f8,f9,f10,f11,f12,f13,f14,f15⟩:=bo (bH.trans (bS.U S));rw[V (by kernel_rfl) (f1.cell (o:=0) rfl),V (by kernel_rfl) (f5.cell (o:=0) rfl),V (by kernel_rfl) (f2.cell (o:=0) rfl)];refine (xy (cO.ls.ext bS) f6 f11 aA.1 (fun p aB=>(aA.2 p).2 (.inl aB)) cP (by omega)).mono ?_;rintro fB fC _ ⟨bT,fD,fE,dS⟩;refine⟨.inl bT,?_⟩;refine (qO (f9.ext bT) dS.ls).mono ?_;rintro _ fF _ ⟨rfl,dT⟩;obtain⟨cQ,dU⟩:=ry W (dv x vars E) ak;have dV:lp W (dv (ce (cF W E X O vars) (q:Int)) vars E) ak= .tuple #[.int .i64 (cC W ak (dv x vars E)),.int .i64 cQ]:=dU;rw[dV,av (v:=.int .i64 (cC W ak (dv x vars E))) rfl,av (v:=.int .i64 cQ) rfl];intro fG dW _ _;have bU:=((bS.trans bT).trans dT).trans dW;obtain⟨f1,f2,f3,f4,f5,f6,f7,f8,f9,f10,f11,f12,f13,f14,f15⟩:=bo (bH.trans (bU.U S));rw[V (by kernel_rfl) (f3.cell (o:=0) rfl),V (by kernel_rfl) (f5.cell (o:=0) rfl),V (by kernel_rfl) (f4.cell (o:=0) rfl)];refine (xy (cO.ls.ext bU) f6 f12 aA.1 (fun p aB=>(aA.2 p).2 (.inr aB)) cP (by omega)).mono ?_;rintro fH fI _ ⟨bV,fJ,fK,dX⟩;refine⟨.inl bV,?_⟩;refine (qO (f10.ext bV) dX.ls).mono ?_;rintro _ fL _ ⟨rfl,dY⟩;obtain⟨cR,dZ⟩:=ry X (dv x vars O) ao;have ea:lp X (dv (ce (cF W E X O vars) (q:Int)) vars O) ao= .tuple #[.int .i64 (cC X ao (dv x vars O)),.int .i64 cR]:=dZ;rw[ea,av (v:=.int .i64 (cC X ao (dv x vars O))) rfl,av (v:=.int .i64 cR) rfl];intro fM eb _ _;have bX:=((bU.trans bV).trans dY).trans eb;obtain⟨f1,f2,f3,f4,f5,f6,f7,f8,f9,f10,f11,f12,f13,f14,f15⟩:=bo (bH.trans (bX.U S));rw[V (by kernel_rfl) (f7.cell (o:=0) rfl),ax,ae ci.p rfl,V (by kernel_rfl) (f8.cell (o:=0+2) rfl),V (by kernel_rfl) (f7.cell (o:=0) rfl),ax,ae ci.p rfl,V (by kernel_rfl) (f8.cell (o:=0+1) rfl)];refine wb.mono ?_;rintro _ fN _ ⟨rfl,bY⟩;refine⟨.inl bY,?_⟩;have ec:lE (cC W ak (dv x vars E)) (cC X ao (dv x vars O)) k= .tuple #[.int .i64 (min (cC W ak (dv x vars E)+cC X ao (dv x vars O)) k),.int .i64 0]:=if_pos ⟨xH br cW,xH br cX⟩;rw[ec,av (v:=.int .i64 (min (cC W ak (dv x vars E)+cC X ao (dv x vars O)) k)) rfl,av (v:=.int .i64 0) rfl];have cS:=dP.ext (bX.trans bY);have fO:(upto aW 0 q).length=N:=by rw[mD,bQ]
  rw[fR rfl ap.u aj.i cS (by omega)];refine fS aj.i cS (by omega) fun ed ee fP cT=>?_;have cU:af S bn ed:=(bH.trans ((bX.trans bY).U S)).trans (ee.mono fun r _ h=>h);obtain⟨f1,f2,f3,f4,f5,f6,f7,f8,f9,f10,f11,f12,f13,f14,f15⟩:=bo cU;have ef:aW[q]? =some (min (cC W ak (dv x vars E)+cC X ao (dv x vars O)) k):=by
   simp only[aW,kH];rw[x6,List.getElem?_range (by rw[bE];exact bR)];rfl
  rw[mG ef] at cT;exact⟨⟨f14,f13.ls,f15⟩,⟨cU,cT⟩,fun h=>by cases h⟩
 ·rintro q fQ bR ⟨cV,bZ⟩;rw[show q=N from bR] at bZ;intro fT b1 _ _;obtain⟨f1,f2,f3,f4,f5,f6,f7,f8,f9,f10,f11,f12,f13,f14,f15⟩:=bo (cV.trans (b1.U S));rw[V (by kernel_rfl) (f7.cell (o:=0) rfl),V (by kernel_rfl) (f5.cell (o:=0) rfl)];intro fU bp _;rw[←bQ,mF] at bZ;have eg:=aU.trans cM;refine⟨((eg.then cV (fun r aQ he=>by have he:r=Y:=he;omega)).trans b1).trans bp,fun h=>absurd bd h,fun _=>⟨vars,aA,fun h=>absurd aS h,fun _=>⟨fun h=>absurd rfl h,fun _ h=>absurd bC h,fun _ _ h=>by omega,fun _ _ _=>⟨Z,Y,ai,bz,rfl,⟨⟨bP,cG,f8.ext bp,f13.ext bp,(bZ.ext b1).ext bp⟩,⟨cJ,cK,dI⟩,bC,xG _ _ _ _ _ _ _ _⟩,f6.ext bp⟩⟩⟩⟩
theorem eX.pair {l:List Int} (h:eX l):l.Pairwise (·< ·):=X3.2 fun i j hi E J=>h i j _ _ J (y0 hi) (y0 E)
theorem Gx {l m:List Int} (E:eX l) (hm:eX m) (h:∀ x,x∈l↔x∈m):l=m:=by
 have J:l.Nodup:=E.pair.imp fun h=>by omega
 have O:m.Nodup:=hm.pair.imp fun h=>by omega
 exact List.Perm.eq_of_pairwise (le:=(·≤ ·)) (fun a b _ _ h1 U=>Int.le_antisymm h1 U) (E.pair.imp fun h=>Int.le_of_lt h) (hm.pair.imp fun h=>Int.le_of_lt h) ((List.perm_ext_iff_of_nodup J O).2 h)
theorem Gy {l vars:List Int} (h:rF l l vars) (hu:eX l):vars=l:=Gx h.1 hu fun x=>by rw[h.2];simp
theorem rG {l:List Int} (h:l.Pairwise (·< ·)):eX l:=fun i j x y O J U=>by
 have h1:=x3.1 J;have E:=x3.1 U;have:=X3.1 h i j h1.1 E.1 O;rw[h1.2,E.2] at this;exact this
theorem Gz {x l:List Int} (hu:l.Nodup) (h:x.length=l.length):dv x l l=x:=by
 refine Y4 fun i=>?_;unfold dv;cases E:l[i]? with
 |none=>rw[x6,E,c6 (by have:=List.getElem?_eq_none_iff.1 E;omega)];rfl
 |some v=>
  have hi:=(x3.1 E).1;rw[x6,E,j6,m7 hu E,u6,y0 (show i<x.length by omega)];rfl
theorem xJ {s l:List Int} (hu:eX l) (h:s.length=l.length):cF s l s l l=s:=by
 refine Y4 fun i=>?_;unfold cF;cases E:l[i]? with
 |none=>rw[x6,E,c6 (by have:=List.getElem?_eq_none_iff.1 E;omega)];rfl
 |some v=>
  have hi:=(x3.1 E).1;rw[x6,E,j6,rC hu E,Int.max_self,y0 (show i<s.length by omega)];unfold fD;rw[if_pos (by omega),u6,c8,y0 (show i<s.length by omega)];rfl
theorem GA {s l a b:List Int} {k:Int} (hu:l.Pairwise (·< ·)) (h:s.length=l.length) (E:dt s) (J:a.length=(aD s).toNat) (O:b.length=(aD s).toNat):kH s a l s b l l k=cZ k a b:=by
 have U:l.Nodup:=hu.imp fun h=>by omega
 unfold kH;rw[xJ (rG hu) h,Fk E J O];apply List.map_congr_left;intro q _;rw[Gz U (by rw[gN,h])]
theorem GB {w w':x2} {s l a b:List Int} {k:Int} {v:x1} (hu:l.Pairwise (·< ·)) (ab:∀ x∈l,0≤x) (h:s.length=l.length) (Y:bu s) (ad:aD s≤4096) (ae:a.length=(aD s).toNat) (af:b.length=(aD s).toNat) (O:xI w s a l s b l k k v w'):
  Ext w w'∧ ∃ E U V W,v= .tuple #[.pointer (some ⟨E,0,none⟩),W,.int .i64 0]∧cp w' E U V s k (cZ k a b):=by
 obtain⟨J,_,O⟩:=O;have X:=rG hu;have Z:Fits s l:=⟨h.symm,FZ X ab⟩;obtain⟨vars,ac,_,ag⟩:=O ⟨Z,Z⟩;have ah:=Gy ac X;subst ah;obtain⟨_,_,_,aa⟩:=ag fun p aj ak al=>rfl;rw[xJ X h,GA hu h Y.2 ae af] at aa;obtain⟨E,U,V,W,rfl,ai,_⟩:=aa rfl Y ad;exact⟨J,E,U,V,W,rfl,ai⟩
theorem GC {s:List Int} (E:dt s):(bm s).Nodup:=(xn E).imp fun {a b} h he=>by subst he;omega
theorem GD {s t:List Int} {i j:Nat} (E:dt s) (hi:(bm s)[i]? =some t) (J:(bm s)[j]? =some t):i=j:=hW (GC E) hi J
theorem GF {s t:List Int} (E:dt s) (h:cv s t):∃ j:Nat,(bm s)[j]? =some t:=Y6.1 ((xm E).2 h)
theorem rH {P:Y3} {w:x2} {t:u5} {cx cy:Bool} {a b:Bool} {K:x1→Prop} (E:P.underlying t=some .bool):O P (aB .eql t cx cy (.bool a) (.bool b)) w K=K (.bool (a == b)):=
 qD (fun _=>rfl) rfl fun w' _=>run_equalIn_bool' (P:=P) (w:=w') 9999 t a b E
theorem ps {w w':x2} {g m:Nat} {e:u5} {cs:List x1} {d:List (x1×x1)} (h:ad w g e cs) (hm:cg w m d) (E:af (fun r=>r=m) w w'):ad w' g e cs:=h.U E (fun he=>pg h hm he)
theorem xK {w w':x2} {g m:Nat} {k:r9} {e:u5} {v:x1} {l:List Int} {d:List (x1×x1)} (h:am k e w g v l) (hm:cg w m d) (E:af (fun r=>r=m) w w'):am k e w' g v l:=aX h E (fun _ J he=>xp h hm J he)
def pt (cs:List Int) (o:Int):Prop:=o∈cs∧ ∀ d∈cs,cs.count d<cs.count o∨(cs.count d=cs.count o∧o≤d)
theorem GG {l:List Int} {i:Nat} {x:Int} (h:l[i]? =some x) (y:Int):(l.take (i+1)).count y=(l.take i).count y+if y=x then 1 else 0:=by
 rw[u4,h,List.count_append];congr 1;simp only[l9,List.count_singleton];by_cases E:y=x
 ·subst E;simp
 ·rw[if_neg E,if_neg (by simpa using fun h=>E h.symm)]
def eZ (p:Int×Int):x1×x1:=(.int .i64 p.1,.int .i64 p.2)
theorem ne:Keys x5 aj fun v=>∃ n,v= .int .i64 n:=Keys.int aj.u
theorem nf (E:List (Int×Int)):∀ p∈E.map eZ,∃ n,p.1= .int .i64 n:=fun p J=>by
 obtain⟨q,_,rfl⟩:=o6.1 J;exact⟨_,rfl⟩
def rI (cs:List Int) (E:List (Int×Int)):Prop:=(∀ x,x∈E.map (·.1)↔x∈cs)∧ ∀ p∈E,p.2=(cs.count p.1:Nat)
theorem xL {cs:List Int} {E:List (Int×Int)} (h:rI cs E) {x:Int} (J:x∈cs):∃ j:Nat,E[j]? =some (x,((cs.count x:Nat):Int)):=by
 obtain⟨p,O,rfl⟩:=o6.1 ((h.1 x).2 J);obtain⟨j,U⟩:=Y6.1 O;exact⟨j,by rw[U,←h.2 p O]⟩
set_option maxHeartbeats 1600000 in
theorem xM {w:x2} {aV:x1} {cs:List Int} (h:aC .i64 w aV cs) (aW:cs≠[]) (bD:cs.length≤1000000):ah x5 n2 [aV] w fun v w'=>Ext w w'∧ ∃ o,v= .int .i64 o∧pt cs o:=by
 refine aq func263 ?_;refine aA.cR (oR fun m be hm aB bf bE=>?_);rw[aI ap.u (h.ext aB)];refine bV.range cs.length (fun i Z=>af (fun r=>r=m) be Z∧ ∃ J,cg Z m (J.map eZ)∧rI (cs.take i) J) (by omega) ⟨af.refl _ _,[],bf,by simp[rI]⟩ ?_ ?_
 ·rintro i Z bg hi ⟨ae,J,X,U⟩ aX;obtain⟨x,aD⟩:∃ x,cs[i]? =some x:=⟨_,y0 hi⟩;have ag:Ext w Z:=aB.then ae (fun r ac he=>by have he:r=m:=he;omega);have bi:∀ y,(cs.take i).count y≤1000000:=fun y=>by
   have:=List.count_le_length (a:=y) (l:=cs.take i);rw[o5] at this;omega
  rw[ao,aa];refine⟨fun _=>?_,fun h=>by omega⟩;rw[a1 ap.u aj.i (by kernel_rfl) (h.ext ag) aD];have aw:=GG aD;have aY:∀ y,y∈cs.take (i+1)↔y∈cs.take i∨y=x:=fun y=>by
   rw[u4,aD];simp
  by_cases ai:x∈cs.take i
  ·obtain⟨j,aE⟩:=xL U ai;have ax:(J.map eZ)[j]? =some (.int .i64 x,.int .i64 (((cs.take i).count x:Nat):Int)):=by rw[x6,aE];rfl
   rw[mM iY.u ne X (nf J) ⟨_,rfl⟩ ax];simp only[Bool.false_eq_true,if_false];have:=bi x;rw[aF,wrap_i64 (by omega) (by omega)];refine aA.cR (mN iY.u ne X (nf J) ⟨_,rfl⟩ (fun ak v0 aG aH al aJ bj=>?_) (fun aG ay=>absurd rfl (ay _ (x4 ax))));have bk:ak=j:=X.uniq aH ax rfl;subst bk;rw[aF];have aK:(J.map eZ).set ak (.int .i64 x,.int .i64 ((((cs.take i).count x:Nat):Int)+1))=(J.set ak (x,(((cs.take i).count x:Nat):Int)+1)).map eZ:=by rw[List.map_set];rfl
   rw[aK] at al;have bl:=(x3.1 aE).1;refine aX _ ⟨ae.trans aJ,_,al,fun y=>?_,fun p E=>?_⟩
   ·rw[List.map_set,Dv (by rw[x6,aE];rfl),U.1,aY];exact⟨.inl,fun h=>h.elim id (fun h=>h▸ai)⟩
   ·obtain⟨q,V⟩:=Y6.1 E;by_cases aM:ak=q
    ·subst aM;rw[U1 bl] at V;cases V;show _=(((cs.take (i+1)).count x:Nat):Int);rw[aw,if_pos rfl];omega
    ·rw[List.getElem?_set_ne aM] at V;have aN:p.1≠x:=fun he=>aM (X.uniq ax (show (J.map eZ)[q]? =some (eZ p) by rw[x6,V];rfl) (by rw[eZ,he]));rw[U.2 p (x4 V),aw,if_neg aN,Nat.add_zero]
  ·have ay:∀ p∈J.map eZ,p.1≠Y5 .i64 x:=fun p E he=>by
    obtain⟨q,V,rfl⟩:=o6.1 E;have:q.1=x:=by simpa[eZ] using he
    exact ai ((U.1 x).1 (o6.2 ⟨q,V,this⟩))
   rw[oS iY.u ne ⟨_,_,ab.i⟩ X (nf J) ⟨_,rfl⟩ ay];simp only[Bool.false_eq_true,if_false];rw[aF,wrap_i64 (by omega) (by omega)];refine aA.cR (mN iY.u ne X (nf J) ⟨_,rfl⟩ (fun ak v0 aG aH=>absurd rfl (ay _ (x4 aH))) (fun aG _ al aJ bj=>?_));rw[aF];have aK:J.map eZ++[(Y5 .i64 x,Y5 .i64 (0+1))]=(J++[(x,1)]).map eZ:=by rw[o9];rfl
   rw[aK] at al;have bm:(cs.take i).count x=0:=List.count_eq_zero.2 ai;refine aX _ ⟨ae.trans aJ,_,al,fun y=>?_,fun p E=>?_⟩
   ·rw[o9,p9,U.1,aY];simp
   ·rcases p9.1 E with E|E
    ·have aN:p.1≠x:=fun he=>ai ((U.1 x).1 (o6.2 ⟨p,E,he⟩));rw[U.2 p E,aw,if_neg aN,Nat.add_zero]
    ·rw[p8.1 E];show (1:Int)=(((cs.take (i+1)).count x:Nat):Int);rw[aw,if_pos rfl,bm];rfl
 rintro Z bg ⟨ae,J,X,U⟩;rw[o3] at U;have ag:Ext w Z:=aB.then ae (fun r ac he=>by have he:r=m:=he;omega);rw[ao,aa];refine⟨fun h=>by omega,fun _=>?_⟩;refine (DV (h.ext ag) aW).mono ?_;rintro _ bn bF ⟨rfl,aO⟩;have bG:=ag.size;have bH:=aO.size;refine aA.cR (wh iY.u (X.ext aO) fun am bI bJ bo bK bp bL=>?_);refine⟨fun lP ad=>∃ b Y W left aZ,lP= .int .i64 b∧b∈cs∧Ext bn ad∧fo ad am m (J.map eZ) left aZ∧left=W.map eZ∧(Y++W).Perm J∧ ∀ p∈Y,cs.count p.1<cs.count b∨(cs.count p.1=cs.count b∧b≤p.1),fun _ ad=>lI ad am,
  ⟨q0 cs,[],J,J.map eZ,none,rfl,(Dy aW).1,bo,bp,rfl,List.Perm.refl _,fun p E=>by cases E⟩,?_⟩
 rintro _ ad ⟨b,Y,W,left,aZ,rfl,aQ,aR,a2,rfl,az,aS⟩;refine wj a2 (fun _=>by show w.heap.size≤am;omega) (fun bq=>?_) (fun j p aT E a6 bM au=>?_)
 ·rw[av (v:=.bool false) rfl,aP];have:W=[]:=List.map_eq_nil_iff.1 bq;subst this;rw[V4] at az;refine⟨(ag.trans aO).trans aR,b,rfl,aQ,fun d br=>?_⟩;obtain⟨q,V,rfl⟩:=o6.1 ((U.1 d).2 br);exact aS q (az.mem_iff.2 V)
 ·rw[av (v:=.bool true) rfl,bh];refine wk au ?_;obtain⟨q,V,rfl⟩:∃ q,W[j]? =some q∧eZ q=p:=by
   rw[x6] at E;exact b8.1 E
  have a7:q∈J:=az.mem_iff.1 (p9.2 (.inr (x4 V)));have bN:=U.2 q a7;have bt:q.1∈cs:=(U.1 q.1).1 (o6.2 ⟨q,a7,rfl⟩);obtain⟨bu,bw⟩:=xL U aQ;have bx:(J.map eZ)[bu]? =some (.int .i64 b,.int .i64 ((cs.count b:Nat):Int)):=by rw[x6,bw];rfl
  rw[av (v:=.int .i64 q.1) rfl,av (v:=.int .i64 q.2) rfl];have a8:(Y++[q]++W.eraseIdx j).Perm J:=by
   refine List.Perm.trans ?_ az;rw[X8];exact List.Perm.append_left Y (rg V)
  have ba:lI aT am<lI ad am:=by
   rw[oW au,oW a2];have:=wB (x3.1 E).1;omega
  refine aL (fun v bz=>aT=bz∧ ∃ r:Bool,v= .bool r∧(r=true↔(cs.count b<cs.count q.1∨(cs.count q.1=cs.count b∧q.1<b)))) ?_ ?_
  ·rintro _ _ ⟨rfl,r,rfl,ac⟩;rw[b3];refine⟨fun bB=>?_,fun bb=>?_⟩
   ·have ac:=ac.1 bB;refine⟨⟨q.1,Y++[q],W.eraseIdx j,_,_,rfl,bt,aR.trans a6,au,(jO eZ W j),a8,fun p E=>?_⟩,ba⟩;rcases p9.1 E with E|E
    ·have:=aS p E;omega
    ·rw[p8.1 E];exact .inr ⟨rfl,Int.le_refl _⟩
   ·have ac:¬(cs.count b<cs.count q.1∨(cs.count q.1=cs.count b∧q.1<b)):=fun h=>by rw[ac.2 h] at bb;cases bb
    refine⟨⟨b,Y++[q],W.eraseIdx j,_,_,rfl,aQ,aR.trans a6,au,(jO eZ W j),a8,fun p E=>?_⟩,ba⟩;rcases p9.1 E with E|E
    ·exact aS p E
    ·rw[p8.1 E];omega
  ·intro bO aU;have bd:∀ K:x1→Prop,O x5 (Instr.lookup iY (.map (some m)) (.int .i64 b) false) aT K=K (.int .i64 ((cs.count b:Nat):Int)):=fun K=>by
    rw[mM iY.u ne au.map (nf J) ⟨_,rfl⟩ bx];simp
   rw[bd,bA,aa];refine⟨fun h1=>aU _ _ ⟨rfl,true,rfl,⟨fun _=>.inl (by omega),fun _=>rfl⟩⟩,fun h1=>?_⟩;rw[bd,bc,aa];refine⟨fun bC=>?_,fun bC=>aU _ _ ⟨rfl,false,rfl,⟨fun h=>(by cases h),fun h=>by omega⟩⟩⟩;rw[ao];refine aU _ _ ⟨rfl,_,rfl,?_⟩;rw[decide_eq_true_eq];omega
theorem GH {w:x2} {g J:Nat} {k:r9} {e O:u5} {v:x1} {l:List Int} {cs:List x1} (h:am k e w g v l) (U:ad w J O cs) (W:e≠O) {r:Nat} (V:leads v r):r≠J:=by
 obtain⟨rfl,_⟩:=bw h V;obtain⟨_,⟨rfl,_⟩|⟨_,_,_,E,_⟩⟩:=h
 ·obtain⟨a,n,c,h,_⟩:=V;cases h
 ·rintro rfl;unfold ad at U E;rw[U] at E;injection E with h1;injection h1 with Y X;exact W X.symm
def GI (w:x2) (ai:List Int) (k:Int) (cs:List Int) (v:x1) (w':x2):Prop:=Ext w w'∧ ∃ g m o D,v= .pointer (some ⟨g,0,none⟩)∧du w' g m ai k o D∧D.length≤(aD ai).toNat∧fZ ai (fW D o) cs∧pt cs o
set_option maxHeartbeats 4000000 in
theorem GJ {w:x2} {g ca:Nat} {sv:x1} {ai cs:List Int} {k:Int} (h:cp w g ca sv ai k cs) (bf:∀ c∈cs,cj c k):ah x5 Bv [.pointer (some ⟨g,0,none⟩)] w (GI w ai k cs):=by
 obtain⟨⟨aH,gs,bE,hm,cS⟩,⟨_,_,bF⟩,ak,aX⟩:=id h;have cT:=prod_bound ak;have cU:=ak.1;have bG:cs≠[]:=fun he=>by rw[he] at aX;simp at aX;omega
 refine jB func221 ?_;rw[cB dA.u];simp only[c5,aP];refine (jN h).mono ?_;rintro ay au _ ⟨aG,cV,cW,bg⟩;refine bi ap.i fun aO cX cY bH bI=>?_;have cZ:=bI.lt;refine aZ ap.i bg.ls.cells.1 bg.ls.cells.2 bI (by simp[x1.cells]) fun aY cb c0 a2=>?_;have a2:ad aY aO ap [ay]:=a2;have c1:=aG.size;have c2:=bH.size;have bJ:Ext au aY:=bH.then cb (fun r az he=>by have he:r=aO:=he;omega);have bK:=bg.ext bJ;have aQ:=aG.trans bJ;refine aL (fun u a6=>∃ E ac m o aB aD,u= .pointer (some ⟨E,0,none⟩)∧Ext aY a6∧ad a6 E dB [.pointer (some ⟨ac,0,none⟩)]∧aY.heap.size≤m∧eg a6 ac m aB aD ai k o []∧pt cs o) ?_ ?_
 ·rintro _ a6 ⟨E,ac,m,o,aB,aD,rfl,aR,W,c3,al,ao⟩;have cc:=h.ext (aQ.trans aR);have cd:=a2.ext aR;have cg:=bK.ext aR;refine (lF cc).mono ?_;rintro _ c4 _ ⟨rfl,ch⟩;refine ra.mono ?_;rintro _ bh _ ⟨ci,bM,rfl,c6,bN⟩;have aI:=ch.trans ci;have bO:=al.ext aI;have ck:=cd.ext aI;have bP:=W.ext aI;have cl:=cg.ext aI;have bQ:=hm.ext ((aQ.trans aR).trans aI);have aJ:=bO.2.2.1;have cm:=(aQ.trans aR).trans aI;have c7:=aQ.size;have cn:=q9 (g:=bM) (B0:=bh.heap.size) (sv:=sv) ak;refine⟨Nat,false,iV,#[.pointer (some ⟨bM,0,none⟩)],_,_,_,_,fun i w'=>af (fun r=>r=m) bh w'∧ ∃ D,D.length≤i∧eg w' ac m aB aD ai k o D∧ ∀ (j:Nat) t,(bm ai)[j]? =some t→fW D o t=if j<i then cC ai cs t else o,fun _ _ _=>False,rfl,cn.s,
   ?_,fun _ _ J h=>⟨h.1.ext J,h.2.1.ext J,Z5 h.2.2 J.size⟩,fun _ _ _ J ⟨h1,D,cq,cr,bF⟩=>⟨h1.trans (J.U _),D,cq,cr.ext J,bF⟩,fun _ _ _ _ _ h=>h,⟨bN,bQ.ls,u9 _⟩,⟨af.refl _ _,[],u9 _,bO,fun j t _=>by rw[if_neg (by omega)];rfl⟩,?_,?_,fun _ _ h=>h.elim,fun _ _ _ h=>h.elim⟩
  ·rintro _ _ _ _ ⟨_,_,_,_,rfl,_⟩;rfl
  ·rintro _ ab i _ ct ⟨c8,da,cu⟩ ⟨hi,rfl,db,gt,cw,dc,ae⟩ ⟨a7,D,bR,bj,bk⟩;cases cw;have bl:(bm ai)[i]? =some (ce ai (i:Int)):=oD ak.2 (by omega);have cz:cv ai (ce ai (i:Int)):=q1 ak.2 hi;generalize ce ai (i:Int)=t at*;have bS:=Fs ak.2 aX bl;intro cA a8 _ _;intro cD cE _ _;have ba:=a8.trans cE;have bb:af (fun r=>r=m) bh cD:=a7.trans (ba.U _);rw[V (by kernel_rfl) ((ps bP aJ bb).cell (o:=0) rfl),V (by kernel_rfl) ((ps ck aJ bb).cell (o:=0) rfl),a1 ap.u aj.i (by kernel_rfl) (xK cl aJ bb).ls bS];have bn:=bj.ext ba;refine (wy bn.is (ae.ext ba).ls (c:=cC ai cs t)).mono ?_;rintro _ dd _ ⟨_,cF⟩;obtain⟨rfl,bo,cG,bT,bU⟩:=cF ⟨cz,bf _ (x4 bS)⟩;have bp:=bb.trans bo;have de:=bT.2;refine⟨⟨ps bN aJ bp,(xK bQ aJ bp).ls,Z5 cu (Z5 ba.size bo.size)⟩,⟨bp,cG,by omega,bn.put bo bU,fun j s aE=>?_⟩,fun h=>by cases h⟩;rw[bT.cost bn.is.nodup bU.nodup];by_cases bV:j=i
   ·subst bV;rw[bl] at aE;cases aE;rw[if_pos rfl,if_pos (by omega)]
   ·rw[if_neg (fun(he:s=t)=>bV (GD ak.2 (by rw[←he];exact aE) bl)),bk j s aE];by_cases h1:j<i
    ·rw[if_pos h1,if_pos (by omega)]
    ·rw[if_neg h1,if_neg (by omega)]
  ·rintro i ct rfl ⟨a7,D,bR,bj,bk⟩;rw[V (by kernel_rfl) ((ps bP aJ a7).cell (o:=0) rfl)];intro cA a8 _;refine⟨(cm.then a7 (fun r az he=>by have he:r=m:=he;omega)).trans a8,ac,m,o,D,rfl,bj.is.ext a8,bR,⟨aX,fun t cH=>?_⟩,ao⟩;obtain⟨j,aE⟩:=GF ak.2 cH;have:=(x3.1 aE).1;rw[ip ak.2] at this;rw[bk j t aE,if_pos this]
 intro bc bW;intro ag aS _ _;have bq:=aQ.trans aS;have bX:=aS;have bd:=h.ext bq;have bY:=bK.ext aS;have df:=aS.size;rw[V (by kernel_rfl) ((a2.ext aS).cell (o:=0) rfl)];have bZ:∀ {E:Nat} {w':x2} {ab:x1} {o:Int},Ext ag w'→ag.heap.size≤E→(∃ X,ad w' E dB [X])→aC .i64 w' ab ai→pt cs o→
   ah x5 k9 [ab,.int .i64 k,.int .i64 o] w' fun am Z=>O x5 (c9 am 0) Z fun aF=>O x5 (c9 am 1) Z fun _=>aA x5 (o7 dB (.pointer (some ⟨E,0,none⟩)) aF) Z fun(_:Unit) aw=>bc (.pointer (some ⟨E,0,none⟩)) aw:=by
  rintro E w' ab o aa Y ⟨X,W⟩ ae ao;refine (wq ae).mono ?_;rintro _ Z _ ⟨br,_,_,bt⟩;obtain⟨ac,m,rfl,cI,cJ,al⟩:=bt ak (bf _ ao.1);obtain⟨aB,aD,al⟩:=al.at;rw[av (v:=.pointer (some ⟨ac,0,none⟩)) rfl,av (v:=.int .i64 0) rfl];have cK:=W.lt;have s':=aa.size;refine aZ dB.i rfl rfl (W.ext br) (by simp) fun aw b1 dg cL=>?_;refine bW _ _ ⟨E,ac,m,o,aB,aD,rfl,((bX.trans aa).trans br).then b1 (fun r az he=>by have he:r=E:=he;omega),cL,by omega,al.U b1 (fun he=>by have he:ac=E:=he;omega) (fun he=>by have he:m=E:=he;omega) (fun r az he=>?_),ao⟩;exact GH al.2.1 (W.ext br) (by decide) az he
 have b2:∀ {E:Nat} {w':x2} {ab:x1},Ext ag w'→ag.heap.size≤E→(∃ X,ad w' E dB [X])→aC .i64 w' ab ai→
   ah x5 n2 [ay] w' fun aT au=>ah x5 k9 [ab,.int .i64 k,aT] au fun am Z=>O x5 (c9 am 0) Z fun aF=>O x5 (c9 am 1) Z fun _=>aA x5 (o7 dB (.pointer (some ⟨E,0,none⟩)) aF) Z fun(_:Unit) aw=>bc (.pointer (some ⟨E,0,none⟩)) aw:=by
  rintro E w' ab aa Y ⟨X,W⟩ ae;refine (xM (bY.ext aa).ls bG (by omega)).mono ?_;rintro _ au _ ⟨aG,o,rfl,ao⟩;exact bZ (aa.trans aG) Y ⟨X,W.ext aG⟩ (ae.ext aG) ao
 have b3:∀ {E:Nat} {w':x2} {ab:x1},Ext ag w'→ag.heap.size≤E→(∃ X,ad w' E dB [X])→aC .i64 w' ab ai→
   ah x5 qq [.pointer (some ⟨g,0,none⟩)] w' fun bu aq=>(Ext ag aq∨bL x5 (x7 ap (.pointer (some ⟨aO,0,none⟩))) ay aq∧True)∧
    ah x5 n2 [ay] aq fun aT au=>ah x5 k9 [ab,bu,aT] au fun am Z=>O x5 (c9 am 0) Z fun aF=>O x5 (c9 am 1) Z fun _=>aA x5 (o7 dB (.pointer (some ⟨E,0,none⟩)) aF) Z fun(_:Unit) aw=>bc (.pointer (some ⟨E,0,none⟩)) aw:=by
  rintro E w' ab aa Y ⟨X,W⟩ ae;refine (wc (bd.ext aa)).mono ?_;rintro _ aq _ ⟨rfl,ax⟩;exact⟨.inl (aa.trans ax),b2 (aa.trans ax) Y ⟨X,W.ext ax⟩ (ae.ext ax)⟩
 have b4:ai.length≤1000:=by omega
 have b5:∀ {E:Nat} {w':x2},Ext ag w'→ag.heap.size≤E→(∃ X,ad w' E dB [X])→
   ah x5 tQ [.agg #[sv]] w' fun cM w0=>(Ext ag w0∨bL x5 (x7 ap (.pointer (some ⟨aO,0,none⟩))) ay w0∧True)∧
    ah x5 qq [.pointer (some ⟨g,0,none⟩)] w0 fun bu aq=>(Ext ag aq∨bL x5 (x7 ap (.pointer (some ⟨aO,0,none⟩))) ay aq∧True)∧
    ah x5 n2 [ay] aq fun aT au=>ah x5 k9 [cM,bu,aT] au fun am Z=>O x5 (c9 am 0) Z fun aF=>O x5 (c9 am 1) Z fun _=>aA x5 (o7 dB (.pointer (some ⟨E,0,none⟩)) aF) Z fun(_:Unit) aw=>bc (.pointer (some ⟨E,0,none⟩)) aw:=by
  rintro E w' aa Y ⟨X,W⟩;refine (we (hm.ext (bq.trans aa)).ls b4).mono ?_;rintro ab aq _ ⟨ax,_,_,ae⟩;exact⟨.inl (aa.trans ax),b3 (aa.trans ax) Y ⟨X,W.ext ax⟩ ae.ls⟩
 have aU:∀ {w':x2} {R:x1→x2→Prop},Ext ag w'→(∀ E aV,ag.heap.size≤E→Ext w' aV→(∃ X,ad aV E dB [X])→R (.pointer (some ⟨E,0,none⟩)) aV)→aA x5 (Instr.alloc dB true (.tuple #[])) w' R:=fun {w'} {R} aa cN=>by
  have:=aa.size;exact bi dB.i fun E aV Y cO bE=>cN E aV (by omega) cO ⟨_,bE⟩
 refine⟨?_,aU (Ext.refl _) fun E dh Y be W=>⟨.inl be,?_⟩⟩
 rotate_left
 ·refine (lF (bd.ext be)).mono ?_;rintro _ di _ ⟨rfl,bw⟩;obtain⟨X,W⟩:=W;exact⟨.inl (be.trans bw),b5 (be.trans bw) Y ⟨X,W.ext bw⟩⟩
 refine (lF bd).mono ?_;rintro _ dj _ ⟨rfl,aK⟩;refine⟨.inl aK,?_,aU aK fun E dk Y b6 W=>⟨.inl (aK.trans b6),b5 (aK.trans b6) Y W⟩⟩;refine (we (hm.ext (bq.trans aK)).ls b4).mono ?_;rintro ab dl _ ⟨cP,_,_,ae⟩;have aM:=aK.trans cP;refine⟨.inl aM,?_,aU aM fun E dm Y bx W=>⟨.inl (aM.trans bx),b3 (aM.trans bx) Y W (ae.ext bx).ls⟩⟩;refine (wc (bd.ext aM)).mono ?_;rintro _ dn _ ⟨rfl,bz⟩;have aN:=aM.trans bz;refine⟨.inl aN,?_,aU aN fun E dp Y bA W=>⟨.inl (aN.trans bA),b2 (aN.trans bA) Y W ((ae.ext bz).ext bA).ls⟩⟩;refine (xM (bY.ext aN).ls bG (by omega)).mono ?_;rintro _ dq _ ⟨b7,o,rfl,ao⟩;have aW:=aN.trans b7;have b8:=(ae.ext bz).ext b7;refine⟨?_,aU aW fun E dr Y bB W=>⟨.inl (aW.trans bB),bZ (aW.trans bB) Y W (b8.ext bB).ls ao⟩⟩;refine (wq b8.ls).mono ?_;rintro _ ds _ ⟨cQ,_,_,bt⟩;obtain⟨ac,m,rfl,cI,cJ,al⟩:=bt ak (bf _ ao.1);obtain⟨aB,aD,al⟩:=al.at;rw[av (v:=.pointer (some ⟨ac,0,none⟩)) rfl,av (v:=.int .i64 0) rfl];have bC:=aW.trans cQ;refine bi dB.i fun E dt Y bD W=>?_;refine⟨.inl (bC.trans bD),?_⟩;have cK:=W.lt;obtain⟨du,dv,t3⟩:=al.mK;have dw:=aW.size;have dx:=bC.size;refine aZ dB.i rfl rfl W (by simp[x1.cells]) fun dy b9 dz cR=>?_;exact bW _ _ ⟨E,ac,m,o,aB,aD,rfl,((bX.trans bC).trans bD).then b9 (fun r az he=>by have he:r=E:=he;omega),cR,by omega,(al.ext bD).U b9 (fun he=>by have he:ac=E:=he;omega) (fun he=>by have he:m=E:=he;omega) (fun r az he=>by have he:r=E:=he;have:=t3 r az;omega),ao⟩
theorem xN {k:Int} {acc:List bU} {g:bU} (h:∀ x∈acc,x.1≠g.1):fV k acc g=acc++[g]:=by
 unfold fV;rw[if_neg];intro hm;obtain⟨x,J,he⟩:=o6.1 hm;exact h x J he
theorem GK {k:Int} {acc:List bU} {g h:bU} {i:Nat} (J:gq acc) (hi:acc[i]? =some h) (he:h.1=g.1):fV k acc g=acc.set i (h.1,cZ k h.2 g.2):=by
 have O:=(x3.1 hi).1;unfold fV;rw[if_pos (o6.2 ⟨h,x4 hi,he⟩)];refine Y4 fun j=>?_;rw[x6,Y0];by_cases E:i=j
 ·subst E;rw[hi,j6,if_pos he,if_pos rfl,if_pos O]
 ·rw[if_neg E];cases U:acc[j]? with
  |none=>rfl
  |some y=>
   have:y.1≠g.1:=fun V=>E (by
    have h1:(acc.map (·.1))[i]? =some g.1:=by rw[x6,hi,j6,he]
    have W:(acc.map (·.1))[j]? =some g.1:=by rw[x6,U,j6,V]
    exact hW J h1 W)
   rw[j6,if_neg this]
theorem GL {α β:Type} {f:β→α→β} {b:β} {l:List α} {i:Nat} {x:α} (h:l[i]? =some x):(l.take (i+1)).foldl f b=f ((l.take i).foldl f b) x:=by
 rw[u4,h,l9,List.foldl_append];rfl
def jQ (w:x2) (k:Int) (sizes:List Int) (x:bX):Prop:=(∃ E,am .i64 ab w E x.sv x.sc)∧ ∃ m o D,du w x.g m (bI sizes x.sc) k o D∧D.length≤4096∧fZ (bI sizes x.sc) (fW D o) x.cs
theorem jQ.ext {w w':x2} {k:Int} {sizes:List Int} {x:bX} (h:jQ w k sizes x) (J:Ext w w'):jQ w' k sizes x:=by
 obtain⟨⟨E,h1⟩,m,o,D,O,U⟩:=h;exact⟨⟨E,h1.ext J⟩,m,o,D,O.ext J,U⟩
theorem jQ.U {w w':x2} {S:Nat→Prop} {k:Int} {sizes:List Int} {x:bX} (h:jQ w k sizes x) (J:af S w w') (W:∀ r,S r→ ∃ e c,ad w r e c∧e≠ea∧e≠ab):jQ w' k sizes x:=by
 obtain⟨⟨aa,h1⟩,m,o,D,ac,ae⟩:=h;obtain⟨sv,gs,V⟩:=ac.at;have Y:∀ {g:Nat} {v:x1} {l:List Int},am .i64 ab w g v l→ ∀ r,leads v r→¬S r:=fun hm r ag O=>by
  obtain⟨e,c,E,_,X⟩:=W r O;exact bB hm E (fun he=>X he.symm) ag rfl
 refine⟨⟨aa,aX h1 J (Y h1)⟩,m,o,D,(V.U J (fun O=>?_) (fun O=>?_) (Y V.2.1)).is,ae⟩
 ·obtain⟨e,c,E,X,_⟩:=W _ O;have Z:=V.1;unfold ad at Z E;rw[Z] at E;exact X (Obj.cells.inj (j5 E)).2.1.symm
 ·obtain⟨e,c,E,_,_⟩:=W _ O;exact pg E V.2.2.1 rfl
def ng (w:x2) (g:Nat) (v:x1) (k:Int) (sizes:List Int) (L:List bX):Prop:=aR dw 2 bN w g v L∧ ∀ x∈L,jQ w k sizes x
theorem ng.ext {w w':x2} {g:Nat} {v:x1} {k:Int} {sizes:List Int} {L:List bX} (h:ng w g v k sizes L) (J:Ext w w'):ng w' g v k sizes L:=⟨h.1.ext J,fun x E=>(h.2 x E).ext J⟩
def GM (w:x2) (J:Nat) (f:bx):Prop:=∃ au E O g L,ad w J bS [bb f.name,.int .i64 f.k,au,E]∧am .i64 ab w O au f.sizes∧ng w g E f.k f.sizes L∧L.map c3=ed f
theorem GN {w:x2} {g ab:Nat} {v sv:x1} {L:List bX} {U:List Int} (h:dM w g v L) (af:ad w ab al [sv]) (ag:aC .i64 w sv U):
  ah x5 tY [v,.func (.func tZ) #[] #[.pointer (some ⟨ab,0,none⟩)]] w fun r w'=>Ext w w'∧((r= .int .i64 (-1)∧ ∀ x∈L,x.sc≠U)∨ ∃ i:Nat,r= .int .i64 (i:Int)∧ ∃ x,L[i]? =some x∧x.sc=U):=by
 refine aq func211 ?_;rw[dK eH.u h.1];refine bM.range L.length (fun i _ W=>Ext w W∧ ∀ x∈L.take i,x.sc≠U) h.1.le ⟨Ext.refl _,fun c E=>by simp at E⟩ ?_ ?_
 ·rintro i _ W k hi ⟨J,X⟩ ai;rw[ao,aa];refine⟨fun _=>?_,fun h=>by omega⟩;obtain⟨x,Y⟩:∃ x,L[i]? =some x:=⟨_,y0 hi⟩;rw[pp rfl (h.ext J) Y];show ah x5 tZ [ht x,.pointer (some ⟨ab,0,none⟩)] W _;obtain⟨⟨am,hm⟩,_⟩:=(h.ext J).at Y;refine aq func212 ?_;refine a7 fun aJ aj ap O Z=>?_;have Z:ad aj aJ b7 [x.sv,.pointer (some ⟨x.g,0,none⟩)]:=by
   obtain⟨_,_,_,e⟩:=ct hm.ls;simp only[ht,dw,e] at Z ⊢;exact Z
  rw[ae b7.p rfl,V (by kernel_rfl) (Z.cell (o:=0+0) rfl),V (by kernel_rfl) ((af.ext (J.trans O)).cell (o:=0) rfl)];refine (CD (hm.ls.ext O) (ag.ext (J.trans O))).mono ?_;rintro _ au _ ⟨rfl,ac⟩;rw[aa];refine⟨fun he=>⟨(J.trans O).trans ac,.inr ⟨i,rfl,x,Y,he⟩⟩,fun ak=>?_⟩;rw[aF];refine ai _ _ ⟨(J.trans O).trans ac,fun c E=>?_⟩;rw[u4,Y] at E;rcases p9.1 E with E|E
  ·exact X c E
  ·simp at E;subst E;exact ak
 ·rintro _ W k ⟨J,X⟩;rw[o3] at X;rw[ao,aa];exact⟨fun h=>by omega,fun _=>⟨J,.inl ⟨rfl,X⟩⟩⟩
def dx (f:bx) (i:Nat):List bU:=((f.funs.take i).map (fC f.sizes f.k)).foldl (fV f.k) []
theorem xO {N:Nat} {f:bx} (ag:dP N f) (i:Nat):(∀ g∈dx f i,ef f.sizes f.k g)∧gq (dx f i)∧(dx f i).length≤i:=by
 have:=ru (sizes:=f.sizes) (k:=f.k) (by have:=ag.k.1;omega) (l:=(f.funs.take i).map (fC f.sizes f.k)) (acc:=[]) (fun h O=>by cases O) List.nodup_nil fun g U=>by
  obtain⟨x,J,rfl⟩:=o6.1 U;exact lM ag (List.mem_of_mem_take J)
 refine⟨this.1,this.2.1,?_⟩;have E:=this.2.2;rw[List.length_nil,u7,V3,o5] at E;exact Z5 E (Nat.min_le_left _ _)
theorem rJ {f:bx} {i:Nat} {x:bH} (h:f.funs[i]? =some x):dx f (i+1)=fV f.k (dx f i) (fC f.sizes f.k x):=by
 unfold dx;rw[u4,h,l9,o9,List.foldl_append];rfl
theorem xP (f:bx):dx f f.funs.length=dV f:=by unfold dx dV;rw[o3]
theorem rK {L:List bX} {i:Nat} {x:bX} {D:List bU} (h:L.map c3=D) (J:L[i]? =some x):c3 x∈D:=by rw[←h];exact o6.2 ⟨x,x4 J,rfl⟩
def GO (w:x2) (f:bx) (v:x1) (w':x2):Prop:=Ext w w'∧((¬jg f.funs≤16384∧ ∃ e:Int,e≠0∧v= .tuple #[.pointer none,.int .i64 e])∨ ∃ E,v= .tuple #[.pointer (some ⟨E,0,none⟩),.int .i64 0]∧GM w' E f)
theorem pu {sv:x1} {g E:Nat} {w:x2} {sc cs:List Int} (hm:am .i64 ab w g sv sc):∀ u∈dw ⟨sv,E,sc,cs⟩,u.oneCell'=true:=fun u hu=>by
 simp[dw] at hu;rcases hu with rfl|rfl
 ·exact hm.ls.cells.2
 ·rfl
set_option maxHeartbeats 8000000 in
theorem GP {N:Nat} {w:x2} {ca:Nat} {f:bx} (cb:iC w ca f) (Y:dP N f) (cc:N≤60000) (de:f.name≠[]∧ ∀ b∈f.name,bg b=true):
  ah x5 AW [.pointer (some ⟨ca,0,none⟩)] w (GO w f):=by
 have bC:=Y.k;refine aq func162 ?_;refine (F9 cb Y cc de).mono ?_;rintro _ aB _ ⟨bD,e,rfl,he⟩;rw[be,aa];refine⟨fun cd=>⟨bD,.inl ⟨fun h=>cd (he h),e,cd,rfl⟩⟩,fun eM=>?_⟩;have ce:=cb.ext bD;obtain⟨au,ba,eN,bE,cg,df,bF,bc⟩:=id ce;have eO:bE.length≤256:=by rw[bc.1];exact Y.iu
 rw[ax,ae bS.p rfl,V (by kernel_rfl) (cg.cell (o:=0+3) rfl),io cP.u bF];refine bM.range bE.length (fun i l aC=>∃ g L,Ext aB aC∧dM aC g l L∧Sem aC f.k f.sizes L∧L.map c3=dx f i∧ ∀ r,leadsTo l r→aB.heap.size≤r) (qH bF)
  ⟨0,[],Ext.refl _,⟨aR.nil _ _ _ _ _,fun x J=>(by cases J)⟩,fun x J=>(by cases J),rfl,fun r E=>(dp E).elim⟩ ?_ ?_
 ·rintro i l aC dg hi ⟨g,L,aE,aS,bd,Z,ai⟩ dh;obtain⟨d,ch⟩:∃ d,bE[i]? =some d:=⟨_,y0 hi⟩;obtain⟨x,bf⟩:∃ x,f.funs[i]? =some x:=⟨_,y0 (by have:=bc.1;omega)⟩;have ci:=x4 bf;have di:=bc.2 i x d bf ch;have aG:=lM Y ci;obtain⟨dj,dl,eP⟩:=xO Y i;have dm:L.length≤i:=by have dn:=congrArg X7 Z;rw[u7] at dn;omega
  rw[ao,aa];refine⟨fun _=>?_,fun h=>by omega⟩;refine aL (fun l' bh=>∃ aj aT,Ext aB bh∧dM bh aj l' aT∧Sem bh f.k f.sizes aT∧aT.map c3=dx f (i+1)∧ ∀ r,leadsTo l' r→aB.heap.size≤r) ?_ ?_
  ·rintro l' bh ⟨aj,aT,h1,dq,dr,ds,dt⟩;rw[aF];exact dh _ _ ⟨aj,aT,h1,dq,dr,ds,dt⟩
  intro eQ ck;refine lk (α:=fc) bN.p rfl cP.u bN.i (cT bF aE) ch fun cs bG=>?_;have cl:cs.length=2:=ay.len bG;refine bi bN.i fun aJ eR eS du dv=>?_;refine bP (vs:=cs) bN.i cl rfl (ay.one bG) dv fun dy dz eT dC=>?_;have ak:Ext aC dy:=du.then dz (fun r E he=>by have he:r=aJ:=he;omega);rw[bj bN.p bN.i cl dC.range];refine (Gj Y cc ci di (cT bG ak)).mono ?_;rintro _ dD _ ⟨dE,sv,gs,bH,dF,dG,rfl,eU,aU,cm⟩;rw[av (v:=sv) rfl,av (v:=.pointer (some ⟨bH,0,none⟩)) rfl];refine bi al.i fun cn eW eX dH dI=>?_;refine aZ al.i aU.ls.cells.1 aU.ls.cells.2 dI (by simp[x1.cells]) fun cq dJ eY bk=>?_;have bJ:Ext dD cq:=dH.then dJ (fun r E he=>by have he:r=cn:=he;omega);have bk:ad cq cn al [sv]:=bk;rw[hL];have bK:=(ak.trans dE).trans bJ;have eZ:=bK.size;have e0:=aE.size;refine (GN (aS.ext bK) bk (aU.ls.ext bJ)).mono ?_;rintro _ e1 _ ⟨bl,E⟩;have bm:=bK.trans bl;have cu:=bJ.trans bl;have bL:=aU.ext cu;have cw:=cm.ext cu;have cz:=bk.ext bl;have cA:=aS.ext bm;have bO:=bd.ext bm;rcases E with⟨rfl,dL⟩|⟨cB,rfl,y,X,bn⟩
  ·rw[ao,aa];refine⟨fun _=>?_,fun h=>by omega⟩;rw[V (by kernel_rfl) (cz.cell (o:=0) rfl),cI (cs:=#[sv,.pointer (some ⟨bH,0,none⟩)]) (by obtain⟨_,_,_,rfl⟩:=ct aU.ls;kernel_rfl)];let a:bX:=⟨sv,bH,aV x.scope,(fC f.sizes f.k x).2⟩;have bQ:∀ u∈dw a,u.oneCell'=true:=pu bL;refine eV (f:=dw) (a:=a) eH.u b7.i (by omega) rfl rfl fun e2 e3 dN e4 aH dO=>?_;have aI:=cA.ext aH;refine e9 (f:=dw) (a:=a) eH.u b7.i rfl aI.1 (by simpa using dO.sl) bQ (by omega) (by omega) fun aW aj e5 aY bR a1=>?_;have cC:=bL.ext aH;have bo:∀ {r:Nat},leadsTo l r→ ∃ c,ad dN r b7 c:=fun E=>by
    obtain⟨rfl,c,W⟩:=dk aI.1 E;exact⟨c,W⟩
   refine ck _ _ ⟨aj,L++[a],((aE.trans bm).trans aH).then a1 (fun r E he=>by have:=ai r he;omega),dM.mk aY fun z O=>?_,fun z O=>?_,?_,fun r E=>?_⟩
   ·rcases p9.1 O with O|O
    ·have:=(aI.2 z O).U a1 fun r E he=>(aI.2 z O).2.1 r E (aI.1.leads he).1;exact⟨this.1,this.2.2⟩
    ·rw[p8.1 O];exact⟨⟨gs,aX cC a1 fun r E he=>by obtain⟨c,W⟩:=bo he;exact bB cC W (by decide) E rfl⟩,aG.scope⟩
   ·rcases p9.1 O with O|O
    ·exact (bO.ext aH).row aI a1 z O
    ·rw[p8.1 O];exact⟨dF,dG,rD (cw.ext aH) a1 fun r E=>bo E⟩
   ·rw[o9,Z,rJ bf,xN]
    ·rfl
    ·intro c ag dQ;rw[←Z] at ag;obtain⟨z,O,rfl⟩:=o6.1 ag;exact dL z O dQ
   ·rcases bR r E with h|h
    ·exact ai r h
    ·have:=aH.size;have:=bl.size;omega
  ·rw[ao,aa];refine⟨fun h=>by omega,fun _=>?_⟩;intro e6 ap _ _;have bT:=cA.ext ap;have cD:=(x3.1 X).1;obtain⟨dR,dS,bp⟩:=(bO.ext ap) y (x4 X);have cE:=cz.ext ap;have cF:=bL.ext ap;have dT:=cw.ext ap;rw[cr rfl eH.u b7.i bT.1 cD,ae b7.p rfl,V (by kernel_rfl) (bT.1.range X 1 _ rfl),V (by kernel_rfl) (cE.cell (o:=0) rfl),V (by kernel_rfl) (cE.cell (o:=0) rfl)];have aK:ef f.sizes f.k (c3 y):=dj _ (rK Z X);rw[bn] at bp;have cG:∀ {c:Int},0≤c∧c≤f.k→cj c f.k:=fun h=>⟨bC,h.1,h.2⟩;refine (Gw bp dT cF.ls cF.ls bC (fun c ag=>cG (aK.hZ c ag)) (fun c ag=>cG (aG.hZ c ag))).mono ?_;intro e7 cH _ dU;have dV:y.cs.length=(aD (bI f.sizes (aV x.scope))).toNat:=by have:=aK.len;rw[show (c3 y).1=y.sc from rfl,bn] at this;exact this
   have dW:bu (bI f.sizes (aV x.scope)):=cm.2.2.1;obtain⟨bU,bW,cJ,cK,dX,rfl,dY⟩:=GB aG.up (fun v ac=>(aG.scope.1 v ac).1) (by simp[bI];rfl) dW aG.small dV aG.len dU;rw[av (v:=.pointer (some ⟨bW,0,none⟩)) rfl,av (v:=dX) rfl,av (v:=.int .i64 0) rfl];have aw:=bT.ext bU;rw[cr rfl eH.u b7.i aw.1 cD,ae b7.p rfl];let a:bX:=⟨y.sv,bW,y.sc,cZ f.k y.cs (fC f.sizes f.k x).2⟩;refine lH (f:=dw) (j:=1) (a:=y) (a':=a) dA.i rfl rfl aw.1 X rfl (by omega) fun dZ bq e8 eb=>?_;have bo:∀ {r:Nat},leadsTo l r→ ∃ c,ad cH r b7 c:=fun E=>by
    obtain⟨rfl,c,W⟩:=dk aw.1 E;exact⟨c,W⟩
   refine ck _ _ ⟨g,L.set cB a,((aE.trans bm).trans (ap.trans bU)).then bq (fun r E he=>by have:=ai r he;omega),dM.mk eb fun z O=>?_,fun z O=>?_,?_,ai⟩
   ·have cL:∀ z∈L,(∃ bY,am .i64 ab dZ bY z.sv z.sc)∧hr z.sc:=fun z O=>by
     have:=(aw.2 z O).U bq fun r E he=>(aw.2 z O).2.1 r E (aw.1.leads he).1;exact⟨this.1,this.2.2⟩
    rcases V2 O with O|rfl
    ·exact cL z O
    ·exact cL y (x4 X)
   ·rcases V2 O with O|rfl
    ·exact ((bO.ext ap).ext bU).row aw bq z O
    ·refine⟨cJ,cK,rD ?_ bq fun r E=>bo E⟩;show cp cH bW cJ cK (bI f.sizes y.sc) f.k _;rw[bn];exact dY
   ·rw[List.map_set,Z,rJ bf,GK (g:=fC f.sizes f.k x) dl (i:=cB) (h:=c3 y) (by rw[←Z,x6,X];rfl) bn];rfl
 ·rintro l aC dg ⟨g,L,aE,aS,bd,Z,ai⟩;rw[ao,aa];refine⟨fun h=>by omega,fun _=>?_⟩;rw[bc.1,xP] at Z;have dm:L.length≤256:=by
   have:=(iA Y).2.2;rw[←Z,u7] at this;have:=Y.iu;omega
  refine (Gq aS bd (by omega)).mono ?_;rintro fa cM _ ⟨cN,cO,ec⟩;have ee:Ext aB cM:=aE.then cN fun r E he=>by have:=ai r he;omega
  have eg:Sem cM f.k f.sizes (L.filter ev):=fun z O=>(bd.row aS cN) z (List.mem_filter.1 O).1;have fb:(L.filter ev).length≤L.length:=List.length_filter_le _ _;refine (Gg cO (by omega)).mono ?_;rintro _ cQ _ ⟨cR,M,bZ,eh,cS⟩;have ei:Ext aB cQ:=ee.then cR fun r E he=>by have:=ai r (ec r he);omega
  have cU:Sem cQ f.k f.sizes M:=fun z O=>(eg.row cO cR) z (bZ.mem_iff.1 O);have fd:M.length≤256:=by rw[bZ.length_eq];omega
  have cV:M.map c3=ed f:=by
   refine Fg Y ?_ ?_
   ·refine (bZ.map c3).trans ?_;rw[←Z,List.filter_map];exact .refl _
   ·rw[List.pairwise_map];refine X3.2 fun p q ej cW ek=>?_;exact eh p q _ _ (Z1 _) ek cW (y0 ej) (y0 cW)
  intro fe br _ _;have a2:=ei.trans br;have ff:=ce.ext a2;have b1:=cg.ext a2;rw[ax,ae bS.p rfl,V (by kernel_rfl) (b1.cell (o:=0+0) rfl),ax,ae bS.p rfl,V (by kernel_rfl) (b1.cell (o:=0+1) rfl),ax,ae bS.p rfl,V (by kernel_rfl) (b1.cell (o:=0+2) rfl)];refine (hQ (df.ls.ext a2) (by have:=Y.sizes.2.1;omega)).mono ?_;rintro a6 cX _ ⟨aM,em,fg,cY⟩;refine⟨.inl aM,?_⟩;rw[cI (cs:=#[bb f.name,.int .i64 f.k,a6,.slice none 0 0]) (by obtain⟨_,_,_,rfl⟩:=ct cY.ls;kernel_rfl)];refine a7 fun az en fh bt b2=>?_;have b2:ad en az bS [bb f.name,.int .i64 f.k,a6,.slice none 0 0]:=b2;have fi:=(a2.trans aM).trans bt;have eo:=((cS.ext br).ext aM).ext bt;have fj:=((cU.ext br).ext aM).ext bt;rw[dK eH.u eo.1];refine bV.range M.length (fun i aN=>∃ ba bw aA,Ext cX aN∧ad aN az bS [bb f.name,.int .i64 f.k,a6,ba]∧ng aN bw ba f.k f.sizes aA∧aA.map c3=(M.take i).map c3∧aA.length=i∧ ∀ r,leadsTo ba r→cX.heap.size≤r) (by omega)
   ⟨_,0,[],bt,b2,⟨aR.nil _ _ _ _ _,fun x J=>(by cases J)⟩,rfl,rfl,fun r E=>(dp E).elim⟩ ?_ ?_
  rotate_left
  ·rintro aN ep ⟨a8,bw,aA,aO,aP,b3,bz,_,_⟩;rw[o3,cV] at bz;rw[ao,aa];refine⟨fun h=>by omega,fun _=>?_⟩;exact⟨(bD.trans (a2.trans aM)).trans aO,.inr ⟨az,rfl,a6,a8,em,bw,aA,aP,cY.ext aO,b3,bz⟩⟩
  rintro i aN ep hi ⟨a8,bw,aA,aO,aP,b3,bz,er,c0⟩ es;obtain⟨y,X⟩:∃ y,M[i]? =some y:=⟨_,y0 hi⟩;have c1:=(br.trans aM).trans aO;have c2:=cS.ext c1;have c4:=c2.at X;obtain⟨dR,dS,bp⟩:=(cU.ext c1) y (x4 X);have aK:ef f.sizes f.k (c3 y):=pc Y _ (rK cV X);rw[ao,aa];refine⟨fun _=>?_,fun h=>by omega⟩;rw[pp rfl c2 X];refine bi b7.i fun et fk fl eu ew=>?_;refine bP (vs:=dw y) b7.i rfl rfl c4.one ew fun ey ez fm eA=>?_;have eB:Ext aN ey:=eu.then ez (fun r E he=>by have he:r=et:=he;omega);intro fo c5 _ _;have b4:=eB.trans c5;have c6:=eA.ext c5;have eC:=aP.ext b4;rw[ax,ae bS.p rfl,V (by kernel_rfl) (eC.cell (o:=0+3) rfl),ae b7.p rfl,V (by kernel_rfl) (c6.cell (o:=0+0) rfl),ae b7.p rfl,V (by kernel_rfl) (c6.cell (o:=0+1) rfl)];refine (GJ (bp.ext b4) fun c ag=>⟨bC,(aK.hZ c ag).1,(aK.hZ c ag).2⟩).mono ?_;rintro _ fp _ ⟨b5,gT,m,o,D,rfl,eD,eE,eF,_⟩;refine⟨.inl b5,?_⟩;have c7:=b4.trans b5;obtain⟨⟨bY,c8⟩,_,fq⟩:=c4;have c9:=c8.ext c7;rw[cI (cs:=#[y.sv,.pointer (some ⟨gT,0,none⟩)]) (by obtain⟨_,_,_,e⟩:=ct c8.ls;rw[e];kernel_rfl)];let a:bX:=⟨y.sv,gT,y.sc,y.cs⟩;have bQ:∀ u∈dw a,u.oneCell'=true:=pu c9;refine eV (f:=dw) (a:=a) cP.u bN.i (by omega) rfl rfl fun v25 fs b6 ft ak eI=>?_;refine⟨.inl (b5.trans ak),?_⟩;have aQ:=c7.trans ak;have bA:=b3.ext aQ;refine e9 (f:=dw) (a:=a) cP.u bN.i rfl bA.1 (by simpa using eI.sl) bQ (by omega) (by omega) fun aW aj eJ aY bR da=>?_;have fu:=aO.size;have fv:=aQ.size;have b8:ad eJ az bS [bb f.name,.int .i64 f.k,a6,a8]:=(aP.ext aQ).U da fun he=>by
   obtain⟨rfl,c,W⟩:=dk bA.1 he;have h1:=aP.ext aQ;unfold ad at W h1;rw[h1] at W;exact absurd (Obj.cells.inj (j5 W)).2.1 (by decide)
  rw[ax,ae bS.p rfl];have db:aW.cells= #[aW]∧aW.oneCell'=true:=by
   obtain⟨_,_,_,_,_,rfl,_⟩:=aY.sl;exact⟨rfl,rfl⟩
  refine aZ cP.i db.1 db.2 b8 (by simp) fun eK dc fw eL=>?_;rw[aF];have b9:af (fun r=>r=az∨leadsTo a8 r) b6 eK:=(da.mono fun r _ h=>.inr h).trans (dc.mono fun r _ h=>.inl h);have dd:∀ r,(r=az∨leadsTo a8 r)→ ∃ e c,ad b6 r e c∧e≠ea∧e≠ab:=fun r E=>by
   rcases E with rfl|E
   ·exact⟨_,_,aP.ext aQ,by decide,by decide⟩
   ·obtain⟨rfl,c,W⟩:=dk bA.1 E;exact⟨_,c,W,by decide,by decide⟩
  refine es _ ⟨aW,aj,aA++[a],?_,eL,⟨aY.U dc fun r E he=>?_,fun z O=>?_⟩,?_,by rw[r8,er];rfl,fun r E=>?_⟩
  ·exact (aO.trans aQ).then b9 fun r E he=>by
    rcases he with rfl|he
    ·omega
    ·have:=c0 r he;omega
  ·have he:r=az:=he;subst he;obtain⟨rfl,c,W⟩:=dk aY E;unfold ad at W b8;rw[b8] at W;exact absurd (Obj.cells.inj (j5 W)).2.1 (by decide)
  ·rcases p9.1 O with O|O
   ·exact (bA.2 z O).U b9 dd
   ·rw[p8.1 O];refine jQ.U (w:=b6) ⟨⟨bY,c9.ext ak⟩,m,o,D,eD.ext ak,?_,eF⟩ b9 dd;have:=aK.small;exact Z5 eE (by show (aD (bI f.sizes (c3 y).1)).toNat≤4096;omega)
  ·rw[o9,bz,u4,X,o9];rfl
  ·rcases bR r E with h|h
   ·exact c0 r h
   ·omega
theorem ew {w:x2} {r:Nat} {e E:u5} {c J:List x1} (h:ad w r e c) (h':ad w r E J):e=E:=by
 unfold ad at h h';rw[h] at h';exact (Obj.cells.inj (j5 h')).2.1
theorem b4 {α:Type} {f:α→List x1} {k:Nat} {e E:u5} {w:x2} {g J:Nat} {v:x1} {L:List α} {cs:List x1} (h:aR f k e w g v L) (O:ad w J E cs) (U:e≠E):¬leadsTo v J:=fun V=>by
 obtain⟨rfl,c,W⟩:=dk h V;exact U (ew W O)
structure ey where
 v:x1
 l:List Int
def hv (h:ey):List x1:=[h.v]
def fq (w:x2) (g:Nat) (v:x1) (aG:List ey):Prop:=aR hv 1 ap w g v aG∧ ∀ h∈aG,∃ E,am .i64 aj w E h.v h.l
theorem fq.ext {w w':x2} {g:Nat} {v:x1} {aG:List ey} (h:fq w g v aG) (J:Ext w w'):fq w' g v aG:=⟨h.1.ext J,fun x E=>by
 obtain⟨O,hm⟩:=h.2 x E;exact⟨O,hm.ext J⟩⟩
theorem fq.nh {w w':x2} {g:Nat} {v:x1} {aG:List ey} {S:Nat→Prop} (h:fq w g v aG) (J:af S w w') (O:∀ r,S r→ ∃ e c,ad w r e c∧e≠aj):∀ h∈aG,∃ E,am .i64 aj w' E h.v h.l:=fun x U=>by
 obtain⟨E,hm⟩:=h.2 x U;exact⟨E,aX hm J fun r V W=>by
  obtain⟨e,c,X,Y⟩:=O r W;exact bB hm X (fun he=>Y he.symm) V rfl⟩
theorem fq.U {w w':x2} {g:Nat} {v:x1} {aG:List ey} {S:Nat→Prop} (h:fq w g v aG) (V:af S w w') (W:∀ r,S r→ ∃ e c,ad w r e c∧e≠aj∧e≠ap):fq w' g v aG:=
 ⟨h.1.U V fun r E X=>by
  obtain⟨e,c,J,_,O⟩:=W r X;exact b4 h.1 J (fun he=>O he.symm) E,h.nh V fun r E=>by
  obtain⟨e,c,J,O,_⟩:=W r E;exact⟨e,c,J,O⟩⟩
def jR (w:x2) (k:Int) (sizes:List Int) (x:bX):Prop:=(∃ E,am .i64 ab w E x.sv x.sc)∧ ∃ J O,cp w x.g J O (bI sizes x.sc) k x.cs
theorem jR.ext {w w':x2} {k:Int} {sizes:List Int} {x:bX} (h:jR w k sizes x) (J:Ext w w'):jR w' k sizes x:=by
 obtain⟨⟨E,h1⟩,O,U,V⟩:=h;exact⟨⟨E,h1.ext J⟩,O,U,V.ext J⟩
theorem GQ {w w':x2} {S:Nat→Prop} {g Y:Nat} {Z:x1} {ai cs:List Int} {k:Int} (h:cp w g Y Z ai k cs) (V:af S w w') (W:∀ r,S r→ ∃ e c,ad w r e c∧e≠ci∧e≠ab∧e≠aj):cp w' g Y Z ai k cs:=by
 obtain⟨⟨aH,gs,h1,aa,ac⟩,ae⟩:=h;refine⟨⟨aH,gs,h1.U V fun E=>?_,aX aa V fun r X E=>?_,aX ac V fun r X E=>?_⟩,ae⟩
 ·obtain⟨e,c,J,O,_⟩:=W g E;exact O (ew J h1)
 ·obtain⟨e,c,J,_,O,_⟩:=W r E;exact bB aa J (fun he=>O he.symm) X rfl
 ·obtain⟨e,c,J,_,_,O⟩:=W r E;exact bB ac J (fun he=>O he.symm) X rfl
theorem jR.U {w w':x2} {S:Nat→Prop} {k:Int} {sizes:List Int} {x:bX} (h:jR w k sizes x) (E:af S w w') (J:∀ r,S r→ ∃ e c,ad w r e c∧e≠ci∧e≠ab∧e≠aj):jR w' k sizes x:=by
 obtain⟨⟨O,h1⟩,V,W,X⟩:=h;refine⟨⟨O,aX h1 E fun r Y Z=>?_⟩,V,W,GQ X E J⟩;obtain⟨e,c,aa,_,ac,_⟩:=J r Z;exact bB h1 aa (fun he=>ac he.symm) Y rfl
def jh (w:x2) (g:Nat) (v:x1) (k:Int) (sizes:List Int) (L:List bX):Prop:=aR dw 2 fO w g v L∧ ∀ x∈L,jR w k sizes x
theorem jh.ext {w w':x2} {g:Nat} {v:x1} {k:Int} {sizes:List Int} {L:List bX} (h:jh w g v k sizes L) (J:Ext w w'):jh w' g v k sizes L:=⟨h.1.ext J,fun x E=>(h.2 x E).ext J⟩
theorem jh.U {w w':x2} {g:Nat} {v:x1} {k:Int} {sizes:List Int} {L:List bX} {S:Nat→Prop} (h:jh w g v k sizes L) (W:af S w w') (X:∀ r,S r→ ∃ e c,ad w r e c∧e≠fO∧e≠ci∧e≠ab∧e≠aj):jh w' g v k sizes L:=
 ⟨h.1.U W fun r E Y=>by
  obtain⟨e,c,O,V,_⟩:=X r Y;exact b4 h.1 O (fun he=>V he.symm) E,fun x J=>(h.2 x J).U W fun r E=>by
  obtain⟨e,c,O,_,V⟩:=X r E;exact⟨e,c,O,V⟩⟩
def eO (w:x2) (U:Nat) (n:bd):Prop:=∃ E J O V W aG L X au Y Z,ad w U ek [.pointer (some ⟨E,0,none⟩),.int .i64 n.zero,J,O]∧ad w E bS [X,.int .i64 n.k,au,Z]∧am .i64 ab w Y au n.sizes∧
 fq w V J aG∧aG.map (·.l)=n.unary∧jh w W O n.k n.sizes L∧L.map c3=n.funs
theorem eO.ext {w w':x2} {E:Nat} {n:bd} (h:eO w E n) (J:Ext w w'):eO w' E n:=by
 obtain⟨O,U,V,W,X,aG,L,Y,au,Z,aa,h1,ab,ac,ad,ae,af,ag⟩:=h;exact⟨O,U,V,W,X,aG,L,Y,au,Z,aa,h1.ext J,ab.ext J,ac.ext J,ad.ext J,ae,af.ext J,ag⟩
def gu (n:bd) (g:bU):bd:=match g.1 with
 |[]=>{n with zero:=g.2.getD 0 0}
 |[v]=>{n with unary:=n.unary.set v.toNat g.2}
 |_=>{n with funs:=n.funs++[g]}
def xQ (f:bx):bd:=⟨f.k,f.sizes,0,f.sizes.map fun z=>v8 z.toNat 0,[]⟩
theorem GR (f:bx):cJ f=(ed f).foldl gu (xQ f):=rfl
def cO (f:bx) (i:Nat):bd:=((ed f).take i).foldl gu (xQ f)
theorem rL {f:bx} {i:Nat} {g:bU} (h:(ed f)[i]? =some g):cO f (i+1)=gu (cO f i) g:=GL h
theorem pv (f:bx):cO f (ed f).length=cJ f:=by unfold cO;rw[o3,GR]
theorem GS (n:bd) (g:bU):(gu n g).k=n.k∧(gu n g).sizes=n.sizes∧(gu n g).unary.length=n.unary.length∧(gu n g).funs.length≤n.funs.length+1:=by
 unfold gu;split
 ·exact⟨rfl,rfl,rfl,Nat.le_succ _⟩
 ·exact⟨rfl,rfl,by simp,Nat.le_succ _⟩
 ·exact⟨rfl,rfl,rfl,by simp⟩
theorem lQ (f:bx):∀ i,(cO f i).k=f.k∧(cO f i).sizes=f.sizes∧(cO f i).unary.length=f.sizes.length∧(cO f i).funs.length≤i
 |0=>⟨rfl,rfl,by show (f.sizes.map _).length=_;simp,Z1 _⟩
 |i+1=>by
  have E:=lQ f i;cases J:(ed f)[i]? with
  |none=>
   have O:=List.getElem?_eq_none_iff.1 J;have e:cO f (i+1)=cO f i:=by unfold cO;rw[b6 (by omega),b6 O]
   rw[e];exact⟨E.1,E.2.1,E.2.2.1,by omega⟩
  |some g=>
   rw[rL J];obtain⟨h1,U,V,W⟩:=GS (cO f i) g;exact⟨h1.trans E.1,U.trans E.2.1,V.trans E.2.2.1,by omega⟩
def GU (w:x2) (f:bx) (v:x1) (w':x2):Prop:=Ext w w'∧((¬jg f.funs≤16384∧ ∃ e:Int,e≠0∧v= .tuple #[.pointer none,.int .i64 e])∨ ∃ E,v= .tuple #[.pointer (some ⟨E,0,none⟩),.int .i64 0]∧eO w' E (cJ f))
theorem cu {k n:Nat} {w:x2} {v:x1} {cs:List x1} (h:bG w k v n cs):v.cells= #[v]∧v.oneCell'=true:=by
 obtain⟨_,_,_,_,_,rfl,_⟩:=h;exact⟨rfl,rfl⟩
set_option maxHeartbeats 8000000 in
theorem GV {N:Nat} {w:x2} {ce:Nat} {f:bx} (cK:iC w ce f) (az:dP N f) (cL:N≤60000) (cM:f.name≠[]∧ ∀ b∈f.name,bg b=true):
  ah x5 Ah [.pointer (some ⟨ce,0,none⟩)] w (GU w f):=by
 have dM:=az.k;refine aq func69 ?_;refine (GP cK az cL cM).mono ?_;rintro _ aS _ ⟨bk,⟨cN,e,he,rfl⟩|⟨aH,rfl,cQ⟩⟩
 ·rw[av (v:=.pointer none) rfl,av (v:=.int .i64 e) rfl,be,aa];exact⟨fun _=>⟨bk,.inl ⟨cN,e,he,rfl⟩⟩,fun h=>absurd he h⟩
 rw[av (v:=.pointer (some ⟨aH,0,none⟩)) rfl,av (v:=.int .i64 0) rfl,be,aa];refine⟨fun h=>absurd rfl h,fun _=>?_⟩;obtain⟨au,cR,cS,dN,M,bF,bG,cg,bl⟩:=id cQ;have dO:M.length≤256:=by
  have h1:=(m4 az).2.length_eq;have aT:=(iA az).2.2;have aU:=List.length_filter_le ec (dV f);have bm:=az.iu;have dQ:M.length=(ed f).length:=by rw[←bl,u7]
  omega
 have dR:=az.sizes.2.1;rw[cI (cs:=#[.pointer (some ⟨aH,0,none⟩),.int .i64 0,.slice none 0 0,.slice none 0 0]) (by kernel_rfl)];refine a7 fun Y cT dS bH bJ=>?_;have bJ:ad cT Y ek [.pointer (some ⟨aH,0,none⟩),.int .i64 0,.slice none 0 0,.slice none 0 0]:=bJ;rw[ax,ae bS.p rfl,V (by kernel_rfl) ((bF.ext bH).cell (o:=0+2) rfl),aI al.u (bG.ls.ext bH)];refine bV.range f.sizes.length (fun i aY=>∃ O Z aG,Ext aS aY∧ad aY Y ek [.pointer (some ⟨aH,0,none⟩),.int .i64 0,O,.slice none 0 0]∧fq aY Z O aG∧aG.map (·.l)=(f.sizes.take i).map (fun z=>v8 z.toNat 0)∧ ∀ r,leadsTo O r→aS.heap.size≤r) (by omega)
  ⟨_,0,[],bH,bJ,⟨aR.nil _ _ _ _ _,fun x J=>(by cases J)⟩,rfl,fun r E=>(dp E).elim⟩ ?_ ?_
 ·rintro i aY cU hi ⟨O,Z,aG,aK,bn,bK,a2,bo⟩ cV;obtain⟨z,ac⟩:∃ z,f.sizes[i]? =some z:=⟨_,y0 hi⟩;have dT:=az.sizes.2.2 z (x4 ac);have dU:aG.length=i:=by have:=congrArg X7 a2;simp only[u7,o5] at this;omega
  rw[ao,aa];refine⟨fun _=>?_,fun h=>by omega⟩;rw[a1 al.u ab.i (by kernel_rfl) (bG.ls.ext aK) ac];intro dW ch _ _;have cW:=bn.ext ch;rw[ax,ae ek.p rfl,V (by kernel_rfl) (cW.cell (o:=0+2) rfl)];obtain⟨aL,rfl⟩:∃ n:Nat,z=n:=⟨z.toNat,by omega⟩;refine hN (k:=.i64) ap.u aj.i (by omega) (by omega) fun bp cX dX bL cY=>?_;refine⟨.inl bL,?_⟩;have cZ:am .i64 aj cX bp (.slice (some ⟨bp,0,none⟩) aL aL) (v8 aL 0):=am.of (br.full (k:=1) (n:=aL) cY (by simp) (by simp[maxLen];omega));let a:ey:=⟨.slice (some ⟨bp,0,none⟩) aL aL,v8 aL 0⟩;refine eV (f:=hv) (a:=a) eE.u ap.i (by omega) rfl rfl fun dY dZ bM ea bO c0=>?_;refine⟨.inl (bL.trans bO),?_⟩;have bq:=(ch.trans bL).trans bO;have bt:=bK.ext bq;refine e9 (f:=hv) (a:=a) eE.u ap.i rfl bt.1 (by simpa using c0.sl) (fun u hu=>by rw[p8.1 (show u∈[a.v] from hu)];rfl) (by omega) (by omega) fun bQ bR eb ak bT cj=>?_;have a6:∀ {r:Nat},leadsTo O r→ ∃ c,ad bM r ap c:=fun E=>by
   obtain⟨rfl,c,W⟩:=dk bt.1 E;exact⟨c,W⟩
  have bU:=bn.ext bq;have ck:=bU.U cj fun he=>b4 bt.1 bU (by decide) he;rw[ax,ae ek.p rfl];refine aZ eE.i (cu ak.sl).1 (cu ak.sl).2 ck (by simp) fun c1 cl ee c2=>?_;rw[aF];have bW:af (fun r=>leadsTo O r∨r=Y) bM c1:=(cj.mono fun r _ h=>.inl h).trans (cl.mono fun r _ h=>.inr h);have aA:∀ r,(leadsTo O r∨r=Y)→ ∃ e c,ad bM r e c∧e≠aj:=fun r E=>by
   rcases E with E|rfl
   ·obtain⟨c,W⟩:=a6 E;exact⟨_,c,W,by decide⟩
   ·exact⟨_,_,bU,by decide⟩
  have c4:=bk.size;have z3:=aK.size;have eg:=bq.size;refine cV _ ⟨bQ,bR,aG++[a],(aK.trans bq).then bW (fun r E he=>?_),c2,⟨ak.U cl fun r E he=>?_,fun y ai=>?_⟩,?_,fun r E=>?_⟩
  ·rcases he with he|rfl
   ·have:=bo r he;omega
   ·omega
  ·have he:r=Y:=he;subst he;exact b4 ak ck (by decide) E
  ·rcases p9.1 ai with ai|ai
   ·exact bt.nh bW aA y ai
   ·rw[p8.1 ai];have cm:=cZ.ext bO;exact⟨bp,aX cm bW fun r E bY=>by
     obtain⟨e,c,W,c5⟩:=aA r bY;exact bB cm W (fun he=>c5 he.symm) E rfl⟩
  ·rw[o9,a2,u4,ac,l9,o9];rfl
  ·rcases bT r E with h|h
   ·exact bo r h
   ·omega
 ·rintro aY cU ⟨O,Z,aG,aK,bn,bK,a2,bo⟩;rw[ao,aa];refine⟨fun h=>by omega,fun _=>?_⟩;rw[o3] at a2;have c6:=bF.ext aK;have c7:=cg.ext aK;rw[ax,ae bS.p rfl,V (by kernel_rfl) (c6.cell (o:=0+3) rfl),dK cP.u c7.1];refine bV.range M.length (fun i aM=>∃ O X Z aB aG L,Ext aS aM∧ad aM Y ek [.pointer (some ⟨aH,0,none⟩),.int .i64 (cO f i).zero,O,X]∧fq aM Z O aG∧aG.map (·.l)=(cO f i).unary∧jh aM aB X f.k f.sizes L∧L.map c3=(cO f i).funs∧ ∀ r,leadsTo O r∨leadsTo X r→aS.heap.size≤r) (by omega)
   ⟨O,_,Z,0,aG,[],aK,bn,bK,a2,⟨aR.nil _ _ _ _ _,fun x J=>(by cases J)⟩,rfl,fun r E=>E.elim (bo r) fun h=>(dp h).elim⟩ ?_ ?_
  rotate_left
  ·rintro aM c8 ⟨O,X,Z,aB,aG,L,aw,bu,bZ,aN,b1,aO,_⟩;rw[ao,aa];refine⟨fun h=>by omega,fun _=>?_⟩;have c9:M.length=(ed f).length:=by rw[←bl,u7]
   have a8:=lQ f M.length;rw[c9,pv] at bu aN aO a8;refine⟨bk.trans aw,.inr ⟨Y,rfl,aH,O,X,Z,aB,aG,L,bb f.name,au,cS,cR,bu,?_,?_,bZ,aN,?_,aO⟩⟩
   ·rw[a8.1];exact bF.ext aw
   ·rw[a8.2.1];exact bG.ext aw
   ·rw[a8.1,a8.2.1];exact b1
  rintro i aM c8 hi ⟨O,X,Z,aB,aG,L,aw,bu,bZ,aN,b1,aO,aV⟩ da;obtain⟨y,ai⟩:∃ y,M[i]? =some y:=⟨_,y0 hi⟩;have db:(ed f)[i]? =some (c3 y):=by rw[←bl,x6,ai];rfl
  have bw:ef f.sizes f.k (c3 y):=pc az _ (rK bl ai);have b2:=cg.ext aw;obtain⟨eh,ei,ej,em⟩:=lQ f i;rw[ao,aa];refine⟨fun _=>?_,fun h=>by omega⟩;refine dd (fun ba=>∃ O X Z aB aG L,Ext aS ba∧ad ba Y ek [.pointer (some ⟨aH,0,none⟩),.int .i64 (cO f (i+1)).zero,O,X]∧fq ba Z O aG∧aG.map (·.l)=(cO f (i+1)).unary∧jh ba aB X f.k f.sizes L∧L.map c3=(cO f (i+1)).funs∧ ∀ r,leadsTo O r∨leadsTo X r→aS.heap.size≤r) ?_ ?_
  ·rintro ba h;rw[aF];exact da _ h
  intro en b3;have dc:=b2.2 y (x4 ai);obtain⟨⟨de,b5⟩,m,o,D,df,eo,dg⟩:=dc;rw[cr rfl cP.u bN.i b2.1 hi,bj bN.p bN.i rfl (b2.1.range ai)];refine bi bN.i fun aJ ep er dh di=>?_;refine bP (vs:=dw y) bN.i rfl rfl (pu b5) di fun dj dl es cn=>?_;have cp:Ext aM dj:=dh.then dl (fun r E he=>by have he:r=aJ:=he;omega);rw[ae bN.p rfl,V (by kernel_rfl) (cn.cell (o:=0+1) rfl)];refine (xo (df.ext cp) (by omega)).mono ?_;rintro _ et _ ⟨cq,_,aW⟩;obtain⟨g,dm,dn,dq,rfl,eu,ev,aW,dr⟩:=aW bw.small;have ds:dt (bI f.sizes y.sc):=aW.2.2.1.2;have du:dq=y.cs:=fZ.eq ds dr dg;subst du;have aC:=cp.trans cq;have b6:=cn.ext cq;have b7:=b5.ext aC;rw[av (v:=.pointer (some ⟨g,0,none⟩)) rfl,av (v:=.int .i64 0) rfl,ae bN.p rfl,V (by kernel_rfl) (b6.cell (o:=0+0) rfl),aI al.u b7.ls];have c4:=bk.size;have z9:=aw.size;have ew:=aC.size;have b8:=bu.ext aC;have b9:=bZ.ext aC;have ca:=b1.ext aC;have cb:=rL db;rw[bc,aa];refine⟨fun ez=>?_,fun eA=>?_⟩
  ·
   have aP:y.sc=[]:=o8 (by omega);have ag:cO f (i+1)={cO f i with zero:=y.cs.getD 0 0}:=by rw[cb];unfold gu;simp only[c3,aP]
   refine (jN aW).mono ?_;rintro cw dv _ ⟨bz,eB,eC,dx⟩;have eD:y.cs.length=1:=by have:=bw.len;simpa[c3,aP,bI,aD] using this
   have dy:y.cs[0]? =some (y.cs.getD 0 0):=by rw[u6,y0 (by omega)];rfl
   rw[eS (y:=0) (i:=0) rfl ap.u aj.i (by kernel_rfl) dx.ls dy,ax,ae ek.p rfl];have cz:=b8.ext bz;refine aZ aj.i rfl rfl cz (by simp) fun eF cc eH dz=>?_;have aA:∀ r,r=Y→ ∃ e c,ad dv r e c∧e≠fO∧e≠ci∧e≠ab∧e≠aj∧e≠ap:=fun r E=>by
    subst E;exact⟨_,_,cz,by decide,by decide,by decide,by decide,by decide⟩
   refine b3 _ ⟨O,X,Z,aB,aG,L,((aw.trans aC).trans bz).then cc (fun r E he=>by have he:r=Y:=he;omega),?_,(b9.ext bz).U cc (fun r E=>?_),by rw[ag];exact aN,(ca.ext bz).U cc (fun r E=>?_),by rw[ag];exact aO,aV⟩
   ·rw[ag];exact dz
   ·obtain⟨e,c,W,_,_,_,h1,aT⟩:=aA r E;exact⟨e,c,W,h1,aT⟩
   ·obtain⟨e,c,W,h1,aT,aU,bm,_⟩:=aA r E;exact⟨e,c,W,h1,aT,aU,bm⟩
  rw[bc,aa];refine⟨fun h1=>?_,fun eI=>?_⟩
  ·
   obtain⟨v,aP⟩:∃ v,y.sc=[v]:=W8.1 (by omega);have eJ:=bw.scope.1 v (by show v∈y.sc;rw[aP];exact .head _);have eK:=bw.vars v (by show v∈y.sc;rw[aP];exact .head _);have ag:cO f (i+1)={cO f i with unary:=(cO f i).unary.set v.toNat y.cs}:=by rw[cb];unfold gu;simp only[c3,aP]
   intro eL aQ _ _;have cA:=b8.ext aQ;have dA:=b6.ext aQ;rw[ax,ae ek.p rfl,V (by kernel_rfl) (cA.cell (o:=0+2) rfl),ae bN.p rfl,V (by kernel_rfl) (dA.cell (o:=0+0) rfl)];refine oy (y:=0) (i:=0) rfl al.u ab.i (b7.ls.ext aQ) (show y.sc[0]? =some v by rw[aP];rfl) fun b o dC=>?_;rw[V (by kernel_rfl) dC];refine (jN (aW.ext aQ)).mono ?_;rintro cw dD _ ⟨bd,dE,eM,bA⟩;refine⟨.inl bd,?_⟩;have bf:=(b9.ext aQ).ext bd;have eN:aG.length=f.sizes.length:=by have:=congrArg X7 aN;rw[u7] at this;omega
   obtain⟨u,hu⟩:∃ u,aG[v.toNat]? =some u:=⟨_,y0 (by omega)⟩;rw[cr (i:=v.toNat) (by omega) eE.u ap.i bf.1 (by omega)];let a:ey:=⟨cw,y.cs⟩;refine lH (f:=hv) (j:=0) (a:=u) (a':=a) ap.i bA.ls.cells.1 bA.ls.cells.2 bf.1 hu rfl (by omega) fun eO bh eP dF=>?_;have cB:=cA.ext bd;have a6:∀ {r:Nat},leadsTo O r→ ∃ c,ad dD r ap c:=fun E=>by
    obtain⟨rfl,c,W⟩:=dk bf.1 E;exact⟨c,W⟩
   refine b3 _ ⟨O,X,Z,aB,aG.set v.toNat a,L,(((aw.trans aC).trans aQ).trans bd).then bh (fun r E he=>by have:=aV r (.inl he);omega),?_,⟨dF,fun z ac=>?_⟩,?_,((ca.ext aQ).ext bd).U bh (fun r E=>?_),by rw[ag];exact aO,aV⟩
   ·rw[ag];exact cB.U bh fun he=>b4 bf.1 cB (by decide) he
   ·rcases V2 ac with ac|rfl
    ·exact bf.nh bh (fun r E=>by obtain⟨c,W⟩:=a6 E;exact⟨_,c,W,by decide⟩) z ac
    ·exact⟨dE,aX bA bh fun r E bY=>by
      obtain⟨c,W⟩:=a6 bY;exact bB bA W (by decide) E rfl⟩
   ·rw[ag,List.map_set,aN]
   ·obtain⟨c,W⟩:=a6 E;exact⟨_,c,W,by decide,by decide,by decide,by decide⟩
  ·
   have ag:cO f (i+1)={cO f i with funs:=(cO f i).funs++[c3 y]}:=by
    rw[cb];unfold gu;have cC:2≤(c3 y).1.length:=by show 2≤y.sc.length;omega
    generalize c3 y=g at cC ⊢;obtain⟨sc,cs⟩:=g
    match sc,cC with
    |_::_::_,_=>rfl
   intro eQ aE _ _;have cD:=b8.ext aE;have dG:=b6.ext aE;have cE:=b7.ext aE;rw[ax,ae ek.p rfl,V (by kernel_rfl) (cD.cell (o:=0+3) rfl),ae bN.p rfl,V (by kernel_rfl) (dG.cell (o:=0+0) rfl),cI (cs:=#[y.sv,.pointer (some ⟨g,0,none⟩)]) (by obtain⟨_,_,_,e⟩:=ct b5.ls;rw[e];kernel_rfl)];let a:bX:=⟨y.sv,g,y.sc,y.cs⟩;refine eV (f:=dw) (a:=a) ij.u fO.i (by omega) rfl rfl fun eR eT bC eU ay dH=>?_;refine⟨.inl ay,?_⟩;have bD:=(ca.ext aE).ext ay;have dI:=(b9.ext aE).ext ay;have cd:=cD.ext ay;have eW:L.length≤256:=by have:=congrArg X7 aO;rw[u7] at this;omega
   refine e9 (f:=dw) (a:=a) ij.u fO.i rfl bD.1 (by simpa using dH.sl) (pu (cE.ext ay)) (by omega) (by omega) fun bQ bR eX ak bT cF=>?_;have cG:=cd.U cF fun he=>b4 bD.1 cd (by decide) he;rw[ax,ae ek.p rfl];refine aZ ij.i (cu ak.sl).1 (cu ak.sl).2 cG (by simp) fun dJ cH eY dL=>?_;have bE:af (fun r=>leadsTo X r∨r=Y) bC dJ:=(cF.mono fun r _ h=>.inl h).trans (cH.mono fun r _ h=>.inr h);have aA:∀ r,(leadsTo X r∨r=Y)→ ∃ e c,ad bC r e c∧e≠ci∧e≠ab∧e≠aj∧e≠ap:=fun r E=>by
    rcases E with E|rfl
    ·obtain⟨rfl,c,W⟩:=dk bD.1 E;exact⟨_,c,W,by decide,by decide,by decide,by decide⟩
    ·exact⟨_,_,cd,by decide,by decide,by decide,by decide⟩
   have eZ:=(aE.trans ay).size;refine b3 _ ⟨O,bQ,Z,bR,aG,L++[a],(((aw.trans aC).trans aE).trans ay).then bE (fun r E he=>?_),?_,dI.U bE (fun r E=>?_),by rw[ag];exact aN,⟨ak.U cH fun r E he=>?_,fun z ac=>?_⟩,?_,fun r E=>?_⟩
   ·rcases he with he|rfl
    ·have:=aV r (.inr he);omega
    ·omega
   ·rw[ag];exact dL
   ·obtain⟨e,c,W,_,_,aU,bm⟩:=aA r E;exact⟨e,c,W,aU,bm⟩
   ·have he:r=Y:=he;subst he;exact b4 ak cG (by decide) E
   ·have cJ:∀ r,(leadsTo X r∨r=Y)→ ∃ e c,ad bC r e c∧e≠ci∧e≠ab∧e≠aj:=fun r E=>by
     obtain⟨e,c,W,h1,aT,aU,_⟩:=aA r E;exact⟨e,c,W,h1,aT,aU⟩
    rcases p9.1 ac with ac|ac
    ·exact (bD.2 z ac).U bE cJ
    ·rw[p8.1 ac];refine jR.U (w:=bC) ⟨⟨de,cE.ext ay⟩,dm,dn,?_⟩ bE cJ;exact (aW.ext aE).ext ay
   ·rw[ag,o9,aO];rfl
   ·rcases E with E|E
    ·exact aV r (.inl E)
    ·rcases bT r E with h|h
     ·exact aV r (.inr h)
     ·omega
theorem rM {z:Array x1} {k n:Nat} (E:z.size=k):(n0.zeroCells z n).toList=cS z (n*k):=by
 unfold n0.zeroCells cS;rw[E]
theorem GW {P:Y3} {w:x2} {t J X e:u5} {Y kn:r9} {b g n k m:Nat} {y:Int} {z v:x1} {xs:List x1} {K:x1→x2→Prop} (ay:y=(m:Int)) (ak:P.underlying t=some (.slice e)) (al:P.underlying J=some (.int kn)) (hi:aE P e k b z) (Z:z.cells.size=k)
  (aR:0<k) (h1:∀ u∈cS z.cells (m*k),u.oneCell'=true) (h:br w g e k v n xs) (az:0<m) (aB:(n+m)*b≤140737488355328) (aC:n+m≤9223372036854775807)
  (am:∀ aa aD w',br w' aD e k aa (n+m) (xs++cS z.cells (m*k))→(∀ r,leadsTo aa r→leadsTo v r∨w.heap.size≤r)→af (fun r=>leadsTo v r) w w'→K aa w'):aA P (l5 #[t,J] X #[v,.int Y y]) w K:=by
 subst ay;obtain⟨i,hi,ab,rfl,ao⟩:=hi;obtain⟨ap,hm⟩:=h;have aF:=lj z.cells (m*k);have aG:m*i.bytes≤281474976710656:=by
  have:m*i.bytes≤(n+m)*i.bytes:=Y7 _ (by omega);omega
 have grow:∀ (base:Option Addr) (cap:Nat),v= .slice base n cap→(n0.firstCells i.size n (.slice base n cap)).run P w.drew= .ok xs.toArray w.drew→cap<n+m→aA P (l5 #[t,J] X #[v,.int Y (m:Int)]) w K:=fun base cap ac aH E=>by
  subst ac;have ae:=Lib.run_append_grow_zeros (P:=P) w t J X e i z Y kn ak al hi ao base n cap xs aH m az (by omega) E (by omega) aG (growslice_fits E aB);have aq:n+m≤grownCap w (n+m) cap e:=grownCap_ge w _ _ _;have aI:grownCap w (n+m) cap e≤maxLen:=grownCap_le_maxLen w (n+m) cap e (by simpa[maxLen] using aC);have aS:=lj z.cells ((grownCap w (n+m) cap e-(n+m))*k);have aT:(n+m)*k≤grownCap w (n+m) cap e*k:=Y7 _ aq;have aJ:(n+m)*k=n*k+m*k:=W3 _ _ _;have aU:(grownCap w (n+m) cap e-(n+m))*k=grownCap w (n+m) cap e*k-(n+m)*k:=Nat.sub_mul _ _ _;refine .of ae ((l0 w _ (Nat.le_succ _)).trans (l2 _ _)) (am _ w.heap.size _ ⟨by rw[r8];omega,.inr ⟨_,xs++cS z.cells (m*k)++cS z.cells ((grownCap w (n+m) cap e-(n+m))*k),rfl,?_,aq,aI,?_,?_⟩⟩ (fun r ag=>?_) (((nt w _).trans (l1 _ _)).U _))
  ·have:=heap_alloc_new w.drew (.cells (xs.toArray++n0.zeroCells z.cells m++n0.zeroCells z.cells (grownCap w (n+m) cap e-(n+m))) e);unfold ad;rw[show w.drew.heap.size=w.heap.size from rfl] at this;rw[this];congr 2;apply Array.toList_inj.1;rw[Array.toList_append,Array.toList_append,rM Z,rM Z]
  ·rw[r8,r8];omega
  ·rw[List.take_append_of_le_length (by rw[r8];omega),b6 (by rw[r8];omega)]
  ·obtain⟨a,aK,c,O,V⟩:=ag;cases O;exact .inr (by simp at V;omega)
 rcases hm with⟨rfl,aL⟩|⟨cap,cs,rfl,W,O,V,ah,au⟩
 ·subst aL;have:xs=[]:=o8 (by simpa using ap);subst this;exact grow none 0 rfl (run_firstCells_none w.drew i.size 0 0 0) (by omega)
 ·by_cases E:n+m≤cap
  ·have av:(n+m)*k≤cs.length:=by rw[ah];exact Y7 _ E
   have aJ:(n+m)*k=n*k+m*k:=W3 _ _ _;have ai:=run_storeCells_cells (P:=P) g (0+n*k) (cS z.cells (m*k)) 0 w (fun j aw=>by
    rw[aF] at aw;rw[Nat.add_zero,V3,W.cell (y0 (show n*k+j<cs.length by omega))];rfl) (fun j _=>W.frozen _ _) h1
   simp only[Nat.add_zero] at ai;have hw:X0.wrap (m:Int)=m:=by rw[r9.wrap_i64];omega
   have aM:¬((m:Int)<0):=by omega
   have aN:¬(281474976710656<(m:Int)*(i.bytes:Int)):=by rw[←Int.natCast_mul];omega
   have aj:¬(m*i.size=0):=Nat.mul_ne_zero (by omega) (by omega);have aO:(n0.zeroCells z.cells m).toList=cS z.cells (m*k):=rM Z;have ae:(l5 #[t,J] X #[.slice (some ⟨g,0,none⟩) n cap,.int Y (m:Int)]).run P w= .ok (.slice (some ⟨g,0,none⟩) (n+m) cap) (w.setCells g (0+n*k) (cS z.cells (m*k))):=by
    simp[l5,run_underlying ak,run_underlying al,sizeOf,typeInfo,zeroValue,hi,ao,asInt,asIntOf,hw,E,aM,aj,aN,aO,Addr.add_lit,ab];simp only[V3] at ai;rw[ai];simp;intro aP;exact absurd aP (by rw[ab] at aj;exact aj)
   obtain⟨aQ,ax⟩:=kl (cS z.cells (m*k)) cs (0+n*k) w W;refine .of ae (ax.cR W) (am _ g _ ⟨by rw[r8];omega,.inr ⟨cap,_,rfl,aQ,E,V,by rw[kk,ah],?_⟩⟩ (fun r ag=>.inl ?_) (ax.U.mono fun r _ he=>⟨_,_,_,rfl,he.symm⟩))
   ·rw[wA (by omega) av,jD (by rw[o5];omega),V3,List.take_take,List.drop_eq_nil_of_le (by rw[o5];omega),V4,Nat.min_eq_left (by omega),au]
   ·obtain⟨a,aK,c,O,V⟩:=ag;cases O;exact⟨_,_,_,rfl,V⟩
  ·refine grow _ cap rfl ?_ (by omega);have av:n*k≤cs.length:=by rw[ah];exact Y7 _ O
   refine run_firstCells_some w.drew i.size n _ n cap xs (by rw[ab];exact ap) fun j u hu=>?_;rw[W5,V3];have aw:=(x3.1 hu).1;rw[←au,c7 (by omega)] at hu;exact W.cell hu
def ga (c:Cell):List x1:=[.int .i64 c.v,.int .u64 (c.st:Int)]
def kI (o:ir):List x1:=[.int .i64 (o.i:Int),.int .i64 o.c.v,.int .u64 (o.c.st:Int)]
def kJ (m:ou):List x1:=[.int .i64 (m.olds:Int),.int .i64 (m.cells:Int),.int .u64 (m.st:Int)]
def dy (w:x2) (gT:Nat) (A:an) (t:aM):Prop:=A gT∧ ∃ O go U aH E J,ad w gT eG [aH,E,J,.int .u64 (t.jJ:Int)]∧aR ga 2 dH w O aH t.cells∧aR kI 3 jz w go E t.olds∧aR kJ 3 e5 w U J t.marks∧
 ∀ r,leadsTo aH r∨leadsTo E r∨leadsTo J r→A r
theorem dy.U {S A:an} {w w':x2} {gT:Nat} {t:aM} (h:dy w gT A t) (J:af S w w') (O:∀ r,A r→¬S r):dy w' gT A t:=by
 obtain⟨W,X,go,Y,aH,Z,aa,h1,ab,ac,ad,V⟩:=h;exact⟨W,X,go,Y,aH,Z,aa,h1.U J (O _ W),ab.U J fun r E=>O r (V r (.inl E)),ac.U J fun r E=>O r (V r (.inr (.inl E))),ad.U J fun r E=>O r (V r (.inr (.inr E))),V⟩
theorem dy.ext {A:an} {w w':x2} {gT:Nat} {t:aM} (h:dy w gT A t) (J:Ext w w'):dy w' gT A t:=h.U (J.U fun _=>False) fun _ _ h=>h
def Grow (A:an) (w:x2) (E:an) (w':x2):Prop:=af A w w'∧(∀ r,E r→A r∨w.heap.size≤r)∧ ∀ r,A r→E r
theorem Grow.refl (A:an) (w:x2):Grow A w A w:=⟨af.refl _ _,fun _ h=>.inl h,fun _ h=>h⟩
theorem Grow.ext {A:an} {w w':x2} (h:Ext w w'):Grow A w A w':=⟨h.U _,fun _ h=>.inl h,fun _ h=>h⟩
theorem Grow.trans {A J O:an} {w w' U:x2} (h:Grow A w J w') (k:Grow J w' O U):Grow A w O U:=
 ⟨⟨Z5 h.1.size k.1.size,fun r o E V W=>k.1.aW r o (h.1.aW r o E V W) V fun X=>(h.2.1 r X).elim W fun Y=>by
  have:=(o4.1 E).1;omega⟩,fun r E=>by
  rcases k.2.1 r E with h1|h1
  ·exact h.2.1 r h1
  ·have:=h.1.size;exact .inr (by omega),fun r E=>k.2.2 r (h.2.2 r E)⟩
end Go.Proofs.YtgbkinibgjmodaaGreatDoor
