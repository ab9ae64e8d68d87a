/- own texts, made small by a tool (wip/ holds them as they were written): no statement of the seat. -/
import Derived.Test.YtgbkinibgjmodaaGreatDoorZb
set_option linter.unusedVariables false
set_option linter.unusedSimpArgs false
set_option linter.unnecessarySimpa false
open Array renaming getElem?_eq_some_iff→l7,getElem?_toList→T5
open BitVec renaming ofInt→V6
open Bool renaming not_true→Y4,not_false→X4,eq_iff_iff→V1,and_eq_true→V5,or_eq_false_iff→T3
open Decidable renaming not_not→Y9
open Go renaming Value→x1,World→x2,TypeId→r8,IntKind→o4,Builtin→n0,Program→X5,Oper→U2,Operand→T0
open Go.Addr renaming add_mid→U4
open Go.Builtin renaming append_→l9,len_→Z5
open Go.Instr renaming loadAt→x6,fieldAt→x7,storeAt→o3,indexAt→o6,extract→j6,buildSlice→Z4,sliceAt→X6,alloc→T7
open Go.IntKind renaming i64→Y0,u64→U1
open Go.Proofs.Tryz renaming prog→x3
open Go.Result renaming andThen→X3
open Go.Sem renaming run_bind→X2,run_pure→X8
open Go.Sort renaming Holds→T2
open Go.Value renaming int→W5
open Int renaming toNat_natCast→Z3
open List renaming getElem?_eq_getElem→y0,getElem?_eq_some_iff→x4,mem_of_getElem?→x5,getElem?_map→x8,getD_eq_getElem?_getD→u4,length_map→u5,take_add_one→u9,replicate→r9,length_append→o5,length_take→o8,take_length→o9,mem_append→n9,take_of_length_le→l5,mem_singleton→j0,length_cons→j4,mem_map→j5,map_append→b6,eq_nil_of_length_eq_zero→b8,getElem?_take_of_lt→Z6,getElem?_append_left→Z7,getElem?_append_right→Z8,getElem?_eq_none→Z9,mem_iff_getElem?→Y2,getElem?_set→Y5,length_set→Y6,ext_getElem?→Y8,length_eq_one_iff→X1,range→X7,mem_or_eq_of_mem_set→X9,drop_eq_getElem_cons→W0,getElem?_set_ne→W3,getElem?_set_self→W8,flatMap_cons→W9,pairwise_iff_getElem→V3,append_assoc→V7,set_append_right→V8,append_nil→V9,map_set→U3,mem_cons→U5,length_singleton→U8,map_cons→T4,getElem_mem→T6,length→T9
open List.cons renaming inj→T8
open Nat renaming le_refl→o7,zero_le→Y7,mul_le_mul_right→X0,zero_add→W6,le_trans→W7,sub_self→V2,add_mul→V4,beq→U6,mul_one→T1
open Option renaming some→j9,toList_some→Z0,isNone_some→Z1,map_some→Z2,map_eq_some_iff→Y1,map→V0,getD_some→U7
open Option.some renaming inj→b9,injEq→Y3
open Prod.mk renaming injEq→U9
variable {w w':x2}{J N ah gs j m n r:Nat}{cs:List x1}{K:x1→x2→Prop}{a all l scope sizes szs t:List Int}{clean:Bool}{bv cn sv v:x1}{k o x y:Int}{e:r8}{S:Nat→Prop}
namespace Go.Proofs.YtgbkinibgjmodaaGreatDoor
open Go Go.Vc Go.RowKit Go.Proofs Go.Proofs.Tryz
set_option maxRecDepth 100000
theorem yC {U:Nat} (O:cs.length=4) (h1:∀ v∈cs,v.oneCell'=true) (Y:ae w U bK cs) {V:List x1} (aa:V.length=4) (ab:ae w J bK V)
  (ac:∀ w',ad (fun r=>r=J) w w'→K (.agg cs.toArray) w'):
  I x3 (x6 bK (.pointer (some ⟨U,0,none⟩))) w fun af=>
  ax x3 (o3 bK (.pointer (some ⟨J,0,none⟩)) af) w fun(_:Unit) W=>
  I x3 (do loadVar bK (←asAddr (.pointer (some ⟨J,0,none⟩)))) W fun ag=>K ag W:=by
 rw[bw bK.p bK.i O Y.range];refine bN bK.i O aa h1 ab fun w' ah _ ai=>?_;rw[ez bK.p bK.i O ai.range];exact ac w' ah
theorem yD {s s':aC} {l:List (List Int×Int)} (h:dh sizes s=some (l,s')):s'.shared=s.shared∧s'.toks.length≤s.toks.length:=by
 unfold dh at h;cases J:aY (-ao) ao s with
 |none=>rw[J] at h;cases h
 |some q=>
  obtain⟨n,I⟩:=q;rw[J] at h;simp only at h;have h1:=c6 J;obtain⟨Y,aa,O⟩:=h1.eqs;split at h
  ·cases U:I.shared[(-n-1).toNat]? with
   |none=>rw[U] at h;cases h
   |some q=>
    obtain⟨z,l'⟩:=q;rw[U] at h;simp only at h;split at h
    ·simp only[Y3,U9] at h;obtain⟨rfl,rfl⟩:=h;exact⟨O,by have:=h1.1;omega⟩
    ·cases h
  ·have:=iv (f:=dg sizes) (fun acc t=>t.shared=s.shared∧t.toks.length≤s.toks.length) (fun acc t a ab ⟨W,ac⟩ g=>by
    obtain⟨ad,ae,af,V⟩:=mK g;obtain⟨f1,f2,f3⟩:=V.eqs;exact⟨by rw[f3,W],by have:=V.1;omega⟩) n.toNat [] (aV (decide (16384<min (I.told+n) ao)) {I with told:=min (I.told+n) ao}) l s' ⟨O,by have:=h1.1;show I.toks.length≤_;omega⟩ h
   exact this.1
set_option maxHeartbeats 8000000 in
theorem Gw {g:Nat} {A B:ag} {s:aC} {ba:x1} (h:cK w g gs A B s clean) (hi:di s) (cc:aB .i64 w ba all) (bJ:∀ r,leads ba r→¬bj g gs A r∧r<w.heap.size)
  (cP:∀ z∈all,1≤z∧z≤ao) (dO:all.length≤100001) (cQ:ep w) (h1:b3 g gs A B 1):
  af x3 vS [.pointer (some ⟨g,0,none⟩),ba] w fun v w'=>∃ av aJ cs,∃ cd:fX,v= .agg cs.toArray∧cs.length=4∧ad (bj g gs A) w w'∧(∀ r,av r→A r∨w.heap.size≤r)∧(∀ r,aJ r→(B r∨w.heap.size≤r)∧r<w'.heap.size)∧(∀ r,B r→aJ r)∧fC w' g gs av aJ clean ((cF all s).map (·.2))∧
   Seen (b3 g gs av aJ) w' cs cd∧ ∀ q,cF all s=some q→cd=fD q.1:=by
 have cR:=h.1;obtain⟨dP,dQ,bL,cT,aK⟩:=id cR;have ah:∀ r,bj g gs A r→r<w.heap.size:=cT;have dR:ao=4611686018427387904:=rfl;have dS:s.shared.length+s.toks.length≤100000:=h.2.2.1.2.2;refine az func151 ?_;refine bu bK.i fun Y J dT bM bm=>?_;have bm:ae J Y bK [.slice none 0 0,.slice none 0 0,.int .i64 0,.slice none 0 0]:=bm;have dU:=bM.size;have dV:=bm.lt;have aA:¬bj g gs A Y:=fun W=>by have:=ah _ W;omega
 refine (sL (lo:=-ao) (hi:=ao) (h.ext bM)).mono ?_;rintro _ bP _ ⟨aN,a,at_,rfl,ce,cU⟩;obtain⟨bQ,bR⟩:=aN.of;have dW:=bQ.size;rw[aD (v:=.int .i64 a) rfl,aD (v:=.int .i64 at_) rfl,an,kE];have dX: -ao≤a∧a≤ao:=by
  cases ac:aY (-ao) ao s with
  |none=>rw[cU ac];unfold ao;omega
  |some q=>rw[ce q ac];exact (gl (n:=q.1) (s':=q.2) ac).1
 rw[wrap_i64 (by omega) (by omega),pU,show max a (0-a)=((a.natAbs:Nat):Int) by omega];have cg:ad (bj g gs A) w bP:=(bM.O _).trans bQ;have cV:aB .i64 bP ba all:=hW cc cg fun r I a n c al bS=>(bJ r ⟨a,n,c,al,bS⟩).1 I;rw[aL au.u cV];refine (Gt (k:=a.natAbs) (m:=(all.length:Int)) bR (by omega) (by omega)).mono ?_;rintro ay dY _ ⟨aN,bT,scope,bb,cW,dZ,cX⟩;obtain⟨bU,cY⟩:=aN.of;have z3:=bU.size;rw[cH (cs:=#[ay,.slice none 0 0,.int .i64 0,.slice none 0 0]) (by obtain⟨_,_,_,_,_,rfl,_⟩:=bb.ls;kernel_rfl)];refine bu bK.i fun U cZ ea bd bo=>?_;have bo:ae cZ U bK [.slice none 0 0,.slice none 0 0,.int .i64 0,.slice none 0 0]:=bo;have z4:=bd.size;have eb:=bo.lt;have bV:=bb.ls.cells;refine bN (vs:=[ay,.slice none 0 0,.int .i64 0,.slice none 0 0]) bK.i rfl rfl (by intro v al;simp at al;rcases al with rfl|rfl|rfl|rfl <;> first|exact bV.2|rfl) bo fun bp be ec c0=>?_;have aW:¬bj g gs A U:=fun W=>by have:=ah _ W;omega
 have ch:cM bp g gs A B clean ((om all.length a.natAbs ((aY (-ao) ao s).map (·.2))).map (·.2)):=(cY.ext bd).O be (fun r I he=>by have he:r=U:=he;exact aW (he▸I)) (fun r I he=>by have:=aK r I.2;have he:r=U:=he;omega);have ci:ad (bj g gs A) w bp:=fB ((cg.trans bU).trans (bd.O _)) be fun r I he=>by have he:r=U:=he;omega
 have c1:ae bp Y bK [.slice none 0 0,.slice none 0 0,.int .i64 0,.slice none 0 0]:=(((bm.O bQ aA).O bU aA).ext bd).O be (fun he=>by have he:Y=U:=he;omega);have c2:am .i64 ak bp bT ay scope:=a6 (bb.ext bd) be fun r I he=>by
  obtain⟨c4,bR⟩:=bn bb I;have he:r=U:=he;omega
 refine (mT ch).mono ?_;rintro _ bq _ ⟨rfl,aO⟩;have aX:=ch.ext aO;have bf:=c2.ext aO;have bW:=c0.ext aO;have cj:=c1.ext aO;have ed:=aO.size;have z5:=be.size;have aH:∀ r,leads ay r→bP.heap.size≤r∧r≠U∧r≠Y:=fun r I=>by
  obtain⟨c4,bR⟩:=bn bb I;have:=cW r I;exact⟨this,by omega,by omega⟩
 have ax:cF all s=match om all.length a.natAbs ((aY (-ao) ao s).map (·.2)) with
   |none=>none
   |some (sc,ap)=>(hj (sc.map fun v=>all.getD v.toNat 0) ((aU 0 ao (some (aV (decide (6<a.natAbs)||cS (sc.map fun v=>all.getD v.toNat 0)) ap))).map (·.2))).map fun q=>((⟨sc,sc.map fun v=>all.getD v.toNat 0,((aY 0 ao (aV (decide (6<a.natAbs)||cS (sc.map fun v=>all.getD v.toNat 0)) ap)).map (·.1)).getD 0,q.1⟩:bZ),if a<0 then qz (sc.map fun v=>all.getD v.toNat 0) q.1 q.2 else q.2):=by
  unfold cF;cases ac:aY (-ao) ao s with
  |none=>rfl
  |some q=>
   obtain⟨a',aM⟩:=q;have:=ce _ ac;subst this;simp only;show _=match ee all.length a.natAbs aM with
    |none=>none
    |some (sc,ap)=>_
   cases ee all.length a.natAbs aM with
   |none=>rfl
   |some q=>
    obtain⟨sc,ap⟩:=q;simp only;show _=V0 _ (hj _ ((aY 0 ao _).map (·.2)));cases aY 0 ao (aV (decide (6<a.natAbs)||cS (sc.map fun v=>all.getD v.toNat 0)) ap) with
    |none=>rfl
    |some q=>
     obtain⟨o,aj⟩:=q;simp only;show _=V0 _ (dh _ aj);cases dh (sc.map fun v=>all.getD v.toNat 0) aj with
     |none=>rfl
     |some q=>rfl
 rw[bc,br];cases aP:om all.length a.natAbs ((aY (-ao) ao s).map (·.2)) with
 |none=>
  rw[aP] at aX ax;simp only at ax;refine⟨fun _=>?_,fun h=>by simp at h⟩;refine yC rfl (by intro v al;simp at al;rcases al with rfl|rfl|rfl|rfl <;> first|exact bV.2|rfl) bW rfl cj fun aQ aE=>?_;have c5:=aE.size;refine⟨A,fun r=>(B r∨w.heap.size≤r)∧r<aQ.heap.size,_,(scope,[],0,[]),rfl,rfl,fB (ci.trans (aO.O _)) aE fun r I he=>by have he:r=Y:=he;omega,fun r I=>.inl I,fun r I=>I,fun r I=>⟨.inl I,by have:=aK r I;omega⟩,?_,?_,fun q ac=>by rw[ax] at ac;cases ac⟩
  ·rw[ax];have c7:fC aQ g gs A B clean (V0 (fun x=>x.2) (none:Option (List Int×aC))):=aX.q.O aE (fun he=>by have:=ah g (.inl rfl);have he:g=Y:=he;omega) (fun r I _ he=>by have he:r=Y:=he;exact aA (he▸I)) (fun r I he=>by have:=aK r I.2;have he:r=Y:=he;omega);exact c7
  ·refine yA (j7 (a6 bf aE fun r I he=>(aH r I).2.2 he) fun r I=>?_) fQ fQ;have aF:=aH r I;have aZ:=(bn bf I);exact⟨fun W=>by have:=ah _ W;omega,.inr (by omega),by omega⟩
 |some q=>
  obtain⟨sc,ap⟩:=q;have:=cX _ aP;subst this;rw[aP] at aX ax;simp only at ax;refine⟨fun h=>by simp at h,fun _=>?_⟩;have aX:cK bq g gs A B ap clean:=aX;obtain⟨aM,c8,c9⟩:∃ aM,(aY (-ao) ao s).map (·.2)=some aM∧ee all.length a.natAbs aM=some (scope,ap):=by
   cases ac:(aY (-ao) ao s).map (·.2) with
   |none=>rw[ac] at aP;cases aP
   |some aM=>rw[ac] at aP;exact⟨aM,rfl,aP⟩
  obtain⟨ck,da,rfl⟩:=Y1.1 c8;have cl:=c6 (n:=ck.1) (s':=ck.2) da;obtain⟨cm,ef,eg,cn⟩:=sI c9;have bX:=cl.eqs;have bY:=cm.eqs;have db:di ap:=fun aI=>by rw[bY.1,bX.1];rw[bY.2.1,bX.2.1] at aI;exact hi aI
  have dc:ap.shared.length+1+ap.toks.length≤100000:=by rw[bY.2.2,bX.2.2];have:=cl.1;have:=cm.1;omega
  generalize b0:(scope.map fun v=>all.getD v.toNat 0)=sizes at ax;have cp:∀ z∈sizes,1≤z∧z≤ao:=fun z bt=>by
   rw[←b0] at bt;obtain⟨v,al,rfl⟩:=j5.1 bt;have:=cn v al;refine cP _ ?_;rw[u4,y0 (by omega)];exact T6 _
  have eh:sizes.length=scope.length:=by rw[←b0,u5]
  have cq:ad (bj g gs A) w bq:=ci.trans (aO.O _);have dd:aB .i64 bq ba all:=hW cc cq fun r I a n c al bS=>(bJ r ⟨a,n,c,al,bS⟩).1 I;rw[V bK.p rfl,aa (by kernel_rfl) (bW.cell (o:=0+0) rfl),aL au.u bf.ls];refine Gv bW bf.ls (fun r I=>(aH r I).2.1) dd (fun r I=>by have:=(bJ r I).2;omega) cn (by omega) fun aQ aq cr aE ct bw ei=>?_;rw[b0] at bw;have c5:=aE.size;have b1:∀ r,b3 g gs A B r→¬(fun r=>r=U) r:=fun r I he=>by have:=aK r I.2;have he:r=U:=he;omega
  have b2:∀ r,bj g gs A r→¬(fun r=>r=U) r:=fun r I he=>by have he:r=U:=he;exact aW (he▸I)
  have cu:=aX.O aE b2 b1;have de:ad (bj g gs A) w aQ:=fB cq aE fun r I he=>by have he:r=U:=he;omega
  refine c3 (fun bx=>ad (bj g gs A) aQ bx∧cK bx g gs A B (aV (decide (6<a.natAbs)||cS sizes) ap) clean) ?_ ?_
  rotate_left
  ·intro df bg;rw[bA,ab];refine⟨fun ej=>?_,fun ek=>?_⟩
   ·refine (qj cu).mono ?_;rintro _ dg _ ⟨dj,dk⟩;refine bg _ ⟨dj.mono fun r _ h=>.inl h,?_⟩;rw[decide_eq_true (by omega),Bool.true_or];exact dk
   ·rw[V bK.p rfl,aa (by kernel_rfl) (ct.cell (o:=0+1) rfl)];refine (xI bw.ls fun z bt=>(cp z bt).1).mono ?_;rintro _ dg _ ⟨rfl,cw⟩;refine (qj (cu.ext cw)).mono ?_;rintro _ em _ ⟨dl,dm⟩;refine bg _ ⟨(cw.O _).trans (dl.mono fun r _ h=>.inl h),?_⟩;rw[decide_eq_false (by omega),Bool.false_or];exact dm
  rintro bx ⟨bz,bB⟩;have en:=bz.size;generalize bL:aV (decide (6<a.natAbs)||cS sizes) ap=aj at ax bB;have dn:di aj:=fun aI=>by
   subst bL;have aI:(ap.big||_)=false:=aI;exact db (T3.1 aI).1
  have eo:aj.shared.length+1+aj.toks.length≤100000:=by subst bL;exact dc
  have bB:cM bx g gs A B clean (some aj):=bB;refine (j2 (lo:=0) (hi:=ao) bB).mono ?_;rintro _ cz _ ⟨aN,o,dp,rfl,dq,er⟩;obtain⟨bC,dr⟩:=aN.of;have es:=bC.size;rw[aD (v:=.int .i64 o) rfl,aD (v:=.int .i64 dp) rfl,V bK.p rfl];have ds:=(ct.O bz aW).O bC aW;refine bl (g:=U) (o:=2) ak.i rfl rfl ds (by simp) fun bD a1 et bE=>?_;have bE:ae bD U bK [ay,aq,.int .i64 o,.slice none 0 0]:=bE;rw[V bK.p rfl,aa (by kernel_rfl) (bE.cell (o:=0+1) rfl)];have dt:=dr.O a1 b2 b1;have b4:ad (bj g gs A) aQ cz:=bz.trans bC;have du:ad (bj g gs A) w cz:=de.trans b4;have cA:ad (bj g gs A) w bD:=fB du a1 fun r I he=>by have he:r=U:=he;omega
  have aR:∀ r,leads aq r→bq.heap.size≤r∧r<aQ.heap.size:=fun r I=>by have:=bn bw I;omega
  have cB:am .i64 ak bD cr aq sizes:=a6 (a6 bw b4 fun r I W=>by have:=ah _ W;have:=aR r I;omega) a1 fun r I he=>by have he:r=U:=he;have:=aR r I;omega
  have dv:am .i64 ak bD bT ay scope:=a6 (a6 (a6 bf aE fun r I he=>(aH r I).2.1 he) b4 fun r I W=>by have:=ah _ W;have:=aH r I;omega) a1 fun r I he=>(aH r I).2.1 he;have eu:=a1.size;refine (Gs dt (fun t b5=>?_) cB.ls (fun r I=>⟨fun W=>by have:=ah _ W;have:=aR r I;omega,by have:=aR r I;omega⟩) cp (by omega) (cQ.O cA h1.1) h1).mono ?_
  ·obtain⟨q,ac,rfl⟩:=Y1.1 b5;have cC:=(c6 (n:=q.1) (s':=q.2) ac).eqs;intro aI;rw[cC.1];rw[cC.2.1] at aI;exact dn aI
  rintro bI dw _ ⟨aN,l,b6,cD⟩;obtain⟨a2,dx⟩:=aN.of;have ev:=a2.size;have b7:bI.cells= #[bI]∧bI.oneCell'=true:=⟨nM b6,iZ b6⟩;rw[V bK.p rfl];have dy:=bE.O a2 aW;refine bl (g:=U) (o:=3) gZ.i b7.1 b7.2 dy (by simp) fun aw aS ew bF=>?_;have bF:ae aw U bK [ay,aq,.int .i64 o,bI]:=bF;have ey:=aS.size;have cE:=dx.O aS b2 b1;have dz:ad (bj g gs A) w dw:=cA.trans a2;have dA:ad (bj g gs A) w aw:=fB dz aS fun r I he=>by have he:r=U:=he;omega
  have cG:am .i64 ak aw bT ay scope:=a6 (a6 dv a2 fun r I W=>by have:=ah _ W;have:=aH r I;omega) aS fun r I he=>(aH r I).2.1 he;have bG:am .i64 ak aw cr aq sizes:=a6 (a6 cB a2 fun r I W=>by have:=ah _ W;have:=aR r I;omega) aS fun r I he=>by have he:r=U:=he;have:=aR r I;omega
  have dC:ae aw Y bK [.slice none 0 0,.slice none 0 0,.int .i64 0,.slice none 0 0]:=((((((cj.O aE (fun he=>by have he:Y=U:=he;omega)).O bz aA).O bC aA).O a1 (fun he=>by have he:Y=U:=he;omega)).O a2 aA).O aS (fun he=>by have he:Y=U:=he;omega));let aG:ag:=fun r=>(B r∨w.heap.size≤r)∧r<aw.heap.size;have cI:ai.rep (α:=List (List Int×Int)) false bh (fun r=>b3 g gs A aG r∧r≠U∧r≠Y) aw [bI] l:=by
   refine yB (ai.O b6 aS fun r I h he=>?_) fun r I h=>?_
   ·have he:r=U:=he;rcases h with h|h
    ·exact h
    ·rcases h with h|h
     ·have:=aK r h.2;omega
     ·omega
   ·rcases h with h|h
    ·have:=aK r h.2;exact⟨⟨h.1,.inl h.2,I⟩,by omega,by omega⟩
    ·exact⟨⟨fun W=>by have:=ah _ W;omega,.inr (by omega),I⟩,by omega,by omega⟩
  have dD:∀ r,leads ay r→b3 g gs A aG r∧r≠U∧r≠Y:=fun r I=>by
   have aF:=aH r I;have aZ:=(bn cG I);exact⟨⟨fun W=>by have:=ah _ W;omega,.inr (by omega),by omega⟩,aF.2⟩
  have cJ:∀ r,leads aq r→b3 g gs A aG r∧r≠U∧r≠Y:=fun r I=>by
   have aF:=aR r I;have aZ:=(bn bG I);exact⟨⟨fun W=>by have:=ah _ W;omega,.inr (by omega),by omega⟩,by omega,by omega⟩
  have dE:Seen (fun r=>b3 g gs A aG r∧r≠U∧r≠Y) aw [ay,aq,.int .i64 o,bI] ((scope,sizes,o,l):fX):=yA (j7 cG dD) (j7 bG cJ) cI;have dF:∀ q,cF all s=some q→((scope,sizes,o,l):fX)=fD q.1:=fun q ac=>by
   rw[ax] at ac;obtain⟨ez,b8,rfl⟩:=Y1.1 ac;have aF:=cD _ b8;cases a7:aY 0 ao aj with
   |none=>have e:aU 0 ao (some aj)=none:=a7;rw[e] at b8;cases b8
   |some aT=>
    have aZ:=dq aT a7;rw[aF,aZ];rfl
  have dG:∀ v∈[ay,aq,W5 .i64 o,bI],v.oneCell'=true:=by
   intro v al;simp at al;rcases al with rfl|rfl|rfl|rfl
   ·exact bV.2
   ·exact bG.ls.cells.2
   ·rfl
   ·exact b7.2
  have cL:∀ r,b3 g gs A B r→b3 g gs A aG r∧r≠U∧r≠Y:=fun r I=>by
   have:=aK r I.2;exact⟨⟨I.1,.inl I.2,by omega⟩,by omega,by omega⟩
  refine c3 (fun b9=>∃ av,ad (bj g gs A) aw b9∧(∀ r,av r→A r∨aw.heap.size≤r)∧ ∃ aJ,jj b9 g gs av aJ (fun r=>b3 g gs A aG r∧r≠U∧r≠Y) clean ((cF all s).map (·.2))) ?_ ?_
  ·rintro b9 ⟨av,bi,bk,aJ,dH⟩;have eA:=bi.size;refine yC rfl dG (bF.O bi aW) rfl (dC.O bi aA) fun ca bH=>?_;have eB:=bH.size;have cN:∀ r,bj g gs av r→¬(fun r=>r=Y) r:=fun r I he=>by
    have he:r=Y:=he;subst he;rcases I with I|I|I
    ·exact aA (.inl I)
    ·exact aA (.inr (.inl I))
    ·rcases bk _ I with I|I
     ·exact aA (.inr (.inr I))
     ·omega
   have cO:∀ r,(b3 g gs A aG r∧r≠U∧r≠Y)→b3 g gs av (fun r=>(B r∨w.heap.size≤r)∧r<ca.heap.size∧(r<aw.heap.size∨B r)) r:=fun r h=>⟨fun W=>h.1.1 (W.imp id (Or.imp id fun W=>(bk r W).elim id fun h'=>by have:=h.1.2.2;omega)),h.1.2.1,by have:=h.1.2.2;omega,.inl h.1.2.2⟩;have dI:jj ca g gs av aJ (fun r=>b3 g gs A aG r∧r≠U∧r≠Y) clean ((cF all s).map (·.2)):=dH.O bH (cN g (.inl rfl)) (fun r I _=>cN r I) (fun r I=>I.2.2);refine⟨av,fun r=>(B r∨w.heap.size≤r)∧r<ca.heap.size∧(r<aw.heap.size∨B r),_,(scope,sizes,o,l),rfl,rfl,fB (dA.trans bi) bH fun r I he=>by have he:r=Y:=he;omega,fun r I=>(bk r I).imp id fun h=>by omega,fun r I=>⟨I.1,I.2.1⟩,fun r I=>⟨.inl I,by have:=aK r I;omega,.inr I⟩,dI.out cO fun r I=>I.2.1,?_,dF⟩;refine yB (ai.O (ai.O dE bi fun r _ h W=>?_) bH fun r _ h he=>?_) fun r _ h=>cO r h
   ·rcases h with h|h
    ·exact h
    ·exact h.1.1 W
   ·rcases h with h|h
    ·exact h
    ·exact h.2.2 he
  ·intro df bg;rw[ab];refine⟨fun dJ=>?_,fun dK=>?_⟩
   ·intro cb a8 _ _;have eC:=a8.size;have dL:∀ r,(b3 g gs A aG r∧r≠U∧r≠Y)→b3 g gs A (mU cb.heap.size) r:=fun r h=>⟨h.1.1,by have:=h.1.2.2;show r<cb.heap.size;omega⟩;refine Gu (R:=fun r=>b3 g gs A aG r∧r≠U∧r≠Y) (z:=sizes) (l:=l) (cE.ext a8) cL dL (fun t b5=>?_) (bF.ext a8) (j7 (bG.ext a8) cJ) (bO cI a8) fun eD av dM bk dN=>?_
    ·obtain⟨q,ac,rfl⟩:=Y1.1 b5;cases a7:aY 0 ao aj with
     |none=>have e:aU 0 ao (some aj)=none:=a7;rw[e] at ac;cases ac
     |some aT=>
      have e:aU 0 ao (some aj)=some aT:=a7;rw[e] at ac;have h1:q.2.shared=aT.2.shared∧q.2.toks.length≤aT.2.toks.length:=yD (l:=q.1) (s':=q.2) ac;have aF:=c6 (n:=aT.1) (s':=aT.2) a7;have aZ:=aF.eqs.2.2;have eE:=aF.1;rw[h1.1,aZ];have:=h1.2;omega
    ·refine bg _ ⟨av,(a8.O _).trans dM,fun r I=>(bk r I).imp id fun h=>by omega,mU cb.heap.size,?_⟩;have e:(cF all s).map (·.2)=((hj sizes ((aU 0 ao (some aj)).map (·.2))).map (·.2)).map (qz sizes l):=by
      rw[ax];cases ac:hj sizes ((aU 0 ao (some aj)).map (·.2)) with
      |none=>rfl
      |some q=>
       have aF:=cD _ ac;simp only[Z2,if_pos dJ,aF]
     rw[e];exact dN
   ·refine bg _ ⟨A,ad.refl _ _,fun r I=>.inl I,B,?_⟩;have e:(cF all s).map (·.2)=(hj sizes ((aU 0 ao (some aj)).map (·.2))).map (·.2):=by
     rw[ax];cases ac:hj sizes ((aU 0 ao (some aj)).map (·.2)) with
     |none=>rfl
     |some q=>simp only[Z2,if_neg dK]
    rw[e];exact cE.qr cL
def iA (l:List Int):Prop:=∀ v∈l,0≤v∧v<64
theorem oo (h:iA l) {v:Int}:v∈a7 l↔v∈l:=by
 unfold a7;rw[List.mem_filter,decide_eq_true_eq];refine⟨fun h=>h.2,fun I=>⟨?_,I⟩⟩;obtain⟨h1,J⟩:=h v I;exact j5.2 ⟨v.toNat,List.mem_range.2 (by omega),by omega⟩
theorem Gx (l:List Int):iA (a7 l):=fun v I=>by
 obtain⟨n,J,rfl⟩:=j5.1 (List.mem_filter.1 I).1;have:=List.mem_range.1 J;omega
theorem s7 (l:List Int):(a7 l).Pairwise (·< ·):=by
 unfold a7;refine List.Pairwise.filter _ ?_;rw[List.pairwise_map];exact List.pairwise_lt_range.imp fun h=>by omega
theorem yE (l:List Int):(a7 l).Nodup:=(s7 l).imp fun h=>by omega
where
 nodup_le' {a b:List Int} (h:a.Nodup) (hs:∀ x∈a,x∈b):a.length≤b.length:=by
  induction a generalizing b with
  |nil=>exact Y7 _
  |cons x a ih=>
   have h':=List.nodup_cons.1 h;have hx:=hs x (.head _);have:=ih (b:=b.erase x) h'.2 fun y hy=>(List.mem_erase_of_ne (fun(he:y=x)=>h'.1 (by rw[←he];exact hy))).2 (hs y (.tail _ hy));rw[List.length_erase_of_mem hx] at this;have:=List.length_pos_of_mem hx;rw[j4];omega
theorem yF (n:Nat):(0:Int)<64 ^ n:=Int.pow_pos (by omega)
theorem qA:∀ (l:List Int),iA l→0≤hJ l∧hJ l<64 ^ l.length
 |[],_=>by simp[hJ]
 |x::l,h=>by
  have O:=qA l fun y I=>h y (.tail _ I);have J:=h x (.head _);have U:=yF l.length;simp only[hJ,j4];have e:(64:Int) ^ (l.length+1)=64*64 ^ l.length:=by rw[Int.pow_succ,Int.mul_comm]
  have h1:x*64 ^ l.length≤63*64 ^ l.length:=Int.mul_le_mul_of_nonneg_right (by omega) (by omega);have V:0≤x*64 ^ l.length:=Int.mul_nonneg J.1 (by omega);rw[e];omega
def e4:List Int→List Int→Int
 |x::a,y::b=>if x<y then-1 else if y<x then 1 else e4 a b
 |[],[]=>0
 |[],_::_=>-1
 |_::_,[]=>1
theorem yG:∀ (a b:List Int),a.length=b.length→iA a→iA b→(e4 a b<0↔hJ a<hJ b)∧(e4 a b=0↔a=b)∧(hJ a=hJ b→a=b)
 |[],[],_,_,_=>by simp[e4]
 |[],_::_,h,_,_=>by simp at h
 |_::_,[],h,_,_=>by simp at h
 |x::a,y::b,h,Y,aa=>by
  have U:a.length=b.length:=by simpa using h
  have V:iA a:=fun z I=>Y z (.tail _ I);have W:iA b:=fun z I=>aa z (.tail _ I);have J:=yG a b U V W;have ab:=qA a V;have ad:=qA b W;have ae:=yF b.length;simp only[e4,hJ];rw[U] at ab ⊢;have step:∀ u v:Int,u<v→u*64 ^ b.length+64 ^ b.length≤v*64 ^ b.length:=fun u v af=>by
   have:=Int.mul_le_mul_of_nonneg_right (show u+1≤v by omega) (show (0:Int)≤64 ^ b.length by omega);rw[Int.add_mul,Int.one_mul] at this;exact this
  by_cases h1:x<y
  ·rw[if_pos h1];have:=step x y h1;exact⟨⟨fun _=>by omega,fun _=>by omega⟩,⟨fun h=>by omega,fun h=>by have:=(T8 h).1;omega⟩,fun h=>by omega⟩
  ·rw[if_neg h1];by_cases O:y<x
   ·rw[if_pos O];have:=step y x O;exact⟨⟨fun h=>by omega,fun h=>by omega⟩,⟨fun h=>by omega,fun h=>by have:=(T8 h).1;omega⟩,fun h=>by omega⟩
   ·rw[if_neg O];have ac:x=y:=by omega
    subst ac;exact⟨J.1.trans ⟨fun h=>by omega,fun h=>by omega⟩,J.2.1.trans ⟨fun h=>by rw[h],fun h=>(T8 h).2⟩,fun h=>by rw[J.2.2 (by omega)]⟩
def hK (l:List Int):Prop:=iA l∧l.length≤6
theorem yH (h:hK l):0≤hJ l∧hJ l<64 ^ 6:=by
 have:=qA l h.1;have J:(64:Int) ^ l.length≤64 ^ 6:=by
  have I:=h.2
  match l.length,I with
  |0,_=>decide
  |1,_=>decide
  |2,_=>decide
  |3,_=>decide
  |4,_=>decide
  |5,_=>decide
  |6,_=>decide
  |n+7,h=>omega
 omega
theorem s8 {b:List Int} (J:hK a) (O:hK b):(cG a<cG b↔a.length<b.length∨(a.length=b.length∧e4 a b<0))∧(cG a=cG b→a=b):=by
 have h1:=yH J;have U:=yH O;have e:(64:Int) ^ 6=68719476736:=by decide
 rw[e] at h1 U;unfold cG;rw[e];by_cases I:a.length=b.length
 ·have:=yG a b I J.1 O.1;rw[I];exact⟨⟨fun h=>.inr ⟨rfl,this.1.2 (by omega)⟩,fun h=>by
   rcases h with h|⟨_,h⟩
   ·omega
   ·have:=this.1.1 h;omega⟩,fun h=>this.2.2 (by omega)⟩
 ·exact⟨⟨fun h=>.inl (by omega),fun h=>by
   rcases h with h|⟨h,_⟩
   ·omega
   ·exact absurd h I⟩,fun h=>by omega⟩
theorem qB (g:ca):∀ l:List ca,(fV g l).Perm (g::l)
 |[]=>List.Perm.refl _
 |h::l=>by
  unfold fV;split
  ·exact ((qB g l).cons h).trans (List.Perm.swap g h l)
  ·exact List.Perm.refl _
theorem yI {g:ca}:∀ {l:List ca},l.Pairwise (fun a b=>cG a.1<cG b.1)→(∀ h∈l,cG h.1≠cG g.1)→(fV g l).Pairwise (fun a b=>cG a.1<cG b.1)
 |[],_,_=>by simp[fV]
 |h::l,O,U=>by
  have J:=List.pairwise_cons.1 O;unfold fV;split
  ·rename_i V;refine List.pairwise_cons.2 ⟨fun x I=>?_,yI J.2 fun x I=>U x (.tail _ I)⟩;rcases U5.1 ((qB g l).mem_iff.1 I) with rfl|I
   ·exact V
   ·exact J.1 x I
  ·rename_i W;have:=U h (.head _);refine List.pairwise_cons.2 ⟨fun x I=>?_,O⟩;rcases U5.1 I with rfl|I
   ·omega
   ·have:=J.1 x I;omega
theorem yJ:∀ (l acc:List ca),acc.Pairwise (fun a b=>cG a.1<cG b.1)→l.Pairwise (fun a b=>cG a.1≠cG b.1)→(∀ a∈acc,∀ b∈l,cG a.1≠cG b.1)→
  (l.foldl (fun l g=>fV g l) acc).Pairwise (fun a b=>cG a.1<cG b.1)∧(l.foldl (fun l g=>fV g l) acc).Perm (acc++l)
 |[],acc,h,_,_=>⟨h,by simp⟩
 |g::l,acc,h,V,J=>by
  have O:=List.pairwise_cons.1 V;have:=yJ l (fV g acc) (yI h fun a I=>J a I g (.head _)) O.2 fun a I b U=>by
   rcases U5.1 ((qB g acc).mem_iff.1 I) with rfl|I
   ·exact O.1 b U
   ·exact J a I b (.tail _ U)
  refine⟨this.1,this.2.trans ?_⟩;exact ((qB g acc).append_right l).trans (List.perm_middle (a:=g) (l₁:=acc) (l₂:=l)).symm
theorem s9 {α:Type} {f:α→Int}:∀ {L M:List α},L.Pairwise (fun a b=>f a<f b)→M.Pairwise (fun a b=>f a<f b)→(∀ x,x∈L↔x∈M)→L=M
 |[],M,_,_,h=>by
  cases M with
  |nil=>rfl
  |cons y M=>exact absurd ((h y).2 (.head _)) (by simp)
 |x::L,[],_,_,h=>absurd ((h x).1 (.head _)) (by simp)
 |x::L,y::M,h1,U,h=>by
  have J:=List.pairwise_cons.1 h1;have O:=List.pairwise_cons.1 U;have V:x=y:=by
   rcases U5.1 ((h x).1 (.head _)) with he|hm
   ·exact he
   ·rcases U5.1 ((h y).2 (.head _)) with he|W
    ·exact he.symm
    ·have a:=O.1 x hm;have b:=J.1 y W;omega
  subst V;rw[s9 J.2 O.2 fun z=>⟨fun I=>?_,fun I=>?_⟩]
  ·rcases U5.1 ((h z).1 (.tail _ I)) with he|hm
   ·subst he;have:=J.1 z I;omega
   ·exact hm
  ·rcases U5.1 ((h z).2 (.tail _ I)) with he|hm
   ·subst he;have:=O.1 z I;omega
   ·exact hm
structure eE (sizes:List Int) (k:Int) (g:ca):Prop where
 scope:hK g.1
 up:g.1.Pairwise (·< ·)
 vars:∀ v∈g.1,v<sizes.length
 len:g.2.length=(aE (bd sizes g.1)).toNat
 small:aE (bd sizes g.1)≤4096
 hl:∀ c∈g.2,0≤c∧c≤k
theorem mV {sc:List Int} (J:∀ z∈sizes,1≤z∧z≤32) (O:∀ v∈sc,0≤v∧v<sizes.length):∀ z∈bd sizes sc,1≤z∧z≤32:=fun z h=>by
 obtain⟨v,U,rfl⟩:=j5.1 h;obtain⟨h1,V⟩:=O v U;have I:v.toNat<sizes.length:=by omega
 rw[u4,y0 I];exact J _ (T6 I)
theorem Gy {b:List Int} (h:a.Perm b):aE a=aE b:=by
 induction h with
 |nil=>rfl
 |cons x _ I=>simp only[aE,I]
 |swap x y l=>simp only[aE];rw[←Int.mul_assoc,←Int.mul_assoc,Int.mul_comm y x]
 |trans _ _ h1 J=>exact h1.trans J
theorem Gz {b:List Int} (h:a.length=b.length):(dl k a b).length=b.length:=by simp[dl,h]
theorem GA {b:List Int} (V:0≤k) (J:∀ c∈a,0≤c∧c≤k) (O:∀ c∈b,0≤c∧c≤k):∀ c∈dl k a b,0≤c∧c≤k:=by
 induction a generalizing b with
 |nil=>intro c I;simp[dl] at I
 |cons x a U=>
  cases b with
  |nil=>intro c I;simp[dl] at I
  |cons y b=>
   intro c I;have W:=J x (.head _);have Y:=O y (.head _);rcases U5.1 (show c∈min (x+y) k::dl k a b from I) with rfl|I
   ·omega
   ·exact U (fun c h=>J c (.tail _ h)) (fun c h=>O c (.tail _ h)) c I
def hn (l:List ca):Prop:=(l.map (·.1)).Nodup
theorem GB {acc:List ca} {g:ca} (Y:0≤k) (U:∀ h∈acc,eE sizes k h) (V:hn acc) (J:eE sizes k g):(∀ h∈gJ k acc g,eE sizes k h)∧hn (gJ k acc g)∧(gJ k acc g).length≤acc.length+1:=by
 unfold gJ;split
 ·refine⟨fun h I=>?_,?_,by simp⟩
  ·obtain⟨O,hm,rfl⟩:=j5.1 I;have h1:=U O hm;split
   ·rename_i he;have aa:O.2.length=g.2.length:=by rw[h1.len,J.len,he]
    exact⟨h1.scope,h1.up,h1.vars,by show (dl k O.2 g.2).length=_;rw[Gz aa,J.len,he],h1.small,GA Y h1.hl J.hl⟩
   ·exact h1
  ·unfold hn;rw[List.map_map];have e:((fun x:ca=>x.1)∘fun h:ca=>if h.1=g.1 then (h.1,dl k h.2 g.2) else h)=fun x:ca=>x.1:=by
    funext h;simp only[Function.comp];split <;> rfl
   rw[e];exact V
 ·rename_i ab;refine⟨fun h I=>?_,?_,by simp⟩
  ·rcases n9.1 I with I|I
   ·exact U h I
   ·rw[j0.1 I];exact J
  ·unfold hn;rw[b6];exact List.nodup_append.2 ⟨V,by simp,fun x ac y W he=>by
    simp only[T4,List.map_nil,j0] at W;subst W;subst he;exact ab ac⟩
theorem ta {sizes:List Int} {k:Int} (O:0≤k):∀ {l acc:List ca},(∀ h∈acc,eE sizes k h)→hn acc→(∀ g∈l,eE sizes k g)→(∀ h∈l.foldl (gJ k) acc,eE sizes k h)∧hn (l.foldl (gJ k) acc)∧(l.foldl (gJ k) acc).length≤acc.length+l.length
 |[],acc,I,J,_=>⟨I,J,by simp⟩
 |g::l,acc,I,J,U=>by
  obtain⟨h1,V,ab⟩:=GB O I J (U g (.head _));obtain⟨W,Y,ac⟩:=ta O h1 V fun x aa=>U x (.tail _ aa);exact⟨W,Y,by simp only[List.foldl_cons,j4];omega⟩
theorem yK {α:Type} [DecidableEq α]:∀ {a b:List α},a.Nodup→b.Nodup→(∀ x,x∈a↔x∈b)→a.Perm b
 |[],b,_,_,h=>by
  cases b with
  |nil=>exact .refl _
  |cons y b=>exact absurd ((h y).2 (.head _)) (by simp)
 |x::a,b,U,J,h=>by
  have V:=(h x).1 (.head _);have O:=List.nodup_cons.1 U;refine .trans ?_ (List.perm_cons_erase V).symm;refine .cons x (yK O.2 (J.erase x) fun y=>?_);rw[J.mem_erase_iff];refine⟨fun I=>⟨fun he=>O.1 (he▸I),(h y).1 (.tail _ I)⟩,fun⟨W,I⟩=>?_⟩;rcases U5.1 ((h y).2 I) with he|hm
  ·exact absurd he W
  ·exact hm
theorem qC (h:iA l) (I:l.Nodup):(a7 l).Perm l:=yK (yE l) I fun _=>oo h
theorem tb:∀ {l:List Int},(∀ z∈l,1≤z∧z≤32)→l.map (fun z=>min z 4097)=l
 |[],_=>rfl
 |z::l,h=>by
  have J:=h z (.head _);rw[T4,tb fun x I=>h x (.tail _ I)];congr 1;omega
theorem GC {x:bZ} (O:0≤k) (U:0≤x.other) (I:∀ p∈x.lines,0≤p.2):0≤hX x k t∧hX x k t≤k:=by
 unfold hX;cases J:x.lines.find? (fun p=>decide (p.1=t)) with
 |none=>simp only;omega
 |some p=>have:=I p (List.mem_of_find?_eq_some J);simp only;omega
theorem qD {x:bZ} (h:qf all N x) (J:all.length≤64):iA x.scope:=fun v I=>by
 have:=h.scope.2 v I;omega
theorem mW {f:bP} {x:bZ} (I:eo N f) (Y:x∈f.funs):eE f.sizes f.k (gm f.sizes f.k x):=by
 obtain⟨h1,aa,O⟩:=I.funs x Y;have ab:=I.sizes.2.1;have U:=qD h1 ab;have J:=qC U h1.scope.1;have V:∀ v∈a7 x.scope,0≤v∧v<f.sizes.length:=fun v hm=>h1.scope.2 v ((oo U).1 hm);have ac:=mV I.sizes.2.2 V;have ad:aE (bd f.sizes (a7 x.scope))=aE x.sizes:=by rw[h1.sizes];exact Gy (J.map _)
 refine⟨⟨Gx _,?_⟩,s7 _,fun v hm=>(V v hm).2,?_,?_,fun c ae=>?_⟩
 ·show (a7 x.scope).length≤6;rw[J.length_eq];exact aa
 ·show ((bm _).map _).length=_;rw[u5,hV ac];rfl
 ·show aE (bd f.sizes (a7 x.scope))≤4096;have af:∀ z∈x.sizes,1≤z∧z≤32:=fun z W=>by
   rw[h1.sizes] at W;exact mV I.sizes.2.2 (fun v hm=>h1.scope.2 v hm) z W
  unfold cS at O;rw[tb af,decide_eq_false_iff_not] at O;rw[ad];omega
 ·obtain⟨t,_,rfl⟩:=j5.1 ae;exact GC (by have:=I.k.1;omega) h1.other fun p J=>(h1.lines.2 p J).2
theorem jk {f:bP} (I:eo N f):(∀ g∈eB f,eE f.sizes f.k g)∧hn (eB f)∧(eB f).length≤f.funs.length:=by
 have:=ta (sizes:=f.sizes) (k:=f.k) (by have:=I.k.1;omega) (l:=f.funs.map (gm f.sizes f.k)) (acc:=[]) (fun h O=>by cases O) List.nodup_nil fun g U=>by
  obtain⟨x,V,rfl⟩:=j5.1 U;exact mW I V
 refine⟨this.1,this.2.1,?_⟩;have J:=this.2.2;rw[List.length_nil,u5,W6] at J;exact J
theorem yL {l:List ca} (I:∀ g∈l,eE sizes k g) (J:hn l):l.Pairwise fun a b=>cG a.1≠cG b.1:=by
 have h1:l.Pairwise fun a b=>a.1≠b.1:=by
  unfold hn List.Nodup at J;rwa [List.pairwise_map] at J
 exact h1.imp_of_mem fun {a b} O U V he=>V ((s8 (I a O).scope (I b U).scope).2 he)
theorem oq {f:bP} (J:eo N f):(eP f).Pairwise (fun a b=>cG a.1<cG b.1)∧(eP f).Perm ((eB f).filter eO):=by
 obtain⟨h1,O,_⟩:=jk J;have U:∀ g∈(eB f).filter eO,eE f.sizes f.k g:=fun g V=>h1 g (List.mem_filter.1 V).1;have W:hn ((eB f).filter eO):=(List.Sublist.map _ List.filter_sublist).nodup O;have:=yJ ((eB f).filter eO) [] List.Pairwise.nil (yL U W) fun a Y=>by cases Y
 refine⟨this.1,?_⟩;have I:=this.2;rw[List.nil_append] at I;exact I
theorem qE {f:bP} (I:eo N f):∀ g∈eP f,eE f.sizes f.k g:=fun g J=>(jk I).1 g (List.mem_filter.1 ((oq I).2.mem_iff.1 J)).1
theorem GD {f:bP} (I:eo N f) {M:List ca} (J:M.Perm ((eB f).filter eO)) (U:M.Pairwise fun a b=>cG a.1≤cG b.1):M=eP f:=by
 obtain⟨h1,O⟩:=oq I;have V:hn ((eB f).filter eO):=(List.Sublist.map _ List.filter_sublist).nodup (jk I).2.1;have W:hn M:=(J.map (fun g:ca=>g.1)).nodup_iff.2 V;have Y:∀ g∈M,eE f.sizes f.k g:=fun g aa=>(jk I).1 g (List.mem_filter.1 (J.mem_iff.1 aa)).1;have ab:=yL Y W;refine s9 (f:=fun g:ca=>cG g.1) ?_ h1 fun x=>by rw[J.mem_iff,O.mem_iff]
 exact U.imp₂ (fun a b h1 O=>Int.lt_iff_le_and_ne.2 ⟨h1,O⟩) ab
structure h3 (n:aS):Prop where
 k:1≤n.k∧n.k≤2147483648
 sizes:1≤n.sizes.length∧n.sizes.length≤64∧ ∀ z∈n.sizes,1≤z∧z≤32
 zero:0≤n.zero∧n.zero≤n.k
 iB:n.unary.length=n.sizes.length
 unary:∀ (i:Nat) (z:Int) (u:List Int),n.sizes[i]? =some z→n.unary[i]? =some u→u.length=z.toNat∧ ∀ c∈u,0≤c∧c≤n.k
 funs:∀ g∈n.funs,eE n.sizes n.k g∧2≤g.1.length
theorem GF (z:Int):aE [z]=z:=by simp[aE]
theorem qF:∀ {l:List ca} {n:aS},h3 n→(∀ g∈l,eE n.sizes n.k g)→h3 (l.foldl (fun n g=>match g.1 with
 |[]=>{n with zero:=g.2.getD 0 0}
 |[v]=>{n with unary:=n.unary.set v.toNat g.2}
 |_=>{n with funs:=n.funs++[g]}) n)∧(l.foldl (fun n g=>match g.1 with
 |[]=>{n with zero:=g.2.getD 0 0}
 |[v]=>{n with unary:=n.unary.set v.toNat g.2}
 |_=>{n with funs:=n.funs++[g]}) n).sizes=n.sizes
 |[],n,h,_=>⟨h,rfl⟩
 |g::l,n,h,U=>by
  have I:=U g (.head _);have O:∀ x∈l,eE n.sizes n.k x:=fun x J=>U x (.tail _ J);rw[List.foldl_cons];obtain⟨sc,cs⟩:=g
  match sc,I with
  |[],I=>
   have W:=I.len;refine qF (n:={n with zero:=cs.getD 0 0}) ⟨h.k,h.sizes,?_,h.iB,h.unary,h.funs⟩ O;have h1:cs.length=1:=by simpa[bd,aE] using W
   have Y:cs[0]? =some (cs.getD 0 0):=by rw[u4,y0 (by omega)];rfl
   exact I.hl _ (x5 Y)
  |[v],I=>
   have ab:=I.scope.1 v (.head _);have ac:=I.vars v (.head _);refine qF (n:={n with unary:=n.unary.set v.toNat cs}) ⟨h.k,h.sizes,h.zero,by show (n.unary.set _ _).length=_;rw[Y6];exact h.iB,fun i z u V hu=>?_,h.funs⟩ O;by_cases hi:v.toNat=i
   ·subst hi;have ad:=h.iB;rw[W8 (by omega)] at hu;cases hu;have aa:bd n.sizes [v]=[z]:=by
     simp only[bd,T4,List.map_nil];rw[u4,V];rfl
    refine⟨?_,I.hl⟩;have:=I.len;rw[aa,GF] at this;exact this
   ·rw[W3 hi] at hu;exact h.unary i z u V hu
  |a::b::r,I=>
   refine qF (n:={n with funs:=n.funs++[(a::b::r,cs)]}) ⟨h.k,h.sizes,h.zero,h.iB,h.unary,fun x J=>?_⟩ O;rcases n9.1 J with J|J
   ·exact h.funs x J
   ·rw[j0.1 J];exact⟨I,by simp⟩
theorem yM {f:bP} (I:eo N f):h3 (cR f)∧(cR f).sizes=f.sizes:=by
 unfold cR;have O:=I.sizes;refine qF (n:=⟨f.k,f.sizes,0,f.sizes.map fun z=>r9 z.toNat 0,[]⟩) ⟨I.k,O,⟨by show (0:Int)≤0;omega,by show (0:Int)≤f.k;have:=I.k.1;omega⟩,by simp,fun i z u h1 J=>?_,fun g U=>by cases U⟩ (qE I);have J:(f.sizes.map fun z=>r9 z.toNat (0:Int))[i]? =some u:=J;have h1:f.sizes[i]? =some z:=h1;rw[x8,h1] at J;cases J;refine⟨by simp,fun c V=>?_⟩;rw[(List.mem_replicate.1 V).2];have:=I.k.1;exact⟨Int.le_refl _,by show (0:Int)≤f.k;omega⟩
def jl (x:bZ) (k:Int) (i:Nat) (t:List Int):Int:=match (x.lines.take i).find? (fun p=>decide (p.1=t)) with
 |some p=>min p.2 k
 |none=>min x.other k
theorem yN (x:bZ) (k:Int) (t:List Int):jl x k 0 t=min x.other k:=by simp[jl]
theorem yO (x:bZ) (k:Int) (t:List Int):jl x k x.lines.length t=hX x k t:=by
 unfold jl hX;rw[o9];cases x.lines.find? (fun p=>decide (p.1=t)) <;> rfl
theorem yP {x:bZ} {i:Nat} {p:List Int×Int} (aa:(x.lines.map (·.1)).Nodup) (hi:x.lines[i]? =some p) (t:List Int):jl x k (i+1) t=if t=p.1 then min p.2 k else jl x k i t:=by
 unfold jl;rw[u9,hi,Z0,List.find?_append];by_cases I:t=p.1
 ·subst I;have ab:(x.lines.take i).find? (fun q=>decide (q.1=p.1))=none:=by
   rw[List.find?_eq_none];intro q J he;have he:q.1=p.1:=by simpa using he
   obtain⟨j,O⟩:=Y2.1 J;have U:j<i:=by have:=(x4.1 O).1;rw[o8] at this;omega
   rw[Z6 U] at O;have V:=x4.1 O;have W:=x4.1 hi;have Y:=V3.1 aa j i (by rw[u5];exact V.1) (by rw[u5];exact W.1) U;rw[List.getElem_map,List.getElem_map,V.2,W.2] at Y;exact Y he
  rw[ab,if_pos rfl];simp
 ·rw[if_neg I];have:[p].find? (fun q=>decide (q.1=t))=none:=by
   rw[List.find?_eq_none];intro q J he;rw[j0.1 J] at he;exact I (of_decide_eq_true he).symm
  rw[this,Option.or_none]
theorem mX {v:Int} (h:v∈l):l[l.idxOf v]? =some v:=by
 have:=List.idxOf_lt_length_iff.2 h;rw[y0 this,List.getElem_idxOf this]
theorem ot {i:Nat} {v:Int} (U:l.Nodup) (h:l[i]? =some v):l.idxOf v=i:=by
 have hm:=x5 h;have h1:=mX hm;have I:=x4.1 h1;have J:=x4.1 h;rcases Nat.lt_trichotomy (l.idxOf v) i with O|he|O
 ·exact absurd (I.2.trans J.2.symm) (V3.1 U _ _ I.1 J.1 O)
 ·exact he
 ·exact absurd (J.2.trans I.2.symm) (V3.1 U _ _ J.1 I.1 O)
def e5 (scope I:List Int):List Int:=I.map fun v=>((scope.idxOf v:Nat):Int)
theorem qG {J:List Int} (Y:scope.Nodup) (I:J.Perm scope):Good (e5 scope J) scope.length:=by
 have V:J.Nodup:=I.nodup_iff.2 Y;refine⟨by simp[e5,I.length_eq],fun i p O=>?_⟩;unfold e5 at O;rw[x8] at O;obtain⟨v,W,rfl⟩:=Y1.1 O;have hm:v∈scope:=I.mem_iff.1 (x5 W);have ac:=List.idxOf_lt_length_iff.2 hm;refine⟨⟨by omega,by omega⟩,fun j ad U=>?_⟩;unfold e5 at U;rw[x8] at U;obtain⟨u,hu,he⟩:=Y1.1 U;have aa:u∈scope:=I.mem_iff.1 (x5 hu);have e:scope.idxOf u=scope.idxOf v:=by omega
 have h1:=mX aa;rw[e,mX hm] at h1;have ab:v=u:=b9 h1;subst ab;have ae:=ot V hu;have af:=ot V W;omega
theorem yQ {I:List Int} {v:Int} (J:I[j]? =some v):(e5 scope I)[j]? =some ((scope.idxOf v:Nat):Int):=by
 unfold e5;rw[x8,J];rfl
theorem GG {I:List Int} (V:scope.Nodup) (O:I.Perm scope):dy (bd sizes scope) (e5 scope I)=bd sizes I:=by
 refine Y8 fun j=>?_;cases J:I[j]? with
 |none=>
  have U:=List.getElem?_eq_none_iff.1 J;rw[Z9 (by rw[qc];simp[e5];exact U),Z9 (by simp[bd];exact U)]
 |some v=>
  have hm:v∈scope:=O.mem_iff.1 (x5 J);have W:=qG V O;rw[xr W (by simp[bd]) (yQ J),Z3];unfold bd;rw[x8,x8,mX hm,J]
theorem yR {I:List Int} (V:scope.Nodup) (J:I.Perm scope) (W:t.length=scope.length):j1 (e5 scope I) t=mL scope I t:=by
 have Y:=qG V J;refine (xq Y W (by simp[mL]) fun j p O=>?_).symm;unfold e5 at O;rw[x8] at O;obtain⟨v,U,rfl⟩:=Y1.1 O;have hm:v∈scope:=J.mem_iff.1 (x5 U);have aa:I.Nodup:=J.nodup_iff.2 V;have ab:=(x4.1 U).1;have ac:=J.length_eq;unfold mL;rw[Z3,x8,mX hm,Z2,ot aa U,u4,y0 (show j<t.length by omega)];rfl
theorem GH {f:bP} {x:bZ} {cs:List Int} (O:eo N f) (ab:x∈f.funs) (ai:cs.length=(aE x.sizes).toNat) (ac:∀ t,cL x.sizes t→cu x.sizes cs t=hX x f.k t):
  dy x.sizes (e5 x.scope (a7 x.scope))=bd f.sizes (a7 x.scope)∧lA x.sizes cs (e5 x.scope (a7 x.scope))=(gm f.sizes f.k x).2:=by
 obtain⟨h1,aj,ak⟩:=O.funs x ab;have V:=qD h1 O.sizes.2.1;have I:=qC V h1.scope.1;have W:x.sizes=bd f.sizes x.scope:=h1.sizes;have U:dy x.sizes (e5 x.scope (a7 x.scope))=bd f.sizes (a7 x.scope):=by rw[W];exact GG h1.scope.1 I
 have ad:=qG h1.scope.1 I;have ae:∀ v∈a7 x.scope,0≤v∧v<f.sizes.length:=fun v hm=>h1.scope.2 v ((oo V).1 hm);have J:dC (bd f.sizes (a7 x.scope)):=mV O.sizes.2.2 ae;refine⟨U,?_⟩;have af:x.sizes.length=x.scope.length:=by rw[W];simp[bd]
 unfold lA;rw[U];show _=(bm (bd f.sizes (a7 x.scope))).map fun t=>hX x f.k (mL x.scope (a7 x.scope) t);refine Y8 fun q=>?_;rw[x8,x8];have al:=jZ J;by_cases Y:q<(aE (bd f.sizes (a7 x.scope))).toNat
 ·have ag:=nZ J (i:=q) (by omega);rw[ag,List.getElem?_range Y];simp only[Z2];have ah:=sE J Y;have aa:(ct (bd f.sizes (a7 x.scope)) q).length=x.scope.length:=by rw[hG];simp[bd,I.length_eq]
  rw[yR h1.scope.1 I aa,ac];have:=E3 (s:=x.sizes) ad af (by rw[U];exact ah);rw[yR h1.scope.1 I aa] at this;exact this
 ·rw[Z9 (by simp;omega),Z9 (by rw[hV J];omega)];rfl
theorem GI {I J:List Int} (O:dC szs) (h1:I.length=(aE szs).toNat) (U:J.length=(aE szs).toNat):
  dl k I J=(X7 (aE szs).toNat).map fun(q:Nat)=>min (cu szs I (ct szs q)+cu szs J (ct szs q)) k:=by
 conv=>lhs;rw[qb O h1,qb O U]
 unfold dl;rw[List.zipWith_map,List.zipWith_self]
theorem GJ {O:Nat} {d:List (x1×x1)} {KS:List (List Int)} (V:ae w O ha [.map (some m)]) (hm:cC w m d) (W:d.map (·.1)=KS.map dm) (U:mS KS) (ah:KS.length<65536):
  af x3 Dm [.func (.func jN) #[] #[.pointer (some ⟨O,0,none⟩)],yh] w fun v w'=>Ext w w'∧ ∃ g M,M.Perm KS∧qx fj M 0 M.length∧lE w' g v M:=by
 refine az func266 ?_;refine (FN V hm W (fun ks h=>(U ks h).1) (by omega)).mono ?_;rintro v J _ ⟨Y,g,L,aa,I,ab⟩;refine (F0 ab (U.perm I) (by rw[I.length_eq];omega)).mono ?_;rintro _ ai _ ⟨ac,M,ad,hu,ag⟩;exact⟨Y.then ac (fun r aj h=>by have:=aa r h;omega),g,M,ad.trans I,hu,ag⟩
theorem yS {α β:Type} {f:α→β}:∀ {M:List β} {D:List α},M.Perm (D.map f)→ ∃ L:List α,L.Perm D∧L.map f=M
 |[],D,h=>by
  have h1:=h.length_eq;simp at h1;have:D=[]:=b8 h1.symm;exact⟨[],by rw[this],rfl⟩
 |x::M,D,h=>by
  have I:x∈D.map f:=h.mem_iff.1 (.head _);obtain⟨p,J,rfl⟩:=j5.1 I;obtain⟨A,B,rfl⟩:=List.append_of_mem J;have O:(f p::M).Perm (f p::(A++B).map f):=h.trans (by
   rw[b6,T4,b6];exact List.perm_middle)
  obtain⟨L,U,V⟩:=yS (List.Perm.cons_inv O);exact⟨p::L,(U.cons p).trans List.perm_middle.symm,by rw[T4,V]⟩
theorem yT {g:Nat} {ks:List Int} (W:ks.length=6) (Y:n≤6) (J:cs=ints .i8 ks) (O:ae w g b2 cs):aB .i8 w (.slice (some (if 6=0 then⟨g,0,none⟩ else⟨g,0+0*1,none⟩)) (n-0) (6-0)) (ks.take n):=by
 subst J;rw[if_neg (by omega)];unfold aB;have U:(ks.take n).length=n:=by rw[o8];omega
 rw[U];refine⟨by simp;omega,g,0,_,6,rfl,by omega,by simp[maxLen],fun _=>rfl,fun j v I=>?_⟩;have V:=(x4.1 I).1;refine O.range j v ?_;rw[ints,List.map_take,Z6 (by simp[ints] at V;omega)] at I;exact I
def GK (D L:Told):Prop:=L.Perm D∧qx (fun p=>fj (pad p.1)) L 0 L.length
set_option maxHeartbeats 1600000 in
theorem GL {g:Nat} {D:Told} (h:dO w g m szs k o D) (bA:D.length<65536):af x3 C1 [.pointer (some ⟨g,0,none⟩)] w fun v w'=>Ext w w'∧ ∃ L:Told,GK D L∧bi (dV w.heap.size) bh w' [v] L:=by
 obtain⟨⟨sv,gs,aK,hm⟩,bB,ay,cd,a1⟩:=id h;have bC:mS (D.map fun p=>pad p.1):=fun ks bD=>by
  obtain⟨p,bE,rfl⟩:=j5.1 bD;exact oc ay (a1 p bE).1
 refine az func222 ?_;rw[cI dU.u];simp only[Z1,aP];rw[aw,V eL.p rfl,aa (by kernel_rfl) (aK.cell (o:=0+3) rfl)];refine FL.mono ?_;rintro _ J _ ⟨aM,ce,rfl,cg,bF⟩;refine (GJ (KS:=D.map fun p=>pad p.1) bF (bB.ext aM) (by rw[List.map_map,List.map_map];rfl) bC (by simpa using bA)).mono ?_;rintro ch aq _ ⟨a2,ci,M,bG,bH,a6⟩;obtain⟨L,aN,aB⟩:=yS bG;have a7:M.length=L.length:=by rw[←aB];simp
 have cj:=aN.length_eq;have ck:=aM.size;have cl:=a2.size;have a8:=aM.trans a2;rw[ef hC.u a6];refine bt.range L.length (fun i out I=>Ext aq I∧bi (dV aq.heap.size) bh I [out] (L.take i)) (by omega) ⟨Ext.refl _,by rw[List.take_zero];exact fQ⟩ ?_ ?_
 rotate_left
 ·rintro out I bI ⟨ak,aC⟩;rw[a7];simp only[an,ab];refine⟨fun h=>by omega,fun _=>⟨a8.trans ak,L,⟨aN,fun p q x y h1 bK cm bL bM=>?_⟩,?_⟩⟩
  ·exact bH p q (pad x.1) (pad y.1) h1 bK (by omega) (by rw[←aB,x8,bL];rfl) (by rw[←aB,x8,bM];rfl)
  ·rw[o9] at aC;exact ai.mono aC (fun r _ h=>by have h:aq.heap.size≤r:=h;show w.heap.size≤r;omega) fun _ _ h=>h
 rintro i out I bI hi ⟨ak,aC⟩ bP;obtain⟨⟨t,c⟩,aO⟩:∃ p,L[i]? =some p:=⟨_,y0 hi⟩;have aQ:(t,c)∈D:=aN.mem_iff.1 (x5 aO);have aR:=(a1 _ aQ).1;have ba:=sS ay aR;have aS:t.length=szs.length:=ba.1;have bb:=ay.1;have bQ:jf (pad t):=oc ay aR;have aD:=bQ.1;have bR:M[i]? =some (pad t):=by rw[←aB,x8,aO];rfl
 rw[a7];simp only[an,ab];refine⟨fun _=>?_,fun h=>by omega⟩;rw[FZ rfl (a6.ext ak) bR];refine bu b2.i fun al cn cp bc bd=>?_;refine ob aD rfl bd fun bS bT cq aE=>?_;have cr:=bc.size;have ct:=bd.lt;have bU:Ext I bS:=bc.then bT (fun r aF he=>by have he:r=al:=he;omega);intro be au _ _;have aT:=bU.trans au;have aU:=(a8.trans ak).trans aT;have bf:=h.ext aU;obtain⟨⟨cu,cw,cz,cA⟩,cB,_⟩:=id bf;have cC:=aT.size;rw[aw,V eL.p rfl,aa (by kernel_rfl) ((aK.ext aU).cell (o:=0+3) rfl),lD aD (aE.ext au).range];refine FE bf aR (fun W bV=>?_) (fun bW=>absurd rfl (bW _ aQ));have bX:W=c:=by
  have:=xX h.nodup bV aQ rfl;exact congrArg Prod.snd this
 subst bX;simp only[Bool.false_eq_true,if_false];rw[cH (cs:=#[.slice none 0 0,.int .i64 W]) (by kernel_rfl)];refine bu fd.i fun ag cD cE aV bg=>?_;refine⟨.inl aV,?_⟩;refine bN (vs:=[.slice none 0 0,.int .i64 W]) fd.i rfl rfl (by intro v bj;simp at bj;rcases bj with rfl|rfl <;> rfl) bg fun ao bY cF bk=>?_;have cG:=aV.size;have cJ:=bg.lt;have aG:Ext be ao:=aV.then bY (fun r aF he=>by have he:r=ag:=he;omega);have bm:=aT.trans aG;have bn:=aU.trans aG;rw[aw,V eL.p rfl,aa (by kernel_rfl) ((aK.ext bn).cell (o:=0+0) rfl),aL ac.u (hm.ls.ext bn)];rw[pW b2.u eZ.i (l:=0) (h:=szs.length) (m:=6) hS (lh _ _ rfl) eM (by omega) (by omega) (by omega)];have bo:=yT aD bb rfl ((aE.ext au).ext aG);rw[←aS,xS] at bo;rw[←aS,aL iX.u bo];have bZ:=(aE.ext au).ext aG;have cK:al<be.heap.size:=(aE.ext au).lt;have cL:ag<ao.heap.size:=bk.lt;refine bJ.range t.length (fun j Y=>ad (fun r=>r=ag∨ao.heap.size≤r) ao Y∧ ∃ aA ap,ao.heap.size≤ap∧ae Y ag fd [aA,.int .i64 W]∧am .i64 U Y ap aA (t.take j)) (by omega) ⟨ad.refl _ _,_,ao.heap.size,o7 _,bk,am.nil _ _ _ _⟩ ?_ ?_
 ·rintro j Y b0 b1 ⟨ah,aA,ap,b3,aH,aJ⟩ b4;obtain⟨x,aX⟩:∃ x,t[j]? =some x:=⟨_,y0 b1⟩;have cM:=ba.2 x (x5 aX);have cN:Ext I Y:=bm.then ah (fun r aF he=>by rcases he with rfl|he <;> omega);have bp:=yT aD bb rfl (bZ.O ah (fun he=>by rcases he with he|he <;> omega));rw[←aS,xS] at bp;simp only[an,ab];refine⟨fun _=>?_,fun h=>by omega⟩;rw[aZ iX.u eZ.i (by kernel_rfl) bp aX,V fd.p rfl,aa (by kernel_rfl) (aH.cell (o:=0+0) rfl),e1 eZ.u U.u,wrap_i64 (by omega) (by omega)];refine dx ac.u U.i rfl fun a aW b5 cO aj b6=>?_;refine hb ac.u U.i rfl (aJ.ext aj) b6.ls (by simp;omega) (by simp;omega) fun bq br b7 cP av ax=>?_;have b8:=ah.size;have b9:=aj.size;have cQ:=ax.size;rw[V fd.p rfl];refine bl (g:=ag) (o:=0) ac.i av.ls.cells.1 av.ls.cells.2 ((aH.ext aj).O ax (fun he=>by have he:ag=ap:=he;omega)) (by simp) fun cR bx cS ca=>?_;simp only[aI];refine b4 _ ⟨((ah.trans (aj.O _)).trans (ax.mono fun r _ he=>.inr (by have he:r=ap:=he;omega))).trans (bx.mono fun r _ he=>.inl he),bq,br,by omega,ca,?_⟩;rw[u9,aX];exact av.O bx (fun _ he=>by have he:br=ag:=he;omega)
 ·rintro Y b0 ⟨ah,aA,ap,b3,aH,aJ⟩;simp only[an,ab];refine⟨fun h=>by omega,fun _=>?_⟩;rw[o9] at aJ;rw[bw fd.p fd.i rfl aH.range];have b8:=ah.size;have cb:Ext I Y:=bm.then ah (fun r aF he=>by rcases he with rfl|he <;> omega);have bz:bi (dV I.heap.size) bh Y [aA,.int .i64 W] (t,W):=⟨[aA],[.int .i64 W],dV I.heap.size,bh,rfl,fun _ h=>h,fun _ h=>h.elim,fun _ _ _ h=>h,ai.mono (ln aJ) (fun r _ h=>by subst h;show I.heap.size≤r;omega) (fun _ _ h=>h),rfl⟩;refine hF (α:=List Int×Int) (a:=(t,W)) (cs:=[aA,.int .i64 W]) (A:=dV I.heap.size) (R:=bh) mo.u fd.i (by decide) rfl bz fun u b5 aj _ cc=>?_;have aY:=cb.trans aj;have b9:=aY.size;refine lm (α:=List Int×Int) (a:=(t,W)) (A:=dV I.heap.size) mo.u fd.i rfl (bO (jT aC) aY) cc (bO bz aj) (fun r _ h h'=>?_) (by simp;omega) (by simp;omega) fun bq b7 av ax=>?_
  ·rcases h' with h'|h'
   ·have:=h.2;have:I.heap.size≤r:=h';omega
   ·exact h'
  simp only[aI];have cT:=ak.size;refine bP _ _ ⟨(ak.trans aY).then ax (fun r aF h=>by have h:=h.1;have h:aq.heap.size≤r:=h;omega),?_⟩;rw[u9,aO];refine ai.mono av (fun r _ h=>?_) fun _ _ h=>h;show aq.heap.size≤r;rcases h with h|h|h
  ·exact h.1
  ·have h:I.heap.size≤r:=h;omega
  ·omega
theorem yU {s:List Int} (I:dC s):t∈bm s↔cL s t:=by
 refine⟨fun h=>?_,fun⟨n,h⟩=>x5 (nX I h)⟩;obtain⟨i,hi⟩:=Y2.1 h;exact⟨_,p9 I hi⟩
theorem yV:∀ {s:List Int},dC s→(bm s).Pairwise fun a b=>fj a<fj b
 |[],_=>by simp[bm]
 |k::s,U=>by
  have ab:=yV U.tail;have J:∀ t∈bm s,0≤fj t∧fj t<32 ^ s.length:=fun t V=>by
   have ac:=(yU U.tail).1 V;have h1:=lz.1 ac;have Y:=qw t fun x W=>by
    obtain⟨i,hi,rfl⟩:=List.getElem_of_mem W;obtain⟨a,I⟩:∃ a,s[i]? =some a:=⟨_,y0 (by omega)⟩;have ae:=h1.2 i a _ I (y0 hi);have af:=(U.tail a (x5 I)).2;omega
   rw[h1.1];exact Y
  have O:∀ t∈bm s,t.length=s.length:=fun t V=>sj V;show ((X7 k.toNat).flatMap fun(v:Nat)=>(bm s).map fun t=>(v:Int)::t).Pairwise _;rw[List.pairwise_flatMap];refine⟨fun v _=>?_,?_⟩
  ·rw[List.pairwise_map];refine ab.imp_of_mem fun {a b} I J h=>?_;simp only[fj,O a I,O b J];omega
  ·refine List.pairwise_lt_range.imp fun {u v} ag x W y ad=>?_;obtain⟨a,I,rfl⟩:=j5.1 W;obtain⟨b,aa,rfl⟩:=j5.1 ad;simp only[fj,O a I,O b aa];have h1:=J a I;have Y:=J b aa;have:=Int.mul_le_mul_of_nonneg_right (show (u:Int)+1≤v by omega) (show (0:Int)≤32 ^ s.length by have:=sW s.length;omega);rw[Int.add_mul,Int.one_mul] at this;omega
theorem GM {D L:Told} (O:(D.map (·.1)).Nodup) (I:L.Perm D) (t:List Int):gL L o t=gL D o t:=by
 have V:(L.map (·.1)).Nodup:=(I.map (·.1)).nodup_iff.2 O;by_cases he:∃ p∈D,p.1=t
 ·obtain⟨p,U,rfl⟩:=he;rw[od O (c:=p.2) U,od V (c:=p.2) (I.mem_iff.2 U)]
 ·rw[oe fun p h1 J=>he ⟨p,h1,J⟩,oe fun p h1 J=>he ⟨p,I.mem_iff.1 h1,J⟩]
def gP (szs:List Int) (f:List Int→Int) (cs:List Int):Prop:=cs.length=(aE szs).toNat∧ ∀ t,cL szs t→cu szs cs t=f t
theorem gP.eq {f:List Int→Int} {cs I:List Int} (U:dC szs) (h1:gP szs f cs) (J:gP szs f I):cs=I:=ET U h1.1 J.1 fun t O=>by rw[h1.2 t O,J.2 t O]
theorem gP.congr {f I:List Int→Int} {cs:List Int} (h:gP szs f cs) (he:∀ t,cL szs t→f t=I t):gP szs I cs:=⟨h.1,fun t J=>by rw[h.2 t J,he t J]⟩
theorem tc (J:dC szs) (h:cL szs t):∃ n:Nat,bX szs t 0=some (n:Int)∧n<(aE szs).toNat:=by
 obtain⟨n,I⟩:=h;have:=i9 J I;simp only[Int.zero_mul,Int.zero_add,Int.one_mul] at this;exact⟨n.toNat,by rw[I];congr 1;omega,by omega⟩
theorem GN (I:dC szs) (c:Int):gP szs (fun _=>c) (r9 (aE szs).toNat c):=⟨by simp,fun t J=>by
 obtain⟨n,O,U⟩:=tc I J;unfold cu;rw[O];simp only[Z3,u4,List.getElem?_replicate,U,if_true,U7]⟩
theorem gP.put {f:List Int→Int} {cs:List Int} {c:Int} (I:dC szs) (h:gP szs f cs) (W:cL szs t) (Y:cA c k):gP szs (fun s=>if s=t then c else f s) (mz szs t k c cs):=by
 obtain⟨n,O,aa⟩:=tc I W;unfold mz;rw[O];simp only[Y,if_true,Z3];refine⟨by simp[h.1],fun s V=>?_⟩;obtain⟨m,hm,ab⟩:=tc I V;have J:=h.2 s V;unfold cu at J ⊢;rw[hm] at J ⊢;simp only[Z3] at J ⊢;by_cases he:s=t
 ·subst he;rw[O] at hm;have U:n=m:=by have:=b9 hm;omega
  subst U;rw[if_pos rfl,u4,W8 (by rw[h.1];exact aa)];rfl
 ·rw[if_neg he,u4,W3 (fun U=>he ?_),←u4,J];subst U;rw[←xk I hm,←xk I O]
def GO (w:x2) (szs:List Int) (k o:Int) (D:Told) (v:x1) (w':x2):Prop:=Ext w w'∧(4096<aE szs→v= .tuple #[.pointer none,.int .i64 5])∧
 (aE szs≤4096→ ∃ g I sv cs,v= .tuple #[.pointer (some ⟨g,0,none⟩),.int .i64 0]∧w.heap.size≤g∧w.heap.size≤I∧cB w' g I sv szs k cs∧gP szs (gL D o) cs)
set_option maxHeartbeats 1600000 in
theorem yW {g:Nat} {D:Told} (h:dO w g m szs k o D) (aL:D.length<65536):af x3 Cs [.pointer (some ⟨g,0,none⟩)] w (GO w szs k o D):=by
 obtain⟨⟨sv,gs,aM,hm⟩,bq,ac,aN,aO⟩:=id h;have ax:=h.nodup;refine az func163 ?_;rw[cI dU.u];simp only[Z1,aP];intro J I _ _;have al:=aM.ext I;rw[aw,V eL.p rfl,aa (by kernel_rfl) (al.cell (o:=0+0) rfl),aw,V eL.p rfl,aa (by kernel_rfl) (al.cell (o:=0+1) rfl),aw,V eL.p rfl,aa (by kernel_rfl) (al.cell (o:=0+2) rfl)];refine (pY (hm.ls.ext I)).mono ?_;rintro _ ay _ ⟨ae,_,aQ,_,aR⟩;by_cases ag:aE szs≤4096
 rotate_left
 ·have:=aQ ac (by omega);subst this;rw[aD (v:=.pointer none) rfl,aD (v:=.int .i64 5) rfl];simp only[bF,ab];exact⟨fun _=>⟨I.trans ae,fun _=>rfl,fun h=>absurd h ag⟩,fun h=>by simp at h⟩
 obtain⟨am,U,aA,rfl,br,bt,_,aB⟩:=aR ac ag aN;rw[aD (v:=.pointer (some ⟨am,0,none⟩)) rfl,aD (v:=.int .i64 0) rfl];simp only[bF,ab];refine⟨fun h=>absurd rfl h,fun _=>?_⟩;have bw:=I.size;have bx:=ae.size;refine (GL ((h.ext I).ext ae) aL).mono ?_;rintro bz aS _ ⟨ao,L,ah,aC⟩;have bA:=ao.size;have bB:U<ay.heap.size:=by
  obtain⟨⟨aG,bC,_,_,aT⟩,⟨_,_,bD⟩,aU,aV⟩:=id aB;have bE:=jZ aU.2;obtain⟨_,⟨_,aW⟩|⟨cap,cs,_,aX,_⟩⟩:=aT
  ·rw[aV] at aW;omega
  ·exact aX.lt
 have bG:=ah.1.length_eq;rw[fR mo.u aC];refine bJ.range L.length (fun i W=>ad (fun r=>r=U) aS W∧ ∃ cs,cB W am U aA szs k cs∧gP szs (gL (L.take i) o) cs) (by omega) ⟨ad.refl _ _,_,aB.ext ao,by rw[List.take_zero];exact GN ac.2 o⟩ ?_ ?_
 ·rintro i W aY hi ⟨aj,cs,ap,ak⟩ aZ;simp only[an,ab];refine⟨fun _=>?_,fun h=>by omega⟩;obtain⟨⟨t,c⟩,Y⟩:∃ p,L[i]? =some p:=⟨_,y0 hi⟩;have a1:(t,c)∈D:=ah.1.mem_iff.1 (x5 Y);obtain⟨a2,a6,a7⟩:=aO _ a1;have a8:=ai.O aC aj fun r aF ba he=>by
   have he:r=U:=he;rcases ba with h|h
   ·have h:ay.heap.size≤r:=h;omega
   ·exact h
  refine jV (α:=List Int×Int) fd.p rfl mo.u fd.i a8 Y fun us bb=>?_;obtain⟨bH,bc,A,B,rfl,bI,bK,_,h1,bd⟩:=bb;have be:bc=[.int .i64 c]:=bd;subst be;obtain⟨bf,rfl,_⟩:=id h1;have hu:=ff h1;refine bu fd.i fun bg bL bM bh aH=>?_;refine bN (vs:=[bf,.int .i64 c]) fd.i rfl rfl (by intro v aJ;simp at aJ;rcases aJ with rfl|rfl;exact hu.cells.2;rfl) aH fun bi bj bO aK=>?_;have bP:=aH.lt;have aq:Ext W bi:=bh.then bj (fun r aF he=>by have he:r=bg:=he;omega);rw[V fd.p rfl,aa (by kernel_rfl) (aK.cell (o:=0+0) rfl),V fd.p rfl,aa (by kernel_rfl) (aK.cell (o:=0+1) rfl)];refine (wK (ap.ext aq) (hu.ext aq)).mono ?_;rintro _ bQ _ ⟨rfl,bk,bl⟩;simp only[aI];refine aZ _ ⟨(aj.trans (aq.O _)).trans bk,_,bl,(ak.put ac.2 a2 a6).congr fun s bR=>?_⟩;rw[u9,Y];have au:(L.map (·.1)).Nodup:=(ah.1.map (·.1)).nodup_iff.2 ax;have bm:∀ p∈L.take i,p.1≠t:=fun p ag he=>by
   obtain⟨j,av⟩:=Y2.1 ag;have bn:j<i:=by have:=(x4.1 av).1;rw[o8] at this;omega
   rw[Z6 bn] at av;have:=iy au (i:=j) (j:=i) (x:=t) (by rw[x8,av,Z2,he]) (by rw[x8,Y];rfl);omega
  have bo:((L.take i).map (·.1)).Nodup:=by rw[List.map_take];exact (List.take_sublist _ _).nodup au
  have bp:((L.take i++[(t,c)]).map (·.1)).Nodup:=by
   have e:L.take i++[(t,c)]=L.take (i+1):=by rw[u9,Y];rfl
   rw[e,List.map_take];exact (List.take_sublist _ _).nodup au
  exact ((xY bm a7).cost bo bp s).symm
 ·rintro W aY ⟨aj,cs,ap,ak⟩;simp only[an,ab];refine⟨fun h=>by omega,fun _=>?_⟩;rw[o9] at ak;exact⟨((I.trans ae).trans ao).then aj (fun r aF he=>by have he:r=U:=he;omega),fun h=>by omega,fun _=>⟨am,U,aA,cs,rfl,by omega,by omega,ap,ak.congr fun s _=>GM ax ah.1 s⟩⟩
theorem GP {s cs:List Int} (I:dC s) (J:cs.length=(aE s).toNat) {i:Nat} (h:(bm s)[i]? =some t):cs[i]? =some (cu s cs t):=by
 have hi:=(x4.1 h).1;rw[hV I,←J] at hi;unfold cu;rw[p9 I h];simp only[Z3,u4,y0 hi,U7]
theorem mY {k:o4} {g:Nat} (h:am k e w g v l) (J:0<l.length):g<w.heap.size:=by
 obtain⟨_,⟨_,h1⟩|⟨_,_,_,I,_⟩⟩:=h
 ·omega
 ·exact I.lt
def eR (w:x2) (g m:Nat) (sv:x1) (gs:Nat) (szs:List Int) (k o:Int) (D:Told):Prop:=
 ae w g eL [sv,.int .i64 k,.int .i64 o,.map (some m)]∧am .i64 U w gs sv szs∧cC w m (D.map hY)∧bD szs∧cA o k∧ ∀ p∈D,cL szs p.1∧cA p.2 k∧p.2≠o
theorem eR.is {g:Nat} {D:Told} (h:eR w g m sv gs szs k o D):dO w g m szs k o D:=⟨⟨sv,gs,h.1,h.2.1⟩,h.2.2⟩
theorem dO.at {g:Nat} {D:Told} (h:dO w g m szs k o D):∃ sv gs,eR w g m sv gs szs k o D:=by
 obtain⟨⟨sv,gs,h1,I⟩,J⟩:=h;exact⟨sv,gs,h1,I,J⟩
theorem eR.ext {g:Nat} {D:Told} (h:eR w g m sv gs szs k o D) (I:Ext w w'):eR w' g m sv gs szs k o D:=by
 obtain⟨h1,J,O,U⟩:=h;exact⟨h1.ext I,J.ext I,O.ext I,U⟩
theorem eR.O {g:Nat} {D:Told} (h:eR w g m sv gs szs k o D) (I:ad S w w') (J:¬S g) (hm:¬S m) (U:∀ r,leads sv r→¬S r):eR w' g m sv gs szs k o D:=by
 obtain⟨h1,V,W,Y⟩:=h;exact⟨h1.O I J,a6 V I U,W.O I hm,Y⟩
theorem qH {g:Nat} {d:List (x1×x1)} (h:ae w g e cs) (hm:cC w m d):g≠m:=by
 rintro rfl;obtain⟨I,c,h1,_⟩:=hm;unfold ae at h;rw[h1] at h;cases h
theorem yX {g:Nat} {k:o4} {d:List (x1×x1)} (h:am k e w g v l) (hm:cC w m d) (I:leads v r):r≠m:=by
 obtain⟨rfl,_⟩:=bn h I;obtain⟨_,⟨rfl,_⟩|⟨_,_,_,J,_⟩⟩:=h
 ·obtain⟨a,n,c,h,_⟩:=I;cases h
 ·exact qH J hm
theorem eR.put {g:Nat} {D I:Told} (h:eR w g m sv gs szs k o D) (J:ad (fun r=>r=m) w w') (h':dO w' g m szs k o I):eR w' g m sv gs szs k o I:=
 ⟨h.1.O J (fun he=>qH h.1 h.2.2.1 he),a6 h.2.1 J (fun r U he=>yX h.2.1 h.2.2.1 U he),h'.2⟩
theorem eR.n4 {g:Nat} {D:Told} (h:eR w g m sv gs szs k o D):g<w.heap.size∧m<w.heap.size∧ ∀ r,leads sv r→r<w.heap.size:=
 ⟨h.1.lt,h.2.2.1.lt,fun r I=>by obtain⟨rfl,J⟩:=bn h.2.1 I;exact J⟩
instance (s t:List Int):Decidable (cL s t):=decidable_of_iff ((bX s t 0).isSome=true) ⟨fun h=>by
 cases I:bX s t 0 with
 |none=>rw[I] at h;cases h
 |some n=>exact⟨n,I⟩,fun⟨n,h⟩=>by rw[h];rfl⟩
theorem qI (h:aB .i64 w sv l) (aq:l.length≤1000000):af x3 vT [sv] w fun v w'=>Ext w w'∧ ∃ g,w.heap.size≤g∧am .i64 U w' g v l:=by
 refine az func154 ?_;rw[aL au.u h];refine hU (k:=.i64) ac.u U.i (by omega) (by omega) fun g J av W Y=>?_;have ag:am .i64 U J g (.slice (some ⟨g,0,none⟩) l.length l.length) (r9 l.length 0):=by
  have:=bG.full (k:=1) (n:=l.length) Y (by simp) (by simp[maxLen];omega);exact am.of this
 rw[aL au.u (h.ext W)];have aw:=Y.lt;refine bJ.range l.length (fun i I=>ad (fun r=>r=g) J I∧am .i64 U I g (.slice (some ⟨g,0,none⟩) l.length l.length) (l.take i++r9 (l.length-i) 0)) h.le ⟨ad.refl _ _,by simpa using ag⟩ ?_ ?_
 rotate_left
 ·rintro I ah ⟨V,O⟩;rw[an,ab];rw[o9,V2,List.replicate_zero,V9] at O;exact⟨fun h=>by omega,fun _=>⟨W.then V (fun r ai he=>by have he:r=g:=he;omega),g,by omega,O⟩⟩
 rintro i I ah hi ⟨V,O⟩ aj;obtain⟨x,aa⟩:∃ x,l[i]? =some x:=⟨_,y0 hi⟩;have al:Ext w I:=W.then V (fun r ai he=>by have he:r=g:=he;omega);rw[an,ab];refine⟨fun _=>?_,fun h=>by omega⟩;rw[aZ au.u ak.i (by kernel_rfl) (h.ext al) aa];rw[fS rfl ac.u U.i O (by simp;omega)];refine fT U.i O (by simp;omega) fun ax ao ay ae=>?_;rw[aI];refine aj _ ⟨V.trans ao,?_⟩;have e:(l.take i++r9 (l.length-i) 0).set i x=l.take (i+1)++r9 (l.length-(i+1)) 0:=by
  have ap:(l.take i).length=i:=by rw[o8];omega
  rw[V8 _ _ (by omega),ap,V2,show l.length-i=(l.length-(i+1))+1 by omega,List.replicate_succ,List.set_cons_zero,u9,aa,Z0,V7];rfl
 rw[e] at ae;exact ae
def GQ (w:x2) (l:List Int) (k o:Int) (v:x1) (w':x2):Prop:=
 Ext w w'∧(¬bD l→v= .tuple #[.pointer none,.int .i64 1])∧(bD l→¬cA o k→v= .tuple #[.pointer none,.int .i64 3])∧
  (bD l→cA o k→ ∃ g m sv gs,v= .tuple #[.pointer (some ⟨g,0,none⟩),.int .i64 0]∧w.heap.size≤g∧w.heap.size≤m∧(∀ r,leads sv r→w.heap.size≤r)∧eR w' g m sv gs l k o [])
theorem GR (h:aB .i64 w sv l):af x3 mj [sv,.int .i64 k,.int .i64 o] w (GQ w l k o):=by
 refine az func205 ?_;refine aM (fun v J=>Ext w J∧ ∃ c,v= .bool c∧(c=true↔¬bD l)) ?_ ?_
 ·rintro _ J ⟨U,c,rfl,V⟩;rw[br];refine⟨fun ad=>⟨U,fun _=>rfl,fun h=>absurd h (V.1 ad),fun h=>absurd h (V.1 ad)⟩,fun ah=>?_⟩;have I:bD l:=Classical.byContradiction fun h=>by have:=V.2 h;rw[ah] at this;cases this
  have ao:=I.1;refine jW.mono ?_;rintro _ ai _ ⟨rfl,O⟩;by_cases hi:cA o k
  rotate_left
  ·simp only[hi,decide_false,bc,X4,bC];exact⟨U.trans O,fun h=>absurd I h,fun _ _=>rfl,fun _ h=>absurd h hi⟩
  simp only[hi,decide_true,bc,Y4,aP];refine (hc ((h.ext U).ext O) (by omega)).mono ?_;rintro aA ap _ ⟨ae,aj,aq,hm⟩;have au:=hm.ls.cells;refine qp fun m av aw W ak=>?_;rw[cH (cs:=#[aA,.int .i64 k,.int .i64 o,.map (some m)]) (by obtain⟨_,_,_,_,_,rfl,_⟩:=hm.ls;kernel_rfl)];refine bL fun g ax ay Y al=>?_;have aC:=U.size;have aD:=O.size;have aE:=ae.size;have aF:=W.size;exact⟨((((U.trans O).trans ae).trans W).trans Y),fun h=>absurd I h,fun _ h=>absurd hi h,fun _ _=>⟨g,m,aA,aj,rfl,by omega,by omega,fun r am=>by have:=(bn hm am).1;omega,al,(hm.ext W).ext Y,ak.ext Y,I,hi,fun p an=>by cases an⟩⟩
 ·intro aG ag;rw[aL ac.u h];simp only[bA,ab];refine⟨fun aH=>ag _ _ ⟨Ext.refl _,true,rfl,fun _ I=>by have:=I.1;omega,fun _=>rfl⟩,fun aI=>?_⟩;refine (xT h).mono ?_;rintro _ ai _ ⟨rfl,O⟩;refine ag _ _ ⟨O,_,rfl,?_⟩;rw[decide_eq_true_eq];exact⟨fun aa I=>aa I.2,fun aa I=>aa ⟨by omega,I⟩⟩
structure yY where
 szs:List Int
 k:Int
 o:Int
 D:Told
instance Lh:ai yY where
 n:=1
 rep _ _ R w cs a:=∃ g m sv gs,cs=[.pointer (some ⟨g,0,none⟩)]∧eR w g m sv gs a.szs a.k a.o a.D∧R g∧R m∧ ∀ r,leads sv r→R r
 len:=by rintro _ _ _ _ _ _ ⟨_,_,_,_,rfl,_⟩;rfl
 one:=by rintro _ _ _ _ _ _ ⟨_,_,_,_,rfl,_⟩ u hu;simp at hu;subst hu;rfl
 O:=by
  rintro _ _ R T w w' _ a ⟨g,m,sv,gs,rfl,h1,J,U,V⟩ ad W;obtain⟨Y,aa,ab⟩:=h1.n4;exact⟨g,m,sv,gs,rfl,h1.O ad (W g Y (.inr J)) (W m aa (.inr U)) fun r I=>W r (ab r I) (.inr (V r I)),J,U,V⟩
 mono:=by
  rintro _ _ _ R R' w _ a ⟨g,m,sv,gs,rfl,h1,J,U,V⟩ _ ac;obtain⟨Y,aa,ab⟩:=h1.n4;exact⟨g,m,sv,gs,rfl,h1,ac g Y J,ac m aa U,fun r I=>ac r (ab r I) (V r I)⟩
 gb:=by
  rintro _ _ R w _ a ⟨g,m,sv,gs,rfl,h1,J,U,V⟩;exact⟨g,m,sv,gs,rfl,h1,.inr J,.inr U,fun r I=>.inr (V r I)⟩
abbrev fE:Type:=Rd (List Int)×yY
def ou (k:Int) (x:bZ) (f:fE):Prop:=f.1=x.scope∧f.2.szs=x.sizes∧f.2.k=k∧f.2.o=min x.other k∧f.2.D.length≤x.lines.length∧ ∀ t,gL f.2.D f.2.o t=hX x k t
theorem GS {m:Bool} {S R:ag} {x:bZ} (h:ai.rep m S R w cs (fD x)):∃ ay aq bI,cs=[ay,aq,.int .i64 x.other,bI]∧ai.rep (α:=List Int) false bh R w [ay] x.scope∧ai.rep (α:=List Int) false bh R w [aq] x.sizes∧ai.rep (α:=List (List Int×Int)) false bh R w [bI] x.lines:=by
 obtain⟨U,d1,Y,aa,rfl,_,_,_,h1,V,d2,ab,ac,rfl,_,_,_,I,W,d3,ad,ae,rfl,_,_,_,O,J⟩:=h;have h1:ai.rep (α:=List Int) false bh R w U x.scope:=h1;have I:ai.rep (α:=List Int) false bh R w V x.sizes:=I;have O:W=[.int .i64 x.other]:=O;have J:ai.rep (α:=List (List Int×Int)) false bh R w d3 x.lines:=J;obtain⟨u,rfl⟩:=X1.1 (show U.length=1 from ai.len h1);obtain⟨v,rfl⟩:=X1.1 (show V.length=1 from ai.len I);obtain⟨y,rfl⟩:=X1.1 (show d3.length=1 from ai.len J);subst O;exact⟨u,v,y,rfl,h1,I,J⟩
theorem GU {m:Bool} {S R:ag} {p:List Int×Int} (h:ai.rep m S R w cs p):∃ aA,cs=[aA,.int .i64 p.2]∧aB .i64 w aA p.1:=by
 obtain⟨J,d1,O,U,rfl,_,_,_,h1,I⟩:=h;obtain⟨u,rfl⟩:=X1.1 (show J.length=1 from ai.len h1);have I:d1=[.int .i64 p.2]:=I;subst I;exact⟨u,rfl,ff h1⟩
structure qJ (k:Int) (x:bZ):Prop where
 k:right k
 sizes:bD x.sizes
 other:0≤x.other
 lines:kM x.sizes x.lines
 len:x.lines.length≤60000
 scope:x.scope.length≤100001
theorem bH {k:o4} (h:aB k w v l):∃ a n c,v= .slice a n c:=by
 obtain⟨_,b,o,base,cap,rfl,_⟩:=h;exact⟨_,_,_,rfl⟩
set_option maxHeartbeats 4000000 in
theorem GV {aV:Nat} {bl bm bo:x1} {K:Int} {R:ag} {x:bZ} (aW:ae w aV b4 [bl,.int .i64 K,bm,bo]) (bp:Seen R w cs (fD x)) (bq:qJ K x):
  af x3 r1 [.pointer (some ⟨aV,0,none⟩),.agg cs.toArray] w fun v w'=>Ext w w'∧ ∃ bU,∃ f:fE,v= .agg bU.toArray∧bU.length=2∧Seen (dV w.heap.size) w' bU f∧ou K x f:=by
 obtain⟨ay,aq,bI,rfl,h1,aX,aL⟩:=GS bp;obtain⟨aC,aM,b5,aY,b6,b7⟩:=bq;have b8:x.sizes.length≤6:=aM.1;refine az func155 ?_;refine bL fun al J b9 aZ ac=>?_;have ac:ae J al bK [ay,aq,.int .i64 x.other,bI]:=by
  obtain⟨_,_,_,rfl⟩:=j3 h1;obtain⟨_,_,_,rfl⟩:=j3 aX;obtain⟨_,_,_,rfl⟩:=j3 aL;exact ac
 refine bu b1.i fun aj a1 ca aN aE=>?_;have aE:ae a1 aj b1 [.slice none 0 0,.pointer none]:=aE;intro cb aF _ _;have aO:=(aZ.trans aN).trans aF;have aP:=aN.trans aF;have cc:=aZ.size;have cd:=aN.size;have z3:=aF.size;have ce:=aE.lt;have a2:=aW.ext aO;rw[V bK.p rfl,aa (by kernel_rfl) ((ac.ext aP).cell (o:=0+1) rfl),aw,V b4.p rfl,aa (by kernel_rfl) (a2.cell (o:=0+1) rfl),
  V bK.p rfl,aa (by kernel_rfl) ((ac.ext aP).cell (o:=0+2) rfl),aw,V b4.p rfl,aa (by kernel_rfl) (a2.cell (o:=0+1) rfl),hD]
 refine (qI ((ff aX).ext aO) (by omega)).mono ?_;rintro cg ch _ ⟨ao,ci,cj,br⟩;refine⟨.inl ao,?_⟩;have z4:=ao.size;have bt:cA (min x.other K) K:=⟨aC,by have:=aC.1;omega,by omega⟩;refine (GR br.ls).mono ?_;rintro _ bw _ ⟨aG,_,_,bx⟩;obtain⟨ah,m,sv,gs,rfl,ck,cl,a7,bz⟩:=bx aM bt;rw[aD (v:=.pointer (some ⟨ah,0,none⟩)) rfl,aD (v:=.int .i64 0) rfl];have z5:=aG.size;have aQ:=(aO.trans ao).trans aG;have a8:=(aP.trans ao).trans aG;rw[V bK.p rfl,aa (by kernel_rfl) ((ac.ext a8).cell (o:=0+3) rfl)];have ba:=bO aL aQ;rw[fR gZ.u ba];refine bJ.range x.lines.length (fun i W=>ad (fun r=>r=m) bw W∧ ∃ D,D.length≤i∧eR W ah m sv gs x.sizes K (min x.other K) D∧ ∀ t,gL D (min x.other K) t=jl x K i t) (mr ba) ⟨ad.refl _ _,[],o7 _,bz,fun t=>by rw[yN];rfl⟩ ?_ ?_
 ·rintro i W bA hi ⟨Y,D,bb,ap,aR⟩ bB;obtain⟨p,aS⟩:∃ p,x.lines[i]? =some p:=⟨_,y0 hi⟩;have bc:=aY.2 p (x5 aS);have au:Ext w W:=aQ.then Y (fun r I he=>by have he:r=m:=he;omega);have bC:=Y.size;have bD:ai.rep (α:=List (List Int×Int)) false bh R W [bI] x.lines:=bO aL au;rw[an,ab];refine⟨fun _=>?_,fun h=>by omega⟩;refine jV dr.p rfl gZ.u dr.i bD aS fun cm bE=>?_;obtain⟨aA,rfl,bd⟩:=GU bE;refine bu dr.i fun bF cn cp be bG=>?_;have cq:=be.size;refine bN (vs:=[aA,.int .i64 p.2]) dr.i rfl rfl (by intro v av;simp at av;rcases av with rfl|rfl <;> first|exact bd.cells.2|rfl) bG fun bM bP cr bf=>?_;have bQ:Ext W bM:=be.then bP (fun r I he=>by have he:r=bF:=he;omega);intro ct aT _ _;have ak:=bQ.trans aT;have z9:=ak.size;rw[V dr.p rfl,aa (by kernel_rfl) ((bf.ext aT).cell (o:=0+0) rfl),V dr.p rfl,aa (by kernel_rfl) ((bf.ext aT).cell (o:=0+1) rfl),aw,V b4.p rfl,aa (by kernel_rfl) (((aW.ext au).ext ak).cell (o:=0+1) rfl),hD];have cu:=sS aM bc.1;refine (qI (bd.ext ak) (by omega)).mono ?_;rintro cw cz _ ⟨ax,cB,cC,bR⟩;refine⟨.inl ax,?_⟩;have cD:=ax.size;refine (x9 (c:=min p.2 K) ((ap.ext ak).ext ax).is bR.ls).mono ?_;rintro _ cE _ ⟨_,bS⟩;have bT:cA (min p.2 K) K:=⟨aC,by have:=aC.1;omega,by omega⟩;obtain⟨rfl,bg,bV,bi,bj⟩:=bS ⟨bc.1,bT⟩;rw[aI];refine bB _ ⟨(Y.trans ((ak.trans ax).O _)).trans bg,bV,by have:=bi.2;omega,eR.put ((ap.ext ak).ext ax) bg bj,fun t=>?_⟩;rw[yP aY.1 aS,bi.cost ap.is.nodup bj.nodup];by_cases aH:t=p.1
  ·rw[if_pos aH,if_pos aH]
  ·rw[if_neg aH,if_neg aH,aR]
 ·rintro W bA ⟨Y,D,bb,ap,aR⟩;have au:Ext w W:=aQ.then Y (fun r I he=>by have he:r=m:=he;omega);have bW:Ext J W:=a8.then Y (fun r I he=>by have he:r=m:=he;omega);have bC:=Y.size;rw[an,ab];refine⟨fun h=>by omega,fun _=>?_⟩;rw[V bK.p rfl,aa (by kernel_rfl) ((ac.ext bW).cell (o:=0+0) rfl)];refine (qI ((ff h1).ext au) (by omega)).mono ?_;rintro aJ cF _ ⟨aK,bX,cG,aB⟩;have z12:=aK.size;rw[cH (cs:=#[aJ,.pointer (some ⟨ah,0,none⟩)]) (by obtain⟨_,_,_,rfl⟩:=bH aB.ls;kernel_rfl)];have bY:Ext a1 W:=((aF.trans ao).trans aG).then Y (fun r I he=>by have he:r=m:=he;omega);refine bN (vs:=[aJ,.pointer (some ⟨ah,0,none⟩)]) b1.i rfl rfl (by intro v av;simp at av;rcases av with rfl|rfl <;> first|exact aB.ls.cells.2|rfl) ((aE.ext bY).ext aK) fun bk aU cI b0=>?_;rw[ez b1.p b1.i rfl b0.range];have b2:eR bk ah m sv gs x.sizes K (min x.other K) D:=(ap.ext aK).O aU (fun he=>by have he:ah=aj:=he;omega) (fun he=>by have he:m=aj:=he;omega) (fun r I he=>by have he:r=aj:=he;have:=a7 r I;omega);have b3:am .i64 U bk bX aJ x.scope:=a6 aB aU fun r I he=>by have he:r=aj:=he;have:=(bn aB I).1;omega
  refine⟨(au.trans aK).then aU (fun r I he=>by have he:r=aj:=he;omega),_,(x.scope,⟨x.sizes,K,min x.other K,D⟩),rfl,rfl,?_,rfl,rfl,rfl,rfl,bb,fun t=>?_⟩
  ·exact⟨[aJ],[.pointer (some ⟨ah,0,none⟩)],bh,bh,rfl,fun _ h=>h,fun _ h=>h,fun _ _ h _=>h,j7 b3 fun r I=>by have:=(bn aB I).1;show w.heap.size≤r;omega,
    ⟨ah,m,sv,gs,rfl,b2,by show w.heap.size≤ah;omega,by show w.heap.size≤m;omega,fun r I=>by have:=a7 r I;show w.heap.size≤r;omega⟩⟩
  ·rw[aR,yO]
theorem GW {S R:ag} {f:fE} (h:ai.rep false S R w cs f):ai.rep (α:=fE) true bh R w cs f:=by
 obtain⟨c,d,A,B,rfl,h1,O,_,I,J⟩:=h;exact⟨c,d,bh,bh,rfl,fun _ h=>h,fun _ h=>h,fun _ _ h _=>h,I,J⟩
def qK (k:Int) (I:List bZ) (J:List fE):Prop:=J.length=I.length∧ ∀ (i:Nat) x f,I[i]? =some x→J[i]? =some f→ou k x f
set_option maxHeartbeats 4000000 in
theorem GX {W:Nat} {m:Bool} {S R:ag} {aF aq aO:x1} {K:Int} {Y:List bZ} {a2:x2→Prop} (a6:ae w W b4 [aF,.int .i64 K,aq,.slice none 0 0])
  (bn:ai.rep m S R w [aO] (show List fX from Y.map fD)) (bo:∀ r,S r∨R r→r≠W) (bp:∀ x∈Y,qJ K x) (ce:Y.length≤256)
  (bq:∀ w' aj,∀ ac:List fE,ad (fun r=>r=W) w w'→ae w' W b4 [aF,.int .i64 K,aq,aj]→Seen (fun r=>w.heap.size≤r) w' [aj] ac→qK K Y ac→a2 w'):
  bJ (.int .i64 0) w fun aP ao br=>
   I x3 (av .lss U false false aP (.int .i64 (Y.length:Int))) ao fun bt=>
   Split bt (I x3 (o6 hB aO aP) ao fun bx=>
   I x3 (x6 bK bx) ao fun bz=>
   ax x3 (T7 bK true (.tuple #[])) ao fun x bA=>
   ax x3 (o3 bK x bz) bA fun(_:Unit) bB=>
   cj bB fun am=>
   I x3 (aX (.pointer (some ⟨W,0,none⟩))) am fun ap=>
   I x3 (x7 b4 ap 3) am fun au=>
   I x3 (x6 c8 au) am fun aQ=>
   I x3 (x6 bK x) am fun bC=>
   af x3 r1 [(.pointer (some ⟨W,0,none⟩)),bC] am fun bD ay=>
    (Ext am ay∨bb x3 (x6 c8 au) aQ ay∧bb x3 (x7 b4 ap 3) au ay∧bb x3 (aX (.pointer (some ⟨W,0,none⟩))) ap ay∧True)∧
   ax x3 (Z4 c8 1 #[(0,bD)]) ay fun bE az=>
    (Ext am az∨bb x3 (x6 c8 au) aQ az∧bb x3 (x7 b4 ap 3) au az∧bb x3 (aX (.pointer (some ⟨W,0,none⟩))) ap az∧True)∧
    ax x3 (l9 #[c8,c8] c8 #[aQ,bE]) az fun bF aR=>
     I x3 (aX (.pointer (some ⟨W,0,none⟩))) aR fun bG=>
     I x3 (x7 b4 bG 3) aR fun bH=>
     ax x3 (o3 c8 bH bF) aR fun(_:Unit) a7=>
     I x3 (av .add U false true aP (.int .i64 1)) a7 fun bI=>
   br bI a7) (a2 ao):=by
 have cg:=a6.lt;have ch:(Y.map fD).length=Y.length:=by simp
 refine bJ.range Y.length (fun i J=>ad (fun r=>r=W) w J∧ ∃ aj,∃ ac:List fE,∃ A R':ag,ae J W b4 [aF,.int .i64 K,aq,aj]∧bi A R' J [aj] ac∧(∀ r,A r→w.heap.size≤r∧r<J.heap.size)∧(∀ r,R' r→w.heap.size≤r∧¬A r∧r<J.heap.size)∧qK K (Y.take i) ac) (by omega)
  ⟨ad.refl _ _,_,[],bh,bh,a6,fQ,fun _ h=>h.elim,fun _ h=>h.elim,rfl,fun i x f h=>by simp at h⟩ ?_ ?_
 rotate_left
 ·rintro J bL ⟨aA,aj,ac,A,R',aB,aS,ak,aC,aG⟩;rw[o9] at aG;rw[an,ab];refine⟨fun h=>by omega,fun _=>bq J aj ac aA aB (nK aS fun r _ h=>?_) aG⟩;exact h.elim (fun h=>(ak r h).1) fun h=>(aC r h).1
 rintro i J bL hi ⟨aA,aj,ac,A,R',aB,aS,ak,aC,a8,aG⟩ bM;obtain⟨x,aT⟩:∃ x,Y[i]? =some x:=⟨_,y0 hi⟩;have bP:=bp x (x5 aT);have ci:=aA.size;rw[o8] at a8;have bQ:ai.rep m S R J [aO] (show List fX from Y.map fD):=ai.O bn aA fun r _ h he=>bo r h he;rw[an,ab];refine⟨fun _=>?_,fun h=>by omega⟩;refine jV (α:=fX) (a:=fD x) bK.p rfl hB.u bK.i bQ (by show (Y.map fD)[i]? =_;rw[x8,aT];rfl) fun cs aU=>?_;have ba:cs.length=4:=ai.len aU;have bR:Seen (fun r=>S r∨R r) J cs (fD x):=nK aU fun r _ h=>h;refine bu bK.i fun al ck cl bc bS=>?_;have cm:=bc.size;refine bN (vs:=cs) bK.i ba rfl (ai.one aU) bS fun bT bV cn bW=>?_;have bX:Ext J bT:=bc.then bV (fun r ah he=>by have he:r=al:=he;omega);intro aH bd _ _;have aD:=bX.trans bd;have z4:=aD.size;rw[aw,V b4.p rfl,aa (by kernel_rfl) ((aB.ext aD).cell (o:=0+3) rfl),bw bK.p bK.i ba (bW.ext bd).range];refine (GV (aB.ext aD) (bO bR aD) bP).mono ?_;rintro _ aJ _ ⟨aK,bU,f,rfl,cp,be,bY⟩;have z5:=aK.size;refine⟨.inl aK,?_⟩;have bf:=GW be;have b0:=aD.trans aK;refine hF (α:=fE) (a:=f) (cs:=bU) (A:=bh) (R:=dV aH.heap.size) c8.u b1.i (by decide) (by
  obtain⟨c,d,cq,cr,he,_,_,_,aL,b2⟩:=be;have aL:ai.rep (α:=List Int) false bh _ aJ c f.1:=aL;obtain⟨u,rfl⟩:=X1.1 (show c.length=1 from ai.len aL);obtain⟨ct,cu,cw,cz,rfl,_⟩:=b2;obtain⟨_,_,_,rfl⟩:=j3 aL;cases he;rfl) bf fun u aV aM _ hu=>?_
 have cA:=aM.size;refine⟨.inl (aK.trans aM),?_⟩;have aW:=b0.trans aM;have b3:bi A (fun r=>R' r∨(aH.heap.size≤r∧r<aJ.heap.size)) aV [aj] ac:=bO (ai.mono aS (fun _ _ h=>h) fun _ _ h=>.inl h) aW;have b5:bi bh (fun r=>R' r∨(aH.heap.size≤r∧r<aJ.heap.size)) aV bU f:=bO (ai.mono bf (fun _ _ h=>h) fun r ah h=>.inr ⟨h,ah⟩) aM;refine lm (α:=fE) (a:=f) (A:=bh) c8.u b1.i rfl b3 hu b5 (fun r _ bg h=>?_) (by omega) (by omega) fun bj b6 aY aZ=>?_
 ·rcases h with h|h|h
  ·exact h
  ·exact (aC r h).2.1 bg
  ·have:=(ak r bg).2;omega
 have cB:=aZ.size;rw[aw,V b4.p rfl];have b7:=(aB.ext aW).O aZ (fun he=>by have:=(ak _ he).1;omega);refine bl (g:=W) (o:=3) c8.i (nM aY) (iZ aY) b7 (by simp) fun b8 bk cC a1=>?_;have a1:ae b8 W b4 [aF,.int .i64 K,aq,bj]:=a1;rw[aI];have b9:=jT aY;refine bM _ ⟨(fB (aA.trans (aW.O _)) aZ fun r ah he=>by have:=(ak _ he).1;omega).trans bk,bj,ac++[f],fun r=>((A r∨bh r∨aV.heap.size≤r)∧r<b6.heap.size),fun r=>R' r∨(aH.heap.size≤r∧r<aJ.heap.size),a1,ai.O b9 bk fun r _ h he=>?_,fun r ah=>?_,fun r ah=>?_,?_,fun j ca cb aN aE=>?_⟩
 ·have he:r=W:=he;rcases h with h|h|h
  ·rcases h.1 with h1|h1|h1
   ·have:=(ak _ h1).1;omega
   ·exact h1
   ·omega
  ·have:=(aC r h).1;omega
  ·omega
 ·have cD:=ah.2;rcases ah.1 with h1|h1|h1
  ·have:=(ak _ h1).1;omega
  ·exact h1.elim
  ·omega
 ·rcases ah with ah|ah
  ·have bm:=aC r ah;refine⟨bm.1,fun h=>?_,by omega⟩;rcases h.1 with h1|h1|h1
   ·exact bm.2.1 h1
   ·exact h1
   ·omega
  ·refine⟨by omega,fun h=>?_,by omega⟩;rcases h.1 with h1|h1|h1
   ·have:=(ak _ h1).2;omega
   ·exact h1
   ·omega
 ·rw[o5,o8,a8];simp;omega
 ·have cc:=(x4.1 aE).1;rw[o5,U8] at cc;rw[Z6 (by omega)] at aN;by_cases cd:j<ac.length
  ·rw[Z7 cd] at aE;exact aG j ca cb (by rw[Z6 (by omega)];exact aN) aE
  ·rw[Z8 (by omega),show j-ac.length=0 by omega] at aE;rw[show j=i by omega,aT] at aN;cases aE;cases aN;exact bY
def jm (w:x2) (O:Nat) (f:bP):Prop:=∃ aq I V,∃ J:List fE,ae w O b4 [bk f.name,.int .i64 f.k,aq,I]∧am .i64 U w V aq f.sizes∧Seen eN w [I] J∧qK f.k f.funs J
theorem jm.ext {f:bP} (h:jm w J f) (I:Ext w w'):jm w' J f:=by
 obtain⟨aq,O,U,V,h1,W,Y,aa⟩:=h;exact⟨aq,O,U,V,h1.ext I,W.ext I,bO Y I,aa⟩
def yZ (w:x2) (res:Option bP) (v:x1) (w':x2):Prop:=Ext w w'∧match res with
 |none=>∃ n e:Int,v= .tuple #[.pointer none,.int .i64 n,.int .i64 e]∧e≠0
 |some f=>∃ I,∃ n:Int,v= .tuple #[.pointer (some ⟨I,0,none⟩),.int .i64 n,.int .i64 0]∧jm w' I f
structure GY (clean:Bool) (so:Option aC) (name:List Int) (k:Int) (sizes:List Int) (acc:List fX) (res:Option bP):Prop where
 mO:∀ s,so=some s→s.toks=[]→clean=true→s.big=false→ ∃ fs,acc=fs.map fD∧res=some ⟨name,k,sizes,fs⟩∧(∀ x∈fs,qJ k x)∧fs.length≤256∧sizes.length≤1000000
 bad:res≠none→ ∃ s,so=some s∧s.toks=[]∧clean=true∧s.big=false
set_option maxHeartbeats 8000000 in
theorem GZ {w0:x2} {g:Nat} {A B S R:ag} {m:Bool} {so:Option aC} {name:List Int} {acc:List fX} {res:Option bP} {aq aT p:x1} {pl:List Int} {Q:x1→x2→Prop}
  (a2:fC w g gs A B clean so) (ay:GY clean so name k sizes acc res) (bQ:aB .i64 w aq sizes) (bR:∀ r,leads aq r→r≠g∧r≠gs) (bS:ai.rep m S R w [aT] acc) (br:∀ r,S r∨R r→r≠g∧r≠gs∧r<w.heap.size)
  (dl:so=none→True) (dm:g<w.heap.size) (dn:gs<w.heap.size) (bU:ad (fun r=>w0.heap.size≤r) w0 w) (dp:w0.heap.size≤g) (dq:w0.heap.size≤gs) (bV:aB .u8 w0 p pl)
  (aH:∀ v w',yZ w0 res v w'→Q v w'):
  be (α:=x2→Prop) (fun(W:x2)=>
  I x3 (aX (.pointer (some ⟨g,0,none⟩))) W fun bW=>
  I x3 (x7 bT bW 1) W fun bX=>
  I x3 (x7 ec bX 0) W fun bY=>
  I x3 (x6 dL bY) W fun bZ=>
  I x3 (av .neq dL false true bZ (.int .i64 0)) W fun b0=>
  Split b0 (cj W fun al=>
   I x3 (aX (.pointer (some ⟨g,0,none⟩))) al fun b1=>
   I x3 (x7 bT b1 1) al fun b2=>
   I x3 (x7 ec b2 2) al fun b3=>
   I x3 (x6 U b3) al fun b5=>
   I x3 (aX (.pointer (some ⟨g,0,none⟩))) al fun b6=>
   I x3 (x7 bT b6 1) al fun b8=>
   I x3 (x7 ec b8 0) al fun b9=>
   I x3 (x6 dL b9) al fun ca=>
   Q (.tuple #[(.pointer none),b5,ca]) al)
   (I x3 (aX (.pointer (some ⟨g,0,none⟩))) W fun cb=>
   I x3 (x7 bT cb 1) W fun cc=>
   I x3 (x7 ec cc 1) W fun cd=>
   I x3 (x6 dL cd) W fun ce=>
   I x3 (av .neq dL false true ce (.int .i64 0)) W fun cg=>
   Split cg (cj W fun am=>
   I x3 (aX (.pointer (some ⟨g,0,none⟩))) am fun ch=>
   I x3 (x7 bT ch 1) am fun ci=>
   I x3 (x7 ec ci 3) am fun ck=>
   I x3 (x6 U ck) am fun cl=>
   I x3 (aX (.pointer (some ⟨g,0,none⟩))) am fun cm=>
   I x3 (x7 bT cm 1) am fun cn=>
   I x3 (x7 ec cn 1) am fun cp=>
   I x3 (x6 dL cp) am fun cq=>
   Q (.tuple #[(.pointer none),cl,cq]) am)
   (af x3 vT [aq] W fun cr bt=>
  I x3 (Instr.build b4 #[(0,bk name),(1,.int .i64 k),(2,cr)]) bt fun ct=>
  ax x3 (Instr.box b4 ct) bt fun az bu=>
  I x3 (Z5 #[hB] U #[aT]) bu fun cu=>
  bJ (.int .i64 0) bu fun a6 aA cw=>
   I x3 (av .lss U false false a6 cu) aA fun cz=>
   Split cz (I x3 (o6 hB aT a6) aA fun cA=>
   I x3 (x6 bK cA) aA fun cB=>
   ax x3 (T7 bK true (.tuple #[])) aA fun x cC=>
   ax x3 (o3 bK x cB) cC fun(_:Unit) cD=>
   cj cD fun au=>
   I x3 (aX az) au fun aI=>
   I x3 (x7 b4 aI 3) au fun aJ=>
   I x3 (x6 c8 aJ) au fun a7=>
   I x3 (x6 bK x) au fun cE=>
   af x3 r1 [az,cE] au fun cF aK=>
    (Ext au aK∨bb x3 (x6 c8 aJ) a7 aK∧bb x3 (x7 b4 aI 3) aJ aK∧bb x3 (aX az) aI aK∧True)∧
   ax x3 (Z4 c8 1 #[(0,cF)]) aK fun cG aM=>
    (Ext au aM∨bb x3 (x6 c8 aJ) a7 aM∧bb x3 (x7 b4 aI 3) aJ aM∧bb x3 (aX az) aI aM∧True)∧
    ax x3 (l9 #[c8,c8] c8 #[a7,cG]) aM fun cI ba=>
     I x3 (aX az) ba fun cJ=>
     I x3 (x7 b4 cJ 3) ba fun cL=>
     ax x3 (o3 c8 cL cI) ba fun(_:Unit) bw=>
     I x3 (av .add U false true a6 (.int .i64 1)) bw fun cM=>
   cw cM bw)
    (I x3 (Z5 #[b7] U #[p]) aA fun cN=>
  Q (.tuple #[az,cN,(.int .i64 0)]) aA)))) fun aU=>
 af x3 iU [(.pointer (some ⟨g,0,none⟩))] w fun cO aN=>
 Split cO (I x3 (aX (.pointer (some ⟨g,0,none⟩))) aN fun cP=>
  I x3 (x7 bT cP 0) aN fun cQ=>
  I x3 (x6 pP cQ) aN fun cR=>
  af x3 r0 [cR] aN fun bc ap=>
  I x3 (j6 bc 0) ap fun dr=>
  I x3 (j6 bc 1) ap fun bx=>
  I x3 (j6 bc 2) ap fun bd=>
  I x3 (av .eql dL false true bd (.int .i64 0)) ap fun cS=>
  Split cS (af x3 k8 [(.pointer (some ⟨g,0,none⟩)),(.int .i64 4),bx] ap fun ds cT=>
  aU cT)
  (I x3 (av .eql dL false true bd (.int .i64 11)) ap fun cU=>
  Split cU (af x3 k8 [(.pointer (some ⟨g,0,none⟩)),bd,bx] ap fun dt cV=>
   aU cV)
   (aU ap)))
  (aU aN):=by
 refine c3 (fun W=>ad (fun r=>r=g∨r=gs) w W∧ ∃ (e big an ao told:Int) (sv:x1),ae W g bT (eQ gs e big an ao told sv)∧((e≠0∧res=none)∨(e=0∧ ∃ s,so=some s∧s.toks=[]∧clean=true∧(s.big=true↔big≠0)))) ?_ ?_
 rotate_left
 ·intro cW bf;refine (yz a2).mono ?_;rintro _ J _ ⟨rfl,aO⟩;cases so with
  |none=>
   rw[show (none:Option aC).isSome=false from rfl,aP];obtain⟨e,big,an,ao,told,sv,ac,bg⟩:=a2.ext aO;refine bf _ ⟨aO.O _,e,big,an,ao,told,sv,ac,.inl ⟨bg,?_⟩⟩;cases ak:res with
   |none=>rfl
   |some f=>obtain⟨s,h,_⟩:=ay.bad (by rw[ak];simp);cases h
  |some s=>
   rw[show (some s:Option aC).isSome=true from rfl,bC];have cX:cK J g gs A B s clean:=a2.ext aO;obtain⟨aV,cY,cZ,big,an,ao,told,sv,ac,bg,c0⟩:=id cX;rw[aw,V bT.p rfl,aa (by kernel_rfl) (ac.cell (o:=0+0) rfl)];refine (n2 cY).mono ?_;rintro v aQ _ ⟨aE,aF⟩;have c1:(s.toks≠[]∨clean=false)→res=none:=fun Y=>by
    cases ak:res with
    |none=>rfl
    |some f=>
     obtain⟨s',h,aR,bz,_⟩:=ay.bad (by rw[ak];simp);cases h;rcases Y with Y|Y
     ·exact absurd aR Y
     ·rw[Y] at bz;cases bz
   have aW:∀ ah,ad (fun r=>r=g) aQ ah→dG ah g gs A B→(s.toks≠[]∨clean=false)→cW ah:=fun ah aS aW Y=>by
    obtain⟨_,e,big,an,ao,told,sv,l,c2,c4,_⟩:=aW;exact bf _ ⟨((aO.O _).trans (aE.mono fun r _ h=>.inr h)).trans (aS.mono fun r _ h=>.inl h),e,big,an,ao,told,sv,c2,.inl ⟨c4.1,c1 Y⟩⟩
   have bh:=ac.O aE aV.1;have bA:=ai.O c0 aE fun r _ h aR=>by
    have aR:r=gs:=aR;subst aR;rcases h with h|h
    ·exact aV.2.2.1 h
    ·exact h.1 (.inr (.inl rfl))
   have bB:s.shared.length≤100000:=by have:=cZ.2.2;omega
   cases aG:s.toks with
   |cons t l=>
    rw[aG] at aF;obtain⟨du,n,rfl⟩:=aF;rw[aD (v:=bk t) rfl,aD (v:=.int .i64 n) rfl,aD (v:=.int .i64 0) rfl,a8,ab];refine⟨fun _=>?_,fun h=>absurd rfl h⟩;refine (qh (aV.O aE) bh bA (by omega) bB).mono ?_;rintro _ ah _ ⟨aS,bi⟩;exact aW ah aS bi (.inl (by rw[aG];simp))
   |nil=>
    rw[aG] at aF;obtain⟨n,rfl⟩:=aF;rw[aD (v:=bk []) rfl,aD (v:=.int .i64 n) rfl,aD (v:=.int .i64 (if clean then 2 else 11)) rfl,a8,ab];refine⟨fun h=>by cases clean <;> simp at h,fun _=>?_⟩;rw[a8,ab];cases aY:clean with
    |true=>
     subst aY;refine⟨fun h=>by simp at h,fun _=>bf _ ⟨(aO.O _).trans (aE.mono fun r _ h=>.inr h),0,big,an,ao,told,sv,bh,.inr ⟨rfl,s,rfl,aG,rfl,bg.1⟩⟩⟩
    |false=>
     subst aY;refine⟨fun _=>?_,fun h=>absurd rfl h⟩;refine (qh (aV.O aE) bh bA (by simp) bB).mono ?_;rintro _ ah _ ⟨aS,bi⟩;exact aW ah aS bi (.inr rfl)
 ·rintro J ⟨aZ,e,big,an,ao,told,sv,ac,c5⟩;have dv:=aZ.size;have bj:Ext w0 J:=(bU.ext fun r ak h=>by omega).then aZ (fun r ak h=>by rcases h with h|h <;> omega);rw[aw,V bT.p rfl,V ec.p rfl,aa (by kernel_rfl) (ac.cell (o:=0+1+0) rfl),bF,ab];rcases c5 with⟨he,bl⟩|⟨rfl,s,rfl,aG,aY,bD⟩
  ·refine⟨fun _=>?_,fun h=>absurd he h⟩;intro aQ aj _ _;rw[aw,V bT.p rfl,V ec.p rfl,aa (by kernel_rfl) ((ac.ext aj).cell (o:=0+1+2) rfl),aw,V bT.p rfl,V ec.p rfl,aa (by kernel_rfl) ((ac.ext aj).cell (o:=0+1+0) rfl)];rw[bl] at aH;exact aH _ _ ⟨bj.trans aj,an,e,rfl,he⟩
  ·refine⟨fun h=>absurd rfl h,fun _=>?_⟩;rw[aw,V bT.p rfl,V ec.p rfl,aa (by kernel_rfl) (ac.cell (o:=0+1+1) rfl),bF,ab];refine⟨fun Y=>?_,fun Y=>?_⟩
   ·have bl:res=none:=by
     cases ak:res with
     |none=>rfl
     |some f=>
      obtain⟨s',h,_,_,bE⟩:=ay.bad (by rw[ak];simp);cases h;rw[bD.2 Y] at bE;cases bE
    intro aQ aj _ _;rw[aw,V bT.p rfl,V ec.p rfl,aa (by kernel_rfl) ((ac.ext aj).cell (o:=0+1+3) rfl),aw,V bT.p rfl,V ec.p rfl,aa (by kernel_rfl) ((ac.ext aj).cell (o:=0+1+1) rfl)];rw[bl] at aH;exact aH _ _ ⟨bj.trans aj,ao,big,rfl,Y⟩
   ·have c6:s.big=false:=by
     cases c7:s.big with
     |false=>rfl
     |true=>exact absurd (bD.1 c7) Y
    obtain⟨bm,rfl,rfl,c9,da,db⟩:=ay.mO s rfl aG aY c6;have dc:aB .i64 J aq sizes:=hW bQ aZ fun r ak a n c aF ay=>by
     have:=bR r ⟨a,n,c,aF,ay⟩;exact ak.elim this.1 this.2
    refine (qI dc db).mono ?_;rintro bn aQ _ ⟨aj,dd,dw,bo⟩;have dx:=aj.size;rw[cH (cs:=#[bk name,.int .i64 k,bn,.slice none 0 0]) (by obtain⟨_,_,_,rfl⟩:=bH bo.ls;kernel_rfl)];refine bL fun bp ah dy bq a1=>?_;have a1:ae ah bp b4 [bk name,.int .i64 k,bn,.slice none 0 0]:=by obtain⟨_,_,_,rfl⟩:=bH bo.ls;exact a1
    have bG:ai.rep m S R ah [aT] (show List fX from bm.map fD):=bO (bO (ai.O bS aZ fun r _ h he=>by have:=br r h;exact he.elim this.1 this.2.1) aj) bq;have de:(bm.map fD).length=bm.length:=by simp
    rw[fR hB.u bG,de];refine GX a1 bG (fun r h=>by have:=br r h;omega) c9 da fun bI df dg dh di dj dk=>?_;have dz:=a1.lt;have z3:=bq.size;have bM:Ext aQ bI:=bq.then dh (fun r ak h=>by have h:r=bp:=h;omega);have bN:Ext w0 bI:=(bj.trans aj).trans bM;rw[aL b7.u (bV.ext bN)];exact aH _ _ ⟨bN,bp,_,rfl,bn,df,dd,dg,di,bo.ext bM,iY dj,dk⟩
theorem y1 {α:Type} {f:List α→aC→Option (α×aC)} {acc:List α} {s:aC}:eD f (n+1) acc (some s)=match f acc s with
  |none=>none
  |some (a,s')=>eD f n (acc++[a]) (some s'):=by
 show ch f (n+1) acc s=_;simp only[ch];cases f acc s <;> rfl
set_option maxHeartbeats 4000000 in
theorem G0 {g:Nat} {A B:ag} {s:Option aC} {most:Int} {aB:x1→x2→Prop} (h:cM w g gs A B clean s) (a7:(N:Int)≤ao)
  (aE:∀ aq w' l so U,ad (bj g gs A) w w'→cM w' g gs A B clean so→am .i64 ak w' U aq l→w.heap.size≤U→l.length≤100001→(∀ q,eD (e2 most) N [] s=some q→so=some q.2∧l=q.1)→(eD (e2 most) N [] s=none→so=none)→aB aq w'):
 bt (.slice none 0 0) (.int .i64 0) w fun sizes i ai k=>
  be (α:=x1→x2→Prop) (fun(a8:x1) (aF:x2)=>
   Split a8 (af x3 k7 [.pointer (some ⟨g,0,none⟩),(.int .i64 1),.int .i64 most] aF fun aG aa=>
  I x3 (j6 aG 0) aa fun aH=>
  I x3 (j6 aG 1) aa fun ba=>
  I x3 (av .gtr ak false true aH (.int .i64 32)) aa fun bb=>
  af x3 nB [.pointer (some ⟨g,0,none⟩),bb,ba] aa fun bT bc=>
  ax x3 (Z4 au 1 #[(0,aH)]) bc fun bd bf=>
  ax x3 (l9 #[au,au] au #[sizes,bd]) bf fun bg aJ=>
  I x3 (av .add ak false true i (.int .i64 1)) aJ fun bh=>
  k bg bh aJ) (aB sizes aF)) fun aj=>
  I x3 (av .lss ak false false i (.int .i64 (N:Int))) ai fun bi=>
  Split bi (af x3 iU [.pointer (some ⟨g,0,none⟩)] ai fun bk bl=>
  aj bk bl)
   (aj (.bool false) ai):=by
 obtain⟨bU,aK,bV,bm,bo⟩:=h.side;have ah:∀ r,bj g gs A r→r<w.heap.size:=bm;unfold ao at a7;generalize bp:eD (e2 most) N [] s=aL at aE;refine⟨fun out al J=>∃ (i:Nat) (l:List Int) (so:Option aC) (U:Nat),al= .int .i64 (i:Int)∧i≤N∧ad (bj g gs A) w J∧am .i64 ak J U out l∧w.heap.size≤U∧cM J g gs A B clean so∧aL=eD (e2 most) (N-i) l so∧l.length≤100001∧ ∀ st,so=some st→l.length+st.toks.length≤100000,
  fun _ al _=>N-(bB al).toNat,⟨0,[],s,w.heap.size,rfl,Y7 _,ad.refl _ _,am.nil _ _ _ _,o7 _,h,bp.symm,by simp,fun st bq=>?_⟩,?_⟩
 ·subst bq;have:=h.words;simpa using this
 rintro out _ J ⟨i,l,so,U,rfl,bW,ap,aN,br,aO,ac,bu,aQ⟩;refine aM (fun v aR=>Ext J aR∧((v= .bool true∧i<N∧ ∃ st,so=some st)∨(v= .bool false∧(so=none∨i=N)))) ?_ ?_
 rotate_left
 ·intro aj aw;rw[an,ab];refine⟨fun bw=>?_,fun bX=>aw _ _ ⟨Ext.refl _,.inr ⟨rfl,.inr (by omega)⟩⟩⟩;refine (mT aO).mono ?_;rintro _ aR _ ⟨rfl,aS⟩;cases so with
  |none=>exact aw _ _ ⟨aS,.inr ⟨rfl,.inl rfl⟩⟩
  |some st=>exact aw _ _ ⟨aS,.inl ⟨rfl,by omega,st,rfl⟩⟩
 rintro _ bx ⟨Y,bz⟩;have aT:=aN.ext Y;have aV:=aO.ext Y;rcases bz with⟨rfl,bw,st,rfl⟩|⟨rfl,bD⟩
 rotate_left
 ·rw[aP];have aX:aL=so.map fun st=>(l,st):=by
   rcases bD with rfl|rfl
   ·exact ac
   ·rw[V2] at ac;rw[ac];cases so <;> rfl
  refine aE out bx l so U (ap.trans (Y.O _)) aV aT br bu (fun q V=>?_) fun aZ=>?_
  ·rw[aX] at V;cases so with
   |none=>cases V
   |some st=>cases V;exact⟨rfl,rfl⟩
  ·rw[aX] at aZ;cases so with
   |none=>rfl
   |some st=>cases aZ
 rw[bC];have aQ:=aQ st rfl;refine (j2 (s:=some st) aV).mono ?_;rintro _ bY _ ⟨ay,z,at_,rfl,bE,bZ⟩;obtain⟨az,bF⟩:=ay.of;rw[aD (v:=.int .i64 z) rfl,aD (v:=.int .i64 at_) rfl,bA];refine (ol bF).mono ?_;rintro _ b0 _ ay;obtain⟨aA,bG⟩:=ay.of;refine dx au.u ak.i rfl fun a aW bH b1 ae bI=>?_;have b2:=ap.size;have b4:=Y.size;have z3:=az.size;have z4:=aA.size;have z5:=ae.size;have a1:∀ r,leads out r→¬bj g gs A r:=fun r W bJ=>by have:=ah r bJ;have:=(bn aN W).1;omega
 have bK:=a6 (a6 aT az a1) aA a1;refine hb au.u ak.i rfl (bK.ext ae) bI.ls (by simp;omega) (by simp;omega) fun b5 bL bM b6 bN a2=>?_;rw[aI,wrap_i64 (by omega) (by omega)];have bO:ad (bj g gs A) w bH:=((((ap.trans (Y.O _)).trans az).trans aA).trans (ae.O _));have bP:ad (bj g gs A) w bM:=fB bO a2 fun r W he=>by have he:r=U:=he;omega
 have bQ:∀ r,bj g gs A r→¬(fun r=>r=U) r:=fun r W he=>by have:=ah r W;have he:r=U:=he;omega
 have bR:∀ r,b3 g gs A B r→¬(fun r=>r=U) r:=fun r W he=>by have:=bo r W.2;have he:r=U:=he;omega
 refine⟨⟨i+1,l++[z],_,bL,rfl,by omega,bP,bN,by omega,(bG.ext ae).O a2 bQ bR,?_,by simp;omega,fun b7 bS=>?_⟩,by simp only[bB];omega⟩
 ·rw[ac,show N-i=(N-(i+1))+1 by omega,y1];unfold e2;cases V:aY 1 most st with
  |none=>have e:aU 1 most (some st)=none:=V;rw[e];rfl
  |some q=>
   have e:aU 1 most (some st)=some q:=V;have:=bE q e;subst this;rw[e];rfl
 ·obtain⟨b8,aK,rfl⟩:=Y1.1 bS;obtain⟨q,V,rfl⟩:=Y1.1 aK;have h1:=(c6 (n:=q.1) (s':=q.2) V).1;simp only[o5,U8];show l.length+1+q.2.toks.length≤100000;omega
theorem G1 {acc:List (List Int×Int)} {s s':aC} {a:List Int×Int} (h:dg sizes acc s=some (a,s')):s'.told=s.told∧s'.big=s.big:=by
 obtain⟨_,_,_,I⟩:=mK h;exact⟨I.eqs.1,I.eqs.2.1⟩
theorem G2 {s s':aC} {l:List (List Int×Int)} (hi:di s) (h:dh sizes s=some (l,s')):di s'∧(s.big=true→s'.big=true):=by
 have e:=yw sizes (some s);rw[show hj sizes (some s)=dh sizes s from rfl,h] at e;cases U:aU (-ao) ao (some s) with
 |none=>rw[U] at e;cases e
 |some q=>
  obtain⟨n,J⟩:=q;rw[U] at e;simp only at e;have h1:=(c6 (n:=n) (s':=J) U).eqs;have Y:di J:=fun I=>by rw[h1.1];rw[h1.2.1] at I;exact hi I
  split at e
  ·cases W:J.shared[(-n-1).toNat]? with
   |none=>rw[W] at e;cases e
   |some q=>
    obtain⟨z,l'⟩:=q;rw[W] at e;simp only at e;split at e
    ·cases e;exact⟨Y,fun I=>by rw[h1.2.1];exact I⟩
    ·cases e
  ·have:=iv (f:=dg sizes) (fun acc t=>t.told=(h2 n J).told∧t.big=(h2 n J).big) (fun acc t a aa ⟨V,O⟩ g=>by
    have:=G1 g;exact⟨by rw[this.1,V],by rw[this.2,O]⟩) n.toNat [] _ l s' ⟨rfl,rfl⟩ e.symm
   obtain⟨⟨V,O⟩,_⟩:=this;refine⟨fun I=>by rw[V];rw[O] at I;exact Gk n J I,fun I=>?_⟩;rw[O];show (J.big||_)=true;rw[h1.2.1,I];rfl
theorem G3 {s s':aC} {x:bZ} (hi:di s) (h:cF all s=some (x,s')):di s'∧s'.toks.length<s.toks.length:=by
 unfold cF at h;cases U:aY (-ao) ao s with
 |none=>rw[U] at h;cases h
 |some q=>
 obtain⟨a,ae⟩:=q;rw[U] at h;simp only at h;have t0:=c6 U;cases h1:ee all.length a.natAbs ae with
 |none=>rw[h1] at h;cases h
 |some q=>
 obtain⟨sc,J⟩:=q;rw[h1] at h;simp only at h;obtain⟨V,_⟩:=sI h1;generalize sc.map (fun v=>all.getD v.toNat 0)=sizes at h;cases W:aY 0 ao (aV (decide (6<a.natAbs)||cS sizes) J) with
 |none=>rw[W] at h;cases h
 |some q=>
 obtain⟨other,Y⟩:=q;rw[W] at h;simp only at h;have aa:=c6 W;have af:di Y:=fun I=>by
  rw[aa.eqs.1];rw[aa.eqs.2.1] at I;have I:(J.big||_)=false:=I;have ac:=(T3.1 I).1;show J.told≤16384;rw[V.eqs.1,t0.eqs.1];rw[V.eqs.2.1,t0.eqs.2.1] at ac;exact hi ac
 cases O:dh sizes Y with
 |none=>rw[O] at h;cases h
 |some q=>
 obtain⟨lines,ab⟩:=q;rw[O] at h;simp only[Y3,U9] at h;obtain⟨_,rfl⟩:=h;have ag:=G2 af O;have aj:=yD O;have ak:=t0.1;have al:=V.1;have am:J.toks.length=Y.toks.length+1:=aa.1;have ad:∀ t:aC,t.told=ab.told∧t.big=ab.big∧t.toks=ab.toks→di t∧t.toks.length<s.toks.length:=fun t ⟨ah,ai,a3⟩=>⟨fun I=>by rw[ah];rw[ai] at I;exact ag.1 I,by rw[a3];omega⟩;split
 ·exact ad _ ⟨rfl,rfl,rfl⟩
 ·exact ad _ ⟨rfl,rfl,rfl⟩
theorem G4 {S R:ag} {x:fX} (h:ai.rep false S R w cs x):ai.rep (α:=fX) true bh R w cs x∧(x1.agg cs.toArray).cells=cs.toArray:=by
 obtain⟨U,d1,Y,aa,rfl,_,_,_,h1,V,d2,ab,ac,rfl,_,_,_,I,W,d3,ad,ae,rfl,_,_,_,O,J⟩:=h;have h1:ai.rep (α:=List Int) false bh R w U x.1:=h1;have I:ai.rep (α:=List Int) false bh R w V x.2.1:=I;have O:W=[.int .i64 x.2.2.1]:=O;have J:ai.rep (α:=List (List Int×Int)) false bh R w d3 x.2.2.2:=J;refine⟨⟨U,_,bh,bh,rfl,fun _ h=>h,fun _ h=>h,fun _ _ h _=>h,h1,V,_,bh,bh,rfl,fun _ h=>h,fun _ h=>h,fun _ _ h _=>h,I,W,d3,bh,bh,rfl,fun _ h=>h,fun _ h=>h,fun _ _ h _=>h,O,J⟩,?_⟩;obtain⟨u,rfl⟩:=X1.1 (show U.length=1 from ai.len h1);obtain⟨v,rfl⟩:=X1.1 (show V.length=1 from ai.len I);obtain⟨y,rfl⟩:=X1.1 (show d3.length=1 from ai.len J);obtain⟨_,_,_,rfl⟩:=j3 h1;obtain⟨_,_,_,rfl⟩:=j3 I;obtain⟨_,_,_,rfl⟩:=j3 J;subst O;rfl
set_option maxHeartbeats 8000000 in
theorem G5 {w0:x2} {g c:Nat} {A B:ag} {o:Option aC} {aq:x1} {a7:x1→x2→Prop} (a8:fC w g gs A B clean o) (hi:∀ s,o=some s→di s) (bT:(c:Int)≤ao)
  (bU:aB .i64 w aq all) (ba:∀ r,leads aq r→r≠g∧r≠gs∧r<w.heap.size∧(o≠none→¬A r)) (bV:o≠none→ ∀ z∈all,1≤z∧z≤ao) (bW:all.length≤100001) (bX:ep w) (h1:1<w0.heap.size∧(o≠none→b3 g gs A B 1))
  (bb:ad (fun r=>w0.heap.size≤r) w0 w) (bY:w0.heap.size≤g) (b0:w0.heap.size≤gs) (cM:g<w.heap.size∧gs<w.heap.size) (b1:o≠none→ ∀ r,A r→w0.heap.size≤r)
  (bc:∀ au w' acc so ac Y bd bf,ad (fun r=>w0.heap.size≤r) w0 w'→w.heap.size≤w'.heap.size→fC w' g gs ac Y clean so→ai.rep (α:=List fX) true bd bf w' [au] acc→(∀ r,bd r∨bf r→r≠g∧r≠gs∧r<w'.heap.size)→aB .i64 w' aq all→
   (∀ q,eD (fun _ s=>cF all s) c [] o=some q→so=some q.2∧acc=q.1.map fD)→(eD (fun _ s=>cF all s) c [] o=none→so=none)→a7 au w'):
 bt (.slice none 0 0) (.int .i64 0) w fun funs bg aS b2=>
  be (α:=x1→x2→Prop) (fun(b4:x1) (bk:x2)=>
   Split b4 (af x3 vS [.pointer (some ⟨g,0,none⟩),aq] bk fun b5 b6=>
  ax x3 (Z4 hB 1 #[(0,b5)]) b6 fun b7 b8=>
  ax x3 (l9 #[hB,hB] hB #[funs,b7]) b8 fun b9 bl=>
  I x3 (av .add ak false true bg (.int .i64 1)) bl fun ca=>
  b2 b9 ca bl) (a7 funs bk)) fun bm=>
  I x3 (av .lss ak false false bg (.int .i64 (c:Int))) aS fun cb=>
  Split cb (af x3 iU [.pointer (some ⟨g,0,none⟩)] aS fun cc cd=>
  bm cc cd)
   (bm (.bool false) aS):=by
 unfold ao at bT;generalize V:eD (fun _ s=>cF all s) c [] o=bn at bc;have bo:∀ s,o=some s→o≠none:=fun s h=>by rw[h];simp
 refine⟨fun au aT J=>∃ (i:Nat) (acc:List fX) (aj:List bZ) (so:Option aC) (aa am ae aw:ag),aT= .int .i64 (i:Int)∧i≤c∧ad (fun r=>w0.heap.size≤r) w0 J∧w.heap.size≤J.heap.size∧fC J g gs aa am clean so∧ai.rep true ae aw J [au] acc∧
   aB .i64 J aq all∧ep J∧bn=eD (fun _ s=>cF all s) (c-i) aj so∧(∀ r,ae r→w.heap.size≤r∧r<J.heap.size)∧(∀ r,aw r→r≠g∧r≠gs∧¬ae r)∧
   ∀ s,so=some s→acc=aj.map fD∧di s∧aj.length+s.toks.length≤100000∧o≠none∧(∀ r,aa r→A r∨w.heap.size≤r)∧(∀ r,aa r→w0.heap.size≤r)∧(∀ r,B r→am r)∧(∀ r,ae r→¬am r∧¬aa r)∧(∀ r,aw r→b3 g gs aa am r),
  fun _ aT _=>c-(bB aT).toNat,⟨0,[],[],o,A,B,bh,bh,rfl,Y7 _,bb,o7 _,a8,fQ,bU,bX,V.symm,fun _ h=>h.elim,fun _ h=>h.elim,fun s aJ=>⟨rfl,hi s aJ,?_,bo s aJ,fun r U=>.inl U,b1 (bo s aJ),fun r U=>U,fun _ h=>h.elim,fun _ h=>h.elim⟩⟩,?_⟩
 ·subst aJ;have aU:cK w g gs A B s clean:=a8;have:=aU.2.1.words.1;simpa using this
 rintro au _ J ⟨i,acc,aj,so,aa,am,ae,aw,rfl,cN,ce,cO,bp,cg,aV,bq,aK,ah,ch,br⟩;refine aM (fun v bu=>Ext J bu∧((v= .bool true∧i<c∧ ∃ st,so=some st)∨(v= .bool false∧(so=none∨i=c)))) ?_ ?_
 rotate_left
 ·intro cP aW;rw[an,ab];refine⟨fun bw=>?_,fun cQ=>aW _ _ ⟨Ext.refl _,.inr ⟨rfl,.inr (by omega)⟩⟩⟩;refine (yz bp).mono ?_;rintro _ bu _ ⟨rfl,bx⟩;cases so with
  |none=>exact aW _ _ ⟨bx,.inr ⟨rfl,.inl rfl⟩⟩
  |some st=>exact aW _ _ ⟨bx,.inl ⟨rfl,by omega,st,rfl⟩⟩
 rintro _ ay ⟨ap,ci⟩;have cR:=ap.size;have aE:=bp.ext ap;have bz:=bO cg ap;have bA:ad (fun r=>w0.heap.size≤r) w0 ay:=ce.trans (ap.O _);rcases ci with⟨rfl,bw,st,rfl⟩|⟨rfl,cj⟩
 rotate_left
 ·rw[aP];have bD:bn=so.map fun st=>(aj,st):=by
   rcases cj with rfl|rfl
   ·exact aK
   ·rw[V2] at aK;rw[aK];cases so <;> rfl
  refine bc au ay acc so aa am ae (fun r=>aw r∧r<ay.heap.size) bA (by omega) aE (ai.mono bz (fun _ _ h=>h) fun r U h=>⟨h,U⟩) (fun r U=>?_) (aV.ext ap) (fun q al=>?_) fun bE=>?_
  ·rcases U with U|U
   ·have:=ah r U;exact⟨by omega,by omega,by omega⟩
   ·have:=ch r U.1;exact⟨this.1,this.2.1,U.2⟩
  ·rw[bD] at al;cases so with
   |none=>cases al
   |some st=>cases al;exact⟨rfl,(br _ rfl).1⟩
  ·rw[bD] at bE;cases so with
   |none=>rfl
   |some st=>cases bE
 rw[bC];obtain⟨rfl,bF,cS,aL,bG,aX,bH,aN,bI⟩:=br st rfl;have aE:cK ay g gs aa am st clean:=aE;obtain⟨cT,cU,cV,cW,cX⟩:=aE.1;have ck:=h1.2 aL;have bJ:b3 g gs aa am 1:=⟨fun V=>by
  rcases V with V|V|V
  ·omega
  ·omega
  ·have:=aX 1 V;omega,bH 1 ck.2⟩
 have bL:∀ r,leads aq r→¬bj g gs aa r∧r<ay.heap.size:=fun r U=>by
  obtain⟨cl,cm,cn,cp⟩:=ba r U;refine⟨fun V=>?_,by omega⟩;rcases V with V|V|V
  ·exact cl V
  ·exact cm V
  ·rcases bG r V with h|h
   ·exact cp aL h
   ·omega
 refine (Gw aE bF (aV.ext ap) bL (bV aL) bW (bq.ext ap) bJ).mono ?_;rintro _ cq _ ⟨ac,Y,cs,aY,rfl,cY,aF,aG,aZ,bM,bN,cr,ct⟩;have z3:=aF.size;obtain⟨bP,cu⟩:=G4 cr;refine hF (α:=fX) (a:=aY) (cs:=cs) (A:=bh) (R:=b3 g gs ac Y) hB.u bK.i (by decide) cu bP fun u aO az _ hu=>?_;have z4:=az.size;have cw:∀ r,r<ay.heap.size→ae r∨aw r→¬bj g gs aa r:=fun r U h V=>by
  rcases h with h|h
  ·have W:=ah r h;rcases V with V|V|V
   ·omega
   ·omega
   ·exact (aN r h).2 V
  ·exact (bI r h).1 V
 have cz:∀ r,r<ay.heap.size→b3 g gs aa am r→b3 g gs ac Y r:=fun r U h=>⟨fun V=>h.1 (V.imp id (Or.imp id fun V=>(aG r V).elim id fun h'=>by omega)),bM r h.2⟩;have cA:bi ae (b3 g gs ac Y) aO [au] (aj.map fD):=bO (ai.O (ai.mono (S':=ae) (R':=fun r=>b3 g gs ac Y r∧aw r) bz (fun _ _ h=>h) fun r U h=>⟨cz r U (bI r h),h⟩) aF fun r U h=>cw r U (h.imp id fun h=>h.2) |> fun h=>h) az |> fun h=>ai.mono h (fun _ _ h=>h) fun _ _ h=>h.1;have aQ:∀ r,ae r→¬Y r:=fun r h aR=>by
  have W:=ah r h;rcases (aZ r aR).1 with aA|aA
  ·exact (aN r h).1 aA
  ·have a1:=(ah r h).2;omega
 have cZ:(aj.map fD).length=aj.length:=by simp
 refine lm (α:=fX) (a:=aY) (A:=bh) hB.u bK.i rfl cA hu (bO bP az) (fun r _ cB h=>?_) (by omega) (by omega) fun c0 aD cC aH=>?_
 ·rcases h with h|h
  ·exact h
  ·exact aQ r cB h.2
 have z5:=aH.size;rw[aI,wrap_i64 (by omega) (by omega)];have cD:ad (fun r=>w0.heap.size≤r) w0 aO:=(bA.trans (aF.mono fun r _ V=>by
  rcases V with rfl|rfl|V
  ·exact bY
  ·exact b0
  ·exact aX r V)).trans (az.O _)
 have z0:=bb.size;have cE:ad (fun r=>w0.heap.size≤r) w0 aD:=cD.trans (aH.mono fun r _ h=>by have:=(ah r h).1;omega);have cG:aB .i64 aO aq all:=(hW (aV.ext ap) aF fun r U a n c a2 a6=>(bL r ⟨a,n,c,a2,a6⟩).1 U).ext az;have cH:aB .i64 aD aq all:=hW cG aH fun r U a n c a2 a6=>by
  have cn:=(ba r ⟨a,n,c,a2,a6⟩).2.2.1;have:=(ah r U).1;omega
 have cI:ep aD:=(((bq.ext ap).O aF bJ.1).ext az).O aH fun h=>by have:=(ah 1 h).1;omega
 have bQ:fC aD g gs ac Y clean ((cF all st).map (·.2)):=by
  refine fC.O (bN.ext az) aH (fun h=>by have:=ah _ h;omega) (fun r U c1 h=>?_) (fun r U h=>aQ r h U.2);have W:=ah r h;rcases U with rfl|rfl|U
  ·omega
  ·omega
  ·rcases aG r U with aA|aA
   ·exact (aN r h).2 aA
   ·omega
 have cJ:=jT cC;refine⟨⟨i+1,(aj.map fD)++[aY],aj++((cF all st).map (·.1)).toList,(cF all st).map (·.2),ac,Y,fun r=>(ae r∨bh r∨aO.heap.size≤r)∧r<aD.heap.size,b3 g gs ac Y,rfl,by omega,cE,by omega,bQ,cJ,cH,cI,?_,fun r U=>⟨?_,U.2⟩,fun r U=>⟨fun h=>U.1 (.inl h),fun h=>U.1 (.inr (.inl h)),fun h=>?_⟩,fun s' cL=>?_⟩,by simp only[bB];omega⟩
 ·rw[aK,show c-i=(c-(i+1))+1 by omega,y1];cases al:cF all st with
  |none=>rfl
  |some q=>rfl
 ·rcases U.1 with h|h|h
  ·exact (ah r h).1
  ·exact h.elim
  ·omega
 ·rcases h.1 with W|W|W
  ·exact aQ r W U.2
  ·exact W
  ·have:=(aZ r U.2).2;omega
 ·obtain⟨q,al,rfl⟩:=Y1.1 cL;have W:=G3 (s':=q.2) (x:=q.1) bF al;have aA:=ct q al;refine⟨?_,W.1,?_,aL,fun r U=>?_,fun r U=>?_,fun r U=>bM r (bH r U),fun r U=>⟨fun aR=>?_,fun bR=>?_⟩,fun r U=>U⟩
  ·rw[al,aA];simp
  ·rw[al];simp only[Z2,Z0,o5,U8];omega
  ·rcases aG r U with h|h
   ·exact bG r h
   ·exact .inr (by omega)
  ·rcases aG r U with h|h
   ·exact aX r h
   ·omega
  ·rcases U.1 with W|W|W
   ·exact aQ r W aR
   ·exact W
   ·have:=(aZ r aR).2;omega
  ·have c2:fC aD g gs ac Y clean ((cF all st).map (·.2)):=bQ;have bS:=bN;rw[al] at bS;have aU:cK cq g gs ac Y q.2 clean:=bS;have bw:=aU.1.2.2.2.1 r (.inr (.inr bR));rcases U.1 with W|W|W
   ·rcases aG r bR with a1|a1
    ·exact (aN r W).2 a1
    ·have:=(ah r W).2;omega
   ·exact W
   ·omega
theorem di.num {lo hi n:Int} {s s':aC} (J:di s) (h:aY lo hi s=some (n,s')):di s':=fun I=>by
 have h1:=(c6 h).eqs;rw[h1.1];rw[h1.2.1] at I;exact J I
theorem di.big {b:Bool} {s:aC} (h:di s):di (aV b s):=fun I=>by
 have I:(s.big||b)=false:=I;exact h (T3.1 I).1
theorem di.word {w:List Int} {s s':aC} (h:di s) (hw:df s=some (w,s')):di s':=fun I=>by
 have h1:=(qe hw).2;rw[h1] at I ⊢;exact h I
theorem G6 {most:Int} {s s':aC} (hi:di s) (hm:most≤ao) (h:ch (e2 most) N [] s=some (l,s')):di s'∧(∀ z∈l,1≤z∧z≤ao)∧l.length+s'.toks.length≤s.toks.length:=by
 have:=iv (f:=e2 most) (fun acc t=>di t∧(∀ z∈acc,1≤z∧z≤ao)∧acc.length+t.toks.length≤s.toks.length) (fun acc t a W ⟨h1,O,Y⟩ g=>by
  unfold e2 at g;cases I:aY 1 most t with
  |none=>rw[I] at g;cases g
  |some q=>
   obtain⟨z,U⟩:=q;rw[I] at g;simp only[Y3,U9] at g;obtain⟨rfl,rfl⟩:=g;have aa:=(gl I).1;have ab:=(c6 I).1;refine⟨(h1.num I).big,fun x J=>?_,?_⟩
   ·rcases n9.1 J with J|J
    ·exact O x J
    ·rw[j0.1 J];omega
   ·simp only[o5,U8];show acc.length+1+U.toks.length≤_;omega) N [] s l s' ⟨hi,fun z V=>(by cases V),by simp⟩ h
 exact this.1
theorem G7 {s0:aC} {name:List Int} {n most cnt:Int} {so6:Option aC}
  (h1:∀ q,df s0=some q→name=q.1)
  (W:∀ q,aU 1 ao (((df s0).map (·.2)).map (aV (decide (64<(name.length:Int)))))=some q→n=q.1)
  (V:∀ q,aU 1 ao (((aU 1 ao (((df s0).map (·.2)).map (aV (decide (64<(name.length:Int)))))).map (·.2)).map (aV (decide (64<n))))=some q→most=q.1)
  (U:∀ q,aU 0 ao ((aU 1 ao (((aU 1 ao (((df s0).map (·.2)).map (aV (decide (64<(name.length:Int)))))).map (·.2)).map (aV (decide (64<n))))).map (·.2))=some q→cnt=q.1)
  (O:∀ q,aU 1 ao (((aU 0 ao ((aU 1 ao (((aU 1 ao (((df s0).map (·.2)).map (aV (decide (64<(name.length:Int)))))).map (·.2)).map (aV (decide (64<n))))).map (·.2))).map (·.2)).map (aV (decide (256<cnt))))=some q→k=q.1)
  (J:∀ q,eD (e2 most) n.toNat [] (((aU 1 ao (((aU 0 ao ((aU 1 ao (((aU 1 ao (((df s0).map (·.2)).map (aV (decide (64<(name.length:Int)))))).map (·.2)).map (aV (decide (64<n))))).map (·.2))).map (·.2)).map (aV (decide (256<cnt))))).map (·.2)).map (aV (decide (2147483648<k))))=some q→so6=some q.2∧sizes=q.1)
  (I:eD (e2 most) n.toNat [] (((aU 1 ao (((aU 0 ao ((aU 1 ao (((aU 1 ao (((df s0).map (·.2)).map (aV (decide (64<(name.length:Int)))))).map (·.2)).map (aV (decide (64<n))))).map (·.2))).map (·.2)).map (aV (decide (256<cnt))))).map (·.2)).map (aV (decide (2147483648<k))))=none→so6=none):
  gk s0=(eD (fun _ s=>cF sizes s) cnt.toNat [] so6).map fun q=>((⟨name,k,sizes,q.1⟩:bP),q.2):=by
 unfold gk;cases ad:df s0 with
 |none=>
  rw[ad] at I;rw[I rfl];rfl
 |some an=>
 obtain⟨aH,ap⟩:=an;rw[ad] at h1 W V U O J I;have:=h1 _ rfl;subst this;have aq:decide (64<(name.length:Int))=decide (64<name.length):=by rw[V1,decide_eq_true_eq,decide_eq_true_eq];omega
 rw[aq] at W V U O J I;simp only[Z2] at W V U O J I ⊢;generalize aV (decide (64<name.length)) ap=aa at*;cases ae:aY 1 ao aa with
 |none=>
  rw[show aU 1 ao (some aa)=none from ae] at I;rw[I rfl];rfl
 |some au=>
 obtain⟨av,af⟩:=au;rw[show aU 1 ao (some aa)=some (av,af) from ae] at W V U O J I;have:=W _ rfl;subst this;simp only[Z2] at V U O J I ⊢;generalize aV (decide (64<n)) af=ab at*;cases ag:aY 1 ao ab with
 |none=>
  rw[show aU 1 ao (some ab)=none from ag] at I;rw[I rfl];rfl
 |some aw=>
 obtain⟨ax,Y⟩:=aw;rw[show aU 1 ao (some ab)=some (ax,Y) from ag] at V U O J I;have:=V _ rfl;subst this;simp only[Z2] at U O J I ⊢;cases ah:aY 0 ao Y with
 |none=>
  rw[show aU 0 ao (some Y)=none from ah] at I;rw[I rfl];rfl
 |some ay=>
 obtain⟨az,ai⟩:=ay;rw[show aU 0 ao (some Y)=some (az,ai) from ah] at U O J I;have:=U _ rfl;subst this;simp only[Z2] at O J I ⊢;generalize aV (decide (256<cnt)) ai=ac at*;cases aj:aY 1 ao ac with
 |none=>
  rw[show aU 1 ao (some ac)=none from aj] at I;rw[I rfl];rfl
 |some aA=>
 obtain⟨aB,ak⟩:=aA;rw[show aU 1 ao (some ac)=some (aB,ak) from aj] at O J I;have:=O _ rfl;subst this;simp only[Z2] at J I ⊢;generalize aV (decide (2147483648<k)) ak=aD at*;cases al:ch (e2 most) n.toNat [] aD with
 |none=>
  rw[I al];rfl
 |some aE=>
 obtain⟨aI,am⟩:=aE;obtain⟨aF,aG⟩:=J _ al;subst aG;rw[aF];simp only;show _=V0 _ (ch (fun _ s=>cF sizes s) cnt.toNat [] am);cases ch (fun _ s=>cF sizes s) cnt.toNat [] am <;> rfl
theorem G8 {f:bP} (I:eo N f) (W:N≤60000):∀ x∈f.funs,qJ f.k x:=fun x O=>by
 obtain⟨h1,U,Y⟩:=I.funs x O;refine⟨I.k,⟨?_,fun z J=>?_⟩,h1.other,h1.lines,by have:=h1.len;omega,by omega⟩
 ·rw[h1.sizes,u5];exact U
 ·rw[h1.sizes] at J;obtain⟨v,V,rfl⟩:=j5.1 J;have:=h1.scope.2 v V;refine I.sizes.2.2 _ ?_;rw[u4,y0 (by omega)];exact T6 _
set_option maxHeartbeats 8000000 in
theorem G9 {p:x1} {pl:List Int} (ap:aB .u8 w p pl) (bb:Bytes pl) (cd:pl.length≤60000) (aH:ep w):af x3 BR [p] w (yZ w (fs pl)):=by
 have bc:1<w.heap.size:=by
  have:=aH 0 (.int .u64 1) rfl;obtain⟨c,e,f,bd,_⟩:=se this;exact (l7.1 bd).1
 have ce:ao=4611686018427387904:=rfl;refine az func67 ?_;rw[aL b7.u ap,bA,ab];refine⟨fun h=>by omega,fun _=>?_⟩;refine (w8 ap bb (by omega)).mono ?_;rintro _ J _ ⟨aI,gs,rfl,cg,be,au⟩;rw[cH (cs:=#[.pointer (some ⟨gs,0,none⟩),.int .i64 0,.int .i64 0,.int .i64 0,.int .i64 0,.int .i64 0,.slice none 0 0]) (by kernel_rfl)];refine bL fun g aj ch av aJ=>?_;have ci:=aI.size;have cj:=av.size;have bf:=aJ.lt;have ck:gs<J.heap.size:=au.2.2.2.1.lt;have cl:=nP _ pl (o7 _);let s0:aC:=⟨(lex pl).1,0,false,[]⟩;let B0:ag:=fun r=>r<J.heap.size;have bg:cK aj g gs bh B0 s0 (lex pl).2:=by
  refine⟨⟨by omega,fun h=>h,fun h=>h,fun r U=>?_,fun r U=>by have U:r<J.heap.size:=U;omega⟩,⟨be,pl,0,au.ext av,fun r U=>?_,by rw[List.drop_zero]⟩,⟨by show (0:Int)≤0;omega,by show (0:Int)≤ao;omega,by show (([]:List (List Int×List (List Int×Int))).length+(lex pl).1.length≤100000);simp;omega⟩,0,0,0,0,.slice none 0 0,aJ,⟨by simp[s0],fun _=>rfl⟩,fQ (α:=hg)⟩
  ·rcases U with rfl|rfl|U
   ·exact bf
   ·omega
   ·exact U.elim
  ·obtain⟨_,_,_,ak,cm,hm⟩:=au;have ae:=bn hm U;have ah:=bQ hm ak (by decide) U;exact⟨fun aa=>by
    rcases aa with aa|aa|aa
    ·omega
    ·exact ah aa
    ·exact aa,by show r<J.heap.size;omega⟩
 have aw:∀ r,bj g gs bh r→w.heap.size≤r:=fun r U=>by
  rcases U with rfl|rfl|U
  ·omega
  ·omega
  ·exact U.elim
 refine (xH bg).mono ?_;rintro _ cn _ ⟨W,name,bi,rfl,cp,cq,bl⟩;obtain⟨bm,bo⟩:=e3.of W;rw[aD (v:=bk name) rfl,aD (v:=.int .i64 bi) rfl,lr cz.u,bA];refine (ol bo).mono ?_;rintro _ cr _ W;obtain⟨bp,bq⟩:=W.of;refine (j2 (lo:=1) (hi:=ao) bq).mono ?_;rintro _ ct _ ⟨W,n,br,rfl,aK,bt⟩;obtain⟨bu,bw⟩:=W.of;rw[aD (v:=.int .i64 n) rfl,aD (v:=.int .i64 br) rfl,bA];refine (ol bw).mono ?_;rintro _ cu _ W;obtain⟨bx,bz⟩:=W.of;refine (j2 (lo:=1) (hi:=ao) bz).mono ?_;rintro _ cw _ ⟨W,most,bB,rfl,aM,bC⟩;obtain⟨bD,bE⟩:=W.of;rw[aD (v:=.int .i64 most) rfl,aD (v:=.int .i64 bB) rfl];refine (j2 (lo:=0) (hi:=ao) bE).mono ?_;rintro _ cA _ ⟨W,cnt,bF,rfl,aN,bG⟩;obtain⟨bH,bI⟩:=W.of;rw[aD (v:=.int .i64 cnt) rfl,aD (v:=.int .i64 bF) rfl,bA];refine (ol bI).mono ?_;rintro _ cB _ W;obtain⟨bJ,bK⟩:=W.of;refine (j2 (lo:=1) (hi:=ao) bK).mono ?_;rintro _ cC _ ⟨W,k,bM,rfl,bN,cD⟩;obtain⟨bO,bR⟩:=W.of;rw[aD (v:=.int .i64 k) rfl,aD (v:=.int .i64 bM) rfl,bA];refine (ol bR).mono ?_;rintro _ aO _ W;obtain⟨bS,ax⟩:=W.of;have aP:ad (bj g gs bh) aj aO:=(((((((bm.trans bp).trans bu).trans bx).trans bD).trans bH).trans bJ).trans bO).trans bS;have ay:∀ {lo:Int} {o:Option aC} {x:Int},0≤lo→lo≤1→(∀ q,aU lo ao o=some q→x=q.1)→(aU lo ao o=none→x=0)→0≤x∧x≤ao:=fun {lo o x} cE h1 Y bT=>by
  cases I:aU lo ao o with
  |none=>rw[bT I];omega
  |some q=>
   have ae:=kP (n:=q.1) (s':=q.2) I;rw[Y q I];omega
 have cG:=ay (by omega) (by omega) aK bt;have cI:=ay (by omega) (by omega) aN bG;have cJ:=ay (by omega) (by omega) aM bC;obtain⟨N,bU⟩:∃ N:Nat,n=(N:Int):=⟨n.toNat,by omega⟩;obtain⟨C,bV⟩:∃ C:Nat,cnt=(C:Int):=⟨cnt.toNat,by omega⟩;have bW:n.toNat=N:=by omega
 have bX:cnt.toNat=C:=by omega
 have bY:di s0:=fun _=>by show (0:Int)≤16384;omega
 have al:∀ {o:Option aC} {b:Bool},(∀ s,o=some s→di s)→ ∀ s,o.map (aV b)=some s→di s:=fun h s Y=>by
  obtain⟨t,aA,rfl⟩:=Y1.1 Y;exact (h t aA).big
 have am:∀ {o:Option aC} {lo hi:Int},(∀ s,o=some s→di s)→ ∀ s,(aU lo hi o).map (·.2)=some s→di s:=fun {o lo hi} h s Y=>by
  obtain⟨q,I,rfl⟩:=Y1.1 Y;cases o with
  |none=>cases I
  |some t=>exact (h t rfl).num (n:=q.1) (s':=q.2) I
 have bZ:∀ s,(df s0).map (·.2)=some s→di s:=fun s Y=>by
  obtain⟨q,I,rfl⟩:=Y1.1 Y;exact bY.word (w:=q.1) (s':=q.2) I
 have aQ:=al (b:=decide (2147483648<k)) (am (lo:=1) (hi:=ao) (al (b:=decide (256<cnt)) (am (lo:=0) (hi:=ao) (am (lo:=1) (hi:=ao) (al (b:=decide (64<n)) (am (lo:=1) (hi:=ao) (al (b:=decide (64<(name.length:Int))) bZ)))))));have V:=fun(sizes:List Int) (so6:Option aC)=>G7 (s0:=s0) (name:=name) (sizes:=sizes) (n:=n) (most:=most) (cnt:=cnt) (k:=k) (so6:=so6) bl aK aM aN bN;rw[bW] at V;generalize cL:V0 (aV (decide (2147483648<k))) (V0 (fun x=>x.2) (aU 1 ao (V0 (aV (decide (256<cnt))) (V0 (fun x=>x.2) (aU 0 ao (V0 (fun x=>x.2) (aU 1 ao (V0 (aV (decide (64<n))) (V0 (fun x=>x.2) (aU 1 ao (V0 (aV (decide (64<(name.length:Int)))) (V0 (fun x=>x.2) (df s0)))))))))))))=aR at aQ ax V;rw[bU];refine G0 (N:=N) (most:=most) ax (by omega) fun aq aE sizes so6 cM b0 aS aT cN b1 aW aX=>?_;have V:=V sizes so6 aW aX;rw[bX] at V;have aF:ad (bj g gs bh) aj aE:=aP.trans b0;have z12:=aF.size;have aY:Ext w aj:=aI.trans av;have b2:ad (fun r=>w.heap.size≤r) w aE:=(aY.O _).trans (aF.mono fun r _ h=>aw r h);have cO:=aS.side;have aZ:∀ ai,so6=some ai→di ai∧(∀ z∈sizes,1≤z∧z≤ao)∧sizes.length≤100000:=fun ai aG=>by
  cases I:eD (e2 most) N [] aR with
  |none=>rw[aX I] at aG;cases aG
  |some q=>
   obtain⟨ae,ah⟩:=aW q I;cases aG.symm.trans ae;subst ah;cases aR with
   |none=>cases I
   |some b3=>
    obtain⟨b4,b5,cP⟩:=G6 (l:=q.1) (s':=q.2) (aQ b3 rfl) (by omega) I;exact⟨b4,b5,by have:=ax.words;omega⟩
 rw[bV];have a1:∀ r,leads aq r→aO.heap.size≤r∧r<aE.heap.size:=fun r U=>by have:=bn aT U;omega
 have cQ:=aP.size;refine G5 (w0:=w) (c:=C) (all:=sizes) aS.q (fun s Y=>(aZ s Y).1) (by omega) aT.ls (fun r U=>?_) (fun an=>?_) b1 ((aH.ext aY).O aF fun aa=>by have:=aw 1 aa;omega) ⟨bc,fun _=>⟨fun aa=>by have:=aw 1 aa;omega,by show 1<J.heap.size;omega⟩⟩
  b2 (by omega) (by omega) ⟨by omega,by omega⟩ (fun _ r h=>h.elim) fun cR cS acc so cT cU cV cW a2 cX b6 b8 b9 ca a6 cb=>?_
 ·have:=a1 r U;exact⟨by omega,by omega,by omega,fun _ h=>h⟩
 ·cases a7:so6 with
  |none=>exact absurd a7 an
  |some ai=>exact (aZ ai a7).2.1
 have cY:=a2.size;have ac:fs pl=match gk s0 with
   |none=>none
   |some (f,s)=>if s.toks=[]∧(lex pl).2=true∧s.big=false then some f else none:=by
  unfold fs;rw[if_neg (by omega)];have e:gk ⟨(lex pl).1,0,false,[]⟩=gk s0:=rfl;rw[e];cases gk s0 <;> rfl
 refine GZ (w0:=w) (sizes:=sizes) (res:=fs pl) b6 ⟨fun s Y aA cc ak=>?_,fun an=>?_⟩ ca (fun r U=>by have:=a1 r U;exact⟨by omega,by omega⟩) b8 b9 (fun _=>trivial) (by omega) (by omega) a2 (by omega) (by omega) ap fun v w' h=>h
 ·cases I:eD (fun _ s=>cF sizes s) C [] so6 with
  |none=>rw[cb I] at Y;cases Y
  |some q=>
   obtain⟨ae,ah⟩:=a6 q I;cases Y.symm.trans ae;rw[I] at V;have V:gk s0=some ((⟨name,k,sizes,q.1⟩:bP),q.2):=V;have a8:=(xE rfl V ak).1;rw[V] at ac;simp only at ac;rw[if_pos ⟨aA,cc,ak⟩] at ac;exact⟨q.1,ah,ac,G8 a8 (by show (lex pl).1.length≤60000;omega),a8.jd,by omega⟩
 ·cases I:eD (fun _ s=>cF sizes s) C [] so6 with
  |none=>
   rw[I] at V;have V:gk s0=none:=V;rw[V] at ac;exact absurd ac an
  |some q=>
   obtain⟨ae,ah⟩:=a6 q I;rw[I] at V;have V:gk s0=some ((⟨name,k,sizes,q.1⟩:bP),q.2):=V;rw[V] at ac;simp only at ac;by_cases ba:q.2.toks=[]∧(lex pl).2=true∧q.2.big=false
   ·exact⟨q.2,ae,ba⟩
   ·rw[if_neg ba] at ac;exact absurd ac an
theorem td (s t cs:List Int):∃ e,my s t cs= .tuple #[.int .i64 (cu s cs t),.int .i64 e]:=by
 unfold my cu;cases bX s t 0 with
 |none=>exact⟨3,rfl⟩
 |some n=>exact⟨0,rfl⟩
theorem Ha:af x3 wa [sv] w fun r w'=>Ext w w'∧ ∃ g,r= .func (.func ml) #[] #[.pointer (some ⟨g,0,none⟩)]∧w.heap.size≤g∧ae w' g ac sv.cells.toList:=by
 refine az func253 ?_;refine bL fun g J U I O=>?_;rw[lf];exact⟨I,g,rfl,by omega,O⟩
theorem Hb {f:FuncId} {cap:Array x1} {aj:Nat→List x1→x2→Prop} {I:x2→Prop} {L:List Int} (ay:nu x3 f cap.toList n aj I) (ak:∀ k vs w,aj k vs w→ ∃ x,L[k]? =some x∧vs=[.int .i64 x])
  (hI:∀ a b,ad (fun r=>w.heap.size≤r) a b→I a→I b) (az:I w) (aA:n=L.length) (aP:L.length≤1000000):
  af x3 CF [.slice none 0 0,.func (.func f) #[] cap] w fun v w'=>Ext w w'∧ ∃ g,w.heap.size≤g∧am .i64 U w' g v L:=by
 refine nE func183 ?_;refine bL fun gs J aQ al W=>?_;have W:ae J gs ac [.slice none 0 0]:=W;have aR:=W.lt;have an:∀ {a b:x2},Ext a b→I a→I b:=fun V=>hI _ _ (V.O _);refine⟨Nat,false,f,cap,0,_,_,I,fun k w'=>ad (fun r=>w.heap.size≤r) w w'∧ ∃ v g,gs<g∧ae w' gs ac [v]∧am .i64 U w' g v (L.take k),fun _ _ _=>False,rfl,ay.s,?_,fun _ _ V h=>an V h,
  fun _ _ _ V h=>⟨h.1.trans (V.O _),by obtain⟨v,g,h1,aB,aC⟩:=h.2;exact⟨v,g,h1,aB.ext V,aC.ext V⟩⟩,fun _ _ _ _ _ h=>h,an al az,⟨al.O _,_,gs+1,by omega,W,am.nil _ _ _ _⟩,?_,?_,fun _ _ h=>h.elim,fun _ _ _ h=>h.elim⟩
 ·rintro k vs aS w' ⟨_,_,h⟩;obtain⟨x,_,rfl⟩:=ak k vs w' h;rfl
 ·rintro a k _ ao haD ⟨Y,rfl,aE⟩ ⟨aF,v,g,aG,ap,ab⟩;obtain⟨x,V,aH⟩:=ak k _ ao aE;cases aH;intro aT ag _ _;have aq:=ap.ext ag;rw[aa (by kernel_rfl) (aq.cell (o:=0) rfl)];refine dx ac.u U.i rfl fun a aW aU aV ah aI=>?_;have aX:(L.take k).length≤1000000:=by simp;omega
  refine hb ac.u U.i rfl ((ab.ext ag).ext ah) aI.ls (by simp only[j4,List.length_nil];omega) (by simp only[j4,List.length_nil];omega) fun aJ aK aY aZ ai au=>?_;have a1:=ap.lt;have a2:=ag.size;have a6:=ah.size;refine bl ac.i ai.ls.cells.1 ai.ls.cells.2 (((aq.ext ah).O au (by omega))) (by simp) fun aL av a7 aM=>?_;have aw:ad (fun r=>w.heap.size≤r) ao aL:=(((ag.trans ah).O _).trans (au.mono fun r _ h=>by show w.heap.size≤r;omega)).trans (av.mono fun r _ h=>by show w.heap.size≤r;omega);refine⟨hI _ _ aw haD,⟨aF.trans aw,aJ,aK,by omega,aM,?_⟩,fun h=>by cases h⟩;rw[u9,V];exact ai.O av (fun _=>by omega)
 ·rintro k a8 Y ⟨aN,v,g,aG,aO,ab⟩;have Y:k=n:=Y;subst Y;rw[aa (by kernel_rfl) (aO.cell (o:=0) rfl)];intro ba ax _;rw[aA,o9] at ab;exact⟨(aN.ext fun r bb h=>by have:w.heap.size≤r:=h;omega).trans ax,g,by omega,ab.ext ax⟩
theorem Hc {f:FuncId} {cap:Array x1} {J:Nat→List x1→x2→Prop} {I:x2→Prop} {L:List Int} (O:nu x3 f cap.toList n J I) (V:∀ k vs w,J k vs w→ ∃ x,L[k]? =some x∧vs=[.int .i64 x])
  (hI:∀ a b,ad (fun r=>w.heap.size≤r) a b→I a→I b) (W:I w) (Y:n=L.length) (aa:L.length≤1000000):
  af x3 B8 [.func (.func f) #[] cap] w fun v w'=>Ext w w'∧ ∃ g,w.heap.size≤g∧am .i64 U w' g v L:=by
 refine az func117 ?_;exact (Hb O V hI W Y aa).mono fun _ _ _ h=>h
theorem Hd:af x3 cmp_Less_int [.int .i64 x,.int .i64 y] w fun v w'=>v= .bool (decide (x<y))∧Ext w w':=by
 refine az func322 ?_;refine aM (fun v J=>v= .bool (decide (x<y))∧Ext w J) (fun _ _ h=>h) fun V I=>?_;have O:∀ {z:Int} {w:x2},af x3 cmp_isNaN_int [.int .i64 z] w fun v w'=>v= .bool false∧Ext w w':=fun {z w}=>by
  refine az func182 ?_;simp only[bF];exact⟨by simp,Ext.refl _⟩
 refine O.mono ?_;rintro _ W _ ⟨rfl,U⟩;rw[aP];simp only[an];exact I _ _ ⟨rfl,U⟩
theorem He {P:X5} {t:r8} {cx cy:Bool} {k:o4} {a b:Int}:bb P (av .sub t cx cy (.int k a) (.int k b)) (.int k (k.wrap (a-b))) w:=fun w' _=>by simp[av,eqGuard,binOp,Op.intArith]
theorem Hf {g:Nat} (h:am .i64 U w g sv l) (aN:l.length≤1000000):
  af x3 DK [sv,.int .i64 0,.int .i64 l.length] w fun _ w'=>ad (fun r=>r=g) w w'∧ ∃ m,m.Perm l∧m.Pairwise (·≤ ·)∧am .i64 U w' g sv m:=by
 refine az func316 ?_;simp only[aI];refine⟨fun t J=>∃ (i:Nat) (m:List Int),t= .int .i64 i∧1≤i∧(i≤l.length∨i=1)∧m.Perm l∧n1 m i∧ad (fun r=>r=g) w J∧am .i64 U J g sv m,fun t _=>l.length+1-(bB t).toNat,
  ⟨1,l,by congr 1,by omega,.inr rfl,.refl _,fun p q x y h1 ax=>by omega,ad.refl _ _,h⟩,?_⟩
 rintro _ J ⟨i,m,rfl,aO,aP,W,ak,al,hm⟩;have ay:=W.length_eq;simp only[an,ab];refine⟨fun aA=>?_,fun aQ=>?_⟩
 ·have aA:i<l.length:=by omega
  refine⟨fun t aa=>∃ (j:Nat) (m:List Int),t= .int .i64 j∧j≤i∧m.Perm l∧mI m i j∧ad (fun r=>r=g) w aa∧am .i64 U aa g sv m,fun t _=>(bB t).toNat,⟨i,m,rfl,o7 _,W,EV ak,al,hm⟩,?_⟩;rintro _ aa ⟨j,m,rfl,aB,W,ah,ao,hm⟩;have ay:=W.length_eq;refine aM (fun v ap=>Ext aa ap∧ ∃ c,v= .bool c∧(c=true→0<j∧ ∃ a b,m[j-1]? =some a∧m[j]? =some b∧b<a)∧(c=false→j=0∨0<j∧ ∃ a b,m[j-1]? =some a∧m[j]? =some b∧a≤b)) ?_ ?_
  ·rintro _ ap ⟨ae,c,rfl,aC,aD⟩;rw[br];refine⟨fun h=>?_,fun h=>?_⟩
   ·obtain⟨Y,a,b,I,V,ai⟩:=aC h;intro aR aq _ _;have ag:=(hm.ext ae).ext aq;have e:Y0.wrap ((j:Int)-1)=((j-1:Nat):Int):=by rw[wrap_i64 (by omega) (by omega)];omega
    simp only[dd,e];rw[aZ ac.u U.i (by kernel_rfl) ag.ls I,aZ ac.u U.i (by kernel_rfl) ag.ls V,fS rfl ac.u U.i ag (by omega)];refine fT U.i ag (by omega) fun aE aF aS au=>⟨.inr ⟨by have:=He (P:=x3) (w:=aE) (t:=U) (cx:=false) (cy:=true) (k:=.i64) (a:=(j:Int)) (b:=1);rwa [e] at this,trivial⟩,?_⟩;rw[fS rfl ac.u U.i au (by simp;omega)];refine fT U.i au (by simp;omega) fun aT aG aU aH=>?_;refine⟨⟨j-1,_,rfl,by omega,(swap_perm (by omega) I V).trans W,EY ah Y aB I V ai,((ao.trans ((ae.trans aq).O _)).trans aF).trans aG,aH⟩,?_⟩;simp only[bB];omega
   ·simp only[aI];rw[wrap_i64 (by omega) (by omega)];refine⟨⟨i+1,m,rfl,by omega,.inl (by omega),W,?_,ao.trans (ae.O _),hm.ext ae⟩,?_⟩
    ·rcases aD h with rfl|⟨Y,a,b,I,V,ai⟩
     ·exact EW ah
     ·exact EX ah Y I V ai
    ·simp only[bB];omega
  ·intro aV av aW aj _ _;have aw:=hm.ext aj;simp only[bA,ab];refine⟨fun Y=>?_,fun Y=>av _ _ ⟨aj,false,rfl,(fun h=>by cases h),fun _=>.inl (by omega)⟩⟩;have e:Y0.wrap ((j:Int)-1)=((j-1:Nat):Int):=by rw[wrap_i64 (by omega) (by omega)];omega
   obtain⟨b,V⟩:∃ b,m[j]? =some b:=⟨_,y0 (by omega)⟩;obtain⟨a,I⟩:∃ a,m[j-1]? =some a:=⟨_,y0 (by omega)⟩;rw[aZ ac.u U.i (by kernel_rfl) aw.ls V];simp only[dd,e];rw[aZ ac.u U.i (by kernel_rfl) aw.ls I];refine Hd.mono ?_;rintro _ aX _ ⟨rfl,aJ⟩;refine av _ _ ⟨aj.trans aJ,_,rfl,fun h=>⟨by omega,a,b,I,V,by simpa using h⟩,fun h=>.inr ⟨by omega,a,b,I,V,by simpa using h⟩⟩
 ·refine⟨al,m,W,EZ fun p q x y h1 ax aK aL=>ak p q x y h1 (by omega) aK aL,hm⟩
theorem Hg {P:X5} {t:r8} {k:o4} {s:ByteArray} {i:Nat} {K:x1→Prop} (J:P.underlying t=some .string) (hi:i<s.size) (O:∀ b:Nat,b<256→K (.int .u8 b)):
  I P (Instr.index t (.string s) (.int k (i:Int))) w K:=by
 have U:s[i]? =some s[i]:=by simp[hi]
 have:I P (Instr.index t (.string s) (.int k (i:Int))) w K=K (.int .u8 s[i].toNat):=I.of fun w' _=>by
  simp[Instr.index,asIntOf,run_underlying J,hi]
 rw[this];exact O _ (UInt8.toNat_lt _)
theorem Hh (I:n<256):af x3 CE [.int .u64 (n:Int)] w fun v w'=>(∃ r,v= .int .i64 r)∧Ext w w':=by
 refine az func181 ?_;refine af.mono (K:=fun v w'=>(∃ r,v= .int .i64 r)∧Ext w w') ?_ (fun _ _ _ h=>h);refine az func238 ?_;simp only[be,cm,ab];refine⟨fun h=>by omega,fun _=>⟨fun h=>by omega,fun _=>⟨fun h=>by omega,fun _=>?_⟩⟩⟩;rw[e1 eb.u b5.u,wrap_u8 (by omega) (by omega)];refine Hg cz.u (by exact Nat.lt_of_lt_of_le I (by decide)) fun b J=>?_;rw[e1 b5.u U.u];simp only[aI];exact⟨⟨_,rfl⟩,Ext.refl _⟩
theorem Hi {g:Nat} (h:am .i64 U w g sv l) (W:l.length≤12):
  af x3 Dt [sv] w fun _ w'=>ad (fun r=>r=g) w w'∧ ∃ m,m.Perm l∧m.Pairwise (·≤ ·)∧am .i64 U w' g sv m:=by
 refine az func282 ?_;rw[aL ac.u h.ls,e1 U.u mn.u,wrap_u64 (by omega) (by omega)];refine (Hh (n:=l.length) (by omega)).mono ?_;rintro _ J _ ⟨⟨r,rfl⟩,I⟩;refine af.mono (K:=fun _ w'=>ad (fun r=>r=g) J w'∧ ∃ m,m.Perm l∧m.Pairwise (·≤ ·)∧am .i64 U w' g sv m) ?_ (fun _ _ _ h=>⟨(I.O _).trans h.1,h.2⟩);refine az func305 ?_;refine⟨fun a b _ _ _ V=>a= .int .i64 0∧b= .int .i64 l.length∧J=V,fun _ _ _ _ _ _=>0,⟨rfl,rfl,rfl⟩,?_⟩;rintro _ _ _ _ _ _ ⟨rfl,rfl,rfl⟩;simp only[dd,ld,ab];rw[wrap_i64 (by omega) (by omega)];refine⟨fun _=>?_,fun h=>by omega⟩;refine (Hf (h.ext I) (by omega)).mono ?_;exact fun _ _ _ h=>h
theorem Hj {f:FuncId} {cap:Array x1} {O:Nat→List x1→x2→Prop} {I:x2→Prop} {L:List Int} (V:nu x3 f cap.toList n O I) (W:∀ k vs w,O k vs w→ ∃ x,L[k]? =some x∧vs=[.int .i64 x])
  (hI:∀ a b,ad (fun r=>w.heap.size≤r) a b→I a→I b) (Y:I w) (aa:n=L.length) (ab:L.length≤12):
  af x3 v8 [.func (.func f) #[] cap] w fun v w'=>Ext w w'∧ ∃ g m,w.heap.size≤g∧m.Perm L∧m.Pairwise (·≤ ·)∧am .i64 U w' g v m:=by
 refine az func252 ?_;refine (Hc V W hI Y aa (by omega)).mono ?_;rintro v J _ ⟨ac,g,ae,ag⟩;refine (Hi ag ab).mono ?_;rintro _ ak _ ⟨ah,m,h1,ai,aj⟩;exact⟨ac.then ah (by rintro r al rfl;omega),g,m,ae,h1,ai,aj⟩
theorem y2 (h:aB .i64 w sv l):
  af x3 rY [sv,.int .i64 x] w fun v w'=>Ext w w'∧ ∃ r:Int,v= .int .i64 r∧ ∀ i:Nat,l[i]? =some x→(r=i↔ ∀ j,j<i→l[j]? ≠some x):=by
 refine az func103 ?_;rw[aL ac.u h];refine bt.range l.length (fun i _ J=>Ext w J∧ ∀ j,j<i→l[j]? ≠some x) h.le ⟨Ext.refl _,fun j W=>by omega⟩ ?_ ?_
 ·rintro i _ J k hi ⟨I,O⟩ Y;simp only[an,ab];refine⟨fun _=>?_,fun h=>by omega⟩;obtain⟨y,V⟩:∃ y,l[i]? =some y:=⟨_,y0 hi⟩;rw[aZ ac.u U.i (by kernel_rfl) (h.ext I) V];simp only[a8,ab,aI];refine⟨fun he=>⟨I,i,rfl,fun q aa=>?_⟩,fun he=>Y _ _ ⟨I,fun j W=>?_⟩⟩
  ·subst he;refine⟨fun ag=>by
              have:i=q:=by omega
              subst this;exact O,fun ad=>?_⟩
   rcases Nat.lt_trichotomy i q with h1|h1|h1
   ·exact absurd V (ad i h1)
   ·omega
   ·exact absurd aa (O q h1)
  ·by_cases ae:j=i
   ·subst ae;rw[V];intro h;exact he (b9 h).symm
   ·exact O j (by omega)
 ·rintro _ J k ⟨I,O⟩;simp only[an,ab];refine⟨fun h=>by omega,fun _=>⟨I,-1,rfl,fun i hi=>?_⟩⟩;exact absurd hi (O i (x4.1 hi).1)
theorem Hk {g:Nat} {w0:x2} (Y:ae w0 g ac [sv]) (O:aB .i64 w0 sv l):
  nu x3 ml [.pointer (some ⟨g,0,none⟩)] l.length (fun k vs _=>∃ x,l[k]? =some x∧vs=[.int .i64 x]) (fun w=>Ext w0 w):=by
 refine⟨ml.enters,fun y ad al w am _ af I ag=>?_⟩;refine sd func283 ?_;rw[aa (by kernel_rfl) ((Y.ext I).cell (o:=0) rfl),aL ac.u (O.ext I)];refine bJ.range l.length (fun i J=>ad i J∧Ext w0 J) O.le ⟨ag,I⟩ ?_ ?_
 ·rintro i J k hi ⟨V,W⟩ ah;simp only[an,ab];refine⟨fun _=>?_,fun h=>by omega⟩;obtain⟨x,I⟩:∃ x,l[i]? =some x:=⟨_,y0 hi⟩;rw[aZ ac.u U.i (by kernel_rfl) (O.ext W) I];refine⟨rfl,(af i _ J hi W ⟨x,I,rfl⟩ V).mono ?_⟩;rintro _ ao (⟨rfl,ai,aj⟩|⟨rfl,ak⟩)
  ·simp only[bc,Y4,aP,aI];exact ah _ ⟨aj.1,ai⟩
  ·simp only[bc,X4,bC];exact .inr ⟨i,hi,ak⟩
 ·rintro J k ⟨V,_⟩;simp only[an,ab];exact⟨fun h=>by omega,fun _=>.inl V⟩
theorem te (h:aB .i64 w sv l) (V:l.length≤12)
  (W:∀ v w' g m,Ext w w'→w.heap.size≤g→m.Perm l→m.Pairwise (·≤ ·)→am .i64 U w' g v m→K v w'):
  af x3 wa [sv] w fun t J=>af x3 v8 [t] J K:=by
 refine Ha.mono ?_;rintro _ J _ ⟨O,g,rfl,aj,I⟩;have I:ae J g ac [sv]:=by rw[h.cells.1] at I;exact I
 refine (Hj (Hk I (h.ext O)) (fun _ _ _ h=>h) (fun a b Y aa=>aa.then Y (fun r ak h=>by omega)) (Ext.refl _) rfl V).mono ?_;rintro v ab _ ⟨ad,ag,m,al,h1,ah,ai⟩;have:=O.size;exact W v ab ag m (O.trans ad) (by omega) h1 ah ai
def Hl (w:x2) (szs:List Int) (k:Int) (cs I:List Int) (v:x1) (w':x2):Prop:=
 Ext w w'∧
  (¬Good I szs.length→v= .tuple #[.pointer none,.int .i64 1])∧
  (Good I szs.length→ ∃ J O U,v= .tuple #[.pointer (some ⟨J,0,none⟩),.int .i64 0]∧cB w' J O U (dy szs I) k (lA szs cs I))
set_option maxHeartbeats 1000000 in
theorem Hm {g bX:Nat} {aM:x1} {cs I:List Int} (h:cB w g bX sv szs k cs) (bY:right k) (ay:aB .i64 w aM I) (cP:I.length≤12) (cQ:Good I szs.length→aE (dy szs I)≤4096):
  af x3 De [.pointer (some ⟨g,0,none⟩),aM] w (Hl w szs k cs I):=by
 have a2:=h;have cR:=h.2.2.1;have cS:=ay.cells;refine nE func254 ?_;refine bL fun bZ J du b0 ag=>?_;refine bL fun b1 b2 dv bp W=>?_;have dw:=b0.size;have dx:=bp.size;have dz:=ag.lt;have dA:=W.lt;have bq:=b0.trans bp;have ag:ae b2 bZ dM [.pointer (some ⟨g,0,none⟩)]:=ag.ext bp;have W:ae b2 b1 ac [aM]:=by rw[cS.1] at W;exact W
 rw[aa (by kernel_rfl) (ag.cell (o:=0) rfl),cI dM.u];simp only[Z1,aP];rw[aa (by kernel_rfl) (W.cell (o:=0) rfl)];have cT:=ay.ext bq;have sub:∀ {w:x2} {g:Nat} {sv:x1} {k:Int} {aG:x1},ae w g cD [sv,.int .i64 k,aG]→w.rangeAt g (0+0) [sv]:=fun aq=>lp aq (by
  intro j v br
  match j,br with
  |0,br=>exact br)
 refine te cT cP fun cN cU dC m b3 dD bt cV hm=>?_;have cW:=bt.length_eq;rw[aL ac.u hm.ls];have cX:=bq.trans b3;refine jF.range m.length (fun i _ _ bx=>Ext cU bx∧ ∀ j,j<i→m[j]? =some (j:Int)) (by omega) ⟨Ext.refl _,fun j bz=>by omega⟩ ?_ ?_
 ·rintro i _ _ bx aN hi ⟨aO,bA⟩ aQ;simp only[an,ab];refine⟨fun _=>?_,fun h=>by omega⟩;obtain⟨y,aR⟩:∃ y,m[i]? =some y:=⟨_,y0 hi⟩;rw[aZ ac.u U.i (by kernel_rfl) (hm.ls.ext aO) aR];simp only[bF,ab,aI];refine⟨fun aS dE cY _=>⟨(cX.trans aO).trans cY,fun _=>rfl,fun bB=>?_⟩,fun he=>aQ _ _ _ ⟨aO,fun j bz=>?_⟩⟩
  ·have:=xm bB bt cV i hi;rw[aR] at this;exact absurd (b9 this).symm aS
  ·by_cases cZ:j=i
   ·subst cZ;rw[aR];congr 1;omega
   ·exact bA j (by omega)
 ·rintro _ _ bx aN ⟨aO,bA⟩;simp only[an,ab,cj];refine⟨fun h=>by omega,fun _ dF c0 _ _=>?_⟩;have ah:Good I m.length:=E0 bA bt;have aT:=(b3.trans aO).trans c0;have a7:=bq.trans aT;have ag:=ag.ext aT;have W:=W.ext aT;have c1:=ay.ext a7;have c2:=a2.ext a7;have dG:=aT.size;obtain⟨⟨aG,gs,aq,a8,b4⟩,_⟩:=id c2;rw[aa (by kernel_rfl) (W.cell (o:=0) rfl),aL ac.u c1,aa (by kernel_rfl) (ag.cell (o:=0) rfl),aw,V cD.p rfl,bw (cs:=[sv]) bg.p bg.i rfl (sub aq)];refine (xM a8.ls).mono ?_;rintro _ ba _ ⟨rfl,av⟩;refine⟨.inl av,?_⟩;simp only[bF,ab];refine⟨fun aS dH c3 _=>⟨(a7.trans av).trans c3,fun _=>rfl,fun bB=>absurd (by rw[bB.1]) aS⟩,fun dI=>?_⟩;have bC:I.length=szs.length:=by omega
  have ah:Good I szs.length:=by rw[←bC,←cW];exact ah
  have dJ:=aT.trans av;have bE:=a7.trans av;have ag:=ag.ext av;have W:=W.ext av;have b5:=ay.ext bE;rw[aa (by kernel_rfl) (W.cell (o:=0) rfl),aL ac.u b5];refine hU ac.u U.i (by omega) (by omega) fun aU b6 dK az b7=>?_;have c4:am .i64 U b6 aU (.slice (some ⟨aU,0,none⟩) I.length I.length) (r9 I.length 0):=am.of (n:=I.length) (bG.full b7 (by simp) (by simp[maxLen];omega));generalize (x1.slice (some ⟨aU,0,none⟩) I.length I.length)=c5 at*;have dL:=av.size;have dN:=az.size;have dO:=b7.lt;rw[aa (by kernel_rfl) ((W.ext az).cell (o:=0) rfl),aL ac.u (b5.ext az)];have b8:=bE.trans az;have bb:(dy szs I).length=I.length:=qc _ _;refine bJ.range I.length (fun i ao=>ad (fun r=>r=aU) b6 ao∧am .i64 U ao aU c5 (upto (dy szs I) 0 i)) (by omega) ⟨ad.refl _ _,by rw[lw,bb];exact c4⟩ ?_ ?_
  ·rintro i ao aN hi ⟨ax,bc⟩ aQ;simp only[an,ab];refine⟨fun _=>?_,fun h=>by omega⟩;have aV:Ext w ao:=b8.then ax (by rintro r aj rfl;omega);have bd:Ext ba ao:=az.then ax (by rintro r aj rfl;omega);obtain⟨p,bH⟩:∃ p,I[i]? =some p:=⟨_,y0 hi⟩;obtain⟨⟨aG,gs,aq,a8,b4⟩,_⟩:=a2.ext aV;rw[aZ ac.u U.i (by kernel_rfl) (ay.ext aV) bH,aa (by kernel_rfl) ((ag.ext bd).cell (o:=0) rfl),aw,V cD.p rfl,bw (cs:=[sv]) bg.p bg.i rfl (sub aq)];refine (n7 a8.ls).mono ?_;rintro _ dP _ ⟨rfl,ca⟩;have cb:=bc.ext ca;have c6:(upto (dy szs I) 0 i).length=I.length:=by rw[lv,bb]
   rw[fS rfl ac.u U.i cb (by omega)];refine fT U.i cb (by omega) fun dQ c7 _ cc=>?_;simp only[aI];have h1:=(ah.2 i p bH).1;have aW:(dy szs I)[i]? =some (gn szs p):=by
    unfold dy gn;rw[x8,bH,if_pos h1.1];rfl
   rw[ly aW] at cc;exact aQ _ ⟨(ax.trans (ca.O _)).trans c7,cc⟩
  ·rintro ao aN ⟨ax,bc⟩;simp only[an,ab];refine⟨fun h=>by omega,fun _=>?_⟩;have aV:Ext w ao:=b8.then ax (by rintro r aj rfl;omega);have bd:Ext ba ao:=az.then ax (by rintro r aj rfl;omega);rw[←bb,lx] at bc;obtain⟨⟨aG,gs,aq,a8,b4⟩,_⟩:=a2.ext aV;rw[aa (by kernel_rfl) ((ag.ext bd).cell (o:=0) rfl),aw,V cD.p rfl,aa (by kernel_rfl) (aq.cell (o:=0+1) rfl)];have be:bD (dy szs I):=cR.E2 ah rfl;have cd:=cQ ah;have dR:=prod_bound be;refine (pY bc.ls).mono ?_;rintro _ bI _ ⟨ce,_,_,_,c8⟩;obtain⟨aC,ai,aF,rfl,dS,dT,dU,bf⟩:=c8 be cd ⟨bY,by omega,by have:=bY.1;omega⟩;obtain⟨N,bh⟩:∃ N:Nat,(aE (dy szs I)).toNat=N:=⟨_,rfl⟩;rw[bh] at bf;rw[aD (v:=.pointer (some ⟨aC,0,none⟩)) rfl,aD (v:=.int .i64 0) rfl];refine bu dM.i fun cg dV dW ch aX=>?_;refine bl dM.i rfl rfl aX (by simp[x1.cells]) fun c9 da dX aX=>?_;have dY:=ax.size;have dZ:=ce.size;have ea:=ch.size;have bK:Ext bI c9:=ch.then da (by rintro r aj rfl;omega);have ci:=ce.trans bK;have db:=bf.ext bK;have eb:=aX.lt;obtain⟨⟨bM,ck,cl,cm,dc⟩,⟨cn,cp,_⟩,_,ec⟩:=id db;have ed:0<N:=by omega
   have ee:aC<bI.heap.size:=by obtain⟨⟨_,_,q,_⟩,_⟩:=id bf;exact q.lt
   have ef:ai<bI.heap.size:=by obtain⟨⟨_,_,_,_,q⟩,_⟩:=id bf;exact mY q (by simp;omega)
   rw[aa (by kernel_rfl) (aX.cell (o:=0) rfl),aw,V cD.p rfl,bw (cs:=[aF]) bg.p bg.i rfl (sub cl)];refine sQ.mono ?_;rintro _ al _ ⟨ap,bi,rfl,eg,cq⟩;have eh:=bK.size;have ei:=ap.size;let S:Nat→Prop:=fun r=>r=ai;let aH:=lA szs cs I;have bN:aH.length=N:=by simp only[aH];rw[xt,bh]
   let dd:x2→Prop:=fun w'=>ae w' bZ dM [.pointer (some ⟨g,0,none⟩)]∧ae w' b1 ac [aM]∧ae w' cg dM [.pointer (some ⟨aC,0,none⟩)]∧ae w' aC cD [aF,.int .i64 k,bM]∧
    cB w' g bX sv szs k cs∧aB .i64 w' aM I∧am .i64 U w' ck aF (dy szs I)∧ae w' bi bg [aF]∧al.heap.size≤w'.heap.size
   have aJ:∀ {a:x2},ad S al a→dd a:=by
    intro a Y;have bO:Ext ba al:=(bd.trans ci).trans ap;have bP:Ext ba a:=bO.then Y (fun r aj he=>by have he:r=ai:=he;omega);have cr:Ext w a:=bE.trans bP;refine⟨ag.ext bP,W.ext bP,(aX.ext ap).O Y (by show ¬(cg=ai);omega),(cl.ext ap).O Y (by show ¬(aC=ai);exact cn),a2.ext cr,ay.ext cr,a6 (cm.ext ap) Y (fun r aj he=>cp ((show r=ai from he)▸aj)),
     cq.O Y (by show ¬(bi=ai);omega),Y.size⟩
   have cw:=sP (g:=bi) (B0:=al.heap.size) (sv:=aF) be;rw[bh] at cw;refine⟨Nat,false,jM,#[.pointer (some ⟨bi,0,none⟩)],0,_,_,_,fun q w'=>ad S al w'∧am .i64 ak w' ai bM (upto aH 0 q),fun _ _ _=>False,rfl,cw.s,
    ?_,fun _ _ Y h=>⟨h.1.ext Y,h.2.1.ext Y,W7 h.2.2 Y.size⟩,fun _ _ _ Y h=>⟨h.1.trans (Y.O S),h.2.ext Y⟩,fun _ _ _ _ _ h=>h,⟨cq,(cm.ext ap).ls,o7 _⟩,⟨ad.refl _ _,?_⟩,?_,?_,fun _ _ h=>h.elim,fun _ _ _ h=>h.elim⟩
   ·rintro _ _ _ _ ⟨_,_,_,_,rfl,_⟩;rfl
   ·rw[lw,bN];exact dc.ext ap
   ·rintro _ aA q _ ej ⟨_,_,ek⟩ ⟨aW,rfl,em,en,de,eo,df⟩ ⟨bj,dg⟩;cases de;let x:=ct (dy szs I) (q:Int);have cz:x.length=I.length:=by simp only[x];rw[hG,bb]
    intro dh aK _ _;have cA:=df.ext aK;rw[aL ac.u cA.ls];refine hU ac.u U.i (by rw[hG];omega) (by rw[hG];omega) fun go cC ep bQ cE=>?_;have di:am .i64 U cC go (.slice (some ⟨go,0,none⟩) (ct (dy szs I) (q:Int)).length (ct (dy szs I) (q:Int)).length) (r9 (ct (dy szs I) (q:Int)).length 0):=am.of (n:=(ct (dy szs I) (q:Int)).length) (bG.full cE (by simp) (by rw[hG];simp[maxLen];omega));generalize (x1.slice (some ⟨go,0,none⟩) (ct (dy szs I) (q:Int)).length (ct (dy szs I) (q:Int)).length)=dj at*;have er:=bj.size;have es:=aK.size;have et:=bQ.size;have lo:=cE.lt;have dk:ad S al cC:=bj.trans ((aK.trans bQ).O S);have f:=aJ dk;rw[aa (by kernel_rfl) (f.2.1.cell (o:=0) rfl),aL ac.u f.2.2.2.2.2.1];refine bJ.range I.length (fun j bk=>Ext dh bk∧ ∃ y:List Int,y.length=I.length∧am .i64 U bk go dj y∧ ∀ (i:Nat) (p:Int),i<j→I[i]? =some p→y[p.toNat]? =x[i]?) (by omega)
     ⟨bQ,_,by simp[cz,x],di,fun i p hi=>by omega⟩ ?_ ?_
    ·rintro j bk aN bz ⟨aY,y,bR,bm,bS⟩ aQ;simp only[an,ab];refine⟨fun _=>?_,fun h=>by omega⟩;have f:=aJ (bj.trans ((aK.trans aY).O S));obtain⟨p,bn⟩:∃ p,I[j]? =some p:=⟨_,y0 bz⟩;obtain⟨u,hu⟩:∃ u,x[j]? =some u:=⟨_,y0 (by omega)⟩;have eu:=(ah.2 j p bn).1;rw[aZ ac.u U.i (by kernel_rfl) f.2.2.2.2.2.1 bn,aZ ac.u U.i (by kernel_rfl) (cA.ext aY).ls hu,fS (i:=p.toNat) (by omega) ac.u U.i bm (by omega)];refine fT U.i bm (by omega) fun ev dl ew dm=>?_;simp only[aI];refine aQ _ ⟨aY.then dl (by rintro r aj rfl;omega),_,by simpa using bR,dm,fun i bo hi a1=>?_⟩;by_cases cF:i=j
     ·subst cF;rw[bn] at a1;cases a1;rw[W8 (by omega),hu]
     ·have ey:=(ah.2 i bo a1).1;have aS:p.toNat≠bo.toNat:=fun he=>by
       have:p=bo:=by omega
       subst this;exact cF (ah.inj a1 bn)
      rw[W3 aS];exact bS i bo (by omega) a1
    ·rintro bk aN ⟨aY,y,bR,bm,bS⟩;simp only[an,ab];refine⟨fun h=>by omega,fun _ dn cG _ _=>?_⟩;have aR:y=j1 I x:=xq ah (by rw[cz,bC]) (by rw[bR,bC]) fun i p cH=>bS i p (x4.1 cH).1 cH;have cJ:=aY.trans cG;have cK:ad S al dn:=bj.trans ((aK.trans cJ).O S);obtain⟨f1,f2,f3,f4,f5,f6,f7,f8,f9⟩:=aJ cK;rw[aa (by kernel_rfl) (f3.cell (o:=0) rfl),aw,V cD.p rfl,aa (by kernel_rfl) (f4.cell (o:=0+2) rfl),aa (by kernel_rfl) (f1.cell (o:=0) rfl)];refine (sq f5 (bm.ls.ext cG)).mono ?_;rintro _ ez _ ⟨rfl,bT⟩;refine⟨.inl bT,?_⟩;obtain⟨e,he⟩:=td szs y cs;rw[he,aD (v:=.int .i64 (cu szs cs y)) rfl,aD (v:=.int .i64 e) rfl];have dp:=cK.trans (bT.O S);have cL:=(dg.ext ((aK.trans cJ).trans bT));have c6:(upto aH 0 q).length=N:=by rw[lv,bN]
     rw[fS rfl au.u ak.i cL (by omega)];refine fT ak.i cL (by omega) fun dq dr eA cM=>?_;have cO:ad S al dq:=dp.trans (dr.mono fun r _ h=>h);obtain⟨f1,f2,f3,f4,f5,f6,f7,f8,f9⟩:=aJ cO;have ds:aH[q]? =some (cu szs cs y):=by
      simp only[aH,lA];rw[x8,List.getElem?_range (by rw[bh];exact aW),aR];rfl
     rw[ly ds] at cM;exact⟨⟨f8,f7.ls,f9⟩,⟨cO,cM⟩,fun h=>by cases h⟩
   ·rintro q eB aW ⟨bU,bV⟩;rw[show q=N from aW] at bV;have f:=aJ bU;rw[aa (by kernel_rfl) (f.2.2.1.cell (o:=0) rfl)];intro eC bW _;obtain⟨f1,f2,f3,f4,f5,f6,f7,f8,f9⟩:=aJ (bU.trans (bW.O S));rw[←bN,lx] at bV;have bO:Ext w al:=(aV.trans ci).trans ap;refine⟨(bO.then bU (fun r aj he=>by have he:r=ai:=he;omega)).trans bW,fun dt=>absurd ah dt,fun _=>⟨aC,ai,aF,rfl,⟨bM,ck,f4,f7,bV.ext bW⟩,⟨cn,cp,cd⟩,be,xt _ _ _⟩⟩
def fF (l:List Int):Prop:=∀ (i j:Nat) (x y:Int),i<j→l[i]? =some x→l[j]? =some y→x<y
theorem fF.inj (h:fF l) {i:Nat} (hi:l[i]? =some x) (I:l[j]? =some x):i=j:=by
 rcases Nat.lt_trichotomy i j with h1|h1|h1
 ·have:=h i j x x h1 hi I;omega
 ·exact h1
 ·have:=h j i x x h1 I hi;omega
def dedup (l:List Int):Nat→List Int
 |0=>[]
 |j+1=>if 0<j∧l[j]? =l[j-1]? then dedup l j else dedup l j++[l.getD j 0]
theorem y3 (l:List Int):∀ j,(dedup l j).length≤j
 |0=>o7 _
 |j+1=>by
  have:=y3 l j;unfold dedup;split
  ·omega
  ·simp;omega
theorem tf (I:0<j) (h:l[j]? =l[j-1]?):dedup l (j+1)=dedup l j:=by
 rw[dedup,if_pos ⟨I,h⟩]
theorem tg (J:l[j]? =some x) (h:0<j→l[j]? ≠l[j-1]?):dedup l (j+1)=dedup l j++[x]:=by
 rw[dedup,if_neg (fun I=>h I.1 I.2),u4,J];rfl
theorem qL {l:List Int}:∀ {j:Nat},j≤l.length→(∀ i,i<j→0<i→l[i]? ≠l[i-1]?)→dedup l j=l.take j
 |0,_,_=>by simp[dedup]
 |j+1,O,h=>by
  have I:l[j]? =some l[j]:=y0 (by omega);rw[tg I (h j (by omega)),qL (by omega) (fun i hi J=>h i (by omega) J),u9,I];rfl
theorem y4 {l:List Int} (U:l.Pairwise (·≤ ·)):∀ {j:Nat},j≤l.length→(fF (dedup l j)∧ ∀ x,x∈dedup l j↔x∈l.take j)
 |0,_=>⟨fun i j x y _ h=>by simp[dedup] at h,fun x=>by simp[dedup]⟩
 |j+1,aj=>by
  obtain⟨h1,V⟩:=y4 U (j:=j) (by omega);have J:l[j]? =some l[j]:=y0 (by omega);by_cases O:0<j∧l[j]? =l[j-1]?
  ·rw[tf O.1 O.2];refine⟨h1,fun x=>?_⟩;rw[V,u9,J];simp only[Z0,n9,j0];refine⟨.inl,fun h=>h.elim id fun he=>?_⟩;subst he;have Y:(l.take j)[j-1]? =some l[j]:=by rw[Z6 (by omega),←O.2,J]
   exact x5 Y
  ·have aa:0<j→l[j]? ≠l[j-1]?:=fun ad he=>O ⟨ad,he⟩;rw[tg J aa];have ae:∀ x∈dedup l j,x<l[j]:=fun x af=>by
    obtain⟨i,hi,he⟩:=List.getElem_of_mem ((V x).1 af);have ak:i<j:=by rw[o8] at hi;omega
    rw[List.getElem_take] at he;subst he;have Y:l[i]≤l[j-1]:=by
     by_cases ab:i=j-1
     ·subst ab;exact Int.le_refl _
     ·exact V3.1 U i (j-1) (by omega) (by omega) (by omega)
    have ab:=V3.1 U (j-1) j (by omega) (by omega) (by omega);have ac:=aa (by omega);rw[J,y0 (show j-1<l.length by omega)] at ac;have al:l[j]≠l[j-1]:=fun h=>ac (by rw[h]);omega
   refine⟨fun a b x y ag W I=>?_,fun x=>?_⟩
   ·have ah:=(x4.1 I).1;simp only[o5,j4,List.length_nil] at ah;rw[Z7 (by omega)] at W;by_cases ai:b=(dedup l j).length
    ·subst ai;rw[Z8 (o7 _),V2] at I;simp at I;subst I;exact ae x (x5 W)
    ·rw[Z7 (by omega)] at I;exact h1 a b x y ag W I
   ·rw[u9,J];simp only[Z0,n9,j0,V]
def ov (l:List Int):Prop:=∀ (j:Nat) (x:Int),l[j]? =some x→0≤x∧(0<j→ ∀ y,l[j-1]? =some y→y<x)
theorem ov.up (h:ov l):fF l:=by
 intro i j x y W O;induction j generalizing y with
 |zero=>omega
 |succ j U=>
  intro J;have Y:=(x4.1 J).1;obtain⟨z,I⟩:∃ z,l[j]? =some z:=⟨_,y0 (show j<l.length by omega)⟩;have h1:=(h (j+1) y J).2 (by omega) z (by simpa using I);by_cases V:i=j
  ·subst V;rw[O] at I;cases I;exact h1
  ·have:=U z (by omega) I;omega
theorem Hn (h:fF l) (J:∀ x∈l,0≤x):ov l:=fun j x I=>⟨J x (x5 I),fun U y O=>h (j-1) j y x (by omega) O I⟩
theorem y5 {g ao:Nat} {ak:x1} {cs:List Int} (h:cB w g ao sv szs k cs) (I:aB .i64 w ak l):
  af x3 Df [.pointer (some ⟨g,0,none⟩),ak] w fun v w'=>Ext w w'∧ ∃ c,v= .bool c∧(c=true↔l.length=szs.length∧ov l):=by
 obtain⟨⟨aG,gs,ap,hm,aa⟩,_⟩:=h;have sub:w.rangeAt g (0+0) [sv]:=lp ap (by
  intro j v ad
  match j,ad with
  |0,ad=>exact ad)
 refine az func255 ?_;rw[aL ac.u I,aw,V cD.p rfl,bw (cs:=[sv]) bg.p bg.i rfl sub];refine (xM hm.ls).mono ?_;rintro _ J _ ⟨rfl,ae⟩;simp only[bF,ab];refine⟨fun aq=>⟨ae,false,rfl,(fun h=>by cases h),fun h=>absurd (by rw[h.1]) aq⟩,fun al=>?_⟩;have al:l.length=szs.length:=by omega
 rw[aL ac.u (I.ext ae)];refine bt.range l.length (fun i _ Y=>Ext w Y∧ ∀ (j:Nat) (x:Int),j<i→l[j]? =some x→0≤x∧(0<j→ ∀ y,l[j-1]? =some y→y<x)) I.le ⟨ae,fun j x au=>by omega⟩ ?_ ?_
 ·rintro i _ Y av hi ⟨O,ag⟩ ax;simp only[an,ab];refine⟨fun _=>?_,fun h=>by omega⟩;obtain⟨x,W⟩:∃ x,l[i]? =some x:=⟨_,y0 hi⟩;have aF:=I.le;rw[aZ ac.u U.i (by kernel_rfl) (I.ext O) W];refine aM (fun v ay=>Y=ay∧ ∃ c,v= .bool c∧(c=false↔0≤x∧(0<i→ ∀ y,l[i-1]? =some y→y<x))) ?_ ?_
  ·rintro _ _ ⟨rfl,c,rfl,aa⟩;rw[br];simp only[aI];refine⟨fun aA=>⟨O,false,rfl,(fun h=>by cases h),fun h=>?_⟩,fun aC=>ax _ _ ⟨O,fun j aD au ah=>?_⟩⟩
   ·have:=aa.2 (h.2 i x W);rw[aA] at this;cases this
   ·by_cases aE:j=i
    ·subst aE;rw[W] at ah;cases ah;exact aa.1 aC
    ·exact ag j aD (by omega) ah
  ·intro aH ai;simp only[an,bA,dd,ab];refine⟨fun aJ=>ai _ _ ⟨rfl,true,rfl,(fun h=>by cases h),fun h=>by omega⟩,fun aK=>⟨fun aN=>?_,fun aO=>ai _ _ ⟨rfl,false,rfl,fun _=>⟨by omega,fun h=>by omega⟩,fun _=>rfl⟩⟩⟩;obtain⟨y,aj⟩:∃ y,l[i-1]? =some y:=⟨_,y0 (show i-1<l.length by omega)⟩;rw[wrap_i64 (by omega) (by omega),dt (i:=i-1) (by omega) ac.u U.i (by kernel_rfl) (I.ext O) aj];simp only[cm];refine ai _ _ ⟨rfl,_,rfl,?_⟩;rw[decide_eq_false_iff_not];refine⟨fun h=>⟨by omega,fun _ aP am=>by rw[aj] at am;cases am;omega⟩,fun h=>by have:=h.2 (by omega) y aj;omega⟩
 ·rintro _ Y av ⟨O,ag⟩;simp only[an,ab];exact⟨fun h=>by omega,fun _=>⟨O,true,rfl,fun _=>⟨al,fun j x W=>ag j x (x4.1 W).1 W⟩,fun _=>rfl⟩⟩
def fY (l:List Int) (x:Int):Int:=if x∈l then (l.idxOf x:Int) else-1
theorem y6 {i:Nat} (h:fF l) (hi:l[i]? =some x):fY l x=i:=by
 have hm:x∈l:=x5 hi;have I:=List.idxOf_lt_length_of_mem hm;have J:l.idxOf x=i:=h.inj (by rw[y0 I,List.getElem_idxOf I]) hi;unfold fY;rw[if_pos hm,J]
theorem Ho (h:x∉l):fY l x= -1:=if_neg h
theorem th (h:aB .i64 w sv l) (hu:fF l):
  af x3 rY [sv,.int .i64 x] w fun v w'=>v= .int .i64 (fY l x)∧Ext w w':=by
 refine az func103 ?_;rw[aL ac.u h];refine bt.range l.length (fun i _ J=>Ext w J∧ ∀ j,j<i→l[j]? ≠some x) h.le ⟨Ext.refl _,fun j W=>by omega⟩ ?_ ?_
 ·rintro i _ J k hi ⟨I,O⟩ Y;simp only[an,ab];refine⟨fun _=>?_,fun h=>by omega⟩;obtain⟨y,V⟩:∃ y,l[i]? =some y:=⟨_,y0 hi⟩;rw[aZ ac.u U.i (by kernel_rfl) (h.ext I) V];simp only[a8,ab,aI];refine⟨fun he=>⟨?_,I⟩,fun he=>Y _ _ ⟨I,fun j W=>?_⟩⟩
  ·subst he;rw[y6 hu V]
  ·by_cases aa:j=i
   ·subst aa;rw[V];intro h;exact he (b9 h).symm
   ·exact O j (by omega)
 ·rintro _ J k ⟨I,O⟩;simp only[an,ab];refine⟨fun h=>by omega,fun _=>⟨?_,I⟩⟩;rw[Ho];intro hm;obtain⟨i,hi,he⟩:=List.getElem_of_mem hm;exact O i hi (by rw[y0 hi,he])
def dP (x vars scope:List Int):List Int:=scope.map fun p=>x.getD (vars.idxOf p) 0
theorem Hp (x vars scope:List Int):(dP x vars scope).length=scope.length:=by simp[dP]
theorem y7 {ae ag:x1} {x vars:List Int} (al:aB .i64 w ae x) (ao:aB .i64 w ag vars) (Y:aB .i64 w sv scope) (hu:fF vars) (ap:∀ p∈scope,p∈vars) (aC:x.length=vars.length) (aD:scope.length≤1000):
  af x3 Dk [ae,ag,sv] w fun v w'=>Ext w w'∧ ∃ g,w.heap.size≤g∧am .i64 U w' g v (dP x vars scope):=by
 refine az func260 ?_;rw[aL ac.u Y];refine hU ac.u U.i (by omega) (by omega) fun O J aE ah aq=>?_;have au:am .i64 U J O (.slice (some ⟨O,0,none⟩) scope.length scope.length) (r9 scope.length 0):=am.of (n:=scope.length) (bG.full aq (by simp) (by simp[maxLen];omega));generalize (x1.slice (some ⟨O,0,none⟩) scope.length scope.length)=av at*;rw[aL ac.u (Y.ext ah)];have aa:=Hp x vars scope;refine bJ.range scope.length (fun i V=>Ext w V∧am .i64 U V O av (upto (dP x vars scope) 0 i)) (by omega) ⟨ah,by rw[lw,aa];exact au⟩ ?_ ?_
 ·rintro i V aw hi ⟨I,hm⟩ ax;simp only[an,ab];refine⟨fun _=>?_,fun h=>by omega⟩;obtain⟨p,ad⟩:∃ p,scope[i]? =some p:=⟨_,y0 hi⟩;have ai:=ap p (x5 ad);have aF:=List.idxOf_lt_length_of_mem ai;rw[aZ ac.u U.i (by kernel_rfl) (Y.ext I) ad];refine (th (ao.ext I) hu).mono ?_;rintro _ aG _ ⟨rfl,W⟩;have e:fY vars p=(vars.idxOf p:Int):=if_pos ai;obtain⟨u,aj⟩:∃ u,x[vars.idxOf p]? =some u:=⟨_,y0 (by omega)⟩;have aH:(upto (dP x vars scope) 0 i).length=scope.length:=by rw[lv,aa]
  rw[dt (i:=vars.idxOf p) e ac.u U.i (by kernel_rfl) (al.ext (I.trans W)) aj,fS rfl ac.u U.i (hm.ext W) (by omega)];refine fT U.i (hm.ext W) (by omega) fun aJ ay _ ak=>?_;simp only[aI];have aA:(dP x vars scope)[i]? =some u:=by
   unfold dP;rw[x8,ad,Z2,u4,aj];rfl
  rw[ly aA] at ak;exact ax _ ⟨(I.trans W).then ay (by rintro r aK rfl;omega),ak⟩
 ·rintro V aw ⟨I,hm⟩;simp only[an,ab];refine⟨fun h=>by omega,fun _=>⟨I,O,by omega,?_⟩⟩;rw[←aa,lx] at hm;exact hm
theorem y8 (V:t≠[]) (hw:∀ b∈t,bq b=true):lex t=([t],true):=by
 cases t with
 |nil=>exact absurd rfl V
 |cons b q=>
  have I:q.dropWhile bq=[]:=by
   have:∀ (q:List Int),(∀ x∈q,bq x=true)→q.dropWhile bq=[]∧q.takeWhile bq=q:=fun q I=>by
    induction q with
    |nil=>simp
    |cons x q J=>
     have:=J fun y O=>I y (.tail _ O);simp[I x (.head _),this.1,this.2]
   exact (this q fun x U=>hw x (.tail _ U)).1
  have W:q.takeWhile bq=q:=by
   have:∀ (q:List Int),(∀ x∈q,bq x=true)→q.takeWhile bq=q:=fun q I=>by
    induction q with
    |nil=>simp
    |cons x q J=>simp[I x (.head _),J fun y O=>I y (.tail _ O)]
   exact this q fun x U=>hw x (.tail _ U)
  rw[wZ (hw b (.head _)),I,W]
theorem y9 {p:x1} (h:aB .u8 w p l) (O:Bytes l) (U:l.length≤100000):af x3 vQ [p] w fun v w'=>Ext w w'∧ ∃ g R,v= .pointer (some ⟨g,0,none⟩)∧w.heap.size≤g∧fU w' g R (lex l).1 (lex l).2∧¬R g:=by
 refine (w8 h O U).mono ?_;rintro _ J _ ⟨V,g,rfl,W,Y,I⟩;obtain⟨h1,ac,ad,aa,ae,hm⟩:=id I;exact⟨V,g,fun r=>r≠g,rfl,W,⟨Y,l,0,I,fun r ab=>bQ hm aa (by decide) ab,by rw[List.drop_zero]⟩,fun h=>h rfl⟩
theorem Hq {p:x1} (h:aB .u8 w p t) (ae:Bytes t) (ag:t.length≤100000) (ah:t≠[]) (hw:∀ b∈t,bq b=true):af x3 Dr [p] w fun v w'=>Ext w w'∧ ∃ n:Int,v= .tuple #[.int .i64 1,.int .i64 n,.int .i64 0]:=by
 have ai:=y8 ah hw;refine az func279 ?_;refine (y9 h ae ag).mono ?_;rintro _ J _ ⟨aj,g,R,rfl,al,W,am⟩;rw[ai] at W;refine⟨fun _ _ _ I O=>ad (fun r=>r=g) J O∧((I= .int .i64 0∧fU O g R [t] true)∨(I= .int .i64 1∧fU O g R [] true)),fun _ _ _ I _=>1-(bB I).toNat,⟨ad.refl _ _,.inl ⟨rfl,W⟩⟩,?_⟩;rintro _ _ _ _ O ⟨Y,⟨rfl,U⟩|⟨rfl,U⟩⟩
 ·refine (n2 U).mono ?_;rintro v aa _ ⟨V,ak,n,rfl⟩;rw[aD (v:=bk t) rfl,aD (v:=.int .i64 n) rfl,aD (v:=.int .i64 0) rfl,a8,ab];refine⟨fun _=>?_,fun h=>absurd rfl h⟩;rw[aI,wrap_i64 (by omega) (by omega)];exact⟨⟨Y.trans V,.inr ⟨rfl,ak⟩⟩,by simp[bB]⟩
 ·refine (n2 U).mono ?_;rintro v aa _ ⟨V,n,rfl⟩;rw[aD (v:=bk []) rfl,aD (v:=.int .i64 n) rfl,aD (v:=.int .i64 (if true then 2 else 11)) rfl,a8,ab];refine⟨fun h=>by simp at h,fun _=>?_⟩;rw[a8,ab];refine⟨fun h=>by simp at h,fun _=>?_⟩;have ac:Ext w aa:=aj.then (Y.trans V) (fun r an he=>by have he:r=g:=he;omega);rw[aL b7.u (h.ext ac)];exact⟨ac,_,rfl⟩
theorem Hr (I:Bytes t) (O:t.length≤100000) (U:t≠[]) (hw:∀ b∈t,bq b=true):af x3 Da [bk t] w fun v w'=>v= .bool true∧Ext w w':=by
 have ad:=y8 U hw;refine az func247 ?_;refine sy cz.u b7.u b5.u I (by omega) fun bv J V ae _=>?_;refine (Hq ae I O U hw).mono ?_;rintro _ am _ ⟨W,n,rfl⟩;rw[aD (v:=.int .i64 1) rfl,aD (v:=.int .i64 n) rfl,aD (v:=.int .i64 0) rfl];refine sy cz.u b7.u b5.u I (by omega) fun an ao Y ag _=>?_;refine (y9 ag I O).mono ?_;rintro _ ap _ ⟨ah,g,R,rfl,aq,aa,au⟩;rw[ad] at aa;refine (n2 aa).mono ?_;rintro _ ac _ ⟨ai,_,m,rfl⟩;rw[aD (v:=bk t) rfl,aD (v:=.int .i64 m) rfl,aD (v:=.int .i64 0) rfl];have aj:Ext w ac:=(((V.trans W).trans (Y.trans ah))).then ai (fun r av he=>by
  have he:r=g:=he;have:=V.size;have:=W.size;have:=Y.size;omega)
 refine aM (fun v ak=>ac=ak∧v= .bool true) ?_ ?_
 ·rintro _ _ ⟨rfl,rfl⟩;exact⟨rfl,aj⟩
 ·intro aw al;rw[a8,ab];refine⟨fun _=>?_,fun h=>absurd rfl h⟩;rw[a8,ab];refine⟨fun _=>?_,fun h=>absurd rfl h⟩;rw[wV I I];exact al _ _ ⟨rfl,by rw[decide_eq_true rfl]⟩
theorem Hs:af x3 r5 [.int .i64 x] w fun v w'=>v= .bool (decide (¬gF x))∧Ext w w':=by
 refine az func246 ?_;refine aM (fun v J=>w=J∧v= .bool (decide (¬gF x))) ?_ ?_
 ·rintro _ _ ⟨rfl,rfl⟩;exact⟨rfl,Ext.refl _⟩
 ·intro W O;rw[an,ab];refine⟨fun h=>O _ _ ⟨rfl,by rw[decide_eq_true];intro I;have:=I.1;omega⟩,fun h=>?_⟩;rw[bA];refine O _ _ ⟨rfl,?_⟩;congr 1;rw[V1,decide_eq_true_eq,decide_eq_true_eq];exact⟨fun U I=>by have:=I.2;omega,fun U=>by
   by_cases V:32<x
   ·exact V
   ·exact absurd ⟨by omega,by omega⟩ U⟩
theorem Ht (h:aB .i64 w sv l) (V:∀ x∈l,gF x):
  af x3 pK [sv,.func (.func r5) #[] #[]] w fun v w'=>v= .bool false∧Ext w w':=by
 refine az func196 ?_;refine af.mono (K:=fun v w'=>v= .int .i64 (-1)∧Ext w w') ?_ ?_
 ·refine az func170 ?_;rw[aL ac.u h];refine bt.range l.length (fun _ _ J=>Ext w J) h.le (Ext.refl _) ?_ ?_
  ·rintro i _ J k hi I W;rw[an,ab];refine⟨fun _=>?_,fun h=>by omega⟩;obtain⟨x,O⟩:∃ x,l[i]? =some x:=⟨_,y0 hi⟩;rw[aZ ac.u U.i (by kernel_rfl) (h.ext I) O];show af x3 r5 [.int .i64 x] J _;refine Hs.mono ?_;rintro _ ad _ ⟨rfl,Y⟩;rw[ab];refine⟨fun aa=>absurd (V x (x5 O)) aa,fun _=>?_⟩;rw[aI];exact W _ _ (I.trans Y)
  ·rintro _ J k I;rw[an,ab];exact⟨fun h=>by omega,fun _=>⟨rfl,I⟩⟩
 ·rintro _ J _ ⟨rfl,I⟩;rw[cm];exact⟨rfl,I⟩
theorem qM {m:Bool} {S R:ag} {d:fE} (h:ai.rep m S R w cs d):∃ sv g I aA gs,cs=[sv,.pointer (some ⟨g,0,none⟩)]∧aB .i64 w sv d.1∧eR w g I aA gs d.2.szs d.2.k d.2.o d.2.D:=by
 obtain⟨c,e,A,B,rfl,_,_,_,h1,J⟩:=h;have h1:ai.rep (α:=List Int) false bh R w c d.1:=h1;obtain⟨u,rfl⟩:=X1.1 (show c.length=1 from ai.len h1);obtain⟨g,m,sv,gs,rfl,O,_⟩:=J;exact⟨u,g,m,sv,gs,rfl,ff h1,O⟩
set_option maxHeartbeats 4000000 in
theorem Hu {aH:Nat} {f:bP} {d:fE} {x:bZ} {m:Bool} {S R:ag} (aT:jm w aH f) (aU:eo N f) (aV:x∈f.funs) (aW:ou f.k x d) (aX:ai.rep m S R w cs d):
  af x3 Ds [.pointer (some ⟨aH,0,none⟩),.agg cs.toArray] w fun v w'=>v= .bool true∧Ext w w':=by
 obtain⟨aq,bf,bg,bh,aJ,aK,_,_⟩:=aT;obtain⟨sv,ah,bi,aA,gs,rfl,Y,ay⟩:=qM aX;obtain⟨aY,aN,a1,bj,bk,bl⟩:=aW;obtain⟨ap,bm,bn⟩:=aU.funs x aV;rw[aY] at Y;refine az func281 ?_;refine bL fun al J bo aj au=>?_;have au:ae J al b1 [sv,.pointer (some ⟨ah,0,none⟩)]:=by obtain⟨_,_,_,rfl⟩:=bH Y;exact au
 refine aM (fun v av=>Ext J av∧v= .bool false) ?_ ?_
 rotate_left
 ·intro a2 aB;intro av W _ _;have ad:=au.ext W;rw[V b1.p rfl,aa (by kernel_rfl) (ad.cell (o:=0+1) rfl),cI dU.u];simp only[Z1,aP];rw[V b1.p rfl,aa (by kernel_rfl) (ad.cell (o:=0+1) rfl),aw,V b4.p rfl,aa (by kernel_rfl) ((aJ.ext (aj.trans W)).cell (o:=0+1) rfl)];refine (FG (ay.ext (aj.trans W)).is).mono ?_;rintro _ ak _ ⟨rfl,I⟩;refine⟨.inl I,?_⟩;rw[bF,ab];refine⟨fun h=>absurd a1 h,fun _=>?_⟩;have am:=ad.ext I;have aC:=W.trans I;rw[V b1.p rfl,aa (by kernel_rfl) (am.cell (o:=0+1) rfl),V b1.p rfl,aa (by kernel_rfl) (am.cell (o:=0+0) rfl),aL ac.u (Y.ext (aj.trans aC))];refine (FH (ay.ext (aj.trans aC)).is).mono ?_;rintro _ ax _ ⟨rfl,O⟩;refine⟨.inl O,?_⟩;rw[bF];refine aB _ _ ⟨aC.trans O,?_⟩;rw[decide_eq_false];intro h;exact h (by rw[aN,ap.sizes,u5])
 rintro _ av ⟨W,rfl⟩;rw[aP];have ad:=au.ext W;have aD:=aj.trans W;rw[V b1.p rfl,aa (by kernel_rfl) (ad.cell (o:=0+0) rfl),aL ac.u (Y.ext aD)];refine bt.range x.scope.length (fun _ _ ak=>Ext av ak) (by omega) (Ext.refl _) ?_ ?_
 rotate_left
 ·rintro _ ak k I;rw[an,ab];exact⟨fun h=>by omega,fun _=>⟨rfl,aD.trans I⟩⟩
 rintro i _ ak k hi I a6;obtain⟨v,ao⟩:∃ v,x.scope[i]? =some v:=⟨_,y0 hi⟩;have bp:=ap.scope.2 v (x5 ao);have aE:=aD.trans I;have am:=ad.ext I;have aO:=aJ.ext aE;have a7:f.sizes[v.toNat]? =some (f.sizes.getD v.toNat 0):=by
  rw[u4,y0 (by omega)];rfl
 rw[an,ab];refine⟨fun _=>?_,fun h=>by omega⟩;rw[aZ ac.u U.i (by kernel_rfl) (Y.ext aE) ao];refine aM (fun b ax=>Ext ak ax∧b= .bool false) ?_ ?_
 ·rintro _ ax ⟨O,rfl⟩;rw[aP,aI];exact a6 _ _ (I.trans O)
 ·intro a2 aB;intro ax O _ _;have aF:=aE.trans O;rw[an,ab];refine⟨fun h=>by omega,fun _=>?_⟩;rw[aw,V b4.p rfl,aa (by kernel_rfl) ((aO.ext O).cell (o:=0+2) rfl),aL ac.u (aK.ls.ext aF),cm,ab];refine⟨fun h=>by omega,fun _=>?_⟩;rw[V b1.p rfl,aa (by kernel_rfl) ((am.ext O).cell (o:=0+0) rfl)];refine (y2 (Y.ext aF)).mono ?_;rintro _ bq _ ⟨aQ,r,rfl,a8⟩;have ba:r=(i:Int):=(a8 i ao).2 fun j br bb=>by have:=iy ap.scope.1 bb ao;omega
  subst ba;have aR:=aF.trans aQ;have aG:=O.trans aQ;rw[bF,ab];refine⟨fun h=>absurd rfl h,fun _=>?_⟩;rw[V b1.p rfl,aa (by kernel_rfl) ((am.ext aG).cell (o:=0+1) rfl),aw,V b4.p rfl,aa (by kernel_rfl) ((aO.ext aG).cell (o:=0+2) rfl)];refine ss (y:=v) (i:=v.toNat) (by omega) ac.u U.i (aK.ls.ext aR) a7 fun b o bc=>?_;rw[aa (by kernel_rfl) bc];refine (sT (ay.ext aR).is).mono ?_;rintro bu bw _ ⟨aS,bx,bz,bd⟩;refine⟨.inl aS,?_⟩;have be:d.2.szs[i]? =some (f.sizes.getD v.toNat 0):=by
   rw[aN,ap.sizes,x8,ao];rfl
  rw[aZ ac.u U.i (by kernel_rfl) bd.ls be,bF];exact aB _ _ ⟨aG.trans aS,by rw[decide_eq_false (fun h=>h rfl)]⟩
theorem Hv {V:Nat} {f:bP} {d:fE} {x:bZ} {m:Bool} {S R:ag} (W:jm w V f) (Y:eo N f) (aa:x∈f.funs) (ab:ou f.k x d) (I:ai.rep m S R w cs d):
  af x3 r6 [.pointer (some ⟨V,0,none⟩),.agg cs.toArray] w fun v w'=>v= .bool false∧Ext w w':=by
 refine az func249 ?_;refine bL fun al J ak O U=>?_;have ac:cs.length=2:=ai.len I;have U:ae J al b1 cs:=by
  obtain⟨sv,ah,am,aA,gs,rfl,ad,an⟩:=qM I;obtain⟨_,_,_,rfl⟩:=bH ad;exact U
 rw[bw b1.p b1.i ac U.range];refine (Hu (W.ext O) Y aa ab (bO I O)).mono ?_;rintro _ ao _ ⟨rfl,aj⟩;rw[bc];exact⟨rfl,O.trans aj⟩
theorem Hw {U:Nat} {f:bP} {W:x1} {O:List fE} {m:Bool} {S R:ag} (ad:jm w U f) (ae:eo N f) (V:ai.rep m S R w [W] O) (Y:qK f.k f.funs O):
  af x3 Db [W,.func (.func r6) #[.pointer (some ⟨U,0,none⟩)] #[]] w fun v w'=>v= .bool false∧Ext w w':=by
 refine az func248 ?_;refine af.mono (K:=fun v w'=>v= .int .i64 (-1)∧Ext w w') ?_ ?_
 ·refine az func280 ?_;rw[fR c8.u V];refine bt.range O.length (fun _ _ J=>Ext w J) (mr V) (Ext.refl _) ?_ ?_
  ·rintro i _ J k hi I ah;rw[an,ab];refine⟨fun _=>?_,fun h=>by omega⟩;obtain⟨d,aa⟩:∃ d,O[i]? =some d:=⟨_,y0 hi⟩;obtain⟨x,ac⟩:∃ x,f.funs[i]? =some x:=⟨_,y0 (by have:=Y.1;omega)⟩;refine jV (α:=fE) b1.p rfl c8.u b1.i (bO V I) aa fun cs aj=>?_;show af x3 r6 [.pointer (some ⟨U,0,none⟩),.agg cs.toArray] J _;refine (Hv (ad.ext I) ae (x5 ac) (Y.2 i x d ac aa) aj).mono ?_;rintro _ al _ ⟨rfl,ak⟩;rw[aP,aI];exact ah _ _ (I.trans ak)
  ·rintro _ J k I;rw[an,ab];exact⟨fun h=>by omega,fun _=>⟨rfl,I⟩⟩
 ·rintro _ J _ ⟨rfl,I⟩;rw[cm];exact⟨rfl,I⟩
def j8 (I:List bZ):Nat:=(I.map fun x=>x.lines.length).sum
set_option maxHeartbeats 4000000 in
theorem Hx {aV:Nat} {f:bP} (aX:jm w aV f) (O:eo N f) (bL:N≤60000) (aJ:f.name≠[]∧ ∀ b∈f.name,bq b=true):
  af x3 CT [.pointer (some ⟨aV,0,none⟩)] w fun v w'=>Ext w w'∧ ∃ e:Int,v= .int .i64 e∧(j8 f.funs≤16384→e=0):=by
 obtain⟨aq,bM,bQ,ad,ae,aK,aN,ag⟩:=id aX;have bR:=O.name;have be:Bytes f.name:=fun b bf=>by
  have:=of_decide_eq_true (aJ.2 b bf);omega
 refine az func209 ?_;rw[cI sa.u];simp only[Z1,aP];refine aM (fun v J=>Ext w J∧v= .bool false) ?_ ?_
 rotate_left
 ·intro aO Y;rw[aw,V b4.p rfl,aa (by kernel_rfl) (ae.cell (o:=0+0) rfl)];refine (Hr be (by omega) aJ.1 aJ.2).mono ?_;rintro _ J _ ⟨rfl,I⟩;rw[bc,Y4,aP];rw[aw,V b4.p rfl,aa (by kernel_rfl) ((ae.ext I).cell (o:=0+2) rfl),aL ac.u (aK.ls.ext I),a8,ab];refine⟨fun h=>by have:=O.sizes.1;omega,fun _=>?_⟩;rw[aw,V b4.p rfl,aa (by kernel_rfl) ((ae.ext I).cell (o:=0+2) rfl)];refine (Ht (aK.ls.ext I) O.sizes.2.2).mono ?_;rintro _ W _ ⟨rfl,ai⟩;have aY:=I.trans ai;rw[aP,aw,V b4.p rfl,aa (by kernel_rfl) ((ae.ext aY).cell (o:=0+1) rfl)];refine wA.mono ?_;rintro _ aj _ ⟨rfl,ao⟩;have aC:=aY.trans ao;rw[decide_eq_true (show right f.k from O.k),bc,Y4,aP,aw,V b4.p rfl,aa (by kernel_rfl) ((ae.ext aC).cell (o:=0+3) rfl),lf];refine (Hw (aX.ext aC) O (bO aN aC) ag).mono ?_;rintro _ a1 _ ⟨rfl,bg⟩;exact Y _ _ ⟨aC.trans bg,rfl⟩
 rintro _ J ⟨I,rfl⟩;rw[aP];have aD:=ae.ext I;refine aM (fun v W=>J=W∧v= .bool false) ?_ ?_
 rotate_left
 ·intro aO Y;rw[aw,V b4.p rfl,aa (by kernel_rfl) (aD.cell (o:=0+0) rfl),lr cz.u,bA,ab];refine⟨fun h=>by omega,fun _=>?_⟩;rw[aw,V b4.p rfl,aa (by kernel_rfl) (aD.cell (o:=0+2) rfl),aL ac.u (aK.ls.ext I),bA,ab];refine⟨fun h=>by have:=O.sizes.2.1;omega,fun _=>?_⟩;rw[aw,V b4.p rfl,aa (by kernel_rfl) (aD.cell (o:=0+3) rfl),fR c8.u (bO aN I),bA];exact Y _ _ ⟨rfl,by rw[decide_eq_false];have:=O.jd;have:=ag.1;omega⟩
 rintro _ _ ⟨rfl,rfl⟩;have a2:=bO aN I;rw[aw,V b4.p rfl,aa (by kernel_rfl) (aD.cell (o:=0+3) rfl),fR c8.u a2];refine⟨fun bh bi aQ W=>∃ i n:Nat,aQ= .int .i64 (i:Int)∧i≤ad.length∧bh= .int .i64 (n:Int)∧bi= .bool false∧Ext J W∧n≤j8 (f.funs.take i)∧n≤i*60000,fun _ _ aQ _=>ad.length-(bB aQ).toNat,
  ⟨0,0,rfl,Y7 _,rfl,rfl,Ext.refl _,Y7 _,by omega⟩,?_⟩
 rintro _ _ _ W ⟨i,n,rfl,hi,rfl,rfl,ai,bj,bS⟩;have bT:ad.length≤256:=by rw[ag.1];exact O.jd
 rw[an,ab];refine⟨fun a6=>?_,fun bU=>?_⟩
 ·have a6:i<ad.length:=by omega
  obtain⟨d,a7⟩:∃ d,ad[i]? =some d:=⟨_,y0 a6⟩;obtain⟨x,aR⟩:∃ x,f.funs[i]? =some x:=⟨_,y0 (by have:=ag.1;omega)⟩;have aE:=ag.2 i x d aR a7;obtain⟨aF,bk,bl⟩:=O.funs x (x5 aR);have bV:=aF.len;refine gY (fun a b aj=>Ext W aj∧a= .int .i64 ((n+d.2.D.length:Nat):Int)∧b= .bool false) ?_ ?_
  ·rintro _ _ aj ⟨ao,rfl,rfl⟩;rw[aI,wrap_i64 (by omega) (by omega)];have bm:=aE.2.2.2.2.1;refine⟨⟨i+1,n+d.2.D.length,rfl,by omega,rfl,rfl,ai.trans ao,?_,?_⟩,by simp only[bB];omega⟩
   ·have e:j8 (f.funs.take (i+1))=j8 (f.funs.take i)+x.lines.length:=by
     unfold j8;rw[u9,aR,Z0,b6,List.sum_append,T4,List.map_nil,List.sum_cons,List.sum_nil,Nat.add_zero]
    omega
   ·have:(i+1)*60000=i*60000+60000:=by omega
    have bW:d.2.D.length≤60000:=by omega
    omega
  ·intro aO Y;refine jV (α:=fE) b1.p rfl c8.u b1.i (bO a2 ai) a7 fun cs bn=>?_;obtain⟨sv,ah,bX,aA,gs,rfl,bo,ba⟩:=qM bn;refine bu b1.i fun al aj bY ao bp=>?_;refine bN (vs:=[sv,.pointer (some ⟨ah,0,none⟩)]) b1.i rfl rfl (by intro v aG;simp at aG;rcases aG with rfl|rfl <;> first|exact bo.cells.2|rfl) bp fun a1 br bZ bb=>?_;have aS:Ext W a1:=ao.then br (fun r bw he=>by have he:r=al:=he;omega);rw[V b1.p rfl,aa (by kernel_rfl) (bb.cell (o:=0+1) rfl)];refine (FF (ba.ext aS).is).mono ?_;rintro _ b0 _ ⟨rfl,aT⟩;have bm:=aE.2.2.2.2.1;rw[aI,wrap_i64 (by omega) (by omega),V b1.p rfl,aa (by kernel_rfl) ((bb.ext aT).cell (o:=0+1) rfl)];refine (sT ((ba.ext aS).ext aT).is).mono ?_;rintro b2 aU _ ⟨bx,b3,b5,bd⟩;rw[aL ac.u bd.ls];have b7:d.2.szs.length≤6:=by rw[aE.2.1,aF.sizes,u5];exact bk
   refine bt.range d.2.szs.length (fun j out aH=>Ext aU aH∧ ∃ ap,aU.heap.size≤ap∧am .i64 ak aH ap out (d.2.szs.take j)) (by omega) ⟨Ext.refl _,aU.heap.size,o7 _,am.nil _ _ _ _⟩ ?_ ?_
   ·rintro j out aH k bz ⟨av,ap,bC,ax⟩ bD;obtain⟨z,ay⟩:∃ z,d.2.szs[j]? =some z:=⟨_,y0 bz⟩;rw[an,ab];refine⟨fun _=>?_,fun h=>by omega⟩;rw[aZ ac.u U.i (by kernel_rfl) (bd.ls.ext av) ay];refine dx au.u ak.i rfl fun a aW bE b8 aB bF=>?_;refine hb au.u ak.i rfl (ax.ext aB) bF.ls (by simp;omega) (by simp;omega) fun b9 bG ca cb bH bI=>?_;have cc:=av.size;have cd:=aB.size;rw[aI];refine bD _ _ ⟨(av.trans aB).then bI (fun r bw he=>by have he:r=ap:=he;omega),bG,by omega,?_⟩;rw[u9,ay];exact bH
   ·rintro out aH k ⟨av,ap,bC,ax⟩;rw[o9] at ax;rw[an,ab];refine⟨fun h=>by omega,fun _=>?_⟩;rw[aP];have bJ:d.2.szs=x.sizes:=aE.2.1;rw[bJ] at ax;refine (xI ax.ls fun z ay=>?_).mono ?_
    ·rw[aF.sizes] at ay;obtain⟨v,aG,rfl⟩:=j5.1 ay;have ce:=aF.scope.2 v aG;refine (O.sizes.2.2 _ ?_).1;rw[u4,y0 (by omega)];exact T6 _
    ·rintro _ bE _ ⟨rfl,aB⟩;refine Y _ _ _ ⟨(((aS.trans aT).trans bx).trans av).trans aB,by congr 1,by rw[bl]⟩
 ·have bK:i=ad.length:=by omega
  subst bK;rw[ag.1,o9] at bj;refine aM (fun v aj=>W=aj∧v= .bool (decide (16384<(n:Int)))) ?_ ?_
  ·rintro _ _ ⟨rfl,rfl⟩;rw[ab];refine⟨fun h=>⟨I.trans ai,5,rfl,fun cg=>by omega⟩,fun h=>⟨I.trans ai,0,rfl,fun _=>rfl⟩⟩
  ·intro aO Y;rw[aP,bA];exact Y _ _ ⟨rfl,rfl⟩
theorem qN:∀ {a b:List Int} {i:Nat},(∀ (j:Nat) (x y:Int),j<i→a[j]? =some x→b[j]? =some y→x=y)→i≤a.length→i≤b.length→e4 a b=e4 (a.drop i) (b.drop i)
 |_,_,0,_,_,_=>by simp
 |[],_,i+1,_,h,_=>by simp at h
 |_::_,[],i+1,_,_,h=>by simp at h
 |x::a,y::b,i+1,he,h1,I=>by
  have J:=he 0 x y (by omega) rfl rfl;subst J;simp only[e4,Int.lt_irrefl,if_false,List.drop_succ_cons];exact qN (fun j u v U hu O=>he (j+1) u v (by omega) hu O) (by simpa using h1) (by simpa using I)
theorem za:af x3 cmp_isNaN_int [.int .i64 x] w fun v w'=>v= .bool false∧Ext w w':=by
 refine az func182 ?_;simp only[bF];exact⟨by simp,Ext.refl _⟩
theorem zb:af x3 B7 [.int .i64 x,.int .i64 y] w fun v w'=>v= .int .i64 (if x<y then-1 else if y<x then 1 else 0)∧Ext w w':=by
 refine az func114 ?_;refine za.mono ?_;rintro _ J _ ⟨rfl,I⟩;refine za.mono ?_;rintro _ V _ ⟨rfl,O⟩;simp only[aP,an,bA,ab];exact⟨fun h=>⟨by rw[if_pos h],I.trans O⟩,fun h=>⟨fun U=>⟨by rw[if_neg h,if_pos U],I.trans O⟩,fun U=>⟨by rw[if_neg h,if_neg U],I.trans O⟩⟩⟩
theorem Hy {b:List Int} (W:aB .i64 w cn a) (aa:aB .i64 w bv b):af x3 CZ [cn,bv] w fun v w'=>v= .int .i64 (e4 a b)∧Ext w w':=by
 refine az func220 ?_;have aE:=W.le;rw[aL ac.u W];refine⟨fun _ ad J=>∃ i:Nat,ad= .int .i64 (i:Int)∧i≤a.length∧i≤b.length∧Ext w J∧ ∀ (j:Nat) (x y:Int),j<i→a[j]? =some x→b[j]? =some y→x=y,fun _ ad _=>a.length-(bB ad).toNat,⟨0,rfl,Y7 _,Y7 _,Ext.refl _,fun j x y aq=>by omega⟩,?_⟩;rintro _ _ J ⟨i,rfl,au,av,I,ak⟩;have O:e4 a b=e4 (a.drop i) (b.drop i):=qN ak au av;simp only[an,ab];refine⟨fun Y=>?_,fun aF=>?_⟩
 ·have Y:i<a.length:=by omega
  obtain⟨x,ae⟩:∃ x,a[i]? =some x:=⟨_,y0 Y⟩;have al:a.drop i=x::a.drop (i+1):=by rw[W0 Y,(x4.1 ae).2]
  rw[aZ ac.u U.i (by kernel_rfl) (W.ext I) ae,aL ac.u (aa.ext I)];simp only[cm,ab];refine⟨fun h=>?_,fun h=>?_⟩
  ·have:b.drop i=[]:=by rw[List.drop_eq_nil_iff];omega
   rw[this,al] at O;exact⟨by rw[O];rfl,I⟩
  have ag:i<b.length:=by omega
  obtain⟨y,ah⟩:∃ y,b[i]? =some y:=⟨_,y0 ag⟩;have aw:b.drop i=y::b.drop (i+1):=by rw[W0 ag,(x4.1 ah).2]
  rw[aZ ac.u U.i (by kernel_rfl) (aa.ext I) ah];refine zb.mono ?_;rintro _ aG _ ⟨rfl,am⟩;rw[al,aw] at O;simp only[e4] at O;simp only[bF,ab,aI];refine⟨fun ao=>⟨?_,I.trans am⟩,fun ax=>?_⟩
  ·rw[O];by_cases h1:x<y
   ·rw[if_pos h1,if_pos h1]
   ·by_cases V:y<x
    ·rw[if_neg h1,if_pos V,if_neg h1,if_pos V]
    ·rw[if_neg h1,if_neg V] at ao;exact absurd rfl ao
  ·rw[wrap_i64 (by omega) (by omega)];refine⟨⟨i+1,rfl,Y,ag,I.trans am,fun j ay aA aq ai aj=>?_⟩,by simp only[bB];omega⟩;by_cases aC:j=i
   ·subst aC;rw[ae] at ai;rw[ah] at aj;cases ai;cases aj;have ap:=Y9.1 ax;by_cases h1:x<y
    ·rw[if_pos h1] at ap;omega
    ·by_cases V:y<x
     ·rw[if_neg h1,if_pos V] at ap;omega
     ·omega
   ·exact ak j ay aA (by omega) ai aj
 ·have aD:i=a.length:=by omega
  subst aD;rw[List.drop_length] at O;rw[aL ac.u (W.ext I),aL ac.u (aa.ext I)];simp only[an,ab];refine⟨fun h=>⟨?_,I⟩,fun h=>⟨?_,I⟩⟩
  ·obtain⟨y,l,e⟩:∃ y l,b.drop a.length=y::l:=⟨_,_,W0 (by omega)⟩;rw[O,e];rfl
  ·have:b.drop a.length=[]:=by rw[List.drop_eq_nil_iff];omega
   rw[O,this];rfl
theorem Hz {W:x1} (h:aB .i64 w W [x,y]):af x3 B6 [W] w fun v w'=>v= .int .i64 (if x≠0 then x else y)∧Ext w w':=by
 refine az func113 ?_;rw[aL ac.u h];refine bt.range 2 (fun i _ J=>Ext w J∧(1≤i→x=0)∧(2≤i→y=0)) (by omega) ⟨Ext.refl _,by omega,by omega⟩ ?_ ?_
 ·rintro i _ J k hi ⟨I,h1,O⟩ V;rw[an,ab];refine⟨fun _=>?_,fun h=>by simp at h;omega⟩
  match i,hi,h1,O,V with
  |0,_,h1,O,V=>
   rw[aZ (i:=0) ac.u U.i (by kernel_rfl) (h.ext I) rfl,bF,ab];refine⟨fun Y=>⟨by rw[if_pos Y],I⟩,fun he=>?_⟩;rw[aI];exact V _ _ ⟨I,fun _=>Y9.1 he,fun h=>by omega⟩
  |1,_,h1,O,V=>
   rw[aZ (i:=1) ac.u U.i (by kernel_rfl) (h.ext I) rfl,bF,ab];have aa:=h1 (o7 _);refine⟨fun Y=>⟨by rw[if_neg (by omega)],I⟩,fun he=>?_⟩;rw[aI];exact V _ _ ⟨I,fun _=>aa,fun _=>Y9.1 he⟩
 ·rintro _ J k ⟨I,h1,O⟩;have aa:=h1 (by omega);have ad:=O (by omega);rw[an,ab];exact⟨fun h=>by simp at h,fun _=>⟨by rw[if_neg (by omega),ad],I⟩⟩
structure cd where
 sv:x1
 g:Nat
 sc:List Int
 cs:List Int
def dQ (h:cd):List x1:=[h.sv,.pointer (some ⟨h.g,0,none⟩)]
abbrev h4 (h:cd):x1:=.agg (dQ h).toArray
def ow (h:cd):Int:=cG h.sc
def ho (w:x2) (I:Nat) (h:cd):Prop:=(∃ J,am .i64 U w J h.sv h.sc)∧(∀ r,leads h.sv r→r≠I)∧hK h.sc
theorem ho.O {I:Nat} {h:cd} (J:ho w I h) (U:ad S w w') (V:∀ r,leads h.sv r→¬S r):ho w' I h:=by
 obtain⟨⟨W,hm⟩,Y⟩:=J;exact⟨⟨W,a6 hm U V⟩,Y⟩
theorem ho.one {I:Nat} {h:cd} (J:ho w I h):∀ u∈dQ h,u.oneCell'=true:=by
 obtain⟨⟨O,hm⟩,_⟩:=J;intro u hu;simp[dQ] at hu;rcases hu with rfl|rfl
 ·exact hm.ls.cells.2
 ·rfl
def eh (w:x2) (g:Nat) (v:x1) (L:List cd):Prop:=a1 dQ 2 cr w g v L∧ ∀ h∈L,ho w g h
theorem eh.ext {g:Nat} {L:List cd} (h:eh w g v L) (I:Ext w w'):eh w' g v L:=⟨h.1.ext I,fun x J=>(h.2 x J).O (I.O fun _=>False) fun _ _ h=>h⟩
theorem eh.at {g:Nat} {L:List cd} (h:eh w g v L) {i:Nat} {x:cd} (hi:L[i]? =some x):ho w g x:=h.2 x (x5 hi)
theorem qO {g:Nat} {L:List cd} {i:Nat} {x:cd} {K:x1→Prop} (J:y=(i:Int)) (h:eh w g v L) (hi:L[i]? =some x):
  I x3 (o6 fc v (.int .i64 y)) w (fun p=>I x3 (x6 cr p) w K)=K (h4 x):=by
 rw[cT J fc.u cr.i h.1 (x4.1 hi).1,bw cr.p cr.i rfl (h.1.range hi)]
theorem HA {g:Nat} {L:List cd} {i:Nat} {x:cd} {K:Unit→x2→Prop} (Y:y=(i:Int)) (h:eh w g v L) (hi:i<L.length) (U:ho w g x)
  (aa:∀ w',ad (fun r=>leadsTo v r) w w'→eh w' g v (L.set i x)→K () w'):I x3 (o6 fc v (.int .i64 y)) w fun p=>ax x3 (o3 cr p (h4 x)) w K:=by
 rw[cT Y fc.u cr.i h.1 hi];refine FI (f:=dQ) cr.i h.1 rfl U.one hi fun w' V _ h'=>aa w' V ⟨h',fun z J=>?_⟩;rcases X9 J with J|rfl
 ·exact (h.2 z J).O V fun r W he=>(h.2 z J).2.1 r W (h.1.leads he).1
 ·exact U.O V fun r W he=>U.2.1 r W (h.1.leads he).1
abbrev HB:x1:=.func (.func vZ) #[] #[]
def qP (a b:cd):Int:=let c:Int:=if (a.sc.length:Int)<b.sc.length then-1 else if (b.sc.length:Int)<a.sc.length then 1 else 0
 if c≠0 then c else e4 a.sc b.sc
theorem HC {a b:cd} (J:hK a.sc) (O:hK b.sc):qP a b<0↔ow a<ow b:=by
 have U:=(s8 J O).1;unfold ow qP;simp only;generalize V:(if (a.sc.length:Int)<b.sc.length then (-1:Int) else if (b.sc.length:Int)<a.sc.length then 1 else 0)=c;rw[U,←V];by_cases h1:(a.sc.length:Int)<b.sc.length
 ·rw[if_pos h1,if_pos (by omega)];exact⟨fun _=>.inl (by omega),fun _=>by omega⟩
 ·by_cases I:(b.sc.length:Int)<a.sc.length
  ·rw[if_neg h1,if_pos I,if_pos (by omega)];exact⟨fun h=>by omega,fun h=>by rcases h with h|h <;> omega⟩
  ·rw[if_neg h1,if_neg I,if_neg (by omega)];exact⟨fun h=>.inr ⟨by omega,h⟩,fun h=>by rcases h with h|h;omega;exact h.2⟩
theorem HD {a b:cd} (aj:ho w ah a) (ak:ho w ah b):af x3 vZ [h4 a,h4 b] w fun v w'=>Ext w w'∧v= .int .i64 (qP a b):=by
 obtain⟨⟨aW,ab⟩,_,aw⟩:=aj;obtain⟨⟨ax,ad⟩,_,ay⟩:=ak;refine az func219 ?_;refine bL fun al J aA am O=>?_;refine bL fun an ao aB ai W=>?_;have O:ae J al cr [a.sv,.pointer (some ⟨a.g,0,none⟩)]:=by
  obtain⟨_,_,_,e⟩:=bH ab.ls;simp only[h4,dQ,e] at O ⊢;exact O
 have W:ae ao an cr [b.sv,.pointer (some ⟨b.g,0,none⟩)]:=by
  obtain⟨_,_,_,e⟩:=bH ad.ls;simp only[h4,dQ,e] at W ⊢;exact W
 intro aC ag _ _;have I:=(am.trans ai).trans ag;have f1:=(O.ext ai).ext ag;have f2:=W.ext ag;rw[V cr.p rfl,aa (by kernel_rfl) (f1.cell (o:=0+0) rfl),aL ac.u (ab.ls.ext I),V cr.p rfl,aa (by kernel_rfl) (f2.cell (o:=0+0) rfl),aL ac.u (ad.ls.ext I),
  V cr.p rfl,aa (by kernel_rfl) (f1.cell (o:=0+0) rfl),V cr.p rfl,aa (by kernel_rfl) (f2.cell (o:=0+0) rfl)]
 refine zb.mono ?_;rintro _ aD _ ⟨rfl,Y⟩;refine⟨.inl Y,?_⟩;refine (Hy ((ab.ls.ext I).ext Y) ((ad.ls.ext I).ext Y)).mono ?_;rintro _ aE _ ⟨rfl,ap⟩;refine nR (l:=[if (a.sc.length:Int)<b.sc.length then (-1:Int) else if (b.sc.length:Int)<a.sc.length then 1 else 0,e4 a.sc b.sc]) ac.u U.i (by omega) rfl (by kernel_rfl) fun aF aG aH aI aq au=>?_;refine (Hz au.ls).mono ?_;rintro _ aJ _ ⟨rfl,av⟩;exact⟨((((I.trans Y).trans ap).trans aq).trans av),rfl⟩
theorem HE {g:Nat} {L:List cd} (h:eh w g v L) (ac:L.length<65536):
  af x3 CY [v,HB] w fun _ w'=>ad (fun r=>leadsTo v r) w w'∧ ∃ M,M.Perm L∧qx ow M 0 M.length∧eh w' g v M:=by
 have U:∀ {V:x2} {a:cd},ad (fun r=>r=g) w V→ho w g a→ho V g a:=fun J I=>I.O J fun r W he=>I.2.1 r W he;refine (yg FS (G:=ho w g) (num:=ow) (cf:=qP) (cap:=#[]) FW FX (fun a I=>I.one) (fun a _=>rfl) (fun a b I Y=>HC I.2.2 Y.2.2) (Enters.of x3 FY rfl (by kernel_rfl)) h.1 h.2 ac fun V a b J I Y=>HD (U J I) (U J Y)).mono ?_;rintro _ w' _ ⟨J,M,ab,hu,hm⟩;have ae:ad (fun r=>r=g) w w':=J.mono fun r _ W=>(h.1.leads W).1;exact⟨J,M,ab,fun p q x y _ ag _ aa ah=>hu p q x y ag aa ah,hm,fun x aa=>U ae (h.2 x (ab.mem_iff.1 aa))⟩
theorem HF {m:List Int} (O:iA l) (U:l.Nodup) (I:m.Perm l) (V:m.Pairwise (·≤ ·)):m=a7 l:=by
 refine s9 (f:=fun x=>x) ?_ (s7 l) fun x=>?_
 ·have W:m.Nodup:=I.nodup_iff.2 U;exact (List.Pairwise.and V W).imp fun {a b} h=>by
   obtain⟨h1,J⟩:=h;have J:a≠b:=J;omega
 ·rw[I.mem_iff,oo O]
theorem HG (h:∀ z∈l,1≤z∧z≤32) (I:cS l=false):aE l≤4096:=by
 have:=of_decide_eq_false I;rw[tb h] at this;omega
set_option maxHeartbeats 4000000 in
theorem HH {f:bP} {d:fE} {x:bZ} {m:Bool} {S R:ag} (Y:eo N f) (bO:N≤60000) (aF:x∈f.funs) (a2:ou f.k x d) (a6:ai.rep m S R w cs d):
  af x3 CU [.agg cs.toArray] w fun v w'=>Ext w w'∧ ∃ sv gs ao aG aH,v= .tuple #[sv,.pointer (some ⟨ao,0,none⟩)]∧w.heap.size≤gs∧am .i64 U w' gs sv (a7 x.scope)∧cB w' ao aG aH (bd f.sizes (a7 x.scope)) f.k (gm f.sizes f.k x).2:=by
 obtain⟨sv,ah,bQ,aA,bR,rfl,aw,a8⟩:=qM a6;obtain⟨ba,bb,bc,bS,bT,be⟩:=a2;obtain⟨I,bf,bg⟩:=Y.funs x aF;have aO:=qD I Y.sizes.2.1;have bU:=I.len;rw[ba] at aw;have bh:∀ z∈x.sizes,1≤z∧z≤32:=fun z aP=>by
  rw[I.sizes] at aP;obtain⟨v,bi,rfl⟩:=j5.1 aP;have bV:=I.scope.2 v bi;refine Y.sizes.2.2 _ ?_;rw[u4,y0 (by omega)];exact T6 _
 have bj:=HG bh bg;have aJ:=qC aO I.scope.1;have bW:(a7 x.scope).length≤6:=by rw[aJ.length_eq];exact bf
 refine az func210 ?_;refine bL fun al J bX aQ ap=>?_;have ap:ae J al b1 [sv,.pointer (some ⟨ah,0,none⟩)]:=by obtain⟨_,_,_,rfl⟩:=bH aw;exact ap
 rw[V b1.p rfl,aa (by kernel_rfl) (ap.cell (o:=0+1) rfl)];refine (yW (a8.ext aQ).is (by omega)).mono ?_;rintro _ bk _ ⟨aK,_,aq⟩;rw[bb] at aq;obtain⟨g,bY,b0,bl,rfl,b2,b3,aq,aR⟩:=aq bj;rw[bc] at aq;rw[aD (v:=.pointer (some ⟨g,0,none⟩)) rfl,aD (v:=.int .i64 0) rfl,V b1.p rfl,aa (by kernel_rfl) ((ap.ext aK).cell (o:=0+0) rfl)];have au:=aQ.trans aK;refine te (aw.ext au) (by omega) fun v aS gs b4 ax b5 bm bn ay=>?_;have bo:=HF aO I.scope.1 bm bn;subst bo;have b6:=au.size;rw[aL ac.u ay.ls];refine hU (k:=.i64) ac.u U.i (by omega) (by omega) fun go aT b7 aB aU=>?_;have bp:am .i64 U aT go (.slice (some ⟨go,0,none⟩) (a7 x.scope).length (a7 x.scope).length) (r9 (a7 x.scope).length 0):=am.of (bG.full (k:=1) (n:=(a7 x.scope).length) aU (by simp) (by simp[maxLen];omega));rw[aL ac.u (ay.ls.ext aB)];have b8:=aU.lt;have aC:(e5 x.scope (a7 x.scope)).length=(a7 x.scope).length:=by simp[e5]
 have bq:=ax.trans aB;have b9:=au.trans bq;refine bJ.range (a7 x.scope).length (fun i W=>ad (fun r=>r=go) aT W∧am .i64 U W go (.slice (some ⟨go,0,none⟩) (a7 x.scope).length (a7 x.scope).length) ((e5 x.scope (a7 x.scope)).take i++r9 ((a7 x.scope).length-i) 0)) (by omega) ⟨ad.refl _ _,by simpa using bp⟩ ?_ ?_
 ·rintro i W k hi ⟨aE,av⟩ br;obtain⟨v,aM⟩:∃ v,(a7 x.scope)[i]? =some v:=⟨_,y0 hi⟩;have aj:Ext aS W:=aB.then aE (fun r aN he=>by have he:r=go:=he;omega);have bt:Ext w W:=(au.trans ax).trans aj;have bu:v∈x.scope:=aJ.mem_iff.1 (x5 aM);rw[an,ab];refine⟨fun _=>?_,fun h=>by omega⟩;rw[aZ ac.u U.i (by kernel_rfl) (ay.ls.ext aj) aM];have bw:Ext J W:=(aK.trans ax).trans aj;rw[V b1.p rfl,aa (by kernel_rfl) ((ap.ext bw).cell (o:=0+0) rfl)];refine (y2 (aw.ext bt)).mono ?_;rintro _ bx _ ⟨ak,r,rfl,aN⟩;have aV:=mX bu;have bz:r=((x.scope.idxOf v:Nat):Int):=(aN _ aV).2 fun j ca bA=>by have:=iy I.scope.1 bA aV;omega
  rw[fS rfl ac.u U.i (av.ext ak) (by simp[aC];omega)];refine fT U.i (av.ext ak) (by simp[aC];omega) fun cb bB cc aW=>?_;rw[aI];refine br _ ⟨(aE.trans (ak.O _)).trans bB,?_⟩;have bC:(e5 x.scope (a7 x.scope))[i]? =some r:=by rw[bz];exact yQ aM
  have e:((e5 x.scope (a7 x.scope)).take i++r9 ((a7 x.scope).length-i) 0).set i r=(e5 x.scope (a7 x.scope)).take (i+1)++r9 ((a7 x.scope).length-(i+1)) 0:=by
   have bD:((e5 x.scope (a7 x.scope)).take i).length=i:=by rw[o8,aC];omega
   rw[V8 _ _ (by omega),bD,V2,show (a7 x.scope).length-i=((a7 x.scope).length-(i+1))+1 by omega,List.replicate_succ,List.set_cons_zero,u9,bC,Z0,V7];rfl
  rw[e] at aW;exact aW
 ·rintro W k ⟨aE,av⟩;have aj:Ext aS W:=aB.then aE (fun r aN he=>by have he:r=go:=he;omega);have aX:Ext bk W:=ax.trans aj;rw[an,ab];refine⟨fun h=>by omega,fun _=>?_⟩;rw[V2,List.replicate_zero,V9,l5 (by omega)] at av;have bE:∀ t,cL x.sizes t→cu x.sizes bl t=hX x f.k t:=fun t bF=>by rw[aR.2 t bF];exact be t
  obtain⟨aY,bI⟩:=GH Y aF aR.1 bE;have bK:Good (e5 x.scope (a7 x.scope)) x.sizes.length:=by
   rw[I.sizes,u5];exact qG I.scope.1 aJ
  have bM:=(mW Y aF);refine (Hm (aq.ext aX) Y.k av.ls (by rw[aC];omega) fun _=>?_).mono ?_
  ·rw[aY];exact bM.small
  ·rintro _ bx _ ⟨ak,_,bN⟩;obtain⟨ao,aG,aH,rfl,a1⟩:=bN bK;rw[aD (v:=.pointer (some ⟨ao,0,none⟩)) rfl,aD (v:=.int .i64 0) rfl];rw[aY,bI] at a1;exact⟨(au.trans aX).trans ak,v,gs,ao,aG,aH,rfl,by omega,(ay.ext aj).ext ak,a1⟩
theorem HI {P:X5} {t aa J:r8} {k ab g o cap:Nat} {z:x1} (U:P.underlying t=some (.slice e)) (hi:aJ P e k ab z) (ac:z.cells.size=k) (h1:∀ u∈de z.cells (n*k),u.oneCell'=true)
  (I:ae w g J cs) (ak:o+n*k≤cs.length) (V:∀ w',ad (fun r=>r=g) w w'→ae w' g J (over cs o (de z.cells (n*k)))→K (.tuple #[]) w'):ax P (n0.clear_ #[t] aa #[.slice (some ⟨g,o,none⟩) n cap]) w K:=by
 obtain⟨i,hi,al,rfl,af⟩:=hi;have ag:∀ w,(zeroValue e).run P w= .ok z w:=fun w=>by simp[zeroValue,typeInfo,hi,af]
 have ah:(n0.zeroCells z.cells n).toList=de z.cells (n*k):=by
  unfold n0.zeroCells de;rw[ac]
 have W:=run_storeCells_cells (P:=P) g o (de z.cells (n*k)) 0 w (fun j ai=>by
   rw[mq] at ai;rw[Nat.add_zero,I.cell (y0 (show o+j<cs.length by omega))];rfl) (fun j _=>I.frozen _ _) h1
 simp only[Nat.add_zero] at W;obtain⟨aj,Y⟩:=lj (de z.cells (n*k)) cs o w I;rcases Nat.eq_zero_or_pos n with rfl|am
 ·refine .of (v:=.tuple #[]) (w':=w) (by simp[n0.clear_,run_underlying U]) (cP.refl _) (V w (ad.refl _ _) ?_);rw[Nat.zero_mul,b8 (mq z.cells 0)];exact I
 ·obtain⟨m,rfl⟩:∃ m,n=m+1:=⟨n-1,by omega⟩;refine .of (v:=.tuple #[]) (w':=_) (by simp[n0.clear_,run_underlying U,ag,ah,W]) (Y.dc I) (V _ Y.O aj)
theorem c9 {α:Type} {f:α→List x1} {k:Nat} {g:Nat} {L:List α} (h:a1 f k e w g v L) (I:leadsTo v r):r=g∧ ∃ cs,ae w g e cs:=by
 obtain⟨_,⟨rfl,_⟩|⟨cap,cs,rfl,J,_⟩⟩:=h.1
 ·exact (eC I).elim
 ·obtain⟨a,n,c,h1,O⟩:=I;cases h1;exact⟨O.symm,cs,J⟩
theorem HJ {α:Type} {f:α→List x1} {k:Nat} {g:Nat} {L:List α} (h:a1 f k e w g v L) (I:L≠[]):∃ cs n c,v= .slice (some ⟨g,0,none⟩) n c∧ae w g e cs:=by
 obtain⟨_,⟨rfl,J⟩|⟨cap,cs,rfl,O,_⟩⟩:=h.1
 ·exact absurd (b8 J) I
 ·exact⟨cs,_,_,rfl,O⟩
theorem eh.mk {g:Nat} {L:List cd} (h:a1 dQ 2 cr w g v L) (J:∀ x∈L,(∃ O,am .i64 U w O x.sv x.sc)∧hK x.sc):eh w g v L:=by
 refine⟨h,fun x I=>⟨(J x I).1,fun r V=>?_,(J x I).2⟩⟩;obtain⟨cs,n,c,_,W⟩:=HJ h (fun Y=>by rw[Y] at I;cases I);obtain⟨⟨O,hm⟩,_⟩:=J x I;exact bQ hm W (by decide) V
def Sem (w:x2) (k:Int) (sizes:List Int) (L:List cd):Prop:=∀ x∈L,∃ I J,cB w x.g I J (bd sizes x.sc) k x.cs
theorem ti {g Y:Nat} {aa:x1} {cs:List Int} (h:cB w g Y aa szs k cs) (U:ad S w w') (V:∀ r,S r→ ∃ c,ae w r cr c):cB w' g Y aa szs k cs:=by
 obtain⟨⟨aG,gs,h1,ab,ac⟩,af⟩:=h;refine⟨⟨aG,gs,h1.O U fun J=>?_,a6 ab U fun r W J=>?_,a6 ac U fun r W J=>?_⟩,af⟩
 ·obtain⟨c,I⟩:=V g J;unfold ae at h1 I;rw[h1] at I;have:=(Obj.cells.inj (b9 I)).2.1;exact absurd this (by decide)
 ·obtain⟨c,I⟩:=V r J;exact bQ ab I (by decide) W rfl
 ·obtain⟨c,I⟩:=V r J;exact bQ ac I (by decide) W rfl
theorem Sem.ext {L:List cd} (h:Sem w k sizes L) (I:Ext w w'):Sem w' k sizes L:=fun x J=>by
 obtain⟨O,U,V⟩:=h x J;exact⟨O,U,V.ext I⟩
theorem Sem.row {L M:List cd} {g:Nat} (h:Sem w k sizes L) (I:eh w g v M) (J:ad (fun r=>leadsTo v r) w w'):Sem w' k sizes L:=fun x O=>by
 obtain⟨U,V,W⟩:=h x O;exact⟨U,V,ti W J fun r Y=>by obtain⟨rfl,c,aa⟩:=c9 I.1 Y;exact⟨c,aa⟩⟩
def dn (h:cd):ca:=(h.sc,h.cs)
theorem HK {c:Int}:af x3 r3 [.int .i64 c] w fun v w'=>v= .bool (decide (0<c))∧Ext w w':=by
 refine az func216 ?_;rw[bA];exact⟨rfl,Ext.refl _⟩
theorem HL (h:aB .i64 w sv l):
  af x3 CW [sv,.func (.func r3) #[] #[]] w fun v w'=>v= .bool (l.any fun c=>decide (0<c))∧Ext w w':=by
 refine az func215 ?_;refine af.mono (K:=fun v w'=>Ext w w'∧ ∃ r:Int,v= .int .i64 r∧(0≤r↔ ∃ c∈l,0<c)) ?_ ?_
 ·refine az func261 ?_;rw[aL au.u h];refine bt.range l.length (fun i _ J=>Ext w J∧ ∀ c∈l.take i,¬0<c) h.le ⟨Ext.refl _,fun c I=>by simp at I⟩ ?_ ?_
  ·rintro i _ J k hi ⟨O,V⟩ aa;rw[an,ab];refine⟨fun _=>?_,fun h=>by omega⟩;obtain⟨x,W⟩:∃ x,l[i]? =some x:=⟨_,y0 hi⟩;rw[aZ au.u ak.i (by kernel_rfl) (h.ext O) W];show af x3 r3 [.int .i64 x] J _;refine HK.mono ?_;rintro _ ae _ ⟨rfl,Y⟩;rw[ab];refine⟨fun U=>⟨O.trans Y,i,rfl,⟨fun _=>⟨x,x5 W,U⟩,fun _=>by omega⟩⟩,fun ac=>?_⟩;rw[aI];refine aa _ _ ⟨O.trans Y,fun c I=>?_⟩;rw[u9,W] at I;rcases n9.1 I with I|I
   ·exact V c I
   ·simp at I;subst I;exact ac
  ·rintro _ J k ⟨O,V⟩;rw[o9] at V;rw[an,ab];exact⟨fun h=>by omega,fun _=>⟨O,-1,rfl,⟨fun h=>by omega,fun⟨c,I,U⟩=>absurd U (V c I)⟩⟩⟩
 ·rintro _ J _ ⟨O,r,rfl,ad⟩;rw[cm];refine⟨?_,O⟩;congr 1;rw[V1,decide_eq_true_eq,List.any_eq_true,ad];exact⟨fun⟨c,I,U⟩=>⟨c,I,decide_eq_true U⟩,fun⟨c,I,U⟩=>⟨c,I,of_decide_eq_true U⟩⟩
theorem zc {U W:Nat} {x:cd} {Y:x1} (ab:ho w U x) (ac:cB w x.g W Y szs k x.cs):af x3 nC [h4 x] w fun v w'=>v= .bool (!eO (dn x))∧Ext w w':=by
 obtain⟨⟨ai,hm⟩,_⟩:=ab;refine az func214 ?_;refine bL fun al J aj O I=>?_;have I:ae J al cr [x.sv,.pointer (some ⟨x.g,0,none⟩)]:=by
  obtain⟨_,_,_,e⟩:=bH hm.ls;simp only[h4,dQ,e] at I ⊢;exact I
 rw[V cr.p rfl,aa (by kernel_rfl) (I.cell (o:=0+1) rfl)];refine (kN (ac.ext O)).mono ?_;rintro ak am _ ⟨ad,an,ao,ag⟩;refine (HL ag.ls).mono ?_;rintro _ ap _ ⟨rfl,ah⟩;rw[bc];exact⟨rfl,(O.trans ad).trans ah⟩
theorem HM {g:Nat} {L:List cd} (h:eh w g v L) (aa:Sem w k sizes L):
  af x3 vX [v,.func (.func nC) #[] #[]] w fun r w'=>Ext w w'∧((r= .int .i64 (-1)∧ ∀ x∈L,eO (dn x)=true)∨ ∃ i:Nat,r= .int .i64 (i:Int)∧i<L.length∧(∀ x∈L.take i,eO (dn x)=true)∧ ∀ x,L[i]? =some x→eO (dn x)=false):=by
 refine az func211 ?_;rw[ef fc.u h.1];refine bt.range L.length (fun i _ J=>Ext w J∧ ∀ x∈L.take i,eO (dn x)=true) h.1.le ⟨Ext.refl _,fun c I=>by simp at I⟩ ?_ ?_
 ·rintro i _ J k hi ⟨O,U⟩ ac;rw[an,ab];refine⟨fun _=>?_,fun h=>by omega⟩;obtain⟨x,V⟩:∃ x,L[i]? =some x:=⟨_,y0 hi⟩;rw[qO rfl (h.ext O) V];show af x3 nC [h4 x] J _;obtain⟨ah,ai,ad⟩:=aa x (x5 V);refine (zc ((h.ext O).at V) (ad.ext O)).mono ?_;rintro _ aj _ ⟨rfl,W⟩;rw[br];refine⟨fun ae=>⟨O.trans W,.inr ⟨i,rfl,hi,U,fun y Y=>by rw[V] at Y;cases Y;simpa using ae⟩⟩,fun ag=>?_⟩;rw[aI];refine ac _ _ ⟨O.trans W,fun c I=>?_⟩;rw[u9,V] at I;rcases n9.1 I with I|I
  ·exact U c I
  ·simp at I;subst I;simpa using ag
 ·rintro _ J k ⟨O,U⟩;rw[o9] at U;rw[an,ab];exact⟨fun h=>by omega,fun _=>⟨O,.inl ⟨rfl,U⟩⟩⟩
def e6 (x:cd):Bool:=eO (dn x)
theorem tj {L:List cd} {x:cd} (I:L[j]? =some x):(L.take (j+1)).filter e6=if e6 x=true then (L.take j).filter e6++[x] else (L.take j).filter e6:=by
 rw[u9,I,Z0,List.filter_append];by_cases h:e6 x=true
 ·rw[if_pos h];simp[h]
 ·rw[if_neg h];simp[h]
theorem zd {z:Array x1} (I:0<z.size) (h:∀ u∈z.toList,u.oneCell'=true):∀ u∈de z n,u.oneCell'=true:=fun u hu=>by
 unfold de at hu;rw[Array.toList_map,j5] at hu;obtain⟨i,_,rfl⟩:=hu;have J:i % z.size<z.size:=Nat.mod_lt _ I;rw[getElem!_pos z (i % z.size) J];exact h _ (by simp)
set_option maxHeartbeats 4000000 in
theorem HN {g:Nat} {L:List cd} (h:eh w g v L) (aE:Sem w k sizes L) (bA:L.length≤100000):
  af x3 CX [v,.func (.func nC) #[] #[]] w fun V w'=>ad (fun r=>leadsTo v r) w w'∧eh w' g V (L.filter e6)∧ ∀ r,leadsTo V r→leadsTo v r:=by
 refine az func217 ?_;refine (HM h aE).mono ?_;rintro r J _ ⟨aj,W⟩;rcases W with⟨rfl,au⟩|⟨ak,rfl,aU,au,aV⟩
 ·rw[a8,ab];refine⟨fun _=>⟨aj.O _,?_,fun r W=>W⟩,fun h=>absurd rfl h⟩;rw[List.filter_eq_self.2 (show ∀ x∈L,e6 x=true from au)];exact h.ext aj
 rw[a8,ab];refine⟨fun h=>by omega,fun _=>?_⟩;rw[aI,wrap_i64 (by omega) (by omega)];obtain⟨av,aF⟩:∃ x,L[ak]? =some x:=⟨_,y0 aU⟩;refine⟨fun aw ay Y=>∃ (i j:Nat) (M:List cd),aw= .int .i64 (i:Int)∧ay= .int .i64 (j:Int)∧i<j∧j≤L.length∧M.length=L.length∧M.take i=(L.take j).filter e6∧M.drop j=L.drop j∧(∀ x∈M,x∈L)∧eh Y g v M∧ad (fun r=>leadsTo v r) w Y,
  fun _ ay _=>L.length-(bB ay).toNat,⟨ak,ak+1,L,rfl,by congr 1,by omega,by omega,rfl,?_,rfl,fun x aa=>aa,h.ext aj,aj.O _⟩,?_⟩
 ·have aW:¬e6 av=true:=by rw[show e6 av=false from aV av aF];simp
  rw[tj aF,if_neg aW,List.filter_eq_self.2 (show ∀ x∈L.take ak,e6 x=true from au)]
 rintro _ _ Y ⟨i,j,M,rfl,rfl,bC,bD,aG,ae,aH,aJ,U,am⟩;have aX:Sem Y k sizes L:=aE.row h am;rw[ef fc.u U.1,an,ab];refine⟨fun aA=>?_,fun bE=>?_⟩
 ·have aA:j<L.length:=by omega
  obtain⟨x,aa⟩:∃ x,L[j]? =some x:=⟨_,y0 aA⟩;have ao:M[j]? =some x:=by
   have h1:(M.drop j)[0]? =(L.drop j)[0]?:=by rw[aH]
   rw[List.getElem?_drop,List.getElem?_drop,Nat.add_zero] at h1;rw[h1,aa]
  have aK:M.drop (j+1)=L.drop (j+1):=by
   have h1:(M.drop j).drop 1=(L.drop j).drop 1:=by rw[aH]
   rw[List.drop_drop,List.drop_drop] at h1;exact h1
  refine aM (fun aw ap=>∃ (ah:Nat) (ac:List cd),aw= .int .i64 (ah:Int)∧ah<j+1∧ac.length=L.length∧ac.take ah=(L.take (j+1)).filter e6∧ac.drop (j+1)=L.drop (j+1)∧(∀ x∈ac,x∈L)∧eh ap g v ac∧ad (fun r=>leadsTo v r) w ap) ?_ ?_
  ·rintro _ ap ⟨ah,ac,rfl,h1,aB,aY,aZ,a1,a2,a6⟩;rw[aI,wrap_i64 (by omega) (by omega)];exact⟨⟨ah,j+1,ac,rfl,rfl,h1,aA,aB,aY,aZ,a1,a2,a6⟩,by simp only[bB];omega⟩
  ·intro bF aL;rw[qO rfl U ao];refine bu cr.i fun al ap bG a7 ba=>?_;refine bN (vs:=dQ x) cr.i rfl rfl (U.at ao).one ba fun aN bb bH aO=>?_;have aC:Ext Y aN:=a7.then bb (fun r W he=>by have he:r=al:=he;omega);rw[bw cr.p cr.i rfl aO.range];show af x3 nC [h4 x] aN _;obtain⟨bI,bJ,bd⟩:=aX x (x5 aa);refine (zc ((U.ext aC).at ao) (bd.ext aC)).mono ?_;rintro _ bK _ ⟨rfl,aP⟩;have ai:=aC.trans aP;rw[bc,Bool.not_not,br];refine⟨fun be=>?_,fun bf=>?_⟩
   ·rw[bw cr.p cr.i rfl (aO.ext aP).range];refine HA rfl (U.ext ai) (by omega) ((U.ext ai).at ao) fun bL bg bh=>?_;rw[aI,wrap_i64 (by omega) (by omega)];refine aL _ _ ⟨i+1,M.set i x,rfl,by omega,by simp[aG],?_,?_,fun y ag=>?_,bh,(am.trans (ai.O _)).trans bg⟩
    ·have aD:e6 x=true:=be;rw[tj aa,if_pos aD,u9,W8 (by omega),Z0,List.take_set_of_le (o7 _),ae]
    ·rw[List.drop_set_of_lt (by omega),aK]
    ·rcases X9 ag with ag|rfl
     ·exact aJ y ag
     ·exact x5 aa
   ·have aD:¬e6 x=true:=by rw[show e6 x=false from bf];simp
    exact aL _ _ ⟨i,M,rfl,by omega,aG,by rw[tj aa,if_neg aD,ae],aK,aJ,U.ext ai,am.trans (ai.O _)⟩
 ·have bi:j=L.length:=by omega
  subst bi;rw[o9] at ae;obtain⟨⟨bM,bj⟩,aQ⟩:=U.1;rcases bj with⟨_,bO⟩|⟨cap,cs,bk,bl,bP,bm,bn,bo⟩
  ·omega
  subst bk;have bp:(I x3 (X6 fc (.slice (some ⟨g,0,none⟩) M.length cap) (some (.int .i64 (i:Int))) none none) Y fun bq=>
    ax x3 (n0.clear_ #[fc] DL #[bq]) Y fun u aq=>
    I x3 (X6 fc (.slice (some ⟨g,0,none⟩) M.length cap) none (some (.int .i64 (i:Int))) none) aq fun bt=>
    (fun V w'=>ad (fun r=>leadsTo (.slice (some ⟨g,0,none⟩) M.length cap) r) w w'∧eh w' g V (L.filter e6)∧ ∀ r,leadsTo V r→leadsTo (.slice (some ⟨g,0,none⟩) M.length cap) r) bt aq):=by
   rw[gh (l:=i) (h:=M.length) (m:=cap) fc.u cr.i (lg i _ rfl) hT eM (by omega) (by omega) (o7 _),if_neg (by omega)];simp only[Z2,U4];refine HI (g:=g) (o:=0+i*2) (n:=M.length-i) (k:=2) fc.u cr.i rfl ?_ bl (by omega) fun aq aR bx=>?_
   ·exact zd (by decide) (by decide)
   rw[gh (l:=0) (h:=i) (m:=cap) fc.u cr.i hS (lh i _ rfl) eM (by omega) (by omega) (o7 _),if_neg (by omega)];simp only[Z2,U4,Nat.zero_mul,W6,Nat.sub_zero];have bz:(de (x1.agg #[.slice none 0 0,.pointer none]).cells ((M.length-i)*2)).length=(M.length-i)*2:=mq _ _;have bQ:(M.flatMap dQ).length=M.length*2:=gM aQ;have aS:(L.filter e6).length=i:=by rw[←ae,o8];omega
   have key:(fun V w'=>ad (fun r=>leadsTo (.slice (some ⟨g,0,none⟩) M.length cap) r) w w'∧eh w' g V (L.filter e6)∧ ∀ r,leadsTo V r→leadsTo (.slice (some ⟨g,0,none⟩) M.length cap) r) (.slice (some ⟨g,0,none⟩) (L.filter e6).length cap) aq:=by
    refine⟨am.trans (aR.mono fun r _ he=>⟨_,_,_,rfl,he.symm⟩),⟨⟨⟨gM (k:=2) (fun y _=>rfl),.inr ⟨cap,_,rfl,bx,by omega,bm,by rw[jR,bn],?_⟩⟩,fun y _=>rfl⟩,fun y ag=>?_⟩,fun r W=>?_⟩
    ·rw[aS,←ae,←og i aQ,←bo,List.take_take,kG (by rw[bz];omega),V7,List.take_append_of_le_length (by rw[o8];omega),List.take_take];congr 1;omega
    ·have aT:y∈M:=by rw[←ae] at ag;exact List.mem_of_mem_take ag
     exact (U.2 y aT).O aR fun r W he=>(U.2 y aT).2.1 r W he
    ·obtain⟨a,n,c,h1,aB⟩:=W;cases h1;exact⟨_,_,_,rfl,aB⟩
   rw[aS] at key;exact key
  exact bp
theorem ox {k:o4} {g cap:Nat} {b:Option Addr} (h:am k e w g (.slice b n cap) l) (W:0<l.length):
  b=some ⟨g,0,none⟩∧n=l.length∧ ∃ cs,ae w g e cs∧n≤cap∧cap≤maxLen∧cs.length=cap∧cs.take n=ints k l:=by
 obtain⟨_,⟨_,h1⟩|⟨Y,cs,h1,I,J,O,U,V⟩⟩:=h
 ·omega
 ·cases h1;exact⟨rfl,rfl,cs,I,J,O,by simpa using U,by simpa using V⟩
theorem HO {g cap:Nat} (h:am .i64 U w g (.slice (some ⟨g,0,none⟩) n cap) l) (O:j<l.length):aB .i64 w (.slice (some ⟨g,j,none⟩) (n-j) (cap-j)) (l.drop j):=by
 obtain⟨_,V,cs,I,h1,W,Y,J⟩:=ox h (by omega);have:=Ek (o:=j) (k:=n-j) (c:=cap-j) I (by omega) (by omega) (by omega);refine aB.of (n:=n-j) ?_;have e:(cs.drop j).take (n-j)=ints .i64 (l.drop j):=by
  rw[←List.drop_take,J,ints,ints,List.map_drop]
 rw[e] at this;exact this
set_option maxHeartbeats 1000000 in
theorem HP {g:Nat} (h:am .i64 U w g sv l) (bk:l.length≤1000):
  af x3 Dg [sv] w fun v w'=>ad (fun r=>r=g) w w'∧am .i64 U w' g v (dedup l l.length):=by
 refine az func256 ?_;rw[aL ac.u h.ls];simp only[an,ab];refine⟨fun bl=>⟨ad.refl _ _,?_⟩,fun bm=>?_⟩
 ·rw[qL (o7 _) (fun i hi aB=>by omega),o9];exact h
 obtain⟨n,Y⟩:∃ n,l.length=n:=⟨_,rfl⟩;obtain⟨cap,rfl⟩:∃ cap,sv= .slice (some ⟨g,0,none⟩) n cap:=by
  obtain⟨_,⟨_,h1⟩|⟨aR,cs,h1,_⟩⟩:=id h
  ·omega
  ·exact⟨aR,by rw[h1,Y]⟩
 obtain⟨_,_,_,_,bn,aS,_⟩:=ox h (by omega);refine⟨fun _ t J=>∃ j:Nat,t= .int .i64 (j:Int)∧1≤j∧j≤n∧Ext w J∧ ∀ i,i<j→0<i→l[i]? ≠l[i-1]?,fun _ t _=>n-(bB t).toNat,⟨1,rfl,by omega,by omega,Ext.refl _,fun i h1 aC=>by omega⟩,?_⟩;rintro bo _ J ⟨j,rfl,bp,aD,aa,ak⟩;rw[aL ac.u (h.ls.ext aa)];simp only[an,ab,cj];refine⟨fun aT bq aU _ _=>?_,fun br=>⟨aa.O _,?_⟩⟩
 ·have aT:j<n:=by omega
  have ae:=aa.trans aU;have aE:=h.ls.ext ae;obtain⟨a,al⟩:∃ a,l[j]? =some a:=⟨_,y0 (by omega)⟩;obtain⟨b,ao⟩:∃ b,l[j-1]? =some b:=⟨_,y0 (by omega)⟩;rw[aZ ac.u U.i (by kernel_rfl) aE al];simp only[dd];rw[wrap_i64 (by omega) (by omega),dt (i:=j-1) (by omega) ac.u U.i (by kernel_rfl) aE ao];simp only[a8,ab,aI];refine⟨fun ap=>?_,fun ap=>?_⟩
  ·subst ap;rw[gh ac.u U.i (l:=j) (h:=n) (m:=cap) nH hT eM (by omega) (by omega) (by omega),if_neg (by omega)];have aV:V0 (fun x:Addr=>x.add (j*1)) (some ⟨g,0,none⟩)=some ⟨g,j,none⟩:=by simp[U4]
   rw[aV];have aF:dedup l (j+1)=l.take j:=by rw[tf (by omega) (by rw[al,ao]),qL (by omega) ak]
   refine⟨fun aq t au=>∃ (q I:Nat) (V:List Int),aq= .int .i64 (q:Int)∧t= .int .i64 (I:Int)∧1≤I∧j+I≤n∧ad (fun r=>r=g) w au∧am .i64 U au g (.slice (some ⟨g,0,none⟩) n cap) V∧V.length=n∧
     q=(dedup l (j+I)).length∧V.take q=dedup l (j+I)∧q≤j+I-1∧ ∀ i,j+I-1≤i→V[i]? =l[i]?,fun _ t _=>n-(bB t).toNat,
    ⟨j,1,l,rfl,rfl,by omega,by omega,ae.O _,h.ext ae,Y,by rw[aF,o8];omega,by rw[aF],by omega,fun i _=>rfl⟩,?_⟩
   rintro _ _ au ⟨q,I,V,rfl,rfl,bt,bu,av,aG,aH,aJ,ag,aW,ah⟩;rw[gg ac.u];simp only[an,ab,cj];refine⟨fun aK=>?_,fun aK=>?_⟩
   ·have aK:j+I<n:=by omega
    refine aM (fun aq aw=>∃ (q:Nat) (V:List Int),aq= .int .i64 (q:Int)∧ad (fun r=>r=g) w aw∧am .i64 U aw g (.slice (some ⟨g,0,none⟩) n cap) V∧V.length=n∧
     q=(dedup l (j+(I+1))).length∧V.take q=dedup l (j+(I+1))∧q≤j+(I+1)-1∧ ∀ i,j+(I+1)-1≤i→V[i]? =l[i]?) ?_ ?_
    ·rintro _ aw ⟨q,V,rfl,h1,aC,aX,aY,a1,a2,a6⟩;simp only[aI];rw[wrap_i64 (by omega) (by omega)];exact⟨⟨q,I+1,V,rfl,rfl,by omega,by omega,h1,aC,aX,aY,a1,a2,a6⟩,by simp only[bB];omega⟩
    ·intro bw aN bx ax _ _;have ai:=aG.ext ax;have ay:=HO (j:=j) ai (by omega);obtain⟨y,aj⟩:∃ y,l[j+I]? =some y:=⟨_,y0 (by omega)⟩;obtain⟨z,aA⟩:∃ z,l[j+I-1]? =some z:=⟨_,y0 (by omega)⟩;have aO:(V.drop j)[I]? =some y:=by rw[List.getElem?_drop,ah _ (by omega),aj]
     have a7:(V.drop j)[I-1]? =some z:=by rw[List.getElem?_drop,ah _ (by omega),←aA];congr 1;omega
     rw[aZ ac.u U.i (by kernel_rfl) ay aO];simp only[dd];rw[wrap_i64 (by omega) (by omega),dt (i:=I-1) (by omega) ac.u U.i (by kernel_rfl) ay a7];simp only[bF,ab,aI];refine⟨fun W=>?_,fun W=>?_⟩
     ·rw[aZ ac.u U.i (by kernel_rfl) ay aO,fS rfl ac.u U.i ai (by omega)];refine fT U.i ai (by omega) fun bz ba bA bb=>?_;rw[wrap_i64 (by omega) (by omega)];have aP:dedup l (j+I+1)=dedup l (j+I)++[y]:=tg aj (fun _=>by rw[aj,aA];simpa using W);refine aN _ _ ⟨q+1,_,rfl,(av.trans (ax.O _)).trans ba,bb,by simpa using aH,?_,?_,by omega,fun i hi=>?_⟩
      ·rw[←Nat.add_assoc,aP];simp;omega
      ·rw[←Nat.add_assoc,aP,u9,W8 (by omega),List.take_set_of_le (o7 _),ag];rfl
      ·rw[W3 (by omega)];exact ah i (by omega)
     ·have W:y=z:=Y9.1 W;have aQ:dedup l (j+I+1)=dedup l (j+I):=tf (by omega) (by rw[aj,aA,W]);exact aN _ _ ⟨q,V,rfl,av.trans (ax.O _),ai,aH,by rw[←Nat.add_assoc,aQ];exact aJ,by rw[←Nat.add_assoc,aQ];exact ag,by omega,fun i hi=>ah i (by omega)⟩
   ·have bc:j+I=n:=by omega
    rw[bc] at aJ ag aW;obtain⟨_,_,cs,bd,_,_,bC,be⟩:=ox aG (by omega);simp only[maxLen] at aS;rw[gh ac.u U.i (l:=q) (h:=n) (m:=cap) nH hT eM (by omega) (by omega) (by omega),if_neg (by omega)];have bf:V0 (fun x:Addr=>x.add (q*1)) (some ⟨g,0,none⟩)=some ⟨g,q,none⟩:=by simp[U4]
    rw[bf];refine wQ ac.u U.i rfl rfl bd (by omega) (by omega) fun bD bg bE bh=>?_;rw[gh ac.u U.i (l:=0) (h:=q) (m:=cap) hS nI eM (by omega) (by omega) (by omega),if_neg (by omega)];have bi:V0 (fun x:Addr=>x.add (0*1)) (some ⟨g,0,none⟩)=some ⟨g,0,none⟩:=by simp[U4]
    rw[bi,Y];refine⟨av.trans bg,?_⟩;rw[←ag];refine am.of (n:=q) ⟨by simp;omega,.inr ⟨cap,_,by simp,bh,by omega,by simp only[maxLen];omega,by rw[jR];omega,?_⟩⟩;rw[T1];apply Y8;intro i;by_cases hi:i<q
    ·rw[Z6 hi,li _ _ _ (by simp;omega),if_neg (by omega),ints,x8,Z6 hi];have:(cs.take n)[i]? =(ints .i64 V)[i]?:=by rw[be]
     rw[Z6 (by omega),ints,x8] at this;exact this
    ·rw[Z9 (by simp;omega),Z9 (by simp;omega)]
  ·rw[wrap_i64 (by omega) (by omega)];refine⟨⟨j+1,rfl,by omega,by omega,ae,fun i hi aB=>?_⟩,by simp only[bB];omega⟩;by_cases bj:i=j
   ·subst bj;rw[al,ao];intro he;exact ap (b9 he)
   ·exact ak i (by omega) aB
 ·have aD:j=n:=by omega
  rw[qL (o7 _) (by rw[Y,←aD];exact ak),o9];exact h.ext aa
theorem HQ (ah:n≤1000000):af x3 Dw [.slice none 0 0,.int .i64 (n:Int)] w fun v w'=>Ext w w'∧ ∃ g,w.heap.size≤g∧am .i64 U w' g v []:=by
 refine az func286 ?_;refine c3 (fun J=>w=J) ?_ ?_
 ·rintro _ rfl;refine aM (fun v w'=>Ext w w'∧ ∃ g,w.heap.size≤g∧am .i64 U w' g v []) (fun _ _ h=>h) fun O I=>?_;rw[wP ac.u,gg ac.u];simp only[dd];have V:Y0.wrap (((0:Nat):Int)-((0:Nat):Int))=0:=by decide
  have W:Y0.wrap ((n:Int)-0)=n:=by rw[wrap_i64 (by omega) (by omega)];omega
  rw[V,W];simp only[bA,ab];refine⟨fun h=>?_,fun h=>I _ _ ⟨Ext.refl _,w.heap.size,o7 _,am.nil _ _ _ _⟩⟩;rw[wP ac.u,gh ac.u U.i (l:=0) (h:=0) (m:=0) hS nI eM (by omega) (by omega) (by omega),if_pos rfl];refine Ej (k:=n) (xs:=[]) rfl ac.u U.u U.i rfl ⟨rfl,0,0,none,0,rfl,o7 _,Y7 _,fun h=>absurd h (Nat.lt_irrefl _),fun j v h=>by simp at h⟩ (by omega) (by omega) (by omega) (by omega) fun v g w' ai Y hm=>?_;obtain⟨_,⟨_,aj⟩|⟨cap,cs,rfl,aa,h1,ad,ae,ak⟩⟩:=hm
  ·omega
  rw[gg ac.u,gh ac.u U.i (l:=0) (h:=0) (m:=cap) hS nI eM (by omega) (by omega) (by omega),if_neg (by omega)];have ag:V0 (fun x:Addr=>x.add (0*1)) (some ⟨g,0,none⟩)=some ⟨g,0,none⟩:=by simp[U4]
  rw[ag];refine I _ _ ⟨Y,g,by omega,am.of (n:=0) ⟨by simp,.inr ⟨cap,cs,by simp,aa,by omega,ad,ae,by simp⟩⟩⟩
 ·intro O I;simp only[an,ab];exact⟨fun h=>by omega,fun _=>I _ rfl⟩
set_option maxHeartbeats 1000000 in
theorem HR {b:List Int} (av:aB .i64 w cn a) (aw:aB .i64 w bv b) (aD:a.length≤1000) (aE:b.length≤1000)
  (aF:∀ v w' g,Ext w w'→w.heap.size≤g→am .i64 U w' g v (a++b)→K v w'):
  ax x3 (Z4 cQ 2 #[(0,cn),(1,bv)]) w fun t J=>af x3 Dh [t] J K:=by
 obtain⟨⟨ai,aj,ak,aG⟩,⟨al,ao,ap,aH⟩⟩:(∃ x n c,cn= .slice x n c)∧(∃ x n c,bv= .slice x n c):=by
  obtain⟨_,_,_,x,c,h1,_⟩:=id av;obtain⟨_,_,_,y,d,aJ,_⟩:=id aw;exact⟨⟨x,_,c,h1⟩,⟨y,_,d,aJ⟩⟩
 subst aG;subst aH;refine il cQ.u ac.i (by omega) (cs:=#[.slice ai aj ak,.slice al ao ap]) (by kernel_rfl) fun g J a1 W Y=>?_;have Y:ae J g ac [.slice ai aj ak,.slice al ao ap]:=Y;have key:∀ i:Nat,i<2→ ∃ v l,[x1.slice ai aj ak,.slice al ao ap][i]? =some v∧[a,b][i]? =some l∧aB .i64 w v l∧l.length≤1000:=fun i hi=>by
  match i,hi with
  |0,_=>exact⟨_,_,rfl,rfl,av,aD⟩
  |1,_=>exact⟨_,_,rfl,rfl,aw,aE⟩
 refine az func257 ?_;rw[gg cQ.u];refine bt.range 2 (fun i size ad=>Ext J ad∧ ∃ n:Nat,n≤1000*i∧size= .int .i64 (n:Int)) (by omega) ⟨Ext.refl _,0,by omega,rfl⟩ ?_ ?_
 ·rintro i _ ad aK hi ⟨I,n,aN,rfl⟩ aO;simp only[an,ab];refine⟨fun _=>?_,fun h=>by omega⟩;obtain⟨v,l,aq,ay,au,aP⟩:=key i hi;refine aM (fun v aA=>ad=aA∧v= .int .i64 ((n+l.length:Nat):Int)) ?_ ?_
  ·rintro _ _ ⟨rfl,rfl⟩;simp only[aI];exact aO _ _ ⟨I,_,by omega,rfl⟩
  ·intro a2 aQ;rw[fe (b:=g) (o:=0) cQ.u ac.i hi (fun _=>rfl),aa (by kernel_rfl) ((Y.ext I).cell (o:=0+i*1) (by rw[←aq];congr 1;omega)),aL ac.u (au.ext (W.trans I))];simp only[aI,an,ab];rw[wrap_i64 (by omega) (by omega)];exact⟨fun h=>by omega,fun _=>aQ _ _ ⟨rfl,by congr 1⟩⟩
 ·rintro _ ad aK ⟨I,n,aN,rfl⟩;simp only[an,ab];refine⟨fun h=>by omega,fun _=>?_⟩;refine (HQ (n:=n) (by omega)).mono ?_;rintro v0 aA _ ⟨aC,aR,a6,aS⟩;have a7:=W.size;have a8:=I.size;have ba:=aC.size;have aT:=I.trans aC;rw[gg cQ.u];refine bt.range 2 (fun i v ag=>Ext J ag∧ ∃ V,J.heap.size≤V∧am .i64 U ag V v (([a,b].take i).flatten)∧(([a,b].take i).flatten).length≤1000*i) (by omega) ⟨aT,aR,by omega,aS,by simp⟩ ?_ ?_
  ·rintro i v4 ag aU hi ⟨O,V,aV,ah,bb⟩ aW;simp only[an,ab];refine⟨fun _=>?_,fun h=>by omega⟩;obtain⟨v,l,aq,ay,au,aP⟩:=key i hi;rw[fe (b:=g) (o:=0) cQ.u ac.i hi (fun _=>rfl),aa (by kernel_rfl) ((Y.ext O).cell (o:=0+i*1) (by rw[←aq];congr 1;omega))];refine hb ac.u U.i rfl ah (au.ext (W.trans O)) (by omega) (by omega) fun bc aX bd be aY aZ=>?_;simp only[aI];have bf:=O.size;have e:([a,b].take (i+1)).flatten=([a,b].take i).flatten++l:=by rw[u9,ay];simp
   refine aW _ _ ⟨O.then aZ (by rintro r bg rfl;omega),aX,by omega,by rw[e];exact aY,by rw[e,o5];omega⟩
  ·rintro v4 ag aU ⟨O,V,aV,ah,_⟩;simp only[an,ab];refine⟨fun h=>by omega,fun _=>aF _ _ V (W.trans O) (by omega) ?_⟩;have e:([a,b].take 2).flatten=a++b:=by simp
   rw[e] at ah;exact ah
def mZ (O I U J vars:List Int):Prop:=∀ p∈vars,p∈I→p∈J→gn O (fY I p)=gn U (fY J p)
def cU (I J O U vars:List Int):List Int:=vars.map fun p=>max (gn I (fY J p)) (gn O (fY U p))
theorem ze (I J O U vars:List Int):(cU I J O U vars).length=vars.length:=by simp[cU]
theorem qQ:0≤fY l x↔x∈l:=by
 unfold fY;by_cases h:x∈l
 ·rw[if_pos h];exact⟨fun _=>h,fun _=>by omega⟩
 ·rw[if_neg h];exact⟨fun h=>by omega,fun I=>absurd I h⟩
set_option maxHeartbeats 1000000 in
theorem HS {g bb aQ bc:Nat} {au aR:x1} {W Y vars I O:List Int} {bd:Int} {be bf:List Int} (h1:cB w g bb sv W k be) (aS:cB w aQ bc au Y bd bf) (aa:aB .i64 w aR vars) (bh:aB .i64 w cn I) (av:aB .i64 w bv O) (bi:fF I) (bj:fF O) (bJ:vars.length≤1000):
  af x3 Di [aR,.pointer (some ⟨g,0,none⟩),cn,.pointer (some ⟨aQ,0,none⟩),bv] w fun v w'=>Ext w w'∧
   (¬mZ W I Y O vars→v= .tuple #[.slice none 0 0,.bool false])∧
   (mZ W I Y O vars→ ∃ x al,v= .tuple #[x,.bool true]∧w.heap.size≤al∧am .i64 U w' al x (cU W I Y O vars)):=by
 have sub:∀ {w:x2} {g:Nat} {sv:x1} {k:Int} {aG:x1},ae w g cD [sv,.int .i64 k,aG]→w.rangeAt g (0+0) [sv]:=fun av=>lp av (by
  intro j v aa
  match j,aa with
  |0,aa=>exact aa)
 refine az func258 ?_;rw[aL ac.u aa];refine hU ac.u U.i (by omega) (by omega) fun aj J bK aT bk=>?_;have bl:am .i64 U J aj (.slice (some ⟨aj,0,none⟩) vars.length vars.length) (r9 vars.length 0):=am.of (n:=vars.length) (bG.full bk (by simp) (by simp[maxLen];omega));generalize (x1.slice (some ⟨aj,0,none⟩) vars.length vars.length)=bm at*;rw[aL ac.u (aa.ext aT)];have ax:=ze W I Y O vars;refine jF.range vars.length (fun i _ _ ao=>Ext w ao∧am .i64 U ao aj bm (upto (cU W I Y O vars) 0 i)∧ ∀ (j:Nat) (p:Int),j<i→vars[j]? =some p→p∈I→p∈O→gn W (fY I p)=gn Y (fY O p)) (by omega)
  ⟨aT,by rw[lw,ax];exact bl,fun j p ak=>by omega⟩ ?_ ?_
 ·rintro i _ _ ao bn hi ⟨ad,hm,ay⟩ bo;simp only[an,ab];refine⟨fun _=>?_,fun h=>by omega⟩;obtain⟨p,ag⟩:∃ p,vars[i]? =some p:=⟨_,y0 hi⟩;rw[aZ ac.u U.i (by kernel_rfl) (aa.ext ad) ag];refine (th (bh.ext ad) bi).mono ?_;rintro _ bL _ ⟨rfl,aA⟩;refine (th (av.ext (ad.trans aA)) bj).mono ?_;rintro _ bp _ ⟨rfl,aU⟩;have aV:=(ad.trans aA).trans aU;refine aM (fun v aW=>Ext bp aW∧ ∃ c,v= .bool c∧(c=true↔p∈I∧p∈O∧gn W (fY I p)≠gn Y (fY O p))) ?_ ?_
  ·rintro _ aW ⟨aX,c,rfl,aY⟩;have a1:=aV.trans aX;rw[br];refine⟨fun bq=>⟨a1,fun _=>by first|rfl|trivial,fun ak=>?_⟩,fun bt=>?_⟩
   ·obtain⟨ah,ai,bu⟩:=aY.1 bq;exact absurd (ak p (x5 ag) ah ai) bu
   ·simp only[cj];intro bM a2 _ _;have aC:=a1.trans a2;obtain⟨⟨aG,gs,aD,aE,_⟩,_⟩:=h1.ext aC;obtain⟨⟨bx,bz,aF,aH,_⟩,_⟩:=aS.ext aC;rw[aw,V cD.p rfl,bw (cs:=[sv]) bg.p bg.i rfl (sub aD),aw,V cD.p rfl,bw (cs:=[au]) bg.p bg.i rfl (sub aF)];refine (n7 aE.ls).mono ?_;rintro _ bN _ ⟨rfl,ap⟩;refine⟨.inl ap,?_⟩;refine (n7 (aH.ls.ext ap)).mono ?_;rintro _ bO _ ⟨rfl,a6⟩;have bA:=(aC.trans ap).trans a6;have a7:=hm.ext ((((aA.trans aU).trans aX).trans a2).trans (ap.trans a6));have bP:(upto (cU W I Y O vars) 0 i).length=vars.length:=by rw[lv,ax]
    rw[pU,fS rfl ac.u U.i a7 (by omega)];refine fT U.i a7 (by omega) fun bQ bB _ a8=>?_;simp only[aI];have bC:(cU W I Y O vars)[i]? =some (max (gn W (fY I p)) (gn Y (fY O p))):=by
     unfold cU;rw[x8,ag];rfl
    rw[ly bC] at a8;refine bo _ _ _ ⟨bA.then bB (by rintro r bR rfl;omega),a8,fun j bD ak aJ ah ai=>?_⟩;by_cases bE:j=i
    ·subst bE;rw[ag] at aJ;cases aJ;refine Decidable.byContradiction fun bH=>?_;have:=aY.2 ⟨ah,ai,bH⟩;rw[bt] at this;cases this
    ·exact ay j bD (by omega) aJ ah ai
  ·intro bS aK;simp only[cj,cm,ab];intro bT aq _ _;refine⟨fun aN=>⟨fun aO=>?_,fun aO=>⟨.inl (Ext.refl _),aK _ _ ⟨aq,false,rfl,⟨(fun h=>by cases h),fun h=>absurd (qQ.2 h.2.1) aO⟩⟩⟩⟩,fun aN=>⟨.inl (Ext.refl _),aK _ _ ⟨aq,false,rfl,⟨(fun h=>by cases h),fun h=>absurd (qQ.2 h.1) aN⟩⟩⟩⟩;have ba:=aV.trans aq;obtain⟨⟨aG,gs,aD,aE,_⟩,_⟩:=h1.ext ba;obtain⟨⟨bx,bz,aF,aH,_⟩,_⟩:=aS.ext ba;rw[aw,V cD.p rfl,bw (cs:=[sv]) bg.p bg.i rfl (sub aD),aw,V cD.p rfl,bw (cs:=[au]) bg.p bg.i rfl (sub aF)];refine (n7 aE.ls).mono ?_;rintro _ bU _ ⟨rfl,aP⟩;refine⟨.inl aP,?_⟩;refine (n7 (aH.ls.ext aP)).mono ?_;rintro _ bV _ ⟨rfl,bI⟩;simp only[bF];refine aK _ _ ⟨(aq.trans aP).trans bI,_,rfl,?_⟩;rw[decide_eq_true_iff];exact⟨fun h=>⟨qQ.1 aN,qQ.1 aO,h⟩,fun h=>h.2.2⟩
 ·rintro _ _ ao bn ⟨ad,hm,ay⟩;simp only[an,ab];refine⟨fun h=>by omega,fun _=>?_⟩;have ak:mZ W I Y O vars:=fun p ag ah ai=>by
   obtain⟨i,hi,he⟩:=List.getElem_of_mem ag;exact ay i p hi (by rw[y0 hi,he]) ah ai
  rw[←ax,lx] at hm;exact⟨ad,fun h=>absurd ak h,fun _=>⟨_,aj,rfl,by omega,hm⟩⟩
def tk (I J vars:List Int):Prop:=fF vars∧ ∀ x,x∈vars↔x∈I∨x∈J
def lI (I V J O W U vars:List Int) (k:Int):List Int:=
 (X7 (aE (cU I J O U vars)).toNat).map fun(q:Nat)=>min (cu I V (dP (ct (cU I J O U vars) q) vars J)+cu O W (dP (ct (cU I J O U vars) q) vars U)) k
theorem zf (I V J O W U vars:List Int) (k:Int):(lI I V J O W U vars k).length=(aE (cU I J O U vars)).toNat:=by simp[lI]
theorem zg {s cs:List Int} (I:right k) (h:∀ x∈cs,cA x k):cA (cu s cs t) k:=by
 have J:cA 0 k:=⟨I,Int.le_refl _,by have:=I.1;omega⟩;unfold cu;split
 ·rename_i n _;rw[u4];cases O:cs[n.toNat]? with
  |none=>exact J
  |some x=>exact h x (x5 O)
 ·exact J
def Fits (s l:List Int):Prop:=l.length=s.length∧ov l
def oy (e:Int):x1:=.tuple #[.pointer none,.slice none 0 0,.int .i64 e]
def zh (w:x2) (O aa I U ab J:List Int) (k V:Int) (v:x1) (w':x2):Prop:=
 Ext w w'∧(¬(Fits O I∧Fits U J)→v=oy 1)∧
  (Fits O I∧Fits U J→ ∃ vars,tk I J vars∧(¬mZ O I U J vars→v=oy 1)∧(mZ O I U J vars→(k≠V→v=oy 3)∧
   (k=V→¬bD (cU O I U J vars)→v=oy 1)∧(k=V→bD (cU O I U J vars)→4096<aE (cU O I U J vars)→v=oy 5)∧
   (k=V→bD (cU O I U J vars)→aE (cU O I U J vars)≤4096→ ∃ W ac ad Y,v= .tuple #[.pointer (some ⟨W,0,none⟩),Y,.int .i64 0]∧
    cB w' W ac ad (cU O I U J vars) k (lI O aa I U ab J vars k)∧aB .i64 w' Y vars)))
set_option maxHeartbeats 1000000 in
theorem HT {g b2 aW b3:Nat} {b4:x1} {Y ag I W:List Int} {bm:Int} {an ao:List Int} (h1:cB w g b2 sv Y k an) (aZ:cB w aW b3 b4 ag bm ao) (a1:aB .i64 w cn I) (aH:aB .i64 w bv W)
  (bn:right k) (cW:∀ x∈an,cA x k) (cX:∀ x∈ao,cA x bm):
  af x3 CV [.pointer (some ⟨g,0,none⟩),cn,.pointer (some ⟨aW,0,none⟩),bv] w (zh w Y an I ag ao W k bm):=by
 have cY:=a1.cells;have cZ:=aH.cells;have c0:=h1.2.2.1;have c1:=aZ.2.2.1;have sub:∀ {w:x2} {g:Nat} {sv:x1} {k:Int} {aG:x1},ae w g cD [sv,.int .i64 k,aG]→w.rangeAt g (0+0) [sv]:=fun aH=>lp aH (by
  intro j v bJ
  match j,bJ with
  |0,bJ=>exact bJ)
 refine nE func213 ?_;refine bL fun b5 J eg b6 av=>?_;refine bL fun b7 eh ei bK ax=>?_;refine bL fun b8 ej ek bo ay=>?_;refine bL fun b9 aN em a2 az=>?_;have en:=av.lt;have eo:=ax.lt;have ep:=ay.lt;have er:=az.lt;have es:=b6.size;have et:=bK.size;have eu:=bo.size;have ev:=a2.size;have aO:=((b6.trans bK).trans bo).trans a2;have av:ae aN b5 dM [.pointer (some ⟨g,0,none⟩)]:=((av.ext bK).ext bo).ext a2;have ax:ae aN b7 ac [cn]:=by rw[cY.1] at ax;exact (ax.ext bo).ext a2
 have ay:ae aN b8 dM [.pointer (some ⟨aW,0,none⟩)]:=ay.ext a2;have az:ae aN b9 ac [bv]:=by rw[cZ.1] at az;exact az
 refine aM (fun v ca=>v= .bool false∧aN=ca) ?_ ?_
 rotate_left
 ·intro c2 bp;rw[aa (by kernel_rfl) (av.cell (o:=0) rfl),cI dM.u];simp only[Z1,aP];rw[aa (by kernel_rfl) (ay.cell (o:=0) rfl),cI dM.u];exact bp _ _ ⟨rfl,rfl⟩
 rintro _ _ ⟨rfl,rfl⟩;simp only[aP];refine aM (fun v bM=>Ext aN bM∧ ∃ c,v= .bool c∧(c=true↔¬(Fits Y I∧Fits ag W))) ?_ ?_
 rotate_left
 ·intro c2 bp;rw[aa (by kernel_rfl) (av.cell (o:=0) rfl),aa (by kernel_rfl) (ax.cell (o:=0) rfl)];refine (y5 (h1.ext aO) (a1.ext aO)).mono ?_;rintro _ ca _ ⟨aQ,c,rfl,a7⟩;simp only[bc,br];refine⟨fun bq=>bp _ _ ⟨aQ,true,rfl,fun _ h=>?_,fun _=>rfl⟩,fun cb=>?_⟩
  ·have:=a7.2 h.1;rw[this] at bq;cases bq
  ·have c3:c=true:=by cases c <;> simp_all
   rw[aa (by kernel_rfl) ((ay.ext aQ).cell (o:=0) rfl),aa (by kernel_rfl) ((az.ext aQ).cell (o:=0) rfl)];refine (y5 ((aZ.ext aO).ext aQ) ((aH.ext aO).ext aQ)).mono ?_;rintro _ ew _ ⟨c4,d,rfl,cc⟩;simp only[bc];refine bp _ _ ⟨aQ.trans c4,_,rfl,fun h c5=>?_,fun h=>?_⟩
   ·have:=cc.2 c5.2;rw[this] at h;cases h
   ·cases d with
    |false=>rfl
    |true=>exact absurd ⟨a7.1 c3,cc.1 rfl⟩ h
 rintro _ bM ⟨a8,c,rfl,a7⟩;have bN:=aO.trans a8;rw[br];refine⟨fun bq ey c6 _=>⟨bN.trans c6,fun _=>rfl,fun h=>absurd h (a7.1 bq)⟩,fun cb=>?_⟩;have ba:Fits Y I∧Fits ag W:=Classical.byContradiction fun h=>by
  have:=a7.2 h;rw[cb] at this;cases this
 obtain⟨⟨ez,c7⟩,eA,c8⟩:=id ba;have eB:=c0.1;have eC:=c1.1;rw[aa (by kernel_rfl) ((ax.ext a8).cell (o:=0) rfl),aa (by kernel_rfl) ((az.ext a8).cell (o:=0) rfl)];refine HR (a1.ext bN) (aH.ext bN) (by omega) (by omega) fun eD eE eF cd eH c9=>?_;refine te c9.ls (by rw[o5];omega) fun eI eJ eK m ce eL cg da db=>?_;have dc:=cg.length_eq;rw[o5] at dc;refine (HP db (by omega)).mono ?_;rintro bt ch _ ⟨dd,bO⟩;have eM:=a8.size;have eN:=cd.size;have eO:=ce.size;have ci:Ext bM ch:=(cd.trans ce).then dd (by rintro r aR rfl;omega);obtain⟨de,df⟩:=y4 da (j:=m.length) (o7 _);have eP:=y3 m m.length;have aC:tk I W (dedup m m.length):=⟨de,fun x=>by rw[df,o9,cg.mem_iff,n9]⟩;generalize dedup m m.length=vars at*;refine bu ac.i fun cj eQ eR ck dg=>?_;refine bl ac.i bO.ls.cells.1 bO.ls.cells.2 dg (by simp[x1.cells]) fun cl dh eS bb=>?_;have eU:=ci.size;have eV:=ck.size;have bP:Ext ch cl:=ck.then dh (by rintro r aR rfl;omega);have aS:=(a8.trans ci).trans bP;have bd:=aO.trans aS;have eW:=bb.lt;have cm:=bO.ls.ext bP;have bb:ae cl cj ac [bt]:=bb;rw[aa (by kernel_rfl) (bb.cell (o:=0) rfl),aa (by kernel_rfl) ((av.ext aS).cell (o:=0) rfl),aa (by kernel_rfl) ((ax.ext aS).cell (o:=0) rfl),aa (by kernel_rfl) ((ay.ext aS).cell (o:=0) rfl),aa (by kernel_rfl) ((az.ext aS).cell (o:=0) rfl)];refine (HS (h1.ext bd) (aZ.ext bd) cm (a1.ext bd) (aH.ext bd) c7.up c8.up (by omega)).mono ?_;rintro eX eY _ ⟨be,di,dj⟩;have cp:=bd.trans be;by_cases aT:mZ Y I ag W vars
 rotate_left
 ·rw[di aT,aD (v:=.slice none 0 0) rfl,aD (v:=.bool false) rfl];simp only[bc,X4,bC];intro eZ dk _;exact⟨cp.trans dk,fun h=>absurd ba h,fun _=>⟨vars,aC,fun _=>rfl,fun h=>absurd h aT⟩⟩
 obtain⟨xs,al,rfl,e0,dl⟩:=dj aT;rw[aD (v:=xs) rfl,aD (v:=.bool true) rfl];simp only[bc,Y4,aP];intro aI aU _ _;have bx:=(aS.trans be).trans aU;have aV:=cp.trans aU;have av:=av.ext bx;have ax:=ax.ext bx;have ay:=ay.ext bx;have az:=az.ext bx;have dm:=(bb.ext be).ext aU;obtain⟨⟨aG,gs,cq,e1,_⟩,_⟩:=h1.ext aV;obtain⟨⟨e2,e3,dn,e4,_⟩,_⟩:=aZ.ext aV;rw[aa (by kernel_rfl) (av.cell (o:=0) rfl),aw,V cD.p rfl,aa (by kernel_rfl) (cq.cell (o:=0+1) rfl),aa (by kernel_rfl) (ay.cell (o:=0) rfl),aw,V cD.p rfl,aa (by kernel_rfl) (dn.cell (o:=0+1) rfl)];simp only[bF,ab];refine⟨fun aJ e5 dp _=>⟨aV.trans dp,fun h=>absurd ba h,fun _=>⟨vars,aC,fun h=>absurd aT h,fun _=>⟨fun _=>rfl,fun h=>absurd h aJ,fun h=>absurd h aJ,fun h=>absurd h aJ⟩⟩⟩,fun aJ=>?_⟩;have aJ:k=bm:=Y9.1 aJ;subst aJ;rw[aa (by kernel_rfl) (av.cell (o:=0) rfl),aw,V cD.p rfl,aa (by kernel_rfl) (cq.cell (o:=0+1) rfl)];have dq:=dl.ext aU;refine (pY dq.ls).mono ?_;rintro aA bf _ ⟨cr,dr,ds,_,dt⟩;have e6:=bP.size;have e7:=be.size;have e8:=aU.size;have e9:=cr.size;obtain⟨aX,e,rfl,fa,bz⟩:∃ (aX:Option Addr) (e:Int),aA= .tuple #[.pointer aX,.int .i64 e]∧(e=0→aX≠none)∧((e=1∧¬bD (cU Y I ag W vars))∨(e=5∧bD (cU Y I ag W vars)∧4096<aE (cU Y I ag W vars))∨(e=0∧bD (cU Y I ag W vars)∧aE (cU Y I ag W vars)≤4096∧
   ∃ ai ah aj,aX=some ⟨ai,0,none⟩∧aI.heap.size≤ai∧aI.heap.size≤ah∧(∀ r,leads aj r→aI.heap.size≤r)∧cB bf ai ah aj (cU Y I ag W vars) k (r9 (aE (cU Y I ag W vars)).toNat 0))):=by
  by_cases ap:bD (cU Y I ag W vars)
  ·by_cases aF:aE (cU Y I ag W vars)≤4096
   ·obtain⟨ai,ah,aj,du,dv,dw,dx,dy⟩:=dt ap aF ⟨bn,by omega,by have:=bn.1;omega⟩;exact⟨_,_,du,(fun _ h=>by cases h),.inr (.inr ⟨rfl,ap,aF,ai,ah,aj,rfl,dv,dw,dx,dy⟩)⟩
   ·exact⟨_,_,ds ap (by omega),(fun h=>by omega),.inr (.inl ⟨rfl,ap,by omega⟩)⟩
  ·exact⟨_,_,dr ap,(fun h=>by omega),.inl ⟨rfl,ap⟩⟩
 rw[aD (v:=.pointer aX) rfl,aD (v:=.int .i64 e) rfl];refine bu dM.i fun cw fb fc cz bh=>?_;refine bl dM.i rfl rfl bh (by simp[x1.cells]) fun dz dA fd bh=>?_;have fe:=cz.size;have bQ:Ext bf dz:=cz.then dA (by rintro r aR rfl;omega);have cC:=cr.trans bQ;have dC:=aV.trans cC;have ff:=bh.lt;simp only[bF,ab];refine⟨fun dD fg dE _=>⟨dC.trans dE,fun h=>absurd ba h,fun _=>⟨vars,aC,fun h=>absurd aT h,fun _=>⟨fun h=>absurd rfl h,fun _ ap=>?_,fun _ ap aF=>?_,fun _ ap aF=>?_⟩⟩⟩,fun fh=>?_⟩
 ·rcases bz with⟨rfl,_⟩|⟨_,h,_⟩|⟨_,h,_⟩
  ·rfl
  ·exact absurd h ap
  ·exact absurd h ap
 ·rcases bz with⟨_,h⟩|⟨rfl,_⟩|⟨_,_,h,_⟩
  ·exact absurd ap h
  ·rfl
  ·omega
 ·rcases bz with⟨_,h⟩|⟨_,_,h⟩|⟨h,_⟩
  ·exact absurd ap h
  ·omega
  ·exact absurd h dD
 obtain⟨bA,dF,ai,ah,aj,rfl,fi,fj,fk,bB⟩:bD (cU Y I ag W vars)∧aE (cU Y I ag W vars)≤4096∧
   ∃ ai ah aj,aX=some ⟨ai,0,none⟩∧aI.heap.size≤ai∧aI.heap.size≤ah∧(∀ r,leads aj r→aI.heap.size≤r)∧cB bf ai ah aj (cU Y I ag W vars) k (r9 (aE (cU Y I ag W vars)).toNat 0):=by
  rcases bz with⟨h,_⟩|⟨h,_⟩|⟨_,h⟩
  ·omega
  ·omega
  ·exact h
 obtain rfl:e=0:=by omega
 have dG:(cU Y I ag W vars).length=vars.length:=ze _ _ _ _ _;have fl:=prod_bound bA;obtain⟨N,bE⟩:∃ N:Nat,(aE (cU Y I ag W vars)).toNat=N:=⟨_,rfl⟩;rw[bE] at bB;have fm:0<N:=by omega
 have dH:=bB.ext bQ;obtain⟨⟨bR,cE,cF,cG,dI⟩,⟨cH,cJ,_⟩,_,fo⟩:=id dH;have fp:ai<bf.heap.size:=by obtain⟨⟨_,_,q,_⟩,_⟩:=id bB;exact q.lt
 have fq:ah<bf.heap.size:=by obtain⟨⟨_,_,_,_,q⟩,_⟩:=id bB;exact mY q (by simp;omega)
 rw[aa (by kernel_rfl) (bh.cell (o:=0) rfl),aw,V cD.p rfl,bw (cs:=[aj]) bg.p bg.i rfl (sub cF)];refine sQ.mono ?_;rintro _ bi _ ⟨aK,bG,rfl,fs,cK⟩;have ft:=bQ.size;have fu:=aK.size;let S:Nat→Prop:=fun r=>r=ah;let aY:=lI Y an I ag ao W vars k;have bS:aY.length=N:=by simp only[aY];rw[zf,bE]
 have dJ:=(cm.ext be).ext aU;let dK:x2→Prop:=fun w'=>ae w' b5 dM [.pointer (some ⟨g,0,none⟩)]∧ae w' b7 ac [cn]∧ae w' b8 dM [.pointer (some ⟨aW,0,none⟩)]∧ae w' b9 ac [bv]∧ae w' cj ac [bt]∧aB .i64 w' bt vars∧
  ae w' cw dM [.pointer (some ⟨ai,0,none⟩)]∧ae w' ai cD [aj,.int .i64 k,bR]∧cB w' g b2 sv Y k an∧cB w' aW b3 b4 ag k ao∧aB .i64 w' cn I∧aB .i64 w' bv W∧am .i64 U w' cE aj (cU Y I ag W vars)∧ae w' bG bg [aj]∧bi.heap.size≤w'.heap.size
 have cL:=cC.trans aK;have bj:∀ {a:x2},ad S bi a→dK a:=by
  intro a aq;have aL:Ext aI a:=cL.then aq (fun r aR he=>by have he:r=ah:=he;omega);have bH:=aV.trans aL;exact⟨av.ext aL,ax.ext aL,ay.ext aL,az.ext aL,dm.ext aL,dJ.ext aL,(bh.ext aK).O aq (by show ¬(cw=ah);omega),(cF.ext aK).O aq (by show ¬(ai=ah);exact cH),h1.ext bH,aZ.ext bH,a1.ext bH,aH.ext bH,
   a6 (cG.ext aK) aq (fun r aR he=>cJ ((show r=ah from he)▸aR)),cK.O aq (by show ¬(bG=ah);omega),aq.size⟩
 have cM:=sP (g:=bG) (B0:=bi.heap.size) (sv:=aj) bA;rw[bE] at cM;refine⟨Nat,false,jM,#[.pointer (some ⟨bG,0,none⟩)],0,_,_,_,fun q w'=>ad S bi w'∧am .i64 ak w' ah bR (upto aY 0 q),fun _ _ _=>False,rfl,cM.s,
  ?_,fun _ _ aq h=>⟨h.1.ext aq,h.2.1.ext aq,W7 h.2.2 aq.size⟩,fun _ _ _ aq h=>⟨h.1.trans (aq.O S),h.2.ext aq⟩,fun _ _ _ _ _ h=>h,⟨cK,(cG.ext aK).ls,o7 _⟩,⟨ad.refl _ _,?_⟩,?_,?_,fun _ _ h=>h.elim,fun _ _ _ h=>h.elim⟩
 ·rintro _ _ _ _ ⟨_,_,_,_,rfl,_⟩;rfl
 ·rw[lw,bS];exact dI.ext aK
 ·rintro _ aA q _ fv ⟨_,_,fw⟩ ⟨bT,rfl,fx,fy,dL,fz,cN⟩ ⟨bI,dN⟩;cases dL;let x:=ct (cU Y I ag W vars) (q:Int);have cO:x.length=vars.length:=by simp only[x];rw[hG,dG]
  intro fA dO _ _;intro fB dQ _ _;have bU:=dO.trans dQ;obtain⟨f1,f2,f3,f4,f5,f6,f7,f8,f9,f10,f11,f12,f13,f14,f15⟩:=bj (bI.trans (bU.O S));rw[aa (by kernel_rfl) (f1.cell (o:=0) rfl),aa (by kernel_rfl) (f5.cell (o:=0) rfl),aa (by kernel_rfl) (f2.cell (o:=0) rfl)];refine (y7 (cN.ls.ext bU) f6 f11 aC.1 (fun p aF=>(aC.2 p).2 (.inl aF)) cO (by omega)).mono ?_;rintro fC fD _ ⟨bV,fE,fF,dR⟩;refine⟨.inl bV,?_⟩;refine (sq (f9.ext bV) dR.ls).mono ?_;rintro _ fG _ ⟨rfl,dS⟩;obtain⟨cP,dT⟩:=td Y (dP x vars I) an;have dU:my Y (dP (ct (cU Y I ag W vars) (q:Int)) vars I) an= .tuple #[.int .i64 (cu Y an (dP x vars I)),.int .i64 cP]:=dT;rw[dU,aD (v:=.int .i64 (cu Y an (dP x vars I))) rfl,aD (v:=.int .i64 cP) rfl];intro fH dV _ _;have bW:=((bU.trans bV).trans dS).trans dV;obtain⟨f1,f2,f3,f4,f5,f6,f7,f8,f9,f10,f11,f12,f13,f14,f15⟩:=bj (bI.trans (bW.O S));rw[aa (by kernel_rfl) (f3.cell (o:=0) rfl),aa (by kernel_rfl) (f5.cell (o:=0) rfl),aa (by kernel_rfl) (f4.cell (o:=0) rfl)];refine (y7 (cN.ls.ext bW) f6 f12 aC.1 (fun p aF=>(aC.2 p).2 (.inr aF)) cO (by omega)).mono ?_;rintro fI fJ _ ⟨bX,fK,fL,dW⟩;refine⟨.inl bX,?_⟩;refine (sq (f10.ext bX) dW.ls).mono ?_;rintro _ fM _ ⟨rfl,dX⟩;obtain⟨cQ,dY⟩:=td ag (dP x vars W) ao;have dZ:my ag (dP (ct (cU Y I ag W vars) (q:Int)) vars W) ao= .tuple #[.int .i64 (cu ag ao (dP x vars W)),.int .i64 cQ]:=dY;rw[dZ,aD (v:=.int .i64 (cu ag ao (dP x vars W))) rfl,aD (v:=.int .i64 cQ) rfl];intro fN ea _ _;have bY:=((bW.trans bX).trans dX).trans ea;obtain⟨f1,f2,f3,f4,f5,f6,f7,f8,f9,f10,f11,f12,f13,f14,f15⟩:=bj (bI.trans (bY.O S));rw[aa (by kernel_rfl) (f7.cell (o:=0) rfl),aw,V cD.p rfl,aa (by kernel_rfl) (f8.cell (o:=0+2) rfl),aa (by kernel_rfl) (f7.cell (o:=0) rfl),aw,V cD.p rfl,aa (by kernel_rfl) (f8.cell (o:=0+1) rfl)];refine xL.mono ?_;rintro _ fO _ ⟨rfl,bZ⟩;refine⟨.inl bZ,?_⟩;have eb:n5 (cu Y an (dP x vars I)) (cu ag ao (dP x vars W)) k= .tuple #[.int .i64 (min (cu Y an (dP x vars I)+cu ag ao (dP x vars W)) k),.int .i64 0]:=if_pos ⟨zg bn cW,zg bn cX⟩;rw[eb,aD (v:=.int .i64 (min (cu Y an (dP x vars I)+cu ag ao (dP x vars W)) k)) rfl,aD (v:=.int .i64 0) rfl];have cR:=dN.ext (bY.trans bZ);have fP:(upto aY 0 q).length=N:=by rw[lv,bS]
  rw[fS rfl au.u ak.i cR (by omega)];refine fT ak.i cR (by omega) fun ec ed fQ cS=>?_;have cT:ad S bi ec:=(bI.trans ((bY.trans bZ).O S)).trans (ed.mono fun r _ h=>h);obtain⟨f1,f2,f3,f4,f5,f6,f7,f8,f9,f10,f11,f12,f13,f14,f15⟩:=bj cT;have ee:aY[q]? =some (min (cu Y an (dP x vars I)+cu ag ao (dP x vars W)) k):=by
   simp only[aY,lI];rw[x8,List.getElem?_range (by rw[bE];exact bT)];rfl
  rw[ly ee] at cS;exact⟨⟨f14,f13.ls,f15⟩,⟨cT,cS⟩,fun h=>by cases h⟩
 ·rintro q fR bT ⟨cV,b0⟩;rw[show q=N from bT] at b0;intro fU b1 _ _;obtain⟨f1,f2,f3,f4,f5,f6,f7,f8,f9,f10,f11,f12,f13,f14,f15⟩:=bj (cV.trans (b1.O S));rw[aa (by kernel_rfl) (f7.cell (o:=0) rfl),aa (by kernel_rfl) (f5.cell (o:=0) rfl)];intro fV bk _;rw[←bS,lx] at b0;have ef:=aV.trans cL;refine⟨((ef.then cV (fun r aR he=>by have he:r=ah:=he;omega)).trans b1).trans bk,fun h=>absurd ba h,fun _=>⟨vars,aC,fun h=>absurd aT h,fun _=>⟨fun h=>absurd rfl h,fun _ h=>absurd bA h,fun _ _ h=>by omega,fun _ _ _=>⟨ai,ah,aj,bt,rfl,⟨⟨bR,cE,f8.ext bk,f13.ext bk,(b0.ext b1).ext bk⟩,⟨cH,cJ,dF⟩,bA,zf _ _ _ _ _ _ _ _⟩,f6.ext bk⟩⟩⟩⟩
theorem fF.pair (h:fF l):l.Pairwise (·< ·):=V3.2 fun i j hi I J=>h i j _ _ J (y0 hi) (y0 I)
theorem HU {m:List Int} (I:fF l) (hm:fF m) (h:∀ x,x∈l↔x∈m):l=m:=by
 have J:l.Nodup:=I.pair.imp fun h=>by omega
 have O:m.Nodup:=hm.pair.imp fun h=>by omega
 exact List.Perm.eq_of_pairwise (le:=(·≤ ·)) (fun a b _ _ h1 U=>Int.le_antisymm h1 U) (I.pair.imp fun h=>Int.le_of_lt h) (hm.pair.imp fun h=>Int.le_of_lt h) ((List.perm_ext_iff_of_nodup J O).2 h)
theorem HV {vars:List Int} (h:tk l l vars) (hu:fF l):vars=l:=HU h.1 hu fun x=>by rw[h.2];simp
theorem zi (h:l.Pairwise (·< ·)):fF l:=fun i j x y J O U=>by
 have h1:=x4.1 O;have I:=x4.1 U;have:=V3.1 h i j h1.1 I.1 J;rw[h1.2,I.2] at this;exact this
theorem HW {x:List Int} (hu:l.Nodup) (h:x.length=l.length):dP x l l=x:=by
 refine Y8 fun i=>?_;unfold dP;cases I:l[i]? with
 |none=>rw[x8,I,Z9 (by have:=List.getElem?_eq_none_iff.1 I;omega)];rfl
 |some v=>
  have hi:=(x4.1 I).1;rw[x8,I,Z2,ot hu I,u4,y0 (show i<x.length by omega)];rfl
theorem zj {s:List Int} (hu:fF l) (h:s.length=l.length):cU s l s l l=s:=by
 refine Y8 fun i=>?_;unfold cU;cases I:l[i]? with
 |none=>rw[x8,I,Z9 (by have:=List.getElem?_eq_none_iff.1 I;omega)];rfl
 |some v=>
  have hi:=(x4.1 I).1;rw[x8,I,Z2,y6 hu I,Int.max_self,y0 (show i<s.length by omega)];unfold gn;rw[if_pos (by omega),u4,Z3,y0 (show i<s.length by omega)];rfl
theorem HX {s b:List Int} (hu:l.Pairwise (·< ·)) (h:s.length=l.length) (I:dC s) (J:a.length=(aE s).toNat) (O:b.length=(aE s).toNat):lI s a l s b l l k=dl k a b:=by
 have U:l.Nodup:=hu.imp fun h=>by omega
 unfold lI;rw[zj (zi hu) h,GI I J O];apply List.map_congr_left;intro q _;rw[HW U (by rw[hG,h])]
theorem HY {s b:List Int} (hu:l.Pairwise (·< ·)) (ac:∀ x∈l,0≤x) (h:s.length=l.length) (Y:bD s) (ad:aE s≤4096) (ae:a.length=(aE s).toNat) (af:b.length=(aE s).toNat) (J:zh w s a l s b l k k v w'):
  Ext w w'∧ ∃ I O U V,v= .tuple #[.pointer (some ⟨I,0,none⟩),V,.int .i64 0]∧cB w' I O U s k (dl k a b):=by
 obtain⟨ag,_,J⟩:=J;have W:=zi hu;have aa:Fits s l:=⟨h.symm,Hn W ac⟩;obtain⟨vars,ah,_,ai⟩:=J ⟨aa,aa⟩;have aj:=HV ah W;subst aj;obtain⟨_,_,_,ab⟩:=ai fun p al am an=>rfl;rw[zj W h,HX hu h Y.2 ae af] at ab;obtain⟨I,O,U,V,rfl,ak,_⟩:=ab rfl Y ad;exact⟨ag,I,O,U,V,rfl,ak⟩
theorem HZ {s:List Int} (I:dC s):(bm s).Nodup:=(yV I).imp fun {a b} h he=>by subst he;omega
theorem H0 {s:List Int} {i:Nat} (I:dC s) (hi:(bm s)[i]? =some t) (J:(bm s)[j]? =some t):i=j:=iy (HZ I) hi J
theorem H1 {s:List Int} (I:dC s) (h:cL s t):∃ j:Nat,(bm s)[j]? =some t:=Y2.1 ((yU I).2 h)
theorem zk {P:X5} {t:r8} {cx cy:Bool} {a b:Bool} {K:x1→Prop} (J:P.underlying t=some .bool):I P (av .eql t cx cy (.bool a) (.bool b)) w K=K (.bool (a == b)):=
 sf (fun _=>rfl) rfl fun w' _=>run_equalIn_bool' (P:=P) (w:=w') 9999 t a b J
theorem qR {g:Nat} {d:List (x1×x1)} (h:ae w g e cs) (hm:cC w m d) (I:ad (fun r=>r=m) w w'):ae w' g e cs:=h.O I (fun he=>qH h hm he)
theorem zl {g:Nat} {k:o4} {d:List (x1×x1)} (h:am k e w g v l) (hm:cC w m d) (I:ad (fun r=>r=m) w w'):am k e w' g v l:=a6 h I (fun _ J he=>yX h hm J he)
def qS (cs:List Int) (o:Int):Prop:=o∈cs∧ ∀ d∈cs,cs.count d<cs.count o∨(cs.count d=cs.count o∧o≤d)
theorem H2 {i:Nat} (h:l[i]? =some x) (y:Int):(l.take (i+1)).count y=(l.take i).count y+if y=x then 1 else 0:=by
 rw[u9,h,List.count_append];congr 1;simp only[Z0,List.count_singleton];by_cases I:y=x
 ·subst I;simp
 ·rw[if_neg I,if_neg (by simpa using fun h=>I h.symm)]
def fv (p:Int×Int):x1×x1:=(.int .i64 p.1,.int .i64 p.2)
theorem oz:Keys x3 ak fun v=>∃ n,v= .int .i64 n:=Keys.int ak.u
theorem oA (E:List (Int×Int)):∀ p∈E.map fv,∃ n,p.1= .int .i64 n:=fun p I=>by
 obtain⟨q,_,rfl⟩:=j5.1 I;exact⟨_,rfl⟩
def tl (cs:List Int) (E:List (Int×Int)):Prop:=(∀ x,x∈E.map (·.1)↔x∈cs)∧ ∀ p∈E,p.2=(cs.count p.1:Nat)
theorem zm {cs:List Int} {E:List (Int×Int)} (h:tl cs E) (J:x∈cs):∃ j:Nat,E[j]? =some (x,((cs.count x:Nat):Int)):=by
 obtain⟨p,I,rfl⟩:=j5.1 ((h.1 x).2 J);obtain⟨j,O⟩:=Y2.1 I;exact⟨j,by rw[O,←h.2 p I]⟩
set_option maxHeartbeats 1600000 in
theorem zn {aW:x1} {cs:List Int} (h:aB .i64 w aW cs) (aX:cs≠[]) (bE:cs.length≤1000000):af x3 pO [aW] w fun v w'=>Ext w w'∧ ∃ o,v= .int .i64 o∧qS cs o:=by
 refine az func263 ?_;refine ax.dc (qp fun m J hm aC bf bF=>?_);rw[aL au.u (h.ext aC)];refine bJ.range cs.length (fun i ae=>ad (fun r=>r=m) J ae∧ ∃ E,cC ae m (E.map fv)∧tl (cs.take i) E) (by omega) ⟨ad.refl _ _,[],bf,by simp[tl]⟩ ?_ ?_
 ·rintro i ae bg hi ⟨ai,E,aa,V⟩ aY;obtain⟨x,aE⟩:∃ x,cs[i]? =some x:=⟨_,y0 hi⟩;have aj:Ext w ae:=aC.then ai (fun r ag he=>by have he:r=m:=he;omega);have bh:∀ y,(cs.take i).count y≤1000000:=fun y=>by
   have:=List.count_le_length (a:=y) (l:=cs.take i);rw[o8] at this;omega
  rw[an,ab];refine⟨fun _=>?_,fun h=>by omega⟩;rw[aZ au.u ak.i (by kernel_rfl) (h.ext aj) aE];have av:=H2 aE;have a1:∀ y,y∈cs.take (i+1)↔y∈cs.take i∨y=x:=fun y=>by
   rw[u9,aE];simp
  by_cases al:x∈cs.take i
  ·obtain⟨j,aF⟩:=zm V al;have aw:(E.map fv)[j]? =some (.int .i64 x,.int .i64 (((cs.take i).count x:Nat):Int)):=by rw[x8,aF];rfl
   rw[n8 jO.u oz aa (oA E) ⟨_,rfl⟩ aw];simp only[Bool.false_eq_true,if_false];have:=bh x;rw[aI,wrap_i64 (by omega) (by omega)];refine ax.dc (oa jO.u oz aa (oA E) ⟨_,rfl⟩ (fun am v0 aG aH ao aJ bi=>?_) (fun aG ay=>absurd rfl (ay _ (x5 aw))));have bj:am=j:=aa.uniq aH aw rfl;subst bj;rw[aI];have aK:(E.map fv).set am (.int .i64 x,.int .i64 ((((cs.take i).count x:Nat):Int)+1))=(E.set am (x,(((cs.take i).count x:Nat):Int)+1)).map fv:=by rw[U3];rfl
   rw[aK] at ao;have bk:=(x4.1 aF).1;refine aY _ ⟨ai.trans aJ,_,ao,fun y=>?_,fun p O=>?_⟩
   ·rw[U3,mH (by rw[x8,aF];rfl),V.1,a1];exact⟨.inl,fun h=>h.elim id (fun h=>h▸al)⟩
   ·obtain⟨q,W⟩:=Y2.1 O;by_cases aN:am=q
    ·subst aN;rw[W8 bk] at W;cases W;show _=(((cs.take (i+1)).count x:Nat):Int);rw[av,if_pos rfl];omega
    ·rw[W3 aN] at W;have aO:p.1≠x:=fun he=>aN (aa.uniq aw (show (E.map fv)[q]? =some (fv p) by rw[x8,W];rfl) (by rw[fv,he]));rw[V.2 p (x5 W),av,if_neg aO,Nat.add_zero]
  ·have ay:∀ p∈E.map fv,p.1≠W5 .i64 x:=fun p O he=>by
    obtain⟨q,W,rfl⟩:=j5.1 O;have:q.1=x:=by simpa[fv] using he
    exact al ((V.1 x).1 (j5.2 ⟨q,W,this⟩))
   rw[qq jO.u oz ⟨_,_,U.i⟩ aa (oA E) ⟨_,rfl⟩ ay];simp only[Bool.false_eq_true,if_false];rw[aI,wrap_i64 (by omega) (by omega)];refine ax.dc (oa jO.u oz aa (oA E) ⟨_,rfl⟩ (fun am v0 aG aH=>absurd rfl (ay _ (x5 aH))) (fun aG _ ao aJ bi=>?_));rw[aI];have aK:E.map fv++[(W5 .i64 x,W5 .i64 (0+1))]=(E++[(x,1)]).map fv:=by rw[b6];rfl
   rw[aK] at ao;have bl:(cs.take i).count x=0:=List.count_eq_zero.2 al;refine aY _ ⟨ai.trans aJ,_,ao,fun y=>?_,fun p O=>?_⟩
   ·rw[b6,n9,V.1,a1];simp
   ·rcases n9.1 O with O|O
    ·have aO:p.1≠x:=fun he=>al ((V.1 x).1 (j5.2 ⟨p,O,he⟩));rw[V.2 p O,av,if_neg aO,Nat.add_zero]
    ·rw[j0.1 O];show (1:Int)=(((cs.take (i+1)).count x:Nat):Int);rw[av,if_pos rfl,bl];rfl
 rintro ae bg ⟨ai,E,aa,V⟩;rw[o9] at V;have aj:Ext w ae:=aC.then ai (fun r ag he=>by have he:r=m:=he;omega);rw[an,ab];refine⟨fun h=>by omega,fun _=>?_⟩;refine (Fi (h.ext aj) aX).mono ?_;rintro _ bm bG ⟨rfl,aQ⟩;have bH:=aj.size;have bI:=aQ.size;refine ax.dc (xN jO.u (aa.ext aQ) fun ap bK bL bn bM bo bN=>?_);refine⟨fun er ah=>∃ b ac Y left a2,er= .int .i64 b∧b∈cs∧Ext bm ah∧fW ah ap m (E.map fv) left a2∧left=Y.map fv∧(ac++Y).Perm E∧ ∀ p∈ac,cs.count p.1<cs.count b∨(cs.count p.1=cs.count b∧b≤p.1),fun _ ah=>mR ah ap,
  ⟨sD cs,[],E,E.map fv,none,rfl,(EU aX).1,bn,bo,rfl,List.Perm.refl _,fun p O=>by cases O⟩,?_⟩
 rintro _ ah ⟨b,ac,Y,left,a2,rfl,aR,aS,a6,rfl,aA,aT⟩;refine xP a6 (fun _=>by show w.heap.size≤ap;omega) (fun bp=>?_) (fun j p aU O a7 bO aq=>?_)
 ·rw[aD (v:=.bool false) rfl,aP];have:Y=[]:=List.map_eq_nil_iff.1 bp;subst this;rw[V9] at aA;refine⟨(aj.trans aQ).trans aS,b,rfl,aR,fun d bq=>?_⟩;obtain⟨q,W,rfl⟩:=j5.1 ((V.1 d).2 bq);exact aT q (aA.mem_iff.2 W)
 ·rw[aD (v:=.bool true) rfl,bC];refine xQ aq ?_;obtain⟨q,W,rfl⟩:∃ q,Y[j]? =some q∧fv q=p:=by
   rw[x8] at O;exact Y1.1 O
  have ba:q∈E:=aA.mem_iff.1 (n9.2 (.inr (x5 W)));have bP:=V.2 q ba;have bt:q.1∈cs:=(V.1 q.1).1 (j5.2 ⟨q,ba,rfl⟩);obtain⟨bu,bw⟩:=zm V aR;have bx:(E.map fv)[bu]? =some (.int .i64 b,.int .i64 ((cs.count b:Nat):Int)):=by rw[x8,bw];rfl
  rw[aD (v:=.int .i64 q.1) rfl,aD (v:=.int .i64 q.2) rfl];have bb:(ac++[q]++Y.eraseIdx j).Perm E:=by
   refine List.Perm.trans ?_ aA;rw[V7];exact List.Perm.append_left ac (sV W)
  have bc:mR aU ap<mR ah ap:=by
   rw[qv aq,qv a6];have:=ya (x4.1 O).1;omega
  refine aM (fun v bz=>aU=bz∧ ∃ r:Bool,v= .bool r∧(r=true↔(cs.count b<cs.count q.1∨(cs.count q.1=cs.count b∧q.1<b)))) ?_ ?_
  ·rintro _ _ ⟨rfl,r,rfl,ag⟩;rw[br];refine⟨fun bB=>?_,fun bd=>?_⟩
   ·have ag:=ag.1 bB;refine⟨⟨q.1,ac++[q],Y.eraseIdx j,_,_,rfl,bt,aS.trans a7,aq,(kO fv Y j),bb,fun p O=>?_⟩,bc⟩;rcases n9.1 O with O|O
    ·have:=aT p O;omega
    ·rw[j0.1 O];exact .inr ⟨rfl,Int.le_refl _⟩
   ·have ag:¬(cs.count b<cs.count q.1∨(cs.count q.1=cs.count b∧q.1<b)):=fun h=>by rw[ag.2 h] at bd;cases bd
    refine⟨⟨b,ac++[q],Y.eraseIdx j,_,_,rfl,aR,aS.trans a7,aq,(kO fv Y j),bb,fun p O=>?_⟩,bc⟩;rcases n9.1 O with O|O
    ·exact aT p O
    ·rw[j0.1 O];omega
  ·intro bQ aV;have be:∀ K:x1→Prop,I x3 (Instr.lookup jO (.map (some m)) (.int .i64 b) false) aU K=K (.int .i64 ((cs.count b:Nat):Int)):=fun K=>by
    rw[n8 jO.u oz aq.map (oA E) ⟨_,rfl⟩ bx];simp
   rw[be,bA,ab];refine⟨fun h1=>aV _ _ ⟨rfl,true,rfl,⟨fun _=>.inl (by omega),fun _=>rfl⟩⟩,fun h1=>?_⟩;rw[be,a8,ab];refine⟨fun bD=>?_,fun bD=>aV _ _ ⟨rfl,false,rfl,⟨fun h=>(by cases h),fun h=>by omega⟩⟩⟩;rw[an];refine aV _ _ ⟨rfl,_,rfl,?_⟩;rw[decide_eq_true_eq];omega
theorem H3 {g:Nat} {k:o4} {O:r8} (h:am k e w g v l) (U:ae w J O cs) (W:e≠O) (V:leads v r):r≠J:=by
 obtain⟨rfl,_⟩:=bn h V;obtain⟨_,⟨rfl,_⟩|⟨_,_,_,I,_⟩⟩:=h
 ·obtain⟨a,n,c,h,_⟩:=V;cases h
 ·rintro rfl;unfold ae at U I;rw[U] at I;injection I with h1;injection h1 with aa Y;exact W Y.symm
def H4 (w:x2) (szs:List Int) (k:Int) (cs:List Int) (v:x1) (w':x2):Prop:=Ext w w'∧ ∃ g m o D,v= .pointer (some ⟨g,0,none⟩)∧dO w' g m szs k o D∧D.length≤(aE szs).toNat∧gP szs (gL D o) cs∧qS cs o
set_option maxHeartbeats 4000000 in
theorem H5 {g b9:Nat} {cs:List Int} (h:cB w g b9 sv szs k cs) (bf:∀ c∈cs,cA c k):af x3 C0 [.pointer (some ⟨g,0,none⟩)] w (H4 w szs k cs):=by
 obtain⟨⟨aG,gs,bF,hm,cS⟩,⟨_,_,bG⟩,aj,aX⟩:=id h;have cT:=prod_bound aj;have cU:=aj.1;have bH:cs≠[]:=fun he=>by rw[he] at aX;simp at aX;omega
 refine nE func221 ?_;rw[cI dM.u];simp only[Z1,aP];refine (kN h).mono ?_;rintro av ao _ ⟨aF,cV,cW,bg⟩;refine bu au.i fun aO cX cY bI bJ=>?_;have cZ:=bJ.lt;refine bl au.i bg.ls.cells.1 bg.ls.cells.2 bJ (by simp[x1.cells]) fun aY ca c0 a1=>?_;have a1:ae aY aO au [av]:=a1;have c1:=aF.size;have c2:=bI.size;have bK:Ext ao aY:=bI.then ca (fun r aw he=>by have he:r=aO:=he;omega);have bL:=bg.ext bK;have aQ:=aF.trans bK;refine aM (fun u a2=>∃ U ag m o ay az,u= .pointer (some ⟨U,0,none⟩)∧Ext aY a2∧ae a2 U dU [.pointer (some ⟨ag,0,none⟩)]∧aY.heap.size≤m∧eR a2 ag m ay az szs k o []∧qS cs o) ?_ ?_
 ·rintro _ a2 ⟨U,ag,m,o,ay,az,rfl,aR,V,c3,al,an⟩;have cb:=h.ext (aQ.trans aR);have cc:=a1.ext aR;have cd:=bL.ext aR;refine (lC cb).mono ?_;rintro _ c4 _ ⟨rfl,ce⟩;refine sQ.mono ?_;rintro _ bh _ ⟨cg,bM,rfl,c5,bN⟩;have aH:=ce.trans cg;have bO:=al.ext aH;have ch:=cc.ext aH;have bP:=V.ext aH;have ci:=cd.ext aH;have bQ:=hm.ext ((aQ.trans aR).trans aH);have aI:=bO.2.2.1;have cj:=(aQ.trans aR).trans aH;have c6:=aQ.size;have ck:=sP (g:=bM) (B0:=bh.heap.size) (sv:=sv) aj;refine⟨Nat,false,jM,#[.pointer (some ⟨bM,0,none⟩)],_,_,_,_,fun i w'=>ad (fun r=>r=m) bh w'∧ ∃ D,D.length≤i∧eR w' ag m ay az szs k o D∧ ∀ (j:Nat) t,(bm szs)[j]? =some t→gL D o t=if j<i then cu szs cs t else o,fun _ _ _=>False,rfl,ck.s,
   ?_,fun _ _ aJ h=>⟨h.1.ext aJ,h.2.1.ext aJ,W7 h.2.2 aJ.size⟩,fun _ _ _ aJ ⟨h1,D,cl,cm,bG⟩=>⟨h1.trans (aJ.O _),D,cl,cm.ext aJ,bG⟩,fun _ _ _ _ _ h=>h,⟨bN,bQ.ls,o7 _⟩,⟨ad.refl _ _,[],o7 _,bO,fun j t _=>by rw[if_neg (by omega)];rfl⟩,?_,?_,fun _ _ h=>h.elim,fun _ _ _ h=>h.elim⟩
  ·rintro _ _ _ _ ⟨_,_,_,_,rfl,_⟩;rfl
  ·rintro _ aA i _ cn ⟨c7,c8,cp⟩ ⟨hi,rfl,c9,da,cq,db,ah⟩ ⟨a6,D,bR,bi,bj⟩;cases cq;have bk:(bm szs)[i]? =some (ct szs (i:Int)):=nZ aj.2 (by omega);have cr:cL szs (ct szs (i:Int)):=sE aj.2 hi;generalize ct szs (i:Int)=t at*;have bS:=GP aj.2 aX bk;intro cw a7 _ _;intro cz cC _ _;have a8:=a7.trans cC;have ba:ad (fun r=>r=m) bh cz:=a6.trans (a8.O _);rw[aa (by kernel_rfl) ((qR bP aI ba).cell (o:=0) rfl),aa (by kernel_rfl) ((qR ch aI ba).cell (o:=0) rfl),aZ au.u ak.i (by kernel_rfl) (zl ci aI ba).ls bS];have bn:=bi.ext a8;refine (x9 bn.is (ah.ext a8).ls (c:=cu szs cs t)).mono ?_;rintro _ dc _ ⟨_,cD⟩;obtain⟨rfl,bo,cE,bT,bU⟩:=cD ⟨cr,bf _ (x5 bS)⟩;have bp:=ba.trans bo;have dd:=bT.2;refine⟨⟨qR bN aI bp,(zl bQ aI bp).ls,W7 cp (W7 a8.size bo.size)⟩,⟨bp,cE,by omega,bn.put bo bU,fun j s aC=>?_⟩,fun h=>by cases h⟩;rw[bT.cost bn.is.nodup bU.nodup];by_cases bV:j=i
   ·subst bV;rw[bk] at aC;cases aC;rw[if_pos rfl,if_pos (by omega)]
   ·rw[if_neg (fun(he:s=t)=>bV (H0 aj.2 (by rw[←he];exact aC) bk)),bj j s aC];by_cases h1:j<i
    ·rw[if_pos h1,if_pos (by omega)]
    ·rw[if_neg h1,if_neg (by omega)]
  ·rintro i cn rfl ⟨a6,D,bR,bi,bj⟩;rw[aa (by kernel_rfl) ((qR bP aI a6).cell (o:=0) rfl)];intro cw a7 _;refine⟨(cj.then a6 (fun r aw he=>by have he:r=m:=he;omega)).trans a7,ag,m,o,D,rfl,bi.is.ext a7,bR,⟨aX,fun t cF=>?_⟩,an⟩;obtain⟨j,aC⟩:=H1 aj.2 cF;have:=(x4.1 aC).1;rw[hV aj.2] at this;rw[bj j t aC,if_pos this]
 intro bc bW;intro ai aS _ _;have bq:=aQ.trans aS;have bX:=aS;have bd:=h.ext bq;have bY:=bL.ext aS;have de:=aS.size;rw[aa (by kernel_rfl) ((a1.ext aS).cell (o:=0) rfl)];have bZ:∀ {U:Nat} {w':x2} {aA:x1} {o:Int},Ext ai w'→ai.heap.size≤U→(∃ W,ae w' U dU [W])→aB .i64 w' aA szs→qS cs o→
   af x3 mj [aA,.int .i64 k,.int .i64 o] w' fun am ab=>I x3 (j6 am 0) ab fun aE=>I x3 (j6 am 1) ab fun _=>ax x3 (o3 dU (.pointer (some ⟨U,0,none⟩)) aE) ab fun(_:Unit) ap=>bc (.pointer (some ⟨U,0,none⟩)) ap:=by
  rintro U w' aA o ac Y ⟨W,V⟩ ah an;refine (xV ah).mono ?_;rintro _ ab _ ⟨br,_,_,bt⟩;obtain⟨ag,m,rfl,cG,cH,al⟩:=bt aj (bf _ an.1);obtain⟨ay,az,al⟩:=al.at;rw[aD (v:=.pointer (some ⟨ag,0,none⟩)) rfl,aD (v:=.int .i64 0) rfl];have cJ:=V.lt;have s':=ac.size;refine bl dU.i rfl rfl (V.ext br) (by simp) fun ap b0 df cK=>?_;refine bW _ _ ⟨U,ag,m,o,ay,az,rfl,((bX.trans ac).trans br).then b0 (fun r aw he=>by have he:r=U:=he;omega),cK,by omega,al.O b0 (fun he=>by have he:ag=U:=he;omega) (fun he=>by have he:m=U:=he;omega) (fun r aw he=>?_),an⟩;exact H3 al.2.1 (V.ext br) (by decide) aw he
 have b1:∀ {U:Nat} {w':x2} {aA:x1},Ext ai w'→ai.heap.size≤U→(∃ W,ae w' U dU [W])→aB .i64 w' aA szs→
   af x3 pO [av] w' fun aT ao=>af x3 mj [aA,.int .i64 k,aT] ao fun am ab=>I x3 (j6 am 0) ab fun aE=>I x3 (j6 am 1) ab fun _=>ax x3 (o3 dU (.pointer (some ⟨U,0,none⟩)) aE) ab fun(_:Unit) ap=>bc (.pointer (some ⟨U,0,none⟩)) ap:=by
  rintro U w' aA ac Y ⟨W,V⟩ ah;refine (zn (bY.ext ac).ls bH (by omega)).mono ?_;rintro _ ao _ ⟨aF,o,rfl,an⟩;exact bZ (ac.trans aF) Y ⟨W,V.ext aF⟩ (ah.ext aF) an
 have b2:∀ {U:Nat} {w':x2} {aA:x1},Ext ai w'→ai.heap.size≤U→(∃ W,ae w' U dU [W])→aB .i64 w' aA szs→
   af x3 rZ [.pointer (some ⟨g,0,none⟩)] w' fun bw J=>(Ext ai J∨bb x3 (x6 au (.pointer (some ⟨aO,0,none⟩))) av J∧True)∧
    af x3 pO [av] J fun aT ao=>af x3 mj [aA,bw,aT] ao fun am ab=>I x3 (j6 am 0) ab fun aE=>I x3 (j6 am 1) ab fun _=>ax x3 (o3 dU (.pointer (some ⟨U,0,none⟩)) aE) ab fun(_:Unit) ap=>bc (.pointer (some ⟨U,0,none⟩)) ap:=by
  rintro U w' aA ac Y ⟨W,V⟩ ah;refine (sN (bd.ext ac)).mono ?_;rintro _ J _ ⟨rfl,aq⟩;exact⟨.inl (ac.trans aq),b1 (ac.trans aq) Y ⟨W,V.ext aq⟩ (ah.ext aq)⟩
 have b3:szs.length≤1000:=by omega
 have b4:∀ {U:Nat} {w':x2},Ext ai w'→ai.heap.size≤U→(∃ W,ae w' U dU [W])→
   af x3 vO [.agg #[sv]] w' fun cM w0=>(Ext ai w0∨bb x3 (x6 au (.pointer (some ⟨aO,0,none⟩))) av w0∧True)∧
    af x3 rZ [.pointer (some ⟨g,0,none⟩)] w0 fun bw J=>(Ext ai J∨bb x3 (x6 au (.pointer (some ⟨aO,0,none⟩))) av J∧True)∧
    af x3 pO [av] J fun aT ao=>af x3 mj [cM,bw,aT] ao fun am ab=>I x3 (j6 am 0) ab fun aE=>I x3 (j6 am 1) ab fun _=>ax x3 (o3 dU (.pointer (some ⟨U,0,none⟩)) aE) ab fun(_:Unit) ap=>bc (.pointer (some ⟨U,0,none⟩)) ap:=by
  rintro U w' ac Y ⟨W,V⟩;refine (sO (hm.ext (bq.trans ac)).ls b3).mono ?_;rintro aA J _ ⟨aq,_,_,ah⟩;exact⟨.inl (ac.trans aq),b2 (ac.trans aq) Y ⟨W,V.ext aq⟩ ah.ls⟩
 have aU:∀ {w':x2} {R:x1→x2→Prop},Ext ai w'→(∀ U aV,ai.heap.size≤U→Ext w' aV→(∃ W,ae aV U dU [W])→R (.pointer (some ⟨U,0,none⟩)) aV)→ax x3 (T7 dU true (.tuple #[])) w' R:=fun {w'} {R} ac cN=>by
  have:=ac.size;exact bu dU.i fun U aV Y cO bF=>cN U aV (by omega) cO ⟨_,bF⟩
 refine⟨?_,aU (Ext.refl _) fun U dg Y be V=>⟨.inl be,?_⟩⟩
 rotate_left
 ·refine (lC (bd.ext be)).mono ?_;rintro _ dh _ ⟨rfl,bx⟩;obtain⟨W,V⟩:=V;exact⟨.inl (be.trans bx),b4 (be.trans bx) Y ⟨W,V.ext bx⟩⟩
 refine (lC bd).mono ?_;rintro _ di _ ⟨rfl,aK⟩;refine⟨.inl aK,?_,aU aK fun U dj Y b5 V=>⟨.inl (aK.trans b5),b4 (aK.trans b5) Y V⟩⟩;refine (sO (hm.ext (bq.trans aK)).ls b3).mono ?_;rintro aA dk _ ⟨cP,_,_,ah⟩;have aL:=aK.trans cP;refine⟨.inl aL,?_,aU aL fun U dl Y bz V=>⟨.inl (aL.trans bz),b2 (aL.trans bz) Y V (ah.ext bz).ls⟩⟩;refine (sN (bd.ext aL)).mono ?_;rintro _ dm _ ⟨rfl,bA⟩;have aN:=aL.trans bA;refine⟨.inl aN,?_,aU aN fun U dn Y bB V=>⟨.inl (aN.trans bB),b1 (aN.trans bB) Y V ((ah.ext bA).ext bB).ls⟩⟩;refine (zn (bY.ext aN).ls bH (by omega)).mono ?_;rintro _ dp _ ⟨b6,o,rfl,an⟩;have aW:=aN.trans b6;have b7:=(ah.ext bA).ext b6;refine⟨?_,aU aW fun U dq Y bC V=>⟨.inl (aW.trans bC),bZ (aW.trans bC) Y V (b7.ext bC).ls an⟩⟩;refine (xV b7.ls).mono ?_;rintro _ dr _ ⟨cQ,_,_,bt⟩;obtain⟨ag,m,rfl,cG,cH,al⟩:=bt aj (bf _ an.1);obtain⟨ay,az,al⟩:=al.at;rw[aD (v:=.pointer (some ⟨ag,0,none⟩)) rfl,aD (v:=.int .i64 0) rfl];have bD:=aW.trans cQ;refine bu dU.i fun U ds Y bE V=>?_;refine⟨.inl (bD.trans bE),?_⟩;have cJ:=V.lt;obtain⟨dt,du,t3⟩:=al.n4;have dv:=aW.size;have dw:=bD.size;refine bl dU.i rfl rfl V (by simp[x1.cells]) fun dx b8 dy cR=>?_;exact bW _ _ ⟨U,ag,m,o,ay,az,rfl,((bX.trans bD).trans bE).then b8 (fun r aw he=>by have he:r=U:=he;omega),cR,by omega,(al.ext bE).O b8 (fun he=>by have he:ag=U:=he;omega) (fun he=>by have he:m=U:=he;omega) (fun r aw he=>by have he:r=U:=he;have:=t3 r aw;omega),an⟩
theorem zo {acc:List ca} {g:ca} (h:∀ x∈acc,x.1≠g.1):gJ k acc g=acc++[g]:=by
 unfold gJ;rw[if_neg];intro hm;obtain⟨x,I,he⟩:=j5.1 hm;exact h x I he
theorem H6 {acc:List ca} {g h:ca} {i:Nat} (J:hn acc) (hi:acc[i]? =some h) (he:h.1=g.1):gJ k acc g=acc.set i (h.1,dl k h.2 g.2):=by
 have O:=(x4.1 hi).1;unfold gJ;rw[if_pos (j5.2 ⟨h,x5 hi,he⟩)];refine Y8 fun j=>?_;rw[x8,Y5];by_cases I:i=j
 ·subst I;rw[hi,Z2,if_pos he,if_pos rfl,if_pos O]
 ·rw[if_neg I];cases U:acc[j]? with
  |none=>rfl
  |some y=>
   have:y.1≠g.1:=fun V=>I (by
    have h1:(acc.map (·.1))[i]? =some g.1:=by rw[x8,hi,Z2,he]
    have W:(acc.map (·.1))[j]? =some g.1:=by rw[x8,U,Z2,V]
    exact iy J h1 W)
   rw[Z2,if_neg this]
theorem H7 {α β:Type} {f:β→α→β} {b:β} {l:List α} {i:Nat} {x:α} (h:l[i]? =some x):(l.take (i+1)).foldl f b=f ((l.take i).foldl f b) x:=by
 rw[u9,h,Z0,List.foldl_append];rfl
def kQ (w:x2) (k:Int) (sizes:List Int) (x:cd):Prop:=(∃ I,am .i64 U w I x.sv x.sc)∧ ∃ m o D,dO w x.g m (bd sizes x.sc) k o D∧D.length≤4096∧gP (bd sizes x.sc) (gL D o) x.cs
theorem kQ.ext {x:cd} (h:kQ w k sizes x) (I:Ext w w'):kQ w' k sizes x:=by
 obtain⟨⟨J,h1⟩,m,o,D,O,U⟩:=h;exact⟨⟨J,h1.ext I⟩,m,o,D,O.ext I,U⟩
theorem kQ.O {x:cd} (h:kQ w k sizes x) (aa:ad S w w') (W:∀ r,S r→ ∃ e c,ae w r e c∧e≠eL∧e≠U):kQ w' k sizes x:=by
 obtain⟨⟨af,h1⟩,m,o,D,ag,ah⟩:=h;obtain⟨sv,gs,V⟩:=ag.at;have ab:∀ {g:Nat} {v:x1} {l:List Int},am .i64 U w g v l→ ∀ r,leads v r→¬S r:=fun hm r ai J=>by
  obtain⟨e,c,I,_,Y⟩:=W r J;exact bQ hm I (fun he=>Y he.symm) ai rfl
 refine⟨⟨af,a6 h1 aa (ab h1)⟩,m,o,D,(V.O aa (fun J=>?_) (fun J=>?_) (ab V.2.1)).is,ah⟩
 ·obtain⟨e,c,I,Y,_⟩:=W _ J;have ac:=V.1;unfold ae at ac I;rw[ac] at I;exact Y (Obj.cells.inj (b9 I)).2.1.symm
 ·obtain⟨e,c,I,_,_⟩:=W _ J;exact qH I V.2.2.1 rfl
def oB (w:x2) (g:Nat) (v:x1) (k:Int) (sizes:List Int) (L:List cd):Prop:=a1 dQ 2 b1 w g v L∧ ∀ x∈L,kQ w k sizes x
theorem oB.ext {g:Nat} {L:List cd} (h:oB w g v k sizes L) (I:Ext w w'):oB w' g v k sizes L:=⟨h.1.ext I,fun x J=>(h.2 x J).ext I⟩
def H8 (w:x2) (J:Nat) (f:bP):Prop:=∃ aq I O g L,ae w J b4 [bk f.name,.int .i64 f.k,aq,I]∧am .i64 U w O aq f.sizes∧oB w g I f.k f.sizes L∧L.map dn=eP f
theorem H9 {g:Nat} {L:List cd} {W:List Int} (h:eh w g v L) (aj:ae w ah ac [sv]) (ak:aB .i64 w sv W):
  af x3 vX [v,.func (.func vY) #[] #[.pointer (some ⟨ah,0,none⟩)]] w fun r w'=>Ext w w'∧((r= .int .i64 (-1)∧ ∀ x∈L,x.sc≠W)∨ ∃ i:Nat,r= .int .i64 (i:Int)∧ ∃ x,L[i]? =some x∧x.sc=W):=by
 refine az func211 ?_;rw[ef fc.u h.1];refine bt.range L.length (fun i _ J=>Ext w J∧ ∀ x∈L.take i,x.sc≠W) h.1.le ⟨Ext.refl _,fun c I=>by simp at I⟩ ?_ ?_
 ·rintro i _ J k hi ⟨O,Y⟩ am;rw[an,ab];refine⟨fun _=>?_,fun h=>by omega⟩;obtain⟨x,ad⟩:∃ x,L[i]? =some x:=⟨_,y0 hi⟩;rw[qO rfl (h.ext O) ad];show af x3 vY [h4 x,.pointer (some ⟨ah,0,none⟩)] J _;obtain⟨⟨aq,hm⟩,_⟩:=(h.ext O).at ad;refine az func212 ?_;refine bL fun al ao au U ag=>?_;have ag:ae ao al cr [x.sv,.pointer (some ⟨x.g,0,none⟩)]:=by
   obtain⟨_,_,_,e⟩:=bH hm.ls;simp only[h4,dQ,e] at ag ⊢;exact ag
  rw[V cr.p rfl,aa (by kernel_rfl) (ag.cell (o:=0+0) rfl),aa (by kernel_rfl) ((aj.ext (O.trans U)).cell (o:=0) rfl)];refine (wE (hm.ls.ext U) (ak.ext (O.trans U))).mono ?_;rintro _ av _ ⟨rfl,ai⟩;rw[ab];refine⟨fun he=>⟨(O.trans U).trans ai,.inr ⟨i,rfl,x,ad,he⟩⟩,fun ap=>?_⟩;rw[aI];refine am _ _ ⟨(O.trans U).trans ai,fun c I=>?_⟩;rw[u9,ad] at I;rcases n9.1 I with I|I
  ·exact Y c I
  ·simp at I;subst I;exact ap
 ·rintro _ J k ⟨O,Y⟩;rw[o9] at Y;rw[an,ab];exact⟨fun h=>by omega,fun _=>⟨O,.inl ⟨rfl,Y⟩⟩⟩
def dR (f:bP) (i:Nat):List ca:=((f.funs.take i).map (gm f.sizes f.k)).foldl (gJ f.k) []
theorem zp {f:bP} (I:eo N f) (i:Nat):(∀ g∈dR f i,eE f.sizes f.k g)∧hn (dR f i)∧(dR f i).length≤i:=by
 have:=ta (sizes:=f.sizes) (k:=f.k) (by have:=I.k.1;omega) (l:=(f.funs.take i).map (gm f.sizes f.k)) (acc:=[]) (fun h O=>by cases O) List.nodup_nil fun g U=>by
  obtain⟨x,V,rfl⟩:=j5.1 U;exact mW I (List.mem_of_mem_take V)
 refine⟨this.1,this.2.1,?_⟩;have J:=this.2.2;rw[List.length_nil,u5,W6,o8] at J;exact W7 J (Nat.min_le_left _ _)
theorem tm {f:bP} {i:Nat} {x:bZ} (h:f.funs[i]? =some x):dR f (i+1)=gJ f.k (dR f i) (gm f.sizes f.k x):=by
 unfold dR;rw[u9,h,Z0,b6,List.foldl_append];rfl
theorem zq (f:bP):dR f f.funs.length=eB f:=by unfold dR eB;rw[o9]
theorem tn {L:List cd} {i:Nat} {x:cd} {D:List ca} (h:L.map dn=D) (I:L[i]? =some x):dn x∈D:=by rw[←h];exact j5.2 ⟨x,x5 I,rfl⟩
def Ia (w:x2) (f:bP) (v:x1) (w':x2):Prop:=Ext w w'∧((¬j8 f.funs≤16384∧ ∃ e:Int,e≠0∧v= .tuple #[.pointer none,.int .i64 e])∨ ∃ I,v= .tuple #[.pointer (some ⟨I,0,none⟩),.int .i64 0]∧H8 w' I f)
theorem qT {g I:Nat} {sc cs:List Int} (hm:am .i64 U w g sv sc):∀ u∈dQ ⟨sv,I,sc,cs⟩,u.oneCell'=true:=fun u hu=>by
 simp[dQ] at hu;rcases hu with rfl|rfl
 ·exact hm.ls.cells.2
 ·rfl
set_option maxHeartbeats 8000000 in
theorem Ib {cc:Nat} {f:bP} (ce:jm w cc f) (aj:eo N f) (cg:N≤60000) (df:f.name≠[]∧ ∀ b∈f.name,bq b=true):
  af x3 Cr [.pointer (some ⟨cc,0,none⟩)] w (Ia w f):=by
 have bA:=aj.k;refine az func162 ?_;refine (Hx ce aj cg df).mono ?_;rintro _ J _ ⟨bB,e,rfl,he⟩;rw[bF,ab];refine⟨fun ch=>⟨bB,.inl ⟨fun h=>ch (he h),e,ch,rfl⟩⟩,fun eM=>?_⟩;have ci:=ce.ext bB;obtain⟨aq,a8,eN,bC,cj,dg,bE,ba⟩:=id ci;have eO:bC.length≤256:=by rw[ba.1];exact aj.jd
 rw[aw,V b4.p rfl,aa (by kernel_rfl) (cj.cell (o:=0+3) rfl),fR c8.u bE];refine bt.range bC.length (fun i l aC=>∃ g L,Ext J aC∧eh aC g l L∧Sem aC f.k f.sizes L∧L.map dn=dR f i∧ ∀ r,leadsTo l r→J.heap.size≤r) (mr bE)
  ⟨0,[],Ext.refl _,⟨a1.nil _ _ _ _ _,fun x aR=>(by cases aR)⟩,fun x aR=>(by cases aR),rfl,fun r I=>(eC I).elim⟩ ?_ ?_
 ·rintro i l aC dh hi ⟨g,L,aF,aS,bb,ak,ap⟩ di;obtain⟨d,ck⟩:∃ d,bC[i]? =some d:=⟨_,y0 hi⟩;obtain⟨x,bc⟩:∃ x,f.funs[i]? =some x:=⟨_,y0 (by have:=ba.1;omega)⟩;have cl:=x5 bc;have dj:=ba.2 i x d bc ck;have aG:=mW aj cl;obtain⟨dk,dm,eQ⟩:=zp aj i;have dp:L.length≤i:=by have dq:=congrArg T9 ak;rw[u5] at dq;omega
  rw[an,ab];refine⟨fun _=>?_,fun h=>by omega⟩;refine aM (fun l' be=>∃ au aT,Ext J be∧eh be au l' aT∧Sem be f.k f.sizes aT∧aT.map dn=dR f (i+1)∧ ∀ r,leadsTo l' r→J.heap.size≤r) ?_ ?_
  ·rintro l' be ⟨au,aT,h1,dr,ds,dt,du⟩;rw[aI];exact di _ _ ⟨au,aT,h1,dr,ds,dt,du⟩
  intro eR cm;refine jV (α:=fE) b1.p rfl c8.u b1.i (bO bE aF) ck fun cs bG=>?_;have cn:cs.length=2:=ai.len bG;refine bu b1.i fun al eS eU dv dw=>?_;refine bN (vs:=cs) b1.i cn rfl (ai.one bG) dw fun dx dy eV dz=>?_;have av:Ext aC dx:=dv.then dy (fun r I he=>by have he:r=al:=he;omega);rw[bw b1.p b1.i cn dz.range];refine (HH aj cg cl dj (bO bG av)).mono ?_;rintro _ dA _ ⟨dC,sv,gs,bI,dD,dE,rfl,eW,aU,cp⟩;rw[aD (v:=sv) rfl,aD (v:=.pointer (some ⟨bI,0,none⟩)) rfl];refine bu ac.i fun cq eX eY dF dG=>?_;refine bl ac.i aU.ls.cells.1 aU.ls.cells.2 dG (by simp[x1.cells]) fun ct dH eZ bf=>?_;have bK:Ext dA ct:=dF.then dH (fun r I he=>by have he:r=cq:=he;omega);have bf:ae ct cq ac [sv]:=bf;rw[lf];have bM:=(av.trans dC).trans bK;have e0:=bM.size;have e1:=aF.size;refine (H9 (aS.ext bM) bf (aU.ls.ext bK)).mono ?_;rintro _ e2 _ ⟨bg,I⟩;have bh:=bM.trans bg;have cu:=bK.trans bg;have bR:=aU.ext cu;have cw:=cp.ext cu;have cz:=bf.ext bg;have cC:=aS.ext bh;have bS:=bb.ext bh;rcases I with⟨rfl,dI⟩|⟨cD,rfl,y,ag,bi⟩
  ·rw[an,ab];refine⟨fun _=>?_,fun h=>by omega⟩;rw[aa (by kernel_rfl) (cz.cell (o:=0) rfl),cH (cs:=#[sv,.pointer (some ⟨bI,0,none⟩)]) (by obtain⟨_,_,_,rfl⟩:=bH aU.ls;kernel_rfl)];let a:cd:=⟨sv,bI,a7 x.scope,(gm f.sizes f.k x).2⟩;have bT:∀ u∈dQ a,u.oneCell'=true:=qT bR;refine gp (f:=dQ) (a:=a) fc.u cr.i (by omega) rfl rfl fun e3 e4 dJ e5 aH dK=>?_;have aJ:=cC.ext aH;refine gN (f:=dQ) (a:=a) fc.u cr.i rfl aJ.1 (by simpa using dK.sl) bT (by omega) (by omega) fun aV au e7 aW bU aX=>?_;have cE:=bR.ext aH;have bj:∀ {r:Nat},leadsTo l r→ ∃ c,ae dJ r cr c:=fun I=>by
    obtain⟨rfl,c,Y⟩:=c9 aJ.1 I;exact⟨c,Y⟩
   refine cm _ _ ⟨au,L++[a],((aF.trans bh).trans aH).then aX (fun r I he=>by have:=ap r he;omega),eh.mk aW fun z W=>?_,fun z W=>?_,?_,fun r I=>?_⟩
   ·rcases n9.1 W with W|W
    ·have:=(aJ.2 z W).O aX fun r I he=>(aJ.2 z W).2.1 r I (aJ.1.leads he).1;exact⟨this.1,this.2.2⟩
    ·rw[j0.1 W];exact⟨⟨gs,a6 cE aX fun r I he=>by obtain⟨c,Y⟩:=bj he;exact bQ cE Y (by decide) I rfl⟩,aG.scope⟩
   ·rcases n9.1 W with W|W
    ·exact (bS.ext aH).row aJ aX z W
    ·rw[j0.1 W];exact⟨dD,dE,ti (cw.ext aH) aX fun r I=>bj I⟩
   ·rw[b6,ak,tm bc,zo]
    ·rfl
    ·intro c ao dL;rw[←ak] at ao;obtain⟨z,W,rfl⟩:=j5.1 ao;exact dI z W dL
   ·rcases bU r I with h|h
    ·exact ap r h
    ·have:=aH.size;have:=bg.size;omega
  ·rw[an,ab];refine⟨fun h=>by omega,fun _=>?_⟩;intro e8 ax _ _;have bV:=cC.ext ax;have cF:=(x4.1 ag).1;obtain⟨dN,dO,bm⟩:=(bS.ext ax) y (x5 ag);have cG:=cz.ext ax;have cI:=bR.ext ax;have dP:=cw.ext ax;rw[cT rfl fc.u cr.i bV.1 cF,V cr.p rfl,aa (by kernel_rfl) (bV.1.range ag 1 _ rfl),aa (by kernel_rfl) (cG.cell (o:=0) rfl),aa (by kernel_rfl) (cG.cell (o:=0) rfl)];have aK:eE f.sizes f.k (dn y):=dk _ (tn ak ag);rw[bi] at bm;have cJ:∀ {c:Int},0≤c∧c≤f.k→cA c f.k:=fun h=>⟨bA,h.1,h.2⟩;refine (HT bm dP cI.ls cI.ls bA (fun c ao=>cJ (aK.hl c ao)) (fun c ao=>cJ (aG.hl c ao))).mono ?_;intro e9 cK _ dS;have dT:y.cs.length=(aE (bd f.sizes (a7 x.scope))).toNat:=by have:=aK.len;rw[show (dn y).1=y.sc from rfl,bi] at this;exact this
   have dU:bD (bd f.sizes (a7 x.scope)):=cp.2.2.1;obtain⟨bW,bX,cL,cM,dV,rfl,dW⟩:=HY aG.up (fun v dX=>(aG.scope.1 v dX).1) (by simp[bd];rfl) dU aG.small dT aG.len dS;rw[aD (v:=.pointer (some ⟨bX,0,none⟩)) rfl,aD (v:=dV) rfl,aD (v:=.int .i64 0) rfl];have ay:=bV.ext bW;rw[cT rfl fc.u cr.i ay.1 cF,V cr.p rfl];let a:cd:=⟨y.sv,bX,y.sc,dl f.k y.cs (gm f.sizes f.k x).2⟩;refine mQ (f:=dQ) (j:=1) (a:=y) (a':=a) dM.i rfl rfl ay.1 ag rfl (by omega) fun dY bn fa dZ=>?_;have bj:∀ {r:Nat},leadsTo l r→ ∃ c,ae cK r cr c:=fun I=>by
    obtain⟨rfl,c,Y⟩:=c9 ay.1 I;exact⟨c,Y⟩
   refine cm _ _ ⟨g,L.set cD a,((aF.trans bh).trans (ax.trans bW)).then bn (fun r I he=>by have:=ap r he;omega),eh.mk dZ fun z W=>?_,fun z W=>?_,?_,ap⟩
   ·have cN:∀ z∈L,(∃ bY,am .i64 U dY bY z.sv z.sc)∧hK z.sc:=fun z W=>by
     have:=(ay.2 z W).O bn fun r I he=>(ay.2 z W).2.1 r I (ay.1.leads he).1;exact⟨this.1,this.2.2⟩
    rcases X9 W with W|rfl
    ·exact cN z W
    ·exact cN y (x5 ag)
   ·rcases X9 W with W|rfl
    ·exact ((bS.ext ax).ext bW).row ay bn z W
    ·refine⟨cL,cM,ti ?_ bn fun r I=>bj I⟩;show cB cK bX cL cM (bd f.sizes y.sc) f.k _;rw[bi];exact dW
   ·rw[U3,ak,tm bc,H6 (g:=gm f.sizes f.k x) dm (i:=cD) (h:=dn y) (by rw[←ak,x8,ag];rfl) bi];rfl
 ·rintro l aC dh ⟨g,L,aF,aS,bb,ak,ap⟩;rw[an,ab];refine⟨fun h=>by omega,fun _=>?_⟩;rw[ba.1,zq] at ak;have dp:L.length≤256:=by
   have:=(jk aj).2.2;rw[←ak,u5] at this;have:=aj.jd;omega
  refine (HN aS bb (by omega)).mono ?_;rintro fb cO _ ⟨cP,cQ,ea⟩;have eb:Ext J cO:=aF.then cP fun r I he=>by have:=ap r he;omega
  have ec:Sem cO f.k f.sizes (L.filter e6):=fun z W=>(bb.row aS cP) z (List.mem_filter.1 W).1;have fd:(L.filter e6).length≤L.length:=List.length_filter_le _ _;refine (HE cQ (by omega)).mono ?_;rintro _ cR _ ⟨cS,M,bZ,ed,cU⟩;have ee:Ext J cR:=eb.then cS fun r I he=>by have:=ap r (ea r he);omega
  have cV:Sem cR f.k f.sizes M:=fun z W=>(ec.row cQ cS) z (bZ.mem_iff.1 W);have fe:M.length≤256:=by rw[bZ.length_eq];omega
  have cW:M.map dn=eP f:=by
   refine GD aj ?_ ?_
   ·refine (bZ.map dn).trans ?_;rw[←ak,List.filter_map];exact .refl _
   ·rw[List.pairwise_map];refine V3.2 fun p q eg cX ei=>?_;exact ed p q _ _ (Y7 _) ei cX (y0 eg) (y0 cX)
  intro ff bo _ _;have aY:=ee.trans bo;have fg:=ci.ext aY;have b0:=cj.ext aY;rw[aw,V b4.p rfl,aa (by kernel_rfl) (b0.cell (o:=0+0) rfl),aw,V b4.p rfl,aa (by kernel_rfl) (b0.cell (o:=0+1) rfl),aw,V b4.p rfl,aa (by kernel_rfl) (b0.cell (o:=0+2) rfl)];refine (hc (dg.ls.ext aY) (by have:=aj.sizes.2.1;omega)).mono ?_;rintro aZ cY _ ⟨aL,ej,fh,cZ⟩;refine⟨.inl aL,?_⟩;rw[cH (cs:=#[bk f.name,.int .i64 f.k,aZ,.slice none 0 0]) (by obtain⟨_,_,_,rfl⟩:=bH cZ.ls;kernel_rfl)];refine bL fun aA ek fi bp b2=>?_;have b2:ae ek aA b4 [bk f.name,.int .i64 f.k,aZ,.slice none 0 0]:=b2;have fj:=(aY.trans aL).trans bp;have em:=((cU.ext bo).ext aL).ext bp;have fk:=((cV.ext bo).ext aL).ext bp;rw[ef fc.u em.1];refine bJ.range M.length (fun i aN=>∃ a8 br aB,Ext cY aN∧ae aN aA b4 [bk f.name,.int .i64 f.k,aZ,a8]∧oB aN br a8 f.k f.sizes aB∧aB.map dn=(M.take i).map dn∧aB.length=i∧ ∀ r,leadsTo a8 r→cY.heap.size≤r) (by omega)
   ⟨_,0,[],bp,b2,⟨a1.nil _ _ _ _ _,fun x aR=>(by cases aR)⟩,rfl,rfl,fun r I=>(eC I).elim⟩ ?_ ?_
  rotate_left
  ·rintro aN en ⟨a2,br,aB,aO,aP,b3,bx,_,_⟩;rw[o9,cW] at bx;rw[an,ab];refine⟨fun h=>by omega,fun _=>?_⟩;exact⟨(bB.trans (aY.trans aL)).trans aO,.inr ⟨aA,rfl,aZ,a2,ej,br,aB,aP,cZ.ext aO,b3,bx⟩⟩
  rintro i aN en hi ⟨a2,br,aB,aO,aP,b3,bx,ep,c0⟩ er;obtain⟨y,ag⟩:∃ y,M[i]? =some y:=⟨_,y0 hi⟩;have c1:=(bo.trans aL).trans aO;have c2:=cU.ext c1;have c3:=c2.at ag;obtain⟨dN,dO,bm⟩:=(cV.ext c1) y (x5 ag);have aK:eE f.sizes f.k (dn y):=qE aj _ (tn cW ag);rw[an,ab];refine⟨fun _=>?_,fun h=>by omega⟩;rw[qO rfl c2 ag];refine bu cr.i fun es fl fm et eu=>?_;refine bN (vs:=dQ y) cr.i rfl rfl c3.one eu fun ev ew fo ey=>?_;have ez:Ext aN ev:=et.then ew (fun r I he=>by have he:r=es:=he;omega);intro fp c4 _ _;have b5:=ez.trans c4;have c5:=ey.ext c4;have eA:=aP.ext b5;rw[aw,V b4.p rfl,aa (by kernel_rfl) (eA.cell (o:=0+3) rfl),V cr.p rfl,aa (by kernel_rfl) (c5.cell (o:=0+0) rfl),V cr.p rfl,aa (by kernel_rfl) (c5.cell (o:=0+1) rfl)];refine (H5 (bm.ext b5) fun c ao=>⟨bA,(aK.hl c ao).1,(aK.hl c ao).2⟩).mono ?_;rintro _ fq _ ⟨b7,ah,m,o,D,rfl,eB,eD,eF,_⟩;refine⟨.inl b7,?_⟩;have c6:=b5.trans b7;obtain⟨⟨bY,c7⟩,_,fs⟩:=c3;have da:=c7.ext c6;rw[cH (cs:=#[y.sv,.pointer (some ⟨ah,0,none⟩)]) (by obtain⟨_,_,_,e⟩:=bH c7.ls;rw[e];kernel_rfl)];let a:cd:=⟨y.sv,ah,y.sc,y.cs⟩;have bT:∀ u∈dQ a,u.oneCell'=true:=qT da;refine gp (f:=dQ) (a:=a) c8.u b1.i (by omega) rfl rfl fun v25 ft b8 fu av eH=>?_;refine⟨.inl (b7.trans av),?_⟩;have aQ:=c6.trans av;have bz:=b3.ext aQ;refine gN (f:=dQ) (a:=a) c8.u b1.i rfl bz.1 (by simpa using eH.sl) bT (by omega) (by omega) fun aV au eI aW bU db=>?_;have fv:=aO.size;have fw:=aQ.size;have ca:ae eI aA b4 [bk f.name,.int .i64 f.k,aZ,a2]:=(aP.ext aQ).O db fun he=>by
   obtain⟨rfl,c,Y⟩:=c9 bz.1 he;have h1:=aP.ext aQ;unfold ae at Y h1;rw[h1] at Y;exact absurd (Obj.cells.inj (b9 Y)).2.1 (by decide)
  rw[aw,V b4.p rfl];have dc:aV.cells= #[aV]∧aV.oneCell'=true:=by
   obtain⟨_,_,_,_,_,rfl,_⟩:=aW.sl;exact⟨rfl,rfl⟩
  refine bl c8.i dc.1 dc.2 ca (by simp) fun eJ dd fx eK=>?_;rw[aI];have cb:ad (fun r=>r=aA∨leadsTo a2 r) b8 eJ:=(db.mono fun r _ h=>.inr h).trans (dd.mono fun r _ h=>.inl h);have de:∀ r,(r=aA∨leadsTo a2 r)→ ∃ e c,ae b8 r e c∧e≠eL∧e≠U:=fun r I=>by
   rcases I with rfl|I
   ·exact⟨_,_,aP.ext aQ,by decide,by decide⟩
   ·obtain⟨rfl,c,Y⟩:=c9 bz.1 I;exact⟨_,c,Y,by decide,by decide⟩
  refine er _ ⟨aV,au,aB++[a],?_,eK,⟨aW.O dd fun r I he=>?_,fun z W=>?_⟩,?_,by rw[o5,ep];rfl,fun r I=>?_⟩
  ·exact (aO.trans aQ).then cb fun r I he=>by
    rcases he with rfl|he
    ·omega
    ·have:=c0 r he;omega
  ·have he:r=aA:=he;subst he;obtain⟨rfl,c,Y⟩:=c9 aW I;unfold ae at Y ca;rw[ca] at Y;exact absurd (Obj.cells.inj (b9 Y)).2.1 (by decide)
  ·rcases n9.1 W with W|W
   ·exact (bz.2 z W).O cb de
   ·rw[j0.1 W];refine kQ.O (w:=b8) ⟨⟨bY,da.ext av⟩,m,o,D,eB.ext av,?_,eF⟩ cb de;have:=aK.small;exact W7 eD (by show (aE (bd f.sizes (dn y).1)).toNat≤4096;omega)
  ·rw[b6,bx,u9,ag,b6];rfl
  ·rcases bU r I with h|h
   ·exact c0 r h
   ·omega
theorem ei {I:r8} {c J:List x1} (h:ae w r e c) (h':ae w r I J):e=I:=by
 unfold ae at h h';rw[h] at h';exact (Obj.cells.inj (b9 h')).2.1
theorem cb {α:Type} {f:α→List x1} {k:Nat} {I:r8} {g:Nat} {L:List α} (h:a1 f k e w g v L) (O:ae w J I cs) (U:e≠I):¬leadsTo v J:=fun V=>by
 obtain⟨rfl,c,W⟩:=c9 h V;exact U (ei W O)
structure ka where
 v:x1
 l:List Int
def lJ (h:ka):List x1:=[h.v]
def gq (w:x2) (g:Nat) (v:x1) (aO:List ka):Prop:=a1 lJ 1 au w g v aO∧ ∀ h∈aO,∃ I,am .i64 ak w I h.v h.l
theorem gq.ext {g:Nat} {aO:List ka} (h:gq w g v aO) (I:Ext w w'):gq w' g v aO:=⟨h.1.ext I,fun x J=>by
 obtain⟨O,hm⟩:=h.2 x J;exact⟨O,hm.ext I⟩⟩
theorem gq.oC {g:Nat} {aO:List ka} (h:gq w g v aO) (J:ad S w w') (O:∀ r,S r→ ∃ e c,ae w r e c∧e≠ak):∀ h∈aO,∃ I,am .i64 ak w' I h.v h.l:=fun x U=>by
 obtain⟨I,hm⟩:=h.2 x U;exact⟨I,a6 hm J fun r V W=>by
  obtain⟨e,c,Y,aa⟩:=O r W;exact bQ hm Y (fun he=>aa he.symm) V rfl⟩
theorem gq.O {g:Nat} {aO:List ka} (h:gq w g v aO) (V:ad S w w') (W:∀ r,S r→ ∃ e c,ae w r e c∧e≠ak∧e≠au):gq w' g v aO:=
 ⟨h.1.O V fun r I Y=>by
  obtain⟨e,c,J,_,U⟩:=W r Y;exact cb h.1 J (fun he=>U he.symm) I,h.oC V fun r I=>by
  obtain⟨e,c,J,U,_⟩:=W r I;exact⟨e,c,J,U⟩⟩
def kR (w:x2) (k:Int) (sizes:List Int) (x:cd):Prop:=(∃ I,am .i64 U w I x.sv x.sc)∧ ∃ J O,cB w x.g J O (bd sizes x.sc) k x.cs
theorem kR.ext {x:cd} (h:kR w k sizes x) (I:Ext w w'):kR w' k sizes x:=by
 obtain⟨⟨J,h1⟩,O,U,V⟩:=h;exact⟨⟨J,h1.ext I⟩,O,U,V.ext I⟩
theorem Ic {g ab:Nat} {ac:x1} {cs:List Int} (h:cB w g ab ac szs k cs) (W:ad S w w') (Y:∀ r,S r→ ∃ e c,ae w r e c∧e≠cD∧e≠U∧e≠ak):cB w' g ab ac szs k cs:=by
 obtain⟨⟨aG,gs,h1,af,ag⟩,ah⟩:=h;refine⟨⟨aG,gs,h1.O W fun I=>?_,a6 af W fun r aa I=>?_,a6 ag W fun r aa I=>?_⟩,ah⟩
 ·obtain⟨e,c,J,V,_⟩:=Y g I;exact V (ei J h1)
 ·obtain⟨e,c,J,_,V,_⟩:=Y r I;exact bQ af J (fun he=>V he.symm) aa rfl
 ·obtain⟨e,c,J,_,_,V⟩:=Y r I;exact bQ ag J (fun he=>V he.symm) aa rfl
theorem kR.O {x:cd} (h:kR w k sizes x) (I:ad S w w') (J:∀ r,S r→ ∃ e c,ae w r e c∧e≠cD∧e≠U∧e≠ak):kR w' k sizes x:=by
 obtain⟨⟨V,h1⟩,W,Y,aa⟩:=h;refine⟨⟨V,a6 h1 I fun r ab ac=>?_⟩,W,Y,Ic aa I J⟩;obtain⟨e,c,af,_,ag,_⟩:=J r ac;exact bQ h1 af (fun he=>ag he.symm) ab rfl
def kb (w:x2) (g:Nat) (v:x1) (k:Int) (sizes:List Int) (L:List cd):Prop:=a1 dQ 2 gD w g v L∧ ∀ x∈L,kR w k sizes x
theorem kb.ext {g:Nat} {L:List cd} (h:kb w g v k sizes L) (I:Ext w w'):kb w' g v k sizes L:=⟨h.1.ext I,fun x J=>(h.2 x J).ext I⟩
theorem kb.O {g:Nat} {L:List cd} (h:kb w g v k sizes L) (W:ad S w w') (Y:∀ r,S r→ ∃ e c,ae w r e c∧e≠gD∧e≠cD∧e≠U∧e≠ak):kb w' g v k sizes L:=
 ⟨h.1.O W fun r I aa=>by
  obtain⟨e,c,J,V,_⟩:=Y r aa;exact cb h.1 J (fun he=>V he.symm) I,fun x ab=>(h.2 x ab).O W fun r I=>by
  obtain⟨e,c,J,_,V⟩:=Y r I;exact⟨e,c,J,V⟩⟩
def e7 (w:x2) (V:Nat) (n:aS):Prop:=∃ I J O W Y aO L aa aq ab ac,ae w V eY [.pointer (some ⟨I,0,none⟩),.int .i64 n.zero,J,O]∧ae w I b4 [aa,.int .i64 n.k,aq,ac]∧am .i64 U w ab aq n.sizes∧
 gq w W J aO∧aO.map (·.l)=n.unary∧kb w Y O n.k n.sizes L∧L.map dn=n.funs
theorem e7.ext {n:aS} (h:e7 w J n) (I:Ext w w'):e7 w' J n:=by
 obtain⟨O,U,V,W,Y,aO,L,aa,aq,ab,ac,h1,ad,ae,af,ag,ah,ai⟩:=h;exact⟨O,U,V,W,Y,aO,L,aa,aq,ab,ac,h1.ext I,ad.ext I,ae.ext I,af.ext I,ag,ah.ext I,ai⟩
def hp (n:aS) (g:ca):aS:=match g.1 with
 |[]=>{n with zero:=g.2.getD 0 0}
 |[v]=>{n with unary:=n.unary.set v.toNat g.2}
 |_=>{n with funs:=n.funs++[g]}
def zr (f:bP):aS:=⟨f.k,f.sizes,0,f.sizes.map fun z=>r9 z.toNat 0,[]⟩
theorem Ie (f:bP):cR f=(eP f).foldl hp (zr f):=rfl
def c7 (f:bP) (i:Nat):aS:=((eP f).take i).foldl hp (zr f)
theorem tp {f:bP} {i:Nat} {g:ca} (h:(eP f)[i]? =some g):c7 f (i+1)=hp (c7 f i) g:=H7 h
theorem qU (f:bP):c7 f (eP f).length=cR f:=by unfold c7;rw[o9,Ie]
theorem If (n:aS) (g:ca):(hp n g).k=n.k∧(hp n g).sizes=n.sizes∧(hp n g).unary.length=n.unary.length∧(hp n g).funs.length≤n.funs.length+1:=by
 unfold hp;split
 ·exact⟨rfl,rfl,rfl,Nat.le_succ _⟩
 ·exact⟨rfl,rfl,by simp,Nat.le_succ _⟩
 ·exact⟨rfl,rfl,rfl,by simp⟩
theorem m3 (f:bP):∀ i,(c7 f i).k=f.k∧(c7 f i).sizes=f.sizes∧(c7 f i).unary.length=f.sizes.length∧(c7 f i).funs.length≤i
 |0=>⟨rfl,rfl,by show (f.sizes.map _).length=_;simp,Y7 _⟩
 |i+1=>by
  have I:=m3 f i;cases J:(eP f)[i]? with
  |none=>
   have O:=List.getElem?_eq_none_iff.1 J;have e:c7 f (i+1)=c7 f i:=by unfold c7;rw[l5 (by omega),l5 O]
   rw[e];exact⟨I.1,I.2.1,I.2.2.1,by omega⟩
  |some g=>
   rw[tp J];obtain⟨h1,U,V,W⟩:=If (c7 f i) g;exact⟨h1.trans I.1,U.trans I.2.1,V.trans I.2.2.1,by omega⟩
def Ig (w:x2) (f:bP) (v:x1) (w':x2):Prop:=Ext w w'∧((¬j8 f.funs≤16384∧ ∃ e:Int,e≠0∧v= .tuple #[.pointer none,.int .i64 e])∨ ∃ I,v= .tuple #[.pointer (some ⟨I,0,none⟩),.int .i64 0]∧e7 w' I (cR f))
theorem dD {k:Nat} (h:bS w k v n cs):v.cells= #[v]∧v.oneCell'=true:=by
 obtain⟨_,_,_,_,_,rfl,_⟩:=h;exact⟨rfl,rfl⟩
set_option maxHeartbeats 8000000 in
theorem Ih {ci:Nat} {f:bP} (cK:jm w ci f) (aA:eo N f) (cL:N≤60000) (cM:f.name≠[]∧ ∀ b∈f.name,bq b=true):
  af x3 BT [.pointer (some ⟨ci,0,none⟩)] w (Ig w f):=by
 have dM:=aA.k;refine az func69 ?_;refine (Ib cK aA cL cM).mono ?_;rintro _ J _ ⟨be,⟨cN,e,he,rfl⟩|⟨aH,rfl,cO⟩⟩
 ·rw[aD (v:=.pointer none) rfl,aD (v:=.int .i64 e) rfl,bF,ab];exact⟨fun _=>⟨be,.inl ⟨cN,e,he,rfl⟩⟩,fun h=>absurd he h⟩
 rw[aD (v:=.pointer (some ⟨aH,0,none⟩)) rfl,aD (v:=.int .i64 0) rfl,bF,ab];refine⟨fun h=>absurd rfl h,fun _=>?_⟩;obtain⟨aq,cP,cQ,dN,M,bB,bC,cj,bf⟩:=id cO;have dO:M.length≤256:=by
  have h1:=(oq aA).2.length_eq;have aS:=(jk aA).2.2;have aT:=List.length_filter_le eO (eB f);have bg:=aA.jd;have dP:M.length=(eP f).length:=by rw[←bf,u5]
  omega
 have dR:=aA.sizes.2.1;rw[cH (cs:=#[.pointer (some ⟨aH,0,none⟩),.int .i64 0,.slice none 0 0,.slice none 0 0]) (by kernel_rfl)];refine bL fun ah cR dS bD bE=>?_;have bE:ae cR ah eY [.pointer (some ⟨aH,0,none⟩),.int .i64 0,.slice none 0 0,.slice none 0 0]:=bE;rw[aw,V b4.p rfl,aa (by kernel_rfl) ((bB.ext bD).cell (o:=0+2) rfl),aL ac.u (bC.ls.ext bD)];refine bJ.range f.sizes.length (fun i aW=>∃ W ai aO,Ext J aW∧ae aW ah eY [.pointer (some ⟨aH,0,none⟩),.int .i64 0,W,.slice none 0 0]∧gq aW ai W aO∧aO.map (·.l)=(f.sizes.take i).map (fun z=>r9 z.toNat 0)∧ ∀ r,leadsTo W r→J.heap.size≤r) (by omega)
  ⟨_,0,[],bD,bE,⟨a1.nil _ _ _ _ _,fun x bI=>(by cases bI)⟩,rfl,fun r I=>(eC I).elim⟩ ?_ ?_
 ·rintro i aW cS hi ⟨W,ai,aO,aJ,bh,bK,aX,bi⟩ cU;obtain⟨z,aj⟩:∃ z,f.sizes[i]? =some z:=⟨_,y0 hi⟩;have dT:=aA.sizes.2.2 z (x5 aj);have dU:aO.length=i:=by have:=congrArg T9 aX;simp only[u5,o8] at this;omega
  rw[an,ab];refine⟨fun _=>?_,fun h=>by omega⟩;rw[aZ ac.u U.i (by kernel_rfl) (bC.ls.ext aJ) aj];intro dV ck _ _;have cV:=bh.ext ck;rw[aw,V eY.p rfl,aa (by kernel_rfl) (cV.cell (o:=0+2) rfl)];obtain⟨aK,rfl⟩:∃ n:Nat,z=n:=⟨z.toNat,by omega⟩;refine hU (k:=.i64) au.u ak.i (by omega) (by omega) fun bj cW dW bM cX=>?_;refine⟨.inl bM,?_⟩;have cY:am .i64 ak cW bj (.slice (some ⟨bj,0,none⟩) aK aK) (r9 aK 0):=am.of (bG.full (k:=1) (n:=aK) cX (by simp) (by simp[maxLen];omega));let a:ka:=⟨.slice (some ⟨bj,0,none⟩) aK aK,r9 aK 0⟩;refine gp (f:=lJ) (a:=a) ek.u au.i (by omega) rfl rfl fun dX dY bO dZ bR cZ=>?_;refine⟨.inl (bM.trans bR),?_⟩;have bm:=(ck.trans bM).trans bR;have bn:=bK.ext bm;refine gN (f:=lJ) (a:=a) ek.u au.i rfl bn.1 (by simpa using cZ.sl) (fun u hu=>by rw[j0.1 (show u∈[a.v] from hu)];rfl) (by omega) (by omega) fun bS bT ea av bU cl=>?_;have aY:∀ {r:Nat},leadsTo W r→ ∃ c,ae bO r au c:=fun I=>by
   obtain⟨rfl,c,Y⟩:=c9 bn.1 I;exact⟨c,Y⟩
  have bV:=bh.ext bm;have cm:=bV.O cl fun he=>cb bn.1 bV (by decide) he;rw[aw,V eY.p rfl];refine bl ek.i (dD av.sl).1 (dD av.sl).2 cm (by simp) fun c0 cn eb c1=>?_;rw[aI];have bW:ad (fun r=>leadsTo W r∨r=ah) bO c0:=(cl.mono fun r _ h=>.inl h).trans (cn.mono fun r _ h=>.inr h);have aB:∀ r,(leadsTo W r∨r=ah)→ ∃ e c,ae bO r e c∧e≠ak:=fun r I=>by
   rcases I with I|rfl
   ·obtain⟨c,Y⟩:=aY I;exact⟨_,c,Y,by decide⟩
   ·exact⟨_,_,bV,by decide⟩
  have c2:=be.size;have z3:=aJ.size;have ec:=bm.size;refine cU _ ⟨bS,bT,aO++[a],(aJ.trans bm).then bW (fun r I he=>?_),c1,⟨av.O cn fun r I he=>?_,fun y ap=>?_⟩,?_,fun r I=>?_⟩
  ·rcases he with he|rfl
   ·have:=bi r he;omega
   ·omega
  ·have he:r=ah:=he;subst he;exact cb av cm (by decide) I
  ·rcases n9.1 ap with ap|ap
   ·exact bn.oC bW aB y ap
   ·rw[j0.1 ap];have cp:=cY.ext bR;exact⟨bj,a6 cp bW fun r I bX=>by
     obtain⟨e,c,Y,c4⟩:=aB r bX;exact bQ cp Y (fun he=>c4 he.symm) I rfl⟩
  ·rw[b6,aX,u9,aj,Z0,b6];rfl
  ·rcases bU r I with h|h
   ·exact bi r h
   ·omega
 ·rintro aW cS ⟨W,ai,aO,aJ,bh,bK,aX,bi⟩;rw[an,ab];refine⟨fun h=>by omega,fun _=>?_⟩;rw[o9] at aX;have c5:=bB.ext aJ;have c6:=cj.ext aJ;rw[aw,V b4.p rfl,aa (by kernel_rfl) (c5.cell (o:=0+3) rfl),ef c8.u c6.1];refine bJ.range M.length (fun i aM=>∃ W ag ai aC aO L,Ext J aM∧ae aM ah eY [.pointer (some ⟨aH,0,none⟩),.int .i64 (c7 f i).zero,W,ag]∧gq aM ai W aO∧aO.map (·.l)=(c7 f i).unary∧kb aM aC ag f.k f.sizes L∧L.map dn=(c7 f i).funs∧ ∀ r,leadsTo W r∨leadsTo ag r→J.heap.size≤r) (by omega)
   ⟨W,_,ai,0,aO,[],aJ,bh,bK,aX,⟨a1.nil _ _ _ _ _,fun x bI=>(by cases bI)⟩,rfl,fun r I=>I.elim (bi r) fun h=>(eC h).elim⟩ ?_ ?_
  rotate_left
  ·rintro aM da ⟨W,ag,ai,aC,aO,L,ax,bo,bY,aN,bZ,aP,_⟩;rw[an,ab];refine⟨fun h=>by omega,fun _=>?_⟩;have db:M.length=(eP f).length:=by rw[←bf,u5]
   have a2:=m3 f M.length;rw[db,qU] at bo aN aP a2;refine⟨be.trans ax,.inr ⟨ah,rfl,aH,W,ag,ai,aC,aO,L,bk f.name,aq,cQ,cP,bo,?_,?_,bY,aN,?_,aP⟩⟩
   ·rw[a2.1];exact bB.ext ax
   ·rw[a2.2.1];exact bC.ext ax
   ·rw[a2.1,a2.2.1];exact bZ
  rintro i aM da hi ⟨W,ag,ai,aC,aO,L,ax,bo,bY,aN,bZ,aP,aU⟩ dc;obtain⟨y,ap⟩:∃ y,M[i]? =some y:=⟨_,y0 hi⟩;have dd:(eP f)[i]? =some (dn y):=by rw[←bf,x8,ap];rfl
  have bp:eE f.sizes f.k (dn y):=qE aA _ (tn bf ap);have b0:=cj.ext ax;obtain⟨ed,ee,eg,eh⟩:=m3 f i;rw[an,ab];refine⟨fun _=>?_,fun h=>by omega⟩;refine c3 (fun a7=>∃ W ag ai aC aO L,Ext J a7∧ae a7 ah eY [.pointer (some ⟨aH,0,none⟩),.int .i64 (c7 f (i+1)).zero,W,ag]∧gq a7 ai W aO∧aO.map (·.l)=(c7 f (i+1)).unary∧kb a7 aC ag f.k f.sizes L∧L.map dn=(c7 f (i+1)).funs∧ ∀ r,leadsTo W r∨leadsTo ag r→J.heap.size≤r) ?_ ?_
  ·rintro a7 h;rw[aI];exact dc _ h
  intro ei b2;have de:=b0.2 y (x5 ap);obtain⟨⟨df,b3⟩,m,o,D,dg,ej,dh⟩:=de;rw[cT rfl c8.u b1.i b0.1 hi,bw b1.p b1.i rfl (b0.1.range ap)];refine bu b1.i fun al em en di dj=>?_;refine bN (vs:=dQ y) b1.i rfl rfl (qT b3) dj fun dk dl ep cq=>?_;have cr:Ext aM dk:=di.then dl (fun r I he=>by have he:r=al:=he;omega);rw[V b1.p rfl,aa (by kernel_rfl) (cq.cell (o:=0+1) rfl)];refine (yW (dg.ext cr) (by omega)).mono ?_;rintro _ er _ ⟨ct,_,aV⟩;obtain⟨g,dm,dp,dq,rfl,es,et,aV,dr⟩:=aV bp.small;have ds:dC (bd f.sizes y.sc):=aV.2.2.1.2;have du:dq=y.cs:=gP.eq ds dr dh;subst du;have aF:=cr.trans ct;have b5:=cq.ext ct;have b7:=b3.ext aF;rw[aD (v:=.pointer (some ⟨g,0,none⟩)) rfl,aD (v:=.int .i64 0) rfl,V b1.p rfl,aa (by kernel_rfl) (b5.cell (o:=0+0) rfl),aL ac.u b7.ls];have c2:=be.size;have z9:=ax.size;have eu:=aF.size;have b9:=bo.ext aF;have ca:=bY.ext aF;have cc:=bZ.ext aF;have ce:=tp dd;rw[a8,ab];refine⟨fun ev=>?_,fun ew=>?_⟩
  ·
   have aQ:y.sc=[]:=b8 (by omega);have ao:c7 f (i+1)={c7 f i with zero:=y.cs.getD 0 0}:=by rw[ce];unfold hp;simp only[dn,aQ]
   refine (kN aV).mono ?_;rintro cu dv _ ⟨br,ey,ez,dw⟩;have eA:y.cs.length=1:=by have:=bp.len;simpa[dn,aQ,bd,aE] using this
   have dx:y.cs[0]? =some (y.cs.getD 0 0):=by rw[u4,y0 (by omega)];rfl
   rw[dt (y:=0) (i:=0) rfl au.u ak.i (by kernel_rfl) dw.ls dx,aw,V eY.p rfl];have cw:=b9.ext br;refine bl ak.i rfl rfl cw (by simp) fun eD cg eF dy=>?_;have aB:∀ r,r=ah→ ∃ e c,ae dv r e c∧e≠gD∧e≠cD∧e≠U∧e≠ak∧e≠au:=fun r I=>by
    subst I;exact⟨_,_,cw,by decide,by decide,by decide,by decide,by decide⟩
   refine b2 _ ⟨W,ag,ai,aC,aO,L,((ax.trans aF).trans br).then cg (fun r I he=>by have he:r=ah:=he;omega),?_,(ca.ext br).O cg (fun r I=>?_),by rw[ao];exact aN,(cc.ext br).O cg (fun r I=>?_),by rw[ao];exact aP,aU⟩
   ·rw[ao];exact dy
   ·obtain⟨e,c,Y,_,_,_,h1,aS⟩:=aB r I;exact⟨e,c,Y,h1,aS⟩
   ·obtain⟨e,c,Y,h1,aS,aT,bg,_⟩:=aB r I;exact⟨e,c,Y,h1,aS,aT,bg⟩
  rw[a8,ab];refine⟨fun h1=>?_,fun eH=>?_⟩
  ·
   obtain⟨v,aQ⟩:∃ v,y.sc=[v]:=X1.1 (by omega);have eI:=bp.scope.1 v (by show v∈y.sc;rw[aQ];exact .head _);have eJ:=bp.vars v (by show v∈y.sc;rw[aQ];exact .head _);have ao:c7 f (i+1)={c7 f i with unary:=(c7 f i).unary.set v.toNat y.cs}:=by rw[ce];unfold hp;simp only[dn,aQ]
   intro eK aR _ _;have cz:=b9.ext aR;have dz:=b5.ext aR;rw[aw,V eY.p rfl,aa (by kernel_rfl) (cz.cell (o:=0+2) rfl),V b1.p rfl,aa (by kernel_rfl) (dz.cell (o:=0+0) rfl)];refine ss (y:=0) (i:=0) rfl ac.u U.i (b7.ls.ext aR) (show y.sc[0]? =some v by rw[aQ];rfl) fun b o dA=>?_;rw[aa (by kernel_rfl) dA];refine (kN (aV.ext aR)).mono ?_;rintro cu dE _ ⟨ba,dF,eL,bt⟩;refine⟨.inl ba,?_⟩;have bb:=(ca.ext aR).ext ba;have eM:aO.length=f.sizes.length:=by have:=congrArg T9 aN;rw[u5] at this;omega
   obtain⟨u,hu⟩:∃ u,aO[v.toNat]? =some u:=⟨_,y0 (by omega)⟩;rw[cT (i:=v.toNat) (by omega) ek.u au.i bb.1 (by omega)];let a:ka:=⟨cu,y.cs⟩;refine mQ (f:=lJ) (j:=0) (a:=u) (a':=a) au.i bt.ls.cells.1 bt.ls.cells.2 bb.1 hu rfl (by omega) fun eN bc eQ dG=>?_;have cA:=cz.ext ba;have aY:∀ {r:Nat},leadsTo W r→ ∃ c,ae dE r au c:=fun I=>by
    obtain⟨rfl,c,Y⟩:=c9 bb.1 I;exact⟨c,Y⟩
   refine b2 _ ⟨W,ag,ai,aC,aO.set v.toNat a,L,(((ax.trans aF).trans aR).trans ba).then bc (fun r I he=>by have:=aU r (.inl he);omega),?_,⟨dG,fun z aj=>?_⟩,?_,((cc.ext aR).ext ba).O bc (fun r I=>?_),by rw[ao];exact aP,aU⟩
   ·rw[ao];exact cA.O bc fun he=>cb bb.1 cA (by decide) he
   ·rcases X9 aj with aj|rfl
    ·exact bb.oC bc (fun r I=>by obtain⟨c,Y⟩:=aY I;exact⟨_,c,Y,by decide⟩) z aj
    ·exact⟨dF,a6 bt bc fun r I bX=>by
      obtain⟨c,Y⟩:=aY bX;exact bQ bt Y (by decide) I rfl⟩
   ·rw[ao,U3,aN]
   ·obtain⟨c,Y⟩:=aY I;exact⟨_,c,Y,by decide,by decide,by decide,by decide⟩
  ·
   have ao:c7 f (i+1)={c7 f i with funs:=(c7 f i).funs++[dn y]}:=by
    rw[ce];unfold hp;have cB:2≤(dn y).1.length:=by show 2≤y.sc.length;omega
    generalize dn y=g at cB ⊢;obtain⟨sc,cs⟩:=g
    match sc,cB with
    |_::_::_,_=>rfl
   intro eR aG _ _;have cC:=b9.ext aG;have dH:=b5.ext aG;have cE:=b7.ext aG;rw[aw,V eY.p rfl,aa (by kernel_rfl) (cC.cell (o:=0+3) rfl),V b1.p rfl,aa (by kernel_rfl) (dH.cell (o:=0+0) rfl),cH (cs:=#[y.sv,.pointer (some ⟨g,0,none⟩)]) (by obtain⟨_,_,_,e⟩:=bH b3.ls;rw[e];kernel_rfl)];let a:cd:=⟨y.sv,g,y.sc,y.cs⟩;refine gp (f:=dQ) (a:=a) iV.u gD.i (by omega) rfl rfl fun eS eU bx eV ay dI=>?_;refine⟨.inl ay,?_⟩;have bz:=(cc.ext aG).ext ay;have dJ:=(ca.ext aG).ext ay;have ch:=cC.ext ay;have eW:L.length≤256:=by have:=congrArg T9 aP;rw[u5] at this;omega
   refine gN (f:=dQ) (a:=a) iV.u gD.i rfl bz.1 (by simpa using dI.sl) (qT (cE.ext ay)) (by omega) (by omega) fun bS bT eX av bU cF=>?_;have cG:=ch.O cF fun he=>cb bz.1 ch (by decide) he;rw[aw,V eY.p rfl];refine bl iV.i (dD av.sl).1 (dD av.sl).2 cG (by simp) fun dK cI eZ dL=>?_;have bA:ad (fun r=>leadsTo ag r∨r=ah) bx dK:=(cF.mono fun r _ h=>.inl h).trans (cI.mono fun r _ h=>.inr h);have aB:∀ r,(leadsTo ag r∨r=ah)→ ∃ e c,ae bx r e c∧e≠cD∧e≠U∧e≠ak∧e≠au:=fun r I=>by
    rcases I with I|rfl
    ·obtain⟨rfl,c,Y⟩:=c9 bz.1 I;exact⟨_,c,Y,by decide,by decide,by decide,by decide⟩
    ·exact⟨_,_,ch,by decide,by decide,by decide,by decide⟩
   have e0:=(aG.trans ay).size;refine b2 _ ⟨W,bS,ai,bT,aO,L++[a],(((ax.trans aF).trans aG).trans ay).then bA (fun r I he=>?_),?_,dJ.O bA (fun r I=>?_),by rw[ao];exact aN,⟨av.O cI fun r I he=>?_,fun z aj=>?_⟩,?_,fun r I=>?_⟩
   ·rcases he with he|rfl
    ·have:=aU r (.inr he);omega
    ·omega
   ·rw[ao];exact dL
   ·obtain⟨e,c,Y,_,_,aT,bg⟩:=aB r I;exact⟨e,c,Y,aT,bg⟩
   ·have he:r=ah:=he;subst he;exact cb av cG (by decide) I
   ·have cJ:∀ r,(leadsTo ag r∨r=ah)→ ∃ e c,ae bx r e c∧e≠cD∧e≠U∧e≠ak:=fun r I=>by
     obtain⟨e,c,Y,h1,aS,aT,_⟩:=aB r I;exact⟨e,c,Y,h1,aS,aT⟩
    rcases n9.1 aj with aj|aj
    ·exact (bz.2 z aj).O bA cJ
    ·rw[j0.1 aj];refine kR.O (w:=bx) ⟨⟨df,cE.ext ay⟩,dm,dp,?_⟩ bA cJ;exact (aV.ext aG).ext ay
   ·rw[ao,b6,aP];rfl
   ·rcases I with I|I
    ·exact aU r (.inl I)
    ·rcases bU r I with h|h
     ·exact aU r (.inr h)
     ·omega
theorem tq {z:Array x1} {k:Nat} (I:z.size=k):(n0.zeroCells z n).toList=de z (n*k):=by
 unfold n0.zeroCells de;rw[I]
theorem Ii {P:X5} {t J Y:r8} {aa kn:o4} {b g k:Nat} {z:x1} {xs:List x1} (az:y=(m:Int)) (al:P.underlying t=some (.slice e)) (am:P.underlying J=some (.int kn)) (hi:aJ P e k b z) (ab:z.cells.size=k)
  (aS:0<k) (h1:∀ u∈de z.cells (m*k),u.oneCell'=true) (h:bG w g e k v n xs) (aA:0<m) (aB:(n+m)*b≤140737488355328) (aC:n+m≤9223372036854775807)
  (an:∀ ac aD w',bG w' aD e k ac (n+m) (xs++de z.cells (m*k))→(∀ r,leadsTo ac r→leadsTo v r∨w.heap.size≤r)→ad (fun r=>leadsTo v r) w w'→K ac w'):ax P (l9 #[t,J] Y #[v,.int aa y]) w K:=by
 subst az;obtain⟨i,hi,af,rfl,ao⟩:=hi;obtain⟨ap,hm⟩:=h;have aE:=mq z.cells (m*k);have aF:m*i.bytes≤281474976710656:=by
  have:m*i.bytes≤(n+m)*i.bytes:=X0 _ (by omega);omega
 have grow:∀ (base:Option Addr) (cap:Nat),v= .slice base n cap→(n0.firstCells i.size n (.slice base n cap)).run P w.drew= .ok xs.toArray w.drew→cap<n+m→ax P (l9 #[t,J] Y #[v,.int aa (m:Int)]) w K:=fun base cap aG aH I=>by
  subst aG;have ag:=Lib.run_append_grow_zeros (P:=P) w t J Y e i z aa kn al am hi ao base n cap xs aH m aA (by omega) I (by omega) aF (growslice_fits I aB);have aq:n+m≤grownCap w (n+m) cap e:=grownCap_ge w _ _ _;have aI:grownCap w (n+m) cap e≤maxLen:=grownCap_le_maxLen w (n+m) cap e (by simpa[maxLen] using aC);have aT:=mq z.cells ((grownCap w (n+m) cap e-(n+m))*k);have aU:(n+m)*k≤grownCap w (n+m) cap e*k:=X0 _ aq;have aK:(n+m)*k=n*k+m*k:=V4 _ _ _;have aV:(grownCap w (n+m) cap e-(n+m))*k=grownCap w (n+m) cap e*k-(n+m)*k:=Nat.sub_mul _ _ _;refine .of ag ((ni w _ (Nat.le_succ _)).trans (nk _ _)) (an _ w.heap.size _ ⟨by rw[o5];omega,.inr ⟨_,xs++de z.cells (m*k)++de z.cells ((grownCap w (n+m) cap e-(n+m))*k),rfl,?_,aq,aI,?_,?_⟩⟩ (fun r ah=>?_) (((pb w _).trans (nj _ _)).O _))
  ·have:=heap_alloc_new w.drew (.cells (xs.toArray++n0.zeroCells z.cells m++n0.zeroCells z.cells (grownCap w (n+m) cap e-(n+m))) e);unfold ae;rw[show w.drew.heap.size=w.heap.size from rfl] at this;rw[this];congr 2;apply Array.toList_inj.1;rw[Array.toList_append,Array.toList_append,tq ab,tq ab]
  ·rw[o5,o5];omega
  ·rw[List.take_append_of_le_length (by rw[o5];omega),l5 (by rw[o5];omega)]
  ·obtain⟨a,aL,c,U,V⟩:=ah;cases U;exact .inr (by simp at V;omega)
 rcases hm with⟨rfl,aM⟩|⟨cap,cs,rfl,W,U,V,ai,au⟩
 ·subst aM;have:xs=[]:=b8 (by simpa using ap);subst this;exact grow none 0 rfl (run_firstCells_none w.drew i.size 0 0 0) (by omega)
 ·by_cases I:n+m≤cap
  ·have av:(n+m)*k≤cs.length:=by rw[ai];exact X0 _ I
   have aK:(n+m)*k=n*k+m*k:=V4 _ _ _;have aj:=run_storeCells_cells (P:=P) g (0+n*k) (de z.cells (m*k)) 0 w (fun j aw=>by
    rw[aE] at aw;rw[Nat.add_zero,W6,W.cell (y0 (show n*k+j<cs.length by omega))];rfl) (fun j _=>W.frozen _ _) h1
   simp only[Nat.add_zero] at aj;have hw:Y0.wrap (m:Int)=m:=by rw[o4.wrap_i64];omega
   have aN:¬((m:Int)<0):=by omega
   have aO:¬(281474976710656<(m:Int)*(i.bytes:Int)):=by rw[←Int.natCast_mul];omega
   have ak:¬(m*i.size=0):=Nat.mul_ne_zero (by omega) (by omega);have aP:(n0.zeroCells z.cells m).toList=de z.cells (m*k):=tq ab;have ag:(l9 #[t,J] Y #[.slice (some ⟨g,0,none⟩) n cap,.int aa (m:Int)]).run P w= .ok (.slice (some ⟨g,0,none⟩) (n+m) cap) (w.setCells g (0+n*k) (de z.cells (m*k))):=by
    simp[l9,run_underlying al,run_underlying am,sizeOf,typeInfo,zeroValue,hi,ao,asInt,asIntOf,hw,I,aN,ak,aO,aP,Addr.add_lit,af];simp only[W6] at aj;rw[aj];simp;intro aQ;exact absurd aQ (by rw[af] at ak;exact ak)
   obtain⟨aR,ay⟩:=lj (de z.cells (m*k)) cs (0+n*k) w W;refine .of ag (ay.dc W) (an _ g _ ⟨by rw[o5];omega,.inr ⟨cap,_,rfl,aR,I,V,by rw[jR,ai],?_⟩⟩ (fun r ah=>.inl ?_) (ay.O.mono fun r _ he=>⟨_,_,_,rfl,he.symm⟩))
   ·rw[qu (by omega) av,kG (by rw[o8];omega),W6,List.take_take,List.drop_eq_nil_of_le (by rw[o8];omega),V9,Nat.min_eq_left (by omega),au]
   ·obtain⟨a,aL,c,U,V⟩:=ah;cases U;exact⟨_,_,_,rfl,V⟩
  ·refine grow _ cap rfl ?_ (by omega);have av:n*k≤cs.length:=by rw[ai];exact X0 _ U
   refine run_firstCells_some w.drew i.size n _ n cap xs (by rw[af];exact ap) fun j u hu=>?_;rw[U4,W6];have aw:=(x4.1 hu).1;rw[←au,Z6 (by omega)] at hu;exact W.cell hu
def gQ (c:Cell):List x1:=[.int .i64 c.v,.int .u64 (c.st:Int)]
def lK (o:jb):List x1:=[.int .i64 (o.i:Int),.int .i64 o.c.v,.int .u64 (o.c.st:Int)]
def lL (m:p2):List x1:=[.int .i64 (m.olds:Int),.int .i64 (m.cells:Int),.int .u64 (m.st:Int)]
def cV (w:x2) (ah:Nat) (A:ag) (t:aH):Prop:=A ah∧ ∃ J go O aG I cN,ae w ah eK [aG,I,cN,.int .u64 (t.kI:Int)]∧a1 gQ 2 dN w J aG t.cells∧a1 lK 3 iW w go I t.olds∧a1 lL 3 fb w O cN t.marks∧
 ∀ r,leadsTo aG r∨leadsTo I r∨leadsTo cN r→A r
theorem cV.O {S A:ag} {t:aH} (h:cV w ah A t) (J:ad S w w') (U:∀ r,A r→¬S r):cV w' ah A t:=by
 obtain⟨W,Y,go,aa,aG,ab,cN,h1,ac,ae,af,V⟩:=h;exact⟨W,Y,go,aa,aG,ab,cN,h1.O J (U _ W),ac.O J fun r I=>U r (V r (.inl I)),ae.O J fun r I=>U r (V r (.inr (.inl I))),af.O J fun r I=>U r (V r (.inr (.inr I))),V⟩
theorem cV.ext {A:ag} {t:aH} (h:cV w ah A t) (I:Ext w w'):cV w' ah A t:=h.O (I.O fun _=>False) fun _ _ h=>h
theorem cV.mono {A B:ag} {t:aH} (h:cV w ah A t) (I:∀ r,A r→B r):cV w ah B t:=by
 obtain⟨J,O,go,U,aG,V,cN,h1,W,Y,aa,ab⟩:=h;exact⟨I _ J,O,go,U,aG,V,cN,h1,W,Y,aa,fun r ac=>I r (ab r ac)⟩
def Grow (A:ag) (w:x2) (I:ag) (w':x2):Prop:=ad A w w'∧(∀ r,I r→A r∨w.heap.size≤r)∧ ∀ r,A r→I r
theorem Grow.refl (A:ag) (w:x2):Grow A w A w:=⟨ad.refl _ _,fun _ h=>.inl h,fun _ h=>h⟩
theorem Grow.ext {A:ag} (h:Ext w w'):Grow A w A w':=⟨h.O _,fun _ h=>.inl h,fun _ h=>h⟩
theorem Grow.trans {A J O:ag} {U:x2} (h:Grow A w J w') (k:Grow J w' O U):Grow A w O U:=
 ⟨⟨W7 h.1.size k.1.size,fun r o I V W=>k.1.ba r o (h.1.ba r o I V W) V fun Y=>(h.2.1 r Y).elim W fun aa=>by
  have:=(l7.1 I).1;omega⟩,fun r I=>by
  rcases k.2.1 r I with h1|h1
  ·exact h.2.1 r h1
  ·have:=h.1.size;exact .inr (by omega),fun r I=>k.2.2 r (h.2.2 r I)⟩
end Go.Proofs.YtgbkinibgjmodaaGreatDoor
