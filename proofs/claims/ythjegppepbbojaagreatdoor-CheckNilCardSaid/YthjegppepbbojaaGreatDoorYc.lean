/- own texts, made small by a tool (wip/ holds them as they were written): no statement of the seat. -/
import Derived.Test.YthjegppepbbojaaGreatDoorYb
set_option linter.unusedVariables false
set_option linter.unusedSimpArgs false
set_option linter.unnecessarySimpa false
open Array renaming getElem?_eq_some_iff→o7,getElem?_toList→U5
open BitVec renaming ofInt→V9
open Bool renaming not_true→Y0,not_false→Y9,eq_iff_iff→X8,and_eq_true→W0,or_eq_false_iff→U3
open Decidable renaming not_not→Z6
open Go renaming Value→y0,World→x1,TypeId→u9,IntKind→o4,Builtin→l6,Program→Y3,Oper→W9,Operand→U1
open Go.Addr renaming add_mid→W7
open Go.Builtin renaming append_→l9,len_→Y4
open Go.Instr renaming loadAt→x6,fieldAt→x8,storeAt→n0,indexAt→j9,extract→c9,buildSlice→b6,sliceAt→X4
open Go.IntKind renaming i64→X5,u64→W6
open Go.Proofs.Tryz renaming prog→x5
open Go.Result renaming andThen→Z9
open Go.Sem renaming run_bind→Z8,run_pure→Y5
open Go.Sort renaming Holds→U2
open Go.Value renaming int→X0
open Int renaming toNat_natCast→j6
open List renaming mem_of_getElem?→x2,getElem?_eq_some_iff→x3,getElem?_eq_getElem→x4,getElem?_map→x7,getD_eq_getElem?_getD→u4,take_add_one→u5,replicate→u6,length_append→u7,length_map→r8,mem_append→p8,mem_singleton→p9,take_length→o5,length_take→o6,mem_map→o8,eq_nil_of_length_eq_zero→o9,length_cons→n9,map_append→j4,getElem?_take_of_lt→c7,getElem?_eq_none→c8,take_of_length_le→Z0,range→Z1,getElem?_append_left→Z4,getElem?_append_right→Z7,drop_eq_getElem_cons→Y1,append_assoc→Y2,getElem?_set→Y6,ext_getElem?→Y7,append_nil→Y8,mem_iff_getElem?→X1,pairwise_iff_getElem→X6,length_set→X7,mem_or_eq_of_mem_set→W3,flatMap_cons→V1,length→V3,length_singleton→V5,length_eq_one_iff→V7,getElem?_set_self→V8,mem_cons→U4,getElem_mem→U6
open Nat renaming le_refl→r9,le_trans→Z3,zero_le→Z5,mul_le_mul_right→X2,sub_self→X9,add_mul→W8,zero_add→V0,mul_one→V2,beq→V6
open Option renaming some→l5,toList_some→j5,map_some→c5,isNone_some→c6,map_eq_some_iff→Z2,map→X3,getD_some→V4
open Option.some renaming injEq→b8,inj→b9
open Prod renaming mk→U7
open Prod.mk renaming injEq→W5
variable {w w':x1}{B E N gs j m n r:Nat}{a ai all l scope sizes t:List Int}{bv sv szv v:y0}{k o y:Int}{e:u9}{cs:List y0}{K:y0→x1→Prop}{clean:Bool}{S:Nat→Prop}
namespace Go.Proofs.YthjegppepbbojaaGreatDoor
open Go Go.Vc Go.RowKit Go.Proofs Go.Proofs.Tryz
set_option maxRecDepth 100000
set_option maxHeartbeats 2000000 in
theorem GM {aO ag:y0} {aA:x1→Prop} (aD:aa w E bt [aO,.slice none 0 0,.int .i64 0,.slice none 0 0]) (aG:ay .i64 w aO scope) (aR:∀ r,leads aO r→r≠E)
  (aS:ay .i64 w ag all) (aT:∀ r,leads ag r→r≠E) (ac:∀ v∈scope,0≤v∧v<all.length) (bh:scope.length≤100001)
  (aU:∀ w' szv gz,ad (fun r=>r=E) w w'→aa w' E bt [aO,szv,.int .i64 0,.slice none 0 0]→ak .i64 aj w' gz szv (scope.map fun v=>all.getD v.toNat 0)→w.heap.size≤gz→aA w'):
 bS (.int .i64 0) w fun ao Z k=>
  O x5 (ax .lss ab false false ao (.int .i64 (scope.length:Int))) Z fun aV=>
  Split aV (O x5 (j9 an aO ao) Z fun aW=>
  O x5 (x6 aj aW) Z fun aX=>
  du Z fun W=>
  O x5 (x8 bt (.pointer (some ⟨E,0,none⟩)) 1) W fun t39=>
  O x5 (x6 an t39) W fun aH=>
  O x5 (j9 an ag aX) W fun aZ=>
  O x5 (x6 aj aZ) W fun a2=>
  aw x5 (b6 an 1 #[(0,a2)]) W fun t45 ah=>
   (Ext W ah∨bR x5 (x6 an t39) aH ah∧bR x5 (x8 bt (.pointer (some ⟨E,0,none⟩)) 1) t39 ah∧True)∧
  aw x5 (l9 #[an,an] an #[aH,t45]) ah fun t46 aI=>
   O x5 (x8 bt (.pointer (some ⟨E,0,none⟩)) 1) aI fun a6=>
   aw x5 (n0 an a6 t46) aI fun(_:Unit) aJ=>
    O x5 (ax .add ab false true ao (.int .i64 1)) aJ fun a7=>
  k a7 aJ) (aA Z):=by
 have bi:=aD.lt;refine bS.range scope.length (fun i J=>ad (fun r=>r=E) w J∧ ∃ szv gz,aa J E bt [aO,szv,.int .i64 0,.slice none 0 0]∧ak .i64 aj J gz szv ((scope.take i).map fun v=>all.getD v.toNat 0)∧w.heap.size≤gz) aG.le ⟨ad.refl _ _,_,w.heap.size,aD,ak.nil _ _ _ _,r9 _⟩ ?_ ?_
 rotate_left
 ·rintro J a8 ⟨X,szv,gz,ai,al,aK⟩;rw[o5] at al;rw[aC,af];exact⟨fun h=>by omega,fun _=>aU J szv gz X ai al aK⟩
 rintro i J a8 hi ⟨X,szv,gz,ai,al,aK⟩ ba;obtain⟨v,ap⟩:=aE (l:=scope) hi;have bj:=ac v (x2 ap);have bb:all[v.toNat]? =some (all.getD v.toNat 0):=by
  rw[u4,x4 (by omega)];rfl
 have bc:ay .i64 J aO scope:=hQ aG X fun r am a n c aq au=>aR r ⟨a,n,c,aq,au⟩ am;have bd:ay .i64 J ag all:=hQ aS X fun r am a n c aq au=>aT r ⟨a,n,c,aq,au⟩ am;refine bC (by omega) ?_;rw[a1 an.u aj.i (by kernel_rfl) bc ap];intro V Y _ _;have bk:=X.size;have bl:=Y.size;rw[aP bt.p 1 (ai.ext Y) rfl];rw[fv (y:=v) (i:=v.toNat) (by omega) an.u aj.i (by kernel_rfl) (bd.ext Y) bb];refine dM an.u aj.i rfl fun a bm bn bo ae be=>?_;refine⟨.inl ae,?_⟩;have z3:=ae.size;refine hr an.u aj.i rfl ((al.ext Y).ext ae) be.ls (by simp;omega) (by simp;omega) fun aL aM bp bq av aN=>?_;rw[aF bt.p rfl];have bf:=((ai.ext Y).ext ae).U aN (fun he=>by have he:E=gz:=he;omega);refine aY (g:=E) (o:=1) an.i av.ls.cells.1 av.ls.cells.2 bf (by simp) fun bg aQ br az=>?_;have az:aa bg E bt [aO,aL,.int .i64 0,.slice none 0 0]:=az;rw[aB];refine ba _ ⟨(fL (X.trans ((Y.trans ae).U _)) aN fun r am he=>by have he:r=gz:=he;omega).trans aQ,aL,aM,az,?_,by omega⟩;rw[u5,ap,j5,j4];exact av.U aQ (fun _ he=>by have he:aM=E:=he;omega)
abbrev fP:Type:=Rd (List Int)×Rd (List Int)×Int×Rd (List (List Int×Int))
def fy (f:bG):fP:=(f.scope,f.sizes,f.other,f.lines)
theorem ym {R:am} {aO bw:y0} {sc E:List Int} {l:List (List Int×Int)} (h1:au.rep (α:=List Int) false bd R w [aO] sc) (J:au.rep (α:=List Int) false bd R w [szv] E) (O:au.rep (α:=List (List Int×Int)) false bd R w [bw] l):
  Seen R w [aO,szv,.int .i64 o,bw] ((sc,E,o,l):fP):=
 ⟨[aO],[szv,.int .i64 o,bw],bd,bd,rfl,fun _ h=>h,fun _ h=>h,fun _ _ h _=>h,h1,[szv],[.int .i64 o,bw],bd,bd,rfl,fun _ h=>h,fun _ h=>h,fun _ _ h _=>h,J,[.int .i64 o],[bw],bd,bd,rfl,fun _ h=>h,fun _ h=>h,fun _ _ h _=>h,rfl,O⟩
theorem n1 {R:am} {g:Nat} (h:ak .i64 e w g v l) (U:∀ r,leads v r→R r):au.rep (α:=List Int) false bd R w [v] l:=by
 have h1:dp (fun r=>r=g) bd w [v] l:=mf h;obtain⟨vs,V,F,ad,he,W,hm⟩:=kq h1;refine⟨v,rfl,vs,V,fun _ _=>False,⟨fun _ _ h=>h,fun h=>(by cases h),fun h=>by cases h⟩,⟨he.1,fun i c a X Y=>?_⟩,?_,fun h=>by cases h⟩
 ·exact he.2 i c a X Y
 ·obtain⟨E,b,o,base,cap,rfl,Z,aa,J,ae,ab⟩:=W;refine⟨E,b,o,base,cap,rfl,Z,aa,J,fun O=>.inr (U b ?_),ab⟩;have ac:0<l.length:=by
   rw[E] at O;rcases Nat.eq_zero_or_pos l.length with h|h
   ·rw[h,Nat.zero_mul] at O;omega
   ·exact h
  exact⟨⟨b,o,none⟩,l.length,cap,by rw[J ac],rfl⟩
theorem yn {α:Type} [au α] {R R':am} {a:α} (h:Seen R w cs a) (E:∀ r,r<w.heap.size→R r→R' r):Seen R' w cs a:=au.mono h (fun _ _ h=>h) E
theorem yo {U:Nat} (J:cs.length=4) (h1:∀ v∈cs,v.oneCell'=true) (X:aa w U bt cs) {V:List y0} (Y:V.length=4) (Z:aa w E bt V)
  (ab:∀ w',ad (fun r=>r=E) w w'→K (.agg cs.toArray) w'):
  O x5 (x6 bt (.pointer (some ⟨U,0,none⟩))) w fun ac=>
  aw x5 (n0 bt (.pointer (some ⟨E,0,none⟩)) ac) w fun(_:Unit) W=>
  O x5 (do loadVar bt (←asAddr (.pointer (some ⟨E,0,none⟩)))) W fun ae=>K ae W:=by
 rw[bn bt.p bt.i J X.range];refine bP bt.i J Y h1 Z fun w' af _ ag=>?_;rw[eO bt.p bt.i J ag.range];exact ab w' af
theorem yp {s s':aq} {l:List (List Int×Int)} (h:cR sizes s=some (l,s')):s'.shared=s.shared∧s'.toks.length≤s.toks.length:=by
 unfold cR at h;cases J:aS (-ah) ah s with
 |none=>rw[J] at h;cases h
 |some q=>
  obtain⟨n,E⟩:=q;rw[J] at h;simp only at h;have h1:=cB J;obtain⟨X,Y,O⟩:=h1.eqs;split at h
  ·cases U:E.shared[(-n-1).toNat]? with
   |none=>rw[U] at h;cases h
   |some q=>
    obtain⟨z,l'⟩:=q;rw[U] at h;simp only at h;split at h
    ·simp only[b8,W5] at h;obtain⟨rfl,rfl⟩:=h;exact⟨O,by have:=h1.1;omega⟩
    ·cases h
  ·have:=gM (f:=dd sizes) (fun acc t=>t.shared=s.shared∧t.toks.length≤s.toks.length) (fun acc t a Z ⟨W,aa⟩ g=>by
    obtain⟨ab,ac,ad,V⟩:=lj g;obtain⟨f1,f2,f3⟩:=V.eqs;exact⟨by rw[f3,W],by have:=V.1;omega⟩) n.toNat [] (aM (decide (16384<min (E.told+n) ah)) {E with told:=min (E.told+n) ah}) l s' ⟨O,by have:=h1.1;show E.toks.length≤_;omega⟩ h
   exact this.1
set_option maxHeartbeats 8000000 in
theorem GN {g:Nat} {A B:am} {s:aq} {a2:y0} (h:cE w g gs A B s clean) (hi:de s) (b6:ay .i64 w a2 all) (bF:∀ r,leads a2 r→¬bf g gs A r∧r<w.heap.size)
  (cL:∀ z∈all,1≤z∧z≤ah) (dK:all.length≤100001) (cM:en w) (h1:bW g gs A B 1):
  ag x5 vn [.pointer (some ⟨g,0,none⟩),a2] w fun v w'=>∃ ab aA cs,∃ b7:fP,v= .agg cs.toArray∧cs.length=4∧ad (bf g gs A) w w'∧(∀ r,ab r→A r∨w.heap.size≤r)∧(∀ r,aA r→(B r∨w.heap.size≤r)∧r<w'.heap.size)∧(∀ r,B r→aA r)∧fx w' g gs ab aA clean ((ck all s).map (·.2))∧
   Seen (bW g gs ab aA) w' cs b7∧ ∀ q,ck all s=some q→b7=fy q.1:=by
 have cN:=h.1;obtain⟨dL,dM,bH,cO,aB⟩:=id cN;have gT:∀ r,bf g gs A r→r<w.heap.size:=cO;have dO:ah=4611686018427387904:=rfl;have dP:s.shared.length+s.toks.length≤100000:=h.2.2.1.2.2;refine ap func91 ?_;refine bg bt.i fun W cP dQ bI bj=>?_;have bj:aa cP W bt [.slice none 0 0,.slice none 0 0,.int .i64 0,.slice none 0 0]:=bj;have dR:=bI.size;have dS:=bj.lt;have al:¬bf g gs A W:=fun O=>by have:=gT _ O;omega
 refine (sw (lo:=-ah) (hi:=ah) (h.ext bI)).mono ?_;rintro _ V _ ⟨aE,a,at_,rfl,b8,cQ⟩;obtain⟨bK,bL⟩:=aE.of;have dT:=bK.size;rw[a8,ba,aC,jJ];have dU: -ah≤a∧a≤ah:=by
  cases X:aS (-ah) ah s with
  |none=>rw[cQ X];unfold ah;omega
  |some q=>rw[b8 q X];exact (fW (n:=q.1) (s':=q.2) X).1
 rw[wrap_i64 (by omega) (by omega),rS,show max a (0-a)=((a.natAbs:Nat):Int) by omega];have b9:ad (bf g gs A) w V:=(bI.U _).trans bK;have cS:ay .i64 V a2 all:=hQ b6 b9 fun r E a n c ac bM=>(bF r ⟨a,n,c,ac,bM⟩).1 E;rw[aK an.u cS];refine (GK (k:=a.natAbs) (m:=(all.length:Int)) bL (by omega) (by omega)).mono ?_;rintro aO dV _ ⟨aE,gr,scope,a6,cT,dW,cU⟩;obtain⟨bN,cV⟩:=aE.of;have z3:=bN.size;rw[ct (cs:=#[aO,.slice none 0 0,.int .i64 0,.slice none 0 0]) (by obtain⟨_,_,_,_,_,rfl,_⟩:=a6.ls;kernel_rfl)];refine bg bt.i fun J cW dX a7 bk=>?_;have bk:aa cW J bt [.slice none 0 0,.slice none 0 0,.int .i64 0,.slice none 0 0]:=bk;have z4:=a7.size;have dY:=bk.lt;have bO:=a6.ls.cells;refine bP (vs:=[aO,.slice none 0 0,.int .i64 0,.slice none 0 0]) bt.i rfl rfl (by intro v ac;simp at ac;rcases ac with rfl|rfl|rfl|rfl <;> first|exact bO.2|rfl) bk fun bl bb dZ cY=>?_;have aR:¬bf g gs A J:=fun O=>by have:=gT _ O;omega
 have cb:cK bl g gs A B clean ((nZ all.length a.natAbs ((aS (-ah) ah s).map (·.2))).map (·.2)):=(cV.ext a7).U bb (fun r E he=>by have he:r=J:=he;exact aR (he▸E)) (fun r E he=>by have:=aB r E.2;have he:r=J:=he;omega);have cc:ad (bf g gs A) w bl:=fL ((b9.trans bN).trans (a7.U _)) bb fun r E he=>by have he:r=J:=he;omega
 have cZ:aa bl W bt [.slice none 0 0,.slice none 0 0,.int .i64 0,.slice none 0 0]:=(((bj.U bK al).U bN al).ext a7).U bb (fun he=>by have he:W=J:=he;omega);have c0:ak .i64 aj bl gr aO scope:=aZ (a6.ext a7) bb fun r E he=>by
  obtain⟨c1,bL⟩:=bp a6 E;have he:r=J:=he;omega
 refine (mE cb).mono ?_;rintro _ bm _ ⟨rfl,aG⟩;have aT:=cb.ext aG;have bc:=c0.ext aG;have bQ:=cY.ext aG;have cd:=cZ.ext aG;have ea:=aG.size;have z5:=bb.size;have ax:∀ r,leads aO r→V.heap.size≤r∧r≠J∧r≠W:=fun r E=>by
  obtain⟨c1,bL⟩:=bp a6 E;have:=cT r E;exact⟨this,by omega,by omega⟩
 have ai:ck all s=match nZ all.length a.natAbs ((aS (-ah) ah s).map (·.2)) with
   |none=>none
   |some (sc,Z)=>(gP (sc.map fun v=>all.getD v.toNat 0) ((aQ 0 ah (some (aM (decide (6<a.natAbs)||cI (sc.map fun v=>all.getD v.toNat 0)) Z))).map (·.2))).map fun q=>((⟨sc,sc.map fun v=>all.getD v.toNat 0,((aS 0 ah (aM (decide (6<a.natAbs)||cI (sc.map fun v=>all.getD v.toNat 0)) Z)).map (·.1)).getD 0,q.1⟩:bG),if a<0 then qg (sc.map fun v=>all.getD v.toNat 0) q.1 q.2 else q.2):=by
  unfold ck;cases X:aS (-ah) ah s with
  |none=>rfl
  |some q=>
   obtain⟨a',aD⟩:=q;have:=b8 _ X;subst this;simp only;show _=match dN all.length a.natAbs aD with
    |none=>none
    |some (sc,Z)=>_
   cases dN all.length a.natAbs aD with
   |none=>rfl
   |some q=>
    obtain⟨sc,Z⟩:=q;simp only;show _=X3 _ (gP _ ((aS 0 ah _).map (·.2)));cases aS 0 ah (aM (decide (6<a.natAbs)||cI (sc.map fun v=>all.getD v.toNat 0)) Z) with
    |none=>rfl
    |some q=>
     obtain⟨o,Y⟩:=q;simp only;show _=X3 _ (cR _ Y);cases cR (sc.map fun v=>all.getD v.toNat 0) Y with
     |none=>rfl
     |some q=>rfl
 rw[bJ,ca];cases aH:nZ all.length a.natAbs ((aS (-ah) ah s).map (·.2)) with
 |none=>
  rw[aH] at aT ai;simp only at ai;refine⟨fun _=>?_,fun h=>by simp at h⟩;refine yo rfl (by intro v ac;simp at ac;rcases ac with rfl|rfl|rfl|rfl <;> first|exact bO.2|rfl) bQ rfl cd fun aI ao=>?_;have c2:=ao.size;refine⟨A,fun r=>(B r∨w.heap.size≤r)∧r<aI.heap.size,_,(scope,[],0,[]),rfl,rfl,fL (cc.trans (aG.U _)) ao fun r E he=>by have he:r=W:=he;omega,fun r E=>.inl E,fun r E=>E,fun r E=>⟨.inl E,by have:=aB r E;omega⟩,?_,?_,fun q X=>by rw[ai] at X;cases X⟩
  ·rw[ai];have c3:fx aI g gs A B clean (X3 (fun x=>x.2) (none:Option (List Int×aq))):=aT.q.U ao (fun he=>by have:=gT g (.inl rfl);have he:g=W:=he;omega) (fun r E _ he=>by have he:r=W:=he;exact al (he▸E)) (fun r E he=>by have:=aB r E.2;have he:r=W:=he;omega);exact c3
  ·refine ym (n1 (aZ bc ao fun r E he=>(ax r E).2.2 he) fun r E=>?_) iY iY;have av:=ax r E;have aU:=(bp bc E);exact⟨fun O=>by have:=gT _ O;omega,.inr (by omega),by omega⟩
 |some q=>
  obtain⟨sc,Z⟩:=q;have:=cU _ aH;subst this;rw[aH] at aT ai;simp only at ai;refine⟨fun h=>by simp at h,fun _=>?_⟩;have aT:cE bm g gs A B Z clean:=aT;obtain⟨aD,c4,c6⟩:∃ aD,(aS (-ah) ah s).map (·.2)=some aD∧dN all.length a.natAbs aD=some (scope,Z):=by
   cases X:(aS (-ah) ah s).map (·.2) with
   |none=>rw[X] at aH;cases aH
   |some aD=>rw[X] at aH;exact⟨aD,rfl,aH⟩
  obtain⟨ce,c7,rfl⟩:=Z2.1 c4;have cg:=cB (n:=ce.1) (s':=ce.2) c7;obtain⟨ch,eb,ec,ci⟩:=pW c6;have bR:=cg.eqs;have bS:=ch.eqs;have c8:de Z:=fun az=>by rw[bS.1,bR.1];rw[bS.2.1,bR.2.1] at az;exact hi az
  have c9:Z.shared.length+1+Z.toks.length≤100000:=by rw[bS.2.2,bR.2.2];have:=cg.1;have:=ch.1;omega
  generalize bT:(scope.map fun v=>all.getD v.toNat 0)=sizes at ai;have cj:∀ z∈sizes,1≤z∧z≤ah:=fun z bn=>by
   rw[←bT] at bn;obtain⟨v,ac,rfl⟩:=o8.1 bn;have:=ci v ac;refine cL _ ?_;rw[u4,x4 (by omega)];exact U6 _
  have ed:sizes.length=scope.length:=by rw[←bT,r8]
  have cl:ad (bf g gs A) w bm:=cc.trans (aG.U _);have da:ay .i64 bm a2 all:=hQ b6 cl fun r E a n c ac bM=>(bF r ⟨a,n,c,ac,bM⟩).1 E;rw[aP bt.p 0 bQ rfl,aK an.u bc.ls];refine GM bQ bc.ls (fun r E=>(ax r E).2.1) da (fun r E=>by have:=(bF r E).2;omega) ci (by omega) fun aI szv gz ao cm bo ee=>?_;rw[bT] at bo;have c2:=ao.size;have bU:∀ r,bW g gs A B r→¬(fun r=>r=J) r:=fun r E he=>by have:=aB r E.2;have he:r=J:=he;omega
  have bV:∀ r,bf g gs A r→¬(fun r=>r=J) r:=fun r E he=>by have he:r=J:=he;exact aR (he▸E)
  have cn:=aT.U ao bV bU;have db:ad (bf g gs A) w aI:=fL cl ao fun r E he=>by have he:r=J:=he;omega
  refine cX (fun bq=>ad (bf g gs A) aI bq∧cE bq g gs A B (aM (decide (6<a.natAbs)||cI sizes) Z) clean) ?_ ?_
  rotate_left
  ·intro dd be;rw[br,af];refine⟨fun ef=>?_,fun eg=>?_⟩
   ·refine (p1 cn).mono ?_;rintro _ df _ ⟨dg,dh⟩;refine be _ ⟨dg.mono fun r _ h=>.inl h,?_⟩;rw[decide_eq_true (by omega),Bool.true_or];exact dh
   ·rw[aP bt.p 1 cm rfl];refine (xt bo.ls fun z bn=>(cj z bn).1).mono ?_;rintro _ df _ ⟨rfl,cp⟩;refine (p1 (cn.ext cp)).mono ?_;rintro _ eh _ ⟨di,dj⟩;refine be _ ⟨(cp.U _).trans (di.mono fun r _ h=>.inl h),?_⟩;rw[decide_eq_false (by omega),Bool.false_or];exact dj
  rintro bq ⟨bu,bx⟩;have ei:=bu.size;generalize bH:aM (decide (6<a.natAbs)||cI sizes) Z=Y at ai bx;have dk:de Y:=fun az=>by
   subst bH;have az:(Z.big||_)=false:=az;exact c8 (U3.1 az).1
  have ej:Y.shared.length+1+Y.toks.length≤100000:=by subst bH;exact c9
  have bx:cK bq g gs A B clean (some Y):=bx;refine (jP (lo:=0) (hi:=ah) bx).mono ?_;rintro _ cq _ ⟨aE,o,ek,rfl,dl,em⟩;obtain⟨bz,dm⟩:=aE.of;have eo:=bz.size;rw[a8,ba,aF bt.p rfl];have dn:=(cm.U bu aR).U bz aR;refine aY (g:=J) (o:=2) aj.i rfl rfl dn (by simp) fun bA aV ep bB=>?_;have bB:aa bA J bt [aO,szv,.int .i64 o,.slice none 0 0]:=bB;rw[aP bt.p 1 bB rfl];have dp:=dm.U aV bV bU;have bX:ad (bf g gs A) aI cq:=bu.trans bz;have dq:ad (bf g gs A) w cq:=db.trans bX;have cr:ad (bf g gs A) w bA:=fL dq aV fun r E he=>by have he:r=J:=he;omega
  have aJ:∀ r,leads szv r→bm.heap.size≤r∧r<aI.heap.size:=fun r E=>by have:=bp bo E;omega
  have cu:ak .i64 aj bA gz szv sizes:=aZ (aZ bo bX fun r E O=>by have:=gT _ O;have:=aJ r E;omega) aV fun r E he=>by have he:r=J:=he;have:=aJ r E;omega
  have dr:ak .i64 aj bA gr aO scope:=aZ (aZ (aZ bc ao fun r E he=>(ax r E).2.1 he) bX fun r E O=>by have:=gT _ O;have:=ax r E;omega) aV fun r E he=>(ax r E).2.1 he;have er:=aV.size;refine (GJ dp (fun t bY=>?_) cu.ls (fun r E=>⟨fun O=>by have:=gT _ O;have:=aJ r E;omega,by have:=aJ r E;omega⟩) cj (by omega) (cM.U cr h1.1) h1).mono ?_
  ·obtain⟨q,X,rfl⟩:=Z2.1 bY;have cw:=(cB (n:=q.1) (s':=q.2) X).eqs;intro az;rw[cw.1];rw[cw.2.1] at az;exact dk az
  rintro bw ds _ ⟨aE,l,bZ,cz⟩;obtain⟨aW,dt⟩:=aE.of;have es:=aW.size;have b1:bw.cells= #[bw]∧bw.oneCell'=true:=⟨pA bZ,rV bZ⟩;rw[aF bt.p rfl];have du:=bB.U aW aR;refine aY (g:=J) (o:=3) gH.i b1.1 b1.2 du (by simp) fun ae aL et bC=>?_;have bC:aa ae J bt [aO,szv,.int .i64 o,bw]:=bC;have eu:=aL.size;have cA:=dt.U aL bV bU;have dv:ad (bf g gs A) w ds:=cr.trans aW;have dw:ad (bf g gs A) w ae:=fL dv aL fun r E he=>by have he:r=J:=he;omega
  have cC:ak .i64 aj ae gr aO scope:=aZ (aZ dr aW fun r E O=>by have:=gT _ O;have:=ax r E;omega) aL fun r E he=>(ax r E).2.1 he;have bD:ak .i64 aj ae gz szv sizes:=aZ (aZ cu aW fun r E O=>by have:=gT _ O;have:=aJ r E;omega) aL fun r E he=>by have he:r=J:=he;have:=aJ r E;omega
  have dx:aa ae W bt [.slice none 0 0,.slice none 0 0,.int .i64 0,.slice none 0 0]:=((((((cd.U ao (fun he=>by have he:W=J:=he;omega)).U bu al).U bz al).U aV (fun he=>by have he:W=J:=he;omega)).U aW al).U aL (fun he=>by have he:W=J:=he;omega));let aw:am:=fun r=>(B r∨w.heap.size≤r)∧r<ae.heap.size;have cD:au.rep (α:=List (List Int×Int)) false bd (fun r=>bW g gs A aw r∧r≠J∧r≠W) ae [bw] l:=by
   refine yn (au.U bZ aL fun r E h he=>?_) fun r E h=>?_
   ·have he:r=J:=he;rcases h with h|h
    ·exact h
    ·rcases h with h|h
     ·have:=aB r h.2;omega
     ·omega
   ·rcases h with h|h
    ·have:=aB r h.2;exact⟨⟨h.1,.inl h.2,E⟩,by omega,by omega⟩
    ·exact⟨⟨fun O=>by have:=gT _ O;omega,.inr (by omega),E⟩,by omega,by omega⟩
  have dy:∀ r,leads aO r→bW g gs A aw r∧r≠J∧r≠W:=fun r E=>by
   have av:=ax r E;have aU:=(bp cC E);exact⟨⟨fun O=>by have:=gT _ O;omega,.inr (by omega),by omega⟩,av.2⟩
  have cF:∀ r,leads szv r→bW g gs A aw r∧r≠J∧r≠W:=fun r E=>by
   have av:=aJ r E;have aU:=(bp bD E);exact⟨⟨fun O=>by have:=gT _ O;omega,.inr (by omega),by omega⟩,by omega,by omega⟩
  have dz:Seen (fun r=>bW g gs A aw r∧r≠J∧r≠W) ae [aO,szv,.int .i64 o,bw] ((scope,sizes,o,l):fP):=ym (n1 cC dy) (n1 bD cF) cD;have dA:∀ q,ck all s=some q→((scope,sizes,o,l):fP)=fy q.1:=fun q X=>by
   rw[ai] at X;obtain⟨ev,b2,rfl⟩:=Z2.1 X;have av:=cz _ b2;cases aX:aS 0 ah Y with
   |none=>have e:aQ 0 ah (some Y)=none:=aX;rw[e] at b2;cases b2
   |some aN=>
    have aU:=dl aN aX;rw[av,aU];rfl
  have dC:∀ v∈[aO,szv,X0 .i64 o,bw],v.oneCell'=true:=by
   intro v ac;simp at ac;rcases ac with rfl|rfl|rfl|rfl
   ·exact bO.2
   ·exact bD.ls.cells.2
   ·rfl
   ·exact b1.2
  have cG:∀ r,bW g gs A B r→bW g gs A aw r∧r≠J∧r≠W:=fun r E=>by
   have:=aB r E.2;exact⟨⟨E.1,.inl E.2,by omega⟩,by omega,by omega⟩
  refine cX (fun b3=>∃ ab,ad (bf g gs A) ae b3∧(∀ r,ab r→A r∨ae.heap.size≤r)∧ ∃ aA,jg b3 g gs ab aA (fun r=>bW g gs A aw r∧r≠J∧r≠W) clean ((ck all s).map (·.2))) ?_ ?_
  ·rintro b3 ⟨ab,bh,bi,aA,dD⟩;have ew:=bh.size;refine yo rfl dC (bC.U bh aR) rfl (dx.U bh al) fun b4 bE=>?_;have ey:=bE.size;have cH:∀ r,bf g gs ab r→¬(fun r=>r=W) r:=fun r E he=>by
    have he:r=W:=he;subst he;rcases E with E|E|E
    ·exact al (.inl E)
    ·exact al (.inr (.inl E))
    ·rcases bi _ E with E|E
     ·exact al (.inr (.inr E))
     ·omega
   have cJ:∀ r,(bW g gs A aw r∧r≠J∧r≠W)→bW g gs ab (fun r=>(B r∨w.heap.size≤r)∧r<b4.heap.size∧(r<ae.heap.size∨B r)) r:=fun r h=>⟨fun O=>h.1.1 (O.imp id (Or.imp id fun O=>(bi r O).elim id fun h'=>by have:=h.1.2.2;omega)),h.1.2.1,by have:=h.1.2.2;omega,.inl h.1.2.2⟩;have dE:jg b4 g gs ab aA (fun r=>bW g gs A aw r∧r≠J∧r≠W) clean ((ck all s).map (·.2)):=dD.U bE (cH g (.inl rfl)) (fun r E _=>cH r E) (fun r E=>E.2.2);refine⟨ab,fun r=>(B r∨w.heap.size≤r)∧r<b4.heap.size∧(r<ae.heap.size∨B r),_,(scope,sizes,o,l),rfl,rfl,fL (dw.trans bh) bE fun r E he=>by have he:r=W:=he;omega,fun r E=>(bi r E).imp id fun h=>by omega,fun r E=>⟨E.1,E.2.1⟩,fun r E=>⟨.inl E,by have:=aB r E;omega,.inr E⟩,dE.out cJ fun r E=>E.2.1,?_,dA⟩;refine yn (au.U (au.U dz bh fun r _ h O=>?_) bE fun r _ h he=>?_) fun r _ h=>cJ r h
   ·rcases h with h|h
    ·exact h
    ·exact h.1.1 O
   ·rcases h with h|h
    ·exact h
    ·exact h.2.2 he
  ·intro dd be;rw[af];refine⟨fun dF=>?_,fun dG=>?_⟩
   ·intro b5 a1 _ _;have ez:=a1.size;have dH:∀ r,(bW g gs A aw r∧r≠J∧r≠W)→bW g gs A (mF b5.heap.size) r:=fun r h=>⟨h.1.1,by have:=h.1.2.2;show r<b5.heap.size;omega⟩;refine GL (R:=fun r=>bW g gs A aw r∧r≠J∧r≠W) (z:=sizes) (l:=l) (cA.ext a1) cG dH (fun t bY=>?_) (bC.ext a1) (n1 (bD.ext a1) cF) (dc cD a1) fun eA ab dI bi dJ=>?_
    ·obtain⟨q,X,rfl⟩:=Z2.1 bY;cases aX:aS 0 ah Y with
     |none=>have e:aQ 0 ah (some Y)=none:=aX;rw[e] at X;cases X
     |some aN=>
      have e:aQ 0 ah (some Y)=some aN:=aX;rw[e] at X;have h1:q.2.shared=aN.2.shared∧q.2.toks.length≤aN.2.toks.length:=yp (l:=q.1) (s':=q.2) X;have av:=cB (n:=aN.1) (s':=aN.2) aX;have aU:=av.eqs.2.2;have eB:=av.1;rw[h1.1,aU];have:=h1.2;omega
    ·refine be _ ⟨ab,(a1.U _).trans dI,fun r E=>(bi r E).imp id fun h=>by omega,mF b5.heap.size,?_⟩;have e:(ck all s).map (·.2)=((gP sizes ((aQ 0 ah (some Y)).map (·.2))).map (·.2)).map (qg sizes l):=by
      rw[ai];cases X:gP sizes ((aQ 0 ah (some Y)).map (·.2)) with
      |none=>rfl
      |some q=>
       have av:=cz _ X;simp only[c5,if_pos dF,av]
     rw[e];exact dJ
   ·refine be _ ⟨A,ad.refl _ _,fun r E=>.inl E,B,?_⟩;have e:(ck all s).map (·.2)=(gP sizes ((aQ 0 ah (some Y)).map (·.2))).map (·.2):=by
     rw[ai];cases X:gP sizes ((aQ 0 ah (some Y)).map (·.2)) with
     |none=>rfl
     |some q=>simp only[c5,if_neg dG]
    rw[e];exact cA.qr cG
def ir (l:List Int):Prop:=∀ v∈l,0≤v∧v<64
theorem n2 (h:ir l) {v:Int}:v∈aW l↔v∈l:=by
 unfold aW;rw[List.mem_filter,decide_eq_true_eq];refine⟨fun h=>h.2,fun ac=>⟨?_,ac⟩⟩;obtain⟨h1,E⟩:=h v ac;exact o8.2 ⟨v.toNat,List.mem_range.2 (by omega),by omega⟩
theorem GO (l:List Int):ir (aW l):=fun v ac=>by
 obtain⟨n,E,rfl⟩:=o8.1 (List.mem_filter.1 ac).1;have:=List.mem_range.1 E;omega
theorem sO (l:List Int):(aW l).Pairwise (·< ·):=by
 unfold aW;refine List.Pairwise.filter _ ?_;rw[List.pairwise_map];exact List.pairwise_lt_range.imp fun h=>by omega
theorem yq (l:List Int):(aW l).Nodup:=(sO l).imp fun h=>by omega
where
 nodup_le' {a b:List Int} (h:a.Nodup) (hs:∀ x∈a,x∈b):a.length≤b.length:=by
  induction a generalizing b with
  |nil=>exact Z5 _
  |cons x a ih=>
   have h':=List.nodup_cons.1 h;have J:=hs x (.head _);have:=ih (b:=b.erase x) h'.2 fun y hy=>(List.mem_erase_of_ne (fun(he:y=x)=>h'.1 (by rw[←he];exact hy))).2 (hs y (.tail _ hy));rw[List.length_erase_of_mem J] at this;have:=List.length_pos_of_mem J;rw[n9];omega
theorem yr (n:Nat):(0:Int)<64 ^ n:=Int.pow_pos (by omega)
theorem qh:∀ (l:List Int),ir l→0≤hx l∧hx l<64 ^ l.length
 |[],_=>by simp[hx]
 |x::l,h=>by
  have O:=qh l fun y E=>h y (.tail _ E);have J:=h x (.head _);have U:=yr l.length;simp only[hx,n9];have e:(64:Int) ^ (l.length+1)=64*64 ^ l.length:=by rw[Int.pow_succ,Int.mul_comm]
  have h1:x*64 ^ l.length≤63*64 ^ l.length:=Int.mul_le_mul_of_nonneg_right (by omega) (by omega);have V:0≤x*64 ^ l.length:=Int.mul_nonneg J.1 (by omega);rw[e];omega
def eR:List Int→List Int→Int
 |x::a,y::b=>if x<y then-1 else if y<x then 1 else eR a b
 |[],[]=>0
 |[],_::_=>-1
 |_::_,[]=>1
theorem ys:∀ (a b:List Int),a.length=b.length→ir a→ir b→(eR a b<0↔hx a<hx b)∧(eR a b=0↔a=b)∧(hx a=hx b→a=b)
 |[],[],_,_,_=>by simp[eR]
 |[],_::_,h,_,_=>by simp at h
 |_::_,[],h,_,_=>by simp at h
 |x::a,y::b,h,X,Y=>by
  have U:a.length=b.length:=by simpa using h
  have V:ir a:=fun z E=>X z (.tail _ E);have W:ir b:=fun z E=>Y z (.tail _ E);have J:=ys a b U V W;have Z:=qh a V;have ab:=qh b W;have ac:=yr b.length;simp only[eR,hx];rw[U] at Z ⊢;have step:∀ u v:Int,u<v→u*64 ^ b.length+64 ^ b.length≤v*64 ^ b.length:=fun u v ad=>by
   have:=Int.mul_le_mul_of_nonneg_right (show u+1≤v by omega) (show (0:Int)≤64 ^ b.length by omega);rw[Int.add_mul,Int.one_mul] at this;exact this
  by_cases h1:x<y
  ·rw[if_pos h1];have:=step x y h1;exact⟨⟨fun _=>by omega,fun _=>by omega⟩,⟨fun h=>by omega,fun h=>by have:=(List.cons.inj h).1;omega⟩,fun h=>by omega⟩
  ·rw[if_neg h1];by_cases O:y<x
   ·rw[if_pos O];have:=step y x O;exact⟨⟨fun h=>by omega,fun h=>by omega⟩,⟨fun h=>by omega,fun h=>by have:=(List.cons.inj h).1;omega⟩,fun h=>by omega⟩
   ·rw[if_neg O];have aa:x=y:=by omega
    subst aa;exact⟨J.1.trans ⟨fun h=>by omega,fun h=>by omega⟩,J.2.1.trans ⟨fun h=>by rw[h],fun h=>(List.cons.inj h).2⟩,fun h=>by rw[J.2.2 (by omega)]⟩
def hZ (l:List Int):Prop:=ir l∧l.length≤6
theorem yt (h:hZ l):0≤hx l∧hx l<64 ^ 6:=by
 have:=qh l h.1;have J:(64:Int) ^ l.length≤64 ^ 6:=by
  have E:=h.2
  match l.length,E with
  |0,_=>decide
  |1,_=>decide
  |2,_=>decide
  |3,_=>decide
  |4,_=>decide
  |5,_=>decide
  |6,_=>decide
  |n+7,h=>omega
 omega
theorem sP {b:List Int} (J:hZ a) (O:hZ b):(cw a<cw b↔a.length<b.length∨(a.length=b.length∧eR a b<0))∧(cw a=cw b→a=b):=by
 have h1:=yt J;have U:=yt O;have e:(64:Int) ^ 6=68719476736:=by decide
 rw[e] at h1 U;unfold cw;rw[e];by_cases E:a.length=b.length
 ·have:=ys a b E J.1 O.1;rw[E];exact⟨⟨fun h=>.inr ⟨rfl,this.1.2 (by omega)⟩,fun h=>by
   rcases h with h|⟨_,h⟩
   ·omega
   ·have:=this.1.1 h;omega⟩,fun h=>this.2.2 (by omega)⟩
 ·exact⟨⟨fun h=>.inl (by omega),fun h=>by
   rcases h with h|⟨h,_⟩
   ·omega
   ·exact absurd h E⟩,fun h=>by omega⟩
theorem qi (g:b1):∀ l:List b1,(fN g l).Perm (g::l)
 |[]=>List.Perm.refl _
 |h::l=>by
  unfold fN;split
  ·exact ((qi g l).cons h).trans (List.Perm.swap g h l)
  ·exact List.Perm.refl _
theorem yu {g:b1}:∀ {l:List b1},l.Pairwise (fun a b=>cw a.1<cw b.1)→(∀ h∈l,cw h.1≠cw g.1)→(fN g l).Pairwise (fun a b=>cw a.1<cw b.1)
 |[],_,_=>by simp[fN]
 |h::l,O,U=>by
  have E:=List.pairwise_cons.1 O;unfold fN;split
  ·rename_i V;refine List.pairwise_cons.2 ⟨fun x J=>?_,yu E.2 fun x J=>U x (.tail _ J)⟩;rcases U4.1 ((qi g l).mem_iff.1 J) with rfl|J
   ·exact V
   ·exact E.1 x J
  ·rename_i W;have:=U h (.head _);refine List.pairwise_cons.2 ⟨fun x J=>?_,O⟩;rcases U4.1 J with rfl|J
   ·omega
   ·have:=E.1 x J;omega
theorem yv:∀ (l acc:List b1),acc.Pairwise (fun a b=>cw a.1<cw b.1)→l.Pairwise (fun a b=>cw a.1≠cw b.1)→(∀ a∈acc,∀ b∈l,cw a.1≠cw b.1)→
  (l.foldl (fun l g=>fN g l) acc).Pairwise (fun a b=>cw a.1<cw b.1)∧(l.foldl (fun l g=>fN g l) acc).Perm (acc++l)
 |[],acc,h,_,_=>⟨h,by simp⟩
 |g::l,acc,h,V,J=>by
  have O:=List.pairwise_cons.1 V;have:=yv l (fN g acc) (yu h fun a E=>J a E g (.head _)) O.2 fun a E b U=>by
   rcases U4.1 ((qi g acc).mem_iff.1 E) with rfl|E
   ·exact O.1 b U
   ·exact J a E b (.tail _ U)
  refine⟨this.1,this.2.trans ?_⟩;exact ((qi g acc).append_right l).trans (List.perm_middle (a:=g) (l₁:=acc) (l₂:=l)).symm
theorem sQ {α:Type} {f:α→Int}:∀ {L M:List α},L.Pairwise (fun a b=>f a<f b)→M.Pairwise (fun a b=>f a<f b)→(∀ x,x∈L↔x∈M)→L=M
 |[],M,_,_,h=>by
  cases M with
  |nil=>rfl
  |cons y M=>exact absurd ((h y).2 (.head _)) (by simp)
 |x::L,[],_,_,h=>absurd ((h x).1 (.head _)) (by simp)
 |x::L,y::M,h1,U,h=>by
  have J:=List.pairwise_cons.1 h1;have O:=List.pairwise_cons.1 U;have V:x=y:=by
   rcases U4.1 ((h x).1 (.head _)) with he|hm
   ·exact he
   ·rcases U4.1 ((h y).2 (.head _)) with he|W
    ·exact he.symm
    ·have a:=O.1 x hm;have b:=J.1 y W;omega
  subst V;rw[sQ J.2 O.2 fun z=>⟨fun E=>?_,fun E=>?_⟩]
  ·rcases U4.1 ((h z).1 (.tail _ E)) with he|hm
   ·subst he;have:=J.1 z E;omega
   ·exact hm
  ·rcases U4.1 ((h z).2 (.tail _ E)) with he|hm
   ·subst he;have:=O.1 z E;omega
   ·exact hm
structure eC (sizes:List Int) (k:Int) (g:b1):Prop where
 scope:hZ g.1
 up:g.1.Pairwise (·< ·)
 vars:∀ v∈g.1,v<sizes.length
 len:g.2.length=(az (bK sizes g.1)).toNat
 small:az (bK sizes g.1)≤4096
 iu:∀ c∈g.2,0≤c∧c≤k
theorem n3 {sc:List Int} (J:∀ z∈sizes,1≤z∧z≤32) (ac:∀ v∈sc,0≤v∧v<sizes.length):∀ z∈bK sizes sc,1≤z∧z≤32:=fun z h=>by
 obtain⟨v,O,rfl⟩:=o8.1 h;obtain⟨h1,U⟩:=ac v O;have E:v.toNat<sizes.length:=by omega
 rw[u4,x4 E];exact J _ (U6 E)
theorem GP {b:List Int} (h:a.Perm b):az a=az b:=by
 induction h with
 |nil=>rfl
 |cons x _ E=>simp only[az,E]
 |swap x y l=>simp only[az];rw[←Int.mul_assoc,←Int.mul_assoc,Int.mul_comm y x]
 |trans _ _ h1 J=>exact h1.trans J
theorem GQ {b:List Int} (h:a.length=b.length):(dh k a b).length=b.length:=by simp[dh,h]
theorem GR {b:List Int} (W:0≤k) (O:∀ c∈a,0≤c∧c≤k) (U:∀ c∈b,0≤c∧c≤k):∀ c∈dh k a b,0≤c∧c≤k:=by
 induction a generalizing b with
 |nil=>intro c E;simp[dh] at E
 |cons x a V=>
  cases b with
  |nil=>intro c E;simp[dh] at E
  |cons y b=>
   intro c E;have J:=O x (.head _);have X:=U y (.head _);rcases U4.1 (show c∈min (x+y) k::dh k a b from E) with rfl|E
   ·omega
   ·exact V (fun c h=>O c (.tail _ h)) (fun c h=>U c (.tail _ h)) c E
def gQ (l:List b1):Prop:=(l.map (·.1)).Nodup
theorem GS {acc:List b1} {g:b1} (Y:0≤k) (V:∀ h∈acc,eC sizes k h) (W:gQ acc) (O:eC sizes k g):(∀ h∈gv k acc g,eC sizes k h)∧gQ (gv k acc g)∧(gv k acc g).length≤acc.length+1:=by
 unfold gv;split
 ·refine⟨fun h E=>?_,?_,by simp⟩
  ·obtain⟨U,hm,rfl⟩:=o8.1 E;have h1:=V U hm;split
   ·rename_i he;have Z:U.2.length=g.2.length:=by rw[h1.len,O.len,he]
    exact⟨h1.scope,h1.up,h1.vars,by show (dh k U.2 g.2).length=_;rw[GQ Z,O.len,he],h1.small,GR Y h1.iu O.iu⟩
   ·exact h1
  ·unfold gQ;rw[List.map_map];have e:((fun x:b1=>x.1)∘fun h:b1=>if h.1=g.1 then (h.1,dh k h.2 g.2) else h)=fun x:b1=>x.1:=by
    funext h;simp only[Function.comp];split <;> rfl
   rw[e];exact W
 ·rename_i aa;refine⟨fun h E=>?_,?_,by simp⟩
  ·rcases p8.1 E with E|E
   ·exact V h E
   ·rw[p9.1 E];exact O
  ·unfold gQ;rw[j4];exact List.nodup_append.2 ⟨W,by simp,fun x J y X he=>by
    simp only[List.map_cons,List.map_nil,p9] at X;subst X;subst he;exact aa J⟩
theorem sR {sizes:List Int} {k:Int} (U:0≤k):∀ {l acc:List b1},(∀ h∈acc,eC sizes k h)→gQ acc→(∀ g∈l,eC sizes k g)→(∀ h∈l.foldl (gv k) acc,eC sizes k h)∧gQ (l.foldl (gv k) acc)∧(l.foldl (gv k) acc).length≤acc.length+l.length
 |[],acc,E,O,_=>⟨E,O,by simp⟩
 |g::l,acc,E,O,V=>by
  obtain⟨h1,W,Z⟩:=GS U E O (V g (.head _));obtain⟨X,Y,aa⟩:=sR U h1 W fun x J=>V x (.tail _ J);exact⟨X,Y,by simp only[List.foldl_cons,n9];omega⟩
theorem yw {α:Type} [DecidableEq α]:∀ {a b:List α},a.Nodup→b.Nodup→(∀ x,x∈a↔x∈b)→a.Perm b
 |[],b,_,_,h=>by
  cases b with
  |nil=>exact .refl _
  |cons y b=>exact absurd ((h y).2 (.head _)) (by simp)
 |x::a,b,V,O,h=>by
  have J:=(h x).1 (.head _);have U:=List.nodup_cons.1 V;refine .trans ?_ (List.perm_cons_erase J).symm;refine .cons x (yw U.2 (O.erase x) fun y=>?_);rw[O.mem_erase_iff];refine⟨fun E=>⟨fun he=>U.1 (he▸E),(h y).1 (.tail _ E)⟩,fun⟨W,E⟩=>?_⟩;rcases U4.1 ((h y).2 E) with he|hm
  ·exact absurd he W
  ·exact hm
theorem qj (h:ir l) (E:l.Nodup):(aW l).Perm l:=yw (yq l) E fun _=>n2 h
theorem sS:∀ {l:List Int},(∀ z∈l,1≤z∧z≤32)→l.map (fun z=>min z 4097)=l
 |[],_=>rfl
 |z::l,h=>by
  have E:=h z (.head _);rw[List.map_cons,sS fun x J=>h x (.tail _ J)];congr 1;omega
theorem GU {x:bG} (J:0≤k) (O:0≤x.other) (E:∀ p∈x.lines,0≤p.2):0≤hU x k t∧hU x k t≤k:=by
 unfold hU;cases ae:x.lines.find? (fun p=>decide (p.1=t)) with
 |none=>simp only;omega
 |some p=>have:=E p (List.mem_of_find?_eq_some ae);simp only;omega
theorem qk {x:bG} (h:pX all N x) (E:all.length≤64):ir x.scope:=fun v ac=>by
 have:=h.scope.2 v ac;omega
theorem mG {f:bu} {x:bG} (ae:dU N f) (J:x∈f.funs):eC f.sizes f.k (fX f.sizes f.k x):=by
 obtain⟨h1,W,O⟩:=ae.funs x J;have X:=ae.sizes.2.1;have ac:=qk h1 X;have E:=qj ac h1.scope.1;have U:∀ v∈aW x.scope,0≤v∧v<f.sizes.length:=fun v hm=>h1.scope.2 v ((n2 ac).1 hm);have Y:=n3 ae.sizes.2.2 U;have Z:az (bK f.sizes (aW x.scope))=az x.sizes:=by rw[h1.sizes];exact GP (E.map _)
 refine⟨⟨GO _,?_⟩,sO _,fun v hm=>(U v hm).2,?_,?_,fun c aa=>?_⟩
 ·show (aW x.scope).length≤6;rw[E.length_eq];exact W
 ·show ((bo _).map _).length=_;rw[r8,i7 Y];rfl
 ·show az (bK f.sizes (aW x.scope))≤4096;have ab:∀ z∈x.sizes,1≤z∧z≤32:=fun z V=>by
   rw[h1.sizes] at V;exact n3 ae.sizes.2.2 (fun v hm=>h1.scope.2 v hm) z V
  unfold cI at O;rw[sS ab,decide_eq_false_iff_not] at O;rw[Z];omega
 ·obtain⟨t,_,rfl⟩:=o8.1 aa;exact GU (by have:=ae.k.1;omega) h1.other fun p E=>(h1.lines.2 p E).2
theorem iv {f:bu} (ae:dU N f):(∀ g∈ec f,eC f.sizes f.k g)∧gQ (ec f)∧(ec f).length≤f.funs.length:=by
 have:=sR (sizes:=f.sizes) (k:=f.k) (by have:=ae.k.1;omega) (l:=f.funs.map (fX f.sizes f.k)) (acc:=[]) (fun h O=>by cases O) List.nodup_nil fun g U=>by
  obtain⟨x,J,rfl⟩:=o8.1 U;exact mG ae J
 refine⟨this.1,this.2.1,?_⟩;have E:=this.2.2;rw[List.length_nil,r8,V0] at E;exact E
theorem yx {l:List b1} (E:∀ g∈l,eC sizes k g) (J:gQ l):l.Pairwise fun a b=>cw a.1≠cw b.1:=by
 have h1:l.Pairwise fun a b=>a.1≠b.1:=by
  unfold gQ List.Nodup at J;rwa [List.pairwise_map] at J
 exact h1.imp_of_mem fun {a b} O U V he=>V ((sP (E a O).scope (E b U).scope).2 he)
theorem mH {f:bu} (ae:dU N f):(ek f).Pairwise (fun a b=>cw a.1<cw b.1)∧(ek f).Perm ((ec f).filter ej):=by
 obtain⟨h1,J,_⟩:=iv ae;have O:∀ g∈(ec f).filter ej,eC f.sizes f.k g:=fun g U=>h1 g (List.mem_filter.1 U).1;have V:gQ ((ec f).filter ej):=(List.Sublist.map _ List.filter_sublist).nodup J;have:=yv ((ec f).filter ej) [] List.Pairwise.nil (yx O V) fun a W=>by cases W
 refine⟨this.1,?_⟩;have E:=this.2;rw[List.nil_append] at E;exact E
theorem ql {f:bu} (ae:dU N f):∀ g∈ek f,eC f.sizes f.k g:=fun g E=>(iv ae).1 g (List.mem_filter.1 ((mH ae).2.mem_iff.1 E)).1
theorem GV {f:bu} (ae:dU N f) {M:List b1} (E:M.Perm ((ec f).filter ej)) (O:M.Pairwise fun a b=>cw a.1≤cw b.1):M=ek f:=by
 obtain⟨h1,J⟩:=mH ae;have U:gQ ((ec f).filter ej):=(List.Sublist.map _ List.filter_sublist).nodup (iv ae).2.1;have V:gQ M:=(E.map (fun g:b1=>g.1)).nodup_iff.2 U;have W:∀ g∈M,eC f.sizes f.k g:=fun g X=>(iv ae).1 g (List.mem_filter.1 (E.mem_iff.1 X)).1;have Y:=yx W V;refine sQ (f:=fun g:b1=>cw g.1) ?_ h1 fun x=>by rw[E.mem_iff,J.mem_iff]
 exact O.imp₂ (fun a b h1 J=>Int.lt_iff_le_and_ne.2 ⟨h1,J⟩) Y
structure hy (n:aV):Prop where
 k:1≤n.k∧n.k≤2147483648
 sizes:1≤n.sizes.length∧n.sizes.length≤64∧ ∀ z∈n.sizes,1≤z∧z≤32
 zero:0≤n.zero∧n.zero≤n.k
 iw:n.unary.length=n.sizes.length
 unary:∀ (i:Nat) (z:Int) (u:List Int),n.sizes[i]? =some z→n.unary[i]? =some u→u.length=z.toNat∧ ∀ c∈u,0≤c∧c≤n.k
 funs:∀ g∈n.funs,eC n.sizes n.k g∧2≤g.1.length
theorem GW (z:Int):az [z]=z:=by simp[az]
theorem qm:∀ {l:List b1} {n:aV},hy n→(∀ g∈l,eC n.sizes n.k g)→hy (l.foldl (fun n g=>match g.1 with
 |[]=>{n with zero:=g.2.getD 0 0}
 |[v]=>{n with unary:=n.unary.set v.toNat g.2}
 |_=>{n with funs:=n.funs++[g]}) n)∧(l.foldl (fun n g=>match g.1 with
 |[]=>{n with zero:=g.2.getD 0 0}
 |[v]=>{n with unary:=n.unary.set v.toNat g.2}
 |_=>{n with funs:=n.funs++[g]}) n).sizes=n.sizes
 |[],n,h,_=>⟨h,rfl⟩
 |g::l,n,h,U=>by
  have E:=U g (.head _);have O:∀ x∈l,eC n.sizes n.k x:=fun x J=>U x (.tail _ J);rw[List.foldl_cons];obtain⟨sc,cs⟩:=g
  match sc,E with
  |[],E=>
   have W:=E.len;refine qm (n:={n with zero:=cs.getD 0 0}) ⟨h.k,h.sizes,?_,h.iw,h.unary,h.funs⟩ O;have h1:cs.length=1:=by simpa[bK,az] using W
   have X:cs[0]? =some (cs.getD 0 0):=by rw[u4,x4 (by omega)];rfl
   exact E.iu _ (x2 X)
  |[v],E=>
   have ac:=E.scope.1 v (.head _);have Z:=E.vars v (.head _);refine qm (n:={n with unary:=n.unary.set v.toNat cs}) ⟨h.k,h.sizes,h.zero,by show (n.unary.set _ _).length=_;rw[X7];exact h.iw,fun i z u V hu=>?_,h.funs⟩ O;by_cases hi:v.toNat=i
   ·subst hi;have aa:=h.iw;rw[V8 (by omega)] at hu;cases hu;have Y:bK n.sizes [v]=[z]:=by
     simp only[bK,List.map_cons,List.map_nil];rw[u4,V];rfl
    refine⟨?_,E.iu⟩;have:=E.len;rw[Y,GW] at this;exact this
   ·rw[List.getElem?_set_ne hi] at hu;exact h.unary i z u V hu
  |a::b::r,E=>
   refine qm (n:={n with funs:=n.funs++[(a::b::r,cs)]}) ⟨h.k,h.sizes,h.zero,h.iw,h.unary,fun x J=>?_⟩ O;rcases p8.1 J with J|J
   ·exact h.funs x J
   ·rw[p9.1 J];exact⟨E,by simp⟩
theorem GX {f:bu} (ae:dU N f):hy (dm f)∧(dm f).sizes=f.sizes:=by
 unfold dm;have J:=ae.sizes;refine qm (n:=⟨f.k,f.sizes,0,f.sizes.map fun z=>u6 z.toNat 0,[]⟩) ⟨ae.k,J,⟨by show (0:Int)≤0;omega,by show (0:Int)≤f.k;have:=ae.k.1;omega⟩,by simp,fun i z u h1 E=>?_,fun g O=>by cases O⟩ (ql ae);have E:(f.sizes.map fun z=>u6 z.toNat (0:Int))[i]? =some u:=E;have h1:f.sizes[i]? =some z:=h1;rw[x7,h1] at E;cases E;refine⟨by simp,fun c U=>?_⟩;rw[(List.mem_replicate.1 U).2];have:=ae.k.1;exact⟨Int.le_refl _,by show (0:Int)≤f.k;omega⟩
def jh (x:bG) (k:Int) (i:Nat) (t:List Int):Int:=match (x.lines.take i).find? (fun p=>decide (p.1=t)) with
 |some p=>min p.2 k
 |none=>min x.other k
theorem yy (x:bG) (k:Int) (t:List Int):jh x k 0 t=min x.other k:=by simp[jh]
theorem yz (x:bG) (k:Int) (t:List Int):jh x k x.lines.length t=hU x k t:=by
 unfold jh hU;rw[o5];cases x.lines.find? (fun p=>decide (p.1=t)) <;> rfl
theorem yA {x:bG} {i:Nat} {p:List Int×Int} (Y:(x.lines.map (·.1)).Nodup) (hi:x.lines[i]? =some p) (t:List Int):jh x k (i+1) t=if t=p.1 then min p.2 k else jh x k i t:=by
 unfold jh;rw[u5,hi,j5,List.find?_append];by_cases E:t=p.1
 ·subst E;have Z:(x.lines.take i).find? (fun q=>decide (q.1=p.1))=none:=by
   rw[List.find?_eq_none];intro q J he;have he:q.1=p.1:=by simpa using he
   obtain⟨j,O⟩:=X1.1 J;have U:j<i:=by have:=(x3.1 O).1;rw[o6] at this;omega
   rw[c7 U] at O;have V:=x3.1 O;have W:=x3.1 hi;have X:=X6.1 Y j i (by rw[r8];exact V.1) (by rw[r8];exact W.1) U;rw[List.getElem_map,List.getElem_map,V.2,W.2] at X;exact X he
  rw[Z,if_pos rfl];simp
 ·rw[if_neg E];have:[p].find? (fun q=>decide (q.1=t))=none:=by
   rw[List.find?_eq_none];intro q J he;rw[p9.1 J] at he;exact E (of_decide_eq_true he).symm
  rw[this,Option.or_none]
theorem mI {v:Int} (h:v∈l):l[l.idxOf v]? =some v:=by
 have:=List.idxOf_lt_length_iff.2 h;rw[x4 this,List.getElem_idxOf this]
theorem n4 {i:Nat} {v:Int} (U:l.Nodup) (h:l[i]? =some v):l.idxOf v=i:=by
 have hm:=x2 h;have h1:=mI hm;have E:=x3.1 h1;have J:=x3.1 h;rcases Nat.lt_trichotomy (l.idxOf v) i with O|he|O
 ·exact absurd (E.2.trans J.2.symm) (X6.1 U _ _ E.1 J.1 O)
 ·exact he
 ·exact absurd (J.2.trans E.2.symm) (X6.1 U _ _ J.1 E.1 O)
def eS (scope E:List Int):List Int:=E.map fun v=>((scope.idxOf v:Nat):Int)
theorem qn {J:List Int} (W:scope.Nodup) (E:J.Perm scope):Good (eS scope J) scope.length:=by
 have V:J.Nodup:=E.nodup_iff.2 W;refine⟨by simp[eS,E.length_eq],fun i p O=>?_⟩;unfold eS at O;rw[x7] at O;obtain⟨v,ac,rfl⟩:=Z2.1 O;have hm:v∈scope:=E.mem_iff.1 (x2 ac);have Z:=List.idxOf_lt_length_iff.2 hm;refine⟨⟨by omega,by omega⟩,fun j aa U=>?_⟩;unfold eS at U;rw[x7] at U;obtain⟨u,hu,he⟩:=Z2.1 U;have X:u∈scope:=E.mem_iff.1 (x2 hu);have e:scope.idxOf u=scope.idxOf v:=by omega
 have h1:=mI X;rw[e,mI hm] at h1;have Y:v=u:=b9 h1;subst Y;have ab:=n4 V hu;have ad:=n4 V ac;omega
theorem yB {E:List Int} {v:Int} (ac:E[j]? =some v):(eS scope E)[j]? =some ((scope.idxOf v:Nat):Int):=by
 unfold eS;rw[x7,ac];rfl
theorem GY {E:List Int} (U:scope.Nodup) (J:E.Perm scope):dr (bK sizes scope) (eS scope E)=bK sizes E:=by
 refine Y7 fun j=>?_;cases ac:E[j]? with
 |none=>
  have O:=List.getElem?_eq_none_iff.1 ac;rw[c8 (by rw[pU];simp[eS];exact O),c8 (by simp[bK];exact O)]
 |some v=>
  have hm:v∈scope:=J.mem_iff.1 (x2 ac);have V:=qn U J;rw[xb V (by simp[bK]) (yB ac),j6];unfold bK;rw[x7,x7,mI hm,ac]
theorem yC {E:List Int} (U:scope.Nodup) (J:E.Perm scope) (V:t.length=scope.length):jO (eS scope E) t=mu scope E t:=by
 have W:=qn U J;refine (xa W V (by simp[mu]) fun j p O=>?_).symm;unfold eS at O;rw[x7] at O;obtain⟨v,ac,rfl⟩:=Z2.1 O;have hm:v∈scope:=J.mem_iff.1 (x2 ac);have X:E.Nodup:=J.nodup_iff.2 U;have Y:=(x3.1 ac).1;have Z:=J.length_eq;unfold mu;rw[j6,x7,mI hm,c5,n4 X ac,u4,x4 (show j<t.length by omega)];rfl
theorem GZ {f:bu} {x:bG} {cs:List Int} (ae:dU N f) (J:x∈f.funs) (ag:cs.length=(az x.sizes).toNat) (Y:∀ t,cJ x.sizes t→cV x.sizes cs t=hU x f.k t):
  dr x.sizes (eS x.scope (aW x.scope))=bK f.sizes (aW x.scope)∧lh x.sizes cs (eS x.scope (aW x.scope))=(fX f.sizes f.k x).2:=by
 obtain⟨h1,ah,ai⟩:=ae.funs x J;have ac:=qk h1 ae.sizes.2.1;have E:=qj ac h1.scope.1;have V:x.sizes=bK f.sizes x.scope:=h1.sizes;have U:dr x.sizes (eS x.scope (aW x.scope))=bK f.sizes (aW x.scope):=by rw[V];exact GY h1.scope.1 E
 have Z:=qn h1.scope.1 E;have aa:∀ v∈aW x.scope,0≤v∧v<f.sizes.length:=fun v hm=>h1.scope.2 v ((n2 ac).1 hm);have O:dF (bK f.sizes (aW x.scope)):=n3 ae.sizes.2.2 aa;refine⟨U,?_⟩;have ab:x.sizes.length=x.scope.length:=by rw[V];simp[bK]
 unfold lh;rw[U];show _=(bo (bK f.sizes (aW x.scope))).map fun t=>hU x f.k (mu x.scope (aW x.scope) t);refine Y7 fun q=>?_;rw[x7,x7];have aj:=jN O;by_cases W:q<(az (bK f.sizes (aW x.scope))).toNat
 ·have ad:=pR O (i:=q) (by omega);rw[ad,List.getElem?_range W];simp only[c5];have af:=sm O W;have X:(cq (bK f.sizes (aW x.scope)) q).length=x.scope.length:=by rw[hs];simp[bK,E.length_eq]
  rw[yC h1.scope.1 E X,Y];have:=Fh (s:=x.sizes) Z ab (by rw[U];exact af);rw[yC h1.scope.1 E X] at this;exact this
 ·rw[c8 (by simp;omega),c8 (by rw[i7 O];omega)];rfl
theorem G0 {E J:List Int} (O:dF ai) (h1:E.length=(az ai).toNat) (U:J.length=(az ai).toNat):
  dh k E J=(Z1 (az ai).toNat).map fun(q:Nat)=>min (cV ai E (cq ai q)+cV ai J (cq ai q)) k:=by
 conv=>lhs;rw[pT O h1,pT O U]
 unfold dh;rw[List.zipWith_map,List.zipWith_self]
theorem G1 {J:Nat} {d:List (y0×y0)} {KS:List (List Int)} (U:aa w J gI [.map (some m)]) (hm:cr w m d) (W:d.map (·.1)=KS.map dn) (O:mD KS) (ae:KS.length<65536):
  ag x5 Dt [.func (.func jG) #[] #[.pointer (some ⟨J,0,none⟩)],xV] w fun v w'=>Ext w w'∧ ∃ g M,M.Perm KS∧qe e8 M 0 M.length∧lp w' g v M:=by
 refine ap func249 ?_;refine (FZ U hm W (fun ks h=>(O ks h).1) (by omega)).mono ?_;rintro v af _ ⟨X,g,L,Y,E,Z⟩;refine (Gg Z (O.perm E) (by rw[E.length_eq];omega)).mono ?_;rintro _ V _ ⟨ab,M,ac,hu,ad⟩;exact⟨X.then ab (fun r ah h=>by have:=Y r h;omega),g,M,ac.trans E,hu,ad⟩
theorem yD {α β:Type} {f:α→β}:∀ {M:List β} {D:List α},M.Perm (D.map f)→ ∃ L:List α,L.Perm D∧L.map f=M
 |[],D,h=>by
  have h1:=h.length_eq;simp at h1;have:D=[]:=o9 h1.symm;exact⟨[],by rw[this],rfl⟩
 |x::M,D,h=>by
  have J:x∈D.map f:=h.mem_iff.1 (.head _);obtain⟨p,E,rfl⟩:=o8.1 J;obtain⟨A,B,rfl⟩:=List.append_of_mem E;have O:(f p::M).Perm (f p::(A++B).map f):=h.trans (by
   rw[j4,List.map_cons,j4];exact List.perm_middle)
  obtain⟨L,U,V⟩:=yD (List.Perm.cons_inv O);exact⟨p::L,(U.cons p).trans List.perm_middle.symm,by rw[List.map_cons,V]⟩
theorem yE {g:Nat} {ks:List Int} (V:ks.length=6) (W:n≤6) (E:cs=ints .i8 ks) (J:aa w g bV cs):ay .i8 w (.slice (some (if 6=0 then⟨g,0,none⟩ else⟨g,0+0*1,none⟩)) (n-0) (6-0)) (ks.take n):=by
 subst E;rw[if_neg (by omega)];unfold ay;have O:(ks.take n).length=n:=by rw[o6];omega
 rw[O];refine⟨by simp;omega,g,0,_,6,rfl,by omega,by simp[maxLen],fun _=>rfl,fun j v ac=>?_⟩;have U:=(x3.1 ac).1;refine J.range j v ?_;rw[ints,List.map_take,c7 (by simp[ints] at U;omega)] at ac;exact ac
def G2 (D L:Told):Prop:=L.Perm D∧qe (fun p=>e8 (pad p.1)) L 0 L.length
set_option maxHeartbeats 1600000 in
theorem G3 {g:Nat} {D:Told} (h:dG w g m ai k o D) (bt:D.length<65536):ag x5 CU [.pointer (some ⟨g,0,none⟩)] w fun v w'=>Ext w w'∧ ∃ L:Told,G2 D L∧dp (dO w.heap.size) bd w' [v] L:=by
 obtain⟨⟨sv,gs,aH,hm⟩,bu,aq,b9,aW⟩:=id h;have bw:mD (D.map fun p=>pad p.1):=fun ks bx=>by
  obtain⟨p,bz,rfl⟩:=o8.1 bx;exact nS aq (aW p bz).1
 refine ap func186 ?_;rw[cQ dK.u];simp only[c6,aR];rw[aD ez.p 3 aH rfl];refine FX.mono ?_;rintro _ ca _ ⟨aI,cb,rfl,cc,bA⟩;refine (G1 (KS:=D.map fun p=>pad p.1) bA (bu.ext aI) (by rw[List.map_map,List.map_map];rfl) bw (by simpa using bt)).mono ?_;rintro cd V _ ⟨aX,ce,M,bB,bC,aZ⟩;obtain⟨L,aJ,av⟩:=yD bB;have a2:M.length=L.length:=by rw[←av];simp
 have cg:=aJ.length_eq;have ch:=aI.size;have ci:=aX.size;have a6:=aI.trans aX;rw[dA hn.u aZ];refine bO.range L.length (fun i out E=>Ext V E∧dp (dO V.heap.size) bd E [out] (L.take i)) (by omega) ⟨Ext.refl _,by rw[List.take_zero];exact iY⟩ ?_ ?_
 rotate_left
 ·rintro out E bD ⟨ae,aw⟩;rw[a2];simp only[aC,af];refine⟨fun h=>by omega,fun _=>⟨a6.trans ae,L,⟨aJ,fun p q x y h1 bE cj J bF=>?_⟩,?_⟩⟩
  ·exact bC p q (pad x.1) (pad y.1) h1 bE (by omega) (by rw[←av,x7,J];rfl) (by rw[←av,x7,bF];rfl)
  ·rw[o5] at aw;exact au.mono aw (fun r _ h=>by have h:V.heap.size≤r:=h;show w.heap.size≤r;omega) fun _ _ h=>h
 rintro i out E bD hi ⟨ae,aw⟩ bG;obtain⟨⟨t,c⟩,aL⟩:∃ p,L[i]? =some p:=⟨_,x4 hi⟩;have aM:(t,c)∈D:=aJ.mem_iff.1 (x2 aL);have aN:=(aW _ aM).1;have a7:=sB aq aN;have aO:t.length=ai.length:=a7.1;have a8:=aq.1;have bH:jd (pad t):=nS aq aN;have ax:=bH.1;have bI:M[i]? =some (pad t):=by rw[←av,x7,aL];rfl
 rw[a2];simp only[aC,af];refine⟨fun _=>?_,fun h=>by omega⟩;rw[Gf rfl (aZ.ext ae) bI];refine bg bV.i fun bJ ck cl ba bb=>?_;refine nR ax rfl bb fun bK bL cm ay=>?_;have cn:=ba.size;have cp:=bb.lt;have bM:Ext E bK:=ba.put bL (by omega);intro bc am _ _;have aQ:=bM.trans am;have aS:=(a6.trans ae).trans aQ;have be:=h.ext aS;obtain⟨⟨cq,cr,cu,cw⟩,cz,_⟩:=id be;have cA:=aQ.size;rw[aD ez.p 3 (aH.ext aS) rfl,ln ax (ay.ext am).range];refine FR be aN (fun O bN=>?_) (fun bQ=>absurd rfl (bQ _ aM));have bR:O=c:=by
  have:=xH h.nodup bN aM rfl;exact congrArg Prod.snd this
 subst bR;simp only[Bool.false_eq_true,if_false];rw[ct (cs:=#[.slice none 0 0,.int .i64 O]) (by kernel_rfl)];refine bg e0.i fun ah cB cC aT bf=>?_;refine⟨.inl aT,?_⟩;refine bP (vs:=[.slice none 0 0,.int .i64 O]) e0.i rfl rfl (by intro v ac;simp at ac;rcases ac with rfl|rfl <;> rfl) bf fun aj bT cD bh=>?_;have cE:=aT.size;have cF:=bf.lt;have az:Ext bc aj:=aT.put bT (by omega);have bi:=aQ.trans az;have bj:=aS.trans az;rw[aD ez.p 0 (aH.ext bj) rfl,aK al.u (hm.ls.ext bj)];rw[px bV.u eN.i (l:=0) (h:=ai.length) (m:=6) ho (k0 _ _ rfl) ea (by omega) (by omega) (by omega)];have bk:=yE ax a8 rfl ((ay.ext am).ext az);rw[←aO,xC] at bk;rw[←aO,aK iU.u bk];have bU:=(ay.ext am).ext az;have cG:bJ<bc.heap.size:=(ay.ext am).lt;have cH:ah<aj.heap.size:=bh.lt;refine bS.range t.length (fun j W=>ad (fun r=>r=ah∨aj.heap.size≤r) aj W∧ ∃ X gt,aj.heap.size≤gt∧aa W ah e0 [X,.int .i64 O]∧ak .i64 ab W gt X (t.take j)) (by omega) ⟨ad.refl _ _,_,aj.heap.size,r9 _,bh,ak.nil _ _ _ _⟩ ?_ ?_
 ·rintro j W bW bX ⟨Y,X,gt,bY,aA,aG⟩ bZ;obtain⟨x,aU⟩:=aE (l:=t) bX;have cI:=a7.2 x (x2 aU);have cJ:Ext E W:=bi.then Y (fun r bl he=>by rcases he with rfl|he <;> omega);have bm:=yE ax a8 rfl (bU.U Y (fun he=>by rcases he with he|he <;> omega));rw[←aO,xC] at bm;simp only[aC,af];refine⟨fun _=>?_,fun h=>by omega⟩;rw[a1 iU.u eN.i (by kernel_rfl) bm aU,aP e0.p 0 aA rfl,ft eN.u ab.u,wrap_i64 (by omega) (by omega)];refine dM al.u ab.i rfl fun a cK b1 cL Z b2=>?_;refine hr al.u ab.i rfl (aG.ext Z) b2.ls (by simp;omega) (by simp;omega) fun bo bp b3 cM an ao=>?_;have b4:=Y.size;have b5:=Z.size;have cN:=ao.size;rw[aF e0.p rfl];refine aY (g:=ah) (o:=0) al.i an.ls.cells.1 an.ls.cells.2 ((aA.ext Z).U ao (fun he=>by have he:ah=gt:=he;omega)) (by simp) fun cO bq cP b6=>?_;simp only[aB];refine bZ _ ⟨((Y.trans (Z.U _)).trans (ao.mono fun r _ he=>.inr (by have he:r=gt:=he;omega))).trans (bq.mono fun r _ he=>.inl he),bo,bp,by omega,b6,?_⟩;rw[u5,aU];exact an.U bq (fun _ he=>by have he:bp=ah:=he;omega)
 ·rintro W bW ⟨Y,X,gt,bY,aA,aG⟩;simp only[aC,af];refine⟨fun h=>by omega,fun _=>?_⟩;rw[o5] at aG;rw[bn e0.p e0.i rfl aA.range];have b4:=Y.size;have b7:Ext E W:=bi.then Y (fun r bl he=>by rcases he with rfl|he <;> omega);have br:dp (dO E.heap.size) bd W [X,.int .i64 O] (t,O):=⟨[X],[.int .i64 O],dO E.heap.size,bd,rfl,fun _ h=>h,fun _ h=>h.elim,fun _ _ _ h=>h,au.mono (mf aG) (fun r _ h=>by subst h;show E.heap.size≤r;omega) (fun _ _ h=>h),rfl⟩;refine k6 (α:=List Int×Int) (a:=(t,O)) (cs:=[X,.int .i64 O]) (A:=dO E.heap.size) (R:=bd) l4.u e0.i (by decide) rfl br fun u b1 Z _ b8=>?_;have aV:=b7.trans Z;have b5:=aV.size;refine me (α:=List Int×Int) (a:=(t,O)) (A:=dO E.heap.size) l4.u e0.i rfl (dc (ko aw) aV) b8 (dc br Z) (fun r _ h h'=>?_) (by simp;omega) (by simp;omega) fun bo b3 an ao=>?_
  ·rcases h' with h'|h'
   ·have:=h.2;have:E.heap.size≤r:=h';omega
   ·exact h'
  simp only[aB];have cR:=ae.size;refine bG _ _ ⟨(ae.trans aV).then ao (fun r bl h=>by have h:=h.1;have h:V.heap.size≤r:=h;omega),?_⟩;rw[u5,aL];refine au.mono an (fun r _ h=>?_) fun _ _ h=>h;show V.heap.size≤r;rcases h with h|h|h
  ·exact h.1
  ·have h:E.heap.size≤r:=h;omega
  ·omega
theorem yF {s:List Int} (E:dF s):t∈bo s↔cJ s t:=by
 refine⟨fun h=>?_,fun⟨n,h⟩=>x2 (pP E h)⟩;obtain⟨i,hi⟩:=X1.1 h;exact⟨_,sj E hi⟩
theorem yG:∀ {s:List Int},dF s→(bo s).Pairwise fun a b=>e8 a<e8 b
 |[],_=>by simp[bo]
 |k::s,V=>by
  have Z:=yG V.tail;have O:∀ t∈bo s,0≤e8 t∧e8 t<32 ^ s.length:=fun t W=>by
   have ac:=(yF V.tail).1 W;have h1:=lg.1 ac;have X:=qd t fun x J=>by
    obtain⟨i,hi,rfl⟩:=List.getElem_of_mem J;obtain⟨a,E⟩:=aE (l:=s) (i:=i) (by omega);have ab:=h1.2 i a _ E (x4 hi);have ad:=(V.tail a (x2 E)).2;omega
   rw[h1.1];exact X
  have U:∀ t∈bo s,t.length=s.length:=fun t W=>rZ W;show ((Z1 k.toNat).flatMap fun(v:Nat)=>(bo s).map fun t=>(v:Int)::t).Pairwise _;rw[List.pairwise_flatMap];refine⟨fun v _=>?_,?_⟩
  ·rw[List.pairwise_map];refine Z.imp_of_mem fun {a b} E O h=>?_;simp only[e8,U a E,U b O];omega
  ·refine List.pairwise_lt_range.imp fun {u v} ae x J y aa=>?_;obtain⟨a,E,rfl⟩:=o8.1 J;obtain⟨b,Y,rfl⟩:=o8.1 aa;simp only[e8,U a E,U b Y];have h1:=O a E;have X:=O b Y;have:=Int.mul_le_mul_of_nonneg_right (show (u:Int)+1≤v by omega) (show (0:Int)≤32 ^ s.length by have:=sE s.length;omega);rw[Int.add_mul,Int.one_mul] at this;omega
theorem G4 {D L:Told} (O:(D.map (·.1)).Nodup) (E:L.Perm D) (t:List Int):gw L o t=gw D o t:=by
 have V:(L.map (·.1)).Nodup:=(E.map (·.1)).nodup_iff.2 O;by_cases he:∃ p∈D,p.1=t
 ·obtain⟨p,U,rfl⟩:=he;rw[nT O (c:=p.2) U,nT V (c:=p.2) (E.mem_iff.2 U)]
 ·rw[nU fun p h1 J=>he ⟨p,h1,J⟩,nU fun p h1 J=>he ⟨p,E.mem_iff.1 h1,J⟩]
def gy (ai:List Int) (f:List Int→Int) (cs:List Int):Prop:=cs.length=(az ai).toNat∧ ∀ t,cJ ai t→cV ai cs t=f t
theorem gy.eq {f:List Int→Int} {cs E:List Int} (U:dF ai) (h1:gy ai f cs) (J:gy ai f E):cs=E:=E6 U h1.1 J.1 fun t O=>by rw[h1.2 t O,J.2 t O]
theorem gy.congr {f E:List Int→Int} {cs:List Int} (h:gy ai f cs) (he:∀ t,cJ ai t→f t=E t):gy ai E cs:=⟨h.1,fun t J=>by rw[h.2 t J,he t J]⟩
theorem sT (J:dF ai) (h:cJ ai t):∃ n:Nat,cp ai t 0=some (n:Int)∧n<(az ai).toNat:=by
 obtain⟨n,E⟩:=h;have:=k8 J E;simp only[Int.zero_mul,Int.zero_add,Int.one_mul] at this;exact⟨n.toNat,by rw[E];congr 1;omega,by omega⟩
theorem G5 (E:dF ai) (c:Int):gy ai (fun _=>c) (u6 (az ai).toNat c):=⟨by simp,fun t J=>by
 obtain⟨n,O,U⟩:=sT E J;unfold cV;rw[O];simp only[j6,u4,List.getElem?_replicate,U,if_true,V4]⟩
theorem gy.put {f:List Int→Int} {cs:List Int} {c:Int} (E:dF ai) (h:gy ai f cs) (ac:cJ ai t) (W:cv c k):gy ai (fun s=>if s=t then c else f s) (pD ai t k c cs):=by
 obtain⟨n,O,X⟩:=sT E ac;unfold pD;rw[O];simp only[W,if_true,j6];refine⟨by simp[h.1],fun s V=>?_⟩;obtain⟨m,hm,Y⟩:=sT E V;have J:=h.2 s V;unfold cV at J ⊢;rw[hm] at J ⊢;simp only[j6] at J ⊢;by_cases he:s=t
 ·subst he;rw[O] at hm;have U:n=m:=by have:=b9 hm;omega
  subst U;rw[if_pos rfl,u4,V8 (by rw[h.1];exact X)];rfl
 ·rw[if_neg he,u4,List.getElem?_set_ne (fun U=>he ?_),←u4,J];subst U;rw[←w4 E hm,←w4 E O]
def G6 (w:x1) (ai:List Int) (k o:Int) (D:Told) (v:y0) (w':x1):Prop:=Ext w w'∧(4096<az ai→v= .tuple #[.pointer none,.int .i64 5])∧
 (az ai≤4096→ ∃ g E sv cs,v= .tuple #[.pointer (some ⟨g,0,none⟩),.int .i64 0]∧w.heap.size≤g∧(w.heap.size≤E∧ ∀ r,leads sv r→w.heap.size≤r)∧cA w' g E sv ai k cs∧gy ai (gw D o) cs)
set_option maxHeartbeats 1600000 in
theorem yH {g:Nat} {D:Told} (h:dG w g m ai k o D) (aE:D.length<65536):ag x5 B2 [.pointer (some ⟨g,0,none⟩)] w (G6 w ai k o D):=by
 obtain⟨⟨sv,gs,aF,hm⟩,bp,X,aG,aH⟩:=id h;have ao:=h.nodup;refine ap func103 ?_;rw[cQ dK.u];simp only[c6,aR];intro bq E _ _;have ah:=aF.ext E;rw[aD ez.p 0 ah rfl,aD ez.p 1 ah rfl,aD ez.p 2 ah rfl];refine (r2 (hm.ls.ext E)).mono ?_;rintro _ V _ ⟨Y,_,aI,_,aK⟩;by_cases Z:az ai≤4096
 rotate_left
 ·have:=aI X (by omega);subst this;rw[a8,ba];simp only[bj,af];exact⟨fun _=>⟨E.trans Y,fun _=>rfl,fun h=>absurd h Z⟩,fun h=>by simp at h⟩
 obtain⟨gt,J,aq,rfl,br,bt,aL,av⟩:=aK X Z aG;rw[a8,ba];simp only[bj,af];refine⟨fun h=>absurd rfl h,fun _=>?_⟩;have bu:=E.size;have bw:=Y.size;refine (G3 ((h.ext E).ext Y) aE).mono ?_;rintro bx aM _ ⟨aj,L,aa,aw⟩;have bz:=aj.size;have bA:J<V.heap.size:=by
  obtain⟨⟨aJ,bB,_,_,aN⟩,⟨_,_,bC⟩,aO,aQ⟩:=id av;have bD:=jN aO.2;obtain⟨_,⟨_,aS⟩|⟨cap,cs,_,aT,_⟩⟩:=aN
  ·rw[aQ] at aS;omega
  ·exact aT.lt
 have bE:=aa.1.length_eq;rw[iZ l4.u aw];refine bS.range L.length (fun i O=>ad (fun r=>r=J) aM O∧ ∃ cs,cA O gt J aq ai k cs∧gy ai (gw (L.take i) o) cs) (by omega) ⟨ad.refl _ _,_,av.ext aj,by rw[List.take_zero];exact G5 X.2 o⟩ ?_ ?_
 ·rintro i O aU hi ⟨ab,cs,ak,ae⟩ aV;simp only[aC,af];refine⟨fun _=>?_,fun h=>by omega⟩;obtain⟨⟨t,c⟩,W⟩:∃ p,L[i]? =some p:=⟨_,x4 hi⟩;have aW:(t,c)∈D:=aa.1.mem_iff.1 (x2 W);obtain⟨aX,aY,aZ⟩:=aH _ aW;have a1:=au.U aw ab fun r ax a2 he=>by
   have he:r=J:=he;rcases a2 with h|h
   ·have h:V.heap.size≤r:=h;omega
   ·exact h
  refine md (α:=List Int×Int) e0.p rfl l4.u e0.i a1 W fun us a6=>?_;obtain⟨bF,a7,A,B,rfl,bG,bH,_,h1,bb⟩:=a6;have bc:a7=[.int .i64 c]:=bb;subst bc;obtain⟨bd,rfl,_⟩:=id h1;have hu:=kr h1;refine bg e0.i fun bI bJ bK be ay=>?_;refine bP (vs:=[bd,.int .i64 c]) e0.i rfl rfl (by intro v ac;simp at ac;rcases ac with rfl|rfl;exact hu.cells.2;rfl) ay fun bf bh bL aA=>?_;have bM:=ay.lt;have al:Ext O bf:=be.put bh (by omega);rw[aP e0.p 0 aA rfl,aP e0.p 1 aA rfl];refine (El (ak.ext al) (hu.ext al)).mono ?_;rintro _ bN _ ⟨rfl,bi,bk⟩;simp only[aB];refine aV _ ⟨(ab.trans (al.U _)).trans bi,_,bk,(ae.put X.2 aX aY).congr fun s bO=>?_⟩;rw[u5,W];have am:(L.map (·.1)).Nodup:=(aa.1.map (·.1)).nodup_iff.2 ao;have bl:∀ p∈L.take i,p.1≠t:=fun p Z he=>by
   obtain⟨j,an⟩:=X1.1 Z;have bm:j<i:=by have:=(x3.1 an).1;rw[o6] at this;omega
   rw[c7 bm] at an;have:=ip am (i:=j) (j:=i) (x:=t) (by rw[x7,an,c5,he]) (by rw[x7,W];rfl);omega
  have bn:((L.take i).map (·.1)).Nodup:=by rw[List.map_take];exact (List.take_sublist _ _).nodup am
  have bo:((L.take i++[(t,c)]).map (·.1)).Nodup:=by
   have e:L.take i++[(t,c)]=L.take (i+1):=by rw[u5,W];rfl
   rw[e,List.map_take];exact (List.take_sublist _ _).nodup am
  exact ((xI bl aZ).cost bn bo s).symm
 ·rintro O aU ⟨ab,cs,ak,ae⟩;simp only[aC,af];refine⟨fun h=>by omega,fun _=>?_⟩;rw[o5] at ae;exact⟨((E.trans Y).trans aj).put ab (by omega),fun h=>by omega,fun _=>⟨gt,J,aq,cs,rfl,by omega,⟨by omega,fun r ax=>by have:=aL r ax;omega⟩,ak,ae.congr fun s _=>G4 ao aa.1 s⟩⟩
theorem G7 {s cs:List Int} (E:dF s) (J:cs.length=(az s).toNat) {i:Nat} (h:(bo s)[i]? =some t):cs[i]? =some (cV s cs t):=by
 have hi:=(x3.1 h).1;rw[i7 E,←J] at hi;unfold cV;rw[sj E h];simp only[j6,u4,x4 hi,V4]
theorem qo {k:o4} {g:Nat} (h:ak k e w g v l) (J:0<l.length):g<w.heap.size:=by
 obtain⟨_,⟨_,h1⟩|⟨_,_,_,E,_⟩⟩:=h
 ·omega
 ·exact E.lt
def eD (w:x1) (g m:Nat) (sv:y0) (gs:Nat) (ai:List Int) (k o:Int) (D:Told):Prop:=
 aa w g ez [sv,.int .i64 k,.int .i64 o,.map (some m)]∧ak .i64 ab w gs sv ai∧cr w m (D.map hV)∧bD ai∧cv o k∧ ∀ p∈D,cJ ai p.1∧cv p.2 k∧p.2≠o
theorem eD.is {g:Nat} {D:Told} (h:eD w g m sv gs ai k o D):dG w g m ai k o D:=⟨⟨sv,gs,h.1,h.2.1⟩,h.2.2⟩
theorem dG.at {g:Nat} {D:Told} (h:dG w g m ai k o D):∃ sv gs,eD w g m sv gs ai k o D:=by
 obtain⟨⟨sv,gs,h1,E⟩,J⟩:=h;exact⟨sv,gs,h1,E,J⟩
theorem eD.ext {g:Nat} {D:Told} (h:eD w g m sv gs ai k o D) (J:Ext w w'):eD w' g m sv gs ai k o D:=by
 obtain⟨h1,E,O,U⟩:=h;exact⟨h1.ext J,E.ext J,O.ext J,U⟩
theorem eD.U {g:Nat} {D:Told} (h:eD w g m sv gs ai k o D) (J:ad S w w') (E:¬S g) (hm:¬S m) (O:∀ r,leads sv r→¬S r):eD w' g m sv gs ai k o D:=by
 obtain⟨h1,V,W,X⟩:=h;exact⟨h1.U J E,aZ V J O,W.U J hm,X⟩
theorem qp {g:Nat} {d:List (y0×y0)} (h:aa w g e cs) (hm:cr w m d):g≠m:=by
 rintro rfl;obtain⟨E,c,h1,_⟩:=hm;unfold aa at h;rw[h1] at h;cases h
theorem yI {g:Nat} {k:o4} {d:List (y0×y0)} (h:ak k e w g v l) (hm:cr w m d) (E:leads v r):r≠m:=by
 obtain⟨rfl,_⟩:=bp h E;obtain⟨_,⟨rfl,_⟩|⟨_,_,_,J,_⟩⟩:=h
 ·obtain⟨a,n,c,h,_⟩:=E;cases h
 ·exact qp J hm
theorem eD.put {g:Nat} {D E:Told} (h:eD w g m sv gs ai k o D) (J:ad (fun r=>r=m) w w') (h':dG w' g m ai k o E):eD w' g m sv gs ai k o E:=
 ⟨h.1.U J (fun he=>qp h.1 h.2.2.1 he),aZ h.2.1 J (fun r O he=>yI h.2.1 h.2.2.1 O he),h'.2⟩
theorem eD.nN {g:Nat} {D:Told} (h:eD w g m sv gs ai k o D):g<w.heap.size∧m<w.heap.size∧ ∀ r,leads sv r→r<w.heap.size:=
 ⟨h.1.lt,h.2.2.1.lt,fun r E=>by obtain⟨rfl,J⟩:=bp h.2.1 E;exact J⟩
instance (s t:List Int):Decidable (cJ s t):=decidable_of_iff ((cp s t 0).isSome=true) ⟨fun h=>by
 cases E:cp s t 0 with
 |none=>rw[E] at h;cases h
 |some n=>exact⟨n,E⟩,fun⟨n,h⟩=>by rw[h];rfl⟩
theorem qq (h:ay .i64 w sv l) (am:l.length≤1000000):ag x5 vo [sv] w fun v w'=>Ext w w'∧ ∃ g,w.heap.size≤g∧ak .i64 ab w' g v l:=by
 refine ap func94 ?_;rw[aK an.u h];refine ih (k:=.i64) al.u ab.i (by omega) (by omega) fun g U ao O W=>?_;have Z:ak .i64 ab U g (.slice (some ⟨g,0,none⟩) l.length l.length) (u6 l.length 0):=by
  have:=bz.full (k:=1) (n:=l.length) W (by simp) (by simp[maxLen];omega);exact ak.of this
 rw[aK an.u (h.ext O)];have aq:=W.lt;refine bS.range l.length (fun i V=>ad (fun r=>r=g) U V∧ak .i64 ab V g (.slice (some ⟨g,0,none⟩) l.length l.length) (l.take i++u6 (l.length-i) 0)) h.le ⟨ad.refl _ _,by simpa using Z⟩ ?_ ?_
 rotate_left
 ·rintro V aa ⟨J,E⟩;rw[aC,af];rw[o5,X9,List.replicate_zero,Y8] at E;exact⟨fun h=>by omega,fun _=>⟨O.put J (by omega),g,by omega,E⟩⟩
 rintro i V aa hi ⟨J,E⟩ ac;obtain⟨x,X⟩:=aE (l:=l) hi;have ae:Ext w V:=O.put J (by omega);refine bC (by omega) ?_;rw[a1 an.u aj.i (by kernel_rfl) (h.ext ae) X];rw[gn rfl al.u ab.i E (by simp;omega)];refine gp ab.i E (by simp;omega) fun au ah av Y=>?_;rw[aB];refine ac _ ⟨J.trans ah,?_⟩;have e:(l.take i++u6 (l.length-i) 0).set i x=l.take (i+1)++u6 (l.length-(i+1)) 0:=by
  have ai:(l.take i).length=i:=by rw[o6];omega
  rw[List.set_append_right _ _ (by omega),ai,X9,show l.length-i=(l.length-(i+1))+1 by omega,List.replicate_succ,List.set_cons_zero,u5,X,j5,Y2];rfl
 rw[e] at Y;exact Y
def G8 (w:x1) (l:List Int) (k o:Int) (v:y0) (w':x1):Prop:=
 Ext w w'∧(¬bD l→v= .tuple #[.pointer none,.int .i64 1])∧(bD l→¬cv o k→v= .tuple #[.pointer none,.int .i64 3])∧
  (bD l→cv o k→ ∃ g m sv gs,v= .tuple #[.pointer (some ⟨g,0,none⟩),.int .i64 0]∧w.heap.size≤g∧w.heap.size≤m∧(∀ r,leads sv r→w.heap.size≤r)∧eD w' g m sv gs l k o [])
theorem G9 (h:ay .i64 w sv l):ag x5 l0 [sv,.int .i64 k,.int .i64 o] w (G8 w l k o):=by
 refine ap func169 ?_;refine aI (fun v Z=>Ext w Z∧ ∃ c,v= .bool c∧(c=true↔¬bD l)) ?_ ?_
 ·rintro _ Z ⟨O,c,rfl,U⟩;rw[ca];refine⟨fun aa=>⟨O,fun _=>rfl,fun h=>absurd h (U.1 aa),fun h=>absurd h (U.1 aa)⟩,fun ae=>?_⟩;have E:bD l:=Classical.byContradiction fun h=>by have:=U.2 h;rw[ae] at this;cases this
  have an:=E.1;refine k7.mono ?_;rintro _ V _ ⟨rfl,J⟩;by_cases hi:cv o k
  rotate_left
  ·simp only[hi,decide_false,bJ,Y9,bq];exact⟨O.trans J,fun h=>absurd E h,fun _ _=>rfl,fun _ h=>absurd h hi⟩
  simp only[hi,decide_true,bJ,Y0,aR];refine (ij ((h.ext O).ext J) (by omega)).mono ?_;rintro ab ao _ ⟨ac,ah,aq,hm⟩;have au:=hm.ls.cells;refine p5 fun m av aw W ai=>?_;rw[ct (cs:=#[ab,.int .i64 k,.int .i64 o,.map (some m)]) (by obtain⟨_,_,_,_,_,rfl,_⟩:=hm.ls;kernel_rfl)];refine a7 fun g ax az X aj=>?_;have aA:=O.size;have aB:=J.size;have aC:=ac.size;have aD:=W.size;exact⟨((((O.trans J).trans ac).trans W).trans X),fun h=>absurd E h,fun _ h=>absurd hi h,fun _ _=>⟨g,m,ab,ah,rfl,by omega,by omega,fun r ak=>by have:=(bp hm ak).1;omega,aj,(hm.ext W).ext X,ai.ext X,E,hi,fun p am=>by cases am⟩⟩
 ·intro aE ad;rw[aK al.u h];simp only[br,af];refine⟨fun aF=>ad _ _ ⟨Ext.refl _,true,rfl,fun _ E=>by have:=E.1;omega,fun _=>rfl⟩,fun aG=>?_⟩;refine (xD h).mono ?_;rintro _ V _ ⟨rfl,J⟩;refine ad _ _ ⟨J,_,rfl,?_⟩;rw[decide_eq_true_eq];exact⟨fun Y E=>Y E.2,fun Y E=>Y ⟨by omega,E⟩⟩
structure yJ where
 ai:List Int
 k:Int
 o:Int
 D:Told
instance Lj:au yJ where
 n:=1
 rep _ _ R w cs a:=∃ g m sv gs,cs=[.pointer (some ⟨g,0,none⟩)]∧eD w g m sv gs a.ai a.k a.o a.D∧R g∧R m∧ ∀ r,leads sv r→R r
 len:=by rintro _ _ _ _ _ _ ⟨_,_,_,_,rfl,_⟩;rfl
 one:=by rintro _ _ _ _ _ _ ⟨_,_,_,_,rfl,_⟩ u hu;simp at hu;subst hu;rfl
 U:=by
  rintro _ _ R T w w' _ a ⟨g,m,sv,gs,rfl,h1,O,V,W⟩ J X;obtain⟨Y,Z,aa⟩:=h1.nN;exact⟨g,m,sv,gs,rfl,h1.U J (X g Y (.inr O)) (X m Z (.inr V)) fun r E=>X r (aa r E) (.inr (W r E)),O,V,W⟩
 mono:=by
  rintro _ _ _ R R' w _ a ⟨g,m,sv,gs,rfl,h1,O,V,W⟩ _ ab;obtain⟨Y,Z,aa⟩:=h1.nN;exact⟨g,m,sv,gs,rfl,h1,ab g Y O,ab m Z V,fun r E=>ab r (aa r E) (W r E)⟩
 gi:=by
  rintro _ _ R w _ a ⟨g,m,sv,gs,rfl,h1,O,V,W⟩;exact⟨g,m,sv,gs,rfl,h1,.inr O,.inr V,fun r E=>.inr (W r E)⟩
abbrev fz:Type:=Rd (List Int)×yJ
def n5 (k:Int) (x:bG) (f:fz):Prop:=f.1=x.scope∧f.2.ai=x.sizes∧f.2.k=k∧f.2.o=min x.other k∧f.2.D.length≤x.lines.length∧ ∀ t,gw f.2.D f.2.o t=hU x k t
theorem Ha {m:Bool} {S R:am} {x:bG} (h:au.rep m S R w cs (fy x)):∃ aO szv bw,cs=[aO,szv,.int .i64 x.other,bw]∧au.rep (α:=List Int) false bd R w [aO] x.scope∧au.rep (α:=List Int) false bd R w [szv] x.sizes∧au.rep (α:=List (List Int×Int)) false bd R w [bw] x.lines:=by
 obtain⟨U,d1,X,Y,rfl,_,_,_,h1,V,d2,Z,aa,rfl,_,_,_,E,W,d3,ab,ac,rfl,_,_,_,O,J⟩:=h;have h1:au.rep (α:=List Int) false bd R w U x.scope:=h1;have E:au.rep (α:=List Int) false bd R w V x.sizes:=E;have O:W=[.int .i64 x.other]:=O;have J:au.rep (α:=List (List Int×Int)) false bd R w d3 x.lines:=J;obtain⟨u,rfl⟩:=V7.1 (show U.length=1 from au.len h1);obtain⟨v,rfl⟩:=V7.1 (show V.length=1 from au.len E);obtain⟨y,rfl⟩:=V7.1 (show d3.length=1 from au.len J);subst O;exact⟨u,v,y,rfl,h1,E,J⟩
theorem Hb {m:Bool} {S R:am} {p:List Int×Int} (h:au.rep m S R w cs p):∃ J,cs=[J,.int .i64 p.2]∧ay .i64 w J p.1:=by
 obtain⟨O,d1,U,V,rfl,_,_,_,h1,E⟩:=h;obtain⟨u,rfl⟩:=V7.1 (show O.length=1 from au.len h1);have E:d1=[.int .i64 p.2]:=E;subst E;exact⟨u,rfl,kr h1⟩
structure qs (k:Int) (x:bG):Prop where
 k:right k
 sizes:bD x.sizes
 other:0≤x.other
 lines:kw x.sizes x.lines
 len:x.lines.length≤60000
 scope:x.scope.length≤100001
theorem cL {k:o4} (h:ay k w v l):∃ a n c,v= .slice a n c:=by
 obtain⟨_,b,o,base,cap,rfl,_⟩:=h;exact⟨_,_,_,rfl⟩
set_option maxHeartbeats 4000000 in
theorem Hc {aM:Nat} {eT bi bj:y0} {K:Int} {R:am} {x:bG} (aN:aa w aM bT [eT,.int .i64 K,bi,bj]) (J:Seen R w cs (fy x)) (bk:qs K x):
  ag x5 rF [.pointer (some ⟨aM,0,none⟩),.agg cs.toArray] w fun v w'=>Ext w w'∧ ∃ ay,∃ f:fz,v= .agg ay.toArray∧ay.length=2∧Seen (dO w.heap.size) w' ay f∧n5 K x f:=by
 obtain⟨aO,szv,bw,rfl,h1,aQ,az⟩:=Ha J;obtain⟨al,aA,bX,aR,bY,bZ⟩:=bk;have b1:x.sizes.length≤6:=aA.1;refine ap func95 ?_;refine a7 fun bl aS b2 aT X=>?_;have X:aa aS bl bt [aO,szv,.int .i64 x.other,bw]:=by
  obtain⟨_,_,_,rfl⟩:=jQ h1;obtain⟨_,_,_,rfl⟩:=jQ aQ;obtain⟨_,_,_,rfl⟩:=jQ az;exact X
 refine bg bU.i fun Z V b3 aC an=>?_;have an:aa V Z bU [.slice none 0 0,.pointer none]:=an;intro b4 ao _ _;have aF:=(aT.trans aC).trans ao;have aG:=aC.trans ao;have b5:=aT.size;have b6:=aC.size;have z3:=ao.size;have b7:=an.lt;have aU:=aN.ext aF;rw[aP bt.p 1 (X.ext aG) rfl,aD bT.p 1 aU rfl,
  aP bt.p 2 (X.ext aG) rfl,aD bT.p 1 aU rfl,kk]
 refine (qq ((kr aQ).ext aF) (by omega)).mono ?_;rintro b8 b9 _ ⟨ae,ca,cb,bm⟩;refine⟨.inl ae,?_⟩;have z4:=ae.size;have bn:cv (min x.other K) K:=⟨al,by have:=al.1;omega,by omega⟩;refine (G9 bm.ls).mono ?_;rintro _ bo _ ⟨aq,_,_,bq⟩;obtain⟨gT,m,sv,gs,rfl,cc,cd,aV,br⟩:=bq aA bn;rw[a8,ba];have z5:=aq.size;have aH:=(aF.trans ae).trans aq;have aW:=(aG.trans ae).trans aq;rw[aP bt.p 3 (X.ext aW) rfl];have aX:=dc az aH;rw[iZ gH.u aX];refine bS.range x.lines.length (fun i E=>ad (fun r=>r=m) bo E∧ ∃ D,D.length≤i∧eD E gT m sv gs x.sizes K (min x.other K) D∧ ∀ t,gw D (min x.other K) t=jh x K i t) (rW aX) ⟨ad.refl _ _,[],r9 _,br,fun t=>by rw[yy];rfl⟩ ?_ ?_
 ·rintro i E bu hi ⟨O,D,aY,af,aI⟩ bx;obtain⟨p,aJ⟩:=aE (l:=x.lines) hi;have a1:=aR.2 p (x2 aJ);have ah:Ext w E:=aH.put O (by omega);have bz:=O.size;have bA:au.rep (α:=List (List Int×Int)) false bd R E [bw] x.lines:=dc az ah;refine bC (by omega) ?_;refine md dj.p rfl gH.u dj.i bA aJ fun ce bB=>?_;obtain⟨bD,rfl,a2⟩:=Hb bB;refine bg dj.i fun cg ch ci a6 bE=>?_;have cj:=a6.size;refine bP (vs:=[bD,.int .i64 p.2]) dj.i rfl rfl (by intro v ac;simp at ac;rcases ac with rfl|rfl <;> first|exact a2.cells.2|rfl) bE fun bF bH ck bb=>?_;have bI:Ext E bF:=a6.put bH (by omega);intro cl aK _ _;have Y:=bI.trans aK;have z9:=Y.size;rw[aP dj.p 0 (bb.ext aK) rfl,aP dj.p 1 (bb.ext aK) rfl,aD bT.p 1 ((aN.ext ah).ext Y) rfl,kk];have cm:=sB aA a1.1;refine (qq (a2.ext Y) (by omega)).mono ?_;rintro cn cp _ ⟨ai,cq,cr,bJ⟩;refine⟨.inl ai,?_⟩;have cu:=ai.size;refine (xL (c:=min p.2 K) ((af.ext Y).ext ai).is bJ.ls).mono ?_;rintro _ cw _ ⟨_,bK⟩;have bL:cv (min p.2 K) K:=⟨al,by have:=al.1;omega,by omega⟩;obtain⟨rfl,bc,bM,be,bf⟩:=bK ⟨a1.1,bL⟩;rw[aB];refine bx _ ⟨(O.trans ((Y.trans ai).U _)).trans bc,bM,by have:=be.2;omega,eD.put ((af.ext Y).ext ai) bc bf,fun t=>?_⟩;rw[yA aR.1 aJ,be.cost af.is.nodup bf.nodup];by_cases av:t=p.1
  ·rw[if_pos av,if_pos av]
  ·rw[if_neg av,if_neg av,aI]
 ·rintro E bu ⟨O,D,aY,af,aI⟩;have ah:Ext w E:=aH.put O (by omega);have bN:Ext aS E:=aW.put O (by omega);have bz:=O.size;refine cH (by omega) ?_;rw[aP bt.p 0 (X.ext bN) rfl];refine (qq ((kr h1).ext ah) (by omega)).mono ?_;rintro aw cz _ ⟨ax,bO,cA,aj⟩;have z12:=ax.size;rw[ct (cs:=#[aw,.pointer (some ⟨gT,0,none⟩)]) (by obtain⟨_,_,_,rfl⟩:=cL aj.ls;kernel_rfl)];have bQ:Ext V E:=((ao.trans ae).trans aq).put O (by omega);refine bP (vs:=[aw,.pointer (some ⟨gT,0,none⟩)]) bU.i rfl rfl (by intro v ac;simp at ac;rcases ac with rfl|rfl <;> first|exact aj.ls.cells.2|rfl) ((an.ext bQ).ext ax) fun bh aL cB bR=>?_;rw[eO bU.p bU.i rfl bR.range];have bV:eD bh gT m sv gs x.sizes K (min x.other K) D:=(af.ext ax).U aL (fun he=>by have he:gT=Z:=he;omega) (fun he=>by have he:m=Z:=he;omega) (fun r W he=>by have he:r=Z:=he;have:=aV r W;omega);have bW:ak .i64 ab bh bO aw x.scope:=aZ aj aL fun r W he=>by have he:r=Z:=he;have:=(bp aj W).1;omega
  refine⟨(ah.trans ax).put aL (by omega),_,(x.scope,⟨x.sizes,K,min x.other K,D⟩),rfl,rfl,?_,rfl,rfl,rfl,rfl,aY,fun t=>?_⟩
  ·exact⟨[aw],[.pointer (some ⟨gT,0,none⟩)],bd,bd,rfl,fun _ h=>h,fun _ h=>h,fun _ _ h _=>h,n1 bW fun r W=>by have:=(bp aj W).1;show w.heap.size≤r;omega,
    ⟨gT,m,sv,gs,rfl,bV,by show w.heap.size≤gT;omega,by show w.heap.size≤m;omega,fun r W=>by have:=aV r W;show w.heap.size≤r;omega⟩⟩
  ·rw[aI,yz]
theorem Hd {S R:am} {f:fz} (h:au.rep false S R w cs f):au.rep (α:=fz) true bd R w cs f:=by
 obtain⟨c,d,A,B,rfl,h1,O,_,E,J⟩:=h;exact⟨c,d,bd,bd,rfl,fun _ h=>h,fun _ h=>h,fun _ _ h _=>h,E,J⟩
def qt (k:Int) (E:List bG) (J:List fz):Prop:=J.length=E.length∧ ∀ (i:Nat) x f,E[i]? =some x→J[i]? =some f→n5 k x f
set_option maxHeartbeats 4000000 in
theorem He {m:Bool} {S R:am} {eT aL:y0} {K:Int} {J:List bG} {aX:x1→Prop} (aZ:aa w E bT [eT,.int .i64 K,szv,.slice none 0 0])
  (bi:au.rep m S R w [aL] (show List fP from J.map fy)) (bj:∀ r,S r∨R r→r≠E) (bk:∀ x∈J,qs K x) (cc:J.length≤256)
  (bm:∀ w' Z,∀ W:List fz,ad (fun r=>r=E) w w'→aa w' E bT [eT,.int .i64 K,szv,Z]→Seen (fun r=>w.heap.size≤r) w' [Z] W→qt K J W→aX w'):
  bS (.int .i64 0) w fun aM ai bo=>
   O x5 (ax .lss ab false false aM (.int .i64 (J.length:Int))) ai fun bp=>
   Split bp (O x5 (j9 hl aL aM) ai fun bq=>
   O x5 (x6 bt bq) ai fun br=>
   aw x5 (Instr.alloc bt true (.tuple #[])) ai fun x bu=>
   aw x5 (n0 bt x br) bu fun(_:Unit) bw=>
   du bw fun ah=>
   O x5 (bl (.pointer (some ⟨E,0,none⟩))) ah fun aj=>
   O x5 (x8 bT aj 3) ah fun ak=>
   O x5 (x6 cZ ak) ah fun aN=>
   O x5 (x6 bt x) ah fun bx=>
   ag x5 rF [(.pointer (some ⟨E,0,none⟩)),bx] ah fun bz al=>
    (Ext ah al∨bR x5 (x6 cZ ak) aN al∧bR x5 (x8 bT aj 3) ak al∧bR x5 (bl (.pointer (some ⟨E,0,none⟩))) aj al∧True)∧
   aw x5 (b6 cZ 1 #[(0,bz)]) al fun bA an=>
    (Ext ah an∨bR x5 (x6 cZ ak) aN an∧bR x5 (x8 bT aj 3) ak an∧bR x5 (bl (.pointer (some ⟨E,0,none⟩))) aj an∧True)∧
    aw x5 (l9 #[cZ,cZ] cZ #[aN,bA]) an fun bD aO=>
     O x5 (bl (.pointer (some ⟨E,0,none⟩))) aO fun bE=>
     O x5 (x8 bT bE 3) aO fun bF=>
     aw x5 (n0 cZ bF bD) aO fun(_:Unit) a1=>
     O x5 (ax .add ab false true aM (.int .i64 1)) a1 fun bH=>
   bo bH a1) (aX ai):=by
 have cd:=aZ.lt;have ce:(J.map fy).length=J.length:=by simp
 refine bS.range J.length (fun i X=>ad (fun r=>r=E) w X∧ ∃ Z,∃ W:List fz,∃ A R':am,aa X E bT [eT,.int .i64 K,szv,Z]∧dp A R' X [Z] W∧(∀ r,A r→w.heap.size≤r∧r<X.heap.size)∧(∀ r,R' r→w.heap.size≤r∧¬A r∧r<X.heap.size)∧qt K (J.take i) W) (by omega)
  ⟨ad.refl _ _,_,[],bd,bd,aZ,iY,fun _ h=>h.elim,fun _ h=>h.elim,rfl,fun i x f h=>by simp at h⟩ ?_ ?_
 rotate_left
 ·rintro X bI ⟨ao,Z,W,A,R',ap,aP,ac,aq,az⟩;rw[o5] at az;rw[aC,af];refine⟨fun h=>by omega,fun _=>bm X Z W ao ap (pz aP fun r _ h=>?_) az⟩;exact h.elim (fun h=>(ac r h).1) fun h=>(aq r h).1
 rintro i X bI hi ⟨ao,Z,W,A,R',ap,aP,ac,aq,a2,az⟩ bJ;obtain⟨x,aQ⟩:=aE (l:=J) hi;have bK:=bk x (x2 aQ);have cg:=ao.size;rw[o6] at a2;have bL:au.rep m S R X [aL] (show List fP from J.map fy):=au.U bi ao fun r _ h he=>bj r h he;refine bC (by omega) ?_;refine md (α:=fP) (a:=fy x) bt.p rfl hl.u bt.i bL (by show (J.map fy)[i]? =_;rw[x7,aQ];rfl) fun cs aR=>?_;have a6:cs.length=4:=au.len aR;have bM:Seen (fun r=>S r∨R r) X cs (fy x):=pz aR fun r _ h=>h;refine bg bt.i fun ch V ci a7 bN=>?_;have cj:=a7.size;refine bP (vs:=cs) bt.i a6 rfl (au.one aR) bN fun bO bQ ck bV=>?_;have bW:Ext X bO:=a7.put bQ (by omega);intro aA a8 _ _;have av:=bW.trans a8;have z4:=av.size;rw[aD bT.p 3 (ap.ext av) rfl,bn bt.p bt.i a6 (bV.ext a8).range];refine (Hc (ap.ext av) (dc bM av) bK).mono ?_;rintro _ aG _ ⟨aH,ba,f,rfl,cl,ae,bX⟩;have z5:=aH.size;refine⟨.inl aH,?_⟩;have bb:=Hd ae;have bY:=av.trans aH;refine k6 (α:=fz) (a:=f) (cs:=ba) (A:=bd) (R:=dO aA.heap.size) cZ.u bU.i (by decide) (by
  obtain⟨c,d,cm,cn,he,_,_,_,aI,bZ⟩:=ae;have aI:au.rep (α:=List Int) false bd _ aG c f.1:=aI;obtain⟨u,rfl⟩:=V7.1 (show c.length=1 from au.len aI);obtain⟨cp,cq,cr,ct,rfl,_⟩:=bZ;obtain⟨_,_,_,rfl⟩:=jQ aI;cases he;rfl) bb fun u aS aJ _ hu=>?_
 have cu:=aJ.size;refine⟨.inl (aH.trans aJ),?_⟩;have aT:=bY.trans aJ;have b1:dp A (fun r=>R' r∨(aA.heap.size≤r∧r<aG.heap.size)) aS [Z] W:=dc (au.mono aP (fun _ _ h=>h) fun _ _ h=>.inl h) aT;have b2:dp bd (fun r=>R' r∨(aA.heap.size≤r∧r<aG.heap.size)) aS ba f:=dc (au.mono bb (fun _ _ h=>h) fun r Y h=>.inr ⟨h,Y⟩) aJ;refine me (α:=fz) (a:=f) (A:=bd) cZ.u bU.i rfl b1 hu b2 (fun r _ bc h=>?_) (by omega) (by omega) fun be b3 aU aV=>?_
 ·rcases h with h|h|h
  ·exact h
  ·exact (aq r h).2.1 bc
  ·have:=(ac r bc).2;omega
 have cw:=aV.size;rw[bB,aF bT.p rfl];have b4:=(ap.ext aT).U aV (fun he=>by have:=(ac _ he).1;omega);refine aY (g:=E) (o:=3) cZ.i (pA aU) (rV aU) b4 (by simp) fun b5 bf cz aW=>?_;have aW:aa b5 E bT [eT,.int .i64 K,szv,be]:=aW;rw[aB];have b7:=ko aU;refine bJ _ ⟨(fL (ao.trans (aT.U _)) aV fun r Y he=>by have:=(ac _ he).1;omega).trans bf,be,W++[f],fun r=>((A r∨bd r∨aS.heap.size≤r)∧r<b3.heap.size),fun r=>R' r∨(aA.heap.size≤r∧r<aG.heap.size),aW,au.U b7 bf fun r _ h he=>?_,fun r Y=>?_,fun r Y=>?_,?_,fun j b8 b9 aK ay=>?_⟩
 ·have he:r=E:=he;rcases h with h|h|h
  ·rcases h.1 with h1|h1|h1
   ·have:=(ac _ h1).1;omega
   ·exact h1
   ·omega
  ·have:=(aq r h).1;omega
  ·omega
 ·have cA:=Y.2;rcases Y.1 with h1|h1|h1
  ·have:=(ac _ h1).1;omega
  ·exact h1.elim
  ·omega
 ·rcases Y with Y|Y
  ·have bh:=aq r Y;refine⟨bh.1,fun h=>?_,by omega⟩;rcases h.1 with h1|h1|h1
   ·exact bh.2.1 h1
   ·exact h1
   ·omega
  ·refine⟨by omega,fun h=>?_,by omega⟩;rcases h.1 with h1|h1|h1
   ·have:=(ac _ h1).2;omega
   ·exact h1
   ·omega
 ·rw[u7,o6,a2];simp;omega
 ·have ca:=(x3.1 ay).1;rw[u7,V5] at ca;rw[c7 (by omega)] at aK;by_cases cb:j<W.length
  ·rw[Z4 cb] at ay;exact az j b8 b9 (by rw[c7 (by omega)];exact aK) ay
  ·rw[Z7 (by omega),show j-W.length=0 by omega] at ay;rw[show j=i by omega,aQ] at aK;cases ay;cases aK;exact bX
def ji (w:x1) (O:Nat) (f:bu):Prop:=∃ szv E gz,∃ J:List fz,aa w O bT [be f.name,.int .i64 f.k,szv,E]∧ak .i64 ab w gz szv f.sizes∧Seen vV w [E] J∧qt f.k f.funs J
theorem ji.ext {f:bu} (h:ji w E f) (J:Ext w w'):ji w' E f:=by
 obtain⟨szv,O,gz,U,h1,V,W,X⟩:=h;exact⟨szv,O,gz,U,h1.ext J,V.ext J,dc W J,X⟩
def yK (w:x1) (res:Option bu) (v:y0) (w':x1):Prop:=Ext w w'∧match res with
 |none=>∃ n e:Int,v= .tuple #[.pointer none,.int .i64 n,.int .i64 e]∧e≠0
 |some f=>∃ E,∃ n:Int,v= .tuple #[.pointer (some ⟨E,0,none⟩),.int .i64 n,.int .i64 0]∧ji w' E f
structure Hf (clean:Bool) (so:Option aq) (name:List Int) (k:Int) (sizes:List Int) (acc:List fP) (res:Option bu):Prop where
 mz:∀ s,so=some s→s.toks=[]→clean=true→s.big=false→ ∃ fs,acc=fs.map fy∧res=some ⟨name,k,sizes,fs⟩∧(∀ x∈fs,qs k x)∧fs.length≤256∧sizes.length≤1000000
 bad:res≠none→ ∃ s,so=some s∧s.toks=[]∧clean=true∧s.big=false
set_option maxHeartbeats 8000000 in
theorem Hg {w0:x1} {g:Nat} {A B S R:am} {m:Bool} {so:Option aq} {name:List Int} {acc:List fP} {res:Option bu} {aN p:y0} {bJ:List Int} {Q:y0→x1→Prop}
  (aW:fx w g gs A B clean so) (an:Hf clean so name k sizes acc res) (bK:ay .i64 w szv sizes) (bL:∀ r,leads szv r→r≠g∧r≠gs) (bM:au.rep m S R w [aN] acc) (bn:∀ r,S r∨R r→r≠g∧r≠gs∧r<w.heap.size)
  (dk:so=none→True) (dl:g<w.heap.size) (dm:gs<w.heap.size) (bN:ad (fun r=>w0.heap.size≤r) w0 w) (dn:w0.heap.size≤g) (dp:w0.heap.size≤gs) (bO:ay .u8 w0 p bJ)
  (aB:∀ v w',yK w0 res v w'→Q v w'):
  bX (α:=x1→Prop) (fun(E:x1)=>
  O x5 (bl (.pointer (some ⟨g,0,none⟩))) E fun bP=>
  O x5 (x8 bF bP 1) E fun bQ=>
  O x5 (x8 dS bQ 0) E fun bU=>
  O x5 (x6 hK bU) E fun bV=>
  O x5 (ax .neq hK false true bV (.int .i64 0)) E fun bW=>
  Split bW (du E fun ae=>
   O x5 (bl (.pointer (some ⟨g,0,none⟩))) ae fun bY=>
   O x5 (x8 bF bY 1) ae fun bZ=>
   O x5 (x8 dS bZ 2) ae fun b1=>
   O x5 (x6 ab b1) ae fun b2=>
   O x5 (bl (.pointer (some ⟨g,0,none⟩))) ae fun b3=>
   O x5 (x8 bF b3 1) ae fun b4=>
   O x5 (x8 dS b4 0) ae fun b7=>
   O x5 (x6 hK b7) ae fun b8=>
   Q (.tuple #[(.pointer none),b2,b8]) ae)
   (O x5 (bl (.pointer (some ⟨g,0,none⟩))) E fun b9=>
   O x5 (x8 bF b9 1) E fun ca=>
   O x5 (x8 dS ca 1) E fun cb=>
   O x5 (x6 hK cb) E fun cc=>
   O x5 (ax .neq hK false true cc (.int .i64 0)) E fun cd=>
   Split cd (du E fun ah=>
   O x5 (bl (.pointer (some ⟨g,0,none⟩))) ah fun ce=>
   O x5 (x8 bF ce 1) ah fun cg=>
   O x5 (x8 dS cg 3) ah fun ch=>
   O x5 (x6 ab ch) ah fun ci=>
   O x5 (bl (.pointer (some ⟨g,0,none⟩))) ah fun cj=>
   O x5 (x8 bF cj 1) ah fun ck=>
   O x5 (x8 dS ck 1) ah fun cl=>
   O x5 (x6 hK cl) ah fun cm=>
   Q (.tuple #[(.pointer none),ci,cm]) ah)
   (ag x5 vo [szv] E fun cn bo=>
  O x5 (Instr.build bT #[(0,be name),(1,.int .i64 k),(2,cn)]) bo fun cp=>
  aw x5 (Instr.box bT cp) bo fun ao bp=>
  O x5 (Y4 #[hl] ab #[aN]) bp fun cq=>
  bS (.int .i64 0) bp fun aX ap cr=>
   O x5 (ax .lss ab false false aX cq) ap fun cu=>
   Split cu (O x5 (j9 hl aN aX) ap fun cw=>
   O x5 (x6 bt cw) ap fun cz=>
   aw x5 (Instr.alloc bt true (.tuple #[])) ap fun x cA=>
   aw x5 (n0 bt x cz) cA fun(_:Unit) cB=>
   du cB fun al=>
   O x5 (bl ao) al fun aC=>
   O x5 (x8 bT aC 3) al fun aE=>
   O x5 (x6 cZ aE) al fun aY=>
   O x5 (x6 bt x) al fun cC=>
   ag x5 rF [ao,cC] al fun cD aG=>
    (Ext al aG∨bR x5 (x6 cZ aE) aY aG∧bR x5 (x8 bT aC 3) aE aG∧bR x5 (bl ao) aC aG∧True)∧
   aw x5 (b6 cZ 1 #[(0,cD)]) aG fun cF aH=>
    (Ext al aH∨bR x5 (x6 cZ aE) aY aH∧bR x5 (x8 bT aC 3) aE aH∧bR x5 (bl ao) aC aH∧True)∧
    aw x5 (l9 #[cZ,cZ] cZ #[aY,cF]) aH fun cG aZ=>
     O x5 (bl ao) aZ fun cH=>
     O x5 (x8 bT cH 3) aZ fun cI=>
     aw x5 (n0 cZ cI cG) aZ fun(_:Unit) br=>
     O x5 (ax .add ab false true aX (.int .i64 1)) br fun cJ=>
   cr cJ br)
    (O x5 (Y4 #[b5] ab #[p]) ap fun cK=>
  Q (.tuple #[ao,cK,(.int .i64 0)]) ap)))) fun aO=>
 ag x5 iP [(.pointer (some ⟨g,0,none⟩))] w fun cM aI=>
 Split cM (O x5 (bl (.pointer (some ⟨g,0,none⟩))) aI fun cN=>
  O x5 (x8 bF cN 0) aI fun cO=>
  O x5 (x6 po cO) aI fun cP=>
  ag x5 rE [cP] aI fun a1 ak=>
  O x5 (c9 a1 0) ak fun dq=>
  O x5 (c9 a1 1) ak fun bw=>
  O x5 (c9 a1 2) ak fun a2=>
  O x5 (ax .eql hK false true a2 (.int .i64 0)) ak fun cQ=>
  Split cQ (ag x5 kV [(.pointer (some ⟨g,0,none⟩)),(.int .i64 4),bw] ak fun dr cR=>
  aO cR)
  (O x5 (ax .eql hK false true a2 (.int .i64 11)) ak fun cS=>
  Split cS (ag x5 kV [(.pointer (some ⟨g,0,none⟩)),a2,bw] ak fun ds cT=>
   aO cT)
   (aO ak)))
  (aO aI):=by
 refine cX (fun E=>ad (fun r=>r=g∨r=gs) w E∧ ∃ (e big ai aj told:Int) (sv:y0),aa E g bF (eB gs e big ai aj told sv)∧((e≠0∧res=none)∨(e=0∧ ∃ s,so=some s∧s.toks=[]∧clean=true∧(s.big=true↔big≠0)))) ?_ ?_
 rotate_left
 ·intro cU a6;refine (yl aW).mono ?_;rintro _ aP _ ⟨rfl,aJ⟩;cases so with
  |none=>
   rw[show (none:Option aq).isSome=false from rfl,aR];obtain⟨e,big,ai,aj,told,sv,W,a8⟩:=aW.ext aJ;refine a6 _ ⟨aJ.U _,e,big,ai,aj,told,sv,W,.inl ⟨a8,?_⟩⟩;cases Z:res with
   |none=>rfl
   |some f=>obtain⟨s,h,_⟩:=an.bad (by rw[Z];simp);cases h
  |some s=>
   rw[show (some s:Option aq).isSome=true from rfl,bq];have cV:cE aP g gs A B s clean:=aW.ext aJ;obtain⟨aQ,cW,cY,big,ai,aj,told,sv,W,a8,c0⟩:=id cV;rw[aD bF.p 0 W rfl];refine (nK cW).mono ?_;rintro v V _ ⟨az,ac⟩;have c1:(s.toks≠[]∨clean=false)→res=none:=fun J=>by
    cases Z:res with
    |none=>rfl
    |some f=>
     obtain⟨s',h,aL,bx,_⟩:=an.bad (by rw[Z];simp);cases h;rcases J with J|J
     ·exact absurd aL J
     ·rw[J] at bx;cases bx
   have aS:∀ X,ad (fun r=>r=g) V X→dz X g gs A B→(s.toks≠[]∨clean=false)→cU X:=fun X aM aS J=>by
    obtain⟨_,e,big,ai,aj,told,sv,l,c2,c3,_⟩:=aS;exact a6 _ ⟨((aJ.U _).trans (az.mono fun r _ h=>.inr h)).trans (aM.mono fun r _ h=>.inl h),e,big,ai,aj,told,sv,c2,.inl ⟨c3.1,c1 J⟩⟩
   have ba:=W.U az aQ.1;have bz:=au.U c0 az fun r _ h aL=>by
    have aL:r=gs:=aL;subst aL;rcases h with h|h
    ·exact aQ.2.2.1 h
    ·exact h.1 (.inr (.inl rfl))
   have bA:s.shared.length≤100000:=by have:=cY.2.2;omega
   cases aA:s.toks with
   |cons t l=>
    rw[aA] at ac;obtain⟨dt,n,rfl⟩:=ac;rw[e1,e2,e3,bc,af];refine⟨fun _=>?_,fun h=>absurd rfl h⟩;refine (pZ (aQ.U az) ba bz (by omega) bA).mono ?_;rintro _ X _ ⟨aM,bb⟩;exact aS X aM bb (.inl (by rw[aA];simp))
   |nil=>
    rw[aA] at ac;obtain⟨n,rfl⟩:=ac;rw[e1,e2,e3,bc,af];refine⟨fun h=>by cases clean <;> simp at h,fun _=>?_⟩;rw[bc,af];cases aT:clean with
    |true=>
     subst aT;refine⟨fun h=>by simp at h,fun _=>a6 _ ⟨(aJ.U _).trans (az.mono fun r _ h=>.inr h),0,big,ai,aj,told,sv,ba,.inr ⟨rfl,s,rfl,aA,rfl,a8.1⟩⟩⟩
    |false=>
     subst aT;refine⟨fun _=>?_,fun h=>absurd rfl h⟩;refine (pZ (aQ.U az) ba bz (by simp) bA).mono ?_;rintro _ X _ ⟨aM,bb⟩;exact aS X aM bb (.inr rfl)
 ·rintro aP ⟨aU,e,big,ai,aj,told,sv,W,c4⟩;have dv:=aU.size;have bd:Ext w0 aP:=(bN.ext fun r Z h=>by omega).then aU (fun r Z h=>by rcases h with h|h <;> omega);rw[bB,aF bF.p rfl,aF dS.p rfl,av (by kernel_rfl) (W.cell (o:=0+1+0) rfl),bj,af];rcases c4 with⟨he,bf⟩|⟨rfl,s,rfl,aA,aT,bC⟩
  ·refine⟨fun _=>?_,fun h=>absurd he h⟩;intro V Y _ _;rw[bB,aF bF.p rfl,aF dS.p rfl,av (by kernel_rfl) ((W.ext Y).cell (o:=0+1+2) rfl),bB,aF bF.p rfl,aF dS.p rfl,av (by kernel_rfl) ((W.ext Y).cell (o:=0+1+0) rfl)];rw[bf] at aB;exact aB _ _ ⟨bd.trans Y,ai,e,rfl,he⟩
  ·refine⟨fun h=>absurd rfl h,fun _=>?_⟩;rw[bB,aF bF.p rfl,aF dS.p rfl,av (by kernel_rfl) (W.cell (o:=0+1+1) rfl),bj,af];refine⟨fun J=>?_,fun J=>?_⟩
   ·have bf:res=none:=by
     cases Z:res with
     |none=>rfl
     |some f=>
      obtain⟨s',h,_,_,bD⟩:=an.bad (by rw[Z];simp);cases h;rw[bC.2 J] at bD;cases bD
    intro V Y _ _;rw[bB,aF bF.p rfl,aF dS.p rfl,av (by kernel_rfl) ((W.ext Y).cell (o:=0+1+3) rfl),bB,aF bF.p rfl,aF dS.p rfl,av (by kernel_rfl) ((W.ext Y).cell (o:=0+1+1) rfl)];rw[bf] at aB;exact aB _ _ ⟨bd.trans Y,aj,big,rfl,J⟩
   ·have c5:s.big=false:=by
     cases c6:s.big with
     |false=>rfl
     |true=>exact absurd (bC.1 c6) J
    obtain⟨bg,rfl,rfl,c7,c8,da⟩:=an.mz s rfl aA aT c5;have db:ay .i64 aP szv sizes:=hQ bK aU fun r Z a n c ac an=>by
     have:=bL r ⟨a,n,c,ac,an⟩;exact Z.elim this.1 this.2
    refine (qq db da).mono ?_;rintro bh V _ ⟨Y,gz,dw,bi⟩;have dx:=Y.size;rw[ct (cs:=#[be name,.int .i64 k,bh,.slice none 0 0]) (by obtain⟨_,_,_,rfl⟩:=cL bi.ls;kernel_rfl)];refine a7 fun bk X dy bm aV=>?_;have aV:aa X bk bT [be name,.int .i64 k,bh,.slice none 0 0]:=by obtain⟨_,_,_,rfl⟩:=cL bi.ls;exact aV
    have bE:au.rep m S R X [aN] (show List fP from bg.map fy):=dc (dc (au.U bM aU fun r _ h he=>by have:=bn r h;exact he.elim this.1 this.2.1) Y) bm;have dd:(bg.map fy).length=bg.length:=by simp
    rw[iZ hl.u bE,dd];refine He aV bE (fun r h=>by have:=bn r h;omega) c7 c8 fun bG de df dg dh di dj=>?_;have dA:=aV.lt;have z3:=bm.size;have bH:Ext V bG:=bm.then dg (fun r Z h=>by have h:r=bk:=h;omega);have bI:Ext w0 bG:=(bd.trans Y).trans bH;rw[aK b5.u (bO.ext bI)];exact aB _ _ ⟨bI,bk,_,rfl,bh,de,gz,df,dh,bi.ext bH,D2 di,dj⟩
theorem yL {α:Type} {f:List α→aq→Option (α×aq)} {acc:List α} {s:aq}:eo f (n+1) acc (some s)=match f acc s with
  |none=>none
  |some (a,s')=>eo f n (acc++[a]) (some s'):=by
 show bZ f (n+1) acc s=_;simp only[bZ];cases f acc s <;> rfl
set_option maxHeartbeats 4000000 in
theorem Hh {g:Nat} {A B:am} {s:Option aq} {most:Int} {av:y0→x1→Prop} (h:cK w g gs A B clean s) (aW:(N:Int)≤ah)
  (ay:∀ szv w' l so gz,ad (bf g gs A) w w'→cK w' g gs A B clean so→ak .i64 aj w' gz szv l→w.heap.size≤gz→l.length≤100001→(∀ q,eo (eb most) N [] s=some q→so=some q.2∧l=q.1)→(eo (eb most) N [] s=none→so=none)→av szv w'):
 bO (.slice none 0 0) (.int .i64 0) w fun sizes i ab k=>
  bX (α:=y0→x1→Prop) (fun(aX:y0) (az:x1)=>
   Split aX (ag x5 kU [.pointer (some ⟨g,0,none⟩),(.int .i64 1),.int .i64 most] az fun aA Y=>
  O x5 (c9 aA 0) Y fun aD=>
  O x5 (c9 aA 1) Y fun aY=>
  O x5 (ax .gtr aj false true aD (.int .i64 32)) Y fun a1=>
  ag x5 ns [.pointer (some ⟨g,0,none⟩),a1,aY] Y fun bM a2=>
  aw x5 (b6 an 1 #[(0,aD)]) a2 fun a6 a7=>
  aw x5 (l9 #[an,an] an #[sizes,a6]) a7 fun bb aE=>
  O x5 (ax .add aj false true i (.int .i64 1)) aE fun bc=>
  k bb bc aE) (av sizes az)) fun ac=>
  O x5 (ax .lss aj false false i (.int .i64 (N:Int))) ab fun bd=>
  Split bd (ag x5 iP [.pointer (some ⟨g,0,none⟩)] ab fun be bg=>
  ac be bg)
   (ac (.bool false) ab):=by
 obtain⟨bN,aF,bP,bh,bi⟩:=h.side;have gT:∀ r,bf g gs A r→r<w.heap.size:=bh;unfold ah at aW;generalize bj:eo (eb most) N [] s=aG at ay;refine⟨fun out ae W=>∃ (i:Nat) (l:List Int) (so:Option aq) (gz:Nat),ae= .int .i64 (i:Int)∧i≤N∧ad (bf g gs A) w W∧ak .i64 aj W gz out l∧w.heap.size≤gz∧cK W g gs A B clean so∧aG=eo (eb most) (N-i) l so∧l.length≤100001∧ ∀ st,so=some st→l.length+st.toks.length≤100000,
  fun _ ae _=>N-(bk ae).toNat,⟨0,[],s,w.heap.size,rfl,Z5 _,ad.refl _ _,ak.nil _ _ _ _,r9 _,h,bj.symm,by simp,fun st bl=>?_⟩,?_⟩
 ·subst bl;have:=h.words;simpa using this
 rintro out _ W ⟨i,l,so,gz,rfl,bQ,ai,aH,bm,aJ,Z,bn,aK⟩;refine aI (fun v aL=>Ext W aL∧((v= .bool true∧i<N∧ ∃ st,so=some st)∨(v= .bool false∧(so=none∨i=N)))) ?_ ?_
 rotate_left
 ·intro ac al;rw[aC,af];refine⟨fun bo=>?_,fun bR=>al _ _ ⟨Ext.refl _,.inr ⟨rfl,.inr (by omega)⟩⟩⟩;refine (mE aJ).mono ?_;rintro _ aL _ ⟨rfl,aM⟩;cases so with
  |none=>exact al _ _ ⟨aM,.inr ⟨rfl,.inl rfl⟩⟩
  |some st=>exact al _ _ ⟨aM,.inl ⟨rfl,by omega,st,rfl⟩⟩
 rintro _ V ⟨X,bt⟩;have aN:=aH.ext X;have aO:=aJ.ext X;rcases bt with⟨rfl,bo,st,rfl⟩|⟨rfl,bu⟩
 rotate_left
 ·rw[aR];have aP:aG=so.map fun st=>(l,st):=by
   rcases bu with rfl|rfl
   ·exact Z
   ·rw[X9] at Z;rw[Z];cases so <;> rfl
  refine ay out V l so gz (ai.trans (X.U _)) aO aN bm bn (fun q E=>?_) fun aT=>?_
  ·rw[aP] at E;cases so with
   |none=>cases E
   |some st=>cases E;exact⟨rfl,rfl⟩
  ·rw[aP] at aT;cases so with
   |none=>rfl
   |some st=>cases aT
 rw[bq];have aK:=aK st rfl;refine (jP (s:=some st) aO).mono ?_;rintro _ bS _ ⟨ao,z,at_,rfl,bw,bT⟩;obtain⟨ap,bx⟩:=ao.of;rw[a8,ba,br];refine (nY bx).mono ?_;rintro _ bU _ ao;obtain⟨au,bz⟩:=ao.of;refine dM an.u aj.i rfl fun a bV bA bY aa bB=>?_;have bZ:=ai.size;have b1:=X.size;have z3:=ap.size;have z4:=au.size;have z5:=aa.size;have aU:∀ r,leads out r→¬bf g gs A r:=fun r J bC=>by have:=gT r bC;have:=(bp aH J).1;omega
 have bD:=aZ (aZ aN ap aU) au aU;refine hr an.u aj.i rfl (bD.ext aa) bB.ls (by simp;omega) (by simp;omega) fun b2 bE bF b3 bG aV=>?_;rw[aB,wrap_i64 (by omega) (by omega)];have bH:ad (bf g gs A) w bA:=((((ai.trans (X.U _)).trans ap).trans au).trans (aa.U _));have bI:ad (bf g gs A) w bF:=fL bH aV fun r J he=>by have he:r=gz:=he;omega
 have bJ:∀ r,bf g gs A r→¬(fun r=>r=gz) r:=fun r J he=>by have:=gT r J;have he:r=gz:=he;omega
 have bK:∀ r,bW g gs A B r→¬(fun r=>r=gz) r:=fun r J he=>by have:=bi r J.2;have he:r=gz:=he;omega
 refine⟨⟨i+1,l++[z],_,bE,rfl,by omega,bI,bG,by omega,(bz.ext aa).U aV bJ bK,?_,by simp;omega,fun b4 bL=>?_⟩,by simp only[bk];omega⟩
 ·rw[Z,show N-i=(N-(i+1))+1 by omega,yL];unfold eb;cases E:aS 1 most st with
  |none=>have e:aQ 1 most (some st)=none:=E;rw[e];rfl
  |some q=>
   have e:aQ 1 most (some st)=some q:=E;have:=bw q e;subst this;rw[e];rfl
 ·obtain⟨b5,aF,rfl⟩:=Z2.1 bL;obtain⟨q,E,rfl⟩:=Z2.1 aF;have h1:=(cB (n:=q.1) (s':=q.2) E).1;simp only[u7,V5];show l.length+1+q.2.toks.length≤100000;omega
theorem Hi {acc:List (List Int×Int)} {s s':aq} {a:List Int×Int} (h:dd sizes acc s=some (a,s')):s'.told=s.told∧s'.big=s.big:=by
 obtain⟨_,_,_,E⟩:=lj h;exact⟨E.eqs.1,E.eqs.2.1⟩
theorem Hj {s s':aq} {l:List (List Int×Int)} (hi:de s) (h:cR sizes s=some (l,s')):de s'∧(s.big=true→s'.big=true):=by
 have e:=yi sizes (some s);rw[show gP sizes (some s)=cR sizes s from rfl,h] at e;cases U:aQ (-ah) ah (some s) with
 |none=>rw[U] at e;cases e
 |some q=>
  obtain⟨n,J⟩:=q;rw[U] at e;simp only at e;have h1:=(cB (n:=n) (s':=J) U).eqs;have X:de J:=fun E=>by rw[h1.1];rw[h1.2.1] at E;exact hi E
  split at e
  ·cases W:J.shared[(-n-1).toNat]? with
   |none=>rw[W] at e;cases e
   |some q=>
    obtain⟨z,l'⟩:=q;rw[W] at e;simp only at e;split at e
    ·cases e;exact⟨X,fun E=>by rw[h1.2.1];exact E⟩
    ·cases e
  ·have:=gM (f:=dd sizes) (fun acc t=>t.told=(hY n J).told∧t.big=(hY n J).big) (fun acc t a Y ⟨V,O⟩ g=>by
    have:=Hi g;exact⟨by rw[this.1,V],by rw[this.2,O]⟩) n.toNat [] _ l s' ⟨rfl,rfl⟩ e.symm
   obtain⟨⟨V,O⟩,_⟩:=this;refine⟨fun E=>by rw[V];rw[O] at E;exact GB n J E,fun E=>?_⟩;rw[O];show (J.big||_)=true;rw[h1.2.1,E];rfl
theorem Hk {s s':aq} {x:bG} (hi:de s) (h:ck all s=some (x,s')):de s'∧s'.toks.length<s.toks.length:=by
 unfold ck at h;cases U:aS (-ah) ah s with
 |none=>rw[U] at h;cases h
 |some q=>
 obtain⟨a,ac⟩:=q;rw[U] at h;simp only at h;have t0:=cB U;cases h1:dN all.length a.natAbs ac with
 |none=>rw[h1] at h;cases h
 |some q=>
 obtain⟨sc,J⟩:=q;rw[h1] at h;simp only at h;obtain⟨V,_⟩:=pW h1;generalize sc.map (fun v=>all.getD v.toNat 0)=sizes at h;cases W:aS 0 ah (aM (decide (6<a.natAbs)||cI sizes) J) with
 |none=>rw[W] at h;cases h
 |some q=>
 obtain⟨other,X⟩:=q;rw[W] at h;simp only at h;have Y:=cB W;have ad:de X:=fun E=>by
  rw[Y.eqs.1];rw[Y.eqs.2.1] at E;have E:(J.big||_)=false:=E;have aa:=(U3.1 E).1;show J.told≤16384;rw[V.eqs.1,t0.eqs.1];rw[V.eqs.2.1,t0.eqs.2.1] at aa;exact hi aa
 cases O:cR sizes X with
 |none=>rw[O] at h;cases h
 |some q=>
 obtain⟨lines,Z⟩:=q;rw[O] at h;simp only[b8,W5] at h;obtain⟨_,rfl⟩:=h;have ae:=Hj ad O;have ai:=yp O;have aj:=t0.1;have ak:=V.1;have al:J.toks.length=X.toks.length+1:=Y.1;have ab:∀ t:aq,t.told=Z.told∧t.big=Z.big∧t.toks=Z.toks→de t∧t.toks.length<s.toks.length:=fun t ⟨af,ag,a3⟩=>⟨fun E=>by rw[af];rw[ag] at E;exact ae.1 E,by rw[a3];omega⟩;split
 ·exact ab _ ⟨rfl,rfl,rfl⟩
 ·exact ab _ ⟨rfl,rfl,rfl⟩
theorem Hl {S R:am} {x:fP} (h:au.rep false S R w cs x):au.rep (α:=fP) true bd R w cs x∧(y0.agg cs.toArray).cells=cs.toArray:=by
 obtain⟨U,d1,X,Y,rfl,_,_,_,h1,V,d2,Z,aa,rfl,_,_,_,E,W,d3,ab,ac,rfl,_,_,_,O,J⟩:=h;have h1:au.rep (α:=List Int) false bd R w U x.1:=h1;have E:au.rep (α:=List Int) false bd R w V x.2.1:=E;have O:W=[.int .i64 x.2.2.1]:=O;have J:au.rep (α:=List (List Int×Int)) false bd R w d3 x.2.2.2:=J;refine⟨⟨U,_,bd,bd,rfl,fun _ h=>h,fun _ h=>h,fun _ _ h _=>h,h1,V,_,bd,bd,rfl,fun _ h=>h,fun _ h=>h,fun _ _ h _=>h,E,W,d3,bd,bd,rfl,fun _ h=>h,fun _ h=>h,fun _ _ h _=>h,O,J⟩,?_⟩;obtain⟨u,rfl⟩:=V7.1 (show U.length=1 from au.len h1);obtain⟨v,rfl⟩:=V7.1 (show V.length=1 from au.len E);obtain⟨y,rfl⟩:=V7.1 (show d3.length=1 from au.len J);obtain⟨_,_,_,rfl⟩:=jQ h1;obtain⟨_,_,_,rfl⟩:=jQ E;obtain⟨_,_,_,rfl⟩:=jQ J;subst O;rfl
set_option maxHeartbeats 8000000 in
theorem Hm {w0:x1} {g c:Nat} {A B:am} {o:Option aq} {ao:y0} {a2:y0→x1→Prop} (a6:fx w g gs A B clean o) (hi:∀ s,o=some s→de s) (bP:(c:Int)≤ah)
  (bQ:ay .i64 w ao all) (a7:∀ r,leads ao r→r≠g∧r≠gs∧r<w.heap.size∧(o≠none→¬A r)) (bR:o≠none→ ∀ z∈all,1≤z∧z≤ah) (bS:all.length≤100001) (bT:en w) (h1:1<w0.heap.size∧(o≠none→bW g gs A B 1))
  (a8:ad (fun r=>w0.heap.size≤r) w0 w) (bU:w0.heap.size≤g) (bV:w0.heap.size≤gs) (cK:g<w.heap.size∧gs<w.heap.size) (bY:o≠none→ ∀ r,A r→w0.heap.size≤r)
  (ba:∀ ap w' acc so Z X bb bc,ad (fun r=>w0.heap.size≤r) w0 w'→w.heap.size≤w'.heap.size→fx w' g gs Z X clean so→au.rep (α:=List fP) true bb bc w' [ap] acc→(∀ r,bb r∨bc r→r≠g∧r≠gs∧r<w'.heap.size)→ay .i64 w' ao all→
   (∀ q,eo (fun _ s=>ck all s) c [] o=some q→so=some q.2∧acc=q.1.map fy)→(eo (fun _ s=>ck all s) c [] o=none→so=none)→a2 ap w'):
 bO (.slice none 0 0) (.int .i64 0) w fun funs be aQ bZ=>
  bX (α:=y0→x1→Prop) (fun(b1:y0) (bg:x1)=>
   Split b1 (ag x5 vn [.pointer (some ⟨g,0,none⟩),ao] bg fun b2 b3=>
  aw x5 (b6 hl 1 #[(0,b2)]) b3 fun b4 b5=>
  aw x5 (l9 #[hl,hl] hl #[funs,b4]) b5 fun b7 bh=>
  O x5 (ax .add aj false true be (.int .i64 1)) bh fun b8=>
  bZ b7 b8 bh) (a2 funs bg)) fun bi=>
  O x5 (ax .lss aj false false be (.int .i64 (c:Int))) aQ fun b9=>
  Split b9 (ag x5 iP [.pointer (some ⟨g,0,none⟩)] aQ fun ca cb=>
  bi ca cb)
   (bi (.bool false) aQ):=by
 unfold ah at bP;generalize J:eo (fun _ s=>ck all s) c [] o=bj at ba;have bl:∀ s,o=some s→o≠none:=fun s h=>by rw[h];simp
 refine⟨fun ap aS ak=>∃ (i:Nat) (acc:List fP) (ae:List bG) (so:Option aq) (Y al aa av:am),aS= .int .i64 (i:Int)∧i≤c∧ad (fun r=>w0.heap.size≤r) w0 ak∧w.heap.size≤ak.heap.size∧fx ak g gs Y al clean so∧au.rep true aa av ak [ap] acc∧
   ay .i64 ak ao all∧en ak∧bj=eo (fun _ s=>ck all s) (c-i) ae so∧(∀ r,aa r→w.heap.size≤r∧r<ak.heap.size)∧(∀ r,av r→r≠g∧r≠gs∧¬aa r)∧
   ∀ s,so=some s→acc=ae.map fy∧de s∧ae.length+s.toks.length≤100000∧o≠none∧(∀ r,Y r→A r∨w.heap.size≤r)∧(∀ r,Y r→w0.heap.size≤r)∧(∀ r,B r→al r)∧(∀ r,aa r→¬al r∧¬Y r)∧(∀ r,av r→bW g gs Y al r),
  fun _ aS _=>c-(bk aS).toNat,⟨0,[],[],o,A,B,bd,bd,rfl,Z5 _,a8,r9 _,a6,iY,bQ,bT,J.symm,fun _ h=>h.elim,fun _ h=>h.elim,fun s aJ=>⟨rfl,hi s aJ,?_,bl s aJ,fun r E=>.inl E,bY (bl s aJ),fun r E=>E,fun _ h=>h.elim,fun _ h=>h.elim⟩⟩,?_⟩
 ·subst aJ;have aT:cE w g gs A B s clean:=a6;have:=aT.2.1.words.1;simpa using this
 rintro ap _ ak ⟨i,acc,ae,so,Y,al,aa,av,rfl,cL,cc,cM,bm,cd,aU,bn,aK,ab,ce,bo⟩;refine aI (fun v bp=>Ext ak bp∧((v= .bool true∧i<c∧ ∃ st,so=some st)∨(v= .bool false∧(so=none∨i=c)))) ?_ ?_
 rotate_left
 ·intro cN aV;rw[aC,af];refine⟨fun br=>?_,fun cO=>aV _ _ ⟨Ext.refl _,.inr ⟨rfl,.inr (by omega)⟩⟩⟩;refine (yl bm).mono ?_;rintro _ bp _ ⟨rfl,bu⟩;cases so with
  |none=>exact aV _ _ ⟨bu,.inr ⟨rfl,.inl rfl⟩⟩
  |some st=>exact aV _ _ ⟨bu,.inl ⟨rfl,by omega,st,rfl⟩⟩
 rintro _ V ⟨an,cg⟩;have cP:=an.size;have aE:=bm.ext an;have bw:=dc cd an;have bx:ad (fun r=>w0.heap.size≤r) w0 V:=cc.trans (an.U _);rcases cg with⟨rfl,br,st,rfl⟩|⟨rfl,ch⟩
 rotate_left
 ·rw[aR];have bz:bj=so.map fun st=>(ae,st):=by
   rcases ch with rfl|rfl
   ·exact aK
   ·rw[X9] at aK;rw[aK];cases so <;> rfl
  refine ba ap V acc so Y al aa (fun r=>av r∧r<V.heap.size) bx (by omega) aE (au.mono bw (fun _ _ h=>h) fun r E h=>⟨h,E⟩) (fun r E=>?_) (aU.ext an) (fun q ai=>?_) fun bA=>?_
  ·rcases E with E|E
   ·have:=ab r E;exact⟨by omega,by omega,by omega⟩
   ·have:=ce r E.1;exact⟨this.1,this.2.1,E.2⟩
  ·rw[bz] at ai;cases so with
   |none=>cases ai
   |some st=>cases ai;exact⟨rfl,(bo _ rfl).1⟩
  ·rw[bz] at bA;cases so with
   |none=>rfl
   |some st=>cases bA
 rw[bq];obtain⟨rfl,bB,cQ,aL,bC,aW,bD,aM,bE⟩:=bo st rfl;have aE:cE V g gs Y al st clean:=aE;obtain⟨cR,cS,cT,cU,cV⟩:=aE.1;have ci:=h1.2 aL;have bF:bW g gs Y al 1:=⟨fun J=>by
  rcases J with J|J|J
  ·omega
  ·omega
  ·have:=aW 1 J;omega,bD 1 ci.2⟩
 have bH:∀ r,leads ao r→¬bf g gs Y r∧r<V.heap.size:=fun r E=>by
  obtain⟨cj,cl,cm,cn⟩:=a7 r E;refine⟨fun J=>?_,by omega⟩;rcases J with J|J|J
  ·exact cj J
  ·exact cl J
  ·rcases bC r J with h|h
   ·exact cn aL h
   ·omega
 refine (GN aE bB (aU.ext an) bH (bR aL) bS (bn.ext an) bF).mono ?_;rintro _ cp _ ⟨Z,X,cs,aX,rfl,cW,aF,aG,aY,bI,bJ,cq,cr⟩;have z3:=aF.size;obtain⟨bK,ct⟩:=Hl cq;refine k6 (α:=fP) (a:=aX) (cs:=cs) (A:=bd) (R:=bW g gs Z X) hl.u bt.i (by decide) ct bK fun u aN az _ hu=>?_;have z4:=az.size;have cu:∀ r,r<V.heap.size→aa r∨av r→¬bf g gs Y r:=fun r E h J=>by
  rcases h with h|h
  ·have W:=ab r h;rcases J with J|J|J
   ·omega
   ·omega
   ·exact (aM r h).2 J
  ·exact (bE r h).1 J
 have cw:∀ r,r<V.heap.size→bW g gs Y al r→bW g gs Z X r:=fun r E h=>⟨fun J=>h.1 (J.imp id (Or.imp id fun J=>(aG r J).elim id fun h'=>by omega)),bI r h.2⟩;have cz:dp aa (bW g gs Z X) aN [ap] (ae.map fy):=dc (au.U (au.mono (S':=aa) (R':=fun r=>bW g gs Z X r∧av r) bw (fun _ _ h=>h) fun r E h=>⟨cw r E (bE r h),h⟩) aF fun r E h=>cu r E (h.imp id fun h=>h.2) |> fun h=>h) az |> fun h=>au.mono h (fun _ _ h=>h) fun _ _ h=>h.1;have aO:∀ r,aa r→¬X r:=fun r h aP=>by
  have W:=ab r h;rcases (aY r aP).1 with aA|aA
  ·exact (aM r h).1 aA
  ·have aZ:=(ab r h).2;omega
 have cX:(ae.map fy).length=ae.length:=by simp
 refine me (α:=fP) (a:=aX) (A:=bd) hl.u bt.i rfl cz hu (dc bK az) (fun r _ cA h=>?_) (by omega) (by omega) fun cY aD cB aH=>?_
 ·rcases h with h|h
  ·exact h
  ·exact aO r cA h.2
 have z5:=aH.size;rw[aB,wrap_i64 (by omega) (by omega)];have cC:ad (fun r=>w0.heap.size≤r) w0 aN:=(bx.trans (aF.mono fun r _ J=>by
  rcases J with rfl|rfl|J
  ·exact bU
  ·exact bV
  ·exact aW r J)).trans (az.U _)
 have z0:=a8.size;have cD:ad (fun r=>w0.heap.size≤r) w0 aD:=cC.trans (aH.mono fun r _ h=>by have:=(ab r h).1;omega);have cF:ay .i64 aN ao all:=(hQ (aU.ext an) aF fun r E a n c ac a1=>(bH r ⟨a,n,c,ac,a1⟩).1 E).ext az;have cG:ay .i64 aD ao all:=hQ cF aH fun r E a n c ac a1=>by
  have cm:=(a7 r ⟨a,n,c,ac,a1⟩).2.2.1;have:=(ab r E).1;omega
 have cH:en aD:=(((bn.ext an).U aF bF.1).ext az).U aH fun h=>by have:=(ab 1 h).1;omega
 have bL:fx aD g gs Z X clean ((ck all st).map (·.2)):=by
  refine fx.U (bJ.ext az) aH (fun h=>by have:=ab _ h;omega) (fun r E cZ h=>?_) (fun r E h=>aO r h E.2);have W:=ab r h;rcases E with rfl|rfl|E
  ·omega
  ·omega
  ·rcases aG r E with aA|aA
   ·exact (aM r h).2 aA
   ·omega
 have cI:=ko cB;refine⟨⟨i+1,(ae.map fy)++[aX],ae++((ck all st).map (·.1)).toList,(ck all st).map (·.2),Z,X,fun r=>(aa r∨bd r∨aN.heap.size≤r)∧r<aD.heap.size,bW g gs Z X,rfl,by omega,cD,by omega,bL,cI,cG,cH,?_,fun r E=>⟨?_,E.2⟩,fun r E=>⟨fun h=>E.1 (.inl h),fun h=>E.1 (.inr (.inl h)),fun h=>?_⟩,fun s' cJ=>?_⟩,by simp only[bk];omega⟩
 ·rw[aK,show c-i=(c-(i+1))+1 by omega,yL];cases ai:ck all st with
  |none=>rfl
  |some q=>rfl
 ·rcases E.1 with h|h|h
  ·exact (ab r h).1
  ·exact h.elim
  ·omega
 ·rcases h.1 with W|W|W
  ·exact aO r W E.2
  ·exact W
  ·have:=(aY r E.2).2;omega
 ·obtain⟨q,ai,rfl⟩:=Z2.1 cJ;have W:=Hk (s':=q.2) (x:=q.1) bB ai;have aA:=cr q ai;refine⟨?_,W.1,?_,aL,fun r E=>?_,fun r E=>?_,fun r E=>bI r (bD r E),fun r E=>⟨fun aP=>?_,fun bM=>?_⟩,fun r E=>E⟩
  ·rw[ai,aA];simp
  ·rw[ai];simp only[c5,j5,u7,V5];omega
  ·rcases aG r E with h|h
   ·exact bC r h
   ·exact .inr (by omega)
  ·rcases aG r E with h|h
   ·exact aW r h
   ·omega
  ·rcases E.1 with W|W|W
   ·exact aO r W aP
   ·exact W
   ·have:=(aY r aP).2;omega
  ·have c0:fx aD g gs Z X clean ((ck all st).map (·.2)):=bL;have bN:=bJ;rw[ai] at bN;have aT:cE cp g gs Z X q.2 clean:=bN;have br:=aT.1.2.2.2.1 r (.inr (.inr bM));rcases E.1 with W|W|W
   ·rcases aG r bM with aZ|aZ
    ·exact (aM r W).2 aZ
    ·have:=(ab r W).2;omega
   ·exact W
   ·omega
theorem de.num {lo hi n:Int} {s s':aq} (J:de s) (h:aS lo hi s=some (n,s')):de s':=fun E=>by
 have h1:=(cB h).eqs;rw[h1.1];rw[h1.2.1] at E;exact J E
theorem de.big {b:Bool} {s:aq} (h:de s):de (aM b s):=fun E=>by
 have E:(s.big||b)=false:=E;exact h (U3.1 E).1
theorem de.word {w:List Int} {s s':aq} (h:de s) (hw:c0 s=some (w,s')):de s':=fun E=>by
 have h1:=(nL hw).2;rw[h1] at E ⊢;exact h E
theorem Hn {most:Int} {s s':aq} (hi:de s) (hm:most≤ah) (h:bZ (eb most) N [] s=some (l,s')):de s'∧(∀ z∈l,1≤z∧z≤ah)∧l.length+s'.toks.length≤s.toks.length:=by
 have:=gM (f:=eb most) (fun acc t=>de t∧(∀ z∈acc,1≤z∧z≤ah)∧acc.length+t.toks.length≤s.toks.length) (fun acc t a W ⟨h1,O,X⟩ g=>by
  unfold eb at g;cases E:aS 1 most t with
  |none=>rw[E] at g;cases g
  |some q=>
   obtain⟨z,U⟩:=q;rw[E] at g;simp only[b8,W5] at g;obtain⟨rfl,rfl⟩:=g;have Y:=(fW E).1;have Z:=(cB E).1;refine⟨(h1.num E).big,fun x J=>?_,?_⟩
   ·rcases p8.1 J with J|J
    ·exact O x J
    ·rw[p9.1 J];omega
   ·simp only[u7,V5];show acc.length+1+U.toks.length≤_;omega) N [] s l s' ⟨hi,fun z V=>(by cases V),by simp⟩ h
 exact this.1
theorem Ho {s0:aq} {name:List Int} {n most cnt:Int} {so6:Option aq}
  (h1:∀ q,c0 s0=some q→name=q.1)
  (W:∀ q,aQ 1 ah (((c0 s0).map (·.2)).map (aM (decide (64<(name.length:Int)))))=some q→n=q.1)
  (V:∀ q,aQ 1 ah (((aQ 1 ah (((c0 s0).map (·.2)).map (aM (decide (64<(name.length:Int)))))).map (·.2)).map (aM (decide (64<n))))=some q→most=q.1)
  (U:∀ q,aQ 0 ah ((aQ 1 ah (((aQ 1 ah (((c0 s0).map (·.2)).map (aM (decide (64<(name.length:Int)))))).map (·.2)).map (aM (decide (64<n))))).map (·.2))=some q→cnt=q.1)
  (O:∀ q,aQ 1 ah (((aQ 0 ah ((aQ 1 ah (((aQ 1 ah (((c0 s0).map (·.2)).map (aM (decide (64<(name.length:Int)))))).map (·.2)).map (aM (decide (64<n))))).map (·.2))).map (·.2)).map (aM (decide (256<cnt))))=some q→k=q.1)
  (J:∀ q,eo (eb most) n.toNat [] (((aQ 1 ah (((aQ 0 ah ((aQ 1 ah (((aQ 1 ah (((c0 s0).map (·.2)).map (aM (decide (64<(name.length:Int)))))).map (·.2)).map (aM (decide (64<n))))).map (·.2))).map (·.2)).map (aM (decide (256<cnt))))).map (·.2)).map (aM (decide (2147483648<k))))=some q→so6=some q.2∧sizes=q.1)
  (E:eo (eb most) n.toNat [] (((aQ 1 ah (((aQ 0 ah ((aQ 1 ah (((aQ 1 ah (((c0 s0).map (·.2)).map (aM (decide (64<(name.length:Int)))))).map (·.2)).map (aM (decide (64<n))))).map (·.2))).map (·.2)).map (aM (decide (256<cnt))))).map (·.2)).map (aM (decide (2147483648<k))))=none→so6=none):
  fw s0=(eo (fun _ s=>ck sizes s) cnt.toNat [] so6).map fun q=>((⟨name,k,sizes,q.1⟩:bu),q.2):=by
 unfold fw;cases ab:c0 s0 with
 |none=>
  rw[ab] at E;rw[E rfl];rfl
 |some am=>
 obtain⟨aF,an⟩:=am;rw[ab] at h1 W V U O J E;have:=h1 _ rfl;subst this;have ao:decide (64<(name.length:Int))=decide (64<name.length):=by rw[X8,decide_eq_true_eq,decide_eq_true_eq];omega
 rw[ao] at W V U O J E;simp only[c5] at W V U O J E ⊢;generalize aM (decide (64<name.length)) an=Y at*;cases ac:aS 1 ah Y with
 |none=>
  rw[show aQ 1 ah (some Y)=none from ac] at E;rw[E rfl];rfl
 |some ap=>
 obtain⟨au,ad⟩:=ap;rw[show aQ 1 ah (some Y)=some (au,ad) from ac] at W V U O J E;have:=W _ rfl;subst this;simp only[c5] at V U O J E ⊢;generalize aM (decide (64<n)) ad=Z at*;cases ae:aS 1 ah Z with
 |none=>
  rw[show aQ 1 ah (some Z)=none from ae] at E;rw[E rfl];rfl
 |some av=>
 obtain⟨aw,X⟩:=av;rw[show aQ 1 ah (some Z)=some (aw,X) from ae] at V U O J E;have:=V _ rfl;subst this;simp only[c5] at U O J E ⊢;cases af:aS 0 ah X with
 |none=>
  rw[show aQ 0 ah (some X)=none from af] at E;rw[E rfl];rfl
 |some ax=>
 obtain⟨ay,ag⟩:=ax;rw[show aQ 0 ah (some X)=some (ay,ag) from af] at U O J E;have:=U _ rfl;subst this;simp only[c5] at O J E ⊢;generalize aM (decide (256<cnt)) ag=aa at*;cases ai:aS 1 ah aa with
 |none=>
  rw[show aQ 1 ah (some aa)=none from ai] at E;rw[E rfl];rfl
 |some az=>
 obtain⟨aA,aj⟩:=az;rw[show aQ 1 ah (some aa)=some (aA,aj) from ai] at O J E;have:=O _ rfl;subst this;simp only[c5] at J E ⊢;generalize aM (decide (2147483648<k)) aj=aB at*;cases ak:bZ (eb most) n.toNat [] aB with
 |none=>
  rw[E ak];rfl
 |some aC=>
 obtain⟨aG,al⟩:=aC;obtain⟨aD,aE⟩:=J _ ak;subst aE;rw[aD];simp only;show _=X3 _ (bZ (fun _ s=>ck sizes s) cnt.toNat [] al);cases bZ (fun _ s=>ck sizes s) cnt.toNat [] al <;> rfl
theorem Hp {f:bu} (ae:dU N f) (U:N≤60000):∀ x∈f.funs,qs f.k x:=fun x J=>by
 obtain⟨h1,O,V⟩:=ae.funs x J;refine⟨ae.k,⟨?_,fun z E=>?_⟩,h1.other,h1.lines,by have:=h1.len;omega,by omega⟩
 ·rw[h1.sizes,r8];exact O
 ·rw[h1.sizes] at E;obtain⟨v,ac,rfl⟩:=o8.1 E;have:=h1.scope.2 v ac;refine ae.sizes.2.2 _ ?_;rw[u4,x4 (by omega)];exact U6 _
set_option maxHeartbeats 8000000 in
theorem Hq {p:y0} {X:List Int} (ao:ay .u8 w p X) (bb:Bytes X) (b8:X.length≤60000) (aE:en w):ag x5 Bv [p] w (yK w (eA X)):=by
 have bc:1<w.heap.size:=by
  have:=aE 0 (.int .u64 1) rfl;obtain⟨c,e,f,be,_⟩:=rQ this;exact (o7.1 be).1
 have b9:ah=4611686018427387904:=rfl;refine ap func23 ?_;rw[aK b5.u ao,br,af];refine⟨fun h=>by omega,fun _=>?_⟩;refine (wI ao bb (by omega)).mono ?_;rintro _ ae _ ⟨aF,gs,rfl,ca,bg,au⟩;rw[ct (cs:=#[.pointer (some ⟨gs,0,none⟩),.int .i64 0,.int .i64 0,.int .i64 0,.int .i64 0,.int .i64 0,.slice none 0 0]) (by kernel_rfl)];refine a7 fun g V cb av aG=>?_;have cc:=aF.size;have cd:=av.size;have bh:=aG.lt;have ce:gs<ae.heap.size:=au.2.2.2.1.lt;have cg:=mj _ X (r9 _);let s0:aq:=⟨(lex X).1,0,false,[]⟩;let B0:am:=fun r=>r<ae.heap.size;have bi:cE V g gs bd B0 s0 (lex X).2:=by
  refine⟨⟨by omega,fun h=>h,fun h=>h,fun r J=>?_,fun r J=>by have J:r<ae.heap.size:=J;omega⟩,⟨bg,X,0,au.ext av,fun r J=>?_,by rw[List.drop_zero]⟩,⟨by show (0:Int)≤0;omega,by show (0:Int)≤ah;omega,by show (([]:List (List Int×List (List Int×Int))).length+(lex X).1.length≤100000);simp;omega⟩,0,0,0,0,.slice none 0 0,aG,⟨by simp[s0],fun _=>rfl⟩,iY (α:=gN)⟩
  ·rcases J with rfl|rfl|J
   ·exact bh
   ·omega
   ·exact J.elim
  ·obtain⟨_,_,_,aj,ch,hm⟩:=au;have ab:=bp hm J;have ac:=bE hm aj (by decide) J;exact⟨fun Z=>by
    rcases Z with Z|Z|Z
    ·omega
    ·exact ac Z
    ·exact Z,by show r<ae.heap.size;omega⟩
 have aw:∀ r,bf g gs bd r→w.heap.size≤r:=fun r J=>by
  rcases J with rfl|rfl|J
  ·omega
  ·omega
  ·exact J.elim
 refine (xq bi).mono ?_;rintro _ ci _ ⟨W,name,cj,rfl,cl,cm,bj⟩;obtain⟨bk,bl⟩:=eP.of W;rw[a8,ba,lb bY.u,br];refine (nY bl).mono ?_;rintro _ cn _ W;obtain⟨bm,bn⟩:=W.of;refine (jP (lo:=1) (hi:=ah) bn).mono ?_;rintro _ cp _ ⟨W,n,cq,rfl,aH,bo⟩;obtain⟨bq,bt⟩:=W.of;rw[a8,ba,br];refine (nY bt).mono ?_;rintro _ cr _ W;obtain⟨bw,bx⟩:=W.of;refine (jP (lo:=1) (hi:=ah) bx).mono ?_;rintro _ cu _ ⟨W,most,cw,rfl,aI,bz⟩;obtain⟨bA,bB⟩:=W.of;rw[a8,ba];refine (jP (lo:=0) (hi:=ah) bB).mono ?_;rintro _ cz _ ⟨W,cnt,cA,rfl,aJ,bC⟩;obtain⟨bD,bF⟩:=W.of;rw[a8,ba,br];refine (nY bF).mono ?_;rintro _ cB _ W;obtain⟨bG,bH⟩:=W.of;refine (jP (lo:=1) (hi:=ah) bH).mono ?_;rintro _ cC _ ⟨W,k,cD,rfl,bI,cF⟩;obtain⟨bJ,bK⟩:=W.of;rw[a8,ba,br];refine (nY bK).mono ?_;rintro _ aL _ W;obtain⟨bL,ax⟩:=W.of;have aN:ad (bf g gs bd) V aL:=(((((((bk.trans bm).trans bq).trans bw).trans bA).trans bD).trans bG).trans bJ).trans bL;have az:∀ {lo:Int} {o:Option aq} {x:Int},0≤lo→lo≤1→(∀ q,aQ lo ah o=some q→x=q.1)→(aQ lo ah o=none→x=0)→0≤x∧x≤ah:=fun {lo o x} cG h1 Y bM=>by
  cases E:aQ lo ah o with
  |none=>rw[bM E];omega
  |some q=>
   have ab:=kz (n:=q.1) (s':=q.2) E;rw[Y q E];omega
 have cH:=az (by omega) (by omega) aH bo;have cI:=az (by omega) (by omega) aJ bC;have cJ:=az (by omega) (by omega) aI bz;obtain⟨N,bN⟩:∃ N:Nat,n=(N:Int):=⟨n.toNat,by omega⟩;obtain⟨C,bO⟩:∃ C:Nat,cnt=(C:Int):=⟨cnt.toNat,by omega⟩;have bP:n.toNat=N:=by omega
 have bQ:cnt.toNat=C:=by omega
 have bR:de s0:=fun _=>by show (0:Int)≤16384;omega
 have ak:∀ {o:Option aq} {b:Bool},(∀ s,o=some s→de s)→ ∀ s,o.map (aM b)=some s→de s:=fun h s Y=>by
  obtain⟨t,aA,rfl⟩:=Z2.1 Y;exact (h t aA).big
 have al:∀ {o:Option aq} {lo hi:Int},(∀ s,o=some s→de s)→ ∀ s,(aQ lo hi o).map (·.2)=some s→de s:=fun {o lo hi} h s Y=>by
  obtain⟨q,E,rfl⟩:=Z2.1 Y;cases o with
  |none=>cases E
  |some t=>exact (h t rfl).num (n:=q.1) (s':=q.2) E
 have bS:∀ s,(c0 s0).map (·.2)=some s→de s:=fun s Y=>by
  obtain⟨q,E,rfl⟩:=Z2.1 Y;exact bR.word (w:=q.1) (s':=q.2) E
 have aO:=ak (b:=decide (2147483648<k)) (al (lo:=1) (hi:=ah) (ak (b:=decide (256<cnt)) (al (lo:=0) (hi:=ah) (al (lo:=1) (hi:=ah) (ak (b:=decide (64<n)) (al (lo:=1) (hi:=ah) (ak (b:=decide (64<(name.length:Int))) bS)))))));have O:=fun(sizes:List Int) (so6:Option aq)=>Ho (s0:=s0) (name:=name) (sizes:=sizes) (n:=n) (most:=most) (cnt:=cnt) (k:=k) (so6:=so6) bj aH aI aJ bI;rw[bP] at O;generalize cK:X3 (aM (decide (2147483648<k))) (X3 (fun x=>x.2) (aQ 1 ah (X3 (aM (decide (256<cnt))) (X3 (fun x=>x.2) (aQ 0 ah (X3 (fun x=>x.2) (aQ 1 ah (X3 (aM (decide (64<n))) (X3 (fun x=>x.2) (aQ 1 ah (X3 (aM (decide (64<(name.length:Int)))) (X3 (fun x=>x.2) (c0 s0)))))))))))))=aP at aO ax O;rw[bN];refine Hh (N:=N) (most:=most) ax (by omega) fun szv aB sizes so6 gz bT aR aS cL bU aT aU=>?_;have O:=O sizes so6 aT aU;rw[bQ] at O;have aC:ad (bf g gs bd) V aB:=aN.trans bT;have z12:=aC.size;have aV:Ext w V:=aF.trans av;have bV:ad (fun r=>w.heap.size≤r) w aB:=(aV.U _).trans (aC.mono fun r _ h=>aw r h);have cM:=aR.side;have aW:∀ ai,so6=some ai→de ai∧(∀ z∈sizes,1≤z∧z≤ah)∧sizes.length≤100000:=fun ai aD=>by
  cases E:eo (eb most) N [] aP with
  |none=>rw[aU E] at aD;cases aD
  |some q=>
   obtain⟨ab,ac⟩:=aT q E;cases aD.symm.trans ab;subst ac;cases aP with
   |none=>cases E
   |some bW=>
    obtain⟨bX,bZ,cN⟩:=Hn (l:=q.1) (s':=q.2) (aO bW rfl) (by omega) E;exact⟨bX,bZ,by have:=ax.words;omega⟩
 rw[bO];have aX:∀ r,leads szv r→aL.heap.size≤r∧r<aB.heap.size:=fun r J=>by have:=bp aS J;omega
 have cO:=aN.size;refine Hm (w0:=w) (c:=C) (all:=sizes) aR.q (fun s Y=>(aW s Y).1) (by omega) aS.ls (fun r J=>?_) (fun an=>?_) bU ((aE.ext aV).U aC fun Z=>by have:=aw 1 Z;omega) ⟨bc,fun _=>⟨fun Z=>by have:=aw 1 Z;omega,by show 1<ae.heap.size;omega⟩⟩
  bV (by omega) (by omega) ⟨by omega,by omega⟩ (fun _ r h=>h.elim) fun cP cQ acc so cR cS cT cU aY cV b1 b2 b3 b4 aZ b6=>?_
 ·have:=aX r J;exact⟨by omega,by omega,by omega,fun _ h=>h⟩
 ·cases a1:so6 with
  |none=>exact absurd a1 an
  |some ai=>exact (aW ai a1).2.1
 have cW:=aY.size;have aa:eA X=match fw s0 with
   |none=>none
   |some (f,s)=>if s.toks=[]∧(lex X).2=true∧s.big=false then some f else none:=by
  unfold eA;rw[if_neg (by omega)];have e:fw ⟨(lex X).1,0,false,[]⟩=fw s0:=rfl;rw[e];cases fw s0 <;> rfl
 refine Hg (w0:=w) (sizes:=sizes) (res:=eA X) b1 ⟨fun s Y aA b7 aj=>?_,fun an=>?_⟩ b4 (fun r J=>by have:=aX r J;exact⟨by omega,by omega⟩) b2 b3 (fun _=>trivial) (by omega) (by omega) aY (by omega) (by omega) ao fun v w' h=>h
 ·cases E:eo (fun _ s=>ck sizes s) C [] so6 with
  |none=>rw[b6 E] at Y;cases Y
  |some q=>
   obtain⟨ab,ac⟩:=aZ q E;cases Y.symm.trans ab;rw[E] at O;have O:fw s0=some ((⟨name,k,sizes,q.1⟩:bu),q.2):=O;have a2:=(xn rfl O aj).1;rw[O] at aa;simp only at aa;rw[if_pos ⟨aA,b7,aj⟩] at aa;exact⟨q.1,ac,aa,Hp a2 (by show (lex X).1.length≤60000;omega),a2.jb,by omega⟩
 ·cases E:eo (fun _ s=>ck sizes s) C [] so6 with
  |none=>
   rw[E] at O;have O:fw s0=none:=O;rw[O] at aa;exact absurd aa an
  |some q=>
   obtain⟨ab,ac⟩:=aZ q E;rw[E] at O;have O:fw s0=some ((⟨name,k,sizes,q.1⟩:bu),q.2):=O;rw[O] at aa;simp only at aa;by_cases a6:q.2.toks=[]∧(lex X).2=true∧q.2.big=false
   ·exact⟨q.2,ab,a6⟩
   ·rw[if_neg a6] at aa;exact absurd aa an
theorem sU (s t cs:List Int):∃ e,mh s t cs= .tuple #[.int .i64 (cV s cs t),.int .i64 e]:=by
 unfold mh cV;cases cp s t 0 with
 |none=>exact⟨3,rfl⟩
 |some n=>exact⟨0,rfl⟩
theorem Hr:ag x5 vC [sv] w fun r w'=>Ext w w'∧ ∃ g,r= .func (.func l1) #[] #[.pointer (some ⟨g,0,none⟩)]∧w.heap.size≤g∧aa w' g al sv.cells.toList:=by
 refine ap func236 ?_;refine a7 fun g O U E J=>?_;rw[hM];exact⟨E,g,rfl,by omega,J⟩
theorem Hs {f:FuncId} {cap:Array y0} {ae:Nat→List y0→x1→Prop} {E:x1→Prop} {L:List Int} (au:lU x5 f cap.toList n ae E) (af:∀ k vs w,ae k vs w→ ∃ x,L[k]? =some x∧vs=[.int .i64 x])
  (hE:∀ a b,ad (fun r=>w.heap.size≤r) a b→E a→E b) (aw:E w) (ax:n=L.length) (aN:L.length≤1000000):
  ag x5 Cu [.slice none 0 0,.func (.func f) #[] cap] w fun v w'=>Ext w w'∧ ∃ g,w.heap.size≤g∧ak .i64 ab w' g v L:=by
 refine iV func147 ?_;refine a7 fun gs ay aO ah O=>?_;have O:aa ay gs al [.slice none 0 0]:=O;have aP:=O.lt;have ai:∀ {a b:x1},Ext a b→E a→E b:=fun J=>hE _ _ (J.U _);refine jz.old ⟨Nat,false,f,cap,0,_,_,E,fun k w'=>ad (fun r=>w.heap.size≤r) w w'∧ ∃ v g,gs<g∧aa w' gs al [v]∧ak .i64 ab w' g v (L.take k),fun _ _ _=>False,rfl,au.s,?_,fun _ _ J h=>ai J h,
  fun _ _ _ J h=>⟨h.1.trans (J.U _),by obtain⟨v,g,h1,az,aA⟩:=h.2;exact⟨v,g,h1,az.ext J,aA.ext J⟩⟩,fun _ _ _ _ _ h=>h,ai ah aw,⟨ah.U _,_,gs+1,by omega,O,ak.nil _ _ _ _⟩,?_,?_,fun _ _ h=>h.elim,fun _ _ _ h=>h.elim⟩
 ·rintro k vs aQ w' ⟨_,_,h⟩;obtain⟨x,_,rfl⟩:=af k vs w' h;rfl
 ·rintro a k _ V haB ⟨W,rfl,aC⟩ ⟨aD,v,g,aE,aj,ac⟩;obtain⟨x,J,aF⟩:=af k _ V aC;cases aF;intro aR X _ _;have am:=aj.ext X;rw[av (by kernel_rfl) (am.cell (o:=0) rfl)];refine dM al.u ab.i rfl fun a aS aT aU Y aG=>?_;have aV:(L.take k).length≤1000000:=by simp;omega
  refine hr al.u ab.i rfl ((ac.ext X).ext Y) aG.ls (by simp only[n9,List.length_nil];omega) (by simp only[n9,List.length_nil];omega) fun aH aI aW aX Z an=>?_;have aZ:=aj.lt;have a1:=X.size;have a2:=Y.size;refine aY al.i Z.ls.cells.1 Z.ls.cells.2 (((am.ext Y).U an (by omega))) (by simp) fun aJ ao a6 aK=>?_;have ap:ad (fun r=>w.heap.size≤r) V aJ:=(((X.trans Y).U _).trans (an.mono fun r _ h=>by show w.heap.size≤r;omega)).trans (ao.mono fun r _ h=>by show w.heap.size≤r;omega);refine⟨hE _ _ ap haB,⟨aD.trans ap,aH,aI,by omega,aK,?_⟩,fun h=>by cases h⟩;rw[u5,J];exact Z.U ao (fun _=>by omega)
 ·rintro k a8 W ⟨aL,v,g,aE,aM,ac⟩;have W:k=n:=W;subst W;rw[av (by kernel_rfl) (aM.cell (o:=0) rfl)];intro ba aq _;rw[ax,o5] at ac;exact⟨(aL.ext fun r bb h=>by have:w.heap.size≤r:=h;omega).trans aq,g,by omega,ac.ext aq⟩
theorem Ht {f:FuncId} {cap:Array y0} {J:Nat→List y0→x1→Prop} {E:x1→Prop} {L:List Int} (O:lU x5 f cap.toList n J E) (U:∀ k vs w,J k vs w→ ∃ x,L[k]? =some x∧vs=[.int .i64 x])
  (hE:∀ a b,ad (fun r=>w.heap.size≤r) a b→E a→E b) (V:E w) (W:n=L.length) (X:L.length≤1000000):
  ag x5 BM [.func (.func f) #[] cap] w fun v w'=>Ext w w'∧ ∃ g,w.heap.size≤g∧ak .i64 ab w' g v L:=by
 refine ap func63 ?_;exact (Hs O U hE V W X).mono fun _ _ _ h=>h
theorem Hu {x:Int}:ag x5 cmp_Less_int [.int .i64 x,.int .i64 y] w fun v w'=>v= .bool (decide (x<y))∧Ext w w':=by
 refine ap func307 ?_;refine aI (fun v E=>v= .bool (decide (x<y))∧Ext w E) (fun _ _ h=>h) fun W J=>?_;have O:∀ {z:Int} {w:x1},ag x5 cmp_isNaN_int [.int .i64 z] w fun v w'=>v= .bool false∧Ext w w':=fun {z w}=>by
  refine ap func124 ?_;simp only[bj];exact⟨by simp,Ext.refl _⟩
 refine O.mono ?_;rintro _ V _ ⟨rfl,U⟩;rw[aR];simp only[aC];exact J _ _ ⟨rfl,U⟩
theorem Hv {P:Y3} {t:u9} {cx cy:Bool} {k:o4} {a b:Int}:bR P (ax .sub t cx cy (.int k a) (.int k b)) (.int k (k.wrap (a-b))) w:=fun w' _=>by simp[ax,eqGuard,binOp,Op.intArith]
theorem Hw {g:Nat} (h:ak .i64 ab w g sv l) (aM:l.length≤1000000):
  ag x5 DS [sv,.int .i64 0,.int .i64 l.length] w fun _ w'=>ad (fun r=>r=g) w w'∧ ∃ m,m.Perm l∧m.Pairwise (·≤ ·)∧ak .i64 ab w' g sv m:=by
 refine ap func301 ?_;simp only[aB];refine⟨fun t Z=>∃ (i:Nat) (m:List Int),t= .int .i64 i∧1≤i∧(i≤l.length∨i=1)∧m.Perm l∧nJ m i∧ad (fun r=>r=g) w Z∧ak .i64 ab Z g sv m,fun t _=>l.length+1-(bk t).toNat,
  ⟨1,l,by congr 1,by omega,.inr rfl,.refl _,fun p q x y h1 av=>by omega,ad.refl _ _,h⟩,?_⟩
 rintro _ Z ⟨i,m,rfl,aN,aO,O,ah,ai,hm⟩;have aw:=O.length_eq;simp only[aC,af];refine⟨fun ax=>?_,fun aP=>?_⟩
 ·have ax:i<l.length:=by omega
  refine⟨fun t V=>∃ (j:Nat) (m:List Int),t= .int .i64 j∧j≤i∧m.Perm l∧mq m i j∧ad (fun r=>r=g) w V∧ak .i64 ab V g sv m,fun t _=>(bk t).toNat,⟨i,m,rfl,r9 _,O,E8 ah,ai,hm⟩,?_⟩;rintro _ V ⟨j,m,rfl,ay,O,aa,aj,hm⟩;have aw:=O.length_eq;refine aI (fun v am=>Ext V am∧ ∃ c,v= .bool c∧(c=true→0<j∧ ∃ a b,m[j-1]? =some a∧m[j]? =some b∧b<a)∧(c=false→j=0∨0<j∧ ∃ a b,m[j-1]? =some a∧m[j]? =some b∧a≤b)) ?_ ?_
  ·rintro _ am ⟨X,c,rfl,az,aA⟩;rw[ca];refine⟨fun h=>?_,fun h=>?_⟩
   ·obtain⟨W,a,b,E,J,ac⟩:=az h;intro aQ an _ _;have Y:=(hm.ext X).ext an;have e:X5.wrap ((j:Int)-1)=((j-1:Nat):Int):=by rw[wrap_i64 (by omega) (by omega)];omega
    simp only[dk,e];rw[a1 al.u ab.i (by kernel_rfl) Y.ls E,a1 al.u ab.i (by kernel_rfl) Y.ls J,gn rfl al.u ab.i Y (by omega)];refine gp ab.i Y (by omega) fun aD aF aR ao=>⟨.inr ⟨by have:=Hv (P:=x5) (w:=aD) (t:=ab) (cx:=false) (cy:=true) (k:=.i64) (a:=(j:Int)) (b:=1);rwa [e] at this,trivial⟩,?_⟩;rw[gn rfl al.u ab.i ao (by simp;omega)];refine gp ab.i ao (by simp;omega) fun aS aG aT aH=>?_;refine⟨⟨j-1,_,rfl,by omega,(swap_perm (by omega) E J).trans O,Fb aa W ay E J ac,((aj.trans ((X.trans an).U _)).trans aF).trans aG,aH⟩,?_⟩;simp only[bk];omega
   ·simp only[aB];rw[wrap_i64 (by omega) (by omega)];refine⟨⟨i+1,m,rfl,by omega,.inl (by omega),O,?_,aj.trans (X.U _),hm.ext X⟩,?_⟩
    ·rcases aA h with rfl|⟨W,a,b,E,J,ac⟩
     ·exact E9 aa
     ·exact Fa aa W E J ac
    ·simp only[bk];omega
  ·intro aU aq aV ae _ _;have au:=hm.ext ae;simp only[br,af];refine⟨fun W=>?_,fun W=>aq _ _ ⟨ae,false,rfl,(fun h=>by cases h),fun _=>.inl (by omega)⟩⟩;have e:X5.wrap ((j:Int)-1)=((j-1:Nat):Int):=by rw[wrap_i64 (by omega) (by omega)];omega
   obtain⟨b,J⟩:=aE (l:=m) (i:=j) (by omega);obtain⟨a,E⟩:=aE (l:=m) (i:=j-1) (by omega);rw[a1 al.u ab.i (by kernel_rfl) au.ls J];simp only[dk,e];rw[a1 al.u ab.i (by kernel_rfl) au.ls E];refine Hu.mono ?_;rintro _ aW _ ⟨rfl,aJ⟩;refine aq _ _ ⟨ae.trans aJ,_,rfl,fun h=>⟨by omega,a,b,E,J,by simpa using h⟩,fun h=>.inr ⟨by omega,a,b,E,J,by simpa using h⟩⟩
 ·refine⟨ai,m,O,Fc fun p q x y h1 av aK aL=>ah p q x y h1 (by omega) aK aL,hm⟩
theorem Hx {P:Y3} {t:u9} {k:o4} {s:ByteArray} {i:Nat} {K:y0→Prop} (E:P.underlying t=some .string) (hi:i<s.size) (J:∀ b:Nat,b<256→K (.int .u8 b)):
  O P (Instr.index t (.string s) (.int k (i:Int))) w K:=by
 have U:s[i]? =some s[i]:=by simp[hi]
 have:O P (Instr.index t (.string s) (.int k (i:Int))) w K=K (.int .u8 s[i].toNat):=O.of fun w' _=>by
  simp[Instr.index,asIntOf,run_underlying E,hi]
 rw[this];exact J _ (UInt8.toNat_lt _)
theorem Hy (E:n<256):ag x5 Ci [.int .u64 (n:Int)] w fun v w'=>(∃ r,v= .int .i64 r)∧Ext w w':=by
 refine ap func123 ?_;refine ag.mono (K:=fun v w'=>(∃ r,v= .int .i64 r)∧Ext w w') ?_ (fun _ _ _ h=>h);refine ap func212 ?_;simp only[bX,cn,af];refine⟨fun h=>by omega,fun _=>⟨fun h=>by omega,fun _=>⟨fun h=>by omega,fun _=>?_⟩⟩⟩;rw[ft fq.u b4.u,wrap_u8 (by omega) (by omega)];refine Hx bY.u (by exact Nat.lt_of_lt_of_le E (by decide)) fun b J=>?_;rw[ft b4.u ab.u];simp only[aB];exact⟨⟨_,rfl⟩,Ext.refl _⟩
theorem Hz {g:Nat} (h:ak .i64 ab w g sv l) (O:l.length≤12):
  ag x5 DB [sv] w fun _ w'=>ad (fun r=>r=g) w w'∧ ∃ m,m.Perm l∧m.Pairwise (·≤ ·)∧ak .i64 ab w' g sv m:=by
 refine ap func267 ?_;rw[aK al.u h.ls,ft ab.u l3.u,wrap_u64 (by omega) (by omega)];refine (Hy (n:=l.length) (by omega)).mono ?_;rintro _ E _ ⟨⟨r,rfl⟩,J⟩;refine ag.mono (K:=fun _ w'=>ad (fun r=>r=g) E w'∧ ∃ m,m.Perm l∧m.Pairwise (·≤ ·)∧ak .i64 ab w' g sv m) ?_ (fun _ _ _ h=>⟨(J.U _).trans h.1,h.2⟩);refine ap func290 ?_;refine⟨fun a b _ _ _ V=>a= .int .i64 0∧b= .int .i64 l.length∧E=V,fun _ _ _ _ _ _=>0,⟨rfl,rfl,rfl⟩,?_⟩;rintro _ _ _ _ _ _ ⟨rfl,rfl,rfl⟩;simp only[dk,nv,af];rw[wrap_i64 (by omega) (by omega)];refine⟨fun _=>?_,fun h=>by omega⟩;refine (Hw (h.ext J) (by omega)).mono ?_;exact fun _ _ _ h=>h
theorem HA {f:FuncId} {cap:Array y0} {J:Nat→List y0→x1→Prop} {E:x1→Prop} {L:List Int} (O:lU x5 f cap.toList n J E) (U:∀ k vs w,J k vs w→ ∃ x,L[k]? =some x∧vs=[.int .i64 x])
  (hE:∀ a b,ad (fun r=>w.heap.size≤r) a b→E a→E b) (W:E w) (X:n=L.length) (Y:L.length≤12):
  ag x5 vB [.func (.func f) #[] cap] w fun v w'=>Ext w w'∧ ∃ g m,w.heap.size≤g∧m.Perm L∧m.Pairwise (·≤ ·)∧ak .i64 ab w' g v m:=by
 refine ap func235 ?_;refine (Ht O U hE W X (by omega)).mono ?_;rintro v ai _ ⟨Z,g,aa,ac⟩;refine (Hz ac Y).mono ?_;rintro _ V _ ⟨ae,m,h1,af,ah⟩;exact⟨Z.then ae (by rintro r aj rfl;omega),g,m,aa,h1,af,ah⟩
theorem yM {x:Int} (h:ay .i64 w sv l):
  ag x5 rI [sv,.int .i64 x] w fun v w'=>Ext w w'∧ ∃ r:Int,v= .int .i64 r∧ ∀ i:Nat,l[i]? =some x→(r=i↔ ∀ j,j<i→l[j]? ≠some x):=by
 refine ap func160 ?_;rw[aK al.u h];refine bO.range l.length (fun i _ O=>Ext w O∧ ∀ j,j<i→l[j]? ≠some x) h.le ⟨Ext.refl _,fun j V=>by omega⟩ ?_ ?_
 ·rintro i _ O k hi ⟨E,J⟩ W;simp only[aC,af];refine⟨fun _=>?_,fun h=>by omega⟩;obtain⟨y,U⟩:=aE (l:=l) hi;rw[a1 al.u ab.i (by kernel_rfl) (h.ext E) U];simp only[bc,af,aB];refine⟨fun he=>⟨E,i,rfl,fun q X=>?_⟩,fun he=>W _ _ ⟨E,fun j V=>?_⟩⟩
  ·subst he;refine⟨fun aa=>by
              have:i=q:=by omega
              subst this;exact J,fun Y=>?_⟩
   rcases Nat.lt_trichotomy i q with h1|h1|h1
   ·exact absurd U (Y i h1)
   ·omega
   ·exact absurd X (J q h1)
  ·by_cases Z:j=i
   ·subst Z;rw[U];intro h;exact he (b9 h).symm
   ·exact J j (by omega)
 ·rintro _ O k ⟨E,J⟩;simp only[aC,af];refine⟨fun h=>by omega,fun _=>⟨E,-1,rfl,fun i hi=>?_⟩⟩;exact absurd hi (J i (x3.1 hi).1)
theorem HB {g:Nat} {w0:x1} (W:aa w0 g al [sv]) (E:ay .i64 w0 sv l):
  lU x5 l1 [.pointer (some ⟨g,0,none⟩)] l.length (fun k vs _=>∃ x,l[k]? =some x∧vs=[.int .i64 x]) (fun w=>Ext w0 w):=by
 refine⟨l1.enters,fun y X ah w ai _ Y J Z=>?_⟩;refine ps func268 ?_;rw[av (by kernel_rfl) ((W.ext J).cell (o:=0) rfl),aK al.u (E.ext J)];refine bS.range l.length (fun i V=>X i V∧Ext w0 V) E.le ⟨Z,J⟩ ?_ ?_
 ·rintro i V k hi ⟨O,U⟩ ac;simp only[aC,af];refine⟨fun _=>?_,fun h=>by omega⟩;obtain⟨x,J⟩:=aE (l:=l) hi;rw[a1 al.u ab.i (by kernel_rfl) (E.ext U) J];refine⟨rfl,(Y i _ V hi U ⟨x,J,rfl⟩ O).mono ?_⟩;rintro _ aj (⟨rfl,ad,ae⟩|⟨rfl,ag⟩)
  ·simp only[bJ,Y0,aR,aB];exact ac _ ⟨ae.1,ad⟩
  ·simp only[bJ,Y9,bq];exact .inr ⟨i,hi,ag⟩
 ·rintro V k ⟨O,_⟩;simp only[aC,af];exact⟨fun h=>by omega,fun _=>.inl O⟩
theorem sV (h:ay .i64 w sv l) (W:l.length≤12)
  (X:∀ v w' g m,Ext w w'→w.heap.size≤g→m.Perm l→m.Pairwise (·≤ ·)→ak .i64 ab w' g v m→K v w'):
  ag x5 vC [sv] w fun t O=>ag x5 vB [t] O K:=by
 refine Hr.mono ?_;rintro _ O _ ⟨U,g,rfl,af,E⟩;have E:aa O g al [sv]:=by rw[h.cells.1] at E;exact E
 refine (HA (HB E (h.ext U)) (fun _ _ _ h=>h) (fun a b Y J=>J.then Y (fun r ah h=>by omega)) (Ext.refl _) rfl W).mono ?_;rintro v V _ ⟨Z,ac,m,ai,h1,ad,ae⟩;have:=U.size;exact X v V ac m (U.trans Z) (by omega) h1 ad ae
def HC (w:x1) (ai:List Int) (k:Int) (cs E:List Int) (v:y0) (w':x1):Prop:=
 Ext w w'∧
  (¬Good E ai.length→v= .tuple #[.pointer none,.int .i64 1])∧
  (Good E ai.length→ ∃ J O U,v= .tuple #[.pointer (some ⟨J,0,none⟩),.int .i64 0]∧cA w' J O U (dr ai E) k (lh ai cs E))
set_option maxHeartbeats 1000000 in
theorem HD {g bX:Nat} {aI:y0} {cs E:List Int} (h:cA w g bX sv ai k cs) (bY:right k) (au:ay .i64 w aI E) (cL:E.length≤12) (cM:Good E ai.length→az (dr ai E)≤4096):
  ag x5 Dl [.pointer (some ⟨g,0,none⟩),aI] w (HC w ai k cs E):=by
 have a2:=h;have cN:=h.2.2.1;have cO:=au.cells;refine iV func237 ?_;refine a7 fun bZ dv dw b1 W=>?_;refine a7 fun b2 V dx bu O=>?_;have dy:=b1.size;have dz:=bu.size;have dA:=W.lt;have dC:=O.lt;have bw:=b1.trans bu;have W:aa V bZ dJ [.pointer (some ⟨g,0,none⟩)]:=W.ext bu;have O:aa V b2 al [aI]:=by rw[cO.1] at O;exact O
 rw[av (by kernel_rfl) (W.cell (o:=0) rfl),cQ dJ.u];simp only[c6,aR];rw[av (by kernel_rfl) (O.cell (o:=0) rfl)];have cP:=au.ext bw;have sub:∀ {w:x1} {g:Nat} {sv:y0} {k:Int} {aJ:y0},aa w g ci [sv,.int .i64 k,aJ]→w.rangeAt g (0+0) [sv]:=fun am=>k9 am (by
  intro j v ac
  match j,ac with
  |0,ac=>exact ac)
 refine sV cP cL fun dD cR dE m b3 dF bx cS hm=>?_;have cT:=bx.length_eq;rw[aK al.u hm.ls];have cU:=bw.trans b3;refine lS.range m.length (fun i _ _ bA=>Ext cR bA∧ ∀ j,j<i→m[j]? =some (j:Int)) (by omega) ⟨Ext.refl _,fun j bC=>by omega⟩ ?_ ?_
 ·rintro i _ _ bA aL hi ⟨aM,bE⟩ aN;simp only[aC,af];refine⟨fun _=>?_,fun h=>by omega⟩;obtain⟨y,aO⟩:=aE (l:=m) hi;rw[a1 al.u ab.i (by kernel_rfl) (hm.ls.ext aM) aO];simp only[bj,af,aB];refine⟨fun aP dG cW _=>⟨(cU.trans aM).trans cW,fun _=>rfl,fun bF=>?_⟩,fun he=>aN _ _ _ ⟨aM,fun j bC=>?_⟩⟩
  ·have:=w6 bF bx cS i hi;rw[aO] at this;exact absurd (b9 this).symm aP
  ·by_cases cX:j=i
   ·subst cX;rw[aO];congr 1;omega
   ·exact bE j (by omega)
 ·rintro _ _ bA aL ⟨aM,bE⟩;simp only[aC,af,du];refine⟨fun h=>by omega,fun _ dH cY _ _=>?_⟩;have X:Good E m.length:=Fe bE bx;have aQ:=(b3.trans aM).trans cY;have a6:=bw.trans aQ;have W:=W.ext aQ;have O:=O.ext aQ;have cZ:=au.ext a6;have c0:=a2.ext a6;have dI:=aQ.size;obtain⟨⟨aJ,gs,am,bc,b4⟩,_⟩:=id c0;rw[av (by kernel_rfl) (O.cell (o:=0) rfl),aK al.u cZ,av (by kernel_rfl) (W.cell (o:=0) rfl),bB,aF ci.p rfl,bn (cs:=[sv]) bb.p bb.i rfl (sub am)];refine (xw bc.ls).mono ?_;rintro _ bd _ ⟨rfl,ao⟩;refine⟨.inl ao,?_⟩;simp only[bj,af];refine⟨fun aP dK c1 _=>⟨(a6.trans ao).trans c1,fun _=>rfl,fun bF=>absurd (by rw[bF.1]) aP⟩,fun dL=>?_⟩;have bG:E.length=ai.length:=by omega
  have X:Good E ai.length:=by rw[←bG,←cT];exact X
  have dM:=aQ.trans ao;have bH:=a6.trans ao;have W:=W.ext ao;have O:=O.ext ao;have b5:=au.ext bH;rw[av (by kernel_rfl) (O.cell (o:=0) rfl),aK al.u b5];refine ih al.u ab.i (by omega) (by omega) fun gz b6 dN aw b7=>?_;have c2:ak .i64 ab b6 gz (.slice (some ⟨gz,0,none⟩) E.length E.length) (u6 E.length 0):=ak.of (n:=E.length) (bz.full b7 (by simp) (by simp[maxLen];omega));generalize (y0.slice (some ⟨gz,0,none⟩) E.length E.length)=c3 at*;have dO:=ao.size;have dP:=aw.size;have dQ:=b7.lt;rw[av (by kernel_rfl) ((O.ext aw).cell (o:=0) rfl),aK al.u (b5.ext aw)];have b8:=bH.trans aw;have be:(dr ai E).length=E.length:=pU _ _;refine bS.range E.length (fun i Z=>ad (fun r=>r=gz) b6 Z∧ak .i64 ab Z gz c3 (upto (dr ai E) 0 i)) (by omega) ⟨ad.refl _ _,by rw[nG,be];exact c2⟩ ?_ ?_
  ·rintro i Z aL hi ⟨ap,bf⟩ aN;simp only[aC,af];refine⟨fun _=>?_,fun h=>by omega⟩;have aS:Ext w Z:=b8.then ap (by rintro r aq rfl;omega);have bh:Ext bd Z:=aw.then ap (by rintro r aq rfl;omega);obtain⟨p,bI⟩:=aE (l:=E) hi;obtain⟨⟨aJ,gs,am,bc,b4⟩,_⟩:=a2.ext aS;rw[a1 al.u ab.i (by kernel_rfl) (au.ext aS) bI,av (by kernel_rfl) ((W.ext bh).cell (o:=0) rfl),bB,aF ci.p rfl,bn (cs:=[sv]) bb.p bb.i rfl (sub am)];refine (nO bc.ls).mono ?_;rintro _ dR _ ⟨rfl,ca⟩;have cb:=bf.ext ca;have c4:(upto (dr ai E) 0 i).length=E.length:=by rw[nF,be]
   rw[gn rfl al.u ab.i cb (by omega)];refine gp ab.i cb (by omega) fun dS c5 _ cc=>?_;simp only[aB];have h1:=(X.2 i p bI).1;have aT:(dr ai E)[i]? =some (fY ai p):=by
    unfold dr fY;rw[x7,bI,if_pos h1.1];rfl
   rw[nI aT] at cc;exact aN _ ⟨(ap.trans (ca.U _)).trans c5,cc⟩
  ·rintro Z aL ⟨ap,bf⟩;simp only[aC,af];refine⟨fun h=>by omega,fun _=>?_⟩;have aS:Ext w Z:=b8.then ap (by rintro r aq rfl;omega);have bh:Ext bd Z:=aw.then ap (by rintro r aq rfl;omega);rw[←be,nH] at bf;obtain⟨⟨aJ,gs,am,bc,b4⟩,_⟩:=a2.ext aS;rw[av (by kernel_rfl) ((W.ext bh).cell (o:=0) rfl),aD ci.p 1 am rfl];have bi:bD (dr ai E):=cN.Fg X rfl;have cd:=cM X;have dT:=prod_bound bi;refine (r2 bf.ls).mono ?_;rintro _ bJ _ ⟨ce,_,_,_,c7⟩;obtain⟨aU,ae,ax,rfl,dU,dV,dW,bk⟩:=c7 bi cd ⟨bY,by omega,by have:=bY.1;omega⟩;obtain⟨N,bl⟩:∃ N:Nat,(az (dr ai E)).toNat=N:=⟨_,rfl⟩;rw[bl] at bk;rw[a8,ba];refine bg dJ.i fun cg dX dY ch aV=>?_;refine aY dJ.i rfl rfl aV (by simp[y0.cells]) fun c8 c9 dZ aV=>?_;have ea:=ap.size;have eb:=ce.size;have ec:=ch.size;have bK:Ext bJ c8:=ch.then c9 (by rintro r aq rfl;omega);have cj:=ce.trans bK;have da:=bk.ext bK;have ed:=aV.lt;obtain⟨⟨bL,ck,cl,cm,db⟩,⟨cn,cp,_⟩,_,ee⟩:=id da;have ef:0<N:=by omega
   have eg:aU<bJ.heap.size:=by obtain⟨⟨_,_,q,_⟩,_⟩:=id bk;exact q.lt
   have eh:ae<bJ.heap.size:=by obtain⟨⟨_,_,_,_,q⟩,_⟩:=id bk;exact qo q (by simp;omega)
   rw[av (by kernel_rfl) (aV.cell (o:=0) rfl),bB,aF ci.p rfl,bn (cs:=[ax]) bb.p bb.i rfl (sub cl)];refine sz.mono ?_;rintro _ Y _ ⟨ah,bm,rfl,ei,cr⟩;have ej:=bK.size;have ek:=ah.size;let S:Nat→Prop:=fun r=>r=ae;let aA:=lh ai cs E;have bM:aA.length=N:=by simp only[aA];rw[xc,bl]
   let dc:x1→Prop:=fun w'=>aa w' bZ dJ [.pointer (some ⟨g,0,none⟩)]∧aa w' b2 al [aI]∧aa w' cg dJ [.pointer (some ⟨aU,0,none⟩)]∧aa w' aU ci [ax,.int .i64 k,bL]∧
    cA w' g bX sv ai k cs∧ay .i64 w' aI E∧ak .i64 ab w' ck ax (dr ai E)∧aa w' bm bb [ax]∧Y.heap.size≤w'.heap.size
   have aG:∀ {a:x1},ad S Y a→dc a:=by
    intro a J;have bN:Ext bd Y:=(bh.trans cj).trans ah;have bO:Ext bd a:=bN.put J (by omega);have ct:Ext w a:=bH.trans bO;refine⟨W.ext bO,O.ext bO,(aV.ext ah).U J (by show ¬(cg=ae);omega),(cl.ext ah).U J (by show ¬(aU=ae);exact cn),a2.ext ct,au.ext ct,aZ (cm.ext ah) J (fun r aq he=>cp ((show r=ae from he)▸aq)),
     cr.U J (by show ¬(bm=ae);omega),J.size⟩
   have cu:=sy (g:=bm) (B0:=Y.heap.size) (sv:=ax) bi;rw[bl] at cu;refine lV.old ⟨Nat,false,jF,#[.pointer (some ⟨bm,0,none⟩)],0,_,_,_,fun q w'=>ad S Y w'∧ak .i64 aj w' ae bL (upto aA 0 q),fun _ _ _=>False,rfl,cu.s,
    ?_,fun _ _ J h=>⟨h.1.ext J,h.2.1.ext J,Z3 h.2.2 J.size⟩,fun _ _ _ J h=>⟨h.1.trans (J.U S),h.2.ext J⟩,fun _ _ _ _ _ h=>h,⟨cr,(cm.ext ah).ls,r9 _⟩,⟨ad.refl _ _,?_⟩,?_,?_,fun _ _ h=>h.elim,fun _ _ _ h=>h.elim⟩
   ·rintro _ _ _ _ ⟨_,_,_,_,rfl,_⟩;rfl
   ·rw[nG,bM];exact db.ext ah
   ·rintro _ em q _ en ⟨_,_,eo⟩ ⟨aT,rfl,ep,gt,dd,er,de⟩ ⟨bo,df⟩;cases dd;let x:=cq (dr ai E) (q:Int);have cw:x.length=E.length:=by simp only[x];rw[hs,be]
    intro dg aH _ _;have cz:=de.ext aH;rw[aK al.u cz.ls];refine ih al.u ab.i (by rw[hs];omega) (by rw[hs];omega) fun go cB es bP cC=>?_;have dh:ak .i64 ab cB go (.slice (some ⟨go,0,none⟩) (cq (dr ai E) (q:Int)).length (cq (dr ai E) (q:Int)).length) (u6 (cq (dr ai E) (q:Int)).length 0):=ak.of (n:=(cq (dr ai E) (q:Int)).length) (bz.full cC (by simp) (by rw[hs];simp[maxLen];omega));generalize (y0.slice (some ⟨go,0,none⟩) (cq (dr ai E) (q:Int)).length (cq (dr ai E) (q:Int)).length)=di at*;have et:=bo.size;have eu:=aH.size;have ev:=bP.size;have lo:=cC.lt;have dj:ad S Y cB:=bo.trans ((aH.trans bP).U S);have f:=aG dj;rw[av (by kernel_rfl) (f.2.1.cell (o:=0) rfl),aK al.u f.2.2.2.2.2.1];refine bS.range E.length (fun j bp=>Ext dg bp∧ ∃ y:List Int,y.length=E.length∧ak .i64 ab bp go di y∧ ∀ (i:Nat) (p:Int),i<j→E[i]? =some p→y[p.toNat]? =x[i]?) (by omega)
     ⟨bP,_,by simp[cw,x],dh,fun i p hi=>by omega⟩ ?_ ?_
    ·rintro j bp aL bC ⟨aW,y,bQ,bq,bR⟩ aN;simp only[aC,af];refine⟨fun _=>?_,fun h=>by omega⟩;have f:=aG (bo.trans ((aH.trans aW).U S));obtain⟨p,br⟩:=aE (l:=E) bC;obtain⟨u,hu⟩:=aE (l:=x) (i:=j) (by omega);have ew:=(X.2 j p br).1;rw[a1 al.u ab.i (by kernel_rfl) f.2.2.2.2.2.1 br,a1 al.u ab.i (by kernel_rfl) (cz.ext aW).ls hu,gn (i:=p.toNat) (by omega) al.u ab.i bq (by omega)];refine gp ab.i bq (by omega) fun ey dk ez dl=>?_;simp only[aB];refine aN _ ⟨aW.then dk (by rintro r aq rfl;omega),_,by simpa using bQ,dl,fun i bt hi aX=>?_⟩;by_cases cD:i=j
     ·subst cD;rw[br] at aX;cases aX;rw[V8 (by omega),hu]
     ·have eA:=(X.2 i bt aX).1;have aP:p.toNat≠bt.toNat:=fun he=>by
       have:p=bt:=by omega
       subst this;exact cD (X.inj aX br)
      rw[List.getElem?_set_ne aP];exact bR i bt (by omega) aX
    ·rintro bp aL ⟨aW,y,bQ,bq,bR⟩;simp only[aC,af];refine⟨fun h=>by omega,fun _ dm cE _ _=>?_⟩;have aO:y=jO E x:=xa X (by rw[cw,bG]) (by rw[bQ,bG]) fun i p cF=>bR i p (x3.1 cF).1 cF;have cG:=aW.trans cE;have cH:ad S Y dm:=bo.trans ((aH.trans cG).U S);obtain⟨f1,f2,f3,f4,f5,f6,f7,f8,f9⟩:=aG cH;rw[av (by kernel_rfl) (f3.cell (o:=0) rfl),aD ci.p 2 f4 rfl,av (by kernel_rfl) (f1.cell (o:=0) rfl)];refine (r3 f5 (bq.ls.ext cE)).mono ?_;rintro _ eB _ ⟨rfl,bT⟩;refine⟨.inl bT,?_⟩;obtain⟨e,he⟩:=sU ai y cs;rw[he,a8,ba];have dn:=cH.trans (bT.U S);have cI:=(df.ext ((aH.trans cG).trans bT));have c4:(upto aA 0 q).length=N:=by rw[nF,bM]
     rw[gn rfl an.u aj.i cI (by omega)];refine gp aj.i cI (by omega) fun dp dq eC cJ=>?_;have cK:ad S Y dp:=dn.trans (dq.mono fun r _ h=>h);obtain⟨f1,f2,f3,f4,f5,f6,f7,f8,f9⟩:=aG cK;have ds:aA[q]? =some (cV ai cs y):=by
      simp only[aA,lh];rw[x7,List.getElem?_range (by rw[bl];exact aT),aO];rfl
     rw[nI ds] at cJ;exact⟨⟨f8,f7.ls,f9⟩,⟨cK,cJ⟩,fun h=>by cases h⟩
   ·rintro q eD aT ⟨bU,bV⟩;rw[show q=N from aT] at bV;have f:=aG bU;rw[av (by kernel_rfl) (f.2.2.1.cell (o:=0) rfl)];intro eE bW _;obtain⟨f1,f2,f3,f4,f5,f6,f7,f8,f9⟩:=aG (bU.trans (bW.U S));rw[←bM,nH] at bV;have bN:Ext w Y:=(aS.trans cj).trans ah;refine⟨(bN.put bU (by omega)).trans bW,fun dt=>absurd X dt,fun _=>⟨aU,ae,ax,rfl,⟨bL,ck,f4,f7,bV.ext bW⟩,⟨cn,cp,cd⟩,bi,xc _ _ _⟩⟩
def fh (l:List Int):Prop:=∀ (i j:Nat) (x y:Int),i<j→l[i]? =some x→l[j]? =some y→x<y
theorem fh.inj (h:fh l) {i:Nat} {x:Int} (hi:l[i]? =some x) (E:l[j]? =some x):i=j:=by
 rcases Nat.lt_trichotomy i j with h1|h1|h1
 ·have:=h i j x x h1 hi E;omega
 ·exact h1
 ·have:=h j i x x h1 E hi;omega
def dedup (l:List Int):Nat→List Int
 |0=>[]
 |j+1=>if 0<j∧l[j]? =l[j-1]? then dedup l j else dedup l j++[l.getD j 0]
theorem yN (l:List Int):∀ j,(dedup l j).length≤j
 |0=>r9 _
 |j+1=>by
  have:=yN l j;unfold dedup;split
  ·omega
  ·simp;omega
theorem sW (E:0<j) (h:l[j]? =l[j-1]?):dedup l (j+1)=dedup l j:=by
 rw[dedup,if_pos ⟨E,h⟩]
theorem sX {x:Int} (J:l[j]? =some x) (h:0<j→l[j]? ≠l[j-1]?):dedup l (j+1)=dedup l j++[x]:=by
 rw[dedup,if_neg (fun E=>h E.1 E.2),u4,J];rfl
theorem qu {l:List Int}:∀ {j:Nat},j≤l.length→(∀ i,i<j→0<i→l[i]? ≠l[i-1]?)→dedup l j=l.take j
 |0,_,_=>by simp[dedup]
 |j+1,O,h=>by
  have J:l[j]? =some l[j]:=x4 (by omega);rw[sX J (h j (by omega)),qu (by omega) (fun i hi E=>h i (by omega) E),u5,J];rfl
theorem yO {l:List Int} (U:l.Pairwise (·≤ ·)):∀ {j:Nat},j≤l.length→(fh (dedup l j)∧ ∀ x,x∈dedup l j↔x∈l.take j)
 |0,_=>⟨fun i j x y _ h=>by simp[dedup] at h,fun x=>by simp[dedup]⟩
 |j+1,ah=>by
  obtain⟨h1,V⟩:=yO U (j:=j) (by omega);have J:l[j]? =some l[j]:=x4 (by omega);by_cases O:0<j∧l[j]? =l[j-1]?
  ·rw[sW O.1 O.2];refine⟨h1,fun x=>?_⟩;rw[V,u5,J];simp only[j5,p8,p9];refine⟨.inl,fun h=>h.elim id fun he=>?_⟩;subst he;have X:(l.take j)[j-1]? =some l[j]:=by rw[c7 (by omega),←O.2,J]
   exact x2 X
  ·have Y:0<j→l[j]? ≠l[j-1]?:=fun ab he=>O ⟨ab,he⟩;rw[sX J Y];have ac:∀ x∈dedup l j,x<l[j]:=fun x ad=>by
    obtain⟨i,hi,he⟩:=List.getElem_of_mem ((V x).1 ad);have ai:i<j:=by rw[o6] at hi;omega
    rw[List.getElem_take] at he;subst he;have X:l[i]≤l[j-1]:=by
     by_cases Z:i=j-1
     ·subst Z;exact Int.le_refl _
     ·exact X6.1 U i (j-1) (by omega) (by omega) (by omega)
    have Z:=X6.1 U (j-1) j (by omega) (by omega) (by omega);have aa:=Y (by omega);rw[J,x4 (show j-1<l.length by omega)] at aa;have aj:l[j]≠l[j-1]:=fun h=>aa (by rw[h]);omega
   refine⟨fun a b x y ae W E=>?_,fun x=>?_⟩
   ·have af:=(x3.1 E).1;simp only[u7,n9,List.length_nil] at af;rw[Z4 (by omega)] at W;by_cases ag:b=(dedup l j).length
    ·subst ag;rw[Z7 (r9 _),X9] at E;simp at E;subst E;exact ac x (x2 W)
    ·rw[Z4 (by omega)] at E;exact h1 a b x y ae W E
   ·rw[u5,J];simp only[j5,p8,p9,V]
def n7 (l:List Int):Prop:=∀ (j:Nat) (x:Int),l[j]? =some x→0≤x∧(0<j→ ∀ y,l[j-1]? =some y→y<x)
theorem n7.up (h:n7 l):fh l:=by
 intro i j x y W J;induction j generalizing y with
 |zero=>omega
 |succ j U=>
  intro O;have X:=(x3.1 O).1;obtain⟨z,E⟩:∃ z,l[j]? =some z:=⟨_,x4 (show j<l.length by omega)⟩;have h1:=(h (j+1) y O).2 (by omega) z (by simpa using E);by_cases V:i=j
  ·subst V;rw[J] at E;cases E;exact h1
  ·have:=U z (by omega) E;omega
theorem HE (h:fh l) (E:∀ x∈l,0≤x):n7 l:=fun j x J=>⟨E x (x2 J),fun U y O=>h (j-1) j y x (by omega) O J⟩
theorem yP {g ak:Nat} {ad:y0} {cs:List Int} (h:cA w g ak sv ai k cs) (E:ay .i64 w ad l):
  ag x5 Dm [.pointer (some ⟨g,0,none⟩),ad] w fun v w'=>Ext w w'∧ ∃ c,v= .bool c∧(c=true↔l.length=ai.length∧n7 l):=by
 obtain⟨⟨aJ,gs,am,hm,U⟩,_⟩:=h;have sub:w.rangeAt g (0+0) [sv]:=k9 am (by
  intro j v ac
  match j,ac with
  |0,ac=>exact ac)
 refine ap func238 ?_;rw[aK al.u E,bB,aF ci.p rfl,bn (cs:=[sv]) bb.p bb.i rfl sub];refine (xw hm.ls).mono ?_;rintro _ aA _ ⟨rfl,W⟩;simp only[bj,af];refine⟨fun an=>⟨W,false,rfl,(fun h=>by cases h),fun h=>absurd (by rw[h.1]) an⟩,fun ah=>?_⟩;have ah:l.length=ai.length:=by omega
 rw[aK al.u (E.ext W)];refine bO.range l.length (fun i _ V=>Ext w V∧ ∀ (j:Nat) (x:Int),j<i→l[j]? =some x→0≤x∧(0<j→ ∀ y,l[j-1]? =some y→y<x)) E.le ⟨W,fun j x ao=>by omega⟩ ?_ ?_
 ·rintro i _ V aq hi ⟨O,X⟩ au;simp only[aC,af];refine⟨fun _=>?_,fun h=>by omega⟩;obtain⟨x,J⟩:=aE (l:=l) hi;have aD:=E.le;rw[a1 al.u ab.i (by kernel_rfl) (E.ext O) J];refine aI (fun v av=>V=av∧ ∃ c,v= .bool c∧(c=false↔0≤x∧(0<i→ ∀ y,l[i-1]? =some y→y<x))) ?_ ?_
  ·rintro _ _ ⟨rfl,c,rfl,U⟩;rw[ca];simp only[aB];refine⟨fun aw=>⟨O,false,rfl,(fun h=>by cases h),fun h=>?_⟩,fun ae=>au _ _ ⟨O,fun j ax ao Y=>?_⟩⟩
   ·have:=U.2 (h.2 i x J);rw[aw] at this;cases this
   ·by_cases az:j=i
    ·subst az;rw[J] at Y;cases Y;exact U.1 ae
    ·exact X j ax (by omega) Y
  ·intro aG Z;simp only[aC,br,dk,af];refine⟨fun aH=>Z _ _ ⟨rfl,true,rfl,(fun h=>by cases h),fun h=>by omega⟩,fun aL=>⟨fun aM=>?_,fun aN=>Z _ _ ⟨rfl,false,rfl,fun _=>⟨by omega,fun h=>by omega⟩,fun _=>rfl⟩⟩⟩;obtain⟨y,aa⟩:∃ y,l[i-1]? =some y:=⟨_,x4 (show i-1<l.length by omega)⟩;rw[wrap_i64 (by omega) (by omega),fv (i:=i-1) (by omega) al.u ab.i (by kernel_rfl) (E.ext O) aa];simp only[cn];refine Z _ _ ⟨rfl,_,rfl,?_⟩;rw[decide_eq_false_iff_not];refine⟨fun h=>⟨by omega,fun _ aO aj=>by rw[aa] at aj;cases aj;omega⟩,fun h=>by have:=h.2 (by omega) y aa;omega⟩
 ·rintro _ V aq ⟨O,X⟩;simp only[aC,af];exact⟨fun h=>by omega,fun _=>⟨O,true,rfl,fun _=>⟨ah,fun j x J=>X j x (x3.1 J).1 J⟩,fun _=>rfl⟩⟩
def fi (l:List Int) (x:Int):Int:=if x∈l then (l.idxOf x:Int) else-1
theorem sY {i:Nat} {x:Int} (h:fh l) (hi:l[i]? =some x):fi l x=i:=by
 have hm:x∈l:=x2 hi;have E:=List.idxOf_lt_length_of_mem hm;have J:l.idxOf x=i:=h.inj (by rw[x4 E,List.getElem_idxOf E]) hi;unfold fi;rw[if_pos hm,J]
theorem HF {x:Int} (h:x∉l):fi l x= -1:=if_neg h
theorem qv {x:Int} (h:ay .i64 w sv l) (hu:fh l):
  ag x5 rI [sv,.int .i64 x] w fun v w'=>v= .int .i64 (fi l x)∧Ext w w':=by
 refine ap func160 ?_;rw[aK al.u h];refine bO.range l.length (fun i _ J=>Ext w J∧ ∀ j,j<i→l[j]? ≠some x) h.le ⟨Ext.refl _,fun j V=>by omega⟩ ?_ ?_
 ·rintro i _ J k hi ⟨E,O⟩ W;simp only[aC,af];refine⟨fun _=>?_,fun h=>by omega⟩;obtain⟨y,U⟩:=aE (l:=l) hi;rw[a1 al.u ab.i (by kernel_rfl) (h.ext E) U];simp only[bc,af,aB];refine⟨fun he=>⟨?_,E⟩,fun he=>W _ _ ⟨E,fun j V=>?_⟩⟩
  ·subst he;rw[sY hu U]
  ·by_cases X:j=i
   ·subst X;rw[U];intro h;exact he (b9 h).symm
   ·exact O j (by omega)
 ·rintro _ J k ⟨E,O⟩;simp only[aC,af];refine⟨fun h=>by omega,fun _=>⟨?_,E⟩⟩;rw[HF];intro hm;obtain⟨i,hi,he⟩:=List.getElem_of_mem hm;exact O i hi (by rw[x4 hi,he])
def dW (x vars scope:List Int):List Int:=scope.map fun p=>x.getD (vars.idxOf p) 0
theorem HG (x vars scope:List Int):(dW x vars scope).length=scope.length:=by simp[dW]
theorem yQ {Y Z:y0} {x vars:List Int} (J:ay .i64 w Y x) (ac:ay .i64 w Z vars) (U:ay .i64 w sv scope) (hu:fh vars) (ai:∀ p∈scope,p∈vars) (ax:x.length=vars.length) (az:scope.length≤1000):
  ag x5 Dr [Y,Z,sv] w fun v w'=>Ext w w'∧ ∃ g,w.heap.size≤g∧ak .i64 ab w' g v (dW x vars scope):=by
 refine ap func243 ?_;rw[aK al.u U];refine ih al.u ab.i (by omega) (by omega) fun gz aj aA aa am=>?_;have an:ak .i64 ab aj gz (.slice (some ⟨gz,0,none⟩) scope.length scope.length) (u6 scope.length 0):=ak.of (n:=scope.length) (bz.full am (by simp) (by simp[maxLen];omega));generalize (y0.slice (some ⟨gz,0,none⟩) scope.length scope.length)=ao at*;rw[aK al.u (U.ext aa)];have W:=HG x vars scope;refine bS.range scope.length (fun i V=>Ext w V∧ak .i64 ab V gz ao (upto (dW x vars scope) 0 i)) (by omega) ⟨aa,by rw[nG,W];exact an⟩ ?_ ?_
 ·rintro i V aq hi ⟨E,hm⟩ au;simp only[aC,af];refine⟨fun _=>?_,fun h=>by omega⟩;obtain⟨p,X⟩:=aE (l:=scope) hi;have ad:=ai p (x2 X);have aD:=List.idxOf_lt_length_of_mem ad;rw[a1 al.u ab.i (by kernel_rfl) (U.ext E) X];refine (qv (ac.ext E) hu).mono ?_;rintro _ aF _ ⟨rfl,O⟩;have e:fi vars p=(vars.idxOf p:Int):=if_pos ad;obtain⟨u,ae⟩:∃ u,x[vars.idxOf p]? =some u:=⟨_,x4 (by omega)⟩;have aG:(upto (dW x vars scope) 0 i).length=scope.length:=by rw[nF,W]
  rw[fv (i:=vars.idxOf p) e al.u ab.i (by kernel_rfl) (J.ext (E.trans O)) ae,gn rfl al.u ab.i (hm.ext O) (by omega)];refine gp ab.i (hm.ext O) (by omega) fun aH av _ ah=>?_;simp only[aB];have aw:(dW x vars scope)[i]? =some u:=by
   unfold dW;rw[x7,X,c5,u4,ae];rfl
  rw[nI aw] at ah;exact au _ ⟨(E.trans O).then av (by rintro r aI rfl;omega),ah⟩
 ·rintro V aq ⟨E,hm⟩;simp only[aC,af];refine⟨fun h=>by omega,fun _=>⟨E,gz,by omega,?_⟩⟩;rw[←W,nH] at hm;exact hm
theorem yR (V:t≠[]) (hw:∀ b∈t,bi b=true):lex t=([t],true):=by
 cases t with
 |nil=>exact absurd rfl V
 |cons b q=>
  have E:q.dropWhile bi=[]:=by
   have:∀ (q:List Int),(∀ x∈q,bi x=true)→q.dropWhile bi=[]∧q.takeWhile bi=q:=fun q E=>by
    induction q with
    |nil=>simp
    |cons x q O=>
     have:=O fun y U=>E y (.tail _ U);simp[E x (.head _),this.1,this.2]
   exact (this q fun x J=>hw x (.tail _ J)).1
  have W:q.takeWhile bi=q:=by
   have:∀ (q:List Int),(∀ x∈q,bi x=true)→q.takeWhile bi=q:=fun q E=>by
    induction q with
    |nil=>simp
    |cons x q O=>simp[E x (.head _),O fun y U=>E y (.tail _ U)]
   exact this q fun x J=>hw x (.tail _ J)
  rw[wA (hw b (.head _)),E,W]
theorem yS {p:y0} (h:ay .u8 w p l) (J:Bytes l) (O:l.length≤100000):ag x5 vl [p] w fun v w'=>Ext w w'∧ ∃ g R,v= .pointer (some ⟨g,0,none⟩)∧w.heap.size≤g∧fM w' g R (lex l).1 (lex l).2∧¬R g:=by
 refine (wI h J O).mono ?_;rintro _ Z _ ⟨U,g,rfl,V,W,E⟩;obtain⟨h1,aa,ab,X,ac,hm⟩:=id E;exact⟨U,g,fun r=>r≠g,rfl,V,⟨W,l,0,E,fun r Y=>bE hm X (by decide) Y,by rw[List.drop_zero]⟩,fun h=>h rfl⟩
theorem HH {p:y0} (h:ay .u8 w p t) (Z:Bytes t) (aa:t.length≤100000) (ab:t≠[]) (hw:∀ b∈t,bi b=true):ag x5 Dz [p] w fun v w'=>Ext w w'∧ ∃ n:Int,v= .tuple #[.int .i64 1,.int .i64 n,.int .i64 0]:=by
 have ac:=yR ab hw;refine ap func264 ?_;refine (yS h Z aa).mono ?_;rintro _ ae _ ⟨ah,g,R,rfl,aj,U,ak⟩;rw[ac] at U;refine⟨fun _ _ _ E V=>ad (fun r=>r=g) ae V∧((E= .int .i64 0∧fM V g R [t] true)∨(E= .int .i64 1∧fM V g R [] true)),fun _ _ _ E _=>1-(bk E).toNat,⟨ad.refl _ _,.inl ⟨rfl,U⟩⟩,?_⟩;rintro _ _ _ _ V ⟨W,⟨rfl,J⟩|⟨rfl,J⟩⟩
 ·refine (nK J).mono ?_;rintro v X _ ⟨O,ai,n,rfl⟩;rw[e1,e2,e3,bc,af];refine⟨fun _=>?_,fun h=>absurd rfl h⟩;rw[aB,wrap_i64 (by omega) (by omega)];exact⟨⟨W.trans O,.inr ⟨rfl,ai⟩⟩,by simp[bk]⟩
 ·refine (nK J).mono ?_;rintro v X _ ⟨O,n,rfl⟩;rw[e1,e2,e3,bc,af];refine⟨fun h=>by simp at h,fun _=>?_⟩;rw[bc,af];refine⟨fun h=>by simp at h,fun _=>?_⟩;have Y:Ext w X:=ah.then (W.trans O) (fun r al he=>by have he:r=g:=he;omega);rw[aK b5.u (h.ext Y)];exact⟨Y,_,rfl⟩
theorem HI (E:Bytes t) (J:t.length≤100000) (O:t≠[]) (hw:∀ b∈t,bi b=true):ag x5 Dh [be t] w fun v w'=>v= .bool true∧Ext w w':=by
 have aa:=yR O hw;refine ap func230 ?_;refine sb bY.u b5.u b4.u E (by omega) fun bv ak U ab _=>?_;refine (HH ab E J O hw).mono ?_;rintro _ V _ ⟨W,n,rfl⟩;rw[e1,e2,e3];refine sb bY.u b5.u b4.u E (by omega) fun al am X ac _=>?_;refine (yS ac E J).mono ?_;rintro _ an _ ⟨ad,g,R,rfl,ao,Y,aq⟩;rw[aa] at Y;refine (nK Y).mono ?_;rintro _ Z _ ⟨ae,_,m,rfl⟩;rw[e1,e2,e3];have ah:Ext w Z:=(((U.trans W).trans (X.trans ad))).then ae (fun r au he=>by
  have he:r=g:=he;have:=U.size;have:=W.size;have:=X.size;omega)
 refine aI (fun v ai=>Z=ai∧v= .bool true) ?_ ?_
 ·rintro _ _ ⟨rfl,rfl⟩;exact⟨rfl,ah⟩
 ·intro av aj;rw[bc,af];refine⟨fun _=>?_,fun h=>absurd rfl h⟩;rw[bc,af];refine⟨fun _=>?_,fun h=>absurd rfl h⟩;rw[r6 E E];exact aj _ _ ⟨rfl,by rw[decide_eq_true rfl]⟩
theorem HJ {x:Int}:ag x5 rM [.int .i64 x] w fun v w'=>v= .bool (decide (¬gm x))∧Ext w w':=by
 refine ap func229 ?_;refine aI (fun v U=>w=U∧v= .bool (decide (¬gm x))) ?_ ?_
 ·rintro _ _ ⟨rfl,rfl⟩;exact⟨rfl,Ext.refl _⟩
 ·intro W J;rw[aC,af];refine⟨fun h=>J _ _ ⟨rfl,by rw[decide_eq_true];intro E;have:=E.1;omega⟩,fun h=>?_⟩;rw[br];refine J _ _ ⟨rfl,?_⟩;congr 1;rw[X8,decide_eq_true_eq,decide_eq_true_eq];exact⟨fun O E=>by have:=E.2;omega,fun O=>by
   by_cases V:32<x
   ·exact V
   ·exact absurd ⟨by omega,by omega⟩ O⟩
theorem HK (h:ay .i64 w sv l) (U:∀ x∈l,gm x):
  ag x5 rK [sv,.func (.func rM) #[] #[]] w fun v w'=>v= .bool false∧Ext w w':=by
 refine ap func216 ?_;refine ag.mono (K:=fun v w'=>v= .int .i64 (-1)∧Ext w w') ?_ ?_
 ·refine ap func131 ?_;rw[aK al.u h];refine bO.range l.length (fun _ _ E=>Ext w E) h.le (Ext.refl _) ?_ ?_
  ·rintro i _ E k hi J W;refine bC (by omega) ?_;obtain⟨x,O⟩:=aE (l:=l) hi;rw[a1 al.u ab.i (by kernel_rfl) (h.ext J) O];show ag x5 rM [.int .i64 x] E _;refine HJ.mono ?_;rintro _ V _ ⟨rfl,X⟩;rw[af];refine⟨fun Y=>absurd (U x (x2 O)) Y,fun _=>?_⟩;rw[aB];exact W _ _ (J.trans X)
  ·rintro _ E k J;rw[aC,af];exact⟨fun h=>by omega,fun _=>⟨rfl,J⟩⟩
 ·rintro _ E _ ⟨rfl,J⟩;rw[cn];exact⟨rfl,J⟩
theorem qw {m:Bool} {S R:am} {d:fz} (h:au.rep m S R w cs d):∃ sv g E J gs,cs=[sv,.pointer (some ⟨g,0,none⟩)]∧ay .i64 w sv d.1∧eD w g E J gs d.2.ai d.2.k d.2.o d.2.D:=by
 obtain⟨c,e,A,B,rfl,_,_,_,h1,O⟩:=h;have h1:au.rep (α:=List Int) false bd R w c d.1:=h1;obtain⟨u,rfl⟩:=V7.1 (show c.length=1 from au.len h1);obtain⟨g,m,sv,gs,rfl,U,_⟩:=O;exact⟨u,g,m,sv,gs,rfl,kr h1,U⟩
set_option maxHeartbeats 4000000 in
theorem HL {ay:Nat} {f:bu} {d:fz} {x:bG} {m:Bool} {S R:am} (aN:ji w ay f) (aO:dU N f) (aQ:x∈f.funs) (aS:n5 f.k x d) (aT:au.rep m S R w cs d):
  ag x5 DA [.pointer (some ⟨ay,0,none⟩),.agg cs.toArray] w fun v w'=>v= .bool true∧Ext w w':=by
 obtain⟨szv,bd,gz,be,az,aA,_,_⟩:=aN;obtain⟨sv,gT,bf,bg,gs,rfl,U,aj⟩:=qw aT;obtain⟨aU,aF,aV,bh,bi,bk⟩:=aS;obtain⟨ad,bl,bm⟩:=aO.funs x aQ;rw[aU] at U;refine ap func266 ?_;refine a7 fun aW aG bn X ae=>?_;have ae:aa aG aW bU [sv,.pointer (some ⟨gT,0,none⟩)]:=by obtain⟨_,_,_,rfl⟩:=cL U;exact ae
 refine aI (fun v V=>Ext aG V∧v= .bool false) ?_ ?_
 rotate_left
 ·intro aX ak;intro V O _ _;have W:=ae.ext O;rw[aP bU.p 1 W rfl,cQ dK.u];simp only[c6,aR];rw[aP bU.p 1 W rfl,aD bT.p 1 (az.ext (X.trans O)) rfl];refine (FT (aj.ext (X.trans O)).is).mono ?_;rintro _ Y _ ⟨rfl,E⟩;refine⟨.inl E,?_⟩;rw[bj,af];refine⟨fun h=>absurd aV h,fun _=>?_⟩;have Z:=W.ext E;have an:=O.trans E;rw[aP bU.p 1 Z rfl,aP bU.p 0 Z rfl,aK al.u (U.ext (X.trans an))];refine (FU (aj.ext (X.trans an)).is).mono ?_;rintro _ ah _ ⟨rfl,J⟩;refine⟨.inl J,?_⟩;rw[bj];refine ak _ _ ⟨an.trans J,?_⟩;rw[decide_eq_false];intro h;exact h (by rw[aF,ad.sizes,r8])
 rintro _ V ⟨O,rfl⟩;rw[aR];have W:=ae.ext O;have ao:=X.trans O;rw[aP bU.p 0 W rfl,aK al.u (U.ext ao)];refine bO.range x.scope.length (fun _ _ Y=>Ext V Y) (by omega) (Ext.refl _) ?_ ?_
 rotate_left
 ·rintro _ Y k E;rw[aC,af];exact⟨fun h=>by omega,fun _=>⟨rfl,ao.trans E⟩⟩
 rintro i _ Y k hi E aY;obtain⟨v,ac⟩:=aE (l:=x.scope) hi;have bo:=ad.scope.2 v (x2 ac);have aq:=ao.trans E;have Z:=W.ext E;have aH:=az.ext aq;have aZ:f.sizes[v.toNat]? =some (f.sizes.getD v.toNat 0):=by
  rw[u4,x4 (by omega)];rfl
 refine bC (by omega) ?_;rw[a1 al.u ab.i (by kernel_rfl) (U.ext aq) ac];refine aI (fun b ah=>Ext Y ah∧b= .bool false) ?_ ?_
 ·rintro _ ah ⟨J,rfl⟩;rw[aR,aB];exact aY _ _ (E.trans J)
 ·intro aX ak;intro ah J _ _;have aw:=aq.trans J;refine cH (by omega) ?_;rw[aD bT.p 2 (aH.ext J) rfl,aK al.u (aA.ls.ext aw),cn,af];refine⟨fun h=>by omega,fun _=>?_⟩;rw[aP bU.p 0 (Z.ext J) rfl];refine (yM (U.ext aw)).mono ?_;rintro _ bp _ ⟨aJ,r,rfl,a2⟩;have a6:r=(i:Int):=(a2 i ac).2 fun j bq a8=>by have:=ip ad.scope.1 a8 ac;omega
  subst a6;have aL:=aw.trans aJ;have ax:=J.trans aJ;rw[bj,af];refine⟨fun h=>absurd rfl h,fun _=>?_⟩;rw[aP bU.p 1 (Z.ext ax) rfl,aD bT.p 2 (aH.ext ax) rfl];refine pK (y:=v) (i:=v.toNat) (by omega) al.u ab.i (aA.ls.ext aL) aZ fun b o ba=>?_;rw[av (by kernel_rfl) ba];refine (sC (aj.ext aL).is).mono ?_;rintro br bt _ ⟨aM,bw,bx,bb⟩;refine⟨.inl aM,?_⟩;have bc:d.2.ai[i]? =some (f.sizes.getD v.toNat 0):=by
   rw[aF,ad.sizes,x7,ac];rfl
  rw[a1 al.u ab.i (by kernel_rfl) bb.ls bc,bj];exact ak _ _ ⟨ax.trans aM,by rw[decide_eq_false (fun h=>h rfl)]⟩
theorem HM {U:Nat} {f:bu} {d:fz} {x:bG} {m:Bool} {S R:am} (W:ji w U f) (X:dU N f) (Y:x∈f.funs) (Z:n5 f.k x d) (E:au.rep m S R w cs d):
  ag x5 rN [.pointer (some ⟨U,0,none⟩),.agg cs.toArray] w fun v w'=>v= .bool false∧Ext w w':=by
 refine ap func232 ?_;refine a7 fun ab ac ah J O=>?_;have ad:cs.length=2:=au.len E;have O:aa ac ab bU cs:=by
  obtain⟨sv,gT,ai,aj,gs,rfl,ae,ak⟩:=qw E;obtain⟨_,_,_,rfl⟩:=cL ae;exact O
 rw[bn bU.p bU.i ad O.range];refine (HL (W.ext J) X Y Z (dc E J)).mono ?_;rintro _ V _ ⟨rfl,af⟩;rw[bJ];exact⟨rfl,J.trans af⟩
theorem HN {U:Nat} {f:bu} {X:y0} {O:List fz} {m:Bool} {S R:am} (ab:ji w U f) (ac:dU N f) (W:au.rep m S R w [X] O) (Y:qt f.k f.funs O):
  ag x5 Di [X,.func (.func rN) #[.pointer (some ⟨U,0,none⟩)] #[]] w fun v w'=>v= .bool false∧Ext w w':=by
 refine ap func231 ?_;refine ag.mono (K:=fun v w'=>v= .int .i64 (-1)∧Ext w w') ?_ ?_
 ·refine ap func265 ?_;rw[iZ cZ.u W];refine bO.range O.length (fun _ _ E=>Ext w E) (rW W) (Ext.refl _) ?_ ?_
  ·rintro i _ E k hi J ad;refine bC (by omega) ?_;obtain⟨d,Z⟩:=aE (l:=O) hi;obtain⟨x,aa⟩:∃ x,f.funs[i]? =some x:=⟨_,x4 (by have:=Y.1;omega)⟩;refine md (α:=fz) bU.p rfl cZ.u bU.i (dc W J) Z fun cs ae=>?_;show ag x5 rN [.pointer (some ⟨U,0,none⟩),.agg cs.toArray] E _;refine (HM (ab.ext J) ac (x2 aa) (Y.2 i x d aa Z) ae).mono ?_;rintro _ V _ ⟨rfl,ah⟩;rw[aR,aB];exact ad _ _ (J.trans ah)
  ·rintro _ E k J;rw[aC,af];exact⟨fun h=>by omega,fun _=>⟨rfl,J⟩⟩
 ·rintro _ E _ ⟨rfl,J⟩;rw[cn];exact⟨rfl,J⟩
def gR (E:List bG):Nat:=(E.map fun x=>x.lines.length).sum
set_option maxHeartbeats 4000000 in
theorem HO {aN:Nat} {f:bu} (aO:ji w aN f) (J:dU N f) (bD:N≤60000) (ay:f.name≠[]∧ ∀ b∈f.name,bi b=true):
  ag x5 CM [.pointer (some ⟨aN,0,none⟩)] w fun v w'=>Ext w w'∧ ∃ e:Int,v= .int .i64 e∧(gR f.funs≤16384→e=0):=by
 obtain⟨szv,bE,gz,U,W,az,aA,X⟩:=id aO;have bF:=J.name;have aZ:Bytes f.name:=fun b a2=>by
  have:=of_decide_eq_true (ay.2 b a2);omega
 refine ap func173 ?_;rw[cQ rO.u];simp only[c6,aR];refine aI (fun v aa=>Ext w aa∧v= .bool false) ?_ ?_
 rotate_left
 ·intro aF O;rw[aD bT.p 0 W rfl];refine (HI aZ (by omega) ay.1 ay.2).mono ?_;rintro _ aa _ ⟨rfl,E⟩;rw[bJ,Y0,aR];rw[aD bT.p 2 (W.ext E) rfl,aK al.u (az.ls.ext E),bc,af];refine⟨fun h=>by have:=J.sizes.1;omega,fun _=>?_⟩;rw[aD bT.p 2 (W.ext E) rfl];refine (HK (az.ls.ext E) J.sizes.2.2).mono ?_;rintro _ V _ ⟨rfl,Y⟩;have aQ:=E.trans Y;rw[aR,aD bT.p 1 (W.ext aQ) rfl];refine v8.mono ?_;rintro _ Z _ ⟨rfl,ad⟩;have aq:=aQ.trans ad;rw[decide_eq_true (show right f.k from J.k),bJ,Y0,aR,aD bT.p 3 (W.ext aq) rfl,hM];refine (HN (aO.ext aq) J (dc aA aq) X).mono ?_;rintro _ aS _ ⟨rfl,a6⟩;exact O _ _ ⟨aq.trans a6,rfl⟩
 rintro _ aa ⟨E,rfl⟩;rw[aR];have au:=W.ext E;refine aI (fun v V=>aa=V∧v= .bool false) ?_ ?_
 rotate_left
 ·intro aF O;rw[aD bT.p 0 au rfl,lb bY.u,br,af];refine⟨fun h=>by omega,fun _=>?_⟩;rw[aD bT.p 2 au rfl,aK al.u (az.ls.ext E),br,af];refine⟨fun h=>by have:=J.sizes.2.1;omega,fun _=>?_⟩;rw[aD bT.p 3 au rfl,iZ cZ.u (dc aA E),br];exact O _ _ ⟨rfl,by rw[decide_eq_false];have:=J.jb;have:=X.1;omega⟩
 rintro _ _ ⟨rfl,rfl⟩;have aT:=dc aA E;rw[aD bT.p 3 au rfl,iZ cZ.u aT];refine⟨fun a7 a8 aG V=>∃ i n:Nat,aG= .int .i64 (i:Int)∧i≤U.length∧a7= .int .i64 (n:Int)∧a8= .bool false∧Ext aa V∧n≤gR (f.funs.take i)∧n≤i*60000,fun _ _ aG _=>U.length-(bk aG).toNat,
  ⟨0,0,rfl,Z5 _,rfl,rfl,Ext.refl _,Z5 _,by omega⟩,?_⟩
 rintro _ _ _ V ⟨i,n,rfl,hi,rfl,rfl,Y,ba,bG⟩;have bH:U.length≤256:=by rw[X.1];exact J.jb
 rw[aC,af];refine⟨fun aU=>?_,fun bI=>?_⟩
 ·have aU:i<U.length:=by omega
  obtain⟨d,aV⟩:=aE (l:=U) aU;obtain⟨x,aH⟩:∃ x,f.funs[i]? =some x:=⟨_,x4 (by have:=X.1;omega)⟩;have av:=X.2 i x d aH aV;obtain⟨aw,bb,bd⟩:=J.funs x (x2 aH);have bK:=aw.len;refine fS (fun a b Z=>Ext V Z∧a= .int .i64 ((n+d.2.D.length:Nat):Int)∧b= .bool false) ?_ ?_
  ·rintro _ _ Z ⟨ad,rfl,rfl⟩;rw[aB,wrap_i64 (by omega) (by omega)];have be:=av.2.2.2.2.1;refine⟨⟨i+1,n+d.2.D.length,rfl,by omega,rfl,rfl,Y.trans ad,?_,?_⟩,by simp only[bk];omega⟩
   ·have e:gR (f.funs.take (i+1))=gR (f.funs.take i)+x.lines.length:=by
     unfold gR;rw[u5,aH,j5,j4,List.sum_append,List.map_cons,List.map_nil,List.sum_cons,List.sum_nil,Nat.add_zero]
    omega
   ·have:(i+1)*60000=i*60000+60000:=by omega
    have bL:d.2.D.length≤60000:=by omega
    omega
  ·intro aF O;refine md (α:=fz) bU.p rfl cZ.u bU.i (dc aT Y) aV fun cs bf=>?_;obtain⟨sv,gT,bM,bN,gs,rfl,bh,aW⟩:=qw bf;refine bg bU.i fun bQ Z bR ad bj=>?_;refine bP (vs:=[sv,.pointer (some ⟨gT,0,none⟩)]) bU.i rfl rfl (by intro v ac;simp at ac;rcases ac with rfl|rfl <;> first|exact bh.cells.2|rfl) bj fun aS bl bS aX=>?_;have aJ:Ext V aS:=ad.put bl (by omega);rw[aP bU.p 1 aX rfl];refine (FS (aW.ext aJ).is).mono ?_;rintro _ bV _ ⟨rfl,aL⟩;have be:=av.2.2.2.2.1;rw[aB,wrap_i64 (by omega) (by omega),aP bU.p 1 (aX.ext aL) rfl];refine (sC ((aW.ext aJ).ext aL).is).mono ?_;rintro bW aM _ ⟨bm,bX,bZ,aY⟩;rw[aK al.u aY.ls];have b1:d.2.ai.length≤6:=by rw[av.2.1,aw.sizes,r8];exact bb
   refine bO.range d.2.ai.length (fun j out ax=>Ext aM ax∧ ∃ gr,aM.heap.size≤gr∧ak .i64 aj ax gr out (d.2.ai.take j)) (by omega) ⟨Ext.refl _,aM.heap.size,r9 _,ak.nil _ _ _ _⟩ ?_ ?_
   ·rintro j out ax k bn ⟨ae,gr,bo,ah⟩ bp;obtain⟨z,am⟩:=aE (l:=d.2.ai) bn;refine bC (by omega) ?_;rw[a1 al.u ab.i (by kernel_rfl) (aY.ls.ext ae) am];refine dM an.u aj.i rfl fun a b2 bq b3 ao bt=>?_;refine hr an.u aj.i rfl (ah.ext ao) bt.ls (by simp;omega) (by simp;omega) fun b4 bw b5 b6 bx bz=>?_;have b7:=ae.size;have b8:=ao.size;rw[aB];refine bp _ _ ⟨(ae.trans ao).put bz (by omega),bw,by omega,?_⟩;rw[u5,am];exact bx
   ·rintro out ax k ⟨ae,gr,bo,ah⟩;rw[o5] at ah;refine cH (by omega) ?_;rw[aR];have bA:d.2.ai=x.sizes:=av.2.1;rw[bA] at ah;refine (xt ah.ls fun z am=>?_).mono ?_
    ·rw[aw.sizes] at am;obtain⟨v,ac,rfl⟩:=o8.1 am;have b9:=aw.scope.2 v ac;refine (J.sizes.2.2 _ ?_).1;rw[u4,x4 (by omega)];exact U6 _
    ·rintro _ bq _ ⟨rfl,ao⟩;refine O _ _ _ ⟨(((aJ.trans aL).trans bm).trans ae).trans ao,by congr 1,by rw[bd]⟩
 ·have bB:i=U.length:=by omega
  subst bB;rw[X.1,o5] at ba;refine aI (fun v Z=>V=Z∧v= .bool (decide (16384<(n:Int)))) ?_ ?_
  ·rintro _ _ ⟨rfl,rfl⟩;rw[af];refine⟨fun h=>⟨E.trans Y,5,rfl,fun ca=>by omega⟩,fun h=>⟨E.trans Y,0,rfl,fun _=>rfl⟩⟩
  ·intro aF O;rw[aR,br];exact O _ _ ⟨rfl,rfl⟩
theorem qx:∀ {a b:List Int} {i:Nat},(∀ (j:Nat) (x y:Int),j<i→a[j]? =some x→b[j]? =some y→x=y)→i≤a.length→i≤b.length→eR a b=eR (a.drop i) (b.drop i)
 |_,_,0,_,_,_=>by simp
 |[],_,i+1,_,h,_=>by simp at h
 |_::_,[],i+1,_,_,h=>by simp at h
 |x::a,y::b,i+1,he,h1,E=>by
  have J:=he 0 x y (by omega) rfl rfl;subst J;simp only[eR,Int.lt_irrefl,if_false,List.drop_succ_cons];exact qx (fun j u v O hu ac=>he (j+1) u v (by omega) hu ac) (by simpa using h1) (by simpa using E)
theorem yT {x:Int}:ag x5 cmp_isNaN_int [.int .i64 x] w fun v w'=>v= .bool false∧Ext w w':=by
 refine ap func124 ?_;simp only[bj];exact⟨by simp,Ext.refl _⟩
theorem mJ {x:Int}:ag x5 BF [.int .i64 x,.int .i64 y] w fun v w'=>v= .int .i64 (if x<y then-1 else if y<x then 1 else 0)∧Ext w w':=by
 refine ap func36 ?_;refine yT.mono ?_;rintro _ U _ ⟨rfl,E⟩;refine yT.mono ?_;rintro _ V _ ⟨rfl,J⟩;simp only[aR,aC,br,af];exact⟨fun h=>⟨by rw[if_pos h],E.trans J⟩,fun h=>⟨fun O=>⟨by rw[if_neg h,if_pos O],E.trans J⟩,fun O=>⟨by rw[if_neg h,if_neg O],E.trans J⟩⟩⟩
theorem HP {ah:y0} {b:List Int} (W:ay .i64 w ah a) (Y:ay .i64 w bv b):ag x5 CS [ah,bv] w fun v w'=>v= .int .i64 (eR a b)∧Ext w w':=by
 refine ap func184 ?_;have aG:=W.le;rw[aK al.u W];refine⟨fun _ Z ai=>∃ i:Nat,Z= .int .i64 (i:Int)∧i≤a.length∧i≤b.length∧Ext w ai∧ ∀ (j:Nat) (x y:Int),j<i→a[j]? =some x→b[j]? =some y→x=y,fun _ Z _=>a.length-(bk Z).toNat,⟨0,rfl,Z5 _,Z5 _,Ext.refl _,fun j x y aq=>by omega⟩,?_⟩;rintro _ _ ai ⟨i,rfl,au,av,E,aj⟩;have O:eR a b=eR (a.drop i) (b.drop i):=qx aj au av;simp only[aC,af];refine⟨fun X=>?_,fun aH=>?_⟩
 ·have X:i<a.length:=by omega
  obtain⟨x,J⟩:=aE (l:=a) X;have ak:a.drop i=x::a.drop (i+1):=by rw[Y1 X,(x3.1 J).2]
  rw[a1 al.u ab.i (by kernel_rfl) (W.ext E) J,aK al.u (Y.ext E)];simp only[cn,af];refine⟨fun h=>?_,fun h=>?_⟩
  ·have:b.drop i=[]:=by rw[List.drop_eq_nil_iff];omega
   rw[this,ak] at O;exact⟨by rw[O];rfl,E⟩
  have aa:i<b.length:=by omega
  obtain⟨y,ac⟩:=aE (l:=b) aa;have aw:b.drop i=y::b.drop (i+1):=by rw[Y1 aa,(x3.1 ac).2]
  rw[a1 al.u ab.i (by kernel_rfl) (Y.ext E) ac];refine mJ.mono ?_;rintro _ V _ ⟨rfl,am⟩;rw[ak,aw] at O;simp only[eR] at O;simp only[bj,af,aB];refine⟨fun an=>⟨?_,E.trans am⟩,fun ax=>?_⟩
  ·rw[O];by_cases h1:x<y
   ·rw[if_pos h1,if_pos h1]
   ·by_cases U:y<x
    ·rw[if_neg h1,if_pos U,if_neg h1,if_pos U]
    ·rw[if_neg h1,if_neg U] at an;exact absurd rfl an
  ·rw[wrap_i64 (by omega) (by omega)];refine⟨⟨i+1,rfl,X,aa,E.trans am,fun j az aA aq ad ae=>?_⟩,by simp only[bk];omega⟩;by_cases aD:j=i
   ·subst aD;rw[J] at ad;rw[ac] at ae;cases ad;cases ae;have ao:=Z6.1 ax;by_cases h1:x<y
    ·rw[if_pos h1] at ao;omega
    ·by_cases U:y<x
     ·rw[if_neg h1,if_pos U] at ao;omega
     ·omega
   ·exact aj j az aA (by omega) ad ae
 ·have aF:i=a.length:=by omega
  subst aF;rw[List.drop_length] at O;rw[aK al.u (W.ext E),aK al.u (Y.ext E)];simp only[aC,af];refine⟨fun h=>⟨?_,E⟩,fun h=>⟨?_,E⟩⟩
  ·obtain⟨y,l,e⟩:∃ y l,b.drop a.length=y::l:=⟨_,_,Y1 (by omega)⟩;rw[O,e];rfl
  ·have:b.drop a.length=[]:=by rw[List.drop_eq_nil_iff];omega
   rw[O,this];rfl
theorem HQ {x:Int} {V:y0} (h:ay .i64 w V [x,y]):ag x5 vf [V] w fun v w'=>v= .int .i64 (if x≠0 then x else y)∧Ext w w':=by
 refine ap func35 ?_;rw[aK al.u h];refine bO.range 2 (fun i _ U=>Ext w U∧(1≤i→x=0)∧(2≤i→y=0)) (by omega) ⟨Ext.refl _,by omega,by omega⟩ ?_ ?_
 ·rintro i _ U k hi ⟨E,h1,J⟩ O;rw[aC,af];refine⟨fun _=>?_,fun h=>by simp at h;omega⟩
  match i,hi,h1,J,O with
  |0,_,h1,J,O=>
   rw[a1 (i:=0) al.u ab.i (by kernel_rfl) (h.ext E) rfl,bj,af];refine⟨fun W=>⟨by rw[if_pos W],E⟩,fun he=>?_⟩;rw[aB];exact O _ _ ⟨E,fun _=>Z6.1 he,fun h=>by omega⟩
  |1,_,h1,J,O=>
   rw[a1 (i:=1) al.u ab.i (by kernel_rfl) (h.ext E) rfl,bj,af];have X:=h1 (r9 _);refine⟨fun W=>⟨by rw[if_neg (by omega)],E⟩,fun he=>?_⟩;rw[aB];exact O _ _ ⟨E,fun _=>X,fun _=>Z6.1 he⟩
 ·rintro _ U k ⟨E,h1,J⟩;have X:=h1 (by omega);have Y:=J (by omega);rw[aC,af];exact⟨fun h=>by simp at h,fun _=>⟨by rw[if_neg (by omega),Y],E⟩⟩
structure bL where
 sv:y0
 g:Nat
 sc:List Int
 cs:List Int
def dB (h:bL):List y0:=[h.sv,.pointer (some ⟨h.g,0,none⟩)]
abbrev h0 (h:bL):y0:=.agg (dB h).toArray
def n8 (h:bL):Int:=cw h.sc
def gS (w:x1) (E:Nat) (h:bL):Prop:=(∃ J,ak .i64 ab w J h.sv h.sc)∧(∀ r,leads h.sv r→r≠E)∧hZ h.sc
theorem gS.U {h:bL} (O:gS w E h) (J:ad S w w') (V:∀ r,leads h.sv r→¬S r):gS w' E h:=by
 obtain⟨⟨W,hm⟩,X⟩:=O;exact⟨⟨W,aZ hm J V⟩,X⟩
theorem gS.one {h:bL} (J:gS w E h):∀ u∈dB h,u.oneCell'=true:=by
 obtain⟨⟨O,hm⟩,_⟩:=J;intro u hu;simp[dB] at hu;rcases hu with rfl|rfl
 ·exact hm.ls.cells.2
 ·rfl
def dX (w:x1) (g:Nat) (v:y0) (L:List bL):Prop:=aT dB 2 cj w g v L∧ ∀ h∈L,gS w g h
theorem dX.ext {g:Nat} {L:List bL} (h:dX w g v L) (J:Ext w w'):dX w' g v L:=⟨h.1.ext J,fun x E=>(h.2 x E).U (J.U fun _=>False) fun _ _ h=>h⟩
theorem dX.at {g:Nat} {L:List bL} (h:dX w g v L) {i:Nat} {x:bL} (hi:L[i]? =some x):gS w g x:=h.2 x (x2 hi)
theorem qy {g:Nat} {L:List bL} {i:Nat} {x:bL} {K:y0→Prop} (E:y=(i:Int)) (h:dX w g v L) (hi:L[i]? =some x):
  O x5 (j9 eZ v (.int .i64 y)) w (fun p=>O x5 (x6 cj p) w K)=K (h0 x):=by
 rw[cM E eZ.u cj.i h.1 (x3.1 hi).1,bn cj.p cj.i rfl (h.1.range hi)]
theorem HR {g:Nat} {L:List bL} {i:Nat} {x:bL} {K:Unit→x1→Prop} (X:y=(i:Int)) (h:dX w g v L) (hi:i<L.length) (J:gS w g x)
  (Y:∀ w',ad (fun r=>leadsTo v r) w w'→dX w' g v (L.set i x)→K () w'):O x5 (j9 eZ v (.int .i64 y)) w fun p=>aw x5 (n0 cj p (h0 x)) w K:=by
 rw[cM X eZ.u cj.i h.1 hi];refine xO (f:=dB) cj.i h.1 rfl J.one hi fun w' V _ h'=>Y w' V ⟨h',fun z E=>?_⟩;rcases W3 E with E|rfl
 ·exact (h.2 z E).U V fun r W he=>(h.2 z E).2.1 r W (h.1.leads he).1
 ·exact J.U V fun r W he=>J.2.1 r W (h.1.leads he).1
abbrev HS:y0:=.func (.func vy) #[] #[]
def qz (a b:bL):Int:=let c:Int:=if (a.sc.length:Int)<b.sc.length then-1 else if (b.sc.length:Int)<a.sc.length then 1 else 0
 if c≠0 then c else eR a.sc b.sc
theorem HT {a b:bL} (J:hZ a.sc) (O:hZ b.sc):qz a b<0↔n8 a<n8 b:=by
 have U:=(sP J O).1;unfold n8 qz;simp only;generalize V:(if (a.sc.length:Int)<b.sc.length then (-1:Int) else if (b.sc.length:Int)<a.sc.length then 1 else 0)=c;rw[U,←V];by_cases h1:(a.sc.length:Int)<b.sc.length
 ·rw[if_pos h1,if_pos (by omega)];exact⟨fun _=>.inl (by omega),fun _=>by omega⟩
 ·by_cases E:(b.sc.length:Int)<a.sc.length
  ·rw[if_neg h1,if_pos E,if_pos (by omega)];exact⟨fun h=>by omega,fun h=>by rcases h with h|h <;> omega⟩
  ·rw[if_neg h1,if_neg E,if_neg (by omega)];exact⟨fun h=>.inr ⟨by omega,h⟩,fun h=>by rcases h with h|h;omega;exact h.2⟩
theorem HU {Z:Nat} {a b:bL} (ad:gS w Z a) (ae:gS w Z b):ag x5 vy [h0 a,h0 b] w fun v w'=>Ext w w'∧v= .int .i64 (qz a b):=by
 obtain⟨⟨aq,W⟩,_,au⟩:=ad;obtain⟨⟨av,X⟩,_,aw⟩:=ae;refine ap func183 ?_;refine a7 fun af ah ax ai J=>?_;refine a7 fun aj V ay ac O=>?_;have J:aa ah af cj [a.sv,.pointer (some ⟨a.g,0,none⟩)]:=by
  obtain⟨_,_,_,e⟩:=cL W.ls;simp only[h0,dB,e] at J ⊢;exact J
 have O:aa V aj cj [b.sv,.pointer (some ⟨b.g,0,none⟩)]:=by
  obtain⟨_,_,_,e⟩:=cL X.ls;simp only[h0,dB,e] at O ⊢;exact O
 intro az Y _ _;have E:=(ai.trans ac).trans Y;have f1:=(J.ext ac).ext Y;have f2:=O.ext Y;rw[aP cj.p 0 f1 rfl,aK al.u (W.ls.ext E),aP cj.p 0 f2 rfl,aK al.u (X.ls.ext E),
  aP cj.p 0 f1 rfl,aP cj.p 0 f2 rfl]
 refine mJ.mono ?_;rintro _ aA _ ⟨rfl,U⟩;refine⟨.inl U,?_⟩;refine (HP ((W.ls.ext E).ext U) ((X.ls.ext E).ext U)).mono ?_;rintro _ aB _ ⟨rfl,ak⟩;refine nA (l:=[if (a.sc.length:Int)<b.sc.length then (-1:Int) else if (b.sc.length:Int)<a.sc.length then 1 else 0,eR a.sc b.sc]) al.u ab.i (by omega) rfl (by kernel_rfl) fun aC aD aE aF am an=>?_;refine (HQ an.ls).mono ?_;rintro _ aG _ ⟨rfl,ao⟩;exact⟨((((E.trans U).trans ak).trans am).trans ao),rfl⟩
theorem HV {g:Nat} {L:List bL} (h:dX w g v L) (aa:L.length<65536):
  ag x5 CR [v,HS] w fun _ w'=>ad (fun r=>leadsTo v r) w w'∧ ∃ M,M.Perm L∧qe n8 M 0 M.length∧dX w' g v M:=by
 have V:∀ {W:x1} {a:bL},ad (fun r=>r=g) w W→gS w g a→gS W g a:=fun O E=>E.U O fun r X he=>E.2.1 r X he;refine (sG F4 (G:=gS w g) (num:=n8) (cf:=qz) (cap:=#[]) F9 Ga (fun a E=>E.one) (fun a _=>rfl) (fun a b E Y=>HT E.2.2 Y.2.2) (Enters.of x5 Gb rfl (by kernel_rfl)) h.1 h.2 aa fun W a b O E Y=>HU (V O E) (V O Y)).mono ?_;rintro _ w' _ ⟨O,M,Z,hu,hm⟩;have ab:ad (fun r=>r=g) w w':=O.mono fun r _ X=>(h.1.leads X).1;exact⟨O,M,Z,fun p q x y _ ac _ J ae=>hu p q x y ac J ae,hm,fun x J=>V ab (h.2 x (Z.mem_iff.1 J))⟩
theorem HW {m:List Int} (ac:ir l) (O:l.Nodup) (E:m.Perm l) (U:m.Pairwise (·≤ ·)):m=aW l:=by
 refine sQ (f:=fun x=>x) ?_ (sO l) fun x=>?_
 ·have V:m.Nodup:=E.nodup_iff.2 O;exact (List.Pairwise.and U V).imp fun {a b} h=>by
   obtain⟨h1,J⟩:=h;have J:a≠b:=J;omega
 ·rw[E.mem_iff,n2 ac]
theorem HX (h:∀ z∈l,1≤z∧z≤32) (E:cI l=false):az l≤4096:=by
 have:=of_decide_eq_false E;rw[sS h] at this;omega
set_option maxHeartbeats 4000000 in
theorem HY {f:bu} {d:fz} {x:bG} {m:Bool} {S R:am} (O:dU N f) (bJ:N≤60000) (aw:x∈f.funs) (aS:n5 f.k x d) (aT:au.rep m S R w cs d):
  ag x5 CN [.agg cs.toArray] w fun v w'=>Ext w w'∧ ∃ sv gs ah ax ay,v= .tuple #[sv,.pointer (some ⟨ah,0,none⟩)]∧w.heap.size≤gs∧ak .i64 ab w' gs sv (aW x.scope)∧cA w' ah ax ay (bK f.sizes (aW x.scope)) f.k (fX f.sizes f.k x).2:=by
 obtain⟨sv,gT,bL,bM,bN,rfl,ai,aU⟩:=qw aT;obtain⟨aV,aX,aY,bO,bP,aZ⟩:=aS;obtain⟨E,a2,a6⟩:=O.funs x aw;have ac:=qk E O.sizes.2.1;have bQ:=E.len;rw[aV] at ai;have bb:∀ z∈x.sizes,1≤z∧z≤32:=fun z aD=>by
  rw[E.sizes] at aD;obtain⟨v,bc,rfl⟩:=o8.1 aD;have bR:=E.scope.2 v bc;refine O.sizes.2.2 _ ?_;rw[u4,x4 (by omega)];exact U6 _
 have bd:=HX bb a6;have az:=qj ac E.scope.1;have bT:(aW x.scope).length≤6:=by rw[az.length_eq];exact a2
 refine ap func174 ?_;refine a7 fun be aF bV aG Y=>?_;have Y:aa aF be bU [sv,.pointer (some ⟨gT,0,none⟩)]:=by obtain⟨_,_,_,rfl⟩:=cL ai;exact Y
 rw[aP bU.p 1 Y rfl];refine (yH (aU.ext aG).is (by omega)).mono ?_;rintro _ V _ ⟨aA,_,Z⟩;rw[aX] at Z;obtain⟨g,bW,bX,bf,rfl,bY,bZ,Z,aH⟩:=Z bd;rw[aY] at Z;rw[a8,ba,aP bU.p 0 (Y.ext aA) rfl];have ae:=aG.trans aA;refine sV (ai.ext ae) (by omega) fun v aI gs b1 aj b2 bg bh an=>?_;have bi:=HW ac E.scope.1 bg bh;subst bi;have b3:=ae.size;rw[aK al.u an.ls];refine ih (k:=.i64) al.u ab.i (by omega) (by omega) fun go aJ b4 ao aL=>?_;have bj:ak .i64 ab aJ go (.slice (some ⟨go,0,none⟩) (aW x.scope).length (aW x.scope).length) (u6 (aW x.scope).length 0):=ak.of (bz.full (k:=1) (n:=(aW x.scope).length) aL (by simp) (by simp[maxLen];omega));rw[aK al.u (an.ls.ext ao)];have b5:=aL.lt;have aq:(eS x.scope (aW x.scope)).length=(aW x.scope).length:=by simp[eS]
 have bk:=aj.trans ao;have b6:=ae.trans bk;refine bS.range (aW x.scope).length (fun i J=>ad (fun r=>r=go) aJ J∧ak .i64 ab J go (.slice (some ⟨go,0,none⟩) (aW x.scope).length (aW x.scope).length) ((eS x.scope (aW x.scope)).take i++u6 ((aW x.scope).length-i) 0)) (by omega) ⟨ad.refl _ _,by simpa using bj⟩ ?_ ?_
 ·rintro i J k hi ⟨av,af⟩ bl;obtain⟨v,aC⟩:=aE (l:=(aW x.scope)) hi;have W:Ext aI J:=ao.put av (by omega);have bm:Ext w J:=(ae.trans aj).trans W;have bn:v∈x.scope:=az.mem_iff.1 (x2 aC);refine bC (by omega) ?_;rw[a1 al.u ab.i (by kernel_rfl) (an.ls.ext W) aC];have bo:Ext aF J:=(aA.trans aj).trans W;rw[aP bU.p 0 (Y.ext bo) rfl];refine (yM (ai.ext bm)).mono ?_;rintro _ bp _ ⟨X,r,rfl,bq⟩;have aM:=mI bn;have br:r=((x.scope.idxOf v:Nat):Int):=(bq _ aM).2 fun j b7 bt=>by have:=ip E.scope.1 bt aM;omega
  rw[gn rfl al.u ab.i (af.ext X) (by simp[aq];omega)];refine gp ab.i (af.ext X) (by simp[aq];omega) fun b8 bw b9 aN=>?_;rw[aB];refine bl _ ⟨(av.trans (X.U _)).trans bw,?_⟩;have bx:(eS x.scope (aW x.scope))[i]? =some r:=by rw[br];exact yB aC
  have e:((eS x.scope (aW x.scope)).take i++u6 ((aW x.scope).length-i) 0).set i r=(eS x.scope (aW x.scope)).take (i+1)++u6 ((aW x.scope).length-(i+1)) 0:=by
   have bA:((eS x.scope (aW x.scope)).take i).length=i:=by rw[o6,aq];omega
   rw[List.set_append_right _ _ (by omega),bA,X9,show (aW x.scope).length-i=((aW x.scope).length-(i+1))+1 by omega,List.replicate_succ,List.set_cons_zero,u5,bx,j5,Y2];rfl
  rw[e] at aN;exact aN
 ·rintro J k ⟨av,af⟩;have W:Ext aI J:=ao.put av (by omega);have aO:Ext V J:=aj.trans W;refine cH (by omega) ?_;rw[X9,List.replicate_zero,Y8,Z0 (by omega)] at af;have bB:∀ t,cJ x.sizes t→cV x.sizes bf t=hU x f.k t:=fun t bD=>by rw[aH.2 t bD];exact aZ t
  obtain⟨aQ,bE⟩:=GZ O aw aH.1 bB;have bF:Good (eS x.scope (aW x.scope)) x.sizes.length:=by
   rw[E.sizes,r8];exact qn E.scope.1 az
  have bH:=(mG O aw);refine (HD (Z.ext aO) O.k af.ls (by rw[aq];omega) fun _=>?_).mono ?_
  ·rw[aQ];exact bH.small
  ·rintro _ bp _ ⟨X,_,bI⟩;obtain⟨ah,ax,ay,rfl,aR⟩:=bI bF;rw[a8,ba];rw[aQ,bE] at aR;exact⟨(ae.trans aO).trans X,v,gs,ah,ax,ay,rfl,by omega,(an.ext W).ext X,aR⟩
theorem yU {P:Y3} {t Y J:u9} {k Z g o cap:Nat} {z:y0} (O:P.underlying t=some (.slice e)) (hi:aA P e k Z z) (ab:z.cells.size=k) (h1:∀ u∈db z.cells (n*k),u.oneCell'=true)
  (E:aa w g J cs) (ai:o+n*k≤cs.length) (V:∀ w',ad (fun r=>r=g) w w'→aa w' g J (over cs o (db z.cells (n*k)))→K (.tuple #[]) w'):aw P (l6.clear_ #[t] Y #[.slice (some ⟨g,o,none⟩) n cap]) w K:=by
 obtain⟨i,hi,aj,rfl,ac⟩:=hi;have ae:∀ w,(zeroValue e).run P w= .ok z w:=fun w=>by simp[zeroValue,typeInfo,hi,ac]
 have af:(l6.zeroCells z.cells n).toList=db z.cells (n*k):=by
  unfold l6.zeroCells db;rw[ab]
 have W:=run_storeCells_cells (P:=P) g o (db z.cells (n*k)) 0 w (fun j ag=>by
   rw[k3] at ag;rw[Nat.add_zero,E.cell (x4 (show o+j<cs.length by omega))];rfl) (fun j _=>E.frozen _ _) h1
 simp only[Nat.add_zero] at W;obtain⟨ah,X⟩:=k2 (db z.cells (n*k)) cs o w E;rcases Nat.eq_zero_or_pos n with rfl|ak
 ·refine .of (v:=.tuple #[]) (w':=w) (by simp[l6.clear_,run_underlying O]) (cm.refl _) (V w (ad.refl _ _) ?_);rw[Nat.zero_mul,o9 (k3 z.cells 0)];exact E
 ·obtain⟨m,rfl⟩:∃ m,n=m+1:=⟨n-1,by omega⟩;refine .of (v:=.tuple #[]) (w':=_) (by simp[l6.clear_,run_underlying O,ae,af,W]) (X.cD E) (V _ X.U ah)
theorem c3 {α:Type} {f:α→List y0} {k:Nat} {g:Nat} {L:List α} (h:aT f k e w g v L) (E:leadsTo v r):r=g∧ ∃ cs,aa w g e cs:=by
 obtain⟨_,⟨rfl,_⟩|⟨cap,cs,rfl,J,_⟩⟩:=h.1
 ·exact (ds E).elim
 ·obtain⟨a,n,c,h1,O⟩:=E;cases h1;exact⟨O.symm,cs,J⟩
theorem HZ {α:Type} {f:α→List y0} {k:Nat} {g:Nat} {L:List α} (h:aT f k e w g v L) (E:L≠[]):∃ cs n c,v= .slice (some ⟨g,0,none⟩) n c∧aa w g e cs:=by
 obtain⟨_,⟨rfl,J⟩|⟨cap,cs,rfl,O,_⟩⟩:=h.1
 ·exact absurd (o9 J) E
 ·exact⟨cs,_,_,rfl,O⟩
theorem dX.mk {g:Nat} {L:List bL} (h:aT dB 2 cj w g v L) (E:∀ x∈L,(∃ O,ak .i64 ab w O x.sv x.sc)∧hZ x.sc):dX w g v L:=by
 refine⟨h,fun x J=>⟨(E x J).1,fun r U=>?_,(E x J).2⟩⟩;obtain⟨cs,n,c,_,V⟩:=HZ h (fun W=>by rw[W] at J;cases J);obtain⟨⟨O,hm⟩,_⟩:=E x J;exact bE hm V (by decide) U
def Sem (w:x1) (k:Int) (sizes:List Int) (L:List bL):Prop:=∀ x∈L,∃ E J,cA w x.g E J (bK sizes x.sc) k x.cs
theorem sZ {g X:Nat} {Y:y0} {cs:List Int} (h:cA w g X Y ai k cs) (O:ad S w w') (V:∀ r,S r→ ∃ c,aa w r cj c):cA w' g X Y ai k cs:=by
 obtain⟨⟨aJ,gs,h1,Z,ab⟩,ac⟩:=h;refine⟨⟨aJ,gs,h1.U O fun J=>?_,aZ Z O fun r W J=>?_,aZ ab O fun r W J=>?_⟩,ac⟩
 ·obtain⟨c,E⟩:=V g J;unfold aa at h1 E;rw[h1] at E;have:=(Obj.cells.inj (b9 E)).2.1;exact absurd this (by decide)
 ·obtain⟨c,E⟩:=V r J;exact bE Z E (by decide) W rfl
 ·obtain⟨c,E⟩:=V r J;exact bE ab E (by decide) W rfl
theorem Sem.ext {L:List bL} (h:Sem w k sizes L) (J:Ext w w'):Sem w' k sizes L:=fun x E=>by
 obtain⟨O,U,V⟩:=h x E;exact⟨O,U,V.ext J⟩
theorem Sem.row {L M:List bL} {g:Nat} (h:Sem w k sizes L) (E:dX w g v M) (J:ad (fun r=>leadsTo v r) w w'):Sem w' k sizes L:=fun x O=>by
 obtain⟨U,V,W⟩:=h x O;exact⟨U,V,sZ W J fun r X=>by obtain⟨rfl,c,Y⟩:=c3 E.1 X;exact⟨c,Y⟩⟩
def df (h:bL):b1:=(h.sc,h.cs)
theorem H0 {c:Int}:ag x5 rJ [.int .i64 c] w fun v w'=>v= .bool (decide (0<c))∧Ext w w':=by
 refine ap func180 ?_;rw[br];exact⟨rfl,Ext.refl _⟩
theorem H1 (h:ay .i64 w sv l):
  ag x5 CP [sv,.func (.func rJ) #[] #[]] w fun v w'=>v= .bool (l.any fun c=>decide (0<c))∧Ext w w':=by
 refine ap func179 ?_;refine ag.mono (K:=fun v w'=>Ext w w'∧ ∃ r:Int,v= .int .i64 r∧(0≤r↔ ∃ c∈l,0<c)) ?_ ?_
 ·refine ap func244 ?_;rw[aK an.u h];refine bO.range l.length (fun i _ U=>Ext w U∧ ∀ c∈l.take i,¬0<c) h.le ⟨Ext.refl _,fun c E=>by simp at E⟩ ?_ ?_
  ·rintro i _ U k hi ⟨J,W⟩ Z;refine bC (by omega) ?_;obtain⟨x,X⟩:=aE (l:=l) hi;rw[a1 an.u aj.i (by kernel_rfl) (h.ext J) X];show ag x5 rJ [.int .i64 x] U _;refine H0.mono ?_;rintro _ V _ ⟨rfl,Y⟩;rw[af];refine⟨fun O=>⟨J.trans Y,i,rfl,⟨fun _=>⟨x,x2 X,O⟩,fun _=>by omega⟩⟩,fun aa=>?_⟩;rw[aB];refine Z _ _ ⟨J.trans Y,fun c E=>?_⟩;rw[u5,X] at E;rcases p8.1 E with E|E
   ·exact W c E
   ·simp at E;subst E;exact aa
  ·rintro _ U k ⟨J,W⟩;rw[o5] at W;rw[aC,af];exact⟨fun h=>by omega,fun _=>⟨J,-1,rfl,⟨fun h=>by omega,fun⟨c,E,O⟩=>absurd O (W c E)⟩⟩⟩
 ·rintro _ U _ ⟨J,r,rfl,ab⟩;rw[cn];refine⟨?_,J⟩;congr 1;rw[X8,decide_eq_true_eq,List.any_eq_true,ab];exact⟨fun⟨c,E,O⟩=>⟨c,E,decide_eq_true O⟩,fun⟨c,E,O⟩=>⟨c,E,of_decide_eq_true O⟩⟩
theorem yV {U W:Nat} {x:bL} {X:y0} (J:gS w U x) (Y:cA w x.g W X ai k x.cs):ag x5 nt [h0 x] w fun v w'=>v= .bool (!ej (df x))∧Ext w w':=by
 obtain⟨⟨af,hm⟩,_⟩:=J;refine ap func178 ?_;refine a7 fun Z ab ah O E=>?_;have E:aa ab Z cj [x.sv,.pointer (some ⟨x.g,0,none⟩)]:=by
  obtain⟨_,_,_,e⟩:=cL hm.ls;simp only[h0,dB,e] at E ⊢;exact E
 rw[aP cj.p 1 E rfl];refine (kx (Y.ext O)).mono ?_;rintro aj V _ ⟨ac,ak,al,ad⟩;refine (H1 ad.ls).mono ?_;rintro _ am _ ⟨rfl,ae⟩;rw[bJ];exact⟨rfl,(O.trans ac).trans ae⟩
theorem H2 {g:Nat} {L:List bL} (h:dX w g v L) (Z:Sem w k sizes L):
  ag x5 vw [v,.func (.func nt) #[] #[]] w fun r w'=>Ext w w'∧((r= .int .i64 (-1)∧ ∀ x∈L,ej (df x)=true)∨ ∃ i:Nat,r= .int .i64 (i:Int)∧i<L.length∧(∀ x∈L.take i,ej (df x)=true)∧ ∀ x,L[i]? =some x→ej (df x)=false):=by
 refine ap func175 ?_;rw[dA eZ.u h.1];refine bO.range L.length (fun i _ W=>Ext w W∧ ∀ x∈L.take i,ej (df x)=true) h.1.le ⟨Ext.refl _,fun c E=>by simp at E⟩ ?_ ?_
 ·rintro i _ W k hi ⟨J,O⟩ aa;refine bC (by omega) ?_;obtain⟨x,U⟩:=aE (l:=L) hi;rw[qy rfl (h.ext J) U];show ag x5 nt [h0 x] W _;obtain⟨ae,ah,ab⟩:=Z x (x2 U);refine (yV ((h.ext J).at U) (ab.ext J)).mono ?_;rintro _ V _ ⟨rfl,X⟩;rw[ca];refine⟨fun ac=>⟨J.trans X,.inr ⟨i,rfl,hi,O,fun y Y=>by rw[U] at Y;cases Y;simpa using ac⟩⟩,fun ad=>?_⟩;rw[aB];refine aa _ _ ⟨J.trans X,fun c E=>?_⟩;rw[u5,U] at E;rcases p8.1 E with E|E
  ·exact O c E
  ·simp at E;subst E;simpa using ad
 ·rintro _ W k ⟨J,O⟩;rw[o5] at O;rw[aC,af];exact⟨fun h=>by omega,fun _=>⟨J,.inl ⟨rfl,O⟩⟩⟩
def eU (x:bL):Bool:=ej (df x)
theorem s3 {L:List bL} {x:bL} (J:L[j]? =some x):(L.take (j+1)).filter eU=if eU x=true then (L.take j).filter eU++[x] else (L.take j).filter eU:=by
 rw[u5,J,j5,List.filter_append];by_cases h:eU x=true
 ·rw[if_pos h];simp[h]
 ·rw[if_neg h];simp[h]
theorem s4 {z:Array y0} (E:0<z.size) (h:∀ u∈z.toList,u.oneCell'=true):∀ u∈db z n,u.oneCell'=true:=fun u hu=>by
 unfold db at hu;rw[Array.toList_map,o8] at hu;obtain⟨i,_,rfl⟩:=hu;have J:i % z.size<z.size:=Nat.mod_lt _ E;rw[getElem!_pos z (i % z.size) J];exact h _ (by simp)
set_option maxHeartbeats 4000000 in
theorem H3 {g:Nat} {L:List bL} (h:dX w g v L) (aA:Sem w k sizes L) (bu:L.length≤100000):
  ag x5 CQ [v,.func (.func nt) #[] #[]] w fun W w'=>ad (fun r=>leadsTo v r) w w'∧dX w' g W (L.filter eU)∧ ∀ r,leadsTo W r→leadsTo v r:=by
 refine ap func181 ?_;refine (H2 h aA).mono ?_;rintro r bw _ ⟨ah,X⟩;rcases X with⟨rfl,am⟩|⟨an,rfl,aS,am,aT⟩
 ·rw[bc,af];refine⟨fun _=>⟨ah.U _,?_,fun r X=>X⟩,fun h=>absurd rfl h⟩;rw[List.filter_eq_self.2 (show ∀ x∈L,eU x=true from am)];exact h.ext ah
 rw[bc,af];refine⟨fun h=>by omega,fun _=>?_⟩;rw[aB,wrap_i64 (by omega) (by omega)];obtain⟨ao,aD⟩:=aE (l:=L) aS;refine⟨fun aq au V=>∃ (i j:Nat) (M:List bL),aq= .int .i64 (i:Int)∧au= .int .i64 (j:Int)∧i<j∧j≤L.length∧M.length=L.length∧M.take i=(L.take j).filter eU∧M.drop j=L.drop j∧(∀ x∈M,x∈L)∧dX V g v M∧ad (fun r=>leadsTo v r) w V,
  fun _ au _=>L.length-(bk au).toNat,⟨an,an+1,L,rfl,by congr 1,by omega,by omega,rfl,?_,rfl,fun x J=>J,h.ext ah,ah.U _⟩,?_⟩
 ·have aU:¬eU ao=true:=by rw[show eU ao=false from aT ao aD];simp
  rw[s3 aD,if_neg aU,List.filter_eq_self.2 (show ∀ x∈L.take an,eU x=true from am)]
 rintro _ _ V ⟨i,j,M,rfl,rfl,bx,bz,aF,Z,aG,aH,E,ai⟩;have aV:Sem V k sizes L:=aA.row h ai;rw[dA eZ.u E.1,aC,af];refine⟨fun av=>?_,fun bA=>?_⟩
 ·have av:j<L.length:=by omega
  obtain⟨x,J⟩:=aE (l:=L) av;have aj:M[j]? =some x:=by
   have h1:(M.drop j)[0]? =(L.drop j)[0]?:=by rw[aG]
   rw[List.getElem?_drop,List.getElem?_drop,Nat.add_zero] at h1;rw[h1,J]
  have aJ:M.drop (j+1)=L.drop (j+1):=by
   have h1:(M.drop j).drop 1=(L.drop j).drop 1:=by rw[aG]
   rw[List.drop_drop,List.drop_drop] at h1;exact h1
  refine aI (fun aq ak=>∃ (ab:Nat) (Y:List bL),aq= .int .i64 (ab:Int)∧ab<j+1∧Y.length=L.length∧Y.take ab=(L.take (j+1)).filter eU∧Y.drop (j+1)=L.drop (j+1)∧(∀ x∈Y,x∈L)∧dX ak g v Y∧ad (fun r=>leadsTo v r) w ak) ?_ ?_
  ·rintro _ ak ⟨ab,Y,rfl,h1,ax,aW,aX,aY,aZ,a1⟩;rw[aB,wrap_i64 (by omega) (by omega)];exact⟨⟨ab,j+1,Y,rfl,rfl,h1,av,ax,aW,aX,aY,aZ,a1⟩,by simp only[bk];omega⟩
  ·intro bB aK;rw[qy rfl E aj];refine bg cj.i fun bC ak bD a2 a6=>?_;refine bP (vs:=dB x) cj.i rfl rfl (E.at aj).one a6 fun aL a7 bE aM=>?_;have ay:Ext V aL:=a2.put a7 (by omega);rw[bn cj.p cj.i rfl aM.range];show ag x5 nt [h0 x] aL _;obtain⟨bF,bG,a8⟩:=aV x (x2 J);refine (yV ((E.ext ay).at aj) (a8.ext ay)).mono ?_;rintro _ bH _ ⟨rfl,aN⟩;have ae:=ay.trans aN;rw[bJ,Bool.not_not,ca];refine⟨fun ba=>?_,fun bb=>?_⟩
   ·rw[bn cj.p cj.i rfl (aM.ext aN).range];refine HR rfl (E.ext ae) (by omega) ((E.ext ae).at aj) fun bI bd be=>?_;rw[aB,wrap_i64 (by omega) (by omega)];refine aK _ _ ⟨i+1,M.set i x,rfl,by omega,by simp[aF],?_,?_,fun y aa=>?_,be,(ai.trans (ae.U _)).trans bd⟩
    ·have az:eU x=true:=ba;rw[s3 J,if_pos az,u5,V8 (by omega),j5,List.take_set_of_le (r9 _),Z]
    ·rw[List.drop_set_of_lt (by omega),aJ]
    ·rcases W3 aa with aa|rfl
     ·exact aH y aa
     ·exact x2 J
   ·have az:¬eU x=true:=by rw[show eU x=false from bb];simp
    exact aK _ _ ⟨i,M,rfl,by omega,aF,by rw[s3 J,if_neg az,Z],aJ,aH,E.ext ae,ai.trans (ae.U _)⟩
 ·have bf:j=L.length:=by omega
  subst bf;rw[o5] at Z;obtain⟨⟨bK,bh⟩,aO⟩:=E.1;rcases bh with⟨_,bM⟩|⟨cap,cs,ac,bi,bN,bj,bl,bm⟩
  ·omega
  subst ac;have bo:(O x5 (X4 eZ (.slice (some ⟨g,0,none⟩) M.length cap) (some (.int .i64 (i:Int))) none none) V fun bp=>
    aw x5 (l6.clear_ #[eZ] DT #[bp]) V fun u al=>
    O x5 (X4 eZ (.slice (some ⟨g,0,none⟩) M.length cap) none (some (.int .i64 (i:Int))) none) al fun bq=>
    (fun W w'=>ad (fun r=>leadsTo (.slice (some ⟨g,0,none⟩) M.length cap) r) w w'∧dX w' g W (L.filter eU)∧ ∀ r,leadsTo W r→leadsTo (.slice (some ⟨g,0,none⟩) M.length cap) r) bq al):=by
   rw[fu (l:=i) (h:=M.length) (m:=cap) eZ.u cj.i (kZ i _ rfl) hp ea (by omega) (by omega) (r9 _),if_neg (by omega)];simp only[c5,W7];refine yU (g:=g) (o:=0+i*2) (n:=M.length-i) (k:=2) eZ.u cj.i rfl ?_ bi (by omega) fun al aP br=>?_
   ·exact s4 (by decide) (by decide)
   rw[fu (l:=0) (h:=i) (m:=cap) eZ.u cj.i ho (k0 i _ rfl) ea (by omega) (by omega) (r9 _),if_neg (by omega)];simp only[c5,W7,Nat.zero_mul,V0,Nat.sub_zero];have bt:(db (y0.agg #[.slice none 0 0,.pointer none]).cells ((M.length-i)*2)).length=(M.length-i)*2:=k3 _ _;have bO:(M.flatMap dB).length=M.length*2:=fZ aO;have aQ:(L.filter eU).length=i:=by rw[←Z,o6];omega
   have key:(fun W w'=>ad (fun r=>leadsTo (.slice (some ⟨g,0,none⟩) M.length cap) r) w w'∧dX w' g W (L.filter eU)∧ ∀ r,leadsTo W r→leadsTo (.slice (some ⟨g,0,none⟩) M.length cap) r) (.slice (some ⟨g,0,none⟩) (L.filter eU).length cap) al:=by
    refine⟨ai.trans (aP.mono fun r _ he=>⟨_,_,_,rfl,he.symm⟩),⟨⟨⟨fZ (k:=2) (fun y _=>rfl),.inr ⟨cap,_,rfl,br,by omega,bj,by rw[kl,bl],?_⟩⟩,fun y _=>rfl⟩,fun y aa=>?_⟩,fun r X=>?_⟩
    ·rw[aQ,←Z,←mA i aO,←bm,List.take_take,km (by rw[bt];omega),Y2,List.take_append_of_le_length (by rw[o6];omega),List.take_take];congr 1;omega
    ·have aR:y∈M:=by rw[←Z] at aa;exact List.mem_of_mem_take aa
     exact (E.2 y aR).U aP fun r X he=>(E.2 y aR).2.1 r X he
    ·obtain⟨a,n,c,h1,ax⟩:=X;cases h1;exact⟨_,_,_,rfl,ax⟩
   rw[aQ] at key;exact key
  exact bo
theorem oa {k:o4} {g cap:Nat} {b:Option Addr} (h:ak k e w g (.slice b n cap) l) (W:0<l.length):
  b=some ⟨g,0,none⟩∧n=l.length∧ ∃ cs,aa w g e cs∧n≤cap∧cap≤maxLen∧cs.length=cap∧cs.take n=ints k l:=by
 obtain⟨_,⟨_,h1⟩|⟨X,cs,h1,E,J,O,U,V⟩⟩:=h
 ·omega
 ·cases h1;exact⟨rfl,rfl,cs,E,J,O,by simpa using U,by simpa using V⟩
theorem H4 {g cap:Nat} (h:ak .i64 ab w g (.slice (some ⟨g,0,none⟩) n cap) l) (O:j<l.length):ay .i64 w (.slice (some ⟨g,j,none⟩) (n-j) (cap-j)) (l.drop j):=by
 obtain⟨_,U,cs,E,h1,V,W,J⟩:=oa h (by omega);have:=Ew (o:=j) (k:=n-j) (c:=cap-j) E (by omega) (by omega) (by omega);refine ay.of (n:=n-j) ?_;have e:(cs.drop j).take (n-j)=ints .i64 (l.drop j):=by
  rw[←List.drop_take,J,ints,ints,List.map_drop]
 rw[e] at this;exact this
set_option maxHeartbeats 1000000 in
theorem H5 {g:Nat} (h:ak .i64 ab w g sv l) (bm:l.length≤1000):
  ag x5 Dn [sv] w fun v w'=>ad (fun r=>r=g) w w'∧ak .i64 ab w' g v (dedup l l.length):=by
 refine ap func239 ?_;rw[aK al.u h.ls];simp only[aC,af];refine⟨fun bn=>⟨ad.refl _ _,?_⟩,fun bo=>?_⟩
 ·rw[qu (r9 _) (fun i hi ay=>by omega),o5];exact h
 obtain⟨n,W⟩:∃ n,l.length=n:=⟨_,rfl⟩;obtain⟨cap,rfl⟩:∃ cap,sv= .slice (some ⟨g,0,none⟩) n cap:=by
  obtain⟨_,⟨_,h1⟩|⟨aR,cs,h1,_⟩⟩:=id h
  ·omega
  ·exact⟨aR,by rw[h1,W]⟩
 obtain⟨_,_,_,_,bp,aS,_⟩:=oa h (by omega);refine⟨fun _ t az=>∃ j:Nat,t= .int .i64 (j:Int)∧1≤j∧j≤n∧Ext w az∧ ∀ i,i<j→0<i→l[i]? ≠l[i-1]?,fun _ t _=>n-(bk t).toNat,⟨1,rfl,by omega,by omega,Ext.refl _,fun i h1 aA=>by omega⟩,?_⟩;rintro bq _ az ⟨j,rfl,br,aD,X,ah⟩;rw[aK al.u (h.ls.ext X)];simp only[aC,af,du];refine⟨fun aT V aU _ _=>?_,fun bt=>⟨X.U _,?_⟩⟩
 ·have aT:j<n:=by omega
  have Y:=X.trans aU;have aF:=h.ls.ext Y;obtain⟨a,ai⟩:=aE (l:=l) (i:=j) (by omega);obtain⟨b,aj⟩:=aE (l:=l) (i:=j-1) (by omega);rw[a1 al.u ab.i (by kernel_rfl) aF ai];simp only[dk];rw[wrap_i64 (by omega) (by omega),fv (i:=j-1) (by omega) al.u ab.i (by kernel_rfl) aF aj];simp only[bc,af,aB];refine⟨fun am=>?_,fun am=>?_⟩
  ·subst am;rw[fu al.u ab.i (l:=j) (h:=n) (m:=cap) mb hp ea (by omega) (by omega) (by omega),if_neg (by omega)];have aV:X3 (fun x:Addr=>x.add (j*1)) (some ⟨g,0,none⟩)=some ⟨g,j,none⟩:=by simp[W7]
   rw[aV];have aG:dedup l (j+1)=l.take j:=by rw[sW (by omega) (by rw[ai,aj]),qu (by omega) ah]
   refine⟨fun an t ao=>∃ (q E:Nat) (J:List Int),an= .int .i64 (q:Int)∧t= .int .i64 (E:Int)∧1≤E∧j+E≤n∧ad (fun r=>r=g) w ao∧ak .i64 ab ao g (.slice (some ⟨g,0,none⟩) n cap) J∧J.length=n∧
     q=(dedup l (j+E)).length∧J.take q=dedup l (j+E)∧q≤j+E-1∧ ∀ i,j+E-1≤i→J[i]? =l[i]?,fun _ t _=>n-(bk t).toNat,
    ⟨j,1,l,rfl,rfl,by omega,by omega,Y.U _,h.ext Y,W,by rw[aG,o6];omega,by rw[aG],by omega,fun i _=>rfl⟩,?_⟩
   rintro _ _ ao ⟨q,E,J,rfl,rfl,bu,bw,aq,aH,aJ,aL,Z,aW,aa⟩;rw[fK al.u];simp only[aC,af,du];refine⟨fun aM=>?_,fun aM=>?_⟩
   ·have aM:j+E<n:=by omega
    refine aI (fun an au=>∃ (q:Nat) (J:List Int),an= .int .i64 (q:Int)∧ad (fun r=>r=g) w au∧ak .i64 ab au g (.slice (some ⟨g,0,none⟩) n cap) J∧J.length=n∧
     q=(dedup l (j+(E+1))).length∧J.take q=dedup l (j+(E+1))∧q≤j+(E+1)-1∧ ∀ i,j+(E+1)-1≤i→J[i]? =l[i]?) ?_ ?_
    ·rintro _ au ⟨q,J,rfl,h1,aA,aX,aY,aZ,a2,a6⟩;simp only[aB];rw[wrap_i64 (by omega) (by omega)];exact⟨⟨q,E+1,J,rfl,rfl,by omega,by omega,h1,aA,aX,aY,aZ,a2,a6⟩,by simp only[bk];omega⟩
    ·intro bx aN bz av _ _;have ac:=aH.ext av;have aw:=H4 (j:=j) ac (by omega);obtain⟨y,ae⟩:=aE (l:=l) (i:=j+E) (by omega);obtain⟨z,ax⟩:=aE (l:=l) (i:=j+E-1) (by omega);have aO:(J.drop j)[E]? =some y:=by rw[List.getElem?_drop,aa _ (by omega),ae]
     have a7:(J.drop j)[E-1]? =some z:=by rw[List.getElem?_drop,aa _ (by omega),←ax];congr 1;omega
     rw[a1 al.u ab.i (by kernel_rfl) aw aO];simp only[dk];rw[wrap_i64 (by omega) (by omega),fv (i:=E-1) (by omega) al.u ab.i (by kernel_rfl) aw a7];simp only[bj,af,aB];refine⟨fun O=>?_,fun O=>?_⟩
     ·rw[a1 al.u ab.i (by kernel_rfl) aw aO,gn rfl al.u ab.i ac (by omega)];refine gp ab.i ac (by omega) fun bA a8 bB ba=>?_;rw[wrap_i64 (by omega) (by omega)];have aP:dedup l (j+E+1)=dedup l (j+E)++[y]:=sX ae (fun _=>by rw[ae,ax];simpa using O);refine aN _ _ ⟨q+1,_,rfl,(aq.trans (av.U _)).trans a8,ba,by simpa using aJ,?_,?_,by omega,fun i hi=>?_⟩
      ·rw[←Nat.add_assoc,aP];simp;omega
      ·rw[←Nat.add_assoc,aP,u5,V8 (by omega),List.take_set_of_le (r9 _),Z];rfl
      ·rw[List.getElem?_set_ne (by omega)];exact aa i (by omega)
     ·have O:y=z:=Z6.1 O;have aQ:dedup l (j+E+1)=dedup l (j+E):=sW (by omega) (by rw[ae,ax,O]);exact aN _ _ ⟨q,J,rfl,aq.trans (av.U _),ac,aJ,by rw[←Nat.add_assoc,aQ];exact aL,by rw[←Nat.add_assoc,aQ];exact Z,by omega,fun i hi=>aa i (by omega)⟩
   ·have bb:j+E=n:=by omega
    rw[bb] at aL Z aW;obtain⟨_,_,cs,bd,_,_,bC,be⟩:=oa aH (by omega);simp only[maxLen] at aS;rw[fu al.u ab.i (l:=q) (h:=n) (m:=cap) mb hp ea (by omega) (by omega) (by omega),if_neg (by omega)];have bf:X3 (fun x:Addr=>x.add (q*1)) (some ⟨g,0,none⟩)=some ⟨g,q,none⟩:=by simp[W7]
    rw[bf];refine wq al.u ab.i rfl rfl bd (by omega) (by omega) fun bD bg bE bh=>?_;rw[fu al.u ab.i (l:=0) (h:=q) (m:=cap) ho mc ea (by omega) (by omega) (by omega),if_neg (by omega)];have bi:X3 (fun x:Addr=>x.add (0*1)) (some ⟨g,0,none⟩)=some ⟨g,0,none⟩:=by simp[W7]
    rw[bi,W];refine⟨aq.trans bg,?_⟩;rw[←Z];refine ak.of (n:=q) ⟨by simp;omega,.inr ⟨cap,_,by simp,bh,by omega,by simp only[maxLen];omega,by rw[kl];omega,?_⟩⟩;rw[V2];apply Y7;intro i;by_cases hi:i<q
    ·rw[c7 hi,k1 _ _ _ (by simp;omega),if_neg (by omega),ints,x7,c7 hi];have:(cs.take n)[i]? =(ints .i64 J)[i]?:=by rw[be]
     rw[c7 (by omega),ints,x7] at this;exact this
    ·rw[c8 (by simp;omega),c8 (by simp;omega)]
  ·rw[wrap_i64 (by omega) (by omega)];refine⟨⟨j+1,rfl,by omega,by omega,Y,fun i hi ay=>?_⟩,by simp only[bk];omega⟩;by_cases bl:i=j
   ·subst bl;rw[ai,aj];intro he;exact am (b9 he)
   ·exact ah i (by omega) ay
 ·have aD:j=n:=by omega
  rw[qu (r9 _) (by rw[W,←aD];exact ah),o5];exact h.ext X
theorem H6 (ac:n≤1000000):ag x5 DE [.slice none 0 0,.int .i64 (n:Int)] w fun v w'=>Ext w w'∧ ∃ g,w.heap.size≤g∧ak .i64 ab w' g v []:=by
 refine ap func271 ?_;refine cX (fun O=>w=O) ?_ ?_
 ·rintro _ rfl;refine aI (fun v w'=>Ext w w'∧ ∃ g,w.heap.size≤g∧ak .i64 ab w' g v []) (fun _ _ h=>h) fun U E=>?_;rw[wp al.u,fK al.u];simp only[dk];have V:X5.wrap (((0:Nat):Int)-((0:Nat):Int))=0:=by decide
  have W:X5.wrap ((n:Int)-0)=n:=by rw[wrap_i64 (by omega) (by omega)];omega
  rw[V,W];simp only[br,af];refine⟨fun h=>?_,fun h=>E _ _ ⟨Ext.refl _,w.heap.size,r9 _,ak.nil _ _ _ _⟩⟩;rw[wp al.u,fu al.u ab.i (l:=0) (h:=0) (m:=0) ho mc ea (by omega) (by omega) (by omega),if_pos rfl];refine Ev (k:=n) (xs:=[]) rfl al.u ab.u ab.i rfl ⟨rfl,0,0,none,0,rfl,r9 _,Z5 _,fun h=>absurd h (Nat.lt_irrefl _),fun j v h=>by simp at h⟩ (by omega) (by omega) (by omega) (by omega) fun v g w' ad J hm=>?_;obtain⟨_,⟨_,ae⟩|⟨cap,cs,rfl,X,h1,Y,Z,ah⟩⟩:=hm
  ·omega
  rw[fK al.u,fu al.u ab.i (l:=0) (h:=0) (m:=cap) ho mc ea (by omega) (by omega) (by omega),if_neg (by omega)];have aa:X3 (fun x:Addr=>x.add (0*1)) (some ⟨g,0,none⟩)=some ⟨g,0,none⟩:=by simp[W7]
  rw[aa];refine E _ _ ⟨J,g,by omega,ak.of (n:=0) ⟨by simp,.inr ⟨cap,cs,by simp,X,by omega,Y,Z,by simp⟩⟩⟩
 ·intro U E;simp only[aC,af];exact⟨fun h=>by omega,fun _=>E _ rfl⟩
set_option maxHeartbeats 1000000 in
theorem H7 {ad:y0} {b:List Int} (aq:ay .i64 w ad a) (au:ay .i64 w bv b) (aD:a.length≤1000) (aE:b.length≤1000)
  (aF:∀ v w' g,Ext w w'→w.heap.size≤g→ak .i64 ab w' g v (a++b)→K v w'):
  aw x5 (b6 eg 2 #[(0,ad),(1,bv)]) w fun t E=>ag x5 Do [t] E K:=by
 obtain⟨⟨ae,ah,ai,aG⟩,⟨aj,am,an,aH⟩⟩:(∃ x n c,ad= .slice x n c)∧(∃ x n c,bv= .slice x n c):=by
  obtain⟨_,_,_,x,c,h1,_⟩:=id aq;obtain⟨_,_,_,y,d,aJ,_⟩:=id au;exact⟨⟨x,_,c,h1⟩,⟨y,_,d,aJ⟩⟩
 subst aG;subst aH;refine hN eg.u al.i (by omega) (cs:=#[.slice ae ah ai,.slice aj am an]) (by kernel_rfl) fun g E aZ W X=>?_;have X:aa E g al [.slice ae ah ai,.slice aj am an]:=X;have key:∀ i:Nat,i<2→ ∃ v l,[y0.slice ae ah ai,.slice aj am an][i]? =some v∧[a,b][i]? =some l∧ay .i64 w v l∧l.length≤1000:=fun i hi=>by
  match i,hi with
  |0,_=>exact⟨_,_,rfl,rfl,aq,aD⟩
  |1,_=>exact⟨_,_,rfl,rfl,au,aE⟩
 refine ap func240 ?_;rw[fK eg.u];refine bO.range 2 (fun i size V=>Ext E V∧ ∃ n:Nat,n≤1000*i∧size= .int .i64 (n:Int)) (by omega) ⟨Ext.refl _,0,by omega,rfl⟩ ?_ ?_
 ·rintro i _ V aL hi ⟨J,n,aM,rfl⟩ aN;simp only[aC,af];refine⟨fun _=>?_,fun h=>by omega⟩;obtain⟨v,l,ac,ax,ao,aO⟩:=key i hi;refine aI (fun v az=>V=az∧v= .int .i64 ((n+l.length:Nat):Int)) ?_ ?_
  ·rintro _ _ ⟨rfl,rfl⟩;simp only[aB];exact aN _ _ ⟨J,_,by omega,rfl⟩
  ·intro a1 aP;rw[gl (b:=g) (o:=0) eg.u al.i hi (fun _=>rfl),av (by kernel_rfl) ((X.ext J).cell (o:=0+i*1) (by rw[←ac];congr 1;omega)),aK al.u (ao.ext (W.trans J))];simp only[aB,aC,af];rw[wrap_i64 (by omega) (by omega)];exact⟨fun h=>by omega,fun _=>aP _ _ ⟨rfl,by congr 1⟩⟩
 ·rintro _ V aL ⟨J,n,aM,rfl⟩;simp only[aC,af];refine⟨fun h=>by omega,fun _=>?_⟩;refine (H6 (n:=n) (by omega)).mono ?_;rintro v0 az _ ⟨aA,aQ,a2,aR⟩;have a6:=W.size;have a7:=J.size;have a8:=aA.size;have aS:=J.trans aA;rw[fK eg.u];refine bO.range 2 (fun i v Y=>Ext E Y∧ ∃ U,E.heap.size≤U∧ak .i64 ab Y U v (([a,b].take i).flatten)∧(([a,b].take i).flatten).length≤1000*i) (by omega) ⟨aS,aQ,by omega,aR,by simp⟩ ?_ ?_
  ·rintro i v4 Y aT hi ⟨O,U,aU,Z,ba⟩ aV;simp only[aC,af];refine⟨fun _=>?_,fun h=>by omega⟩;obtain⟨v,l,ac,ax,ao,aO⟩:=key i hi;rw[gl (b:=g) (o:=0) eg.u al.i hi (fun _=>rfl),av (by kernel_rfl) ((X.ext O).cell (o:=0+i*1) (by rw[←ac];congr 1;omega))];refine hr al.u ab.i rfl Z (ao.ext (W.trans O)) (by omega) (by omega) fun bb aW bc bd aX aY=>?_;simp only[aB];have be:=O.size;have e:([a,b].take (i+1)).flatten=([a,b].take i).flatten++l:=by rw[u5,ax];simp
   refine aV _ _ ⟨O.then aY (by rintro r bf rfl;omega),aW,by omega,by rw[e];exact aX,by rw[e,u7];omega⟩
  ·rintro v4 Y aT ⟨O,U,aU,Z,_⟩;simp only[aC,af];refine⟨fun h=>by omega,fun _=>aF _ _ U (W.trans O) (by omega) ?_⟩;have e:([a,b].take 2).flatten=a++b:=by simp
   rw[e] at Z;exact Z
def mK (O E U J vars:List Int):Prop:=∀ p∈vars,p∈E→p∈J→fY O (fi E p)=fY U (fi J p)
def cN (E J O U vars:List Int):List Int:=vars.map fun p=>max (fY E (fi J p)) (fY O (fi U p))
theorem yW (E J O U vars:List Int):(cN E J O U vars).length=vars.length:=by simp[cN]
theorem qA {x:Int}:0≤fi l x↔x∈l:=by
 unfold fi;by_cases h:x∈l
 ·rw[if_pos h];exact⟨fun _=>h,fun _=>by omega⟩
 ·rw[if_neg h];exact⟨fun h=>by omega,fun E=>absurd E h⟩
set_option maxHeartbeats 1000000 in
theorem H8 {g a8 aM ba:Nat} {aj aN aO:y0} {O U vars E J:List Int} {bc:Int} {bd be:List Int} (h1:cA w g a8 sv O k bd) (aP:cA w aM ba aj U bc be) (ac:ay .i64 w aN vars) (bf:ay .i64 w aO E) (am:ay .i64 w bv J) (bg:fh E) (bh:fh J) (bH:vars.length≤1000):
  ag x5 Dp [aN,.pointer (some ⟨g,0,none⟩),aO,.pointer (some ⟨aM,0,none⟩),bv] w fun v w'=>Ext w w'∧
   (¬mK O E U J vars→v= .tuple #[.slice none 0 0,.bool false])∧
   (mK O E U J vars→ ∃ x aQ,v= .tuple #[x,.bool true]∧w.heap.size≤aQ∧ak .i64 ab w' aQ x (cN O E U J vars)):=by
 have sub:∀ {w:x1} {g:Nat} {sv:y0} {k:Int} {aJ:y0},aa w g ci [sv,.int .i64 k,aJ]→w.rangeAt g (0+0) [sv]:=fun am=>k9 am (by
  intro j v ac
  match j,ac with
  |0,ac=>exact ac)
 refine ap func241 ?_;rw[aK al.u ac];refine ih al.u ab.i (by omega) (by omega) fun gz bi bI aR bk=>?_;have bl:ak .i64 ab bi gz (.slice (some ⟨gz,0,none⟩) vars.length vars.length) (u6 vars.length 0):=ak.of (n:=vars.length) (bz.full bk (by simp) (by simp[maxLen];omega));generalize (y0.slice (some ⟨gz,0,none⟩) vars.length vars.length)=bm at*;rw[aK al.u (ac.ext aR)];have an:=yW O E U J vars;refine lS.range vars.length (fun i _ _ V=>Ext w V∧ak .i64 ab V gz bm (upto (cN O E U J vars) 0 i)∧ ∀ (j:Nat) (p:Int),j<i→vars[j]? =some p→p∈E→p∈J→fY O (fi E p)=fY U (fi J p)) (by omega)
  ⟨aR,by rw[nG,an];exact bl,fun j p ad=>by omega⟩ ?_ ?_
 ·rintro i _ _ V bo hi ⟨W,hm,ao⟩ bp;simp only[aC,af];refine⟨fun _=>?_,fun h=>by omega⟩;obtain⟨p,X⟩:=aE (l:=vars) hi;rw[a1 al.u ab.i (by kernel_rfl) (ac.ext W) X];refine (qv (bf.ext W) bg).mono ?_;rintro _ bJ _ ⟨rfl,aq⟩;refine (qv (am.ext (W.trans aq)) bh).mono ?_;rintro _ bq _ ⟨rfl,aS⟩;have aT:=(W.trans aq).trans aS;refine aI (fun v aU=>Ext bq aU∧ ∃ c,v= .bool c∧(c=true↔p∈E∧p∈J∧fY O (fi E p)≠fY U (fi J p))) ?_ ?_
  ·rintro _ aU ⟨aV,c,rfl,aW⟩;have aX:=aT.trans aV;rw[ca];refine⟨fun br=>⟨aX,fun _=>by first|rfl|trivial,fun ad=>?_⟩,fun ae=>?_⟩
   ·obtain⟨Y,Z,bt⟩:=aW.1 br;exact absurd (ad p (x2 X) Y Z) bt
   ·simp only[du];intro bK aY _ _;have au:=aX.trans aY;obtain⟨⟨aJ,gs,av,aw,_⟩,_⟩:=h1.ext au;obtain⟨⟨bu,bw,ax,az,_⟩,_⟩:=aP.ext au;rw[bB,aF ci.p rfl,bn (cs:=[sv]) bb.p bb.i rfl (sub av),bB,aF ci.p rfl,bn (cs:=[aj]) bb.p bb.i rfl (sub ax)];refine (nO aw.ls).mono ?_;rintro _ bL _ ⟨rfl,ah⟩;refine⟨.inl ah,?_⟩;refine (nO (az.ls.ext ah)).mono ?_;rintro _ bM _ ⟨rfl,aZ⟩;have bx:=(au.trans ah).trans aZ;have a2:=hm.ext ((((aq.trans aS).trans aV).trans aY).trans (ah.trans aZ));have bN:(upto (cN O E U J vars) 0 i).length=vars.length:=by rw[nF,an]
    rw[rS,gn rfl al.u ab.i a2 (by omega)];refine gp ab.i a2 (by omega) fun bO bA _ a6=>?_;simp only[aB];have bC:(cN O E U J vars)[i]? =some (max (fY O (fi E p)) (fY U (fi J p))):=by
     unfold cN;rw[x7,X];rfl
    rw[nI bC] at a6;refine bp _ _ _ ⟨bx.then bA (by rintro r bP rfl;omega),a6,fun j bD ad aA Y Z=>?_⟩;by_cases bE:j=i
    ·subst bE;rw[X] at aA;cases aA;refine Decidable.byContradiction fun bF=>?_;have:=aW.2 ⟨Y,Z,bF⟩;rw[ae] at this;cases this
    ·exact ao j bD (by omega) aA Y Z
  ·intro bQ aD;simp only[du,cn,af];intro bR ai _ _;refine⟨fun aG=>⟨fun aH=>?_,fun aH=>⟨.inl (Ext.refl _),aD _ _ ⟨ai,false,rfl,⟨(fun h=>by cases h),fun h=>absurd (qA.2 h.2.1) aH⟩⟩⟩⟩,fun aG=>⟨.inl (Ext.refl _),aD _ _ ⟨ai,false,rfl,⟨(fun h=>by cases h),fun h=>absurd (qA.2 h.1) aG⟩⟩⟩⟩;have a7:=aT.trans ai;obtain⟨⟨aJ,gs,av,aw,_⟩,_⟩:=h1.ext a7;obtain⟨⟨bu,bw,ax,az,_⟩,_⟩:=aP.ext a7;rw[bB,aF ci.p rfl,bn (cs:=[sv]) bb.p bb.i rfl (sub av),bB,aF ci.p rfl,bn (cs:=[aj]) bb.p bb.i rfl (sub ax)];refine (nO aw.ls).mono ?_;rintro _ bS _ ⟨rfl,aL⟩;refine⟨.inl aL,?_⟩;refine (nO (az.ls.ext aL)).mono ?_;rintro _ bT _ ⟨rfl,bG⟩;simp only[bj];refine aD _ _ ⟨(ai.trans aL).trans bG,_,rfl,?_⟩;rw[decide_eq_true_iff];exact⟨fun h=>⟨qA.1 aG,qA.1 aH,h⟩,fun h=>h.2.2⟩
 ·rintro _ _ V bo ⟨W,hm,ao⟩;simp only[aC,af];refine⟨fun h=>by omega,fun _=>?_⟩;have ad:mK O E U J vars:=fun p X Y Z=>by
   obtain⟨i,hi,he⟩:=List.getElem_of_mem X;exact ao i p hi (by rw[x4 hi,he]) Y Z
  rw[←an,nH] at hm;exact⟨W,fun h=>absurd ad h,fun _=>⟨_,gz,rfl,by omega,hm⟩⟩
def s5 (E J vars:List Int):Prop:=fh vars∧ ∀ x,x∈vars↔x∈E∨x∈J
def lw (E V J O W U vars:List Int) (k:Int):List Int:=
 (Z1 (az (cN E J O U vars)).toNat).map fun(q:Nat)=>min (cV E V (dW (cq (cN E J O U vars) q) vars J)+cV O W (dW (cq (cN E J O U vars) q) vars U)) k
theorem yX (E V J O W U vars:List Int) (k:Int):(lw E V J O W U vars k).length=(az (cN E J O U vars)).toNat:=by simp[lw]
theorem yY {s cs:List Int} (E:right k) (h:∀ x∈cs,cv x k):cv (cV s cs t) k:=by
 have J:cv 0 k:=⟨E,Int.le_refl _,by have:=E.1;omega⟩;unfold cV;split
 ·rename_i n _;rw[u4];cases O:cs[n.toNat]? with
  |none=>exact J
  |some x=>exact h x (x2 O)
 ·exact J
def Fits (s l:List Int):Prop:=l.length=s.length∧n7 l
def ob (e:Int):y0:=.tuple #[.pointer none,.slice none 0 0,.int .i64 e]
def yZ (w:x1) (O Y E U Z J:List Int) (k V:Int) (v:y0) (w':x1):Prop:=
 Ext w w'∧(¬(Fits O E∧Fits U J)→v=ob 1)∧
  (Fits O E∧Fits U J→ ∃ vars,s5 E J vars∧(¬mK O E U J vars→v=ob 1)∧(mK O E U J vars→(k≠V→v=ob 3)∧
   (k=V→¬bD (cN O E U J vars)→v=ob 1)∧(k=V→bD (cN O E U J vars)→4096<az (cN O E U J vars)→v=ob 5)∧
   (k=V→bD (cN O E U J vars)→az (cN O E U J vars)≤4096→ ∃ W aa ab X,v= .tuple #[.pointer (some ⟨W,0,none⟩),X,.int .i64 0]∧
    cA w' W aa ab (cN O E U J vars) k (lw O Y E U Z J vars k)∧ay .i64 w' X vars)))
set_option maxHeartbeats 1000000 in
theorem H9 {g b3 aT b4:Nat} {b5 aU:y0} {W X E O:List Int} {bo:Int} {am ao:List Int} (h1:cA w g b3 sv W k am) (aV:cA w aT b4 b5 X bo ao) (aW:ay .i64 w aU E) (aB:ay .i64 w bv O)
  (bp:right k) (cT:∀ x∈am,cv x k) (cU:∀ x∈ao,cv x bo):
  ag x5 CO [.pointer (some ⟨g,0,none⟩),aU,.pointer (some ⟨aT,0,none⟩),bv] w (yZ w W am E X ao O k bo):=by
 have cW:=aW.cells;have cX:=aB.cells;have cY:=h1.2.2.1;have cZ:=aV.2.2.1;have sub:∀ {w:x1} {g:Nat} {sv:y0} {k:Int} {aJ:y0},aa w g ci [sv,.int .i64 k,aJ]→w.rangeAt g (0+0) [sv]:=fun aB=>k9 aB (by
  intro j v ac
  match j,ac with
  |0,ac=>exact ac)
 refine iV func177 ?_;refine a7 fun b6 eh ei b7 ap=>?_;refine a7 fun b8 V ej bK aq=>?_;refine a7 fun b9 ek em br au=>?_;refine a7 fun cb aK en aX aw=>?_;have eo:=ap.lt;have ep:=aq.lt;have er:=au.lt;have es:=aw.lt;have et:=b7.size;have eu:=bK.size;have ev:=br.size;have ew:=aX.size;have aL:=((b7.trans bK).trans br).trans aX;have ap:aa aK b6 dJ [.pointer (some ⟨g,0,none⟩)]:=((ap.ext bK).ext br).ext aX;have aq:aa aK b8 al [aU]:=by rw[cW.1] at aq;exact (aq.ext br).ext aX
 have au:aa aK b9 dJ [.pointer (some ⟨aT,0,none⟩)]:=au.ext aX;have aw:aa aK cb al [bv]:=by rw[cX.1] at aw;exact aw
 refine aI (fun v cc=>v= .bool false∧aK=cc) ?_ ?_
 rotate_left
 ·intro c0 bt;rw[av (by kernel_rfl) (ap.cell (o:=0) rfl),cQ dJ.u];simp only[c6,aR];rw[av (by kernel_rfl) (au.cell (o:=0) rfl),cQ dJ.u];exact bt _ _ ⟨rfl,rfl⟩
 rintro _ _ ⟨rfl,rfl⟩;simp only[aR];refine aI (fun v bL=>Ext aK bL∧ ∃ c,v= .bool c∧(c=true↔¬(Fits W E∧Fits X O))) ?_ ?_
 rotate_left
 ·intro c0 bt;rw[av (by kernel_rfl) (ap.cell (o:=0) rfl),av (by kernel_rfl) (aq.cell (o:=0) rfl)];refine (yP (h1.ext aL) (aW.ext aL)).mono ?_;rintro _ cc _ ⟨aM,c,rfl,a1⟩;simp only[bJ,ca];refine⟨fun bu=>bt _ _ ⟨aM,true,rfl,fun _ h=>?_,fun _=>rfl⟩,fun ae=>?_⟩
  ·have:=a1.2 h.1;rw[this] at bu;cases bu
  ·have c1:c=true:=by cases c <;> simp_all
   rw[av (by kernel_rfl) ((au.ext aM).cell (o:=0) rfl),av (by kernel_rfl) ((aw.ext aM).cell (o:=0) rfl)];refine (yP ((aV.ext aL).ext aM) ((aB.ext aL).ext aM)).mono ?_;rintro _ ey _ ⟨c2,d,rfl,cd⟩;simp only[bJ];refine bt _ _ ⟨aM.trans c2,_,rfl,fun h c3=>?_,fun h=>?_⟩
   ·have:=cd.2 c3.2;rw[this] at h;cases h
   ·cases d with
    |false=>rfl
    |true=>exact absurd ⟨a1.1 c1,cd.1 rfl⟩ h
 rintro _ bL ⟨a2,c,rfl,a1⟩;have bM:=aL.trans a2;rw[ca];refine⟨fun bu ez c4 _=>⟨bM.trans c4,fun _=>rfl,fun h=>absurd h (a1.1 bu)⟩,fun ae=>?_⟩;have a6:Fits W E∧Fits X O:=Classical.byContradiction fun h=>by
  have:=a1.2 h;rw[ae] at this;cases this
 obtain⟨⟨eA,c5⟩,eB,c7⟩:=id a6;have eC:=cY.1;have eD:=cZ.1;rw[av (by kernel_rfl) ((aq.ext a2).cell (o:=0) rfl),av (by kernel_rfl) ((aw.ext a2).cell (o:=0) rfl)];refine H7 (aW.ext bM) (aB.ext bM) (by omega) (by omega) fun eE eF eH ce eI c8=>?_;refine sV c8.ls (by rw[u7];omega) fun eJ eK eL m cg eM ch c9 da=>?_;have db:=ch.length_eq;rw[u7] at db;refine (H5 da (by omega)).mono ?_;rintro bw cj _ ⟨dc,bN⟩;have eN:=a2.size;have eO:=ce.size;have eP:=cg.size;have ck:Ext bL cj:=(ce.trans cg).then dc (by rintro r bx rfl;omega);obtain⟨dd,de⟩:=yO c9 (j:=m.length) (r9 _);have eQ:=yN m m.length;have ax:s5 E O (dedup m m.length):=⟨dd,fun x=>by rw[de,o5,ch.mem_iff,p8]⟩;generalize dedup m m.length=vars at*;refine bg al.i fun cl eR eS cm df=>?_;refine aY al.i bN.ls.cells.1 bN.ls.cells.2 df (by simp[y0.cells]) fun cn dg eT bc=>?_;have eU:=ck.size;have eV:=cm.size;have bO:Ext cj cn:=cm.then dg (by rintro r bx rfl;omega);have aN:=(a2.trans ck).trans bO;have bd:=aL.trans aN;have eW:=bc.lt;have cp:=bN.ls.ext bO;have bc:aa cn cl al [bw]:=bc;rw[av (by kernel_rfl) (bc.cell (o:=0) rfl),av (by kernel_rfl) ((ap.ext aN).cell (o:=0) rfl),av (by kernel_rfl) ((aq.ext aN).cell (o:=0) rfl),av (by kernel_rfl) ((au.ext aN).cell (o:=0) rfl),av (by kernel_rfl) ((aw.ext aN).cell (o:=0) rfl)];refine (H8 (h1.ext bd) (aV.ext bd) cp (aW.ext bd) (aB.ext bd) c5.up c7.up (by omega)).mono ?_;rintro b2 eX _ ⟨be,dh,di⟩;have cr:=bd.trans be;by_cases aO:mK W E X O vars
 rotate_left
 ·rw[dh aO,a8,ba];simp only[bJ,Y9,bq];intro eY dj _;exact⟨cr.trans dj,fun h=>absurd a6 h,fun _=>⟨vars,ax,fun _=>rfl,fun h=>absurd h aO⟩⟩
 obtain⟨xs,eZ,rfl,e0,dk⟩:=di aO;rw[a8,ba];simp only[bJ,Y0,aR];intro aC aP _ _;have bz:=(aN.trans be).trans aP;have aQ:=cr.trans aP;have ap:=ap.ext bz;have aq:=aq.ext bz;have au:=au.ext bz;have aw:=aw.ext bz;have dl:=(bc.ext be).ext aP;obtain⟨⟨aJ,gs,ct,e1,_⟩,_⟩:=h1.ext aQ;obtain⟨⟨e2,e3,dm,e4,_⟩,_⟩:=aV.ext aQ;rw[av (by kernel_rfl) (ap.cell (o:=0) rfl),aD ci.p 1 ct rfl,av (by kernel_rfl) (au.cell (o:=0) rfl),aD ci.p 1 dm rfl];simp only[bj,af];refine⟨fun aE e5 dn _=>⟨aQ.trans dn,fun h=>absurd a6 h,fun _=>⟨vars,ax,fun h=>absurd aO h,fun _=>⟨fun _=>rfl,fun h=>absurd h aE,fun h=>absurd h aE,fun h=>absurd h aE⟩⟩⟩,fun aE=>?_⟩;have aE:k=bo:=Z6.1 aE;subst aE;rw[av (by kernel_rfl) (ap.cell (o:=0) rfl),aD ci.p 1 ct rfl];have dp:=dk.ext aP;refine (r2 dp.ls).mono ?_;rintro cu bf _ ⟨cw,dq,dr,_,ds⟩;have e6:=bO.size;have e7:=be.size;have e8:=aP.size;have e9:=cw.size;obtain⟨bh,e,rfl,fa,bA⟩:∃ (bh:Option Addr) (e:Int),cu= .tuple #[.pointer bh,.int .i64 e]∧(e=0→bh≠none)∧((e=1∧¬bD (cN W E X O vars))∨(e=5∧bD (cN W E X O vars)∧4096<az (cN W E X O vars))∨(e=0∧bD (cN W E X O vars)∧az (cN W E X O vars)≤4096∧
   ∃ Z Y ah,bh=some ⟨Z,0,none⟩∧aC.heap.size≤Z∧aC.heap.size≤Y∧(∀ r,leads ah r→aC.heap.size≤r)∧cA bf Z Y ah (cN W E X O vars) k (u6 (az (cN W E X O vars)).toNat 0))):=by
  by_cases ai:bD (cN W E X O vars)
  ·by_cases aA:az (cN W E X O vars)≤4096
   ·obtain⟨Z,Y,ah,dt,du,dv,dw,dx⟩:=ds ai aA ⟨bp,by omega,by have:=bp.1;omega⟩;exact⟨_,_,dt,(fun _ h=>by cases h),.inr (.inr ⟨rfl,ai,aA,Z,Y,ah,rfl,du,dv,dw,dx⟩)⟩
   ·exact⟨_,_,dr ai (by omega),(fun h=>by omega),.inr (.inl ⟨rfl,ai,by omega⟩)⟩
  ·exact⟨_,_,dq ai,(fun h=>by omega),.inl ⟨rfl,ai⟩⟩
 rw[a8,ba];refine bg dJ.i fun cz fb fc cB bi=>?_;refine aY dJ.i rfl rfl bi (by simp[y0.cells]) fun dy dz fd bi=>?_;have fe:=cB.size;have bP:Ext bf dy:=cB.then dz (by rintro r bx rfl;omega);have cC:=cw.trans bP;have dA:=aQ.trans cC;have ff:=bi.lt;simp only[bj,af];refine⟨fun dC fg dD _=>⟨dA.trans dD,fun h=>absurd a6 h,fun _=>⟨vars,ax,fun h=>absurd aO h,fun _=>⟨fun h=>absurd rfl h,fun _ ai=>?_,fun _ ai aA=>?_,fun _ ai aA=>?_⟩⟩⟩,fun fh=>?_⟩
 ·rcases bA with⟨rfl,_⟩|⟨_,h,_⟩|⟨_,h,_⟩
  ·rfl
  ·exact absurd h ai
  ·exact absurd h ai
 ·rcases bA with⟨_,h⟩|⟨rfl,_⟩|⟨_,_,h,_⟩
  ·exact absurd ai h
  ·rfl
  ·omega
 ·rcases bA with⟨_,h⟩|⟨_,_,h⟩|⟨h,_⟩
  ·exact absurd ai h
  ·omega
  ·exact absurd h dC
 obtain⟨bC,dE,Z,Y,ah,rfl,fi,fj,fk,bE⟩:bD (cN W E X O vars)∧az (cN W E X O vars)≤4096∧
   ∃ Z Y ah,bh=some ⟨Z,0,none⟩∧aC.heap.size≤Z∧aC.heap.size≤Y∧(∀ r,leads ah r→aC.heap.size≤r)∧cA bf Z Y ah (cN W E X O vars) k (u6 (az (cN W E X O vars)).toNat 0):=by
  rcases bA with⟨h,_⟩|⟨h,_⟩|⟨_,h⟩
  ·omega
  ·omega
  ·exact h
 obtain rfl:e=0:=by omega
 have dF:(cN W E X O vars).length=vars.length:=yW _ _ _ _ _;have fm:=prod_bound bC;obtain⟨N,bF⟩:∃ N:Nat,(az (cN W E X O vars)).toNat=N:=⟨_,rfl⟩;rw[bF] at bE;have fo:0<N:=by omega
 have dG:=bE.ext bP;obtain⟨⟨bQ,cD,cE,cF,dH⟩,⟨cG,cH,_⟩,_,fp⟩:=id dG;have fq:Z<bf.heap.size:=by obtain⟨⟨_,_,q,_⟩,_⟩:=id bE;exact q.lt
 have fs:Y<bf.heap.size:=by obtain⟨⟨_,_,_,_,q⟩,_⟩:=id bE;exact qo q (by simp;omega)
 rw[av (by kernel_rfl) (bi.cell (o:=0) rfl),bB,aF ci.p rfl,bn (cs:=[ah]) bb.p bb.i rfl (sub cE)];refine sz.mono ?_;rintro _ bk _ ⟨aG,bG,rfl,ft,cI⟩;have fu:=bP.size;have fv:=aG.size;let S:Nat→Prop:=fun r=>r=Y;let aS:=lw W am E X ao O vars k;have bR:aS.length=N:=by simp only[aS];rw[yX,bF]
 have dI:=(cp.ext be).ext aP;let dK:x1→Prop:=fun w'=>aa w' b6 dJ [.pointer (some ⟨g,0,none⟩)]∧aa w' b8 al [aU]∧aa w' b9 dJ [.pointer (some ⟨aT,0,none⟩)]∧aa w' cb al [bv]∧aa w' cl al [bw]∧ay .i64 w' bw vars∧
  aa w' cz dJ [.pointer (some ⟨Z,0,none⟩)]∧aa w' Z ci [ah,.int .i64 k,bQ]∧cA w' g b3 sv W k am∧cA w' aT b4 b5 X k ao∧ay .i64 w' aU E∧ay .i64 w' bv O∧ak .i64 ab w' cD ah (cN W E X O vars)∧aa w' bG bb [ah]∧bk.heap.size≤w'.heap.size
 have cJ:=cC.trans aG;have bl:∀ {a:x1},ad S bk a→dK a:=by
  intro a J;have aH:Ext aC a:=cJ.put J (by omega);have bH:=aQ.trans aH;exact⟨ap.ext aH,aq.ext aH,au.ext aH,aw.ext aH,dl.ext aH,dI.ext aH,(bi.ext aG).U J (by show ¬(cz=Y);omega),(cE.ext aG).U J (by show ¬(Z=Y);exact cG),h1.ext bH,aV.ext bH,aW.ext bH,aB.ext bH,
   aZ (cF.ext aG) J (fun r bx he=>cH ((show r=Y from he)▸bx)),cI.U J (by show ¬(bG=Y);omega),J.size⟩
 have cK:=sy (g:=bG) (B0:=bk.heap.size) (sv:=ah) bC;rw[bF] at cK;refine lV.old ⟨Nat,false,jF,#[.pointer (some ⟨bG,0,none⟩)],0,_,_,_,fun q w'=>ad S bk w'∧ak .i64 aj w' Y bQ (upto aS 0 q),fun _ _ _=>False,rfl,cK.s,
  ?_,fun _ _ J h=>⟨h.1.ext J,h.2.1.ext J,Z3 h.2.2 J.size⟩,fun _ _ _ J h=>⟨h.1.trans (J.U S),h.2.ext J⟩,fun _ _ _ _ _ h=>h,⟨cI,(cF.ext aG).ls,r9 _⟩,⟨ad.refl _ _,?_⟩,?_,?_,fun _ _ h=>h.elim,fun _ _ _ h=>h.elim⟩
 ·rintro _ _ _ _ ⟨_,_,_,_,rfl,_⟩;rfl
 ·rw[nG,bR];exact dH.ext aG
 ·rintro _ cu q _ fw ⟨_,_,fx⟩ ⟨bS,rfl,fy,gt,dL,fz,cL⟩ ⟨bI,dM⟩;cases dL;let x:=cq (cN W E X O vars) (q:Int);have cM:x.length=vars.length:=by simp only[x];rw[hs,dF]
  intro fA dN _ _;intro fB dO _ _;have bT:=dN.trans dO;obtain⟨f1,f2,f3,f4,f5,f6,f7,f8,f9,f10,f11,f12,f13,f14,f15⟩:=bl (bI.trans (bT.U S));rw[av (by kernel_rfl) (f1.cell (o:=0) rfl),av (by kernel_rfl) (f5.cell (o:=0) rfl),av (by kernel_rfl) (f2.cell (o:=0) rfl)];refine (yQ (cL.ls.ext bT) f6 f11 ax.1 (fun p aA=>(ax.2 p).2 (.inl aA)) cM (by omega)).mono ?_;rintro fC fD _ ⟨bU,fE,fF,dP⟩;refine⟨.inl bU,?_⟩;refine (r3 (f9.ext bU) dP.ls).mono ?_;rintro _ fG _ ⟨rfl,dQ⟩;obtain⟨dR,dS⟩:=sU W (dW x vars E) am;have dT:mh W (dW (cq (cN W E X O vars) (q:Int)) vars E) am= .tuple #[.int .i64 (cV W am (dW x vars E)),.int .i64 dR]:=dS;rw[dT,a8,ba];intro fH dU _ _;have bV:=((bT.trans bU).trans dQ).trans dU;obtain⟨f1,f2,f3,f4,f5,f6,f7,f8,f9,f10,f11,f12,f13,f14,f15⟩:=bl (bI.trans (bV.U S));rw[av (by kernel_rfl) (f3.cell (o:=0) rfl),av (by kernel_rfl) (f5.cell (o:=0) rfl),av (by kernel_rfl) (f4.cell (o:=0) rfl)];refine (yQ (cL.ls.ext bV) f6 f12 ax.1 (fun p aA=>(ax.2 p).2 (.inr aA)) cM (by omega)).mono ?_;rintro fI fJ _ ⟨bW,fK,fL,dV⟩;refine⟨.inl bW,?_⟩;refine (r3 (f10.ext bW) dV.ls).mono ?_;rintro _ fM _ ⟨rfl,dX⟩;obtain⟨dY,dZ⟩:=sU X (dW x vars O) ao;have ea:mh X (dW (cq (cN W E X O vars) (q:Int)) vars O) ao= .tuple #[.int .i64 (cV X ao (dW x vars O)),.int .i64 dY]:=dZ;rw[ea,a8,ba];intro fN eb _ _;have bX:=((bV.trans bW).trans dX).trans eb;obtain⟨f1,f2,f3,f4,f5,f6,f7,f8,f9,f10,f11,f12,f13,f14,f15⟩:=bl (bI.trans (bX.U S));rw[av (by kernel_rfl) (f7.cell (o:=0) rfl),aD ci.p 2 f8 rfl,av (by kernel_rfl) (f7.cell (o:=0) rfl),aD ci.p 1 f8 rfl];refine sx.mono ?_;rintro _ fO _ ⟨rfl,bY⟩;refine⟨.inl bY,?_⟩;have ec:ll (cV W am (dW x vars E)) (cV X ao (dW x vars O)) k= .tuple #[.int .i64 (min (cV W am (dW x vars E)+cV X ao (dW x vars O)) k),.int .i64 0]:=if_pos ⟨yY bp cT,yY bp cU⟩;rw[ec,gJ (v:=.int .i64 (min (cV W am (dW x vars E)+cV X ao (dW x vars O)) k)) rfl,gJ (v:=.int .i64 0) rfl];have cO:=dM.ext (bX.trans bY);have fP:(upto aS 0 q).length=N:=by rw[nF,bR]
  rw[gn rfl an.u aj.i cO (by omega)];refine gp aj.i cO (by omega) fun ed ee fQ cP=>?_;have cR:ad S bk ed:=(bI.trans ((bX.trans bY).U S)).trans (ee.mono fun r _ h=>h);obtain⟨f1,f2,f3,f4,f5,f6,f7,f8,f9,f10,f11,f12,f13,f14,f15⟩:=bl cR;have ef:aS[q]? =some (min (cV W am (dW x vars E)+cV X ao (dW x vars O)) k):=by
   simp only[aS,lw];rw[x7,List.getElem?_range (by rw[bF];exact bS)];rfl
  rw[nI ef] at cP;exact⟨⟨f14,f13.ls,f15⟩,⟨cR,cP⟩,fun h=>by cases h⟩
 ·rintro q fR bS ⟨cS,bZ⟩;rw[show q=N from bS] at bZ;intro fS b1 _ _;obtain⟨f1,f2,f3,f4,f5,f6,f7,f8,f9,f10,f11,f12,f13,f14,f15⟩:=bl (cS.trans (b1.U S));rw[av (by kernel_rfl) (f7.cell (o:=0) rfl),av (by kernel_rfl) (f5.cell (o:=0) rfl)];intro fT bm _;rw[←bR,nH] at bZ;have eg:=aQ.trans cJ;refine⟨((eg.put cS (by omega)).trans b1).trans bm,fun h=>absurd a6 h,fun _=>⟨vars,ax,fun h=>absurd aO h,fun _=>⟨fun h=>absurd rfl h,fun _ h=>absurd bC h,fun _ _ h=>by omega,fun _ _ _=>⟨Z,Y,ah,bw,rfl,⟨⟨bQ,cD,f8.ext bm,f13.ext bm,(bZ.ext b1).ext bm⟩,⟨cG,cH,dE⟩,bC,yX _ _ _ _ _ _ _ _⟩,f6.ext bm⟩⟩⟩⟩
theorem fh.pair (h:fh l):l.Pairwise (·< ·):=X6.2 fun i j hi E J=>h i j _ _ J (x4 hi) (x4 E)
theorem Ia {m:List Int} (E:fh l) (hm:fh m) (h:∀ x,x∈l↔x∈m):l=m:=by
 have J:l.Nodup:=E.pair.imp fun h=>by omega
 have O:m.Nodup:=hm.pair.imp fun h=>by omega
 exact List.Perm.eq_of_pairwise (le:=(·≤ ·)) (fun a b _ _ h1 U=>Int.le_antisymm h1 U) (E.pair.imp fun h=>Int.le_of_lt h) (hm.pair.imp fun h=>Int.le_of_lt h) ((List.perm_ext_iff_of_nodup J O).2 h)
theorem Ib {vars:List Int} (h:s5 l l vars) (hu:fh l):vars=l:=Ia h.1 hu fun x=>by rw[h.2];simp
theorem s6 (h:l.Pairwise (·< ·)):fh l:=fun i j x y O J U=>by
 have h1:=x3.1 J;have E:=x3.1 U;have:=X6.1 h i j h1.1 E.1 O;rw[h1.2,E.2] at this;exact this
theorem Ic {x:List Int} (hu:l.Nodup) (h:x.length=l.length):dW x l l=x:=by
 refine Y7 fun i=>?_;unfold dW;cases E:l[i]? with
 |none=>rw[x7,E,c8 (by have:=List.getElem?_eq_none_iff.1 E;omega)];rfl
 |some v=>
  have hi:=(x3.1 E).1;rw[x7,E,c5,n4 hu E,u4,x4 (show i<x.length by omega)];rfl
theorem y1 {s:List Int} (hu:fh l) (h:s.length=l.length):cN s l s l l=s:=by
 refine Y7 fun i=>?_;unfold cN;cases E:l[i]? with
 |none=>rw[x7,E,c8 (by have:=List.getElem?_eq_none_iff.1 E;omega)];rfl
 |some v=>
  have hi:=(x3.1 E).1;rw[x7,E,c5,sY hu E,Int.max_self,x4 (show i<s.length by omega)];unfold fY;rw[if_pos (by omega),u4,j6,x4 (show i<s.length by omega)];rfl
theorem Ie {s b:List Int} (hu:l.Pairwise (·< ·)) (h:s.length=l.length) (E:dF s) (J:a.length=(az s).toNat) (O:b.length=(az s).toNat):lw s a l s b l l k=dh k a b:=by
 have U:l.Nodup:=hu.imp fun h=>by omega
 unfold lw;rw[y1 (s6 hu) h,G0 E J O];apply List.map_congr_left;intro q _;rw[Ic U (by rw[hs,h])]
theorem If {s b:List Int} (hu:l.Pairwise (·< ·)) (ab:∀ x∈l,0≤x) (h:s.length=l.length) (Y:bD s) (ad:az s≤4096) (ae:a.length=(az s).toNat) (af:b.length=(az s).toNat) (O:yZ w s a l s b l k k v w'):
  Ext w w'∧ ∃ E U V W,v= .tuple #[.pointer (some ⟨E,0,none⟩),W,.int .i64 0]∧cA w' E U V s k (dh k a b):=by
 obtain⟨J,_,O⟩:=O;have X:=s6 hu;have Z:Fits s l:=⟨h.symm,HE X ab⟩;obtain⟨vars,ac,_,ag⟩:=O ⟨Z,Z⟩;have ah:=Ib ac X;subst ah;obtain⟨_,_,_,aa⟩:=ag fun p aj ak al=>rfl;rw[y1 X h,Ie hu h Y.2 ae af] at aa;obtain⟨E,U,V,W,rfl,ai,_⟩:=aa rfl Y ad;exact⟨J,E,U,V,W,rfl,ai⟩
theorem Ig {s:List Int} (E:dF s):(bo s).Nodup:=(yG E).imp fun {a b} h he=>by subst he;omega
theorem Ih {s:List Int} {i:Nat} (E:dF s) (hi:(bo s)[i]? =some t) (J:(bo s)[j]? =some t):i=j:=ip (Ig E) hi J
theorem Ii {s:List Int} (E:dF s) (h:cJ s t):∃ j:Nat,(bo s)[j]? =some t:=X1.1 ((yF E).2 h)
theorem Ij {P:Y3} {t:u9} {cx cy:Bool} {a b:Bool} {K:y0→Prop} (E:P.underlying t=some .bool):O P (ax .eql t cx cy (.bool a) (.bool b)) w K=K (.bool (a == b)):=
 rR (fun _=>rfl) rfl fun w' _=>run_equalIn_bool' (P:=P) (w:=w') 9999 t a b E
theorem qB {g:Nat} {d:List (y0×y0)} (h:aa w g e cs) (hm:cr w m d) (E:ad (fun r=>r=m) w w'):aa w' g e cs:=h.U E (fun he=>qp h hm he)
theorem y2 {g:Nat} {k:o4} {d:List (y0×y0)} (h:ak k e w g v l) (hm:cr w m d) (E:ad (fun r=>r=m) w w'):ak k e w' g v l:=aZ h E (fun _ J he=>yI h hm J he)
def qC (cs:List Int) (o:Int):Prop:=o∈cs∧ ∀ d∈cs,cs.count d<cs.count o∨(cs.count d=cs.count o∧o≤d)
theorem Ik {i:Nat} {x:Int} (h:l[i]? =some x) (y:Int):(l.take (i+1)).count y=(l.take i).count y+if y=x then 1 else 0:=by
 rw[u5,h,List.count_append];congr 1;simp only[j5,List.count_singleton];by_cases E:y=x
 ·subst E;simp
 ·rw[if_neg E,if_neg (by simpa using fun h=>E h.symm)]
def fj (p:Int×Int):y0×y0:=(.int .i64 p.1,.int .i64 p.2)
theorem oc:Keys x5 aj fun v=>∃ n,v= .int .i64 n:=Keys.int aj.u
theorem od (E:List (Int×Int)):∀ p∈E.map fj,∃ n,p.1= .int .i64 n:=fun p J=>by
 obtain⟨q,_,rfl⟩:=o8.1 J;exact⟨_,rfl⟩
def s7 (cs:List Int) (E:List (Int×Int)):Prop:=(∀ x,x∈E.map (·.1)↔x∈cs)∧ ∀ p∈E,p.2=(cs.count p.1:Nat)
theorem y3 {cs:List Int} {E:List (Int×Int)} (h:s7 cs E) {x:Int} (J:x∈cs):∃ j:Nat,E[j]? =some (x,((cs.count x:Nat):Int)):=by
 obtain⟨p,O,rfl⟩:=o8.1 ((h.1 x).2 J);obtain⟨j,U⟩:=X1.1 O;exact⟨j,by rw[U,←h.2 p O]⟩
set_option maxHeartbeats 1600000 in
theorem y4 {aU:y0} {cs:List Int} (h:ay .i64 w aU cs) (aV:cs≠[]) (bD:cs.length≤1000000):ag x5 pk [aU] w fun v w'=>Ext w w'∧ ∃ o,v= .int .i64 o∧qC cs o:=by
 refine ap func246 ?_;refine aw.cD (p5 fun m bd hm az be bE=>?_);rw[aK an.u (h.ext az)];refine bS.range cs.length (fun i V=>ad (fun r=>r=m) bd V∧ ∃ J,cr V m (J.map fj)∧s7 (cs.take i) J) (by omega) ⟨ad.refl _ _,[],be,by simp[s7]⟩ ?_ ?_
 ·rintro i V bf hi ⟨ac,J,Y,U⟩ aW;obtain⟨x,aA⟩:=aE (l:=cs) hi;have ae:Ext w V:=az.put ac (by omega);have bg:∀ y,(cs.take i).count y≤1000000:=fun y=>by
   have:=List.count_le_length (a:=y) (l:=cs.take i);rw[o6] at this;omega
  refine bC (by omega) ?_;rw[a1 an.u aj.i (by kernel_rfl) (h.ext ae) aA];have ao:=Ik aA;have aX:∀ y,y∈cs.take (i+1)↔y∈cs.take i∨y=x:=fun y=>by
   rw[u5,aA];simp
  by_cases ah:x∈cs.take i
  ·obtain⟨j,aD⟩:=y3 U ah;have aq:(J.map fj)[j]? =some (.int .i64 x,.int .i64 (((cs.take i).count x:Nat):Int)):=by rw[x7,aD];rfl
   rw[nP jI.u oc Y (od J) ⟨_,rfl⟩ aq];simp only[Bool.false_eq_true,if_false];have:=bg x;rw[aB,wrap_i64 (by omega) (by omega)];refine aw.cD (nQ jI.u oc Y (od J) ⟨_,rfl⟩ (fun ai v0 aF aG ak aH bh=>?_) (fun aF au=>absurd rfl (au _ (x2 aq))));have bi:ai=j:=Y.uniq aG aq rfl;subst bi;rw[aB];have aJ:(J.map fj).set ai (.int .i64 x,.int .i64 ((((cs.take i).count x:Nat):Int)+1))=(J.set ai (x,(((cs.take i).count x:Nat):Int)+1)).map fj:=by rw[List.map_set];rfl
   rw[aJ] at ak;have bj:=(x3.1 aD).1;refine aW _ ⟨ac.trans aH,_,ak,fun y=>?_,fun p E=>?_⟩
   ·rw[List.map_set,E4 (by rw[x7,aD];rfl),U.1,aX];exact⟨.inl,fun h=>h.elim id (fun h=>h▸ah)⟩
   ·obtain⟨q,W⟩:=X1.1 E;by_cases aL:ai=q
    ·subst aL;rw[V8 bj] at W;cases W;show _=(((cs.take (i+1)).count x:Nat):Int);rw[ao,if_pos rfl];omega
    ·rw[List.getElem?_set_ne aL] at W;have aM:p.1≠x:=fun he=>aL (Y.uniq aq (show (J.map fj)[q]? =some (fj p) by rw[x7,W];rfl) (by rw[fj,he]));rw[U.2 p (x2 W),ao,if_neg aM,Nat.add_zero]
  ·have au:∀ p∈J.map fj,p.1≠X0 .i64 x:=fun p E he=>by
    obtain⟨q,W,rfl⟩:=o8.1 E;have:q.1=x:=by simpa[fj] using he
    exact ah ((U.1 x).1 (o8.2 ⟨q,W,this⟩))
   rw[p6 jI.u oc ⟨_,_,ab.i⟩ Y (od J) ⟨_,rfl⟩ au];simp only[Bool.false_eq_true,if_false];rw[aB,wrap_i64 (by omega) (by omega)];refine aw.cD (nQ jI.u oc Y (od J) ⟨_,rfl⟩ (fun ai v0 aF aG=>absurd rfl (au _ (x2 aG))) (fun aF _ ak aH bh=>?_));rw[aB];have aJ:J.map fj++[(X0 .i64 x,X0 .i64 (0+1))]=(J++[(x,1)]).map fj:=by rw[j4];rfl
   rw[aJ] at ak;have bk:(cs.take i).count x=0:=List.count_eq_zero.2 ah;refine aW _ ⟨ac.trans aH,_,ak,fun y=>?_,fun p E=>?_⟩
   ·rw[j4,p8,U.1,aX];simp
   ·rcases p8.1 E with E|E
    ·have aM:p.1≠x:=fun he=>ah ((U.1 x).1 (o8.2 ⟨p,E,he⟩));rw[U.2 p E,ao,if_neg aM,Nat.add_zero]
    ·rw[p9.1 E];show (1:Int)=(((cs.take (i+1)).count x:Nat):Int);rw[ao,if_pos rfl,bk];rfl
 rintro V bf ⟨ac,J,Y,U⟩;rw[o5] at U;have ae:Ext w V:=az.put ac (by omega);refine cH (by omega) ?_;refine (Fw (h.ext ae) aV).mono ?_;rintro _ bl bF ⟨rfl,aN⟩;have bG:=ae.size;have bH:=aN.size;refine aw.cD (xx jI.u (Y.ext aN) fun al bI bJ bm bK bn bL=>?_);refine⟨fun mL aa=>∃ b Z X left aY,mL= .int .i64 b∧b∈cs∧Ext bl aa∧fO aa al m (J.map fj) left aY∧left=X.map fj∧(Z++X).Perm J∧ ∀ p∈Z,cs.count p.1<cs.count b∨(cs.count p.1=cs.count b∧b≤p.1),fun _ aa=>mC aa al,
  ⟨sk cs,[],J,J.map fj,none,rfl,(E7 aV).1,bm,bn,rfl,List.Perm.refl _,fun p E=>by cases E⟩,?_⟩
 rintro _ aa ⟨b,Z,X,left,aY,rfl,aO,aP,aZ,rfl,av,aQ⟩;refine xz aZ (fun _=>by show w.heap.size≤al;omega) (fun bo=>?_) (fun j p aS E a2 bM am=>?_)
 ·rw[gJ (v:=.bool false) rfl,aR];have:X=[]:=List.map_eq_nil_iff.1 bo;subst this;rw[Y8] at av;refine⟨(ae.trans aN).trans aP,b,rfl,aO,fun d bp=>?_⟩;obtain⟨q,W,rfl⟩:=o8.1 ((U.1 d).2 bp);exact aQ q (av.mem_iff.2 W)
 ·rw[gJ (v:=.bool true) rfl,bq];refine xA am ?_;obtain⟨q,W,rfl⟩:∃ q,X[j]? =some q∧fj q=p:=by
   rw[x7] at E;exact Z2.1 E
  have a6:q∈J:=av.mem_iff.1 (p8.2 (.inr (x2 W)));have bN:=U.2 q a6;have bt:q.1∈cs:=(U.1 q.1).1 (o8.2 ⟨q,a6,rfl⟩);obtain⟨bu,bw⟩:=y3 U aO;have bx:(J.map fj)[bu]? =some (.int .i64 b,.int .i64 ((cs.count b:Nat):Int)):=by rw[x7,bw];rfl
  rw[gJ (v:=.int .i64 q.1) rfl,gJ (v:=.int .i64 q.2) rfl];have a7:(Z++[q]++X.eraseIdx j).Perm J:=by
   refine List.Perm.trans ?_ av;rw[Y2];exact List.Perm.append_left Z (sD W)
  have a8:mC aS al<mC aa al:=by
   rw[qc am,qc aZ];have:=xP (x3.1 E).1;omega
  refine aI (fun v bz=>aS=bz∧ ∃ r:Bool,v= .bool r∧(r=true↔(cs.count b<cs.count q.1∨(cs.count q.1=cs.count b∧q.1<b)))) ?_ ?_
  ·rintro _ _ ⟨rfl,r,rfl,ax⟩;rw[ca];refine⟨fun bA=>?_,fun ba=>?_⟩
   ·have ax:=ax.1 bA;refine⟨⟨q.1,Z++[q],X.eraseIdx j,_,_,rfl,bt,aP.trans a2,am,(ky fj X j),a7,fun p E=>?_⟩,a8⟩;rcases p8.1 E with E|E
    ·have:=aQ p E;omega
    ·rw[p9.1 E];exact .inr ⟨rfl,Int.le_refl _⟩
   ·have ax:¬(cs.count b<cs.count q.1∨(cs.count q.1=cs.count b∧q.1<b)):=fun h=>by rw[ax.2 h] at ba;cases ba
    refine⟨⟨b,Z++[q],X.eraseIdx j,_,_,rfl,aO,aP.trans a2,am,(ky fj X j),a7,fun p E=>?_⟩,a8⟩;rcases p8.1 E with E|E
    ·exact aQ p E
    ·rw[p9.1 E];omega
  ·intro bO aT;have bb:∀ K:y0→Prop,O x5 (Instr.lookup jI (.map (some m)) (.int .i64 b) false) aS K=K (.int .i64 ((cs.count b:Nat):Int)):=fun K=>by
    rw[nP jI.u oc am.map (od J) ⟨_,rfl⟩ bx];simp
   rw[bb,br,af];refine⟨fun h1=>aT _ _ ⟨rfl,true,rfl,⟨fun _=>.inl (by omega),fun _=>rfl⟩⟩,fun h1=>?_⟩;rw[bb,bc,af];refine⟨fun bB=>?_,fun bB=>aT _ _ ⟨rfl,false,rfl,⟨fun h=>(by cases h),fun h=>by omega⟩⟩⟩;rw[aC];refine aT _ _ ⟨rfl,_,rfl,?_⟩;rw[decide_eq_true_eq];omega
theorem Il {g J:Nat} {k:o4} {O:u9} (h:ak k e w g v l) (U:aa w J O cs) (W:e≠O) (V:leads v r):r≠J:=by
 obtain⟨rfl,_⟩:=bp h V;obtain⟨_,⟨rfl,_⟩|⟨_,_,_,E,_⟩⟩:=h
 ·obtain⟨a,n,c,h,_⟩:=V;cases h
 ·rintro rfl;unfold aa at U E;rw[U] at E;injection E with h1;injection h1 with Y X;exact W X.symm
def Im (w:x1) (ai:List Int) (k:Int) (cs:List Int) (v:y0) (w':x1):Prop:=Ext w w'∧ ∃ g m o D,v= .pointer (some ⟨g,0,none⟩)∧dG w' g m ai k o D∧D.length≤(az ai).toNat∧gy ai (gw D o) cs∧qC cs o
set_option maxHeartbeats 4000000 in
theorem In {g ca:Nat} {cs:List Int} (h:cA w g ca sv ai k cs) (be:∀ c∈cs,cv c k):ag x5 CT [.pointer (some ⟨g,0,none⟩)] w (Im w ai k cs):=by
 obtain⟨⟨aJ,gs,bE,hm,cR⟩,⟨_,_,bF⟩,ah,aT⟩:=id h;have cS:=prod_bound ah;have cT:=ah.1;have bG:cs≠[]:=fun he=>by rw[he] at aT;simp at aT;omega
 refine iV func185 ?_;rw[cQ dJ.u];simp only[c6,aR];refine (kx h).mono ?_;rintro ax V _ ⟨aD,cU,cW,bf⟩;refine bg an.i fun aU cX cY bH bI=>?_;have cZ:=bI.lt;refine aY an.i bf.ls.cells.1 bf.ls.cells.2 bI (by simp[y0.cells]) fun aV cb c0 aW=>?_;have aW:aa aV aU an [ax]:=aW;have c1:=aD.size;have c2:=bH.size;have bJ:Ext V aV:=bH.put cb (by omega);have bK:=bf.ext bJ;have aL:=aD.trans bJ;refine aI (fun u aX=>∃ E ak m o az aA,u= .pointer (some ⟨E,0,none⟩)∧Ext aV aX∧aa aX E dK [.pointer (some ⟨ak,0,none⟩)]∧aV.heap.size≤m∧eD aX ak m az aA ai k o []∧qC cs o) ?_ ?_
 ·rintro _ aX ⟨E,ak,m,o,az,aA,rfl,aM,W,c3,al,ao⟩;have cc:=h.ext (aL.trans aM);have cd:=aW.ext aM;have ce:=bK.ext aM;refine (my cc).mono ?_;rintro _ c4 _ ⟨rfl,cg⟩;refine sz.mono ?_;rintro _ bh _ ⟨ch,bL,rfl,c5,bM⟩;have aE:=cg.trans ch;have bN:=al.ext aE;have ci:=cd.ext aE;have bO:=W.ext aE;have cj:=ce.ext aE;have bP:=hm.ext ((aL.trans aM).trans aE);have aF:=bN.2.2.1;have ck:=(aL.trans aM).trans aE;have c7:=aL.size;have cl:=sy (g:=bL) (B0:=bh.heap.size) (sv:=sv) ah;refine lV.old ⟨Nat,false,jF,#[.pointer (some ⟨bL,0,none⟩)],_,_,_,_,fun i w'=>ad (fun r=>r=m) bh w'∧ ∃ D,D.length≤i∧eD w' ak m az aA ai k o D∧ ∀ (j:Nat) t,(bo ai)[j]? =some t→gw D o t=if j<i then cV ai cs t else o,fun _ _ _=>False,rfl,cl.s,
   ?_,fun _ _ J h=>⟨h.1.ext J,h.2.1.ext J,Z3 h.2.2 J.size⟩,fun _ _ _ J ⟨h1,D,cm,cn,bF⟩=>⟨h1.trans (J.U _),D,cm,cn.ext J,bF⟩,fun _ _ _ _ _ h=>h,⟨bM,bP.ls,r9 _⟩,⟨ad.refl _ _,[],r9 _,bN,fun j t _=>by rw[if_neg (by omega)];rfl⟩,?_,?_,fun _ _ h=>h.elim,fun _ _ _ h=>h.elim⟩
  ·rintro _ _ _ _ ⟨_,_,_,_,rfl,_⟩;rfl
  ·rintro _ ac i _ cp ⟨c8,da,cr⟩ ⟨hi,rfl,db,gt,ct,dc,ae⟩ ⟨aZ,D,bQ,bi,bj⟩;cases ct;have bk:(bo ai)[i]? =some (cq ai (i:Int)):=pR ah.2 (by omega);have cu:cJ ai (cq ai (i:Int)):=sm ah.2 hi;generalize cq ai (i:Int)=t at*;have bS:=G7 ah.2 aT bk;intro cw a2 _ _;intro cz cB _ _;have a6:=a2.trans cB;have a7:ad (fun r=>r=m) bh cz:=aZ.trans (a6.U _);rw[av (by kernel_rfl) ((qB bO aF a7).cell (o:=0) rfl),av (by kernel_rfl) ((qB ci aF a7).cell (o:=0) rfl),a1 an.u aj.i (by kernel_rfl) (y2 cj aF a7).ls bS];have bl:=bi.ext a6;refine (xL bl.is (ae.ext a6).ls (c:=cV ai cs t)).mono ?_;rintro _ dd _ ⟨_,cC⟩;obtain⟨rfl,bm,cD,bT,bU⟩:=cC ⟨cu,be _ (x2 bS)⟩;have bn:=a7.trans bm;have de:=bT.2;refine⟨⟨qB bM aF bn,(y2 bP aF bn).ls,Z3 cr (Z3 a6.size bm.size)⟩,⟨bn,cD,by omega,bl.put bm bU,fun j s aB=>?_⟩,fun h=>by cases h⟩;rw[bT.cost bl.is.nodup bU.nodup];by_cases bV:j=i
   ·subst bV;rw[bk] at aB;cases aB;rw[if_pos rfl,if_pos (by omega)]
   ·rw[if_neg (fun(he:s=t)=>bV (Ih ah.2 (by rw[←he];exact aB) bk)),bj j s aB];by_cases h1:j<i
    ·rw[if_pos h1,if_pos (by omega)]
    ·rw[if_neg h1,if_neg (by omega)]
  ·rintro i cp rfl ⟨aZ,D,bQ,bi,bj⟩;rw[av (by kernel_rfl) ((qB bO aF aZ).cell (o:=0) rfl)];intro cw a2 _;refine⟨(ck.put aZ (by omega)).trans a2,ak,m,o,D,rfl,bi.is.ext a2,bQ,⟨aT,fun t cE=>?_⟩,ao⟩;obtain⟨j,aB⟩:=Ii ah.2 cE;have:=(x3.1 aB).1;rw[i7 ah.2] at this;rw[bj j t aB,if_pos this]
 intro bb bW;intro af aN _ _;have bp:=aL.trans aN;have bX:=aN;have bc:=h.ext bp;have bY:=bK.ext aN;have df:=aN.size;rw[av (by kernel_rfl) ((aW.ext aN).cell (o:=0) rfl)];have bZ:∀ {E:Nat} {w':x1} {ac:y0} {o:Int},Ext af w'→af.heap.size≤E→(∃ X,aa w' E dK [X])→ay .i64 w' ac ai→qC cs o→
   ag x5 l0 [ac,.int .i64 k,.int .i64 o] w' fun am Z=>O x5 (c9 am 0) Z fun aC=>O x5 (c9 am 1) Z fun _=>aw x5 (n0 dK (.pointer (some ⟨E,0,none⟩)) aC) Z fun(_:Unit) aq=>bb (.pointer (some ⟨E,0,none⟩)) aq:=by
  rintro E w' ac o ab Y ⟨X,W⟩ ae ao;refine (xF ae).mono ?_;rintro _ Z _ ⟨bq,_,_,br⟩;obtain⟨ak,m,rfl,cF,cG,al⟩:=br ah (be _ ao.1);obtain⟨az,aA,al⟩:=al.at;rw[a8,ba];have cH:=W.lt;have s':=ab.size;refine aY dK.i rfl rfl (W.ext bq) (by simp) fun aq b1 dg cI=>?_;refine bW _ _ ⟨E,ak,m,o,az,aA,rfl,((bX.trans ab).trans bq).put b1 (by omega),cI,by omega,al.U b1 (fun he=>by have he:ak=E:=he;omega) (fun he=>by have he:m=E:=he;omega) (fun r bt he=>?_),ao⟩;exact Il al.2.1 (W.ext bq) (by decide) bt he
 have b2:∀ {E:Nat} {w':x1} {ac:y0},Ext af w'→af.heap.size≤E→(∃ X,aa w' E dK [X])→ay .i64 w' ac ai→
   ag x5 pk [ax] w' fun aO V=>ag x5 l0 [ac,.int .i64 k,aO] V fun am Z=>O x5 (c9 am 0) Z fun aC=>O x5 (c9 am 1) Z fun _=>aw x5 (n0 dK (.pointer (some ⟨E,0,none⟩)) aC) Z fun(_:Unit) aq=>bb (.pointer (some ⟨E,0,none⟩)) aq:=by
  rintro E w' ac ab Y ⟨X,W⟩ ae;refine (y4 (bY.ext ab).ls bG (by omega)).mono ?_;rintro _ V _ ⟨aD,o,rfl,ao⟩;exact bZ (ab.trans aD) Y ⟨X,W.ext aD⟩ (ae.ext aD) ao
 have b3:∀ {E:Nat} {w':x1} {ac:y0},Ext af w'→af.heap.size≤E→(∃ X,aa w' E dK [X])→ay .i64 w' ac ai→
   ag x5 rH [.pointer (some ⟨g,0,none⟩)] w' fun bu ap=>(Ext af ap∨bR x5 (x6 an (.pointer (some ⟨aU,0,none⟩))) ax ap∧True)∧
    ag x5 pk [ax] ap fun aO V=>ag x5 l0 [ac,bu,aO] V fun am Z=>O x5 (c9 am 0) Z fun aC=>O x5 (c9 am 1) Z fun _=>aw x5 (n0 dK (.pointer (some ⟨E,0,none⟩)) aC) Z fun(_:Unit) aq=>bb (.pointer (some ⟨E,0,none⟩)) aq:=by
  rintro E w' ac ab Y ⟨X,W⟩ ae;refine (xu (bc.ext ab)).mono ?_;rintro _ ap _ ⟨rfl,au⟩;exact⟨.inl (ab.trans au),b2 (ab.trans au) Y ⟨X,W.ext au⟩ (ae.ext au)⟩
 have b4:ai.length≤1000:=by omega
 have b5:∀ {E:Nat} {w':x1},Ext af w'→af.heap.size≤E→(∃ X,aa w' E dK [X])→
   ag x5 vu [.agg #[sv]] w' fun cK w0=>(Ext af w0∨bR x5 (x6 an (.pointer (some ⟨aU,0,none⟩))) ax w0∧True)∧
    ag x5 rH [.pointer (some ⟨g,0,none⟩)] w0 fun bu ap=>(Ext af ap∨bR x5 (x6 an (.pointer (some ⟨aU,0,none⟩))) ax ap∧True)∧
    ag x5 pk [ax] ap fun aO V=>ag x5 l0 [cK,bu,aO] V fun am Z=>O x5 (c9 am 0) Z fun aC=>O x5 (c9 am 1) Z fun _=>aw x5 (n0 dK (.pointer (some ⟨E,0,none⟩)) aC) Z fun(_:Unit) aq=>bb (.pointer (some ⟨E,0,none⟩)) aq:=by
  rintro E w' ab Y ⟨X,W⟩;refine (xv (hm.ext (bp.trans ab)).ls b4).mono ?_;rintro ac ap _ ⟨au,_,_,ae⟩;exact⟨.inl (ab.trans au),b3 (ab.trans au) Y ⟨X,W.ext au⟩ ae.ls⟩
 have aP:∀ {w':x1} {R:y0→x1→Prop},Ext af w'→(∀ E aQ,af.heap.size≤E→Ext w' aQ→(∃ X,aa aQ E dK [X])→R (.pointer (some ⟨E,0,none⟩)) aQ)→aw x5 (Instr.alloc dK true (.tuple #[])) w' R:=fun {w'} {R} ab cL=>by
  have:=ab.size;exact bg dK.i fun E aQ Y cM bE=>cL E aQ (by omega) cM ⟨_,bE⟩
 refine⟨?_,aP (Ext.refl _) fun E dh Y bd W=>⟨.inl bd,?_⟩⟩
 rotate_left
 ·refine (my (bc.ext bd)).mono ?_;rintro _ di _ ⟨rfl,bw⟩;obtain⟨X,W⟩:=W;exact⟨.inl (bd.trans bw),b5 (bd.trans bw) Y ⟨X,W.ext bw⟩⟩
 refine (my bc).mono ?_;rintro _ dj _ ⟨rfl,aG⟩;refine⟨.inl aG,?_,aP aG fun E dk Y b6 W=>⟨.inl (aG.trans b6),b5 (aG.trans b6) Y W⟩⟩;refine (xv (hm.ext (bp.trans aG)).ls b4).mono ?_;rintro ac dl _ ⟨cN,_,_,ae⟩;have aH:=aG.trans cN;refine⟨.inl aH,?_,aP aH fun E dm Y bx W=>⟨.inl (aH.trans bx),b3 (aH.trans bx) Y W (ae.ext bx).ls⟩⟩;refine (xu (bc.ext aH)).mono ?_;rintro _ dn _ ⟨rfl,bz⟩;have aK:=aH.trans bz;refine⟨.inl aK,?_,aP aK fun E dp Y bA W=>⟨.inl (aK.trans bA),b2 (aK.trans bA) Y W ((ae.ext bz).ext bA).ls⟩⟩;refine (y4 (bY.ext aK).ls bG (by omega)).mono ?_;rintro _ dq _ ⟨b7,o,rfl,ao⟩;have aS:=aK.trans b7;have b8:=(ae.ext bz).ext b7;refine⟨?_,aP aS fun E dr Y bB W=>⟨.inl (aS.trans bB),bZ (aS.trans bB) Y W (b8.ext bB).ls ao⟩⟩;refine (xF b8.ls).mono ?_;rintro _ ds _ ⟨cO,_,_,br⟩;obtain⟨ak,m,rfl,cF,cG,al⟩:=br ah (be _ ao.1);obtain⟨az,aA,al⟩:=al.at;rw[a8,ba];have bC:=aS.trans cO;refine bg dK.i fun E dt Y bD W=>?_;refine⟨.inl (bC.trans bD),?_⟩;have cH:=W.lt;obtain⟨du,dv,t3⟩:=al.nN;have dw:=aS.size;have dx:=bC.size;refine aY dK.i rfl rfl W (by simp[y0.cells]) fun dy b9 dz cP=>?_;exact bW _ _ ⟨E,ak,m,o,az,aA,rfl,((bX.trans bC).trans bD).put b9 (by omega),cP,by omega,(al.ext bD).U b9 (fun he=>by have he:ak=E:=he;omega) (fun he=>by have he:m=E:=he;omega) (fun r bt he=>by have he:r=E:=he;have:=t3 r bt;omega),ao⟩
theorem y5 {acc:List b1} {g:b1} (h:∀ x∈acc,x.1≠g.1):gv k acc g=acc++[g]:=by
 unfold gv;rw[if_neg];intro hm;obtain⟨x,J,he⟩:=o8.1 hm;exact h x J he
theorem Io {acc:List b1} {g h:b1} {i:Nat} (J:gQ acc) (hi:acc[i]? =some h) (he:h.1=g.1):gv k acc g=acc.set i (h.1,dh k h.2 g.2):=by
 have O:=(x3.1 hi).1;unfold gv;rw[if_pos (o8.2 ⟨h,x2 hi,he⟩)];refine Y7 fun j=>?_;rw[x7,Y6];by_cases E:i=j
 ·subst E;rw[hi,c5,if_pos he,if_pos rfl,if_pos O]
 ·rw[if_neg E];cases U:acc[j]? with
  |none=>rfl
  |some y=>
   have:y.1≠g.1:=fun V=>E (by
    have h1:(acc.map (·.1))[i]? =some g.1:=by rw[x7,hi,c5,he]
    have W:(acc.map (·.1))[j]? =some g.1:=by rw[x7,U,c5,V]
    exact ip J h1 W)
   rw[c5,if_neg this]
theorem Ip {α β:Type} {f:β→α→β} {b:β} {l:List α} {i:Nat} {x:α} (h:l[i]? =some x):(l.take (i+1)).foldl f b=f ((l.take i).foldl f b) x:=by
 rw[u5,h,j5,List.foldl_append];rfl
def kA (w:x1) (k:Int) (sizes:List Int) (x:bL):Prop:=(∃ E,ak .i64 ab w E x.sv x.sc)∧ ∃ m o D,dG w x.g m (bK sizes x.sc) k o D∧D.length≤4096∧gy (bK sizes x.sc) (gw D o) x.cs
theorem kA.ext {x:bL} (h:kA w k sizes x) (J:Ext w w'):kA w' k sizes x:=by
 obtain⟨⟨E,h1⟩,m,o,D,O,U⟩:=h;exact⟨⟨E,h1.ext J⟩,m,o,D,O.ext J,U⟩
theorem kA.U {x:bL} (h:kA w k sizes x) (J:ad S w w') (W:∀ r,S r→ ∃ e c,aa w r e c∧e≠ez∧e≠ab):kA w' k sizes x:=by
 obtain⟨⟨ac,h1⟩,m,o,D,ae,af⟩:=h;obtain⟨sv,gs,V⟩:=ae.at;have Y:∀ {g:Nat} {v:y0} {l:List Int},ak .i64 ab w g v l→ ∀ r,leads v r→¬S r:=fun hm r ag O=>by
  obtain⟨e,c,E,_,X⟩:=W r O;exact bE hm E (fun he=>X he.symm) ag rfl
 refine⟨⟨ac,aZ h1 J (Y h1)⟩,m,o,D,(V.U J (fun O=>?_) (fun O=>?_) (Y V.2.1)).is,af⟩
 ·obtain⟨e,c,E,X,_⟩:=W _ O;have Z:=V.1;unfold aa at Z E;rw[Z] at E;exact X (Obj.cells.inj (b9 E)).2.1.symm
 ·obtain⟨e,c,E,_,_⟩:=W _ O;exact qp E V.2.2.1 rfl
def oe (w:x1) (g:Nat) (v:y0) (k:Int) (sizes:List Int) (L:List bL):Prop:=aT dB 2 bU w g v L∧ ∀ x∈L,kA w k sizes x
theorem oe.ext {g:Nat} {L:List bL} (h:oe w g v k sizes L) (J:Ext w w'):oe w' g v k sizes L:=⟨h.1.ext J,fun x E=>(h.2 x E).ext J⟩
def Iq (w:x1) (B E:Nat) (f:bu):Prop:=∃ szv J gz g L,aa w E bT [be f.name,.int .i64 f.k,szv,J]∧ak .i64 ab w gz szv f.sizes∧oe w g J f.k f.sizes L∧L.map df=ek f∧B≤E∧(∀ r,leads szv r→B≤r)∧ ∀ x∈L,∀ r,leads x.sv r→B≤r
theorem Ir {g ab:Nat} {L:List bL} {U:List Int} (h:dX w g v L) (ad:aa w ab al [sv]) (ae:ay .i64 w sv U):
  ag x5 vw [v,.func (.func vx) #[] #[.pointer (some ⟨ab,0,none⟩)]] w fun r w'=>Ext w w'∧((r= .int .i64 (-1)∧ ∀ x∈L,x.sc≠U)∨ ∃ i:Nat,r= .int .i64 (i:Int)∧ ∃ x,L[i]? =some x∧x.sc=U):=by
 refine ap func175 ?_;rw[dA eZ.u h.1];refine bO.range L.length (fun i _ W=>Ext w W∧ ∀ x∈L.take i,x.sc≠U) h.1.le ⟨Ext.refl _,fun c E=>by simp at E⟩ ?_ ?_
 ·rintro i _ W k hi ⟨J,X⟩ ah;refine bC (by omega) ?_;obtain⟨x,Y⟩:=aE (l:=L) hi;rw[qy rfl (h.ext J) Y];show ag x5 vx [h0 x,.pointer (some ⟨ab,0,none⟩)] W _;obtain⟨⟨ak,hm⟩,_⟩:=(h.ext J).at Y;refine ap func176 ?_;refine a7 fun ai V am O Z=>?_;have Z:aa V ai cj [x.sv,.pointer (some ⟨x.g,0,none⟩)]:=by
   obtain⟨_,_,_,e⟩:=cL hm.ls;simp only[h0,dB,e] at Z ⊢;exact Z
  rw[aP cj.p 0 Z rfl,av (by kernel_rfl) ((ad.ext (J.trans O)).cell (o:=0) rfl)];refine (Ec (hm.ls.ext O) (ae.ext (J.trans O))).mono ?_;rintro _ an _ ⟨rfl,ac⟩;rw[af];refine⟨fun he=>⟨(J.trans O).trans ac,.inr ⟨i,rfl,x,Y,he⟩⟩,fun aj=>?_⟩;rw[aB];refine ah _ _ ⟨(J.trans O).trans ac,fun c E=>?_⟩;rw[u5,Y] at E;rcases p8.1 E with E|E
  ·exact X c E
  ·simp at E;subst E;exact aj
 ·rintro _ W k ⟨J,X⟩;rw[o5] at X;rw[aC,af];exact⟨fun h=>by omega,fun _=>⟨J,.inl ⟨rfl,X⟩⟩⟩
def dH (f:bu) (i:Nat):List b1:=((f.funs.take i).map (fX f.sizes f.k)).foldl (gv f.k) []
theorem y6 {f:bu} (ae:dU N f) (i:Nat):(∀ g∈dH f i,eC f.sizes f.k g)∧gQ (dH f i)∧(dH f i).length≤i:=by
 have:=sR (sizes:=f.sizes) (k:=f.k) (by have:=ae.k.1;omega) (l:=(f.funs.take i).map (fX f.sizes f.k)) (acc:=[]) (fun h O=>by cases O) List.nodup_nil fun g U=>by
  obtain⟨x,J,rfl⟩:=o8.1 U;exact mG ae (List.mem_of_mem_take J)
 refine⟨this.1,this.2.1,?_⟩;have E:=this.2.2;rw[List.length_nil,r8,V0,o6] at E;exact Z3 E (Nat.min_le_left _ _)
theorem s8 {f:bu} {i:Nat} {x:bG} (h:f.funs[i]? =some x):dH f (i+1)=gv f.k (dH f i) (fX f.sizes f.k x):=by
 unfold dH;rw[u5,h,j5,j4,List.foldl_append];rfl
theorem y7 (f:bu):dH f f.funs.length=ec f:=by unfold dH ec;rw[o5]
theorem s9 {L:List bL} {i:Nat} {x:bL} {D:List b1} (h:L.map df=D) (J:L[i]? =some x):df x∈D:=by rw[←h];exact o8.2 ⟨x,x2 J,rfl⟩
def Is (w:x1) (f:bu) (v:y0) (w':x1):Prop:=Ext w w'∧((¬gR f.funs≤16384∧ ∃ e:Int,e≠0∧v= .tuple #[.pointer none,.int .i64 e])∨ ∃ E,v= .tuple #[.pointer (some ⟨E,0,none⟩),.int .i64 0]∧Iq w' w.heap.size E f)
theorem qD {g:Nat} {sc cs:List Int} (hm:ak .i64 ab w g sv sc):∀ u∈dB ⟨sv,E,sc,cs⟩,u.oneCell'=true:=fun u hu=>by
 simp[dB] at hu;rcases hu with rfl|rfl
 ·exact hm.ls.cells.2
 ·rfl
set_option maxHeartbeats 8000000 in
theorem It {cc:Nat} {f:bu} (cd:ji w cc f) (Y:dU N f) (ce:N≤60000) (dj:f.name≠[]∧ ∀ b∈f.name,bi b=true):
  ag x5 B1 [.pointer (some ⟨cc,0,none⟩)] w (Is w f):=by
 have bG:=Y.k;refine ap func102 ?_;refine (HO cd Y ce dj).mono ?_;rintro _ Z _ ⟨a6,e,rfl,he⟩;rw[bj,af];refine⟨fun cg=>⟨a6,.inl ⟨fun h=>cg (he h),e,cg,rfl⟩⟩,fun eM=>?_⟩;have ch:=cd.ext a6;obtain⟨szv,bb,gz,bH,ci,dk,bI,bc⟩:=id ch;have eN:bH.length≤256:=by rw[bc.1];exact Y.jb
 rw[aD bT.p 3 ci rfl,iZ cZ.u bI];refine bO.range bH.length (fun i l V=>∃ g L,Ext Z V∧dX V g l L∧Sem V f.k f.sizes L∧L.map df=dH f i∧(∀ r,leadsTo l r→Z.heap.size≤r)∧ ∀ x∈L,∀ r,leads x.sv r→Z.heap.size≤r) (rW bI)
  ⟨0,[],Ext.refl _,⟨aT.nil _ _ _ _ _,fun x J=>(by cases J)⟩,fun x J=>(by cases J),rfl,fun r O=>(ds O).elim,fun x J=>(by cases J)⟩ ?_ ?_
 ·rintro i l V dl hi ⟨g,L,ay,aR,bd,ae,am,aS⟩ dm;obtain⟨d,ck⟩:=aE (l:=bH) hi;obtain⟨x,bf⟩:∃ x,f.funs[i]? =some x:=⟨_,x4 (by have:=bc.1;omega)⟩;have cl:=x2 bf;have dn:=bc.2 i x d bf ck;have aA:=mG Y cl;obtain⟨dp,dq,eO⟩:=y6 Y i;have dr:L.length≤i:=by have cm:=congrArg V3 ae;rw[r8] at cm;omega
  refine bC (by omega) ?_;refine aI (fun l' bh=>∃ an aC,Ext Z bh∧dX bh an l' aC∧Sem bh f.k f.sizes aC∧aC.map df=dH f (i+1)∧(∀ r,leadsTo l' r→Z.heap.size≤r)∧ ∀ x∈aC,∀ r,leads x.sv r→Z.heap.size≤r) ?_ ?_
  ·rintro l' bh ⟨an,aC,h1,dt,du,dv,dw⟩;rw[aB];exact dm _ _ ⟨an,aC,h1,dt,du,dv,dw⟩
  intro eP cn;refine md (α:=fz) bU.p rfl cZ.u bU.i (dc bI ay) ck fun cs bJ=>?_;have cp:cs.length=2:=au.len bJ;refine bg bU.i fun eR eS eT dx dy=>?_;refine bP (vs:=cs) bU.i cp rfl (au.one bJ) dy fun dz dC eV dD=>?_;have ai:Ext V dz:=dx.put dC (by omega);rw[bn bU.p bU.i cp dD.range];refine (HY Y ce cl dn (dc bJ ai)).mono ?_;rintro _ dE _ ⟨dF,sv,gs,cq,dG,dI,rfl,eW,aG,cr⟩;rw[a8,ba];refine bg al.i fun dK eX eY dL dM=>?_;refine aY al.i aG.ls.cells.1 aG.ls.cells.2 dM (by simp[y0.cells]) fun cu dN e0 bk=>?_;have bM:Ext dE cu:=dL.put dN (by omega);have bk:aa cu dK al [sv]:=bk;rw[hM];have bN:=(ai.trans dF).trans bM;have e4:=bN.size;have e5:=ay.size;refine (Ir (aR.ext bN) bk (aG.ls.ext bM)).mono ?_;rintro _ e6 _ ⟨bl,O⟩;have bm:=bN.trans bl;have cw:=bM.trans bl;have bQ:=aG.ext cw;have cz:=cr.ext cw;have cB:=bk.ext bl;have cC:=aR.ext bm;have bR:=bd.ext bm;rcases O with⟨rfl,dO⟩|⟨cD,rfl,y,W,bo⟩
  ·refine bC (by omega) ?_;rw[av (by kernel_rfl) (cB.cell (o:=0) rfl),ct (cs:=#[sv,.pointer (some ⟨cq,0,none⟩)]) (by obtain⟨_,_,_,rfl⟩:=cL aG.ls;kernel_rfl)];let a:bL:=⟨sv,cq,aW x.scope,(fX f.sizes f.k x).2⟩;have bV:∀ u∈dB a,u.oneCell'=true:=qD bQ;refine eQ (f:=dB) (a:=a) eZ.u cj.i (by omega) rfl rfl fun e7 e8 dP e9 aH dQ=>?_;have aJ:=cC.ext aH;refine ff (f:=dB) (a:=a) eZ.u cj.i rfl aJ.1 (by simpa using dQ.sl) bV (by omega) (by omega) fun aU an fa aV bW aX=>?_;have cE:=bQ.ext aH;have bq:∀ {r:Nat},leadsTo l r→ ∃ c,aa dP r cj c:=fun O=>by
    obtain⟨rfl,c,X⟩:=c3 aJ.1 O;exact⟨c,X⟩
   refine cn _ _ ⟨an,L++[a],((ay.trans bm).trans aH).then aX (fun r O he=>by have:=am r he;omega),dX.mk aV fun z E=>?_,fun z E=>?_,?_,fun r O=>?_,fun z E r O=>?_⟩
   ·rcases p8.1 E with E|E
    ·have:=(aJ.2 z E).U aX fun r O he=>(aJ.2 z E).2.1 r O (aJ.1.leads he).1;exact⟨this.1,this.2.2⟩
    ·rw[p9.1 E];exact⟨⟨gs,aZ cE aX fun r O he=>by obtain⟨c,X⟩:=bq he;exact bE cE X (by decide) O rfl⟩,aA.scope⟩
   ·rcases p8.1 E with E|E
    ·exact (bR.ext aH).row aJ aX z E
    ·rw[p9.1 E];exact⟨dG,dI,sZ (cz.ext aH) aX fun r O=>bq O⟩
   ·rw[j4,ae,s8 bf,y5]
    ·rfl
    ·intro c ah dR;rw[←ae] at ah;obtain⟨z,E,rfl⟩:=o8.1 ah;exact dO z E dR
   ·rcases bW r O with h|h
    ·exact am r h
    ·have:=aH.size;have:=bl.size;omega
   ·rcases p8.1 E with E|E
    ·exact aS z E r O
    ·rw[p9.1 E] at O;have cm:=(bp aG O).1;have:=ai.size;omega
  ·refine cH (by omega) ?_;intro fb ao _ _;have bX:=cC.ext ao;have cF:=(x3.1 W).1;obtain⟨dS,dT,br⟩:=(bR.ext ao) y (x2 W);have cG:=cB.ext ao;have cI:=bQ.ext ao;have dV:=cz.ext ao;rw[cM rfl eZ.u cj.i bX.1 cF,aF cj.p rfl,av (by kernel_rfl) (bX.1.range W 1 _ rfl),av (by kernel_rfl) (cG.cell (o:=0) rfl),av (by kernel_rfl) (cG.cell (o:=0) rfl)];have aK:eC f.sizes f.k (df y):=dp _ (s9 ae W);rw[bo] at br;have cJ:∀ {c:Int},0≤c∧c≤f.k→cv c f.k:=fun h=>⟨bG,h.1,h.2⟩;refine (H9 br dV cI.ls cI.ls bG (fun c ah=>cJ (aK.iu c ah)) (fun c ah=>cJ (aA.iu c ah))).mono ?_;intro fc cK _ dW;have dY:y.cs.length=(az (bK f.sizes (aW x.scope))).toNat:=by have:=aK.len;rw[show (df y).1=y.sc from rfl,bo] at this;exact this
   have dZ:bD (bK f.sizes (aW x.scope)):=cr.2.2.1;obtain⟨bY,cN,cO,cP,fd,rfl,ea⟩:=If aA.up (fun v ac=>(aA.scope.1 v ac).1) (by simp[bK];rfl) dZ aA.small dY aA.len dW;rw[e1,e2,e3];have aq:=bX.ext bY;rw[cM rfl eZ.u cj.i aq.1 cF,aF cj.p rfl];let a:bL:=⟨y.sv,cN,y.sc,dh f.k y.cs (fX f.sizes f.k x).2⟩;refine mB (f:=dB) (j:=1) (a:=y) (a':=a) dJ.i rfl rfl aq.1 W rfl (by omega) fun eb bt fe ec=>?_;have bq:∀ {r:Nat},leadsTo l r→ ∃ c,aa cK r cj c:=fun O=>by
    obtain⟨rfl,c,X⟩:=c3 aq.1 O;exact⟨c,X⟩
   refine cn _ _ ⟨g,L.set cD a,((ay.trans bm).trans (ao.trans bY)).then bt (fun r O he=>by have:=am r he;omega),dX.mk ec fun z E=>?_,fun z E=>?_,?_,am,fun z E=>?_⟩
   ·have cQ:∀ z∈L,(∃ bZ,ak .i64 ab eb bZ z.sv z.sc)∧hZ z.sc:=fun z E=>by
     have:=(aq.2 z E).U bt fun r O he=>(aq.2 z E).2.1 r O (aq.1.leads he).1;exact⟨this.1,this.2.2⟩
    rcases W3 E with E|rfl
    ·exact cQ z E
    ·exact cQ y (x2 W)
   ·rcases W3 E with E|rfl
    ·exact ((bR.ext ao).ext bY).row aq bt z E
    ·refine⟨cO,cP,sZ ?_ bt fun r O=>bq O⟩;show cA cK cN cO cP (bK f.sizes y.sc) f.k _;rw[bo];exact ea
   ·rw[List.map_set,ae,s8 bf,Io (g:=fX f.sizes f.k x) dq (i:=cD) (h:=df y) (by rw[←ae,x7,W];rfl) bo];rfl
   ·rcases W3 E with E|rfl
    ·exact aS z E
    ·exact aS y (x2 W)
 ·rintro l V dl ⟨g,L,ay,aR,bd,ae,am,aS⟩;refine cH (by omega) ?_;rw[bc.1,y7] at ae;have dr:L.length≤256:=by
   have:=(iv Y).2.2;rw[←ae,r8] at this;have:=Y.jb;omega
  refine (H3 aR bd (by omega)).mono ?_;rintro fg cR _ ⟨cS,cT,ed⟩;have ee:Ext Z cR:=ay.then cS fun r O he=>by have:=am r he;omega
  have ef:Sem cR f.k f.sizes (L.filter eU):=fun z E=>(bd.row aR cS) z (List.mem_filter.1 E).1;have fh:(L.filter eU).length≤L.length:=List.length_filter_le _ _;refine (HV cT (by omega)).mono ?_;rintro _ cU _ ⟨cV,M,bw,eg,cW⟩;have eh:Ext Z cU:=ee.then cV fun r O he=>by have:=am r (ed r he);omega
  have cX:Sem cU f.k f.sizes M:=fun z E=>(ef.row cT cV) z (bw.mem_iff.1 E);have fi:M.length≤256:=by rw[bw.length_eq];omega
  have ei:∀ x∈M,∀ r,leads x.sv r→Z.heap.size≤r:=fun x J=>aS x (List.mem_filter.1 (bw.mem_iff.1 J)).1;have cY:M.map df=ek f:=by
   refine GV Y ?_ ?_
   ·refine (bw.map df).trans ?_;rw[←ae,List.filter_map];exact .refl _
   ·rw[List.pairwise_map];refine X6.2 fun p q ej c0 em=>?_;exact eg p q _ _ (Z5 _) em c0 (x4 ej) (x4 c0)
  intro fj bx _ _;have aL:=eh.trans bx;have fk:=ch.ext aL;have b1:=ci.ext aL;rw[aD bT.p 0 b1 rfl,aD bT.p 1 b1 rfl,aD bT.p 2 b1 rfl];refine (ij (dk.ls.ext aL) (by have:=Y.sizes.2.1;omega)).mono ?_;rintro a1 c1 _ ⟨aw,en,fm,b2⟩;refine⟨.inl aw,?_⟩;rw[ct (cs:=#[be f.name,.int .i64 f.k,a1,.slice none 0 0]) (by obtain⟨_,_,_,rfl⟩:=cL b2.ls;kernel_rfl)];refine a7 fun ax eo fo bz b3=>?_;have b3:aa eo ax bT [be f.name,.int .i64 f.k,a1,.slice none 0 0]:=b3;have fp:=(aL.trans aw).trans bz;have ep:=((cW.ext bx).ext aw).ext bz;have fq:=((cX.ext bx).ext aw).ext bz;rw[dA eZ.u ep.1];refine bS.range M.length (fun i aM=>∃ bb gr aj,Ext c1 aM∧aa aM ax bT [be f.name,.int .i64 f.k,a1,bb]∧oe aM gr bb f.k f.sizes aj∧aj.map df=(M.take i).map df∧aj.length=i∧(∀ r,leadsTo bb r→c1.heap.size≤r)∧ ∀ x∈aj,∀ r,leads x.sv r→Z.heap.size≤r) (by omega)
   ⟨_,0,[],bz,b3,⟨aT.nil _ _ _ _ _,fun x J=>(by cases J)⟩,rfl,rfl,fun r O=>(ds O).elim,fun x J=>(by cases J)⟩ ?_ ?_
  rotate_left
  ·rintro aM er ⟨a2,gr,aj,aN,aO,b4,bA,_,_,b5⟩;rw[o5,cY] at bA;refine cH (by omega) ?_;have fs:=a6.size;have ft:=aL.size;have fu:=aw.size;exact⟨(a6.trans (aL.trans aw)).trans aN,.inr ⟨ax,rfl,a1,a2,en,gr,aj,aO,b2.ext aN,b4,bA,by omega,fun r O=>by have:=(bp b2 O).1;omega,fun x J r O=>by have:=b5 x J r O;omega⟩⟩
  rintro i aM er hi ⟨a2,gr,aj,aN,aO,b4,bA,es,c2,b5⟩ et;obtain⟨y,W⟩:=aE (l:=M) hi;have c4:=(bx.trans aw).trans aN;have c5:=cW.ext c4;have c6:=c5.at W;obtain⟨dS,dT,br⟩:=(cX.ext c4) y (x2 W);have aK:eC f.sizes f.k (df y):=ql Y _ (s9 cY W);refine bC (by omega) ?_;rw[qy rfl c5 W];refine bg cj.i fun fv fw fx eu ev=>?_;refine bP (vs:=dB y) cj.i rfl rfl c6.one ev fun ew ey fy eA=>?_;have eB:Ext aM ew:=eu.put ey (by omega);intro fA c7 _ _;have b6:=eB.trans c7;have c8:=eA.ext c7;have eD:=aO.ext b6;rw[aD bT.p 3 eD rfl,aP cj.p 0 c8 rfl,aP cj.p 1 c8 rfl];refine (In (br.ext b6) fun c ah=>⟨bG,(aK.iu c ah).1,(aK.iu c ah).2⟩).mono ?_;rintro _ fB _ ⟨b7,gT,m,o,D,rfl,eE,eF,eH,_⟩;refine⟨.inl b7,?_⟩;have c9:=b6.trans b7;obtain⟨⟨bZ,da⟩,_,fC⟩:=c6;have db:=da.ext c9;rw[ct (cs:=#[y.sv,.pointer (some ⟨gT,0,none⟩)]) (by obtain⟨_,_,_,e⟩:=cL da.ls;rw[e];kernel_rfl)];let a:bL:=⟨y.sv,gT,y.sc,y.cs⟩;have bV:∀ u∈dB a,u.oneCell'=true:=qD db;refine eQ (f:=dB) (a:=a) cZ.u bU.i (by omega) rfl rfl fun v25 fD b8 fE ai eI=>?_;refine⟨.inl (b7.trans ai),?_⟩;have aQ:=c9.trans ai;have bF:=b4.ext aQ;refine ff (f:=dB) (a:=a) cZ.u bU.i rfl bF.1 (by simpa using eI.sl) bV (by omega) (by omega) fun aU an eJ aV bW dd=>?_;have fF:=aN.size;have fG:=aQ.size;have ca:aa eJ ax bT [be f.name,.int .i64 f.k,a1,a2]:=(aO.ext aQ).U dd fun he=>by
   obtain⟨rfl,c,X⟩:=c3 bF.1 he;have h1:=aO.ext aQ;unfold aa at X h1;rw[h1] at X;exact absurd (Obj.cells.inj (b9 X)).2.1 (by decide)
  rw[bB,aF bT.p rfl];have de:aU.cells= #[aU]∧aU.oneCell'=true:=by
   obtain⟨_,_,_,_,_,rfl,_⟩:=aV.sl;exact⟨rfl,rfl⟩
  refine aY cZ.i de.1 de.2 ca (by simp) fun eK dg fH eL=>?_;rw[aB];have cb:ad (fun r=>r=ax∨leadsTo a2 r) b8 eK:=(dd.mono fun r _ h=>.inr h).trans (dg.mono fun r _ h=>.inl h);have di:∀ r,(r=ax∨leadsTo a2 r)→ ∃ e c,aa b8 r e c∧e≠ez∧e≠ab:=fun r O=>by
   rcases O with rfl|O
   ·exact⟨_,_,aO.ext aQ,by decide,by decide⟩
   ·obtain⟨rfl,c,X⟩:=c3 bF.1 O;exact⟨_,c,X,by decide,by decide⟩
  refine et _ ⟨aU,an,aj++[a],?_,eL,⟨aV.U dg fun r O he=>?_,fun z E=>?_⟩,?_,by rw[u7,es];rfl,fun r O=>?_,fun z E=>?_⟩
  ·exact (aN.trans aQ).then cb fun r O he=>by
    rcases he with rfl|he
    ·omega
    ·have:=c2 r he;omega
  ·have he:r=ax:=he;subst he;obtain⟨rfl,c,X⟩:=c3 aV O;unfold aa at X ca;rw[ca] at X;exact absurd (Obj.cells.inj (b9 X)).2.1 (by decide)
  ·rcases p8.1 E with E|E
   ·exact (bF.2 z E).U cb di
   ·rw[p9.1 E];refine kA.U (w:=b8) ⟨⟨bZ,db.ext ai⟩,m,o,D,eE.ext ai,?_,eH⟩ cb di;have:=aK.small;exact Z3 eF (by show (az (bK f.sizes (df y).1)).toNat≤4096;omega)
  ·rw[j4,bA,u5,W,j4];rfl
  ·rcases bW r O with h|h
   ·exact c2 r h
   ·omega
  ·rcases p8.1 E with E|E
   ·exact b5 z E
   ·rw[p9.1 E];exact ei y (x2 W)
theorem ed {E:u9} {c J:List y0} (h:aa w r e c) (h':aa w r E J):e=E:=by
 unfold aa at h h';rw[h] at h';exact (Obj.cells.inj (b9 h')).2.1
theorem cb {α:Type} {f:α→List y0} {k:Nat} {E:u9} {g J:Nat} {L:List α} (h:aT f k e w g v L) (O:aa w J E cs) (U:e≠E):¬leadsTo v J:=fun V=>by
 obtain⟨rfl,c,W⟩:=c3 h V;exact U (ed W O)
structure eV where
 v:y0
 l:List Int
def h2 (h:eV):List y0:=[h.v]
def fA (w:x1) (g:Nat) (v:y0) (aG:List eV):Prop:=aT h2 1 an w g v aG∧ ∀ h∈aG,∃ E,ak .i64 aj w E h.v h.l
theorem fA.ext {g:Nat} {aG:List eV} (h:fA w g v aG) (J:Ext w w'):fA w' g v aG:=⟨h.1.ext J,fun x E=>by
 obtain⟨O,hm⟩:=h.2 x E;exact⟨O,hm.ext J⟩⟩
theorem fA.og {g:Nat} {aG:List eV} (h:fA w g v aG) (J:ad S w w') (O:∀ r,S r→ ∃ e c,aa w r e c∧e≠aj):∀ h∈aG,∃ E,ak .i64 aj w' E h.v h.l:=fun x U=>by
 obtain⟨E,hm⟩:=h.2 x U;exact⟨E,aZ hm J fun r V W=>by
  obtain⟨e,c,X,Y⟩:=O r W;exact bE hm X (fun he=>Y he.symm) V rfl⟩
theorem fA.U {g:Nat} {aG:List eV} (h:fA w g v aG) (V:ad S w w') (W:∀ r,S r→ ∃ e c,aa w r e c∧e≠aj∧e≠an):fA w' g v aG:=
 ⟨h.1.U V fun r E X=>by
  obtain⟨e,c,J,_,O⟩:=W r X;exact cb h.1 J (fun he=>O he.symm) E,h.og V fun r E=>by
  obtain⟨e,c,J,O,_⟩:=W r E;exact⟨e,c,J,O⟩⟩
def lx (w:x1) (k:Int) (sizes:List Int) (x:bL):Prop:=(∃ E,ak .i64 ab w E x.sv x.sc)∧ ∃ J O,cA w x.g J O (bK sizes x.sc) k x.cs
theorem lx.ext {x:bL} (h:lx w k sizes x) (J:Ext w w'):lx w' k sizes x:=by
 obtain⟨⟨E,h1⟩,O,U,V⟩:=h;exact⟨⟨E,h1.ext J⟩,O,U,V.ext J⟩
theorem y8 {g Y:Nat} {Z:y0} {cs:List Int} (h:cA w g Y Z ai k cs) (V:ad S w w') (W:∀ r,S r→ ∃ e c,aa w r e c∧e≠ci∧e≠ab∧e≠aj):cA w' g Y Z ai k cs:=by
 obtain⟨⟨aJ,gs,h1,ac,ae⟩,af⟩:=h;refine⟨⟨aJ,gs,h1.U V fun E=>?_,aZ ac V fun r X E=>?_,aZ ae V fun r X E=>?_⟩,af⟩
 ·obtain⟨e,c,J,O,_⟩:=W g E;exact O (ed J h1)
 ·obtain⟨e,c,J,_,O,_⟩:=W r E;exact bE ac J (fun he=>O he.symm) X rfl
 ·obtain⟨e,c,J,_,_,O⟩:=W r E;exact bE ae J (fun he=>O he.symm) X rfl
theorem lx.U {x:bL} (h:lx w k sizes x) (E:ad S w w') (J:∀ r,S r→ ∃ e c,aa w r e c∧e≠ci∧e≠ab∧e≠aj):lx w' k sizes x:=by
 obtain⟨⟨O,h1⟩,V,W,X⟩:=h;refine⟨⟨O,aZ h1 E fun r Y Z=>?_⟩,V,W,y8 X E J⟩;obtain⟨e,c,ac,_,ae,_⟩:=J r Z;exact bE h1 ac (fun he=>ae he.symm) Y rfl
def ly (w:x1) (g:Nat) (v:y0) (k:Int) (sizes:List Int) (L:List bL):Prop:=aT dB 2 fJ w g v L∧ ∀ x∈L,lx w k sizes x
theorem ly.ext {g:Nat} {L:List bL} (h:ly w g v k sizes L) (J:Ext w w'):ly w' g v k sizes L:=⟨h.1.ext J,fun x E=>(h.2 x E).ext J⟩
theorem ly.U {g:Nat} {L:List bL} (h:ly w g v k sizes L) (W:ad S w w') (X:∀ r,S r→ ∃ e c,aa w r e c∧e≠fJ∧e≠ci∧e≠ab∧e≠aj):ly w' g v k sizes L:=
 ⟨h.1.U W fun r E Y=>by
  obtain⟨e,c,O,V,_⟩:=X r Y;exact cb h.1 O (fun he=>V he.symm) E,fun x J=>(h.2 x J).U W fun r E=>by
  obtain⟨e,c,O,_,V⟩:=X r E;exact⟨e,c,O,V⟩⟩
def eE (w:x1) (U:Nat) (n:aV):Prop:=∃ E J O V gr aG L nm szv gz fv2,aa w U ey [.pointer (some ⟨E,0,none⟩),.int .i64 n.zero,J,O]∧aa w E bT [nm,.int .i64 n.k,szv,fv2]∧ak .i64 ab w gz szv n.sizes∧
 fA w V J aG∧aG.map (·.l)=n.unary∧ly w gr O n.k n.sizes L∧L.map df=n.funs
theorem eE.ext {n:aV} (h:eE w E n) (J:Ext w w'):eE w' E n:=by
 obtain⟨O,U,V,W,gr,aG,L,nm,szv,gz,fv2,h1,X,Y,Z,aa,ab,ac⟩:=h;exact⟨O,U,V,W,gr,aG,L,nm,szv,gz,fv2,h1.ext J,X.ext J,Y.ext J,Z.ext J,aa,ab.ext J,ac⟩
def oh (w:x1) (B:Nat) (k:Int) (sizes:List Int) (x:bL):Prop:=(∃ O,ak .i64 ab w O x.sv x.sc)∧(∃ E J,cA w x.g E J (bK sizes x.sc) k x.cs∧B≤E∧ ∀ r,leads J r→B≤r)∧B≤x.g∧ ∀ r,leads x.sv r→B≤r
theorem oh.U {x:bL} (h:oh w B k sizes x) (E:ad S w w') (J:∀ r,S r→ ∃ e c,aa w r e c∧e≠ci∧e≠ab∧e≠aj):oh w' B k sizes x:=by
 obtain⟨⟨O,h1⟩,⟨V,W,X,Y⟩,Z⟩:=h;refine⟨⟨O,aZ h1 E fun r ac ae=>?_⟩,⟨V,W,y8 X E J,Y⟩,Z⟩;obtain⟨e,c,af,_,ag,_⟩:=J r ae;exact bE h1 af (fun he=>ag he.symm) ac rfl
def jR (w:x1) (B g:Nat) (v:y0) (k:Int) (sizes:List Int) (L:List bL):Prop:=aT dB 2 fJ w g v L∧ ∀ x∈L,oh w B k sizes x
theorem jR.ext {g:Nat} {L:List bL} (h:jR w B g v k sizes L) (J:Ext w w'):jR w' B g v k sizes L:=⟨h.1.ext J,fun x E=>(h.2 x E).U (J.U fun _=>False) fun _ h=>h.elim⟩
theorem jR.U {g:Nat} {L:List bL} (h:jR w B g v k sizes L) (W:ad S w w') (X:∀ r,S r→ ∃ e c,aa w r e c∧e≠fJ∧e≠ci∧e≠ab∧e≠aj):jR w' B g v k sizes L:=
 ⟨h.1.U W fun r E Y=>by
  obtain⟨e,c,O,V,_⟩:=X r Y;exact cb h.1 O (fun he=>V he.symm) E,fun x J=>(h.2 x J).U W fun r E=>by
  obtain⟨e,c,O,_,V⟩:=X r E;exact⟨e,c,O,V⟩⟩
theorem y9:∃ o:Obj,eK o=false:=⟨.deferred none,rfl⟩
theorem ghost (w:x1) (B:Nat):∃ w0,Ext w0 w∧ad (fun r=>r<B) w w0∧ ∀ r o,w0.heap[r]? =some o→eK o=true→B≤r:=by
 obtain⟨cD,U⟩:=y9;have O:∀ r,(w.heap.mapIdx fun r o=>if r<B then cD else o)[r]? =(w.heap[r]?).map fun o=>if r<B then cD else o:=fun r=>by simp
 refine⟨{w with heap:=w.heap.mapIdx fun r o=>if r<B then cD else o},⟨by simp,fun r o E J=>?_⟩,⟨by simp,fun r o E J V=>?_⟩,fun r o E J=>?_⟩
 ·have E:(w.heap.mapIdx fun r o=>if r<B then cD else o)[r]? =some o:=E;rw[O] at E;cases h:w.heap[r]? with
  |none=>rw[h] at E;cases E
  |some o'=>
   rw[h] at E;simp only[c5,b8] at E;split at E
   ·subst E;rw[U] at J;cases J
   ·rw[E]
 ·show (w.heap.mapIdx fun r o=>if r<B then cD else o)[r]? =some o;rw[O,E,c5,if_neg V]
 ·have E:(w.heap.mapIdx fun r o=>if r<B then cD else o)[r]? =some o:=E;rw[O] at E;cases h:w.heap[r]? with
  |none=>rw[h] at E;cases E
  |some o'=>
   rw[h] at E;simp only[c5,b8] at E;split at E
   ·subst E;rw[U] at J;cases J
   ·omega
def qE (B:Nat) (w:x1) (E:Nat) (n:aV):Prop:=∃ w0,eE w0 E n∧Ext w0 w∧ ∀ r o,w0.heap[r]? =some o→eK o=true→B≤r
theorem qE.at {n:aV} (h:qE B w E n):eE w E n:=by
 obtain⟨_,h1,J,_⟩:=h;exact h1.ext J
theorem Iu {Z V ad gr gz:Nat} {n:aV} {W X nm fv2:y0} {aG:List eV} {L:List bL} (h1:aa w Z ey [.pointer (some ⟨V,0,none⟩),.int .i64 n.zero,W,X]) (ae:aa w V bT [nm,.int .i64 n.k,szv,fv2]) (aj:ak .i64 ab w gz szv n.sizes)
  (af:fA w ad W aG) (al:aG.map (·.l)=n.unary) (ag:jR w B gr X n.k n.sizes L) (am:L.map df=n.funs) (an:B≤Z) (ao:B≤V) (ap:∀ r,leads szv r→B≤r) (ah:∀ r,leadsTo W r∨leadsTo X r→B≤r) (aq:∀ h∈aG,∀ r,leads h.v r→B≤r):qE B w Z n:=by
 obtain⟨w0,J,E,au⟩:=ghost w B;have no:∀ {r:Nat},B≤r→¬r<B:=fun h ae=>by omega
 have Y:∀ {e:u9} {g:Nat} {v:y0} {l:List Int},ak .i64 e w g v l→(∀ r,leads v r→B≤r)→ak .i64 e w0 g v l:=fun h av=>aZ h E fun r O=>no (av r O);refine⟨w0,⟨V,W,X,ad,gr,aG,L,nm,szv,gz,fv2,h1.U E (no an),ae.U E (no ao),Y aj ap,⟨af.1.U E fun r O=>no (ah r (.inl O)),fun h ai=>?_⟩,al,⟨ag.1.U E fun r O=>no (ah r (.inr O)),fun x J=>?_⟩,am⟩,J,au⟩
 ·obtain⟨ac,hm⟩:=af.2 h ai;exact⟨ac,Y hm (aq h ai)⟩
 ·obtain⟨⟨ac,aw⟩,⟨ax,ay,⟨⟨aJ,gs,az,aA,t3⟩,t4⟩,aE,aB⟩,aC,aD⟩:=ag.2 x J;exact⟨⟨ac,Y aw aD⟩,ax,ay,⟨aJ,gs,az.U E (no aC),Y aA aB,aZ t3 E fun r O=>no (by have:=(bp t3 O).1;omega)⟩,t4⟩
def gU (n:aV) (g:b1):aV:=match g.1 with
 |[]=>{n with zero:=g.2.getD 0 0}
 |[v]=>{n with unary:=n.unary.set v.toNat g.2}
 |_=>{n with funs:=n.funs++[g]}
def za (f:bu):aV:=⟨f.k,f.sizes,0,f.sizes.map fun z=>u6 z.toNat 0,[]⟩
theorem Iv (f:bu):dm f=(ek f).foldl gU (za f):=rfl
def cW (f:bu) (i:Nat):aV:=((ek f).take i).foldl gU (za f)
theorem ta {f:bu} {i:Nat} {g:b1} (h:(ek f)[i]? =some g):cW f (i+1)=gU (cW f i) g:=Ip h
theorem oi (f:bu):cW f (ek f).length=dm f:=by unfold cW;rw[o5,Iv]
theorem Iw (n:aV) (g:b1):(gU n g).k=n.k∧(gU n g).sizes=n.sizes∧(gU n g).unary.length=n.unary.length∧(gU n g).funs.length≤n.funs.length+1:=by
 unfold gU;split
 ·exact⟨rfl,rfl,rfl,Nat.le_succ _⟩
 ·exact⟨rfl,rfl,by simp,Nat.le_succ _⟩
 ·exact⟨rfl,rfl,rfl,by simp⟩
theorem lz (f:bu):∀ i,(cW f i).k=f.k∧(cW f i).sizes=f.sizes∧(cW f i).unary.length=f.sizes.length∧(cW f i).funs.length≤i
 |0=>⟨rfl,rfl,by show (f.sizes.map _).length=_;simp,Z5 _⟩
 |i+1=>by
  have E:=lz f i;cases J:(ek f)[i]? with
  |none=>
   have O:=List.getElem?_eq_none_iff.1 J;have e:cW f (i+1)=cW f i:=by unfold cW;rw[Z0 (by omega),Z0 O]
   rw[e];exact⟨E.1,E.2.1,E.2.2.1,by omega⟩
  |some g=>
   rw[ta J];obtain⟨h1,U,V,W⟩:=Iw (cW f i) g;exact⟨h1.trans E.1,U.trans E.2.1,V.trans E.2.2.1,by omega⟩
def Ix (w:x1) (f:bu) (v:y0) (w':x1):Prop:=Ext w w'∧((¬gR f.funs≤16384∧ ∃ e:Int,e≠0∧v= .tuple #[.pointer none,.int .i64 e])∨ ∃ E,v= .tuple #[.pointer (some ⟨E,0,none⟩),.int .i64 0]∧qE w.heap.size w' E (dm f))
theorem cF {k:Nat} (h:bM w k v n cs):v.cells= #[v]∧v.oneCell'=true:=by
 obtain⟨_,_,_,_,_,rfl,_⟩:=h;exact⟨rfl,rfl⟩
set_option maxHeartbeats 8000000 in
theorem Iy {cl:Nat} {f:bu} (cQ:ji w cl f) (aw:dU N f) (cR:N≤60000) (cS:f.name≠[]∧ ∀ b∈f.name,bi b=true):
  ag x5 Bx [.pointer (some ⟨cl,0,none⟩)] w (Ix w f):=by
 have dT:=aw.k;refine ap func25 ?_;refine (It cQ aw cR cS).mono ?_;rintro _ ai _ ⟨aU,⟨cT,e,he,rfl⟩|⟨aV,rfl,cU⟩⟩
 ·rw[a8,ba,bj,af];exact⟨fun _=>⟨aU,.inl ⟨cT,e,he,rfl⟩⟩,fun h=>absurd he h⟩
 rw[a8,ba,bj,af];refine⟨fun h=>absurd rfl h,fun _=>?_⟩;obtain⟨szv,cV,gz,dV,M,bI,bJ,cm,bl,cY,c0,c1⟩:=id cU;have dW:M.length≤256:=by
  have h1:=(mH aw).2.length_eq;have aQ:=(iv aw).2.2;have aR:=List.length_filter_le ej (ec f);have bm:=aw.jb;have dX:M.length=(ek f).length:=by rw[←bl,r8]
  omega
 have dY:=aw.sizes.2.1;rw[ct (cs:=#[.pointer (some ⟨aV,0,none⟩),.int .i64 0,.slice none 0 0,.slice none 0 0]) (by kernel_rfl)];refine a7 fun ac V dZ bM bN=>?_;have bN:aa V ac ey [.pointer (some ⟨aV,0,none⟩),.int .i64 0,.slice none 0 0,.slice none 0 0]:=bN;rw[aD bT.p 2 (bI.ext bM) rfl,aK al.u (bJ.ls.ext bM)];refine bS.range f.sizes.length (fun i aW=>∃ O ae aG,Ext ai aW∧aa aW ac ey [.pointer (some ⟨aV,0,none⟩),.int .i64 0,O,.slice none 0 0]∧fA aW ae O aG∧aG.map (·.l)=(f.sizes.take i).map (fun z=>u6 z.toNat 0)∧(∀ r,leadsTo O r→ai.heap.size≤r)∧ ∀ h∈aG,∀ r,leads h.v r→ai.heap.size≤r) (by omega)
  ⟨_,0,[],bM,bN,⟨aT.nil _ _ _ _ _,fun x J=>(by cases J)⟩,rfl,fun r E=>(ds E).elim,fun x J=>(by cases J)⟩ ?_ ?_
 ·rintro i aW c2 hi ⟨O,ae,aG,aI,bo,bO,aX,bq,am⟩ c4;obtain⟨z,X⟩:=aE (l:=f.sizes) hi;have ea:=aw.sizes.2.2 z (x2 X);have eb:aG.length=i:=by have:=congrArg V3 aX;simp only[r8,o6] at this;omega
  refine bC (by omega) ?_;rw[a1 al.u ab.i (by kernel_rfl) (bJ.ls.ext aI) X];intro ed bQ _ _;have c5:=bo.ext bQ;rw[aD ey.p 2 c5 rfl];obtain⟨aJ,rfl⟩:∃ n:Nat,z=n:=⟨z.toNat,by omega⟩;refine ih (k:=.i64) an.u aj.i (by omega) (by omega) fun br c6 ee bR c7=>?_;refine⟨.inl bR,?_⟩;have cn:ak .i64 aj c6 br (.slice (some ⟨br,0,none⟩) aJ aJ) (u6 aJ 0):=ak.of (bz.full (k:=1) (n:=aJ) c7 (by simp) (by simp[maxLen];omega));let a:eV:=⟨.slice (some ⟨br,0,none⟩) aJ aJ,u6 aJ 0⟩;refine eQ (f:=h2) (a:=a) eY.u an.i (by omega) rfl rfl fun ef eg bV eh bW c8=>?_;refine⟨.inl (bR.trans bW),?_⟩;have bt:=(bQ.trans bR).trans bW;have bw:=bO.ext bt;refine ff (f:=h2) (a:=a) eY.u an.i rfl bw.1 (by simpa using c8.sl) (fun u hu=>by rw[p9.1 (show u∈[a.v] from hu)];rfl) (by omega) (by omega) fun bX bY ei ao bZ cp=>?_;have a2:∀ {r:Nat},leadsTo O r→ ∃ c,aa bV r an c:=fun E=>by
   obtain⟨rfl,c,W⟩:=c3 bw.1 E;exact⟨c,W⟩
  have b1:=bo.ext bt;have cq:=b1.U cp fun he=>cb bw.1 b1 (by decide) he;rw[bB,aF ey.p rfl];refine aY eY.i (cF ao.sl).1 (cF ao.sl).2 cq (by simp) fun c9 cr em da=>?_;rw[aB];have b2:ad (fun r=>leadsTo O r∨r=ac) bV c9:=(cp.mono fun r _ h=>.inl h).trans (cr.mono fun r _ h=>.inr h);have ax:∀ r,(leadsTo O r∨r=ac)→ ∃ e c,aa bV r e c∧e≠aj:=fun r E=>by
   rcases E with E|rfl
   ·obtain⟨c,W⟩:=a2 E;exact⟨_,c,W,by decide⟩
   ·exact⟨_,_,b1,by decide⟩
  have cu:=aU.size;have z3:=aI.size;have en:=bt.size;refine c4 _ ⟨bX,bY,aG++[a],(aI.trans bt).then b2 (fun r E he=>?_),da,⟨ao.U cr fun r E he=>?_,fun y Y=>?_⟩,?_,fun r E=>?_,fun y Y r E=>?_⟩
  ·rcases he with he|rfl
   ·have:=bq r he;omega
   ·omega
  ·have he:r=ac:=he;subst he;exact cb ao cq (by decide) E
  ·rcases p8.1 Y with Y|Y
   ·exact bw.og b2 ax y Y
   ·rw[p9.1 Y];have cw:=cn.ext bW;exact⟨br,aZ cw b2 fun r E b3=>by
     obtain⟨e,c,W,db⟩:=ax r b3;exact bE cw W (fun he=>db he.symm) E rfl⟩
  ·rw[j4,aX,u5,X,j5,j4];rfl
  ·rcases bZ r E with h|h
   ·exact bq r h
   ·omega
  ·rcases p8.1 Y with Y|Y
   ·exact am y Y r E
   ·rw[p9.1 Y] at E;have dc:=(bp cn E).1;have:=bQ.size;omega
 ·rintro aW c2 ⟨O,ae,aG,aI,bo,bO,aX,bq,am⟩;refine cH (by omega) ?_;rw[o5] at aX;have dd:=bI.ext aI;have de:=cm.ext aI;rw[aD bT.p 3 dd rfl,dA cZ.u de.1];refine bS.range M.length (fun i aL=>∃ O Z ae gr aG L,Ext ai aL∧aa aL ac ey [.pointer (some ⟨aV,0,none⟩),.int .i64 (cW f i).zero,O,Z]∧fA aL ae O aG∧aG.map (·.l)=(cW f i).unary∧jR aL w.heap.size gr Z f.k f.sizes L∧L.map df=(cW f i).funs∧(∀ r,leadsTo O r∨leadsTo Z r→ai.heap.size≤r)∧ ∀ h∈aG,∀ r,leads h.v r→ai.heap.size≤r) (by omega)
   ⟨O,_,ae,0,aG,[],aI,bo,bO,aX,⟨aT.nil _ _ _ _ _,fun x J=>(by cases J)⟩,rfl,fun r E=>E.elim (bq r) fun h=>(ds h).elim,am⟩ ?_ ?_
  rotate_left
  ·rintro aL dg ⟨O,Z,ae,gr,aG,L,aq,bx,b4,aM,b5,aN,ay,am⟩;refine cH (by omega) ?_;have dh:M.length=(ek f).length:=by rw[←bl,r8]
   have a6:=lz f M.length;rw[dh,oi] at bx aM aN a6;have cu:=aU.size;refine⟨aU.trans aq,.inr ⟨ac,rfl,Iu (gr:=gr) (nm:=be f.name) (szv:=szv) (gz:=gz) (fv2:=cV) bx ?_ ?_ b4 aM ?_ aN (by omega) cY c0 (fun r E=>by have:=ay r E;omega) fun h di r E=>by have:=am h di r E;omega⟩⟩
   ·rw[a6.1];exact bI.ext aq
   ·rw[a6.2.1];exact bJ.ext aq
   ·rw[a6.1,a6.2.1];exact b5
  rintro i aL dg hi ⟨O,Z,ae,gr,aG,L,aq,bx,b4,aM,b5,aN,ay,am⟩ dj;obtain⟨y,Y⟩:=aE (l:=M) hi;have dk:(ek f)[i]? =some (df y):=by rw[←bl,x7,Y];rfl
  have bA:eC f.sizes f.k (df y):=ql aw _ (s9 bl Y);have b6:=cm.ext aq;obtain⟨eo,ep,er,es⟩:=lz f i;refine bC (by omega) ?_;refine cX (fun bb=>∃ O Z ae gr aG L,Ext ai bb∧aa bb ac ey [.pointer (some ⟨aV,0,none⟩),.int .i64 (cW f (i+1)).zero,O,Z]∧fA bb ae O aG∧aG.map (·.l)=(cW f (i+1)).unary∧jR bb w.heap.size gr Z f.k f.sizes L∧L.map df=(cW f (i+1)).funs∧(∀ r,leadsTo O r∨leadsTo Z r→ai.heap.size≤r)∧ ∀ h∈aG,∀ r,leads h.v r→ai.heap.size≤r) ?_ ?_
  ·rintro bb h;rw[aB];exact dj _ h
  intro et b7;have dl:=b6.2 y (x2 Y);obtain⟨⟨dm,b8⟩,m,o,D,dn,eu,dp⟩:=dl;rw[cM rfl cZ.u bU.i b6.1 hi,bn bU.p bU.i rfl (b6.1.range Y)];refine bg bU.i fun ev ew ez dq dr=>?_;refine bP (vs:=dB y) bU.i rfl rfl (qD b8) dr fun dt du eA cz=>?_;have b9:Ext aL dt:=dq.put du (by omega);rw[aP bU.p 1 cz rfl];refine (yH (dn.ext b9) (by omega)).mono ?_;rintro _ eB _ ⟨cA,_,aS⟩;obtain⟨g,dv,dw,dx,rfl,eD,dy,aS,dz⟩:=aS bA.small;have dC:dF (bK f.sizes y.sc):=aS.2.2.1.2;have dD:dx=y.cs:=gy.eq dC dz dp;subst dD;have aA:=b9.trans cA;have ca:=cz.ext cA;have cc:=b8.ext aA;rw[a8,ba,aP bU.p 0 ca rfl,aK al.u cc.ls];have cu:=aU.size;have z9:=aq.size;have eE:=aA.size;have cd:=bx.ext aA;have ce:=b4.ext aA;have cg:=b5.ext aA;have ch:=ta dk;rw[bc,af];refine⟨fun eF=>?_,fun eH=>?_⟩
  ·
   have aO:y.sc=[]:=o9 (by omega);have ah:cW f (i+1)={cW f i with zero:=y.cs.getD 0 0}:=by rw[ch];unfold gU;simp only[df,aO]
   refine (kx aS).mono ?_;rintro cB dE _ ⟨bD,eI,eJ,dG⟩;have eK:y.cs.length=1:=by have:=bA.len;simpa[df,aO,bK,az] using this
   have dH:y.cs[0]? =some (y.cs.getD 0 0):=by rw[u4,x4 (by omega)];rfl
   rw[fv (y:=0) (i:=0) rfl an.u aj.i (by kernel_rfl) dG.ls dH,bB,aF ey.p rfl];have cC:=cd.ext bD;refine aY aj.i rfl rfl cC (by simp) fun eL cj eM dI=>?_;have ax:∀ r,r=ac→ ∃ e c,aa dE r e c∧e≠fJ∧e≠ci∧e≠ab∧e≠aj∧e≠an:=fun r E=>by
    subst E;exact⟨_,_,cC,by decide,by decide,by decide,by decide,by decide⟩
   refine b7 _ ⟨O,Z,ae,gr,aG,L,((aq.trans aA).trans bD).put cj (by omega),?_,(ce.ext bD).U cj (fun r E=>?_),by rw[ah];exact aM,(cg.ext bD).U cj (fun r E=>?_),by rw[ah];exact aN,ay,am⟩
   ·rw[ah];exact dI
   ·obtain⟨e,c,W,_,_,_,h1,aQ⟩:=ax r E;exact⟨e,c,W,h1,aQ⟩
   ·obtain⟨e,c,W,h1,aQ,aR,bm,_⟩:=ax r E;exact⟨e,c,W,h1,aQ,aR,bm⟩
  rw[bc,af];refine⟨fun h1=>?_,fun eN=>?_⟩
  ·
   obtain⟨v,aO⟩:∃ v,y.sc=[v]:=V7.1 (by omega);have eO:=bA.scope.1 v (by show v∈y.sc;rw[aO];exact .head _);have eP:=bA.vars v (by show v∈y.sc;rw[aO];exact .head _);have ah:cW f (i+1)={cW f i with unary:=(cW f i).unary.set v.toNat y.cs}:=by rw[ch];unfold gU;simp only[df,aO]
   intro eR aC _ _;have cD:=cd.ext aC;have dJ:=ca.ext aC;rw[aD ey.p 2 cD rfl,aP bU.p 0 dJ rfl];refine pK (y:=0) (i:=0) rfl al.u ab.i (cc.ls.ext aC) (show y.sc[0]? =some v by rw[aO];rfl) fun b o dK=>?_;rw[av (by kernel_rfl) dK];refine (kx (aS.ext aC)).mono ?_;rintro cB dL _ ⟨bd,dM,eS,bf⟩;refine⟨.inl bd,?_⟩;have bh:=(ce.ext aC).ext bd;have eT:aG.length=f.sizes.length:=by have:=congrArg V3 aM;rw[r8] at this;omega
   obtain⟨u,hu⟩:=aE (l:=aG) (i:=v.toNat) (by omega);rw[cM (i:=v.toNat) (by omega) eY.u an.i bh.1 (by omega)];let a:eV:=⟨cB,y.cs⟩;refine mB (f:=h2) (j:=0) (a:=u) (a':=a) an.i bf.ls.cells.1 bf.ls.cells.2 bh.1 hu rfl (by omega) fun eU bk eW dN=>?_;have cE:=cD.ext bd;have a2:∀ {r:Nat},leadsTo O r→ ∃ c,aa dL r an c:=fun E=>by
    obtain⟨rfl,c,W⟩:=c3 bh.1 E;exact⟨c,W⟩
   refine b7 _ ⟨O,Z,ae,gr,aG.set v.toNat a,L,(((aq.trans aA).trans aC).trans bd).then bk (fun r E he=>by have:=ay r (.inl he);omega),?_,⟨dN,fun z X=>?_⟩,?_,((cg.ext aC).ext bd).U bk (fun r E=>?_),by rw[ah];exact aN,ay,fun z X r E=>?_⟩
   ·rw[ah];exact cE.U bk fun he=>cb bh.1 cE (by decide) he
   ·rcases W3 X with X|rfl
    ·exact bh.og bk (fun r E=>by obtain⟨c,W⟩:=a2 E;exact⟨_,c,W,by decide⟩) z X
    ·exact⟨dM,aZ bf bk fun r E b3=>by
      obtain⟨c,W⟩:=a2 b3;exact bE bf W (by decide) E rfl⟩
   ·rw[ah,List.map_set,aM]
   ·obtain⟨c,W⟩:=a2 E;exact⟨_,c,W,by decide,by decide,by decide,by decide⟩
   ·rcases W3 X with X|rfl
    ·exact am z X r E
    ·have dc:=(bp bf E).1;have:=aC.size;omega
  ·
   have ah:cW f (i+1)={cW f i with funs:=(cW f i).funs++[df y]}:=by
    rw[ch];unfold gU;have cG:2≤(df y).1.length:=by show 2≤y.sc.length;omega
    generalize df y=g at cG ⊢;obtain⟨sc,cs⟩:=g
    match sc,cG with
    |_::_::_,_=>rfl
   intro eX aH _ _;have cI:=cd.ext aH;have dO:=ca.ext aH;have cJ:=cc.ext aH;rw[aD ey.p 3 cI rfl,aP bU.p 0 dO rfl,ct (cs:=#[y.sv,.pointer (some ⟨g,0,none⟩)]) (by obtain⟨_,_,_,e⟩:=cL b8.ls;rw[e];kernel_rfl)];let a:bL:=⟨y.sv,g,y.sc,y.cs⟩;refine eQ (f:=dB) (a:=a) iT.u fJ.i (by omega) rfl rfl fun eZ e0 bF e1 au dP=>?_;refine⟨.inl au,?_⟩;have bG:=(cg.ext aH).ext au;have dQ:=(ce.ext aH).ext au;have ck:=cI.ext au;have e2:L.length≤256:=by have:=congrArg V3 aN;rw[r8] at this;omega
   refine ff (f:=dB) (a:=a) iT.u fJ.i rfl bG.1 (by simpa using dP.sl) (qD (cJ.ext au)) (by omega) (by omega) fun bX bY e3 ao bZ cK=>?_;have cN:=ck.U cK fun he=>cb bG.1 ck (by decide) he;rw[bB,aF ey.p rfl];refine aY iT.i (cF ao.sl).1 (cF ao.sl).2 cN (by simp) fun dR cO e4 dS=>?_;have bH:ad (fun r=>leadsTo Z r∨r=ac) bF dR:=(cK.mono fun r _ h=>.inl h).trans (cO.mono fun r _ h=>.inr h);have ax:∀ r,(leadsTo Z r∨r=ac)→ ∃ e c,aa bF r e c∧e≠ci∧e≠ab∧e≠aj∧e≠an:=fun r E=>by
    rcases E with E|rfl
    ·obtain⟨rfl,c,W⟩:=c3 bG.1 E;exact⟨_,c,W,by decide,by decide,by decide,by decide⟩
    ·exact⟨_,_,ck,by decide,by decide,by decide,by decide⟩
   have e5:=(aH.trans au).size;refine b7 _ ⟨O,bX,ae,bY,aG,L++[a],(((aq.trans aA).trans aH).trans au).then bH (fun r E he=>?_),?_,dQ.U bH (fun r E=>?_),by rw[ah];exact aM,⟨ao.U cO fun r E he=>?_,fun z X=>?_⟩,?_,fun r E=>?_,am⟩
   ·rcases he with he|rfl
    ·have:=ay r (.inr he);omega
    ·omega
   ·rw[ah];exact dS
   ·obtain⟨e,c,W,_,_,aR,bm⟩:=ax r E;exact⟨e,c,W,aR,bm⟩
   ·have he:r=ac:=he;subst he;exact cb ao cN (by decide) E
   ·have cP:∀ r,(leadsTo Z r∨r=ac)→ ∃ e c,aa bF r e c∧e≠ci∧e≠ab∧e≠aj:=fun r E=>by
     obtain⟨e,c,W,h1,aQ,aR,_⟩:=ax r E;exact⟨e,c,W,h1,aQ,aR⟩
    rcases p8.1 X with X|X
    ·exact (bG.2 z X).U bH cP
    ·rw[p9.1 X];have e6:=b9.size;refine oh.U (w:=bF) ⟨⟨dm,cJ.ext au⟩,⟨dv,dw,?_,by omega,fun r E=>by have:=dy.2 r E;omega⟩,by show w.heap.size≤g;omega,c1 y (x2 Y)⟩ bH cP;exact (aS.ext aH).ext au
   ·rw[ah,j4,aN];rfl
   ·rcases E with E|E
    ·exact ay r (.inl E)
    ·rcases bZ r E with h|h
     ·exact ay r (.inr h)
     ·omega
end Go.Proofs.YthjegppepbbojaaGreatDoor
