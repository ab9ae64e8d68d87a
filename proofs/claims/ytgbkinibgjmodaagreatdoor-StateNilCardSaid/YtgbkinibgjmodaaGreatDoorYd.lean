/- own texts, made small by a tool (wip/ holds them as they were written): no statement of the seat. -/
import Derived.Test.YtgbkinibgjmodaaGreatDoorYc
set_option linter.unusedVariables false
set_option linter.unusedSimpArgs false
set_option linter.unnecessarySimpa false
open Array renaming getElem?_eq_some_iff→l6,getElem?_toList→U8
open BitVec renaming ofInt→W9
open Bool renaming not_true→Y7,not_false→Y8,eq_iff_iff→W5,and_eq_true→V7,or_eq_false_iff→U4
open Decidable renaming not_not→X4
open Go renaming Value→x4,World→x5,Builtin→u7,TypeId→o6,IntKind→o8,Program→X5,Oper→U9
open Go.Addr renaming add_mid→U5
open Go.Builtin renaming len_→u6,append_→r8,min_→T1
open Go.Instr renaming loadAt→x1,fieldAt→x2,storeAt→x6,indexAt→x7,extract→x8,buildSlice→u9,alloc→n0,sliceAt→j4,build→Z3,box→Z5,index→Y2,lookup→V3,makeSlice→U7
open Go.IntKind renaming i64→X3,u64→V2
open Go.Op renaming unary→Z4
open Go.Proofs.Tryz renaming prog→y0
open Go.Result renaming andThen→Y6
open Go.Sem renaming run_bind→Y4,run_pure→X0
open Go.Sort renaming Holds→U3
open Go.Value renaming int→X7
open Int renaming toNat_natCast→c7
open List renaming getElem?_eq_getElem→x3,getElem?_eq_some_iff→u4,mem_of_getElem?→u5,getElem?_map→r9,getD_eq_getElem?_getD→p8,replicate→p9,length_map→o3,take_add_one→o4,length_append→o5,mem_singleton→o9,mem_append→n9,take_length→l5,length_take→l7,mem_map→l9,map_append→j0,eq_nil_of_length_eq_zero→j5,length_cons→j9,take_of_length_le→Z1,getElem?_eq_none→Z7,getElem?_take_of_lt→Z8,getElem?_append_left→Y0,getElem?_append_right→Y3,mem_iff_getElem?→X1,drop_eq_getElem_cons→X2,getElem?_set→X8,flatMap_cons→X9,ext_getElem?→W0,range→W3,pairwise_iff_getElem→W8,append_assoc→V0,length→V4,length_eq_one_iff→V6,mem_or_eq_of_mem_set→V9,length_set→U1,append_nil→U2,mem_cons→U6,set_append_right→T2,length_singleton→T3
open Nat renaming le_refl→o7,zero_le→Y1,le_trans→Y5,mul_le_mul_right→X6,sub_self→W7,add_mul→V1,zero_add→V5,mul_one→T0
open Option renaming some→j6,toList_some→c8,isNone_some→c9,map_some→Z0,map_eq_some_iff→Z6,isNone_none→Y9,map→W6,getD_some→T4
open Option.some renaming inj→Z2,injEq→Z9
open Prod.mk renaming injEq→V8
namespace Go.Proofs.YtgbkinibgjmodaaGreatDoor
open Go Go.Vc Go.RowKit Go.Proofs Go.Proofs.Tryz
set_option maxRecDepth 100000
theorem xJ {w:x5} {O E:Nat} {cs:List x4} {K:x4→x5→Prop} (J:cs.length=4) (h1:∀ v∈cs,v.oneCell'=true) (W:ak w O bf cs) {U:List x4} (X:U.length=4) (Y:ak w E bf U)
  (Z:∀ w',am (fun r=>r=E) w w'→K (.agg cs.toArray) w'):
  I y0 (x1 bf (.pointer (some ⟨O,0,none⟩))) w fun ab=>
  aa y0 (x6 bf (.pointer (some ⟨E,0,none⟩)) ab) w fun(_:Unit) V=>
  I y0 (do loadVar bf (←asAddr (.pointer (some ⟨E,0,none⟩)))) V fun ac=>K ac V:=by
 rw[bN bf.p bf.i J W.range];refine b9 bf.i J X h1 Y fun w' ad _ ae=>?_;rw[eB bf.p bf.i J ae.range];exact Z w' ad
theorem xK {sizes:List Int} {s s':ay} {l:List (List Int×Int)} (h:df sizes s=some (l,s')):s'.shared=s.shared∧s'.toks.length≤s.toks.length:=by
 unfold df at h;cases I:a8 (-ap) ap s with
 |none=>rw[I] at h;cases h
 |some q=>
  obtain⟨n,E⟩:=q;rw[I] at h;simp only at h;have h1:=c0 I;obtain⟨W,X,J⟩:=h1.eqs;split at h
  ·cases O:E.shared[(-n-1).toNat]? with
   |none=>rw[O] at h;cases h
   |some q=>
    obtain⟨z,l'⟩:=q;rw[O] at h;simp only at h;split at h
    ·simp only[Z9,V8] at h;obtain⟨rfl,rfl⟩:=h;exact⟨J,by have:=h1.1;omega⟩
    ·cases h
  ·have:=h8 (f:=de sizes) (fun acc t=>t.shared=s.shared∧t.toks.length≤s.toks.length) (fun acc t a Y ⟨V,Z⟩ g=>by
    obtain⟨aa,ab,ac,U⟩:=nb g;obtain⟨f1,f2,f3⟩:=U.eqs;exact⟨by rw[f3,V],by have:=U.1;omega⟩) n.toNat [] (aY (decide (16384<min (E.told+n) ap)) {E with told:=min (E.told+n) ap}) l s' ⟨J,by have:=h1.1;show E.toks.length≤_;omega⟩ h
   exact this.1
set_option maxHeartbeats 8000000 in
theorem Do {w:x5} {g gs:Nat} {A B:av} {s:ay} {clean:Bool} {aX:x4} {all:List Int} (h:cI w g gs A B s clean) (hi:dg s) (b3:aG .i64 w aX all) (bz:∀ r,leads aX r→¬bu g gs A r∧r<w.heap.size)
  (cH:∀ z∈all,1≤z∧z≤ap) (dK:all.length≤100001) (cJ:eF w) (h1:ce g gs A B 1):
  O y0 mm [.pointer (some ⟨g,0,none⟩),aX] w fun v w'=>∃ Z aD cs,∃ b5:fH,v= .agg cs.toArray∧cs.length=4∧am (bu g gs A) w w'∧(∀ r,Z r→A r∨w.heap.size≤r)∧(∀ r,aD r→(B r∨w.heap.size≤r)∧r<w'.heap.size)∧(∀ r,B r→aD r)∧fm w' g gs Z aD clean ((cC all s).map (·.2))∧
   Seen (ce g gs Z aD) w' cs b5∧ ∀ q,cC all s=some q→b5=fo q.1:=by
 have cK:=h.1;obtain⟨dL,dM,bA,cL,aE⟩:=id cK;have ax:∀ r,bu g gs A r→r<w.heap.size:=cL;have dN:ap=4611686018427387904:=rfl;have dO:s.shared.length+s.toks.length≤100000:=h.2.2.1.2.2;apply mm.enter;refine bU bf.i fun U cM dP bB bd=>?_;have bd:ak cM U bf [.slice none 0 0,.slice none 0 0,.int .i64 0,.slice none 0 0]:=bd;have dQ:=bB.size;have dR:=bd.lt;have ac:¬bu g gs A U:=fun J=>by have:=ax _ J;omega
 refine (tn (lo:=-ap) (hi:=ap) (h.ext bB)).mono ?_;rintro _ bC _ ⟨aH,a,at_,rfl,b6,cO⟩;obtain⟨bD,bE⟩:=aH.of;have dS:=bD.size;rw[aC (v:=.int .i64 a) rfl,aC (v:=.int .i64 at_) rfl,au,kt];have dT: -ap≤a∧a≤ap:=by
  cases V:a8 (-ap) ap s with
  |none=>rw[cO V];unfold ap;omega
  |some q=>rw[b6 q V];exact (fO (n:=q.1) (s':=q.2) V).1
 rw[wrap_i64 (by omega) (by omega),qX,show max a (0-a)=((a.natAbs:Nat):Int) by omega];have b7:am (bu g gs A) w bC:=(bB.ad _).trans bD;have cP:aG .i64 bC aX all:=hr b3 b7 fun r E a n c X bF=>(bz r ⟨a,n,c,X,bF⟩).1 E;rw[aQ ae.u cP];refine (Dl (k:=a.natAbs) (m:=(all.length:Int)) bE (by omega) (by omega)).mono ?_;rintro a7 dU _ ⟨aH,bG,scope,aZ,cQ,dV,cT⟩;obtain⟨bI,cU⟩:=aH.of;have z3:=bI.size;rw[cR (cs:=#[a7,.slice none 0 0,.int .i64 0,.slice none 0 0]) (by obtain⟨_,_,_,_,_,rfl,_⟩:=aZ.ls;kernel_rfl)];refine bU bf.i fun I cV dW a1 be=>?_;have be:ak cV I bf [.slice none 0 0,.slice none 0 0,.int .i64 0,.slice none 0 0]:=be;have z4:=a1.size;have dX:=be.lt;have bJ:=aZ.ls.cells;refine b9 (vs:=[a7,.slice none 0 0,.int .i64 0,.slice none 0 0]) bf.i rfl rfl (by intro v X;simp at X;rcases X with rfl|rfl|rfl|rfl <;> first|exact bJ.2|rfl) be fun bg a2 dY cW=>?_;have aO:¬bu g gs A I:=fun J=>by have:=ax _ J;omega
 have b8:cN bg g gs A B clean ((pZ all.length a.natAbs ((a8 (-ap) ap s).map (·.2))).map (·.2)):=(cU.ext a1).ad a2 (fun r E he=>by have he:r=I:=he;exact aO (he▸E)) (fun r E he=>by have:=aE r E.2;have he:r=I:=he;omega);have cb:am (bu g gs A) w bg:=fD ((b7.trans bI).trans (a1.ad _)) a2 fun r E he=>by have he:r=I:=he;omega
 have cX:ak bg U bf [.slice none 0 0,.slice none 0 0,.int .i64 0,.slice none 0 0]:=(((bd.ad bD ac).ad bI ac).ext a1).ad a2 (fun he=>by have he:U=I:=he;omega);have cY:aq .i64 af bg bG a7 scope:=br (aZ.ext a1) a2 fun r E he=>by
  obtain⟨cZ,bE⟩:=b1 aZ E;have he:r=I:=he;omega
 refine (nl b8).mono ?_;rintro _ bh _ ⟨rfl,aI⟩;have aP:=b8.ext aI;have a6:=cY.ext aI;have bK:=cW.ext aI;have cc:=cX.ext aI;have dZ:=aI.size;have z5:=a2.size;have az:∀ r,leads a7 r→bC.heap.size≤r∧r≠I∧r≠U:=fun r E=>by
  obtain⟨cZ,bE⟩:=b1 aZ E;have:=cQ r E;exact⟨this,by omega,by omega⟩
 have ab:cC all s=match pZ all.length a.natAbs ((a8 (-ap) ap s).map (·.2)) with
   |none=>none
   |some (sc,Y)=>(gD (sc.map fun v=>all.getD v.toNat 0) ((aW 0 ap (some (aY (decide (6<a.natAbs)||cS (sc.map fun v=>all.getD v.toNat 0)) Y))).map (·.2))).map fun q=>((⟨sc,sc.map fun v=>all.getD v.toNat 0,((a8 0 ap (aY (decide (6<a.natAbs)||cS (sc.map fun v=>all.getD v.toNat 0)) Y)).map (·.1)).getD 0,q.1⟩:ca),if a<0 then rH (sc.map fun v=>all.getD v.toNat 0) q.1 q.2 else q.2):=by
  unfold cC;cases V:a8 (-ap) ap s with
  |none=>rfl
  |some q=>
   obtain⟨a',aF⟩:=q;have:=b6 _ V;subst this;simp only;show _=match ea all.length a.natAbs aF with
    |none=>none
    |some (sc,Y)=>_
   cases ea all.length a.natAbs aF with
   |none=>rfl
   |some q=>
    obtain⟨sc,Y⟩:=q;simp only;show _=W6 _ (gD _ ((a8 0 ap _).map (·.2)));cases a8 0 ap (aY (decide (6<a.natAbs)||cS (sc.map fun v=>all.getD v.toNat 0)) Y) with
    |none=>rfl
    |some q=>
     obtain⟨o,W⟩:=q;simp only;show _=W6 _ (df _ W);cases df (sc.map fun v=>all.getD v.toNat 0) W with
     |none=>rfl
     |some q=>rfl
 rw[b4,cv];cases aJ:pZ all.length a.natAbs ((a8 (-ap) ap s).map (·.2)) with
 |none=>
  rw[aJ] at aP ab;simp only at ab;refine⟨fun _=>?_,fun h=>by simp at h⟩;refine xJ rfl (by intro v X;simp at X;rcases X with rfl|rfl|rfl|rfl <;> first|exact bJ.2|rfl) bK rfl cc fun aK ai=>?_;have c1:=ai.size;refine⟨A,fun r=>(B r∨w.heap.size≤r)∧r<aK.heap.size,_,(scope,[],0,[]),rfl,rfl,fD (cb.trans (aI.ad _)) ai fun r E he=>by have he:r=U:=he;omega,fun r E=>.inl E,fun r E=>E,fun r E=>⟨.inl E,by have:=aE r E;omega⟩,?_,?_,fun q V=>by rw[ab] at V;cases V⟩
  ·rw[ab];have c2:fm aK g gs A B clean (W6 (fun x=>x.2) (none:Option (List Int×ay))):=aP.q.ad ai (fun he=>by have:=ax g (.inl rfl);have he:g=U:=he;omega) (fun r E _ he=>by have he:r=U:=he;exact ac (he▸E)) (fun r E he=>by have:=aE r E.2;have he:r=U:=he;omega);exact c2
  ·refine xH (p0 (br a6 ai fun r E he=>(az r E).2.2 he) fun r E=>?_) iI iI;have aj:=az r E;have aR:=(b1 a6 E);exact⟨fun J=>by have:=ax _ J;omega,.inr (by omega),by omega⟩
 |some q=>
  obtain⟨sc,Y⟩:=q;have:=cT _ aJ;subst this;rw[aJ] at aP ab;simp only at ab;refine⟨fun h=>by simp at h,fun _=>?_⟩;have aP:cI bh g gs A B Y clean:=aP;obtain⟨aF,c3,c4⟩:∃ aF,(a8 (-ap) ap s).map (·.2)=some aF∧ea all.length a.natAbs aF=some (scope,Y):=by
   cases V:(a8 (-ap) ap s).map (·.2) with
   |none=>rw[V] at aJ;cases aJ
   |some aF=>rw[V] at aJ;exact⟨aF,rfl,aJ⟩
  obtain⟨cd,c5,rfl⟩:=Z6.1 c3;have cg:=c0 (n:=cd.1) (s':=cd.2) c5;obtain⟨ch,eb,ec,ci⟩:=tk c4;have bL:=cg.eqs;have bM:=ch.eqs;have c6:dg Y:=fun aB=>by rw[bM.1,bL.1];rw[bM.2.1,bL.2.1] at aB;exact hi aB
  have c7:Y.shared.length+1+Y.toks.length≤100000:=by rw[bM.2.2,bL.2.2];have:=cg.1;have:=ch.1;omega
  generalize bN:(scope.map fun v=>all.getD v.toNat 0)=sizes at ab;have cj:∀ z∈sizes,1≤z∧z≤ap:=fun z bi=>by
   rw[←bN] at bi;obtain⟨v,X,rfl⟩:=l9.1 bi;have:=ci v X;refine cH _ ?_;rw[p8,x3 (by omega)];exact List.getElem_mem _
  have ed:sizes.length=scope.length:=by rw[←bN,o3]
  have ck:am (bu g gs A) w bh:=cb.trans (aI.ad _);have c8:aG .i64 bh aX all:=hr b3 ck fun r E a n c X bF=>(bz r ⟨a,n,c,X,bF⟩).1 E;rw[ah bf.p rfl,al (by kernel_rfl) (bK.cell (o:=0+0) rfl),aQ ae.u a6.ls];refine Dn bK a6.ls (fun r E=>(az r E).2.1) c8 (fun r E=>by have:=(bz r E).2;omega) ci (by omega) fun aK aw cl ai cm bj ee=>?_;rw[bN] at bj;have c1:=ai.size;have bO:∀ r,ce g gs A B r→¬(fun r=>r=I) r:=fun r E he=>by have:=aE r E.2;have he:r=I:=he;omega
  have bQ:∀ r,bu g gs A r→¬(fun r=>r=I) r:=fun r E he=>by have he:r=I:=he;exact aO (he▸E)
  have cn:=aP.ad ai bQ bO;have c9:am (bu g gs A) w aK:=fD ck ai fun r E he=>by have he:r=I:=he;omega
  refine dG (fun bk=>am (bu g gs A) aK bk∧cI bk g gs A B (aY (decide (6<a.natAbs)||cS sizes) Y) clean) ?_ ?_
  rotate_left
  ·intro da ba;rw[bT,ag];refine⟨fun ef=>?_,fun eh=>?_⟩
   ·refine (rt cn).mono ?_;rintro _ db _ ⟨dd,de⟩;refine ba _ ⟨dd.mono fun r _ h=>.inl h,?_⟩;rw[decide_eq_true (by omega),Bool.true_or];exact de
   ·rw[ah bf.p rfl,al (by kernel_rfl) (cm.cell (o:=0+1) rfl)];refine (wT bj.ls fun z bi=>(cj z bi).1).mono ?_;rintro _ db _ ⟨rfl,cp⟩;refine (rt (cn.ext cp)).mono ?_;rintro _ ei _ ⟨dh,di⟩;refine ba _ ⟨(cp.ad _).trans (dh.mono fun r _ h=>.inl h),?_⟩;rw[decide_eq_false (by omega),Bool.false_or];exact di
  rintro bk ⟨bl,bm⟩;have ej:=bl.size;generalize bA:aY (decide (6<a.natAbs)||cS sizes) Y=W at ab bm;have dj:dg W:=fun aB=>by
   subst bA;have aB:(Y.big||_)=false:=aB;exact c6 (U4.1 aB).1
  have ek:W.shared.length+1+W.toks.length≤100000:=by subst bA;exact c7
  have bm:cN bk g gs A B clean (some W):=bm;refine (jI (lo:=0) (hi:=ap) bm).mono ?_;rintro _ cq _ ⟨aH,o,dk,rfl,dl,em⟩;obtain⟨bn,dm⟩:=aH.of;have en:=bn.size;rw[aC (v:=.int .i64 o) rfl,aC (v:=.int .i64 dk) rfl,ah bf.p rfl];have dn:=(cm.ad bl aO).ad bn aO;refine bH (g:=I) (o:=2) af.i rfl rfl dn (by simp) fun bo aS eo bp=>?_;have bp:ak bo I bf [a7,aw,.int .i64 o,.slice none 0 0]:=bp;rw[ah bf.p rfl,al (by kernel_rfl) (bp.cell (o:=0+1) rfl)];have dp:=dm.ad aS bQ bO;have bR:am (bu g gs A) aK cq:=bl.trans bn;have dq:am (bu g gs A) w cq:=c9.trans bR;have cr:am (bu g gs A) w bo:=fD dq aS fun r E he=>by have he:r=I:=he;omega
  have aL:∀ r,leads aw r→bh.heap.size≤r∧r<aK.heap.size:=fun r E=>by have:=b1 bj E;omega
  have ct:aq .i64 af bo cl aw sizes:=br (br bj bR fun r E J=>by have:=ax _ J;have:=aL r E;omega) aS fun r E he=>by have he:r=I:=he;have:=aL r E;omega
  have dr:aq .i64 af bo bG a7 scope:=br (br (br a6 ai fun r E he=>(az r E).2.1 he) bR fun r E J=>by have:=ax _ J;have:=az r E;omega) aS fun r E he=>(az r E).2.1 he;have ep:=aS.size;refine (Dk dp (fun t bS=>?_) ct.ls (fun r E=>⟨fun J=>by have:=ax _ J;have:=aL r E;omega,by have:=aL r E;omega⟩) cj (by omega) (cJ.ad cr h1.1) h1).mono ?_
  ·obtain⟨q,V,rfl⟩:=Z6.1 bS;have cu:=(c0 (n:=q.1) (s':=q.2) V).eqs;intro aB;rw[cu.1];rw[cu.2.1] at aB;exact dj aB
  rintro bP ds _ ⟨aH,l,bV,cw⟩;obtain⟨aT,dt⟩:=aH.of;have er:=aT.size;have bW:bP.cells= #[bP]∧bP.oneCell'=true:=⟨q4 bV,sR bV⟩;rw[ah bf.p rfl];have du:=bp.ad aT aO;refine bH (g:=I) (o:=3) eg.i bW.1 bW.2 du (by simp) fun aa aM es bq=>?_;have bq:ak aa I bf [a7,aw,.int .i64 o,bP]:=bq;have et:=aM.size;have cz:=dt.ad aM bQ bO;have dv:am (bu g gs A) w ds:=cr.trans aT;have dw:am (bu g gs A) w aa:=fD dv aM fun r E he=>by have he:r=I:=he;omega
  have cA:aq .i64 af aa bG a7 scope:=br (br dr aT fun r E J=>by have:=ax _ J;have:=az r E;omega) aM fun r E he=>(az r E).2.1 he;have bw:aq .i64 af aa cl aw sizes:=br (br ct aT fun r E J=>by have:=ax _ J;have:=aL r E;omega) aM fun r E he=>by have he:r=I:=he;have:=aL r E;omega
  have dx:ak aa U bf [.slice none 0 0,.slice none 0 0,.int .i64 0,.slice none 0 0]:=((((((cc.ad ai (fun he=>by have he:U=I:=he;omega)).ad bl ac).ad bn ac).ad aS (fun he=>by have he:U=I:=he;omega)).ad aT ac).ad aM (fun he=>by have he:U=I:=he;omega));let ao:av:=fun r=>(B r∨w.heap.size≤r)∧r<aa.heap.size;have cB:aA.rep (α:=List (List Int×Int)) false bt (fun r=>ce g gs A ao r∧r≠I∧r≠U) aa [bP] l:=by
   refine xI (aA.ad bV aM fun r E h he=>?_) fun r E h=>?_
   ·have he:r=I:=he;rcases h with h|h
    ·exact h
    ·rcases h with h|h
     ·have:=aE r h.2;omega
     ·omega
   ·rcases h with h|h
    ·have:=aE r h.2;exact⟨⟨h.1,.inl h.2,E⟩,by omega,by omega⟩
    ·exact⟨⟨fun J=>by have:=ax _ J;omega,.inr (by omega),E⟩,by omega,by omega⟩
  have dy:∀ r,leads a7 r→ce g gs A ao r∧r≠I∧r≠U:=fun r E=>by
   have aj:=az r E;have aR:=(b1 cA E);exact⟨⟨fun J=>by have:=ax _ J;omega,.inr (by omega),by omega⟩,aj.2⟩
  have cD:∀ r,leads aw r→ce g gs A ao r∧r≠I∧r≠U:=fun r E=>by
   have aj:=aL r E;have aR:=(b1 bw E);exact⟨⟨fun J=>by have:=ax _ J;omega,.inr (by omega),by omega⟩,by omega,by omega⟩
  have dz:Seen (fun r=>ce g gs A ao r∧r≠I∧r≠U) aa [a7,aw,.int .i64 o,bP] ((scope,sizes,o,l):fH):=xH (p0 cA dy) (p0 bw cD) cB;have dA:∀ q,cC all s=some q→((scope,sizes,o,l):fH)=fo q.1:=fun q V=>by
   rw[ab] at V;obtain⟨eu,bX,rfl⟩:=Z6.1 V;have aj:=cw _ bX;cases aU:a8 0 ap W with
   |none=>have e:aW 0 ap (some W)=none:=aU;rw[e] at bX;cases bX
   |some aN=>
    have aR:=dl aN aU;rw[aj,aR];rfl
  have dB:∀ v∈[a7,aw,X7 .i64 o,bP],v.oneCell'=true:=by
   intro v X;simp at X;rcases X with rfl|rfl|rfl|rfl
   ·exact bJ.2
   ·exact bw.ls.cells.2
   ·rfl
   ·exact bW.2
  have cE:∀ r,ce g gs A B r→ce g gs A ao r∧r≠I∧r≠U:=fun r E=>by
   have:=aE r E.2;exact⟨⟨E.1,.inl E.2,by omega⟩,by omega,by omega⟩
  refine dG (fun bY=>∃ Z,am (bu g gs A) aa bY∧(∀ r,Z r→A r∨aa.heap.size≤r)∧ ∃ aD,iS bY g gs Z aD (fun r=>ce g gs A ao r∧r≠I∧r≠U) clean ((cC all s).map (·.2))) ?_ ?_
  ·rintro bY ⟨Z,bb,bc,aD,dC⟩;have ev:=bb.size;refine xJ rfl dB (bq.ad bb aO) rfl (dx.ad bb ac) fun bZ bx=>?_;have ew:=bx.size;have cF:∀ r,bu g gs Z r→¬(fun r=>r=U) r:=fun r E he=>by
    have he:r=U:=he;subst he;rcases E with E|E|E
    ·exact ac (.inl E)
    ·exact ac (.inr (.inl E))
    ·rcases bc _ E with E|E
     ·exact ac (.inr (.inr E))
     ·omega
   have cG:∀ r,(ce g gs A ao r∧r≠I∧r≠U)→ce g gs Z (fun r=>(B r∨w.heap.size≤r)∧r<bZ.heap.size∧(r<aa.heap.size∨B r)) r:=fun r h=>⟨fun J=>h.1.1 (J.imp id (Or.imp id fun J=>(bc r J).elim id fun h'=>by have:=h.1.2.2;omega)),h.1.2.1,by have:=h.1.2.2;omega,.inl h.1.2.2⟩;have dD:iS bZ g gs Z aD (fun r=>ce g gs A ao r∧r≠I∧r≠U) clean ((cC all s).map (·.2)):=dC.ad bx (cF g (.inl rfl)) (fun r E _=>cF r E) (fun r E=>E.2.2);refine⟨Z,fun r=>(B r∨w.heap.size≤r)∧r<bZ.heap.size∧(r<aa.heap.size∨B r),_,(scope,sizes,o,l),rfl,rfl,fD (dw.trans bb) bx fun r E he=>by have he:r=U:=he;omega,fun r E=>(bc r E).imp id fun h=>by omega,fun r E=>⟨E.1,E.2.1⟩,fun r E=>⟨.inl E,by have:=aE r E;omega,.inr E⟩,dD.out cG fun r E=>E.2.1,?_,dA⟩;refine xI (aA.ad (aA.ad dz bb fun r _ h J=>?_) bx fun r _ h he=>?_) fun r _ h=>cG r h
   ·rcases h with h|h
    ·exact h
    ·exact h.1.1 J
   ·rcases h with h|h
    ·exact h
    ·exact h.2.2 he
  ·intro da ba;rw[ag];refine⟨fun dE=>?_,fun dF=>?_⟩
   ·intro b2 aV _ _;have ey:=aV.size;have dH:∀ r,(ce g gs A ao r∧r≠I∧r≠U)→ce g gs A (nm b2.heap.size) r:=fun r h=>⟨h.1.1,by have:=h.1.2.2;show r<b2.heap.size;omega⟩;refine Dm (R:=fun r=>ce g gs A ao r∧r≠I∧r≠U) (z:=sizes) (l:=l) (cz.ext aV) cE dH (fun t bS=>?_) (bq.ext aV) (p0 (bw.ext aV) cD) (dc cB aV) fun ez Z dI bc dJ=>?_
    ·obtain⟨q,V,rfl⟩:=Z6.1 bS;cases aU:a8 0 ap W with
     |none=>have e:aW 0 ap (some W)=none:=aU;rw[e] at V;cases V
     |some aN=>
      have e:aW 0 ap (some W)=some aN:=aU;rw[e] at V;have h1:q.2.shared=aN.2.shared∧q.2.toks.length≤aN.2.toks.length:=xK (l:=q.1) (s':=q.2) V;have aj:=c0 (n:=aN.1) (s':=aN.2) aU;have aR:=aj.eqs.2.2;have eA:=aj.1;rw[h1.1,aR];have:=h1.2;omega
    ·refine ba _ ⟨Z,(aV.ad _).trans dI,fun r E=>(bc r E).imp id fun h=>by omega,nm b2.heap.size,?_⟩;have e:(cC all s).map (·.2)=((gD sizes ((aW 0 ap (some W)).map (·.2))).map (·.2)).map (rH sizes l):=by
      rw[ab];cases V:gD sizes ((aW 0 ap (some W)).map (·.2)) with
      |none=>rfl
      |some q=>
       have aj:=cw _ V;simp only[Z0,if_pos dE,aj]
     rw[e];exact dJ
   ·refine ba _ ⟨A,am.refl _ _,fun r E=>.inl E,B,?_⟩;have e:(cC all s).map (·.2)=(gD sizes ((aW 0 ap (some W)).map (·.2))).map (·.2):=by
     rw[ab];cases V:gD sizes ((aW 0 ap (some W)).map (·.2)) with
     |none=>rfl
     |some q=>simp only[Z0,if_neg dF]
    rw[e];exact cz.qr cE
def ic (l:List Int):Prop:=∀ v∈l,0≤v∧v<64
theorem p1 {l:List Int} (h:ic l) {v:Int}:v∈be l↔v∈l:=by
 unfold be;rw[List.mem_filter,decide_eq_true_eq];refine⟨fun h=>h.2,fun E=>⟨?_,E⟩⟩;obtain⟨h1,I⟩:=h v E;exact l9.2 ⟨v.toNat,List.mem_range.2 (by omega),by omega⟩
theorem Dp (l:List Int):ic (be l):=fun v E=>by
 obtain⟨n,I,rfl⟩:=l9.1 (List.mem_filter.1 E).1;have:=List.mem_range.1 I;omega
theorem tE (l:List Int):(be l).Pairwise (·< ·):=by
 unfold be;refine List.Pairwise.filter _ ?_;rw[List.pairwise_map];exact List.pairwise_lt_range.imp fun h=>by omega
theorem xL (l:List Int):(be l).Nodup:=(tE l).imp fun h=>by omega
where
 nodup_le' {a b:List Int} (h:a.Nodup) (hs:∀ x∈a,x∈b):a.length≤b.length:=by
  induction a generalizing b with
  |nil=>exact Y1 _
  |cons x a ih=>
   have h':=List.nodup_cons.1 h;have hx:=hs x (.head _);have:=ih (b:=b.erase x) h'.2 fun y hy=>(List.mem_erase_of_ne (fun(he:y=x)=>h'.1 (by rw[←he];exact hy))).2 (hs y (.tail _ hy));rw[List.length_erase_of_mem hx] at this;have:=List.length_pos_of_mem hx;rw[j9];omega
theorem xM (n:Nat):(0:Int)<64 ^ n:=Int.pow_pos (by omega)
theorem rI:∀ (l:List Int),ic l→0≤hb l∧hb l<64 ^ l.length
 |[],_=>by simp[hb]
 |x::l,h=>by
  have J:=rI l fun y E=>h y (.tail _ E);have I:=h x (.head _);have O:=xM l.length;simp only[hb,j9];have e:(64:Int) ^ (l.length+1)=64*64 ^ l.length:=by rw[Int.pow_succ,Int.mul_comm]
  have h1:x*64 ^ l.length≤63*64 ^ l.length:=Int.mul_le_mul_of_nonneg_right (by omega) (by omega);have U:0≤x*64 ^ l.length:=Int.mul_nonneg I.1 (by omega);rw[e];omega
def eM:List Int→List Int→Int
 |x::a,y::b=>if x<y then-1 else if y<x then 1 else eM a b
 |[],[]=>0
 |[],_::_=>-1
 |_::_,[]=>1
theorem xN:∀ (a b:List Int),a.length=b.length→ic a→ic b→(eM a b<0↔hb a<hb b)∧(eM a b=0↔a=b)∧(hb a=hb b→a=b)
 |[],[],_,_,_=>by simp[eM]
 |[],_::_,h,_,_=>by simp at h
 |_::_,[],h,_,_=>by simp at h
 |x::a,y::b,h,W,X=>by
  have O:a.length=b.length:=by simpa using h
  have U:ic a:=fun z E=>W z (.tail _ E);have V:ic b:=fun z E=>X z (.tail _ E);have I:=xN a b O U V;have Y:=rI a U;have aa:=rI b V;have ab:=xM b.length;simp only[eM,hb];rw[O] at Y ⊢;have step:∀ u v:Int,u<v→u*64 ^ b.length+64 ^ b.length≤v*64 ^ b.length:=fun u v ac=>by
   have:=Int.mul_le_mul_of_nonneg_right (show u+1≤v by omega) (show (0:Int)≤64 ^ b.length by omega);rw[Int.add_mul,Int.one_mul] at this;exact this
  by_cases h1:x<y
  ·rw[if_pos h1];have:=step x y h1;exact⟨⟨fun _=>by omega,fun _=>by omega⟩,⟨fun h=>by omega,fun h=>by have:=(List.cons.inj h).1;omega⟩,fun h=>by omega⟩
  ·rw[if_neg h1];by_cases J:y<x
   ·rw[if_pos J];have:=step y x J;exact⟨⟨fun h=>by omega,fun h=>by omega⟩,⟨fun h=>by omega,fun h=>by have:=(List.cons.inj h).1;omega⟩,fun h=>by omega⟩
   ·rw[if_neg J];have Z:x=y:=by omega
    subst Z;exact⟨I.1.trans ⟨fun h=>by omega,fun h=>by omega⟩,I.2.1.trans ⟨fun h=>by rw[h],fun h=>(List.cons.inj h).2⟩,fun h=>by rw[I.2.2 (by omega)]⟩
def hz (l:List Int):Prop:=ic l∧l.length≤6
theorem xO {l:List Int} (h:hz l):0≤hb l∧hb l<64 ^ 6:=by
 have:=rI l h.1;have I:(64:Int) ^ l.length≤64 ^ 6:=by
  have E:=h.2
  match l.length,E with
  |0,_=>decide
  |1,_=>decide
  |2,_=>decide
  |3,_=>decide
  |4,_=>decide
  |5,_=>decide
  |6,_=>decide
  |n+7,h=>omega
 omega
theorem tF {a b:List Int} (I:hz a) (J:hz b):(cD a<cD b↔a.length<b.length∨(a.length=b.length∧eM a b<0))∧(cD a=cD b→a=b):=by
 have h1:=xO I;have O:=xO J;have e:(64:Int) ^ 6=68719476736:=by decide
 rw[e] at h1 O;unfold cD;rw[e];by_cases E:a.length=b.length
 ·have:=xN a b E I.1 J.1;rw[E];exact⟨⟨fun h=>.inr ⟨rfl,this.1.2 (by omega)⟩,fun h=>by
   rcases h with h|⟨_,h⟩
   ·omega
   ·have:=this.1.1 h;omega⟩,fun h=>this.2.2 (by omega)⟩
 ·exact⟨⟨fun h=>.inl (by omega),fun h=>by
   rcases h with h|⟨h,_⟩
   ·omega
   ·exact absurd h E⟩,fun h=>by omega⟩
theorem rJ (g:cg):∀ l:List cg,(fF g l).Perm (g::l)
 |[]=>List.Perm.refl _
 |h::l=>by
  unfold fF;split
  ·exact ((rJ g l).cons h).trans (List.Perm.swap g h l)
  ·exact List.Perm.refl _
theorem xP {g:cg}:∀ {l:List cg},l.Pairwise (fun a b=>cD a.1<cD b.1)→(∀ h∈l,cD h.1≠cD g.1)→(fF g l).Pairwise (fun a b=>cD a.1<cD b.1)
 |[],_,_=>by simp[fF]
 |h::l,J,O=>by
  have I:=List.pairwise_cons.1 J;unfold fF;split
  ·rename_i U;refine List.pairwise_cons.2 ⟨fun x E=>?_,xP I.2 fun x E=>O x (.tail _ E)⟩;rcases U6.1 ((rJ g l).mem_iff.1 E) with rfl|E
   ·exact U
   ·exact I.1 x E
  ·rename_i V;have:=O h (.head _);refine List.pairwise_cons.2 ⟨fun x E=>?_,J⟩;rcases U6.1 E with rfl|E
   ·omega
   ·have:=I.1 x E;omega
theorem xQ:∀ (l acc:List cg),acc.Pairwise (fun a b=>cD a.1<cD b.1)→l.Pairwise (fun a b=>cD a.1≠cD b.1)→(∀ a∈acc,∀ b∈l,cD a.1≠cD b.1)→
  (l.foldl (fun l g=>fF g l) acc).Pairwise (fun a b=>cD a.1<cD b.1)∧(l.foldl (fun l g=>fF g l) acc).Perm (acc++l)
 |[],acc,h,_,_=>⟨h,by simp⟩
 |g::l,acc,h,U,I=>by
  have J:=List.pairwise_cons.1 U;have:=xQ l (fF g acc) (xP h fun a E=>I a E g (.head _)) J.2 fun a E b O=>by
   rcases U6.1 ((rJ g acc).mem_iff.1 E) with rfl|E
   ·exact J.1 b O
   ·exact I a E b (.tail _ O)
  refine⟨this.1,this.2.trans ?_⟩;exact ((rJ g acc).append_right l).trans (List.perm_middle (a:=g) (l₁:=acc) (l₂:=l)).symm
theorem tG {α:Type} {f:α→Int}:∀ {L M:List α},L.Pairwise (fun a b=>f a<f b)→M.Pairwise (fun a b=>f a<f b)→(∀ x,x∈L↔x∈M)→L=M
 |[],M,_,_,h=>by
  cases M with
  |nil=>rfl
  |cons y M=>exact absurd ((h y).2 (.head _)) (by simp)
 |x::L,[],_,_,h=>absurd ((h x).1 (.head _)) (by simp)
 |x::L,y::M,h1,O,h=>by
  have I:=List.pairwise_cons.1 h1;have J:=List.pairwise_cons.1 O;have U:x=y:=by
   rcases U6.1 ((h x).1 (.head _)) with he|hm
   ·exact he
   ·rcases U6.1 ((h y).2 (.head _)) with he|V
    ·exact he.symm
    ·have a:=J.1 x hm;have b:=I.1 y V;omega
  subst U;rw[tG I.2 J.2 fun z=>⟨fun E=>?_,fun E=>?_⟩]
  ·rcases U6.1 ((h z).1 (.tail _ E)) with he|hm
   ·subst he;have:=I.1 z E;omega
   ·exact hm
  ·rcases U6.1 ((h z).2 (.tail _ E)) with he|hm
   ·subst he;have:=J.1 z E;omega
   ·exact hm
structure eG (sizes:List Int) (k:Int) (g:cg):Prop where
 scope:hz g.1
 up:g.1.Pairwise (·< ·)
 vars:∀ v∈g.1,v<sizes.length
 len:g.2.length=(aH (cb sizes g.1)).toNat
 small:aH (cb sizes g.1)≤4096
 ie:∀ c∈g.2,0≤c∧c≤k
theorem p2 {sizes:List Int} {sc:List Int} (I:∀ z∈sizes,1≤z∧z≤32) (J:∀ v∈sc,0≤v∧v<sizes.length):∀ z∈cb sizes sc,1≤z∧z≤32:=fun z h=>by
 obtain⟨v,O,rfl⟩:=l9.1 h;obtain⟨h1,U⟩:=J v O;have E:v.toNat<sizes.length:=by omega
 rw[p8,x3 E];exact I _ (List.getElem_mem E)
theorem Dq {a b:List Int} (h:a.Perm b):aH a=aH b:=by
 induction h with
 |nil=>rfl
 |cons x _ E=>simp only[aH,E]
 |swap x y l=>simp only[aH];rw[←Int.mul_assoc,←Int.mul_assoc,Int.mul_comm y x]
 |trans _ _ h1 I=>exact h1.trans I
theorem Dr {k:Int} {a b:List Int} (h:a.length=b.length):(dh k a b).length=b.length:=by simp[dh,h]
theorem Ds {k:Int} {a b:List Int} (U:0≤k) (I:∀ c∈a,0≤c∧c≤k) (J:∀ c∈b,0≤c∧c≤k):∀ c∈dh k a b,0≤c∧c≤k:=by
 induction a generalizing b with
 |nil=>intro c E;simp[dh] at E
 |cons x a O=>
  cases b with
  |nil=>intro c E;simp[dh] at E
  |cons y b=>
   intro c E;have V:=I x (.head _);have W:=J y (.head _);rcases U6.1 (show c∈min (x+y) k::dh k a b from E) with rfl|E
   ·omega
   ·exact O (fun c h=>I c (.tail _ h)) (fun c h=>J c (.tail _ h)) c E
def gE (l:List cg):Prop:=(l.map (·.1)).Nodup
theorem Dt {sizes:List Int} {k:Int} {acc:List cg} {g:cg} (W:0≤k) (O:∀ h∈acc,eG sizes k h) (U:gE acc) (I:eG sizes k g):(∀ h∈gg k acc g,eG sizes k h)∧gE (gg k acc g)∧(gg k acc g).length≤acc.length+1:=by
 unfold gg;split
 ·refine⟨fun h E=>?_,?_,by simp⟩
  ·obtain⟨J,hm,rfl⟩:=l9.1 E;have h1:=O J hm;split
   ·rename_i he;have X:J.2.length=g.2.length:=by rw[h1.len,I.len,he]
    exact⟨h1.scope,h1.up,h1.vars,by show (dh k J.2 g.2).length=_;rw[Dr X,I.len,he],h1.small,Ds W h1.ie I.ie⟩
   ·exact h1
  ·unfold gE;rw[List.map_map];have e:((fun x:cg=>x.1)∘fun h:cg=>if h.1=g.1 then (h.1,dh k h.2 g.2) else h)=fun x:cg=>x.1:=by
    funext h;simp only[Function.comp];split <;> rfl
   rw[e];exact U
 ·rename_i Y;refine⟨fun h E=>?_,?_,by simp⟩
  ·rcases n9.1 E with E|E
   ·exact O h E
   ·rw[o9.1 E];exact I
  ·unfold gE;rw[j0];exact List.nodup_append.2 ⟨U,by simp,fun x Z y V he=>by
    simp only[List.map_cons,List.map_nil,o9] at V;subst V;subst he;exact Y Z⟩
theorem tH {sizes:List Int} {k:Int} (J:0≤k):∀ {l acc:List cg},(∀ h∈acc,eG sizes k h)→gE acc→(∀ g∈l,eG sizes k g)→(∀ h∈l.foldl (gg k) acc,eG sizes k h)∧gE (l.foldl (gg k) acc)∧(l.foldl (gg k) acc).length≤acc.length+l.length
 |[],acc,E,I,_=>⟨E,I,by simp⟩
 |g::l,acc,E,I,O=>by
  obtain⟨h1,U,Y⟩:=Dt J E I (O g (.head _));obtain⟨V,W,Z⟩:=tH J h1 U fun x X=>O x (.tail _ X);exact⟨V,W,by simp only[List.foldl_cons,j9];omega⟩
theorem xR {α:Type} [DecidableEq α]:∀ {a b:List α},a.Nodup→b.Nodup→(∀ x,x∈a↔x∈b)→a.Perm b
 |[],b,_,_,h=>by
  cases b with
  |nil=>exact .refl _
  |cons y b=>exact absurd ((h y).2 (.head _)) (by simp)
 |x::a,b,O,I,h=>by
  have U:=(h x).1 (.head _);have J:=List.nodup_cons.1 O;refine .trans ?_ (List.perm_cons_erase U).symm;refine .cons x (xR J.2 (I.erase x) fun y=>?_);rw[I.mem_erase_iff];refine⟨fun E=>⟨fun he=>J.1 (he▸E),(h y).1 (.tail _ E)⟩,fun⟨V,E⟩=>?_⟩;rcases U6.1 ((h y).2 E) with he|hm
  ·exact absurd he V
  ·exact hm
theorem rK {l:List Int} (h:ic l) (E:l.Nodup):(be l).Perm l:=xR (xL l) E fun _=>p1 h
theorem tI:∀ {l:List Int},(∀ z∈l,1≤z∧z≤32)→l.map (fun z=>min z 4097)=l
 |[],_=>rfl
 |z::l,h=>by
  have I:=h z (.head _);rw[List.map_cons,tI fun x E=>h x (.tail _ E)];congr 1;omega
theorem Du {x:ca} {k:Int} {t:List Int} (J:0≤k) (O:0≤x.other) (E:∀ p∈x.lines,0≤p.2):0≤hs x k t∧hs x k t≤k:=by
 unfold hs;cases I:x.lines.find? (fun p=>decide (p.1=t)) with
 |none=>simp only;omega
 |some p=>have:=E p (List.mem_of_find?_eq_some I);simp only;omega
theorem rL {all:List Int} {N:Nat} {x:ca} (h:rn all N x) (I:all.length≤64):ic x.scope:=fun v E=>by
 have:=h.scope.2 v E;omega
theorem nn {N:Nat} {f:bW} {x:ca} (E:eh N f) (W:x∈f.funs):eG f.sizes f.k (fP f.sizes f.k x):=by
 obtain⟨h1,X,J⟩:=E.funs x W;have Y:=E.sizes.2.1;have O:=rL h1 Y;have I:=rK O h1.scope.1;have U:∀ v∈be x.scope,0≤v∧v<f.sizes.length:=fun v hm=>h1.scope.2 v ((p1 O).1 hm);have Z:=p2 E.sizes.2.2 U;have aa:aH (cb f.sizes (be x.scope))=aH x.sizes:=by rw[h1.sizes];exact Dq (I.map _)
 refine⟨⟨Dp _,?_⟩,tE _,fun v hm=>(U v hm).2,?_,?_,fun c ab=>?_⟩
 ·show (be x.scope).length≤6;rw[I.length_eq];exact X
 ·show ((bK _).map _).length=_;rw[o3,iK Z];rfl
 ·show aH (cb f.sizes (be x.scope))≤4096;have ac:∀ z∈x.sizes,1≤z∧z≤32:=fun z V=>by
   rw[h1.sizes] at V;exact p2 E.sizes.2.2 (fun v hm=>h1.scope.2 v hm) z V
  unfold cS at J;rw[tI ac,decide_eq_false_iff_not] at J;rw[aa];omega
 ·obtain⟨t,_,rfl⟩:=l9.1 ab;exact Du (by have:=E.k.1;omega) h1.other fun p I=>(h1.lines.2 p I).2
theorem iT {N:Nat} {f:bW} (E:eh N f):(∀ g∈eu f,eG f.sizes f.k g)∧gE (eu f)∧(eu f).length≤f.funs.length:=by
 have:=tH (sizes:=f.sizes) (k:=f.k) (by have:=E.k.1;omega) (l:=f.funs.map (fP f.sizes f.k)) (acc:=[]) (fun h J=>by cases J) List.nodup_nil fun g O=>by
  obtain⟨x,U,rfl⟩:=l9.1 O;exact nn E U
 refine⟨this.1,this.2.1,?_⟩;have I:=this.2.2;rw[List.length_nil,o3,V5] at I;exact I
theorem xS {sizes:List Int} {k:Int} {l:List cg} (E:∀ g∈l,eG sizes k g) (I:gE l):l.Pairwise fun a b=>cD a.1≠cD b.1:=by
 have h1:l.Pairwise fun a b=>a.1≠b.1:=by
  unfold gE List.Nodup at I;rwa [List.pairwise_map] at I
 exact h1.imp_of_mem fun {a b} J O U he=>U ((tF (E a J).scope (E b O).scope).2 he)
theorem p3 {N:Nat} {f:bW} (I:eh N f):(eD f).Pairwise (fun a b=>cD a.1<cD b.1)∧(eD f).Perm ((eu f).filter eC):=by
 obtain⟨h1,J,_⟩:=iT I;have O:∀ g∈(eu f).filter eC,eG f.sizes f.k g:=fun g U=>h1 g (List.mem_filter.1 U).1;have V:gE ((eu f).filter eC):=(List.Sublist.map _ List.filter_sublist).nodup J;have:=xQ ((eu f).filter eC) [] List.Pairwise.nil (xS O V) fun a W=>by cases W
 refine⟨this.1,?_⟩;have E:=this.2;rw[List.nil_append] at E;exact E
theorem rM {N:Nat} {f:bW} (E:eh N f):∀ g∈eD f,eG f.sizes f.k g:=fun g I=>(iT E).1 g (List.mem_filter.1 ((p3 E).2.mem_iff.1 I)).1
theorem Dv {N:Nat} {f:bW} (E:eh N f) {M:List cg} (I:M.Perm ((eu f).filter eC)) (O:M.Pairwise fun a b=>cD a.1≤cD b.1):M=eD f:=by
 obtain⟨h1,J⟩:=p3 E;have U:gE ((eu f).filter eC):=(List.Sublist.map _ List.filter_sublist).nodup (iT E).2.1;have V:gE M:=(I.map (fun g:cg=>g.1)).nodup_iff.2 U;have W:∀ g∈M,eG f.sizes f.k g:=fun g X=>(iT E).1 g (List.mem_filter.1 (I.mem_iff.1 X)).1;have Y:=xS W V;refine tG (f:=fun g:cg=>cD g.1) ?_ h1 fun x=>by rw[I.mem_iff,J.mem_iff]
 exact O.imp₂ (fun a b h1 J=>Int.lt_iff_le_and_ne.2 ⟨h1,J⟩) Y
structure hA (n:bS):Prop where
 k:1≤n.k∧n.k≤2147483648
 sizes:1≤n.sizes.length∧n.sizes.length≤64∧ ∀ z∈n.sizes,1≤z∧z≤32
 zero:0≤n.zero∧n.zero≤n.k
 ig:n.unary.length=n.sizes.length
 unary:∀ (i:Nat) (z:Int) (u:List Int),n.sizes[i]? =some z→n.unary[i]? =some u→u.length=z.toNat∧ ∀ c∈u,0≤c∧c≤n.k
 funs:∀ g∈n.funs,eG n.sizes n.k g∧2≤g.1.length
theorem Dw (z:Int):aH [z]=z:=by simp[aH]
theorem rN:∀ {l:List cg} {n:bS},hA n→(∀ g∈l,eG n.sizes n.k g)→hA (l.foldl (fun n g=>match g.1 with
 |[]=>{n with zero:=g.2.getD 0 0}
 |[v]=>{n with unary:=n.unary.set v.toNat g.2}
 |_=>{n with funs:=n.funs++[g]}) n)∧(l.foldl (fun n g=>match g.1 with
 |[]=>{n with zero:=g.2.getD 0 0}
 |[v]=>{n with unary:=n.unary.set v.toNat g.2}
 |_=>{n with funs:=n.funs++[g]}) n).sizes=n.sizes
 |[],n,h,_=>⟨h,rfl⟩
 |g::l,n,h,O=>by
  have E:=O g (.head _);have J:∀ x∈l,eG n.sizes n.k x:=fun x I=>O x (.tail _ I);rw[List.foldl_cons];obtain⟨sc,cs⟩:=g
  match sc,E with
  |[],E=>
   have V:=E.len;refine rN (n:={n with zero:=cs.getD 0 0}) ⟨h.k,h.sizes,?_,h.ig,h.unary,h.funs⟩ J;have h1:cs.length=1:=by simpa[cb,aH] using V
   have W:cs[0]? =some (cs.getD 0 0):=by rw[p8,x3 (by omega)];rfl
   exact E.ie _ (u5 W)
  |[v],E=>
   have Y:=E.scope.1 v (.head _);have Z:=E.vars v (.head _);refine rN (n:={n with unary:=n.unary.set v.toNat cs}) ⟨h.k,h.sizes,h.zero,by show (n.unary.set _ _).length=_;rw[U1];exact h.ig,fun i z u U hu=>?_,h.funs⟩ J;by_cases hi:v.toNat=i
   ·subst hi;have aa:=h.ig;rw[List.getElem?_set_self (by omega)] at hu;cases hu;have X:cb n.sizes [v]=[z]:=by
     simp only[cb,List.map_cons,List.map_nil];rw[p8,U];rfl
    refine⟨?_,E.ie⟩;have:=E.len;rw[X,Dw] at this;exact this
   ·rw[List.getElem?_set_ne hi] at hu;exact h.unary i z u U hu
  |a::b::r,E=>
   refine rN (n:={n with funs:=n.funs++[(a::b::r,cs)]}) ⟨h.k,h.sizes,h.zero,h.ig,h.unary,fun x I=>?_⟩ J;rcases n9.1 I with I|I
   ·exact h.funs x I
   ·rw[o9.1 I];exact⟨E,by simp⟩
theorem xT {N:Nat} {f:bW} (E:eh N f):hA (dr f)∧(dr f).sizes=f.sizes:=by
 unfold dr;have J:=E.sizes;refine rN (n:=⟨f.k,f.sizes,0,f.sizes.map fun z=>p9 z.toNat 0,[]⟩) ⟨E.k,J,⟨by show (0:Int)≤0;omega,by show (0:Int)≤f.k;have:=E.k.1;omega⟩,by simp,fun i z u h1 I=>?_,fun g O=>by cases O⟩ (rM E);have I:(f.sizes.map fun z=>p9 z.toNat (0:Int))[i]? =some u:=I;have h1:f.sizes[i]? =some z:=h1;rw[r9,h1] at I;cases I;refine⟨by simp,fun c U=>?_⟩;rw[(List.mem_replicate.1 U).2];have:=E.k.1;exact⟨Int.le_refl _,by show (0:Int)≤f.k;omega⟩
def iU (x:ca) (k:Int) (i:Nat) (t:List Int):Int:=match (x.lines.take i).find? (fun p=>decide (p.1=t)) with
 |some p=>min p.2 k
 |none=>min x.other k
theorem xU (x:ca) (k:Int) (t:List Int):iU x k 0 t=min x.other k:=by simp[iU]
theorem xV (x:ca) (k:Int) (t:List Int):iU x k x.lines.length t=hs x k t:=by
 unfold iU hs;rw[l5];cases x.lines.find? (fun p=>decide (p.1=t)) <;> rfl
theorem xW {x:ca} {k:Int} {i:Nat} {p:List Int×Int} (X:(x.lines.map (·.1)).Nodup) (hi:x.lines[i]? =some p) (t:List Int):iU x k (i+1) t=if t=p.1 then min p.2 k else iU x k i t:=by
 unfold iU;rw[o4,hi,c8,List.find?_append];by_cases E:t=p.1
 ·subst E;have Y:(x.lines.take i).find? (fun q=>decide (q.1=p.1))=none:=by
   rw[List.find?_eq_none];intro q I he;have he:q.1=p.1:=by simpa using he
   obtain⟨j,J⟩:=X1.1 I;have O:j<i:=by have:=(u4.1 J).1;rw[l7] at this;omega
   rw[Z8 O] at J;have U:=u4.1 J;have V:=u4.1 hi;have W:=W8.1 X j i (by rw[o3];exact U.1) (by rw[o3];exact V.1) O;rw[List.getElem_map,List.getElem_map,U.2,V.2] at W;exact W he
  rw[Y,if_pos rfl];simp
 ·rw[if_neg E];have:[p].find? (fun q=>decide (q.1=t))=none:=by
   rw[List.find?_eq_none];intro q I he;rw[o9.1 I] at he;exact E (of_decide_eq_true he).symm
  rw[this,Option.or_none]
theorem np {l:List Int} {v:Int} (h:v∈l):l[l.idxOf v]? =some v:=by
 have:=List.idxOf_lt_length_iff.2 h;rw[x3 this,List.getElem_idxOf this]
theorem p4 {l:List Int} {i:Nat} {v:Int} (O:l.Nodup) (h:l[i]? =some v):l.idxOf v=i:=by
 have hm:=u5 h;have h1:=np hm;have E:=u4.1 h1;have I:=u4.1 h;rcases Nat.lt_trichotomy (l.idxOf v) i with J|he|J
 ·exact absurd (E.2.trans I.2.symm) (W8.1 O _ _ E.1 I.1 J)
 ·exact he
 ·exact absurd (I.2.trans E.2.symm) (W8.1 O _ _ I.1 E.1 J)
def eN (scope E:List Int):List Int:=E.map fun v=>((scope.idxOf v:Nat):Int)
theorem rO {scope I:List Int} (W:scope.Nodup) (E:I.Perm scope):Good (eN scope I) scope.length:=by
 have U:I.Nodup:=E.nodup_iff.2 W;refine⟨by simp[eN,E.length_eq],fun i p J=>?_⟩;unfold eN at J;rw[r9] at J;obtain⟨v,V,rfl⟩:=Z6.1 J;have hm:v∈scope:=E.mem_iff.1 (u5 V);have Z:=List.idxOf_lt_length_iff.2 hm;refine⟨⟨by omega,by omega⟩,fun j aa O=>?_⟩;unfold eN at O;rw[r9] at O;obtain⟨u,hu,he⟩:=Z6.1 O;have X:u∈scope:=E.mem_iff.1 (u5 hu);have e:scope.idxOf u=scope.idxOf v:=by omega
 have h1:=np X;rw[e,np hm] at h1;have Y:v=u:=Z2 h1;subst Y;have ab:=p4 U hu;have ac:=p4 U V;omega
theorem xX {scope E:List Int} {j:Nat} {v:Int} (I:E[j]? =some v):(eN scope E)[j]? =some ((scope.idxOf v:Nat):Int):=by
 unfold eN;rw[r9,I];rfl
theorem Dx {sizes scope E:List Int} (U:scope.Nodup) (J:E.Perm scope):dB (cb sizes scope) (eN scope E)=cb sizes E:=by
 refine W0 fun j=>?_;cases I:E[j]? with
 |none=>
  have O:=List.getElem?_eq_none_iff.1 I;rw[Z7 (by rw[rk];simp[eN];exact O),Z7 (by simp[cb];exact O)]
 |some v=>
  have hm:v∈scope:=J.mem_iff.1 (u5 I);have V:=rO U J;rw[wC V (by simp[cb]) (xX I),c7];unfold cb;rw[r9,r9,np hm,I]
theorem xY {scope E t:List Int} (U:scope.Nodup) (I:E.Perm scope) (V:t.length=scope.length):jH (eN scope E) t=nc scope E t:=by
 have W:=rO U I;refine (wB W V (by simp[nc]) fun j p J=>?_).symm;unfold eN at J;rw[r9] at J;obtain⟨v,O,rfl⟩:=Z6.1 J;have hm:v∈scope:=I.mem_iff.1 (u5 O);have X:E.Nodup:=I.nodup_iff.2 U;have Y:=(u4.1 O).1;have Z:=I.length_eq;unfold nc;rw[c7,r9,np hm,Z0,p4 X O,p8,x3 (show j<t.length by omega)];rfl
theorem Dy {N:Nat} {f:bW} {x:ca} {cs:List Int} (J:eh N f) (Y:x∈f.funs) (af:cs.length=(aH x.sizes).toNat) (Z:∀ t,cM x.sizes t→cH x.sizes cs t=hs x f.k t):
  dB x.sizes (eN x.scope (be x.scope))=cb f.sizes (be x.scope)∧lE x.sizes cs (eN x.scope (be x.scope))=(fP f.sizes f.k x).2:=by
 obtain⟨h1,ag,ah⟩:=J.funs x Y;have U:=rL h1 J.sizes.2.1;have E:=rK U h1.scope.1;have V:x.sizes=cb f.sizes x.scope:=h1.sizes;have O:dB x.sizes (eN x.scope (be x.scope))=cb f.sizes (be x.scope):=by rw[V];exact Dx h1.scope.1 E
 have aa:=rO h1.scope.1 E;have ab:∀ v∈be x.scope,0≤v∧v<f.sizes.length:=fun v hm=>h1.scope.2 v ((p1 U).1 hm);have I:dN (cb f.sizes (be x.scope)):=p2 J.sizes.2.2 ab;refine⟨O,?_⟩;have ac:x.sizes.length=x.scope.length:=by rw[V];simp[cb]
 unfold lE;rw[O];show _=(bK (cb f.sizes (be x.scope))).map fun t=>hs x f.k (nc x.scope (be x.scope) t);refine W0 fun q=>?_;rw[r9,r9];have ai:=jG I;by_cases W:q<(aH (cb f.sizes (be x.scope))).toNat
 ·have ad:=rh I (i:=q) (by omega);rw[ad,List.getElem?_range W];simp only[Z0];have ae:=tg I W;have X:(ct (cb f.sizes (be x.scope)) q).length=x.scope.length:=by rw[gX];simp[cb,E.length_eq]
  rw[xY h1.scope.1 E X,Z];have:=BX (s:=x.sizes) aa ac (by rw[O];exact ae);rw[xY h1.scope.1 E X] at this;exact this
 ·rw[Z7 (by simp;omega),Z7 (by rw[iK I];omega)];rfl
theorem Dz {ao:List Int} {k:Int} {E I:List Int} (J:dN ao) (h1:E.length=(aH ao).toNat) (O:I.length=(aH ao).toNat):
  dh k E I=(W3 (aH ao).toNat).map fun(q:Nat)=>min (cH ao E (ct ao q)+cH ao I (ct ao q)) k:=by
 conv=>lhs;rw[rj J h1,rj J O]
 unfold dh;rw[List.zipWith_map,List.zipWith_self]
theorem DA {I m:Nat} {d:List (x4×x4)} {KS:List (List Int)} {w:x5} (U:ak w I dD [.map (some m)]) (hm:cu w m d) (V:d.map (·.1)=KS.map di) (J:nk KS) (ac:KS.length<65536):
  O y0 oU [.func (.func gu) #[] #[.pointer (some ⟨I,0,none⟩)],xn] w fun v w'=>Ext w w'∧ ∃ g M,M.Perm KS∧rF eZ M 0 M.length∧lH w' g v M:=by
 apply oU.enter;refine (CG U hm V (fun ks h=>(J ks h).1) (by omega)).mono ?_;rintro v ad _ ⟨W,g,L,X,E,Y⟩;refine (CT Y (J.perm E) (by rw[E.length_eq];omega)).mono ?_;rintro _ ae _ ⟨Z,M,aa,hu,ab⟩;exact⟨W.then Z (fun r af h=>by have:=X r h;omega),g,M,aa.trans E,hu,ab⟩
theorem xZ {α β:Type} {f:α→β}:∀ {M:List β} {D:List α},M.Perm (D.map f)→ ∃ L:List α,L.Perm D∧L.map f=M
 |[],D,h=>by
  have h1:=h.length_eq;simp at h1;have:D=[]:=j5 h1.symm;exact⟨[],by rw[this],rfl⟩
 |x::M,D,h=>by
  have E:x∈D.map f:=h.mem_iff.1 (.head _);obtain⟨p,I,rfl⟩:=l9.1 E;obtain⟨A,B,rfl⟩:=List.append_of_mem I;have J:(f p::M).Perm (f p::(A++B).map f):=h.trans (by
   rw[j0,List.map_cons,j0];exact List.perm_middle)
  obtain⟨L,O,U⟩:=xZ (List.Perm.cons_inv J);exact⟨p::L,(O.cons p).trans List.perm_middle.symm,by rw[List.map_cons,U]⟩
theorem x0 {w:x5} {g n:Nat} {ks:List Int} {cs:List x4} (V:ks.length=6) (W:n≤6) (I:cs=ints .i8 ks) (J:ak w g bl cs):aG .i8 w (.slice (some (if 6=0 then⟨g,0,none⟩ else⟨g,0+0*1,none⟩)) (n-0) (6-0)) (ks.take n):=by
 subst I;rw[if_neg (by omega)];unfold aG;have O:(ks.take n).length=n:=by rw[l7];omega
 rw[O];refine⟨by simp;omega,g,0,_,6,rfl,by omega,by simp[maxLen],fun _=>rfl,fun j v E=>?_⟩;have U:=(u4.1 E).1;refine J.range j v ?_;rw[ints,List.map_take,Z8 (by simp[ints] at U;omega)] at E;exact E
def DB (D L:Told):Prop:=L.Perm D∧rF (fun p=>eZ (pad p.1)) L 0 L.length
set_option maxHeartbeats 1600000 in
theorem DC {w:x5} {g m:Nat} {ao:List Int} {k o:Int} {D:Told} (h:dO w g m ao k o D) (bp:D.length<65536):O y0 oI [.pointer (some ⟨g,0,none⟩)] w fun v w'=>Ext w w'∧ ∃ L:Told,DB D L∧dx (dU w.heap.size) bt w' [v] L:=by
 obtain⟨⟨sv,gs,aF,hm⟩,bq,ap,ca,aV⟩:=id h;have br:nk (D.map fun p=>pad p.1):=fun ks bu=>by
  obtain⟨p,bx,rfl⟩:=l9.1 bu;exact pR ap (aV p bx).1
 apply oI.enter;rw[b8 b6.u];simp only[c9,aU];rw[az,ah cL.p rfl,al (by kernel_rfl) (aF.cell (o:=0+3) rfl)];refine CE.mono ?_;rintro _ cb _ ⟨aG,cc,rfl,cd,bz⟩;refine (DA (KS:=D.map fun p=>pad p.1) bz (bq.ext aG) (by rw[List.map_map,List.map_map];rfl) br (by simpa using bp)).mono ?_;rintro ce ae _ ⟨aW,cg,M,bA,bB,aX⟩;obtain⟨L,aH,av⟩:=xZ bA;have aY:M.length=L.length:=by rw[←av];simp
 have ch:=aH.length_eq;have ci:=aG.size;have cj:=aW.size;have aZ:=aG.trans aW;rw[eb er.u aX];refine ba.range L.length (fun i out E=>Ext ae E∧dx (dU ae.heap.size) bt E [out] (L.take i)) (by omega) ⟨Ext.refl _,by rw[List.take_zero];exact iI⟩ ?_ ?_
 rotate_left
 ·rintro out E bC ⟨Z,aw⟩;rw[aY];simp only[au,ag];refine⟨fun h=>by omega,fun _=>⟨aZ.trans Z,L,⟨aH,fun p q x y h1 bD ck bE bF=>?_⟩,?_⟩⟩
  ·exact bB p q (pad x.1) (pad y.1) h1 bD (by omega) (by rw[←av,r9,bE];rfl) (by rw[←av,r9,bF];rfl)
  ·rw[l5] at aw;exact aA.mono aw (fun r _ h=>by have h:ae.heap.size≤r:=h;show w.heap.size≤r;omega) fun _ _ h=>h
 rintro i out E bC hi ⟨Z,aw⟩ bG;obtain⟨⟨t,c⟩,aI⟩:∃ p,L[i]? =some p:=⟨_,x3 hi⟩;have aJ:(t,c)∈D:=aH.mem_iff.1 (u5 aI);have aK:=(aV _ aJ).1;have a1:=ts ap aK;have aM:t.length=ao.length:=a1.1;have a2:=ap.1;have bI:iP (pad t):=pR ap aK;have ax:=bI.1;have bJ:M[i]? =some (pad t):=by rw[←av,r9,aI];rfl
 rw[aY];simp only[au,ag];refine⟨fun _=>?_,fun h=>by omega⟩;rw[CS rfl (aX.ext Z) bJ];refine bU bl.i fun aP cl cm a6 a7=>?_;refine pQ ax rfl a7 fun bK bL cn ay=>?_;have cp:=a6.size;have cq:=a7.lt;have bM:Ext E bK:=a6.then bL (fun r aB he=>by have he:r=aP:=he;omega);intro a8 af _ _;have aN:=bM.trans af;have aO:=(aZ.trans Z).trans aN;have bb:=h.ext aO;obtain⟨⟨cr,ct,cu,cw⟩,cz,_⟩:=id bb;have cA:=aN.size;rw[az,ah cL.p rfl,al (by kernel_rfl) ((aF.ext aO).cell (o:=0+3) rfl),lG ax (ay.ext af).range];refine Cx bb aK (fun I bO=>?_) (fun bP=>absurd rfl (bP _ aJ));have bQ:I=c:=by
  have:=w9 h.nodup bO aJ rfl;exact congrArg Prod.snd this
 subst bQ;simp only[Bool.false_eq_true,if_false];rw[cR (cs:=#[.slice none 0 0,.int .i64 I]) (by kernel_rfl)];refine bU dp.i fun V cB cC aR bc=>?_;refine⟨.inl aR,?_⟩;refine b9 (vs:=[.slice none 0 0,.int .i64 I]) dp.i rfl rfl (by intro v be;simp at be;rcases be with rfl|rfl <;> rfl) bc fun aa bR cD bf=>?_;have cE:=aR.size;have cF:=bc.lt;have aC:Ext a8 aa:=aR.then bR (fun r aB he=>by have he:r=V:=he;omega);have bg:=aN.trans aC;have bh:=aO.trans aC;rw[az,ah cL.p rfl,al (by kernel_rfl) ((aF.ext bh).cell (o:=0+0) rfl),aQ ab.u (hm.ls.ext bh)];rw[q1 bl.u dA.i (l:=0) (h:=ao.length) (m:=6) hX (lq _ _ rfl) eU (by omega) (by omega) (by omega)];have bi:=x0 ax a2 rfl ((ay.ext af).ext aC);rw[←aM,w4] at bi;rw[←aM,aQ fj.u bi];have bS:=(ay.ext af).ext aC;have cG:aP<a8.heap.size:=(ay.ext af).lt;have cH:V<aa.heap.size:=bf.lt;refine bd.range t.length (fun j U=>am (fun r=>r=V∨aa.heap.size≤r) aa U∧ ∃ W ac,aa.heap.size≤ac∧ak U V dp [W,.int .i64 I]∧aq .i64 J U ac W (t.take j)) (by omega) ⟨am.refl _ _,_,aa.heap.size,o7 _,bf,aq.nil _ _ _ _⟩ ?_ ?_
 ·rintro j U bT bV ⟨X,W,ac,bW,aD,aE⟩ bX;obtain⟨x,aS⟩:∃ x,t[j]? =some x:=⟨_,x3 bV⟩;have cI:=a1.2 x (u5 aS);have cJ:Ext E U:=bg.then X (fun r aB he=>by rcases he with rfl|he <;> omega);have bj:=x0 ax a2 rfl (bS.ad X (fun he=>by rcases he with he|he <;> omega));rw[←aM,w4] at bj;simp only[au,ag];refine⟨fun _=>?_,fun h=>by omega⟩;rw[bw fj.u dA.i (by kernel_rfl) bj aS,ah dp.p rfl,al (by kernel_rfl) (aD.cell (o:=0+0) rfl),fC dA.u J.u,wrap_i64 (by omega) (by omega)];refine dT ab.u J.i rfl fun a cK bY cM Y bZ=>?_;refine gW ab.u J.i rfl (aE.ext Y) bZ.ls (by simp;omega) (by simp;omega) fun bk bm b1 cN ai aj=>?_;have b2:=X.size;have b3:=Y.size;have cO:=aj.size;rw[ah dp.p rfl];refine bH (g:=V) (o:=0) ab.i ai.ls.cells.1 ai.ls.cells.2 ((aD.ext Y).ad aj (fun he=>by have he:V=ac:=he;omega)) (by simp) fun cP bn cQ b4=>?_;simp only[aL];refine bX _ ⟨((X.trans (Y.ad _)).trans (aj.mono fun r _ he=>.inr (by have he:r=ac:=he;omega))).trans (bn.mono fun r _ he=>.inl he),bk,bm,by omega,b4,?_⟩;rw[o4,aS];exact ai.ad bn (fun _ he=>by have he:bm=V:=he;omega)
 ·rintro U bT ⟨X,W,ac,bW,aD,aE⟩;simp only[au,ag];refine⟨fun h=>by omega,fun _=>?_⟩;rw[l5] at aE;rw[bN dp.p dp.i rfl aD.range];have b2:=X.size;have b5:Ext E U:=bg.then X (fun r aB he=>by rcases he with rfl|he <;> omega);have bo:dx (dU E.heap.size) bt U [W,.int .i64 I] (t,I):=⟨[W],[.int .i64 I],dU E.heap.size,bt,rfl,fun _ h=>h,fun _ h=>h.elim,fun _ _ _ h=>h,aA.mono (mX aE) (fun r _ h=>by subst h;show E.heap.size≤r;omega) (fun _ _ h=>h),rfl⟩;refine lw (α:=List Int×Int) (a:=(t,I)) (cs:=[W,.int .i64 I]) (A:=dU E.heap.size) (R:=bt) ho.u dp.i (by decide) rfl bo fun u bY Y _ b7=>?_;have aT:=b5.trans Y;have b3:=aT.size;refine mW (α:=List Int×Int) (a:=(t,I)) (A:=dU E.heap.size) ho.u dp.i rfl (dc (kw aw) aT) b7 (dc bo Y) (fun r _ h h'=>?_) (by simp;omega) (by simp;omega) fun bk b1 ai aj=>?_
  ·rcases h' with h'|h'
   ·have:=h.2;have:E.heap.size≤r:=h';omega
   ·exact h'
  simp only[aL];have cS:=Z.size;refine bG _ _ ⟨(Z.trans aT).then aj (fun r aB h=>by have h:=h.1;have h:ae.heap.size≤r:=h;omega),?_⟩;rw[o4,aI];refine aA.mono ai (fun r _ h=>?_) fun _ _ h=>h;show ae.heap.size≤r;rcases h with h|h|h
  ·exact h.1
  ·have h:E.heap.size≤r:=h;omega
  ·omega
theorem x9 {s t:List Int} (E:dN s):t∈bK s↔cM s t:=by
 refine⟨fun h=>?_,fun⟨n,h⟩=>u5 (rf E h)⟩;obtain⟨i,hi⟩:=X1.1 h;exact⟨_,te E hi⟩
theorem ya:∀ {s:List Int},dN s→(bK s).Pairwise fun a b=>eZ a<eZ b
 |[],_=>by simp[bK]
 |k::s,O=>by
  have Y:=ya O.tail;have I:∀ t∈bK s,0≤eZ t∧eZ t<32 ^ s.length:=fun t U=>by
   have Z:=(x9 O.tail).1 U;have h1:=lD.1 Z;have W:=rE t fun x V=>by
    obtain⟨i,hi,rfl⟩:=List.getElem_of_mem V;obtain⟨a,E⟩:∃ a,s[i]? =some a:=⟨_,x3 (by omega)⟩;have ab:=h1.2 i a _ E (x3 hi);have ac:=(O.tail a (u5 E)).2;omega
   rw[h1.1];exact W
  have J:∀ t∈bK s,t.length=s.length:=fun t U=>sV U;show ((W3 k.toNat).flatMap fun(v:Nat)=>(bK s).map fun t=>(v:Int)::t).Pairwise _;rw[List.pairwise_flatMap];refine⟨fun v _=>?_,?_⟩
  ·rw[List.pairwise_map];refine Y.imp_of_mem fun {a b} E I h=>?_;simp only[eZ,J a E,J b I];omega
  ·refine List.pairwise_lt_range.imp fun {u v} ad x V y aa=>?_;obtain⟨a,E,rfl⟩:=l9.1 V;obtain⟨b,X,rfl⟩:=l9.1 aa;simp only[eZ,J a E,J b X];have h1:=I a E;have W:=I b X;have:=Int.mul_le_mul_of_nonneg_right (show (u:Int)+1≤v by omega) (show (0:Int)≤32 ^ s.length by have:=tv s.length;omega);rw[Int.add_mul,Int.one_mul] at this;omega
theorem DD {D L:Told} {o:Int} (J:(D.map (·.1)).Nodup) (E:L.Perm D) (t:List Int):gh L o t=gh D o t:=by
 have U:(L.map (·.1)).Nodup:=(E.map (·.1)).nodup_iff.2 J;by_cases he:∃ p∈D,p.1=t
 ·obtain⟨p,O,rfl⟩:=he;rw[pS J (c:=p.2) O,pS U (c:=p.2) (E.mem_iff.2 O)]
 ·rw[pT fun p h1 I=>he ⟨p,h1,I⟩,pT fun p h1 I=>he ⟨p,E.mem_iff.1 h1,I⟩]
def gk (ao:List Int) (f:List Int→Int) (cs:List Int):Prop:=cs.length=(aH ao).toNat∧ ∀ t,cM ao t→cH ao cs t=f t
theorem gk.eq {ao:List Int} {f:List Int→Int} {cs E:List Int} (O:dN ao) (h1:gk ao f cs) (I:gk ao f E):cs=E:=BN O h1.1 I.1 fun t J=>by rw[h1.2 t J,I.2 t J]
theorem gk.congr {ao:List Int} {f E:List Int→Int} {cs:List Int} (h:gk ao f cs) (he:∀ t,cM ao t→f t=E t):gk ao E cs:=⟨h.1,fun t I=>by rw[h.2 t I,he t I]⟩
theorem tJ {ao t:List Int} (I:dN ao) (h:cM ao t):∃ n:Nat,cr ao t 0=some (n:Int)∧n<(aH ao).toNat:=by
 obtain⟨n,E⟩:=h;have:=ly I E;simp only[Int.zero_mul,Int.zero_add,Int.one_mul] at this;exact⟨n.toNat,by rw[E];congr 1;omega,by omega⟩
theorem DE {ao:List Int} (E:dN ao) (c:Int):gk ao (fun _=>c) (p9 (aH ao).toNat c):=⟨by simp,fun t I=>by
 obtain⟨n,J,O⟩:=tJ E I;unfold cH;rw[J];simp only[c7,p8,List.getElem?_replicate,O,if_true,T4]⟩
theorem gk.put {ao t:List Int} {f:List Int→Int} {cs:List Int} {k c:Int} (E:dN ao) (h:gk ao f cs) (V:cM ao t) (W:cF c k):gk ao (fun s=>if s=t then c else f s) (q7 ao t k c cs):=by
 obtain⟨n,J,X⟩:=tJ E V;unfold q7;rw[J];simp only[W,if_true,c7];refine⟨by simp[h.1],fun s U=>?_⟩;obtain⟨m,hm,Y⟩:=tJ E U;have I:=h.2 s U;unfold cH at I ⊢;rw[hm] at I ⊢;simp only[c7] at I ⊢;by_cases he:s=t
 ·subst he;rw[J] at hm;have O:n=m:=by have:=Z2 hm;omega
  subst O;rw[if_pos rfl,p8,List.getElem?_set_self (by rw[h.1];exact X)];rfl
 ·rw[if_neg he,p8,List.getElem?_set_ne (fun O=>he ?_),←p8,I];subst O;rw[←wu E hm,←wu E J]
def DF (w:x5) (ao:List Int) (k o:Int) (D:Told) (v:x4) (w':x5):Prop:=Ext w w'∧(4096<aH ao→v= .tuple #[.pointer none,.int .i64 5])∧
 (aH ao≤4096→ ∃ g E sv cs,v= .tuple #[.pointer (some ⟨g,0,none⟩),.int .i64 0]∧w.heap.size≤g∧w.heap.size≤E∧cG w' g E sv ao k cs∧gk ao (gh D o) cs)
set_option maxHeartbeats 1600000 in
theorem yb {w:x5} {g m:Nat} {ao:List Int} {k o:Int} {D:Told} (h:dO w g m ao k o D) (aF:D.length<65536):O y0 mq [.pointer (some ⟨g,0,none⟩)] w (DF w ao k o D):=by
 obtain⟨⟨sv,gs,aG,hm⟩,bo,V,aI,aJ⟩:=id h;have ap:=h.nodup;apply mq.enter;rw[b8 b6.u];simp only[c9,aU];intro bp E _ _;have ab:=aG.ext E;rw[az,ah cL.p rfl,al (by kernel_rfl) (ab.cell (o:=0+0) rfl),az,ah cL.p rfl,al (by kernel_rfl) (ab.cell (o:=0+1) rfl),az,ah cL.p rfl,al (by kernel_rfl) (ab.cell (o:=0+2) rfl)];refine (sY (hm.ls.ext E)).mono ?_;rintro _ aq _ ⟨W,_,aK,_,aM⟩;by_cases X:aH ao≤4096
 rotate_left
 ·have:=aK V (by omega);subst this;rw[aC (v:=.pointer none) rfl,aC (v:=.int .i64 5) rfl];simp only[bC,ag];exact⟨fun _=>⟨E.trans W,fun _=>rfl,fun h=>absurd h X⟩,fun h=>by simp at h⟩
 obtain⟨ac,I,av,rfl,bq,br,_,aw⟩:=aM V X aI;rw[aC (v:=.pointer (some ⟨ac,0,none⟩)) rfl,aC (v:=.int .i64 0) rfl];simp only[bC,ag];refine⟨fun h=>absurd rfl h,fun _=>?_⟩;have bt:=E.size;have bu:=W.size;refine (DC ((h.ext E).ext W) aF).mono ?_;rintro bw aN _ ⟨ae,L,Y,ax⟩;have bx:=ae.size;have bz:I<aq.heap.size:=by
  obtain⟨⟨aO,bA,_,_,aP⟩,⟨_,_,bB⟩,aQ,aR⟩:=id aw;have bD:=jG aQ.2;obtain⟨_,⟨_,aS⟩|⟨cap,cs,_,aT,_⟩⟩:=aP
  ·rw[aR] at aS;omega
  ·exact aT.lt
 have bE:=Y.1.length_eq;rw[iJ ho.u ax];refine bd.range L.length (fun i J=>am (fun r=>r=I) aN J∧ ∃ cs,cG J ac I av ao k cs∧gk ao (gh (L.take i) o) cs) (by omega) ⟨am.refl _ _,_,aw.ext ae,by rw[List.take_zero];exact DE V.2 o⟩ ?_ ?_
 ·rintro i J aV hi ⟨Z,cs,af,aa⟩ aW;simp only[au,ag];refine⟨fun _=>?_,fun h=>by omega⟩;obtain⟨⟨t,c⟩,U⟩:∃ p,L[i]? =some p:=⟨_,x3 hi⟩;have aX:(t,c)∈D:=Y.1.mem_iff.1 (u5 U);obtain⟨aY,aZ,a1⟩:=aJ _ aX;have a2:=aA.ad ax Z fun r ay a6 he=>by
   have he:r=I:=he;rcases a6 with h|h
   ·have h:aq.heap.size≤r:=h;omega
   ·exact h
  refine mV (α:=List Int×Int) dp.p rfl ho.u dp.i a2 U fun us a7=>?_;obtain⟨bF,a8,A,B,rfl,bG,bH,_,h1,ba⟩:=a7;have bb:a8=[.int .i64 c]:=ba;subst bb;obtain⟨bc,rfl,_⟩:=id h1;have hu:=kz h1;refine bU dp.i fun be bI bJ bf aB=>?_;refine b9 (vs:=[bc,.int .i64 c]) dp.i rfl rfl (by intro v aD;simp at aD;rcases aD with rfl|rfl;exact hu.cells.2;rfl) aB fun bg bh bK aE=>?_;have bL:=aB.lt;have ai:Ext J bg:=bf.then bh (fun r ay he=>by have he:r=be:=he;omega);rw[ah dp.p rfl,al (by kernel_rfl) (aE.cell (o:=0+0) rfl),ah dp.p rfl,al (by kernel_rfl) (aE.cell (o:=0+1) rfl)];refine (A9 (af.ext ai) (hu.ext ai)).mono ?_;rintro _ bM _ ⟨rfl,bi,bj⟩;simp only[aL];refine aW _ ⟨(Z.trans (ai.ad _)).trans bi,_,bj,(aa.put V.2 aY aZ).congr fun s bN=>?_⟩;rw[o4,U];have aj:(L.map (·.1)).Nodup:=(Y.1.map (·.1)).nodup_iff.2 ap;have bk:∀ p∈L.take i,p.1≠t:=fun p X he=>by
   obtain⟨j,ak⟩:=X1.1 X;have bl:j<i:=by have:=(u4.1 ak).1;rw[l7] at this;omega
   rw[Z8 bl] at ak;have:=ia aj (i:=j) (j:=i) (x:=t) (by rw[r9,ak,Z0,he]) (by rw[r9,U];rfl);omega
  have bm:((L.take i).map (·.1)).Nodup:=by rw[List.map_take];exact (List.take_sublist _ _).nodup aj
  have bn:((L.take i++[(t,c)]).map (·.1)).Nodup:=by
   have e:L.take i++[(t,c)]=L.take (i+1):=by rw[o4,U];rfl
   rw[e,List.map_take];exact (List.take_sublist _ _).nodup aj
  exact ((xa bk a1).cost bm bn s).symm
 ·rintro J aV ⟨Z,cs,af,aa⟩;simp only[au,ag];refine⟨fun h=>by omega,fun _=>?_⟩;rw[l5] at aa;exact⟨((E.trans W).trans ae).then Z (fun r ay he=>by have he:r=I:=he;omega),fun h=>by omega,fun _=>⟨ac,I,av,cs,rfl,by omega,by omega,af,aa.congr fun s _=>DD ap Y.1 s⟩⟩
theorem DG {s cs t:List Int} (E:dN s) (I:cs.length=(aH s).toNat) {i:Nat} (h:(bK s)[i]? =some t):cs[i]? =some (cH s cs t):=by
 have hi:=(u4.1 h).1;rw[iK E,←I] at hi;unfold cH;rw[te E h];simp only[c7,p8,x3 hi,T4]
theorem rP {k:o8} {e:o6} {w:x5} {g:Nat} {v:x4} {l:List Int} (h:aq k e w g v l) (I:0<l.length):g<w.heap.size:=by
 obtain⟨_,⟨_,h1⟩|⟨_,_,_,E,_⟩⟩:=h
 ·omega
 ·exact E.lt
def eH (w:x5) (g m:Nat) (sv:x4) (gs:Nat) (ao:List Int) (k o:Int) (D:Told):Prop:=
 ak w g cL [sv,.int .i64 k,.int .i64 o,.map (some m)]∧aq .i64 J w gs sv ao∧cu w m (D.map ht)∧bV ao∧cF o k∧ ∀ p∈D,cM ao p.1∧cF p.2 k∧p.2≠o
theorem eH.is {w:x5} {g m gs:Nat} {sv:x4} {ao:List Int} {k o:Int} {D:Told} (h:eH w g m sv gs ao k o D):dO w g m ao k o D:=⟨⟨sv,gs,h.1,h.2.1⟩,h.2.2⟩
theorem dO.at {w:x5} {g m:Nat} {ao:List Int} {k o:Int} {D:Told} (h:dO w g m ao k o D):∃ sv gs,eH w g m sv gs ao k o D:=by
 obtain⟨⟨sv,gs,h1,E⟩,I⟩:=h;exact⟨sv,gs,h1,E,I⟩
theorem eH.ext {w w':x5} {g m gs:Nat} {sv:x4} {ao:List Int} {k o:Int} {D:Told} (h:eH w g m sv gs ao k o D) (E:Ext w w'):eH w' g m sv gs ao k o D:=by
 obtain⟨h1,I,J,O⟩:=h;exact⟨h1.ext E,I.ext E,J.ext E,O⟩
theorem eH.ad {S:Nat→Prop} {w w':x5} {g m gs:Nat} {sv:x4} {ao:List Int} {k o:Int} {D:Told} (h:eH w g m sv gs ao k o D) (E:am S w w') (I:¬S g) (hm:¬S m) (J:∀ r,leads sv r→¬S r):eH w' g m sv gs ao k o D:=by
 obtain⟨h1,O,U,V⟩:=h;exact⟨h1.ad E I,br O E J,U.ad E hm,V⟩
theorem rQ {w:x5} {g m:Nat} {e:o6} {cs:List x4} {d:List (x4×x4)} (h:ak w g e cs) (hm:cu w m d):g≠m:=by
 rintro rfl;obtain⟨E,c,h1,_⟩:=hm;unfold ak at h;rw[h1] at h;cases h
theorem yc {w:x5} {g m:Nat} {k:o8} {e:o6} {v:x4} {l:List Int} {d:List (x4×x4)} (h:aq k e w g v l) (hm:cu w m d) {r:Nat} (E:leads v r):r≠m:=by
 obtain⟨rfl,_⟩:=b1 h E;obtain⟨_,⟨rfl,_⟩|⟨_,_,_,I,_⟩⟩:=h
 ·obtain⟨a,n,c,h,_⟩:=E;cases h
 ·exact rQ I hm
theorem eH.put {w w':x5} {g m gs:Nat} {sv:x4} {ao:List Int} {k o:Int} {D E:Told} (h:eH w g m sv gs ao k o D) (I:am (fun r=>r=m) w w') (h':dO w' g m ao k o E):eH w' g m sv gs ao k o E:=
 ⟨h.1.ad I (fun he=>rQ h.1 h.2.2.1 he),br h.2.1 I (fun r J he=>yc h.2.1 h.2.2.1 J he),h'.2⟩
theorem eH.pL {w:x5} {g m gs:Nat} {sv:x4} {ao:List Int} {k o:Int} {D:Told} (h:eH w g m sv gs ao k o D):g<w.heap.size∧m<w.heap.size∧ ∀ r,leads sv r→r<w.heap.size:=
 ⟨h.1.lt,h.2.2.1.lt,fun r E=>by obtain⟨rfl,I⟩:=b1 h.2.1 E;exact I⟩
instance (s t:List Int):Decidable (cM s t):=decidable_of_iff ((cr s t 0).isSome=true) ⟨fun h=>by
 cases E:cr s t 0 with
 |none=>rw[E] at h;cases h
 |some n=>exact⟨n,E⟩,fun⟨n,h⟩=>by rw[h];rfl⟩
theorem rR {sv:x4} {l:List Int} {w:x5} (h:aG .i64 w sv l) (al:l.length≤1000000):O y0 jw [sv] w fun v w'=>Ext w w'∧ ∃ g,w.heap.size≤g∧aq .i64 J w' g v l:=by
 apply jw.enter;rw[aQ ae.u h];refine h0 (k:=.i64) ab.u J.i (by omega) (by omega) fun g W ao V X=>?_;have aa:aq .i64 J W g (.slice (some ⟨g,0,none⟩) l.length l.length) (p9 l.length 0):=by
  have:=bR.full (k:=1) (n:=l.length) X (by simp) (by simp[maxLen];omega);exact aq.of this
 rw[aQ ae.u (h.ext V)];have ap:=X.lt;refine bd.range l.length (fun i E=>am (fun r=>r=g) W E∧aq .i64 J E g (.slice (some ⟨g,0,none⟩) l.length l.length) (l.take i++p9 (l.length-i) 0)) h.le ⟨am.refl _ _,by simpa using aa⟩ ?_ ?_
 rotate_left
 ·rintro E ac ⟨U,I⟩;rw[au,ag];rw[l5,W7,List.replicate_zero,U2] at I;exact⟨fun h=>by omega,fun _=>⟨V.then U (fun r ad he=>by have he:r=g:=he;omega),g,by omega,I⟩⟩
 rintro i E ac hi ⟨U,I⟩ ah;obtain⟨x,Y⟩:∃ x,l[i]? =some x:=⟨_,x3 hi⟩;have ai:Ext w E:=V.then U (fun r ad he=>by have he:r=g:=he;omega);rw[au,ag];refine⟨fun _=>?_,fun h=>by omega⟩;rw[bw ae.u af.i (by kernel_rfl) (h.ext ai) Y];rw[gY rfl ab.u J.i I (by simp;omega)];refine gZ J.i I (by simp;omega) fun av aj aw Z=>?_;rw[aL];refine ah _ ⟨U.trans aj,?_⟩;have e:(l.take i++p9 (l.length-i) 0).set i x=l.take (i+1)++p9 (l.length-(i+1)) 0:=by
  have ak:(l.take i).length=i:=by rw[l7];omega
  rw[T2 _ _ (by omega),ak,W7,show l.length-i=(l.length-(i+1))+1 by omega,List.replicate_succ,List.set_cons_zero,o4,Y,c8,V0];rfl
 rw[e] at Z;exact Z
def DH (w:x5) (l:List Int) (k o:Int) (v:x4) (w':x5):Prop:=
 Ext w w'∧(¬bV l→v= .tuple #[.pointer none,.int .i64 1])∧(bV l→¬cF o k→v= .tuple #[.pointer none,.int .i64 3])∧
  (bV l→cF o k→ ∃ g m sv gs,v= .tuple #[.pointer (some ⟨g,0,none⟩),.int .i64 0]∧w.heap.size≤g∧w.heap.size≤m∧(∀ r,leads sv r→w.heap.size≤r)∧eH w' g m sv gs l k o [])
theorem DI {sv:x4} {l:List Int} {k o:Int} {w:x5} (h:aG .i64 w sv l):O y0 fB [sv,.int .i64 k,.int .i64 o] w (DH w l k o):=by
 apply fB.enter;refine aV (fun v Y=>Ext w Y∧ ∃ c,v= .bool c∧(c=true↔¬bV l)) ?_ ?_
 ·rintro _ Y ⟨J,c,rfl,U⟩;rw[cv];refine⟨fun Z=>⟨J,fun _=>rfl,fun h=>absurd h (U.1 Z),fun h=>absurd h (U.1 Z)⟩,fun ae=>?_⟩;have E:bV l:=Classical.byContradiction fun h=>by have:=U.2 h;rw[ae] at this;cases this
  have am:=E.1;refine lx.mono ?_;rintro _ af _ ⟨rfl,I⟩;by_cases hi:cF o k
  rotate_left
  ·simp only[hi,decide_false,b4,Y8,bm];exact⟨J.trans I,fun h=>absurd E h,fun _ _=>rfl,fun _ h=>absurd h hi⟩
  simp only[hi,decide_true,b4,Y7,aU];refine (jE ((h.ext J).ext I) (by omega)).mono ?_;rintro aa ao _ ⟨ac,ah,ap,hm⟩;have aq:=hm.ls.cells;refine ry fun m au av V ai=>?_;rw[cR (cs:=#[aa,.int .i64 k,.int .i64 o,.map (some m)]) (by obtain⟨_,_,_,_,_,rfl,_⟩:=hm.ls;kernel_rfl)];refine cc fun g aw ax W aj=>?_;have ay:=J.size;have az:=I.size;have aA:=ac.size;have aB:=V.size;exact⟨((((J.trans I).trans ac).trans V).trans W),fun h=>absurd E h,fun _ h=>absurd hi h,fun _ _=>⟨g,m,aa,ah,rfl,by omega,by omega,fun r ak=>by have:=(b1 hm ak).1;omega,aj,(hm.ext V).ext W,ai.ext W,E,hi,fun p al=>by cases al⟩⟩
 ·intro aC ad;rw[aQ ab.u h];simp only[bT,ag];refine⟨fun aD=>ad _ _ ⟨Ext.refl _,true,rfl,fun _ E=>by have:=E.1;omega,fun _=>rfl⟩,fun aE=>?_⟩;refine (w5 h).mono ?_;rintro _ af _ ⟨rfl,I⟩;refine ad _ _ ⟨I,_,rfl,?_⟩;rw[decide_eq_true_eq];exact⟨fun X E=>X E.2,fun X E=>X ⟨by omega,E⟩⟩
structure yd where
 ao:List Int
 k:Int
 o:Int
 D:Told
instance Hx:aA yd where
 n:=1
 rep _ _ R w cs a:=∃ g m sv gs,cs=[.pointer (some ⟨g,0,none⟩)]∧eH w g m sv gs a.ao a.k a.o a.D∧R g∧R m∧ ∀ r,leads sv r→R r
 len:=by rintro _ _ _ _ _ _ ⟨_,_,_,_,rfl,_⟩;rfl
 one:=by rintro _ _ _ _ _ _ ⟨_,_,_,_,rfl,_⟩ u hu;simp at hu;subst hu;rfl
 ad:=by
  rintro _ _ R T w w' _ a ⟨g,m,sv,gs,rfl,h1,I,J,O⟩ Z U;obtain⟨V,W,X⟩:=h1.pL;exact⟨g,m,sv,gs,rfl,h1.ad Z (U g V (.inr I)) (U m W (.inr J)) fun r E=>U r (X r E) (.inr (O r E)),I,J,O⟩
 mono:=by
  rintro _ _ _ R R' w _ a ⟨g,m,sv,gs,rfl,h1,I,J,O⟩ _ Y;obtain⟨V,W,X⟩:=h1.pL;exact⟨g,m,sv,gs,rfl,h1,Y g V I,Y m W J,fun r E=>Y r (X r E) (O r E)⟩
 fU:=by
  rintro _ _ R w _ a ⟨g,m,sv,gs,rfl,h1,I,J,O⟩;exact⟨g,m,sv,gs,rfl,h1,.inr I,.inr J,fun r E=>.inr (O r E)⟩
abbrev fp:Type:=Rd (List Int)×yd
def p5 (k:Int) (x:ca) (f:fp):Prop:=f.1=x.scope∧f.2.ao=x.sizes∧f.2.k=k∧f.2.o=min x.other k∧f.2.D.length≤x.lines.length∧ ∀ t,gh f.2.D f.2.o t=hs x k t
theorem DJ {m:Bool} {S R:av} {w:x5} {cs:List x4} {x:ca} (h:aA.rep m S R w cs (fo x)):∃ a7 aw bP,cs=[a7,aw,.int .i64 x.other,bP]∧aA.rep (α:=List Int) false bt R w [a7] x.scope∧aA.rep (α:=List Int) false bt R w [aw] x.sizes∧aA.rep (α:=List (List Int×Int)) false bt R w [bP] x.lines:=by
 obtain⟨O,d1,W,X,rfl,_,_,_,h1,U,d2,Y,Z,rfl,_,_,_,E,V,d3,aa,ab,rfl,_,_,_,J,I⟩:=h;have h1:aA.rep (α:=List Int) false bt R w O x.scope:=h1;have E:aA.rep (α:=List Int) false bt R w U x.sizes:=E;have J:V=[.int .i64 x.other]:=J;have I:aA.rep (α:=List (List Int×Int)) false bt R w d3 x.lines:=I;obtain⟨u,rfl⟩:=V6.1 (show O.length=1 from aA.len h1);obtain⟨v,rfl⟩:=V6.1 (show U.length=1 from aA.len E);obtain⟨y,rfl⟩:=V6.1 (show d3.length=1 from aA.len I);subst J;exact⟨u,v,y,rfl,h1,E,I⟩
theorem DK {m:Bool} {S R:av} {w:x5} {cs:List x4} {p:List Int×Int} (h:aA.rep m S R w cs p):∃ I,cs=[I,.int .i64 p.2]∧aG .i64 w I p.1:=by
 obtain⟨J,d1,O,U,rfl,_,_,_,h1,E⟩:=h;obtain⟨u,rfl⟩:=V6.1 (show J.length=1 from aA.len h1);have E:d1=[.int .i64 p.2]:=E;subst E;exact⟨u,rfl,kz h1⟩
structure rS (k:Int) (x:ca):Prop where
 k:right k
 sizes:bV x.sizes
 other:0≤x.other
 lines:kE x.sizes x.lines
 len:x.lines.length≤60000
 scope:x.scope.length≤100001
theorem c5 {k:o8} {w:x5} {v:x4} {l:List Int} (h:aG k w v l):∃ a n c,v= .slice a n c:=by
 obtain⟨_,b,o,base,cap,rfl,_⟩:=h;exact⟨_,_,_,rfl⟩
set_option maxHeartbeats 4000000 in
theorem DL {w:x5} {aQ:Nat} {bk bl bm:x4} {K:Int} {R:av} {cs:List x4} {x:ca} (aR:ak w aQ bg [bk,.int .i64 K,bl,bm]) (bn:Seen R w cs (fo x)) (bo:rS K x):
  O y0 k4 [.pointer (some ⟨aQ,0,none⟩),.agg cs.toArray] w fun v w'=>Ext w w'∧ ∃ aD,∃ f:fp,v= .agg aD.toArray∧aD.length=2∧Seen (dU w.heap.size) w' aD f∧p5 K x f:=by
 obtain⟨a7,aw,bP,rfl,h1,aS,aE⟩:=DJ bn;obtain⟨af,aF,bW,aT,bX,bY⟩:=bo;have bZ:x.sizes.length≤6:=aF.1;apply k4.enter;refine cc fun aP aU b2 aV V=>?_;have V:ak aU aP bf [a7,aw,.int .i64 x.other,bP]:=by
  obtain⟨_,_,_,rfl⟩:=jJ h1;obtain⟨_,_,_,rfl⟩:=jJ aS;obtain⟨_,_,_,rfl⟩:=jJ aE;exact V
 refine bU bj.i fun W aW b3 aG ai=>?_;have ai:ak aW W bj [.slice none 0 0,.pointer none]:=ai;intro b4 aj _ _;have aH:=(aV.trans aG).trans aj;have aI:=aG.trans aj;have b5:=aV.size;have b6:=aG.size;have z3:=aj.size;have b7:=ai.lt;have aX:=aR.ext aH;rw[ah bf.p rfl,al (by kernel_rfl) ((V.ext aI).cell (o:=0+1) rfl),az,ah bg.p rfl,al (by kernel_rfl) (aX.cell (o:=0+1) rfl),
  ah bf.p rfl,al (by kernel_rfl) ((V.ext aI).cell (o:=0+2) rfl),az,ah bg.p rfl,al (by kernel_rfl) (aX.cell (o:=0+1) rfl),jA]
 refine (rR ((kz aS).ext aH) (by omega)).mono ?_;rintro b8 cb _ ⟨Y,cd,ce,bp⟩;refine⟨.inl Y,?_⟩;have z4:=Y.size;have bq:cF (min x.other K) K:=⟨af,by have:=af.1;omega,by omega⟩;refine (DI bp.ls).mono ?_;rintro _ bu _ ⟨ao,_,_,bw⟩;obtain⟨ax,m,sv,gs,rfl,cg,ch,aY,bx⟩:=bw aF bq;rw[aC (v:=.pointer (some ⟨ax,0,none⟩)) rfl,aC (v:=.int .i64 0) rfl];have z5:=ao.size;have aJ:=(aH.trans Y).trans ao;have aZ:=(aI.trans Y).trans ao;rw[ah bf.p rfl,al (by kernel_rfl) ((V.ext aZ).cell (o:=0+3) rfl)];have a1:=dc aE aJ;rw[iJ eg.u a1];refine bd.range x.lines.length (fun i I=>am (fun r=>r=m) bu I∧ ∃ D,D.length≤i∧eH I ax m sv gs x.sizes K (min x.other K) D∧ ∀ t,gh D (min x.other K) t=iU x K i t) (sS a1) ⟨am.refl _ _,[],o7 _,bx,fun t=>by rw[xU];rfl⟩ ?_ ?_
 ·rintro i I bz hi ⟨U,D,a2,Z,aK⟩ bA;obtain⟨p,aM⟩:∃ p,x.lines[i]? =some p:=⟨_,x3 hi⟩;have a6:=aT.2 p (u5 aM);have aa:Ext w I:=aJ.then U (fun r E he=>by have he:r=m:=he;omega);have bB:=U.size;have bC:aA.rep (α:=List (List Int×Int)) false bt R I [bP] x.lines:=dc aE aa;rw[au,ag];refine⟨fun _=>?_,fun h=>by omega⟩;refine mV cB.p rfl eg.u cB.i bC aM fun ci bD=>?_;obtain⟨bE,rfl,a8⟩:=DK bD;refine bU cB.i fun bF cj ck ba bG=>?_;have cl:=ba.size;refine b9 (vs:=[bE,.int .i64 p.2]) cB.i rfl rfl (by intro v ab;simp at ab;rcases ab with rfl|rfl <;> first|exact a8.cells.2|rfl) bG fun bH bI cm bb=>?_;have bJ:Ext I bH:=ba.then bI (fun r E he=>by have he:r=bF:=he;omega);intro cn aN _ _;have X:=bJ.trans aN;have z9:=X.size;rw[ah cB.p rfl,al (by kernel_rfl) ((bb.ext aN).cell (o:=0+0) rfl),ah cB.p rfl,al (by kernel_rfl) ((bb.ext aN).cell (o:=0+1) rfl),az,ah bg.p rfl,al (by kernel_rfl) (((aR.ext aa).ext X).cell (o:=0+1) rfl),jA];have cp:=ts aF a6.1;refine (rR (a8.ext X) (by omega)).mono ?_;rintro cq cr _ ⟨ac,ct,cu,bK⟩;refine⟨.inl ac,?_⟩;have cw:=ac.size;refine (xd (c:=min p.2 K) ((Z.ext X).ext ac).is bK.ls).mono ?_;rintro _ cz _ ⟨_,bL⟩;have bM:cF (min p.2 K) K:=⟨af,by have:=af.1;omega,by omega⟩;obtain⟨rfl,bc,bN,be,bh⟩:=bL ⟨a6.1,bM⟩;rw[aL];refine bA _ ⟨(U.trans ((X.trans ac).ad _)).trans bc,bN,by have:=be.2;omega,eH.put ((Z.ext X).ext ac) bc bh,fun t=>?_⟩;rw[xW aT.1 aM,be.cost Z.is.nodup bh.nodup];by_cases ap:t=p.1
  ·rw[if_pos ap,if_pos ap]
  ·rw[if_neg ap,if_neg ap,aK]
 ·rintro I bz ⟨U,D,a2,Z,aK⟩;have aa:Ext w I:=aJ.then U (fun r E he=>by have he:r=m:=he;omega);have bO:Ext aU I:=aZ.then U (fun r E he=>by have he:r=m:=he;omega);have bB:=U.size;rw[au,ag];refine⟨fun h=>by omega,fun _=>?_⟩;rw[ah bf.p rfl,al (by kernel_rfl) ((V.ext bO).cell (o:=0+0) rfl)];refine (rR ((kz h1).ext aa) (by omega)).mono ?_;rintro ay cA _ ⟨aB,bQ,cC,ae⟩;have z12:=aB.size;rw[cR (cs:=#[ay,.pointer (some ⟨ax,0,none⟩)]) (by obtain⟨_,_,_,rfl⟩:=c5 ae.ls;kernel_rfl)];have bR:Ext aW I:=((aj.trans Y).trans ao).then U (fun r E he=>by have he:r=m:=he;omega);refine b9 (vs:=[ay,.pointer (some ⟨ax,0,none⟩)]) bj.i rfl rfl (by intro v ab;simp at ab;rcases ab with rfl|rfl <;> first|exact ae.ls.cells.2|rfl) ((ai.ext bR).ext aB) fun bi aO cD bS=>?_;rw[eB bj.p bj.i rfl bS.range];have bT:eH bi ax m sv gs x.sizes K (min x.other K) D:=(Z.ext aB).ad aO (fun he=>by have he:ax=W:=he;omega) (fun he=>by have he:m=W:=he;omega) (fun r E he=>by have he:r=W:=he;have:=aY r E;omega);have bV:aq .i64 J bi bQ ay x.scope:=br ae aO fun r E he=>by have he:r=W:=he;have:=(b1 ae E).1;omega
  refine⟨(aa.trans aB).then aO (fun r E he=>by have he:r=W:=he;omega),_,(x.scope,⟨x.sizes,K,min x.other K,D⟩),rfl,rfl,?_,rfl,rfl,rfl,rfl,a2,fun t=>?_⟩
  ·exact⟨[ay],[.pointer (some ⟨ax,0,none⟩)],bt,bt,rfl,fun _ h=>h,fun _ h=>h,fun _ _ h _=>h,p0 bV fun r E=>by have:=(b1 ae E).1;show w.heap.size≤r;omega,
    ⟨ax,m,sv,gs,rfl,bT,by show w.heap.size≤ax;omega,by show w.heap.size≤m;omega,fun r E=>by have:=aY r E;show w.heap.size≤r;omega⟩⟩
  ·rw[aK,xV]
theorem DM {S R:av} {w:x5} {cs:List x4} {f:fp} (h:aA.rep false S R w cs f):aA.rep (α:=fp) true bt R w cs f:=by
 obtain⟨c,d,A,B,rfl,h1,J,_,E,I⟩:=h;exact⟨c,d,bt,bt,rfl,fun _ h=>h,fun _ h=>h,fun _ _ h _=>h,E,I⟩
def rT (k:Int) (E:List ca) (I:List fp):Prop:=I.length=E.length∧ ∀ (i:Nat) x f,E[i]? =some x→I[i]? =some f→p5 k x f
set_option maxHeartbeats 4000000 in
theorem DN {w:x5} {E:Nat} {m:Bool} {S R:av} {aE aw aN:x4} {K:Int} {V:List ca} {a2:x5→Prop} (a6:ak w E bg [aE,.int .i64 K,aw,.slice none 0 0])
  (bo:aA.rep m S R w [aN] (show List fH from V.map fo)) (bp:∀ r,S r∨R r→r≠E) (bq:∀ x∈V,rS K x) (cd:V.length≤256)
  (br:∀ w' Z,∀ W:List fp,am (fun r=>r=E) w w'→ak w' E bg [aE,.int .i64 K,aw,Z]→Seen (fun r=>w.heap.size≤r) w' [Z] W→rT K V W→a2 w'):
  bd (.int .i64 0) w fun aO ae bu=>
   I y0 (U .lss J false false aO (.int .i64 (V.length:Int))) ae fun bw=>
   Split bw (I y0 (x7 e7 aN aO) ae fun bx=>
   I y0 (x1 bf bx) ae fun bz=>
   aa y0 (n0 bf true (.tuple #[])) ae fun x bA=>
   aa y0 (x6 bf x bz) bA fun(_:Unit) bB=>
   aS bB fun ac=>
   I y0 (aj (.pointer (some ⟨E,0,none⟩))) ac fun af=>
   I y0 (x2 bg af 3) ac fun ao=>
   I y0 (x1 bO ao) ac fun aQ=>
   I y0 (x1 bf x) ac fun bC=>
   O y0 k4 [(.pointer (some ⟨E,0,none⟩)),bC] ac fun bD ap=>
    (Ext ac ap∨ai y0 (x1 bO ao) aQ ap∧ai y0 (x2 bg af 3) ao ap∧ai y0 (aj (.pointer (some ⟨E,0,none⟩))) af ap∧True)∧
   aa y0 (u9 bO 1 #[(0,bD)]) ap fun bE aq=>
    (Ext ac aq∨ai y0 (x1 bO ao) aQ aq∧ai y0 (x2 bg af 3) ao aq∧ai y0 (aj (.pointer (some ⟨E,0,none⟩))) af aq∧True)∧
    aa y0 (r8 #[bO,bO] bO #[aQ,bE]) aq fun bF aR=>
     I y0 (aj (.pointer (some ⟨E,0,none⟩))) aR fun bG=>
     I y0 (x2 bg bG 3) aR fun bI=>
     aa y0 (x6 bO bI bF) aR fun(_:Unit) a7=>
     I y0 (U .add J false true aO (.int .i64 1)) a7 fun bJ=>
   bu bJ a7) (a2 ae):=by
 have ce:=a6.lt;have cg:(V.map fo).length=V.length:=by simp
 refine bd.range V.length (fun i X=>am (fun r=>r=E) w X∧ ∃ Z,∃ W:List fp,∃ A R':av,ak X E bg [aE,.int .i64 K,aw,Z]∧dx A R' X [Z] W∧(∀ r,A r→w.heap.size≤r∧r<X.heap.size)∧(∀ r,R' r→w.heap.size≤r∧¬A r∧r<X.heap.size)∧rT K (V.take i) W) (by omega)
  ⟨am.refl _ _,_,[],bt,bt,a6,iI,fun _ h=>h.elim,fun _ h=>h.elim,rfl,fun i x f h=>by simp at h⟩ ?_ ?_
 rotate_left
 ·rintro X bK ⟨ax,Z,W,A,R',ay,aT,ab,aB,aF⟩;rw[l5] at aF;rw[au,ag];refine⟨fun h=>by omega,fun _=>br X Z W ax ay (q3 aT fun r _ h=>?_) aF⟩;exact h.elim (fun h=>(ab r h).1) fun h=>(aB r h).1
 rintro i X bK hi ⟨ax,Z,W,A,R',ay,aT,ab,aB,a8,aF⟩ bL;obtain⟨x,aU⟩:∃ x,V[i]? =some x:=⟨_,x3 hi⟩;have bM:=bq x (u5 aU);have ch:=ax.size;rw[l7] at a8;have bP:aA.rep m S R X [aN] (show List fH from V.map fo):=aA.ad bo ax fun r _ h he=>bp r h he;rw[au,ag];refine⟨fun _=>?_,fun h=>by omega⟩;refine mV (α:=fH) (a:=fo x) bf.p rfl e7.u bf.i bP (by show (V.map fo)[i]? =_;rw[r9,aU];rfl) fun cs aV=>?_;have ba:cs.length=4:=aA.len aV;have bQ:Seen (fun r=>S r∨R r) X cs (fo x):=q3 aV fun r _ h=>h;refine bU bf.i fun aP ci cj bb bR=>?_;have ck:=bb.size;refine b9 (vs:=cs) bf.i ba rfl (aA.one aV) bR fun bS bT cl bV=>?_;have bW:Ext X bS:=bb.then bT (fun r Y he=>by have he:r=aP:=he;omega);intro aG bc _ _;have aC:=bW.trans bc;have z4:=aC.size;rw[az,ah bg.p rfl,al (by kernel_rfl) ((ay.ext aC).cell (o:=0+3) rfl),bN bf.p bf.i ba (bV.ext bc).range];refine (DL (ay.ext aC) (dc bQ aC) bM).mono ?_;rintro _ aH _ ⟨aI,be,f,rfl,cm,bh,bX⟩;have z5:=aI.size;refine⟨.inl aI,?_⟩;have bi:=DM bh;have bY:=aC.trans aI;refine lw (α:=fp) (a:=f) (cs:=be) (A:=bt) (R:=dU aG.heap.size) bO.u bj.i (by decide) (by
  obtain⟨c,d,cn,cp,he,_,_,_,aJ,bZ⟩:=bh;have aJ:aA.rep (α:=List Int) false bt _ aH c f.1:=aJ;obtain⟨u,rfl⟩:=V6.1 (show c.length=1 from aA.len aJ);obtain⟨cq,cr,ct,cu,rfl,_⟩:=bZ;obtain⟨_,_,_,rfl⟩:=jJ aJ;cases he;rfl) bi fun u aW aK _ hu=>?_
 have cw:=aK.size;refine⟨.inl (aI.trans aK),?_⟩;have aX:=bY.trans aK;have b1:dx A (fun r=>R' r∨(aG.heap.size≤r∧r<aH.heap.size)) aW [Z] W:=dc (aA.mono aT (fun _ _ h=>h) fun _ _ h=>.inl h) aX;have b2:dx bt (fun r=>R' r∨(aG.heap.size≤r∧r<aH.heap.size)) aW be f:=dc (aA.mono bi (fun _ _ h=>h) fun r Y h=>.inr ⟨h,Y⟩) aK;refine mW (α:=fp) (a:=f) (A:=bt) bO.u bj.i rfl b1 hu b2 (fun r _ bk h=>?_) (by omega) (by omega) fun bl b3 aY aZ=>?_
 ·rcases h with h|h|h
  ·exact h
  ·exact (aB r h).2.1 bk
  ·have:=(ab r bk).2;omega
 have cz:=aZ.size;rw[az,ah bg.p rfl];have b4:=(ay.ext aX).ad aZ (fun he=>by have:=(ab _ he).1;omega);refine bH (g:=E) (o:=3) bO.i (q4 aY) (sR aY) b4 (by simp) fun b5 bm cA a1=>?_;have a1:ak b5 E bg [aE,.int .i64 K,aw,bl]:=a1;rw[aL];have b6:=kw aY;refine bL _ ⟨(fD (ax.trans (aX.ad _)) aZ fun r Y he=>by have:=(ab _ he).1;omega).trans bm,bl,W++[f],fun r=>((A r∨bt r∨aW.heap.size≤r)∧r<b3.heap.size),fun r=>R' r∨(aG.heap.size≤r∧r<aH.heap.size),a1,aA.ad b6 bm fun r _ h he=>?_,fun r Y=>?_,fun r Y=>?_,?_,fun j b7 b8 aM aD=>?_⟩
 ·have he:r=E:=he;rcases h with h|h|h
  ·rcases h.1 with h1|h1|h1
   ·have:=(ab _ h1).1;omega
   ·exact h1
   ·omega
  ·have:=(aB r h).1;omega
  ·omega
 ·have cB:=Y.2;rcases Y.1 with h1|h1|h1
  ·have:=(ab _ h1).1;omega
  ·exact h1.elim
  ·omega
 ·rcases Y with Y|Y
  ·have bn:=aB r Y;refine⟨bn.1,fun h=>?_,by omega⟩;rcases h.1 with h1|h1|h1
   ·exact bn.2.1 h1
   ·exact h1
   ·omega
  ·refine⟨by omega,fun h=>?_,by omega⟩;rcases h.1 with h1|h1|h1
   ·have:=(ab _ h1).2;omega
   ·exact h1
   ·omega
 ·rw[o5,l7,a8];simp;omega
 ·have cb:=(u4.1 aD).1;rw[o5,T3] at cb;rw[Z8 (by omega)] at aM;by_cases cc:j<W.length
  ·rw[Y0 cc] at aD;exact aF j b7 b8 (by rw[Z8 (by omega)];exact aM) aD
  ·rw[Y3 (by omega),show j-W.length=0 by omega] at aD;rw[show j=i by omega,aU] at aM;cases aD;cases aM;exact bX
def iV (w:x5) (O:Nat) (f:bW):Prop:=∃ aw E U,∃ I:List fp,ak w O bg [bx f.name,.int .i64 f.k,aw,E]∧aq .i64 J w U aw f.sizes∧Seen vw w [E] I∧rT f.k f.funs I
theorem iV.ext {w w':x5} {I:Nat} {f:bW} (h:iV w I f) (E:Ext w w'):iV w' I f:=by
 obtain⟨aw,J,O,U,h1,V,W,X⟩:=h;exact⟨aw,J,O,U,h1.ext E,V.ext E,dc W E,X⟩
def ye (w:x5) (res:Option bW) (v:x4) (w':x5):Prop:=Ext w w'∧match res with
 |none=>∃ n e:Int,v= .tuple #[.pointer none,.int .i64 n,.int .i64 e]∧e≠0
 |some f=>∃ E,∃ n:Int,v= .tuple #[.pointer (some ⟨E,0,none⟩),.int .i64 n,.int .i64 0]∧iV w' E f
structure DO (clean:Bool) (so:Option ay) (name:List Int) (k:Int) (sizes:List Int) (acc:List fH) (res:Option bW):Prop where
 nh:∀ s,so=some s→s.toks=[]→clean=true→s.big=false→ ∃ fs,acc=fs.map fo∧res=some ⟨name,k,sizes,fs⟩∧(∀ x∈fs,rS k x)∧fs.length≤256∧sizes.length≤1000000
 bad:res≠none→ ∃ s,so=some s∧s.toks=[]∧clean=true∧s.big=false
set_option maxHeartbeats 8000000 in
theorem DP {w0 w:x5} {g gs:Nat} {A B S R:av} {m clean:Bool} {so:Option ay} {name sizes:List Int} {k:Int} {acc:List fH} {res:Option bW} {aw aT p:x4} {bQ:List Int} {Q:x4→x5→Prop}
  (a7:fm w g gs A B clean so) (aq:DO clean so name k sizes acc res) (bR:aG .i64 w aw sizes) (bS:∀ r,leads aw r→r≠g∧r≠gs) (bT:aA.rep m S R w [aT] acc) (bw:∀ r,S r∨R r→r≠g∧r≠gs∧r<w.heap.size)
  (dm:so=none→True) (dn:g<w.heap.size) (dp:gs<w.heap.size) (bU:am (fun r=>w0.heap.size≤r) w0 w) (dq:w0.heap.size≤g) (dr:w0.heap.size≤gs) (bV:aG .u8 w0 p bQ)
  (aH:∀ v w',ye w0 res v w'→Q v w'):
  aB (α:=x5→Prop) (fun(E:x5)=>
  I y0 (aj (.pointer (some ⟨g,0,none⟩))) E fun bX=>
  I y0 (x2 bn bX 1) E fun bY=>
  I y0 (x2 cP bY 0) E fun bZ=>
  I y0 (x1 bJ bZ) E fun b1=>
  I y0 (U .neq bJ false true b1 (.int .i64 0)) E fun b2=>
  Split b2 (aS E fun ab=>
   I y0 (aj (.pointer (some ⟨g,0,none⟩))) ab fun b3=>
   I y0 (x2 bn b3 1) ab fun b4=>
   I y0 (x2 cP b4 2) ab fun b5=>
   I y0 (x1 J b5) ab fun b6=>
   I y0 (aj (.pointer (some ⟨g,0,none⟩))) ab fun b7=>
   I y0 (x2 bn b7 1) ab fun b8=>
   I y0 (x2 cP b8 0) ab fun b9=>
   I y0 (x1 bJ b9) ab fun ca=>
   Q (.tuple #[(.pointer none),b6,ca]) ab)
   (I y0 (aj (.pointer (some ⟨g,0,none⟩))) E fun cb=>
   I y0 (x2 bn cb 1) E fun cd=>
   I y0 (x2 cP cd 1) E fun ce=>
   I y0 (x1 bJ ce) E fun cg=>
   I y0 (U .neq bJ false true cg (.int .i64 0)) E fun ch=>
   Split ch (aS E fun ac=>
   I y0 (aj (.pointer (some ⟨g,0,none⟩))) ac fun ci=>
   I y0 (x2 bn ci 1) ac fun cj=>
   I y0 (x2 cP cj 3) ac fun ck=>
   I y0 (x1 J ck) ac fun cl=>
   I y0 (aj (.pointer (some ⟨g,0,none⟩))) ac fun cm=>
   I y0 (x2 bn cm 1) ac fun cn=>
   I y0 (x2 cP cn 1) ac fun cp=>
   I y0 (x1 bJ cp) ac fun cq=>
   Q (.tuple #[(.pointer none),cl,cq]) ac)
   (O y0 jw [aw] E fun cr bz=>
  I y0 (Z3 bg #[(0,bx name),(1,.int .i64 k),(2,cr)]) bz fun ct=>
  aa y0 (Z5 bg ct) bz fun au bA=>
  I y0 (u6 #[e7] J #[aT]) bA fun cu=>
  bd (.int .i64 0) bA fun a8 ax cw=>
   I y0 (U .lss J false false a8 cu) ax fun cz=>
   Split cz (I y0 (x7 e7 aT a8) ax fun cA=>
   I y0 (x1 bf cA) ax fun cB=>
   aa y0 (n0 bf true (.tuple #[])) ax fun x cC=>
   aa y0 (x6 bf x cB) cC fun(_:Unit) cD=>
   aS cD fun ap=>
   I y0 (aj au) ap fun aI=>
   I y0 (x2 bg aI 3) ap fun aJ=>
   I y0 (x1 bO aJ) ap fun ba=>
   I y0 (x1 bf x) ap fun cE=>
   O y0 k4 [au,cE] ap fun cF aK=>
    (Ext ap aK∨ai y0 (x1 bO aJ) ba aK∧ai y0 (x2 bg aI 3) aJ aK∧ai y0 (aj au) aI aK∧True)∧
   aa y0 (u9 bO 1 #[(0,cF)]) aK fun cG aL=>
    (Ext ap aL∨ai y0 (x1 bO aJ) ba aL∧ai y0 (x2 bg aI 3) aJ aL∧ai y0 (aj au) aI aL∧True)∧
    aa y0 (r8 #[bO,bO] bO #[ba,cG]) aL fun cH bb=>
     I y0 (aj au) bb fun cJ=>
     I y0 (x2 bg cJ 3) bb fun cK=>
     aa y0 (x6 bO cK cH) bb fun(_:Unit) bB=>
     I y0 (U .add J false true a8 (.int .i64 1)) bB fun cL=>
   cw cL bB)
    (I y0 (u6 #[aX] J #[p]) ax fun cM=>
  Q (.tuple #[au,cM,(.int .i64 0)]) ax)))) fun aV=>
 O y0 ef [(.pointer (some ⟨g,0,none⟩))] w fun cN aM=>
 Split cN (I y0 (aj (.pointer (some ⟨g,0,none⟩))) aM fun cO=>
  I y0 (x2 bn cO 0) aM fun cQ=>
  I y0 (x1 lf cQ) aM fun cS=>
  O y0 iD [cS] aM fun bc ao=>
  I y0 (x8 bc 0) ao fun ds=>
  I y0 (x8 bc 1) ao fun bD=>
  I y0 (x8 bc 2) ao fun be=>
  I y0 (U .eql bJ false true be (.int .i64 0)) ao fun cT=>
  Split cT (O y0 fh [(.pointer (some ⟨g,0,none⟩)),(.int .i64 4),bD] ao fun dt cU=>
  aV cU)
  (I y0 (U .eql bJ false true be (.int .i64 11)) ao fun cV=>
  Split cV (O y0 fh [(.pointer (some ⟨g,0,none⟩)),be,bD] ao fun du cW=>
   aV cW)
   (aV ao)))
  (aV aM):=by
 refine dG (fun E=>am (fun r=>r=g∨r=gs) w E∧ ∃ (e big ae af told:Int) (sv:x4),ak E g bn (eE gs e big ae af told sv)∧((e≠0∧res=none)∨(e=0∧ ∃ s,so=some s∧s.toks=[]∧clean=true∧(s.big=true↔big≠0)))) ?_ ?_
 rotate_left
 ·intro cX bh;refine (xG a7).mono ?_;rintro _ aW _ ⟨rfl,aN⟩;cases so with
  |none=>
   rw[show (none:Option ay).isSome=false from rfl,aU];obtain⟨e,big,ae,af,told,sv,W,bi⟩:=a7.ext aN;refine bh _ ⟨aN.ad _,e,big,ae,af,told,sv,W,.inl ⟨bi,?_⟩⟩;cases Z:res with
   |none=>rfl
   |some f=>obtain⟨s,h,_⟩:=aq.bad (by rw[Z];simp);cases h
  |some s=>
   rw[show (some s:Option ay).isSome=true from rfl,bm];have cY:cI aW g gs A B s clean:=a7.ext aN;obtain⟨aY,cZ,c0,big,ae,af,told,sv,W,bi,c1⟩:=id cY;rw[az,ah bn.p rfl,al (by kernel_rfl) (W.cell (o:=0+0) rfl)];refine (pJ cZ).mono ?_;rintro v aO _ ⟨aD,aE⟩;have c2:(s.toks≠[]∨clean=false)→res=none:=fun V=>by
    cases Z:res with
    |none=>rfl
    |some f=>
     obtain⟨s',h,aP,bE,_⟩:=aq.bad (by rw[Z];simp);cases h;rcases V with V|V
     ·exact absurd aP V
     ·rw[V] at bE;cases bE
   have aZ:∀ X,am (fun r=>r=g) aO X→dH X g gs A B→(s.toks≠[]∨clean=false)→cX X:=fun X aR aZ V=>by
    obtain⟨_,e,big,ae,af,told,sv,l,c3,c4,_⟩:=aZ;exact bh _ ⟨((aN.ad _).trans (aD.mono fun r _ h=>.inr h)).trans (aR.mono fun r _ h=>.inl h),e,big,ae,af,told,sv,c3,.inl ⟨c4.1,c2 V⟩⟩
   have bj:=W.ad aD aY.1;have bF:=aA.ad c1 aD fun r _ h aP=>by
    have aP:r=gs:=aP;subst aP;rcases h with h|h
    ·exact aY.2.2.1 h
    ·exact h.1 (.inr (.inl rfl))
   have bG:s.shared.length≤100000:=by have:=c0.2.2;omega
   cases aF:s.toks with
   |cons t l=>
    rw[aF] at aE;obtain⟨dv,n,rfl⟩:=aE;rw[aC (v:=bx t) rfl,aC (v:=.int .i64 n) rfl,aC (v:=.int .i64 0) rfl,bM,ag];refine⟨fun _=>?_,fun h=>absurd rfl h⟩;refine (rq (aY.ad aD) bj bF (by omega) bG).mono ?_;rintro _ X _ ⟨aR,bk⟩;exact aZ X aR bk (.inl (by rw[aF];simp))
   |nil=>
    rw[aF] at aE;obtain⟨n,rfl⟩:=aE;rw[aC (v:=bx []) rfl,aC (v:=.int .i64 n) rfl,aC (v:=.int .i64 (if clean then 2 else 11)) rfl,bM,ag];refine⟨fun h=>by cases clean <;> simp at h,fun _=>?_⟩;rw[bM,ag];cases a1:clean with
    |true=>
     subst a1;refine⟨fun h=>by simp at h,fun _=>bh _ ⟨(aN.ad _).trans (aD.mono fun r _ h=>.inr h),0,big,ae,af,told,sv,bj,.inr ⟨rfl,s,rfl,aF,rfl,bi.1⟩⟩⟩
    |false=>
     subst a1;refine⟨fun _=>?_,fun h=>absurd rfl h⟩;refine (rq (aY.ad aD) bj bF (by simp) bG).mono ?_;rintro _ X _ ⟨aR,bk⟩;exact aZ X aR bk (.inr rfl)
 ·rintro aW ⟨a2,e,big,ae,af,told,sv,W,c6⟩;have dw:=a2.size;have bl:Ext w0 aW:=(bU.ext fun r Z h=>by omega).then a2 (fun r Z h=>by rcases h with h|h <;> omega);rw[az,ah bn.p rfl,ah cP.p rfl,al (by kernel_rfl) (W.cell (o:=0+1+0) rfl),bC,ag];rcases c6 with⟨he,bo⟩|⟨rfl,s,rfl,aF,a1,bH⟩
  ·refine⟨fun _=>?_,fun h=>absurd he h⟩;intro aO Y _ _;rw[az,ah bn.p rfl,ah cP.p rfl,al (by kernel_rfl) ((W.ext Y).cell (o:=0+1+2) rfl),az,ah bn.p rfl,ah cP.p rfl,al (by kernel_rfl) ((W.ext Y).cell (o:=0+1+0) rfl)];rw[bo] at aH;exact aH _ _ ⟨bl.trans Y,ae,e,rfl,he⟩
  ·refine⟨fun h=>absurd rfl h,fun _=>?_⟩;rw[az,ah bn.p rfl,ah cP.p rfl,al (by kernel_rfl) (W.cell (o:=0+1+1) rfl),bC,ag];refine⟨fun V=>?_,fun V=>?_⟩
   ·have bo:res=none:=by
     cases Z:res with
     |none=>rfl
     |some f=>
      obtain⟨s',h,_,_,bI⟩:=aq.bad (by rw[Z];simp);cases h;rw[bH.2 V] at bI;cases bI
    intro aO Y _ _;rw[az,ah bn.p rfl,ah cP.p rfl,al (by kernel_rfl) ((W.ext Y).cell (o:=0+1+3) rfl),az,ah bn.p rfl,ah cP.p rfl,al (by kernel_rfl) ((W.ext Y).cell (o:=0+1+1) rfl)];rw[bo] at aH;exact aH _ _ ⟨bl.trans Y,af,big,rfl,V⟩
   ·have c7:s.big=false:=by
     cases c8:s.big with
     |false=>rfl
     |true=>exact absurd (bH.1 c8) V
    obtain⟨bp,rfl,rfl,c9,da,db⟩:=aq.nh s rfl aF a1 c7;have dd:aG .i64 aW aw sizes:=hr bR a2 fun r Z a n c aE aq=>by
     have:=bS r ⟨a,n,c,aE,aq⟩;exact Z.elim this.1 this.2
    refine (rR dd db).mono ?_;rintro bq aO _ ⟨Y,de,dx,br⟩;have dy:=Y.size;rw[cR (cs:=#[bx name,.int .i64 k,bq,.slice none 0 0]) (by obtain⟨_,_,_,rfl⟩:=c5 br.ls;kernel_rfl)];refine cc fun bt X dz bu a6=>?_;have a6:ak X bt bg [bx name,.int .i64 k,bq,.slice none 0 0]:=by obtain⟨_,_,_,rfl⟩:=c5 br.ls;exact a6
    have bK:aA.rep m S R X [aT] (show List fH from bp.map fo):=dc (dc (aA.ad bT a2 fun r _ h he=>by have:=bw r h;exact he.elim this.1 this.2.1) Y) bu;have df:(bp.map fo).length=bp.length:=by simp
    rw[iJ e7.u bK,df];refine DN a6 bK (fun r h=>by have:=bw r h;omega) c9 da fun bL dg dh di dj dk dl=>?_;have dA:=a6.lt;have z3:=bu.size;have bN:Ext aO bL:=bu.then di (fun r Z h=>by have h:r=bt:=h;omega);have bP:Ext w0 bL:=(bl.trans Y).trans bN;rw[aQ aX.u (bV.ext bP)];exact aH _ _ ⟨bP,bt,_,rfl,bq,dg,de,dh,dj,br.ext bN,AR dk,dl⟩
theorem yf {α:Type} {f:List α→ay→Option (α×ay)} {n:Nat} {acc:List α} {s:ay}:ev f (n+1) acc (some s)=match f acc s with
  |none=>none
  |some (a,s')=>ev f n (acc++[a]) (some s'):=by
 show ck f (n+1) acc s=_;simp only[ck];cases f acc s <;> rfl
set_option maxHeartbeats 4000000 in
theorem DQ {w:x5} {g gs N:Nat} {A B:av} {s:Option ay} {clean:Bool} {most:Int} {aA:x4→x5→Prop} (h:cN w g gs A B clean s) (aZ:(N:Int)≤ap)
  (aD:∀ aw w' l so E,am (bu g gs A) w w'→cN w' g gs A B clean so→aq .i64 af w' E aw l→w.heap.size≤E→l.length≤100001→(∀ q,ev (eK most) N [] s=some q→so=some q.2∧l=q.1)→(ev (eK most) N [] s=none→so=none)→aA aw w'):
 ba (.slice none 0 0) (.int .i64 0) w fun sizes i ac k=>
  aB (α:=x4→x5→Prop) (fun(a1:x4) (aE:x5)=>
   Split a1 (O y0 ez [.pointer (some ⟨g,0,none⟩),(.int .i64 1),.int .i64 most] aE fun aF Y=>
  I y0 (x8 aF 0) Y fun aG=>
  I y0 (x8 aF 1) Y fun a2=>
  I y0 (U .gtr af false true aG (.int .i64 32)) Y fun a6=>
  O y0 fz [.pointer (some ⟨g,0,none⟩),a6,a2] Y fun bN a7=>
  aa y0 (u9 ae 1 #[(0,aG)]) a7 fun bb bc=>
  aa y0 (r8 #[ae,ae] ae #[sizes,bb]) bc fun bd aH=>
  I y0 (U .add af false true i (.int .i64 1)) aH fun be=>
  k bd be aH) (aA sizes aE)) fun ah=>
  I y0 (U .lss af false false i (.int .i64 (N:Int))) ac fun bf=>
  Split bf (O y0 ef [.pointer (some ⟨g,0,none⟩)] ac fun bg bh=>
  ah bg bh)
   (ah (.bool false) ac):=by
 obtain⟨bO,aI,bP,bi,bj⟩:=h.side;have ax:∀ r,bu g gs A r→r<w.heap.size:=bi;unfold ap at aZ;generalize bk:ev (eK most) N [] s=aJ at aD;refine⟨fun out ai W=>∃ (i:Nat) (l:List Int) (so:Option ay) (E:Nat),ai= .int .i64 (i:Int)∧i≤N∧am (bu g gs A) w W∧aq .i64 af W E out l∧w.heap.size≤E∧cN W g gs A B clean so∧aJ=ev (eK most) (N-i) l so∧l.length≤100001∧ ∀ st,so=some st→l.length+st.toks.length≤100000,
  fun _ ai _=>N-(bQ ai).toNat,⟨0,[],s,w.heap.size,rfl,Y1 _,am.refl _ _,aq.nil _ _ _ _,o7 _,h,bk.symm,by simp,fun st bl=>?_⟩,?_⟩
 ·subst bl;have:=h.words;simpa using this
 rintro out _ W ⟨i,l,so,E,rfl,bR,aj,aK,bn,aM,Z,bo,aN⟩;refine aV (fun v aO=>Ext W aO∧((v= .bool true∧i<N∧ ∃ st,so=some st)∨(v= .bool false∧(so=none∨i=N)))) ?_ ?_
 rotate_left
 ·intro ah ak;rw[au,ag];refine⟨fun bp=>?_,fun bS=>ak _ _ ⟨Ext.refl _,.inr ⟨rfl,.inr (by omega)⟩⟩⟩;refine (nl aM).mono ?_;rintro _ aO _ ⟨rfl,aP⟩;cases so with
  |none=>exact ak _ _ ⟨aP,.inr ⟨rfl,.inl rfl⟩⟩
  |some st=>exact ak _ _ ⟨aP,.inl ⟨rfl,by omega,st,rfl⟩⟩
 rintro _ bq ⟨X,bt⟩;have aQ:=aK.ext X;have aR:=aM.ext X;rcases bt with⟨rfl,bp,st,rfl⟩|⟨rfl,bw⟩
 rotate_left
 ·rw[aU];have aS:aJ=so.map fun st=>(l,st):=by
   rcases bw with rfl|rfl
   ·exact Z
   ·rw[W7] at Z;rw[Z];cases so <;> rfl
  refine aD out bq l so E (aj.trans (X.ad _)) aR aQ bn bo (fun q J=>?_) fun aT=>?_
  ·rw[aS] at J;cases so with
   |none=>cases J
   |some st=>cases J;exact⟨rfl,rfl⟩
  ·rw[aS] at aT;cases so with
   |none=>rfl
   |some st=>cases aT
 rw[bm];have aN:=aN st rfl;refine (jI (s:=some st) aR).mono ?_;rintro _ bU _ ⟨al,z,at_,rfl,bx,bV⟩;obtain⟨ao,bz⟩:=al.of;rw[aC (v:=.int .i64 z) rfl,aC (v:=.int .i64 at_) rfl,bT];refine (pY bz).mono ?_;rintro _ bW _ al;obtain⟨az,bA⟩:=al.of;refine dT ae.u af.i rfl fun a bX bB bY ab bC=>?_;have bZ:=aj.size;have b2:=X.size;have z3:=ao.size;have z4:=az.size;have z5:=ab.size;have aX:∀ r,leads out r→¬bu g gs A r:=fun r V bD=>by have:=ax r bD;have:=(b1 aK V).1;omega
 have bE:=br (br aQ ao aX) az aX;refine gW ae.u af.i rfl (bE.ext ab) bC.ls (by simp;omega) (by simp;omega) fun b3 bF bG b4 bH aY=>?_;rw[aL,wrap_i64 (by omega) (by omega)];have bI:am (bu g gs A) w bB:=((((aj.trans (X.ad _)).trans ao).trans az).trans (ab.ad _));have bJ:am (bu g gs A) w bG:=fD bI aY fun r V he=>by have he:r=E:=he;omega
 have bK:∀ r,bu g gs A r→¬(fun r=>r=E) r:=fun r V he=>by have:=ax r V;have he:r=E:=he;omega
 have bL:∀ r,ce g gs A B r→¬(fun r=>r=E) r:=fun r V he=>by have:=bj r V.2;have he:r=E:=he;omega
 refine⟨⟨i+1,l++[z],_,bF,rfl,by omega,bJ,bH,by omega,(bA.ext ab).ad aY bK bL,?_,by simp;omega,fun b5 bM=>?_⟩,by simp only[bQ];omega⟩
 ·rw[Z,show N-i=(N-(i+1))+1 by omega,yf];unfold eK;cases J:a8 1 most st with
  |none=>have e:aW 1 most (some st)=none:=J;rw[e];rfl
  |some q=>
   have e:aW 1 most (some st)=some q:=J;have:=bx q e;subst this;rw[e];rfl
 ·obtain⟨b6,aI,rfl⟩:=Z6.1 bM;obtain⟨q,J,rfl⟩:=Z6.1 aI;have h1:=(c0 (n:=q.1) (s':=q.2) J).1;simp only[o5,T3];show l.length+1+q.2.toks.length≤100000;omega
theorem DR {sizes:List Int} {acc:List (List Int×Int)} {s s':ay} {a:List Int×Int} (h:de sizes acc s=some (a,s')):s'.told=s.told∧s'.big=s.big:=by
 obtain⟨_,_,_,E⟩:=nb h;exact⟨E.eqs.1,E.eqs.2.1⟩
theorem DS {sizes:List Int} {s s':ay} {l:List (List Int×Int)} (hi:dg s) (h:df sizes s=some (l,s')):dg s'∧(s.big=true→s'.big=true):=by
 have e:=xD sizes (some s);rw[show gD sizes (some s)=df sizes s from rfl,h] at e;cases O:aW (-ap) ap (some s) with
 |none=>rw[O] at e;cases e
 |some q=>
  obtain⟨n,I⟩:=q;rw[O] at e;simp only at e;have h1:=(c0 (n:=n) (s':=I) O).eqs;have W:dg I:=fun E=>by rw[h1.1];rw[h1.2.1] at E;exact hi E
  split at e
  ·cases V:I.shared[(-n-1).toNat]? with
   |none=>rw[V] at e;cases e
   |some q=>
    obtain⟨z,l'⟩:=q;rw[V] at e;simp only at e;split at e
    ·cases e;exact⟨W,fun E=>by rw[h1.2.1];exact E⟩
    ·cases e
  ·have:=h8 (f:=de sizes) (fun acc t=>t.told=(hy n I).told∧t.big=(hy n I).big) (fun acc t a X ⟨U,J⟩ g=>by
    have:=DR g;exact⟨by rw[this.1,U],by rw[this.2,J]⟩) n.toNat [] _ l s' ⟨rfl,rfl⟩ e.symm
   obtain⟨⟨U,J⟩,_⟩:=this;refine⟨fun E=>by rw[U];rw[J] at E;exact Dd n I E,fun E=>?_⟩;rw[J];show (I.big||_)=true;rw[h1.2.1,E];rfl
theorem DT {all:List Int} {s s':ay} {x:ca} (hi:dg s) (h:cC all s=some (x,s')):dg s'∧s'.toks.length<s.toks.length:=by
 unfold cC at h;cases O:a8 (-ap) ap s with
 |none=>rw[O] at h;cases h
 |some q=>
 obtain⟨a,ab⟩:=q;rw[O] at h;simp only at h;have t0:=c0 O;cases h1:ea all.length a.natAbs ab with
 |none=>rw[h1] at h;cases h
 |some q=>
 obtain⟨sc,I⟩:=q;rw[h1] at h;simp only at h;obtain⟨U,_⟩:=tk h1;generalize sc.map (fun v=>all.getD v.toNat 0)=sizes at h;cases V:a8 0 ap (aY (decide (6<a.natAbs)||cS sizes) I) with
 |none=>rw[V] at h;cases h
 |some q=>
 obtain⟨other,W⟩:=q;rw[V] at h;simp only at h;have X:=c0 V;have ac:dg W:=fun E=>by
  rw[X.eqs.1];rw[X.eqs.2.1] at E;have E:(I.big||_)=false:=E;have Z:=(U4.1 E).1;show I.told≤16384;rw[U.eqs.1,t0.eqs.1];rw[U.eqs.2.1,t0.eqs.2.1] at Z;exact hi Z
 cases J:df sizes W with
 |none=>rw[J] at h;cases h
 |some q=>
 obtain⟨lines,Y⟩:=q;rw[J] at h;simp only[Z9,V8] at h;obtain⟨_,rfl⟩:=h;have ad:=DS ac J;have ag:=xK J;have ah:=t0.1;have ai:=U.1;have aj:I.toks.length=W.toks.length+1:=X.1;have aa:∀ t:ay,t.told=Y.told∧t.big=Y.big∧t.toks=Y.toks→dg t∧t.toks.length<s.toks.length:=fun t ⟨ae,af,a3⟩=>⟨fun E=>by rw[ae];rw[af] at E;exact ad.1 E,by rw[a3];omega⟩;split
 ·exact aa _ ⟨rfl,rfl,rfl⟩
 ·exact aa _ ⟨rfl,rfl,rfl⟩
theorem DU {S R:av} {w:x5} {cs:List x4} {x:fH} (h:aA.rep false S R w cs x):aA.rep (α:=fH) true bt R w cs x∧(x4.agg cs.toArray).cells=cs.toArray:=by
 obtain⟨O,d1,W,X,rfl,_,_,_,h1,U,d2,Y,Z,rfl,_,_,_,E,V,d3,aa,ab,rfl,_,_,_,J,I⟩:=h;have h1:aA.rep (α:=List Int) false bt R w O x.1:=h1;have E:aA.rep (α:=List Int) false bt R w U x.2.1:=E;have J:V=[.int .i64 x.2.2.1]:=J;have I:aA.rep (α:=List (List Int×Int)) false bt R w d3 x.2.2.2:=I;refine⟨⟨O,_,bt,bt,rfl,fun _ h=>h,fun _ h=>h,fun _ _ h _=>h,h1,U,_,bt,bt,rfl,fun _ h=>h,fun _ h=>h,fun _ _ h _=>h,E,V,d3,bt,bt,rfl,fun _ h=>h,fun _ h=>h,fun _ _ h _=>h,J,I⟩,?_⟩;obtain⟨u,rfl⟩:=V6.1 (show O.length=1 from aA.len h1);obtain⟨v,rfl⟩:=V6.1 (show U.length=1 from aA.len E);obtain⟨y,rfl⟩:=V6.1 (show d3.length=1 from aA.len I);obtain⟨_,_,_,rfl⟩:=jJ h1;obtain⟨_,_,_,rfl⟩:=jJ E;obtain⟨_,_,_,rfl⟩:=jJ I;subst J;rfl
set_option maxHeartbeats 8000000 in
theorem DV {w0 w:x5} {g gs c:Nat} {A B:av} {o:Option ay} {clean:Bool} {ak:x4} {all:List Int} {a6:x4→x5→Prop} (a7:fm w g gs A B clean o) (hi:∀ s,o=some s→dg s) (bO:(c:Int)≤ap)
  (bP:aG .i64 w ak all) (a8:∀ r,leads ak r→r≠g∧r≠gs∧r<w.heap.size∧(o≠none→¬A r)) (bR:o≠none→ ∀ z∈all,1≤z∧z≤ap) (bS:all.length≤100001) (bT:eF w) (h1:1<w0.heap.size∧(o≠none→ce g gs A B 1))
  (bb:am (fun r=>w0.heap.size≤r) w0 w) (bU:w0.heap.size≤g) (bV:w0.heap.size≤gs) (cJ:g<w.heap.size∧gs<w.heap.size) (bW:o≠none→ ∀ r,A r→w0.heap.size≤r)
  (bc:∀ al w' acc so Y W bd be,am (fun r=>w0.heap.size≤r) w0 w'→w.heap.size≤w'.heap.size→fm w' g gs Y W clean so→aA.rep (α:=List fH) true bd be w' [al] acc→(∀ r,bd r∨be r→r≠g∧r≠gs∧r<w'.heap.size)→aG .i64 w' ak all→
   (∀ q,ev (fun _ s=>cC all s) c [] o=some q→so=some q.2∧acc=q.1.map fo)→(ev (fun _ s=>cC all s) c [] o=none→so=none)→a6 al w'):
 ba (.slice none 0 0) (.int .i64 0) w fun funs bg aP bX=>
  aB (α:=x4→x5→Prop) (fun(bY:x4) (bh:x5)=>
   Split bY (O y0 mm [.pointer (some ⟨g,0,none⟩),ak] bh fun bZ b1=>
  aa y0 (u9 e7 1 #[(0,bZ)]) b1 fun b2 b3=>
  aa y0 (r8 #[e7,e7] e7 #[funs,b2]) b3 fun b4 bi=>
  I y0 (U .add af false true bg (.int .i64 1)) bi fun b5=>
  bX b4 b5 bi) (a6 funs bh)) fun bj=>
  I y0 (U .lss af false false bg (.int .i64 (c:Int))) aP fun b6=>
  Split b6 (O y0 ef [.pointer (some ⟨g,0,none⟩)] aP fun b7 b8=>
  bj b7 b8)
   (bj (.bool false) aP):=by
 unfold ap at bO;generalize J:ev (fun _ s=>cC all s) c [] o=bk at bc;have bl:∀ s,o=some s→o≠none:=fun s h=>by rw[h];simp
 refine⟨fun al aQ ah=>∃ (i:Nat) (acc:List fH) (ac:List ca) (so:Option ay) (X ai Z ao:av),aQ= .int .i64 (i:Int)∧i≤c∧am (fun r=>w0.heap.size≤r) w0 ah∧w.heap.size≤ah.heap.size∧fm ah g gs X ai clean so∧aA.rep true Z ao ah [al] acc∧
   aG .i64 ah ak all∧eF ah∧bk=ev (fun _ s=>cC all s) (c-i) ac so∧(∀ r,Z r→w.heap.size≤r∧r<ah.heap.size)∧(∀ r,ao r→r≠g∧r≠gs∧¬Z r)∧
   ∀ s,so=some s→acc=ac.map fo∧dg s∧ac.length+s.toks.length≤100000∧o≠none∧(∀ r,X r→A r∨w.heap.size≤r)∧(∀ r,X r→w0.heap.size≤r)∧(∀ r,B r→ai r)∧(∀ r,Z r→¬ai r∧¬X r)∧(∀ r,ao r→ce g gs X ai r),
  fun _ aQ _=>c-(bQ aQ).toNat,⟨0,[],[],o,A,B,bt,bt,rfl,Y1 _,bb,o7 _,a7,iI,bP,bT,J.symm,fun _ h=>h.elim,fun _ h=>h.elim,fun s aH=>⟨rfl,hi s aH,?_,bl s aH,fun r E=>.inl E,bW (bl s aH),fun r E=>E,fun _ h=>h.elim,fun _ h=>h.elim⟩⟩,?_⟩
 ·subst aH;have aR:cI w g gs A B s clean:=a7;have:=aR.2.1.words.1;simpa using this
 rintro al _ ah ⟨i,acc,ac,so,X,ai,Z,ao,rfl,cK,b9,cL,bn,cb,aS,bo,aI,ab,cc,bp⟩;refine aV (fun v bq=>Ext ah bq∧((v= .bool true∧i<c∧ ∃ st,so=some st)∨(v= .bool false∧(so=none∨i=c)))) ?_ ?_
 rotate_left
 ·intro cM aT;rw[au,ag];refine⟨fun br=>?_,fun cN=>aT _ _ ⟨Ext.refl _,.inr ⟨rfl,.inr (by omega)⟩⟩⟩;refine (xG bn).mono ?_;rintro _ bq _ ⟨rfl,bw⟩;cases so with
  |none=>exact aT _ _ ⟨bw,.inr ⟨rfl,.inl rfl⟩⟩
  |some st=>exact aT _ _ ⟨bw,.inl ⟨rfl,by omega,st,rfl⟩⟩
 rintro _ aq ⟨aj,cd⟩;have cO:=aj.size;have aC:=bn.ext aj;have bx:=dc cb aj;have bz:am (fun r=>w0.heap.size≤r) w0 aq:=b9.trans (aj.ad _);rcases cd with⟨rfl,br,st,rfl⟩|⟨rfl,cg⟩
 rotate_left
 ·rw[aU];have bA:bk=so.map fun st=>(ac,st):=by
   rcases cg with rfl|rfl
   ·exact aI
   ·rw[W7] at aI;rw[aI];cases so <;> rfl
  refine bc al aq acc so X ai Z (fun r=>ao r∧r<aq.heap.size) bz (by omega) aC (aA.mono bx (fun _ _ h=>h) fun r E h=>⟨h,E⟩) (fun r E=>?_) (aS.ext aj) (fun q ae=>?_) fun bB=>?_
  ·rcases E with E|E
   ·have:=ab r E;exact⟨by omega,by omega,by omega⟩
   ·have:=cc r E.1;exact⟨this.1,this.2.1,E.2⟩
  ·rw[bA] at ae;cases so with
   |none=>cases ae
   |some st=>cases ae;exact⟨rfl,(bp _ rfl).1⟩
  ·rw[bA] at bB;cases so with
   |none=>rfl
   |some st=>cases bB
 rw[bm];obtain⟨rfl,bC,cP,aJ,bD,aW,bE,aK,bF⟩:=bp st rfl;have aC:cI aq g gs X ai st clean:=aC;obtain⟨cQ,cR,cS,cT,cU⟩:=aC.1;have ch:=h1.2 aJ;have bG:ce g gs X ai 1:=⟨fun J=>by
  rcases J with J|J|J
  ·omega
  ·omega
  ·have:=aW 1 J;omega,bE 1 ch.2⟩
 have bH:∀ r,leads ak r→¬bu g gs X r∧r<aq.heap.size:=fun r E=>by
  obtain⟨ci,cj,ck,cl⟩:=a8 r E;refine⟨fun J=>?_,by omega⟩;rcases J with J|J|J
  ·exact ci J
  ·exact cj J
  ·rcases bD r J with h|h
   ·exact cl aJ h
   ·omega
 refine (Do aC bC (aS.ext aj) bH (bR aJ) bS (bo.ext aj) bG).mono ?_;rintro _ cm _ ⟨Y,W,cs,aX,rfl,cV,aD,aE,aY,bI,bJ,cn,cp⟩;have z3:=aD.size;obtain⟨bK,cq⟩:=DU cn;refine lw (α:=fH) (a:=aX) (cs:=cs) (A:=bt) (R:=ce g gs Y W) e7.u bf.i (by decide) cq bK fun u aM aw _ hu=>?_;have z4:=aw.size;have cr:∀ r,r<aq.heap.size→Z r∨ao r→¬bu g gs X r:=fun r E h J=>by
  rcases h with h|h
  ·have V:=ab r h;rcases J with J|J|J
   ·omega
   ·omega
   ·exact (aK r h).2 J
  ·exact (bF r h).1 J
 have ct:∀ r,r<aq.heap.size→ce g gs X ai r→ce g gs Y W r:=fun r E h=>⟨fun J=>h.1 (J.imp id (Or.imp id fun J=>(aE r J).elim id fun h'=>by omega)),bI r h.2⟩;have cu:dx Z (ce g gs Y W) aM [al] (ac.map fo):=dc (aA.ad (aA.mono (S':=Z) (R':=fun r=>ce g gs Y W r∧ao r) bx (fun _ _ h=>h) fun r E h=>⟨ct r E (bF r h),h⟩) aD fun r E h=>cr r E (h.imp id fun h=>h.2) |> fun h=>h) aw |> fun h=>aA.mono h (fun _ _ h=>h) fun _ _ h=>h.1;have aN:∀ r,Z r→¬W r:=fun r h aO=>by
  have V:=ab r h;rcases (aY r aO).1 with ax|ax
  ·exact (aK r h).1 ax
  ·have aZ:=(ab r h).2;omega
 have cW:(ac.map fo).length=ac.length:=by simp
 refine mW (α:=fH) (a:=aX) (A:=bt) e7.u bf.i rfl cu hu (dc bK aw) (fun r _ cw h=>?_) (by omega) (by omega) fun cX az cz aF=>?_
 ·rcases h with h|h
  ·exact h
  ·exact aN r cw h.2
 have z5:=aF.size;rw[aL,wrap_i64 (by omega) (by omega)];have cA:am (fun r=>w0.heap.size≤r) w0 aM:=(bz.trans (aD.mono fun r _ J=>by
  rcases J with rfl|rfl|J
  ·exact bU
  ·exact bV
  ·exact aW r J)).trans (aw.ad _)
 have z0:=bb.size;have cB:am (fun r=>w0.heap.size≤r) w0 az:=cA.trans (aF.mono fun r _ h=>by have:=(ab r h).1;omega);have cD:aG .i64 aM ak all:=(hr (aS.ext aj) aD fun r E a n c a1 a2=>(bH r ⟨a,n,c,a1,a2⟩).1 E).ext aw;have cE:aG .i64 az ak all:=hr cD aF fun r E a n c a1 a2=>by
  have ck:=(a8 r ⟨a,n,c,a1,a2⟩).2.2.1;have:=(ab r E).1;omega
 have cF:eF az:=(((bo.ext aj).ad aD bG.1).ext aw).ad aF fun h=>by have:=(ab 1 h).1;omega
 have bL:fm az g gs Y W clean ((cC all st).map (·.2)):=by
  refine fm.ad (bJ.ext aw) aF (fun h=>by have:=ab _ h;omega) (fun r E cY h=>?_) (fun r E h=>aN r h E.2);have V:=ab r h;rcases E with rfl|rfl|E
  ·omega
  ·omega
  ·rcases aE r E with ax|ax
   ·exact (aK r h).2 ax
   ·omega
 have cG:=kw cz;refine⟨⟨i+1,(ac.map fo)++[aX],ac++((cC all st).map (·.1)).toList,(cC all st).map (·.2),Y,W,fun r=>(Z r∨bt r∨aM.heap.size≤r)∧r<az.heap.size,ce g gs Y W,rfl,by omega,cB,by omega,bL,cG,cE,cF,?_,fun r E=>⟨?_,E.2⟩,fun r E=>⟨fun h=>E.1 (.inl h),fun h=>E.1 (.inr (.inl h)),fun h=>?_⟩,fun s' cH=>?_⟩,by simp only[bQ];omega⟩
 ·rw[aI,show c-i=(c-(i+1))+1 by omega,yf];cases ae:cC all st with
  |none=>rfl
  |some q=>rfl
 ·rcases E.1 with h|h|h
  ·exact (ab r h).1
  ·exact h.elim
  ·omega
 ·rcases h.1 with V|V|V
  ·exact aN r V E.2
  ·exact V
  ·have:=(aY r E.2).2;omega
 ·obtain⟨q,ae,rfl⟩:=Z6.1 cH;have V:=DT (s':=q.2) (x:=q.1) bC ae;have ax:=cp q ae;refine⟨?_,V.1,?_,aJ,fun r E=>?_,fun r E=>?_,fun r E=>bI r (bE r E),fun r E=>⟨fun aO=>?_,fun bM=>?_⟩,fun r E=>E⟩
  ·rw[ae,ax];simp
  ·rw[ae];simp only[Z0,c8,o5,T3];omega
  ·rcases aE r E with h|h
   ·exact bD r h
   ·exact .inr (by omega)
  ·rcases aE r E with h|h
   ·exact aW r h
   ·omega
  ·rcases E.1 with V|V|V
   ·exact aN r V aO
   ·exact V
   ·have:=(aY r aO).2;omega
  ·have cZ:fm az g gs Y W clean ((cC all st).map (·.2)):=bL;have bN:=bJ;rw[ae] at bN;have aR:cI cm g gs Y W q.2 clean:=bN;have br:=aR.1.2.2.2.1 r (.inr (.inr bM));rcases E.1 with V|V|V
   ·rcases aE r bM with aZ|aZ
    ·exact (aK r V).2 aZ
    ·have:=(ab r V).2;omega
   ·exact V
   ·omega
theorem dg.num {lo hi n:Int} {s s':ay} (I:dg s) (h:a8 lo hi s=some (n,s')):dg s':=fun E=>by
 have h1:=(c0 h).eqs;rw[h1.1];rw[h1.2.1] at E;exact I E
theorem dg.big {b:Bool} {s:ay} (h:dg s):dg (aY b s):=fun E=>by
 have E:(s.big||b)=false:=E;exact h (U4.1 E).1
theorem dg.word {w:List Int} {s s':ay} (h:dg s) (hw:dd s=some (w,s')):dg s':=fun E=>by
 have h1:=(rm hw).2;rw[h1] at E ⊢;exact h E
theorem DW {most:Int} {N:Nat} {s s':ay} {l:List Int} (hi:dg s) (hm:most≤ap) (h:ck (eK most) N [] s=some (l,s')):dg s'∧(∀ z∈l,1≤z∧z≤ap)∧l.length+s'.toks.length≤s.toks.length:=by
 have:=h8 (f:=eK most) (fun acc t=>dg t∧(∀ z∈acc,1≤z∧z≤ap)∧acc.length+t.toks.length≤s.toks.length) (fun acc t a V ⟨h1,J,W⟩ g=>by
  unfold eK at g;cases E:a8 1 most t with
  |none=>rw[E] at g;cases g
  |some q=>
   obtain⟨z,O⟩:=q;rw[E] at g;simp only[Z9,V8] at g;obtain⟨rfl,rfl⟩:=g;have X:=(fO E).1;have Y:=(c0 E).1;refine⟨(h1.num E).big,fun x I=>?_,?_⟩
   ·rcases n9.1 I with I|I
    ·exact J x I
    ·rw[o9.1 I];omega
   ·simp only[o5,T3];show acc.length+1+O.toks.length≤_;omega) N [] s l s' ⟨hi,fun z U=>(by cases U),by simp⟩ h
 exact this.1
theorem DX {s0:ay} {name sizes:List Int} {n most cnt k:Int} {so6:Option ay}
  (h1:∀ q,dd s0=some q→name=q.1)
  (V:∀ q,aW 1 ap (((dd s0).map (·.2)).map (aY (decide (64<(name.length:Int)))))=some q→n=q.1)
  (U:∀ q,aW 1 ap (((aW 1 ap (((dd s0).map (·.2)).map (aY (decide (64<(name.length:Int)))))).map (·.2)).map (aY (decide (64<n))))=some q→most=q.1)
  (O:∀ q,aW 0 ap ((aW 1 ap (((aW 1 ap (((dd s0).map (·.2)).map (aY (decide (64<(name.length:Int)))))).map (·.2)).map (aY (decide (64<n))))).map (·.2))=some q→cnt=q.1)
  (J:∀ q,aW 1 ap (((aW 0 ap ((aW 1 ap (((aW 1 ap (((dd s0).map (·.2)).map (aY (decide (64<(name.length:Int)))))).map (·.2)).map (aY (decide (64<n))))).map (·.2))).map (·.2)).map (aY (decide (256<cnt))))=some q→k=q.1)
  (I:∀ q,ev (eK most) n.toNat [] (((aW 1 ap (((aW 0 ap ((aW 1 ap (((aW 1 ap (((dd s0).map (·.2)).map (aY (decide (64<(name.length:Int)))))).map (·.2)).map (aY (decide (64<n))))).map (·.2))).map (·.2)).map (aY (decide (256<cnt))))).map (·.2)).map (aY (decide (2147483648<k))))=some q→so6=some q.2∧sizes=q.1)
  (E:ev (eK most) n.toNat [] (((aW 1 ap (((aW 0 ap ((aW 1 ap (((aW 1 ap (((dd s0).map (·.2)).map (aY (decide (64<(name.length:Int)))))).map (·.2)).map (aY (decide (64<n))))).map (·.2))).map (·.2)).map (aY (decide (256<cnt))))).map (·.2)).map (aY (decide (2147483648<k))))=none→so6=none):
  fN s0=(ev (fun _ s=>cC sizes s) cnt.toNat [] so6).map fun q=>((⟨name,k,sizes,q.1⟩:bW),q.2):=by
 unfold fN;cases aa:dd s0 with
 |none=>
  rw[aa] at E;rw[E rfl];rfl
 |some ak=>
 obtain⟨aF,al⟩:=ak;rw[aa] at h1 V U O J I E;have:=h1 _ rfl;subst this;have am:decide (64<(name.length:Int))=decide (64<name.length):=by rw[W5,decide_eq_true_eq,decide_eq_true_eq];omega
 rw[am] at V U O J I E;simp only[Z0] at V U O J I E ⊢;generalize aY (decide (64<name.length)) al=X at*;cases ab:a8 1 ap X with
 |none=>
  rw[show aW 1 ap (some X)=none from ab] at E;rw[E rfl];rfl
 |some ao=>
 obtain⟨aq,ac⟩:=ao;rw[show aW 1 ap (some X)=some (aq,ac) from ab] at V U O J I E;have:=V _ rfl;subst this;simp only[Z0] at U O J I E ⊢;generalize aY (decide (64<n)) ac=Y at*;cases ad:a8 1 ap Y with
 |none=>
  rw[show aW 1 ap (some Y)=none from ad] at E;rw[E rfl];rfl
 |some au=>
 obtain⟨av,W⟩:=au;rw[show aW 1 ap (some Y)=some (av,W) from ad] at U O J I E;have:=U _ rfl;subst this;simp only[Z0] at O J I E ⊢;cases ae:a8 0 ap W with
 |none=>
  rw[show aW 0 ap (some W)=none from ae] at E;rw[E rfl];rfl
 |some aw=>
 obtain⟨ax,af⟩:=aw;rw[show aW 0 ap (some W)=some (ax,af) from ae] at O J I E;have:=O _ rfl;subst this;simp only[Z0] at J I E ⊢;generalize aY (decide (256<cnt)) af=Z at*;cases ag:a8 1 ap Z with
 |none=>
  rw[show aW 1 ap (some Z)=none from ag] at E;rw[E rfl];rfl
 |some az=>
 obtain⟨aA,ah⟩:=az;rw[show aW 1 ap (some Z)=some (aA,ah) from ag] at J I E;have:=J _ rfl;subst this;simp only[Z0] at I E ⊢;generalize aY (decide (2147483648<k)) ah=aB at*;cases ai:ck (eK most) n.toNat [] aB with
 |none=>
  rw[E ai];rfl
 |some aC=>
 obtain⟨aG,aj⟩:=aC;obtain⟨aD,aE⟩:=I _ ai;subst aE;rw[aD];simp only;show _=W6 _ (ck (fun _ s=>cC sizes s) cnt.toNat [] aj);cases ck (fun _ s=>cC sizes s) cnt.toNat [] aj <;> rfl
theorem DY {N:Nat} {f:bW} (E:eh N f) (V:N≤60000):∀ x∈f.funs,rS f.k x:=fun x J=>by
 obtain⟨h1,O,W⟩:=E.funs x J;refine⟨E.k,⟨?_,fun z I=>?_⟩,h1.other,h1.lines,by have:=h1.len;omega,by omega⟩
 ·rw[h1.sizes,o3];exact O
 ·rw[h1.sizes] at I;obtain⟨v,U,rfl⟩:=l9.1 I;have:=h1.scope.2 v U;refine E.sizes.2.2 _ ?_;rw[p8,x3 (by omega)];exact List.getElem_mem _
set_option maxHeartbeats 8000000 in
theorem DZ {w:x5} {p:x4} {V:List Int} (ak:aG .u8 w p V) (bb:Bytes V) (cd:V.length≤60000) (aE:eF w):O y0 n1 [p] w (ye w (e8 V)):=by
 have bc:1<w.heap.size:=by
  have:=aE 0 (.int .u64 1) rfl;obtain⟨c,e,f,bd,_⟩:=sO this;exact (l6.1 bd).1
 have ce:ap=4611686018427387904:=rfl;apply n1.enter;rw[aQ aX.u ak,bT,ag];refine⟨fun h=>by omega,fun _=>?_⟩;refine (wg ak bb (by omega)).mono ?_;rintro _ ab _ ⟨aF,gs,rfl,cg,be,al⟩;rw[cR (cs:=#[.pointer (some ⟨gs,0,none⟩),.int .i64 0,.int .i64 0,.int .i64 0,.int .i64 0,.int .i64 0,.slice none 0 0]) (by kernel_rfl)];refine cc fun g ae ch ao aH=>?_;have ci:=aF.size;have cj:=ao.size;have bf:=aH.lt;have ck:gs<ab.heap.size:=al.2.2.2.1.lt;have cl:=pv _ V (o7 _);let s0:ay:=⟨(lex V).1,0,false,[]⟩;let B0:av:=fun r=>r<ab.heap.size;have bg:cI ae g gs bt B0 s0 (lex V).2:=by
  refine⟨⟨by omega,fun h=>h,fun h=>h,fun r I=>?_,fun r I=>by have I:r<ab.heap.size:=I;omega⟩,⟨be,V,0,al.ext ao,fun r I=>?_,by rw[List.drop_zero]⟩,⟨by show (0:Int)≤0;omega,by show (0:Int)≤ap;omega,by show (([]:List (List Int×List (List Int×Int))).length+(lex V).1.length≤100000);simp;omega⟩,0,0,0,0,.slice none 0 0,aH,⟨by simp[s0],fun _=>rfl⟩,iI (α:=gB)⟩
  ·rcases I with rfl|rfl|I
   ·exact bf
   ·omega
   ·exact I.elim
  ·obtain⟨_,_,_,af,cm,hm⟩:=al;have Z:=b1 hm I;have aa:=bZ hm af (by decide) I;exact⟨fun X=>by
    rcases X with X|X|X
    ·omega
    ·exact aa X
    ·exact X,by show r<ab.heap.size;omega⟩
 have aq:∀ r,bu g gs bt r→w.heap.size≤r:=fun r I=>by
  rcases I with rfl|rfl|I
  ·omega
  ·omega
  ·exact I.elim
 refine (wR bg).mono ?_;rintro _ cn _ ⟨U,name,bh,rfl,cp,cq,bi⟩;obtain⟨bj,bk⟩:=eL.of U;rw[aC (v:=bx name) rfl,aC (v:=.int .i64 bh) rfl,lB a1.u,bT];refine (pY bk).mono ?_;rintro _ cr _ U;obtain⟨bl,bm⟩:=U.of;refine (jI (lo:=1) (hi:=ap) bm).mono ?_;rintro _ ct _ ⟨U,n,bn,rfl,aI,bo⟩;obtain⟨bp,bq⟩:=U.of;rw[aC (v:=.int .i64 n) rfl,aC (v:=.int .i64 bn) rfl,bT];refine (pY bq).mono ?_;rintro _ cu _ U;obtain⟨br,bw⟩:=U.of;refine (jI (lo:=1) (hi:=ap) bw).mono ?_;rintro _ cw _ ⟨U,most,bz,rfl,aJ,bA⟩;obtain⟨bB,bC⟩:=U.of;rw[aC (v:=.int .i64 most) rfl,aC (v:=.int .i64 bz) rfl];refine (jI (lo:=0) (hi:=ap) bC).mono ?_;rintro _ cz _ ⟨U,cnt,bD,rfl,aK,bE⟩;obtain⟨bF,bG⟩:=U.of;rw[aC (v:=.int .i64 cnt) rfl,aC (v:=.int .i64 bD) rfl,bT];refine (pY bG).mono ?_;rintro _ cA _ U;obtain⟨bH,bI⟩:=U.of;refine (jI (lo:=1) (hi:=ap) bI).mono ?_;rintro _ cB _ ⟨U,k,bJ,rfl,bK,cD⟩;obtain⟨bL,bM⟩:=U.of;rw[aC (v:=.int .i64 k) rfl,aC (v:=.int .i64 bJ) rfl,bT];refine (pY bM).mono ?_;rintro _ aL _ U;obtain⟨bN,au⟩:=U.of;have aM:am (bu g gs bt) ae aL:=(((((((bj.trans bl).trans bp).trans br).trans bB).trans bF).trans bH).trans bL).trans bN;have ax:∀ {lo:Int} {o:Option ay} {x:Int},0≤lo→lo≤1→(∀ q,aW lo ap o=some q→x=q.1)→(aW lo ap o=none→x=0)→0≤x∧x≤ap:=fun {lo o x} cE h1 W bO=>by
  cases E:aW lo ap o with
  |none=>rw[bO E];omega
  |some q=>
   have Z:=kH (n:=q.1) (s':=q.2) E;rw[W q E];omega
 have cF:=ax (by omega) (by omega) aI bo;have cG:=ax (by omega) (by omega) aK bE;have cH:=ax (by omega) (by omega) aJ bA;obtain⟨N,bP⟩:∃ N:Nat,n=(N:Int):=⟨n.toNat,by omega⟩;obtain⟨C,bQ⟩:∃ C:Nat,cnt=(C:Int):=⟨cnt.toNat,by omega⟩;have bR:n.toNat=N:=by omega
 have bS:cnt.toNat=C:=by omega
 have bU:dg s0:=fun _=>by show (0:Int)≤16384;omega
 have ah:∀ {o:Option ay} {b:Bool},(∀ s,o=some s→dg s)→ ∀ s,o.map (aY b)=some s→dg s:=fun h s W=>by
  obtain⟨t,az,rfl⟩:=Z6.1 W;exact (h t az).big
 have ai:∀ {o:Option ay} {lo hi:Int},(∀ s,o=some s→dg s)→ ∀ s,(aW lo hi o).map (·.2)=some s→dg s:=fun {o lo hi} h s W=>by
  obtain⟨q,E,rfl⟩:=Z6.1 W;cases o with
  |none=>cases E
  |some t=>exact (h t rfl).num (n:=q.1) (s':=q.2) E
 have bV:∀ s,(dd s0).map (·.2)=some s→dg s:=fun s W=>by
  obtain⟨q,E,rfl⟩:=Z6.1 W;exact bU.word (w:=q.1) (s':=q.2) E
 have aN:=ah (b:=decide (2147483648<k)) (ai (lo:=1) (hi:=ap) (ah (b:=decide (256<cnt)) (ai (lo:=0) (hi:=ap) (ai (lo:=1) (hi:=ap) (ah (b:=decide (64<n)) (ai (lo:=1) (hi:=ap) (ah (b:=decide (64<(name.length:Int))) bV)))))));have J:=fun(sizes:List Int) (so6:Option ay)=>DX (s0:=s0) (name:=name) (sizes:=sizes) (n:=n) (most:=most) (cnt:=cnt) (k:=k) (so6:=so6) bi aI aJ aK bK;rw[bR] at J;generalize cJ:W6 (aY (decide (2147483648<k))) (W6 (fun x=>x.2) (aW 1 ap (W6 (aY (decide (256<cnt))) (W6 (fun x=>x.2) (aW 0 ap (W6 (fun x=>x.2) (aW 1 ap (W6 (aY (decide (64<n))) (W6 (fun x=>x.2) (aW 1 ap (W6 (aY (decide (64<(name.length:Int)))) (W6 (fun x=>x.2) (dd s0)))))))))))))=aO at aN au J;rw[bP];refine DQ (N:=N) (most:=most) au (by omega) fun aw aA sizes so6 cK bX aP aR cL bY aS aT=>?_;have J:=J sizes so6 aS aT;rw[bS] at J;have aB:am (bu g gs bt) ae aA:=aM.trans bX;have z12:=aB.size;have aU:Ext w ae:=aF.trans ao;have b2:am (fun r=>w.heap.size≤r) w aA:=(aU.ad _).trans (aB.mono fun r _ h=>aq r h);have cM:=aP.side;have aV:∀ ac,so6=some ac→dg ac∧(∀ z∈sizes,1≤z∧z≤ap)∧sizes.length≤100000:=fun ac aD=>by
  cases E:ev (eK most) N [] aO with
  |none=>rw[aT E] at aD;cases aD
  |some q=>
   obtain⟨Z,aa⟩:=aS q E;cases aD.symm.trans Z;subst aa;cases aO with
   |none=>cases E
   |some b3=>
    obtain⟨b4,b5,cN⟩:=DW (l:=q.1) (s':=q.2) (aN b3 rfl) (by omega) E;exact⟨b4,b5,by have:=au.words;omega⟩
 rw[bQ];have aZ:∀ r,leads aw r→aL.heap.size≤r∧r<aA.heap.size:=fun r I=>by have:=b1 aR I;omega
 have cO:=aM.size;refine DV (w0:=w) (c:=C) (all:=sizes) aP.q (fun s W=>(aV s W).1) (by omega) aR.ls (fun r I=>?_) (fun aj=>?_) bY ((aE.ext aU).ad aB fun X=>by have:=aq 1 X;omega) ⟨bc,fun _=>⟨fun X=>by have:=aq 1 X;omega,by show 1<ab.heap.size;omega⟩⟩
  b2 (by omega) (by omega) ⟨by omega,by omega⟩ (fun _ r h=>h.elim) fun cP cQ acc so cS cT cU cV a2 cW b6 b7 b8 b9 a6 ca=>?_
 ·have:=aZ r I;exact⟨by omega,by omega,by omega,fun _ h=>h⟩
 ·cases a7:so6 with
  |none=>exact absurd a7 aj
  |some ac=>exact (aV ac a7).2.1
 have cX:=a2.size;have Y:e8 V=match fN s0 with
   |none=>none
   |some (f,s)=>if s.toks=[]∧(lex V).2=true∧s.big=false then some f else none:=by
  unfold e8;rw[if_neg (by omega)];have e:fN ⟨(lex V).1,0,false,[]⟩=fN s0:=rfl;rw[e];cases fN s0 <;> rfl
 refine DP (w0:=w) (sizes:=sizes) (res:=e8 V) b6 ⟨fun s W az cb af=>?_,fun aj=>?_⟩ b9 (fun r I=>by have:=aZ r I;exact⟨by omega,by omega⟩) b7 b8 (fun _=>trivial) (by omega) (by omega) a2 (by omega) (by omega) ak fun v w' h=>h
 ·cases E:ev (fun _ s=>cC sizes s) C [] so6 with
  |none=>rw[ca E] at W;cases W
  |some q=>
   obtain⟨Z,aa⟩:=a6 q E;cases W.symm.trans Z;rw[E] at J;have J:fN s0=some ((⟨name,k,sizes,q.1⟩:bW),q.2):=J;have a8:=(wO rfl J af).1;rw[J] at Y;simp only at Y;rw[if_pos ⟨az,cb,af⟩] at Y;exact⟨q.1,aa,Y,DY a8 (by show (lex V).1.length≤60000;omega),a8.iN,by omega⟩
 ·cases E:ev (fun _ s=>cC sizes s) C [] so6 with
  |none=>
   rw[E] at J;have J:fN s0=none:=J;rw[J] at Y;exact absurd Y aj
  |some q=>
   obtain⟨Z,aa⟩:=a6 q E;rw[E] at J;have J:fN s0=some ((⟨name,k,sizes,q.1⟩:bW),q.2):=J;rw[J] at Y;simp only at Y;by_cases ba:q.2.toks=[]∧(lex V).2=true∧q.2.big=false
   ·exact⟨q.2,Z,ba⟩
   ·rw[if_neg ba] at Y;exact absurd Y aj
theorem tK (s t cs:List Int):∃ e,mZ s t cs= .tuple #[.int .i64 (cH s cs t),.int .i64 e]:=by
 unfold mZ cH;cases cr s t 0 with
 |none=>exact⟨3,rfl⟩
 |some n=>exact⟨0,rfl⟩
theorem D0 {sv:x4} {w:x5}:O y0 kq [sv] w fun r w'=>Ext w w'∧ ∃ g,r= .func (.func hW) #[] #[.pointer (some ⟨g,0,none⟩)]∧w.heap.size≤g∧ak w' g ab sv.cells.toList:=by
 apply kq.enter;refine cc fun g J U E I=>?_;rw[pq];exact⟨E,g,rfl,by omega,I⟩
theorem D1 {f:FuncId} {cap:Array x4} {n:Nat} {aa:Nat→List x4→x5→Prop} {E:x5→Prop} {L:List Int} {w:x5} (av:nL y0 f cap.toList n aa E) (ac:∀ k vs w,aa k vs w→ ∃ x,L[k]? =some x∧vs=[.int .i64 x])
  (hE:∀ a b,am (fun r=>w.heap.size≤r) a b→E a→E b) (aw:E w) (ax:n=L.length) (aN:L.length≤1000000):
  O y0 mw [.slice none 0 0,.func (.func f) #[] cap] w fun v w'=>Ext w w'∧ ∃ g,w.heap.size≤g∧aq .i64 J w' g v L:=by
 apply mw.enter;refine cc fun gs ay aO ae U=>?_;have U:ak ay gs ab [.slice none 0 0]:=U;have aP:=U.lt;have af:∀ {a b:x5},Ext a b→E a→E b:=fun I=>hE _ _ (I.ad _);refine⟨Nat,false,f,cap,0,_,_,E,fun k w'=>am (fun r=>w.heap.size≤r) w w'∧ ∃ v g,gs<g∧ak w' gs ab [v]∧aq .i64 J w' g v (L.take k),fun _ _ _=>False,rfl,av.s,?_,fun _ _ I h=>af I h,
  fun _ _ _ I h=>⟨h.1.trans (I.ad _),by obtain⟨v,g,h1,az,aA⟩:=h.2;exact⟨v,g,h1,az.ext I,aA.ext I⟩⟩,fun _ _ _ _ _ h=>h,af ae aw,⟨ae.ad _,_,gs+1,by omega,U,aq.nil _ _ _ _⟩,?_,?_,fun _ _ h=>h.elim,fun _ _ _ h=>h.elim⟩
 ·rintro k vs aQ w' ⟨_,_,h⟩;obtain⟨x,_,rfl⟩:=ac k vs w' h;rfl
 ·rintro a k _ ag haB ⟨V,rfl,aC⟩ ⟨aD,v,g,aE,ah,W⟩;obtain⟨x,I,aF⟩:=ac k _ ag aC;cases aF;intro aR X _ _;have ai:=ah.ext X;rw[al (by kernel_rfl) (ai.cell (o:=0) rfl)];refine dT ab.u J.i rfl fun a aS aT aU Y aG=>?_;have aV:(L.take k).length≤1000000:=by simp;omega
  refine gW ab.u J.i rfl ((W.ext X).ext Y) aG.ls (by simp only[j9,List.length_nil];omega) (by simp only[j9,List.length_nil];omega) fun aH aI aW aX Z aj=>?_;have aY:=ah.lt;have aZ:=X.size;have a1:=Y.size;refine bH ab.i Z.ls.cells.1 Z.ls.cells.2 (((ai.ext Y).ad aj (by omega))) (by simp) fun aJ ao a2 aK=>?_;have ap:am (fun r=>w.heap.size≤r) ag aJ:=(((X.trans Y).ad _).trans (aj.mono fun r _ h=>by show w.heap.size≤r;omega)).trans (ao.mono fun r _ h=>by show w.heap.size≤r;omega);refine⟨hE _ _ ap haB,⟨aD.trans ap,aH,aI,by omega,aK,?_⟩,fun h=>by cases h⟩;rw[o4,I];exact Z.ad ao (fun _=>by omega)
 ·rintro k a6 V ⟨aL,v,g,aE,aM,W⟩;have V:k=n:=V;subst V;rw[al (by kernel_rfl) (aM.cell (o:=0) rfl)];intro a7 au _;rw[ax,l5] at W;exact⟨(aL.ext fun r a8 h=>by have:w.heap.size≤r:=h;omega).trans au,g,by omega,W.ext au⟩
theorem D2 {f:FuncId} {cap:Array x4} {n:Nat} {I:Nat→List x4→x5→Prop} {E:x5→Prop} {L:List Int} {w:x5} (U:nL y0 f cap.toList n I E) (V:∀ k vs w,I k vs w→ ∃ x,L[k]? =some x∧vs=[.int .i64 x])
  (hE:∀ a b,am (fun r=>w.heap.size≤r) a b→E a→E b) (W:E w) (X:n=L.length) (Y:L.length≤1000000):
  O y0 mi [.func (.func f) #[] cap] w fun v w'=>Ext w w'∧ ∃ g,w.heap.size≤g∧aq .i64 J w' g v L:=by
 apply mi.enter;exact (D1 U V hE W X Y).mono fun _ _ _ h=>h
theorem D3 {x y:Int} {w:x5}:O y0 cmp_Less_int [.int .i64 x,.int .i64 y] w fun v w'=>v= .bool (decide (x<y))∧Ext w w':=by
 apply cmp_Less_int.enter;refine aV (fun v E=>v= .bool (decide (x<y))∧Ext w E) (fun _ _ h=>h) fun V I=>?_;have J:∀ {z:Int} {w:x5},O y0 cmp_isNaN_int [.int .i64 z] w fun v w'=>v= .bool false∧Ext w w':=fun {z w}=>by
  apply cmp_isNaN_int.enter;simp only[bC];exact⟨by simp,Ext.refl _⟩
 refine J.mono ?_;rintro _ W _ ⟨rfl,U⟩;rw[aU];simp only[au];exact I _ _ ⟨rfl,U⟩
theorem D4 {P:X5} {w:x5} {t:o6} {cx cy:Bool} {k:o8} {a b:Int}:ai P (U .sub t cx cy (.int k a) (.int k b)) (.int k (k.wrap (a-b))) w:=fun w' _=>by simp[U,eqGuard,binOp,Op.intArith]
theorem D5 {sv:x4} {l:List Int} {g:Nat} {w:x5} (h:aq .i64 J w g sv l) (aI:l.length≤1000000):
  O y0 pk [sv,.int .i64 0,.int .i64 l.length] w fun _ w'=>am (fun r=>r=g) w w'∧ ∃ m,m.Perm l∧m.Pairwise (·≤ ·)∧aq .i64 J w' g sv m:=by
 apply pk.enter;simp only[aL];refine⟨fun t Z=>∃ (i:Nat) (m:List Int),t= .int .i64 i∧1≤i∧(i≤l.length∨i=1)∧m.Perm l∧pI m i∧am (fun r=>r=g) w Z∧aq .i64 J Z g sv m,fun t _=>l.length+1-(bQ t).toNat,
  ⟨1,l,by congr 1,by omega,.inr rfl,.refl _,fun p q x y h1 av=>by omega,am.refl _ _,h⟩,?_⟩
 rintro _ Z ⟨i,m,rfl,aJ,aK,U,af,ah,hm⟩;have aw:=U.length_eq;simp only[au,ag];refine⟨fun ax=>?_,fun aM=>?_⟩
 ·have ax:i<l.length:=by omega
  refine⟨fun t W=>∃ (j:Nat) (m:List Int),t= .int .i64 j∧j≤i∧m.Perm l∧m9 m i j∧am (fun r=>r=g) w W∧aq .i64 J W g sv m,fun t _=>(bQ t).toNat,⟨i,m,rfl,o7 _,U,BP af,ah,hm⟩,?_⟩;rintro _ W ⟨j,m,rfl,ay,U,aa,ai,hm⟩;have aw:=U.length_eq;refine aV (fun v aj=>Ext W aj∧ ∃ c,v= .bool c∧(c=true→0<j∧ ∃ a b,m[j-1]? =some a∧m[j]? =some b∧b<a)∧(c=false→j=0∨0<j∧ ∃ a b,m[j-1]? =some a∧m[j]? =some b∧a≤b)) ?_ ?_
  ·rintro _ aj ⟨X,c,rfl,az,aA⟩;rw[cv];refine⟨fun h=>?_,fun h=>?_⟩
   ·obtain⟨V,a,b,E,I,ac⟩:=az h;intro aN ak _ _;have Y:=(hm.ext X).ext ak;have e:X3.wrap ((j:Int)-1)=((j-1:Nat):Int):=by rw[wrap_i64 (by omega) (by omega)];omega
    simp only[dw,e];rw[bw ab.u J.i (by kernel_rfl) Y.ls E,bw ab.u J.i (by kernel_rfl) Y.ls I,gY rfl ab.u J.i Y (by omega)];refine gZ J.i Y (by omega) fun aB aC aO al=>⟨.inr ⟨by have:=D4 (P:=y0) (w:=aB) (t:=J) (cx:=false) (cy:=true) (k:=.i64) (a:=(j:Int)) (b:=1);rwa [e] at this,trivial⟩,?_⟩;rw[gY rfl ab.u J.i al (by simp;omega)];refine gZ J.i al (by simp;omega) fun aP aD aQ aE=>?_;refine⟨⟨j-1,_,rfl,by omega,(swap_perm (by omega) E I).trans U,BS aa V ay E I ac,((ai.trans ((X.trans ak).ad _)).trans aC).trans aD,aE⟩,?_⟩;simp only[bQ];omega
   ·simp only[aL];rw[wrap_i64 (by omega) (by omega)];refine⟨⟨i+1,m,rfl,by omega,.inl (by omega),U,?_,ai.trans (X.ad _),hm.ext X⟩,?_⟩
    ·rcases aA h with rfl|⟨V,a,b,E,I,ac⟩
     ·exact BQ aa
     ·exact BR aa V E I ac
    ·simp only[bQ];omega
  ·intro aR ao aS ae _ _;have ap:=hm.ext ae;simp only[bT,ag];refine⟨fun V=>?_,fun V=>ao _ _ ⟨ae,false,rfl,(fun h=>by cases h),fun _=>.inl (by omega)⟩⟩;have e:X3.wrap ((j:Int)-1)=((j-1:Nat):Int):=by rw[wrap_i64 (by omega) (by omega)];omega
   obtain⟨b,I⟩:∃ b,m[j]? =some b:=⟨_,x3 (by omega)⟩;obtain⟨a,E⟩:∃ a,m[j-1]? =some a:=⟨_,x3 (by omega)⟩;rw[bw ab.u J.i (by kernel_rfl) ap.ls I];simp only[dw,e];rw[bw ab.u J.i (by kernel_rfl) ap.ls E];refine D3.mono ?_;rintro _ aT _ ⟨rfl,aF⟩;refine ao _ _ ⟨ae.trans aF,_,rfl,fun h=>⟨by omega,a,b,E,I,by simpa using h⟩,fun h=>.inr ⟨by omega,a,b,E,I,by simpa using h⟩⟩
 ·refine⟨ah,m,U,BT fun p q x y h1 av aG aH=>af p q x y h1 (by omega) aG aH,hm⟩
theorem D6 {P:X5} {w:x5} {t:o6} {k:o8} {s:ByteArray} {i:Nat} {K:x4→Prop} (E:P.underlying t=some .string) (hi:i<s.size) (J:∀ b:Nat,b<256→K (.int .u8 b)):
  I P (Y2 t (.string s) (.int k (i:Int))) w K:=by
 have O:s[i]? =some s[i]:=by simp[hi]
 have:I P (Y2 t (.string s) (.int k (i:Int))) w K=K (.int .u8 s[i].toNat):=I.of fun w' _=>by
  simp[Y2,asIntOf,run_underlying E,hi]
 rw[this];exact J _ (UInt8.toNat_lt _)
theorem D7 {n:Nat} {w:x5} (E:n<256):O y0 ot [.int .u64 (n:Int)] w fun v w'=>(∃ r,v= .int .i64 r)∧Ext w w':=by
 apply ot.enter;refine O.mono (K:=fun v w'=>(∃ r,v= .int .i64 r)∧Ext w w') ?_ (fun _ _ _ h=>h);apply k7.enter;simp only[aB,cw,ag];refine⟨fun h=>by omega,fun _=>⟨fun h=>by omega,fun _=>⟨fun h=>by omega,fun _=>?_⟩⟩⟩;rw[fC bG.u bi.u,wrap_u8 (by omega) (by omega)];refine D6 a1.u (by exact Nat.lt_of_lt_of_le E (by decide)) fun b I=>?_;rw[fC bi.u J.u];simp only[aL];exact⟨⟨_,rfl⟩,Ext.refl _⟩
theorem D8 {sv:x4} {l:List Int} {g:Nat} {w:x5} (h:aq .i64 J w g sv l) (V:l.length≤12):
  O y0 o1 [sv] w fun _ w'=>am (fun r=>r=g) w w'∧ ∃ m,m.Perm l∧m.Pairwise (·≤ ·)∧aq .i64 J w' g sv m:=by
 apply o1.enter;rw[aQ ab.u h.ls,fC J.u hn.u,wrap_u64 (by omega) (by omega)];refine (D7 (n:=l.length) (by omega)).mono ?_;rintro _ E _ ⟨⟨r,rfl⟩,I⟩;refine O.mono (K:=fun _ w'=>am (fun r=>r=g) E w'∧ ∃ m,m.Perm l∧m.Pairwise (·≤ ·)∧aq .i64 J w' g sv m) ?_ (fun _ _ _ h=>⟨(I.ad _).trans h.1,h.2⟩);apply mP.enter;refine⟨fun a b _ _ _ U=>a= .int .i64 0∧b= .int .i64 l.length∧E=U,fun _ _ _ _ _ _=>0,⟨rfl,rfl,rfl⟩,?_⟩;rintro _ _ _ _ _ _ ⟨rfl,rfl,rfl⟩;simp only[dw,po,ag];rw[wrap_i64 (by omega) (by omega)];refine⟨fun _=>?_,fun h=>by omega⟩;refine (D5 (h.ext I) (by omega)).mono ?_;exact fun _ _ _ h=>h
theorem D9 {f:FuncId} {cap:Array x4} {n:Nat} {I:Nat→List x4→x5→Prop} {E:x5→Prop} {L:List Int} {w:x5} (U:nL y0 f cap.toList n I E) (V:∀ k vs w,I k vs w→ ∃ x,L[k]? =some x∧vs=[.int .i64 x])
  (hE:∀ a b,am (fun r=>w.heap.size≤r) a b→E a→E b) (W:E w) (X:n=L.length) (Y:L.length≤12):
  O y0 kp [.func (.func f) #[] cap] w fun v w'=>Ext w w'∧ ∃ g m,w.heap.size≤g∧m.Perm L∧m.Pairwise (·≤ ·)∧aq .i64 J w' g v m:=by
 apply kp.enter;refine (D2 U V hE W X (by omega)).mono ?_;rintro v af _ ⟨Z,g,aa,ab⟩;refine (D8 ab Y).mono ?_;rintro _ ag _ ⟨ac,m,h1,ad,ae⟩;exact⟨Z.then ac (by rintro r ah rfl;omega),g,m,aa,h1,ad,ae⟩
theorem yg {sv:x4} {l:List Int} {x:Int} {w:x5} (h:aG .i64 w sv l):
  O y0 hR [sv,.int .i64 x] w fun v w'=>Ext w w'∧ ∃ r:Int,v= .int .i64 r∧ ∀ i:Nat,l[i]? =some x→(r=i↔ ∀ j,j<i→l[j]? ≠some x):=by
 apply hR.enter;rw[aQ ab.u h];refine ba.range l.length (fun i _ U=>Ext w U∧ ∀ j,j<i→l[j]? ≠some x) h.le ⟨Ext.refl _,fun j W=>by omega⟩ ?_ ?_
 ·rintro i _ U k hi ⟨E,I⟩ X;simp only[au,ag];refine⟨fun _=>?_,fun h=>by omega⟩;obtain⟨y,V⟩:∃ y,l[i]? =some y:=⟨_,x3 hi⟩;rw[bw ab.u J.i (by kernel_rfl) (h.ext E) V];simp only[bM,ag,aL];refine⟨fun he=>⟨E,i,rfl,fun q Y=>?_⟩,fun he=>X _ _ ⟨E,fun j W=>?_⟩⟩
  ·subst he;refine⟨fun ac=>by
              have:i=q:=by omega
              subst this;exact I,fun Z=>?_⟩
   rcases Nat.lt_trichotomy i q with h1|h1|h1
   ·exact absurd V (Z i h1)
   ·omega
   ·exact absurd Y (I q h1)
  ·by_cases aa:j=i
   ·subst aa;rw[V];intro h;exact he (Z2 h).symm
   ·exact I j (by omega)
 ·rintro _ U k ⟨E,I⟩;simp only[au,ag];refine⟨fun h=>by omega,fun _=>⟨E,-1,rfl,fun i hi=>?_⟩⟩;exact absurd hi (I i (u4.1 hi).1)
theorem Ea {g:Nat} {sv:x4} {l:List Int} {w0:x5} (W:ak w0 g ab [sv]) (O:aG .i64 w0 sv l):
  nL y0 hW [.pointer (some ⟨g,0,none⟩)] l.length (fun k vs _=>∃ x,l[k]? =some x∧vs=[.int .i64 x]) (fun w=>Ext w0 w):=by
 refine⟨hW.enters,fun y X af w ah _ Y E Z=>?_⟩;apply hW.enter;rw[al (by kernel_rfl) ((W.ext E).cell (o:=0) rfl),aQ ab.u (O.ext E)];refine bd.range l.length (fun i I=>X i I∧Ext w0 I) O.le ⟨Z,E⟩ ?_ ?_
 ·rintro i I k hi ⟨U,V⟩ aa;simp only[au,ag];refine⟨fun _=>?_,fun h=>by omega⟩;obtain⟨x,E⟩:∃ x,l[i]? =some x:=⟨_,x3 hi⟩;rw[bw ab.u J.i (by kernel_rfl) (O.ext V) E];refine⟨rfl,(Y i _ I hi V ⟨x,E,rfl⟩ U).mono ?_⟩;rintro _ ai (⟨rfl,ac,ad⟩|⟨rfl,ae⟩)
  ·simp only[b4,Y7,aU,aL];exact aa _ ⟨ad.1,ac⟩
  ·simp only[b4,Y8,bm];exact .inr ⟨i,hi,ae⟩
 ·rintro I k ⟨U,_⟩;simp only[au,ag];exact⟨fun h=>by omega,fun _=>.inl U⟩
theorem tL {sv:x4} {l:List Int} {w:x5} {K:x4→x5→Prop} (h:aG .i64 w sv l) (V:l.length≤12)
  (W:∀ v w' g m,Ext w w'→w.heap.size≤g→m.Perm l→m.Pairwise (·≤ ·)→aq .i64 J w' g v m→K v w'):
  O y0 kq [sv] w fun t I=>O y0 kp [t] I K:=by
 refine D0.mono ?_;rintro _ I _ ⟨U,g,rfl,af,E⟩;have E:ak I g ab [sv]:=by rw[h.cells.1] at E;exact E
 refine (D9 (Ea E (h.ext U)) (fun _ _ _ h=>h) (fun a b X Y=>Y.then X (fun r ag h=>by omega)) (Ext.refl _) rfl V).mono ?_;rintro v Z _ ⟨aa,ac,m,ah,h1,ad,ae⟩;have:=U.size;exact W v Z ac m (U.trans aa) (by omega) h1 ad ae
def Eb (w:x5) (ao:List Int) (k:Int) (cs E:List Int) (v:x4) (w':x5):Prop:=
 Ext w w'∧
  (¬Good E ao.length→v= .tuple #[.pointer none,.int .i64 1])∧
  (Good E ao.length→ ∃ I J O,v= .tuple #[.pointer (some ⟨I,0,none⟩),.int .i64 0]∧cG w' I J O (dB ao E) k (lE ao cs E))
set_option maxHeartbeats 1000000 in
theorem Ec {w:x5} {g bW:Nat} {sv aE:x4} {ao:List Int} {k:Int} {cs E:List Int} (h:cG w g bW sv ao k cs) (bX:right k) (av:aG .i64 w aE E) (cM:E.length≤12) (cN:Good E ao.length→aH (dB ao E)≤4096):
  O y0 mK [.pointer (some ⟨g,0,none⟩),aE] w (Eb w ao k cs E):=by
 have aZ:=h;have cO:=h.2.2.1;have cP:=av.cells;apply mK.enter;refine cc fun bY ds dt bZ V=>?_;refine cc fun b1 b2 du bl I=>?_;have dv:=bZ.size;have dw:=bl.size;have dx:=V.lt;have dy:=I.lt;have bm:=bZ.trans bl;have V:ak b2 bY bB [.pointer (some ⟨g,0,none⟩)]:=V.ext bl;have I:ak b2 b1 ab [aE]:=by rw[cP.1] at I;exact I
 rw[al (by kernel_rfl) (V.cell (o:=0) rfl),b8 bB.u];simp only[c9,aU];rw[al (by kernel_rfl) (I.cell (o:=0) rfl)];have cQ:=av.ext bm;have sub:∀ {w:x5} {g:Nat} {sv:x4} {k:Int} {aO:x4},ak w g bq [sv,.int .i64 k,aO]→w.rangeAt g (0+0) [sv]:=fun ai=>lz ai (by
  intro j v bn
  match j,bn with
  |0,bn=>exact bn)
 refine tL cQ cM fun dz cR dA m b3 dC bo cS hm=>?_;have cT:=bo.length_eq;rw[aQ ab.u hm.ls];have cU:=bm.trans b3;refine jj.range m.length (fun i _ _ bp=>Ext cR bp∧ ∀ j,j<i→m[j]? =some (j:Int)) (by omega) ⟨Ext.refl _,fun j bt=>by omega⟩ ?_ ?_
 ·rintro i _ _ bp aF hi ⟨aI,bu⟩ aJ;simp only[au,ag];refine⟨fun _=>?_,fun h=>by omega⟩;obtain⟨y,aM⟩:∃ y,m[i]? =some y:=⟨_,x3 hi⟩;rw[bw ab.u J.i (by kernel_rfl) (hm.ls.ext aI) aM];simp only[bC,ag,aL];refine⟨fun aN dD cV _=>⟨(cU.trans aI).trans cV,fun _=>rfl,fun bx=>?_⟩,fun he=>aJ _ _ _ ⟨aI,fun j bt=>?_⟩⟩
  ·have:=wx bx bo cS i hi;rw[aM] at this;exact absurd (Z2 this).symm aN
  ·by_cases cW:j=i
   ·subst cW;rw[aM];congr 1;omega
   ·exact bu j (by omega)
 ·rintro _ _ bp aF ⟨aI,bu⟩;simp only[au,ag,aS];refine⟨fun h=>by omega,fun _ dE cX _ _=>?_⟩;have W:Good E m.length:=BU bu bo;have aP:=(b3.trans aI).trans cX;have a1:=bm.trans aP;have V:=V.ext aP;have I:=I.ext aP;have cY:=av.ext a1;have cZ:=aZ.ext a1;have dF:=aP.size;obtain⟨⟨aO,gs,ai,a2,b4⟩,_⟩:=id cZ;rw[al (by kernel_rfl) (I.cell (o:=0) rfl),aQ ab.u cY,al (by kernel_rfl) (V.cell (o:=0) rfl),az,ah bq.p rfl,bN (cs:=[sv]) aK.p aK.i rfl (sub ai)];refine (wX a2.ls).mono ?_;rintro _ a6 _ ⟨rfl,aj⟩;refine⟨.inl aj,?_⟩;simp only[bC,ag];refine⟨fun aN dG c0 _=>⟨(a1.trans aj).trans c0,fun _=>rfl,fun bx=>absurd (by rw[bx.1]) aN⟩,fun dH=>?_⟩;have bz:E.length=ao.length:=by omega
  have W:Good E ao.length:=by rw[←bz,←cT];exact W
  have dI:=aP.trans aj;have bA:=a1.trans aj;have V:=V.ext aj;have I:=I.ext aj;have b5:=av.ext bA;rw[al (by kernel_rfl) (I.cell (o:=0) rfl),aQ ab.u b5];refine h0 ab.u J.i (by omega) (by omega) fun aR b6 dJ aw b7=>?_;have c1:aq .i64 J b6 aR (.slice (some ⟨aR,0,none⟩) E.length E.length) (p9 E.length 0):=aq.of (n:=E.length) (bR.full b7 (by simp) (by simp[maxLen];omega));generalize (x4.slice (some ⟨aR,0,none⟩) E.length E.length)=c2 at*;have dK:=aj.size;have dL:=aw.size;have dM:=b7.lt;rw[al (by kernel_rfl) ((I.ext aw).cell (o:=0) rfl),aQ ab.u (b5.ext aw)];have b9:=bA.trans aw;have a7:(dB ao E).length=E.length:=rk _ _;refine bd.range E.length (fun i aa=>am (fun r=>r=aR) b6 aa∧aq .i64 J aa aR c2 (upto (dB ao E) 0 i)) (by omega) ⟨am.refl _ _,by rw[pF,a7];exact c1⟩ ?_ ?_
  ·rintro i aa aF hi ⟨ap,a8⟩ aJ;simp only[au,ag];refine⟨fun _=>?_,fun h=>by omega⟩;have aT:Ext w aa:=b9.then ap (by rintro r Y rfl;omega);have ba:Ext a6 aa:=aw.then ap (by rintro r Y rfl;omega);obtain⟨p,bD⟩:∃ p,E[i]? =some p:=⟨_,x3 hi⟩;obtain⟨⟨aO,gs,ai,a2,b4⟩,_⟩:=aZ.ext aT;rw[bw ab.u J.i (by kernel_rfl) (av.ext aT) bD,al (by kernel_rfl) ((V.ext ba).cell (o:=0) rfl),az,ah bq.p rfl,bN (cs:=[sv]) aK.p aK.i rfl (sub ai)];refine (pN a2.ls).mono ?_;rintro _ dN _ ⟨rfl,ca⟩;have cb:=a8.ext ca;have c3:(upto (dB ao E) 0 i).length=E.length:=by rw[pE,a7]
   rw[gY rfl ab.u J.i cb (by omega)];refine gZ J.i cb (by omega) fun dO c4 _ cd=>?_;simp only[aL];have h1:=(W.2 i p bD).1;have aV:(dB ao E)[i]? =some (fQ ao p):=by
    unfold dB fQ;rw[r9,bD,if_pos h1.1];rfl
   rw[pH aV] at cd;exact aJ _ ⟨(ap.trans (ca.ad _)).trans c4,cd⟩
  ·rintro aa aF ⟨ap,a8⟩;simp only[au,ag];refine⟨fun h=>by omega,fun _=>?_⟩;have aT:Ext w aa:=b9.then ap (by rintro r Y rfl;omega);have ba:Ext a6 aa:=aw.then ap (by rintro r Y rfl;omega);rw[←a7,pG] at a8;obtain⟨⟨aO,gs,ai,a2,b4⟩,_⟩:=aZ.ext aT;rw[al (by kernel_rfl) ((V.ext ba).cell (o:=0) rfl),az,ah bq.p rfl,al (by kernel_rfl) (ai.cell (o:=0+1) rfl)];have bb:bV (dB ao E):=cO.BW W rfl;have ce:=cN W;have dP:=prod_bound bb;refine (sY a8.ls).mono ?_;rintro _ bE _ ⟨cg,_,_,_,c5⟩;obtain⟨ax,X,ay,rfl,dQ,dR,dS,bc⟩:=c5 bb ce ⟨bX,by omega,by have:=bX.1;omega⟩;obtain⟨N,be⟩:∃ N:Nat,(aH (dB ao E)).toNat=N:=⟨_,rfl⟩;rw[be] at bc;rw[aC (v:=.pointer (some ⟨ax,0,none⟩)) rfl,aC (v:=.int .i64 0) rfl];refine bU bB.i fun ch dT dU ci aW=>?_;refine bH bB.i rfl rfl aW (by simp[x4.cells]) fun c6 c7 dV aW=>?_;have dW:=ap.size;have dX:=cg.size;have dY:=ci.size;have bF:Ext bE c6:=ci.then c7 (by rintro r Y rfl;omega);have cj:=cg.trans bF;have c8:=bc.ext bF;have dZ:=aW.lt;obtain⟨⟨bG,ck,cl,cm,da⟩,⟨cn,cp,_⟩,_,ea⟩:=id c8;have eb:0<N:=by omega
   have ec:ax<bE.heap.size:=by obtain⟨⟨_,_,q,_⟩,_⟩:=id bc;exact q.lt
   have ed:X<bE.heap.size:=by obtain⟨⟨_,_,_,_,q⟩,_⟩:=id bc;exact rP q (by simp;omega)
   rw[al (by kernel_rfl) (aW.cell (o:=0) rfl),az,ah bq.p rfl,bN (cs:=[ay]) aK.p aK.i rfl (sub cl)];refine tq.mono ?_;rintro _ Z _ ⟨ac,bf,rfl,ee,cq⟩;have ef:=bF.size;have eg:=ac.size;let S:Nat→Prop:=fun r=>r=X;let aA:=lE ao cs E;have bI:aA.length=N:=by simp only[aA];rw[wD,be]
   let db:x5→Prop:=fun w'=>ak w' bY bB [.pointer (some ⟨g,0,none⟩)]∧ak w' b1 ab [aE]∧ak w' ch bB [.pointer (some ⟨ax,0,none⟩)]∧ak w' ax bq [ay,.int .i64 k,bG]∧
    cG w' g bW sv ao k cs∧aG .i64 w' aE E∧aq .i64 J w' ck ay (dB ao E)∧ak w' bf aK [ay]∧Z.heap.size≤w'.heap.size
   have aB:∀ {a:x5},am S Z a→db a:=by
    intro a U;have bJ:Ext a6 Z:=(ba.trans cj).trans ac;have bK:Ext a6 a:=bJ.then U (fun r Y he=>by have he:r=X:=he;omega);have cr:Ext w a:=bA.trans bK;refine⟨V.ext bK,I.ext bK,(aW.ext ac).ad U (by show ¬(ch=X);omega),(cl.ext ac).ad U (by show ¬(ax=X);exact cn),aZ.ext cr,av.ext cr,br (cm.ext ac) U (fun r Y he=>cp ((show r=X from he)▸Y)),
     cq.ad U (by show ¬(bf=X);omega),U.size⟩
   have cu:=tp (g:=bf) (B0:=Z.heap.size) (sv:=ay) bb;rw[be] at cu;refine⟨Nat,false,gr,#[.pointer (some ⟨bf,0,none⟩)],0,_,_,_,fun q w'=>am S Z w'∧aq .i64 af w' X bG (upto aA 0 q),fun _ _ _=>False,rfl,cu.s,
    ?_,fun _ _ U h=>⟨h.1.ext U,h.2.1.ext U,Y5 h.2.2 U.size⟩,fun _ _ _ U h=>⟨h.1.trans (U.ad S),h.2.ext U⟩,fun _ _ _ _ _ h=>h,⟨cq,(cm.ext ac).ls,o7 _⟩,⟨am.refl _ _,?_⟩,?_,?_,fun _ _ h=>h.elim,fun _ _ _ h=>h.elim⟩
   ·rintro _ _ _ _ ⟨_,_,_,_,rfl,_⟩;rfl
   ·rw[pF,bI];exact da.ext ac
   ·rintro _ eh q _ ei ⟨_,_,ej⟩ ⟨aV,rfl,ek,em,dc,en,dd⟩ ⟨bg,de⟩;cases dc;let x:=ct (dB ao E) (q:Int);have cw:x.length=E.length:=by simp only[x];rw[gX,a7]
    intro df aD _ _;have cz:=dd.ext aD;rw[aQ ab.u cz.ls];refine h0 ab.u J.i (by rw[gX];omega) (by rw[gX];omega) fun go cA eo bL cB=>?_;have dg:aq .i64 J cA go (.slice (some ⟨go,0,none⟩) (ct (dB ao E) (q:Int)).length (ct (dB ao E) (q:Int)).length) (p9 (ct (dB ao E) (q:Int)).length 0):=aq.of (n:=(ct (dB ao E) (q:Int)).length) (bR.full cB (by simp) (by rw[gX];simp[maxLen];omega));generalize (x4.slice (some ⟨go,0,none⟩) (ct (dB ao E) (q:Int)).length (ct (dB ao E) (q:Int)).length)=dh at*;have ep:=bg.size;have er:=aD.size;have es:=bL.size;have lo:=cB.lt;have di:am S Z cA:=bg.trans ((aD.trans bL).ad S);have f:=aB di;rw[al (by kernel_rfl) (f.2.1.cell (o:=0) rfl),aQ ab.u f.2.2.2.2.2.1];refine bd.range E.length (fun j bh=>Ext df bh∧ ∃ y:List Int,y.length=E.length∧aq .i64 J bh go dh y∧ ∀ (i:Nat) (p:Int),i<j→E[i]? =some p→y[p.toNat]? =x[i]?) (by omega)
     ⟨bL,_,by simp[cw,x],dg,fun i p hi=>by omega⟩ ?_ ?_
    ·rintro j bh aF bt ⟨aX,y,bM,bi,bO⟩ aJ;simp only[au,ag];refine⟨fun _=>?_,fun h=>by omega⟩;have f:=aB (bg.trans ((aD.trans aX).ad S));obtain⟨p,bj⟩:∃ p,E[j]? =some p:=⟨_,x3 bt⟩;obtain⟨u,hu⟩:∃ u,x[j]? =some u:=⟨_,x3 (by omega)⟩;have et:=(W.2 j p bj).1;rw[bw ab.u J.i (by kernel_rfl) f.2.2.2.2.2.1 bj,bw ab.u J.i (by kernel_rfl) (cz.ext aX).ls hu,gY (i:=p.toNat) (by omega) ab.u J.i bi (by omega)];refine gZ J.i bi (by omega) fun eu dj ev dk=>?_;simp only[aL];refine aJ _ ⟨aX.then dj (by rintro r Y rfl;omega),_,by simpa using bM,dk,fun i bk hi aY=>?_⟩;by_cases cC:i=j
     ·subst cC;rw[bj] at aY;cases aY;rw[List.getElem?_set_self (by omega),hu]
     ·have ew:=(W.2 i bk aY).1;have aN:p.toNat≠bk.toNat:=fun he=>by
       have:p=bk:=by omega
       subst this;exact cC (W.inj aY bj)
      rw[List.getElem?_set_ne aN];exact bO i bk (by omega) aY
    ·rintro bh aF ⟨aX,y,bM,bi,bO⟩;simp only[au,ag];refine⟨fun h=>by omega,fun _ dl cD _ _=>?_⟩;have aM:y=jH E x:=wB W (by rw[cw,bz]) (by rw[bM,bz]) fun i p cE=>bO i p (u4.1 cE).1 cE;have cF:=aX.trans cD;have cI:am S Z dl:=bg.trans ((aD.trans cF).ad S);obtain⟨f1,f2,f3,f4,f5,f6,f7,f8,f9⟩:=aB cI;rw[al (by kernel_rfl) (f3.cell (o:=0) rfl),az,ah bq.p rfl,al (by kernel_rfl) (f4.cell (o:=0+2) rfl),al (by kernel_rfl) (f1.cell (o:=0) rfl)];refine (sZ f5 (bi.ls.ext cD)).mono ?_;rintro _ ey _ ⟨rfl,bP⟩;refine⟨.inl bP,?_⟩;obtain⟨e,he⟩:=tK ao y cs;rw[he,aC (v:=.int .i64 (cH ao cs y)) rfl,aC (v:=.int .i64 e) rfl];have dm:=cI.trans (bP.ad S);have cJ:=(de.ext ((aD.trans cF).trans bP));have c3:(upto aA 0 q).length=N:=by rw[pE,bI]
     rw[gY rfl ae.u af.i cJ (by omega)];refine gZ af.i cJ (by omega) fun dn dp ez cK=>?_;have cL:am S Z dn:=dm.trans (dp.mono fun r _ h=>h);obtain⟨f1,f2,f3,f4,f5,f6,f7,f8,f9⟩:=aB cL;have dq:aA[q]? =some (cH ao cs y):=by
      simp only[aA,lE];rw[r9,List.getElem?_range (by rw[be];exact aV),aM];rfl
     rw[pH dq] at cK;exact⟨⟨f8,f7.ls,f9⟩,⟨cL,cK⟩,fun h=>by cases h⟩
   ·rintro q eA aV ⟨bQ,bS⟩;rw[show q=N from aV] at bS;have f:=aB bQ;rw[al (by kernel_rfl) (f.2.2.1.cell (o:=0) rfl)];intro eB bT _;obtain⟨f1,f2,f3,f4,f5,f6,f7,f8,f9⟩:=aB (bQ.trans (bT.ad S));rw[←bI,pG] at bS;have bJ:Ext w Z:=(aT.trans cj).trans ac;refine⟨(bJ.then bQ (fun r Y he=>by have he:r=X:=he;omega)).trans bT,fun dr=>absurd W dr,fun _=>⟨ax,X,ay,rfl,⟨bG,ck,f4,f7,bS.ext bT⟩,⟨cn,cp,ce⟩,bb,wD _ _ _⟩⟩
def fq (l:List Int):Prop:=∀ (i j:Nat) (x y:Int),i<j→l[i]? =some x→l[j]? =some y→x<y
theorem fq.inj {l:List Int} (h:fq l) {i j:Nat} {x:Int} (hi:l[i]? =some x) (E:l[j]? =some x):i=j:=by
 rcases Nat.lt_trichotomy i j with h1|h1|h1
 ·have:=h i j x x h1 hi E;omega
 ·exact h1
 ·have:=h j i x x h1 E hi;omega
def dedup (l:List Int):Nat→List Int
 |0=>[]
 |j+1=>if 0<j∧l[j]? =l[j-1]? then dedup l j else dedup l j++[l.getD j 0]
theorem yh (l:List Int):∀ j,(dedup l j).length≤j
 |0=>o7 _
 |j+1=>by
  have:=yh l j;unfold dedup;split
  ·omega
  ·simp;omega
theorem tM {l:List Int} {j:Nat} (E:0<j) (h:l[j]? =l[j-1]?):dedup l (j+1)=dedup l j:=by
 rw[dedup,if_pos ⟨E,h⟩]
theorem tN {l:List Int} {j:Nat} {x:Int} (I:l[j]? =some x) (h:0<j→l[j]? ≠l[j-1]?):dedup l (j+1)=dedup l j++[x]:=by
 rw[dedup,if_neg (fun E=>h E.1 E.2),p8,I];rfl
theorem rU {l:List Int}:∀ {j:Nat},j≤l.length→(∀ i,i<j→0<i→l[i]? ≠l[i-1]?)→dedup l j=l.take j
 |0,_,_=>by simp[dedup]
 |j+1,J,h=>by
  have E:l[j]? =some l[j]:=x3 (by omega);rw[tN E (h j (by omega)),rU (by omega) (fun i hi I=>h i (by omega) I),o4,E];rfl
theorem yi {l:List Int} (O:l.Pairwise (·≤ ·)):∀ {j:Nat},j≤l.length→(fq (dedup l j)∧ ∀ x,x∈dedup l j↔x∈l.take j)
 |0,_=>⟨fun i j x y _ h=>by simp[dedup] at h,fun x=>by simp[dedup]⟩
 |j+1,ag=>by
  obtain⟨h1,U⟩:=yi O (j:=j) (by omega);have I:l[j]? =some l[j]:=x3 (by omega);by_cases J:0<j∧l[j]? =l[j-1]?
  ·rw[tM J.1 J.2];refine⟨h1,fun x=>?_⟩;rw[U,o4,I];simp only[c8,n9,o9];refine⟨.inl,fun h=>h.elim id fun he=>?_⟩;subst he;have W:(l.take j)[j-1]? =some l[j]:=by rw[Z8 (by omega),←J.2,I]
   exact u5 W
  ·have X:0<j→l[j]? ≠l[j-1]?:=fun aa he=>J ⟨aa,he⟩;rw[tN I X];have ab:∀ x∈dedup l j,x<l[j]:=fun x ac=>by
    obtain⟨i,hi,he⟩:=List.getElem_of_mem ((U x).1 ac);have ah:i<j:=by rw[l7] at hi;omega
    rw[List.getElem_take] at he;subst he;have W:l[i]≤l[j-1]:=by
     by_cases Y:i=j-1
     ·subst Y;exact Int.le_refl _
     ·exact W8.1 O i (j-1) (by omega) (by omega) (by omega)
    have Y:=W8.1 O (j-1) j (by omega) (by omega) (by omega);have Z:=X (by omega);rw[I,x3 (show j-1<l.length by omega)] at Z;have ai:l[j]≠l[j-1]:=fun h=>Z (by rw[h]);omega
   refine⟨fun a b x y ad V E=>?_,fun x=>?_⟩
   ·have ae:=(u4.1 E).1;simp only[o5,j9,List.length_nil] at ae;rw[Y0 (by omega)] at V;by_cases af:b=(dedup l j).length
    ·subst af;rw[Y3 (o7 _),W7] at E;simp at E;subst E;exact ab x (u5 V)
    ·rw[Y0 (by omega)] at E;exact h1 a b x y ad V E
   ·rw[o4,I];simp only[c8,n9,o9,U]
def p6 (l:List Int):Prop:=∀ (j:Nat) (x:Int),l[j]? =some x→0≤x∧(0<j→ ∀ y,l[j-1]? =some y→y<x)
theorem p6.up {l:List Int} (h:p6 l):fq l:=by
 intro i j x y V J;induction j generalizing y with
 |zero=>omega
 |succ j O=>
  intro I;have W:=(u4.1 I).1;obtain⟨z,E⟩:∃ z,l[j]? =some z:=⟨_,x3 (show j<l.length by omega)⟩;have h1:=(h (j+1) y I).2 (by omega) z (by simpa using E);by_cases U:i=j
  ·subst U;rw[J] at E;cases E;exact h1
  ·have:=O z (by omega) E;omega
theorem Ed {l:List Int} (h:fq l) (I:∀ x∈l,0≤x):p6 l:=fun j x E=>⟨I x (u5 E),fun O y J=>h (j-1) j y x (by omega) J E⟩
theorem yj {w:x5} {g aj:Nat} {sv ae:x4} {ao l:List Int} {k:Int} {cs:List Int} (h:cG w g aj sv ao k cs) (E:aG .i64 w ae l):
  O y0 mL [.pointer (some ⟨g,0,none⟩),ae] w fun v w'=>Ext w w'∧ ∃ c,v= .bool c∧(c=true↔l.length=ao.length∧p6 l):=by
 obtain⟨⟨aO,gs,ak,hm,W⟩,_⟩:=h;have sub:w.rangeAt g (0+0) [sv]:=lz ak (by
  intro j v X
  match j,X with
  |0,X=>exact X)
 apply mL.enter;rw[aQ ab.u E,az,ah bq.p rfl,bN (cs:=[sv]) aK.p aK.i rfl sub];refine (wX hm.ls).mono ?_;rintro _ aB _ ⟨rfl,Y⟩;simp only[bC,ag];refine⟨fun al=>⟨Y,false,rfl,(fun h=>by cases h),fun h=>absurd (by rw[h.1]) al⟩,fun af=>?_⟩;have af:l.length=ao.length:=by omega
 rw[aQ ab.u (E.ext Y)];refine ba.range l.length (fun i _ V=>Ext w V∧ ∀ (j:Nat) (x:Int),j<i→l[j]? =some x→0≤x∧(0<j→ ∀ y,l[j-1]? =some y→y<x)) E.le ⟨Y,fun j x am=>by omega⟩ ?_ ?_
 ·rintro i _ V ap hi ⟨I,Z⟩ aq;simp only[au,ag];refine⟨fun _=>?_,fun h=>by omega⟩;obtain⟨x,U⟩:∃ x,l[i]? =some x:=⟨_,x3 hi⟩;have aC:=E.le;rw[bw ab.u J.i (by kernel_rfl) (E.ext I) U];refine aV (fun v av=>V=av∧ ∃ c,v= .bool c∧(c=false↔0≤x∧(0<i→ ∀ y,l[i-1]? =some y→y<x))) ?_ ?_
  ·rintro _ _ ⟨rfl,c,rfl,W⟩;rw[cv];simp only[aL];refine⟨fun aw=>⟨I,false,rfl,(fun h=>by cases h),fun h=>?_⟩,fun ax=>aq _ _ ⟨I,fun j ay am aa=>?_⟩⟩
   ·have:=W.2 (h.2 i x U);rw[aw] at this;cases this
   ·by_cases aA:j=i
    ·subst aA;rw[U] at aa;cases aa;exact W.1 ax
    ·exact Z j ay (by omega) aa
  ·intro aD ac;simp only[au,bT,dw,ag];refine⟨fun aE=>ac _ _ ⟨rfl,true,rfl,(fun h=>by cases h),fun h=>by omega⟩,fun aF=>⟨fun aH=>?_,fun aI=>ac _ _ ⟨rfl,false,rfl,fun _=>⟨by omega,fun h=>by omega⟩,fun _=>rfl⟩⟩⟩;obtain⟨y,ad⟩:∃ y,l[i-1]? =some y:=⟨_,x3 (show i-1<l.length by omega)⟩;rw[wrap_i64 (by omega) (by omega),eV (i:=i-1) (by omega) ab.u J.i (by kernel_rfl) (E.ext I) ad];simp only[cw];refine ac _ _ ⟨rfl,_,rfl,?_⟩;rw[decide_eq_false_iff_not];refine⟨fun h=>⟨by omega,fun _ aJ ai=>by rw[ad] at ai;cases ai;omega⟩,fun h=>by have:=h.2 (by omega) y ad;omega⟩
 ·rintro _ V ap ⟨I,Z⟩;simp only[au,ag];exact⟨fun h=>by omega,fun _=>⟨I,true,rfl,fun _=>⟨af,fun j x U=>Z j x (u4.1 U).1 U⟩,fun _=>rfl⟩⟩
def fI (l:List Int) (x:Int):Int:=if x∈l then (l.idxOf x:Int) else-1
theorem yk {l:List Int} {i:Nat} {x:Int} (h:fq l) (hi:l[i]? =some x):fI l x=i:=by
 have hm:x∈l:=u5 hi;have E:=List.idxOf_lt_length_of_mem hm;have I:l.idxOf x=i:=h.inj (by rw[x3 E,List.getElem_idxOf E]) hi;unfold fI;rw[if_pos hm,I]
theorem Ee {l:List Int} {x:Int} (h:x∉l):fI l x= -1:=if_neg h
theorem tO {sv:x4} {l:List Int} {x:Int} {w:x5} (h:aG .i64 w sv l) (hu:fq l):
  O y0 hR [sv,.int .i64 x] w fun v w'=>v= .int .i64 (fI l x)∧Ext w w':=by
 apply hR.enter;rw[aQ ab.u h];refine ba.range l.length (fun i _ I=>Ext w I∧ ∀ j,j<i→l[j]? ≠some x) h.le ⟨Ext.refl _,fun j W=>by omega⟩ ?_ ?_
 ·rintro i _ I k hi ⟨E,U⟩ X;simp only[au,ag];refine⟨fun _=>?_,fun h=>by omega⟩;obtain⟨y,V⟩:∃ y,l[i]? =some y:=⟨_,x3 hi⟩;rw[bw ab.u J.i (by kernel_rfl) (h.ext E) V];simp only[bM,ag,aL];refine⟨fun he=>⟨?_,E⟩,fun he=>X _ _ ⟨E,fun j W=>?_⟩⟩
  ·subst he;rw[yk hu V]
  ·by_cases Y:j=i
   ·subst Y;rw[V];intro h;exact he (Z2 h).symm
   ·exact U j (by omega)
 ·rintro _ I k ⟨E,U⟩;simp only[au,ag];refine⟨fun h=>by omega,fun _=>⟨?_,E⟩⟩;rw[Ee];intro hm;obtain⟨i,hi,he⟩:=List.getElem_of_mem hm;exact U i hi (by rw[x3 hi,he])
def dP (x vars scope:List Int):List Int:=scope.map fun p=>x.getD (vars.idxOf p) 0
theorem Ef (x vars scope:List Int):(dP x vars scope).length=scope.length:=by simp[dP]
theorem yl {w:x5} {Z aa sv:x4} {x vars scope:List Int} (ah:aG .i64 w Z x) (ai:aG .i64 w aa vars) (W:aG .i64 w sv scope) (hu:fq vars) (aj:∀ p∈scope,p∈vars) (ay:x.length=vars.length) (az:scope.length≤1000):
  O y0 mM [Z,aa,sv] w fun v w'=>Ext w w'∧ ∃ g,w.heap.size≤g∧aq .i64 J w' g v (dP x vars scope):=by
 apply mM.enter;rw[aQ ab.u W];refine h0 ab.u J.i (by omega) (by omega) fun I ak aA ac al=>?_;have am:aq .i64 J ak I (.slice (some ⟨I,0,none⟩) scope.length scope.length) (p9 scope.length 0):=aq.of (n:=scope.length) (bR.full al (by simp) (by simp[maxLen];omega));generalize (x4.slice (some ⟨I,0,none⟩) scope.length scope.length)=ao at*;rw[aQ ab.u (W.ext ac)];have X:=Ef x vars scope;refine bd.range scope.length (fun i U=>Ext w U∧aq .i64 J U I ao (upto (dP x vars scope) 0 i)) (by omega) ⟨ac,by rw[pF,X];exact am⟩ ?_ ?_
 ·rintro i U ap hi ⟨E,hm⟩ av;simp only[au,ag];refine⟨fun _=>?_,fun h=>by omega⟩;obtain⟨p,Y⟩:∃ p,scope[i]? =some p:=⟨_,x3 hi⟩;have ad:=aj p (u5 Y);have aB:=List.idxOf_lt_length_of_mem ad;rw[bw ab.u J.i (by kernel_rfl) (W.ext E) Y];refine (tO (ai.ext E) hu).mono ?_;rintro _ aC _ ⟨rfl,V⟩;have e:fI vars p=(vars.idxOf p:Int):=if_pos ad;obtain⟨u,ae⟩:∃ u,x[vars.idxOf p]? =some u:=⟨_,x3 (by omega)⟩;have aD:(upto (dP x vars scope) 0 i).length=scope.length:=by rw[pE,X]
  rw[eV (i:=vars.idxOf p) e ab.u J.i (by kernel_rfl) (ah.ext (E.trans V)) ae,gY rfl ab.u J.i (hm.ext V) (by omega)];refine gZ J.i (hm.ext V) (by omega) fun aE aw _ af=>?_;simp only[aL];have ax:(dP x vars scope)[i]? =some u:=by
   unfold dP;rw[r9,Y,Z0,p8,ae];rfl
  rw[pH ax] at af;exact av _ ⟨(E.trans V).then aw (by rintro r aF rfl;omega),af⟩
 ·rintro U ap ⟨E,hm⟩;simp only[au,ag];refine⟨fun h=>by omega,fun _=>⟨E,I,by omega,?_⟩⟩;rw[←X,pG] at hm;exact hm
theorem ym {t:List Int} (U:t≠[]) (hw:∀ b∈t,bF b=true):lex t=([t],true):=by
 cases t with
 |nil=>exact absurd rfl U
 |cons b q=>
  have E:q.dropWhile bF=[]:=by
   have:∀ (q:List Int),(∀ x∈q,bF x=true)→q.dropWhile bF=[]∧q.takeWhile bF=q:=fun q E=>by
    induction q with
    |nil=>simp
    |cons x q I=>
     have:=I fun y J=>E y (.tail _ J);simp[E x (.head _),this.1,this.2]
   exact (this q fun x O=>hw x (.tail _ O)).1
  have V:q.takeWhile bF=q:=by
   have:∀ (q:List Int),(∀ x∈q,bF x=true)→q.takeWhile bF=q:=fun q E=>by
    induction q with
    |nil=>simp
    |cons x q I=>simp[E x (.head _),I fun y J=>E y (.tail _ J)]
   exact this q fun x O=>hw x (.tail _ O)
  rw[vY (hw b (.head _)),E,V]
theorem yn {w:x5} {p:x4} {l:List Int} (h:aG .u8 w p l) (I:Bytes l) (J:l.length≤100000):O y0 kh [p] w fun v w'=>Ext w w'∧ ∃ g R,v= .pointer (some ⟨g,0,none⟩)∧w.heap.size≤g∧fE w' g R (lex l).1 (lex l).2∧¬R g:=by
 refine (wg h I J).mono ?_;rintro _ Z _ ⟨U,g,rfl,V,W,E⟩;obtain⟨h1,aa,ab,X,ac,hm⟩:=id E;exact⟨U,g,fun r=>r≠g,rfl,V,⟨W,l,0,E,fun r Y=>bZ hm X (by decide) Y,by rw[List.drop_zero]⟩,fun h=>h rfl⟩
theorem Eg {w:x5} {p:x4} {t:List Int} (h:aG .u8 w p t) (Z:Bytes t) (aa:t.length≤100000) (ab:t≠[]) (hw:∀ b∈t,bF b=true):O y0 oZ [p] w fun v w'=>Ext w w'∧ ∃ n:Int,v= .tuple #[.int .i64 1,.int .i64 n,.int .i64 0]:=by
 have ac:=ym ab hw;apply oZ.enter;refine (yn h Z aa).mono ?_;rintro _ ad _ ⟨ae,g,R,rfl,ah,V,ai⟩;rw[ac] at V;refine⟨fun _ _ _ E I=>am (fun r=>r=g) ad I∧((E= .int .i64 0∧fE I g R [t] true)∨(E= .int .i64 1∧fE I g R [] true)),fun _ _ _ E _=>1-(bQ E).toNat,⟨am.refl _ _,.inl ⟨rfl,V⟩⟩,?_⟩;rintro _ _ _ _ I ⟨W,⟨rfl,J⟩|⟨rfl,J⟩⟩
 ·refine (pJ J).mono ?_;rintro v X _ ⟨U,af,n,rfl⟩;rw[aC (v:=bx t) rfl,aC (v:=.int .i64 n) rfl,aC (v:=.int .i64 0) rfl,bM,ag];refine⟨fun _=>?_,fun h=>absurd rfl h⟩;rw[aL,wrap_i64 (by omega) (by omega)];exact⟨⟨W.trans U,.inr ⟨rfl,af⟩⟩,by simp[bQ]⟩
 ·refine (pJ J).mono ?_;rintro v X _ ⟨U,n,rfl⟩;rw[aC (v:=bx []) rfl,aC (v:=.int .i64 n) rfl,aC (v:=.int .i64 (if true then 2 else 11)) rfl,bM,ag];refine⟨fun h=>by simp at h,fun _=>?_⟩;rw[bM,ag];refine⟨fun h=>by simp at h,fun _=>?_⟩;have Y:Ext w X:=ae.then (W.trans U) (fun r aj he=>by have he:r=g:=he;omega);rw[aQ aX.u (h.ext Y)];exact⟨Y,_,rfl⟩
theorem Eh {w:x5} {t:List Int} (E:Bytes t) (I:t.length≤100000) (J:t≠[]) (hw:∀ b∈t,bF b=true):O y0 oN [bx t] w fun v w'=>v= .bool true∧Ext w w':=by
 have Z:=ym J hw;apply oN.enter;refine s8 a1.u aX.u bi.u E (by omega) fun bv ai U aa _=>?_;refine (Eg aa E I J hw).mono ?_;rintro _ aj _ ⟨V,n,rfl⟩;rw[aC (v:=.int .i64 1) rfl,aC (v:=.int .i64 n) rfl,aC (v:=.int .i64 0) rfl];refine s8 a1.u aX.u bi.u E (by omega) fun ak al W ab _=>?_;refine (yn ab E I).mono ?_;rintro _ am _ ⟨ac,g,R,rfl,ao,X,ap⟩;rw[Z] at X;refine (pJ X).mono ?_;rintro _ Y _ ⟨ad,_,m,rfl⟩;rw[aC (v:=bx t) rfl,aC (v:=.int .i64 m) rfl,aC (v:=.int .i64 0) rfl];have ae:Ext w Y:=(((U.trans V).trans (W.trans ac))).then ad (fun r aq he=>by
  have he:r=g:=he;have:=U.size;have:=V.size;have:=W.size;omega)
 refine aV (fun v af=>Y=af∧v= .bool true) ?_ ?_
 ·rintro _ _ ⟨rfl,rfl⟩;exact⟨rfl,ae⟩
 ·intro au ah;rw[bM,ag];refine⟨fun _=>?_,fun h=>absurd rfl h⟩;rw[bM,ag];refine⟨fun _=>?_,fun h=>absurd rfl h⟩;rw[vU E E];exact ah _ _ ⟨rfl,by rw[decide_eq_true rfl]⟩
theorem Ei {x:Int} {w:x5}:O y0 k9 [.int .i64 x] w fun v w'=>v= .bool (decide (¬gb x))∧Ext w w':=by
 apply k9.enter;refine aV (fun v U=>w=U∧v= .bool (decide (¬gb x))) ?_ ?_
 ·rintro _ _ ⟨rfl,rfl⟩;exact⟨rfl,Ext.refl _⟩
 ·intro W I;rw[au,ag];refine⟨fun h=>I _ _ ⟨rfl,by rw[decide_eq_true];intro E;have:=E.1;omega⟩,fun h=>?_⟩;rw[bT];refine I _ _ ⟨rfl,?_⟩;congr 1;rw[W5,decide_eq_true_eq,decide_eq_true_eq];exact⟨fun J E=>by have:=E.2;omega,fun J=>by
   by_cases V:32<x
   ·exact V
   ·exact absurd ⟨by omega,by omega⟩ J⟩
theorem Ej {sv:x4} {l:List Int} {w:x5} (h:aG .i64 w sv l) (V:∀ x∈l,gb x):
  O y0 hV [sv,.func (.func k9) #[] #[]] w fun v w'=>v= .bool false∧Ext w w':=by
 apply hV.enter;refine O.mono (K:=fun v w'=>v= .int .i64 (-1)∧Ext w w') ?_ ?_
 ·apply kj.enter;rw[aQ ab.u h];refine ba.range l.length (fun _ _ I=>Ext w I) h.le (Ext.refl _) ?_ ?_
  ·rintro i _ I k hi E W;rw[au,ag];refine⟨fun _=>?_,fun h=>by omega⟩;obtain⟨x,U⟩:∃ x,l[i]? =some x:=⟨_,x3 hi⟩;rw[bw ab.u J.i (by kernel_rfl) (h.ext E) U];show O y0 k9 [.int .i64 x] I _;refine Ei.mono ?_;rintro _ Z _ ⟨rfl,X⟩;rw[ag];refine⟨fun Y=>absurd (V x (u5 U)) Y,fun _=>?_⟩;rw[aL];exact W _ _ (E.trans X)
  ·rintro _ I k E;rw[au,ag];exact⟨fun h=>by omega,fun _=>⟨rfl,E⟩⟩
 ·rintro _ I _ ⟨rfl,E⟩;rw[cw];exact⟨rfl,E⟩
theorem rV {m:Bool} {S R:av} {w:x5} {cs:List x4} {d:fp} (h:aA.rep m S R w cs d):∃ sv g E I gs,cs=[sv,.pointer (some ⟨g,0,none⟩)]∧aG .i64 w sv d.1∧eH w g E I gs d.2.ao d.2.k d.2.o d.2.D:=by
 obtain⟨c,e,A,B,rfl,_,_,_,h1,J⟩:=h;have h1:aA.rep (α:=List Int) false bt R w c d.1:=h1;obtain⟨u,rfl⟩:=V6.1 (show c.length=1 from aA.len h1);obtain⟨g,m,sv,gs,rfl,O,_⟩:=J;exact⟨u,g,m,sv,gs,rfl,kz h1,O⟩
set_option maxHeartbeats 4000000 in
theorem Ek {N:Nat} {w:x5} {aC:Nat} {f:bW} {cs:List x4} {d:fp} {x:ca} {m:Bool} {S R:av} (aM:iV w aC f) (aN:eh N f) (aO:x∈f.funs) (aR:p5 f.k x d) (aS:aA.rep m S R w cs d):
  O y0 o0 [.pointer (some ⟨aC,0,none⟩),.agg cs.toArray] w fun v w'=>v= .bool true∧Ext w w':=by
 obtain⟨aw,bc,bd,be,aD,aE,_,_⟩:=aM;obtain⟨sv,ax,bf,bh,gs,rfl,V,ai⟩:=rV aS;obtain⟨aT,aF,aW,bi,bk,bl⟩:=aR;obtain⟨ac,bm,bn⟩:=aN.funs x aO;rw[aT] at V;apply o0.enter;refine cc fun aP aG bo X ad=>?_;have ad:ak aG aP bj [sv,.pointer (some ⟨ax,0,none⟩)]:=by obtain⟨_,_,_,rfl⟩:=c5 V;exact ad
 refine aV (fun v ae=>Ext aG ae∧v= .bool false) ?_ ?_
 rotate_left
 ·intro aX aj;intro ae U _ _;have W:=ad.ext U;rw[ah bj.p rfl,al (by kernel_rfl) (W.cell (o:=0+1) rfl),b8 b6.u];simp only[c9,aU];rw[ah bj.p rfl,al (by kernel_rfl) (W.cell (o:=0+1) rfl),az,ah bg.p rfl,al (by kernel_rfl) ((aD.ext (X.trans U)).cell (o:=0+1) rfl)];refine (Cz (ai.ext (X.trans U)).is).mono ?_;rintro _ Y _ ⟨rfl,E⟩;refine⟨.inl E,?_⟩;rw[bC,ag];refine⟨fun h=>absurd aW h,fun _=>?_⟩;have Z:=W.ext E;have am:=U.trans E;rw[ah bj.p rfl,al (by kernel_rfl) (Z.cell (o:=0+1) rfl),ah bj.p rfl,al (by kernel_rfl) (Z.cell (o:=0+0) rfl),aQ ab.u (V.ext (X.trans am))];refine (CA (ai.ext (X.trans am)).is).mono ?_;rintro _ af _ ⟨rfl,I⟩;refine⟨.inl I,?_⟩;rw[bC];refine aj _ _ ⟨am.trans I,?_⟩;rw[decide_eq_false];intro h;exact h (by rw[aF,ac.sizes,o3])
 rintro _ ae ⟨U,rfl⟩;rw[aU];have W:=ad.ext U;have ap:=X.trans U;rw[ah bj.p rfl,al (by kernel_rfl) (W.cell (o:=0+0) rfl),aQ ab.u (V.ext ap)];refine ba.range x.scope.length (fun _ _ Y=>Ext ae Y) (by omega) (Ext.refl _) ?_ ?_
 rotate_left
 ·rintro _ Y k E;rw[au,ag];exact⟨fun h=>by omega,fun _=>⟨rfl,ap.trans E⟩⟩
 rintro i _ Y k hi E aY;obtain⟨v,aa⟩:∃ v,x.scope[i]? =some v:=⟨_,x3 hi⟩;have bp:=ac.scope.2 v (u5 aa);have aq:=ap.trans E;have Z:=W.ext E;have aH:=aD.ext aq;have aZ:f.sizes[v.toNat]? =some (f.sizes.getD v.toNat 0):=by
  rw[p8,x3 (by omega)];rfl
 rw[au,ag];refine⟨fun _=>?_,fun h=>by omega⟩;rw[bw ab.u J.i (by kernel_rfl) (V.ext aq) aa];refine aV (fun b af=>Ext Y af∧b= .bool false) ?_ ?_
 ·rintro _ af ⟨I,rfl⟩;rw[aU,aL];exact aY _ _ (E.trans I)
 ·intro aX aj;intro af I _ _;have ay:=aq.trans I;rw[au,ag];refine⟨fun h=>by omega,fun _=>?_⟩;rw[az,ah bg.p rfl,al (by kernel_rfl) ((aH.ext I).cell (o:=0+2) rfl),aQ ab.u (aE.ls.ext ay),cw,ag];refine⟨fun h=>by omega,fun _=>?_⟩;rw[ah bj.p rfl,al (by kernel_rfl) ((Z.ext I).cell (o:=0+0) rfl)];refine (yg (V.ext ay)).mono ?_;rintro _ bq _ ⟨aI,r,rfl,a1⟩;have a2:r=(i:Int):=(a1 i aa).2 fun j br a6=>by have:=ia ac.scope.1 a6 aa;omega
  subst a2;have aJ:=ay.trans aI;have aB:=I.trans aI;rw[bC,ag];refine⟨fun h=>absurd rfl h,fun _=>?_⟩;rw[ah bj.p rfl,al (by kernel_rfl) ((Z.ext aB).cell (o:=0+1) rfl),az,ah bg.p rfl,al (by kernel_rfl) ((aH.ext aB).cell (o:=0+2) rfl)];refine s4 (y:=v) (i:=v.toNat) (by omega) ab.u J.i (aE.ls.ext aJ) aZ fun b o a7=>?_;rw[al (by kernel_rfl) a7];refine (tt (ai.ext aJ).is).mono ?_;rintro bt bu _ ⟨aK,bx,bz,a8⟩;refine⟨.inl aK,?_⟩;have bb:d.2.ao[i]? =some (f.sizes.getD v.toNat 0):=by
   rw[aF,ac.sizes,r9,aa];rfl
  rw[bw ab.u J.i (by kernel_rfl) a8.ls bb,bC];exact aj _ _ ⟨aB.trans aK,by rw[decide_eq_false (fun h=>h rfl)]⟩
theorem El {N:Nat} {w:x5} {U:Nat} {f:bW} {cs:List x4} {d:fp} {x:ca} {m:Bool} {S R:av} (V:iV w U f) (W:eh N f) (X:x∈f.funs) (Y:p5 f.k x d) (E:aA.rep m S R w cs d):
  O y0 la [.pointer (some ⟨U,0,none⟩),.agg cs.toArray] w fun v w'=>v= .bool false∧Ext w w':=by
 apply la.enter;refine cc fun aP Z ad I J=>?_;have aa:cs.length=2:=aA.len E;have J:ak Z aP bj cs:=by
  obtain⟨sv,ax,ae,af,gs,rfl,ab,ag⟩:=rV E;obtain⟨_,_,_,rfl⟩:=c5 ab;exact J
 rw[bN bj.p bj.i aa J.range];refine (Ek (V.ext I) W X Y (dc E I)).mono ?_;rintro _ ah _ ⟨rfl,ac⟩;rw[b4];exact⟨rfl,I.trans ac⟩
theorem Em {N:Nat} {w:x5} {U:Nat} {f:bW} {W:x4} {J:List fp} {m:Bool} {S R:av} (aa:iV w U f) (ab:eh N f) (V:aA.rep m S R w [W] J) (X:rT f.k f.funs J):
  O y0 oO [W,.func (.func la) #[.pointer (some ⟨U,0,none⟩)] #[]] w fun v w'=>v= .bool false∧Ext w w':=by
 apply oO.enter;refine O.mono (K:=fun v w'=>v= .int .i64 (-1)∧Ext w w') ?_ ?_
 ·apply qP.enter;rw[iJ bO.u V];refine ba.range J.length (fun _ _ I=>Ext w I) (sS V) (Ext.refl _) ?_ ?_
  ·rintro i _ I k hi E ac;rw[au,ag];refine⟨fun _=>?_,fun h=>by omega⟩;obtain⟨d,Y⟩:∃ d,J[i]? =some d:=⟨_,x3 hi⟩;obtain⟨x,Z⟩:∃ x,f.funs[i]? =some x:=⟨_,x3 (by have:=X.1;omega)⟩;refine mV (α:=fp) bj.p rfl bO.u bj.i (dc V E) Y fun cs ad=>?_;show O y0 la [.pointer (some ⟨U,0,none⟩),.agg cs.toArray] I _;refine (El (aa.ext E) ab (u5 Z) (X.2 i x d Z Y) ad).mono ?_;rintro _ af _ ⟨rfl,ae⟩;rw[aU,aL];exact ac _ _ (E.trans ae)
  ·rintro _ I k E;rw[au,ag];exact⟨fun h=>by omega,fun _=>⟨rfl,E⟩⟩
 ·rintro _ I _ ⟨rfl,E⟩;rw[cw];exact⟨rfl,E⟩
def jK (E:List ca):Nat:=(E.map fun x=>x.lines.length).sum
set_option maxHeartbeats 4000000 in
theorem En {N:Nat} {w:x5} {aO:Nat} {f:bW} (aR:iV w aO f) (I:eh N f) (bE:N≤60000) (aE:f.name≠[]∧ ∀ b∈f.name,bF b=true):
  O y0 oD [.pointer (some ⟨aO,0,none⟩)] w fun v w'=>Ext w w'∧ ∃ e:Int,v= .int .i64 e∧(jK f.funs≤16384→e=0):=by
 obtain⟨aw,bG,bH,W,X,aF,aG,Y⟩:=id aR;have bI:=I.name;have a7:Bytes f.name:=fun b a8=>by
  have:=of_decide_eq_true (aE.2 b a8);omega
 apply oD.enter;rw[b8 mS.u];simp only[c9,aU];refine aV (fun v ac=>Ext w ac∧v= .bool false) ?_ ?_
 rotate_left
 ·intro aH V;rw[az,ah bg.p rfl,al (by kernel_rfl) (X.cell (o:=0+0) rfl)];refine (Eh a7 (by omega) aE.1 aE.2).mono ?_;rintro _ ac _ ⟨rfl,E⟩;rw[b4,Y7,aU];rw[az,ah bg.p rfl,al (by kernel_rfl) ((X.ext E).cell (o:=0+2) rfl),aQ ab.u (aF.ls.ext E),bM,ag];refine⟨fun h=>by have:=I.sizes.1;omega,fun _=>?_⟩;rw[az,ah bg.p rfl,al (by kernel_rfl) ((X.ext E).cell (o:=0+2) rfl)];refine (Ej (aF.ls.ext E) I.sizes.2.2).mono ?_;rintro _ U _ ⟨rfl,Z⟩;have aS:=E.trans Z;rw[aU,az,ah bg.p rfl,al (by kernel_rfl) ((X.ext aS).cell (o:=0+1) rfl)];refine vC.mono ?_;rintro _ aa _ ⟨rfl,ad⟩;have av:=aS.trans ad;rw[decide_eq_true (show right f.k from I.k),b4,Y7,aU,az,ah bg.p rfl,al (by kernel_rfl) ((X.ext av).cell (o:=0+3) rfl),pq];refine (Em (aR.ext av) I (dc aG av) Y).mono ?_;rintro _ aT _ ⟨rfl,bb⟩;exact V _ _ ⟨av.trans bb,rfl⟩
 rintro _ ac ⟨E,rfl⟩;rw[aU];have ay:=X.ext E;refine aV (fun v U=>ac=U∧v= .bool false) ?_ ?_
 rotate_left
 ·intro aH V;rw[az,ah bg.p rfl,al (by kernel_rfl) (ay.cell (o:=0+0) rfl),lB a1.u,bT,ag];refine⟨fun h=>by omega,fun _=>?_⟩;rw[az,ah bg.p rfl,al (by kernel_rfl) (ay.cell (o:=0+2) rfl),aQ ab.u (aF.ls.ext E),bT,ag];refine⟨fun h=>by have:=I.sizes.2.1;omega,fun _=>?_⟩;rw[az,ah bg.p rfl,al (by kernel_rfl) (ay.cell (o:=0+3) rfl),iJ bO.u (dc aG E),bT];exact V _ _ ⟨rfl,by rw[decide_eq_false];have:=I.iN;have:=Y.1;omega⟩
 rintro _ _ ⟨rfl,rfl⟩;have aW:=dc aG E;rw[az,ah bg.p rfl,al (by kernel_rfl) (ay.cell (o:=0+3) rfl),iJ bO.u aW];refine⟨fun bc bd aI U=>∃ i n:Nat,aI= .int .i64 (i:Int)∧i≤W.length∧bc= .int .i64 (n:Int)∧bd= .bool false∧Ext ac U∧n≤jK (f.funs.take i)∧n≤i*60000,fun _ _ aI _=>W.length-(bQ aI).toNat,
  ⟨0,0,rfl,Y1 _,rfl,rfl,Ext.refl _,Y1 _,by omega⟩,?_⟩
 rintro _ _ _ U ⟨i,n,rfl,hi,rfl,rfl,Z,be,bJ⟩;have bK:W.length≤256:=by rw[Y.1];exact I.iN
 rw[au,ag];refine⟨fun aX=>?_,fun bL=>?_⟩
 ·have aX:i<W.length:=by omega
  obtain⟨d,aY⟩:∃ d,W[i]? =some d:=⟨_,x3 aX⟩;obtain⟨x,aJ⟩:∃ x,f.funs[i]? =some x:=⟨_,x3 (by have:=Y.1;omega)⟩;have aA:=Y.2 i x d aJ aY;obtain⟨aB,bf,bh⟩:=I.funs x (u5 aJ);have bN:=aB.len;refine iH (fun a b aa=>Ext U aa∧a= .int .i64 ((n+d.2.D.length:Nat):Int)∧b= .bool false) ?_ ?_
  ·rintro _ _ aa ⟨ad,rfl,rfl⟩;rw[aL,wrap_i64 (by omega) (by omega)];have bi:=aA.2.2.2.2.1;refine⟨⟨i+1,n+d.2.D.length,rfl,by omega,rfl,rfl,Z.trans ad,?_,?_⟩,by simp only[bQ];omega⟩
   ·have e:jK (f.funs.take (i+1))=jK (f.funs.take i)+x.lines.length:=by
     unfold jK;rw[o4,aJ,c8,j0,List.sum_append,List.map_cons,List.map_nil,List.sum_cons,List.sum_nil,Nat.add_zero]
    omega
   ·have:(i+1)*60000=i*60000+60000:=by omega
    have bP:d.2.D.length≤60000:=by omega
    omega
  ·intro aH V;refine mV (α:=fp) bj.p rfl bO.u bj.i (dc aW Z) aY fun cs bk=>?_;obtain⟨sv,ax,bR,bS,gs,rfl,bl,aZ⟩:=rV bk;refine bU bj.i fun aP aa bV ad bm=>?_;refine b9 (vs:=[sv,.pointer (some ⟨ax,0,none⟩)]) bj.i rfl rfl (by intro v aC;simp at aC;rcases aC with rfl|rfl <;> first|exact bl.cells.2|rfl) bm fun aT bn bX a2=>?_;have aK:Ext U aT:=ad.then bn (fun r bo he=>by have he:r=aP:=he;omega);rw[ah bj.p rfl,al (by kernel_rfl) (a2.cell (o:=0+1) rfl)];refine (Cy (aZ.ext aK).is).mono ?_;rintro _ bY _ ⟨rfl,aM⟩;have bi:=aA.2.2.2.2.1;rw[aL,wrap_i64 (by omega) (by omega),ah bj.p rfl,al (by kernel_rfl) ((a2.ext aM).cell (o:=0+1) rfl)];refine (tt ((aZ.ext aK).ext aM).is).mono ?_;rintro bZ aN _ ⟨bp,b1,b2,a6⟩;rw[aQ ab.u a6.ls];have b3:d.2.ao.length≤6:=by rw[aA.2.1,aB.sizes,o3];exact bf
   refine ba.range d.2.ao.length (fun j out aD=>Ext aN aD∧ ∃ ai,aN.heap.size≤ai∧aq .i64 af aD ai out (d.2.ao.take j)) (by omega) ⟨Ext.refl _,aN.heap.size,o7 _,aq.nil _ _ _ _⟩ ?_ ?_
   ·rintro j out aD k bq ⟨aj,ai,br,ak⟩ bt;obtain⟨z,am⟩:∃ z,d.2.ao[j]? =some z:=⟨_,x3 bq⟩;rw[au,ag];refine⟨fun _=>?_,fun h=>by omega⟩;rw[bw ab.u J.i (by kernel_rfl) (a6.ls.ext aj) am];refine dT ae.u af.i rfl fun a b5 bu b6 ap bx=>?_;refine gW ae.u af.i rfl (ak.ext ap) bx.ls (by simp;omega) (by simp;omega) fun b7 bz ca cb bA bB=>?_;have cc:=aj.size;have cd:=ap.size;rw[aL];refine bt _ _ ⟨(aj.trans ap).then bB (fun r bo he=>by have he:r=ai:=he;omega),bz,by omega,?_⟩;rw[o4,am];exact bA
   ·rintro out aD k ⟨aj,ai,br,ak⟩;rw[l5] at ak;rw[au,ag];refine⟨fun h=>by omega,fun _=>?_⟩;rw[aU];have bC:d.2.ao=x.sizes:=aA.2.1;rw[bC] at ak;refine (wT ak.ls fun z am=>?_).mono ?_
    ·rw[aB.sizes] at am;obtain⟨v,aC,rfl⟩:=l9.1 am;have ce:=aB.scope.2 v aC;refine (I.sizes.2.2 _ ?_).1;rw[p8,x3 (by omega)];exact List.getElem_mem _
    ·rintro _ bu _ ⟨rfl,ap⟩;refine V _ _ _ ⟨(((aK.trans aM).trans bp).trans aj).trans ap,by congr 1,by rw[bh]⟩
 ·have bD:i=W.length:=by omega
  subst bD;rw[Y.1,l5] at be;refine aV (fun v aa=>U=aa∧v= .bool (decide (16384<(n:Int)))) ?_ ?_
  ·rintro _ _ ⟨rfl,rfl⟩;rw[ag];refine⟨fun h=>⟨E.trans Z,5,rfl,fun cg=>by omega⟩,fun h=>⟨E.trans Z,0,rfl,fun _=>rfl⟩⟩
  ·intro aH V;rw[aU,bT];exact V _ _ ⟨rfl,rfl⟩
theorem rW:∀ {a b:List Int} {i:Nat},(∀ (j:Nat) (x y:Int),j<i→a[j]? =some x→b[j]? =some y→x=y)→i≤a.length→i≤b.length→eM a b=eM (a.drop i) (b.drop i)
 |_,_,0,_,_,_=>by simp
 |[],_,i+1,_,h,_=>by simp at h
 |_::_,[],i+1,_,_,h=>by simp at h
 |x::a,y::b,i+1,he,h1,E=>by
  have I:=he 0 x y (by omega) rfl rfl;subst I;simp only[eM,Int.lt_irrefl,if_false,List.drop_succ_cons];exact rW (fun j u v O hu J=>he (j+1) u v (by omega) hu J) (by simpa using h1) (by simpa using E)
theorem yo {x:Int} {w:x5}:O y0 cmp_isNaN_int [.int .i64 x] w fun v w'=>v= .bool false∧Ext w w':=by
 apply cmp_isNaN_int.enter;simp only[bC];exact⟨by simp,Ext.refl _⟩
theorem yp {x y:Int} {w:x5}:O y0 mh [.int .i64 x,.int .i64 y] w fun v w'=>v= .int .i64 (if x<y then-1 else if y<x then 1 else 0)∧Ext w w':=by
 apply mh.enter;refine yo.mono ?_;rintro _ U _ ⟨rfl,E⟩;refine yo.mono ?_;rintro _ V _ ⟨rfl,I⟩;simp only[aU,au,bT,ag];exact⟨fun h=>⟨by rw[if_pos h],E.trans I⟩,fun h=>⟨fun J=>⟨by rw[if_neg h,if_pos J],E.trans I⟩,fun J=>⟨by rw[if_neg h,if_neg J],E.trans I⟩⟩⟩
theorem Eo {af bv:x4} {a b:List Int} {w:x5} (V:aG .i64 w af a) (X:aG .i64 w bv b):O y0 oH [af,bv] w fun v w'=>v= .int .i64 (eM a b)∧Ext w w':=by
 apply oH.enter;have aB:=V.le;rw[aQ ab.u V];refine⟨fun _ Y ah=>∃ i:Nat,Y= .int .i64 (i:Int)∧i≤a.length∧i≤b.length∧Ext w ah∧ ∀ (j:Nat) (x y:Int),j<i→a[j]? =some x→b[j]? =some y→x=y,fun _ Y _=>a.length-(bQ Y).toNat,⟨0,rfl,Y1 _,Y1 _,Ext.refl _,fun j x y ao=>by omega⟩,?_⟩;rintro _ _ ah ⟨i,rfl,ap,aq,E,ai⟩;have I:eM a b=eM (a.drop i) (b.drop i):=rW ai ap aq;simp only[au,ag];refine⟨fun W=>?_,fun aC=>?_⟩
 ·have W:i<a.length:=by omega
  obtain⟨x,Z⟩:∃ x,a[i]? =some x:=⟨_,x3 W⟩;have aj:a.drop i=x::a.drop (i+1):=by rw[X2 W,(u4.1 Z).2]
  rw[bw ab.u J.i (by kernel_rfl) (V.ext E) Z,aQ ab.u (X.ext E)];simp only[cw,ag];refine⟨fun h=>?_,fun h=>?_⟩
  ·have:b.drop i=[]:=by rw[List.drop_eq_nil_iff];omega
   rw[this,aj] at I;exact⟨by rw[I];rfl,E⟩
  have aa:i<b.length:=by omega
  obtain⟨y,ac⟩:∃ y,b[i]? =some y:=⟨_,x3 aa⟩;have av:b.drop i=y::b.drop (i+1):=by rw[X2 aa,(u4.1 ac).2]
  rw[bw ab.u J.i (by kernel_rfl) (X.ext E) ac];refine yp.mono ?_;rintro _ aD _ ⟨rfl,ak⟩;rw[aj,av] at I;simp only[eM] at I;simp only[bC,ag,aL];refine⟨fun al=>⟨?_,E.trans ak⟩,fun aw=>?_⟩
  ·rw[I];by_cases h1:x<y
   ·rw[if_pos h1,if_pos h1]
   ·by_cases U:y<x
    ·rw[if_neg h1,if_pos U,if_neg h1,if_pos U]
    ·rw[if_neg h1,if_neg U] at al;exact absurd rfl al
  ·rw[wrap_i64 (by omega) (by omega)];refine⟨⟨i+1,rfl,W,aa,E.trans ak,fun j ax ay ao ad ae=>?_⟩,by simp only[bQ];omega⟩;by_cases az:j=i
   ·subst az;rw[Z] at ad;rw[ac] at ae;cases ad;cases ae;have am:=X4.1 aw;by_cases h1:x<y
    ·rw[if_pos h1] at am;omega
    ·by_cases U:y<x
     ·rw[if_neg h1,if_pos U] at am;omega
     ·omega
   ·exact ai j ax ay (by omega) ad ae
 ·have aA:i=a.length:=by omega
  subst aA;rw[List.drop_length] at I;rw[aQ ab.u (V.ext E),aQ ab.u (X.ext E)];simp only[au,ag];refine⟨fun h=>⟨?_,E⟩,fun h=>⟨?_,E⟩⟩
  ·obtain⟨y,l,e⟩:∃ y l,b.drop a.length=y::l:=⟨_,_,X2 (by omega)⟩;rw[I,e];rfl
  ·have:b.drop a.length=[]:=by rw[List.drop_eq_nil_iff];omega
   rw[I,this];rfl
theorem Ep {x y:Int} {W:x4} {w:x5} (h:aG .i64 w W [x,y]):O y0 oc [W] w fun v w'=>v= .int .i64 (if x≠0 then x else y)∧Ext w w':=by
 apply oc.enter;rw[aQ ab.u h];refine ba.range 2 (fun i _ V=>Ext w V∧(1≤i→x=0)∧(2≤i→y=0)) (by omega) ⟨Ext.refl _,by omega,by omega⟩ ?_ ?_
 ·rintro i _ V k hi ⟨E,h1,I⟩ U;rw[au,ag];refine⟨fun _=>?_,fun h=>by simp at h;omega⟩
  match i,hi,h1,I,U with
  |0,_,h1,I,U=>
   rw[bw (i:=0) ab.u J.i (by kernel_rfl) (h.ext E) rfl,bC,ag];refine⟨fun X=>⟨by rw[if_pos X],E⟩,fun he=>?_⟩;rw[aL];exact U _ _ ⟨E,fun _=>X4.1 he,fun h=>by omega⟩
  |1,_,h1,I,U=>
   rw[bw (i:=1) ab.u J.i (by kernel_rfl) (h.ext E) rfl,bC,ag];have Y:=h1 (o7 _);refine⟨fun X=>⟨by rw[if_neg (by omega)],E⟩,fun he=>?_⟩;rw[aL];exact U _ _ ⟨E,fun _=>Y,fun _=>X4.1 he⟩
 ·rintro _ V k ⟨E,h1,I⟩;have Y:=h1 (by omega);have Z:=I (by omega);rw[au,ag];exact⟨fun h=>by simp at h,fun _=>⟨by rw[if_neg (by omega),Z],E⟩⟩
structure ci where
 sv:x4
 g:Nat
 sc:List Int
 cs:List Int
def dQ (h:ci):List x4:=[h.sv,.pointer (some ⟨h.g,0,none⟩)]
abbrev hB (h:ci):x4:=.agg (dQ h).toArray
def p7 (h:ci):Int:=cD h.sc
def gF (w:x5) (E:Nat) (h:ci):Prop:=(∃ I,aq .i64 J w I h.sv h.sc)∧(∀ r,leads h.sv r→r≠E)∧hz h.sc
theorem gF.ad {S:Nat→Prop} {w w':x5} {E:Nat} {h:ci} (I:gF w E h) (J:am S w w') (O:∀ r,leads h.sv r→¬S r):gF w' E h:=by
 obtain⟨⟨U,hm⟩,V⟩:=I;exact⟨⟨U,br hm J O⟩,V⟩
theorem gF.one {w:x5} {E:Nat} {h:ci} (I:gF w E h):∀ u∈dQ h,u.oneCell'=true:=by
 obtain⟨⟨J,hm⟩,_⟩:=I;intro u hu;simp[dQ] at hu;rcases hu with rfl|rfl
 ·exact hm.ls.cells.2
 ·rfl
def ed (w:x5) (g:Nat) (v:x4) (L:List ci):Prop:=aZ dQ 2 bE w g v L∧ ∀ h∈L,gF w g h
theorem ed.ext {w w':x5} {g:Nat} {v:x4} {L:List ci} (h:ed w g v L) (E:Ext w w'):ed w' g v L:=⟨h.1.ext E,fun x I=>(h.2 x I).ad (E.ad fun _=>False) fun _ _ h=>h⟩
theorem ed.at {w:x5} {g:Nat} {v:x4} {L:List ci} (h:ed w g v L) {i:Nat} {x:ci} (hi:L[i]? =some x):gF w g x:=h.2 x (u5 hi)
theorem rX {w:x5} {g:Nat} {v:x4} {L:List ci} {i:Nat} {y:Int} {x:ci} {K:x4→Prop} (E:y=(i:Int)) (h:ed w g v L) (hi:L[i]? =some x):
  I y0 (x7 cY v (.int .i64 y)) w (fun p=>I y0 (x1 bE p) w K)=K (hB x):=by
 rw[cT E cY.u bE.i h.1 (u4.1 hi).1,bN bE.p bE.i rfl (h.1.range hi)]
theorem Er {w:x5} {g:Nat} {v:x4} {L:List ci} {i:Nat} {y:Int} {x:ci} {K:Unit→x5→Prop} (V:y=(i:Int)) (h:ed w g v L) (hi:i<L.length) (J:gF w g x)
  (W:∀ w',am (fun r=>leadsTo v r) w w'→ed w' g v (L.set i x)→K () w'):I y0 (x7 cY v (.int .i64 y)) w fun p=>aa y0 (x6 bE p (hB x)) w K:=by
 rw[cT V cY.u bE.i h.1 hi];refine CB (f:=dQ) bE.i h.1 rfl J.one hi fun w' O _ h'=>W w' O ⟨h',fun z E=>?_⟩;rcases V9 E with E|rfl
 ·exact (h.2 z E).ad O fun r U he=>(h.2 z E).2.1 r U (h.1.leads he).1
 ·exact J.ad O fun r U he=>J.2.1 r U (h.1.leads he).1
abbrev Es:x4:=.func (.func mE) #[] #[]
def rY (a b:ci):Int:=let c:Int:=if (a.sc.length:Int)<b.sc.length then-1 else if (b.sc.length:Int)<a.sc.length then 1 else 0
 if c≠0 then c else eM a.sc b.sc
theorem Et {a b:ci} (I:hz a.sc) (J:hz b.sc):rY a b<0↔p7 a<p7 b:=by
 have O:=(tF I J).1;unfold p7 rY;simp only;generalize U:(if (a.sc.length:Int)<b.sc.length then (-1:Int) else if (b.sc.length:Int)<a.sc.length then 1 else 0)=c;rw[O,←U];by_cases h1:(a.sc.length:Int)<b.sc.length
 ·rw[if_pos h1,if_pos (by omega)];exact⟨fun _=>.inl (by omega),fun _=>by omega⟩
 ·by_cases E:(b.sc.length:Int)<a.sc.length
  ·rw[if_neg h1,if_pos E,if_pos (by omega)];exact⟨fun h=>by omega,fun h=>by rcases h with h|h <;> omega⟩
  ·rw[if_neg h1,if_neg E,if_neg (by omega)];exact⟨fun h=>.inr ⟨by omega,h⟩,fun h=>by rcases h with h|h;omega;exact h.2⟩
theorem Eu {w:x5} {Z:Nat} {a b:ci} (ac:gF w Z a) (ad:gF w Z b):O y0 mE [hB a,hB b] w fun v w'=>Ext w w'∧v= .int .i64 (rY a b):=by
 obtain⟨⟨au,W⟩,_,av⟩:=ac;obtain⟨⟨aw,X⟩,_,ax⟩:=ad;apply mE.enter;refine cc fun ae af ay ag I=>?_;refine cc fun ai aj az aa U=>?_;have I:ak af ae bE [a.sv,.pointer (some ⟨a.g,0,none⟩)]:=by
  obtain⟨_,_,_,e⟩:=c5 W.ls;simp only[hB,dQ,e] at I ⊢;exact I
 have U:ak aj ai bE [b.sv,.pointer (some ⟨b.g,0,none⟩)]:=by
  obtain⟨_,_,_,e⟩:=c5 X.ls;simp only[hB,dQ,e] at U ⊢;exact U
 intro aA Y _ _;have E:=(ag.trans aa).trans Y;have f1:=(I.ext aa).ext Y;have f2:=U.ext Y;rw[ah bE.p rfl,al (by kernel_rfl) (f1.cell (o:=0+0) rfl),aQ ab.u (W.ls.ext E),ah bE.p rfl,al (by kernel_rfl) (f2.cell (o:=0+0) rfl),aQ ab.u (X.ls.ext E),
  ah bE.p rfl,al (by kernel_rfl) (f1.cell (o:=0+0) rfl),ah bE.p rfl,al (by kernel_rfl) (f2.cell (o:=0+0) rfl)]
 refine yp.mono ?_;rintro _ aB _ ⟨rfl,V⟩;refine⟨.inl V,?_⟩;refine (Eo ((W.ls.ext E).ext V) ((X.ls.ext E).ext V)).mono ?_;rintro _ aC _ ⟨rfl,am⟩;refine py (l:=[if (a.sc.length:Int)<b.sc.length then (-1:Int) else if (b.sc.length:Int)<a.sc.length then 1 else 0,eM a.sc b.sc]) ab.u J.i (by omega) rfl (by kernel_rfl) fun aD aE aF aG ao ap=>?_;refine (Ep ap.ls).mono ?_;rintro _ aH _ ⟨rfl,aq⟩;exact⟨((((E.trans V).trans am).trans ao).trans aq),rfl⟩
theorem Ev {w:x5} {g:Nat} {v:x4} {L:List ci} (h:ed w g v L) (Z:L.length<65536):
  O y0 vc [v,Es] w fun _ w'=>am (fun r=>leadsTo v r) w w'∧ ∃ M,M.Perm L∧rF p7 M 0 M.length∧ed w' g v M:=by
 have J:∀ {U:x5} {a:ci},am (fun r=>r=g) w U→gF w g a→gF U g a:=fun I E=>E.ad I fun r V he=>E.2.1 r V he;refine (xm CL (G:=gF w g) (num:=p7) (cf:=rY) (cap:=#[]) CP CQ (fun a E=>E.one) (fun a _=>rfl) (fun a b E W=>Et E.2.2 W.2.2) (Enters.of y0 CR rfl (by kernel_rfl)) h.1 h.2 Z fun U a b I E W=>Eu (J I E) (J I W)).mono ?_;rintro _ w' _ ⟨I,M,Y,hu,hm⟩;have aa:am (fun r=>r=g) w w':=I.mono fun r _ V=>(h.1.leads V).1;exact⟨I,M,Y,fun p q x y _ ab _ X ac=>hu p q x y ab X ac,hm,fun x X=>J aa (h.2 x (Y.mem_iff.1 X))⟩
theorem Ew {l m:List Int} (J:ic l) (O:l.Nodup) (E:m.Perm l) (U:m.Pairwise (·≤ ·)):m=be l:=by
 refine tG (f:=fun x=>x) ?_ (tE l) fun x=>?_
 ·have V:m.Nodup:=E.nodup_iff.2 O;exact (List.Pairwise.and U V).imp fun {a b} h=>by
   obtain⟨h1,I⟩:=h;have I:a≠b:=I;omega
 ·rw[E.mem_iff,p1 J]
theorem Ex {l:List Int} (h:∀ z∈l,1≤z∧z≤32) (E:cS l=false):aH l≤4096:=by
 have:=of_decide_eq_false E;rw[tI h] at this;omega
set_option maxHeartbeats 4000000 in
theorem Ey {N:Nat} {w:x5} {f:bW} {cs:List x4} {d:fp} {x:ca} {m:Bool} {S R:av} (U:eh N f) (bH:N≤60000) (aw:x∈f.funs) (aW:p5 f.k x d) (aX:aA.rep m S R w cs d):
  O y0 oE [.agg cs.toArray] w fun v w'=>Ext w w'∧ ∃ sv gs X ay az,v= .tuple #[sv,.pointer (some ⟨X,0,none⟩)]∧w.heap.size≤gs∧aq .i64 J w' gs sv (be x.scope)∧cG w' X ay az (cb f.sizes (be x.scope)) f.k (fP f.sizes f.k x).2:=by
 obtain⟨sv,ax,bI,bJ,bK,rfl,ae,aY⟩:=rV aX;obtain⟨aZ,a1,a2,bL,bM,a6⟩:=aW;obtain⟨E,a7,a8⟩:=U.funs x aw;have aG:=rL E U.sizes.2.1;have bN:=E.len;rw[aZ] at ae;have ba:∀ z∈x.sizes,1≤z∧z≤32:=fun z aH=>by
  rw[E.sizes] at aH;obtain⟨v,bb,rfl⟩:=l9.1 aH;have bO:=E.scope.2 v bb;refine U.sizes.2.2 _ ?_;rw[p8,x3 (by omega)];exact List.getElem_mem _
 have bc:=Ex ba a8;have aB:=rK aG E.scope.1;have bP:(be x.scope).length≤6:=by rw[aB.length_eq];exact a7
 apply oE.enter;refine cc fun aP aI bQ aJ Y=>?_;have Y:ak aI aP bj [sv,.pointer (some ⟨ax,0,none⟩)]:=by obtain⟨_,_,_,rfl⟩:=c5 ae;exact Y
 rw[ah bj.p rfl,al (by kernel_rfl) (Y.cell (o:=0+1) rfl)];refine (yb (aY.ext aJ).is (by omega)).mono ?_;rintro _ bf _ ⟨aD,_,Z⟩;rw[a1] at Z;obtain⟨g,bS,bT,bg,rfl,bU,bV,Z,aK⟩:=Z bc;rw[a2] at Z;rw[aC (v:=.pointer (some ⟨g,0,none⟩)) rfl,aC (v:=.int .i64 0) rfl,ah bj.p rfl,al (by kernel_rfl) ((Y.ext aD).cell (o:=0+0) rfl)];have aa:=aJ.trans aD;refine tL (ae.ext aa) (by omega) fun v aM gs bX af bY bh bi ai=>?_;have bk:=Ew aG E.scope.1 bh bi;subst bk;have bZ:=aa.size;rw[aQ ab.u ai.ls];refine h0 (k:=.i64) ab.u J.i (by omega) (by omega) fun go aN b1 aj aO=>?_;have bl:aq .i64 J aN go (.slice (some ⟨go,0,none⟩) (be x.scope).length (be x.scope).length) (p9 (be x.scope).length 0):=aq.of (bR.full (k:=1) (n:=(be x.scope).length) aO (by simp) (by simp[maxLen];omega));rw[aQ ab.u (ai.ls.ext aj)];have b2:=aO.lt;have ao:(eN x.scope (be x.scope)).length=(be x.scope).length:=by simp[eN]
 have bm:=af.trans aj;have b3:=aa.trans bm;refine bd.range (be x.scope).length (fun i I=>am (fun r=>r=go) aN I∧aq .i64 J I go (.slice (some ⟨go,0,none⟩) (be x.scope).length (be x.scope).length) ((eN x.scope (be x.scope)).take i++p9 ((be x.scope).length-i) 0)) (by omega) ⟨am.refl _ _,by simpa using bl⟩ ?_ ?_
 ·rintro i I k hi ⟨ap,ac⟩ bn;obtain⟨v,aE⟩:∃ v,(be x.scope)[i]? =some v:=⟨_,x3 hi⟩;have V:Ext aM I:=aj.then ap (fun r aF he=>by have he:r=go:=he;omega);have bo:Ext w I:=(aa.trans af).trans V;have bp:v∈x.scope:=aB.mem_iff.1 (u5 aE);rw[au,ag];refine⟨fun _=>?_,fun h=>by omega⟩;rw[bw ab.u J.i (by kernel_rfl) (ai.ls.ext V) aE];have bq:Ext aI I:=(aD.trans af).trans V;rw[ah bj.p rfl,al (by kernel_rfl) ((Y.ext bq).cell (o:=0+0) rfl)];refine (yg (ae.ext bo)).mono ?_;rintro _ br _ ⟨W,r,rfl,aF⟩;have aR:=np bp;have bt:r=((x.scope.idxOf v:Nat):Int):=(aF _ aR).2 fun j b4 bu=>by have:=ia E.scope.1 bu aR;omega
  rw[gY rfl ab.u J.i (ac.ext W) (by simp[ao];omega)];refine gZ J.i (ac.ext W) (by simp[ao];omega) fun b5 bx b6 aS=>?_;rw[aL];refine bn _ ⟨(ap.trans (W.ad _)).trans bx,?_⟩;have bz:(eN x.scope (be x.scope))[i]? =some r:=by rw[bt];exact xX aE
  have e:((eN x.scope (be x.scope)).take i++p9 ((be x.scope).length-i) 0).set i r=(eN x.scope (be x.scope)).take (i+1)++p9 ((be x.scope).length-(i+1)) 0:=by
   have bA:((eN x.scope (be x.scope)).take i).length=i:=by rw[l7,ao];omega
   rw[T2 _ _ (by omega),bA,W7,show (be x.scope).length-i=((be x.scope).length-(i+1))+1 by omega,List.replicate_succ,List.set_cons_zero,o4,bz,c8,V0];rfl
  rw[e] at aS;exact aS
 ·rintro I k ⟨ap,ac⟩;have V:Ext aM I:=aj.then ap (fun r aF he=>by have he:r=go:=he;omega);have aT:Ext bf I:=af.trans V;rw[au,ag];refine⟨fun h=>by omega,fun _=>?_⟩;rw[W7,List.replicate_zero,U2,Z1 (by omega)] at ac;have bB:∀ t,cM x.sizes t→cH x.sizes bg t=hs x f.k t:=fun t bC=>by rw[aK.2 t bC];exact a6 t
  obtain⟨aU,bD⟩:=Dy U aw aK.1 bB;have bE:Good (eN x.scope (be x.scope)) x.sizes.length:=by
   rw[E.sizes,o3];exact rO E.scope.1 aB
  have bF:=(nn U aw);refine (Ec (Z.ext aT) U.k ac.ls (by rw[ao];omega) fun _=>?_).mono ?_
  ·rw[aU];exact bF.small
  ·rintro _ br _ ⟨W,_,bG⟩;obtain⟨X,ay,az,rfl,aV⟩:=bG bE;rw[aC (v:=.pointer (some ⟨X,0,none⟩)) rfl,aC (v:=.int .i64 0) rfl];rw[aU,bD] at aV;exact⟨(aa.trans aT).trans W,v,gs,X,ay,az,rfl,by omega,(ai.ext V).ext W,aV⟩
theorem Ez {P:X5} {w:x5} {t W e I:o6} {k X g o n cap:Nat} {z:x4} {cs:List x4} {K:x4→x5→Prop} (J:P.underlying t=some (.slice e)) (hi:aJ P e k X z) (Y:z.cells.size=k) (h1:∀ u∈db z.cells (n*k),u.oneCell'=true)
  (E:ak w g I cs) (ag:o+n*k≤cs.length) (O:∀ w',am (fun r=>r=g) w w'→ak w' g I (over cs o (db z.cells (n*k)))→K (.tuple #[]) w'):aa P (u7.clear_ #[t] W #[.slice (some ⟨g,o,none⟩) n cap]) w K:=by
 obtain⟨i,hi,ah,rfl,Z⟩:=hi;have ab:∀ w,(zeroValue e).run P w= .ok z w:=fun w=>by simp[zeroValue,typeInfo,hi,Z]
 have ac:(u7.zeroCells z.cells n).toList=db z.cells (n*k):=by
  unfold u7.zeroCells db;rw[Y]
 have U:=run_storeCells_cells (P:=P) g o (db z.cells (n*k)) 0 w (fun j ae=>by
   rw[mU] at ae;rw[Nat.add_zero,E.cell (x3 (show o+j<cs.length by omega))];rfl) (fun j _=>E.frozen _ _) h1
 simp only[Nat.add_zero] at U;obtain⟨af,V⟩:=lr (db z.cells (n*k)) cs o w E;rcases Nat.eq_zero_or_pos n with rfl|ai
 ·refine .of (v:=.tuple #[]) (w':=w) (by simp[u7.clear_,run_underlying J]) (cO.refl _) (O w (am.refl _ _) ?_);rw[Nat.zero_mul,j5 (mU z.cells 0)];exact E
 ·obtain⟨m,rfl⟩:∃ m,n=m+1:=⟨n-1,by omega⟩;refine .of (v:=.tuple #[]) (w':=_) (by simp[u7.clear_,run_underlying J,ab,ac,U]) (V.da E) (O _ V.ad af)
theorem ds {α:Type} {f:α→List x4} {k:Nat} {e:o6} {w:x5} {g:Nat} {v:x4} {L:List α} (h:aZ f k e w g v L) {r:Nat} (E:leadsTo v r):r=g∧ ∃ cs,ak w g e cs:=by
 obtain⟨_,⟨rfl,_⟩|⟨cap,cs,rfl,I,_⟩⟩:=h.1
 ·exact (dI E).elim
 ·obtain⟨a,n,c,h1,J⟩:=E;cases h1;exact⟨J.symm,cs,I⟩
theorem EA {α:Type} {f:α→List x4} {k:Nat} {e:o6} {w:x5} {g:Nat} {v:x4} {L:List α} (h:aZ f k e w g v L) (E:L≠[]):∃ cs n c,v= .slice (some ⟨g,0,none⟩) n c∧ak w g e cs:=by
 obtain⟨_,⟨rfl,I⟩|⟨cap,cs,rfl,J,_⟩⟩:=h.1
 ·exact absurd (j5 I) E
 ·exact⟨cs,_,_,rfl,J⟩
theorem ed.mk {w:x5} {g:Nat} {v:x4} {L:List ci} (h:aZ dQ 2 bE w g v L) (I:∀ x∈L,(∃ O,aq .i64 J w O x.sv x.sc)∧hz x.sc):ed w g v L:=by
 refine⟨h,fun x E=>⟨(I x E).1,fun r U=>?_,(I x E).2⟩⟩;obtain⟨cs,n,c,_,V⟩:=EA h (fun W=>by rw[W] at E;cases E);obtain⟨⟨O,hm⟩,_⟩:=I x E;exact bZ hm V (by decide) U
def Sem (w:x5) (k:Int) (sizes:List Int) (L:List ci):Prop:=∀ x∈L,∃ E I,cG w x.g E I (cb sizes x.sc) k x.cs
theorem tP {w w':x5} {S:Nat→Prop} {g V:Nat} {W:x4} {ao cs:List Int} {k:Int} (h:cG w g V W ao k cs) (J:am S w w') (O:∀ r,S r→ ∃ c,ak w r bE c):cG w' g V W ao k cs:=by
 obtain⟨⟨aO,gs,h1,X,Y⟩,Z⟩:=h;refine⟨⟨aO,gs,h1.ad J fun I=>?_,br X J fun r U I=>?_,br Y J fun r U I=>?_⟩,Z⟩
 ·obtain⟨c,E⟩:=O g I;unfold ak at h1 E;rw[h1] at E;have:=(Obj.cells.inj (Z2 E)).2.1;exact absurd this (by decide)
 ·obtain⟨c,E⟩:=O r I;exact bZ X E (by decide) U rfl
 ·obtain⟨c,E⟩:=O r I;exact bZ Y E (by decide) U rfl
theorem Sem.ext {w w':x5} {k:Int} {sizes:List Int} {L:List ci} (h:Sem w k sizes L) (E:Ext w w'):Sem w' k sizes L:=fun x I=>by
 obtain⟨J,O,U⟩:=h x I;exact⟨J,O,U.ext E⟩
theorem Sem.row {w w':x5} {k:Int} {sizes:List Int} {L M:List ci} {g:Nat} {v:x4} (h:Sem w k sizes L) (E:ed w g v M) (I:am (fun r=>leadsTo v r) w w'):Sem w' k sizes L:=fun x J=>by
 obtain⟨O,U,V⟩:=h x J;exact⟨O,U,tP V I fun r W=>by obtain⟨rfl,c,X⟩:=ds E.1 W;exact⟨c,X⟩⟩
def dj (h:ci):cg:=(h.sc,h.cs)
theorem EB {c:Int} {w:x5}:O y0 k6 [.int .i64 c] w fun v w'=>v= .bool (decide (0<c))∧Ext w w':=by
 apply k6.enter;rw[bT];exact⟨rfl,Ext.refl _⟩
theorem EC {sv:x4} {l:List Int} {w:x5} (h:aG .i64 w sv l):
  O y0 oF [sv,.func (.func k6) #[] #[]] w fun v w'=>v= .bool (l.any fun c=>decide (0<c))∧Ext w w':=by
 apply oF.enter;refine O.mono (K:=fun v w'=>Ext w w'∧ ∃ r:Int,v= .int .i64 r∧(0≤r↔ ∃ c∈l,0<c)) ?_ ?_
 ·apply qM.enter;rw[aQ ae.u h];refine ba.range l.length (fun i _ U=>Ext w U∧ ∀ c∈l.take i,¬0<c) h.le ⟨Ext.refl _,fun c E=>by simp at E⟩ ?_ ?_
  ·rintro i _ U k hi ⟨I,V⟩ Y;rw[au,ag];refine⟨fun _=>?_,fun h=>by omega⟩;obtain⟨x,W⟩:∃ x,l[i]? =some x:=⟨_,x3 hi⟩;rw[bw ae.u af.i (by kernel_rfl) (h.ext I) W];show O y0 k6 [.int .i64 x] U _;refine EB.mono ?_;rintro _ ab _ ⟨rfl,X⟩;rw[ag];refine⟨fun J=>⟨I.trans X,i,rfl,⟨fun _=>⟨x,u5 W,J⟩,fun _=>by omega⟩⟩,fun Z=>?_⟩;rw[aL];refine Y _ _ ⟨I.trans X,fun c E=>?_⟩;rw[o4,W] at E;rcases n9.1 E with E|E
   ·exact V c E
   ·simp at E;subst E;exact Z
  ·rintro _ U k ⟨I,V⟩;rw[l5] at V;rw[au,ag];exact⟨fun h=>by omega,fun _=>⟨I,-1,rfl,⟨fun h=>by omega,fun⟨c,E,J⟩=>absurd J (V c E)⟩⟩⟩
 ·rintro _ U _ ⟨I,r,rfl,aa⟩;rw[cw];refine⟨?_,I⟩;congr 1;rw[W5,decide_eq_true_eq,List.any_eq_true,aa];exact⟨fun⟨c,E,J⟩=>⟨c,E,decide_eq_true J⟩,fun⟨c,E,J⟩=>⟨c,E,of_decide_eq_true J⟩⟩
theorem yq {w:x5} {J U:Nat} {x:ci} {V:x4} {ao:List Int} {k:Int} (W:gF w J x) (X:cG w x.g U V ao k x.cs):O y0 jx [hB x] w fun v w'=>v= .bool (!eC (dj x))∧Ext w w':=by
 obtain⟨⟨ac,hm⟩,_⟩:=W;apply jx.enter;refine cc fun aP Y ad I E=>?_;have E:ak Y aP bE [x.sv,.pointer (some ⟨x.g,0,none⟩)]:=by
  obtain⟨_,_,_,e⟩:=c5 hm.ls;simp only[hB,dQ,e] at E ⊢;exact E
 rw[ah bE.p rfl,al (by kernel_rfl) (E.cell (o:=0+1) rfl)];refine (kF (X.ext I)).mono ?_;rintro ae af _ ⟨Z,ag,ai,aa⟩;refine (EC aa.ls).mono ?_;rintro _ aj _ ⟨rfl,ab⟩;rw[b4];exact⟨rfl,(I.trans Z).trans ab⟩
theorem ED {w:x5} {g:Nat} {v:x4} {L:List ci} {k:Int} {sizes:List Int} (h:ed w g v L) (Y:Sem w k sizes L):
  O y0 kl [v,.func (.func jx) #[] #[]] w fun r w'=>Ext w w'∧((r= .int .i64 (-1)∧ ∀ x∈L,eC (dj x)=true)∨ ∃ i:Nat,r= .int .i64 (i:Int)∧i<L.length∧(∀ x∈L.take i,eC (dj x)=true)∧ ∀ x,L[i]? =some x→eC (dj x)=false):=by
 apply kl.enter;rw[eb cY.u h.1];refine ba.range L.length (fun i _ V=>Ext w V∧ ∀ x∈L.take i,eC (dj x)=true) h.1.le ⟨Ext.refl _,fun c E=>by simp at E⟩ ?_ ?_
 ·rintro i _ V k hi ⟨I,J⟩ Z;rw[au,ag];refine⟨fun _=>?_,fun h=>by omega⟩;obtain⟨x,U⟩:∃ x,L[i]? =some x:=⟨_,x3 hi⟩;rw[rX rfl (h.ext I) U];show O y0 jx [hB x] V _;obtain⟨ad,ae,aa⟩:=Y x (u5 U);refine (yq ((h.ext I).at U) (aa.ext I)).mono ?_;rintro _ af _ ⟨rfl,W⟩;rw[cv];refine⟨fun ab=>⟨I.trans W,.inr ⟨i,rfl,hi,J,fun y X=>by rw[U] at X;cases X;simpa using ab⟩⟩,fun ac=>?_⟩;rw[aL];refine Z _ _ ⟨I.trans W,fun c E=>?_⟩;rw[o4,U] at E;rcases n9.1 E with E|E
  ·exact J c E
  ·simp at E;subst E;simpa using ac
 ·rintro _ V k ⟨I,J⟩;rw[l5] at J;rw[au,ag];exact⟨fun h=>by omega,fun _=>⟨I,.inl ⟨rfl,J⟩⟩⟩
def eO (x:ci):Bool:=eC (dj x)
theorem tQ {L:List ci} {j:Nat} {x:ci} (E:L[j]? =some x):(L.take (j+1)).filter eO=if eO x=true then (L.take j).filter eO++[x] else (L.take j).filter eO:=by
 rw[o4,E,c8,List.filter_append];by_cases h:eO x=true
 ·rw[if_pos h];simp[h]
 ·rw[if_neg h];simp[h]
theorem yr {z:Array x4} {n:Nat} (E:0<z.size) (h:∀ u∈z.toList,u.oneCell'=true):∀ u∈db z n,u.oneCell'=true:=fun u hu=>by
 unfold db at hu;rw[Array.toList_map,l9] at hu;obtain⟨i,_,rfl⟩:=hu;have I:i % z.size<z.size:=Nat.mod_lt _ E;rw[getElem!_pos z (i % z.size) I];exact h _ (by simp)
set_option maxHeartbeats 4000000 in
theorem EE {w:x5} {g:Nat} {v:x4} {L:List ci} {k:Int} {sizes:List Int} (h:ed w g v L) (az:Sem w k sizes L) (bo:L.length≤100000):
  O y0 oG [v,.func (.func jx) #[] #[]] w fun J w'=>am (fun r=>leadsTo v r) w w'∧ed w' g J (L.filter eO)∧ ∀ r,leadsTo J r→leadsTo v r:=by
 apply oG.enter;refine (ED h az).mono ?_;rintro r bp _ ⟨ae,U⟩;rcases U with⟨rfl,al⟩|⟨af,rfl,aO,al,aQ⟩
 ·rw[bM,ag];refine⟨fun _=>⟨ae.ad _,?_,fun r U=>U⟩,fun h=>absurd rfl h⟩;rw[List.filter_eq_self.2 (show ∀ x∈L,eO x=true from al)];exact h.ext ae
 rw[bM,ag];refine⟨fun h=>by omega,fun _=>?_⟩;rw[aL,wrap_i64 (by omega) (by omega)];obtain⟨ao,aA⟩:∃ x,L[af]? =some x:=⟨_,x3 aO⟩;refine⟨fun ap aq V=>∃ (i j:Nat) (M:List ci),ap= .int .i64 (i:Int)∧aq= .int .i64 (j:Int)∧i<j∧j≤L.length∧M.length=L.length∧M.take i=(L.take j).filter eO∧M.drop j=L.drop j∧(∀ x∈M,x∈L)∧ed V g v M∧am (fun r=>leadsTo v r) w V,
  fun _ aq _=>L.length-(bQ aq).toNat,⟨af,af+1,L,rfl,by congr 1,by omega,by omega,rfl,?_,rfl,fun x W=>W,h.ext ae,ae.ad _⟩,?_⟩
 ·have aR:¬eO ao=true:=by rw[show eO ao=false from aQ ao aA];simp
  rw[tQ aA,if_neg aR,List.filter_eq_self.2 (show ∀ x∈L.take af,eO x=true from al)]
 rintro _ _ V ⟨i,j,M,rfl,rfl,bq,br,aB,Y,aC,aD,E,ah⟩;have aS:Sem V k sizes L:=az.row h ah;rw[eb cY.u E.1,au,ag];refine⟨fun av=>?_,fun bt=>?_⟩
 ·have av:j<L.length:=by omega
  obtain⟨x,W⟩:∃ x,L[j]? =some x:=⟨_,x3 av⟩;have ai:M[j]? =some x:=by
   have h1:(M.drop j)[0]? =(L.drop j)[0]?:=by rw[aC]
   rw[List.getElem?_drop,List.getElem?_drop,Nat.add_zero] at h1;rw[h1,W]
  have aE:M.drop (j+1)=L.drop (j+1):=by
   have h1:(M.drop j).drop 1=(L.drop j).drop 1:=by rw[aC]
   rw[List.drop_drop,List.drop_drop] at h1;exact h1
  refine aV (fun ap aj=>∃ (ab:Nat) (X:List ci),ap= .int .i64 (ab:Int)∧ab<j+1∧X.length=L.length∧X.take ab=(L.take (j+1)).filter eO∧X.drop (j+1)=L.drop (j+1)∧(∀ x∈X,x∈L)∧ed aj g v X∧am (fun r=>leadsTo v r) w aj) ?_ ?_
  ·rintro _ aj ⟨ab,X,rfl,h1,aw,aT,aU,aW,aX,aY⟩;rw[aL,wrap_i64 (by omega) (by omega)];exact⟨⟨ab,j+1,X,rfl,rfl,h1,av,aw,aT,aU,aW,aX,aY⟩,by simp only[bQ];omega⟩
  ·intro bu aF;rw[rX rfl E ai];refine bU bE.i fun aP aj bw aZ a1=>?_;refine b9 (vs:=dQ x) bE.i rfl rfl (E.at ai).one a1 fun aG a2 bx aH=>?_;have ax:Ext V aG:=aZ.then a2 (fun r U he=>by have he:r=aP:=he;omega);rw[bN bE.p bE.i rfl aH.range];show O y0 jx [hB x] aG _;obtain⟨bz,bA,a6⟩:=aS x (u5 W);refine (yq ((E.ext ax).at ai) (a6.ext ax)).mono ?_;rintro _ bB _ ⟨rfl,aI⟩;have ac:=ax.trans aI;rw[b4,Bool.not_not,cv];refine⟨fun a7=>?_,fun a8=>?_⟩
   ·rw[bN bE.p bE.i rfl (aH.ext aI).range];refine Er rfl (E.ext ac) (by omega) ((E.ext ac).at ai) fun bC ba bb=>?_;rw[aL,wrap_i64 (by omega) (by omega)];refine aF _ _ ⟨i+1,M.set i x,rfl,by omega,by simp[aB],?_,?_,fun y Z=>?_,bb,(ah.trans (ac.ad _)).trans ba⟩
    ·have ay:eO x=true:=a7;rw[tQ W,if_pos ay,o4,List.getElem?_set_self (by omega),c8,List.take_set_of_le (o7 _),Y]
    ·rw[List.drop_set_of_lt (by omega),aE]
    ·rcases V9 Z with Z|rfl
     ·exact aD y Z
     ·exact u5 W
   ·have ay:¬eO x=true:=by rw[show eO x=false from a8];simp
    exact aF _ _ ⟨i,M,rfl,by omega,aB,by rw[tQ W,if_neg ay,Y],aE,aD,E.ext ac,ah.trans (ac.ad _)⟩
 ·have bc:j=L.length:=by omega
  subst bc;rw[l5] at Y;obtain⟨⟨bD,bd⟩,aJ⟩:=E.1;rcases bd with⟨_,bF⟩|⟨cap,cs,be,bf,bG,bg,bh,bi⟩
  ·omega
  subst be;have bj:(I y0 (j4 cY (.slice (some ⟨g,0,none⟩) M.length cap) (some (.int .i64 (i:Int))) none none) V fun bk=>
    aa y0 (u7.clear_ #[cY] qS #[bk]) V fun u ak=>
    I y0 (j4 cY (.slice (some ⟨g,0,none⟩) M.length cap) none (some (.int .i64 (i:Int))) none) ak fun bl=>
    (fun J w'=>am (fun r=>leadsTo (.slice (some ⟨g,0,none⟩) M.length cap) r) w w'∧ed w' g J (L.filter eO)∧ ∀ r,leadsTo J r→leadsTo (.slice (some ⟨g,0,none⟩) M.length cap) r) bl ak):=by
   rw[gy (l:=i) (h:=M.length) (m:=cap) cY.u bE.i (lp i _ rfl) hY eU (by omega) (by omega) (o7 _),if_neg (by omega)];simp only[Z0,U5];refine Ez (g:=g) (o:=0+i*2) (n:=M.length-i) (k:=2) cY.u bE.i rfl ?_ bf (by omega) fun ak aK bm=>?_
   ·exact yr (by decide) (by decide)
   rw[gy (l:=0) (h:=i) (m:=cap) cY.u bE.i hX (lq i _ rfl) eU (by omega) (by omega) (o7 _),if_neg (by omega)];simp only[Z0,U5,Nat.zero_mul,V5,Nat.sub_zero];have bn:(db (x4.agg #[.slice none 0 0,.pointer none]).cells ((M.length-i)*2)).length=(M.length-i)*2:=mU _ _;have bH:(M.flatMap dQ).length=M.length*2:=gi aJ;have aM:(L.filter eO).length=i:=by rw[←Y,l7];omega
   have key:(fun J w'=>am (fun r=>leadsTo (.slice (some ⟨g,0,none⟩) M.length cap) r) w w'∧ed w' g J (L.filter eO)∧ ∀ r,leadsTo J r→leadsTo (.slice (some ⟨g,0,none⟩) M.length cap) r) (.slice (some ⟨g,0,none⟩) (L.filter eO).length cap) ak:=by
    refine⟨ah.trans (aK.mono fun r _ he=>⟨_,_,_,rfl,he.symm⟩),⟨⟨⟨gi (k:=2) (fun y _=>rfl),.inr ⟨cap,_,rfl,bm,by omega,bg,by rw[mT,bh],?_⟩⟩,fun y _=>rfl⟩,fun y Z=>?_⟩,fun r U=>?_⟩
    ·rw[aM,←Y,←pU i aJ,←bi,List.take_take,kv (by rw[bn];omega),V0,List.take_append_of_le_length (by rw[l7];omega),List.take_take];congr 1;omega
    ·have aN:y∈M:=by rw[←Y] at Z;exact List.mem_of_mem_take Z
     exact (E.2 y aN).ad aK fun r U he=>(E.2 y aN).2.1 r U he
    ·obtain⟨a,n,c,h1,aw⟩:=U;cases h1;exact⟨_,_,_,rfl,aw⟩
   rw[aM] at key;exact key
  exact bj
theorem tR {k:o8} {e:o6} {w:x5} {g n cap:Nat} {b:Option Addr} {l:List Int} (h:aq k e w g (.slice b n cap) l) (V:0<l.length):
  b=some ⟨g,0,none⟩∧n=l.length∧ ∃ cs,ak w g e cs∧n≤cap∧cap≤maxLen∧cs.length=cap∧cs.take n=ints k l:=by
 obtain⟨_,⟨_,h1⟩|⟨W,cs,h1,E,I,J,O,U⟩⟩:=h
 ·omega
 ·cases h1;exact⟨rfl,rfl,cs,E,I,J,by simpa using O,by simpa using U⟩
theorem EF {w:x5} {g n cap j:Nat} {l:List Int} (h:aq .i64 J w g (.slice (some ⟨g,0,none⟩) n cap) l) (O:j<l.length):aG .i64 w (.slice (some ⟨g,j,none⟩) (n-j) (cap-j)) (l.drop j):=by
 obtain⟨_,U,cs,E,h1,V,W,I⟩:=tR h (by omega);have:=Bj (o:=j) (k:=n-j) (c:=cap-j) E (by omega) (by omega) (by omega);refine aG.of (n:=n-j) ?_;have e:(cs.drop j).take (n-j)=ints .i64 (l.drop j):=by
  rw[←List.drop_take,I,ints,ints,List.map_drop]
 rw[e] at this;exact this
set_option maxHeartbeats 1000000 in
theorem EG {sv:x4} {l:List Int} {g:Nat} {w:x5} (h:aq .i64 J w g sv l) (bg:l.length≤1000):
  O y0 oQ [sv] w fun v w'=>am (fun r=>r=g) w w'∧aq .i64 J w' g v (dedup l l.length):=by
 apply oQ.enter;rw[aQ ab.u h.ls];simp only[au,ag];refine⟨fun bh=>⟨am.refl _ _,?_⟩,fun bi=>?_⟩
 ·rw[rU (o7 _) (fun i hi ax=>by omega),l5];exact h
 obtain⟨n,V⟩:∃ n,l.length=n:=⟨_,rfl⟩;obtain⟨cap,rfl⟩:∃ cap,sv= .slice (some ⟨g,0,none⟩) n cap:=by
  obtain⟨_,⟨_,h1⟩|⟨aM,cs,h1,_⟩⟩:=id h
  ·omega
  ·exact⟨aM,by rw[h1,V]⟩
 obtain⟨_,_,_,_,bj,aN,_⟩:=tR h (by omega);refine⟨fun _ t ay=>∃ j:Nat,t= .int .i64 (j:Int)∧1≤j∧j≤n∧Ext w ay∧ ∀ i,i<j→0<i→l[i]? ≠l[i-1]?,fun _ t _=>n-(bQ t).toNat,⟨1,rfl,by omega,by omega,Ext.refl _,fun i h1 az=>by omega⟩,?_⟩;rintro bk _ ay ⟨j,rfl,bl,aA,W,ae⟩;rw[aQ ab.u (h.ls.ext W)];simp only[au,ag,aS];refine⟨fun aO bm aP _ _=>?_,fun bn=>⟨W.ad _,?_⟩⟩
 ·have aO:j<n:=by omega
  have X:=W.trans aP;have aB:=h.ls.ext X;obtain⟨a,af⟩:∃ a,l[j]? =some a:=⟨_,x3 (by omega)⟩;obtain⟨b,ah⟩:∃ b,l[j-1]? =some b:=⟨_,x3 (by omega)⟩;rw[bw ab.u J.i (by kernel_rfl) aB af];simp only[dw];rw[wrap_i64 (by omega) (by omega),eV (i:=j-1) (by omega) ab.u J.i (by kernel_rfl) aB ah];simp only[bM,ag,aL];refine⟨fun ai=>?_,fun ai=>?_⟩
  ·subst ai;rw[gy ab.u J.i (l:=j) (h:=n) (m:=cap) qY hY eU (by omega) (by omega) (by omega),if_neg (by omega)];have aR:W6 (fun x:Addr=>x.add (j*1)) (some ⟨g,0,none⟩)=some ⟨g,j,none⟩:=by simp[U5]
   rw[aR];have aC:dedup l (j+1)=l.take j:=by rw[tM (by omega) (by rw[af,ah]),rU (by omega) ae]
   refine⟨fun aj t ak=>∃ (q E:Nat) (I:List Int),aj= .int .i64 (q:Int)∧t= .int .i64 (E:Int)∧1≤E∧j+E≤n∧am (fun r=>r=g) w ak∧aq .i64 J ak g (.slice (some ⟨g,0,none⟩) n cap) I∧I.length=n∧
     q=(dedup l (j+E)).length∧I.take q=dedup l (j+E)∧q≤j+E-1∧ ∀ i,j+E-1≤i→I[i]? =l[i]?,fun _ t _=>n-(bQ t).toNat,
    ⟨j,1,l,rfl,rfl,by omega,by omega,X.ad _,h.ext X,V,by rw[aC,l7];omega,by rw[aC],by omega,fun i _=>rfl⟩,?_⟩
   rintro _ _ ak ⟨q,E,I,rfl,rfl,bo,bp,al,aD,aE,aF,Y,aT,Z⟩;rw[ga ab.u];simp only[au,ag,aS];refine⟨fun aG=>?_,fun aG=>?_⟩
   ·have aG:j+E<n:=by omega
    refine aV (fun aj ao=>∃ (q:Nat) (I:List Int),aj= .int .i64 (q:Int)∧am (fun r=>r=g) w ao∧aq .i64 J ao g (.slice (some ⟨g,0,none⟩) n cap) I∧I.length=n∧
     q=(dedup l (j+(E+1))).length∧I.take q=dedup l (j+(E+1))∧q≤j+(E+1)-1∧ ∀ i,j+(E+1)-1≤i→I[i]? =l[i]?) ?_ ?_
    ·rintro _ ao ⟨q,I,rfl,h1,az,aU,aW,aX,aY,aZ⟩;simp only[aL];rw[wrap_i64 (by omega) (by omega)];exact⟨⟨q,E+1,I,rfl,rfl,by omega,by omega,h1,az,aU,aW,aX,aY,aZ⟩,by simp only[bQ];omega⟩
    ·intro bq aH br ap _ _;have aa:=aD.ext ap;have av:=EF (j:=j) aa (by omega);obtain⟨y,ac⟩:∃ y,l[j+E]? =some y:=⟨_,x3 (by omega)⟩;obtain⟨z,aw⟩:∃ z,l[j+E-1]? =some z:=⟨_,x3 (by omega)⟩;have aI:(I.drop j)[E]? =some y:=by rw[List.getElem?_drop,Z _ (by omega),ac]
     have a1:(I.drop j)[E-1]? =some z:=by rw[List.getElem?_drop,Z _ (by omega),←aw];congr 1;omega
     rw[bw ab.u J.i (by kernel_rfl) av aI];simp only[dw];rw[wrap_i64 (by omega) (by omega),eV (i:=E-1) (by omega) ab.u J.i (by kernel_rfl) av a1];simp only[bC,ag,aL];refine⟨fun U=>?_,fun U=>?_⟩
     ·rw[bw ab.u J.i (by kernel_rfl) av aI,gY rfl ab.u J.i aa (by omega)];refine gZ J.i aa (by omega) fun bt a2 bu a6=>?_;rw[wrap_i64 (by omega) (by omega)];have aJ:dedup l (j+E+1)=dedup l (j+E)++[y]:=tN ac (fun _=>by rw[ac,aw];simpa using U);refine aH _ _ ⟨q+1,_,rfl,(al.trans (ap.ad _)).trans a2,a6,by simpa using aE,?_,?_,by omega,fun i hi=>?_⟩
      ·rw[←Nat.add_assoc,aJ];simp;omega
      ·rw[←Nat.add_assoc,aJ,o4,List.getElem?_set_self (by omega),List.take_set_of_le (o7 _),Y];rfl
      ·rw[List.getElem?_set_ne (by omega)];exact Z i (by omega)
     ·have U:y=z:=X4.1 U;have aK:dedup l (j+E+1)=dedup l (j+E):=tM (by omega) (by rw[ac,aw,U]);exact aH _ _ ⟨q,I,rfl,al.trans (ap.ad _),aa,aE,by rw[←Nat.add_assoc,aK];exact aF,by rw[←Nat.add_assoc,aK];exact Y,by omega,fun i hi=>Z i (by omega)⟩
   ·have a7:j+E=n:=by omega
    rw[a7] at aF Y aT;obtain⟨_,_,cs,a8,_,_,bx,ba⟩:=tR aD (by omega);simp only[maxLen] at aN;rw[gy ab.u J.i (l:=q) (h:=n) (m:=cap) qY hY eU (by omega) (by omega) (by omega),if_neg (by omega)];have bb:W6 (fun x:Addr=>x.add (q*1)) (some ⟨g,0,none⟩)=some ⟨g,q,none⟩:=by simp[U5]
    rw[bb];refine Bk ab.u J.i rfl rfl a8 (by omega) (by omega) fun bz bc bA bd=>?_;rw[gy ab.u J.i (l:=0) (h:=q) (m:=cap) hX qZ eU (by omega) (by omega) (by omega),if_neg (by omega)];have be:W6 (fun x:Addr=>x.add (0*1)) (some ⟨g,0,none⟩)=some ⟨g,0,none⟩:=by simp[U5]
    rw[be,V];refine⟨al.trans bc,?_⟩;rw[←Y];refine aq.of (n:=q) ⟨by simp;omega,.inr ⟨cap,_,by simp,bd,by omega,by simp only[maxLen];omega,by rw[mT];omega,?_⟩⟩;rw[T0];apply W0;intro i;by_cases hi:i<q
    ·rw[Z8 hi,pr _ _ _ (by simp;omega),if_neg (by omega),ints,r9,Z8 hi];have:(cs.take n)[i]? =(ints .i64 I)[i]?:=by rw[ba]
     rw[Z8 (by omega),ints,r9] at this;exact this
    ·rw[Z7 (by simp;omega),Z7 (by simp;omega)]
  ·rw[wrap_i64 (by omega) (by omega)];refine⟨⟨j+1,rfl,by omega,by omega,X,fun i hi ax=>?_⟩,by simp only[bQ];omega⟩;by_cases bf:i=j
   ·subst bf;rw[af,ah];intro he;exact ai (Z2 he)
   ·exact ae i (by omega) ax
 ·have aA:j=n:=by omega
  rw[rU (o7 _) (by rw[V,←aA];exact ae),l5];exact h.ext W
theorem EH {n:Nat} {w:x5} (ad:n≤1000000):O y0 o2 [.slice none 0 0,.int .i64 (n:Int)] w fun v w'=>Ext w w'∧ ∃ g,w.heap.size≤g∧aq .i64 J w' g v []:=by
 apply o2.enter;refine dG (fun I=>w=I) ?_ ?_
 ·rintro _ rfl;refine aV (fun v w'=>Ext w w'∧ ∃ g,w.heap.size≤g∧aq .i64 J w' g v []) (fun _ _ h=>h) fun U E=>?_;rw[vQ ab.u,ga ab.u];simp only[dw];have V:X3.wrap (((0:Nat):Int)-((0:Nat):Int))=0:=by decide
  have W:X3.wrap ((n:Int)-0)=n:=by rw[wrap_i64 (by omega) (by omega)];omega
  rw[V,W];simp only[bT,ag];refine⟨fun h=>?_,fun h=>E _ _ ⟨Ext.refl _,w.heap.size,o7 _,aq.nil _ _ _ _⟩⟩;rw[vQ ab.u,gy ab.u J.i (l:=0) (h:=0) (m:=0) hX qZ eU (by omega) (by omega) (by omega),if_pos rfl];refine Bi (k:=n) (xs:=[]) rfl ab.u J.u J.i rfl ⟨rfl,0,0,none,0,rfl,o7 _,Y1 _,fun h=>absurd h (Nat.lt_irrefl _),fun j v h=>by simp at h⟩ (by omega) (by omega) (by omega) (by omega) fun v g w' ae X hm=>?_;obtain⟨_,⟨_,af⟩|⟨cap,cs,rfl,Y,h1,Z,aa,ah⟩⟩:=hm
  ·omega
  rw[ga ab.u,gy ab.u J.i (l:=0) (h:=0) (m:=cap) hX qZ eU (by omega) (by omega) (by omega),if_neg (by omega)];have ac:W6 (fun x:Addr=>x.add (0*1)) (some ⟨g,0,none⟩)=some ⟨g,0,none⟩:=by simp[U5]
  rw[ac];refine E _ _ ⟨X,g,by omega,aq.of (n:=0) ⟨by simp,.inr ⟨cap,cs,by simp,Y,by omega,Z,aa,by simp⟩⟩⟩
 ·intro U E;simp only[au,ag];exact⟨fun h=>by omega,fun _=>E _ rfl⟩
set_option maxHeartbeats 1000000 in
theorem EI {ad bv:x4} {a b:List Int} {w:x5} {K:x4→x5→Prop} (av:aG .i64 w ad a) (aw:aG .i64 w bv b) (aA:a.length≤1000) (aB:b.length≤1000)
  (aC:∀ v w' g,Ext w w'→w.heap.size≤g→aq .i64 J w' g v (a++b)→K v w'):
  aa y0 (u9 cz 2 #[(0,ad),(1,bv)]) w fun t E=>O y0 oR [t] E K:=by
 obtain⟨⟨ae,af,ah,aD⟩,⟨ai,aj,am,aE⟩⟩:(∃ x n c,ad= .slice x n c)∧(∃ x n c,bv= .slice x n c):=by
  obtain⟨_,_,_,x,c,h1,_⟩:=id av;obtain⟨_,_,_,y,d,aF,_⟩:=id aw;exact⟨⟨x,_,c,h1⟩,⟨y,_,d,aF⟩⟩
 subst aD;subst aE;refine hZ cz.u ab.i (by omega) (cs:=#[.slice ae af ah,.slice ai aj am]) (by kernel_rfl) fun g E aY W X=>?_;have X:ak E g ab [.slice ae af ah,.slice ai aj am]:=X;have key:∀ i:Nat,i<2→ ∃ v l,[x4.slice ae af ah,.slice ai aj am][i]? =some v∧[a,b][i]? =some l∧aG .i64 w v l∧l.length≤1000:=fun i hi=>by
  match i,hi with
  |0,_=>exact⟨_,_,rfl,rfl,av,aA⟩
  |1,_=>exact⟨_,_,rfl,rfl,aw,aB⟩
 apply oR.enter;rw[ga cz.u];refine ba.range 2 (fun i size Y=>Ext E Y∧ ∃ n:Nat,n≤1000*i∧size= .int .i64 (n:Int)) (by omega) ⟨Ext.refl _,0,by omega,rfl⟩ ?_ ?_
 ·rintro i _ Y aH hi ⟨I,n,aI,rfl⟩ aJ;simp only[au,ag];refine⟨fun _=>?_,fun h=>by omega⟩;obtain⟨v,l,ao,ax,ap,aK⟩:=key i hi;refine aV (fun v ay=>Y=ay∧v= .int .i64 ((n+l.length:Nat):Int)) ?_ ?_
  ·rintro _ _ ⟨rfl,rfl⟩;simp only[aL];exact aJ _ _ ⟨I,_,by omega,rfl⟩
  ·intro aZ aM;rw[gx (b:=g) (o:=0) cz.u ab.i hi (fun _=>rfl),al (by kernel_rfl) ((X.ext I).cell (o:=0+i*1) (by rw[←ao];congr 1;omega)),aQ ab.u (ap.ext (W.trans I))];simp only[aL,au,ag];rw[wrap_i64 (by omega) (by omega)];exact⟨fun h=>by omega,fun _=>aM _ _ ⟨rfl,by congr 1⟩⟩
 ·rintro _ Y aH ⟨I,n,aI,rfl⟩;simp only[au,ag];refine⟨fun h=>by omega,fun _=>?_⟩;refine (EH (n:=n) (by omega)).mono ?_;rintro v0 ay _ ⟨az,aN,a1,aO⟩;have a2:=W.size;have a6:=I.size;have a7:=az.size;have aP:=I.trans az;rw[ga cz.u];refine ba.range 2 (fun i v Z=>Ext E Z∧ ∃ V,E.heap.size≤V∧aq .i64 J Z V v (([a,b].take i).flatten)∧(([a,b].take i).flatten).length≤1000*i) (by omega) ⟨aP,aN,by omega,aO,by simp⟩ ?_ ?_
  ·rintro i v4 Z aR hi ⟨U,V,aS,ac,a8⟩ aT;simp only[au,ag];refine⟨fun _=>?_,fun h=>by omega⟩;obtain⟨v,l,ao,ax,ap,aK⟩:=key i hi;rw[gx (b:=g) (o:=0) cz.u ab.i hi (fun _=>rfl),al (by kernel_rfl) ((X.ext U).cell (o:=0+i*1) (by rw[←ao];congr 1;omega))];refine gW ab.u J.i rfl ac (ap.ext (W.trans U)) (by omega) (by omega) fun bb aU bc bd aW aX=>?_;simp only[aL];have be:=U.size;have e:([a,b].take (i+1)).flatten=([a,b].take i).flatten++l:=by rw[o4,ax];simp
   refine aT _ _ ⟨U.then aX (by rintro r bf rfl;omega),aU,by omega,by rw[e];exact aW,by rw[e,o5];omega⟩
  ·rintro v4 Z aR ⟨U,V,aS,ac,_⟩;simp only[au,ag];refine⟨fun h=>by omega,fun _=>aC _ _ V (W.trans U) (by omega) ?_⟩;have e:([a,b].take 2).flatten=a++b:=by simp
   rw[e] at ac;exact ac
def nq (J E O I vars:List Int):Prop:=∀ p∈vars,p∈E→p∈I→fQ J (fI E p)=fQ O (fI I p)
def cU (E I J O vars:List Int):List Int:=vars.map fun p=>max (fQ E (fI I p)) (fQ J (fI O p))
theorem ys (E I J O vars:List Int):(cU E I J O vars).length=vars.length:=by simp[cU]
theorem rZ {l:List Int} {x:Int}:0≤fI l x↔x∈l:=by
 unfold fI;by_cases h:x∈l
 ·rw[if_pos h];exact⟨fun _=>h,fun _=>by omega⟩
 ·rw[if_neg h];exact⟨fun h=>by omega,fun E=>absurd E h⟩
set_option maxHeartbeats 1000000 in
theorem EJ {w:x5} {g a8 aH ba:Nat} {sv aj aI aJ bv:x4} {U V vars E I:List Int} {k bb:Int} {bc bd:List Int} (h1:cG w g a8 sv U k bc) (aM:cG w aH ba aj V bb bd) (W:aG .i64 w aI vars) (be:aG .i64 w aJ E) (al:aG .i64 w bv I) (bf:fq E) (bg:fq I) (bG:vars.length≤1000):
  O y0 oS [aI,.pointer (some ⟨g,0,none⟩),aJ,.pointer (some ⟨aH,0,none⟩),bv] w fun v w'=>Ext w w'∧
   (¬nq U E V I vars→v= .tuple #[.slice none 0 0,.bool false])∧
   (nq U E V I vars→ ∃ x aP,v= .tuple #[x,.bool true]∧w.heap.size≤aP∧aq .i64 J w' aP x (cU U E V I vars)):=by
 have sub:∀ {w:x5} {g:Nat} {sv:x4} {k:Int} {aO:x4},ak w g bq [sv,.int .i64 k,aO]→w.rangeAt g (0+0) [sv]:=fun al=>lz al (by
  intro j v W
  match j,W with
  |0,W=>exact W)
 apply oS.enter;rw[aQ ab.u W];refine h0 ab.u J.i (by omega) (by omega) fun ac bh bH aN bi=>?_;have bj:aq .i64 J bh ac (.slice (some ⟨ac,0,none⟩) vars.length vars.length) (p9 vars.length 0):=aq.of (n:=vars.length) (bR.full bi (by simp) (by simp[maxLen];omega));generalize (x4.slice (some ⟨ac,0,none⟩) vars.length vars.length)=bk at*;rw[aQ ab.u (W.ext aN)];have am:=ys U E V I vars;refine jj.range vars.length (fun i _ _ ae=>Ext w ae∧aq .i64 J ae ac bk (upto (cU U E V I vars) 0 i)∧ ∀ (j:Nat) (p:Int),j<i→vars[j]? =some p→p∈E→p∈I→fQ U (fI E p)=fQ V (fI I p)) (by omega)
  ⟨aN,by rw[pF,am];exact bj,fun j p ad=>by omega⟩ ?_ ?_
 ·rintro i _ _ ae bl hi ⟨X,hm,ao⟩ bm;simp only[au,ag];refine⟨fun _=>?_,fun h=>by omega⟩;obtain⟨p,Y⟩:∃ p,vars[i]? =some p:=⟨_,x3 hi⟩;rw[bw ab.u J.i (by kernel_rfl) (W.ext X) Y];refine (tO (be.ext X) bf).mono ?_;rintro _ bI _ ⟨rfl,ap⟩;refine (tO (al.ext (X.trans ap)) bg).mono ?_;rintro _ bn _ ⟨rfl,aR⟩;have aT:=(X.trans ap).trans aR;refine aV (fun v aU=>Ext bn aU∧ ∃ c,v= .bool c∧(c=true↔p∈E∧p∈I∧fQ U (fI E p)≠fQ V (fI I p))) ?_ ?_
  ·rintro _ aU ⟨aW,c,rfl,aX⟩;have aY:=aT.trans aW;rw[cv];refine⟨fun bo=>⟨aY,fun _=>by first|rfl|trivial,fun ad=>?_⟩,fun bp=>?_⟩
   ·obtain⟨Z,aa,br⟩:=aX.1 bo;exact absurd (ad p (u5 Y) Z aa) br
   ·simp only[aS];intro bJ aZ _ _;have av:=aY.trans aZ;obtain⟨⟨aO,gs,aw,ax,_⟩,_⟩:=h1.ext av;obtain⟨⟨bt,bu,ay,aA,_⟩,_⟩:=aM.ext av;rw[az,ah bq.p rfl,bN (cs:=[sv]) aK.p aK.i rfl (sub aw),az,ah bq.p rfl,bN (cs:=[aj]) aK.p aK.i rfl (sub ay)];refine (pN ax.ls).mono ?_;rintro _ bK _ ⟨rfl,af⟩;refine⟨.inl af,?_⟩;refine (pN (aA.ls.ext af)).mono ?_;rintro _ bL _ ⟨rfl,a1⟩;have bx:=(av.trans af).trans a1;have a2:=hm.ext ((((ap.trans aR).trans aW).trans aZ).trans (af.trans a1));have bM:(upto (cU U E V I vars) 0 i).length=vars.length:=by rw[pE,am]
    rw[qX,gY rfl ab.u J.i a2 (by omega)];refine gZ J.i a2 (by omega) fun bO bz _ a6=>?_;simp only[aL];have bA:(cU U E V I vars)[i]? =some (max (fQ U (fI E p)) (fQ V (fI I p))):=by
     unfold cU;rw[r9,Y];rfl
    rw[pH bA] at a6;refine bm _ _ _ ⟨bx.then bz (by rintro r bP rfl;omega),a6,fun j bB ad aB Z aa=>?_⟩;by_cases bD:j=i
    ·subst bD;rw[Y] at aB;cases aB;refine Decidable.byContradiction fun bE=>?_;have:=aX.2 ⟨Z,aa,bE⟩;rw[bp] at this;cases this
    ·exact ao j bB (by omega) aB Z aa
  ·intro bQ aC;simp only[aS,cw,ag];intro bS ai _ _;refine⟨fun aD=>⟨fun aE=>?_,fun aE=>⟨.inl (Ext.refl _),aC _ _ ⟨ai,false,rfl,⟨(fun h=>by cases h),fun h=>absurd (rZ.2 h.2.1) aE⟩⟩⟩⟩,fun aD=>⟨.inl (Ext.refl _),aC _ _ ⟨ai,false,rfl,⟨(fun h=>by cases h),fun h=>absurd (rZ.2 h.1) aD⟩⟩⟩⟩;have a7:=aT.trans ai;obtain⟨⟨aO,gs,aw,ax,_⟩,_⟩:=h1.ext a7;obtain⟨⟨bt,bu,ay,aA,_⟩,_⟩:=aM.ext a7;rw[az,ah bq.p rfl,bN (cs:=[sv]) aK.p aK.i rfl (sub aw),az,ah bq.p rfl,bN (cs:=[aj]) aK.p aK.i rfl (sub ay)];refine (pN ax.ls).mono ?_;rintro _ bT _ ⟨rfl,aF⟩;refine⟨.inl aF,?_⟩;refine (pN (aA.ls.ext aF)).mono ?_;rintro _ bU _ ⟨rfl,bF⟩;simp only[bC];refine aC _ _ ⟨(ai.trans aF).trans bF,_,rfl,?_⟩;rw[decide_eq_true_iff];exact⟨fun h=>⟨rZ.1 aD,rZ.1 aE,h⟩,fun h=>h.2.2⟩
 ·rintro _ _ ae bl ⟨X,hm,ao⟩;simp only[au,ag];refine⟨fun h=>by omega,fun _=>?_⟩;have ad:nq U E V I vars:=fun p Y Z aa=>by
   obtain⟨i,hi,he⟩:=List.getElem_of_mem Y;exact ao i p hi (by rw[x3 hi,he]) Z aa
  rw[←am,pG] at hm;exact⟨X,fun h=>absurd ad h,fun _=>⟨_,ac,rfl,by omega,hm⟩⟩
def tS (E I vars:List Int):Prop:=fq vars∧ ∀ x,x∈vars↔x∈E∨x∈I
def lM (E U I J V O vars:List Int) (k:Int):List Int:=
 (W3 (aH (cU E I J O vars)).toNat).map fun(q:Nat)=>min (cH E U (dP (ct (cU E I J O vars) q) vars I)+cH J V (dP (ct (cU E I J O vars) q) vars O)) k
theorem yt (E U I J V O vars:List Int) (k:Int):(lM E U I J V O vars k).length=(aH (cU E I J O vars)).toNat:=by simp[lM]
theorem yu {s cs t:List Int} {k:Int} (E:right k) (h:∀ x∈cs,cF x k):cF (cH s cs t) k:=by
 have I:cF 0 k:=⟨E,Int.le_refl _,by have:=E.1;omega⟩;unfold cH;split
 ·rename_i n _;rw[p8];cases J:cs[n.toNat]? with
  |none=>exact I
  |some x=>exact h x (u5 J)
 ·exact I
def Fits (s l:List Int):Prop:=l.length=s.length∧p6 l
def qa (e:Int):x4:=.tuple #[.pointer none,.slice none 0 0,.int .i64 e]
def yv (w:x5) (J X E O Y I:List Int) (k U:Int) (v:x4) (w':x5):Prop:=
 Ext w w'∧(¬(Fits J E∧Fits O I)→v=qa 1)∧
  (Fits J E∧Fits O I→ ∃ vars,tS E I vars∧(¬nq J E O I vars→v=qa 1)∧(nq J E O I vars→(k≠U→v=qa 3)∧
   (k=U→¬bV (cU J E O I vars)→v=qa 1)∧(k=U→bV (cU J E O I vars)→4096<aH (cU J E O I vars)→v=qa 5)∧
   (k=U→bV (cU J E O I vars)→aH (cU J E O I vars)≤4096→ ∃ V Z aa W,v= .tuple #[.pointer (some ⟨V,0,none⟩),W,.int .i64 0]∧
    cG w' V Z aa (cU J E O I vars) k (lM J X E O Y I vars k)∧aG .i64 w' W vars)))
set_option maxHeartbeats 1000000 in
theorem EK {w:x5} {g bY aT bZ:Nat} {sv b1 aW bv:x4} {U V E I:List Int} {k bg:Int} {Z aa:List Int} (h1:cG w g bY sv U k Z) (aX:cG w aT bZ b1 V bg aa) (aY:aG .i64 w aW E) (ax:aG .i64 w bv I)
  (bh:right k) (cV:∀ x∈Z,cF x k) (cW:∀ x∈aa,cF x bg):
  O y0 mD [.pointer (some ⟨g,0,none⟩),aW,.pointer (some ⟨aT,0,none⟩),bv] w (yv w U Z E V aa I k bg):=by
 have cX:=aY.cells;have cY:=ax.cells;have cZ:=h1.2.2.1;have c0:=aX.2.2.1;have sub:∀ {w:x5} {g:Nat} {sv:x4} {k:Int} {aO:x4},ak w g bq [sv,.int .i64 k,aO]→w.rangeAt g (0+0) [sv]:=fun ax=>lz ax (by
  intro j v bA
  match j,bA with
  |0,bA=>exact bA)
 apply mD.enter;refine cc fun b2 ee ef b3 aj=>?_;refine cc fun b5 eg eh bD ao=>?_;refine cc fun b6 ei ej bi ap=>?_;refine cc fun b7 aE ek aZ au=>?_;have em:=aj.lt;have en:=ao.lt;have eo:=ap.lt;have ep:=au.lt;have er:=b3.size;have es:=bD.size;have et:=bi.size;have eu:=aZ.size;have aF:=((b3.trans bD).trans bi).trans aZ;have aj:ak aE b2 bB [.pointer (some ⟨g,0,none⟩)]:=((aj.ext bD).ext bi).ext aZ;have ao:ak aE b5 ab [aW]:=by rw[cX.1] at ao;exact (ao.ext bi).ext aZ
 have ap:ak aE b6 bB [.pointer (some ⟨aT,0,none⟩)]:=ap.ext aZ;have au:ak aE b7 ab [bv]:=by rw[cY.1] at au;exact au
 refine aV (fun v b9=>v= .bool false∧aE=b9) ?_ ?_
 rotate_left
 ·intro c1 bj;rw[al (by kernel_rfl) (aj.cell (o:=0) rfl),b8 bB.u];simp only[c9,aU];rw[al (by kernel_rfl) (ap.cell (o:=0) rfl),b8 bB.u];exact bj _ _ ⟨rfl,rfl⟩
 rintro _ _ ⟨rfl,rfl⟩;simp only[aU];refine aV (fun v bE=>Ext aE bE∧ ∃ c,v= .bool c∧(c=true↔¬(Fits U E∧Fits V I))) ?_ ?_
 rotate_left
 ·intro c1 bj;rw[al (by kernel_rfl) (aj.cell (o:=0) rfl),al (by kernel_rfl) (ao.cell (o:=0) rfl)];refine (yj (h1.ext aF) (aY.ext aF)).mono ?_;rintro _ b9 _ ⟨aI,c,rfl,a1⟩;simp only[b4,cv];refine⟨fun bk=>bj _ _ ⟨aI,true,rfl,fun _ h=>?_,fun _=>rfl⟩,fun ca=>?_⟩
  ·have:=a1.2 h.1;rw[this] at bk;cases bk
  ·have c2:c=true:=by cases c <;> simp_all
   rw[al (by kernel_rfl) ((ap.ext aI).cell (o:=0) rfl),al (by kernel_rfl) ((au.ext aI).cell (o:=0) rfl)];refine (yj ((aX.ext aF).ext aI) ((ax.ext aF).ext aI)).mono ?_;rintro _ ev _ ⟨c3,d,rfl,cb⟩;simp only[b4];refine bj _ _ ⟨aI.trans c3,_,rfl,fun h c4=>?_,fun h=>?_⟩
   ·have:=cb.2 c4.2;rw[this] at h;cases h
   ·cases d with
    |false=>rfl
    |true=>exact absurd ⟨a1.1 c2,cb.1 rfl⟩ h
 rintro _ bE ⟨a2,c,rfl,a1⟩;have bF:=aF.trans a2;rw[cv];refine⟨fun bk ew c5 _=>⟨bF.trans c5,fun _=>rfl,fun h=>absurd h (a1.1 bk)⟩,fun ca=>?_⟩;have a6:Fits U E∧Fits V I:=Classical.byContradiction fun h=>by
  have:=a1.2 h;rw[ca] at this;cases this
 obtain⟨⟨ey,c6⟩,ez,c7⟩:=id a6;have eA:=cZ.1;have eB:=c0.1;rw[al (by kernel_rfl) ((ao.ext a2).cell (o:=0) rfl),al (by kernel_rfl) ((au.ext a2).cell (o:=0) rfl)];refine EI (aY.ext bF) (ax.ext bF) (by omega) (by omega) fun eC eD eE cd eF c8=>?_;refine tL c8.ls (by rw[o5];omega) fun eG eH eI m ce eJ cg da db=>?_;have dc:=cg.length_eq;rw[o5] at dc;refine (EG db (by omega)).mono ?_;rintro bl ci _ ⟨dd,bG⟩;have eK:=a2.size;have eL:=cd.size;have eM:=ce.size;have cj:Ext bE ci:=(cd.trans ce).then dd (by rintro r aJ rfl;omega);obtain⟨de,df⟩:=yi da (j:=m.length) (o7 _);have eN:=yh m m.length;have av:tS E I (dedup m m.length):=⟨de,fun x=>by rw[df,l5,cg.mem_iff,n9]⟩;generalize dedup m m.length=vars at*;refine bU ab.i fun ck eO eP cl dg=>?_;refine bH ab.i bG.ls.cells.1 bG.ls.cells.2 dg (by simp[x4.cells]) fun cm dh eQ a7=>?_;have eR:=cj.size;have eS:=cl.size;have bI:Ext ci cm:=cl.then dh (by rintro r aJ rfl;omega);have aL:=(a2.trans cj).trans bI;have a8:=aF.trans aL;have eT:=a7.lt;have cn:=bG.ls.ext bI;have a7:ak cm ck ab [bl]:=a7;rw[al (by kernel_rfl) (a7.cell (o:=0) rfl),al (by kernel_rfl) ((aj.ext aL).cell (o:=0) rfl),al (by kernel_rfl) ((ao.ext aL).cell (o:=0) rfl),al (by kernel_rfl) ((ap.ext aL).cell (o:=0) rfl),al (by kernel_rfl) ((au.ext aL).cell (o:=0) rfl)];refine (EJ (h1.ext a8) (aX.ext a8) cn (aY.ext a8) (ax.ext a8) c6.up c7.up (by omega)).mono ?_;rintro ch eU _ ⟨ba,di,dj⟩;have cp:=a8.trans ba;by_cases aM:nq U E V I vars
 rotate_left
 ·rw[di aM,aC (v:=.slice none 0 0) rfl,aC (v:=.bool false) rfl];simp only[b4,Y8,bm];intro eV dk _;exact⟨cp.trans dk,fun h=>absurd a6 h,fun _=>⟨vars,av,fun _=>rfl,fun h=>absurd h aM⟩⟩
 obtain⟨xs,aP,rfl,eW,dl⟩:=dj aM;rw[aC (v:=xs) rfl,aC (v:=.bool true) rfl];simp only[b4,Y7,aU];intro ay aN _ _;have bn:=(aL.trans ba).trans aN;have aQ:=cp.trans aN;have aj:=aj.ext bn;have ao:=ao.ext bn;have ap:=ap.ext bn;have au:=au.ext bn;have dm:=(a7.ext ba).ext aN;obtain⟨⟨aO,gs,cq,eX,_⟩,_⟩:=h1.ext aQ;obtain⟨⟨eY,eZ,dn,e0,_⟩,_⟩:=aX.ext aQ;rw[al (by kernel_rfl) (aj.cell (o:=0) rfl),az,ah bq.p rfl,al (by kernel_rfl) (cq.cell (o:=0+1) rfl),al (by kernel_rfl) (ap.cell (o:=0) rfl),az,ah bq.p rfl,al (by kernel_rfl) (dn.cell (o:=0+1) rfl)];simp only[bC,ag];refine⟨fun aA e1 dp _=>⟨aQ.trans dp,fun h=>absurd a6 h,fun _=>⟨vars,av,fun h=>absurd aM h,fun _=>⟨fun _=>rfl,fun h=>absurd h aA,fun h=>absurd h aA,fun h=>absurd h aA⟩⟩⟩,fun aA=>?_⟩;have aA:k=bg:=X4.1 aA;subst aA;rw[al (by kernel_rfl) (aj.cell (o:=0) rfl),az,ah bq.p rfl,al (by kernel_rfl) (cq.cell (o:=0+1) rfl)];have dq:=dl.ext aN;refine (sY dq.ls).mono ?_;rintro cr bb _ ⟨cu,dr,ds,_,dt⟩;have e2:=bI.size;have e3:=ba.size;have e4:=aN.size;have e5:=cu.size;obtain⟨aR,e,rfl,e6,bo⟩:∃ (aR:Option Addr) (e:Int),cr= .tuple #[.pointer aR,.int .i64 e]∧(e=0→aR≠none)∧((e=1∧¬bV (cU U E V I vars))∨(e=5∧bV (cU U E V I vars)∧4096<aH (cU U E V I vars))∨(e=0∧bV (cU U E V I vars)∧aH (cU U E V I vars)≤4096∧
   ∃ X W Y,aR=some ⟨X,0,none⟩∧ay.heap.size≤X∧ay.heap.size≤W∧(∀ r,leads Y r→ay.heap.size≤r)∧cG bb X W Y (cU U E V I vars) k (p9 (aH (cU U E V I vars)).toNat 0))):=by
  by_cases ac:bV (cU U E V I vars)
  ·by_cases aw:aH (cU U E V I vars)≤4096
   ·obtain⟨X,W,Y,du,dv,dw,dx,dy⟩:=dt ac aw ⟨bh,by omega,by have:=bh.1;omega⟩;exact⟨_,_,du,(fun _ h=>by cases h),.inr (.inr ⟨rfl,ac,aw,X,W,Y,rfl,dv,dw,dx,dy⟩)⟩
   ·exact⟨_,_,ds ac (by omega),(fun h=>by omega),.inr (.inl ⟨rfl,ac,by omega⟩)⟩
  ·exact⟨_,_,dr ac,(fun h=>by omega),.inl ⟨rfl,ac⟩⟩
 rw[aC (v:=.pointer aR) rfl,aC (v:=.int .i64 e) rfl];refine bU bB.i fun cw e7 e8 cz bc=>?_;refine bH bB.i rfl rfl bc (by simp[x4.cells]) fun dz dA e9 bc=>?_;have fa:=cz.size;have bJ:Ext bb dz:=cz.then dA (by rintro r aJ rfl;omega);have cA:=cu.trans bJ;have dB:=aQ.trans cA;have fb:=bc.lt;simp only[bC,ag];refine⟨fun dC fc dD _=>⟨dB.trans dD,fun h=>absurd a6 h,fun _=>⟨vars,av,fun h=>absurd aM h,fun _=>⟨fun h=>absurd rfl h,fun _ ac=>?_,fun _ ac aw=>?_,fun _ ac aw=>?_⟩⟩⟩,fun fd=>?_⟩
 ·rcases bo with⟨rfl,_⟩|⟨_,h,_⟩|⟨_,h,_⟩
  ·rfl
  ·exact absurd h ac
  ·exact absurd h ac
 ·rcases bo with⟨_,h⟩|⟨rfl,_⟩|⟨_,_,h,_⟩
  ·exact absurd ac h
  ·rfl
  ·omega
 ·rcases bo with⟨_,h⟩|⟨_,_,h⟩|⟨h,_⟩
  ·exact absurd ac h
  ·omega
  ·exact absurd h dC
 obtain⟨bp,dE,X,W,Y,rfl,fe,ff,fg,bt⟩:bV (cU U E V I vars)∧aH (cU U E V I vars)≤4096∧
   ∃ X W Y,aR=some ⟨X,0,none⟩∧ay.heap.size≤X∧ay.heap.size≤W∧(∀ r,leads Y r→ay.heap.size≤r)∧cG bb X W Y (cU U E V I vars) k (p9 (aH (cU U E V I vars)).toNat 0):=by
  rcases bo with⟨h,_⟩|⟨h,_⟩|⟨_,h⟩
  ·omega
  ·omega
  ·exact h
 obtain rfl:e=0:=by omega
 have dF:(cU U E V I vars).length=vars.length:=ys _ _ _ _ _;have fh:=prod_bound bp;obtain⟨N,bu⟩:∃ N:Nat,(aH (cU U E V I vars)).toNat=N:=⟨_,rfl⟩;rw[bu] at bt;have fi:0<N:=by omega
 have dG:=bt.ext bJ;obtain⟨⟨bK,cB,cC,cD,dH⟩,⟨cE,cI,_⟩,_,fj⟩:=id dG;have fk:X<bb.heap.size:=by obtain⟨⟨_,_,q,_⟩,_⟩:=id bt;exact q.lt
 have fl:W<bb.heap.size:=by obtain⟨⟨_,_,_,_,q⟩,_⟩:=id bt;exact rP q (by simp;omega)
 rw[al (by kernel_rfl) (bc.cell (o:=0) rfl),az,ah bq.p rfl,bN (cs:=[Y]) aK.p aK.i rfl (sub cC)];refine tq.mono ?_;rintro _ bd _ ⟨aB,bw,rfl,fm,cJ⟩;have fo:=bJ.size;have fp:=aB.size;let S:Nat→Prop:=fun r=>r=W;let aS:=lM U Z E V aa I vars k;have bL:aS.length=N:=by simp only[aS];rw[yt,bu]
 have dI:=(cn.ext ba).ext aN;let dJ:x5→Prop:=fun w'=>ak w' b2 bB [.pointer (some ⟨g,0,none⟩)]∧ak w' b5 ab [aW]∧ak w' b6 bB [.pointer (some ⟨aT,0,none⟩)]∧ak w' b7 ab [bv]∧ak w' ck ab [bl]∧aG .i64 w' bl vars∧
  ak w' cw bB [.pointer (some ⟨X,0,none⟩)]∧ak w' X bq [Y,.int .i64 k,bK]∧cG w' g bY sv U k Z∧cG w' aT bZ b1 V k aa∧aG .i64 w' aW E∧aG .i64 w' bv I∧aq .i64 J w' cB Y (cU U E V I vars)∧ak w' bw aK [Y]∧bd.heap.size≤w'.heap.size
 have cK:=cA.trans aB;have be:∀ {a:x5},am S bd a→dJ a:=by
  intro a ai;have aD:Ext ay a:=cK.then ai (fun r aJ he=>by have he:r=W:=he;omega);have bx:=aQ.trans aD;exact⟨aj.ext aD,ao.ext aD,ap.ext aD,au.ext aD,dm.ext aD,dI.ext aD,(bc.ext aB).ad ai (by show ¬(cw=W);omega),(cC.ext aB).ad ai (by show ¬(X=W);exact cE),h1.ext bx,aX.ext bx,aY.ext bx,ax.ext bx,
   br (cD.ext aB) ai (fun r aJ he=>cI ((show r=W from he)▸aJ)),cJ.ad ai (by show ¬(bw=W);omega),ai.size⟩
 have cL:=tp (g:=bw) (B0:=bd.heap.size) (sv:=Y) bp;rw[bu] at cL;refine⟨Nat,false,gr,#[.pointer (some ⟨bw,0,none⟩)],0,_,_,_,fun q w'=>am S bd w'∧aq .i64 af w' W bK (upto aS 0 q),fun _ _ _=>False,rfl,cL.s,
  ?_,fun _ _ ai h=>⟨h.1.ext ai,h.2.1.ext ai,Y5 h.2.2 ai.size⟩,fun _ _ _ ai h=>⟨h.1.trans (ai.ad S),h.2.ext ai⟩,fun _ _ _ _ _ h=>h,⟨cJ,(cD.ext aB).ls,o7 _⟩,⟨am.refl _ _,?_⟩,?_,?_,fun _ _ h=>h.elim,fun _ _ _ h=>h.elim⟩
 ·rintro _ _ _ _ ⟨_,_,_,_,rfl,_⟩;rfl
 ·rw[pF,bL];exact dH.ext aB
 ·rintro _ cr q _ fq ⟨_,_,fr⟩ ⟨bM,rfl,fs,ft,dK,fu,cM⟩ ⟨bz,dL⟩;cases dK;let x:=ct (cU U E V I vars) (q:Int);have cN:x.length=vars.length:=by simp only[x];rw[gX,dF]
  intro fv dM _ _;intro fw dN _ _;have bO:=dM.trans dN;obtain⟨f1,f2,f3,f4,f5,f6,f7,f8,f9,f10,f11,f12,f13,f14,f15⟩:=be (bz.trans (bO.ad S));rw[al (by kernel_rfl) (f1.cell (o:=0) rfl),al (by kernel_rfl) (f5.cell (o:=0) rfl),al (by kernel_rfl) (f2.cell (o:=0) rfl)];refine (yl (cM.ls.ext bO) f6 f11 av.1 (fun p aw=>(av.2 p).2 (.inl aw)) cN (by omega)).mono ?_;rintro fx fy _ ⟨bP,fz,fA,dO⟩;refine⟨.inl bP,?_⟩;refine (sZ (f9.ext bP) dO.ls).mono ?_;rintro _ fB _ ⟨rfl,dQ⟩;obtain⟨cO,dR⟩:=tK U (dP x vars E) Z;have dS:mZ U (dP (ct (cU U E V I vars) (q:Int)) vars E) Z= .tuple #[.int .i64 (cH U Z (dP x vars E)),.int .i64 cO]:=dR;rw[dS,aC (v:=.int .i64 (cH U Z (dP x vars E))) rfl,aC (v:=.int .i64 cO) rfl];intro fC dT _ _;have bQ:=((bO.trans bP).trans dQ).trans dT;obtain⟨f1,f2,f3,f4,f5,f6,f7,f8,f9,f10,f11,f12,f13,f14,f15⟩:=be (bz.trans (bQ.ad S));rw[al (by kernel_rfl) (f3.cell (o:=0) rfl),al (by kernel_rfl) (f5.cell (o:=0) rfl),al (by kernel_rfl) (f4.cell (o:=0) rfl)];refine (yl (cM.ls.ext bQ) f6 f12 av.1 (fun p aw=>(av.2 p).2 (.inr aw)) cN (by omega)).mono ?_;rintro fD fE _ ⟨bR,fF,fG,dU⟩;refine⟨.inl bR,?_⟩;refine (sZ (f10.ext bR) dU.ls).mono ?_;rintro _ fH _ ⟨rfl,dV⟩;obtain⟨cP,dW⟩:=tK V (dP x vars I) aa;have dX:mZ V (dP (ct (cU U E V I vars) (q:Int)) vars I) aa= .tuple #[.int .i64 (cH V aa (dP x vars I)),.int .i64 cP]:=dW;rw[dX,aC (v:=.int .i64 (cH V aa (dP x vars I))) rfl,aC (v:=.int .i64 cP) rfl];intro fI dY _ _;have bS:=((bQ.trans bR).trans dV).trans dY;obtain⟨f1,f2,f3,f4,f5,f6,f7,f8,f9,f10,f11,f12,f13,f14,f15⟩:=be (bz.trans (bS.ad S));rw[al (by kernel_rfl) (f7.cell (o:=0) rfl),az,ah bq.p rfl,al (by kernel_rfl) (f8.cell (o:=0+2) rfl),al (by kernel_rfl) (f7.cell (o:=0) rfl),az,ah bq.p rfl,al (by kernel_rfl) (f8.cell (o:=0+1) rfl)];refine wU.mono ?_;rintro _ fJ _ ⟨rfl,bT⟩;refine⟨.inl bT,?_⟩;have dZ:pM (cH U Z (dP x vars E)) (cH V aa (dP x vars I)) k= .tuple #[.int .i64 (min (cH U Z (dP x vars E)+cH V aa (dP x vars I)) k),.int .i64 0]:=if_pos ⟨yu bh cV,yu bh cW⟩;rw[dZ,aC (v:=.int .i64 (min (cH U Z (dP x vars E)+cH V aa (dP x vars I)) k)) rfl,aC (v:=.int .i64 0) rfl];have cQ:=dL.ext (bS.trans bT);have fK:(upto aS 0 q).length=N:=by rw[pE,bL]
  rw[gY rfl ae.u af.i cQ (by omega)];refine gZ af.i cQ (by omega) fun ea eb fL cR=>?_;have cS:am S bd ea:=(bz.trans ((bS.trans bT).ad S)).trans (eb.mono fun r _ h=>h);obtain⟨f1,f2,f3,f4,f5,f6,f7,f8,f9,f10,f11,f12,f13,f14,f15⟩:=be cS;have ec:aS[q]? =some (min (cH U Z (dP x vars E)+cH V aa (dP x vars I)) k):=by
   simp only[aS,lM];rw[r9,List.getElem?_range (by rw[bu];exact bM)];rfl
  rw[pH ec] at cR;exact⟨⟨f14,f13.ls,f15⟩,⟨cS,cR⟩,fun h=>by cases h⟩
 ·rintro q fM bM ⟨cT,bW⟩;rw[show q=N from bM] at bW;intro fN bX _ _;obtain⟨f1,f2,f3,f4,f5,f6,f7,f8,f9,f10,f11,f12,f13,f14,f15⟩:=be (cT.trans (bX.ad S));rw[al (by kernel_rfl) (f7.cell (o:=0) rfl),al (by kernel_rfl) (f5.cell (o:=0) rfl)];intro fO bf _;rw[←bL,pG] at bW;have ed:=aQ.trans cK;refine⟨((ed.then cT (fun r aJ he=>by have he:r=W:=he;omega)).trans bX).trans bf,fun h=>absurd a6 h,fun _=>⟨vars,av,fun h=>absurd aM h,fun _=>⟨fun h=>absurd rfl h,fun _ h=>absurd bp h,fun _ _ h=>by omega,fun _ _ _=>⟨X,W,Y,bl,rfl,⟨⟨bK,cB,f8.ext bf,f13.ext bf,(bW.ext bX).ext bf⟩,⟨cE,cI,dE⟩,bp,yt _ _ _ _ _ _ _ _⟩,f6.ext bf⟩⟩⟩⟩
theorem fq.pair {l:List Int} (h:fq l):l.Pairwise (·< ·):=W8.2 fun i j hi E I=>h i j _ _ I (x3 hi) (x3 E)
theorem EL {l m:List Int} (E:fq l) (hm:fq m) (h:∀ x,x∈l↔x∈m):l=m:=by
 have I:l.Nodup:=E.pair.imp fun h=>by omega
 have J:m.Nodup:=hm.pair.imp fun h=>by omega
 exact List.Perm.eq_of_pairwise (le:=(·≤ ·)) (fun a b _ _ h1 O=>Int.le_antisymm h1 O) (E.pair.imp fun h=>Int.le_of_lt h) (hm.pair.imp fun h=>Int.le_of_lt h) ((List.perm_ext_iff_of_nodup I J).2 h)
theorem EM {l vars:List Int} (h:tS l l vars) (hu:fq l):vars=l:=EL h.1 hu fun x=>by rw[h.2];simp
theorem yw {l:List Int} (h:l.Pairwise (·< ·)):fq l:=fun i j x y I J O=>by
 have h1:=u4.1 J;have E:=u4.1 O;have:=W8.1 h i j h1.1 E.1 I;rw[h1.2,E.2] at this;exact this
theorem EN {x l:List Int} (hu:l.Nodup) (h:x.length=l.length):dP x l l=x:=by
 refine W0 fun i=>?_;unfold dP;cases E:l[i]? with
 |none=>rw[r9,E,Z7 (by have:=List.getElem?_eq_none_iff.1 E;omega)];rfl
 |some v=>
  have hi:=(u4.1 E).1;rw[r9,E,Z0,p4 hu E,p8,x3 (show i<x.length by omega)];rfl
theorem yx {s l:List Int} (hu:fq l) (h:s.length=l.length):cU s l s l l=s:=by
 refine W0 fun i=>?_;unfold cU;cases E:l[i]? with
 |none=>rw[r9,E,Z7 (by have:=List.getElem?_eq_none_iff.1 E;omega)];rfl
 |some v=>
  have hi:=(u4.1 E).1;rw[r9,E,Z0,yk hu E,Int.max_self,x3 (show i<s.length by omega)];unfold fQ;rw[if_pos (by omega),p8,c7,x3 (show i<s.length by omega)];rfl
theorem EO {s l a b:List Int} {k:Int} (hu:l.Pairwise (·< ·)) (h:s.length=l.length) (E:dN s) (I:a.length=(aH s).toNat) (J:b.length=(aH s).toNat):lM s a l s b l l k=dh k a b:=by
 have O:l.Nodup:=hu.imp fun h=>by omega
 unfold lM;rw[yx (yw hu) h,Dz E I J];apply List.map_congr_left;intro q _;rw[EN O (by rw[gX,h])]
theorem EP {w w':x5} {s l a b:List Int} {k:Int} {v:x4} (hu:l.Pairwise (·< ·)) (Z:∀ x∈l,0≤x) (h:s.length=l.length) (W:bV s) (aa:aH s≤4096) (ab:a.length=(aH s).toNat) (ac:b.length=(aH s).toNat) (I:yv w s a l s b l k k v w'):
  Ext w w'∧ ∃ E J O U,v= .tuple #[.pointer (some ⟨E,0,none⟩),U,.int .i64 0]∧cG w' E J O s k (dh k a b):=by
 obtain⟨ad,_,I⟩:=I;have V:=yw hu;have X:Fits s l:=⟨h.symm,Ed V Z⟩;obtain⟨vars,ae,_,af⟩:=I ⟨X,X⟩;have ag:=EM ae V;subst ag;obtain⟨_,_,_,Y⟩:=af fun p ai aj ak=>rfl;rw[yx V h,EO hu h W.2 ab ac] at Y;obtain⟨E,J,O,U,rfl,ah,_⟩:=Y rfl W aa;exact⟨ad,E,J,O,U,rfl,ah⟩
theorem EQ {s:List Int} (E:dN s):(bK s).Nodup:=(ya E).imp fun {a b} h he=>by subst he;omega
theorem ER {s t:List Int} {i j:Nat} (E:dN s) (hi:(bK s)[i]? =some t) (I:(bK s)[j]? =some t):i=j:=ia (EQ E) hi I
theorem ES {s t:List Int} (E:dN s) (h:cM s t):∃ j:Nat,(bK s)[j]? =some t:=X1.1 ((x9 E).2 h)
theorem ET {P:X5} {w:x5} {t:o6} {cx cy:Bool} {a b:Bool} {K:x4→Prop} (E:P.underlying t=some .bool):I P (U .eql t cx cy (.bool a) (.bool b)) w K=K (.bool (a == b)):=
 sP (fun _=>rfl) rfl fun w' _=>run_equalIn_bool' (P:=P) (w:=w') 9999 t a b E
theorem r0 {w w':x5} {g m:Nat} {e:o6} {cs:List x4} {d:List (x4×x4)} (h:ak w g e cs) (hm:cu w m d) (E:am (fun r=>r=m) w w'):ak w' g e cs:=h.ad E (fun he=>rQ h hm he)
theorem yy {w w':x5} {g m:Nat} {k:o8} {e:o6} {v:x4} {l:List Int} {d:List (x4×x4)} (h:aq k e w g v l) (hm:cu w m d) (E:am (fun r=>r=m) w w'):aq k e w' g v l:=br h E (fun _ I he=>yc h hm I he)
def r1 (cs:List Int) (o:Int):Prop:=o∈cs∧ ∀ d∈cs,cs.count d<cs.count o∨(cs.count d=cs.count o∧o≤d)
theorem EU {l:List Int} {i:Nat} {x:Int} (h:l[i]? =some x) (y:Int):(l.take (i+1)).count y=(l.take i).count y+if y=x then 1 else 0:=by
 rw[o4,h,List.count_append];congr 1;simp only[c8,List.count_singleton];by_cases E:y=x
 ·subst E;simp
 ·rw[if_neg E,if_neg (by simpa using fun h=>E h.symm)]
def fc (p:Int×Int):x4×x4:=(.int .i64 p.1,.int .i64 p.2)
theorem qb:Keys y0 af fun v=>∃ n,v= .int .i64 n:=Keys.int af.u
theorem qc (E:List (Int×Int)):∀ p∈E.map fc,∃ n,p.1= .int .i64 n:=fun p I=>by
 obtain⟨q,_,rfl⟩:=l9.1 I;exact⟨_,rfl⟩
def tT (cs:List Int) (E:List (Int×Int)):Prop:=(∀ x,x∈E.map (·.1)↔x∈cs)∧ ∀ p∈E,p.2=(cs.count p.1:Nat)
theorem yz {cs:List Int} {E:List (Int×Int)} (h:tT cs E) {x:Int} (J:x∈cs):∃ j:Nat,E[j]? =some (x,((cs.count x:Nat):Int)):=by
 obtain⟨p,I,rfl⟩:=l9.1 ((h.1 x).2 J);obtain⟨j,O⟩:=X1.1 I;exact⟨j,by rw[O,←h.2 p I]⟩
set_option maxHeartbeats 1600000 in
theorem yA {w:x5} {aR:x4} {cs:List Int} (h:aG .i64 w aR cs) (aS:cs≠[]) (bA:cs.length≤1000000):O y0 hl [aR] w fun v w'=>Ext w w'∧ ∃ o,v= .int .i64 o∧r1 cs o:=by
 apply hl.enter;refine aa.da (ry fun m ba hm ay bb bB=>?_);rw[aQ ae.u (h.ext ay)];refine bd.range cs.length (fun i ab=>am (fun r=>r=m) ba ab∧ ∃ U,cu ab m (U.map fc)∧tT (cs.take i) U) (by omega) ⟨am.refl _ _,[],bb,by simp[tT]⟩ ?_ ?_
 ·rintro i ab bc hi ⟨ah,U,Y,V⟩ aT;obtain⟨x,az⟩:∃ x,cs[i]? =some x:=⟨_,x3 hi⟩;have ai:Ext w ab:=ay.then ah (fun r ac he=>by have he:r=m:=he;omega);have be:∀ y,(cs.take i).count y≤1000000:=fun y=>by
   have:=List.count_le_length (a:=y) (l:=cs.take i);rw[l7] at this;omega
  rw[au,ag];refine⟨fun _=>?_,fun h=>by omega⟩;rw[bw ae.u af.i (by kernel_rfl) (h.ext ai) az];have aq:=EU az;have aW:∀ y,y∈cs.take (i+1)↔y∈cs.take i∨y=x:=fun y=>by
   rw[o4,az];simp
  by_cases aj:x∈cs.take i
  ·obtain⟨j,aA⟩:=yz V aj;have av:(U.map fc)[j]? =some (.int .i64 x,.int .i64 (((cs.take i).count x:Nat):Int)):=by rw[r9,aA];rfl
   rw[pO fY.u qb Y (qc U) ⟨_,rfl⟩ av];simp only[Bool.false_eq_true,if_false];have:=be x;rw[aL,wrap_i64 (by omega) (by omega)];refine aa.da (pP fY.u qb Y (qc U) ⟨_,rfl⟩ (fun ak v0 aB aD al aE bf=>?_) (fun aB aw=>absurd rfl (aw _ (u5 av))));have bg:ak=j:=Y.uniq aD av rfl;subst bg;rw[aL];have aF:(U.map fc).set ak (.int .i64 x,.int .i64 ((((cs.take i).count x:Nat):Int)+1))=(U.set ak (x,(((cs.take i).count x:Nat):Int)+1)).map fc:=by rw[List.map_set];rfl
   rw[aF] at al;have bh:=(u4.1 aA).1;refine aT _ ⟨ah.trans aE,_,al,fun y=>?_,fun p E=>?_⟩
   ·rw[List.map_set,BL (by rw[r9,aA];rfl),V.1,aW];exact⟨.inl,fun h=>h.elim id (fun h=>h▸aj)⟩
   ·obtain⟨q,W⟩:=X1.1 E;by_cases aH:ak=q
    ·subst aH;rw[List.getElem?_set_self bh] at W;cases W;show _=(((cs.take (i+1)).count x:Nat):Int);rw[aq,if_pos rfl];omega
    ·rw[List.getElem?_set_ne aH] at W;have aI:p.1≠x:=fun he=>aH (Y.uniq av (show (U.map fc)[q]? =some (fc p) by rw[r9,W];rfl) (by rw[fc,he]));rw[V.2 p (u5 W),aq,if_neg aI,Nat.add_zero]
  ·have aw:∀ p∈U.map fc,p.1≠X7 .i64 x:=fun p E he=>by
    obtain⟨q,W,rfl⟩:=l9.1 E;have:q.1=x:=by simpa[fc] using he
    exact aj ((V.1 x).1 (l9.2 ⟨q,W,this⟩))
   rw[rz fY.u qb ⟨_,_,J.i⟩ Y (qc U) ⟨_,rfl⟩ aw];simp only[Bool.false_eq_true,if_false];rw[aL,wrap_i64 (by omega) (by omega)];refine aa.da (pP fY.u qb Y (qc U) ⟨_,rfl⟩ (fun ak v0 aB aD=>absurd rfl (aw _ (u5 aD))) (fun aB _ al aE bf=>?_));rw[aL];have aF:U.map fc++[(X7 .i64 x,X7 .i64 (0+1))]=(U++[(x,1)]).map fc:=by rw[j0];rfl
   rw[aF] at al;have bi:(cs.take i).count x=0:=List.count_eq_zero.2 aj;refine aT _ ⟨ah.trans aE,_,al,fun y=>?_,fun p E=>?_⟩
   ·rw[j0,n9,V.1,aW];simp
   ·rcases n9.1 E with E|E
    ·have aI:p.1≠x:=fun he=>aj ((V.1 x).1 (l9.2 ⟨p,E,he⟩));rw[V.2 p E,aq,if_neg aI,Nat.add_zero]
    ·rw[o9.1 E];show (1:Int)=(((cs.take (i+1)).count x:Nat):Int);rw[aq,if_pos rfl,bi];rfl
 rintro ab bc ⟨ah,U,Y,V⟩;rw[l5] at V;have ai:Ext w ab:=ay.then ah (fun r ac he=>by have he:r=m:=he;omega);rw[au,ag];refine⟨fun h=>by omega,fun _=>?_⟩;refine (Cc (h.ext ai) aS).mono ?_;rintro _ bj bC ⟨rfl,aJ⟩;have bD:=ai.size;have bE:=aJ.size;refine aa.da (wY fY.u (Y.ext aJ) fun ao bF bG bk bH bl bI=>?_);refine⟨fun hp ad=>∃ b Z X left aX,hp= .int .i64 b∧b∈cs∧Ext bj ad∧fG ad ao m (U.map fc) left aX∧left=X.map fc∧(Z++X).Perm U∧ ∀ p∈Z,cs.count p.1<cs.count b∨(cs.count p.1=cs.count b∧b≤p.1),fun _ ad=>nj ad ao,
  ⟨tf cs,[],U,U.map fc,none,rfl,(BO aS).1,bk,bl,rfl,List.Perm.refl _,fun p E=>by cases E⟩,?_⟩
 rintro _ ad ⟨b,Z,X,left,aX,rfl,aK,aM,aY,rfl,ax,aN⟩;refine w1 aY (fun _=>by show w.heap.size≤ao;omega) (fun bn=>?_) (fun j p aO E aZ bJ ap=>?_)
 ·rw[aC (v:=.bool false) rfl,aU];have:X=[]:=List.map_eq_nil_iff.1 bn;subst this;rw[U2] at ax;refine⟨(ai.trans aJ).trans aM,b,rfl,aK,fun d bo=>?_⟩;obtain⟨q,W,rfl⟩:=l9.1 ((V.1 d).2 bo);exact aN q (ax.mem_iff.2 W)
 ·rw[aC (v:=.bool true) rfl,bm];refine w2 ap ?_;obtain⟨q,W,rfl⟩:∃ q,X[j]? =some q∧fc q=p:=by
   rw[r9] at E;exact Z6.1 E
  have a1:q∈U:=ax.mem_iff.1 (n9.2 (.inr (u5 W)));have bK:=V.2 q a1;have bp:q.1∈cs:=(V.1 q.1).1 (l9.2 ⟨q,a1,rfl⟩);obtain⟨bq,br⟩:=yz V aK;have bt:(U.map fc)[bq]? =some (.int .i64 b,.int .i64 ((cs.count b:Nat):Int)):=by rw[r9,br];rfl
  rw[aC (v:=.int .i64 q.1) rfl,aC (v:=.int .i64 q.2) rfl];have a2:(Z++[q]++X.eraseIdx j).Perm U:=by
   refine List.Perm.trans ?_ ax;rw[V0];exact List.Perm.append_left Z (tu W)
  have a6:nj aO ao<nj ad ao:=by
   rw[rD ap,rD aY];have:=xg (u4.1 E).1;omega
  refine aV (fun v bu=>aO=bu∧ ∃ r:Bool,v= .bool r∧(r=true↔(cs.count b<cs.count q.1∨(cs.count q.1=cs.count b∧q.1<b)))) ?_ ?_
  ·rintro _ _ ⟨rfl,r,rfl,ac⟩;rw[cv];refine⟨fun bx=>?_,fun a7=>?_⟩
   ·have ac:=ac.1 bx;refine⟨⟨q.1,Z++[q],X.eraseIdx j,_,_,rfl,bp,aM.trans aZ,ap,(kG fc X j),a2,fun p E=>?_⟩,a6⟩;rcases n9.1 E with E|E
    ·have:=aN p E;omega
    ·rw[o9.1 E];exact .inr ⟨rfl,Int.le_refl _⟩
   ·have ac:¬(cs.count b<cs.count q.1∨(cs.count q.1=cs.count b∧q.1<b)):=fun h=>by rw[ac.2 h] at a7;cases a7
    refine⟨⟨b,Z++[q],X.eraseIdx j,_,_,rfl,aK,aM.trans aZ,ap,(kG fc X j),a2,fun p E=>?_⟩,a6⟩;rcases n9.1 E with E|E
    ·exact aN p E
    ·rw[o9.1 E];omega
  ·intro bL aP;have a8:∀ K:x4→Prop,I y0 (V3 fY (.map (some m)) (.int .i64 b) false) aO K=K (.int .i64 ((cs.count b:Nat):Int)):=fun K=>by
    rw[pO fY.u qb ap.map (qc U) ⟨_,rfl⟩ bt];simp
   rw[a8,bT,ag];refine⟨fun h1=>aP _ _ ⟨rfl,true,rfl,⟨fun _=>.inl (by omega),fun _=>rfl⟩⟩,fun h1=>?_⟩;rw[a8,bM,ag];refine⟨fun bz=>?_,fun bz=>aP _ _ ⟨rfl,false,rfl,⟨fun h=>(by cases h),fun h=>by omega⟩⟩⟩;rw[au];refine aP _ _ ⟨rfl,_,rfl,?_⟩;rw[decide_eq_true_eq];omega
theorem EV {w:x5} {g I:Nat} {k:o8} {e J:o6} {v:x4} {l:List Int} {cs:List x4} (h:aq k e w g v l) (O:ak w I J cs) (V:e≠J) {r:Nat} (U:leads v r):r≠I:=by
 obtain⟨rfl,_⟩:=b1 h U;obtain⟨_,⟨rfl,_⟩|⟨_,_,_,E,_⟩⟩:=h
 ·obtain⟨a,n,c,h,_⟩:=U;cases h
 ·rintro rfl;unfold ak at O E;rw[O] at E;injection E with h1;injection h1 with X W;exact V W.symm
def EW (w:x5) (ao:List Int) (k:Int) (cs:List Int) (v:x4) (w':x5):Prop:=Ext w w'∧ ∃ g m o D,v= .pointer (some ⟨g,0,none⟩)∧dO w' g m ao k o D∧D.length≤(aH ao).toNat∧gk ao (gh D o) cs∧r1 cs o
set_option maxHeartbeats 4000000 in
theorem EX {w:x5} {g cc:Nat} {sv:x4} {ao cs:List Int} {k:Int} (h:cG w g cc sv ao k cs) (bd:∀ c∈cs,cF c k):O y0 mF [.pointer (some ⟨g,0,none⟩)] w (EW w ao k cs):=by
 obtain⟨⟨aO,gs,bC,hm,cU⟩,⟨_,_,bD⟩,ag,aX⟩:=id h;have cV:=prod_bound ag;have cW:=ag.1;have bE:cs≠[]:=fun he=>by rw[he] at aX;simp at aX;omega
 apply mF.enter;rw[b8 bB.u];simp only[c9,aU];refine (kF h).mono ?_;rintro ax au _ ⟨aE,cX,cY,be⟩;refine bU ae.i fun aM cZ c0 bF bG=>?_;have c1:=bG.lt;refine bH ae.i be.ls.cells.1 be.ls.cells.2 bG (by simp[x4.cells]) fun aY cd c2 aZ=>?_;have aZ:ak aY aM ae [ax]:=aZ;have c3:=aE.size;have c4:=bF.size;have bI:Ext au aY:=bF.then cd (fun r ay he=>by have he:r=aM:=he;omega);have bJ:=be.ext bI;have aN:=aE.trans bI;refine aV (fun u a1=>∃ E Z m o az aA,u= .pointer (some ⟨E,0,none⟩)∧Ext aY a1∧ak a1 E b6 [.pointer (some ⟨Z,0,none⟩)]∧aY.heap.size≤m∧eH a1 Z m az aA ao k o []∧r1 cs o) ?_ ?_
 ·rintro _ a1 ⟨E,Z,m,o,az,aA,rfl,aP,J,c5,ah,ap⟩;have ce:=h.ext (aN.trans aP);have cg:=aZ.ext aP;have ch:=bJ.ext aP;refine (ng ce).mono ?_;rintro _ c6 _ ⟨rfl,ci⟩;refine tq.mono ?_;rintro _ bf _ ⟨cj,bL,rfl,c7,bM⟩;have aF:=ci.trans cj;have bN:=ah.ext aF;have ck:=cg.ext aF;have bO:=J.ext aF;have cl:=ch.ext aF;have bP:=hm.ext ((aN.trans aP).trans aF);have aH:=bN.2.2.1;have cm:=(aN.trans aP).trans aF;have c8:=aN.size;have cn:=tp (g:=bL) (B0:=bf.heap.size) (sv:=sv) ag;refine⟨Nat,false,gr,#[.pointer (some ⟨bL,0,none⟩)],_,_,_,_,fun i w'=>am (fun r=>r=m) bf w'∧ ∃ D,D.length≤i∧eH w' Z m az aA ao k o D∧ ∀ (j:Nat) t,(bK ao)[j]? =some t→gh D o t=if j<i then cH ao cs t else o,fun _ _ _=>False,rfl,cn.s,
   ?_,fun _ _ aI h=>⟨h.1.ext aI,h.2.1.ext aI,Y5 h.2.2 aI.size⟩,fun _ _ _ aI ⟨h1,D,cp,cq,bD⟩=>⟨h1.trans (aI.ad _),D,cp,cq.ext aI,bD⟩,fun _ _ _ _ _ h=>h,⟨bM,bP.ls,o7 _⟩,⟨am.refl _ _,[],o7 _,bN,fun j t _=>by rw[if_neg (by omega)];rfl⟩,?_,?_,fun _ _ h=>h.elim,fun _ _ _ h=>h.elim⟩
  ·rintro _ _ _ _ ⟨_,_,_,_,rfl,_⟩;rfl
  ·rintro _ Y i _ cr ⟨da,db,cu⟩ ⟨hi,rfl,dc,dd,cw,de,ab⟩ ⟨a2,D,bQ,bg,bh⟩;cases cw;have bi:(bK ao)[i]? =some (ct ao (i:Int)):=rh ag.2 (by omega);have cz:cM ao (ct ao (i:Int)):=tg ag.2 hi;generalize ct ao (i:Int)=t at*;have bR:=DG ag.2 aX bi;intro cA a6 _ _;intro cB cC _ _;have a7:=a6.trans cC;have a8:am (fun r=>r=m) bf cB:=a2.trans (a7.ad _);rw[al (by kernel_rfl) ((r0 bO aH a8).cell (o:=0) rfl),al (by kernel_rfl) ((r0 ck aH a8).cell (o:=0) rfl),bw ae.u af.i (by kernel_rfl) (yy cl aH a8).ls bR];have bj:=bg.ext a7;refine (xd bj.is (ab.ext a7).ls (c:=cH ao cs t)).mono ?_;rintro _ df _ ⟨_,cD⟩;obtain⟨rfl,bk,cE,bS,bT⟩:=cD ⟨cz,bd _ (u5 bR)⟩;have bl:=a8.trans bk;have dg:=bS.2;refine⟨⟨r0 bM aH bl,(yy bP aH bl).ls,Y5 cu (Y5 a7.size bk.size)⟩,⟨bl,cE,by omega,bj.put bk bT,fun j s aB=>?_⟩,fun h=>by cases h⟩;rw[bS.cost bj.is.nodup bT.nodup];by_cases bV:j=i
   ·subst bV;rw[bi] at aB;cases aB;rw[if_pos rfl,if_pos (by omega)]
   ·rw[if_neg (fun(he:s=t)=>bV (ER ag.2 (by rw[←he];exact aB) bi)),bh j s aB];by_cases h1:j<i
    ·rw[if_pos h1,if_pos (by omega)]
    ·rw[if_neg h1,if_neg (by omega)]
  ·rintro i cr rfl ⟨a2,D,bQ,bg,bh⟩;rw[al (by kernel_rfl) ((r0 bO aH a2).cell (o:=0) rfl)];intro cA a6 _;refine⟨(cm.then a2 (fun r ay he=>by have he:r=m:=he;omega)).trans a6,Z,m,o,D,rfl,bg.is.ext a6,bQ,⟨aX,fun t cI=>?_⟩,ap⟩;obtain⟨j,aB⟩:=ES ag.2 cI;have:=(u4.1 aB).1;rw[iK ag.2] at this;rw[bh j t aB,if_pos this]
 intro ba bW;intro ac aQ _ _;have bm:=aN.trans aQ;have bX:=aQ;have bb:=h.ext bm;have bY:=bJ.ext aQ;have dh:=aQ.size;rw[al (by kernel_rfl) ((aZ.ext aQ).cell (o:=0) rfl)];have bZ:∀ {E:Nat} {w':x5} {Y:x4} {o:Int},Ext ac w'→ac.heap.size≤E→(∃ U,ak w' E b6 [U])→aG .i64 w' Y ao→r1 cs o→
   O y0 fB [Y,.int .i64 k,.int .i64 o] w' fun aj W=>I y0 (x8 aj 0) W fun aD=>I y0 (x8 aj 1) W fun _=>aa y0 (x6 b6 (.pointer (some ⟨E,0,none⟩)) aD) W fun(_:Unit) av=>ba (.pointer (some ⟨E,0,none⟩)) av:=by
  rintro E w' Y o X V ⟨U,J⟩ ab ap;refine (w7 ab).mono ?_;rintro _ W _ ⟨bn,_,_,bo⟩;obtain⟨Z,m,rfl,cJ,cK,ah⟩:=bo ag (bd _ ap.1);obtain⟨az,aA,ah⟩:=ah.at;rw[aC (v:=.pointer (some ⟨Z,0,none⟩)) rfl,aC (v:=.int .i64 0) rfl];have cL:=J.lt;have s':=X.size;refine bH b6.i rfl rfl (J.ext bn) (by simp) fun av b1 di cN=>?_;refine bW _ _ ⟨E,Z,m,o,az,aA,rfl,((bX.trans X).trans bn).then b1 (fun r ay he=>by have he:r=E:=he;omega),cN,by omega,ah.ad b1 (fun he=>by have he:Z=E:=he;omega) (fun he=>by have he:m=E:=he;omega) (fun r ay he=>?_),ap⟩;exact EV ah.2.1 (J.ext bn) (by decide) ay he
 have b2:∀ {E:Nat} {w':x5} {Y:x4},Ext ac w'→ac.heap.size≤E→(∃ U,ak w' E b6 [U])→aG .i64 w' Y ao→
   O y0 hl [ax] w' fun aR au=>O y0 fB [Y,.int .i64 k,aR] au fun aj W=>I y0 (x8 aj 0) W fun aD=>I y0 (x8 aj 1) W fun _=>aa y0 (x6 b6 (.pointer (some ⟨E,0,none⟩)) aD) W fun(_:Unit) av=>ba (.pointer (some ⟨E,0,none⟩)) av:=by
  rintro E w' Y X V ⟨U,J⟩ ab;refine (yA (bY.ext X).ls bE (by omega)).mono ?_;rintro _ au _ ⟨aE,o,rfl,ap⟩;exact bZ (X.trans aE) V ⟨U,J.ext aE⟩ (ab.ext aE) ap
 have b3:∀ {E:Nat} {w':x5} {Y:x4},Ext ac w'→ac.heap.size≤E→(∃ U,ak w' E b6 [U])→aG .i64 w' Y ao→
   O y0 hS [.pointer (some ⟨g,0,none⟩)] w' fun bp aq=>(Ext ac aq∨ai y0 (x1 ae (.pointer (some ⟨aM,0,none⟩))) ax aq∧True)∧
    O y0 hl [ax] aq fun aR au=>O y0 fB [Y,bp,aR] au fun aj W=>I y0 (x8 aj 0) W fun aD=>I y0 (x8 aj 1) W fun _=>aa y0 (x6 b6 (.pointer (some ⟨E,0,none⟩)) aD) W fun(_:Unit) av=>ba (.pointer (some ⟨E,0,none⟩)) av:=by
  rintro E w' Y X V ⟨U,J⟩ ab;refine (wV (bb.ext X)).mono ?_;rintro _ aq _ ⟨rfl,aw⟩;exact⟨.inl (X.trans aw),b2 (X.trans aw) V ⟨U,J.ext aw⟩ (ab.ext aw)⟩
 have b4:ao.length≤1000:=by omega
 have b5:∀ {E:Nat} {w':x5},Ext ac w'→ac.heap.size≤E→(∃ U,ak w' E b6 [U])→
   O y0 jv [.agg #[sv]] w' fun cO w0=>(Ext ac w0∨ai y0 (x1 ae (.pointer (some ⟨aM,0,none⟩))) ax w0∧True)∧
    O y0 hS [.pointer (some ⟨g,0,none⟩)] w0 fun bp aq=>(Ext ac aq∨ai y0 (x1 ae (.pointer (some ⟨aM,0,none⟩))) ax aq∧True)∧
    O y0 hl [ax] aq fun aR au=>O y0 fB [cO,bp,aR] au fun aj W=>I y0 (x8 aj 0) W fun aD=>I y0 (x8 aj 1) W fun _=>aa y0 (x6 b6 (.pointer (some ⟨E,0,none⟩)) aD) W fun(_:Unit) av=>ba (.pointer (some ⟨E,0,none⟩)) av:=by
  rintro E w' X V ⟨U,J⟩;refine (wW (hm.ext (bm.trans X)).ls b4).mono ?_;rintro Y aq _ ⟨aw,_,_,ab⟩;exact⟨.inl (X.trans aw),b3 (X.trans aw) V ⟨U,J.ext aw⟩ ab.ls⟩
 have aS:∀ {w':x5} {R:x4→x5→Prop},Ext ac w'→(∀ E aT,ac.heap.size≤E→Ext w' aT→(∃ U,ak aT E b6 [U])→R (.pointer (some ⟨E,0,none⟩)) aT)→aa y0 (n0 b6 true (.tuple #[])) w' R:=fun {w'} {R} X cP=>by
  have:=X.size;exact bU b6.i fun E aT V cQ bC=>cP E aT (by omega) cQ ⟨_,bC⟩
 refine⟨?_,aS (Ext.refl _) fun E dj V bc J=>⟨.inl bc,?_⟩⟩
 rotate_left
 ·refine (ng (bb.ext bc)).mono ?_;rintro _ dk _ ⟨rfl,bq⟩;obtain⟨U,J⟩:=J;exact⟨.inl (bc.trans bq),b5 (bc.trans bq) V ⟨U,J.ext bq⟩⟩
 refine (ng bb).mono ?_;rintro _ dl _ ⟨rfl,aJ⟩;refine⟨.inl aJ,?_,aS aJ fun E dm V b7 J=>⟨.inl (aJ.trans b7),b5 (aJ.trans b7) V J⟩⟩;refine (wW (hm.ext (bm.trans aJ)).ls b4).mono ?_;rintro Y dn _ ⟨cR,_,_,ab⟩;have aK:=aJ.trans cR;refine⟨.inl aK,?_,aS aK fun E dp V br J=>⟨.inl (aK.trans br),b3 (aK.trans br) V J (ab.ext br).ls⟩⟩;refine (wV (bb.ext aK)).mono ?_;rintro _ dq _ ⟨rfl,bt⟩;have aL:=aK.trans bt;refine⟨.inl aL,?_,aS aL fun E dr V bu J=>⟨.inl (aL.trans bu),b2 (aL.trans bu) V J ((ab.ext bt).ext bu).ls⟩⟩;refine (yA (bY.ext aL).ls bE (by omega)).mono ?_;rintro _ ds _ ⟨b9,o,rfl,ap⟩;have aW:=aL.trans b9;have ca:=(ab.ext bt).ext b9;refine⟨?_,aS aW fun E dt V bx J=>⟨.inl (aW.trans bx),bZ (aW.trans bx) V J (ca.ext bx).ls ap⟩⟩;refine (w7 ca.ls).mono ?_;rintro _ du _ ⟨cS,_,_,bo⟩;obtain⟨Z,m,rfl,cJ,cK,ah⟩:=bo ag (bd _ ap.1);obtain⟨az,aA,ah⟩:=ah.at;rw[aC (v:=.pointer (some ⟨Z,0,none⟩)) rfl,aC (v:=.int .i64 0) rfl];have bz:=aW.trans cS;refine bU b6.i fun E dv V bA J=>?_;refine⟨.inl (bz.trans bA),?_⟩;have cL:=J.lt;obtain⟨dw,dx,t3⟩:=ah.pL;have dy:=aW.size;have dz:=bz.size;refine bH b6.i rfl rfl J (by simp[x4.cells]) fun dA cb dB cT=>?_;exact bW _ _ ⟨E,Z,m,o,az,aA,rfl,((bX.trans bz).trans bA).then cb (fun r ay he=>by have he:r=E:=he;omega),cT,by omega,(ah.ext bA).ad cb (fun he=>by have he:Z=E:=he;omega) (fun he=>by have he:m=E:=he;omega) (fun r ay he=>by have he:r=E:=he;have:=t3 r ay;omega),ap⟩
theorem yB {k:Int} {acc:List cg} {g:cg} (h:∀ x∈acc,x.1≠g.1):gg k acc g=acc++[g]:=by
 unfold gg;rw[if_neg];intro hm;obtain⟨x,E,he⟩:=l9.1 hm;exact h x E he
theorem EY {k:Int} {acc:List cg} {g h:cg} {i:Nat} (I:gE acc) (hi:acc[i]? =some h) (he:h.1=g.1):gg k acc g=acc.set i (h.1,dh k h.2 g.2):=by
 have J:=(u4.1 hi).1;unfold gg;rw[if_pos (l9.2 ⟨h,u5 hi,he⟩)];refine W0 fun j=>?_;rw[r9,X8];by_cases E:i=j
 ·subst E;rw[hi,Z0,if_pos he,if_pos rfl,if_pos J]
 ·rw[if_neg E];cases O:acc[j]? with
  |none=>rfl
  |some y=>
   have:y.1≠g.1:=fun U=>E (by
    have h1:(acc.map (·.1))[i]? =some g.1:=by rw[r9,hi,Z0,he]
    have V:(acc.map (·.1))[j]? =some g.1:=by rw[r9,O,Z0,U]
    exact ia I h1 V)
   rw[Z0,if_neg this]
theorem EZ {α β:Type} {f:β→α→β} {b:β} {l:List α} {i:Nat} {x:α} (h:l[i]? =some x):(l.take (i+1)).foldl f b=f ((l.take i).foldl f b) x:=by
 rw[o4,h,c8,List.foldl_append];rfl
def kI (w:x5) (k:Int) (sizes:List Int) (x:ci):Prop:=(∃ E,aq .i64 J w E x.sv x.sc)∧ ∃ m o D,dO w x.g m (cb sizes x.sc) k o D∧D.length≤4096∧gk (cb sizes x.sc) (gh D o) x.cs
theorem kI.ext {w w':x5} {k:Int} {sizes:List Int} {x:ci} (h:kI w k sizes x) (E:Ext w w'):kI w' k sizes x:=by
 obtain⟨⟨I,h1⟩,m,o,D,J,O⟩:=h;exact⟨⟨I,h1.ext E⟩,m,o,D,J.ext E,O⟩
theorem kI.ad {w w':x5} {S:Nat→Prop} {k:Int} {sizes:List Int} {x:ci} (h:kI w k sizes x) (W:am S w w') (U:∀ r,S r→ ∃ e c,ak w r e c∧e≠cL∧e≠J):kI w' k sizes x:=by
 obtain⟨⟨Z,h1⟩,m,o,D,aa,ab⟩:=h;obtain⟨sv,gs,O⟩:=aa.at;have X:∀ {g:Nat} {v:x4} {l:List Int},aq .i64 J w g v l→ ∀ r,leads v r→¬S r:=fun hm r ac I=>by
  obtain⟨e,c,E,_,V⟩:=U r I;exact bZ hm E (fun he=>V he.symm) ac rfl
 refine⟨⟨Z,br h1 W (X h1)⟩,m,o,D,(O.ad W (fun I=>?_) (fun I=>?_) (X O.2.1)).is,ab⟩
 ·obtain⟨e,c,E,V,_⟩:=U _ I;have Y:=O.1;unfold ak at Y E;rw[Y] at E;exact V (Obj.cells.inj (Z2 E)).2.1.symm
 ·obtain⟨e,c,E,_,_⟩:=U _ I;exact rQ E O.2.2.1 rfl
def qd (w:x5) (g:Nat) (v:x4) (k:Int) (sizes:List Int) (L:List ci):Prop:=aZ dQ 2 bj w g v L∧ ∀ x∈L,kI w k sizes x
theorem qd.ext {w w':x5} {g:Nat} {v:x4} {k:Int} {sizes:List Int} {L:List ci} (h:qd w g v k sizes L) (E:Ext w w'):qd w' g v k sizes L:=⟨h.1.ext E,fun x I=>(h.2 x I).ext E⟩
def E0 (w:x5) (I:Nat) (f:bW):Prop:=∃ aw E O g L,ak w I bg [bx f.name,.int .i64 f.k,aw,E]∧aq .i64 J w O aw f.sizes∧qd w g E f.k f.sizes L∧L.map dj=eD f
theorem E1 {w:x5} {g Z:Nat} {v sv:x4} {L:List ci} {U:List Int} (h:ed w g v L) (ac:ak w Z ab [sv]) (ad:aG .i64 w sv U):
  O y0 kl [v,.func (.func mC) #[] #[.pointer (some ⟨Z,0,none⟩)]] w fun r w'=>Ext w w'∧((r= .int .i64 (-1)∧ ∀ x∈L,x.sc≠U)∨ ∃ i:Nat,r= .int .i64 (i:Int)∧ ∃ x,L[i]? =some x∧x.sc=U):=by
 apply kl.enter;rw[eb cY.u h.1];refine ba.range L.length (fun i _ V=>Ext w V∧ ∀ x∈L.take i,x.sc≠U) h.1.le ⟨Ext.refl _,fun c E=>by simp at E⟩ ?_ ?_
 ·rintro i _ V k hi ⟨I,W⟩ ae;rw[au,ag];refine⟨fun _=>?_,fun h=>by omega⟩;obtain⟨x,X⟩:∃ x,L[i]? =some x:=⟨_,x3 hi⟩;rw[rX rfl (h.ext I) X];show O y0 mC [hB x,.pointer (some ⟨Z,0,none⟩)] V _;obtain⟨⟨aj,hm⟩,_⟩:=(h.ext I).at X;apply mC.enter;refine cc fun aP af am J Y=>?_;have Y:ak af aP bE [x.sv,.pointer (some ⟨x.g,0,none⟩)]:=by
   obtain⟨_,_,_,e⟩:=c5 hm.ls;simp only[hB,dQ,e] at Y ⊢;exact Y
  rw[ah bE.p rfl,al (by kernel_rfl) (Y.cell (o:=0+0) rfl),al (by kernel_rfl) ((ac.ext (I.trans J)).cell (o:=0) rfl)];refine (vG (hm.ls.ext J) (ad.ext (I.trans J))).mono ?_;rintro _ ao _ ⟨rfl,aa⟩;rw[ag];refine⟨fun he=>⟨(I.trans J).trans aa,.inr ⟨i,rfl,x,X,he⟩⟩,fun ai=>?_⟩;rw[aL];refine ae _ _ ⟨(I.trans J).trans aa,fun c E=>?_⟩;rw[o4,X] at E;rcases n9.1 E with E|E
  ·exact W c E
  ·simp at E;subst E;exact ai
 ·rintro _ V k ⟨I,W⟩;rw[l5] at W;rw[au,ag];exact⟨fun h=>by omega,fun _=>⟨I,.inl ⟨rfl,W⟩⟩⟩
def dR (f:bW) (i:Nat):List cg:=((f.funs.take i).map (fP f.sizes f.k)).foldl (gg f.k) []
theorem yC {N:Nat} {f:bW} (E:eh N f) (i:Nat):(∀ g∈dR f i,eG f.sizes f.k g)∧gE (dR f i)∧(dR f i).length≤i:=by
 have:=tH (sizes:=f.sizes) (k:=f.k) (by have:=E.k.1;omega) (l:=(f.funs.take i).map (fP f.sizes f.k)) (acc:=[]) (fun h J=>by cases J) List.nodup_nil fun g O=>by
  obtain⟨x,U,rfl⟩:=l9.1 O;exact nn E (List.mem_of_mem_take U)
 refine⟨this.1,this.2.1,?_⟩;have I:=this.2.2;rw[List.length_nil,o3,V5,l7] at I;exact Y5 I (Nat.min_le_left _ _)
theorem tU {f:bW} {i:Nat} {x:ca} (h:f.funs[i]? =some x):dR f (i+1)=gg f.k (dR f i) (fP f.sizes f.k x):=by
 unfold dR;rw[o4,h,c8,j0,List.foldl_append];rfl
theorem yD (f:bW):dR f f.funs.length=eu f:=by unfold dR eu;rw[l5]
theorem tV {L:List ci} {i:Nat} {x:ci} {D:List cg} (h:L.map dj=D) (E:L[i]? =some x):dj x∈D:=by rw[←h];exact l9.2 ⟨x,u5 E,rfl⟩
def E2 (w:x5) (f:bW) (v:x4) (w':x5):Prop:=Ext w w'∧((¬jK f.funs≤16384∧ ∃ e:Int,e≠0∧v= .tuple #[.pointer none,.int .i64 e])∨ ∃ E,v= .tuple #[.pointer (some ⟨E,0,none⟩),.int .i64 0]∧E0 w' E f)
theorem r2 {sv:x4} {g E:Nat} {w:x5} {sc cs:List Int} (hm:aq .i64 J w g sv sc):∀ u∈dQ ⟨sv,E,sc,cs⟩,u.oneCell'=true:=fun u hu=>by
 simp[dQ] at hu;rcases hu with rfl|rfl
 ·exact hm.ls.cells.2
 ·rfl
set_option maxHeartbeats 8000000 in
theorem E3 {N:Nat} {w:x5} {b6:Nat} {f:bW} (b7:iV w b6 f) (W:eh N f) (b8:N≤60000) (dd:f.name≠[]∧ ∀ b∈f.name,bF b=true):
  O y0 om [.pointer (some ⟨b6,0,none⟩)] w (E2 w f):=by
 have bq:=W.k;apply om.enter;refine (En b7 W b8 dd).mono ?_;rintro _ ao _ ⟨bt,e,rfl,he⟩;rw[bC,ag];refine⟨fun ca=>⟨bt,.inl ⟨fun h=>ca (he h),e,ca,rfl⟩⟩,fun eI=>?_⟩;have cd:=b7.ext bt;obtain⟨aw,aY,eJ,bu,ce,de,bw,a1⟩:=id cd;have eK:bu.length≤256:=by rw[a1.1];exact W.iN
 rw[az,ah bg.p rfl,al (by kernel_rfl) (ce.cell (o:=0+3) rfl),iJ bO.u bw];refine ba.range bu.length (fun i l ap=>∃ g L,Ext ao ap∧ed ap g l L∧Sem ap f.k f.sizes L∧L.map dj=dR f i∧ ∀ r,leadsTo l r→ao.heap.size≤r) (sS bw)
  ⟨0,[],Ext.refl _,⟨aZ.nil _ _ _ _ _,fun x aM=>(by cases aM)⟩,fun x aM=>(by cases aM),rfl,fun r E=>(dI E).elim⟩ ?_ ?_
 ·rintro i l ap df hi ⟨g,L,av,aN,a2,X,Z⟩ dg;obtain⟨d,cg⟩:∃ d,bu[i]? =some d:=⟨_,x3 hi⟩;obtain⟨x,a6⟩:∃ x,f.funs[i]? =some x:=⟨_,x3 (by have:=a1.1;omega)⟩;have ch:=u5 a6;have di:=a1.2 i x d a6 cg;have ay:=nn W ch;obtain⟨dk,dl,eL⟩:=yC W i;have dm:L.length≤i:=by have dn:=congrArg V4 X;rw[o3] at dn;omega
  rw[au,ag];refine⟨fun _=>?_,fun h=>by omega⟩;refine aV (fun l' a7=>∃ aa aO,Ext ao a7∧ed a7 aa l' aO∧Sem a7 f.k f.sizes aO∧aO.map dj=dR f (i+1)∧ ∀ r,leadsTo l' r→ao.heap.size≤r) ?_ ?_
  ·rintro l' a7 ⟨aa,aO,h1,dp,dq,dr,dt⟩;rw[aL];exact dg _ _ ⟨aa,aO,h1,dp,dq,dr,dt⟩
  intro eM cj;refine mV (α:=fp) bj.p rfl bO.u bj.i (dc bw av) cg fun cs bz=>?_;have ck:cs.length=2:=aA.len bz;refine bU bj.i fun aP eN eP du dv=>?_;refine b9 (vs:=cs) bj.i ck rfl (aA.one bz) dv fun dw dx eQ dy=>?_;have ac:Ext ap dw:=du.then dx (fun r E he=>by have he:r=aP:=he;omega);rw[bN bj.p bj.i ck dy.range];refine (Ey W b8 ch di (dc bz ac)).mono ?_;rintro _ dz _ ⟨dA,sv,gs,bA,dB,dC,rfl,eR,aQ,cl⟩;rw[aC (v:=sv) rfl,aC (v:=.pointer (some ⟨bA,0,none⟩)) rfl];refine bU ab.i fun cm eS eT dD dE=>?_;refine bH ab.i aQ.ls.cells.1 aQ.ls.cells.2 dE (by simp[x4.cells]) fun cn dF eU a8=>?_;have bD:Ext dz cn:=dD.then dF (fun r E he=>by have he:r=cm:=he;omega);have a8:ak cn cm ab [sv]:=a8;rw[pq];have bG:=(ac.trans dA).trans bD;have eV:=bG.size;have eW:=av.size;refine (E1 (aN.ext bG) a8 (aQ.ls.ext bD)).mono ?_;rintro _ eX _ ⟨bb,E⟩;have bc:=bG.trans bb;have cp:=bD.trans bb;have bI:=aQ.ext cp;have cq:=cl.ext cp;have cr:=a8.ext bb;have ct:=aN.ext bc;have bJ:=a2.ext bc;rcases E with⟨rfl,dG⟩|⟨cu,rfl,y,V,bf⟩
  ·rw[au,ag];refine⟨fun _=>?_,fun h=>by omega⟩;rw[al (by kernel_rfl) (cr.cell (o:=0) rfl),cR (cs:=#[sv,.pointer (some ⟨bA,0,none⟩)]) (by obtain⟨_,_,_,rfl⟩:=c5 aQ.ls;kernel_rfl)];let a:ci:=⟨sv,bA,be x.scope,(fP f.sizes f.k x).2⟩;have bK:∀ u∈dQ a,u.oneCell'=true:=r2 bI;refine fa (f:=dQ) (a:=a) cY.u bE.i (by omega) rfl rfl fun eY eZ dH e0 aB dJ=>?_;have aD:=ct.ext aB;refine fl (f:=dQ) (a:=a) cY.u bE.i rfl aD.1 (by simpa using dJ.sl) bK (by omega) (by omega) fun aR aa e1 aS bL aT=>?_;have cw:=bI.ext aB;have bh:∀ {r:Nat},leadsTo l r→ ∃ c,ak dH r bE c:=fun E=>by
    obtain⟨rfl,c,U⟩:=ds aD.1 E;exact⟨c,U⟩
   refine cj _ _ ⟨aa,L++[a],((av.trans bc).trans aB).then aT (fun r E he=>by have:=Z r he;omega),ed.mk aS fun z I=>?_,fun z I=>?_,?_,fun r E=>?_⟩
   ·rcases n9.1 I with I|I
    ·have:=(aD.2 z I).ad aT fun r E he=>(aD.2 z I).2.1 r E (aD.1.leads he).1;exact⟨this.1,this.2.2⟩
    ·rw[o9.1 I];exact⟨⟨gs,br cw aT fun r E he=>by obtain⟨c,U⟩:=bh he;exact bZ cw U (by decide) E rfl⟩,ay.scope⟩
   ·rcases n9.1 I with I|I
    ·exact (bJ.ext aB).row aD aT z I
    ·rw[o9.1 I];exact⟨dB,dC,tP (cq.ext aB) aT fun r E=>bh E⟩
   ·rw[j0,X,tU a6,yB]
    ·rfl
    ·intro c Y dK;rw[←X] at Y;obtain⟨z,I,rfl⟩:=l9.1 Y;exact dG z I dK
   ·rcases bL r E with h|h
    ·exact Z r h
    ·have:=aB.size;have:=bb.size;omega
  ·rw[au,ag];refine⟨fun h=>by omega,fun _=>?_⟩;intro e2 ae _ _;have bM:=ct.ext ae;have cz:=(u4.1 V).1;obtain⟨dL,dM,bi⟩:=(bJ.ext ae) y (u5 V);have cA:=cr.ext ae;have cB:=bI.ext ae;have dN:=cq.ext ae;rw[cT rfl cY.u bE.i bM.1 cz,ah bE.p rfl,al (by kernel_rfl) (bM.1.range V 1 _ rfl),al (by kernel_rfl) (cA.cell (o:=0) rfl),al (by kernel_rfl) (cA.cell (o:=0) rfl)];have aE:eG f.sizes f.k (dj y):=dk _ (tV X V);rw[bf] at bi;have cC:∀ {c:Int},0≤c∧c≤f.k→cF c f.k:=fun h=>⟨bq,h.1,h.2⟩;refine (EK bi dN cB.ls cB.ls bq (fun c Y=>cC (aE.ie c Y)) (fun c Y=>cC (ay.ie c Y))).mono ?_;intro e3 cD _ dO;have dP:y.cs.length=(aH (cb f.sizes (be x.scope))).toNat:=by have:=aE.len;rw[show (dj y).1=y.sc from rfl,bf] at this;exact this
   have dS:bV (cb f.sizes (be x.scope)):=cl.2.2.1;obtain⟨bP,bQ,cE,cH,dT,rfl,dU⟩:=EP ay.up (fun v dV=>(ay.scope.1 v dV).1) (by simp[cb];rfl) dS ay.small dP ay.len dO;rw[aC (v:=.pointer (some ⟨bQ,0,none⟩)) rfl,aC (v:=dT) rfl,aC (v:=.int .i64 0) rfl];have af:=bM.ext bP;rw[cT rfl cY.u bE.i af.1 cz,ah bE.p rfl];let a:ci:=⟨y.sv,bQ,y.sc,dh f.k y.cs (fP f.sizes f.k x).2⟩;refine ni (f:=dQ) (j:=1) (a:=y) (a':=a) bB.i rfl rfl af.1 V rfl (by omega) fun dW bk e4 dX=>?_;have bh:∀ {r:Nat},leadsTo l r→ ∃ c,ak cD r bE c:=fun E=>by
    obtain⟨rfl,c,U⟩:=ds af.1 E;exact⟨c,U⟩
   refine cj _ _ ⟨g,L.set cu a,((av.trans bc).trans (ae.trans bP)).then bk (fun r E he=>by have:=Z r he;omega),ed.mk dX fun z I=>?_,fun z I=>?_,?_,Z⟩
   ·have cI:∀ z∈L,(∃ bR,aq .i64 J dW bR z.sv z.sc)∧hz z.sc:=fun z I=>by
     have:=(af.2 z I).ad bk fun r E he=>(af.2 z I).2.1 r E (af.1.leads he).1;exact⟨this.1,this.2.2⟩
    rcases V9 I with I|rfl
    ·exact cI z I
    ·exact cI y (u5 V)
   ·rcases V9 I with I|rfl
    ·exact ((bJ.ext ae).ext bP).row af bk z I
    ·refine⟨cE,cH,tP ?_ bk fun r E=>bh E⟩;show cG cD bQ cE cH (cb f.sizes y.sc) f.k _;rw[bf];exact dU
   ·rw[List.map_set,X,tU a6,EY (g:=fP f.sizes f.k x) dl (i:=cu) (h:=dj y) (by rw[←X,r9,V];rfl) bf];rfl
 ·rintro l ap df ⟨g,L,av,aN,a2,X,Z⟩;rw[au,ag];refine⟨fun h=>by omega,fun _=>?_⟩;rw[a1.1,yD] at X;have dm:L.length≤256:=by
   have:=(iT W).2.2;rw[←X,o3] at this;have:=W.iN;omega
  refine (EE aN a2 (by omega)).mono ?_;rintro e5 cJ _ ⟨cK,cM,dY⟩;have dZ:Ext ao cJ:=av.then cK fun r E he=>by have:=Z r he;omega
  have ea:Sem cJ f.k f.sizes (L.filter eO):=fun z I=>(a2.row aN cK) z (List.mem_filter.1 I).1;have e6:(L.filter eO).length≤L.length:=List.length_filter_le _ _;refine (Ev cM (by omega)).mono ?_;rintro _ cN _ ⟨cO,M,bS,ec,cP⟩;have ee:Ext ao cN:=dZ.then cO fun r E he=>by have:=Z r (dY r he);omega
  have cQ:Sem cN f.k f.sizes M:=fun z I=>(ea.row cM cO) z (bS.mem_iff.1 I);have e7:M.length≤256:=by rw[bS.length_eq];omega
  have cS:M.map dj=eD f:=by
   refine Dv W ?_ ?_
   ·refine (bS.map dj).trans ?_;rw[←X,List.filter_map];exact .refl _
   ·rw[List.pairwise_map];refine W8.2 fun p q ef cU eg=>?_;exact ec p q _ _ (Y1 _) eg cU (x3 ef) (x3 cU)
  intro e8 bl _ _;have aU:=ee.trans bl;have e9:=cd.ext aU;have bT:=ce.ext aU;rw[az,ah bg.p rfl,al (by kernel_rfl) (bT.cell (o:=0+0) rfl),az,ah bg.p rfl,al (by kernel_rfl) (bT.cell (o:=0+1) rfl),az,ah bg.p rfl,al (by kernel_rfl) (bT.cell (o:=0+2) rfl)];refine (jE (de.ls.ext aU) (by have:=W.sizes.2.1;omega)).mono ?_;rintro aW cV _ ⟨aF,ei,fb,cW⟩;refine⟨.inl aF,?_⟩;rw[cR (cs:=#[bx f.name,.int .i64 f.k,aW,.slice none 0 0]) (by obtain⟨_,_,_,rfl⟩:=c5 cW.ls;kernel_rfl)];refine cc fun ai ej fc bm bX=>?_;have bX:ak ej ai bg [bx f.name,.int .i64 f.k,aW,.slice none 0 0]:=bX;have fd:=(aU.trans aF).trans bm;have ek:=((cP.ext bl).ext aF).ext bm;have fe:=((cQ.ext bl).ext aF).ext bm;rw[eb cY.u ek.1];refine bd.range M.length (fun i aG=>∃ aY bn aj,Ext cV aG∧ak aG ai bg [bx f.name,.int .i64 f.k,aW,aY]∧qd aG bn aY f.k f.sizes aj∧aj.map dj=(M.take i).map dj∧aj.length=i∧ ∀ r,leadsTo aY r→cV.heap.size≤r) (by omega)
   ⟨_,0,[],bm,bX,⟨aZ.nil _ _ _ _ _,fun x aM=>(by cases aM)⟩,rfl,rfl,fun r E=>(dI E).elim⟩ ?_ ?_
  rotate_left
  ·rintro aG em ⟨aX,bn,aj,aI,aJ,bY,bo,_,_⟩;rw[l5,cS] at bo;rw[au,ag];refine⟨fun h=>by omega,fun _=>?_⟩;exact⟨(bt.trans (aU.trans aF)).trans aI,.inr ⟨ai,rfl,aW,aX,ei,bn,aj,aJ,cW.ext aI,bY,bo⟩⟩
  rintro i aG em hi ⟨aX,bn,aj,aI,aJ,bY,bo,en,cX⟩ eo;obtain⟨y,V⟩:∃ y,M[i]? =some y:=⟨_,x3 hi⟩;have cZ:=(bl.trans aF).trans aI;have c0:=cP.ext cZ;have c1:=c0.at V;obtain⟨dL,dM,bi⟩:=(cQ.ext cZ) y (u5 V);have aE:eG f.sizes f.k (dj y):=rM W _ (tV cS V);rw[au,ag];refine⟨fun _=>?_,fun h=>by omega⟩;rw[rX rfl c0 V];refine bU bE.i fun ep ff fg er es=>?_;refine b9 (vs:=dQ y) bE.i rfl rfl c1.one es fun et eu fh ev=>?_;have ew:Ext aG et:=er.then eu (fun r E he=>by have he:r=ep:=he;omega);intro fi c2 _ _;have b1:=ew.trans c2;have c3:=ev.ext c2;have ey:=aJ.ext b1;rw[az,ah bg.p rfl,al (by kernel_rfl) (ey.cell (o:=0+3) rfl),ah bE.p rfl,al (by kernel_rfl) (c3.cell (o:=0+0) rfl),ah bE.p rfl,al (by kernel_rfl) (c3.cell (o:=0+1) rfl)];refine (EX (bi.ext b1) fun c Y=>⟨bq,(aE.ie c Y).1,(aE.ie c Y).2⟩).mono ?_;rintro _ fj _ ⟨b2,ax,m,o,D,rfl,ez,eA,eB,_⟩;refine⟨.inl b2,?_⟩;have c4:=b1.trans b2;obtain⟨⟨bR,c6⟩,_,fk⟩:=c1;have c7:=c6.ext c4;rw[cR (cs:=#[y.sv,.pointer (some ⟨ax,0,none⟩)]) (by obtain⟨_,_,_,e⟩:=c5 c6.ls;rw[e];kernel_rfl)];let a:ci:=⟨y.sv,ax,y.sc,y.cs⟩;have bK:∀ u∈dQ a,u.oneCell'=true:=r2 c7;refine fa (f:=dQ) (a:=a) bO.u bj.i (by omega) rfl rfl fun v25 fm b3 fo ac eC=>?_;refine⟨.inl (b2.trans ac),?_⟩;have aK:=c4.trans ac;have bp:=bY.ext aK;refine fl (f:=dQ) (a:=a) bO.u bj.i rfl bp.1 (by simpa using eC.sl) bK (by omega) (by omega) fun aR aa eE aS bL c8=>?_;have fq:=aI.size;have fr:=aK.size;have b4:ak eE ai bg [bx f.name,.int .i64 f.k,aW,aX]:=(aJ.ext aK).ad c8 fun he=>by
   obtain⟨rfl,c,U⟩:=ds bp.1 he;have h1:=aJ.ext aK;unfold ak at U h1;rw[h1] at U;exact absurd (Obj.cells.inj (Z2 U)).2.1 (by decide)
  rw[az,ah bg.p rfl];have c9:aR.cells= #[aR]∧aR.oneCell'=true:=by
   obtain⟨_,_,_,_,_,rfl,_⟩:=aS.sl;exact⟨rfl,rfl⟩
  refine bH bO.i c9.1 c9.2 b4 (by simp) fun eF da fs eH=>?_;rw[aL];have b5:am (fun r=>r=ai∨leadsTo aX r) b3 eF:=(c8.mono fun r _ h=>.inr h).trans (da.mono fun r _ h=>.inl h);have db:∀ r,(r=ai∨leadsTo aX r)→ ∃ e c,ak b3 r e c∧e≠cL∧e≠J:=fun r E=>by
   rcases E with rfl|E
   ·exact⟨_,_,aJ.ext aK,by decide,by decide⟩
   ·obtain⟨rfl,c,U⟩:=ds bp.1 E;exact⟨_,c,U,by decide,by decide⟩
  refine eo _ ⟨aR,aa,aj++[a],?_,eH,⟨aS.ad da fun r E he=>?_,fun z I=>?_⟩,?_,by rw[o5,en];rfl,fun r E=>?_⟩
  ·exact (aI.trans aK).then b5 fun r E he=>by
    rcases he with rfl|he
    ·omega
    ·have:=cX r he;omega
  ·have he:r=ai:=he;subst he;obtain⟨rfl,c,U⟩:=ds aS E;unfold ak at U b4;rw[b4] at U;exact absurd (Obj.cells.inj (Z2 U)).2.1 (by decide)
  ·rcases n9.1 I with I|I
   ·exact (bp.2 z I).ad b5 db
   ·rw[o9.1 I];refine kI.ad (w:=b3) ⟨⟨bR,c7.ext ac⟩,m,o,D,ez.ext ac,?_,eB⟩ b5 db;have:=aE.small;exact Y5 eA (by show (aH (cb f.sizes (dj y).1)).toNat≤4096;omega)
  ·rw[j0,bo,o4,V,j0];rfl
  ·rcases bL r E with h|h
   ·exact cX r h
   ·omega
theorem eP {w:x5} {r:Nat} {e E:o6} {c I:List x4} (h:ak w r e c) (h':ak w r E I):e=E:=by
 unfold ak at h h';rw[h] at h';exact (Obj.cells.inj (Z2 h')).2.1
theorem cn {α:Type} {f:α→List x4} {k:Nat} {e E:o6} {w:x5} {g I:Nat} {v:x4} {L:List α} {cs:List x4} (h:aZ f k e w g v L) (J:ak w I E cs) (O:e≠E):¬leadsTo v I:=fun U=>by
 obtain⟨rfl,c,V⟩:=ds h U;exact O (eP V J)
structure e1 where
 v:x4
 l:List Int
def hC (h:e1):List x4:=[h.v]
def fJ (w:x5) (g:Nat) (v:x4) (E:List e1):Prop:=aZ hC 1 ae w g v E∧ ∀ h∈E,∃ I,aq .i64 af w I h.v h.l
theorem fJ.ext {w w':x5} {g:Nat} {v:x4} {E:List e1} (h:fJ w g v E) (I:Ext w w'):fJ w' g v E:=⟨h.1.ext I,fun x J=>by
 obtain⟨O,hm⟩:=h.2 x J;exact⟨O,hm.ext I⟩⟩
theorem fJ.qe {w w':x5} {g:Nat} {v:x4} {I:List e1} {S:Nat→Prop} (h:fJ w g v I) (J:am S w w') (O:∀ r,S r→ ∃ e c,ak w r e c∧e≠af):∀ h∈I,∃ E,aq .i64 af w' E h.v h.l:=fun x U=>by
 obtain⟨E,hm⟩:=h.2 x U;exact⟨E,br hm J fun r V W=>by
  obtain⟨e,c,X,Y⟩:=O r W;exact bZ hm X (fun he=>Y he.symm) V rfl⟩
theorem fJ.ad {w w':x5} {g:Nat} {v:x4} {O:List e1} {S:Nat→Prop} (h:fJ w g v O) (U:am S w w') (V:∀ r,S r→ ∃ e c,ak w r e c∧e≠af∧e≠ae):fJ w' g v O:=
 ⟨h.1.ad U fun r E W=>by
  obtain⟨e,c,I,_,J⟩:=V r W;exact cn h.1 I (fun he=>J he.symm) E,h.qe U fun r E=>by
  obtain⟨e,c,I,J,_⟩:=V r E;exact⟨e,c,I,J⟩⟩
def kJ (w:x5) (k:Int) (sizes:List Int) (x:ci):Prop:=(∃ E,aq .i64 J w E x.sv x.sc)∧ ∃ I O,cG w x.g I O (cb sizes x.sc) k x.cs
theorem kJ.ext {w w':x5} {k:Int} {sizes:List Int} {x:ci} (h:kJ w k sizes x) (E:Ext w w'):kJ w' k sizes x:=by
 obtain⟨⟨I,h1⟩,J,O,U⟩:=h;exact⟨⟨I,h1.ext E⟩,J,O,U.ext E⟩
theorem E4 {w w':x5} {S:Nat→Prop} {g X:Nat} {Y:x4} {ao cs:List Int} {k:Int} (h:cG w g X Y ao k cs) (U:am S w w') (V:∀ r,S r→ ∃ e c,ak w r e c∧e≠bq∧e≠J∧e≠af):cG w' g X Y ao k cs:=by
 obtain⟨⟨aO,gs,h1,Z,aa⟩,ab⟩:=h;refine⟨⟨aO,gs,h1.ad U fun E=>?_,br Z U fun r W E=>?_,br aa U fun r W E=>?_⟩,ab⟩
 ·obtain⟨e,c,I,O,_⟩:=V g E;exact O (eP I h1)
 ·obtain⟨e,c,I,_,O,_⟩:=V r E;exact bZ Z I (fun he=>O he.symm) W rfl
 ·obtain⟨e,c,I,_,_,O⟩:=V r E;exact bZ aa I (fun he=>O he.symm) W rfl
theorem kJ.ad {w w':x5} {S:Nat→Prop} {k:Int} {sizes:List Int} {x:ci} (h:kJ w k sizes x) (E:am S w w') (I:∀ r,S r→ ∃ e c,ak w r e c∧e≠bq∧e≠J∧e≠af):kJ w' k sizes x:=by
 obtain⟨⟨O,h1⟩,U,V,W⟩:=h;refine⟨⟨O,br h1 E fun r X Y=>?_⟩,U,V,E4 W E I⟩;obtain⟨e,c,Z,_,aa,_⟩:=I r Y;exact bZ h1 Z (fun he=>aa he.symm) X rfl
def jL (w:x5) (g:Nat) (v:x4) (k:Int) (sizes:List Int) (L:List ci):Prop:=aZ dQ 2 fi w g v L∧ ∀ x∈L,kJ w k sizes x
theorem jL.ext {w w':x5} {g:Nat} {v:x4} {k:Int} {sizes:List Int} {L:List ci} (h:jL w g v k sizes L) (E:Ext w w'):jL w' g v k sizes L:=⟨h.1.ext E,fun x I=>(h.2 x I).ext E⟩
theorem jL.ad {w w':x5} {g:Nat} {v:x4} {k:Int} {sizes:List Int} {L:List ci} {S:Nat→Prop} (h:jL w g v k sizes L) (U:am S w w') (V:∀ r,S r→ ∃ e c,ak w r e c∧e≠fi∧e≠bq∧e≠J∧e≠af):jL w' g v k sizes L:=
 ⟨h.1.ad U fun r E W=>by
  obtain⟨e,c,I,O,_⟩:=V r W;exact cn h.1 I (fun he=>O he.symm) E,fun x X=>(h.2 x X).ad U fun r E=>by
  obtain⟨e,c,I,_,O⟩:=V r E;exact⟨e,c,I,O⟩⟩
def eQ (w:x5) (V:Nat) (n:bS):Prop:=∃ E I O W X U L Y aw Z aa,ak w V cK [.pointer (some ⟨E,0,none⟩),.int .i64 n.zero,I,O]∧ak w E bg [Y,.int .i64 n.k,aw,aa]∧aq .i64 J w Z aw n.sizes∧
 fJ w W I U∧U.map (·.l)=n.unary∧jL w X O n.k n.sizes L∧L.map dj=n.funs
theorem eQ.ext {w w':x5} {I:Nat} {n:bS} (h:eQ w I n) (E:Ext w w'):eQ w' I n:=by
 obtain⟨J,O,U,V,W,X,L,Y,aw,Z,aa,h1,ab,ac,ad,ae,af,ag⟩:=h;exact⟨J,O,U,V,W,X,L,Y,aw,Z,aa,h1.ext E,ab.ext E,ac.ext E,ad.ext E,ae,af.ext E,ag⟩
def gG (n:bS) (g:cg):bS:=match g.1 with
 |[]=>{n with zero:=g.2.getD 0 0}
 |[v]=>{n with unary:=n.unary.set v.toNat g.2}
 |_=>{n with funs:=n.funs++[g]}
def yE (f:bW):bS:=⟨f.k,f.sizes,0,f.sizes.map fun z=>p9 z.toNat 0,[]⟩
theorem E5 (f:bW):dr f=(eD f).foldl gG (yE f):=rfl
def c3 (f:bW) (i:Nat):bS:=((eD f).take i).foldl gG (yE f)
theorem tW {f:bW} {i:Nat} {g:cg} (h:(eD f)[i]? =some g):c3 f (i+1)=gG (c3 f i) g:=EZ h
theorem r3 (f:bW):c3 f (eD f).length=dr f:=by unfold c3;rw[l5,E5]
theorem E6 (n:bS) (g:cg):(gG n g).k=n.k∧(gG n g).sizes=n.sizes∧(gG n g).unary.length=n.unary.length∧(gG n g).funs.length≤n.funs.length+1:=by
 unfold gG;split
 ·exact⟨rfl,rfl,rfl,Nat.le_succ _⟩
 ·exact⟨rfl,rfl,by simp,Nat.le_succ _⟩
 ·exact⟨rfl,rfl,rfl,by simp⟩
theorem nr (f:bW):∀ i,(c3 f i).k=f.k∧(c3 f i).sizes=f.sizes∧(c3 f i).unary.length=f.sizes.length∧(c3 f i).funs.length≤i
 |0=>⟨rfl,rfl,by show (f.sizes.map _).length=_;simp,Y1 _⟩
 |i+1=>by
  have E:=nr f i;cases I:(eD f)[i]? with
  |none=>
   have J:=List.getElem?_eq_none_iff.1 I;have e:c3 f (i+1)=c3 f i:=by unfold c3;rw[Z1 (by omega),Z1 J]
   rw[e];exact⟨E.1,E.2.1,E.2.2.1,by omega⟩
  |some g=>
   rw[tW I];obtain⟨h1,O,U,V⟩:=E6 (c3 f i) g;exact⟨h1.trans E.1,O.trans E.2.1,U.trans E.2.2.1,by omega⟩
def E7 (w:x5) (f:bW) (v:x4) (w':x5):Prop:=Ext w w'∧((¬jK f.funs≤16384∧ ∃ e:Int,e≠0∧v= .tuple #[.pointer none,.int .i64 e])∨ ∃ E,v= .tuple #[.pointer (some ⟨E,0,none⟩),.int .i64 0]∧eQ w' E (dr f))
theorem cJ {k n:Nat} {w:x5} {v:x4} {cs:List x4} (h:b7 w k v n cs):v.cells= #[v]∧v.oneCell'=true:=by
 obtain⟨_,_,_,_,_,rfl,_⟩:=h;exact⟨rfl,rfl⟩
set_option maxHeartbeats 8000000 in
theorem E8 {N:Nat} {w:x5} {cd:Nat} {f:bW} (cG:iV w cd f) (ap:eh N f) (cH:N≤60000) (cI:f.name≠[]∧ ∀ b∈f.name,bF b=true):
  O y0 n3 [.pointer (some ⟨cd,0,none⟩)] w (E7 w f):=by
 have dJ:=ap.k;apply n3.enter;refine (E3 cG ap cH cI).mono ?_;rintro _ aM _ ⟨a6,⟨cL,e,he,rfl⟩|⟨aB,rfl,cM⟩⟩
 ·rw[aC (v:=.pointer none) rfl,aC (v:=.int .i64 e) rfl,bC,ag];exact⟨fun _=>⟨a6,.inl ⟨cL,e,he,rfl⟩⟩,fun h=>absurd he h⟩
 rw[aC (v:=.pointer (some ⟨aB,0,none⟩)) rfl,aC (v:=.int .i64 0) rfl,bC,ag];refine⟨fun h=>absurd rfl h,fun _=>?_⟩;obtain⟨aw,cN,cO,dK,M,bp,bt,ce,a7⟩:=id cM;have dL:M.length≤256:=by
  have h1:=(p3 ap).2.length_eq;have aN:=(iT ap).2.2;have aO:=List.length_filter_le eC (eu f);have a8:=ap.iN;have dM:M.length=(eD f).length:=by rw[←a7,o3]
  omega
 have dO:=ap.sizes.2.1;rw[cR (cs:=#[.pointer (some ⟨aB,0,none⟩),.int .i64 0,.slice none 0 0,.slice none 0 0]) (by kernel_rfl)];refine cc fun X cP dP bu bz=>?_;have bz:ak cP X cK [.pointer (some ⟨aB,0,none⟩),.int .i64 0,.slice none 0 0,.slice none 0 0]:=bz;rw[az,ah bg.p rfl,al (by kernel_rfl) ((bp.ext bu).cell (o:=0+2) rfl),aQ ab.u (bt.ls.ext bu)];refine bd.range f.sizes.length (fun i aT=>∃ I Y V,Ext aM aT∧ak aT X cK [.pointer (some ⟨aB,0,none⟩),.int .i64 0,I,.slice none 0 0]∧fJ aT Y I V∧V.map (·.l)=(f.sizes.take i).map (fun z=>p9 z.toNat 0)∧ ∀ r,leadsTo I r→aM.heap.size≤r) (by omega)
  ⟨_,0,[],bu,bz,⟨aZ.nil _ _ _ _ _,fun x bA=>(by cases bA)⟩,rfl,fun r E=>(dI E).elim⟩ ?_ ?_
 ·rintro i aT cQ hi ⟨I,Y,V,aD,ba,bB,aU,bb⟩ cS;obtain⟨z,Z⟩:∃ z,f.sizes[i]? =some z:=⟨_,x3 hi⟩;have dR:=ap.sizes.2.2 z (u5 Z);have dS:V.length=i:=by have:=congrArg V4 aU;simp only[o3,l7] at this;omega
  rw[au,ag];refine⟨fun _=>?_,fun h=>by omega⟩;rw[bw ab.u J.i (by kernel_rfl) (bt.ls.ext aD) Z];intro dT cg _ _;have cU:=ba.ext cg;rw[az,ah cK.p rfl,al (by kernel_rfl) (cU.cell (o:=0+2) rfl)];obtain⟨aE,rfl⟩:∃ n:Nat,z=n:=⟨z.toNat,by omega⟩;refine h0 (k:=.i64) ae.u af.i (by omega) (by omega) fun bc cV dU bD cW=>?_;refine⟨.inl bD,?_⟩;have cX:aq .i64 af cV bc (.slice (some ⟨bc,0,none⟩) aE aE) (p9 aE 0):=aq.of (bR.full (k:=1) (n:=aE) cW (by simp) (by simp[maxLen];omega));let a:e1:=⟨.slice (some ⟨bc,0,none⟩) aE aE,p9 aE 0⟩;refine fa (f:=hC) (a:=a) b5.u ae.i (by omega) rfl rfl fun dV dW bE dX bG cY=>?_;refine⟨.inl (bD.trans bG),?_⟩;have be:=(cg.trans bD).trans bG;have bf:=bB.ext be;refine fl (f:=hC) (a:=a) b5.u ae.i rfl bf.1 (by simpa using cY.sl) (fun u hu=>by rw[o9.1 (show u∈[a.v] from hu)];rfl) (by omega) (by omega) fun bI bJ dY ai bK ch=>?_;have aV:∀ {r:Nat},leadsTo I r→ ∃ c,ak bE r ae c:=fun E=>by
   obtain⟨rfl,c,U⟩:=ds bf.1 E;exact⟨c,U⟩
  have bL:=ba.ext be;have cj:=bL.ad ch fun he=>cn bf.1 bL (by decide) he;rw[az,ah cK.p rfl];refine bH b5.i (cJ ai.sl).1 (cJ ai.sl).2 cj (by simp) fun cZ ck dZ c0=>?_;rw[aL];have bP:am (fun r=>leadsTo I r∨r=X) bE cZ:=(ch.mono fun r _ h=>.inl h).trans (ck.mono fun r _ h=>.inr h);have av:∀ r,(leadsTo I r∨r=X)→ ∃ e c,ak bE r e c∧e≠af:=fun r E=>by
   rcases E with E|rfl
   ·obtain⟨c,U⟩:=aV E;exact⟨_,c,U,by decide⟩
   ·exact⟨_,_,bL,by decide⟩
  have c1:=a6.size;have z3:=aD.size;have ea:=be.size;refine cS _ ⟨bI,bJ,V++[a],(aD.trans be).then bP (fun r E he=>?_),c0,⟨ai.ad ck fun r E he=>?_,fun y ac=>?_⟩,?_,fun r E=>?_⟩
  ·rcases he with he|rfl
   ·have:=bb r he;omega
   ·omega
  ·have he:r=X:=he;subst he;exact cn ai cj (by decide) E
  ·rcases n9.1 ac with ac|ac
   ·exact bf.qe bP av y ac
   ·rw[o9.1 ac];have cl:=cX.ext bG;exact⟨bc,br cl bP fun r E bQ=>by
     obtain⟨e,c,U,c2⟩:=av r bQ;exact bZ cl U (fun he=>c2 he.symm) E rfl⟩
  ·rw[j0,aU,o4,Z,c8,j0];rfl
  ·rcases bK r E with h|h
   ·exact bb r h
   ·omega
 ·rintro aT cQ ⟨I,Y,V,aD,ba,bB,aU,bb⟩;rw[au,ag];refine⟨fun h=>by omega,fun _=>?_⟩;rw[l5] at aU;have c4:=bp.ext aD;have c6:=ce.ext aD;rw[az,ah bg.p rfl,al (by kernel_rfl) (c4.cell (o:=0+3) rfl),eb bO.u c6.1];refine bd.range M.length (fun i aF=>∃ I W Y ax V L,Ext aM aF∧ak aF X cK [.pointer (some ⟨aB,0,none⟩),.int .i64 (c3 f i).zero,I,W]∧fJ aF Y I V∧V.map (·.l)=(c3 f i).unary∧jL aF ax W f.k f.sizes L∧L.map dj=(c3 f i).funs∧ ∀ r,leadsTo I r∨leadsTo W r→aM.heap.size≤r) (by omega)
   ⟨I,_,Y,0,V,[],aD,ba,bB,aU,⟨aZ.nil _ _ _ _ _,fun x bA=>(by cases bA)⟩,rfl,fun r E=>E.elim (bb r) fun h=>(dI h).elim⟩ ?_ ?_
  rotate_left
  ·rintro aF c7 ⟨I,W,Y,ax,V,L,aj,bh,bS,aG,bT,aI,_⟩;rw[au,ag];refine⟨fun h=>by omega,fun _=>?_⟩;have c9:M.length=(eD f).length:=by rw[←a7,o3]
   have aW:=nr f M.length;rw[c9,r3] at bh aG aI aW;refine⟨a6.trans aj,.inr ⟨X,rfl,aB,I,W,Y,ax,V,L,bx f.name,aw,cO,cN,bh,?_,?_,bS,aG,?_,aI⟩⟩
   ·rw[aW.1];exact bp.ext aj
   ·rw[aW.2.1];exact bt.ext aj
   ·rw[aW.1,aW.2.1];exact bT
  rintro i aF c7 hi ⟨I,W,Y,ax,V,L,aj,bh,bS,aG,bT,aI,aR⟩ da;obtain⟨y,ac⟩:∃ y,M[i]? =some y:=⟨_,x3 hi⟩;have db:(eD f)[i]? =some (dj y):=by rw[←a7,r9,ac];rfl
  have bi:eG f.sizes f.k (dj y):=rM ap _ (tV a7 ac);have bV:=ce.ext aj;obtain⟨ec,ed,ee,ef⟩:=nr f i;rw[au,ag];refine⟨fun _=>?_,fun h=>by omega⟩;refine dG (fun aX=>∃ I W Y ax V L,Ext aM aX∧ak aX X cK [.pointer (some ⟨aB,0,none⟩),.int .i64 (c3 f (i+1)).zero,I,W]∧fJ aX Y I V∧V.map (·.l)=(c3 f (i+1)).unary∧jL aX ax W f.k f.sizes L∧L.map dj=(c3 f (i+1)).funs∧ ∀ r,leadsTo I r∨leadsTo W r→aM.heap.size≤r) ?_ ?_
  ·rintro aX h;rw[aL];exact da _ h
  intro eg bX;have dc:=bV.2 y (u5 ac);obtain⟨⟨dd,bY⟩,m,o,D,de,ei,df⟩:=dc;rw[cT rfl bO.u bj.i bV.1 hi,bN bj.p bj.i rfl (bV.1.range ac)];refine bU bj.i fun aP ej ek dg dh=>?_;refine b9 (vs:=dQ y) bj.i rfl rfl (r2 bY) dh fun di dk em cm=>?_;have cp:Ext aF di:=dg.then dk (fun r E he=>by have he:r=aP:=he;omega);rw[ah bj.p rfl,al (by kernel_rfl) (cm.cell (o:=0+1) rfl)];refine (yb (de.ext cp) (by omega)).mono ?_;rintro _ en _ ⟨cq,_,aS⟩;obtain⟨g,dl,dm,dn,rfl,eo,er,aS,dp⟩:=aS bi.small;have dq:dN (cb f.sizes y.sc):=aS.2.2.1.2;have dr:dn=y.cs:=gk.eq dq dp df;subst dr;have ay:=cp.trans cq;have b1:=cm.ext cq;have b2:=bY.ext ay;rw[aC (v:=.pointer (some ⟨g,0,none⟩)) rfl,aC (v:=.int .i64 0) rfl,ah bj.p rfl,al (by kernel_rfl) (b1.cell (o:=0+0) rfl),aQ ab.u b2.ls];have c1:=a6.size;have z9:=aj.size;have es:=ay.size;have b3:=bh.ext ay;have b4:=bS.ext ay;have b6:=bT.ext ay;have b7:=tW db;rw[bM,ag];refine⟨fun et=>?_,fun ev=>?_⟩
  ·
   have aJ:y.sc=[]:=j5 (by omega);have aa:c3 f (i+1)={c3 f i with zero:=y.cs.getD 0 0}:=by rw[b7];unfold gG;simp only[dj,aJ]
   refine (kF aS).mono ?_;rintro cr dt _ ⟨bk,ew,ey,du⟩;have ez:y.cs.length=1:=by have:=bi.len;simpa[dj,aJ,cb,aH] using this
   have dv:y.cs[0]? =some (y.cs.getD 0 0):=by rw[p8,x3 (by omega)];rfl
   rw[eV (y:=0) (i:=0) rfl ae.u af.i (by kernel_rfl) du.ls dv,az,ah cK.p rfl];have ct:=b3.ext bk;refine bH af.i rfl rfl ct (by simp) fun eA b8 eB dw=>?_;have av:∀ r,r=X→ ∃ e c,ak dt r e c∧e≠fi∧e≠bq∧e≠J∧e≠af∧e≠ae:=fun r E=>by
    subst E;exact⟨_,_,ct,by decide,by decide,by decide,by decide,by decide⟩
   refine bX _ ⟨I,W,Y,ax,V,L,((aj.trans ay).trans bk).then b8 (fun r E he=>by have he:r=X:=he;omega),?_,(b4.ext bk).ad b8 (fun r E=>?_),by rw[aa];exact aG,(b6.ext bk).ad b8 (fun r E=>?_),by rw[aa];exact aI,aR⟩
   ·rw[aa];exact dw
   ·obtain⟨e,c,U,_,_,_,h1,aN⟩:=av r E;exact⟨e,c,U,h1,aN⟩
   ·obtain⟨e,c,U,h1,aN,aO,a8,_⟩:=av r E;exact⟨e,c,U,h1,aN,aO,a8⟩
  rw[bM,ag];refine⟨fun h1=>?_,fun eE=>?_⟩
  ·
   obtain⟨v,aJ⟩:∃ v,y.sc=[v]:=V6.1 (by omega);have eF:=bi.scope.1 v (by show v∈y.sc;rw[aJ];exact .head _);have eH:=bi.vars v (by show v∈y.sc;rw[aJ];exact .head _);have aa:c3 f (i+1)={c3 f i with unary:=(c3 f i).unary.set v.toNat y.cs}:=by rw[b7];unfold gG;simp only[dj,aJ]
   intro eI aK _ _;have cu:=b3.ext aK;have dx:=b1.ext aK;rw[az,ah cK.p rfl,al (by kernel_rfl) (cu.cell (o:=0+2) rfl),ah bj.p rfl,al (by kernel_rfl) (dx.cell (o:=0+0) rfl)];refine s4 (y:=0) (i:=0) rfl ab.u J.i (b2.ls.ext aK) (show y.sc[0]? =some v by rw[aJ];rfl) fun b o dy=>?_;rw[al (by kernel_rfl) dy];refine (kF (aS.ext aK)).mono ?_;rintro cr dz _ ⟨aY,dA,eJ,bl⟩;refine⟨.inl aY,?_⟩;have a1:=(b4.ext aK).ext aY;have eK:V.length=f.sizes.length:=by have:=congrArg V4 aG;rw[o3] at this;omega
   obtain⟨u,hu⟩:∃ u,V[v.toNat]? =some u:=⟨_,x3 (by omega)⟩;rw[cT (i:=v.toNat) (by omega) b5.u ae.i a1.1 (by omega)];let a:e1:=⟨cr,y.cs⟩;refine ni (f:=hC) (j:=0) (a:=u) (a':=a) ae.i bl.ls.cells.1 bl.ls.cells.2 a1.1 hu rfl (by omega) fun eL a2 eM dB=>?_;have cw:=cu.ext aY;have aV:∀ {r:Nat},leadsTo I r→ ∃ c,ak dz r ae c:=fun E=>by
    obtain⟨rfl,c,U⟩:=ds a1.1 E;exact⟨c,U⟩
   refine bX _ ⟨I,W,Y,ax,V.set v.toNat a,L,(((aj.trans ay).trans aK).trans aY).then a2 (fun r E he=>by have:=aR r (.inl he);omega),?_,⟨dB,fun z Z=>?_⟩,?_,((b6.ext aK).ext aY).ad a2 (fun r E=>?_),by rw[aa];exact aI,aR⟩
   ·rw[aa];exact cw.ad a2 fun he=>cn a1.1 cw (by decide) he
   ·rcases V9 Z with Z|rfl
    ·exact a1.qe a2 (fun r E=>by obtain⟨c,U⟩:=aV E;exact⟨_,c,U,by decide⟩) z Z
    ·exact⟨dA,br bl a2 fun r E bQ=>by
      obtain⟨c,U⟩:=aV bQ;exact bZ bl U (by decide) E rfl⟩
   ·rw[aa,List.map_set,aG]
   ·obtain⟨c,U⟩:=aV E;exact⟨_,c,U,by decide,by decide,by decide,by decide⟩
  ·
   have aa:c3 f (i+1)={c3 f i with funs:=(c3 f i).funs++[dj y]}:=by
    rw[b7];unfold gG;have cz:2≤(dj y).1.length:=by show 2≤y.sc.length;omega
    generalize dj y=g at cz ⊢;obtain⟨sc,cs⟩:=g
    match sc,cz with
    |_::_::_,_=>rfl
   intro eN aA _ _;have cA:=b3.ext aA;have dC:=b1.ext aA;have cB:=b2.ext aA;rw[az,ah cK.p rfl,al (by kernel_rfl) (cA.cell (o:=0+3) rfl),ah bj.p rfl,al (by kernel_rfl) (dC.cell (o:=0+0) rfl),cR (cs:=#[y.sv,.pointer (some ⟨g,0,none⟩)]) (by obtain⟨_,_,_,e⟩:=c5 bY.ls;rw[e];kernel_rfl)];let a:ci:=⟨y.sv,g,y.sc,y.cs⟩;refine fa (f:=dQ) (a:=a) ep.u fi.i (by omega) rfl rfl fun eO eP bm eQ ao dD=>?_;refine⟨.inl ao,?_⟩;have bn:=(b6.ext aA).ext ao;have dE:=(b4.ext aA).ext ao;have ca:=cA.ext ao;have eR:L.length≤256:=by have:=congrArg V4 aI;rw[o3] at this;omega
   refine fl (f:=dQ) (a:=a) ep.u fi.i rfl bn.1 (by simpa using dD.sl) (r2 (cB.ext ao)) (by omega) (by omega) fun bI bJ eS ai bK cC=>?_;have cD:=ca.ad cC fun he=>cn bn.1 ca (by decide) he;rw[az,ah cK.p rfl];refine bH ep.i (cJ ai.sl).1 (cJ ai.sl).2 cD (by simp) fun dF cE eT dH=>?_;have bo:am (fun r=>leadsTo W r∨r=X) bm dF:=(cC.mono fun r _ h=>.inl h).trans (cE.mono fun r _ h=>.inr h);have av:∀ r,(leadsTo W r∨r=X)→ ∃ e c,ak bm r e c∧e≠bq∧e≠J∧e≠af∧e≠ae:=fun r E=>by
    rcases E with E|rfl
    ·obtain⟨rfl,c,U⟩:=ds bn.1 E;exact⟨_,c,U,by decide,by decide,by decide,by decide⟩
    ·exact⟨_,_,ca,by decide,by decide,by decide,by decide⟩
   have eU:=(aA.trans ao).size;refine bX _ ⟨I,bI,Y,bJ,V,L++[a],(((aj.trans ay).trans aA).trans ao).then bo (fun r E he=>?_),?_,dE.ad bo (fun r E=>?_),by rw[aa];exact aG,⟨ai.ad cE fun r E he=>?_,fun z Z=>?_⟩,?_,fun r E=>?_⟩
   ·rcases he with he|rfl
    ·have:=aR r (.inr he);omega
    ·omega
   ·rw[aa];exact dH
   ·obtain⟨e,c,U,_,_,aO,a8⟩:=av r E;exact⟨e,c,U,aO,a8⟩
   ·have he:r=X:=he;subst he;exact cn ai cD (by decide) E
   ·have cF:∀ r,(leadsTo W r∨r=X)→ ∃ e c,ak bm r e c∧e≠bq∧e≠J∧e≠af:=fun r E=>by
     obtain⟨e,c,U,h1,aN,aO,_⟩:=av r E;exact⟨e,c,U,h1,aN,aO⟩
    rcases n9.1 Z with Z|Z
    ·exact (bn.2 z Z).ad bo cF
    ·rw[o9.1 Z];refine kJ.ad (w:=bm) ⟨⟨dd,cB.ext ao⟩,dl,dm,?_⟩ bo cF;exact (aS.ext aA).ext ao
   ·rw[aa,j0,aI];rfl
   ·rcases E with E|E
    ·exact aR r (.inl E)
    ·rcases bK r E with h|h
     ·exact aR r (.inr h)
     ·omega
theorem tX {z:Array x4} {k n:Nat} (E:z.size=k):(u7.zeroCells z n).toList=db z (n*k):=by
 unfold u7.zeroCells db;rw[E]
theorem E9 {P:X5} {w:x5} {t I V e:o6} {W kn:o8} {b g n k m:Nat} {y:Int} {z v:x4} {xs:List x4} {K:x4→x5→Prop} (ax:y=(m:Int)) (ah:P.underlying t=some (.slice e)) (ai:P.underlying I=some (.int kn)) (hi:aJ P e k b z) (X:z.cells.size=k)
  (aQ:0<k) (h1:∀ u∈db z.cells (m*k),u.oneCell'=true) (h:bR w g e k v n xs) (ay:0<m) (az:(n+m)*b≤140737488355328) (aA:n+m≤9223372036854775807)
  (aj:∀ Y aB w',bR w' aB e k Y (n+m) (xs++db z.cells (m*k))→(∀ r,leadsTo Y r→leadsTo v r∨w.heap.size≤r)→am (fun r=>leadsTo v r) w w'→K Y w'):aa P (r8 #[t,I] V #[v,.int W y]) w K:=by
 subst ax;obtain⟨i,hi,Z,rfl,al⟩:=hi;obtain⟨ao,hm⟩:=h;have aC:=mU z.cells (m*k);have aD:m*i.bytes≤281474976710656:=by
  have:m*i.bytes≤(n+m)*i.bytes:=X6 _ (by omega);omega
 have grow:∀ (base:Option Addr) (cap:Nat),v= .slice base n cap→(u7.firstCells i.size n (.slice base n cap)).run P w.drew= .ok xs.toArray w.drew→cap<n+m→aa P (r8 #[t,I] V #[v,.int W (m:Int)]) w K:=fun base cap aE aF E=>by
  subst aE;have ab:=Lib.run_append_grow_zeros (P:=P) w t I V e i z W kn ah ai hi al base n cap xs aF m ay (by omega) E (by omega) aD (growslice_fits E az);have ap:n+m≤grownCap w (n+m) cap e:=grownCap_ge w _ _ _;have aG:grownCap w (n+m) cap e≤maxLen:=grownCap_le_maxLen w (n+m) cap e (by simpa[maxLen] using aA);have aR:=mU z.cells ((grownCap w (n+m) cap e-(n+m))*k);have aS:(n+m)*k≤grownCap w (n+m) cap e*k:=X6 _ ap;have aH:(n+m)*k=n*k+m*k:=V1 _ _ _;have aT:(grownCap w (n+m) cap e-(n+m))*k=grownCap w (n+m) cap e*k-(n+m)*k:=Nat.sub_mul _ _ _;refine .of ab ((nz w _ (Nat.le_succ _)).trans (nB _ _)) (aj _ w.heap.size _ ⟨by rw[o5];omega,.inr ⟨_,xs++db z.cells (m*k)++db z.cells ((grownCap w (n+m) cap e-(n+m))*k),rfl,?_,ap,aG,?_,?_⟩⟩ (fun r ac=>?_) (((qq w _).trans (nA _ _)).ad _))
  ·have:=heap_alloc_new w.drew (.cells (xs.toArray++u7.zeroCells z.cells m++u7.zeroCells z.cells (grownCap w (n+m) cap e-(n+m))) e);unfold ak;rw[show w.drew.heap.size=w.heap.size from rfl] at this;rw[this];congr 2;apply Array.toList_inj.1;rw[Array.toList_append,Array.toList_append,tX X,tX X]
  ·rw[o5,o5];omega
  ·rw[List.take_append_of_le_length (by rw[o5];omega),Z1 (by rw[o5];omega)]
  ·obtain⟨a,aI,c,J,O⟩:=ac;cases J;exact .inr (by simp at O;omega)
 rcases hm with⟨rfl,aK⟩|⟨cap,cs,rfl,U,J,O,ae,aq⟩
 ·subst aK;have:xs=[]:=j5 (by simpa using ao);subst this;exact grow none 0 rfl (run_firstCells_none w.drew i.size 0 0 0) (by omega)
 ·by_cases E:n+m≤cap
  ·have au:(n+m)*k≤cs.length:=by rw[ae];exact X6 _ E
   have aH:(n+m)*k=n*k+m*k:=V1 _ _ _;have af:=run_storeCells_cells (P:=P) g (0+n*k) (db z.cells (m*k)) 0 w (fun j av=>by
    rw[aC] at av;rw[Nat.add_zero,V5,U.cell (x3 (show n*k+j<cs.length by omega))];rfl) (fun j _=>U.frozen _ _) h1
   simp only[Nat.add_zero] at af;have hw:X3.wrap (m:Int)=m:=by rw[o8.wrap_i64];omega
   have aL:¬((m:Int)<0):=by omega
   have aM:¬(281474976710656<(m:Int)*(i.bytes:Int)):=by rw[←Int.natCast_mul];omega
   have ag:¬(m*i.size=0):=Nat.mul_ne_zero (by omega) (by omega);have aN:(u7.zeroCells z.cells m).toList=db z.cells (m*k):=tX X;have ab:(r8 #[t,I] V #[.slice (some ⟨g,0,none⟩) n cap,.int W (m:Int)]).run P w= .ok (.slice (some ⟨g,0,none⟩) (n+m) cap) (w.setCells g (0+n*k) (db z.cells (m*k))):=by
    simp[r8,run_underlying ah,run_underlying ai,sizeOf,typeInfo,zeroValue,hi,al,asInt,asIntOf,hw,E,aL,ag,aM,aN,Addr.add_lit,Z];simp only[V5] at af;rw[af];simp;intro aO;exact absurd aO (by rw[Z] at ag;exact ag)
   obtain⟨aP,aw⟩:=lr (db z.cells (m*k)) cs (0+n*k) w U;refine .of ab (aw.da U) (aj _ g _ ⟨by rw[o5];omega,.inr ⟨cap,_,rfl,aP,E,O,by rw[mT,ae],?_⟩⟩ (fun r ac=>.inl ?_) (aw.ad.mono fun r _ he=>⟨_,_,_,rfl,he.symm⟩))
   ·rw[xf (by omega) au,kv (by rw[l7];omega),V5,List.take_take,List.drop_eq_nil_of_le (by rw[l7];omega),U2,Nat.min_eq_left (by omega),aq]
   ·obtain⟨a,aI,c,J,O⟩:=ac;cases J;exact⟨_,_,_,rfl,O⟩
  ·refine grow _ cap rfl ?_ (by omega);have au:n*k≤cs.length:=by rw[ae];exact X6 _ J
   refine run_firstCells_some w.drew i.size n _ n cap xs (by rw[Z];exact ao) fun j u hu=>?_;rw[U5,V5];have av:=(u4.1 hu).1;rw[←aq,Z8 (by omega)] at hu;exact U.cell hu
def gl (c:Cell):List x4:=[.int .i64 c.v,.int .u64 (c.st:Int)]
def lN (o:iM):List x4:=[.int .i64 (o.i:Int),.int .i64 o.c.v,.int .u64 (o.c.st:Int)]
def lO (m:rb):List x4:=[.int .i64 (m.olds:Int),.int .i64 (m.cells:Int),.int .u64 (m.st:Int)]
def c4 (w:x5) (ax:Nat) (A:av) (t:aR):Prop:=A ax∧ ∃ J go O aO E I,ak w ax cX [aO,E,I,.int .u64 (t.kB:Int)]∧aZ gl 2 du w J aO t.cells∧aZ lN 3 iG w go E t.olds∧aZ lO 3 dY w O I t.marks∧
 ∀ r,leadsTo aO r∨leadsTo E r∨leadsTo I r→A r
theorem c4.ad {S A:av} {w w':x5} {ax:Nat} {t:aR} (h:c4 w ax A t) (I:am S w w') (J:∀ r,A r→¬S r):c4 w' ax A t:=by
 obtain⟨U,V,go,W,aO,X,Y,h1,Z,aa,ab,O⟩:=h;exact⟨U,V,go,W,aO,X,Y,h1.ad I (J _ U),Z.ad I fun r E=>J r (O r (.inl E)),aa.ad I fun r E=>J r (O r (.inr (.inl E))),ab.ad I fun r E=>J r (O r (.inr (.inr E))),O⟩
theorem c4.ext {A:av} {w w':x5} {ax:Nat} {t:aR} (h:c4 w ax A t) (E:Ext w w'):c4 w' ax A t:=h.ad (E.ad fun _=>False) fun _ _ h=>h
theorem c4.mono {A B:av} {w:x5} {ax:Nat} {t:aR} (h:c4 w ax A t) (E:∀ r,A r→B r):c4 w ax B t:=by
 obtain⟨I,J,go,O,aO,U,V,h1,W,X,Y,Z⟩:=h;exact⟨E _ I,J,go,O,aO,U,V,h1,W,X,Y,fun r aa=>E r (Z r aa)⟩
def Grow (A:av) (w:x5) (E:av) (w':x5):Prop:=am A w w'∧(∀ r,E r→A r∨w.heap.size≤r)∧ ∀ r,A r→E r
theorem Grow.refl (A:av) (w:x5):Grow A w A w:=⟨am.refl _ _,fun _ h=>.inl h,fun _ h=>h⟩
theorem Grow.ext {A:av} {w w':x5} (h:Ext w w'):Grow A w A w':=⟨h.ad _,fun _ h=>.inl h,fun _ h=>h⟩
theorem Grow.trans {A I J:av} {w w' O:x5} (h:Grow A w I w') (k:Grow I w' J O):Grow A w J O:=
 ⟨⟨Y5 h.1.size k.1.size,fun r o E U V=>k.1.bz r o (h.1.bz r o E U V) U fun W=>(h.2.1 r W).elim V fun X=>by
  have:=(l6.1 E).1;omega⟩,fun r E=>by
  rcases k.2.1 r E with h1|h1
  ·exact h.2.1 r h1
  ·have:=h.1.size;exact .inr (by omega),fun r E=>k.2.2 r (h.2.2 r E)⟩
end Go.Proofs.YtgbkinibgjmodaaGreatDoor
