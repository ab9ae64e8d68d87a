/- own texts, made small by a tool (wip/ holds them as they were written): no statement of the seat. -/
import Derived.Test.YtgbkinibgjmodaaGreatDoorZe
set_option linter.unusedVariables false
set_option linter.unusedSimpArgs false
set_option linter.unnecessarySimpa false
open Array renaming getElem?_eq_some_iff→j4,getElem?_toList→S3
open BitVec renaming ofInt→U5
open Bool renaming not_true→Y1,not_false→X4,eq_iff_iff→V8,and_eq_true→U1,true_and→U7,or_eq_false_iff→S0
open Decidable renaming not_not→X2
open Go renaming Value→x1,World→x2,TypeId→u9,IntKind→o5,Builtin→l5,Program→W5,Oper→U8,Operand→T8
open Go.Addr renaming add_mid→U4
open Go.Builtin renaming append_→l7,len_→Y3
open Go.Instr renaming loadAt→x5,fieldAt→x7,storeAt→o4,indexAt→n0,buildSlice→Z7,extract→Z8,sliceAt→W3,alloc→S6
open Go.IntKind renaming i64→Y5,u64→U3
open Go.Proofs.Tryz renaming prog→x3
open Go.Result renaming andThen→W0
open Go.Sem renaming run_bind→X8,run_pure→W9
open Go.Sort renaming Holds→T9
open Go.Value renaming int→V2
open Int renaming toNat_natCast→j9
open List renaming getElem?_eq_getElem→y0,getElem?_eq_some_iff→x4,mem_of_getElem?→x6,getElem?_map→x8,getD_eq_getElem?_getD→u4,length_map→u5,length_append→r8,take_add_one→r9,replicate→o6,length_take→o7,take_length→o9,mem_append→n9,mem_singleton→l9,getElem?_append_left→j0,length_cons→j5,take_of_length_le→Z0,getElem?_append_right→Z1,eq_nil_of_length_eq_zero→Z2,map_append→Z4,mem_map→Z5,getElem?_take_of_lt→Y2,getElem?_eq_none→Y4,mem_iff_getElem?→Y7,length_set→X1,getElem?_set→X5,ext_getElem?→X6,length_eq_one_iff→X7,range→X9,getElem?_set_ne→W6,drop_eq_getElem_cons→W8,pairwise_iff_getElem→V0,mem_or_eq_of_mem_set→V3,append_nil→V4,getElem?_set_self→V5,flatMap_cons→V6,append_assoc→V9,set_append_right→U6,mem_cons→U9,map_set→T0,length_singleton→T1,mem_of_mem_take→T2,map_cons→S2,length→S9,length_drop→R0,getElem_mem→R2
open Nat renaming le_refl→o8,zero_le→Y9,le_trans→X0,mul_le_mul_right→X3,sub_self→W7,zero_add→V1,add_mul→U2,beq→T3,mul_one→T4,min_eq_left→T5,pow_le_pow_right→S4,le_succ→S5,add_assoc→S7,add_sub_cancel_left→S8
open Ne renaming symm→T7
open Option renaming isNone_some→j6,some→Z3,toList_some→Z9,map_some→Y0,map_eq_some_iff→Y8,map→V7,getD_some→S1
open Option.some renaming inj→Z6,injEq→Y6
open Prod.mk renaming injEq→T6
set_option maxHeartbeats 16000000
open Option renaming some→σ,none→ν
variable {l:List Int}{ay:x1}{w:x2}{K:x1->x2->Prop}{t:u9}{cs:List x1}{ag m:Nat}
namespace Go.Proofs.YtgbkinibgjmodaaGreatDoor
open Go Go.Vc Go.RowKit Go.Proofs Go.Proofs.Tryz
set_option maxRecDepth 100000
section
variable {w:x2} {al ag:Nat} {A R:ai} {n:aV} {s:aF} {t:aC}
theorem rJ (h:jT n s l):∀x∈l,0<=x/\x<n.sizes.length:=λx U=>by
 obtain⟨q,I⟩:=Y7.1 U;obtain⟨v,J,V,h1,_⟩:=h q (x4.1 I).1;rw[I] at J;cases J;exact⟨V,h1⟩
theorem Bw {af:x1} (h:b9 w al ag A R n s t) (W:aI .i64 w af l) (ai:∀x∈l,0<=x) (aF:l.length<=100000000):aj x3 Dt [Γ al,af] w λr w'=>Ext w w'/\ ∃g,aq .i64 ab w' g r (bD n.sizes l)/\ ∀q,leads r q->w.heap.size<=q:=by
 refine aA func142 ?_;rw[aS ah.u W];refine bC.range l.length (λi out J=>Ext w J/\ ∃g,aq .i64 ab J g out (bD n.sizes (l.take i))/\ ∀q,leads out q->w.heap.size<=q) W.le ⟨Ext.refl _,0,aq.nil _ _ _ _,λr U=>by obtain⟨a,n,c,ak,aG⟩:=U;cases ak⟩ ?_ ?_
 .rintro i out J am hi ⟨I,g,hm,V⟩ an;obtain⟨x,X⟩:∃x,l[i]? =σ x:=⟨_,y0 hi⟩;rw[ao,ad];refine⟨λ_=>?_,λh=>Ω⟩;obtain⟨ap,aH,aJ,aK,aL,aM,L,aO,au,av,aP,aQ,aR,aT⟩:=(h.ext I).1.parts;rw[bc ah.u ab.i Ψ (W.ext I) X,aw,aa bz.p rfl,ac (v:=Γ ap) Ψ (au.cell (o:=0+0) rfl)];refine (rA (i:=x) av h.2.2.2.2).mono ?_;rintro _ aU _ ⟨Y,rfl⟩;rw[if_pos (ai x (x6 X))];refine dJ (k:=.i64) ah.u ab.i rfl λv4 aV aW aX ae ax=>?_;have aY:(bD n.sizes (l.take i)).length=i:=by unfold bD;rw[u5,o7];omega
  refine fz ah.u ab.i rfl ((hm.ext Y).ext ae) ax.ls Θ Θ λv5 ay az aB aC aD=>?_;have z3:=I.size;have aE:Ext w az:=((I.trans Y).trans ae).then aD λr U he=>by have:=V r he;omega
  have z4:=((I.trans Y).trans ae).size;rw[aN];refine an _ _ ⟨aE,ay,?_,λr U=>(aC r U).elim (V r) λh=>Ω⟩;rw[show bD n.sizes (l.take (i+1))=bD n.sizes (l.take i)++[n.sizes.getD x.toNat 0] by unfold bD;rw[r9,X,Z4];rfl];exact aB
 .rintro out J am ⟨I,g,hm,V⟩;rw[ao,ad];rw[o9] at hm;exact⟨λh=>Ω,λ_=>⟨I,g,hm,V⟩⟩
theorem Bx {s:aF} {i:Int}:fD s i s.funs.length=[]↔ ∀f∈s.funs,f.live≠0->i∉f.sc:=by
 unfold fD;rw[List.map_eq_nil_iff,List.filter_eq_nil_iff];constructor
 .intro h f J V hm;obtain⟨q,U⟩:=Y7.1 J;refine h q (List.mem_range.2 (x4.1 U).1) ?_;unfold ho;rw[U];simp only;rw[decide_eq_true V,decide_eq_true hm];rfl
 .intro h q U I;unfold ho at I;cases J:s.funs[q]? with
  |none=>rw[J] at I;cases I
  |some f=>
   rw[J] at I;simp only[U1,decide_eq_true_eq] at I;exact h f (x6 J) I.1 I.2
theorem Lj {bv:x1} {e:hM} (h:b9 w al ag A R n s t) (I:aI .i64 w ay e.sc) (a6:aI .i64 w bv e.ec) (bX:e.ec.length<=1000000) (bp:e.sc.length<=100000000):aj x3 Du [Γ al,.agg #[Δ e.v,ay,bv]] w λr w'=>(∃b,r= .bool b/\(b=true↔mF n s e))/\Ext w w':=by
 have a7:=h.2.2.2.1;have bY:=a7.vars;refine aA func144 ?_;refine bM λbq U bZ br a8=>?_;refine bM λbt aO b1 ba aQ=>?_;have am:=br.trans ba;have an:ae aO bq eW [Γ al]:=a8.ext ba;have W:ae aO bt b8 [Δ e.v,ay,bv]:=by
  obtain⟨_,_,_,bu⟩:=b0 I;obtain⟨_,_,_,bw⟩:=b0 a6;rw[bu,bw] at aQ ⊢;exact aQ
 have aR:=I.ext am;have aT:=a6.ext am;have ap:=h.ext am;clear aQ a8;refine aP (λr bb=>∃b,r= .bool b/\(b=false↔(0<=e.v/\e.v<n.sizes.length)/\fB s e.v.toNat=false/\(∀f∈s.funs,f.live≠0->e.v∉f.sc)/\jT n s e.sc/\e.v∉e.sc)/\Ext aO bb) ?_ ?_
 rotate_left
 .intro bx Y;rw[ac (o:=0) Ψ (an.cell (o:=0) rfl),aa b8.p rfl,ac (v:=Δ e.v) Ψ (W.cell (o:=0+0) rfl)];refine (py (i:=e.v) ap).mono ?_;rintro _ bd _ ⟨rfl,af⟩;rw[bg,bH];refine⟨λax=>Y _ _ ⟨true,rfl,⟨(λh=>by cases h),λaH=>?_⟩,af⟩,λaU=>?_⟩
  .rw[decide_eq_true aH.1] at ax;cases ax
  have az:0<=e.v/\e.v<n.sizes.length:=by simpa using aU
  rw[ac (o:=0) Ψ ((an.ext af).cell (o:=0) rfl),aa b8.p rfl,ac (v:=Δ e.v) Ψ ((W.ext af).cell (o:=0+0) rfl)];refine (rG (i:=e.v) (ap.ext af)).mono ?_;rintro _ aB _ ⟨rfl,ai⟩;have V:=af.trans ai;rw[decide_eq_true az.1,U7,bH];refine⟨λJ=>Y _ _ ⟨true,rfl,⟨(λh=>by cases h),λaH=>?_⟩,V⟩,λaV=>?_⟩
  .rw[J] at aH;cases aH.2.1
  rw[ac (o:=0) Ψ ((an.ext V).cell (o:=0) rfl),aa b8.p rfl,ac (v:=Δ e.v) Ψ ((W.ext V).cell (o:=0+0) rfl)];refine (Bq (i:=e.v) (ap.ext V)).mono ?_;rintro b2 aG _ ⟨aC,b3,bA,_⟩;have aq:=V.trans aC;rw[aS ah.u bA.ls,bP,ad];refine⟨λJ=>Y _ _ ⟨true,rfl,⟨(λh=>by cases h),λaH=>?_⟩,aq⟩,λJ=>?_⟩
  .rw[Bx.2 aH.2.2.1] at J;simp at J
  have bB:=Bx.1 (Z2 (l:=fD s e.v s.funs.length) Ω);rw[ac (o:=0) Ψ ((an.ext aq).cell (o:=0) rfl),aa b8.p rfl,ac (v:=ay) Ψ ((W.ext aq).cell (o:=0+1) rfl)];refine (Bf (ap.ext aq) (aR.ext aq)).mono ?_;rintro _ be _ ⟨⟨b,rfl,bf⟩,bC⟩;have aD:=aq.trans bC;rw[bg,bH];refine⟨λax=>Y _ _ ⟨true,rfl,⟨(λh=>by cases h),λaH=>?_⟩,aD⟩,λaU=>?_⟩
  .rw[bf.2 aH.2.2.2.1] at ax;cases ax
  have aE:=bf.1 (by simpa using aU);rw[aa b8.p rfl,ac (v:=ay) Ψ ((W.ext aD).cell (o:=0+1) rfl),aa b8.p rfl,ac (v:=Δ e.v) Ψ ((W.ext aD).cell (o:=0+0) rfl)];refine (uV (x:=e.v) (aR.ext aD)).mono ?_;rintro _ bE _ ⟨rfl,aF⟩;exact Y _ _ ⟨_,rfl,⟨λh=>⟨az,aV,bB,aE,of_decide_eq_false h⟩,λh=>decide_eq_false h.2.2.2.2⟩,aD.trans aF⟩
 rintro _ bb ⟨b,rfl,bh,au⟩;rw[bH];refine⟨λbj=>⟨⟨false,rfl,⟨(λh=>by cases h),λJ=>?_⟩⟩,am.trans au⟩,λbF=>?_⟩
 .rw[bh.2 ⟨J.has,J.there,J.nV,J.scope,J.out⟩] at bj;cases bj
 obtain⟨az,aV,nV,aE,bG⟩:=bh.1 bF;rw[ac (o:=0) Ψ ((an.ext au).cell (o:=0) rfl),aa b8.p rfl,ac (v:=ay) Ψ ((W.ext au).cell (o:=0+1) rfl)];refine (Bw (ap.ext au) (aR.ext au) (λx ak=>(rJ aE x ak).1) bp).mono ?_;rintro b4 bd _ ⟨af,b5,aJ,_⟩;obtain⟨L,av⟩:∃L,L=bD n.sizes e.sc:=⟨_,rfl⟩;rw[<-av] at aJ;have bk:=au.trans af;have b6:L.length=e.sc.length:=by rw[av];unfold bD;rw[u5]
 have aW:∀x∈L,1<=x/\x<=32:=λx ak=>by
  rw[av] at ak;unfold bD at ak;obtain⟨v,bI,rfl⟩:=Z5.1 ak;obtain⟨b7,h1⟩:=rJ aE v bI;obtain⟨z,aK⟩:∃z,n.sizes[v.toNat]? =σ z:=⟨_,y0 Ω⟩;rw[u4,aK];exact a7.e5.2.2 z (x6 aK)
 have bJ:∀q,0<=aL (L.take q):=λq=>by
  induction q with
  |zero=>simp[aL]
  |succ q aX=>
   cases aY:L[q]? with
   |none=>
    have:=List.getElem?_eq_none_iff.1 aY;rw[Z0 Ω];rw[Z0 Ω] at aX;exact aX
   |some x=>
    rw[jA aY];exact Int.mul_nonneg aX (by have:=(aW x (x6 aY)).1;omega)
 have bK:∀q,aL (L.take q)<=aL L:=λq=>by
  have:=Bu (l:=L.take q) (m:=L.drop q) (λx ak=>(aW x (List.mem_of_mem_drop ak)).1) (bJ q);rwa [List.take_append_drop] at this
 rw[aS ah.u aJ.ls];refine kX.range L.length (λi _ bL aB=>Ext bd aB/\ ∃m:Int,bL=Δ m/\m=aL (L.take i)/\0<=m/\m<=1000000) aJ.ls.le ⟨Ext.refl _,1,rfl,rfl,Ω,Ω⟩ ?_ ?_
 .rintro i t4 _ aB bN hi ⟨ai,m,rfl,hm,bl,bm⟩ bO;obtain⟨z,aZ⟩:∃z,L[i]? =σ z:=⟨_,y0 hi⟩;have bQ:=aW z (x6 aZ);have V:=bk.trans ai;have ca:0<=m*z/\m*z<=1000000*32:=⟨Int.mul_nonneg bl Ω,Int.mul_le_mul bm bQ.2 Ω Ω⟩;have bR:aL (L.take (i+1))=m*z:=by rw[jA aZ,hm]
  rw[ao,ad];refine⟨λ_=>?_,λh=>Ω⟩;rw[bc ah.u ab.i Ψ (aJ.ls.ext ai) aZ,fp,wrap_i64 Ω Ω,
   aa b8.p rfl,ac (v:=bv) Ψ ((W.ext V).cell (o:=0+2) rfl),aS ah.u (aT.ext V),bP,ad]
  refine⟨λcc=>⟨⟨false,rfl,⟨(λh=>by cases h),λJ=>?_⟩⟩,am.trans V⟩,λcd=>?_⟩
  .have h1:=J.count;rw[<-av] at h1;have:=bK (i+1);omega
  .rw[aN];exact bO _ _ _ ⟨ai,_,rfl,bR.symm,Ω,Ω⟩
 rintro t4 _ aB bN ⟨ai,m,rfl,hm,bl,bm⟩;rw[o9] at hm;have V:=bk.trans ai;have bn:=W.ext V;obtain⟨z,aK⟩:∃z,n.sizes[e.v.toNat]? =σ z:=⟨_,y0 Ω⟩;have a1:n.sizes.getD e.v.toNat 0=z:=by rw[u4,aK];rfl
 rw[ao,ad];refine⟨λh=>Ω,λ_=>?_⟩;rw[kj];refine aP (λr aG=>r= .bool (decide (m=e.ec.length/\ ∀b∈e.ec,-1<=b/\b<z))/\Ext aB aG) ?_ ?_
 .rintro _ aG ⟨rfl,aC⟩;refine⟨⟨_,rfl,⟨λaM=>?_,λJ=>?_⟩⟩,am.trans (V.trans aC)⟩
  .have aM:=of_decide_eq_true aM;exact⟨az,aV,aE,bG,nV,by rw[<-av,<-hm];exact aM.1.symm,λb X=>by rw[a1];exact aM.2 b X⟩
  .have h1:=J.count;rw[<-av,<-hm] at h1;exact decide_eq_true ⟨h1.symm,λb X=>by have:=J.ec b X;rwa [a1] at this⟩
 intro bx Y;rw[aa b8.p rfl,ac (v:=bv) Ψ (bn.cell (o:=0+2) rfl),aS ah.u (aT.ext V),bi,ad];refine⟨λhe=>?_,λbS=>Y _ _ ⟨by rw[decide_eq_false λh=>bS h.1],Ext.refl _⟩⟩;rw[aa b8.p rfl,ac (v:=bv) Ψ (bn.cell (o:=0+2) rfl)];refine (K8 (p:=λb=>decide (¬(-1<=b/\b<z))) (aT.ext V) λw' y bT ce=>?_).mono ?_
 .refine aA func195 ?_;refine aP (λr be=>r= .bool (decide (¬(-1<=y/\y<z)))/\Ext w' be) (λ_ _ h=>h) λcg bo=>?_;intro bE aF _ _;have a2:=V.trans (bT.trans aF);rw[ao,ad];refine⟨λch=>bo _ _ ⟨by rw[decide_eq_true Ω],aF⟩,λci=>?_⟩;obtain⟨bU,cj,ck,cl,cm,cn,cp,cq,X,bV,cr,ct,cu,cw⟩:=(ap.ext a2).1.parts;rw[ac (o:=0) Ψ ((an.ext a2).cell (o:=0) rfl),aw,aa bz.p rfl,ac (v:=Γ bU) Ψ (X.cell (o:=0+0) rfl),aa b8.p rfl,ac (v:=Δ e.v) Ψ ((W.ext a2).cell (o:=0+0) rfl)];refine (rA (i:=e.v) bV h.2.2.2.2).mono ?_;rintro _ cz _ ⟨bW,rfl⟩;rw[if_pos az.1,a1,cb];refine bo _ _ ⟨?_,aF.trans bW⟩;congr 1;exact decide_eq_decide.2 ⟨λh=>Ω,λh=>Ω⟩
 rintro _ aG _ ⟨rfl,aC⟩;rw[bg];refine Y _ _ ⟨?_,aC⟩;congr 1;rw[V8];simp only[Bool.not_eq_true',List.any_eq_false,decide_eq_true_eq,X2];exact⟨λaH=>⟨he,λb X=>aH b X⟩,λaH b X=>aH.2 b X⟩
end
theorem By {bv:x1} {v:Int} {sc ec:List Int} (I:aI .i64 w ay sc) (an:aI .i64 w bv ec) (h1:sc.length<=1000000) (aD:ec.length<=1000000):
  aj x3 Dq [.agg #[Δ v,ay,bv]] w λr w'=>Ext w w'/\ ∃ao ap au av,r= .agg #[Δ v,ao,ap]/\w.heap.size<=au/\w.heap.size<=av/\aq .i64 ab w' au ao sc/\aq .i64 ab w' av ap ec:=by
 refine aA func136 ?_;refine bM λge U aO aw ax=>?_;have aE:ae U ge b8 [Δ v,ay,bv]:=by
  obtain⟨_,_,_,af⟩:=b0 I;obtain⟨_,_,_,aF⟩:=b0 an;rw[af,aF] at ax ⊢;exact ax
 refine bt b8.i λag aP aQ az aB=>?_;intro aR ah _ _;have aC:=az.trans ah;have V:=aw.trans aC;have ai:=aE.ext aC;rw[aa b8.p rfl,ac (v:=Δ v) Ψ (ai.cell (o:=0+0) rfl),aa b8.p rfl,ac (v:=ay) Ψ (ai.cell (o:=0+1) rfl),aa b8.p rfl,ac (v:=bv) Ψ (ai.cell (o:=0+2) rfl)];refine (hA (I.ext V) h1).mono ?_;rintro ak aS _ ⟨J,aG,aT,W⟩;refine⟨.inl J,?_⟩;refine (hA ((an.ext V).ext J) aD).mono ?_;rintro al aU _ ⟨X,aH,aV,Y⟩;refine⟨.inl (J.trans X),?_⟩;have z3:=V.size;have z4:=J.size;have aJ:=W.ext X;rw[cR (cs:=#[Δ v,ak,al]) (by obtain⟨_,_,_,rfl⟩:=b0 W.ls;obtain⟨_,_,_,rfl⟩:=b0 Y.ls;kernel_rfl)];have aK:=((aB.ext ah).ext J).ext X;have aW:=az.size;have aX:=aB.lt;have aY:=ah.size;refine bJ (vs:=[Δ v,ak,al]) b8.i rfl rfl ?_ aK λaL am aZ aM=>?_
 .intro u hu;simp at hu;rcases hu with rfl|rfl|rfl
  .rfl
  .exact W.ls.cells.2
  .exact Y.ls.cells.2
 rw[eJ b8.p b8.i rfl aM.range];have a1:=aw.size;have aN:Ext w aL:=((V.trans J).trans X).then am λr ad he=>by have he:r=ag:=he;omega
 refine⟨aN,ak,al,aG,aH,rfl,Ω,Ω,bb aJ am λr ad he=>?_,bb Y am λr ad he=>?_⟩
 .have he:r=ag:=he;obtain⟨af,_⟩:=bA W ad;omega
 .have he:r=ag:=he;obtain⟨af,_⟩:=bA Y ad;omega
def iJ (s:aF) (e:hM):aF:=match s.vars[e.v.toNat]? with
 |some x=>{s with elims:=s.elims++[e],vars:=s.vars.set e.v.toNat {x with gone:=1}}
 |none=>s
section
variable {w:x2} {al ag:Nat} {A R:ai} {n:aV} {s:aF} {t:aC}
theorem Bz {bv:x1} {e:hM} (h:b9 w al ag A R n s t) (aG:t.olds.length+2<=100000000) (I:aI .i64 w ay e.sc) (aV:aI .i64 w bv e.ec) (bo:e.ec.length<=1000000) (b3:e.sc.length<=1000000) (da:s.elims.length<=1000000):
  aj x3 wp [Γ al,.agg #[Δ e.v,ay,bv]] w λr w'=>(¬mF n s e->r=Δ 1/\Ext w w')/\
   (mF n s e->r=Δ 0/\af (dd w) w w'/\ ∃bp R' x y p,Grow A w bp w'/\b9 w' al ag bp R' n (iJ s e) ((t.set 2 x).set p y)/\(∀r,R r->R' r)/\ ∀r,R' r->R r\/w.heap.size<=r):=by
 obtain⟨_,bq,br,ad,b4⟩:=id h;refine aA func58 ?_;refine bM λge U db aH bt=>?_;have aW:ae U ge b8 [Δ e.v,ay,bv]:=by
  obtain⟨_,_,_,b5⟩:=b0 I;obtain⟨_,_,_,b6⟩:=b0 aV;rw[b5,b6] at bt ⊢;exact bt
 rw[cA eW.u];simp only[j6,aQ];rw[bn b8.p b8.i rfl aW.range];refine (Lj (h.ext aH) (I.ext aH) (aV.ext aH) bo Ω).mono ?_;rintro _ de _ ⟨⟨b,rfl,bu⟩,aX⟩;have bw:=aH.trans aX;rw[bg,bH];refine⟨λaJ=>⟨λ_=>⟨by trivial,bw⟩,λca=>?_⟩,λcb=>?_⟩
 .rw[bu.2 ca] at aJ;cases aJ
 have aK:mF n s e:=bu.1 (by simpa using cb);intro df aY _ _;have av:=bw.trans aY;obtain⟨aZ,a1,a2,aL,bx⟩:=(h.ext av).1;obtain⟨_,_,_,_,_,dg,_,_,X,_⟩:=id bx;rw[aw,aa bz.p rfl,ac (v:=aL) Ψ (X.cell (o:=0+4) rfl),bn b8.p b8.i rfl ((aW.ext aX).ext aY).range];refine (By (I.ext av) (aV.ext av) b3 bo).mono ?_;rintro _ dh _ ⟨a6,a7,a8,dj,dk,rfl,dl,dm,bB,bC⟩;refine⟨.inl a6,?_⟩;let a:mp:=⟨e.v,a7,a8⟩;have cc:∀u∈h8 a,u.oneCell'=true:=by
  intro u hu;simp[h8] at hu;rcases hu with rfl|rfl|rfl
  .rfl
  .exact bB.ls.cells.2
  .exact bC.ls.cells.2
 refine fM (f:=h8) (a:=a) gq.u b8.i Ω rfl rfl λv5 dn an dp aM cd=>?_;have az:=a6.trans aM;refine⟨.inl az,?_⟩;have ce:=bx.ext az;obtain⟨⟨bD,bE,dq,bF⟩,cg,ch,dr,L,E,ci,w0,X,⟨cj,ck,bG⟩,⟨cl,bI,bJ,ak⟩,ba,⟨bc,cm⟩,ao,aN⟩:=id ce;have bK:E.length=s.elims.length:=aN.1;refine gd (f:=h8) (a:=a) gq.u b8.i rfl ao (by simpa using cd.sl) cc Ω Ω λaO cn ds aB cp bd=>?_;have bL:=X.V bd λhe=>b7 ao X Φ he;rw[aw,aa bz.p rfl];refine bj gq.i (cP aB.sl).1 (cP aB.sl).2 bL Ξ λam be dt bf=>?_;have bf:ae am al bz [Γ aZ,Γ ag,a1,a2,aO]:=bf;have W:af (λr=>leadsTo aL r\/r=al) an am:=(bd.mono λr _ h=>.inl h).trans (be.mono λr _ h=>.inr h);have cq:af (dd an) an am:=W.mono λr _ J=>by
  rcases J with J|rfl
  .obtain⟨_,c,aD⟩:=di ao J;exact .inl ⟨_,c,‹r=_› ▸aD,Φ⟩
  .exact .inl ⟨_,_,X,Φ⟩
 have z3:=av.size;have z4:=a6.size;have z5:=aM.size;have du:=W.size;have dv:=bd.size;have dw:=be.size;have aP:∀r,(leadsTo aL r\/r=al)->A r:=λr J=>J.elim (λJ=>(ak r (.inr (.inr J))).1) λJ=>J▸bD;have bh:∀r,(leadsTo aL r\/r=al)->¬R r:=λr J=>bE r (aP r J);obtain⟨bN,bi⟩:(∀r,R r->r<w.heap.size)/\ ∀r,A r->r<w.heap.size:=by obtain⟨_,_,_,_,⟨_,_,cr,ct⟩,_⟩:=h.1;exact⟨cr,ct⟩
 have bO:=(bB.ext aM);have bP:=(bC.ext aM);have ax:∀r,leads a7 r\/leads a8 r->w.heap.size<=r/\r<an.heap.size:=λr J=>by
  rcases J with J|J
  .obtain⟨h1,bQ⟩:=bA bO J;omega
  .obtain⟨h1,bQ⟩:=bA bP J;omega
 let aR:ai:=λr=>A r\/(an.heap.size<=r/\r<am.heap.size);let ap:ai:=λr=>R r\/leads a7 r\/leads a8 r;have bR:∀ {v:x1} {bT:Nat} {l:List Int},aq .i64 ab an bT v l->(∀r,leads v r->w.heap.size<=r)->aq .i64 ab am bT v l:=λhm cu=>bb hm W λr J I=>by
  have:=bi r (aP r I);have:=cu r J;omega
 have cw:dV am al ag aZ a1 a2 aO aR ap n {s with elims:=s.elims++[e]} t:=by
  refine⟨⟨.inl bD,λr J Y=>?_,λr J=>?_,λr J=>J.elim (λJ=>by have:=bF r J;omega) And.right⟩,cg,ch,cn,L,E++[a],ci,w0,bf,⟨cj,nM ck W λr o J aG I=>bh r I (bG r o J aG),λr o J aG=>.inl (bG r o J aG)⟩,⟨cl.V W λr J I=>?_,λr J=>.inl (bI r J),bJ,λr J=>?_⟩,?_,⟨bc.V W λr J I=>?_,?_⟩,aB.V be λr J he=>?_,?_⟩
  .rcases J with J|J
   .rcases Y with Y|Y
    .exact bE r J Y
    .have:=ax r Y;have:=bi r J;omega
   .rcases Y with Y|Y
    .have:=bN r Y;omega
    .have:=ax r Y;omega
  .rcases J with J|J
   .have:=bN r J;omega
   .have:=ax r J;omega
  .rcases I with I|rfl
   .exact (ak r (.inr (.inr I))).2 J
   .exact bJ J
  .rcases J with J|J|J
   .exact⟨.inl (ak r (.inl J)).1,(ak r (.inl J)).2⟩
   .exact⟨.inl (ak r (.inr (.inl J))).1,(ak r (.inr (.inl J))).2⟩
   .obtain⟨h1,bQ⟩:=aB.leads J;rcases cp r J with h|h
    .exact⟨.inl (ak r (.inr (.inr h))).1,(ak r (.inr (.inr h))).2⟩
    .refine⟨.inr ⟨h,Ω⟩,λcz=>?_⟩;have:=bF r (bI r cz);omega
  .exact bb ba W λr J I=>by
    rcases I with I|rfl
    .obtain⟨rfl,c,aD⟩:=di ao I;exact bU ba aD Φ J rfl
    .exact bU ba X Φ J rfl
  .rcases I with I|rfl
   .obtain⟨rfl,c,aD⟩:=di ao I;exact b7 bc aD Φ J
   .exact b7 bc X Φ J
  .exact (iC.V cm W λr _ J I=>bh r I J).mono λr J=>.inl J
  .have he:r=al:=he;subst he;exact b7 aB bL Φ J
  .refine⟨by rw[r8,bK];simp,λj x f aS au=>?_⟩;have au:(s.elims++[e])[j]? =σ f:=au;by_cases cB:j<s.elims.length
   .rw[j0 Ω] at aS;rw[j0 cB] at au;exact ((jN.V aN W λr _ J I=>bh r I J).mono (R':=ap) λr J=>.inl J).2 j x f aS au
   .have bV:j=s.elims.length:=by have:=(x4.1 au).1;simp at this;omega
    rw[Z1 Ω,bK,bV,W7] at aS;rw[Z1 Ω,bV,W7] at au;cases aS;cases au;exact⟨rfl,⟨⟨_,bR bO λr J=>(ax r (.inl J)).1⟩,λr J=>.inr (.inl J)⟩,⟨_,bR bP λr J=>(ax r (.inr J)).1⟩,λr J=>.inr (.inr J)⟩
 have cC:Grow A w aR am:=(Grow.ext (av.trans az)).trans ⟨W.mono λr _ J=>aP r J,λr J=>J.imp id And.left,λr J=>.inl J⟩;have cD:af (dd w) w am:=jO (av.trans az) cq;have cE:∀r,ap r->R r\/w.heap.size<=r:=λr J=>J.imp id λJ=>(ax r J).1;have cF:∀r,aR r->A r\/an.heap.size<=r:=λr J=>J.imp id And.left;have cG:∀r,R r->ap r:=λr J=>.inl J
 clear_value aR ap
 intro dx aT _ _;have bW:=cw.ext aT;obtain⟨_,_,_,_,_,cH,_,_,X,_,_,_,_,ao,aN⟩:=id bW;have cI:cH.length=s.elims.length+1:=by rw[aN.1];simp
 rw[aw,aa bz.p rfl,ac (v:=Γ ag) Ψ (X.cell (o:=0+1) rfl),aw,aa bz.p rfl,ac (v:=aO) Ψ (X.cell (o:=0+4) rfl),dc gq.u ao,cI];obtain⟨dy,cJ,cK⟩:=bW.lm;have cL:t.cells.length=s.cells.length:=by rw[<-bq];simp[aC.bS]
 have cM:2<t.cells.length:=by rw[cL,pn];omega
 refine (pk (i:=2) (y:=2) cJ rfl cM br).mono ?_;rintro _ bX _ ⟨rfl,cN,cO,cQ⟩;obtain⟨cR,A9,bY,cS⟩:=cK cN bX _ cO cQ;have cT:iA (t.set 2 ((s.elims.length+1:Nat):Int)):=br.set (.inr Ω) _ _;have cU:b9 bX al ag A9 ap n {s with elims:=s.elims++[e]} (t.set 2 ((s.elims.length+1:Nat):Int)):=
  ⟨⟨aZ,a1,a2,aO,cS⟩,by rw[aC.nf,bq];exact JK e,cT,⟨ad.jM,ad.e5,ad.zero,ad.vars,ad.var,ad.funs⟩,b4⟩
 intro cV aU _ _;have bk:=cU.ext aU;obtain⟨dz,cW,dA,ev',dC,dD,dE,dF,bZ,dG,dH,cX,dI,dJ⟩:=bk.1.parts;have dK:=ad.vars;obtain⟨x,aE⟩:∃x,s.vars[e.v.toNat]? =σ x:=⟨_,y0 (by have:=aK.has;omega)⟩;have cY:e.v=((e.v.toNat:Nat):Int):=by have:=aK.has;omega
 have cZ:=(x4.1 aE).1;have b1:=((aW.ext aX).ext aY).ext az;have dL:=b1.lt;have b2:¬A ge:=λc0=>by have:=bi ge c0;omega
 have c1:ae cV ge b8 [Δ e.v,ay,bv]:=(((b1.V W λI=>b2 (aP ge I)).ext aT).V bY.1 λI=>(cF ge I).elim b2 λh=>Ω).ext aU;rw[aw,aa bz.p rfl,ac (v:=Γ ag) Ψ (bZ.cell (o:=0+1) rfl),aw,aa bz.p rfl,ac (v:=cW) Ψ (bZ.cell (o:=0+2) rfl),aa b8.p rfl,ac (v:=Δ e.v) Ψ (c1.cell (o:=0+0) rfl),dZ (y:=e.v) (i:=e.v.toNat) cY ah.u ab.i Ψ cX.ls (pw cZ)];have bl:iJ s e={({s with elims:=s.elims++[e]}:aF) with vars:=s.vars.set e.v.toNat {x with gone:=1}}:=by
  unfold iJ;rw[aE]
 have dM:=px (s:=({s with elims:=s.elims++[e]}:aF)) (i:=e.v.toNat) (x:=x) aE;have bm:({s with elims:=s.elims++[e]}:aF).vars[e.v.toNat]? =σ x:=aE;obtain⟨dN,c2,c3⟩:=ad.var e.v.toNat x _ aE (y0 (show e.v.toNat<n.sizes.length by have:=aK.has;omega));have dO:=aC.ui t 2 ((s.elims.length+1:Nat):Int);refine (rH (p:=eT ({s with elims:=s.elims++[e]}:aF) e.v.toNat+0) (s':=iJ s e) bk (by rfl) Ω ?_ ?_ ?_ (.inr Ω)).mono ?_
 .rw[bl,ud bm Ω];rfl
 .rw[bl];exact pq bm rfl
 .rw[bl];exact eN.uG (s:=({s with elims:=s.elims++[e]}:aF)) bk.2.2.2.1 bm rfl c2 c3
 rintro _ c4 _ ⟨rfl,c5,c6,c7,c8⟩;have c9:af (dd w) w c4:=pt cD (jO aT (pt cR (jO aU c5)));exact⟨λaJ=>absurd aK aJ,λ_=>⟨rfl,c9,c6,ap,_,_,_,cC.trans ((Grow.ext aT).trans (bY.trans ((Grow.ext aU).trans c7))),c8,cG,cE⟩⟩
end
section
variable {w w':x2} {al ag am:Nat} {A R:ai} {A9:Nat->ai} {aO R9':ai} {n:aV} {s u u':aF} {t:aC} {h:List aC} {cs:List x1} {v:x1}
theorem bG.reads (p:bG w al ag am A R A9 aO n s u t h cs) (U:∀r,aO r->R9' r) (J:∀r,R9' r->aO r\/(¬dd w r/\r<w.heap.size/\r≠am/\ ∀q,¬A9 q r)):bG w al ag am A R A9 R9' n s u t h cs:=
 ⟨p.cc,p.gm,p.box,bd.mono p.doc U λq r h1 V=>(J r V).elim (λI=>by obtain⟨_,_,_,_,_,_,_,_,_,_,_,_,_,W⟩:=p.doc;exact (W rfl).2 q r h1 I) λI=>I.2.2.2 q h1,p.apart,λr X=>(J r X).elim (p.read r) λh=>⟨h.1,h.2.1,h.2.2.1⟩,p.out⟩
theorem Lk {ah:u9} {y:x1} {xs:List x1} {e:hM} {K:x2->Prop} (p:bG w al ag am A R A9 aO n s u t h cs) (ai:∀q r,A9 q r->r<w.heap.size) (V:cs[7]? =σ v) (I:bT w 3 y 1 xs) (aj:bf (λ_=>False) aO w xs (ji e)) (aB:u.elims.length<=1000)
  (ak:∀bK bl w',af (λr=>A9 4 r\/r=am) w w'->bG w' al ag am A R bK aO n s {u with elims:=u.elims++[e]} t h bl->(∀q r,bK q r->A9 q r\/w.heap.size<=r)->K w'):
  az x3 (l7 #[eX,eX] ah #[v,y]) w λab ac=>J x3 (x7 aE (Γ am) 7) ac λan=>az x3 (o4 eX an ab) ac λ_ W=>K W:=by
 obtain⟨au,aC,aD,aF,aG,X,ao,h1,aH,aI,aJ,aK,ap,Y⟩:=id p.doc;obtain⟨Y,ad⟩:=Y rfl;have X:v=X:=by rw[ao] at V;exact (Z6 V).symm
 subst X;have aL:=p.box.lt;have aq:∀r,aO r->r<w.heap.size:=λr h=>(p.read r h).2.1;refine kL (pl:=_) (l:=u.elims.map ji) aE.p rfl eX.u eX.i b6.i rfl p.box V ap I aj (λr U av=>⟨λh=>h,ad 4 r av⟩) ⟨λh=>(p.apart 4 am h).2.2 rfl,λh=>h,λh=>(p.read am h).2.2 rfl⟩ (by rw[u5];omega) (by rw[u5];omega) λab W aa aw ax=>?_;have ae:=bd.Bl p.doc (nU aa) (λr U=>?_) ax (λj r ay U=>?_) (λr U=>?_)
 .refine ak _ _ W aa (p.uR aa (λr U h=>h.imp (λh=>⟨4,h⟩) id) aw (u':={u with elims:=u.elims++[e]}) (by rw[<-List.map_singleton,<-Z4] at ae;exact ae) λq r U=>?_) λq r U=>?_
  .unfold dN at U;split at U
   .rcases U with U|U|U
    .exact .inl ⟨4,U⟩
    .exact U.elim
    .exact .inr U
   .exact .inl ⟨q,U⟩
  .unfold dN at U;split at U
   .rename_i aA;subst aA;rcases U with U|U|U
    .exact .inl U
    .exact U.elim
    .exact .inr U
   .exact .inl U
 .rcases U.1 with h|rfl
  .exact .inl h
  .exact .inr ⟨λj h=>(p.apart j r h).2.2 rfl,λh=>(p.read r h).2.2 rfl⟩
 .rcases U with U|U|U
  .exact Y 4 j r (T7 ay) U
  .exact U.elim
  .exact λh=>by have:=ai j r h;omega
 .rcases U with U|U|U
  .exact ad 4 r U
  .exact U.elim
  .exact λh=>by have:=aq r h;omega
theorem Ll {y:Int} {i:Nat} {K:Unit->x2->Prop} (p:bG w al ag am A R A9 aO n s u t h cs) (aw:∀q r,A9 q r->r<w.heap.size) (V:cs[4]? =σ v) (ac:y=(i:Int)) (ad:i<u.vars.length)
  (ae:u'.zero=u.zero) (ah:u'.vars.map c5=u.vars.map c5) (hu:u'.vars.map (·.un)=u.vars.map (·.un)) (ai:u'.funs=u.funs) (he:u'.elims=u.elims) (aj:(u'.vars.map λx=>decide (x.gone≠0))=(u.vars.map λx=>decide (x.gone≠0)).set i true)
  (ak:∀w',af (λr=>A9 1 r) w w'->bG w' al ag am A R A9 aO n s u' t h cs->K () w'):
  J x3 (n0 fl v (Δ y)) w λp=>az x3 (o4 eI p (.bool true)) w K:=by
 obtain⟨au,ax,an,ay,aA,aa,ao,h1,aB,ap,aC,aD,aE,W⟩:=id p.doc;obtain⟨W,ab⟩:=W rfl;have aa:v=an:=by rw[ao] at V;exact (Z6 V).symm
 subst aa;refine uM (α:=Bool) (a:=true) (A:=λ_=>False) rfl ac fl.u eI.i ap (by rw[u5];exact ad) rfl rfl (λr I h=>⟨λh=>h,ab 1 r h⟩) λw' X aq=>?_;have U:=bd.Bk p.doc (nU X) (λr I=>.inl I.1) aq (λj r Y I=>I.elim (λI=>W 1 j r (T7 Y) I) False.elim) (λr I=>I.elim (ab 1 r) False.elim);refine ak w' X (p.row (q:=1) X (λr _ h=>h) ?_ λq r h=>.inl ⟨q,h⟩);have U:=bd.nq V U;have av:dN A9 1 (λr=>A9 1 r\/False)=A9:=by
  funext j;unfold dN;split
  .rename_i Y;subst Y;funext r;exact or_false _
  .rfl
 rw[av] at U;unfold fj;rw[ae,ah,hu,ai,he,aj];exact U
end
def gU (n:aV) (l:List Int):List Int:=(l.filter λv:Int=>decide (0<=v/\v<n.sizes.length)).map λv:Int=>n.sizes.getD v.toNat 0
theorem rK {n:aV} {i:Nat} {x:Int} (h:l[i]? =σ x):gU n (l.take (i+1))=gU n (l.take i)++if 0<=x/\x<n.sizes.length then[n.sizes.getD x.toNat 0] else[]:=by
 unfold gU;rw[r9,h,List.filter_append,Z4];congr 1;by_cases I:0<=x/\x<(n.sizes.length:Int)
 .rw[if_pos I];simp[I]
 .rw[if_neg I];have:(List.filter (λv:Int=>decide (0<=v/\v<(n.sizes.length:Int))) (σ x).toList)=[]:=Θ
  rw[this];rfl
def jX (m:Nat):List Int:=(X9 m).map λi:Nat=>((i % 2:Nat):Int)-1
def jj (n:aV) (a:de):List Int:=if a.kN then jX (min (aL (gU n (a.sc.take 4))) 100).toNat else a.t.take 40
section
variable {U w:x2} {am aU ge B:Nat} {n:aV} {s:aF} {a:de} {aD ay ch:x1} {K:x2->Prop}
theorem Lm (a2:kM U am n.k n.sizes s) (br:∀z∈n.sizes,1<=z/\z<=32) (aF:dO U aU n.k a aD ay ch B) (a6:ae w ge b6 [Δ a.i,ay,aD]) (cD:U.heap.size<=ge) (cE:B<=U.heap.size) (an:Ext U w)
  (a7:∀w' bv,Ext U w'->ae w' ge b6 [Δ a.i,ay,bv]->(∃g,aq .i64 ab w' g bv (jj n a))->(∀r,leads bv r->B<=r)->K w'):
  J x3 (x7 aR (Γ aU) 8) w λbt=>
       J x3 (x5 eI bt) w λbu=>
       Split bu (J x3 (x7 b6 (Γ ge) 2) w λbw=>
       az x3 (o4 ah bw (.slice ν 0 0)) w λ(_:Unit) ap=>
       J x3 (x7 aR (Γ aU) 6) ap λbz=>
       J x3 (x5 ah bz) ap λa8=>
       J x3 (Y3 #[ah] ab #[a8]) ap λbA=>
       bC (Δ 1) (Δ 0) ap λn aG X bB=>
        J x3 (aB .lss ab false false aG bA) X λbD=>
        Split bD (bx (α:=x1->x2->Prop) (λ(bE:x1) (ba:x2)=>
         J x3 (aB .add ab false true aG (Δ 1)) ba λbF=>
         bB bE bF ba) λbd=>
        J x3 (n0 ah a8 aG) X λbG=>
        J x3 (x5 ab bG) X λbe=>
        J x3 (aX (Γ am)) X λbI=>
        J x3 (x5 aE bI) X λbJ=>
        aj x3 mT [bJ,be] X λbK Y=>
        Split bK (J x3 (aX (Γ am)) Y λbL=>
         J x3 (x7 aE bL 1) Y λbM=>
         J x3 (x5 ah bM) Y λbN=>
         J x3 (n0 ah bN be) Y λbO=>
         J x3 (x5 ab bO) Y λbP=>
         J x3 (aB .mul ab false false n bP) Y λbQ=>
         bd bQ Y)
         (bd n Y))
         (J x3 (l5.min_ #[ab,ab] ab #[n,(Δ 100)]) X λbR=>
       bZ (Δ 0) X λaH ag bS=>
        J x3 (aB .lss ab false false aH bR) ag λbT=>
        Split bT (J x3 (x7 b6 (Γ ge) 2) ag λbU=>
        J x3 (x5 ah bU) ag λbV=>
        J x3 (aB .rem ab false true aH (Δ 2)) ag λbW=>
        J x3 (aB .sub ab false true bW (Δ 1)) ag λbX=>
        az x3 (Z7 ah 1 #[(0,bX)]) ag λbY b0=>
        az x3 (l7 #[ah,ah] ah #[bV,bY]) b0 λb1 bf=>
        J x3 (x7 b6 (Γ ge) 2) bf λb2=>
        az x3 (o4 ah b2 b1) bf λ(_:Unit) bg=>
        J x3 (aB .add ab false true aH (Δ 1)) bg λb3=>
        bS b3 bg)
         (K ag)))
       (K w):=by
 rw[aa aR.p rfl,ac (v:=.bool a.kN) Ψ ((aF.ext an).cU.cell (o:=0+8) rfl),bH];obtain⟨_,⟨b4,b5⟩,⟨cF,aI⟩,cG,b7⟩:=id aF;refine⟨λb8=>?_,λb9=>a7 w aD an a6 ⟨b4,by unfold jj;rw[b9];exact b5.ext an⟩ λr I=>b7 r (.inl I)⟩;have aJ:jj n a=jX (min (aL (gU n (a.sc.take 4))) 100).toNat:=by unfold jj;rw[b8];rfl
 obtain⟨l,bh⟩:∃l,l=a.sc.take 4:=⟨_,rfl⟩;rw[<-bh] at aI aJ;have cH:l.length<=4:=by rw[bh,o7];omega
 rw[aa b6.p rfl];refine bj (o:=0+2) ah.i rfl rfl a6 Ξ λbi ca cI aK=>?_;have aK:ae bi ge b6 [Δ a.i,ay,.slice ν 0 0]:=aK;have aM:Ext U bi:=an.then ca λr I he=>by have he:r=ge:=he;omega
 rw[aa aR.p rfl,ac (v:=ay) Ψ ((aF.ext aM).cU.cell (o:=0+6) rfl),aS ah.u (aI.ls.ext aM)];refine bC.range l.length (λi av ax=>Ext U ax/\ae ax ge b6 [Δ a.i,ay,.slice ν 0 0]/\ ∃m:Int,av=Δ m/\m=aL (gU n (l.take i))/\0<=m/\m<=32 ^ i) Ω ⟨aM,aK,1,rfl,rfl,Ω,Ω⟩ ?_ ?_
 .rintro i _ ax cb hi ⟨ai,aA,m,rfl,hm,aO,bk⟩ cc;obtain⟨x,aQ⟩:∃x,l[i]? =σ x:=⟨_,y0 hi⟩;have cJ:(32:Int) ^ i<=32 ^ 3:=by
   have:=S4 (show 1<=32 by omega) (show i<=3 by omega);have cd:=Int.ofNat_le.2 this;simpa using cd
  rw[ao,ad];refine⟨λ_=>?_,λh=>Ω⟩;refine aP (λav W=>Ext U W/\ae W ge b6 [Δ a.i,ay,.slice ν 0 0]/\ ∃m:Int,av=Δ m/\m=aL (gU n (l.take (i+1)))/\0<=m/\m<=32 ^ (i+1)) ?_ ?_
  .rintro av W ce;rw[aN];exact cc _ _ ce
  intro cK bl;have cg:=a2.ext ai;rw[bc ah.u ab.i Ψ (aI.ls.ext ai) aQ,aw];refine cg.load λcL ci=>?_;refine (pF (i:=x) ci).mono ?_;rintro _ W _ ⟨rfl,af⟩;have aT:=ai.trans af;rw[ad];refine⟨λcj=>?_,λck=>bl _ _ ⟨aT,aA.ext af,m,rfl,?_,aO,?_⟩⟩
  .obtain⟨au,cM,cN,cO,cP,cQ,cl,cm,_⟩:=a2.ext aT;obtain⟨z,aV⟩:∃z,n.sizes[x.toNat]? =σ z:=⟨_,y0 Ω⟩;have cn:=br z (x6 aV);have bm:0<=m*z/\m*z<=32 ^ i*32:=⟨Int.mul_nonneg aO Ω,Int.mul_le_mul bk cn.2 Ω Ω⟩;rw[aw,aa aE.p rfl,ac (v:=au) Ψ (cl.cell (o:=0+1) rfl),dZ (y:=x) (i:=x.toNat) Ω ah.u ab.i Ψ cm aV,fp,wrap_i64 Ω Ω];refine bl _ _ ⟨aT,aA.ext af,_,rfl,?_,bm.1,bm.2⟩;rw[rK aQ,if_pos cj,qW,<-hm,u4,aV];rfl
  .rw[rK aQ,if_neg ck,V4];exact hm
  .rw[Int.pow_succ];have:(0:Int)<=32 ^ i:=Int.pow_nonneg Ω;omega
 rintro _ ax cb ⟨ai,aA,m,rfl,hm,aO,bk⟩;rw[o9] at hm;rw[ao,ad];refine⟨λh=>Ω,λ_=>?_⟩;rw[ik];obtain⟨q,bn⟩:∃q:Nat,min m 100=q:=⟨(min m 100).toNat,Ω⟩;have cR:q<=100:=Ω
 rw[bn];rw[<-hm,bn,j9] at aJ;refine bZ.range q (λi W=>Ext U W/\ ∃bv g,ae W ge b6 [Δ a.i,ay,bv]/\aq .i64 ab W g bv (jX i)/\ ∀r,leads bv r->U.heap.size<=r/\r≠ge) Ω ⟨ai,_,0,aA,aq.nil _ _ _ _,λr I=>by obtain⟨a,n,c,cp,cS⟩:=I;cases cp⟩ ?_ ?_
 .rintro i W cq hi ⟨af,bv,g,ak,aW,al⟩ cr;rw[ao,ad];refine⟨λ_=>?_,λh=>Ω⟩;rw[aa b6.p rfl,ac (v:=bv) Ψ (ak.cell (o:=0+2) rfl),kh Ω,Int.tmod_eq_emod_of_nonneg Ω,cX,wrap_i64 Ω Ω];refine dJ (k:=.i64) ah.u ab.i rfl λv5 cT cV cW aC ct=>?_;have cY:(jX i).length=i:=by unfold jX;simp
  refine fz ah.u ab.i rfl (aW.ext aC) ct.ls Θ Θ λaY cu cw aZ cz bo=>?_;have z4:=af.size;have z5:=aC.size;have cA:Ext U cw:=(af.trans aC).then bo λr I he=>by have:=(al r he).1;omega
  have cB:=(ak.ext aC).V bo λhe=>(al ge he).2 rfl;rw[aa b6.p rfl];refine bj (o:=0+2) ah.i aZ.ls.cells.1 aZ.ls.cells.2 cB Ξ λcC bp cZ a1=>?_;have a1:ae cC ge b6 [Δ a.i,ay,aY]:=a1;have c0:=ak.lt;have bq:∀r,leads aY r->U.heap.size<=r/\r≠ge:=λr I=>(cz r I).elim (al r) λh=>Ω
  rw[aN];refine cr _ ⟨cA.then bp λr I he=>by have he:r=ge:=he;omega,aY,cu,a1,?_,bq⟩;have e:jX (i+1)=jX i++[((i:Int) % 2)-1]:=by unfold jX;rw[List.range_succ,Z4];simp
  rw[e];exact bb aZ bp λr I he=>(bq r I).2 he
 .rintro W cq ⟨af,bv,g,ak,aW,al⟩;rw[ao,ad];refine⟨λh=>Ω,λ_=>a7 W bv af ak ⟨g,by rw[aJ];exact aW⟩ λr I=>by have:=(al r I).1;omega⟩
end
def ib (n:aV) (a:de):hM:=⟨a.i,a.sc.take 4,jj n a⟩
open Classical in
noncomputable def mG (n:aV) (s:aF) (a:de):aF:=if mF n s (ib n a) then iJ s (ib n a) else s
section
variable {w0 w:x2} {al ag am aU:Nat} {A R:ai} {A9:Nat->ai} {aO:ai} {n:aV} {s:aF} {t:aC} {h:List aC} {cs:List x1} {a:de} {aD ay ch:x1} {Q:x1->x2->Prop}
theorem Ln (p:bG w0 al ag am A R A9 aO n s s t h cs) (bV:t.olds.length+2<=100000000) (cn:s.elims.length<=1000) (bp:Ext w0 w) (bq:dO w aU n.k a aD ay ch w0.heap.size) (bW:∀w',iI w0 al ag am A R A9 aO n (mG n s a) t h w'->Q (.bool true) w'):
  J x3 (x7 aR (Γ aU) 1) w λcp=>
       J x3 (x5 ab cp) w λcq=>
       J x3 (x7 aR (Γ aU) 6) w λcr=>
       J x3 (x5 ah cr) w λct=>
       J x3 (x7 aR (Γ aU) 5) w λcu=>
       J x3 (x5 ah cu) w λcw=>
       J x3 (Instr.build b6 #[(0,cq),(1,ct),(2,cw)]) w λcz=>
       az x3 (S6 b6 true (.tuple #[])) w λe cA=>
       az x3 (o4 b6 e cz) cA λ(_:Unit) aG=>
       bx (α:=x2->Prop) (λ(aH:x2)=>
        bx (α:=x1->x2->Prop) (λ(cB:x1) (bX:x2)=>
         J x3 (x5 b6 e) bX λcC=>
         aj x3 wp [Γ al,cC] bX λcD bY=>
         J x3 (aB .eql eB false false cD cB) bY λcE=>
         Q cE bY) λb1=>
        cj aH λaW=>
        J x3 (aX (Γ am)) aW λcF=>
        J x3 (x5 aE cF) aW λcG=>
        J x3 (x5 b6 e) aW λcH=>
        aj x3 wz [cG,cH] aW λcI br=>
        J x3 (Op.unary .not cI) br λcJ=>
        Split cJ (b1 (Δ 1) br)
        (cj br λav=>
        J x3 (aX (Γ am)) av λbu=>
        J x3 (x7 aE bu 7) av λbw=>
        J x3 (x5 eX bw) av λb2=>
        J x3 (x5 b6 e) av λcK=>
        az x3 (Z7 eX 1 #[(0,cK)]) av λcL aJ=>
         (Ext av aJ\/bk x3 (x5 eX bw) b2 aJ/\bk x3 (x7 aE bu 7) bw aJ/\bk x3 (aX (Γ am)) bu aJ/\True)/\
        az x3 (l7 #[eX,eX] eX #[b2,cL]) aJ λcM bz=>
         J x3 (aX (Γ am)) bz λcN=>
         J x3 (x7 aE cN 7) bz λcO=>
         az x3 (o4 eX cO cM) bz λ(_:Unit) cP=>
          cj cP λao=>
        J x3 (aX (Γ am)) ao λcQ=>
        J x3 (x7 aE cQ 4) ao λcS=>
        J x3 (x5 fl cS) ao λcT=>
        J x3 (x7 aR (Γ aU) 1) ao λcV=>
        J x3 (x5 ab cV) ao λcW=>
        J x3 (n0 fl cT cW) ao λcX=>
        az x3 (o4 eI cX (.bool true)) ao λ(_:Unit) cY=>
         b1 (Δ 0) cY)) λb3=>
       J x3 (x7 aR (Γ aU) 8) aG λcZ=>
       J x3 (x5 eI cZ) aG λc0=>
       Split c0 (J x3 (x7 b6 e 2) aG λc1=>
       az x3 (o4 ah c1 (.slice ν 0 0)) aG λ(_:Unit) aY=>
       J x3 (x7 aR (Γ aU) 6) aY λc2=>
       J x3 (x5 ah c2) aY λb4=>
       J x3 (Y3 #[ah] ab #[b4]) aY λc3=>
       bC (Δ 1) (Δ 0) aY λn bB ai c4=>
        J x3 (aB .lss ab false false bB c3) ai λc5=>
        Split c5 (bx (α:=x1->x2->Prop) (λ(c6:x1) (b5:x2)=>
         J x3 (aB .add ab false true bB (Δ 1)) b5 λc7=>
         c4 c6 c7 b5) λb7=>
        J x3 (n0 ah b4 bB) ai λc8=>
        J x3 (x5 ab c8) ai λb8=>
        J x3 (aX (Γ am)) ai λc9=>
        J x3 (x5 aE c9) ai λda=>
        aj x3 mT [da,b8] ai λdb ak=>
        Split db (J x3 (aX (Γ am)) ak λdc=>
         J x3 (x7 aE dc 1) ak λdd=>
         J x3 (x5 ah dd) ak λde=>
         J x3 (n0 ah de b8) ak λdf=>
         J x3 (x5 ab df) ak λdg=>
         J x3 (aB .mul ab false false n dg) ak λdh=>
         b7 dh ak)
         (b7 n ak))
         (J x3 (l5.min_ #[ab,ab] ab #[n,(Δ 100)]) ai λdi=>
       bZ (Δ 0) ai λbD ap dj=>
        J x3 (aB .lss ab false false bD di) ap λdk=>
        Split dk (J x3 (x7 b6 e 2) ap λdl=>
        J x3 (x5 ah dl) ap λdm=>
        J x3 (aB .rem ab false true bD (Δ 2)) ap λdn=>
        J x3 (aB .sub ab false true dn (Δ 1)) ap λdp=>
        az x3 (Z7 ah 1 #[(0,dp)]) ap λdq dr=>
        az x3 (l7 #[ah,ah] ah #[dm,dq]) dr λds b9=>
        J x3 (x7 b6 e 2) b9 λdu=>
        az x3 (o4 ah du ds) b9 λ(_:Unit) ca=>
        J x3 (aB .add ab false true bD (Δ 1)) ca λdv=>
        dj dv ca)
         (b3 ap)))
       (b3 aG):=by
 have aZ:=p.cc.2.2.2.1;have eg:=p.box.lt;have z0:=bp.size;obtain⟨bE,⟨eh,cb⟩,⟨ei,bF⟩,ej,a1⟩:=id bq;rw[aa aR.p rfl,ac (v:=Δ a.i) Ψ (bE.cell (o:=0+1) rfl),aa aR.p rfl,ac (v:=ay) Ψ (bE.cell (o:=0+6) rfl),aa aR.p rfl,ac (v:=aD) Ψ (bE.cell (o:=0+5) rfl),
  cR (cs:=#[Δ a.i,ay,aD]) (by obtain⟨_,_,_,rfl⟩:=b0 bF.ls;obtain⟨_,_,_,rfl⟩:=b0 cb.ls;kernel_rfl)]
 refine bt b6.i λge U ek dw dx=>?_;refine bJ (vs:=[Δ a.i,ay,aD]) b6.i rfl rfl ?_ dx λdy dz em dA=>?_
 .intro u hu;simp at hu;rcases hu with rfl|rfl|rfl
  .rfl
  .exact bF.ls.cells.2
  .exact cb.ls.cells.2
 have dC:Ext w dy:=dw.then dz λr I he=>by have he:r=ge:=he;omega
 refine dt (λaH=>∃bv,Ext w aH/\ae aH ge b6 [Δ a.i,ay,bv]/\(∃g,aq .i64 ab aH g bv (jj n a))/\ ∀r,leads bv r->w0.heap.size<=r) ?_ ?_
 rotate_left
 .intro cd aK;exact Lm (p.ext bp).look aZ.e5.2.2 bq dA Ω Ω dC λw' bv h1 X bI dD=>aK _ ⟨bv,h1,X,bI,dD⟩
 rintro dE ⟨bv,bL,a2,⟨en,a6⟩,a7⟩;have aL:=bp.trans bL;have a8:=bF.ext bL;have ba:(jj n a).length<=1000000:=by
  unfold jj jX;split
  .rw[u5,List.length_range];omega
  .rw[o7];omega
 have ce:(a.sc.take 4).length<=1000000:=by rw[o7];omega
 have aM:∀ {cg:x2},ae cg ge b6 [Δ a.i,ay,bv]-> ∀ {K:x1->Prop},J x3 (x5 b6 (Γ ge)) cg K=K (.agg #[Δ a.i,ay,bv]):=λaN=>bn b6.p b6.i rfl aN.range;by_cases an:mF n s (ib n a)
 rotate_left
 .refine aP (λv Y=>v=Δ 1/\Ext dE Y) ?_ ?_
  .rintro _ Y ⟨rfl,W⟩;rw[aM (a2.ext W)];refine (Bz (e:=ib n a) (p.ext (aL.trans W)).cc bV (a8.ls.ext W) (a6.ls.ext W) ba ce Ω).mono ?_;rintro v bM _ ⟨h1,_⟩;obtain⟨rfl,aQ⟩:=h1 an;rw[bi];exact bW _ (by unfold mG;rw[if_neg an];exact jV p ((aL.trans W).trans aQ))
  .intro cd aK Y W _ _;rw[aw];refine (p.ext (aL.trans W)).look.load λdF bN=>?_;rw[aM (a2.ext W)];refine (Bv (e:=ib n a) bN aZ (a8.ls.ext W) (a6.ls.ext W) ba).mono ?_;rintro _ bM _ ⟨⟨b,rfl,aN⟩,aQ⟩;rw[bg,bH];exact⟨λ_=>aK _ _ ⟨rfl,W.trans aQ⟩,λdG=>absurd (aN.1 (by simpa using dG)) an⟩
 refine aP (λv Y=>v=Δ 0/\af (λr=>(∃q,A9 q r)\/r=am) w0 Y/\ae Y ge b6 [Δ a.i,ay,bv]/\aI .i64 Y ay (a.sc.take 4)/\aI .i64 Y bv (jj n a)/\ ∃bK R9' bl,bG Y al ag am A R bK R9' n s (iJ s (ib n a)) t h bl/\(∀q r,bK q r->(∃bO,A9 bO r)\/w0.heap.size<=r)/\(∀r,aO r->R9' r)/\ ∀r,R9' r->aO r\/w0.heap.size<=r) ?_ ?_
 .rintro _ Y ⟨rfl,bP,dH,dI,dJ,bK,R9',bl,bc,dK,dL,dM⟩;rw[aM dH];refine (Bz (e:=ib n a) bc.cc bV dI dJ ba ce Ω).mono ?_;rintro v bM _ ⟨_,X⟩;obtain⟨rfl,ci,dN,R',x,y,q,bQ,dP,eo,ck⟩:=X an;have z4:=bP.size;obtain⟨dQ,ep,er⟩:=pK (t:=t) (i:=2) (x:=x);obtain⟨f1,f2,f3⟩:=pK (t:=t.set 2 x) (i:=q) (x:=y);rw[bi];refine bW _ ?_;unfold mG;rw[if_pos an];exact⟨dN,R',_,R9',_,bl,bc.prog ci bQ dP bc.gm.set.set ck (λ_ _ _ h=>h) bc.box.lt,(bP.mono λr _ h=>.inr h).trans (bQ.1.mono λr _ h=>.inl h),λr I=>(bQ.2.1 r I).imp id λh=>Ω,λr I=>(ck r I).imp id λh=>Ω,dL,dM,λq r I=>dK q r I.1,f1.trans dQ,Ω,Ω,uT bP ci,(aC.nN _ _ _).trans (aC.nN _ _ _)⟩
 intro cd aK Y W _ _;rw[aw];have dR:=aL.trans W;refine (p.ext dR).look.load λdF bN=>?_;rw[aM (a2.ext W)];refine (Bv (e:=ib n a) bN aZ (a8.ls.ext W) (a6.ls.ext W) ba).mono ?_;rintro _ bM _ ⟨⟨b,rfl,aN⟩,aQ⟩;rw[aN.2 an,bg,bH];refine⟨λh=>by simp at h,λ_=>?_⟩;intro dS dT _ _;have aS:=(W.trans aQ).trans dT;have bR:=aL.trans aS;have bS:=a2.ext aS;have bd:=a8.ext aS;have bh:=a6.ext aS;have es:=bR.size;have bT:=(p.olds.ext bR).reads (R9':=λr=>aO r\/leads ay r\/leads bv r) (λr h=>.inl h) λr I=>by
  rcases I with I|I|I
  .exact .inl I
  .obtain⟨c,aT⟩:=mw bd r I;have:=a1 r (.inr I);exact .inr ⟨pC aT Φ,aT.lt,Ω,λq h=>by have:=h.2;omega⟩
  .obtain⟨c,aT⟩:=mw bh r I;have:=a7 r I;exact .inr ⟨pC aT Φ,aT.lt,Ω,λq h=>by have:=h.2;omega⟩
 obtain⟨dU,cl⟩:=bT.doc.at 7 Ω;rw[aw,aa aE.p rfl,ac (v:=dU) Ψ (bT.box.cell (o:=0+7) cl),aM bS];have own:bf (α:=ia) (λ_=>False) (λr=>aO r\/leads ay r\/leads bv r) dS [Δ a.i,ay,bv] (ji (ib n a)):=
  ⟨[Δ a.i],[ay,bv],λ_=>False,λ_=>False,rfl,λ_ h=>h,λ_ h=>h,λ_ _ h=>h.elim,rfl,[ay],[bv],λ_=>False,λ_=>False,rfl,λ_ h=>h,λ_ h=>h,λ_ _ h=>h.elim,kA bd λr h=>.inr (.inl h),kA bh λr h=>.inr (.inr h)⟩
 refine gK eX.u b6.i Φ rfl own λet eu ad _ dV=>?_;refine⟨.inl ad,?_⟩;have ev:=ad.size;simp only[aw];refine Lk (bT.ext ad) (λq r h=>by have:=h.2;omega) cl dV (be own ad) cn λbK bl dW ax dX aV=>?_;have bj:∀r,(A9 4 r/\r<w0.heap.size\/r=am)->r<w0.heap.size:=λr I=>I.elim (λh=>h.2) λh=>Ω
 have dY:=((bq.ext bL).ext (aS.trans ad)).V ax λr _ h=>bj r h;have dZ:=(bS.ext ad).V ax λh=>by have:=bj ge h;omega
 have ea:=bb (bd.ext ad) ax λr I h=>by have:=bj r h;have:=a1 r (.inr I);omega
 have eb:=bb (bh.ext ad) ax λr I h=>by have:=bj r h;have:=a7 r I;omega
 intro ew au _ _;have bU:=dX.olds.ext au;have ey:=ax.size;have z9:=au.size;obtain⟨ec,cm⟩:=bU.doc.at 4 Ω;have ez:=aZ.vars;obtain⟨x,bm⟩:∃x,s.vars[a.i.toNat]? =σ x:=⟨_,y0 (by have:0<=a.i/\a.i<n.sizes.length:=an.has;omega)⟩;have ed:a.i=((a.i.toNat:Nat):Int):=by have:0<=a.i/\a.i<n.sizes.length:=an.has;omega
 have aA:iJ s (ib n a)={({s with elims:=s.elims++[ib n a]}:aF) with vars:=s.vars.set a.i.toNat {x with gone:=1}}:=by
  unfold iJ;rw[show (ib n a).v=a.i from rfl,bm]
 rw[aa aE.p rfl,ac (v:=ec) Ψ (bU.box.cell (o:=0+4) cm),aa aR.p rfl,ac (v:=Δ a.i) Ψ ((dY.ext au).cU.cell (o:=0+1) rfl)];refine Ll (u':=iJ s (ib n a)) bU (λq r h=>by have:=h.2;omega) cm ed (by exact (x4.1 bm).1) (by rw[aA]) (by rw[aA];exact nT bm rfl) (by rw[aA];exact nT bm rfl) (by rw[aA]) (by rw[aA]) (by rw[aA];exact T0 ..) λeA bo ee=>?_;have ef:∀r,(bK 1 r/\r<dW.heap.size)->(∃bO,A9 bO r)\/w0.heap.size<=r:=λr I=>(aV 1 r I.1).elim (λh=>.inl ⟨1,h.1⟩) λh=>.inr Ω;refine aK _ _ ⟨rfl,gb ((((bR.trans ad).V _).trans (ax.mono λr _ h=>h.imp (λh=>⟨4,h.1⟩) id)).trans (au.V _)) bo λr I h=>(ef r h).elim .inl λX=>Ω,?_,?_,?_,_,_,bl,ee,λq r I=>(aV q r I.1).elim (λh=>.inl ⟨q,h.1⟩) λh=>.inr Ω,λr I=>.inl I,λr I=>?_⟩
 .exact (dZ.ext au).V bo λh=>by
   rcases aV 1 ge h.1 with X|X
   .have:=X.2;omega
   .have:=bS.lt;omega
 .exact (bb (ea.ext au) bo λr I h=>by
   rcases aV 1 r h.1 with X|X
   .have:=X.2;have:=a1 r (.inr I);omega
   .obtain⟨_,bI⟩:=bA bd I;omega).ls
 .exact (bb (eb.ext au) bo λr I h=>by
   rcases aV 1 r h.1 with X|X
   .have:=X.2;have:=a7 r I;omega
   .obtain⟨_,bI⟩:=bA bh I;omega).ls
 .rcases I with I|I|I
  .exact .inl I
  .exact .inr (a1 r (.inr I))
  .exact .inr (a7 r I)
end
theorem uX {n:aV} {s:aF} {sc U:List Int}:jW n s sc U↔2<=sc.length/\jT n s sc/\U=bD n.sizes sc:=by
 unfold jW bD;constructor
 .rintro⟨h1,X,V,W⟩;refine⟨h1,V,X6 λi=>?_⟩;rw[x8];by_cases hi:i<sc.length
  .obtain⟨v,J⟩:∃v,sc[i]? =σ v:=⟨_,y0 hi⟩;obtain⟨z,I⟩:∃z,U[i]? =σ z:=⟨_,y0 Ω⟩;rw[J,I,Y0,W i v z J I]
  .rw[Y4 Ω,Y4 Ω];rfl
 .rintro⟨h1,V,rfl⟩;refine⟨h1,by rw[u5],V,λi v z J I=>?_⟩;rw[x8,J,Y0] at I;exact Z6 I
theorem Lo {n:aV} {s:aF} (h:jT n s l):l.Pairwise (·< ·):=by
 have step:∀i x y,l[i]? =σ x->l[i+1]? =σ y->x<y:=λi x y J I=>by
  obtain⟨v,U,_,_,_,W⟩:=h (i+1) (x4.1 I).1;rw[I] at U;cases U;have:=W Ω;rwa [Nat.add_sub_cancel,u4,J] at this
 have all:∀d i x y,l[i]? =σ x->l[i+d+1]? =σ y->x<y:=λd=>by
  induction d with
  |zero=>exact step
  |succ d X=>
   intro i x y J I;obtain⟨z,V⟩:∃z,l[i+d+1]? =σ z:=⟨_,y0 (by have:=(x4.1 I).1;omega)⟩;exact Int.lt_trans (X i x z J V) (step _ z y V I)
 rw[V0];intro i j hi Y aa;exact all (j-i-1) i _ _ (y0 hi) (by rw[show i+(j-i-1)+1=j by omega];exact y0 Y)
section
variable {w:x2} {al ag:Nat} {A R:ai} {n:aV} {s:aF} {t:aC}
theorem Lp {ae:x1} {sc szs cs:List Int} {g an:Nat} (h:b9 w al ag A R n s t) (aa:aI .i64 w ay sc) (aG:∀r,leads ay r->¬A r) (Y:cM w g an ae szs n.k cs) (aH:¬A g/\¬A an/\ ∀r,leads ae r->¬A r) (aK:sc.length<=6) (aL:∀c∈cs,0<=c/\c<=n.k)
  (aM:t.cells.length+cs.length+1<=100000000) (bz:t.olds.length+cs.length+2<=100000000) (J:s.funs.length<=1000000):
  aj x3 sx [Γ al,ay,Γ g] w λr w'=>(¬jW n s sc szs->r= .tuple #[Δ 0,Δ 1]/\Ext w w')/\
   (jW n s sc szs->r= .tuple #[Δ (s.funs.length:Int),Δ 0]/\af (dd w) w w'/\ ∃ab R',Grow A w ab w'/\b9 w' al ag ab R' n (fS s sc szs cs) (kI s t cs)/\(∀r,R r->R' r)/\ ∀r,R' r->R r\/leads ae r\/w.heap.size<=r):=by
 obtain⟨_,X,ap,V,aN⟩:=id h;refine aA func54 ?_;rw[cA eW.u];simp only[j6,aQ];refine aP (λv U=>∃b,v= .bool b/\(b=false↔jW n s sc szs)/\Ext w U) ?_ ?_
 rotate_left
 .intro bA ai;rw[aS ah.u aa,ao,ad];refine⟨λbC=>ai _ _ ⟨true,rfl,⟨(λh=>by cases h),λh=>by have:=h.1;omega⟩,Ext.refl _⟩,λbD=>?_⟩;refine (Bf h aa).mono ?_;rintro _ U _ ⟨⟨b,rfl,aq⟩,I⟩;rw[bg,bH];refine⟨λac=>ai _ _ ⟨true,rfl,⟨(λh=>by cases h),λh=>by rw[aq.2 h.2.2.1] at ac;cases ac⟩,I⟩,λaO=>?_⟩;have W:=aq.1 (by simpa using aO);rw[cA eg.u];simp only[j6,aQ];refine (tq (Y.ext I)).mono ?_;rintro _ aR _ ⟨rfl,aT⟩;have au:=I.trans aT;refine (my (h.ext au)).mono ?_;rintro _ bE _ ⟨rfl,aU⟩;have av:=au.trans aU;rw[bB,ad];refine⟨λaV=>absurd rfl aV,λ_=>?_⟩;refine (me (Y.ext av)).mono ?_;rintro _ bF _ ⟨rfl,aW⟩;have aw:=av.trans aW;obtain⟨⟨aJ,gs,_,aX,_⟩,_,aY,_⟩:=id Y;refine (tr (aX.ls.ext aw) (by have:=aY.1;omega)).mono ?_;rintro v5 bG _ ⟨aZ,bI,bJ,a1⟩;have ak:=aw.trans aZ;refine (Bw (h.ext ak) (aa.ext ak) (λx a2=>(rJ W x a2).1) Ω).mono ?_;rintro bK bL _ ⟨ax,bM,a6,_⟩;refine (kr (a1.ls.ext ax) a6.ls).mono ?_;rintro _ bN _ ⟨rfl,a7⟩;rw[bg];exact ai _ _ ⟨_,rfl,⟨λh=>uX.2 ⟨Ω,W,by simpa using h⟩,λh=>by rw[decide_eq_true (uX.1 h).2.2];rfl⟩,(ak.trans ax).trans a7⟩
 rintro _ U ⟨b,rfl,az,I⟩;rw[bH];refine⟨λaB=>⟨λ_=>⟨by trivial,I⟩,λW=>by rw[az.2 W] at aB;cases aB⟩,λa8=>?_⟩;have W:=az.1 a8;obtain⟨ba,aD,am⟩:=uX.1 W;obtain⟨bb,bc,bO,bd,be⟩:=(h.ext I).1;refine (AC be X (aa.ext I) aG (Y.ext I) aH Ω aM Ω ap.2.2 J).mono ?_;rintro _ aR _ ⟨rfl,bf,ab,R',bh,bi,bj,bk,bl⟩;obtain⟨_,⟨_,_,bm⟩,bP,bn⟩:=id Y;have bo:=pr t (1::cs) (1::cs).length;have bp:=ps t (1::cs) (1::cs).length;have bq:=mq t (1::cs) (1::cs).length;simp only[j5] at bo bp;obtain⟨br,bt,aE⟩:=pK (t:=hn t (1::cs)) (i:=1) (x:=((s.funs.length+1:Nat):Int));have bu:iA (kI s t cs):=by
  refine⟨?_,?_,?_⟩
  .show (aC.set _ _ _).cells.length<=_;rw[bt];unfold hn;simp only[j5];omega
  .show (aC.set _ _ _).olds.length<=_;unfold hn at aE ⊢;simp only[j5] at aE ⊢;omega
  .show (aC.set _ _ _).marks.length<=_;rw[br];unfold hn;rw[bq];exact ap.2.2
 have aF:=rJ aD;have bw:eN n.k n.sizes (fS s sc szs cs):=by
  refine⟨V.jM,V.e5,V.zero,V.vars,V.var,λf J=>?_⟩;have J:f∈s.funs++[(⟨sc,szs,1,cs⟩:ev)]:=J;rcases n9.1 J with J|J
  .exact V.funs f J
  .obtain rfl:=l9.1 J;exact⟨⟨⟨λv X=>by have:=aF v X;have:=V.e5.2.1;omega,aK⟩,Lo aD,λv X=>(aF v X).2,by rw[<-am];exact bn,by rw[<-am];exact bm,aL⟩,am,ba⟩
 have bQ:=I.size;exact⟨λac=>absurd W ac,λ_=>⟨by trivial,jO I bf,ab,R',(Grow.ext I).trans bi,⟨⟨bb,bc,bh,bd,bj⟩,AB X,bu,bw,aN⟩,bk,λr bx=>(bl r bx).imp id λh=>h.imp id λh=>Ω⟩⟩
end
section
variable {w w':x2} {al ag am:Nat} {A R:ai} {A9:Nat->ai} {aO R9' B:ai} {n:aV} {s u u':aF} {t:aC} {h:List aC} {cs:List x1} {v:x1}
theorem Lq {ao:u9} {y:x1} {xs:List x1} {f:ev} {K:x2->Prop} (p:bG w al ag am A R A9 aO n s u t h cs) (ap:∀q r,A9 q r->r<w.heap.size) (W:cs[6]? =σ v) (I:bT w 4 y 1 xs) (aq:bf B aO w xs (ee f)) (V:∀r,B r->¬A r/\¬R r/\r≠am/\¬aO r/\ ∀q,¬A9 q r) (aH:u.funs.length<=1000)
  (av:∀bK bl w',af (λr=>A9 3 r\/r=am) w w'->bG w' al ag am A R bK aO n s {u with funs:=u.funs++[f]} t h bl->(∀q r,bK q r->A9 q r\/B r\/w.heap.size<=r)->K w'):
  az x3 (l7 #[b1,b1] ao #[v,y]) w λab ac=>J x3 (x7 aE (Γ am) 6) ac λaw=>az x3 (o4 b1 aw ab) ac λ_ X=>K X:=by
 obtain⟨au,aI,aJ,aK,ax,ad,ay,h1,ae,ah,aL,aA,aM,Y⟩:=id p.doc;obtain⟨Y,ai⟩:=Y rfl;have ad:v=ax:=by rw[ay] at W;exact (Z6 W).symm
 subst ad;have aN:=p.box.lt;have aB:∀r,aO r->r<w.heap.size:=λr h=>(p.read r h).2.1;have aj:=jU p.cc;refine kL (pl:=_) (l:=u.funs.map ee) aE.p rfl b1.u b1.i bW.i rfl p.box W aA I aq (λr U ak=>⟨λh=>(V r h).2.2.2.2 3 ak,ai 3 r ak⟩) ⟨λh=>(p.apart 3 am h).2.2 rfl,λh=>(V am h).2.2.1 rfl,λh=>(p.read am h).2.2 rfl⟩ (by rw[u5];omega) (by rw[u5];omega) λab X aa aC aD=>?_;have an:=bd.gn p.doc (nU aa) (λr U=>?_) aD (λj r aF U=>?_) (λr U=>?_)
 .refine av _ _ X aa (p.uQ aa (λr U h=>h.imp (λh=>⟨3,h⟩) id) aC (u':={u with funs:=u.funs++[f]}) (by rw[<-List.map_singleton,<-Z4] at an;exact an) λq r U=>?_) λq r U=>?_
  .unfold dN at U;split at U
   .rcases U with U|U|U
    .exact .inl ⟨3,U⟩
    .obtain⟨h1,ae,ah,_⟩:=V r U;exact .inr ⟨h1,ae,ah⟩
    .exact .inr ⟨λh=>by have:=aj r (.inl h);omega,λh=>by have:=aj r (.inr h);omega,Ω⟩
   .exact .inl ⟨q,U⟩
  .unfold dN at U;split at U
   .rename_i aG;subst aG;exact U
   .exact .inl U
 .rcases U.1 with h|rfl
  .exact .inl h
  .exact .inr ⟨λj h=>(p.apart j r h).2.2 rfl,λh=>(p.read r h).2.2 rfl⟩
 .rcases U with U|U|U
  .exact Y 3 j r (T7 aF) U
  .exact (V r U).2.2.2.2 j
  .exact λh=>by have:=ap j r h;omega
 .rcases U with U|U|U
  .exact ai 3 r U
  .exact (V r U).2.2.2.1
  .exact λh=>by have:=aB r h;omega
theorem Lr {szs:List Int} {k:Int} {i:Nat} (h:i<(aL szs).toNat):(hE szs k l)[i]? =σ (iZ k l[i]?):=by
 simp[hE,h]
theorem Ls {L co:List Int} {k:Int} {a1 av a2:Nat} {ag aJ:x1} {aG:List x1} (aH:aq .i64 ab w a1 ag L) (I:bR L) (bI:aL L<=600) (ai:right k) (aI:ae w av dA [ag,Δ k,aJ]) (aM:aq .i64 an w a2 aJ (hE L k co))
  (a6:ae w am aE aG) (a7:aG[0]? =σ (Δ k))
  (a8:∀w' g U aO,Ext w w'->cM w' g U aO L k (hE L k co)->w.heap.size<=g->w.heap.size<=U->(∀r,leads aO r->w.heap.size<=r)->K (Γ g) w'):
  J x3 (aX (Γ am)) w λba=>
        J x3 (x7 aE ba 0) w λbd=>
        J x3 (x5 an bd) w λbe=>
        aj x3 sA [ag,be,(Δ 0)] w λaP ay=>
        J x3 (Z8 aP 0) ay λaQ=>
        J x3 (Z8 aP 1) ay λbJ=>
        aj x3 sB [ag] ay λaR aS=>
        J x3 (Y3 #[cu] ab #[aR]) aS λbf=>
        bZ (Δ 0) aS λal W bg=>
         J x3 (aB .lss ab false false al bf) W λbh=>
         Split bh (J x3 (n0 cu aR al) W λbi=>
         J x3 (x5 ah bi) W λbj=>
         J x3 (x7 dA (Γ av) 2) W λbk=>
         J x3 (x5 ax bk) W λbl=>
         J x3 (n0 ax bl al) W λbm=>
         J x3 (x5 an bm) W λbn=>
         aj x3 sC [aQ,bj,bn] W λbK aT=>
         J x3 (aB .add ab false true al (Δ 1)) aT λbo=>
         bg bo aT)
         (K aQ W):=by
 have bL:=ai.1;have bM:=ai.2;rw[aw,aa aE.p rfl,ac (v:=Δ k) Ψ (a6.cell (o:=0+0) a7)];refine (qC aH.ls).mono ?_;rintro v aU _ ⟨az,_,_,_,bp⟩;obtain⟨g,U,sv,rfl,bq,br,bt,aA⟩:=bp I Ω ⟨ai,Ω,Ω⟩;rw[aK (v:=Γ g) rfl,aK (v:=Δ 0) rfl];refine (oE _ ((aH.ext az).ls) I).mono ?_;rintro db aV _ ⟨aW,ap⟩;rw[eK cu.u ap];have bN:=az.size;have ap:=ko ap;have bw:=h2 I.2;have bO:=prod_bound I;have bP:=aA.2.2.2;have bQ:U<aU.heap.size:=by obtain⟨⟨_,_,_,_,bx⟩,_⟩:=aA;exact nG bx Θ
 have aC:Ext w aV:=az.trans aW;have bS:=aI.lt;refine bZ.range (bu L).length (λi Y=>af (λr=>r=U) aV Y/\cM Y g U sv L k (upto (hE L k co) 0 i)) Ω
  ⟨af.refl _ _,by rw[nm,qY];exact aA.ext aW⟩ ?_ ?_
 .rintro i Y bz hi ⟨X,au⟩ bB;rw[ao,ad];refine⟨λ_=>?_,λh=>Ω⟩;have aY:(i:Int)<aL L:=Ω
  have bC:=ak.V ap X λr aF h he=>by
   have he:r=U:=he;rcases h with h|h
   .have:=h.1;have:aU.heap.size<=r:=this;omega
   .exact h
  refine k7 rfl rfl cu.u ah.i Ψ bC (oI I.2 aY) λaD bD=>?_;have bE:=(aI.ext aC).V X λh=>by have h:av=U:=h;omega
  have aZ:=Lr (szs:=L) (l:=co) (k:=k) (i:=i) Ω;have bF:=bb (aM.ext aC) X λr aF he=>by have he:r=U:=he;obtain⟨bT,bU⟩:=bA aM aF;omega
  rw[aa dA.p rfl,ac (v:=aJ) Ψ (bE.cell (o:=0+2) rfl),bc ax.u an.i Ψ bF.ls aZ];refine (xp (k:=k) au (dR bD)).mono ?_;rintro _ bV _ ⟨rfl,bG,bH⟩;rw[aN];refine bB _ ⟨X.trans bG,?_⟩;have e:nb L (cH L i) k (iZ k co[i]?) (upto (hE L k co) 0 i)=upto (hE L k co) 0 (i+1):=by
   unfold nb;rw[oH I.2 Ω aY];simp only;rw[if_pos ⟨ai,yD Ω _⟩,j9,np aZ]
  rw[<-e];exact bH
 .rintro Y bz ⟨X,au⟩;rw[ao,ad];refine⟨λh=>Ω,λ_=>?_⟩;rw[bw,<-qY L k co,nn] at au;exact a8 Y g U sv (aC.then X λr aF h=>by have h:r=U:=h;omega) au bq br bt
end
theorem Lt (I:∀v g w',g=w.heap.size->Ext w w'->aq .i64 ab w' g v []->K v w'):az x3 (Z7 ah 0 #[]) w K:=
 oz (l:=[]) ah.u ab.i Ω rfl Ψ I
def ic (n:aV) (a:de):List Int:=match gU n (a.sc.take 4) with
 |[]=>[]
 |z::r=>(if a.v.tmod 5=0 then 1+z.tmod 3 else z)::r
theorem uY {n:aV} (J:∀z∈n.sizes,1<=z/\z<=32) (l:List Int):(gU n l).length<=l.length/\ ∀z∈gU n l,1<=z/\z<=32:=by
 unfold gU;refine⟨by rw[u5];exact List.length_filter_le _ _,λz U=>?_⟩;obtain⟨v,V,rfl⟩:=Z5.1 U;have h:=(List.mem_filter.1 V).2;have h:=of_decide_eq_true h;obtain⟨y,I⟩:∃y,n.sizes[v.toNat]? =σ y:=⟨_,y0 Ω⟩;rw[u4,I];exact J y (x6 I)
theorem Lu {n:aV} {a:de} (U:∀z∈n.sizes,1<=z/\z<=32):bR (ic n a):=by
 obtain⟨h1,I⟩:=uY U (a.sc.take 4);rw[o7] at h1;unfold ic;split
 .exact⟨Ξ,Ξ⟩
 .rename_i z r e;rw[e] at h1 I;simp only[j5] at h1;refine⟨by simp only[j5];omega,λx J=>?_⟩;rcases U9.1 J with rfl|J
  .split
   .have:=I z (.head _);have:=Int.tmod_nonneg 3 (show 0<=z by omega);have:=Int.tmod_lt_of_pos z (show 0<(3:Int) by omega);omega
   .exact I z (.head _)
  .exact I x (.tail _ J)
section
variable {w:x2} {am aU B:Nat} {n:aV} {s:aF} {a:de} {aD ay ch:x1} {K:x1->x2->Prop}
theorem Lv (aO:kM w am n.k n.sizes s) (aQ:∀z∈n.sizes,1<=z/\z<=32) (be:dO w aU n.k a aD ay ch B)
  (bf:∀V X w',Ext w w'->aq .i64 ab w' X V (ic n a)->(∀r,leads V r->w.heap.size<=r)->K V w'):
  az x3 (Z7 ah 0 #[]) w λbg av=>
      J x3 (x7 aR (Γ aU) 6) av λbh=>
      J x3 (x5 ah bh) av λaT=>
      J x3 (Y3 #[ah] ab #[aT]) av λbj=>
      bC bg (Δ 0) av λsizes aC W k=>
       J x3 (aB .lss ab false false aC bj) W λbk=>
       Split bk (bx (α:=x1->x2->Prop) (λ(bl:x1) (aV:x2)=>
        J x3 (aB .add ab false true aC (Δ 1)) aV λbm=>
        k bl bm aV) λaW=>
       J x3 (n0 ah aT aC) W λbn=>
       J x3 (x5 ab bn) W λaY=>
       J x3 (aX (Γ am)) W λbo=>
       J x3 (x5 aE bo) W λbp=>
       aj x3 mT [bp,aY] W λbq af=>
       Split bq (J x3 (aX (Γ am)) af λbr=>
       J x3 (x7 aE br 1) af λbt=>
       J x3 (x5 ah bt) af λbu=>
       J x3 (n0 ah bu aY) af λbw=>
       J x3 (x5 ab bw) af λbz=>
       az x3 (Z7 ah 1 #[(0,bz)]) af λbB bD=>
       az x3 (l7 #[ah,ah] ah #[sizes,bB]) bD λbE bF=>
       aW bE bF)
       (aW sizes af))
       (bx (α:=x2->Prop) (λ(bG:x2)=>K sizes bG) λaZ=>
      bx (α:=x1->x2->Prop) (λ(bI:x1) (ag:x2)=>
       Split bI (J x3 (n0 ah sizes (Δ 0)) ag λbJ=>
       J x3 (x5 ab bJ) ag λbK=>
       J x3 (aB .rem ab false true bK (Δ 3)) ag λbL=>
       J x3 (aB .add ab true false (Δ 1) bL) ag λbM=>
       J x3 (n0 ah sizes (Δ 0)) ag λbN=>
       az x3 (o4 ab bN bM) ag λ(_:Unit) bO=>
       aZ bO)
       (aZ ag)) λa1=>
      J x3 (Y3 #[ah] ab #[sizes]) W λbQ=>
      J x3 (aB .gtr ab false true bQ (Δ 0)) W λbR=>
      Split bR (J x3 (x7 aR (Γ aU) 2) W λbS=>
      J x3 (x5 ab bS) W λbT=>
      J x3 (aB .rem ab false true bT (Δ 5)) W λbU=>
      J x3 (aB .eql ab false true bU (Δ 0)) W λbV=>
      a1 bV W)
      (a1 (.bool false) W)):=by
 obtain⟨a2,_,⟨cj,aF⟩,ck,cl⟩:=id be;refine Lt λcm bW U cn ax a6=>?_;obtain⟨l,aG⟩:∃l,l=a.sc.take 4:=⟨_,rfl⟩;rw[<-aG] at aF;have cp:l.length<=4:=by rw[aG,o7];omega
 have cq:=ax.size;rw[aa aR.p rfl,ac (v:=ay) Ψ ((a2.ext ax).cell (o:=0+6) rfl),aS ah.u (aF.ls.ext ax)];refine bC.range l.length (λi V al=>Ext w al/\ ∃X,aq .i64 ab al X V (gU n (l.take i))/\ ∀r,leads V r->w.heap.size<=r) Ω ⟨ax,bW,a6,λr an=>by obtain⟨h1,_⟩:=bA a6 an;omega⟩ ?_ ?_
 .rintro i V al bX hi ⟨ai,X,ae,ak⟩ bY;obtain⟨x,aH⟩:∃x,l[i]? =σ x:=⟨_,y0 hi⟩;rw[ao,ad];refine⟨λ_=>?_,λh=>Ω⟩;refine aP (λV Y=>Ext w Y/\ ∃X,aq .i64 ab Y X V (gU n (l.take (i+1)))/\ ∀r,leads V r->w.heap.size<=r) ?_ ?_
  .rintro V Y bZ;rw[aN];exact bY _ _ bZ
  intro b0 ap;rw[bc ah.u ab.i Ψ (aF.ls.ext ai) aH,aw];refine (aO.ext ai).load λcr b1=>?_;refine (pF (i:=x) b1).mono ?_;rintro _ Y _ ⟨rfl,aI⟩;have aA:=ai.trans aI;rw[ad];refine⟨λb2=>?_,λa7=>ap _ _ ⟨aA,X,by rw[rK aH,if_neg a7,V4];exact ae.ext aI,ak⟩⟩;obtain⟨au,ct,cu,cw,cz,cA,b3,b4,_⟩:=aO.ext aA;obtain⟨z,aJ⟩:∃z,n.sizes[x.toNat]? =σ z:=⟨_,y0 Ω⟩;rw[aw,aa aE.p rfl,ac (v:=au) Ψ (b3.cell (o:=0+1) rfl),dZ (y:=x) (i:=x.toNat) Ω ah.u ab.i Ψ b4 aJ];refine dJ (k:=.i64) ah.u ab.i rfl λv5 cB b5 cC aK aL=>?_;have cD:(gU n (l.take i)).length<=4:=by have:=(uY aQ (l.take i)).1;rw[o7] at this;omega
  refine fz ah.u ab.i rfl ((ae.ext aI).ext aK) aL.ls Θ Θ λcE b6 cF b7 b8 b9=>?_;have z4:=aA.size;have z5:=aK.size;refine ap _ _ ⟨(aA.trans aK).then b9 λr an he=>by have:=ak r he;omega,b6,?_,λr an=>(b8 r an).elim (ak r) λh=>Ω⟩;rw[rK aH,if_pos b2,u4,aJ];exact b7
 rintro V al bX ⟨ai,X,ae,ak⟩;rw[o9,aG] at ae;rw[ao,ad];refine⟨λh=>Ω,λ_=>?_⟩;have ca:=uY aQ (a.sc.take 4);refine dt (λY=>Ext w Y/\aq .i64 ab Y X V (ic n a)) (λY h=>bf V X Y h.1 h.2 ak) λb0 ap=>?_;refine aP (λv Y=>al=Y/\ ∃b,v= .bool b/\(b=true↔gU n (a.sc.take 4)≠[]/\a.v.tmod 5=0)) ?_ ?_
 .rintro _ Y ⟨rfl,b,rfl,a8⟩;rw[bH];refine⟨λcb=>?_,λba=>ap _ ⟨ai,?_⟩⟩
  .obtain⟨cc,aM⟩:=a8.1 cb;obtain⟨z,r,e⟩:=List.exists_cons_of_ne_nil cc;have I:ic n a=(1+z.tmod 3)::r:=by unfold ic;rw[e];simp only;rw[if_pos aM]
   rw[e] at ae;have aJ:=ca.2 z (by rw[e];exact .head _);have:=Int.tmod_nonneg 3 (show 0<=z by omega);have:=Int.tmod_lt_of_pos z (show 0<(3:Int) by omega);have cd:(0:Int)=((0:Nat):Int):=rfl;rw[dZ (y:=0) (i:=0) rfl ah.u ab.i Ψ ae.ls rfl,kh Ω,aN,wrap_i64 Ω Ω,cd,ha rfl ah.u ab.i ae Ξ];refine hb ab.i ae Ξ λb5 ce cG aL=>ap _ ⟨ai.then ce λr an he=>?_,?_⟩
   .obtain⟨_,⟨_,cg⟩|⟨cap,full,ci,_⟩⟩:=ae
    .simp at cg
    .have he:r=X:=he;have:=ak X ⟨_,_,_,ci,rfl⟩;omega
   .rw[I];exact aL
  .have I:ic n a=gU n (a.sc.take 4):=by
    unfold ic;split
    .rename_i e;exact e.symm
    .rename_i z r e;rw[if_neg,e];intro aM;rw[a8.2 ⟨by rw[e];simp,aM⟩] at ba;cases ba
   rw[I];exact ae
 .intro cH bb;rw[aS ah.u ae.ls,bP,ad];refine⟨λbd=>?_,λa7=>bb _ _ ⟨rfl,false,rfl,⟨(λh=>by cases h),λh=>?_⟩⟩⟩
  .rw[aa aR.p rfl,ac (v:=Δ a.v) Ψ ((a2.ext ai).cell (o:=0+2) rfl),kh Ω,bi];refine bb _ _ ⟨rfl,_,rfl,⟨λh=>⟨λe=>by rw[e] at bd;simp at bd,of_decide_eq_true h⟩,λh=>decide_eq_true h.2⟩⟩
  .exact absurd (List.length_pos_iff.2 h.1) Ω
end
section
variable {w0 w:x2} {al ag am aU:Nat} {A R:ai} {A9:Nat->ai} {aO:ai} {n:aV} {s:aF} {t:aC} {h:List aC} {cs:List x1} {a:de} {aD ay ch:x1} {Q:x1->x2->Prop}
theorem Lw {L C:List Int} {b8 aT aV g a6:Nat} {X aJ bu:x1} (p:bG w0 al ag am A R A9 aO n s s t h cs) (dC:t.cells.length+700<=100000000) (dD:t.olds.length+700<=100000000) (b9:s.funs.length<=1000) (aH:Ext w0 w) (bw:dO w aU n.k a aD ay ch w0.heap.size)
  (aI:aq .i64 ab w b8 X L) (a7:∀r,leads X r->w0.heap.size<=r) (ca:ae w aT dA [X,Δ n.k,aJ]) (cb:w0.heap.size<=aT) (ai:aq .i64 an w aV aJ C) (bz:w0.heap.size<=aV)
  (cd:cM w g a6 bu L n.k C) (bB:w0.heap.size<=g/\w0.heap.size<=a6) (aW:∀r,leads bu r->w0.heap.size<=r/\r≠aV) (ce:∀c∈C,0<=c/\c<=n.k) (dE:C.length<=600)
  (cg:¬jW n s (a.sc.take 4) L-> ∀w',Ext w0 w'->Q (.bool true) w') (ci:jW n s (a.sc.take 4) L-> ∀w',iI w0 al ag am A R A9 aO n (fS s (a.sc.take 4) L C) t h w'->Q (.bool true) w'):
  J x3 (x7 aR (Γ aU) 6) w λck=>
        J x3 (x5 ah ck) w λcl=>
        aj x3 sx [Γ al,cl,Γ g] w λbC a8=>
        J x3 (Z8 bC 0) a8 λbD=>
        J x3 (Z8 bC 1) a8 λbE=>
        cj a8 λaQ=>
        J x3 (aX (Γ am)) aQ λcm=>
        J x3 (x5 aE cm) aQ λcn=>
        J x3 (x7 aR (Γ aU) 6) aQ λcp=>
        J x3 (x5 ah cp) aQ λcq=>
        aj x3 sD [cn,cq,X] aQ λcr aL=>
        J x3 (Op.unary .not cr) aL λct=>
        Split ct (bx (α:=x1->x2->Prop) (λ(cu:x1) (cw:x2)=>
         Q cu cw) λbF=>
        J x3 (aB .eql eB false true bE (Δ 1)) aL λcz=>
        Split cz (J x3 (aB .eql ab false true bD (Δ 0)) aL λcA=>
        bF cA aL)
         (bF (.bool false) aL))
        (cj aL λak=>
        J x3 (aX (Γ am)) ak λba=>
        J x3 (x7 aE ba 6) ak λbc=>
        J x3 (x5 b1 bc) ak λbI=>
        J x3 (x7 aR (Γ aU) 6) ak λcB=>
        J x3 (x5 ah cB) ak λcC=>
        J x3 (x7 dA (Γ aT) 2) ak λcD=>
        J x3 (x5 ax cD) ak λcE=>
        J x3 (Instr.build aY #[(0,cC),(1,X),(2,cE)]) ak λcF=>
        J x3 (Instr.build bW #[(0,cF),(1,(.bool true))]) ak λcG=>
        az x3 (Z7 b1 1 #[(0,cG)]) ak λcH aS=>
        (Ext ak aS\/bk x3 (x5 b1 bc) bI aS/\bk x3 (x7 aE ba 6) bc aS/\bk x3 (aX (Γ am)) ba aS/\True)/\
        az x3 (l7 #[b1,b1] b1 #[bI,cH]) aS λcI bd=>
         J x3 (aX (Γ am)) bd λcJ=>
         J x3 (x7 aE cJ 6) bd λcK=>
         az x3 (o4 b1 cK cI) bd λ(_:Unit) ap=>
         bx (α:=x1->x2->Prop) (λ(cL:x1) (cN:x2)=>
         Q cL cN) λbJ=>
        J x3 (aB .eql eB false true bE (Δ 0)) ap λcO=>
        Split cO (J x3 (aX (Γ am)) ap λcP=>
        J x3 (x7 aE cP 6) ap λcQ=>
        J x3 (x5 b1 cQ) ap λcS=>
        J x3 (Y3 #[b1] ab #[cS]) ap λcT=>
        J x3 (aB .sub ab false true cT (Δ 1)) ap λcV=>
        J x3 (aB .eql ab false false bD cV) ap λcW=>
        bJ cW ap)
        (bJ (.bool false) ap)):=by
 have bL:=p.cc.2.2.2.1;have cY:=p.box.lt;have z0:=aH.size;have bh:=jU p.cc;obtain⟨bM,_,⟨dF,aG⟩,dG,aZ⟩:=id bw;have av:∀r,w0.heap.size<=r->¬A r:=λr h bj=>by have:=bh r (.inl bj);omega
 have dH:(a.sc.take 4).length<=4:=by rw[o7];omega
 rw[aa aR.p rfl,ac (v:=ay) Ψ (bM.cell (o:=0+6) rfl)];have dP:=p.ext aH;refine (Lp (sc:=a.sc.take 4) dP.cc aG.ls (λr I=>av r (aZ r (.inr I))) cd ⟨av g bB.1,av a6 bB.2,λr I=>av r (aW r I).1⟩ Ω ce Ω Ω Ω).mono ?_;rintro v U _ ⟨cZ,c0⟩;by_cases aM:jW n s (a.sc.take 4) L
 rotate_left
 .obtain⟨rfl,a1⟩:=cZ aM;rw[aK (v:=Δ 0) rfl,aK (v:=Δ 1) rfl];intro c1 Y _ _;have bN:=(aH.trans a1).trans Y;rw[aw];refine (p.ext bN).look.load λc2 bm=>?_;rw[aa aR.p rfl,ac (v:=ay) Ψ ((bM.ext (a1.trans Y)).cell (o:=0+6) rfl)];refine (Bt bm bL (aG.ls.ext (a1.trans Y)) (aI.ls.ext (a1.trans Y))).mono ?_;rintro _ bO _ ⟨⟨b,rfl,bn⟩,bo⟩;rw[bg,bH];refine⟨λ_=>?_,λc3=>absurd (bn.1 (by simpa using c3)) aM⟩;refine aP (λv a2=>v= .bool true/\bO=a2) ?_ λc4 bp=>?_
  .rintro _ a2 ⟨rfl,rfl⟩;exact cg aM _ (bN.trans bo)
  .rw[bi,ad];refine⟨λ_=>?_,λh=>absurd rfl h⟩;rw[bi];exact bp _ _ ⟨rfl,rfl⟩
 obtain⟨rfl,bP,bQ,R',ao,c5,dI,bq⟩:=c0 aM;rw[aK (v:=Δ (s.funs.length:Int)) rfl,aK (v:=Δ 0) rfl];have dJ:=ao.1.size;have dK:=λr (I:leads X r)=>(bA aI I);have c6:∀r,w0.heap.size<=r->r<w.heap.size->¬bQ r:=λr h1 W bj=>(ao.2.1 r bj).elim (av r h1) λh=>Ω
 have c7:=(p.olds.ext aH).prog (B:=w0.heap.size) bP ao c5 ((dp.eU p.gm (1::C) _).set) (λr I=>(bq r I).imp id λh=>h.elim (λh=>(aW r h).1) λh=>Ω) (λq r h _=>h.2) cY;intro c1 Y _ _;have bR:=c7.ext Y;have bS:=(bw.V ao.1 λr _ h=>bh r (.inl h)).ext Y;have bT:=(bb aG ao.1 λr I=>av r (aZ r (.inr I))).ext Y;have bU:=(bb aI ao.1 λr I=>av r (a7 r I)).ext Y;have c8:=(bb ai ao.1 λr I=>by obtain⟨e,_⟩:=bA ai I;rw[e];exact av _ bz).ext Y;have c9:=(ca.V ao.1 (av aT cb)).ext Y;rw[aw];refine bR.look.load λc2 bm=>?_;rw[aa aR.p rfl,ac (v:=ay) Ψ (bS.cU.cell (o:=0+6) rfl)];refine (Bt bm bL bT.ls bU.ls).mono ?_;rintro _ bO _ ⟨⟨b,rfl,bn⟩,bo⟩;rw[bn.2 aM,bg,bH];refine⟨λh=>by simp at h,λ_=>?_⟩;intro a2 da _ _;have aA:=bo.trans da;have dL:=Y.size;have z4:=aA.size;have bV:=bT.ext aA;have bX:=bU.ext aA;have db:=c8.ext aA;have dc:=c9.ext aA;have de:=bS.ext aA;have df:∀r,leads ay r->w0.heap.size<=r/\r<w.heap.size:=λr I=>⟨aZ r (.inr I),by obtain⟨e,h⟩:=bA aG I;omega⟩;have br:=(bR.ext aA).reads (R9':=λr=>aO r\/leads ay r\/leads X r) (λr h=>.inl h) λr I=>by
  rcases I with I|I|I
  .exact .inl I
  .obtain⟨c,ai⟩:=mw bV r I;have:=df r I;exact .inr ⟨pC ai Φ,ai.lt,Ω,λq h=>by have:=h.1.2;omega⟩
  .obtain⟨c,ai⟩:=mw bX r I;have:=a7 r I;exact .inr ⟨pC ai Φ,ai.lt,Ω,λq h=>by have:=h.1.2;omega⟩
 obtain⟨dg,bY⟩:=br.doc.at 6 Ω;simp only[aw];rw[aa aE.p rfl,ac (v:=dg) Ψ (br.box.cell (o:=0+6) bY),aa aR.p rfl,ac (v:=ay) Ψ (de.cU.cell (o:=0+6) rfl),aa dA.p rfl,ac (v:=aJ) Ψ (dc.cell (o:=0+2) rfl),
  cR (cs:=#[ay,X,aJ]) (by obtain⟨_,_,_,rfl⟩:=b0 aG.ls;obtain⟨_,_,_,rfl⟩:=b0 aI.ls;obtain⟨_,_,_,rfl⟩:=b0 ai.ls;kernel_rfl),
  cR (cs:=#[ay,X,aJ,.bool true]) (by obtain⟨_,_,_,rfl⟩:=b0 aG.ls;obtain⟨_,_,_,rfl⟩:=b0 aI.ls;obtain⟨_,_,_,rfl⟩:=b0 ai.ls;kernel_rfl)]
 let f:ev:=⟨a.sc.take 4,L,1,C⟩;have own:bf (α:=fC) (λr=>leads aJ r) (λr=>aO r\/leads ay r\/leads X r) a2 [ay,X,aJ,.bool true] (ee f):=
  ⟨[ay,X,aJ],[.bool true],λr=>leads aJ r,λ_=>False,rfl,λ_ h=>h,λ_ h=>h.elim,λ_ _ _ h=>h,⟨[ay],[X,aJ],λ_=>False,λr=>leads aJ r,rfl,λ_ h=>h.elim,λ_ h=>h,λ_ _ h=>h.elim,kA bV λr h=>.inr (.inl h),[X],[aJ],λ_=>False,λr=>leads aJ r,rfl,λ_ h=>h.elim,λ_ h=>h,λ_ _ h=>h.elim,kA bX λr h=>.inr (.inr h),lr db⟩,rfl⟩
 refine gK b1.u bW.i Φ rfl own λdM bZ aN _ dh=>?_;refine⟨.inl aN,?_⟩;have z5:=aN.size;have b2:∀r,leads aJ r->r=aV/\r<w.heap.size:=λr I=>by obtain⟨e,h⟩:=bA ai I;omega
 have b3:∀ {v:x1} {di:Nat} {l:List Int},aq .i64 ab w di v l-> ∀r,leads v r->¬leads aJ r:=λhm r h1 W=>by
  obtain⟨dN,dj⟩:=mw hm r h1;obtain⟨dQ,dk⟩:=mw ai r W;exact absurd (eu dj dk) Φ
 refine Lq (br.ext aN) (λq r h=>by have:=h.1.2;omega) bY dh (be own aN) (λr I=>?_) b9 λbK bl dl b4 bt dm=>?_
 .obtain⟨rfl,dn⟩:=b2 r I;refine⟨c6 r bz dn,λW=>?_,Ω,λW=>?_,λq W=>by have:=W.1.2;omega⟩
  .rcases bq r W with W|W|W
   .have:=bh r (.inr W);omega
   .exact (aW r W).2 rfl
   .omega
  .rcases W with W|W|W
   .have:=(p.read r W).2.1;omega
   .exact b3 aG r W I
   .exact b3 aI r W I
 refine aP (λv b5=>v= .bool true/\dl=b5) ?_ λc4 bp=>?_
 .rintro _ b5 ⟨rfl,rfl⟩;have dq:=pr t (1::C) (1::C).length;have dr:=ps t (1::C) (1::C).length;have ds:=mq t (1::C) (1::C).length;simp only[j5] at dq dr;obtain⟨dt,du,b6⟩:=pK (t:=hn t (1::C)) (i:=1) (x:=((s.funs.length+1:Nat):Int));have dv:af (λr=>A r\/(∃q,A9 q r)\/r=am) w0 bZ:=(((aH.V _).trans (ao.1.mono λr _ h=>.inl h)).trans (Y.V _)).trans ((aA.trans aN).V _);have dw:af (λr=>dd w0 r\/(∃q,A9 q r)\/r=am) w0 bZ:=((uT (aH.V _) bP).trans (Y.V _)).trans ((aA.trans aN).V _);refine ci aM _ ⟨bQ,R',bK,_,_,bl,bt,dv.trans (b4.mono λr _ h=>.inr (h.imp (λh=>⟨3,h.1.1⟩) id)),λr I=>(ao.2.1 r I).imp id λh=>Ω,λr I=>(bq r I).imp id λh=>h.elim (λh=>(aW r h).1) λh=>Ω,λr I=>.inl I,λr I=>?_,λq r I=>?_,?_,?_,?_,dw.trans (b4.mono λr _ h=>.inr (h.imp (λh=>⟨3,h.1.1⟩) id)),(aC.nN _ _ _).trans (uk t (1::C) _)⟩
  .rcases I with I|I|I
   .exact .inl I
   .exact .inr (aZ r (.inr I))
   .exact .inr (a7 r I)
  .rcases dm q r I with W|W|W
   .exact .inl ⟨q,W.1.1⟩
   .have:=b2 r W;exact .inr Ω
   .exact .inr Ω
  .exact dt.trans ds
  .show (aC.set _ _ _).cells.length<=_;rw[du];unfold hn;simp only[j5];omega
  .show (aC.set _ _ _).olds.length<=_;unfold hn at b6 ⊢;simp only[j5] at b6 ⊢;omega
 .rw[bi,ad];refine⟨λ_=>?_,λh=>absurd rfl h⟩;obtain⟨au,dR,dS,dT,dx,dU,dy,_,_,_,_,dz,_⟩:=id bt.doc;have b7:=bt.box;rw[dy] at b7;rw[aa aE.p rfl,ac (v:=dx) Ψ (b7.cell (o:=0+6) rfl),eK b1.u dz,cX];have e:(List.map ee ({s with funs:=s.funs++[f]}:aF).funs).length=s.funs.length+1:=Ξ
  rw[e,wrap_i64 Ω Ω,bi];refine bp _ _ ⟨?_,rfl⟩;congr 1;exact decide_eq_true Ω
end
end Go.Proofs.YtgbkinibgjmodaaGreatDoor
namespace Go.Proofs.YtgbkinibgjmodaaGreatDoor
open Go Go.Vc Go.RowKit Go.Proofs Go.Proofs.Tryz
set_option maxRecDepth 100000
open Classical in
noncomputable def lv (n:aV) (s:aF) (a:de):aF:=if aL (ic n a)<=600/\jW n s (a.sc.take 4) (ic n a) then fS s (a.sc.take 4) (ic n a) (hE (ic n a) n.k a.co) else s
section
variable {w0 w:x2} {al ag am aU:Nat} {A R:ai} {A9:Nat->ai} {aO:ai} {n:aV} {s:aF} {t:aC} {h:List aC} {cs:List x1} {a:de} {aD ay ch:x1} {Q:x1->x2->Prop}
theorem Lx (p:bG w0 al ag am A R A9 aO n s s t h cs) (cn:t.cells.length+700<=100000000) (cp:t.olds.length+700<=100000000) (cq:s.funs.length<=1000) (bK:a.ok) (bf:Ext w0 w) (bg:dO w aU n.k a aD ay ch w0.heap.size) (cr:aI .u16 w ch a.co) (bh:∀w',iI w0 al ag am A R A9 aO n (lv n s a) t h w'->Q (.bool true) w'):
     az x3 (Z7 ah 0 #[]) w λct a1=>
      J x3 (x7 aR (Γ aU) 6) a1 λcw=>
      J x3 (x5 ah cw) a1 λbL=>
      J x3 (Y3 #[ah] ab #[bL]) a1 λcz=>
      bC ct (Δ 0) a1 λsizes bi V k=>
       J x3 (aB .lss ab false false bi cz) V λcA=>
       Split cA (bx (α:=x1->x2->Prop) (λ(cB:x1) (bM:x2)=>
        J x3 (aB .add ab false true bi (Δ 1)) bM λcC=>
        k cB cC bM) λbN=>
       J x3 (n0 ah bL bi) V λcD=>
       J x3 (x5 ab cD) V λbO=>
       J x3 (aX (Γ am)) V λcE=>
       J x3 (x5 aE cE) V λcF=>
       aj x3 mT [cF,bO] V λcG av=>
       Split cG (J x3 (aX (Γ am)) av λcH=>
       J x3 (x7 aE cH 1) av λcI=>
       J x3 (x5 ah cI) av λcJ=>
       J x3 (n0 ah cJ bO) av λcK=>
       J x3 (x5 ab cK) av λcL=>
       az x3 (Z7 ah 1 #[(0,cL)]) av λcM cN=>
       az x3 (l7 #[ah,ah] ah #[sizes,cM]) cN λcO cP=>
       bN cO cP)
       (bN sizes av))
       (bx (α:=x2->Prop) (λ(cQ:x2)=>
       aj x3 wy [sizes] cQ λcR bj=>
       J x3 (aB .gtr ab false true cR (Δ 600)) bj λcS=>
       Split cS (Q (.bool true) bj)
       (bx (α:=x1->x2->Prop) (λ(y:x1) (a2:x2)=>
        J x3 (aX (Γ am)) a2 λcT=>
        J x3 (x7 aE cT 0) a2 λcV=>
        J x3 (x5 an cV) a2 λcW=>
        aj x3 sA [sizes,cW,(Δ 0)] a2 λbQ bl=>
        J x3 (Z8 bQ 0) bl λbR=>
        J x3 (Z8 bQ 1) bl λes=>
        aj x3 sB [sizes] bl λbS bT=>
        J x3 (Y3 #[cu] ab #[bS]) bT λcX=>
        bZ (Δ 0) bT λa6 Y cY=>
         J x3 (aB .lss ab false false a6 cX) Y λcZ=>
         Split cZ (J x3 (n0 cu bS a6) Y λc0=>
         J x3 (x5 ah c0) Y λc1=>
         J x3 (x7 dA y 2) Y λc2=>
         J x3 (x5 ax c2) Y λc3=>
         J x3 (n0 ax c3 a6) Y λc4=>
         J x3 (x5 an c4) Y λc5=>
         aj x3 sC [bR,c1,c5] Y λet bU=>
         J x3 (aB .add ab false true a6 (Δ 1)) bU λc6=>
         cY c6 bU)
         (J x3 (x7 aR (Γ aU) 6) Y λc7=>
        J x3 (x5 ah c7) Y λc8=>
        aj x3 sx [Γ al,c8,bR] Y λbV bm=>
        J x3 (Z8 bV 0) bm λbX=>
        J x3 (Z8 bV 1) bm λbY=>
        cj bm λaM=>
        J x3 (aX (Γ am)) aM λc9=>
        J x3 (x5 aE c9) aM λda=>
        J x3 (x7 aR (Γ aU) 6) aM λdb=>
        J x3 (x5 ah db) aM λdc=>
        aj x3 sD [da,dc,sizes] aM λdd aH=>
        J x3 (Op.unary .not dd) aH λde=>
        Split de (bx (α:=x1->x2->Prop) (λ(df:x1) (dg:x2)=>
         Q df dg) λb0=>
        J x3 (aB .eql eB false true bY (Δ 1)) aH λdh=>
        Split dh (J x3 (aB .eql ab false true bX (Δ 0)) aH λdi=>
        b0 di aH)
         (b0 (.bool false) aH))
        (cj aH λaf=>
        J x3 (aX (Γ am)) af λbn=>
        J x3 (x7 aE bn 6) af λbo=>
        J x3 (x5 b1 bo) af λb2=>
        J x3 (x7 aR (Γ aU) 6) af λdj=>
        J x3 (x5 ah dj) af λdk=>
        J x3 (x7 dA y 2) af λdl=>
        J x3 (x5 ax dl) af λdm=>
        J x3 (Instr.build aY #[(0,dk),(1,sizes),(2,dm)]) af λdn=>
        J x3 (Instr.build bW #[(0,dn),(1,(.bool true))]) af λdp=>
        az x3 (Z7 b1 1 #[(0,dp)]) af λdq aN=>
        (Ext af aN\/bk x3 (x5 b1 bo) b2 aN/\bk x3 (x7 aE bn 6) bo aN/\bk x3 (aX (Γ am)) bn aN/\True)/\
        az x3 (l7 #[b1,b1] b1 #[b2,dq]) aN λdr bp=>
         J x3 (aX (Γ am)) bp λds=>
         J x3 (x7 aE ds 6) bp λdt=>
         az x3 (o4 b1 dt dr) bp λ(_:Unit) ai=>
         bx (α:=x1->x2->Prop) (λ(du:x1) (dv:x2)=>
         Q du dv) λb3=>
        J x3 (aB .eql eB false true bY (Δ 0)) ai λdw=>
        Split dw (J x3 (aX (Γ am)) ai λdx=>
        J x3 (x7 aE dx 6) ai λdy=>
        J x3 (x5 b1 dy) ai λdz=>
        J x3 (Y3 #[b1] ab #[dz]) ai λdC=>
        J x3 (aB .sub ab false true dC (Δ 1)) ai λdD=>
        J x3 (aB .eql ab false false bX dD) ai λdE=>
        b3 dE ai)
        (b3 (.bool false) ai)))) λb4=>
       cj bj λak=>
       J x3 (aX (Γ am)) ak λaQ=>
       J x3 (x7 aE aQ 0) ak λaS=>
       J x3 (x5 an aS) ak λa7=>
       J x3 (x7 aR (Γ aU) 7) ak λaT=>
       J x3 (x5 k2 aT) ak λa8=>
       (aj x3 sz [sizes,a7,a8] ak λdF dG=>
       az x3 (S6 dA true (.tuple #[])) dG λb5 aA=>
        (Ext ak aA\/bk x3 (x5 k2 aT) a8 aA/\bk x3 (x7 aR (Γ aU) 7) aT aA/\bk x3 (x5 an aS) a7 aA/\bk x3 (x7 aE aQ 0) aS aA/\bk x3 (aX (Γ am)) aQ aA/\True)/\
       az x3 (o4 dA b5 dF) aA λ(_:Unit) dH=>
        b4 b5 dH)/\
       (az x3 (S6 dA true (.tuple #[])) ak λb6 aC=>
       (Ext ak aC\/bk x3 (x5 k2 aT) a8 aC/\bk x3 (x7 aR (Γ aU) 7) aT aC/\bk x3 (x5 an aS) a7 aC/\bk x3 (x7 aE aQ 0) aS aC/\bk x3 (aX (Γ am)) aQ aC/\True)/\
       aj x3 sz [sizes,a7,a8] aC λdI dJ=>
        az x3 (o4 dA b6 dI) dJ λ(_:Unit) dK=>
        b4 b6 dK))) λb7=>
      bx (α:=x1->x2->Prop) (λ(dL:x1) (aF:x2)=>
       Split dL (J x3 (n0 ah sizes (Δ 0)) aF λdM=>
       J x3 (x5 ab dM) aF λdN=>
       J x3 (aB .rem ab false true dN (Δ 3)) aF λdQ=>
       J x3 (aB .add ab true false (Δ 1) dQ) aF λdR=>
       J x3 (n0 ah sizes (Δ 0)) aF λdS=>
       az x3 (o4 ab dS dR) aF λ(_:Unit) dT=>
       b7 dT)
       (b7 aF)) λb8=>
      J x3 (Y3 #[ah] ab #[sizes]) V λdU=>
      J x3 (aB .gtr ab false true dU (Δ 0)) V λdV=>
      Split dV (J x3 (x7 aR (Γ aU) 2) V λdW=>
      J x3 (x5 ab dW) V λdX=>
      J x3 (aB .rem ab false true dX (Δ 5)) V λdY=>
      J x3 (aB .eql ab false true dY (Δ 0)) V λdZ=>
      b8 dZ V)
      (b8 (.bool false) V)):=by
 have b9:=p.cc.2.2.2.1;have ca:=b9.e5.2.2;have ea:=b9.jM;have dP:=p.ext bf;have z0:=bf.size;have aK:=Lu (a:=a) ca;refine Lv dP.look ca bg λba eu U bq br eb=>?_;have ec:=bf.trans bq;refine (sV br.ls aK).mono ?_;rintro _ bu _ ⟨rfl,bc⟩;have bw:=ec.trans bc;have bz:=bq.trans bc;have bB:=br.ext bc;rw[bP,ad];refine⟨λev=>bh _ ?_,λed=>?_⟩
 .unfold lv;rw[if_neg λh=>Ω];exact jV p bw
 obtain⟨L,bD⟩:∃L,L=ic n a:=⟨_,rfl⟩;rw[<-bD] at aK ed bB;have ew:=prod_bound aK;have bE:=p.box;obtain⟨au,ey,ez,eA,eC,eD,ee,_⟩:=p.Bo;rw[ee] at bE;refine aP (λy aV=>∃W aJ aG,y=Γ W/\Ext bu aV/\ae aV W dA [ba,Δ n.k,aJ]/\aq .i64 an aV aG aJ (hE L n.k a.co)/\bu.heap.size<=W/\bu.heap.size<=aG) ?_ ?_
 rotate_left
 .intro eE cb aV X _ _;have bd:=bw.trans X;have aW:=bB.ext X;have cd:=cr.ext (bz.trans X);rw[aw,aa aE.p rfl,ac (v:=Δ n.k) Ψ ((bE.ext bd).cell (o:=0+0) rfl),aa aR.p rfl,ac (v:=ch) Ψ ((bg.ext (bz.trans X)).cU.cell (o:=0+7) rfl)];have z3:=X.size;have ce:∀ {aJ:x1},aJ.oneCell'=true-> ∀u∈[ba,Δ n.k,aJ],u.oneCell'=true:=λao u hu=>by
   simp at hu;rcases hu with rfl|rfl|rfl
   .exact br.ls.cells.2
   .rfl
   .exact ao
  refine⟨?_,?_⟩
  .refine (yE aW.ls aK cd bK.2.2.2.2.2.2.2 Ω).mono ?_;rintro _ cg _ ⟨I,aG,aJ,rfl,ci,ao⟩;refine bt dA.i λW ef ck aL be=>?_;have z4:=I.size;refine⟨.inl (I.trans aL),?_⟩;refine bJ (vs:=[ba,Δ n.k,aJ]) dA.i rfl rfl (ce ao.ls.cells.2) be λeg aZ eh bF=>?_;refine cb _ _ ⟨W,aJ,aG,rfl,((X.trans I).trans aL).then aZ λr ap he=>by have he:r=W:=he;omega,bF,bb (ao.ext aL) aZ λr ap he=>?_,Ω,Ω⟩;have he:r=W:=he;obtain⟨ei,ej⟩:=bA ao ap;omega
  .refine bt dA.i λW cg ck I be=>?_;refine⟨.inl I,?_⟩;have z4:=I.size;have eF:=be.lt;refine (yE (aW.ls.ext I) aK (cd.ext I) bK.2.2.2.2.2.2.2 Ω).mono ?_;rintro _ ef _ ⟨aL,aG,aJ,rfl,ci,ao⟩;refine bJ (vs:=[ba,Δ n.k,aJ]) dA.i rfl rfl (ce ao.ls.cells.2) (be.ext aL) λeg aZ eh bF=>?_;refine cb _ _ ⟨W,aJ,aG,rfl,((X.trans I).trans aL).then aZ λr ap he=>by have he:r=W:=he;omega,bF,bb ao aZ λr ap he=>?_,Ω,Ω⟩;have he:r=W:=he;obtain⟨ei,ej⟩:=bA ao ap;omega
 rintro _ aV ⟨W,aJ,aG,rfl,X,cl,bH,ck,ci⟩;have bd:=bw.trans X;have aW:=bB.ext X;refine Ls aW aK Ω ea cl bH (bE.ext bd) rfl λcg g eH eI I ek eJ eK em=>?_;have eL:=bq.size;have eM:=bc.size;have z3:=X.size;have en:=bd.trans I;have eo:(hE L n.k a.co).length<=600:=by rw[qY];omega
 have eN:=nG bH (by rw[qY];omega);refine Lw p cn cp cq en (bg.ext ((bz.trans X).trans I)) (aW.ext I) (λr ap=>by have:=eb r ap;omega) (cl.ext I) Ω (bH.ext I) Ω ek ⟨Ω,Ω⟩ (λr ap=>by have:=em r ap;omega) (λc cm=>?_) eo (λbI w' ep=>bh _ ?_) λbI w' er=>bh _ ?_
 .unfold hE at cm;obtain⟨i,_,rfl⟩:=Z5.1 cm;exact yD Ω _
 .unfold lv;rw[<-bD,if_neg λh=>bI h.2];exact jV p ep
 .unfold lv;rw[<-bD,if_pos ⟨Ω,bI⟩];exact er
end
end Go.Proofs.YtgbkinibgjmodaaGreatDoor
namespace Go.Proofs.YtgbkinibgjmodaaGreatDoor
open Go Go.Vc Go.RowKit Go.Proofs Go.Proofs.Tryz
set_option maxRecDepth 100000
noncomputable def hp (n:aV) (s:aF) (a:de):aF:=
 if a.d % 9=0 then mC n s (b5 n.k a) else if a.d % 9=1 then lu n s a else if a.d % 9=2 then kO n s a else if a.d % 9=3 then mE n s a else if a.d % 9=4 then lv n s a else if a.d % 9=5 then mD s a else mG n s a
theorem lw {cx cy:Bool} {k:o5} {a b:Int} {A B:Prop} (I:a=b->A) (U:a≠b->B):J x3 (aB .eql t cx cy (.int k a) (.int k b)) w λv=>Split v A B:=by
 rw[bi,ad];exact⟨I,U⟩
section
variable {w0:x2} {al ag am:Nat} {A R:ai} {A9:Nat->ai} {aO:ai} {n:aV} {s:aF} {t:aC} {h:List aC} {cs:List x1} {a:de} {bN db:x1} {Q:x1->x2->Prop}
end
theorem Ly {n:aV} {s:aF} {a:de}:(hp n s a).funs.length<=s.funs.length+1/\(hp n s a).elims.length<=s.elims.length+1:=by
 unfold hp mC lu kO mE lv mD mG gT gF iG iJ fS gn
 repeat' split
 all_goals first|(constructor <;> exact S5 _)|simp
def jk:List Int:=[116,32,50,32,50,32,49,32,57,32,50,32,50,10,50,32,48,32,49,32,48,32,49,10,49,32,49,32,53,10]
def fE:bY:=⟨[116],9,[2,2],[⟨[0,1],[2,2],0,[([1,1],5)]⟩]⟩
theorem Lz:fK jk=σ fE:=by
 have h:(match fK jk with
  |some f=>decide (f.name=fE.name/\f.k=fE.k/\f.sizes=fE.sizes)&&decide (f.funs.map (λx=>(x.scope,x.sizes,x.other,x.lines))=fE.funs.map λx=>(x.scope,x.sizes,x.other,x.lines))
  |none=>false)=true:=by decide+kernel
 cases U:fK jk with
 |none=>rw[U] at h;cases h
 |some f=>
  rw[U] at h;simp only[U1,decide_eq_true_eq] at h;obtain⟨⟨h1,V,W⟩,I⟩:=h;obtain⟨Y,k,aa,J⟩:=f;simp only at h1 V W I;subst h1;subst V;subst W;have:J=fE.funs:=by
   have X:J.length=1:=by have:=congrArg S9 I;simpa[fE] using this
   match J,X with
   |[x],_=>
    obtain⟨a,b,c,d⟩:=x;simp[fE] at I;obtain⟨rfl,rfl,rfl,rfl⟩:=I;rfl
  subst this;rfl
def rL (s:aF) (a:List Int):Bool:=decide (a.length=s.vars.length)&&(s.vars.zip a).all λp=>decide (p.1.gone≠0\/(0<=p.2/\p.2<p.1.un.length))
theorem BA {s:aF} {a:List Int}:rL s a=true↔po s a:=by
 unfold rL po;rw[U1,decide_eq_true_eq,List.all_eq_true];refine and_congr Iff.rfl ⟨λh i x v I J=>?_,λh p U=>?_⟩
 .have:=h (x,v) (Y7.2 ⟨i,by rw[List.getElem?_zip_eq_some];exact⟨I,J⟩⟩);exact of_decide_eq_true this
 .obtain⟨i,hi⟩:=Y7.1 U;obtain⟨x,v⟩:=p;rw[List.getElem?_zip_eq_some] at hi;exact decide_eq_true (h i x v hi.1 hi.2)
theorem LA:kB fE.funs<=16384:=by decide+kernel
theorem LB:ez (cC fE) 1 1:=by decide+kernel
theorem LC:rL (gF (dU (cC fE)) 1 1) [1,1]=true:=by decide+kernel
theorem LD:rL (gF (dU (cC fE)) 1 1) [1,0]=true:=by decide+kernel
theorem LF:nK (cC fE).k (gF (dU (cC fE)) 1 1) [1,1]=9:=by decide+kernel
theorem LG:nK (cC fE).k (gF (dU (cC fE)) 1 1) [1,0]=0:=by decide+kernel
theorem LH {g n c:Nat} (J:ae w g cr cs) (W:∀w',af (λr=>r=g) w w'->(∀o vs,w.rangeAt g o vs->w'.rangeAt g o vs)->K (.slice (σ ⟨g,0,ν⟩) n c) w'):
  az x3 (convert cw cw (.slice (σ ⟨g,0,ν⟩) n c)) w K:=by
 have V:∀r,(w.freeze ⟨g,cs.length,ν⟩ 1).heap[r]? =if g=r then (w.heap[r]?).map (λ| .cells c X (lo,hi)=>.cells c X (if lo == hi then (cs.length,cs.length+1) else (min lo cs.length,max hi (cs.length+1)))|o=>o) else w.heap[r]?:=λr=>by
  unfold x2.freeze;rw[if_neg Φ];exact Array.getElem?_modify
 have ag:(w.freeze ⟨g,cs.length,ν⟩ 1).heap.size=w.heap.size:=by
  unfold x2.freeze;rw[if_neg Φ];exact Array.size_modify
 have Y:w.shape? g=σ (cr,cs.length):=by
  unfold x2.shape?;unfold ae at J;rw[J];simp
 have aa:(convert cw cw (.slice (σ ⟨g,0,ν⟩) n c)).run x3 w= .ok (.slice (σ ⟨g,0,ν⟩) n c) (w.freeze ⟨g,cs.length,ν⟩ 1):=by
  simp[convert,run_underlying cw.u,run_underlying cr.u,markStringish,Y]
 unfold ae at J;refine .of aa ⟨by unfold x2.freeze;rw[if_neg Φ],.jm (by unfold x2.freeze;rw[if_neg Φ]) (by unfold x2.freeze;rw[if_neg Φ]),by unfold x2.freeze;rw[if_neg Φ],Ω,λr o U I=>?_⟩ (W _ ⟨Ω,λr o U _ ab=>?_⟩ λo vs ac j v ad=>?_)
 .rw[V];by_cases he:g=r
  .subst he;rw[J] at U;cases U;cases I
  .rw[if_neg he];exact U
 .rw[V,if_neg λhe=>ab he.symm];exact U
 .have h1:=ac j v ad;unfold x2.cell? at h1 ⊢;rw[V,if_pos rfl];rw[J] at h1 ⊢;exact h1
def uZ (B:Nat) (w:x2) (I:x1) (cs:List x1) (f:bY):Prop:=∃al ag A R t N A9 aO,eL N f/\I=Γ al/\b9 w al ag A R (cC f) (dU (cC f)) t/\Plain t/\(∀r,A r->B<=r)/\
 fj true A9 aO w cs (cC f).k (cC f).sizes (dU (cC f))/\(∀q r,A9 q r->¬A r/\¬R r/\B<=r)/\ ∀r,aO r->¬dd w r/\r<w.heap.size
def LI (w:x2) (q:List Int) (v:x1) (w':x2):Prop:=Ext w w'/\ ∃I cs ok,v= .tuple #[I,.agg cs.toArray,.bool ok]/\(cs.length=8/\ ∀u∈cs,u.oneCell'=true)/\((ok=false/\I= .pointer ν)\/(ok=true/\ ∃f,fK q=σ f/\uZ w.heap.size w' I cs f))/\ ∀f,fK q=σ f->kB f.funs<=16384->ok=true
theorem BB {p:x1} {pl:List Int} (a6:aI .u8 w p pl) (bm:Bytes pl) (bn:eM w):aj x3 CB [p] w (LI w (pl.take 300)):=by
 refine aA func12 ?_;refine bt aE.i λaa U b1 aD ay=>?_;have ay:ae U aa aE z12:=ay;rw[aS cw.u (a6.ext aD),ik];refine s4 (i:=min pl.length 300) Ω cw.u cr.i (a6.ext aD) Ω λb2 aF=>?_;have bo:pl.take (min pl.length 300)=pl.take 300:=by
  by_cases h:pl.length<=300
  .rw[T5 h,o9,Z0 h]
  .rw[Nat.min_eq_right Ω]
 rw[bo] at aF;have az:Bytes (pl.take 300):=λb I=>bm b (T2 I);have bp:(pl.take 300).length<=300:=by rw[o7];omega
 generalize pl.take 300=q at aF az bp;refine (KH aF Ω).mono ?_;rintro b3 b4 _ ⟨aG,b5,aH⟩;have a7:=aD.trans aG;refine (Iu aH.ls az Ω (bn.ext a7)).mono ?_;rintro b6 b7 _ ⟨aw,ac⟩;have a8:=a7.trans aw;cases ah:fK q with
 |none=>
  rw[ah] at ac;obtain⟨n,e,rfl,he⟩:=ac;rw[aK (v:=.pointer ν) rfl,aK (v:=Δ n) rfl,aK (v:=Δ e) rfl];refine (AP (aH.ext aw).ls az Ω).mono ?_;rintro bq aJ _ ⟨ao,aL,aM,aN,_⟩;obtain rfl:=aN ah;rw[aK (v:=.pointer ν) rfl,aK (v:=Δ aL) rfl,aK (v:=Δ aM) rfl];refine aP (λv ax=>v= .bool true/\Ext aJ ax) ?_ ?_
  .rintro _ ax ⟨rfl,ak⟩;rw[bO,cR (cs:=#[Δ 0,.slice ν 0 0,Δ 0,.slice ν 0 0,.slice ν 0 0,.slice ν 0 0,.slice ν 0 0,.slice ν 0 0]) Ψ];obtain⟨_,_,J,af⟩:=Be;refine bJ (vs:=z12) aE.i rfl rfl (by intro u hu;simp[z12] at hu;rcases hu with rfl|rfl|rfl|rfl <;> rfl) ((((ay.ext aG).ext aw).ext ao).ext ak) λb8 br ca bu=>?_;rw[eJ aE.p aE.i rfl bu.range];refine⟨((a8.trans ao).trans ak).then br λr ac he=>by have he:r=aa:=he;omega,_,_,false,rfl,⟨rfl,(Be).elim λ_ h=>by obtain⟨_,_,h⟩:=h;exact λu hu=>by simp[z12] at hu;rcases hu with rfl|rfl|rfl|rfl <;> rfl⟩,.inl ⟨rfl,rfl⟩,λf ba=>?_⟩;rw[ah] at ba;cases ba
  .intro aR am;rw[bB,ad];exact⟨λ_=>am _ _ ⟨rfl,Ext.refl _⟩,λh=>absurd he h⟩
 |some f=>
  rw[ah] at ac;obtain⟨bw,n,rfl,bx⟩:=ac;obtain⟨N,bz,ap,bA,bC⟩:=KF Ω ah;have aq:=zA ap;have aB:=uI ap;rw[aK (v:=Γ bw) rfl,aK (v:=Δ n) rfl,aK (v:=Δ 0) rfl];refine (AP (aH.ext aw).ls az Ω).mono ?_;rintro bq aJ _ ⟨ao,aL,aM,_,aN⟩;obtain⟨bD,rfl,bE⟩:=aN f ah;rw[aK (v:=Γ bD) rfl,aK (v:=Δ aL) rfl,aK (v:=Δ aM) rfl];refine aP (λv ax=>v= .bool false/\Ext aJ ax) ?_ ?_
  rotate_left
  .intro aR am;rw[bB,ad];refine⟨λh=>absurd rfl h,λ_=>?_⟩;rw[cA sO.u];exact am _ _ ⟨rfl,Ext.refl _⟩
  rintro _ ax ⟨rfl,ak⟩;rw[aQ];have bF:=(a8.trans ao).trans ak;refine (JA ((bx.ext ao).ext ak) ap bz ⟨bA,bC⟩).mono ?_;rintro cb cc _ ⟨aT,bG⟩;have aC:=bF.trans aT;have au:=((((ay.ext aG).ext aw).ext ao).ext ak).ext aT;have bb:=(bE.ext ak).ext aT;have cd:=aC.size;have ce:w.heap.size<=aa:=Ω
  have cg:=au.lt;rcases bG with⟨bH,e,he,rfl⟩|⟨bI,rfl,bK⟩
  .rw[aK (v:=.pointer ν) rfl,aK (v:=Δ e) rfl];refine KG.mono ?_;rintro _ bc _ ⟨rfl,W⟩;refine hW (λaU t4 X=>aU= .pointer ν/\t4= .bool false/\Ext w X/\ ∃cs:List x1,ae X aa aE cs/\cs.length=8/\ ∀u∈cs,u.oneCell'=true) ?_ ?_
   .rintro _ _ X ⟨rfl,rfl,aV,cs,aW,J,af⟩;rw[eJ aE.p aE.i J aW.range];exact⟨aV,_,cs,false,rfl,⟨J,af⟩,.inl ⟨rfl,rfl⟩,λch bd bL=>absurd bL (by rw[ah] at bd;cases bd;exact bH)⟩
   .intro aR am;refine (AY (bb.ext W) ap).mono ?_;rintro bM aX _ ⟨Y,aY⟩;refine (Bm (R:=λr=>∃c,ae aX r ab c) (λr h=>h.elim λc I=>I.lt) (λr c I=>⟨c,I⟩) aY aq.1 aB).mono ?_;rintro bN bP _ ⟨ai,A9,cs,rfl,av,aZ⟩;obtain⟨J,af⟩:=av.len;rw[bi,ad];refine⟨λh=>absurd h he,λ_=>?_⟩;refine bJ (vs:=cs) aE.i J rfl af (((au.ext W).ext Y).ext ai) λbQ an be a1=>?_;exact am _ _ _ ⟨rfl,rfl,(((aC.trans W).trans Y).trans ai).then an λr ac he=>by have he:r=aa:=he;omega,cs,a1,J,af⟩
  .rw[aK (v:=Γ bI) rfl,aK (v:=Δ 0) rfl];refine (JV bK aq.1 aB).mono ?_;rintro _ bc _ ⟨W,al,ag,A,R,t,rfl,bR,bf,bg,bh⟩;have bj:b9 bc al ag A R (cC f) (dU (cC f)) t:=⟨bR,bf,KJ aq.1 aB bf bg,JL aq.1,aq.1⟩;refine hW (λaU t4 X=>aU=Γ al/\t4= .bool true/\Ext w X/\ ∃cs:List x1,ae X aa aE cs/\cs.length=8/\(∀u∈cs,u.oneCell'=true)/\ ∃R' A9 aO,b9 X al ag A R' (cC f) (dU (cC f)) t/\fj true A9 aO X cs (cC f).k (cC f).sizes (dU (cC f))/\(∀q r,A9 q r->¬A r/\¬R' r/\w.heap.size<=r)/\ ∀r,aO r->¬dd X r/\r<X.heap.size) ?_ ?_
   .rintro _ _ X ⟨rfl,rfl,aV,cs,aW,J,af,R',A9,aO,bS,av,bT,bU⟩;rw[eJ aE.p aE.i J aW.range];exact⟨aV,_,cs,true,rfl,⟨J,af⟩,.inr ⟨rfl,f,ah,al,ag,A,R',t,N,A9,aO,ap,rfl,bS,bg,λr ac=>by have:=bh r ac;omega,av,bT,bU⟩,λ_ _ _=>rfl⟩
   .intro aR am;refine (AY (bb.ext W) ap).mono ?_;rintro bM aX _ ⟨Y,aY⟩;refine (Bm (R:=λr=>∃c,ae aX r ab c) (λr h=>h.elim λc I=>I.lt) (λr c I=>⟨c,I⟩) aY aq.1 aB).mono ?_;rintro bN bP _ ⟨ai,A9,cs,rfl,av,aZ⟩;obtain⟨J,af⟩:=av.len;rw[bi,ad];refine⟨λ_=>?_,λh=>absurd rfl h⟩;rw[w2 eW.u];have bk:=((au.ext W).ext Y).ext ai;have bV:=((aC.trans W).trans Y).trans ai;refine bJ (vs:=cs) aE.i J rfl af bk λbQ an be a1=>?_;have bl:=(bj.ext Y).ext ai;obtain⟨R',bW,bX⟩:=bl.1.put bk an λh=>by have:=bh aa h;omega
    have ci:=((aC.trans W).trans Y).size;have cj:=ai.size;obtain⟨_,_,_,_,⟨_,_,bY,bZ⟩,_⟩:=(bj.ext Y).1;have ck:=au.lt;have cl:=(W.trans Y).size;have b0:=av.V an λr ac h he=>by
     have he:r=aa:=he;rcases h with⟨q,h⟩|⟨c,I⟩
     .have:=aZ q r h;omega
     .subst he;exact absurd (eu I (((au.ext W).ext Y))) Φ
    refine am _ _ _ ⟨rfl,rfl,bV.then an λr ac he=>by have he:r=aa:=he;omega,cs,a1,J,af,R',A9,_,⟨bX,bl.2⟩,b0,λq r h=>?_,λr h=>?_⟩
    .have cm:=aZ q r h;refine⟨λa2=>by have:=bZ r a2;omega,λa2=>by have:=bY r (bW r a2).1;omega,Ω⟩
    .obtain⟨c,I⟩:=h;have cn:=I.lt;have be:=an.size;refine⟨pC ((I.ext ai).V an λhe=>?_) Φ,Ω⟩;have he:r=aa:=he;subst he;exact absurd (eu I (((au.ext W).ext Y))) Φ
abbrev nW:Type:=cY .u8×Int×Int×Int×Int×List Int×List Int×List (cY .u16)×Bool
def nX (x:nW):de:=⟨x.1.val,x.2.1,x.2.2.1,x.2.2.2.1,x.2.2.2.2.1,x.2.2.2.2.2.1,x.2.2.2.2.2.2.1,x.2.2.2.2.2.2.2.1,x.2.2.2.2.2.2.2.2⟩
theorem LJ {k:o5} {m:Bool} {R:ai} {F:Nat->ai} {vs:List (List x1)} {l:List (cY k)} (h:kp m R F w vs l):vs.flatten=ints k l:=by
 have:vs=l.map λx:cY k=>[V2 k x]:=by
  apply List.ext_getElem
  .simp[h.1]
  .intro i h1 I;have J:i<l.length:=by simpa using I
   have:=h.2 i _ _ (y0 h1) (y0 J);rw[List.getElem_map];exact this
 subst this;clear h;induction l with
 |nil=>rfl
 |cons x l U=>simp only[S2,List.flatten_cons,U];rfl
theorem LK {k:o5} {m:Bool} {S R:ai} {v:x1} {l:List (cY k)} (h:ak.rep m S R w [v] l):aI k w v l:=by
 obtain⟨vs,g,F,_,he,I,_⟩:=fZ h;have:=I.sl;rw[LJ he] at this;exact this
theorem LL {R:ai} {x:nW} (h:Seen R w cs x) (ad:(nX x).ok):cs.length=9/\cs[0]? =σ (.int .u8 (nX x).d)/\(∀u∈cs,u.oneCell'=true)/\pJ w (.agg cs.toArray) (nX x):=by
 refine⟨ak.len h,?_,ak.one h,ad,?_⟩
 .obtain⟨J,_,_,_,rfl,_,_,_,I,_⟩:=h;have I:J=[.int .u8 x.1]:=I;subst I;rfl
 obtain⟨J,_,_,_,rfl,_,_,_,I,ae,_,_,_,rfl,_,_,_,U,af,_,_,_,rfl,_,_,_,V,ag,_,_,_,rfl,_,_,_,W,ah,_,_,_,rfl,_,_,_,X,ao,_,_,_,rfl,_,_,_,aa,ap,_,_,_,rfl,_,_,_,ab,aq,aj,_,_,rfl,_,_,_,ac,Y⟩:=h;have I:J=[.int .u8 x.1]:=I;have U:ae=[Δ x.2.1]:=U;have V:af=[Δ x.2.2.1]:=V;have W:ag=[Δ x.2.2.2.1]:=W;have X:ah=[Δ x.2.2.2.2.1]:=X;have Y:aj=[.bool x.2.2.2.2.2.2.2.2]:=Y;obtain⟨al,rfl⟩:=X7.1 (ak.len aa);obtain⟨am,rfl⟩:=X7.1 (ak.len ab);obtain⟨an,rfl⟩:=X7.1 (ak.len ac);subst I U V W X Y;exact⟨al,am,an,rfl,dR aa,dR ab,LK ac⟩
theorem LM {B:Nat} {J X:x2} {am:Nat} {af:x1} {f:bY} (ai:uZ B J af cs f) (U:Ext J X) (aj:ae X am aE cs) (ap:J.heap.size<=am):
  ∃al ag A R A9 aO t,af=Γ al/\bG X al ag am A R A9 aO (cC f) (dU (cC f)) (dU (cC f)) t [] cs/\t.marks=[]/\(∀r,A r->B<=r)/\(∀q r,A9 q r->B<=r)/\t.cells.length<=2000000/\t.olds.length=0/\(cC f).funs.length<=256/\t.ever=0:=by
 obtain⟨al,ag,A,R,t,N,A9,aO,Y,rfl,aa,V,ak,an,ab,ac⟩:=ai;have ah:=jU aa;have z:=U.size;have W:=(rD (zA Y).1 (uI Y) (cC f).unary.length (cC f).funs.length);rw[ul,<-aa.2.1] at W;unfold aC.bS at W;rw[u5] at W;refine⟨al,ag,A,R,λq r=>A9 q r/\r<J.heap.size,aO,t,rfl,⟨aa.ext U,V.2.2.1,aj,an.old.ext U,λq r h=>⟨(ab q r h.1).1,(ab q r h.1).2.1,by have:=h.2;omega⟩,λr ad=>⟨λh=>(ac r ad).1 (ll (λo ao I _=>U.a7 r o ao I) h),by have:=(ac r ad).2;omega,by have:=(ac r ad).2;omega⟩,λh=>by have:=ah am (.inl h);omega,λh=>by have:=ah am (.inr h);omega⟩,V.1,ak,λq r h=>(ab q r h.1).2.2,W,by rw[V.2.1];rfl,uI Y,V.2.2.2⟩
theorem LN (az:eM w):aj x3 CA [] w λv w'=>v= .bool true/\Ext w w':=by
 refine aA func11 ?_;refine il (k:=1) (cs:=(ints .u8 jk).toArray) cw.u cr.i Ω Ψ λg U bm I V=>?_;have ae:aq .u8 cr U g (.slice (σ ⟨g,0,ν⟩) 30 30) jk:=aq.of (n:=30) (bQ.full (by simpa using V) (by simp[jk]) (by simp[maxLen]));refine LH V λW af ai=>?_;have I:Ext w W:=I.then af λr ak he=>by have he:r=g:=he;omega
 have aB:aI .u8 W (.slice (σ ⟨g,0,ν⟩) 30 30) jk:=by
  obtain⟨aC,b,o,base,cap,aD,aF,aG,aH,aJ⟩:=ae.ls;cases aD;cases aH (by simp[jk]);exact⟨aC,g,0,_,30,rfl,aF,aG,λ_=>rfl,ai _ _ aJ⟩
 clear ae V ai af;refine (BB aB (by intro b aL;simp[jk] at aL;omega) (az.ext I)).mono ?_;rintro _ an _ ⟨aM,aN,cs,ok,rfl,⟨aR,aS⟩,aT,aU⟩;have ao:fK (jk.take 300)=σ fE:=by
  rw[Z0 Φ];exact Lz
 have aV:ok=true:=aU fE ao LA;subst aV;obtain⟨f,ap,al,ag,A,R,t,N,A9,aO,bn,rfl,aW,aX,aY,_⟩:∃f,fK (jk.take 300)=σ f/\uZ W.heap.size an aN cs f:=by
  rcases aT with⟨h,_⟩|⟨_,h⟩
  .cases h
  .exact h
 rw[ao] at ap;cases ap;have aZ:=I.trans aM;rw[aK (v:=Γ al) rfl,aK (v:=.agg cs.toArray) rfl,aK (v:=.bool true) rfl];refine bt aE.i λam bo bp a1 a2=>?_;refine bJ (vs:=cs) aE.i aR rfl aS a2 λa6 a7 bq br=>?_;have au:Ext an a6:=a1.then a7 λr ak he=>by have he:r=am:=he;omega
 have a8:=aW.ext au;refine aP (λv X=>v= .bool false/\Ext w X/\ ∃J av,b9 X al ag J R (cC fE) (gF (dU (cC fE)) 1 1) av) ?_ ?_
 rotate_left
 .intro ba Y;rw[bg,Y1,aQ];refine (uH (i:=1) (v:=1) a8 (.inl aX.1)).mono ?_;rintro bu bw _ ⟨_,bb⟩;obtain⟨rfl,bx,J,x,bc,bd⟩:=bb LB;rw[bB];refine Y _ _ ⟨by congr 1,?_,J,_,bd⟩;exact (aZ.trans au).then bc.1 λr ak h=>by have:=aY r h;have:=I.size;omega
 rintro _ X ⟨rfl,be,J,av,aw⟩;rw[aQ];refine oz (l:=[1,1]) ah.u ab.i Ω rfl Ψ λbz bA bC bD aa bf=>?_;refine (Ba (aw.ext aa) bf.ls).mono ?_;rintro _ bE _ ⟨⟨ac,_⟩,ax⟩;obtain rfl:=ac (BA.1 LC);rw[LF,aK (v:=Δ 9) rfl,aK (v:=Δ 0) rfl];refine oz (l:=[1,0]) ah.u ab.i Ω rfl Ψ λbF bG bH bI ay bh=>?_;refine (Ba (((aw.ext aa).ext ax).ext ay) bh.ls).mono ?_;rintro _ bK _ ⟨⟨ac,_⟩,bj⟩;obtain rfl:=ac (BA.1 LD);rw[LG,aK (v:=Δ 0) rfl,aK (v:=Δ 0) rfl];have bk:=(((be.trans aa).trans ax).trans ay).trans bj;refine aP (λv bl=>v= .bool true/\Ext w bl) (λ_ _ h=>h) λba Y=>?_;rw[bi,ad];refine⟨λ_=>?_,λh=>absurd rfl h⟩;rw[bi,ad];refine⟨λ_=>?_,λh=>absurd rfl h⟩;rw[bi,ad];refine⟨λ_=>?_,λh=>absurd rfl h⟩;rw[bi];exact Y _ _ ⟨rfl,bk⟩
section
variable {w0 w:x2} {al ag am:Nat} {n:aV} {Q:x1->x2->Prop}
end
theorem LO {x:nW} (h:(o5.u8.min<=x.1.val/\x.1.val<=o5.u8.max)/\(Y5.min<=x.2.1/\x.2.1<=Y5.max)/\(Y5.min<=x.2.2.1/\x.2.2.1<=Y5.max)/\(Y5.min<=x.2.2.2.1/\x.2.2.2.1<=Y5.max)/\(Y5.min<=x.2.2.2.2.1/\x.2.2.2.2.1<=Y5.max)/\
  (∀a∈x.2.2.2.2.2.1,Y5.min<=a/\a<=Y5.max)/\(∀a∈x.2.2.2.2.2.2.1,Y5.min<=a/\a<=Y5.max)/\(∀a∈x.2.2.2.2.2.2.2.1,o5.u16.min<=a.val/\a.val<=o5.u16.max)/\True):(nX x).ok:=by
 have aa:o5.u8.min=0:=Φ
 have ab:o5.u8.max=255:=Φ
 have ac:Y5.min= -9223372036854775808:=Φ
 have ad:Y5.max=9223372036854775807:=Φ
 have ae:o5.u16.min=0:=Φ
 have af:o5.u16.max=65535:=Φ
 rw[aa,ab,ac,ad,ae,af] at h;obtain⟨h1,J,U,V,W,X,Y,ag,_⟩:=h;exact⟨⟨h1.1,by have:=h1.2;show x.1.val<256;omega⟩,⟨J.1,by have:=J.2;show x.2.1<_;omega⟩,⟨U.1,by have:=U.2;show x.2.2.1<_;omega⟩,⟨V.1,by have:=V.2;show x.2.2.2.1<_;omega⟩,⟨W.1,by have:=W.2;show x.2.2.2.2.1<_;omega⟩,
  λy I=>⟨(X y I).1,by have:=(X y I).2;omega⟩,λy I=>⟨(Y y I).1,by have:=(Y y I).2;omega⟩,λy I=>by have h:0<=y/\y<=65535:=ag y I;omega⟩
theorem BC {A:ai} {t:aC} (h:cD w ag A t):aj x3 Dc [Γ ag] w λv w'=>v=Δ (t.marks.length:Int)/\Ext w w':=by
 obtain⟨J,U,go,a8,aJ,V,bN,h1,W,X,I,Y⟩:=h;refine aA func115 ?_;rw[cA iR.u];simp only[j6,aQ];rw[aw,aa cB.p rfl,ac (v:=bN) Ψ (h1.cell (o:=0+2) rfl),dc hs.u I];exact⟨rfl,Ext.refl _⟩
theorem LP {A:ai} {t:aC} (h:cD w ag A t) (aO:iA t) (bd:t.ever<=1000000):aj x3 Dh [Γ ag] w λv w'=>v=Δ (t.marks.length:Int)/\ ∃au,Grow A w au w'/\cD w' ag au t.mark:=by
 obtain⟨an,aP,go,a8,aJ,X,bN,h1,av,ax,ay,ah⟩:=id h;obtain⟨be,bf,bg⟩:=aO;obtain⟨⟨aR,aS,az⟩,aT,aU⟩:=nJ h1 av ax ay;refine aA func123 ?_;rw[cA iR.u];simp only[j6,aQ];rw[aw,aa cB.p rfl,ac (v:=.int .u64 (t.ever:Int)) Ψ (h1.cell (o:=0+3) rfl),aN,wrap_u64 Ω Ω,aw,aa cB.p rfl];refine bj (o:=0+3) eo.i rfl rfl h1 Ξ λU Y bh ao=>?_;have ao:ae U ag cB [aJ,X,bN,.int .u64 ((t.ever:Int)+1)]:=ao;have ab:∀ {r:Nat},r=ag->¬(leadsTo aJ r\/leadsTo X r\/leadsTo bN r):=λhe aH=>by
  subst he;rcases aH with h|h|h
  .exact aR h
  .exact aS h
  .exact az h
 have aV:=av.V Y λr I he=>ab he (.inl I);have aW:=ax.V Y λr I he=>ab he (.inr (.inl I));have aX:=ay.V Y λr I he=>ab he (.inr (.inr I));intro bi W _ _;have ad:=ao.ext W;have aB:=aV.ext W;have aD:=aW.ext W;have aY:=aX.ext W;rw[aw,aa cB.p rfl,ac (v:=bN) Ψ (ad.cell (o:=0+2) rfl),aw,aa cB.p rfl,ac (v:=X) Ψ (ad.cell (o:=0+1) rfl),dc gu.u aD,aw,aa cB.p rfl,ac (v:=aJ) Ψ (ad.cell (o:=0+0) rfl),dc fJ.u aB,
  aw,aa cB.p rfl,ac (v:=.int .u64 ((t.ever:Int)+1)) Ψ (ad.cell (o:=0+3) rfl),cR (cs:=#[Δ (t.olds.length:Int),Δ (t.cells.length:Int),.int .u64 ((t.ever:Int)+1)]) Ψ]
 let a:l3:=⟨t.olds.length,t.cells.length,t.ever+1⟩;have aZ:∀u∈gR a,u.oneCell'=true:=by intro v aE;simp[gR] at aE;rcases aE with rfl|rfl|rfl <;> rfl
 refine fM (f:=gR) (a:=a) hs.u dn.i Ω rfl rfl λv3 bk aF bl J a1=>?_;refine⟨.inl J,?_⟩;have a2:=ad.ext J;have a7:=aY.ext J;refine gd (f:=gR) (a:=a) hs.u dn.i rfl a7 (by simpa using a1.sl) aZ Ω Ω λak aG bm al ba aI=>?_;have aK:=a2.V aI λhe=>az he;rw[aw,aa cB.p rfl];refine bj (o:=0+2) hs.i (cP al.sl).1 (cP al.sl).2 aK Ξ λap aL bn am=>?_;have am:ae ap ag cB [aJ,X,ak,.int .u64 ((t.ever:Int)+1)]:=am;have aM:a6 gR 3 dn ap aG ak (t.marks++[a]):=al.V aL λr I he=>by
  have he:r=ag:=he;subst he;exact b7 al aK Φ I
 have aq:af (λr=>leadsTo bN r\/r=ag) aF ap:=(aI.mono λr _ h=>.inl h).trans (aL.mono λr _ h=>.inr h);rw[aw,aa cB.p rfl,ac (v:=ak) Ψ (am.cell (o:=0+2) rfl),dc hs.u aM,r8,cX,wrap_i64 (by simp;try omega) (by simp;try omega)];have z3:=J.size;have bo:=W.size;have bp:=Y.size;have bb:=(aB.ext J).V aq λr I he=>he.elim (λhe=>(aT r I).2 he) λhe=>ab he (.inl I);have bc:=(aD.ext J).V aq λr I he=>he.elim (λhe=>(aU r I).2 he) λhe=>ab he (.inr (.inl I));refine⟨by congr 1;simp,λr=>A r\/aF.heap.size<=r,⟨?_,λr I=>I.imp id λh=>Ω,λr I=>.inl I⟩,.inl an,aP,go,aG,aJ,X,ak,am,bb,bc,aM,λr I=>?_⟩
 .exact ((Y.mono λr _ he=>by have he:r=ag:=he;rw[he];exact an).trans ((W.trans J).V _)).trans (aq.mono λr _ h=>h.elim (λh=>ah r (.inr (.inr h))) λh=>by rw[h];exact an)
 .rcases I with I|I|I
  .exact .inl (ah r (.inl I))
  .exact .inl (ah r (.inr (.inl I)))
  .rcases ba r I with h|h
   .exact .inl (ah r (.inr (.inr h)))
   .exact .inr h
theorem StateM.lm {al:Nat} {A R:ai} {n:aV} {s:aF} {t:aC} (h:StateM w al ag A R n s t):∃I,cD w ag I t/\ ∀J w' U,Grow I w J w'->cD w' ag J U->af (dd w) w w'/\ ∃V,Grow A w V w'/\StateM w' al ag V R n s U:=by
 obtain⟨W,X,Y,aa,ab⟩:=h;obtain⟨I,ac,ad⟩:=ab.lm;refine⟨I,ac,λJ w' U ae ah=>?_⟩;obtain⟨h1,V,aj,ak⟩:=ad J w' U ae ah;exact⟨h1,V,aj,W,X,Y,aa,ak⟩
section
variable {w:x2} {al ag:Nat} {A R:ai} {n:aV} {s:aF} {t:aC}
theorem LQ (h:b9 w al ag A R n s t):aj x3 CJ [Γ al] w λv w'=>v=Δ (t.marks.length:Int)/\Ext w w':=by
 obtain⟨U,V,W,X,Y,ab,L,ad,I,ae,J,af,ah,ai⟩:=h.1.parts;refine aA func40 ?_;rw[cA eW.u];simp only[j6,aQ];rw[aw,aa bz.p rfl,ac (v:=Γ ag) Ψ (I.cell (o:=0+1) rfl)];exact (BC J).mono λ_ _ _ h=>h
theorem LR (h:b9 w al ag A R n s t) (hm:t.marks.length<1000) (V:t.ever<=1000000):aj x3 wm [Γ al] w λv w'=>v=Δ (t.marks.length:Int)/\af (dd w) w w'/\ ∃I,Grow A w I w'/\b9 w' al ag I R n s t.mark:=by
 obtain⟨W,X,J,Y,ab⟩:=id h;obtain⟨aq,au,av,ax,ay,az,L,_,ad,_⟩:=h.1.parts;obtain⟨aB,ae,ah⟩:=W.lm;refine aA func44 ?_;rw[cA eW.u];simp only[j6,aQ];rw[aw,aa bz.p rfl,ac (v:=Γ ag) Ψ (ad.cell (o:=0+1) rfl)];refine (LP ae J V).mono ?_;rintro _ U _ ⟨rfl,ai,ak,am⟩;obtain⟨an,I,ao,ap⟩:=ah ai U _ ak am;refine⟨rfl,an,I,ao,ap,X,⟨J.1,J.2.1,?_⟩,Y,ab⟩;show (t.marks++_).length<=_;rw[r8];simp;omega
end
theorem bZ.down {B:x1->x2->(x1->x2->Prop)->Prop} (n:Nat) (I:Nat->x2->Prop) (X:n<=1000000000000) (U:I 0 w)
  (V:∀ (q:Nat) (w:x2) (k:x1->x2->Prop),q<n->I q w->(∀w',I (q+1) w'->k (Δ (Y5.wrap (((n-1-q:Nat):Int)-1))) w')->B (Δ ((n-1-q:Nat):Int)) w k)
  (W:∀ (w:x2) (k:x1->x2->Prop),I n w->B (Δ (-1)) w k):bZ (Δ ((n:Int)-1)) w B:=by
 refine⟨λt w=>∃q:Nat,t=Δ ((n:Int)-1-q)/\q<=n/\I q w,λt _=>(bL t+1).toNat,⟨0,Ξ,Y9 _,U⟩,?_⟩;rintro _ w ⟨q,rfl,Y,h⟩;by_cases J:q<n
 .have e:(n:Int)-1-q=((n-1-q:Nat):Int):=Ω
  rw[e];refine V q w _ J h λw' h'=>?_;rw[wrap_i64 Ω Ω];exact⟨⟨q+1,by congr 1;omega,J,h'⟩,by simp only[bL];omega⟩
 .have e:q=n:=Ω
  subst e;rw[show ((q:Int)-1-q)= -1 by omega];exact W w _ h
theorem LS {e:u9} {pl:List (Nat×Nat)} {b k:Nat} {z v:x1} {i:Nat} {α:Type} {f:α->List x1} {L:List α} {a:α} {S:ai} {K:x1->Prop} (hu:br x3 e pl) (V:x3.underlying t=σ (.slice e)) (hi:aM x3 e k b z) (U:∀x∈L,(f x).length=k)
  (h:gY S w k v L.length (L.flatMap f)) (I:L[i]? =σ a):J x3 (n0 t v (Δ (i:Int))) w (λp=>J x3 (x5 e p) w K)=K (.agg (f a).toArray):=by
 obtain⟨h1,ab,o,base,cap,rfl,ac,ad,W,_,X⟩:=h;have Y:=(x4.1 I).1;rw[fc V hi Y λh=>W Ω];rw[bn hu hi (U a (x6 I)) λj u aa=>?_];have:=X (i*k+j) u (mg U I aa);rwa [<-S7] at this
theorem LU {g go:Nat} {v:x1} {os:List iV} (ap:os.length<=100000000):
  lC x3 mW [Γ g] os.length (λk vs _=>∃o,os[os.length-1-k]? =σ o/\vs=[Δ ((os.length-1-k:Nat):Int),.agg (hL o).toArray])
   (λw=>ae w g gu [v]/\gY (λr=>r=go) w 3 v os.length (os.flatMap hL)):=by
 refine⟨mW.enters,λl ag aq w au _ ah ⟨W,I⟩ ai=>?_⟩;refine om func241 ?_;have aj:J x3 (Y3 #[gu] ab #[v]) w=λK=>K (Δ (os.length:Int)):=by
  obtain⟨_,_,_,_,_,rfl,_⟩:=I;funext K;exact gv gu.u
 rw[ac (o:=0) Ψ (W.cell (o:=0) rfl),aj];simp only[cX];rw[wrap_i64 Ω Ω];refine bZ.down os.length (λq U=>ag q U/\ae U g gu [v]/\gY (λr=>r=go) U 3 v os.length (os.flatMap hL)) Ω ⟨ai,W,I⟩ ?_ ?_
 .rintro q U k X ⟨V,Y,aa⟩ ak;obtain⟨o,af⟩:∃o,os[os.length-1-q]? =σ o:=⟨_,y0 Ω⟩;rw[cb,ad];refine⟨λ_=>?_,λh=>Ω⟩;rw[ac (o:=0) Ψ (Y.cell (o:=0) rfl),LS fa.p gu.u fa.i (λ_ _=>rfl) aa af];refine⟨rfl,(ah q _ U X ⟨Y,aa⟩ ⟨o,af,rfl⟩ V).mono ?_⟩;rintro _ av (⟨rfl,⟨al,am⟩,an⟩|⟨rfl,ao⟩)
  .rw[bg,Y1,aQ,cX];exact ak _ ⟨an.1,al,am⟩
  .rw[bg,X4,bO];exact .inr ⟨q,X,ao⟩
 .rintro U k ⟨V,_⟩;rw[cb,ad];exact⟨λh=>Ω,λ_=>.inl V⟩
section
variable {α:Type} {f:α->List x1} {k:Nat} {e:u9} {w:x2} {g:Nat} {v:x1} {L:List α}
theorem nY {b:Nat} {z:x1} {i:Nat} (Y:x3.underlying t=σ (.slice e)) (hi:aM x3 e k b z) (h:a6 f k e w g v L) (I:i<=L.length):
  ∃V,(∀ (w':x2) (K:x1->Prop),J x3 (W3 t v ν (σ (Δ (i:Int))) ν) w' K=K V)/\a6 f k e w g V (L.take i)/\ ∀r,leadsTo V r->leadsTo v r:=by
 obtain⟨⟨aj,⟨rfl,aa⟩|⟨cap,cs,rfl,ab,ak,ac,ad,ae⟩⟩,W⟩:=id h
 .have af:L=[]:=Z2 aa;subst af;have:i=0:=by simpa using I
  subst this;exact⟨_,λw' K=>fq Y hi (l:=0) (h:=0) (m:=0) hv lR er Ω Ω Ω,h,λr X=>X⟩
 .have ag:(if cap=0 then (σ ⟨g,0,ν⟩:Option Addr) else V7 (λx:Addr=>x.add (0*k)) (σ ⟨g,0,ν⟩))=σ ⟨g,0,ν⟩:=by split <;> simp[U4]
  refine⟨.slice (σ ⟨g,0,ν⟩) i cap,λw' K=>?_,⟨⟨?_,.inr ⟨cap,cs,by rw[o7,T5 I],ab,by rw[o7];omega,ac,ad,?_⟩⟩,λa U=>W a (T2 U)⟩,λr X=>by obtain⟨a,_,_,e,ah⟩:=X;cases e;exact⟨_,_,_,rfl,ah⟩⟩
  .rw[fq Y hi (l:=0) (h:=i) (m:=cap) hv lR er Ω Ω Ω,ag,Nat.sub_zero,Nat.sub_zero]
  .rw[fw λa U=>W a (T2 U)]
  .rw[o7,T5 I];have ai:L.flatMap f=(L.take i).flatMap f++(L.drop i).flatMap f:=by rw[<-List.flatMap_append,List.take_append_drop]
   have al:((L.take i).flatMap f).length=i*k:=by rw[fw λa U=>W a (T2 U),o7,T5 I]
   have:cs.take (i*k)=(cs.take (L.length*k)).take (i*k):=by rw[List.take_take,T5 (X3 _ I)]
   rw[this,ae,ai,List.take_append_of_le_length Ω,Z0 Ω]
theorem LV {b:Nat} {z:x1} {i:Nat} {K:x1->Prop} (V:x3.underlying t=σ (.slice e)) (hi:aM x3 e k b z) (h:a6 f k e w g v L) (W:i<=L.length)
  (X:∀Y,gY (λr=>r=g) w k Y (L.drop i).length ((L.drop i).flatMap f)->K Y):J x3 (W3 t v (σ (Δ (i:Int))) ν ν) w K:=by
 obtain⟨⟨ah,⟨rfl,ab⟩|⟨cap,cs,rfl,ac,ai,aj,ak,ad⟩⟩,I⟩:=id h
 .have ae:L=[]:=Z2 ab;subst ae;have:i=0:=by simpa using W
  subst this;rw[fq V hi (l:=0) (h:=0) (m:=0) lO hx er Ω Ω Ω];exact X _ ⟨Ξ,0,0,ν,0,Ξ,Ξ,by simp[maxLen],λh=>by simp at h,λh=>by simp at h,λj v h=>by simp at h⟩
 .rw[fq V hi (l:=i) (h:=L.length) (m:=cap) lO hx er Ω Ω Ω];have af:L.flatMap f=(L.take i).flatMap f++(L.drop i).flatMap f:=by rw[<-List.flatMap_append,List.take_append_drop]
  have ag:((L.take i).flatMap f).length=i*k:=by rw[fw λa U=>I a (T2 U),o7,T5 W]
  refine X _ ⟨fw λa U=>I a (List.mem_of_mem_drop U),g,i*k,_,cap-i,by rw[R0],by rw[R0];omega,Ω,λh=>?_,λ_=>rfl,λj u hu=>?_⟩
  .rw[R0] at h;rw[if_neg Ω];simp[U4]
  .have h1:(L.flatMap f)[i*k+j]? =σ u:=by rw[af,Z1 Ω,ag,S8];exact hu
   have aa:=(x4.1 h1).1;rw[fw I] at aa;rw[<-ad,Y2 aa] at h1;have:=ac.cell h1;simpa using this
end
theorem BD {A:ai} {t:aC} {m:Int} (h:cD w ag A t):aj x3 DQ [Γ ag,Δ m] w λv w'=>v= .bool (decide (0<=m/\m<t.marks.length))/\Ext w w':=by
 refine aA func189 ?_;refine aP (λv U=>v= .bool (decide (0<=m/\m<t.marks.length))/\Ext w U) (λ_ _ h=>h) λW I=>?_;rw[cb,ad];refine⟨λJ=>?_,λJ=>I _ _ ⟨by rw[decide_eq_false Ω],Ext.refl _⟩⟩;refine (BC h).mono ?_;rintro _ U _ ⟨rfl,V⟩;rw[ao];refine I _ _ ⟨?_,V⟩;congr 1;exact decide_eq_decide.2 ⟨λh=>⟨J,h⟩,λh=>h.2⟩
theorem LW {A:ai} {t:aC} {m:Int} (h:cD w ag A t) (hm:¬(0<=m/\m<t.marks.length)):aj x3 wB [Γ ag,Δ m] w λv w'=>v=Δ 2/\Ext w w':=by
 refine lL func126 ?_;refine bM λV U Y J I=>?_;have I:ae U V iR [Γ ag]:=I;rw[ac (o:=0) Ψ (I.cell (o:=0) rfl)];refine (BD (m:=m) (h.ext J)).mono ?_;rintro _ aa _ ⟨rfl,W⟩;rw[decide_eq_false hm,bg,X4,bO];intro ab X _;exact⟨rfl,(J.trans W).trans X⟩
theorem LX {A:ai} {t:aC} {x:l3} (h:cD w ag A t) (bL:iA t) (hm:t.marks[m]? =σ x) (be:x.olds<=t.olds.length) (bO:x.cells<=t.cells.length) (bf:∀o∈t.olds.drop x.olds,o.i<t.cells.length):
  aj x3 wB [Γ ag,Δ (m:Int)] w λv w'=>v=Δ 0/\ ∃bh,Grow A w bh w'/\cD w' ag bh (t.gM m):=by
 have bP:=(x4.1 hm).1;obtain⟨cq,cr,ct⟩:=bL;refine lL func126 ?_;refine bM λau U cu bi X=>?_;have X:ae U au iR [Γ ag]:=X;rw[ac (o:=0) Ψ (X.cell (o:=0) rfl)];refine (BD (m:=(m:Int)) (h.ext bi)).mono ?_;rintro _ bk _ ⟨rfl,ah⟩;have aF:=bi.trans ah;rw[decide_eq_true Ω,bg,Y1,aQ];obtain⟨bl,aR,go,a8,aJ,ak,bN,h1,av,aG,aH,bm⟩:=id (h.ext aF);obtain⟨⟨aS,bQ,bR⟩,aT,cw⟩:=nJ h1 av aG aH;rw[ac (o:=0) Ψ ((X.ext ah).cell (o:=0) rfl),aw,aa cB.p rfl,ac (v:=bN) Ψ (h1.cell (o:=0+2) rfl),cO rfl hs.u dn.i aH bP,bn dn.p dn.i rfl (aH.range hm)];refine bt dn.i λam cz cA bS bT=>?_;refine bJ (vs:=gR x) dn.i rfl rfl (by intro v ab;simp[gR] at ab;rcases ab with rfl|rfl|rfl <;> rfl) bT λbU bV cC bo=>?_;have bW:Ext bk bU:=bS.then bV λr I he=>by have he:r=am:=he;omega
 intro cE aU _ _;have an:=bW.trans aU;have cF:=aF.trans an;rw[ac (o:=0) Ψ ((X.ext (ah.trans an)).cell (o:=0) rfl),aw,aa cB.p rfl,ac (v:=ak) Ψ ((h1.ext an).cell (o:=0+1) rfl),aa dn.p rfl,ac (v:=Δ (x.olds:Int)) Ψ ((bo.ext aU).cell (o:=0+0) rfl)];refine LV gu.u fa.i (aG.ext an) be λbp aV=>?_;refine aA func190 ?_;refine bM λaI bq cG aK aL=>?_;have aL:ae bq aI gu [bp]:=by
  obtain⟨_,_,_,_,_,e,_⟩:=aV;rw[e] at aL ⊢;exact aL
 rw[kj];obtain⟨os,aM⟩:∃os,os=t.olds.drop x.olds:=⟨_,rfl⟩;rw[<-aM] at aV bf;have bX:os.length<=100000000:=by rw[aM,R0];omega
 have ad:=an.trans aK;have bY:=aF.trans ad;have bZ:=LU (g:=aI) (go:=go) (v:=bp) bX;have cH:=aF.size;have cI:=an.size;have cJ:=aK.size;have br:∀r,leadsTo aJ r->r=aR/\r<bk.heap.size:=λr I=>⟨(av.leads I).1,by have:=av.leads I;omega⟩;have bu:¬leadsTo aJ au:=λhe=>b7 av (X.ext ah) Φ he;refine lD.old ⟨Nat,false,mW,#[Γ aI],0,_,_,_,λq w'=>af (λr=>leadsTo aJ r) bq w'/\a6 fP 2 dB w' aR aJ (back (os.drop (os.length-q)) t.cells),λ_ _ _=>False,rfl,bZ.s,
  ?_,λ_ _ ax h=>⟨h.1.ext ax,h.2.V (ax.V λ_=>False) λ_ _ _ h=>h⟩,λ_ _ _ ax h=>⟨h.1.trans (ax.V _),h.2.ext ax⟩,λ_ _ _ _ _ h=>h,⟨aL,aV.V (aK.V λ_=>False) λ_ _ _ h=>h⟩,⟨af.refl _ _,?_⟩,?_,?_,λ_ _ h=>h.elim,λ_ _ _ h=>h.elim⟩
 .rintro _ _ _ _ ⟨_,_,_,_,rfl⟩;rfl
 .rw[Nat.sub_zero,List.drop_length];exact av.ext ad
 .rintro _ ak q _ bw ⟨b0,b1⟩ ⟨bx,rfl,o,bz,b2⟩ ⟨J,aN⟩;cases b2;have cK:=bf o (x6 bz);have b3:=J.size;refine bt fa.i λb4 al cL W b5=>?_;refine bJ (vs:=hL o) fa.i rfl rfl (by intro v ab;simp[hL] at ab;rcases ab with rfl|rfl|rfl <;> rfl) b5 λay az b6 aB=>?_;have b8:Ext bw ay:=W.then az λr I he=>by have he:r=b4:=he;omega
  intro aW bA _ cM aD bB _ _;have ao:=(b8.trans bA).trans bB;have ap:=(aB.ext bA).ext bB;have Y:ae aD au iR [Γ ag]:=((X.ext (ah.trans ad)).V J bu).ext ao;have aq:ae aD ag cB [aJ,ak,bN,.int .u64 (t.ever:Int)]:=((h1.ext ad).V J aS).ext ao;have bC:=aN.ext ao;have cN:(back (os.drop (os.length-q)) t.cells).length=t.cells.length:=l4 _ _;rw[ac (o:=0) Ψ (Y.cell (o:=0) rfl),aw,aa cB.p rfl,ac (v:=aJ) Ψ (aq.cell (o:=0+0) rfl),aa fa.p rfl,ac (v:=Δ (o.i:Int)) Ψ (ap.cell (o:=0+0) rfl),aa fa.p rfl,
   bn (cs:=fP o.c) (o:=0+1) dB.p dB.i rfl (λj u b9=>by
    have:(hL o)[1+j]? =σ u:=by rw[Nat.add_comm];exact b9
    have:=ap.cell this;simpa using this),cO rfl fJ.u dB.i bC Ω]
  refine yW (f:=fP) (a:=o.c) dB.i bC rfl (by intro v ab;simp[fP] at ab;rcases ab with rfl|rfl <;> rfl) Ω λca aX cQ cb=>?_;have cc:leadsTo ak go:=by
   obtain⟨_,cR,cS,e,_⟩:=z1 aG (by rintro e;rw[aM,e] at bx;simp at bx);exact⟨_,_,_,e,rfl⟩
  have cd:∀r,r=go->¬leadsTo aJ r:=λr e I=>by subst e;exact (aT r I).1 cc
  refine⟨⟨(b0.ext ao).V aX λhe=>by have:=br aI he;omega,(b1.V (ao.V λ_=>False) λ_ _ _ h=>h).V aX λr _=>cd r⟩,⟨(J.trans (ao.V _)).trans aX,?_⟩,λh=>by cases h⟩;have e:os.drop (os.length-(q+1))=o::os.drop (os.length-q):=by
   rw[show os.length-(q+1)=os.length-1-q by omega,W8 Ω,show os.length-1-q+1=os.length-q by omega];congr 1;exact (x4.1 bz).2
  rw[e];exact cb
 .rintro q bw rfl ⟨J,aN⟩;rw[W7,List.drop_zero] at aN;intro al W _ _;have b3:=J.size;have z9:=W.size;have Y:ae al au iR [Γ ag]:=((X.ext (ah.trans ad)).V J bu).ext W;have aq:ae al ag cB [aJ,ak,bN,.int .u64 (t.ever:Int)]:=((h1.ext ad).V J aS).ext W;have aY:ae al am dn (gR x):=((bo.ext (aU.trans aK)).V J λhe=>by have:=br am he;omega).ext W;have ce:a6 hL 3 fa al go ak t.olds:=((aG.ext ad).V J λr I he=>(aT r he).1 I).ext W;have cg:a6 gR 3 dn al a8 bN t.marks:=((aH.ext ad).V J λr I he=>(aT r he).2 I).ext W;have ch:=aN.ext W;obtain⟨aO,ci,aZ,bD⟩:=nY (i:=x.olds) gu.u fa.i ce be;obtain⟨a1,bE,a2,bF⟩:=nY (i:=x.cells) fJ.u dB.i ch (by rw[l4];exact bO);obtain⟨bG,a7,ba,bH⟩:=nY (i:=m) hs.u dn.i cg Ω;rw[ac (o:=0) Ψ (Y.cell (o:=0) rfl),ac (o:=0) Ψ (Y.cell (o:=0) rfl),ac (o:=0) Ψ (Y.cell (o:=0) rfl),ac (o:=0) Ψ (Y.cell (o:=0) rfl),aw,aa cB.p rfl,ac (v:=ak) Ψ (aq.cell (o:=0+1) rfl),aa dn.p rfl,ac (v:=Δ (x.olds:Int)) Ψ (aY.cell (o:=0+0) rfl),ci,
   ac (o:=0) Ψ (Y.cell (o:=0) rfl),aw,aa cB.p rfl,ac (v:=aJ) Ψ (aq.cell (o:=0+0) rfl),aa dn.p rfl,ac (v:=Δ (x.cells:Int)) Ψ (aY.cell (o:=0+1) rfl),bE,
   ac (o:=0) Ψ (Y.cell (o:=0) rfl),aw,aa cB.p rfl,ac (v:=bN) Ψ (aq.cell (o:=0+2) rfl),a7,aw,aa cB.p rfl]
  have bb:∀ {u u':x1} {r:Nat},(∀r,leadsTo u' r->leadsTo u r)->¬leadsTo u ag->leadsTo u' r->¬r=ag:=λcj ck cl he=>by subst he;exact ck (cj _ cl)
  have cm:¬am=ag:=λhe=>by have:=h1.lt;omega
  have bI:¬au=ag:=λhe=>by
   subst he;exact absurd (eu (X.ext ah) h1) Φ
  refine bj (o:=0+1) gu.i (cP aZ.sl).1 (cP aZ.sl).2 aq Ξ λay az b6 aB=>?_;have aB:ae ay ag cB [aJ,aO,bN,.int .u64 (t.ever:Int)]:=aB;have bc:=Y.V az bI;have cn:=aY.V az cm;refine⟨.inr ⟨Go.Vc.gA λK=>a7 ay K,Go.Vc.gA λK=>bE ay K,kt Ψ (cn.cell (o:=0+1) rfl),Go.Vc.gA λK=>aa dn.p rfl,kt Ψ (bc.cell (o:=0) rfl),kt Ψ (bc.cell (o:=0) rfl),trivial⟩,?_⟩;rw[aw,aa cB.p rfl];refine bj (o:=0+0) fJ.i (cP a2.sl).1 (cP a2.sl).2 aB Ξ λaW bK cT bd=>?_;have bd:ae aW ag cB [a1,aO,bN,.int .u64 (t.ever:Int)]:=bd;refine⟨.inr ⟨Go.Vc.gA λK=>a7 aW K,kt Ψ ((bc.V bK bI).cell (o:=0) rfl),trivial⟩,?_⟩;rw[aw,aa cB.p rfl];refine bj (o:=0+2) hs.i (cP ba.sl).1 (cP ba.sl).2 bd Ξ λaD cp cU ap=>?_;have ap:ae aD ag cB [a1,aO,bG,.int .u64 (t.ever:Int)]:=ap;intro ca aE _;have aP:af (λr=>r=ag) al aD:=(az.trans bK).trans cp;have hu:t.gM m={cells:=(back os t.cells).take x.cells,olds:=t.olds.take x.olds,marks:=t.marks.take m,ever:=t.ever}:=by
   unfold aC.gM;rw[hm,aM]
  refine⟨rfl,A,⟨?_,λ_ h=>.inl h,λ_ h=>h⟩,?_⟩
  .exact ((bY.V A).trans (J.mono λr _ h=>bm r (.inl h))).trans ((W.V A).trans ((aP.mono λr _ h=>by have h:r=ag:=h;rw[h];exact bl).trans (aE.V A)))
  .rw[hu];exact⟨bl,aR,go,a8,a1,aO,bG,ap.ext aE,(a2.V aP λr I=>bb bF aS I).ext aE,(aZ.V aP λr I=>bb bD bQ I).ext aE,(ba.V aP λr I=>bb bH bR I).ext aE,λr I=>bm r (I.imp (bF r) λh=>h.imp (bD r) (bH r))⟩
structure fF (a b:aF):Prop where
 off:gE b=gE a
 fn:∀ (j:Nat) f,a.funs[j]? =σ f-> ∃f',b.funs[j]? =σ f'/\f'.sc=f.sc/\f'.szs=f.szs/\dT b j=dT a j
 el:∃l,b.elims=a.elims++l
theorem fF.refl (s:aF):fF s s:=⟨rfl,λj f h=>⟨f,h,rfl,rfl,rfl⟩,[],by rw[V4]⟩
theorem fF.trans {a b c:aF} (h:fF a b) (k:fF b c):fF a c:=by
 refine⟨k.off.trans h.off,λj f I=>?_,?_⟩
 .obtain⟨J,h1,U,V,W⟩:=h.fn j f I;obtain⟨f2,X,Y,aa,ab⟩:=k.fn j J h1;exact⟨f2,X,Y.trans U,aa.trans V,ab.trans W⟩
 .obtain⟨l,e⟩:=h.el;obtain⟨l',ac⟩:=k.el;exact⟨l++l',by rw[ac,e,V9]⟩
theorem jd.kP {s s':aF} (h:jd s s'):fF s s':=
 ⟨h.1,λj f J=>by
  have Y:=h.2.1;obtain⟨I,U⟩:∃I,s'.funs[j]? =σ I:=⟨_,y0 (by have:=(x4.1 J).1;omega)⟩;obtain⟨f0,h1,V,W,X⟩:=h.2.2.1 j I U;rw[J] at h1;cases h1;exact⟨I,U,V,W,X⟩,[],by rw[h.2.2.2,V4]⟩
theorem fF.funs {a b:aF} (h:fF a b):a.funs.length<=b.funs.length:=by
 by_cases I:a.funs.length=0
 .omega
 obtain⟨J,h1,_⟩:=h.fn (a.funs.length-1) _ (y0 Ω);have:=(x4.1 h1).1;omega
section
variable {w:x2} {al ag:Nat} {A R:ai} {n:aV} {s dr:aF} {t dk:aC} {aH:List aC} {m:Nat}
theorem LY {m:Int} (h:b9 w al ag A R n s t) (hm:¬(0<=m/\m<t.marks.length)):aj x3 qk [Γ al,Δ m] w λv w'=>v=Δ 2/\Ext w w':=by
 obtain⟨W,X,Y,aa,ab,ac,L,ae,I,af,J,ah,ai,ak⟩:=h.1.parts;refine aA func47 ?_;rw[cA eW.u];simp only[j6,aQ];rw[lV bz.p 1 I rfl];refine (LW J hm).mono ?_;rintro _ U _ ⟨rfl,V⟩;rw[bB,ad];exact⟨λ_=>⟨rfl,V⟩,λh=>absurd Φ h⟩
theorem LZ (h:b9 w al ag A R n s t) (a8:dp t aH) (hm:aH.reverse[m]? =σ dk) (aJ:dk.bS=dr.cells) (ba:eN n.k n.sizes dr) (ah:fF dr s):
  aj x3 qk [Γ al,Δ (m:Int)] w λv w'=>v=Δ 0/\af (dd w) w w'/\ ∃ac,Grow A w ac w'/\b9 w' al ag ac R n dr {dk with ever:=t.ever}:=by
 obtain⟨⟨ai,ak,bQ,bc,aK⟩,bR,aL,bT,bd⟩:=id h;obtain⟨hu,x,be,bf,bV,bW,⟨new,aM,bX,bg⟩,bh,bY⟩:=a8.gM hm;obtain⟨bZ,b0,b1⟩:=id aL;have aN:(t.gM m).bS=dr.cells:=by rw[hu];exact aJ
 obtain⟨⟨a0,_⟩,_,_,_,_,_,_,_,aO,_⟩:=id aK;refine aA func47 ?_;rw[cA eW.u];simp only[j6,aQ];rw[lV bz.p 1 aO rfl];obtain⟨b2,bi,bk⟩:=aK.lm;have b3:dk.olds.length<=t.olds.length:=by rw[aM,r8];omega
 refine (LX bi aL be Ω Ω (λo am=>by rw[aM,bf,List.drop_left] at am;exact bg o am)).mono ?_;rintro _ U _ ⟨rfl,bl,bm,bn⟩;obtain⟨bo,ac,ao,bp⟩:=bk bl U _ bm bn;rw[bB,ad];refine⟨λh=>absurd rfl h,λ_=>?_⟩;intro aP ap _ _;have bq:=bp.ext ap;obtain⟨⟨X,Y,a3,a4⟩,br,bt,ge,L,E,bu,w0,ab,⟨bw,bx,aR⟩,⟨aq,bA,au,bC⟩,aS,⟨aT,aU⟩,aV,aW⟩:=id bq;rw[lV bz.p 3 ab rfl,lV bz.p 1 ab rfl];refine (kE (i:=1) aq rfl (show (t.gM m).bS[1]? =σ (dr.funs.length:Int) by rw[aN];exact JG dr)).mono ?_;rintro _ b4 _ ⟨rfl,av⟩;refine⟨.inl av,?_⟩;have aX:dr.funs.length<=L.length:=by rw[aU.1];exact ah.funs
 obtain⟨l,aY⟩:=ah.el;have aZ:dr.elims.length<=E.length:=by rw[aW.1,aY,r8];omega
 obtain⟨an,bD,ax,a1⟩:=nY (i:=dr.funs.length) dY.u dl.i aT aX;obtain⟨ev',bE,ay,a2⟩:=nY (i:=dr.elims.length) gq.u b8.i aV aZ;rw[bD,aw,aa bz.p rfl];refine bj (o:=0+3) dY.i (cP ax.sl).1 (cP ax.sl).2 (ab.ext av) Ξ λbF bG b5 az=>?_;have az:ae bF al bz [Γ ai,Γ ag,ak,an,bc]:=az;intro bH a6 _ _;have aB:=az.ext a6;have a7:af (λr=>r=al) aP bH:=((av.V _).trans bG).trans (a6.V _);have bI:=aq.V a7 λr I he=>au (he▸I);rw[lV bz.p 4 aB rfl,lV bz.p 1 aB rfl];refine (kE (i:=2) bI rfl (show (t.gM m).bS[2]? =σ (dr.elims.length:Int) by rw[aN];exact JH dr)).mono ?_;rintro _ b6 _ ⟨rfl,aC⟩;refine⟨.inl aC,?_⟩;rw[bE,aw,aa bz.p rfl];refine bj (o:=0+4) gq.i (cP ay.sl).1 (cP ay.sl).2 (aB.ext aC) Ξ λaD bJ ca aE=>?_;have aE:ae aD al bz [Γ ai,Γ ag,ak,an,ev']:=aE;have J:af (λr=>r=al) aP aD:=(a7.trans (aC.V _)).trans bJ;have cb:=J.size;have bK:dV aD al ag ai ak an ev' ac R n dr (t.gM m):=by
  refine⟨⟨X,Y,λr I=>by have:=a3 r I;omega,λr I=>by have:=a4 r I;omega⟩,br,bt,ge,L.take dr.funs.length,E.take dr.elims.length,bu,w0,aE,⟨bw,nM bx J λr o I am he=>Y r (he▸X) (aR r o I am),aR⟩,⟨aq.V J λr I he=>au (he▸I),bA,au,λr I=>bC r (I.imp id λh=>h.imp (a1 r) (a2 r))⟩,?_,⟨ax.V J λr I he=>?_,?_,λj y f W bL=>?_⟩,ay.V J λr I he=>?_,?_,λj y e W he=>?_⟩
  .rw[<-ah.off];exact bb aS J λr I he=>by cases he;exact bU aS ab Φ I rfl
  .cases he;exact b7 aT ab Φ (a1 _ I)
  .rw[o7,T5 aX]
  .rw[List.getElem?_take] at W;split at W
   .obtain⟨bM,h1,bN,bO,bP⟩:=ah.fn j f bL;obtain⟨aF,aG,aI⟩:=aU.2 j y bM W h1;rw[<-bN,<-bO,<-bP];exact⟨aF.V J λr _ I he=>Y r (he▸X) I,aG.V J λr _ I he=>Y r (he▸X) I,aI⟩
   .cases W
  .cases he;exact b7 aV ab Φ (a2 _ I)
  .rw[o7,T5 aZ]
  .rw[List.getElem?_take] at W;split at W
   .have h1:s.elims[j]? =σ e:=by rw[aY,j0 (x4.1 he).1];exact he
    obtain⟨aF,aG,aI⟩:=aW.2 j y e W h1;exact⟨aF,aG.V J λr _ I he=>Y r (he▸X) I,aI.V J λr _ I he=>Y r (he▸X) I⟩
   .cases W
 refine⟨by trivial,(bo.trans (ap.V _)).trans (J.mono λr _ he=>he▸ .inl ⟨_,_,aO,Φ⟩),ac,⟨(ao.1.trans (ap.V _)).trans (J.mono λr _ he=>he▸a0),ao.2.1,ao.2.2⟩,⟨ai,ak,an,ev',hu▸bK⟩,aJ,⟨?_,?_,?_⟩,ba,bd⟩
 .show dk.cells.length<=_;omega
 .show dk.olds.length<=_;omega
 .show dk.marks.length<=_;rw[bh,o7];omega
end
theorem L0 (s:aF) (f:ev):fF s {s with funs:=s.funs++[f]}:=
 ⟨rfl,λj g I=>by
  have J:=(x4.1 I).1;refine⟨g,by show (s.funs++[f])[j]? =_;rw[j0 J];exact I,rfl,rfl,?_⟩;unfold dT;show 3+(_+(((s.funs++[f]).take j).flatMap fR).length)=_;rw[List.take_append_of_le_length Ω],[],(V4 _).symm⟩
theorem L1 {s:aF} {e:hM} {i:Nat} {x y:fQ} (I:s.vars[i]? =σ x) (J:y.un.length=x.un.length):fF s {s with elims:=s.elims++[e],vars:=s.vars.set i y}:=
 fF.trans (b:={s with elims:=s.elims++[e]}) ⟨rfl,λj f h=>⟨f,h,rfl,rfl,rfl⟩,[e],rfl⟩ (pq (s:={s with elims:=s.elims++[e]}) I J).kP
theorem L2 {n:aV} {s:aF} {a:de}:fF s (hp n s a):=by
 unfold hp mC lu kO mE lv mD mG gT gF iG iJ gn
 repeat' split
 all_goals first
  |exact fF.refl _
  |exact (uf s _).kP
  |exact L0 _ _
  |(rename_i I;exact L1 I rfl)
  |(rename_i I;refine jd.kP (pq I ?_) <;> simp;done)
  |(rename_i I;refine jd.kP (ug I ?_ ?_ ?_) <;> simp;done)
  |(rename_i I;cases I;refine jd.kP (ug (by assumption) ?_ ?_ ?_) <;> simp;done)
def nZ (s:aF):Prop:=∀e∈s.elims,e.sc.length<=1000/\e.ec.length<=1000
theorem L3 {n:aV} {s:aF} {a:de} (h:nZ s):nZ (hp n s a):=by
 unfold hp mC lu kO mE lv mD mG gT gF iG iJ gn
 repeat' split
 all_goals first
  |exact h
  |(intro e he
    rcases n9.1 he with he|he
    .exact h e he
    .rw[l9.1 he];refine⟨by show (a.sc.take 4).length<=_;rw[o7];omega,?_⟩;show (jj n a).length<=_;unfold jj jX;split
     .simp;omega
     .rw[o7];omega)
structure jl (n:aV) (s:aF) (h:List aC) (I:List aF):Prop where
 len:I.length=h.length
 val:∀ (i:Nat) dk dr,h.reverse[i]? =σ dk->I[i]? =σ dr->dk.bS=dr.cells
 ok:∀dr∈I,eN n.k n.sizes dr
 kP:∀dr∈I,fF dr s
 dP:I.Pairwise fF
theorem jl.step {n:aV} {s s':aF} {h:List aC} {I:List aF} (k:jl n s h I) (J:fF s s'):jl n s' h I:=⟨k.len,k.val,k.ok,λdr hm=>(k.kP dr hm).trans J,k.dP⟩
theorem jl.mark {n:aV} {s:aF} {t:aC} {h:List aC} {I:List aF} (k:jl n s h I) (V:t.bS=s.cells) (W:eN n.k n.sizes s):jl n s (t::h) (I++[s]):=by
 refine⟨by simp[k.len],λi dk dr h1 J=>?_,λdr hm=>?_,λdr hm=>?_,?_⟩
 .rw[List.reverse_cons] at h1;by_cases hi:i<I.length
  .rw[j0 (by rw[List.length_reverse,<-k.len];exact hi)] at h1;rw[j0 hi] at J;exact k.val i dk dr h1 J
  .rw[Z1 (by rw[List.length_reverse,<-k.len];omega),List.length_reverse,<-k.len] at h1;rw[Z1 Ω] at J;cases U:i-I.length with
   |zero=>rw[U] at h1 J;cases h1;cases J;exact V
   |succ q=>rw[U] at h1;simp at h1
 .rcases n9.1 hm with hm|hm
  .exact k.ok dr hm
  .rw[l9.1 hm];exact W
 .rcases n9.1 hm with hm|hm
  .exact k.kP dr hm
  .rw[l9.1 hm];exact fF.refl _
 .rw[List.pairwise_append];exact⟨k.dP,List.pairwise_singleton _ _,λa X b Y=>by rw[l9.1 Y];exact k.kP a X⟩
theorem jl.gM {n:aV} {s dr:aF} {h:List aC} {I:List aF} (k:jl n s h I) (hm:I[m]? =σ dr):jl n dr (h.drop (h.length-m)) (I.take m):=by
 have W:=(x4.1 hm).1;have X:=k.len;refine⟨Θ,λi V s' h1 J=>?_,λa U=>k.ok a (T2 U),λa U=>?_,k.dP.sublist (List.take_sublist _ _)⟩
 .rw[List.getElem?_take] at J;split at J
  .refine k.val i V s' ?_ J;rw[<-List.take_append_drop m h.reverse,j0 Θ];rw[<-h1,List.reverse_drop,show h.length-(h.length-m)=m by omega]
  .cases J
 .obtain⟨i,hi⟩:=Y7.1 U;rw[List.getElem?_take] at hi;split at hi
  .obtain⟨h1,rfl⟩:=x4.1 hi;obtain⟨J,rfl⟩:=x4.1 hm;exact V0.1 k.dP i m h1 J (by assumption)
  .cases hi
def iK (w:x2) (a8:Nat) (O M aO:ai) (k:Int) (sizes:List Int) (I:List aF):Prop:=
 O a8/\ ∃bN g L,ae w a8 cV [bN]/\a6 (λx:List x1=>x) 8 aE w g bN L/\(∀r,leadsTo bN r->O r)/\L.length=I.length/\
  ∀ (i:Nat) cs s,L[i]? =σ cs->I[i]? =σ s-> ∃J,fj true J aO w cs k sizes s/\ ∀q r,J q r->M r
section
variable {w w':x2} {al ag am a8:Nat} {A R O M aO:ai} {A9:Nat->ai} {k:Int} {sizes:List Int} {I:List aF} {n:aV} {s u:aF} {t:aC} {h:List aC} {cs:List x1}
theorem iK.V {S:ai} (h:iK w a8 O M aO k sizes I) (U:af S w w') (W:∀r,r<w.heap.size->O r\/M r\/aO r->¬S r):iK w' a8 O M aO k sizes I:=by
 obtain⟨X,bN,g,L,h1,Y,aa,ac,ad⟩:=h;refine⟨X,bN,g,L,h1.V U (W a8 h1.lt (.inl X)),Y.V U λr J=>W r (by obtain⟨aj,e⟩:=Y.leads J;omega) (.inl (aa r J)),aa,ac,λi cs s hi ae=>?_⟩;obtain⟨ag,ah,ab⟩:=ad i cs s hi ae;exact⟨ag,ah.V U λr J h=>W r J (.inr (h.imp (λ⟨q,h⟩=>ab q r h) id)),ab⟩
theorem iK.ext (h:iK w a8 O M aO k sizes I) (J:Ext w w'):iK w' a8 O M aO k sizes I:=h.V (J.V λ_=>False) λ_ _ _ h=>h
theorem iK.mono {R9':ai} (h:iK w a8 O M aO k sizes I) (U:∀r,aO r->R9' r) (V:∀r,M r->¬R9' r):iK w a8 O M R9' k sizes I:=by
 obtain⟨W,bN,g,L,h1,X,Y,aa,ab⟩:=h;refine⟨W,bN,g,L,h1,X,Y,aa,λi cs s hi ac=>?_⟩;obtain⟨ad,ae,J⟩:=ab i cs s hi ac;exact⟨ad,ae.mono U λq r af=>V r (J q r af),J⟩
structure pM (w:x2) (am:Nat) (A R:ai) (A9:Nat->ai) (aO O M:ai):Prop where
 o:∀r,O r->r<w.heap.size/\¬A r/\¬R r/\(∀q,¬A9 q r)/\¬aO r/\r≠am/\¬M r
 m:∀r,M r->r<w.heap.size/\¬A r/\(∀q,¬A9 q r)/\¬aO r/\r≠am
theorem pM.grow {X R' R9':ai} {bK:Nat->ai} (h:pM w am A R A9 aO O M) (ag:w.heap.size<=w'.heap.size) (Y:∀r,X r->A r\/w.heap.size<=r) (ac:∀r,R' r->R r\/w.heap.size<=r) (aa:∀q r,bK q r->(∃ad,A9 ad r)\/w.heap.size<=r) (ab:∀r,R9' r->aO r\/w.heap.size<=r):pM w' am X R' bK R9' O M:=by
 refine⟨λr I=>?_,λr I=>?_⟩
 .obtain⟨h1,J,ae,U,V,W,af⟩:=h.o r I;exact⟨Ω,λh=>(Y r h).elim J λh=>Ω,λh=>(ac r h).elim ae λh=>Ω,λq h=>(aa q r h).elim (λ⟨q,h⟩=>U q h) λh=>Ω,λh=>(ab r h).elim V λh=>Ω,W,af⟩
 .obtain⟨h1,J,U,V,W⟩:=h.m r I;exact⟨Ω,λh=>(Y r h).elim J λh=>Ω,λq h=>(aa q r h).elim (λ⟨q,h⟩=>U q h) λh=>Ω,λh=>(ab r h).elim V λh=>Ω,W⟩
theorem bG.side {S:ai} (p:bG w al ag am A R A9 aO n s u t h cs) (W:af S w w') (U:∀r,r<w.heap.size->S r->¬A r/\¬R r/\(∀q,¬A9 q r)/\¬aO r/\r≠am):bG w' al ag am A R A9 aO n s u t h cs:=by
 have z:=W.size;exact⟨⟨p.cc.1.V W λr J h I=>h.elim (U r J I).1 (U r J I).2.1,p.cc.2⟩,p.gm,p.box.V W λI=>(U am p.box.lt I).2.2.2.2 rfl,p.doc.V W λr J h I=>h.elim (λ⟨q,h⟩=>(U r J I).2.2.1 q h) (U r J I).2.2.2.1,p.apart,
  λr J=>⟨λh=>(p.read r J).1 (ll (λo X I _=>W.a7 r o X I λY=>(U r (p.read r J).2.1 Y).2.2.2.1 J) h),by have:=(p.read r J).2.1;omega,(p.read r J).2.2⟩,p.out⟩
theorem bG.L4 (p:bG w al ag am A R A9 aO n s u t h cs):∀q r,A9 q r->¬aO r:=by
 obtain⟨_,_,_,_,_,_,_,_,_,_,_,_,_,I⟩:=p.doc;exact (I rfl).2
def fG (B:Nat) (w:x2) (al ag am a8:Nat) (n:aV) (m:Nat):Prop:=∃A R A9 aO O M s t h I cs,bG w al ag am A R A9 aO n s s t h cs/\jl n s h I/\iK w a8 O M aO n.k n.sizes I/\pM w am A R A9 aO O M/\(∀r,A r\/(∃q,A9 q r)\/r=am\/O r->B<=r)/\nZ s/\
 I.length<=8/\t.ever<=m/\t.cells.length<=2000000+700*m/\t.olds.length<=800*m/\s.funs.length<=256+m/\s.elims.length<=m
theorem fG.ext {B:Nat} (h:fG B w al ag am a8 n m) (J:Ext w w'):fG B w' al ag am a8 n m:=by
 obtain⟨A,R,A9,aO,O,M,s,t,h,I,cs,p,h1,U,V,W⟩:=h;exact⟨A,R,A9,aO,O,M,s,t,h,I,cs,p.ext J,h1,U.ext J,V.grow J.size (λ_ h=>.inl h) (λ_ h=>.inl h) (λq _ h=>.inl ⟨q,h⟩) λ_ h=>.inl h,W⟩
theorem fG.step {fV:x2} {al am a8:Nat} {A R O M aO:ai} {A9:Nat->ai} {s':aF} {I:List aF} (ae:Ext fV w) (p:bG w al ag am A R A9 aO n s s t h cs) (ak:jl n s h I) (an:iK w a8 O M aO n.k n.sizes I) (Y:pM w am A R A9 aO O M) (U:∀r,A r\/(∃q,A9 q r)\/r=am\/O r->fV.heap.size<=r)
  (b:I.length<=8/\t.ever<=m/\t.cells.length<=2000000+700*m/\t.olds.length<=800*m/\s.funs.length<=256+m/\s.elims.length<=m) (ao:fF s s') (ap:nZ s') (aA:s'.funs.length<=s.funs.length+1/\s'.elims.length<=s.elims.length+1)
  (aq:iI w al ag am A R A9 aO n s' t h w'):Ext fV w'/\fG fV.heap.size w' al ag am a8 n (m+1):=by
 obtain⟨au,R',bK,R9',av,bl,aw,aa,af,ax,ay,ah,aj,aB,aC,aD,az,aE⟩:=aq;have z:=aa.size;have aG:=ae.size;refine⟨ae.then aa λr J h=>by have:=U r (h.imp id λh=>h.imp id .inl);omega,au,R',bK,R9',O,M,s',av,h,I,bl,aw,ak.step ao,?_,Y.grow z af ax aj ah,λr J=>?_,ap,b.1,Ω,Ω,Ω,Ω,Ω⟩
 .refine (iK.V an (rI aa az) λr J h W=>?_).mono ay λr J W=>?_
  .rcases h with h|h|h
   .obtain⟨_,ab,_,ac,_,X,_⟩:=Y.o r h;exact W.1.elim ab λh=>h.elim (λ⟨q,h⟩=>ac q h) X
   .obtain⟨_,ab,ac,_,X⟩:=Y.m r h;exact W.1.elim ab λh=>h.elim (λ⟨q,h⟩=>ac q h) X
   .exact W.2.elim (p.read r h).1 λad=>ad.elim (λ⟨q,ad⟩=>p.L4 q r ad h) (p.read r h).2.2
  .obtain⟨aH,_,_,X,_⟩:=Y.m r J;exact (ah r W).elim X λh=>Ω
 .rcases J with J|⟨q,J⟩|J|J
  .exact (af r J).elim (λh=>U r (.inl h)) λh=>Ω
  .exact (aj q r J).elim (λh=>U r (.inr (.inl h))) λh=>Ω
  .exact U r (.inr (.inr (.inl J)))
  .exact U r (.inr (.inr (.inr J)))
end
section
variable {fV w:x2} {al ag am a8 m:Nat} {n:aV} {Q:x1->x2->Prop}
theorem L5 (aZ:Ext fV w) (bx:fG fV.heap.size w al ag am a8 n m) (hm:m<100) (bz:∀w',Ext fV w'->fG fV.heap.size w' al ag am a8 n (m+1)->Q (.bool true) w'):
 J x3 (aX (Γ a8)) w λbU=>
       J x3 (x5 cV bU) w λbV=>
       J x3 (Y3 #[cV] ab #[bV]) w λbW=>
       J x3 (aB .lss ab false true bW (Δ 8)) w λbX=>
       Split bX (cj w λax=>
        J x3 (aX (Γ a8)) ax λaD=>
        J x3 (x5 cV aD) ax λa1=>
        J x3 (aX (Γ am)) ax λbY=>
        J x3 (x5 aE bY) ax λbZ=>
        aj x3 sw [bZ] ax λb0 aP=>
        (Ext ax aP\/bk x3 (x5 cV aD) a1 aP/\bk x3 (aX (Γ a8)) aD aP/\True)/\
        az x3 (Z7 cV 1 #[(0,b0)]) aP λb1 aQ=>
         (Ext ax aQ\/bk x3 (x5 cV aD) a1 aQ/\bk x3 (aX (Γ a8)) aD aQ/\True)/\
        az x3 (l7 #[cV,cV] cV #[a1,b1]) aQ λb2 bA=>
         J x3 (aX (Γ a8)) bA λb3=>
         az x3 (o4 cV b3 b2) bA λ(_:Unit) b4=>
          cj b4 λaA=>
        J x3 (aX (Γ a8)) aA λa2=>
        J x3 (x5 cV a2) aA λba=>
        J x3 (Y3 #[cV] ab #[ba]) aA λbb=>
        J x3 (aB .sub ab false true bb (Δ 1)) aA λbB=>
        aj x3 wm [Γ al] aA λb5 ay=>
        (Ext aA ay\/bk x3 (aB .sub ab false true bb (Δ 1)) bB ay/\bk x3 (Y3 #[cV] ab #[ba]) bb ay/\bk x3 (x5 cV a2) ba ay/\bk x3 (aX (Γ a8)) a2 ay/\True)/\
        J x3 (aB .eql ab false false b5 bB) ay λb6=>
        Q b6 ay)
        (Q (.bool true) w):=by
 have ct:=bx;obtain⟨A,R,A9,aO,O,M,s,t,h,I,cs,p,bc,⟨be,bN,g,L,aG,aI,bf,aR,bC⟩,Y,au,bD,cu,cw,cz,cA,cB,cC⟩:=bx;rw[aw,ac (v:=bN) Ψ (aG.cell (o:=0) rfl),dc cV.u aI,ao,ad];refine⟨λb8=>?_,λb8=>bz w aZ ⟨A,R,A9,aO,O,M,s,t,h,I,cs,p,bc,⟨be,bN,g,L,aG,aI,bf,aR,bC⟩,Y,au,bD,Ω⟩⟩;intro U aS _ _;have bg:=p.ext aS;rw[aw,ac (v:=bN) Ψ ((aG.ext aS).cell (o:=0) rfl),aw,bn aE.p aE.i (bd.len p.doc).1 bg.box.range];refine (Bn bg.doc (λr W=>(bg.read r W).2.1) p.cc.2.2.2.1 Ω Ω).mono ?_;rintro _ b9 _ ⟨bh,ca,bl,rfl,bE,aJ⟩;obtain⟨cb,cd⟩:=bd.len bE;refine⟨.inl bh,?_⟩;refine fM (f:=λx:List x1=>x) (a:=bl) cV.u aE.i Ω rfl cb λv3 cD bm cE bo ce=>?_;have bF:=bh.trans bo;have aK:=aS.trans bF;refine⟨.inl bF,?_⟩;have cF:=aS.size;have cG:=bh.size;have z3:=bo.size;have cH:=aZ.size;have cg:=aI.ext aK;have cI:∀r,leadsTo bN r->r=g/\r<w.heap.size:=λr W=>by obtain⟨ch,e⟩:=aI.leads W;omega
 refine gd (f:=λx:List x1=>x) (a:=bl) cV.u aE.i rfl cg (by simpa using ce.sl) cd Ω Ω λav bH cJ aT ci bp=>?_;have bI:=(aG.ext aK).V bp λhe=>b7 aI aG Φ he;rw[aw];refine bj (g:=a8) (o:=0) cV.i (cP aT.sl).1 (cP aT.sl).2 bI Ξ λck bJ cK bq=>?_;have bq:ae ck a8 cV [av]:=bq;intro aL aU _ _;have bK:=bq.ext aU;have br:∀r,leadsTo av r->O r\/bm.heap.size<=r:=λr W=>(ci r W).imp (bf r) id;have bL:O a8:=be;have z4:=bp.size;have cL:=aU.size;have bt:a6 (λx:List x1=>x) 8 aE aL bH av (L++[bl]):=(aT.V bJ λr W he=>by
  have he:r=a8:=he;subst he;exact b7 aT bI Φ W).ext aU
 rw[aw,ac (v:=av) Ψ (bK.cell (o:=0) rfl),dc cV.u bt,cX];have e:(L++[bl]).length=I.length+1:=by rw[r8,aR];rfl
 rw[e,wrap_i64 Ω Ω];have aV:af (λr=>O r) bm aL:=((bp.mono λr _ h=>bf r h).trans (bJ.mono λr _ h=>by have h:r=a8:=h;rw[h];exact bL)).trans (aU.V _);have cl:=p.olds.ext aK;have aM:bG aL al ag am A R (λq r=>A9 q r/\r<w.heap.size) aO n s s t h cs:=cl.side aV λr _ W=>by
  obtain⟨_,aa,X,ap,ah,ak,_⟩:=Y.o r W;exact⟨aa,X,λq h=>ap q h.1,ah,ak⟩
 have cM:t.marks.length=I.length:=by rw[p.gm.len,bc.len]
 refine (LR aM.cc Ω Ω).mono ?_;rintro _ aW _ ⟨rfl,bM,bO,an,cm⟩;have cN:=jU aM.cc;have bP:ae aW a8 cV [av]:=bK.V an.1 (Y.o a8 bL).2.1;have bu:∀r,A r->r<w.heap.size:=λr W=>jU p.cc r (.inl W);have cn:∀r,R r->r<w.heap.size:=λr W=>jU p.cc r (.inr W);have cp:∀r,leadsTo av r->¬A r:=λr W bQ=>(br r W).elim (λh=>(Y.o r h).2.1 bQ) λh=>by have:=bu r bQ;omega
 have bR:=bt.V an.1 cp;refine⟨.inr ⟨Go.Vc.gA λK=>by rw[cX,wrap_i64 Ω Ω],Go.Vc.gA λK=>by rw[dc cV.u bR,e],kt Ψ (bP.cell (o:=0) rfl),Go.Vc.gA λK=>aw,trivial⟩,?_⟩;rw[bi,decide_eq_true Ω];have cO:=aV.size;have cQ:=an.1.size;refine bz aW ?_ ⟨bO,R,_,aO,λr=>O r\/leadsTo av r,λr=>M r\/(∃q,ca q r/\r<b9.heap.size),s,t.mark,t::h,I++[s],cs,aM.prog (B:=aL.heap.size) bM an cm p.gm.mark (λ_ h=>.inl h) (λ_ _ _ h=>h) aM.box.lt,bc.mark p.cc.2.1 p.cc.2.2.2.1,?_,?_,?_,bD,?_⟩
 .refine ((aZ.trans aK).then aV λr W h=>?_).then an.1 λr W h=>?_
  .have:=au r (.inr (.inr (.inr h)));omega
  .have:=au r (.inl h);omega
 .have a7:∀ {aC:Nat->ai} {c:List x1} {s':aF},fj true aC aO bm c n.k n.sizes s'->(∀q r,aC q r->¬O r/\¬A r)->fj true aC aO aW c n.k n.sizes s':=λ{aC c s'} aH bS=>by
   refine (bd.V aH aV λr _ W=>?_).V (rI an.1 bM) λr _ W aN=>?_
   .exact W.elim (λ⟨q,h⟩=>(bS q r h).1) λh aN=>(Y.o r aN).2.2.2.2.1 h
   .exact W.elim (λ⟨q,h⟩=>(bS q r h).2 aN.1) λh=>(aM.read r h).1 aN.2
  refine⟨.inl be,av,bH,L++[bl],bP,bR,λr W=>.inr W,by simp[aR],λi c s' hi aY=>?_⟩;by_cases cq:i<L.length
  .rw[j0 cq] at hi;rw[j0 Ω] at aY;obtain⟨aC,aa,X⟩:=bC i c s' hi aY;exact⟨aC,a7 (aa.ext aK) λq r W=>⟨λh=>(Y.o r h).2.2.2.2.2.2 (X q r W),(Y.m r (X q r W)).2.1⟩,λq r W=>.inl (X q r W)⟩
  .have cr:i=L.length:=by have:=(x4.1 hi).1;simp at this;omega
   subst cr;rw[Z1 (o8 _),W7] at hi;rw[Z1 Ω,aR,W7] at aY;cases hi;cases aY;exact⟨_,a7 (bd.ext bE.old bo) λq r W=>⟨λh=>by have:=(Y.o r h).1;have:=aJ q r W.1;omega,λh=>by have:=bu r h;have:=aJ q r W.1;omega⟩,λq r W=>.inr ⟨q,W⟩⟩
 .have bT:∀r,w.heap.size<=r->r<aL.heap.size->r<aW.heap.size/\¬bO r/\¬R r/\(∀q,¬(A9 q r/\r<w.heap.size))/\¬aO r/\r≠am:=λr h1 aN=>
   ⟨Ω,λh=>(an.2.1 r h).elim (λh=>by have:=bu r h;omega) λh=>Ω,λh=>by have:=cn r h;omega,λq h=>Ω,λh=>by have:=(p.read r h).2.1;omega,by have:=p.box.lt;omega⟩
  refine⟨λr W=>?_,λr W=>?_⟩
  .rcases W with W|W
   .obtain⟨aa,X,ap,ah,ak,aq,bw⟩:=Y.o r W;exact⟨Ω,λh=>(an.2.1 r h).elim X λh=>Ω,ap,λq h=>ah q h.1.1,ak,aq,λh=>h.elim bw λ⟨q,h⟩=>by have:=aJ q r h.1;omega⟩
   .rcases br r W with h|h
    .obtain⟨aa,X,ap,ah,ak,aq,bw⟩:=Y.o r h;exact⟨Ω,λh=>(an.2.1 r h).elim X λh=>Ω,ap,λq h=>ah q h.1.1,ak,aq,λh=>h.elim bw λ⟨q,h⟩=>by have:=aJ q r h.1;omega⟩
    .obtain⟨ch,cR⟩:=bt.leads W;obtain⟨aa,X,ap,ah,ak,aq⟩:=bT r Ω Ω;exact⟨aa,X,ap,λq h=>ah q h.1,ak,aq,λh=>h.elim (λh=>by have:=(Y.m r h).1;omega) λ⟨q,h⟩=>by have:=h.2;omega⟩
  .rcases W with W|⟨q,W⟩
   .obtain⟨aa,X,ah,ak,aq⟩:=Y.m r W;exact⟨Ω,λh=>(an.2.1 r h).elim X λh=>Ω,λq h=>ah q h.1.1,ak,aq⟩
   .have:=aJ q r W.1;have:=W.2;obtain⟨aa,X,ap,ah,ak,aq⟩:=bT r Ω Ω;exact⟨aa,X,λq h=>ah q h.1,ak,aq⟩
 .rintro r (W|⟨q,W⟩|W|W|W)
  .exact (an.2.1 r W).elim (λh=>au r (.inl h)) λh=>Ω
  .exact au r (.inr (.inl ⟨q,W.1.1⟩))
  .exact au r (.inr (.inr (.inl W)))
  .exact au r (.inr (.inr (.inr W)))
  .exact (br r W).elim (λh=>au r (.inr (.inr (.inr h)))) λh=>Ω
 .have aa:t.mark.ever=t.ever+1:=rfl;have X:t.mark.cells=t.cells:=rfl;have ap:t.mark.olds=t.olds:=rfl;rw[aa,X,ap,r8];simp only[T1];omega
end
section
variable {fV w0 w:x2} {al ag am a8 aU m B:Nat} {n:aV} {a:de} {aD ay ch:x1} {Q:x1->x2->Prop}
theorem fG.succ (h:fG B w al ag am a8 n m):fG B w al ag am a8 n (m+1):=by
 obtain⟨A,R,A9,aO,O,M,s,t,h,I,cs,p,J,U,V,W,X,Y,aa,ab,ac,ad,ae⟩:=h;exact⟨A,R,A9,aO,O,M,s,t,h,I,cs,p,J,U,V,W,X,Y,Ω,Ω,Ω,Ω,Ω⟩
theorem L6 (a1:Ext fV w0) (bk:fG fV.heap.size w0 al ag am a8 n m) (hm:m<100) (a2:Ext w0 w) (a6:dO w aU n.k a aD ay ch w0.heap.size)
  (bm:∀w',Ext fV w'->fG fV.heap.size w' al ag am a8 n (m+1)->Q (.bool true) w'):
 bx (α:=x1->x2->Prop) (λ(bZ:x1) (aL:x2)=>
    Split bZ (J x3 (x7 aR (Γ aU) 3) aL λb0=>
     J x3 (x5 ab b0) aL λb1=>
     aj x3 qk [Γ al,b1] aL λb2 bo=>
     J x3 (aB .eql eB false true b2 (Δ 2)) bo λb3=>
     Q b3 bo)
     (cj aL λah=>
   J x3 (aX (Γ a8)) ah λb4=>
   J x3 (x5 cV b4) ah λb5=>
   J x3 (x7 aR (Γ aU) 3) ah λb6=>
   J x3 (x5 ab b6) ah λb8=>
   J x3 (n0 cV b5 b8) ah λb9=>
   J x3 (x5 aE b9) ah λca=>
   aj x3 sw [ca] ah λcd bp=>
    J x3 (aX (Γ am)) bp λce=>
    az x3 (o4 aE ce cd) bp λ(_:Unit) cg=>
    cj cg λai=>
   J x3 (aX (Γ a8)) ai λci=>
   J x3 (x5 cV ci) ai λck=>
   J x3 (x7 aR (Γ aU) 3) ai λcl=>
   J x3 (x5 ab cl) ai λcm=>
   J x3 (W3 cV ck ν (σ cm) ν) ai λcn=>
   J x3 (aX (Γ a8)) ai λcp=>
   az x3 (o4 cV cp cn) ai λ(_:Unit) a7=>
    J x3 (x7 aR (Γ aU) 3) a7 λcq=>
   J x3 (x5 ab cq) a7 λcr=>
   aj x3 qk [Γ al,cr] a7 λct bq=>
   J x3 (aB .eql eB false true ct (Δ 0)) bq λcu=>
   Q cu bq)) λbr=>
   cj w λX=>
   J x3 (x7 aR (Γ aU) 3) X λcw=>
   J x3 (x5 ab cw) X λcz=>
   J x3 (aB .lss ab false true cz (Δ 0)) X λcA=>
   Split cA (br (.bool true) X)
    (J x3 (x7 aR (Γ aU) 3) X λcB=>
    J x3 (x5 ab cB) X λcC=>
   J x3 (aX (Γ a8)) X λcD=>
   J x3 (x5 cV cD) X λcE=>
   J x3 (Y3 #[cV] ab #[cE]) X λcF=>
   J x3 (aB .geq ab false false cC cF) X λcG=>
   br cG X):=by
 have cH:=bk;obtain⟨A,R,A9,aO,O,M,s,t,h,I,cs,p,aq,bt,au,av,cI,da,db,dd,de,df,dg⟩:=bk;have dh:=a6.low.1;have cJ:t.marks.length=I.length:=by rw[p.gm.len,aq.len]
 have cK:∀r,A r->r<w0.heap.size:=λr W=>jU p.cc r (.inl W);have cL:∀r,R r->r<w0.heap.size:=λr W=>jU p.cc r (.inr W);have di:=p.box.lt;have z0:=a2.size;refine aP (λv w'=>∃b,v= .bool b/\Ext w w'/\(b=true↔¬(0<=a.j/\a.j<I.length))) ?_ λdj bu=>?_
 .rintro _ U ⟨b,rfl,ak,bw⟩;have aM:=a2.trans ak;have aG:=a6.ext ak;rw[bH];refine⟨λcM=>?_,λbz=>?_⟩
  .rw[bI aR.p 3 aG.cU rfl];refine (LY (p.ext aM).cc (by rw[cJ];exact bw.1 cM)).mono ?_;rintro _ bA _ ⟨rfl,aH⟩;rw[bi,decide_eq_true rfl];exact bm bA (a1.trans (aM.trans aH)) (cH.ext (aM.trans aH)).succ
  have dl:0<=a.j/\a.j<I.length:=X2.1 λh=>by rw[bw.2 h] at bz;cases bz
  obtain⟨j,ba⟩:∃j:Nat,a.j=j:=⟨a.j.toNat,Ω⟩;have dm:j<I.length:=Ω
  intro bA aH _ _;have aN:=aM.trans aH;obtain⟨aI,bN,g,L,aQ,aJ,aS,bB,bb⟩:=bt.ext aN;have cN:=p.ext aN;have bC:=aG.ext aH;obtain⟨c,bD⟩:∃c,L[j]? =σ c:=⟨_,y0 Ω⟩;obtain⟨Y,aK⟩:∃Y,I[j]? =σ Y:=⟨_,y0 Ω⟩;obtain⟨dk,aT⟩:∃dk,h.reverse[j]? =σ dk:=⟨_,y0 (by rw[List.length_reverse,<-aq.len];omega)⟩;obtain⟨dn,bE,dq⟩:=bb j c Y bD aK;have bF:=aq.ok Y (x6 aK);have aV:=aq.kP Y (x6 aK);have dr:=aV.funs;have ds:Y.elims.length<=s.elims.length:=by obtain⟨l,e⟩:=aV.el;rw[e,r8];omega
  rw[aw,ac (v:=bN) Ψ (aQ.cell (o:=0) rfl),bI aR.p 3 bC.cU rfl,cO (i:=j) ba cV.u aE.i aJ Ω,bn aE.p aE.i (bd.len bE).1 (aJ.range bD)];refine (Bn bE (λr W=>(cN.read r W).2.1) bF Ω Ω).mono ?_;rintro _ bK _ ⟨ax,bL,bl,rfl,bM,aA⟩;obtain⟨cQ,cR⟩:=bd.len bM;have bO:=aN.trans ax;have bP:=p.ext bO;rw[aw];refine bJ (vs:=bl) aE.i cQ (bd.len p.doc).1 cR bP.box λcS aa dt cT=>?_;have du:=aN.size;have z3:=ax.size;have cW:bG cS al ag am A R (λq r=>bL q r/\r<bK.heap.size) aO n s Y t h bl:=bP.uQ aa (λr _ h=>.inr h) cT (bd.V bM.old aa λr _ h he=>by
    have he:r=am:=he;rcases h with⟨q,h⟩|h
    .have:=aA q r h.1;omega
    .exact (p.read r h).2.2 he) λq r h=>.inr ⟨λaC=>by have:=aA q r h.1;have:=cK r aC;omega,λaC=>by have:=aA q r h.1;have:=cL r aC;omega,by have:=aA q r h.1;omega⟩
  intro cX an _ _;have cY:=cW.ext an;have bQ:∀r,O r->¬r=am:=λr W=>(au.o r W).2.2.2.2.2.1;have bc:=((aQ.ext ax).V aa (bQ a8 aI)).ext an;have bR:=((aJ.ext ax).V aa λr W=>bQ r (aS r W)).ext an;have bS:dO cX aU n.k a aD ay ch w0.heap.size:=((bC.ext ax).V aa λr _ h=>by have h:r=am:=h;omega).ext an;obtain⟨bT,cZ,be,bf⟩:=nY (i:=j) cV.u aE.i bR Ω;rw[aw,ac (v:=bN) Ψ (bc.cell (o:=0) rfl),bI aR.p 3 bS.cU rfl,ba,cZ,aw];refine bj (g:=a8) (o:=0) cV.i (cP be.sl).1 (cP be.sl).2 bc Ξ λaW aF dv bg=>?_;have bg:ae aW a8 cV [bT]:=bg;have af:=au.o a8 aI;have c0:dO aW aU n.k a aD ay ch w0.heap.size:=bS.V aF λr _ h=>by have h:r=a8:=h;rw[h];exact af.1
  rw[bI aR.p 3 c0.cU rfl,ba];have aY:=cY.side aF λr _ W=>by
   have W:r=a8:=W;subst W;exact⟨af.2.1,af.2.2.1,λq h=>by have:=aA q _ h.1;omega,af.2.2.2.2.1,af.2.2.2.2.2.1⟩
  obtain⟨_,x,_,_,_,dw,⟨dx,bU,_,_⟩,_,c1⟩:=p.gm.gM aT;refine (LZ aY.cc p.gm aT (aq.val j dk Y aT aK) bF aV).mono ?_;rintro _ c2 _ ⟨rfl,bV,bW,ap,c3⟩;rw[bi,decide_eq_true rfl];have z5:=an.size;have z4:=aa.size;have dy:=aF.size;have dz:=ap.1.size;have dA:=a1.size;have bX:∀q r,((bL q r/\r<bK.heap.size)/\r<aW.heap.size)->w0.heap.size<=r:=λq r h=>by have:=aA q r h.1.1;omega
  have bY:∀r,bW r->A r\/w0.heap.size<=r:=λr W=>(ap.2.1 r W).imp id λh=>Ω
  refine bm c2 ?_ ⟨bW,R,_,aO,O,M,Y,{dk with ever:=t.ever},h.drop (h.length-j),I.take j,bl,aY.prog (B:=aW.heap.size) bV ap c3 (dp.ever (p.gm.tail aT) c1) (λ_ h=>.inl h) (λ_ _ _ h=>h) aY.box.lt,aq.gM aK,?_,au.grow Ω bY (λ_ h=>.inl h) (λq r h=>.inr (bX q r h)) (λ_ h=>.inl h),?_,λe he=>cI e (by obtain⟨l,c4⟩:=aV.el;rw[c4];exact List.mem_append_left _ he),?_⟩
  .refine ((((a1.trans bO).then aa λr W h=>?_).trans an).then aF λr W h=>?_).then ap.1 λr W h=>?_
   .have h:r=am:=h;have:=av r (.inr (.inr (.inl h)));omega
   .have h:r=a8:=h;have:=av r (.inr (.inr (.inr (h▸aI))));omega
   .have:=av r (.inl h);omega
  .refine⟨aI,bT,g,L.take j,bg.V ap.1 af.2.1,(be.V aF λr W he=>?_).V ap.1 λr W=>(au.o r (aS r (bf r W))).2.1,λr W=>aS r (bf r W),by rw[o7,o7,bB],λi c5 cc hi bh=>?_⟩
   .have he:r=a8:=he;subst he;exact b7 bR bc Φ (bf _ W)
   .rw[List.getElem?_take] at hi bh;split at hi
    .rename_i c6;rw[if_pos c6] at bh;obtain⟨c7,c8,aZ⟩:=bb i c5 cc hi bh;refine⟨c7,(bd.V (bd.ext (bd.V (bd.ext c8 ax) aa λr _ W he=>?_) an) aF λr _ W he=>?_).V (rI ap.1 bV) λr _ W aC=>?_,aZ⟩
     .exact W.elim (λ⟨q,h⟩=>(au.m r (aZ q r h)).2.2.2.2 he) λh=>(p.read r h).2.2 he
     .have he:r=a8:=he;subst he;exact W.elim (λ⟨q,h⟩=>af.2.2.2.2.2.2 (aZ q _ h)) af.2.2.2.2.1
     .exact W.elim (λ⟨q,h⟩=>(au.m r (aZ q r h)).2.1 aC.1) λh=>(aY.read r h).1 aC.2
    .cases hi
  .rintro r (W|⟨q,W⟩|W|W)
   .exact (bY r W).elim (λh=>av r (.inl h)) λh=>Ω
   .have:=bX q r W;omega
   .exact av r (.inr (.inr (.inl W)))
   .exact av r (.inr (.inr (.inr W)))
  .have bU:dk.olds.length<=t.olds.length:=by rw[bU,r8];omega
   refine⟨by rw[o7];omega,by show t.ever<=_;omega,by show dk.cells.length<=_;omega,by show dk.olds.length<=_;omega,Ω,Ω⟩
 .intro U ak _ _;have aG:=a6.ext ak;obtain⟨aI,bN,g,L,aQ,aJ,aS,bB,bb⟩:=bt.ext (a2.trans ak);rw[bI aR.p 3 aG.cU rfl,ao,ad];refine⟨λc9=>bu _ _ ⟨true,rfl,ak,Θ⟩,λc9=>?_⟩;rw[bI aR.p 3 aG.cU rfl,aw,ac (v:=bN) Ψ (aQ.cell (o:=0) rfl),dc cV.u aJ,cb];exact bu _ _ ⟨_,rfl,ak,by rw[decide_eq_true_eq];omega⟩
end
section
variable {fV w0 w:x2} {al ag am a8 m:Nat} {n:aV} {a:de} {db:x1} {Q:x1->x2->Prop}
theorem L7 (af:Ext fV w0) (ah:fG fV.heap.size w0 al ag am a8 n m) (hm:m<100) (av:pJ w0 db a) (ai:∀w',Ext fV w'->fG fV.heap.size w' al ag am a8 n (m+1)->Q (.bool true) w'):
  aj x3 CH [Γ al,Γ am,Γ a8,db] w0 Q:=by
 obtain⟨A,R,A9,aO,O,M,s,t,h,I,cs,p,aw,ax,az,aB,aC,b⟩:=id ah;have ac:Room t:=.inr Ω;have X:∀s' w',s'=hp n s a->iI w0 al ag am A R A9 aO n s' t h w'->Q (.bool true) w':=λs' w' e J=>by
  obtain⟨h1,aE⟩:=fG.step af p aw ax az aB b (e▸L2) (e▸L3 aC) (e▸Ly) J;exact ai w' h1 aE
 obtain⟨ak,aD,ay,ch,rfl,an,ao,ap⟩:=av;have aI:0<=a.d % 9:=Ω
 refine aA func21 ?_;refine bM λaU U aJ aF aq=>?_;have aG:ae U aU aR [.int .u8 a.d,Δ a.i,Δ a.v,Δ a.j,Δ a.c,aD,ay,ch,.bool a.kN]:=by
  obtain⟨_,_,_,Y⟩:=b0 an;obtain⟨_,_,_,aa⟩:=b0 ao;obtain⟨_,_,_,ad⟩:=b0 ap;rw[Y,aa,ad] at aq ⊢;exact aq
 refine K0 (w0:=w0) p ak an ao rfl aF Ω aG λaK aL aM V W=>?_;refine lw (λe=>?_) λab=>?_
 .exact K2 p ac V W λw' J=>X _ w' (by unfold hp;rw[if_pos e]) J
 refine lw (λe=>?_) λY=>?_
 .exact K4 p ac V W λw' J=>X _ w' (by unfold hp;rw[if_neg ab,if_pos e]) J
 refine lw (λe=>?_) λaa=>?_
 .exact Li p ac V W λw' J=>X _ w' (by unfold hp;rw[if_neg ab,if_neg Y,if_pos e]) J
 refine lw (λe=>?_) λad=>?_
 .exact Lf p ac V W λw' J=>X _ w' (by unfold hp;rw[if_neg ab,if_neg Y,if_neg aa,if_pos e]) J
 refine lw (λe=>?_) λau=>?_
 .exact Lx p Ω Ω Ω ak V W (ap.ext V) λw' J=>X _ w' (by unfold hp;rw[if_neg ab,if_neg Y,if_neg aa,if_neg ad,if_pos e]) J
 refine lw (λe=>?_) λaH=>?_
 .exact Lb p ac V W λw' J=>X _ w' (by unfold hp;rw[if_neg ab,if_neg Y,if_neg aa,if_neg ad,if_neg au,if_pos e]) J
 refine lw (λe=>?_) λaN=>?_
 .exact Ln p Ω Ω V W λw' J=>X _ w' (by unfold hp;rw[if_neg ab,if_neg Y,if_neg aa,if_neg ad,if_neg au,if_neg aH]) J
 refine lw (λe=>?_) λaP=>?_
 .exact L5 (af.trans V) (ah.ext V) hm ai
 .exact L6 af ah hm V W ai
end
theorem L8 {w0:x2} {out:x1} {g:Nat} {x:Int} (J:Ext w0 w) (hm:aq .i64 ab w g out l) (V:∀r,leads out r->w0.heap.size<=r) (ag:l.length<=1000000000)
  (X:∀v w' Y,Ext w0 w'->aq .i64 ab w' Y v (l++[x])->(∀r,leads v r->w0.heap.size<=r)->K v w'):
  az x3 (Z7 ah 1 #[(0,Δ x)]) w λy U=>az x3 (l7 #[ah,ah] ah #[out,y]) U K:=by
 refine dJ (k:=.i64) ah.u ab.i rfl λv4 ai aj ak I aa=>?_;refine fz ah.u ab.i rfl (hm.ext I) aa.ls Θ Θ λv5 ac al ad ae af=>?_;have z:=(J.trans I).size;exact X _ _ ac ((J.trans I).then af λr W he=>by have:=V r he;omega) ad λr W=>(ae r W).elim (V r) λh=>Ω
theorem BE {s:aF} {i:Int} {j:Nat}:fD s i (j+1)=if ho s i j=true then fD s i j++[(j:Int)] else fD s i j:=by
 unfold fD;rw[List.range_succ,List.filter_append];cases I:ho s i j <;> simp[I]
theorem L9 {s:aF} {i:Int} {j:Nat}:(fD s i j).length<=j:=by
 unfold fD;rw[u5];have:=List.length_filter_le (ho s i) (X9 j);rw[List.length_range] at this;exact this
def BF (w:x2) (g:Nat) (v:x1) (l:List hM):Prop:=∃E,a6 h8 3 b8 w g v E/\E.length=l.length/\ ∀ (q:Nat) x e,E[q]? =σ x->l[q]? =σ e->x.v=e.v/\(∃g,aq .i64 ab w g x.ay e.sc)/\ ∃g,aq .i64 ab w g x.bv e.ec
section
variable {w:x2} {al ag:Nat} {A R:ai} {n:aV} {s:aF} {t:aC}
theorem Ma (h:b9 w al ag A R n s t) (aB:nZ s) (be:s.elims.length<=100000):aj x3 CN [Γ al] w λv w'=>Ext w w'/\ ∃g,BF w' g v s.elims/\ ∀r,leadsTo v r->w.heap.size<=r:=by
 obtain⟨⟨bf,bg,bh,bi,ai⟩,_⟩:=h;obtain⟨_,_,_,_,_,E,_,_,aC,_,_,_,_,af,ak⟩:=id ai;have bj:E.length=s.elims.length:=ak.1;refine aA func51 ?_;rw[cA eW.u];simp only[j6,aQ];rw[lV bz.p 4 aC rfl,dc gq.u af];refine bC.range E.length (λj out U=>Ext w U/\ ∃g,BF U g out (s.elims.take j)/\ ∀r,leadsTo out r->w.heap.size<=r) Ω ⟨Ext.refl _,0,⟨[],a6.nil _ _ _ _ _,rfl,λq x e h=>by simp at h⟩,λr I=>(eF I).elim⟩ ?_ ?_
 .rintro j out U aD am ⟨J,g,⟨O,V,an,aE⟩,aa⟩ aF;obtain⟨x,ap⟩:∃x,E[j]? =σ x:=⟨_,y0 am⟩;obtain⟨e,ah⟩:∃e,s.elims[j]? =σ e:=⟨_,y0 Ω⟩;obtain⟨bk,bl⟩:=aB e (x6 ah);have bm:=ai.ext J;obtain⟨aG,aH,aI⟩:=ak.2 j x e ap ah;have f2:=aH.ls.ext J;have f3:=aI.ls.ext J;rw[ao,ad];refine⟨λ_=>?_,λh=>Ω⟩;rw[cO rfl gq.u b8.i (af.ext J) am,bn b8.p b8.i rfl ((af.ext J).range ap)];refine bt b8.i λge bo bp aJ aK=>?_;refine bJ (vs:=h8 x) b8.i rfl rfl (by intro u hu;simp[h8] at hu;rcases hu with rfl|rfl|rfl <;> first|rfl|exact f2.cells.2|exact f3.cells.2) aK λaL aM bq aO=>?_;have ac:Ext U aL:=aJ.then aM λr I he=>by have he:r=ge:=he;omega
  rw[bn b8.p b8.i rfl aO.range];refine (By (v:=x.v) (f2.ext ac) (f3.ext ac) Ω Ω).mono ?_;rintro _ br _ ⟨aP,aR,aS,bu,bw,rfl,bx,bA,au,av⟩;let a:mp:=⟨x.v,aR,aS⟩;refine fM (f:=h8) (a:=a) gq.u b8.i Ω rfl rfl λbB bD aT bE ae aU=>?_;have W:=(ac.trans aP).trans ae;have bF:=J.size;have bG:=W.size;have bH:=ac.size;have bI:=ae.size;have aw:(s.elims.take j).length=j:=by rw[o7];omega
  refine gd (f:=h8) (a:=a) gq.u b8.i rfl (V.ext W) (by simpa using aU.sl) (by intro u hu;simp[h8,a] at hu;rcases hu with rfl|rfl|rfl <;> first|rfl|exact au.ls.cells.2|exact av.ls.cells.2) Ω Ω λbK aV ax aW aX ay=>?_;have bL:∀r,leadsTo out r->r=g/\r<U.heap.size:=λr I=>by obtain⟨az,bM⟩:=V.leads I;omega
  have aY:Ext w ax:=(J.trans W).then ay λr I he=>by have:=aa r he;omega
  rw[aN];refine aF _ _ ⟨aY,aV,⟨O++[a],aW,by simp[an,aw];omega,λq y f Y X=>?_⟩,λr I=>(aX r I).elim (aa r) λh=>Ω⟩;have a7:∀ {v:x1} {aZ:Nat} {l:List Int},aq .i64 ab aT aZ v l-> ∃g,aq .i64 ab ax g v l:=λhm=>⟨_,bb hm ay λr I he=>by
   obtain⟨az,c,a1⟩:=di (V.ext W) he;exact bU hm a1 Φ I az⟩
  by_cases a2:q<O.length
  .rw[j0 a2] at Y;rw[List.getElem?_take] at X;split at X
   .obtain⟨a8,⟨_,ba⟩,_,bc⟩:=aE q y f Y (by rw[List.getElem?_take,if_pos Ω];exact X);exact⟨a8,a7 (ba.ext W),a7 (bc.ext W)⟩
   .cases X
  .have bd:q=O.length:=by have:=(x4.1 Y).1;simp at this;omega
   subst bd;rw[Z1 (o8 _),W7] at Y;rw[an,aw,List.getElem?_take,if_pos Ω,ah] at X;cases Y;cases X;exact⟨aG,a7 (au.ext ae),a7 (av.ext ae)⟩
 .rintro out U aD ⟨J,g,V,aa⟩;rw[ao,ad];refine⟨λh=>Ω,λ_=>⟨J,g,?_,aa⟩⟩;rw[Z0 Ω] at V;exact V
end
theorem rM {cx cy:Bool} {a b:Bool} {K:x1->Prop} (I:x3.underlying t=σ .bool):J x3 (aB .neq t cx cy (.bool a) (.bool b)) w K=K (.bool !(a == b)):=
 wZ (λ_=>rfl) rfl λw' _=>run_equalIn_bool' (P:=x3) (w:=w') 9999 t a b I
theorem Mb {m:Bool} {S R:ai} {e:hM} (h:ak.rep (α:=ia) m S R w cs (ji e)):∃ay bv,cs=[Δ e.v,ay,bv]/\Seen ea w [ay] e.sc/\Seen ea w [bv] e.ec:=by
 obtain⟨U,ab,A,B,rfl,_,_,_,h1,V,W,ac,ad,rfl,_,_,_,I,J⟩:=h;have h1:U=[Δ e.v]:=h1;have I:Seen _ w V e.sc:=I;have J:Seen _ w W e.ec:=J;have one:∀ {α:Type} [ak α] {m:Bool} {S R:ai} {c:List x1} {l:List α},ak.rep m S R w c l-> ∃v,c=[v]:=λh=>by obtain⟨v,X,_⟩:=h;exact⟨v,X⟩
 obtain⟨Y,rfl⟩:=one I;obtain⟨aa,rfl⟩:=one J;subst h1;exact⟨Y,aa,rfl,hz I,hz J⟩
theorem Mc (x:fQ):(c5 x).length<=x.un.length:=by
 unfold c5;have:=List.length_filter_le (λv:Int=>!dropped x.mask v) ((X9 x.un.length).map λv:Nat=>(v:Int));rw[u5,List.length_range] at this;exact this
theorem BG {b:Bool} {au aJ:x1} {I J U:List Int} (h1:Seen ea w [ay] I) (V:Seen ea w [au] J) (W:Seen ea w [aJ] U):∀u∈[ay,au,aJ,.bool b],u.oneCell'=true:=by
 intro u hu;simp only[U9,List.not_mem_nil,or_false] at hu;rcases hu with rfl|rfl|rfl|rfl
 .exact ga h1
 .exact ga V
 .exact ga W
 .rfl
def mH (s:aF) (l:List Int) (m:Nat) (r:Int):Prop:=(r= -1/\ ∀ (q:Nat) g,q<m->s.funs[q]? =σ g->¬(g.live≠0/\g.sc=l))\/ ∃ (j:Nat) (f:ev),r=j/\j<m/\s.funs[j]? =σ f/\f.live≠0/\f.sc=l/\ ∀ (q:Nat) g,q<j->s.funs[q]? =σ g->¬(g.live≠0/\g.sc=l)
theorem mH.step {s:aF} {r:Int} {g:ev} (h:mH s l m r) (U:s.funs[m]? =σ g):mH s l (m+1) (if g.live≠0/\r<0/\g.sc=l then (m:Int) else r):=by
 rcases h with⟨rfl,h⟩|⟨j,f,rfl,ab,h1,W,X,Y⟩
 .by_cases I:g.live≠0/\g.sc=l
  .rw[if_pos ⟨I.1,Ω,I.2⟩];exact .inr ⟨m,g,rfl,Ω,U,I.1,I.2,λq y V J=>h q y V J⟩
  .rw[if_neg λh=>I ⟨h.1,h.2.2⟩];refine .inl ⟨rfl,λq y V J=>?_⟩;by_cases aa:q=m
   .subst aa;rw[U] at J;cases J;exact I
   .exact h q y Ω J
 .rw[if_neg λh=>Ω];exact .inr ⟨j,f,rfl,Ω,h1,W,X,Y⟩
theorem mH.find {s:aF} {r V:Int} (h:mH s l s.funs.length r) (k:Bg s l V):V=r:=by
 rcases h with⟨rfl,h⟩|⟨j,f,rfl,ae,h1,W,X,ac⟩ <;> rcases k with⟨rfl,k⟩|⟨I,Y,rfl,J,aa,ab,ad⟩
 .rfl
 .exact absurd ⟨aa,ab⟩ (h I Y (x4.1 J).1 J)
 .exact absurd ⟨W,X⟩ (k f (x6 h1))
 .rcases Nat.lt_trichotomy j I with U|rfl|U
  .exact absurd ⟨W,X⟩ (ad j f U h1)
  .rfl
  .exact absurd ⟨aa,ab⟩ (ac I Y U J)
section
variable {w:x2} {al ag:Nat} {A R:ai} {n:aV} {s:aF} {t:aC} {jC:x1}
theorem Md (h:b9 w al ag A R n s t) (cN:iH w jC n.k n.sizes s) (cP:Laid w) (cQ:nZ s) (dX:s.funs.length<=100000) (cR:s.elims.length<=100000):aj x3 CK [Γ al,jC] w λv w'=>v= .bool true/\Ext w w':=by
 have bz:=h.2.2.2.1;have dY:=bz.vars;have one:∀ {w:x2} {α:Type} [ak α] {m:Bool} {S R:ai} {c:List x1} {l:List α},ak.rep m S R w c l-> ∃v,c=[v]:=λh=>by obtain⟨v,ba,_⟩:=h;exact⟨v,ba⟩
 refine aA func41 ?_;refine bM λdZ U eb bA cS=>?_;obtain⟨au,ec,ed,ef,cT,eg,aH,bG,_,cU,cV,cX,bm,cl⟩:=cN.box bA cS;have h1:=h.ext bA;refine aP (λv bV=>v= .bool false/\Ext U bV) ?_ λeh cY=>?_
 rotate_left
 .intro bV bj _ _;rw[bI aE.p 0 (aH.ext bj) rfl];refine (my (h1.ext bj)).mono ?_;rintro _ bK _ ⟨rfl,a2⟩;have bL:=bj.trans a2;refine⟨.inl a2,?_⟩;rw[bB,ad];refine⟨λbk=>absurd rfl bk,λ_=>?_⟩;rw[bI aE.p 1 (aH.ext bL) rfl,aS ah.u (bG.ext bL)];refine (uD (h1.ext bL)).mono ?_;rintro _ bb _ ⟨rfl,aD⟩;have bd:=bL.trans aD;refine⟨.inl aD,?_⟩;rw[bB,ad];refine⟨λbk=>absurd rfl bk,λ_=>?_⟩;rw[bI aE.p 2 (aH.ext bd) rfl];refine (A3 (h1.ext bd)).mono ?_;rintro _ aI _ ⟨rfl,Y⟩;have am:=bd.trans Y;refine⟨.inl Y,?_⟩;rw[bB,ad];refine⟨λbk=>absurd rfl bk,λ_=>?_⟩;rw[bI aE.p 6 (aH.ext am) rfl,eK b1.u (be bm am),u5];refine (pz (h1.ext am)).mono ?_;rintro _ aB _ ⟨rfl,I⟩;refine⟨.inl I,?_⟩;rw[bB];exact cY _ _ ⟨by congr 1;exact decide_eq_false Ω,am.trans I⟩
 rintro _ bV ⟨rfl,bj⟩;rw[aQ,bI aE.p 1 (aH.ext bj) rfl,aS ah.u (bG.ext bj)];refine bC.range n.sizes.length (λi _ bK=>Ext U bK) bG.le bj ?_ ?_
 .rintro i t4 bK cZ hi a2 c0;obtain⟨z,bN⟩:∃z,n.sizes[i]? =σ z:=⟨_,y0 hi⟩;obtain⟨x,bf⟩:∃x,s.vars[i]? =σ x:=⟨_,y0 Ω⟩;obtain⟨ei,ej,_⟩:=bz.var i x z bf bN;have ek:=bz.e5.2.2 z (x6 bN);have c1:z=(x.un.length:Int):=Ω
  rw[ao,ad];refine⟨λ_=>?_,λh=>Ω⟩;rw[bc ah.u ab.i Ψ (bG.ext a2) bN];refine aP (λv bb=>v= .bool false/\Ext U bb) ?_ λem c2=>?_
  .rintro _ bb ⟨rfl,aD⟩;rw[aQ,bI aE.p 6 (aH.ext aD) rfl,eK b1.u (be bm aD),u5];refine bC.range s.funs.length (λj out aI=>Ext U aI/\ ∃g,aq .i64 ab aI g out (fD s i j)/\ ∀r,leads out r->U.heap.size<=r) Ω ⟨aD,0,aq.nil _ _ _ _,λr aM=>by obtain⟨a,n,c,aT,bl⟩:=aM;cases aT⟩ ?_ ?_
   .rintro j out aI c3 bX ⟨Y,g,hm,bY⟩ c4;obtain⟨f,aR⟩:∃f,s.funs[j]? =σ f:=⟨_,y0 bX⟩;rw[ao,ad];refine⟨λ_=>?_,λh=>Ω⟩;refine aP (λout aB=>Ext U aB/\ ∃g,aq .i64 ab aB g out (fD s i (j+1))/\ ∀r,leads out r->U.heap.size<=r) (λout aB bZ=>by rw[aN];exact c4 _ _ bZ) λeo cm=>?_;refine im (α:=fC) (a:=ee f) bW.p rfl b1.u bW.i (be bm Y) (by rw[x8,aR];rfl) λcs bE=>?_;obtain⟨ay,aX,aJ,rfl,aT,bl,bo⟩:=pG bE;have c6:∀u∈[ay,aX,aJ,.bool (decide (f.live≠0))],u.oneCell'=true:=BG aT bl bo;refine bt bW.i λcn aF ep af c7=>?_;refine bJ (vs:=[ay,aX,aJ,.bool (decide (f.live≠0))]) bW.i rfl rfl c6 c7 λap b0 c8 aZ=>?_;have b2:Ext aI ap:=af.then b0 λr aM he=>by have he:r=cn:=he;omega
    refine aP (λr a1=>r= .bool (ho s i j)/\Ext aI a1) ?_ λer cp=>?_
    .rintro _ a1 ⟨rfl,X⟩;rw[bH];refine⟨λc9=>?_,λda=>cm _ _ ⟨Y.trans X,g,by rw[BE,if_neg (by rw[da];decide)];exact hm.ext X,bY⟩⟩;exact L8 (Y.trans X) (hm.ext X) bY (by have:=L9 (s:=s) (i:=i) (j:=j);omega) λv aV db aC dd de=>cm _ _ ⟨aC,db,by rw[BE,if_pos c9];exact dd,de⟩
    .have cq:ho s i j=(decide (f.live≠0)&&decide ((i:Int)∈f.sc)):=by unfold ho;rw[aR]
     rw[bI bW.p 1 aZ rfl,ad];refine⟨λaG=>?_,λaG=>cp _ _ ⟨by rw[cq,decide_eq_false aG,Bool.false_and],b2⟩⟩;rw[aa bW.p rfl,aa aY.p rfl,ac (v:=ay) Ψ (aZ.cell (o:=0+0+0) rfl)];refine (uV (x:=(i:Int)) (dR (be aT b2))).mono ?_;rintro _ aV _ ⟨rfl,aC⟩;exact cp _ _ ⟨by rw[cq,decide_eq_true aG,U7],b2.trans aC⟩
   .rintro out aI c3 ⟨Y,g,hm,bY⟩;rw[ao,ad];refine⟨λh=>Ω,λ_=>?_⟩;refine (Bq (i:=(i:Int)) (h1.ext Y)).mono ?_;rintro v aB _ ⟨I,es,df,_⟩;refine (kr df.ls (hm.ls.ext I)).mono ?_;rintro _ aF _ ⟨rfl,af⟩;rw[decide_eq_true rfl,bg,Y1,aQ,c1];refine bC.range x.un.length (λv _ ap=>Ext U ap) Ω ((Y.trans I).trans af) ?_ ?_
    .rintro v bF ap dg ba W dh;obtain⟨c,av⟩:∃c,x.un[v]? =σ c:=⟨_,y0 ba⟩;rw[ao,ad];refine⟨λ_=>?_,λh=>Ω⟩;refine (A4 (i:=(i:Int)) (v:=(v:Int)) (h1.ext W)).mono ?_;rintro _ a1 _ ⟨rfl,X⟩;have di:ez n i v:=⟨Ω,Ω,Ω,by rw[j9,u4,bN,S1];omega⟩;have dj:mz s (i:Int).toNat (v:Int).toNat=c:=by
      rw[j9,j9];unfold mz;rw[bf];simp[u4,av]
     rw[if_pos di,dj,aK (v:=Δ c) rfl,aK (v:=Δ 0) rfl];refine aP (λv w'=>v= .bool false/\Ext U w') ?_ λet dk=>?_
     .rintro _ aV ⟨rfl,aC⟩;rw[aQ,aN];exact dh _ _ aC
     .have bh:=W.trans X;rw[bB,ad];refine⟨λh=>absurd rfl h,λ_=>?_⟩;rw[bI aE.p 5 (aH.ext bh) rfl];refine k7 (α:=List Int) (a:=x.un) rfl rfl dF.u ax.i Ψ (be cX bh) (by rw[x8,bf];rfl) λeu dl=>?_;rw[bc ax.u an.i Ψ (dR dl) av,bB];exact dk _ _ ⟨by congr 1;exact decide_eq_false Ω,bh⟩
    .rintro bF ap dg W;rw[ao,ad];refine⟨λh=>Ω,λ_=>?_⟩;rw[aN];exact c0 _ _ W
  .intro bb aD _ _;have bd:=a2.trans aD;rw[bI aE.p 4 (aH.ext bd) rfl];refine jz (α:=Bool) (a:=decide (x.gone≠0)) rfl fl.u eI.i (be cV bd) (by rw[x8,bf];rfl) λb o cs aM av=>?_;obtain rfl:cs=[.bool (decide (x.gone≠0))]:=av;rw[ac (v:=.bool (decide (x.gone≠0))) Ψ (by have:=aM 0 _ rfl;simpa using this)];refine (rG (i:=(i:Int)) (h1.ext bd)).mono ?_;rintro _ aI _ ⟨rfl,Y⟩;have am:=bd.trans Y;refine⟨.inl Y,?_⟩;have dm:(decide (0<=(i:Int))&&fB s (i:Int).toNat)=decide (x.gone≠0):=by
    rw[decide_eq_true Ω,U7,j9];unfold fB;rw[bf]
   rw[dm,rM eI.u,beq_self_eq_true,Y1,aQ,bI aE.p 3 (aH.ext am) rfl];refine jz (α:=List Int) (a:=c5 x) rfl cu.u ah.i (be cU am) (by rw[x8,bf];rfl) λb o cs aM av=>?_;obtain⟨dn,rfl⟩:=one av;rw[ac (v:=dn) Ψ (by have:=aM 0 _ rfl;simpa using this)];refine (uF (i:=(i:Int)) (h1.ext am)).mono ?_;rintro _ aB _ ⟨⟨ew,ey,rfl,cr⟩,I⟩;refine⟨.inl I,?_⟩;refine Gd.mono ?_;rintro _ aF _ ⟨af,ct,rfl,eA,b3⟩;refine⟨.inl (I.trans af),?_⟩;have cw:=K5 cr Ω (by rw[j9];exact bf);have a6:=(am.trans I).trans af;have dp:=cP.ext (bA.trans a6);have eB:=bA.size;refine (zP (L:=c5 x) (Gc (g:=ct) cr.1) (λk vs w dq=>by
     obtain⟨v,ba,rfl⟩:=dq;exact⟨v,by rw[<-cw,x8,ba];rfl,rfl⟩) (λa b av cz=>⟨cz.1.V av λh=>by have:=b3.lt;have h:aF.heap.size<=ct:=h;omega,oo av (λh=>by have h:aF.heap.size<=0:=h;have:=b3.lt;omega) cz.2⟩) ⟨b3,dp⟩ (by rw[<-cw,u5]) (by have:=Mc x;omega)).mono ?_
   rintro _ ap _ ⟨W,eC,_,dr⟩;refine⟨.inl ((I.trans af).trans W),?_⟩;have bP:=a6.trans W;refine (kr dr.ls (dR (be (hz av) ((I.trans af).trans W)))).mono ?_;rintro _ a1 _ ⟨rfl,X⟩;rw[decide_eq_true rfl,bg,Y1,aQ];have bh:=bP.trans X;refine (uF (i:=(i:Int)) (h1.ext bh)).mono ?_;rintro _ aV _ ⟨⟨eD,eE,rfl,ds⟩,aC⟩;refine x9.mono ?_;rintro _ aW _ ⟨rfl,aw⟩;rw[bB];have eF:=(ds.2.2 x Ω (by rw[j9];exact bf)).1;exact c2 _ _ ⟨by congr 1;exact decide_eq_false Ω,(bh.trans aC).trans aw⟩
 .rintro t4 bK cZ a2;rw[ao,ad];refine⟨λh=>Ω,λ_=>?_⟩;rw[bI aE.p 6 (aH.ext a2) rfl,eK b1.u (be bm a2),u5];have cA:∀ {a7:x2} {q:Nat} {f:ev} {K:x1->x2->Prop},Ext U a7->s.funs[q]? =σ f->
    (∀ay aX aJ aU bp,Ext a7 bp->ae bp aU bW [ay,aX,aJ,.bool (decide (f.live≠0))]->Seen ea a7 [ay] f.sc->Seen ea a7 [aX] f.szs->Seen ea a7 [aJ] f.cs->K (Γ aU) bp)->
    J x3 (n0 b1 cT (Δ (q:Int))) a7 λp=>J x3 (x5 bW p) a7 λy=>az x3 (S6 bW true (.tuple #[])) a7 λa bp=>az x3 (o4 bW a y) bp λ(_:Unit) b4=>K a b4:=λ{a7 q f K} dt aR du=>by
   refine im (α:=fC) (a:=ee f) bW.p rfl b1.u bW.i (be bm dt) (by rw[x8,aR];rfl) λcs bE=>?_;obtain⟨ay,aX,aJ,rfl,aT,bl,bo⟩:=pG bE;refine bt bW.i λaU bp dv dw b5=>?_;refine bJ (vs:=[ay,aX,aJ,.bool (decide (f.live≠0))]) bW.i rfl rfl (BG aT bl bo) b5 λb4 dx eH dy=>?_;exact du ay aX aJ aU b4 (dw.then dx λr aM he=>by have he:r=aU:=he;omega) dy aT bl bo
  refine bC.range s.funs.length (λj _ bb=>Ext U bb) Ω a2 ?_ ?_
  .rintro j bF bb dz bX aD dA;obtain⟨f,aR⟩:∃f,s.funs[j]? =σ f:=⟨_,y0 bX⟩;obtain⟨bQ,b7,_⟩:=bz.funs f (x6 aR);rw[ao,ad];refine⟨λ_=>?_,λh=>Ω⟩;refine cA aD aR λay aX aJ cn aI Y bq aT bl bo=>?_;have am:=aD.trans Y;rw[bI aE.p 6 (aH.ext am) rfl,eK b1.u (be bm am),u5];refine bC.range s.funs.length (λq a aB=>Ext aI aB/\ ∃r:Int,a=Δ r/\mH s f.sc q r) Ω ⟨Ext.refl _,-1,rfl,.inl ⟨rfl,λq g h=>Ω⟩⟩ ?_ ?_
   .rintro q _ aB ca br ⟨I,r,rfl,aM⟩ cb;obtain⟨g,cB⟩:∃g,s.funs[q]? =σ g:=⟨_,y0 br⟩;rw[ao,ad];refine⟨λ_=>?_,λh=>Ω⟩;refine aP (λa aF=>Ext aI aF/\ ∃r:Int,a=Δ r/\mH s f.sc (q+1) r) (λout aF bZ=>by rw[aN];exact cb _ _ bZ) λeJ cC=>?_;refine cA (am.trans I) cB λdC eL eM eN aF af cD d1 d2 d3=>?_;have aO:=I.trans af;have bS:=aM.step cB;refine aP (λv ap=>v= .bool (decide (g.live≠0/\r<0/\g.sc=f.sc))/\Ext aF ap) ?_ λeO cc=>?_
    .rintro _ ap ⟨rfl,W⟩;rw[ad];exact⟨λav=>cC _ _ ⟨aO.trans W,_,rfl,by rw[if_pos av] at bS;exact bS⟩,λav=>cC _ _ ⟨aO.trans W,_,rfl,by rw[if_neg av] at bS;exact bS⟩⟩
    .rw[bI bW.p 1 cD rfl,ad];refine⟨λaG=>?_,λaG=>cc _ _ ⟨by congr 1;symm;exact decide_eq_false λh=>aG h.1,Ext.refl _⟩⟩;rw[ao,ad];refine⟨λcd=>?_,λcd=>cc _ _ ⟨by congr 1;symm;exact decide_eq_false λh=>cd h.2.1,Ext.refl _⟩⟩;rw[aa bW.p rfl,aa aY.p rfl,ac (v:=dC) Ψ (cD.cell (o:=0+0+0) rfl),aa bW.p rfl,aa aY.p rfl,ac (v:=ay) Ψ ((bq.ext aO).cell (o:=0+0+0) rfl)];refine (kr (dR (be d1 af)) (dR (be aT (Y.trans aO)))).mono ?_;rintro _ ap _ ⟨rfl,W⟩;exact cc _ _ ⟨by congr 1;exact decide_eq_decide.2 ⟨λh=>⟨aG,cd,h⟩,λh=>h.2.2⟩,W⟩
   .rintro _ aB ca ⟨I,r,rfl,aM⟩;rw[ao,ad];refine⟨λh=>Ω,λ_=>?_⟩;have bT:=am.trans I;refine aP (λv aF=>v= .bool false/\Ext aB aF) ?_ λeP dD=>?_
    .rintro _ aF ⟨rfl,af⟩;have a6:=bT.trans af;have aO:=I.trans af;have ce:dS f.szs:=by rw[b7];exact nD bz.e5.2.2 λv ba=>⟨(bQ.scope.1 v ba).1,bQ.vars v ba⟩
     have dE:bR f.szs:=⟨by rw[b7];unfold bD;rw[u5];exact bQ.scope.2,ce⟩;have eQ:=h2 ce;have eR:f.cs.length=(aL f.szs).toNat:=by rw[b7];exact bQ.len
     rw[aQ,aa bW.p rfl,aa aY.p rfl,ac (v:=aX) Ψ ((bq.ext aO).cell (o:=0+0+1) rfl)];refine (oE f.szs (dR (be bl (Y.trans aO))) dE).mono ?_;rintro eS ap _ ⟨W,cg⟩;rw[eK cu.u cg];refine bC.range (bu f.szs).length (λq _ a1=>Ext ap a1) (m8 cg) (Ext.refl _) ?_ ?_
     .rintro q t5 a1 dG br X cE;obtain⟨bw,cF⟩:∃bw,(bu f.szs)[q]? =σ bw:=⟨_,y0 br⟩;obtain⟨c,av⟩:∃c,f.cs[q]? =σ c:=⟨_,y0 Ω⟩;rw[ao,ad];refine⟨λ_=>?_,λh=>Ω⟩;refine k7 (α:=List Int) (a:=bw) rfl rfl cu.u ah.i Ψ (be cg X) cF λu hu=>?_;have bh:=(a6.trans W).trans X;refine (A7 (j:=j) (h1.ext bh) (dR (hz hu))).mono ?_;rintro _ aV _ ⟨rfl,aC⟩;have a8:=bq.ext (((aO.trans W).trans X).trans aC);have cG:=oF ce cF;have cH:∀aW,Ext aV aW->Ext ap aW:=λaW aw=>(X.trans aC).trans aw;by_cases aG:f.live≠0
      .have ch:(en s j bw).isSome=true:=by unfold en;rw[aR];simp only;rw[if_pos aG,cG];rfl
       have dH:iF s j bw=c:=by unfold iF cW;rw[aR];simp only;rw[cG];simp[u4,av]
       rw[if_pos ch,dH,aK (v:=Δ c) rfl,aK (v:=Δ 0) rfl];refine aP (λv w'=>v= .bool false/\Ext aV w') ?_ λdI ci=>?_
       .rintro _ aW ⟨rfl,aw⟩;rw[aQ,aN];exact cE _ _ (cH _ aw)
       rw[bi,bI bW.p 1 a8 rfl,rM eI.u,decide_eq_true rfl,decide_eq_true aG,beq_self_eq_true,Y1,aQ,bI bW.p 1 a8 rfl,decide_eq_true aG,bO,aa bW.p rfl,aa aY.p rfl,ac (v:=aJ) Ψ (a8.cell (o:=0+0+2) rfl),bc ax.u an.i Ψ (dR (be bo (Y.trans (((aO.trans W).trans X).trans aC)))) av,bB];exact ci _ _ ⟨by congr 1;exact decide_eq_false Ω,Ext.refl _⟩
      .have ch:¬(en s j bw).isSome=true:=by unfold en;rw[aR];simp only;rw[if_neg aG];simp
       rw[if_neg ch,aK (v:=Δ 0) rfl,aK (v:=Δ 1) rfl];refine aP (λv w'=>v= .bool false/\Ext aV w') ?_ λdI ci=>?_
       .rintro _ aW ⟨rfl,aw⟩;rw[aQ,aN];exact cE _ _ (cH _ aw)
       rw[bi,bI bW.p 1 a8 rfl,rM eI.u,decide_eq_false Φ,decide_eq_false aG,beq_self_eq_true,Y1,aQ,bI bW.p 1 a8 rfl,decide_eq_false aG,aQ];exact ci _ _ ⟨rfl,Ext.refl _⟩
     .rintro t5 a1 dG X;rw[ao,ad];refine⟨λh=>Ω,λ_=>?_⟩;rw[aN];exact dA _ _ ((a6.trans W).trans X)
    .intro aF af _ _;have a6:=bT.trans af;have aO:=I.trans af;have dJ:(decide (0<=(j:Int))&&dL s (j:Int).toNat)=decide (f.live≠0):=by
      rw[decide_eq_true Ω,U7,j9];unfold dL;rw[aR]
     rw[bI bW.p 1 (bq.ext aO) rfl];refine (mA (j:=(j:Int)) (h1.ext a6)).mono ?_;rintro _ ap _ ⟨rfl,W⟩;refine⟨.inl W,?_⟩;have aZ:=bq.ext (aO.trans W);rw[dJ,rM eI.u,beq_self_eq_true,Y1,aQ,aa bW.p rfl,aa aY.p rfl,ac (v:=ay) Ψ (aZ.cell (o:=0+0+0) rfl)];refine (K6 (h1.ext (a6.trans W)) aR).mono ?_;rintro _ a1 _ ⟨X,eU,_,dK⟩;refine⟨.inl X,?_⟩;have cj:=(aO.trans W).trans X;refine (kr dK.ls (dR (be aT (Y.trans cj)))).mono ?_;rintro _ aV _ ⟨rfl,aC⟩;rw[decide_eq_true rfl,bg,Y1,aQ,aa bW.p rfl,aa aY.p rfl,ac (v:=ay) Ψ ((bq.ext (cj.trans aC)).cell (o:=0+0+0) rfl)];refine (KK (h1.ext (((a6.trans W).trans X).trans aC)) (dR (be aT (Y.trans (cj.trans aC))))).mono ?_;rintro _ aW _ ⟨⟨eV,rfl,dM⟩,aw⟩;rw[bB];exact dD _ _ ⟨by congr 1;exact decide_eq_false (by rw[aM.find dM];simp),(((af.trans W).trans X).trans aC).trans aw⟩
  .rintro bF bb dz aD;rw[ao,ad];refine⟨λh=>Ω,λ_=>?_⟩;refine (Ma (h1.ext aD) cQ cR).mono ?_;rintro eW aI _ ⟨Y,eY,⟨E,bU,dN,dO⟩,_⟩;have am:=aD.trans Y;rw[dc gq.u bU,bI aE.p 7 (aH.ext am) rfl,eK eX.u (be cl am),u5,bB,ad];refine⟨λbk=>absurd (by rw[dN]) bk,λ_=>?_⟩;rw[dc gq.u bU];refine bC.range E.length (λq _ aB=>Ext aI aB) Ω (Ext.refl _) ?_ ?_
   .rintro q bF aB ca br I cb;obtain⟨x,cI⟩:∃x,E[q]? =σ x:=⟨_,y0 br⟩;obtain⟨e,cJ⟩:∃e,s.elims[q]? =σ e:=⟨_,y0 Ω⟩;obtain⟨dP,⟨_,cK⟩,_,cL⟩:=dO q x e cI cJ;have bT:=am.trans I;rw[ao,ad];refine⟨λ_=>?_,λh=>Ω⟩;rw[cO rfl gq.u b8.i (bU.ext I) br,bn b8.p b8.i rfl ((bU.ext I).range cI)];refine bt b8.i λaU aF dv af b5=>?_;refine bJ (vs:=h8 x) b8.i rfl rfl (by intro u hu;simp[h8] at hu;rcases hu with rfl|rfl|rfl <;> first|rfl|exact cK.ls.cells.2|exact cL.ls.cells.2) b5 λap b0 c8 aZ=>?_;have cM:Ext aB ap:=af.then b0 λr aM he=>by have he:r=aU:=he;omega
    have bP:=bT.trans cM;have aZ:ae ap aU b8 [Δ x.v,x.ay,x.bv]:=aZ;rw[bI aE.p 7 (aH.ext bP) rfl];refine im (α:=ia) (a:=ji e) b6.p rfl eX.u b6.i (be cl bP) (by rw[x8,cJ];rfl) λcs bE=>?_;obtain⟨ay,bv,rfl,d1,d2⟩:=Mb bE;refine bt b6.i λdQ a1 eZ X dT=>?_;refine bJ (vs:=[Δ e.v,ay,bv]) b6.i rfl rfl (by intro u hu;simp at hu;rcases hu with rfl|rfl|rfl <;> first|rfl|exact ga d1|exact ga d2) dT λaV dU e0 a8=>?_;have bx:Ext ap aV:=X.then dU λr aM he=>by have he:r=dQ:=he;omega
    have ck:=cM.trans bx;refine aP (λv aW=>v= .bool false/\Ext aV aW) ?_ λe1 dV=>?_
    .rintro _ aW ⟨rfl,aw⟩;rw[aQ,aN];exact cb _ _ ((I.trans ck).trans aw)
    rw[bI b8.p 0 (aZ.ext bx) rfl,bI b6.p 0 a8 rfl,bB,dP,ad];refine⟨λh=>absurd rfl h,λ_=>?_⟩;rw[bI b8.p 1 (aZ.ext bx) rfl,bI b6.p 1 a8 rfl];refine (kr ((cK.ls.ext I).ext ck) (dR (be d1 bx))).mono ?_;rintro _ aW _ ⟨rfl,aw⟩;rw[decide_eq_true rfl,bg,Y1,aQ,bI b8.p 2 (aZ.ext (bx.trans aw)) rfl,bI b6.p 2 (a8.ext aw) rfl];refine (kr (((cL.ls.ext I).ext ck).ext aw) (dR (be d2 (bx.trans aw)))).mono ?_;rintro _ e2 _ ⟨rfl,dW⟩;rw[decide_eq_true rfl,bg];exact dV _ _ ⟨rfl,aw.trans dW⟩
   .rintro bF aB ca I;rw[ao,ad];exact⟨λh=>Ω,λ_=>⟨rfl,bA.trans (am.trans I)⟩⟩
end
theorem Me {J U:x2} {al am a8:Nat} {A R:ai} {A9:Nat->ai} {aO:ai} {f:bY} {t:aC} (p:bG J al ag am A R A9 aO (cC f) (dU (cC f)) (dU (cC f)) t [] cs) (X:∀r,A r->w.heap.size<=r) (Y:∀q r,A9 q r->w.heap.size<=r) (ad:w.heap.size<=am)
  (af:t.cells.length<=2000000) (ah:t.olds.length=0) (aj:(cC f).funs.length<=256) (ak:t.ever=0) (aa:Ext J U) (an:J.heap.size<=a8) (ao:w.heap.size<=J.heap.size) (V:ae U a8 cV [.slice ν 0 0]):fG w.heap.size U al ag am a8 (cC f) 0:=by
 have W:=jU p.cc;have ab:=p.olds.ext aa;have ac:=V.lt;refine⟨A,R,_,aO,λr=>r=a8,λ_=>False,_,t,[],[],cs,ab,⟨rfl,λi dk dr h=>(by simp at h),λ_ h=>(by cases h),λ_ h=>(by cases h),.nil⟩,⟨rfl,_,0,[],V,a6.nil _ _ _ _ _,λr I=>(eF I).elim,rfl,λi c s h=>(by simp at h)⟩,⟨λr I=>?_,λr I=>I.elim⟩,λr I=>?_,λe he=>(by simp[dU] at he),Ξ,Ω,Ω,Ω,by show ((cC f).funs.map _).length<=_;rw[u5];omega,by simp[dU]⟩
 .have I:r=a8:=I;subst I;exact⟨ac,λh=>by have:=W r (.inl h);omega,λh=>by have:=W r (.inr h);omega,λq h=>by have:=h.2;omega,λh=>by have:=(p.read r h).2.1;omega,by have:=p.box.lt;omega,λh=>h⟩
 .rcases I with I|⟨q,I⟩|I|I
  .exact X r I
  .exact Y q r I.1
  .omega
  .have I:r=a8:=I;omega
theorem Mf {p an:x1} {pl:List Int} {L:List nW} {Q:x1->x2->Prop} (ap:∀w',Ext w w'->Q (.bool true) w') (aJ:aI .u8 w p pl) (aL:∀b∈pl,0<=b/\b<256) (Y:Seen ea w [an] L) (aM:∀x∈L,(nX x).ok) (aq:eM w) (aS:Laid w):
  aj x3 wi [p,an] w Q:=by
 refine aA func7 ?_;refine (LN aq).mono ?_;rintro _ U _ ⟨rfl,W⟩;rw[bg,Y1,aQ];refine (BB (aJ.ext W) aL (aq.ext W)).mono ?_;rintro _ aT _ ⟨au,aU,cs,ok,rfl,⟨aV,aa⟩,aW,_⟩;have aX:=W.trans au;rw[aK (v:=aU) rfl,aK (v:=.agg cs.toArray) rfl,aK (v:=.bool ok) rfl];refine bt aE.i λam bY bZ aY aZ=>?_;refine bJ (vs:=cs) aE.i aV rfl aa aZ λa1 a2 b0 a6=>?_;have ab:Ext aT a1:=aY.then a2 λr a7 he=>by have he:r=am:=he;omega
 have av:=aX.trans ab;rcases aW with⟨rfl,rfl⟩|⟨rfl,f,_,ba⟩
 .rw[bg,X4,bO,cA eW.u];exact ap _ av
 obtain⟨al,ag,A,R,A9,aO,t,rfl,P,b1,bb,bc,bd,bf,bh,bi⟩:=LM ba ab a6 Ω;rw[bg,Y1,aQ];have b2:=W.size;have b3:=au.size;have b4:=ab.size;refine bt cV.i λa8 bj b5 aw bk=>?_;have bm:fG w.heap.size bj al ag am a8 (cC f) 0:=Me P (λr h=>by have:=bb r h;omega) (λq r h=>by have:=bc q r h;omega) Ω bd bf bh bi aw Ω Ω bk;have ax:=av.trans aw;refine aP (λ_ J=>Ext w J/\ ∃m,m<=40/\fG w.heap.size J al ag am a8 (cC f) m) ?_ λb6 ay=>?_
 .rintro t4 J ⟨V,m,hm,A,R,A9,aO,O,M,s,t,h,I,cs,p,az,b7,bo,bp,aB,bq,br,bu,bw,bx,bz⟩;refine p.look.load λu hu=>?_;refine (Md p.cc hu (aS.ext V) aB Ω Ω).mono ?_;rintro _ b8 _ ⟨rfl,bA⟩;exact ap _ (V.trans bA)
 rw[eK qt.u (be Y ax)];refine bC.range L.length (λi _ J=>Ext w J/\i<=40/\fG w.heap.size J al ag am a8 (cC f) i) (m8 Y) ⟨ax,Ω,bm⟩ ?_ ?_
 .rintro i t4 J bD hi ⟨V,ae,X⟩ bE;obtain⟨x,aC⟩:∃x,L[i]? =σ x:=⟨_,y0 hi⟩;have bF:=aM x (x6 aC);rw[ao,ad];refine⟨λ_=>?_,λh=>Ω⟩;refine im (α:=nW) aR.p rfl qt.u aR.i (be Y V) aC λcs bG=>?_;obtain⟨aD,b9,aa,bH⟩:=LL bG bF;refine bt aR.i λbI ca cd bK bL=>?_;refine bJ (vs:=cs) aR.i aD rfl aa bL λbM bP ce bQ=>?_;have af:Ext J bM:=bK.then bP λr a7 he=>by have he:r=bI:=he;omega
  have aF:=V.trans af;rw[cb,ad];refine⟨λ_=>ay _ _ ⟨aF,i,ae,X.ext af⟩,λcg=>?_⟩;refine aP (λv ah=>v= .bool false/\Ext w ah/\fG w.heap.size ah al ag am a8 (cC f) (i+1)) ?_ λch bR=>?_
  .rintro _ ah ⟨rfl,bS,bT⟩;rw[aQ,aN];exact bE _ _ ⟨bS,Ω,bT⟩
  intro ci ai _ _;rw[bn aR.p aR.i aD (bQ.ext ai).range];have aG:=af.trans ai;refine L7 (aF.trans ai) (X.ext aG) Ω (bH.ext aG) λcj bU aH=>?_;rw[bg,Y1,aQ];obtain⟨A,R,A9,aO,O,M,s,t,h,I,bl,p,az,⟨ck,bN,g,cl,bV,bW,cm,bX,cn⟩,bo,bp,aB,bq,br,bu,bw,bx,bz⟩:=id aH;rw[ac (v:=bN) Ψ (bV.cell (o:=0) rfl),dc cV.u bW];refine (LQ p.cc).mono ?_;rintro _ cp _ ⟨rfl,ak⟩;refine⟨.inl ak,?_⟩;rw[bB];exact bR _ _ ⟨by congr 1;exact decide_eq_false (by rw[p.gm.len,bX,az.len];simp),bU.trans ak,aH.ext ak⟩
 .rintro t4 J bD ⟨V,ae,X⟩;rw[ao,ad];exact⟨λh=>Ω,λ_=>ay _ _ ⟨V,_,ae,X⟩⟩
theorem Mg {p I:x1} {pl:List Int} {L:List nW} (J:aI .u8 w p pl) (U:∀b∈pl,0<=b/\b<256) (V:Seen ea w [I] L) (W:∀x∈L,(nX x).ok) (X:eM w) (Y:Laid w):
  aj x3 wi [p,I] w λv w'=>v= .bool true/\Ext w w':=by
 exact Mf (λw' aa=>⟨rfl,aa⟩) J U V W X Y
end Go.Proofs.YtgbkinibgjmodaaGreatDoor
