/- own texts, made small by a tool (wip/ holds them as they were written): no statement of the seat. -/
import Derived.Test.YtgbkinibgjmodaaGreatDoorZe
set_option linter.unusedVariables false
set_option linter.unusedSimpArgs false
set_option linter.unnecessarySimpa false
open Array renaming getElem?_eq_some_iff→j6
open Bool renaming not_true→Y1,not_false→X5,true_and→V6,eq_iff_iff→V8,and_eq_true→U4
open Decidable renaming not_not→X4
open Go renaming Value→x1,World→x2,TypeId→r9,IntKind→o6,Builtin→l7
open Go.Addr renaming add_mid→U7
open Go.Builtin renaming append_→l9,len_→Y3
open Go.Instr renaming loadAt→x6,fieldAt→x7,storeAt→o5,indexAt→n0,buildSlice→Z7,extract→Z9,sliceAt→W6,alloc→S7
open Go.IntKind renaming i64→Y6
open Go.Proofs.Tryz renaming prog→x3
open Go.Value renaming int→V4
open Int renaming toNat_natCast→j0
open List renaming getElem?_eq_getElem→y0,getElem?_eq_some_iff→x4,mem_of_getElem?→x5,getElem?_map→x8,length_map→u4,getD_eq_getElem?_getD→u5,length_append→u9,take_add_one→r8,length_take→o4,take_length→o9,mem_append→n9,take_of_length_le→l5,mem_singleton→j4,length_cons→j5,getElem?_append_left→j9,mem_map→Z1,getElem?_append_right→Z2,map_append→Z3,eq_nil_of_length_eq_zero→Z5,getElem?_take_of_lt→Y2,getElem?_eq_none→Y4,mem_iff_getElem?→Y7,append_assoc→X1,length_set→X2,append_nil→X6,ext_getElem?→X8,length_eq_one_iff→X9,range→W3,drop_eq_getElem_cons→V0,pairwise_iff_getElem→V2,flatMap_cons→V5,length_singleton→U2,mem_of_mem_take→U3,mem_cons→T1,map_set→T2,getElem_mem→T6,map_cons→S3,length_filter_le→S9,length→R4,length_drop→R5
open Nat renaming le_refl→o8,mul_le_mul_right→Y5,le_trans→Y9,zero_le→X3,sub_self→W9,add_mul→U5,min_eq_left→T7,pow_le_pow_right→S5,le_succ→S6,add_assoc→S8,add_sub_cancel_left→R3
open Ne renaming symm→T9
open Option renaming isNone_some→Z0,toList_some→Z4,map_some→Y0,map→U1,getD_some→T4
open Option.some renaming inj→Z8
set_option maxHeartbeats 16000000
open Option renaming some→σ,none→ν
variable {l sc:Λ}{az v:x1}{w:x2}{k:o6}{K:x1->x2->Prop}{e t:r9}{cs:List x1}{ah al m:Nat}
namespace Go.Proofs.YtgbkinibgjmodaaGreatDoor
open Go Go.Vc Go.RowKit Go.Proofs Go.Proofs.Tryz
set_option maxRecDepth 100000
section
variable {w:x2} {al ah:Nat} {A R:aj} {n:aV} {s:aF} {t:aD}
theorem r4 (h:kb n s l):∀x∈l,0<=x/\x<n.sizes.length:=λx U=>by
 obtain⟨q,I⟩:=Y7.1 U;obtain⟨v,J,V,h1,_⟩:=h q (x4.1 I).1;rw[I] at J;cases J;exact⟨V,h1⟩
theorem BZ {af:x1} (h:b7 w al ah A R n s t) (W:aJ .i64 w af l) (ag:∀x∈l,0<=x) (aF:l.length<=100000000):ak x3 DY [Γ al,af] w λr w'=>Ext w w'/\ ∃g,au .i64 ab w' g r (bF n.sizes l)/\ ∀q,leads r q->w.heap.size<=q:=by
 refine aB func142 ?_;rw[aT ai.u W];refine bE.range l.length (λi out V=>Ext w V/\ ∃g,au .i64 ab V g out (bF n.sizes (l.take i))/\ ∀q,leads out q->w.heap.size<=q) W.le ⟨Ext.refl _,0,au.nil _ _ _ _,λr J=>by obtain⟨a,n,c,aj,aG⟩:=J;cases aj⟩ ?_ ?_
 .rintro i out V am hi ⟨I,g,hm,U⟩ an;obtain⟨x,X⟩:∃x,l[i]? =σ x:=⟨_,y0 hi⟩;refine Υ λ_=>?_;obtain⟨ao,aH,aI,aK,aL,aM,L,aO,ap,av,aP,aQ,aR,aS⟩:=(h.ext I).1.parts;rw[bd ai.u ab.i Ψ (W.ext I) X,ay,ac bt.p rfl,ad (v:=Γ ao) Ψ (ap.Q0 rfl)];refine (rT (i:=x) av h.2.2.2.2).mono ?_;rintro _ aU _ ⟨Y,rfl⟩;rw[if_pos (ag x (x5 X))];refine dx (k:=.i64) ai.u ab.i rfl λv4 aV aW aX aa aw=>?_;have aY:(bF n.sizes (l.take i)).length=i:=by unfold bF;rw[u4,o4];omega
  refine eY ai.u ab.i rfl ((hm.ext Y).ext aa) aw.ls Θ Θ λv5 ax az aA aC aD=>?_;have z3:=I.size;have aE:Ext w az:=((I.trans Y).trans aa).then aD λr J he=>by have:=U r he;omega
  have z4:=((I.trans Y).trans aa).size;rw[aN];refine an _ _ ⟨aE,ax,?_,λr J=>(aC r J).elim (U r) λh=>Ω⟩;rw[show bF n.sizes (l.take (i+1))=bF n.sizes (l.take i)++[n.sizes.getD x.toNat 0] by unfold bF;rw[r8,X,Z3];rfl];exact aA
 .rintro out V am ⟨I,g,hm,U⟩;rw[aq,ae];rw[o9] at hm;exact⟨λh=>Ω,λ_=>⟨I,g,hm,U⟩⟩
theorem B1 {s:aF} {i:Int}:fH s i s.funs.length=[]↔ ∀f∈s.funs,f.live≠0->i∉f.sc:=by
 unfold fH;rw[List.map_eq_nil_iff,List.filter_eq_nil_iff];constructor
 .intro h f J V hm;obtain⟨q,U⟩:=Y7.1 J;refine h q (List.mem_range.2 (x4.1 U).1) ?_;unfold hs;rw[U];simp only;rw[decide_eq_true V,decide_eq_true hm];rfl
 .intro h q U I;unfold hs at I;cases J:s.funs[q]? with
  |none=>rw[J] at I;cases I
  |some f=>
   rw[J] at I;simp only[U4,decide_eq_true_eq] at I;exact h f (x5 J) I.1 I.2
theorem LI {bv:x1} {e:hp} (h:b7 w al ah A R n s t) (I:aJ .i64 w az e.sc) (a6:aJ .i64 w bv e.ea) (bX:e.ea.length<=1000000) (bp:e.sc.length<=100000000):ak x3 DZ [Γ al,.agg #[Δ e.v,az,bv]] w λr w'=>(∃b,r= .bool b/\(b=true↔mT n s e))/\Ext w w':=by
 have a7:=h.2.2.2.1;have bY:=a7.vars;refine aB func144 ?_;refine bN λg1 U b0 bq a8=>?_;refine bN λbr V b1 ba aP=>?_;have an:=bq.trans ba;have ao:af V g1 dQ [Γ al]:=a8.ext ba;have X:af V br bM [Δ e.v,az,bv]:=by
  obtain⟨_,_,_,bu⟩:=bZ I;obtain⟨_,_,_,bw⟩:=bZ a6;rw[bu,bw] at aP ⊢;exact aP
 have aR:=I.ext an;have aS:=a6.ext an;have ap:=h.ext an;clear aP a8;refine aQ (λr bb=>∃b,r= .bool b/\(b=false↔(0<=e.v/\e.v<n.sizes.length)/\fd s e.v.toNat=false/\(∀f∈s.funs,f.live≠0->e.v∉f.sc)/\kb n s e.sc/\e.v∉e.sc)/\Ext V bb) ?_ ?_
 rotate_left
 .intro bx aa;rw[ad (o:=0) Ψ (ao.Qz rfl),ac bM.p rfl,ad (v:=Δ e.v) Ψ (X.Q0 rfl)];refine (pM (i:=e.v) ap).mono ?_;rintro _ bc _ ⟨rfl,ag⟩;rw[bf,bD];refine⟨λax=>aa _ _ ⟨true,rfl,⟨(λh=>by cases h),λaI=>?_⟩,ag⟩,λaU=>?_⟩
  .rw[decide_eq_true aI.1] at ax;cases ax
  have aA:0<=e.v/\e.v<n.sizes.length:=by simpa using aU
  rw[ad (o:=0) Ψ ((ao.ext ag).Qz rfl),ac bM.p rfl,ad (v:=Δ e.v) Ψ ((X.ext ag).Q0 rfl)];refine (pN (i:=e.v) (ap.ext ag)).mono ?_;rintro _ aC _ ⟨rfl,aj⟩;have W:=ag.trans aj;rw[decide_eq_true aA.1,V6,bD];refine⟨λJ=>aa _ _ ⟨true,rfl,⟨(λh=>by cases h),λaI=>?_⟩,W⟩,λaV=>?_⟩
  .rw[J] at aI;cases aI.2.1
  rw[ad (o:=0) Ψ ((ao.ext W).Qz rfl),ac bM.p rfl,ad (v:=Δ e.v) Ψ ((X.ext W).Q0 rfl)];refine (BT (i:=e.v) (ap.ext W)).mono ?_;rintro b2 aH _ ⟨aD,b3,bz,_⟩;have au:=W.trans aD;rw[aT ai.u bz.ls,bR,ae];refine⟨λJ=>aa _ _ ⟨true,rfl,⟨(λh=>by cases h),λaI=>?_⟩,au⟩,λJ=>?_⟩
  .rw[B1.2 aI.2.2.1] at J;simp at J
  have bA:=B1.1 (Z5 (l:=fH s e.v s.funs.length) Ω);rw[ad (o:=0) Ψ ((ao.ext au).Qz rfl),ac bM.p rfl,ad (v:=az) Ψ ((X.ext au).Q1 rfl)];refine (BH (ap.ext au) (aR.ext au)).mono ?_;rintro _ be _ ⟨⟨b,rfl,bg⟩,bB⟩;have aE:=au.trans bB;rw[bf,bD];refine⟨λax=>aa _ _ ⟨true,rfl,⟨(λh=>by cases h),λaI=>?_⟩,aE⟩,λaU=>?_⟩
  .rw[bg.2 aI.2.2.2.1] at ax;cases ax
  have aF:=bg.1 (by simpa using aU);rw[ac bM.p rfl,ad (v:=az) Ψ ((X.ext aE).Q1 rfl),ac bM.p rfl,ad (v:=Δ e.v) Ψ ((X.ext aE).Q0 rfl)];refine (vo (x:=e.v) (aR.ext aE)).mono ?_;rintro _ bC _ ⟨rfl,aG⟩;exact aa _ _ ⟨_,rfl,⟨λh=>⟨aA,aV,bA,aF,of_decide_eq_false h⟩,λh=>decide_eq_false h.2.2.2.2⟩,aE.trans aG⟩
 rintro _ bb ⟨b,rfl,bh,av⟩;rw[bD];refine⟨λbi=>⟨⟨false,rfl,⟨(λh=>by cases h),λJ=>?_⟩⟩,an.trans av⟩,λbE=>?_⟩
 .rw[bh.2 ⟨J.has,J.there,J.om,J.scope,J.out⟩] at bi;cases bi
 obtain⟨aA,aV,om,aF,bG⟩:=bh.1 bE;rw[ad (o:=0) Ψ ((ao.ext av).Qz rfl),ac bM.p rfl,ad (v:=az) Ψ ((X.ext av).Q1 rfl)];refine (BZ (ap.ext av) (aR.ext av) (λx am=>(r4 aF x am).1) bp).mono ?_;rintro b4 bc _ ⟨ag,b5,aK,_⟩;obtain⟨L,aw⟩:∃L,L=bF n.sizes e.sc:=⟨_,rfl⟩;rw[<-aw] at aK;have bj:=av.trans ag;have b6:L.length=e.sc.length:=by rw[aw];unfold bF;rw[u4]
 have aW:∀x∈L,1<=x/\x<=32:=λx am=>by
  rw[aw] at am;unfold bF at am;obtain⟨v,bH,rfl⟩:=Z1.1 am;obtain⟨b8,h1⟩:=r4 aF v bH;obtain⟨z,aL⟩:∃z,n.sizes[v.toNat]? =σ z:=⟨_,y0 Ω⟩;rw[u5,aL];exact a7.eu.2.2 z (x5 aL)
 have bI:∀q,0<=aM (L.take q):=λq=>by
  induction q with
  |zero=>simp[aM]
  |succ q aX=>
   cases aY:L[q]? with
   |none=>
    have:=List.getElem?_eq_none_iff.1 aY;rw[l5 Ω];rw[l5 Ω] at aX;exact aX
   |some x=>
    rw[jM aY];exact Int.mul_nonneg aX (by have:=(aW x (x5 aY)).1;omega)
 have bJ:∀q,aM (L.take q)<=aM L:=λq=>by
  have:=BX (l:=L.take q) (m:=L.drop q) (λx am=>(aW x (List.mem_of_mem_drop am)).1) (bI q);rwa [List.take_append_drop] at this
 rw[aT ai.u aK.ls];refine k7.range L.length (λi _ bK aC=>Ext bc aC/\ ∃m:Int,bK=Δ m/\m=aM (L.take i)/\0<=m/\m<=1000000) aK.ls.le ⟨Ext.refl _,1,rfl,rfl,Ω,Ω⟩ ?_ ?_
 .rintro i t4 _ aC bL hi ⟨aj,m,rfl,hm,bl,bm⟩ bO;obtain⟨z,aZ⟩:∃z,L[i]? =σ z:=⟨_,y0 hi⟩;have bP:=aW z (x5 aZ);have W:=bj.trans aj;have b9:0<=m*z/\m*z<=1000000*32:=⟨Int.mul_nonneg bl Ω,Int.mul_le_mul bm bP.2 Ω Ω⟩;have bQ:aM (L.take (i+1))=m*z:=by rw[jM aZ,hm]
  refine Υ λ_=>?_;rw[bd ai.u ab.i Ψ (aK.ls.ext aj) aZ,fv,wrap_i64 Ω Ω,
   ac bM.p rfl,ad (v:=bv) Ψ ((X.ext W).Q2 rfl),aT ai.u (aS.ext W),bR,ae]
  refine⟨λca=>⟨⟨false,rfl,⟨(λh=>by cases h),λJ=>?_⟩⟩,an.trans W⟩,λcb=>?_⟩
  .have h1:=J.count;rw[<-aw] at h1;have:=bJ (i+1);omega
  .rw[aN];exact bO _ _ _ ⟨aj,_,rfl,bQ.symm,Ω,Ω⟩
 rintro t4 _ aC bL ⟨aj,m,rfl,hm,bl,bm⟩;rw[o9] at hm;have W:=bj.trans aj;have bn:=X.ext W;obtain⟨z,aL⟩:∃z,n.sizes[e.v.toNat]? =σ z:=⟨_,y0 Ω⟩;have a1:n.sizes.getD e.v.toNat 0=z:=by rw[u5,aL];rfl
 rw[aq,ae];refine⟨λh=>Ω,λ_=>?_⟩;rw[kx];refine aQ (λr aH=>r= .bool (decide (m=e.ea.length/\ ∀b∈e.ea,-1<=b/\b<z))/\Ext aC aH) ?_ ?_
 .rintro _ aH ⟨rfl,aD⟩;refine⟨⟨_,rfl,⟨λaO=>?_,λJ=>?_⟩⟩,an.trans (W.trans aD)⟩
  .have aO:=of_decide_eq_true aO;exact⟨aA,aV,aF,bG,om,by rw[<-aw,<-hm];exact aO.1.symm,λb Y=>by rw[a1];exact aO.2 b Y⟩
  .have h1:=J.count;rw[<-aw,<-hm] at h1;exact decide_eq_true ⟨h1.symm,λb Y=>by have:=J.ea b Y;rwa [a1] at this⟩
 intro bx aa;rw[ac bM.p rfl,ad (v:=bv) Ψ (bn.Q2 rfl),aT ai.u (aS.ext W),bk,ae];refine⟨λhe=>?_,λbS=>aa _ _ ⟨by rw[decide_eq_false λh=>bS h.1],Ext.refl _⟩⟩;rw[ac bM.p rfl,ad (v:=bv) Ψ (bn.Q2 rfl)];refine (Lw (p:=λb=>decide (¬(-1<=b/\b<z))) (aS.ext W) λw' y bT cc=>?_).mono ?_
 .refine aB func195 ?_;refine aQ (λr be=>r= .bool (decide (¬(-1<=y/\y<z)))/\Ext w' be) (λ_ _ h=>h) λcd bo=>?_;intro bC aG _ _;have a2:=W.trans (bT.trans aG);rw[aq,ae];refine⟨λcg=>bo _ _ ⟨by rw[decide_eq_true Ω],aG⟩,λch=>?_⟩;obtain⟨bU,ci,cj,ck,cl,cm,cn,cp,Y,bV,cq,cr,ct,cu⟩:=(ap.ext a2).1.parts;rw[ad (o:=0) Ψ ((ao.ext a2).Qz rfl),ay,ac bt.p rfl,ad (v:=Γ bU) Ψ (Y.Q0 rfl),ac bM.p rfl,ad (v:=Δ e.v) Ψ ((X.ext a2).Q0 rfl)];refine (rT (i:=e.v) bV h.2.2.2.2).mono ?_;rintro _ cw _ ⟨bW,rfl⟩;rw[if_pos aA.1,a1,ce];refine bo _ _ ⟨?_,aG.trans bW⟩;congr 1;exact decide_eq_decide.2 ⟨λh=>Ω,λh=>Ω⟩
 rintro _ aH _ ⟨rfl,aD⟩;rw[bf];refine aa _ _ ⟨?_,aD⟩;congr 1;rw[V8];simp only[Bool.not_eq_true',List.any_eq_false,decide_eq_true_eq,X4];exact⟨λaI=>⟨he,λb Y=>aI b Y⟩,λaI b Y=>aI.2 b Y⟩
end
theorem B2 {bv:x1} {v:Int} {ea:Λ} (I:aJ .i64 w az sc) (ao:aJ .i64 w bv ea) (h1:sc.length<=1000000) (aD:ea.length<=1000000):
  ak x3 DV [.agg #[Δ v,az,bv]] w λr w'=>Ext w w'/\ ∃ap aq g1 av,r= .agg #[Δ v,ap,aq]/\w.heap.size<=g1/\w.heap.size<=av/\au .i64 ab w' g1 ap sc/\au .i64 ab w' av aq ea:=by
 refine aB func136 ?_;refine bN λge U aO aw ax=>?_;have aE:af U ge bM [Δ v,az,bv]:=by
  obtain⟨_,_,_,ag⟩:=bZ I;obtain⟨_,_,_,aF⟩:=bZ ao;rw[ag,aF] at ax ⊢;exact ax
 refine bp bM.i λah V aP ay aA=>?_;intro aQ ai _ _;have aC:=ay.trans ai;have W:=aw.trans aC;have aj:=aE.ext aC;rw[ac bM.p rfl,ad (v:=Δ v) Ψ (aj.Q0 rfl),ac bM.p rfl,ad (v:=az) Ψ (aj.Q1 rfl),ac bM.p rfl,ad (v:=bv) Ψ (aj.Q2 rfl)];refine (hF (I.ext W) h1).mono ?_;rintro al aR _ ⟨J,aG,aS,X⟩;refine⟨.inl J,?_⟩;refine (hF ((ao.ext W).ext J) aD).mono ?_;rintro am aT _ ⟨Y,aH,aU,aa⟩;refine⟨.inl (J.trans Y),?_⟩;have z3:=W.size;have z4:=J.size;have aI:=X.ext Y;rw[cW (cs:=#[Δ v,al,am]) (by obtain⟨_,_,_,rfl⟩:=bZ X.ls;obtain⟨_,_,_,rfl⟩:=bZ aa.ls;kernel_rfl)];have aK:=((aA.ext ai).ext J).ext Y;have aV:=ay.size;have aW:=aA.lt;have aX:=ai.size;refine bH (vs:=[Δ v,al,am]) bM.i rfl rfl ?_ aK λaL an aY aM=>?_
 .intro u hu;simp at hu;rcases hu with rfl|rfl|rfl
  .rfl
  .exact X.ls.cells.2
  .exact aa.ls.cells.2
 rw[eO bM.p bM.i rfl aM.range];have aZ:=aw.size;have aN:Ext w aL:=((W.trans J).trans Y).then an λr ae he=>by have he:r=ah:=he;omega
 refine⟨aN,al,am,aG,aH,rfl,Ω,Ω,bc aI an λr ae he=>?_,bc aa an λr ae he=>?_⟩
 .have he:r=ah:=he;obtain⟨ag,_⟩:=bA X ae;omega
 .have he:r=ah:=he;obtain⟨ag,_⟩:=bA aa ae;omega
def iS (s:aF) (e:hp):aF:=match s.vars[e.v.toNat]? with
 |some x=>{s with elims:=s.elims++[e],vars:=s.vars.set e.v.toNat {x with gone:=1}}
 |none=>s
section
variable {w:x2} {al ah:Nat} {A R:aj} {n:aV} {s:aF} {t:aD}
theorem B3 {bv:x1} {e:hp} (h:b7 w al ah A R n s t) (aH:t.olds.length+2<=100000000) (I:aJ .i64 w az e.sc) (aW:aJ .i64 w bv e.ea) (bp:e.ea.length<=1000000) (b5:e.sc.length<=1000000) (dc:s.elims.length<=1000000):
  ak x3 wS [Γ al,.agg #[Δ e.v,az,bv]] w λr w'=>(¬mT n s e->r=Δ 1/\Ext w w')/\
   (mT n s e->r=Δ 0/\ag (dg w) w w'/\ ∃bq R' x y p,Grow A w bq w'/\b7 w' al ah bq R' n (iS s e) ((t.set 2 x).set p y)/\(∀r,R r->R' r)/\ ∀r,R' r->R r\/w.heap.size<=r):=by
 obtain⟨_,br,bu,ae,b6⟩:=id h;refine aB func58 ?_;refine bN λge U dd aI bw=>?_;have aX:af U ge bM [Δ e.v,az,bv]:=by
  obtain⟨_,_,_,b8⟩:=bZ I;obtain⟨_,_,_,b9⟩:=bZ aW;rw[b8,b9] at bw ⊢;exact bw
 rw[cC dQ.u];simp only[Z0,aS];rw[bn bM.p bM.i rfl aX.range];refine (LI (h.ext aI) (I.ext aI) (aW.ext aI) bp Ω).mono ?_;rintro _ V _ ⟨⟨b,rfl,bx⟩,aY⟩;have bz:=aI.trans aY;rw[bf,bD];refine⟨λaK=>⟨λ_=>⟨by trivial,bz⟩,λca=>?_⟩,λcb=>?_⟩
 .rw[bx.2 ca] at aK;cases aK
 have aL:mT n s e:=bx.1 (by simpa using cb);intro de aZ _ _;have aw:=bz.trans aZ;obtain⟨a1,a2,a6,aM,bB⟩:=(h.ext aw).1;obtain⟨_,_,_,_,_,df,_,_,X,_⟩:=id bB;rw[ay,ac bt.p rfl,ad (v:=aM) Ψ (X.Q4 rfl),bn bM.p bM.i rfl ((aX.ext aY).ext aZ).range];refine (B2 (I.ext aw) (aW.ext aw) b5 bp).mono ?_;rintro _ dh _ ⟨a7,a8,ba,g1,di,rfl,dj,dk,bC,bE⟩;refine⟨.inl a7,?_⟩;let a:mJ:=⟨e.v,a8,ba⟩;have cd:∀u∈gV a,u.oneCell'=true:=by
  intro u hu;simp[gV] at hu;rcases hu with rfl|rfl|rfl
  .rfl
  .exact bC.ls.cells.2
  .exact bE.ls.cells.2
 refine fQ (f:=gV) (a:=a) fe.u bM.i Ω rfl rfl λv5 dl ao dn aN ce=>?_;have aA:=a7.trans aN;refine⟨.inl aA,?_⟩;have cg:=bB.ext aA;obtain⟨⟨bF,bG,dp,bH⟩,ch,ci,dq,L,E,cj,w0,X,⟨ck,cl,bI⟩,⟨cm,bJ,bK,am⟩,bb,⟨bd,cn⟩,ap,aO⟩:=id cg;have bL:E.length=s.elims.length:=aO.1;refine gh (f:=gV) (a:=a) fe.u bM.i rfl ap (by simpa using ce.sl) cd Ω Ω λaP cp dr aC cq be=>?_;have bO:=X.aa be λhe=>cc ap X Φ he;rw[ay,ac bt.p rfl];refine bh fe.i (cT aC.sl).1 (cT aC.sl).2 bO Ξ λan bg ds bi=>?_;have bi:af an al bt [Γ a1,Γ ah,a2,a6,aP]:=bi;have W:ag (λr=>leadsTo aM r\/r=al) ao an:=(be.mono λr _ h=>.inl h).trans (bg.mono λr _ h=>.inr h);have cr:ag (dg ao) ao an:=W.mono λr _ J=>by
  rcases J with J|rfl
  .obtain⟨_,c,aE⟩:=dm ap J;exact .inl ⟨_,c,‹r=_› ▸aE,Φ⟩
  .exact .inl ⟨_,_,X,Φ⟩
 have z3:=aw.size;have z4:=a7.size;have z5:=aN.size;have dt:=W.size;have du:=be.size;have dv:=bg.size;have aQ:∀r,(leadsTo aM r\/r=al)->A r:=λr J=>J.elim (λJ=>(am r (.inr (.inr J))).1) λJ=>J▸bF;have bj:∀r,(leadsTo aM r\/r=al)->¬R r:=λr J=>bG r (aQ r J);obtain⟨bP,bk⟩:(∀r,R r->r<w.heap.size)/\ ∀r,A r->r<w.heap.size:=by obtain⟨_,_,_,_,⟨_,_,ct,cu⟩,_⟩:=h.1;exact⟨ct,cu⟩
 have bQ:=(bC.ext aN);have bR:=(bE.ext aN);have ax:∀r,leads a8 r\/leads ba r->w.heap.size<=r/\r<ao.heap.size:=λr J=>by
  rcases J with J|J
  .obtain⟨h1,bS⟩:=bA bQ J;omega
  .obtain⟨h1,bS⟩:=bA bR J;omega
 let aR:aj:=λr=>A r\/(ao.heap.size<=r/\r<an.heap.size);let aq:aj:=λr=>R r\/leads a8 r\/leads ba r;have bU:∀ {v:x1} {bV:Nat} {l:Λ},au .i64 ab ao bV v l->(∀r,leads v r->w.heap.size<=r)->au .i64 ab an bV v l:=λhm cw=>bc hm W λr J I=>by
  have:=bk r (aQ r I);have:=cw r J;omega
 have cz:dT an al ah a1 a2 a6 aP aR aq n {s with elims:=s.elims++[e]} t:=by
  refine⟨⟨.inl bF,λr J Y=>?_,λr J=>?_,λr J=>J.elim (λJ=>by have:=bH r J;omega) And.right⟩,ch,ci,cp,L,E++[a],cj,w0,bi,⟨ck,n7 cl W λr o J aH I=>bj r I (bI r o J aH),λr o J aH=>.inl (bI r o J aH)⟩,⟨cm.aa W λr J I=>?_,λr J=>.inl (bJ r J),bK,λr J=>?_⟩,?_,⟨bd.aa W λr J I=>?_,?_⟩,aC.aa bg λr J he=>?_,?_⟩
  .rcases J with J|J
   .rcases Y with Y|Y
    .exact bG r J Y
    .have:=ax r Y;have:=bk r J;omega
   .rcases Y with Y|Y
    .have:=bP r Y;omega
    .have:=ax r Y;omega
  .rcases J with J|J
   .have:=bP r J;omega
   .have:=ax r J;omega
  .rcases I with I|rfl
   .exact (am r (.inr (.inr I))).2 J
   .exact bK J
  .rcases J with J|J|J
   .exact⟨.inl (am r (.inl J)).1,(am r (.inl J)).2⟩
   .exact⟨.inl (am r (.inr (.inl J))).1,(am r (.inr (.inl J))).2⟩
   .obtain⟨h1,bS⟩:=aC.leads J;rcases cq r J with h|h
    .exact⟨.inl (am r (.inr (.inr h))).1,(am r (.inr (.inr h))).2⟩
    .refine⟨.inr ⟨h,Ω⟩,λcA=>?_⟩;have:=bH r (bJ r cA);omega
  .exact bc bb W λr J I=>by
    rcases I with I|rfl
    .obtain⟨rfl,c,aE⟩:=dm ap I;exact bX bb aE Φ J rfl
    .exact bX bb X Φ J rfl
  .rcases I with I|rfl
   .obtain⟨rfl,c,aE⟩:=dm ap I;exact cc bd aE Φ J
   .exact cc bd X Φ J
  .exact (iK.aa cn W λr _ J I=>bj r I J).mono λr J=>.inl J
  .have he:r=al:=he;subst he;exact cc aC bO Φ J
  .refine⟨by rw[u9,bL];simp,λj x f aT av=>?_⟩;have av:(s.elims++[e])[j]? =σ f:=av;by_cases cB:j<s.elims.length
   .rw[j9 Ω] at aT;rw[j9 cB] at av;exact ((j1.aa aO W λr _ J I=>bj r I J).mono (R':=aq) λr J=>.inl J).2 j x f aT av
   .have bW:j=s.elims.length:=by have:=(x4.1 av).1;simp at this;omega
    rw[Z2 Ω,bL,bW,W9] at aT;rw[Z2 Ω,bW,W9] at av;cases aT;cases av;exact⟨rfl,⟨⟨_,bU bQ λr J=>(ax r (.inl J)).1⟩,λr J=>.inr (.inl J)⟩,⟨_,bU bR λr J=>(ax r (.inr J)).1⟩,λr J=>.inr (.inr J)⟩
 have cD:Grow A w aR an:=(Grow.ext (aw.trans aA)).trans ⟨W.mono λr _ J=>aQ r J,λr J=>J.imp id And.left,λr J=>.inl J⟩;have cE:ag (dg w) w an:=j2 (aw.trans aA) cr;have cF:∀r,aq r->R r\/w.heap.size<=r:=λr J=>J.imp id λJ=>(ax r J).1;have cG:∀r,aR r->A r\/ao.heap.size<=r:=λr J=>J.imp id And.left;have cH:∀r,R r->aq r:=λr J=>.inl J
 clear_value aR aq
 intro dw aU _ _;have bY:=cz.ext aU;obtain⟨_,_,_,_,_,cI,_,_,X,_,_,_,_,ap,aO⟩:=id bY;have cJ:cI.length=s.elims.length+1:=by rw[aO.1];simp
 rw[ay,ac bt.p rfl,ad (v:=Γ ah) Ψ (X.Q1 rfl),ay,ac bt.p rfl,ad (v:=aP) Ψ (X.Q4 rfl),c9 fe.u ap,cJ];obtain⟨dx,cK,cL⟩:=bY.lE;have cM:t.cells.length=s.cells.length:=by rw[<-br];simp[aD.bT]
 have cN:2<t.cells.length:=by rw[cM,pC];omega
 refine (pB (i:=2) (y:=2) cK rfl cN bu).mono ?_;rintro _ b0 _ ⟨rfl,cO,cP,cQ⟩;obtain⟨cR,A9,b1,cS⟩:=cL cO b0 _ cP cQ;have cU:iI (t.set 2 ((s.elims.length+1:Nat):Int)):=bu.set (.inr Ω) _ _;have cV:b7 b0 al ah A9 aq n {s with elims:=s.elims++[e]} (t.set 2 ((s.elims.length+1:Nat):Int)):=
  ⟨⟨a1,a2,a6,aP,cS⟩,by rw[aD.nx,br];exact Kb e,cU,⟨ae.jZ,ae.eu,ae.zero,ae.vars,ae.var,ae.funs⟩,b6⟩
 intro cW aV _ _;have bl:=cV.ext aV;obtain⟨dy,cX,dz,ev',dA,dC,dD,dE,b2,dF,dG,cY,dH,dI⟩:=bl.1.parts;have dJ:=ae.vars;obtain⟨x,aG⟩:∃x,s.vars[e.v.toNat]? =σ x:=⟨_,y0 (by have:=aL.has;omega)⟩;have cZ:e.v=((e.v.toNat:Nat):Int):=by have:=aL.has;omega
 have c0:=(x4.1 aG).1;have b3:=((aX.ext aY).ext aZ).ext aA;have dK:=b3.lt;have b4:¬A ge:=λc1=>by have:=bk ge c1;omega
 have c2:af cW ge bM [Δ e.v,az,bv]:=(((b3.aa W λI=>b4 (aQ ge I)).ext aU).aa b1.1 λI=>(cG ge I).elim b4 λh=>Ω).ext aV;rw[ay,ac bt.p rfl,ad (v:=Γ ah) Ψ (b2.Q1 rfl),ay,ac bt.p rfl,ad (v:=cX) Ψ (b2.Q2 rfl),ac bM.p rfl,ad (v:=Δ e.v) Ψ (c2.Q0 rfl),dY (y:=e.v) (i:=e.v.toNat) cZ ai.u ab.i Ψ cY.ls (oc c0)];have bm:iS s e={({s with elims:=s.elims++[e]}:aF) with vars:=s.vars.set e.v.toNat {x with gone:=1}}:=by
  unfold iS;rw[aG]
 have dL:=pL (s:=({s with elims:=s.elims++[e]}:aF)) (i:=e.v.toNat) (x:=x) aG;have bo:({s with elims:=s.elims++[e]}:aF).vars[e.v.toNat]? =σ x:=aG;obtain⟨dM,c3,c4⟩:=ae.var e.v.toNat x _ aG (y0 (show e.v.toNat<n.sizes.length by have:=aL.has;omega));have dN:=aD.uJ t 2 ((s.elims.length+1:Nat):Int);refine (r1 (p:=eM ({s with elims:=s.elims++[e]}:aF) e.v.toNat+0) (s':=iS s e) bl (by rfl) Ω ?_ ?_ ?_ (.inr Ω)).mono ?_
 .rw[bm,uE bo Ω];rfl
 .rw[bm];exact pF bo rfl
 .rw[bm];exact eB.u7 (s:=({s with elims:=s.elims++[e]}:aF)) bl.2.2.2.1 bo rfl c3 c4
 rintro _ c5 _ ⟨rfl,c6,c7,c8,da⟩;have db:ag (dg w) w c5:=pI cE (j2 aU (pI cR (j2 aV c6)));exact⟨λaK=>absurd aL aK,λ_=>⟨rfl,db,c7,aq,_,_,_,cD.trans ((Grow.ext aU).trans (b1.trans ((Grow.ext aV).trans c8))),da,cH,cF⟩⟩
end
section
variable {w w':x2} {al ah an:Nat} {A R:aj} {A9:Nat->aj} {aP R9':aj} {n:aV} {s u u':aF} {t:aD} {h:List aD} {cs:List x1} {v:x1}
theorem bK.reads (p:bK w al ah an A R A9 aP n s u t h cs) (U:∀r,aP r->R9' r) (J:∀r,R9' r->aP r\/(¬dg w r/\r<w.heap.size/\r≠an/\ ∀q,¬A9 q r)):bK w al ah an A R A9 R9' n s u t h cs:=
 ⟨p.b8,p.gG,p.box,be.mono p.doc U λq r h1 V=>(J r V).elim (λI=>by obtain⟨_,_,_,_,_,_,_,_,_,_,_,_,_,W⟩:=p.doc;exact (W rfl).2 q r h1 I) λI=>I.2.2.2 q h1,p.apart,λr X=>(J r X).elim (p.read r) λh=>⟨h.1,h.2.1,h.2.2.1⟩,p.out⟩
theorem LJ {af:r9} {y:x1} {xs:List x1} {e:hp} {K:x2->Prop} (p:bK w al ah an A R A9 aP n s u t h cs) (ai:∀q r,A9 q r->r<w.heap.size) (W:cs[7]? =σ v) (I:bW w 3 y 1 xs) (aj:bi (λ_=>False) aP w xs (jt e)) (aB:u.elims.length<=1000)
  (ak:∀bL bo w',ag (λr=>A9 4 r\/r=an) w w'->bK w' al ah an A R bL aP n s {u with elims:=u.elims++[e]} t h bo->(∀q r,bL q r->A9 q r\/w.heap.size<=r)->K w'):
  aA x3 (l9 #[e0,e0] af #[v,y]) w λac V=>J x3 (x7 aG (Γ an) 7) V λam=>aA x3 (o5 e0 am ac) V λ_ X=>K X:=by
 obtain⟨av,aC,aD,aE,aF,Y,ao,h1,aH,aI,aJ,aK,ap,aa⟩:=id p.doc;obtain⟨aa,ad⟩:=aa rfl;have Y:v=Y:=by rw[ao] at W;exact (Z8 W).symm
 subst Y;have aL:=p.box.lt;have aq:∀r,aP r->r<w.heap.size:=λr h=>(p.read r h).2.1;refine kV (pl:=_) (l:=u.elims.map jt) aG.p rfl e0.u e0.i ca.i rfl p.box W ap I aj (λr U au=>⟨λh=>h,ad 4 r au⟩) ⟨λh=>(p.apart 4 an h).2.2 rfl,λh=>h,λh=>(p.read an h).2.2 rfl⟩ (by rw[u4];omega) (by rw[u4];omega) λac X ab aw ax=>?_;have ae:=be.BN p.doc (ol ab) (λr U=>?_) ax (λj r ay U=>?_) (λr U=>?_)
 .refine ak _ _ X ab (p.vk ab (λr U h=>h.imp (λh=>⟨4,h⟩) id) aw (u':={u with elims:=u.elims++[e]}) (by rw[<-List.map_singleton,<-Z3] at ae;exact ae) λq r U=>?_) λq r U=>?_
  .unfold dU at U;split at U
   .rcases U with U|U|U
    .exact .inl ⟨4,U⟩
    .exact U.elim
    .exact .inr U
   .exact .inl ⟨q,U⟩
  .unfold dU at U;split at U
   .rename_i az;subst az;rcases U with U|U|U
    .exact .inl U
    .exact U.elim
    .exact .inr U
   .exact .inl U
 .rcases U.1 with h|rfl
  .exact .inl h
  .exact .inr ⟨λj h=>(p.apart j r h).2.2 rfl,λh=>(p.read r h).2.2 rfl⟩
 .rcases U with U|U|U
  .exact aa 4 j r (T9 ay) U
  .exact U.elim
  .exact λh=>by have:=ai j r h;omega
 .rcases U with U|U|U
  .exact ad 4 r U
  .exact U.elim
  .exact λh=>by have:=aq r h;omega
theorem LK {y:Int} {i:Nat} {K:Unit->x2->Prop} (p:bK w al ah an A R A9 aP n s u t h cs) (aw:∀q r,A9 q r->r<w.heap.size) (V:cs[4]? =σ v) (ac:y=(i:Int)) (ad:i<u.vars.length)
  (ae:u'.zero=u.zero) (af:u'.vars.map cu=u.vars.map cu) (hu:u'.vars.map (·.un)=u.vars.map (·.un)) (ai:u'.funs=u.funs) (he:u'.elims=u.elims) (aj:(u'.vars.map λx=>decide (x.gone≠0))=(u.vars.map λx=>decide (x.gone≠0)).set i true)
  (ak:∀w',ag (λr=>A9 1 r) w w'->bK w' al ah an A R A9 aP n s u' t h cs->K () w'):
  J x3 (n0 fs v (Δ y)) w λp=>aA x3 (o5 eN p (.bool true)) w K:=by
 obtain⟨av,ax,am,ay,az,aa,ao,h1,aB,ap,aC,aD,aE,W⟩:=id p.doc;obtain⟨W,ab⟩:=W rfl;have aa:v=am:=by rw[ao] at V;exact (Z8 V).symm
 subst aa;refine vf (α:=Bool) (a:=true) (A:=λ_=>False) rfl ac fs.u eN.i ap (by rw[u4];exact ad) rfl rfl (λr I h=>⟨λh=>h,ab 1 r h⟩) λw' X aq=>?_;have U:=be.BM p.doc (ol X) (λr I=>.inl I.1) aq (λj r Y I=>I.elim (λI=>W 1 j r (T9 Y) I) False.elim) (λr I=>I.elim (ab 1 r) False.elim);refine ak w' X (p.row (q:=1) X (λr _ h=>h) ?_ λq r h=>.inl ⟨q,h⟩);have U:=be.nK V U;have au:dU A9 1 (λr=>A9 1 r\/False)=A9:=by
  funext j;unfold dU;split
  .rename_i Y;subst Y;funext r;exact or_false _
  .rfl
 rw[au] at U;unfold fp;rw[ae,af,hu,ai,he,aj];exact U
end
def gY (n:aV) (l:Λ):Λ:=(l.filter λv:Int=>decide (0<=v/\v<n.sizes.length)).map λv:Int=>n.sizes.getD v.toNat 0
theorem r5 {n:aV} {i:Nat} {x:Int} (h:l[i]? =σ x):gY n (l.take (i+1))=gY n (l.take i)++if 0<=x/\x<n.sizes.length then[n.sizes.getD x.toNat 0] else[]:=by
 unfold gY;rw[r8,h,List.filter_append,Z3];congr 1;by_cases I:0<=x/\x<(n.sizes.length:Int)
 .rw[if_pos I];simp[I]
 .rw[if_neg I];have:(List.filter (λv:Int=>decide (0<=v/\v<(n.sizes.length:Int))) (σ x).toList)=[]:=Θ
  rw[this];rfl
def ke (m:Nat):Λ:=(W3 m).map λi:Nat=>((i % 2:Nat):Int)-1
def ju (n:aV) (a:dh):Λ:=if a.kX then ke (min (aM (gY n (a.sc.take 4))) 100).toNat else a.t.take 40
section
variable {U w:x2} {an aW ge B:Nat} {n:aV} {s:aF} {a:dh} {aE az ck:x1} {K:x2->Prop}
theorem LL (a6:kW U an n.k n.sizes s) (br:∀z∈n.sizes,1<=z/\z<=32) (aF:dV U aW n.k a aE az ck B) (a7:af w ge ca [Δ a.i,az,aE]) (cD:U.heap.size<=ge) (cE:B<=U.heap.size) (ao:Ext U w)
  (a8:∀w' bv,Ext U w'->af w' ge ca [Δ a.i,az,bv]->(∃g,au .i64 ab w' g bv (ju n a))->(∀r,leads bv r->B<=r)->K w'):
  J x3 (x7 aR (Γ aW) 8) w λbt=>
       J x3 (x6 eN bt) w λbu=>
       Split bu (J x3 (x7 ca (Γ ge) 2) w λbw=>
       aA x3 (o5 ai bw (.slice ν 0 0)) w λ(_:Unit) ap=>
       J x3 (x7 aR (Γ aW) 6) ap λbx=>
       J x3 (x6 ai bx) ap λba=>
       J x3 (Y3 #[ai] ab #[ba]) ap λbz=>
       bE (Δ 1) (Δ 0) ap λn aH X bA=>
        J x3 (aC .lss ab false false aH bz) X λbC=>
        Split bC (bB (α:=x1->x2->Prop) (λ(bF:x1) (bb:x2)=>
         J x3 (aC .add ab false true aH (Δ 1)) bb λbG=>
         bA bF bG bb) λbe=>
        J x3 (n0 ai ba aH) X λbH=>
        J x3 (x6 ab bH) X λbf=>
        J x3 (aY (Γ an)) X λbI=>
        J x3 (x6 aG bI) X λbJ=>
        ak x3 nh [bJ,bf] X λbK Y=>
        Split bK (J x3 (aY (Γ an)) Y λbL=>
         J x3 (x7 aG bL 1) Y λbM=>
         J x3 (x6 ai bM) Y λbN=>
         J x3 (n0 ai bN bf) Y λbO=>
         J x3 (x6 ab bO) Y λbQ=>
         J x3 (aC .mul ab false false n bQ) Y λbR=>
         be bR Y)
         (be n Y))
         (J x3 (l7.min_ #[ab,ab] ab #[n,(Δ 100)]) X λbS=>
       bP (Δ 0) X λaI ah bT=>
        J x3 (aC .lss ab false false aI bS) ah λbU=>
        Split bU (J x3 (x7 ca (Γ ge) 2) ah λbV=>
        J x3 (x6 ai bV) ah λbW=>
        J x3 (aC .rem ab false true aI (Δ 2)) ah λbX=>
        J x3 (aC .sub ab false true bX (Δ 1)) ah λbY=>
        aA x3 (Z7 ai 1 #[(0,bY)]) ah λbZ b0=>
        aA x3 (l9 #[ai,ai] ai #[bW,bZ]) b0 λb1 bg=>
        J x3 (x7 ca (Γ ge) 2) bg λb2=>
        aA x3 (o5 ai b2 b1) bg λ(_:Unit) bi=>
        J x3 (aC .add ab false true aI (Δ 1)) bi λb3=>
        bT b3 bi)
         (K ah)))
       (K w):=by
 rw[ac aR.p rfl,ad (v:=.bool a.kX) Ψ ((aF.ext ao).cZ.cell (o:=0+8) rfl),bD];obtain⟨_,⟨b4,b5⟩,⟨cF,aJ⟩,cG,b6⟩:=id aF;refine⟨λb7=>?_,λb8=>a8 w aE ao a7 ⟨b4,by unfold ju;rw[b8];exact b5.ext ao⟩ λr I=>b6 r (.inl I)⟩;have aK:ju n a=ke (min (aM (gY n (a.sc.take 4))) 100).toNat:=by unfold ju;rw[b7];rfl
 obtain⟨l,bj⟩:∃l,l=a.sc.take 4:=⟨_,rfl⟩;rw[<-bj] at aJ aK;have cH:l.length<=4:=by rw[bj,o4];omega
 rw[ac ca.p rfl];refine bh (o:=0+2) ai.i rfl rfl a7 Ξ λV b9 cI aL=>?_;have aL:af V ge ca [Δ a.i,az,.slice ν 0 0]:=aL;have aO:Ext U V:=ao.then b9 λr I he=>by have he:r=ge:=he;omega
 rw[ac aR.p rfl,ad (v:=az) Ψ ((aF.ext aO).cZ.Q6 rfl),aT ai.u (aJ.ls.ext aO)];refine bE.range l.length (λi aw ax=>Ext U ax/\af ax ge ca [Δ a.i,az,.slice ν 0 0]/\ ∃m:Int,aw=Δ m/\m=aM (gY n (l.take i))/\0<=m/\m<=32 ^ i) Ω ⟨aO,aL,1,rfl,rfl,Ω,Ω⟩ ?_ ?_
 .rintro i _ ax cb hi ⟨aj,aB,m,rfl,hm,aP,bk⟩ cc;obtain⟨x,aS⟩:∃x,l[i]? =σ x:=⟨_,y0 hi⟩;have cJ:(32:Int) ^ i<=32 ^ 3:=by
   have:=S5 (show 1<=32 by omega) (show i<=3 by omega);have cd:=Int.ofNat_le.2 this;simpa using cd
  refine Υ λ_=>?_;refine aQ (λaw W=>Ext U W/\af W ge ca [Δ a.i,az,.slice ν 0 0]/\ ∃m:Int,aw=Δ m/\m=aM (gY n (l.take (i+1)))/\0<=m/\m<=32 ^ (i+1)) ?_ ?_
  .rintro aw W ce;rw[aN];exact cc _ _ ce
  intro cK bl;have cg:=a6.ext aj;rw[bd ai.u ab.i Ψ (aJ.ls.ext aj) aS,ay];refine cg.load λcL ch=>?_;refine (pT (i:=x) ch).mono ?_;rintro _ W _ ⟨rfl,ag⟩;have aU:=aj.trans ag;rw[ae];refine⟨λci=>?_,λcj=>bl _ _ ⟨aU,aB.ext ag,m,rfl,?_,aP,?_⟩⟩
  .obtain⟨av,cM,cN,cO,cP,cQ,cl,cm,_⟩:=a6.ext aU;obtain⟨z,aV⟩:∃z,n.sizes[x.toNat]? =σ z:=⟨_,y0 Ω⟩;have cn:=br z (x5 aV);have bm:0<=m*z/\m*z<=32 ^ i*32:=⟨Int.mul_nonneg aP Ω,Int.mul_le_mul bk cn.2 Ω Ω⟩;rw[ay,ac aG.p rfl,ad (v:=av) Ψ (cl.Q1 rfl),dY (y:=x) (i:=x.toNat) Ω ai.u ab.i Ψ cm aV,fv,wrap_i64 Ω Ω];refine bl _ _ ⟨aU,aB.ext ag,_,rfl,?_,bm.1,bm.2⟩;rw[r5 aS,if_pos ci,rf,<-hm,u5,aV];rfl
  .rw[r5 aS,if_neg cj,X6];exact hm
  .rw[Int.pow_succ];have:(0:Int)<=32 ^ i:=Int.pow_nonneg Ω;omega
 rintro _ ax cb ⟨aj,aB,m,rfl,hm,aP,bk⟩;rw[o9] at hm;rw[aq,ae];refine⟨λh=>Ω,λ_=>?_⟩;rw[iv];obtain⟨q,bn⟩:∃q:Nat,min m 100=q:=⟨(min m 100).toNat,Ω⟩;have cR:q<=100:=Ω
 rw[bn];rw[<-hm,bn,j0] at aK;refine bP.range q (λi W=>Ext U W/\ ∃bv g,af W ge ca [Δ a.i,az,bv]/\au .i64 ab W g bv (ke i)/\ ∀r,leads bv r->U.heap.size<=r/\r≠ge) Ω ⟨aj,_,0,aB,au.nil _ _ _ _,λr I=>by obtain⟨a,n,c,cp,cS⟩:=I;cases cp⟩ ?_ ?_
 .rintro i W cq hi ⟨ag,bv,g,al,aX,am⟩ cr;refine Υ λ_=>?_;rw[ac ca.p rfl,ad (v:=bv) Ψ (al.Q2 rfl),kv Ω,Int.tmod_eq_emod_of_nonneg Ω,c3,wrap_i64 Ω Ω];refine dx (k:=.i64) ai.u ab.i rfl λv5 cT cU cV aD ct=>?_;have cW:(ke i).length=i:=by unfold ke;simp
  refine eY ai.u ab.i rfl (aX.ext aD) ct.ls Θ Θ λaZ cu cw a1 cz bo=>?_;have z4:=ag.size;have z5:=aD.size;have cA:Ext U cw:=(ag.trans aD).then bo λr I he=>by have:=(am r he).1;omega
  have cB:=(al.ext aD).aa bo λhe=>(am ge he).2 rfl;rw[ac ca.p rfl];refine bh (o:=0+2) ai.i a1.ls.cells.1 a1.ls.cells.2 cB Ξ λcC bp cX a2=>?_;have a2:af cC ge ca [Δ a.i,az,aZ]:=a2;have cY:=al.lt;have bq:∀r,leads aZ r->U.heap.size<=r/\r≠ge:=λr I=>(cz r I).elim (am r) λh=>Ω
  rw[aN];refine cr _ ⟨cA.then bp λr I he=>by have he:r=ge:=he;omega,aZ,cu,a2,?_,bq⟩;have e:ke (i+1)=ke i++[((i:Int) % 2)-1]:=by unfold ke;rw[List.range_succ,Z3];simp
  rw[e];exact bc a1 bp λr I he=>(bq r I).2 he
 .rintro W cq ⟨ag,bv,g,al,aX,am⟩;rw[aq,ae];refine⟨λh=>Ω,λ_=>a8 W bv ag al ⟨g,by rw[aK];exact aX⟩ λr I=>by have:=(am r I).1;omega⟩
end
def ij (n:aV) (a:dh):hp:=⟨a.i,a.sc.take 4,ju n a⟩
open Classical in
noncomputable def mU (n:aV) (s:aF) (a:dh):aF:=if mT n s (ij n a) then iS s (ij n a) else s
section
variable {w0 w:x2} {al ah an aW:Nat} {A R:aj} {A9:Nat->aj} {aP:aj} {n:aV} {s:aF} {t:aD} {h:List aD} {cs:List x1} {a:dh} {aE az ck:x1} {Q:x1->x2->Prop}
theorem LM (p:bK w0 al ah an A R A9 aP n s s t h cs) (bX:t.olds.length+2<=100000000) (cp:s.elims.length<=1000) (br:Ext w0 w) (bt:dV w aW n.k a aE az ck w0.heap.size) (bY:∀w',iR w0 al ah an A R A9 aP n (mU n s a) t h w'->Q (.bool true) w'):
  J x3 (x7 aR (Γ aW) 1) w λcq=>
       J x3 (x6 ab cq) w λcr=>
       J x3 (x7 aR (Γ aW) 6) w λct=>
       J x3 (x6 ai ct) w λcu=>
       J x3 (x7 aR (Γ aW) 5) w λcw=>
       J x3 (x6 ai cw) w λcz=>
       J x3 (Instr.build ca #[(0,cr),(1,cu),(2,cz)]) w λcA=>
       aA x3 (S7 ca true (.tuple #[])) w λe cB=>
       aA x3 (o5 ca e cA) cB λ(_:Unit) aH=>
       bB (α:=x2->Prop) (λ(aI:x2)=>
        bB (α:=x1->x2->Prop) (λ(cC:x1) (b0:x2)=>
         J x3 (x6 ca e) b0 λcD=>
         ak x3 wS [Γ al,cD] b0 λcE b1=>
         J x3 (aC .eql eF false false cE cC) b1 λcF=>
         Q cF b1) λb2=>
        cm aI λaX=>
        J x3 (aY (Γ an)) aX λcG=>
        J x3 (x6 aG cG) aX λcH=>
        J x3 (x6 ca e) aX λcI=>
        ak x3 w1 [cH,cI] aX λcJ bu=>
        J x3 (Op.unary .not cJ) bu λcK=>
        Split cK (b2 (Δ 1) bu)
        (cm bu λaw=>
        J x3 (aY (Γ an)) aw λbw=>
        J x3 (x7 aG bw 7) aw λbx=>
        J x3 (x6 e0 bx) aw λb3=>
        J x3 (x6 ca e) aw λcL=>
        aA x3 (Z7 e0 1 #[(0,cL)]) aw λcM aK=>
         (Ext aw aK\/bl x3 (x6 e0 bx) b3 aK/\bl x3 (x7 aG bw 7) bx aK/\bl x3 (aY (Γ an)) bw aK/\True)/\
        aA x3 (l9 #[e0,e0] e0 #[b3,cM]) aK λcN bz=>
         J x3 (aY (Γ an)) bz λcO=>
         J x3 (x7 aG cO 7) bz λcP=>
         aA x3 (o5 e0 cP cN) bz λ(_:Unit) cQ=>
          cm cQ λap=>
        J x3 (aY (Γ an)) ap λcR=>
        J x3 (x7 aG cR 4) ap λcS=>
        J x3 (x6 fs cS) ap λcT=>
        J x3 (x7 aR (Γ aW) 1) ap λcU=>
        J x3 (x6 ab cU) ap λcV=>
        J x3 (n0 fs cT cV) ap λcX=>
        aA x3 (o5 eN cX (.bool true)) ap λ(_:Unit) cY=>
         b2 (Δ 0) cY)) λb4=>
       J x3 (x7 aR (Γ aW) 8) aH λc0=>
       J x3 (x6 eN c0) aH λc1=>
       Split c1 (J x3 (x7 ca e 2) aH λc2=>
       aA x3 (o5 ai c2 (.slice ν 0 0)) aH λ(_:Unit) aZ=>
       J x3 (x7 aR (Γ aW) 6) aZ λc3=>
       J x3 (x6 ai c3) aZ λb5=>
       J x3 (Y3 #[ai] ab #[b5]) aZ λc4=>
       bE (Δ 1) (Δ 0) aZ λn bC aj c5=>
        J x3 (aC .lss ab false false bC c4) aj λc6=>
        Split c6 (bB (α:=x1->x2->Prop) (λ(c7:x1) (b6:x2)=>
         J x3 (aC .add ab false true bC (Δ 1)) b6 λc8=>
         c5 c7 c8 b6) λb7=>
        J x3 (n0 ai b5 bC) aj λc9=>
        J x3 (x6 ab c9) aj λb9=>
        J x3 (aY (Γ an)) aj λda=>
        J x3 (x6 aG da) aj λdb=>
        ak x3 nh [db,b9] aj λdc am=>
        Split dc (J x3 (aY (Γ an)) am λdd=>
         J x3 (x7 aG dd 1) am λde=>
         J x3 (x6 ai de) am λdf=>
         J x3 (n0 ai df b9) am λdg=>
         J x3 (x6 ab dg) am λdh=>
         J x3 (aC .mul ab false false n dh) am λdj=>
         b7 dj am)
         (b7 n am))
         (J x3 (l7.min_ #[ab,ab] ab #[n,(Δ 100)]) aj λdk=>
       bP (Δ 0) aj λbF aq dl=>
        J x3 (aC .lss ab false false bF dk) aq λdm=>
        Split dm (J x3 (x7 ca e 2) aq λdn=>
        J x3 (x6 ai dn) aq λdp=>
        J x3 (aC .rem ab false true bF (Δ 2)) aq λdq=>
        J x3 (aC .sub ab false true dq (Δ 1)) aq λdr=>
        aA x3 (Z7 ai 1 #[(0,dr)]) aq λds dt=>
        aA x3 (l9 #[ai,ai] ai #[dp,ds]) dt λdu cb=>
        J x3 (x7 ca e 2) cb λdv=>
        aA x3 (o5 ai dv du) cb λ(_:Unit) cc=>
        J x3 (aC .add ab false true bF (Δ 1)) cc λdw=>
        dl dw cc)
         (b4 aq)))
       (b4 aH):=by
 have a1:=p.b8.2.2.2.1;have eg:=p.box.lt;have z0:=br.size;obtain⟨bG,⟨eh,cd⟩,⟨ei,bI⟩,ej,a2⟩:=id bt;rw[ac aR.p rfl,ad (v:=Δ a.i) Ψ (bG.Q1 rfl),ac aR.p rfl,ad (v:=az) Ψ (bG.Q6 rfl),ac aR.p rfl,ad (v:=aE) Ψ (bG.Q5 rfl),
  cW (cs:=#[Δ a.i,az,aE]) (by obtain⟨_,_,_,rfl⟩:=bZ bI.ls;obtain⟨_,_,_,rfl⟩:=bZ cd.ls;kernel_rfl)]
 refine bp ca.i λge U ek dx dy=>?_;refine bH (vs:=[Δ a.i,az,aE]) ca.i rfl rfl ?_ dy λV dz em dA=>?_
 .intro u hu;simp at hu;rcases hu with rfl|rfl|rfl
  .rfl
  .exact bI.ls.cells.2
  .exact cd.ls.cells.2
 have dC:Ext w V:=dx.then dz λr I he=>by have he:r=ge:=he;omega
 refine di (λaI=>∃bv,Ext w aI/\af aI ge ca [Δ a.i,az,bv]/\(∃g,au .i64 ab aI g bv (ju n a))/\ ∀r,leads bv r->w0.heap.size<=r) ?_ ?_
 rotate_left
 .intro ce aL;exact LL (p.ext br).look a1.eu.2.2 bt dA Ω Ω dC λw' bv h1 X bJ dD=>aL _ ⟨bv,h1,X,bJ,dD⟩
 rintro dE ⟨bv,bM,a6,⟨en,a7⟩,a8⟩;have aM:=br.trans bM;have ba:=bI.ext bM;have bb:(ju n a).length<=1000000:=by
  unfold ju ke;split
  .rw[u4,List.length_range];omega
  .rw[o4];omega
 have cg:(a.sc.take 4).length<=1000000:=by rw[o4];omega
 have aN:∀ {ch:x2},af ch ge ca [Δ a.i,az,bv]-> ∀ {K:x1->Prop},J x3 (x6 ca (Γ ge)) ch K=K (.agg #[Δ a.i,az,bv]):=λaO=>bn ca.p ca.i rfl aO.range;by_cases ao:mT n s (ij n a)
 rotate_left
 .refine aQ (λv Y=>v=Δ 1/\Ext dE Y) ?_ ?_
  .rintro _ Y ⟨rfl,W⟩;rw[aN (a6.ext W)];refine (B3 (e:=ij n a) (p.ext (aM.trans W)).b8 bX (ba.ls.ext W) (a7.ls.ext W) bb cg Ω).mono ?_;rintro v bN _ ⟨h1,_⟩;obtain⟨rfl,aS⟩:=h1 ao;rw[bk];exact bY _ (by unfold mU;rw[if_neg ao];exact kc p ((aM.trans W).trans aS))
  .intro ce aL Y W _ _;rw[ay];refine (p.ext (aM.trans W)).look.load λdF bO=>?_;rw[aN (a6.ext W)];refine (BY (e:=ij n a) bO a1 (ba.ls.ext W) (a7.ls.ext W) bb).mono ?_;rintro _ bN _ ⟨⟨b,rfl,aO⟩,aS⟩;rw[bf,bD];exact⟨λ_=>aL _ _ ⟨rfl,W.trans aS⟩,λdG=>absurd (aO.1 (by simpa using dG)) ao⟩
 refine aQ (λv Y=>v=Δ 0/\ag (λr=>(∃q,A9 q r)\/r=an) w0 Y/\af Y ge ca [Δ a.i,az,bv]/\aJ .i64 Y az (a.sc.take 4)/\aJ .i64 Y bv (ju n a)/\ ∃bL R9' bo,bK Y al ah an A R bL R9' n s (iS s (ij n a)) t h bo/\(∀q r,bL q r->(∃bQ,A9 bQ r)\/w0.heap.size<=r)/\(∀r,aP r->R9' r)/\ ∀r,R9' r->aP r\/w0.heap.size<=r) ?_ ?_
 .rintro _ Y ⟨rfl,bR,dH,dI,dJ,bL,R9',bo,bd,dK,dL,dM⟩;rw[aN dH];refine (B3 (e:=ij n a) bd.b8 bX dI dJ bb cg Ω).mono ?_;rintro v bN _ ⟨_,X⟩;obtain⟨rfl,ci,dN,R',x,y,q,bS,dO,eo,cj⟩:=X ao;have z4:=bR.size;obtain⟨dP,ep,er⟩:=pY (t:=t) (i:=2) (x:=x);obtain⟨f1,f2,f3⟩:=pY (t:=t.set 2 x) (i:=q) (x:=y);rw[bk];refine bY _ ?_;unfold mU;rw[if_pos ao];exact⟨dN,R',_,R9',_,bo,bd.prog ci bS dO bd.gG.set.set cj (λ_ _ _ h=>h) bd.box.lt,(bR.mono λr _ h=>.inr h).trans (bS.1.mono λr _ h=>.inl h),λr I=>(bS.2.1 r I).imp id λh=>Ω,λr I=>(cj r I).imp id λh=>Ω,dL,dM,λq r I=>dK q r I.1,f1.trans dP,Ω,Ω,vm bR ci,(aD.n8 _ _ _).trans (aD.n8 _ _ _)⟩
 intro ce aL Y W _ _;rw[ay];have dQ:=aM.trans W;refine (p.ext dQ).look.load λdF bO=>?_;rw[aN (a6.ext W)];refine (BY (e:=ij n a) bO a1 (ba.ls.ext W) (a7.ls.ext W) bb).mono ?_;rintro _ bN _ ⟨⟨b,rfl,aO⟩,aS⟩;rw[aO.2 ao,bf,bD];refine⟨λh=>by simp at h,λ_=>?_⟩;intro dR dS _ _;have aT:=(W.trans aS).trans dS;have bT:=aM.trans aT;have bU:=a6.ext aT;have be:=ba.ext aT;have bh:=a7.ext aT;have es:=bT.size;have bV:=(p.olds.ext bT).reads (R9':=λr=>aP r\/leads az r\/leads bv r) (λr h=>.inl h) λr I=>by
  rcases I with I|I|I
  .exact .inl I
  .obtain⟨c,aU⟩:=js be r I;have:=a2 r (.inr I);exact .inr ⟨pQ aU Φ,aU.lt,Ω,λq h=>by have:=h.2;omega⟩
  .obtain⟨c,aU⟩:=js bh r I;have:=a8 r I;exact .inr ⟨pQ aU Φ,aU.lt,Ω,λq h=>by have:=h.2;omega⟩
 obtain⟨dT,cl⟩:=bV.doc.at 7 Ω;rw[ay,ac aG.p rfl,ad (v:=dT) Ψ (bV.box.cell (o:=0+7) cl),aN bU];have own:bi (α:=ii) (λ_=>False) (λr=>aP r\/leads az r\/leads bv r) dR [Δ a.i,az,bv] (jt (ij n a)):=
  ⟨[Δ a.i],[az,bv],λ_=>False,λ_=>False,rfl,λ_ h=>h,λ_ h=>h,λ_ _ h=>h.elim,rfl,[az],[bv],λ_=>False,λ_=>False,rfl,λ_ h=>h,λ_ h=>h,λ_ _ h=>h.elim,kL be λr h=>.inr (.inl h),kL bh λr h=>.inr (.inr h)⟩
 refine gN e0.u ca.i Φ rfl own λet ev ae _ dU=>?_;refine⟨.inl ae,?_⟩;have ew:=ae.size;simp only[ay];refine LJ (bV.ext ae) (λq r h=>by have:=h.2;omega) cl dU (bg own ae) cp λbL bo dW ax dX aV=>?_;have bj:∀r,(A9 4 r/\r<w0.heap.size\/r=an)->r<w0.heap.size:=λr I=>I.elim (λh=>h.2) λh=>Ω
 have dY:=((bt.ext bM).ext (aT.trans ae)).aa ax λr _ h=>bj r h;have dZ:=(bU.ext ae).aa ax λh=>by have:=bj ge h;omega
 have ea:=bc (be.ext ae) ax λr I h=>by have:=bj r h;have:=a2 r (.inr I);omega
 have eb:=bc (bh.ext ae) ax λr I h=>by have:=bj r h;have:=a8 r I;omega
 intro ey av _ _;have bW:=dX.olds.ext av;have ez:=ax.size;have z9:=av.size;obtain⟨ec,cn⟩:=bW.doc.at 4 Ω;have eA:=a1.vars;obtain⟨x,bm⟩:∃x,s.vars[a.i.toNat]? =σ x:=⟨_,y0 (by have:0<=a.i/\a.i<n.sizes.length:=ao.has;omega)⟩;have ed:a.i=((a.i.toNat:Nat):Int):=by have:0<=a.i/\a.i<n.sizes.length:=ao.has;omega
 have aB:iS s (ij n a)={({s with elims:=s.elims++[ij n a]}:aF) with vars:=s.vars.set a.i.toNat {x with gone:=1}}:=by
  unfold iS;rw[show (ij n a).v=a.i from rfl,bm]
 rw[ac aG.p rfl,ad (v:=ec) Ψ (bW.box.Q4 cn),ac aR.p rfl,ad (v:=Δ a.i) Ψ ((dY.ext av).cZ.Q1 rfl)];refine LK (u':=iS s (ij n a)) bW (λq r h=>by have:=h.2;omega) cn ed (by exact (x4.1 bm).1) (by rw[aB]) (by rw[aB];exact oj bm rfl) (by rw[aB];exact oj bm rfl) (by rw[aB]) (by rw[aB]) (by rw[aB];exact T2 ..) λeB bq ee=>?_;have ef:∀r,(bL 1 r/\r<dW.heap.size)->(∃bQ,A9 bQ r)\/w0.heap.size<=r:=λr I=>(aV 1 r I.1).elim (λh=>.inl ⟨1,h.1⟩) λh=>.inr Ω;refine aL _ _ ⟨rfl,gf ((((bT.trans ae).aa _).trans (ax.mono λr _ h=>h.imp (λh=>⟨4,h.1⟩) id)).trans (av.aa _)) bq λr I h=>(ef r h).elim .inl λX=>Ω,?_,?_,?_,_,_,bo,ee,λq r I=>(aV q r I.1).elim (λh=>.inl ⟨q,h.1⟩) λh=>.inr Ω,λr I=>.inl I,λr I=>?_⟩
 .exact (dZ.ext av).aa bq λh=>by
   rcases aV 1 ge h.1 with X|X
   .have:=X.2;omega
   .have:=bU.lt;omega
 .exact (bc (ea.ext av) bq λr I h=>by
   rcases aV 1 r h.1 with X|X
   .have:=X.2;have:=a2 r (.inr I);omega
   .obtain⟨_,bJ⟩:=bA be I;omega).ls
 .exact (bc (eb.ext av) bq λr I h=>by
   rcases aV 1 r h.1 with X|X
   .have:=X.2;have:=a8 r I;omega
   .obtain⟨_,bJ⟩:=bA bh I;omega).ls
 .rcases I with I|I|I
  .exact .inl I
  .exact .inr (a2 r (.inr I))
  .exact .inr (a8 r I)
end
theorem vq {n:aV} {s:aF} {U:Λ}:kd n s sc U↔2<=sc.length/\kb n s sc/\U=bF n.sizes sc:=by
 unfold kd bF;constructor
 .rintro⟨h1,X,V,W⟩;refine⟨h1,V,X8 λi=>?_⟩;rw[x8];by_cases hi:i<sc.length
  .obtain⟨v,J⟩:∃v,sc[i]? =σ v:=⟨_,y0 hi⟩;obtain⟨z,I⟩:∃z,U[i]? =σ z:=⟨_,y0 Ω⟩;rw[J,I,Y0,W i v z J I]
  .rw[Y4 Ω,Y4 Ω];rfl
 .rintro⟨h1,V,rfl⟩;refine⟨h1,by rw[u4],V,λi v z J I=>?_⟩;rw[x8,J,Y0] at I;exact Z8 I
theorem LN {n:aV} {s:aF} (h:kb n s l):l.Pairwise (·< ·):=by
 have step:∀i x y,l[i]? =σ x->l[i+1]? =σ y->x<y:=λi x y J I=>by
  obtain⟨v,U,_,_,_,W⟩:=h (i+1) (x4.1 I).1;rw[I] at U;cases U;have:=W Ω;rwa [Nat.add_sub_cancel,u5,J] at this
 have all:∀d i x y,l[i]? =σ x->l[i+d+1]? =σ y->x<y:=λd=>by
  induction d with
  |zero=>exact step
  |succ d X=>
   intro i x y J I;obtain⟨z,V⟩:∃z,l[i+d+1]? =σ z:=⟨_,y0 (by have:=(x4.1 I).1;omega)⟩;exact Int.lt_trans (X i x z J V) (step _ z y V I)
 rw[V2];intro i j hi Y aa;exact all (j-i-1) i _ _ (y0 hi) (by rw[show i+(j-i-1)+1=j by omega];exact y0 Y)
section
variable {w:x2} {al ah:Nat} {A R:aj} {n:aV} {s:aF} {t:aD}
theorem LO {af:x1} {szs cs:Λ} {g ao:Nat} (h:b7 w al ah A R n s t) (ab:aJ .i64 w az sc) (aH:∀r,leads az r->¬A r) (aa:cR w g ao af szs n.k cs) (aI:¬A g/\¬A ao/\ ∀r,leads af r->¬A r) (aK:sc.length<=6) (aM:∀c∈cs,0<=c/\c<=n.k)
  (aN:t.cells.length+cs.length+1<=100000000) (bz:t.olds.length+cs.length+2<=100000000) (J:s.funs.length<=1000000):
  ak x3 sV [Γ al,az,Γ g] w λr w'=>(¬kd n s sc szs->r= .tuple #[Δ 0,Δ 1]/\Ext w w')/\
   (kd n s sc szs->r= .tuple #[Δ (s.funs.length:Int),Δ 0]/\ag (dg w) w w'/\ ∃ac R',Grow A w ac w'/\b7 w' al ah ac R' n (fV s sc szs cs) (kR s t cs)/\(∀r,R r->R' r)/\ ∀r,R' r->R r\/leads af r\/w.heap.size<=r):=by
 obtain⟨_,Y,ap,W,aO⟩:=id h;refine aB func54 ?_;rw[cC dQ.u];simp only[Z0,aS];refine aQ (λv U=>∃b,v= .bool b/\(b=false↔kd n s sc szs)/\Ext w U) ?_ ?_
 rotate_left
 .intro bA aj;rw[aT ai.u ab,aq,ae];refine⟨λbB=>aj _ _ ⟨true,rfl,⟨(λh=>by cases h),λh=>by have:=h.1;omega⟩,Ext.refl _⟩,λbC=>?_⟩;refine (BH h ab).mono ?_;rintro _ U _ ⟨⟨b,rfl,au⟩,I⟩;rw[bf,bD];refine⟨λad=>aj _ _ ⟨true,rfl,⟨(λh=>by cases h),λh=>by rw[au.2 h.2.2.1] at ad;cases ad⟩,I⟩,λaP=>?_⟩;have X:=au.1 (by simpa using aP);rw[cC ek.u];simp only[Z0,aS];refine (tQ (aa.ext I)).mono ?_;rintro _ V _ ⟨rfl,aR⟩;have av:=I.trans aR;refine (mO (h.ext av)).mono ?_;rintro _ bE _ ⟨rfl,aU⟩;have aw:=av.trans aU;rw[bG,ae];refine⟨λaV=>absurd rfl aV,λ_=>?_⟩;refine (my (aa.ext aw)).mono ?_;rintro _ bF _ ⟨rfl,aW⟩;have ax:=aw.trans aW;obtain⟨⟨aL,gs,_,aX,_⟩,_,aY,_⟩:=id aa;refine (tR (aX.ls.ext ax) (by have:=aY.1;omega)).mono ?_;rintro v5 bH _ ⟨aZ,bI,bJ,a1⟩;have am:=ax.trans aZ;refine (BZ (h.ext am) (ab.ext am) (λx a2=>(r4 X x a2).1) Ω).mono ?_;rintro bK bL _ ⟨ay,bM,a6,_⟩;refine (kE (a1.ls.ext ay) a6.ls).mono ?_;rintro _ bN _ ⟨rfl,a7⟩;rw[bf];exact aj _ _ ⟨_,rfl,⟨λh=>vq.2 ⟨Ω,X,by simpa using h⟩,λh=>by rw[decide_eq_true (vq.1 h).2.2];rfl⟩,(am.trans ay).trans a7⟩
 rintro _ U ⟨b,rfl,aA,I⟩;rw[bD];refine⟨λaC=>⟨λ_=>⟨by trivial,I⟩,λX=>by rw[aA.2 X] at aC;cases aC⟩,λa8=>?_⟩;have X:=aA.1 a8;obtain⟨ba,aE,an⟩:=vq.1 X;obtain⟨bb,bc,bO,bd,be⟩:=(h.ext I).1;refine (A4 be Y (ab.ext I) aH (aa.ext I) aI Ω aN Ω ap.2.2 J).mono ?_;rintro _ V _ ⟨rfl,bg,ac,R',bh,bi,bj,bk,bl⟩;obtain⟨_,⟨_,_,bm⟩,bP,bn⟩:=id aa;have bo:=pG t (1::cs) (1::cs).length;have bp:=pH t (1::cs) (1::cs).length;have bq:=mK t (1::cs) (1::cs).length;simp only[j5] at bo bp;obtain⟨br,bt,aF⟩:=pY (t:=hr t (1::cs)) (i:=1) (x:=((s.funs.length+1:Nat):Int));have bu:iI (kR s t cs):=by
  refine⟨?_,?_,?_⟩
  .show (aD.set _ _ _).cells.length<=_;rw[bt];unfold hr;simp only[j5];omega
  .show (aD.set _ _ _).olds.length<=_;unfold hr at aF ⊢;simp only[j5] at aF ⊢;omega
  .show (aD.set _ _ _).marks.length<=_;rw[br];unfold hr;rw[bq];exact ap.2.2
 have aG:=r4 aE;have bw:eB n.k n.sizes (fV s sc szs cs):=by
  refine⟨W.jZ,W.eu,W.zero,W.vars,W.var,λf J=>?_⟩;have J:f∈s.funs++[(⟨sc,szs,1,cs⟩:et)]:=J;rcases n9.1 J with J|J
  .exact W.funs f J
  .obtain rfl:=j4.1 J;exact⟨⟨⟨λv Y=>by have:=aG v Y;have:=W.eu.2.1;omega,aK⟩,LN aE,λv Y=>(aG v Y).2,by rw[<-an];exact bn,by rw[<-an];exact bm,aM⟩,an,ba⟩
 have bQ:=I.size;exact⟨λad=>absurd X ad,λ_=>⟨by trivial,j2 I bg,ac,R',(Grow.ext I).trans bi,⟨⟨bb,bc,bh,bd,bj⟩,A3 Y,bu,bw,aO⟩,bk,λr bx=>(bl r bx).imp id λh=>h.imp id λh=>Ω⟩⟩
end
section
variable {w w':x2} {al ah an:Nat} {A R:aj} {A9:Nat->aj} {aP R9' B:aj} {n:aV} {s u u':aF} {t:aD} {h:List aD} {cs:List x1} {v:x1}
theorem LP {ao:r9} {y:x1} {xs:List x1} {f:et} {K:x2->Prop} (p:bK w al ah an A R A9 aP n s u t h cs) (ap:∀q r,A9 q r->r<w.heap.size) (X:cs[6]? =σ v) (I:bW w 4 y 1 xs) (aq:bi B aP w xs (ei f)) (W:∀r,B r->¬A r/\¬R r/\r≠an/\¬aP r/\ ∀q,¬A9 q r) (aH:u.funs.length<=1000)
  (au:∀bL bo w',ag (λr=>A9 3 r\/r=an) w w'->bK w' al ah an A R bL aP n s {u with funs:=u.funs++[f]} t h bo->(∀q r,bL q r->A9 q r\/B r\/w.heap.size<=r)->K w'):
  aA x3 (l9 #[b3,b3] ao #[v,y]) w λac V=>J x3 (x7 aG (Γ an) 6) V λaw=>aA x3 (o5 b3 aw ac) V λ_ Y=>K Y:=by
 obtain⟨av,aI,aJ,aK,ax,ad,ay,h1,ae,af,aL,az,aM,aa⟩:=id p.doc;obtain⟨aa,ai⟩:=aa rfl;have ad:v=ax:=by rw[ay] at X;exact (Z8 X).symm
 subst ad;have aN:=p.box.lt;have aB:∀r,aP r->r<w.heap.size:=λr h=>(p.read r h).2.1;have aj:=iQ p.b8;refine kV (pl:=_) (l:=u.funs.map ei) aG.p rfl b3.u b3.i b0.i rfl p.box X az I aq (λr U ak=>⟨λh=>(W r h).2.2.2.2 3 ak,ai 3 r ak⟩) ⟨λh=>(p.apart 3 an h).2.2 rfl,λh=>(W an h).2.2.1 rfl,λh=>(p.read an h).2.2 rfl⟩ (by rw[u4];omega) (by rw[u4];omega) λac Y ab aC aD=>?_;have am:=be.gq p.doc (ol ab) (λr U=>?_) aD (λj r aE U=>?_) (λr U=>?_)
 .refine au _ _ Y ab (p.vj ab (λr U h=>h.imp (λh=>⟨3,h⟩) id) aC (u':={u with funs:=u.funs++[f]}) (by rw[<-List.map_singleton,<-Z3] at am;exact am) λq r U=>?_) λq r U=>?_
  .unfold dU at U;split at U
   .rcases U with U|U|U
    .exact .inl ⟨3,U⟩
    .obtain⟨h1,ae,af,_⟩:=W r U;exact .inr ⟨h1,ae,af⟩
    .exact .inr ⟨λh=>by have:=aj r (.inl h);omega,λh=>by have:=aj r (.inr h);omega,Ω⟩
   .exact .inl ⟨q,U⟩
  .unfold dU at U;split at U
   .rename_i aF;subst aF;exact U
   .exact .inl U
 .rcases U.1 with h|rfl
  .exact .inl h
  .exact .inr ⟨λj h=>(p.apart j r h).2.2 rfl,λh=>(p.read r h).2.2 rfl⟩
 .rcases U with U|U|U
  .exact aa 3 j r (T9 aE) U
  .exact (W r U).2.2.2.2 j
  .exact λh=>by have:=ap j r h;omega
 .rcases U with U|U|U
  .exact ai 3 r U
  .exact (W r U).2.2.2.1
  .exact λh=>by have:=aB r h;omega
theorem LQ {szs:Λ} {k:Int} {i:Nat} (h:i<(aM szs).toNat):(hL szs k l)[i]? =σ (jh k l[i]?):=by
 simp[hL,h]
theorem LR {L co:Λ} {k:Int} {a1 av a2:Nat} {Y aL:x1} {aF:List x1} (aH:au .i64 ab w a1 Y L) (I:bS L) (bI:aM L<=600) (ah:right k) (aI:af w av dD [Y,Δ k,aL]) (aJ:au .i64 ao w a2 aL (hL L k co))
  (a6:af w an aG aF) (a7:aF[0]? =σ (Δ k))
  (a8:∀w' g U aO,Ext w w'->cR w' g U aO L k (hL L k co)->w.heap.size<=g->w.heap.size<=U->(∀r,leads aO r->w.heap.size<=r)->K (Γ g) w'):
  J x3 (aY (Γ an)) w λba=>
        J x3 (x7 aG ba 0) w λbb=>
        J x3 (x6 ao bb) w λbe=>
        ak x3 sY [Y,be,(Δ 0)] w λaP ax=>
        J x3 (Z9 aP 0) ax λaQ=>
        J x3 (Z9 aP 1) ax λbJ=>
        ak x3 sZ [Y] ax λaR aS=>
        J x3 (Y3 #[cz] ab #[aR]) aS λbf=>
        bP (Δ 0) aS λaj V bg=>
         J x3 (aC .lss ab false false aj bf) V λbh=>
         Split bh (J x3 (n0 cz aR aj) V λbi=>
         J x3 (x6 ai bi) V λbj=>
         J x3 (x7 dD (Γ av) 2) V λbk=>
         J x3 (x6 aw bk) V λbl=>
         J x3 (n0 aw bl aj) V λbn=>
         J x3 (x6 ao bn) V λbo=>
         ak x3 s3 [aQ,bj,bo] V λbK aT=>
         J x3 (aC .add ab false true aj (Δ 1)) aT λbp=>
         bg bp aT)
         (K aQ V):=by
 have bL:=ah.1;have bM:=ah.2;rw[ay,ac aG.p rfl,ad (v:=Δ k) Ψ (a6.Q0 a7)];refine (qS aH.ls).mono ?_;rintro v aU _ ⟨az,_,_,_,bq⟩;obtain⟨g,U,sv,rfl,br,bt,bu,aA⟩:=bq I Ω ⟨ah,Ω,Ω⟩;rw[aK (v:=Γ g) rfl,aK (v:=Δ 0) rfl];refine (oW _ ((aH.ext az).ls) I).mono ?_;rintro df aV _ ⟨aW,al⟩;rw[eP cz.u al];have bN:=az.size;have al:=kB al;have bw:=hd I.2;have bO:=prod_bound I;have bQ:=aA.2.2.2;have bR:U<aU.heap.size:=by obtain⟨⟨_,_,_,_,bx⟩,_⟩:=aA;exact nY bx Θ
 have aB:Ext w aV:=az.trans aW;have bT:=aI.lt;refine bP.range (bm L).length (λi X=>ag (λr=>r=U) aV X/\cR X g U sv L k (upto (hL L k co) 0 i)) Ω
  ⟨ag.refl _ _,by rw[nH,rh];exact aA.ext aW⟩ ?_ ?_
 .rintro i X bz hi ⟨W,ap⟩ bB;refine Υ λ_=>?_;have aX:(i:Int)<aM L:=Ω
  have bC:=am.aa al W λr aD h he=>by
   have he:r=U:=he;rcases h with h|h
   .have:=h.1;have:aU.heap.size<=r:=this;omega
   .exact h
  refine lm rfl rfl cz.u ai.i Ψ bC (nG I.2 aX) λaE bD=>?_;have bE:=(aI.ext aB).aa W λh=>by have h:av=U:=h;omega
  have aZ:=LQ (szs:=L) (l:=co) (k:=k) (i:=i) Ω;have bF:=bc (aJ.ext aB) W λr aD he=>by have he:r=U:=he;obtain⟨bU,bV⟩:=bA aJ aD;omega
  rw[ac dD.p rfl,ad (v:=aL) Ψ (bE.Q2 rfl),bd aw.u ao.i Ψ bF.ls aZ];refine (xT (k:=k) ap (dZ bD)).mono ?_;rintro _ bW _ ⟨rfl,bG,bH⟩;rw[aN];refine bB _ ⟨W.trans bG,?_⟩;have e:nv L (cF L i) k (jh k co[i]?) (upto (hL L k co) 0 i)=upto (hL L k co) 0 (i+1):=by
   unfold nv;rw[oY I.2 Ω aX];simp only;rw[if_pos ⟨ah,y7 Ω _⟩,j0,nJ aZ]
  rw[<-e];exact bH
 .rintro X bz ⟨W,ap⟩;rw[aq,ae];refine⟨λh=>Ω,λ_=>?_⟩;rw[bw,<-rh L k co,nI] at ap;exact a8 X g U sv (aB.then W λr aD h=>by have h:r=U:=h;omega) ap br bt bu
end
theorem LS (I:∀v g w',g=w.heap.size->Ext w w'->au .i64 ab w' g v []->K v w'):aA x3 (Z7 ai 0 #[]) w K:=
 ny (l:=[]) ai.u ab.i Ω rfl Ψ I
def ik (n:aV) (a:dh):Λ:=match gY n (a.sc.take 4) with
 |[]=>[]
 |z::r=>(if a.v.tmod 5=0 then 1+z.tmod 3 else z)::r
theorem vr {n:aV} (J:∀z∈n.sizes,1<=z/\z<=32) (l:Λ):(gY n l).length<=l.length/\ ∀z∈gY n l,1<=z/\z<=32:=by
 unfold gY;refine⟨by rw[u4];exact S9 _ _,λz U=>?_⟩;obtain⟨v,V,rfl⟩:=Z1.1 U;have h:=(List.mem_filter.1 V).2;have h:=of_decide_eq_true h;obtain⟨y,I⟩:∃y,n.sizes[v.toNat]? =σ y:=⟨_,y0 Ω⟩;rw[u5,I];exact J y (x5 I)
theorem LU {n:aV} {a:dh} (U:∀z∈n.sizes,1<=z/\z<=32):bS (ik n a):=by
 obtain⟨h1,I⟩:=vr U (a.sc.take 4);rw[o4] at h1;unfold ik;split
 .exact⟨Ξ,Ξ⟩
 .rename_i z r e;rw[e] at h1 I;simp only[j5] at h1;refine⟨by simp only[j5];omega,λx J=>?_⟩;rcases T1.1 J with rfl|J
  .split
   .have:=I z (.head _);have:=Int.tmod_nonneg 3 (show 0<=z by omega);have:=Int.tmod_lt_of_pos z (show 0<(3:Int) by omega);omega
   .exact I z (.head _)
  .exact I x (.tail _ J)
section
variable {w:x2} {an aW B:Nat} {n:aV} {s:aF} {a:dh} {aE az ck:x1} {K:x1->x2->Prop}
theorem LV (aO:kW w an n.k n.sizes s) (aP:∀z∈n.sizes,1<=z/\z<=32) (be:dV w aW n.k a aE az ck B)
  (bf:∀V X w',Ext w w'->au .i64 ab w' X V (ik n a)->(∀r,leads V r->w.heap.size<=r)->K V w'):
  aA x3 (Z7 ai 0 #[]) w λbg ap=>
      J x3 (x7 aR (Γ aW) 6) ap λbh=>
      J x3 (x6 ai bh) ap λaS=>
      J x3 (Y3 #[ai] ab #[aS]) ap λbi=>
      bE bg (Δ 0) ap λsizes aB W k=>
       J x3 (aC .lss ab false false aB bi) W λbj=>
       Split bj (bB (α:=x1->x2->Prop) (λ(bl:x1) (aU:x2)=>
        J x3 (aC .add ab false true aB (Δ 1)) aU λbm=>
        k bl bm aU) λaV=>
       J x3 (n0 ai aS aB) W λbn=>
       J x3 (x6 ab bn) W λaX=>
       J x3 (aY (Γ an)) W λbo=>
       J x3 (x6 aG bo) W λbp=>
       ak x3 nh [bp,aX] W λbq af=>
       Split bq (J x3 (aY (Γ an)) af λbr=>
       J x3 (x7 aG br 1) af λbt=>
       J x3 (x6 ai bt) af λbu=>
       J x3 (n0 ai bu aX) af λbw=>
       J x3 (x6 ab bw) af λbx=>
       aA x3 (Z7 ai 1 #[(0,bx)]) af λbz bC=>
       aA x3 (l9 #[ai,ai] ai #[sizes,bz]) bC λbF bG=>
       aV bF bG)
       (aV sizes af))
       (bB (α:=x2->Prop) (λ(bH:x2)=>K sizes bH) λaZ=>
      bB (α:=x1->x2->Prop) (λ(bI:x1) (ag:x2)=>
       Split bI (J x3 (n0 ai sizes (Δ 0)) ag λbJ=>
       J x3 (x6 ab bJ) ag λbK=>
       J x3 (aC .rem ab false true bK (Δ 3)) ag λbL=>
       J x3 (aC .add ab true false (Δ 1) bL) ag λbM=>
       J x3 (n0 ai sizes (Δ 0)) ag λbN=>
       aA x3 (o5 ab bN bM) ag λ(_:Unit) bO=>
       aZ bO)
       (aZ ag)) λa1=>
      J x3 (Y3 #[ai] ab #[sizes]) W λbP=>
      J x3 (aC .gtr ab false true bP (Δ 0)) W λbQ=>
      Split bQ (J x3 (x7 aR (Γ aW) 2) W λbS=>
      J x3 (x6 ab bS) W λbT=>
      J x3 (aC .rem ab false true bT (Δ 5)) W λbU=>
      J x3 (aC .eql ab false true bU (Δ 0)) W λbV=>
      a1 bV W)
      (a1 (.bool false) W)):=by
 obtain⟨a2,_,⟨ch,aD⟩,ci,cj⟩:=id be;refine LS λcl g1 U cm aw a6=>?_;obtain⟨l,aF⟩:∃l,l=a.sc.take 4:=⟨_,rfl⟩;rw[<-aF] at aD;have cn:l.length<=4:=by rw[aF,o4];omega
 have cp:=aw.size;rw[ac aR.p rfl,ad (v:=az) Ψ ((a2.ext aw).Q6 rfl),aT ai.u (aD.ls.ext aw)];refine bE.range l.length (λi V al=>Ext w al/\ ∃X,au .i64 ab al X V (gY n (l.take i))/\ ∀r,leads V r->w.heap.size<=r) Ω ⟨aw,g1,a6,λr am=>by obtain⟨h1,_⟩:=bA a6 am;omega⟩ ?_ ?_
 .rintro i V al bW hi ⟨ah,X,aa,aj⟩ bX;obtain⟨x,aH⟩:∃x,l[i]? =σ x:=⟨_,y0 hi⟩;refine Υ λ_=>?_;refine aQ (λV Y=>Ext w Y/\ ∃X,au .i64 ab Y X V (gY n (l.take (i+1)))/\ ∀r,leads V r->w.heap.size<=r) ?_ ?_
  .rintro V Y bY;rw[aN];exact bX _ _ bY
  intro bZ ao;rw[bd ai.u ab.i Ψ (aD.ls.ext ah) aH,ay];refine (aO.ext ah).load λcq b0=>?_;refine (pT (i:=x) b0).mono ?_;rintro _ Y _ ⟨rfl,aI⟩;have ax:=ah.trans aI;rw[ae];refine⟨λb1=>?_,λa7=>ao _ _ ⟨ax,X,by rw[r5 aH,if_neg a7,X6];exact aa.ext aI,aj⟩⟩;obtain⟨av,cr,ct,cu,cw,cz,b2,b3,_⟩:=aO.ext ax;obtain⟨z,aJ⟩:∃z,n.sizes[x.toNat]? =σ z:=⟨_,y0 Ω⟩;rw[ay,ac aG.p rfl,ad (v:=av) Ψ (b2.Q1 rfl),dY (y:=x) (i:=x.toNat) Ω ai.u ab.i Ψ b3 aJ];refine dx (k:=.i64) ai.u ab.i rfl λv5 cA b4 cB aK aL=>?_;have cC:(gY n (l.take i)).length<=4:=by have:=(vr aP (l.take i)).1;rw[o4] at this;omega
  refine eY ai.u ab.i rfl ((aa.ext aI).ext aK) aL.ls Θ Θ λcD b5 cE b6 b7 b8=>?_;have z4:=ax.size;have z5:=aK.size;refine ao _ _ ⟨(ax.trans aK).then b8 λr am he=>by have:=aj r he;omega,b5,?_,λr am=>(b7 r am).elim (aj r) λh=>Ω⟩;rw[r5 aH,if_pos b1,u5,aJ];exact b6
 rintro V al bW ⟨ah,X,aa,aj⟩;rw[o9,aF] at aa;rw[aq,ae];refine⟨λh=>Ω,λ_=>?_⟩;have b9:=vr aP (a.sc.take 4);refine di (λY=>Ext w Y/\au .i64 ab Y X V (ik n a)) (λY h=>bf V X Y h.1 h.2 aj) λbZ ao=>?_;refine aQ (λv Y=>al=Y/\ ∃b,v= .bool b/\(b=true↔gY n (a.sc.take 4)≠[]/\a.v.tmod 5=0)) ?_ ?_
 .rintro _ Y ⟨rfl,b,rfl,a8⟩;rw[bD];refine⟨λca=>?_,λba=>ao _ ⟨ah,?_⟩⟩
  .obtain⟨cb,aM⟩:=a8.1 ca;obtain⟨z,r,e⟩:=List.exists_cons_of_ne_nil cb;have I:ik n a=(1+z.tmod 3)::r:=by unfold ik;rw[e];simp only;rw[if_pos aM]
   rw[e] at aa;have aJ:=b9.2 z (by rw[e];exact .head _);have:=Int.tmod_nonneg 3 (show 0<=z by omega);have:=Int.tmod_lt_of_pos z (show 0<(3:Int) by omega);have cc:(0:Int)=((0:Nat):Int):=rfl;rw[dY (y:=0) (i:=0) rfl ai.u ab.i Ψ aa.ls rfl,kv Ω,aN,wrap_i64 Ω Ω,cc,gx rfl ai.u ab.i aa Ξ];refine gy ab.i aa Ξ λb4 cd cF aL=>ao _ ⟨ah.then cd λr am he=>?_,?_⟩
   .obtain⟨_,⟨_,ce⟩|⟨cap,full,cg,_⟩⟩:=aa
    .simp at ce
    .have he:r=X:=he;have:=aj X ⟨_,_,_,cg,rfl⟩;omega
   .rw[I];exact aL
  .have I:ik n a=gY n (a.sc.take 4):=by
    unfold ik;split
    .rename_i e;exact e.symm
    .rename_i z r e;rw[if_neg,e];intro aM;rw[a8.2 ⟨by rw[e];simp,aM⟩] at ba;cases ba
   rw[I];exact aa
 .intro cG bb;rw[aT ai.u aa.ls,bR,ae];refine⟨λbc=>?_,λa7=>bb _ _ ⟨rfl,false,rfl,⟨(λh=>by cases h),λh=>?_⟩⟩⟩
  .rw[ac aR.p rfl,ad (v:=Δ a.v) Ψ ((a2.ext ah).Q2 rfl),kv Ω,bk];refine bb _ _ ⟨rfl,_,rfl,⟨λh=>⟨λe=>by rw[e] at bc;simp at bc,of_decide_eq_true h⟩,λh=>decide_eq_true h.2⟩⟩
  .exact absurd (List.length_pos_iff.2 h.1) Ω
end
section
variable {w0 w:x2} {al ah an aW:Nat} {A R:aj} {A9:Nat->aj} {aP:aj} {n:aV} {s:aF} {t:aD} {h:List aD} {cs:List x1} {a:dh} {aE az ck:x1} {Q:x1->x2->Prop}
theorem LW {L C:Λ} {ca aU aV g a7:Nat} {X aL bw:x1} (p:bK w0 al ah an A R A9 aP n s s t h cs) (dA:t.cells.length+700<=100000000) (dC:t.olds.length+700<=100000000) (cb:s.funs.length<=1000) (aI:Ext w0 w) (bx:dV w aW n.k a aE az ck w0.heap.size)
  (aJ:au .i64 ab w ca X L) (a8:∀r,leads X r->w0.heap.size<=r) (cc:af w aU dD [X,Δ n.k,aL]) (cd:w0.heap.size<=aU) (aj:au .i64 ao w aV aL C) (bz:w0.heap.size<=aV)
  (ce:cR w g a7 bw L n.k C) (bC:w0.heap.size<=g/\w0.heap.size<=a7) (aX:∀r,leads bw r->w0.heap.size<=r/\r≠aV) (cg:∀c∈C,0<=c/\c<=n.k) (dE:C.length<=600)
  (ch:¬kd n s (a.sc.take 4) L-> ∀w',Ext w0 w'->Q (.bool true) w') (ci:kd n s (a.sc.take 4) L-> ∀w',iR w0 al ah an A R A9 aP n (fV s (a.sc.take 4) L C) t h w'->Q (.bool true) w'):
  J x3 (x7 aR (Γ aW) 6) w λcj=>
        J x3 (x6 ai cj) w λcl=>
        ak x3 sV [Γ al,cl,Γ g] w λbE ba=>
        J x3 (Z9 bE 0) ba λbF=>
        J x3 (Z9 bE 1) ba λbG=>
        cm ba λaS=>
        J x3 (aY (Γ an)) aS λcn=>
        J x3 (x6 aG cn) aS λcp=>
        J x3 (x7 aR (Γ aW) 6) aS λcq=>
        J x3 (x6 ai cq) aS λcr=>
        ak x3 s4 [cp,cr,X] aS λct aM=>
        J x3 (Op.unary .not ct) aM λcu=>
        Split cu (bB (α:=x1->x2->Prop) (λ(cw:x1) (cz:x2)=>
         Q cw cz) λbH=>
        J x3 (aC .eql eF false true bG (Δ 1)) aM λcA=>
        Split cA (J x3 (aC .eql ab false true bF (Δ 0)) aM λcB=>
        bH cB aM)
         (bH (.bool false) aM))
        (cm aM λam=>
        J x3 (aY (Γ an)) am λbb=>
        J x3 (x7 aG bb 6) am λbd=>
        J x3 (x6 b3 bd) am λbI=>
        J x3 (x7 aR (Γ aW) 6) am λcC=>
        J x3 (x6 ai cC) am λcD=>
        J x3 (x7 dD (Γ aU) 2) am λcE=>
        J x3 (x6 aw cE) am λcF=>
        J x3 (Instr.build aZ #[(0,cD),(1,X),(2,cF)]) am λcG=>
        J x3 (Instr.build b0 #[(0,cG),(1,(.bool true))]) am λcH=>
        aA x3 (Z7 b3 1 #[(0,cH)]) am λcI aT=>
        (Ext am aT\/bl x3 (x6 b3 bd) bI aT/\bl x3 (x7 aG bb 6) bd aT/\bl x3 (aY (Γ an)) bb aT/\True)/\
        aA x3 (l9 #[b3,b3] b3 #[bI,cI]) aT λcJ be=>
         J x3 (aY (Γ an)) be λcK=>
         J x3 (x7 aG cK 6) be λcL=>
         aA x3 (o5 b3 cL cJ) be λ(_:Unit) aq=>
         bB (α:=x1->x2->Prop) (λ(cM:x1) (cN:x2)=>
         Q cM cN) λbJ=>
        J x3 (aC .eql eF false true bG (Δ 0)) aq λcO=>
        Split cO (J x3 (aY (Γ an)) aq λcP=>
        J x3 (x7 aG cP 6) aq λcQ=>
        J x3 (x6 b3 cQ) aq λcS=>
        J x3 (Y3 #[b3] ab #[cS]) aq λcT=>
        J x3 (aC .sub ab false true cT (Δ 1)) aq λcU=>
        J x3 (aC .eql ab false false bF cU) aq λcV=>
        bJ cV aq)
        (bJ (.bool false) aq)):=by
 have bM:=p.b8.2.2.2.1;have cX:=p.box.lt;have z0:=aI.size;have bh:=iQ p.b8;obtain⟨bN,_,⟨dF,aH⟩,dG,a1⟩:=id bx;have ax:∀r,w0.heap.size<=r->¬A r:=λr h bj=>by have:=bh r (.inl bj);omega
 have dH:(a.sc.take 4).length<=4:=by rw[o4];omega
 rw[ac aR.p rfl,ad (v:=az) Ψ (bN.Q6 rfl)];have dW:=p.ext aI;refine (LO (sc:=a.sc.take 4) dW.b8 aH.ls (λr I=>ax r (a1 r (.inr I))) ce ⟨ax g bC.1,ax a7 bC.2,λr I=>ax r (aX r I).1⟩ Ω cg Ω Ω Ω).mono ?_;rintro v U _ ⟨cY,c0⟩;by_cases aN:kd n s (a.sc.take 4) L
 rotate_left
 .obtain⟨rfl,a2⟩:=cY aN;rw[aK (v:=Δ 0) rfl,aK (v:=Δ 1) rfl];intro V Y _ _;have bO:=(aI.trans a2).trans Y;rw[ay];refine (p.ext bO).look.load λc1 bm=>?_;rw[ac aR.p rfl,ad (v:=az) Ψ ((bN.ext (a2.trans Y)).Q6 rfl)];refine (BW bm bM (aH.ls.ext (a2.trans Y)) (aJ.ls.ext (a2.trans Y))).mono ?_;rintro _ bP _ ⟨⟨b,rfl,bn⟩,bp⟩;rw[bf,bD];refine⟨λ_=>?_,λc2=>absurd (bn.1 (by simpa using c2)) aN⟩;refine aQ (λv a6=>v= .bool true/\bP=a6) ?_ λc4 bq=>?_
  .rintro _ a6 ⟨rfl,rfl⟩;exact ch aN _ (bO.trans bp)
  .rw[bk,ae];refine⟨λ_=>?_,λh=>absurd rfl h⟩;rw[bk];exact bq _ _ ⟨rfl,rfl⟩
 obtain⟨rfl,bQ,bR,R',ap,c5,dI,br⟩:=c0 aN;rw[aK (v:=Δ (s.funs.length:Int)) rfl,aK (v:=Δ 0) rfl];have dJ:=ap.1.size;have dK:=λr (I:leads X r)=>(bA aJ I);have c6:∀r,w0.heap.size<=r->r<w.heap.size->¬bR r:=λr h1 W bj=>(ap.2.1 r bj).elim (ax r h1) λh=>Ω
 have c7:=(p.olds.ext aI).prog (B:=w0.heap.size) bQ ap c5 ((ds.eX p.gG (1::C) _).set) (λr I=>(br r I).imp id λh=>h.elim (λh=>(aX r h).1) λh=>Ω) (λq r h _=>h.2) cX;intro V Y _ _;have bS:=c7.ext Y;have bT:=(bx.aa ap.1 λr _ h=>bh r (.inl h)).ext Y;have bU:=(bc aH ap.1 λr I=>ax r (a1 r (.inr I))).ext Y;have bV:=(bc aJ ap.1 λr I=>ax r (a8 r I)).ext Y;have c8:=(bc aj ap.1 λr I=>by obtain⟨e,_⟩:=bA aj I;rw[e];exact ax _ bz).ext Y;have c9:=(cc.aa ap.1 (ax aU cd)).ext Y;rw[ay];refine bS.look.load λc1 bm=>?_;rw[ac aR.p rfl,ad (v:=az) Ψ (bT.cZ.Q6 rfl)];refine (BW bm bM bU.ls bV.ls).mono ?_;rintro _ bP _ ⟨⟨b,rfl,bn⟩,bp⟩;rw[bn.2 aN,bf,bD];refine⟨λh=>by simp at h,λ_=>?_⟩;intro a6 da _ _;have aB:=bp.trans da;have dL:=Y.size;have z4:=aB.size;have bW:=bU.ext aB;have bX:=bV.ext aB;have db:=c8.ext aB;have dc:=c9.ext aB;have dd:=bT.ext aB;have de:∀r,leads az r->w0.heap.size<=r/\r<w.heap.size:=λr I=>⟨a1 r (.inr I),by obtain⟨e,h⟩:=bA aH I;omega⟩;have bt:=(bS.ext aB).reads (R9':=λr=>aP r\/leads az r\/leads X r) (λr h=>.inl h) λr I=>by
  rcases I with I|I|I
  .exact .inl I
  .obtain⟨c,aj⟩:=js bW r I;have:=de r I;exact .inr ⟨pQ aj Φ,aj.lt,Ω,λq h=>by have:=h.1.2;omega⟩
  .obtain⟨c,aj⟩:=js bX r I;have:=a8 r I;exact .inr ⟨pQ aj Φ,aj.lt,Ω,λq h=>by have:=h.1.2;omega⟩
 obtain⟨df,bY⟩:=bt.doc.at 6 Ω;simp only[ay];rw[ac aG.p rfl,ad (v:=df) Ψ (bt.box.Q6 bY),ac aR.p rfl,ad (v:=az) Ψ (dd.cZ.Q6 rfl),ac dD.p rfl,ad (v:=aL) Ψ (dc.Q2 rfl),
  cW (cs:=#[az,X,aL]) (by obtain⟨_,_,_,rfl⟩:=bZ aH.ls;obtain⟨_,_,_,rfl⟩:=bZ aJ.ls;obtain⟨_,_,_,rfl⟩:=bZ aj.ls;kernel_rfl),
  cW (cs:=#[az,X,aL,.bool true]) (by obtain⟨_,_,_,rfl⟩:=bZ aH.ls;obtain⟨_,_,_,rfl⟩:=bZ aJ.ls;obtain⟨_,_,_,rfl⟩:=bZ aj.ls;kernel_rfl)]
 let f:et:=⟨a.sc.take 4,L,1,C⟩;have own:bi (α:=fG) (λr=>leads aL r) (λr=>aP r\/leads az r\/leads X r) a6 [az,X,aL,.bool true] (ei f):=
  ⟨[az,X,aL],[.bool true],λr=>leads aL r,λ_=>False,rfl,λ_ h=>h,λ_ h=>h.elim,λ_ _ _ h=>h,⟨[az],[X,aL],λ_=>False,λr=>leads aL r,rfl,λ_ h=>h.elim,λ_ h=>h,λ_ _ h=>h.elim,kL bW λr h=>.inr (.inl h),[X],[aL],λ_=>False,λr=>leads aL r,rfl,λ_ h=>h.elim,λ_ h=>h,λ_ _ h=>h.elim,kL bX λr h=>.inr (.inr h),lJ db⟩,rfl⟩
 refine gN b3.u b0.i Φ rfl own λdM b1 aO _ dh=>?_;refine⟨.inl aO,?_⟩;have z5:=aO.size;have b2:∀r,leads aL r->r=aV/\r<w.heap.size:=λr I=>by obtain⟨e,h⟩:=bA aj I;omega
 have b4:∀ {v:x1} {di:Nat} {l:Λ},au .i64 ab w di v l-> ∀r,leads v r->¬leads aL r:=λhm r h1 W=>by
  obtain⟨dN,dj⟩:=js hm r h1;obtain⟨dO,dk⟩:=js aj r W;exact absurd (dP dj dk) Φ
 refine LP (bt.ext aO) (λq r h=>by have:=h.1.2;omega) bY dh (bg own aO) (λr I=>?_) cb λbL bo dl b5 bu dm=>?_
 .obtain⟨rfl,dn⟩:=b2 r I;refine⟨c6 r bz dn,λW=>?_,Ω,λW=>?_,λq W=>by have:=W.1.2;omega⟩
  .rcases br r W with W|W|W
   .have:=bh r (.inr W);omega
   .exact (aX r W).2 rfl
   .omega
  .rcases W with W|W|W
   .have:=(p.read r W).2.1;omega
   .exact b4 aH r W I
   .exact b4 aJ r W I
 refine aQ (λv b6=>v= .bool true/\dl=b6) ?_ λc4 bq=>?_
 .rintro _ b6 ⟨rfl,rfl⟩;have dp:=pG t (1::C) (1::C).length;have dq:=pH t (1::C) (1::C).length;have dr:=mK t (1::C) (1::C).length;simp only[j5] at dp dq;obtain⟨dt,du,b7⟩:=pY (t:=hr t (1::C)) (i:=1) (x:=((s.funs.length+1:Nat):Int));have dv:ag (λr=>A r\/(∃q,A9 q r)\/r=an) w0 b1:=(((aI.aa _).trans (ap.1.mono λr _ h=>.inl h)).trans (Y.aa _)).trans ((aB.trans aO).aa _);have dw:ag (λr=>dg w0 r\/(∃q,A9 q r)\/r=an) w0 b1:=((vm (aI.aa _) bQ).trans (Y.aa _)).trans ((aB.trans aO).aa _);refine ci aN _ ⟨bR,R',bL,_,_,bo,bu,dv.trans (b5.mono λr _ h=>.inr (h.imp (λh=>⟨3,h.1.1⟩) id)),λr I=>(ap.2.1 r I).imp id λh=>Ω,λr I=>(br r I).imp id λh=>h.elim (λh=>(aX r h).1) λh=>Ω,λr I=>.inl I,λr I=>?_,λq r I=>?_,?_,?_,?_,dw.trans (b5.mono λr _ h=>.inr (h.imp (λh=>⟨3,h.1.1⟩) id)),(aD.n8 _ _ _).trans (uL t (1::C) _)⟩
  .rcases I with I|I|I
   .exact .inl I
   .exact .inr (a1 r (.inr I))
   .exact .inr (a8 r I)
  .rcases dm q r I with W|W|W
   .exact .inl ⟨q,W.1.1⟩
   .have:=b2 r W;exact .inr Ω
   .exact .inr Ω
  .exact dt.trans dr
  .show (aD.set _ _ _).cells.length<=_;rw[du];unfold hr;simp only[j5];omega
  .show (aD.set _ _ _).olds.length<=_;unfold hr at b7 ⊢;simp only[j5] at b7 ⊢;omega
 .rw[bk,ae];refine⟨λ_=>?_,λh=>absurd rfl h⟩;obtain⟨av,dQ,dR,dS,dx,dT,dy,_,_,_,_,dz,_⟩:=id bu.doc;have b9:=bu.box;rw[dy] at b9;rw[ac aG.p rfl,ad (v:=dx) Ψ (b9.Q6 rfl),eP b3.u dz,c3];have e:(List.map ei ({s with funs:=s.funs++[f]}:aF).funs).length=s.funs.length+1:=Ξ
  rw[e,wrap_i64 Ω Ω,bk];refine bq _ _ ⟨?_,rfl⟩;congr 1;exact decide_eq_true Ω
end
open Classical in
noncomputable def lL (n:aV) (s:aF) (a:dh):aF:=if aM (ik n a)<=600/\kd n s (a.sc.take 4) (ik n a) then fV s (a.sc.take 4) (ik n a) (hL (ik n a) n.k a.co) else s
section
variable {w0 w:x2} {al ah an aW:Nat} {A R:aj} {A9:Nat->aj} {aP:aj} {n:aV} {s:aF} {t:aD} {h:List aD} {cs:List x1} {a:dh} {aE az ck:x1} {Q:x1->x2->Prop}
theorem LX (p:bK w0 al ah an A R A9 aP n s s t h cs) (cn:t.cells.length+700<=100000000) (cp:t.olds.length+700<=100000000) (cq:s.funs.length<=1000) (bJ:a.ok) (bg:Ext w0 w) (bh:dV w aW n.k a aE az ck w0.heap.size) (cr:aJ .u16 w ck a.co) (bi:∀w',iR w0 al ah an A R A9 aP n (lL n s a) t h w'->Q (.bool true) w'):
     aA x3 (Z7 ai 0 #[]) w λct a2=>
      J x3 (x7 aR (Γ aW) 6) a2 λcu=>
      J x3 (x6 ai cu) a2 λbL=>
      J x3 (Y3 #[ai] ab #[bL]) a2 λcw=>
      bE ct (Δ 0) a2 λsizes bj W k=>
       J x3 (aC .lss ab false false bj cw) W λcA=>
       Split cA (bB (α:=x1->x2->Prop) (λ(cB:x1) (bM:x2)=>
        J x3 (aC .add ab false true bj (Δ 1)) bM λcC=>
        k cB cC bM) λbN=>
       J x3 (n0 ai bL bj) W λcD=>
       J x3 (x6 ab cD) W λbO=>
       J x3 (aY (Γ an)) W λcE=>
       J x3 (x6 aG cE) W λcF=>
       ak x3 nh [cF,bO] W λcG ax=>
       Split cG (J x3 (aY (Γ an)) ax λcH=>
       J x3 (x7 aG cH 1) ax λcI=>
       J x3 (x6 ai cI) ax λcJ=>
       J x3 (n0 ai cJ bO) ax λcK=>
       J x3 (x6 ab cK) ax λcL=>
       aA x3 (Z7 ai 1 #[(0,cL)]) ax λcM cN=>
       aA x3 (l9 #[ai,ai] ai #[sizes,cM]) cN λcO cP=>
       bN cO cP)
       (bN sizes ax))
       (bB (α:=x2->Prop) (λ(cQ:x2)=>
       ak x3 wZ [sizes] cQ λcR bk=>
       J x3 (aC .gtr ab false true cR (Δ 600)) bk λcS=>
       Split cS (Q (.bool true) bk)
       (bB (α:=x1->x2->Prop) (λ(y:x1) (a6:x2)=>
        J x3 (aY (Γ an)) a6 λcT=>
        J x3 (x7 aG cT 0) a6 λcU=>
        J x3 (x6 ao cU) a6 λcV=>
        ak x3 sY [sizes,cV,(Δ 0)] a6 λbQ bm=>
        J x3 (Z9 bQ 0) bm λbS=>
        J x3 (Z9 bQ 1) bm λes=>
        ak x3 sZ [sizes] bm λbT bU=>
        J x3 (Y3 #[cz] ab #[bT]) bU λcW=>
        bP (Δ 0) bU λa7 aa cX=>
         J x3 (aC .lss ab false false a7 cW) aa λcY=>
         Split cY (J x3 (n0 cz bT a7) aa λc0=>
         J x3 (x6 ai c0) aa λc1=>
         J x3 (x7 dD y 2) aa λc2=>
         J x3 (x6 aw c2) aa λc3=>
         J x3 (n0 aw c3 a7) aa λc4=>
         J x3 (x6 ao c4) aa λc5=>
         ak x3 s3 [bS,c1,c5] aa λet bV=>
         J x3 (aC .add ab false true a7 (Δ 1)) bV λc6=>
         cX c6 bV)
         (J x3 (x7 aR (Γ aW) 6) aa λc7=>
        J x3 (x6 ai c7) aa λc8=>
        ak x3 sV [Γ al,c8,bS] aa λbW bn=>
        J x3 (Z9 bW 0) bn λbX=>
        J x3 (Z9 bW 1) bn λbY=>
        cm bn λaN=>
        J x3 (aY (Γ an)) aN λc9=>
        J x3 (x6 aG c9) aN λda=>
        J x3 (x7 aR (Γ aW) 6) aN λdb=>
        J x3 (x6 ai db) aN λdc=>
        ak x3 s4 [da,dc,sizes] aN λdd aI=>
        J x3 (Op.unary .not dd) aI λde=>
        Split de (bB (α:=x1->x2->Prop) (λ(df:x1) (dg:x2)=>
         Q df dg) λbZ=>
        J x3 (aC .eql eF false true bY (Δ 1)) aI λdh=>
        Split dh (J x3 (aC .eql ab false true bX (Δ 0)) aI λdi=>
        bZ di aI)
         (bZ (.bool false) aI))
        (cm aI λag=>
        J x3 (aY (Γ an)) ag λbo=>
        J x3 (x7 aG bo 6) ag λbq=>
        J x3 (x6 b3 bq) ag λb1=>
        J x3 (x7 aR (Γ aW) 6) ag λdj=>
        J x3 (x6 ai dj) ag λdk=>
        J x3 (x7 dD y 2) ag λdl=>
        J x3 (x6 aw dl) ag λdm=>
        J x3 (Instr.build aZ #[(0,dk),(1,sizes),(2,dm)]) ag λdn=>
        J x3 (Instr.build b0 #[(0,dn),(1,(.bool true))]) ag λdp=>
        aA x3 (Z7 b3 1 #[(0,dp)]) ag λdq aO=>
        (Ext ag aO\/bl x3 (x6 b3 bq) b1 aO/\bl x3 (x7 aG bo 6) bq aO/\bl x3 (aY (Γ an)) bo aO/\True)/\
        aA x3 (l9 #[b3,b3] b3 #[b1,dq]) aO λdr br=>
         J x3 (aY (Γ an)) br λds=>
         J x3 (x7 aG ds 6) br λdt=>
         aA x3 (o5 b3 dt dr) br λ(_:Unit) aj=>
         bB (α:=x1->x2->Prop) (λ(du:x1) (dv:x2)=>
         Q du dv) λb2=>
        J x3 (aC .eql eF false true bY (Δ 0)) aj λdw=>
        Split dw (J x3 (aY (Γ an)) aj λdx=>
        J x3 (x7 aG dx 6) aj λdy=>
        J x3 (x6 b3 dy) aj λdz=>
        J x3 (Y3 #[b3] ab #[dz]) aj λdA=>
        J x3 (aC .sub ab false true dA (Δ 1)) aj λdC=>
        J x3 (aC .eql ab false false bX dC) aj λdE=>
        b2 dE aj)
        (b2 (.bool false) aj)))) λb4=>
       cm bk λam=>
       J x3 (aY (Γ an)) am λaS=>
       J x3 (x7 aG aS 0) am λaT=>
       J x3 (x6 ao aT) am λa8=>
       J x3 (x7 aR (Γ aW) 7) am λaU=>
       J x3 (x6 lf aU) am λba=>
       (ak x3 sX [sizes,a8,ba] am λdF dG=>
       aA x3 (S7 dD true (.tuple #[])) dG λb5 aB=>
        (Ext am aB\/bl x3 (x6 lf aU) ba aB/\bl x3 (x7 aR (Γ aW) 7) aU aB/\bl x3 (x6 ao aT) a8 aB/\bl x3 (x7 aG aS 0) aT aB/\bl x3 (aY (Γ an)) aS aB/\True)/\
       aA x3 (o5 dD b5 dF) aB λ(_:Unit) dH=>
        b4 b5 dH)/\
       (aA x3 (S7 dD true (.tuple #[])) am λb6 aD=>
       (Ext am aD\/bl x3 (x6 lf aU) ba aD/\bl x3 (x7 aR (Γ aW) 7) aU aD/\bl x3 (x6 ao aT) a8 aD/\bl x3 (x7 aG aS 0) aT aD/\bl x3 (aY (Γ an)) aS aD/\True)/\
       ak x3 sX [sizes,a8,ba] aD λdI dJ=>
        aA x3 (o5 dD b6 dI) dJ λ(_:Unit) dK=>
        b4 b6 dK))) λb7=>
      bB (α:=x1->x2->Prop) (λ(dL:x1) (aF:x2)=>
       Split dL (J x3 (n0 ai sizes (Δ 0)) aF λdM=>
       J x3 (x6 ab dM) aF λdN=>
       J x3 (aC .rem ab false true dN (Δ 3)) aF λdO=>
       J x3 (aC .add ab true false (Δ 1) dO) aF λdP=>
       J x3 (n0 ai sizes (Δ 0)) aF λdQ=>
       aA x3 (o5 ab dQ dP) aF λ(_:Unit) dR=>
       b7 dR)
       (b7 aF)) λb9=>
      J x3 (Y3 #[ai] ab #[sizes]) W λdS=>
      J x3 (aC .gtr ab false true dS (Δ 0)) W λdT=>
      Split dT (J x3 (x7 aR (Γ aW) 2) W λdU=>
      J x3 (x6 ab dU) W λdX=>
      J x3 (aC .rem ab false true dX (Δ 5)) W λdY=>
      J x3 (aC .eql ab false true dY (Δ 0)) W λdZ=>
      b9 dZ W)
      (b9 (.bool false) W)):=by
 have ca:=p.b8.2.2.2.1;have cb:=ca.eu.2.2;have ea:=ca.jZ;have dW:=p.ext bg;have z0:=bg.size;have aK:=LU (a:=a) cb;refine LV dW.look cb bh λbb ev U bt bu eb=>?_;have ec:=bg.trans bt;refine (tm bu.ls aK).mono ?_;rintro _ V _ ⟨rfl,bd⟩;have bw:=ec.trans bd;have bx:=bt.trans bd;have bz:=bu.ext bd;rw[bR,ae];refine⟨λew=>bi _ ?_,λed=>?_⟩
 .unfold lL;rw[if_neg λh=>Ω];exact kc p bw
 obtain⟨L,bC⟩:∃L,L=ik n a:=⟨_,rfl⟩;rw[<-bC] at aK ed bz;have ey:=prod_bound aK;have bD:=p.box;obtain⟨av,ez,eA,eB,eC,eD,ee,_⟩:=p.BQ;rw[ee] at bD;refine aQ (λy aV=>∃X aL aH,y=Γ X/\Ext V aV/\af aV X dD [bb,Δ n.k,aL]/\au .i64 ao aV aH aL (hL L n.k a.co)/\V.heap.size<=X/\V.heap.size<=aH) ?_ ?_
 rotate_left
 .intro eE cc aV Y _ _;have be:=bw.trans Y;have aX:=bz.ext Y;have cd:=cr.ext (bx.trans Y);rw[ay,ac aG.p rfl,ad (v:=Δ n.k) Ψ ((bD.ext be).Q0 rfl),ac aR.p rfl,ad (v:=ck) Ψ ((bh.ext (bx.trans Y)).cZ.cell (o:=0+7) rfl)];have z3:=Y.size;have ce:∀ {aL:x1},aL.oneCell'=true-> ∀u∈[bb,Δ n.k,aL],u.oneCell'=true:=λap u hu=>by
   simp at hu;rcases hu with rfl|rfl|rfl
   .exact bu.ls.cells.2
   .rfl
   .exact ap
  refine⟨?_,?_⟩
  .refine (y8 aX.ls aK cd bJ.2.2.2.2.2.2.2 Ω).mono ?_;rintro _ cg _ ⟨I,aH,aL,rfl,ch,ap⟩;refine bp dD.i λX ef ci aM bf=>?_;have z4:=I.size;refine⟨.inl (I.trans aM),?_⟩;refine bH (vs:=[bb,Δ n.k,aL]) dD.i rfl rfl (ce ap.ls.cells.2) bf λeg a1 eh bF=>?_;refine cc _ _ ⟨X,aL,aH,rfl,((Y.trans I).trans aM).then a1 λr aq he=>by have he:r=X:=he;omega,bF,bc (ap.ext aM) a1 λr aq he=>?_,Ω,Ω⟩;have he:r=X:=he;obtain⟨ei,ej⟩:=bA ap aq;omega
  .refine bp dD.i λX cg ci I bf=>?_;refine⟨.inl I,?_⟩;have z4:=I.size;have eH:=bf.lt;refine (y8 (aX.ls.ext I) aK (cd.ext I) bJ.2.2.2.2.2.2.2 Ω).mono ?_;rintro _ ef _ ⟨aM,aH,aL,rfl,ch,ap⟩;refine bH (vs:=[bb,Δ n.k,aL]) dD.i rfl rfl (ce ap.ls.cells.2) (bf.ext aM) λeg a1 eh bF=>?_;refine cc _ _ ⟨X,aL,aH,rfl,((Y.trans I).trans aM).then a1 λr aq he=>by have he:r=X:=he;omega,bF,bc ap a1 λr aq he=>?_,Ω,Ω⟩;have he:r=X:=he;obtain⟨ei,ej⟩:=bA ap aq;omega
 rintro _ aV ⟨X,aL,aH,rfl,Y,cj,bG,ci,ch⟩;have be:=bw.trans Y;have aX:=bz.ext Y;refine LR aX aK Ω ea cj bG (bD.ext be) rfl λcg g eI eJ I ek eK eL em=>?_;have eM:=bt.size;have eN:=bd.size;have z3:=Y.size;have en:=be.trans I;have eo:(hL L n.k a.co).length<=600:=by rw[rh];omega
 have eO:=nY bG (by rw[rh];omega);refine LW p cn cp cq en (bh.ext ((bx.trans Y).trans I)) (aX.ext I) (λr aq=>by have:=eb r aq;omega) (cj.ext I) Ω (bG.ext I) Ω ek ⟨Ω,Ω⟩ (λr aq=>by have:=em r aq;omega) (λc cl=>?_) eo (λbI w' ep=>bi _ ?_) λbI w' er=>bi _ ?_
 .unfold hL at cl;obtain⟨i,_,rfl⟩:=Z1.1 cl;exact y7 Ω _
 .unfold lL;rw[<-bC,if_neg λh=>bI h.2];exact kc p ep
 .unfold lL;rw[<-bC,if_pos ⟨Ω,bI⟩];exact er
end
noncomputable def ht (n:aV) (s:aF) (a:dh):aF:=
 if a.d % 9=0 then mQ n s (b9 n.k a) else if a.d % 9=1 then lK n s a else if a.d % 9=2 then kY n s a else if a.d % 9=3 then mS n s a else if a.d % 9=4 then lL n s a else if a.d % 9=5 then mR s a else mU n s a
theorem lM {cx cy:Bool} {a b:Int} {A B:Prop} (I:a=b->A) (U:a≠b->B):J x3 (aC .eql t cx cy (.int k a) (.int k b)) w λv=>Split v A B:=by
 rw[bk,ae];exact⟨I,U⟩
section
variable {w0:x2} {al ah an:Nat} {A R:aj} {A9:Nat->aj} {aP:aj} {n:aV} {s:aF} {t:aD} {h:List aD} {cs:List x1} {a:dh} {bV df:x1} {Q:x1->x2->Prop}
end
theorem LY {n:aV} {s:aF} {a:dh}:(ht n s a).funs.length<=s.funs.length+1/\(ht n s a).elims.length<=s.elims.length+1:=by
 unfold ht mQ lK kY mS lL mR mU gX gH iO iS fV gq
 repeat' split
 all_goals first|(constructor<;>exact S6 _)|simp
def jv:Λ:=[116,32,50,32,50,32,49,32,57,32,50,32,50,10,50,32,48,32,49,32,48,32,49,10,49,32,49,32,53,10]
def fI:b2:=⟨[116],9,[2,2],[⟨[0,1],[2,2],0,[([1,1],5)]⟩]⟩
theorem LZ:fO jv=σ fI:=by
 have h:(match fO jv with
  |some f=>decide (f.name=fI.name/\f.k=fI.k/\f.sizes=fI.sizes)&&decide (f.funs.map (λx=>(x.scope,x.sizes,x.other,x.lines))=fI.funs.map λx=>(x.scope,x.sizes,x.other,x.lines))
  |none=>false)=true:=by decide+kernel
 cases U:fO jv with
 |none=>rw[U] at h;cases h
 |some f=>
  rw[U] at h;simp only[U4,decide_eq_true_eq] at h;obtain⟨⟨h1,V,W⟩,I⟩:=h;obtain⟨Y,k,aa,J⟩:=f;simp only at h1 V W I;subst h1;subst V;subst W;have:J=fI.funs:=by
   have X:J.length=1:=by have:=congrArg R4 I;simpa[fI] using this
   match J,X with
   |[x],_=>
    obtain⟨a,b,c,d⟩:=x;simp[fI] at I;obtain⟨rfl,rfl,rfl,rfl⟩:=I;rfl
  subst this;rfl
def r6 (s:aF) (a:Λ):Bool:=decide (a.length=s.vars.length)&&(s.vars.zip a).all λp=>decide (p.1.gone≠0\/(0<=p.2/\p.2<p.1.un.length))
theorem B4 {s:aF} {a:Λ}:r6 s a=true↔pD s a:=by
 unfold r6 pD;rw[U4,decide_eq_true_eq,List.all_eq_true];refine and_congr Iff.rfl ⟨λh i x v I J=>?_,λh p U=>?_⟩
 .have:=h (x,v) (Y7.2 ⟨i,by rw[List.getElem?_zip_eq_some];exact⟨I,J⟩⟩);exact of_decide_eq_true this
 .obtain⟨i,hi⟩:=Y7.1 U;obtain⟨x,v⟩:=p;rw[List.getElem?_zip_eq_some] at hi;exact decide_eq_true (h i x v hi.1 hi.2)
theorem L0:kM fI.funs<=16384:=by decide+kernel
theorem L1:ev (cb fI) 1 1:=by decide+kernel
theorem L2:r6 (gH (cV (cb fI)) 1 1) [1,1]=true:=by decide+kernel
theorem L3:r6 (gH (cV (cb fI)) 1 1) [1,0]=true:=by decide+kernel
theorem L4:n4 (cb fI).k (gH (cV (cb fI)) 1 1) [1,1]=9:=by decide+kernel
theorem L5:n4 (cb fI).k (gH (cV (cb fI)) 1 1) [1,0]=0:=by decide+kernel
theorem L6 {g n c:Nat} (J:af w g cv cs) (W:∀w',ag (λr=>r=g) w w'->(∀o vs,w.rangeAt g o vs->w'.rangeAt g o vs)->K (.slice (σ ⟨g,0,ν⟩) n c) w'):
  aA x3 (convert cB cB (.slice (σ ⟨g,0,ν⟩) n c)) w K:=by
 have V:∀r,(w.freeze ⟨g,cs.length,ν⟩ 1).heap[r]? =if g=r then (w.heap[r]?).map (λ| .cells c X (lo,hi)=>.cells c X (if lo == hi then (cs.length,cs.length+1) else (min lo cs.length,max hi (cs.length+1)))|o=>o) else w.heap[r]?:=λr=>by
  unfold x2.freeze;rw[if_neg Φ];exact Array.getElem?_modify
 have ae:(w.freeze ⟨g,cs.length,ν⟩ 1).heap.size=w.heap.size:=by
  unfold x2.freeze;rw[if_neg Φ];exact Array.size_modify
 have Y:w.shape? g=σ (cv,cs.length):=by
  unfold x2.shape?;unfold af at J;rw[J];simp
 have aa:(convert cB cB (.slice (σ ⟨g,0,ν⟩) n c)).run x3 w= .ok (.slice (σ ⟨g,0,ν⟩) n c) (w.freeze ⟨g,cs.length,ν⟩ 1):=by
  simp[convert,run_underlying cB.u,run_underlying cv.u,markStringish,Y]
 unfold af at J;refine .of aa ⟨by unfold x2.freeze;rw[if_neg Φ],.jx (by unfold x2.freeze;rw[if_neg Φ]) (by unfold x2.freeze;rw[if_neg Φ]),by unfold x2.freeze;rw[if_neg Φ],Ω,λr o U I=>?_⟩ (W _ ⟨Ω,λr o U _ ab=>?_⟩ λo vs ac j v ad=>?_)
 .rw[V];by_cases he:g=r
  .subst he;rw[J] at U;cases U;cases I
  .rw[if_neg he];exact U
 .rw[V,if_neg λhe=>ab he.symm];exact U
 .have h1:=ac j v ad;unfold x2.cell? at h1 ⊢;rw[V,if_pos rfl];rw[J] at h1 ⊢;exact h1
def vt (B:Nat) (w:x2) (I:x1) (cs:List x1) (f:b2):Prop:=∃al ah A R t N A9 aP,eQ N f/\I=Γ al/\b7 w al ah A R (cb f) (cV (cb f)) t/\Plain t/\(∀r,A r->B<=r)/\
 fp true A9 aP w cs (cb f).k (cb f).sizes (cV (cb f))/\(∀q r,A9 q r->¬A r/\¬R r/\B<=r)/\ ∀r,aP r->¬dg w r/\r<w.heap.size
def L7 (w:x2) (q:Λ) (v:x1) (w':x2):Prop:=Ext w w'/\ ∃I cs ok,v= .tuple #[I,.agg cs.toArray,.bool ok]/\(cs.length=8/\ ∀u∈cs,u.oneCell'=true)/\((ok=false/\I= .pointer ν)\/(ok=true/\ ∃f,fO q=σ f/\vt w.heap.size w' I cs f))/\ ∀f,fO q=σ f->kM f.funs<=16384->ok=true
theorem B5 {p:x1} {pl:Λ} (a7:aJ .u8 w p pl) (bn:Bytes pl) (bo:eR w):ak x3 C5 [p] w (L7 w (pl.take 300)):=by
 refine aB func12 ?_;refine bp aG.i λac U b2 aE az=>?_;have az:af U ac aG z12:=az;rw[aT cB.u (a7.ext aE),iv];refine tt (i:=min pl.length 300) Ω cB.u cv.i (a7.ext aE) Ω λb3 aF=>?_;have bq:pl.take (min pl.length 300)=pl.take 300:=by
  by_cases h:pl.length<=300
  .rw[T7 h,o9,l5 h]
  .rw[Nat.min_eq_right Ω]
 rw[bq] at aF;have aA:Bytes (pl.take 300):=λb I=>bn b (U3 I);have br:(pl.take 300).length<=300:=by rw[o4];omega
 generalize pl.take 300=q at aF aA br;refine (K9 aF Ω).mono ?_;rintro b4 V _ ⟨aH,b5,aI⟩;have a8:=aE.trans aH;refine (IW aI.ls aA Ω (bo.ext a8)).mono ?_;rintro b6 b8 _ ⟨ax,ad⟩;have ba:=a8.trans ax;cases ai:fO q with
 |none=>
  rw[ai] at ad;obtain⟨n,e,rfl,he⟩:=ad;rw[aK (v:=.pointer ν) rfl,aK (v:=Δ n) rfl,aK (v:=Δ e) rfl];refine (Bj (aI.ext ax).ls aA Ω).mono ?_;rintro bt aL _ ⟨ap,aM,aN,aO,_⟩;obtain rfl:=aO ai;rw[aK (v:=.pointer ν) rfl,aK (v:=Δ aM) rfl,aK (v:=Δ aN) rfl];refine aQ (λv ay=>v= .bool true/\Ext aL ay) ?_ ?_
  .rintro _ ay ⟨rfl,am⟩;rw[bQ,cW (cs:=#[Δ 0,.slice ν 0 0,Δ 0,.slice ν 0 0,.slice ν 0 0,.slice ν 0 0,.slice ν 0 0,.slice ν 0 0]) Ψ];obtain⟨_,_,J,ag⟩:=BF;refine bH (vs:=z12) aG.i rfl rfl (by intro u hu;simp[z12] at hu;rcases hu with rfl|rfl|rfl|rfl<;>rfl) ((((az.ext aH).ext ax).ext ap).ext am) λb9 bu ca bw=>?_;rw[eO aG.p aG.i rfl bw.range];refine⟨((ba.trans ap).trans am).then bu λr ad he=>by have he:r=ac:=he;omega,_,_,false,rfl,⟨rfl,(BF).elim λ_ h=>by obtain⟨_,_,h⟩:=h;exact λu hu=>by simp[z12] at hu;rcases hu with rfl|rfl|rfl|rfl<;>rfl⟩,.inl ⟨rfl,rfl⟩,λf bb=>?_⟩;rw[ai] at bb;cases bb
  .intro aR an;rw[bG,ae];exact⟨λ_=>an _ _ ⟨rfl,Ext.refl _⟩,λh=>absurd he h⟩
 |some f=>
  rw[ai] at ad;obtain⟨bx,n,rfl,bz⟩:=ad;obtain⟨N,bA,aq,bB,bC⟩:=K7 Ω ai;have au:=z8 aq;have aC:=vb aq;rw[aK (v:=Γ bx) rfl,aK (v:=Δ n) rfl,aK (v:=Δ 0) rfl];refine (Bj (aI.ext ax).ls aA Ω).mono ?_;rintro bt aL _ ⟨ap,aM,aN,_,aO⟩;obtain⟨bD,rfl,bE⟩:=aO f ai;rw[aK (v:=Γ bD) rfl,aK (v:=Δ aM) rfl,aK (v:=Δ aN) rfl];refine aQ (λv ay=>v= .bool false/\Ext aL ay) ?_ ?_
  rotate_left
  .intro aR an;rw[bG,ae];refine⟨λh=>absurd rfl h,λ_=>?_⟩;rw[cC tf.u];exact an _ _ ⟨rfl,Ext.refl _⟩
  rintro _ ay ⟨rfl,am⟩;rw[aS];have bF:=(ba.trans ap).trans am;refine (J1 ((bz.ext ap).ext am) aq bA ⟨bB,bC⟩).mono ?_;rintro cc cd _ ⟨aU,bI⟩;have aD:=bF.trans aU;have av:=((((az.ext aH).ext ax).ext ap).ext am).ext aU;have bc:=(bE.ext am).ext aU;have ce:=aD.size;have cg:w.heap.size<=ac:=Ω
  have ch:=av.lt;rcases bI with⟨bJ,e,he,rfl⟩|⟨bK,rfl,bL⟩
  .rw[aK (v:=.pointer ν) rfl,aK (v:=Δ e) rfl];refine K8.mono ?_;rintro _ bd _ ⟨rfl,W⟩;refine h4 (λaV t4 X=>aV= .pointer ν/\t4= .bool false/\Ext w X/\ ∃cs:List x1,af X ac aG cs/\cs.length=8/\ ∀u∈cs,u.oneCell'=true) ?_ ?_
   .rintro _ _ X ⟨rfl,rfl,aW,cs,aX,J,ag⟩;rw[eO aG.p aG.i J aX.range];exact⟨aW,_,cs,false,rfl,⟨J,ag⟩,.inl ⟨rfl,rfl⟩,λci be bM=>absurd bM (by rw[ai] at be;cases be;exact bJ)⟩
   .intro aR an;refine (Bs (bc.ext W) aq).mono ?_;rintro bN aY _ ⟨Y,aZ⟩;refine (BO (R:=λr=>∃c,af aY r ab c) (λr h=>h.elim λc I=>I.lt) (λr c I=>⟨c,I⟩) aZ au.1 aC).mono ?_;rintro bO bP _ ⟨aj,A9,cs,rfl,aw,a1⟩;obtain⟨J,ag⟩:=aw.len;rw[bk,ae];refine⟨λh=>absurd h he,λ_=>?_⟩;refine bH (vs:=cs) aG.i J rfl ag (((av.ext W).ext Y).ext aj) λbR ao bf a2=>?_;exact an _ _ _ ⟨rfl,rfl,(((aD.trans W).trans Y).trans aj).then ao λr ad he=>by have he:r=ac:=he;omega,cs,a2,J,ag⟩
  .rw[aK (v:=Γ bK) rfl,aK (v:=Δ 0) rfl];refine (Km bL au.1 aC).mono ?_;rintro _ bd _ ⟨W,al,ah,A,R,t,rfl,bS,bg,bh,bi⟩;have bj:b7 bd al ah A R (cb f) (cV (cb f)) t:=⟨bS,bg,BG au.1 aC bg bh,uF au.1,au.1⟩;refine h4 (λaV t4 X=>aV=Γ al/\t4= .bool true/\Ext w X/\ ∃cs:List x1,af X ac aG cs/\cs.length=8/\(∀u∈cs,u.oneCell'=true)/\ ∃R' A9 aP,b7 X al ah A R' (cb f) (cV (cb f)) t/\fp true A9 aP X cs (cb f).k (cb f).sizes (cV (cb f))/\(∀q r,A9 q r->¬A r/\¬R' r/\w.heap.size<=r)/\ ∀r,aP r->¬dg X r/\r<X.heap.size) ?_ ?_
   .rintro _ _ X ⟨rfl,rfl,aW,cs,aX,J,ag,R',A9,aP,bT,aw,bU,bV⟩;rw[eO aG.p aG.i J aX.range];exact⟨aW,_,cs,true,rfl,⟨J,ag⟩,.inr ⟨rfl,f,ai,al,ah,A,R',t,N,A9,aP,aq,rfl,bT,bh,λr ad=>by have:=bi r ad;omega,aw,bU,bV⟩,λ_ _ _=>rfl⟩
   .intro aR an;refine (Bs (bc.ext W) aq).mono ?_;rintro bN aY _ ⟨Y,aZ⟩;refine (BO (R:=λr=>∃c,af aY r ab c) (λr h=>h.elim λc I=>I.lt) (λr c I=>⟨c,I⟩) aZ au.1 aC).mono ?_;rintro bO bP _ ⟨aj,A9,cs,rfl,aw,a1⟩;obtain⟨J,ag⟩:=aw.len;rw[bk,ae];refine⟨λ_=>?_,λh=>absurd rfl h⟩;rw[xu dQ.u];have bl:=((av.ext W).ext Y).ext aj;have bW:=((aD.trans W).trans Y).trans aj;refine bH (vs:=cs) aG.i J rfl ag bl λbR ao bf a2=>?_;have bm:=(bj.ext Y).ext aj;obtain⟨R',bX,bY⟩:=bm.1.put bl ao λh=>by have:=bi ac h;omega
    have cj:=((aD.trans W).trans Y).size;have ck:=aj.size;obtain⟨_,_,_,_,⟨_,_,bZ,b0⟩,_⟩:=(bj.ext Y).1;have cl:=av.lt;have cm:=(W.trans Y).size;have b1:=aw.aa ao λr ad h he=>by
     have he:r=ac:=he;rcases h with⟨q,h⟩|⟨c,I⟩
     .have:=a1 q r h;omega
     .subst he;exact absurd (dP I (((av.ext W).ext Y))) Φ
    refine an _ _ _ ⟨rfl,rfl,bW.then ao λr ad he=>by have he:r=ac:=he;omega,cs,a2,J,ag,R',A9,_,⟨bY,bm.2⟩,b1,λq r h=>?_,λr h=>?_⟩
    .have cn:=a1 q r h;refine⟨λa6=>by have:=b0 r a6;omega,λa6=>by have:=bZ r (bX r a6).1;omega,Ω⟩
    .obtain⟨c,I⟩:=h;have cp:=I.lt;have bf:=ao.size;refine⟨pQ ((I.ext aj).aa ao λhe=>?_) Φ,Ω⟩;have he:r=ac:=he;subst he;exact absurd (dP I (((av.ext W).ext Y))) Φ
abbrev oo:Type:=c4 .u8×Int×Int×Int×Int×Λ×Λ×List (c4 .u16)×Bool
def oq (x:oo):dh:=⟨x.1.val,x.2.1,x.2.2.1,x.2.2.2.1,x.2.2.2.2.1,x.2.2.2.2.2.1,x.2.2.2.2.2.2.1,x.2.2.2.2.2.2.2.1,x.2.2.2.2.2.2.2.2⟩
theorem L8 {m:Bool} {R:aj} {F:Nat->aj} {vs:List (List x1)} {l:List (c4 k)} (h:kC m R F w vs l):vs.flatten=ints k l:=by
 have:vs=l.map λx:c4 k=>[V4 k x]:=by
  apply List.ext_getElem
  .simp[h.1]
  .intro i h1 I;have J:i<l.length:=by simpa using I
   have:=h.2 i _ _ (y0 h1) (y0 J);rw[List.getElem_map];exact this
 subst this;clear h;induction l with
 |nil=>rfl
 |cons x l U=>simp only[S3,List.flatten_cons,U];rfl
theorem L9 {m:Bool} {S R:aj} {l:List (c4 k)} (h:am.rep m S R w [v] l):aJ k w v l:=by
 obtain⟨vs,g,F,_,he,I,_⟩:=gb h;have:=I.sl;rw[L8 he] at this;exact this
theorem Ma {R:aj} {x:oo} (h:Seen R w cs x) (ad:(oq x).ok):cs.length=9/\cs[0]? =σ (.int .u8 (oq x).d)/\(∀u∈cs,u.oneCell'=true)/\pX w (.agg cs.toArray) (oq x):=by
 refine⟨am.len h,?_,am.one h,ad,?_⟩
 .obtain⟨J,_,_,_,rfl,_,_,_,I,_⟩:=h;have I:J=[.int .u8 x.1]:=I;subst I;rfl
 obtain⟨J,_,_,_,rfl,_,_,_,I,ae,_,_,_,rfl,_,_,_,U,af,_,_,_,rfl,_,_,_,V,ag,_,_,_,rfl,_,_,_,W,ah,_,_,_,rfl,_,_,_,X,ao,_,_,_,rfl,_,_,_,aa,ap,_,_,_,rfl,_,_,_,ab,aq,ai,_,_,rfl,_,_,_,ac,Y⟩:=h;have I:J=[.int .u8 x.1]:=I;have U:ae=[Δ x.2.1]:=U;have V:af=[Δ x.2.2.1]:=V;have W:ag=[Δ x.2.2.2.1]:=W;have X:ah=[Δ x.2.2.2.2.1]:=X;have Y:ai=[.bool x.2.2.2.2.2.2.2.2]:=Y;obtain⟨ak,rfl⟩:=X9.1 (am.len aa);obtain⟨al,rfl⟩:=X9.1 (am.len ab);obtain⟨an,rfl⟩:=X9.1 (am.len ac);subst I U V W X Y;exact⟨ak,al,an,rfl,dZ aa,dZ ab,L9 ac⟩
theorem Mb {B:Nat} {V X:x2} {an:Nat} {ae:x1} {f:b2} (ai:vt B V ae cs f) (J:Ext V X) (aj:af X an aG cs) (ap:V.heap.size<=an):
  ∃al ah A R A9 aP t,ae=Γ al/\bK X al ah an A R A9 aP (cb f) (cV (cb f)) (cV (cb f)) t [] cs/\t.marks=[]/\(∀r,A r->B<=r)/\(∀q r,A9 q r->B<=r)/\t.cells.length<=2000000/\t.olds.length=0/\(cb f).funs.length<=256/\t.ever=0:=by
 obtain⟨al,ah,A,R,t,N,A9,aP,Y,rfl,aa,U,ak,am,ab,ac⟩:=ai;have ag:=iQ aa;have z:=J.size;have W:=(rX (z8 Y).1 (vb Y) (cb f).unary.length (cb f).funs.length);rw[uM,<-aa.2.1] at W;unfold aD.bT at W;rw[u4] at W;refine⟨al,ah,A,R,λq r=>A9 q r/\r<V.heap.size,aP,t,rfl,⟨aa.ext J,U.2.2.1,aj,am.old.ext J,λq r h=>⟨(ab q r h.1).1,(ab q r h.1).2.1,by have:=h.2;omega⟩,λr ad=>⟨λh=>(ac r ad).1 (lD (λo ao I _=>J.a7 r o ao I) h),by have:=(ac r ad).2;omega,by have:=(ac r ad).2;omega⟩,λh=>by have:=ag an (.inl h);omega,λh=>by have:=ag an (.inr h);omega⟩,U.1,ak,λq r h=>(ab q r h.1).2.2,W,by rw[U.2.1];rfl,vb Y,U.2.2.2⟩
theorem Mc (az:eR w):ak x3 C4 [] w λv w'=>v= .bool true/\Ext w w':=by
 refine aB func11 ?_;refine iw (k:=1) (cs:=(ints .u8 jv).toArray) cB.u cv.i Ω Ψ λg U bm I W=>?_;have af:au .u8 cv U g (.slice (σ ⟨g,0,ν⟩) 30 30) jv:=au.of (n:=30) (bU.full (by simpa using W) (by simp[jv]) (by simp[maxLen]));refine L6 W λX ag aj=>?_;have I:Ext w X:=I.then ag λr am he=>by have he:r=g:=he;omega
 have aA:aJ .u8 X (.slice (σ ⟨g,0,ν⟩) 30 30) jv:=by
  obtain⟨aC,b,o,base,cap,aD,aE,aF,aH,aI⟩:=af.ls;cases aD;cases aH (by simp[jv]);exact⟨aC,g,0,_,30,rfl,aE,aF,λ_=>rfl,aj _ _ aI⟩
 clear af W aj ag;refine (B5 aA (by intro b aL;simp[jv] at aL;omega) (az.ext I)).mono ?_;rintro _ V _ ⟨aM,aN,cs,ok,rfl,⟨aO,aR⟩,aT,aU⟩;have ao:fO (jv.take 300)=σ fI:=by
  rw[l5 Φ];exact LZ
 have aV:ok=true:=aU fI ao L0;subst aV;obtain⟨f,ap,al,ah,A,R,t,N,A9,aP,bn,rfl,aW,aX,aY,_⟩:∃f,fO (jv.take 300)=σ f/\vt X.heap.size V aN cs f:=by
  rcases aT with⟨h,_⟩|⟨_,h⟩
  .cases h
  .exact h
 rw[ao] at ap;cases ap;have aZ:=I.trans aM;rw[aK (v:=Γ al) rfl,aK (v:=.agg cs.toArray) rfl,aK (v:=.bool true) rfl];refine bp aG.i λan bo bq a1 a2=>?_;refine bH (vs:=cs) aG.i aO rfl aR a2 λa6 a7 br bt=>?_;have aq:Ext V a6:=a1.then a7 λr am he=>by have he:r=an:=he;omega
 have a8:=aW.ext aq;refine aQ (λv Y=>v= .bool false/\Ext w Y/\ ∃J av,b7 Y al ah J R (cb fI) (gH (cV (cb fI)) 1 1) av) ?_ ?_
 rotate_left
 .intro ba aa;rw[bf,Y1,aS];refine (va (i:=1) (v:=1) a8 (.inl aX.1)).mono ?_;rintro bu bw _ ⟨_,bb⟩;obtain⟨rfl,bx,J,x,bc,bd⟩:=bb L1;rw[bG];refine aa _ _ ⟨by congr 1,?_,J,_,bd⟩;exact (aZ.trans aq).then bc.1 λr am h=>by have:=aY r h;have:=I.size;omega
 rintro _ Y ⟨rfl,be,J,av,aw⟩;rw[aS];refine ny (l:=[1,1]) ai.u ab.i Ω rfl Ψ λbz bA bB bC ac bg=>?_;refine (BB (aw.ext ac) bg.ls).mono ?_;rintro _ bD _ ⟨⟨ad,_⟩,ax⟩;obtain rfl:=ad (B4.1 L2);rw[L4,aK (v:=Δ 9) rfl,aK (v:=Δ 0) rfl];refine ny (l:=[1,0]) ai.u ab.i Ω rfl Ψ λbE bF bI bJ ay bh=>?_;refine (BB (((aw.ext ac).ext ax).ext ay) bh.ls).mono ?_;rintro _ bK _ ⟨⟨ad,_⟩,bi⟩;obtain rfl:=ad (B4.1 L3);rw[L5,aK (v:=Δ 0) rfl,aK (v:=Δ 0) rfl];have bj:=(((be.trans ac).trans ax).trans ay).trans bi;refine aQ (λv bl=>v= .bool true/\Ext w bl) (λ_ _ h=>h) λba aa=>?_;rw[bk,ae];refine⟨λ_=>?_,λh=>absurd rfl h⟩;rw[bk,ae];refine⟨λ_=>?_,λh=>absurd rfl h⟩;rw[bk,ae];refine⟨λ_=>?_,λh=>absurd rfl h⟩;rw[bk];exact aa _ _ ⟨rfl,bj⟩
section
variable {w0 w:x2} {al ah an:Nat} {n:aV} {Q:x1->x2->Prop}
end
theorem Md {x:oo} (h:(o6.u8.min<=x.1.val/\x.1.val<=o6.u8.max)/\(Y6.min<=x.2.1/\x.2.1<=Y6.max)/\(Y6.min<=x.2.2.1/\x.2.2.1<=Y6.max)/\(Y6.min<=x.2.2.2.1/\x.2.2.2.1<=Y6.max)/\(Y6.min<=x.2.2.2.2.1/\x.2.2.2.2.1<=Y6.max)/\
  (∀a∈x.2.2.2.2.2.1,Y6.min<=a/\a<=Y6.max)/\(∀a∈x.2.2.2.2.2.2.1,Y6.min<=a/\a<=Y6.max)/\(∀a∈x.2.2.2.2.2.2.2.1,o6.u16.min<=a.val/\a.val<=o6.u16.max)/\True):(oq x).ok:=by
 have aa:o6.u8.min=0:=Φ
 have ab:o6.u8.max=255:=Φ
 have ac:Y6.min= -9223372036854775808:=Φ
 have ad:Y6.max=9223372036854775807:=Φ
 have ae:o6.u16.min=0:=Φ
 have af:o6.u16.max=65535:=Φ
 rw[aa,ab,ac,ad,ae,af] at h;obtain⟨h1,J,U,V,W,X,Y,ag,_⟩:=h;exact⟨⟨h1.1,by have:=h1.2;show x.1.val<256;omega⟩,⟨J.1,by have:=J.2;show x.2.1<_;omega⟩,⟨U.1,by have:=U.2;show x.2.2.1<_;omega⟩,⟨V.1,by have:=V.2;show x.2.2.2.1<_;omega⟩,⟨W.1,by have:=W.2;show x.2.2.2.2.1<_;omega⟩,
  λy I=>⟨(X y I).1,by have:=(X y I).2;omega⟩,λy I=>⟨(Y y I).1,by have:=(Y y I).2;omega⟩,λy I=>by have h:0<=y/\y<=65535:=ag y I;omega⟩
theorem Me {A:aj} {t:aD} (h:cI w ah A t):ak x3 DF [Γ ah] w λv w'=>v=Δ (t.marks.length:Int)/\Ext w w':=by
 obtain⟨J,U,go,ba,aL,V,bV,h1,W,X,I,Y⟩:=h;refine aB func115 ?_;rw[cC i7.u];simp only[Z0,aS];rw[ay,ac cH.p rfl,ad (v:=bV) Ψ (h1.Q2 rfl),c9 hz.u I];exact⟨rfl,Ext.refl _⟩
theorem Mf {A:aj} {t:aD} (h:cI w ah A t) (aP:iI t) (be:t.ever<=1000000):ak x3 DM [Γ ah] w λv w'=>v=Δ (t.marks.length:Int)/\ ∃av,Grow A w av w'/\cI w' ah av t.mark:=by
 obtain⟨ao,aQ,go,ba,aL,X,bV,h1,aw,ax,az,ai⟩:=id h;obtain⟨bf,bg,bi⟩:=aP;obtain⟨⟨aR,aT,aA⟩,aU,aV⟩:=n2 h1 aw ax az;refine aB func123 ?_;rw[cC i7.u];simp only[Z0,aS];rw[ay,ac cH.p rfl,ad (v:=.int .u64 (t.ever:Int)) Ψ (h1.Q3 rfl),aN,wrap_u64 Ω Ω,ay,ac cH.p rfl];refine bh (o:=0+3) ew.i rfl rfl h1 Ξ λU Y bj ap=>?_;have ap:af U ah cH [aL,X,bV,.int .u64 ((t.ever:Int)+1)]:=ap;have ab:∀ {r:Nat},r=ah->¬(leadsTo aL r\/leadsTo X r\/leadsTo bV r):=λhe aI=>by
  subst he;rcases aI with h|h|h
  .exact aR h
  .exact aT h
  .exact aA h
 have aW:=aw.aa Y λr I he=>ab he (.inl I);have aX:=ax.aa Y λr I he=>ab he (.inr (.inl I));have aY:=az.aa Y λr I he=>ab he (.inr (.inr I));intro V W _ _;have ae:=ap.ext W;have aC:=aW.ext W;have aE:=aX.ext W;have aZ:=aY.ext W;rw[ay,ac cH.p rfl,ad (v:=bV) Ψ (ae.Q2 rfl),ay,ac cH.p rfl,ad (v:=X) Ψ (ae.Q1 rfl),c9 gv.u aE,ay,ac cH.p rfl,ad (v:=aL) Ψ (ae.Q0 rfl),c9 fN.u aC,
  ay,ac cH.p rfl,ad (v:=.int .u64 ((t.ever:Int)+1)) Ψ (ae.Q3 rfl),cW (cs:=#[Δ (t.olds.length:Int),Δ (t.cells.length:Int),.int .u64 ((t.ever:Int)+1)]) Ψ]
 let a:mn:=⟨t.olds.length,t.cells.length,t.ever+1⟩;have a1:∀u∈gU a,u.oneCell'=true:=by intro v aF;simp[gU] at aF;rcases aF with rfl|rfl|rfl<;>rfl
 refine fQ (f:=gU) (a:=a) hz.u dr.i Ω rfl rfl λv3 bk aG bl J a2=>?_;refine⟨.inl J,?_⟩;have a7:=ae.ext J;have a8:=aZ.ext J;refine gh (f:=gU) (a:=a) hz.u dr.i rfl a8 (by simpa using a2.sl) a1 Ω Ω λal aH bm am bb aJ=>?_;have aK:=a7.aa aJ λhe=>aA he;rw[ay,ac cH.p rfl];refine bh (o:=0+2) hz.i (cT am.sl).1 (cT am.sl).2 aK Ξ λaq aM bn an=>?_;have an:af aq ah cH [aL,X,al,.int .u64 ((t.ever:Int)+1)]:=an;have aO:a6 gU 3 dr aq aH al (t.marks++[a]):=am.aa aM λr I he=>by
  have he:r=ah:=he;subst he;exact cc am aK Φ I
 have au:ag (λr=>leadsTo bV r\/r=ah) aG aq:=(aJ.mono λr _ h=>.inl h).trans (aM.mono λr _ h=>.inr h);rw[ay,ac cH.p rfl,ad (v:=al) Ψ (an.Q2 rfl),c9 hz.u aO,u9,c3,wrap_i64 (by simp;try omega) (by simp;try omega)];have z3:=J.size;have bo:=W.size;have bp:=Y.size;have bc:=(aC.ext J).aa au λr I he=>he.elim (λhe=>(aU r I).2 he) λhe=>ab he (.inl I);have bd:=(aE.ext J).aa au λr I he=>he.elim (λhe=>(aV r I).2 he) λhe=>ab he (.inr (.inl I));refine⟨by congr 1;simp,λr=>A r\/aG.heap.size<=r,⟨?_,λr I=>I.imp id λh=>Ω,λr I=>.inl I⟩,.inl ao,aQ,go,aH,aL,X,al,an,bc,bd,aO,λr I=>?_⟩
 .exact ((Y.mono λr _ he=>by have he:r=ah:=he;rw[he];exact ao).trans ((W.trans J).aa _)).trans (au.mono λr _ h=>h.elim (λh=>ai r (.inr (.inr h))) λh=>by rw[h];exact ao)
 .rcases I with I|I|I
  .exact .inl (ai r (.inl I))
  .exact .inl (ai r (.inr (.inl I)))
  .rcases bb r I with h|h
   .exact .inl (ai r (.inr (.inr h)))
   .exact .inr h
theorem StateM.lE {A R:aj} {n:aV} {s:aF} {t:aD} (h:StateM w al ah A R n s t):∃I,cI w ah I t/\ ∀J w' U,Grow I w J w'->cI w' ah J U->ag (dg w) w w'/\ ∃V,Grow A w V w'/\StateM w' al ah V R n s U:=by
 obtain⟨W,X,Y,aa,ab⟩:=h;obtain⟨I,ac,ad⟩:=ab.lE;refine⟨I,ac,λJ w' U ae af=>?_⟩;obtain⟨h1,V,ai,ak⟩:=ad J w' U ae af;exact⟨h1,V,ai,W,X,Y,aa,ak⟩
section
variable {w:x2} {al ah:Nat} {A R:aj} {n:aV} {s:aF} {t:aD}
theorem Mg (h:b7 w al ah A R n s t) (hm:t.marks.length<1000) (V:t.ever<=1000000):ak x3 wP [Γ al] w λv w'=>v=Δ (t.marks.length:Int)/\ag (dg w) w w'/\ ∃I,Grow A w I w'/\b7 w' al ah I R n s t.mark:=by
 obtain⟨W,X,J,Y,aa⟩:=id h;obtain⟨aq,au,av,aw,ax,az,L,_,ab,_⟩:=h.1.parts;obtain⟨aA,ae,af⟩:=W.lE;refine aB func44 ?_;rw[cC dQ.u];simp only[Z0,aS];rw[ay,ac bt.p rfl,ad (v:=Γ ah) Ψ (ab.Q1 rfl)];refine (Mf ae J V).mono ?_;rintro _ U _ ⟨rfl,ai,aj,am⟩;obtain⟨an,I,ao,ap⟩:=af ai U _ aj am;refine⟨rfl,an,I,ao,ap,X,⟨J.1,J.2.1,?_⟩,Y,aa⟩;show (t.marks++_).length<=_;rw[u9];simp;omega
end
theorem bP.down {B:x1->x2->(x1->x2->Prop)->Prop} (n:Nat) (I:Nat->x2->Prop) (X:n<=1000000000000) (U:I 0 w)
  (V:∀ (q:Nat) (w:x2) (k:x1->x2->Prop),q<n->I q w->(∀w',I (q+1) w'->k (Δ (Y6.wrap (((n-1-q:Nat):Int)-1))) w')->B (Δ ((n-1-q:Nat):Int)) w k)
  (W:∀ (w:x2) (k:x1->x2->Prop),I n w->B (Δ (-1)) w k):bP (Δ ((n:Int)-1)) w B:=by
 refine⟨λt w=>∃q:Nat,t=Δ ((n:Int)-1-q)/\q<=n/\I q w,λt _=>(bO t+1).toNat,⟨0,Ξ,X3 _,U⟩,?_⟩;rintro _ w ⟨q,rfl,Y,h⟩;by_cases J:q<n
 .have e:(n:Int)-1-q=((n-1-q:Nat):Int):=Ω
  rw[e];refine V q w _ J h λw' h'=>?_;rw[wrap_i64 Ω Ω];exact⟨⟨q+1,by congr 1;omega,J,h'⟩,by simp only[bO];omega⟩
 .have e:q=n:=Ω
  subst e;rw[show ((q:Int)-1-q)= -1 by omega];exact W w _ h
theorem Mh {pl:List (Nat×Nat)} {b k:Nat} {z:x1} {i:Nat} {α:Type} {f:α->List x1} {L:List α} {a:α} {S:aj} {K:x1->Prop} (hu:bx x3 e pl) (V:x3.underlying t=σ (.slice e)) (hi:aO x3 e k b z) (U:∀x∈L,(f x).length=k)
  (h:hc S w k v L.length (L.flatMap f)) (I:L[i]? =σ a):J x3 (n0 t v (Δ (i:Int))) w (λp=>J x3 (x6 e p) w K)=K (.agg (f a).toArray):=by
 obtain⟨h1,ab,o,base,cap,rfl,ac,ad,W,_,X⟩:=h;have Y:=(x4.1 I).1;rw[fi V hi Y λh=>W Ω];rw[bn hu hi (U a (x5 I)) λj u aa=>?_];have:=X (i*k+j) u (mA U I aa);rwa [<-S8] at this
theorem Mi {g go:Nat} {os:List jd} (ap:os.length<=100000000):
  lU x3 nj [Γ g] os.length (λk vs _=>∃o,os[os.length-1-k]? =σ o/\vs=[Δ ((os.length-1-k:Nat):Int),.agg (hS o).toArray])
   (λw=>af w g gv [v]/\hc (λr=>r=go) w 3 v os.length (os.flatMap hS)):=by
 refine⟨nj.enters,λl ag aq w au _ ah ⟨W,I⟩ ai=>?_⟩;refine oL func241 ?_;have aj:J x3 (Y3 #[gv] ab #[v]) w=λK=>K (Δ (os.length:Int)):=by
  obtain⟨_,_,_,_,_,rfl,_⟩:=I;funext K;exact gw gv.u
 rw[ad (o:=0) Ψ (W.Qz rfl),aj];simp only[c3];rw[wrap_i64 Ω Ω];refine bP.down os.length (λq V=>ag q V/\af V g gv [v]/\hc (λr=>r=go) V 3 v os.length (os.flatMap hS)) Ω ⟨ai,W,I⟩ ?_ ?_
 .rintro q V k X ⟨U,Y,aa⟩ ak;obtain⟨o,ac⟩:∃o,os[os.length-1-q]? =σ o:=⟨_,y0 Ω⟩;rw[ce,ae];refine⟨λ_=>?_,λh=>Ω⟩;rw[ad (o:=0) Ψ (Y.Qz rfl),Mh fg.p gv.u fg.i (λ_ _=>rfl) aa ac];refine⟨rfl,(ah q _ V X ⟨Y,aa⟩ ⟨o,ac,rfl⟩ U).mono ?_⟩;rintro _ av (⟨rfl,⟨al,am⟩,an⟩|⟨rfl,ao⟩)
  .rw[bf,Y1,aS,c3];exact ak _ ⟨an.1,al,am⟩
  .rw[bf,X5,bQ];exact .inr ⟨q,X,ao⟩
 .rintro V k ⟨U,_⟩;rw[ce,ae];exact⟨λh=>Ω,λ_=>.inl U⟩
section
variable {α:Type} {f:α->List x1} {k:Nat} {e:r9} {w:x2} {g:Nat} {v:x1} {L:List α}
theorem ot {b:Nat} {z:x1} {i:Nat} (Y:x3.underlying t=σ (.slice e)) (hi:aO x3 e k b z) (h:a6 f k e w g v L) (I:i<=L.length):
  ∃V,(∀ (w':x2) (K:x1->Prop),J x3 (W6 t v ν (σ (Δ (i:Int))) ν) w' K=K V)/\a6 f k e w g V (L.take i)/\ ∀r,leadsTo V r->leadsTo v r:=by
 obtain⟨⟨aj,⟨rfl,aa⟩|⟨cap,cs,rfl,ab,ak,ac,ad,ae⟩⟩,W⟩:=id h
 .have af:L=[]:=Z5 aa;subst af;have:i=0:=by simpa using I
  subst this;exact⟨_,λw' K=>fw Y hi (l:=0) (h:=0) (m:=0) hB mb ez Ω Ω Ω,h,λr X=>X⟩
 .have ag:(if cap=0 then (σ ⟨g,0,ν⟩:Option Addr) else U1 (λx:Addr=>x.add (0*k)) (σ ⟨g,0,ν⟩))=σ ⟨g,0,ν⟩:=by split<;>simp[U7]
  refine⟨.slice (σ ⟨g,0,ν⟩) i cap,λw' K=>?_,⟨⟨?_,.inr ⟨cap,cs,by rw[o4,T7 I],ab,by rw[o4];omega,ac,ad,?_⟩⟩,λa U=>W a (U3 U)⟩,λr X=>by obtain⟨a,_,_,e,ah⟩:=X;cases e;exact⟨_,_,_,rfl,ah⟩⟩
  .rw[fw Y hi (l:=0) (h:=i) (m:=cap) hB mb ez Ω Ω Ω,ag,Nat.sub_zero,Nat.sub_zero]
  .rw[fB λa U=>W a (U3 U)]
  .rw[o4,T7 I];have ai:L.flatMap f=(L.take i).flatMap f++(L.drop i).flatMap f:=by rw[<-List.flatMap_append,List.take_append_drop]
   have al:((L.take i).flatMap f).length=i*k:=by rw[fB λa U=>W a (U3 U),o4,T7 I]
   have:cs.take (i*k)=(cs.take (L.length*k)).take (i*k):=by rw[List.take_take,T7 (Y5 _ I)]
   rw[this,ae,ai,List.take_append_of_le_length Ω,l5 Ω]
theorem Mj {b:Nat} {z:x1} {i:Nat} {K:x1->Prop} (V:x3.underlying t=σ (.slice e)) (hi:aO x3 e k b z) (h:a6 f k e w g v L) (W:i<=L.length)
  (X:∀Y,hc (λr=>r=g) w k Y (L.drop i).length ((L.drop i).flatMap f)->K Y):J x3 (W6 t v (σ (Δ (i:Int))) ν ν) w K:=by
 obtain⟨⟨ah,⟨rfl,ab⟩|⟨cap,cs,rfl,ac,ai,aj,ak,ad⟩⟩,I⟩:=id h
 .have ae:L=[]:=Z5 ab;subst ae;have:i=0:=by simpa using W
  subst this;rw[fw V hi (l:=0) (h:=0) (m:=0) l6 hC ez Ω Ω Ω];exact X _ ⟨Ξ,0,0,ν,0,Ξ,Ξ,by simp[maxLen],λh=>by simp at h,λh=>by simp at h,λj v h=>by simp at h⟩
 .rw[fw V hi (l:=i) (h:=L.length) (m:=cap) l6 hC ez Ω Ω Ω];have af:L.flatMap f=(L.take i).flatMap f++(L.drop i).flatMap f:=by rw[<-List.flatMap_append,List.take_append_drop]
  have ag:((L.take i).flatMap f).length=i*k:=by rw[fB λa U=>I a (U3 U),o4,T7 W]
  refine X _ ⟨fB λa U=>I a (List.mem_of_mem_drop U),g,i*k,_,cap-i,by rw[R5],by rw[R5];omega,Ω,λh=>?_,λ_=>rfl,λj u hu=>?_⟩
  .rw[R5] at h;rw[if_neg Ω];simp[U7]
  .have h1:(L.flatMap f)[i*k+j]? =σ u:=by rw[af,Z2 Ω,ag,R3];exact hu
   have aa:=(x4.1 h1).1;rw[fB I] at aa;rw[<-ad,Y2 aa] at h1;have:=ac.cell h1;simpa using this
end
theorem B6 {A:aj} {t:aD} {m:Int} (h:cI w ah A t):ak x3 El [Γ ah,Δ m] w λv w'=>v= .bool (decide (0<=m/\m<t.marks.length))/\Ext w w':=by
 refine aB func189 ?_;refine aQ (λv U=>v= .bool (decide (0<=m/\m<t.marks.length))/\Ext w U) (λ_ _ h=>h) λW I=>?_;rw[ce,ae];refine⟨λJ=>?_,λJ=>I _ _ ⟨by rw[decide_eq_false Ω],Ext.refl _⟩⟩;refine (Me h).mono ?_;rintro _ U _ ⟨rfl,V⟩;rw[aq];refine I _ _ ⟨?_,V⟩;congr 1;exact decide_eq_decide.2 ⟨λh=>⟨J,h⟩,λh=>h.2⟩
theorem Mk {A:aj} {t:aD} {m:Int} (h:cI w ah A t) (hm:¬(0<=m/\m<t.marks.length)):ak x3 w3 [Γ ah,Δ m] w λv w'=>v=Δ 2/\Ext w w':=by
 refine lk func126 ?_;refine bN λg1 U Y J I=>?_;have I:af U g1 i7 [Γ ah]:=I;rw[ad (o:=0) Ψ (I.Qz rfl)];refine (B6 (m:=m) (h.ext J)).mono ?_;rintro _ V _ ⟨rfl,W⟩;rw[decide_eq_false hm,bf,X5,bQ];intro aa X _;exact⟨rfl,(J.trans W).trans X⟩
theorem Ml {A:aj} {t:aD} {x:mn} (h:cI w ah A t) (bK:iI t) (hm:t.marks[m]? =σ x) (be:x.olds<=t.olds.length) (bL:x.cells<=t.cells.length) (bg:∀o∈t.olds.drop x.olds,o.i<t.cells.length):
  ak x3 w3 [Γ ah,Δ (m:Int)] w λv w'=>v=Δ 0/\ ∃bi,Grow A w bi w'/\cI w' ah bi (t.gP m):=by
 have bM:=(x4.1 hm).1;obtain⟨cp,cq,cr⟩:=bK;refine lk func126 ?_;refine bN λg1 U ct bj X=>?_;have X:af U g1 i7 [Γ ah]:=X;rw[ad (o:=0) Ψ (X.Qz rfl)];refine (B6 (m:=(m:Int)) (h.ext bj)).mono ?_;rintro _ V _ ⟨rfl,ai⟩;have aF:=bj.trans ai;rw[decide_eq_true Ω,bf,Y1,aS];obtain⟨bk,aQ,go,ba,aL,al,bV,h1,av,aG,aH,bl⟩:=id (h.ext aF);obtain⟨⟨aR,bO,bP⟩,aT,cu⟩:=n2 h1 av aG aH;rw[ad (o:=0) Ψ ((X.ext ai).Qz rfl),ay,ac cH.p rfl,ad (v:=bV) Ψ (h1.Q2 rfl),cG rfl hz.u dr.i aH bM,bn dr.p dr.i rfl (aH.range hm)];refine bp dr.i λan cw cz bQ bR=>?_;refine bH (vs:=gU x) dr.i rfl rfl (by intro v ab;simp[gU] at ab;rcases ab with rfl|rfl|rfl<;>rfl) bR λbS bT cA bm=>?_;have bU:Ext V bS:=bQ.then bT λr I he=>by have he:r=an:=he;omega
 intro cB aU _ _;have ao:=bU.trans aU;have cC:=aF.trans ao;rw[ad (o:=0) Ψ ((X.ext (ai.trans ao)).Qz rfl),ay,ac cH.p rfl,ad (v:=al) Ψ ((h1.ext ao).Q1 rfl),ac dr.p rfl,ad (v:=Δ (x.olds:Int)) Ψ ((bm.ext aU).Q0 rfl)];refine Mj gv.u fg.i (aG.ext ao) be λbo aV=>?_;refine aB func190 ?_;refine bN λaI bq cD aJ aK=>?_;have aK:af bq aI gv [bo]:=by
  obtain⟨_,_,_,_,_,e,_⟩:=aV;rw[e] at aK ⊢;exact aK
 rw[kx];obtain⟨os,aM⟩:∃os,os=t.olds.drop x.olds:=⟨_,rfl⟩;rw[<-aM] at aV bg;have bW:os.length<=100000000:=by rw[aM,R5];omega
 have ae:=ao.trans aJ;have bX:=aF.trans ae;have bY:=Mi (g:=aI) (go:=go) (v:=bo) bW;have cE:=aF.size;have cF:=ao.size;have cJ:=aJ.size;have br:∀r,leadsTo aL r->r=aQ/\r<V.heap.size:=λr I=>⟨(av.leads I).1,by have:=av.leads I;omega⟩;have bt:¬leadsTo aL g1:=λhe=>cc av (X.ext ai) Φ he;refine k8.old ⟨Nat,false,nj,#[Γ aI],0,_,_,_,λq w'=>ag (λr=>leadsTo aL r) bq w'/\a6 fT 2 dE w' aQ aL (back (os.drop (os.length-q)) t.cells),λ_ _ _=>False,rfl,bY.s,
  ?_,λ_ _ aw h=>⟨h.1.ext aw,h.2.aa (aw.aa λ_=>False) λ_ _ _ h=>h⟩,λ_ _ _ aw h=>⟨h.1.trans (aw.aa _),h.2.ext aw⟩,λ_ _ _ _ _ h=>h,⟨aK,aV.aa (aJ.aa λ_=>False) λ_ _ _ h=>h⟩,⟨ag.refl _ _,?_⟩,?_,?_,λ_ _ h=>h.elim,λ_ _ _ h=>h.elim⟩
 .rintro _ _ _ _ ⟨_,_,_,_,rfl⟩;rfl
 .rw[Nat.sub_zero,List.drop_length];exact av.ext ae
 .rintro _ al q _ bu ⟨bZ,b0⟩ ⟨bw,rfl,o,bx,b1⟩ ⟨J,aN⟩;cases b1;have cK:=bg o (x5 bx);have b2:=J.size;refine bp fg.i λb3 am cL W b4=>?_;refine bH (vs:=hS o) fg.i rfl rfl (by intro v ab;simp[hS] at ab;rcases ab with rfl|rfl|rfl<;>rfl) b4 λax az b5 aA=>?_;have b6:Ext bu ax:=W.then az λr I he=>by have he:r=b3:=he;omega
  intro aW bz _ cM aC bA _ _;have ap:=(b6.trans bz).trans bA;have aq:=(aA.ext bz).ext bA;have Y:af aC g1 i7 [Γ ah]:=((X.ext (ai.trans ae)).aa J bt).ext ap;have au:af aC ah cH [aL,al,bV,.int .u64 (t.ever:Int)]:=((h1.ext ae).aa J aR).ext ap;have bB:=aN.ext ap;have cN:(back (os.drop (os.length-q)) t.cells).length=t.cells.length:=mo _ _;rw[ad (o:=0) Ψ (Y.Qz rfl),ay,ac cH.p rfl,ad (v:=aL) Ψ (au.Q0 rfl),ac fg.p rfl,ad (v:=Δ (o.i:Int)) Ψ (aq.Q0 rfl),ac fg.p rfl,
   bn (cs:=fT o.c) (o:=0+1) dE.p dE.i rfl (λj u b7=>by
    have:(hS o)[1+j]? =σ u:=by rw[Nat.add_comm];exact b7
    have:=aq.cell this;simpa using this),cG rfl fN.u dE.i bB Ω]
  refine zq (f:=fT) (a:=o.c) dE.i bB rfl (by intro v ab;simp[fT] at ab;rcases ab with rfl|rfl<;>rfl) Ω λb8 aX cO b9=>?_;have ca:leadsTo al go:=by
   obtain⟨_,cP,cQ,e,_⟩:=Az aG (by rintro e;rw[aM,e] at bw;simp at bw);exact⟨_,_,_,e,rfl⟩
  have cb:∀r,r=go->¬leadsTo aL r:=λr e I=>by subst e;exact (aT r I).1 ca
  refine⟨⟨(bZ.ext ap).aa aX λhe=>by have:=br aI he;omega,(b0.aa (ap.aa λ_=>False) λ_ _ _ h=>h).aa aX λr _=>cb r⟩,⟨(J.trans (ap.aa _)).trans aX,?_⟩,λh=>by cases h⟩;have e:os.drop (os.length-(q+1))=o::os.drop (os.length-q):=by
   rw[show os.length-(q+1)=os.length-1-q by omega,V0 Ω,show os.length-1-q+1=os.length-q by omega];congr 1;exact (x4.1 bx).2
  rw[e];exact b9
 .rintro q bu rfl ⟨J,aN⟩;rw[W9,List.drop_zero] at aN;intro am W _ _;have b2:=J.size;have z9:=W.size;have Y:af am g1 i7 [Γ ah]:=((X.ext (ai.trans ae)).aa J bt).ext W;have au:af am ah cH [aL,al,bV,.int .u64 (t.ever:Int)]:=((h1.ext ae).aa J aR).ext W;have aY:af am an dr (gU x):=((bm.ext (aU.trans aJ)).aa J λhe=>by have:=br an he;omega).ext W;have cd:a6 hS 3 fg am go al t.olds:=((aG.ext ae).aa J λr I he=>(aT r he).1 I).ext W;have ce:a6 gU 3 dr am ba bV t.marks:=((aH.ext ae).aa J λr I he=>(aT r he).2 I).ext W;have cg:=aN.ext W;obtain⟨aO,ch,aZ,bC⟩:=ot (i:=x.olds) gv.u fg.i cd be;obtain⟨a1,bD,a2,bE⟩:=ot (i:=x.cells) fN.u dE.i cg (by rw[mo];exact bL);obtain⟨bF,a7,a8,bG⟩:=ot (i:=m) hz.u dr.i ce Ω;rw[ad (o:=0) Ψ (Y.Qz rfl),ad (o:=0) Ψ (Y.Qz rfl),ad (o:=0) Ψ (Y.Qz rfl),ad (o:=0) Ψ (Y.Qz rfl),ay,ac cH.p rfl,ad (v:=al) Ψ (au.Q1 rfl),ac dr.p rfl,ad (v:=Δ (x.olds:Int)) Ψ (aY.Q0 rfl),ch,
   ad (o:=0) Ψ (Y.Qz rfl),ay,ac cH.p rfl,ad (v:=aL) Ψ (au.Q0 rfl),ac dr.p rfl,ad (v:=Δ (x.cells:Int)) Ψ (aY.Q1 rfl),bD,
   ad (o:=0) Ψ (Y.Qz rfl),ay,ac cH.p rfl,ad (v:=bV) Ψ (au.Q2 rfl),a7,ay,ac cH.p rfl]
  have bb:∀ {u u':x1} {r:Nat},(∀r,leadsTo u' r->leadsTo u r)->¬leadsTo u ah->leadsTo u' r->¬r=ah:=λci cj ck he=>by subst he;exact cj (ci _ ck)
  have cl:¬an=ah:=λhe=>by have:=h1.lt;omega
  have bI:¬g1=ah:=λhe=>by
   subst he;exact absurd (dP (X.ext ai) h1) Φ
  refine bh (o:=0+1) gv.i (cT aZ.sl).1 (cT aZ.sl).2 au Ξ λax az b5 aA=>?_;have aA:af ax ah cH [aL,aO,bV,.int .u64 (t.ever:Int)]:=aA;have bc:=Y.aa az bI;have cm:=aY.aa az cl;refine⟨.inr ⟨Go.Vc.fD λK=>a7 ax K,Go.Vc.fD λK=>bD ax K,hI Ψ (cm.Q1 rfl),Go.Vc.fD λK=>ac dr.p rfl,hI Ψ (bc.Qz rfl),hI Ψ (bc.Qz rfl),trivial⟩,?_⟩;rw[ay,ac cH.p rfl];refine bh (o:=0+0) fN.i (cT a2.sl).1 (cT a2.sl).2 aA Ξ λaW bJ cR bd=>?_;have bd:af aW ah cH [a1,aO,bV,.int .u64 (t.ever:Int)]:=bd;refine⟨.inr ⟨Go.Vc.fD λK=>a7 aW K,hI Ψ ((bc.aa bJ bI).Qz rfl),trivial⟩,?_⟩;rw[ay,ac cH.p rfl];refine bh (o:=0+2) hz.i (cT a8.sl).1 (cT a8.sl).2 bd Ξ λaC cn cS aq=>?_;have aq:af aC ah cH [a1,aO,bF,.int .u64 (t.ever:Int)]:=aq;intro b8 aE _;have aP:ag (λr=>r=ah) am aC:=(az.trans bJ).trans cn;have hu:t.gP m={cells:=(back os t.cells).take x.cells,olds:=t.olds.take x.olds,marks:=t.marks.take m,ever:=t.ever}:=by
   unfold aD.gP;rw[hm,aM]
  refine⟨rfl,A,⟨?_,λ_ h=>.inl h,λ_ h=>h⟩,?_⟩
  .exact ((bX.aa A).trans (J.mono λr _ h=>bl r (.inl h))).trans ((W.aa A).trans ((aP.mono λr _ h=>by have h:r=ah:=h;rw[h];exact bk).trans (aE.aa A)))
  .rw[hu];exact⟨bk,aQ,go,ba,a1,aO,bF,aq.ext aE,(a2.aa aP λr I=>bb bE aR I).ext aE,(aZ.aa aP λr I=>bb bC bO I).ext aE,(a8.aa aP λr I=>bb bG bP I).ext aE,λr I=>bl r (I.imp (bE r) λh=>h.imp (bC r) (bG r))⟩
structure fJ (a b:aF):Prop where
 off:gF b=gF a
 fn:∀ (j:Nat) f,a.funs[j]? =σ f-> ∃f',b.funs[j]? =σ f'/\f'.sc=f.sc/\f'.szs=f.szs/\eb b j=eb a j
 el:∃l,b.elims=a.elims++l
theorem fJ.refl (s:aF):fJ s s:=⟨rfl,λj f h=>⟨f,h,rfl,rfl,rfl⟩,[],by rw[X6]⟩
theorem fJ.trans {a b c:aF} (h:fJ a b) (k:fJ b c):fJ a c:=by
 refine⟨k.off.trans h.off,λj f I=>?_,?_⟩
 .obtain⟨J,h1,U,V,W⟩:=h.fn j f I;obtain⟨f2,X,Y,aa,ab⟩:=k.fn j J h1;exact⟨f2,X,Y.trans U,aa.trans V,ab.trans W⟩
 .obtain⟨l,e⟩:=h.el;obtain⟨l',ac⟩:=k.el;exact⟨l++l',by rw[ac,e,X1]⟩
theorem iL.kf {s s':aF} (h:iL s s'):fJ s s':=
 ⟨h.1,λj f J=>by
  have Y:=h.2.1;obtain⟨I,U⟩:∃I,s'.funs[j]? =σ I:=⟨_,y0 (by have:=(x4.1 J).1;omega)⟩;obtain⟨f0,h1,V,W,X⟩:=h.2.2.1 j I U;rw[J] at h1;cases h1;exact⟨I,U,V,W,X⟩,[],by rw[h.2.2.2,X6]⟩
theorem fJ.funs {a b:aF} (h:fJ a b):a.funs.length<=b.funs.length:=by
 by_cases I:a.funs.length=0
 .omega
 obtain⟨J,h1,_⟩:=h.fn (a.funs.length-1) _ (y0 Ω);have:=(x4.1 h1).1;omega
section
variable {w:x2} {al ah:Nat} {A R:aj} {n:aV} {s du:aF} {t dp:aD} {aI:List aD} {m:Nat}
theorem Mm {m:Int} (h:b7 w al ah A R n s t) (hm:¬(0<=m/\m<t.marks.length)):ak x3 qB [Γ al,Δ m] w λv w'=>v=Δ 2/\Ext w w':=by
 obtain⟨W,X,Y,aa,ab,ac,L,ad,I,af,J,ag,ai,aj⟩:=h.1.parts;refine aB func47 ?_;rw[cC dQ.u];simp only[Z0,aS];rw[ix bt.p 1 I rfl];refine (Mk J hm).mono ?_;rintro _ U _ ⟨rfl,V⟩;rw[bG,ae];exact⟨λ_=>⟨rfl,V⟩,λh=>absurd Φ h⟩
theorem Mn (h:b7 w al ah A R n s t) (a8:ds t aI) (hm:aI.reverse[m]? =σ dp) (aK:dp.bT=du.cells) (ba:eB n.k n.sizes du) (ai:fJ du s):
  ak x3 qB [Γ al,Δ (m:Int)] w λv w'=>v=Δ 0/\ag (dg w) w w'/\ ∃ad,Grow A w ad w'/\b7 w' al ah ad R n du {dp with ever:=t.ever}:=by
 obtain⟨⟨aj,am,bR,bb,aL⟩,bS,aM,bU,bd⟩:=id h;obtain⟨hu,x,be,bf,bV,bW,⟨new,aN,bY,bg⟩,bi,bZ⟩:=a8.gP hm;obtain⟨b0,b1,b2⟩:=id aM;have aO:(t.gP m).bT=du.cells:=by rw[hu];exact aK
 obtain⟨⟨a0,_⟩,_,_,_,_,_,_,_,aP,_⟩:=id aL;refine aB func47 ?_;rw[cC dQ.u];simp only[Z0,aS];rw[ix bt.p 1 aP rfl];obtain⟨b3,bj,bk⟩:=aL.lE;have b4:dp.olds.length<=t.olds.length:=by rw[aN,u9];omega
 refine (Ml bj aM be Ω Ω (λo an=>by rw[aN,bf,List.drop_left] at an;exact bg o an)).mono ?_;rintro _ U _ ⟨rfl,bl,bm,bn⟩;obtain⟨bo,ad,ap,bp⟩:=bk bl U _ bm bn;rw[bG,ae];refine⟨λh=>absurd rfl h,λ_=>?_⟩;intro V aq _ _;have bq:=bp.ext aq;obtain⟨⟨X,Y,a3,a4⟩,br,bu,ge,L,E,bw,w0,ab,⟨bx,bz,aQ⟩,⟨au,bA,av,bB⟩,aR,⟨aT,aU⟩,aV,aW⟩:=id bq;rw[ix bt.p 3 ab rfl,ix bt.p 1 ab rfl];refine (jY (i:=1) au rfl (show (t.gP m).bT[1]? =σ (du.funs.length:Int) by rw[aO];exact J7 du)).mono ?_;rintro _ b5 _ ⟨rfl,aw⟩;refine⟨.inl aw,?_⟩;have aX:du.funs.length<=L.length:=by rw[aU.1];exact ai.funs
 obtain⟨l,aY⟩:=ai.el;have aZ:du.elims.length<=E.length:=by rw[aW.1,aY,u9];omega
 obtain⟨ao,bC,ax,a1⟩:=ot (i:=du.funs.length) dR.u cE.i aT aX;obtain⟨ev',bD,az,a2⟩:=ot (i:=du.elims.length) fe.u bM.i aV aZ;rw[bC,ay,ac bt.p rfl];refine bh (o:=0+3) dR.i (cT ax.sl).1 (cT ax.sl).2 (ab.ext aw) Ξ λbE bF b6 aA=>?_;have aA:af bE al bt [Γ aj,Γ ah,am,ao,bb]:=aA;intro bH a6 _ _;have aC:=aA.ext a6;have a7:ag (λr=>r=al) V bH:=((aw.aa _).trans bF).trans (a6.aa _);have bI:=au.aa a7 λr I he=>av (he▸I);rw[ix bt.p 4 aC rfl,ix bt.p 1 aC rfl];refine (jY (i:=2) bI rfl (show (t.gP m).bT[2]? =σ (du.elims.length:Int) by rw[aO];exact J8 du)).mono ?_;rintro _ b8 _ ⟨rfl,aD⟩;refine⟨.inl aD,?_⟩;rw[bD,ay,ac bt.p rfl];refine bh (o:=0+4) fe.i (cT az.sl).1 (cT az.sl).2 (aC.ext aD) Ξ λaE bJ b9 aF=>?_;have aF:af aE al bt [Γ aj,Γ ah,am,ao,ev']:=aF;have J:ag (λr=>r=al) V aE:=(a7.trans (aD.aa _)).trans bJ;have ca:=J.size;have bK:dT aE al ah aj am ao ev' ad R n du (t.gP m):=by
  refine⟨⟨X,Y,λr I=>by have:=a3 r I;omega,λr I=>by have:=a4 r I;omega⟩,br,bu,ge,L.take du.funs.length,E.take du.elims.length,bw,w0,aF,⟨bx,n7 bz J λr o I an he=>Y r (he▸X) (aQ r o I an),aQ⟩,⟨au.aa J λr I he=>av (he▸I),bA,av,λr I=>bB r (I.imp id λh=>h.imp (a1 r) (a2 r))⟩,?_,⟨ax.aa J λr I he=>?_,?_,λj y f W bL=>?_⟩,az.aa J λr I he=>?_,?_,λj y e W he=>?_⟩
  .rw[<-ai.off];exact bc aR J λr I he=>by cases he;exact bX aR ab Φ I rfl
  .cases he;exact cc aT ab Φ (a1 _ I)
  .rw[o4,T7 aX]
  .rw[List.getElem?_take] at W;split at W
   .obtain⟨bN,h1,bO,bP,bQ⟩:=ai.fn j f bL;obtain⟨aG,aH,aJ⟩:=aU.2 j y bN W h1;rw[<-bO,<-bP,<-bQ];exact⟨aG.aa J λr _ I he=>Y r (he▸X) I,aH.aa J λr _ I he=>Y r (he▸X) I,aJ⟩
   .cases W
  .cases he;exact cc aV ab Φ (a2 _ I)
  .rw[o4,T7 aZ]
  .rw[List.getElem?_take] at W;split at W
   .have h1:s.elims[j]? =σ e:=by rw[aY,j9 (x4.1 he).1];exact he
    obtain⟨aG,aH,aJ⟩:=aW.2 j y e W h1;exact⟨aG,aH.aa J λr _ I he=>Y r (he▸X) I,aJ.aa J λr _ I he=>Y r (he▸X) I⟩
   .cases W
 refine⟨by trivial,(bo.trans (aq.aa _)).trans (J.mono λr _ he=>he▸ .inl ⟨_,_,aP,Φ⟩),ad,⟨(ap.1.trans (aq.aa _)).trans (J.mono λr _ he=>he▸a0),ap.2.1,ap.2.2⟩,⟨aj,am,ao,ev',hu▸bK⟩,aK,⟨?_,?_,?_⟩,ba,bd⟩
 .show dp.cells.length<=_;omega
 .show dp.olds.length<=_;omega
 .show dp.marks.length<=_;rw[bi,o4];omega
end
theorem Mo (s:aF) (f:et):fJ s {s with funs:=s.funs++[f]}:=
 ⟨rfl,λj g I=>by
  have J:=(x4.1 I).1;refine⟨g,by show (s.funs++[f])[j]? =_;rw[j9 J];exact I,rfl,rfl,?_⟩;unfold eb;show 3+(_+(((s.funs++[f]).take j).flatMap fU).length)=_;rw[List.take_append_of_le_length Ω],[],(X6 _).symm⟩
theorem Mp {s:aF} {e:hp} {i:Nat} {x y:e9} (I:s.vars[i]? =σ x) (J:y.un.length=x.un.length):fJ s {s with elims:=s.elims++[e],vars:=s.vars.set i y}:=
 fJ.trans (b:={s with elims:=s.elims++[e]}) ⟨rfl,λj f h=>⟨f,h,rfl,rfl,rfl⟩,[e],rfl⟩ (pF (s:={s with elims:=s.elims++[e]}) I J).kf
theorem Mq {n:aV} {s:aF} {a:dh}:fJ s (ht n s a):=by
 unfold ht mQ lK kY mS lL mR mU gX gH iO iS gq
 repeat' split
 all_goals first
  |exact fJ.refl _
  |exact (uH s _).kf
  |exact Mo _ _
  |(rename_i I;exact Mp I rfl)
  |(rename_i I;refine iL.kf (pF I ?_)<;>simp;done)
  |(rename_i I;refine iL.kf (rV I ?_ ?_ ?_)<;>simp;done)
  |(rename_i I;cases I;refine iL.kf (rV (by assumption) ?_ ?_ ?_)<;>simp;done)
def lN (s:aF):Prop:=∀e∈s.elims,e.sc.length<=1000/\e.ea.length<=1000
theorem Mr {n:aV} {s:aF} {a:dh} (h:lN s):lN (ht n s a):=by
 unfold ht mQ lK kY mS lL mR mU gX gH iO iS gq
 repeat' split
 all_goals first
  |exact h
  |(intro e he
    rcases n9.1 he with he|he
    .exact h e he
    .rw[j4.1 he];refine⟨by show (a.sc.take 4).length<=_;rw[o4];omega,?_⟩;show (ju n a).length<=_;unfold ju ke;split
     .simp;omega
     .rw[o4];omega)
structure jw (n:aV) (s:aF) (h:List aD) (I:List aF):Prop where
 len:I.length=h.length
 val:∀ (i:Nat) dp du,h.reverse[i]? =σ dp->I[i]? =σ du->dp.bT=du.cells
 ok:∀du∈I,eB n.k n.sizes du
 kf:∀du∈I,fJ du s
 dW:I.Pairwise fJ
theorem jw.step {n:aV} {s s':aF} {h:List aD} {I:List aF} (k:jw n s h I) (J:fJ s s'):jw n s' h I:=⟨k.len,k.val,k.ok,λdu hm=>(k.kf du hm).trans J,k.dW⟩
theorem jw.mark {n:aV} {s:aF} {t:aD} {h:List aD} {I:List aF} (k:jw n s h I) (V:t.bT=s.cells) (W:eB n.k n.sizes s):jw n s (t::h) (I++[s]):=by
 refine⟨by simp[k.len],λi dp du h1 J=>?_,λdu hm=>?_,λdu hm=>?_,?_⟩
 .rw[List.reverse_cons] at h1;by_cases hi:i<I.length
  .rw[j9 (by rw[List.length_reverse,<-k.len];exact hi)] at h1;rw[j9 hi] at J;exact k.val i dp du h1 J
  .rw[Z2 (by rw[List.length_reverse,<-k.len];omega),List.length_reverse,<-k.len] at h1;rw[Z2 Ω] at J;cases U:i-I.length with
   |zero=>rw[U] at h1 J;cases h1;cases J;exact V
   |succ q=>rw[U] at h1;simp at h1
 .rcases n9.1 hm with hm|hm
  .exact k.ok du hm
  .rw[j4.1 hm];exact W
 .rcases n9.1 hm with hm|hm
  .exact k.kf du hm
  .rw[j4.1 hm];exact fJ.refl _
 .rw[List.pairwise_append];exact⟨k.dW,List.pairwise_singleton _ _,λa X b Y=>by rw[j4.1 Y];exact k.kf a X⟩
theorem jw.gP {n:aV} {s du:aF} {h:List aD} {I:List aF} (k:jw n s h I) (hm:I[m]? =σ du):jw n du (h.drop (h.length-m)) (I.take m):=by
 have W:=(x4.1 hm).1;have X:=k.len;refine⟨Θ,λi V s' h1 J=>?_,λa U=>k.ok a (U3 U),λa U=>?_,k.dW.sublist (List.take_sublist _ _)⟩
 .rw[List.getElem?_take] at J;split at J
  .refine k.val i V s' ?_ J;rw[<-List.take_append_drop m h.reverse,j9 Θ];rw[<-h1,List.reverse_drop,show h.length-(h.length-m)=m by omega]
  .cases J
 .obtain⟨i,hi⟩:=Y7.1 U;rw[List.getElem?_take] at hi;split at hi
  .obtain⟨h1,rfl⟩:=x4.1 hi;obtain⟨J,rfl⟩:=x4.1 hm;exact V2.1 k.dW i m h1 J (by assumption)
  .cases hi
def iT (w:x2) (ba:Nat) (O M aP:aj) (k:Int) (sizes:Λ) (I:List aF):Prop:=
 O ba/\ ∃bV g L,af w ba c0 [bV]/\a6 (λx:List x1=>x) 8 aG w g bV L/\(∀r,leadsTo bV r->O r)/\L.length=I.length/\
  ∀ (i:Nat) cs s,L[i]? =σ cs->I[i]? =σ s-> ∃J,fp true J aP w cs k sizes s/\ ∀q r,J q r->M r
section
variable {w w':x2} {al ah an ba:Nat} {A R O M aP:aj} {A9:Nat->aj} {k:Int} {sizes:Λ} {I:List aF} {n:aV} {s u:aF} {t:aD} {h:List aD} {cs:List x1}
theorem iT.aa {S:aj} (h:iT w ba O M aP k sizes I) (U:ag S w w') (V:∀r,r<w.heap.size->O r\/M r\/aP r->¬S r):iT w' ba O M aP k sizes I:=by
 obtain⟨W,bV,g,L,h1,X,Y,ac,ad⟩:=h;refine⟨W,bV,g,L,h1.aa U (V ba h1.lt (.inl W)),X.aa U λr J=>V r (by obtain⟨ai,e⟩:=X.leads J;omega) (.inl (Y r J)),Y,ac,λi cs s hi ae=>?_⟩;obtain⟨af,ah,ab⟩:=ad i cs s hi ae;exact⟨af,ah.aa U λr J h=>V r J (.inr (h.imp (λ⟨q,h⟩=>ab q r h) id)),ab⟩
theorem iT.ext (h:iT w ba O M aP k sizes I) (J:Ext w w'):iT w' ba O M aP k sizes I:=h.aa (J.aa λ_=>False) λ_ _ _ h=>h
theorem iT.mono {R9':aj} (h:iT w ba O M aP k sizes I) (U:∀r,aP r->R9' r) (V:∀r,M r->¬R9' r):iT w ba O M R9' k sizes I:=by
 obtain⟨W,bV,g,L,h1,X,Y,aa,ab⟩:=h;refine⟨W,bV,g,L,h1,X,Y,aa,λi cs s hi ac=>?_⟩;obtain⟨ad,ae,J⟩:=ab i cs s hi ac;exact⟨ad,ae.mono U λq r af=>V r (J q r af),J⟩
structure p0 (w:x2) (an:Nat) (A R:aj) (A9:Nat->aj) (aP O M:aj):Prop where
 o:∀r,O r->r<w.heap.size/\¬A r/\¬R r/\(∀q,¬A9 q r)/\¬aP r/\r≠an/\¬M r
 m:∀r,M r->r<w.heap.size/\¬A r/\(∀q,¬A9 q r)/\¬aP r/\r≠an
theorem p0.grow {X R' R9':aj} {bL:Nat->aj} (h:p0 w an A R A9 aP O M) (ag:w.heap.size<=w'.heap.size) (Y:∀r,X r->A r\/w.heap.size<=r) (ac:∀r,R' r->R r\/w.heap.size<=r) (aa:∀q r,bL q r->(∃ad,A9 ad r)\/w.heap.size<=r) (ab:∀r,R9' r->aP r\/w.heap.size<=r):p0 w' an X R' bL R9' O M:=by
 refine⟨λr I=>?_,λr I=>?_⟩
 .obtain⟨h1,J,ae,U,V,W,af⟩:=h.o r I;exact⟨Ω,λh=>(Y r h).elim J λh=>Ω,λh=>(ac r h).elim ae λh=>Ω,λq h=>(aa q r h).elim (λ⟨q,h⟩=>U q h) λh=>Ω,λh=>(ab r h).elim V λh=>Ω,W,af⟩
 .obtain⟨h1,J,U,V,W⟩:=h.m r I;exact⟨Ω,λh=>(Y r h).elim J λh=>Ω,λq h=>(aa q r h).elim (λ⟨q,h⟩=>U q h) λh=>Ω,λh=>(ab r h).elim V λh=>Ω,W⟩
theorem bK.side {S:aj} (p:bK w al ah an A R A9 aP n s u t h cs) (V:ag S w w') (U:∀r,r<w.heap.size->S r->¬A r/\¬R r/\(∀q,¬A9 q r)/\¬aP r/\r≠an):bK w' al ah an A R A9 aP n s u t h cs:=by
 have z:=V.size;exact⟨⟨p.b8.1.aa V λr J h I=>h.elim (U r J I).1 (U r J I).2.1,p.b8.2⟩,p.gG,p.box.aa V λI=>(U an p.box.lt I).2.2.2.2 rfl,p.doc.aa V λr J h I=>h.elim (λ⟨q,h⟩=>(U r J I).2.2.1 q h) (U r J I).2.2.2.1,p.apart,
  λr J=>⟨λh=>(p.read r J).1 (lD (λo W I _=>V.a7 r o W I λX=>(U r (p.read r J).2.1 X).2.2.2.1 J) h),by have:=(p.read r J).2.1;omega,(p.read r J).2.2⟩,p.out⟩
theorem bK.Ms (p:bK w al ah an A R A9 aP n s u t h cs):∀q r,A9 q r->¬aP r:=by
 obtain⟨_,_,_,_,_,_,_,_,_,_,_,_,_,I⟩:=p.doc;exact (I rfl).2
def fY (P:aj) (w:x2) (al ah an ba:Nat) (n:aV) (m:Nat):Prop:=∃A R A9 aP O M s t h I cs,bK w al ah an A R A9 aP n s s t h cs/\jw n s h I/\iT w ba O M aP n.k n.sizes I/\p0 w an A R A9 aP O M/\(∀r,A r\/(∃q,A9 q r)\/r=an\/O r->P r)/\lN s/\
 I.length<=8/\t.ever<=m/\t.cells.length<=2000000+700*m/\t.olds.length<=800*m/\s.funs.length<=256+m/\s.elims.length<=m
theorem fY.ext {P:aj} (h:fY P w al ah an ba n m) (J:Ext w w'):fY P w' al ah an ba n m:=by
 obtain⟨A,R,A9,aP,O,M,s,t,h,I,cs,p,h1,U,V,W⟩:=h;exact⟨A,R,A9,aP,O,M,s,t,h,I,cs,p.ext J,h1,U.ext J,V.grow J.size (λ_ h=>.inl h) (λ_ h=>.inl h) (λq _ h=>.inl ⟨q,h⟩) λ_ h=>.inl h,W⟩
theorem fY.step {P:aj} {an ba:Nat} {A R O M aP:aj} {A9:Nat->aj} {s':aF} {I:List aF} (ae:∀r,w.heap.size<=r->P r) (p:bK w al ah an A R A9 aP n s s t h cs) (am:jw n s h I) (ao:iT w ba O M aP n.k n.sizes I) (X:p0 w an A R A9 aP O M) (U:∀r,A r\/(∃q,A9 q r)\/r=an\/O r->P r)
  (b:I.length<=8/\t.ever<=m/\t.cells.length<=2000000+700*m/\t.olds.length<=800*m/\s.funs.length<=256+m/\s.elims.length<=m) (ap:fJ s s') (aq:lN s') (aB:s'.funs.length<=s.funs.length+1/\s'.elims.length<=s.elims.length+1)
  (au:iR w al ah an A R A9 aP n s' t h w'):ag P w w'/\fY P w' al ah an ba n (m+1):=by
 obtain⟨av,R',bL,R9',aw,bo,ax,Y,af,ay,az,ai,ak,aC,aD,aE,aA,aG⟩:=au;have z:=Y.size;refine⟨Y.mono λr _ h=>U r (h.imp id λh=>h.imp id .inl),av,R',bL,R9',O,M,s',aw,h,I,bo,ax,am.step ap,?_,X.grow z af ay ak ai,λr J=>?_,aq,b.1,Ω,Ω,Ω,Ω,Ω⟩
 .refine (iT.aa ao (r2 Y aA) λr J h V=>?_).mono az λr J V=>?_
  .rcases h with h|h|h
   .obtain⟨_,ab,_,ac,_,W,_⟩:=X.o r h;exact V.1.elim ab λh=>h.elim (λ⟨q,h⟩=>ac q h) W
   .obtain⟨_,ab,ac,_,W⟩:=X.m r h;exact V.1.elim ab λh=>h.elim (λ⟨q,h⟩=>ac q h) W
   .exact V.2.elim (p.read r h).1 λad=>ad.elim (λ⟨q,ad⟩=>p.Ms q r ad h) (p.read r h).2.2
  .obtain⟨aH,_,_,W,_⟩:=X.m r J;exact (ai r V).elim W λh=>Ω
 .rcases J with J|⟨q,J⟩|J|J
  .exact (af r J).elim (λh=>U r (.inl h)) (ae r)
  .exact (ak q r J).elim (λh=>U r (.inr (.inl h))) (ae r)
  .exact U r (.inr (.inr (.inl J)))
  .exact U r (.inr (.inr (.inr J)))
end
section
variable {w:x2} {P:aj} {al ah an ba m:Nat} {n:aV} {Q:x1->x2->Prop}
theorem Mt (bx:∀r,w.heap.size<=r->P r) (bz:fY P w al ah an ba n m) (hm:m<100) (bA:∀w',ag P w w'->fY P w' al ah an ba n (m+1)->Q (.bool true) w'):
 J x3 (aY (Γ ba)) w λbU=>
       J x3 (x6 c0 bU) w λbW=>
       J x3 (Y3 #[c0] ab #[bW]) w λbX=>
       J x3 (aC .lss ab false true bX (Δ 8)) w λbY=>
       Split bY (cm w λax=>
        J x3 (aY (Γ ba)) ax λaE=>
        J x3 (x6 c0 aE) ax λa1=>
        J x3 (aY (Γ an)) ax λbZ=>
        J x3 (x6 aG bZ) ax λb0=>
        ak x3 sT [b0] ax λb1 aQ=>
        (Ext ax aQ\/bl x3 (x6 c0 aE) a1 aQ/\bl x3 (aY (Γ ba)) aE aQ/\True)/\
        aA x3 (Z7 c0 1 #[(0,b1)]) aQ λb2 aR=>
         (Ext ax aR\/bl x3 (x6 c0 aE) a1 aR/\bl x3 (aY (Γ ba)) aE aR/\True)/\
        aA x3 (l9 #[c0,c0] c0 #[a1,b2]) aR λb3 bB=>
         J x3 (aY (Γ ba)) bB λb4=>
         aA x3 (o5 c0 b4 b3) bB λ(_:Unit) b5=>
          cm b5 λaB=>
        J x3 (aY (Γ ba)) aB λa2=>
        J x3 (x6 c0 a2) aB λa8=>
        J x3 (Y3 #[c0] ab #[a8]) aB λbb=>
        J x3 (aC .sub ab false true bb (Δ 1)) aB λbC=>
        ak x3 wP [Γ al] aB λb6 az=>
        (Ext aB az\/bl x3 (aC .sub ab false true bb (Δ 1)) bC az/\bl x3 (Y3 #[c0] ab #[a8]) bb az/\bl x3 (x6 c0 a2) a8 az/\bl x3 (aY (Γ ba)) a2 az/\True)/\
        J x3 (aC .eql ab false false b6 bC) az λb7=>
        Q b7 az)
        (Q (.bool true) w):=by
 have ct:=bz;obtain⟨A,R,A9,aP,O,M,s,t,h,I,cs,p,bc,⟨bd,bV,g,L,aH,aJ,bf,aS,bD⟩,Y,av,bE,cu,cw,cz,cA,cB,cC⟩:=bz;rw[ay,ad (v:=bV) Ψ (aH.Qz rfl),c9 c0.u aJ,aq,ae];refine⟨λb9=>?_,λb9=>bA w (ag.refl _ _) ⟨A,R,A9,aP,O,M,s,t,h,I,cs,p,bc,⟨bd,bV,g,L,aH,aJ,bf,aS,bD⟩,Y,av,bE,Ω⟩⟩;intro U aT _ _;have bg:=p.ext aT;rw[ay,ad (v:=bV) Ψ ((aH.ext aT).Qz rfl),ay,bn aG.p aG.i (be.len p.doc).1 bg.box.range];refine (BP bg.doc (λr W=>(bg.read r W).2.1) p.b8.2.2.2.1 Ω Ω).mono ?_;rintro _ V _ ⟨bi,ca,bo,rfl,bF,aK⟩;obtain⟨cb,cd⟩:=be.len bF;refine⟨.inl bi,?_⟩;refine fQ (f:=λx:List x1=>x) (a:=bo) c0.u aG.i Ω rfl cb λv3 cD bj cE bm ce=>?_;have bG:=bi.trans bm;have aL:=aT.trans bG;refine⟨.inl bG,?_⟩;have cF:=aT.size;have cG:=bi.size;have z3:=bm.size;have cg:=aJ.ext aL;have cH:∀r,leadsTo bV r->r=g/\r<w.heap.size:=λr W=>by obtain⟨ch,e⟩:=aJ.leads W;omega
 refine gh (f:=λx:List x1=>x) (a:=bo) c0.u aG.i rfl cg (by simpa using ce.sl) cd Ω Ω λaw bH cI aU ci bp=>?_;have bI:=(aH.ext aL).aa bp λhe=>cc aJ aH Φ he;rw[ay];refine bh (g:=ba) (o:=0) c0.i (cT aU.sl).1 (cT aU.sl).2 bI Ξ λcj bJ cJ bq=>?_;have bq:af cj ba c0 [aw]:=bq;intro aM aV _ _;have bL:=bq.ext aV;have br:∀r,leadsTo aw r->O r\/bj.heap.size<=r:=λr W=>(ci r W).imp (bf r) id;have bM:O ba:=bd;have z4:=bp.size;have cK:=aV.size;have bt:a6 (λx:List x1=>x) 8 aG aM bH aw (L++[bo]):=(aU.aa bJ λr W he=>by
  have he:r=ba:=he;subst he;exact cc aU bI Φ W).ext aV
 rw[ay,ad (v:=aw) Ψ (bL.Qz rfl),c9 c0.u bt,c3];have e:(L++[bo]).length=I.length+1:=by rw[u9,aS];rfl
 rw[e,wrap_i64 Ω Ω];have aW:ag (λr=>O r) bj aM:=((bp.mono λr _ h=>bf r h).trans (bJ.mono λr _ h=>by have h:r=ba:=h;rw[h];exact bM)).trans (aV.aa _);have ck:=p.olds.ext aL;have aN:bK aM al ah an A R (λq r=>A9 q r/\r<w.heap.size) aP n s s t h cs:=ck.side aW λr _ W=>by
  obtain⟨_,ac,X,ap,ai,am,_⟩:=Y.o r W;exact⟨ac,X,λq h=>ap q h.1,ai,am⟩
 have cL:t.marks.length=I.length:=by rw[p.gG.len,bc.len]
 refine (Mg aN.b8 Ω Ω).mono ?_;rintro _ aX _ ⟨rfl,bN,bO,ao,cl⟩;have cM:=iQ aN.b8;have bP:af aX ba c0 [aw]:=bL.aa ao.1 (Y.o ba bM).2.1;have bu:∀r,A r->r<w.heap.size:=λr W=>iQ p.b8 r (.inl W);have cn:∀r,R r->r<w.heap.size:=λr W=>iQ p.b8 r (.inr W);have cp:∀r,leadsTo aw r->¬A r:=λr W bQ=>(br r W).elim (λh=>(Y.o r h).2.1 bQ) λh=>by have:=bu r bQ;omega
 have bR:=bt.aa ao.1 cp;refine⟨.inr ⟨Go.Vc.fD λK=>by rw[c3,wrap_i64 Ω Ω],Go.Vc.fD λK=>by rw[c9 c0.u bR,e],hI Ψ (bP.Qz rfl),Go.Vc.fD λK=>ay,trivial⟩,?_⟩;rw[bk,decide_eq_true Ω];have cN:=aW.size;have cO:=ao.1.size;refine bA aX ?_ ⟨bO,R,_,aP,λr=>O r\/leadsTo aw r,λr=>M r\/(∃q,ca q r/\r<V.heap.size),s,t.mark,t::h,I++[s],cs,aN.prog (B:=aM.heap.size) bN ao cl p.gG.mark (λ_ h=>.inl h) (λ_ _ _ h=>h) aN.box.lt,bc.mark p.b8.2.1 p.b8.2.2.2.1,?_,?_,?_,bE,?_⟩
 .exact ((aL.aa _).trans (aW.mono λr _ h=>av r (.inr (.inr (.inr h))))).trans (ao.1.mono λr _ h=>av r (.inl h))
 .have a7:∀ {aD:Nat->aj} {c:List x1} {s':aF},fp true aD aP bj c n.k n.sizes s'->(∀q r,aD q r->¬O r/\¬A r)->fp true aD aP aX c n.k n.sizes s':=λ{aD c s'} aI bS=>by
   refine (be.aa aI aW λr _ W=>?_).aa (r2 ao.1 bN) λr _ W aO=>?_
   .exact W.elim (λ⟨q,h⟩=>(bS q r h).1) λh aO=>(Y.o r aO).2.2.2.2.1 h
   .exact W.elim (λ⟨q,h⟩=>(bS q r h).2 aO.1) λh=>(aN.read r h).1 aO.2
  refine⟨.inl bd,aw,bH,L++[bo],bP,bR,λr W=>.inr W,by simp[aS],λi c s' hi aZ=>?_⟩;by_cases cq:i<L.length
  .rw[j9 cq] at hi;rw[j9 Ω] at aZ;obtain⟨aD,ac,X⟩:=bD i c s' hi aZ;exact⟨aD,a7 (ac.ext aL) λq r W=>⟨λh=>(Y.o r h).2.2.2.2.2.2 (X q r W),(Y.m r (X q r W)).2.1⟩,λq r W=>.inl (X q r W)⟩
  .have cr:i=L.length:=by have:=(x4.1 hi).1;simp at this;omega
   subst cr;rw[Z2 (o8 _),W9] at hi;rw[Z2 Ω,aS,W9] at aZ;cases hi;cases aZ;exact⟨_,a7 (be.ext bF.old bm) λq r W=>⟨λh=>by have:=(Y.o r h).1;have:=aK q r W.1;omega,λh=>by have:=bu r h;have:=aK q r W.1;omega⟩,λq r W=>.inr ⟨q,W⟩⟩
 .have bT:∀r,w.heap.size<=r->r<aM.heap.size->r<aX.heap.size/\¬bO r/\¬R r/\(∀q,¬(A9 q r/\r<w.heap.size))/\¬aP r/\r≠an:=λr h1 aO=>
   ⟨Ω,λh=>(ao.2.1 r h).elim (λh=>by have:=bu r h;omega) λh=>Ω,λh=>by have:=cn r h;omega,λq h=>Ω,λh=>by have:=(p.read r h).2.1;omega,by have:=p.box.lt;omega⟩
  refine⟨λr W=>?_,λr W=>?_⟩
  .rcases W with W|W
   .obtain⟨ac,X,ap,ai,am,au,bw⟩:=Y.o r W;exact⟨Ω,λh=>(ao.2.1 r h).elim X λh=>Ω,ap,λq h=>ai q h.1.1,am,au,λh=>h.elim bw λ⟨q,h⟩=>by have:=aK q r h.1;omega⟩
   .rcases br r W with h|h
    .obtain⟨ac,X,ap,ai,am,au,bw⟩:=Y.o r h;exact⟨Ω,λh=>(ao.2.1 r h).elim X λh=>Ω,ap,λq h=>ai q h.1.1,am,au,λh=>h.elim bw λ⟨q,h⟩=>by have:=aK q r h.1;omega⟩
    .obtain⟨ch,cP⟩:=bt.leads W;obtain⟨ac,X,ap,ai,am,au⟩:=bT r Ω Ω;exact⟨ac,X,ap,λq h=>ai q h.1,am,au,λh=>h.elim (λh=>by have:=(Y.m r h).1;omega) λ⟨q,h⟩=>by have:=h.2;omega⟩
  .rcases W with W|⟨q,W⟩
   .obtain⟨ac,X,ai,am,au⟩:=Y.m r W;exact⟨Ω,λh=>(ao.2.1 r h).elim X λh=>Ω,λq h=>ai q h.1.1,am,au⟩
   .have:=aK q r W.1;have:=W.2;obtain⟨ac,X,ap,ai,am,au⟩:=bT r Ω Ω;exact⟨ac,X,λq h=>ai q h.1,am,au⟩
 .rintro r (W|⟨q,W⟩|W|W|W)
  .exact (ao.2.1 r W).elim (λh=>av r (.inl h)) λh=>bx r Ω
  .exact av r (.inr (.inl ⟨q,W.1.1⟩))
  .exact av r (.inr (.inr (.inl W)))
  .exact av r (.inr (.inr (.inr W)))
  .exact (br r W).elim (λh=>av r (.inr (.inr (.inr h)))) λh=>bx r Ω
 .have ac:t.mark.ever=t.ever+1:=rfl;have X:t.mark.cells=t.cells:=rfl;have ap:t.mark.olds=t.olds:=rfl;rw[ac,X,ap,u9];simp only[U2];omega
end
section
variable {w0 w:x2} {P:aj} {al ah an ba aW m:Nat} {n:aV} {a:dh} {aE az ck:x1} {Q:x1->x2->Prop}
theorem fY.succ (h:fY P w al ah an ba n m):fY P w al ah an ba n (m+1):=by
 obtain⟨A,R,A9,aP,O,M,s,t,h,I,cs,p,J,U,V,W,X,Y,aa,ab,ac,ad,ae⟩:=h;exact⟨A,R,A9,aP,O,M,s,t,h,I,cs,p,J,U,V,W,X,Y,Ω,Ω,Ω,Ω,Ω⟩
theorem Mu (bl:∀r,w0.heap.size<=r->P r) (bm:fY P w0 al ah an ba n m) (hm:m<100) (a6:Ext w0 w) (a7:dV w aW n.k a aE az ck w0.heap.size)
  (bp:∀w',ag P w0 w'->fY P w' al ah an ba n (m+1)->Q (.bool true) w'):
 bB (α:=x1->x2->Prop) (λ(b0:x1) (aN:x2)=>
    Split b0 (J x3 (x7 aR (Γ aW) 3) aN λb1=>
     J x3 (x6 ab b1) aN λb2=>
     ak x3 qB [Γ al,b2] aN λb3 bq=>
     J x3 (aC .eql eF false true b3 (Δ 2)) bq λb4=>
     Q b4 bq)
     (cm aN λaj=>
   J x3 (aY (Γ ba)) aj λb5=>
   J x3 (x6 c0 b5) aj λb6=>
   J x3 (x7 aR (Γ aW) 3) aj λb7=>
   J x3 (x6 ab b7) aj λb9=>
   J x3 (n0 c0 b6 b9) aj λca=>
   J x3 (x6 aG ca) aj λcb=>
   ak x3 sT [cb] aj λcd br=>
    J x3 (aY (Γ an)) br λcg=>
    aA x3 (o5 aG cg cd) br λ(_:Unit) ch=>
    cm ch λam=>
   J x3 (aY (Γ ba)) am λci=>
   J x3 (x6 c0 ci) am λcj=>
   J x3 (x7 aR (Γ aW) 3) am λcl=>
   J x3 (x6 ab cl) am λcn=>
   J x3 (W6 c0 cj ν (σ cn) ν) am λcp=>
   J x3 (aY (Γ ba)) am λcq=>
   aA x3 (o5 c0 cq cp) am λ(_:Unit) a8=>
    J x3 (x7 aR (Γ aW) 3) a8 λcr=>
   J x3 (x6 ab cr) a8 λct=>
   ak x3 qB [Γ al,ct] a8 λcu bt=>
   J x3 (aC .eql eF false true cu (Δ 0)) bt λcw=>
   Q cw bt)) λbu=>
   cm w λX=>
   J x3 (x7 aR (Γ aW) 3) X λcz=>
   J x3 (x6 ab cz) X λcA=>
   J x3 (aC .lss ab false true cA (Δ 0)) X λcB=>
   Split cB (bu (.bool true) X)
    (J x3 (x7 aR (Γ aW) 3) X λcC=>
    J x3 (x6 ab cC) X λcD=>
   J x3 (aY (Γ ba)) X λcE=>
   J x3 (x6 c0 cE) X λcF=>
   J x3 (Y3 #[c0] ab #[cF]) X λcH=>
   J x3 (aC .geq ab false false cD cH) X λcI=>
   bu cI X):=by
 have cJ:=bm;obtain⟨A,R,A9,aP,O,M,s,t,h,I,cs,p,av,bw,aw,ax,cK,dc,dd,de,df,dg,dh⟩:=bm;have di:=a7.low.1;have cL:t.marks.length=I.length:=by rw[p.gG.len,av.len]
 have cM:∀r,A r->r<w0.heap.size:=λr W=>iQ p.b8 r (.inl W);have cN:∀r,R r->r<w0.heap.size:=λr W=>iQ p.b8 r (.inr W);have dj:=p.box.lt;have z0:=a6.size;refine aQ (λv w'=>∃b,v= .bool b/\Ext w w'/\(b=true↔¬(0<=a.j/\a.j<I.length))) ?_ λdk bx=>?_
 .rintro _ U ⟨b,rfl,ao,bz⟩;have aO:=a6.trans ao;have aI:=a7.ext ao;rw[bD];refine⟨λcO=>?_,λbA=>?_⟩
  .rw[bC aR.p 3 aI.cZ rfl];refine (Mm (p.ext aO).b8 (by rw[cL];exact bz.1 cO)).mono ?_;rintro _ V _ ⟨rfl,aJ⟩;rw[bk,decide_eq_true rfl];exact bp V ((aO.trans aJ).aa _) (cJ.ext (aO.trans aJ)).succ
  have dl:0<=a.j/\a.j<I.length:=X4.1 λh=>by rw[bz.2 h] at bA;cases bA
  obtain⟨j,bb⟩:∃j:Nat,a.j=j:=⟨a.j.toNat,Ω⟩;have dm:j<I.length:=Ω
  intro V aJ _ _;have aS:=aO.trans aJ;obtain⟨aK,bV,g,L,aT,aL,aU,bE,bc⟩:=bw.ext aS;have cP:=p.ext aS;have bF:=aI.ext aJ;obtain⟨c,bG⟩:∃c,L[j]? =σ c:=⟨_,y0 Ω⟩;obtain⟨Y,aM⟩:∃Y,I[j]? =σ Y:=⟨_,y0 Ω⟩;obtain⟨dp,aV⟩:∃dp,h.reverse[j]? =σ dp:=⟨_,y0 (by rw[List.length_reverse,<-av.len];omega)⟩;obtain⟨dn,bI,dq⟩:=bc j c Y bG aM;have bJ:=av.ok Y (x5 aM);have aX:=av.kf Y (x5 aM);have dr:=aX.funs;have dt:Y.elims.length<=s.elims.length:=by obtain⟨l,e⟩:=aX.el;rw[e,u9];omega
  rw[ay,ad (v:=bV) Ψ (aT.Qz rfl),bC aR.p 3 bF.cZ rfl,cG (i:=j) bb c0.u aG.i aL Ω,bn aG.p aG.i (be.len bI).1 (aL.range bG)];refine (BP bI (λr W=>(cP.read r W).2.1) bJ Ω Ω).mono ?_;rintro _ bL _ ⟨aB,bM,bo,rfl,bN,aD⟩;obtain⟨cQ,cR⟩:=be.len bN;have bO:=aS.trans aB;have bP:=p.ext bO;rw[ay];refine bH (vs:=bo) aG.i cQ (be.len p.doc).1 cR bP.box λcS ac du cU=>?_;have dv:=aS.size;have z3:=aB.size;have cV:bK cS al ah an A R (λq r=>bM q r/\r<bL.heap.size) aP n s Y t h bo:=bP.vj ac (λr _ h=>.inr h) cU (be.aa bN.old ac λr _ h he=>by
    have he:r=an:=he;rcases h with⟨q,h⟩|h
    .have:=aD q r h.1;omega
    .exact (p.read r h).2.2 he) λq r h=>.inr ⟨λaF=>by have:=aD q r h.1;have:=cM r aF;omega,λaF=>by have:=aD q r h.1;have:=cN r aF;omega,by have:=aD q r h.1;omega⟩
  intro cW ap _ _;have cX:=cV.ext ap;have bQ:∀r,O r->¬r=an:=λr W=>(aw.o r W).2.2.2.2.2.1;have bd:=((aT.ext aB).aa ac (bQ ba aK)).ext ap;have bR:=((aL.ext aB).aa ac λr W=>bQ r (aU r W)).ext ap;have bS:dV cW aW n.k a aE az ck w0.heap.size:=((bF.ext aB).aa ac λr _ h=>by have h:r=an:=h;omega).ext ap;obtain⟨bT,cY,bf,bg⟩:=ot (i:=j) c0.u aG.i bR Ω;rw[ay,ad (v:=bV) Ψ (bd.Qz rfl),bC aR.p 3 bS.cZ rfl,bb,cY,ay];refine bh (g:=ba) (o:=0) c0.i (cT bf.sl).1 (cT bf.sl).2 bd Ξ λaZ aH dw bi=>?_;have bi:af aZ ba c0 [bT]:=bi;have ai:=aw.o ba aK;have c1:dV aZ aW n.k a aE az ck w0.heap.size:=bS.aa aH λr _ h=>by have h:r=ba:=h;rw[h];exact ai.1
  rw[bC aR.p 3 c1.cZ rfl,bb];have a1:=cX.side aH λr _ W=>by
   have W:r=ba:=W;subst W;exact⟨ai.2.1,ai.2.2.1,λq h=>by have:=aD q _ h.1;omega,ai.2.2.2.2.1,ai.2.2.2.2.2.1⟩
  obtain⟨_,x,_,_,_,dx,⟨dy,bU,_,_⟩,_,c2⟩:=p.gG.gP aV;refine (Mn a1.b8 p.gG aV (av.val j dp Y aV aM) bJ aX).mono ?_;rintro _ c3 _ ⟨rfl,bW,bX,au,c4⟩;rw[bk,decide_eq_true rfl];have z5:=ap.size;have z4:=ac.size;have dz:=aH.size;have dA:=au.1.size;have bY:∀q r,((bM q r/\r<bL.heap.size)/\r<aZ.heap.size)->w0.heap.size<=r:=λq r h=>by have:=aD q r h.1.1;omega
  have bZ:∀r,bX r->A r\/w0.heap.size<=r:=λr W=>(au.2.1 r W).imp id λh=>Ω
  refine bp c3 ?_ ⟨bX,R,_,aP,O,M,Y,{dp with ever:=t.ever},h.drop (h.length-j),I.take j,bo,a1.prog (B:=aZ.heap.size) bW au c4 (ds.ever (p.gG.tail aV) c2) (λ_ h=>.inl h) (λ_ _ _ h=>h) a1.box.lt,av.gP aM,?_,aw.grow Ω bZ (λ_ h=>.inl h) (λq r h=>.inr (bY q r h)) (λ_ h=>.inl h),?_,λe he=>cK e (by obtain⟨l,c5⟩:=aX.el;rw[c5];exact List.mem_append_left _ he),?_⟩
  .refine (((((bO.aa _).trans (ac.mono λr _ h=>?_)).trans (ap.aa _)).trans (aH.mono λr _ h=>?_)).trans (au.1.mono λr _ h=>ax r (.inl h)))
   .exact ax r (.inr (.inr (.inl h)))
   .have h:r=ba:=h;exact ax r (.inr (.inr (.inr (h▸aK))))
  .refine⟨aK,bT,g,L.take j,bi.aa au.1 ai.2.1,(bf.aa aH λr W he=>?_).aa au.1 λr W=>(aw.o r (aU r (bg r W))).2.1,λr W=>aU r (bg r W),by rw[o4,o4,bE],λi c6 b8 hi bj=>?_⟩
   .have he:r=ba:=he;subst he;exact cc bR bd Φ (bg _ W)
   .rw[List.getElem?_take] at hi bj;split at hi
    .rename_i c7;rw[if_pos c7] at bj;obtain⟨c8,da,a2⟩:=bc i c6 b8 hi bj;refine⟨c8,(be.aa (be.ext (be.aa (be.ext da aB) ac λr _ W he=>?_) ap) aH λr _ W he=>?_).aa (r2 au.1 bW) λr _ W aF=>?_,a2⟩
     .exact W.elim (λ⟨q,h⟩=>(aw.m r (a2 q r h)).2.2.2.2 he) λh=>(p.read r h).2.2 he
     .have he:r=ba:=he;subst he;exact W.elim (λ⟨q,h⟩=>ai.2.2.2.2.2.2 (a2 q _ h)) ai.2.2.2.2.1
     .exact W.elim (λ⟨q,h⟩=>(aw.m r (a2 q r h)).2.1 aF.1) λh=>(a1.read r h).1 aF.2
    .cases hi
  .rintro r (W|⟨q,W⟩|W|W)
   .exact (bZ r W).elim (λh=>ax r (.inl h)) (bl r)
   .exact bl r (bY q r W)
   .exact ax r (.inr (.inr (.inl W)))
   .exact ax r (.inr (.inr (.inr W)))
  .have bU:dp.olds.length<=t.olds.length:=by rw[bU,u9];omega
   refine⟨by rw[o4];omega,by show t.ever<=_;omega,by show dp.cells.length<=_;omega,by show dp.olds.length<=_;omega,Ω,Ω⟩
 .intro U ao _ _;have aI:=a7.ext ao;obtain⟨aK,bV,g,L,aT,aL,aU,bE,bc⟩:=bw.ext (a6.trans ao);rw[bC aR.p 3 aI.cZ rfl,aq,ae];refine⟨λdb=>bx _ _ ⟨true,rfl,ao,Θ⟩,λdb=>?_⟩;rw[bC aR.p 3 aI.cZ rfl,ay,ad (v:=bV) Ψ (aT.Qz rfl),c9 c0.u aL,ce];exact bx _ _ ⟨_,rfl,ao,by rw[decide_eq_true_eq];omega⟩
end
section
variable {w0 w:x2} {P:aj} {al ah an ba m:Nat} {n:aV} {a:dh} {df:x1} {Q:x1->x2->Prop}
theorem Mv (aj:∀r,w0.heap.size<=r->P r) (am:fY P w0 al ah an ba n m) (hm:m<100) (ay:pX w0 df a) (ao:∀w',ag P w0 w'->fY P w' al ah an ba n (m+1)->Q (.bool true) w'):
  ak x3 Db [Γ al,Γ an,Γ ba,df] w0 Q:=by
 obtain⟨A,R,A9,aP,O,M,s,t,h,I,cs,p,aA,aC,aD,aF,aG,b⟩:=id am;have ae:Room t:=.inr Ω;have Y:∀s' w',s'=ht n s a->iR w0 al ah an A R A9 aP n s' t h w'->Q (.bool true) w':=λs' w' e J=>by
  obtain⟨h1,aH⟩:=fY.step aj p aA aC aD aF b (e▸Mq) (e▸Mr aG) (e▸LY) J;exact ao w' h1 aH
 obtain⟨ap,aE,az,ck,rfl,aq,au,av⟩:=ay;have aM:0<=a.d % 9:=Ω
 refine aB func21 ?_;refine bN λaW U aN aI aw=>?_;have aJ:af U aW aR [.int .u8 a.d,Δ a.i,Δ a.v,Δ a.j,Δ a.c,aE,az,ck,.bool a.kX]:=by
  obtain⟨_,_,_,ab⟩:=bZ aq;obtain⟨_,_,_,ac⟩:=bZ au;obtain⟨_,_,_,ai⟩:=bZ av;rw[ab,ac,ai] at aw ⊢;exact aw
 refine Lq (w0:=w0) p ap aq au rfl aI Ω aJ λaO aQ V W X=>?_;refine lM (λe=>?_) λad=>?_
 .exact Ls p ae W X λw' J=>Y _ w' (by unfold ht;rw[if_pos e]) J
 refine lM (λe=>?_) λab=>?_
 .exact Lu p ae W X λw' J=>Y _ w' (by unfold ht;rw[if_neg ad,if_pos e]) J
 refine lM (λe=>?_) λac=>?_
 .exact LH p ae W X λw' J=>Y _ w' (by unfold ht;rw[if_neg ad,if_neg ab,if_pos e]) J
 refine lM (λe=>?_) λai=>?_
 .exact LD p ae W X λw' J=>Y _ w' (by unfold ht;rw[if_neg ad,if_neg ab,if_neg ac,if_pos e]) J
 refine lM (λe=>?_) λax=>?_
 .exact LX p Ω Ω Ω ap W X (av.ext W) λw' J=>Y _ w' (by unfold ht;rw[if_neg ad,if_neg ab,if_neg ac,if_neg ai,if_pos e]) J
 refine lM (λe=>?_) λaK=>?_
 .exact Lz p ae W X λw' J=>Y _ w' (by unfold ht;rw[if_neg ad,if_neg ab,if_neg ac,if_neg ai,if_neg ax,if_pos e]) J
 refine lM (λe=>?_) λaS=>?_
 .exact LM p Ω Ω W X λw' J=>Y _ w' (by unfold ht;rw[if_neg ad,if_neg ab,if_neg ac,if_neg ai,if_neg ax,if_neg aK]) J
 refine lM (λe=>?_) λaT=>?_
 .exact Mt (λr h=>aj r (by have:=W.size;omega)) (am.ext W) hm λw' aL=>ao w' ((W.aa _).trans aL)
 .exact Mu aj am hm W X ao
end
theorem Mw {w0:x2} {out:x1} {g:Nat} {x:Int} (J:Ext w0 w) (hm:au .i64 ab w g out l) (V:∀r,leads out r->w0.heap.size<=r) (ag:l.length<=1000000000)
  (X:∀v w' Y,Ext w0 w'->au .i64 ab w' Y v (l++[x])->(∀r,leads v r->w0.heap.size<=r)->K v w'):
  aA x3 (Z7 ai 1 #[(0,Δ x)]) w λy U=>aA x3 (l9 #[ai,ai] ai #[out,y]) U K:=by
 refine dx (k:=.i64) ai.u ab.i rfl λv4 ah aj ak I aa=>?_;refine eY ai.u ab.i rfl (hm.ext I) aa.ls Θ Θ λv5 ac al ad ae af=>?_;have z:=(J.trans I).size;exact X _ _ ac ((J.trans I).then af λr W he=>by have:=V r he;omega) ad λr W=>(ae r W).elim (V r) λh=>Ω
theorem B7 {s:aF} {i:Int} {j:Nat}:fH s i (j+1)=if hs s i j=true then fH s i j++[(j:Int)] else fH s i j:=by
 unfold fH;rw[List.range_succ,List.filter_append];cases I:hs s i j<;>simp[I]
theorem Mx {s:aF} {i:Int} {j:Nat}:(fH s i j).length<=j:=by
 unfold fH;rw[u4];have:=S9 (hs s i) (W3 j);rw[List.length_range] at this;exact this
theorem vu (x:e9):(cu x).length<=x.un.length:=by
 unfold cu;have:=S9 (λv:Int=>!dropped x.mask v) ((W3 x.un.length).map λv:Nat=>(v:Int));rw[u4,List.length_range] at this;exact this
def B8 (w:x2) (g:Nat) (v:x1) (l:List hp):Prop:=∃E,a6 gV 3 bM w g v E/\E.length=l.length/\ ∀ (q:Nat) x e,E[q]? =σ x->l[q]? =σ e->x.v=e.v/\(∃g,au .i64 ab w g x.az e.sc)/\ ∃g,au .i64 ab w g x.bv e.ea
section
variable {w:x2} {al ah:Nat} {A R:aj} {n:aV} {s:aF} {t:aD}
theorem B9 (h:b7 w al ah A R n s t) (aA:lN s) (be:s.elims.length<=100000):ak x3 Dg [Γ al] w λv w'=>Ext w w'/\ ∃g,B8 w' g v s.elims/\ ∀r,leadsTo v r->w.heap.size<=r:=by
 obtain⟨⟨bf,bg,bh,bi,ai⟩,_⟩:=h;obtain⟨_,_,_,_,_,E,_,_,aC,_,_,_,_,af,aj⟩:=id ai;have bj:E.length=s.elims.length:=aj.1;refine aB func51 ?_;rw[cC dQ.u];simp only[Z0,aS];rw[ix bt.p 4 aC rfl,c9 fe.u af];refine bE.range E.length (λj out V=>Ext w V/\ ∃g,B8 V g out (s.elims.take j)/\ ∀r,leadsTo out r->w.heap.size<=r) Ω ⟨Ext.refl _,0,⟨[],a6.nil _ _ _ _ _,rfl,λq x e h=>by simp at h⟩,λr I=>(eJ I).elim⟩ ?_ ?_
 .rintro j out V aD am ⟨J,g,⟨O,U,an,aE⟩,aa⟩ aF;obtain⟨x,ao⟩:∃x,E[j]? =σ x:=⟨_,y0 am⟩;obtain⟨e,ag⟩:∃e,s.elims[j]? =σ e:=⟨_,y0 Ω⟩;obtain⟨bk,bl⟩:=aA e (x5 ag);have bm:=ai.ext J;obtain⟨aG,aH,aI⟩:=aj.2 j x e ao ag;have f2:=aH.ls.ext J;have f3:=aI.ls.ext J;refine Υ λ_=>?_;rw[cG rfl fe.u bM.i (af.ext J) am,bn bM.p bM.i rfl ((af.ext J).range ao)];refine bp bM.i λge bo bq aJ aK=>?_;refine bH (vs:=gV x) bM.i rfl rfl (by intro u hu;simp[gV] at hu;rcases hu with rfl|rfl|rfl<;>first|rfl|exact f2.cells.2|exact f3.cells.2) aK λaL aM br aO=>?_;have ac:Ext V aL:=aJ.then aM λr I he=>by have he:r=ge:=he;omega
  rw[bn bM.p bM.i rfl aO.range];refine (B2 (v:=x.v) (f2.ext ac) (f3.ext ac) Ω Ω).mono ?_;rintro _ bu _ ⟨aP,aQ,aR,g1,bw,rfl,bx,bz,ap,av⟩;let a:mJ:=⟨x.v,aQ,aR⟩;refine fQ (f:=gV) (a:=a) fe.u bM.i Ω rfl rfl λbA bB aT bC ad aU=>?_;have W:=(ac.trans aP).trans ad;have bD:=J.size;have bF:=W.size;have bG:=ac.size;have bI:=ad.size;have aw:(s.elims.take j).length=j:=by rw[o4];omega
  refine gh (f:=gV) (a:=a) fe.u bM.i rfl (U.ext W) (by simpa using aU.sl) (by intro u hu;simp[gV,a] at hu;rcases hu with rfl|rfl|rfl<;>first|rfl|exact ap.ls.cells.2|exact av.ls.cells.2) Ω Ω λbJ aV ax aW aX ay=>?_;have bK:∀r,leadsTo out r->r=g/\r<V.heap.size:=λr I=>by obtain⟨az,bL⟩:=U.leads I;omega
  have aY:Ext w ax:=(J.trans W).then ay λr I he=>by have:=aa r he;omega
  rw[aN];refine aF _ _ ⟨aY,aV,⟨O++[a],aW,by simp[an,aw];omega,λq y f Y X=>?_⟩,λr I=>(aX r I).elim (aa r) λh=>Ω⟩;have a7:∀ {v:x1} {aZ:Nat} {l:Λ},au .i64 ab aT aZ v l-> ∃g,au .i64 ab ax g v l:=λhm=>⟨_,bc hm ay λr I he=>by
   obtain⟨az,c,a1⟩:=dm (U.ext W) he;exact bX hm a1 Φ I az⟩
  by_cases a2:q<O.length
  .rw[j9 a2] at Y;rw[List.getElem?_take] at X;split at X
   .obtain⟨a8,⟨_,ba⟩,_,bb⟩:=aE q y f Y (by rw[List.getElem?_take,if_pos Ω];exact X);exact⟨a8,a7 (ba.ext W),a7 (bb.ext W)⟩
   .cases X
  .have bd:q=O.length:=by have:=(x4.1 Y).1;simp at this;omega
   subst bd;rw[Z2 (o8 _),W9] at Y;rw[an,aw,List.getElem?_take,if_pos Ω,ag] at X;cases Y;cases X;exact⟨aG,a7 (ap.ext ad),a7 (av.ext ad)⟩
 .rintro out V aD ⟨J,g,U,aa⟩;rw[aq,ae];refine⟨λh=>Ω,λ_=>⟨J,g,?_,aa⟩⟩;rw[l5 Ω] at U;exact U
end
theorem r7 {out:x1} {g:Nat} {x:Int} (hm:au .i64 ao w g out l) (ae:l.length<=1000000000000)
  (J:∀v w' V,ag (λr=>leads out r) w w'->au .i64 ao w' V v (l++[x])->(∀r,leads v r->leads out r\/w.heap.size<=r)->K v w'):
  aA x3 (Z7 aw 1 #[(0,Δ x)]) w λy U=>aA x3 (l9 #[aw,aw] aw #[out,y]) U K:=by
 refine dx (k:=.i64) aw.u ao.i rfl λv4 af ah ai I W=>?_;refine eY aw.u ao.i rfl (hm.ext I) W.ls Θ Θ λv5 X aj Y ab ac=>?_;have z:=I.size;exact J _ _ X ((I.aa _).trans ac) Y λr ad=>(ab r ad).imp id λh=>Ω
def lO (l:Λ):Λ:=(l.length:Int)::l
def mV (w:x2) (out v:x1) (l:Λ) (w':x2):Prop:=ag (λr=>leads out r) w w'/\(∃g,au .i64 ao w' g v l)/\ ∀r,leads v r->leads out r\/w.heap.size<=r
theorem mV.trans {U V:x2} {o u:x1} {l':Λ} (h:mV w o v l U) (k:mV U v u l' V):mV w o u l' V:=by
 obtain⟨h1,_,W⟩:=h;obtain⟨X,aa,ab⟩:=k;have z:=h1.size;have ac:=X.size;exact⟨⟨Ω,λr x J I Y=>X.a7 r x (h1.a7 r x J I Y) I λh=>(W r h).elim Y λh=>by have:=(j6.1 J).1;omega⟩,aa,λr J=>(ab r J).elim (W r) λh=>.inr Ω⟩
theorem Ca {J:o6} {I:r9} {g U:Nat} {w':x2} {u:x1} {l':Λ} (h:au k e w g v l) (h':au J I w U u l') (he:e≠I) (V:ag (λr=>leads u r) w w'):au k e w' g v l:=bc h V λr W hu=>by
 obtain⟨aa,X⟩:=js h r W;obtain⟨ab,Y⟩:=js h' r hu;exact he (dP X Y)
theorem My {I:r9} {g b:Nat} {w':x2} {u:x1} (J:af w b I cs) (h:au k e w g u l) (he:e≠I) (U:ag (λr=>leads u r) w w'):af w' b I cs:=J.aa U λhu=>by
 obtain⟨W,V⟩:=js h b hu;exact he (dP V J)
theorem sa {out J:x1} {g W:Nat} {o:Λ} (hm:au .i64 ao w g out o) (X:au .i64 ab w W J l) (ay:o.length+l.length<=100000000000):ak x3 DJ [out,J] w λv w'=>mV w out v (o++lO l) w':=by
 refine aB func120 ?_;rw[aT ai.u X.ls];refine r7 hm Ω λah U g1 Y aj al=>?_;have aa:=Ca X hm Φ Y;have am:mV w out ah (o++[(l.length:Int)]) U:=⟨Y,⟨g1,aj⟩,al⟩;rw[aT ai.u aa.ls];refine bE.range l.length (λi a V=>mV w out a (o++(l.length:Int)::l.take i) V/\au .i64 ab V W J l) Ω ⟨by rw[List.take_zero];exact am,aa⟩ ?_ ?_
 .rintro i a V an hi ⟨I,ac⟩ ap;obtain⟨x,ad⟩:∃x,l[i]? =σ x:=⟨_,y0 hi⟩;obtain⟨_,⟨az,af⟩,_⟩:=id I;refine Υ λ_=>?_;rw[bd ai.u ab.i Ψ ac.ls ad];refine r7 af (by rw[u9,j5,o4];omega) λv3 aA av ag aw ax=>?_;rw[aN];refine ap _ _ ⟨I.trans ⟨ag,⟨av,?_⟩,ax⟩,Ca ac af Φ ag⟩;rw[r8,ad];simpa using aw
 .rintro a V an ⟨I,_⟩;rw[aq,ae];refine⟨λh=>Ω,λ_=>?_⟩;rw[o9] at I;exact I
def hX (s:aF) (sc t:Λ):Bool:=(sc.zip t).all λp=>match s.vars[p.1.toNat]? with
 |some x=>decide (p.2∈cu x)
 |none=>false
section
variable {w:x2} {al ah:Nat} {A R:aj} {n:aV} {s:aF} {t:aD}
theorem Mz {av aE:x1} {szs I:Λ} {at_:Int} (h:b7 w al ah A R n s t) (X:aJ .i64 w az sc) (ay:aJ .i64 w av szs) (aA:∀v∈sc,0<=v/\v<n.sizes.length) (aC:aJ .i64 w aE I) (aU:I.length=sc.length):
  ak x3 DL [Γ al,.agg #[az,av,Δ at_],aE] w λr w'=>r= .bool (hX s sc I)/\Ext w w':=by
 have aV:=h.2.2.2.1.vars;refine aB func122 ?_;refine bN λg1 U aW au Y=>?_;have Y:af U g1 cE [az,av,Δ at_]:=by
  obtain⟨_,_,_,aD⟩:=bZ X;obtain⟨_,_,_,aF⟩:=bZ ay;rw[aD,aF] at Y ⊢;exact Y
 rw[bC cE.p 0 Y rfl,aT ai.u (X.ext au)];refine bE.range sc.length (λi _ V=>Ext w V/\hX s (sc.take i) (I.take i)=true) X.le ⟨au,rfl⟩ ?_ ?_
 .rintro i aG V aH hi ⟨aa,J⟩ aI;obtain⟨v,ac⟩:∃v,sc[i]? =σ v:=⟨_,y0 hi⟩;obtain⟨y,am⟩:∃y,I[i]? =σ y:=⟨_,y0 Ω⟩;have aw:=aA v (x5 ac);obtain⟨x,ag⟩:∃x,s.vars[v.toNat]? =σ x:=⟨_,y0 Ω⟩;refine Υ λ_=>?_;rw[bd ai.u ab.i Ψ (X.ext aa) ac];intro aX aK _ _;have aj:=aa.trans aK;refine qX rfl ai.u ab.i (aC.ext aj) am λb o aL=>?_;rw[ad (v:=Δ y) Ψ aL];refine (og (i:=v) (h.ext aj)).mono ?_;rintro _ aY _ ⟨⟨b,m,rfl,an⟩,ao⟩;refine⟨.inl ao,?_⟩;refine (Bw an.1).mono ?_;rintro _ aZ _ ⟨rfl,ax⟩;obtain⟨hm,aM⟩:=an.2.2 x aw.1 ag;have a1:=r3 an aw.1 ag;have aO:(decide (0<=y/\y<(m:Int))&&b.testBit y.toNat)=decide (y∈cu x):=by
   rw[aM,hm];by_cases W:0<=y/\y<(x.un.length:Int)
   .rw[decide_eq_true W,V6,decide_eq_true Ω,V6,Int.toNat_of_nonneg W.1];have:=K5 (x:=x) W;rw[V8,decide_eq_true_eq];simpa using this.symm
   .rw[decide_eq_false W,Bool.false_and];symm;refine decide_eq_false λhm=>W ?_;unfold cu at hm;obtain⟨h1,_⟩:=List.mem_filter.1 hm;obtain⟨q,aP,rfl⟩:=Z1.1 h1;have:=List.mem_range.1 aP;omega
  have aQ:(sc.take (i+1)).zip (I.take (i+1))=(sc.take i).zip (I.take i)++[(v,y)]:=by
   rw[r8,r8,ac,am,Z4,Z4,List.zip_append Θ];rfl
  have aR:hX s (sc.take (i+1)) (I.take (i+1))=decide (y∈cu x):=by
   unfold hX at J ⊢;rw[aQ,List.all_append,J,V6];simp[ag]
  rw[aO,bf,bD];refine⟨λap=>?_,λap=>?_⟩
  .refine⟨?_,(aj.trans ao).trans ax⟩;congr 1;symm;have aS:(v,y)∈sc.zip I:=x5 (List.getElem?_zip_eq_some.2 ⟨ac,am⟩);unfold hX;rw[List.all_eq_false];exact⟨_,aS,by simp only[ag];simpa using ap⟩
  .rw[aN];exact aI _ _ ⟨(aj.trans ao).trans ax,by rw[aR];simpa using ap⟩
 .rintro aG V aH ⟨aa,J⟩;rw[aq,ae];refine⟨λh=>Ω,λ_=>⟨?_,aa⟩⟩;rw[o9,l5 Ω] at J;rw[J]
end
def il (x:e9):Λ:=if x.gone≠0 then[] else (cu x).map λv=>x.un.getD v.toNat 0
def im (x:e9):Λ:=[x.gone]++lO (cu x)++il x
def hv (s:aF) (f:et):Λ:=if f.live≠0 then lO f.sc++((bm f.szs).filter (hX s f.sc)).map (cM f.szs f.cs) else[]
def kZ (e:hp):Λ:=[-1,e.v]++lO e.sc++lO e.ea
def p1 (s:aF):Λ:=[s.zero]++s.vars.flatMap im++s.funs.flatMap (hv s)++s.elims.flatMap kZ
theorem ou (l:Λ):(lO l).length=l.length+1:=rfl
def gI (w w':x2) (al g1 go:Nat) (l:Λ):Prop:=Ext w w'/\af w' g1 dQ [Γ al]/\ ∃v g,af w' go aw [v]/\au .i64 ao w' g v l/\ ∀r,leads v r->w.heap.size<=r
section
variable {w U V:x2} {al ah g1 go:Nat} {A R:aj} {n:aV} {s:aF} {t:aD} {l l':Λ}
theorem gI.ext (h:gI w U al g1 go l) (I:Ext U V):gI w V al g1 go l:=by
 obtain⟨h1,J,v,g,W,X,Y⟩:=h;exact⟨h1.trans I,J.ext I,v,g,W.ext I,X.ext I,Y⟩
theorem gI.put {u:x1} {g:Nat} {K:Unit->x2->Prop} (ab:Ext w U) (ah:w.heap.size<=go) (W:af U g1 dQ [Γ al]) (J:af U go aw [u]) (hm:au .i64 ao U g v l) (ac:∀r,leads v r->w.heap.size<=r)
  (ad:∀V,ag (λr=>r=go) U V->gI w V al g1 go l->K () V):aA x3 (o5 aw (Γ go) v) U K:=by
 have X:=hm.ls.cells;refine bh (g:=go) (o:=0) aw.i X.1 X.2 J Ξ λV I ai ae=>ad V I ⟨ab.then I λr Y he=>by have he:r=go:=he;omega,W.aa I λhe=>?_,v,g,ae,bc hm I λr Y he=>?_,ac⟩
 .have he:g1=go:=he;subst he;exact absurd (dP W J) Φ
 .have he:r=go:=he;subst he;obtain⟨c,b⟩:=js hm r Y;exact absurd (dP b J) Φ
theorem side {g b:Nat} (I:af U b e cs) (hm:au .i64 ao U g v l) (he:ao≠e) (J:ag (λr=>leads v r) U V):af V b e cs:=My I hm he J
theorem p2 {u:x1} {b:Nat} (I:af U b e cs) (J:af U go aw [u]) (he:aw≠e) (W:ag (λr=>r=go) U V):af V b e cs:=I.aa W λh=>by
 have h:b=go:=h;subst h;exact he (dP J I)
end
theorem ja {α β:Type} {f:α->List β} {L:List α} {b:Nat} (h:∀a∈L,(f a).length<=b):(L.flatMap f).length<=L.length*b:=by
 induction L with
 |nil=>simp
 |cons a L I=>
  rw[V5,u9,j5,U5,Nat.one_mul];have:=h a Ξ;have:=I λa J=>h a (by simp[J]);omega
section
variable {w:x2} {al ah:Nat} {A R:aj} {n:aV} {s:aF} {t:aD}
theorem MA {k:Int} {sizes:Λ} (I:eB k sizes s):∀x∈s.vars,(im x).length<=66:=λx J=>by
 obtain⟨i,hi⟩:=Y7.1 J;have U:=I.vars;have V:=(x4.1 hi).1;obtain⟨W,_⟩:=I.var i x _ hi (y0 Ω);have X:=I.eu.2.2 _ (T6 (l:=sizes) (n:=i) Ω);have:=vu x;have hu:(il x).length<=(cu x).length:=by unfold il;split<;>simp
 unfold im;rw[u9,u9,ou];simp;omega
theorem MB {k:Int} {sizes:Λ} (J:eB k sizes s):∀f∈s.funs,(hv s f).length<=4103:=λf X=>by
 obtain⟨I,U,_⟩:=J.funs f X;have Y:dN f.szs:=by rw[U];exact lA J.eu.2.2 λv V=>⟨(I.scope.1 v V).1,I.vars v V⟩
 have h1:=hd Y;have aa:aM f.szs<=4096:=by rw[U];exact I.small
 have ab:=S9 (hX s f.sc) (bm f.szs);have W:=I.scope.2;have W:f.sc.length<=6:=W;unfold hv;split
 .rw[u9,ou,u4];omega
 .simp
theorem vv (h:b7 w al ah A R n s t) (cm:Laid w) (W:lN s) (gc:s.funs.length<=100000) (gd:s.elims.length<=100000):ak x3 De [Γ al] w λv w'=>Ext w w'/\ ∃g,au .i64 ao w' g v (p1 s)/\ ∀r,leads v r->w.heap.size<=r:=by
 have aJ:=h.2.2.2.1;have gf:=aJ.vars;have gh:=aJ.eu.2.1;have dg:=MA aJ;have dh:=MB aJ;obtain⟨⟨gi,gj,gk,gl,eE⟩,_⟩:=id h;obtain⟨_,_,_,_,cn,cp,_,_,dj,_,_,_,⟨cq,dk⟩,cr,dl⟩:=id eE;have gm:cn.length=s.funs.length:=dk.1;have gn:cp.length=s.elims.length:=dl.1;refine lk func43 ?_;refine bN λg1 U gp ct bo=>?_;have bo:af U g1 dQ [Γ al]:=bo;rw[ad (v:=Γ al) Ψ (bo.Qz rfl),cC dQ.u];simp only[Z0,aS];rw[ad (v:=Γ al) Ψ (bo.Qz rfl)];refine (u1 (h.ext ct)).mono ?_;rintro _ gq _ ⟨rfl,dm⟩;refine dx (k:=.i64) aw.u ao.i rfl λv4 gr gt gu dn dp=>?_;refine bp aw.i λgo eF a8 dq ap=>?_;have gv:=ct.size;have z3:=dm.size;have z4:=dn.size;have bV:=(dm.trans dn).trans dq;have ap:af eF go aw [.slice ν 0 0]:=ap;refine gI.put (w:=w) (g1:=g1) (ct.trans bV) Ω (bo.ext bV) ap (dp.ext dq) (λr V=>by obtain⟨e,_⟩:=bA dp V;omega) λgw gx cw=>?_;rw[ad (v:=Γ al) Ψ (cw.2.1.Qz rfl)];refine (r0 (h.ext cw.1)).mono ?_;rintro _ gy _ ⟨rfl,eH⟩;have a8:w.heap.size<=go:=Ω
 refine bP.range n.sizes.length (λi bW=>gI w bW al g1 go ([s.zero]++(s.vars.take i).flatMap im)) Ω (by rw[List.take_zero,List.flatMap_nil,X6];exact cw.ext eH) ?_ ?_
 .rintro i bW eI hi aA eJ;obtain⟨x,aR⟩:∃x,s.vars[i]? =σ x:=⟨_,y0 Ω⟩;have br:([s.zero]++(s.vars.take i).flatMap im).length<=100000:=by
   have:=ja (L:=s.vars.take i) (f:=im) (b:=66) λa bu=>dg a (U3 bu);rw[o4] at this;rw[u9];have ax:min i s.vars.length*66<=64*66:=Y5 _ Ω;simp only[U2];omega
  generalize bw:[s.zero]++(s.vars.take i).flatMap im=aL at aA br;have bx:[s.zero]++(s.vars.take (i+1)).flatMap im=aL++im x:=by
   rw[<-bw,r8,aR,Z4,List.flatMap_append,List.flatMap_singleton,X1]
  refine Υ λ_=>?_;refine bp ab.i λaT eK gz eL cz=>?_;have cz:af eK aT ab [Δ 0]:=cz;refine bh (g:=aT) (o:=0) ab.i rfl rfl cz Ξ λdr eN gA cA=>?_;have cA:af dr aT ab [Δ (i:Int)]:=cA;have eO:Ext bW dr:=eL.then eN λr V he=>by have he:r=aT:=he;omega
  intro gB ds _ _;have cB:=cA.ext ds;obtain⟨aO,bX,v,g,ap,hm,aU⟩:=aA.ext (eO.trans ds);obtain⟨gC,gD,gE,gF,gH,gJ,L,gK,dt,gL,eP,eQ,gM,gN⟩:=(h.ext aO).1.parts;have an:∀ {ay:x2} {K:x1->Prop},af ay g1 dQ [Γ al]->K (Γ al)->J x3 (x6 dQ (Γ g1)) ay K:=λW aV=>by
   rw[ad (v:=Γ al) Ψ (W.Qz rfl)];exact aV
  have bz:∀ {ay:x2} {K:x1->Prop},af ay aT ab [Δ (i:Int)]->K (Δ (i:Int))->J x3 (x6 ab (Γ aT)) ay K:=λW aV=>by
   rw[ad (v:=Δ (i:Int)) Ψ (W.Qz rfl)];exact aV
  rw[ad (v:=v) Ψ (ap.Qz rfl)];refine an bX ?_;rw[ix bt.p 1 dt rfl];refine an bX ?_;rw[ix bt.p 2 dt rfl];refine bz cB ?_;rw[dY (y:=(i:Int)) (i:=i) rfl ai.u ab.i Ψ eQ.ls (oc Ω)];refine an bX (bz cB ?_);have bY:t.bT[eM s i+0]? =σ x.gone:=by rw[h.2.1,n3 aR Ω];rfl
  refine (jY (i:=eM s i) eP rfl bY).mono ?_;rintro _ gO _ ⟨rfl,cD⟩;refine⟨.inl cD,?_⟩;refine dx (k:=.i64) aw.u ao.i rfl λgP gQ gR gS du eR=>?_;refine⟨.inl (cD.trans du),?_⟩;have ba:=cD.trans du;have aB:=hm.ext ba;refine eY aw.u ao.i rfl aB eR.ls Θ Θ λcH eS cI aC cJ aD=>?_;have eU:=aO.size;have gT:=ba.size;have bB:∀r,leads cH r->w.heap.size<=r:=λr V=>(cJ r V).elim (aU r) λh=>Ω
  have aP:Ext w cI:=(aO.trans ba).then aD λr V he=>by have:=aU r he;omega
  have dv:=side (cB.ext ba) aB Φ aD;have bZ:=side (bX.ext ba) aB Φ aD;have cK:=side (ap.ext ba) aB Φ aD;refine⟨.inr ⟨hI Ψ (dv.Qz rfl),hI Ψ (bZ.Qz rfl),trivial⟩,?_⟩;refine (og (i:=(i:Int)) (h.ext aP)).mono ?_;rintro _ gU _ ⟨⟨gW,gX,rfl,dw⟩,bV⟩;refine tF.mono ?_;rintro _ dy _ ⟨eV,dz,rfl,gY,cL⟩;have dA:=r3 dw Ω (by rw[j0];exact aR);have dC:=bV.trans eV;have gZ:=vu x;have g0:=(aJ.var i x _ aR (y0 hi)).1;have g2:=aJ.eu.2.2 _ (T6 hi);refine (um (L:=cu x) (tE (g:=dz) dw.1) (λk vs w eW=>by
    obtain⟨v,aW,rfl⟩:=eW;exact⟨v,by rw[<-dA,x8,aW];rfl,rfl⟩) (λa b bY dD=>⟨dD.1.aa bY λh=>by have:=cL.lt;have h:dy.heap.size<=dz:=h;omega,nq bY (λh=>by have h:dy.heap.size<=0:=h;have:=cL.lt;omega) dD.2⟩) ⟨cL,cm.ext (aP.trans dC)⟩ (by rw[<-dA,u4]) Ω).mono ?_
  rintro g3 g4 _ ⟨eX,g5,_,eZ⟩;have aF:=dC.trans eX;refine (sa (aC.ext aF) eZ Θ).mono ?_;rintro b0 bE _ ⟨Y,⟨dE,aX⟩,bG⟩;have e0:=aP.size;have g6:=aF.size;have b1:∀r,leads b0 r->w.heap.size<=r:=λr V=>(bG r V).elim (bB r) λh=>Ω
  have aY:Ext w bE:=(aP.trans aF).then Y λr V he=>by have:=bB r he;omega
  have e1:=side (dv.ext aF) (aC.ext aF) Φ Y;have cN:=side (bZ.ext aF) (aC.ext aF) Φ Y;have b2:=side (cK.ext aF) (aC.ext aF) Φ Y;refine gI.put (w:=w) (g1:=g1) aY a8 cN b2 aX b1 λb3 aZ bI=>?_;have dF:=p2 e1 b2 Φ aZ;refine an bI.2.1 (bz dF ?_);refine (og (i:=(i:Int)) (h.ext bI.1)).mono ?_;rintro _ e2 _ ⟨⟨e3,e4,rfl,dG⟩,e5⟩;refine tF.mono ?_;rintro _ g7 _ ⟨e6,dH,rfl,e7,e8⟩;have dJ:=e5.trans e6;have dK:=r3 dG Ω (by rw[j0];exact aR);have dL:=bI.ext dJ;let dM:=aL++[x.gone]++lO (cu x);refine na.old ⟨Nat,false,l2,#[Γ dH],_,_,_,_,λq w'=>gI w w' al g1 go (dM++(il x).take q)/\af w' aT ab [Δ (i:Int)],λ_ _ _=>False,rfl,(tE (g:=dH) dG.1).s,?_,
   λ_ _ X h=>⟨h.1.ext X,h.2.ext X⟩,λ_ _ _ X h=>⟨h.1.ext X,h.2.ext X⟩,λ_ _ _ _ _ h=>h,⟨e8,cm.ext dL.1⟩,⟨by rw[List.take_zero,X6];exact dL,dF.ext dJ⟩,?_,?_,λ_ _ h=>h.elim,λ_ _ _ h=>h.elim⟩
  .rintro _ _ _ _ ⟨_,_,_,_,rfl⟩;rfl
  .rintro _ q _ dO ⟨dP,e9⟩ ⟨b4,rfl,y,b5,fa⟩ ⟨b6,cO⟩;cases fa;intro g8 cP _ _;have cQ:=b6.ext cP;have cR:=cO.ext cP;have dS:(cu x)[q]? =σ (y:Int):=by rw[<-dK,x8,b5];rfl
   have dT:=x5 dS;have g9:0<=(y:Int)/\(y:Int)<x.un.length:=by
    unfold cu at dT;obtain⟨h1,_⟩:=List.mem_filter.1 dT;obtain⟨j,a1,e⟩:=Z1.1 h1;have:=List.mem_range.1 a1;omega
   refine an cQ.2.1 (bz cR ?_);refine (u3 (i:=(i:Int)) (v:=(y:Int)) (h.ext cQ.1)).mono ?_;rintro _ ha _ ⟨rfl,b8⟩;have fb:ev n i y:=⟨Ω,Ω,Ω,by rw[j0,u5,y0 hi,T4];omega⟩;have fc:kT s (i:Int).toNat (y:Int).toNat=x.un.getD y 0:=by
    rw[j0,j0];unfold kT;rw[aR]
   have bJ:=cQ.ext b8;rw[if_pos fb,fc,aK (v:=Δ (x.un.getD y 0)) rfl,aK (v:=Δ 0) rfl];refine an bJ.2.1 (bz (cR.ext b8) ?_);refine (pN (i:=(i:Int)) (h.ext bJ.1)).mono ?_;rintro _ hb _ ⟨rfl,b9⟩;have ff:(decide (0<=(i:Int))&&fd s (i:Int).toNat)=decide (x.gone≠0):=by
    rw[decide_eq_true Ω,V6,j0];unfold fd;rw[aR]
   have ca:=(cP.trans b8).trans b9;rw[ff,bf,bD];refine⟨λa2=>?_,λa2=>?_⟩
   .have bb:¬x.gone≠0:=by simpa using a2
    obtain⟨bK,cS,v5,fg,aQ,ag,bL⟩:=bJ.ext b9;rw[ad (v:=v5) Ψ (aQ.Qz rfl)];have fh:((il x).take q).length<=100:=by rw[o4];unfold il;rw[if_neg bb,u4];omega
    refine r7 ag (by simp only[dM,u9,ou,U2];omega) λfi cT fj aj cU cV=>?_;have fk:=bK.size;have cW:Ext w cT:=bK.then aj λr V he=>by have:=bL r he;omega
    refine gI.put (w:=w) (g1:=g1) cW a8 (side cS ag Φ aj) (side aQ ag Φ aj) cU (λr V=>(cV r V).elim (bL r) λh=>Ω) λcX cb bc=>?_;have fm:=p2 (side ((cR.ext b8).ext b9) ag Φ aj) (side aQ ag Φ aj) Φ cb;have cY:=e7;have fo:∀ {b:Nat} {e:r9} {cs:List x1},af dO b e cs->ao≠e->aw≠e->af cX b e cs:=λW h1 ax=>p2 (side (W.ext ca) ag h1 aj) (side aQ ag Φ aj) ax cb;refine⟨⟨fo dP Φ Φ,cm.ext bc.1⟩,⟨?_,fm⟩,λh=>by cases h⟩;rw[r8,show (il x)[q]? =σ (x.un.getD y 0) by unfold il;rw[if_neg bb,x8,dS];rfl,Z4,<-X1];exact bc
   .have bb:x.gone≠0:=by simpa using a2
    refine⟨⟨dP.ext ca,e9.ext ca⟩,⟨?_,cO.ext ca⟩,λh=>by cases h⟩;have e:il x=[]:=by unfold il;rw[if_pos bb]
    rw[e,List.take_nil] at bJ ⊢;exact bJ.ext b9
  .rintro q dO rfl ⟨b6,cO⟩;rw[aN];refine eJ _ ?_;rw[bx];have:(il x).take (gg e3 e4).length=il x:=l5 (by
    unfold il;split
    .simp
    .rw[u4,<-dK,u4];exact o8 _)
   rw[this] at b6;unfold im;rw[<-X1,<-X1];exact b6
 .rintro bW eI aA;rw[aq,ae];refine⟨λh=>Ω,λ_=>?_⟩;rw[l5 Ω] at aA;have fp:([s.zero]++s.vars.flatMap im).length<=100000:=by
   have:=ja (L:=s.vars) (f:=im) (b:=66) dg;have ax:s.vars.length*66<=64*66:=Y5 _ Ω;rw[u9];simp only[U2];omega
  have an:∀ {ay:x2} {K:x1->Prop},af ay g1 dQ [Γ al]->K (Γ al)->J x3 (x6 dQ (Γ g1)) ay K:=λW aV=>by
   rw[ad (v:=Γ al) Ψ (W.Qz rfl)];exact aV
  refine an aA.2.1 ?_;rw[ix bt.p 3 (dj.ext aA.1) rfl,c9 dR.u (cq.ext aA.1)];unfold p1;generalize[s.zero]++s.vars.flatMap im=bd at aA fp;refine bP.range cn.length (λj cc=>gI w cc al g1 go (bd++(s.funs.take j).flatMap (hv s))) Ω (by rw[List.take_zero,List.flatMap_nil,X6];exact aA) ?_ ?_
  .rintro j cc fq a1 am fs;obtain⟨f,be⟩:∃f,s.funs[j]? =σ f:=⟨_,y0 Ω⟩;obtain⟨y,b5⟩:∃y,cn[j]? =σ y:=⟨_,y0 a1⟩;obtain⟨⟨⟨ft,bg⟩,_⟩,fu,_⟩:=dk.2 j y f b5 be;have cd:=fu.ls;obtain⟨bi,cZ,_⟩:=aJ.funs f (x5 be);have ce:dN f.szs:=by rw[cZ];exact lA aJ.eu.2.2 λv aW=>⟨(bi.scope.1 v aW).1,bi.vars v aW⟩
   have hc:f.sc.length<=6:=bi.scope.2;have fv:f.szs.length=f.sc.length:=by rw[cZ];unfold bF;rw[u4]
   have fw:bS f.szs:=⟨Ω,ce⟩;have hf:=hd ce;have hg:aM f.szs<=4096:=by rw[cZ];exact bi.small
   have br:(bd++(s.funs.take j).flatMap (hv s)).length<=1000000000:=by
    have:=ja (L:=s.funs.take j) (f:=hv s) (b:=4103) λa bu=>dh a (U3 bu);rw[o4] at this;have ax:min j s.funs.length*4103<=100000*4103:=Y5 _ Ω;rw[u9];omega
   generalize bw:bd++(s.funs.take j).flatMap (hv s)=aL at am br;have bx:bd++(s.funs.take (j+1)).flatMap (hv s)=aL++hv s f:=by
    rw[<-bw,r8,be,Z4,List.flatMap_append,List.flatMap_singleton,X1]
   refine Υ λ_=>?_;refine di (λdU=>gI w dU al g1 go (aL++hv s f)) (λdU fx=>by rw[aN];exact fs _ (by rw[bx];exact fx)) λhh dV=>?_;rw[cG rfl dR.u cE.i (cq.ext am.1) a1,bn cE.p cE.i rfl ((cq.ext am.1).range b5)];refine bp ab.i λaG dW hj cg bj=>?_;have bj:af dW aG ab [Δ 0]:=bj;refine bp cE.i λbO dX hk dZ ea=>?_;refine bh (g:=aG) (o:=0) ab.i rfl rfl (bj.ext dZ) Ξ λc0 eb hl c1=>?_;have c1:af c0 aG ab [Δ (j:Int)]:=c1;have hn:=cg.size;have ho:=bj.lt;have c2:=(bg.ext am.1).ls;have fy:=cd.ext am.1;refine bH (vs:=jn y) cE.i rfl rfl (by intro u hu;simp[jn] at hu;rcases hu with rfl|rfl|rfl<;>first|rfl|exact c2.cells.2|exact fy.cells.2) (ea.aa eb λhe=>by have he:bO=aG:=he;omega) λed ee hp fz=>?_;have ef:=c1.aa ee λhe=>by have he:aG=bO:=he;omega
   have fA:Ext cc ed:=((cg.trans dZ).then eb λr V he=>by have he:r=aG:=he;omega).then ee λr V he=>by have he:r=bO:=he;omega
   have c3:=am.ext fA;have eg:∀ {ay:x2} {K:x1->Prop},af ay aG ab [Δ (j:Int)]->K (Δ (j:Int))->J x3 (x6 ab (Γ aG)) ay K:=λW aV=>by
    rw[ad (v:=Δ (j:Int)) Ψ (W.Qz rfl)];exact aV
   refine an c3.2.1 (eg ef ?_);refine (lI (j:=(j:Int)) (h.ext c3.1)).mono ?_;rintro _ eh _ ⟨rfl,bQ⟩;have ei:=c3.ext bQ;have fB:(decide (0<=(j:Int))&&dI s (j:Int).toNat)=decide (f.live≠0):=by
    rw[decide_eq_true Ω,V6,j0];unfold dI;rw[be]
   rw[fB,bf,bD];refine⟨λa2=>dV _ ?_,λa2=>?_⟩
   .have bb:¬f.live≠0:=by simpa using a2
    unfold hv;rw[if_neg bb,X6];exact ei
   have cY:f.live≠0:=by simpa using a2
   obtain⟨c4,fC,fE,ge,c5,bR,ej⟩:=id ei;have fF:=ef.ext bQ;have ek:af eh bO cE [y.az,y.av,Δ (y.at_:Int)]:=fz.ext bQ;rw[ad (v:=fE) Ψ (c5.Qz rfl),bC cE.p 0 ek rfl];refine (sa bR (bg.ext c4) Ω).mono ?_;rintro b0 bE _ ⟨Y,⟨dE,aX⟩,bG⟩;have hq:=c4.size;have aY:Ext w bE:=c4.then Y λr V he=>by have:=ej r he;omega
   refine gI.put (w:=w) (g1:=g1) aY a8 (side fC bR Φ Y) (side c5 bR Φ Y) aX (λr V=>(bG r V).elim (ej r) λh=>Ω) λb3 aZ bI=>?_;have em:∀ {b:Nat} {e:r9} {cs:List x1},af eh b e cs->ao≠e->aw≠e->af b3 b e cs:=λW h1 ax=>p2 (side W bR h1 Y) (side c5 bR Φ Y) ax aZ;have fG:=em fF Φ Φ;have en:=em ek Φ Φ;rw[ac cE.p rfl,bn (cs:=[y.av]) bq.p bq.i rfl (λq u b4=>by
    cases q with
    |zero=>cases b4;exact en.Q1 rfl
    |succ q=>simp at b4)]
   refine rj.mono ?_;rintro _ hr _ ⟨c6,eo,rfl,hs,fH⟩;have c7:=bI.ext c6;have fI:=ri (g:=eo) (B0:=w.heap.size) (sv:=y.av) fw;refine k8.old ⟨Nat,false,jF,#[Γ eo],_,_,_,_,λq w'=>gI w w' al g1 go (aL++lO f.sc++(((bm f.szs).take q).filter (hX s f.sc)).map (cM f.szs f.cs))/\af w' aG ab [Δ (j:Int)]/\af w' bO cE [y.az,y.av,Δ (y.at_:Int)],λ_ _ _=>False,rfl,fI.s,
    ?_,λ_ _ X h=>⟨h.1.ext X,h.2.1.ext X,Y9 h.2.2 X.size⟩,λ_ _ _ X h=>⟨h.1.ext X,h.2.1.ext X,h.2.2.ext X⟩,λ_ _ _ _ _ h=>h,⟨fH,cd.ext c7.1,c7.1.size⟩,⟨by rw[List.take_zero,List.filter_nil,List.map_nil,X6];exact c7,fG.ext c6,en.ext c6⟩,?_,?_,λ_ _ h=>h.elim,λ_ _ _ h=>h.elim⟩
   .rintro _ _ _ _ ⟨_,_,_,_,rfl,_⟩;rfl
   .rintro _ aE q _ ep ⟨er,fJ,fK⟩ ⟨b4,rfl,ht,hx,fL,hy,es⟩ ⟨ch,c8,da⟩;cases fL;have ci:(bm f.szs)[q]? =σ (cF f.szs (q:Int)):=nG ce Ω;generalize cF f.szs (q:Int)=a6 at ci es;intro hz cj _ _;have db:=ch.ext cj;have et:=(es.ext cj).ls;refine an db.2.1 (eg (c8.ext cj) ?_);refine (u6 (j:=j) (h.ext db.1) et).mono ?_;rintro _ hA _ ⟨rfl,dc⟩;have fM:=nF ce ci;have fN:(ec s j a6).isSome=true:=by unfold ec;rw[be];simp only;rw[if_pos cY,fM];rfl
    have fO:hW s j a6=cM f.szs f.cs a6:=by unfold hW;rw[be]
    have bU:=db.ext dc;rw[if_pos fN,fO,aK (v:=Δ (cM f.szs f.cs a6)) rfl,aK (v:=Δ 0) rfl];refine an bU.2.1 ?_;have ew:=cj.trans dc;rw[bn cE.p cE.i rfl (da.ext ew).range];refine (Mz (at_:=(y.at_:Int)) (h.ext bU.1) ((bg.ext bU.1).ls) (cd.ext bU.1) (λv aW=>⟨(bi.scope.1 v aW).1,bi.vars v aW⟩) (et.ext dc) (by rw[xL ci,fv])).mono ?_;rintro _ hB _ ⟨rfl,ey⟩;have ez:=bU.ext ey;have bk:=ew.trans ey;have eA:((bm f.szs).take (q+1)).filter (hX s f.sc)=((bm f.szs).take q).filter (hX s f.sc)++(if hX s f.sc a6=true then[a6] else[]):=by
     rw[r8,ci,Z4,List.filter_append];congr 1;cases aI:hX s f.sc a6<;>simp[aI]
    rw[bD];refine⟨λdd=>?_,λdd=>?_⟩
    .obtain⟨bK,cS,v5,fg,aQ,ag,bL⟩:=ez;rw[ad (v:=v5) Ψ (aQ.Qz rfl)];have fh:(((bm f.szs).take q).filter (hX s f.sc)).length<=4096:=by
      have:=S9 (hX s f.sc) ((bm f.szs).take q);rw[o4] at this;omega
     refine r7 ag (by simp only[u9,ou,u4];omega) λfi cT fj aj cU cV=>?_;have fk:=bK.size;have cW:Ext w cT:=bK.then aj λr V he=>by have:=bL r he;omega
     refine gI.put (w:=w) (g1:=g1) cW a8 (side cS ag Φ aj) (side aQ ag Φ aj) cU (λr V=>(cV r V).elim (bL r) λh=>Ω) λcX cb bc=>?_;have de:∀ {b:Nat} {e:r9} {cs:List x1},af ep b e cs->ao≠e->aw≠e->af cX b e cs:=λW h1 ax=>p2 (side (W.ext bk) ag h1 aj) (side aQ ag Φ aj) ax cb;refine⟨⟨de er Φ Φ,cd.ext bc.1,bc.1.size⟩,⟨?_,de c8 Φ Φ,de da Φ Φ⟩,λh=>by cases h⟩;rw[eA,if_pos dd,Z3,List.map_singleton,<-X1];exact bc
    .refine⟨⟨er.ext bk,fJ.ext bk,Y9 fK bk.size⟩,⟨?_,c8.ext bk,da.ext bk⟩,λh=>by cases h⟩;rw[eA,if_neg (by rw[dd];decide),X6];exact ez
   .rintro q ep rfl ⟨ch,_⟩;refine dV _ ?_;rw[l5 Ω] at ch;unfold hv;rw[if_pos cY,<-X1];exact ch
  .rintro cc fq am;rw[aq,ae];refine⟨λh=>Ω,λ_=>?_⟩;rw[l5 Ω] at am;have fP:(bd++s.funs.flatMap (hv s)).length<=1000000000:=by
    have:=ja (L:=s.funs) (f:=hv s) (b:=4103) dh;have ax:s.funs.length*4103<=100000*4103:=Y5 _ Ω;rw[u9];omega
   refine an am.2.1 ?_;rw[ix bt.p 4 (dj.ext am.1) rfl,c9 fe.u (cr.ext am.1)];generalize bd++s.funs.flatMap (hv s)=ck at am fP;refine bP.range cp.length (λj cl=>gI w cl al g1 go (ck++(s.elims.take j).flatMap kZ)) Ω (by rw[List.take_zero,List.flatMap_nil,X6];exact am) ?_ ?_
   .rintro j cl fQ a1 aH fR;obtain⟨e,he⟩:∃e,s.elims[j]? =σ e:=⟨_,y0 Ω⟩;obtain⟨x,X⟩:∃x,cp[j]? =σ x:=⟨_,y0 a1⟩;obtain⟨bQ,⟨⟨ft,bg⟩,_⟩,⟨hC,eB⟩,_⟩:=dl.2 j x e X he;obtain⟨hD,ea⟩:=W e (x5 he);have br:(ck++(s.elims.take j).flatMap kZ).length<=10000000000:=by
     have:=ja (L:=s.elims.take j) (f:=kZ) (b:=2004) λa bu=>by
      obtain⟨h1,ax⟩:=W a (U3 bu);unfold kZ;simp only[u9,ou,j5,List.length_nil];omega
     rw[o4] at this;have ax:min j s.elims.length*2004<=100000*2004:=Y5 _ Ω;rw[u9];omega
    generalize bw:ck++(s.elims.take j).flatMap kZ=aL at aH br;have bx:ck++(s.elims.take (j+1)).flatMap kZ=aL++kZ e:=by
     rw[<-bw,r8,he,Z4,List.flatMap_append,List.flatMap_singleton,X1]
    refine Υ λ_=>?_;rw[cG rfl fe.u bM.i (cr.ext aH.1) a1,bn bM.p bM.i rfl ((cr.ext aH.1).range X)];refine bp bM.i λge dW hE cg bj=>?_;have c2:=(bg.ext aH.1).ls;have fS:=(eB.ext aH.1).ls;refine bH (vs:=gV x) bM.i rfl rfl (by intro u hu;simp[gV] at hu;rcases hu with rfl|rfl|rfl<;>first|rfl|exact c2.cells.2|exact fS.cells.2) bj λdX fU hF bl=>?_;have fV:Ext cl dX:=cg.then fU λr V he=>by have he:r=ge:=he;omega
    intro c0 eC _ _;have bl:af c0 ge bM [Δ x.v,x.az,x.bv]:=bl.ext eC;obtain⟨aO,I,v,g,ap,hm,aU⟩:=aH.ext (fV.trans eC);rw[ad (v:=v) Ψ (ap.Qz rfl),bC bM.p 0 bl rfl,bC bM.p 1 bl rfl,bC bM.p 2 bl rfl,bQ];refine ny (l:=[-1,e.v]) aw.u ao.i Ω rfl Ψ λhG hH ed hJ a7 fW=>?_;refine⟨.inl a7,?_⟩;have aB:=hm.ext a7;refine eY aw.u ao.i rfl aB fW.ls Θ Θ λcH eS cI aC cJ aD=>?_;have eU:=aO.size;have hK:=a7.size;have bB:∀r,leads cH r->w.heap.size<=r:=λr V=>(cJ r V).elim (aU r) λh=>Ω
    have aP:Ext w cI:=(aO.trans a7).then aD λr V he=>by have:=aU r he;omega
    have df:=side (bl.ext a7) aB Φ aD;have bZ:=side (I.ext a7) aB Φ aD;have cK:=side (ap.ext a7) aB Φ aD;refine⟨.inr ⟨hI Ψ (df.Q2 rfl),Go.Vc.fD λK=>ac bM.p rfl,hI Ψ (df.Q1 rfl),Go.Vc.fD λK=>ac bM.p rfl,trivial⟩,?_⟩;refine (sa aC (bg.ext aP) Θ).mono ?_;rintro b0 bE _ ⟨Y,⟨dE,aX⟩,bG⟩;have e0:=aP.size;have b1:∀r,leads b0 r->w.heap.size<=r:=λr V=>(bG r V).elim (bB r) λh=>Ω
    have aY:Ext w bE:=aP.then Y λr V he=>by have:=bB r he;omega
    have fX:=side df aC Φ Y;have cN:=side bZ aC Φ Y;have b2:=side cK aC Φ Y;refine⟨.inr ⟨hI Ψ (fX.Q2 rfl),Go.Vc.fD λK=>ac bM.p rfl,trivial⟩,?_⟩;refine (sa aX (eB.ext aY) (by simp[ou];omega)).mono ?_;rintro hL b3 _ ⟨aZ,⟨hM,fY⟩,fZ⟩;have hN:=aY.size;have ga:Ext w b3:=aY.then aZ λr V he=>by have:=b1 r he;omega
    refine gI.put (w:=w) (g1:=g1) ga a8 (side cN aX Φ aZ) (side b2 aX Φ aZ) fY (λr V=>(fZ r V).elim (b1 r) λh=>Ω) λe2 hO gb=>?_;rw[aN];refine fR _ ?_;rw[bx];unfold kZ;rw[<-X1,<-X1];exact gb
   .rintro cl fQ aH;rw[aq,ae];refine⟨λh=>Ω,λ_=>?_⟩;rw[l5 Ω] at aH;obtain⟨aO,I,v,g,ap,hm,aU⟩:=aH;rw[ad (v:=v) Ψ (ap.Qz rfl)];intro hP eD _;exact⟨aO.trans eD,g,hm.ext eD,aU⟩
end
theorem sb {cx cy:Bool} {a b:Bool} {K:x1->Prop} (I:x3.underlying t=σ .bool):J x3 (aC .neq t cx cy (.bool a) (.bool b)) w K=K (.bool !(a == b)):=
 xr (λ_=>rfl) rfl λw' _=>run_equalIn_bool' (P:=x3) (w:=w') 9999 t a b I
theorem MC {m:Bool} {S R:aj} {e:hp} (h:am.rep (α:=ii) m S R w cs (jt e)):∃az bv,cs=[Δ e.v,az,bv]/\Seen ef w [az] e.sc/\Seen ef w [bv] e.ea:=by
 obtain⟨U,ab,A,B,rfl,_,_,_,h1,V,W,ac,ad,rfl,_,_,_,I,J⟩:=h;have h1:U=[Δ e.v]:=h1;have I:Seen _ w V e.sc:=I;have J:Seen _ w W e.ea:=J;have one:∀ {α:Type} [am α] {m:Bool} {S R:aj} {c:List x1} {l:List α},am.rep m S R w c l-> ∃v,c=[v]:=λh=>by obtain⟨v,X,_⟩:=h;exact⟨v,X⟩
 obtain⟨Y,rfl⟩:=one I;obtain⟨aa,rfl⟩:=one J;subst h1;exact⟨Y,aa,rfl,hE I,hE J⟩
theorem Cb {b:Bool} {av aL:x1} {I J U:Λ} (h1:Seen ef w [az] I) (V:Seen ef w [av] J) (W:Seen ef w [aL] U):∀u∈[az,av,aL,.bool b],u.oneCell'=true:=by
 intro u hu;simp only[T1,List.not_mem_nil,or_false] at hu;rcases hu with rfl|rfl|rfl|rfl
 .exact gd h1
 .exact gd V
 .exact gd W
 .rfl
def mW (s:aF) (l:Λ) (m:Nat) (r:Int):Prop:=(r= -1/\ ∀ (q:Nat) g,q<m->s.funs[q]? =σ g->¬(g.live≠0/\g.sc=l))\/ ∃ (j:Nat) (f:et),r=j/\j<m/\s.funs[j]? =σ f/\f.live≠0/\f.sc=l/\ ∀ (q:Nat) g,q<j->s.funs[q]? =σ g->¬(g.live≠0/\g.sc=l)
theorem mW.step {s:aF} {r:Int} {g:et} (h:mW s l m r) (U:s.funs[m]? =σ g):mW s l (m+1) (if g.live≠0/\r<0/\g.sc=l then (m:Int) else r):=by
 rcases h with⟨rfl,h⟩|⟨j,f,rfl,ab,h1,W,X,Y⟩
 .by_cases I:g.live≠0/\g.sc=l
  .rw[if_pos ⟨I.1,Ω,I.2⟩];exact .inr ⟨m,g,rfl,Ω,U,I.1,I.2,λq y V J=>h q y V J⟩
  .rw[if_neg λh=>I ⟨h.1,h.2.2⟩];refine .inl ⟨rfl,λq y V J=>?_⟩;by_cases aa:q=m
   .subst aa;rw[U] at J;cases J;exact I
   .exact h q y Ω J
 .rw[if_neg λh=>Ω];exact .inr ⟨j,f,rfl,Ω,h1,W,X,Y⟩
theorem mW.find {s:aF} {r V:Int} (h:mW s l s.funs.length r) (k:BI s l V):V=r:=by
 rcases h with⟨rfl,h⟩|⟨j,f,rfl,ae,h1,W,X,ac⟩<;>rcases k with⟨rfl,k⟩|⟨I,Y,rfl,J,aa,ab,ad⟩
 .rfl
 .exact absurd ⟨aa,ab⟩ (h I Y (x4.1 J).1 J)
 .exact absurd ⟨W,X⟩ (k f (x5 h1))
 .rcases Nat.lt_trichotomy j I with U|rfl|U
  .exact absurd ⟨W,X⟩ (ad j f U h1)
  .rfl
  .exact absurd ⟨aa,ab⟩ (ac I Y U J)
section
variable {w:x2} {al ah:Nat} {A R:aj} {n:aV} {s:aF} {t:aD} {jO:x1}
theorem MD (h:b7 w al ah A R n s t) (cQ:iP w jO n.k n.sizes s) (cR:Laid w) (cS:lN s) (dW:s.funs.length<=100000) (cT:s.elims.length<=100000):ak x3 Dd [Γ al,jO] w λv w'=>v= .bool true/\Ext w w':=by
 have bA:=h.2.2.2.1;have dX:=bA.vars;have one:∀ {w:x2} {α:Type} [am α] {m:Bool} {S R:aj} {c:List x1} {l:List α},am.rep m S R w c l-> ∃v,c=[v]:=λh=>by obtain⟨v,bb,_⟩:=h;exact⟨v,bb⟩
 refine aB func41 ?_;refine bN λg1 U dY bB cU=>?_;obtain⟨av,ea,eb,ed,cV,ee,aI,bK,_,cW,cX,cY,bq,cl⟩:=cQ.box bB cU;have h1:=h.ext bB;refine aQ (λv V=>v= .bool false/\Ext U V) ?_ λeg cZ=>?_
 rotate_left
 .intro V bj _ _;rw[bC aG.p 0 (aI.ext bj) rfl];refine (mO (h1.ext bj)).mono ?_;rintro _ bL _ ⟨rfl,a6⟩;have bO:=bj.trans a6;refine⟨.inl a6,?_⟩;rw[bG,ae];refine⟨λbl=>absurd rfl bl,λ_=>?_⟩;rw[bC aG.p 1 (aI.ext bO) rfl,aT ai.u (bK.ext bO)];refine (r0 (h1.ext bO)).mono ?_;rintro _ bc _ ⟨rfl,aE⟩;have be:=bO.trans aE;refine⟨.inl aE,?_⟩;rw[bG,ae];refine⟨λbl=>absurd rfl bl,λ_=>?_⟩;rw[bC aG.p 2 (aI.ext be) rfl];refine (u1 (h1.ext be)).mono ?_;rintro _ aJ _ ⟨rfl,Y⟩;have an:=be.trans Y;refine⟨.inl Y,?_⟩;rw[bG,ae];refine⟨λbl=>absurd rfl bl,λ_=>?_⟩;rw[bC aG.p 6 (aI.ext an) rfl,eP b3.u (bg bq an),u4];refine (oe (h1.ext an)).mono ?_;rintro _ aC _ ⟨rfl,I⟩;refine⟨.inl I,?_⟩;rw[bG];exact cZ _ _ ⟨by congr 1;exact decide_eq_false Ω,an.trans I⟩
 rintro _ V ⟨rfl,bj⟩;rw[aS,bC aG.p 1 (aI.ext bj) rfl,aT ai.u (bK.ext bj)];refine bE.range n.sizes.length (λi _ bL=>Ext U bL) bK.le bj ?_ ?_
 .rintro i t4 bL c0 hi a6 c1;obtain⟨z,bP⟩:∃z,n.sizes[i]? =σ z:=⟨_,y0 hi⟩;obtain⟨x,bh⟩:∃x,s.vars[i]? =σ x:=⟨_,y0 Ω⟩;obtain⟨eh,ej,_⟩:=bA.var i x z bh bP;have ek:=bA.eu.2.2 z (x5 bP);have c2:z=(x.un.length:Int):=Ω
  refine Υ λ_=>?_;rw[bd ai.u ab.i Ψ (bK.ext a6) bP];refine aQ (λv bc=>v= .bool false/\Ext U bc) ?_ λem c3=>?_
  .rintro _ bc ⟨rfl,aE⟩;rw[aS,bC aG.p 6 (aI.ext aE) rfl,eP b3.u (bg bq aE),u4];refine bE.range s.funs.length (λj out aJ=>Ext U aJ/\ ∃g,au .i64 ab aJ g out (fH s i j)/\ ∀r,leads out r->U.heap.size<=r) Ω ⟨aE,0,au.nil _ _ _ _,λr aO=>by obtain⟨a,n,c,aU,bo⟩:=aO;cases aU⟩ ?_ ?_
   .rintro j out aJ c4 bX ⟨Y,g,hm,bY⟩ c5;obtain⟨f,aR⟩:∃f,s.funs[j]? =σ f:=⟨_,y0 bX⟩;refine Υ λ_=>?_;refine aQ (λout aC=>Ext U aC/\ ∃g,au .i64 ab aC g out (fH s i (j+1))/\ ∀r,leads out r->U.heap.size<=r) (λout aC bZ=>by rw[aN];exact c5 _ _ bZ) λen cm=>?_;refine iy (α:=fG) (a:=ei f) b0.p rfl b3.u b0.i (bg bq Y) (by rw[x8,aR];rfl) λcs bI=>?_;obtain⟨az,aY,aL,rfl,aU,bo,br⟩:=pU bI;have c6:∀u∈[az,aY,aL,.bool (decide (f.live≠0))],u.oneCell'=true:=Cb aU bo br;refine bp b0.i λcn aF eo ag c7=>?_;refine bH (vs:=[az,aY,aL,.bool (decide (f.live≠0))]) b0.i rfl rfl c6 c7 λap b1 c8 a1=>?_;have b2:Ext aJ ap:=ag.then b1 λr aO he=>by have he:r=cn:=he;omega
    refine aQ (λr a2=>r= .bool (hs s i j)/\Ext aJ a2) ?_ λep cp=>?_
    .rintro _ a2 ⟨rfl,X⟩;rw[bD];refine⟨λda=>?_,λdb=>cm _ _ ⟨Y.trans X,g,by rw[B7,if_neg (by rw[db];decide)];exact hm.ext X,bY⟩⟩;exact Mw (Y.trans X) (hm.ext X) bY (by have:=Mx (s:=s) (i:=i) (j:=j);omega) λv aV dc aD dd de=>cm _ _ ⟨aD,dc,by rw[B7,if_pos da];exact dd,de⟩
    .have cq:hs s i j=(decide (f.live≠0)&&decide ((i:Int)∈f.sc)):=by unfold hs;rw[aR]
     rw[bC b0.p 1 a1 rfl,ae];refine⟨λaH=>?_,λaH=>cp _ _ ⟨by rw[cq,decide_eq_false aH,Bool.false_and],b2⟩⟩;rw[ac b0.p rfl,ac aZ.p rfl,ad (v:=az) Ψ (a1.cell (o:=0+0+0) rfl)];refine (vo (x:=(i:Int)) (dZ (bg aU b2))).mono ?_;rintro _ aV _ ⟨rfl,aD⟩;exact cp _ _ ⟨by rw[cq,decide_eq_true aH,V6],b2.trans aD⟩
   .rintro out aJ c4 ⟨Y,g,hm,bY⟩;rw[aq,ae];refine⟨λh=>Ω,λ_=>?_⟩;refine (BT (i:=(i:Int)) (h1.ext Y)).mono ?_;rintro v aC _ ⟨I,er,df,_⟩;refine (kE df.ls (hm.ls.ext I)).mono ?_;rintro _ aF _ ⟨rfl,ag⟩;rw[decide_eq_true rfl,bf,Y1,aS,c2];refine bE.range x.un.length (λv _ ap=>Ext U ap) Ω ((Y.trans I).trans ag) ?_ ?_
    .rintro v bJ ap dg bb W dh;obtain⟨c,ax⟩:∃c,x.un[v]? =σ c:=⟨_,y0 bb⟩;refine Υ λ_=>?_;refine (u3 (i:=(i:Int)) (v:=(v:Int)) (h1.ext W)).mono ?_;rintro _ a2 _ ⟨rfl,X⟩;have di:ev n i v:=⟨Ω,Ω,Ω,by rw[j0,u5,bP,T4];omega⟩;have dj:kT s (i:Int).toNat (v:Int).toNat=c:=by
      rw[j0,j0];unfold kT;rw[bh];simp[u5,ax]
     rw[if_pos di,dj,aK (v:=Δ c) rfl,aK (v:=Δ 0) rfl];refine aQ (λv w'=>v= .bool false/\Ext U w') ?_ λes dk=>?_
     .rintro _ aV ⟨rfl,aD⟩;rw[aS,aN];exact dh _ _ aD
     .have bi:=W.trans X;rw[bG,ae];refine⟨λh=>absurd rfl h,λ_=>?_⟩;rw[bC aG.p 5 (aI.ext bi) rfl];refine lm (α:=Λ) (a:=x.un) rfl rfl dJ.u aw.i Ψ (bg cY bi) (by rw[x8,bh];rfl) λew dl=>?_;rw[bd aw.u ao.i Ψ (dZ dl) ax,bG];exact dk _ _ ⟨by congr 1;exact decide_eq_false Ω,bi⟩
    .rintro bJ ap dg W;rw[aq,ae];refine⟨λh=>Ω,λ_=>?_⟩;rw[aN];exact c1 _ _ W
  .intro bc aE _ _;have be:=a6.trans aE;rw[bC aG.p 4 (aI.ext be) rfl];refine jL (α:=Bool) (a:=decide (x.gone≠0)) rfl fs.u eN.i (bg cX be) (by rw[x8,bh];rfl) λb o cs aO ax=>?_;obtain rfl:cs=[.bool (decide (x.gone≠0))]:=ax;rw[ad (v:=.bool (decide (x.gone≠0))) Ψ (by have:=aO 0 _ rfl;simpa using this)];refine (pN (i:=(i:Int)) (h1.ext be)).mono ?_;rintro _ aJ _ ⟨rfl,Y⟩;have an:=be.trans Y;refine⟨.inl Y,?_⟩;have dm:(decide (0<=(i:Int))&&fd s (i:Int).toNat)=decide (x.gone≠0):=by
    rw[decide_eq_true Ω,V6,j0];unfold fd;rw[bh]
   rw[dm,sb eN.u,beq_self_eq_true,Y1,aS,bC aG.p 3 (aI.ext an) rfl];refine jL (α:=Λ) (a:=cu x) rfl cz.u ai.i (bg cW an) (by rw[x8,bh];rfl) λb o cs aO ax=>?_;obtain⟨dn,rfl⟩:=one ax;rw[ad (v:=dn) Ψ (by have:=aO 0 _ rfl;simpa using this)];refine (og (i:=(i:Int)) (h1.ext an)).mono ?_;rintro _ aC _ ⟨⟨ey,ez,rfl,cr⟩,I⟩;refine⟨.inl I,?_⟩;refine tF.mono ?_;rintro _ aF _ ⟨ag,ct,rfl,eA,b4⟩;refine⟨.inl (I.trans ag),?_⟩;have cw:=r3 cr Ω (by rw[j0];exact bh);have a7:=(an.trans I).trans ag;have dp:=cR.ext (bB.trans a7);have eB:=bB.size;refine (um (L:=cu x) (tE (g:=ct) cr.1) (λk vs w dq=>by
     obtain⟨v,bb,rfl⟩:=dq;exact⟨v,by rw[<-cw,x8,bb];rfl,rfl⟩) (λa b ax cA=>⟨cA.1.aa ax λh=>by have:=b4.lt;have h:aF.heap.size<=ct:=h;omega,nq ax (λh=>by have h:aF.heap.size<=0:=h;have:=b4.lt;omega) cA.2⟩) ⟨b4,dp⟩ (by rw[<-cw,u4]) (by have:=vu x;omega)).mono ?_
   rintro _ ap _ ⟨W,eC,_,dr⟩;refine⟨.inl ((I.trans ag).trans W),?_⟩;have bR:=a7.trans W;refine (kE dr.ls (dZ (bg (hE ax) ((I.trans ag).trans W)))).mono ?_;rintro _ a2 _ ⟨rfl,X⟩;rw[decide_eq_true rfl,bf,Y1,aS];have bi:=bR.trans X;refine (og (i:=(i:Int)) (h1.ext bi)).mono ?_;rintro _ aV _ ⟨⟨eD,eE,rfl,ds⟩,aD⟩;refine yC.mono ?_;rintro _ aX _ ⟨rfl,ay⟩;rw[bG];have eF:=(ds.2.2 x Ω (by rw[j0];exact bh)).1;exact c3 _ _ ⟨by congr 1;exact decide_eq_false Ω,(bi.trans aD).trans ay⟩
 .rintro t4 bL c0 a6;rw[aq,ae];refine⟨λh=>Ω,λ_=>?_⟩;rw[bC aG.p 6 (aI.ext a6) rfl,eP b3.u (bg bq a6),u4];have cB:∀ {a8:x2} {q:Nat} {f:et} {K:x1->x2->Prop},Ext U a8->s.funs[q]? =σ f->
    (∀az aY aL aW bt,Ext a8 bt->af bt aW b0 [az,aY,aL,.bool (decide (f.live≠0))]->Seen ef a8 [az] f.sc->Seen ef a8 [aY] f.szs->Seen ef a8 [aL] f.cs->K (Γ aW) bt)->
    J x3 (n0 b3 cV (Δ (q:Int))) a8 λp=>J x3 (x6 b0 p) a8 λy=>aA x3 (S7 b0 true (.tuple #[])) a8 λa bt=>aA x3 (o5 b0 a y) bt λ(_:Unit) b5=>K a b5:=λ{a8 q f K} dt aR du=>by
   refine iy (α:=fG) (a:=ei f) b0.p rfl b3.u b0.i (bg bq dt) (by rw[x8,aR];rfl) λcs bI=>?_;obtain⟨az,aY,aL,rfl,aU,bo,br⟩:=pU bI;refine bp b0.i λaW bt dv dw b6=>?_;refine bH (vs:=[az,aY,aL,.bool (decide (f.live≠0))]) b0.i rfl rfl (Cb aU bo br) b6 λb5 dx eH dy=>?_;exact du az aY aL aW b5 (dw.then dx λr aO he=>by have he:r=aW:=he;omega) dy aU bo br
  refine bE.range s.funs.length (λj _ bc=>Ext U bc) Ω a6 ?_ ?_
  .rintro j bJ bc dz bX aE dA;obtain⟨f,aR⟩:∃f,s.funs[j]? =σ f:=⟨_,y0 bX⟩;obtain⟨bT,b8,_⟩:=bA.funs f (x5 aR);refine Υ λ_=>?_;refine cB aE aR λaz aY aL cn aJ Y bu aU bo br=>?_;have an:=aE.trans Y;rw[bC aG.p 6 (aI.ext an) rfl,eP b3.u (bg bq an),u4];refine bE.range s.funs.length (λq a aC=>Ext aJ aC/\ ∃r:Int,a=Δ r/\mW s f.sc q r) Ω ⟨Ext.refl _,-1,rfl,.inl ⟨rfl,λq g h=>Ω⟩⟩ ?_ ?_
   .rintro q _ aC b9 bw ⟨I,r,rfl,aO⟩ cb;obtain⟨g,cC⟩:∃g,s.funs[q]? =σ g:=⟨_,y0 bw⟩;refine Υ λ_=>?_;refine aQ (λa aF=>Ext aJ aF/\ ∃r:Int,a=Δ r/\mW s f.sc (q+1) r) (λout aF bZ=>by rw[aN];exact cb _ _ bZ) λeI cD=>?_;refine cB (an.trans I) cC λdC eJ eK eL aF ag cE d1 d2 d3=>?_;have aP:=I.trans ag;have bU:=aO.step cC;refine aQ (λv ap=>v= .bool (decide (g.live≠0/\r<0/\g.sc=f.sc))/\Ext aF ap) ?_ λeM cc=>?_
    .rintro _ ap ⟨rfl,W⟩;rw[ae];exact⟨λax=>cD _ _ ⟨aP.trans W,_,rfl,by rw[if_pos ax] at bU;exact bU⟩,λax=>cD _ _ ⟨aP.trans W,_,rfl,by rw[if_neg ax] at bU;exact bU⟩⟩
    .rw[bC b0.p 1 cE rfl,ae];refine⟨λaH=>?_,λaH=>cc _ _ ⟨by congr 1;symm;exact decide_eq_false λh=>aH h.1,Ext.refl _⟩⟩;rw[aq,ae];refine⟨λcd=>?_,λcd=>cc _ _ ⟨by congr 1;symm;exact decide_eq_false λh=>cd h.2.1,Ext.refl _⟩⟩;rw[ac b0.p rfl,ac aZ.p rfl,ad (v:=dC) Ψ (cE.cell (o:=0+0+0) rfl),ac b0.p rfl,ac aZ.p rfl,ad (v:=az) Ψ ((bu.ext aP).cell (o:=0+0+0) rfl)];refine (kE (dZ (bg d1 ag)) (dZ (bg aU (Y.trans aP)))).mono ?_;rintro _ ap _ ⟨rfl,W⟩;exact cc _ _ ⟨by congr 1;exact decide_eq_decide.2 ⟨λh=>⟨aH,cd,h⟩,λh=>h.2.2⟩,W⟩
   .rintro _ aC b9 ⟨I,r,rfl,aO⟩;rw[aq,ae];refine⟨λh=>Ω,λ_=>?_⟩;have bV:=an.trans I;refine aQ (λv aF=>v= .bool false/\Ext aC aF) ?_ λeO dD=>?_
    .rintro _ aF ⟨rfl,ag⟩;have a7:=bV.trans ag;have aP:=I.trans ag;have ce:dN f.szs:=by rw[b8];exact lA bA.eu.2.2 λv bb=>⟨(bT.scope.1 v bb).1,bT.vars v bb⟩
     have dE:bS f.szs:=⟨by rw[b8];unfold bF;rw[u4];exact bT.scope.2,ce⟩;have eQ:=hd ce;have eR:f.cs.length=(aM f.szs).toNat:=by rw[b8];exact bT.len
     rw[aS,ac b0.p rfl,ac aZ.p rfl,ad (v:=aY) Ψ ((bu.ext aP).cell (o:=0+0+1) rfl)];refine (oW f.szs (dZ (bg bo (Y.trans aP))) dE).mono ?_;rintro eS ap _ ⟨W,cg⟩;rw[eP cz.u cg];refine bE.range (bm f.szs).length (λq _ a2=>Ext ap a2) (ns cg) (Ext.refl _) ?_ ?_
     .rintro q t5 a2 dF bw X cF;obtain⟨bx,cH⟩:∃bx,(bm f.szs)[q]? =σ bx:=⟨_,y0 bw⟩;obtain⟨c,ax⟩:∃c,f.cs[q]? =σ c:=⟨_,y0 Ω⟩;refine Υ λ_=>?_;refine lm (α:=Λ) (a:=bx) rfl rfl cz.u ai.i Ψ (bg cg X) cH λu hu=>?_;have bi:=(a7.trans W).trans X;refine (u6 (j:=j) (h1.ext bi) (dZ (hE hu))).mono ?_;rintro _ aV _ ⟨rfl,aD⟩;have ba:=bu.ext (((aP.trans W).trans X).trans aD);have cI:=nF ce cH;have cJ:∀aX,Ext aV aX->Ext ap aX:=λaX ay=>(X.trans aD).trans ay;by_cases aH:f.live≠0
      .have ch:(ec s j bx).isSome=true:=by unfold ec;rw[aR];simp only;rw[if_pos aH,cI];rfl
       have dG:hW s j bx=c:=by unfold hW cM;rw[aR];simp only;rw[cI];simp[u5,ax]
       rw[if_pos ch,dG,aK (v:=Δ c) rfl,aK (v:=Δ 0) rfl];refine aQ (λv w'=>v= .bool false/\Ext aV w') ?_ λdH ci=>?_
       .rintro _ aX ⟨rfl,ay⟩;rw[aS,aN];exact cF _ _ (cJ _ ay)
       rw[bk,bC b0.p 1 ba rfl,sb eN.u,decide_eq_true rfl,decide_eq_true aH,beq_self_eq_true,Y1,aS,bC b0.p 1 ba rfl,decide_eq_true aH,bQ,ac b0.p rfl,ac aZ.p rfl,ad (v:=aL) Ψ (ba.cell (o:=0+0+2) rfl),bd aw.u ao.i Ψ (dZ (bg br (Y.trans (((aP.trans W).trans X).trans aD)))) ax,bG];exact ci _ _ ⟨by congr 1;exact decide_eq_false Ω,Ext.refl _⟩
      .have ch:¬(ec s j bx).isSome=true:=by unfold ec;rw[aR];simp only;rw[if_neg aH];simp
       rw[if_neg ch,aK (v:=Δ 0) rfl,aK (v:=Δ 1) rfl];refine aQ (λv w'=>v= .bool false/\Ext aV w') ?_ λdH ci=>?_
       .rintro _ aX ⟨rfl,ay⟩;rw[aS,aN];exact cF _ _ (cJ _ ay)
       rw[bk,bC b0.p 1 ba rfl,sb eN.u,decide_eq_false Φ,decide_eq_false aH,beq_self_eq_true,Y1,aS,bC b0.p 1 ba rfl,decide_eq_false aH,aS];exact ci _ _ ⟨rfl,Ext.refl _⟩
     .rintro t5 a2 dF X;rw[aq,ae];refine⟨λh=>Ω,λ_=>?_⟩;rw[aN];exact dA _ _ ((a7.trans W).trans X)
    .intro aF ag _ _;have a7:=bV.trans ag;have aP:=I.trans ag;have dK:(decide (0<=(j:Int))&&dI s (j:Int).toNat)=decide (f.live≠0):=by
      rw[decide_eq_true Ω,V6,j0];unfold dI;rw[aR]
     rw[bC b0.p 1 (bu.ext aP) rfl];refine (lI (j:=(j:Int)) (h1.ext a7)).mono ?_;rintro _ ap _ ⟨rfl,W⟩;refine⟨.inl W,?_⟩;have a1:=bu.ext (aP.trans W);rw[dK,sb eN.u,beq_self_eq_true,Y1,aS,ac b0.p rfl,ac aZ.p rfl,ad (v:=az) Ψ (a1.cell (o:=0+0+0) rfl)];refine (BR (h1.ext (a7.trans W)) aR).mono ?_;rintro _ a2 _ ⟨X,eU,_,dL⟩;refine⟨.inl X,?_⟩;have cj:=(aP.trans W).trans X;refine (kE dL.ls (dZ (bg aU (Y.trans cj)))).mono ?_;rintro _ aV _ ⟨rfl,aD⟩;rw[decide_eq_true rfl,bf,Y1,aS,ac b0.p rfl,ac aZ.p rfl,ad (v:=az) Ψ ((bu.ext (cj.trans aD)).cell (o:=0+0+0) rfl)];refine (Lb (h1.ext (((a7.trans W).trans X).trans aD)) (dZ (bg aU (Y.trans (cj.trans aD))))).mono ?_;rintro _ aX _ ⟨⟨eV,rfl,dM⟩,ay⟩;rw[bG];exact dD _ _ ⟨by congr 1;exact decide_eq_false (by rw[aO.find dM];simp),(((ag.trans W).trans X).trans aD).trans ay⟩
  .rintro bJ bc dz aE;rw[aq,ae];refine⟨λh=>Ω,λ_=>?_⟩;refine (B9 (h1.ext aE) cS cT).mono ?_;rintro eW aJ _ ⟨Y,eX,⟨E,bW,dO,dP⟩,_⟩;have an:=aE.trans Y;rw[c9 fe.u bW,bC aG.p 7 (aI.ext an) rfl,eP e0.u (bg cl an),u4,bG,ae];refine⟨λbl=>absurd (by rw[dO]) bl,λ_=>?_⟩;rw[c9 fe.u bW];refine bE.range E.length (λq _ aC=>Ext aJ aC) Ω (Ext.refl _) ?_ ?_
   .rintro q bJ aC b9 bw I cb;obtain⟨x,cK⟩:∃x,E[q]? =σ x:=⟨_,y0 bw⟩;obtain⟨e,cL⟩:∃e,s.elims[q]? =σ e:=⟨_,y0 Ω⟩;obtain⟨dQ,⟨_,cN⟩,_,cO⟩:=dP q x e cK cL;have bV:=an.trans I;refine Υ λ_=>?_;rw[cG rfl fe.u bM.i (bW.ext I) bw,bn bM.p bM.i rfl ((bW.ext I).range cK)];refine bp bM.i λaW aF dv ag b6=>?_;refine bH (vs:=gV x) bM.i rfl rfl (by intro u hu;simp[gV] at hu;rcases hu with rfl|rfl|rfl<;>first|rfl|exact cN.ls.cells.2|exact cO.ls.cells.2) b6 λap b1 c8 a1=>?_;have cP:Ext aC ap:=ag.then b1 λr aO he=>by have he:r=aW:=he;omega
    have bR:=bV.trans cP;have a1:af ap aW bM [Δ x.v,x.az,x.bv]:=a1;rw[bC aG.p 7 (aI.ext bR) rfl];refine iy (α:=ii) (a:=jt e) ca.p rfl e0.u ca.i (bg cl bR) (by rw[x8,cL];rfl) λcs bI=>?_;obtain⟨az,bv,rfl,d1,d2⟩:=MC bI;refine bp ca.i λdR a2 eY X dS=>?_;refine bH (vs:=[Δ e.v,az,bv]) ca.i rfl rfl (by intro u hu;simp at hu;rcases hu with rfl|rfl|rfl<;>first|rfl|exact gd d1|exact gd d2) dS λaV dT eZ ba=>?_;have bz:Ext ap aV:=X.then dT λr aO he=>by have he:r=dR:=he;omega
    have ck:=cP.trans bz;refine aQ (λv aX=>v= .bool false/\Ext aV aX) ?_ λe1 dU=>?_
    .rintro _ aX ⟨rfl,ay⟩;rw[aS,aN];exact cb _ _ ((I.trans ck).trans ay)
    rw[bC bM.p 0 (a1.ext bz) rfl,bC ca.p 0 ba rfl,bG,dQ,ae];refine⟨λh=>absurd rfl h,λ_=>?_⟩;rw[bC bM.p 1 (a1.ext bz) rfl,bC ca.p 1 ba rfl];refine (kE ((cN.ls.ext I).ext ck) (dZ (bg d1 bz))).mono ?_;rintro _ aX _ ⟨rfl,ay⟩;rw[decide_eq_true rfl,bf,Y1,aS,bC bM.p 2 (a1.ext (bz.trans ay)) rfl,bC ca.p 2 (ba.ext ay) rfl];refine (kE (((cO.ls.ext I).ext ck).ext ay) (dZ (bg d2 (bz.trans ay)))).mono ?_;rintro _ e2 _ ⟨rfl,dV⟩;rw[decide_eq_true rfl,bf];exact dU _ _ ⟨rfl,ay.trans dV⟩
   .rintro bJ aC b9 I;rw[aq,ae];exact⟨λh=>Ω,λ_=>⟨rfl,bB.trans (an.trans I)⟩⟩
end
theorem ME {P:aj} {J U:x2} {an ba:Nat} {A R:aj} {A9:Nat->aj} {aP:aj} {f:b2} {t:aD} (p:bK J al ah an A R A9 aP (cb f) (cV (cb f)) (cV (cb f)) t [] cs) (X:∀r,A r->P r) (Y:∀q r,A9 q r->P r) (aa:P an) (ab:P ba)
  (ag:t.cells.length<=2000000) (ai:t.olds.length=0) (ak:(cb f).funs.length<=256) (am:t.ever=0) (ac:Ext J U) (ao:J.heap.size<=ba) (V:af U ba c0 [.slice ν 0 0]):fY P U al ah an ba (cb f) 0:=by
 have W:=iQ p.b8;have ad:=p.olds.ext ac;have ae:=V.lt;refine⟨A,R,_,aP,λr=>r=ba,λ_=>False,_,t,[],[],cs,ad,⟨rfl,λi dp du h=>(by simp at h),λ_ h=>(by cases h),λ_ h=>(by cases h),.nil⟩,⟨rfl,_,0,[],V,a6.nil _ _ _ _ _,λr I=>(eJ I).elim,rfl,λi c s h=>(by simp at h)⟩,⟨λr I=>?_,λr I=>I.elim⟩,λr I=>?_,λe he=>(by simp[cV] at he),Ξ,Ω,Ω,Ω,by show ((cb f).funs.map _).length<=_;rw[u4];omega,by simp[cV]⟩
 .have I:r=ba:=I;subst I;exact⟨ae,λh=>by have:=W r (.inl h);omega,λh=>by have:=W r (.inr h);omega,λq h=>by have:=h.2;omega,λh=>by have:=(p.read r h).2.1;omega,by have:=p.box.lt;omega,λh=>h⟩
 .rcases I with I|⟨q,I⟩|I|I
  .exact X r I
  .exact Y q r I.1
  .exact I▸aa
  .have I:r=ba:=I;exact I▸ab
theorem MF {I:Nat} {J U V:x1} {A R:aj} {n:aV} {s:aF} {t:aD} (h:dT w al ah I J U V A R n s t):ak x3 wQ [Γ al] w λv w'=>v=Γ I/\Ext w w':=by
 obtain⟨_,_,_,_,_,_,_,_,W,_⟩:=h;refine aB func49 ?_;rw[cC dQ.u];simp only[Z0,aS];rw[ix bt.p 0 W rfl];exact⟨rfl,Ext.refl _⟩
theorem MG {p bE:x1} {pl:Λ} {L:List oo} {Q:x1->x2->Prop} (bF:∀w',Ext w w'->Q (.bool true) w') (ce:aJ .u8 w p pl) (cg:∀b∈pl,0<=b/\b<256) (bk:Seen ef w [bE] L) (ch:∀x∈L,(oq x).ok) (bG:eR w) (aM:Laid w):
  ak x3 wM [p,bE] w Q:=by
 refine aB func9 ?_;refine (Mc bG).mono ?_;rintro _ U _ ⟨rfl,aO⟩;rw[bf,Y1,aS];refine (B5 (ce.ext aO) cg (bG.ext aO)).mono ?_;rintro _ V _ ⟨bI,ci,cs,ok,rfl,⟨cj,bl⟩,ck,_⟩;have cl:=aO.trans bI;rw[aK (v:=ci) rfl,aK (v:=.agg cs.toArray) rfl,aK (v:=.bool ok) rfl];refine bp aG.i λan dH dI cm cn=>?_;refine bH (vs:=cs) aG.i cj rfl bl cn λay cp dJ cq=>?_;have bm:Ext V ay:=cm.then cp λr W he=>by have he:r=an:=he;omega
 have bJ:=cl.trans bm;rcases ck with⟨rfl,rfl⟩|⟨rfl,f,_,cr⟩
 .rw[bf,X5,bQ,cC dQ.u];exact bF _ bJ
 obtain⟨al,ah,A,R,A9,aP,t,rfl,ct,dK,cu,cw,cz,cA,bq,cB⟩:=Mb cr bm cq Ω;rw[bf,Y1,aS];have P:=ct.olds;have dL:=aO.size;have dM:=bI.size;have dN:=bm.size;have az:=P.b8.2.2.2.2;have br:=iQ P.b8;have dO:=P.box.lt;obtain⟨dP,dR,dS,dT,bK⟩:=P.b8.1;obtain⟨⟨_,cD,_⟩,_,_,_,_,_,_,dU,_,⟨bt,bu,cE⟩,_⟩:=id bK;refine (MF bK).mono ?_;rintro _ dV _ ⟨rfl,aU⟩;have z5:=aU.size;refine (A6 bt (bu.trans aU) cE (λr W=>by have:=br r (.inr W);omega) az bq).mono ?_;rintro _ cF _ ⟨bw,bN,bO,bR,bS,bT,rfl,cH,bU,cI,cJ,cK⟩;have bx:b7 cF bN bO bR bS (cb f) (cV (cb f)) bT:=⟨cH,bU,BG az bq bU cI,uF az,az⟩;have cL:=iQ bx;have dW:=bw.size;have bV:=(bJ.trans aU).trans bw;have bz:lN (cV (cb f)):=λe he=>by simp[cV] at he
 have bB:(cV (cb f)).funs.length<=100000:=by show ((cb f).funs.map _).length<=_;rw[u4];omega
 refine (vv bx (aM.ext bV) bz bB (by simp[cV])).mono ?_;rintro cM aV _ ⟨aW,cN,bW,cO⟩;have dX:=aW.size;refine bp c0.i λba bX dY aA cP=>?_;have cQ:=((aU.trans bw).trans aW).trans aA;obtain⟨X,bY⟩:∃X:aj,X=λr=>A r\/(∃q,A9 q r/\r<ay.heap.size)\/r=an\/aV.heap.size<=r:=⟨_,rfl⟩;have aC:∀r,(A r\/(∃q,A9 q r/\r<ay.heap.size)\/r=an\/aV.heap.size<=r)->X r:=λr h=>by rw[bY];exact h
 have aD:∀r,X r->(A r/\r<ay.heap.size)\/(∃q,A9 q r/\r<ay.heap.size)\/r=an\/aV.heap.size<=r:=λr h=>by rw[bY] at h;exact h.imp (λh=>⟨h,br r (.inl h)⟩) id
 have cR:fY X bX al ah an ba (cb f) 0:=ME P (λr h=>aC r (.inl h)) (λq r h=>aC r (.inr (.inl ⟨q,h⟩))) (aC _ (.inr (.inr (.inl rfl)))) (aC _ (.inr (.inr (.inr Ω)))) cz cA bq cB cQ Ω cP;let Y:x2->Prop:=λw'=>Ext w w'/\aV.heap.size<=w'.heap.size/\b7 w' bN bO bR bS (cb f) (cV (cb f)) bT/\au .i64 ao w' cN cM (p1 (cV (cb f)));have aE:∀ {a b:x2},Ext a b->Y a->Y b:=λaf h=>⟨h.1.trans af,by have:=af.size;have:=h.2.1;omega,h.2.2.1.ext af,h.2.2.2.ext af⟩;have cS:∀ {a b:x2},ag X a b->Y a->Y b:=λ{a b} aX h=>by
  have z:=aX.size;refine⟨h.1.then aX λr W ad=>?_,by have:=h.2.1;omega,⟨h.2.2.1.1.aa aX λr W am ad=>?_,h.2.2.1.2⟩,bc h.2.2.2 aX λr W ad=>?_⟩
  .rcases aD r ad with J|⟨q,J⟩|J|J
   .have:=cu r J.1;omega
   .have:=cw q r J.1;omega
   .omega
   .omega
  .have dZ:=cL r am;rcases am with am|am
   .have:=cJ r am;rcases aD r ad with J|⟨q,J⟩|J|J<;>omega
   .rcases cK r am with aF|aF
    .have cT:=br r (.inr aF);rcases aD r ad with J|⟨q,J⟩|J|J
     .exact cD r J.1 aF
     .exact (P.apart q r J).2.1 aF
     .exact P.out.2 (J▸aF)
     .omega
    .rcases aD r ad with J|⟨q,J⟩|J|J<;>omega
  .have cT:=cO r W;have ea:=bA bW W;rcases aD r ad with J|⟨q,J⟩|J|J<;>omega
 have bZ:Y bX:=⟨(bV.trans aW).trans aA,aA.size,(bx.ext aW).ext aA,bW.ext aA⟩;rw[eP qJ.u (bg bk bZ.1)];refine bP.range L.length (λi ap=>Y ap/\ ∃m,m<=i/\m<=20/\fY X ap al ah an ba (cb f) m) (ns bk) ⟨bZ,0,Ω,Ω,cR⟩ ?_ ?_
 .rintro i ap cU hi ⟨av,m,eb,aY,aZ⟩ cW;obtain⟨x,b0⟩:∃x,L[i]? =σ x:=⟨_,y0 hi⟩;have cX:=ch x (x5 b0);refine Υ λ_=>?_;refine di (λbC=>Y bC/\ ∃m,m<=i+1/\m<=20/\fY X bC al ah an ba (cb f) m) (λbC cY=>by rw[aN];exact cW _ cY) λcZ a1=>?_;refine iy (α:=oo) aR.p rfl qJ.u aR.i (bg bk av.1) b0 λcs c1=>?_;obtain⟨b1,ec,bl,c2⟩:=Ma c1 cX;refine bp aR.i λc3 ed ee c4 c5=>?_;refine bH (vs:=cs) aR.i b1 rfl bl c5 λc6 c7 a2 c8=>?_;have a7:Ext ap c6:=c4.then c7 λr W he=>by have he:r=c3:=he;omega
  have a2:=aE a7 av;rw[aq,ae];refine⟨λeg=>?_,λ_=>a1 _ ⟨a2,m,Ω,aY,aZ.ext a7⟩⟩;rw[bn aR.p aR.i b1 c8.range];exact Mv (λr h=>aC r (.inr (.inr (.inr (by have:=a2.2.1;omega))))) (aZ.ext a7) Ω (c2.ext a7) λeh da db=>a1 _ ⟨cS da a2,m+1,Ω,Ω,db⟩
 .rintro ap cU ⟨av,m,_,aY,aZ⟩;rw[aq,ae];refine⟨λh=>Ω,λ_=>?_⟩;refine (oe av.2.2.1).mono ?_;rintro _ ei _ ⟨rfl,dc⟩;refine bP.range (cV (cb f)).funs.length (λj a8=>Ext ap a8) Ω dc ?_ ?_
  .rintro j a8 dd de ax df;obtain⟨g,b2⟩:∃g,(cV (cb f)).funs[j]? =σ g:=⟨_,y0 de⟩;have ej:=((uF az).funs g (x5 b2)).2.2;have aH:=aE ax av;refine Υ λ_=>?_;refine (BR aH.2.2.1 b2).mono ?_;rintro ek em _ ⟨dg,dh,en,b3⟩;rw[gx (y:=0) (i:=0) rfl ai.u ab.i b3 Ω];refine gy ab.i b3 Ω λeo dj ep er=>?_;rw[aN];exact df _ ((ax.trans dg).then dj λr W he=>by have he:r=dh:=he;have:=ax.size;omega)
  .rintro a8 dd ax;have aH:=aE ax av;rw[aq,ae];refine⟨λh=>Ω,λ_=>?_⟩;refine (vv aH.2.2.1 (aM.ext aH.1) bz bB (by simp[cV])).mono ?_;rintro dk es _ ⟨dl,bD,bb,dm⟩;rw[aT aw.u bb.ls];refine bP.range (p1 (cV (cb f))).length (λi aI=>Ext a8 aI/\ ∃l,l.length=(p1 (cV (cb f))).length/\au .i64 ao aI bD dk l) bb.ls.le ⟨dl,_,rfl,bb⟩ ?_ ?_
   .rintro i aI bt hi ⟨bd,l,dn,b4⟩ dp;refine Υ λ_=>?_;rw[gx rfl aw.u ao.i b4 Ω];refine gy ao.i b4 Ω λet dq eu aY=>?_;rw[aN];refine dp _ ⟨bd.then dq λr W he=>?_,_,by rw[X2];exact dn,aY⟩;have he:r=bD:=he;rcases bb.2 with⟨_,ev⟩|⟨cap,full,dr,_⟩
    .omega
    .have:=dm bD ⟨_,_,_,dr,rfl⟩;omega
   .rintro aI bt ⟨bd,_⟩;have ds:=aE bd aH;rw[aq,ae];refine⟨λh=>Ω,λ_=>?_⟩;have dt:=aZ.ext (ax.trans bd);obtain⟨ew,R',bL,R9',O,M,s,ey,h,I,bo,b5,ez,eA,eB,eC,b6,eD,eE,eF,eH,eI,eJ⟩:=dt;refine (B9 b5.b8 b6 Ω).mono ?_;rintro du eK _ ⟨dv,dw,⟨E,b9,eL,eM⟩,dx⟩;rw[c9 fe.u b9];refine bP.range E.length (λi be=>Ext aI be/\ ∃bh,bh.length=E.length/\a6 gV 3 bM be dw du bh) Ω ⟨dv,_,rfl,b9⟩ ?_ ?_
    .rintro i be bu hi ⟨bi,bh,dy,ca⟩ dz;obtain⟨e,he⟩:∃e,bh[i]? =σ e:=⟨_,y0 Ω⟩;refine Υ λ_=>?_;rw[cG rfl fe.u bM.i ca Ω,ac bM.p rfl];refine mB (a':={e with v:=99}) (j:=0) ab.i rfl rfl ca he rfl Ω λeN dA eO dC=>?_;rw[aN];refine dz _ ⟨bi.then dA λr W dD=>by have:=dx r dD;omega,_,by rw[X2];exact dy,dC⟩
    .rintro be bu ⟨bi,_⟩;have aL:=aE bi ds;have cc:=b5.ext bi;rw[aq,ae];refine⟨λh=>Ω,λ_=>?_⟩;refine aQ (λv w'=>v= .bool true/\Ext w w') (λ_ eQ ⟨e,af⟩=>e▸bF _ af) λcZ a1=>?_;refine (vv aL.2.2.1 (aM.ext aL.1) bz bB (by simp[cV])).mono ?_;rintro v25 eS _ ⟨cd,eU,dE,_⟩;refine (xN dE.ls (aL.2.2.2.ls.ext cd)).mono ?_;rintro _ eV _ ⟨rfl,dF⟩;rw[decide_eq_true rfl,bQ];have bj:=cd.trans dF;refine (cc.ext bj).look.load λu hu=>?_;refine (MD (cc.ext bj).b8 hu (aM.ext (aL.1.trans bj)) b6 Ω Ω).mono ?_;rintro _ eW _ ⟨rfl,dG⟩;exact a1 _ _ ⟨rfl,(aL.1.trans bj).trans dG⟩
theorem MH {p I:x1} {pl:Λ} {L:List oo} (J:aJ .u8 w p pl) (U:∀b∈pl,0<=b/\b<256) (V:Seen ef w [I] L) (W:∀x∈L,(oq x).ok) (X:eR w) (Y:Laid w):
  ak x3 wM [p,I] w λv w'=>v= .bool true/\Ext w w':=by
 exact MG (λw' aa=>⟨rfl,aa⟩) J U V W X Y
end Go.Proofs.YtgbkinibgjmodaaGreatDoor
