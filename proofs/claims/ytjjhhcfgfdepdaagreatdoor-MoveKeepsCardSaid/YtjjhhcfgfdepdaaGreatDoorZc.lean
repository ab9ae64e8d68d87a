/- own texts, made small by a tool (wip/ holds them as they were written): no statement of the seat. -/
import Derived.Test.YtjjhhcfgfdepdaaGreatDoorZb
set_option linter.unusedVariables false
set_option linter.unusedSimpArgs false
set_option linter.unnecessarySimpa false
open Array renaming getElem?_eq_some_iff→o9
open Bool renaming not_true→Z8,not_false→X3,eq_iff_iff→V5,or_eq_false_iff→T7
open Decidable renaming not_not→Y4
open Go renaming Value→x1,World→x3,TypeId→r9,IntKind→o4,Builtin→Z0,Program→W0,FuncId→S6
open Go.Addr renaming add_mid→T2
open Go.Builtin renaming append_→b8,len_→W3
open Go.Instr renaming loadAt→u5,fieldAt→u6,storeAt→o7,indexAt→j5,extract→Z1,buildSlice→Z9,sliceAt→V3,alloc→R2
open Go.IntKind renaming i64→Y9
open Go.Proofs.Tryz renaming prog→x7
open Go.Value renaming int→V1
open Int renaming toNat_natCast→u9
open List renaming getElem?_eq_some_iff→x4,mem_of_getElem?→x5,getElem?_eq_getElem→x6,getElem?_map→x8,getD_eq_getElem?_getD→u4,length_map→u7,take_add_one→r8,replicate→p8,length_append→o5,take_length→o6,mem_map→o8,mem_singleton→n9,mem_append→l7,length_take→j0,take_of_length_le→j6,eq_nil_of_length_eq_zero→j9,getElem?_set_self→c7,map_append→c8,length_cons→b9,length_set→Z4,getElem?_eq_none→Z5,getElem?_append_left→Y0,getElem?_append_right→Y1,getElem?_take_of_lt→Y3,getElem?_set_ne→Y5,ext_getElem?→Y8,getElem?_set→X0,mem_iff_getElem?→X4,mem_or_eq_of_mem_set→X6,drop_eq_getElem_cons→X7,length_eq_one_iff→W6,range→W7,mem_cons→V0,pairwise_iff_getElem→V2,map_set→U1,map_cons→U4,append_nil→U5,append_assoc→U8,set_append_right→U9,map_map→S1,mem_filter→S3,length_singleton→S4,mem_of_mem_take→S8,length→S9,getElem_mem→R5
open Nat renaming le_refl→p9,le_trans→Y7,zero_add→X1,zero_le→X2,sub_self→V7,mul_one→U6,add_assoc→S2,lt_of_lt_of_le→R3,eq_zero_or_pos→R4
open Option renaming toList_some→l9,map_some→Z2,isNone_some→Z3,map_eq_some_iff→Y2,getD_some→V4,map→V6
open Option.some renaming inj→c9,injEq→Y6
open Prod.mk renaming injEq→T4
set_option maxHeartbeats 16000000
open Option renaming some→σ,none→ν
variable {B I J N gs j m n r:Nat}{w w':x3}{cs:List x1}{clean:Bool}{bb bv sv szv v:x1}{a af all l scope sizes t:Λ}{k y:Int}{S:Nat->Prop}{e:r9}{K:x1->x3->Prop}
namespace Go.Proofs.YtjjhhcfgfdepdaaGreatDoor
open Go Go.Vc Go.RowKit Go.Proofs Go.Proofs.Tryz
set_option maxRecDepth 100000
theorem Bs (sizes:Λ) (s:Option az):ir sizes s=match a7 (-ao) ao s with
 |none=>ν
 |some (n,s)=>
  if n<0 then match s.shared[(-n-1).toNat]? with
   |none=>ν
   |some (z,l)=>if z=sizes then σ (l,s) else ν
  else cI (dK sizes) n.toNat [] (jv n s):=by
 cases s with
 |none=>rfl
 |some s=>
  show dL sizes s=_;unfold dL;show _=match bc (-ao) ao s with
   |none=>ν
   |some (n,s)=>
    if n<0 then match s.shared[(-n-1).toNat]? with
     |none=>ν
     |some (z,l)=>if z=sizes then σ (l,s) else ν
    else cI (dK sizes) n.toNat [] (jv n s)
  cases bc (-ao) ao s<;>rfl
theorem Bt {m:Bool} {S R:ah} {a:io} (h:ak.rep (α:=io) m S R w cs a):∃u v,cs=[u,v]/\ak.rep (α:=Λ) false bo R w [u] a.1/\ak.rep (α:=List (Λ×Int)) false bo R w [v] a.2:=by
 obtain⟨c,d,J,U,rfl,_,_,_,h1,I⟩:=h;have h1:ak.rep (α:=Λ) false bo R w c a.1:=h1;have I:ak.rep (α:=List (Λ×Int)) false bo R w d a.2:=I;obtain⟨u,rfl⟩:=W6.1 (show c.length=1 from ak.len h1);obtain⟨v,rfl⟩:=W6.1 (show d.length=1 from ak.len I);exact⟨u,v,rfl,h1,I⟩
theorem Kn {g:Nat} {A B:ah} {s:Option az}
  (h:c6 w g gs A B clean s) (hi:∀t,s=σ t->dM t) (aW:aB .i64 w sv sizes) (al:∀r,leads sv r->¬bw g gs A r/\r<w.heap.size) (aX:∀z∈sizes,1<=z/\z<=ao) (aY:sizes.length<=100001) (aZ:dA w) (h1:cA g gs A B 1):
  aj x7 Gv [Γ g,sv] w λv w'=>fD w g gs A B clean ((ir sizes s).map (·.2)) w'/\ ∃l,Seen (λr=>cA g gs A B r\/w.heap.size<=r) w' [v] (show List (Λ×Int) from l)/\ ∀q,ir sizes s=σ q->l=q.1:=by
 have a1:=h.side;obtain⟨bE,bF,bG,a2,bH⟩:=id a1;have ad:∀r,bw g gs A r->r<w.heap.size:=a2;refine aw func142 ?_;refine (lD (lo:=-ao) (hi:=ao) h).mono ?_;rintro _ J _ ⟨a6,n,at_,rfl,ax,a8⟩;obtain⟨am,aJ⟩:=a6.of;have bI:=am.size;have U:=Bs sizes s;rw[bf,bg];have aK:aB .i64 J sv sizes:=hv aW am λr Y a n c an ay=>(al r ⟨a,n,c,an,ay⟩).1 Y;have bJ:∀r,leads sv r->¬bw g gs A r/\r<J.heap.size:=λr Y=>⟨(al r Y).1,by have:=(al r Y).2;omega⟩;have rest:∀V,Ext J V->(∀q,a7 (-ao) ao s=σ q->¬n<0)-> ∀N:Nat,n=(N:Int)->(N:Int)<=ao-> ∀X,ae (bw g gs A) V X->c6 X g gs A B clean (((a7 (-ao) ao s).map (·.2)).map (jv n))->
   ∀v w' l,fD X g gs A B clean ((fb (dK sizes) N [] (((a7 (-ao) ao s).map (·.2)).map (jv n))).map (·.2)) w'->bx (dZ X.heap.size) bo w' [v] (show List (Λ×Int) from l)->(∀q,fb (dK sizes) N [] (((a7 (-ao) ao s).map (·.2)).map (jv n))=σ q->l=q.1)->
   fD w g gs A B clean ((ir sizes s).map (·.2)) w'/\ ∃l,Seen (λr=>cA g gs A B r\/w.heap.size<=r) w' [v] (show List (Λ×Int) from l)/\ ∀q,ir sizes s=σ q->l=q.1:=by
  intro V W ap N aC aD X ac aE v w' l ba bb bc;obtain⟨bd,be⟩:=ba.of;have bh:=W.size;have z3:=ac.size;have e:ir sizes s=fb (dK sizes) N [] (((a7 (-ao) ao s).map (·.2)).map (jv n)):=by
   rw[U];cases I:a7 (-ao) ao s with
   |none=>rfl
   |some q=>
    obtain⟨bi,af⟩:=q;have:=ax _ I;subst this;simp only;rw[if_neg (ap _ I),aC,u9];rfl
  rw[e];refine⟨fD.mk (((am.trans (W.aa _)).trans ac).trans bd) be,l,ob bb λr _ h=>?_,bc⟩;rcases h with h|h
  .have h:X.heap.size<=r:=h;exact .inr Ω
  .exact h.elim
 refine aR (λv V=>Ext J V/\v= .bool (decide (n<0/\(a7 (-ao) ao s).isSome=true))) ?_ ?_
 rotate_left
 .intro av au;refine (oJ aJ).mono ?_;rintro _ V _ ⟨rfl,W⟩;cases I:a7 (-ao) ao s with
  |none=>
   rw[show ((ν:Option (Int×az)).map (·.2)).isSome=false from rfl,aS];exact au _ _ ⟨W,by rw[decide_eq_false];rintro⟨_,h⟩;rw[I] at h;cases h⟩
  |some q=>
   rw[show ((σ q:Option (Int×az)).map (·.2)).isSome=true from rfl,bA,aP];exact au _ _ ⟨W,by congr 1;rw[V5,decide_eq_true_eq,decide_eq_true_eq,I];exact⟨λh=>⟨h,rfl⟩,λh=>h.1⟩⟩
 rintro _ V ⟨W,rfl⟩;have ag:=aJ.ext W;have bh:=W.size;rw[ai];refine⟨λap=>?_,λbj=>?_⟩
 rotate_left
 .have ap:∀q,a7 (-ao) ao s=σ q->¬n<0:=λq I h=>bj ⟨h,by rw[I];rfl⟩;obtain⟨N,aC,aD⟩:∃N:Nat,n=(N:Int)/\(N:Int)<=ao:=by
   cases I:a7 (-ao) ao s with
   |none=>rw[a8 I];exact⟨0,rfl,by unfold ao;omega⟩
   |some q=>
    have h1:=ap q I;have bk:=mf (n:=q.1) (s':=q.2) I;have bl:=ax q I;exact⟨n.toNat,Ω,Ω⟩
  refine Kh (at_:=at_) ag (λt bm=>?_) λX ac aE=>?_
  .obtain⟨q,I,rfl⟩:=Y2.1 bm;have bk:=mf (n:=q.1) (s':=q.2) I;have bl:=ax q I;refine⟨Ω,Ω,?_⟩;cases s with
   |none=>cases I
   |some s0=>
    have aL:=(dw (n:=q.1) (s':=q.2) I).eqs;have aN:=hi s0 rfl;intro aO;rw[aL.1];rw[aL.2.1] at aO;exact aN aO
  .have z3:=ac.size;have bn:ae (bw g gs A) w X:=(am.trans (W.aa _)).trans ac;subst aC;refine Km (N:=N) aE ((hv (aK.ext W) ac λr Y a n c an ay=>(al r ⟨a,n,c,an,ay⟩).1 Y)) (λr Y=>⟨(al r Y).1,by have:=(al r Y).2;omega⟩) aX aY (aZ.aa bn h1.1) h1 aD λv w' l a b c=>?_;exact rest V W ap N rfl aD X ac aE v w' l a b c
 .obtain⟨bp,br⟩:=ap;obtain⟨⟨bi,af⟩,I⟩:=Option.isSome_iff_exists.1 br;have:=ax _ I;subst this;have bK:=mf I;rw[I] at U ag;simp only at U;rw[if_pos bp] at U;have ag:c4 V g gs A B af clean:=ag;obtain⟨_,aN,bL,big,bN,bO,told,bP,aF,bQ,aG⟩:=id ag;have bR:ao=4611686018427387904:=rfl;refine aR (λv X=>Ext V X/\v= .bool (decide (ir sizes s=ν))) ?_ ?_
  .rintro _ X ⟨ab,rfl⟩;rw[ai];refine⟨λbt=>?_,λaQ=>?_⟩
   .refine (rY (ag.ext ab) Ω).mono ?_;rintro _ bS _ ⟨bz,bB⟩;rw[bt];refine⟨fD.mk (((am.trans (W.aa _)).trans (ab.aa _)).trans (bz.mono λr _ h=>.inl h)) bB,[],gB,λq I=>by cases I⟩
   .cases aq:af.shared[(-n-1).toNat]? with
    |none=>rw[aq] at U;exact absurd U aQ
    |some q=>
     obtain⟨z,l⟩:=q;rw[aq] at U;simp only at U;have bC:z=sizes:=by
      by_cases ak:z=sizes
      .exact ak
      .rw[if_neg ak] at U;exact absurd U aQ
     rw[if_pos bC] at U;rw[aM b4.p 3 (aF.ext ab) rfl,lu,wrap_i64 Ω Ω,dP,wrap_i64 Ω Ω];refine jV (α:=io) (m:=true) (S:=A) (R:=cA g gs A B) (i:=(-n-1).toNat) (a:=(z,l)) Ω gQ.u jk.i (bq aG ab) aq λb o cs aH aI=>?_;obtain⟨u,v,rfl,hu,an⟩:=Bt aI;rw[aT jk.p rfl,aA Ψ (aH 1 v rfl)];rw[U];refine⟨fD.mk ((am.trans (W.aa _)).trans (ab.aa _)) (ag.ext ab),l,ob an λr _ h=>?_,λq I=>by cases I;rfl⟩;rcases h with h|h
     .exact h.elim
     .exact .inl h
  .intro av au;rw[lu,wrap_i64 Ω Ω,aM b4.p 3 aF rfl,gj gQ.u aG,bM,ai];refine⟨λaU=>au _ _ ⟨Ext.refl _,?_⟩,λaV=>?_⟩
   .have aU:(af.shared.length:Int)<0-n:=aU;rw[Z5 Ω] at U;rw[decide_eq_true U]
   .have aV:¬(af.shared.length:Int)<0-n:=aV;have bD:(-n-1).toNat<af.shared.length:=Ω
    obtain⟨⟨z,l⟩,aq⟩:∃q,af.shared[(-n-1).toNat]? =σ q:=⟨_,x6 bD⟩;rw[aM b4.p 3 aF rfl,lu,wrap_i64 Ω Ω,dP,wrap_i64 Ω Ω];refine jV (α:=io) (m:=true) (S:=A) (R:=cA g gs A B) (i:=(-n-1).toNat) (a:=(z,l)) Ω gQ.u jk.i aG aq λb o cs aH aI=>?_;obtain⟨u,v,rfl,hu,an⟩:=Bt aI;rw[aT jk.p rfl,aA Ψ (aH 0 u rfl)];refine (HW (dp hu) (aK.ext W)).mono ?_;rintro _ X _ ⟨rfl,ab⟩;rw[bu];refine au _ _ ⟨ab,?_⟩;rw[aq] at U;simp only at U;by_cases ak:z=sizes
    .rw[if_pos ak] at U;rw[decide_eq_true ak,decide_eq_false (by rw[U];simp)];rfl
    .rw[if_neg ak] at U;rw[decide_eq_false ak,decide_eq_true U];rfl
abbrev oK (n:Nat):ah:=λr=>r<n
def pZ (n:Int) (k:Nat) (s:Option az):Option (Λ×az):=s.bind (eQ n k)
theorem Ko {g k:Nat} {A B:ah} {s:Option az} {m:Int} (h:c6 w g gs A B clean s) (hk:k<=4611686018427387904) (hm:0<=m/\m<=1000000):
  aj x7 yR [Γ g,Δ (k:Int),Δ m] w λv w'=>fD w g gs A B clean ((pZ m k s).map (·.2)) w'/\
   ∃gr l,ap .i64 al w' gr v l/\(∀r,leads v r->w.heap.size<=r)/\l.length<=100001/\ ∀q,pZ m k s=σ q->l=q.1:=by
 cases s with
 |some s=>exact Je (s:=s) h hk hm
 |none=>
  have h:eo w g gs A B:=h;refine aw func140 ?_;refine⟨λout W J=>w=J/\out= .slice ν 0 0/\W=Δ 0,λ_ _ _=>0,⟨rfl,rfl,rfl⟩,?_⟩;rintro _ _ _ ⟨rfl,rfl,rfl⟩;refine aR (λv V=>Ext w V/\v= .bool false) ?_ ?_
  .rintro _ V ⟨I,rfl⟩;rw[aS];exact⟨fD.mk (I.aa _) (h.ext I),0,[],ap.nil _ _ _ _,λr X=>absurd X (λh=>by obtain⟨a,n,c,h,_⟩:=h;cases h),Ξ,λq Y=>by cases Y⟩
  .intro av U;rw[aP,ai];refine⟨λ_=>?_,λ_=>U _ _ ⟨Ext.refl _,rfl⟩⟩;refine (ng h).mono ?_;rintro _ V _ ⟨rfl,I⟩;exact U _ _ ⟨I,rfl⟩
def sf (z:Λ) (l:List (Λ×Int)) (s:az):az:={s with shared:=s.shared++[(z,l)]}
def Bu (w:x3) (g gs:Nat):Prop:=∃ (e big I J told:Int) (sv:x1),ac w g b4 (fq gs e big I J told sv)/\e≠0
def gC (w:x3) (g gs:Nat) (A:ah) (B:ah) (clean:Bool) (s:Option az):Prop:=match s with
 |some s=>c4 w g gs A B s clean
 |none=>Bu w g gs
theorem c6.q {g:Nat} {A:ah} {B:ah} {s:Option az} (h:c6 w g gs A B clean s):gC w g gs A B clean s:=by
 cases s with
 |some s=>exact h
 |none=>
  obtain⟨_,e,big,I,J,told,sv,l,U,V,_⟩:=h;exact⟨e,big,I,J,told,sv,U,V.1⟩
theorem gC.aa {g:Nat} {A:ah} {B:ah} {s:Option az} (h:gC w g gs A B clean s) (I:ae S w w') (U:¬S g) (V:∀r,bw g gs A r->r<w.heap.size->¬S r) (W:∀r,cA g gs A B r->¬S r):gC w' g gs A B clean s:=by
 cases s with
 |some s=>
  have h:c4 w g gs A B s clean:=h;exact c4.aa h I (λr J=>V r J (h.1.2.2.2.1 r J)) W
 |none=>
  obtain⟨e,big,X,Y,told,sv,ab,ac⟩:=h;exact⟨e,big,X,Y,told,sv,ab.aa I U,ac⟩
theorem gC.ext {g:Nat} {A:ah} {B:ah} {s:Option az} (h:gC w g gs A B clean s) (I:Ext w w'):gC w' g gs A B clean s:=h.aa (I.aa λ_=>False) (λh=>h) (λ_ _ _ h=>h) (λ_ _ h=>h)
theorem Bv {g:Nat} {A:ah} {B:ah} {s:Option az} (h:gC w g gs A B clean s):aj x7 kz [Γ g] w λv w'=>v= .bool s.isSome/\Ext w w':=by
 cases s with
 |none=>
  obtain⟨e,big,W,X,told,sv,I,U⟩:=h;refine (vm I).mono ?_;rintro _ J _ ⟨rfl,V⟩;exact⟨by rw[decide_eq_false U];rfl,V⟩
 |some s=>exact oA h
theorem gV.aX {g:Nat} {R R':Nat->Prop} {toks:List (Λ)} (h:gV w g R toks clean) (J:ae S w w') (V:¬S g) (W:∀r,R r->¬S r) (X:∀r,R r->R' r):gV w' g R' toks clean:=by
 obtain⟨Y,p,a,⟨h1,ab,ac,ad,bk,af⟩,U,ag⟩:=h;exact⟨Y,p,a,⟨h1,ab,ac,ad.aa J V,bk,bn af J λr I=>W r (U r I)⟩,λr I=>X r (U r I),ag⟩
theorem lE {α:Type} [ak α] {m:Bool} {S R:ah} {l:List α} (h:ak.rep m S R w [v] l):∃a n c,v= .slice a n c:=by
 obtain⟨vs,J,F,U,he,I,hm⟩:=iS h;obtain⟨V,b,o,base,cap,rfl,_⟩:=I;exact⟨_,_,_,rfl⟩
def kR (w:x3) (g gs:Nat) (A:ah) (B:ah) (R:ah) (clean:Bool) (s:Option az):Prop:=match s with
 |some s=>kN w g gs A B/\gV w gs R s.toks clean/\(0<=s.told/\s.told<=ao/\s.shared.length+s.toks.length<=100000)/\
  ∃big I J told sv,ac w g b4 (fq gs 0 big I J told sv)/\((s.big=true↔big≠0)/\(s.big=false->told=s.told))/\bx A R w [sv] (show List io from s.shared)
 |none=>Bu w g gs
theorem kR.aa {g:Nat} {A R:ah} {B:ah} {s:Option az} (h:kR w g gs A B R clean s) (I:ae S w w') (X:¬S g) (Y:∀r,bw g gs A r->r<w.heap.size->¬S r) (ab:∀r,R r->¬S r):kR w' g gs A B R clean s:=by
 cases s with
 |some s=>
  obtain⟨h1,ac,ad,big,J,U,told,sv,V,W,af⟩:=h;have ag:=h1.2.2.2.1;exact⟨h1.aa I,ac.aa I (Y gs (.inr (.inl rfl)) (ag _ (.inr (.inl rfl)))) ab,ad,big,J,U,told,sv,V.aa I X,W,ak.aa af I λr ai h=>h.elim (λh=>Y r (.inr (.inr h)) ai) (ab r)⟩
 |none=>
  obtain⟨e,big,J,U,told,sv,V,W⟩:=h;exact⟨e,big,J,U,told,sv,V.aa I X,W⟩
theorem kR.out {g:Nat} {A R B I:ah} {s:Option az} (h:kR w g gs A B R clean s) (J:∀r,R r->cA g gs A I r) (U:∀r,I r->r<w.heap.size):gC w g gs A I clean s:=by
 cases s with
 |some s=>
  obtain⟨⟨V,W,X,Y,an⟩,⟨aa,p,a,ab,ac,ad⟩,ae,big,af,ag,told,sv,ai,aj,al⟩:=h;exact⟨⟨V,W,X,Y,U⟩,⟨aa,p,a,ab,λr am=>J r (ac r am),ad⟩,ae,big,af,ag,told,sv,ai,aj,ak.mono al (λ_ _ h=>h) λr _ h=>J r h⟩
 |none=>exact h
theorem c6.qr {g:Nat} {A R:ah} {B:ah} {s:Option az} (h:c6 w g gs A B clean s) (W:∀r,cA g gs A B r->R r):kR w g gs A B R clean s:=by
 cases s with
 |some s=>
  obtain⟨h1,⟨X,p,a,Y,aa,ab⟩,ac,big,I,J,told,sv,U,V,ad⟩:=h;exact⟨h1,⟨X,p,a,Y,λr ae=>W r (aa r ae),ab⟩,ac,big,I,J,told,sv,U,V,ak.mono ad (λ_ _ h=>h) λr _ h=>W r h⟩
 |none=>
  obtain⟨_,e,big,I,J,told,sv,l,U,V,_⟩:=h;exact⟨e,big,I,J,told,sv,U,V.1⟩
theorem Kp {g ao:Nat} {A B R:ah} {s:Option az} {aJ aW u:x1} {z:Λ} {l:List (Λ×Int)} {K:x3->Prop} (h:c6 w g gs A B clean s) (ap:∀r,cA g gs A B r->R r) (aH:∀r,R r->cA g gs A (oK w.heap.size) r)
  (aI:∀t,s=σ t->t.shared.length+1+t.toks.length<=100000) (aK:ac w ao bW [aJ,u,aW,v])
  (hu:ak.rep (α:=Λ) false bo R w [u] z) (aL:ak.rep (α:=List (Λ×Int)) false bo R w [v] l)
  (aY:∀w' aN,ae (bw g gs A) w w'->(∀r,aN r->A r\/w.heap.size<=r)->kR w' g gs aN (oK w.heap.size) R clean (s.map (sf z l))->K w'):
  U x7 (bF (Γ g)) w λau=>
  U x7 (u6 b4 au 3) w λav=>
  U x7 (u5 gQ av) w λaO=>
  U x7 (u6 bW (Γ ao) 1) w λt76=>
  U x7 (u5 aq t76) w λt77=>
  U x7 (u6 bW (Γ ao) 3) w λaZ=>
  U x7 (u5 ib aZ) w λa1=>
  U x7 (Instr.build jk #[(0,t77),(1,a1)]) w λa2=>
  ax x7 (Z9 gQ 1 #[(0,a2)]) w λa6 ag=>
   (Ext w ag\/ct x7 (u5 gQ av) aO ag/\ct x7 (u6 b4 au 3) av ag/\ct x7 (bF (Γ g)) au ag/\True)/\
   ax x7 (b8 #[gQ,gQ] gQ #[aO,a6]) ag λa7 aw=>
    U x7 (bF (Γ g)) aw λa8=>
    U x7 (u6 b4 a8 3) aw λba=>
    ax x7 (o7 gQ ba a7) aw λ(_:Unit) bb=>K bb:=by
 obtain⟨bc,e,big,X,Y,told,sv,aj,ab,al,bm,bd⟩:kN w g gs A B/\ ∃e big X Y told sv,∃aj:List io,ac w g b4 (fq gs e big X Y told sv)/\bx A R w [sv] aj/\aj.length<=100000/\
   ∀w' aN ad,kN w' g gs aN (oK w.heap.size)->ae (λr=>A r\/r=g) w w'->ac w' g b4 (fq gs e big X Y told ad)->bx aN R w' [ad] (aj++[((z,l):io)])->kR w' g gs aN (oK w.heap.size) R clean (s.map (sf z l)):=by
  cases s with
  |none=>
   obtain⟨h1,e,big,X,Y,told,sv,l',ay,am,aA⟩:=h;exact⟨h1,e,big,X,Y,told,sv,l',ay,ak.mono aA (λ_ _ h=>h) λr _ h=>ap r h,am.2,λw' aN ad I _ ab al=>⟨e,big,X,Y,told,ad,ab,am.1⟩⟩
  |some s=>
   obtain⟨h1,be,aP,big,X,Y,told,sv,ay,am,aA⟩:=h;have aI:=aI s rfl;refine⟨h1,0,big,X,Y,told,sv,s.shared,ay,ak.mono aA (λ_ _ h=>h) λr _ h=>ap r h,(show s.shared.length<=100000 by omega),λw' aN ad I bf ab al=>⟨I,?_,⟨aP.1,aP.2.1,?_⟩,big,X,Y,told,ad,ab,am,al⟩⟩
   .exact gV.aX be bf (λhe=>he.elim h1.2.2.1 λh=>h1.1 h.symm) (λr W he=>he.elim (λh=>W.1 (.inr (.inr h))) λh=>W.1 (.inl h)) ap
   .show (s.shared++[(z,l)]).length+s.toks.length<=100000;simp;omega
 obtain⟨bg,aB,bh,aQ,bn⟩:=id bc;rw[aM b4.p 3 ab rfl,aD bW.p 1 aK rfl,aD bW.p 3 aK rfl];rw[dc (cs:=#[u,v]) (by obtain⟨_,_,_,rfl⟩:=lE hu;obtain⟨_,_,_,rfl⟩:=lE aL;kernel_rfl)];have aR:bx (λ_=>False) R w [u,v] ((z,l):io):=⟨[u],[v],bo,bo,rfl,λ_ h=>h,λ_ h=>h,λ_ _ h _=>h,hu,aL⟩;refine jm (α:=io) (a:=(z,l)) (cs:=[u,v]) (A:=λ_=>False) (R:=R) gQ.u jk.i Φ rfl aR λx J af _ bi=>?_;have bp:=af.size;refine⟨.inl af,?_⟩;refine l4 (α:=io) (a:=(z,l)) (A:=λ_=>False) (R:=R) gQ.u jk.i rfl (bq al af) bi (bq aR af) (λr _ bj ai=>?_) Ω Ω λaS V aE aF=>?_
 .rcases ai with ai|ai
  .exact ai
  .exact (aH r ai).1 (.inr (.inr bj))
 have br:=aF.size;have bk:=(ab.ext af).aa aF aB;rw[bQ,aT b4.p rfl];refine bz (g:=g) (o:=6) gQ.i (oc aE) (hp aE) bk (by simp[fq]) λan aU bt aG=>?_;have aG:ac an g b4 (fq gs e big X Y told aS):=aG;have aV:ae (λr=>A r\/r=g) w an:=((af.aa _).trans (aF.mono λr _ h=>.inl h)).trans (aU.mono λr _ h=>.inr h);let aN:ah:=λr=>(A r\/w.heap.size<=r)/\r<V.heap.size;have bu:g<w.heap.size:=aQ g (.inl rfl);have bA:gs<w.heap.size:=aQ gs (.inr (.inl rfl));have bl:=ak.mono (S':=aN) (R':=R) aE (λr W h=>⟨h.elim .inl λh=>h.elim False.elim λh=>.inr Ω,W⟩) (λr W h=>h);refine aY an aN (aV.mono λr _ h=>h.elim (λh=>.inr (.inr h)) .inl) (λr W=>W.1) (bd an aN aS ⟨bg,λh=>h.1.elim aB λh=>Ω,λh=>h.1.elim bh λh=>Ω,λr W=>?_,?_⟩ aV aG (ak.aa bl aU λr W aC he=>?_))
 .rcases W with rfl|rfl|W
  .omega
  .omega
  .have:=W.2;omega
 .intro r W;have W:r<w.heap.size:=W;omega
 .have he:r=g:=he;subst he;rcases aC with aC|aC
  .exact aC.1.elim aB λh=>Ω
  .exact (aH _ aC).1 (.inl rfl)
theorem Kq {aJ af:x1} {az:x3->Prop} (aA:ac w I bW [aJ,.slice ν 0 0,Δ 0,.slice ν 0 0]) (aC:aB .i64 w aJ scope) (aR:∀r,leads aJ r->r≠I)
  (aS:aB .i64 w af all) (aU:∀r,leads af r->r≠I) (aV:∀v∈scope,0<=v/\v<all.length) (bi:scope.length<=100001)
  (aW:∀w' szv gz,ae (λr=>r=I) w w'->ac w' I bW [aJ,szv,Δ 0,.slice ν 0 0]->ap .i64 al w' gz szv (scope.map λv=>all.getD v.toNat 0)->w.heap.size<=gz->az w'):
 ce (Δ 0) w λan ab k=>
  U x7 (aE .lss ag false false an (Δ (scope.length:Int))) ab λaX=>
  Split aX (U x7 (j5 aq aJ an) ab λaY=>
  U x7 (u5 al aY) ab λaZ=>
  eh ab λW=>
  U x7 (u6 bW (Γ I) 1) W λt39=>
  U x7 (u5 aq t39) W λaG=>
  U x7 (j5 aq af aZ) W λa1=>
  U x7 (u5 al a1) W λa2=>
  ax x7 (Z9 aq 1 #[(0,a2)]) W λt45 ah=>
   (Ext W ah\/ct x7 (u5 aq t39) aG ah/\ct x7 (u6 bW (Γ I) 1) t39 ah/\True)/\
  ax x7 (b8 #[aq,aq] aq #[aG,t45]) ah λt46 aH=>
   U x7 (u6 bW (Γ I) 1) aH λa6=>
   ax x7 (o7 aq a6 t46) aH λ(_:Unit) aI=>
    U x7 (aE .add ag false true an (Δ 1)) aI λa7=>
  k a7 aI) (az ab):=by
 have bj:=aA.lt;refine ce.range scope.length (λi J=>ae (λr=>r=I) w J/\ ∃szv gz,ac J I bW [aJ,szv,Δ 0,.slice ν 0 0]/\ap .i64 al J gz szv ((scope.take i).map λv=>all.getD v.toNat 0)/\w.heap.size<=gz) aC.le ⟨ae.refl _ _,_,w.heap.size,aA,ap.nil _ _ _ _,p9 _⟩ ?_ ?_
 rotate_left
 .rintro J a8 ⟨X,szv,gz,aj,ak,aK⟩;rw[o6] at ak;rw[aP,ai];exact⟨λh=>Ω,λ_=>aW J szv gz X aj ak aK⟩
 rintro i J a8 hi ⟨X,szv,gz,aj,ak,aK⟩ bb;obtain⟨v,ao⟩:=aF (l:=scope) hi;have bk:=aV v (x5 ao);have bc:all[v.toNat]? =σ (all.getD v.toNat 0):=by
  rw[u4,x6 Ω];rfl
 have bd:aB .i64 J aJ scope:=hv aC X λr am a n c au av=>aR r ⟨a,n,c,au,av⟩ am;have be:aB .i64 J af all:=hv aS X λr am a n c au av=>aU r ⟨a,n,c,au,av⟩ am;refine bB Ω ?_;rw[ba aq.u al.i Ψ bd ao];intro V Y _ _;have bl:=X.size;have bm:=Y.size;rw[aD bW.p 1 (aj.ext Y) rfl];rw[fP (y:=v) (i:=v.toNat) Ω aq.u al.i Ψ (be.ext Y) bc];refine en aq.u al.i rfl λa ga bn bo ad bf=>?_;refine⟨.inl ad,?_⟩;have z3:=ad.size;refine iQ aq.u al.i rfl ((ak.ext Y).ext ad) bf.ls Θ Θ λaM aN bp bq aw aO=>?_;rw[aT bW.p rfl];have bg:=((aj.ext Y).ext ad).aa aO (λhe=>by have he:I=gz:=he;omega);refine bz (g:=I) (o:=1) aq.i aw.ls.cells.1 aw.ls.cells.2 bg Ξ λbh aQ br ay=>?_;have ay:ac bh I bW [aJ,aM,Δ 0,.slice ν 0 0]:=ay;rw[aL];refine bb _ ⟨(gU (X.trans ((Y.trans ad).aa _)) aO λr am he=>by have he:r=gz:=he;omega).trans aQ,aM,aN,ay,?_,Ω⟩;rw[r8,ao,l9,c8];exact aw.aa aQ (λ_ he=>by have he:aN=I:=he;omega)
abbrev gY:Type:=Rd (Λ)×Rd (Λ)×Int×Rd (List (Λ×Int))
def gD (f:cm):gY:=(f.scope,f.sizes,f.other,f.lines)
theorem Bw {R:ah} {aJ bZ:x1} {o:Int} {sc I:Λ} {l:List (Λ×Int)} (h1:ak.rep (α:=Λ) false bo R w [aJ] sc) (J:ak.rep (α:=Λ) false bo R w [szv] I) (U:ak.rep (α:=List (Λ×Int)) false bo R w [bZ] l):
  Seen R w [aJ,szv,Δ o,bZ] ((sc,I,o,l):gY):=
 ⟨[aJ],[szv,Δ o,bZ],bo,bo,rfl,λ_ h=>h,λ_ h=>h,λ_ _ h _=>h,h1,[szv],[Δ o,bZ],bo,bo,rfl,λ_ h=>h,λ_ h=>h,λ_ _ h _=>h,J,[Δ o],[bZ],bo,bo,rfl,λ_ h=>h,λ_ h=>h,λ_ _ h _=>h,rfl,U⟩
theorem p0 {R:ah} {g:Nat} (h:ap .i64 e w g v l) (W:∀r,leads v r->R r):ak.rep (α:=Λ) false bo R w [v] l:=by
 have h1:bx (λr=>r=g) bo w [v] l:=kG h;obtain⟨vs,X,F,af,he,I,hm⟩:=iS h1;refine⟨v,rfl,vs,X,λ_ _=>False,⟨λ_ _ h=>h,λh=>(by cases h),λh=>by cases h⟩,⟨he.1,λi c a Y aa=>?_⟩,?_,λh=>by cases h⟩
 .exact he.2 i c a Y aa
 .obtain⟨J,b,o,base,cap,rfl,ab,ac,U,ag,ad⟩:=I;refine⟨J,b,o,base,cap,rfl,ab,ac,U,λV=>.inr (W b ?_),ad⟩;have ae:0<l.length:=by
   rw[J] at V;rcases R4 l.length with h|h
   .rw[h,Nat.zero_mul] at V;omega
   .exact h
  exact⟨⟨b,o,ν⟩,l.length,cap,by rw[U ae],rfl⟩
theorem Bx {α:Type} [ak α] {R R':ah} {a:α} (h:Seen R w cs a) (I:∀r,r<w.heap.size->R r->R' r):Seen R' w cs a:=ak.mono h (λ_ _ h=>h) I
theorem By {V:Nat} (J:cs.length=4) (h1:∀v∈cs,v.oneCell'=true) (Y:ac w V bW cs) {W:List x1} (aa:W.length=4) (ab:ac w I bW W)
  (ad:∀w',ae (λr=>r=I) w w'->K (.agg cs.toArray) w'):
  U x7 (u5 bW (Γ V)) w λaf=>
  ax x7 (o7 bW (Γ I) af) w λ(_:Unit) X=>
  U x7 (do loadVar bW (<-asAddr (Γ I))) X λag=>K ag X:=by
 rw[bI bW.p bW.i J Y.range];refine cc bW.i J aa h1 ab λw' ah _ ai=>?_;rw[fB bW.p bW.i J ai.range];exact ad w' ah
theorem Bz {s s':az} {l:List (Λ×Int)} (h:dL sizes s=σ (l,s')):s'.shared=s.shared/\s'.toks.length<=s.toks.length:=by
 unfold dL at h;cases U:bc (-ao) ao s with
 |none=>rw[U] at h;cases h
 |some q=>
  obtain⟨n,J⟩:=q;rw[U] at h;simp only at h;have h1:=dw U;obtain⟨Y,aa,V⟩:=h1.eqs;split at h
  .cases I:J.shared[(-n-1).toNat]? with
   |none=>rw[I] at h;cases h
   |some q=>
    obtain⟨z,l'⟩:=q;rw[I] at h;simp only at h;split at h
    .simp only[Y6,T4] at h;obtain⟨rfl,rfl⟩:=h;exact⟨V,by have:=h1.1;omega⟩
    .cases h
  .have:=j1 (f:=dK sizes) (λacc t=>t.shared=s.shared/\t.toks.length<=s.toks.length) (λacc t a bp ⟨X,ab⟩ g=>by
    obtain⟨ac,ad,ae,W⟩:=oy g;obtain⟨f1,f2,f3⟩:=W.eqs;exact⟨by rw[f3,X],by have:=W.1;omega⟩) n.toNat [] (a8 (decide (16384<min (J.told+n) ao)) {J with told:=min (J.told+n) ao}) l s' ⟨V,by have:=h1.1;show J.toks.length<=_;omega⟩ h
   exact this.1
theorem Kr {g:Nat} {A B:ah} {s:az} {a2:x1} (h:c4 w g gs A B s clean) (hi:dM s) (b8:aB .i64 w a2 all) (bH:∀r,leads a2 r->¬bw g gs A r/\r<w.heap.size)
  (cK:∀z∈all,1<=z/\z<=ao) (dK:all.length<=100001) (cL:dA w) (h1:cA g gs A B 1):
  aj x7 yK [Γ g,a2] w λv w'=>∃aN aF cs,∃b9:gY,v= .agg cs.toArray/\cs.length=4/\ae (bw g gs A) w w'/\(∀r,aN r->A r\/w.heap.size<=r)/\(∀r,aF r->(B r\/w.heap.size<=r)/\r<w'.heap.size)/\(∀r,B r->aF r)/\gC w' g gs aN aF clean ((cX all s).map (·.2))/\
   Seen (cA g gs aN aF) w' cs b9/\ ∀q,cX all s=σ q->b9=gD q.1:=by
 have cM:=h.1;obtain⟨dN,dO,bI,cN,aG⟩:=id cM;have ad:∀r,bw g gs A r->r<w.heap.size:=cN;have dP:ao=4611686018427387904:=rfl;have dQ:s.shared.length+s.toks.length<=100000:=h.2.2.1.2.2;refine aw func82 ?_;refine bN bW.i λX J dR bJ bj=>?_;have bj:ac J X bW [.slice ν 0 0,.slice ν 0 0,Δ 0,.slice ν 0 0]:=bj;have dS:=bJ.size;have dT:=bj.lt;have au:¬bw g gs A X:=λW=>by have:=ad _ W;omega
 refine (vn (lo:=-ao) (hi:=ao) (h.ext bJ)).mono ?_;rintro _ V _ ⟨aI,a,at_,rfl,ca,cO⟩;obtain⟨bK,bL⟩:=aI.of;have dU:=bK.size;rw[bf,bg,aP,lu];have dV: -ao<=a/\a<=ao:=by
  cases Y:bc (-ao) ao s with
  |none=>rw[cO Y];unfold ao;omega
  |some q=>rw[ca q Y];exact (hx (n:=q.1) (s':=q.2) Y).1
 rw[wrap_i64 Ω Ω,uF,show max a (0-a)=((a.natAbs:Nat):Int) by omega];have cb:ae (bw g gs A) w V:=(bJ.aa _).trans bK;have cP:aB .i64 V a2 all:=hv b8 cb λr I a n c af bO=>(bH r ⟨a,n,c,af,bO⟩).1 I;rw[aV aq.u cP];refine (Ko (k:=a.natAbs) (m:=(all.length:Int)) bL Ω Ω).mono ?_;rintro aJ dW _ ⟨aI,gr,scope,a6,cQ,dX,cR⟩;obtain⟨bP,cS⟩:=aI.of;have z3:=bP.size;rw[dc (cs:=#[aJ,.slice ν 0 0,Δ 0,.slice ν 0 0]) (by obtain⟨_,_,_,_,_,rfl,_⟩:=a6.ls;kernel_rfl)];refine bN bW.i λU cT dY ba bk=>?_;have bk:ac cT U bW [.slice ν 0 0,.slice ν 0 0,Δ 0,.slice ν 0 0]:=bk;have z4:=ba.size;have dZ:=bk.lt;have bQ:=a6.ls.cells;refine cc (vs:=[aJ,.slice ν 0 0,Δ 0,.slice ν 0 0]) bW.i rfl rfl (by intro v af;simp at af;rcases af with rfl|rfl|rfl|rfl<;>first|exact bQ.2|rfl) bk λbl bb ea cU=>?_;have aS:¬bw g gs A U:=λW=>by have:=ad _ W;omega
 have cd:c6 bl g gs A B clean ((pZ all.length a.natAbs ((bc (-ao) ao s).map (·.2))).map (·.2)):=(cS.ext ba).aa bb (λr I he=>by have he:r=U:=he;exact aS (he▸I)) (λr I he=>by have:=aG r I.2;have he:r=U:=he;omega);have ce:ae (bw g gs A) w bl:=gU ((cb.trans bP).trans (ba.aa _)) bb λr I he=>by have he:r=U:=he;omega
 have cV:ac bl X bW [.slice ν 0 0,.slice ν 0 0,Δ 0,.slice ν 0 0]:=(((bj.aa bK au).aa bP au).ext ba).aa bb (λhe=>by have he:X=U:=he;omega);have cW:ap .i64 al bl gr aJ scope:=bn (a6.ext ba) bb λr I he=>by
  obtain⟨cY,bL⟩:=bR a6 I;have he:r=U:=he;omega
 refine (oJ cd).mono ?_;rintro _ bm _ ⟨rfl,aK⟩;have aU:=cd.ext aK;have bd:=cW.ext aK;have bS:=cU.ext aK;have cg:=cV.ext aK;have eb:=aK.size;have z5:=bb.size;have aC:∀r,leads aJ r->V.heap.size<=r/\r≠U/\r≠X:=λr I=>by
  obtain⟨cY,bL⟩:=bR a6 I;have:=cQ r I;exact⟨this,Ω,Ω⟩
 have an:cX all s=match pZ all.length a.natAbs ((bc (-ao) ao s).map (·.2)) with
   |none=>ν
   |some (sc,ag)=>(ir (sc.map λv=>all.getD v.toNat 0) ((a7 0 ao (σ (a8 (decide (6<a.natAbs)||de (sc.map λv=>all.getD v.toNat 0)) ag))).map (·.2))).map λq=>((⟨sc,sc.map λv=>all.getD v.toNat 0,((bc 0 ao (a8 (decide (6<a.natAbs)||de (sc.map λv=>all.getD v.toNat 0)) ag)).map (·.1)).getD 0,q.1⟩:cm),if a<0 then sf (sc.map λv=>all.getD v.toNat 0) q.1 q.2 else q.2):=by
  unfold cX;cases Y:bc (-ao) ao s with
  |none=>rfl
  |some q=>
   obtain⟨a',aH⟩:=q;have:=ca _ Y;subst this;simp only;show _=match eQ all.length a.natAbs aH with
    |none=>ν
    |some (sc,ag)=>_
   cases eQ all.length a.natAbs aH with
   |none=>rfl
   |some q=>
    obtain⟨sc,ag⟩:=q;simp only;show _=V6 _ (ir _ ((bc 0 ao _).map (·.2)));cases bc 0 ao (a8 (decide (6<a.natAbs)||de (sc.map λv=>all.getD v.toNat 0)) ag) with
    |none=>rfl
    |some q=>
     obtain⟨o,ab⟩:=q;simp only;show _=V6 _ (dL _ ab);cases dL (sc.map λv=>all.getD v.toNat 0) ab with
     |none=>rfl
     |some q=>rfl
 rw[bu,cz];cases aL:pZ all.length a.natAbs ((bc (-ao) ao s).map (·.2)) with
 |none=>
  rw[aL] at aU an;simp only at an;refine⟨λ_=>?_,λh=>by simp at h⟩;refine By rfl (by intro v af;simp at af;rcases af with rfl|rfl|rfl|rfl<;>first|exact bQ.2|rfl) bS rfl cg λaM ax=>?_;have cZ:=ax.size;refine⟨A,λr=>(B r\/w.heap.size<=r)/\r<aM.heap.size,_,(scope,[],0,[]),rfl,rfl,gU (ce.trans (aK.aa _)) ax λr I he=>by have he:r=X:=he;omega,λr I=>.inl I,λr I=>I,λr I=>⟨.inl I,by have:=aG r I;omega⟩,?_,?_,λq Y=>by rw[an] at Y;cases Y⟩
  .rw[an];have c0:gC aM g gs A B clean (V6 (λx=>x.2) (ν:Option (Λ×az))):=aU.q.aa ax (λhe=>by have:=ad g (.inl rfl);have he:g=X:=he;omega) (λr I _ he=>by have he:r=X:=he;exact au (he▸I)) (λr I he=>by have:=aG r I.2;have he:r=X:=he;omega);exact c0
  .refine Bw (p0 (bn bd ax λr I he=>(aC r I).2.2 he) λr I=>?_) gB gB;have ay:=aC r I;have aW:=(bR bd I);exact⟨λW=>by have:=ad _ W;omega,.inr Ω,Ω⟩
 |some q=>
  obtain⟨sc,ag⟩:=q;have:=cR _ aL;subst this;rw[aL] at aU an;simp only at an;refine⟨λh=>by simp at h,λ_=>?_⟩;have aU:c4 bm g gs A B ag clean:=aU;obtain⟨aH,c1,c2⟩:∃aH,(bc (-ao) ao s).map (·.2)=σ aH/\eQ all.length a.natAbs aH=σ (scope,ag):=by
   cases Y:(bc (-ao) ao s).map (·.2) with
   |none=>rw[Y] at aL;cases aL
   |some aH=>rw[Y] at aL;exact⟨aH,rfl,aL⟩
  obtain⟨ch,c3,rfl⟩:=Y2.1 c1;have ci:=dw (n:=ch.1) (s':=ch.2) c3;obtain⟨cj,ec,ed,ck⟩:=vk c2;have bT:=ci.eqs;have bU:=cj.eqs;have c5:dM ag:=λaE=>by rw[bU.1,bT.1];rw[bU.2.1,bT.2.1] at aE;exact hi aE
  have c7:ag.shared.length+1+ag.toks.length<=100000:=by rw[bU.2.2,bT.2.2];have:=ci.1;have:=cj.1;omega
  generalize bV:(scope.map λv=>all.getD v.toNat 0)=sizes at an;have cl:∀z∈sizes,1<=z/\z<=ao:=λz bp=>by
   rw[<-bV] at bp;obtain⟨v,af,rfl⟩:=o8.1 bp;have:=ck v af;refine cK _ ?_;rw[u4,x6 Ω];exact R5 _
  have ee:sizes.length=scope.length:=by rw[<-bV,u7]
  have cn:ae (bw g gs A) w bm:=ce.trans (aK.aa _);have c8:aB .i64 bm a2 all:=hv b8 cn λr I a n c af bO=>(bH r ⟨a,n,c,af,bO⟩).1 I;rw[aD bW.p 0 bS rfl,aV aq.u bd.ls];refine Kq bS bd.ls (λr I=>(aC r I).2.1) c8 (λr I=>by have:=(bH r I).2;omega) ck Ω λaM szv gz ax cp br ef=>?_;rw[bV] at br;have cZ:=ax.size;have bX:∀r,cA g gs A B r->¬(λr=>r=U) r:=λr I he=>by have:=aG r I.2;have he:r=U:=he;omega
  have bY:∀r,bw g gs A r->¬(λr=>r=U) r:=λr I he=>by have he:r=U:=he;exact aS (he▸I)
  have cq:=aU.aa ax bY bX;have c9:ae (bw g gs A) w aM:=gU cn ax λr I he=>by have he:r=U:=he;omega
  refine db (λbt=>ae (bw g gs A) aM bt/\c4 bt g gs A B (a8 (decide (6<a.natAbs)||de sizes) ag) clean) ?_ ?_
  rotate_left
  .intro av be;rw[bM,ai];refine⟨λeg=>?_,λeh=>?_⟩
   .refine (rZ cq).mono ?_;rintro _ da _ ⟨dd,df⟩;refine be _ ⟨dd.mono λr _ h=>.inl h,?_⟩;rw[decide_eq_true Ω,Bool.true_or];exact df
   .rw[aD bW.p 1 cp rfl];refine (AL br.ls λz bp=>(cl z bp).1).mono ?_;rintro _ da _ ⟨rfl,cr⟩;refine (rZ (cq.ext cr)).mono ?_;rintro _ ei _ ⟨dg,dh⟩;refine be _ ⟨(cr.aa _).trans (dg.mono λr _ h=>.inl h),?_⟩;rw[decide_eq_false Ω,Bool.false_or];exact dh
  rintro bt ⟨bx,bA⟩;have ej:=bx.size;generalize bI:a8 (decide (6<a.natAbs)||de sizes) ag=ab at an bA;have di:dM ab:=λaE=>by
   subst bI;have aE:(ag.big||_)=false:=aE;exact c5 (T7.1 aE).1
  have ek:ab.shared.length+1+ab.toks.length<=100000:=by subst bI;exact c7
  have bA:c6 bt g gs A B clean (σ ab):=bA;refine (lD (lo:=0) (hi:=ao) bA).mono ?_;rintro _ ct _ ⟨aI,o,em,rfl,dj,en⟩;obtain⟨bB,dk⟩:=aI.of;have eo:=bB.size;rw[bf,bg,aT bW.p rfl];have dl:=(cp.aa bx aS).aa bB aS;refine bz (g:=U) (o:=2) al.i rfl rfl dl Ξ λbC aX ep bD=>?_;have bD:ac bC U bW [aJ,szv,Δ o,.slice ν 0 0]:=bD;rw[aD bW.p 1 bD rfl];have dm:=dk.aa aX bY bX;have b0:ae (bw g gs A) aM ct:=bx.trans bB;have dn:ae (bw g gs A) w ct:=c9.trans b0;have cu:ae (bw g gs A) w bC:=gU dn aX λr I he=>by have he:r=U:=he;omega
  have aO:∀r,leads szv r->bm.heap.size<=r/\r<aM.heap.size:=λr I=>by have:=bR br I;omega
  have cw:ap .i64 al bC gz szv sizes:=bn (bn br b0 λr I W=>by have:=ad _ W;have:=aO r I;omega) aX λr I he=>by have he:r=U:=he;have:=aO r I;omega
  have dp:ap .i64 al bC gr aJ scope:=bn (bn (bn bd ax λr I he=>(aC r I).2.1 he) b0 λr I W=>by have:=ad _ W;have:=aC r I;omega) aX λr I he=>(aC r I).2.1 he;have er:=aX.size;refine (Kn dm (λt b1=>?_) cw.ls (λr I=>⟨λW=>by have:=ad _ W;have:=aO r I;omega,by have:=aO r I;omega⟩) cl Ω (cL.aa cu h1.1) h1).mono ?_
  .obtain⟨q,Y,rfl⟩:=Y2.1 b1;have cB:=(dw (n:=q.1) (s':=q.2) Y).eqs;intro aE;rw[cB.1];rw[cB.2.1] at aE;exact di aE
  rintro bZ dq _ ⟨aI,l,b2,cC⟩;obtain⟨aY,dr⟩:=aI.of;have es:=aY.size;have b3:bZ.cells= #[bZ]/\bZ.oneCell'=true:=⟨oc b2,hp b2⟩;rw[aT bW.p rfl];have ds:=bD.aa aY aS;refine bz (g:=U) (o:=3) ib.i b3.1 b3.2 ds Ξ λam aQ et bE=>?_;have bE:ac am U bW [aJ,szv,Δ o,bZ]:=bE;have eu:=aQ.size;have cD:=dr.aa aQ bY bX;have dt:ae (bw g gs A) w dq:=cu.trans aY;have du:ae (bw g gs A) w am:=gU dt aQ λr I he=>by have he:r=U:=he;omega
  have cE:ap .i64 al am gr aJ scope:=bn (bn dp aY λr I W=>by have:=ad _ W;have:=aC r I;omega) aQ λr I he=>(aC r I).2.1 he;have bF:ap .i64 al am gz szv sizes:=bn (bn cw aY λr I W=>by have:=ad _ W;have:=aO r I;omega) aQ λr I he=>by have he:r=U:=he;have:=aO r I;omega
  have dv:ac am X bW [.slice ν 0 0,.slice ν 0 0,Δ 0,.slice ν 0 0]:=((((((cg.aa ax (λhe=>by have he:X=U:=he;omega)).aa bx au).aa bB au).aa aX (λhe=>by have he:X=U:=he;omega)).aa aY au).aa aQ (λhe=>by have he:X=U:=he;omega));let aA:ah:=λr=>(B r\/w.heap.size<=r)/\r<am.heap.size;have cF:ak.rep (α:=List (Λ×Int)) false bo (λr=>cA g gs A aA r/\r≠U/\r≠X) am [bZ] l:=by
   refine Bx (ak.aa b2 aQ λr I h he=>?_) λr I h=>?_
   .have he:r=U:=he;rcases h with h|h
    .exact h
    .rcases h with h|h
     .have:=aG r h.2;omega
     .omega
   .rcases h with h|h
    .have:=aG r h.2;exact⟨⟨h.1,.inl h.2,I⟩,Ω,Ω⟩
    .exact⟨⟨λW=>by have:=ad _ W;omega,.inr Ω,I⟩,Ω,Ω⟩
  have dx:∀r,leads aJ r->cA g gs A aA r/\r≠U/\r≠X:=λr I=>by
   have ay:=aC r I;have aW:=(bR cE I);exact⟨⟨λW=>by have:=ad _ W;omega,.inr Ω,Ω⟩,ay.2⟩
  have cG:∀r,leads szv r->cA g gs A aA r/\r≠U/\r≠X:=λr I=>by
   have ay:=aO r I;have aW:=(bR bF I);exact⟨⟨λW=>by have:=ad _ W;omega,.inr Ω,Ω⟩,Ω,Ω⟩
  have dy:Seen (λr=>cA g gs A aA r/\r≠U/\r≠X) am [aJ,szv,Δ o,bZ] ((scope,sizes,o,l):gY):=Bw (p0 cE dx) (p0 bF cG) cF;have dz:∀q,cX all s=σ q->((scope,sizes,o,l):gY)=gD q.1:=λq Y=>by
   rw[an] at Y;obtain⟨ev,b4,rfl⟩:=Y2.1 Y;have ay:=cC _ b4;cases aZ:bc 0 ao ab with
   |none=>have e:a7 0 ao (σ ab)=ν:=aZ;rw[e] at b4;cases b4
   |some aR=>
    have aW:=dj aR aZ;rw[ay,aW];rfl
  have dC:∀v∈[aJ,szv,V1 .i64 o,bZ],v.oneCell'=true:=by
   intro v af;simp at af;rcases af with rfl|rfl|rfl|rfl
   .exact bQ.2
   .exact bF.ls.cells.2
   .rfl
   .exact b3.2
  have cH:∀r,cA g gs A B r->cA g gs A aA r/\r≠U/\r≠X:=λr I=>by
   have:=aG r I.2;exact⟨⟨I.1,.inl I.2,Ω⟩,Ω,Ω⟩
  refine db (λb5=>∃aN,ae (bw g gs A) am b5/\(∀r,aN r->A r\/am.heap.size<=r)/\ ∃aF,kR b5 g gs aN aF (λr=>cA g gs A aA r/\r≠U/\r≠X) clean ((cX all s).map (·.2))) ?_ ?_
  .rintro b5 ⟨aN,bh,bi,aF,dD⟩;have ew:=bh.size;refine By rfl dC (bE.aa bh aS) rfl (dv.aa bh au) λb6 bG=>?_;have ey:=bG.size;have cI:∀r,bw g gs aN r->¬(λr=>r=X) r:=λr I he=>by
    have he:r=X:=he;subst he;rcases I with I|I|I
    .exact au (.inl I)
    .exact au (.inr (.inl I))
    .rcases bi _ I with I|I
     .exact au (.inr (.inr I))
     .omega
   have cJ:∀r,(cA g gs A aA r/\r≠U/\r≠X)->cA g gs aN (λr=>(B r\/w.heap.size<=r)/\r<b6.heap.size/\(r<am.heap.size\/B r)) r:=λr h=>⟨λW=>h.1.1 (W.imp id (Or.imp id λW=>(bi r W).elim id λh'=>by have:=h.1.2.2;omega)),h.1.2.1,by have:=h.1.2.2;omega,.inl h.1.2.2⟩;have dE:kR b6 g gs aN aF (λr=>cA g gs A aA r/\r≠U/\r≠X) clean ((cX all s).map (·.2)):=dD.aa bG (cI g (.inl rfl)) (λr I _=>cI r I) (λr I=>I.2.2);refine⟨aN,λr=>(B r\/w.heap.size<=r)/\r<b6.heap.size/\(r<am.heap.size\/B r),_,(scope,sizes,o,l),rfl,rfl,gU (du.trans bh) bG λr I he=>by have he:r=X:=he;omega,λr I=>(bi r I).imp id λh=>Ω,λr I=>⟨I.1,I.2.1⟩,λr I=>⟨.inl I,by have:=aG r I;omega,.inr I⟩,dE.out cJ λr I=>I.2.1,?_,dz⟩;refine Bx (ak.aa (ak.aa dy bh λr _ h W=>?_) bG λr _ h he=>?_) λr _ h=>cJ r h
   .rcases h with h|h
    .exact h
    .exact h.1.1 W
   .rcases h with h|h
    .exact h
    .exact h.2.2 he
  .intro av be;rw[ai];refine⟨λdF=>?_,λdG=>?_⟩
   .intro b7 a1 _ _;have ez:=a1.size;have dH:∀r,(cA g gs A aA r/\r≠U/\r≠X)->cA g gs A (oK b7.heap.size) r:=λr h=>⟨h.1.1,by have:=h.1.2.2;show r<b7.heap.size;omega⟩;refine Kp (R:=λr=>cA g gs A aA r/\r≠U/\r≠X) (z:=sizes) (l:=l) (cD.ext a1) cH dH (λt b1=>?_) (bE.ext a1) (p0 (bF.ext a1) cG) (bq cF a1) λeA aN dI bi dJ=>?_
    .obtain⟨q,Y,rfl⟩:=Y2.1 b1;cases aZ:bc 0 ao ab with
     |none=>have e:a7 0 ao (σ ab)=ν:=aZ;rw[e] at Y;cases Y
     |some aR=>
      have e:a7 0 ao (σ ab)=σ aR:=aZ;rw[e] at Y;have h1:q.2.shared=aR.2.shared/\q.2.toks.length<=aR.2.toks.length:=Bz (l:=q.1) (s':=q.2) Y;have ay:=dw (n:=aR.1) (s':=aR.2) aZ;have aW:=ay.eqs.2.2;have eB:=ay.1;rw[h1.1,aW];have:=h1.2;omega
    .refine be _ ⟨aN,(a1.aa _).trans dI,λr I=>(bi r I).imp id λh=>Ω,oK b7.heap.size,?_⟩;have e:(cX all s).map (·.2)=((ir sizes ((a7 0 ao (σ ab)).map (·.2))).map (·.2)).map (sf sizes l):=by
      rw[an];cases Y:ir sizes ((a7 0 ao (σ ab)).map (·.2)) with
      |none=>rfl
      |some q=>
       have ay:=cC _ Y;simp only[Z2,if_pos dF,ay]
     rw[e];exact dJ
   .refine be _ ⟨A,ae.refl _ _,λr I=>.inl I,B,?_⟩;have e:(cX all s).map (·.2)=(ir sizes ((a7 0 ao (σ ab)).map (·.2))).map (·.2):=by
     rw[an];cases Y:ir sizes ((a7 0 ao (σ ab)).map (·.2)) with
     |none=>rfl
     |some q=>simp only[Z2,if_neg dG]
    rw[e];exact cD.qr cH
def ka (l:Λ):Prop:=∀v∈l,0<=v/\v<64
theorem p1 (h:ka l) {v:Int}:v∈bj l↔v∈l:=by
 unfold bj;rw[S3,decide_eq_true_eq];refine⟨λh=>h.2,λI=>⟨?_,I⟩⟩;obtain⟨h1,J⟩:=h v I;exact o8.2 ⟨v.toNat,List.mem_range.2 Ω,Ω⟩
theorem Ks (l:Λ):ka (bj l):=λv I=>by
 obtain⟨n,J,rfl⟩:=o8.1 (S3.1 I).1;have:=List.mem_range.1 J;omega
theorem vE (l:Λ):(bj l).Pairwise (·< ·):=by
 unfold bj;refine List.Pairwise.filter _ ?_;rw[List.pairwise_map];exact List.pairwise_lt_range.imp λh=>Ω
theorem BA (l:Λ):(bj l).Nodup:=(vE l).imp λh=>Ω
where
 nodup_le' {a b:Λ} (h:a.Nodup) (I:∀x∈a,x∈b):a.length<=b.length:=by
  induction a generalizing b with
  |nil=>exact X2 _
  |cons x a ih=>
   have h':=List.nodup_cons.1 h;have hx:=I x (.head _);have:=ih (b:=b.erase x) h'.2 λy hy=>(List.mem_erase_of_ne (λ(he:y=x)=>h'.1 (by rw[<-he];exact hy))).2 (I y (.tail _ hy));rw[List.length_erase_of_mem hx] at this;have:=List.length_pos_of_mem hx;rw[b9];omega
theorem BB (n:Nat):(0:Int)<64 ^ n:=Int.pow_pos Ω
theorem sg:∀ (l:Λ),ka l->0<=iX l/\iX l<64 ^ l.length
 |[],_=>by simp[iX]
 |x::l,h=>by
  have U:=sg l λy I=>h y (.tail _ I);have J:=h x (.head _);have V:=BB l.length;simp only[iX,b9];have e:(64:Int) ^ (l.length+1)=64*64 ^ l.length:=by rw[Int.pow_succ,Int.mul_comm]
  have h1:x*64 ^ l.length<=63*64 ^ l.length:=Int.mul_le_mul_of_nonneg_right Ω Ω;have W:0<=x*64 ^ l.length:=Int.mul_nonneg J.1 Ω;rw[e];omega
def fE:Λ->Λ->Int
 |x::a,y::b=>if x<y then-1 else if y<x then 1 else fE a b
 |[],[]=>0
 |[],_::_=>-1
 |_::_,[]=>1
theorem BC:∀ (a b:Λ),a.length=b.length->ka a->ka b->(fE a b<0↔iX a<iX b)/\(fE a b=0↔a=b)/\(iX a=iX b->a=b)
 |[],[],_,_,_=>by simp[fE]
 |[],_::_,h,_,_=>by simp at h
 |_::_,[],h,_,_=>by simp at h
 |x::a,y::b,h,Y,aa=>by
  have V:a.length=b.length:=by simpa using h
  have W:ka a:=λz I=>Y z (.tail _ I);have X:ka b:=λz I=>aa z (.tail _ I);have J:=BC a b V W X;have ab:=sg a W;have ad:=sg b X;have ae:=BB b.length;simp only[fE,iX];rw[V] at ab ⊢;have step:∀u v:Int,u<v->u*64 ^ b.length+64 ^ b.length<=v*64 ^ b.length:=λu v af=>by
   have:=Int.mul_le_mul_of_nonneg_right (show u+1<=v by omega) (show (0:Int)<=64 ^ b.length by omega);rw[Int.add_mul,Int.one_mul] at this;exact this
  by_cases h1:x<y
  .rw[if_pos h1];have:=step x y h1;exact⟨⟨λ_=>Ω,λ_=>Ω⟩,⟨λh=>Ω,λh=>by have:=(List.cons.inj h).1;omega⟩,λh=>Ω⟩
  .rw[if_neg h1];by_cases U:y<x
   .rw[if_pos U];have:=step y x U;exact⟨⟨λh=>Ω,λh=>Ω⟩,⟨λh=>Ω,λh=>by have:=(List.cons.inj h).1;omega⟩,λh=>Ω⟩
   .rw[if_neg U];have ac:x=y:=Ω
    subst ac;exact⟨J.1.trans ⟨λh=>Ω,λh=>Ω⟩,J.2.1.trans ⟨λh=>by rw[h],λh=>(List.cons.inj h).2⟩,λh=>by rw[J.2.2 Ω]⟩
def iY (l:Λ):Prop:=ka l/\l.length<=6
theorem BD (h:iY l):0<=iX l/\iX l<64 ^ 6:=by
 have:=sg l h.1;have J:(64:Int) ^ l.length<=64 ^ 6:=by
  have I:=h.2
  match l.length,I with
  |0,_=>decide
  |1,_=>decide
  |2,_=>decide
  |3,_=>decide
  |4,_=>decide
  |5,_=>decide
  |6,_=>decide
  |n+7,h=>omega
 omega
theorem vF {b:Λ} (J:iY a) (U:iY b):(cY a<cY b↔a.length<b.length\/(a.length=b.length/\fE a b<0))/\(cY a=cY b->a=b):=by
 have h1:=BD J;have V:=BD U;have e:(64:Int) ^ 6=68719476736:=Φ
 rw[e] at h1 V;unfold cY;rw[e];by_cases I:a.length=b.length
 .have:=BC a b I J.1 U.1;rw[I];exact⟨⟨λh=>.inr ⟨rfl,this.1.2 Ω⟩,λh=>by
   rcases h with h|⟨_,h⟩
   .omega
   .have:=this.1.1 h;omega⟩,λh=>this.2.2 Ω⟩
 .exact⟨⟨λh=>.inl Ω,λh=>by
   rcases h with h|⟨h,_⟩
   .omega
   .exact absurd h I⟩,λh=>Ω⟩
theorem sh (g:cF):∀l:List cF,(gW g l).Perm (g::l)
 |[]=>List.Perm.refl _
 |h::l=>by
  unfold gW;split
  .exact ((sh g l).cons h).trans (List.Perm.swap g h l)
  .exact List.Perm.refl _
theorem BE {g:cF}:∀ {l:List cF},l.Pairwise (λa b=>cY a.1<cY b.1)->(∀h∈l,cY h.1≠cY g.1)->(gW g l).Pairwise (λa b=>cY a.1<cY b.1)
 |[],_,_=>by simp[gW]
 |h::l,U,V=>by
  have J:=List.pairwise_cons.1 U;unfold gW;split
  .rename_i W;refine List.pairwise_cons.2 ⟨λx I=>?_,BE J.2 λx I=>V x (.tail _ I)⟩;rcases V0.1 ((sh g l).mem_iff.1 I) with rfl|I
   .exact W
   .exact J.1 x I
  .rename_i X;have:=V h (.head _);refine List.pairwise_cons.2 ⟨λx I=>?_,U⟩;rcases V0.1 I with rfl|I
   .omega
   .have:=J.1 x I;omega
theorem BF:∀ (l acc:List cF),acc.Pairwise (λa b=>cY a.1<cY b.1)->l.Pairwise (λa b=>cY a.1≠cY b.1)->(∀a∈acc,∀b∈l,cY a.1≠cY b.1)->
  (l.foldl (λl g=>gW g l) acc).Pairwise (λa b=>cY a.1<cY b.1)/\(l.foldl (λl g=>gW g l) acc).Perm (acc++l)
 |[],acc,h,_,_=>⟨h,Ξ⟩
 |g::l,acc,h,W,J=>by
  have U:=List.pairwise_cons.1 W;have:=BF l (gW g acc) (BE h λa I=>J a I g (.head _)) U.2 λa I b V=>by
   rcases V0.1 ((sh g acc).mem_iff.1 I) with rfl|I
   .exact U.1 b V
   .exact J a I b (.tail _ V)
  refine⟨this.1,this.2.trans ?_⟩;exact ((sh g acc).append_right l).trans (List.perm_middle (a:=g) (l₁:=acc) (l₂:=l)).symm
theorem vG {α:Type} {f:α->Int}:∀ {L M:List α},L.Pairwise (λa b=>f a<f b)->M.Pairwise (λa b=>f a<f b)->(∀x,x∈L↔x∈M)->L=M
 |[],M,_,_,h=>by
  cases M with
  |nil=>rfl
  |cons y M=>exact absurd ((h y).2 (.head _)) Ξ
 |x::L,[],_,_,h=>absurd ((h x).1 (.head _)) Ξ
 |x::L,y::M,h1,V,h=>by
  have J:=List.pairwise_cons.1 h1;have U:=List.pairwise_cons.1 V;have W:x=y:=by
   rcases V0.1 ((h x).1 (.head _)) with he|hm
   .exact he
   .rcases V0.1 ((h y).2 (.head _)) with he|X
    .exact he.symm
    .have a:=U.1 x hm;have b:=J.1 y X;omega
  subst W;rw[vG J.2 U.2 λz=>⟨λI=>?_,λI=>?_⟩]
  .rcases V0.1 ((h z).1 (.tail _ I)) with he|hm
   .subst he;have:=J.1 z I;omega
   .exact hm
  .rcases V0.1 ((h z).2 (.tail _ I)) with he|hm
   .subst he;have:=U.1 z I;omega
   .exact hm
structure fs (sizes:Λ) (k:Int) (g:cF):Prop where
 scope:iY g.1
 up:g.1.Pairwise (·< ·)
 vars:∀v∈g.1,v<sizes.length
 len:g.2.length=(aG (bS sizes g.1)).toNat
 small:aG (bS sizes g.1)<=4096
 hA:∀c∈g.2,0<=c/\c<=k
theorem np {sc:Λ} (J:∀z∈sizes,1<=z/\z<=32) (U:∀v∈sc,0<=v/\v<sizes.length):∀z∈bS sizes sc,1<=z/\z<=32:=λz h=>by
 obtain⟨v,V,rfl⟩:=o8.1 h;obtain⟨h1,W⟩:=U v V;have I:v.toNat<sizes.length:=Ω
 rw[u4,x6 I];exact J _ (R5 I)
theorem Kt {b:Λ} (h:a.Perm b):aG a=aG b:=by
 induction h with
 |nil=>rfl
 |cons x _ I=>simp only[aG,I]
 |swap x y l=>simp only[aG];rw[<-Int.mul_assoc,<-Int.mul_assoc,Int.mul_comm y x]
 |trans _ _ h1 J=>exact h1.trans J
theorem Ku {b:Λ} (h:a.length=b.length):(dQ k a b).length=b.length:=by simp[dQ,h]
theorem Kv {b:Λ} (hk:0<=k) (J:∀c∈a,0<=c/\c<=k) (U:∀c∈b,0<=c/\c<=k):∀c∈dQ k a b,0<=c/\c<=k:=by
 induction a generalizing b with
 |nil=>intro c I;simp[dQ] at I
 |cons x a V=>
  cases b with
  |nil=>intro c I;simp[dQ] at I
  |cons y b=>
   intro c I;have W:=J x (.head _);have X:=U y (.head _);rcases V0.1 (show c∈min (x+y) k::dQ k a b from I) with rfl|I
   .omega
   .exact V (λc h=>J c (.tail _ h)) (λc h=>U c (.tail _ h)) c I
def iu (l:List cF):Prop:=(l.map (·.1)).Nodup
theorem Kw {acc:List cF} {g:cF} (hk:0<=k) (U:∀h∈acc,fs sizes k h) (V:iu acc) (I:fs sizes k g):(∀h∈hU k acc g,fs sizes k h)/\iu (hU k acc g)/\(hU k acc g).length<=acc.length+1:=by
 unfold hU;split
 .refine⟨λh aC=>?_,?_,Ξ⟩
  .obtain⟨J,hm,rfl⟩:=o8.1 aC;have h1:=U J hm;split
   .rename_i he;have X:J.2.length=g.2.length:=by rw[h1.len,I.len,he]
    exact⟨h1.scope,h1.up,h1.vars,by show (dQ k J.2 g.2).length=_;rw[Ku X,I.len,he],h1.small,Kv hk h1.hA I.hA⟩
   .exact h1
  .unfold iu;rw[S1];have e:((λx:cF=>x.1)∘λh:cF=>if h.1=g.1 then (h.1,dQ k h.2 g.2) else h)=λx:cF=>x.1:=by
    funext h;simp only[Function.comp];split<;>rfl
   rw[e];exact V
 .rename_i Y;refine⟨λh aC=>?_,?_,Ξ⟩
  .rcases l7.1 aC with aC|aC
   .exact U h aC
   .rw[n9.1 aC];exact I
  .unfold iu;rw[c8];exact List.nodup_append.2 ⟨V,Ξ,λx aa y W he=>by
    simp only[U4,List.map_nil,n9] at W;subst W;subst he;exact Y aa⟩
theorem vH {sizes:Λ} {k:Int} (hk:0<=k):∀ {l acc:List cF},(∀h∈acc,fs sizes k h)->iu acc->(∀g∈l,fs sizes k g)->(∀h∈l.foldl (hU k) acc,fs sizes k h)/\iu (l.foldl (hU k) acc)/\(l.foldl (hU k) acc).length<=acc.length+l.length
 |[],acc,I,J,_=>⟨I,J,Ξ⟩
 |g::l,acc,I,J,U=>by
  obtain⟨h1,V,aa⟩:=Kw hk I J (U g (.head _));obtain⟨W,X,ab⟩:=vH hk h1 V λx Y=>U x (.tail _ Y);exact⟨W,X,by simp only[List.foldl_cons,b9];omega⟩
theorem BG {α:Type} [DecidableEq α]:∀ {a b:List α},a.Nodup->b.Nodup->(∀x,x∈a↔x∈b)->a.Perm b
 |[],b,_,_,h=>by
  cases b with
  |nil=>exact .refl _
  |cons y b=>exact absurd ((h y).2 (.head _)) Ξ
 |x::a,b,V,J,h=>by
  have W:=(h x).1 (.head _);have U:=List.nodup_cons.1 V;refine .trans ?_ (List.perm_cons_erase W).symm;refine .cons x (BG U.2 (J.erase x) λy=>?_);rw[J.mem_erase_iff];refine⟨λI=>⟨λhe=>U.1 (he▸I),(h y).1 (.tail _ I)⟩,λ⟨X,I⟩=>?_⟩;rcases V0.1 ((h y).2 I) with he|hm
  .exact absurd he X
  .exact hm
theorem si (h:ka l) (I:l.Nodup):(bj l).Perm l:=BG (BA l) I λ_=>p1 h
theorem vI:∀ {l:Λ},(∀z∈l,1<=z/\z<=32)->l.map (λz=>min z 4097)=l
 |[],_=>rfl
 |z::l,h=>by
  have J:=h z (.head _);rw[U4,vI λx I=>h x (.tail _ I)];congr 1;omega
theorem Kx {x:cm} (hk:0<=k) (U:0<=x.other) (I:∀p∈x.lines,0<=p.2):0<=jr x k t/\jr x k t<=k:=by
 unfold jr;cases J:x.lines.find? (λp=>decide (p.1=t)) with
 |none=>simp only;omega
 |some p=>have:=I p (List.mem_of_find?_eq_some J);simp only;omega
theorem sj {x:cm} (h:rV all N x) (J:all.length<=64):ka x.scope:=λv I=>by
 have:=h.scope.2 v I;omega
theorem oL {f:bY} {x:cm} (I:eX N f) (Y:x∈f.funs):fs f.sizes f.k (hy f.sizes f.k x):=by
 obtain⟨h1,aa,U⟩:=I.funs x Y;have ab:=I.sizes.2.1;have V:=sj h1 ab;have J:=si V h1.scope.1;have W:∀v∈bj x.scope,0<=v/\v<f.sizes.length:=λv hm=>h1.scope.2 v ((p1 V).1 hm);have ac:=np I.sizes.2.2 W;have ad:aG (bS f.sizes (bj x.scope))=aG x.sizes:=by rw[h1.sizes];exact Kt (J.map _)
 refine⟨⟨Ks _,?_⟩,vE _,λv hm=>(W v hm).2,?_,?_,λc ae=>?_⟩
 .show (bj x.scope).length<=6;rw[J.length_eq];exact aa
 .show ((bi _).map _).length=_;rw[u7,ij ac];rfl
 .show aG (bS f.sizes (bj x.scope))<=4096;have af:∀z∈x.sizes,1<=z/\z<=32:=λz X=>by
   rw[h1.sizes] at X;exact np I.sizes.2.2 (λv hm=>h1.scope.2 v hm) z X
  unfold de at U;rw[vI af,decide_eq_false_iff_not] at U;rw[ad];omega
 .obtain⟨t,_,rfl⟩:=o8.1 ae;exact Kx (by have:=I.k.1;omega) h1.other λp J=>(h1.lines.2 p J).2
theorem kS {f:bY} (I:eX N f):(∀g∈e9 f,fs f.sizes f.k g)/\iu (e9 f)/\(e9 f).length<=f.funs.length:=by
 have:=vH (sizes:=f.sizes) (k:=f.k) (by have:=I.k.1;omega) (l:=f.funs.map (hy f.sizes f.k)) (acc:=[]) (λh aC=>by cases aC) List.nodup_nil λg U=>by
  obtain⟨x,V,rfl⟩:=o8.1 U;exact oL I V
 refine⟨this.1,this.2.1,?_⟩;have J:=this.2.2;rw[List.length_nil,u7,X1] at J;exact J
theorem BH {l:List cF} (I:∀g∈l,fs sizes k g) (J:iu l):l.Pairwise λa b=>cY a.1≠cY b.1:=by
 have h1:l.Pairwise λa b=>a.1≠b.1:=by
  unfold iu List.Nodup at J;rwa [List.pairwise_map] at J
 exact h1.imp_of_mem λ{a b} U V W he=>W ((vF (I a U).scope (I b V).scope).2 he)
theorem p2 {f:bY} (J:eX N f):(fp f).Pairwise (λa b=>cY a.1<cY b.1)/\(fp f).Perm ((e9 f).filter fo):=by
 obtain⟨h1,U,_⟩:=kS J;have V:∀g∈(e9 f).filter fo,fs f.sizes f.k g:=λg W=>h1 g (S3.1 W).1;have X:iu ((e9 f).filter fo):=(List.Sublist.map _ List.filter_sublist).nodup U;have:=BF ((e9 f).filter fo) [] List.Pairwise.nil (BH V X) λa Y=>by cases Y
 refine⟨this.1,?_⟩;have I:=this.2;rw[List.nil_append] at I;exact I
theorem sk {f:bY} (I:eX N f):∀g∈fp f,fs f.sizes f.k g:=λg J=>(kS I).1 g (S3.1 ((p2 I).2.mem_iff.1 J)).1
theorem Ky {f:bY} (J:eX N f) {M:List cF} (U:M.Perm ((e9 f).filter fo)) (I:M.Pairwise λa b=>cY a.1<=cY b.1):M=fp f:=by
 obtain⟨h1,V⟩:=p2 J;have W:iu ((e9 f).filter fo):=(List.Sublist.map _ List.filter_sublist).nodup (kS J).2.1;have X:iu M:=(U.map (λg:cF=>g.1)).nodup_iff.2 W;have Y:∀g∈M,fs f.sizes f.k g:=λg aa=>(kS J).1 g (S3.1 (U.mem_iff.1 aa)).1;have ab:=BH Y X;refine vG (f:=λg:cF=>cY g.1) ?_ h1 λx=>by rw[U.mem_iff,V.mem_iff]
 exact I.imp₂ (λa b h1 V=>Int.lt_iff_le_and_ne.2 ⟨h1,V⟩) ab
structure jw (n:aQ):Prop where
 k:1<=n.k/\n.k<=2147483648
 sizes:1<=n.sizes.length/\n.sizes.length<=64/\ ∀z∈n.sizes,1<=z/\z<=32
 zero:0<=n.zero/\n.zero<=n.k
 kb:n.unary.length=n.sizes.length
 unary:∀ (i:Nat) (z:Int) (u:Λ),n.sizes[i]? =σ z->n.unary[i]? =σ u->u.length=z.toNat/\ ∀c∈u,0<=c/\c<=n.k
 funs:∀g∈n.funs,fs n.sizes n.k g/\2<=g.1.length
theorem Kz (z:Int):aG [z]=z:=by simp[aG]
theorem sm:∀ {l:List cF} {n:aQ},jw n->(∀g∈l,fs n.sizes n.k g)->jw (l.foldl (λn g=>match g.1 with
 |[]=>{n with zero:=g.2.getD 0 0}
 |[v]=>{n with unary:=n.unary.set v.toNat g.2}
 |_=>{n with funs:=n.funs++[g]}) n)/\(l.foldl (λn g=>match g.1 with
 |[]=>{n with zero:=g.2.getD 0 0}
 |[v]=>{n with unary:=n.unary.set v.toNat g.2}
 |_=>{n with funs:=n.funs++[g]}) n).sizes=n.sizes
 |[],n,h,_=>⟨h,rfl⟩
 |g::l,n,h,V=>by
  have I:=V g (.head _);have U:∀x∈l,fs n.sizes n.k x:=λx J=>V x (.tail _ J);rw[List.foldl_cons];obtain⟨sc,cs⟩:=g
  match sc,I with
  |[],I=>
   have X:=I.len;refine sm (n:={n with zero:=cs.getD 0 0}) ⟨h.k,h.sizes,?_,h.kb,h.unary,h.funs⟩ U;have h1:cs.length=1:=by simpa[bS,aG] using X
   have Y:cs[0]? =σ (cs.getD 0 0):=by rw[u4,x6 Ω];rfl
   exact I.hA _ (x5 Y)
  |[v],I=>
   have ab:=I.scope.1 v (.head _);have ac:=I.vars v (.head _);refine sm (n:={n with unary:=n.unary.set v.toNat cs}) ⟨h.k,h.sizes,h.zero,by show (n.unary.set _ _).length=_;rw[Z4];exact h.kb,λi z u W hu=>?_,h.funs⟩ U;by_cases hi:v.toNat=i
   .subst hi;have ad:=h.kb;rw[c7 Ω] at hu;cases hu;have aa:bS n.sizes [v]=[z]:=by
     simp only[bS,U4,List.map_nil];rw[u4,W];rfl
    refine⟨?_,I.hA⟩;have:=I.len;rw[aa,Kz] at this;exact this
   .rw[Y5 hi] at hu;exact h.unary i z u W hu
  |a::b::r,I=>
   refine sm (n:={n with funs:=n.funs++[(a::b::r,cs)]}) ⟨h.k,h.sizes,h.zero,h.kb,h.unary,λx J=>?_⟩ U;rcases l7.1 J with J|J
   .exact h.funs x J
   .rw[n9.1 J];exact⟨I,Ξ⟩
theorem BI {f:bY} (I:eX N f):jw (cd f)/\(cd f).sizes=f.sizes:=by
 unfold cd;have U:=I.sizes;refine sm (n:=⟨f.k,f.sizes,0,f.sizes.map λz=>p8 z.toNat 0,[]⟩) ⟨I.k,U,⟨by show (0:Int)<=0;omega,by show (0:Int)<=f.k;have:=I.k.1;omega⟩,Ξ,λi z u h1 J=>?_,λg V=>by cases V⟩ (sk I);have J:(f.sizes.map λz=>p8 z.toNat (0:Int))[i]? =σ u:=J;have h1:f.sizes[i]? =σ z:=h1;rw[x8,h1] at J;cases J;refine⟨Ξ,λc W=>?_⟩;rw[(List.mem_replicate.1 W).2];have:=I.k.1;exact⟨Int.le_refl _,by show (0:Int)<=f.k;omega⟩
def kT (x:cm) (k:Int) (i:Nat) (t:Λ):Int:=match (x.lines.take i).find? (λp=>decide (p.1=t)) with
 |some p=>min p.2 k
 |none=>min x.other k
theorem BJ (x:cm) (k:Int) (t:Λ):kT x k 0 t=min x.other k:=by simp[kT]
theorem BK (x:cm) (k:Int) (t:Λ):kT x k x.lines.length t=jr x k t:=by
 unfold kT jr;rw[o6];cases x.lines.find? (λp=>decide (p.1=t))<;>rfl
theorem BL {x:cm} {i:Nat} {p:Λ×Int} (aa:(x.lines.map (·.1)).Nodup) (hi:x.lines[i]? =σ p) (t:Λ):kT x k (i+1) t=if t=p.1 then min p.2 k else kT x k i t:=by
 unfold kT;rw[r8,hi,l9,List.find?_append];by_cases I:t=p.1
 .subst I;have ab:(x.lines.take i).find? (λq=>decide (q.1=p.1))=ν:=by
   rw[List.find?_eq_none];intro q J he;have he:q.1=p.1:=by simpa using he
   obtain⟨j,U⟩:=X4.1 J;have V:j<i:=by have:=(x4.1 U).1;rw[j0] at this;omega
   rw[Y3 V] at U;have W:=x4.1 U;have X:=x4.1 hi;have Y:=V2.1 aa j i (by rw[u7];exact W.1) (by rw[u7];exact X.1) V;rw[List.getElem_map,List.getElem_map,W.2,X.2] at Y;exact Y he
  rw[ab,if_pos rfl];simp
 .rw[if_neg I];have:[p].find? (λq=>decide (q.1=t))=ν:=by
   rw[List.find?_eq_none];intro q J he;rw[n9.1 J] at he;exact I (of_decide_eq_true he).symm
  rw[this,Option.or_none]
theorem oM {v:Int} (h:v∈l):l[l.idxOf v]? =σ v:=by
 have:=List.idxOf_lt_length_iff.2 h;rw[x6 this,List.getElem_idxOf this]
theorem p3 {i:Nat} {v:Int} (V:l.Nodup) (h:l[i]? =σ v):l.idxOf v=i:=by
 have hm:=x5 h;have h1:=oM hm;have I:=x4.1 h1;have J:=x4.1 h;rcases Nat.lt_trichotomy (l.idxOf v) i with U|he|U
 .exact absurd (I.2.trans J.2.symm) (V2.1 V _ _ I.1 J.1 U)
 .exact he
 .exact absurd (J.2.trans I.2.symm) (V2.1 V _ _ J.1 I.1 U)
def fF (scope I:Λ):Λ:=I.map λv=>((scope.idxOf v:Nat):Int)
theorem sn {J:Λ} (Y:scope.Nodup) (I:J.Perm scope):Good (fF scope J) scope.length:=by
 have W:J.Nodup:=I.nodup_iff.2 Y;refine⟨by simp[fF,I.length_eq],λi p U=>?_⟩;unfold fF at U;rw[x8] at U;obtain⟨v,X,rfl⟩:=Y2.1 U;have hm:v∈scope:=I.mem_iff.1 (x5 X);have ac:=List.idxOf_lt_length_iff.2 hm;refine⟨⟨Ω,Ω⟩,λj ad V=>?_⟩;unfold fF at V;rw[x8] at V;obtain⟨u,hu,he⟩:=Y2.1 V;have aa:u∈scope:=I.mem_iff.1 (x5 hu);have e:scope.idxOf u=scope.idxOf v:=Ω
 have h1:=oM aa;rw[e,oM hm] at h1;have ab:v=u:=c9 h1;subst ab;have ae:=p3 W hu;have af:=p3 W X;omega
theorem BM {I:Λ} {v:Int} (J:I[j]? =σ v):(fF scope I)[j]? =σ ((scope.idxOf v:Nat):Int):=by
 unfold fF;rw[x8,J];rfl
theorem KA {I:Λ} (W:scope.Nodup) (U:I.Perm scope):ef (bS sizes scope) (fF scope I)=bS sizes I:=by
 refine Y8 λj=>?_;cases J:I[j]? with
 |none=>
  have V:=List.getElem?_eq_none_iff.1 J;rw[Z5 (by rw[rS];simp[fF];exact V),Z5 (by simp[bS];exact V)]
 |some v=>
  have hm:v∈scope:=U.mem_iff.1 (x5 J);have X:=sn W U;rw[Au X (by simp[bS]) (BM J),u9];unfold bS;rw[x8,x8,oM hm,J]
theorem BN {I:Λ} (W:scope.Nodup) (J:I.Perm scope) (X:t.length=scope.length):lC (fF scope I) t=oz scope I t:=by
 have Y:=sn W J;refine (As Y X (by simp[oz]) λj p U=>?_).symm;unfold fF at U;rw[x8] at U;obtain⟨v,V,rfl⟩:=Y2.1 U;have hm:v∈scope:=J.mem_iff.1 (x5 V);have aa:I.Nodup:=J.nodup_iff.2 W;have ab:=(x4.1 V).1;have ac:=J.length_eq;unfold oz;rw[u9,x8,oM hm,Z2,p3 aa V,u4,x6 (show j<t.length by omega)];rfl
theorem KB {f:bY} {x:cm} {cs:Λ} (U:eX N f) (ab:x∈f.funs) (ai:cs.length=(aG x.sizes).toNat) (ac:∀t,c5 x.sizes t->bl x.sizes cs t=jr x f.k t):
  ef x.sizes (fF x.scope (bj x.scope))=bS f.sizes (bj x.scope)/\nf x.sizes cs (fF x.scope (bj x.scope))=(hy f.sizes f.k x).2:=by
 obtain⟨h1,aj,ak⟩:=U.funs x ab;have W:=sj h1 U.sizes.2.1;have I:=si W h1.scope.1;have X:x.sizes=bS f.sizes x.scope:=h1.sizes;have V:ef x.sizes (fF x.scope (bj x.scope))=bS f.sizes (bj x.scope):=by rw[X];exact KA h1.scope.1 I
 have ad:=sn h1.scope.1 I;have ae:∀v∈bj x.scope,0<=v/\v<f.sizes.length:=λv hm=>h1.scope.2 v ((p1 W).1 hm);have J:dz (bS f.sizes (bj x.scope)):=np U.sizes.2.2 ae;refine⟨V,?_⟩;have af:x.sizes.length=x.scope.length:=by rw[X];simp[bS]
 unfold nf;rw[V];show _=(bi (bS f.sizes (bj x.scope))).map λt=>jr x f.k (oz x.scope (bj x.scope) t);refine Y8 λq=>?_;rw[x8,x8];have al:=lB J;by_cases Y:q<(aG (bS f.sizes (bj x.scope))).toNat
 .have ag:=pH J (i:=q) Ω;rw[ag,List.getElem?_range Y];simp only[Z2];have ah:=vg J Y;have aa:(cM (bS f.sizes (bj x.scope)) q).length=x.scope.length:=by rw[iT];simp[bS,I.length_eq]
  rw[BN h1.scope.1 I aa,ac];have:=I2 (s:=x.sizes) ad af (by rw[V];exact ah);rw[BN h1.scope.1 I aa] at this;exact this
 .rw[Z5 Θ,Z5 (by rw[ij J];omega)];rfl
theorem KC {J U:Λ} (I:dz af) (h1:J.length=(aG af).toNat) (V:U.length=(aG af).toNat):
  dQ k J U=(W7 (aG af).toNat).map λ(q:Nat)=>min (bl af J (cM af q)+bl af U (cM af q)) k:=by
 conv=>lhs;rw[rR I h1,rR I V]
 unfold dQ;rw[List.zipWith_map,List.zipWith_self]
theorem KD {c3:Nat} {d:List (x1×x1)} {KS:List (Λ)} (W:ac w c3 ic [.map (σ m)]) (hm:cW w m d) (X:d.map (·.1)=KS.map dU) (U:oI KS) (ag:KS.length<65536):
  aj x7 Hg [.func (.func ln) #[] #[Γ c3],Bd] w λv w'=>Ext w w'/\ ∃g M,M.Perm KS/\sd fU M 0 M.length/\ni w' g v M:=by
 refine aw func215 ?_;refine (JJ W hm X (λks h=>(U ks h).1) Ω).mono ?_;rintro v J _ ⟨Y,g,L,aa,I,ab⟩;refine (JW ab (U.perm I) (by rw[I.length_eq];omega)).mono ?_;rintro _ V _ ⟨ad,M,ae,hu,af⟩;exact⟨Y.then ad (λr ah h=>by have:=aa r h;omega),g,M,ae.trans I,hu,af⟩
theorem BO {α β:Type} {f:α->β}:∀ {M:List β} {D:List α},M.Perm (D.map f)-> ∃L:List α,L.Perm D/\L.map f=M
 |[],D,h=>by
  have h1:=h.length_eq;simp at h1;have:D=[]:=j9 h1.symm;exact⟨[],by rw[this],rfl⟩
 |x::M,D,h=>by
  have I:x∈D.map f:=h.mem_iff.1 (.head _);obtain⟨p,J,rfl⟩:=o8.1 I;obtain⟨A,B,rfl⟩:=List.append_of_mem J;have U:(f p::M).Perm (f p::(A++B).map f):=h.trans (by
   rw[c8,U4,c8];exact List.perm_middle)
  obtain⟨L,V,W⟩:=BO (List.Perm.cons_inv U);exact⟨p::L,(V.cons p).trans List.perm_middle.symm,by rw[U4,W]⟩
theorem BP {g:Nat} {ks:Λ} (X:ks.length=6) (Y:n<=6) (J:cs=ints .i8 ks) (U:ac w g cw cs):aB .i8 w (.slice (σ (if 6=0 then⟨g,0,ν⟩ else⟨g,0+0*1,ν⟩)) (n-0) (6-0)) (ks.take n):=by
 subst J;rw[if_neg Ω];unfold aB;have V:(ks.take n).length=n:=by rw[j0];omega
 rw[V];refine⟨Θ,g,0,_,6,rfl,Ω,by simp[maxLen],λ_=>rfl,λj v I=>?_⟩;have W:=(x4.1 I).1;refine U.range j v ?_;rw[ints,List.map_take,Y3 (by simp[ints] at W;omega)] at I;exact I
def KE (D L:Told):Prop:=L.Perm D/\sd (λp=>fU (pad p.1)) L 0 L.length
theorem KF {g:Nat} {o:Int} {D:Told} (h:eA w g m af k o D) (bu:D.length<65536):aj x7 GN [Γ g] w λv w'=>Ext w w'/\ ∃L:Told,KE D L/\bx (dZ w.heap.size) bo w' [v] L:=by
 obtain⟨⟨sv,gs,aE,hm⟩,bw,I,b9,aY⟩:=id h;have bA:oI (D.map λp=>pad p.1):=λks hk=>by
  obtain⟨p,bB,rfl⟩:=o8.1 hk;exact pS I (aY p bB).1
 refine aw func167 ?_;rw[cV eG.u];simp only[Z3,aS];rw[aM fl.p 3 aE rfl];refine JH.mono ?_;rintro _ J _ ⟨aG,c3,rfl,ca,bC⟩;refine (KD (KS:=D.map λp=>pad p.1) bC (bw.ext aG) (by rw[S1,S1];rfl) bA (by simpa using bu)).mono ?_;rintro cb V _ ⟨aZ,cd,M,bD,bE,a1⟩;obtain⟨L,aH,av⟩:=BO bD;have a2:M.length=L.length:=by rw[<-av];simp
 have cg:=aH.length_eq;have ch:=aG.size;have ci:=aZ.size;have a6:=aG.trans aZ;rw[eY iO.u a1];refine bU.range L.length (λi out U=>Ext V U/\bx (dZ V.heap.size) bo U [out] (L.take i)) Ω ⟨Ext.refl _,by rw[List.take_zero];exact gB⟩ ?_ ?_
 rotate_left
 .rintro out U bF ⟨ad,ax⟩;rw[a2];simp only[aP,ai];refine⟨λh=>Ω,λ_=>⟨a6.trans ad,L,⟨aH,λp q x y h1 bG cj bH bJ=>?_⟩,?_⟩⟩
  .exact bE p q (pad x.1) (pad y.1) h1 bG Ω (by rw[<-av,x8,bH];rfl) (by rw[<-av,x8,bJ];rfl)
  .rw[o6] at ax;exact ak.mono ax (λr _ h=>by have h:V.heap.size<=r:=h;show w.heap.size<=r;omega) λ_ _ h=>h
 rintro i out U bF hi ⟨ad,ax⟩ bK;obtain⟨⟨t,c⟩,aJ⟩:∃p,L[i]? =σ p:=⟨_,x6 hi⟩;have aK:(t,c)∈D:=aH.mem_iff.1 (x5 aJ);have aN:=(aY _ aK).1;have a7:=vr I aN;have aO:t.length=af.length:=a7.1;have a8:=I.1;have bL:kO (pad t):=pS I aN;have ay:=bL.1;have bM:M[i]? =σ (pad t):=by rw[<-av,x8,aJ];rfl
 rw[a2];simp only[aP,ai];refine⟨λ_=>?_,λh=>Ω⟩;rw[JV rfl (a1.ext ad) bM];refine bN cw.i λan ck cl bb bc=>?_;refine pR ay rfl bc λbO bP cm az=>?_;have cn:=bb.size;have cp:=bc.lt;have bQ:Ext U bO:=bb.put bP Ω;intro bd ao _ _;have aQ:=bQ.trans ao;have aR:=(a6.trans ad).trans aQ;have be:=h.ext aR;obtain⟨⟨cq,cr,ct,cu⟩,cz,_⟩:=id be;have cA:=aQ.size;rw[aM fl.p 3 (aE.ext aR) rfl,nh ay (az.ext ao).range];refine JA be aN (λW bR=>?_) (λbS=>absurd rfl (bS _ aK));have bT:W=c:=by
  have:=A0 h.nodup bR aK rfl;exact congrArg Prod.snd this
 subst bT;simp only[Bool.false_eq_true,if_false];rw[dc (cs:=#[.slice ν 0 0,Δ W]) Ψ];refine bN fM.i λah cB cC aU bf=>?_;refine⟨.inl aU,?_⟩;refine cc (vs:=[.slice ν 0 0,Δ W]) fM.i rfl rfl (by intro v bg;simp at bg;rcases bg with rfl|rfl<;>rfl) bf λal bV cD bh=>?_;have cE:=aU.size;have cF:=bf.lt;have aA:Ext bd al:=aU.put bV Ω;have bi:=aQ.trans aA;have bj:=aR.trans aA;rw[aM fl.p 0 (aE.ext bj) rfl,aV am.u (hm.ls.ext bj)];rw[rD cw.u fA.i (l:=0) (h:=af.length) (m:=6) jR (mW _ _ rfl) fO Ω Ω Ω];have bk:=BP ay a8 rfl ((az.ext ao).ext aA);rw[<-aO,AV] at bk;rw[<-aO,aV kD.u bk];have bW:=(az.ext ao).ext aA;have cG:an<bd.heap.size:=(az.ext ao).lt;have cH:ah<al.heap.size:=bh.lt;refine ce.range t.length (λj X=>ae (λr=>r=ah\/al.heap.size<=r) al X/\ ∃aI gt,al.heap.size<=gt/\ac X ah fM [aI,Δ W]/\ap .i64 ag X gt aI (t.take j)) Ω ⟨ae.refl _ _,_,al.heap.size,p9 _,bh,ap.nil _ _ _ _⟩ ?_ ?_
 .rintro j X bX bY ⟨Y,aI,gt,bZ,aB,aC⟩ b0;obtain⟨x,aW⟩:=aF (l:=t) bY;have cI:=a7.2 x (x5 aW);have cJ:Ext U X:=bi.then Y (λr bl he=>by rcases he with rfl|he<;>omega);have bm:=BP ay a8 rfl (bW.aa Y (λhe=>by rcases he with he|he<;>omega));rw[<-aO,AV] at bm;simp only[aP,ai];refine⟨λ_=>?_,λh=>Ω⟩;rw[ba kD.u fA.i Ψ bm aW,aD fM.p 0 aB rfl,e7 fA.u ag.u,wrap_i64 Ω Ω];refine en am.u ag.i rfl λa ga b1 cK ab b2=>?_;refine iQ am.u ag.i rfl (aC.ext ab) b2.ls Θ Θ λbn bp b3 cL aq au=>?_;have b4:=Y.size;have b5:=ab.size;have cM:=au.size;rw[aT fM.p rfl];refine bz (g:=ah) (o:=0) am.i aq.ls.cells.1 aq.ls.cells.2 ((aB.ext ab).aa au (λhe=>by have he:ah=gt:=he;omega)) Ξ λcN br cO b6=>?_;simp only[aL];refine b0 _ ⟨((Y.trans (ab.aa _)).trans (au.mono λr _ he=>.inr (by have he:r=gt:=he;omega))).trans (br.mono λr _ he=>.inl he),bn,bp,Ω,b6,?_⟩;rw[r8,aW];exact aq.aa br (λ_ he=>by have he:bp=ah:=he;omega)
 .rintro X bX ⟨Y,aI,gt,bZ,aB,aC⟩;simp only[aP,ai];refine⟨λh=>Ω,λ_=>?_⟩;rw[o6] at aC;rw[bI fM.p fM.i rfl aB.range];have b4:=Y.size;have b7:Ext U X:=bi.then Y (λr bl he=>by rcases he with rfl|he<;>omega);have bt:bx (dZ U.heap.size) bo X [aI,Δ W] (t,W):=⟨[aI],[Δ W],dZ U.heap.size,bo,rfl,λ_ h=>h,λ_ h=>h.elim,λ_ _ _ h=>h,ak.mono (kG aC) (λr _ h=>by subst h;show U.heap.size<=r;omega) (λ_ _ h=>h),rfl⟩;refine jm (α:=Λ×Int) (a:=(t,W)) (cs:=[aI,Δ W]) (A:=dZ U.heap.size) (R:=bo) n3.u fM.i Φ rfl bt λu b1 ab _ b8=>?_;have aX:=b7.trans ab;have b5:=aX.size;refine l4 (α:=Λ×Int) (a:=(t,W)) (A:=dZ U.heap.size) n3.u fM.i rfl (bq (ly ax) aX) b8 (bq bt ab) (λr _ h h'=>?_) Θ Θ λbn b3 aq au=>?_
  .rcases h' with h'|h'
   .have:=h.2;have:U.heap.size<=r:=h';omega
   .exact h'
  simp only[aL];have cP:=ad.size;refine bK _ _ ⟨(ad.trans aX).then au (λr bl h=>by have h:=h.1;have h:V.heap.size<=r:=h;omega),?_⟩;rw[r8,aJ];refine ak.mono aq (λr _ h=>?_) λ_ _ h=>h;show V.heap.size<=r;rcases h with h|h|h
  .exact h.1
  .have h:U.heap.size<=r:=h;omega
  .omega
theorem BQ {s:Λ} (I:dz s):t∈bi s↔c5 s t:=by
 refine⟨λh=>?_,λ⟨n,h⟩=>x5 (mb I h)⟩;obtain⟨i,hi⟩:=X4.1 h;exact⟨_,iW I hi⟩
theorem BR:∀ {s:Λ},dz s->(bi s).Pairwise λa b=>fU a<fU b
 |[],_=>by simp[bi]
 |k::s,I=>by
  have ab:=BR I.tail;have U:∀t∈bi s,0<=fU t/\fU t<32 ^ s.length:=λt W=>by
   have ac:=(BQ I.tail).1 W;have h1:=ne.1 ac;have Y:=sb t λx X=>by
    obtain⟨i,hi,rfl⟩:=List.getElem_of_mem X;obtain⟨a,J⟩:=aF (l:=s) (i:=i) Ω;have ae:=h1.2 i a _ J (x6 hi);have af:=(I.tail a (x5 J)).2;omega
   rw[h1.1];exact Y
  have V:∀t∈bi s,t.length=s.length:=λt W=>rF W;show ((W7 k.toNat).flatMap λ(v:Nat)=>(bi s).map λt=>(v:Int)::t).Pairwise _;rw[List.pairwise_flatMap];refine⟨λv _=>?_,?_⟩
  .rw[List.pairwise_map];refine ab.imp_of_mem λ{a b} J U h=>?_;simp only[fU,V a J,V b U];omega
  .refine List.pairwise_lt_range.imp λ{u v} ag x X y ad=>?_;obtain⟨a,J,rfl⟩:=o8.1 X;obtain⟨b,aa,rfl⟩:=o8.1 ad;simp only[fU,V a J,V b aa];have h1:=U a J;have Y:=U b aa;have:=Int.mul_le_mul_of_nonneg_right (show (u:Int)+1<=v by omega) (show (0:Int)<=32 ^ s.length by have:=vw s.length;omega);rw[Int.add_mul,Int.one_mul] at this;omega
theorem KG {D L:Told} {o:Int} (U:(D.map (·.1)).Nodup) (I:L.Perm D) (t:Λ):hV L o t=hV D o t:=by
 have W:(L.map (·.1)).Nodup:=(I.map (·.1)).nodup_iff.2 U;by_cases he:∃p∈D,p.1=t
 .obtain⟨p,V,rfl⟩:=he;rw[pT U (c:=p.2) V,pT W (c:=p.2) (I.mem_iff.2 V)]
 .rw[pU λp h1 J=>he ⟨p,h1,J⟩,pU λp h1 J=>he ⟨p,I.mem_iff.1 h1,J⟩]
def hZ (af:Λ) (f:Λ->Int) (cs:Λ):Prop:=cs.length=(aG af).toNat/\ ∀t,c5 af t->bl af cs t=f t
theorem hZ.eq {f:Λ->Int} {cs J:Λ} (I:dz af) (h1:hZ af f cs) (U:hZ af f J):cs=J:=IS I h1.1 U.1 λt V=>by rw[h1.2 t V,U.2 t V]
theorem hZ.congr {f I:Λ->Int} {cs:Λ} (h:hZ af f cs) (he:∀t,c5 af t->f t=I t):hZ af I cs:=⟨h.1,λt J=>by rw[h.2 t J,he t J]⟩
theorem vJ (I:dz af) (h:c5 af t):∃n:Nat,cC af t 0=σ (n:Int)/\n<(aG af).toNat:=by
 obtain⟨n,J⟩:=h;have:=m4 I J;simp only[Int.zero_mul,Int.zero_add,Int.one_mul] at this;exact⟨n.toNat,by rw[J];congr 1;omega,Ω⟩
theorem KH (I:dz af) (c:Int):hZ af (λ_=>c) (p8 (aG af).toNat c):=⟨Ξ,λt J=>by
 obtain⟨n,U,V⟩:=vJ I J;unfold bl;rw[U];simp only[u9,u4,List.getElem?_replicate,V,if_true,V4]⟩
theorem hZ.put {f:Λ->Int} {cs:Λ} {c:Int} (I:dz af) (h:hZ af f cs) (X:c5 af t) (Y:cn c k):hZ af (λs=>if s=t then c else f s) (rG af t k c cs):=by
 obtain⟨n,U,aa⟩:=vJ I X;unfold rG;rw[U];simp only[Y,if_true,u9];refine⟨by simp[h.1],λs W=>?_⟩;obtain⟨m,hm,ab⟩:=vJ I W;have J:=h.2 s W;unfold bl at J ⊢;rw[hm] at J ⊢;simp only[u9] at J ⊢;by_cases he:s=t
 .subst he;rw[U] at hm;have V:n=m:=by have:=c9 hm;omega
  subst V;rw[if_pos rfl,u4,c7 (by rw[h.1];exact aa)];rfl
 .rw[if_neg he,u4,Y5 (λV=>he ?_),<-u4,J];subst V;rw[<-Am I hm,<-Am I U]
def KI (w:x3) (af:Λ) (k o:Int) (D:Told) (v:x1) (w':x3):Prop:=Ext w w'/\(4096<aG af->v= .tuple #[.pointer ν,Δ 5])/\
 (aG af<=4096-> ∃g I sv cs,v= .tuple #[Γ g,Δ 0]/\w.heap.size<=g/\(w.heap.size<=I/\ ∀r,leads sv r->w.heap.size<=r)/\c0 w' g I sv af k cs/\hZ af (hV D o) cs)
theorem BS {g:Nat} {o:Int} {D:Told} (h:eA w g m af k o D) (aC:D.length<65536):aj x7 FO [Γ g] w (KI w af k o D):=by
 obtain⟨⟨sv,gs,aE,hm⟩,br,I,aF,aH⟩:=id h;have au:=h.nodup;refine aw func94 ?_;rw[cV eG.u];simp only[Z3,aS];intro J U _ _;have al:=aE.ext U;rw[aM fl.p 0 al rfl,aM fl.p 1 al rfl,aM fl.p 2 al rfl];refine (uO (hm.ls.ext U)).mono ?_;rintro _ V _ ⟨ab,_,aJ,_,aK⟩;by_cases ac:aG af<=4096
 rotate_left
 .have:=aJ I Ω;subst this;rw[bf,bg];simp only[bh,ai];exact⟨λ_=>⟨U.trans ab,λ_=>rfl,λh=>absurd h ac⟩,λh=>by simp at h⟩
 obtain⟨gt,W,aI,rfl,bt,bu,aN,av⟩:=aK I ac aF;rw[bf,bg];simp only[bh,ai];refine⟨λh=>absurd rfl h,λ_=>?_⟩;have bw:=U.size;have bx:=ab.size;refine (KF ((h.ext U).ext ab) aC).mono ?_;rintro bz aO _ ⟨am,L,ad,ax⟩;have bA:=am.size;have bB:W<V.heap.size:=by
  obtain⟨⟨aW,bC,_,_,aQ⟩,⟨_,_,bD⟩,aR,aT⟩:=id av;have bE:=lB aR.2;obtain⟨_,⟨_,aU⟩|⟨cap,cs,_,aV,_⟩⟩:=aQ
  .rw[aT] at aU;omega
  .exact aV.lt
 have bF:=ad.1.length_eq;rw[gj n3.u ax];refine ce.range L.length (λi X=>ae (λr=>r=W) aO X/\ ∃cs,c0 X gt W aI af k cs/\hZ af (hV (L.take i) o) cs) Ω ⟨ae.refl _ _,_,av.ext am,by rw[List.take_zero];exact KH I.2 o⟩ ?_ ?_
 .rintro i X aX hi ⟨ag,cs,an,ah⟩ aY;simp only[aP,ai];refine⟨λ_=>?_,λh=>Ω⟩;obtain⟨⟨t,c⟩,Y⟩:∃p,L[i]? =σ p:=⟨_,x6 hi⟩;have aZ:(t,c)∈D:=ad.1.mem_iff.1 (x5 Y);obtain⟨a1,a2,a6⟩:=aH _ aZ;have a7:=ak.aa ax ag λr ay a8 he=>by
   have he:r=W:=he;rcases a8 with h|h
   .have h:V.heap.size<=r:=h;omega
   .exact h
  refine l3 (α:=Λ×Int) fM.p rfl n3.u fM.i a7 Y λus ba=>?_;obtain⟨bG,bb,A,B,rfl,bH,bI,_,h1,bc⟩:=ba;have bd:bb=[Δ c]:=bc;subst bd;obtain⟨be,rfl,_⟩:=id h1;have hu:=dp h1;refine bN fM.i λbJ bK bL bi az=>?_;refine cc (vs:=[be,Δ c]) fM.i rfl rfl (by intro v aA;simp at aA;rcases aA with rfl|rfl;exact hu.cells.2;rfl) az λbj bk bM aB=>?_;have bO:=az.lt;have ao:Ext X bj:=bi.put bk Ω;rw[aD fM.p 0 aB rfl,aD fM.p 1 aB rfl];refine (H4 (an.ext ao) (hu.ext ao)).mono ?_;rintro _ bP _ ⟨rfl,bl,bm⟩;simp only[aL];refine aY _ ⟨(ag.trans (ao.aa _)).trans bl,_,bm,(ah.put I.2 a1 a2).congr λs bQ=>?_⟩;rw[r8,Y];have ap:(L.map (·.1)).Nodup:=(ad.1.map (·.1)).nodup_iff.2 au;have bn:∀p∈L.take i,p.1≠t:=λp ac he=>by
   obtain⟨j,aq⟩:=X4.1 ac;have bo:j<i:=by have:=(x4.1 aq).1;rw[j0] at this;omega
   rw[Y3 bo] at aq;have:=j3 ap (i:=j) (j:=i) (x:=t) (by rw[x8,aq,Z2,he]) (by rw[x8,Y];rfl);omega
  have bp:((L.take i).map (·.1)).Nodup:=by rw[List.map_take];exact (List.take_sublist _ _).nodup ap
  have bq:((L.take i++[(t,c)]).map (·.1)).Nodup:=by
   have e:L.take i++[(t,c)]=L.take (i+1):=by rw[r8,Y];rfl
   rw[e,List.map_take];exact (List.take_sublist _ _).nodup ap
  exact ((A1 bn a6).cost bp bq s).symm
 .rintro X aX ⟨ag,cs,an,ah⟩;simp only[aP,ai];refine⟨λh=>Ω,λ_=>?_⟩;rw[o6] at ah;exact⟨((U.trans ab).trans am).put ag Ω,λh=>Ω,λ_=>⟨gt,W,aI,cs,rfl,Ω,⟨Ω,λr ay=>by have:=aN r ay;omega⟩,an,ah.congr λs _=>KG au ad.1 s⟩⟩
theorem KJ {s cs:Λ} (I:dz s) (J:cs.length=(aG s).toNat) {i:Nat} (h:(bi s)[i]? =σ t):cs[i]? =σ (bl s cs t):=by
 have hi:=(x4.1 h).1;rw[ij I,<-J] at hi;unfold bl;rw[iW I h];simp only[u9,u4,x6 hi,V4]
theorem sq {k:o4} {g:Nat} (h:ap k e w g v l) (J:0<l.length):g<w.heap.size:=by
 obtain⟨_,⟨_,h1⟩|⟨_,_,_,I,_⟩⟩:=h
 .omega
 .exact I.lt
def ft (w:x3) (g m:Nat) (sv:x1) (gs:Nat) (af:Λ) (k o:Int) (D:Told):Prop:=
 ac w g fl [sv,Δ k,Δ o,.map (σ m)]/\ap .i64 ag w gs sv af/\cW w m (D.map js)/\bX af/\cn o k/\ ∀p∈D,c5 af p.1/\cn p.2 k/\p.2≠o
theorem ft.is {g:Nat} {o:Int} {D:Told} (h:ft w g m sv gs af k o D):eA w g m af k o D:=⟨⟨sv,gs,h.1,h.2.1⟩,h.2.2⟩
theorem eA.at {g:Nat} {o:Int} {D:Told} (h:eA w g m af k o D):∃sv gs,ft w g m sv gs af k o D:=by
 obtain⟨⟨sv,gs,h1,I⟩,J⟩:=h;exact⟨sv,gs,h1,I,J⟩
theorem ft.ext {g:Nat} {o:Int} {D:Told} (h:ft w g m sv gs af k o D) (I:Ext w w'):ft w' g m sv gs af k o D:=by
 obtain⟨h1,J,U,V⟩:=h;exact⟨h1.ext I,J.ext I,U.ext I,V⟩
theorem ft.aa {g:Nat} {o:Int} {D:Told} (h:ft w g m sv gs af k o D) (J:ae S w w') (U:¬S g) (hm:¬S m) (I:∀r,leads sv r->¬S r):ft w' g m sv gs af k o D:=by
 obtain⟨h1,V,W,X⟩:=h;exact⟨h1.aa J U,bn V J I,W.aa J hm,X⟩
theorem sr {g:Nat} {d:List (x1×x1)} (h:ac w g e cs) (hm:cW w m d):g≠m:=by
 rintro rfl;obtain⟨I,c,h1,_⟩:=hm;unfold ac at h;rw[h1] at h;cases h
theorem BT {g:Nat} {k:o4} {d:List (x1×x1)} (h:ap k e w g v l) (hm:cW w m d) (I:leads v r):r≠m:=by
 obtain⟨rfl,_⟩:=bR h I;obtain⟨_,⟨rfl,_⟩|⟨_,_,_,J,_⟩⟩:=h
 .obtain⟨a,n,c,h,_⟩:=I;cases h
 .exact sr J hm
theorem ft.put {g:Nat} {o:Int} {D D':Told} (h:ft w g m sv gs af k o D) (I:ae (λr=>r=m) w w') (h':eA w' g m af k o D'):ft w' g m sv gs af k o D':=
 ⟨h.1.aa I (λhe=>sr h.1 h.2.2.1 he),bn h.2.1 I (λr J he=>BT h.2.1 h.2.2.1 J he),h'.2⟩
theorem ft.pM {g:Nat} {o:Int} {D:Told} (h:ft w g m sv gs af k o D):g<w.heap.size/\m<w.heap.size/\ ∀r,leads sv r->r<w.heap.size:=
 ⟨h.1.lt,h.2.2.1.lt,λr I=>by obtain⟨rfl,J⟩:=bR h.2.1 I;exact J⟩
instance (s t:Λ):Decidable (c5 s t):=decidable_of_iff ((cC s t 0).isSome=true) ⟨λh=>by
 cases I:cC s t 0 with
 |none=>rw[I] at h;cases h
 |some n=>exact⟨n,I⟩,λ⟨n,h⟩=>by rw[h];rfl⟩
theorem ss (h:aB .i64 w sv l) (an:l.length<=1000000):aj x7 yL [sv] w λv w'=>Ext w w'/\ ∃g,w.heap.size<=g/\ap .i64 ag w' g v l:=by
 refine aw func85 ?_;rw[aV aq.u h];refine iR (k:=.i64) am.u ag.i Ω Ω λg J ao W X=>?_;have ab:ap .i64 ag J g (.slice (σ ⟨g,0,ν⟩) l.length l.length) (p8 l.length 0):=by
  have:=bT.full (k:=1) (n:=l.length) X Ξ (by simp[maxLen];omega);exact ap.of this
 rw[aV aq.u (h.ext W)];have au:=X.lt;refine ce.range l.length (λi V=>ae (λr=>r=g) J V/\ap .i64 ag V g (.slice (σ ⟨g,0,ν⟩) l.length l.length) (l.take i++p8 (l.length-i) 0)) h.le ⟨ae.refl _ _,by simpa using ab⟩ ?_ ?_
 rotate_left
 .rintro V ac ⟨U,I⟩;rw[aP,ai];rw[o6,V7,List.replicate_zero,U5] at I;exact⟨λh=>Ω,λ_=>⟨W.put U Ω,g,Ω,I⟩⟩
 rintro i V ac hi ⟨U,I⟩ ad;obtain⟨x,Y⟩:=aF (l:=l) hi;have af:Ext w V:=W.put U Ω;refine bB Ω ?_;rw[ba aq.u al.i Ψ (h.ext af) Y];rw[hs rfl am.u ag.i I Θ];refine ht ag.i I Θ λav ah ax aa=>?_;rw[aL];refine ad _ ⟨U.trans ah,?_⟩;have e:(l.take i++p8 (l.length-i) 0).set i x=l.take (i+1)++p8 (l.length-(i+1)) 0:=by
  have ak:(l.take i).length=i:=by rw[j0];omega
  rw[U9 _ _ Ω,ak,V7,show l.length-i=(l.length-(i+1))+1 by omega,List.replicate_succ,List.set_cons_zero,r8,Y,l9,U8];rfl
 rw[e] at aa;exact aa
def KK (w:x3) (l:Λ) (k o:Int) (v:x1) (w':x3):Prop:=
 Ext w w'/\(¬bX l->v= .tuple #[.pointer ν,Δ 1])/\(bX l->¬cn o k->v= .tuple #[.pointer ν,Δ 3])/\
  (bX l->cn o k-> ∃g m sv gs,v= .tuple #[Γ g,Δ 0]/\w.heap.size<=g/\w.heap.size<=m/\(∀r,leads sv r->w.heap.size<=r)/\ft w' g m sv gs l k o [])
theorem KL {o:Int} (h:aB .i64 w sv l):aj x7 n0 [sv,Δ k,Δ o] w (KK w l k o):=by
 refine aw func146 ?_;refine aR (λv J=>Ext w J/\ ∃c,v= .bool c/\(c=true↔¬bX l)) ?_ ?_
 .rintro _ J ⟨W,c,rfl,X⟩;rw[cz];refine⟨λac=>⟨W,λ_=>rfl,λh=>absurd h (X.1 ac),λh=>absurd h (X.1 ac)⟩,λaf=>?_⟩;have I:bX l:=Classical.byContradiction λh=>by have:=X.2 h;rw[af] at this;cases this
  have ao:=I.1;refine jn.mono ?_;rintro _ V _ ⟨rfl,U⟩;by_cases hi:cn o k
  rotate_left
  .simp only[hi,decide_false,bu,X3,bA];exact⟨W.trans U,λh=>absurd I h,λ_ _=>rfl,λ_ h=>absurd h hi⟩
  simp only[hi,decide_true,bu,Z8,aS];refine (kJ ((h.ext W).ext U) Ω).mono ?_;rintro aI ap _ ⟨ad,ag,aq,hm⟩;have au:=hm.ls.cells;refine r3 λm ax ay Y ah=>?_;rw[dc (cs:=#[aI,Δ k,Δ o,.map (σ m)]) (by obtain⟨_,_,_,_,_,rfl,_⟩:=hm.ls;kernel_rfl)];refine bm λg az aA aa ak=>?_;have aC:=W.size;have aD:=U.size;have aE:=ad.size;have aF:=Y.size;exact⟨((((W.trans U).trans ad).trans Y).trans aa),λh=>absurd I h,λ_ h=>absurd hi h,λ_ _=>⟨g,m,aI,ag,rfl,Ω,Ω,λr al=>by have:=(bR hm al).1;omega,ak,(hm.ext Y).ext aa,ah.ext aa,I,hi,λp an=>by cases an⟩⟩
 .intro av ae;rw[aV am.u h];simp only[bM,ai];refine⟨λaG=>ae _ _ ⟨Ext.refl _,true,rfl,λ_ I=>by have:=I.1;omega,λ_=>rfl⟩,λaH=>?_⟩;refine (AW h).mono ?_;rintro _ V _ ⟨rfl,U⟩;refine ae _ _ ⟨U,_,rfl,?_⟩;rw[decide_eq_true_eq];exact⟨λab I=>ab I.2,λab I=>ab ⟨Ω,I⟩⟩
structure BU where
 af:Λ
 k:Int
 o:Int
 D:Told
instance PM:ak BU where
 n:=1
 rep _ _ R w cs a:=∃g m sv gs,cs=[Γ g]/\ft w g m sv gs a.af a.k a.o a.D/\R g/\R m/\ ∀r,leads sv r->R r
 len:=by rintro _ _ _ _ _ _ ⟨_,_,_,_,rfl,_⟩;rfl
 one:=by rintro _ _ _ _ _ _ ⟨_,_,_,_,rfl,_⟩ u hu;simp at hu;subst hu;rfl
 aa:=by
  rintro _ _ R T w w' _ a ⟨g,m,sv,gs,rfl,h1,J,U,V⟩ ad W;obtain⟨X,Y,ab⟩:=h1.pM;exact⟨g,m,sv,gs,rfl,h1.aa ad (W g X (.inr J)) (W m Y (.inr U)) λr I=>W r (ab r I) (.inr (V r I)),J,U,V⟩
 mono:=by
  rintro _ _ _ R R' w _ a ⟨g,m,sv,gs,rfl,h1,J,U,V⟩ _ ac;obtain⟨X,Y,ab⟩:=h1.pM;exact⟨g,m,sv,gs,rfl,h1,ac g X J,ac m Y U,λr I=>ac r (ab r I) (V r I)⟩
 hj:=by
  rintro _ _ R w _ a ⟨g,m,sv,gs,rfl,h1,J,U,V⟩;exact⟨g,m,sv,gs,rfl,h1,.inr J,.inr U,λr I=>.inr (V r I)⟩
abbrev gE:Type:=Rd (Λ)×BU
def p4 (k:Int) (x:cm) (f:gE):Prop:=f.1=x.scope/\f.2.af=x.sizes/\f.2.k=k/\f.2.o=min x.other k/\f.2.D.length<=x.lines.length/\ ∀t,hV f.2.D f.2.o t=jr x k t
theorem KM {m:Bool} {S R:ah} {x:cm} (h:ak.rep m S R w cs (gD x)):∃aJ szv bZ,cs=[aJ,szv,Δ x.other,bZ]/\ak.rep (α:=Λ) false bo R w [aJ] x.scope/\ak.rep (α:=Λ) false bo R w [szv] x.sizes/\ak.rep (α:=List (Λ×Int)) false bo R w [bZ] x.lines:=by
 obtain⟨V,d1,Y,aa,rfl,_,_,_,h1,W,d2,ab,ac,rfl,_,_,_,I,X,d3,ad,ae,rfl,_,_,_,U,J⟩:=h;have h1:ak.rep (α:=Λ) false bo R w V x.scope:=h1;have I:ak.rep (α:=Λ) false bo R w W x.sizes:=I;have U:X=[Δ x.other]:=U;have J:ak.rep (α:=List (Λ×Int)) false bo R w d3 x.lines:=J;obtain⟨u,rfl⟩:=W6.1 (show V.length=1 from ak.len h1);obtain⟨v,rfl⟩:=W6.1 (show W.length=1 from ak.len I);obtain⟨y,rfl⟩:=W6.1 (show d3.length=1 from ak.len J);subst U;exact⟨u,v,y,rfl,h1,I,J⟩
theorem KN {m:Bool} {S R:ah} {p:Λ×Int} (h:ak.rep m S R w cs p):∃aI,cs=[aI,Δ p.2]/\aB .i64 w aI p.1:=by
 obtain⟨J,d1,U,V,rfl,_,_,_,h1,I⟩:=h;obtain⟨u,rfl⟩:=W6.1 (show J.length=1 from ak.len h1);have I:d1=[Δ p.2]:=I;subst I;exact⟨u,rfl,dp h1⟩
structure su (k:Int) (x:cm):Prop where
 k:right k
 sizes:bX x.sizes
 other:0<=x.other
 lines:mc x.sizes x.lines
 len:x.lines.length<=60000
 scope:x.scope.length<=100001
theorem df {k:o4} (h:aB k w v l):∃a n c,v= .slice a n c:=by
 obtain⟨_,b,o,base,cap,rfl,_⟩:=h;exact⟨_,_,_,rfl⟩
theorem KO {aS:Nat} {bh bi bj:x1} {K:Int} {R:ah} {x:cm} (aT:ac w aS cu [bh,Δ K,bi,bj]) (bk:Seen R w cs (gD x)) (bl:su K x):
  aj x7 uu [Γ aS,.agg cs.toArray] w λv w'=>Ext w w'/\ ∃b7,∃f:gE,v= .agg b7.toArray/\b7.length=2/\Seen (dZ w.heap.size) w' b7 f/\p4 K x f:=by
 obtain⟨aJ,szv,bZ,rfl,h1,aU,aC⟩:=KM bk;obtain⟨au,aE,bT,aV,bU,bV⟩:=bl;have bX:x.sizes.length<=6:=aE.1;refine aw func86 ?_;refine bm λan J bY aW X=>?_;have X:ac J an bW [aJ,szv,Δ x.other,bZ]:=by
  obtain⟨_,_,_,rfl⟩:=lE h1;obtain⟨_,_,_,rfl⟩:=lE aU;obtain⟨_,_,_,rfl⟩:=lE aC;exact X
 refine bN cv.i λab V b0 aG av=>?_;have av:ac V ab cv [.slice ν 0 0,.pointer ν]:=av;intro b1 ax _ _;have aH:=(aW.trans aG).trans ax;have aK:=aG.trans ax;have b2:=aW.size;have b3:=aG.size;have z3:=ax.size;have b4:=av.lt;have aX:=aT.ext aH;rw[aD bW.p 1 (X.ext aK) rfl,aM cu.p 1 aX rfl,
  aD bW.p 2 (X.ext aK) rfl,aM cu.p 1 aX rfl,kE]
 refine (ss ((dp aU).ext aH) Ω).mono ?_;rintro b5 b8 _ ⟨af,b9,ca,bp⟩;refine⟨.inl af,?_⟩;have z4:=af.size;have br:cn (min x.other K) K:=⟨au,by have:=au.1;omega,Ω⟩;refine (KL bp.ls).mono ?_;rintro _ bt _ ⟨ay,_,_,bu⟩;obtain⟨ad,m,sv,gs,rfl,cb,cd,aY,bw⟩:=bu aE br;rw[bf,bg];have z5:=ay.size;have aN:=(aH.trans af).trans ay;have aZ:=(aK.trans af).trans ay;rw[aD bW.p 3 (X.ext aZ) rfl];have a1:=bq aC aN;rw[gj ib.u a1];refine ce.range x.lines.length (λi I=>ae (λr=>r=m) bt I/\ ∃D,D.length<=i/\ft I ad m sv gs x.sizes K (min x.other K) D/\ ∀t,hV D (min x.other K) t=kT x K i t) (m3 a1) ⟨ae.refl _ _,[],p9 _,bw,λt=>by rw[BJ];rfl⟩ ?_ ?_
 .rintro i I bx hi ⟨U,D,a2,ai,aO⟩ bz;obtain⟨p,aP⟩:=aF (l:=x.lines) hi;have a6:=aV.2 p (x5 aP);have al:Ext w I:=aN.put U Ω;have bA:=U.size;have bC:ak.rep (α:=List (Λ×Int)) false bo R I [bZ] x.lines:=bq aC al;refine bB Ω ?_;refine l3 dS.p rfl ib.u dS.i bC aP λcg bD=>?_;obtain⟨aI,rfl,a7⟩:=KN bD;refine bN dS.i λch ci cj a8 bE=>?_;have ck:=a8.size;refine cc (vs:=[aI,Δ p.2]) dS.i rfl rfl (by intro v am;simp at am;rcases am with rfl|rfl<;>first|exact a7.cells.2|rfl) bE λbF bG cl ba=>?_;have bH:Ext I bF:=a8.put bG Ω;intro cp aQ _ _;have Y:=bH.trans aQ;have z9:=Y.size;rw[aD dS.p 0 (ba.ext aQ) rfl,aD dS.p 1 (ba.ext aQ) rfl,aM cu.p 1 ((aT.ext al).ext Y) rfl,kE];have cq:=vr aE a6.1;refine (ss (a7.ext Y) Ω).mono ?_;rintro cr ct _ ⟨ao,cw,cz,bI⟩;refine⟨.inl ao,?_⟩;have cA:=ao.size;refine (A4 (c:=min p.2 K) ((ai.ext Y).ext ao).is bI.ls).mono ?_;rintro _ cB _ ⟨_,bJ⟩;have bK:cn (min p.2 K) K:=⟨au,by have:=au.1;omega,Ω⟩;obtain⟨rfl,bb,D',bc,bd⟩:=bJ ⟨a6.1,bK⟩;rw[aL];refine bz _ ⟨(U.trans ((Y.trans ao).aa _)).trans bb,D',by have:=bc.2;omega,ft.put ((ai.ext Y).ext ao) bb bd,λt=>?_⟩;rw[BL aV.1 aP,bc.cost ai.is.nodup bd.nodup];by_cases az:t=p.1
  .rw[if_pos az,if_pos az]
  .rw[if_neg az,if_neg az,aO]
 .rintro I bx ⟨U,D,a2,ai,aO⟩;have al:Ext w I:=aN.put U Ω;have bL:Ext J I:=aZ.put U Ω;have bA:=U.size;refine b6 Ω ?_;rw[aD bW.p 0 (X.ext bL) rfl];refine (ss ((dp h1).ext al) Ω).mono ?_;rintro aA cC _ ⟨aB,bM,cD,aq⟩;have z12:=aB.size;rw[dc (cs:=#[aA,Γ ad]) (by obtain⟨_,_,_,rfl⟩:=df aq.ls;kernel_rfl)];have bO:Ext V I:=((ax.trans af).trans ay).put U Ω;refine cc (vs:=[aA,Γ ad]) cv.i rfl rfl (by intro v am;simp at am;rcases am with rfl|rfl<;>first|exact aq.ls.cells.2|rfl) ((av.ext bO).ext aB) λbe aR cE bP=>?_;rw[fB cv.p cv.i rfl bP.range];have bQ:ft be ad m sv gs x.sizes K (min x.other K) D:=(ai.ext aB).aa aR (λhe=>by have he:ad=ab:=he;omega) (λhe=>by have he:m=ab:=he;omega) (λr W he=>by have he:r=ab:=he;have:=aY r W;omega);have bS:ap .i64 ag be bM aA x.scope:=bn aq aR λr W he=>by have he:r=ab:=he;have:=(bR aq W).1;omega
  refine⟨(al.trans aB).put aR Ω,_,(x.scope,⟨x.sizes,K,min x.other K,D⟩),rfl,rfl,?_,rfl,rfl,rfl,rfl,a2,λt=>?_⟩
  .exact⟨[aA],[Γ ad],bo,bo,rfl,λ_ h=>h,λ_ h=>h,λ_ _ h _=>h,p0 bS λr W=>by have:=(bR aq W).1;show w.heap.size<=r;omega,
    ⟨ad,m,sv,gs,rfl,bQ,by show w.heap.size<=ad;omega,by show w.heap.size<=m;omega,λr W=>by have:=aY r W;show w.heap.size<=r;omega⟩⟩
  .rw[aO,BK]
theorem KP {S R:ah} {f:gE} (h:ak.rep false S R w cs f):ak.rep (α:=gE) true bo R w cs f:=by
 obtain⟨c,d,A,B,rfl,h1,U,_,I,J⟩:=h;exact⟨c,d,bo,bo,rfl,λ_ h=>h,λ_ h=>h,λ_ _ h _=>h,I,J⟩
def sw (k:Int) (I:List cm) (J:List gE):Prop:=J.length=I.length/\ ∀ (i:Nat) x f,I[i]? =σ x->J[i]? =σ f->p4 k x f
theorem KQ {m:Bool} {S R:ah} {aA aK:x1} {K:Int} {W:List cm} {a1:x3->Prop} (a2:ac w I cu [aA,Δ K,szv,.slice ν 0 0])
  (bi:ak.rep m S R w [aK] (show List gY from W.map gD)) (bj:∀r,S r\/R r->r≠I) (bk:∀x∈W,su K x) (cb:W.length<=256)
  (bl:∀w' ab,∀X:List gE,ae (λr=>r=I) w w'->ac w' I cu [aA,Δ K,szv,ab]->Seen (λr=>w.heap.size<=r) w' [ab] X->sw K W X->a1 w'):
  ce (Δ 0) w λaN al bm=>
   U x7 (aE .lss ag false false aN (Δ (W.length:Int))) al λbn=>
   Split bn (U x7 (j5 iN aK aN) al λbp=>
   U x7 (u5 bW bp) al λbr=>
   ax x7 (R2 bW true (.tuple #[])) al λx bt=>
   ax x7 (o7 bW x br) bt λ(_:Unit) bu=>
   eh bu λaf=>
   U x7 (bF (Γ I)) af λam=>
   U x7 (u6 cu am 3) af λao=>
   U x7 (u5 dy ao) af λaO=>
   U x7 (u5 bW x) af λbw=>
   aj x7 uu [(Γ I),bw] af λbA ap=>
    (Ext af ap\/ct x7 (u5 dy ao) aO ap/\ct x7 (u6 cu am 3) ao ap/\ct x7 (bF (Γ I)) am ap/\True)/\
   ax x7 (Z9 dy 1 #[(0,bA)]) ap λbC aq=>
    (Ext af aq\/ct x7 (u5 dy ao) aO aq/\ct x7 (u6 cu am 3) ao aq/\ct x7 (bF (Γ I)) am aq/\True)/\
    ax x7 (b8 #[dy,dy] dy #[aO,bC]) aq λbD aQ=>
     U x7 (bF (Γ I)) aQ λbE=>
     U x7 (u6 cu bE 3) aQ λbG=>
     ax x7 (o7 dy bG bD) aQ λ(_:Unit) a6=>
     U x7 (aE .add ag false true aN (Δ 1)) a6 λbH=>
   bm bH a6) (a1 al):=by
 have cd:=a2.lt;have cg:(W.map gD).length=W.length:=Ξ
 refine ce.range W.length (λi J=>ae (λr=>r=I) w J/\ ∃ab,∃X:List gE,∃A R':ah,ac J I cu [aA,Δ K,szv,ab]/\bx A R' J [ab] X/\(∀r,A r->w.heap.size<=r/\r<J.heap.size)/\(∀r,R' r->w.heap.size<=r/\¬A r/\r<J.heap.size)/\sw K (W.take i) X) Ω
  ⟨ae.refl _ _,_,[],bo,bo,a2,gB,λ_ h=>h.elim,λ_ h=>h.elim,rfl,λi x f h=>by simp at h⟩ ?_ ?_
 rotate_left
 .rintro J bJ ⟨au,ab,X,A,R',av,aR,ad,aw,aB⟩;rw[o6] at aB;rw[aP,ai];refine⟨λh=>Ω,λ_=>bl J ab X au av (ob aR λr _ h=>?_) aB⟩;exact h.elim (λh=>(ad r h).1) λh=>(aw r h).1
 rintro i J bJ hi ⟨au,ab,X,A,R',av,aR,ad,aw,a7,aB⟩ bK;obtain⟨x,aS⟩:=aF (l:=W) hi;have bL:=bk x (x5 aS);have ci:=au.size;rw[j0] at a7;have bM:ak.rep m S R J [aK] (show List gY from W.map gD):=ak.aa bi au λr _ h he=>bj r h he;refine bB Ω ?_;refine l3 (α:=gY) (a:=gD x) bW.p rfl iN.u bW.i bM (by show (W.map gD)[i]? =_;rw[x8,aS];rfl) λcs aU=>?_;have a8:cs.length=4:=ak.len aU;have bO:Seen (λr=>S r\/R r) J cs (gD x):=ob aU λr _ h=>h;refine bN bW.i λan V cj ba bP=>?_;have ck:=ba.size;refine cc (vs:=cs) bW.i a8 rfl (ak.one aU) bP λbR bS cl bT=>?_;have bU:Ext J bR:=ba.put bS Ω;intro aC bb _ _;have ay:=bU.trans bb;have z4:=ay.size;rw[aM cu.p 3 (av.ext ay) rfl,bI bW.p bW.i a8 (bT.ext bb).range];refine (KO (av.ext ay) (bq bO ay) bL).mono ?_;rintro _ aD _ ⟨aG,b7,f,rfl,cn,bc,bV⟩;have z5:=aG.size;refine⟨.inl aG,?_⟩;have bd:=KP bc;have bX:=ay.trans aG;refine jm (α:=gE) (a:=f) (cs:=b7) (A:=bo) (R:=dZ aC.heap.size) dy.u cv.i Φ (by
  obtain⟨c,d,cp,cq,he,_,_,_,aH,bY⟩:=bc;have aH:ak.rep (α:=Λ) false bo _ aD c f.1:=aH;obtain⟨u,rfl⟩:=W6.1 (show c.length=1 from ak.len aH);obtain⟨cr,ch,cw,cz,rfl,_⟩:=bY;obtain⟨_,_,_,rfl⟩:=lE aH;cases he;rfl) bd λu aV aI _ hu=>?_
 have cA:=aI.size;refine⟨.inl (aG.trans aI),?_⟩;have aW:=bX.trans aI;have bZ:bx A (λr=>R' r\/(aC.heap.size<=r/\r<aD.heap.size)) aV [ab] X:=bq (ak.mono aR (λ_ _ h=>h) λ_ _ h=>.inl h) aW;have b0:bx bo (λr=>R' r\/(aC.heap.size<=r/\r<aD.heap.size)) aV b7 f:=bq (ak.mono bd (λ_ _ h=>h) λr Y h=>.inr ⟨h,Y⟩) aI;refine l4 (α:=gE) (a:=f) (A:=bo) dy.u cv.i rfl bZ hu b0 (λr _ be h=>?_) Ω Ω λbf b1 aX aY=>?_
 .rcases h with h|h|h
  .exact h
  .exact (aw r h).2.1 be
  .have:=(ad r be).2;omega
 have cB:=aY.size;rw[bQ,aT cu.p rfl];have b2:=(av.ext aW).aa aY (λhe=>by have:=(ad _ he).1;omega);refine bz (g:=I) (o:=3) dy.i (oc aX) (hp aX) b2 Ξ λb3 bg cC aZ=>?_;have aZ:ac b3 I cu [aA,Δ K,szv,bf]:=aZ;rw[aL];have b4:=ly aX;refine bK _ ⟨(gU (au.trans (aW.aa _)) aY λr Y he=>by have:=(ad _ he).1;omega).trans bg,bf,X++[f],λr=>((A r\/bo r\/aV.heap.size<=r)/\r<b1.heap.size),λr=>R' r\/(aC.heap.size<=r/\r<aD.heap.size),aZ,ak.aa b4 bg λr _ h he=>?_,λr Y=>?_,λr Y=>?_,?_,λj b5 b6 aJ az=>?_⟩
 .have he:r=I:=he;rcases h with h|h|h
  .rcases h.1 with h1|h1|h1
   .have:=(ad _ h1).1;omega
   .exact h1
   .omega
  .have:=(aw r h).1;omega
  .omega
 .have cD:=Y.2;rcases Y.1 with h1|h1|h1
  .have:=(ad _ h1).1;omega
  .exact h1.elim
  .omega
 .rcases Y with Y|Y
  .have bh:=aw r Y;refine⟨bh.1,λh=>?_,Ω⟩;rcases h.1 with h1|h1|h1
   .exact bh.2.1 h1
   .exact h1
   .omega
  .refine⟨Ω,λh=>?_,Ω⟩;rcases h.1 with h1|h1|h1
   .have:=(ad _ h1).2;omega
   .exact h1
   .omega
 .rw[o5,j0,a7];simp;omega
 .have b9:=(x4.1 az).1;rw[o5,S4] at b9;rw[Y3 Ω] at aJ;by_cases ca:j<X.length
  .rw[Y0 ca] at az;exact aB j b5 b6 (by rw[Y3 Ω];exact aJ) az
  .rw[Y1 Ω,show j-X.length=0 by omega] at az;rw[show j=i by omega,aS] at aJ;cases az;cases aJ;exact bV
def kU (w:x3) (U:Nat) (f:bY):Prop:=∃szv I gz,∃J:List gE,ac w U cu [bO f.name,Δ f.k,szv,I]/\ap .i64 ag w gz szv f.sizes/\Seen dY w [I] J/\sw f.k f.funs J
theorem kU.ext {f:bY} (h:kU w J f) (I:Ext w w'):kU w' J f:=by
 obtain⟨szv,U,gz,V,h1,W,X,Y⟩:=h;exact⟨szv,U,gz,V,h1.ext I,W.ext I,bq X I,Y⟩
def BV (w:x3) (res:Option bY) (v:x1) (w':x3):Prop:=Ext w w'/\match res with
 |none=>∃n e:Int,v= .tuple #[.pointer ν,Δ n,Δ e]/\e≠0
 |some f=>∃I,∃n:Int,v= .tuple #[Γ I,Δ n,Δ 0]/\kU w' I f
structure KR (clean:Bool) (so:Option az) (name:Λ) (k:Int) (sizes:Λ) (acc:List gY) (res:Option bY):Prop where
 oE:∀s,so=σ s->s.toks=[]->clean=true->s.big=false-> ∃fs,acc=fs.map gD/\res=σ ⟨name,k,sizes,fs⟩/\(∀x∈fs,su k x)/\fs.length<=256/\sizes.length<=1000000
 bad:res≠ν-> ∃s,so=σ s/\s.toks=[]/\clean=true/\s.big=false
theorem KT {w0:x3} {g:Nat} {A B S R:ah} {m:Bool} {so:Option az} {name:Λ} {acc:List gY} {res:Option bY} {aP p:x1} {pl:Λ} {Q:x1->x3->Prop}
  (aZ:gC w g gs A B clean so) (aq:KR clean so name k sizes acc res) (bI:aB .i64 w szv sizes) (bJ:∀r,leads szv r->r≠g/\r≠gs) (bK:ak.rep m S R w [aP] acc) (bo:∀r,S r\/R r->r≠g/\r≠gs/\r<w.heap.size)
  (di:so=ν->True) (dj:g<w.heap.size) (dk:gs<w.heap.size) (bL:ae (λr=>w0.heap.size<=r) w0 w) (dl:w0.heap.size<=g) (dm:w0.heap.size<=gs) (bM:aB .u8 w0 p pl)
  (aF:∀v w',BV w0 res v w'->Q v w'):
  cg (α:=x3->Prop) (λ(I:x3)=>
  U x7 (bF (Γ g)) I λbN=>
  U x7 (u6 b4 bN 1) I λbP=>
  U x7 (u6 eO bP 0) I λbR=>
  U x7 (u5 gg bR) I λbS=>
  U x7 (aE .neq gg false true bS (Δ 0)) I λbT=>
  Split bT (eh I λaf=>
   U x7 (bF (Γ g)) af λbU=>
   U x7 (u6 b4 bU 1) af λbV=>
   U x7 (u6 eO bV 2) af λbX=>
   U x7 (u5 ag bX) af λbZ=>
   U x7 (bF (Γ g)) af λb0=>
   U x7 (u6 b4 b0 1) af λb1=>
   U x7 (u6 eO b1 0) af λb2=>
   U x7 (u5 gg b2) af λb3=>
   Q (.tuple #[(.pointer ν),bZ,b3]) af)
   (U x7 (bF (Γ g)) I λb5=>
   U x7 (u6 b4 b5 1) I λb6=>
   U x7 (u6 eO b6 1) I λb7=>
   U x7 (u5 gg b7) I λb9=>
   U x7 (aE .neq gg false true b9 (Δ 0)) I λca=>
   Split ca (eh I λal=>
   U x7 (bF (Γ g)) al λcb=>
   U x7 (u6 b4 cb 1) al λcc=>
   U x7 (u6 eO cc 3) al λcd=>
   U x7 (u5 ag cd) al λch=>
   U x7 (bF (Γ g)) al λci=>
   U x7 (u6 b4 ci 1) al λcj=>
   U x7 (u6 eO cj 1) al λck=>
   U x7 (u5 gg ck) al λcl=>
   Q (.tuple #[(.pointer ν),ch,cl]) al)
   (aj x7 yL [szv] I λcm bp=>
  U x7 (Instr.build cu #[(0,bO name),(1,Δ k),(2,cm)]) bp λcn=>
  ax x7 (Instr.box cu cn) bp λau br=>
  U x7 (W3 #[iN] ag #[aP]) br λcp=>
  ce (Δ 0) br λa1 aw cq=>
   U x7 (aE .lss ag false false a1 cp) aw λcr=>
   Split cr (U x7 (j5 iN aP a1) aw λcw=>
   U x7 (u5 bW cw) aw λcz=>
   ax x7 (R2 bW true (.tuple #[])) aw λx cA=>
   ax x7 (o7 bW x cz) cA λ(_:Unit) cB=>
   eh cB λap=>
   U x7 (bF au) ap λaG=>
   U x7 (u6 cu aG 3) ap λaH=>
   U x7 (u5 dy aH) ap λa2=>
   U x7 (u5 bW x) ap λcC=>
   aj x7 uu [au,cC] ap λcD aI=>
    (Ext ap aI\/ct x7 (u5 dy aH) a2 aI/\ct x7 (u6 cu aG 3) aH aI/\ct x7 (bF au) aG aI/\True)/\
   ax x7 (Z9 dy 1 #[(0,cD)]) aI λcE aJ=>
    (Ext ap aJ\/ct x7 (u5 dy aH) a2 aJ/\ct x7 (u6 cu aG 3) aH aJ/\ct x7 (bF au) aG aJ/\True)/\
    ax x7 (b8 #[dy,dy] dy #[a2,cE]) aJ λcF a6=>
     U x7 (bF au) a6 λcG=>
     U x7 (u6 cu cG 3) a6 λcI=>
     ax x7 (o7 dy cI cF) a6 λ(_:Unit) bt=>
     U x7 (aE .add ag false true a1 (Δ 1)) bt λcJ=>
   cq cJ bt)
    (U x7 (W3 #[cH] ag #[p]) aw λcK=>
  Q (.tuple #[au,cK,(Δ 0)]) aw)))) λaQ=>
 aj x7 kz [(Γ g)] w λcL aK=>
 Split cL (U x7 (bF (Γ g)) aK λcM=>
  U x7 (u6 b4 cM 0) aK λcN=>
  U x7 (u5 ru cN) aK λcO=>
  aj x7 ut [cO] aK λa7 ao=>
  U x7 (Z1 a7 0) ao λdn=>
  U x7 (Z1 a7 1) ao λbu=>
  U x7 (Z1 a7 2) ao λa8=>
  U x7 (aE .eql gg false true a8 (Δ 0)) ao λcP=>
  Split cP (aj x7 mR [(Γ g),(Δ 4),bu] ao λdp cQ=>
  aQ cQ)
  (U x7 (aE .eql gg false true a8 (Δ 11)) ao λcR=>
  Split cR (aj x7 mR [(Γ g),a8,bu] ao λdq cS=>
   aQ cS)
   (aQ ao)))
  (aQ aK):=by
 refine db (λI=>ae (λr=>r=g\/r=gs) w I/\ ∃ (e big am an told:Int) (sv:x1),ac I g b4 (fq gs e big am an told sv)/\((e≠0/\res=ν)\/(e=0/\ ∃s,so=σ s/\s.toks=[]/\clean=true/\(s.big=true↔big≠0)))) ?_ ?_
 rotate_left
 .intro av ba;refine (Bv aZ).mono ?_;rintro _ J _ ⟨rfl,aL⟩;cases so with
  |none=>
   rw[show (ν:Option az).isSome=false from rfl,aS];obtain⟨e,big,am,an,told,sv,X,bb⟩:=aZ.ext aL;refine ba _ ⟨aL.aa _,e,big,am,an,told,sv,X,.inl ⟨bb,?_⟩⟩;cases ad:res with
   |none=>rfl
   |some f=>obtain⟨s,h,_⟩:=aq.bad (by rw[ad];simp);cases h
  |some s=>
   rw[show (σ s:Option az).isSome=true from rfl,bA];have cT:c4 J g gs A B s clean:=aZ.ext aL;obtain⟨aR,cU,cV,big,am,an,told,sv,X,bb,cW⟩:=id cT;rw[aM b4.p 0 X rfl];refine (pK cU).mono ?_;rintro v V _ ⟨ay,aC⟩;have cX:(s.toks≠[]\/clean=false)->res=ν:=λW=>by
    cases ad:res with
    |none=>rfl
    |some f=>
     obtain⟨s',h,aN,bw,_⟩:=aq.bad (by rw[ad];simp);cases h;rcases W with W|W
     .exact absurd aN W
     .rw[W] at bw;cases bw
   have aU:∀Y,ae (λr=>r=g) V Y->eo Y g gs A B->(s.toks≠[]\/clean=false)->av Y:=λY aO aU W=>by
    obtain⟨_,e,big,am,an,told,sv,l,cY,cZ,_⟩:=aU;exact ba _ ⟨((aL.aa _).trans (ay.mono λr _ h=>.inr h)).trans (aO.mono λr _ h=>.inl h),e,big,am,an,told,sv,cY,.inl ⟨cZ.1,cX W⟩⟩
   have bc:=X.aa ay aR.1;have bx:=ak.aa cW ay λr _ h aN=>by
    have aN:r=gs:=aN;subst aN;rcases h with h|h
    .exact aR.2.2.1 h
    .exact h.1 (.inr (.inl rfl))
   have bz:s.shared.length<=100000:=by have:=cV.2.2;omega
   cases aD:s.toks with
   |cons t l=>
    rw[aD] at aC;obtain⟨dr,n,rfl⟩:=aC;rw[hM,hN,hP,be,ai];refine⟨λ_=>?_,λh=>absurd rfl h⟩;refine (rX (aR.aa ay) bc bx Ω bz).mono ?_;rintro _ Y _ ⟨aO,bd⟩;exact aU Y aO bd (.inl (by rw[aD];simp))
   |nil=>
    rw[aD] at aC;obtain⟨n,rfl⟩:=aC;rw[hM,hN,hP,be,ai];refine⟨λh=>by cases clean<;>simp at h,λ_=>?_⟩;rw[be,ai];cases aW:clean with
    |true=>
     subst aW;refine⟨λh=>by simp at h,λ_=>ba _ ⟨(aL.aa _).trans (ay.mono λr _ h=>.inr h),0,big,am,an,told,sv,bc,.inr ⟨rfl,s,rfl,aD,rfl,bb.1⟩⟩⟩
    |false=>
     subst aW;refine⟨λ_=>?_,λh=>absurd rfl h⟩;refine (rX (aR.aa ay) bc bx Ξ bz).mono ?_;rintro _ Y _ ⟨aO,bd⟩;exact aU Y aO bd (.inr rfl)
 .rintro J ⟨aX,e,big,am,an,told,sv,X,c0⟩;have ds:=aX.size;have bf:Ext w0 J:=(bL.ext λr ad h=>Ω).then aX (λr ad h=>by rcases h with h|h<;>omega);rw[bQ,aT b4.p rfl,aT eO.p rfl,aA Ψ (X.cell (o:=0+1+0) rfl),bh,ai];rcases c0 with⟨he,bg⟩|⟨rfl,s,rfl,aD,aW,bB⟩
  .refine⟨λ_=>?_,λh=>absurd he h⟩;intro V ab _ _;rw[bQ,aT b4.p rfl,aT eO.p rfl,aA Ψ ((X.ext ab).cell (o:=0+1+2) rfl),bQ,aT b4.p rfl,aT eO.p rfl,aA Ψ ((X.ext ab).cell (o:=0+1+0) rfl)];rw[bg] at aF;exact aF _ _ ⟨bf.trans ab,am,e,rfl,he⟩
  .refine⟨λh=>absurd rfl h,λ_=>?_⟩;rw[bQ,aT b4.p rfl,aT eO.p rfl,aA Ψ (X.cell (o:=0+1+1) rfl),bh,ai];refine⟨λW=>?_,λW=>?_⟩
   .have bg:res=ν:=by
     cases ad:res with
     |none=>rfl
     |some f=>
      obtain⟨s',h,_,_,bC⟩:=aq.bad (by rw[ad];simp);cases h;rw[bB.2 W] at bC;cases bC
    intro V ab _ _;rw[bQ,aT b4.p rfl,aT eO.p rfl,aA Ψ ((X.ext ab).cell (o:=0+1+3) rfl),bQ,aT b4.p rfl,aT eO.p rfl,aA Ψ ((X.ext ab).cell (o:=0+1+1) rfl)];rw[bg] at aF;exact aF _ _ ⟨bf.trans ab,an,big,rfl,W⟩
   .have c1:s.big=false:=by
     cases c2:s.big with
     |false=>rfl
     |true=>exact absurd (bB.1 c2) W
    obtain⟨bi,rfl,rfl,c3,c5,c6⟩:=aq.oE s rfl aD aW c1;have c7:aB .i64 J szv sizes:=hv bI aX λr ad a n c aC aq=>by
     have:=bJ r ⟨a,n,c,aC,aq⟩;exact ad.elim this.1 this.2
    refine (ss c7 c6).mono ?_;rintro bj V _ ⟨ab,gz,dt,bk⟩;have du:=ab.size;rw[dc (cs:=#[bO name,Δ k,bj,.slice ν 0 0]) (by obtain⟨_,_,_,rfl⟩:=df bk.ls;kernel_rfl)];refine bm λbl Y dv bn aY=>?_;have aY:ac Y bl cu [bO name,Δ k,bj,.slice ν 0 0]:=by obtain⟨_,_,_,rfl⟩:=df bk.ls;exact aY
    have bD:ak.rep m S R Y [aP] (show List gY from bi.map gD):=bq (bq (ak.aa bK aX λr _ h he=>by have:=bo r h;exact he.elim this.1 this.2.1) ab) bn;have c8:(bi.map gD).length=bi.length:=Ξ
    rw[gj iN.u bD,c8];refine KQ aY bD (λr h=>by have:=bo r h;omega) c3 c5 λbE c9 da dd de dg dh=>?_;have dw:=aY.lt;have z3:=bn.size;have bG:Ext V bE:=bn.then dd (λr ad h=>by have h:r=bl:=h;omega);have bH:Ext w0 bE:=(bf.trans ab).trans bG;rw[aV cH.u (bM.ext bH)];exact aF _ _ ⟨bH,bl,_,rfl,bj,c9,gz,da,de,bk.ext bG,ho dg,dh⟩
theorem BW {α:Type} {f:List α->az->Option (α×az)} {acc:List α} {s:az}:fb f (n+1) acc (σ s)=match f acc s with
  |none=>ν
  |some (a,s')=>fb f n (acc++[a]) (σ s'):=by
 show cI f (n+1) acc s=_;simp only[cI];cases f acc s<;>rfl
theorem KU {g:Nat} {A B:ah} {s:Option az} {most:Int} {ay:x1->x3->Prop} (h:c6 w g gs A B clean s) (aX:(N:Int)<=ao)
  (aA:∀szv w' l so gz,ae (bw g gs A) w w'->c6 w' g gs A B clean so->ap .i64 al w' gz szv l->w.heap.size<=gz->l.length<=100001->(∀q,fb (fC most) N [] s=σ q->so=σ q.2/\l=q.1)->(fb (fC most) N [] s=ν->so=ν)->ay szv w'):
 bU (.slice ν 0 0) (Δ 0) w λsizes i af k=>
  cg (α:=x1->x3->Prop) (λ(aY:x1) (aB:x3)=>
   Split aY (aj x7 mQ [Γ g,(Δ 1),Δ most] aB λaC Y=>
  U x7 (Z1 aC 0) Y λaD=>
  U x7 (Z1 aC 1) Y λaZ=>
  U x7 (aE .gtr al false true aD (Δ 32)) Y λa1=>
  aj x7 pp [Γ g,a1,aZ] Y λbN a2=>
  ax x7 (Z9 aq 1 #[(0,aD)]) a2 λa6 a8=>
  ax x7 (b8 #[aq,aq] aq #[sizes,a6]) a8 λba aF=>
  U x7 (aE .add al false true i (Δ 1)) aF λbb=>
  k ba bb aF) (ay sizes aB)) λav=>
  U x7 (aE .lss al false false i (Δ (N:Int))) af λbd=>
  Split bd (aj x7 kz [Γ g] af λbe bh=>
  av be bh)
   (av (.bool false) af):=by
 obtain⟨bO,aG,bP,bi,bj⟩:=h.side;have ad:∀r,bw g gs A r->r<w.heap.size:=bi;unfold ao at aX;generalize bk:fb (fC most) N [] s=aH at aA;refine⟨λout ag J=>∃ (i:Nat) (l:Λ) (so:Option az) (gz:Nat),ag=Δ (i:Int)/\i<=N/\ae (bw g gs A) w J/\ap .i64 al J gz out l/\w.heap.size<=gz/\c6 J g gs A B clean so/\aH=fb (fC most) (N-i) l so/\l.length<=100001/\ ∀st,so=σ st->l.length+st.toks.length<=100000,
  λ_ ag _=>N-(bV ag).toNat,⟨0,[],s,w.heap.size,rfl,X2 _,ae.refl _ _,ap.nil _ _ _ _,p9 _,h,bk.symm,Ξ,λst bl=>?_⟩,?_⟩
 .subst bl;have:=h.words;simpa using this
 rintro out _ J ⟨i,l,so,gz,rfl,bQ,ak,aI,bm,aJ,ab,bo,aK⟩;refine aR (λv aM=>Ext J aM/\((v= .bool true/\i<N/\ ∃st,so=σ st)\/(v= .bool false/\(so=ν\/i=N)))) ?_ ?_
 rotate_left
 .intro av am;rw[aP,ai];refine⟨λbp=>?_,λbS=>am _ _ ⟨Ext.refl _,.inr ⟨rfl,.inr Ω⟩⟩⟩;refine (oJ aJ).mono ?_;rintro _ aM _ ⟨rfl,aN⟩;cases so with
  |none=>exact am _ _ ⟨aN,.inr ⟨rfl,.inl rfl⟩⟩
  |some st=>exact am _ _ ⟨aN,.inl ⟨rfl,Ω,st,rfl⟩⟩
 rintro _ V ⟨X,bq⟩;have aO:=aI.ext X;have aQ:=aJ.ext X;rcases bq with⟨rfl,bp,st,rfl⟩|⟨rfl,br⟩
 rotate_left
 .rw[aS];have aT:aH=so.map λst=>(l,st):=by
   rcases br with rfl|rfl
   .exact ab
   .rw[V7] at ab;rw[ab];cases so<;>rfl
  refine aA out V l so gz (ak.trans (X.aa _)) aQ aO bm bo (λq I=>?_) λaU=>?_
  .rw[aT] at I;cases so with
   |none=>cases I
   |some st=>cases I;exact⟨rfl,rfl⟩
  .rw[aT] at aU;cases so with
   |none=>rfl
   |some st=>cases aU
 rw[bA];have aK:=aK st rfl;refine (lD (s:=σ st) aQ).mono ?_;rintro _ bT _ ⟨an,z,at_,rfl,bt,bW⟩;obtain⟨au,bu⟩:=an.of;rw[bf,bg,bM];refine (pY bu).mono ?_;rintro _ bX _ an;obtain⟨aw,bx⟩:=an.of;refine en aq.u al.i rfl λa ga bz bY ac bB=>?_;have bZ:=ak.size;have b0:=X.size;have z3:=au.size;have z4:=aw.size;have z5:=ac.size;have aV:∀r,leads out r->¬bw g gs A r:=λr W bC=>by have:=ad r bC;have:=(bR aI W).1;omega
 have bD:=bn (bn aO au aV) aw aV;refine iQ aq.u al.i rfl (bD.ext ac) bB.ls Θ Θ λb1 bE bF b2 bG aW=>?_;rw[aL,wrap_i64 Ω Ω];have bH:ae (bw g gs A) w bz:=((((ak.trans (X.aa _)).trans au).trans aw).trans (ac.aa _));have bI:ae (bw g gs A) w bF:=gU bH aW λr W he=>by have he:r=gz:=he;omega
 have bJ:∀r,bw g gs A r->¬(λr=>r=gz) r:=λr W he=>by have:=ad r W;have he:r=gz:=he;omega
 have bK:∀r,cA g gs A B r->¬(λr=>r=gz) r:=λr W he=>by have:=bj r W.2;have he:r=gz:=he;omega
 refine⟨⟨i+1,l++[z],_,bE,rfl,Ω,bI,bG,Ω,(bx.ext ac).aa aW bJ bK,?_,Θ,λb3 bL=>?_⟩,by simp only[bV];omega⟩
 .rw[ab,show N-i=(N-(i+1))+1 by omega,BW];unfold fC;cases I:bc 1 most st with
  |none=>have e:a7 1 most (σ st)=ν:=I;rw[e];rfl
  |some q=>
   have e:a7 1 most (σ st)=σ q:=I;have:=bt q e;subst this;rw[e];rfl
 .obtain⟨b4,aG,rfl⟩:=Y2.1 bL;obtain⟨q,I,rfl⟩:=Y2.1 aG;have h1:=(dw (n:=q.1) (s':=q.2) I).1;simp only[o5,S4];show l.length+1+q.2.toks.length<=100000;omega
theorem KV {acc:List (Λ×Int)} {s s':az} {a:Λ×Int} (h:dK sizes acc s=σ (a,s')):s'.told=s.told/\s'.big=s.big:=by
 obtain⟨_,_,_,I⟩:=oy h;exact⟨I.eqs.1,I.eqs.2.1⟩
theorem KW {s s':az} {l:List (Λ×Int)} (hi:dM s) (h:dL sizes s=σ (l,s')):dM s'/\(s.big=true->s'.big=true):=by
 have e:=Bs sizes (σ s);rw[show ir sizes (σ s)=dL sizes s from rfl,h] at e;cases W:a7 (-ao) ao (σ s) with
 |none=>rw[W] at e;cases e
 |some q=>
  obtain⟨n,U⟩:=q;rw[W] at e;simp only at e;have h1:=(dw (n:=n) (s':=U) W).eqs;have Y:dM U:=λJ=>by rw[h1.1];rw[h1.2.1] at J;exact hi J
  split at e
  .cases I:U.shared[(-n-1).toNat]? with
   |none=>rw[I] at e;cases e
   |some q=>
    obtain⟨z,l'⟩:=q;rw[I] at e;simp only at e;split at e
    .cases e;exact⟨Y,λJ=>by rw[h1.2.1];exact J⟩
    .cases e
  .have:=j1 (f:=dK sizes) (λacc t=>t.told=(jv n U).told/\t.big=(jv n U).big) (λacc t a bp ⟨X,V⟩ g=>by
    have:=KV g;exact⟨by rw[this.1,X],by rw[this.2,V]⟩) n.toNat [] _ l s' ⟨rfl,rfl⟩ e.symm
   obtain⟨⟨X,V⟩,_⟩:=this;refine⟨λJ=>by rw[X];rw[V] at J;exact Kg n U J,λJ=>?_⟩;rw[V];show (U.big||_)=true;rw[h1.2.1,J];rfl
theorem KX {s s':az} {x:cm} (hi:dM s) (h:cX all s=σ (x,s')):dM s'/\s'.toks.length<s.toks.length:=by
 unfold cX at h;cases V:bc (-ao) ao s with
 |none=>rw[V] at h;cases h
 |some q=>
 obtain⟨a,ae⟩:=q;rw[V] at h;simp only at h;have t0:=dw V;cases h1:eQ all.length a.natAbs ae with
 |none=>rw[h1] at h;cases h
 |some q=>
 obtain⟨sc,J⟩:=q;rw[h1] at h;simp only at h;obtain⟨W,_⟩:=vk h1;generalize sc.map (λv=>all.getD v.toNat 0)=sizes at h;cases X:bc 0 ao (a8 (decide (6<a.natAbs)||de sizes) J) with
 |none=>rw[X] at h;cases h
 |some q=>
 obtain⟨other,Y⟩:=q;rw[X] at h;simp only at h;have aa:=dw X;have af:dM Y:=λI=>by
  rw[aa.eqs.1];rw[aa.eqs.2.1] at I;have I:(J.big||_)=false:=I;have ac:=(T7.1 I).1;show J.told<=16384;rw[W.eqs.1,t0.eqs.1];rw[W.eqs.2.1,t0.eqs.2.1] at ac;exact hi ac
 cases U:dL sizes Y with
 |none=>rw[U] at h;cases h
 |some q=>
 obtain⟨lines,ab⟩:=q;rw[U] at h;simp only[Y6,T4] at h;obtain⟨_,rfl⟩:=h;have ag:=KW af U;have aj:=Bz U;have ak:=t0.1;have al:=W.1;have am:J.toks.length=Y.toks.length+1:=aa.1;have ad:∀t:az,t.told=ab.told/\t.big=ab.big/\t.toks=ab.toks->dM t/\t.toks.length<s.toks.length:=λt ⟨ah,ai,a3⟩=>⟨λI=>by rw[ah];rw[ai] at I;exact ag.1 I,by rw[a3];omega⟩;split
 .exact ad _ ⟨rfl,rfl,rfl⟩
 .exact ad _ ⟨rfl,rfl,rfl⟩
theorem KY {S R:ah} {x:gY} (h:ak.rep false S R w cs x):ak.rep (α:=gY) true bo R w cs x/\(x1.agg cs.toArray).cells=cs.toArray:=by
 obtain⟨V,d1,Y,aa,rfl,_,_,_,h1,W,d2,ab,ac,rfl,_,_,_,I,X,d3,ad,ae,rfl,_,_,_,U,J⟩:=h;have h1:ak.rep (α:=Λ) false bo R w V x.1:=h1;have I:ak.rep (α:=Λ) false bo R w W x.2.1:=I;have U:X=[Δ x.2.2.1]:=U;have J:ak.rep (α:=List (Λ×Int)) false bo R w d3 x.2.2.2:=J;refine⟨⟨V,_,bo,bo,rfl,λ_ h=>h,λ_ h=>h,λ_ _ h _=>h,h1,W,_,bo,bo,rfl,λ_ h=>h,λ_ h=>h,λ_ _ h _=>h,I,X,d3,bo,bo,rfl,λ_ h=>h,λ_ h=>h,λ_ _ h _=>h,U,J⟩,?_⟩;obtain⟨u,rfl⟩:=W6.1 (show V.length=1 from ak.len h1);obtain⟨v,rfl⟩:=W6.1 (show W.length=1 from ak.len I);obtain⟨y,rfl⟩:=W6.1 (show d3.length=1 from ak.len J);obtain⟨_,_,_,rfl⟩:=lE h1;obtain⟨_,_,_,rfl⟩:=lE I;obtain⟨_,_,_,rfl⟩:=lE J;subst U;rfl
theorem KZ {w0:x3} {g c:Nat} {A B:ah} {o:Option az} {aq:x1} {a8:x1->x3->Prop} (ba:gC w g gs A B clean o) (hi:∀s,o=σ s->dM s) (bQ:(c:Int)<=ao)
  (bR:aB .i64 w aq all) (bb:∀r,leads aq r->r≠g/\r≠gs/\r<w.heap.size/\(o≠ν->¬A r)) (bS:o≠ν-> ∀z∈all,1<=z/\z<=ao) (bT:all.length<=100001) (bX:dA w) (h1:1<w0.heap.size/\(o≠ν->cA g gs A B 1))
  (bc:ae (λr=>w0.heap.size<=r) w0 w) (bY:w0.heap.size<=g) (bZ:w0.heap.size<=gs) (cM:g<w.heap.size/\gs<w.heap.size) (b0:o≠ν-> ∀r,A r->w0.heap.size<=r)
  (bd:∀au w' acc so aN ab be bf,ae (λr=>w0.heap.size<=r) w0 w'->w.heap.size<=w'.heap.size->gC w' g gs aN ab clean so->ak.rep (α:=List gY) true be bf w' [au] acc->(∀r,be r\/bf r->r≠g/\r≠gs/\r<w'.heap.size)->aB .i64 w' aq all->
   (∀q,fb (λ_ s=>cX all s) c [] o=σ q->so=σ q.2/\acc=q.1.map gD)->(fb (λ_ s=>cX all s) c [] o=ν->so=ν)->a8 au w'):
 bU (.slice ν 0 0) (Δ 0) w λfuns bg aT b1=>
  cg (α:=x1->x3->Prop) (λ(b2:x1) (bh:x3)=>
   Split b2 (aj x7 yK [Γ g,aq] bh λb3 b4=>
  ax x7 (Z9 iN 1 #[(0,b3)]) b4 λb5 b6=>
  ax x7 (b8 #[iN,iN] iN #[funs,b5]) b6 λb7 bi=>
  U x7 (aE .add al false true bg (Δ 1)) bi λb9=>
  b1 b7 b9 bi) (a8 funs bh)) λbj=>
  U x7 (aE .lss al false false bg (Δ (c:Int))) aT λca=>
  Split ca (aj x7 kz [Γ g] aT λcb cc=>
  bj cb cc)
   (bj (.bool false) aT):=by
 unfold ao at bQ;generalize X:fb (λ_ s=>cX all s) c [] o=bk at bd;have bl:∀s,o=σ s->o≠ν:=λs h=>by rw[h];simp
 refine⟨λau aU J=>∃ (i:Nat) (acc:List gY) (ag:List cm) (so:Option az) (ac an ad aw:ah),aU=Δ (i:Int)/\i<=c/\ae (λr=>w0.heap.size<=r) w0 J/\w.heap.size<=J.heap.size/\gC J g gs ac an clean so/\ak.rep true ad aw J [au] acc/\
   aB .i64 J aq all/\dA J/\bk=fb (λ_ s=>cX all s) (c-i) ag so/\(∀r,ad r->w.heap.size<=r/\r<J.heap.size)/\(∀r,aw r->r≠g/\r≠gs/\¬ad r)/\
   ∀s,so=σ s->acc=ag.map gD/\dM s/\ag.length+s.toks.length<=100000/\o≠ν/\(∀r,ac r->A r\/w.heap.size<=r)/\(∀r,ac r->w0.heap.size<=r)/\(∀r,B r->an r)/\(∀r,ad r->¬an r/\¬ac r)/\(∀r,aw r->cA g gs ac an r),
  λ_ aU _=>c-(bV aU).toNat,⟨0,[],[],o,A,B,bo,bo,rfl,X2 _,bc,p9 _,ba,gB,bR,bX,X.symm,λ_ h=>h.elim,λ_ h=>h.elim,λs I=>⟨rfl,hi s I,?_,bl s I,λr W=>.inl W,b0 (bl s I),λr W=>W,λ_ h=>h.elim,λ_ h=>h.elim⟩⟩,?_⟩
 .subst I;have aV:c4 w g gs A B s clean:=ba;have:=aV.2.1.words.1;simpa using this
 rintro au _ J ⟨i,acc,ag,so,ac,an,ad,aw,rfl,cN,cd,cO,bm,ce,aW,bn,aI,af,ch,bp⟩;refine aR (λv br=>Ext J br/\((v= .bool true/\i<c/\ ∃st,so=σ st)\/(v= .bool false/\(so=ν\/i=c)))) ?_ ?_
 rotate_left
 .intro av aX;rw[aP,ai];refine⟨λbt=>?_,λcP=>aX _ _ ⟨Ext.refl _,.inr ⟨rfl,.inr Ω⟩⟩⟩;refine (Bv bm).mono ?_;rintro _ br _ ⟨rfl,bu⟩;cases so with
  |none=>exact aX _ _ ⟨bu,.inr ⟨rfl,.inl rfl⟩⟩
  |some st=>exact aX _ _ ⟨bu,.inl ⟨rfl,Ω,st,rfl⟩⟩
 rintro _ V ⟨ap,ci⟩;have cQ:=ap.size;have aD:=bm.ext ap;have bz:=bq ce ap;have bB:ae (λr=>w0.heap.size<=r) w0 V:=cd.trans (ap.aa _);rcases ci with⟨rfl,bt,st,rfl⟩|⟨rfl,cj⟩
 rotate_left
 .rw[aS];have bC:bk=so.map λst=>(ag,st):=by
   rcases cj with rfl|rfl
   .exact aI
   .rw[V7] at aI;rw[aI];cases so<;>rfl
  refine bd au V acc so ac an ad (λr=>aw r/\r<V.heap.size) bB Ω aD (ak.mono bz (λ_ _ h=>h) λr W h=>⟨h,W⟩) (λr W=>?_) (aW.ext ap) (λq am=>?_) λbD=>?_
  .rcases W with W|W
   .have:=af r W;exact⟨Ω,Ω,Ω⟩
   .have:=ch r W.1;exact⟨this.1,this.2.1,W.2⟩
  .rw[bC] at am;cases so with
   |none=>cases am
   |some st=>cases am;exact⟨rfl,(bp _ rfl).1⟩
  .rw[bC] at bD;cases so with
   |none=>rfl
   |some st=>cases bD
 rw[bA];obtain⟨rfl,bE,cR,aJ,bF,aY,bG,aK,bH⟩:=bp st rfl;have aD:c4 V g gs ac an st clean:=aD;obtain⟨cS,cT,cU,cV,cW⟩:=aD.1;have ck:=h1.2 aJ;have bI:cA g gs ac an 1:=⟨λX=>by
  rcases X with X|X|X
  .omega
  .omega
  .have:=aY 1 X;omega,bG 1 ck.2⟩
 have bJ:∀r,leads aq r->¬bw g gs ac r/\r<V.heap.size:=λr W=>by
  obtain⟨cl,cn,cp,cq⟩:=bb r W;refine⟨λX=>?_,Ω⟩;rcases X with X|X|X
  .exact cl X
  .exact cn X
  .rcases bF r X with h|h
   .exact cq aJ h
   .omega
 refine (Kr aD bE (aW.ext ap) bJ (bS aJ) bT (bn.ext ap) bI).mono ?_;rintro _ cr _ ⟨aN,ab,cs,aZ,rfl,cY,aF,aG,a1,bK,bL,ct,cu⟩;have z3:=aF.size;obtain⟨bM,cw⟩:=KY ct;refine jm (α:=gY) (a:=aZ) (cs:=cs) (A:=bo) (R:=cA g gs aN ab) iN.u bW.i Φ cw bM λu aM ay _ hu=>?_;have z4:=ay.size;have cz:∀r,r<V.heap.size->ad r\/aw r->¬bw g gs ac r:=λr W h X=>by
  rcases h with h|h
  .have Y:=af r h;rcases X with X|X|X
   .omega
   .omega
   .exact (aK r h).2 X
  .exact (bH r h).1 X
 have cB:∀r,r<V.heap.size->cA g gs ac an r->cA g gs aN ab r:=λr W h=>⟨λX=>h.1 (X.imp id (Or.imp id λX=>(aG r X).elim id λh'=>Ω)),bK r h.2⟩;have cC:bx ad (cA g gs aN ab) aM [au] (ag.map gD):=bq (ak.aa (ak.mono (S':=ad) (R':=λr=>cA g gs aN ab r/\aw r) bz (λ_ _ h=>h) λr W h=>⟨cB r W (bH r h),h⟩) aF λr W h=>cz r W (h.imp id λh=>h.2) |> λh=>h) ay |> λh=>ak.mono h (λ_ _ h=>h) λ_ _ h=>h.1;have aO:∀r,ad r->¬ab r:=λr h aQ=>by
  have Y:=af r h;rcases (a1 r aQ).1 with aA|aA
  .exact (aK r h).1 aA
  .have a2:=(af r h).2;omega
 have cZ:(ag.map gD).length=ag.length:=Ξ
 refine l4 (α:=gY) (a:=aZ) (A:=bo) iN.u bW.i rfl cC hu (bq bM ay) (λr _ cD h=>?_) Ω Ω λc0 aC cE aH=>?_
 .rcases h with h|h
  .exact h
  .exact aO r cD h.2
 have z5:=aH.size;rw[aL,wrap_i64 Ω Ω];have cF:ae (λr=>w0.heap.size<=r) w0 aM:=(bB.trans (aF.mono λr _ X=>by
  rcases X with rfl|rfl|X
  .exact bY
  .exact bZ
  .exact aY r X)).trans (ay.aa _)
 have z0:=bc.size;have cG:ae (λr=>w0.heap.size<=r) w0 aC:=cF.trans (aH.mono λr _ h=>by have:=(af r h).1;omega);have cH:aB .i64 aM aq all:=(hv (aW.ext ap) aF λr W a n c a6 a7=>(bJ r ⟨a,n,c,a6,a7⟩).1 W).ext ay;have cI:aB .i64 aC aq all:=hv cH aH λr W a n c a6 a7=>by
  have cp:=(bb r ⟨a,n,c,a6,a7⟩).2.2.1;have:=(af r W).1;omega
 have cJ:dA aC:=(((bn.ext ap).aa aF bI.1).ext ay).aa aH λh=>by have:=(af 1 h).1;omega
 have bN:gC aC g gs aN ab clean ((cX all st).map (·.2)):=by
  refine gC.aa (bL.ext ay) aH (λh=>by have:=af _ h;omega) (λr W c1 h=>?_) (λr W h=>aO r h W.2);have Y:=af r h;rcases W with rfl|rfl|W
  .omega
  .omega
  .rcases aG r W with aA|aA
   .exact (aK r h).2 aA
   .omega
 have cK:=ly cE;refine⟨⟨i+1,(ag.map gD)++[aZ],ag++((cX all st).map (·.1)).toList,(cX all st).map (·.2),aN,ab,λr=>(ad r\/bo r\/aM.heap.size<=r)/\r<aC.heap.size,cA g gs aN ab,rfl,Ω,cG,Ω,bN,cK,cI,cJ,?_,λr W=>⟨?_,W.2⟩,λr W=>⟨λh=>W.1 (.inl h),λh=>W.1 (.inr (.inl h)),λh=>?_⟩,λs' cL=>?_⟩,by simp only[bV];omega⟩
 .rw[aI,show c-i=(c-(i+1))+1 by omega,BW];cases am:cX all st with
  |none=>rfl
  |some q=>rfl
 .rcases W.1 with h|h|h
  .exact (af r h).1
  .exact h.elim
  .omega
 .rcases h.1 with Y|Y|Y
  .exact aO r Y W.2
  .exact Y
  .have:=(a1 r W.2).2;omega
 .obtain⟨q,am,rfl⟩:=Y2.1 cL;have Y:=KX (s':=q.2) (x:=q.1) bE am;have aA:=cu q am;refine⟨?_,Y.1,?_,aJ,λr W=>?_,λr W=>?_,λr W=>bK r (bG r W),λr W=>⟨λaQ=>?_,λbO=>?_⟩,λr W=>W⟩
  .rw[am,aA];simp
  .rw[am];simp only[Z2,l9,o5,S4];omega
  .rcases aG r W with h|h
   .exact bF r h
   .exact .inr Ω
  .rcases aG r W with h|h
   .exact aY r h
   .omega
  .rcases W.1 with Y|Y|Y
   .exact aO r Y aQ
   .exact Y
   .have:=(a1 r aQ).2;omega
  .have c2:gC aC g gs aN ab clean ((cX all st).map (·.2)):=bN;have bP:=bL;rw[am] at bP;have aV:c4 cr g gs aN ab q.2 clean:=bP;have bt:=aV.1.2.2.2.1 r (.inr (.inr bO));rcases W.1 with Y|Y|Y
   .rcases aG r bO with a2|a2
    .exact (aK r Y).2 a2
    .have:=(af r Y).2;omega
   .exact Y
   .omega
theorem dM.num {lo hi n:Int} {s s':az} (J:dM s) (h:bc lo hi s=σ (n,s')):dM s':=λI=>by
 have h1:=(dw h).eqs;rw[h1.1];rw[h1.2.1] at I;exact J I
theorem dM.big {b:Bool} {s:az} (h:dM s):dM (a8 b s):=λI=>by
 have I:(s.big||b)=false:=I;exact h (T7.1 I).1
theorem dM.word {w:Λ} {s s':az} (h:dM s) (hw:dJ s=σ (w,s')):dM s':=λI=>by
 have h1:=(rU hw).2;rw[h1] at I ⊢;exact h I
theorem K0 {most:Int} {s s':az} (hi:dM s) (hm:most<=ao) (h:cI (fC most) N [] s=σ (l,s')):dM s'/\(∀z∈l,1<=z/\z<=ao)/\l.length+s'.toks.length<=s.toks.length:=by
 have:=j1 (f:=fC most) (λacc t=>dM t/\(∀z∈acc,1<=z/\z<=ao)/\acc.length+t.toks.length<=s.toks.length) (λacc t a bp ⟨h1,U,X⟩ g=>by
  unfold fC at g;cases I:bc 1 most t with
  |none=>rw[I] at g;cases g
  |some q=>
   obtain⟨z,V⟩:=q;rw[I] at g;simp only[Y6,T4] at g;obtain⟨rfl,rfl⟩:=g;have Y:=(hx I).1;have aa:=(dw I).1;refine⟨(h1.num I).big,λx J=>?_,?_⟩
   .rcases l7.1 J with J|J
    .exact U x J
    .rw[n9.1 J];omega
   .simp only[o5,S4];show acc.length+1+V.toks.length<=_;omega) N [] s l s' ⟨hi,λz W=>(by cases W),Ξ⟩ h
 exact this.1
theorem K1 {s0:az} {name:Λ} {n most cnt:Int} {so6:Option az}
  (h1:∀q,dJ s0=σ q->name=q.1)
  (Y:∀q,a7 1 ao (((dJ s0).map (·.2)).map (a8 (decide (64<(name.length:Int)))))=σ q->n=q.1)
  (X:∀q,a7 1 ao (((a7 1 ao (((dJ s0).map (·.2)).map (a8 (decide (64<(name.length:Int)))))).map (·.2)).map (a8 (decide (64<n))))=σ q->most=q.1)
  (W:∀q,a7 0 ao ((a7 1 ao (((a7 1 ao (((dJ s0).map (·.2)).map (a8 (decide (64<(name.length:Int)))))).map (·.2)).map (a8 (decide (64<n))))).map (·.2))=σ q->cnt=q.1)
  (V:∀q,a7 1 ao (((a7 0 ao ((a7 1 ao (((a7 1 ao (((dJ s0).map (·.2)).map (a8 (decide (64<(name.length:Int)))))).map (·.2)).map (a8 (decide (64<n))))).map (·.2))).map (·.2)).map (a8 (decide (256<cnt))))=σ q->k=q.1)
  (U:∀q,fb (fC most) n.toNat [] (((a7 1 ao (((a7 0 ao ((a7 1 ao (((a7 1 ao (((dJ s0).map (·.2)).map (a8 (decide (64<(name.length:Int)))))).map (·.2)).map (a8 (decide (64<n))))).map (·.2))).map (·.2)).map (a8 (decide (256<cnt))))).map (·.2)).map (a8 (decide (2147483648<k))))=σ q->so6=σ q.2/\sizes=q.1)
  (J:fb (fC most) n.toNat [] (((a7 1 ao (((a7 0 ao ((a7 1 ao (((a7 1 ao (((dJ s0).map (·.2)).map (a8 (decide (64<(name.length:Int)))))).map (·.2)).map (a8 (decide (64<n))))).map (·.2))).map (·.2)).map (a8 (decide (256<cnt))))).map (·.2)).map (a8 (decide (2147483648<k))))=ν->so6=ν):
  hr s0=(fb (λ_ s=>cX sizes s) cnt.toNat [] so6).map λq=>((⟨name,k,sizes,q.1⟩:bY),q.2):=by
 unfold hr;cases ae:dJ s0 with
 |none=>
  rw[ae] at J;rw[J rfl];rfl
 |some ap=>
 obtain⟨aH,aq⟩:=ap;rw[ae] at h1 Y X W V U J;have:=h1 _ rfl;subst this;have au:decide (64<(name.length:Int))=decide (64<name.length):=by rw[V5,decide_eq_true_eq,decide_eq_true_eq];omega
 rw[au] at Y X W V U J;simp only[Z2] at Y X W V U J ⊢;generalize a8 (decide (64<name.length)) aq=ab at*;cases af:bc 1 ao ab with
 |none=>
  rw[show a7 1 ao (σ ab)=ν from af] at J;rw[J rfl];rfl
 |some av=>
 obtain⟨aw,ag⟩:=av;rw[show a7 1 ao (σ ab)=σ (aw,ag) from af] at Y X W V U J;have:=Y _ rfl;subst this;simp only[Z2] at X W V U J ⊢;generalize a8 (decide (64<n)) ag=ac at*;cases ah:bc 1 ao ac with
 |none=>
  rw[show a7 1 ao (σ ac)=ν from ah] at J;rw[J rfl];rfl
 |some ax=>
 obtain⟨ay,aa⟩:=ax;rw[show a7 1 ao (σ ac)=σ (ay,aa) from ah] at X W V U J;have:=X _ rfl;subst this;simp only[Z2] at W V U J ⊢;cases ai:bc 0 ao aa with
 |none=>
  rw[show a7 0 ao (σ aa)=ν from ai] at J;rw[J rfl];rfl
 |some aA=>
 obtain⟨aB,aj⟩:=aA;rw[show a7 0 ao (σ aa)=σ (aB,aj) from ai] at W V U J;have:=W _ rfl;subst this;simp only[Z2] at V U J ⊢;generalize a8 (decide (256<cnt)) aj=ad at*;cases ak:bc 1 ao ad with
 |none=>
  rw[show a7 1 ao (σ ad)=ν from ak] at J;rw[J rfl];rfl
 |some aC=>
 obtain⟨aD,al⟩:=aC;rw[show a7 1 ao (σ ad)=σ (aD,al) from ak] at V U J;have:=V _ rfl;subst this;simp only[Z2] at U J ⊢;generalize a8 (decide (2147483648<k)) al=aE at*;cases am:cI (fC most) n.toNat [] aE with
 |none=>
  rw[J am];rfl
 |some aF=>
 obtain⟨aI,an⟩:=aF;obtain⟨I,aG⟩:=U _ am;subst aG;rw[I];simp only;show _=V6 _ (cI (λ_ s=>cX sizes s) cnt.toNat [] an);cases cI (λ_ s=>cX sizes s) cnt.toNat [] an<;>rfl
theorem K2 {f:bY} (I:eX N f) (X:N<=60000):∀x∈f.funs,su f.k x:=λx U=>by
 obtain⟨h1,V,Y⟩:=I.funs x U;refine⟨I.k,⟨?_,λz J=>?_⟩,h1.other,h1.lines,by have:=h1.len;omega,Ω⟩
 .rw[h1.sizes,u7];exact V
 .rw[h1.sizes] at J;obtain⟨v,W,rfl⟩:=o8.1 J;have:=h1.scope.2 v W;refine I.sizes.2.2 _ ?_;rw[u4,x6 Ω];exact R5 _
theorem K3 {p:x1} {pl:Λ} (ap:aB .u8 w p pl) (ba:Bytes pl) (b7:pl.length<=60000) (aF:dA w):aj x7 Fi [p] w (BV w (fS pl)):=by
 have bb:1<w.heap.size:=by
  have:=aF 0 (.int .u64 1) rfl;obtain⟨c,e,f,bc,_⟩:=uE this;exact (o9.1 bc).1
 have b8:ao=4611686018427387904:=rfl;refine aw func34 ?_;rw[aV cH.u ap,bM,ai];refine⟨λh=>Ω,λ_=>?_⟩;refine (zW ap ba Ω).mono ?_;rintro _ J _ ⟨aG,gs,rfl,b9,bd,aq⟩;rw[dc (cs:=#[Γ gs,Δ 0,Δ 0,Δ 0,Δ 0,Δ 0,.slice ν 0 0]) Ψ];refine bm λg V ca au aH=>?_;have cb:=aG.size;have cc:=au.size;have be:=aH.lt;have cd:gs<J.heap.size:=aq.2.2.2.1.lt;have ce:=py _ pl (p9 _);let s0:az:=⟨(lex pl).1,0,false,[]⟩;let B0:ah:=λr=>r<J.heap.size;have bh:c4 V g gs bo B0 s0 (lex pl).2:=by
  refine⟨⟨Ω,λh=>h,λh=>h,λr W=>?_,λr W=>by have W:r<J.heap.size:=W;omega⟩,⟨bd,pl,0,aq.ext au,λr W=>?_,by rw[List.drop_zero]⟩,⟨by show (0:Int)<=0;omega,by show (0:Int)<=ao;omega,by show (([]:List (Λ×List (Λ×Int))).length+(lex pl).1.length<=100000);simp;omega⟩,0,0,0,0,.slice ν 0 0,aH,⟨by simp[s0],λ_=>rfl⟩,gB (α:=io)⟩
  .rcases W with rfl|rfl|W
   .exact be
   .omega
   .exact W.elim
  .obtain⟨_,_,_,ak,bk,hm⟩:=aq;have ad:=bR hm W;have af:=b3 hm ak Φ W;exact⟨λab=>by
    rcases ab with ab|ab|ab
    .omega
    .exact af ab
    .exact ab,by show r<J.heap.size;omega⟩
 have av:∀r,bw g gs bo r->w.heap.size<=r:=λr W=>by
  rcases W with rfl|rfl|W
  .omega
  .omega
  .exact W.elim
 refine (AJ bh).mono ?_;rintro _ cg _ ⟨Y,name,ch,rfl,ci,cj,bi⟩;obtain⟨bj,bl⟩:=fD.of Y;rw[bf,bg,m9 cU.u,bM];refine (pY bl).mono ?_;rintro _ ck _ Y;obtain⟨bn,bp⟩:=Y.of;refine (lD (lo:=1) (hi:=ao) bp).mono ?_;rintro _ cl _ ⟨Y,n,cm,rfl,aI,bq⟩;obtain⟨br,bt⟩:=Y.of;rw[bf,bg,bM];refine (pY bt).mono ?_;rintro _ cn _ Y;obtain⟨bu,bx⟩:=Y.of;refine (lD (lo:=1) (hi:=ao) bx).mono ?_;rintro _ cp _ ⟨Y,most,cq,rfl,aJ,bz⟩;obtain⟨bA,bB⟩:=Y.of;rw[bf,bg];refine (lD (lo:=0) (hi:=ao) bB).mono ?_;rintro _ cr _ ⟨Y,cnt,ct,rfl,aK,bC⟩;obtain⟨bD,bE⟩:=Y.of;rw[bf,bg,bM];refine (pY bE).mono ?_;rintro _ cu _ Y;obtain⟨bF,bG⟩:=Y.of;refine (lD (lo:=1) (hi:=ao) bG).mono ?_;rintro _ cw _ ⟨Y,k,cz,rfl,hk,cA⟩;obtain⟨bH,bI⟩:=Y.of;rw[bf,bg,bM];refine (pY bI).mono ?_;rintro _ aL _ Y;obtain⟨bJ,ax⟩:=Y.of;have aM:ae (bw g gs bo) V aL:=(((((((bj.trans bn).trans br).trans bu).trans bA).trans bD).trans bF).trans bH).trans bJ;have ay:∀ {lo:Int} {o:Option az} {x:Int},0<=lo->lo<=1->(∀q,a7 lo ao o=σ q->x=q.1)->(a7 lo ao o=ν->x=0)->0<=x/\x<=ao:=λ{lo o x} cB h1 I bK=>by
  cases U:a7 lo ao o with
  |none=>rw[bK U];omega
  |some q=>
   have ad:=mf (n:=q.1) (s':=q.2) U;rw[I q U];omega
 have cC:=ay Ω Ω aI bq;have cD:=ay Ω Ω aK bC;have cE:=ay Ω Ω aJ bz;obtain⟨N,bL⟩:∃N:Nat,n=(N:Int):=⟨n.toNat,Ω⟩;obtain⟨C,bN⟩:∃C:Nat,cnt=(C:Int):=⟨cnt.toNat,Ω⟩;have bO:n.toNat=N:=Ω
 have bP:cnt.toNat=C:=Ω
 have bQ:dM s0:=λ_=>by show (0:Int)<=16384;omega
 have al:∀ {o:Option az} {b:Bool},(∀s,o=σ s->dM s)-> ∀s,o.map (a8 b)=σ s->dM s:=λh s I=>by
  obtain⟨t,aA,rfl⟩:=Y2.1 I;exact (h t aA).big
 have am:∀ {o:Option az} {lo hi:Int},(∀s,o=σ s->dM s)-> ∀s,(a7 lo hi o).map (·.2)=σ s->dM s:=λ{o lo hi} h s I=>by
  obtain⟨q,U,rfl⟩:=Y2.1 I;cases o with
  |none=>cases U
  |some t=>exact (h t rfl).num (n:=q.1) (s':=q.2) U
 have bS:∀s,(dJ s0).map (·.2)=σ s->dM s:=λs I=>by
  obtain⟨q,U,rfl⟩:=Y2.1 I;exact bQ.word (w:=q.1) (s':=q.2) U
 have aO:=al (b:=decide (2147483648<k)) (am (lo:=1) (hi:=ao) (al (b:=decide (256<cnt)) (am (lo:=0) (hi:=ao) (am (lo:=1) (hi:=ao) (al (b:=decide (64<n)) (am (lo:=1) (hi:=ao) (al (b:=decide (64<(name.length:Int))) bS)))))));have X:=λ(sizes:Λ) (so6:Option az)=>K1 (s0:=s0) (name:=name) (sizes:=sizes) (n:=n) (most:=most) (cnt:=cnt) (k:=k) (so6:=so6) bi aI aJ aK hk;rw[bO] at X;generalize cF:V6 (a8 (decide (2147483648<k))) (V6 (λx=>x.2) (a7 1 ao (V6 (a8 (decide (256<cnt))) (V6 (λx=>x.2) (a7 0 ao (V6 (λx=>x.2) (a7 1 ao (V6 (a8 (decide (64<n))) (V6 (λx=>x.2) (a7 1 ao (V6 (a8 (decide (64<(name.length:Int)))) (V6 (λx=>x.2) (dJ s0)))))))))))))=aP at aO ax X;rw[bL];refine KU (N:=N) (most:=most) ax Ω λszv aC sizes so6 gz bT aQ aR cG bU aS aT=>?_;have X:=X sizes so6 aS aT;rw[bP] at X;have aD:ae (bw g gs bo) V aC:=aM.trans bT;have z12:=aD.size;have aU:Ext w V:=aG.trans au;have bV:ae (λr=>w.heap.size<=r) w aC:=(aU.aa _).trans (aD.mono λr _ h=>av r h);have cI:=aQ.side;have aW:∀ag,so6=σ ag->dM ag/\(∀z∈sizes,1<=z/\z<=ao)/\sizes.length<=100000:=λag aE=>by
  cases U:fb (fC most) N [] aP with
  |none=>rw[aT U] at aE;cases aE
  |some q=>
   obtain⟨ad,af⟩:=aS q U;cases aE.symm.trans ad;subst af;cases aP with
   |none=>cases U
   |some bW=>
    obtain⟨bX,bZ,cJ⟩:=K0 (l:=q.1) (s':=q.2) (aO bW rfl) Ω U;exact⟨bX,bZ,by have:=ax.words;omega⟩
 rw[bN];have aX:∀r,leads szv r->aL.heap.size<=r/\r<aC.heap.size:=λr W=>by have:=bR aR W;omega
 have cK:=aM.size;refine KZ (w0:=w) (c:=C) (all:=sizes) aQ.q (λs I=>(aW s I).1) Ω aR.ls (λr W=>?_) (λan=>?_) bU ((aF.ext aU).aa aD λab=>by have:=av 1 ab;omega) ⟨bb,λ_=>⟨λab=>by have:=av 1 ab;omega,by show 1<J.heap.size;omega⟩⟩
  bV Ω Ω ⟨Ω,Ω⟩ (λ_ r h=>h.elim) λcL cM acc so aN cN cO cP aY cQ b0 b1 b2 b4 aZ b5=>?_
 .have:=aX r W;exact⟨Ω,Ω,Ω,λ_ h=>h⟩
 .cases a1:so6 with
  |none=>exact absurd a1 an
  |some ag=>exact (aW ag a1).2.1
 have cR:=aY.size;have ac:fS pl=match hr s0 with
   |none=>ν
   |some (f,s)=>if s.toks=[]/\(lex pl).2=true/\s.big=false then σ f else ν:=by
  unfold fS;rw[if_neg Ω];have e:hr ⟨(lex pl).1,0,false,[]⟩=hr s0:=rfl;rw[e];cases hr s0<;>rfl
 refine KT (w0:=w) (sizes:=sizes) (res:=fS pl) b0 ⟨λs I aA b6 ak=>?_,λan=>?_⟩ b4 (λr W=>by have:=aX r W;exact⟨Ω,Ω⟩) b1 b2 (λ_=>trivial) Ω Ω aY Ω Ω ap λv w' h=>h
 .cases U:fb (λ_ s=>cX sizes s) C [] so6 with
  |none=>rw[b5 U] at I;cases I
  |some q=>
   obtain⟨ad,af⟩:=aZ q U;cases I.symm.trans ad;rw[U] at X;have X:hr s0=σ ((⟨name,k,sizes,q.1⟩:bY),q.2):=X;have a2:=(AG rfl X ak).1;rw[X] at ac;simp only at ac;rw[if_pos ⟨aA,b6,ak⟩] at ac;exact⟨q.1,af,ac,K2 a2 (by show (lex pl).1.length<=60000;omega),a2.kM,Ω⟩
 .cases U:fb (λ_ s=>cX sizes s) C [] so6 with
  |none=>
   rw[U] at X;have X:hr s0=ν:=X;rw[X] at ac;exact absurd ac an
  |some q=>
   obtain⟨ad,af⟩:=aZ q U;rw[U] at X;have X:hr s0=σ ((⟨name,k,sizes,q.1⟩:bY),q.2):=X;rw[X] at ac;simp only at ac;by_cases a6:q.2.toks=[]/\(lex pl).2=true/\q.2.big=false
   .exact⟨q.2,ad,a6⟩
   .rw[if_neg a6] at ac;exact absurd ac an
theorem vK (s t cs:Λ):∃e,oh s t cs= .tuple #[Δ (bl s cs t),Δ e]:=by
 unfold oh bl;cases cC s t 0 with
 |none=>exact⟨3,rfl⟩
 |some n=>exact⟨0,rfl⟩
theorem K4:aj x7 y0 [sv] w λr w'=>Ext w w'/\ ∃g,r= .func (.func n1) #[] #[Γ g]/\w.heap.size<=g/\ac w' g am sv.cells.toList:=by
 refine aw func195 ?_;refine bm λg J V I U=>?_;rw[lZ];exact⟨I,g,rfl,Ω,U⟩
theorem K5 {f:S6} {cap:Array x1} {af:Nat->List x1->x3->Prop} {I:x3->Prop} {L:Λ} (aw:nU x7 f cap.toList n af I) (ah:∀k vs w,af k vs w-> ∃x,L[k]? =σ x/\vs=[Δ x])
  (hI:∀a b,ae (λr=>w.heap.size<=r) a b->I a->I b) (ax:I w) (ay:n=L.length) (aO:L.length<=1000000):
  aj x7 F4 [.slice ν 0 0,.func (.func f) #[] cap] w λv w'=>Ext w w'/\ ∃g,w.heap.size<=g/\ap .i64 ag w' g v L:=by
 refine ie func111 ?_;refine bm λgs J aP ai W=>?_;have W:ac J gs am [.slice ν 0 0]:=W;have aQ:=W.lt;have ak:∀ {a b:x3},Ext a b->I a->I b:=λU=>hI _ _ (U.aa _);refine lS.old ⟨Nat,false,f,cap,0,_,_,I,λk w'=>ae (λr=>w.heap.size<=r) w w'/\ ∃v g,gs<g/\ac w' gs am [v]/\ap .i64 ag w' g v (L.take k),λ_ _ _=>False,rfl,aw.s,?_,λ_ _ U h=>ak U h,
  λ_ _ _ U h=>⟨h.1.trans (U.aa _),by obtain⟨v,g,h1,az,aB⟩:=h.2;exact⟨v,g,h1,az.ext U,aB.ext U⟩⟩,λ_ _ _ _ _ h=>h,ak ai ax,⟨ai.aa _,_,gs+1,Ω,W,ap.nil _ _ _ _⟩,?_,?_,λ_ _ h=>h.elim,λ_ _ _ h=>h.elim⟩
 .rintro k vs aR w' ⟨_,_,h⟩;obtain⟨x,_,rfl⟩:=ah k vs w' h;rfl
 .rintro a k _ V haC ⟨hk,rfl,aD⟩ ⟨aE,v,g,aF,al,X⟩;obtain⟨x,U,aG⟩:=ah k _ V aD;cases aG;intro aS Y _ _;have an:=al.ext Y;rw[aA Ψ (an.Qz rfl)];refine en am.u ag.i rfl λa ga aT aU ab aH=>?_;have aV:(L.take k).length<=1000000:=Θ
  refine iQ am.u ag.i rfl ((X.ext Y).ext ab) aH.ls (by simp only[b9,List.length_nil];omega) (by simp only[b9,List.length_nil];omega) λaI aJ aW aX ad ao=>?_;have aY:=al.lt;have aZ:=Y.size;have a1:=ab.size;refine bz am.i ad.ls.cells.1 ad.ls.cells.2 (((an.ext ab).aa ao Ω)) Ξ λaK aq a2 aL=>?_;have au:ae (λr=>w.heap.size<=r) V aK:=(((Y.trans ab).aa _).trans (ao.mono λr _ h=>by show w.heap.size<=r;omega)).trans (aq.mono λr _ h=>by show w.heap.size<=r;omega);refine⟨hI _ _ au haC,⟨aE.trans au,aI,aJ,Ω,aL,?_⟩,λh=>by cases h⟩;rw[r8,U];exact ad.aa aq (λ_=>Ω)
 .rintro k a6 hk ⟨aM,v,g,aF,aN,X⟩;have hk:k=n:=hk;subst hk;rw[aA Ψ (aN.Qz rfl)];intro a7 av _;rw[ay,o6] at X;exact⟨(aM.ext λr a8 h=>by have:w.heap.size<=r:=h;omega).trans av,g,Ω,X.ext av⟩
theorem BX {f:S6} {cap:Array x1} {J:Nat->List x1->x3->Prop} {I:x3->Prop} {L:Λ} (U:nU x7 f cap.toList n J I) (V:∀k vs w,J k vs w-> ∃x,L[k]? =σ x/\vs=[Δ x])
  (hI:∀a b,ae (λr=>w.heap.size<=r) a b->I a->I b) (W:I w) (X:n=L.length) (Y:L.length<=1000000):
  aj x7 Fp [.func (.func f) #[] cap] w λv w'=>Ext w w'/\ ∃g,w.heap.size<=g/\ap .i64 ag w' g v L:=by
 refine aw func43 ?_;exact (K5 U V hI W X Y).mono λ_ _ _ h=>h
theorem K6 {x:Int}:aj x7 cmp_Less_int [Δ x,Δ y] w λv w'=>v= .bool (decide (x<y))/\Ext w w':=by
 refine aw func271 ?_;refine aR (λv J=>v= .bool (decide (x<y))/\Ext w J) (λ_ _ h=>h) λav I=>?_;have U:∀ {z:Int} {w:x3},aj x7 cmp_isNaN_int [Δ z] w λv w'=>v= .bool false/\Ext w w':=λ{z w}=>by
  refine aw func207 ?_;simp only[bh];exact⟨Ξ,Ext.refl _⟩
 refine U.mono ?_;rintro _ V _ ⟨rfl,W⟩;rw[aS];simp only[aP];exact I _ _ ⟨rfl,W⟩
theorem K7 {P:W0} {t:r9} {cx cy:Bool} {k:o4} {a b:Int}:ct P (aE .sub t cx cy (.int k a) (.int k b)) (.int k (k.wrap (a-b))) w:=λw' _=>by simp[aE,eqGuard,binOp,Op.intArith]
theorem K8 {g:Nat} (h:ap .i64 ag w g sv l) (aN:l.length<=1000000):
  aj x7 HF [sv,Δ 0,Δ l.length] w λ_ w'=>ae (λr=>r=g) w w'/\ ∃m,m.Perm l/\m.Pairwise (·<= ·)/\ap .i64 ag w' g sv m:=by
 refine aw func265 ?_;simp only[aL];refine⟨λt J=>∃ (i:Nat) (m:Λ),t=Δ i/\1<=i/\(i<=l.length\/i=1)/\m.Perm l/\pJ m i/\ae (λr=>r=g) w J/\ap .i64 ag J g sv m,λt _=>l.length+1-(bV t).toNat,
  ⟨1,l,by congr 1,Ω,.inr rfl,.refl _,λp q x y h1 ay=>Ω,ae.refl _ _,h⟩,?_⟩
 rintro _ J ⟨i,m,rfl,aO,aQ,W,ah,ak,hm⟩;have az:=W.length_eq;simp only[aP,ai];refine⟨λaA=>?_,λaS=>?_⟩
 .have aA:i<l.length:=Ω
  refine⟨λt V=>∃ (j:Nat) (m:Λ),t=Δ j/\j<=i/\m.Perm l/\ow m i j/\ae (λr=>r=g) w V/\ap .i64 ag V g sv m,λt _=>(bV t).toNat,⟨i,m,rfl,p9 _,W,IU ah,ak,hm⟩,?_⟩;rintro _ V ⟨j,m,rfl,aB,W,ac,al,hm⟩;have az:=W.length_eq;refine aR (λv an=>Ext V an/\ ∃c,v= .bool c/\(c=true->0<j/\ ∃a b,m[j-1]? =σ a/\m[j]? =σ b/\b<a)/\(c=false->j=0\/0<j/\ ∃a b,m[j-1]? =σ a/\m[j]? =σ b/\a<=b)) ?_ ?_
  .rintro _ an ⟨Y,c,rfl,aC,aD⟩;rw[cz];refine⟨λh=>?_,λh=>?_⟩
   .obtain⟨X,a,b,I,U,ad⟩:=aC h;intro aT ao _ _;have ab:=(hm.ext Y).ext ao;have e:Y9.wrap ((j:Int)-1)=((j-1:Nat):Int):=by rw[wrap_i64 Ω Ω];omega
    simp only[dP,e];rw[ba am.u ag.i Ψ ab.ls I,ba am.u ag.i Ψ ab.ls U,hs rfl am.u ag.i ab Ω];refine ht ag.i ab Ω λaE aG aU aq=>⟨.inr ⟨by have:=K7 (P:=x7) (w:=aE) (t:=ag) (cx:=false) (cy:=true) (k:=.i64) (a:=(j:Int)) (b:=1);rwa [e] at this,trivial⟩,?_⟩;rw[hs rfl am.u ag.i aq Θ];refine ht ag.i aq Θ λaV aH aW aI=>?_;refine⟨⟨j-1,_,rfl,Ω,(swap_perm Ω I U).trans W,IX ac X aB I U ad,((al.trans ((Y.trans ao).aa _)).trans aG).trans aH,aI⟩,?_⟩;simp only[bV];omega
   .simp only[aL];rw[wrap_i64 Ω Ω];refine⟨⟨i+1,m,rfl,Ω,.inl Ω,W,?_,al.trans (Y.aa _),hm.ext Y⟩,?_⟩
    .rcases aD h with rfl|⟨X,a,b,I,U,ad⟩
     .exact IV ac
     .exact IW ac X I U ad
    .simp only[bV];omega
  .intro av au aX af _ _;have ax:=hm.ext af;simp only[bM,ai];refine⟨λX=>?_,λX=>au _ _ ⟨af,false,rfl,(λh=>by cases h),λ_=>.inl Ω⟩⟩;have e:Y9.wrap ((j:Int)-1)=((j-1:Nat):Int):=by rw[wrap_i64 Ω Ω];omega
   obtain⟨b,U⟩:=aF (l:=m) (i:=j) Ω;obtain⟨a,I⟩:=aF (l:=m) (i:=j-1) Ω;rw[ba am.u ag.i Ψ ax.ls U];simp only[dP,e];rw[ba am.u ag.i Ψ ax.ls I];refine K6.mono ?_;rintro _ aY _ ⟨rfl,aJ⟩;refine au _ _ ⟨af.trans aJ,_,rfl,λh=>⟨Ω,a,b,I,U,by simpa using h⟩,λh=>.inr ⟨Ω,a,b,I,U,by simpa using h⟩⟩
 .refine⟨ak,m,W,IY λp q x y h1 ay aK aM=>ah p q x y h1 Ω aK aM,hm⟩
theorem K9 {P:W0} {t:r9} {k:o4} {s:ByteArray} {i:Nat} {K:x1->Prop} (I:P.underlying t=σ .string) (hi:i<s.size) (J:∀b:Nat,b<256->K (.int .u8 b)):
  U P (Instr.index t (.string s) (.int k (i:Int))) w K:=by
 have V:s[i]? =σ s[i]:=by simp[hi]
 have:U P (Instr.index t (.string s) (.int k (i:Int))) w K=K (.int .u8 s[i].toNat):=U.of λw' _=>by
  simp[Instr.index,asIntOf,run_underlying I,hi]
 rw[this];exact J _ (UInt8.toNat_lt _)
theorem La (I:n<256):aj x7 Hc [.int .u64 (n:Int)] w λv w'=>(∃r,v=Δ r)/\Ext w w':=by
 refine aw func206 ?_;refine aj.mono (K:=λv w'=>(∃r,v=Δ r)/\Ext w w') ?_ (λ_ _ _ h=>h);refine aw func239 ?_;simp only[cg,cK,ai];refine⟨λh=>Ω,λ_=>⟨λh=>Ω,λ_=>⟨λh=>Ω,λ_=>?_⟩⟩⟩;rw[e7 fi.u cE.u,wrap_u8 Ω Ω];refine K9 cU.u (by exact R3 I Φ) λb J=>?_;rw[e7 cE.u ag.u];simp only[aL];exact⟨⟨_,rfl⟩,Ext.refl _⟩
theorem Lb {g:Nat} (h:ap .i64 ag w g sv l) (U:l.length<=12):
  aj x7 Hn [sv] w λ_ w'=>ae (λr=>r=g) w w'/\ ∃m,m.Perm l/\m.Pairwise (·<= ·)/\ap .i64 ag w' g sv m:=by
 refine aw func225 ?_;rw[aV am.u h.ls,e7 ag.u n4.u,wrap_u64 Ω Ω];refine (La (n:=l.length) Ω).mono ?_;rintro _ J _ ⟨⟨r,rfl⟩,I⟩;refine aj.mono (K:=λ_ w'=>ae (λr=>r=g) J w'/\ ∃m,m.Perm l/\m.Pairwise (·<= ·)/\ap .i64 ag w' g sv m) ?_ (λ_ _ _ h=>⟨(I.aa _).trans h.1,h.2⟩);refine aw func250 ?_;refine⟨λa b _ _ _ V=>a=Δ 0/\b=Δ l.length/\J=V,λ_ _ _ _ _ _=>0,⟨rfl,rfl,rfl⟩,?_⟩;rintro _ _ _ _ _ _ ⟨rfl,rfl,rfl⟩;simp only[dP,lr,ai];rw[wrap_i64 Ω Ω];refine⟨λ_=>?_,λh=>Ω⟩;refine (K8 (h.ext I) Ω).mono ?_;exact λ_ _ _ h=>h
theorem Lc {f:S6} {cap:Array x1} {U:Nat->List x1->x3->Prop} {I:x3->Prop} {L:Λ} (W:nU x7 f cap.toList n U I) (X:∀k vs w,U k vs w-> ∃x,L[k]? =σ x/\vs=[Δ x])
  (hI:∀a b,ae (λr=>w.heap.size<=r) a b->I a->I b) (Y:I w) (aa:n=L.length) (ab:L.length<=12):
  aj x7 yZ [.func (.func f) #[] cap] w λv w'=>Ext w w'/\ ∃g m,w.heap.size<=g/\m.Perm L/\m.Pairwise (·<= ·)/\ap .i64 ag w' g v m:=by
 refine aw func194 ?_;refine (BX W X hI Y aa Ω).mono ?_;rintro v J _ ⟨ac,g,ad,af⟩;refine (Lb af ab).mono ?_;rintro _ V _ ⟨ah,m,h1,ai,ak⟩;exact⟨ac.then ah (by rintro r al rfl;omega),g,m,ad,h1,ai,ak⟩
theorem BY {x:Int} (h:aB .i64 w sv l):
  aj x7 y1 [sv,Δ x] w λv w'=>Ext w w'/\ ∃r:Int,v=Δ r/\ ∀i:Nat,l[i]? =σ x->(r=i↔ ∀j,j<i->l[j]? ≠σ x):=by
 refine aw func196 ?_;rw[aV am.u h];refine bU.range l.length (λi _ J=>Ext w J/\ ∀j,j<i->l[j]? ≠σ x) h.le ⟨Ext.refl _,λj W=>Ω⟩ ?_ ?_
 .rintro i _ J k hi ⟨I,U⟩ hk;simp only[aP,ai];refine⟨λ_=>?_,λh=>Ω⟩;obtain⟨y,V⟩:=aF (l:=l) hi;rw[ba am.u ag.i Ψ (h.ext I) V];simp only[be,ai,aL];refine⟨λhe=>⟨I,i,rfl,λq X=>?_⟩,λhe=>hk _ _ ⟨I,λj W=>?_⟩⟩
  .subst he;refine⟨λab=>by
              have:i=q:=Ω
              subst this;exact U,λY=>?_⟩
   rcases Nat.lt_trichotomy i q with h1|h1|h1
   .exact absurd V (Y i h1)
   .omega
   .exact absurd X (U q h1)
  .by_cases aa:j=i
   .subst aa;rw[V];intro h;exact he (c9 h).symm
   .exact U j Ω
 .rintro _ J k ⟨I,U⟩;simp only[aP,ai];refine⟨λh=>Ω,λ_=>⟨I,-1,rfl,λi hi=>?_⟩⟩;exact absurd hi (U i (x4.1 hi).1)
theorem Ld {g:Nat} {w0:x3} (X:ac w0 g am [sv]) (J:aB .i64 w0 sv l):
  nU x7 n1 [Γ g] l.length (λk vs _=>∃x,l[k]? =σ x/\vs=[Δ x]) (λw=>Ext w0 w):=by
 refine⟨n1.enters,λy av af w ah _ Y I aa=>?_⟩;refine pt func226 ?_;rw[aA Ψ ((X.ext I).Qz rfl),aV am.u (J.ext I)];refine ce.range l.length (λi V=>av i V/\Ext w0 V) J.le ⟨aa,I⟩ ?_ ?_
 .rintro i V k hi ⟨U,W⟩ hk;simp only[aP,ai];refine⟨λ_=>?_,λh=>Ω⟩;obtain⟨x,I⟩:=aF (l:=l) hi;rw[ba am.u ag.i Ψ (J.ext W) I];refine⟨rfl,(Y i _ V hi W ⟨x,I,rfl⟩ U).mono ?_⟩;rintro _ aj (⟨rfl,ab,ad⟩|⟨rfl,ae⟩)
  .simp only[bu,Z8,aS,aL];exact hk _ ⟨ad.1,ab⟩
  .simp only[bu,X3,bA];exact .inr ⟨i,hi,ae⟩
 .rintro V k ⟨U,_⟩;simp only[aP,ai];exact⟨λh=>Ω,λ_=>.inl U⟩
theorem vL (h:aB .i64 w sv l) (W:l.length<=12)
  (X:∀v w' g m,Ext w w'->w.heap.size<=g->m.Perm l->m.Pairwise (·<= ·)->ap .i64 ag w' g v m->K v w'):
  aj x7 y0 [sv] w λt J=>aj x7 yZ [t] J K:=by
 refine K4.mono ?_;rintro _ J _ ⟨U,g,rfl,ah,I⟩;have I:ac J g am [sv]:=by rw[h.cells.1] at I;exact I
 refine (Lc (Ld I (h.ext U)) (λ_ _ _ h=>h) (λa b Y aa=>aa.then Y (λr ai h=>Ω)) (Ext.refl _) rfl W).mono ?_;rintro v V _ ⟨ab,ad,m,ak,h1,ae,af⟩;have:=U.size;exact X v V ad m (U.trans ab) Ω h1 ae af
def Le (w:x3) (af:Λ) (k:Int) (cs I:Λ) (v:x1) (w':x3):Prop:=
 Ext w w'/\
  (¬Good I af.length->v= .tuple #[.pointer ν,Δ 1])/\
  (Good I af.length-> ∃J U V,v= .tuple #[Γ J,Δ 0]/\c0 w' J U V (ef af I) k (nf af cs I))
theorem Lf {g b1:Nat} {aE:x1} {cs I:Λ} (h:c0 w g b1 sv af k cs) (hk:right k) (aw:aB .i64 w aE I) (cJ:I.length<=12) (cK:Good I af.length->aG (ef af I)<=4096):
  aj x7 G5 [Γ g,aE] w (Le w af k cs I):=by
 have a2:=h;have cL:=h.2.2.1;have cN:=aw.cells;refine ie func197 ?_;refine bm λg1 J dv b2 X=>?_;refine bm λb3 V dw bw U=>?_;have dx:=b2.size;have dy:=bw.size;have dz:=X.lt;have dA:=U.lt;have bx:=b2.trans bw;have X:ac V g1 eH [Γ g]:=X.ext bw;have U:ac V b3 am [aE]:=by rw[cN.1] at U;exact U
 rw[aA Ψ (X.Qz rfl),cV eH.u];simp only[Z3,aS];rw[aA Ψ (U.Qz rfl)];have cO:=aw.ext bx;have sub:∀ {w:x3} {g:Nat} {sv:x1} {k:Int} {aW:x1},ac w g cR [sv,Δ k,aW]->w.rangeAt g (0+0) [sv]:=λan=>m7 an (by
  intro j v bA
  match j,bA with
  |0,bA=>exact bA)
 refine vL cO cJ λdB cP c3 m b4 dC bB cQ hm=>?_;have cS:=bB.length_eq;rw[aV am.u hm.ls];have cT:=bx.trans b4;refine nR.range m.length (λi _ _ bC=>Ext cP bC/\ ∀j,j<i->m[j]? =σ (j:Int)) Ω ⟨Ext.refl _,λj bD=>Ω⟩ ?_ ?_
 .rintro i _ _ bC aH hi ⟨aJ,bE⟩ aK;simp only[aP,ai];refine⟨λ_=>?_,λh=>Ω⟩;obtain⟨y,aN⟩:=aF (l:=m) hi;rw[ba am.u ag.i Ψ (hm.ls.ext aJ) aN];simp only[bh,ai,aL];refine⟨λaO dD cU _=>⟨(cT.trans aJ).trans cU,λ_=>rfl,λbF=>?_⟩,λhe=>aK _ _ _ ⟨aJ,λj bD=>?_⟩⟩
  .have:=Ao bF bB cQ i hi;rw[aN] at this;exact absurd (c9 this).symm aO
  .by_cases cW:j=i
   .subst cW;rw[aN];congr 1;omega
   .exact bE j Ω
 .rintro _ _ bC aH ⟨aJ,bE⟩;simp only[aP,ai,eh];refine⟨λh=>Ω,λ_ dE cX _ _=>?_⟩;have Y:Good I m.length:=IZ bE bB;have aQ:=(b4.trans aJ).trans cX;have a6:=bx.trans aQ;have X:=X.ext aQ;have U:=U.ext aQ;have cY:=aw.ext a6;have cZ:=a2.ext a6;have dF:=aQ.size;obtain⟨⟨aW,gs,an,a7,b5⟩,_⟩:=id cZ;rw[aA Ψ (U.Qz rfl),aV am.u cY,aA Ψ (X.Qz rfl),bQ,aT cR.p rfl,bI (cs:=[sv]) bt.p bt.i rfl (sub an)];refine (AP a7.ls).mono ?_;rintro _ a8 _ ⟨rfl,ao⟩;refine⟨.inl ao,?_⟩;simp only[bh,ai];refine⟨λaO dG c1 _=>⟨(a6.trans ao).trans c1,λ_=>rfl,λbF=>absurd (by rw[bF.1]) aO⟩,λdH=>?_⟩;have bG:I.length=af.length:=Ω
  have Y:Good I af.length:=by rw[<-bG,<-cS];exact Y
  have dI:=aQ.trans ao;have bH:=a6.trans ao;have X:=X.ext ao;have U:=U.ext ao;have b6:=aw.ext bH;rw[aA Ψ (U.Qz rfl),aV am.u b6];refine iR am.u ag.i Ω Ω λgz b7 dJ ax b8=>?_;have c2:ap .i64 ag b7 gz (.slice (σ ⟨gz,0,ν⟩) I.length I.length) (p8 I.length 0):=ap.of (n:=I.length) (bT.full b8 Ξ (by simp[maxLen];omega));generalize (x1.slice (σ ⟨gz,0,ν⟩) I.length I.length)=c4 at*;have dK:=ao.size;have dL:=ax.size;have dM:=b8.lt;rw[aA Ψ ((U.ext ax).Qz rfl),aV am.u (b6.ext ax)];have b9:=bH.trans ax;have bb:(ef af I).length=I.length:=rS _ _;refine ce.range I.length (λi ad=>ae (λr=>r=gz) b7 ad/\ap .i64 ag ad gz c4 (upto (ef af I) 0 i)) Ω ⟨ae.refl _ _,by rw[ot,bb];exact c2⟩ ?_ ?_
  .rintro i ad aH hi ⟨au,bc⟩ aK;simp only[aP,ai];refine⟨λ_=>?_,λh=>Ω⟩;have aR:Ext w ad:=b9.then au (by rintro r av rfl;omega);have bd:Ext a8 ad:=ax.then au (by rintro r av rfl;omega);obtain⟨p,bJ⟩:=aF (l:=I) hi;obtain⟨⟨aW,gs,an,a7,b5⟩,_⟩:=a2.ext aR;rw[ba am.u ag.i Ψ (aw.ext aR) bJ,aA Ψ ((X.ext bd).Qz rfl),bQ,aT cR.p rfl,bI (cs:=[sv]) bt.p bt.i rfl (sub an)];refine (pO a7.ls).mono ?_;rintro _ dN _ ⟨rfl,ca⟩;have cb:=bc.ext ca;have c5:(upto (ef af I) 0 i).length=I.length:=by rw[nc,bb]
   rw[hs rfl am.u ag.i cb Ω];refine ht ag.i cb Ω λdO c6 _ cc=>?_;simp only[aL];have h1:=(Y.2 i p bJ).1;have aU:(ef af I)[i]? =σ (hz af p):=by
    unfold ef hz;rw[x8,bJ,if_pos h1.1];rfl
   rw[ov aU] at cc;exact aK _ ⟨(au.trans (ca.aa _)).trans c6,cc⟩
  .rintro ad aH ⟨au,bc⟩;simp only[aP,ai];refine⟨λh=>Ω,λ_=>?_⟩;have aR:Ext w ad:=b9.then au (by rintro r av rfl;omega);have bd:Ext a8 ad:=ax.then au (by rintro r av rfl;omega);rw[<-bb,ou] at bc;obtain⟨⟨aW,gs,an,a7,b5⟩,_⟩:=a2.ext aR;rw[aA Ψ ((X.ext bd).Qz rfl),aM cR.p 1 an rfl];have be:bX (ef af I):=cL.I1 Y rfl;have cd:=cK Y;have dP:=prod_bound be;refine (uO bc.ls).mono ?_;rintro _ bK _ ⟨cg,_,_,_,c8⟩;obtain⟨aX,ah,ay,rfl,dQ,dR,dS,bi⟩:=c8 be cd ⟨hk,Ω,by have:=hk.1;omega⟩;obtain⟨N,bj⟩:∃N:Nat,(aG (ef af I)).toNat=N:=⟨_,rfl⟩;rw[bj] at bi;rw[bf,bg];refine bN eH.i λch dT dU ci aY=>?_;refine bz eH.i rfl rfl aY (by simp[x1.cells]) λda db dV aY=>?_;have dW:=au.size;have dX:=cg.size;have dY:=ci.size;have bL:Ext bK da:=ci.then db (by rintro r av rfl;omega);have cj:=cg.trans bL;have dc:=bi.ext bL;have dZ:=aY.lt;obtain⟨⟨bM,ck,cl,cm,dd⟩,⟨cn,cp,_⟩,_,ea⟩:=id dc;have eb:0<N:=Ω
   have ec:aX<bK.heap.size:=by obtain⟨⟨_,_,q,_⟩,_⟩:=id bi;exact q.lt
   have ed:ah<bK.heap.size:=by obtain⟨⟨_,_,_,_,q⟩,_⟩:=id bi;exact sq q Θ
   rw[aA Ψ (aY.Qz rfl),bQ,aT cR.p rfl,bI (cs:=[ay]) bt.p bt.i rfl (sub cl)];refine vp.mono ?_;rintro _ ab _ ⟨ak,bk,rfl,ee,cq⟩;have eg:=bL.size;have ei:=ak.size;let S:Nat->Prop:=λr=>r=ah;let az:=nf af cs I;have bO:az.length=N:=by simp only[az];rw[Av,bj]
   let de:x3->Prop:=λw'=>ac w' g1 eH [Γ g]/\ac w' b3 am [aE]/\ac w' ch eH [Γ aX]/\ac w' aX cR [ay,Δ k,bM]/\
    c0 w' g b1 sv af k cs/\aB .i64 w' aE I/\ap .i64 ag w' ck ay (ef af I)/\ac w' bk bt [ay]/\ab.heap.size<=w'.heap.size
   have aC:∀ {a:x3},ae S ab a->de a:=by
    intro a W;have bP:Ext a8 ab:=(bd.trans cj).trans ak;have bR:Ext a8 a:=bP.put W Ω;have cr:Ext w a:=bH.trans bR;refine⟨X.ext bR,U.ext bR,(aY.ext ak).aa W (by show ¬(ch=ah);omega),(cl.ext ak).aa W (by show ¬(aX=ah);exact cn),a2.ext cr,aw.ext cr,bn (cm.ext ak) W (λr av he=>cp ((show r=ah from he)▸av)),
     cq.aa W (by show ¬(bk=ah);omega),W.size⟩
   have ct:=vo (g:=bk) (B0:=ab.heap.size) (sv:=ay) be;rw[bj] at ct;refine nV.old ⟨Nat,false,lj,#[Γ bk],0,_,_,_,λq w'=>ae S ab w'/\ap .i64 al w' ah bM (upto az 0 q),λ_ _ _=>False,rfl,ct.s,
    ?_,λ_ _ W h=>⟨h.1.ext W,h.2.1.ext W,Y7 h.2.2 W.size⟩,λ_ _ _ W h=>⟨h.1.trans (W.aa S),h.2.ext W⟩,λ_ _ _ _ _ h=>h,⟨cq,(cm.ext ak).ls,p9 _⟩,⟨ae.refl _ _,?_⟩,?_,?_,λ_ _ h=>h.elim,λ_ _ _ h=>h.elim⟩
   .rintro _ _ _ _ ⟨_,_,_,_,rfl,_⟩;rfl
   .rw[ot,bO];exact dd.ext ak
   .rintro _ aI q _ ej ⟨_,_,ek⟩ ⟨aU,rfl,em,gt,df,en,dg⟩ ⟨bo,dh⟩;cases df;let x:=cM (ef af I) (q:Int);have cu:x.length=I.length:=by simp only[x];rw[iT,bb]
    intro di aD _ _;have cw:=dg.ext aD;rw[aV am.u cw.ls];refine iR am.u ag.i (by rw[iT];omega) (by rw[iT];omega) λgo cz eo bS cA=>?_;have dj:ap .i64 ag cz go (.slice (σ ⟨go,0,ν⟩) (cM (ef af I) (q:Int)).length (cM (ef af I) (q:Int)).length) (p8 (cM (ef af I) (q:Int)).length 0):=ap.of (n:=(cM (ef af I) (q:Int)).length) (bT.full cA Ξ (by rw[iT];simp[maxLen];omega));generalize (x1.slice (σ ⟨go,0,ν⟩) (cM (ef af I) (q:Int)).length (cM (ef af I) (q:Int)).length)=dk at*;have ep:=bo.size;have er:=aD.size;have es:=bS.size;have lo:=cA.lt;have dl:ae S ab cz:=bo.trans ((aD.trans bS).aa S);have f:=aC dl;rw[aA Ψ (f.2.1.Qz rfl),aV am.u f.2.2.2.2.2.1];refine ce.range I.length (λj bp=>Ext di bp/\ ∃y:Λ,y.length=I.length/\ap .i64 ag bp go dk y/\ ∀ (i:Nat) (p:Int),i<j->I[i]? =σ p->y[p.toNat]? =x[i]?) Ω
     ⟨bS,_,by simp[cu,x],dj,λi p hi=>Ω⟩ ?_ ?_
    .rintro j bp aH bD ⟨aZ,y,bU,bq,bV⟩ aK;simp only[aP,ai];refine⟨λ_=>?_,λh=>Ω⟩;have f:=aC (bo.trans ((aD.trans aZ).aa S));obtain⟨p,br⟩:=aF (l:=I) bD;obtain⟨u,hu⟩:=aF (l:=x) (i:=j) Ω;have et:=(Y.2 j p br).1;rw[ba am.u ag.i Ψ f.2.2.2.2.2.1 br,ba am.u ag.i Ψ (cw.ext aZ).ls hu,hs (i:=p.toNat) Ω am.u ag.i bq Ω];refine ht ag.i bq Ω λeu dm ev dn=>?_;simp only[aL];refine aK _ ⟨aZ.then dm (by rintro r av rfl;omega),_,by simpa using bU,dn,λi bu hi a1=>?_⟩;by_cases cB:i=j
     .subst cB;rw[br] at a1;cases a1;rw[c7 Ω,hu]
     .have ew:=(Y.2 i bu a1).1;have aO:p.toNat≠bu.toNat:=λhe=>by
       have:p=bu:=Ω
       subst this;exact cB (Y.inj a1 br)
      rw[Y5 aO];exact bV i bu Ω a1
    .rintro bp aH ⟨aZ,y,bU,bq,bV⟩;simp only[aP,ai];refine⟨λh=>Ω,λ_ dp cC _ _=>?_⟩;have aN:y=lC I x:=As Y (by rw[cu,bG]) (by rw[bU,bG]) λi p cD=>bV i p (x4.1 cD).1 cD;have cE:=aZ.trans cC;have cF:ae S ab dp:=bo.trans ((aD.trans cE).aa S);obtain⟨f1,f2,f3,f4,f5,f6,f7,f8,f9⟩:=aC cF;rw[aA Ψ (f3.Qz rfl),aM cR.p 2 f4 rfl,aA Ψ (f1.Qz rfl)];refine (uP f5 (bq.ls.ext cC)).mono ?_;rintro _ ey _ ⟨rfl,bW⟩;refine⟨.inl bW,?_⟩;obtain⟨e,he⟩:=vK af y cs;rw[he,bf,bg];have dq:=cF.trans (bW.aa S);have cG:=(dh.ext ((aD.trans cE).trans bW));have c5:(upto az 0 q).length=N:=by rw[nc,bO]
     rw[hs rfl aq.u al.i cG Ω];refine ht al.i cG Ω λdr ds ez cH=>?_;have cI:ae S ab dr:=dq.trans (ds.mono λr _ h=>h);obtain⟨f1,f2,f3,f4,f5,f6,f7,f8,f9⟩:=aC cI;have dt:az[q]? =σ (bl af cs y):=by
      simp only[az,nf];rw[x8,List.getElem?_range (by rw[bj];exact aU),aN];rfl
     rw[ov dt] at cH;exact⟨⟨f8,f7.ls,f9⟩,⟨cI,cH⟩,λh=>by cases h⟩
   .rintro q eA aU ⟨bY,bZ⟩;rw[show q=N from aU] at bZ;have f:=aC bY;rw[aA Ψ (f.2.2.1.Qz rfl)];intro eB b0 _;obtain⟨f1,f2,f3,f4,f5,f6,f7,f8,f9⟩:=aC (bY.trans (b0.aa S));rw[<-bO,ou] at bZ;have bP:Ext w ab:=(aR.trans cj).trans ak;refine⟨(bP.put bY Ω).trans b0,λdu=>absurd Y du,λ_=>⟨aX,ah,ay,rfl,⟨bM,ck,f4,f7,bZ.ext b0⟩,⟨cn,cp,cd⟩,be,Av _ _ _⟩⟩
def gF (l:Λ):Prop:=∀ (i j:Nat) (x y:Int),i<j->l[i]? =σ x->l[j]? =σ y->x<y
theorem gF.inj (h:gF l) {i:Nat} {x:Int} (hi:l[i]? =σ x) (I:l[j]? =σ x):i=j:=by
 rcases Nat.lt_trichotomy i j with h1|h1|h1
 .have:=h i j x x h1 hi I;omega
 .exact h1
 .have:=h j i x x h1 I hi;omega
def dedup (l:Λ):Nat->Λ
 |0=>[]
 |j+1=>if 0<j/\l[j]? =l[j-1]? then dedup l j else dedup l j++[l.getD j 0]
theorem BZ (l:Λ):∀j,(dedup l j).length<=j
 |0=>p9 _
 |j+1=>by
  have:=BZ l j;unfold dedup;split
  .omega
  .simp;omega
theorem vM (I:0<j) (h:l[j]? =l[j-1]?):dedup l (j+1)=dedup l j:=by
 rw[dedup,if_pos ⟨I,h⟩]
theorem vN {x:Int} (J:l[j]? =σ x) (h:0<j->l[j]? ≠l[j-1]?):dedup l (j+1)=dedup l j++[x]:=by
 rw[dedup,if_neg (λI=>h I.1 I.2),u4,J];rfl
theorem sx {l:Λ}:∀ {j:Nat},j<=l.length->(∀i,i<j->0<i->l[i]? ≠l[i-1]?)->dedup l j=l.take j
 |0,_,_=>by simp[dedup]
 |j+1,U,h=>by
  have I:l[j]? =σ l[j]:=x6 Ω;rw[vN I (h j Ω),sx Ω (λi hi J=>h i Ω J),r8,I];rfl
theorem B1 {l:Λ} (I:l.Pairwise (·<= ·)):∀ {j:Nat},j<=l.length->(gF (dedup l j)/\ ∀x,x∈dedup l j↔x∈l.take j)
 |0,_=>⟨λi j x y _ h=>by simp[dedup] at h,λx=>by simp[dedup]⟩
 |j+1,aj=>by
  obtain⟨h1,W⟩:=B1 I (j:=j) Ω;have U:l[j]? =σ l[j]:=x6 Ω;by_cases V:0<j/\l[j]? =l[j-1]?
  .rw[vM V.1 V.2];refine⟨h1,λx=>?_⟩;rw[W,r8,U];simp only[l9,l7,n9];refine⟨.inl,λh=>h.elim id λhe=>?_⟩;subst he;have Y:(l.take j)[j-1]? =σ l[j]:=by rw[Y3 Ω,<-V.2,U]
   exact x5 Y
  .have aa:0<j->l[j]? ≠l[j-1]?:=λad he=>V ⟨ad,he⟩;rw[vN U aa];have ae:∀x∈dedup l j,x<l[j]:=λx af=>by
    obtain⟨i,hi,he⟩:=List.getElem_of_mem ((W x).1 af);have ak:i<j:=by rw[j0] at hi;omega
    rw[List.getElem_take] at he;subst he;have Y:l[i]<=l[j-1]:=by
     by_cases ab:i=j-1
     .subst ab;exact Int.le_refl _
     .exact V2.1 I i (j-1) Ω Ω Ω
    have ab:=V2.1 I (j-1) j Ω Ω Ω;have ac:=aa Ω;rw[U,x6 (show j-1<l.length by omega)] at ac;have al:l[j]≠l[j-1]:=λh=>ac (by rw[h]);omega
   refine⟨λa b x y ag X J=>?_,λx=>?_⟩
   .have ah:=(x4.1 J).1;simp only[o5,b9,List.length_nil] at ah;rw[Y0 Ω] at X;by_cases ai:b=(dedup l j).length
    .subst ai;rw[Y1 (p9 _),V7] at J;simp at J;subst J;exact ae x (x5 X)
    .rw[Y0 Ω] at J;exact h1 a b x y ag X J
   .rw[r8,U];simp only[l9,l7,n9,W]
def p5 (l:Λ):Prop:=∀ (j:Nat) (x:Int),l[j]? =σ x->0<=x/\(0<j-> ∀y,l[j-1]? =σ y->y<x)
theorem p5.up (h:p5 l):gF l:=by
 intro i j x y X U;induction j generalizing y with
 |zero=>omega
 |succ j V=>
  intro J;have Y:=(x4.1 J).1;obtain⟨z,I⟩:∃z,l[j]? =σ z:=⟨_,x6 (show j<l.length by omega)⟩;have h1:=(h (j+1) y J).2 Ω z (by simpa using I);by_cases W:i=j
  .subst W;rw[U] at I;cases I;exact h1
  .have:=V z Ω I;omega
theorem Lg (h:gF l) (J:∀x∈l,0<=x):p5 l:=λj x I=>⟨J x (x5 I),λV y U=>h (j-1) j y x Ω U I⟩
theorem B2 {g an:Nat} {ah:x1} {cs:Λ} (h:c0 w g an sv af k cs) (I:aB .i64 w ah l):
  aj x7 G6 [Γ g,ah] w λv w'=>Ext w w'/\ ∃c,v= .bool c/\(c=true↔l.length=af.length/\p5 l):=by
 obtain⟨⟨aW,gs,ao,hm,X⟩,_⟩:=h;have sub:w.rangeAt g (0+0) [sv]:=m7 ao (by
  intro j v Y
  match j,Y with
  |0,Y=>exact Y)
 refine aw func198 ?_;rw[aV am.u I,bQ,aT cR.p rfl,bI (cs:=[sv]) bt.p bt.i rfl sub];refine (AP hm.ls).mono ?_;rintro _ J _ ⟨rfl,aa⟩;simp only[bh,ai];refine⟨λap=>⟨aa,false,rfl,(λh=>by cases h),λh=>absurd (by rw[h.1]) ap⟩,λak=>?_⟩;have ak:l.length=af.length:=Ω
 rw[aV am.u (I.ext aa)];refine bU.range l.length (λi _ V=>Ext w V/\ ∀ (j:Nat) (x:Int),j<i->l[j]? =σ x->0<=x/\(0<j-> ∀y,l[j-1]? =σ y->y<x)) I.le ⟨aa,λj x aq=>Ω⟩ ?_ ?_
 .rintro i _ V au hi ⟨U,ab⟩ ax;simp only[aP,ai];refine⟨λ_=>?_,λh=>Ω⟩;obtain⟨x,W⟩:=aF (l:=l) hi;have aE:=I.le;rw[ba am.u ag.i Ψ (I.ext U) W];refine aR (λv ay=>V=ay/\ ∃c,v= .bool c/\(c=false↔0<=x/\(0<i-> ∀y,l[i-1]? =σ y->y<x))) ?_ ?_
  .rintro _ _ ⟨rfl,c,rfl,X⟩;rw[cz];simp only[aL];refine⟨λaz=>⟨U,false,rfl,(λh=>by cases h),λh=>?_⟩,λaA=>ax _ _ ⟨U,λj aC aq ac=>?_⟩⟩
   .have:=X.2 (h.2 i x W);rw[az] at this;cases this
   .by_cases aD:j=i
    .subst aD;rw[W] at ac;cases ac;exact X.1 aA
    .exact ab j aC Ω ac
  .intro av ad;simp only[aP,bM,dP,ai];refine⟨λaG=>ad _ _ ⟨rfl,true,rfl,(λh=>by cases h),λh=>Ω⟩,λaH=>⟨λaI=>?_,λaJ=>ad _ _ ⟨rfl,false,rfl,λ_=>⟨Ω,λh=>Ω⟩,λ_=>rfl⟩⟩⟩;obtain⟨y,ae⟩:∃y,l[i-1]? =σ y:=⟨_,x6 (show i-1<l.length by omega)⟩;rw[wrap_i64 Ω Ω,fP (i:=i-1) Ω am.u ag.i Ψ (I.ext U) ae];simp only[cK];refine ad _ _ ⟨rfl,_,rfl,?_⟩;rw[decide_eq_false_iff_not];refine⟨λh=>⟨Ω,λ_ aK al=>by rw[ae] at al;cases al;omega⟩,λh=>by have:=h.2 Ω y ae;omega⟩
 .rintro _ V au ⟨U,ab⟩;simp only[aP,ai];exact⟨λh=>Ω,λ_=>⟨U,true,rfl,λ_=>⟨ak,λj x W=>ab j x (x4.1 W).1 W⟩,λ_=>rfl⟩⟩
def gZ (l:Λ) (x:Int):Int:=if x∈l then (l.idxOf x:Int) else-1
theorem B3 {i:Nat} {x:Int} (h:gF l) (hi:l[i]? =σ x):gZ l x=i:=by
 have hm:x∈l:=x5 hi;have I:=List.idxOf_lt_length_of_mem hm;have J:l.idxOf x=i:=h.inj (by rw[x6 I,List.getElem_idxOf I]) hi;unfold gZ;rw[if_pos hm,J]
theorem Lh {x:Int} (h:x∉l):gZ l x= -1:=if_neg h
theorem vO {x:Int} (h:aB .i64 w sv l) (hu:gF l):
  aj x7 y1 [sv,Δ x] w λv w'=>v=Δ (gZ l x)/\Ext w w':=by
 refine aw func196 ?_;rw[aV am.u h];refine bU.range l.length (λi _ J=>Ext w J/\ ∀j,j<i->l[j]? ≠σ x) h.le ⟨Ext.refl _,λj W=>Ω⟩ ?_ ?_
 .rintro i _ J k hi ⟨I,U⟩ hk;simp only[aP,ai];refine⟨λ_=>?_,λh=>Ω⟩;obtain⟨y,V⟩:=aF (l:=l) hi;rw[ba am.u ag.i Ψ (h.ext I) V];simp only[be,ai,aL];refine⟨λhe=>⟨?_,I⟩,λhe=>hk _ _ ⟨I,λj W=>?_⟩⟩
  .subst he;rw[B3 hu V]
  .by_cases X:j=i
   .subst X;rw[V];intro h;exact he (c9 h).symm
   .exact U j Ω
 .rintro _ J k ⟨I,U⟩;simp only[aP,ai];refine⟨λh=>Ω,λ_=>⟨?_,I⟩⟩;rw[Lh];intro hm;obtain⟨i,hi,he⟩:=List.getElem_of_mem hm;exact U i hi (by rw[x6 hi,he])
def eS (x vars scope:Λ):Λ:=scope.map λp=>x.getD (vars.idxOf p) 0
theorem Li (x vars scope:Λ):(eS x vars scope).length=scope.length:=by simp[eS]
theorem B4 {ez aa:x1} {x vars:Λ} (af:aB .i64 w ez x) (ah:aB .i64 w aa vars) (I:aB .i64 w sv scope) (hu:gF vars) (ak:∀p∈scope,p∈vars) (ay:x.length=vars.length) (az:scope.length<=1000):
  aj x7 Hb [ez,aa,sv] w λv w'=>Ext w w'/\ ∃g,w.heap.size<=g/\ap .i64 ag w' g v (eS x vars scope):=by
 refine aw func203 ?_;rw[aV am.u I];refine iR am.u ag.i Ω Ω λgz J aA ab al=>?_;have an:ap .i64 ag J gz (.slice (σ ⟨gz,0,ν⟩) scope.length scope.length) (p8 scope.length 0):=ap.of (n:=scope.length) (bT.full al Ξ (by simp[maxLen];omega));generalize (x1.slice (σ ⟨gz,0,ν⟩) scope.length scope.length)=ao at*;rw[aV am.u (I.ext ab)];have X:=Li x vars scope;refine ce.range scope.length (λi V=>Ext w V/\ap .i64 ag V gz ao (upto (eS x vars scope) 0 i)) Ω ⟨ab,by rw[ot,X];exact an⟩ ?_ ?_
 .rintro i V aq hi ⟨U,hm⟩ au;simp only[aP,ai];refine⟨λ_=>?_,λh=>Ω⟩;obtain⟨p,Y⟩:=aF (l:=scope) hi;have ac:=ak p (x5 Y);have aC:=List.idxOf_lt_length_of_mem ac;rw[ba am.u ag.i Ψ (I.ext U) Y];refine (vO (ah.ext U) hu).mono ?_;rintro _ aD _ ⟨rfl,W⟩;have e:gZ vars p=(vars.idxOf p:Int):=if_pos ac;obtain⟨u,ad⟩:∃u,x[vars.idxOf p]? =σ u:=⟨_,x6 Ω⟩;have aE:(upto (eS x vars scope) 0 i).length=scope.length:=by rw[nc,X]
  rw[fP (i:=vars.idxOf p) e am.u ag.i Ψ (af.ext (U.trans W)) ad,hs rfl am.u ag.i (hm.ext W) Ω];refine ht ag.i (hm.ext W) Ω λaG av _ ae=>?_;simp only[aL];have ax:(eS x vars scope)[i]? =σ u:=by
   unfold eS;rw[x8,Y,Z2,u4,ad];rfl
  rw[ov ax] at ae;exact au _ ⟨(U.trans W).then av (by rintro r aH rfl;omega),ae⟩
 .rintro V aq ⟨U,hm⟩;simp only[aP,ai];refine⟨λh=>Ω,λ_=>⟨U,gz,Ω,?_⟩⟩;rw[<-X,ou] at hm;exact hm
theorem B5 (W:t≠[]) (hw:∀b∈t,bE b=true):lex t=([t],true):=by
 cases t with
 |nil=>exact absurd rfl W
 |cons b q=>
  have I:q.dropWhile bE=[]:=by
   have:∀ (q:Λ),(∀x∈q,bE x=true)->q.dropWhile bE=[]/\q.takeWhile bE=q:=λq I=>by
    induction q with
    |nil=>simp
    |cons x q J=>
     have:=J λy U=>I y (.tail _ U);simp[I x (.head _),this.1,this.2]
   exact (this q λx V=>hw x (.tail _ V)).1
  have X:q.takeWhile bE=q:=by
   have:∀ (q:Λ),(∀x∈q,bE x=true)->q.takeWhile bE=q:=λq I=>by
    induction q with
    |nil=>simp
    |cons x q J=>simp[I x (.head _),J λy U=>I y (.tail _ U)]
   exact this q λx V=>hw x (.tail _ V)
  rw[zO (hw b (.head _)),I,X]
theorem B6 {p:x1} (h:aB .u8 w p l) (U:Bytes l) (V:l.length<=100000):aj x7 yI [p] w λv w'=>Ext w w'/\ ∃g R,v=Γ g/\w.heap.size<=g/\gV w' g R (lex l).1 (lex l).2/\¬R g:=by
 refine (zW h U V).mono ?_;rintro _ J _ ⟨W,g,rfl,X,Y,I⟩;obtain⟨h1,ac,ad,aa,bk,hm⟩:=id I;exact⟨W,g,λr=>r≠g,rfl,X,⟨Y,l,0,I,λr ab=>b3 hm aa Φ ab,by rw[List.drop_zero]⟩,λh=>h rfl⟩
theorem Lj {p:x1} (h:aB .u8 w p t) (ac:Bytes t) (ad:t.length<=100000) (af:t≠[]) (hw:∀b∈t,bE b=true):aj x7 Hl [p] w λv w'=>Ext w w'/\ ∃n:Int,v= .tuple #[Δ 1,Δ n,Δ 0]:=by
 have ag:=B5 af hw;refine aw func222 ?_;refine (B6 h ac ad).mono ?_;rintro _ J _ ⟨ah,g,R,rfl,al,X,am⟩;rw[ag] at X;refine⟨λ_ _ _ I V=>ae (λr=>r=g) J V/\((I=Δ 0/\gV V g R [t] true)\/(I=Δ 1/\gV V g R [] true)),λ_ _ _ I _=>1-(bV I).toNat,⟨ae.refl _ _,.inl ⟨rfl,X⟩⟩,?_⟩;rintro _ _ _ _ V ⟨Y,⟨rfl,U⟩|⟨rfl,U⟩⟩
 .refine (pK U).mono ?_;rintro v aa _ ⟨W,ak,n,rfl⟩;rw[hM,hN,hP,be,ai];refine⟨λ_=>?_,λh=>absurd rfl h⟩;rw[aL,wrap_i64 Ω Ω];exact⟨⟨Y.trans W,.inr ⟨rfl,ak⟩⟩,by simp[bV]⟩
 .refine (pK U).mono ?_;rintro v aa _ ⟨W,n,rfl⟩;rw[hM,hN,hP,be,ai];refine⟨λh=>by simp at h,λ_=>?_⟩;rw[be,ai];refine⟨λh=>by simp at h,λ_=>?_⟩;have ab:Ext w aa:=ah.then (Y.trans W) (λr an he=>by have he:r=g:=he;omega);rw[aV cH.u (h.ext ab)];exact⟨ab,_,rfl⟩
theorem Lk (I:Bytes t) (U:t.length<=100000) (W:t≠[]) (hw:∀b∈t,bE b=true):aj x7 G1 [bO t] w λv w'=>v= .bool true/\Ext w w':=by
 have ad:=B5 W hw;refine aw func189 ?_;refine uZ cU.u cH.u cE.u I Ω λbv J X ae _=>?_;refine (Lj ae I U W hw).mono ?_;rintro _ V _ ⟨Y,n,rfl⟩;rw[hM,hN,hP];refine uZ cU.u cH.u cE.u I Ω λan ao aa af _=>?_;refine (B6 af I U).mono ?_;rintro _ ap _ ⟨ag,g,R,rfl,aq,ab,au⟩;rw[ad] at ab;refine (pK ab).mono ?_;rintro _ ac _ ⟨ah,_,m,rfl⟩;rw[hM,hN,hP];have ak:Ext w ac:=(((X.trans Y).trans (aa.trans ag))).then ah (λr ax he=>by
  have he:r=g:=he;have:=X.size;have:=Y.size;have:=aa.size;omega)
 refine aR (λv al=>ac=al/\v= .bool true) ?_ ?_
 .rintro _ _ ⟨rfl,rfl⟩;exact⟨rfl,ak⟩
 .intro av am;rw[be,ai];refine⟨λ_=>?_,λh=>absurd rfl h⟩;rw[be,ai];refine⟨λ_=>?_,λh=>absurd rfl h⟩;rw[zK I I];exact am _ _ ⟨rfl,by rw[decide_eq_true rfl]⟩
theorem Ll {x:Int}:aj x7 uy [Δ x] w λv w'=>v= .bool (decide (¬hQ x))/\Ext w w':=by
 refine aw func188 ?_;refine aR (λv J=>w=J/\v= .bool (decide (¬hQ x))) ?_ ?_
 .rintro _ _ ⟨rfl,rfl⟩;exact⟨rfl,Ext.refl _⟩
 .intro av U;rw[aP,ai];refine⟨λh=>U _ _ ⟨rfl,by rw[decide_eq_true];intro I;have:=I.1;omega⟩,λh=>?_⟩;rw[bM];refine U _ _ ⟨rfl,?_⟩;congr 1;rw[V5,decide_eq_true_eq,decide_eq_true_eq];exact⟨λV I=>by have:=I.2;omega,λV=>by
   by_cases W:32<x
   .exact W
   .exact absurd ⟨Ω,Ω⟩ V⟩
theorem Lm (h:aB .i64 w sv l) (W:∀x∈l,hQ x):
  aj x7 ux [sv,.func (.func uy) #[] #[]] w λv w'=>v= .bool false/\Ext w w':=by
 refine aw func186 ?_;refine aj.mono (K:=λv w'=>v=Δ (-1)/\Ext w w') ?_ ?_
 .refine aw func221 ?_;rw[aV am.u h];refine bU.range l.length (λ_ _ J=>Ext w J) h.le (Ext.refl _) ?_ ?_
  .rintro i _ J k hi I hk;refine bB Ω ?_;obtain⟨x,U⟩:=aF (l:=l) hi;rw[ba am.u ag.i Ψ (h.ext I) U];show aj x7 uy [Δ x] J _;refine Ll.mono ?_;rintro _ V _ ⟨rfl,X⟩;rw[ai];refine⟨λY=>absurd (W x (x5 U)) Y,λ_=>?_⟩;rw[aL];exact hk _ _ (I.trans X)
  .rintro _ J k I;rw[aP,ai];exact⟨λh=>Ω,λ_=>⟨rfl,I⟩⟩
 .rintro _ J _ ⟨rfl,I⟩;rw[cK];exact⟨rfl,I⟩
theorem sy {m:Bool} {S R:ah} {d:gE} (h:ak.rep m S R w cs d):∃sv g I aI gs,cs=[sv,Γ g]/\aB .i64 w sv d.1/\ft w g I aI gs d.2.af d.2.k d.2.o d.2.D:=by
 obtain⟨c,e,A,B,rfl,_,_,_,h1,J⟩:=h;have h1:ak.rep (α:=Λ) false bo R w c d.1:=h1;obtain⟨u,rfl⟩:=W6.1 (show c.length=1 from ak.len h1);obtain⟨g,m,sv,gs,rfl,U,_⟩:=J;exact⟨u,g,m,sv,gs,rfl,dp h1,U⟩
theorem Ln {aG:Nat} {f:bY} {d:gE} {x:cm} {m:Bool} {S R:ah} (aU:kU w aG f) (aW:eX N f) (aX:x∈f.funs) (aY:p4 f.k x d) (aZ:ak.rep m S R w cs d):
  aj x7 Hm [Γ aG,.agg cs.toArray] w λv w'=>v= .bool true/\Ext w w':=by
 obtain⟨szv,bf,gz,bg,aH,aJ,_,_⟩:=aU;obtain⟨sv,ad,bi,aI,gs,rfl,X,au⟩:=sy aZ;obtain⟨a1,aK,a2,bj,bk,bl⟩:=aY;obtain⟨ao,bn,bo⟩:=aW.funs x aX;rw[a1] at X;refine aw func224 ?_;refine bm λan J bp aa ap=>?_;have ap:ac J an cv [sv,Γ ad]:=by obtain⟨_,_,_,rfl⟩:=df X;exact ap
 refine aR (λv V=>Ext J V/\v= .bool false) ?_ ?_
 rotate_left
 .intro av ax;intro V W _ _;have Y:=ap.ext W;rw[aD cv.p 1 Y rfl,cV eG.u];simp only[Z3,aS];rw[aD cv.p 1 Y rfl,aM cu.p 1 (aH.ext (aa.trans W)) rfl];refine (JC (au.ext (aa.trans W)).is).mono ?_;rintro _ ab _ ⟨rfl,I⟩;refine⟨.inl I,?_⟩;rw[bh,ai];refine⟨λh=>absurd a2 h,λ_=>?_⟩;have ae:=Y.ext I;have ay:=W.trans I;rw[aD cv.p 1 ae rfl,aD cv.p 0 ae rfl,aV am.u (X.ext (aa.trans ay))];refine (JD (au.ext (aa.trans ay)).is).mono ?_;rintro _ aq _ ⟨rfl,U⟩;refine⟨.inl U,?_⟩;rw[bh];refine ax _ _ ⟨ay.trans U,?_⟩;rw[decide_eq_false];intro h;exact h (by rw[aK,ao.sizes,u7])
 rintro _ V ⟨W,rfl⟩;rw[aS];have Y:=ap.ext W;have az:=aa.trans W;rw[aD cv.p 0 Y rfl,aV am.u (X.ext az)];refine bU.range x.scope.length (λ_ _ ab=>Ext V ab) Ω (Ext.refl _) ?_ ?_
 rotate_left
 .rintro _ ab k I;rw[aP,ai];exact⟨λh=>Ω,λ_=>⟨rfl,az.trans I⟩⟩
 rintro i _ ab k hi I hk;obtain⟨v,al⟩:=aF (l:=x.scope) hi;have bq:=ao.scope.2 v (x5 al);have aB:=az.trans I;have ae:=Y.ext I;have aN:=aH.ext aB;have a6:f.sizes[v.toNat]? =σ (f.sizes.getD v.toNat 0):=by
  rw[u4,x6 Ω];rfl
 refine bB Ω ?_;rw[ba am.u ag.i Ψ (X.ext aB) al];refine aR (λb aq=>Ext ab aq/\b= .bool false) ?_ ?_
 .rintro _ aq ⟨U,rfl⟩;rw[aS,aL];exact hk _ _ (I.trans U)
 .intro av ax;intro aq U _ _;have aC:=aB.trans U;refine b6 Ω ?_;rw[aM cu.p 2 (aN.ext U) rfl,aV am.u (aJ.ls.ext aC),cK,ai];refine⟨λh=>Ω,λ_=>?_⟩;rw[aD cv.p 0 (ae.ext U) rfl];refine (BY (X.ext aC)).mono ?_;rintro _ br _ ⟨aO,r,rfl,a7⟩;have a8:r=(i:Int):=(a7 i al).2 λj bt bb=>by have:=j3 ao.scope.1 bb al;omega
  subst a8;have aQ:=aC.trans aO;have aE:=U.trans aO;rw[bh,ai];refine⟨λh=>absurd rfl h,λ_=>?_⟩;rw[aD cv.p 1 (ae.ext aE) rfl,aM cu.p 2 (aN.ext aE) rfl];refine rN (y:=v) (i:=v.toNat) Ω am.u ag.i (aJ.ls.ext aQ) a6 λb o bc=>?_;rw[aA Ψ bc];refine (vt (au.ext aQ).is).mono ?_;rintro bu bw _ ⟨aT,bx,bz,bd⟩;refine⟨.inl aT,?_⟩;have be:d.2.af[i]? =σ (f.sizes.getD v.toNat 0):=by
   rw[aK,ao.sizes,x8,al];rfl
  rw[ba am.u ag.i Ψ bd.ls be,bh];exact ax _ _ ⟨aE.trans aT,by rw[decide_eq_false (λh=>h rfl)]⟩
theorem Lo {X:Nat} {f:bY} {d:gE} {x:cm} {m:Bool} {S R:ah} (Y:kU w X f) (aa:eX N f) (ab:x∈f.funs) (ae:p4 f.k x d) (I:ak.rep m S R w cs d):
  aj x7 uz [Γ X,.agg cs.toArray] w λv w'=>v= .bool false/\Ext w w':=by
 refine aw func191 ?_;refine bm λan J al U W=>?_;have af:cs.length=2:=ak.len I;have W:ac J an cv cs:=by
  obtain⟨sv,ad,am,aI,gs,rfl,ag,ao⟩:=sy I;obtain⟨_,_,_,rfl⟩:=df ag;exact W
 rw[bI cv.p cv.i af W.range];refine (Ln (Y.ext U) aa ab ae (bq I U)).mono ?_;rintro _ V _ ⟨rfl,ai⟩;rw[bu];exact⟨rfl,U.trans ai⟩
theorem Lp {W:Nat} {f:bY} {Y:x1} {U:List gE} {m:Bool} {S R:ah} (ad:kU w W f) (ae:eX N f) (X:ak.rep m S R w [Y] U) (aa:sw f.k f.funs U):
  aj x7 G2 [Y,.func (.func uz) #[Γ W] #[]] w λv w'=>v= .bool false/\Ext w w':=by
 refine aw func190 ?_;refine aj.mono (K:=λv w'=>v=Δ (-1)/\Ext w w') ?_ ?_
 .refine aw func223 ?_;rw[gj dy.u X];refine bU.range U.length (λ_ _ J=>Ext w J) (m3 X) (Ext.refl _) ?_ ?_
  .rintro i _ J k hi I hk;refine bB Ω ?_;obtain⟨d,ab⟩:=aF (l:=U) hi;obtain⟨x,ac⟩:∃x,f.funs[i]? =σ x:=⟨_,x6 (by have:=aa.1;omega)⟩;refine l3 (α:=gE) cv.p rfl dy.u cv.i (bq X I) ab λcs af=>?_;show aj x7 uz [Γ W,.agg cs.toArray] J _;refine (Lo (ad.ext I) ae (x5 ac) (aa.2 i x d ac ab) af).mono ?_;rintro _ V _ ⟨rfl,ag⟩;rw[aS,aL];exact hk _ _ (I.trans ag)
  .rintro _ J k I;rw[aP,ai];exact⟨λh=>Ω,λ_=>⟨rfl,I⟩⟩
 .rintro _ J _ ⟨rfl,I⟩;rw[cK];exact⟨rfl,I⟩
def lF (I:List cm):Nat:=(I.map λx=>x.lines.length).sum
theorem Lq {aT:Nat} {f:bY} (aU:kU w aT f) (U:eX N f) (bF:N<=60000) (aE:f.name≠[]/\ ∀b∈f.name,bE b=true):
  aj x7 GB [Γ aT] w λv w'=>Ext w w'/\ ∃e:Int,v=Δ e/\(lF f.funs<=16384->e=0):=by
 obtain⟨szv,bG,gz,X,Y,aG,aH,aa⟩:=id aU;have bH:=U.name;have a8:Bytes f.name:=λb bb=>by
  have:=of_decide_eq_true (aE.2 b bb);omega
 refine aw func150 ?_;rw[cV uB.u];simp only[Z3,aS];refine aR (λv J=>Ext w J/\v= .bool false) ?_ ?_
 rotate_left
 .intro av W;rw[aM cu.p 0 Y rfl];refine (Lk a8 Ω aE.1 aE.2).mono ?_;rintro _ J _ ⟨rfl,I⟩;rw[bu,Z8,aS];rw[aM cu.p 2 (Y.ext I) rfl,aV am.u (aG.ls.ext I),be,ai];refine⟨λh=>by have:=U.sizes.1;omega,λ_=>?_⟩;rw[aM cu.p 2 (Y.ext I) rfl];refine (Lm (aG.ls.ext I) U.sizes.2.2).mono ?_;rintro _ V _ ⟨rfl,ab⟩;have aW:=I.trans ab;rw[aS,aM cu.p 1 (Y.ext aW) rfl];refine zp.mono ?_;rintro _ ac _ ⟨rfl,ae⟩;have ax:=aW.trans ae;rw[decide_eq_true (show right f.k from U.k),bu,Z8,aS,aM cu.p 3 (Y.ext ax) rfl,lZ];refine (Lp (aU.ext ax) U (bq aH ax) aa).mono ?_;rintro _ aX _ ⟨rfl,bc⟩;exact W _ _ ⟨ax.trans bc,rfl⟩
 rintro _ J ⟨I,rfl⟩;rw[aS];have ay:=Y.ext I;refine aR (λv V=>J=V/\v= .bool false) ?_ ?_
 rotate_left
 .intro av W;rw[aM cu.p 0 ay rfl,m9 cU.u,bM,ai];refine⟨λh=>Ω,λ_=>?_⟩;rw[aM cu.p 2 ay rfl,aV am.u (aG.ls.ext I),bM,ai];refine⟨λh=>by have:=U.sizes.2.1;omega,λ_=>?_⟩;rw[aM cu.p 3 ay rfl,gj dy.u (bq aH I),bM];exact W _ _ ⟨rfl,by rw[decide_eq_false];have:=U.kM;have:=aa.1;omega⟩
 rintro _ _ ⟨rfl,rfl⟩;have aY:=bq aH I;rw[aM cu.p 3 ay rfl,gj dy.u aY];refine⟨λbd bf aJ V=>∃i n:Nat,aJ=Δ (i:Int)/\i<=X.length/\bd=Δ (n:Int)/\bf= .bool false/\Ext J V/\n<=lF (f.funs.take i)/\n<=i*60000,λ_ _ aJ _=>X.length-(bV aJ).toNat,
  ⟨0,0,rfl,X2 _,rfl,rfl,Ext.refl _,X2 _,Ω⟩,?_⟩
 rintro _ _ _ V ⟨i,n,rfl,hi,rfl,rfl,ab,bg,bI⟩;have bJ:X.length<=256:=by rw[aa.1];exact U.kM
 rw[aP,ai];refine⟨λaZ=>?_,λbK=>?_⟩
 .have aZ:i<X.length:=Ω
  obtain⟨d,a1⟩:=aF (l:=X) aZ;obtain⟨x,aK⟩:∃x,f.funs[i]? =σ x:=⟨_,x6 (by have:=aa.1;omega)⟩;have az:=aa.2 i x d aK a1;obtain⟨aA,bh,bi⟩:=U.funs x (x5 aK);have bL:=aA.len;refine iM (λa b ac=>Ext V ac/\a=Δ ((n+d.2.D.length:Nat):Int)/\b= .bool false) ?_ ?_
  .rintro _ _ ac ⟨ae,rfl,rfl⟩;rw[aL,wrap_i64 Ω Ω];have bj:=az.2.2.2.2.1;refine⟨⟨i+1,n+d.2.D.length,rfl,Ω,rfl,rfl,ab.trans ae,?_,?_⟩,by simp only[bV];omega⟩
   .have e:lF (f.funs.take (i+1))=lF (f.funs.take i)+x.lines.length:=by
     unfold lF;rw[r8,aK,l9,c8,List.sum_append,U4,List.map_nil,List.sum_cons,List.sum_nil,Nat.add_zero]
    omega
   .have:(i+1)*60000=i*60000+60000:=Ω
    have bO:d.2.D.length<=60000:=Ω
    omega
  .intro av W;refine l3 (α:=gE) cv.p rfl dy.u cv.i (bq aY ab) a1 λcs bk=>?_;obtain⟨sv,ad,bP,aI,gs,rfl,bl,a2⟩:=sy bk;refine bN cv.i λan ac bQ ae bm=>?_;refine cc (vs:=[sv,Γ ad]) cv.i rfl rfl (by intro v aB;simp at aB;rcases aB with rfl|rfl<;>first|exact bl.cells.2|rfl) bm λaX bn bR a6=>?_;have aN:Ext V aX:=ae.put bn Ω;rw[aD cv.p 1 a6 rfl];refine (JB (a2.ext aN).is).mono ?_;rintro _ bS _ ⟨rfl,aO⟩;have bj:=az.2.2.2.2.1;rw[aL,wrap_i64 Ω Ω,aD cv.p 1 (a6.ext aO) rfl];refine (vt ((a2.ext aN).ext aO).is).mono ?_;rintro bT aQ _ ⟨bo,bW,bX,a7⟩;rw[aV am.u a7.ls];have bZ:d.2.af.length<=6:=by rw[az.2.1,aA.sizes,u7];exact bh
   refine bU.range d.2.af.length (λj out aC=>Ext aQ aC/\ ∃gr,aQ.heap.size<=gr/\ap .i64 al aC gr out (d.2.af.take j)) Ω ⟨Ext.refl _,aQ.heap.size,p9 _,ap.nil _ _ _ _⟩ ?_ ?_
   .rintro j out aC k bp ⟨ah,gr,br,ak⟩ hk;obtain⟨z,ao⟩:=aF (l:=d.2.af) bp;refine bB Ω ?_;rw[ba am.u ag.i Ψ (a7.ls.ext ah) ao];refine en aq.u al.i rfl λa ga bt b0 au bw=>?_;refine iQ aq.u al.i rfl (ak.ext au) bw.ls Θ Θ λb1 bx b2 b3 bz bA=>?_;have b4:=ah.size;have b5:=au.size;rw[aL];refine hk _ _ ⟨(ah.trans au).put bA Ω,bx,Ω,?_⟩;rw[r8,ao];exact bz
   .rintro out aC k ⟨ah,gr,br,ak⟩;rw[o6] at ak;refine b6 Ω ?_;rw[aS];have bC:d.2.af=x.sizes:=az.2.1;rw[bC] at ak;refine (AL ak.ls λz ao=>?_).mono ?_
    .rw[aA.sizes] at ao;obtain⟨v,aB,rfl⟩:=o8.1 ao;have b7:=aA.scope.2 v aB;refine (U.sizes.2.2 _ ?_).1;rw[u4,x6 Ω];exact R5 _
    .rintro _ bt _ ⟨rfl,au⟩;refine W _ _ _ ⟨(((aN.trans aO).trans bo).trans ah).trans au,by congr 1,by rw[bi]⟩
 .have bD:i=X.length:=Ω
  subst bD;rw[aa.1,o6] at bg;refine aR (λv ac=>V=ac/\v= .bool (decide (16384<(n:Int)))) ?_ ?_
  .rintro _ _ ⟨rfl,rfl⟩;rw[ai];refine⟨λh=>⟨I.trans ab,5,rfl,λb8=>Ω⟩,λh=>⟨I.trans ab,0,rfl,λ_=>rfl⟩⟩
  .intro av W;rw[aS,bM];exact W _ _ ⟨rfl,rfl⟩
theorem sz:∀ {a b:Λ} {i:Nat},(∀ (j:Nat) (x y:Int),j<i->a[j]? =σ x->b[j]? =σ y->x=y)->i<=a.length->i<=b.length->fE a b=fE (a.drop i) (b.drop i)
 |_,_,0,_,_,_=>Ξ
 |[],_,i+1,_,h,_=>by simp at h
 |_::_,[],i+1,_,_,h=>by simp at h
 |x::a,y::b,i+1,he,h1,I=>by
  have J:=he 0 x y Ω rfl rfl;subst J;simp only[fE,Int.lt_irrefl,if_false,List.drop_succ_cons];exact sz (λj u v V hu U=>he (j+1) u v Ω hu U) (by simpa using h1) (by simpa using I)
theorem B7 {x:Int}:aj x7 cmp_isNaN_int [Δ x] w λv w'=>v= .bool false/\Ext w w':=by
 refine aw func207 ?_;simp only[bh];exact⟨Ξ,Ext.refl _⟩
theorem B8 {x:Int}:aj x7 GJ [Δ x,Δ y] w λv w'=>v=Δ (if x<y then-1 else if y<x then 1 else 0)/\Ext w w':=by
 refine aw func162 ?_;refine B7.mono ?_;rintro _ J _ ⟨rfl,I⟩;refine B7.mono ?_;rintro _ V _ ⟨rfl,U⟩;simp only[aS,aP,bM,ai];exact⟨λh=>⟨by rw[if_pos h],I.trans U⟩,λh=>⟨λW=>⟨by rw[if_neg h,if_pos W],I.trans U⟩,λW=>⟨by rw[if_neg h,if_neg W],I.trans U⟩⟩⟩
theorem Lr {b:Λ} (X:aB .i64 w bb a) (aa:aB .i64 w bv b):aj x7 GK [bb,bv] w λv w'=>v=Δ (fE a b)/\Ext w w':=by
 refine aw func163 ?_;have aE:=X.le;rw[aV am.u X];refine⟨λ_ ab J=>∃i:Nat,ab=Δ (i:Int)/\i<=a.length/\i<=b.length/\Ext w J/\ ∀ (j:Nat) (x y:Int),j<i->a[j]? =σ x->b[j]? =σ y->x=y,λ_ ab _=>a.length-(bV ab).toNat,⟨0,rfl,X2 _,X2 _,Ext.refl _,λj x y aq=>Ω⟩,?_⟩;rintro _ _ J ⟨i,rfl,au,av,I,ak⟩;have U:fE a b=fE (a.drop i) (b.drop i):=sz ak au av;simp only[aP,ai];refine⟨λY=>?_,λaG=>?_⟩
 .have Y:i<a.length:=Ω
  obtain⟨x,ac⟩:=aF (l:=a) Y;have al:a.drop i=x::a.drop (i+1):=by rw[X7 Y,(x4.1 ac).2]
  rw[ba am.u ag.i Ψ (X.ext I) ac,aV am.u (aa.ext I)];simp only[cK,ai];refine⟨λh=>?_,λh=>?_⟩
  .have:b.drop i=[]:=by rw[List.drop_eq_nil_iff];omega
   rw[this,al] at U;exact⟨by rw[U];rfl,I⟩
  have ad:i<b.length:=Ω
  obtain⟨y,ae⟩:=aF (l:=b) ad;have ax:b.drop i=y::b.drop (i+1):=by rw[X7 ad,(x4.1 ae).2]
  rw[ba am.u ag.i Ψ (aa.ext I) ae];refine B8.mono ?_;rintro _ V _ ⟨rfl,an⟩;rw[al,ax] at U;simp only[fE] at U;simp only[bh,ai,aL];refine⟨λao=>⟨?_,I.trans an⟩,λay=>?_⟩
  .rw[U];by_cases h1:x<y
   .rw[if_pos h1,if_pos h1]
   .by_cases W:y<x
    .rw[if_neg h1,if_pos W,if_neg h1,if_pos W]
    .rw[if_neg h1,if_neg W] at ao;exact absurd rfl ao
  .rw[wrap_i64 Ω Ω];refine⟨⟨i+1,rfl,Y,ad,I.trans an,λj az aA aq af ah=>?_⟩,by simp only[bV];omega⟩;by_cases aC:j=i
   .subst aC;rw[ac] at af;rw[ae] at ah;cases af;cases ah;have ap:=Y4.1 ay;by_cases h1:x<y
    .rw[if_pos h1] at ap;omega
    .by_cases W:y<x
     .rw[if_neg h1,if_pos W] at ap;omega
     .omega
   .exact ak j az aA Ω af ah
 .have aD:i=a.length:=Ω
  subst aD;rw[List.drop_length] at U;rw[aV am.u (X.ext I),aV am.u (aa.ext I)];simp only[aP,ai];refine⟨λh=>⟨?_,I⟩,λh=>⟨?_,I⟩⟩
  .obtain⟨y,l,e⟩:∃y l,b.drop a.length=y::l:=⟨_,_,X7 Ω⟩;rw[U,e];rfl
  .have:b.drop a.length=[]:=by rw[List.drop_eq_nil_iff];omega
   rw[U,this];rfl
theorem Ls {x:Int} {V:x1} (h:aB .i64 w V [x,y]):aj x7 GI [V] w λv w'=>v=Δ (if x≠0 then x else y)/\Ext w w':=by
 refine aw func161 ?_;rw[aV am.u h];refine bU.range 2 (λi _ J=>Ext w J/\(1<=i->x=0)/\(2<=i->y=0)) Ω ⟨Ext.refl _,Ω,Ω⟩ ?_ ?_
 .rintro i _ J k hi ⟨I,h1,U⟩ hk;rw[aP,ai];refine⟨λ_=>?_,λh=>by simp at h;omega⟩
  match i,hi,h1,U,hk with
  |0,_,h1,U,hk=>
   rw[ba (i:=0) am.u ag.i Ψ (h.ext I) rfl,bh,ai];refine⟨λW=>⟨by rw[if_pos W],I⟩,λhe=>?_⟩;rw[aL];exact hk _ _ ⟨I,λ_=>Y4.1 he,λh=>Ω⟩
  |1,_,h1,U,hk=>
   rw[ba (i:=1) am.u ag.i Ψ (h.ext I) rfl,bh,ai];have X:=h1 (p9 _);refine⟨λW=>⟨by rw[if_neg Ω],I⟩,λhe=>?_⟩;rw[aL];exact hk _ _ ⟨I,λ_=>X,λ_=>Y4.1 he⟩
 .rintro _ J k ⟨I,h1,U⟩;have X:=h1 Ω;have Y:=U Ω;rw[aP,ai];exact⟨λh=>by simp at h,λ_=>⟨by rw[if_neg Ω,Y],I⟩⟩
structure cj where
 sv:x1
 g:Nat
 sc:Λ
 cs:Λ
def ep (h:cj):List x1:=[h.sv,Γ h.g]
abbrev jx (h:cj):x1:=.agg (ep h).toArray
def p6 (h:cj):Int:=cY h.sc
def iv (w:x3) (I:Nat) (h:cj):Prop:=(∃J,ap .i64 ag w J h.sv h.sc)/\(∀r,leads h.sv r->r≠I)/\iY h.sc
theorem iv.aa {h:cj} (aC:iv w I h) (J:ae S w w') (U:∀r,leads h.sv r->¬S r):iv w' I h:=by
 obtain⟨⟨V,hm⟩,W⟩:=aC;exact⟨⟨V,bn hm J U⟩,W⟩
theorem iv.one {h:cj} (aC:iv w I h):∀u∈ep h,u.oneCell'=true:=by
 obtain⟨⟨J,hm⟩,_⟩:=aC;intro u hu;simp[ep] at hu;rcases hu with rfl|rfl
 .exact hm.ls.cells.2
 .rfl
def eT (w:x3) (g:Nat) (v:x1) (L:List cj):Prop:=bd ep 2 cQ w g v L/\ ∀h∈L,iv w g h
theorem eT.ext {g:Nat} {L:List cj} (h:eT w g v L) (I:Ext w w'):eT w' g v L:=⟨h.1.ext I,λx J=>(h.2 x J).aa (I.aa λ_=>False) λ_ _ h=>h⟩
theorem eT.at {g:Nat} {L:List cj} (h:eT w g v L) {i:Nat} {x:cj} (hi:L[i]? =σ x):iv w g x:=h.2 x (x5 hi)
theorem sA {g:Nat} {L:List cj} {i:Nat} {x:cj} {K:x1->Prop} (I:y=(i:Int)) (h:eT w g v L) (hi:L[i]? =σ x):
  U x7 (j5 fL v (Δ y)) w (λp=>U x7 (u5 cQ p) w K)=K (jx x):=by
 rw[dq I fL.u cQ.i h.1 (x4.1 hi).1,bI cQ.p cQ.i rfl (h.1.range hi)]
theorem Lt {g:Nat} {L:List cj} {i:Nat} {x:cj} {K:Unit->x3->Prop} (W:y=(i:Int)) (h:eT w g v L) (hi:i<L.length) (hk:iv w g x)
  (X:∀w',ae (λr=>leadsTo v r) w w'->eT w' g v (L.set i x)->K () w'):U x7 (j5 fL v (Δ y)) w λp=>ax x7 (o7 cQ p (jx x)) w K:=by
 rw[dq W fL.u cQ.i h.1 hi];refine JE (f:=ep) cQ.i h.1 rfl hk.one hi λw' J _ h'=>X w' J ⟨h',λz I=>?_⟩;rcases X6 I with I|rfl
 .exact (h.2 z I).aa J λr V he=>(h.2 z I).2.1 r V (h.1.leads he).1
 .exact hk.aa J λr V he=>hk.2.1 r V (h.1.leads he).1
abbrev Lu:x1:=.func (.func yU) #[] #[]
def sB (a b:cj):Int:=let c:Int:=if (a.sc.length:Int)<b.sc.length then-1 else if (b.sc.length:Int)<a.sc.length then 1 else 0
 if c≠0 then c else fE a.sc b.sc
theorem Lv {a b:cj} (J:iY a.sc) (U:iY b.sc):sB a b<0↔p6 a<p6 b:=by
 have V:=(vF J U).1;unfold p6 sB;simp only;generalize W:(if (a.sc.length:Int)<b.sc.length then (-1:Int) else if (b.sc.length:Int)<a.sc.length then 1 else 0)=c;rw[V,<-W];by_cases h1:(a.sc.length:Int)<b.sc.length
 .rw[if_pos h1,if_pos Ω];exact⟨λ_=>.inl Ω,λ_=>Ω⟩
 .by_cases I:(b.sc.length:Int)<a.sc.length
  .rw[if_neg h1,if_pos I,if_pos Ω];exact⟨λh=>Ω,λh=>by rcases h with h|h<;>omega⟩
  .rw[if_neg h1,if_neg I,if_neg Ω];exact⟨λh=>.inr ⟨Ω,h⟩,λh=>by rcases h with h|h;omega;exact h.2⟩
theorem Lw {ad:Nat} {a b:cj} (af:iv w ad a) (ah:iv w ad b):aj x7 yU [jx a,jx b] w λv w'=>Ext w w'/\v=Δ (sB a b):=by
 obtain⟨⟨ga,Y⟩,_,aq⟩:=af;obtain⟨⟨au,aa⟩,_,av⟩:=ah;refine aw func160 ?_;refine bm λg1 J ax ai U=>?_;refine bm λak V ay ae W=>?_;have U:ac J g1 cQ [a.sv,Γ a.g]:=by
  obtain⟨_,_,_,e⟩:=df Y.ls;simp only[jx,ep,e] at U ⊢;exact U
 have W:ac V ak cQ [b.sv,Γ b.g]:=by
  obtain⟨_,_,_,e⟩:=df aa.ls;simp only[jx,ep,e] at W ⊢;exact W
 intro az ab _ _;have I:=(ai.trans ae).trans ab;have f1:=(U.ext ae).ext ab;have f2:=W.ext ab;rw[aD cQ.p 0 f1 rfl,aV am.u (Y.ls.ext I),aD cQ.p 0 f2 rfl,aV am.u (aa.ls.ext I),
  aD cQ.p 0 f1 rfl,aD cQ.p 0 f2 rfl]
 refine B8.mono ?_;rintro _ aA _ ⟨rfl,X⟩;refine⟨.inl X,?_⟩;refine (Lr ((Y.ls.ext I).ext X) ((aa.ls.ext I).ext X)).mono ?_;rintro _ aB _ ⟨rfl,al⟩;refine rM (l:=[if (a.sc.length:Int)<b.sc.length then (-1:Int) else if (b.sc.length:Int)<a.sc.length then 1 else 0,fE a.sc b.sc]) am.u ag.i Ω rfl Ψ λaC aE aF aG an ao=>?_;refine (Ls ao.ls).mono ?_;rintro _ aH _ ⟨rfl,ap⟩;exact⟨((((I.trans X).trans al).trans an).trans ap),rfl⟩
theorem Lx {g:Nat} {L:List cj} (h:eT w g v L) (ac:L.length<65536):
  aj x7 GH [v,Lu] w λ_ w'=>ae (λr=>leadsTo v r) w w'/\ ∃M,M.Perm L/\sd p6 M 0 M.length/\eT w' g v M:=by
 have U:∀ {V:x3} {a:cj},ae (λr=>r=g) w V->iv w g a->iv V g a:=λJ I=>I.aa J λr W he=>I.2.1 r W he;refine (Bc JO (G:=iv w g) (num:=p6) (cf:=sB) (cap:=#[]) JS JT (λa I=>I.one) (λa _=>rfl) (λa b I X=>Lv I.2.2 X.2.2) (Enters.of x7 JU rfl Ψ) h.1 h.2 ac λV a b J I X=>Lw (U J I) (U J X)).mono ?_;rintro _ w' _ ⟨J,M,ab,hu,hm⟩;have ad:ae (λr=>r=g) w w':=J.mono λr _ W=>(h.1.leads W).1;exact⟨J,M,ab,λp q x y _ af _ Y ag=>hu p q x y af Y ag,hm,λx Y=>U ad (h.2 x (ab.mem_iff.1 Y))⟩
theorem Ly {m:Λ} (V:ka l) (W:l.Nodup) (J:m.Perm l) (I:m.Pairwise (·<= ·)):m=bj l:=by
 refine vG (f:=λx=>x) ?_ (vE l) λx=>?_
 .have X:m.Nodup:=J.nodup_iff.2 W;exact (List.Pairwise.and I X).imp λ{a b} h=>by
   obtain⟨h1,U⟩:=h;have U:a≠b:=U;omega
 .rw[J.mem_iff,p1 V]
theorem Lz (h:∀z∈l,1<=z/\z<=32) (I:de l=false):aG l<=4096:=by
 have:=of_decide_eq_false I;rw[vI h] at this;omega
theorem LA {f:bY} {d:gE} {x:cm} {m:Bool} {S R:ah} (X:eX N f) (bK:N<=60000) (aB:x∈f.funs) (aY:p4 f.k x d) (aZ:ak.rep m S R w cs d):
  aj x7 GC [.agg cs.toArray] w λv w'=>Ext w w'/\ ∃sv gs aq aC aE,v= .tuple #[sv,Γ aq]/\w.heap.size<=gs/\ap .i64 ag w' gs sv (bj x.scope)/\c0 w' aq aC aE (bS f.sizes (bj x.scope)) f.k (hy f.sizes f.k x).2:=by
 obtain⟨sv,ad,bL,aI,bM,rfl,au,a1⟩:=sy aZ;obtain⟨a2,a6,a7,bN,bO,a8⟩:=aY;obtain⟨U,bb,bc⟩:=X.funs x aB;have aK:=sj U X.sizes.2.1;have bP:=U.len;rw[a2] at au;have bd:∀z∈x.sizes,1<=z/\z<=32:=λz aM=>by
  rw[U.sizes] at aM;obtain⟨v,be,rfl⟩:=o8.1 aM;have bQ:=U.scope.2 v be;refine X.sizes.2.2 _ ?_;rw[u4,x6 Ω];exact R5 _
 have bh:=Lz bd bc;have aG:=si aK U.scope.1;have bR:(bj x.scope).length<=6:=by rw[aG.length_eq];exact bb
 refine aw func151 ?_;refine bm λan J bU aN af=>?_;have af:ac J an cv [sv,Γ ad]:=by obtain⟨_,_,_,rfl⟩:=df au;exact af
 rw[aD cv.p 1 af rfl];refine (BS (a1.ext aN).is Ω).mono ?_;rintro _ V _ ⟨aH,_,ai⟩;rw[a6] at ai;obtain⟨g,bV,bW,bi,rfl,bX,bZ,ai,aO⟩:=ai bh;rw[a7] at ai;rw[bf,bg,aD cv.p 0 (af.ext aH) rfl];have al:=aN.trans aH;refine vL (au.ext al) Ω λv aP gs b0 av b1 bk I ax=>?_;have bn:=Ly aK U.scope.1 bk I;subst bn;have b2:=al.size;rw[aV am.u ax.ls];refine iR (k:=.i64) am.u ag.i Ω Ω λgo aQ b3 ay aR=>?_;have bo:ap .i64 ag aQ go (.slice (σ ⟨go,0,ν⟩) (bj x.scope).length (bj x.scope).length) (p8 (bj x.scope).length 0):=ap.of (bT.full (k:=1) (n:=(bj x.scope).length) aR Ξ (by simp[maxLen];omega));rw[aV am.u (ax.ls.ext ay)];have b4:=aR.lt;have az:(fF x.scope (bj x.scope)).length=(bj x.scope).length:=by simp[fF]
 have bp:=av.trans ay;have b5:=al.trans bp;refine ce.range (bj x.scope).length (λi W=>ae (λr=>r=go) aQ W/\ap .i64 ag W go (.slice (σ ⟨go,0,ν⟩) (bj x.scope).length (bj x.scope).length) ((fF x.scope (bj x.scope)).take i++p8 ((bj x.scope).length-i) 0)) Ω ⟨ae.refl _ _,by simpa using bo⟩ ?_ ?_
 .rintro i W k hi ⟨aA,ao⟩ hk;obtain⟨v,aJ⟩:=aF (l:=(bj x.scope)) hi;have Y:Ext aP W:=ay.put aA Ω;have bq:Ext w W:=(al.trans av).trans Y;have br:v∈x.scope:=aG.mem_iff.1 (x5 aJ);refine bB Ω ?_;rw[ba am.u ag.i Ψ (ax.ls.ext Y) aJ];have bt:Ext J W:=(aH.trans av).trans Y;rw[aD cv.p 0 (af.ext bt) rfl];refine (BY (au.ext bq)).mono ?_;rintro _ bu _ ⟨ab,r,rfl,bw⟩;have aS:=oM br;have bx:r=((x.scope.idxOf v:Nat):Int):=(bw _ aS).2 λj b7 bz=>by have:=j3 U.scope.1 bz aS;omega
  rw[hs rfl am.u ag.i (ao.ext ab) (by simp[az];omega)];refine ht ag.i (ao.ext ab) (by simp[az];omega) λb8 bA b9 aT=>?_;rw[aL];refine hk _ ⟨(aA.trans (ab.aa _)).trans bA,?_⟩;have bC:(fF x.scope (bj x.scope))[i]? =σ r:=by rw[bx];exact BM aJ
  have e:((fF x.scope (bj x.scope)).take i++p8 ((bj x.scope).length-i) 0).set i r=(fF x.scope (bj x.scope)).take (i+1)++p8 ((bj x.scope).length-(i+1)) 0:=by
   have bD:((fF x.scope (bj x.scope)).take i).length=i:=by rw[j0,az];omega
   rw[U9 _ _ Ω,bD,V7,show (bj x.scope).length-i=((bj x.scope).length-(i+1))+1 by omega,List.replicate_succ,List.set_cons_zero,r8,bC,l9,U8];rfl
  rw[e] at aT;exact aT
 .rintro W k ⟨aA,ao⟩;have Y:Ext aP W:=ay.put aA Ω;have aU:Ext V W:=av.trans Y;refine b6 Ω ?_;rw[V7,List.replicate_zero,U5,j6 Ω] at ao;have bE:∀t,c5 x.sizes t->bl x.sizes bi t=jr x f.k t:=λt bF=>by rw[aO.2 t bF];exact a8 t
  obtain⟨aW,bG⟩:=KB X aB aO.1 bE;have bH:Good (fF x.scope (bj x.scope)) x.sizes.length:=by
   rw[U.sizes,u7];exact sn U.scope.1 aG
  have bI:=(oL X aB);refine (Lf (ai.ext aU) X.k ao.ls (by rw[az];omega) λ_=>?_).mono ?_
  .rw[aW];exact bI.small
  .rintro _ bu _ ⟨ab,_,bJ⟩;obtain⟨aq,aC,aE,rfl,aX⟩:=bJ bH;rw[bf,bg];rw[aW,bG] at aX;exact⟨(al.trans aU).trans ab,v,gs,aq,aC,aE,rfl,Ω,(ax.ext Y).ext ab,aX⟩
theorem LB {P:W0} {t Y J:r9} {k ab g o cap:Nat} {z:x1} (U:P.underlying t=σ (.slice e)) (hi:aO P e k ab z) (ad:z.cells.size=k) (h1:∀u∈dI z.cells (n*k),u.oneCell'=true)
  (I:ac w g J cs) (ak:o+n*k<=cs.length) (V:∀w',ae (λr=>r=g) w w'->ac w' g J (over cs o (dI z.cells (n*k)))->K (.tuple #[]) w'):ax P (Z0.clear_ #[t] Y #[.slice (σ ⟨g,o,ν⟩) n cap]) w K:=by
 obtain⟨i,hi,al,rfl,af⟩:=hi;have ag:∀w,(zeroValue e).run P w= .ok z w:=λw=>by simp[zeroValue,typeInfo,hi,af]
 have ah:(Z0.zeroCells z.cells n).toList=dI z.cells (n*k):=by
  unfold Z0.zeroCells dI;rw[ad]
 have W:=run_storeCells_cells (P:=P) g o (dI z.cells (n*k)) 0 w (λj ai=>by
   rw[oa] at ai;rw[Nat.add_zero,I.cell (x6 (show o+j<cs.length by omega))];rfl) (λj _=>I.frozen _ _) h1
 simp only[Nat.add_zero] at W;obtain⟨aj,X⟩:=mX (dI z.cells (n*k)) cs o w I;rcases R4 n with rfl|am
 .refine .of (v:=.tuple #[]) (w':=w) (by simp[Z0.clear_,run_underlying U]) (cG.refl _) (V w (ae.refl _ _) ?_);rw[Nat.zero_mul,j9 (oa z.cells 0)];exact I
 .obtain⟨m,rfl⟩:∃m,n=m+1:=⟨n-1,Ω⟩;refine .of (v:=.tuple #[]) (w':=_) (by simp[Z0.clear_,run_underlying U,ag,ah,W]) (X.ck I) (V _ X.aa aj)
theorem dV {α:Type} {f:α->List x1} {k:Nat} {g:Nat} {L:List α} (h:bd f k e w g v L) (I:leadsTo v r):r=g/\ ∃cs,ac w g e cs:=by
 obtain⟨_,⟨rfl,_⟩|⟨cap,cs,rfl,J,_⟩⟩:=h.1
 .exact (fa I).elim
 .obtain⟨a,n,c,h1,U⟩:=I;cases h1;exact⟨U.symm,cs,J⟩
theorem LC {α:Type} {f:α->List x1} {k:Nat} {g:Nat} {L:List α} (h:bd f k e w g v L) (I:L≠[]):∃cs n c,v= .slice (σ ⟨g,0,ν⟩) n c/\ac w g e cs:=by
 obtain⟨_,⟨rfl,J⟩|⟨cap,cs,rfl,U,_⟩⟩:=h.1
 .exact absurd (j9 J) I
 .exact⟨cs,_,_,rfl,U⟩
theorem eT.mk {g:Nat} {L:List cj} (h:bd ep 2 cQ w g v L) (J:∀x∈L,(∃U,ap .i64 ag w U x.sv x.sc)/\iY x.sc):eT w g v L:=by
 refine⟨h,λx I=>⟨(J x I).1,λr V=>?_,(J x I).2⟩⟩;obtain⟨cs,n,c,_,W⟩:=LC h (λX=>by rw[X] at I;cases I);obtain⟨⟨U,hm⟩,_⟩:=J x I;exact b3 hm W Φ V
def Sem (w:x3) (k:Int) (sizes:Λ) (L:List cj):Prop:=∀x∈L,∃I J,c0 w x.g I J (bS sizes x.sc) k x.cs
theorem vP {g X:Nat} {Y:x1} {cs:Λ} (h:c0 w g X Y af k cs) (U:ae S w w') (V:∀r,S r-> ∃c,ac w r cQ c):c0 w' g X Y af k cs:=by
 obtain⟨⟨aW,gs,h1,ab,ad⟩,ag⟩:=h;refine⟨⟨aW,gs,h1.aa U λI=>?_,bn ab U λr W I=>?_,bn ad U λr W I=>?_⟩,ag⟩
 .obtain⟨c,J⟩:=V g I;unfold ac at h1 J;rw[h1] at J;have:=(Obj.cells.inj (c9 J)).2.1;exact absurd this Φ
 .obtain⟨c,J⟩:=V r I;exact b3 ab J Φ W rfl
 .obtain⟨c,J⟩:=V r I;exact b3 ad J Φ W rfl
theorem Sem.ext {L:List cj} (h:Sem w k sizes L) (I:Ext w w'):Sem w' k sizes L:=λx J=>by
 obtain⟨U,V,W⟩:=h x J;exact⟨U,V,W.ext I⟩
theorem Sem.row {L M:List cj} {g:Nat} (h:Sem w k sizes L) (I:eT w g v M) (J:ae (λr=>leadsTo v r) w w'):Sem w' k sizes L:=λx U=>by
 obtain⟨V,W,X⟩:=h x U;exact⟨V,W,vP X J λr Y=>by obtain⟨rfl,c,aa⟩:=dV I.1 Y;exact⟨c,aa⟩⟩
def dN (h:cj):cF:=(h.sc,h.cs)
theorem LD {c:Int}:aj x7 uv [Δ c] w λv w'=>v= .bool (decide (0<c))/\Ext w w':=by
 refine aw func157 ?_;rw[bM];exact⟨rfl,Ext.refl _⟩
theorem LF (h:aB .i64 w sv l):
  aj x7 GF [sv,.func (.func uv) #[] #[]] w λv w'=>v= .bool (l.any λc=>decide (0<c))/\Ext w w':=by
 refine aw func156 ?_;refine aj.mono (K:=λv w'=>Ext w w'/\ ∃r:Int,v=Δ r/\(0<=r↔ ∃c∈l,0<c)) ?_ ?_
 .refine aw func204 ?_;rw[aV aq.u h];refine bU.range l.length (λi _ J=>Ext w J/\ ∀c∈l.take i,¬0<c) h.le ⟨Ext.refl _,λc I=>by simp at I⟩ ?_ ?_
  .rintro i _ J k hi ⟨U,X⟩ hk;refine bB Ω ?_;obtain⟨x,Y⟩:=aF (l:=l) hi;rw[ba aq.u al.i Ψ (h.ext U) Y];show aj x7 uv [Δ x] J _;refine LD.mono ?_;rintro _ V _ ⟨rfl,aa⟩;rw[ai];refine⟨λW=>⟨U.trans aa,i,rfl,⟨λ_=>⟨x,x5 Y,W⟩,λ_=>Ω⟩⟩,λab=>?_⟩;rw[aL];refine hk _ _ ⟨U.trans aa,λc I=>?_⟩;rw[r8,Y] at I;rcases l7.1 I with I|I
   .exact X c I
   .simp at I;subst I;exact ab
  .rintro _ J k ⟨U,X⟩;rw[o6] at X;rw[aP,ai];exact⟨λh=>Ω,λ_=>⟨U,-1,rfl,⟨λh=>Ω,λ⟨c,I,W⟩=>absurd W (X c I)⟩⟩⟩
 .rintro _ J _ ⟨U,r,rfl,ac⟩;rw[cK];refine⟨?_,U⟩;congr 1;rw[V5,decide_eq_true_eq,List.any_eq_true,ac];exact⟨λ⟨c,I,W⟩=>⟨c,I,decide_eq_true W⟩,λ⟨c,I,W⟩=>⟨c,I,of_decide_eq_true W⟩⟩
theorem B9 {W X:Nat} {x:cj} {Y:x1} (aa:iv w W x) (ab:c0 w x.g X Y af k x.cs):aj x7 pq [jx x] w λv w'=>v= .bool (!fo (dN x))/\Ext w w':=by
 obtain⟨⟨ah,hm⟩,_⟩:=aa;refine aw func155 ?_;refine bm λan J ai U I=>?_;have I:ac J an cQ [x.sv,Γ x.g]:=by
  obtain⟨_,_,_,e⟩:=df hm.ls;simp only[jx,ep,e] at I ⊢;exact I
 rw[aD cQ.p 1 I rfl];refine (md (ab.ext U)).mono ?_;rintro ak V _ ⟨ad,al,am,ae⟩;refine (LF ae.ls).mono ?_;rintro _ ao _ ⟨rfl,ag⟩;rw[bu];exact⟨rfl,(U.trans ad).trans ag⟩
theorem LG {g:Nat} {L:List cj} (h:eT w g v L) (I:Sem w k sizes L):
  aj x7 yS [v,.func (.func pq) #[] #[]] w λr w'=>Ext w w'/\((r=Δ (-1)/\ ∀x∈L,fo (dN x)=true)\/ ∃i:Nat,r=Δ (i:Int)/\i<L.length/\(∀x∈L.take i,fo (dN x)=true)/\ ∀x,L[i]? =σ x->fo (dN x)=false):=by
 refine aw func152 ?_;rw[eY fL.u h.1];refine bU.range L.length (λi _ J=>Ext w J/\ ∀x∈L.take i,fo (dN x)=true) h.1.le ⟨Ext.refl _,λc U=>by simp at U⟩ ?_ ?_
 .rintro i _ J k hi ⟨W,X⟩ hk;refine bB Ω ?_;obtain⟨x,Y⟩:=aF (l:=L) hi;rw[sA rfl (h.ext W) Y];show aj x7 pq [jx x] J _;obtain⟨af,ag,ac⟩:=I x (x5 Y);refine (B9 ((h.ext W).at Y) (ac.ext W)).mono ?_;rintro _ V _ ⟨rfl,aa⟩;rw[cz];refine⟨λad=>⟨W.trans aa,.inr ⟨i,rfl,hi,X,λy ab=>by rw[Y] at ab;cases ab;simpa using ad⟩⟩,λae=>?_⟩;rw[aL];refine hk _ _ ⟨W.trans aa,λc U=>?_⟩;rw[r8,Y] at U;rcases l7.1 U with U|U
  .exact X c U
  .simp at U;subst U;simpa using ae
 .rintro _ J k ⟨W,X⟩;rw[o6] at X;rw[aP,ai];exact⟨λh=>Ω,λ_=>⟨W,.inl ⟨rfl,X⟩⟩⟩
def fG (x:cj):Bool:=fo (dN x)
theorem vQ {L:List cj} {x:cj} (I:L[j]? =σ x):(L.take (j+1)).filter fG=if fG x=true then (L.take j).filter fG++[x] else (L.take j).filter fG:=by
 rw[r8,I,l9,List.filter_append];by_cases h:fG x=true
 .rw[if_pos h];simp[h]
 .rw[if_neg h];simp[h]
theorem Ca {z:Array x1} (I:0<z.size) (h:∀u∈z.toList,u.oneCell'=true):∀u∈dI z n,u.oneCell'=true:=λu hu=>by
 unfold dI at hu;rw[Array.toList_map,o8] at hu;obtain⟨i,_,rfl⟩:=hu;have J:i % z.size<z.size:=Nat.mod_lt _ I;rw[getElem!_pos z (i % z.size) J];exact h _ Ξ
theorem LH {g:Nat} {L:List cj} (h:eT w g v L) (I:Sem w k sizes L) (bx:L.length<=100000):
  aj x7 GG [v,.func (.func pq) #[] #[]] w λX w'=>ae (λr=>leadsTo v r) w w'/\eT w' g X (L.filter fG)/\ ∀r,leadsTo X r->leadsTo v r:=by
 refine aw func158 ?_;refine (LG h I).mono ?_;rintro r J _ ⟨ak,Y⟩;rcases Y with⟨rfl,aq⟩|⟨au,rfl,aW,aq,aX⟩
 .rw[be,ai];refine⟨λ_=>⟨ak.aa _,?_,λr Y=>Y⟩,λh=>absurd rfl h⟩;rw[List.filter_eq_self.2 (show ∀x∈L,fG x=true from aq)];exact h.ext ak
 rw[be,ai];refine⟨λh=>Ω,λ_=>?_⟩;rw[aL,wrap_i64 Ω Ω];obtain⟨ay,aG⟩:=aF (l:=L) aW;refine⟨λaz aA V=>∃ (i j:Nat) (M:List cj),az=Δ (i:Int)/\aA=Δ (j:Int)/\i<j/\j<=L.length/\M.length=L.length/\M.take i=(L.take j).filter fG/\M.drop j=L.drop j/\(∀x∈M,x∈L)/\eT V g v M/\ae (λr=>leadsTo v r) w V,
  λ_ aA _=>L.length-(bV aA).toNat,⟨au,au+1,L,rfl,by congr 1,Ω,Ω,rfl,?_,rfl,λx ab=>ab,h.ext ak,ak.aa _⟩,?_⟩
 .have aY:¬fG ay=true:=by rw[show fG ay=false from aX ay aG];simp
  rw[vQ aG,if_neg aY,List.filter_eq_self.2 (show ∀x∈L.take au,fG x=true from aq)]
 rintro _ _ V ⟨i,j,M,rfl,rfl,bz,bA,aH,ad,aI,aJ,W,al⟩;have aZ:Sem V k sizes L:=I.row h al;rw[eY fL.u W.1,aP,ai];refine⟨λaB=>?_,λbB=>?_⟩
 .have aB:j<L.length:=Ω
  obtain⟨x,ab⟩:=aF (l:=L) aB;have am:M[j]? =σ x:=by
   have h1:(M.drop j)[0]? =(L.drop j)[0]?:=by rw[aI]
   rw[List.getElem?_drop,List.getElem?_drop,Nat.add_zero] at h1;rw[h1,ab]
  have aK:M.drop (j+1)=L.drop (j+1):=by
   have h1:(M.drop j).drop 1=(L.drop j).drop 1:=by rw[aI]
   rw[List.drop_drop,List.drop_drop] at h1;exact h1
  refine aR (λaz ao=>∃ (ag:Nat) (ac:List cj),az=Δ (ag:Int)/\ag<j+1/\ac.length=L.length/\ac.take ag=(L.take (j+1)).filter fG/\ac.drop (j+1)=L.drop (j+1)/\(∀x∈ac,x∈L)/\eT ao g v ac/\ae (λr=>leadsTo v r) w ao) ?_ ?_
  .rintro _ ao ⟨ag,ac,rfl,h1,aC,a1,a2,a6,a7,a8⟩;rw[aL,wrap_i64 Ω Ω];exact⟨⟨ag,j+1,ac,rfl,rfl,h1,aB,aC,a1,a2,a6,a7,a8⟩,by simp only[bV];omega⟩
  .intro av aM;rw[sA rfl W am];refine bN cQ.i λan ao bC ba bb=>?_;refine cc (vs:=ep x) cQ.i rfl rfl (W.at am).one bb λaN bc bD aO=>?_;have aD:Ext V aN:=ba.put bc Ω;rw[bI cQ.p cQ.i rfl aO.range];show aj x7 pq [jx x] aN _;obtain⟨bE,bF,bd⟩:=aZ x (x5 ab);refine (B9 ((W.ext aD).at am) (bd.ext aD)).mono ?_;rintro _ bG _ ⟨rfl,aQ⟩;have ah:=aD.trans aQ;rw[bu,Bool.not_not,cz];refine⟨λhk=>?_,λbf=>?_⟩
   .rw[bI cQ.p cQ.i rfl (aO.ext aQ).range];refine Lt rfl (W.ext ah) Ω ((W.ext ah).at am) λbH bg bh=>?_;rw[aL,wrap_i64 Ω Ω];refine aM _ _ ⟨i+1,M.set i x,rfl,Ω,by simp[aH],?_,?_,λy af=>?_,bh,(al.trans (ah.aa _)).trans bg⟩
    .have aE:fG x=true:=hk;rw[vQ ab,if_pos aE,r8,c7 Ω,l9,List.take_set_of_le (p9 _),ad]
    .rw[List.drop_set_of_lt Ω,aK]
    .rcases X6 af with af|rfl
     .exact aJ y af
     .exact x5 ab
   .have aE:¬fG x=true:=by rw[show fG x=false from bf];simp
    exact aM _ _ ⟨i,M,rfl,Ω,aH,by rw[vQ ab,if_neg aE,ad],aK,aJ,W.ext ah,al.trans (ah.aa _)⟩
 .have bi:j=L.length:=Ω
  subst bi;rw[o6] at ad;obtain⟨⟨bJ,bj⟩,aS⟩:=W.1;rcases bj with⟨_,bK⟩|⟨cap,cs,bk,bl,bL,bm,bn,bo⟩
  .omega
  subst bk;have bp:(U x7 (V3 fL (.slice (σ ⟨g,0,ν⟩) M.length cap) (σ (Δ (i:Int))) ν ν) V λbq=>
    ax x7 (Z0.clear_ #[fL] HG #[bq]) V λu ap=>
    U x7 (V3 fL (.slice (σ ⟨g,0,ν⟩) M.length cap) ν (σ (Δ (i:Int))) ν) ap λbr=>
    (λX w'=>ae (λr=>leadsTo (.slice (σ ⟨g,0,ν⟩) M.length cap) r) w w'/\eT w' g X (L.filter fG)/\ ∀r,leadsTo X r->leadsTo (.slice (σ ⟨g,0,ν⟩) M.length cap) r) br ap):=by
   rw[ii (l:=i) (h:=M.length) (m:=cap) fL.u cQ.i (mV i _ rfl) jS fO Ω Ω (p9 _),if_neg Ω];simp only[Z2,T2];refine LB (g:=g) (o:=0+i*2) (n:=M.length-i) (k:=2) fL.u cQ.i rfl ?_ bl Ω λap aT bt=>?_
   .exact Ca Φ Φ
   rw[ii (l:=0) (h:=i) (m:=cap) fL.u cQ.i jR (mW i _ rfl) fO Ω Ω (p9 _),if_neg Ω];simp only[Z2,T2,Nat.zero_mul,X1,Nat.sub_zero];have bw:(dI (x1.agg #[.slice ν 0 0,.pointer ν]).cells ((M.length-i)*2)).length=(M.length-i)*2:=oa _ _;have bM:(M.flatMap ep).length=M.length*2:=hW aS;have aU:(L.filter fG).length=i:=by rw[<-ad,j0];omega
   have key:(λX w'=>ae (λr=>leadsTo (.slice (σ ⟨g,0,ν⟩) M.length cap) r) w w'/\eT w' g X (L.filter fG)/\ ∀r,leadsTo X r->leadsTo (.slice (σ ⟨g,0,ν⟩) M.length cap) r) (.slice (σ ⟨g,0,ν⟩) (L.filter fG).length cap) ap:=by
    refine⟨al.trans (aT.mono λr _ he=>⟨_,_,_,rfl,he.symm⟩),⟨⟨⟨hW (k:=2) (λy _=>rfl),.inr ⟨cap,_,rfl,bt,Ω,bm,by rw[l0,bn],?_⟩⟩,λy _=>rfl⟩,λy af=>?_⟩,λr Y=>?_⟩
    .rw[aU,<-ad,<-pV i aS,<-bo,List.take_take,l1 (by rw[bw];omega),U8,List.take_append_of_le_length (by rw[j0];omega),List.take_take];congr 1;omega
    .have aV:y∈M:=by rw[<-ad] at af;exact S8 af
     exact (W.2 y aV).aa aT λr Y he=>(W.2 y aV).2.1 r Y he
    .obtain⟨a,n,c,h1,aC⟩:=Y;cases h1;exact⟨_,_,_,rfl,aC⟩
   rw[aU] at key;exact key
  exact bp
theorem vR {k:o4} {g cap:Nat} {b:Option Addr} (h:ap k e w g (.slice b n cap) l) (X:0<l.length):
  b=σ ⟨g,0,ν⟩/\n=l.length/\ ∃cs,ac w g e cs/\n<=cap/\cap<=maxLen/\cs.length=cap/\cs.take n=ints k l:=by
 obtain⟨_,⟨_,h1⟩|⟨Y,cs,h1,I,J,U,V,W⟩⟩:=h
 .omega
 .cases h1;exact⟨rfl,rfl,cs,I,J,U,by simpa using V,by simpa using W⟩
theorem LI {g cap:Nat} (h:ap .i64 ag w g (.slice (σ ⟨g,0,ν⟩) n cap) l) (U:j<l.length):aB .i64 w (.slice (σ ⟨g,j,ν⟩) (n-j) (cap-j)) (l.drop j):=by
 obtain⟨_,V,cs,I,h1,W,X,J⟩:=vR h Ω;have:=If (o:=j) (k:=n-j) (c:=cap-j) I Ω Ω Ω;refine aB.of (n:=n-j) ?_;have e:(cs.drop j).take (n-j)=ints .i64 (l.drop j):=by
  rw[<-List.drop_take,J,ints,ints,List.map_drop]
 rw[e] at this;exact this
theorem LJ {g:Nat} (h:ap .i64 ag w g sv l) (bn:l.length<=1000):
  aj x7 G7 [sv] w λv w'=>ae (λr=>r=g) w w'/\ap .i64 ag w' g v (dedup l l.length):=by
 refine aw func199 ?_;rw[aV am.u h.ls];simp only[aP,ai];refine⟨λbo=>⟨ae.refl _ _,?_⟩,λbp=>?_⟩
 .rw[sx (p9 _) (λi hi aC=>Ω),o6];exact h
 obtain⟨n,X⟩:∃n,l.length=n:=⟨_,rfl⟩;obtain⟨cap,rfl⟩:∃cap,sv= .slice (σ ⟨g,0,ν⟩) n cap:=by
  obtain⟨_,⟨_,h1⟩|⟨aT,cs,h1,_⟩⟩:=id h
  .omega
  .exact⟨aT,by rw[h1,X]⟩
 obtain⟨_,_,_,_,bq,aU,_⟩:=vR h Ω;refine⟨λ_ t J=>∃j:Nat,t=Δ (j:Int)/\1<=j/\j<=n/\Ext w J/\ ∀i,i<j->0<i->l[i]? ≠l[i-1]?,λ_ t _=>n-(bV t).toNat,⟨1,rfl,Ω,Ω,Ext.refl _,λi h1 aD=>Ω⟩,?_⟩;rintro br _ J ⟨j,rfl,bt,aE,Y,ak⟩;rw[aV am.u (h.ls.ext Y)];simp only[aP,ai,eh];refine⟨λaW V aX _ _=>?_,λbu=>⟨Y.aa _,?_⟩⟩
 .have aW:j<n:=Ω
  have ab:=Y.trans aX;have aG:=h.ls.ext ab;obtain⟨a,al⟩:=aF (l:=l) (i:=j) Ω;obtain⟨b,an⟩:=aF (l:=l) (i:=j-1) Ω;rw[ba am.u ag.i Ψ aG al];simp only[dP];rw[wrap_i64 Ω Ω,fP (i:=j-1) Ω am.u ag.i Ψ aG an];simp only[be,ai,aL];refine⟨λao=>?_,λao=>?_⟩
  .subst ao;rw[ii am.u ag.i (l:=j) (h:=n) (m:=cap) rA jS fO Ω Ω Ω,if_neg Ω];have aY:V6 (λx:Addr=>x.add (j*1)) (σ ⟨g,0,ν⟩)=σ ⟨g,j,ν⟩:=by simp[T2]
   rw[aY];have aH:dedup l (j+1)=l.take j:=by rw[vM Ω (by rw[al,an]),sx Ω ak]
   refine⟨λaq t au=>∃ (q I:Nat) (U:Λ),aq=Δ (q:Int)/\t=Δ (I:Int)/\1<=I/\j+I<=n/\ae (λr=>r=g) w au/\ap .i64 ag au g (.slice (σ ⟨g,0,ν⟩) n cap) U/\U.length=n/\
     q=(dedup l (j+I)).length/\U.take q=dedup l (j+I)/\q<=j+I-1/\ ∀i,j+I-1<=i->U[i]? =l[i]?,λ_ t _=>n-(bV t).toNat,
    ⟨j,1,l,rfl,rfl,Ω,Ω,ab.aa _,h.ext ab,X,by rw[aH,j0];omega,by rw[aH],Ω,λi _=>rfl⟩,?_⟩
   rintro _ _ au ⟨q,I,U,rfl,rfl,bw,bx,ax,aI,aJ,aK,ac,aZ,ad⟩;rw[hL am.u];simp only[aP,ai,eh];refine⟨λaM=>?_,λaM=>?_⟩
   .have aM:j+I<n:=Ω
    refine aR (λaq ay=>∃ (q:Nat) (U:Λ),aq=Δ (q:Int)/\ae (λr=>r=g) w ay/\ap .i64 ag ay g (.slice (σ ⟨g,0,ν⟩) n cap) U/\U.length=n/\
     q=(dedup l (j+(I+1))).length/\U.take q=dedup l (j+(I+1))/\q<=j+(I+1)-1/\ ∀i,j+(I+1)-1<=i->U[i]? =l[i]?) ?_ ?_
    .rintro _ ay ⟨q,U,rfl,h1,aD,a1,a2,a6,a7,a8⟩;simp only[aL];rw[wrap_i64 Ω Ω];exact⟨⟨q,I+1,U,rfl,rfl,Ω,Ω,h1,aD,a1,a2,a6,a7,a8⟩,by simp only[bV];omega⟩
    .intro av aN bz az _ _;have af:=aI.ext az;have aA:=LI (j:=j) af Ω;obtain⟨y,ah⟩:=aF (l:=l) (i:=j+I) Ω;obtain⟨z,aB⟩:=aF (l:=l) (i:=j+I-1) Ω;have aO:(U.drop j)[I]? =σ y:=by rw[List.getElem?_drop,ad _ Ω,ah]
     have bb:(U.drop j)[I-1]? =σ z:=by rw[List.getElem?_drop,ad _ Ω,<-aB];congr 1;omega
     rw[ba am.u ag.i Ψ aA aO];simp only[dP];rw[wrap_i64 Ω Ω,fP (i:=I-1) Ω am.u ag.i Ψ aA bb];simp only[bh,ai,aL];refine⟨λW=>?_,λW=>?_⟩
     .rw[ba am.u ag.i Ψ aA aO,hs rfl am.u ag.i af Ω];refine ht ag.i af Ω λbA bc bB bd=>?_;rw[wrap_i64 Ω Ω];have aQ:dedup l (j+I+1)=dedup l (j+I)++[y]:=vN ah (λ_=>by rw[ah,aB];simpa using W);refine aN _ _ ⟨q+1,_,rfl,(ax.trans (az.aa _)).trans bc,bd,by simpa using aJ,?_,?_,Ω,λi hi=>?_⟩
      .rw[<-S2,aQ];simp;omega
      .rw[<-S2,aQ,r8,c7 Ω,List.take_set_of_le (p9 _),ac];rfl
      .rw[Y5 Ω];exact ad i Ω
     .have W:y=z:=Y4.1 W;have aS:dedup l (j+I+1)=dedup l (j+I):=vM Ω (by rw[ah,aB,W]);exact aN _ _ ⟨q,U,rfl,ax.trans (az.aa _),af,aJ,by rw[<-S2,aS];exact aK,by rw[<-S2,aS];exact ac,Ω,λi hi=>ad i Ω⟩
   .have hk:j+I=n:=Ω
    rw[hk] at aK ac aZ;obtain⟨_,_,cs,bf,_,_,bC,bg⟩:=vR aI Ω;simp only[maxLen] at aU;rw[ii am.u ag.i (l:=q) (h:=n) (m:=cap) rA jS fO Ω Ω Ω,if_neg Ω];have bi:V6 (λx:Addr=>x.add (q*1)) (σ ⟨g,0,ν⟩)=σ ⟨g,q,ν⟩:=by simp[T2]
    rw[bi];refine Ig am.u ag.i rfl rfl bf Ω Ω λbD bj bE bk=>?_;rw[ii am.u ag.i (l:=0) (h:=q) (m:=cap) jR rB fO Ω Ω Ω,if_neg Ω];have bl:V6 (λx:Addr=>x.add (0*1)) (σ ⟨g,0,ν⟩)=σ ⟨g,0,ν⟩:=by simp[T2]
    rw[bl,X];refine⟨ax.trans bj,?_⟩;rw[<-ac];refine ap.of (n:=q) ⟨Θ,.inr ⟨cap,_,Ξ,bk,Ω,by simp only[maxLen];omega,by rw[l0];omega,?_⟩⟩;rw[U6];apply Y8;intro i;by_cases hi:i<q
    .rw[Y3 hi,n8 _ _ _ Θ,if_neg Ω,ints,x8,Y3 hi];have:(cs.take n)[i]? =(ints .i64 U)[i]?:=by rw[bg]
     rw[Y3 Ω,ints,x8] at this;exact this
    .rw[Z5 Θ,Z5 Θ]
  .rw[wrap_i64 Ω Ω];refine⟨⟨j+1,rfl,Ω,Ω,ab,λi hi aC=>?_⟩,by simp only[bV];omega⟩;by_cases bm:i=j
   .subst bm;rw[al,an];intro he;exact ao (c9 he)
   .exact ak i Ω aC
 .have aE:j=n:=Ω
  rw[sx (p9 _) (by rw[X,<-aE];exact ak),o6];exact h.ext Y
theorem LK (ac:n<=1000000):aj x7 Hq [.slice ν 0 0,Δ (n:Int)] w λv w'=>Ext w w'/\ ∃g,w.heap.size<=g/\ap .i64 ag w' g v []:=by
 refine aw func229 ?_;refine db (λJ=>w=J) ?_ ?_
 .rintro _ rfl;refine aR (λv w'=>Ext w w'/\ ∃g,w.heap.size<=g/\ap .i64 ag w' g v []) (λ_ _ h=>h) λav I=>?_;rw[zF am.u,hL am.u];simp only[dP];have U:Y9.wrap (((0:Nat):Int)-((0:Nat):Int))=0:=Φ
  have V:Y9.wrap ((n:Int)-0)=n:=by rw[wrap_i64 Ω Ω];omega
  rw[U,V];simp only[bM,ai];refine⟨λh=>?_,λh=>I _ _ ⟨Ext.refl _,w.heap.size,p9 _,ap.nil _ _ _ _⟩⟩;rw[zF am.u,ii am.u ag.i (l:=0) (h:=0) (m:=0) jR rB fO Ω Ω Ω,if_pos rfl];refine Ie (k:=n) (xs:=[]) rfl am.u ag.u ag.i rfl ⟨rfl,0,0,ν,0,rfl,p9 _,X2 _,λh=>absurd h (Nat.lt_irrefl _),λj v h=>by simp at h⟩ Ω Ω Ω Ω λv g w' ad W hm=>?_;obtain⟨_,⟨_,ae⟩|⟨cap,cs,rfl,X,h1,Y,aa,af⟩⟩:=hm
  .omega
  rw[hL am.u,ii am.u ag.i (l:=0) (h:=0) (m:=cap) jR rB fO Ω Ω Ω,if_neg Ω];have ab:V6 (λx:Addr=>x.add (0*1)) (σ ⟨g,0,ν⟩)=σ ⟨g,0,ν⟩:=by simp[T2]
  rw[ab];refine I _ _ ⟨W,g,Ω,ap.of (n:=0) ⟨Ξ,.inr ⟨cap,cs,Ξ,X,Ω,Y,aa,Ξ⟩⟩⟩
 .intro av I;simp only[aP,ai];exact⟨λh=>Ω,λ_=>I _ rfl⟩
theorem LL {b:Λ} (aq:aB .i64 w bb a) (au:aB .i64 w bv b) (aD:a.length<=1000) (aE:b.length<=1000)
  (aF:∀v w' g,Ext w w'->w.heap.size<=g->ap .i64 ag w' g v (a++b)->K v w'):
  ax x7 (Z9 cO 2 #[(0,bb),(1,bv)]) w λt J=>aj x7 G8 [t] J K:=by
 obtain⟨⟨ad,ae,af,aG⟩,⟨ah,ak,al,aH⟩⟩:(∃x n c,bb= .slice x n c)/\(∃x n c,bv= .slice x n c):=by
  obtain⟨_,_,_,x,c,h1,_⟩:=id aq;obtain⟨_,_,_,y,d,aI,_⟩:=id au;exact⟨⟨x,_,c,h1⟩,⟨y,_,d,aI⟩⟩
 subst aG;subst aH;refine jT cO.u am.i Ω (cs:=#[.slice ad ae af,.slice ah ak al]) Ψ λg J a2 X Y=>?_;have Y:ac J g am [.slice ad ae af,.slice ah ak al]:=Y;have key:∀i:Nat,i<2-> ∃v l,[x1.slice ad ae af,.slice ah ak al][i]? =σ v/\[a,b][i]? =σ l/\aB .i64 w v l/\l.length<=1000:=λi hi=>by
  match i,hi with
  |0,_=>exact⟨_,_,rfl,rfl,aq,aD⟩
  |1,_=>exact⟨_,_,rfl,rfl,au,aE⟩
 refine aw func200 ?_;rw[hL cO.u];refine bU.range 2 (λi size V=>Ext J V/\ ∃n:Nat,n<=1000*i/\size=Δ (n:Int)) Ω ⟨Ext.refl _,0,Ω,rfl⟩ ?_ ?_
 .rintro i _ V aJ hi ⟨I,n,aK,rfl⟩ aM;simp only[aP,ai];refine⟨λ_=>?_,λh=>Ω⟩;obtain⟨v,l,an,ay,ao,aN⟩:=key i hi;refine aR (λv az=>V=az/\v=Δ ((n+l.length:Nat):Int)) ?_ ?_
  .rintro _ _ ⟨rfl,rfl⟩;simp only[aL];exact aM _ _ ⟨I,_,Ω,rfl⟩
  .intro av aO;rw[fm (b:=g) (o:=0) cO.u am.i hi (λ_=>rfl),aA Ψ ((Y.ext I).cell (o:=0+i*1) (by rw[<-an];congr 1;omega)),aV am.u (ao.ext (X.trans I))];simp only[aL,aP,ai];rw[wrap_i64 Ω Ω];exact⟨λh=>Ω,λ_=>aO _ _ ⟨rfl,by congr 1⟩⟩
 .rintro _ V aJ ⟨I,n,aK,rfl⟩;simp only[aP,ai];refine⟨λh=>Ω,λ_=>?_⟩;refine (LK (n:=n) Ω).mono ?_;rintro v0 az _ ⟨aC,aQ,a6,aS⟩;have a7:=X.size;have a8:=I.size;have ba:=aC.size;have aT:=I.trans aC;rw[hL cO.u];refine bU.range 2 (λi v aa=>Ext J aa/\ ∃W,J.heap.size<=W/\ap .i64 ag aa W v (([a,b].take i).flatten)/\(([a,b].take i).flatten).length<=1000*i) Ω ⟨aT,aQ,Ω,aS,Ξ⟩ ?_ ?_
  .rintro i v4 aa aU hi ⟨U,W,aW,ab,bc⟩ aX;simp only[aP,ai];refine⟨λ_=>?_,λh=>Ω⟩;obtain⟨v,l,an,ay,ao,aN⟩:=key i hi;rw[fm (b:=g) (o:=0) cO.u am.i hi (λ_=>rfl),aA Ψ ((Y.ext U).cell (o:=0+i*1) (by rw[<-an];congr 1;omega))];refine iQ am.u ag.i rfl ab (ao.ext (X.trans U)) Ω Ω λbd aY be bf aZ a1=>?_;simp only[aL];have bg:=U.size;have e:([a,b].take (i+1)).flatten=([a,b].take i).flatten++l:=by rw[r8,ay];simp
   refine aX _ _ ⟨U.then a1 (by rintro r bh rfl;omega),aY,Ω,by rw[e];exact aZ,by rw[e,o5];omega⟩
  .rintro v4 aa aU ⟨U,W,aW,ab,_⟩;simp only[aP,ai];refine⟨λh=>Ω,λ_=>aF _ _ W (X.trans U) Ω ?_⟩;have e:([a,b].take 2).flatten=a++b:=Ξ
   rw[e] at ab;exact ab
def oN (U I V J vars:Λ):Prop:=∀p∈vars,p∈I->p∈J->hz U (gZ I p)=hz V (gZ J p)
def dg (I J U V vars:Λ):Λ:=vars.map λp=>max (hz I (gZ J p)) (hz U (gZ V p))
theorem Cb (I J U V vars:Λ):(dg I J U V vars).length=vars.length:=by simp[dg]
theorem sC {x:Int}:0<=gZ l x↔x∈l:=by
 unfold gZ;by_cases h:x∈l
 .rw[if_pos h];exact⟨λ_=>h,λ_=>Ω⟩
 .rw[if_neg h];exact⟨λh=>Ω,λI=>absurd I h⟩
theorem LM {g bc aK bd:Nat} {al aM:x1} {W X vars I U:Λ} {be:Int} {bf bg:Λ} (h1:c0 w g bc sv W k bf) (aN:c0 w aK bd al X be bg) (Y:aB .i64 w aM vars) (bi:aB .i64 w bb I) (ao:aB .i64 w bv U) (bj:gF I) (bk:gF U) (bH:vars.length<=1000):
  aj x7 G9 [aM,Γ g,bb,Γ aK,bv] w λv w'=>Ext w w'/\
   (¬oN W I X U vars->v= .tuple #[.slice ν 0 0,.bool false])/\
   (oN W I X U vars-> ∃x an,v= .tuple #[x,.bool true]/\w.heap.size<=an/\ap .i64 ag w' an x (dg W I X U vars)):=by
 have sub:∀ {w:x3} {g:Nat} {sv:x1} {k:Int} {aW:x1},ac w g cR [sv,Δ k,aW]->w.rangeAt g (0+0) [sv]:=λao=>m7 ao (by
  intro j v Y
  match j,Y with
  |0,Y=>exact Y)
 refine aw func201 ?_;rw[aV am.u Y];refine iR am.u ag.i Ω Ω λgz J bJ aO bl=>?_;have bm:ap .i64 ag J gz (.slice (σ ⟨gz,0,ν⟩) vars.length vars.length) (p8 vars.length 0):=ap.of (n:=vars.length) (bT.full bl Ξ (by simp[maxLen];omega));generalize (x1.slice (σ ⟨gz,0,ν⟩) vars.length vars.length)=bn at*;rw[aV am.u (Y.ext aO)];have aq:=Cb W I X U vars;refine nR.range vars.length (λi _ _ V=>Ext w V/\ap .i64 ag V gz bn (upto (dg W I X U vars) 0 i)/\ ∀ (j:Nat) (p:Int),j<i->vars[j]? =σ p->p∈I->p∈U->hz W (gZ I p)=hz X (gZ U p)) Ω
  ⟨aO,by rw[ot,aq];exact bm,λj p af=>Ω⟩ ?_ ?_
 .rintro i _ _ V bo hi ⟨aa,hm,au⟩ bp;simp only[aP,ai];refine⟨λ_=>?_,λh=>Ω⟩;obtain⟨p,ab⟩:=aF (l:=vars) hi;rw[ba am.u ag.i Ψ (Y.ext aa) ab];refine (vO (bi.ext aa) bj).mono ?_;rintro _ bK _ ⟨rfl,ax⟩;refine (vO (ao.ext (aa.trans ax)) bk).mono ?_;rintro _ bq _ ⟨rfl,aQ⟩;have aS:=(aa.trans ax).trans aQ;refine aR (λv aU=>Ext bq aU/\ ∃c,v= .bool c/\(c=true↔p∈I/\p∈U/\hz W (gZ I p)≠hz X (gZ U p))) ?_ ?_
  .rintro _ aU ⟨aX,c,rfl,aY⟩;have aZ:=aS.trans aX;rw[cz];refine⟨λbr=>⟨aZ,λ_=>by first|rfl|trivial,λaf=>?_⟩,λbu=>?_⟩
   .obtain⟨ad,ae,bw⟩:=aY.1 br;exact absurd (af p (x5 ab) ad ae) bw
   .simp only[eh];intro bL a1 _ _;have ay:=aZ.trans a1;obtain⟨⟨aW,gs,az,aA,_⟩,_⟩:=h1.ext ay;obtain⟨⟨bx,bz,aC,aD,_⟩,_⟩:=aN.ext ay;rw[bQ,aT cR.p rfl,bI (cs:=[sv]) bt.p bt.i rfl (sub az),bQ,aT cR.p rfl,bI (cs:=[al]) bt.p bt.i rfl (sub aC)];refine (pO aA.ls).mono ?_;rintro _ bM _ ⟨rfl,ah⟩;refine⟨.inl ah,?_⟩;refine (pO (aD.ls.ext ah)).mono ?_;rintro _ bN _ ⟨rfl,a2⟩;have bA:=(ay.trans ah).trans a2;have a6:=hm.ext ((((ax.trans aQ).trans aX).trans a1).trans (ah.trans a2));have bO:(upto (dg W I X U vars) 0 i).length=vars.length:=by rw[nc,aq]
    rw[uF,hs rfl am.u ag.i a6 Ω];refine ht ag.i a6 Ω λbP bB _ a7=>?_;simp only[aL];have bC:(dg W I X U vars)[i]? =σ (max (hz W (gZ I p)) (hz X (gZ U p))):=by
     unfold dg;rw[x8,ab];rfl
    rw[ov bC] at a7;refine bp _ _ _ ⟨bA.then bB (by rintro r bR rfl;omega),a7,λj bD af aE ad ae=>?_⟩;by_cases bE:j=i
    .subst bE;rw[ab] at aE;cases aE;refine Decidable.byContradiction λbF=>?_;have:=aY.2 ⟨ad,ae,bF⟩;rw[bu] at this;cases this
    .exact au j bD Ω aE ad ae
  .intro av aG;simp only[eh,cK,ai];intro bS ak _ _;refine⟨λaH=>⟨λaI=>?_,λaI=>⟨.inl (Ext.refl _),aG _ _ ⟨ak,false,rfl,⟨(λh=>by cases h),λh=>absurd (sC.2 h.2.1) aI⟩⟩⟩⟩,λaH=>⟨.inl (Ext.refl _),aG _ _ ⟨ak,false,rfl,⟨(λh=>by cases h),λh=>absurd (sC.2 h.1) aH⟩⟩⟩⟩;have a8:=aS.trans ak;obtain⟨⟨aW,gs,az,aA,_⟩,_⟩:=h1.ext a8;obtain⟨⟨bx,bz,aC,aD,_⟩,_⟩:=aN.ext a8;rw[bQ,aT cR.p rfl,bI (cs:=[sv]) bt.p bt.i rfl (sub az),bQ,aT cR.p rfl,bI (cs:=[al]) bt.p bt.i rfl (sub aC)];refine (pO aA.ls).mono ?_;rintro _ bU _ ⟨rfl,aJ⟩;refine⟨.inl aJ,?_⟩;refine (pO (aD.ls.ext aJ)).mono ?_;rintro _ bV _ ⟨rfl,bG⟩;simp only[bh];refine aG _ _ ⟨(ak.trans aJ).trans bG,_,rfl,?_⟩;rw[decide_eq_true_iff];exact⟨λh=>⟨sC.1 aH,sC.1 aI,h⟩,λh=>h.2.2⟩
 .rintro _ _ V bo ⟨aa,hm,au⟩;simp only[aP,ai];refine⟨λh=>Ω,λ_=>?_⟩;have af:oN W I X U vars:=λp ab ad ae=>by
   obtain⟨i,hi,he⟩:=List.getElem_of_mem ab;exact au i p hi (by rw[x6 hi,he]) ad ae
  rw[<-aq,ou] at hm;exact⟨aa,λh=>absurd af h,λ_=>⟨_,gz,rfl,Ω,hm⟩⟩
def vS (I J vars:Λ):Prop:=gF vars/\ ∀x,x∈vars↔x∈I\/x∈J
def nq (I W J U X V vars:Λ) (k:Int):Λ:=
 (W7 (aG (dg I J U V vars)).toNat).map λ(q:Nat)=>min (bl I W (eS (cM (dg I J U V vars) q) vars J)+bl U X (eS (cM (dg I J U V vars) q) vars V)) k
theorem Cc (I W J U X V vars:Λ) (k:Int):(nq I W J U X V vars k).length=(aG (dg I J U V vars)).toNat:=by simp[nq]
theorem sD {s cs:Λ} (hk:right k) (h:∀x∈cs,cn x k):cn (bl s cs t) k:=by
 have I:cn 0 k:=⟨hk,Int.le_refl _,by have:=hk.1;omega⟩;unfold bl;split
 .rename_i n _;rw[u4];cases J:cs[n.toNat]? with
  |none=>exact I
  |some x=>exact h x (x5 J)
 .exact I
def Fits (s l:Λ):Prop:=l.length=s.length/\p5 l
def p7 (e:Int):x1:=.tuple #[.pointer ν,.slice ν 0 0,Δ e]
def Cd (w:x3) (U aa I V ab J:Λ) (k W:Int) (v:x1) (w':x3):Prop:=
 Ext w w'/\(¬(Fits U I/\Fits V J)->v=p7 1)/\
  (Fits U I/\Fits V J-> ∃vars,vS I J vars/\(¬oN U I V J vars->v=p7 1)/\(oN U I V J vars->(k≠W->v=p7 3)/\
   (k=W->¬bX (dg U I V J vars)->v=p7 1)/\(k=W->bX (dg U I V J vars)->4096<aG (dg U I V J vars)->v=p7 5)/\
   (k=W->bX (dg U I V J vars)->aG (dg U I V J vars)<=4096-> ∃X ac ad Y,v= .tuple #[Γ X,Y,Δ 0]/\
    c0 w' X ac ad (dg U I V J vars) k (nq U aa I V ab J vars k)/\aB .i64 w' Y vars)))
theorem LN {g b7 ga b8:Nat} {b9:x1} {X Y U W:Λ} {bq:Int} {ak ao:Λ} (h1:c0 w g b7 sv X k ak) (aY:c0 w ga b8 b9 Y bq ao) (aZ:aB .i64 w bb U) (aE:aB .i64 w bv W)
  (hk:right k) (cT:∀x∈ak,cn x k) (cU:∀x∈ao,cn x bq):
  aj x7 GD [Γ g,bb,Γ ga,bv] w (Cd w X ak U Y ao W k bq):=by
 have cW:=aZ.cells;have cX:=aE.cells;have cY:=h1.2.2.1;have cZ:=aY.2.2.1;have sub:∀ {w:x3} {g:Nat} {sv:x1} {k:Int} {aW:x1},ac w g cR [sv,Δ k,aW]->w.rangeAt g (0+0) [sv]:=λaE=>m7 aE (by
  intro j v bM
  match j,bM with
  |0,bM=>exact bM)
 refine ie func154 ?_;refine bm λg1 J ee ca au=>?_;refine bm λcb V ef bO aw=>?_;refine bm λcc eg eh br ax=>?_;refine bm λcd aL ei a2 ay=>?_;have ej:=au.lt;have ek:=aw.lt;have em:=ax.lt;have en:=ay.lt;have eo:=ca.size;have ep:=bO.size;have er:=br.size;have es:=a2.size;have aN:=((ca.trans bO).trans br).trans a2;have au:ac aL g1 eH [Γ g]:=((au.ext bO).ext br).ext a2;have aw:ac aL cb am [bb]:=by rw[cW.1] at aw;exact (aw.ext br).ext a2
 have ax:ac aL cc eH [Γ ga]:=ax.ext a2;have ay:ac aL cd am [bv]:=by rw[cX.1] at ay;exact ay
 refine aR (λv ce=>v= .bool false/\aL=ce) ?_ ?_
 rotate_left
 .intro av bw;rw[aA Ψ (au.Qz rfl),cV eH.u];simp only[Z3,aS];rw[aA Ψ (ax.Qz rfl),cV eH.u];exact bw _ _ ⟨rfl,rfl⟩
 rintro _ _ ⟨rfl,rfl⟩;simp only[aS];refine aR (λv bP=>Ext aL bP/\ ∃c,v= .bool c/\(c=true↔¬(Fits X U/\Fits Y W))) ?_ ?_
 rotate_left
 .intro av bw;rw[aA Ψ (au.Qz rfl),aA Ψ (aw.Qz rfl)];refine (B2 (h1.ext aN) (aZ.ext aN)).mono ?_;rintro _ ce _ ⟨aO,c,rfl,a6⟩;simp only[bu,cz];refine⟨λbx=>bw _ _ ⟨aO,true,rfl,λ_ h=>?_,λ_=>rfl⟩,λcg=>?_⟩
  .have:=a6.2 h.1;rw[this] at bx;cases bx
  .have c1:c=true:=by cases c<;>simp_all
   rw[aA Ψ ((ax.ext aO).Qz rfl),aA Ψ ((ay.ext aO).Qz rfl)];refine (B2 ((aY.ext aN).ext aO) ((aE.ext aN).ext aO)).mono ?_;rintro _ et _ ⟨c2,d,rfl,ch⟩;simp only[bu];refine bw _ _ ⟨aO.trans c2,_,rfl,λh aC=>?_,λh=>?_⟩
   .have:=ch.2 aC.2;rw[this] at h;cases h
   .cases d with
    |false=>rfl
    |true=>exact absurd ⟨a6.1 c1,ch.1 rfl⟩ h
 rintro _ bP ⟨a7,c,rfl,a6⟩;have bR:=aN.trans a7;rw[cz];refine⟨λbx eu c3 _=>⟨bR.trans c3,λ_=>rfl,λh=>absurd h (a6.1 bx)⟩,λcg=>?_⟩;have a8:Fits X U/\Fits Y W:=Classical.byContradiction λh=>by
  have:=a6.2 h;rw[cg] at this;cases this
 obtain⟨⟨ev,c4⟩,ew,c5⟩:=id a8;have ey:=cY.1;have ez:=cZ.1;rw[aA Ψ ((aw.ext a7).Qz rfl),aA Ψ ((ay.ext a7).Qz rfl)];refine LL (aZ.ext bR) (aE.ext bR) Ω Ω λeA eB eC ci eD c6=>?_;refine vL c6.ls (by rw[o5];omega) λeE eF eI m cj eJ ck c7 c8=>?_;have c9:=ck.length_eq;rw[o5] at c9;refine (LJ c8 Ω).mono ?_;rintro bB cl _ ⟨da,bS⟩;have eK:=a7.size;have eL:=ci.size;have eM:=cj.size;have cm:Ext bP cl:=(ci.trans cj).then da (by rintro r bC rfl;omega);obtain⟨db,dc⟩:=B1 c7 (j:=m.length) (p9 _);have eN:=BZ m m.length;have az:vS U W (dedup m m.length):=⟨db,λx=>by rw[dc,o6,ck.mem_iff,l7]⟩;generalize dedup m m.length=vars at*;refine bN am.i λa1 eO eP cp dd=>?_;refine bz am.i bS.ls.cells.1 bS.ls.cells.2 dd (by simp[x1.cells]) λcq de eQ ba=>?_;have eR:=cm.size;have eU:=cp.size;have bT:Ext cl cq:=cp.then de (by rintro r bC rfl;omega);have aP:=(a7.trans cm).trans bT;have bc:=aN.trans aP;have eV:=ba.lt;have cr:=bS.ls.ext bT;have ba:ac cq a1 am [bB]:=ba;rw[aA Ψ (ba.Qz rfl),aA Ψ ((au.ext aP).Qz rfl),aA Ψ ((aw.ext aP).Qz rfl),aA Ψ ((ax.ext aP).Qz rfl),aA Ψ ((ay.ext aP).Qz rfl)];refine (LM (h1.ext bc) (aY.ext bc) cr (aZ.ext bc) (aE.ext bc) c4.up c5.up Ω).mono ?_;rintro eW eX _ ⟨bd,df,dh⟩;have ct:=bc.trans bd;by_cases aQ:oN X U Y W vars
 rotate_left
 .rw[df aQ,bf,bg];simp only[bu,X3,bA];intro eY di _;exact⟨ct.trans di,λh=>absurd a8 h,λ_=>⟨vars,az,λ_=>rfl,λh=>absurd h aQ⟩⟩
 obtain⟨xs,an,rfl,eZ,dj⟩:=dh aQ;rw[bf,bg];simp only[bu,Z8,aS];intro aF aU _ _;have bD:=(aP.trans bd).trans aU;have aV:=ct.trans aU;have au:=au.ext bD;have aw:=aw.ext bD;have ax:=ax.ext bD;have ay:=ay.ext bD;have dk:=(ba.ext bd).ext aU;obtain⟨⟨aW,gs,cu,e0,_⟩,_⟩:=h1.ext aV;obtain⟨⟨e1,e2,dl,e3,_⟩,_⟩:=aY.ext aV;rw[aA Ψ (au.Qz rfl),aM cR.p 1 cu rfl,aA Ψ (ax.Qz rfl),aM cR.p 1 dl rfl];simp only[bh,ai];refine⟨λaH e4 dm _=>⟨aV.trans dm,λh=>absurd a8 h,λ_=>⟨vars,az,λh=>absurd aQ h,λ_=>⟨λ_=>rfl,λh=>absurd h aH,λh=>absurd h aH,λh=>absurd h aH⟩⟩⟩,λaH=>?_⟩;have aH:k=bq:=Y4.1 aH;subst aH;rw[aA Ψ (au.Qz rfl),aM cR.p 1 cu rfl];have dn:=dj.ext aU;refine (uO dn.ls).mono ?_;rintro aI be _ ⟨cw,dp,dq,_,dr⟩;have e5:=bT.size;have e6:=bd.size;have e7:=aU.size;have e8:=cw.size;obtain⟨bi,e,rfl,e9,bE⟩:∃ (bi:Option Addr) (e:Int),aI= .tuple #[.pointer bi,Δ e]/\(e=0->bi≠ν)/\((e=1/\¬bX (dg X U Y W vars))\/(e=5/\bX (dg X U Y W vars)/\4096<aG (dg X U Y W vars))\/(e=0/\bX (dg X U Y W vars)/\aG (dg X U Y W vars)<=4096/\
   ∃ad ab af,bi=σ ⟨ad,0,ν⟩/\aF.heap.size<=ad/\aF.heap.size<=ab/\(∀r,leads af r->aF.heap.size<=r)/\c0 be ad ab af (dg X U Y W vars) k (p8 (aG (dg X U Y W vars)).toNat 0))):=by
  by_cases I:bX (dg X U Y W vars)
  .by_cases aD:aG (dg X U Y W vars)<=4096
   .obtain⟨ad,ab,af,ds,dt,du,dv,dw⟩:=dr I aD ⟨hk,Ω,by have:=hk.1;omega⟩;exact⟨_,_,ds,(λ_ h=>by cases h),.inr (.inr ⟨rfl,I,aD,ad,ab,af,rfl,dt,du,dv,dw⟩)⟩
   .exact⟨_,_,dq I Ω,(λh=>Ω),.inr (.inl ⟨rfl,I,Ω⟩)⟩
  .exact⟨_,_,dp I,(λh=>Ω),.inl ⟨rfl,I⟩⟩
 rw[bf,bg];refine bN eH.i λcA fa fb cB bj=>?_;refine bz eH.i rfl rfl bj (by simp[x1.cells]) λdx dy fc bj=>?_;have fd:=cB.size;have bU:Ext be dx:=cB.then dy (by rintro r bC rfl;omega);have cC:=cw.trans bU;have dz:=aV.trans cC;have fe:=bj.lt;simp only[bh,ai];refine⟨λdA ff dC _=>⟨dz.trans dC,λh=>absurd a8 h,λ_=>⟨vars,az,λh=>absurd aQ h,λ_=>⟨λh=>absurd rfl h,λ_ I=>?_,λ_ I aD=>?_,λ_ I aD=>?_⟩⟩⟩,λfg=>?_⟩
 .rcases bE with⟨rfl,_⟩|⟨_,h,_⟩|⟨_,h,_⟩
  .rfl
  .exact absurd h I
  .exact absurd h I
 .rcases bE with⟨_,h⟩|⟨rfl,_⟩|⟨_,_,h,_⟩
  .exact absurd I h
  .rfl
  .omega
 .rcases bE with⟨_,h⟩|⟨_,_,h⟩|⟨h,_⟩
  .exact absurd I h
  .omega
  .exact absurd h dA
 obtain⟨bF,dD,ad,ab,af,rfl,fh,fi,fj,bG⟩:bX (dg X U Y W vars)/\aG (dg X U Y W vars)<=4096/\
   ∃ad ab af,bi=σ ⟨ad,0,ν⟩/\aF.heap.size<=ad/\aF.heap.size<=ab/\(∀r,leads af r->aF.heap.size<=r)/\c0 be ad ab af (dg X U Y W vars) k (p8 (aG (dg X U Y W vars)).toNat 0):=by
  rcases bE with⟨h,_⟩|⟨h,_⟩|⟨_,h⟩
  .omega
  .omega
  .exact h
 obtain rfl:e=0:=Ω
 have dE:(dg X U Y W vars).length=vars.length:=Cb _ _ _ _ _;have fk:=prod_bound bF;obtain⟨N,bH⟩:∃N:Nat,(aG (dg X U Y W vars)).toNat=N:=⟨_,rfl⟩;rw[bH] at bG;have fm:0<N:=Ω
 have dF:=bG.ext bU;obtain⟨⟨bV,cD,cE,cF,dG⟩,⟨cG,cH,_⟩,_,fo⟩:=id dF;have fp:ad<be.heap.size:=by obtain⟨⟨_,_,q,_⟩,_⟩:=id bG;exact q.lt
 have fq:ab<be.heap.size:=by obtain⟨⟨_,_,_,_,q⟩,_⟩:=id bG;exact sq q Θ
 rw[aA Ψ (bj.Qz rfl),bQ,aT cR.p rfl,bI (cs:=[af]) bt.p bt.i rfl (sub cE)];refine vp.mono ?_;rintro _ bk _ ⟨aJ,bJ,rfl,fs,cI⟩;have ft:=bU.size;have fu:=aJ.size;let S:Nat->Prop:=λr=>r=ab;let aX:=nq X ak U Y ao W vars k;have bW:aX.length=N:=by simp only[aX];rw[Cc,bH]
 have dH:=(cr.ext bd).ext aU;let dI:x3->Prop:=λw'=>ac w' g1 eH [Γ g]/\ac w' cb am [bb]/\ac w' cc eH [Γ ga]/\ac w' cd am [bv]/\ac w' a1 am [bB]/\aB .i64 w' bB vars/\
  ac w' cA eH [Γ ad]/\ac w' ad cR [af,Δ k,bV]/\c0 w' g b7 sv X k ak/\c0 w' ga b8 b9 Y k ao/\aB .i64 w' bb U/\aB .i64 w' bv W/\ap .i64 ag w' cD af (dg X U Y W vars)/\ac w' bJ bt [af]/\bk.heap.size<=w'.heap.size
 have cJ:=cC.trans aJ;have bo:∀ {a:x3},ae S bk a->dI a:=by
  intro a ah;have aK:Ext aF a:=cJ.put ah Ω;have bK:=aV.trans aK;exact⟨au.ext aK,aw.ext aK,ax.ext aK,ay.ext aK,dk.ext aK,dH.ext aK,(bj.ext aJ).aa ah (by show ¬(cA=ab);omega),(cE.ext aJ).aa ah (by show ¬(ad=ab);exact cG),h1.ext bK,aY.ext bK,aZ.ext bK,aE.ext bK,
   bn (cF.ext aJ) ah (λr bC he=>cH ((show r=ab from he)▸bC)),cI.aa ah (by show ¬(bJ=ab);omega),ah.size⟩
 have cK:=vo (g:=bJ) (B0:=bk.heap.size) (sv:=af) bF;rw[bH] at cK;refine nV.old ⟨Nat,false,lj,#[Γ bJ],0,_,_,_,λq w'=>ae S bk w'/\ap .i64 al w' ab bV (upto aX 0 q),λ_ _ _=>False,rfl,cK.s,
  ?_,λ_ _ ah h=>⟨h.1.ext ah,h.2.1.ext ah,Y7 h.2.2 ah.size⟩,λ_ _ _ ah h=>⟨h.1.trans (ah.aa S),h.2.ext ah⟩,λ_ _ _ _ _ h=>h,⟨cI,(cF.ext aJ).ls,p9 _⟩,⟨ae.refl _ _,?_⟩,?_,?_,λ_ _ h=>h.elim,λ_ _ _ h=>h.elim⟩
 .rintro _ _ _ _ ⟨_,_,_,_,rfl,_⟩;rfl
 .rw[ot,bW];exact dG.ext aJ
 .rintro _ aI q _ fv ⟨_,_,fw⟩ ⟨bY,rfl,fx,gt,dJ,fy,cL⟩ ⟨bL,dK⟩;cases dJ;let x:=cM (dg X U Y W vars) (q:Int);have cN:x.length=vars.length:=by simp only[x];rw[iT,dE]
  intro fz dL _ _;intro fA dM _ _;have bZ:=dL.trans dM;obtain⟨f1,f2,f3,f4,f5,f6,f7,f8,f9,f10,f11,f12,f13,f14,f15⟩:=bo (bL.trans (bZ.aa S));rw[aA Ψ (f1.Qz rfl),aA Ψ (f5.Qz rfl),aA Ψ (f2.Qz rfl)];refine (B4 (cL.ls.ext bZ) f6 f11 az.1 (λp aD=>(az.2 p).2 (.inl aD)) cN Ω).mono ?_;rintro fB fD _ ⟨b0,fE,fF,dN⟩;refine⟨.inl b0,?_⟩;refine (uP (f9.ext b0) dN.ls).mono ?_;rintro _ fG _ ⟨rfl,dO⟩;obtain⟨dP,dQ⟩:=vK X (eS x vars U) ak;have dR:oh X (eS (cM (dg X U Y W vars) (q:Int)) vars U) ak= .tuple #[Δ (bl X ak (eS x vars U)),Δ dP]:=dQ;rw[dR,bf,bg];intro fH dS _ _;have b1:=((bZ.trans b0).trans dO).trans dS;obtain⟨f1,f2,f3,f4,f5,f6,f7,f8,f9,f10,f11,f12,f13,f14,f15⟩:=bo (bL.trans (b1.aa S));rw[aA Ψ (f3.Qz rfl),aA Ψ (f5.Qz rfl),aA Ψ (f4.Qz rfl)];refine (B4 (cL.ls.ext b1) f6 f12 az.1 (λp aD=>(az.2 p).2 (.inr aD)) cN Ω).mono ?_;rintro fI fJ _ ⟨b2,fK,fL,dT⟩;refine⟨.inl b2,?_⟩;refine (uP (f10.ext b2) dT.ls).mono ?_;rintro _ fM _ ⟨rfl,dU⟩;obtain⟨dV,dW⟩:=vK Y (eS x vars W) ao;have dX:oh Y (eS (cM (dg X U Y W vars) (q:Int)) vars W) ao= .tuple #[Δ (bl Y ao (eS x vars W)),Δ dV]:=dW;rw[dX,bf,bg];intro fN dY _ _;have b3:=((b1.trans b2).trans dU).trans dY;obtain⟨f1,f2,f3,f4,f5,f6,f7,f8,f9,f10,f11,f12,f13,f14,f15⟩:=bo (bL.trans (b3.aa S));rw[aA Ψ (f7.Qz rfl),aM cR.p 2 f8 rfl,aA Ψ (f7.Qz rfl),aM cR.p 1 f8 rfl];refine AM.mono ?_;rintro _ fO _ ⟨rfl,b4⟩;refine⟨.inl b4,?_⟩;have dZ:pN (bl X ak (eS x vars U)) (bl Y ao (eS x vars W)) k= .tuple #[Δ (min (bl X ak (eS x vars U)+bl Y ao (eS x vars W)) k),Δ 0]:=if_pos ⟨sD hk cT,sD hk cU⟩;rw[dZ,ih (v:=Δ (min (bl X ak (eS x vars U)+bl Y ao (eS x vars W)) k)) rfl,ih (v:=Δ 0) rfl];have cO:=dK.ext (b3.trans b4);have fP:(upto aX 0 q).length=N:=by rw[nc,bW]
  rw[hs rfl aq.u al.i cO Ω];refine ht al.i cO Ω λea eb fQ cP=>?_;have cQ:ae S bk ea:=(bL.trans ((b3.trans b4).aa S)).trans (eb.mono λr _ h=>h);obtain⟨f1,f2,f3,f4,f5,f6,f7,f8,f9,f10,f11,f12,f13,f14,f15⟩:=bo cQ;have ec:aX[q]? =σ (min (bl X ak (eS x vars U)+bl Y ao (eS x vars W)) k):=by
   simp only[aX,nq];rw[x8,List.getElem?_range (by rw[bH];exact bY)];rfl
  rw[ov ec] at cP;exact⟨⟨f14,f13.ls,f15⟩,⟨cQ,cP⟩,λh=>by cases h⟩
 .rintro q fR bY ⟨cS,b5⟩;rw[show q=N from bY] at b5;intro fS b6 _ _;obtain⟨f1,f2,f3,f4,f5,f6,f7,f8,f9,f10,f11,f12,f13,f14,f15⟩:=bo (cS.trans (b6.aa S));rw[aA Ψ (f7.Qz rfl),aA Ψ (f5.Qz rfl)];intro fU bp _;rw[<-bW,ou] at b5;have ed:=aV.trans cJ;refine⟨((ed.put cS Ω).trans b6).trans bp,λh=>absurd a8 h,λ_=>⟨vars,az,λh=>absurd aQ h,λ_=>⟨λh=>absurd rfl h,λ_ h=>absurd bF h,λ_ _ h=>Ω,λ_ _ _=>⟨ad,ab,af,bB,rfl,⟨⟨bV,cD,f8.ext bp,f13.ext bp,(b5.ext b6).ext bp⟩,⟨cG,cH,dD⟩,bF,Cc _ _ _ _ _ _ _ _⟩,f6.ext bp⟩⟩⟩⟩
theorem gF.pair (h:gF l):l.Pairwise (·< ·):=V2.2 λi j hi I J=>h i j _ _ J (x6 hi) (x6 I)
theorem LO {m:Λ} (I:gF l) (hm:gF m) (h:∀x,x∈l↔x∈m):l=m:=by
 have J:l.Nodup:=I.pair.imp λh=>Ω
 have U:m.Nodup:=hm.pair.imp λh=>Ω
 exact List.Perm.eq_of_pairwise (le:=(·<= ·)) (λa b _ _ h1 V=>Int.le_antisymm h1 V) (I.pair.imp λh=>Int.le_of_lt h) (hm.pair.imp λh=>Int.le_of_lt h) ((List.perm_ext_iff_of_nodup J U).2 h)
theorem LP {vars:Λ} (h:vS l l vars) (hu:gF l):vars=l:=LO h.1 hu λx=>by rw[h.2];simp
theorem Ce (h:l.Pairwise (·< ·)):gF l:=λi j x y J U V=>by
 have h1:=x4.1 U;have I:=x4.1 V;have:=V2.1 h i j h1.1 I.1 J;rw[h1.2,I.2] at this;exact this
theorem LQ {x:Λ} (hu:l.Nodup) (h:x.length=l.length):eS x l l=x:=by
 refine Y8 λi=>?_;unfold eS;cases I:l[i]? with
 |none=>rw[x8,I,Z5 (by have:=List.getElem?_eq_none_iff.1 I;omega)];rfl
 |some v=>
  have hi:=(x4.1 I).1;rw[x8,I,Z2,p3 hu I,u4,x6 (show i<x.length by omega)];rfl
theorem Cf {s:Λ} (hu:gF l) (h:s.length=l.length):dg s l s l l=s:=by
 refine Y8 λi=>?_;unfold dg;cases I:l[i]? with
 |none=>rw[x8,I,Z5 (by have:=List.getElem?_eq_none_iff.1 I;omega)];rfl
 |some v=>
  have hi:=(x4.1 I).1;rw[x8,I,Z2,B3 hu I,Int.max_self,x6 (show i<s.length by omega)];unfold hz;rw[if_pos Ω,u4,u9,x6 (show i<s.length by omega)];rfl
theorem LR {s b:Λ} (hu:l.Pairwise (·< ·)) (h:s.length=l.length) (I:dz s) (J:a.length=(aG s).toNat) (U:b.length=(aG s).toNat):nq s a l s b l l k=dQ k a b:=by
 have V:l.Nodup:=hu.imp λh=>Ω
 unfold nq;rw[Cf (Ce hu) h,KC I J U];apply List.map_congr_left;intro q _;rw[LQ V (by rw[iT,h])]
theorem LS {s b:Λ} (hu:l.Pairwise (·< ·)) (ac:∀x∈l,0<=x) (h:s.length=l.length) (I:bX s) (ad:aG s<=4096) (ae:a.length=(aG s).toNat) (af:b.length=(aG s).toNat) (U:Cd w s a l s b l k k v w'):
  Ext w w'/\ ∃J V W X,v= .tuple #[Γ J,X,Δ 0]/\c0 w' J V W s k (dQ k a b):=by
 obtain⟨ag,_,U⟩:=U;have Y:=Ce hu;have aa:Fits s l:=⟨h.symm,Lg Y ac⟩;obtain⟨vars,ah,_,ai⟩:=U ⟨aa,aa⟩;have aj:=LP ah Y;subst aj;obtain⟨_,_,_,ab⟩:=ai λp al am an=>rfl;rw[Cf Y h,LR hu h I.2 ae af] at ab;obtain⟨J,V,W,X,rfl,ak,_⟩:=ab rfl I ad;exact⟨ag,J,V,W,X,rfl,ak⟩
theorem LU {s:Λ} (I:dz s):(bi s).Nodup:=(BR I).imp λ{a b} h he=>by subst he;omega
theorem LV {s:Λ} {i:Nat} (I:dz s) (hi:(bi s)[i]? =σ t) (J:(bi s)[j]? =σ t):i=j:=j3 (LU I) hi J
theorem LW {s:Λ} (I:dz s) (h:c5 s t):∃j:Nat,(bi s)[j]? =σ t:=X4.1 ((BQ I).2 h)
theorem sE {g:Nat} {d:List (x1×x1)} (h:ac w g e cs) (hm:cW w m d) (I:ae (λr=>r=m) w w'):ac w' g e cs:=h.aa I (λhe=>sr h hm he)
theorem Cg {g:Nat} {k:o4} {d:List (x1×x1)} (h:ap k e w g v l) (hm:cW w m d) (I:ae (λr=>r=m) w w'):ap k e w' g v l:=bn h I (λ_ J he=>BT h hm J he)
def sF (cs:Λ) (o:Int):Prop:=o∈cs/\ ∀d∈cs,cs.count d<cs.count o\/(cs.count d=cs.count o/\o<=d)
theorem LX {i:Nat} {x:Int} (h:l[i]? =σ x) (y:Int):(l.take (i+1)).count y=(l.take i).count y+if y=x then 1 else 0:=by
 rw[r8,h,List.count_append];congr 1;simp only[l9,List.count_singleton];by_cases I:y=x
 .subst I;simp
 .rw[if_neg I,if_neg (by simpa using λh=>I h.symm)]
def gn (p:Int×Int):x1×x1:=(Δ p.1,Δ p.2)
theorem qa:Keys x7 al λv=>∃n,v=Δ n:=Keys.int al.u
theorem qb (E:List (Int×Int)):∀p∈E.map gn,∃n,p.1=Δ n:=λp I=>by
 obtain⟨q,_,rfl⟩:=o8.1 I;exact⟨_,rfl⟩
def vT (cs:Λ) (E:List (Int×Int)):Prop:=(∀x,x∈E.map (·.1)↔x∈cs)/\ ∀p∈E,p.2=(cs.count p.1:Nat)
theorem Ch {cs:Λ} {E:List (Int×Int)} (h:vT cs E) {x:Int} (J:x∈cs):∃j:Nat,E[j]? =σ (x,((cs.count x:Nat):Int)):=by
 obtain⟨p,I,rfl⟩:=o8.1 ((h.1 x).2 J);obtain⟨j,U⟩:=X4.1 I;exact⟨j,by rw[U,<-h.2 p I]⟩
theorem Ci {aX:x1} {cs:Λ} (h:aB .i64 w aX cs) (aY:cs≠[]) (bE:cs.length<=1000000):aj x7 rr [aX] w λv w'=>Ext w w'/\ ∃o,v=Δ o/\sF cs o:=by
 refine aw func210 ?_;refine ax.ck (r3 λm J hm aC bg bF=>?_);rw[aV aq.u (h.ext aC)];refine ce.range cs.length (λi V=>ae (λr=>r=m) J V/\ ∃E,cW V m (E.map gn)/\vT (cs.take i) E) Ω ⟨ae.refl _ _,[],bg,by simp[vT]⟩ ?_ ?_
 .rintro i V bh hi ⟨ad,E,aa,W⟩ aZ;obtain⟨x,aD⟩:=aF (l:=cs) hi;have af:Ext w V:=aC.put ad Ω;have bi:∀y,(cs.take i).count y<=1000000:=λy=>by
   have:=List.count_le_length (a:=y) (l:=cs.take i);rw[j0] at this;omega
  refine bB Ω ?_;rw[ba aq.u al.i Ψ (h.ext af) aD];have ap:=LX aD;have a1:∀y,y∈cs.take (i+1)↔y∈cs.take i\/y=x:=λy=>by
   rw[r8,aD];simp
  by_cases ah:x∈cs.take i
  .obtain⟨j,aE⟩:=Ch W ah;have au:(E.map gn)[j]? =σ (Δ x,Δ (((cs.take i).count x:Nat):Int)):=by rw[x8,aE];rfl
   rw[pP lq.u qa aa (qb E) ⟨_,rfl⟩ au];simp only[Bool.false_eq_true,if_false];have:=bi x;rw[aL,wrap_i64 Ω Ω];refine ax.ck (pQ lq.u qa aa (qb E) ⟨_,rfl⟩ (λak v0 aG aH am aI bj=>?_) (λaG ay=>absurd rfl (ay _ (x5 au))));have bk:ak=j:=aa.uniq aH au rfl;subst bk;rw[aL];have aJ:(E.map gn).set ak (Δ x,Δ ((((cs.take i).count x:Nat):Int)+1))=(E.set ak (x,(((cs.take i).count x:Nat):Int)+1)).map gn:=by rw[U1];rfl
   rw[aJ] at am;have bl:=(x4.1 aE).1;refine aZ _ ⟨ad.trans aI,_,am,λy=>?_,λp I=>?_⟩
   .rw[U1,pI (by rw[x8,aE];rfl),W.1,a1];exact⟨.inl,λh=>h.elim id (λh=>h▸ah)⟩
   .obtain⟨q,X⟩:=X4.1 I;by_cases aK:ak=q
    .subst aK;rw[c7 bl] at X;cases X;show _=(((cs.take (i+1)).count x:Nat):Int);rw[ap,if_pos rfl];omega
    .rw[Y5 aK] at X;have aM:p.1≠x:=λhe=>aK (aa.uniq au (show (E.map gn)[q]? =σ (gn p) by rw[x8,X];rfl) (by rw[gn,he]));rw[W.2 p (x5 X),ap,if_neg aM,Nat.add_zero]
  .have ay:∀p∈E.map gn,p.1≠V1 .i64 x:=λp I he=>by
    obtain⟨q,X,rfl⟩:=o8.1 I;have:q.1=x:=by simpa[gn] using he
    exact ah ((W.1 x).1 (o8.2 ⟨q,X,this⟩))
   rw[r4 lq.u qa ⟨_,_,ag.i⟩ aa (qb E) ⟨_,rfl⟩ ay];simp only[Bool.false_eq_true,if_false];rw[aL,wrap_i64 Ω Ω];refine ax.ck (pQ lq.u qa aa (qb E) ⟨_,rfl⟩ (λak v0 aG aH=>absurd rfl (ay _ (x5 aH))) (λaG _ am aI bj=>?_));rw[aL];have aJ:E.map gn++[(V1 .i64 x,V1 .i64 (0+1))]=(E++[(x,1)]).map gn:=by rw[c8];rfl
   rw[aJ] at am;have bm:(cs.take i).count x=0:=List.count_eq_zero.2 ah;refine aZ _ ⟨ad.trans aI,_,am,λy=>?_,λp I=>?_⟩
   .rw[c8,l7,W.1,a1];simp
   .rcases l7.1 I with I|I
    .have aM:p.1≠x:=λhe=>ah ((W.1 x).1 (o8.2 ⟨p,I,he⟩));rw[W.2 p I,ap,if_neg aM,Nat.add_zero]
    .rw[n9.1 I];show (1:Int)=(((cs.take (i+1)).count x:Nat):Int);rw[ap,if_pos rfl,bm];rfl
 rintro V bh ⟨ad,E,aa,W⟩;rw[o6] at W;have af:Ext w V:=aC.put ad Ω;refine b6 Ω ?_;refine (Jf (h.ext af) aY).mono ?_;rintro _ bn bG ⟨rfl,aN⟩;have bH:=af.size;have bI:=aN.size;refine ax.ck (AQ lq.u (aa.ext aN) λan bJ bK bo bL bp bN=>?_);refine⟨λsG ac=>∃b ab Y left a2,sG=Δ b/\b∈cs/\Ext bn ac/\gX ac an m (E.map gn) left a2/\left=Y.map gn/\(ab++Y).Perm E/\ ∀p∈ab,cs.count p.1<cs.count b\/(cs.count p.1=cs.count b/\b<=p.1),λ_ ac=>oH ac an,
  ⟨vf cs,[],E,E.map gn,ν,rfl,(IT aY).1,bo,bp,rfl,List.Perm.refl _,λp I=>by cases I⟩,?_⟩
 rintro _ ac ⟨b,ab,Y,left,a2,rfl,aO,aQ,a6,rfl,az,aT⟩;refine AS a6 (λ_=>by show w.heap.size<=an;omega) (λbq=>?_) (λj p aU I a7 bO ao=>?_)
 .rw[ih (v:=.bool false) rfl,aS];have:Y=[]:=List.map_eq_nil_iff.1 bq;subst this;rw[U5] at az;refine⟨(af.trans aN).trans aQ,b,rfl,aO,λd br=>?_⟩;obtain⟨q,X,rfl⟩:=o8.1 ((W.1 d).2 br);exact aT q (az.mem_iff.2 X)
 .rw[ih (v:=.bool true) rfl,bA];refine AT ao ?_;obtain⟨q,X,rfl⟩:∃q,Y[j]? =σ q/\gn q=p:=by
   rw[x8] at I;exact Y2.1 I
  have a8:q∈E:=az.mem_iff.1 (l7.2 (.inr (x5 X)));have bP:=W.2 q a8;have bt:q.1∈cs:=(W.1 q.1).1 (o8.2 ⟨q,a8,rfl⟩);obtain⟨bu,bw⟩:=Ch W aO;have bx:(E.map gn)[bu]? =σ (Δ b,Δ ((cs.count b:Nat):Int)):=by rw[x8,bw];rfl
  rw[ih (v:=Δ q.1) rfl,ih (v:=Δ q.2) rfl];have bb:(ab++[q]++Y.eraseIdx j).Perm E:=by
   refine List.Perm.trans ?_ az;rw[U8];exact List.Perm.append_left ab (vv X)
  have bc:oH aU an<oH ac an:=by
   rw[sa ao,sa a6];have:=A5 (x4.1 I).1;omega
  refine aR (λv bz=>aU=bz/\ ∃r:Bool,v= .bool r/\(r=true↔(cs.count b<cs.count q.1\/(cs.count q.1=cs.count b/\q.1<b)))) ?_ ?_
  .rintro _ _ ⟨rfl,r,rfl,aA⟩;rw[cz];refine⟨λbC=>?_,λbd=>?_⟩
   .have aA:=aA.1 bC;refine⟨⟨q.1,ab++[q],Y.eraseIdx j,_,_,rfl,bt,aQ.trans a7,ao,(me gn Y j),bb,λp I=>?_⟩,bc⟩;rcases l7.1 I with I|I
    .have:=aT p I;omega
    .rw[n9.1 I];exact .inr ⟨rfl,Int.le_refl _⟩
   .have aA:¬(cs.count b<cs.count q.1\/(cs.count q.1=cs.count b/\q.1<b)):=λh=>by rw[aA.2 h] at bd;cases bd
    refine⟨⟨b,ab++[q],Y.eraseIdx j,_,_,rfl,aO,aQ.trans a7,ao,(me gn Y j),bb,λp I=>?_⟩,bc⟩;rcases l7.1 I with I|I
    .exact aT p I
    .rw[n9.1 I];omega
  .intro av aW;have bf:∀K:x1->Prop,U x7 (Instr.lookup lq (.map (σ m)) (Δ b) false) aU K=K (Δ ((cs.count b:Nat):Int)):=λK=>by
    rw[pP lq.u qa ao.map (qb E) ⟨_,rfl⟩ bx];simp
   rw[bf,bM,ai];refine⟨λh1=>aW _ _ ⟨rfl,true,rfl,⟨λ_=>.inl Ω,λ_=>rfl⟩⟩,λh1=>?_⟩;rw[bf,be,ai];refine⟨λbD=>?_,λbD=>aW _ _ ⟨rfl,false,rfl,⟨λh=>(by cases h),λh=>Ω⟩⟩⟩;rw[aP];refine aW _ _ ⟨rfl,_,rfl,?_⟩;rw[decide_eq_true_eq];omega
theorem LY {g:Nat} {k:o4} {U:r9} (h:ap k e w g v l) (V:ac w J U cs) (X:e≠U) (W:leads v r):r≠J:=by
 obtain⟨rfl,_⟩:=bR h W;obtain⟨_,⟨rfl,_⟩|⟨_,_,_,I,_⟩⟩:=h
 .obtain⟨a,n,c,h,_⟩:=W;cases h
 .rintro rfl;unfold ac at V I;rw[V] at I;injection I with h1;injection h1 with aa Y;exact X Y.symm
def LZ (w:x3) (af:Λ) (k:Int) (cs:Λ) (v:x1) (w':x3):Prop:=Ext w w'/\ ∃g m o D,v=Γ g/\eA w' g m af k o D/\D.length<=(aG af).toNat/\hZ af (hV D o) cs/\sF cs o
theorem L0 {g cb:Nat} {cs:Λ} (h:c0 w g cb sv af k cs) (bd:∀c∈cs,cn c k):aj x7 GL [Γ g] w (LZ w af k cs):=by
 obtain⟨⟨aW,gs,bG,hm,cQ⟩,⟨_,_,bH⟩,I,aV⟩:=id h;have cR:=prod_bound I;have cS:=I.1;have bI:cs≠[]:=λhe=>by rw[he] at aV;simp at aV;omega
 refine ie func165 ?_;rw[cV eH.u];simp only[Z3,aS];refine (md h).mono ?_;rintro aw V _ ⟨aE,cT,cU,be⟩;refine bN aq.i λaX cW cX bJ bK=>?_;have cY:=bK.lt;refine bz aq.i be.ls.cells.1 be.ls.cells.2 bK (by simp[x1.cells]) λaY cc cZ aZ=>?_;have aZ:ac aY aX aq [aw]:=aZ;have c1:=aE.size;have c2:=bJ.size;have bL:Ext V aY:=bJ.put cc Ω;have bM:=be.ext bL;have aM:=aE.trans bL;refine aR (λu a1=>∃W ak m o ay az,u=Γ W/\Ext aY a1/\ac a1 W eG [Γ ak]/\aY.heap.size<=m/\ft a1 ak m ay az af k o []/\sF cs o) ?_ ?_
 .rintro _ a1 ⟨W,ak,m,o,ay,az,rfl,aN,X,c3,am,ao⟩;have cd:=h.ext (aM.trans aN);have ce:=aZ.ext aN;have cg:=bM.ext aN;refine (oD cd).mono ?_;rintro _ c4 _ ⟨rfl,ch⟩;refine vp.mono ?_;rintro _ bh _ ⟨ci,bO,rfl,c6,bP⟩;have aF:=ch.trans ci;have bQ:=am.ext aF;have cj:=ce.ext aF;have bR:=X.ext aF;have ck:=cg.ext aF;have bS:=hm.ext ((aM.trans aN).trans aF);have aG:=bQ.2.2.1;have cl:=(aM.trans aN).trans aF;have c7:=aM.size;have cm:=vo (g:=bO) (B0:=bh.heap.size) (sv:=sv) I;refine nV.old ⟨Nat,false,lj,#[Γ bO],_,_,_,_,λi w'=>ae (λr=>r=m) bh w'/\ ∃D,D.length<=i/\ft w' ak m ay az af k o D/\ ∀ (j:Nat) t,(bi af)[j]? =σ t->hV D o t=if j<i then bl af cs t else o,λ_ _ _=>False,rfl,cm.s,
   ?_,λ_ _ aH h=>⟨h.1.ext aH,h.2.1.ext aH,Y7 h.2.2 aH.size⟩,λ_ _ _ aH ⟨h1,D,cp,cq,bH⟩=>⟨h1.trans (aH.aa _),D,cp,cq.ext aH,bH⟩,λ_ _ _ _ _ h=>h,⟨bP,bS.ls,p9 _⟩,⟨ae.refl _ _,[],p9 _,bQ,λj t _=>by rw[if_neg Ω];rfl⟩,?_,?_,λ_ _ h=>h.elim,λ_ _ _ h=>h.elim⟩
  .rintro _ _ _ _ ⟨_,_,_,_,rfl,_⟩;rfl
  .rintro _ aI i _ cr ⟨c8,c9,cu⟩ ⟨hi,rfl,da,gt,cw,db,ah⟩ ⟨a2,D,bT,bj,bk⟩;cases cw;have bm:(bi af)[i]? =σ (cM af (i:Int)):=pH I.2 Ω;have cz:c5 af (cM af (i:Int)):=vg I.2 hi;generalize cM af (i:Int)=t at*;have bU:=KJ I.2 aV bm;intro cA a6 _ _;intro cB cC _ _;have a7:=a6.trans cC;have a8:ae (λr=>r=m) bh cB:=a2.trans (a7.aa _);rw[aA Ψ ((sE bR aG a8).Qz rfl),aA Ψ ((sE cj aG a8).Qz rfl),ba aq.u al.i Ψ (Cg ck aG a8).ls bU];have bn:=bj.ext a7;refine (A4 bn.is (ah.ext a7).ls (c:=bl af cs t)).mono ?_;rintro _ dc _ ⟨_,cD⟩;obtain⟨rfl,bo,D',bV,bW⟩:=cD ⟨cz,bd _ (x5 bU)⟩;have bp:=a8.trans bo;have dd:=bV.2;refine⟨⟨sE bP aG bp,(Cg bS aG bp).ls,Y7 cu (Y7 a7.size bo.size)⟩,⟨bp,D',Ω,bn.put bo bW,λj s aC=>?_⟩,λh=>by cases h⟩;rw[bV.cost bn.is.nodup bW.nodup];by_cases bX:j=i
   .subst bX;rw[bm] at aC;cases aC;rw[if_pos rfl,if_pos Ω]
   .rw[if_neg (λ(he:s=t)=>bX (LV I.2 (by rw[<-he];exact aC) bm)),bk j s aC];by_cases h1:j<i
    .rw[if_pos h1,if_pos Ω]
    .rw[if_neg h1,if_neg Ω]
  .rintro i cr rfl ⟨a2,D,bT,bj,bk⟩;rw[aA Ψ ((sE bR aG a2).Qz rfl)];intro cA a6 _;refine⟨(cl.put a2 Ω).trans a6,ak,m,o,D,rfl,bj.is.ext a6,bT,⟨aV,λt cE=>?_⟩,ao⟩;obtain⟨j,aC⟩:=LW I.2 cE;have:=(x4.1 aC).1;rw[ij I.2] at this;rw[bk j t aC,if_pos this]
 intro av bY;intro ai aO _ _;have bq:=aM.trans aO;have bZ:=aO;have bb:=h.ext bq;have b0:=bM.ext aO;have de:=aO.size;rw[aA Ψ ((aZ.ext aO).Qz rfl)];have b1:∀ {W:Nat} {w':x3} {aI:x1} {o:Int},Ext ai w'->ai.heap.size<=W->(∃Y,ac w' W eG [Y])->aB .i64 w' aI af->sF cs o->
   aj x7 n0 [aI,Δ k,Δ o] w' λan ad=>U x7 (Z1 an 0) ad λaD=>U x7 (Z1 an 1) ad λ_=>ax x7 (o7 eG (Γ W) aD) ad λ(_:Unit) ap=>av (Γ W) ap:=by
  rintro W w' aI o ag ab ⟨Y,X⟩ ah ao;refine (AY ah).mono ?_;rintro _ ad _ ⟨br,_,_,bt⟩;obtain⟨ak,m,rfl,cF,cG,am⟩:=bt I (bd _ ao.1);obtain⟨ay,az,am⟩:=am.at;rw[bf,bg];have cH:=X.lt;have s':=ag.size;refine bz eG.i rfl rfl (X.ext br) Ξ λap b2 df cI=>?_;refine bY _ _ ⟨W,ak,m,o,ay,az,rfl,((bZ.trans ag).trans br).put b2 Ω,cI,Ω,am.aa b2 (λhe=>by have he:ak=W:=he;omega) (λhe=>by have he:m=W:=he;omega) (λr bu he=>?_),ao⟩;exact LY am.2.1 (X.ext br) Φ bu he
 have b3:∀ {W:Nat} {w':x3} {aI:x1},Ext ai w'->ai.heap.size<=W->(∃Y,ac w' W eG [Y])->aB .i64 w' aI af->
   aj x7 rr [aw] w' λaP V=>aj x7 n0 [aI,Δ k,aP] V λan ad=>U x7 (Z1 an 0) ad λaD=>U x7 (Z1 an 1) ad λ_=>ax x7 (o7 eG (Γ W) aD) ad λ(_:Unit) ap=>av (Γ W) ap:=by
  rintro W w' aI ag ab ⟨Y,X⟩ ah;refine (Ci (b0.ext ag).ls bI Ω).mono ?_;rintro _ V _ ⟨aE,o,rfl,ao⟩;exact b1 (ag.trans aE) ab ⟨Y,X.ext aE⟩ (ah.ext aE) ao
 have b4:∀ {W:Nat} {w':x3} {aI:x1},Ext ai w'->ai.heap.size<=W->(∃Y,ac w' W eG [Y])->aB .i64 w' aI af->
   aj x7 uA [Γ g] w' λbw J=>(Ext ai J\/ct x7 (u5 aq (Γ aX)) aw J/\True)/\
    aj x7 rr [aw] J λaP V=>aj x7 n0 [aI,bw,aP] V λan ad=>U x7 (Z1 an 0) ad λaD=>U x7 (Z1 an 1) ad λ_=>ax x7 (o7 eG (Γ W) aD) ad λ(_:Unit) ap=>av (Γ W) ap:=by
  rintro W w' aI ag ab ⟨Y,X⟩ ah;refine (AN (bb.ext ag)).mono ?_;rintro _ J _ ⟨rfl,au⟩;exact⟨.inl (ag.trans au),b3 (ag.trans au) ab ⟨Y,X.ext au⟩ (ah.ext au)⟩
 have b5:af.length<=1000:=Ω
 have b6:∀ {W:Nat} {w':x3},Ext ai w'->ai.heap.size<=W->(∃Y,ac w' W eG [Y])->
   aj x7 y2 [.agg #[sv]] w' λcJ w0=>(Ext ai w0\/ct x7 (u5 aq (Γ aX)) aw w0/\True)/\
    aj x7 uA [Γ g] w0 λbw J=>(Ext ai J\/ct x7 (u5 aq (Γ aX)) aw J/\True)/\
    aj x7 rr [aw] J λaP V=>aj x7 n0 [cJ,bw,aP] V λan ad=>U x7 (Z1 an 0) ad λaD=>U x7 (Z1 an 1) ad λ_=>ax x7 (o7 eG (Γ W) aD) ad λ(_:Unit) ap=>av (Γ W) ap:=by
  rintro W w' ag ab ⟨Y,X⟩;refine (AO (hm.ext (bq.trans ag)).ls b5).mono ?_;rintro aI J _ ⟨au,_,_,ah⟩;exact⟨.inl (ag.trans au),b4 (ag.trans au) ab ⟨Y,X.ext au⟩ ah.ls⟩
 have aQ:∀ {w':x3} {R:x1->x3->Prop},Ext ai w'->(∀W aT,ai.heap.size<=W->Ext w' aT->(∃Y,ac aT W eG [Y])->R (Γ W) aT)->ax x7 (R2 eG true (.tuple #[])) w' R:=λ{w'} {R} ag cK=>by
  have:=ag.size;exact bN eG.i λW aT ab cL bG=>cK W aT Ω cL ⟨_,bG⟩
 refine⟨?_,aQ (Ext.refl _) λW dg ab bc X=>⟨.inl bc,?_⟩⟩
 rotate_left
 .refine (oD (bb.ext bc)).mono ?_;rintro _ dh _ ⟨rfl,bx⟩;obtain⟨Y,X⟩:=X;exact⟨.inl (bc.trans bx),b6 (bc.trans bx) ab ⟨Y,X.ext bx⟩⟩
 refine (oD bb).mono ?_;rintro _ di _ ⟨rfl,aJ⟩;refine⟨.inl aJ,?_,aQ aJ λW dj ab b7 X=>⟨.inl (aJ.trans b7),b6 (aJ.trans b7) ab X⟩⟩;refine (AO (hm.ext (bq.trans aJ)).ls b5).mono ?_;rintro aI dk _ ⟨cN,_,_,ah⟩;have aK:=aJ.trans cN;refine⟨.inl aK,?_,aQ aK λW dl ab bA X=>⟨.inl (aK.trans bA),b4 (aK.trans bA) ab X (ah.ext bA).ls⟩⟩;refine (AN (bb.ext aK)).mono ?_;rintro _ dm _ ⟨rfl,bB⟩;have aL:=aK.trans bB;refine⟨.inl aL,?_,aQ aL λW dn ab bC X=>⟨.inl (aL.trans bC),b3 (aL.trans bC) ab X ((ah.ext bB).ext bC).ls⟩⟩;refine (Ci (b0.ext aL).ls bI Ω).mono ?_;rintro _ dp _ ⟨b8,o,rfl,ao⟩;have aU:=aL.trans b8;have b9:=(ah.ext bB).ext b8;refine⟨?_,aQ aU λW dq ab bD X=>⟨.inl (aU.trans bD),b1 (aU.trans bD) ab X (b9.ext bD).ls ao⟩⟩;refine (AY b9.ls).mono ?_;rintro _ dr _ ⟨cO,_,_,bt⟩;obtain⟨ak,m,rfl,cF,cG,am⟩:=bt I (bd _ ao.1);obtain⟨ay,az,am⟩:=am.at;rw[bf,bg];have bE:=aU.trans cO;refine bN eG.i λW ds ab bF X=>?_;refine⟨.inl (bE.trans bF),?_⟩;have cH:=X.lt;obtain⟨dt,du,t3⟩:=am.pM;have dv:=aU.size;have dw:=bE.size;refine bz eG.i rfl rfl X (by simp[x1.cells]) λdx ca dy cP=>?_;exact bY _ _ ⟨W,ak,m,o,ay,az,rfl,((bZ.trans bE).trans bF).put ca Ω,cP,Ω,(am.ext bF).aa ca (λhe=>by have he:ak=W:=he;omega) (λhe=>by have he:m=W:=he;omega) (λr bu he=>by have he:r=W:=he;have:=t3 r bu;omega),ao⟩
theorem Cj {acc:List cF} {g:cF} (h:∀x∈acc,x.1≠g.1):hU k acc g=acc++[g]:=by
 unfold hU;rw[if_neg];intro hm;obtain⟨x,I,he⟩:=o8.1 hm;exact h x I he
theorem L1 {acc:List cF} {g h:cF} {i:Nat} (J:iu acc) (hi:acc[i]? =σ h) (he:h.1=g.1):hU k acc g=acc.set i (h.1,dQ k h.2 g.2):=by
 have U:=(x4.1 hi).1;unfold hU;rw[if_pos (o8.2 ⟨h,x5 hi,he⟩)];refine Y8 λj=>?_;rw[x8,X0];by_cases I:i=j
 .subst I;rw[hi,Z2,if_pos he,if_pos rfl,if_pos U]
 .rw[if_neg I];cases V:acc[j]? with
  |none=>rfl
  |some y=>
   have:y.1≠g.1:=λW=>I (by
    have h1:(acc.map (·.1))[i]? =σ g.1:=by rw[x8,hi,Z2,he]
    have X:(acc.map (·.1))[j]? =σ g.1:=by rw[x8,V,Z2,W]
    exact j3 J h1 X)
   rw[Z2,if_neg this]
theorem L2 {α β:Type} {f:β->α->β} {b:β} {l:List α} {i:Nat} {x:α} (h:l[i]? =σ x):(l.take (i+1)).foldl f b=f ((l.take i).foldl f b) x:=by
 rw[r8,h,l9,List.foldl_append];rfl
def mg (w:x3) (k:Int) (sizes:Λ) (x:cj):Prop:=(∃I,ap .i64 ag w I x.sv x.sc)/\ ∃m o D,eA w x.g m (bS sizes x.sc) k o D/\D.length<=4096/\hZ (bS sizes x.sc) (hV D o) x.cs
theorem mg.ext {x:cj} (h:mg w k sizes x) (I:Ext w w'):mg w' k sizes x:=by
 obtain⟨⟨J,h1⟩,m,o,D,U,V⟩:=h;exact⟨⟨J,h1.ext I⟩,m,o,D,U.ext I,V⟩
theorem mg.aa {x:cj} (h:mg w k sizes x) (X:ae S w w') (V:∀r,S r-> ∃e c,ac w r e c/\e≠fl/\e≠ag):mg w' k sizes x:=by
 obtain⟨⟨ad,h1⟩,m,o,D,af,ah⟩:=h;obtain⟨sv,gs,U⟩:=af.at;have Y:∀ {g:Nat} {v:x1} {l:Λ},ap .i64 ag w g v l-> ∀r,leads v r->¬S r:=λhm r ai I=>by
  obtain⟨e,c,J,_,W⟩:=V r I;exact b3 hm J (λhe=>W he.symm) ai rfl
 refine⟨⟨ad,bn h1 X (Y h1)⟩,m,o,D,(U.aa X (λI=>?_) (λI=>?_) (Y U.2.1)).is,ah⟩
 .obtain⟨e,c,J,W,_⟩:=V _ I;have ab:=U.1;unfold ac at ab J;rw[ab] at J;exact W (Obj.cells.inj (c9 J)).2.1.symm
 .obtain⟨e,c,J,_,_⟩:=V _ I;exact sr J U.2.2.1 rfl
def qc (w:x3) (g:Nat) (v:x1) (k:Int) (sizes:Λ) (L:List cj):Prop:=bd ep 2 cv w g v L/\ ∀x∈L,mg w k sizes x
theorem qc.ext {g:Nat} {L:List cj} (h:qc w g v k sizes L) (I:Ext w w'):qc w' g v k sizes L:=⟨h.1.ext I,λx J=>(h.2 x J).ext I⟩
def L3 (w:x3) (B I:Nat) (f:bY):Prop:=∃szv J gz g L,ac w I cu [bO f.name,Δ f.k,szv,J]/\ap .i64 ag w gz szv f.sizes/\qc w g J f.k f.sizes L/\L.map dN=fp f/\B<=I/\(∀r,leads szv r->B<=r)/\ ∀x∈L,∀r,leads x.sv r->B<=r
theorem L4 {g bk:Nat} {L:List cj} {Y:Λ} (h:eT w g v L) (af:ac w bk am [sv]) (I:aB .i64 w sv Y):
  aj x7 yS [v,.func (.func yT) #[] #[Γ bk]] w λr w'=>Ext w w'/\((r=Δ (-1)/\ ∀x∈L,x.sc≠Y)\/ ∃i:Nat,r=Δ (i:Int)/\ ∃x,L[i]? =σ x/\x.sc=Y):=by
 refine aw func152 ?_;rw[eY fL.u h.1];refine bU.range L.length (λi _ J=>Ext w J/\ ∀x∈L.take i,x.sc≠Y) h.1.le ⟨Ext.refl _,λc U=>by simp at U⟩ ?_ ?_
 .rintro i _ J k hi ⟨W,aa⟩ hk;refine bB Ω ?_;obtain⟨x,ab⟩:=aF (l:=L) hi;rw[sA rfl (h.ext W) ab];show aj x7 yT [jx x,Γ bk] J _;obtain⟨⟨ah,hm⟩,_⟩:=(h.ext W).at ab;refine aw func153 ?_;refine bm λan V ak X ad=>?_;have ad:ac V an cQ [x.sv,Γ x.g]:=by
   obtain⟨_,_,_,e⟩:=df hm.ls;simp only[jx,ep,e] at ad ⊢;exact ad
  rw[aD cQ.p 0 ad rfl,aA Ψ ((af.ext (W.trans X)).Qz rfl)];refine (zv (hm.ls.ext X) (I.ext (W.trans X))).mono ?_;rintro _ al _ ⟨rfl,ae⟩;rw[ai];refine⟨λhe=>⟨(W.trans X).trans ae,.inr ⟨i,rfl,x,ab,he⟩⟩,λag=>?_⟩;rw[aL];refine hk _ _ ⟨(W.trans X).trans ae,λc U=>?_⟩;rw[r8,ab] at U;rcases l7.1 U with U|U
  .exact aa c U
  .simp at U;subst U;exact ag
 .rintro _ J k ⟨W,aa⟩;rw[o6] at aa;rw[aP,ai];exact⟨λh=>Ω,λ_=>⟨W,.inl ⟨rfl,aa⟩⟩⟩
def eB (f:bY) (i:Nat):List cF:=((f.funs.take i).map (hy f.sizes f.k)).foldl (hU f.k) []
theorem Ck {f:bY} (I:eX N f) (i:Nat):(∀g∈eB f i,fs f.sizes f.k g)/\iu (eB f i)/\(eB f i).length<=i:=by
 have:=vH (sizes:=f.sizes) (k:=f.k) (by have:=I.k.1;omega) (l:=(f.funs.take i).map (hy f.sizes f.k)) (acc:=[]) (λh aC=>by cases aC) List.nodup_nil λg U=>by
  obtain⟨x,V,rfl⟩:=o8.1 U;exact oL I (S8 V)
 refine⟨this.1,this.2.1,?_⟩;have J:=this.2.2;rw[List.length_nil,u7,X1,j0] at J;exact Y7 J (Nat.min_le_left _ _)
theorem vU {f:bY} {i:Nat} {x:cm} (h:f.funs[i]? =σ x):eB f (i+1)=hU f.k (eB f i) (hy f.sizes f.k x):=by
 unfold eB;rw[r8,h,l9,c8,List.foldl_append];rfl
theorem Cl (f:bY):eB f f.funs.length=e9 f:=by unfold eB e9;rw[o6]
theorem vV {L:List cj} {i:Nat} {x:cj} {D:List cF} (h:L.map dN=D) (I:L[i]? =σ x):dN x∈D:=by rw[<-h];exact o8.2 ⟨x,x5 I,rfl⟩
def L5 (w:x3) (f:bY) (v:x1) (w':x3):Prop:=Ext w w'/\((¬lF f.funs<=16384/\ ∃e:Int,e≠0/\v= .tuple #[.pointer ν,Δ e])\/ ∃I,v= .tuple #[Γ I,Δ 0]/\L3 w' w.heap.size I f)
theorem sH {g:Nat} {sc cs:Λ} (hm:ap .i64 ag w g sv sc):∀u∈ep ⟨sv,I,sc,cs⟩,u.oneCell'=true:=λu hu=>by
 simp[ep] at hu;rcases hu with rfl|rfl
 .exact hm.ls.cells.2
 .rfl
theorem L6 {cb:Nat} {f:bY} (cd:kU w cb f) (ab:eX N f) (cg:N<=60000) (di:f.name≠[]/\ ∀b∈f.name,bE b=true):
  aj x7 FN [Γ cb] w (L5 w f):=by
 have hk:=ab.k;refine aw func93 ?_;refine (Lq cd ab cg di).mono ?_;rintro _ J _ ⟨a6,e,rfl,he⟩;rw[bh,ai];refine⟨λch=>⟨a6,.inl ⟨λh=>ch (he h),e,ch,rfl⟩⟩,λeK=>?_⟩;have ci:=cd.ext a6;obtain⟨szv,a7,gz,bD,ck,dj,bF,a8⟩:=id ci;have eL:bD.length<=256:=by rw[a8.1];exact ab.kM
 rw[aM cu.p 3 ck rfl,gj dy.u bF];refine bU.range bD.length (λi l V=>∃g L,Ext J V/\eT V g l L/\Sem V f.k f.sizes L/\L.map dN=eB f i/\(∀r,leadsTo l r->J.heap.size<=r)/\ ∀x∈L,∀r,leads x.sv r->J.heap.size<=r) (m3 bF)
  ⟨0,[],Ext.refl _,⟨bd.nil _ _ _ _ _,λx Y=>(by cases Y)⟩,λx Y=>(by cases Y),rfl,λr U=>(fa U).elim,λx Y=>(by cases Y)⟩ ?_ ?_
 .rintro i l V dk hi ⟨g,L,aC,aV,ba,af,aq,aW⟩ dl;obtain⟨d,cl⟩:=aF (l:=bD) hi;obtain⟨x,bb⟩:∃x,f.funs[i]? =σ x:=⟨_,x6 (by have:=a8.1;omega)⟩;have cm:=x5 bb;have dm:=a8.2 i x d bb cl;have aE:=oL ab cm;obtain⟨dn,dp,eM⟩:=Ck ab i;have dr:L.length<=i:=by have cp:=congrArg S9 af;rw[u7] at cp;omega
  refine bB Ω ?_;refine aR (λl' bc=>∃au aH,Ext J bc/\eT bc au l' aH/\Sem bc f.k f.sizes aH/\aH.map dN=eB f (i+1)/\(∀r,leadsTo l' r->J.heap.size<=r)/\ ∀x∈aH,∀r,leads x.sv r->J.heap.size<=r) ?_ ?_
  .rintro l' bc ⟨au,aH,h1,ds,dt,du,dv⟩;rw[aL];exact dl _ _ ⟨au,aH,h1,ds,dt,du,dv⟩
  intro av cq;refine l3 (α:=gE) cv.p rfl dy.u cv.i (bq bF aC) cl λcs bG=>?_;have cr:cs.length=2:=ak.len bG;refine bN cv.i λan eN eO dw dx=>?_;refine cc (vs:=cs) cv.i cr rfl (ak.one bG) dx λdz dA eP dC=>?_;have al:Ext V dz:=dw.put dA Ω;rw[bI cv.p cv.i cr dC.range];refine (LA ab cg cm dm (bq bG al)).mono ?_;rintro _ dD _ ⟨dE,sv,gs,ct,dF,dG,rfl,eQ,aI,cw⟩;rw[bf,bg];refine bN am.i λbk eR eS dH dI=>?_;refine bz am.i aI.ls.cells.1 aI.ls.cells.2 dI (by simp[x1.cells]) λcz dJ eU be=>?_;have bH:Ext dD cz:=dH.put dJ Ω;have be:ac cz bk am [sv]:=be;rw[lZ];have bJ:=(al.trans dE).trans bH;have eV:=bJ.size;have eW:=aC.size;refine (L4 (aV.ext bJ) be (aI.ls.ext bH)).mono ?_;rintro _ eZ _ ⟨bi,U⟩;have bl:=bJ.trans bi;have cA:=bH.trans bi;have bK:=aI.ext cA;have cB:=cw.ext cA;have cC:=be.ext bi;have cD:=aV.ext bl;have bL:=ba.ext bl;rcases U with⟨rfl,dK⟩|⟨cE,rfl,y,W,bo⟩
  .refine bB Ω ?_;rw[aA Ψ (cC.Qz rfl),dc (cs:=#[sv,Γ ct]) (by obtain⟨_,_,_,rfl⟩:=df aI.ls;kernel_rfl)];let a:cj:=⟨sv,ct,bj x.scope,(hy f.sizes f.k x).2⟩;have bM:∀u∈ep a,u.oneCell'=true:=sH bK;refine hX (f:=ep) (a:=a) fL.u cQ.i Ω rfl rfl λe0 e1 dL e2 aJ dM=>?_;have aK:=cD.ext aJ;refine iq (f:=ep) (a:=a) fL.u cQ.i rfl aK.1 (by simpa using dM.sl) bM Ω Ω λaX au e3 aY bP aZ=>?_;have cF:=bK.ext aJ;have bp:∀ {r:Nat},leadsTo l r-> ∃c,ac dL r cQ c:=λU=>by
    obtain⟨rfl,c,X⟩:=dV aK.1 U;exact⟨c,X⟩
   refine cq _ _ ⟨au,L++[a],((aC.trans bl).trans aJ).then aZ (λr U he=>by have:=aq r he;omega),eT.mk aY λz I=>?_,λz I=>?_,?_,λr U=>?_,λz I r U=>?_⟩
   .rcases l7.1 I with I|I
    .have:=(aK.2 z I).aa aZ λr U he=>(aK.2 z I).2.1 r U (aK.1.leads he).1;exact⟨this.1,this.2.2⟩
    .rw[n9.1 I];exact⟨⟨gs,bn cF aZ λr U he=>by obtain⟨c,X⟩:=bp he;exact b3 cF X Φ U rfl⟩,aE.scope⟩
   .rcases l7.1 I with I|I
    .exact (bL.ext aJ).row aK aZ z I
    .rw[n9.1 I];exact⟨dF,dG,vP (cB.ext aJ) aZ λr U=>bp U⟩
   .rw[c8,af,vU bb,Cj]
    .rfl
    .intro c ah dO;rw[<-af] at ah;obtain⟨z,I,rfl⟩:=o8.1 ah;exact dK z I dO
   .rcases bP r U with h|h
    .exact aq r h
    .have:=aJ.size;have:=bi.size;omega
   .rcases l7.1 I with I|I
    .exact aW z I r U
    .rw[n9.1 I] at U;have cp:=(bR aI U).1;have:=al.size;omega
  .refine b6 Ω ?_;intro e4 ax _ _;have bT:=cD.ext ax;have cG:=(x4.1 W).1;obtain⟨dP,dR,br⟩:=(bL.ext ax) y (x5 W);have cH:=cC.ext ax;have cI:=bK.ext ax;have dS:=cB.ext ax;rw[dq rfl fL.u cQ.i bT.1 cG,aT cQ.p rfl,aA Ψ (bT.1.range W 1 _ rfl),aA Ψ (cH.Qz rfl),aA Ψ (cH.Qz rfl)];have aN:fs f.sizes f.k (dN y):=dn _ (vV af W);rw[bo] at br;have cJ:∀ {c:Int},0<=c/\c<=f.k->cn c f.k:=λh=>⟨hk,h.1,h.2⟩;refine (LN br dS cI.ls cI.ls hk (λc ah=>cJ (aN.hA c ah)) (λc ah=>cJ (aE.hA c ah))).mono ?_;intro e5 cK _ dT;have dU:y.cs.length=(aG (bS f.sizes (bj x.scope))).toNat:=by have:=aN.len;rw[show (dN y).1=y.sc from rfl,bo] at this;exact this
   have dW:bX (bS f.sizes (bj x.scope)):=cw.2.2.1;obtain⟨bV,cL,cM,cN,e6,rfl,dX⟩:=LS aE.up (λv dY=>(aE.scope.1 v dY).1) (by simp[bS];rfl) dW aE.small dU aE.len dT;rw[hM,hN,hP];have ay:=bT.ext bV;rw[dq rfl fL.u cQ.i ay.1 cG,aT cQ.p rfl];let a:cj:=⟨y.sv,cL,y.sc,dQ f.k y.cs (hy f.sizes f.k x).2⟩;refine oG (f:=ep) (j:=1) (a:=y) (a':=a) eH.i rfl rfl ay.1 W rfl Ω λdZ bt e7 ea=>?_;have bp:∀ {r:Nat},leadsTo l r-> ∃c,ac cK r cQ c:=λU=>by
    obtain⟨rfl,c,X⟩:=dV ay.1 U;exact⟨c,X⟩
   refine cq _ _ ⟨g,L.set cE a,((aC.trans bl).trans (ax.trans bV)).then bt (λr U he=>by have:=aq r he;omega),eT.mk ea λz I=>?_,λz I=>?_,?_,aq,λz I=>?_⟩
   .have cO:∀z∈L,(∃bW,ap .i64 ag dZ bW z.sv z.sc)/\iY z.sc:=λz I=>by
     have:=(ay.2 z I).aa bt λr U he=>(ay.2 z I).2.1 r U (ay.1.leads he).1;exact⟨this.1,this.2.2⟩
    rcases X6 I with I|rfl
    .exact cO z I
    .exact cO y (x5 W)
   .rcases X6 I with I|rfl
    .exact ((bL.ext ax).ext bV).row ay bt z I
    .refine⟨cM,cN,vP ?_ bt λr U=>bp U⟩;show c0 cK cL cM cN (bS f.sizes y.sc) f.k _;rw[bo];exact dX
   .rw[U1,af,vU bb,L1 (g:=hy f.sizes f.k x) dp (i:=cE) (h:=dN y) (by rw[<-af,x8,W];rfl) bo];rfl
   .rcases X6 I with I|rfl
    .exact aW z I
    .exact aW y (x5 W)
 .rintro l V dk ⟨g,L,aC,aV,ba,af,aq,aW⟩;refine b6 Ω ?_;rw[a8.1,Cl] at af;have dr:L.length<=256:=by
   have:=(kS ab).2.2;rw[<-af,u7] at this;have:=ab.kM;omega
  refine (LH aV ba Ω).mono ?_;rintro e8 cP _ ⟨cR,cS,eb⟩;have ec:Ext J cP:=aC.then cR λr U he=>by have:=aq r he;omega
  have ed:Sem cP f.k f.sizes (L.filter fG):=λz I=>(ba.row aV cR) z (S3.1 I).1;have e9:(L.filter fG).length<=L.length:=List.length_filter_le _ _;refine (Lx cS Ω).mono ?_;rintro _ cT _ ⟨cU,M,bu,ee,cV⟩;have ef:Ext J cT:=ec.then cU λr U he=>by have:=aq r (eb r he);omega
  have cW:Sem cT f.k f.sizes M:=λz I=>(ed.row cS cU) z (bu.mem_iff.1 I);have fb:M.length<=256:=by rw[bu.length_eq];omega
  have eg:∀x∈M,∀r,leads x.sv r->J.heap.size<=r:=λx Y=>aW x (S3.1 (bu.mem_iff.1 Y)).1;have cX:M.map dN=fp f:=by
   refine Ky ab ?_ ?_
   .refine (bu.map dN).trans ?_;rw[<-af,List.filter_map];exact .refl _
   .rw[List.pairwise_map];refine V2.2 λp q eh cY ei=>?_;exact ee p q _ _ (X2 _) ei cY (x6 eh) (x6 cY)
  intro fc bw _ _;have aO:=ef.trans bw;have fd:=ci.ext aO;have bZ:=ck.ext aO;rw[aM cu.p 0 bZ rfl,aM cu.p 1 bZ rfl,aM cu.p 2 bZ rfl];refine (kJ (dj.ls.ext aO) (by have:=ab.sizes.2.1;omega)).mono ?_;rintro a1 cZ _ ⟨az,ej,fe,b0⟩;refine⟨.inl az,?_⟩;rw[dc (cs:=#[bO f.name,Δ f.k,a1,.slice ν 0 0]) (by obtain⟨_,_,_,rfl⟩:=df b0.ls;kernel_rfl)];refine bm λaB ek ff bx b1=>?_;have b1:ac ek aB cu [bO f.name,Δ f.k,a1,.slice ν 0 0]:=b1;have fg:=(aO.trans az).trans bx;have em:=((cV.ext bw).ext az).ext bx;have fh:=((cW.ext bw).ext az).ext bx;rw[eY fL.u em.1];refine ce.range M.length (λi aP=>∃a7 gr ao,Ext cZ aP/\ac aP aB cu [bO f.name,Δ f.k,a1,a7]/\qc aP gr a7 f.k f.sizes ao/\ao.map dN=(M.take i).map dN/\ao.length=i/\(∀r,leadsTo a7 r->cZ.heap.size<=r)/\ ∀x∈ao,∀r,leads x.sv r->J.heap.size<=r) Ω
   ⟨_,0,[],bx,b1,⟨bd.nil _ _ _ _ _,λx Y=>(by cases Y)⟩,rfl,rfl,λr U=>(fa U).elim,λx Y=>(by cases Y)⟩ ?_ ?_
  rotate_left
  .rintro aP en ⟨a2,gr,ao,aQ,aS,b2,bA,_,_,b4⟩;rw[o6,cX] at bA;refine b6 Ω ?_;have fi:=a6.size;have fj:=aO.size;have fk:=az.size;exact⟨(a6.trans (aO.trans az)).trans aQ,.inr ⟨aB,rfl,a1,a2,ej,gr,ao,aS,b0.ext aQ,b2,bA,Ω,λr U=>by have:=(bR b0 U).1;omega,λx Y r U=>by have:=b4 x Y r U;omega⟩⟩
  rintro i aP en hi ⟨a2,gr,ao,aQ,aS,b2,bA,eo,c1,b4⟩ er;obtain⟨y,W⟩:=aF (l:=M) hi;have c2:=(bw.trans az).trans aQ;have c3:=cV.ext c2;have c4:=c3.at W;obtain⟨dP,dR,br⟩:=(cW.ext c2) y (x5 W);have aN:fs f.sizes f.k (dN y):=sk ab _ (vV cX W);refine bB Ω ?_;rw[sA rfl c3 W];refine bN cQ.i λgy fm fo es et=>?_;refine cc (vs:=ep y) cQ.i rfl rfl c4.one et λeu ev fq ew=>?_;have ey:Ext aP eu:=es.put ev Ω;intro ft c5 _ _;have b5:=ey.trans c5;have c6:=ew.ext c5;have ez:=aS.ext b5;rw[aM cu.p 3 ez rfl,aD cQ.p 0 c6 rfl,aD cQ.p 1 c6 rfl];refine (L0 (br.ext b5) λc ah=>⟨hk,(aN.hA c ah).1,(aN.hA c ah).2⟩).mono ?_;rintro _ fu _ ⟨b7,ad,m,o,D,rfl,eA,eC,eD,_⟩;refine⟨.inl b7,?_⟩;have c7:=b5.trans b7;obtain⟨⟨bW,da⟩,_,fv⟩:=c4;have db:=da.ext c7;rw[dc (cs:=#[y.sv,Γ ad]) (by obtain⟨_,_,_,e⟩:=df da.ls;rw[e];kernel_rfl)];let a:cj:=⟨y.sv,ad,y.sc,y.cs⟩;have bM:∀u∈ep a,u.oneCell'=true:=sH db;refine hX (f:=ep) (a:=a) dy.u cv.i Ω rfl rfl λv25 fw b8 fx al eE=>?_;refine⟨.inl (b7.trans al),?_⟩;have aU:=c7.trans al;have bC:=b2.ext aU;refine iq (f:=ep) (a:=a) dy.u cv.i rfl bC.1 (by simpa using eE.sl) bM Ω Ω λaX au eF aY bP dd=>?_;have fy:=aQ.size;have fz:=aU.size;have b9:ac eF aB cu [bO f.name,Δ f.k,a1,a2]:=(aS.ext aU).aa dd λhe=>by
   obtain⟨rfl,c,X⟩:=dV bC.1 he;have h1:=aS.ext aU;unfold ac at X h1;rw[h1] at X;exact absurd (Obj.cells.inj (c9 X)).2.1 Φ
  rw[bQ,aT cu.p rfl];have de:aX.cells= #[aX]/\aX.oneCell'=true:=by
   obtain⟨_,_,_,_,_,rfl,_⟩:=aY.sl;exact⟨rfl,rfl⟩
  refine bz dy.i de.1 de.2 b9 Ξ λeI dg fA eJ=>?_;rw[aL];have ca:ae (λr=>r=aB\/leadsTo a2 r) b8 eI:=(dd.mono λr _ h=>.inr h).trans (dg.mono λr _ h=>.inl h);have dh:∀r,(r=aB\/leadsTo a2 r)-> ∃e c,ac b8 r e c/\e≠fl/\e≠ag:=λr U=>by
   rcases U with rfl|U
   .exact⟨_,_,aS.ext aU,Φ,Φ⟩
   .obtain⟨rfl,c,X⟩:=dV bC.1 U;exact⟨_,c,X,Φ,Φ⟩
  refine er _ ⟨aX,au,ao++[a],?_,eJ,⟨aY.aa dg λr U he=>?_,λz I=>?_⟩,?_,by rw[o5,eo];rfl,λr U=>?_,λz I=>?_⟩
  .exact (aQ.trans aU).then ca λr U he=>by
    rcases he with rfl|he
    .omega
    .have:=c1 r he;omega
  .have he:r=aB:=he;subst he;obtain⟨rfl,c,X⟩:=dV aY U;unfold ac at X b9;rw[b9] at X;exact absurd (Obj.cells.inj (c9 X)).2.1 Φ
  .rcases l7.1 I with I|I
   .exact (bC.2 z I).aa ca dh
   .rw[n9.1 I];refine mg.aa (w:=b8) ⟨⟨bW,db.ext al⟩,m,o,D,eA.ext al,?_,eD⟩ ca dh;have:=aN.small;exact Y7 eC (by show (aG (bS f.sizes (dN y).1)).toNat<=4096;omega)
  .rw[c8,bA,r8,W,c8];rfl
  .rcases bP r U with h|h
   .exact c1 r h
   .omega
  .rcases l7.1 I with I|I
   .exact b4 z I
   .rw[n9.1 I];exact eg y (x5 W)
theorem eZ {I:r9} {c J:List x1} (h:ac w r e c) (h':ac w r I J):e=I:=by
 unfold ac at h h';rw[h] at h';exact (Obj.cells.inj (c9 h')).2.1
theorem cL {α:Type} {f:α->List x1} {k:Nat} {I:r9} {g:Nat} {L:List α} (h:bd f k e w g v L) (U:ac w J I cs) (V:e≠I):¬leadsTo v J:=λW=>by
 obtain⟨rfl,c,X⟩:=dV h W;exact V (eZ X U)
structure kV where
 v:x1
 l:Λ
def nr (h:kV):List x1:=[h.v]
def ha (w:x3) (g:Nat) (v:x1) (aU:List kV):Prop:=bd nr 1 aq w g v aU/\ ∀h∈aU,∃I,ap .i64 al w I h.v h.l
theorem ha.ext {g:Nat} {aU:List kV} (h:ha w g v aU) (I:Ext w w'):ha w' g v aU:=⟨h.1.ext I,λx J=>by
 obtain⟨U,hm⟩:=h.2 x J;exact⟨U,hm.ext I⟩⟩
theorem ha.qd {g:Nat} {aU:List kV} (h:ha w g v aU) (U:ae S w w') (V:∀r,S r-> ∃e c,ac w r e c/\e≠al):∀h∈aU,∃J,ap .i64 al w' J h.v h.l:=λx W=>by
 obtain⟨J,hm⟩:=h.2 x W;exact⟨J,bn hm U λr X I=>by
  obtain⟨e,c,Y,aa⟩:=V r I;exact b3 hm Y (λhe=>aa he.symm) X rfl⟩
theorem ha.aa {g:Nat} {aU:List kV} (h:ha w g v aU) (W:ae S w w') (X:∀r,S r-> ∃e c,ac w r e c/\e≠al/\e≠aq):ha w' g v aU:=
 ⟨h.1.aa W λr J I=>by
  obtain⟨e,c,U,_,V⟩:=X r I;exact cL h.1 U (λhe=>V he.symm) J,h.qd W λr J=>by
  obtain⟨e,c,U,V,_⟩:=X r J;exact⟨e,c,U,V⟩⟩
def ns (w:x3) (k:Int) (sizes:Λ) (x:cj):Prop:=(∃I,ap .i64 ag w I x.sv x.sc)/\ ∃J U,c0 w x.g J U (bS sizes x.sc) k x.cs
theorem ns.ext {x:cj} (h:ns w k sizes x) (I:Ext w w'):ns w' k sizes x:=by
 obtain⟨⟨J,h1⟩,U,V,W⟩:=h;exact⟨⟨J,h1.ext I⟩,U,V,W.ext I⟩
theorem Cm {g Y:Nat} {ab:x1} {cs:Λ} (h:c0 w g Y ab af k cs) (V:ae S w w') (W:∀r,S r-> ∃e c,ac w r e c/\e≠cR/\e≠ag/\e≠al):c0 w' g Y ab af k cs:=by
 obtain⟨⟨aW,gs,h1,ad,ah⟩,ai⟩:=h;refine⟨⟨aW,gs,h1.aa V λI=>?_,bn ad V λr X I=>?_,bn ah V λr X I=>?_⟩,ai⟩
 .obtain⟨e,c,J,U,_⟩:=W g I;exact U (eZ J h1)
 .obtain⟨e,c,J,_,U,_⟩:=W r I;exact b3 ad J (λhe=>U he.symm) X rfl
 .obtain⟨e,c,J,_,_,U⟩:=W r I;exact b3 ah J (λhe=>U he.symm) X rfl
theorem ns.aa {x:cj} (h:ns w k sizes x) (J:ae S w w') (U:∀r,S r-> ∃e c,ac w r e c/\e≠cR/\e≠ag/\e≠al):ns w' k sizes x:=by
 obtain⟨⟨V,h1⟩,W,X,Y⟩:=h;refine⟨⟨V,bn h1 J λr ab I=>?_⟩,W,X,Cm Y J U⟩;obtain⟨e,c,ad,_,af,_⟩:=U r I;exact b3 h1 ad (λhe=>af he.symm) ab rfl
def nt (w:x3) (g:Nat) (v:x1) (k:Int) (sizes:Λ) (L:List cj):Prop:=bd ep 2 gR w g v L/\ ∀x∈L,ns w k sizes x
theorem nt.ext {g:Nat} {L:List cj} (h:nt w g v k sizes L) (I:Ext w w'):nt w' g v k sizes L:=⟨h.1.ext I,λx J=>(h.2 x J).ext I⟩
theorem nt.aa {g:Nat} {L:List cj} (h:nt w g v k sizes L) (W:ae S w w') (X:∀r,S r-> ∃e c,ac w r e c/\e≠gR/\e≠cR/\e≠ag/\e≠al):nt w' g v k sizes L:=
 ⟨h.1.aa W λr J I=>by
  obtain⟨e,c,U,V,_⟩:=X r I;exact cL h.1 U (λhe=>V he.symm) J,λx Y=>(h.2 x Y).aa W λr J=>by
  obtain⟨e,c,U,_,V⟩:=X r J;exact⟨e,c,U,V⟩⟩
def fH (w:x3) (V:Nat) (n:aQ):Prop:=∃I J U W gr aU L nm szv gz fv2,ac w V fj [Γ I,Δ n.zero,J,U]/\ac w I cu [nm,Δ n.k,szv,fv2]/\ap .i64 ag w gz szv n.sizes/\
 ha w W J aU/\aU.map (·.l)=n.unary/\nt w gr U n.k n.sizes L/\L.map dN=n.funs
theorem fH.ext {n:aQ} (h:fH w J n) (I:Ext w w'):fH w' J n:=by
 obtain⟨U,V,W,X,gr,aU,L,nm,szv,gz,fv2,h1,Y,aa,ab,ac,ad,ae⟩:=h;exact⟨U,V,W,X,gr,aU,L,nm,szv,gz,fv2,h1.ext I,Y.ext I,aa.ext I,ab.ext I,ac,ad.ext I,ae⟩
def qe (w:x3) (B:Nat) (k:Int) (sizes:Λ) (x:cj):Prop:=(∃U,ap .i64 ag w U x.sv x.sc)/\(∃I J,c0 w x.g I J (bS sizes x.sc) k x.cs/\B<=I/\ ∀r,leads J r->B<=r)/\B<=x.g/\ ∀r,leads x.sv r->B<=r
theorem qe.aa {x:cj} (h:qe w B k sizes x) (J:ae S w w') (U:∀r,S r-> ∃e c,ac w r e c/\e≠cR/\e≠ag/\e≠al):qe w' B k sizes x:=by
 obtain⟨⟨V,h1⟩,⟨W,X,Y,ab⟩,ad⟩:=h;refine⟨⟨V,bn h1 J λr af I=>?_⟩,⟨W,X,Cm Y J U,ab⟩,ad⟩;obtain⟨e,c,ah,_,ai,_⟩:=U r I;exact b3 h1 ah (λhe=>ai he.symm) af rfl
def lG (w:x3) (B g:Nat) (v:x1) (k:Int) (sizes:Λ) (L:List cj):Prop:=bd ep 2 gR w g v L/\ ∀x∈L,qe w B k sizes x
theorem lG.ext {g:Nat} {L:List cj} (h:lG w B g v k sizes L) (I:Ext w w'):lG w' B g v k sizes L:=⟨h.1.ext I,λx J=>(h.2 x J).aa (I.aa λ_=>False) λ_ h=>h.elim⟩
theorem lG.aa {g:Nat} {L:List cj} (h:lG w B g v k sizes L) (W:ae S w w') (X:∀r,S r-> ∃e c,ac w r e c/\e≠gR/\e≠cR/\e≠ag/\e≠al):lG w' B g v k sizes L:=
 ⟨h.1.aa W λr J I=>by
  obtain⟨e,c,U,V,_⟩:=X r I;exact cL h.1 U (λhe=>V he.symm) J,λx Y=>(h.2 x Y).aa W λr J=>by
  obtain⟨e,c,U,_,V⟩:=X r J;exact⟨e,c,U,V⟩⟩
theorem Cn:∃o:Obj,ff o=false:=⟨.deferred ν,rfl⟩
theorem ghost (w:x3) (B:Nat):∃w0,Ext w0 w/\ae (λr=>r<B) w w0/\ ∀r o,w0.heap[r]? =σ o->ff o=true->B<=r:=by
 obtain⟨ck,V⟩:=Cn;have U:∀r,(w.heap.mapIdx λr o=>if r<B then ck else o)[r]? =(w.heap[r]?).map λo=>if r<B then ck else o:=λr=>Ξ
 refine⟨{w with heap:=w.heap.mapIdx λr o=>if r<B then ck else o},⟨Ξ,λr o J I=>?_⟩,⟨Ξ,λr o J I W=>?_⟩,λr o J I=>?_⟩
 .have J:(w.heap.mapIdx λr o=>if r<B then ck else o)[r]? =σ o:=J;rw[U] at J;cases h:w.heap[r]? with
  |none=>rw[h] at J;cases J
  |some o'=>
   rw[h] at J;simp only[Z2,Y6] at J;split at J
   .subst J;rw[V] at I;cases I
   .rw[J]
 .show (w.heap.mapIdx λr o=>if r<B then ck else o)[r]? =σ o;rw[U,J,Z2,if_neg W]
 .have J:(w.heap.mapIdx λr o=>if r<B then ck else o)[r]? =σ o:=J;rw[U] at J;cases h:w.heap[r]? with
  |none=>rw[h] at J;cases J
  |some o'=>
   rw[h] at J;simp only[Z2,Y6] at J;split at J
   .subst J;rw[V] at I;cases I
   .omega
def Co (B:Nat) (w:x3) (I:Nat) (n:aQ):Prop:=∃w0,fH w0 I n/\Ext w0 w/\ ∀r o,w0.heap[r]? =σ o->ff o=true->B<=r
theorem L7 {Y U ae gr gz:Nat} {n:aQ} {V W nm fv2:x1} {aU:List kV} {L:List cj} (h1:ac w Y fj [Γ U,Δ n.zero,V,W]) (af:ac w U cu [nm,Δ n.k,szv,fv2]) (ak:ap .i64 ag w gz szv n.sizes)
  (ah:ha w ae V aU) (al:aU.map (·.l)=n.unary) (ai:lG w B gr W n.k n.sizes L) (am:L.map dN=n.funs) (an:B<=Y) (ao:B<=U) (aq:∀r,leads szv r->B<=r) (aj:∀r,leadsTo V r\/leadsTo W r->B<=r) (au:∀h∈aU,∀r,leads h.v r->B<=r):Co B w Y n:=by
 obtain⟨w0,ab,I,av⟩:=ghost w B;have no:∀ {r:Nat},B<=r->¬r<B:=λh af=>Ω
 have X:∀ {e:r9} {g:Nat} {v:x1} {l:Λ},ap .i64 e w g v l->(∀r,leads v r->B<=r)->ap .i64 e w0 g v l:=λh aw=>bn h I λr J=>no (aw r J);refine⟨w0,⟨U,V,W,ae,gr,aU,L,nm,szv,gz,fv2,h1.aa I (no an),af.aa I (no ao),X ak aq,⟨ah.1.aa I λr J=>no (aj r (.inl J)),λh aC=>?_⟩,al,⟨ai.1.aa I λr J=>no (aj r (.inr J)),λx ab=>?_⟩,am⟩,ab,av⟩
 .obtain⟨ad,hm⟩:=ah.2 h aC;exact⟨ad,X hm (au h aC)⟩
 .obtain⟨⟨ad,ax⟩,⟨ay,az,⟨⟨aW,gs,aA,aB,t3⟩,t4⟩,aG,aD⟩,aE,aF⟩:=ai.2 x ab;exact⟨⟨ad,X ax aF⟩,ay,az,⟨aW,gs,aA.aa I (no aE),X aB aD,bn t3 I λr J=>no (by have:=(bR t3 J).1;omega)⟩,t4⟩
def iw (n:aQ) (g:cF):aQ:=match g.1 with
 |[]=>{n with zero:=g.2.getD 0 0}
 |[v]=>{n with unary:=n.unary.set v.toNat g.2}
 |_=>{n with funs:=n.funs++[g]}
def Cp (f:bY):aQ:=⟨f.k,f.sizes,0,f.sizes.map λz=>p8 z.toNat 0,[]⟩
theorem L8 (f:bY):cd f=(fp f).foldl iw (Cp f):=rfl
def dx (f:bY) (i:Nat):aQ:=((fp f).take i).foldl iw (Cp f)
theorem vW {f:bY} {i:Nat} {g:cF} (h:(fp f)[i]? =σ g):dx f (i+1)=iw (dx f i) g:=L2 h
theorem sI (f:bY):dx f (fp f).length=cd f:=by unfold dx;rw[o6,L8]
theorem L9 (n:aQ) (g:cF):(iw n g).k=n.k/\(iw n g).sizes=n.sizes/\(iw n g).unary.length=n.unary.length/\(iw n g).funs.length<=n.funs.length+1:=by
 unfold iw;split
 .exact⟨rfl,rfl,rfl,Nat.le_succ _⟩
 .exact⟨rfl,rfl,Ξ,Nat.le_succ _⟩
 .exact⟨rfl,rfl,rfl,Ξ⟩
theorem oO (f:bY):∀i,(dx f i).k=f.k/\(dx f i).sizes=f.sizes/\(dx f i).unary.length=f.sizes.length/\(dx f i).funs.length<=i
 |0=>⟨rfl,rfl,by show (f.sizes.map _).length=_;simp,X2 _⟩
 |i+1=>by
  have I:=oO f i;cases J:(fp f)[i]? with
  |none=>
   have U:=List.getElem?_eq_none_iff.1 J;have e:dx f (i+1)=dx f i:=by unfold dx;rw[j6 Ω,j6 U]
   rw[e];exact⟨I.1,I.2.1,I.2.2.1,Ω⟩
  |some g=>
   rw[vW J];obtain⟨h1,V,W,X⟩:=L9 (dx f i) g;exact⟨h1.trans I.1,V.trans I.2.1,W.trans I.2.2.1,Ω⟩
end Go.Proofs.YtjjhhcfgfdepdaaGreatDoor
