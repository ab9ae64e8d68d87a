/- own texts, made small by a tool (wip/ holds them as they were written): no statement of the seat. -/
import Derived.Test.YtgbkinibgjmodaaGreatDoorZd
set_option linter.unusedVariables false
set_option linter.unusedSimpArgs false
set_option linter.unnecessarySimpa false
open Array renaming getElem?_eq_some_iff→j4,getElem?_toList→S3
open BitVec renaming ofInt→U5
open Bool renaming not_true→Y1,not_false→X4,eq_iff_iff→V8,and_eq_true→U1,true_and→U7,or_eq_false_iff→S0
open Decidable renaming not_not→X2
open Go renaming Value→x1,World→x2,TypeId→u9,IntKind→o5,Builtin→l5,Program→W5,Oper→U8,Operand→T8
open Go.Addr renaming add_mid→U4
open Go.Builtin renaming append_→l7,len_→Y3
open Go.Instr renaming loadAt→x5,fieldAt→x7,storeAt→o4,indexAt→n0,buildSlice→Z7,extract→Z8,sliceAt→W3,alloc→S6
open Go.IntKind renaming i64→Y5,u64→U3
open Go.Proofs.Tryz renaming prog→x3
open Go.Result renaming andThen→W0
open Go.Sem renaming run_bind→X8,run_pure→W9
open Go.Sort renaming Holds→T9
open Go.Value renaming int→V2
open Int renaming toNat_natCast→j9
open List renaming getElem?_eq_getElem→y0,getElem?_eq_some_iff→x4,mem_of_getElem?→x6,getElem?_map→x8,getD_eq_getElem?_getD→u4,length_map→u5,length_append→r8,take_add_one→r9,replicate→o6,length_take→o7,take_length→o9,mem_append→n9,mem_singleton→l9,getElem?_append_left→j0,length_cons→j5,take_of_length_le→Z0,getElem?_append_right→Z1,eq_nil_of_length_eq_zero→Z2,map_append→Z4,mem_map→Z5,getElem?_take_of_lt→Y2,getElem?_eq_none→Y4,mem_iff_getElem?→Y7,length_set→X1,getElem?_set→X5,ext_getElem?→X6,length_eq_one_iff→X7,range→X9,getElem?_set_ne→W6,drop_eq_getElem_cons→W8,pairwise_iff_getElem→V0,mem_or_eq_of_mem_set→V3,append_nil→V4,getElem?_set_self→V5,flatMap_cons→V6,append_assoc→V9,set_append_right→U6,mem_cons→U9,map_set→T0,length_singleton→T1,mem_of_mem_take→T2,map_cons→S2,length→S9,length_drop→R0,getElem_mem→R2
open Nat renaming le_refl→o8,zero_le→Y9,le_trans→X0,mul_le_mul_right→X3,sub_self→W7,zero_add→V1,add_mul→U2,beq→T3,mul_one→T4,min_eq_left→T5,pow_le_pow_right→S4,le_succ→S5,add_assoc→S7,add_sub_cancel_left→S8
open Ne renaming symm→T7
open Option renaming isNone_some→j6,some→Z3,toList_some→Z9,map_some→Y0,map_eq_some_iff→Y8,map→V7,getD_some→S1
open Option.some renaming inj→Z6,injEq→Y6
open Prod.mk renaming injEq→T6
set_option maxHeartbeats 16000000
open Option renaming some→σ,none→ν
variable {w w':x2}{a l sizes:List Int}{S:Nat->Prop}{B N ag al j:Nat}{aD ay sv v z:x1}{e t:u9}{K:x1->x2->Prop}{k y:Int}{c cs:List x1}{m:Bool}
namespace Go.Proofs.YtgbkinibgjmodaaGreatDoor
open Go Go.Vc Go.RowKit Go.Proofs Go.Proofs.Tryz
set_option maxRecDepth 100000
theorem AR {h:e7} {g:Nat} (J:e8 w sizes h) (I:ae w' g aY (x1.agg (c4 h).toArray).cells.toList):ae w' g aY (c4 h):=by
 obtain⟨⟨aa,h1⟩,⟨ab,U⟩,ac,V⟩:=J;obtain⟨_,_,_,W⟩:=b0 h1.ls;obtain⟨_,_,_,X⟩:=b0 U.ls;obtain⟨_,_,_,Y⟩:=b0 V.ls;simp only[c4,W,X,Y] at I ⊢;exact I
theorem Km {a b:e7} (aB:e8 w sizes a) (aC:e8 w sizes b) (aF:h6 a.sc) (aG:h6 b.sc):aj x3 wR [.agg (c4 a).toArray,.agg (c4 b).toArray] w λv w'=>v= .bool (decide (cT a.sc<cT b.sc))/\Ext w w':=by
 obtain⟨⟨aU,aD⟩,_⟩:=id aB;obtain⟨⟨a2,aH⟩,_⟩:=id aC;have an:=(tJ aF aG).1;refine aA func224 ?_;refine bM λaI U a6 aJ ap=>?_;refine bM λaK aq a7 aE au=>?_;have ap:=(AR aB ap).ext aE;have au:=AR aC au;have X:=aJ.trans aE;have Y:=aD.ls.ext X;have ag:=aH.ls.ext X;have ae:∀ {w':x2},Ext aq w'-> ∀ {K:x1->Prop},J x3 (x7 aY (Γ aI) 0) w' (λt=>J x3 (x5 ah t) w' K)=K a.ay:=λI K=>by
  rw[aa aY.p rfl,ac (v:=a.ay) Ψ ((ap.ext I).cell (o:=0+0) rfl)]
 have ai:∀ {w':x2},Ext aq w'-> ∀ {K:x1->Prop},J x3 (x7 aY (Γ aK) 0) w' (λt=>J x3 (x5 ah t) w' K)=K b.ay:=λI K=>by
  rw[aa aY.p rfl,ac (v:=b.ay) Ψ ((au.ext I).cell (o:=0+0) rfl)]
 rw[ae (Ext.refl _),aS ah.u Y,ai (Ext.refl _),aS ah.u ag,bB,ad];refine⟨λaL=>?_,λaM=>?_⟩
 .rw[ae (Ext.refl _),aS ah.u Y,ai (Ext.refl _),aS ah.u ag,ao];refine⟨?_,X⟩;congr 1;rw[V8,decide_eq_true_eq,decide_eq_true_eq,an];exact⟨λh=>.inl Ω,λh=>by rcases h with h|h <;> omega⟩
 have aO:a.sc.length=b.sc.length:=by have:=X2.1 aM;omega
 rw[ae (Ext.refl _),aS ah.u Y];refine bC.range a.sc.length (λi _ av=>Ext aq av/\ ∀ (j:Nat) (x y:Int),j<i->a.sc[j]? =σ x->b.sc[j]? =σ y->x=y) aD.ls.le ⟨Ext.refl _,λj x y aP=>Ω⟩ ?_ ?_
 .rintro i _ av k hi ⟨aw,ak⟩ aQ;obtain⟨x,I⟩:∃x,a.sc[i]? =σ x:=⟨_,y0 hi⟩;obtain⟨y,al⟩:∃y,b.sc[i]? =σ y:=⟨_,y0 Ω⟩;have V:ff a.sc b.sc=ff (a.sc.drop i) (b.sc.drop i):=rq ak Ω Ω;have aR:a.sc.drop i=x::a.sc.drop (i+1):=by rw[W8 hi,(x4.1 I).2]
  have aT:b.sc.drop i=y::b.sc.drop (i+1):=by rw[W8 (show i<b.sc.length by omega),(x4.1 al).2]
  rw[aR,aT] at V;simp only[ff] at V;rw[ao,ad];refine⟨λ_=>?_,λh=>Ω⟩;intro a8 aV _ _;have W:=aw.trans aV;rw[ae W,bc ah.u ab.i Ψ (Y.ext W) I,ai W,bc ah.u ab.i Ψ (ag.ext W) al,bB,ad];refine⟨λaL=>?_,λhe=>?_⟩
  .intro ba aW _ _;have af:=W.trans aW;rw[ae af,bc ah.u ab.i Ψ (Y.ext af) I,ai af,bc ah.u ab.i Ψ (ag.ext af) al,ao];refine⟨?_,X.trans af⟩;congr 1;rw[V8,decide_eq_true_eq,decide_eq_true_eq,an,V];by_cases am:x<y
   .rw[if_pos am];exact⟨λ_=>.inr ⟨aO,Ω⟩,λ_=>am⟩
   .rw[if_neg am,if_pos (show y<x by omega)];exact⟨λh=>absurd h am,λh=>by rcases h with h|h <;> omega⟩
  .rw[aN];refine aQ _ _ ⟨W,λj aX aZ aP ax az=>?_⟩;by_cases a1:j=i
   .subst a1;rw[I] at ax;rw[al] at az;cases ax;cases az;exact X2.1 he
   .exact ak j aX aZ Ω ax az
 .rintro _ av k ⟨aw,ak⟩;rw[ao,ad];refine⟨λh=>Ω,λ_=>⟨?_,X.trans aw⟩⟩;congr 1;symm;rw[decide_eq_false_iff_not,an];have V:ff a.sc b.sc=ff (a.sc.drop a.sc.length) (b.sc.drop a.sc.length):=rq ak (o8 _) Ω;rw[List.drop_length,show b.sc.drop a.sc.length=[] from List.drop_eq_nil_of_le Ω] at V;rw[V];simp only[ff];omega
def c8 (h:e7):ct:=(h.sc,h.cs)
def jh (w:x2) (B g:Nat) (v:x1) (sizes:List Int) (L:List e7):Prop:=a6 c4 3 aY w g v L/\(∀h∈L,e8 w sizes h/\ ∀r,leads h.aJ r->B<=r)/\(∀ (i j:Nat) x y,L[i]? =σ x->L[j]? =σ y->i≠j-> ∀r,leads x.aJ r->¬leads y.aJ r)/\ ∀r,leadsTo v r->B<=r
theorem lp {h:e7} (ac:e8 w sizes h) (X:af S w w') (Y:∀r,S r->(∃e c,ae w r e c/\e≠ab/\e≠an)\/w.heap.size<=r\/((∃c,ae w r an c)/\¬leads h.aJ r)):e8 w' sizes h:=by
 obtain⟨⟨ad,h1⟩,⟨ag,ah⟩,ai,V⟩:=ac;have aa:∀ {g:Nat} {v:x1} {l:List Int},aq .i64 ab w g v l->aq .i64 ab w' g v l:=λhm=>bb hm X λr J I=>by
  rcases Y r I with⟨e,c,U,W,_⟩|aj|⟨⟨c,U⟩,_⟩
  .exact bU hm U (λhe=>W he.symm) J rfl
  .obtain⟨ak,al⟩:=bA hm J;omega
  .exact bU hm U Φ J rfl
 refine⟨⟨ad,aa h1⟩,⟨ag,aa ah⟩,ai,bb V X λr J I=>?_⟩;rcases Y r I with⟨e,c,U,_,W⟩|aj|⟨_,am⟩
 .exact bU V U (λhe=>W he.symm) J rfl
 .obtain⟨ak,al⟩:=bA V J;omega
 .exact am J
theorem jh.ext {g:Nat} {L:List e7} (h:jh w B g v sizes L) (I:Ext w w'):jh w' B g v sizes L:=⟨h.1.ext I,λx J=>⟨(h.2.1 x J).1.ext I,(h.2.1 x J).2⟩,h.2.2⟩
section
variable {α:Type} {f:α->List x1} {k:Nat} {P:W5} {w:x2} {e:u9} {g:Nat} {v:x1} {L:List α}
theorem Kn {M:List α} (h:a6 f k e w g v L) (I:L.map f=M.map f):a6 f k e w g v M:=by
 have J:L.length=M.length:=by have:=congrArg S9 I;simpa using this
 have hm:L.flatMap f=M.flatMap f:=by rw[List.flatMap_def,List.flatMap_def,I]
 refine⟨by rw[<-J,<-hm];exact h.1,λa U=>?_⟩;obtain⟨b,V,he⟩:=Z5.1 (show f a∈L.map f by rw[I];exact Z5.2 ⟨a,U,rfl⟩);rw[<-he];exact h.2 b V
theorem AS {b l h':Nat} {low high:Option x1} {K:x1->Prop} (W:P.underlying t=σ (.slice e)) (hi:aM P e k b z) (h:a6 f k e w g v L) (h1:kk low l) (X:kl high L.length h') (U:l<=h') (aH:h'<=L.length)
  (Y:∀V,(∀w',a6 f k e w' g v L->bT w' k V ((L.drop l).take (h'-l)).length (((L.drop l).take (h'-l)).flatMap f))->K V):J P (W3 t v low high ν) w K:=by
 have aa:=h.sl;obtain⟨_,ac,o,base,cap,rfl,ad,_⟩:=aa;rw[fq W hi h1 X er U Ω (o8 _)];refine Y _ λw' I=>?_;have:=bT.part (l:=l) (h:=h') (m:=cap) I.sl U aH Ω (o8 _);rw[q3 l I.2,oW (h'-l) (λa ab=>I.2 a (List.mem_of_mem_drop ab))] at this;have el:((L.drop l).take (h'-l)).length=h'-l:=by rw[o7,R0];omega
 rw[el];exact this
theorem ux {aj:u9} {b:Nat} {x:x1} {M:List α} (X:P.underlying t=σ (.slice e)) (hi:aM P e k b z) (ad:z.cells.size=k) (h:a6 f k e w g v L) (ae:bT w k x M.length (M.flatMap f)) (ak:∀a∈M,(f a).length=k) (h1:∀a∈M,∀u∈f a,u.oneCell'=true)
  (Y:(L.length+M.length)*b<=140737488355328) (ag:L.length+M.length<=9223372036854775807)
  (ah:∀I J w',a6 f k e w' J I (L++M)->(∀r,leadsTo I r->leadsTo v r\/w.heap.size<=r)->af (λr=>leadsTo v r) w w'->K I w'):az P (l7 #[t,t] aj #[v,x]) w K:=by
 have ai:∀u∈M.flatMap f,u.oneCell'=true:=λu hu=>by
  obtain⟨a,al,hu⟩:=List.mem_flatMap.1 hu;exact h1 a al u hu
 have aa:∀I J w',bQ w' J e k I (L.length+M.length) (L.flatMap f++M.flatMap f)->a6 f k e w' J I (L++M):=λI J w' hm=>⟨by simpa using hm,λb Y=>by
  rcases n9.1 Y with h'|h'
  .exact h.2 b h'
  .exact ak b h'⟩
 rcases h.1.2 with⟨U,am⟩|⟨cap,cs,U,an,_⟩
 .have hm:bQ w w.heap.size e k v L.length (L.flatMap f):=⟨h.1.1,.inl ⟨U,am⟩⟩;subst U;refine lU X X hi ad hm ae ai (by simpa using Y) (by simpa[maxLen] using ag) λI J w' ab V ac=>ah I J w' (aa _ _ _ V) (λr W=>.inr ?_) (ac.mono λr W h=>Ω);have:=((aa _ _ _ V).leads W).1;omega
 .refine lU X X hi ad h.1 ae ai (by simpa using Y) (by simpa[maxLen] using ag) λI J w' ab V ac=>ah I J w' (aa _ _ _ V) (λr W=>?_) (ac.mono λr W h=>⟨_,_,_,U,h.symm⟩);have:=((aa _ _ _ V).leads W).1;rcases ab with ab|ab
  .exact .inl ⟨_,_,_,U,by show g=r;omega⟩
  .exact .inr Ω
theorem Ko {b:Nat} (I:P.underlying t=σ (.slice e)) (hi:aM P e k b z)
  (J:∀v g w',g=w.heap.size->Ext w w'->a6 f k e w' g v []->K v w'):az P (Z7 t 0 #[]) w K:=
 il I hi Ω (cs:=#[]) (by simp[Instr.fill]) λg w' U V W=>by
  exact J _ g w' U V ⟨by simpa using bQ.full (k:=k) (n:=0) W Ξ (by simp[maxLen]),λc X=>by cases X⟩
end
theorem rF {α:Type} {A B:List α} {s:Nat} {a:α} (I:s<B.length) (J:A[s]? =σ a):(A.take s++B.drop s).set s a=A.take (s+1)++B.drop (s+1):=by
 have U:=(x4.1 J).1;have h1:(A.take s).length=s:=by rw[o7];omega
 rw[U6 _ _ Ω,h1,W7,W8 I,List.set_cons_zero,r9,J,Z9,V9];rfl
theorem AT {α:Type} {A B:List α} {s:Nat} (I:s<=A.length):(A.take s++B.drop s)[s]? =B[s]?:=by
 have h1:(A.take s).length=s:=by rw[o7];omega
 rw[Z1 Ω,h1,W7,List.getElem?_drop,Nat.add_zero]
theorem AU {g:ct}:∀ {l:List ct} {i:Nat},(∀p<i,∀x,l[p]? =σ x->cT x.1<cT g.1)->i<=l.length->(∀x,l[i]? =σ x->¬cT x.1<cT g.1)->gy g l=l.take i++g::l.drop i
 |[],i,_,I,_=>by
  have:i=0:=by simpa using I
  subst this;rfl
 |x::l,0,_,_,J=>by
  unfold gy;rw[if_neg (J x rfl)];rfl
 |x::l,i+1,h1,I,J=>by
  unfold gy;rw[if_pos (h1 0 Ω x rfl),AU (i:=i) (λp V y U=>h1 (p+1) Ω y U) (by simpa using I) (λy U=>J y U)];rfl
theorem Kp {g:Nat} {L:List e7} {h:e7} {s:Nat} {n:Int} {K:Unit->x2->Prop} (U:jh w B g v sizes L) (ac:L[j]? =σ h) (I:s<h.cs.length)
  (av:∀w',af (λr=>leads h.aJ r) w w'->(∀r,leads h.aJ r-> ∃c,ae w r an c)->jh w' B g v sizes (L.set j {h with cs:=h.cs.set s n})->K () w'):
  J x3 (n0 ax h.aJ (Δ (s:Int))) w λt=>az x3 (o4 an t (Δ n)) w K:=by
 obtain⟨h1,ak,al,aw⟩:=U;have ai:=(x4.1 ac).1;obtain⟨am,ay⟩:=ak h (x6 ac);obtain⟨_,_,ao,ad⟩:=id am;have ag:∀r,leads h.aJ r-> ∃c,ae w r an c:=λr U=>by
  obtain⟨rfl,_⟩:=bA ad U;obtain⟨_,⟨aA,_⟩|⟨cap,full,_,Y,_⟩⟩:=ad
  .obtain⟨a,n,c,e,_⟩:=U;rw[aA] at e;cases e
  .exact⟨_,Y⟩
 have aB:∀r,r=ao->leads h.aJ r:=λr he=>by
  subst he;obtain⟨_,⟨_,aR⟩|⟨cap,full,e,Y,_⟩⟩:=ad
  .omega
  .exact⟨_,_,_,e,rfl⟩
 rw[ha rfl ax.u an.i ad I];refine hb an.i ad I λw' aa aS aC=>?_;have aa:=aa.mono (T:=λr=>leads h.aJ r) λr _ he=>aB r he;refine av w' aa ag ⟨?_,λx X=>?_,λp q x y X aD aE r aF aG=>?_,aw⟩
 .refine Kn (h1.V aa λr U I=>?_) ?_
  .obtain⟨c,Y⟩:=ag r I;exact b7 h1 Y Φ U
  .rw[T0];symm;refine X6 λp=>?_;rw[X5,x8];by_cases W:j=p
   .subst W;rw[if_pos rfl,if_pos (by simpa using ai),ac];rfl
   .rw[if_neg W]
 .have aH:x={h with cs:=h.cs.set s n}\/ ∃p,p≠j/\L[p]? =σ x:=by
   obtain⟨p,W⟩:=Y7.1 X;rw[X5] at W;by_cases ab:j=p
   .subst ab;rw[if_pos rfl,if_pos ai] at W;exact .inl (Z6 W).symm
   .rw[if_neg ab] at W;exact .inr ⟨p,λh=>ab h.symm,W⟩
  rcases aH with rfl|⟨p,aI,W⟩
  .obtain⟨⟨aK,ap⟩,⟨aL,aq⟩,_⟩:=am;refine⟨⟨⟨aK,bb ap aa λr U I=>?_⟩,⟨aL,bb aq aa λr U I=>?_⟩,ao,aC⟩,ay⟩
   .obtain⟨c,Y⟩:=ag r I;exact bU ap Y Φ U rfl
   .obtain⟨c,Y⟩:=ag r I;exact bU aq Y Φ U rfl
  .obtain⟨aM,aN⟩:=ak x (x6 W);refine⟨lp aM aa λr U=>.inr (.inr ⟨ag r U,λaj=>al p j x h W ac aI r aj U⟩),aN⟩
 .have au:∀ {p:Nat} {x:e7},(L.set j {h with cs:=h.cs.set s n})[p]? =σ x-> ∃ah,L[p]? =σ ah/\ah.aJ=x.aJ:=λ{p x} X=>by
   rw[X5] at X;by_cases ab:j=p
   .subst ab;rw[if_pos rfl,if_pos ai] at X;cases X;exact⟨h,ac,rfl⟩
   .rw[if_neg ab] at X;exact⟨x,X,rfl⟩
  obtain⟨ah,aj,ex⟩:=au X;obtain⟨aO,aP,aQ⟩:=au aD;exact al p q ah aO aj aP aE r (by rw[ex];exact aF) (by rw[aQ];exact aG)
def jR (f:bY) (j:Nat):List ct:=(((eR f).take j).filter e0).foldl (λl g=>gy g l) []
theorem AV {f:bY} {x:ct} (h:(eR f)[j]? =σ x):jR f (j+1)=if e0 x then gy x (jR f j) else jR f j:=by
 unfold jR;rw[r9,h,Z9,List.filter_append,List.foldl_append];cases I:e0 x with
 |true=>rw[List.filter_cons_of_pos I];rfl
 |false=>rw[List.filter_cons_of_neg (by simp[I])];rfl
theorem Kq (f:bY):jR f (eR f).length=e1 f:=by unfold jR e1;rw[o9]
theorem AW (g:ct):∀l,(gy g l).length=l.length+1
 |[]=>rfl
 |h::l=>by
  unfold gy;split
  .rw[j5,AW g l,j5]
  .rfl
theorem Kr {f:bY} (J:j<=(eR f).length):(jR f j).length<=j:=by
 induction j with
 |zero=>simp[jR]
 |succ j I=>
  have:=I Ω;rw[AV (x:=(eR f)[j]) (y0 Ω)];split
  .rw[AW];omega
  .omega
theorem Ks {g:Nat} {l:x1} {f:bY} {L:List e7} {Q:x1->x2->Prop} (aX:eL N f) (Y:jh w B g l f.sizes L) (aZ:L.map c8=eR f)
  (b9:∀out w' go X,Ext w w'->a6 c4 3 aY w' go out X->(∀h∈X,h∈L)->(∀h∈X,e8 w' f.sizes h)->X.map c8=e1 f->(∀r,leadsTo out r->w.heap.size<=r)->Q out w'):
  J x3 (Y3 #[cF] ab #[l]) w λca=>
 bC (.slice ν 0 0) (Δ 0) w λout a1 ap cb=>
  J x3 (aB .lss ab false false a1 ca) ap λcc=>
  Split cc (bx (α:=x1->x2->Prop) (λ(cd:x1) (aq:x2)=>
   J x3 (aB .add ab false true a1 (Δ 1)) aq λce=>
   cb cd ce aq) λbB=>
  J x3 (n0 cF l a1) ap λcg=>
  J x3 (x5 aY cg) ap λch=>
  az x3 (S6 aY true (.tuple #[])) ap λaL bD=>
  az x3 (o4 aY aL ch) bD λ(_:Unit) ak=>
  J x3 (x7 aY aL 2) ak λci=>
  J x3 (x5 ax ci) ak λbE=>
  J x3 (Y3 #[ax] ab #[bE]) ak λck=>
  bC (.bool false) (Δ 0) ak λbF a2 ae cl=>
   J x3 (aB .lss ab false false a2 ck) ae λcm=>
   Split cm (bx (α:=x1->x2->Prop) (λ(cn:x1) (ay:x2)=>
    J x3 (aB .add ab false true a2 (Δ 1)) ay λcp=>
    cl cn cp ay) λbG=>
   J x3 (n0 ax bE a2) ae λcq=>
   J x3 (x5 an cq) ae λcr=>
   Split bF (bG (.bool true) ae)
    (J x3 (aB .gtr an false true cr (Δ 0)) ae λct=>
   bG ct ae))
    (J x3 (Op.unary .not bF) ae λcu=>
  Split cu (bB out ae)
   (bZ (Δ 0) ae λi aM cw=>
   bx (α:=x1->x2->Prop) (λ(cz:x1) (au:x2)=>
    Split cz (J x3 (aB .add ab false true i (Δ 1)) au λcA=>
   cw cA au)
     (cj au λag=>
  J x3 (x5 aY aL) ag λcB=>
  J x3 (W3 cF out (σ i) ν ν) ag λbI=>
  az x3 (Z7 cF 1 #[(0,cB)]) ag λcC aA=>
   (Ext ag aA\/bk x3 (W3 cF out (σ i) ν ν) bI aA/\True)/\
  az x3 (l7 #[cF,cF] cF #[cC,bI]) aA λcD a7=>
   az x3 (Z7 cF 0 #[]) a7 λcE aO=>
  J x3 (W3 cF out ν (σ i) ν) aO λcG=>
  az x3 (l7 #[cF,cF] cF #[cE,cG]) aO λcH a8=>
  az x3 (l7 #[cF,cF] cF #[cH,cD]) a8 λcI ba=>
  bB cI ba)) λbK=>
   cj aM λah=>
   J x3 (Y3 #[cF] ab #[out]) ah λcJ=>
   J x3 (aB .lss ab false false i cJ) ah λcK=>
   Split cK (J x3 (n0 cF out i) ah λcL=>
   J x3 (x5 aY cL) ah λcM=>
   J x3 (x5 aY aL) ah λcN=>
   aj x3 wR [cM,cN] ah λcP bM=>
    bK cP bM)
    (bK (.bool false) ah))))
   (Q out ap):=by
 have cQ:L.length=(eR f).length:=by rw[<-aZ,u5]
 have dz:L.length<=256:=by have:=(jJ aX).2.2;have:=aX.jD;omega
 have bN:=(jJ aX).1;rw[dc cF.u Y.1];refine bC.range L.length (λj out U=>∃go X,Ext w U/\a6 c4 3 aY U go out X/\(∀h∈X,h∈L)/\X.map c8=jR f j/\ ∀r,leadsTo out r->w.heap.size<=r) Y.1.le
  ⟨0,[],Ext.refl _,a6.nil _ _ _ _ _,λh aH=>(by cases aH),rfl,λr Y=>(eF Y).elim⟩ ?_ ?_
 rotate_left
 .rintro out U cR ⟨go,X,bQ,aC,al,aE,bb⟩;rw[ao,ad];refine⟨λh=>Ω,λ_=>b9 _ _ go X bQ aC al (λh aH=>((Y.ext bQ).2.1 h (al h aH)).1) ?_ bb⟩;rw[aE,cQ,Kq]
 rintro j out ap cR bR ⟨go,X,aR,aC,al,aE,bb⟩ cS;obtain⟨h,aH⟩:∃h,L[j]? =σ h:=⟨_,y0 bR⟩;have hm:(eR f)[j]? =σ (c8 h):=by rw[<-aZ,x8,aH];rfl
 have cU:=bN _ (x6 hm);have dA:X.length<=256:=by
  have:=Kr (f:=f) (j:=j) Ω;rw[<-aE,u5] at this;omega
 have aF:=Y.ext aR;obtain⟨bd,_⟩:=aF.2.1 h (x6 aH);obtain⟨_,_,dC,cV⟩:=id bd;rw[ao,ad];refine⟨λ_=>?_,λh=>Ω⟩;refine aP (λbe aq=>∃bf aG,Ext w aq/\a6 c4 3 aY aq bf be aG/\(∀h∈aG,h∈L)/\aG.map c8=jR f (j+1)/\ ∀r,leadsTo be r->w.heap.size<=r) ?_ ?_
 .rintro be aq ⟨bf,aG,h1,cW,cX,cY,cZ⟩;rw[aN];exact cS _ _ ⟨bf,aG,h1,cW,cX,cY,cZ⟩
 intro c0 aI;rw[cO rfl cF.u aY.i aF.1 bR,bn aY.p aY.i rfl (aF.1.range aH)];refine bt aY.i λbh bD dD c1 c2=>?_;refine bJ (vs:=c4 h) aY.i rfl rfl bd.one c2 λak c3 dE bS=>?_;have bT:Ext ap ak:=c1.then c3 λr Y he=>by have he:r=bh:=he;omega
 have bi:=cV.ext bT;rw[aa aY.p rfl,ac (v:=h.aJ) Ψ (bS.cell (o:=0+2) rfl),aS ax.u bi.ls];refine bC.range h.cs.length (λq sv ae=>Ext ak ae/\sv= .bool ((h.cs.take q).any λc=>decide (0<c))) bi.ls.le ⟨Ext.refl _,rfl⟩ ?_ ?_
 .rintro q _ ae c5 c6 ⟨av,rfl⟩ c7;obtain⟨c,bU⟩:∃c,h.cs[q]? =σ c:=⟨_,y0 c6⟩;have e:(h.cs.take (q+1)).any (λc=>decide (0<c))=((h.cs.take q).any (λc=>decide (0<c))||decide (0<c)):=by
   rw[r9,bU,Z9,List.any_append];simp
  rw[ao,ad];refine⟨λ_=>?_,λh=>Ω⟩;refine aP (λsv ay=>Ext ak ay/\sv= .bool ((h.cs.take (q+1)).any λc=>decide (0<c))) ?_ ?_
  .rintro _ ay ⟨c9,rfl⟩;rw[aN];exact c7 _ _ ⟨c9,rfl⟩
  intro c0 aI;rw[bc ax.u an.i Ψ (bi.ext av).ls bU,bH];refine⟨λda=>aI _ _ ⟨av,by rw[e,da];rfl⟩,λdb=>?_⟩;rw[bP];exact aI _ _ ⟨av,by rw[e,db];rfl⟩
 rintro _ ae c5 ⟨av,rfl⟩;have bV:=bS.ext av;have am:=bT.trans av;rw[o9,ao,ad];refine⟨λh=>Ω,λ_=>?_⟩;rw[bg,bH];have aT:=AV hm;have dd:(h.cs.any λc=>decide (0<c))=e0 (c8 h):=rfl;rw[dd];refine⟨λbj=>?_,λI=>?_⟩
 .have bj:e0 (c8 h)=false:=by simpa using bj
  rw[bj] at aT;exact aI _ _ ⟨go,X,aR.trans am,aC.ext am,al,by rw[aE,aT];rfl,bb⟩
 have I:e0 (c8 h)=true:=by simpa using I
 rw[I,if_pos rfl] at aT;refine⟨λbl aM=>∃i:Nat,bl=Δ (i:Int)/\i<=X.length/\Ext ae aM/\ ∀p<i,∀x,X[p]? =σ x->cT x.sc<cT h.sc,λbl _=>X.length-(bL bl).toNat,⟨0,rfl,Y9 _,Ext.refl _,λp bm=>Ω⟩,?_⟩;rintro _ aM ⟨i,rfl,hi,de,bo⟩;refine aP (λaD au=>Ext ae au/\((aD= .bool true/\i<X.length/\ ∀x,X[i]? =σ x->cT x.sc<cT h.sc)\/(aD= .bool false/\ ∀x,X[i]? =σ x->¬cT x.sc<cT h.sc))) ?_ ?_
 rotate_left
 .intro dF bp;intro ah df _ _;have aw:=de.trans df;have bq:=aC.ext (am.trans aw);rw[dc cF.u bq,ao,ad];refine⟨λbo=>?_,λdG=>bp _ _ ⟨aw,.inr ⟨rfl,λx W=>absurd (x4.1 W).1 Ω⟩⟩⟩;obtain⟨x,W⟩:∃x,X[i]? =σ x:=⟨_,y0 Ω⟩;have bW:=al x (x6 W);have dg:h6 x.sc:=(bN (c8 x) (by rw[<-aZ];exact Z5.2 ⟨x,bW,rfl⟩)).scope;have bX:=aF.ext (am.trans aw);rw[cO rfl cF.u aY.i bq Ω,bn aY.p aY.i rfl (bq.range W),bn aY.p aY.i rfl (show ah.rangeAt bh 0 (c4 h) from (bV.ext aw).range)];refine (Km (bX.2.1 x bW).1 (bX.2.1 h (x6 aH)).1 dg cU.scope).mono ?_;rintro _ bM _ ⟨rfl,b0⟩;by_cases aU:cT x.sc<cT h.sc
  .rw[decide_eq_true aU];exact bp _ _ ⟨aw.trans b0,.inl ⟨rfl,Ω,λy af=>by rw[W] at af;cases af;exact aU⟩⟩
  .rw[decide_eq_false aU];exact bp _ _ ⟨aw.trans b0,.inr ⟨rfl,λy af=>by rw[W] at af;cases af;exact aU⟩⟩
 rintro _ au ⟨b1,⟨rfl,dH,dh⟩|⟨rfl,di⟩⟩
 .rw[bO,aN,wrap_i64 Ω Ω];refine⟨⟨i+1,rfl,Ω,b1,λp bm x W=>?_⟩,by simp only[bL];omega⟩;by_cases dj:p=i
  .subst dj;exact dh x W
  .exact bo p Ω x W
 .rw[aQ];intro ag dk _ _;have aK:=b1.trans dk;have aV:=aC.ext (am.trans aK);have dl:=aF.ext (am.trans aK);have br:∀x∈X,∀u∈c4 x,u.oneCell'=true:=λx W=>(dl.2.1 x (al x W)).1.one;have dm:∀u∈c4 h,u.oneCell'=true:=bd.one;rw[bn aY.p aY.i rfl (show ag.rangeAt bh 0 (c4 h) from (bV.ext aK).range)];refine AS (h':=X.length) cF.u aY.i aV (lP i _ rfl) hx hi (o8 _) λdI b2=>?_;refine fM (f:=c4) (k:=3) (a:=h) cF.u aY.i Ω rfl rfl λdJ dK aA dL bu b3=>?_;refine⟨.inl bu,?_⟩;have dn:(X.drop i).take (X.length-i)=X.drop i:=Z0 (by rw[R0];omega);rw[dn] at b2;refine ux (M:=X.drop i) cF.u aY.i rfl b3 (b2 aA (aV.ext bu)) (λ_ _=>rfl) (λa ai=>br a (List.mem_of_mem_drop ai)) Θ Θ λdM dN a7 bw dO dp=>?_;have b4:Ext ag a7:=bu.then dp λr Y he=>by have:=(b3.leads he).1;omega
  refine Ko (f:=c4) (k:=3) cF.u aY.i λdP dQ aO dR bz aW=>?_;have bA:=b4.trans bz;refine AS (h':=i) cF.u aY.i (aV.ext bA) hv (lQ i _ rfl) (Y9 _) hi λdS b5=>?_;rw[List.drop_zero,Nat.sub_zero] at b5;refine ux (M:=X.take i) cF.u aY.i rfl aW (b5 aO (aV.ext bA)) (λ_ _=>rfl) (λa ai=>br a (T2 ai)) Θ Θ λdq dT a8 dr ds b6=>?_;have dU:=b4.size;have dV:=bz.size;have dt:=(bw.ext bz).V b6 λr Y I=>by have:=(bw.leads Y).1;have:=(bw.leads Y).2;have:=(aW.leads I).1;omega
  refine ux (M:=[h]++X.drop i) cF.u aY.i rfl dr dt.sl (λ_ _=>rfl) (λa ai=>?_) Θ Θ λdW du ba dv dw dx=>?_
  .rcases n9.1 ai with ai|ai
   .rw[l9.1 ai];exact dm
   .exact br a (List.mem_of_mem_drop ai)
  have b7:Ext ag a8:=bA.then b6 λr Y he=>by have:=(aW.leads he).1;omega
  have b8:∀r,leadsTo dq r->ag.heap.size<=r:=λr Y=>(ds r Y).elim (λh=>by have:=(aW.leads h).1;omega) λh=>Ω
  have dy:Ext ag ba:=b7.then dx λr Y he=>by have:=b8 r he;omega
  have dX:=(aR.trans (am.trans aK)).size;have dY:=b7.size;refine aI _ _ ⟨du,_,(aR.trans (am.trans aK)).trans dy,dv,λx W=>?_,?_,λr Y=>(dw r Y).elim (λh=>by have:=b8 r h;omega) λh=>Ω⟩
  .rcases n9.1 W with W|W
   .exact al x (T2 (by simpa using W))
   .rcases n9.1 W with W|W
    .rw[l9.1 W];exact x6 aH
    .exact al x (List.mem_of_mem_drop W)
  .rw[aT,<-aE,AU (i:=i) (λp bm x W=>?_) (by simpa using hi) (λx W=>?_)]
   .simp
   .rw[x8] at W;cases af:X[p]? with
    |none=>rw[af] at W;cases W
    |some y=>rw[af] at W;cases W;exact bo p bm y af
   .rw[x8] at W;cases af:X[i]? with
    |none=>rw[af] at W;cases W
    |some y=>rw[af] at W;cases W;exact di y af
def Kt (w:x2) (f:bY) (v:x1) (w':x2):Prop:=Ext w w'/\ ∃go I,a6 c4 3 aY w' go v I/\(∀h∈I,e8 w' f.sizes h/\ ∀r,leads h.aJ r->w.heap.size<=r)/\I.map c8=e1 f/\ ∀r,leadsTo v r->w.heap.size<=r
def jS (k:Int) (sc cs:List Int) (h:ct):ct:=if h.1=sc then (h.1,dC k h.2 cs) else h
theorem Ku {bX:Nat} {f:bY} (cP:mv w bX f) (al:eL N f):aj x3 DB [Γ bX] w (Kt w f):=by
 have dT:=al.k;obtain⟨au,dU,aR,dV,bj,b0,cQ⟩:=id cP;obtain⟨b1,bk,cR,cS⟩:=id cQ;refine aA func165 ?_;rw[aw,aa dg.p rfl,ac Ψ (bj.cell (o:=0+3) rfl),dc da.u bk];refine bC.range b1.length (λi l U=>∃g L,Ext w U/\jh U w.heap.size g l f.sizes L/\L.map c8=ek f i) bk.le
  ⟨0,[],Ext.refl _,⟨a6.nil _ _ _ _ _,λh aH=>(by cases aH),λi j x y bl=>(by simp at bl),λr J=>(eF J).elim⟩,rfl⟩ ?_ ?_
 rotate_left
 .rintro l U cT ⟨g,L,ap,J,aq⟩;rw[<-cR,Ak] at aq;rw[ao,ad];refine⟨λh=>Ω,λ_=>Ks al J aq λout w' go cU bl bm cV av cW cX=>?_⟩;have cY:=ap.size;exact⟨ap.trans bl,go,cU,bm,λh aH=>⟨av h aH,(J.2.1 h (cV h aH)).2⟩,cW,λr J=>by have:=cX r J;omega⟩
 rintro i l U cT hi ⟨g,L,ap,J,aq⟩ cZ;obtain⟨bo,b2⟩:∃d,b1[i]? =σ d:=⟨_,y0 hi⟩;obtain⟨x,bp⟩:∃x,f.funs[i]? =σ x:=⟨_,y0 Ω⟩;have bq:=x6 bp;have br:=cS i bo x b2 bp;have b3:=nE al bq;obtain⟨c0,dW,dX⟩:=Aj al i;have b4:L.length=(ek f i).length:=by rw[<-aq,u5]
 have dY:=al.jD;have b5:=bk.ext ap;rw[ao,ad];refine⟨λ_=>?_,λh=>Ω⟩;refine aP (λl' bu=>∃g L,Ext w bu/\jh bu w.heap.size g l' f.sizes L/\L.map c8=ek f (i+1)) ?_ ?_
 .rintro l' bu bw;rw[aN];exact cZ _ _ bw
 intro dZ b6;rw[cO rfl da.u aW.i b5 hi,bn aW.p aW.i rfl (b5.range b2)];refine bt aW.i λam ea eb c1 c2=>?_;refine bJ (vs:=ey bo) aW.i rfl rfl br.one c2 λc3 c5 ec c6=>?_;have b7:Ext U c3:=c1.then c5 λr J he=>by have he:r=am:=he;omega
 have ed:=b7.size;refine aP (λc7 aT=>∃X c,c7=Γ X/\Ext U aT/\ae aT X aY (c4 c)/\c.sc=bh x.scope/\c.cs=(gO f.sizes f.k x).2/\e8 aT f.sizes c/\U.heap.size<=X/\ ∀r,leads c.aJ r->U.heap.size<=r) ?_ ?_
 rotate_left
 .intro ee b8;intro c9 b9 _ _;have aU:=b7.trans b9;have aV:=ap.trans aU;have db:=c6.ext b9;have ca:=bj.ext aV;have ef:=aU.size;rw[bn aW.p aW.i rfl (show c9.rangeAt am 0 (ey bo) from db.range),aw,aa dg.p rfl,ac (v:=au) Ψ (ca.cell (o:=0+2) rfl),aw,aa dg.p rfl,ac (v:=Δ f.k) Ψ (ca.cell (o:=0+1) rfl)];refine⟨?_,?_⟩
  .refine (AQ (br.ext aV) al bq (b0.ext aV)).mono ?_;rintro _ eg _ ⟨bx,c,rfl,h1,bz,av,ah⟩;refine bt aY.i λX eh cb bB aX=>?_;refine⟨.inl (bx.trans bB),?_⟩;refine bJ (vs:=c4 c) aY.i rfl rfl av.one aX λei cc ej dd=>?_;have em:=bx.size;refine b8 _ _ ⟨X,c,rfl,(aU.trans bx).trans (bB.then cc λr J he=>by have he:r=X:=he;omega),dd,h1,bz,?_,Ω,λr J=>by have:=ah r J;omega⟩;exact lp (av.ext bB) cc λr J=>.inl ⟨_,_,by have J:r=X:=J;subst J;exact aX,Φ,Φ⟩
  .refine bt aY.i λX en cb aZ aX=>?_;refine⟨.inl aZ,?_⟩;have cd:=aV.trans aZ;refine (AQ (br.ext cd) al bq (b0.ext cd)).mono ?_;rintro _ eo _ ⟨ce,c,rfl,h1,bz,av,ah⟩;have cg:=aX.ext ce;have ep:=aZ.size;refine bJ (vs:=c4 c) aY.i rfl rfl av.one cg λer ch es de=>?_;refine b8 _ _ ⟨X,c,rfl,aU.trans ((aZ.trans ce).then ch λr J he=>by have he:r=X:=he;omega),de,h1,bz,?_,Ω,λr J=>by have:=ah r J;omega⟩;exact lp av ch λr J=>.inl ⟨_,_,by have J:r=X:=J;subst J;exact cg,Φ,Φ⟩
 rintro _ aT ⟨X,c,rfl,bE,df,aG,a1,dh,cb,ah⟩;have ci:=J.ext bE;have dj:∀h∈L,∀r,leads h.aJ r->r<U.heap.size:=λh aH r dk=>by
  obtain⟨⟨_,_,dl,cj⟩,_⟩:=J.2.1 h aH;have:=bA cj dk;omega
 have dm:∀ {j:Nat},decide (c.sc∈(L.take j).map (·.sc))=decide (bh x.scope∈((ek f i).take j).map (·.1)):=λ{j}=>by
  rw[aG,<-aq,<-List.map_take,List.map_map];rfl
 have cY:=ap.size;rw[dc cF.u ci.1];refine bC.range L.length (λj aR ai=>∃W,aR= .bool (decide (c.sc∈(L.take j).map (·.sc)))/\Ext w ai/\U.heap.size<=ai.heap.size/\jh ai w.heap.size g l f.sizes W/\W.map c8=((ek f i).map (jS f.k c.sc c.cs)).take j++(ek f i).drop j/\ae ai X aY (c4 c)/\e8 ai f.sizes c/\ ∀h∈W,∀r,leads h.aJ r->r<U.heap.size) J.1.le
  ⟨L,Ξ,ap.trans bE,bE.size,ci,by simpa using aq,df,dh,dj⟩ ?_ ?_
 .rintro j _ ai dn ck ⟨W,rfl,aI,dp,a2,ag,bF,bG,az⟩ dq;have dr:W.length=L.length:=by
   have:=congrArg S9 ag;simp only[u5,r8,o7,R0] at this;omega
  obtain⟨h,aH⟩:∃h,W[j]? =σ h:=⟨_,y0 Ω⟩;have a7:(ek f i)[j]? =σ (c8 h):=by
   have cl:(W.map c8)[j]? =σ (c8 h):=by rw[x8,aH];rfl
   rw[ag,AT (by rw[u5];omega)] at cl;exact cl
  have a8:((ek f i).map (jS f.k c.sc c.cs))[j]? =σ (jS f.k c.sc c.cs (c8 h)):=by rw[x8,a7];rfl
  have ds:∃y,L[j]? =σ y/\y.sc=h.sc:=by
   refine⟨_,y0 ck,?_⟩;rw[<-aq,x8,y0 ck] at a7;exact congrArg Prod.fst (Z6 a7)
  obtain⟨y,af,dt⟩:=ds;have bI:(c.sc∈(L.take (j+1)).map (·.sc))↔c.sc∈(L.take j).map (·.sc)\/h.sc=c.sc:=by
   rw[r9,af,Z9,Z4,n9,List.map_singleton,l9,dt];exact or_congr Iff.rfl ⟨λe=>e.symm,λe=>e.symm⟩
  have cm:e3 f.sizes f.k (c8 h):=c0 _ (x6 a7);rw[ao,ad];refine⟨λ_=>?_,λh=>Ω⟩;refine aP (λaR ak=>∃W,aR= .bool (decide (c.sc∈(L.take (j+1)).map (·.sc)))/\Ext w ak/\U.heap.size<=ak.heap.size/\jh ak w.heap.size g l f.sizes W/\W.map c8=((ek f i).map (jS f.k c.sc c.cs)).take (j+1)++(ek f i).drop (j+1)/\ae ak X aY (c4 c)/\e8 ak f.sizes c/\ ∀h∈W,∀r,leads h.aJ r->r<U.heap.size) ?_ ?_
  .rintro et ak bw;rw[aN];exact dq _ _ bw
  intro ev cn;intro du aK _ _;have ba:=a2.ext aK;have cp:=bF.ext aK;have cq:=bG.ext aK;obtain⟨dv,ew⟩:=ba.2.1 h (x6 aH);obtain⟨⟨ez,h1⟩,_,dl,cj⟩:=id dv;obtain⟨⟨eA,dw⟩,_,eB,cr⟩:=id cq;rw[cO rfl cF.u aY.i ba.1 Ω,aa aY.p rfl,ac (v:=h.ay) Ψ (ba.1.range aH 0 _ rfl),aa aY.p rfl,ac (v:=c.ay) Ψ (cp.cell (o:=0+0) rfl)];refine (xP h1.ls dw.ls).mono ?_;rintro _ eC _ ⟨rfl,aD⟩;have ct:=ba.ext aD;have bK:=cp.ext aD;have cu:=cq.ext aD;have cw:=(aI.trans aK).trans aD;have z9:=(aK.trans aD).size;rw[ad];refine⟨λbL=>?_,λcz=>?_⟩
  rotate_left
  .refine cn _ _ ⟨W,?_,cw,Ω,ct,?_,bK,cu,az⟩
   .congr 1;exact decide_eq_decide.2 ⟨λh=>bI.2 (.inl h),λh=>(bI.1 h).resolve_right cz⟩
   .have e:jS f.k c.sc c.cs (c8 h)=c8 h:=if_neg cz;rw[e] at a8;rw[<-rF Ω a8,<-ag];symm;refine X6 λp=>?_;rw[X5];by_cases aM:j=p
    .subst aM;rw[if_pos rfl,if_pos Θ,x8,aH];rfl
    .rw[if_neg aM]
  have dx:h.cs.length=c.cs.length:=by
   have dy:h.cs.length=_:=cm.len;have dz:c.cs.length=(aL (bD f.sizes (gO f.sizes f.k x).1)).toNat:=by rw[a1];exact b3.len
   rw[dy,dz,show (c8 h).1=h.sc from rfl,bL,aG];rfl
  have eD:(dC f.k h.cs c.cs).length=h.cs.length:=by unfold dC;rw[List.length_zipWith];omega
  rw[aa aY.p rfl,ac (v:=c.aJ) Ψ (bK.cell (o:=0+2) rfl),aS ax.u (cr.ext aD).ls];refine bZ.range c.cs.length (λs aB=>Ext w aB/\U.heap.size<=aB.heap.size/\jh aB w.heap.size g l f.sizes (W.set j {h with cs:=(dC f.k h.cs c.cs).take s++h.cs.drop s})/\ae aB X aY (c4 c)/\e8 aB f.sizes c) cr.ls.le
   ⟨cw,Ω,?_,bK,cu⟩ ?_ ?_
  .have e:W.set j {h with cs:=(dC f.k h.cs c.cs).take 0++h.cs.drop 0}=W:=by
    refine X6 λp=>?_;rw[X5];by_cases aM:j=p
    .subst aM;rw[if_pos rfl,if_pos Ω,aH];rfl
    .rw[if_neg aM]
   rw[e];exact ct
  .rintro s aB dA I ⟨bM,cA,bb,bN,bO⟩ dD;rw[ao,ad];refine⟨λ_=>?_,λh=>Ω⟩;intro eE aO _ _;have aE:=bb.ext aO;have cB:=bN.ext aO;have cC:=bO.ext aO;have cD:=bM.trans aO;have bd:(W.set j {h with cs:=(dC f.k h.cs c.cs).take s++h.cs.drop s})[j]? =σ {h with cs:=(dC f.k h.cs c.cs).take s++h.cs.drop s}:=by
    rw[X5,if_pos rfl,if_pos Ω]
   have cE:j<(W.set j {h with cs:=(dC f.k h.cs c.cs).take s++h.cs.drop s}).length:=by rw[X1];omega
   obtain⟨⟨_,_,dE,bP⟩,dF⟩:=aE.2.1 _ (x6 bd);obtain⟨_,_,eH,dG⟩:=id cC;obtain⟨a,bQ⟩:∃a,h.cs[s]? =σ a:=⟨_,y0 Ω⟩;obtain⟨b,aQ⟩:∃b,c.cs[s]? =σ b:=⟨_,y0 I⟩;have dH:s<({h with cs:=(dC f.k h.cs c.cs).take s++h.cs.drop s}:e7).cs.length:=by show s<((dC f.k h.cs c.cs).take s++h.cs.drop s).length;rw[r8,o7,R0];omega
   have dI:((dC f.k h.cs c.cs).take s++h.cs.drop s)[s]? =σ a:=by rw[AT Ω];exact bQ
   have bR:(dC f.k h.cs c.cs)[s]? =σ (min (a+b) f.k):=by
    unfold dC;rw[List.getElem?_zipWith,bQ,aQ]
   have eI:=cm.h7 a (x6 bQ);have eJ:=b3.h7 b (by rw[<-a1];exact x6 aQ);have dJ:=bj.ext cD;rw[cO rfl cF.u aY.i aE.1 cE,aa aY.p rfl,ac (v:=h.aJ) Ψ (aE.1.range bd 2 _ rfl),cO rfl cF.u aY.i aE.1 cE,aa aY.p rfl,ac (v:=h.aJ) Ψ (aE.1.range bd 2 _ rfl),bc ax.u an.i Ψ bP.ls dI,aa aY.p rfl,ac (v:=c.aJ) Ψ (cB.cell (o:=0+2) rfl),bc ax.u an.i Ψ dG.ls aQ,aw,aa dg.p rfl,ac (v:=Δ f.k) Ψ (dJ.cell (o:=0+1) rfl)];refine (GF Ω Ω).mono ?_;rintro _ eK _ ⟨rfl,aF⟩;refine⟨.inl aF,?_⟩;have z12:=(aO.trans aF).size;refine Kp (h:={h with cs:=(dC f.k h.cs c.cs).take s++h.cs.drop s}) (aE.ext aF) bd dH λeM be cG bS=>?_;rw[aN];have dK:=cC.ext aF;have cH:=cB.ext aF;have eN:=be.size;refine dD _ ⟨(cD.trans aF).then be λr J he=>by have:=dF r he;omega,Ω,?_,?_,?_⟩
   .rw[List.set_set] at bS;have e:=rF (A:=dC f.k h.cs c.cs) (B:=h.cs) (s:=s) Ω bR;simp only[e] at bS;exact bS
   .exact cH.V be λI=>by
     obtain⟨eO,dL⟩:=cG _ I;exact absurd (eu cH dL) Φ
   .refine lp dK be λr J=>.inr (.inr ⟨cG r J,λdM=>?_⟩);have:=ah r dM;have:=az h (x6 aH) r J;omega
  .rintro aB dA ⟨bM,cA,bb,bN,bO⟩;rw[ao,ad];refine⟨λh=>Ω,λ_=>?_⟩;have e:(dC f.k h.cs c.cs).take c.cs.length++h.cs.drop c.cs.length=dC f.k h.cs c.cs:=by
    rw[<-dx,List.drop_length,V4,Z0 Ω]
   simp only[e] at bb;refine cn _ _ ⟨_,?_,bM,cA,bb,?_,bN,bO,λz Y r J=>?_⟩
   .congr 1;symm;exact decide_eq_true (bI.2 (.inr bL))
   .have dN:jS f.k c.sc c.cs (c8 h)=c8 {h with cs:=dC f.k h.cs c.cs}:=if_pos bL;rw[dN] at a8;rw[T0,ag,rF Ω a8]
   .rcases V3 Y with Y|rfl
    .exact az z Y r J
    .exact az h (x6 aH) r J
 rintro _ ai dn ⟨W,rfl,aI,dp,a2,ag,bF,bG,az⟩;rw[ao,ad];refine⟨λh=>Ω,λ_=>?_⟩;rw[dm,b4,o9,bg,bH];have cI:=tX bp;have bR:((ek f i).map (jS f.k c.sc c.cs)).take L.length++(ek f i).drop L.length=(ek f i).map (jS f.k c.sc c.cs):=by
  rw[b4,List.drop_length,V4,Z0 (by rw[u5];exact o8 _)]
 rw[bR] at ag;have dr:W.length=L.length:=by
  have:=congrArg S9 ag;rw[u5,u5] at this;omega
 refine⟨λbf=>?_,λbT=>?_⟩
 .have bf:bh x.scope∉(ek f i).map (·.1):=by simpa using bf
  have dO:(ek f i).map (jS f.k c.sc c.cs)=ek f i:=by
   refine (List.map_congr_left λz Y=>?_).trans (List.map_id _);exact if_neg λhe=>bf (Z5.2 ⟨z,Y,by rw[he,aG]⟩)
  rw[dO] at ag;rw[bn aY.p aY.i rfl (show ai.rangeAt X 0 (c4 c) from bF.range)];refine fM (f:=c4) (k:=3) (a:=c) cF.u aY.i Ω rfl rfl λeP dE ak eQ bi bP=>?_;have aC:=a2.ext bi;have cJ:=bG.ext bi;refine gd (f:=c4) (a:=c) cF.u aY.i rfl aC.1 (by simpa using bP.sl) cJ.one Ω Ω λeR dP du bm dQ bU=>?_;have cK:∀r,leadsTo l r-> ∃e c,ae ak r e c/\e≠ab/\e≠an:=λr J=>by
   obtain⟨rfl,c,aQ⟩:=di aC.1 J;exact⟨_,c,aQ,Φ,Φ⟩
  have eS:=bi.size;have eU:=aI.size;refine b6 _ _ ⟨dP,W++[c],(aI.trans bi).then bU λr J he=>by have:=aC.2.2.2 r he;omega,⟨bm,λz Y=>?_,λp q y z af Y dR r bV bW=>?_,λr J=>(dQ r J).elim (aC.2.2.2 r) λh=>Ω⟩,?_⟩
  .rcases n9.1 Y with Y|Y
   .exact⟨lp (aC.2.1 z Y).1 bU λr J=>.inl (cK r J),(aC.2.1 z Y).2⟩
   .rw[l9.1 Y];exact⟨lp cJ bU λr J=>.inl (cK r J),λr J=>by have:=ah r J;omega⟩
  .have cL:∀ {p:Nat} {y:e7},(W++[c])[p]? =σ y->W[p]? =σ y\/(p=W.length/\y=c):=λ{p y} af=>by
    rw[List.getElem?_append] at af;split at af
    .exact .inl af
    .by_cases dS:p-W.length=0
     .rw[dS] at af;cases af;exact .inr ⟨Ω,rfl⟩
     .rw[Y4 Θ] at af;cases af
   rcases cL af with cM|⟨eV,rfl⟩ <;> rcases cL Y with cN|⟨eq,rfl⟩
   .exact aC.2.2.1 p q y z cM cN dR r bV bW
   .have:=az y (x6 cM) r bV;have:=ah r bW;omega
   .have:=az z (x6 cN) r bW;have:=ah r bV;omega
   .omega
  .rw[Z4,ag,cI,Ai λz Y he=>bf (Z5.2 ⟨z,Y,he⟩)];show _++[(c.sc,c.cs)]=_;rw[aG,a1];rfl
 .have bT:bh x.scope∈(ek f i).map (·.1):=by simpa using bT
  refine b6 _ _ ⟨g,W,aI,a2,?_⟩;rw[ag,cI];unfold hf;rw[if_pos (show (gO f.sizes f.k x).1∈_ from bT)];refine List.map_congr_left λz _=>?_;unfold jS;rw[aG,a1];rfl
def uy (w:x2) (v:x1) (n:aV):Prop:=∃au U I V aT J W L,v= .agg #[Δ n.k,au,Δ n.zero,I,J]/\aq .i64 ab w U au n.sizes/\gQ w V I aT/\aT.map (·.l)=n.unary/\a6 c4 3 aY w W J L/\(∀h∈L,e8 w n.sizes h)/\L.map c8=n.funs
def z9:List x1:=[Δ 0,.slice ν 0 0,Δ 0,.slice ν 0 0,.slice ν 0 0]
def lq (w:x2) (C J gs go:Nat) (au aJ:x1) (f:bY) (I:List e7) (w':x2):Prop:=Ext w w'/\C<=w'.heap.size/\ae w' J df z9/\aq .i64 ab w' gs au f.sizes/\a6 c4 3 aY w' go aJ I/\(∀r,leadsTo aJ r->r<C)/\ ∀h∈I,e8 w' f.sizes h
theorem lq.ext {J:x2} {C U gs go:Nat} {au aJ:x1} {f:bY} {V:List e7} (h:lq w C U gs go au aJ f V w') (I:Ext w' J):lq w C U gs go au aJ f V J:=by
 obtain⟨h1,ad,W,X,Y,aa,ab⟩:=h;have:=I.size;exact⟨h1.trans I,Ω,W.ext I,X.ext I,Y.ext I,aa,λx ac=>(ab x ac).ext I⟩
def Kv (w w':x2) (C I:Nat) (r:Nat):Prop:=w.heap.size<=r/\r≠I/\((∃c,ae w' r df c)\/(∃c,ae w' r ax c)\/((∃c,ae w' r aY c)/\C<=r))
theorem lq.V {ac:x2} {C Y gs go:Nat} {au aJ:x1} {f:bY} {ad:List e7} (h:lq w C Y gs go au aJ f ad w') (W:af S w' ac) (X:∀r,S r->Kv w w' C Y r):lq w C Y gs go au aJ f ad ac:=by
 obtain⟨h1,ao,aj,ag,aa,ah,ak⟩:=h;have:=W.size;have ai:∀r,S r-> ∃e c,ae w' r e c/\e≠ab/\e≠an:=λr U=>by
  obtain⟨_,_,⟨c,J⟩|⟨c,J⟩|⟨⟨c,J⟩,_⟩⟩:=X r U
  .exact⟨_,c,J,Φ,Φ⟩
  .exact⟨_,c,J,Φ,Φ⟩
  .exact⟨_,c,J,Φ,Φ⟩
 refine⟨h1.then W λr U I=>by have:=(X r I).1;omega,Ω,aj.V W λI=>(X _ I).2.1 rfl,bb ag W λr U I=>?_,aa.V W λr U I=>?_,ah,λx al=>lp (ak x al) W λr U=>.inl (ai r U)⟩
 .obtain⟨e,c,J,am,_⟩:=ai r I;exact bU ag J (λhe=>am he.symm) U rfl
 .obtain⟨_,_,⟨c,J⟩|⟨c,J⟩|⟨_,ap⟩⟩:=X r I
  .exact b7 aa J Φ U
  .exact b7 aa J Φ U
  .have:=ah r U;omega
def AX (w:x2) (C U:Nat) (au:x1) (k:Int) (n:aV) (V:List e7) (w':x2):Prop:=∃I W aT J X L,ae w' U df [Δ k,au,Δ n.zero,I,J]/\gQ w' W I aT/\aT.map (·.l)=n.unary/\(∀r,leadsTo I r->w.heap.size<=r)/\a6 c4 3 aY w' X J L/\(∀h∈L,h∈V)/\L.map c8=n.funs/\ ∀r,leadsTo J r->C<=r
theorem AY {ck:Nat} {f:bY} (cl:mv w ck f) (aB:eL N f):aj x3 C1 [Γ ck] w λv w'=>Ext w w'/\uy w' v (cC f):=by
 have ea:=aB.k;have eb:=aB.sizes.2.1;obtain⟨c5,ec,ed,ee,cm,cn,ef⟩:=id cl;refine aA func71 ?_;refine bt df.i λaC U eg bm bo=>?_;have bo:ae U aC df z9:=bo;rw[aw,aa dg.p rfl,ac (v:=Δ f.k) Ψ ((cm.ext bm).cell (o:=0+1) rfl),cR (cs:=#[Δ f.k,.slice ν 0 0,Δ 0,.slice ν 0 0,.slice ν 0 0]) Ψ];refine bt df.i λY eh ei cp c6=>?_;refine bJ (vs:=[Δ f.k,.slice ν 0 0,Δ 0,.slice ν 0 0,.slice ν 0 0]) df.i rfl rfl (by intro u hu;simp at hu;rcases hu with rfl|rfl|rfl|rfl <;> rfl) c6 λc7 cq ej c9=>?_;have bS:Ext w c7:=(bm.trans cp).then cq λr J he=>by have he:r=Y:=he;have:=bm.size;omega
 have ek:=bo.lt;have ai:Y≠aC:=Ω
 have da:=(bo.ext cp).V cq λhe=>by have he:aC=Y:=he;omega
 rw[aw,aa dg.p rfl,ac (v:=c5) Ψ ((cm.ext bS).cell (o:=0+2) rfl),aS ax.u (cn.ext bS).ls];have em:=bm.size;refine bZ.range f.sizes.length (λi aG=>Ext w aG/\ae aG aC df z9/\ ∃au gs X al aT,ae aG Y df [Δ f.k,au,Δ 0,X,.slice ν 0 0]/\aq .i64 ab aG gs au (f.sizes.take i)/\(∀r,leads au r->w.heap.size<=r)/\gQ aG al X aT/\aT.map (·.l)=(f.sizes.take i).map (λz=>o6 z.toNat 0)/\ ∀r,leadsTo X r->w.heap.size<=r) Ω
  ⟨bS,da,_,0,_,0,[],c9,aq.nil _ _ _ _,(λr J=>by obtain⟨a,n,c,db,en⟩:=J;cases db),⟨a6.nil _ _ _ _ _,λx bT=>(by cases bT)⟩,rfl,λr J=>(eF J).elim⟩ ?_ ?_
 .rintro i aG dd hi ⟨aI,bV,au,gs,X,al,aT,a7,bp,bW,bX,a8,bq⟩ de;obtain⟨z,ag⟩:∃z,f.sizes[i]? =σ z:=⟨_,y0 hi⟩;have eo:=aB.sizes.2.2 z (x6 ag);have ep:aT.length=i:=by have:=congrArg S9 a8;simp only[u5,o7] at this;omega
  rw[ao,ad];refine⟨λ_=>?_,λh=>Ω⟩;rw[bc ax.u an.i Ψ (cn.ext aI).ls ag,aa df.p rfl,ac (v:=au) Ψ (a7.cell (o:=0+1) rfl)];refine dJ (k:=.i64) ah.u ab.i rfl λa5 er cr es aU dh=>?_;have ba:=bp.ext aU;refine fz ah.u ab.i rfl ba dh.ls Θ Θ λb0 ct et br dk cu=>?_;have b1:=a7.ext aU;have cw:=bV.ext aU;have cz:=b1.V cu λhe=>bU ba b1 Φ he rfl;rw[aa df.p rfl];refine bj (g:=Y) (o:=1) ah.i br.ls.cells.1 br.ls.cells.2 cz Ξ λbu cA ev bw=>?_;have bw:ae bu Y df [Δ f.k,b0,Δ 0,X,.slice ν 0 0]:=bw;have b2:af (λr=>leads au r\/r=Y) cr bu:=(cu.mono λr _ h=>.inl h).trans (cA.mono λr _ h=>.inr h);have dl:aq .i64 ab bu ct b0 (f.sizes.take (i+1)):=by
   rw[r9,ag];exact bb br cA λr J he=>by
    have he:r=Y:=he;subst he;exact bU br cz Φ J rfl
  have aV:∀r,(leads au r\/r=Y)-> ∃e c,ae cr r e c/\e≠an/\e≠ax:=λr J=>by
   rcases J with J|rfl
   .obtain⟨rfl,_⟩:=bA ba J;obtain⟨_,⟨dm,_⟩|⟨cap,full,_,W,_⟩⟩:=ba
    .obtain⟨a,n,c,e,_⟩:=J;rw[dm] at e;cases e
    .exact⟨_,_,W,Φ,Φ⟩
   .exact⟨_,_,b1,Φ,Φ⟩
  have dn:=(bX.ext aU).V b2 aV;have z4:=aI.size;have z5:=aU.size;have cB:Ext w bu:=(aI.trans aU).then b2 λr J he=>by
   rcases he with he|he
   .have:=bW r he;omega
   .omega
  have dp:=cw.V b2 λI=>by
   rcases I with I|I
   .exact bU ba cw Φ I rfl
   .omega
  intro ew cD _ _;have dq:=bw.ext cD;rw[aa df.p rfl,ac (v:=X) Ψ (dq.cell (o:=0+3) rfl)];obtain⟨aK,rfl⟩:∃n:Nat,z=n:=⟨z.toNat,Ω⟩;refine iS (k:=.i64) ax.u an.i Ω Ω λbx dr ey b3 ds=>?_;refine⟨.inl b3,?_⟩;have du:aq .i64 an dr bx (.slice (σ ⟨bx,0,ν⟩) aK aK) (o6 aK 0):=aq.of (bQ.full (k:=1) (n:=aK) ds Ξ (by simp[maxLen];omega));let a:kC:=⟨.slice (σ ⟨bx,0,ν⟩) aK aK,o6 aK 0⟩;refine fM (f:=mn) (a:=a) dF.u ax.i Ω rfl rfl λez eA b4 eB b5 dv=>?_;refine⟨.inl (b3.trans b5),?_⟩;have aW:=(cD.trans b3).trans b5;have bd:=dn.ext aW;refine gd (f:=mn) (a:=a) dF.u ax.i rfl bd.1 (by simpa using dv.sl) (λu hu=>by rw[l9.1 (show u∈[a.v] from hu)];rfl) Ω Ω λb6 b8 eC am b9 cE=>?_;have aX:∀ {r:Nat},leadsTo X r-> ∃c,ae b4 r ax c:=λJ=>by
   obtain⟨rfl,c,W⟩:=di bd.1 J;exact⟨c,W⟩
  have ca:=bw.ext aW;have cG:=ca.V cE λhe=>b7 bd.1 ca Φ he;rw[aa df.p rfl];refine bj dF.i (cP am.sl).1 (cP am.sl).2 cG Ξ λdw cH eD dx=>?_;rw[aN];have aD:af (λr=>leadsTo X r\/r=Y) b4 dw:=(cE.mono λr _ h=>.inl h).trans (cH.mono λr _ h=>.inr h);have cb:∀r,(leadsTo X r\/r=Y)-> ∃e c,ae b4 r e c/\e≠an/\e≠ab:=λr J=>by
   rcases J with J|rfl
   .obtain⟨c,W⟩:=aX J;exact⟨_,c,W,Φ,Φ⟩
   .exact⟨_,_,ca,Φ,Φ⟩
  have cI:=dl.ext aW;have eE:=cB.size;have eH:=aW.size;have cJ:=dp.ext aW;refine de _ ⟨(cB.trans aW).then aD (λr J he=>?_),cJ.V aD (λI=>?_),b0,ct,b6,b8,aT++[a],dx,bb cI aD (λr J I=>?_),λr J=>?_,⟨am.V cH λr J he=>?_,λy ap=>?_⟩,?_,λr J=>?_⟩
  .rcases he with he|rfl
   .have:=bq r he;omega
   .omega
  .rcases I with I|I
   .exact b7 bd.1 cJ Φ I
   .omega
  .obtain⟨e,c,W,_,ai⟩:=cb r I;exact bU cI W (λhe=>ai he.symm) J rfl
  .rcases dk r J with h|h
   .exact bW r h
   .omega
  .have he:r=Y:=he;subst he;exact b7 am cG Φ J
  .rcases n9.1 ap with ap|ap
   .exact bd.pj aD (λr J=>by obtain⟨e,c,W,ai,_⟩:=cb r J;exact⟨e,c,W,ai⟩) y ap
   .rw[l9.1 ap];have cK:=du.ext b5;exact⟨bx,bb cK aD λr J I=>by
     obtain⟨e,c,W,ai,_⟩:=cb r I;exact bU cK W (λhe=>ai he.symm) J rfl⟩
  .rw[Z4,a8,r9,ag,Z9,Z4];rfl
  .rcases b9 r J with h|h
   .exact bq r h
   .omega
 rintro aG dd ⟨aI,bV,au,gs,X,al,aT,a7,bp,bW,bX,a8,bq⟩;rw[ao,ad];refine⟨λh=>Ω,λ_=>?_⟩;rw[o9] at bp a8;refine (Ku (cl.ext aI) aB).mono ?_;rintro aJ bz _ ⟨aZ,go,av,am,dy,cL,eI⟩;have cM:av.length=(e1 f).length:=by rw[<-cL,u5]
 have eK:av.length<=256:=by
  have h1:=(o3 aB).2.length_eq;have bB:=(jJ aB).2.2;have eM:=List.length_filter_le e0 (eR f);have eN:=aB.jD;omega
 have z4:=aI.size;have eO:=aZ.size;have eP:=a7.lt;rw[dc cF.u am];refine bZ.range av.length (λi aM=>lq w bz.heap.size aC gs go au aJ f av aM/\AX w bz.heap.size Y au f.k (dj f i) av aM) am.le
  ⟨⟨aI.trans aZ,o8 _,bV.ext aZ,bp.ext aZ,am,λr J=>by have:=am.leads J;omega,λh aH=>(dy h aH).1⟩,X,al,aT,_,0,[],a7.ext aZ,bX.ext aZ,a8,bq,a6.nil _ _ _ _ _,λx bT=>(by cases bT),rfl,λr J=>(eF J).elim⟩ ?_ ?_
 rotate_left
 .rintro aM dz ⟨a1,X,al,aT,aE,bC,L,bE,bF,aO,be,bf,bg,aP,bh⟩;obtain⟨dA,eQ,cN,cc,eS,eU,dC⟩:=id a1;have bG:=nI f av.length;rw[cM,rz] at bG;rw[cM,rz] at bE aO aP;rw[ao,ad];refine⟨λh=>Ω,λ_=>?_⟩;rw[bn df.p df.i rfl (show aM.rangeAt Y 0 [Δ f.k,au,Δ (cC f).zero,X,aE] from bE.range)];refine bJ (vs:=[Δ f.k,au,Δ (cC f).zero,X,aE]) df.i rfl rfl (λu hu=>?_) cN λeV bk eW dD=>?_
  .simp at hu;rcases hu with rfl|rfl|rfl|rfl|rfl
   .rfl
   .exact cc.ls.cells.2
   .rfl
   .exact (cP bF.1.sl).2
   .exact (cP bf.sl).2
  rw[eJ df.p df.i rfl dD.range];have aV:∀r,r=aC-> ∃e c,ae aM r e c/\e≠an/\e≠ax/\e≠ab/\e≠aY:=λr J=>by
   subst J;exact⟨_,_,cN,Φ,Φ,Φ,Φ⟩
  refine⟨dA.then bk λr J he=>by have he:r=aC:=he;omega,au,gs,X,al,aT,aE,bC,L,?_,?_,bF.V bk (λr J=>?_),aO,bf.V bk (λr J I=>?_),λh aH=>?_,aP⟩
  .rw[bG.1]
  .rw[bG.2.1];refine bb cc bk λr J I=>?_;obtain⟨e,c,W,_,_,ai,_⟩:=aV r I;exact bU cc W (λhe=>ai he.symm) J rfl
  .obtain⟨e,c,W,h1,bB,_⟩:=aV r J;exact⟨e,c,W,h1,bB⟩
  .obtain⟨e,c,W,_,_,_,ai⟩:=aV r I;exact b7 bf W (λhe=>ai he.symm) J
  .rw[bG.2.1];exact lp (dC h (bg h aH)) bk λr J=>by
    obtain⟨e,c,W,h1,_,bB,_⟩:=aV r J;exact .inl ⟨e,c,W,bB,h1⟩
 rintro i aM dz hi ⟨a1,X,al,aT,aE,bC,L,bE,bF,aO,be,bf,bg,aP,bh⟩ dE;obtain⟨y,ap⟩:∃y,av[i]? =σ y:=⟨_,y0 hi⟩;have bH:=x6 ap;have cQ:(e1 f)[i]? =σ (c8 y):=by rw[<-cL,x8,ap];rfl
 have cd:e3 f.sizes f.k (c8 y):=rg aB _ (x6 cQ);have ce:=tZ cQ;obtain⟨eX,eY,eZ,e2⟩:=nI f i;rw[ao,ad];refine⟨λ_=>?_,λh=>Ω⟩;refine dt (λcg=>lq w bz.heap.size aC gs go au aJ f av cg/\AX w bz.heap.size Y au f.k (dj f (i+1)) av cg) ?_ ?_
 .rintro cg h;rw[aN];exact dE _ h
 intro e4 ch;rw[cO rfl cF.u aY.i a1.2.2.2.2.1 hi,bn aY.p aY.i rfl (a1.2.2.2.2.1.range ap)];refine bt aY.i λcS e5 e6 dG dH=>?_;refine bJ (vs:=c4 y) aY.i rfl rfl (a1.2.2.2.2.2.2 y bH).one dH λcT dI e7 bI=>?_;have bK:Ext aM cT:=dG.then dI λr J he=>by have he:r=cS:=he;omega
 have bL:=a1.ext bK;have aQ:=bE.ext bK;have ci:=bF.ext bK;have bM:=bf.ext bK;obtain⟨e8,e9,cU,fa,fb,fc,cV⟩:=id bL;obtain⟨⟨fd,cW⟩,_,dK,cX⟩:=cV y bH;rw[aa aY.p rfl,ac (v:=y.ay) Ψ (bI.cell (o:=0+0) rfl),aS ah.u cW.ls];have fe:aT.length=f.sizes.length:=by have:=congrArg S9 aO;rw[u5] at this;omega
 have ff:L.length<=256:=by have:=congrArg S9 aP;rw[u5] at this;omega
 rw[bi,ad];refine⟨λfg=>?_,λfh=>?_⟩
 .
  have aR:y.sc=[]:=Z2 Ω;have ak:dj f (i+1)={dj f i with zero:=y.cs.getD 0 0}:=by rw[ce];unfold hK;simp only[c8,aR]
  have fi:y.cs.length=1:=by have:=cd.len;simpa[c8,aR,bD,aL] using this
  have dL:y.cs[0]? =σ (y.cs.getD 0 0):=by rw[u4,y0 Ω];rfl
  rw[aa aY.p rfl,ac (v:=y.aJ) Ψ (bI.cell (o:=0+2) rfl),dZ (y:=0) (i:=0) rfl ax.u an.i Ψ cX.ls dL,aa df.p rfl];refine bj an.i rfl rfl aQ Ξ λdM az dN dO=>?_;refine ch _ ⟨bL.V az λr J=>?_,X,al,aT,aE,bC,L,?_,ci.V az (λr J=>?_),by rw[ak];exact aO,be,bM.V az (λr J I=>?_),bg,by rw[ak];exact aP,bh⟩
  .have J:r=Y:=J;subst J;exact⟨Ω,ai,.inl ⟨_,aQ⟩⟩
  .rw[ak];exact dO
  .have J:r=Y:=J;subst J;exact⟨_,_,aQ,Φ,Φ⟩
  .have I:r=Y:=I;subst I;exact b7 bM aQ Φ J
 rw[bi,ad];refine⟨λh1=>?_,λfj=>?_⟩
 .
  obtain⟨v,aR⟩:∃v,y.sc=[v]:=X7.1 Ω;have fk:=cd.scope.1 v (by show v∈y.sc;rw[aR];exact .head _);have fm:=cd.vars v (by show v∈y.sc;rw[aR];exact .head _);have ak:dj f (i+1)={dj f i with unary:=(dj f i).unary.set v.toNat y.cs}:=by rw[ce];unfold hK;simp only[c8,aR]
  intro dP aF _ _;have cj:=aQ.ext aF;have cY:=bI.ext aF;have bl:=ci.ext aF;have dQ:=bL.ext aF;have cZ:=bM.ext aF;rw[aa df.p rfl,ac (v:=X) Ψ (cj.cell (o:=0+3) rfl),aa aY.p rfl,ac (v:=y.ay) Ψ (cY.cell (o:=0+0) rfl)];refine s5 (y:=0) (i:=0) rfl ah.u ab.i (cW.ls.ext aF) (show y.sc[0]? =σ v by rw[aR];rfl) λb o dR=>?_;rw[ac Ψ dR,aa aY.p rfl,ac (v:=y.aJ) Ψ (cY.cell (o:=0+2) rfl)];obtain⟨u,hu⟩:∃u,aT[v.toNat]? =σ u:=⟨_,y0 Ω⟩;rw[cO (i:=v.toNat) Ω dF.u ax.i bl.1 Ω];let a:kC:=⟨y.aJ,y.cs⟩;have bN:=cX.ext aF;refine ny (f:=mn) (j:=0) (a:=u) (a':=a) ax.i bN.ls.cells.1 bN.ls.cells.2 bl.1 hu rfl Ω λdM az dN dS=>?_;have aX:∀ {r:Nat},leadsTo X r-> ∃c,ae dP r ax c:=λJ=>by
   obtain⟨rfl,c,W⟩:=di bl.1 J;exact⟨c,W⟩
  refine ch _ ⟨dQ.V az λr J=>?_,X,al,aT.set v.toNat a,aE,bC,L,?_,⟨dS,λz ag=>?_⟩,?_,be,cZ.V az (λr J I=>?_),bg,by rw[ak];exact aP,bh⟩
  .obtain⟨c,W⟩:=aX J;exact⟨be r J,λhe=>(by subst he;exact absurd (eu W (cU.ext aF)) Φ),.inr (.inl ⟨c,W⟩)⟩
  .rw[ak];exact cj.V az λhe=>b7 bl.1 cj Φ he
  .rcases V3 ag with ag|rfl
   .exact bl.pj az (λr J=>by obtain⟨c,W⟩:=aX J;exact⟨_,c,W,Φ⟩) z ag
   .exact⟨dK,bb bN az λr J I=>by
     obtain⟨c,W⟩:=aX I;exact bU bN W Φ J rfl⟩
  .rw[ak,T0,aO]
  .obtain⟨c,W⟩:=aX I;exact b7 cZ W Φ J
 .
  have ak:dj f (i+1)={dj f i with funs:=(dj f i).funs++[c8 y]}:=by
   rw[ce];unfold hK;have c0:2<=(c8 y).1.length:=by show 2<=y.sc.length;omega
   generalize c8 y=g at c0 ⊢;obtain⟨sc,cs⟩:=g
   match sc,c0 with
   |_::_::_,_=>rfl
  rw[aa df.p rfl,ac (v:=aE) Ψ (aQ.cell (o:=0+4) rfl),bn aY.p aY.i rfl (show cT.rangeAt cS 0 (c4 y) from bI.range)];refine fM (f:=c4) (k:=3) (a:=y) cF.u aY.i Ω rfl rfl λfo fp dT fq a2 dU=>?_;have bO:=bM.ext a2;have dV:=ci.ext a2;have bP:=aQ.ext a2;have dW:=bL.ext a2;refine gd (f:=c4) (a:=y) cF.u aY.i rfl bO (by simpa using dU.sl) (cV y bH).one Ω Ω λb6 b8 fs bR b9 c1=>?_;have c2:=bP.V c1 λhe=>b7 bO bP Φ he;rw[aa df.p rfl];refine bj cF.i (cP bR.sl).1 (cP bR.sl).2 c2 Ξ λdX c3 ft dY=>?_;have aD:af (λr=>leadsTo aE r\/r=Y) dT dX:=(c1.mono λr _ h=>.inl h).trans (c3.mono λr _ h=>.inr h);have fu:=a2.size;refine ch _ ⟨dW.V aD λr J=>?_,X,al,aT,b6,b8,L++[y],?_,dV.V aD (λr J=>?_),by rw[ak];exact aO,be,bR.V c3 (λr J I=>?_),λz ag=>?_,?_,λr J=>?_⟩
  .rcases J with J|rfl
   .obtain⟨rfl,c,W⟩:=di bO J;have:=bh _ J;refine⟨Ω,λhe=>?_,.inr (.inr ⟨⟨c,W⟩,this⟩)⟩;subst he;exact absurd (eu W (cU.ext a2)) Φ
   .exact⟨Ω,ai,.inl ⟨_,bP⟩⟩
  .rw[ak];exact dY
  .rcases J with J|rfl
   .obtain⟨rfl,c,W⟩:=di bO J;exact⟨_,c,W,Φ,Φ⟩
   .exact⟨_,_,bP,Φ,Φ⟩
  .have I:r=Y:=I;subst I;exact b7 bR c2 Φ J
  .rcases n9.1 ag with ag|ag
   .exact bg z ag
   .rw[l9.1 ag];exact bH
  .rw[ak,Z4,aP];rfl
  .rcases b9 r J with h|h
   .exact bh r h
   .omega
def pv (w:x2) (S:Nat->Prop) (e:u9):Prop:=∀r,S r-> ∃c,ae w r e c
theorem uz {J:u9} {k:o5} {g:Nat} (h:aq k J w g v l) (U:af S w w') (V:pv w S e) (W:J≠e):aq k J w' g v l:=bb h U λr X I=>by
 obtain⟨c,Y⟩:=V r I;exact bU h Y W X rfl
theorem AZ {α:Type} {f:α->List x1} {k:Nat} {J:u9} {g:Nat} {L:List α} (h:a6 f k J w g v L) (U:af S w w') (W:pv w S e) (X:J≠e):a6 f k J w' g v L:=h.V U λr Y I=>by
 obtain⟨c,aa⟩:=W r I;exact b7 h aa X Y
theorem uA {J:u9} {r:Nat} (h:ae w r J c) (U:af S w w') (W:pv w S e) (X:J≠e):ae w' r J c:=h.V U λI=>by
 obtain⟨c,Y⟩:=W r I;exact X (eu h Y)
theorem A0 {g:Nat} (h:ae w g e c):pv w (λr=>r=g) e:=λr I=>by
 have I:r=g:=I;subst I;exact⟨c,h⟩
theorem mw {k:o5} {g:Nat} (h:aq k e w g v l):pv w (λr=>leads v r) e:=λr I=>by
 have I:leads v r:=I;obtain⟨rfl,_⟩:=bA h I;obtain⟨_,⟨U,_⟩|⟨cap,full,_,V,_⟩⟩:=h
 .obtain⟨a,n,c,J,_⟩:=I;rw[U] at J;cases J
 .exact⟨_,V⟩
def c5 (x:fQ):List Int:=((X9 x.un.length).map λv:Nat=>(v:Int)).filter λv=>!dropped x.mask v
theorem uB {P:W5} {k:o5} {b:Nat} (I:P.underlying t=σ (.slice e)) (hi:aM P e 1 b z)
  (J:∀v g w',g=w.heap.size->Ext w w'->aq k e w' g v []->K v w'):az P (Z7 t 0 #[]) w K:=
 il I hi Ω (cs:=#[]) (by simp[Instr.fill]) λg w' U V W=>J _ g w' U V (aq.of (n:=0) (bQ.full (by simpa using W) Ξ (by simp[maxLen])))
theorem Kw {n:aV} (h:uy w v n) {g:Nat} (X:ae w' g df v.cells.toList):∃au U I V aT J W L,ae w' g df [Δ n.k,au,Δ n.zero,I,J]/\aq .i64 ab w U au n.sizes/\gQ w V I aT/\aT.map (·.l)=n.unary/\a6 c4 3 aY w W J L/\(∀h∈L,e8 w n.sizes h)/\L.map c8=n.funs:=by
 obtain⟨au,U,I,V,aT,J,W,L,rfl,Y,aa,ad,ac,af,ag⟩:=h;obtain⟨_,_,_,ah⟩:=b0 Y.ls;obtain⟨_,_,_,_,_,ai,_⟩:=aa.1.sl;obtain⟨_,_,_,_,_,aj,_⟩:=ac.sl;refine⟨au,U,I,V,aT,J,W,L,?_,Y,aa,ad,ac,af,ag⟩;rw[ah,ai,aj] at X ⊢;exact X
def z12:List x1:=[Δ 0,.slice ν 0 0,Δ 0,.slice ν 0 0,.slice ν 0 0,.slice ν 0 0,.slice ν 0 0,.slice ν 0 0]
theorem Kx (u:List Int):c5 (newVar u)=(X9 u.length).map λv:Nat=>(v:Int):=by
 unfold c5 newVar dropped;rw[List.filter_eq_self.2];intro a _;simp
section
variable {P:W5} {w:x2} {t:u9} {cx cy:Bool} {a b:Nat} {K:x1->Prop}
theorem Ky (I:a<2 ^ 62) (U:b<2 ^ 62):J P (aB .or t cx cy (Δ a) (Δ b)) w K=K (Δ ((a ||| b:Nat):Int)):=J.of λw' _=>by
 have e:(U5 64 (a:Int) ||| U5 64 (b:Int)).toNat=a ||| b:=by
  rw[lb,lb,BitVec.toNat_or,BitVec.toNat_ofNat,BitVec.toNat_ofNat,Nat.mod_eq_of_lt Ω,Nat.mod_eq_of_lt Ω]
 have W:a ||| b<2 ^ 62:=Nat.or_lt_two_pow I U;have hw:Y5.wrap ((a ||| b:Nat):Int)=((a ||| b:Nat):Int):=wrap_i64 Ω Ω;have V:(U5 Y5.bits (a:Int) ||| U5 Y5.bits (b:Int)).toNat=a ||| b:=e;simp only[aB,eqGuard,binOp,Op.intBits,V,hw];rfl
theorem Kz (V:a<2 ^ 62) (I:b<2 ^ 62):J P (aB .and t cx cy (Δ a) (Δ b)) w K=K (Δ ((a &&& b:Nat):Int)):=J.of λw' _=>by
 have e:(U5 64 (a:Int) &&& U5 64 (b:Int)).toNat=a &&& b:=by
  rw[lb,lb,BitVec.toNat_and,BitVec.toNat_ofNat,BitVec.toNat_ofNat,Nat.mod_eq_of_lt Ω,Nat.mod_eq_of_lt Ω]
 have W:a &&& b<2 ^ 62:=Nat.and_lt_two_pow _ I;have hw:Y5.wrap ((a &&& b:Nat):Int)=((a &&& b:Nat):Int):=wrap_i64 Ω Ω;have U:(U5 Y5.bits (a:Int) &&& U5 Y5.bits (b:Int)).toNat=a &&& b:=e;simp only[aB,eqGuard,binOp,Op.intBits,U,hw];rfl
theorem KA {k:o5} {n:Nat} (I:n<62):J P (aB .shl t cx cy (Δ 1) (.int k (n:Int))) w K=K (Δ ((2 ^ n:Nat):Int)):=by
 rw[wX Ω];have e:min ((n:Int).toNat) Y5.bits=n:=T5 (by show n<=64;omega);have U:2 ^ n<2 ^ 62:=Nat.pow_lt_pow_right Ω I;rw[e,Int.one_mul,show ((2:Int) ^ n)=((2 ^ n:Nat):Int) by simp];generalize 2 ^ n=q at U ⊢;rw[wrap_i64 Ω Ω]
end
theorem A1 (a n:Nat):(a / 2 ^ n &&& 1=1)↔a.testBit n=true:=by
 rw[Nat.and_one_is_mod,Nat.testBit_eq_decide_div_mod_eq,decide_eq_true_eq]
theorem KB {b n:Nat} {v:Int} (X:ld b n):aj x3 CD [h4 b n,Δ v] w λr w'=>r= .bool (decide (0<=v/\v<n)&&b.testBit v.toNat)/\Ext w w':=by
 refine aA func15 ?_;refine bM λg U ag J V=>?_;refine aP (λr Y=>r= .bool (decide (0<=v/\v<n)&&b.testBit v.toNat)/\Ext w Y) (λ_ _ h=>h) λah W=>?_;rw[bn b3.p b3.i rfl V.range];refine x0.mono ?_;rintro _ ai _ ⟨rfl,I⟩;rw[ad];refine⟨λh=>?_,λh=>W _ _ ⟨by rw[decide_eq_false h];rfl,J.trans I⟩⟩;obtain⟨ab,ak⟩:=X;obtain⟨s,rfl⟩:∃s:Nat,v=s:=⟨v.toNat,Ω⟩;have ae:=V.ext I;have al:(2:Nat) ^ n<=2 ^ 32:=S4 Ω ab;have af:b / 2 ^ s<2 ^ 64:=Nat.lt_of_le_of_lt (Nat.div_le_self _ _) Ω;rw[aa b3.p rfl,ac (v:=.int .u64 (b:Int)) Ψ (ae.cell (o:=0+0) rfl),qJ Ω,show (1:Int)=((1:Nat):Int) from rfl,u64_and af Ω,bi];refine W _ _ ⟨?_,J.trans I⟩;congr 1;rw[decide_eq_true h,U7,V8,decide_eq_true_eq,j9,<-A1];omega
theorem KC (m v:Nat):dropped (m:Int) (v:Int)=m.testBit v:=by unfold dropped;rw[j9,j9]
def b9 (w:x2) (al ag:Nat) (A R:ai) (n:aV) (s:aF) (t:aC):Prop:=StateM w al ag A R n s t/\t.bS=s.cells/\iA t/\eN n.k n.sizes s/\iy n
theorem b9.ext {A R:ai} {n:aV} {s:aF} {t:aC} (h:b9 w al ag A R n s t) (I:Ext w w'):b9 w' al ag A R n s t:=⟨h.1.ext I,h.2⟩
theorem StateM.parts {A R:ai} {n:aV} {s:aF} {t:aC} (h:StateM w al ag A R n s t):∃I J U V W X L Y,ae w al bz [Γ I,Γ ag,J,U,V]/\fi w I n/\cD w ag Y t/\aq .i64 ab w W J (gE s)/\a6 kH 3 dl w X U L/\iC R w L s:=by
 obtain⟨I,J,U,V,_,W,X,ge,L,E,Y,w0,aa,⟨ac,ad,am⟩,⟨af,an,ao,ap⟩,ah,⟨aj,ak⟩,au,av⟩:=h;exact⟨I,J,U,V,W,X,L,Y,aa,ac.ext ad,af,ah,aj,ak⟩
theorem pw {s:aF} {i:Nat} (h:i<s.vars.length):(gE s)[i]? =σ (eT s i:Int):=by
 unfold gE;rw[x8,List.getElem?_range h];rfl
theorem nQ {s:aF} {t:aC} (J:t.bS=s.cells) (I:iA t):s.cells.length<=100000000:=by
 rw[<-J];unfold aC.bS;rw[u5];exact I.1
theorem px {s:aF} {i:Nat} {x:fQ} (h:s.vars[i]? =σ x):eT s i+x.un.length+2<=s.cells.length:=by
 have h1:=pm h (j:=x.un.length+1) Ω;have I:(gD x)[x.un.length+1]? ≠ν:=by
  rw[Ne,List.getElem?_eq_none_iff];show ¬(x.un.length+1+1<=x.un.length+1);omega
 rw[<-h1] at I;have:=(x4.1 (Option.ne_none_iff_exists'.1 I).choose_spec).1;omega
theorem uC {s:aF} {f:ev} (h:s.funs[j]? =σ f):dT s j+f.cs.length+1<=s.cells.length:=by
 have h1:=uc h (j:=f.cs.length) Ω;have I:(fR f)[f.cs.length]? ≠ν:=by
  rw[Ne,List.getElem?_eq_none_iff];show ¬(f.cs.length+1<=f.cs.length);omega
 rw[<-h1] at I;have:=(x4.1 (Option.ne_none_iff_exists'.1 I).choose_spec).1;omega
section
variable {w:x2} {al ag:Nat} {A R:ai} {n:aV} {s:aF} {t:aC}
theorem A2 (h:b9 w al ag A R n s t):aj x3 CL [Γ al] w λv w'=>(∃I,v=Γ I/\fi w' I n)/\Ext w w':=by
 obtain⟨I,V,W,X,Y,ab,L,ad,J,U,ae,af,ah,ai⟩:=h.1.parts;refine aA func49 ?_;rw[cA eW.u];simp only[j6,aQ];rw[aw,aa bz.p rfl,ac (v:=Γ I) Ψ (J.cell (o:=0+0) rfl)];exact⟨⟨I,rfl,U⟩,Ext.refl _⟩
theorem uD (h:b9 w al ag A R n s t):aj x3 CQ [Γ al] w λv w'=>v=Δ (n.sizes.length:Int)/\Ext w w':=by
 refine aA func60 ?_;refine (A2 h).mono ?_;rintro _ U _ ⟨⟨W,rfl,I⟩,J⟩;refine (ue I).mono ?_;rintro _ X _ ⟨rfl,V⟩;exact⟨rfl,J.trans V⟩
theorem my (h:b9 w al ag A R n s t):aj x3 wq [Γ al] w λv w'=>v=Δ n.k/\Ext w w':=by
 refine aA func59 ?_;refine (A2 h).mono ?_;rintro _ U _ ⟨⟨W,rfl,I⟩,J⟩;refine (JM I).mono ?_;rintro _ X _ ⟨rfl,V⟩;exact⟨rfl,J.trans V⟩
theorem py {i:Int} (h:b9 w al ag A R n s t):aj x3 C3 [Γ al,Δ i] w λv w'=>v= .bool (decide (0<=i/\i<n.sizes.length))/\Ext w w':=by
 refine aA func75 ?_;refine aP (λv U=>v= .bool (decide (0<=i/\i<n.sizes.length))/\Ext w U) (λ_ _ h=>h) λW I=>?_;rw[cb,ad];refine⟨λJ=>?_,λJ=>I _ _ ⟨by rw[decide_eq_false Ω],Ext.refl _⟩⟩;refine (uD h).mono ?_;rintro _ U _ ⟨rfl,V⟩;rw[ao];refine I _ _ ⟨?_,V⟩;congr 1;exact decide_eq_decide.2 ⟨λh=>⟨J,h⟩,λh=>h.2⟩
theorem A3 (h:b9 w al ag A R n s t):aj x3 CR [Γ al] w λv w'=>v=Δ s.zero/\Ext w w':=by
 obtain⟨W,X,Y,ab,ad,ae,L,af,I,ah,J,ai,ak,am⟩:=h.1.parts;refine aA func61 ?_;rw[cA eW.u];simp only[j6,aQ];rw[aw,aa bz.p rfl,ac (v:=Γ ag) Ψ (I.cell (o:=0+1) rfl)];refine (kE (i:=0) J rfl (show t.bS[0]? =σ s.zero by rw[h.2.1];exact JF s)).mono ?_;rintro _ U _ ⟨rfl,V⟩;exact⟨rfl,V⟩
theorem pz (h:b9 w al ag A R n s t):aj x3 CG [Γ al] w λv w'=>v=Δ (s.funs.length:Int)/\Ext w w':=by
 obtain⟨W,X,I,Y,ab,ad,L,ae,J,af,ah,ai,U,V⟩:=h.1.parts;refine aA func19 ?_;rw[cA eW.u];simp only[j6,aQ];rw[aw,aa bz.p rfl,ac (v:=I) Ψ (J.cell (o:=0+3) rfl),dc dY.u U];exact⟨by rw[V.1],Ext.refl _⟩
def fB (s:aF) (i:Nat):Bool:=match s.vars[i]? with
 |some x=>decide (x.gone≠0)
 |none=>false
theorem rG {i:Int} (h:b9 w al ag A R n s t):aj x3 CT [Γ al,Δ i] w λv w'=>v= .bool (decide (0<=i)&&fB s i.toNat)/\Ext w w':=by
 refine aA func63 ?_;refine aP (λv U=>v= .bool (decide (0<=i)&&fB s i.toNat)/\Ext w U) (λ_ _ h=>h) λap J=>?_;intro aq V _ _;refine (py (h.ext V)).mono ?_;rintro _ au _ ⟨rfl,Y⟩;have I:=V.trans Y;have av:=h.2.2.2.1.vars;rw[ad];refine⟨λae=>?_,λax=>J _ _ ⟨?_,I⟩⟩
 .obtain⟨ay,af,az,aB,aC,aD,L,aE,W,aF,ai,ak,aG,aH⟩:=(h.ext I).1.parts;obtain⟨x,X⟩:∃x,s.vars[i.toNat]? =σ x:=⟨_,y0 Ω⟩;rw[aw,aa bz.p rfl,ac (v:=Γ ag) Ψ (W.cell (o:=0+1) rfl),aw,aa bz.p rfl,ac (v:=af) Ψ (W.cell (o:=0+2) rfl),dZ (y:=i) (i:=i.toNat) Ω ah.u ab.i Ψ ak.ls (pw Ω)];have am:t.bS[eT s i.toNat+0]? =σ x.gone:=by rw[h.2.1,pm X Ω];rfl
  refine (kE (i:=eT s i.toNat) ai rfl am).mono ?_;rintro _ aI _ ⟨rfl,an⟩;rw[bB];refine J _ _ ⟨?_,I.trans an⟩;rw[decide_eq_true ae.1,U7];unfold fB;rw[X]
 .by_cases ao:0<=i
  .unfold fB;rw[Y4 Ω,Bool.and_false]
  .rw[decide_eq_false ao];rfl
def ez (n:aV) (i v:Int):Prop:=0<=i/\i<n.sizes.length/\0<=v/\v<n.sizes.getD i.toNat 0
instance (n:aV) (i v:Int):Decidable (ez n i v):=inferInstanceAs (Decidable (_/\_))
theorem ez.var {i v:Int} (V:ez n i v) (I:eN n.k n.sizes s):∃x,s.vars[i.toNat]? =σ x/\v.toNat<x.un.length/\x.un.length<=32/\n.sizes.getD i.toNat 0=x.un.length:=by
 obtain⟨h1,X,Y,W⟩:=V;have aa:=I.vars;obtain⟨x,U⟩:∃x,s.vars[i.toNat]? =σ x:=⟨_,y0 Ω⟩;obtain⟨z,J⟩:∃z,n.sizes[i.toNat]? =σ z:=⟨_,y0 Ω⟩;have ab:=I.e5.2.2 z (x6 J);have ac:=(I.var i.toNat x z U J).1;rw[u4,J,S1] at W ⊢;exact⟨x,U,Ω,Ω,Ω⟩
theorem uE {i v:Int} (h:b9 w al ag A R n s t):aj x3 C2 [Γ al,Δ i,Δ v] w λr w'=>r=Δ (if ez n i v then ((eT s i.toNat+2+v.toNat:Nat):Int) else-1)/\Ext w w':=by
 have aH:=h.2.2.2.1.vars;refine aA func72 ?_;refine aP (λr U=>r= .bool (decide (¬ez n i v))/\Ext w U) ?_ ?_
 .rintro _ U ⟨rfl,X⟩;rw[ad];refine⟨λan=>⟨by rw[if_neg an],X⟩,λV=>?_⟩;have V:=X2.1 V;obtain⟨x,ap,aI,aJ,_⟩:=V.var h.2.2.2.1;obtain⟨ae,af,aq,au,av,ax,L,ay,I,ai,az,ak,aB,aC⟩:=(h.ext X).1.parts;have am:=px ap;have aK:=nQ h.2.1 h.2.2.1;obtain⟨h1,aL,aM,aO⟩:=id V;rw[aw,aa bz.p rfl,ac (v:=af) Ψ (I.cell (o:=0+2) rfl),dZ (y:=i) (i:=i.toNat) Ω ah.u ab.i Ψ ak.ls (pw Ω),aN,wrap_i64 Ω Ω,aN,wrap_i64 Ω Ω,if_pos V];refine⟨?_,X⟩;congr 1;omega
 .intro aQ Y;refine (py h).mono ?_;rintro _ aR _ ⟨rfl,W⟩;rw[bg,bH];refine⟨λI=>?_,λI=>?_⟩
  .have I:¬(0<=i/\i<n.sizes.length):=λaD=>by rw[decide_eq_true aD] at I;cases I
   exact Y _ _ ⟨by rw[decide_eq_true];exact λJ=>I ⟨J.1,J.2.1⟩,W⟩
  have I:0<=i/\i<n.sizes.length:=by simpa using I
  rw[ao,ad];refine⟨λaE=>Y _ _ ⟨by rw[decide_eq_true];exact λJ=>by have:=J.2.2.1;omega,W⟩,λaE=>?_⟩;obtain⟨ae,af,aq,au,av,ax,L,ay,aF,ai,az,ak,aB,aC⟩:=(h.ext W).1.parts;rw[aw,aa bz.p rfl,ac (v:=Γ ae) Ψ (aF.cell (o:=0+0) rfl)];refine (rA ai h.2.2.2.2).mono ?_;rintro _ aS _ ⟨aG,rfl⟩;rw[if_pos I.1,cb];refine Y _ _ ⟨?_,W.trans aG⟩;congr 1;refine decide_eq_decide.2 ⟨λh J=>?_,λh=>?_⟩
  .have:=J.2.2.2;omega
  .refine Int.not_lt.1 λam=>h ⟨I.1,I.2,Ω,am⟩
def mz (s:aF) (i v:Nat):Int:=match s.vars[i]? with
 |some x=>x.un.getD v 0
 |none=>0
theorem A4 {i v:Int} (h:b9 w al ag A R n s t):aj x3 CO [Γ al,Δ i,Δ v] w λr w'=>r=(if ez n i v then .tuple #[Δ (mz s i.toNat v.toNat),Δ 0] else .tuple #[Δ 0,Δ 1])/\Ext w w':=by
 refine aA func52 ?_;rw[cA eW.u];simp only[j6,aQ];refine (uE h).mono ?_;rintro _ U _ ⟨rfl,J⟩;by_cases I:ez n i v
 .rw[if_pos I,if_pos I,ao,ad];refine⟨λh=>Ω,λ_=>?_⟩;obtain⟨x,V,W,af,_⟩:=I.var h.2.2.2.1;obtain⟨ah,ai,ak,am,an,ap,L,aq,X,au,Y,av,ax,ay⟩:=(h.ext J).1.parts;rw[aw,aa bz.p rfl,ac (v:=Γ ag) Ψ (X.cell (o:=0+1) rfl)];have ab:t.bS[eT s i.toNat+2+v.toNat]? =σ (x.un.getD v.toNat 0):=by
   rw[h.2.1,S7,pm V Ω,show 2+v.toNat=v.toNat+1+1 by omega];show x.un[v.toNat]? =_;rw[u4,y0 W];rfl
  refine (kE (i:=eT s i.toNat+2+v.toNat) Y rfl ab).mono ?_;rintro _ az _ ⟨rfl,ae⟩;refine⟨?_,J.trans ae⟩;unfold mz;rw[V]
 .rw[if_neg I,if_neg I,ao,ad];exact⟨λ_=>⟨rfl,J⟩,λh=>Ω⟩
def dL (s:aF) (j:Nat):Bool:=match s.funs[j]? with
 |some f=>decide (f.live≠0)
 |none=>false
theorem mA {j:Int} (h:b9 w al ag A R n s t):aj x3 CF [Γ al,Δ j] w λv w'=>v= .bool (decide (0<=j)&&dL s j.toNat)/\Ext w w':=by
 refine aA func18 ?_;refine aP (λv U=>v= .bool (decide (0<=j)&&dL s j.toNat)/\Ext w U) (λ_ _ h=>h) λaq I=>?_;intro au J _ _;rw[cb,ad];refine⟨λV=>?_,λV=>I _ _ ⟨by rw[decide_eq_false V];rfl,J⟩⟩;refine (pz (h.ext J)).mono ?_;rintro _ av _ ⟨rfl,ah⟩;have W:=J.trans ah;rw[ao,ad];refine⟨λax=>?_,λay=>I _ _ ⟨?_,W⟩⟩
 .obtain⟨az,aB,ai,aC,aD,aE,L,aF,ab,aG,ak,aH,ae,X⟩:=(h.ext W).1.parts;obtain⟨f,Y⟩:∃f,s.funs[j.toNat]? =σ f:=⟨_,y0 Ω⟩;obtain⟨y,af⟩:∃y,L[j.toNat]? =σ y:=⟨_,y0 (by rw[X.1];omega)⟩;obtain⟨_,_,am⟩:=X.2 j.toNat y f af Y;rw[aw,aa bz.p rfl,ac (v:=Γ ag) Ψ (ab.cell (o:=0+1) rfl),aw,aa bz.p rfl,ac (v:=ai) Ψ (ab.cell (o:=0+3) rfl),cO (i:=j.toNat) Ω dY.u dl.i ae (by rw[X.1];omega),aa dl.p rfl,ac (v:=Δ (y.at_:Int)) Ψ (ae.range af 2 _ rfl)];have an:t.bS[dT s j.toNat+0]? =σ f.live:=by rw[h.2.1,uc Y Ω];rfl
  refine (kE (i:=dT s j.toNat) ak (by rw[am]) an).mono ?_;rintro _ aI _ ⟨rfl,ap⟩;rw[bB];refine I _ _ ⟨?_,W.trans ap⟩;rw[decide_eq_true V,U7];unfold dL;rw[Y]
 .unfold dL;rw[Y4 Ω,Bool.and_false]
end
def A5 (s:aF) (n:aV) (i:Int) (b m:Nat):Prop:=ld b m/\(¬(0<=i/\i<n.sizes.length)->b=0/\m=0)/\ ∀x,0<=i->s.vars[i.toNat]? =σ x->m=x.un.length/\ ∀j:Nat,b.testBit j=(decide (j<x.un.length)&& !dropped x.mask (j:Int))
section
variable {w:x2} {al ag:Nat} {A R:ai} {n:aV} {s:aF} {t:aC}
theorem uF {i:Int} (h:b9 w al ag A R n s t):aj x3 CC [Γ al,Δ i] w λv w'=>(∃b m,v=h4 b m/\A5 s n i b m)/\Ext w w':=by
 have bO:=h.2.2.2.1.vars;refine aA func14 ?_;refine bt b3.i λJ U bP aM av=>?_;have av:ae U J b3 [.int .u64 0,Δ 0]:=av;refine (py (h.ext aM)).mono ?_;rintro _ bQ _ ⟨rfl,aO⟩;have ax:=av.ext aO;have ay:=aM.trans aO;rw[bg,bH];refine⟨λW=>?_,λW=>?_⟩
 .have W:¬(0<=i/\i<n.sizes.length):=λbd=>by rw[decide_eq_true bd] at W;cases W
  rw[cR (cs:=#[.int .u64 0,Δ 0]) Ψ];refine bJ (vs:=[.int .u64 0,Δ 0]) b3.i rfl rfl (by intro u hu;simp at hu;rcases hu with rfl|rfl <;> rfl) ax λbR be bT bf=>?_;rw[eJ b3.p b3.i rfl bf.range];refine⟨⟨0,0,rfl,⟨Ω,Ξ⟩,λ_=>⟨rfl,rfl⟩,λx aP bh=>?_⟩,ay.then be λr az he=>by have he:r=J:=he;omega⟩;have:=(x4.1 bh).1;exact absurd ⟨aP,Ω⟩ W
 have W:0<=i/\i<n.sizes.length:=by simpa using W
 obtain⟨x,af⟩:∃x,s.vars[i.toNat]? =σ x:=⟨_,y0 Ω⟩;obtain⟨z,aB⟩:∃z,n.sizes[i.toNat]? =σ z:=⟨_,y0 Ω⟩;have bj:=h.2.2.2.1.e5.2.2 z (x6 aB);obtain⟨bU,_,bV,bW⟩:=h.2.2.2.1.var i.toNat x z af aB;obtain⟨aQ,aR,bk,bl,bm,bo,L,bp,ai,aS,_⟩:=(h.ext ay).1.parts;rw[aw,aa bz.p rfl,ac (v:=Γ aQ) Ψ (ai.cell (o:=0+0) rfl)];refine (rA aS h.2.2.2.2).mono ?_;rintro _ bX _ ⟨aC,rfl⟩;rw[if_pos W.1,u4,aB,S1];refine F9.mono ?_;rintro _ bY _ ⟨aD,rfl⟩;rw[if_pos bj];obtain⟨m,rfl⟩:∃m:Nat,z=m:=⟨z.toNat,Ω⟩;rw[aK (v:=h4 (2 ^ (m:Int).toNat-1) (m:Int).toNat) rfl,aK (v:=Δ 0) rfl,j9];have aT:=(ay.trans aC).trans aD;refine bt b3.i λI b0 b1 aU bq=>?_;refine bJ (vs:=[.int .u64 ((2 ^ m-1:Nat):Int),Δ (m:Int)]) b3.i rfl rfl (by intro u hu;simp at hu;rcases hu with rfl|rfl <;> rfl) bq λaV aW b2 br=>?_;have z5:=aT.size;have aX:Ext w aV:=(aT.trans aU).then aW λr az he=>by have he:r=I:=he;omega
 have b4:=(((ax.ext aC).ext aD)).lt;have bu:ae aV J b3 [.int .u64 0,Δ 0]:=(((ax.ext aC).ext aD).ext aU).V aW λhe=>by have he:J=I:=he;omega
 intro b5 aE _ _;have aY:=aX.trans aE;obtain⟨aQ,aR,bk,bl,bm,bo,L,bp,ai,aS,bw,bx,_⟩:=(h.ext aY).1.parts;have b6:=px af;have b7:=nQ h.2.1 h.2.2.1;rw[aw,aa bz.p rfl,ac (v:=Γ ag) Ψ (ai.cell (o:=0+1) rfl),aw,aa bz.p rfl,ac (v:=aR) Ψ (ai.cell (o:=0+2) rfl),dZ (y:=i) (i:=i.toNat) Ω ah.u ab.i Ψ bx.ls (pw Ω),aN,wrap_i64 Ω Ω];have bA:t.bS[eT s i.toNat+1]? =σ x.mask:=by rw[h.2.1,pm af Ω];rfl
 refine (kE (i:=eT s i.toNat+1) bw Ω bA).mono ?_;rintro _ bB _ ⟨rfl,aF⟩;have aZ:=(br.ext aE).ext aF;have bC:=(bu.ext aE).ext aF;obtain⟨mk,a1⟩:∃mk:Nat,x.mask=mk:=⟨x.mask.toNat,Ω⟩;rw[bn b3.p b3.i rfl (show bB.rangeAt I 0 [.int .u64 ((2 ^ m-1:Nat):Int),Δ (m:Int)] from aZ.range)];refine (x9 (b:=2 ^ m-1) (n:=m)).mono ?_;rintro _ b8 _ ⟨rfl,aG⟩;have bD:=aY.trans aF;have bE:J≠I:=Ω
 have ca:=aX.size;have cb:w.heap.size<=I:=Ω
 have cc:w.heap.size<=J:=Ω
 refine bZ.range m (λq X=>Ext w X/\ae X J b3 [.int .u64 0,Δ 0]/\ ∃b:Nat,ae X I b3 [.int .u64 (b:Int),Δ (m:Int)]/\ld b m/\ ∀j:Nat,b.testBit j=(decide (j<m)&& !(decide (j<q)&&mk.testBit j))) Ω
  ⟨bD.trans aG,bC.ext aG,_,aZ.ext aG,⟨Ω,by have:=Nat.two_pow_pos m;omega⟩,λj=>by rw[xZ];simp⟩ ?_ ?_
 .rintro q X bF cd ⟨ak,am,b,Y,an,ap⟩ bG;rw[ao,ad];refine⟨λ_=>?_,λh=>Ω⟩;refine dt (λaq=>Ext w aq/\ae aq J b3 [.int .u64 0,Δ 0]/\ ∃b:Nat,ae aq I b3 [.int .u64 (b:Int),Δ (m:Int)]/\ld b m/\ ∀j:Nat,b.testBit j=(decide (j<m)&& !(decide (j<q+1)&&mk.testBit j))) ?_ ?_
  .rintro aq bI;rw[aN];exact bG _ bI
  intro ce a2;have bK:mk / 2 ^ q<2 ^ 62:=Nat.lt_of_le_of_lt (Nat.div_le_self _ _) Ω;rw[a1,za Ω,show (1:Int)=((1:Nat):Int) from rfl,Kz bK Ω,bi,ad];have a6:(((mk / 2 ^ q &&& 1:Nat):Int)=((1:Nat):Int))↔mk.testBit q=true:=by rw[<-A1];omega
  refine⟨λaH=>?_,λaI=>?_⟩
  .have aH:=a6.1 aH;rw[bn b3.p b3.i rfl (show X.rangeAt I 0 [.int .u64 (b:Int),Δ (m:Int)] from Y.range)];refine (Gb (v:=(q:Int)) an).mono ?_;rintro _ cg _ ⟨rfl,aJ⟩;rw[if_pos ⟨Ω,Ω⟩,j9];refine bJ (vs:=[.int .u64 ((ip b (2 ^ q):Nat):Int),Δ (m:Int)]) b3.i rfl rfl (by intro u hu;simp at hu;rcases hu with rfl|rfl <;> rfl) (Y.ext aJ) λch a7 ci bL=>?_;have a8:∀j:Nat,(ip b (2 ^ q)).testBit j=(decide (j<m)&& !(decide (j<q+1)&&mk.testBit j)):=λj=>by
    rw[xR,ap,Nat.testBit_two_pow];by_cases ba:j<m
    .by_cases au:j=q
     .subst au;simp[aH]
     .have aL:decide (j<q+1)=decide (j<q):=decide_eq_decide.2 ⟨λh=>Ω,λh=>Ω⟩;rw[aL,decide_eq_true ba,decide_eq_true (show j<64 by omega),decide_eq_false (show ¬q=j from λh=>au h.symm)];simp
    .simp[ba]
   refine a2 _ ⟨(ak.trans aJ).then a7 λr az he=>by have he:r=I:=he;omega,(am.ext aJ).V a7 λhe=>bE he,_,bL,⟨Ω,F1 λj bb=>by rw[a8,decide_eq_false Ω];rfl⟩,a8⟩
  .have aI:mk.testBit q=false:=by simpa using λh=>aI (a6.2 h)
   refine a2 _ ⟨ak,am,b,Y,an,λj=>?_⟩;rw[ap];by_cases au:j=q
   .subst au;simp[aI]
   .have aL:decide (j<q+1)=decide (j<q):=decide_eq_decide.2 ⟨λh=>Ω,λh=>Ω⟩;rw[aL]
 .rintro X bF ⟨ak,am,b,Y,an,ap⟩;rw[ao,ad];refine⟨λh=>Ω,λ_=>?_⟩;rw[bn b3.p b3.i rfl (show X.rangeAt I 0 [.int .u64 (b:Int),Δ (m:Int)] from Y.range)];refine bJ (vs:=[.int .u64 (b:Int),Δ (m:Int)]) b3.i rfl rfl (by intro u hu;simp at hu;rcases hu with rfl|rfl <;> rfl) am λcj bM ck bN=>?_;rw[eJ b3.p b3.i rfl bN.range];refine⟨⟨b,m,rfl,an,λh=>absurd W h,λy aP bc=>?_⟩,ak.then bM λr az he=>by have he:r=J:=he;omega⟩;rw[af] at bc;cases bc;refine⟨Ω,λj=>?_⟩;rw[ap,a1,KC,show x.un.length=m by omega];by_cases bb:j<m <;> simp[bb]
theorem pA {f:ev} (U:eN k sizes s) (W:f∈s.funs):bR f.szs/\f.cs.length=(aL f.szs).toNat/\aL f.szs<=4096:=by
 obtain⟨J,I,_⟩:=U.funs f W;rw[I];refine⟨⟨?_,nD U.e5.2.2 λv V=>⟨(J.scope.1 v V).1,J.vars v V⟩⟩,J.len,J.small⟩;have:=J.scope.2;simp[bD];exact this
def en (s:aF) (j:Nat) (I:List Int):Option Nat:=match s.funs[j]? with
 |some f=>if f.live≠0 then (cq f.szs I 0).map λm=>dT s j+1+m.toNat else ν
 |none=>ν
def iF (s:aF) (j:Nat) (I:List Int):Int:=match s.funs[j]? with
 |some f=>cW f.szs f.cs I
 |none=>0
theorem A6 {Y:List Int} (h:b9 w al ag A R n s t) (ap:aI .i64 w aD Y):aj x3 wE [Γ al,Δ (j:Int),aD] w λv w'=>v=Δ (match en s j Y with|some p=>(p:Int)|none=>-1)/\Ext w w':=by
 refine aA func137 ?_;refine (mA h).mono ?_;rintro _ U _ ⟨rfl,ab⟩;rw[decide_eq_true Ω,U7,j9,bg,bH];refine⟨λI=>⟨?_,ab⟩,λI=>?_⟩
 .have I:dL s j=false:=by simpa using I
  have:en s j Y=ν:=by
   unfold en;unfold dL at I;cases J:s.funs[j]? with
   |none=>rfl
   |some f=>
    rw[J] at I;have I:f.live=0:=by simpa using I
    simp[I]
  rw[this]
 have I:dL s j=true:=by simpa using I
 obtain⟨f,J,aq⟩:∃f,s.funs[j]? =σ f/\f.live≠0:=by
  unfold dL at I;cases J:s.funs[j]? with
  |none=>rw[J] at I;cases I
  |some f=>rw[J] at I;exact⟨f,rfl,by simpa using I⟩
 obtain⟨am,aL,aM⟩:=pA h.2.2.2.1 (x6 J);obtain⟨av,ax,ae,ay,az,an,L,aB,af,aC,aE,aF,W,X⟩:=(h.ext ab).1.parts;obtain⟨y,V⟩:∃y,L[j]? =σ y:=⟨_,y0 (by rw[X.1];exact (x4.1 J).1)⟩;have ah:=(x4.1 V).1;obtain⟨_,aG,ao⟩:=X.2 j y f V J;have aH:U.rangeAt an (j*3+1) [y.au]:=λq v ai=>by
  match q,ai with
  |0,ai=>cases ai;exact W.range V 1 _ rfl
 rw[aw,aa bz.p rfl,ac (v:=ae) Ψ (af.cell (o:=0+3) rfl),cO rfl dY.u dl.i W ah,aa dl.p rfl,bn (cs:=[y.au]) bo.p bo.i rfl aH];refine (xj aG.ls (ap.ext ab) am).mono ?_;rintro _ aO _ ⟨rfl,aJ⟩;have ak:=ab.trans aJ;unfold jB en;rw[J];simp only[if_pos aq];cases hi:cq f.szs Y 0 with
 |none=>
  simp only[Option.map_none];rw[aK (v:=Δ 0) rfl,aK (v:=Δ 3) rfl,bB,ad];exact⟨λ_=>⟨trivial,ak⟩,λh=>absurd (show (3:Int)≠0 by decide) h⟩
 |some m=>
  simp only[Y0];rw[aK (v:=Δ m) rfl,aK (v:=Δ 0) rfl,bB,ad];refine⟨λh=>absurd rfl h,λ_=>?_⟩;have aP:=l0 am.2 hi;have aQ:=uC J;have aR:=nQ h.2.1 h.2.2.1;obtain⟨av,ax,ae,ay,az,an,L,aB,af,aC,aE,aF,W,X⟩:=(h.ext ak).1.parts;obtain⟨y,V⟩:∃y,L[j]? =σ y:=⟨_,y0 (by rw[X.1];exact (x4.1 J).1)⟩;have ah:=(x4.1 V).1;obtain⟨_,_,ao⟩:=X.2 j y f V J;rw[aw,aa bz.p rfl,ac (v:=ae) Ψ (af.cell (o:=0+3) rfl),cO rfl dY.u dl.i W ah,aa dl.p rfl,ac (v:=Δ (y.at_:Int)) Ψ (W.range V 2 _ rfl),ao,aN,wrap_i64 Ω Ω,aN,wrap_i64 Ω Ω];refine⟨?_,ak⟩;congr 1;omega
theorem pB {J:List Int} {p:Nat} (U:eN k sizes s) (h:en s j J=σ p):s.cells[p]? =σ (iF s j J)/\ ∃f,s.funs[j]? =σ f/\f.live≠0/\ ∃m:Nat,cq f.szs J 0=σ (m:Int)/\m<f.cs.length/\p=dT s j+(m+1):=by
 unfold en at h;cases I:s.funs[j]? with
 |none=>rw[I] at h;cases h
 |some f=>
  rw[I] at h;simp only at h;split at h
  .rename_i V;obtain⟨m,hm,rfl⟩:=Y8.1 h;obtain⟨W,X,Y⟩:=pA U (x6 I);have aa:=l0 W.2 hm;obtain⟨q,rfl⟩:∃q:Nat,m=q:=⟨m.toNat,Ω⟩;refine⟨?_,f,rfl,V,q,hm,Ω,Ω⟩;rw[show dT s j+1+(q:Int).toNat=dT s j+(q+1) by omega,uc I Ω];unfold iF cW;rw[I];simp only[hm];show f.cs[q]? =_;rw[j9,u4,y0 Ω];rfl
  .cases h
theorem A7 {I:List Int} (h:b9 w al ag A R n s t) (V:aI .i64 w aD I):aj x3 CP [Γ al,Δ (j:Int),aD] w λv w'=>v=(if (en s j I).isSome then .tuple #[Δ (iF s j I),Δ 0] else .tuple #[Δ 0,Δ 1])/\Ext w w':=by
 refine aA func53 ?_;rw[cA eW.u];simp only[j6,aQ];refine (A6 h V).mono ?_;rintro _ U _ ⟨rfl,J⟩;cases W:en s j I with
 |none=>
  simp only;rw[ao,ad];exact⟨λ_=>⟨rfl,J⟩,λh=>Ω⟩
 |some p=>
  simp only;rw[ao,ad];refine⟨λh=>Ω,λ_=>?_⟩;obtain⟨ae,af,ah,ai,ak,am,L,an,X,ap,Y,aq,au,av⟩:=(h.ext J).1.parts;rw[aw,aa bz.p rfl,ac (v:=Γ ag) Ψ (X.cell (o:=0+1) rfl)];refine (kE (i:=p) Y rfl (by rw[h.2.1];exact (pB h.2.2.2.1 W).1)).mono ?_;rintro _ ax _ ⟨rfl,ab⟩;exact⟨rfl,J.trans ab⟩
end
theorem dV.parts {I:Nat} {J U Y:x1} {A R:ai} {n:aV} {s:aF} {t:aC} (h:dV w al ag I J U Y A R n s t):∃V W L X,ae w al bz [Γ I,Γ ag,J,U,Y]/\fi w I n/\cD w ag X t/\aq .i64 ab w V J (gE s)/\a6 kH 3 dl w W U L/\iC R w L s:=by
 obtain⟨_,V,W,ge,L,E,X,w0,aa,⟨ac,ad,am⟩,⟨af,an,ao,ap⟩,ah,⟨aj,ak⟩,au,av⟩:=h;exact⟨V,W,L,X,aa,ac.ext ad,af,ah,aj,ak⟩
theorem A8 {a b:Int} (I:0<=a/\a<=k) (J:0<=b/\b<=k) (V:1<=k/\k<=2147483648):aj x3 sy [Δ a,Δ b,Δ k] w λv w'=>v= .tuple #[Δ (min (a+b) k),Δ 0]/\Ext w w':=by
 refine yF.mono ?_;rintro _ U _ ⟨rfl,W⟩;refine⟨?_,W⟩;unfold oO;rw[if_pos ⟨⟨V,I.1,I.2⟩,V,J.1,J.2⟩]
theorem KD {s:aF} {I:List Int} {p:Nat} (J:eN k sizes s) (h:en s j I=σ p):0<=iF s j I/\iF s j I<=k:=by
 obtain⟨_,f,U,_,m,hm,V,_⟩:=pB J h;obtain⟨W,_,_⟩:=J.funs f (x6 U);unfold iF cW;rw[U];simp only[hm];rw[j9,u4,y0 V,S1];exact W.h7 _ (R2 V)
theorem Ba {A R:ai} {n:aV} {s:aF} {t:aC} {db:x1} (h:b9 w al ag A R n s t) (aE:aI .i64 w db a):aj x3 CE [Γ al,db] w λv w'=>((po s a->v= .tuple #[Δ (nK n.k s a),Δ 0])/\(¬po s a->v= .tuple #[Δ 0,Δ 3]))/\Ext w w':=by
 have am:=h.2.2.2.1;have de:=am.vars;have bx:=am.jM;refine aA func16 ?_;rw[cA eW.u];simp only[j6,aQ];rw[aS ah.u aE];refine (uD h).mono ?_;rintro _ U _ ⟨rfl,a7⟩;rw[bB,ad];refine⟨λdf=>⟨⟨λaz=>absurd az.1 Ω,λ_=>by trivial⟩,a7⟩,λdg=>?_⟩;have b8:a.length=s.vars.length:=Ω
 refine (A3 (h.ext a7)).mono ?_;rintro _ dh _ ⟨rfl,ca⟩;have bA:=a7.trans ca;rw[aS ah.u (aE.ext bA)];obtain⟨X,aR⟩:∃X,X=s.vars.zip a:=⟨_,rfl⟩;have di:X.length=a.length:=by rw[aR,List.length_zip];omega
 refine mN.range a.length (λi t4 t5 ae aT an=>Ext w an/\ ∃I:Int,ae=Δ I/\I=(X.take i).foldl (mo n.k) s.zero/\(0<=I/\I<=n.k)/\aT= .bool ((X.take i).all iB)/\ ∀p<i,∀x v,s.vars[p]? =σ x->a[p]? =σ v->x.gone≠0\/(0<=v/\v<x.un.length)) aE.le
  ⟨bA,s.zero,rfl,rfl,am.zero,rfl,λp af=>Ω⟩ ?_ ?_
 .rintro i t4 t5 _ _ an cb hi ⟨Y,I,rfl,aU,aW,rfl,a8⟩ cc;obtain⟨x,ap⟩:∃x,s.vars[i]? =σ x:=⟨_,y0 Ω⟩;obtain⟨v,au⟩:∃v,a[i]? =σ v:=⟨_,y0 hi⟩;obtain⟨z,ba⟩:∃z,n.sizes[i]? =σ z:=⟨_,y0 Ω⟩;have dj:=am.e5.2.2 z (x6 ba);obtain⟨dk,cd,_⟩:=am.var i x z ap ba;have ce:X[i]? =σ (x,v):=by rw[aR,List.getElem?_zip_eq_some];exact⟨ap,au⟩
  have bD:X.take (i+1)=X.take i++[(x,v)]:=by rw[r9,ce];rfl
  have aG:(X.take (i+1)).foldl (mo n.k) s.zero=mo n.k I (x,v):=by rw[bD,List.foldl_append,<-aU];rfl
  have bb:(X.take (i+1)).all iB=((X.take i).all iB&&iB (x,v)):=by rw[bD,List.all_append];simp
  have bE:(x.gone≠0\/(0<=v/\v<x.un.length))-> ∀p<i+1,∀x v,s.vars[p]? =σ x->a[p]? =σ v->x.gone≠0\/(0<=v/\v<x.un.length):=λaH p af y u aB hu=>by
   by_cases cg:p=i
   .subst cg;rw[ap] at aB;rw[au] at hu;cases aB;cases hu;exact aH
   .exact a8 p Ω y u aB hu
  rw[ao,ad];refine⟨λ_=>?_,λh=>Ω⟩;refine s6 (λt4 t5 ae aT an=>Ext w an/\ ∃I:Int,ae=Δ I/\I=(X.take (i+1)).foldl (mo n.k) s.zero/\(0<=I/\I<=n.k)/\aT= .bool ((X.take (i+1)).all iB)/\ ∀p<i+1,∀x v,s.vars[p]? =σ x->a[p]? =σ v->x.gone≠0\/(0<=v/\v<x.un.length)) ?_ ?_
  .rintro t4 t5 ae aT dm bd;rw[aN];exact cc _ _ _ _ _ bd
  intro bF aJ;rw[bc ah.u ab.i Ψ (aE.ext Y) au];refine (rG (i:=(i:Int)) (h.ext Y)).mono ?_;rintro _ dn _ ⟨rfl,bG⟩;have ch:fB s i=decide (x.gone≠0):=by unfold fB;rw[ap]
  rw[decide_eq_true Ω,U7,j9,ch,ad];refine⟨λbe=>aJ _ _ _ _ _ ⟨Y.trans bG,I,rfl,?_,aW,?_,bE (.inl be)⟩,λbf=>?_⟩
  .rw[aG];unfold mo;rw[if_pos be]
  .rw[bb];unfold iB;rw[decide_eq_true be,Bool.true_or,Bool.and_true]
  have bI:=Y.trans bG;refine (A4 (i:=(i:Int)) (v:=v) (h.ext bI)).mono ?_;rintro _ dp _ ⟨rfl,ci⟩;have aX:=bI.trans ci;have bK:n.sizes.getD (i:Int).toNat 0=z:=by rw[j9,u4,ba];rfl
  by_cases aY:ez n (i:Int) v
  .have bL:=id aY;unfold ez at bL;rw[bK] at bL;rw[if_pos aY,aK (v:=Δ (mz s (i:Int).toNat v.toNat)) rfl,aK (v:=Δ 0) rfl,bB,ad];refine⟨λh=>absurd rfl h,λ_=>?_⟩;have cj:mz s (i:Int).toNat v.toNat=x.un.getD v.toNat 0:=by unfold mz;rw[j9,ap]
   have ck:0<=x.un.getD v.toNat 0/\x.un.getD v.toNat 0<=n.k:=by
    rw[u4,y0 (show v.toNat<x.un.length by omega),S1];exact cd _ (R2 _)
   rw[cj];refine aP (λcl bM=>Ext w bM/\cl= .bool ((X.take (i+1)).all iB)) ?_ ?_
   .rintro _ bM ⟨bN,rfl⟩;refine (my (h.ext bN)).mono ?_;rintro _ dq _ ⟨rfl,cm⟩;refine (A8 aW ck bx).mono ?_;rintro _ dr _ ⟨rfl,cn⟩;rw[aK (v:=Δ (min (I+x.un.getD v.toNat 0) n.k)) rfl,aK (v:=Δ 0) rfl];refine aJ _ _ _ _ _ ⟨(bN.trans cm).trans cn,_,rfl,?_,⟨Ω,Ω⟩,rfl,bE (.inr ⟨Ω,Ω⟩)⟩;rw[aG];unfold mo;rw[if_neg bf]
   .intro ds bO;rw[bH];have cp:iB (x,v)= !dropped x.mask v:=by unfold iB;rw[decide_eq_false bf,Bool.false_or]
    refine⟨λcq=>?_,λak=>bO _ _ ⟨aX,by rw[bb,ak];rfl⟩⟩;refine (uF (i:=(i:Int)) (h.ext aX)).mono ?_;rintro _ dt _ ⟨⟨b,m,rfl,cr,_,ct⟩,cu⟩;refine (KB cr).mono ?_;rintro _ du _ ⟨rfl,cw⟩;refine bO _ _ ⟨(aX.trans cu).trans cw,?_⟩;obtain⟨hm,cz⟩:=ct x Ω (by rw[j9];exact ap);rw[bb,cq,cp,U7,decide_eq_true (show 0<=v/\v<(m:Int) by omega),U7,cz,decide_eq_true Ω,U7];congr 2
  .rw[if_neg aY,aK (v:=Δ 0) rfl,aK (v:=Δ 1) rfl,bB,ad];refine⟨λ_=>⟨⟨λaz=>?_,λ_=>by trivial⟩,aX⟩,λh=>absurd (show (1:Int)≠0 by decide) h⟩;rcases az.2 i x v ap au with bh|bh
   .exact absurd bh bf
   .exact absurd ⟨Ω,Ω,bh.1,by rw[bK];omega⟩ aY
 rintro t4 t5 _ _ an cb ⟨Y,I,rfl,aU,aW,rfl,a8⟩;have az:po s a:=⟨b8,λi x v bi au=>a8 i (x4.1 au).1 x v bi au⟩;rw[Z0 Ω] at aU;rw[Z0 Ω,ao,ad];refine⟨λh=>Ω,λ_=>?_⟩;rw[bg,bH];refine⟨λav=>?_,λav=>?_⟩
 .have av:X.all iB=false:=by simpa using av
  refine (my (h.ext Y)).mono ?_;rintro _ dv _ ⟨rfl,cB⟩;refine⟨⟨λ_=>?_,λbj=>absurd az bj⟩,Y.trans cB⟩;unfold nK;rw[<-aR,av];rfl
 have av:X.all iB=true:=by simpa using av
 have cC:nK n.k s a=s.funs.foldl (kG n.k a) I:=by
  unfold nK;rw[<-aR,av,if_pos rfl,<-aU]
 obtain⟨⟨dw,dx,cD,dy,cE⟩,dz⟩:=id h;have bk:∀ {w':x2},Ext w w'->b9 w' al ag A R n s t:=λbi=>h.ext bi;obtain⟨dA,dC,L,dD,cF,dE,dF,dG,bl,bP⟩:=(cE.ext Y).parts;rw[aw,aa bz.p rfl,ac (v:=cD) Ψ (cF.cell (o:=0+3) rfl),dc dY.u bl];have dH:=bP.1;refine bC.range L.length (λj ae aL=>Ext an aL/\ ∃W:Int,ae=Δ W/\W=(s.funs.take j).foldl (kG n.k a) I/\0<=W/\W<=n.k) bl.le
  ⟨Ext.refl _,I,rfl,rfl,aW⟩ ?_ ?_
 rotate_left
 .rintro _ aL cG ⟨ax,W,rfl,aZ,_⟩;rw[Z0 Ω] at aZ;rw[ao,ad];refine⟨λh=>Ω,λ_=>⟨⟨λ_=>by rw[cC,aZ],λbj=>absurd az bj⟩,Y.trans ax⟩⟩
 rintro j _ aL cG bR ⟨ax,W,rfl,aZ,bS⟩ cH;obtain⟨y,aB⟩:∃y,L[j]? =σ y:=⟨_,y0 bR⟩;obtain⟨f,ak⟩:∃f,s.funs[j]? =σ f:=⟨_,y0 Ω⟩;have cI:iC R aL L s:=bP.V (ax.V λ_=>False) λ_ _ _ h=>h;obtain⟨a1,bm,dI⟩:=cI.2 j y f aB ak;have a1:=a1.ls;have bm:=bm.ls;obtain⟨bo,dJ,dK⟩:=am.funs f (x6 ak);have dM:f.sc.length<=6:=bo.scope.2;have aG:(s.funs.take (j+1)).foldl (kG n.k a) I=kG n.k a W f:=by
  rw[r9,ak,Z9,List.foldl_append,<-aZ];rfl
 have cJ:=Y.trans ax;have bT:=bl.ext ax;rw[ao,ad];refine⟨λ_=>?_,λh=>Ω⟩;refine aP (λae bU=>Ext an bU/\ ∃W:Int,ae=Δ W/\W=(s.funs.take (j+1)).foldl (kG n.k a) I/\0<=W/\W<=n.k) ?_ ?_
 .rintro ae bU bd;rw[aN];exact cH _ _ bd
 intro bF aJ;rw[cO rfl dY.u dl.i bT bR,bn dl.p dl.i rfl (bT.range aB)];refine bt dl.i λcK dN dO cL cM=>?_;refine bJ (vs:=kH y) dl.i rfl rfl (λu hu=>?_) cM λcN cP dP cQ=>?_
 .simp[kH] at hu;rcases hu with rfl|rfl|rfl
  .exact a1.cells.2
  .exact bm.cells.2
  .rfl
 have bV:Ext aL cN:=cL.then cP λr cR he=>by have he:r=cK:=he;omega
 have bW:=cJ.trans bV;refine (mA (j:=(j:Int)) (bk bW)).mono ?_;rintro _ cS _ ⟨rfl,bp⟩;have bX:=bW.trans bp;have bq:=bV.trans bp;have cT:dL s j=decide (f.live≠0):=by unfold dL;rw[ak]
 rw[decide_eq_true Ω,U7,j9,cT,ad];refine⟨λbY=>?_,λcU=>aJ _ _ ⟨ax.trans bq,W,rfl,by rw[aG];unfold kG;rw[if_neg cU],bS⟩⟩;have b0:=cQ.ext bp;have br:=a1.ext bq;rw[aa dl.p rfl,ac (v:=y.ay) Ψ (b0.cell (o:=0+0) rfl),aS ah.u br];refine iS (k:=.i64) ah.u ab.i Ω Ω λaM cV dQ bu cX=>?_;have cY:aq .i64 ab cV aM (.slice (σ ⟨aM,0,ν⟩) f.sc.length f.sc.length) (o6 f.sc.length 0):=aq.of (bQ.full (k:=1) (n:=f.sc.length) cX Ξ (by simp[maxLen];omega));rw[aa dl.p rfl,ac (v:=y.ay) Ψ ((b0.ext bu).cell (o:=0+0) rfl),aS ah.u (br.ext bu)];have dR:(kF a f.sc).length=f.sc.length:=by unfold kF;rw[u5]
 refine bZ.range f.sc.length (λq a2=>Ext cS a2/\aq .i64 ab a2 aM (.slice (σ ⟨aM,0,ν⟩) f.sc.length f.sc.length) ((kF a f.sc).take q++(o6 f.sc.length (0:Int)).drop q)) Ω
  ⟨bu,by simpa using cY⟩ ?_ ?_
 .rintro q a2 cZ b1 ⟨aD,aO⟩ c0;obtain⟨u,hu⟩:∃u,f.sc[q]? =σ u:=⟨_,y0 b1⟩;have dS:=bo.vars u (x6 hu);have dT:=bo.scope.1 u (x6 hu);have c1:a[u.toNat]? =σ (a.getD u.toNat 0):=by rw[u4,y0 Ω];rfl
  have c2:(kF a f.sc)[q]? =σ (a.getD u.toNat 0):=by unfold kF;rw[x8,hu];rfl
  rw[ao,ad];refine⟨λ_=>?_,λh=>Ω⟩;rw[bc ah.u ab.i Ψ (br.ext aD) hu,dZ (y:=u) (i:=u.toNat) Ω ah.u ab.i Ψ (aE.ext (bX.trans aD)) c1,ha rfl ah.u ab.i aO (by rw[r8,o7,R0,List.length_replicate];omega)];refine hb ab.i aO (by rw[r8,o7,R0,List.length_replicate];omega) λdU c3 dV b2=>?_;rw[aN];refine c0 _ ⟨aD.then c3 λr cR he=>by have he:r=aM:=he;omega,?_⟩;rw[rF (by rw[List.length_replicate];exact b1) c2] at b2;exact b2
 rintro a2 cZ ⟨aD,aO⟩;rw[List.drop_of_length_le Ξ,V4,Z0 Ω] at aO;rw[ao,ad];refine⟨λh=>Ω,λ_=>?_⟩;have b3:=bX.trans aD;refine (A7 (j:=j) (bk b3) aO.ls).mono ?_;rintro _ bw _ ⟨rfl,b4⟩;have c4:kG n.k a W f=min (W+iF s j (kF a f.sc)) n.k:=by
  unfold kG iF;rw[if_pos bY,ak]
 have b5:∀c e:Int,(0<=c/\c<=n.k)->c=iF s j (kF a f.sc)->(J x3 (Z8 (.tuple #[Δ c,Δ e]) 0) bw λc5=>
   J x3 (Z8 (.tuple #[Δ c,Δ e]) 1) bw λdW=>
   aj x3 wq [Γ al] bw λc6 b6=>
   aj x3 sy [Δ W,c5,c6] b6 λb7 a6=>
   J x3 (Z8 b7 0) a6 λc7=>
   J x3 (Z8 b7 1) a6 λdX=>
   bF c7 a6):=λc e c8 c9=>by
  rw[aK (v:=Δ c) rfl,aK (v:=Δ e) rfl];refine (my (bk (b3.trans b4))).mono ?_;rintro _ b6 _ ⟨rfl,da⟩;refine (A8 bS c8 bx).mono ?_;rintro _ a6 _ ⟨rfl,dd⟩;rw[aK (v:=Δ (min (W+c) n.k)) rfl,aK (v:=Δ 0) rfl];refine aJ _ _ ⟨((((ax.trans bq).trans aD).trans b4).trans da).trans dd,_,rfl,by rw[aG,c4,c9],Ω,Ω⟩
 cases af:en s j (kF a f.sc) with
 |some p=>exact b5 _ _ (KD am af) rfl
 |none=>
  refine b5 0 1 ⟨Ω,Ω⟩ ?_;unfold en at af;rw[ak] at af;simp only[if_pos bY] at af;have af:=Option.map_eq_none_iff.1 af;unfold iF cW;rw[ak];simp only[af]
def Room (t:aC):Prop:=t.marks=[]\/t.olds.length<100000000
def gF (s:aF) (i v:Nat):aF:=match s.vars[i]? with
 |some x=>{s with vars:=s.vars.set i {x with mask:=((x.mask.toNat ||| 2 ^ v:Nat):Int)}}
 |none=>s
def iG (s:aF) (j:Nat):aF:=match s.funs[j]? with
 |some f=>{s with funs:=s.funs.set j {f with live:=0}}
 |none=>s
theorem eN.uG {s:aF} {i:Nat} {x y:fQ} (h:eN k sizes s) (J:s.vars[i]? =σ x) (W:y.un.length=x.un.length) (X:∀c∈y.un,0<=c/\c<=k) (hm:0<=y.mask/\y.mask<4294967296):eN k sizes {s with vars:=s.vars.set i y}:=
 ⟨h.jM,h.e5,h.zero,by show (s.vars.set i y).length=_;rw[X1];exact h.vars,λp z q I U=>by
  have I:(s.vars.set i y)[p]? =σ z:=I;rw[X5] at I;by_cases V:i=p
  .subst V;rw[if_pos rfl,if_pos (x4.1 J).1] at I;cases I;exact⟨W.trans (h.var i x q J U).1,X,hm⟩
  .rw[if_neg V] at I;exact h.var p z q I U,h.funs⟩
theorem eN.Bb {s:aF} {f g:ev} (h:eN k sizes s) (J:s.funs[j]? =σ f) (h1:g.sc=f.sc) (U:g.szs=f.szs) (V:g.cs.length=f.cs.length) (W:∀c∈g.cs,0<=c/\c<=k):eN k sizes {s with funs:=s.funs.set j g}:=
 ⟨h.jM,h.e5,h.zero,h.vars,h.var,λx I=>by
  rcases V3 I with I|rfl
  .exact h.funs x I
  .obtain⟨⟨X,Y,aa,ab,ac,af⟩,ad,ae⟩:=h.funs f (x6 J);refine⟨⟨?_,?_,?_,?_,?_,W⟩,?_,?_⟩
   .show h6 x.sc;rw[h1];exact X
   .show x.sc.Pairwise _;rw[h1];exact Y
   .show ∀v∈x.sc,_;rw[h1];exact aa
   .show x.cs.length=(aL (bD sizes x.sc)).toNat;rw[h1,V];exact ab
   .show aL (bD sizes x.sc)<=_;rw[h1];exact ac
   .rw[h1,U];exact ad
   .rw[h1];exact ae⟩
theorem pC {r:Nat} (I:ae w r e c) (he:¬(e=cB\/e=dB\/e=fa\/e=dn\/e=bz\/e=dl\/e=b8)):¬dd w r:=by
 rintro (⟨W,X,J,U⟩|V)
 .rw[eu I J] at he;exact he U
 .exact V _ I rfl
section
variable {w:x2} {al ag:Nat} {A R:ai} {n:aV} {s:aF} {t:aC}
theorem iA.set (h:iA t) (I:Room t) (p:Nat) (x:Int):iA (t.set p x):=by
 refine⟨by rw[aC.Av];exact h.1,?_,by rw[aC.uh];exact h.2.2⟩;rcases I with I|I
 .rw[aC.uj I];exact h.2.1
 .have:=aC.ui t p x;omega
theorem rH {s':aF} {p:Nat} {x:Int} (h:b9 w al ag A R n s t) (ab:y=(p:Int)) (J:p<s.cells.length) (ac:s.cells.set p x=s'.cells) (I:jd s s') (ad:eN n.k n.sizes s') (ae:Room t):
  aj x3 wr [Γ ag,Δ y,Δ x] w λr w'=>r=Δ 0/\af (dd w) w w'/\ ∃V,Grow A w V w'/\b9 w' al ag V R n s' (t.set p x):=by
 obtain⟨ah,Y,aa,_,ai⟩:=id h;obtain⟨ak,am,an⟩:=ah.pp;have ao:p<t.cells.length:=by rw[<-Y] at J;unfold aC.bS at J;rw[u5] at J;exact J
 refine (pk am.min ab ao aa).mono ?_;rintro _ U _ ⟨rfl,ap,W,aq⟩;obtain⟨V,au,av⟩:=an (λr=>ak r\/ap r) U _ ⟨W.1.mono λr _ h=>h.1,λr X=>X.elim .inl λh=>(W.2.1 r h).imp (λh=>h.1) id,λr X=>.inl X⟩ (aq.mono λr h=>.inr h);exact⟨rfl,W.1.mono λr _ h=>.inl h.2,V,au,av.same I,by rw[aC.nf,Y,ac],aa.set ae p x,ad,ai⟩
theorem uH {i v:Int} (h:b9 w al ag A R n s t) (ap:Room t):aj x3 qi [Γ al,Δ i,Δ v] w λr w'=>(¬ez n i v->r=Δ 1/\Ext w w')/\
  (ez n i v->r=Δ 0/\af (dd w) w w'/\ ∃V x,Grow A w V w'/\b9 w' al ag V R n (gF s i.toNat v.toNat) (t.set (eT s i.toNat+1) x)):=by
 refine aA func13 ?_;rw[cA eW.u];simp only[j6,aQ];refine (uE h).mono ?_;rintro _ U _ ⟨rfl,W⟩;by_cases J:ez n i v
 rotate_left
 .rw[if_neg J,ao,ad];exact⟨λ_=>⟨λ_=>⟨by trivial,W⟩,λh=>absurd h J⟩,λh=>Ω⟩
 rw[if_pos J,ao,ad];refine⟨λh=>Ω,λ_=>?_⟩;obtain⟨x,I,aq,aI,aJ⟩:=J.var h.2.2.2.1;obtain⟨h1,aK,aL,aM⟩:=id J;have aO:=h.2.2.2.1.vars;obtain⟨z,au⟩:∃z,n.sizes[i.toNat]? =σ z:=⟨_,y0 Ω⟩;obtain⟨_,av,aP,aR⟩:=h.2.2.2.1.var i.toNat x z I au;have aS:=px I;have aT:=nQ h.2.1 h.2.2.1;obtain⟨aU,ax,aV,aW,ay⟩:=(h.ext W).1;obtain⟨aX,aY,L,aZ,ai,a1,az,aB,a2,a6⟩:=ay.parts;rw[aw,aa bz.p rfl,ac (v:=ax) Ψ (ai.cell (o:=0+2) rfl),dZ (y:=i) (i:=i.toNat) Ω ah.u ab.i Ψ aB.ls (pw Ω),aN,wrap_i64 Ω Ω];intro a7 X _ _;have aC:=W.trans X;have ak:=ai.ext X;have aD:=az.ext X;obtain⟨q,rfl⟩:∃q:Nat,v=q:=⟨v.toNat,Ω⟩;obtain⟨mk,am⟩:∃mk:Nat,x.mask=mk:=⟨x.mask.toNat,Ω⟩;rw[j9] at aq;rw[aw,aa bz.p rfl,ac (v:=Γ ag) Ψ (ak.cell (o:=0+1) rfl),aw,aa bz.p rfl,ac (v:=Γ ag) Ψ (ak.cell (o:=0+1) rfl),KA Ω];have aE:t.bS[eT s i.toNat+1]? =σ x.mask:=by rw[h.2.1,pm I Ω];rfl
 refine (kE (i:=eT s i.toNat+1) aD Ω aE).mono ?_;rintro _ a8 _ ⟨rfl,an⟩;refine⟨.inl an,?_⟩;have ba:(2:Nat) ^ q<=2 ^ 31:=S4 Ω Ω;rw[am,Ky Ω Ω];have Y:=aC.trans an;have bb:mk ||| 2 ^ q<2 ^ 32:=Nat.or_lt_two_pow Ω Ω;have ae:gF s i.toNat (q:Int).toNat={s with vars:=s.vars.set i.toNat {x with mask:=((mk ||| 2 ^ q:Nat):Int)}}:=by
  unfold gF;rw[I];simp only[am,j9]
 refine (rH (p:=eT s i.toNat+1) (s':=gF s i.toNat (q:Int).toNat) (h.ext Y) Ω Ω ?_ ?_ ?_ ap).mono ?_
 .rw[ae,ud I Ω];rfl
 .rw[ae];exact pq I rfl
 .rw[ae];exact h.2.2.2.1.uG I rfl av ⟨by simp only;omega,by simp only;omega⟩
 rintro _ bc _ ⟨rfl,aF,V,aG,aH⟩;exact⟨λh=>absurd J h,λ_=>⟨rfl,jO Y aF,V,_,(Grow.ext Y).trans aG,aH⟩⟩
theorem Bc {j:Int} (h:b9 w al ag A R n s t) (ak:Room t):aj x3 wj [Γ al,Δ j] w λr w'=>(¬(0<=j/\dL s j.toNat=true)->r=Δ 1/\Ext w w')/\
  ((0<=j/\dL s j.toNat=true)->r=Δ 0/\af (dd w) w w'/\ ∃W p,Grow A w W w'/\b9 w' al ag W R n (iG s j.toNat) (t.set p 0)):=by
 refine aA func20 ?_;rw[cA eW.u];simp only[j6,aQ];refine (mA h).mono ?_;rintro _ U _ ⟨rfl,ad⟩;rw[bg,bH];refine⟨λJ=>⟨λ_=>⟨by trivial,ad⟩,λaH=>?_⟩,λJ=>?_⟩
 .rw[decide_eq_true aH.1,aH.2] at J;cases J
 have J:0<=j/\dL s j.toNat=true:=by simpa using J
 obtain⟨az,V⟩:=id J;obtain⟨f,I,aB⟩:∃f,s.funs[j.toNat]? =σ f/\f.live≠0:=by
  unfold dL at V;cases I:s.funs[j.toNat]? with
  |none=>rw[I] at V;cases V
  |some f=>rw[I] at V;exact⟨f,rfl,by simpa using V⟩
 intro aC am _ _;have X:=ad.trans am;obtain⟨aD,aE,an,aF,ao⟩:=(h.ext X).1;obtain⟨aG,aI,L,aJ,ae,aK,aL,aM,ah,ai⟩:=ao.parts;obtain⟨y,Y⟩:∃y,L[j.toNat]? =σ y:=⟨_,y0 (by rw[ai.1];exact (x4.1 I).1)⟩;have ap:=(x4.1 Y).1;obtain⟨_,_,aq⟩:=ai.2 j.toNat y f Y I;have aN:=uC I;rw[aw,aa bz.p rfl,ac (v:=Γ ag) Ψ (ae.cell (o:=0+1) rfl),aw,aa bz.p rfl,ac (v:=an) Ψ (ae.cell (o:=0+3) rfl),cO (i:=j.toNat) Ω dY.u dl.i ah ap,aa dl.p rfl,ac (v:=Δ (y.at_:Int)) Ψ (ah.range Y 2 _ rfl)];have ab:iG s j.toNat={s with funs:=s.funs.set j.toNat {f with live:=0}}:=by
  unfold iG;rw[I]
 obtain⟨au,_⟩:=h.2.2.2.1.funs f (x6 I);refine (rH (p:=dT s j.toNat+0) (s':=iG s j.toNat) (h.ext X) (by rw[aq];rfl) Ω ?_ ?_ ?_ ak).mono ?_
 .rw[ab,Aq I Ω];rfl
 .rw[ab];exact ug I rfl rfl rfl
 .rw[ab];exact h.2.2.2.1.Bb I rfl rfl rfl au.h7
 rintro _ aO _ ⟨rfl,av,W,ax,ay⟩;exact⟨λh=>absurd J h,λ_=>⟨rfl,jO X av,W,_,(Grow.ext X).trans ax,ay⟩⟩
end
theorem Bd {W:x1} {v:Int} (h:aI .i64 w W l):aj x3 CI [W,Δ v] w λr w'=>r= .bool (decide (v∈l))/\Ext w w':=by
 refine aA func32 ?_;rw[aS ah.u h];refine bC.range l.length (λi _ U=>Ext w U/\v∉l.take i) h.le ⟨Ext.refl _,Ξ⟩ ?_ ?_
 .rintro i _ U k hi ⟨I,J⟩ X;obtain⟨x,V⟩:∃x,l[i]? =σ x:=⟨_,y0 hi⟩;rw[ao,ad];refine⟨λ_=>?_,λh=>Ω⟩;rw[bc ah.u ab.i Ψ (h.ext I) V,bi,ad];refine⟨λhe=>⟨by rw[decide_eq_true];rw[<-he];exact x6 V,I⟩,λY=>?_⟩;rw[aN];refine X _ _ ⟨I,λhm=>?_⟩;rw[r9,V,Z9,n9,l9] at hm;rcases hm with hm|hm
  .exact J hm
  .exact Y hm.symm
 .rintro _ U k ⟨I,J⟩;rw[o9] at J;rw[ao,ad];exact⟨λh=>Ω,λ_=>⟨by rw[decide_eq_false J],I⟩⟩
theorem fi.put {g aa:Nat} {n:aV} (h:fi w aa n) (I:ae w g aE c) (J:af (λr=>r=g) w w'):fi w' aa n:=by
 have W:=A0 I;have ac:∀r,r=g-> ∃e c,ae w r e c/\e≠gX/\e≠cQ/\e≠ab/\e≠an/\e≠ax:=λr U=>by
  subst U;exact⟨_,c,I,Φ,Φ,Φ,Φ,Φ⟩
 obtain⟨ad,ag,ah,ai,aj,aT,L,ak,au,al,am,h1,ao,ap,aq,av,aw,ay⟩:=h;refine⟨ad,ag,ah,ai,aj,aT,L,ak,au,al,am,uA h1 J W Φ,uA ao J W Φ,uz ap J W Φ,aq.V J λr U=>?_,av,aw.V J λr U=>?_,ay⟩
 .obtain⟨e,c,I,_,_,_,X,Y⟩:=ac r U;exact⟨e,c,I,X,Y⟩
 .obtain⟨e,c,I,X,Y,az,aA,_⟩:=ac r U;exact⟨e,c,I,X,Y,az,aA⟩
theorem KE:∃o:Obj,fW o=false:=⟨.deferred ν,rfl⟩
theorem StateM.put {g:Nat} {A R:ai} {n:aV} {s:aF} {t:aC} (h:StateM w al ag A R n s t) (X:ae w g aE c) (U:af (λr=>r=g) w w') (aq:¬A g):∃R',(∀r,R' r->R r/\r≠g)/\StateM w' al ag A R' n s t:=by
 obtain⟨au,av,aw,ax,⟨h1,ay,az,aA⟩,aB,aD,ge,L,E,aG,w0,aH,⟨aj,aa,aI⟩,⟨aJ,ak,aK,aL⟩,aM,⟨aN,am⟩,aO,an⟩:=h;obtain⟨ds,ao⟩:=KE;have z:=U.size;have W:=A0 X;have Y:∀r,(w0.heap.setIfInBounds g ds)[r]? =if g=r then (if g<w0.heap.size then σ ds else ν) else w0.heap[r]?:=λr=>Array.getElem?_setIfInBounds;have aP:∀r,A r->r≠g:=λr J he=>aq (he▸J);have int:∀ {v:x1} {l:List Int},hN R w v l->hN (λr=>R r/\r≠g) w' v l:=λ⟨⟨aQ,hm⟩,aR⟩=>⟨⟨aQ,uz hm U W Φ⟩,λr J=>⟨aR r J,bU hm X Φ J⟩⟩;refine⟨λr=>R r/\r≠g,λr h=>h,au,av,aw,ax,⟨h1,λr J aS=>ay r J aS.1,λr J=>by have:=az r J.1;omega,λr J=>by have:=aA r J;omega⟩,aB,aD,ge,L,E,aG,{w0 with heap:=w0.heap.setIfInBounds g ds},uA aH U W Φ,⟨?_,?_,?_⟩,
  ⟨aJ.V U λr J=>aP r (ak r J),ak,aK,aL⟩,uz aM U W Φ,⟨AZ aN U W Φ,am.1,λj x f ab aT=>?_⟩,AZ aO U W Φ,an.1,λj x e ab he=>?_⟩
 .by_cases I:∃o,w0.heap[g]? =σ o/\fW o=true
  .obtain⟨o,ap,aU⟩:=I;have aW:ae w0 g aE c:=by
    unfold ae at X ⊢;have:=aa.a7 g o ap aU;rw[X] at this;rw[ap,this]
   refine aj.put aW ⟨Ξ,λr o J I aX=>?_⟩;show (w0.heap.setIfInBounds g ds)[r]? =σ o;rw[Y,if_neg λhe=>aX he.symm];exact J
  .refine aj.ext ⟨Ξ,λr o J aY=>?_⟩;show (w0.heap.setIfInBounds g ds)[r]? =σ o;rw[Y,if_neg λhe=>I ⟨o,by rw[he];exact J,aY⟩];exact J
 .refine⟨by show (w0.heap.setIfInBounds g ds).size<=_;rw[Array.size_setIfInBounds];exact X0 aa.size z,λr o J I=>?_⟩;have J:(w0.heap.setIfInBounds g ds)[r]? =σ o:=J;rw[Y] at J;by_cases he:g=r
  .rw[if_pos he] at J;split at J
   .cases J;rw[ao] at I;cases I
   .cases J
  .rw[if_neg he] at J;exact U.a7 r o (aa.a7 r o J I) I λh=>he h.symm
 .intro r o J I;have J:(w0.heap.setIfInBounds g ds)[r]? =σ o:=J;rw[Y] at J;by_cases he:g=r
  .rw[if_pos he] at J;split at J
   .cases J;rw[ao] at I;cases I
   .cases J
  .rw[if_neg he] at J;exact⟨aI r o J I,λh=>he h.symm⟩
 .obtain⟨ac,ad,ah⟩:=am.2 j x f ab aT;exact⟨int ac,int ad,ah⟩
 .obtain⟨ac,ad,ah⟩:=an.2 j x e ab he;exact⟨ac,int ad,int ah⟩
theorem KF {pl:List Int} {f:bY} (W:pl.length<=60000) (h:fK pl=σ f):∃N,N<=60000/\eL N f/\f.name≠[]/\ ∀b∈f.name,bF b=true:=by
 unfold fK at h;rw[if_neg Ω] at h;cases I:gL ⟨(lex pl).1,0,false,[]⟩ with
 |none=>rw[I] at h;cases h
 |some q=>
  obtain⟨X,s⟩:=q;rw[I] at h;simp only at h;split at h
  .rename_i aH;cases h;obtain⟨h1,J⟩:=yy rfl I aH.2.2;have Y:=oy pl.length pl (o8 _);obtain⟨U,V,_⟩:=qE pl.length pl (o8 _) f.name J;exact⟨_,by show (lex pl).1.length<=60000;omega,h1,U,V⟩
  .cases h
theorem KG:aj x3 wn [.pointer ν] w λv w'=>v= .pointer ν/\Ext w w':=by
 refine aA func48 ?_;rw[cA k3.u];simp only[Option.isNone_none,bO];exact⟨by trivial,Ext.refl _⟩
theorem KH (h:aI .u8 w v l) (ae:l.length<=100000):aj x3 CW [v] w λJ w'=>Ext w w'/\ ∃g,aq .u8 cr w' g J l:=by
 have I:=h;obtain⟨af,b,o,base,cap,rfl,ag,hm,X,Y⟩:=h;refine aA func66 ?_;rw[qx cw.u,bH];refine⟨λaa=>⟨Ext.refl _,0,?_⟩,λ_=>?_⟩
 .have:l=[]:=by
   cases base with
   |none=>
        by_cases I:0<l.length
        .have:=X I;cases this
        .exact Z2 Ω
   |some a=>cases aa
  subst this;exact aq.nil _ _ _ _
 .refine uB (k:=.u8) cw.u cr.i λah ai U ak V W=>?_;refine fz cw.u cr.i rfl W (I.ext V) Θ Θ λJ ab al ac am ad=>?_;exact⟨V.then ad (λr Y he=>by have:=(bA W he).1;omega),ab,by simpa using ac⟩
def KI (sv:x1):Prop:=∃cs:List x1,sv= .agg cs.toArray/\cs.length=8/\ ∀u∈cs,u.oneCell'=true
theorem Be:KI (.agg z12.toArray):=⟨z12,rfl,rfl,by intro u hu;simp[z12] at hu;rcases hu with rfl|rfl|rfl|rfl <;> rfl⟩
theorem uI {f:bY} (I:eL N f):(cC f).funs.length<=256:=by
 have h1:=(o3 I).2.length_eq;have U:=(jJ I).2.2;have V:=List.length_filter_le e0 (eR f);have W:=I.jD;have J:=(nI f (e1 f).length).2.2.2;rw[rz] at J;omega
theorem KJ {n:aV} {t:aC} (J:iy n) (U:n.funs.length<=256) (V:t.bS=(dU n).cells) (I:Plain t):iA t:=by
 have h1:=rD J U n.unary.length n.funs.length;rw[ul,<-V] at h1;unfold aC.bS at h1;rw[u5] at h1;refine⟨Ω,?_,?_⟩
 .rw[I.2.1];exact Y9 _
 .rw[I.1];exact Y9 _
def mB (n:aV) (s:aF) (l:List Int) (i:Nat):Prop:=∃v,l[i]? =σ v/\0<=v/\v<n.sizes.length/\fB s v.toNat=false/\(0<i->l.getD (i-1) 0<v)
def jT (n:aV) (s:aF) (l:List Int):Prop:=∀i,i<l.length->mB n s l i
section
variable {w:x2} {al ag:Nat} {A R:ai} {n:aV} {s:aF} {t:aC}
theorem Bf {am:x1} (h:b9 w al ag A R n s t) (W:aI .i64 w am l):aj x3 Dr [Γ al,am] w λv w'=>(∃b,v= .bool b/\(b=true↔jT n s l))/\Ext w w':=by
 refine aA func138 ?_;rw[aS ah.u W];refine bC.range l.length (λi _ U=>Ext w U/\ ∀q,q<i->mB n s l q) W.le ⟨Ext.refl _,λq aw=>Ω⟩ ?_ ?_
 .rintro i _ U ax hi ⟨X,ai⟩ ay;obtain⟨x,Y⟩:∃x,l[i]? =σ x:=⟨_,y0 hi⟩;rw[ao,ad];refine⟨λ_=>?_,λh=>Ω⟩;rw[bc ah.u ab.i Ψ (W.ext X) Y];have an:∀ {p:Prop},(¬(0<=x/\x<n.sizes.length/\fB s x.toNat=false/\(0<i->l.getD (i-1) 0<x)))->mB n s l i->p:=λaz ⟨v,aa,V⟩=>by
   rw[Y] at aa;cases aa;exact absurd V az
  refine aP (λv ap=>∃b,v= .bool b/\(b=false↔mB n s l i)/\Ext w ap) ?_ ?_
  .rintro _ ap ⟨b,rfl,J,aq⟩;rw[bH];refine⟨λaB=>⟨⟨false,rfl,⟨(λh=>by cases h),λh=>?_⟩⟩,aq⟩,λaC=>?_⟩
   .have:=J.2 (h i hi);rw[aB] at this;cases this
   .rw[aN];refine ay _ _ ⟨aq,λq aw=>?_⟩;by_cases aD:q=i
    .rw[aD];exact J.1 aC
    .exact ai q Ω
  intro aJ ae;refine (py (h.ext X)).mono ?_;rintro _ aK _ ⟨rfl,aE⟩;have ak:=X.trans aE;rw[bg,bH];refine⟨λJ=>ae _ _ ⟨true,rfl,⟨(λh=>by cases h),λh=>?_⟩,ak⟩,λJ=>?_⟩
  .exact an (λV=>by rw[decide_eq_true ⟨V.1,V.2.1⟩] at J;cases J) h
  have J:0<=x/\x<n.sizes.length:=by simpa using J
  refine (rG (h.ext ak)).mono ?_;rintro _ aL _ ⟨rfl,aF⟩;have af:=ak.trans aF;rw[decide_eq_true J.1,U7,bH];refine⟨λac=>ae _ _ ⟨true,rfl,⟨(λh=>by cases h),λh=>?_⟩,af⟩,λac=>?_⟩
  .exact an (λV=>by rw[V.2.2.1] at ac;cases ac) h
  rw[bP,ad];refine⟨λaM=>?_,λaO=>ae _ _ ⟨false,rfl,⟨λ_=>⟨x,Y,J.1,J.2,ac,λh=>Ω⟩,λ_=>rfl⟩,af⟩⟩;obtain⟨y,au⟩:∃y,l[i-1]? =σ y:=⟨_,y0 Ω⟩;have av:l.getD (i-1) 0=y:=by rw[u4,au];rfl
  have aQ:=W.le;rw[cX,wrap_i64 Ω Ω,dZ (y:=(i:Int)-1) (i:=i-1) Ω ah.u ab.i Ψ (W.ext af) au,cb];refine ae _ _ ⟨_,rfl,⟨λaG=>⟨x,Y,J.1,J.2,ac,λ_=>?_⟩,λI=>?_⟩,af⟩
  .have:=of_decide_eq_false aG;rw[av];omega
  .obtain⟨v,aa,_,_,_,aH⟩:=I;rw[Y] at aa;cases aa;have:=aH Ω;rw[av] at this;rw[decide_eq_false];omega
 .rintro _ U ax ⟨X,ai⟩;rw[ao,ad];exact⟨λh=>Ω,λ_=>⟨⟨true,rfl,⟨λ_=>ai,λ_=>rfl⟩⟩,X⟩⟩
def Bg (s:aF) (l:List Int) (r:Int):Prop:=(r= -1/\ ∀f∈s.funs,¬(f.live≠0/\f.sc=l))\/ ∃ (j:Nat) (f:ev),r=j/\s.funs[j]? =σ f/\f.live≠0/\f.sc=l/\ ∀ (q:Nat) g,q<j->s.funs[q]? =σ g->¬(g.live≠0/\g.sc=l)
theorem KK {am:x1} (h:b9 w al ag A R n s t) (au:aI .i64 w am l):aj x3 CV [Γ al,am] w λv w'=>(∃r:Int,v=Δ r/\Bg s l r)/\Ext w w':=by
 have aW:=nQ h.2.1 h.2.2.1;refine aA func65 ?_;refine (pz h).mono ?_;rintro _ U _ ⟨rfl,av⟩;have ax:s.funs.length<=9223372036854775807:=by
  obtain⟨az,aB,an,aC,aD,aE,L,aF,I,aG,aJ,aK,W,V⟩:=h.1.parts;have:=W.le;rw[V.1] at this;omega
 refine bC.range s.funs.length (λj _ ah=>Ext w ah/\ ∀ (q:Nat) g,q<j->s.funs[q]? =σ g->¬(g.live≠0/\g.sc=l)) ax ⟨av,λq g X=>Ω⟩ ?_ ?_
 rotate_left
 .rintro _ ah aL ⟨Y,ab⟩;rw[ao,ad];refine⟨λh=>Ω,λ_=>⟨⟨-1,rfl,.inl ⟨rfl,λf J=>?_⟩⟩,Y⟩⟩;obtain⟨q,X,rfl⟩:=List.mem_iff_getElem.1 J;exact ab q _ X (y0 X)
 rintro j _ ah aL aM ⟨Y,ab⟩ aO;obtain⟨f,J⟩:∃f,s.funs[j]? =σ f:=⟨_,y0 aM⟩;rw[ao,ad];refine⟨λ_=>?_,λh=>Ω⟩;refine aP (λv ai=>v= .bool (decide (f.live≠0)&&decide (f.sc=l))/\Ext w ai) ?_ ?_
 .rintro _ ai ⟨rfl,ae⟩;rw[bH];refine⟨λI=>⟨⟨(j:Int),rfl,.inr ⟨j,f,rfl,J,?_⟩⟩,ae⟩,λI=>?_⟩
  .rw[U1,decide_eq_true_eq,decide_eq_true_eq] at I;exact⟨I.1,I.2,ab⟩
  .rw[aN];refine aO _ _ ⟨ae,λq g X ak=>?_⟩;by_cases aQ:q=j
   .subst aQ;rw[J] at ak;cases ak;intro aH;rw[decide_eq_true aH.1,decide_eq_true aH.2] at I;cases I
   .exact ab q g Ω ak
 intro aX ap;refine (mA (j:=(j:Int)) (h.ext Y)).mono ?_;rintro _ ai _ ⟨rfl,ae⟩;have af:=Y.trans ae;have aR:dL s ((j:Int)).toNat=decide (f.live≠0):=by
  unfold dL;rw[j9,J]
 rw[decide_eq_true (Int.natCast_nonneg j),U7,aR,ad];refine⟨λaS=>?_,λaT=>ap _ _ ⟨by rw[decide_eq_false aT];rfl,af⟩⟩;obtain⟨az,aB,an,aC,aD,aE,L,aF,I,aG,aJ,aK,W,V⟩:=(h.ext af).1.parts;obtain⟨y,aq⟩:∃y,L[j]? =σ y:=⟨_,y0 (by rw[V.1];omega)⟩;obtain⟨aU,_,_⟩:=V.2 j y f aq J;rw[aw,aa bz.p rfl,ac (v:=an) Ψ (I.cell (o:=0+3) rfl),cO rfl dY.u dl.i W (by rw[V.1];omega),aa dl.p rfl,ac (v:=y.ay) Ψ (W.range aq 0 _ rfl)];refine (kr aU.ls (au.ext af)).mono ?_;rintro _ aY _ ⟨rfl,aV⟩;exact ap _ _ ⟨by rw[decide_eq_true aS,U7],af.trans aV⟩
end
section
variable {w:x2} {B:Nat} {sv:x1} {k:Int} {sizes:List Int} {s:aF}
end
def gT (s:aF) (i v:Nat) (c:Int):aF:=match s.vars[i]? with
 |some x=>{s with vars:=s.vars.set i {x with un:=x.un.set v c}}
 |none=>s
def gn (s:aF) (j m:Nat) (c:Int):aF:=match s.funs[j]? with
 |some f=>{s with funs:=s.funs.set j {f with cs:=f.cs.set m c}}
 |none=>s
theorem Bh {i:Nat} {c:Int} (h:∀x∈l,0<=x/\x<=k) (J:0<=c/\c<=k):∀x∈l.set i c,0<=x/\x<=k:=λx I=>by
 rcases V3 I with I|rfl
 .exact h x I
 .exact J
def kK (w:x2) (al ag:Nat) (A R:ai) (n:aV) (s':aF) (t:aC) (v:x1) (w':x2):Prop:=v=Δ 0/\af (dd w) w w'/\ ∃I p x,Grow A w I w'/\b9 w' al ag I R n s' (t.set p x)
theorem kK.ext {U:x2} {A R:ai} {n:aV} {s':aF} {t:aC} (I:Ext w U) (h:kK U al ag A R n s' t v w'):kK w al ag A R n s' t v w':=by
 obtain⟨h1,J,V,p,x,W,X⟩:=h;exact⟨h1,jO I J,V,p,x,(Grow.ext I).trans W,X⟩
section
variable {w:x2} {al ag:Nat} {A R:ai} {n:aV} {s:aF} {t:aC}
theorem nR {c:Int} (h:b9 w al ag A R n s t) (J:y<0\/¬(0<=c/\c<=n.k)):aj x3 wG [Γ al,Δ y,Δ c] w λv w'=>v=Δ (if y<0 then 1 else 3)/\Ext w w':=by
 refine aA func143 ?_;rw[cA eW.u];simp only[j6,aQ];rw[ao,ad];refine⟨λI=>⟨by rw[if_pos I],Ext.refl _⟩,λI=>?_⟩;refine (my h).mono ?_;rintro _ U _ ⟨rfl,V⟩;refine (kq (a:=c) (k:=n.k)).mono ?_;rintro _ Y _ ⟨rfl,W⟩;have X:=J.resolve_left I;rw[decide_eq_false (λh=>X h.2),bg,X4,bO,if_neg I];exact⟨rfl,V.trans W⟩
theorem uJ {s':aF} {p:Nat} {c:Int} (h:b9 w al ag A R n s t) (V:Room t) (W:y=(p:Int)) (X:p<s.cells.length) (Y:s.cells.set p c=s'.cells) (I:jd s s') (ab:eN n.k n.sizes s') (ae:0<=c/\c<=n.k):
  aj x3 wG [Γ al,Δ y,Δ c] w (kK w al ag A R n s' t):=by
 refine aA func143 ?_;rw[cA eW.u];simp only[j6,aQ];rw[ao,ad];refine⟨λh=>Ω,λ_=>?_⟩;refine (my h).mono ?_;rintro _ U _ ⟨rfl,af⟩;refine (kq (a:=c) (k:=n.k)).mono ?_;rintro _ aq _ ⟨rfl,ah⟩;have J:=af.trans ah;rw[decide_eq_true (show cL c n.k from⟨h.2.2.2.1.jM,ae⟩),bg,Y1,aQ];obtain⟨au,av,ax,ay,az,aB,L,aC,ai,aD,aE,aG,aH,aI⟩:=(h.ext J).1.parts;rw[aw,aa bz.p rfl,ac (v:=Γ ag) Ψ (ai.cell (o:=0+1) rfl)];refine (rH (h.ext J) W X Y I ab V).mono ?_;rintro _ aJ _ ⟨rfl,ak,am,an,ap⟩;exact kK.ext J ⟨rfl,ak,am,_,_,an,ap⟩
theorem Bi {c:Int} (h:b9 w al ag A R n s t) (J:Room t):aj x3 wo [Γ al,Δ c] w λv w'=>(¬(0<=c/\c<=n.k)->v=Δ 3/\Ext w w')/\((0<=c/\c<=n.k)->kK w al ag A R n {s with zero:=c} t v w'):=by
 refine aA func55 ?_;by_cases I:0<=c/\c<=n.k
 .refine (uJ (p:=0) h J rfl (by unfold aF.cells hl;simp) (JI s c) (uf s c) ⟨h.2.2.2.1.jM,h.2.2.2.1.e5,I,h.2.2.2.1.vars,h.2.2.2.1.var,h.2.2.2.1.funs⟩ I).mono ?_;rintro v U _ V;exact⟨λh=>absurd I h,λ_=>V⟩
 .refine (nR h (.inr I)).mono ?_;rintro v U _ ⟨rfl,W⟩;exact⟨λ_=>⟨rfl,W⟩,λh=>absurd h I⟩
theorem uK {i v c:Int} (h:b9 w al ag A R n s t) (ab:Room t):aj x3 ql [Γ al,Δ i,Δ v,Δ c] w λr w'=>
  (¬ez n i v->r=Δ 1/\Ext w w')/\(ez n i v->¬(0<=c/\c<=n.k)->r=Δ 3/\Ext w w')/\(ez n i v->(0<=c/\c<=n.k)->kK w al ag A R n (gT s i.toNat v.toNat c) t r w'):=by
 refine aA func56 ?_;refine (uE h).mono ?_;rintro _ U _ ⟨rfl,J⟩;by_cases I:ez n i v
 .rw[if_pos I];by_cases W:0<=c/\c<=n.k
  .obtain⟨x,V,af,ah,_⟩:=I.var h.2.2.2.1;have ai:=h.2.2.2.1.vars;obtain⟨z,ac⟩:∃z,n.sizes[i.toNat]? =σ z:=⟨_,y0 (by have:=I.1;have:=I.2.1;omega)⟩;obtain⟨_,ad,hm⟩:=h.2.2.2.1.var i.toNat x z V ac;have ak:=px V;have X:gT s i.toNat v.toNat c={s with vars:=s.vars.set i.toNat {x with un:=x.un.set v.toNat c}}:=by unfold gT;rw[V]
   refine (uJ (p:=eT s i.toNat+(2+v.toNat)) (s':=gT s i.toNat v.toNat c) (h.ext J) ab Ω Ω ?_ ?_ ?_ W).mono ?_
   .rw[X];refine ud V Ω ?_;rw[show 2+v.toNat=v.toNat+1+1 by omega];rfl
   .rw[X];exact pq V Ξ
   .rw[X];exact h.2.2.2.1.uG V Ξ (Bh ad W) hm
   .rintro r aa _ ae;exact⟨λh=>absurd I h,λ_ h=>absurd W h,λ_ _=>ae.ext J⟩
  .refine (nR (h.ext J) (.inr W)).mono ?_;rintro r aa _ ⟨rfl,Y⟩;rw[if_neg Ω];exact⟨λh=>absurd I h,λ_ _=>⟨rfl,J.trans Y⟩,λ_ h=>absurd h W⟩
 .rw[if_neg I];refine (nR (h.ext J) (.inl Ω)).mono ?_;rintro r aa _ ⟨rfl,Y⟩;rw[if_pos Ω];exact⟨λ_=>⟨rfl,J.trans Y⟩,λh=>absurd h I,λh=>absurd h I⟩
theorem uL {J:List Int} {c:Int} (h:b9 w al ag A R n s t) (ad:Room t) (ae:aI .i64 w aD J):aj x3 oi [Γ al,Δ (j:Int),aD,Δ c] w λr w'=>
  (en s j J=ν->r=Δ 1/\Ext w w')/\((en s j J).isSome=true->¬(0<=c/\c<=n.k)->r=Δ 3/\Ext w w')/\
  ((en s j J).isSome=true->(0<=c/\c<=n.k)-> ∀f (m:Nat),s.funs[j]? =σ f->cq f.szs J 0=σ (m:Int)->kK w al ag A R n (gn s j m c) t r w'):=by
 refine aA func57 ?_;refine (A6 h ae).mono ?_;rintro _ U _ ⟨rfl,V⟩;cases af:en s j J with
 |none=>
  simp only;refine (nR (h.ext V) (.inl Ω)).mono ?_;rintro r aa _ ⟨rfl,X⟩;rw[if_pos Ω];exact⟨λ_=>⟨rfl,V.trans X⟩,λh=>by simp at h,λh=>by simp at h⟩
 |some p=>
  simp only;by_cases W:0<=c/\c<=n.k
  .obtain⟨am,f,I,an,m,hm,ao,rfl⟩:=pB h.2.2.2.1 af;have ap:=uC I;have Y:gn s j m c={s with funs:=s.funs.set j {f with cs:=f.cs.set m c}}:=by unfold gn;rw[I]
   obtain⟨ah,_⟩:=h.2.2.2.1.funs f (x6 I);refine (uJ (p:=dT s j+(m+1)) (s':=gn s j m c) (h.ext V) ad rfl Ω ?_ ?_ ?_ W).mono ?_
   .rw[Y];exact Aq I Ω rfl
   .rw[Y];exact ug I Ξ rfl rfl
   .rw[Y];exact h.2.2.2.1.Bb I rfl rfl Ξ (Bh ah.h7 W)
   .rintro r aa _ ai;refine⟨(λh=>by cases h),λ_ h=>absurd W h,λ_ _ aq ak ab ac=>?_⟩;rw[I] at ab;cases ab;rw[hm] at ac;have:ak=m:=by have:=Z6 ac;omega
    subst this;exact ai.ext V
  .refine (nR (h.ext V) (.inr W)).mono ?_;rintro r aa _ ⟨rfl,X⟩;rw[if_neg Ω];exact⟨(λh=>by cases h),λ_ _=>⟨rfl,V.trans X⟩,λ_ h=>absurd h W⟩
end
end Go.Proofs.YtgbkinibgjmodaaGreatDoor
namespace Go.Vc
open Go Go.RowKit
section
variable {P:W5} {w:x2} {α:Type} [ak α] {S R:ai}
theorem Bj {k:Nat} {vs:List (List x1)} {i:Nat} (h:∀x∈vs,x.length=k) (I:c.length=k) (hi:i<vs.length):over vs.flatten (i*k) c=(vs.set i c).flatten:=by
 have:=tx (f:=id) (k:=k) (L:=vs) (i:=i) (a:=c) h I hi;rw[List.flatMap_id,List.flatMap_id] at this;exact this
theorem KL {l:List α} {i:Nat} (h:bf S R w [v] l) (aw:i<l.length):∃g cap full W,v= .slice (σ ⟨g,0,ν⟩) l.length cap/\ae w g W full/\S g/\i*ak.n α+ak.n α<=full.length/\
  ∀ {A:ai} {cs:List x1} {a:α},bf A R w cs a->(∀r,r<w.heap.size->S r->¬A r/\¬R r)-> ∀w',af (λr=>r=g) w w'->ae w' g W (over full (i*ak.n α) cs)->bf (λr=>S r\/A r) R w' [v] (l.set i a):=by
 obtain⟨vs,g,F,X,he,I,hm⟩:=fZ h;obtain⟨ax,W,ay⟩:=hm rfl;obtain⟨aG,⟨rfl,aH⟩|⟨cap,full,rfl,ag,aj,az,al,aA⟩⟩:=id ay
 .omega
 have am:vs.length=l.length:=he.1;have aB:(i+1)*ak.n α<=l.length*ak.n α:=X3 _ aw;have aC:l.length*ak.n α<=full.length:=by rw[al];exact X3 _ aj
 rw[U2,Nat.one_mul] at aB;have aa:S g:=ax.resolve_left Ξ;refine⟨g,cap,full,W,rfl,ag,aa,Ω,λ{A cs a} an ab w' ao aD=>?_⟩;have ap:=ak.len an;have aq:¬A g:=(ab g ag.lt aa).1;have au:¬R g:=(ab g ag.lt aa).2;have aE:∀c∈vs.set i cs,c.length=ak.n α:=λc Y=>by
  rcases V3 Y with J|rfl
  .exact he.len c J
  .exact ap
 have av:bQ w' g W (ak.n α) (.slice (σ ⟨g,0,ν⟩) l.length cap) (l.set i a).length (vs.set i cs).flatten:=by
  refine⟨by rw[ov aE,X1,X1,am],.inr ⟨cap,_,by rw[X1],aD,by rw[X1];exact aj,az,by rw[km,al],?_⟩⟩;rw[X1,q4 Ω aC,aA,Bj he.len ap Ω]
 refine⟨_,rfl,vs.set i cs,g,λj r=>if j=i then A r/\r<w.heap.size else F j r/\r<w.heap.size,⟨λj r U=>?_,λ_ j U=>?_,λ_ j q r aF h1 J=>?_⟩,⟨by simp[am],λj c a' Y ac=>?_⟩,?_,λ_=>⟨.inr (.inl aa),W,av⟩⟩
 .split at U
  .exact .inr U.1
  .exact .inl (X.sub j r U.1)
 .split at U
  .exact aq U.1
  .exact X.top rfl j U.1
 .split at h1 <;> split at J
  .omega
  .exact (ab r J.2 (X.sub q r J.1)).1 h1.1
  .exact (ab r h1.2 (X.sub j r h1.1)).1 J.1
  .exact X.gJ rfl j q r aF h1.1 J.1
 .by_cases ad:j=i
  .subst ad;rw[V5 Ω] at Y ac;cases Y;cases ac;have ah:bf (λr=>if j=j then A r/\r<w.heap.size else F j r/\r<w.heap.size) R w cs a:=ak.mono an (λr U h=>by rw[if_pos rfl];exact⟨h,U⟩) λ_ _ h=>h;refine ak.V ah ao λr U h1 J=>?_;have J:r=g:=J;subst J;rcases h1 with h1|h1
   .simp only[if_true] at h1;exact aq h1.1
   .exact au h1
  .rw[W6 (T7 ad)] at Y ac;have ah:bf (λr=>if j=i then A r/\r<w.heap.size else F j r/\r<w.heap.size) R w c a':=ak.mono (he.2 j c a' Y ac) (λr U h=>by rw[if_neg ad];exact⟨h,U⟩) λ_ _ h=>h;refine ak.V ah ao λr U h1 J=>?_;have J:r=g:=J;subst J;rcases h1 with h1|h1
   .simp only[if_neg ad] at h1;exact X.top rfl j h1.1
   .exact au h1
 .have:=lX (S:=λr=>(S r\/A r)\/R r) av (.inr (.inl (.inl aa)));exact this
theorem uM {Y:o5} {i b:Nat} {x:x1} {l:List α} {a:α} {A:ai} {K:Unit->x2->Prop} (U:ak.n α=1) (aa:y=(i:Int)) (ab:P.underlying t=σ (.slice e)) (hi:aM P e 1 b z)
  (h:bf S R w [v] l) (V:i<l.length) (ac:x.cells= #[x]) (W:bf A R w [x] a) (ad:∀r,r<w.heap.size->S r->¬A r/\¬R r)
  (ae:∀w',af S w w'->bf (λr=>S r\/A r) R w' [v] (l.set i a)->K () w'):J P (n0 t v (.int Y y)) w λp=>az P (o4 e p x) w K:=by
 subst aa;obtain⟨g,cap,full,an,rfl,ag,ah,aj,al⟩:=KL h V;rw[U] at aj;rw[fc ab hi V λ_=>rfl];refine bj (o:=0+i*1) hi ac (ak.one W x (.head _)) ag Ω λw' X _ am=>ae w' (X.mono λr _ I=>by have I:r=g:=I;subst I;exact ah) (al W ad w' X ?_);rw[U,V1] at*;exact am
end
end Go.Vc
namespace Go.Proofs.YtgbkinibgjmodaaGreatDoor
open Go Go.Vc Go.RowKit Go.Proofs Go.Proofs.Tryz
set_option maxRecDepth 100000
abbrev fC:Type:=(Rd (List Int)×Rd (List Int)×List Int)×Bool
abbrev ia:Type:=Int×Rd (List Int)×Rd (List Int)
def ee (f:ev):fC:=((f.sc,f.szs,f.cs),decide (f.live≠0))
def ji (e:hM):ia:=(e.v,e.sc,e.ec)
def bd (m:Bool) (A:Nat->ai) (R:ai) (w:x2) (cs:List x1) (k:Int) (sizes:List Int) (zero:Int) (D:List (List Int)) (G:List Bool) (aT:List (List Int)) (H:List fC) (E:List ia):Prop:=
 ∃au I J U V W,cs=[Δ k,au,Δ zero,I,J,U,V,W]/\Seen R w [au] sizes/\
 ak.rep m (A 0) R w [I] D/\ak.rep m (A 1) R w [J] G/\ak.rep m (A 2) R w [U] aT/\ak.rep m (A 3) R w [V] H/\ak.rep m (A 4) R w [W] E/\
 (m=true->(∀i j r,i≠j->A i r->¬A j r)/\ ∀i r,A i r->¬R r)
abbrev fj (m:Bool) (A:Nat->ai) (R:ai) (w:x2) (cs:List x1) (k:Int) (sizes:List Int) (s:aF):Prop:=
 bd m A R w cs k sizes s.zero (s.vars.map c5) (s.vars.map λx=>decide (x.gone≠0)) (s.vars.map (·.un)) (s.funs.map ee) (s.elims.map ji)
def iH (w:x2) (v:x1) (k:Int) (sizes:List Int) (s:aF):Prop:=∃cs,v= .agg cs.toArray/\fj false (λ_ _=>False) ea w cs k sizes s
def dN (A:Nat->ai) (i:Nat) (B:ai):Nat->ai:=λj=>if j=i then B else A j
section
variable {m:Bool} {A:Nat->ai} {R:ai} {w w':x2} {cs:List x1} {k zero:Int} {sizes:List Int} {D:List (List Int)} {G:List Bool} {aT:List (List Int)} {H:List fC} {E:List ia} {s:aF}
theorem bd.len (h:bd m A R w cs k sizes zero D G aT H E):cs.length=8/\ ∀u∈cs,u.oneCell'=true:=by
 obtain⟨au,X,Y,aa,ab,ac,rfl,h1,I,J,U,V,W,_⟩:=h;refine⟨rfl,λu hu=>?_⟩;simp only[U9,List.not_mem_nil,or_false] at hu;rcases hu with rfl|rfl|rfl|rfl|rfl|rfl|rfl|rfl
 .rfl
 .exact ga h1
 .rfl
 .exact ga I
 .exact ga J
 .exact ga U
 .exact ga V
 .exact ga W
theorem bd.V {T:ai} (h:bd m A R w cs k sizes zero D G aT H E) (I:af T w w') (U:∀r,r<w.heap.size->(∃i,A i r)\/R r->¬T r):bd m A R w' cs k sizes zero D G aT H E:=by
 obtain⟨au,W,X,Y,aa,ab,rfl,h1,ac,ad,ae,ag,ah,aj⟩:=h;have aH:∀i r,r<w.heap.size->A i r\/R r->¬T r:=λi r J h=>U r J (h.imp (λh=>⟨i,h⟩) id);exact⟨au,W,X,Y,aa,ab,rfl,ak.V h1 I λr J h=>U r J (h.elim False.elim .inr),ak.V ac I (aH 0),ak.V ad I (aH 1),ak.V ae I (aH 2),ak.V ag I (aH 3),ak.V ah I (aH 4),aj⟩
theorem bd.ext (h:bd m A R w cs k sizes zero D G aT H E) (I:Ext w w'):bd m A R w' cs k sizes zero D G aT H E:=h.V (I.V λ_=>False) λ_ _ _ h=>h
theorem fj.KM (h:fj m A R w cs k sizes s):iH w (.agg cs.toArray) k sizes s:=by
 obtain⟨au,I,J,U,V,W,rfl,h1,X,Y,aa,ab,ac,ad⟩:=h;exact⟨_,rfl,au,I,J,U,V,W,rfl,hz h1,hz X,hz Y,hz aa,hz ab,hz ac,λh=>by cases h⟩
theorem bd.mono {R':ai} (h:bd true A R w cs k sizes zero D G aT H E) (I:∀r,R r->R' r) (J:∀i r,A i r->¬R' r):bd true A R' w cs k sizes zero D G aT H E:=by
 obtain⟨au,U,V,W,X,Y,rfl,h1,aa,ab,ac,ad,ae,af⟩:=h;have hm:∀r,r<w.heap.size->R r->R' r:=λr _ h=>I r h;exact⟨au,U,V,W,X,Y,rfl,ak.mono h1 (λ_ _ h=>h) hm,ak.mono aa (λ_ _ h=>h) hm,ak.mono ab (λ_ _ h=>h) hm,ak.mono ac (λ_ _ h=>h) hm,ak.mono ad (λ_ _ h=>h) hm,ak.mono ae (λ_ _ h=>h) hm,λ_=>⟨(af rfl).1,J⟩⟩
theorem bd.old (h:bd true A R w cs k sizes zero D G aT H E):bd true (λi r=>A i r/\r<w.heap.size) R w cs k sizes zero D G aT H E:=by
 obtain⟨au,U,V,W,X,Y,rfl,h1,I,aa,ab,ac,ad,J⟩:=h;obtain⟨J,ae⟩:=J rfl;have hm:∀i r,r<w.heap.size->A i r->A i r/\r<w.heap.size:=λi r af h=>⟨h,af⟩;exact⟨au,U,V,W,X,Y,rfl,h1,ak.mono I (hm 0) λ_ _ h=>h,ak.mono aa (hm 1) λ_ _ h=>h,ak.mono ab (hm 2) λ_ _ h=>h,ak.mono ac (hm 3) λ_ _ h=>h,ak.mono ad (hm 4) λ_ _ h=>h,
  λ_=>⟨λi j r ag h1 I=>J i j r ag h1.1 I.1,λi r h=>ae i r h.1⟩⟩
theorem pD {i:Nat} {B:ai} (h:∀i j r,i≠j->A i r->¬A j r) (J:∀j r,j≠i->B r->¬A j r):∀p q r,p≠q->dN A i B p r->¬dN A i B q r:=λp q r U h1 I=>by
 unfold dN at h1 I;split at h1 <;> split at I
 .omega
 .exact J q r (by assumption) h1 I
 .exact J p r (by assumption) I h1
 .exact h p q r U h1 I
theorem pE {i:Nat} {B:ai} (h:∀i r,A i r->¬R r) (I:∀r,B r->¬R r):∀p r,dN A i B p r->¬R r:=λp r h1=>by
 unfold dN at h1;split at h1
 .exact I r h1
 .exact h p r h1
theorem bd.uN {B:ai} {x:x1} {W:List (List Int)} (h:bd true A R w cs k sizes zero D G aT H E) {T:ai} (J:af T w w') (X:∀r,T r->A 0 r\/(∀j,¬A j r)/\¬R r) (ab:bf B R w' [x] W) (ac:∀j r,j≠0->B r->¬A j r) (ad:∀r,B r->¬R r):bd true (dN A 0 B) R w' (cs.set 3 x) k sizes zero W G aT H E:=by
 obtain⟨au,aq,ae,ag,ah,aj,rfl,h1,I,al,am,an,ao,U⟩:=h;obtain⟨U,Y⟩:=U rfl;have aa:∀r,R r->¬T r:=λr h I=>(X r I).elim (λI=>Y 0 r I h) λI=>I.2 h;have aH:∀j r,j≠0->r<w.heap.size->A j r\/R r->¬T r:=λj r ap _ h I=>h.elim (λh=>(X r I).elim (λI=>U j 0 r ap h I) λI=>I.1 j h) λh=>aa r h I;refine⟨au,x,ae,ag,ah,aj,rfl,ak.V h1 J λr _ h=>h.elim False.elim (aa r),?_,?_,?_,?_,?_,λ_=>⟨pD U ac,pE Y ad⟩⟩
 .exact ab
 .exact ak.V al J λr=>aH 1 r Ω
 .exact ak.V am J λr=>aH 2 r Ω
 .exact ak.V an J λr=>aH 3 r Ω
 .exact ak.V ao J λr=>aH 4 r Ω
theorem bd.Bk {B:ai} {x:x1} {W:List Bool} (h:bd true A R w cs k sizes zero D G aT H E) {T:ai} (J:af T w w') (X:∀r,T r->A 1 r\/(∀j,¬A j r)/\¬R r) (ab:bf B R w' [x] W) (ac:∀j r,j≠1->B r->¬A j r) (ad:∀r,B r->¬R r):bd true (dN A 1 B) R w' (cs.set 4 x) k sizes zero D W aT H E:=by
 obtain⟨au,ae,ap,ag,ah,aj,rfl,h1,I,aq,al,am,an,U⟩:=h;obtain⟨U,Y⟩:=U rfl;have aa:∀r,R r->¬T r:=λr h I=>(X r I).elim (λI=>Y 1 r I h) λI=>I.2 h;have aH:∀j r,j≠1->r<w.heap.size->A j r\/R r->¬T r:=λj r ao _ h I=>h.elim (λh=>(X r I).elim (λI=>U j 1 r ao h I) λI=>I.1 j h) λh=>aa r h I;refine⟨au,ae,x,ag,ah,aj,rfl,ak.V h1 J λr _ h=>h.elim False.elim (aa r),?_,?_,?_,?_,?_,λ_=>⟨pD U ac,pE Y ad⟩⟩
 .exact ak.V I J λr=>aH 0 r Ω
 .exact ab
 .exact ak.V al J λr=>aH 2 r Ω
 .exact ak.V am J λr=>aH 3 r Ω
 .exact ak.V an J λr=>aH 4 r Ω
theorem bd.gT {B:ai} {x:x1} {W:List (List Int)} (h:bd true A R w cs k sizes zero D G aT H E) {T:ai} (J:af T w w') (X:∀r,T r->A 2 r\/(∀j,¬A j r)/\¬R r) (ab:bf B R w' [x] W) (ac:∀j r,j≠2->B r->¬A j r) (ad:∀r,B r->¬R r):bd true (dN A 2 B) R w' (cs.set 5 x) k sizes zero D G W H E:=by
 obtain⟨au,ae,ag,ap,ah,aj,rfl,h1,I,al,aq,am,an,U⟩:=h;obtain⟨U,Y⟩:=U rfl;have aa:∀r,R r->¬T r:=λr h I=>(X r I).elim (λI=>Y 2 r I h) λI=>I.2 h;have aH:∀j r,j≠2->r<w.heap.size->A j r\/R r->¬T r:=λj r ao _ h I=>h.elim (λh=>(X r I).elim (λI=>U j 2 r ao h I) λI=>I.1 j h) λh=>aa r h I;refine⟨au,ae,ag,x,ah,aj,rfl,ak.V h1 J λr _ h=>h.elim False.elim (aa r),?_,?_,?_,?_,?_,λ_=>⟨pD U ac,pE Y ad⟩⟩
 .exact ak.V I J λr=>aH 0 r Ω
 .exact ak.V al J λr=>aH 1 r Ω
 .exact ab
 .exact ak.V am J λr=>aH 3 r Ω
 .exact ak.V an J λr=>aH 4 r Ω
theorem bd.gn {B:ai} {x:x1} {W:List fC} (h:bd true A R w cs k sizes zero D G aT H E) {T:ai} (J:af T w w') (X:∀r,T r->A 3 r\/(∀j,¬A j r)/\¬R r) (ab:bf B R w' [x] W) (ac:∀j r,j≠3->B r->¬A j r) (ad:∀r,B r->¬R r):bd true (dN A 3 B) R w' (cs.set 6 x) k sizes zero D G aT W E:=by
 obtain⟨au,ae,ag,ah,ap,aj,rfl,h1,I,al,am,aq,an,U⟩:=h;obtain⟨U,Y⟩:=U rfl;have aa:∀r,R r->¬T r:=λr h I=>(X r I).elim (λI=>Y 3 r I h) λI=>I.2 h;have aH:∀j r,j≠3->r<w.heap.size->A j r\/R r->¬T r:=λj r ao _ h I=>h.elim (λh=>(X r I).elim (λI=>U j 3 r ao h I) λI=>I.1 j h) λh=>aa r h I;refine⟨au,ae,ag,ah,x,aj,rfl,ak.V h1 J λr _ h=>h.elim False.elim (aa r),?_,?_,?_,?_,?_,λ_=>⟨pD U ac,pE Y ad⟩⟩
 .exact ak.V I J λr=>aH 0 r Ω
 .exact ak.V al J λr=>aH 1 r Ω
 .exact ak.V am J λr=>aH 2 r Ω
 .exact ab
 .exact ak.V an J λr=>aH 4 r Ω
theorem bd.Bl {B:ai} {x:x1} {W:List ia} (h:bd true A R w cs k sizes zero D G aT H E) {T:ai} (J:af T w w') (X:∀r,T r->A 4 r\/(∀j,¬A j r)/\¬R r) (ab:bf B R w' [x] W) (ac:∀j r,j≠4->B r->¬A j r) (ad:∀r,B r->¬R r):bd true (dN A 4 B) R w' (cs.set 7 x) k sizes zero D G aT H W:=by
 obtain⟨au,ae,ag,ah,aj,ap,rfl,h1,I,al,am,an,aq,U⟩:=h;obtain⟨U,Y⟩:=U rfl;have aa:∀r,R r->¬T r:=λr h I=>(X r I).elim (λI=>Y 4 r I h) λI=>I.2 h;have aH:∀j r,j≠4->r<w.heap.size->A j r\/R r->¬T r:=λj r ao _ h I=>h.elim (λh=>(X r I).elim (λI=>U j 4 r ao h I) λI=>I.1 j h) λh=>aa r h I;refine⟨au,ae,ag,ah,aj,x,rfl,ak.V h1 J λr _ h=>h.elim False.elim (aa r),?_,?_,?_,?_,?_,λ_=>⟨pD U ac,pE Y ad⟩⟩
 .exact ak.V I J λr=>aH 0 r Ω
 .exact ak.V al J λr=>aH 1 r Ω
 .exact ak.V am J λr=>aH 2 r Ω
 .exact ak.V an J λr=>aH 3 r Ω
 .exact ab
theorem bd.KN {z:Int} (h:bd m A R w cs k sizes zero D G aT H E):bd m A R w (cs.set 2 (Δ z)) k sizes z D G aT H E:=by
 obtain⟨au,I,J,U,V,W,rfl,h1,X,Y,aa,ab,ac,ad⟩:=h;exact⟨au,I,J,U,V,W,rfl,h1,X,Y,aa,ab,ac,ad⟩
end
theorem kL {α:Type} [ak α] {st an:u9} {pl:List (Nat×Nat)} {gs c q b ao:Nat} {ap y:x1} {box:List x1} {S A R:ai} {l:List α} {a:α} {K:x2->Prop}
  (aq:br x3 st pl) (au:pl[c]? =σ (c,q+1)) (av:x3.underlying t=σ (.slice e)) (aw:aM x3 t 1 ao ap) (hi:aM x3 e (ak.n α) b z) (ax:z.cells.size=ak.n α)
  (ag:ae w gs st box) (ay:box[c]? =σ v) (h:bf S R w [v] l) (I:bT w (ak.n α) y 1 cs) (aA:bf A R w cs a) (aB:∀r,r<w.heap.size->S r->¬A r/\¬R r) (X:¬S gs/\¬A gs/\¬R gs) (aG:(l.length+1)*b<=140737488355328) (aH:l.length+1<=1000000)
  (aC:∀W w',af (λr=>S r\/r=gs) w w'->ae w' gs st (box.set c W)->bf (λr=>S r\/A r\/w.heap.size<=r) R w' [W] (l++[a])->K w'):
  az x3 (l7 #[t,t] an #[v,y]) w λW Y=>J x3 (x7 st (Γ gs) c) Y λaD=>az x3 (o4 t aD W) Y λ_ ab=>K ab:=by
 have aE:=(x4.1 ay).1;refine lY (A:=A) av hi ax h I aA (λr ah I U=>?_) Ω Ω λW Y ac aj=>?_
 .have:=aB r ah I;exact U.elim this.1 this.2
 have aF:ae Y gs st box:=ag.V aj X.1;rw[aa aq au];refine bj (o:=0+c) aw (jy ac) (ga ac) aF (by rw[V1];exact aE) λab al aI am=>?_;refine aC W ab ((aj.mono λr _ h=>.inl h).trans (al.mono λr _ h=>.inr h)) (by rw[V1] at am;exact am) (ak.V ac al λr ah U ad=>?_);have ad:r=gs:=ad;subst ad;have aJ:=ag.lt;rcases U with U|U
 .rcases U with U|U|U
  .exact X.1 U
  .exact X.2.1 U
  .omega
 .exact X.2.2 U
section
variable {A:Nat->ai} {B R:ai} {w:x2} {cs xs:List x1} {gs:Nat} {y v:x1} {k zero:Int} {sizes:List Int} {D:List (List Int)} {G:List Bool} {aT:List (List Int)} {H:List fC} {E:List ia} {K:x2->Prop}
theorem bd.KO {aq:u9} (h:bd true A R w cs k sizes zero D G aT H E) (ad:ae w gs aE cs) (Y:cs[3]? =σ v) (V:∀j r,A j r->gs<r) (X:∀r,R r->r<gs) (I:bT w 1 y 1 xs) (av:bf B R w xs a) (W:∀r,r<w.heap.size->B r->(∀j,¬A j r)/\gs<r) (aI:D.length<=1000)
  (aw:∀ag bl w',af (λr=>gs<=r) w w'->ae w' gs aE bl->bd true ag R w' bl k sizes zero (D++[a]) G aT H E->(∀j r,ag j r->gs<r)->(∀j,j≠3->bl[j]? =cs[j]?)->K w'):
  az x3 (l7 #[cu,cu] aq #[v,y]) w λai aj=>J x3 (x7 aE (Γ gs) 3) aj λax=>az x3 (o4 cu ax ai) aj λ_ aa=>K aa:=by
 have al:=h.old;have ay:=ad.lt;obtain⟨au,aA,aJ,aK,aL,am,aB,h1,aC,aM,aN,aO,aP,ab⟩:=id al;obtain⟨ab,an⟩:=ab rfl;have am:v=aA:=by rw[aB] at Y;exact (Z6 Y).symm
 subst am;have aD:bf (λr=>B r/\r<w.heap.size) R w xs a:=ak.mono av (λr U h=>⟨h,U⟩) λ_ _ h=>h;refine kL (pl:=_) (l:=D) aE.p rfl cu.u cu.i ah.i rfl ad Y aC I aD (λr U ao=>⟨λaF=>(W r U aF.1).1 0 ao.1,an 0 r ao⟩) ⟨λh=>by have:=V 0 gs h.1;omega,λh=>by have:=(W gs ay h.1).2;omega,λh=>by have:=X gs h;omega⟩ Ω Ω λai aa ap aG aH=>?_;refine aw _ _ aa (ap.mono λr _ h=>h.elim (λh=>by have:=V 0 r h.1;omega) λh=>Ω) aG (al.uN ap (λr U=>?_) aH (λj r ac U=>?_) λr U=>?_) (λj r U=>?_) λj ac=>?_
 .rcases U with U|rfl
  .exact .inl U
  .exact .inr ⟨λj h=>by have:=V j r h.1;omega,λh=>by have:=X r h;omega⟩
 .rcases U with U|U|U
  .exact ab 0 j r (T7 ac) U
  .exact λh=>(W r U.2 U.1).1 j h.1
  .exact λh=>by have:=h.2;omega
 .rcases U with U|U|U
  .exact an 0 r U
  .exact λh=>by have:=(W r U.2 U.1).2;have:=X r h;omega
  .exact λh=>by have:=X r h;omega
 .unfold dN at U;split at U
  .rcases U with U|U|U
   .exact V 0 r U.1
   .exact (W r U.2 U.1).2
   .omega
  .exact V j r U.1
 .rw[W6 (T7 ac)]
theorem bd.KP {a:Bool} {ap:u9} (h:bd true A R w cs k sizes zero D G aT H E) (ad:ae w gs aE cs) (Y:cs[4]? =σ v) (V:∀j r,A j r->gs<r) (X:∀r,R r->r<gs) (I:bT w 1 y 1 xs) (aq:bf B R w xs a) (W:∀r,r<w.heap.size->B r->(∀j,¬A j r)/\gs<r) (aH:G.length<=1000)
  (av:∀ag bl w',af (λr=>gs<=r) w w'->ae w' gs aE bl->bd true ag R w' bl k sizes zero D (G++[a]) aT H E->(∀j r,ag j r->gs<r)->(∀j,j≠4->bl[j]? =cs[j]?)->K w'):
  az x3 (l7 #[fl,fl] ap #[v,y]) w λah ai=>J x3 (x7 aE (Γ gs) 4) ai λaw=>az x3 (o4 fl aw ah) ai λ_ aa=>K aa:=by
 have aj:=h.old;have ax:=ad.lt;obtain⟨au,aI,ay,aJ,aK,al,aA,h1,aL,aB,aM,aN,aO,ab⟩:=id aj;obtain⟨ab,am⟩:=ab rfl;have al:v=ay:=by rw[aA] at Y;exact (Z6 Y).symm
 subst al;have aC:bf (λr=>B r/\r<w.heap.size) R w xs a:=ak.mono aq (λr U h=>⟨h,U⟩) λ_ _ h=>h;refine kL (pl:=_) (l:=G) aE.p rfl fl.u fl.i eI.i rfl ad Y aB I aC (λr U an=>⟨λaD=>(W r U aD.1).1 1 an.1,am 1 r an⟩) ⟨λh=>by have:=V 1 gs h.1;omega,λh=>by have:=(W gs ax h.1).2;omega,λh=>by have:=X gs h;omega⟩ Ω Ω λah aa ao aF aG=>?_;refine av _ _ aa (ao.mono λr _ h=>h.elim (λh=>by have:=V 1 r h.1;omega) λh=>Ω) aF (aj.Bk ao (λr U=>?_) aG (λj r ac U=>?_) λr U=>?_) (λj r U=>?_) λj ac=>?_
 .rcases U with U|rfl
  .exact .inl U
  .exact .inr ⟨λj h=>by have:=V j r h.1;omega,λh=>by have:=X r h;omega⟩
 .rcases U with U|U|U
  .exact ab 1 j r (T7 ac) U
  .exact λh=>(W r U.2 U.1).1 j h.1
  .exact λh=>by have:=h.2;omega
 .rcases U with U|U|U
  .exact am 1 r U
  .exact λh=>by have:=(W r U.2 U.1).2;have:=X r h;omega
  .exact λh=>by have:=X r h;omega
 .unfold dN at U;split at U
  .rcases U with U|U|U
   .exact V 1 r U.1
   .exact (W r U.2 U.1).2
   .omega
  .exact V j r U.1
 .rw[W6 (T7 ac)]
theorem bd.KQ {ap:u9} (h:bd true A R w cs k sizes zero D G aT H E) (ad:ae w gs aE cs) (Y:cs[5]? =σ v) (V:∀j r,A j r->gs<r) (X:∀r,R r->r<gs) (I:bT w 1 y 1 xs) (aq:bf B R w xs a) (W:∀r,r<w.heap.size->B r->(∀j,¬A j r)/\gs<r) (aI:aT.length<=1000)
  (av:∀ag bl w',af (λr=>gs<=r) w w'->ae w' gs aE bl->bd true ag R w' bl k sizes zero D G (aT++[a]) H E->(∀j r,ag j r->gs<r)->(∀j,j≠5->bl[j]? =cs[j]?)->K w'):
  az x3 (l7 #[dF,dF] ap #[v,y]) w λah ai=>J x3 (x7 aE (Γ gs) 5) ai λaw=>az x3 (o4 dF aw ah) ai λ_ aa=>K aa:=by
 have aj:=h.old;have ay:=ad.lt;obtain⟨au,aJ,aK,aA,aL,al,aB,h1,aM,aN,aC,aO,aP,ab⟩:=id aj;obtain⟨ab,am⟩:=ab rfl;have al:v=aA:=by rw[aB] at Y;exact (Z6 Y).symm
 subst al;have aD:bf (λr=>B r/\r<w.heap.size) R w xs a:=ak.mono aq (λr U h=>⟨h,U⟩) λ_ _ h=>h;refine kL (pl:=_) (l:=aT) aE.p rfl dF.u dF.i ax.i rfl ad Y aC I aD (λr U an=>⟨λaF=>(W r U aF.1).1 2 an.1,am 2 r an⟩) ⟨λh=>by have:=V 2 gs h.1;omega,λh=>by have:=(W gs ay h.1).2;omega,λh=>by have:=X gs h;omega⟩ Ω Ω λah aa ao aG aH=>?_;refine av _ _ aa (ao.mono λr _ h=>h.elim (λh=>by have:=V 2 r h.1;omega) λh=>Ω) aG (aj.gT ao (λr U=>?_) aH (λj r ac U=>?_) λr U=>?_) (λj r U=>?_) λj ac=>?_
 .rcases U with U|rfl
  .exact .inl U
  .exact .inr ⟨λj h=>by have:=V j r h.1;omega,λh=>by have:=X r h;omega⟩
 .rcases U with U|U|U
  .exact ab 2 j r (T7 ac) U
  .exact λh=>(W r U.2 U.1).1 j h.1
  .exact λh=>by have:=h.2;omega
 .rcases U with U|U|U
  .exact am 2 r U
  .exact λh=>by have:=(W r U.2 U.1).2;have:=X r h;omega
  .exact λh=>by have:=X r h;omega
 .unfold dN at U;split at U
  .rcases U with U|U|U
   .exact V 2 r U.1
   .exact (W r U.2 U.1).2
   .omega
  .exact V j r U.1
 .rw[W6 (T7 ac)]
theorem bd.KR {a:fC} {ap:u9} (h:bd true A R w cs k sizes zero D G aT H E) (ad:ae w gs aE cs) (Y:cs[6]? =σ v) (V:∀j r,A j r->gs<r) (X:∀r,R r->r<gs) (I:bT w 4 y 1 xs) (aq:bf B R w xs a) (W:∀r,r<w.heap.size->B r->(∀j,¬A j r)/\gs<r) (aH:H.length<=1000)
  (av:∀ag bl w',af (λr=>gs<=r) w w'->ae w' gs aE bl->bd true ag R w' bl k sizes zero D G aT (H++[a]) E->(∀j r,ag j r->gs<r)->(∀j,j≠6->bl[j]? =cs[j]?)->K w'):
  az x3 (l7 #[b1,b1] ap #[v,y]) w λah ai=>J x3 (x7 aE (Γ gs) 6) ai λaw=>az x3 (o4 b1 aw ah) ai λ_ aa=>K aa:=by
 have aj:=h.old;have ax:=ad.lt;obtain⟨au,aI,aJ,aK,ay,al,aA,h1,aL,aM,aN,aB,aO,ab⟩:=id aj;obtain⟨ab,am⟩:=ab rfl;have al:v=ay:=by rw[aA] at Y;exact (Z6 Y).symm
 subst al;have aC:bf (λr=>B r/\r<w.heap.size) R w xs a:=ak.mono aq (λr U h=>⟨h,U⟩) λ_ _ h=>h;refine kL (pl:=_) (l:=H) aE.p rfl b1.u b1.i bW.i rfl ad Y aB I aC (λr U an=>⟨λaD=>(W r U aD.1).1 3 an.1,am 3 r an⟩) ⟨λh=>by have:=V 3 gs h.1;omega,λh=>by have:=(W gs ax h.1).2;omega,λh=>by have:=X gs h;omega⟩ Ω Ω λah aa ao aF aG=>?_;refine av _ _ aa (ao.mono λr _ h=>h.elim (λh=>by have:=V 3 r h.1;omega) λh=>Ω) aF (aj.gn ao (λr U=>?_) aG (λj r ac U=>?_) λr U=>?_) (λj r U=>?_) λj ac=>?_
 .rcases U with U|rfl
  .exact .inl U
  .exact .inr ⟨λj h=>by have:=V j r h.1;omega,λh=>by have:=X r h;omega⟩
 .rcases U with U|U|U
  .exact ab 3 j r (T7 ac) U
  .exact λh=>(W r U.2 U.1).1 j h.1
  .exact λh=>by have:=h.2;omega
 .rcases U with U|U|U
  .exact am 3 r U
  .exact λh=>by have:=(W r U.2 U.1).2;have:=X r h;omega
  .exact λh=>by have:=X r h;omega
 .unfold dN at U;split at U
  .rcases U with U|U|U
   .exact V 3 r U.1
   .exact (W r U.2 U.1).2
   .omega
  .exact V j r U.1
 .rw[W6 (T7 ac)]
end
theorem lr {R:ai} {g:Nat} (h:aq .i64 e w g v l):bf (λr=>leads v r) R w [v] l:=by
 have h1:=lZ (R:=R) h;by_cases J:v= .slice ν 0 0
 .subst J;have:l=[]:=by
   obtain⟨U,⟨_,I⟩|⟨_,_,I,_⟩⟩:=h
   .exact Z2 I
   .cases I
  subst this;exact fs
 .obtain⟨U,⟨I,_⟩|⟨cap,cs,I,_⟩⟩:=id h
  .exact absurd I J
  .refine ak.mono h1 (λr _ V=>?_) λ_ _ h=>h;rw[I];exact⟨_,_,_,rfl,V.symm⟩
theorem uO {R:ai} {g:Nat} (J:∀r c,ae w r ab c->R r) (h:aq .i64 ab w g v l):Seen R w [v] l:=ou (lr (R:=λ_=>False) h) λr V I=>by
 rcases I with I|I
 .obtain⟨c,U⟩:=mw h r I;exact J r c U
 .exact I.elim
theorem KT {R:ai} {zero:Int} {au:x1} (h:Seen R w [au] sizes):bd true (λ_ _=>False) R w [Δ k,au,Δ zero,.slice ν 0 0,.slice ν 0 0,.slice ν 0 0,.slice ν 0 0,.slice ν 0 0] k sizes zero [] [] [] [] []:=
 ⟨_,_,_,_,_,_,rfl,h,fs,fs,fs,fs,fs,λ_=>⟨λ_ _ _ _ h=>h.elim,λ_ _ h=>h.elim⟩⟩
theorem bd.at {A:Nat->ai} {R:ai} {zero:Int} {D:List (List Int)} {G:List Bool} {aT:List (List Int)} {H:List fC} {E:List ia} (h:bd m A R w cs k sizes zero D G aT H E) (c:Nat) (I:c<8):∃v,cs[c]? =σ v:=⟨_,y0 (by rw[h.len.1];exact I)⟩
def KU (R:ai) (w:x2) (J U gs:Nat) (n:aV) (V:List x1) (i j:Nat) (I:x2):Prop:=Ext w I/\ae I J df V/\ae I U aE z12/\ ∃A cs,ae I gs aE cs/\(∀q r,A q r->gs<r)/\
 bd true A R I cs n.k n.sizes n.zero ((n.unary.take i).map λu=>c5 (newVar u)) (o6 i false) (n.unary.take i) ((n.funs.take j).map λg=>ee (jc n.sizes g)) []
theorem Bm {b6:x1} {n:aV} {R:ai} (aZ:∀r,R r->r<w.heap.size) (bw:∀r c,ae w r ab c->R r) (cX:uy w b6 n) (aM:iy n) (eE:n.funs.length<=256):aj x3 C0 [b6] w λv w'=>Ext w w'/\ ∃A cs,v= .agg cs.toArray/\fj true A R w' cs n.k n.sizes (dU n)/\ ∀q r,A q r->w.heap.size<=r:=by
 have eF:=aM.sizes.2.1;have cY:=aM.jb;refine aA func70 ?_;refine bM λcZ U eH bx c0=>?_;obtain⟨au,eK,b7,eL,b8,b9,eM,bz,a1,a2,c1,ca,bB,c2,cb⟩:=Kw cX c0;refine bt aE.i λaw c3 eN a6 a7=>?_;have a7:ae c3 aw aE z12:=a7;have bD:=a1.ext a6;rw[aa df.p rfl,ac (v:=Δ n.k) Ψ (bD.cell (o:=0+0) rfl),aa df.p rfl,ac (v:=au) Ψ (bD.cell (o:=0+1) rfl),aa df.p rfl,ac (v:=Δ n.zero) Ψ (bD.cell (o:=0+2) rfl),
  cR (cs:=#[Δ n.k,au,Δ n.zero,.slice ν 0 0,.slice ν 0 0,.slice ν 0 0,.slice ν 0 0,.slice ν 0 0]) (by obtain⟨_,_,_,e⟩:=b0 a2.ls;rw[e];kernel_rfl)]
 refine bt aE.i λgs eO eP a8 c6=>?_;have c7:Seen R w [au] n.sizes:=uO bw a2;have eQ:=bx.size;have eR:=a6.size;have z3:=a8.size;have c9:=(bx.trans a6).trans a8;have cc:=KT (k:=n.k) (zero:=n.zero) (be c7 c9);refine bJ (vs:=[Δ n.k,au,Δ n.zero,.slice ν 0 0,.slice ν 0 0,.slice ν 0 0,.slice ν 0 0,.slice ν 0 0]) aE.i rfl rfl cc.len.2 c6 λda bE eS db=>?_;have eU:=a7.lt;have eV:=a1.lt;have dd:aw≠gs:=Ω
 have bF:Ext U da:=(a6.trans a8).then bE λr I he=>by have he:r=gs:=he;omega
 have cd:=bx.trans bF;have de:=(a7.ext a8).V bE λhe=>dd he;have eW:w.heap.size<gs:=Ω
 rw[aa df.p rfl,ac (v:=au) Ψ ((a1.ext bF).cell (o:=0+1) rfl),aS ah.u (a2.ext cd).ls];have dg:=cc.V bE λr I h he=>by
  have he:r=gs:=he;rcases h with⟨_,h⟩|h
  .exact h
  .have:=aZ r h;omega
 refine bZ.range n.sizes.length (λi az=>KU R w cZ aw gs n [Δ n.k,au,Δ n.zero,b7,b9] i 0 az) Ω ⟨cd,a1.ext bF,de,_,_,db,(λ_ _ h=>h.elim),dg⟩ ?_ ?_
 .rintro i az dh hi ⟨aB,bG,bH,A,cs,aO,bI,ba⟩ di;obtain⟨z,bK⟩:∃z,n.sizes[i]? =σ z:=⟨_,y0 hi⟩;obtain⟨u,hu⟩:∃u,n.unary[i]? =σ u:=⟨_,y0 Ω⟩;have eX:=aM.sizes.2.2 z (x6 bK);obtain⟨eY,_⟩:=aM.unary i z u bK hu;rw[ao,ad];refine⟨λ_=>?_,λh=>Ω⟩;rw[bc ah.u ab.i Ψ (a2.ext aB).ls bK];obtain⟨ce,rfl⟩:∃m:Nat,z=m:=⟨z.toNat,Ω⟩;refine bC.range ce (λj aP bb=>Ext az bb/\ ∃g,aq .i64 ab bb g aP ((X9 j).map λv:Nat=>(v:Int))/\ ∀r,leads aP r->az.heap.size<=r) Ω
   ⟨Ext.refl _,0,aq.nil _ _ _ _,λr I=>by obtain⟨a,n,c,ak,aC⟩:=I;cases ak⟩ ?_ ?_
  .rintro j aP bb bL bN ⟨al,dj,aD,bg⟩ bO;rw[ao,ad];refine⟨λ_=>?_,λh=>Ω⟩;refine dJ (k:=.i64) ah.u ab.i rfl λeZ e0 dk e1 ag dl=>?_;refine fz ah.u ab.i rfl (aD.ext ag) dl.ls Θ Θ λe2 dm dn dp dq aF=>?_;rw[aN];have dr:=al.size;have ds:=ag.size;refine bO _ _ ⟨(al.trans ag).then aF λr I he=>by have:=bg r he;omega,dm,?_,λr I=>(dq r I).elim (bg r) λh=>Ω⟩;rw[List.range_succ,Z4];exact dp
  rintro aP bb bL ⟨al,dj,aD,bg⟩;rw[ao,ad];refine⟨λh=>Ω,λ_=>?_⟩;have dt:(X9 ce).map (λv:Nat=>(v:Int))=c5 (newVar u):=by rw[Kx];congr 2;omega
  rw[dt] at aD;have dr:=al.size;have e3:=aB.size;have e4:=aO.lt;have aQ:∀r,R r->r<gs:=λr I=>by have:=aZ r I;omega
  have low:∀ {J W:x2} {b:Nat} {e:u9} {c:List x1},af (λr=>gs<=r) J W->b<gs->ae J b e c->ae W b e c:=λam du h=>h.V am λaG=>by have aG:gs<=_:=aG;omega
  have aR:∀ {J W:x2},Ext w J->af (λr=>gs<=r) J W->Ext w W:=λbP am=>bP.then am λr I h=>by have h:gs<=r:=h;omega
  have cg:=ba.old.ext al;have dv:∀q r,(A q r/\r<az.heap.size)->gs<r:=λq r h=>bI q r h.1;obtain⟨dw,ch⟩:=cg.at 3 Ω;rw[aa aE.p rfl,ac (v:=dw) Ψ ((aO.ext al).cell (o:=0+3) ch)];refine gK cu.u ah.i Φ (a:=c5 (newVar u)) (cs:=[aP]) aD.ls.cells.1 (lr (R:=R) aD) λe5 dk ag _ dx=>?_;have ds:=ag.size;have bh:=al.trans ag;refine bd.KO (cg.ext ag) (aO.ext bh) ch dv aQ dx (be (lr (R:=R) aD) ag) (λr I h=>?_) Θ λe6 e7 dn aF ci cj dy _=>?_
  .have:=bg r h;exact⟨λj h=>Ω,Ω⟩
  have e8:=aF.size;obtain⟨dz,ck⟩:=cj.at 4 Ω;rw[aa aE.p rfl,ac (v:=dz) Ψ (ci.cell (o:=0+4) ck)];refine gK (a:=false) (cs:=[.bool false]) (A:=λ_=>False) (R:=R) fl.u eI.i Φ rfl rfl λe9 fa aH _ dA=>?_;refine bd.KP (a:=false) (xs:=[.bool false]) (B:=λ_=>False) (cj.ext aH) (ci.ext aH) ck dy aQ dA rfl (λr I h=>h.elim) Θ λdC fb cl bi cm dD dE _=>?_;have z9:=aH.size;have fc:=bi.size;have dG:Ext w cl:=aR ((aR (aB.trans bh) aF).trans aH) bi;have dH:=low bi Ω ((low aF Ω (bG.ext bh)).ext aH);have dI:=low bi Ω ((low aF Ω (bH.ext bh)).ext aH);intro bQ aI _ _;have cn:=cm.ext aI;have cp:=dH.ext aI;have cq:=dG.trans aI;obtain⟨aK,bj⟩:∃aK,b8[i]? =σ aK:=⟨_,y0 (by have:=congrArg S9 ca;rw[u5] at this;omega)⟩;have dK:aK.l=u:=by
   have cr:(b8.map (·.l))[i]? =σ aK.l:=by rw[x8,bj];rfl
   rw[ca,hu] at cr;exact (Z6 cr).symm
  have bR:=c1.ext cq;obtain⟨fd,ct⟩:=bR.2 aK (x6 bj);rw[dK] at ct;have cw:=dD.old.ext aI;have dL:∀q r,(dC q r/\r<cl.heap.size)->gs<r:=λq r h=>dE q r h.1;obtain⟨dM,cz⟩:=cw.at 5 Ω;rw[aa aE.p rfl,ac (v:=dM) Ψ (cn.cell (o:=0+5) cz),aa df.p rfl,ac (v:=b7) Ψ (cp.cell (o:=0+3) rfl),cO rfl dF.u ax.i bR.1 (x4.1 bj).1,ac (v:=aK.v) (o:=i*1) Ψ (bR.1.range bj 0 _ rfl)];refine uB (k:=.i64) ax.u an.i λdN fe ff fg bk cA=>?_;refine⟨.inl bk,?_⟩;refine fz ax.u an.i rfl cA (ct.ext bk).ls Θ Θ λcB fh dO bl dP dQ=>?_;rw[List.nil_append] at bl;have fi:=aI.size;have fk:=bk.size;have cC:∀r,leads dN r->bQ.heap.size<=r:=λr I=>by have:=(bA cA I).1;omega
  have dR:∀r,leads cB r->bQ.heap.size<=r:=λr I=>(dP r I).elim (cC r) λh=>Ω
  have bS:Ext bQ dO:=bk.then dQ λr I he=>by have:=cC r he;omega
  refine⟨.inl bS,?_⟩;have fm:=bS.size;refine gK dF.u ax.i Φ (a:=u) (cs:=[cB]) bl.ls.cells.1 (lr (R:=R) bl) λfo fp bT _ dS=>?_;have fq:=bT.size;have aL:=bS.trans bT;refine⟨.inl aL,?_⟩;refine bd.KQ (cw.ext aL) (cn.ext aL) cz dL aQ dS (be (lr (R:=R) bl) bT) (λr I h=>?_) Θ λdT dV fs bU dW dX dY _=>?_
  .have:=dR r h;have:=cm.lt;exact⟨λj h=>Ω,Ω⟩
  rw[aN];refine di _ ⟨aR (cq.trans aL) bU,low bU Ω (cp.ext aL),low bU Ω ((dI.ext aI).ext aL),dT,dV,dW,dY,?_⟩;rw[r9,hu,Z9,Z4,S2,List.map_nil,List.replicate_succ'];exact dX
 rintro az dh ⟨aB,bG,bH,A,cs,aO,bI,ba⟩;rw[ao,ad];refine⟨λh=>Ω,λ_=>?_⟩;rw[Z0 Ω] at ba;have ft:bz.length=n.funs.length:=by rw[<-cb,u5]
 have dZ:=bB.ext aB;rw[aa df.p rfl,ac (v:=b9) Ψ (bG.cell (o:=0+4) rfl),dc cF.u dZ];have aQ:∀r,R r->r<gs:=λr I=>by have:=aZ r I;omega
 have low:∀ {J W:x2} {b:Nat} {e:u9} {c:List x1},af (λr=>gs<=r) J W->b<gs->ae J b e c->ae W b e c:=λam du h=>h.V am λaG=>by have aG:gs<=_:=aG;omega
 have aR:∀ {J W:x2},Ext w J->af (λr=>gs<=r) J W->Ext w W:=λbP am=>bP.then am λr I h=>by have h:gs<=r:=h;omega
 refine bZ.range bz.length (λj Y=>Ext w Y/\ae Y aw aE z12/\ ∃A cs,ae Y gs aE cs/\(∀q r,A q r->gs<r)/\
  bd true A R Y cs n.k n.sizes n.zero (n.unary.map λu=>c5 (newVar u)) (o6 n.sizes.length false) n.unary ((n.funs.take j).map λg=>ee (jc n.sizes g)) []) bB.le ⟨aB,bH,A,cs,aO,bI,ba⟩ ?_ ?_
 .rintro j Y bL bN ⟨ap,bV,bX,bm,bo,bp,aT⟩ bO;obtain⟨y,bY⟩:∃y,bz[j]? =σ y:=⟨_,y0 bN⟩;have cD:n.funs[j]? =σ (c8 y):=by rw[<-cb,x8,bY];rfl
  have cE:=(aM.funs (c8 y) (x6 cD)).1;have fu:y.cs.length<=4096:=by
   have h1:y.cs.length=_:=cE.len;have aG:=cE.small;omega
  have cG:=c2 y (x6 bY);have cH:=cG.ext ap;have cI:=bB.ext ap;rw[ao,ad];refine⟨λ_=>?_,λh=>Ω⟩;rw[cO rfl cF.u aY.i cI bN,bn aY.p aY.i rfl (cI.range bY)];refine bt aY.i λea fv fw eb ec=>?_;refine bJ (vs:=c4 y) aY.i rfl rfl cH.one ec λed ef fx eg=>?_;have eh:Ext Y ed:=eb.then ef λr I he=>by have he:r=ea:=he;omega
  intro b2 cJ _ _;have av:=eh.trans cJ;have cK:=bo.ext av;have b3:=eg.ext cJ;have ei:=cH.ext av;obtain⟨⟨fy,cL⟩,⟨fA,cM⟩,fB,ej⟩:=id ei;have cN:=aT.old.ext av;have ek:∀q r,(bX q r/\r<Y.heap.size)->gs<r:=λq r h=>bp q r h.1;obtain⟨em,cP⟩:=cN.at 6 Ω;rw[aa aE.p rfl,ac (v:=em) Ψ (cK.cell (o:=0+6) cP),aa aY.p rfl,ac (v:=y.ay) Ψ (b3.cell (o:=0+0) rfl),aa aY.p rfl,ac (v:=y.au) Ψ (b3.cell (o:=0+1) rfl),aa aY.p rfl,ac (v:=y.aJ) Ψ (b3.cell (o:=0+2) rfl)];refine uB (k:=.i64) ax.u an.i λv25 fD fE fF bq cQ=>?_;refine⟨.inl bq,?_⟩;refine fz ax.u an.i rfl cQ (ej.ext bq).ls Θ Θ λX fG cS br en eo=>?_;rw[List.nil_append] at br;have fH:=av.size;have z25:=bq.size;have cT:∀r,leads v25 r->b2.heap.size<=r:=λr I=>by have:=(bA cQ I).1;omega
  have ep:∀r,leads X r->b2.heap.size<=r:=λr I=>(en r I).elim (cT r) λh=>Ω
  have bu:Ext b2 cS:=bq.then eo λr I he=>by have:=cT r he;omega
  refine⟨.inl bu,?_⟩;rw[cR (cs:=#[y.ay,y.au,X]) (by obtain⟨_,_,_,ak⟩:=b0 cL.ls;obtain⟨_,_,_,aC⟩:=b0 cM.ls;obtain⟨_,_,_,aW⟩:=b0 br.ls;rw[ak,aC,aW];kernel_rfl),
   cR (cs:=#[y.ay,y.au,X,.bool true]) (by obtain⟨_,_,_,ak⟩:=b0 cL.ls;obtain⟨_,_,_,aC⟩:=b0 cM.ls;obtain⟨_,_,_,aW⟩:=b0 br.ls;rw[ak,aC,aW];kernel_rfl)]
  have fI:=bu.size;have cU:=(ap.trans av).trans bu;obtain⟨⟨aU,er⟩,⟨fJ,es⟩,_⟩:=id cG;have own:bf (α:=fC) (λr=>leads X r) R cS [y.ay,y.au,X,.bool true] (ee (jc n.sizes (c8 y))):=by
   refine⟨[y.ay,y.au,X],[.bool true],λr=>leads X r,λ_=>False,rfl,λ_ h=>h,λ_ h=>h.elim,λ_ _ _ h=>h,⟨[y.ay],[y.au,X],λ_=>False,λr=>leads X r,rfl,λ_ h=>h.elim,λ_ h=>h,λ_ _ h=>h.elim,?_,[y.au],[X],λ_=>False,λr=>leads X r,rfl,λ_ h=>h.elim,λ_ h=>h,λ_ _ h=>h.elim,?_,?_⟩,rfl⟩
   .exact be (uO bw er) cU
   .exact be (uO bw es) cU
   .exact lr br
  refine gK b1.u bW.i Φ rfl own λfK fL b4 _ et=>?_;have fM:=b4.size;have aX:=bu.trans b4;refine⟨.inl aX,?_⟩;refine bd.KR (cN.ext aX) (cK.ext aX) cP ek aQ et (be own b4) (λr I h=>?_) Θ λeu ev fN cV ew ey ez _=>?_
  .have:=ep r h;have:=bo.lt;exact⟨λj h=>Ω,Ω⟩
  rw[aN];refine bO _ ⟨aR (ap.trans (av.trans aX)) cV,low cV Ω (bV.ext (av.trans aX)),eu,ev,ew,ez,?_⟩;rw[r9,cD,Z9,Z4,S2,List.map_nil];exact ey
 rintro Y bL ⟨ap,bV,bX,bm,bo,bp,aT⟩;rw[Z0 Ω] at aT;rw[ao,ad];refine⟨λh=>Ω,λ_=>?_⟩;obtain⟨b5,eA⟩:=aT.len;rw[bn aE.p aE.i b5 (show Y.rangeAt gs 0 bm from bo.range)];refine bJ (vs:=bm) aE.i b5 rfl eA bV λfO cW fP eB=>?_;rw[eJ aE.p aE.i b5 eB.range];have eC:=aT.V cW λr I h he=>by
  have he:r=aw:=he;rcases h with⟨q,h⟩|h
  .have:=bp q r h;omega
  .have:=aZ r h;omega
 have fQ:=ap.size;refine⟨ap.then cW λr I he=>by have he:r=aw:=he;omega,bX,bm,rfl,?_,λq r h=>by have:=bp q r h;omega⟩;have ak:(dU n).vars.map c5=n.unary.map λu=>c5 (newVar u):=by show (n.unary.map newVar).map c5=_;rw[List.map_map];rfl
 have aC:(dU n).vars.map (λx=>decide (x.gone≠0))=o6 n.sizes.length false:=by
  show (n.unary.map newVar).map _=_;rw[List.map_map,<-cY];exact List.map_const' ..
 have aW:(dU n).vars.map (·.un)=n.unary:=by show (n.unary.map newVar).map _=_;rw[List.map_map];exact List.map_id _
 have eD:(dU n).funs.map ee=n.funs.map λg=>ee (jc n.sizes g):=by show (n.funs.map (jc n.sizes)).map ee=_;rw[List.map_map];rfl
 unfold fj;rw[ak,aC,aW,eD];exact eC
section
variable {A:Nat->ai} {B R:ai} {w:x2} {cs xs:List x1} {gs:Nat} {y v:x1} {k zero:Int} {sizes:List Int} {D:List (List Int)} {G:List Bool} {aT:List (List Int)} {H:List fC} {E:List ia} {K:x2->Prop} {Z:ai}
theorem bd.KV {aA:u9} (h:bd true A R w cs k sizes zero D G aT H E) (al:ae w gs aE cs) (Y:cs[3]? =σ v) (aa:∀j r,A j r->gs<r\/Z r) (V:∀r,Z r->r<gs/\A 4 r) (X:∀r,R r->r<gs) (I:bT w 1 y 1 xs) (aB:bf B R w xs a) (W:∀r,r<w.heap.size->B r->(∀j,¬A j r)/\gs<r) (aO:D.length<=1000)
  (aC:∀ab bl w',af (λr=>gs<=r) w w'->ae w' gs aE bl->bd true ab R w' bl k sizes zero (D++[a]) G aT H E->(∀j r,ab j r->gs<r\/Z r)->(∀r,Z r->r<gs/\ab 4 r)->(∀j,j≠3->bl[j]? =cs[j]?)->K w'):
  az x3 (l7 #[cu,cu] aA #[v,y]) w λam an=>J x3 (x7 aE (Γ gs) 3) an λaD=>az x3 (o4 cu aD am) an λ_ ac=>K ac:=by
 have ao:=h.old;have aF:∀i j r,i≠j->A i r->¬A j r:=by obtain⟨_,_,_,_,_,_,_,_,_,_,_,_,_,aG⟩:=id h;exact (aG rfl).1
 have ap:∀r,A 0 r->gs<r:=λr h=>(aa 0 r h).resolve_right λad=>aF 0 4 r Ω h (V r ad).2;have aq:∀j,¬A j gs:=λj h=>(aa j gs h).elim (λh=>Ω) λh=>by have:=(V gs h).1;omega
 have aH:=al.lt;obtain⟨au,aI,aP,aQ,aR,av,aJ,h1,ad,aS,aU,aV,aW,ag⟩:=id ao;obtain⟨ag,aw⟩:=ag rfl;have av:v=aI:=by rw[aJ] at Y;exact (Z6 Y).symm
 subst av;have aK:bf (λr=>B r/\r<w.heap.size) R w xs a:=ak.mono aB (λr U h=>⟨h,U⟩) λ_ _ h=>h;refine kL (pl:=_) (l:=D) aE.p rfl cu.u cu.i ah.i rfl al Y ad I aK (λr U ax=>⟨λaL=>(W r U aL.1).1 0 ax.1,aw 0 r ax⟩) ⟨λh=>aq 0 h.1,λh=>by have:=(W gs aH h.1).2;omega,λh=>by have:=X gs h;omega⟩ Ω Ω λam ac ay aM aN=>?_;refine aC _ _ ac (ay.mono λr _ h=>h.elim (λh=>by have:=ap r h.1;omega) λh=>Ω) aM (ao.uN ay (λr U=>?_) aN (λj r ai U=>?_) λr U=>?_) (λj r U=>?_) (λr aj=>⟨(V r aj).1,?_⟩) λj ai=>?_
 .rcases U with U|rfl
  .exact .inl U
  .exact .inr ⟨λj h=>aq j h.1,λh=>by have:=X r h;omega⟩
 .rcases U with U|U|U
  .exact ag 0 j r (T7 ai) U
  .exact λh=>(W r U.2 U.1).1 j h.1
  .exact λh=>by have:=h.2;omega
 .rcases U with U|U|U
  .exact aw 0 r U
  .exact λh=>by have:=(W r U.2 U.1).2;have:=X r h;omega
  .exact λh=>by have:=X r h;omega
 .unfold dN at U;split at U
  .rcases U with U|U|U
   .exact .inl (ap r U.1)
   .exact .inl (W r U.2 U.1).2
   .exact .inl Ω
  .exact aa j r U.1
 .unfold dN;rw[if_neg Ω];exact⟨(V r aj).2,by have:=(V r aj).1;omega⟩
 .rw[W6 (T7 ai)]
theorem bd.KW {aA:u9} (h:bd true A R w cs k sizes zero D G aT H E) (ai:ae w gs aE cs) (Y:cs[5]? =σ v) (aa:∀j r,A j r->gs<r\/Z r) (V:∀r,Z r->r<gs/\A 4 r) (X:∀r,R r->r<gs) (I:bT w 1 y 1 xs) (aB:bf B R w xs a) (W:∀r,r<w.heap.size->B r->(∀j,¬A j r)/\gs<r) (aP:aT.length<=1000)
  (aC:∀ab bl w',af (λr=>gs<=r) w w'->ae w' gs aE bl->bd true ab R w' bl k sizes zero D G (aT++[a]) H E->(∀j r,ab j r->gs<r\/Z r)->(∀r,Z r->r<gs/\ab 4 r)->(∀j,j≠5->bl[j]? =cs[j]?)->K w'):
  az x3 (l7 #[dF,dF] aA #[v,y]) w λaj al=>J x3 (x7 aE (Γ gs) 5) al λaD=>az x3 (o4 dF aD aj) al λ_ ac=>K ac:=by
 have am:=h.old;have aF:∀i j r,i≠j->A i r->¬A j r:=by obtain⟨_,_,_,_,_,_,_,_,_,_,_,_,_,aG⟩:=id h;exact (aG rfl).1
 have an:∀r,A 2 r->gs<r:=λr h=>(aa 2 r h).resolve_right λao=>aF 2 4 r Ω h (V r ao).2;have ap:∀j,¬A j gs:=λj h=>(aa j gs h).elim (λh=>Ω) λh=>by have:=(V gs h).1;omega
 have aH:=ai.lt;obtain⟨au,aQ,aR,aI,aS,aq,aJ,h1,ao,aU,aK,aV,aW,ad⟩:=id am;obtain⟨ad,av⟩:=ad rfl;have aq:v=aI:=by rw[aJ] at Y;exact (Z6 Y).symm
 subst aq;have aL:bf (λr=>B r/\r<w.heap.size) R w xs a:=ak.mono aB (λr U h=>⟨h,U⟩) λ_ _ h=>h;refine kL (pl:=_) (l:=aT) aE.p rfl dF.u dF.i ax.i rfl ai Y aK I aL (λr U aw=>⟨λaM=>(W r U aM.1).1 2 aw.1,av 2 r aw⟩) ⟨λh=>ap 2 h.1,λh=>by have:=(W gs aH h.1).2;omega,λh=>by have:=X gs h;omega⟩ Ω Ω λaj ac ay aN aO=>?_;refine aC _ _ ac (ay.mono λr _ h=>h.elim (λh=>by have:=an r h.1;omega) λh=>Ω) aN (am.gT ay (λr U=>?_) aO (λj r ag U=>?_) λr U=>?_) (λj r U=>?_) (λr ah=>⟨(V r ah).1,?_⟩) λj ag=>?_
 .rcases U with U|rfl
  .exact .inl U
  .exact .inr ⟨λj h=>ap j h.1,λh=>by have:=X r h;omega⟩
 .rcases U with U|U|U
  .exact ad 2 j r (T7 ag) U
  .exact λh=>(W r U.2 U.1).1 j h.1
  .exact λh=>by have:=h.2;omega
 .rcases U with U|U|U
  .exact av 2 r U
  .exact λh=>by have:=(W r U.2 U.1).2;have:=X r h;omega
  .exact λh=>by have:=X r h;omega
 .unfold dN at U;split at U
  .rcases U with U|U|U
   .exact .inl (an r U.1)
   .exact .inl (W r U.2 U.1).2
   .exact .inl Ω
  .exact aa j r U.1
 .unfold dN;rw[if_neg Ω];exact⟨(V r ah).2,by have:=(V r ah).1;omega⟩
 .rw[W6 (T7 ag)]
theorem bd.KX {a:fC} {ay:u9} (h:bd true A R w cs k sizes zero D G aT H E) (ai:ae w gs aE cs) (Y:cs[6]? =σ v) (aa:∀j r,A j r->gs<r\/Z r) (V:∀r,Z r->r<gs/\A 4 r) (X:∀r,R r->r<gs) (I:bT w 4 y 1 xs) (aA:bf B R w xs a) (W:∀r,r<w.heap.size->B r->(∀j,¬A j r)/\gs<r) (aO:H.length<=1000)
  (aB:∀ab bl w',af (λr=>gs<=r) w w'->ae w' gs aE bl->bd true ab R w' bl k sizes zero D G aT (H++[a]) E->(∀j r,ab j r->gs<r\/Z r)->(∀r,Z r->r<gs/\ab 4 r)->(∀j,j≠6->bl[j]? =cs[j]?)->K w'):
  az x3 (l7 #[b1,b1] ay #[v,y]) w λaj al=>J x3 (x7 aE (Γ gs) 6) al λaC=>az x3 (o4 b1 aC aj) al λ_ ac=>K ac:=by
 have am:=h.old;have aD:∀i j r,i≠j->A i r->¬A j r:=by obtain⟨_,_,_,_,_,_,_,_,_,_,_,_,_,aF⟩:=id h;exact (aF rfl).1
 have an:∀r,A 3 r->gs<r:=λr h=>(aa 3 r h).resolve_right λao=>aD 3 4 r Ω h (V r ao).2;have ap:∀j,¬A j gs:=λj h=>(aa j gs h).elim (λh=>Ω) λh=>by have:=(V gs h).1;omega
 have aG:=ai.lt;obtain⟨au,aP,aQ,aR,aH,aq,aI,h1,ao,aS,aU,aJ,aV,ad⟩:=id am;obtain⟨ad,av⟩:=ad rfl;have aq:v=aH:=by rw[aI] at Y;exact (Z6 Y).symm
 subst aq;have aK:bf (λr=>B r/\r<w.heap.size) R w xs a:=ak.mono aA (λr U h=>⟨h,U⟩) λ_ _ h=>h;refine kL (pl:=_) (l:=H) aE.p rfl b1.u b1.i bW.i rfl ai Y aJ I aK (λr U aw=>⟨λaL=>(W r U aL.1).1 3 aw.1,av 3 r aw⟩) ⟨λh=>ap 3 h.1,λh=>by have:=(W gs aG h.1).2;omega,λh=>by have:=X gs h;omega⟩ Ω Ω λaj ac ax aM aN=>?_;refine aB _ _ ac (ax.mono λr _ h=>h.elim (λh=>by have:=an r h.1;omega) λh=>Ω) aM (am.gn ax (λr U=>?_) aN (λj r ag U=>?_) λr U=>?_) (λj r U=>?_) (λr ah=>⟨(V r ah).1,?_⟩) λj ag=>?_
 .rcases U with U|rfl
  .exact .inl U
  .exact .inr ⟨λj h=>ap j h.1,λh=>by have:=X r h;omega⟩
 .rcases U with U|U|U
  .exact ad 3 j r (T7 ag) U
  .exact λh=>(W r U.2 U.1).1 j h.1
  .exact λh=>by have:=h.2;omega
 .rcases U with U|U|U
  .exact av 3 r U
  .exact λh=>by have:=(W r U.2 U.1).2;have:=X r h;omega
  .exact λh=>by have:=X r h;omega
 .unfold dN at U;split at U
  .rcases U with U|U|U
   .exact .inl (an r U.1)
   .exact .inl (W r U.2 U.1).2
   .exact .inl Ω
  .exact aa j r U.1
 .unfold dN;rw[if_neg Ω];exact⟨(V r ah).2,by have:=(V r ah).1;omega⟩
 .rw[W6 (T7 ag)]
end
def kM (w:x2) (g:Nat) (k:Int) (sizes:List Int) (s:aF):Prop:=∃au I J U V W,ae w g aE [Δ k,au,Δ s.zero,I,J,U,V,W]/\aI .i64 w au sizes/\Seen ea w [au] sizes/\
 Seen ea w [I] (s.vars.map c5)/\Seen ea w [J] (s.vars.map λx=>decide (x.gone≠0))/\Seen ea w [U] (s.vars.map (·.un))/\Seen ea w [V] (s.funs.map ee)/\Seen ea w [W] (s.elims.map ji)
section
variable {w w':x2} {g:Nat} {v:x1} {k:Int} {sizes:List Int} {s:aF}
theorem kM.ext (h:kM w g k sizes s) (I:Ext w w'):kM w' g k sizes s:=by
 obtain⟨au,J,U,V,W,X,Y,h1,aa,ab,ac,ad,ae,af⟩:=h;exact⟨au,J,U,V,W,X,Y.ext I,h1.ext I,be aa I,be ab I,be ac I,be ad I,be ae I,be af I⟩
theorem iH.box (h:iH w v k sizes s) (I:Ext w w') (J:ae w' g aE v.cells.toList):kM w' g k sizes s:=by
 obtain⟨cs,rfl,au,aa,ab,ac,ad,af,rfl,h1,U,V,W,X,Y,_⟩:=h;obtain⟨_,_,_,ag⟩:=b0 (dR h1);have c:∀ {α:Type} [ak α] {v:x1} {l:List α} {A:ai},ak.rep false A ea w [v] l-> ∃a n c,v= .slice a n c:=λh=>by
  obtain⟨_,_,_,_,_,⟨_,b,o,base,cap,e,_⟩,_⟩:=fZ h;exact⟨_,_,_,e⟩
 obtain⟨_,_,_,ah⟩:=c U;obtain⟨_,_,_,aj⟩:=c V;obtain⟨_,_,_,al⟩:=c W;obtain⟨_,_,_,am⟩:=c X;obtain⟨_,_,_,an⟩:=c Y;refine⟨au,aa,ab,ac,ad,af,?_,(dR h1).ext I,be h1 I,be U I,be V I,be W I,be X I,be Y I⟩;rw[ag,ah,aj,al,am,an] at J ⊢;exact J
theorem kM.load {K:x1->Prop} (h:kM w g k sizes s) (I:∀u,iH w u k sizes s->K u):J x3 (x5 aE (Γ g)) w K:=by
 obtain⟨au,U,V,W,X,Y,aa,h1,ab,ac,ad,ae,af,ag⟩:=h;rw[bn aE.p aE.i rfl aa.range];exact I _ ⟨_,rfl,au,U,V,W,X,Y,rfl,ab,ac,ad,ae,af,ag,λh=>by cases h⟩
theorem pF {i:Int} (h:iH w v k sizes s):aj x3 mT [v,Δ i] w λr w'=>r= .bool (decide (0<=i/\i<sizes.length))/\Ext w w':=by
 refine aA func33 ?_;refine bM λab U ae I J=>?_;obtain⟨au,af,ag,ai,ak,al,J,X,_⟩:=h.box I J;refine aP (λv Y=>v= .bool (decide (0<=i/\i<sizes.length))/\Ext w Y) (λ_ _ h=>h) λam V=>?_;rw[cb,ad];refine⟨λW=>?_,λW=>V _ _ ⟨by rw[decide_eq_false];omega,I⟩⟩;rw[aa aE.p rfl,ac (v:=au) Ψ (J.cell (o:=0+1) rfl),aS ah.u X,ao];refine V _ _ ⟨?_,I⟩;congr 1;exact decide_eq_decide.2 ⟨λh=>⟨W,h⟩,λh=>h.2⟩
theorem pG {S R:ai} {f:ev} (h:ak.rep (α:=fC) m S R w cs (ee f)):∃ay au aJ,cs=[ay,au,aJ,.bool (decide (f.live≠0))]/\Seen ea w [ay] f.sc/\Seen ea w [au] f.szs/\Seen ea w [aJ] f.cs:=by
 obtain⟨ae,V,A,B,rfl,_,_,_,⟨W,af,ag,ah,rfl,_,_,_,h1,X,Y,aj,aa,rfl,_,_,_,I,J⟩,U⟩:=h;have one:∀ {α:Type} [ak α] {m:Bool} {S R:ai} {c:List x1} {l:List α},ak.rep m S R w c l-> ∃v,c=[v]:=λh=>by obtain⟨v,ab,_⟩:=h;exact⟨v,ab⟩
 have h1:Seen _ w W f.sc:=h1;have I:Seen _ w X f.szs:=I;have U:V=[.bool (decide (f.live≠0))]:=U;have J:ak.rep m aa R w Y f.cs:=J;obtain⟨ac,rfl⟩:=one h1;obtain⟨ad,rfl⟩:=one I;obtain⟨v3,rfl⟩:=one J;subst U;exact⟨ac,ad,v3,rfl,hz h1,hz I,hz J⟩
theorem uP {j:Int} (h:iH w v k sizes s):aj x3 su [v,Δ j] w λr w'=>r= .bool (decide (0<=j)&&dL s j.toNat)/\Ext w w':=by
 refine aA func31 ?_;refine bM λah U ai I J=>?_;obtain⟨au,ak,al,am,X,an,J,ap,_,_,_,_,Y,_⟩:=h.box I J;refine aP (λv ae=>v= .bool (decide (0<=j)&&dL s j.toNat)/\Ext w ae) (λ_ _ h=>h) λaq V=>?_;rw[cb,ad];refine⟨λW=>?_,λW=>V _ _ ⟨by rw[decide_eq_false W];rfl,I⟩⟩;rw[aa aE.p rfl,ac (v:=X) Ψ (J.cell (o:=0+6) rfl),eK b1.u Y,ao,ad,u5];refine⟨λav=>?_,λaw=>V _ _ ⟨by unfold dL;rw[Y4 Ω,Bool.and_false],I⟩⟩;obtain⟨f,ab⟩:∃f,s.funs[j.toNat]? =σ f:=⟨_,y0 Ω⟩;rw[aa aE.p rfl,ac (v:=X) Ψ (J.cell (o:=0+6) rfl)];refine jz (i:=j.toNat) Ω b1.u bW.i Y (by rw[x8,ab];rfl) λb o cs af ag=>?_;obtain⟨ax,ay,v3,rfl,_⟩:=pG ag;rw[aa bW.p rfl,ac (v:=.bool (decide (f.live≠0))) Ψ (af 3 _ rfl)];exact V _ _ ⟨by unfold dL;rw[ab,decide_eq_true W,U7],I⟩
theorem KY {f:ev} {V:List Int} (h:iH w v k sizes s) (X:eN k sizes s) (W:s.funs[j]? =σ f) (Y:aI .i64 w aD V):aj x3 wv [v,Δ (j:Int),aD] w λr w'=>r=Δ (nj (bu f.szs) V)/\Ext w w':=by
 refine aA func84 ?_;refine bM λak U al I J=>?_;obtain⟨au,am,an,ao,ab,ap,J,aq,_,_,_,_,ad,_⟩:=h.box I J;rw[aa aE.p rfl,ac (v:=ab) Ψ (J.cell (o:=0+6) rfl)];refine jz (i:=j) rfl b1.u bW.i ad (by rw[x8,W];rfl) λb o cs ae af=>?_;obtain⟨av,ag,v3,rfl,_,ah,_⟩:=pG af;rw[aa bW.p rfl,aa aY.p rfl,ac (v:=ag) Ψ (ae 1 _ rfl)];refine (FX (dR ah) (pA X (x6 W)).1 (Y.ext I)).mono ?_;rintro _ aw _ ⟨rfl,ai⟩;exact⟨rfl,I.trans ai⟩
end
end Go.Proofs.YtgbkinibgjmodaaGreatDoor
namespace Go.Vc
open Go Go.RowKit
section
variable {P:W5} {w:x2} {α:Type} [ak α] {S R:ai}
theorem pH {b:Nat} (I:P.underlying t=σ (.slice e)) (hi:aM P e (ak.n α) b z)
  (J:∀v w',Ext w w'->bf (λr=>w.heap.size<=r) R w' [v] ([]:List α)->K v w'):az P (Z7 t 0 #[]) w K:=
 il I hi Ω (cs:=#[]) (by simp[Instr.fill]) λg w' X U V=>J _ w' U (by
  have hm:bQ w' g e (ak.n α) (.slice (σ ⟨g,0,ν⟩) 0 0) 0 []:=bQ.full (by simpa using V) Ξ (by simp[maxLen]);exact⟨_,rfl,[],g,λ_ _=>False,⟨λ_ _ h=>h.elim,λ_ _ h=>h,λ_ _ _ _ _ h=>h.elim⟩,⟨rfl,λi c a W=>by simp at W⟩,lX hm (.inr (.inl Ω)),λ_=>⟨.inr Ω,e,hm⟩⟩)
theorem pI {V:u9} {b:Nat} {x:x1} {S':ai} {l':List α} (U:P.underlying t=σ (.slice e)) (hi:aM P e (ak.n α) b z) (W:z.cells.size=ak.n α)
  (h:bf S R w [v] ([]:List α)) (X:ak.rep m S' R w [x] l') (Y:∀ {F:ai} {c:List x1} {a:α},ak.rep m F R w c a->bf (λ_=>False) R w c a)
  (aa:∀r,r<w.heap.size->S r->¬R r) (ab:l'.length*b<=140737488355328) (ac:l'.length<=9223372036854775807)
  (ad:∀J w',bf (λr=>S r\/w.heap.size<=r) R w' [J] l'->af S w w'->K J w'):az P (l7 #[t,t] V #[v,x]) w K:=by
 obtain⟨vs,g,F,al,he,I,_⟩:=fZ X;refine xd (l:=[]) (l':=l') (us:=vs) (G:=λ_ _=>False) U U hi W h I.sl ⟨he.1,λi c a ae ag=>Y (he.2 i c a ae ag)⟩ (λ_ _ _ _ h=>h.elim) (λr ah h=>⟨λ_ h=>h,aa r ah h⟩) (by simpa using ab) (by simpa using ac) λJ w' h1 aj=>ad J w' (ak.mono h1 (λr _ h=>?_) λ_ _ h=>h) aj;rcases h with h|⟨_,h⟩|h
 .exact .inl h
 .exact h.elim
 .exact .inr h
end
end Go.Vc
namespace Go.Proofs.YtgbkinibgjmodaaGreatDoor
open Go Go.Vc Go.RowKit Go.Proofs Go.Proofs.Tryz
set_option maxRecDepth 100000
theorem nS {α:Type} [ak α] {S R:ai} {l:List α} (h:ak.rep m S R w [v] l):∃a n c,v= .slice a n c:=by
 obtain⟨_,_,_,_,_,⟨_,b,o,base,cap,e,_⟩,_⟩:=fZ h;exact⟨_,_,_,e⟩
theorem Bn {cq:Nat->ai} {R:ai} {s:aF} (h:fj true cq R w cs k sizes s) (X:∀r,R r->r<w.heap.size) (a2:eN k sizes s) (fb:s.funs.length<=1000) (he:s.elims.length<=1000):
  aj x3 sw [.agg cs.toArray] w λv w'=>Ext w w'/\ ∃A bl,v= .agg bl.toArray/\fj true A R w' bl k sizes s/\ ∀q r,A q r->w.heap.size<=r:=by
 have fc:=a2.e5.2.1;have fd:=a2.vars;obtain⟨au,am,aw,ay,az,ag,rfl,cr,bH,ct,cw,bI,bK,dj⟩:=bd.old h;refine aA func45 ?_;refine bM λbL U fe cz aB=>?_;have aB:ae U bL aE [Δ k,au,Δ s.zero,am,aw,ay,az,ag]:=by
  obtain⟨_,_,_,dk⟩:=nS cr;obtain⟨_,_,_,dl⟩:=nS bH;obtain⟨_,_,_,dm⟩:=nS ct;obtain⟨_,_,_,dn⟩:=nS cw;obtain⟨_,_,_,dp⟩:=nS bI;obtain⟨_,_,_,dq⟩:=nS bK;rw[dk,dl,dm,dn,dp,dq] at aB ⊢;exact aB
 have dr:∀u∈([Δ k,au,Δ s.zero,am,aw,ay,az,ag]:List x1),u.oneCell'=true:=(bd.len h).2;refine bt aE.i λaM ff fg bN cA=>?_;rw[bn aE.p aE.i rfl (aB.ext bN).range];refine bt aE.i λgs fh fi bO ds=>?_;refine bJ (vs:=[Δ k,au,Δ s.zero,am,aw,ay,az,ag]) aE.i rfl rfl dr ds λaC cB fk cC=>?_;have fm:=cz.size;have fo:=bN.size;have z3:=bO.size;have fp:=aB.lt;have fq:=cA.lt;have bP:Ext U aC:=(bN.trans bO).then cB λr J he=>by have he:r=gs:=he;omega
 have dt:=(cA.ext bO).V cB λhe=>by have he:aM=gs:=he;omega
 have cD:=cz.trans bP;have bQ:∀r,R r->r<gs:=λr J=>by have:=X r J;omega
 refine pH (α:=Bool) (R:=R) fl.u eI.i λv5 aD aO du=>?_;have a6:=bP.trans aO;have z4:=bP.size;have z5:=aO.size;rw[aa aE.p rfl,ac (v:=aw) Ψ ((aB.ext a6).cell (o:=0+4) rfl)];refine pI (α:=Bool) fl.u eI.i rfl du (be (be ct cD) aO) (λh=>h) (λr J I al=>by have:=X r al;omega) Θ Θ λbR bk bS cE=>?_;have a7:∀ {ap aq:x2} {b:Nat} {e:u9} {c:List x1},af (λr=>gs<=r) ap aq->b<gs->ae ap b e c->ae aq b e c:=λbT ft h=>h.V bT λI=>by have I:gs<=_:=I;omega
 have a8:∀ {ap aq:x2},Ext w ap->af (λr=>gs<=r) ap aq->Ext w aq:=λdv bT=>dv.then bT λr J h=>by have h:gs<=r:=h;omega
 have fu:=cC.lt;have bU:af (λr=>gs<=r) aD bk:=cE.mono λr _ h=>by have h:aC.heap.size<=r:=h;omega
 have dw:ae bk gs aE [Δ k,au,Δ s.zero,am,aw,ay,az,ag]:=(cC.ext aO).V cE λh=>by have h:aC.heap.size<=gs:=h;omega
 rw[aa aE.p rfl];refine bj (g:=gs) (o:=3) cu.i Ψ rfl dw Ξ λfv dx fw dy=>?_;rw[aa aE.p rfl];refine bj (g:=gs) (o:=4) fl.i (jy bS) (ga bS) dy Ξ λfx dz fy dA=>?_;rw[aa aE.p rfl];refine bj (g:=gs) (o:=5) dF.i Ψ rfl dA Ξ λfz dC fA dD=>?_;rw[aa aE.p rfl];refine bj (g:=gs) (o:=6) b1.i Ψ rfl dD Ξ λbm dE fB bV=>?_;have bV:ae bm gs aE [Δ k,au,Δ s.zero,.slice ν 0 0,bR,.slice ν 0 0,.slice ν 0 0,ag]:=bV;have bX:∀ {ap aq:x2},af (λr=>r=gs) ap aq->af (λr=>gs<=r) ap aq:=λh=>h.mono λr _ h=>by have h:r=gs:=h;omega
 have bo:af (λr=>r=gs) bk bm:=((dx.trans dz).trans dC).trans dE;have bp:Ext w bm:=a8 (a8 (cD.trans aO) bU) (bX bo);have cF:=a7 (bX bo) Ω (a7 bU Ω (aB.ext a6));have dG:=a7 (bX bo) Ω (a7 bU Ω (dt.ext aO));obtain⟨fD,dH⟩:=dj rfl;let Z:ai:=λr=>cq 4 r/\r<w.heap.size;have cG:∀r,Z r->r<gs:=λr h=>by have:=h.2;omega
 let aG:Nat->ai:=λj r=>if j=1 then aC.heap.size<=r else if j=4 then Z r else False;have dI:bd true aG R bm [Δ k,au,Δ s.zero,.slice ν 0 0,bR,.slice ν 0 0,.slice ν 0 0,ag] k sizes s.zero [] (s.vars.map λx=>decide (x.gone≠0)) [] [] (s.elims.map ji):=by
  refine⟨_,_,_,_,_,_,rfl,be cr bp,fs,?_,fs,fs,be bK bp,λ_=>⟨λi j r fE h1 I=>?_,λi r h1 I=>?_⟩⟩
  .have dJ:bf (λr=>aC.heap.size<=r) R bk [bR] (s.vars.map λx=>decide (x.gone≠0)):=ak.mono bS (λr _ h=>by
    rcases h with h|h
    .exact h
    .show aC.heap.size<=r;omega) λ_ _ h=>h
   refine ak.V dJ bo λr J h1 I=>?_;have I:r=gs:=I;subst I;rcases h1 with h1|h1
   .have h1:aC.heap.size<=r:=h1;omega
   .have:=X r h1;omega
  .simp only[aG] at h1 I;split at h1 <;> split at I
   .omega
   .split at I
    .have:=I.2;omega
    .exact I
   .split at h1
    .have:=h1.2;omega
    .exact h1
   .split at h1 <;> split at I
    .omega
    .exact I
    .exact h1
    .exact h1
  .simp only[aG] at h1;have:=X r I;split at h1
   .omega
   .split at h1
    .exact dH 4 r h1 I
    .exact h1
 have dK:∀j r,aG j r->gs<r\/Z r:=λj r h=>by
  simp only[aG] at h;split at h
  .exact .inl Ω
  .split at h
   .exact .inr h
   .exact h.elim
 have dL:∀r,Z r->r<gs/\aG 4 r:=λr h=>⟨cG r h,h⟩;have dM:=be bH bp;rw[aa aE.p rfl,ac (v:=am) Ψ (cF.cell (o:=0+3) rfl),eK cu.u dM,u5];refine bZ.range s.vars.length (λi aD=>Ext w aD/\ae aD bL aE [Δ k,au,Δ s.zero,am,aw,ay,az,ag]/\ae aD aM aE z12/\ ∃A cs,ae aD gs aE cs/\(∀q r,A q r->gs<r\/Z r)/\(∀r,Z r->r<gs/\A 4 r)/\
  bd true A R aD cs k sizes s.zero ((s.vars.take i).map c5) (s.vars.map λx:fQ=>decide (x.gone≠0)) ((s.vars.take i).map λx:fQ=>x.un) [] (s.elims.map ji)) Ω ⟨bp,cF,dG,aG,_,bV,dK,dL,dI⟩ ?_ ?_
 .rintro i dO dP hi ⟨bq,br,bY,A,cs,aP,b0,ba,bb⟩ dQ;obtain⟨x,bu⟩:∃x,s.vars[i]? =σ x:=⟨_,y0 hi⟩;obtain⟨z,cH⟩:∃z,sizes[i]? =σ z:=⟨_,y0 Ω⟩;have fF:=(a2.var i x z bu cH).1;have fG:=a2.e5.2.2 z (x6 cH);have fH:(c5 x).length<=32:=by
   unfold c5;refine X0 (List.length_filter_le _ _) ?_;rw[u5,List.length_range];omega
  have dR:=aP.lt;rw[ao,ad];refine⟨λ_=>?_,λh=>Ω⟩;intro aQ aH _ _;have b2:=bq.trans aH;have fI:=aH.size;have cI:=br.ext aH;obtain⟨d0,cJ⟩:=bb.at 3 Ω;rw[aa aE.p rfl,ac (v:=d0) Ψ ((aP.ext aH).cell (o:=0+3) cJ),aa aE.p rfl,ac (v:=am) Ψ (cI.cell (o:=0+3) rfl)];refine jz (α:=List Int) (a:=c5 x) rfl cu.u ah.i (be bH b2) (by rw[x8,bu];rfl) λfJ fK dS dT cK=>?_;obtain⟨cL,rfl⟩:∃u,dS=[u]:=by obtain⟨u,hu,_⟩:=cK;exact⟨u,hu⟩
  rw[ac (v:=cL) Ψ (by have:=dT 0 cL rfl;simpa using this)];refine pH (α:=Int) (R:=R) ah.u ab.i λfL fM bw dU=>?_;refine⟨.inl bw,?_⟩;refine pI (α:=Int) ah.u ab.i rfl dU (be cK bw) (λh=>h) (λr J I al=>by have:=X r al;have:=b2.size;omega) Ω Ω λcM cN cO cP=>?_;have fN:=bw.size;have fO:=cP.size;have cQ:Ext aQ cN:=bw.then cP λr J h=>by have h:aQ.heap.size<=r:=h;omega
  refine⟨.inl cQ,?_⟩;have cR:bf (λr=>aQ.heap.size<=r) R cN [cM] (c5 x):=ak.mono cO (λr _ h=>by
   rcases h with h|h
   .exact h
   .show aQ.heap.size<=r;omega) λ_ _ h=>h
  refine gK cu.u ah.i Φ (a:=c5 x) (cs:=[cM]) (jy cO) cR λfP fR a6 _ dV=>?_;have aR:=cQ.trans a6;refine⟨.inl aR,?_⟩;have dW:=bb.old.ext (aH.trans aR);refine bd.KV dW (aP.ext (aH.trans aR)) cJ (λq r h=>b0 q r h.1) (λr h=>⟨(ba r h).1,(ba r h).2,by have:=(ba r h).1;omega⟩) bQ dV (be cR a6) (λr J h=>⟨λj I=>by have h:aQ.heap.size<=r:=h;omega,by have h:aQ.heap.size<=r:=h;omega⟩) Θ λfS fU dX b3 b4 cS dY b5 _=>?_;have dZ:Ext w dX:=a8 (b2.trans aR) b3;have ea:=a7 b3 Ω (cI.ext aR);have eb:=a7 b3 Ω ((bY.ext aH).ext aR);have fV:=b4.lt;intro aS aI _ _;have b7:=dZ.trans aI;have fW:=aI.size;have cT:=ea.ext aI;obtain⟨ec,cU⟩:=cS.at 5 Ω;rw[aa aE.p rfl,ac (v:=ec) Ψ ((b4.ext aI).cell (o:=0+5) cU),aa aE.p rfl,ac (v:=ay) Ψ (cT.cell (o:=0+5) rfl)];refine jz (α:=List Int) (a:=x.un) rfl dF.u ax.i (be cw b7) (by rw[x8,bu];rfl) λfX fY bx ed cV=>?_;obtain⟨cW,rfl⟩:∃u,bx=[u]:=by obtain⟨u,hu,_⟩:=cV;exact⟨u,hu⟩
  rw[ac (v:=cW) Ψ (by have:=ed 0 cW rfl;simpa using this)];refine pH (α:=Int) (R:=R) ax.u an.i λfZ gb bz ef=>?_;refine⟨.inl bz,?_⟩;refine pI (α:=Int) ax.u an.i rfl ef (be cV bz) (λh=>h) (λr J I al=>by have:=X r al;have:=b7.size;omega) Ω Ω λcX cY cZ c0=>?_;have gc:=bz.size;have gd:=c0.size;have c1:Ext aS cY:=bz.then c0 λr J h=>by have h:aS.heap.size<=r:=h;omega
  refine⟨.inl c1,?_⟩;have c2:bf (λr=>aS.heap.size<=r) R cY [cX] x.un:=ak.mono cZ (λr _ h=>by
   rcases h with h|h
   .exact h
   .show aS.heap.size<=r;omega) λ_ _ h=>h
  refine gK dF.u ax.i Φ (a:=x.un) (cs:=[cX]) (jy cZ) c2 λgf gg c3 _ eg=>?_;have aT:=c1.trans c3;refine⟨.inl aT,?_⟩;have eh:=cS.old.ext (aI.trans aT);refine bd.KW eh (b4.ext (aI.trans aT)) cU (λq r h=>dY q r h.1) (λr h=>⟨(b5 r h).1,(b5 r h).2,by have:=(b5 r h).1;omega⟩) bQ eg (be c2 c3) (λr J h=>⟨λj I=>by have h:aS.heap.size<=r:=h;omega,by have h:aS.heap.size<=r:=h;omega⟩) Θ λei ej gh b8 ek em en eo _=>?_;rw[aN];refine dQ _ ⟨a8 (b7.trans aT) b8,a7 b8 Ω (cT.ext aT),a7 b8 Ω ((eb.ext aI).ext aT),ei,ej,ek,en,eo,?_⟩;rw[r9,bu,Z9,Z4,Z4];exact em
 rintro dO dP ⟨bq,br,bY,A,cs,aP,b0,ba,bb⟩;rw[o9] at bb;rw[ao,ad];refine⟨λh=>Ω,λ_=>?_⟩;have ep:=be bI bq;have dR:=aP.lt;rw[aa aE.p rfl,ac (v:=az) Ψ (br.cell (o:=0+6) rfl),eK b1.u ep,u5];refine bZ.range s.funs.length (λj W=>Ext w W/\ae W bL aE [Δ k,au,Δ s.zero,am,aw,ay,az,ag]/\ae W aM aE z12/\ ∃A cs,ae W gs aE cs/\(∀q r,A q r->gs<r\/Z r)/\(∀r,Z r->r<gs/\A 4 r)/\
  bd true A R W cs k sizes s.zero (s.vars.map c5) (s.vars.map λx:fQ=>decide (x.gone≠0)) (s.vars.map λx:fQ=>x.un) ((s.funs.take j).map ee) (s.elims.map ji)) Ω ⟨bq,br,bY,A,cs,aP,b0,ba,bb⟩ ?_ ?_
 .rintro j W er c4 ⟨av,b9,bA,bc,bx,aU,bB,bg,aJ⟩ es;obtain⟨f,ca⟩:∃f,s.funs[j]? =σ f:=⟨_,y0 c4⟩;obtain⟨_,gi,gj⟩:=pA a2 (x6 ca);have et:=aU.lt;rw[ao,ad];refine⟨λ_=>?_,λh=>Ω⟩;refine im bW.p rfl b1.u bW.i (be bI av) (by rw[x8,ca];rfl) λgk cb=>?_;have eu:=ak.one cb;have gl:=cb;obtain⟨c6,c7,ev,ew,rfl,_,_,_,⟨bC,c8,ey,ez,rfl,_,_,_,aV,c9,da,gm,eA,rfl,_,_,_,aW,aX⟩,cc⟩:=cb;have aV:Seen R W bC f.sc:=aV;have aW:Seen R W c9 f.szs:=aW;have aX:ak.rep true eA R W da f.cs:=aX;have cc:c7=[.bool (decide (f.live≠0))]:=cc;obtain⟨bh,rfl⟩:∃u,bC=[u]:=by obtain⟨u,hu,_⟩:=aV;exact⟨u,hu⟩
  obtain⟨aZ,rfl⟩:∃u,c9=[u]:=by obtain⟨u,hu,_⟩:=aW;exact⟨u,hu⟩
  obtain⟨v3,rfl⟩:∃u,da=[u]:=by obtain⟨u,hu,_⟩:=aX;exact⟨u,hu⟩
  subst cc;refine bt bW.i λaK gn gp eB eC=>?_;refine bJ (vs:=[bh,aZ,v3,.bool (decide (f.live≠0))]) bW.i rfl rfl eu eC λY eD gq bD=>?_;have cd:Ext W Y:=eB.then eD λr J he=>by have he:r=aK:=he;omega
  refine pH (α:=Int) (R:=R) ax.u an.i λgr gt bE eE=>?_;have db:=cd.trans bE;rw[aa bW.p rfl,aa aY.p rfl,ac (v:=v3) Ψ ((bD.ext bE).cell (o:=0+0+2) rfl)];refine pI (α:=Int) ax.u an.i rfl eE (be aX db) (λh=>h) (λr J I al=>by have:=X r al;have:=(av.trans cd).size;omega) Ω Ω λa1 gu ce cg=>?_;have gv:=cd.size;have gw:=bE.size;have gx:=cg.size;have eF:=(bD.ext bE).V cg λh=>by have h:Y.heap.size<=aK:=h;have:=bD.lt;omega
  rw[aa bW.p rfl,aa aY.p rfl];refine bj (g:=aK) (o:=2) ax.i (jy ce) (ga ce) eF Ξ λbF dc gy ch=>?_;have ch:ae bF aK bW [bh,aZ,a1,.bool (decide (f.live≠0))]:=ch;have gz:W.heap.size<=aK:=Ω
  have gA:=bD.lt;have bG:Ext W bF:=(db.then cg λr J h=>by have h:Y.heap.size<=r:=h;omega).then dc λr J h=>by have h:r=aK:=h;omega
  have eH:bf (λr=>Y.heap.size<=r) R bF [a1] f.cs:=ak.mono (ak.V ce dc λr J h I=>by
   have I:r=aK:=I;rcases h with h|h
   .rcases h with h|h
    .have h:Y.heap.size<=r:=h;omega
    .omega
   .have:=X r h;have:=av.size;omega) (λr _ h=>by
    rcases h with h|h
    .exact h
    .show Y.heap.size<=r;omega) λ_ _ h=>h
  have own:bf (α:=fC) (λr=>Y.heap.size<=r) R bF [bh,aZ,a1,.bool (decide (f.live≠0))] (ee f):=
   ⟨[bh,aZ,a1],[.bool (decide (f.live≠0))],λr=>Y.heap.size<=r,λ_=>False,rfl,λ_ h=>h,λ_ h=>h.elim,λ_ _ _ h=>h,⟨[bh],[aZ,a1],λ_=>False,λr=>Y.heap.size<=r,rfl,λ_ h=>h.elim,λ_ h=>h,λ_ _ h=>h.elim,be aV bG,[aZ],[a1],λ_=>False,λr=>Y.heap.size<=r,rfl,λ_ h=>h.elim,λ_ h=>h,λ_ _ h=>h.elim,be aW bG,eH⟩,rfl⟩
  obtain⟨f0,dd⟩:=aJ.at 6 Ω;rw[aa aE.p rfl,ac (v:=f0) Ψ ((aU.ext bG).cell (o:=0+6) dd),bn bW.p bW.i rfl ch.range];refine gK b1.u bW.i Φ rfl own λgB gC de _ eL=>?_;have bi:=bG.trans de;have eM:=aJ.old.ext bi;refine bd.KX eM (aU.ext bi) dd (λq r h=>bB q r h.1) (λr h=>⟨(bg r h).1,(bg r h).2,by have:=(bg r h).1;omega⟩) bQ eL (be own de) (λr J h=>⟨λj I=>by have h:Y.heap.size<=r:=h;omega,by have h:Y.heap.size<=r:=h;omega⟩) Θ λeO eP gD ci eQ eR eS eU _=>?_;rw[aN];refine es _ ⟨a8 (av.trans bi) ci,a7 ci Ω (b9.ext bi),a7 ci Ω (bA.ext bi),eO,eP,eQ,eS,eU,?_⟩;rw[r9,ca,Z9,Z4];exact eR
 rintro W er ⟨av,b9,bA,bc,bx,aU,bB,bg,aJ⟩;rw[o9] at aJ;rw[ao,ad];refine⟨λh=>Ω,λ_=>?_⟩;have et:=aU.lt;have gE:=av.size;refine pH (α:=ia) (R:=R) eX.u b6.i λgF eV aL eW=>?_;have gH:=aL.size;rw[aa aE.p rfl,ac (v:=ag) Ψ ((b9.ext aL).cell (o:=0+7) rfl)];refine pI (α:=ia) eX.u b6.i rfl eW (be bK (av.trans aL)) (λh=>?_) (λr J I al=>by have:=X r al;omega) Θ Θ λcj gI ck cl=>?_
 .obtain⟨c6,c7,ev,ew,rfl,_,_,_,aV,bC,c8,ey,ez,rfl,_,_,_,aW,aX⟩:=h;exact⟨c6,_,λ_=>False,λ_=>False,rfl,λ_ h=>h,λ_ h=>h,λ_ _ h=>h.elim,aV,bC,c8,λ_=>False,λ_=>False,rfl,λ_ h=>h,λ_ h=>h,λ_ _ h=>h.elim,aW,aX⟩
 have gJ:=cl.size;have eY:=(aU.ext aL).V cl λh=>by have h:W.heap.size<=gs:=h;omega
 rw[aa aE.p rfl];refine bj (g:=gs) (o:=7) eX.i (jy ck) (ga ck) eY (by rw[(bd.len aJ).1];omega) λcm df gL eZ=>?_;have cn:af (λr=>W.heap.size<=r\/r=gs) eV cm:=(cl.mono λr _ h=>.inl h).trans (df.mono λr _ h=>.inr h);have e0:bf (λr=>W.heap.size<=r) R cm [cj] (s.elims.map ji):=ak.mono (ak.V ck df λr J h I=>by
  have I:r=gs:=I;rcases h with h|h
  .rcases h with h|h
   .have h:W.heap.size<=r:=h;omega
   .omega
  .have:=X r h;omega) (λr _ h=>by
   rcases h with h|h
   .exact h
   .show W.heap.size<=r;omega) λ_ _ h=>h
 have e1:=(aJ.old).ext aL;have e2:∀j,¬bc j gs:=λj h=>(bB j gs h).elim (λh=>Ω) λh=>by have:=cG gs h;omega
 have e3:∀i j r,i≠j->bc i r->¬bc j r:=by obtain⟨_,_,_,_,_,_,_,_,_,_,_,_,_,e4⟩:=id aJ;exact (e4 rfl).1
 have dg:=e1.Bl (x:=cj) cn (λr J=>?_) e0 (λj r c4 J I=>by have J:W.heap.size<=r:=J;have:=I.2;omega) (λr J I=>by have J:W.heap.size<=r:=J;have:=X r I;omega)
 rotate_left
 .refine .inr ⟨λj I=>?_,λI=>?_⟩
  .rcases J with J|rfl
   .have:=I.2;omega
   .exact e2 j I.1
  .have:=X r I;rcases J with J|J <;> omega
 obtain⟨cp,e6⟩:=dg.len;have e7:ae cm aM aE z12:=(bA.ext aL).V cn λh=>by
  rcases h with h|h
  .have:=bA.lt;omega
  .omega
 rw[bn aE.p aE.i cp eZ.range];refine bJ (vs:=bx.set 7 cj) aE.i cp rfl e6 e7 λgM dh gN e8=>?_;rw[eJ aE.p aE.i cp e8.range];have di:∀q r,dN (λi r=>bc i r/\r<W.heap.size) 4 (λr=>W.heap.size<=r) q r->gs<r:=λq r h=>by
  unfold dN at h;split at h
  .have h:W.heap.size<=r:=h;omega
  .rename_i e9;exact (bB q r h.1).resolve_right λI=>e3 q 4 r e9 h.1 (bg r I).2
 have fa:=dg.V dh λr J h he=>by
  have he:r=aM:=he;rcases h with⟨q,h⟩|h
  .have:=di q r h;omega
  .have:=X r h;omega
 refine⟨((av.trans aL).then cn λr J h=>?_).then dh λr J h=>by have h:r=aM:=h;omega,_,_,rfl,fa,λq r h=>by have:=di q r h;omega⟩;rcases h with h|h <;> omega
theorem rI {T:Nat->Prop} (h:af S w w') (k:af T w w'):af (λr=>S r/\T r) w w':=
 ⟨h.size,λr o J I V=>by
  by_cases U:S r
  .exact k.a7 r o J I λW=>V ⟨U,W⟩
  .exact h.a7 r o J I U⟩
structure de where
 d:Int
 i:Int
 v:Int
 j:Int
 c:Int
 t:List Int
 sc:List Int
 co:List Int
 kN:Bool
def de.ok (a:de):Prop:=(0<=a.d/\a.d<256)/\(-9223372036854775808<=a.i/\a.i<9223372036854775808)/\(-9223372036854775808<=a.v/\a.v<9223372036854775808)/\(-9223372036854775808<=a.j/\a.j<9223372036854775808)/\(-9223372036854775808<=a.c/\a.c<9223372036854775808)/\(∀x∈a.t,-9223372036854775808<=x/\x<9223372036854775808)/\(∀x∈a.sc,-9223372036854775808<=x/\x<9223372036854775808)/\ ∀x∈a.co,0<=x/\x<65536
def pJ (w:x2) (db:x1) (a:de):Prop:=a.ok/\ ∃aD ay ch,db= .agg #[.int .u8 a.d,Δ a.i,Δ a.v,Δ a.j,Δ a.c,aD,ay,ch,.bool a.kN]/\aI .i64 w aD a.t/\aI .i64 w ay a.sc/\aI .u16 w ch a.co
theorem pJ.ext {db:x1} {a:de} (h:pJ w db a) (I:Ext w w'):pJ w' db a:=by
 obtain⟨J,aD,ay,ch,h1,U,V,W⟩:=h;exact⟨J,aD,ay,ch,h1,U.ext I,V.ext I,W.ext I⟩
def b5 (k:Int) (a:de):Int:=if a.kN then a.c.emod 18446744073709551616 % (k+1) else a.c
structure dO (w:x2) (g:Nat) (k:Int) (a:de) (aD ay ch:x1) (B:Nat):Prop where
 cU:ae w g aR [.int .u8 a.d,Δ a.i,Δ a.v,Δ a.j,Δ (b5 k a),aD,ay,ch,.bool a.kN]
 t:∃g,aq .i64 ab w g aD (a.t.take 40)
 sc:∃g,aq .i64 ab w g ay (a.sc.take 4)
 low:B<=g/\ ∀r,leads aD r\/leads ay r->B<=r
theorem dO.V {g:Nat} {a:de} {ch:x1} {S:ai} (h:dO w g k a aD ay ch B) (U:af S w w') (W:∀r,r<w.heap.size->S r->r<B):dO w' g k a aD ay ch B:=by
 obtain⟨h1,⟨ab,Y⟩,⟨ac,aa⟩,ad,X⟩:=h;refine⟨h1.V U λI=>?_,⟨ab,bb Y U λr J I=>?_⟩,⟨ac,bb aa U λr J I=>?_⟩,ad,X⟩
 .have:=W g h1.lt I;omega
 .obtain⟨ae,ag⟩:=bA Y J;have:=W r Ω I;have:=X r (.inl J);omega
 .obtain⟨ae,ag⟩:=bA aa J;have:=W r Ω I;have:=X r (.inr J);omega
theorem dO.ext {g:Nat} {a:de} {ch:x1} (h:dO w g k a aD ay ch B) (I:Ext w w'):dO w' g k a aD ay ch B:=h.V (I.V λ_=>False) λ_ _ h=>h.elim
theorem jU {A R:ai} {n:aV} {s:aF} {t:aC} (h:b9 w al ag A R n s t):∀r,A r\/R r->r<w.heap.size:=λr I=>by
 obtain⟨V,W,X,Y,⟨_,_,J,U⟩,_⟩:=h.1;exact I.elim (U r) (J r)
structure bG (w:x2) (al ag am:Nat) (A R:ai) (A9:Nat->ai) (aO:ai) (n:aV) (s u:aF) (t:aC) (h:List aC) (cs:List x1):Prop where
 cc:b9 w al ag A R n s t
 gm:dp t h
 box:ae w am aE cs
 doc:fj true A9 aO w cs n.k n.sizes u
 apart:∀q r,A9 q r->¬A r/\¬R r/\r≠am
 read:∀r,aO r->¬dd w r/\r<w.heap.size/\r≠am
 out:¬A am/\¬R am
section
variable {w w':x2} {al ag am:Nat} {A R:ai} {A9:Nat->ai} {aO:ai} {n:aV} {s u:aF} {t:aC} {h:List aC} {cs:List x1}
theorem bG.ext (p:bG w al ag am A R A9 aO n s u t h cs) (J:Ext w w'):bG w' al ag am A R A9 aO n s u t h cs:=
 ⟨p.cc.ext J,p.gm,p.box.ext J,p.doc.ext J,p.apart,λr U=>⟨λh=>(p.read r U).1 (ll (λo V I _=>J.a7 r o V I) h),by have:=(p.read r U).2.1;have:=J.size;omega,(p.read r U).2.2⟩,p.out⟩
theorem bG.prog {Y R':ai} {s':aF} {aa:aC} {h':List aC} (p:bG w al ag am A R A9 aO n s u t h cs) (ab:af (dd w) w w') (W:Grow A w Y w') (ad:b9 w' al ag Y R' n s' aa) (X:dp aa h') (ac:∀r,R' r->R r\/B<=r) (ae:∀q r,A9 q r->r<w.heap.size->r<B) (an:am<B):
  bG w' al ag am Y R' (λq r=>A9 q r/\r<w.heap.size) aO n s' u aa h' cs:=by
 have ao:=p.box.lt;have z:=ab.size;refine⟨ad,X,p.box.V W.1 p.out.1,bd.V p.doc.old (rI ab W.1) λr U h X=>?_,λq r h=>⟨λJ=>?_,λU=>(ac r U).elim (p.apart q r h.1).2.1 λah=>by have:=ae q r h.1 h.2;omega,(p.apart q r h.1).2.2⟩,λr U=>⟨λh=>?_,by have:=(p.read r U).2.1;omega,(p.read r U).2.2⟩,λJ=>?_,λU=>(ac am U).elim p.out.2 λah=>Ω⟩
 .rcases h with⟨q,h⟩|h
  .exact (p.apart q r h.1).1 X.2
  .exact (p.read r h).1 X.1
 .rcases W.2.1 r J with J|J
  .exact (p.apart q r h.1).1 J
  .have:=h.2;omega
 .exact (p.read r U).1 (ll (λo aj I ak=>ab.a7 r o aj I ak) h)
 .rcases W.2.1 am J with J|J
  .exact p.out.1 J
  .omega
theorem bG.uQ {S:ai} {bK:Nat->ai} {u':aF} {bl:List x1} (p:bG w al ag am A R A9 aO n s u t h cs) (W:af S w w') (aa:∀r,r<w.heap.size->S r->(∃q,A9 q r)\/r=am) (ab:ae w' am aE bl) (ac:fj true bK aO w' bl n.k n.sizes u') (ad:∀q r,bK q r->(∃X,A9 X r)\/(¬A r/\¬R r/\r≠am)):
  bG w' al ag am A R bK aO n s u' t h bl:=by
 have an:=p.box.lt;have z:=W.size;have ah:∀q r,A9 q r->¬aO r:=by obtain⟨_,_,_,_,_,_,_,_,_,_,_,_,_,aj⟩:=p.doc;exact (aj rfl).2
 refine⟨⟨p.cc.1.V W λr U h I=>?_,p.cc.2⟩,p.gm,ab,ac,λq r h=>?_,λr U=>⟨λh=>(p.read r U).1 (ll (λo ak I _=>W.a7 r o ak I λJ=>?_) h),by have:=(p.read r U).2.1;omega,(p.read r U).2.2⟩,p.out⟩
 .rcases aa r U I with⟨q,J⟩|J
  .exact h.elim (p.apart q r J).1 (p.apart q r J).2.1
  .subst J;exact h.elim p.out.1 p.out.2
 .rcases ad q r h with⟨X,J⟩|J
  .exact p.apart X r J
  .exact J
 .rcases aa r (p.read r U).2.1 J with⟨q,Y⟩|Y
  .exact ah q r Y U
  .exact (p.read r U).2.2 Y
theorem bG.KZ {S:ai} {bK:Nat->ai} {u':aF} {bl:List x1} (p:bG w al ag am A R A9 aO n s u t h cs) (J:∀r,A r\/R r->r<B) (ab:am<B) (U:af S w w') (V:∀r,r<w.heap.size->S r->(∃q,A9 q r)\/r=am) (W:ae w' am aE bl) (X:fj true bK aO w' bl n.k n.sizes u') (Y:∀q r,bK q r->(∃aa,A9 aa r)\/B<=r):
  bG w' al ag am A R bK aO n s u' t h bl:=
 p.uQ U V W X λq r h=>(Y q r h).imp id λac=>⟨λI=>by have:=J r (.inl I);omega,λI=>by have:=J r (.inr I);omega,Ω⟩
theorem bG.uR {S:ai} {bK:Nat->ai} {u':aF} {bl:List x1} (p:bG w al ag am A R A9 aO n s u t h cs) (I:af S w w') (J:∀r,r<w.heap.size->S r->(∃q,A9 q r)\/r=am) (U:ae w' am aE bl) (V:fj true bK aO w' bl n.k n.sizes u') (W:∀q r,bK q r->(∃X,A9 X r)\/w.heap.size<=r):
  bG w' al ag am A R bK aO n s u' t h bl:=p.KZ (jU p.cc) p.box.lt I J U V W
theorem bG.look (p:bG w al ag am A R A9 aO n s u t h cs):kM w am n.k n.sizes u:=by
 refine iH.box p.doc.KM (Ext.refl _) ?_;have:=p.box;exact this
theorem bG.Bo (p:bG w al ag am A R A9 aO n s u t h cs):∃au I J U V W,cs=[Δ n.k,au,Δ u.zero,I,J,U,V,W]/\aI .i64 w au n.sizes:=by
 obtain⟨au,I,J,U,V,W,h1,X,_⟩:=p.doc;exact⟨au,I,J,U,V,W,h1,dR X⟩
end
section
variable {w:x2} {al ag am:Nat} {A R:ai} {A9:Nat->ai} {aO:ai} {n:aV} {s u:aF} {t:aC} {h:List aC} {cs:List x1}
theorem K0 {w0:x2} {a:de} {W ch:x1} {aU:Nat} {K:x1->x1->x1->x2->Prop} (p:bG w0 al ag am A R A9 aO n s u t h cs) (bV:a.ok) (aJ:aI .i64 w0 aD a.t) (I:aI .i64 w0 ay a.sc) (bW:W=Γ aU)
  (ba:Ext w0 w) (bX:w0.heap.size<=aU) (aW:ae w aU aR [.int .u8 a.d,Δ a.i,Δ a.v,Δ a.j,Δ a.c,aD,ay,ch,.bool a.kN])
  (bY:∀aK aL w',Ext w0 w'->dO w' aU n.k a aK aL ch w0.heap.size->K (.bool (decide (ez n a.i a.v))) (.bool (decide (0<=b5 n.k a/\b5 n.k a<=n.k))) (.int .u8 (a.d % 9)) w'):
 bx (α:=x2->Prop) (λ(ax:x2)=>
  cj ax λX=>
  J x3 (x7 aR W 5) X λbZ=>
  J x3 (x5 ah bZ) X λb1=>
  J x3 (x7 aR W 5) X λb2=>
  J x3 (x5 ah b2) X λt45=>
  J x3 (Y3 #[ah] ab #[t45]) X λt46=>
  J x3 (l5.min_ #[ab,ab] ab #[t46,(Δ 40)]) X λb3=>
  J x3 (W3 ah b1 ν (σ b3) ν) X λb4=>
  J x3 (x7 aR W 6) X λt50=>
  J x3 (x5 ah t50) X λbb=>
  J x3 (x7 aR W 6) X λbc=>
  J x3 (x5 ah bc) X λt53=>
  J x3 (Y3 #[ah] ab #[t53]) X λbd=>
  J x3 (l5.min_ #[ab,ab] ab #[bd,(Δ 4)]) X λt55=>
  J x3 (W3 ah bb ν (σ t55) ν) X λbt=>
  aj x3 qj [b4] X λb6 Y=>
   (Ext X Y\/bk x3 (W3 ah bb ν (σ t55) ν) bt Y/\bk x3 (l5.min_ #[ab,ab] ab #[bd,(Δ 4)]) t55 Y/\bk x3 (Y3 #[ah] ab #[t53]) bd Y/\bk x3 (x5 ah bc) t53 Y/\bk x3 (x7 aR W 6) bc Y/\bk x3 (x5 ah t50) bb Y/\bk x3 (x7 aR W 6) t50 Y/\True)/\
  J x3 (x7 aR W 5) Y λbu=>
   aj x3 qj [bt] Y λb7 aY=>
   (Ext Y aY\/bk x3 (x7 aR W 5) bu aY/\True)/\
   az x3 (o4 ah bu b6) aY λ(_:Unit) be=>
    J x3 (x7 aR W 6) be λb8=>
    az x3 (o4 ah b8 b7) be λ(_:Unit) aZ=>
    bx (α:=x1->x2->Prop) (λ(value:x1) (aM:x2)=>
   cj aM λap=>
   J x3 (x7 aR W 4) ap λb9=>
   J x3 (x5 an b9) ap λca=>
   J x3 (aX (Γ am)) ap λcd=>
   J x3 (x7 aE cd 0) ap λce=>
   J x3 (x5 an ce) ap λcg=>
   aj x3 wu [ca,cg] ap λci aA=>
    J x3 (x7 aR W 0) aA λck=>
   J x3 (x5 cr ck) aA λcl=>
   J x3 (aB .rem cr false true cl (.int .u8 9)) aA λcm=>K value ci cm aA) λbf=>
  cj aZ λaQ=>
  J x3 (aX (Γ am)) aQ λcn=>
  J x3 (x5 aE cn) aQ λcp=>
  J x3 (x7 aR W 1) aQ λcq=>
  J x3 (x5 ab cq) aQ λct=>
  aj x3 mT [cp,ct] aQ λcu U=>
   Split cu (J x3 (x7 aR W 2) U λcw=>
   J x3 (x5 ab cw) U λcz=>
   J x3 (aB .geq ab false true cz (Δ 0)) U λcA=>
   Split cA (J x3 (x7 aR W 2) U λcB=>
   J x3 (x5 ab cB) U λcC=>
   J x3 (aX (Γ am)) U λcD=>
   J x3 (x7 aE cD 1) U λt76=>
   J x3 (x5 ah t76) U λt77=>
   J x3 (x7 aR W 1) U λcE=>
   J x3 (x5 ab cE) U λcF=>
   J x3 (aX (Γ am)) U λcG=>
   J x3 (x7 aE cG 1) U λcH=>
   J x3 (x5 ah cH) U λcI=>
   J x3 (Y3 #[ah] ab #[cI]) U λcJ=>
   J x3 (aB .sub ab false true cJ (Δ 1)) U λcK=>
   J x3 (l5.min_ #[ab,ab] ab #[cF,cK]) U λcM=>
   J x3 (l5.max_ #[ab,ab] ab #[cM,(Δ 0)]) U λcN=>
   J x3 (n0 ah t77 cN) U λcO=>
   J x3 (x5 ab cO) U λcP=>
   J x3 (aB .lss ab false false cC cP) U λcQ=>
   bf cQ U)
   (bf (.bool false) U))
   (bf (.bool false) U)) λa1=>
 J x3 (x7 aR W 8) w λcR=>
 J x3 (x5 eI cR) w λcS=>
 Split cS (cj w λai=>
  J x3 (x7 aR W 4) ai λcT=>
  J x3 (x5 an cT) ai λcV=>
  J x3 (convert an eo cV) ai λcW=>
  J x3 (aX (Γ am)) ai λcY=>
  J x3 (x7 aE cY 0) ai λcZ=>
  J x3 (x5 an cZ) ai λc0=>
  J x3 (aB .add an false true c0 (Δ 1)) ai λc1=>
  J x3 (convert an eo c1) ai λc2=>
  J x3 (aB .rem eo false false cW c2) ai λt39=>
  J x3 (convert eo an t39) ai λc3=>
  J x3 (x7 aR W 4) ai λc4=>
  az x3 (o4 an c4 c3) ai λ(_:Unit) c5=>
  a1 c5)
  (a1 w):=by
 have av:=p.cc.2.2.2.1;have bw:=av.jM;have bz:=av.e5.1;have c6:=av.e5.2.1;subst bW;have av:=p.cc.2.2.2.1;have bw:=av.jM;have bz:=av.e5.1;have c6:=av.e5.2.1;obtain⟨c7,dp,dq,dr,ds,_⟩:=bV;obtain⟨au,du,dv,dw,dx,dy,rfl,c8⟩:=p.Bo;have bg:∀ {bB bC:x2},Ext w0 bB->af (λr=>r=aU) bB bC->Ext w0 bC:=λc9 da=>c9.then da λr aq he=>by have he:r=aU:=he;omega
 refine dt (λax=>Ext w0 ax/\ae ax aU aR [.int .u8 a.d,Δ a.i,Δ a.v,Δ a.j,Δ (b5 n.k a),aD,ay,ch,.bool a.kN]) ?_ ?_
 rotate_left
 .intro a1 aC;rw[aa aR.p rfl,ac (v:=.bool a.kN) Ψ (aW.cell (o:=0+8) rfl),bH];refine⟨λaJ=>?_,λdb=>aC _ ⟨ba,by unfold b5;rw[db] at aW ⊢;exact aW⟩⟩;intro ax aT _ _;have a2:=aW.ext aT;rw[aa aR.p rfl,ac (v:=Δ a.c) Ψ (a2.cell (o:=0+4) rfl),eZ an.u eo.u,aw,aa aE.p rfl,ac (v:=Δ n.k) Ψ ((p.box.ext (ba.trans aT)).cell (o:=0+0) rfl),aN,wrap_i64 Ω Ω,eZ an.u eo.u,wrap_u64 (x:=n.k+1) Ω Ω];have hu:U3.wrap a.c=a.c.emod 18446744073709551616:=rfl;have aq:0<=a.c.emod 18446744073709551616:=Int.emod_nonneg _ Φ;have dz:=Int.emod_nonneg (a.c.emod 18446744073709551616) (show n.k+1≠0 by omega);have bz:=Int.emod_lt_of_pos (a.c.emod 18446744073709551616) (show 0<n.k+1 by omega);rw[hu,kh Ω,Int.tmod_eq_emod_of_nonneg aq,eZ eo.u an.u,wrap_i64 Ω Ω,aa aR.p rfl];refine bj (o:=0+4) an.i rfl rfl a2 Ξ λX dc bh ak=>?_;refine aC _ ⟨bg (ba.trans aT) dc,?_⟩;unfold b5;rw[aJ,if_pos rfl];rw[aJ] at ak;exact ak
 rintro ax ⟨aT,a2⟩;intro X bD _ _;have a6:=aT.trans bD;have ak:=a2.ext bD;have bE:=aJ.ext a6;have bh:=I.ext a6;obtain⟨_,_,_,dA⟩:=b0 aJ;obtain⟨_,_,_,dC⟩:=b0 I;have dd:a.t.take (min a.t.length 40)=a.t.take 40:=by
  by_cases h:a.t.length<=40
  .rw[T5 h,o9,Z0 h]
  .rw[Nat.min_eq_right Ω]
 have df:a.sc.take (min a.sc.length 4)=a.sc.take 4:=by
  by_cases h:a.sc.length<=4
  .rw[T5 h,o9,Z0 h]
  .rw[Nat.min_eq_right Ω]
 rw[aa aR.p rfl,ac (v:=aD) Ψ (ak.cell (o:=0+5) rfl),aa aR.p rfl,ac (v:=aD) Ψ (ak.cell (o:=0+5) rfl),aS ah.u bE,ik];refine s4 (i:=min a.t.length 40) Ω ah.u ab.i bE Ω λdD bF=>?_;rw[dd] at bF;rw[aa aR.p rfl,ac (v:=ay) Ψ (ak.cell (o:=0+6) rfl),aa aR.p rfl,ac (v:=ay) Ψ (ak.cell (o:=0+6) rfl),aS ah.u bh,ik];refine s4 (i:=min a.sc.length 4) Ω ah.u ab.i bh Ω λdE bI=>?_;rw[df] at bI;refine (hA bF (by rw[o7];omega)).mono ?_;rintro aK Y _ ⟨aV,dg,dF,bi⟩;refine⟨.inl aV,?_⟩;rw[aa aR.p rfl];refine (hA (bI.ext aV) (by rw[o7];omega)).mono ?_;rintro aL aY _ ⟨a7,dh,dG,bl⟩;refine⟨.inl a7,?_⟩;obtain⟨_,_,_,bJ⟩:=b0 bi.ls;obtain⟨_,_,_,bK⟩:=b0 bl.ls;have z3:=a6.size;have z4:=aV.size;have di:=(ak.ext aV).ext a7;have dH:=ak.lt;refine bj (o:=0+5) (v:=aK) ah.i (by rw[bJ];rfl) (by rw[bJ];rfl) di Ξ λbe bm dI dj=>?_;rw[aa aR.p rfl];refine bj (o:=0+6) (v:=aL) ah.i (by rw[bK];rfl) (by rw[bK];rfl) dj Ξ λaZ bn dJ dk=>?_;have dl:=(a6.trans aV).trans a7;have a8:=bg (bg dl bm) bn;have bL:dO aZ aU n.k a aK aL ch w0.heap.size:=by
  refine⟨dk,⟨dg,((bi.ext a7).V bm Ω).V bn Ω⟩,⟨dh,(bl.V bm Ω).V bn Ω⟩,bX,λr aq=>?_⟩;rcases aq with aq|aq
  .obtain⟨bo,_⟩:=bA bi aq;omega
  .obtain⟨bo,_⟩:=bA bl aq;omega
 refine aP (λv aM=>v= .bool (decide (ez n a.i a.v))/\Ext aZ aM) ?_ ?_
 .rintro _ aM ⟨rfl,aF⟩;intro ap aG _ _;have bp:=aF.trans aG;have aH:=bL.ext bp;rw[aa aR.p rfl,ac (v:=Δ (b5 n.k a)) Ψ (aH.cU.cell (o:=0+4) rfl),aw,aa aE.p rfl,ac (v:=Δ n.k) Ψ ((p.box.ext (a8.trans bp)).cell (o:=0+0) rfl)];refine (E8 (a:=b5 n.k a) (k:=n.k)).mono ?_;rintro _ aA _ ⟨rfl,bM⟩;have bN:=aH.ext bM;rw[aa aR.p rfl,ac (v:=.int .u8 a.d) Ψ (bN.cU.cell (o:=0+0) rfl),kh Φ,Int.tmod_eq_emod_of_nonneg c7.1];have bo:decide (cL (b5 n.k a) n.k)=decide (0<=b5 n.k a/\b5 n.k a<=n.k):=decide_eq_decide.2 ⟨λh=>h.2,λh=>⟨bw,h⟩⟩;rw[bo];exact bY aK aL aA ((a8.trans bp).trans bM) bN
 intro a1 aC aM aF _ _;have bO:=bL.ext aF;have bP:=p.ext (a8.trans aF);rw[aw];refine bP.look.load λdK dm=>?_;rw[aa aR.p rfl,ac (v:=Δ a.i) Ψ (bO.cU.cell (o:=0+1) rfl)];refine (pF (i:=a.i) dm).mono ?_;rintro _ ap _ ⟨rfl,aG⟩;have aH:=bO.ext aG;have bQ:=(bP.ext aG).box;have bR:=((c8.ext a8).ext aF).ext aG;have bq:=aF.trans aG;rw[ad];refine⟨λbS=>?_,λdn=>aC _ _ ⟨by rw[decide_eq_false];exact λh=>dn ⟨h.1,h.2.1⟩,bq⟩⟩;rw[aa aR.p rfl,ac (v:=Δ a.v) Ψ (aH.cU.cell (o:=0+2) rfl),cb,ad];refine⟨λbr=>?_,λbr=>aC _ _ ⟨by rw[decide_eq_false];exact λh=>br h.2.2.1,bq⟩⟩;obtain⟨z,bT⟩:∃z,n.sizes[a.i.toNat]? =σ z:=⟨_,y0 Ω⟩;have bU:n.sizes.getD a.i.toNat 0=z:=by rw[u4,bT];rfl
 rw[aa aR.p rfl,ac (v:=Δ a.v) Ψ (aH.cU.cell (o:=0+2) rfl),aw,aa aE.p rfl,ac (v:=au) Ψ (bQ.cell (o:=0+1) rfl),aa aR.p rfl,ac (v:=Δ a.i) Ψ (aH.cU.cell (o:=0+1) rfl),aw,aa aE.p rfl,ac (v:=au) Ψ (bQ.cell (o:=0+1) rfl),
  aS ah.u bR,cX,wrap_i64 Ω Ω,ik,qy,dZ (y:=max (min a.i ((n.sizes.length:Int)-1)) 0) (i:=a.i.toNat) Ω ah.u ab.i Ψ bR bT,ao]
 refine aC _ _ ⟨?_,bq⟩;congr 1;exact decide_eq_decide.2 ⟨λh=>⟨bS.1,bS.2,br,by rw[bU];exact h⟩,λh=>by have:=h.2.2.2;rw[bU] at this;exact this⟩
end
end Go.Proofs.YtgbkinibgjmodaaGreatDoor
namespace Go.Vc
open Go Go.RowKit
section
variable {P:W5} {w:x2} {α:Type} [ak α] {S R:ai}
theorem K1 {l:List α} {i:Nat} {a:α} (h:bf S R w [v] l) (ae:l[i]? =σ a) (ax:∀r,r<w.heap.size->S r->¬R r):∃g cap c F,v= .slice (σ ⟨g,0,ν⟩) l.length cap/\w.rangeAt g (i*ak.n α) c/\bf F R w c a/\(∀r,F r->S r)/\
  ∀ {w':x2} {a':α} {T X:ai},af T w w'->(∀r,r<w.heap.size->T r->F r)->bf X R w' c a'->(∀r,X r->F r\/w.heap.size<=r)->bf (λr=>S r\/w.heap.size<=r) R w' [v] (l.set i a'):=by
 have aJ:=(x4.1 ae).1;obtain⟨vs,g,F,U,he,I,hm⟩:=fZ h;obtain⟨ay,ag,ah⟩:=hm rfl;obtain⟨aK,⟨rfl,aL⟩|⟨cap,full,rfl,aj,aM,aN,aO,aP⟩⟩:=id ah
 .omega
 have az:vs.length=l.length:=he.1;have al:S g:=ay.resolve_left Ξ;obtain⟨c,aa⟩:∃c,vs[i]? =σ c:=⟨_,y0 Ω⟩;have aA:=he.2 i c a aa ae;refine⟨g,cap,c,F i,rfl,?_,aA,λr J=>U.sub i r J,λ{w' a' T X} am an ao ab=>?_⟩
 .obtain⟨_,aQ,o',aR,aS,aB,_,_,aC,_,aD⟩:=I;cases aB;cases aC Ω;intro j u aE;have ap:=aD (i*ak.n α+j) u (by rw[<-List.flatMap_id];exact mg (f:=id) (k:=ak.n α) (λx aF=>he.len x aF) aa aE);rw[V1] at ap;exact ap
 have aG:¬T g:=λh=>U.top rfl i (an g aj.lt h);have aT:=ak.len ao;have aU:vs.set i c=vs:=by
  refine X6 λq=>?_;rw[X5];by_cases aq:i=q
  .subst aq;rw[if_pos rfl,if_pos Ω,aa]
  .rw[if_neg aq]
 have au:bQ w' g ag (ak.n α) (.slice (σ ⟨g,0,ν⟩) l.length cap) (l.set i a').length vs.flatten:=by
  rw[X1];exact ah.V am λ_=>aG
 refine⟨_,rfl,vs,g,λj r=>if j=i then X r else F j r/\r<w.heap.size,⟨λj r J=>?_,λ_ j J=>?_,λ_ j q r aH h1 W=>?_⟩,⟨by simp[az],λj av aw ad ac=>?_⟩,?_,λ_=>⟨.inr (.inl al),ag,au⟩⟩
 .split at J
  .exact (ab r J).imp (U.sub i r) id
  .exact .inl (U.sub j r J.1)
 .split at J
  .rcases ab g J with h|h
   .exact U.top rfl i h
   .have:=aj.lt;omega
  .exact U.top rfl j J.1
 .split at h1 <;> split at W
  .omega
  .rcases ab r h1 with h|h
   .rename_i e _;exact U.gJ rfl i q r Ω h W.1
   .have:=W.2;omega
  .rcases ab r W with h|h
   .exact U.gJ rfl j i r Ω h1.1 h
   .have:=h1.2;omega
  .exact U.gJ rfl j q r aH h1.1 W.1
 .by_cases Y:j=i
  .subst Y;rw[aa] at ad;rw[V5 Ω] at ac;cases ad;cases ac;exact ak.mono ao (λr _ h=>by simpa using h) λ_ _ h=>h
  .rw[W6 (T7 Y)] at ac;have aI:bf (λr=>if j=i then X r else F j r/\r<w.heap.size) R w av aw:=ak.mono (he.2 j av aw ad ac) (λr J h=>by rw[if_neg Y];exact⟨h,J⟩) λ_ _ h=>h;refine ak.V aI am λr J h1 W=>?_;have W:=an r J W;rcases h1 with h1|h1
   .simp only[if_neg Y] at h1;exact U.gJ rfl j i r Y h1.1 W
   .exact ax r J (U.sub i r W) h1
 .have:=lX (S:=λr=>(S r\/w.heap.size<=r)\/R r) au (.inr (.inl (.inl al)));exact this
theorem uS {l:List α} {i:Nat} {a:α} (h:bf S R w [v] l) (an:l[i]? =σ a) (ao:∀r,r<w.heap.size->S r->¬R r):∃g cap full X c F,v= .slice (σ ⟨g,0,ν⟩) l.length cap/\ae w g X full/\S g/\i*ak.n α+ak.n α<=full.length/\(∀ (q:Nat) x,c[q]? =σ x->full[i*ak.n α+q]? =σ x)/\bf F R w c a/\(∀r,F r->S r)/\¬F g/\
  ∀ {w':x2} {a':α} {Y:List x1} {T ab:ai},af T w w'->(∀r,r<w.heap.size->T r->F r\/r=g)->ae w' g X (over full (i*ak.n α) Y)->bf ab R w' Y a'->(∀r,ab r->F r\/w.heap.size<=r)->bf (λr=>S r\/w.heap.size<=r) R w' [v] (l.set i a'):=by
 have aC:=(x4.1 an).1;obtain⟨vs,g,F,W,he,I,hm⟩:=fZ h;obtain⟨aD,X,aE⟩:=hm rfl;obtain⟨aQ,⟨rfl,aR⟩|⟨cap,full,rfl,ap,aq,aF,au,av⟩⟩:=id aE
 .omega
 have aw:vs.length=l.length:=he.1;have ad:S g:=aD.resolve_left Ξ;obtain⟨c,aj⟩:∃c,vs[i]? =σ c:=⟨_,y0 Ω⟩;have aG:=he.2 i c a aj an;have aH:(i+1)*ak.n α<=l.length*ak.n α:=X3 _ aC;have aI:l.length*ak.n α<=full.length:=by rw[au];exact X3 _ aq
 rw[U2,Nat.one_mul] at aH;refine⟨g,cap,full,X,c,F i,rfl,ap,ad,Ω,λq x ax=>?_,aG,λr U=>W.sub i r U,W.top rfl i,λ{w' a' Y T ab} aJ aK aL ay ag=>?_⟩
 .have al:=mg (f:=id) (k:=ak.n α) (λx aM=>he.len x aM) aj ax;rw[List.flatMap_id,<-av] at al;have aS:=(x4.1 ax).1;have am:=he.len c (x6 aj);rw[Y2 Ω] at al;exact al
 have am:=ak.len ay;have aN:∀c∈vs.set i Y,c.length=ak.n α:=λc aa=>by
  rcases V3 aa with J|rfl
  .exact he.len c J
  .exact am
 have az:bQ w' g X (ak.n α) (.slice (σ ⟨g,0,ν⟩) l.length cap) (l.set i a').length (vs.set i Y).flatten:=by
  refine⟨by rw[ov aN,X1,X1,aw],.inr ⟨cap,_,by rw[X1],aL,by rw[X1];exact aq,aF,by rw[km,au],?_⟩⟩;rw[X1,q4 Ω aI,av,Bj he.len am Ω]
 refine⟨_,rfl,vs.set i Y,g,λj r=>if j=i then ab r else F j r/\r<w.heap.size,⟨λj r U=>?_,λ_ j U=>?_,λ_ j q r aO h1 J=>?_⟩,⟨by simp[aw],λj aA aB aa ah=>?_⟩,?_,λ_=>⟨.inr (.inl ad),X,az⟩⟩
 .split at U
  .exact (ag r U).imp (W.sub i r) id
  .exact .inl (W.sub j r U.1)
 .split at U
  .rcases ag g U with h|h
   .exact W.top rfl i h
   .have:=ap.lt;omega
  .exact W.top rfl j U.1
 .split at h1 <;> split at J
  .omega
  .rcases ag r h1 with h|h
   .rename_i e _;exact W.gJ rfl i q r Ω h J.1
   .have:=J.2;omega
  .rcases ag r J with h|h
   .exact W.gJ rfl j i r Ω h1.1 h
   .have:=h1.2;omega
  .exact W.gJ rfl j q r aO h1.1 J.1
 .by_cases ac:j=i
  .subst ac;rw[V5 Ω] at aa;rw[V5 Ω] at ah;cases aa;cases ah;exact ak.mono ay (λr _ h=>by simpa using h) λ_ _ h=>h
  .rw[W6 (T7 ac)] at aa ah;have aP:bf (λr=>if j=i then ab r else F j r/\r<w.heap.size) R w aA aB:=ak.mono (he.2 j aA aB aa ah) (λr U h=>by rw[if_neg ac];exact⟨h,U⟩) λ_ _ h=>h;refine ak.V aP aJ λr U h1 J=>?_;have J:=aK r U J;rcases h1 with h1|h1
   .simp only[if_neg ac] at h1;rcases J with J|rfl
    .exact W.gJ rfl j i r ac h1.1 J
    .exact W.top rfl j h1.1
   .rcases J with J|rfl
    .exact ao r U (W.sub i r J) h1
    .exact ao r U ad h1
 .have:=lX (S:=λr=>(S r\/w.heap.size<=r)\/R r) az (.inr (.inl (.inl ad)));exact this
end
end Go.Vc
namespace Go.Proofs.YtgbkinibgjmodaaGreatDoor
open Go Go.Vc Go.RowKit Go.Proofs Go.Proofs.Tryz
set_option maxRecDepth 100000
theorem pK {t:aC} {i:Nat} {x:Int}:(t.set i x).marks=t.marks/\(t.set i x).cells.length=t.cells.length/\(t.set i x).olds.length<=t.olds.length+1:=by
 unfold aC.set;split
 .exact⟨rfl,rfl,S5 _⟩
 .split
  .exact⟨rfl,Ξ,S5 _⟩
  .split
   .exact⟨rfl,Ξ,Ξ⟩
   .exact⟨rfl,Ξ,S5 _⟩
def iI (w0:x2) (al ag am:Nat) (A R:ai) (A9:Nat->ai) (aO:ai) (n:aV) (u:aF) (t:aC) (h:List aC) (w':x2):Prop:=∃J R' bK R9' I bl,bG w' al ag am J R' bK R9' n u u I h bl/\af (λr=>A r\/(∃q,A9 q r)\/r=am) w0 w'/\(∀r,J r->A r\/w0.heap.size<=r)/\(∀r,R' r->R r\/w0.heap.size<=r)/\(∀r,aO r->R9' r)/\(∀r,R9' r->aO r\/w0.heap.size<=r)/\
 (∀q r,bK q r->(∃U,A9 U r)\/w0.heap.size<=r)/\I.marks=t.marks/\I.cells.length<=t.cells.length+700/\I.olds.length<=t.olds.length+800/\af (λr=>dd w0 r\/(∃q,A9 q r)\/r=am) w0 w'/\I.ever=t.ever
theorem uT {S:ai} {w0 J W:x2} (U:af S w0 J) (X:af (dd J) J W):af (λr=>dd w0 r\/S r) w0 W:=
 ⟨X0 U.size X.size,λr o Y I V=>X.a7 r o (U.a7 r o Y I λh=>V (.inr h)) I λh=>V (.inl (ll (λo aa ab _=>U.a7 r o aa ab λh=>V (.inr h)) h))⟩
section
variable {w0 w:x2} {al ag am aU:Nat} {A R:ai} {A9 bK:Nat->ai} {aO:ai} {n:aV} {s u:aF} {t:aC} {h:List aC} {cs bl:List x1} {a:de} {aD ay ch:x1} {Q:x1->x2->Prop}
theorem jV (p:bG w0 al ag am A R A9 aO n s s t h cs) (I:Ext w0 w):iI w0 al ag am A R A9 aO n s t h w:=
 ⟨A,R,A9,aO,t,cs,p.ext I,I.V _,λ_ h=>.inl h,λ_ h=>.inl h,λ_ h=>h,λ_ h=>.inl h,λq _ h=>.inl ⟨q,h⟩,rfl,Nat.le_add_right _ _,Nat.le_add_right _ _,I.V _,rfl⟩
theorem pL {U Y:x2} (V:bG U al ag am A R bK aO n s u t h bl) (W:af (λr=>(∃q,A9 q r)\/r=am) w0 U) (ab:∀q r,bK q r->(∃ac,A9 ac r)\/w0.heap.size<=r) (I:kK U al ag A R n u t v Y):v=Δ 0/\iI w0 al ag am A R A9 aO n u t h Y:=by
 obtain⟨ad,aa,ae,q,x,X,ah⟩:=I;obtain⟨ai,aj,ak⟩:=pK (t:=t) (i:=q) (x:=x);have z:=W.size;refine⟨ad,ae,R,_,aO,_,bl,V.prog aa X ah V.gm.set (λ_ h=>.inl h) (λ_ _ _ h=>h) V.box.lt,(W.mono λr _ h=>.inr h).trans (X.1.mono λr _ h=>.inl h),λr J=>(X.2.1 r J).imp id λh=>Ω,λr J=>.inl J,λ_ h=>h,λ_ h=>.inl h,λq r J=>ab q r J.1,ai,Ω,Ω,uT W aa,aC.nN _ _ _⟩
theorem bG.olds (p:bG w0 al ag am A R A9 aO n s u t h cs):bG w0 al ag am A R (λq r=>A9 q r/\r<w0.heap.size) aO n s u t h cs:=
 ⟨p.cc,p.gm,p.box,p.doc.old,λq r I=>p.apart q r I.1,p.read,p.out⟩
def mC (n:aV) (s:aF) (c:Int):aF:=if 0<=c/\c<=n.k then {s with zero:=c} else s
theorem K2 (p:bG w0 al ag am A R A9 aO n s s t h cs) (ae:Room t) (X:Ext w0 w) (Y:dO w aU n.k a aD ay ch w0.heap.size) (ah:∀w',iI w0 al ag am A R A9 aO n (mC n s (b5 n.k a)) t h w'->Q (.bool true) w'):
  bx (α:=x1->x2->Prop) (λ(ap:x1) (ab:x2)=>
     J x3 (x7 aR (Γ aU) 4) ab λaq=>
     J x3 (x5 an aq) ab λau=>
     aj x3 wo [Γ al,au] ab λav ai=>
     J x3 (aB .eql eB false false av ap) ai λax=>
     Q ax ai) λak=>
    J x3 (Op.unary .not (.bool (decide (0<=b5 n.k a/\b5 n.k a<=n.k)))) w λaA=>
    Split aA (ak (Δ 3) w)
    (J x3 (x7 aR (Γ aU) 4) w λaC=>
    J x3 (x5 an aC) w λaF=>
    J x3 (aX (Γ am)) w λaG=>
    J x3 (x7 aE aG 2) w λaH=>
    az x3 (o4 an aH aF) w λ(_:Unit) aI=>
    ak (Δ 0) aI):=by
 have aV:=p.box.lt;by_cases U:0<=b5 n.k a/\b5 n.k a<=n.k
 .refine aP (λv I=>v=Δ 0/\dO I aU n.k a aD ay ch w0.heap.size/\af (λr=>(∃q,A9 q r)\/r=am) w0 I/\ ∃bl,bG I al ag am A R A9 aO n s {s with zero:=b5 n.k a} t h bl) ?_ ?_
  .rintro _ I ⟨rfl,aJ,W,bl,ao⟩;rw[aa aR.p rfl,ac (v:=Δ (b5 n.k a)) Ψ (aJ.cU.cell (o:=0+4) rfl)];refine (Bi (c:=b5 n.k a) ao.cc ae).mono ?_;rintro v aK _ ⟨_,aL⟩;obtain⟨rfl,aM⟩:=pL ao W (λq r h=>.inl ⟨q,h⟩) (aL U);rw[bi];exact ah _ (by unfold mC;rw[if_pos U];exact aM)
  .intro aN ad;rw[decide_eq_true U,bg,Y1,aQ,aa aR.p rfl,ac (v:=Δ (b5 n.k a)) Ψ (Y.cU.cell (o:=0+4) rfl),aw,aa aE.p rfl];have dP:=p.ext X;refine bj (o:=0+2) an.i rfl rfl dP.box (by rw[dP.doc.len.1];omega) λI W aW aS=>?_;refine ad _ _ ⟨rfl,?_,(X.V _).trans (W.mono λr _ h=>.inr h),_,dP.uR W (λr _ h=>.inr h) aS ?_ λq r h=>.inl ⟨q,h⟩⟩
   .exact Y.V W λr _ h=>by have h:r=am:=h;omega
   .exact (bd.V dP.doc W λr _ h he=>h.elim (λ⟨q,h⟩=>(p.apart q r h).2.2 he) λh=>(p.read r h).2.2 he).KN
 .refine aP (λv I=>v=Δ 3/\w=I) ?_ ?_
  .rintro _ I ⟨rfl,rfl⟩;rw[aa aR.p rfl,ac (v:=Δ (b5 n.k a)) Ψ (Y.cU.cell (o:=0+4) rfl)];refine (Bi (c:=b5 n.k a) (p.ext X).cc ae).mono ?_;rintro v aK _ ⟨h1,_⟩;obtain⟨rfl,aT⟩:=h1 U;rw[bi];exact ah _ (by unfold mC;rw[if_neg U];exact jV p (X.trans aT))
  .intro aN ad;rw[decide_eq_false U,bg,X4,bO];exact ad _ _ ⟨rfl,rfl⟩
end
theorem nT {α β:Type} {l:List α} {i:Nat} {a b:α} {f:α->β} (h:l[i]? =σ a) (J:f b=f a):(l.set i b).map f=l.map f:=by
 rw[T0,J];refine X6 λq=>?_;rw[X5];by_cases I:i=q
 .subst I;rw[if_pos rfl,x8,h,if_pos (by rw[u5];exact (x4.1 h).1)];rfl
 .rw[if_neg I]
theorem nU {T:Nat->Prop} (h:af T w w'):af (λr=>T r/\r<w.heap.size) w w':=⟨h.size,λr o J I U=>h.a7 r o J I λV=>U ⟨V,(j4.1 J).1⟩⟩
section
variable {w0 w w':x2} {al ag am aU:Nat} {A R:ai} {A9:Nat->ai} {aO:ai} {n:aV} {s u u':aF} {t:aC} {h:List aC} {cs:List x1} {a:de} {aD ay ch v:x1} {Q:x1->x2->Prop}
theorem bd.nq {zero:Int} {D:List (List Int)} {G:List Bool} {aT:List (List Int)} {H:List fC} {E:List ia} {i:Nat} (I:cs[i]? =σ v) (h:bd m A9 aO w (cs.set i v) k sizes zero D G aT H E):bd m A9 aO w cs k sizes zero D G aT H E:=by
 have:cs.set i v=cs:=by
  refine X6 λq=>?_;rw[X5];by_cases J:i=q
  .subst J;have:=(x4.1 I).1;rw[if_pos rfl,if_pos this,I]
  .rw[if_neg J]
 rw[this] at h;exact h
theorem bG.row {T:ai} {bK:Nat->ai} {q:Nat} (p:bG w al ag am A R A9 aO n s u t h cs) (I:af T w w') (J:∀r,r<w.heap.size->T r->A9 q r) (U:fj true bK aO w' cs n.k n.sizes u') (W:∀q r,bK q r->(∃X,A9 X r)\/w.heap.size<=r):
  bG w' al ag am A R bK aO n s u' t h cs:=
 p.uR I (λr Y h=>.inl ⟨q,J r Y h⟩) (p.box.V I λh=>(p.apart q am (J am p.box.lt h)).2.2 rfl) U W
theorem uU {q:Nat} {B:ai} (I:∀r,B r->A9 q r\/w.heap.size<=r):∀j r,dN A9 q B j r->(∃J,A9 J r)\/w.heap.size<=r:=λj r h=>by
 unfold dN at h;split at h
 .exact (I r h).imp (λh=>⟨q,h⟩) id
 .exact .inl ⟨j,h⟩
theorem bG.K3 {T:ai} (p:bG w al ag am A R A9 aO n s u t h cs) (X:∀q r,A9 q r->r<w.heap.size) (Y:cs[5]? =σ v) (J:af T w w') (U:∀r,r<w.heap.size->T r->A9 2 r) (aa:bf (λr=>A9 2 r\/w.heap.size<=r) aO w' [v] (u'.vars.map (·.un)))
  (ab:u'.zero=u.zero) (ac:u'.vars.map c5=u.vars.map c5) (ad:(u'.vars.map λx=>decide (x.gone≠0))=u.vars.map λx=>decide (x.gone≠0)) (ae:u'.funs=u.funs) (ah:u'.elims=u.elims):
  ∃bK,bG w' al ag am A R bK aO n s u' t h cs/\ ∀q r,bK q r->(∃aj,A9 aj r)\/w.heap.size<=r:=by
 have V:=(show (∀i j r,i≠j->A9 i r->¬A9 j r)/\ ∀i r,A9 i r->¬aO r by obtain⟨_,_,_,_,_,_,_,_,_,_,_,_,_,ak⟩:=p.doc;exact ak rfl);have an:=bd.gT p.doc (nU J) (λr I=>.inl (U r I.2 I.1)) aa (λj r ao I=>?_) (λr I=>?_)
 .have W:=uU (w:=w) (A9:=A9) (q:=2) (B:=λr=>A9 2 r\/w.heap.size<=r) λr h=>h;refine⟨_,p.row J U ?_ W,W⟩;have:=bd.nq Y an;unfold fj;rw[ab,ac,ad,ae,ah];exact this
 .rcases I with I|I
  .exact V.1 2 j r (T7 ao) I
  .exact λh=>by have:=X j r h;omega
 .rcases I with I|I
  .exact V.2 2 r I
  .exact λh=>by have:=(p.read r h).2.1;omega
def lu (n:aV) (s:aF) (a:de):aF:=if ez n a.i a.v/\(0<=b5 n.k a/\b5 n.k a<=n.k) then gT s a.i.toNat a.v.toNat (b5 n.k a) else s
theorem K4 (p:bG w0 al ag am A R A9 aO n s s t h cs) (aC:Room t) (ap:Ext w0 w) (aF:dO w aU n.k a aD ay ch w0.heap.size) (aG:∀w',iI w0 al ag am A R A9 aO n (lu n s a) t h w'->Q (.bool true) w'):
  bx (α:=x1->x2->Prop) (λ(bf:x1) (X:x2)=>
     J x3 (x7 aR (Γ aU) 1) X λaH=>
     J x3 (x5 ab aH) X λaI=>
     J x3 (x7 aR (Γ aU) 2) X λaJ=>
     J x3 (x5 ab aJ) X λaK=>
     J x3 (x7 aR (Γ aU) 4) X λaL=>
     J x3 (x5 an aL) X λaM=>
     aj x3 ql [Γ al,aI,aK,aM] X λbh a1=>
     J x3 (aB .eql eB false false bh bf) a1 λbj=>
     Q bj a1) λaN=>
    J x3 (Op.unary .not (.bool (decide (ez n a.i a.v)))) w λbk=>
    Split bk (aN (Δ 1) w)
     (J x3 (Op.unary .not (.bool (decide (0<=b5 n.k a/\b5 n.k a<=n.k)))) w λbl=>
     Split bl (aN (Δ 3) w)
     (cj w λU=>
     J x3 (aX (Γ am)) U λbm=>
     J x3 (x7 aE bm 5) U λbn=>
     J x3 (x5 dF bn) U λbo=>
     J x3 (x7 aR (Γ aU) 1) U λbp=>
     J x3 (x5 ab bp) U λbq=>
     J x3 (n0 dF bo bq) U λbr=>
     J x3 (x5 ax br) U λbt=>
     J x3 (x7 aR (Γ aU) 2) U λbu=>
     J x3 (x5 ab bu) U λbw=>
     J x3 (x7 aR (Γ aU) 4) U λbz=>
     J x3 (x5 an bz) U λbA=>
     J x3 (n0 ax bt bw) U λbB=>
     az x3 (o4 an bB bA) U λ(_:Unit) a2=>
      aN (Δ 0) a2)):=by
 have call:∀ {I:x2} {K:x1->x2->Prop},dO I aU n.k a aD ay ch w0.heap.size->(aj x3 ql [Γ al,Δ a.i,Δ a.v,Δ (b5 n.k a)] I K)->
   J x3 (x7 aR (Γ aU) 1) I λaH=>J x3 (x5 ab aH) I λaI=>J x3 (x7 aR (Γ aU) 2) I λaJ=>J x3 (x5 ab aJ) I λaK=>
   J x3 (x7 aR (Γ aU) 4) I λaL=>J x3 (x5 an aL) I λaM=>aj x3 ql [Γ al,aI,aK,aM] I K:=λae bC=>by
  rw[aa aR.p rfl,ac (v:=Δ a.i) Ψ (ae.cU.cell (o:=0+1) rfl),aa aR.p rfl,ac (v:=Δ a.v) Ψ (ae.cU.cell (o:=0+2) rfl),aa aR.p rfl,ac (v:=Δ (b5 n.k a)) Ψ (ae.cU.cell (o:=0+4) rfl)];exact bC
 have dP:=p.olds.ext ap;by_cases W:ez n a.i a.v
 rotate_left
 .refine aP (λv I=>v=Δ 1/\w=I) ?_ ?_
  .rintro _ I ⟨rfl,rfl⟩;refine call aF ((uK (i:=a.i) (v:=a.v) (c:=b5 n.k a) dP.cc aC).mono ?_);rintro v a6 _ ⟨h1,_⟩;obtain⟨rfl,aS⟩:=h1 W;rw[bi];exact aG _ (by unfold lu;rw[if_neg λh=>W h.1];exact jV p (ap.trans aS))
  .intro a7 ah;rw[decide_eq_false W,bg,X4,bO];exact ah _ _ ⟨rfl,rfl⟩
 by_cases Y:0<=b5 n.k a/\b5 n.k a<=n.k
 rotate_left
 .refine aP (λv I=>v=Δ 3/\w=I) ?_ ?_
  .rintro _ I ⟨rfl,rfl⟩;refine call aF ((uK (i:=a.i) (v:=a.v) (c:=b5 n.k a) dP.cc aC).mono ?_);rintro v a6 _ ⟨_,h1,_⟩;obtain⟨rfl,aS⟩:=h1 W Y;rw[bi];exact aG _ (by unfold lu;rw[if_neg λh=>Y h.2];exact jV p (ap.trans aS))
  .intro a7 ah;rw[decide_eq_true W,bg,Y1,aQ,decide_eq_false Y,bg,X4,bO];exact ah _ _ ⟨rfl,rfl⟩
 refine aP (λv I=>v=Δ 0/\dO I aU n.k a aD ay ch w0.heap.size/\af (λr=>(∃q,A9 q r)\/r=am) w0 I/\ ∃bK,bG I al ag am A R bK aO n s (gT s a.i.toNat a.v.toNat (b5 n.k a)) t h cs/\ ∀q r,bK q r->(∃aT,A9 aT r)\/w0.heap.size<=r) ?_ ?_
 .rintro _ I ⟨rfl,ae,bD,bK,a8,aV⟩;refine call ae ((uK (i:=a.i) (v:=a.v) (c:=b5 n.k a) a8.cc aC).mono ?_);rintro v a6 _ ⟨_,_,ba⟩;obtain⟨rfl,bE⟩:=pL a8 bD aV (ba W Y);rw[bi];exact aG _ (by unfold lu;rw[if_pos ⟨W,Y⟩];exact bE)
 intro a7 ah;rw[decide_eq_true W,bg,Y1,aQ,decide_eq_true Y,bg,Y1,aQ];intro U aW _ _;have bb:=ap.trans aW;have aY:=dP.ext aW;have aq:=aF.ext aW;obtain⟨x,ai,bF,bS,_⟩:=W.var p.cc.2.2.2.1;obtain⟨h1,ba,bT,bU⟩:=id W;obtain⟨au,bV,bW,bX,bY,bZ,bc,_,_,_,bH,_,_,bd⟩:=id aY.doc;have z:=bb.size;have bI:∀q r,(A9 q r/\r<w0.heap.size)->r<U.heap.size:=λq r h=>by have:=h.2;omega
 obtain⟨g,cap,c,b0,rfl,bJ,aZ,av,bL⟩:=K1 (i:=a.i.toNat) (a:=x.un) bH (by rw[x8,ai];rfl) λr _ h=>(bd rfl).2 2 r h;obtain⟨u',rfl⟩:=X7.1 (ak.len aZ);have be:=aY.box;rw[bc] at be;obtain⟨_,_,_,b1⟩:∃a n c,u'= .slice a n c:=by obtain⟨_,_,_,_,_,⟨_,b,o,base,cap,e,_⟩,_⟩:=fZ aZ;exact⟨_,_,_,e⟩
 have bM:a.i.toNat<(s.vars.map (·.un)).length:=by rw[u5];exact (x4.1 ai).1
 rw[aw,aa aE.p rfl,ac (v:=.slice (σ ⟨g,0,ν⟩) (s.vars.map (·.un)).length cap) Ψ (be.cell (o:=0+5) rfl),aa aR.p rfl,ac (v:=Δ a.i) Ψ (aq.cU.cell (o:=0+1) rfl),
  show a.i=((a.i.toNat:Nat):Int) by omega,fc dF.u ax.i bM λ_=>rfl,ac (v:=u') (o:=0+a.i.toNat*1) Ψ (by rw[V1];exact bJ 0 _ rfl)]
 rw[aa aR.p rfl,ac (v:=Δ a.v) Ψ (aq.cU.cell (o:=0+2) rfl),aa aR.p rfl,ac (v:=Δ (b5 n.k a)) Ψ (aq.cU.cell (o:=0+4) rfl)];refine uM (α:=Int) (i:=a.v.toNat) (A:=λ_=>False) rfl Ω ax.u an.i aZ bF rfl rfl (λr _ ao=>⟨λh=>h,(bd rfl).2 2 r (av r ao)⟩) λa2 aA bN=>?_;have bP:=bL aA (λr _ h=>h) bN λr ao=>ao.elim .inl False.elim;have ad:gT s a.i.toNat a.v.toNat (b5 n.k a)={s with vars:=s.vars.set a.i.toNat {x with un:=x.un.set a.v.toNat (b5 n.k a)}}:=by unfold gT;rw[ai]
 have bQ:=aY.K3 (u':=gT s a.i.toNat a.v.toNat (b5 n.k a)) bI (by rw[bc];rfl) aA (λr _ h=>av r h) (by rw[ad,T0];exact bP) (by rw[ad]) (by rw[ad];exact nT ai (by unfold c5;simp)) (by rw[ad];exact nT ai rfl) (by rw[ad]) (by rw[ad]);obtain⟨bK,bR,aV⟩:=bQ;refine ah _ _ ⟨rfl,aq.V aA λr _ h=>(av r h).2,((bb.V _).trans (aA.mono λr _ h=>.inl ⟨2,(av r h).1⟩)),bK,bR,λq r ao=>?_⟩;rcases aV q r ao with⟨aT,h⟩|h
 .exact .inl ⟨aT,h.1⟩
 .exact .inr Ω
end
theorem K5 {s:aF} {n:aV} {i:Int} {b m:Nat} {x:fQ} (h:A5 s n i b m) (J:0<=i) (U:s.vars[i.toNat]? =σ x):(gw b m).map (λv:Nat=>(v:Int))=c5 x:=by
 obtain⟨_,_,V⟩:=h;obtain⟨rfl,W⟩:=V x J U;unfold gw c5;rw[List.filter_map];congr 1;refine List.filter_congr λq I=>?_;have I:=List.mem_range.1 I;rw[W,decide_eq_true I,U7];rfl
section
variable {w:x2} {al ag:Nat} {A R:ai} {n:aV} {s:aF} {t:aC}
end
section
variable {w:x2} {al ag:Nat} {A R:ai} {n:aV} {s:aF} {t:aC}
theorem K6 {f:ev} (h:b9 w al ag A R n s t) (I:s.funs[j]? =σ f):aj x3 CM [Γ al,Δ (j:Int)] w λr w'=>Ext w w'/\ ∃g,w.heap.size<=g/\aq .i64 ab w' g r f.sc:=by
 have am:=(x4.1 I).1;refine aA func50 ?_;refine aP (λv U=>v= .bool false/\Ext w U) ?_ ?_
 .rintro _ U ⟨rfl,J⟩;rw[aQ];obtain⟨an,ap,Y,au,av,ax,L,az,ae,aB,aC,aD,W,V⟩:=(h.ext J).1.parts;obtain⟨y,X⟩:∃y,L[j]? =σ y:=⟨_,y0 (by rw[V.1];omega)⟩;obtain⟨af,_,_⟩:=V.2 j y f X I;rw[aw,aa bz.p rfl,ac (v:=Y) Ψ (ae.cell (o:=0+3) rfl),cO rfl dY.u dl.i W (by rw[V.1];omega),aa dl.p rfl,ac (v:=y.ay) Ψ (W.range X 0 _ rfl)];have aE:f.sc.length<=6:=(h.2.2.2.1.funs f (x6 I)).1.scope.2;refine (hA af.ls Ω).mono ?_;rintro v aF _ ⟨ah,g,aG,hm⟩;have:=J.size;exact⟨J.trans ah,g,Ω,hm⟩
 intro aH ai;rw[ao,ad];refine⟨λaI=>Ω,λ_=>?_⟩;refine (pz h).mono ?_;rintro _ aJ _ ⟨rfl,ak⟩;rw[cb];exact ai _ _ ⟨by rw[decide_eq_false Ω],ak⟩
end
theorem K7 {x:Int} (h:aI .i64 w sv l):aj x3 sE [sv,Δ x] w λv w'=>Ext w w'/\ ∃r:Int,v=Δ r/\(x∉l->r= -1)/\(x∈l->0<=r/\l[r.toNat]? =σ x):=by
 refine aA func103 ?_;rw[aS ah.u h];refine bC.range l.length (λi _ U=>Ext w U/\x∉l.take i) h.le ⟨Ext.refl _,Ξ⟩ ?_ ?_
 .rintro i _ U k hi ⟨I,J⟩ W;rw[ao,ad];refine⟨λ_=>?_,λh=>Ω⟩;obtain⟨y,V⟩:∃y,l[i]? =σ y:=⟨_,y0 hi⟩;rw[bc ah.u ab.i Ψ (h.ext I) V,bi,ad];refine⟨λhe=>⟨I,i,rfl,λhm=>absurd (he▸x6 V) hm,λ_=>⟨Ω,by rw[he,j9];exact V⟩⟩,λhe=>?_⟩;rw[aN];refine W _ _ ⟨I,λhm=>?_⟩;rw[r9,V] at hm;rcases n9.1 hm with hm|hm
  .exact J hm
  .simp at hm;exact he hm
 .rintro _ U k ⟨I,J⟩;rw[o9] at J;rw[ao,ad];exact⟨λh=>Ω,λ_=>⟨I,-1,rfl,λ_=>rfl,λh=>absurd h J⟩⟩
theorem uV {x:Int} (h:aI .i64 w sv l):aj x3 Df [sv,Δ x] w λv w'=>v= .bool (decide (x∈l))/\Ext w w':=by
 refine aA func119 ?_;refine (K7 h).mono ?_;rintro _ U _ ⟨I,r,rfl,J,V⟩;rw[cb];refine⟨?_,I⟩;congr 1;refine decide_eq_decide.2 ⟨λX=>?_,λhm=>(V hm).1⟩;exact X2.1 λW=>by have:=J W;omega
theorem Bp {X:Nat} {cap:Array x1} {p:Int->Bool} (h:aI .i64 w sv l)
  (aa:∀w' x,Ext w w'->x∈l->aj x3 X (Δ x::cap.toList) w' λr ac=>r= .bool (p x)/\Ext w' ac):
  aj x3 sI [sv,.func (.func X) #[] cap] w λv w'=>Ext w w'/\((v=Δ (-1)/\ ∀x∈l,p x=false)\/ ∃i:Nat,v=Δ (i:Int)/\i<l.length/\(∀x∈l.take i,p x=false)/\ ∀x,l[i]? =σ x->p x=true):=by
 refine aA func170 ?_;rw[aS ah.u h];refine bC.range l.length (λi _ U=>Ext w U/\ ∀x∈l.take i,p x=false) h.le ⟨Ext.refl _,Ξ⟩ ?_ ?_
 .rintro i _ U k hi ⟨J,V⟩ ae;rw[ao,ad];refine⟨λ_=>?_,λh=>Ω⟩;obtain⟨y,W⟩:∃y,l[i]? =σ y:=⟨_,y0 hi⟩;rw[bc ah.u ab.i Ψ (h.ext J) W];refine aj.mono (aa U y J (x6 W)) ?_;rintro _ ai _ ⟨rfl,Y⟩;rw[bH];refine⟨λaf=>⟨J.trans Y,.inr ⟨i,rfl,hi,V,λx I=>by rw[W] at I;cases I;exact af⟩⟩,λag=>?_⟩;rw[aN];refine ae _ _ ⟨J.trans Y,λx I=>?_⟩;rw[r9,W] at I;rcases n9.1 I with I|I
  .exact V x I
  .simp at I;subst I;exact ag
 .rintro _ U k ⟨J,V⟩;rw[o9] at V;rw[ao,ad];exact⟨λh=>Ω,λ_=>⟨J,.inl ⟨rfl,V⟩⟩⟩
theorem K8 {J:Nat} {cap:Array x1} {p:Int->Bool} (h:aI .i64 w sv l)
  (V:∀w' x,Ext w w'->x∈l->aj x3 J (Δ x::cap.toList) w' λr W=>r= .bool (p x)/\Ext w' W):
  aj x3 qn [sv,.func (.func J) #[] cap] w λv w'=>v= .bool (l.any p)/\Ext w w':=by
 refine aA func196 ?_;refine (Bp h V).mono ?_;rintro _ U _ ⟨I,⟨rfl,X⟩|⟨i,rfl,hi,_,Y⟩⟩
 .rw[cb];refine⟨?_,I⟩;congr 1;rw[decide_eq_false Ω,eq_comm,List.any_eq_false];exact λx I=>by rw[X x I];decide
 .rw[cb];refine⟨?_,I⟩;congr 1;rw[decide_eq_true Ω,eq_comm,List.any_eq_true];exact⟨_,R2 hi,Y _ (y0 hi)⟩
theorem K9 {g ax:Nat} {cap:Array x1} {p:Int->Bool} (h:aq .i64 e w g sv l) (a8:l.length<=100000000)
  (ay:∀w' x,af (λr=>leads sv r) w w'->x∈l->aj x3 ax (Δ x::cap.toList) w' λr aF=>r= .bool (p x)/\Ext w' aF):
  aj x3 wx [sv,.func (.func ax) #[] cap] w λv w'=>af (λr=>leads sv r) w w'/\aq .i64 e w' g v (l.filter λx=>!p x)/\ ∀r,leads v r->leads sv r:=by
 refine aA func85 ?_;refine (Bp h.ls λw' x Y=>ay w' x (Y.V _)).mono ?_;rintro _ U _ ⟨aa,⟨rfl,am⟩|⟨i,rfl,hi,am,aG⟩⟩
 .rw[bi,ad];refine⟨λ_=>⟨aa.V _,?_⟩,λh=>absurd rfl h⟩;rw[List.filter_eq_self.2 λx Y=>by rw[am x Y];rfl];exact⟨h.ext aa,λ_ h=>h⟩
 rw[bi,ad];refine⟨λh=>Ω,λ_=>?_⟩;rw[aN,wrap_i64 Ω Ω];obtain⟨n,an⟩:∃n,l.length=n:=⟨_,rfl⟩;obtain⟨J,rfl⟩:∃J,sv= .slice (σ ⟨g,0,ν⟩) n J:=by
  obtain⟨_,⟨_,h1⟩|⟨J,cs,h1,_⟩⟩:=id h
  .omega
  .exact⟨J,by rw[h1,an]⟩
 obtain⟨_,_,_,_,ba,aH,_⟩:=pe h Ω;have az:∀r,r=g->leads (.slice (σ ⟨g,0,ν⟩) n J) r:=λr ap=>⟨_,_,_,rfl,ap.symm⟩;have aI:(l.take (i+1)).filter (λx=>!p x)=l.take i:=by
  obtain⟨y,W⟩:∃y,l[i]? =σ y:=⟨_,y0 hi⟩;rw[r9,W,List.filter_append,List.filter_eq_self.2 λx Y=>by rw[am x Y];rfl];simp[aG y W]
 refine⟨λau av ac=>∃ (q j:Nat) (I:List Int),au=Δ (q:Int)/\av=Δ (j:Int)/\q<j/\j<=n/\af (λr=>r=g) w ac/\aq .i64 e ac g (.slice (σ ⟨g,0,ν⟩) n J) I/\I.length=n/\I.take q=(l.take j).filter (λx=>!p x)/\ ∀k,j<=k->I[k]? =l[k]?,
  λ_ av _=>n-(bL av).toNat,⟨i,i+1,l,rfl,rfl,Ω,Ω,aa.V _,h.ext aa,an,aI.symm,λ_ _=>rfl⟩,?_⟩
 rintro _ _ ac ⟨q,j,I,rfl,rfl,bb,bd,ae,ag,aB,X,aw⟩;have be:q=((l.take j).filter λx=>!p x).length:=by rw[<-X,o7];omega
 rw[gv ah.u,ao,ad];refine⟨λaJ=>?_,λbf=>?_⟩
 .have aJ:j<n:=Ω
  obtain⟨y,W⟩:∃y,l[j]? =σ y:=⟨_,y0 Ω⟩;have aK:I[j]? =σ y:=by rw[aw j (o8 _),W]
  refine aP (λau ai=>∃ (q:Nat) (I:List Int),au=Δ (q:Int)/\q<j+1/\af (λr=>r=g) w ai/\aq .i64 e ai g (.slice (σ ⟨g,0,ν⟩) n J) I/\I.length=n/\I.take q=(l.take (j+1)).filter (λx=>!p x)/\ ∀k,j+1<=k->I[k]? =l[k]?) ?_ ?_
  .rintro _ ai ⟨q,I,rfl,h1,aL,aM,aO,aQ,aR⟩;rw[aN,wrap_i64 Ω Ω];exact⟨⟨q,j+1,I,rfl,rfl,h1,Ω,aL,aM,aO,aQ,aR⟩,by simp only[bL];omega⟩
  intro bh aC;rw[bc ah.u ab.i Ψ ag.ls aK];refine aj.mono (ay ac y (ae.mono λr _=>az r) (x6 W)) ?_;rintro _ ai _ ⟨rfl,ak⟩;have aD:(l.take (j+1)).filter (λx=>!p x)=(l.take j).filter (λx=>!p x)++[y].filter (λx=>!p x):=by rw[r9,W,List.filter_append];rfl
  rw[bg,bH];refine⟨λaS=>?_,λaT=>?_⟩
  .have aE:=ag.ext ak;rw[ha rfl ah.u ab.i aE Ω];refine hb ab.i aE Ω λbj aU bk aV=>?_;rw[aN,wrap_i64 Ω Ω];refine aC _ _ ⟨q+1,_,rfl,Ω,(ae.trans (ak.V _)).trans aU,aV,by simpa using aB,?_,λk al=>?_⟩
   .rw[aD,r9,V5 Ω,List.take_set_of_le (o8 _),X];simp only[Z9];rw[show[y].filter (λx=>!p x)=[y] by simpa using aS]
   .rw[W6 Ω];exact aw k Ω
  .refine aC _ _ ⟨q,I,rfl,Ω,ae.trans (ak.V _),ag.ext ak,aB,?_,λk al=>aw k Ω⟩;rw[aD,show[y].filter (λx=>!p x)=[] by simpa using aT,V4];exact X
 .have aW:j=n:=Ω
  subst aW;rw[<-an,o9] at X;obtain⟨_,_,cs,aX,_,_,bl,aY⟩:=pe ag Ω;simp only[maxLen] at aH;rw[fq ah.u ab.i (l:=q) (h:=j) (m:=J) lO hx er Ω Ω Ω,if_neg Ω];have aZ:V7 (λx:Addr=>x.add (q*1)) (σ ⟨g,0,ν⟩)=σ ⟨g,q,ν⟩:=by simp[U4]
  rw[aZ];refine xv ah.u ab.i rfl rfl aX Ω Ω λbm a1 bn a2=>?_;rw[fq ah.u ab.i (l:=0) (h:=q) (m:=J) hv lR er Ω Ω Ω,if_neg Ω];have a6:V7 (λx:Addr=>x.add (0*1)) (σ ⟨g,0,ν⟩)=σ ⟨g,0,ν⟩:=by simp[U4]
  rw[a6];refine⟨(ae.trans a1).mono λr _=>az r,?_⟩;have bo:(l.filter λx=>!p x).length=q:=by rw[<-X,o7];omega
  rw[<-X,Nat.sub_zero];refine⟨?_,λr ap=>by obtain⟨a,_,_,e,a7⟩:=ap;cases e;exact⟨_,_,_,rfl,a7⟩⟩;refine aq.of (n:=q) ⟨Θ,.inr ⟨J,_,Ξ,a2,Ω,by simp only[maxLen];omega,by rw[km];omega,?_⟩⟩;rw[T4];apply X6;intro k;by_cases al:k<q
  .rw[Y2 al,lS _ _ _ Θ,if_neg Ω,ints,x8,Y2 al];have:(cs.take j)[k]? =(ints .i64 I)[k]?:=by rw[aY]
   rw[Y2 Ω,ints,x8] at this;exact this
  .rw[Y4 Θ,Y4 Θ]
def ho (s:aF) (i:Int) (j:Nat):Bool:=match s.funs[j]? with
 |some f=>decide (f.live≠0)&&decide (i∈f.sc)
 |none=>false
def fD (s:aF) (i:Int) (m:Nat):List Int:=((X9 m).filter (ho s i)).map λj:Nat=>(j:Int)
theorem Bq {A R:ai} {n:aV} {s:aF} {t:aC} {i:Int} (h:b9 w al ag A R n s t):aj x3 CU [Γ al,Δ i] w λv w'=>Ext w w'/\ ∃g,aq .i64 ab w' g v (fD s i s.funs.length)/\ ∀r,leads v r->w.heap.size<=r:=by
 have a1:=nQ h.2.1 h.2.2.1;have a2:s.funs.length<=100000000:=by
  have h1:=pn s;have az:∀ (L:List ev),L.length<=(L.flatMap fR).length:=λL=>by
   induction L with
   |nil=>exact o8 _
   |cons a L a6=>rw[V6,r8,j5];have:(fR a).length=a.cs.length+1:=rfl;omega
  have a7:=az s.funs;omega
 refine aA func64 ?_;refine (pz h).mono ?_;rintro _ U _ ⟨rfl,aB⟩;refine bC.range s.funs.length (λj out X=>Ext w X/\ ∃g,aq .i64 ab X g out (fD s i j)/\ ∀r,leads out r->w.heap.size<=r) Ω ⟨aB,0,aq.nil _ _ _ _,λr af=>by obtain⟨a,n,c,aD,a8⟩:=af;cases aD⟩ ?_ ?_
 .rintro j out X aE aG ⟨J,g,hm,Y⟩ aH;obtain⟨f,W⟩:∃f,s.funs[j]? =σ f:=⟨_,y0 aG⟩;have an:fD s i (j+1)=if ho s i j=true then fD s i j++[(j:Int)] else fD s i j:=by
   unfold fD;rw[List.range_succ,List.filter_append];cases aI:ho s i j <;> simp[aI]
  rw[ao,ad];refine⟨λ_=>?_,λh=>Ω⟩;refine aP (λout V=>Ext w V/\ ∃g,aq .i64 ab V g out (fD s i (j+1))/\ ∀r,leads out r->w.heap.size<=r) ?_ ?_
  .rintro out V aJ;rw[aN];exact aH _ _ aJ
  intro ba ap;refine aP (λr V=>r= .bool (ho s i j)/\Ext X V) ?_ ?_
  .rintro _ V ⟨rfl,I⟩;rw[bH];refine⟨λaK=>?_,λW=>ap _ _ ⟨J.trans I,g,by rw[an,if_neg (by rw[W];decide)];exact hm.ext I,Y⟩⟩;refine dJ (k:=.i64) ah.u ab.i rfl λv4 bb aL bc ae aM=>?_;have bd:(fD s i j).length<=j:=by unfold fD;rw[u5];have:=List.length_filter_le (ho s i) (X9 j);rw[List.length_range] at this;exact this
   refine fz ah.u ab.i rfl ((hm.ext I).ext ae) aM.ls Θ Θ λv5 aO aQ aR aS aT=>?_;have z3:=J.size;have aU:Ext w aQ:=((J.trans I).trans ae).then aT λr af he=>by have:=Y r he;omega
   have z4:=((J.trans I).trans ae).size;exact ap _ _ ⟨aU,aO,by rw[an,if_pos aK];exact aR,λr af=>(aS r af).elim (Y r) λh=>Ω⟩
  intro be au;refine (mA (j:=(j:Int)) (h.ext J)).mono ?_;rintro _ V _ ⟨rfl,I⟩;rw[decide_eq_true Ω,U7,j9];have aW:dL s j=decide (f.live≠0):=by unfold dL;rw[W]
  rw[aW,ad];refine⟨λak=>?_,λak=>au _ _ ⟨by unfold ho;rw[W];simp only;rw[decide_eq_false ak];rfl,I⟩⟩;obtain⟨bf,bg,aX,bh,bi,bj,L,bk,aY,bl,bm,bn,av,am⟩:=(h.ext (J.trans I)).1.parts;obtain⟨y,ax⟩:∃y,L[j]? =σ y:=⟨_,y0 (by rw[am.1];omega)⟩;obtain⟨aZ,_,_⟩:=am.2 j y f ax W;rw[aw,aa bz.p rfl,ac (v:=aX) Ψ (aY.cell (o:=0+3) rfl),cO rfl dY.u dl.i av (by rw[am.1];omega),aa dl.p rfl,ac (v:=y.ay) Ψ (av.range ax 0 _ rfl)];refine (uV (x:=i) aZ.ls).mono ?_;rintro _ aL _ ⟨rfl,ae⟩;exact au _ _ ⟨by unfold ho;rw[W];simp only;rw[decide_eq_true ak,U7],I.trans ae⟩
 .rintro out X aE ⟨J,g,hm,Y⟩;rw[ao,ad];exact⟨λh=>Ω,λ_=>⟨J,g,hm,Y⟩⟩
theorem uW {full:List x1} {o q:Nat} {x:x1} (U:∀ (k:Nat) y,c[k]? =σ y->full[o+k]? =σ y) (V:o+c.length<=full.length) (W:q<c.length):full.set (o+q) x=over full o (c.set q x):=by
 refine X6 λk=>?_;rw[lS _ _ _ (by rw[X1];exact V),X5,X1];by_cases h1:o<=k/\k<o+c.length
 .rw[if_pos h1,X5];by_cases I:o+q=k
  .rw[if_pos I,if_pos Ω,if_pos Ω,if_pos Ω]
  .rw[if_neg I,if_neg Ω];have J:k-o<c.length:=Ω
   have:=U (k-o) c[k-o] (y0 J);rw[y0 J,<-this];congr 1;omega
 .rw[if_neg h1,if_neg Ω]
section
variable {w0 w w':x2} {al ag am aU:Nat} {A R:ai} {A9:Nat->ai} {aO:ai} {n:aV} {s u u':aF} {t:aC} {h:List aC} {cs:List x1} {a:de} {aD ay ch v:x1} {Q:x1->x2->Prop}
theorem bG.gJ (p:bG w al ag am A R A9 aO n s u t h cs):(∀i j r,i≠j->A9 i r->¬A9 j r)/\ ∀i r,A9 i r->¬aO r:=by
 obtain⟨_,_,_,_,_,_,_,_,_,_,_,_,_,I⟩:=p.doc;exact I rfl
theorem bG.Br {T:ai} (p:bG w al ag am A R A9 aO n s u t h cs) (W:∀q r,A9 q r->r<w.heap.size) (X:cs[6]? =σ v) (J:af T w w') (U:∀r,r<w.heap.size->T r->A9 3 r) (Y:bf (λr=>A9 3 r\/w.heap.size<=r) aO w' [v] (u'.funs.map ee))
  (aa:u'.zero=u.zero) (ab:u'.vars=u.vars) (ac:u'.elims=u.elims):∃bK,bG w' al ag am A R bK aO n s u' t h cs/\ ∀q r,bK q r->(∃ad,A9 ad r)\/w.heap.size<=r:=by
 have ae:=bd.gn p.doc (nU J) (λr I=>.inl (U r I.2 I.1)) Y (λj r ah I=>?_) (λr I=>?_)
 .have V:=uU (w:=w) (A9:=A9) (q:=3) (B:=λr=>A9 3 r\/w.heap.size<=r) λr h=>h;refine⟨_,p.row J U ?_ V,V⟩;have:=bd.nq X ae;unfold fj;rw[aa,ab,ac];exact this
 .rcases I with I|I
  .exact p.gJ.1 3 j r (T7 ah) I
  .exact λh=>by have:=W j r h;omega
 .rcases I with I|I
  .exact p.gJ.2 3 r I
  .exact λh=>by have:=(p.read r h).2.1;omega
theorem La {F:ai} {f:ev} {g:Nat} {x:Int} (h:bf (α:=fC) F R w c (ee f)) (Y:af (λr=>r=g) w w') (aa:¬F g) (ab:¬R g):c.length=4/\bf (α:=fC) F R w' (c.set 3 (.bool (decide (x≠0)))) (ee {f with live:=x}):=by
 have U:c.length=4:=ak.len h;obtain⟨W,ac,A,B,rfl,X,ad,ae,h1,J⟩:=h;have J:ac=[.bool (decide (f.live≠0))]:=J;subst J;have ag:W.length=3:=by simpa using U
 refine⟨U,W,[.bool (decide (x≠0))],A,B,?_,X,ad,ae,ak.V h1 Y λr ah I he=>?_,rfl⟩
 .rw[U6 _ _ Ω,ag];rfl
 .have he:r=g:=he;subst he;rcases I with I|I
  .exact aa (X r I)
  .exact ab I
def mD (s:aF) (a:de):aF:=if 0<=a.j/\dL s a.j.toNat=true then iG s a.j.toNat else s
theorem Lb (p:bG w0 al ag am A R A9 aO n s s t h cs) (aN:Room t) (aq:Ext w0 w) (ao:dO w aU n.k a aD ay ch w0.heap.size) (aQ:∀w',iI w0 al ag am A R A9 aO n (mD s a) t h w'->Q (.bool true) w'):
  bx (α:=x1->x2->Prop) (λ(bb:x1) (av:x2)=>
       J x3 (x7 aR (Γ aU) 3) av λbc=>
       J x3 (x5 ab bc) av λbd=>
       aj x3 wj [Γ al,bd] av λbe aS=>
       J x3 (aB .eql eB false false be bb) aS λbf=>
       Q bf aS) λaT=>
      cj w λah=>
      J x3 (aX (Γ am)) ah λbh=>
      J x3 (x5 aE bh) ah λbk=>
      J x3 (x7 aR (Γ aU) 3) ah λbl=>
      J x3 (x5 ab bl) ah λbm=>
      aj x3 su [bk,bm] ah λbn ax=>
       J x3 (Op.unary .not bn) ax λbo=>
       Split bo (aT (Δ 1) ax)
       (cj ax λU=>
       J x3 (aX (Γ am)) U λbp=>
       J x3 (x7 aE bp 6) U λbq=>
       J x3 (x5 b1 bq) U λbr=>
       J x3 (x7 aR (Γ aU) 3) U λbt=>
       J x3 (x5 ab bt) U λbu=>
       J x3 (n0 b1 br bu) U λbw=>
       J x3 (x7 bW bw 1) U λbz=>
       az x3 (o4 eI bz (.bool false)) U λ(_:Unit) bA=>
       aT (Δ 0) bA):=by
 have dP:=p.olds.ext aq;by_cases I:0<=a.j/\dL s a.j.toNat=true
 rotate_left
 .refine aP (λv W=>v=Δ 1/\Ext w W) ?_ ?_
  .rintro _ W ⟨rfl,aA⟩;rw[aa aR.p rfl,ac (v:=Δ a.j) Ψ ((ao.ext aA).cU.cell (o:=0+3) rfl)];refine (Bc (j:=a.j) (dP.ext aA).cc aN).mono ?_;rintro v aC _ ⟨h1,_⟩;obtain⟨rfl,ai⟩:=h1 I;rw[bi];exact aQ _ (by unfold mD;rw[if_neg I];exact jV p ((aq.trans aA).trans ai))
  .intro bB aF bC X _ _;rw[aw];refine (dP.ext X).look.load λbD aG=>?_;rw[aa aR.p rfl,ac (v:=Δ a.j) Ψ ((ao.ext X).cU.cell (o:=0+3) rfl)];refine (uP (j:=a.j) aG).mono ?_;rintro _ aC _ ⟨rfl,ai⟩;rw[bg,bH];refine⟨λ_=>aF _ _ ⟨rfl,X.trans ai⟩,λbE=>?_⟩;exact absurd (by simpa using bE) I
 refine aP (λv W=>v=Δ 0/\dO W aU n.k a aD ay ch w0.heap.size/\af (λr=>(∃q,A9 q r)\/r=am) w0 W/\ ∃bK,bG W al ag am A R bK aO n s (iG s a.j.toNat) t h cs/\ ∀q r,bK q r->(∃aH,A9 aH r)\/w0.heap.size<=r) ?_ ?_
 .rintro _ W ⟨rfl,bF,bI,bK,aV,aI⟩;rw[aa aR.p rfl,ac (v:=Δ a.j) Ψ (bF.cU.cell (o:=0+3) rfl)];refine (Bc (j:=a.j) aV.cc aN).mono ?_;rintro v aC _ ⟨_,Y⟩;obtain⟨rfl,bJ,bL,q,bM,bN⟩:=Y I;obtain⟨_,bO⟩:=pL (v:=Δ 0) aV bI aI ⟨rfl,bJ,bL,q,0,bM,bN⟩;rw[bi];exact aQ _ (by unfold mD;rw[if_pos I];exact bO)
 intro bB aF bC X _ _;rw[aw];refine (dP.ext X).look.load λbD aG=>?_;rw[aa aR.p rfl,ac (v:=Δ a.j) Ψ ((ao.ext X).cU.cell (o:=0+3) rfl)];refine (uP (j:=a.j) aG).mono ?_;rintro _ aC _ ⟨rfl,ai⟩;rw[decide_eq_true I.1,I.2,bg,bH];refine⟨λh=>by simp at h,λ_=>?_⟩;intro aW bP _ _;have aJ:=(X.trans ai).trans bP;have aY:=aq.trans aJ;have aK:=dP.ext aJ;have aZ:=ao.ext aJ;obtain⟨f,ae,b4⟩:∃f,s.funs[a.j.toNat]? =σ f/\f.live≠0:=by
  have Y:=I.2;unfold dL at Y;cases ae:s.funs[a.j.toNat]? with
  |none=>rw[ae] at Y;cases Y
  |some f=>rw[ae] at Y;exact⟨f,rfl,by simpa using Y⟩
 obtain⟨au,b5,b6,b7,b8,b9,a1,_,_,_,_,bQ,_,a2⟩:=id aK.doc;have z:=aY.size;have bR:∀q r,(A9 q r/\r<w0.heap.size)->r<aW.heap.size:=λq r h=>by have:=h.2;omega
 obtain⟨g,cap,full,ca,c,cb,rfl,bS,a6,aL,bT,a7,cd,bU,bV⟩:=uS (i:=a.j.toNat) (a:=ee f) bQ (by rw[x8,ae];rfl) λr _ h=>(a2 rfl).2 3 r h;have a8:=aK.box;rw[a1] at a8;have bX:a.j.toNat<(s.funs.map ee).length:=by rw[u5];exact (x4.1 ae).1
 have ce:=I.1;have bY:c.length=4:=ak.len a7;have aL:a.j.toNat*4+4<=full.length:=aL;have bZ:∀ (q:Nat) x,c[q]? =σ x->full[a.j.toNat*4+q]? =σ x:=bT;rw[aw,aa aE.p rfl,ac (v:=.slice (σ ⟨g,0,ν⟩) (s.funs.map ee).length cap) Ψ (a8.cell (o:=0+6) rfl),aa aR.p rfl,ac (v:=Δ a.j) Ψ (aZ.cU.cell (o:=0+3) rfl),
  show a.j=((a.j.toNat:Nat):Int) by omega,fc b1.u bW.i bX λ_=>rfl,aa bW.p rfl]
 refine bj (o:=0+a.j.toNat*4+3) eI.i rfl rfl bS Ω λcg an ci ba=>?_;obtain⟨_,b0⟩:=La (x:=0) a7 an bU ((a2 rfl).2 3 g a6);rw[V1,uW bZ (by rw[bY];exact aL) Ω] at ba;have b2:=bV an (λr _ h=>.inr h) ba b0 λr ad=>.inl ad;have ap:iG s a.j.toNat={s with funs:=s.funs.set a.j.toNat {f with live:=0}}:=by unfold iG;rw[ae]
 have aM:∀r,r<aW.heap.size->r=g->A9 3 r/\r<w0.heap.size:=λr _ h=>by rw[h];exact a6
 obtain⟨bK,b3,aI⟩:=aK.Br (u':=iG s a.j.toNat) bR (by rw[a1];rfl) an aM (by rw[ap,T0];exact b2) (by rw[ap]) (by rw[ap]) (by rw[ap]);refine aF _ _ ⟨rfl,aZ.V an λr ad h=>(aM r ad h).2,((aY.V _).trans (an.mono λr ad h=>.inl ⟨3,(aM r ad h).1⟩)),bK,b3,λq r ad=>?_⟩;rcases aI q r ad with⟨aH,h⟩|h
 .exact .inl ⟨aH,h.1⟩
 .exact .inr Ω
end
theorem Lc {m:Int} {v w:Int} (I:0<=v) (hw:0<=w):dropped (((m.toNat ||| 2 ^ v.toNat:Nat):Int)) w=(dropped m w||decide (w=v)):=by
 unfold dropped;rw[j9,Nat.testBit_or,Nat.testBit_two_pow];congr 1;exact decide_eq_decide.2 ⟨λh=>Ω,λh=>Ω⟩
theorem Ld {x:fQ} {v:Int} (I:0<=v):c5 {x with mask:=((x.mask.toNat ||| 2 ^ v.toNat:Nat):Int)}=(c5 x).filter λy=>!decide (y=v):=by
 unfold c5;rw[List.filter_filter];refine List.filter_congr λy J=>?_;obtain⟨q,_,rfl⟩:=Z5.1 J;rw[Lc I Ω];cases dropped x.mask (q:Int) <;> simp
section
variable {w0 w w':x2} {al ag am aU:Nat} {A R:ai} {A9:Nat->ai} {aO:ai} {n:aV} {s u u':aF} {t:aC} {h:List aC} {cs:List x1} {a:de} {aD ay ch v:x1} {Q:x1->x2->Prop}
theorem bG.Le {T:ai} (p:bG w al ag am A R A9 aO n s u t h cs) (W:∀q r,A9 q r->r<w.heap.size) (X:cs[3]? =σ v) (J:af T w w') (U:∀r,r<w.heap.size->T r->A9 0 r) (Y:bf (λr=>A9 0 r\/w.heap.size<=r) aO w' [v] (u'.vars.map c5))
  (aa:u'.zero=u.zero) (ab:u'.vars.map (·.un)=u.vars.map (·.un)) (ac:(u'.vars.map λx=>decide (x.gone≠0))=u.vars.map λx=>decide (x.gone≠0)) (ad:u'.funs=u.funs) (ae:u'.elims=u.elims):
  ∃bK,bG w' al ag am A R bK aO n s u' t h cs/\ ∀q r,bK q r->(∃ah,A9 ah r)\/w.heap.size<=r:=by
 have aj:=bd.uN p.doc (nU J) (λr I=>.inl (U r I.2 I.1)) Y (λj r ak I=>?_) (λr I=>?_)
 .have V:=uU (w:=w) (A9:=A9) (q:=0) (B:=λr=>A9 0 r\/w.heap.size<=r) λr h=>h;refine⟨_,p.row J U ?_ V,V⟩;have:=bd.nq X aj;unfold fj;rw[aa,ab,ac,ad,ae];exact this
 .rcases I with I|I
  .exact p.gJ.1 0 j r (T7 ak) I
  .exact λh=>by have:=W j r h;omega
 .rcases I with I|I
  .exact p.gJ.2 0 r I
  .exact λh=>by have:=(p.read r h).2.1;omega
def mE (n:aV) (s:aF) (a:de):aF:=if ez n a.i a.v then gF s a.i.toNat a.v.toNat else s
theorem Lf (p:bG w0 al ag am A R A9 aO n s s t h cs) (a6:Room t) (aH:Ext w0 w) (aI:dO w aU n.k a aD ay ch w0.heap.size) (a7:∀w',iI w0 al ag am A R A9 aO n (mE n s a) t h w'->Q (.bool true) w'):
  bx (α:=x1->x2->Prop) (λ(bC:x1) (ao:x2)=>
      J x3 (x7 aR (Γ aU) 1) ao λbD=>
      J x3 (x5 ab bD) ao λbE=>
      J x3 (x7 aR (Γ aU) 2) ao λbF=>
      J x3 (x5 ab bF) ao λbH=>
      aj x3 qi [Γ al,bE,bH] ao λbI a8=>
      J x3 (aB .eql eB false false bI bC) a8 λbJ=>
      Q bJ a8) λba=>
     J x3 (Op.unary .not (.bool (decide (ez n a.i a.v)))) w λbL=>
     Split bL (ba (Δ 1) w)
      (cj w λI=>
      J x3 (aX (Γ am)) I λaJ=>
      J x3 (x7 aE aJ 3) I λaK=>
      J x3 (x5 cu aK) I λbc=>
      J x3 (x7 aR (Γ aU) 1) I λaL=>
      J x3 (x5 ab aL) I λbd=>
      J x3 (aX (Γ am)) I λbM=>
      J x3 (x7 aE bM 3) I λbN=>
      J x3 (x5 cu bN) I λbP=>
      J x3 (x7 aR (Γ aU) 1) I λbQ=>
      J x3 (x5 ab bQ) I λbR=>
      J x3 (n0 cu bP bR) I λbS=>
      J x3 (x5 ah bS) I λbT=>
      J x3 (Instr.makeFunc (.func C9) #[] #[(Γ aU)]) I λbU=>
      aj x3 wx [bT,bU] I λbV X=>
      (Ext I X\/bk x3 (x5 ab aL) bd X/\bk x3 (x7 aR (Γ aU) 1) aL X/\bk x3 (x5 cu aK) bc X/\bk x3 (x7 aE aJ 3) aK X/\bk x3 (aX (Γ am)) aJ X/\True)/\
      J x3 (n0 cu bc bd) X λbW=>
      az x3 (o4 ah bW bV) X λ(_:Unit) bX=>
       ba (Δ 0) bX):=by
 have call:∀ {U:x2} {K:x1->x2->Prop},dO U aU n.k a aD ay ch w0.heap.size->(aj x3 qi [Γ al,Δ a.i,Δ a.v] U K)->
   J x3 (x7 aR (Γ aU) 1) U λbY=>J x3 (x5 ab bY) U λbZ=>J x3 (x7 aR (Γ aU) 2) U λb1=>J x3 (x5 ab b1) U λb2=>
   aj x3 qi [Γ al,bZ,b2] U K:=λav b3=>by
  rw[aa aR.p rfl,ac (v:=Δ a.i) Ψ (av.cU.cell (o:=0+1) rfl),aa aR.p rfl,ac (v:=Δ a.v) Ψ (av.cU.cell (o:=0+2) rfl)];exact b3
 have dP:=p.olds.ext aH;by_cases Y:ez n a.i a.v
 rotate_left
 .refine aP (λv U=>v=Δ 1/\w=U) ?_ ?_
  .rintro _ U ⟨rfl,rfl⟩;refine call aI ((uH (i:=a.i) (v:=a.v) dP.cc a6).mono ?_);rintro v b4 _ ⟨h1,_⟩;obtain⟨rfl,b5⟩:=h1 Y;rw[bi];exact a7 _ (by unfold mE;rw[if_neg Y];exact jV p (aH.trans b5))
  .intro b6 aM;rw[decide_eq_false Y,bg,X4,bO];exact aM _ _ ⟨rfl,rfl⟩
 refine aP (λv U=>v=Δ 0/\dO U aU n.k a aD ay ch w0.heap.size/\af (λr=>(∃q,A9 q r)\/r=am) w0 U/\ ∃bK,bG U al ag am A R bK aO n s (gF s a.i.toNat a.v.toNat) t h cs/\ ∀q r,bK q r->(∃aN,A9 aN r)\/w0.heap.size<=r) ?_ ?_
 .rintro _ U ⟨rfl,av,b7,bK,be,aS⟩;refine call av ((uH (i:=a.i) (v:=a.v) be.cc a6).mono ?_);rintro v b4 _ ⟨_,bf⟩;obtain⟨rfl,ad,b8,y,b9,ca⟩:=bf Y;obtain⟨_,cb⟩:=pL (v:=Δ 0) be b7 aS ⟨rfl,ad,b8,_,y,b9,ca⟩;rw[bi];exact a7 _ (by unfold mE;rw[if_pos Y];exact cb)
 intro b6 aM;rw[decide_eq_true Y,bg,Y1,aQ];intro aT aV _ _;have bh:=aH.trans aV;have ax:=dP.ext aV;have aW:=aI.ext aV;obtain⟨x,ap,cF,cG,_⟩:=Y.var p.cc.2.2.2.1;obtain⟨h1,bf,cd,cH⟩:=id Y;obtain⟨au,cI,cJ,cK,cL,cM,bl,_,ce,_,_,_,_,cg⟩:=id ax.doc;have z:=bh.size;have ci:∀q r,(A9 q r/\r<w0.heap.size)->r<aT.heap.size:=λq r h=>by have:=h.2;omega
 obtain⟨g,cap,full,ck,c,aY,rfl,bm,cl,aZ,bn,bo,a1,bp,cm⟩:=uS (i:=a.i.toNat) (a:=c5 x) ce (by rw[x8,ap];rfl) λr _ h=>(cg rfl).2 0 r h;obtain⟨u',rfl⟩:=X7.1 (ak.len bo);obtain⟨cN,cO,hm,cn⟩:=E6 bo;have ai:∀r,leads u' r->aY r:=λr W=>by
  rcases cn with rfl|cp
  .obtain⟨_,_,_,e,_⟩:=W;cases e
  .obtain⟨e,_⟩:=bA hm W;rw[e];exact cp
 have aC:=ax.box;rw[bl] at aC;have bq:a.i.toNat<(s.vars.map c5).length:=by rw[u5];exact (x4.1 ap).1
 have aZ:a.i.toNat*1+1<=full.length:=aZ;have cq:full[a.i.toNat*1]? =σ u':=bn 0 u' rfl;obtain⟨_,_,_,cP⟩:=b0 hm.ls;have cr:a.i=((a.i.toNat:Nat):Int):=Ω
 have ct:(c5 x).length<=100000000:=by
  unfold c5;have:=List.length_filter_le (λv:Int=>!dropped x.mask v) ((X9 x.un.length).map λv:Nat=>(v:Int));rw[u5,List.length_range] at this;omega
 have aF:=aW.cU;rw[cr] at aF;have br:∀r,leads u' r->r<w0.heap.size:=λr W=>(a1 r (ai r W)).2;rw[aw,aa aE.p rfl,ac (v:=.slice (σ ⟨g,0,ν⟩) (s.vars.map c5).length cap) Ψ (aC.cell (o:=0+3) rfl),aa aR.p rfl,ac (v:=Δ ((a.i.toNat:Nat):Int)) Ψ (aF.cell (o:=0+1) rfl),
  aw,aa aE.p rfl,ac (v:=.slice (σ ⟨g,0,ν⟩) (s.vars.map c5).length cap) Ψ (aC.cell (o:=0+3) rfl),aa aR.p rfl,ac (v:=Δ ((a.i.toNat:Nat):Int)) Ψ (aF.cell (o:=0+1) rfl),fc cu.u ah.i bq λ_=>rfl,
  ac (v:=u') (o:=0+a.i.toNat*1) Ψ (bm.cell (by rw[V1];exact cq)),kj]
 refine (K9 (p:=λy=>decide (y=a.v)) hm ct λw' y cw cQ=>?_).mono ?_
 .refine aA func86 ?_;rw[aa aR.p rfl,ac (v:=Δ a.v) Ψ ((aW.V cw λr _ h=>br r h).cU.cell (o:=0+2) rfl),bi];exact⟨rfl,Ext.refl _⟩
 rintro bt cR _ ⟨aG,bu,bw⟩;have cz:=aF.V aG λh=>by have:=br aU h;have:=aI.low.1;omega
 have cA:=aC.V aG λh=>(ax.apart 0 am (a1 am (ai am h))).2.2 rfl;have cB:=bm.V aG λh=>bp (ai g h);refine⟨.inr ⟨kt Ψ (cz.cell (o:=0+1) rfl),Go.Vc.gA λK=>aa aR.p rfl,kt Ψ (cA.cell (o:=0+3) rfl),Go.Vc.gA λK=>aa aE.p rfl,Go.Vc.gA λK=>aw,trivial⟩,?_⟩;rw[fc cu.u ah.i bq λ_=>rfl];obtain⟨_,_,_,ev'⟩:=b0 bu.ls;refine bj (o:=0+a.i.toNat*1) ah.i (by rw[ev'];rfl) (by rw[ev'];rfl) cB Ω λbz bB cS aq=>?_;have aq:ae bz g ck (over full (a.i.toNat*1) [bt]):=by
  have e:=uW (full:=full) (c:=[u']) (o:=a.i.toNat*1) (q:=0) (x:=bt) bn aZ Ξ;rw[V1] at aq;rw[Nat.add_zero] at e;rw[e] at aq;exact aq
 have ad:af (λr=>aY r\/r=g) aT bz:=(aG.mono λr _ h=>.inl (ai r h)).trans (bB.mono λr _ h=>.inr h);have cC:=bb bu bB λr W he=>by have he:r=g:=he;subst he;exact bp (ai r (bw r W))
 have cD:=cm ad (λr _ h=>h) aq (lr (R:=aO) cC) λr W=>.inl (ai r (bw r W));have an:gF s a.i.toNat a.v.toNat={s with vars:=s.vars.set a.i.toNat {x with mask:=((x.mask.toNat ||| 2 ^ a.v.toNat:Nat):Int)}}:=by unfold gF;rw[ap]
 have a2:∀r,r<aT.heap.size->(aY r\/r=g)->A9 0 r/\r<w0.heap.size:=λr _ h=>h.elim (a1 r) λh=>by rw[h];exact cl
 obtain⟨bK,cE,aS⟩:=ax.Le (u':=gF s a.i.toNat a.v.toNat) ci (by rw[bl];rfl) ad a2 (by rw[an,T0,Ld cd];exact cD) (by rw[an]) (by rw[an];exact nT ap rfl) (by rw[an];exact nT ap rfl) (by rw[an]) (by rw[an]);refine aM _ _ ⟨rfl,aW.V ad λr W h=>(a2 r W h).2,((bh.V _).trans (ad.mono λr W h=>.inl ⟨0,(a2 r W h).1⟩)),bK,cE,λq r W=>?_⟩;rcases aS q r W with⟨aN,h⟩|h
 .exact .inl ⟨aN,h.1⟩
 .exact .inr Ω
end
section
variable {w0 w w':x2} {al ag am aU:Nat} {A R:ai} {A9:Nat->ai} {aO:ai} {n:aV} {s u u':aF} {t:aC} {h:List aC} {cs:List x1} {a:de} {aD ay ch v:x1} {Q:x1->x2->Prop}
theorem Lg {j c:Int} (h:b9 w al ag A R n s t) (J:¬(0<=j/\dL s j.toNat=true)):aj x3 oi [Γ al,Δ j,aD,Δ c] w λr w'=>r=Δ 1/\Ext w w':=by
 refine aA func57 ?_;have:aj x3 wE [Γ al,Δ j,aD] w λr w'=>r=Δ (-1)/\Ext w w':=by
  refine aA func137 ?_;refine (mA (j:=j) h).mono ?_;rintro _ U _ ⟨rfl,I⟩;rw[bg,bH];refine⟨λ_=>⟨rfl,I⟩,λV=>absurd (by simpa using V) J⟩
 refine this.mono ?_;rintro _ U _ ⟨rfl,I⟩;refine (nR (h.ext I) (.inl Ω)).mono ?_;rintro r X _ ⟨rfl,W⟩;exact⟨by rw[if_pos Ω],I.trans W⟩
theorem Lh {F:ai} {f:ev} (h:bf (α:=fC) F R w c (ee f)) (ac:∀r,F r->¬R r):∃ay au aJ J,c=[ay,au,aJ,.bool (decide (f.live≠0))]/\bf J R w [aJ] f.cs/\(∀r,J r->F r)/\
  ∀ {w':x2} {bl:List Int},af J w w'->bf J R w' [aJ] bl->bf (α:=fC) F R w' c (ee {f with cs:=bl}):=by
 obtain⟨aH,ao,A,B,rfl,ad,ap,aq,h1,W⟩:=h;obtain⟨av,aI,aw,ax,rfl,az,ae,ag,ah,aA⟩:=h1;obtain⟨aB,aC,aD,X,rfl,aE,Y,aj,al,am⟩:=aA;have W:ao=[.bool (decide (f.live≠0))]:=W;subst W;obtain⟨aa,rfl⟩:=X7.1 (show av.length=1 from ak.len ah);obtain⟨U,rfl⟩:=X7.1 (show aB.length=1 from ak.len al);obtain⟨v3,rfl⟩:=X7.1 (show aC.length=1 from ak.len am);have ab:∀r,X r->F r:=λr h=>ad r (ae r (Y r h));refine⟨aa,U,v3,X,rfl,am,ab,λ{w' bl} an aF=>?_⟩;refine⟨[aa,U,v3],[.bool (decide (f.live≠0))],A,B,rfl,ad,ap,aq,⟨[aa],[U,v3],aw,ax,rfl,az,ae,ag,ak.V ah an λr aG I he=>?_,[U],[v3],aD,X,rfl,aE,Y,aj,ak.V al an λr aG I he=>?_,aF⟩,rfl⟩
 .exact I.elim (λI=>ag rfl r I (Y r he)) (ac r (ab r he))
 .exact I.elim (λI=>aj rfl r I he) (ac r (ab r he))
def kO (n:aV) (s:aF) (a:de):aF:=if 0<=a.j/\(en s a.j.toNat (a.t.take 40)).isSome=true/\(0<=b5 n.k a/\b5 n.k a<=n.k) then (match s.funs[a.j.toNat]? with
 |some f=>match cq f.szs (a.t.take 40) 0 with
  |some m=>gn s a.j.toNat m.toNat (b5 n.k a)
  |none=>s
 |none=>s) else s
theorem Li (p:bG w0 al ag am A R A9 aO n s s t h cs) (bl:Room t) (a8:Ext w0 w) (ba:dO w aU n.k a aD ay ch w0.heap.size) (bm:∀w',iI w0 al ag am A R A9 aO n (kO n s a) t h w'->Q (.bool true) w'):
  bx (α:=x1->x2->Prop) (λ(bJ:x1) (aT:x2)=>
      bx (α:=x1->x2->Prop) (λ(ca:x1) (aF:x2)=>
       J x3 (x7 aR (Γ aU) 3) aF λcb=>
       J x3 (x5 ab cb) aF λcd=>
       J x3 (x7 aR (Γ aU) 5) aF λbn=>
       J x3 (x5 ah bn) aF λce=>
       J x3 (x7 aR (Γ aU) 4) aF λcg=>
       J x3 (x5 an cg) aF λci=>
       aj x3 oi [Γ al,cd,ce,ci] aF λck bL=>
       J x3 (aB .eql eB false false ck ca) bL λbo=>
       Q bo bL) λbp=>
      J x3 (aB .lss ab false true bJ (Δ 0)) aT λcl=>
      Split cl (bp (Δ 1) aT)
      (J x3 (Op.unary .not (.bool (decide (0<=b5 n.k a/\b5 n.k a<=n.k)))) aT λcm=>
      Split cm (bp (Δ 3) aT)
       (cj aT λW=>
       J x3 (aX (Γ am)) W λcn=>
       J x3 (x7 aE cn 6) W λcp=>
       J x3 (x5 b1 cp) W λcr=>
       J x3 (x7 aR (Γ aU) 3) W λct=>
       J x3 (x5 ab ct) W λcu=>
       J x3 (n0 b1 cr cu) W λcw=>
       J x3 (x7 bW cw 0) W λcz=>
       J x3 (x7 aY cz 2) W λcA=>
       J x3 (x5 ax cA) W λcB=>
       J x3 (x7 aR (Γ aU) 4) W λcC=>
       J x3 (x5 an cC) W λcD=>
       J x3 (n0 ax cB bJ) W λcE=>
       az x3 (o4 an cE cD) W λ(_:Unit) cF=>
       bp (Δ 0) cF))) λbM=>
     cj w λaV=>
     J x3 (aX (Γ am)) aV λcG=>
     J x3 (x5 aE cG) aV λcH=>
     J x3 (x7 aR (Γ aU) 3) aV λcI=>
     J x3 (x5 ab cI) aV λcJ=>
     aj x3 su [cH,cJ] aV λcK bN=>
     Split cK (cj bN λaG=>
     J x3 (aX (Γ am)) aG λcL=>
     J x3 (x5 aE cL) aG λcM=>
     J x3 (x7 aR (Γ aU) 3) aG λcN=>
     J x3 (x5 ab cN) aG λcO=>
     J x3 (x7 aR (Γ aU) 5) aG λcP=>
     J x3 (x5 ah cP) aG λcQ=>
     aj x3 wv [cM,cO,cQ] aG λcR cS=>
      bM cR cS)
     (bM (Δ (-1)) bN):=by
 obtain⟨X,bq⟩:∃X,X=a.t.take 40:=⟨_,rfl⟩;have bb:=p.cc.2.2.2.1;have bP:∀ {I:x2} {K:x1->Prop},dO I aU n.k a aD ay ch w0.heap.size->(aI .i64 I aD X->K aD)->J x3 (x7 aR (Γ aU) 5) I λbn=>J x3 (x5 ah bn) I K:=λY br=>by
  obtain⟨g,hm⟩:=Y.t;obtain⟨_,_,_,e⟩:=b0 hm.ls;rw[aa aR.p rfl,ac (v:=aD) Ψ (Y.cU.cell (o:=0+5) rfl)];exact br (by rw[bq];exact hm.ls)
 have call:∀ {I:x2} {K:x1->x2->Prop},dO I aU n.k a aD ay ch w0.heap.size->(aI .i64 I aD X->aj x3 oi [Γ al,Δ a.j,aD,Δ (b5 n.k a)] I K)->
   J x3 (x7 aR (Γ aU) 3) I λcT=>J x3 (x5 ab cT) I λcV=>J x3 (x7 aR (Γ aU) 5) I λcW=>J x3 (x5 ah cW) I λcX=>
   J x3 (x7 aR (Γ aU) 4) I λcY=>J x3 (x5 an cY) I λcZ=>aj x3 oi [Γ al,cV,cX,cZ] I K:=λY br=>by
  rw[aa aR.p rfl,ac (v:=Δ a.j) Ψ (Y.cU.cell (o:=0+3) rfl)];refine bP Y λap=>?_;rw[aa aR.p rfl,ac (v:=Δ (b5 n.k a)) Ψ (Y.cU.cell (o:=0+4) rfl)];exact br ap
 have dP:=p.olds.ext a8;refine aP (λv I=>Ext w I/\((v=Δ (-1)/\¬(0<=a.j/\(en s a.j.toNat X).isSome=true))\/ ∃f m,v=Δ ((m:Nat):Int)/\0<=a.j/\(en s a.j.toNat X).isSome=true/\s.funs[a.j.toNat]? =σ f/\f.live≠0/\cq f.szs X 0=σ (m:Int)/\m<f.cs.length)) ?_ ?_
 rotate_left
 .intro bt aq aH bc _ _;rw[aw];refine (dP.ext bc).look.load λdr c0=>?_;rw[aa aR.p rfl,ac (v:=Δ a.j) Ψ ((ba.ext bc).cU.cell (o:=0+3) rfl)];refine (uP (j:=a.j) c0).mono ?_;rintro _ aA _ ⟨rfl,ai⟩;rw[bH];refine⟨λbu=>?_,λaJ=>aq _ _ ⟨bc.trans ai,.inl ⟨rfl,λ⟨aW,h1⟩=>?_⟩⟩⟩
  .rw[U1] at bu;have aW:=of_decide_eq_true bu.1;obtain⟨f,U,bw⟩:∃f,s.funs[a.j.toNat]? =σ f/\f.live≠0:=by
    have aZ:=bu.2;unfold dL at aZ;cases U:s.funs[a.j.toNat]? with
    |none=>rw[U] at aZ;cases aZ
    |some f=>rw[U] at aZ;exact⟨f,rfl,by simpa using aZ⟩
   intro bz a1 _ _;have bd:=(bc.trans ai).trans a1;have a2:=dP.ext bd;have aL:=ba.ext bd;rw[aw];refine a2.look.load λds c1=>?_;rw[aa aR.p rfl,ac (v:=Δ a.j) Ψ (aL.cU.cell (o:=0+3) rfl)];refine bP aL λap=>?_;have bQ:=KY (j:=a.j.toNat) c1 bb U ap;rw[show ((a.j.toNat:Nat):Int)=a.j by omega] at bQ;refine bQ.mono ?_;rintro _ bR _ ⟨rfl,bS⟩;have c2:=pA bb (x6 U);rw[GD c2.1.2];have bT:en s a.j.toNat X=(cq f.szs X 0).map λm=>dT s a.j.toNat+1+m.toNat:=by unfold en;rw[U];simp only;rw[if_pos bw]
   cases hi:cq f.szs X 0 with
   |none=>exact aq _ _ ⟨bd.trans bS,.inl ⟨rfl,λ⟨_,h⟩=>by rw[bT,hi] at h;simp at h⟩⟩
   |some m=>
    have aM:(en s a.j.toNat X).isSome=true:=by rw[bT,hi];rfl
    obtain⟨q,a6⟩:=Option.isSome_iff_exists.1 aM;obtain⟨_,c3,be,_,c4,bU,bA,_⟩:=pB bb a6;rw[U] at be;cases be;rw[hi] at bU;cases bU;exact aq _ _ ⟨bd.trans bS,.inr ⟨f,c4,rfl,aW,aM,U,bw,hi,bA⟩⟩
  .rw[decide_eq_true aW,U7] at aJ;obtain⟨q,a6⟩:=Option.isSome_iff_exists.1 h1;obtain⟨_,c3,be,c5,_⟩:=pB bb a6;unfold dL at aJ;rw[be] at aJ;simp[c5] at aJ
 rintro _ I ⟨aK,⟨rfl,aJ⟩|⟨f,m,rfl,aW,aM,U,bw,hi,bA⟩⟩
 .have a7:=dP.ext aK;have Y:=ba.ext aK;refine aP (λv aH=>v=Δ 1/\I=aH) ?_ ?_
  .rintro _ aH ⟨rfl,rfl⟩;refine call Y λap=>?_;have bV:∀ {aA:x2},Ext I aA->J x3 (aB .eql eB false false (Δ 1) (Δ 1)) aA λbo=>Q bo aA:=λai=>by
    rw[bi];exact bm _ (by unfold kO;rw[<-bq,if_neg λh=>aJ ⟨h.1,h.2.1⟩];exact jV p ((a8.trans aK).trans ai))
   by_cases bX:0<=a.j/\dL s a.j.toNat=true
   .have aC:=uL (j:=a.j.toNat) (c:=b5 n.k a) a7.cc bl ap;rw[show ((a.j.toNat:Nat):Int)=a.j by omega] at aC;refine aC.mono ?_;rintro v aA _ ⟨h1,_⟩;have c6:en s a.j.toNat X=ν:=by
     cases a6:en s a.j.toNat X with
     |none=>rfl
     |some q=>exact absurd ⟨bX.1,by rw[a6];rfl⟩ aJ
    obtain⟨rfl,ai⟩:=h1 c6;exact bV ai
   .refine (Lg (c:=b5 n.k a) a7.cc bX).mono ?_;rintro v aA _ ⟨rfl,ai⟩;exact bV ai
  .intro bt aq;rw[ao,ad];exact⟨λ_=>aq _ _ ⟨rfl,rfl⟩,λh=>absurd Φ h⟩
 have a7:=dP.ext aK;have Y:=ba.ext aK;by_cases aN:0<=b5 n.k a/\b5 n.k a<=n.k
 rotate_left
 .refine aP (λv aH=>v=Δ 3/\I=aH) ?_ ?_
  .rintro _ aH ⟨rfl,rfl⟩;refine call Y λap=>?_;have aC:=uL (j:=a.j.toNat) (c:=b5 n.k a) a7.cc bl ap;rw[show ((a.j.toNat:Nat):Int)=a.j by omega] at aC;refine aC.mono ?_;rintro v aA _ ⟨_,h1,_⟩;obtain⟨rfl,ai⟩:=h1 aM aN;rw[bi];exact bm _ (by unfold kO;rw[if_neg λh=>aN h.2.2];exact jV p ((a8.trans aK).trans ai))
  .intro bt aq;rw[ao,ad];refine⟨λh=>Ω,λ_=>?_⟩;rw[decide_eq_false aN,bg,X4,bO];exact aq _ _ ⟨rfl,rfl⟩
 have c7:kO n s a=gn s a.j.toNat m (b5 n.k a):=by
  unfold kO;rw[<-bq,if_pos ⟨aW,aM,aN⟩,U];simp only;rw[hi];rfl
 refine aP (λv I=>v=Δ 0/\dO I aU n.k a aD ay ch w0.heap.size/\af (λr=>(∃q,A9 q r)\/r=am) w0 I/\ ∃bK,bG I al ag am A R bK aO n s (gn s a.j.toNat m (b5 n.k a)) t h cs/\ ∀q r,bK q r->(∃bB,A9 bB r)\/w0.heap.size<=r) ?_ ?_
 .rintro _ aH ⟨rfl,c8,c9,bK,bY,bC⟩;refine call c8 λap=>?_;have aC:=uL (j:=a.j.toNat) (c:=b5 n.k a) bY.cc bl ap;rw[show ((a.j.toNat:Nat):Int)=a.j by omega] at aC;refine aC.mono ?_;rintro v aA _ ⟨_,_,h1⟩;obtain⟨rfl,da⟩:=pL bY c9 bC (h1 aM aN f m U hi);rw[bi];exact bm _ (by rw[c7];exact da)
 intro bt aq;rw[ao,ad];refine⟨λh=>Ω,λ_=>?_⟩;rw[decide_eq_true aN,bg,Y1,aQ];intro bz a1 _ _;have bZ:=(a8.trans aK).trans a1;have a2:=a7.ext a1;have aL:=Y.ext a1;obtain⟨au,dt,du,dv,dw,dx,b2,_,_,_,_,db,_,bD⟩:=id a2.doc;have z:=bZ.size;have dc:∀q r,(A9 q r/\r<w0.heap.size)->r<bz.heap.size:=λq r h=>by have:=h.2;omega
 obtain⟨g,cap,full,dd,c,dy,rfl,b3,dz,bE,b4,de,bF,df,dg⟩:=uS (i:=a.j.toNat) (a:=ee f) db (by rw[x8,U];rfl) λr _ h=>(bD rfl).2 3 r h;obtain⟨bf,bh,v3,dh,rfl,b6,bj,di⟩:=Lh de λr h=>(bD rfl).2 3 r (bF r h);have b7:=a2.box;rw[b2] at b7;have dj:a.j.toNat<(s.funs.map ee).length:=by rw[u5];exact (x4.1 U).1
 have bE:a.j.toNat*4+4<=full.length:=bE;have b8:full[a.j.toNat*4+2]? =σ v3:=b4 2 v3 rfl;obtain⟨_,_,_,dA⟩:∃a n c,v3= .slice a n c:=by obtain⟨_,_,_,_,_,⟨_,b,o,base,cap,e,_⟩,_⟩:=fZ b6;exact⟨_,_,_,e⟩
 rw[aw,aa aE.p rfl,ac (v:=.slice (σ ⟨g,0,ν⟩) (s.funs.map ee).length cap) Ψ (b7.cell (o:=0+6) rfl),aa aR.p rfl,ac (v:=Δ a.j) Ψ (aL.cU.cell (o:=0+3) rfl),
  show a.j=((a.j.toNat:Nat):Int) by omega,fc b1.u bW.i dj λ_=>rfl,aa bW.p rfl,aa aY.p rfl,ac (v:=v3) (o:=0+a.j.toNat*4+0+2) Ψ (b3.cell (by rw[V1,Nat.add_zero];exact b8)),aa aR.p rfl,ac (v:=Δ (b5 n.k a)) Ψ (aL.cU.cell (o:=0+4) rfl)]
 refine uM (α:=Int) (i:=m) (A:=λ_=>False) rfl rfl ax.u an.i b6 bA rfl rfl (λr _ av=>⟨λh=>h,(bD rfl).2 3 r (bF r (bj r av))⟩) λbR aS dk=>?_;have dl:=di aS (ak.mono dk (λr _ h=>h.elim id False.elim) λ_ _ h=>h);have dm:ae bR g dd (over full (a.j.toNat*4) [bf,bh,v3,.bool (decide (f.live≠0))]):=by
  have e:=uW (full:=full) (c:=[bf,bh,v3,.bool (decide (f.live≠0))]) (o:=a.j.toNat*4) (q:=2) (x:=v3) b4 bE Ξ;have dn:full.set (a.j.toNat*4+2) v3=full:=by
   refine X6 λk=>?_;rw[X5];by_cases b9:a.j.toNat*4+2=k
   .subst b9;rw[if_pos rfl,if_pos Ω,b8]
   .rw[if_neg b9]
  rw[dn] at e;rw[show ([bf,bh,v3,.bool (decide (f.live≠0))]:List x1)=[bf,bh,v3,.bool (decide (f.live≠0))].set 2 v3 from rfl,<-e];exact b3.V aS λh=>df (bj g h)
 have dp:=dg aS (λr _ h=>.inl (bj r h)) dm dl λr av=>.inl av;have bk:gn s a.j.toNat m (b5 n.k a)={s with funs:=s.funs.set a.j.toNat {f with cs:=f.cs.set m (b5 n.k a)}}:=by unfold gn;rw[U]
 have bI:∀r,r<bz.heap.size->dh r->A9 3 r/\r<w0.heap.size:=λr _ h=>bF r (bj r h);obtain⟨bK,dq,bC⟩:=a2.Br (u':=gn s a.j.toNat m (b5 n.k a)) dc (by rw[b2];rfl) aS bI (by rw[bk,T0];exact dp) (by rw[bk]) (by rw[bk]) (by rw[bk]);refine aq _ _ ⟨rfl,aL.V aS λr av h=>(bI r av h).2,((bZ.V _).trans (aS.mono λr av h=>.inl ⟨3,(bI r av h).1⟩)),bK,dq,λq r av=>?_⟩;rcases bC q r av with⟨bB,h⟩|h
 .exact .inl ⟨bB,h.1⟩
 .exact .inr Ω
end
section
variable {w:x2} {n:aV} {v:x1} {s:aF}
theorem Bs {an:x1} (h:iH w v n.k n.sizes s) (aD:eN n.k n.sizes s) (V:aI .i64 w an l):aj x3 DK [v,an] w λr w'=>(∃b,r= .bool b/\(b=true↔jT n s l))/\Ext w w':=by
 have a2:=aD.vars;refine aA func175 ?_;refine bM λa6 U a7 I ae=>?_;have ap:=h.box I ae;rw[aS ah.u (V.ext I)];refine bC.range l.length (λi _ ak=>Ext U ak/\ ∀q,q<i->mB n s l q) V.le ⟨Ext.refl _,λq aF=>Ω⟩ ?_ ?_
 .rintro i _ ak aG hi ⟨W,aJ⟩ aK;obtain⟨x,X⟩:∃x,l[i]? =σ x:=⟨_,y0 hi⟩;have aL:=I.trans W;rw[ao,ad];refine⟨λ_=>?_,λh=>Ω⟩;rw[bc ah.u ab.i Ψ (V.ext aL) X];have aq:∀ {p:Prop},(¬(0<=x/\x<n.sizes.length/\fB s x.toNat=false/\(0<i->l.getD (i-1) 0<x)))->mB n s l i->p:=λaf ⟨v,Y,al⟩=>by
   rw[X] at Y;cases Y;exact absurd al af
  refine aP (λr av=>∃b,r= .bool b/\(b=false↔mB n s l i)/\Ext U av) ?_ ?_
  .rintro _ av ⟨b,rfl,ae,aw⟩;rw[bH];refine⟨λaM=>⟨⟨false,rfl,⟨(λh=>by cases h),λh=>?_⟩⟩,I.trans aw⟩,λaO=>?_⟩
   .have:=ae.2 (h i hi);rw[aM] at this;cases this
   .rw[aN];refine aK _ _ ⟨aw,λq aF=>?_⟩;by_cases aQ:q=i
    .subst aQ;exact ae.1 aO
    .exact aJ q Ω
  intro a8 ag;refine (ap.ext W).load λu hu=>?_;refine (pF (i:=x) hu).mono ?_;rintro _ ba _ ⟨rfl,aR⟩;have J:=W.trans aR;rw[bg,bH];refine⟨λaf=>ag _ _ ⟨true,rfl,⟨(λh=>by cases h),aq λaH=>?_⟩,J⟩,λaT=>?_⟩
  .rw[decide_eq_true (show 0<=x/\x<n.sizes.length from⟨aH.1,aH.2.1⟩)] at af;cases af
  have ai:0<=x/\x<n.sizes.length:=by simpa using aT
  obtain⟨y,ax⟩:∃y,s.vars[x.toNat]? =σ y:=⟨_,y0 Ω⟩;have ay:fB s x.toNat=decide (y.gone≠0):=by unfold fB;rw[ax]
  obtain⟨au,bb,aU,bd,be,bf,aV,_,_,_,aW,_⟩:=ap.ext J;rw[aa aE.p rfl,ac (v:=aU) Ψ (aV.cell (o:=0+4) rfl)];refine k7 (α:=Bool) (i:=x.toNat) rfl Ω fl.u eI.i Ψ aW (by rw[x8,ax];rfl) λaX aY=>?_;obtain rfl:aX= .bool (decide (y.gone≠0)):=(List.cons.inj aY).1;rw[ad];refine⟨λam=>ag _ _ ⟨true,rfl,⟨(λh=>by cases h),aq λaH=>?_⟩,J⟩,λam=>?_⟩
  .rw[ay,decide_eq_true am] at aH;cases aH.2.2.1
  have az:fB s x.toNat=false:=by rw[ay];exact decide_eq_false am
  rw[bP,ad];refine⟨λaZ=>?_,λaZ=>ag _ _ ⟨false,rfl,⟨λ_=>⟨x,X,ai.1,ai.2,az,λh=>Ω⟩,λ_=>rfl⟩,J⟩⟩;obtain⟨p,aB⟩:∃p,l[i-1]? =σ p:=⟨_,y0 Ω⟩;have bh:=V.le;rw[cX,wrap_i64 Ω Ω,dZ (y:=(i:Int)-1) (i:=i-1) Ω ah.u ab.i Ψ (V.ext (I.trans J)) aB,cb];have aC:l.getD (i-1) 0=p:=by rw[u4,aB];rfl
  refine ag _ _ ⟨_,rfl,⟨λh=>⟨x,X,ai.1,ai.2,az,λ_=>by rw[aC];have:=of_decide_eq_false h;omega⟩,λ⟨v,Y,_,_,_,al⟩=>?_⟩,J⟩;rw[X] at Y;cases Y;have:=al Ω;rw[aC] at this;exact decide_eq_false Ω
 .rintro _ ak aG ⟨W,a1⟩;rw[ao,ad];exact⟨λh=>Ω,λ_=>⟨⟨true,rfl,⟨λ_=>a1,λ_=>rfl⟩⟩,I.trans W⟩⟩
def jW (n:aV) (s:aF) (l I:List Int):Prop:=2<=l.length/\l.length=I.length/\jT n s l/\ ∀ (i:Nat) v z,l[i]? =σ v->I[i]? =σ z->n.sizes.getD v.toNat 0=z
theorem Bt {aw ax:x1} {X:List Int} (h:iH w v n.k n.sizes s) (aG:eN n.k n.sizes s) (V:aI .i64 w aw l) (ae:aI .i64 w ax X):aj x3 sD [v,aw,ax] w λr w'=>(∃b,r= .bool b/\(b=true↔jW n s l X))/\Ext w w':=by
 have aH:=V.le;refine aA func92 ?_;refine bM λa6 U a7 J aJ=>?_;have ay:=h.box J aJ;refine aP (λr ai=>∃b,r= .bool b/\(b=false↔2<=l.length/\l.length=X.length/\jT n s l)/\Ext U ai) ?_ ?_
 .rintro _ ai ⟨b,rfl,az,ak⟩;rw[bH];refine⟨λaK=>⟨⟨false,rfl,⟨(λh=>by cases h),λI=>?_⟩⟩,J.trans ak⟩,λaL=>?_⟩
  .have:=az.2 ⟨I.1,I.2.1,I.2.2.1⟩;rw[aK] at this;cases this
  obtain⟨aM,aO,aB⟩:=az.1 aL;have Y:=J.trans ak;rw[aS ah.u (V.ext Y)];refine bC.range l.length (λi _ al=>Ext ai al/\ ∀ (q:Nat) v z,q<i->l[q]? =σ v->X[q]? =σ z->n.sizes.getD v.toNat 0=z) aH ⟨Ext.refl _,λq v z aQ=>Ω⟩ ?_ ?_
  .rintro i _ al aR hi ⟨af,aT⟩ aU;obtain⟨x,am,a8,ba,_⟩:=aB i hi;obtain⟨z,an⟩:∃z,X[i]? =σ z:=⟨_,y0 Ω⟩;obtain⟨y,aC⟩:∃y,n.sizes[x.toNat]? =σ y:=⟨_,y0 Ω⟩;rw[ao,ad];refine⟨λ_=>?_,λh=>Ω⟩;rw[bc ah.u ab.i Ψ (V.ext (Y.trans af)) am];intro bb aV _ _;have ag:=af.trans aV;obtain⟨au,bd,be,bf,bh,bi,aW,aX,_⟩:=ay.ext (ak.trans ag);rw[aa aE.p rfl,ac (v:=au) Ψ (aW.cell (o:=0+1) rfl),dZ (y:=x) (i:=x.toNat) Ω ah.u ab.i Ψ aX aC,bc ah.u ab.i Ψ (ae.ext (Y.trans ag)) an,bB,ad];have aD:n.sizes.getD x.toNat 0=y:=by rw[u4,aC];rfl
   refine⟨λap=>⟨⟨false,rfl,⟨(λh=>by cases h),λI=>?_⟩⟩,Y.trans ag⟩,λhe=>?_⟩
   .have:=I.2.2.2 i x z am an;rw[aD] at this;exact absurd this ap
   .rw[aN];refine aU _ _ ⟨ag,λq v aY aQ W aq=>?_⟩;by_cases aZ:q=i
    .subst aZ;rw[am] at W;rw[an] at aq;cases W;cases aq;rw[aD];exact X2.1 he
    .exact aT q v aY Ω W aq
  .rintro _ al aR ⟨af,a1⟩;rw[ao,ad];refine⟨λh=>Ω,λ_=>⟨⟨true,rfl,⟨λ_=>⟨aM,aO,aB,λi v z W ae=>a1 i v z (x4.1 W).1 W ae⟩,λ_=>rfl⟩⟩,Y.trans af⟩⟩
 intro bj av;rw[aS ah.u (V.ext J),ao,ad];refine⟨λbk=>av _ _ ⟨true,rfl,⟨(λh=>by cases h),λh=>Ω⟩,Ext.refl _⟩,λbl=>?_⟩;rw[aS ah.u (V.ext J),aS ah.u (ae.ext J),bB,ad];refine⟨λap=>av _ _ ⟨true,rfl,⟨(λh=>by cases h),λh=>absurd Ω ap⟩,Ext.refl _⟩,λhe=>?_⟩;refine ay.load λu hu=>?_;refine (Bs hu aG (V.ext J)).mono ?_;rintro _ bm _ ⟨⟨b,rfl,aF⟩,a2⟩;rw[bg];have he:=X2.1 he;refine av _ _ ⟨!b,rfl,⟨λh=>⟨Ω,Ω,aF.1 (by simpa using h)⟩,λh=>by rw[aF.2 h.2.2];rfl⟩,a2⟩
end
structure mF (n:aV) (s:aF) (e:hM):Prop where
 has:0<=e.v/\e.v<n.sizes.length
 there:fB s e.v.toNat=false
 scope:jT n s e.sc
 out:e.v∉e.sc
 nV:∀f∈s.funs,f.live≠0->e.v∉f.sc
 count:(e.ec.length:Int)=aL (bD n.sizes e.sc)
 ec:∀b∈e.ec,-1<=b/\b<n.sizes.getD e.v.toNat 0
theorem Bu {m:List Int} (I:∀x∈m,1<=x) (J:0<=aL l):aL l<=aL (l++m):=by
 induction m generalizing l with
 |nil=>simp
 |cons x m U=>
  have h1:aL l<=aL (l++[x]):=by
   rw[qW];have V:=I x (.head _);have:=Int.mul_le_mul_of_nonneg_left V J;rwa [Int.mul_one] at this
  have:=U (l:=l++[x]) (λy W=>I y (.tail _ W)) Ω;rw[V9] at this;exact Int.le_trans h1 this
section
variable {w:x2} {n:aV} {v:x1} {s:aF}
theorem Bv {bv:x1} {e:hM} (h:iH w v n.k n.sizes s) (aX:eN n.k n.sizes s) (I:aI .i64 w ay e.sc) (aZ:aI .i64 w bv e.ec) (cS:e.ec.length<=1000000):aj x3 wz [v,.agg #[Δ e.v,ay,bv]] w λr w'=>(∃b,r= .bool b/\(b=true↔mF n s e))/\Ext w w':=by
 have cT:=aX.vars;refine aA func93 ?_;refine bM λcU U cV bq aM=>?_;have bX:=h.box bq aM;refine bM λbY br cW bu a1=>?_;have al:=bq.trans bu;have aw:=bX.ext bu;have ag:ae br bY b6 [Δ e.v,ay,bv]:=by
  obtain⟨_,_,_,bZ⟩:=b0 I;obtain⟨_,_,_,b2⟩:=b0 aZ;rw[bZ,b2] at a1 ⊢;exact a1
 have aO:=I.ext al;have aQ:=aZ.ext al;clear a1 aM;refine aP (λr a2=>∃b,r= .bool b/\(b=false↔(0<=e.v/\e.v<n.sizes.length)/\fB s e.v.toNat=false/\jT n s e.sc/\e.v∉e.sc)/\Ext br a2) ?_ ?_
 rotate_left
 .intro bw Y;refine aw.load λu hu=>?_;rw[aa b6.p rfl,ac (v:=Δ e.v) Ψ (ag.cell (o:=0+0) rfl)];refine (pF (i:=e.v) hu).mono ?_;rintro _ ax _ ⟨rfl,W⟩;rw[bg,bH];refine⟨λaB=>Y _ _ ⟨true,rfl,⟨(λh=>by cases h),λaH=>?_⟩,W⟩,λa6=>?_⟩
  .rw[decide_eq_true aH.1] at aB;cases aB
  have a7:0<=e.v/\e.v<n.sizes.length:=by simpa using a6
  obtain⟨y,bx⟩:∃y,s.vars[e.v.toNat]? =σ y:=⟨_,y0 Ω⟩;have bz:fB s e.v.toNat=decide (y.gone≠0):=by unfold fB;rw[bx]
  have a8:=aw.ext W;have aC:=ag.ext W;obtain⟨au,b3,bA,b4,bB,b5,b7,_,_,_,b8,_⟩:=id a8;rw[aa aE.p rfl,ac (v:=bA) Ψ (b7.cell (o:=0+4) rfl),aa b6.p rfl,ac (v:=Δ e.v) Ψ (aC.cell (o:=0+0) rfl)];refine k7 (α:=Bool) (i:=e.v.toNat) rfl Ω fl.u eI.i Ψ b8 (by rw[x8,bx];rfl) λb9 ca=>?_;obtain rfl:b9= .bool (decide (y.gone≠0)):=(List.cons.inj ca).1;rw[ad];refine⟨λJ=>Y _ _ ⟨true,rfl,⟨(λh=>by cases h),λaH=>?_⟩,W⟩,λJ=>?_⟩
  .rw[bz,decide_eq_true J] at aH;cases aH.2.1
  have ba:fB s e.v.toNat=false:=by rw[bz];exact decide_eq_false J
  refine a8.load λu hu=>?_;rw[aa b6.p rfl,ac (v:=ay) Ψ (aC.cell (o:=0+1) rfl)];refine (Bs hu aX (aO.ext W)).mono ?_;rintro _ am _ ⟨⟨b,rfl,bE⟩,af⟩;have bb:=W.trans af;have aR:=aC.ext af;rw[bg,bH];refine⟨λaB=>Y _ _ ⟨true,rfl,⟨(λh=>by cases h),λaH=>?_⟩,bb⟩,λa6=>?_⟩
  .rw[bE.2 aH.2.2.1] at aB;cases aB
  have aD:=bE.1 (by simpa using a6);rw[aa b6.p rfl,ac (v:=ay) Ψ (aR.cell (o:=0+1) rfl),aa b6.p rfl,ac (v:=Δ e.v) Ψ (aR.cell (o:=0+0) rfl)];refine (Bd (v:=e.v) (aO.ext bb)).mono ?_;rintro _ an _ ⟨rfl,ap⟩;exact Y _ _ ⟨_,rfl,⟨λh=>⟨a7,ba,aD,of_decide_eq_false h⟩,λh=>decide_eq_false h.2.2.2⟩,bb.trans ap⟩
 rintro _ a2 ⟨b,rfl,bF,aF⟩;rw[bH];refine⟨λaT=>⟨⟨false,rfl,⟨(λh=>by cases h),λJ=>?_⟩⟩,al.trans aF⟩,λaq=>?_⟩
 .rw[bF.2 ⟨J.has,J.there,J.scope,J.out⟩] at aT;cases aT
 obtain⟨a7,ba,aD,cc⟩:=bF.1 aq;have cd:=aw.ext aF;obtain⟨au,b3,bA,b4,bB,b5,ce,_,_,_,_,_,bd,_⟩:=id cd;rw[aa aE.p rfl,ac (v:=bB) Ψ (ce.cell (o:=0+6) rfl),eK b1.u bd,u5];have bG:=m8 bd;rw[u5] at bG;refine bC.range s.funs.length (λj _ ax=>Ext a2 ax/\ ∀ (q:Nat) f,q<j->s.funs[q]? =σ f->f.live≠0->e.v∉f.sc) bG ⟨Ext.refl _,λq f V=>Ω⟩ ?_ ?_
 .rintro j t4 ax cg ch ⟨W,bf⟩ ci;obtain⟨f,aq⟩:∃f,s.funs[j]? =σ f:=⟨_,y0 ch⟩;have cj:=aF.trans W;rw[ao,ad];refine⟨λ_=>?_,λh=>Ω⟩;refine im bW.p rfl b1.u bW.i (be bd W) (by rw[x8,aq];rfl) λcX bI=>?_;have ck:=ak.one bI;obtain⟨bK,cl,cm,rfl,cn,_,_⟩:=pG bI;refine bt bW.i λcp am cY af aU=>?_;refine bJ (vs:=[bK,cl,cm,.bool (decide (f.live≠0))]) bW.i rfl rfl ck aU λan cq cZ bL=>?_;have bh:Ext ax an:=af.then cq λr c0 he=>by have he:r=cp:=he;omega
  refine aP (λr aG=>∃b,r= .bool b/\(b=true↔f.live≠0/\e.v∈f.sc)/\Ext an aG) ?_ ?_
  .rintro _ aG ⟨b,rfl,bN,aV⟩;have bO:=W.trans (bh.trans aV);rw[bH];refine⟨λaT=>⟨⟨false,rfl,⟨(λh=>by cases h),λJ=>?_⟩⟩,al.trans (aF.trans bO)⟩,λaU=>?_⟩
   .obtain⟨h1,cr⟩:=bN.1 aT;exact absurd cr (J.nV f (x6 aq) h1)
   .rw[aN];refine ci _ _ ⟨bO,λq ct V bj aW hm=>?_⟩;by_cases cu:q=j
    .subst cu;rw[aq] at bj;cases bj;rw[bN.2 ⟨aW,hm⟩] at aU;cases aU
    .exact bf q ct Ω bj aW hm
  intro bw Y;rw[aa bW.p rfl,ac (v:=.bool (decide (f.live≠0))) Ψ (bL.cell (o:=0+3) rfl),ad];refine⟨λaW=>?_,λcw=>Y _ _ ⟨false,rfl,⟨(λh=>by cases h),λh=>absurd h.1 cw⟩,Ext.refl _⟩⟩;rw[aa bW.p rfl,aa aY.p rfl,ac (v:=bK) Ψ (bL.cell (o:=0+0+0) rfl),aa b6.p rfl,ac (v:=Δ e.v) Ψ (((ag.ext cj).ext bh).cell (o:=0+0) rfl)];refine (Bd (v:=e.v) ((dR cn).ext bh)).mono ?_;rintro _ c1 _ ⟨rfl,cz⟩;exact Y _ _ ⟨_,rfl,⟨λh=>⟨aW,of_decide_eq_true h⟩,λh=>decide_eq_true h.2⟩,cz⟩
 rintro t4 ax cg ⟨W,cA⟩;rw[ao,ad];refine⟨λh=>Ω,λ_=>?_⟩;have aJ:=aF.trans W;have aC:=ag.ext aJ;have a8:=aw.ext aJ;have nV:∀f∈s.funs,f.live≠0->e.v∉f.sc:=λf aq=>by
  obtain⟨q,V⟩:=Y7.1 aq;exact cA q f (x4.1 V).1 V
 rw[aa b6.p rfl,ac (v:=ay) Ψ (aC.cell (o:=0+1) rfl),aS ah.u (aO.ext aJ)];obtain⟨L,az⟩:∃L,L=bD n.sizes e.sc:=⟨_,rfl⟩;have c2:L.length=e.sc.length:=by rw[az];unfold bD;rw[u5]
 have bk:∀x∈L,1<=x/\x<=32:=λx aK=>by
  rw[az] at aK;unfold bD at aK;obtain⟨v,cB,rfl⟩:=Z5.1 aK;obtain⟨q,V⟩:=Y7.1 cB;obtain⟨c3,bQ,c4,h1,_⟩:=aD q (x4.1 V).1;rw[V] at bQ;cases bQ;obtain⟨z,ai⟩:∃z,n.sizes[v.toNat]? =σ z:=⟨_,y0 Ω⟩;rw[u4,ai];exact aX.e5.2.2 z (x6 ai)
 have cC:∀q,0<=aL (L.take q):=λq=>by
  induction q with
  |zero=>simp[aL]
  |succ q bl=>
   cases V:L[q]? with
   |none=>
    have:=List.getElem?_eq_none_iff.1 V;rw[Z0 Ω];rw[Z0 Ω] at bl;exact bl
   |some x=>
    rw[jA V];exact Int.mul_nonneg bl (by have:=(bk x (x6 V)).1;omega)
 have cD:∀q,aL (L.take q)<=aL L:=λq=>by
  have:=Bu (l:=L.take q) (m:=L.drop q) (λx aK=>(bk x (List.mem_of_mem_drop aK)).1) (cC q);rwa [List.take_append_drop] at this
 refine kX.range e.sc.length (λi _ cE am=>Ext ax am/\ ∃m:Int,cE=Δ m/\m=aL (L.take i)/\0<=m/\m<=1000000) I.le ⟨Ext.refl _,1,rfl,rfl,Ω,Ω⟩ ?_ ?_
 .rintro i t4 _ am cF hi ⟨af,m,rfl,hm,bR,bS⟩ cG;obtain⟨x,bT,c5,c6,_⟩:=aD i hi;obtain⟨z,ai⟩:∃z,n.sizes[x.toNat]? =σ z:=⟨_,y0 Ω⟩;have bU:L[i]? =σ z:=by rw[az];unfold bD;rw[x8,bT,Y0,u4,ai];rfl
  have cH:=bk z (x6 bU);have X:=aJ.trans af;obtain⟨bm,_,_,_,_,_,cI,bn,_⟩:=aw.ext X;have c7:0<=m*z/\m*z<=1000000*32:=⟨Int.mul_nonneg bR Ω,Int.mul_le_mul bS cH.2 Ω Ω⟩;have cJ:aL (L.take (i+1))=m*z:=by rw[jA bU,hm]
  rw[ao,ad];refine⟨λ_=>?_,λh=>Ω⟩;rw[bc ah.u ab.i Ψ (aO.ext X) bT,aa aE.p rfl,ac (v:=bm) Ψ (cI.cell (o:=0+1) rfl),dZ (y:=x) (i:=x.toNat) Ω ah.u ab.i Ψ bn ai,fp,wrap_i64 Ω Ω,
   aa b6.p rfl,ac (v:=bv) Ψ ((ag.ext X).cell (o:=0+2) rfl),aS ah.u (aQ.ext X),bP,ad]
  refine⟨λc8=>⟨⟨false,rfl,⟨(λh=>by cases h),λJ=>?_⟩⟩,al.trans X⟩,λc9=>?_⟩
  .have h1:=J.count;rw[<-az] at h1;have:=cD (i+1);omega
  .rw[aN];exact cG _ _ _ ⟨af,_,rfl,cJ.symm,Ω,Ω⟩
 rintro t4 _ am cF ⟨af,m,rfl,hm,bR,bS⟩;rw[Z0 Ω] at hm;have X:=aJ.trans af;have aR:=ag.ext X;obtain⟨z,ai⟩:∃z,n.sizes[e.v.toNat]? =σ z:=⟨_,y0 Ω⟩;have bV:n.sizes.getD e.v.toNat 0=z:=by rw[u4,ai];rfl
 rw[ao,ad];refine⟨λh=>Ω,λ_=>?_⟩;rw[aa b6.p rfl,ac (v:=bv) Ψ (aR.cell (o:=0+2) rfl),aS ah.u (aQ.ext X)];refine bC.range e.ec.length (λi _ an=>Ext am an/\ ∀ (q:Nat) b,q<i->e.ec[q]? =σ b-> -1<=b/\b<z) aZ.le ⟨Ext.refl _,λq b V=>Ω⟩ ?_ ?_
 .rintro i t4 an cK hi ⟨ap,bf⟩ cL;obtain⟨b,bo⟩:∃b,e.ec[i]? =σ b:=⟨_,y0 hi⟩;have av:=X.trans ap;rw[ao,ad];refine⟨λ_=>?_,λh=>Ω⟩;rw[bc ah.u ab.i Ψ (aQ.ext av) bo];refine aP (λr aG=>r= .bool (decide (¬(-1<=b/\b<z)))/\Ext am aG) ?_ ?_
  .rintro _ aG ⟨rfl,aV⟩;rw[ad];refine⟨λcM=>⟨⟨false,rfl,⟨(λh=>by cases h),λJ=>?_⟩⟩,al.trans (X.trans aV)⟩,λcN=>?_⟩
   .have:=J.ec b (x6 bo);rw[bV] at this;exact absurd this cM
   .rw[aN];refine cL _ _ ⟨aV,λq cO V bp=>?_⟩;by_cases cP:q=i
    .subst cP;rw[bo] at bp;cases bp;exact X2.1 cN
    .exact bf q cO Ω bp
  intro bw Y;obtain⟨bm,_,_,_,_,_,cQ,bn,_⟩:=aw.ext av;rw[ao,ad];refine⟨λda=>Y _ _ ⟨by rw[decide_eq_true Ω],ap⟩,λdb=>?_⟩;rw[aa aE.p rfl,ac (v:=bm) Ψ (cQ.cell (o:=0+1) rfl),aa b6.p rfl,ac (v:=Δ e.v) Ψ ((ag.ext av).cell (o:=0+0) rfl),dZ (y:=e.v) (i:=e.v.toNat) Ω ah.u ab.i Ψ bn ai,cb];refine Y _ _ ⟨?_,ap⟩;congr 1;exact decide_eq_decide.2 ⟨λh=>Ω,λh=>Ω⟩
 rintro t4 an cK ⟨ap,cR⟩;rw[ao,ad];refine⟨λh=>Ω,λ_=>?_⟩;have av:=X.trans ap;rw[aa b6.p rfl,ac (v:=bv) Ψ ((ag.ext av).cell (o:=0+2) rfl),aS ah.u (aQ.ext av),bi];refine⟨⟨_,rfl,⟨λh=>?_,λJ=>?_⟩⟩,al.trans av⟩
 .have h:=of_decide_eq_true h;refine⟨a7,ba,aD,cc,nV,by rw[<-az,<-hm];exact h.symm,λb aM=>?_⟩;obtain⟨q,V⟩:=Y7.1 aM;rw[bV];exact cR q b (x4.1 V).1 V
 .have:=J.count;rw[<-az] at this;exact decide_eq_true Ω
end
end Go.Proofs.YtgbkinibgjmodaaGreatDoor
