/- own texts, made small by a tool (wip/ holds them as they were written): no statement of the seat. -/
import Derived.Test.YtgbkinibgjmodaaGreatDoorZd
set_option linter.unusedVariables false
set_option linter.unusedSimpArgs false
set_option linter.unnecessarySimpa false
open Array renaming getElem?_eq_some_iff→j6
open BitVec renaming ofInt→U8
open Bool renaming not_true→Y1,not_false→X5,true_and→V6,eq_iff_iff→V8,and_eq_true→U4
open Decidable renaming not_not→X4
open Go renaming Value→x1,World→x2,TypeId→r9,IntKind→o6,Builtin→l7,Program→W7
open Go.Addr renaming add_mid→U7
open Go.Builtin renaming append_→l9,len_→Y3
open Go.Instr renaming loadAt→x6,fieldAt→x7,storeAt→o5,indexAt→n0,buildSlice→Z7,extract→Z9,sliceAt→W6,alloc→S7
open Go.IntKind renaming i64→Y6,u64→U6
open Go.Proofs.Tryz renaming prog→x3
open Int renaming toNat_natCast→j0
open List renaming getElem?_eq_getElem→y0,getElem?_eq_some_iff→x4,mem_of_getElem?→x5,getElem?_map→x8,length_map→u4,getD_eq_getElem?_getD→u5,length_append→u9,take_add_one→r8,length_take→o4,replicate→o7,take_length→o9,mem_append→n9,take_of_length_le→l5,mem_singleton→j4,length_cons→j5,mem_map→Z1,getElem?_append_right→Z2,map_append→Z3,eq_nil_of_length_eq_zero→Z5,getElem?_take_of_lt→Y2,getElem?_eq_none→Y4,mem_iff_getElem?→Y7,append_assoc→X1,length_set→X2,append_nil→X6,getElem?_set→X7,ext_getElem?→X8,length_eq_one_iff→X9,range→W3,getElem?_set_ne→W8,drop_eq_getElem_cons→V0,flatMap_cons→V5,mem_or_eq_of_mem_set→V7,getElem?_set_self→V9,mem_of_mem_take→U3,set_append_right→U9,mem_cons→T1,map_set→T2,getElem_mem→T6,map_cons→S3,length_filter_le→S9,length→R4,length_drop→R5
open Nat renaming le_refl→o8,mul_le_mul_right→Y5,le_trans→Y9,zero_le→X3,sub_self→W9,zero_add→V3,add_mul→U5,mul_one→T5,min_eq_left→T7,pow_le_pow_right→S5,le_succ→S6,add_assoc→S8
open Ne renaming symm→T9
open Option renaming isNone_some→Z0,toList_some→Z4,map_some→Y0,map_eq_some_iff→X0,map→U1,getD_some→T4
open Option.some renaming inj→Z8
set_option maxHeartbeats 16000000
open Option renaming some→σ,none→ν
variable {V w w':x2}{a l sizes:Λ}{S:Nat->Prop}{B N ah al j:Nat}{aE az sv v z:x1}{e t:r9}{K:x1->x2->Prop}{k y:Int}{c cs:List x1}{m:Bool}
namespace Go.Proofs.YtgbkinibgjmodaaGreatDoor
open Go Go.Vc Go.RowKit Go.Proofs Go.Proofs.Tryz
set_option maxRecDepth 100000
theorem Bl {h:fb} {g:Nat} (J:fc w sizes h) (I:af w' g aZ (x1.agg (c8 h).toArray).cells.toList):af w' g aZ (c8 h):=by
 obtain⟨⟨g1,h1⟩,⟨aa,U⟩,ab,V⟩:=J;obtain⟨_,_,_,W⟩:=bZ h1.ls;obtain⟨_,_,_,X⟩:=bZ U.ls;obtain⟨_,_,_,Y⟩:=bZ V.ls;simp only[c8,W,X,Y] at I ⊢;exact I
theorem KN {a b:fb} (aA:fc w sizes a) (aC:fc w sizes b) (aF:ic a.sc) (aG:ic b.sc):ak x3 xj [.agg (c8 a).toArray,.agg (c8 b).toArray] w λv w'=>v= .bool (decide (cY a.sc<cY b.sc))/\Ext w w':=by
 obtain⟨⟨aW,aD⟩,_⟩:=id aA;obtain⟨⟨a1,aH⟩,_⟩:=id aC;have ao:=(ug aF aG).1;refine aB func224 ?_;refine bN λg1 U a2 aI ap=>?_;refine bN λaJ V a6 aE au=>?_;have ap:=(Bl aA ap).ext aE;have au:=Bl aC au;have Y:=aI.trans aE;have aa:=aD.ls.ext Y;have ah:=aH.ls.ext Y;have af:∀ {w':x2},Ext V w'-> ∀ {K:x1->Prop},J x3 (x7 aZ (Γ g1) 0) w' (λt=>J x3 (x6 ai t) w' K)=K a.az:=λI K=>by
  rw[ac aZ.p rfl,ad (v:=a.az) Ψ ((ap.ext I).Q0 rfl)]
 have aj:∀ {w':x2},Ext V w'-> ∀ {K:x1->Prop},J x3 (x7 aZ (Γ aJ) 0) w' (λt=>J x3 (x6 ai t) w' K)=K b.az:=λI K=>by
  rw[ac aZ.p rfl,ad (v:=b.az) Ψ ((au.ext I).Q0 rfl)]
 rw[af (Ext.refl _),aT ai.u aa,aj (Ext.refl _),aT ai.u ah,bG,ae];refine⟨λaK=>?_,λaL=>?_⟩
 .rw[af (Ext.refl _),aT ai.u aa,aj (Ext.refl _),aT ai.u ah,aq];refine⟨?_,Y⟩;congr 1;rw[V8,decide_eq_true_eq,decide_eq_true_eq,ao];exact⟨λh=>.inl Ω,λh=>by rcases h with h|h<;>omega⟩
 have aM:a.sc.length=b.sc.length:=by have:=X4.1 aL;omega
 rw[af (Ext.refl _),aT ai.u aa];refine bE.range a.sc.length (λi _ av=>Ext V av/\ ∀ (j:Nat) (x y:Int),j<i->a.sc[j]? =σ x->b.sc[j]? =σ y->x=y) aD.ls.le ⟨Ext.refl _,λj x y aO=>Ω⟩ ?_ ?_
 .rintro i _ av k hi ⟨aw,al⟩ aP;obtain⟨x,I⟩:∃x,a.sc[i]? =σ x:=⟨_,y0 hi⟩;obtain⟨y,am⟩:∃y,b.sc[i]? =σ y:=⟨_,y0 Ω⟩;have W:fl a.sc b.sc=fl (a.sc.drop i) (b.sc.drop i):=rL al Ω Ω;have aQ:a.sc.drop i=x::a.sc.drop (i+1):=by rw[V0 hi,(x4.1 I).2]
  have aR:b.sc.drop i=y::b.sc.drop (i+1):=by rw[V0 (show i<b.sc.length by omega),(x4.1 am).2]
  rw[aQ,aR] at W;simp only[fl] at W;refine Υ λ_=>?_;intro a7 aS _ _;have X:=aw.trans aS;rw[af X,bd ai.u ab.i Ψ (aa.ext X) I,aj X,bd ai.u ab.i Ψ (ah.ext X) am,bG,ae];refine⟨λaK=>?_,λhe=>?_⟩
  .intro a8 aU _ _;have ag:=X.trans aU;rw[af ag,bd ai.u ab.i Ψ (aa.ext ag) I,aj ag,bd ai.u ab.i Ψ (ah.ext ag) am,aq];refine⟨?_,Y.trans ag⟩;congr 1;rw[V8,decide_eq_true_eq,decide_eq_true_eq,ao,W];by_cases an:x<y
   .rw[if_pos an];exact⟨λ_=>.inr ⟨aM,Ω⟩,λ_=>an⟩
   .rw[if_neg an,if_pos (show y<x by omega)];exact⟨λh=>absurd h an,λh=>by rcases h with h|h<;>omega⟩
  .rw[aN];refine aP _ _ ⟨X,λj aV aX aO ax ay=>?_⟩;by_cases aY:j=i
   .subst aY;rw[I] at ax;rw[am] at ay;cases ax;cases ay;exact X4.1 he
   .exact al j aV aX Ω ax ay
 .rintro _ av k ⟨aw,al⟩;rw[aq,ae];refine⟨λh=>Ω,λ_=>⟨?_,Y.trans aw⟩⟩;congr 1;symm;rw[decide_eq_false_iff_not,ao];have W:fl a.sc b.sc=fl (a.sc.drop a.sc.length) (b.sc.drop a.sc.length):=rL al (o8 _) Ω;rw[List.drop_length,show b.sc.drop a.sc.length=[] from List.drop_eq_nil_of_le Ω] at W;rw[W];simp only[fl];omega
def dc (h:fb):cw:=(h.sc,h.cs)
def jr (w:x2) (B g:Nat) (v:x1) (sizes:Λ) (L:List fb):Prop:=a6 c8 3 aZ w g v L/\(∀h∈L,fc w sizes h/\ ∀r,leads h.aL r->B<=r)/\(∀ (i j:Nat) x y,L[i]? =σ x->L[j]? =σ y->i≠j-> ∀r,leads x.aL r->¬leads y.aL r)/\ ∀r,leadsTo v r->B<=r
theorem lG {h:fb} (ac:fc w sizes h) (X:ag S w w') (Y:∀r,S r->(∃e c,af w r e c/\e≠ab/\e≠ao)\/w.heap.size<=r\/((∃c,af w r ao c)/\¬leads h.aL r)):fc w' sizes h:=by
 obtain⟨⟨g1,h1⟩,⟨ad,ae⟩,ah,V⟩:=ac;have aa:∀ {g:Nat} {v:x1} {l:Λ},au .i64 ab w g v l->au .i64 ab w' g v l:=λhm=>bc hm X λr J I=>by
  rcases Y r I with⟨e,c,U,W,_⟩|ai|⟨⟨c,U⟩,_⟩
  .exact bX hm U (λhe=>W he.symm) J rfl
  .obtain⟨aj,ak⟩:=bA hm J;omega
  .exact bX hm U Φ J rfl
 refine⟨⟨g1,aa h1⟩,⟨ad,aa ae⟩,ah,bc V X λr J I=>?_⟩;rcases Y r I with⟨e,c,U,_,W⟩|ai|⟨_,al⟩
 .exact bX V U (λhe=>W he.symm) J rfl
 .obtain⟨aj,ak⟩:=bA V J;omega
 .exact al J
theorem jr.ext {g:Nat} {L:List fb} (h:jr w B g v sizes L) (I:Ext w w'):jr w' B g v sizes L:=⟨h.1.ext I,λx J=>⟨(h.2.1 x J).1.ext I,(h.2.1 x J).2⟩,h.2.2⟩
section
variable {α:Type} {f:α->List x1} {k:Nat} {P:W7} {w:x2} {e:r9} {g:Nat} {v:x1} {L:List α}
theorem KO {M:List α} (h:a6 f k e w g v L) (I:L.map f=M.map f):a6 f k e w g v M:=by
 have J:L.length=M.length:=by have:=congrArg R4 I;simpa using this
 have hm:L.flatMap f=M.flatMap f:=by rw[List.flatMap_def,List.flatMap_def,I]
 refine⟨by rw[<-J,<-hm];exact h.1,λa U=>?_⟩;obtain⟨b,V,he⟩:=Z1.1 (show f a∈L.map f by rw[I];exact Z1.2 ⟨a,U,rfl⟩);rw[<-he];exact h.2 b V
theorem Bm {b l h':Nat} {low high:Option x1} {K:x1->Prop} (W:P.underlying t=σ (.slice e)) (hi:aO P e k b z) (h:a6 f k e w g v L) (h1:ky low l) (X:kz high L.length h') (U:l<=h') (aI:h'<=L.length)
  (Y:∀V,(∀w',a6 f k e w' g v L->bW w' k V ((L.drop l).take (h'-l)).length (((L.drop l).take (h'-l)).flatMap f))->K V):J P (W6 t v low high ν) w K:=by
 have aa:=h.sl;obtain⟨_,ac,o,base,cap,rfl,ad,_⟩:=aa;rw[fw W hi h1 X ez U Ω (o8 _)];refine Y _ λw' I=>?_;have:=bW.part (l:=l) (h:=h') (m:=cap) I.sl U aI Ω (o8 _);rw[rp l I.2,pi (h'-l) (λa ab=>I.2 a (List.mem_of_mem_drop ab))] at this;have el:((L.drop l).take (h'-l)).length=h'-l:=by rw[o4,R5];omega
 rw[el];exact this
theorem uV {aj:r9} {b:Nat} {x:x1} {M:List α} (X:P.underlying t=σ (.slice e)) (hi:aO P e k b z) (ad:z.cells.size=k) (h:a6 f k e w g v L) (ae:bW w k x M.length (M.flatMap f)) (ak:∀a∈M,(f a).length=k) (h1:∀a∈M,∀u∈f a,u.oneCell'=true)
  (Y:(L.length+M.length)*b<=140737488355328) (af:L.length+M.length<=9223372036854775807)
  (ah:∀I J w',a6 f k e w' J I (L++M)->(∀r,leadsTo I r->leadsTo v r\/w.heap.size<=r)->ag (λr=>leadsTo v r) w w'->K I w'):aA P (l9 #[t,t] aj #[v,x]) w K:=by
 have ai:∀u∈M.flatMap f,u.oneCell'=true:=λu hu=>by
  obtain⟨a,al,hu⟩:=List.mem_flatMap.1 hu;exact h1 a al u hu
 have aa:∀I J w',bU w' J e k I (L.length+M.length) (L.flatMap f++M.flatMap f)->a6 f k e w' J I (L++M):=λI J w' hm=>⟨by simpa using hm,λb Y=>by
  rcases n9.1 Y with h'|h'
  .exact h.2 b h'
  .exact ak b h'⟩
 rcases h.1.2 with⟨U,am⟩|⟨cap,cs,U,an,_⟩
 .have hm:bU w w.heap.size e k v L.length (L.flatMap f):=⟨h.1.1,.inl ⟨U,am⟩⟩;subst U;refine me X X hi ad hm ae ai (by simpa using Y) (by simpa[maxLen] using af) λI J w' ab V ac=>ah I J w' (aa _ _ _ V) (λr W=>.inr ?_) (ac.mono λr W h=>Ω);have:=((aa _ _ _ V).leads W).1;omega
 .refine me X X hi ad h.1 ae ai (by simpa using Y) (by simpa[maxLen] using af) λI J w' ab V ac=>ah I J w' (aa _ _ _ V) (λr W=>?_) (ac.mono λr W h=>⟨_,_,_,U,h.symm⟩);have:=((aa _ _ _ V).leads W).1;rcases ab with ab|ab
  .exact .inl ⟨_,_,_,U,by show g=r;omega⟩
  .exact .inr Ω
theorem KP {b:Nat} (I:P.underlying t=σ (.slice e)) (hi:aO P e k b z)
  (J:∀v g w',g=w.heap.size->Ext w w'->a6 f k e w' g v []->K v w'):aA P (Z7 t 0 #[]) w K:=
 iw I hi Ω (cs:=#[]) (by simp[Instr.fill]) λg w' U V W=>by
  exact J _ g w' U V ⟨by simpa using bU.full (k:=k) (n:=0) W Ξ (by simp[maxLen]),λc X=>by cases X⟩
end
theorem rZ {α:Type} {A B:List α} {s:Nat} {a:α} (I:s<B.length) (J:A[s]? =σ a):(A.take s++B.drop s).set s a=A.take (s+1)++B.drop (s+1):=by
 have U:=(x4.1 J).1;have h1:(A.take s).length=s:=by rw[o4];omega
 rw[U9 _ _ Ω,h1,W9,V0 I,List.set_cons_zero,r8,J,Z4,X1];rfl
theorem Bn {α:Type} {A B:List α} {s:Nat} (I:s<=A.length):(A.take s++B.drop s)[s]? =B[s]?:=by
 have h1:(A.take s).length=s:=by rw[o4];omega
 rw[Z2 Ω,h1,W9,List.getElem?_drop,Nat.add_zero]
theorem Bo {g:cw}:∀ {l:List cw} {i:Nat},(∀p<i,∀x,l[p]? =σ x->cY x.1<cY g.1)->i<=l.length->(∀x,l[i]? =σ x->¬cY x.1<cY g.1)->gA g l=l.take i++g::l.drop i
 |[],i,_,I,_=>by
  have:i=0:=by simpa using I
  subst this;rfl
 |x::l,0,_,_,J=>by
  unfold gA;rw[if_neg (J x rfl)];rfl
 |x::l,i+1,h1,I,J=>by
  unfold gA;rw[if_pos (h1 0 Ω x rfl),Bo (i:=i) (λp V y U=>h1 (p+1) Ω y U) (by simpa using I) (λy U=>J y U)];rfl
theorem KQ {g:Nat} {L:List fb} {h:fb} {s:Nat} {n:Int} {K:Unit->x2->Prop} (U:jr w B g v sizes L) (ac:L[j]? =σ h) (I:s<h.cs.length)
  (av:∀w',ag (λr=>leads h.aL r) w w'->(∀r,leads h.aL r-> ∃c,af w r ao c)->jr w' B g v sizes (L.set j {h with cs:=h.cs.set s n})->K () w'):
  J x3 (n0 aw h.aL (Δ (s:Int))) w λt=>aA x3 (o5 ao t (Δ n)) w K:=by
 obtain⟨h1,ak,al,ax⟩:=U;have ai:=(x4.1 ac).1;obtain⟨am,ay⟩:=ak h (x5 ac);obtain⟨_,_,an,ad⟩:=id am;have ae:∀r,leads h.aL r-> ∃c,af w r ao c:=λr U=>by
  obtain⟨rfl,_⟩:=bA ad U;obtain⟨_,⟨az,_⟩|⟨cap,full,_,X,_⟩⟩:=ad
  .obtain⟨a,n,c,e,_⟩:=U;rw[az] at e;cases e
  .exact⟨_,X⟩
 have aB:∀r,r=an->leads h.aL r:=λr he=>by
  subst he;obtain⟨_,⟨_,aQ⟩|⟨cap,full,e,X,_⟩⟩:=ad
  .omega
  .exact⟨_,_,_,e,rfl⟩
 rw[gx rfl aw.u ao.i ad I];refine gy ao.i ad I λw' Y aR aC=>?_;have Y:=Y.mono (T:=λr=>leads h.aL r) λr _ he=>aB r he;refine av w' Y ae ⟨?_,λx W=>?_,λp q x y W aD aE r aF aG=>?_,ax⟩
 .refine KO (h1.aa Y λr U I=>?_) ?_
  .obtain⟨c,X⟩:=ae r I;exact cc h1 X Φ U
  .rw[T2];symm;refine X8 λp=>?_;rw[X7,x8];by_cases V:j=p
   .subst V;rw[if_pos rfl,if_pos (by simpa using ai),ac];rfl
   .rw[if_neg V]
 .have aH:x={h with cs:=h.cs.set s n}\/ ∃p,p≠j/\L[p]? =σ x:=by
   obtain⟨p,V⟩:=Y7.1 W;rw[X7] at V;by_cases ab:j=p
   .subst ab;rw[if_pos rfl,if_pos ai] at V;exact .inl (Z8 V).symm
   .rw[if_neg ab] at V;exact .inr ⟨p,λh=>ab h.symm,V⟩
  rcases aH with rfl|⟨p,aI,V⟩
  .obtain⟨⟨g1,ap⟩,⟨aJ,aq⟩,_⟩:=am;refine⟨⟨⟨g1,bc ap Y λr U I=>?_⟩,⟨aJ,bc aq Y λr U I=>?_⟩,an,aC⟩,ay⟩
   .obtain⟨c,X⟩:=ae r I;exact bX ap X Φ U rfl
   .obtain⟨c,X⟩:=ae r I;exact bX aq X Φ U rfl
  .obtain⟨aK,aM⟩:=ak x (x5 V);refine⟨lG aK Y λr U=>.inr (.inr ⟨ae r U,λaj=>al p j x h V ac aI r aj U⟩),aM⟩
 .have au:∀ {p:Nat} {x:fb},(L.set j {h with cs:=h.cs.set s n})[p]? =σ x-> ∃ah,L[p]? =σ ah/\ah.aL=x.aL:=λ{p x} W=>by
   rw[X7] at W;by_cases ab:j=p
   .subst ab;rw[if_pos rfl,if_pos ai] at W;cases W;exact⟨h,ac,rfl⟩
   .rw[if_neg ab] at W;exact⟨x,W,rfl⟩
  obtain⟨ah,aj,ex⟩:=au W;obtain⟨aN,aO,aP⟩:=au aD;exact al p q ah aN aj aO aE r (by rw[ex];exact aF) (by rw[aP];exact aG)
def j8 (f:b2) (j:Nat):List cw:=(((eV f).take j).filter e3).foldl (λl g=>gA g l) []
theorem Bp {f:b2} {x:cw} (h:(eV f)[j]? =σ x):j8 f (j+1)=if e3 x then gA x (j8 f j) else j8 f j:=by
 unfold j8;rw[r8,h,Z4,List.filter_append,List.foldl_append];cases I:e3 x with
 |true=>rw[List.filter_cons_of_pos I];rfl
 |false=>rw[List.filter_cons_of_neg (by simp[I])];rfl
theorem KR (f:b2):j8 f (eV f).length=e4 f:=by unfold j8 e4;rw[o9]
theorem Bq (g:cw):∀l,(gA g l).length=l.length+1
 |[]=>rfl
 |h::l=>by
  unfold gA;split
  .rw[j5,Bq g l,j5]
  .rfl
theorem KT {f:b2} (J:j<=(eV f).length):(j8 f j).length<=j:=by
 induction j with
 |zero=>simp[j8]
 |succ j I=>
  have:=I Ω;rw[Bp (x:=(eV f)[j]) (y0 Ω)];split
  .rw[Bq];omega
  .omega
theorem KU {g:Nat} {l:x1} {f:b2} {L:List fb} {Q:x1->x2->Prop} (aX:eQ N f) (X:jr w B g l f.sizes L) (aY:L.map dc=eV f)
  (b9:∀out w' go W,Ext w w'->a6 c8 3 aZ w' go out W->(∀h∈W,h∈L)->(∀h∈W,fc w' f.sizes h)->W.map dc=e4 f->(∀r,leadsTo out r->w.heap.size<=r)->Q out w'):
  J x3 (Y3 #[cK] ab #[l]) w λca=>
 bE (.slice ν 0 0) (Δ 0) w λout a1 an cb=>
  J x3 (aC .lss ab false false a1 ca) an λcc=>
  Split cc (bB (α:=x1->x2->Prop) (λ(cd:x1) (ap:x2)=>
   J x3 (aC .add ab false true a1 (Δ 1)) ap λce=>
   cb cd ce ap) λbA=>
  J x3 (n0 cK l a1) an λcg=>
  J x3 (x6 aZ cg) an λch=>
  aA x3 (S7 aZ true (.tuple #[])) an λaK bC=>
  aA x3 (o5 aZ aK ch) bC λ(_:Unit) aj=>
  J x3 (x7 aZ aK 2) aj λci=>
  J x3 (x6 aw ci) aj λbF=>
  J x3 (Y3 #[aw] ab #[bF]) aj λcj=>
  bE (.bool false) (Δ 0) aj λbG a2 Y ck=>
   J x3 (aC .lss ab false false a2 cj) Y λcl=>
   Split cl (bB (α:=x1->x2->Prop) (λ(cn:x1) (ay:x2)=>
    J x3 (aC .add ab false true a2 (Δ 1)) ay λcp=>
    ck cn cp ay) λbI=>
   J x3 (n0 aw bF a2) Y λcq=>
   J x3 (x6 ao cq) Y λcr=>
   Split bG (bI (.bool true) Y)
    (J x3 (aC .gtr ao false true cr (Δ 0)) Y λct=>
   bI ct Y))
    (J x3 (Op.unary .not bG) Y λcu=>
  Split cu (bA out Y)
   (bP (Δ 0) Y λi aM cw=>
   bB (α:=x1->x2->Prop) (λ(cz:x1) (au:x2)=>
    Split cz (J x3 (aC .add ab false true i (Δ 1)) au λcA=>
   cw cA au)
     (cm au λag=>
  J x3 (x6 aZ aK) ag λcB=>
  J x3 (W6 cK out (σ i) ν ν) ag λbJ=>
  aA x3 (Z7 cK 1 #[(0,cB)]) ag λcC az=>
   (Ext ag az\/bl x3 (W6 cK out (σ i) ν ν) bJ az/\True)/\
  aA x3 (l9 #[cK,cK] cK #[cC,bJ]) az λcD a7=>
   aA x3 (Z7 cK 0 #[]) a7 λcE aO=>
  J x3 (W6 cK out ν (σ i) ν) aO λcF=>
  aA x3 (l9 #[cK,cK] cK #[cE,cF]) aO λcH a8=>
  aA x3 (l9 #[cK,cK] cK #[cH,cD]) a8 λcI ba=>
  bA cI ba)) λbK=>
   cm aM λah=>
   J x3 (Y3 #[cK] ab #[out]) ah λcJ=>
   J x3 (aC .lss ab false false i cJ) ah λcL=>
   Split cL (J x3 (n0 cK out i) ah λcM=>
   J x3 (x6 aZ cM) ah λcN=>
   J x3 (x6 aZ aK) ah λcO=>
   ak x3 xj [cN,cO] ah λcP bL=>
    bK cP bL)
    (bK (.bool false) ah))))
   (Q out an):=by
 have cQ:L.length=(eV f).length:=by rw[<-aY,u4]
 have dz:L.length<=256:=by have:=(jV aX).2.2;have:=aX.jP;omega
 have bM:=(jV aX).1;rw[c9 cK.u X.1];refine bE.range L.length (λj out U=>∃go W,Ext w U/\a6 c8 3 aZ U go out W/\(∀h∈W,h∈L)/\W.map dc=j8 f j/\ ∀r,leadsTo out r->w.heap.size<=r) X.1.le
  ⟨0,[],Ext.refl _,a6.nil _ _ _ _ _,λh aI=>(by cases aI),rfl,λr X=>(eJ X).elim⟩ ?_ ?_
 rotate_left
 .rintro out U cR ⟨go,W,bN,aB,al,aD,bb⟩;rw[aq,ae];refine⟨λh=>Ω,λ_=>b9 _ _ go W bN aB al (λh aI=>((X.ext bN).2.1 h (al h aI)).1) ?_ bb⟩;rw[aD,cQ,KR]
 rintro j out an cR bS ⟨go,W,aP,aB,al,aD,bb⟩ cS;obtain⟨h,aI⟩:∃h,L[j]? =σ h:=⟨_,y0 bS⟩;have hm:(eV f)[j]? =σ (dc h):=by rw[<-aY,x8,aI];rfl
 have cT:=bM _ (x5 hm);have dA:W.length<=256:=by
  have:=KT (f:=f) (j:=j) Ω;rw[<-aD,u4] at this;omega
 have aF:=X.ext aP;obtain⟨bc,_⟩:=aF.2.1 h (x5 aI);obtain⟨_,_,dC,cU⟩:=id bc;refine Υ λ_=>?_;refine aQ (λbe ap=>∃bg aG,Ext w ap/\a6 c8 3 aZ ap bg be aG/\(∀h∈aG,h∈L)/\aG.map dc=j8 f (j+1)/\ ∀r,leadsTo be r->w.heap.size<=r) ?_ ?_
 .rintro be ap ⟨bg,aG,h1,cV,cW,cX,cZ⟩;rw[aN];exact cS _ _ ⟨bg,aG,h1,cV,cW,cX,cZ⟩
 intro c0 aH;rw[cG rfl cK.u aZ.i aF.1 bS,bn aZ.p aZ.i rfl (aF.1.range aI)];refine bp aZ.i λbh bC dD c1 c2=>?_;refine bH (vs:=c8 h) aZ.i rfl rfl bc.one c2 λaj c3 dE bT=>?_;have bU:Ext an aj:=c1.then c3 λr X he=>by have he:r=bh:=he;omega
 have bi:=cU.ext bU;rw[ac aZ.p rfl,ad (v:=h.aL) Ψ (bT.Q2 rfl),aT aw.u bi.ls];refine bE.range h.cs.length (λq sv Y=>Ext aj Y/\sv= .bool ((h.cs.take q).any λc=>decide (0<c))) bi.ls.le ⟨Ext.refl _,rfl⟩ ?_ ?_
 .rintro q _ Y c4 c5 ⟨av,rfl⟩ c6;obtain⟨c,bV⟩:∃c,h.cs[q]? =σ c:=⟨_,y0 c5⟩;have e:(h.cs.take (q+1)).any (λc=>decide (0<c))=((h.cs.take q).any (λc=>decide (0<c))||decide (0<c)):=by
   rw[r8,bV,Z4,List.any_append];simp
  refine Υ λ_=>?_;refine aQ (λsv ay=>Ext aj ay/\sv= .bool ((h.cs.take (q+1)).any λc=>decide (0<c))) ?_ ?_
  .rintro _ ay ⟨c7,rfl⟩;rw[aN];exact c6 _ _ ⟨c7,rfl⟩
  intro c0 aH;rw[bd aw.u ao.i Ψ (bi.ext av).ls bV,bD];refine⟨λda=>aH _ _ ⟨av,by rw[e,da];rfl⟩,λdb=>?_⟩;rw[bR];exact aH _ _ ⟨av,by rw[e,db];rfl⟩
 rintro _ Y c4 ⟨av,rfl⟩;have bW:=bT.ext av;have am:=bU.trans av;rw[o9,aq,ae];refine⟨λh=>Ω,λ_=>?_⟩;rw[bf,bD];have aR:=Bp hm;have dd:(h.cs.any λc=>decide (0<c))=e3 (dc h):=rfl;rw[dd];refine⟨λbj=>?_,λI=>?_⟩
 .have bj:e3 (dc h)=false:=by simpa using bj
  rw[bj] at aR;exact aH _ _ ⟨go,W,aP.trans am,aB.ext am,al,by rw[aD,aR];rfl,bb⟩
 have I:e3 (dc h)=true:=by simpa using I
 rw[I,if_pos rfl] at aR;refine⟨λbk aM=>∃i:Nat,bk=Δ (i:Int)/\i<=W.length/\Ext Y aM/\ ∀p<i,∀x,W[p]? =σ x->cY x.sc<cY h.sc,λbk _=>W.length-(bO bk).toNat,⟨0,rfl,X3 _,Ext.refl _,λp bm=>Ω⟩,?_⟩;rintro _ aM ⟨i,rfl,hi,de,bo⟩;refine aQ (λaE au=>Ext Y au/\((aE= .bool true/\i<W.length/\ ∀x,W[i]? =σ x->cY x.sc<cY h.sc)\/(aE= .bool false/\ ∀x,W[i]? =σ x->¬cY x.sc<cY h.sc))) ?_ ?_
 rotate_left
 .intro dF bq;intro ah df _ _;have ax:=de.trans df;have br:=aB.ext (am.trans ax);rw[c9 cK.u br,aq,ae];refine⟨λbo=>?_,λdG=>bq _ _ ⟨ax,.inr ⟨rfl,λx V=>absurd (x4.1 V).1 Ω⟩⟩⟩;obtain⟨x,V⟩:∃x,W[i]? =σ x:=⟨_,y0 Ω⟩;have bX:=al x (x5 V);have dg:ic x.sc:=(bM (dc x) (by rw[<-aY];exact Z1.2 ⟨x,bX,rfl⟩)).scope;have bY:=aF.ext (am.trans ax);rw[cG rfl cK.u aZ.i br Ω,bn aZ.p aZ.i rfl (br.range V),bn aZ.p aZ.i rfl (show ah.rangeAt bh 0 (c8 h) from (bW.ext ax).range)];refine (KN (bY.2.1 x bX).1 (bY.2.1 h (x5 aI)).1 dg cT.scope).mono ?_;rintro _ bL _ ⟨rfl,bZ⟩;by_cases aU:cY x.sc<cY h.sc
  .rw[decide_eq_true aU];exact bq _ _ ⟨ax.trans bZ,.inl ⟨rfl,Ω,λy af=>by rw[V] at af;cases af;exact aU⟩⟩
  .rw[decide_eq_false aU];exact bq _ _ ⟨ax.trans bZ,.inr ⟨rfl,λy af=>by rw[V] at af;cases af;exact aU⟩⟩
 rintro _ au ⟨b0,⟨rfl,dH,dh⟩|⟨rfl,di⟩⟩
 .rw[bQ,aN,wrap_i64 Ω Ω];refine⟨⟨i+1,rfl,Ω,b0,λp bm x V=>?_⟩,by simp only[bO];omega⟩;by_cases dj:p=i
  .subst dj;exact dh x V
  .exact bo p Ω x V
 .rw[aS];intro ag dk _ _;have aJ:=b0.trans dk;have aV:=aB.ext (am.trans aJ);have dl:=aF.ext (am.trans aJ);have bt:∀x∈W,∀u∈c8 x,u.oneCell'=true:=λx V=>(dl.2.1 x (al x V)).1.one;have dm:∀u∈c8 h,u.oneCell'=true:=bc.one;rw[bn aZ.p aZ.i rfl (show ag.rangeAt bh 0 (c8 h) from (bW.ext aJ).range)];refine Bm (h':=W.length) cK.u aZ.i aV (l8 i _ rfl) hC hi (o8 _) λdI b1=>?_;refine fQ (f:=c8) (k:=3) (a:=h) cK.u aZ.i Ω rfl rfl λdJ dK az dL bu b3=>?_;refine⟨.inl bu,?_⟩;have dn:(W.drop i).take (W.length-i)=W.drop i:=l5 (by rw[R5];omega);rw[dn] at b1;refine uV (M:=W.drop i) cK.u aZ.i rfl b3 (b1 az (aV.ext bu)) (λ_ _=>rfl) (λa ai=>bt a (List.mem_of_mem_drop ai)) Θ Θ λdM dN a7 bw dO dp=>?_;have b4:Ext ag a7:=bu.then dp λr X he=>by have:=(b3.leads he).1;omega
  refine KP (f:=c8) (k:=3) cK.u aZ.i λdP dQ aO dR bx aW=>?_;have bz:=b4.trans bx;refine Bm (h':=i) cK.u aZ.i (aV.ext bz) hB (ma i _ rfl) (X3 _) hi λdS b5=>?_;rw[List.drop_zero,Nat.sub_zero] at b5;refine uV (M:=W.take i) cK.u aZ.i rfl aW (b5 aO (aV.ext bz)) (λ_ _=>rfl) (λa ai=>bt a (U3 ai)) Θ Θ λdq dT a8 dr ds b6=>?_;have dU:=b4.size;have dV:=bx.size;have dt:=(bw.ext bx).aa b6 λr X I=>by have:=(bw.leads X).1;have:=(bw.leads X).2;have:=(aW.leads I).1;omega
  refine uV (M:=[h]++W.drop i) cK.u aZ.i rfl dr dt.sl (λ_ _=>rfl) (λa ai=>?_) Θ Θ λdW du ba dv dw dx=>?_
  .rcases n9.1 ai with ai|ai
   .rw[j4.1 ai];exact dm
   .exact bt a (List.mem_of_mem_drop ai)
  have b7:Ext ag a8:=bz.then b6 λr X he=>by have:=(aW.leads he).1;omega
  have b8:∀r,leadsTo dq r->ag.heap.size<=r:=λr X=>(ds r X).elim (λh=>by have:=(aW.leads h).1;omega) λh=>Ω
  have dy:Ext ag ba:=b7.then dx λr X he=>by have:=b8 r he;omega
  have dX:=(aP.trans (am.trans aJ)).size;have dY:=b7.size;refine aH _ _ ⟨du,_,(aP.trans (am.trans aJ)).trans dy,dv,λx V=>?_,?_,λr X=>(dw r X).elim (λh=>by have:=b8 r h;omega) λh=>Ω⟩
  .rcases n9.1 V with V|V
   .exact al x (U3 (by simpa using V))
   .rcases n9.1 V with V|V
    .rw[j4.1 V];exact x5 aI
    .exact al x (List.mem_of_mem_drop V)
  .rw[aR,<-aD,Bo (i:=i) (λp bm x V=>?_) (by simpa using hi) (λx V=>?_)]
   .simp
   .rw[x8] at V;cases af:W[p]? with
    |none=>rw[af] at V;cases V
    |some y=>rw[af] at V;cases V;exact bo p bm y af
   .rw[x8] at V;cases af:W[i]? with
    |none=>rw[af] at V;cases V
    |some y=>rw[af] at V;cases V;exact di y af
def KV (w:x2) (f:b2) (v:x1) (w':x2):Prop:=Ext w w'/\ ∃go I,a6 c8 3 aZ w' go v I/\(∀h∈I,fc w' f.sizes h/\ ∀r,leads h.aL r->w.heap.size<=r)/\I.map dc=e4 f/\ ∀r,leadsTo v r->w.heap.size<=r
def ka (k:Int) (sc cs:Λ) (h:cw):cw:=if h.1=sc then (h.1,dF k h.2 cs) else h
theorem KW {bY:Nat} {f:b2} (cP:mN w bY f) (am:eQ N f):ak x3 D6 [Γ bY] w (KV w f):=by
 have dU:=am.k;obtain⟨av,dV,aS,dW,bk,bZ,cQ⟩:=id cP;obtain⟨b0,bl,cR,cS⟩:=id cQ;refine aB func165 ?_;rw[ay,ac dk.p rfl,ad Ψ (bk.Q3 rfl),c9 de.u bl];refine bE.range b0.length (λi l U=>∃g L,Ext w U/\jr U w.heap.size g l f.sizes L/\L.map dc=er f i) bl.le
  ⟨0,[],Ext.refl _,⟨a6.nil _ _ _ _ _,λh aI=>(by cases aI),λi j x y bm=>(by simp at bm),λr J=>(eJ J).elim⟩,rfl⟩ ?_ ?_
 rotate_left
 .rintro l U cT ⟨g,L,ap,J,au⟩;rw[<-cR,AN] at au;rw[aq,ae];refine⟨λh=>Ω,λ_=>KU am J au λout w' go cU bm bo cV ax cW cX=>?_⟩;have cY:=ap.size;exact⟨ap.trans bm,go,cU,bo,λh aI=>⟨ax h aI,(J.2.1 h (cV h aI)).2⟩,cW,λr J=>by have:=cX r J;omega⟩
 rintro i l U cT hi ⟨g,L,ap,J,au⟩ cZ;obtain⟨bq,b1⟩:∃d,b0[i]? =σ d:=⟨_,y0 hi⟩;obtain⟨x,br⟩:∃x,f.funs[i]? =σ x:=⟨_,y0 Ω⟩;have bt:=x5 br;have bu:=cS i bq x b1 br;have b3:=nW am bt;obtain⟨c0,dX,dY⟩:=AM am i;have b4:L.length=(er f i).length:=by rw[<-au,u4]
 have dZ:=am.jP;have b5:=bl.ext ap;refine Υ λ_=>?_;refine aQ (λl' V=>∃g L,Ext w V/\jr V w.heap.size g l' f.sizes L/\L.map dc=er f (i+1)) ?_ ?_
 .rintro l' V bw;rw[aN];exact cZ _ _ bw
 intro ea b6;rw[cG rfl de.u aX.i b5 hi,bn aX.p aX.i rfl (b5.range b1)];refine bp aX.i λan eb ec c1 c2=>?_;refine bH (vs:=eD bq) aX.i rfl rfl bu.one c2 λc3 c4 ed c5=>?_;have b7:Ext U c3:=c1.then c4 λr J he=>by have he:r=an:=he;omega
 have ee:=b7.size;refine aQ (λc6 aU=>∃X c,c6=Γ X/\Ext U aU/\af aU X aZ (c8 c)/\c.sc=bj x.scope/\c.cs=(gR f.sizes f.k x).2/\fc aU f.sizes c/\U.heap.size<=X/\ ∀r,leads c.aL r->U.heap.size<=r) ?_ ?_
 rotate_left
 .intro ef b8;intro c7 b9 _ _;have aV:=b7.trans b9;have aW:=ap.trans aV;have da:=c5.ext b9;have ca:=bk.ext aW;have eg:=aV.size;rw[bn aX.p aX.i rfl (show c7.rangeAt an 0 (eD bq) from da.range),ay,ac dk.p rfl,ad (v:=av) Ψ (ca.Q2 rfl),ay,ac dk.p rfl,ad (v:=Δ f.k) Ψ (ca.Q1 rfl)];refine⟨?_,?_⟩
  .refine (Bk (bu.ext aW) am bt (bZ.ext aW)).mono ?_;rintro _ eh _ ⟨bx,c,rfl,h1,bz,ax,ai⟩;refine bp aZ.i λX ei cb bB aY=>?_;refine⟨.inl (bx.trans bB),?_⟩;refine bH (vs:=c8 c) aZ.i rfl rfl ax.one aY λej cc ek db=>?_;have em:=bx.size;refine b8 _ _ ⟨X,c,rfl,(aV.trans bx).trans (bB.then cc λr J he=>by have he:r=X:=he;omega),db,h1,bz,?_,Ω,λr J=>by have:=ai r J;omega⟩;exact lG (ax.ext bB) cc λr J=>.inl ⟨_,_,by have J:r=X:=J;subst J;exact aY,Φ,Φ⟩
  .refine bp aZ.i λX en cb a1 aY=>?_;refine⟨.inl a1,?_⟩;have cd:=aW.trans a1;refine (Bk (bu.ext cd) am bt (bZ.ext cd)).mono ?_;rintro _ eo _ ⟨ce,c,rfl,h1,bz,ax,ai⟩;have cg:=aY.ext ce;have ep:=a1.size;refine bH (vs:=c8 c) aZ.i rfl rfl ax.one cg λes ch et dd=>?_;refine b8 _ _ ⟨X,c,rfl,aV.trans ((a1.trans ce).then ch λr J he=>by have he:r=X:=he;omega),dd,h1,bz,?_,Ω,λr J=>by have:=ai r J;omega⟩;exact lG ax ch λr J=>.inl ⟨_,_,by have J:r=X:=J;subst J;exact cg,Φ,Φ⟩
 rintro _ aU ⟨X,c,rfl,bC,df,aH,a2,dg,cb,ai⟩;have ci:=J.ext bC;have dh:∀h∈L,∀r,leads h.aL r->r<U.heap.size:=λh aI r di=>by
  obtain⟨⟨_,_,dj,cj⟩,_⟩:=J.2.1 h aI;have:=bA cj di;omega
 have dl:∀ {j:Nat},decide (c.sc∈(L.take j).map (·.sc))=decide (bj x.scope∈((er f i).take j).map (·.1)):=λ{j}=>by
  rw[aH,<-au,<-List.map_take,List.map_map];rfl
 have cY:=ap.size;rw[c9 cK.u ci.1];refine bE.range L.length (λj aS aj=>∃W,aS= .bool (decide (c.sc∈(L.take j).map (·.sc)))/\Ext w aj/\U.heap.size<=aj.heap.size/\jr aj w.heap.size g l f.sizes W/\W.map dc=((er f i).map (ka f.k c.sc c.cs)).take j++(er f i).drop j/\af aj X aZ (c8 c)/\fc aj f.sizes c/\ ∀h∈W,∀r,leads h.aL r->r<U.heap.size) J.1.le
  ⟨L,Ξ,ap.trans bC,bC.size,ci,by simpa using au,df,dg,dh⟩ ?_ ?_
 .rintro j _ aj dn ck ⟨W,rfl,aJ,dp,a7,ah,bG,bI,aA⟩ dq;have dr:W.length=L.length:=by
   have:=congrArg R4 ah;simp only[u4,u9,o4,R5] at this;omega
  obtain⟨h,aI⟩:∃h,W[j]? =σ h:=⟨_,y0 Ω⟩;have a8:(er f i)[j]? =σ (dc h):=by
   have cl:(W.map dc)[j]? =σ (dc h):=by rw[x8,aI];rfl
   rw[ah,Bn (by rw[u4];omega)] at cl;exact cl
  have ba:((er f i).map (ka f.k c.sc c.cs))[j]? =σ (ka f.k c.sc c.cs (dc h)):=by rw[x8,a8];rfl
  have ds:∃y,L[j]? =σ y/\y.sc=h.sc:=by
   refine⟨_,y0 ck,?_⟩;rw[<-au,x8,y0 ck] at a8;exact congrArg Prod.fst (Z8 a8)
  obtain⟨y,ag,dt⟩:=ds;have bJ:(c.sc∈(L.take (j+1)).map (·.sc))↔c.sc∈(L.take j).map (·.sc)\/h.sc=c.sc:=by
   rw[r8,ag,Z4,Z3,n9,List.map_singleton,j4,dt];exact or_congr Iff.rfl ⟨λe=>e.symm,λe=>e.symm⟩
  have cm:e6 f.sizes f.k (dc h):=c0 _ (x5 a8);refine Υ λ_=>?_;refine aQ (λaS al=>∃W,aS= .bool (decide (c.sc∈(L.take (j+1)).map (·.sc)))/\Ext w al/\U.heap.size<=al.heap.size/\jr al w.heap.size g l f.sizes W/\W.map dc=((er f i).map (ka f.k c.sc c.cs)).take (j+1)++(er f i).drop (j+1)/\af al X aZ (c8 c)/\fc al f.sizes c/\ ∀h∈W,∀r,leads h.aL r->r<U.heap.size) ?_ ?_
  .rintro eu al bw;rw[aN];exact dq _ _ bw
  intro ev cn;intro du aK _ _;have bb:=a7.ext aK;have cp:=bG.ext aK;have cq:=bI.ext aK;obtain⟨dv,ew⟩:=bb.2.1 h (x5 aI);obtain⟨⟨g1,h1⟩,_,dj,cj⟩:=id dv;obtain⟨⟨ey,dw⟩,_,ez,cr⟩:=id cq;rw[cG rfl cK.u aZ.i bb.1 Ω,ac aZ.p rfl,ad (v:=h.az) Ψ (bb.1.range aI 0 _ rfl),ac aZ.p rfl,ad (v:=c.az) Ψ (cp.Q0 rfl)];refine (yq h1.ls dw.ls).mono ?_;rintro _ eA _ ⟨rfl,aE⟩;have ct:=bb.ext aE;have bK:=cp.ext aE;have cu:=cq.ext aE;have cw:=(aJ.trans aK).trans aE;have z9:=(aK.trans aE).size;rw[ae];refine⟨λbL=>?_,λcz=>?_⟩
  rotate_left
  .refine cn _ _ ⟨W,?_,cw,Ω,ct,?_,bK,cu,aA⟩
   .congr 1;exact decide_eq_decide.2 ⟨λh=>bJ.2 (.inl h),λh=>(bJ.1 h).resolve_right cz⟩
   .have e:ka f.k c.sc c.cs (dc h)=dc h:=if_neg cz;rw[e] at ba;rw[<-rZ Ω ba,<-ah];symm;refine X8 λp=>?_;rw[X7];by_cases aO:j=p
    .subst aO;rw[if_pos rfl,if_pos Θ,x8,aI];rfl
    .rw[if_neg aO]
  have dx:h.cs.length=c.cs.length:=by
   have dy:h.cs.length=_:=cm.len;have dz:c.cs.length=(aM (bF f.sizes (gR f.sizes f.k x).1)).toNat:=by rw[a2];exact b3.len
   rw[dy,dz,show (dc h).1=h.sc from rfl,bL,aH];rfl
  have eB:(dF f.k h.cs c.cs).length=h.cs.length:=by unfold dF;rw[List.length_zipWith];omega
  rw[ac aZ.p rfl,ad (v:=c.aL) Ψ (bK.Q2 rfl),aT aw.u (cr.ext aE).ls];refine bP.range c.cs.length (λs aC=>Ext w aC/\U.heap.size<=aC.heap.size/\jr aC w.heap.size g l f.sizes (W.set j {h with cs:=(dF f.k h.cs c.cs).take s++h.cs.drop s})/\af aC X aZ (c8 c)/\fc aC f.sizes c) cr.ls.le
   ⟨cw,Ω,?_,bK,cu⟩ ?_ ?_
  .have e:W.set j {h with cs:=(dF f.k h.cs c.cs).take 0++h.cs.drop 0}=W:=by
    refine X8 λp=>?_;rw[X7];by_cases aO:j=p
    .subst aO;rw[if_pos rfl,if_pos Ω,aI];rfl
    .rw[if_neg aO]
   rw[e];exact ct
  .rintro s aC dA I ⟨bM,cA,bc,bN,bO⟩ dC;refine Υ λ_=>?_;intro eC aP _ _;have aF:=bc.ext aP;have cB:=bN.ext aP;have cC:=bO.ext aP;have cD:=bM.trans aP;have be:(W.set j {h with cs:=(dF f.k h.cs c.cs).take s++h.cs.drop s})[j]? =σ {h with cs:=(dF f.k h.cs c.cs).take s++h.cs.drop s}:=by
    rw[X7,if_pos rfl,if_pos Ω]
   have cE:j<(W.set j {h with cs:=(dF f.k h.cs c.cs).take s++h.cs.drop s}).length:=by rw[X2];omega
   obtain⟨⟨_,_,dD,bQ⟩,dE⟩:=aF.2.1 _ (x5 be);obtain⟨_,_,eE,dG⟩:=id cC;obtain⟨a,bR⟩:∃a,h.cs[s]? =σ a:=⟨_,y0 Ω⟩;obtain⟨b,aR⟩:∃b,c.cs[s]? =σ b:=⟨_,y0 I⟩;have dH:s<({h with cs:=(dF f.k h.cs c.cs).take s++h.cs.drop s}:fb).cs.length:=by show s<((dF f.k h.cs c.cs).take s++h.cs.drop s).length;rw[u9,o4,R5];omega
   have dI:((dF f.k h.cs c.cs).take s++h.cs.drop s)[s]? =σ a:=by rw[Bn Ω];exact bR
   have bS:(dF f.k h.cs c.cs)[s]? =σ (min (a+b) f.k):=by
    unfold dF;rw[List.getElem?_zipWith,bR,aR]
   have eF:=cm.ie a (x5 bR);have eH:=b3.ie b (by rw[<-a2];exact x5 aR);have dJ:=bk.ext cD;rw[cG rfl cK.u aZ.i aF.1 cE,ac aZ.p rfl,ad (v:=h.aL) Ψ (aF.1.range be 2 _ rfl),cG rfl cK.u aZ.i aF.1 cE,ac aZ.p rfl,ad (v:=h.aL) Ψ (aF.1.range be 2 _ rfl),bd aw.u ao.i Ψ bQ.ls dI,ac aZ.p rfl,ad (v:=c.aL) Ψ (cB.Q2 rfl),bd aw.u ao.i Ψ dG.ls aR,ay,ac dk.p rfl,ad (v:=Δ f.k) Ψ (dJ.Q1 rfl)];refine (G7 Ω Ω).mono ?_;rintro _ eI _ ⟨rfl,aG⟩;refine⟨.inl aG,?_⟩;have z12:=(aP.trans aG).size;refine KQ (h:={h with cs:=(dF f.k h.cs c.cs).take s++h.cs.drop s}) (aF.ext aG) be dH λeK bg cF bT=>?_;rw[aN];have dK:=cC.ext aG;have cH:=cB.ext aG;have eL:=bg.size;refine dC _ ⟨(cD.trans aG).then bg λr J he=>by have:=dE r he;omega,Ω,?_,?_,?_⟩
   .rw[List.set_set] at bT;have e:=rZ (A:=dF f.k h.cs c.cs) (B:=h.cs) (s:=s) Ω bS;simp only[e] at bT;exact bT
   .exact cH.aa bg λI=>by
     obtain⟨eM,dL⟩:=cF _ I;exact absurd (dP cH dL) Φ
   .refine lG dK bg λr J=>.inr (.inr ⟨cF r J,λdM=>?_⟩);have:=ai r dM;have:=aA h (x5 aI) r J;omega
  .rintro aC dA ⟨bM,cA,bc,bN,bO⟩;rw[aq,ae];refine⟨λh=>Ω,λ_=>?_⟩;have e:(dF f.k h.cs c.cs).take c.cs.length++h.cs.drop c.cs.length=dF f.k h.cs c.cs:=by
    rw[<-dx,List.drop_length,X6,l5 Ω]
   simp only[e] at bc;refine cn _ _ ⟨_,?_,bM,cA,bc,?_,bN,bO,λz Y r J=>?_⟩
   .congr 1;symm;exact decide_eq_true (bJ.2 (.inr bL))
   .have dN:ka f.k c.sc c.cs (dc h)=dc {h with cs:=dF f.k h.cs c.cs}:=if_pos bL;rw[dN] at ba;rw[T2,ah,rZ Ω ba]
   .rcases V7 Y with Y|rfl
    .exact aA z Y r J
    .exact aA h (x5 aI) r J
 rintro _ aj dn ⟨W,rfl,aJ,dp,a7,ah,bG,bI,aA⟩;rw[aq,ae];refine⟨λh=>Ω,λ_=>?_⟩;rw[dl,b4,o9,bf,bD];have cI:=uy br;have bS:((er f i).map (ka f.k c.sc c.cs)).take L.length++(er f i).drop L.length=(er f i).map (ka f.k c.sc c.cs):=by
  rw[b4,List.drop_length,X6,l5 (by rw[u4];exact o8 _)]
 rw[bS] at ah;have dr:W.length=L.length:=by
  have:=congrArg R4 ah;rw[u4,u4] at this;omega
 refine⟨λbh=>?_,λbU=>?_⟩
 .have bh:bj x.scope∉(er f i).map (·.1):=by simpa using bh
  have dO:(er f i).map (ka f.k c.sc c.cs)=er f i:=by
   refine (List.map_congr_left λz Y=>?_).trans (List.map_id _);exact if_neg λhe=>bh (Z1.2 ⟨z,Y,by rw[he,aH]⟩)
  rw[dO] at ah;rw[bn aZ.p aZ.i rfl (show aj.rangeAt X 0 (c8 c) from bG.range)];refine fQ (f:=c8) (k:=3) (a:=c) cK.u aZ.i Ω rfl rfl λeN dD al eO bi bQ=>?_;have aD:=a7.ext bi;have cJ:=bI.ext bi;refine gh (f:=c8) (a:=c) cK.u aZ.i rfl aD.1 (by simpa using bQ.sl) cJ.one Ω Ω λeP dQ du bo dR bV=>?_;have cL:∀r,leadsTo l r-> ∃e c,af al r e c/\e≠ab/\e≠ao:=λr J=>by
   obtain⟨rfl,c,aR⟩:=dm aD.1 J;exact⟨_,c,aR,Φ,Φ⟩
  have eR:=bi.size;have eS:=aJ.size;refine b6 _ _ ⟨dQ,W++[c],(aJ.trans bi).then bV λr J he=>by have:=aD.2.2.2 r he;omega,⟨bo,λz Y=>?_,λp q y z ag Y dS r bW bX=>?_,λr J=>(dR r J).elim (aD.2.2.2 r) λh=>Ω⟩,?_⟩
  .rcases n9.1 Y with Y|Y
   .exact⟨lG (aD.2.1 z Y).1 bV λr J=>.inl (cL r J),(aD.2.1 z Y).2⟩
   .rw[j4.1 Y];exact⟨lG cJ bV λr J=>.inl (cL r J),λr J=>by have:=ai r J;omega⟩
  .have cM:∀ {p:Nat} {y:fb},(W++[c])[p]? =σ y->W[p]? =σ y\/(p=W.length/\y=c):=λ{p y} ag=>by
    rw[List.getElem?_append] at ag;split at ag
    .exact .inl ag
    .by_cases dT:p-W.length=0
     .rw[dT] at ag;cases ag;exact .inr ⟨Ω,rfl⟩
     .rw[Y4 Θ] at ag;cases ag
   rcases cM ag with cN|⟨eU,rfl⟩<;>rcases cM Y with cO|⟨eq,rfl⟩
   .exact aD.2.2.1 p q y z cN cO dS r bW bX
   .have:=aA y (x5 cN) r bW;have:=ai r bX;omega
   .have:=aA z (x5 cO) r bX;have:=ai r bW;omega
   .omega
  .rw[Z3,ah,cI,AL λz Y he=>bh (Z1.2 ⟨z,Y,he⟩)];show _++[(c.sc,c.cs)]=_;rw[aH,a2];rfl
 .have bU:bj x.scope∈(er f i).map (·.1):=by simpa using bU
  refine b6 _ _ ⟨g,W,aJ,a7,?_⟩;rw[ah,cI];unfold hj;rw[if_pos (show (gR f.sizes f.k x).1∈_ from bU)];refine List.map_congr_left λz _=>?_;unfold ka;rw[aH,a2];rfl
def uW (w:x2) (v:x1) (n:aV):Prop:=∃av U I V aU J W L,v= .agg #[Δ n.k,av,Δ n.zero,I,J]/\au .i64 ab w U av n.sizes/\gT w V I aU/\aU.map (·.l)=n.unary/\a6 c8 3 aZ w W J L/\(∀h∈L,fc w n.sizes h)/\L.map dc=n.funs
def z9:List x1:=[Δ 0,.slice ν 0 0,Δ 0,.slice ν 0 0,.slice ν 0 0]
def lH (w:x2) (C J gs go:Nat) (av aL:x1) (f:b2) (I:List fb) (w':x2):Prop:=Ext w w'/\C<=w'.heap.size/\af w' J dj z9/\au .i64 ab w' gs av f.sizes/\a6 c8 3 aZ w' go aL I/\(∀r,leadsTo aL r->r<C)/\ ∀h∈I,fc w' f.sizes h
theorem lH.ext {C J gs go:Nat} {av aL:x1} {f:b2} {U:List fb} (h:lH w C J gs go av aL f U w') (I:Ext w' V):lH w C J gs go av aL f U V:=by
 obtain⟨h1,ad,W,X,Y,aa,ab⟩:=h;have:=I.size;exact⟨h1.trans I,Ω,W.ext I,X.ext I,Y.ext I,aa,λx ac=>(ab x ac).ext I⟩
def KX (w w':x2) (C I:Nat) (r:Nat):Prop:=w.heap.size<=r/\r≠I/\((∃c,af w' r dj c)\/(∃c,af w' r aw c)\/((∃c,af w' r aZ c)/\C<=r))
theorem lH.aa {C Y gs go:Nat} {av aL:x1} {f:b2} {ad:List fb} (h:lH w C Y gs go av aL f ad w') (W:ag S w' V) (X:∀r,S r->KX w w' C Y r):lH w C Y gs go av aL f ad V:=by
 obtain⟨h1,an,aj,ae,ac,ah,ak⟩:=h;have:=W.size;have ai:∀r,S r-> ∃e c,af w' r e c/\e≠ab/\e≠ao:=λr U=>by
  obtain⟨_,_,⟨c,J⟩|⟨c,J⟩|⟨⟨c,J⟩,_⟩⟩:=X r U
  .exact⟨_,c,J,Φ,Φ⟩
  .exact⟨_,c,J,Φ,Φ⟩
  .exact⟨_,c,J,Φ,Φ⟩
 refine⟨h1.then W λr U I=>by have:=(X r I).1;omega,Ω,aj.aa W λI=>(X _ I).2.1 rfl,bc ae W λr U I=>?_,ac.aa W λr U I=>?_,ah,λx al=>lG (ak x al) W λr U=>.inl (ai r U)⟩
 .obtain⟨e,c,J,am,_⟩:=ai r I;exact bX ae J (λhe=>am he.symm) U rfl
 .obtain⟨_,_,⟨c,J⟩|⟨c,J⟩|⟨_,ap⟩⟩:=X r I
  .exact cc ac J Φ U
  .exact cc ac J Φ U
  .have:=ah r U;omega
def Br (w:x2) (C U:Nat) (av:x1) (k:Int) (n:aV) (V:List fb) (w':x2):Prop:=∃I W aU J X L,af w' U dj [Δ k,av,Δ n.zero,I,J]/\gT w' W I aU/\aU.map (·.l)=n.unary/\(∀r,leadsTo I r->w.heap.size<=r)/\a6 c8 3 aZ w' X J L/\(∀h∈L,h∈V)/\L.map dc=n.funs/\ ∀r,leadsTo J r->C<=r
theorem Bs {cm:Nat} {f:b2} (cn:mN w cm f) (aC:eQ N f):ak x3 Du [Γ cm] w λv w'=>Ext w w'/\uW w' v (cb f):=by
 have ec:=aC.k;have ed:=aC.sizes.2.1;obtain⟨c5,ee,ef,eg,cp,cq,eh⟩:=id cn;refine aB func71 ?_;refine bp dj.i λaD U ei bo bq=>?_;have bq:af U aD dj z9:=bq;rw[ay,ac dk.p rfl,ad (v:=Δ f.k) Ψ ((cp.ext bo).Q1 rfl),cW (cs:=#[Δ f.k,.slice ν 0 0,Δ 0,.slice ν 0 0,.slice ν 0 0]) Ψ];refine bp dj.i λY V ej cr c6=>?_;refine bH (vs:=[Δ f.k,.slice ν 0 0,Δ 0,.slice ν 0 0,.slice ν 0 0]) dj.i rfl rfl (by intro u hu;simp at hu;rcases hu with rfl|rfl|rfl|rfl<;>rfl) c6 λc7 ct ek da=>?_;have bT:Ext w c7:=(bo.trans cr).then ct λr J he=>by have he:r=Y:=he;have:=bo.size;omega
 have em:=bq.lt;have aj:Y≠aD:=Ω
 have db:=(bq.ext cr).aa ct λhe=>by have he:aD=Y:=he;omega
 rw[ay,ac dk.p rfl,ad (v:=c5) Ψ ((cp.ext bT).Q2 rfl),aT aw.u (cq.ext bT).ls];have en:=bo.size;refine bP.range f.sizes.length (λi aH=>Ext w aH/\af aH aD dj z9/\ ∃av gs X am aU,af aH Y dj [Δ f.k,av,Δ 0,X,.slice ν 0 0]/\au .i64 ab aH gs av (f.sizes.take i)/\(∀r,leads av r->w.heap.size<=r)/\gT aH am X aU/\aU.map (·.l)=(f.sizes.take i).map (λz=>o7 z.toNat 0)/\ ∀r,leadsTo X r->w.heap.size<=r) Ω
  ⟨bT,db,_,0,_,0,[],da,au.nil _ _ _ _,(λr J=>by obtain⟨a,n,c,dd,eo⟩:=J;cases dd),⟨a6.nil _ _ _ _ _,λx bV=>(by cases bV)⟩,rfl,λr J=>(eJ J).elim⟩ ?_ ?_
 .rintro i aH de hi ⟨aJ,bW,av,gs,X,am,aU,a8,br,bY,bZ,ba,bt⟩ df;obtain⟨z,ah⟩:∃z,f.sizes[i]? =σ z:=⟨_,y0 hi⟩;have ep:=aC.sizes.2.2 z (x5 ah);have er:aU.length=i:=by have:=congrArg R4 ba;simp only[u4,o4] at this;omega
  refine Υ λ_=>?_;rw[bd aw.u ao.i Ψ (cq.ext aJ).ls ah,ac dj.p rfl,ad (v:=av) Ψ (a8.Q1 rfl)];refine dx (k:=.i64) ai.u ab.i rfl λa5 es cu et aV dg=>?_;have bb:=br.ext aV;refine eY ai.u ab.i rfl bb dg.ls Θ Θ λb0 cw eu bu dh cz=>?_;have b1:=a8.ext aV;have cA:=bW.ext aV;have cB:=b1.aa cz λhe=>bX bb b1 Φ he rfl;rw[ac dj.p rfl];refine bh (g:=Y) (o:=1) ai.i bu.ls.cells.1 bu.ls.cells.2 cB Ξ λbw cC ev bx=>?_;have bx:af bw Y dj [Δ f.k,b0,Δ 0,X,.slice ν 0 0]:=bx;have b3:ag (λr=>leads av r\/r=Y) cu bw:=(cz.mono λr _ h=>.inl h).trans (cC.mono λr _ h=>.inr h);have dl:au .i64 ab bw cw b0 (f.sizes.take (i+1)):=by
   rw[r8,ah];exact bc bu cC λr J he=>by
    have he:r=Y:=he;subst he;exact bX bu cB Φ J rfl
  have aW:∀r,(leads av r\/r=Y)-> ∃e c,af cu r e c/\e≠ao/\e≠aw:=λr J=>by
   rcases J with J|rfl
   .obtain⟨rfl,_⟩:=bA bb J;obtain⟨_,⟨dp,_⟩|⟨cap,full,_,W,_⟩⟩:=bb
    .obtain⟨a,n,c,e,_⟩:=J;rw[dp] at e;cases e
    .exact⟨_,_,W,Φ,Φ⟩
   .exact⟨_,_,b1,Φ,Φ⟩
  have dq:=(bZ.ext aV).aa b3 aW;have z4:=aJ.size;have z5:=aV.size;have cD:Ext w bw:=(aJ.trans aV).then b3 λr J he=>by
   rcases he with he|he
   .have:=bY r he;omega
   .omega
  have dr:=cA.aa b3 λI=>by
   rcases I with I|I
   .exact bX bb cA Φ I rfl
   .omega
  intro ew cE _ _;have ds:=bx.ext cE;rw[ac dj.p rfl,ad (v:=X) Ψ (ds.Q3 rfl)];obtain⟨aK,rfl⟩:∃n:Nat,z=n:=⟨z.toNat,Ω⟩;refine i9 (k:=.i64) aw.u ao.i Ω Ω λbz dt ey b4 du=>?_;refine⟨.inl b4,?_⟩;have dv:au .i64 ao dt bz (.slice (σ ⟨bz,0,ν⟩) aK aK) (o7 aK 0):=au.of (bU.full (k:=1) (n:=aK) du Ξ (by simp[maxLen];omega));let a:kN:=⟨.slice (σ ⟨bz,0,ν⟩) aK aK,o7 aK 0⟩;refine fQ (f:=mH) (a:=a) dJ.u aw.i Ω rfl rfl λez eA b5 eB b6 dw=>?_;refine⟨.inl (b4.trans b6),?_⟩;have aX:=(cE.trans b4).trans b6;have be:=dq.ext aX;refine gh (f:=mH) (a:=a) dJ.u aw.i rfl be.1 (by simpa using dw.sl) (λu hu=>by rw[j4.1 (show u∈[a.v] from hu)];rfl) Ω Ω λb7 b8 eC an b9 cF=>?_;have aY:∀ {r:Nat},leadsTo X r-> ∃c,af b5 r aw c:=λJ=>by
   obtain⟨rfl,c,W⟩:=dm be.1 J;exact⟨c,W⟩
  have ca:=bx.ext aX;have cH:=ca.aa cF λhe=>cc be.1 ca Φ he;rw[ac dj.p rfl];refine bh dJ.i (cT an.sl).1 (cT an.sl).2 cH Ξ λdy cI eD dz=>?_;rw[aN];have aE:ag (λr=>leadsTo X r\/r=Y) b5 dy:=(cF.mono λr _ h=>.inl h).trans (cI.mono λr _ h=>.inr h);have cd:∀r,(leadsTo X r\/r=Y)-> ∃e c,af b5 r e c/\e≠ao/\e≠ab:=λr J=>by
   rcases J with J|rfl
   .obtain⟨c,W⟩:=aY J;exact⟨_,c,W,Φ,Φ⟩
   .exact⟨_,_,ca,Φ,Φ⟩
  have cJ:=dl.ext aX;have eE:=cD.size;have eF:=aX.size;have cL:=dr.ext aX;refine df _ ⟨(cD.trans aX).then aE (λr J he=>?_),cL.aa aE (λI=>?_),b0,cw,b7,b8,aU++[a],dz,bc cJ aE (λr J I=>?_),λr J=>?_,⟨an.aa cI λr J he=>?_,λy ap=>?_⟩,?_,λr J=>?_⟩
  .rcases he with he|rfl
   .have:=bt r he;omega
   .omega
  .rcases I with I|I
   .exact cc be.1 cL Φ I
   .omega
  .obtain⟨e,c,W,_,aj⟩:=cd r I;exact bX cJ W (λhe=>aj he.symm) J rfl
  .rcases dh r J with h|h
   .exact bY r h
   .omega
  .have he:r=Y:=he;subst he;exact cc an cH Φ J
  .rcases n9.1 ap with ap|ap
   .exact be.pA aE (λr J=>by obtain⟨e,c,W,aj,_⟩:=cd r J;exact⟨e,c,W,aj⟩) y ap
   .rw[j4.1 ap];have cM:=dv.ext b6;exact⟨bz,bc cM aE λr J I=>by
     obtain⟨e,c,W,aj,_⟩:=cd r I;exact bX cM W (λhe=>aj he.symm) J rfl⟩
  .rw[Z3,ba,r8,ah,Z4,Z3];rfl
  .rcases b9 r J with h|h
   .exact bt r h
   .omega
 rintro aH de ⟨aJ,bW,av,gs,X,am,aU,a8,br,bY,bZ,ba,bt⟩;rw[aq,ae];refine⟨λh=>Ω,λ_=>?_⟩;rw[o9] at br ba;refine (KW (cn.ext aJ) aC).mono ?_;rintro aL bB _ ⟨a1,go,ax,an,dA,cN,eH⟩;have cO:ax.length=(e4 f).length:=by rw[<-cN,u4]
 have eI:ax.length<=256:=by
  have h1:=(pq aC).2.length_eq;have bC:=(jV aC).2.2;have eK:=S9 e3 (eV f);have eL:=aC.jP;omega
 have z4:=aJ.size;have eM:=a1.size;have eN:=a8.lt;rw[c9 cK.u an];refine bP.range ax.length (λi aO=>lH w bB.heap.size aD gs go av aL f ax aO/\Br w bB.heap.size Y av f.k (dn f i) ax aO) an.le
  ⟨⟨aJ.trans a1,o8 _,bW.ext a1,br.ext a1,an,λr J=>by have:=an.leads J;omega,λh aI=>(dA h aI).1⟩,X,am,aU,_,0,[],a8.ext a1,bZ.ext a1,ba,bt,a6.nil _ _ _ _ _,λx bV=>(by cases bV),rfl,λr J=>(eJ J).elim⟩ ?_ ?_
 rotate_left
 .rintro aO dC ⟨a2,X,am,aU,aF,bD,L,bE,bG,aP,bf,bg,bi,aQ,bj⟩;obtain⟨dD,eP,cP,ce,eR,eS,dE⟩:=id a2;have bI:=n1 f ax.length;rw[cO,rS] at bI;rw[cO,rS] at bE aP aQ;rw[aq,ae];refine⟨λh=>Ω,λ_=>?_⟩;rw[bn dj.p dj.i rfl (show aO.rangeAt Y 0 [Δ f.k,av,Δ (cb f).zero,X,aF] from bE.range)];refine bH (vs:=[Δ f.k,av,Δ (cb f).zero,X,aF]) dj.i rfl rfl (λu hu=>?_) cP λeU bl eW dF=>?_
  .simp at hu;rcases hu with rfl|rfl|rfl|rfl|rfl
   .rfl
   .exact ce.ls.cells.2
   .rfl
   .exact (cT bG.1.sl).2
   .exact (cT bg.sl).2
  rw[eO dj.p dj.i rfl dF.range];have aW:∀r,r=aD-> ∃e c,af aO r e c/\e≠ao/\e≠aw/\e≠ab/\e≠aZ:=λr J=>by
   subst J;exact⟨_,_,cP,Φ,Φ,Φ,Φ⟩
  refine⟨dD.then bl λr J he=>by have he:r=aD:=he;omega,av,gs,X,am,aU,aF,bD,L,?_,?_,bG.aa bl (λr J=>?_),aP,bg.aa bl (λr J I=>?_),λh aI=>?_,aQ⟩
  .rw[bI.1]
  .rw[bI.2.1];refine bc ce bl λr J I=>?_;obtain⟨e,c,W,_,_,aj,_⟩:=aW r I;exact bX ce W (λhe=>aj he.symm) J rfl
  .obtain⟨e,c,W,h1,bC,_⟩:=aW r J;exact⟨e,c,W,h1,bC⟩
  .obtain⟨e,c,W,_,_,_,aj⟩:=aW r I;exact cc bg W (λhe=>aj he.symm) J
  .rw[bI.2.1];exact lG (dE h (bi h aI)) bl λr J=>by
    obtain⟨e,c,W,h1,_,bC,_⟩:=aW r J;exact .inl ⟨e,c,W,bC,h1⟩
 rintro i aO dC hi ⟨a2,X,am,aU,aF,bD,L,bE,bG,aP,bf,bg,bi,aQ,bj⟩ dG;obtain⟨y,ap⟩:∃y,ax[i]? =σ y:=⟨_,y0 hi⟩;have bJ:=x5 ap;have cQ:(e4 f)[i]? =σ (dc y):=by rw[<-cN,x8,ap];rfl
 have cg:e6 f.sizes f.k (dc y):=rC aC _ (x5 cQ);have ch:=uA cQ;obtain⟨eX,eZ,e0,e1⟩:=n1 f i;refine Υ λ_=>?_;refine di (λci=>lH w bB.heap.size aD gs go av aL f ax ci/\Br w bB.heap.size Y av f.k (dn f (i+1)) ax ci) ?_ ?_
 .rintro ci h;rw[aN];exact dG _ h
 intro e2 cj;rw[cG rfl cK.u aZ.i a2.2.2.2.2.1 hi,bn aZ.p aZ.i rfl (a2.2.2.2.2.1.range ap)];refine bp aZ.i λcR e5 e7 dH dI=>?_;refine bH (vs:=c8 y) aZ.i rfl rfl (a2.2.2.2.2.2.2 y bJ).one dI λcS dK e8 bK=>?_;have bL:Ext aO cS:=dH.then dK λr J he=>by have he:r=cR:=he;omega
 have bM:=a2.ext bL;have aR:=bE.ext bL;have ck:=bG.ext bL;have bN:=bg.ext bL;obtain⟨e9,fa,cU,fb,fc,fd,cV⟩:=id bM;obtain⟨⟨fe,cX⟩,_,dL,cY⟩:=cV y bJ;rw[ac aZ.p rfl,ad (v:=y.az) Ψ (bK.Q0 rfl),aT ai.u cX.ls];have ff:aU.length=f.sizes.length:=by have:=congrArg R4 aP;rw[u4] at this;omega
 have fg:L.length<=256:=by have:=congrArg R4 aQ;rw[u4] at this;omega
 rw[bk,ae];refine⟨λfh=>?_,λfi=>?_⟩
 .
  have aS:y.sc=[]:=Z5 Ω;have al:dn f (i+1)={dn f i with zero:=y.cs.getD 0 0}:=by rw[ch];unfold hR;simp only[dc,aS]
  have fj:y.cs.length=1:=by have:=cg.len;simpa[dc,aS,bF,aM] using this
  have dM:y.cs[0]? =σ (y.cs.getD 0 0):=by rw[u5,y0 Ω];rfl
  rw[ac aZ.p rfl,ad (v:=y.aL) Ψ (bK.Q2 rfl),dY (y:=0) (i:=0) rfl aw.u ao.i Ψ cY.ls dM,ac dj.p rfl];refine bh ao.i rfl rfl aR Ξ λdN aA dO dQ=>?_;refine cj _ ⟨bM.aa aA λr J=>?_,X,am,aU,aF,bD,L,?_,ck.aa aA (λr J=>?_),by rw[al];exact aP,bf,bN.aa aA (λr J I=>?_),bi,by rw[al];exact aQ,bj⟩
  .have J:r=Y:=J;subst J;exact⟨Ω,aj,.inl ⟨_,aR⟩⟩
  .rw[al];exact dQ
  .have J:r=Y:=J;subst J;exact⟨_,_,aR,Φ,Φ⟩
  .have I:r=Y:=I;subst I;exact cc bN aR Φ J
 rw[bk,ae];refine⟨λh1=>?_,λfk=>?_⟩
 .
  obtain⟨v,aS⟩:∃v,y.sc=[v]:=X9.1 Ω;have fm:=cg.scope.1 v (by show v∈y.sc;rw[aS];exact .head _);have fo:=cg.vars v (by show v∈y.sc;rw[aS];exact .head _);have al:dn f (i+1)={dn f i with unary:=(dn f i).unary.set v.toNat y.cs}:=by rw[ch];unfold hR;simp only[dc,aS]
  intro dR aG _ _;have cl:=aR.ext aG;have cZ:=bK.ext aG;have bm:=ck.ext aG;have dS:=bM.ext aG;have c0:=bN.ext aG;rw[ac dj.p rfl,ad (v:=X) Ψ (cl.Q3 rfl),ac aZ.p rfl,ad (v:=y.az) Ψ (cZ.Q0 rfl)];refine qX (y:=0) (i:=0) rfl ai.u ab.i (cX.ls.ext aG) (show y.sc[0]? =σ v by rw[aS];rfl) λb o dT=>?_;rw[ad Ψ dT,ac aZ.p rfl,ad (v:=y.aL) Ψ (cZ.Q2 rfl)];obtain⟨u,hu⟩:∃u,aU[v.toNat]? =σ u:=⟨_,y0 Ω⟩;rw[cG (i:=v.toNat) Ω dJ.u aw.i bm.1 Ω];let a:kN:=⟨y.aL,y.cs⟩;have bO:=cY.ext aG;refine mB (f:=mH) (j:=0) (a:=u) (a':=a) aw.i bO.ls.cells.1 bO.ls.cells.2 bm.1 hu rfl Ω λdN aA dO dU=>?_;have aY:∀ {r:Nat},leadsTo X r-> ∃c,af dR r aw c:=λJ=>by
   obtain⟨rfl,c,W⟩:=dm bm.1 J;exact⟨c,W⟩
  refine cj _ ⟨dS.aa aA λr J=>?_,X,am,aU.set v.toNat a,aF,bD,L,?_,⟨dU,λz ah=>?_⟩,?_,bf,c0.aa aA (λr J I=>?_),bi,by rw[al];exact aQ,bj⟩
  .obtain⟨c,W⟩:=aY J;exact⟨bf r J,λhe=>(by subst he;exact absurd (dP W (cU.ext aG)) Φ),.inr (.inl ⟨c,W⟩)⟩
  .rw[al];exact cl.aa aA λhe=>cc bm.1 cl Φ he
  .rcases V7 ah with ah|rfl
   .exact bm.pA aA (λr J=>by obtain⟨c,W⟩:=aY J;exact⟨_,c,W,Φ⟩) z ah
   .exact⟨dL,bc bO aA λr J I=>by
     obtain⟨c,W⟩:=aY I;exact bX bO W Φ J rfl⟩
  .rw[al,T2,aP]
  .obtain⟨c,W⟩:=aY I;exact cc c0 W Φ J
 .
  have al:dn f (i+1)={dn f i with funs:=(dn f i).funs++[dc y]}:=by
   rw[ch];unfold hR;have c1:2<=(dc y).1.length:=by show 2<=y.sc.length;omega
   generalize dc y=g at c1 ⊢;obtain⟨sc,cs⟩:=g
   match sc,c1 with
   |_::_::_,_=>rfl
  rw[ac dj.p rfl,ad (v:=aF) Ψ (aR.Q4 rfl),bn aZ.p aZ.i rfl (show cS.rangeAt cR 0 (c8 y) from bK.range)];refine fQ (f:=c8) (k:=3) (a:=y) cK.u aZ.i Ω rfl rfl λfp fq dV fs a7 dW=>?_;have bQ:=bN.ext a7;have dX:=ck.ext a7;have bR:=aR.ext a7;have dZ:=bM.ext a7;refine gh (f:=c8) (a:=y) cK.u aZ.i rfl bQ (by simpa using dW.sl) (cV y bJ).one Ω Ω λb7 b8 ft bS b9 c2=>?_;have c3:=bR.aa c2 λhe=>cc bQ bR Φ he;rw[ac dj.p rfl];refine bh cK.i (cT bS.sl).1 (cT bS.sl).2 c3 Ξ λea c4 fu eb=>?_;have aE:ag (λr=>leadsTo aF r\/r=Y) dV ea:=(c2.mono λr _ h=>.inl h).trans (c4.mono λr _ h=>.inr h);have fv:=a7.size;refine cj _ ⟨dZ.aa aE λr J=>?_,X,am,aU,b7,b8,L++[y],?_,dX.aa aE (λr J=>?_),by rw[al];exact aP,bf,bS.aa c4 (λr J I=>?_),λz ah=>?_,?_,λr J=>?_⟩
  .rcases J with J|rfl
   .obtain⟨rfl,c,W⟩:=dm bQ J;have:=bj _ J;refine⟨Ω,λhe=>?_,.inr (.inr ⟨⟨c,W⟩,this⟩)⟩;subst he;exact absurd (dP W (cU.ext a7)) Φ
   .exact⟨Ω,aj,.inl ⟨_,bR⟩⟩
  .rw[al];exact eb
  .rcases J with J|rfl
   .obtain⟨rfl,c,W⟩:=dm bQ J;exact⟨_,c,W,Φ,Φ⟩
   .exact⟨_,_,bR,Φ,Φ⟩
  .have I:r=Y:=I;subst I;exact cc bS c3 Φ J
  .rcases n9.1 ah with ah|ah
   .exact bi z ah
   .rw[j4.1 ah];exact bJ
  .rw[al,Z3,aQ];rfl
  .rcases b9 r J with h|h
   .exact bj r h
   .omega
def pK (w:x2) (S:Nat->Prop) (e:r9):Prop:=∀r,S r-> ∃c,af w r e c
theorem uX {J:r9} {k:o6} {g:Nat} (h:au k J w g v l) (U:ag S w w') (V:pK w S e) (W:J≠e):au k J w' g v l:=bc h U λr X I=>by
 obtain⟨c,Y⟩:=V r I;exact bX h Y W X rfl
theorem Bt {α:Type} {f:α->List x1} {k:Nat} {J:r9} {g:Nat} {L:List α} (h:a6 f k J w g v L) (U:ag S w w') (V:pK w S e) (W:J≠e):a6 f k J w' g v L:=h.aa U λr X I=>by
 obtain⟨c,Y⟩:=V r I;exact cc h Y W X
theorem uY {J:r9} {r:Nat} (h:af w r J c) (U:ag S w w') (V:pK w S e) (W:J≠e):af w' r J c:=h.aa U λI=>by
 obtain⟨c,X⟩:=V r I;exact W (dP h X)
theorem Bu {g:Nat} (h:af w g e c):pK w (λr=>r=g) e:=λr I=>by
 have I:r=g:=I;subst I;exact⟨c,h⟩
theorem js {k:o6} {g:Nat} (h:au k e w g v l):pK w (λr=>leads v r) e:=λr I=>by
 have I:leads v r:=I;obtain⟨rfl,_⟩:=bA h I;obtain⟨_,⟨U,_⟩|⟨cap,full,_,V,_⟩⟩:=h
 .obtain⟨a,n,c,J,_⟩:=I;rw[U] at J;cases J
 .exact⟨_,V⟩
def cu (x:e9):Λ:=((W3 x.un.length).map λv:Nat=>(v:Int)).filter λv=>!dropped x.mask v
theorem uZ {P:W7} {k:o6} {b:Nat} (I:P.underlying t=σ (.slice e)) (hi:aO P e 1 b z)
  (J:∀v g w',g=w.heap.size->Ext w w'->au k e w' g v []->K v w'):aA P (Z7 t 0 #[]) w K:=
 iw I hi Ω (cs:=#[]) (by simp[Instr.fill]) λg w' U V W=>J _ g w' U V (au.of (n:=0) (bU.full (by simpa using W) Ξ (by simp[maxLen])))
theorem KY {n:aV} (h:uW w v n) {g:Nat} (X:af w' g dj v.cells.toList):∃av U I V aU J W L,af w' g dj [Δ n.k,av,Δ n.zero,I,J]/\au .i64 ab w U av n.sizes/\gT w V I aU/\aU.map (·.l)=n.unary/\a6 c8 3 aZ w W J L/\(∀h∈L,fc w n.sizes h)/\L.map dc=n.funs:=by
 obtain⟨av,U,I,V,aU,J,W,L,rfl,Y,aa,ad,ac,ae,ag⟩:=h;obtain⟨_,_,_,ah⟩:=bZ Y.ls;obtain⟨_,_,_,_,_,ai,_⟩:=aa.1.sl;obtain⟨_,_,_,_,_,aj,_⟩:=ac.sl;refine⟨av,U,I,V,aU,J,W,L,?_,Y,aa,ad,ac,ae,ag⟩;rw[ah,ai,aj] at X ⊢;exact X
def z12:List x1:=[Δ 0,.slice ν 0 0,Δ 0,.slice ν 0 0,.slice ν 0 0,.slice ν 0 0,.slice ν 0 0,.slice ν 0 0]
theorem KZ (u:Λ):cu (newVar u)=(W3 u.length).map λv:Nat=>(v:Int):=by
 unfold cu newVar dropped;rw[List.filter_eq_self.2];intro a _;simp
section
variable {P:W7} {w:x2} {t:r9} {cx cy:Bool} {a b:Nat} {K:x1->Prop}
theorem K0 (I:a<2 ^ 62) (U:b<2 ^ 62):J P (aC .or t cx cy (Δ a) (Δ b)) w K=K (Δ ((a ||| b:Nat):Int)):=J.of λw' _=>by
 have e:(U8 64 (a:Int) ||| U8 64 (b:Int)).toNat=a ||| b:=by
  rw[lr,lr,BitVec.toNat_or,BitVec.toNat_ofNat,BitVec.toNat_ofNat,Nat.mod_eq_of_lt Ω,Nat.mod_eq_of_lt Ω]
 have W:a ||| b<2 ^ 62:=Nat.or_lt_two_pow I U;have hw:Y6.wrap ((a ||| b:Nat):Int)=((a ||| b:Nat):Int):=wrap_i64 Ω Ω;have V:(U8 Y6.bits (a:Int) ||| U8 Y6.bits (b:Int)).toNat=a ||| b:=e;simp only[aC,eqGuard,binOp,Op.intBits,V,hw];rfl
theorem K1 (V:a<2 ^ 62) (I:b<2 ^ 62):J P (aC .and t cx cy (Δ a) (Δ b)) w K=K (Δ ((a &&& b:Nat):Int)):=J.of λw' _=>by
 have e:(U8 64 (a:Int) &&& U8 64 (b:Int)).toNat=a &&& b:=by
  rw[lr,lr,BitVec.toNat_and,BitVec.toNat_ofNat,BitVec.toNat_ofNat,Nat.mod_eq_of_lt Ω,Nat.mod_eq_of_lt Ω]
 have W:a &&& b<2 ^ 62:=Nat.and_lt_two_pow _ I;have hw:Y6.wrap ((a &&& b:Nat):Int)=((a &&& b:Nat):Int):=wrap_i64 Ω Ω;have U:(U8 Y6.bits (a:Int) &&& U8 Y6.bits (b:Int)).toNat=a &&& b:=e;simp only[aC,eqGuard,binOp,Op.intBits,U,hw];rfl
theorem K2 {k:o6} {n:Nat} (I:n<62):J P (aC .shl t cx cy (Δ 1) (.int k (n:Int))) w K=K (Δ ((2 ^ n:Nat):Int)):=by
 rw[xp Ω];have e:min ((n:Int).toNat) Y6.bits=n:=T7 (by show n<=64;omega);have U:2 ^ n<2 ^ 62:=Nat.pow_lt_pow_right Ω I;rw[e,Int.one_mul,show ((2:Int) ^ n)=((2 ^ n:Nat):Int) by simp];generalize 2 ^ n=q at U ⊢;rw[wrap_i64 Ω Ω]
end
theorem Bv (a n:Nat):(a / 2 ^ n &&& 1=1)↔a.testBit n=true:=by
 rw[Nat.and_one_is_mod,Nat.testBit_eq_decide_div_mod_eq,decide_eq_true_eq]
theorem Bw {b n:Nat} {v:Int} (Y:lu b n):ak x3 C7 [ia b n,Δ v] w λr w'=>r= .bool (decide (0<=v/\v<n)&&b.testBit v.toNat)/\Ext w w':=by
 refine aB func15 ?_;refine bN λg U ag J W=>?_;refine aQ (λr V=>r= .bool (decide (0<=v/\v<n)&&b.testBit v.toNat)/\Ext w V) (λ_ _ h=>h) λah X=>?_;rw[bn b5.p b5.i rfl W.range];refine yB.mono ?_;rintro _ ai _ ⟨rfl,I⟩;rw[ae];refine⟨λh=>?_,λh=>X _ _ ⟨by rw[decide_eq_false h];rfl,J.trans I⟩⟩;obtain⟨aa,aj⟩:=Y;obtain⟨s,rfl⟩:∃s:Nat,v=s:=⟨v.toNat,Ω⟩;have ab:=W.ext I;have al:(2:Nat) ^ n<=2 ^ 32:=S5 Ω aa;have af:b / 2 ^ s<2 ^ 64:=Nat.lt_of_le_of_lt (Nat.div_le_self _ _) Ω;rw[ac b5.p rfl,ad (v:=.int .u64 (b:Int)) Ψ (ab.Q0 rfl),q0 Ω,show (1:Int)=((1:Nat):Int) from rfl,u64_and af Ω,bk];refine X _ _ ⟨?_,J.trans I⟩;congr 1;rw[decide_eq_true h,V6,V8,decide_eq_true_eq,j0,<-Bv];omega
theorem K3 (m v:Nat):dropped (m:Int) (v:Int)=m.testBit v:=by unfold dropped;rw[j0,j0]
def b7 (w:x2) (al ah:Nat) (A R:aj) (n:aV) (s:aF) (t:aD):Prop:=StateM w al ah A R n s t/\t.bT=s.cells/\iI t/\eB n.k n.sizes s/\ig n
theorem b7.ext {A R:aj} {n:aV} {s:aF} {t:aD} (h:b7 w al ah A R n s t) (I:Ext w w'):b7 w' al ah A R n s t:=⟨h.1.ext I,h.2⟩
theorem StateM.parts {A R:aj} {n:aV} {s:aF} {t:aD} (h:StateM w al ah A R n s t):∃I J U V W X L Y,af w al bt [Γ I,Γ ah,J,U,V]/\e8 w I n/\cI w ah Y t/\au .i64 ab w W J (gF s)/\a6 jn 3 cE w X U L/\iK R w L s:=by
 obtain⟨I,J,U,V,_,W,X,ge,L,E,Y,w0,aa,⟨ac,ad,am⟩,⟨ae,an,ao,ap⟩,ag,⟨ai,ak⟩,aq,av⟩:=h;exact⟨I,J,U,V,W,X,L,Y,aa,ac.ext ad,ae,ag,ai,ak⟩
theorem oc {s:aF} {i:Nat} (h:i<s.vars.length):(gF s)[i]? =σ (eM s i:Int):=by
 unfold gF;rw[x8,List.getElem?_range h];rfl
theorem od {s:aF} {t:aD} (J:t.bT=s.cells) (I:iI t):s.cells.length<=100000000:=by
 rw[<-J];unfold aD.bT;rw[u4];exact I.1
theorem pL {s:aF} {i:Nat} {x:e9} (h:s.vars[i]? =σ x):eM s i+x.un.length+2<=s.cells.length:=by
 have h1:=n3 h (j:=x.un.length+1) Ω;have I:(gE x)[x.un.length+1]? ≠ν:=by
  rw[Ne,List.getElem?_eq_none_iff];show ¬(x.un.length+1+1<=x.un.length+1);omega
 rw[<-h1] at I;have:=(x4.1 (Option.ne_none_iff_exists'.1 I).choose_spec).1;omega
theorem u0 {s:aF} {f:et} (h:s.funs[j]? =σ f):eb s j+f.cs.length+1<=s.cells.length:=by
 have h1:=uD h (j:=f.cs.length) Ω;have I:(fU f)[f.cs.length]? ≠ν:=by
  rw[Ne,List.getElem?_eq_none_iff];show ¬(f.cs.length+1<=f.cs.length);omega
 rw[<-h1] at I;have:=(x4.1 (Option.ne_none_iff_exists'.1 I).choose_spec).1;omega
section
variable {w:x2} {al ah:Nat} {A R:aj} {n:aV} {s:aF} {t:aD}
theorem Bx (h:b7 w al ah A R n s t):ak x3 wQ [Γ al] w λv w'=>(∃I,v=Γ I/\e8 w' I n)/\Ext w w':=by
 obtain⟨I,V,W,X,Y,aa,L,ab,J,U,ae,af,ag,ai⟩:=h.1.parts;refine aB func49 ?_;rw[cC dQ.u];simp only[Z0,aS];rw[ay,ac bt.p rfl,ad (v:=Γ I) Ψ (J.Q0 rfl)];exact⟨⟨I,rfl,U⟩,Ext.refl _⟩
theorem r0 (h:b7 w al ah A R n s t):ak x3 Dj [Γ al] w λv w'=>v=Δ (n.sizes.length:Int)/\Ext w w':=by
 refine aB func60 ?_;refine (Bx h).mono ?_;rintro _ U _ ⟨⟨X,rfl,I⟩,J⟩;refine (uG I).mono ?_;rintro _ V _ ⟨rfl,W⟩;exact⟨rfl,J.trans W⟩
theorem mO (h:b7 w al ah A R n s t):ak x3 wT [Γ al] w λv w'=>v=Δ n.k/\Ext w w':=by
 refine aB func59 ?_;refine (Bx h).mono ?_;rintro _ U _ ⟨⟨X,rfl,I⟩,J⟩;refine (Kc I).mono ?_;rintro _ V _ ⟨rfl,W⟩;exact⟨rfl,J.trans W⟩
theorem pM {i:Int} (h:b7 w al ah A R n s t):ak x3 Dw [Γ al,Δ i] w λv w'=>v= .bool (decide (0<=i/\i<n.sizes.length))/\Ext w w':=by
 refine aB func75 ?_;refine aQ (λv U=>v= .bool (decide (0<=i/\i<n.sizes.length))/\Ext w U) (λ_ _ h=>h) λW I=>?_;rw[ce,ae];refine⟨λJ=>?_,λJ=>I _ _ ⟨by rw[decide_eq_false Ω],Ext.refl _⟩⟩;refine (r0 h).mono ?_;rintro _ U _ ⟨rfl,V⟩;rw[aq];refine I _ _ ⟨?_,V⟩;congr 1;exact decide_eq_decide.2 ⟨λh=>⟨J,h⟩,λh=>h.2⟩
theorem u1 (h:b7 w al ah A R n s t):ak x3 Dk [Γ al] w λv w'=>v=Δ s.zero/\Ext w w':=by
 obtain⟨W,X,Y,aa,ab,ae,L,af,I,ag,J,ai,aj,am⟩:=h.1.parts;refine aB func61 ?_;rw[cC dQ.u];simp only[Z0,aS];rw[ay,ac bt.p rfl,ad (v:=Γ ah) Ψ (I.Q1 rfl)];refine (jY (i:=0) J rfl (show t.bT[0]? =σ s.zero by rw[h.2.1];exact J6 s)).mono ?_;rintro _ U _ ⟨rfl,V⟩;exact⟨rfl,V⟩
theorem oe (h:b7 w al ah A R n s t):ak x3 Da [Γ al] w λv w'=>v=Δ (s.funs.length:Int)/\Ext w w':=by
 obtain⟨W,X,I,Y,aa,ab,L,ae,J,af,ag,ai,U,V⟩:=h.1.parts;refine aB func19 ?_;rw[cC dQ.u];simp only[Z0,aS];rw[ay,ac bt.p rfl,ad (v:=I) Ψ (J.Q3 rfl),c9 dR.u U];exact⟨by rw[V.1],Ext.refl _⟩
def fd (s:aF) (i:Nat):Bool:=match s.vars[i]? with
 |some x=>decide (x.gone≠0)
 |none=>false
theorem pN {i:Int} (h:b7 w al ah A R n s t):ak x3 Dm [Γ al,Δ i] w λv w'=>v= .bool (decide (0<=i)&&fd s i.toNat)/\Ext w w':=by
 refine aB func63 ?_;refine aQ (λv U=>v= .bool (decide (0<=i)&&fd s i.toNat)/\Ext w U) (λ_ _ h=>h) λaq J=>?_;intro V W _ _;refine (pM (h.ext W)).mono ?_;rintro _ au _ ⟨rfl,aa⟩;have I:=W.trans aa;have av:=h.2.2.2.1.vars;rw[ae];refine⟨λaf=>?_,λaw=>J _ _ ⟨?_,I⟩⟩
 .obtain⟨ax,ag,az,aA,aC,aD,L,aE,X,aF,aj,am,aG,aH⟩:=(h.ext I).1.parts;obtain⟨x,Y⟩:∃x,s.vars[i.toNat]? =σ x:=⟨_,y0 Ω⟩;rw[ay,ac bt.p rfl,ad (v:=Γ ah) Ψ (X.Q1 rfl),ay,ac bt.p rfl,ad (v:=ag) Ψ (X.Q2 rfl),dY (y:=i) (i:=i.toNat) Ω ai.u ab.i Ψ am.ls (oc Ω)];have an:t.bT[eM s i.toNat+0]? =σ x.gone:=by rw[h.2.1,n3 Y Ω];rfl
  refine (jY (i:=eM s i.toNat) aj rfl an).mono ?_;rintro _ aI _ ⟨rfl,ao⟩;rw[bG];refine J _ _ ⟨?_,I.trans ao⟩;rw[decide_eq_true af.1,V6];unfold fd;rw[Y]
 .by_cases ap:0<=i
  .unfold fd;rw[Y4 Ω,Bool.and_false]
  .rw[decide_eq_false ap];rfl
def ev (n:aV) (i v:Int):Prop:=0<=i/\i<n.sizes.length/\0<=v/\v<n.sizes.getD i.toNat 0
instance (n:aV) (i v:Int):Decidable (ev n i v):=inferInstanceAs (Decidable (_/\_))
theorem ev.var {i v:Int} (V:ev n i v) (I:eB n.k n.sizes s):∃x,s.vars[i.toNat]? =σ x/\v.toNat<x.un.length/\x.un.length<=32/\n.sizes.getD i.toNat 0=x.un.length:=by
 obtain⟨h1,X,Y,W⟩:=V;have aa:=I.vars;obtain⟨x,U⟩:∃x,s.vars[i.toNat]? =σ x:=⟨_,y0 Ω⟩;obtain⟨z,J⟩:∃z,n.sizes[i.toNat]? =σ z:=⟨_,y0 Ω⟩;have ab:=I.eu.2.2 z (x5 J);have ac:=(I.var i.toNat x z U J).1;rw[u5,J,T4] at W ⊢;exact⟨x,U,Ω,Ω,Ω⟩
theorem u2 {i v:Int} (h:b7 w al ah A R n s t):ak x3 Dv [Γ al,Δ i,Δ v] w λr w'=>r=Δ (if ev n i v then ((eM s i.toNat+2+v.toNat:Nat):Int) else-1)/\Ext w w':=by
 have aI:=h.2.2.2.1.vars;refine aB func72 ?_;refine aQ (λr U=>r= .bool (decide (¬ev n i v))/\Ext w U) ?_ ?_
 .rintro _ U ⟨rfl,Y⟩;rw[ae];refine⟨λao=>⟨by rw[if_neg ao],Y⟩,λW=>?_⟩;have W:=X4.1 W;obtain⟨x,ap,aJ,aK,_⟩:=W.var h.2.2.2.1;obtain⟨af,ag,au,av,aw,ax,L,az,I,aj,aA,am,aC,aD⟩:=(h.ext Y).1.parts;have an:=pL ap;have aL:=od h.2.1 h.2.2.1;obtain⟨h1,aM,aO,aP⟩:=id W;rw[ay,ac bt.p rfl,ad (v:=ag) Ψ (I.Q2 rfl),dY (y:=i) (i:=i.toNat) Ω ai.u ab.i Ψ am.ls (oc Ω),aN,wrap_i64 Ω Ω,aN,wrap_i64 Ω Ω,if_pos W];refine⟨?_,Y⟩;congr 1;omega
 .intro aR aa;refine (pM h).mono ?_;rintro _ V _ ⟨rfl,X⟩;rw[bf,bD];refine⟨λI=>?_,λI=>?_⟩
  .have I:¬(0<=i/\i<n.sizes.length):=λaE=>by rw[decide_eq_true aE] at I;cases I
   exact aa _ _ ⟨by rw[decide_eq_true];exact λJ=>I ⟨J.1,J.2.1⟩,X⟩
  have I:0<=i/\i<n.sizes.length:=by simpa using I
  rw[aq,ae];refine⟨λaF=>aa _ _ ⟨by rw[decide_eq_true];exact λJ=>by have:=J.2.2.1;omega,X⟩,λaF=>?_⟩;obtain⟨af,ag,au,av,aw,ax,L,az,aG,aj,aA,am,aC,aD⟩:=(h.ext X).1.parts;rw[ay,ac bt.p rfl,ad (v:=Γ af) Ψ (aG.Q0 rfl)];refine (rT aj h.2.2.2.2).mono ?_;rintro _ aS _ ⟨aH,rfl⟩;rw[if_pos I.1,ce];refine aa _ _ ⟨?_,X.trans aH⟩;congr 1;refine decide_eq_decide.2 ⟨λh J=>?_,λh=>?_⟩
  .have:=J.2.2.2;omega
  .refine Int.not_lt.1 λan=>h ⟨I.1,I.2,Ω,an⟩
def kT (s:aF) (i v:Nat):Int:=match s.vars[i]? with
 |some x=>x.un.getD v 0
 |none=>0
theorem u3 {i v:Int} (h:b7 w al ah A R n s t):ak x3 Dh [Γ al,Δ i,Δ v] w λr w'=>r=(if ev n i v then .tuple #[Δ (kT s i.toNat v.toNat),Δ 0] else .tuple #[Δ 0,Δ 1])/\Ext w w':=by
 refine aB func52 ?_;rw[cC dQ.u];simp only[Z0,aS];refine (u2 h).mono ?_;rintro _ U _ ⟨rfl,J⟩;by_cases I:ev n i v
 .rw[if_pos I,if_pos I,aq,ae];refine⟨λh=>Ω,λ_=>?_⟩;obtain⟨x,W,X,ag,_⟩:=I.var h.2.2.2.1;obtain⟨ai,aj,am,an,ao,ap,L,au,Y,av,aa,aw,ax,az⟩:=(h.ext J).1.parts;rw[ay,ac bt.p rfl,ad (v:=Γ ah) Ψ (Y.Q1 rfl)];have ab:t.bT[eM s i.toNat+2+v.toNat]? =σ (x.un.getD v.toNat 0):=by
   rw[h.2.1,S8,n3 W Ω,show 2+v.toNat=v.toNat+1+1 by omega];show x.un[v.toNat]? =_;rw[u5,y0 X];rfl
  refine (jY (i:=eM s i.toNat+2+v.toNat) aa rfl ab).mono ?_;rintro _ V _ ⟨rfl,af⟩;refine⟨?_,J.trans af⟩;unfold kT;rw[W]
 .rw[if_neg I,if_neg I,aq,ae];exact⟨λ_=>⟨rfl,J⟩,λh=>Ω⟩
def dI (s:aF) (j:Nat):Bool:=match s.funs[j]? with
 |some f=>decide (f.live≠0)
 |none=>false
theorem lI {j:Int} (h:b7 w al ah A R n s t):ak x3 C9 [Γ al,Δ j] w λv w'=>v= .bool (decide (0<=j)&&dI s j.toNat)/\Ext w w':=by
 refine aB func18 ?_;refine aQ (λv U=>v= .bool (decide (0<=j)&&dI s j.toNat)/\Ext w U) (λ_ _ h=>h) λau I=>?_;intro V J _ _;rw[ce,ae];refine⟨λW=>?_,λW=>I _ _ ⟨by rw[decide_eq_false W];rfl,J⟩⟩;refine (oe (h.ext J)).mono ?_;rintro _ av _ ⟨rfl,ai⟩;have X:=J.trans ai;rw[aq,ae];refine⟨λaw=>?_,λax=>I _ _ ⟨?_,X⟩⟩
 .obtain⟨az,aA,aj,aC,aD,aE,L,aF,ab,aG,am,aH,af,Y⟩:=(h.ext X).1.parts;obtain⟨f,aa⟩:∃f,s.funs[j.toNat]? =σ f:=⟨_,y0 Ω⟩;obtain⟨y,ag⟩:∃y,L[j.toNat]? =σ y:=⟨_,y0 (by rw[Y.1];omega)⟩;obtain⟨_,_,an⟩:=Y.2 j.toNat y f ag aa;rw[ay,ac bt.p rfl,ad (v:=Γ ah) Ψ (ab.Q1 rfl),ay,ac bt.p rfl,ad (v:=aj) Ψ (ab.Q3 rfl),cG (i:=j.toNat) Ω dR.u cE.i af (by rw[Y.1];omega),ac cE.p rfl,ad (v:=Δ (y.at_:Int)) Ψ (af.range ag 2 _ rfl)];have ao:t.bT[eb s j.toNat+0]? =σ f.live:=by rw[h.2.1,uD aa Ω];rfl
  refine (jY (i:=eb s j.toNat) am (by rw[an]) ao).mono ?_;rintro _ aI _ ⟨rfl,ap⟩;rw[bG];refine I _ _ ⟨?_,X.trans ap⟩;rw[decide_eq_true W,V6];unfold dI;rw[aa]
 .unfold dI;rw[Y4 Ω,Bool.and_false]
end
def By (s:aF) (n:aV) (i:Int) (b m:Nat):Prop:=lu b m/\(¬(0<=i/\i<n.sizes.length)->b=0/\m=0)/\ ∀x,0<=i->s.vars[i.toNat]? =σ x->m=x.un.length/\ ∀j:Nat,b.testBit j=(decide (j<x.un.length)&& !dropped x.mask (j:Int))
section
variable {w:x2} {al ah:Nat} {A R:aj} {n:aV} {s:aF} {t:aD}
theorem og {i:Int} (h:b7 w al ah A R n s t):ak x3 C6 [Γ al,Δ i] w λv w'=>(∃b m,v=ia b m/\By s n i b m)/\Ext w w':=by
 have bQ:=h.2.2.2.1.vars;refine aB func14 ?_;refine bp b5.i λJ U bR aO aw=>?_;have aw:af U J b5 [.int .u64 0,Δ 0]:=aw;refine (pM (h.ext aO)).mono ?_;rintro _ V _ ⟨rfl,aP⟩;have ax:=aw.ext aP;have az:=aO.trans aP;rw[bf,bD];refine⟨λW=>?_,λW=>?_⟩
 .have W:¬(0<=i/\i<n.sizes.length):=λbe=>by rw[decide_eq_true be] at W;cases W
  rw[cW (cs:=#[.int .u64 0,Δ 0]) Ψ];refine bH (vs:=[.int .u64 0,Δ 0]) b5.i rfl rfl (by intro u hu;simp at hu;rcases hu with rfl|rfl<;>rfl) ax λbS bg bU bh=>?_;rw[eO b5.p b5.i rfl bh.range];refine⟨⟨0,0,rfl,⟨Ω,Ξ⟩,λ_=>⟨rfl,rfl⟩,λx aQ bi=>?_⟩,az.then bg λr aA he=>by have he:r=J:=he;omega⟩;have:=(x4.1 bi).1;exact absurd ⟨aQ,Ω⟩ W
 have W:0<=i/\i<n.sizes.length:=by simpa using W
 obtain⟨x,ag⟩:∃x,s.vars[i.toNat]? =σ x:=⟨_,y0 Ω⟩;obtain⟨z,aC⟩:∃z,n.sizes[i.toNat]? =σ z:=⟨_,y0 Ω⟩;have bj:=h.2.2.2.1.eu.2.2 z (x5 aC);obtain⟨bV,_,bW,bX⟩:=h.2.2.2.1.var i.toNat x z ag aC;obtain⟨aR,aS,bl,bm,bo,bq,L,br,aj,aT,_⟩:=(h.ext az).1.parts;rw[ay,ac bt.p rfl,ad (v:=Γ aR) Ψ (aj.Q0 rfl)];refine (rT aT h.2.2.2.2).mono ?_;rintro _ bY _ ⟨aD,rfl⟩;rw[if_pos W.1,u5,aC,T4];refine GD.mono ?_;rintro _ bZ _ ⟨aE,rfl⟩;rw[if_pos bj];obtain⟨m,rfl⟩:∃m:Nat,z=m:=⟨z.toNat,Ω⟩;rw[aK (v:=ia (2 ^ (m:Int).toNat-1) (m:Int).toNat) rfl,aK (v:=Δ 0) rfl,j0];have aU:=(az.trans aD).trans aE;refine bp b5.i λI b0 b1 aV bu=>?_;refine bH (vs:=[.int .u64 ((2 ^ m-1:Nat):Int),Δ (m:Int)]) b5.i rfl rfl (by intro u hu;simp at hu;rcases hu with rfl|rfl<;>rfl) bu λaW aX b2 bw=>?_;have z5:=aU.size;have aY:Ext w aW:=(aU.trans aV).then aX λr aA he=>by have he:r=I:=he;omega
 have b3:=(((ax.ext aD).ext aE)).lt;have bx:af aW J b5 [.int .u64 0,Δ 0]:=(((ax.ext aD).ext aE).ext aV).aa aX λhe=>by have he:J=I:=he;omega
 intro b4 aF _ _;have aZ:=aY.trans aF;obtain⟨aR,aS,bl,bm,bo,bq,L,br,aj,aT,bz,bA,_⟩:=(h.ext aZ).1.parts;have b6:=pL ag;have b8:=od h.2.1 h.2.2.1;rw[ay,ac bt.p rfl,ad (v:=Γ ah) Ψ (aj.Q1 rfl),ay,ac bt.p rfl,ad (v:=aS) Ψ (aj.Q2 rfl),dY (y:=i) (i:=i.toNat) Ω ai.u ab.i Ψ bA.ls (oc Ω),aN,wrap_i64 Ω Ω];have bB:t.bT[eM s i.toNat+1]? =σ x.mask:=by rw[h.2.1,n3 ag Ω];rfl
 refine (jY (i:=eM s i.toNat+1) bz Ω bB).mono ?_;rintro _ bC _ ⟨rfl,aG⟩;have a1:=(bw.ext aF).ext aG;have bE:=(bx.ext aF).ext aG;obtain⟨mk,a2⟩:∃mk:Nat,x.mask=mk:=⟨x.mask.toNat,Ω⟩;rw[bn b5.p b5.i rfl (show bC.rangeAt I 0 [.int .u64 ((2 ^ m-1:Nat):Int),Δ (m:Int)] from a1.range)];refine (yC (b:=2 ^ m-1) (n:=m)).mono ?_;rintro _ b9 _ ⟨rfl,aH⟩;have bF:=aZ.trans aG;have bG:J≠I:=Ω
 have ca:=aY.size;have cb:w.heap.size<=I:=Ω
 have cc:w.heap.size<=J:=Ω
 refine bP.range m (λq X=>Ext w X/\af X J b5 [.int .u64 0,Δ 0]/\ ∃b:Nat,af X I b5 [.int .u64 (b:Int),Δ (m:Int)]/\lu b m/\ ∀j:Nat,b.testBit j=(decide (j<m)&& !(decide (j<q)&&mk.testBit j))) Ω
  ⟨bF.trans aH,bE.ext aH,_,a1.ext aH,⟨Ω,by have:=Nat.two_pow_pos m;omega⟩,λj=>by rw[yA];simp⟩ ?_ ?_
 .rintro q X bI cd ⟨am,an,b,Y,ao,ap⟩ bJ;refine Υ λ_=>?_;refine di (λau=>Ext w au/\af au J b5 [.int .u64 0,Δ 0]/\ ∃b:Nat,af au I b5 [.int .u64 (b:Int),Δ (m:Int)]/\lu b m/\ ∀j:Nat,b.testBit j=(decide (j<m)&& !(decide (j<q+1)&&mk.testBit j))) ?_ ?_
  .rintro au bK;rw[aN];exact bJ _ bK
  intro ce a6;have bL:mk / 2 ^ q<2 ^ 62:=Nat.lt_of_le_of_lt (Nat.div_le_self _ _) Ω;rw[a2,zD Ω,show (1:Int)=((1:Nat):Int) from rfl,K1 bL Ω,bk,ae];have a7:(((mk / 2 ^ q &&& 1:Nat):Int)=((1:Nat):Int))↔mk.testBit q=true:=by rw[<-Bv];omega
  refine⟨λaI=>?_,λaJ=>?_⟩
  .have aI:=a7.1 aI;rw[bn b5.p b5.i rfl (show X.rangeAt I 0 [.int .u64 (b:Int),Δ (m:Int)] from Y.range)];refine (GG (v:=(q:Int)) ao).mono ?_;rintro _ cg _ ⟨rfl,aL⟩;rw[if_pos ⟨Ω,Ω⟩,j0];refine bH (vs:=[.int .u64 ((iA b (2 ^ q):Nat):Int),Δ (m:Int)]) b5.i rfl rfl (by intro u hu;simp at hu;rcases hu with rfl|rfl<;>rfl) (Y.ext aL) λch a8 ci bM=>?_;have ba:∀j:Nat,(iA b (2 ^ q)).testBit j=(decide (j<m)&& !(decide (j<q+1)&&mk.testBit j)):=λj=>by
    rw[ys,ap,Nat.testBit_two_pow];by_cases bb:j<m
    .by_cases av:j=q
     .subst av;simp[aI]
     .have aM:decide (j<q+1)=decide (j<q):=decide_eq_decide.2 ⟨λh=>Ω,λh=>Ω⟩;rw[aM,decide_eq_true bb,decide_eq_true (show j<64 by omega),decide_eq_false (show ¬q=j from λh=>av h.symm)];simp
    .simp[bb]
   refine a6 _ ⟨(am.trans aL).then a8 λr aA he=>by have he:r=I:=he;omega,(an.ext aL).aa a8 λhe=>bG he,_,bM,⟨Ω,Gv λj bc=>by rw[ba,decide_eq_false Ω];rfl⟩,ba⟩
  .have aJ:mk.testBit q=false:=by simpa using λh=>aJ (a7.2 h)
   refine a6 _ ⟨am,an,b,Y,ao,λj=>?_⟩;rw[ap];by_cases av:j=q
   .subst av;simp[aJ]
   .have aM:decide (j<q+1)=decide (j<q):=decide_eq_decide.2 ⟨λh=>Ω,λh=>Ω⟩;rw[aM]
 .rintro X bI ⟨am,an,b,Y,ao,ap⟩;rw[aq,ae];refine⟨λh=>Ω,λ_=>?_⟩;rw[bn b5.p b5.i rfl (show X.rangeAt I 0 [.int .u64 (b:Int),Δ (m:Int)] from Y.range)];refine bH (vs:=[.int .u64 (b:Int),Δ (m:Int)]) b5.i rfl rfl (by intro u hu;simp at hu;rcases hu with rfl|rfl<;>rfl) an λcj bN ck bO=>?_;rw[eO b5.p b5.i rfl bO.range];refine⟨⟨b,m,rfl,ao,λh=>absurd W h,λy aQ bd=>?_⟩,am.then bN λr aA he=>by have he:r=J:=he;omega⟩;rw[ag] at bd;cases bd;refine⟨Ω,λj=>?_⟩;rw[ap,a2,K3,show x.un.length=m by omega];by_cases bc:j<m<;>simp[bc]
theorem pO {f:et} (U:eB k sizes s) (W:f∈s.funs):bS f.szs/\f.cs.length=(aM f.szs).toNat/\aM f.szs<=4096:=by
 obtain⟨J,I,_⟩:=U.funs f W;rw[I];refine⟨⟨?_,lA U.eu.2.2 λv V=>⟨(J.scope.1 v V).1,J.vars v V⟩⟩,J.len,J.small⟩;have:=J.scope.2;simp[bF];exact this
def ec (s:aF) (j:Nat) (I:Λ):Option Nat:=match s.funs[j]? with
 |some f=>if f.live≠0 then (ct f.szs I 0).map λm=>eb s j+1+m.toNat else ν
 |none=>ν
def hW (s:aF) (j:Nat) (I:Λ):Int:=match s.funs[j]? with
 |some f=>cM f.szs f.cs I
 |none=>0
theorem Bz {aa:Λ} (h:b7 w al ah A R n s t) (aq:aJ .i64 w aE aa):ak x3 w6 [Γ al,Δ (j:Int),aE] w λv w'=>v=Δ (match ec s j aa with|some p=>(p:Int)|none=>-1)/\Ext w w':=by
 refine aB func137 ?_;refine (lI h).mono ?_;rintro _ U _ ⟨rfl,ab⟩;rw[decide_eq_true Ω,V6,j0,bf,bD];refine⟨λI=>⟨?_,ab⟩,λI=>?_⟩
 .have I:dI s j=false:=by simpa using I
  have:ec s j aa=ν:=by
   unfold ec;unfold dI at I;cases J:s.funs[j]? with
   |none=>rfl
   |some f=>
    rw[J] at I;have I:f.live=0:=by simpa using I
    simp[I]
  rw[this]
 have I:dI s j=true:=by simpa using I
 obtain⟨f,J,au⟩:∃f,s.funs[j]? =σ f/\f.live≠0:=by
  unfold dI at I;cases J:s.funs[j]? with
  |none=>rw[J] at I;cases I
  |some f=>rw[J] at I;exact⟨f,rfl,by simpa using I⟩
 obtain⟨an,aM,aO⟩:=pO h.2.2.2.1 (x5 J);obtain⟨aw,ax,af,az,aA,ao,L,aC,ag,aD,aF,aG,X,Y⟩:=(h.ext ab).1.parts;obtain⟨y,W⟩:∃y,L[j]? =σ y:=⟨_,y0 (by rw[Y.1];exact (x4.1 J).1)⟩;have ai:=(x4.1 W).1;obtain⟨_,aH,ap⟩:=Y.2 j y f W J;have aI:U.rangeAt ao (j*3+1) [y.av]:=λq v aj=>by
  match q,aj with
  |0,aj=>cases aj;exact X.range W 1 _ rfl
 rw[ay,ac bt.p rfl,ad (v:=af) Ψ (ag.Q3 rfl),cG rfl dR.u cE.i X ai,ac cE.p rfl,bn (cs:=[y.av]) bq.p bq.i rfl aI];refine (xM aH.ls (aq.ext ab) an).mono ?_;rintro _ V _ ⟨rfl,aL⟩;have am:=ab.trans aL;unfold jN ec;rw[J];simp only[if_pos au];cases hi:ct f.szs aa 0 with
 |none=>
  simp only[Option.map_none];rw[aK (v:=Δ 0) rfl,aK (v:=Δ 3) rfl,bG,ae];exact⟨λ_=>⟨trivial,am⟩,λh=>absurd (show (3:Int)≠0 by decide) h⟩
 |some m=>
  simp only[Y0];rw[aK (v:=Δ m) rfl,aK (v:=Δ 0) rfl,bG,ae];refine⟨λh=>absurd rfl h,λ_=>?_⟩;have aP:=mj an.2 hi;have aQ:=u0 J;have aR:=od h.2.1 h.2.2.1;obtain⟨aw,ax,af,az,aA,ao,L,aC,ag,aD,aF,aG,X,Y⟩:=(h.ext am).1.parts;obtain⟨y,W⟩:∃y,L[j]? =σ y:=⟨_,y0 (by rw[Y.1];exact (x4.1 J).1)⟩;have ai:=(x4.1 W).1;obtain⟨_,_,ap⟩:=Y.2 j y f W J;rw[ay,ac bt.p rfl,ad (v:=af) Ψ (ag.Q3 rfl),cG rfl dR.u cE.i X ai,ac cE.p rfl,ad (v:=Δ (y.at_:Int)) Ψ (X.range W 2 _ rfl),ap,aN,wrap_i64 Ω Ω,aN,wrap_i64 Ω Ω];refine⟨?_,am⟩;congr 1;omega
theorem pP {J:Λ} {p:Nat} (U:eB k sizes s) (h:ec s j J=σ p):s.cells[p]? =σ (hW s j J)/\ ∃f,s.funs[j]? =σ f/\f.live≠0/\ ∃m:Nat,ct f.szs J 0=σ (m:Int)/\m<f.cs.length/\p=eb s j+(m+1):=by
 unfold ec at h;cases I:s.funs[j]? with
 |none=>rw[I] at h;cases h
 |some f=>
  rw[I] at h;simp only at h;split at h
  .rename_i V;obtain⟨m,hm,rfl⟩:=X0.1 h;obtain⟨W,X,Y⟩:=pO U (x5 I);have aa:=mj W.2 hm;obtain⟨q,rfl⟩:∃q:Nat,m=q:=⟨m.toNat,Ω⟩;refine⟨?_,f,rfl,V,q,hm,Ω,Ω⟩;rw[show eb s j+1+(q:Int).toNat=eb s j+(q+1) by omega,uD I Ω];unfold hW cM;rw[I];simp only[hm];show f.cs[q]? =_;rw[j0,u5,y0 Ω];rfl
  .cases h
theorem u6 {I:Λ} (h:b7 w al ah A R n s t) (W:aJ .i64 w aE I):ak x3 Di [Γ al,Δ (j:Int),aE] w λv w'=>v=(if (ec s j I).isSome then .tuple #[Δ (hW s j I),Δ 0] else .tuple #[Δ 0,Δ 1])/\Ext w w':=by
 refine aB func53 ?_;rw[cC dQ.u];simp only[Z0,aS];refine (Bz h W).mono ?_;rintro _ U _ ⟨rfl,J⟩;cases X:ec s j I with
 |none=>
  simp only;rw[aq,ae];exact⟨λ_=>⟨rfl,J⟩,λh=>Ω⟩
 |some p=>
  simp only;rw[aq,ae];refine⟨λh=>Ω,λ_=>?_⟩;obtain⟨af,ag,ai,aj,am,an,L,ao,Y,ap,aa,au,av,aw⟩:=(h.ext J).1.parts;rw[ay,ac bt.p rfl,ad (v:=Γ ah) Ψ (Y.Q1 rfl)];refine (jY (i:=p) aa rfl (by rw[h.2.1];exact (pP h.2.2.2.1 X).1)).mono ?_;rintro _ V _ ⟨rfl,ab⟩;exact⟨rfl,J.trans ab⟩
end
theorem dT.parts {I:Nat} {J U Y:x1} {A R:aj} {n:aV} {s:aF} {t:aD} (h:dT w al ah I J U Y A R n s t):∃V W L X,af w al bt [Γ I,Γ ah,J,U,Y]/\e8 w I n/\cI w ah X t/\au .i64 ab w V J (gF s)/\a6 jn 3 cE w W U L/\iK R w L s:=by
 obtain⟨_,V,W,ge,L,E,X,w0,aa,⟨ac,ad,am⟩,⟨ae,an,ao,ap⟩,ag,⟨ai,ak⟩,aq,av⟩:=h;exact⟨V,W,L,X,aa,ac.ext ad,ae,ag,ai,ak⟩
theorem BA {a b:Int} (I:0<=a/\a<=k) (J:0<=b/\b<=k) (V:1<=k/\k<=2147483648):ak x3 sW [Δ a,Δ b,Δ k] w λv w'=>v= .tuple #[Δ (min (a+b) k),Δ 0]/\Ext w w':=by
 refine y9.mono ?_;rintro _ U _ ⟨rfl,W⟩;refine⟨?_,W⟩;unfold pa;rw[if_pos ⟨⟨V,I.1,I.2⟩,V,J.1,J.2⟩]
theorem K4 {s:aF} {I:Λ} {p:Nat} (J:eB k sizes s) (h:ec s j I=σ p):0<=hW s j I/\hW s j I<=k:=by
 obtain⟨_,f,U,_,m,hm,V,_⟩:=pP J h;obtain⟨W,_,_⟩:=J.funs f (x5 U);unfold hW cM;rw[U];simp only[hm];rw[j0,u5,y0 V,T4];exact W.ie _ (T6 V)
theorem BB {A R:aj} {n:aV} {s:aF} {t:aD} {df:x1} (h:b7 w al ah A R n s t) (aG:aJ .i64 w df a):ak x3 C8 [Γ al,df] w λv w'=>((pD s a->v= .tuple #[Δ (n4 n.k s a),Δ 0])/\(¬pD s a->v= .tuple #[Δ 0,Δ 3]))/\Ext w w':=by
 have an:=h.2.2.2.1;have dg:=an.vars;have bA:=an.jZ;refine aB func16 ?_;rw[cC dQ.u];simp only[Z0,aS];rw[aT ai.u aG];refine (r0 h).mono ?_;rintro _ U _ ⟨rfl,a8⟩;rw[bG,ae];refine⟨λdh=>⟨⟨λaA=>absurd aA.1 Ω,λ_=>by trivial⟩,a8⟩,λdi=>?_⟩;have ca:a.length=s.vars.length:=Ω
 refine (u1 (h.ext a8)).mono ?_;rintro _ V _ ⟨rfl,cb⟩;have bB:=a8.trans cb;rw[aT ai.u (aG.ext bB)];obtain⟨X,aR⟩:∃X,X=s.vars.zip a:=⟨_,rfl⟩;have dj:X.length=a.length:=by rw[aR,List.length_zip];omega
 refine m8.range a.length (λi t4 t5 af aU ao=>Ext w ao/\ ∃I:Int,af=Δ I/\I=(X.take i).foldl (mI n.k) s.zero/\(0<=I/\I<=n.k)/\aU= .bool ((X.take i).all iJ)/\ ∀p<i,∀x v,s.vars[p]? =σ x->a[p]? =σ v->x.gone≠0\/(0<=v/\v<x.un.length)) aG.le
  ⟨bB,s.zero,rfl,rfl,an.zero,rfl,λp ag=>Ω⟩ ?_ ?_
 .rintro i t4 t5 _ _ ao cc hi ⟨Y,I,rfl,aW,aX,rfl,ba⟩ cd;obtain⟨x,ap⟩:∃x,s.vars[i]? =σ x:=⟨_,y0 Ω⟩;obtain⟨v,av⟩:∃v,a[i]? =σ v:=⟨_,y0 hi⟩;obtain⟨z,bb⟩:∃z,n.sizes[i]? =σ z:=⟨_,y0 Ω⟩;have dk:=an.eu.2.2 z (x5 bb);obtain⟨dl,ce,_⟩:=an.var i x z ap bb;have cg:X[i]? =σ (x,v):=by rw[aR,List.getElem?_zip_eq_some];exact⟨ap,av⟩
  have bC:X.take (i+1)=X.take i++[(x,v)]:=by rw[r8,cg];rfl
  have aH:(X.take (i+1)).foldl (mI n.k) s.zero=mI n.k I (x,v):=by rw[bC,List.foldl_append,<-aW];rfl
  have bc:(X.take (i+1)).all iJ=((X.take i).all iJ&&iJ (x,v)):=by rw[bC,List.all_append];simp
  have bF:(x.gone≠0\/(0<=v/\v<x.un.length))-> ∀p<i+1,∀x v,s.vars[p]? =σ x->a[p]? =σ v->x.gone≠0\/(0<=v/\v<x.un.length):=λaI p ag y u aC hu=>by
   by_cases ch:p=i
   .subst ch;rw[ap] at aC;rw[av] at hu;cases aC;cases hu;exact aI
   .exact ba p Ω y u aC hu
  refine Υ λ_=>?_;refine tu (λt4 t5 af aU ao=>Ext w ao/\ ∃I:Int,af=Δ I/\I=(X.take (i+1)).foldl (mI n.k) s.zero/\(0<=I/\I<=n.k)/\aU= .bool ((X.take (i+1)).all iJ)/\ ∀p<i+1,∀x v,s.vars[p]? =σ x->a[p]? =σ v->x.gone≠0\/(0<=v/\v<x.un.length)) ?_ ?_
  .rintro t4 t5 af aU dm be;rw[aN];exact cd _ _ _ _ _ be
  intro bI aL;rw[bd ai.u ab.i Ψ (aG.ext Y) av];refine (pN (i:=(i:Int)) (h.ext Y)).mono ?_;rintro _ dn _ ⟨rfl,bJ⟩;have ci:fd s i=decide (x.gone≠0):=by unfold fd;rw[ap]
  rw[decide_eq_true Ω,V6,j0,ci,ae];refine⟨λbg=>aL _ _ _ _ _ ⟨Y.trans bJ,I,rfl,?_,aX,?_,bF (.inl bg)⟩,λbh=>?_⟩
  .rw[aH];unfold mI;rw[if_pos bg]
  .rw[bc];unfold iJ;rw[decide_eq_true bg,Bool.true_or,Bool.and_true]
  have bK:=Y.trans bJ;refine (u3 (i:=(i:Int)) (v:=v) (h.ext bK)).mono ?_;rintro _ dp _ ⟨rfl,cj⟩;have aY:=bK.trans cj;have bL:n.sizes.getD (i:Int).toNat 0=z:=by rw[j0,u5,bb];rfl
  by_cases aZ:ev n (i:Int) v
  .have bM:=id aZ;unfold ev at bM;rw[bL] at bM;rw[if_pos aZ,aK (v:=Δ (kT s (i:Int).toNat v.toNat)) rfl,aK (v:=Δ 0) rfl,bG,ae];refine⟨λh=>absurd rfl h,λ_=>?_⟩;have ck:kT s (i:Int).toNat v.toNat=x.un.getD v.toNat 0:=by unfold kT;rw[j0,ap]
   have cl:0<=x.un.getD v.toNat 0/\x.un.getD v.toNat 0<=n.k:=by
    rw[u5,y0 (show v.toNat<x.un.length by omega),T4];exact ce _ (T6 _)
   rw[ck];refine aQ (λcm bN=>Ext w bN/\cm= .bool ((X.take (i+1)).all iJ)) ?_ ?_
   .rintro _ bN ⟨bO,rfl⟩;refine (mO (h.ext bO)).mono ?_;rintro _ dq _ ⟨rfl,cn⟩;refine (BA aX cl bA).mono ?_;rintro _ dr _ ⟨rfl,cp⟩;rw[aK (v:=Δ (min (I+x.un.getD v.toNat 0) n.k)) rfl,aK (v:=Δ 0) rfl];refine aL _ _ _ _ _ ⟨(bO.trans cn).trans cp,_,rfl,?_,⟨Ω,Ω⟩,rfl,bF (.inr ⟨Ω,Ω⟩)⟩;rw[aH];unfold mI;rw[if_neg bh]
   .intro ds bQ;rw[bD];have cq:iJ (x,v)= !dropped x.mask v:=by unfold iJ;rw[decide_eq_false bh,Bool.false_or]
    refine⟨λcr=>?_,λam=>bQ _ _ ⟨aY,by rw[bc,am];rfl⟩⟩;refine (og (i:=(i:Int)) (h.ext aY)).mono ?_;rintro _ dt _ ⟨⟨b,m,rfl,ct,_,cu⟩,cw⟩;refine (Bw ct).mono ?_;rintro _ du _ ⟨rfl,cz⟩;refine bQ _ _ ⟨(aY.trans cw).trans cz,?_⟩;obtain⟨hm,cA⟩:=cu x Ω (by rw[j0];exact ap);rw[bc,cr,cq,V6,decide_eq_true (show 0<=v/\v<(m:Int) by omega),V6,cA,decide_eq_true Ω,V6];congr 2
  .rw[if_neg aZ,aK (v:=Δ 0) rfl,aK (v:=Δ 1) rfl,bG,ae];refine⟨λ_=>⟨⟨λaA=>?_,λ_=>by trivial⟩,aY⟩,λh=>absurd (show (1:Int)≠0 by decide) h⟩;rcases aA.2 i x v ap av with bi|bi
   .exact absurd bi bh
   .exact absurd ⟨Ω,Ω,bi.1,by rw[bL];omega⟩ aZ
 rintro t4 t5 _ _ ao cc ⟨Y,I,rfl,aW,aX,rfl,ba⟩;have aA:pD s a:=⟨ca,λi x v bj av=>ba i (x4.1 av).1 x v bj av⟩;rw[l5 Ω] at aW;rw[l5 Ω,aq,ae];refine⟨λh=>Ω,λ_=>?_⟩;rw[bf,bD];refine⟨λaw=>?_,λaw=>?_⟩
 .have aw:X.all iJ=false:=by simpa using aw
  refine (mO (h.ext Y)).mono ?_;rintro _ dv _ ⟨rfl,cB⟩;refine⟨⟨λ_=>?_,λbk=>absurd aA bk⟩,Y.trans cB⟩;unfold n4;rw[<-aR,aw];rfl
 have aw:X.all iJ=true:=by simpa using aw
 have cD:n4 n.k s a=s.funs.foldl (kQ n.k a) I:=by
  unfold n4;rw[<-aR,aw,if_pos rfl,<-aW]
 obtain⟨⟨dw,dx,cF,dy,cH⟩,dz⟩:=id h;have bl:∀ {w':x2},Ext w w'->b7 w' al ah A R n s t:=λbj=>h.ext bj;obtain⟨dA,dC,L,dD,cI,dE,dF,dG,bm,bR⟩:=(cH.ext Y).parts;rw[ay,ac bt.p rfl,ad (v:=cF) Ψ (cI.Q3 rfl),c9 dR.u bm];have dH:=bR.1;refine bE.range L.length (λj af aM=>Ext ao aM/\ ∃W:Int,af=Δ W/\W=(s.funs.take j).foldl (kQ n.k a) I/\0<=W/\W<=n.k) bm.le
  ⟨Ext.refl _,I,rfl,rfl,aX⟩ ?_ ?_
 rotate_left
 .rintro _ aM cJ ⟨ax,W,rfl,a1,_⟩;rw[l5 Ω] at a1;rw[aq,ae];refine⟨λh=>Ω,λ_=>⟨⟨λ_=>by rw[cD,a1],λbk=>absurd aA bk⟩,Y.trans ax⟩⟩
 rintro j _ aM cJ bS ⟨ax,W,rfl,a1,bT⟩ cK;obtain⟨y,aC⟩:∃y,L[j]? =σ y:=⟨_,y0 bS⟩;obtain⟨f,am⟩:∃f,s.funs[j]? =σ f:=⟨_,y0 Ω⟩;have cL:iK R aM L s:=bR.aa (ax.aa λ_=>False) λ_ _ _ h=>h;obtain⟨a2,bo,dJ⟩:=cL.2 j y f aC am;have a2:=a2.ls;have bo:=bo.ls;obtain⟨bq,dK,dL⟩:=an.funs f (x5 am);have dM:f.sc.length<=6:=bq.scope.2;have aH:(s.funs.take (j+1)).foldl (kQ n.k a) I=kQ n.k a W f:=by
  rw[r8,am,Z4,List.foldl_append,<-a1];rfl
 have cN:=Y.trans ax;have bV:=bm.ext ax;refine Υ λ_=>?_;refine aQ (λaf bW=>Ext ao bW/\ ∃W:Int,af=Δ W/\W=(s.funs.take (j+1)).foldl (kQ n.k a) I/\0<=W/\W<=n.k) ?_ ?_
 .rintro af bW be;rw[aN];exact cK _ _ be
 intro bI aL;rw[cG rfl dR.u cE.i bV bS,bn cE.p cE.i rfl (bV.range aC)];refine bp cE.i λcO dN dO cP cQ=>?_;refine bH (vs:=jn y) cE.i rfl rfl (λu hu=>?_) cQ λcR cS dP cT=>?_
 .simp[jn] at hu;rcases hu with rfl|rfl|rfl
  .exact a2.cells.2
  .exact bo.cells.2
  .rfl
 have bX:Ext aM cR:=cP.then cS λr cU he=>by have he:r=cO:=he;omega
 have bY:=cN.trans bX;refine (lI (j:=(j:Int)) (bl bY)).mono ?_;rintro _ cV _ ⟨rfl,br⟩;have bZ:=bY.trans br;have bu:=bX.trans br;have cW:dI s j=decide (f.live≠0):=by unfold dI;rw[am]
 rw[decide_eq_true Ω,V6,j0,cW,ae];refine⟨λb0=>?_,λcX=>aL _ _ ⟨ax.trans bu,W,rfl,by rw[aH];unfold kQ;rw[if_neg cX],bT⟩⟩;have b1:=cT.ext br;have bw:=a2.ext bu;rw[ac cE.p rfl,ad (v:=y.az) Ψ (b1.Q0 rfl),aT ai.u bw];refine i9 (k:=.i64) ai.u ab.i Ω Ω λaO cY dS bx cZ=>?_;have c0:au .i64 ab cY aO (.slice (σ ⟨aO,0,ν⟩) f.sc.length f.sc.length) (o7 f.sc.length 0):=au.of (bU.full (k:=1) (n:=f.sc.length) cZ Ξ (by simp[maxLen];omega));rw[ac cE.p rfl,ad (v:=y.az) Ψ ((b1.ext bx).Q0 rfl),aT ai.u (bw.ext bx)];have dT:(kP a f.sc).length=f.sc.length:=by unfold kP;rw[u4]
 refine bP.range f.sc.length (λq a6=>Ext cV a6/\au .i64 ab a6 aO (.slice (σ ⟨aO,0,ν⟩) f.sc.length f.sc.length) ((kP a f.sc).take q++(o7 f.sc.length (0:Int)).drop q)) Ω
  ⟨bx,by simpa using c0⟩ ?_ ?_
 .rintro q a6 c1 b2 ⟨aE,aP⟩ c2;obtain⟨u,hu⟩:∃u,f.sc[q]? =σ u:=⟨_,y0 b2⟩;have dU:=bq.vars u (x5 hu);have dV:=bq.scope.1 u (x5 hu);have c3:a[u.toNat]? =σ (a.getD u.toNat 0):=by rw[u5,y0 Ω];rfl
  have c4:(kP a f.sc)[q]? =σ (a.getD u.toNat 0):=by unfold kP;rw[x8,hu];rfl
  refine Υ λ_=>?_;rw[bd ai.u ab.i Ψ (bw.ext aE) hu,dY (y:=u) (i:=u.toNat) Ω ai.u ab.i Ψ (aG.ext (bZ.trans aE)) c3,gx rfl ai.u ab.i aP (by rw[u9,o4,R5,List.length_replicate];omega)];refine gy ab.i aP (by rw[u9,o4,R5,List.length_replicate];omega) λdW c5 dX b3=>?_;rw[aN];refine c2 _ ⟨aE.then c5 λr cU he=>by have he:r=aO:=he;omega,?_⟩;rw[rZ (by rw[List.length_replicate];exact b2) c4] at b3;exact b3
 rintro a6 c1 ⟨aE,aP⟩;rw[List.drop_of_length_le Ξ,X6,l5 Ω] at aP;rw[aq,ae];refine⟨λh=>Ω,λ_=>?_⟩;have b4:=bZ.trans aE;refine (u6 (j:=j) (bl b4) aP.ls).mono ?_;rintro _ bz _ ⟨rfl,b5⟩;have c6:kQ n.k a W f=min (W+hW s j (kP a f.sc)) n.k:=by
  unfold kQ hW;rw[if_pos b0,am]
 have b6:∀c e:Int,(0<=c/\c<=n.k)->c=hW s j (kP a f.sc)->(J x3 (Z9 (.tuple #[Δ c,Δ e]) 0) bz λc7=>
   J x3 (Z9 (.tuple #[Δ c,Δ e]) 1) bz λdZ=>
   ak x3 wT [Γ al] bz λc8 b8=>
   ak x3 sW [Δ W,c7,c8] b8 λb9 a7=>
   J x3 (Z9 b9 0) a7 λda=>
   J x3 (Z9 b9 1) a7 λea=>
   bI da a7):=λc e db dc=>by
  rw[aK (v:=Δ c) rfl,aK (v:=Δ e) rfl];refine (mO (bl (b4.trans b5))).mono ?_;rintro _ b8 _ ⟨rfl,dd⟩;refine (BA bT db bA).mono ?_;rintro _ a7 _ ⟨rfl,de⟩;rw[aK (v:=Δ (min (W+c) n.k)) rfl,aK (v:=Δ 0) rfl];refine aL _ _ ⟨((((ax.trans bu).trans aE).trans b5).trans dd).trans de,_,rfl,by rw[aH,c6,dc],Ω,Ω⟩
 cases ag:ec s j (kP a f.sc) with
 |some p=>exact b6 _ _ (K4 an ag) rfl
 |none=>
  refine b6 0 1 ⟨Ω,Ω⟩ ?_;unfold ec at ag;rw[am] at ag;simp only[if_pos b0] at ag;have ag:=Option.map_eq_none_iff.1 ag;unfold hW cM;rw[am];simp only[ag]
def Room (t:aD):Prop:=t.marks=[]\/t.olds.length<100000000
def gH (s:aF) (i v:Nat):aF:=match s.vars[i]? with
 |some x=>{s with vars:=s.vars.set i {x with mask:=((x.mask.toNat ||| 2 ^ v:Nat):Int)}}
 |none=>s
def iO (s:aF) (j:Nat):aF:=match s.funs[j]? with
 |some f=>{s with funs:=s.funs.set j {f with live:=0}}
 |none=>s
theorem eB.u7 {s:aF} {i:Nat} {x y:e9} (h:eB k sizes s) (J:s.vars[i]? =σ x) (W:y.un.length=x.un.length) (X:∀c∈y.un,0<=c/\c<=k) (hm:0<=y.mask/\y.mask<4294967296):eB k sizes {s with vars:=s.vars.set i y}:=
 ⟨h.jZ,h.eu,h.zero,by show (s.vars.set i y).length=_;rw[X2];exact h.vars,λp z q I U=>by
  have I:(s.vars.set i y)[p]? =σ z:=I;rw[X7] at I;by_cases V:i=p
  .subst V;rw[if_pos rfl,if_pos (x4.1 J).1] at I;cases I;exact⟨W.trans (h.var i x q J U).1,X,hm⟩
  .rw[if_neg V] at I;exact h.var p z q I U,h.funs⟩
theorem eB.BC {s:aF} {f g:et} (h:eB k sizes s) (J:s.funs[j]? =σ f) (h1:g.sc=f.sc) (U:g.szs=f.szs) (V:g.cs.length=f.cs.length) (W:∀c∈g.cs,0<=c/\c<=k):eB k sizes {s with funs:=s.funs.set j g}:=
 ⟨h.jZ,h.eu,h.zero,h.vars,h.var,λx I=>by
  rcases V7 I with I|rfl
  .exact h.funs x I
  .obtain⟨⟨X,Y,aa,ab,ac,af⟩,ad,ae⟩:=h.funs f (x5 J);refine⟨⟨?_,?_,?_,?_,?_,W⟩,?_,?_⟩
   .show ic x.sc;rw[h1];exact X
   .show x.sc.Pairwise _;rw[h1];exact Y
   .show ∀v∈x.sc,_;rw[h1];exact aa
   .show x.cs.length=(aM (bF sizes x.sc)).toNat;rw[h1,V];exact ab
   .show aM (bF sizes x.sc)<=_;rw[h1];exact ac
   .rw[h1,U];exact ad
   .rw[h1];exact ae⟩
theorem pQ {r:Nat} (I:af w r e c) (he:¬(e=cH\/e=dE\/e=fg\/e=dr\/e=bt\/e=cE\/e=bM)):¬dg w r:=by
 rintro (⟨W,X,J,U⟩|V)
 .rw[dP I J] at he;exact he U
 .exact V _ I rfl
section
variable {w:x2} {al ah:Nat} {A R:aj} {n:aV} {s:aF} {t:aD}
theorem iI.set (h:iI t) (I:Room t) (p:Nat) (x:Int):iI (t.set p x):=by
 refine⟨by rw[aD.AX];exact h.1,?_,by rw[aD.uI];exact h.2.2⟩;rcases I with I|I
 .rw[aD.uK I];exact h.2.1
 .have:=aD.uJ t p x;omega
theorem r1 {s':aF} {p:Nat} {x:Int} (h:b7 w al ah A R n s t) (ab:y=(p:Int)) (J:p<s.cells.length) (ac:s.cells.set p x=s'.cells) (I:iL s s') (ad:eB n.k n.sizes s') (ae:Room t):
  ak x3 wU [Γ ah,Δ y,Δ x] w λr w'=>r=Δ 0/\ag (dg w) w w'/\ ∃V,Grow A w V w'/\b7 w' al ah V R n s' (t.set p x):=by
 obtain⟨af,Y,aa,_,ai⟩:=id h;obtain⟨aj,am,an⟩:=af.pE;have ao:p<t.cells.length:=by rw[<-Y] at J;unfold aD.bT at J;rw[u4] at J;exact J
 refine (pB am.min ab ao aa).mono ?_;rintro _ U _ ⟨rfl,ap,W,aq⟩;obtain⟨V,au,av⟩:=an (λr=>aj r\/ap r) U _ ⟨W.1.mono λr _ h=>h.1,λr X=>X.elim .inl λh=>(W.2.1 r h).imp (λh=>h.1) id,λr X=>.inl X⟩ (aq.mono λr h=>.inr h);exact⟨rfl,W.1.mono λr _ h=>.inl h.2,V,au,av.same I,by rw[aD.nx,Y,ac],aa.set ae p x,ad,ai⟩
theorem va {i v:Int} (h:b7 w al ah A R n s t) (ap:Room t):ak x3 qz [Γ al,Δ i,Δ v] w λr w'=>(¬ev n i v->r=Δ 1/\Ext w w')/\
  (ev n i v->r=Δ 0/\ag (dg w) w w'/\ ∃W x,Grow A w W w'/\b7 w' al ah W R n (gH s i.toNat v.toNat) (t.set (eM s i.toNat+1) x)):=by
 refine aB func13 ?_;rw[cC dQ.u];simp only[Z0,aS];refine (u2 h).mono ?_;rintro _ U _ ⟨rfl,X⟩;by_cases J:ev n i v
 rotate_left
 .rw[if_neg J,aq,ae];exact⟨λ_=>⟨λ_=>⟨by trivial,X⟩,λh=>absurd h J⟩,λh=>Ω⟩
 rw[if_pos J,aq,ae];refine⟨λh=>Ω,λ_=>?_⟩;obtain⟨x,I,au,aJ,aK⟩:=J.var h.2.2.2.1;obtain⟨h1,aL,aM,aO⟩:=id J;have aP:=h.2.2.2.1.vars;obtain⟨z,av⟩:∃z,n.sizes[i.toNat]? =σ z:=⟨_,y0 Ω⟩;obtain⟨_,aw,aQ,aR⟩:=h.2.2.2.1.var i.toNat x z I av;have aT:=pL I;have aU:=od h.2.1 h.2.2.1;obtain⟨aV,ax,aW,aX,az⟩:=(h.ext X).1;obtain⟨aY,aZ,L,a1,aj,a2,aA,aC,a6,a7⟩:=az.parts;rw[ay,ac bt.p rfl,ad (v:=ax) Ψ (aj.Q2 rfl),dY (y:=i) (i:=i.toNat) Ω ai.u ab.i Ψ aC.ls (oc Ω),aN,wrap_i64 Ω Ω];intro V Y _ _;have aD:=X.trans Y;have am:=aj.ext Y;have aE:=aA.ext Y;obtain⟨q,rfl⟩:∃q:Nat,v=q:=⟨v.toNat,Ω⟩;obtain⟨mk,an⟩:∃mk:Nat,x.mask=mk:=⟨x.mask.toNat,Ω⟩;rw[j0] at au;rw[ay,ac bt.p rfl,ad (v:=Γ ah) Ψ (am.Q1 rfl),ay,ac bt.p rfl,ad (v:=Γ ah) Ψ (am.Q1 rfl),K2 Ω];have aF:t.bT[eM s i.toNat+1]? =σ x.mask:=by rw[h.2.1,n3 I Ω];rfl
 refine (jY (i:=eM s i.toNat+1) aE Ω aF).mono ?_;rintro _ a8 _ ⟨rfl,ao⟩;refine⟨.inl ao,?_⟩;have ba:(2:Nat) ^ q<=2 ^ 31:=S5 Ω Ω;rw[an,K0 Ω Ω];have aa:=aD.trans ao;have bb:mk ||| 2 ^ q<2 ^ 32:=Nat.or_lt_two_pow Ω Ω;have af:gH s i.toNat (q:Int).toNat={s with vars:=s.vars.set i.toNat {x with mask:=((mk ||| 2 ^ q:Nat):Int)}}:=by
  unfold gH;rw[I];simp only[an,j0]
 refine (r1 (p:=eM s i.toNat+1) (s':=gH s i.toNat (q:Int).toNat) (h.ext aa) Ω Ω ?_ ?_ ?_ ap).mono ?_
 .rw[af,uE I Ω];rfl
 .rw[af];exact pF I rfl
 .rw[af];exact h.2.2.2.1.u7 I rfl aw ⟨by simp only;omega,by simp only;omega⟩
 rintro _ bc _ ⟨rfl,aG,W,aH,aI⟩;exact⟨λh=>absurd J h,λ_=>⟨rfl,j2 aa aG,W,_,(Grow.ext aa).trans aH,aI⟩⟩
theorem BD {j:Int} (h:b7 w al ah A R n s t) (am:Room t):ak x3 wN [Γ al,Δ j] w λr w'=>(¬(0<=j/\dI s j.toNat=true)->r=Δ 1/\Ext w w')/\
  ((0<=j/\dI s j.toNat=true)->r=Δ 0/\ag (dg w) w w'/\ ∃X p,Grow A w X w'/\b7 w' al ah X R n (iO s j.toNat) (t.set p 0)):=by
 refine aB func20 ?_;rw[cC dQ.u];simp only[Z0,aS];refine (lI h).mono ?_;rintro _ U _ ⟨rfl,ae⟩;rw[bf,bD];refine⟨λJ=>⟨λ_=>⟨by trivial,ae⟩,λaI=>?_⟩,λJ=>?_⟩
 .rw[decide_eq_true aI.1,aI.2] at J;cases J
 have J:0<=j/\dI s j.toNat=true:=by simpa using J
 obtain⟨aA,W⟩:=id J;obtain⟨f,I,aC⟩:∃f,s.funs[j.toNat]? =σ f/\f.live≠0:=by
  unfold dI at W;cases I:s.funs[j.toNat]? with
  |none=>rw[I] at W;cases W
  |some f=>rw[I] at W;exact⟨f,rfl,by simpa using W⟩
 intro V an _ _;have Y:=ae.trans an;obtain⟨aD,aE,ao,aF,ap⟩:=(h.ext Y).1;obtain⟨aG,aH,L,aJ,af,aK,aL,aM,ai,aj⟩:=ap.parts;obtain⟨y,aa⟩:∃y,L[j.toNat]? =σ y:=⟨_,y0 (by rw[aj.1];exact (x4.1 I).1)⟩;have aq:=(x4.1 aa).1;obtain⟨_,_,au⟩:=aj.2 j.toNat y f aa I;have aN:=u0 I;rw[ay,ac bt.p rfl,ad (v:=Γ ah) Ψ (af.Q1 rfl),ay,ac bt.p rfl,ad (v:=ao) Ψ (af.Q3 rfl),cG (i:=j.toNat) Ω dR.u cE.i ai aq,ac cE.p rfl,ad (v:=Δ (y.at_:Int)) Ψ (ai.range aa 2 _ rfl)];have ab:iO s j.toNat={s with funs:=s.funs.set j.toNat {f with live:=0}}:=by
  unfold iO;rw[I]
 obtain⟨av,_⟩:=h.2.2.2.1.funs f (x5 I);refine (r1 (p:=eb s j.toNat+0) (s':=iO s j.toNat) (h.ext Y) (by rw[au];rfl) Ω ?_ ?_ ?_ am).mono ?_
 .rw[ab,AT I Ω];rfl
 .rw[ab];exact rV I rfl rfl rfl
 .rw[ab];exact h.2.2.2.1.BC I rfl rfl rfl av.ie
 rintro _ aO _ ⟨rfl,aw,X,ax,az⟩;exact⟨λh=>absurd J h,λ_=>⟨rfl,j2 Y aw,X,_,(Grow.ext Y).trans ax,az⟩⟩
end
theorem BE {W:x1} {v:Int} (h:aJ .i64 w W l):ak x3 Dc [W,Δ v] w λr w'=>r= .bool (decide (v∈l))/\Ext w w':=by
 refine aB func32 ?_;rw[aT ai.u h];refine bE.range l.length (λi _ U=>Ext w U/\v∉l.take i) h.le ⟨Ext.refl _,Ξ⟩ ?_ ?_
 .rintro i _ U k hi ⟨I,J⟩ X;obtain⟨x,V⟩:∃x,l[i]? =σ x:=⟨_,y0 hi⟩;refine Υ λ_=>?_;rw[bd ai.u ab.i Ψ (h.ext I) V,bk,ae];refine⟨λhe=>⟨by rw[decide_eq_true];rw[<-he];exact x5 V,I⟩,λY=>?_⟩;rw[aN];refine X _ _ ⟨I,λhm=>?_⟩;rw[r8,V,Z4,n9,j4] at hm;rcases hm with hm|hm
  .exact J hm
  .exact Y hm.symm
 .rintro _ U k ⟨I,J⟩;rw[o9] at J;rw[aq,ae];exact⟨λh=>Ω,λ_=>⟨by rw[decide_eq_false J],I⟩⟩
theorem K5 {x:e9} {v:Int} (h:0<=v/\v<x.un.length):v∈cu x↔dropped x.mask v=false:=by
 unfold cu;rw[List.mem_filter,Z1];constructor
 .rintro⟨_,I⟩;simpa using I
 .intro I;exact⟨⟨v.toNat,List.mem_range.2 Ω,Ω⟩,by simp[I]⟩
theorem e8.put {g Y:Nat} {n:aV} (h:e8 w Y n) (I:af w g aG c) (J:ag (λr=>r=g) w w'):e8 w' Y n:=by
 have V:=Bu I;have ac:∀r,r=g-> ∃e c,af w r e c/\e≠hb/\e≠cU/\e≠ab/\e≠ao/\e≠aw:=λr U=>by
  subst U;exact⟨_,c,I,Φ,Φ,Φ,Φ,Φ⟩
 obtain⟨ad,ae,ah,ai,aj,aU,L,ak,av,al,am,h1,an,ap,aq,au,ax,ay⟩:=h;refine⟨ad,ae,ah,ai,aj,aU,L,ak,av,al,am,uY h1 J V Φ,uY an J V Φ,uX ap J V Φ,aq.aa J λr U=>?_,au,ax.aa J λr U=>?_,ay⟩
 .obtain⟨e,c,I,_,_,_,W,X⟩:=ac r U;exact⟨e,c,I,W,X⟩
 .obtain⟨e,c,I,W,X,az,aA,_⟩:=ac r U;exact⟨e,c,I,W,X,az,aA⟩
theorem K6:∃o:Obj,fK o=false:=⟨.deferred ν,rfl⟩
theorem StateM.put {g:Nat} {A R:aj} {n:aV} {s:aF} {t:aD} (h:StateM w al ah A R n s t) (W:af w g aG c) (U:ag (λr=>r=g) w w') (aq:¬A g):∃R',(∀r,R' r->R r/\r≠g)/\StateM w' al ah A R' n s t:=by
 obtain⟨au,av,aw,ax,⟨h1,ay,az,aA⟩,aB,aC,ge,L,E,aE,w0,aH,⟨ai,Y,aI⟩,⟨aJ,ak,aK,aL⟩,aM,⟨aN,am⟩,aO,an⟩:=h;obtain⟨dv,ao⟩:=K6;have z:=U.size;have V:=Bu W;have X:∀r,(w0.heap.setIfInBounds g dv)[r]? =if g=r then (if g<w0.heap.size then σ dv else ν) else w0.heap[r]?:=λr=>Array.getElem?_setIfInBounds;have aP:∀r,A r->r≠g:=λr J he=>aq (he▸J);have int:∀ {v:x1} {l:Λ},hT R w v l->hT (λr=>R r/\r≠g) w' v l:=λ⟨⟨aQ,hm⟩,aR⟩=>⟨⟨aQ,uX hm U V Φ⟩,λr J=>⟨aR r J,bX hm W Φ J⟩⟩;refine⟨λr=>R r/\r≠g,λr h=>h,au,av,aw,ax,⟨h1,λr J aS=>ay r J aS.1,λr J=>by have:=az r J.1;omega,λr J=>by have:=aA r J;omega⟩,aB,aC,ge,L,E,aE,{w0 with heap:=w0.heap.setIfInBounds g dv},uY aH U V Φ,⟨?_,?_,?_⟩,
  ⟨aJ.aa U λr J=>aP r (ak r J),ak,aK,aL⟩,uX aM U V Φ,⟨Bt aN U V Φ,am.1,λj x f ab aT=>?_⟩,Bt aO U V Φ,an.1,λj x e ab he=>?_⟩
 .by_cases I:∃o,w0.heap[g]? =σ o/\fK o=true
  .obtain⟨o,ap,aU⟩:=I;have aW:af w0 g aG c:=by
    unfold af at W ⊢;have:=Y.a7 g o ap aU;rw[W] at this;rw[ap,this]
   refine ai.put aW ⟨Ξ,λr o J I aX=>?_⟩;show (w0.heap.setIfInBounds g dv)[r]? =σ o;rw[X,if_neg λhe=>aX he.symm];exact J
  .refine ai.ext ⟨Ξ,λr o J aY=>?_⟩;show (w0.heap.setIfInBounds g dv)[r]? =σ o;rw[X,if_neg λhe=>I ⟨o,by rw[he];exact J,aY⟩];exact J
 .refine⟨by show (w0.heap.setIfInBounds g dv).size<=_;rw[Array.size_setIfInBounds];exact Y9 Y.size z,λr o J I=>?_⟩;have J:(w0.heap.setIfInBounds g dv)[r]? =σ o:=J;rw[X] at J;by_cases he:g=r
  .rw[if_pos he] at J;split at J
   .cases J;rw[ao] at I;cases I
   .cases J
  .rw[if_neg he] at J;exact U.a7 r o (Y.a7 r o J I) I λh=>he h.symm
 .intro r o J I;have J:(w0.heap.setIfInBounds g dv)[r]? =σ o:=J;rw[X] at J;by_cases he:g=r
  .rw[if_pos he] at J;split at J
   .cases J;rw[ao] at I;cases I
   .cases J
  .rw[if_neg he] at J;exact⟨aI r o J I,λh=>he h.symm⟩
 .obtain⟨ac,ad,ae⟩:=am.2 j x f ab aT;exact⟨int ac,int ad,ae⟩
 .obtain⟨ac,ad,ae⟩:=an.2 j x e ab he;exact⟨ac,int ad,int ae⟩
theorem K7 {pl:Λ} {f:b2} (W:pl.length<=60000) (h:fO pl=σ f):∃N,N<=60000/\eQ N f/\f.name≠[]/\ ∀b∈f.name,bJ b=true:=by
 unfold fO at h;rw[if_neg Ω] at h;cases I:gO ⟨(lex pl).1,0,false,[]⟩ with
 |none=>rw[I] at h;cases h
 |some q=>
  obtain⟨X,s⟩:=q;rw[I] at h;simp only at h;split at h
  .rename_i aI;cases h;obtain⟨h1,J⟩:=y2 rfl I aI.2.2;have Y:=oR pl.length pl (o8 _);obtain⟨U,V,_⟩:=qU pl.length pl (o8 _) f.name J;exact⟨_,by show (lex pl).1.length<=60000;omega,h1,U,V⟩
  .cases h
theorem K8:ak x3 sU [.pointer ν] w λv w'=>v= .pointer ν/\Ext w w':=by
 refine aB func48 ?_;rw[cC lg.u];simp only[Option.isNone_none,bQ];exact⟨by trivial,Ext.refl _⟩
theorem K9 (h:aJ .u8 w v l) (af:l.length<=100000):ak x3 Dp [v] w λJ w'=>Ext w w'/\ ∃g,au .u8 cv w' g J l:=by
 have I:=h;obtain⟨ag,b,o,base,cap,rfl,ah,hm,Y,aa⟩:=h;refine aB func66 ?_;rw[qN cB.u,bD];refine⟨λab=>⟨Ext.refl _,0,?_⟩,λ_=>?_⟩
 .have:l=[]:=by
   cases base with
   |none=>
        by_cases I:0<l.length
        .have:=Y I;cases this
        .exact Z5 Ω
   |some a=>cases ab
  subst this;exact au.nil _ _ _ _
 .refine uZ (k:=.u8) cB.u cv.i λai g1 U aj W X=>?_;refine eY cB.u cv.i rfl X (I.ext W) Θ Θ λJ ac V ad al ae=>?_;exact⟨W.then ae (λr aa he=>by have:=(bA X he).1;omega),ac,by simpa using ad⟩
def La (sv:x1):Prop:=∃cs:List x1,sv= .agg cs.toArray/\cs.length=8/\ ∀u∈cs,u.oneCell'=true
theorem BF:La (.agg z12.toArray):=⟨z12,rfl,rfl,by intro u hu;simp[z12] at hu;rcases hu with rfl|rfl|rfl|rfl<;>rfl⟩
theorem vb {f:b2} (I:eQ N f):(cb f).funs.length<=256:=by
 have h1:=(pq I).2.length_eq;have U:=(jV I).2.2;have V:=S9 e3 (eV f);have W:=I.jP;have J:=(n1 f (e4 f).length).2.2.2;rw[rS] at J;omega
theorem BG {n:aV} {t:aD} (J:ig n) (U:n.funs.length<=256) (V:t.bT=(cV n).cells) (I:Plain t):iI t:=by
 have h1:=rX J U n.unary.length n.funs.length;rw[uM,<-V] at h1;unfold aD.bT at h1;rw[u4] at h1;refine⟨Ω,?_,?_⟩
 .rw[I.2.1];exact X3 _
 .rw[I.1];exact X3 _
def mP (n:aV) (s:aF) (l:Λ) (i:Nat):Prop:=∃v,l[i]? =σ v/\0<=v/\v<n.sizes.length/\fd s v.toNat=false/\(0<i->l.getD (i-1) 0<v)
def kb (n:aV) (s:aF) (l:Λ):Prop:=∀i,i<l.length->mP n s l i
section
variable {w:x2} {al ah:Nat} {A R:aj} {n:aV} {s:aF} {t:aD}
theorem BH {an:x1} (h:b7 w al ah A R n s t) (X:aJ .i64 w an l):ak x3 DW [Γ al,an] w λv w'=>(∃b,v= .bool b/\(b=true↔kb n s l))/\Ext w w':=by
 refine aB func138 ?_;rw[aT ai.u X];refine bE.range l.length (λi _ U=>Ext w U/\ ∀q,q<i->mP n s l q) X.le ⟨Ext.refl _,λq aw=>Ω⟩ ?_ ?_
 .rintro i _ U ax hi ⟨Y,aj⟩ ay;obtain⟨x,aa⟩:∃x,l[i]? =σ x:=⟨_,y0 hi⟩;refine Υ λ_=>?_;rw[bd ai.u ab.i Ψ (X.ext Y) aa];have ao:∀ {p:Prop},(¬(0<=x/\x<n.sizes.length/\fd s x.toNat=false/\(0<i->l.getD (i-1) 0<x)))->mP n s l i->p:=λaz ⟨v,ac,W⟩=>by
   rw[aa] at ac;cases ac;exact absurd W az
  refine aQ (λv V=>∃b,v= .bool b/\(b=false↔mP n s l i)/\Ext w V) ?_ ?_
  .rintro _ V ⟨b,rfl,J,ap⟩;rw[bD];refine⟨λaA=>⟨⟨false,rfl,⟨(λh=>by cases h),λh=>?_⟩⟩,ap⟩,λaC=>?_⟩
   .have:=J.2 (h i hi);rw[aA] at this;cases this
   .rw[aN];refine ay _ _ ⟨ap,λq aw=>?_⟩;by_cases aD:q=i
    .rw[aD];exact J.1 aC
    .exact aj q Ω
  intro aI af;refine (pM (h.ext Y)).mono ?_;rintro _ aK _ ⟨rfl,aE⟩;have am:=Y.trans aE;rw[bf,bD];refine⟨λJ=>af _ _ ⟨true,rfl,⟨(λh=>by cases h),λh=>?_⟩,am⟩,λJ=>?_⟩
  .exact ao (λW=>by rw[decide_eq_true ⟨W.1,W.2.1⟩] at J;cases J) h
  have J:0<=x/\x<n.sizes.length:=by simpa using J
  refine (pN (h.ext am)).mono ?_;rintro _ aL _ ⟨rfl,aF⟩;have ag:=am.trans aF;rw[decide_eq_true J.1,V6,bD];refine⟨λad=>af _ _ ⟨true,rfl,⟨(λh=>by cases h),λh=>?_⟩,ag⟩,λad=>?_⟩
  .exact ao (λW=>by rw[W.2.2.1] at ad;cases ad) h
  rw[bR,ae];refine⟨λaM=>?_,λaO=>af _ _ ⟨false,rfl,⟨λ_=>⟨x,aa,J.1,J.2,ad,λh=>Ω⟩,λ_=>rfl⟩,ag⟩⟩;obtain⟨y,au⟩:∃y,l[i-1]? =σ y:=⟨_,y0 Ω⟩;have av:l.getD (i-1) 0=y:=by rw[u5,au];rfl
  have aP:=X.le;rw[c3,wrap_i64 Ω Ω,dY (y:=(i:Int)-1) (i:=i-1) Ω ai.u ab.i Ψ (X.ext ag) au,ce];refine af _ _ ⟨_,rfl,⟨λaG=>⟨x,aa,J.1,J.2,ad,λ_=>?_⟩,λI=>?_⟩,ag⟩
  .have:=of_decide_eq_false aG;rw[av];omega
  .obtain⟨v,ac,_,_,_,aH⟩:=I;rw[aa] at ac;cases ac;have:=aH Ω;rw[av] at this;rw[decide_eq_false];omega
 .rintro _ U ax ⟨Y,aj⟩;rw[aq,ae];exact⟨λh=>Ω,λ_=>⟨⟨true,rfl,⟨λ_=>aj,λ_=>rfl⟩⟩,Y⟩⟩
def BI (s:aF) (l:Λ) (r:Int):Prop:=(r= -1/\ ∀f∈s.funs,¬(f.live≠0/\f.sc=l))\/ ∃ (j:Nat) (f:et),r=j/\s.funs[j]? =σ f/\f.live≠0/\f.sc=l/\ ∀ (q:Nat) g,q<j->s.funs[q]? =σ g->¬(g.live≠0/\g.sc=l)
theorem Lb {am:x1} (h:b7 w al ah A R n s t) (au:aJ .i64 w am l):ak x3 Do [Γ al,am] w λv w'=>(∃r:Int,v=Δ r/\BI s l r)/\Ext w w':=by
 have aW:=od h.2.1 h.2.2.1;refine aB func65 ?_;refine (oe h).mono ?_;rintro _ U _ ⟨rfl,av⟩;have aw:s.funs.length<=9223372036854775807:=by
  obtain⟨ax,aA,an,aC,aD,aE,L,aF,I,aG,aH,aK,X,W⟩:=h.1.parts;have:=X.le;rw[W.1] at this;omega
 refine bE.range s.funs.length (λj _ V=>Ext w V/\ ∀ (q:Nat) g,q<j->s.funs[q]? =σ g->¬(g.live≠0/\g.sc=l)) aw ⟨av,λq g Y=>Ω⟩ ?_ ?_
 rotate_left
 .rintro _ V aL ⟨aa,ab⟩;rw[aq,ae];refine⟨λh=>Ω,λ_=>⟨⟨-1,rfl,.inl ⟨rfl,λf J=>?_⟩⟩,aa⟩⟩;obtain⟨q,Y,rfl⟩:=List.mem_iff_getElem.1 J;exact ab q _ Y (y0 Y)
 rintro j _ V aL aM ⟨aa,ab⟩ aO;obtain⟨f,J⟩:∃f,s.funs[j]? =σ f:=⟨_,y0 aM⟩;refine Υ λ_=>?_;refine aQ (λv ai=>v= .bool (decide (f.live≠0)&&decide (f.sc=l))/\Ext w ai) ?_ ?_
 .rintro _ ai ⟨rfl,af⟩;rw[bD];refine⟨λI=>⟨⟨(j:Int),rfl,.inr ⟨j,f,rfl,J,?_⟩⟩,af⟩,λI=>?_⟩
  .rw[U4,decide_eq_true_eq,decide_eq_true_eq] at I;exact⟨I.1,I.2,ab⟩
  .rw[aN];refine aO _ _ ⟨af,λq g Y aj=>?_⟩;by_cases aP:q=j
   .subst aP;rw[J] at aj;cases aj;intro aI;rw[decide_eq_true aI.1,decide_eq_true aI.2] at I;cases I
   .exact ab q g Ω aj
 intro aX ao;refine (lI (j:=(j:Int)) (h.ext aa)).mono ?_;rintro _ ai _ ⟨rfl,af⟩;have ag:=aa.trans af;have aR:dI s ((j:Int)).toNat=decide (f.live≠0):=by
  unfold dI;rw[j0,J]
 rw[decide_eq_true (Int.natCast_nonneg j),V6,aR,ae];refine⟨λaS=>?_,λaT=>ao _ _ ⟨by rw[decide_eq_false aT];rfl,ag⟩⟩;obtain⟨ax,aA,an,aC,aD,aE,L,aF,I,aG,aH,aK,X,W⟩:=(h.ext ag).1.parts;obtain⟨y,ap⟩:∃y,L[j]? =σ y:=⟨_,y0 (by rw[W.1];omega)⟩;obtain⟨aU,_,_⟩:=W.2 j y f ap J;rw[ay,ac bt.p rfl,ad (v:=an) Ψ (I.Q3 rfl),cG rfl dR.u cE.i X (by rw[W.1];omega),ac cE.p rfl,ad (v:=y.az) Ψ (X.range ap 0 _ rfl)];refine (kE aU.ls (au.ext ag)).mono ?_;rintro _ aY _ ⟨rfl,aV⟩;exact ao _ _ ⟨by rw[decide_eq_true aS,V6],ag.trans aV⟩
end
section
variable {w:x2} {B:Nat} {sv:x1} {k:Int} {sizes:Λ} {s:aF}
end
def gX (s:aF) (i v:Nat) (c:Int):aF:=match s.vars[i]? with
 |some x=>{s with vars:=s.vars.set i {x with un:=x.un.set v c}}
 |none=>s
def gq (s:aF) (j m:Nat) (c:Int):aF:=match s.funs[j]? with
 |some f=>{s with funs:=s.funs.set j {f with cs:=f.cs.set m c}}
 |none=>s
theorem BJ {i:Nat} {c:Int} (h:∀x∈l,0<=x/\x<=k) (J:0<=c/\c<=k):∀x∈l.set i c,0<=x/\x<=k:=λx I=>by
 rcases V7 I with I|rfl
 .exact h x I
 .exact J
def kU (w:x2) (al ah:Nat) (A R:aj) (n:aV) (s':aF) (t:aD) (v:x1) (w':x2):Prop:=v=Δ 0/\ag (dg w) w w'/\ ∃I p x,Grow A w I w'/\b7 w' al ah I R n s' (t.set p x)
theorem kU.ext {U:x2} {A R:aj} {n:aV} {s':aF} {t:aD} (I:Ext w U) (h:kU U al ah A R n s' t v w'):kU w al ah A R n s' t v w':=by
 obtain⟨h1,J,V,p,x,W,X⟩:=h;exact⟨h1,j2 I J,V,p,x,(Grow.ext I).trans W,X⟩
section
variable {w:x2} {al ah:Nat} {A R:aj} {n:aV} {s:aF} {t:aD}
theorem oh {c:Int} (h:b7 w al ah A R n s t) (J:y<0\/¬(0<=c/\c<=n.k)):ak x3 w8 [Γ al,Δ y,Δ c] w λv w'=>v=Δ (if y<0 then 1 else 3)/\Ext w w':=by
 refine aB func143 ?_;rw[cC dQ.u];simp only[Z0,aS];rw[aq,ae];refine⟨λI=>⟨by rw[if_pos I],Ext.refl _⟩,λI=>?_⟩;refine (mO h).mono ?_;rintro _ U _ ⟨rfl,W⟩;refine (kD (a:=c) (k:=n.k)).mono ?_;rintro _ V _ ⟨rfl,X⟩;have Y:=J.resolve_left I;rw[decide_eq_false (λh=>Y h.2),bf,X5,bQ,if_neg I];exact⟨rfl,W.trans X⟩
theorem vc {s':aF} {p:Nat} {c:Int} (h:b7 w al ah A R n s t) (W:Room t) (X:y=(p:Int)) (Y:p<s.cells.length) (aa:s.cells.set p c=s'.cells) (I:iL s s') (ab:eB n.k n.sizes s') (af:0<=c/\c<=n.k):
  ak x3 w8 [Γ al,Δ y,Δ c] w (kU w al ah A R n s' t):=by
 refine aB func143 ?_;rw[cC dQ.u];simp only[Z0,aS];rw[aq,ae];refine⟨λh=>Ω,λ_=>?_⟩;refine (mO h).mono ?_;rintro _ U _ ⟨rfl,ag⟩;refine (kD (a:=c) (k:=n.k)).mono ?_;rintro _ V _ ⟨rfl,ai⟩;have J:=ag.trans ai;rw[decide_eq_true (show cQ c n.k from⟨h.2.2.2.1.jZ,af⟩),bf,Y1,aS];obtain⟨au,av,aw,ax,az,aA,L,aC,aj,aD,aE,aG,aH,aI⟩:=(h.ext J).1.parts;rw[ay,ac bt.p rfl,ad (v:=Γ ah) Ψ (aj.Q1 rfl)];refine (r1 (h.ext J) X Y aa I ab W).mono ?_;rintro _ aJ _ ⟨rfl,am,an,ao,ap⟩;exact kU.ext J ⟨rfl,am,an,_,_,ao,ap⟩
theorem BK {c:Int} (h:b7 w al ah A R n s t) (J:Room t):ak x3 wR [Γ al,Δ c] w λv w'=>(¬(0<=c/\c<=n.k)->v=Δ 3/\Ext w w')/\((0<=c/\c<=n.k)->kU w al ah A R n {s with zero:=c} t v w'):=by
 refine aB func55 ?_;by_cases I:0<=c/\c<=n.k
 .refine (vc (p:=0) h J rfl (by unfold aF.cells hq;simp) (J9 s c) (uH s c) ⟨h.2.2.2.1.jZ,h.2.2.2.1.eu,I,h.2.2.2.1.vars,h.2.2.2.1.var,h.2.2.2.1.funs⟩ I).mono ?_;rintro v U _ V;exact⟨λh=>absurd I h,λ_=>V⟩
 .refine (oh h (.inr I)).mono ?_;rintro v U _ ⟨rfl,W⟩;exact⟨λ_=>⟨rfl,W⟩,λh=>absurd h I⟩
theorem vd {i v c:Int} (h:b7 w al ah A R n s t) (ab:Room t):ak x3 qC [Γ al,Δ i,Δ v,Δ c] w λr w'=>
  (¬ev n i v->r=Δ 1/\Ext w w')/\(ev n i v->¬(0<=c/\c<=n.k)->r=Δ 3/\Ext w w')/\(ev n i v->(0<=c/\c<=n.k)->kU w al ah A R n (gX s i.toNat v.toNat c) t r w'):=by
 refine aB func56 ?_;refine (u2 h).mono ?_;rintro _ U _ ⟨rfl,J⟩;by_cases I:ev n i v
 .rw[if_pos I];by_cases X:0<=c/\c<=n.k
  .obtain⟨x,W,af,ag,_⟩:=I.var h.2.2.2.1;have ai:=h.2.2.2.1.vars;obtain⟨z,ac⟩:∃z,n.sizes[i.toNat]? =σ z:=⟨_,y0 (by have:=I.1;have:=I.2.1;omega)⟩;obtain⟨_,ad,hm⟩:=h.2.2.2.1.var i.toNat x z W ac;have aj:=pL W;have Y:gX s i.toNat v.toNat c={s with vars:=s.vars.set i.toNat {x with un:=x.un.set v.toNat c}}:=by unfold gX;rw[W]
   refine (vc (p:=eM s i.toNat+(2+v.toNat)) (s':=gX s i.toNat v.toNat c) (h.ext J) ab Ω Ω ?_ ?_ ?_ X).mono ?_
   .rw[Y];refine uE W Ω ?_;rw[show 2+v.toNat=v.toNat+1+1 by omega];rfl
   .rw[Y];exact pF W Ξ
   .rw[Y];exact h.2.2.2.1.u7 W Ξ (BJ ad X) hm
   .rintro r V _ ae;exact⟨λh=>absurd I h,λ_ h=>absurd X h,λ_ _=>ae.ext J⟩
  .refine (oh (h.ext J) (.inr X)).mono ?_;rintro r V _ ⟨rfl,aa⟩;rw[if_neg Ω];exact⟨λh=>absurd I h,λ_ _=>⟨rfl,J.trans aa⟩,λ_ h=>absurd h X⟩
 .rw[if_neg I];refine (oh (h.ext J) (.inl Ω)).mono ?_;rintro r V _ ⟨rfl,aa⟩;rw[if_pos Ω];exact⟨λ_=>⟨rfl,J.trans aa⟩,λh=>absurd h I,λh=>absurd h I⟩
theorem ve {J:Λ} {c:Int} (h:b7 w al ah A R n s t) (ad:Room t) (ae:aJ .i64 w aE J):ak x3 oI [Γ al,Δ (j:Int),aE,Δ c] w λr w'=>
  (ec s j J=ν->r=Δ 1/\Ext w w')/\((ec s j J).isSome=true->¬(0<=c/\c<=n.k)->r=Δ 3/\Ext w w')/\
  ((ec s j J).isSome=true->(0<=c/\c<=n.k)-> ∀f (m:Nat),s.funs[j]? =σ f->ct f.szs J 0=σ (m:Int)->kU w al ah A R n (gq s j m c) t r w'):=by
 refine aB func57 ?_;refine (Bz h ae).mono ?_;rintro _ U _ ⟨rfl,W⟩;cases af:ec s j J with
 |none=>
  simp only;refine (oh (h.ext W) (.inl Ω)).mono ?_;rintro r V _ ⟨rfl,Y⟩;rw[if_pos Ω];exact⟨λ_=>⟨rfl,W.trans Y⟩,λh=>by simp at h,λh=>by simp at h⟩
 |some p=>
  simp only;by_cases X:0<=c/\c<=n.k
  .obtain⟨am,f,I,an,m,hm,ao,rfl⟩:=pP h.2.2.2.1 af;have ap:=u0 I;have aa:gq s j m c={s with funs:=s.funs.set j {f with cs:=f.cs.set m c}}:=by unfold gq;rw[I]
   obtain⟨ag,_⟩:=h.2.2.2.1.funs f (x5 I);refine (vc (p:=eb s j+(m+1)) (s':=gq s j m c) (h.ext W) ad rfl Ω ?_ ?_ ?_ X).mono ?_
   .rw[aa];exact AT I Ω rfl
   .rw[aa];exact rV I Ξ rfl rfl
   .rw[aa];exact h.2.2.2.1.BC I rfl rfl Ξ (BJ ag.ie X)
   .rintro r V _ ai;refine⟨(λh=>by cases h),λ_ h=>absurd X h,λ_ _ aq aj ab ac=>?_⟩;rw[I] at ab;cases ab;rw[hm] at ac;have:aj=m:=by have:=Z8 ac;omega
    subst this;exact ai.ext W
  .refine (oh (h.ext W) (.inr X)).mono ?_;rintro r V _ ⟨rfl,Y⟩;rw[if_neg Ω];exact⟨(λh=>by cases h),λ_ _=>⟨rfl,W.trans Y⟩,λ_ h=>absurd h X⟩
end
end Go.Proofs.YtgbkinibgjmodaaGreatDoor
namespace Go.Vc
open Go Go.RowKit
section
variable {P:W7} {w:x2} {α:Type} [am α] {S R:aj}
theorem BL {k:Nat} {vs:List (List x1)} {i:Nat} (h:∀x∈vs,x.length=k) (I:c.length=k) (hi:i<vs.length):over vs.flatten (i*k) c=(vs.set i c).flatten:=by
 have:=tV (f:=id) (k:=k) (L:=vs) (i:=i) (a:=c) h I hi;rw[List.flatMap_id,List.flatMap_id] at this;exact this
theorem Lc {l:List α} {i:Nat} (h:bi S R w [v] l) (aw:i<l.length):∃g cap full V,v= .slice (σ ⟨g,0,ν⟩) l.length cap/\af w g V full/\S g/\i*am.n α+am.n α<=full.length/\
  ∀ {A:aj} {cs:List x1} {a:α},bi A R w cs a->(∀r,r<w.heap.size->S r->¬A r/\¬R r)-> ∀w',ag (λr=>r=g) w w'->af w' g V (over full (i*am.n α) cs)->bi (λr=>S r\/A r) R w' [v] (l.set i a):=by
 obtain⟨vs,g,F,W,he,I,hm⟩:=gb h;obtain⟨ax,V,ay⟩:=hm rfl;obtain⟨aG,⟨rfl,aH⟩|⟨cap,full,rfl,ae,ai,az,ak,aA⟩⟩:=id ay
 .omega
 have al:vs.length=l.length:=he.1;have aB:(i+1)*am.n α<=l.length*am.n α:=Y5 _ aw;have aC:l.length*am.n α<=full.length:=by rw[ak];exact Y5 _ ai
 rw[U5,Nat.one_mul] at aB;have Y:S g:=ax.resolve_left Ξ;refine⟨g,cap,full,V,rfl,ae,Y,Ω,λ{A cs a} an ab w' ao aD=>?_⟩;have ap:=am.len an;have aq:¬A g:=(ab g ae.lt Y).1;have au:¬R g:=(ab g ae.lt Y).2;have aE:∀c∈vs.set i cs,c.length=am.n α:=λc X=>by
  rcases V7 X with J|rfl
  .exact he.len c J
  .exact ap
 have av:bU w' g V (am.n α) (.slice (σ ⟨g,0,ν⟩) l.length cap) (l.set i a).length (vs.set i cs).flatten:=by
  refine⟨by rw[ja aE,X2,X2,al],.inr ⟨cap,_,by rw[X2],aD,by rw[X2];exact ai,az,by rw[kA,ak],?_⟩⟩;rw[X2,rq Ω aC,aA,BL he.len ap Ω]
 refine⟨_,rfl,vs.set i cs,g,λj r=>if j=i then A r/\r<w.heap.size else F j r/\r<w.heap.size,⟨λj r U=>?_,λ_ j U=>?_,λ_ j q r aF h1 J=>?_⟩,⟨by simp[al],λj c a' X ac=>?_⟩,?_,λ_=>⟨.inr (.inl Y),V,av⟩⟩
 .split at U
  .exact .inr U.1
  .exact .inl (W.sub j r U.1)
 .split at U
  .exact aq U.1
  .exact W.top rfl j U.1
 .split at h1<;>split at J
  .omega
  .exact (ab r J.2 (W.sub q r J.1)).1 h1.1
  .exact (ab r h1.2 (W.sub j r h1.1)).1 J.1
  .exact W.gM rfl j q r aF h1.1 J.1
 .by_cases ad:j=i
  .subst ad;rw[V9 Ω] at X ac;cases X;cases ac;have ah:bi (λr=>if j=j then A r/\r<w.heap.size else F j r/\r<w.heap.size) R w cs a:=am.mono an (λr U h=>by rw[if_pos rfl];exact⟨h,U⟩) λ_ _ h=>h;refine am.aa ah ao λr U h1 J=>?_;have J:r=g:=J;subst J;rcases h1 with h1|h1
   .simp only[if_true] at h1;exact aq h1.1
   .exact au h1
  .rw[W8 (T9 ad)] at X ac;have ah:bi (λr=>if j=i then A r/\r<w.heap.size else F j r/\r<w.heap.size) R w c a':=am.mono (he.2 j c a' X ac) (λr U h=>by rw[if_neg ad];exact⟨h,U⟩) λ_ _ h=>h;refine am.aa ah ao λr U h1 J=>?_;have J:r=g:=J;subst J;rcases h1 with h1|h1
   .simp only[if_neg ad] at h1;exact W.top rfl j h1.1
   .exact au h1
 .have:=mg (S:=λr=>(S r\/A r)\/R r) av (.inr (.inl (.inl Y)));exact this
theorem vf {Y:o6} {i b:Nat} {x:x1} {l:List α} {a:α} {A:aj} {K:Unit->x2->Prop} (U:am.n α=1) (aa:y=(i:Int)) (ab:P.underlying t=σ (.slice e)) (hi:aO P e 1 b z)
  (h:bi S R w [v] l) (V:i<l.length) (ac:x.cells= #[x]) (W:bi A R w [x] a) (ad:∀r,r<w.heap.size->S r->¬A r/\¬R r)
  (ae:∀w',ag S w w'->bi (λr=>S r\/A r) R w' [v] (l.set i a)->K () w'):J P (n0 t v (.int Y y)) w λp=>aA P (o5 e p x) w K:=by
 subst aa;obtain⟨g,cap,full,an,rfl,af,ah,ai,ak⟩:=Lc h V;rw[U] at ai;rw[fi ab hi V λ_=>rfl];refine bh (o:=0+i*1) hi ac (am.one W x (.head _)) af Ω λw' X _ al=>ae w' (X.mono λr _ I=>by have I:r=g:=I;subst I;exact ah) (ak W ad w' X ?_);rw[U,V3] at*;exact al
end
end Go.Vc
namespace Go.Proofs.YtgbkinibgjmodaaGreatDoor
open Go Go.Vc Go.RowKit Go.Proofs Go.Proofs.Tryz
set_option maxRecDepth 100000
abbrev fG:Type:=(Rd (Λ)×Rd (Λ)×Λ)×Bool
abbrev ii:Type:=Int×Rd (Λ)×Rd (Λ)
def ei (f:et):fG:=((f.sc,f.szs,f.cs),decide (f.live≠0))
def jt (e:hp):ii:=(e.v,e.sc,e.ea)
def be (m:Bool) (A:Nat->aj) (R:aj) (w:x2) (cs:List x1) (k:Int) (sizes:Λ) (zero:Int) (D:List (Λ)) (G:List Bool) (aU:List (Λ)) (H:List fG) (E:List ii):Prop:=
 ∃av I J U V W,cs=[Δ k,av,Δ zero,I,J,U,V,W]/\Seen R w [av] sizes/\
 am.rep m (A 0) R w [I] D/\am.rep m (A 1) R w [J] G/\am.rep m (A 2) R w [U] aU/\am.rep m (A 3) R w [V] H/\am.rep m (A 4) R w [W] E/\
 (m=true->(∀i j r,i≠j->A i r->¬A j r)/\ ∀i r,A i r->¬R r)
abbrev fp (m:Bool) (A:Nat->aj) (R:aj) (w:x2) (cs:List x1) (k:Int) (sizes:Λ) (s:aF):Prop:=
 be m A R w cs k sizes s.zero (s.vars.map cu) (s.vars.map λx=>decide (x.gone≠0)) (s.vars.map (·.un)) (s.funs.map ei) (s.elims.map jt)
def iP (w:x2) (v:x1) (k:Int) (sizes:Λ) (s:aF):Prop:=∃cs,v= .agg cs.toArray/\fp false (λ_ _=>False) ef w cs k sizes s
def dU (A:Nat->aj) (i:Nat) (B:aj):Nat->aj:=λj=>if j=i then B else A j
section
variable {m:Bool} {A:Nat->aj} {R:aj} {w w':x2} {cs:List x1} {k zero:Int} {sizes:Λ} {D:List (Λ)} {G:List Bool} {aU:List (Λ)} {H:List fG} {E:List ii} {s:aF}
theorem be.len (h:be m A R w cs k sizes zero D G aU H E):cs.length=8/\ ∀u∈cs,u.oneCell'=true:=by
 obtain⟨av,X,Y,aa,ab,ac,rfl,h1,I,J,U,V,W,_⟩:=h;refine⟨rfl,λu hu=>?_⟩;simp only[T1,List.not_mem_nil,or_false] at hu;rcases hu with rfl|rfl|rfl|rfl|rfl|rfl|rfl|rfl
 .rfl
 .exact gd h1
 .rfl
 .exact gd I
 .exact gd J
 .exact gd U
 .exact gd V
 .exact gd W
theorem be.aa {T:aj} (h:be m A R w cs k sizes zero D G aU H E) (I:ag T w w') (U:∀r,r<w.heap.size->(∃i,A i r)\/R r->¬T r):be m A R w' cs k sizes zero D G aU H E:=by
 obtain⟨av,V,W,X,Y,ab,rfl,h1,ac,ad,ae,af,ah,ai⟩:=h;have aI:∀i r,r<w.heap.size->A i r\/R r->¬T r:=λi r J h=>U r J (h.imp (λh=>⟨i,h⟩) id);exact⟨av,V,W,X,Y,ab,rfl,am.aa h1 I λr J h=>U r J (h.elim False.elim .inr),am.aa ac I (aI 0),am.aa ad I (aI 1),am.aa ae I (aI 2),am.aa af I (aI 3),am.aa ah I (aI 4),ai⟩
theorem be.ext (h:be m A R w cs k sizes zero D G aU H E) (I:Ext w w'):be m A R w' cs k sizes zero D G aU H E:=h.aa (I.aa λ_=>False) λ_ _ _ h=>h
theorem fp.Ld (h:fp m A R w cs k sizes s):iP w (.agg cs.toArray) k sizes s:=by
 obtain⟨av,I,J,U,V,W,rfl,h1,X,Y,aa,ab,ac,ad⟩:=h;exact⟨_,rfl,av,I,J,U,V,W,rfl,hE h1,hE X,hE Y,hE aa,hE ab,hE ac,λh=>by cases h⟩
theorem be.mono {R':aj} (h:be true A R w cs k sizes zero D G aU H E) (I:∀r,R r->R' r) (J:∀i r,A i r->¬R' r):be true A R' w cs k sizes zero D G aU H E:=by
 obtain⟨av,U,V,W,X,Y,rfl,h1,aa,ab,ac,ad,ae,af⟩:=h;have hm:∀r,r<w.heap.size->R r->R' r:=λr _ h=>I r h;exact⟨av,U,V,W,X,Y,rfl,am.mono h1 (λ_ _ h=>h) hm,am.mono aa (λ_ _ h=>h) hm,am.mono ab (λ_ _ h=>h) hm,am.mono ac (λ_ _ h=>h) hm,am.mono ad (λ_ _ h=>h) hm,am.mono ae (λ_ _ h=>h) hm,λ_=>⟨(af rfl).1,J⟩⟩
theorem be.old (h:be true A R w cs k sizes zero D G aU H E):be true (λi r=>A i r/\r<w.heap.size) R w cs k sizes zero D G aU H E:=by
 obtain⟨av,U,V,W,X,Y,rfl,h1,I,aa,ab,ac,ad,J⟩:=h;obtain⟨J,ae⟩:=J rfl;have hm:∀i r,r<w.heap.size->A i r->A i r/\r<w.heap.size:=λi r af h=>⟨h,af⟩;exact⟨av,U,V,W,X,Y,rfl,h1,am.mono I (hm 0) λ_ _ h=>h,am.mono aa (hm 1) λ_ _ h=>h,am.mono ab (hm 2) λ_ _ h=>h,am.mono ac (hm 3) λ_ _ h=>h,am.mono ad (hm 4) λ_ _ h=>h,
  λ_=>⟨λi j r ag h1 I=>J i j r ag h1.1 I.1,λi r h=>ae i r h.1⟩⟩
theorem pR {i:Nat} {B:aj} (h:∀i j r,i≠j->A i r->¬A j r) (J:∀j r,j≠i->B r->¬A j r):∀p q r,p≠q->dU A i B p r->¬dU A i B q r:=λp q r U h1 I=>by
 unfold dU at h1 I;split at h1<;>split at I
 .omega
 .exact J q r (by assumption) h1 I
 .exact J p r (by assumption) I h1
 .exact h p q r U h1 I
theorem pS {i:Nat} {B:aj} (h:∀i r,A i r->¬R r) (I:∀r,B r->¬R r):∀p r,dU A i B p r->¬R r:=λp r h1=>by
 unfold dU at h1;split at h1
 .exact I r h1
 .exact h p r h1
theorem be.vg {B:aj} {x:x1} {V:List (Λ)} (h:be true A R w cs k sizes zero D G aU H E) {T:aj} (J:ag T w w') (W:∀r,T r->A 0 r\/(∀j,¬A j r)/\¬R r) (ab:bi B R w' [x] V) (ac:∀j r,j≠0->B r->¬A j r) (ad:∀r,B r->¬R r):be true (dU A 0 B) R w' (cs.set 3 x) k sizes zero V G aU H E:=by
 obtain⟨av,aq,ae,af,ah,ai,rfl,h1,I,ak,al,an,ao,U⟩:=h;obtain⟨U,X⟩:=U rfl;have Y:∀r,R r->¬T r:=λr h I=>(W r I).elim (λI=>X 0 r I h) λI=>I.2 h;have aI:∀j r,j≠0->r<w.heap.size->A j r\/R r->¬T r:=λj r ap _ h I=>h.elim (λh=>(W r I).elim (λI=>U j 0 r ap h I) λI=>I.1 j h) λh=>Y r h I;refine⟨av,x,ae,af,ah,ai,rfl,am.aa h1 J λr _ h=>h.elim False.elim (Y r),?_,?_,?_,?_,?_,λ_=>⟨pR U ac,pS X ad⟩⟩
 .exact ab
 .exact am.aa ak J λr=>aI 1 r Ω
 .exact am.aa al J λr=>aI 2 r Ω
 .exact am.aa an J λr=>aI 3 r Ω
 .exact am.aa ao J λr=>aI 4 r Ω
theorem be.BM {B:aj} {x:x1} {V:List Bool} (h:be true A R w cs k sizes zero D G aU H E) {T:aj} (J:ag T w w') (W:∀r,T r->A 1 r\/(∀j,¬A j r)/\¬R r) (ab:bi B R w' [x] V) (ac:∀j r,j≠1->B r->¬A j r) (ad:∀r,B r->¬R r):be true (dU A 1 B) R w' (cs.set 4 x) k sizes zero D V aU H E:=by
 obtain⟨av,ae,ap,af,ah,ai,rfl,h1,I,aq,ak,al,an,U⟩:=h;obtain⟨U,X⟩:=U rfl;have Y:∀r,R r->¬T r:=λr h I=>(W r I).elim (λI=>X 1 r I h) λI=>I.2 h;have aI:∀j r,j≠1->r<w.heap.size->A j r\/R r->¬T r:=λj r ao _ h I=>h.elim (λh=>(W r I).elim (λI=>U j 1 r ao h I) λI=>I.1 j h) λh=>Y r h I;refine⟨av,ae,x,af,ah,ai,rfl,am.aa h1 J λr _ h=>h.elim False.elim (Y r),?_,?_,?_,?_,?_,λ_=>⟨pR U ac,pS X ad⟩⟩
 .exact am.aa I J λr=>aI 0 r Ω
 .exact ab
 .exact am.aa ak J λr=>aI 2 r Ω
 .exact am.aa al J λr=>aI 3 r Ω
 .exact am.aa an J λr=>aI 4 r Ω
theorem be.gX {B:aj} {x:x1} {V:List (Λ)} (h:be true A R w cs k sizes zero D G aU H E) {T:aj} (J:ag T w w') (W:∀r,T r->A 2 r\/(∀j,¬A j r)/\¬R r) (ab:bi B R w' [x] V) (ac:∀j r,j≠2->B r->¬A j r) (ad:∀r,B r->¬R r):be true (dU A 2 B) R w' (cs.set 5 x) k sizes zero D G V H E:=by
 obtain⟨av,ae,af,ap,ah,ai,rfl,h1,I,ak,aq,al,an,U⟩:=h;obtain⟨U,X⟩:=U rfl;have Y:∀r,R r->¬T r:=λr h I=>(W r I).elim (λI=>X 2 r I h) λI=>I.2 h;have aI:∀j r,j≠2->r<w.heap.size->A j r\/R r->¬T r:=λj r ao _ h I=>h.elim (λh=>(W r I).elim (λI=>U j 2 r ao h I) λI=>I.1 j h) λh=>Y r h I;refine⟨av,ae,af,x,ah,ai,rfl,am.aa h1 J λr _ h=>h.elim False.elim (Y r),?_,?_,?_,?_,?_,λ_=>⟨pR U ac,pS X ad⟩⟩
 .exact am.aa I J λr=>aI 0 r Ω
 .exact am.aa ak J λr=>aI 1 r Ω
 .exact ab
 .exact am.aa al J λr=>aI 3 r Ω
 .exact am.aa an J λr=>aI 4 r Ω
theorem be.gq {B:aj} {x:x1} {V:List fG} (h:be true A R w cs k sizes zero D G aU H E) {T:aj} (J:ag T w w') (W:∀r,T r->A 3 r\/(∀j,¬A j r)/\¬R r) (ab:bi B R w' [x] V) (ac:∀j r,j≠3->B r->¬A j r) (ad:∀r,B r->¬R r):be true (dU A 3 B) R w' (cs.set 6 x) k sizes zero D G aU V E:=by
 obtain⟨av,ae,af,ah,ap,ai,rfl,h1,I,ak,al,aq,an,U⟩:=h;obtain⟨U,X⟩:=U rfl;have Y:∀r,R r->¬T r:=λr h I=>(W r I).elim (λI=>X 3 r I h) λI=>I.2 h;have aI:∀j r,j≠3->r<w.heap.size->A j r\/R r->¬T r:=λj r ao _ h I=>h.elim (λh=>(W r I).elim (λI=>U j 3 r ao h I) λI=>I.1 j h) λh=>Y r h I;refine⟨av,ae,af,ah,x,ai,rfl,am.aa h1 J λr _ h=>h.elim False.elim (Y r),?_,?_,?_,?_,?_,λ_=>⟨pR U ac,pS X ad⟩⟩
 .exact am.aa I J λr=>aI 0 r Ω
 .exact am.aa ak J λr=>aI 1 r Ω
 .exact am.aa al J λr=>aI 2 r Ω
 .exact ab
 .exact am.aa an J λr=>aI 4 r Ω
theorem be.BN {B:aj} {x:x1} {V:List ii} (h:be true A R w cs k sizes zero D G aU H E) {T:aj} (J:ag T w w') (W:∀r,T r->A 4 r\/(∀j,¬A j r)/\¬R r) (ab:bi B R w' [x] V) (ac:∀j r,j≠4->B r->¬A j r) (ad:∀r,B r->¬R r):be true (dU A 4 B) R w' (cs.set 7 x) k sizes zero D G aU H V:=by
 obtain⟨av,ae,af,ah,ai,ap,rfl,h1,I,ak,al,an,aq,U⟩:=h;obtain⟨U,X⟩:=U rfl;have Y:∀r,R r->¬T r:=λr h I=>(W r I).elim (λI=>X 4 r I h) λI=>I.2 h;have aI:∀j r,j≠4->r<w.heap.size->A j r\/R r->¬T r:=λj r ao _ h I=>h.elim (λh=>(W r I).elim (λI=>U j 4 r ao h I) λI=>I.1 j h) λh=>Y r h I;refine⟨av,ae,af,ah,ai,x,rfl,am.aa h1 J λr _ h=>h.elim False.elim (Y r),?_,?_,?_,?_,?_,λ_=>⟨pR U ac,pS X ad⟩⟩
 .exact am.aa I J λr=>aI 0 r Ω
 .exact am.aa ak J λr=>aI 1 r Ω
 .exact am.aa al J λr=>aI 2 r Ω
 .exact am.aa an J λr=>aI 3 r Ω
 .exact ab
theorem be.Le {z:Int} (h:be m A R w cs k sizes zero D G aU H E):be m A R w (cs.set 2 (Δ z)) k sizes z D G aU H E:=by
 obtain⟨av,I,J,U,V,W,rfl,h1,X,Y,aa,ab,ac,ad⟩:=h;exact⟨av,I,J,U,V,W,rfl,h1,X,Y,aa,ab,ac,ad⟩
end
theorem kV {α:Type} [am α] {st an:r9} {pl:List (Nat×Nat)} {gs c q b ao:Nat} {ap y:x1} {box:List x1} {S A R:aj} {l:List α} {a:α} {K:x2->Prop}
  (aq:bx x3 st pl) (au:pl[c]? =σ (c,q+1)) (av:x3.underlying t=σ (.slice e)) (aw:aO x3 t 1 ao ap) (hi:aO x3 e (am.n α) b z) (ax:z.cells.size=am.n α)
  (ae:af w gs st box) (ay:box[c]? =σ v) (h:bi S R w [v] l) (I:bW w (am.n α) y 1 cs) (az:bi A R w cs a) (aB:∀r,r<w.heap.size->S r->¬A r/\¬R r) (X:¬S gs/\¬A gs/\¬R gs) (aG:(l.length+1)*b<=140737488355328) (aH:l.length+1<=1000000)
  (aC:∀W w',ag (λr=>S r\/r=gs) w w'->af w' gs st (box.set c W)->bi (λr=>S r\/A r\/w.heap.size<=r) R w' [W] (l++[a])->K w'):
  aA x3 (l9 #[t,t] an #[v,y]) w λW V=>J x3 (x7 st (Γ gs) c) V λaD=>aA x3 (o5 t aD W) V λ_ Y=>K Y:=by
 have aE:=(x4.1 ay).1;refine mh (A:=A) av hi ax h I az (λr ah I U=>?_) Ω Ω λW V ab ai=>?_
 .have:=aB r ah I;exact U.elim this.1 this.2
 have aF:af V gs st box:=ae.aa ai X.1;rw[ac aq au];refine bh (o:=0+c) aw (jK ab) (gd ab) aF (by rw[V3];exact aE) λY ak aI al=>?_;refine aC W Y ((ai.mono λr _ h=>.inl h).trans (ak.mono λr _ h=>.inr h)) (by rw[V3] at al;exact al) (am.aa ab ak λr ah U ad=>?_);have ad:r=gs:=ad;subst ad;have aJ:=ae.lt;rcases U with U|U
 .rcases U with U|U|U
  .exact X.1 U
  .exact X.2.1 U
  .omega
 .exact X.2.2 U
section
variable {A:Nat->aj} {B R:aj} {w:x2} {cs xs:List x1} {gs:Nat} {y v:x1} {k zero:Int} {sizes:Λ} {D:List (Λ)} {G:List Bool} {aU:List (Λ)} {H:List fG} {E:List ii} {K:x2->Prop}
theorem be.Lf {aq:r9} (h:be true A R w cs k sizes zero D G aU H E) (ae:af w gs aG cs) (aa:cs[3]? =σ v) (W:∀j r,A j r->gs<r) (Y:∀r,R r->r<gs) (I:bW w 1 y 1 xs) (au:bi B R w xs a) (X:∀r,r<w.heap.size->B r->(∀j,¬A j r)/\gs<r) (aI:D.length<=1000)
  (aw:∀ah bo w',ag (λr=>gs<=r) w w'->af w' gs aG bo->be true ah R w' bo k sizes zero (D++[a]) G aU H E->(∀j r,ah j r->gs<r)->(∀j,j≠3->bo[j]? =cs[j]?)->K w'):
  aA x3 (l9 #[cz,cz] aq #[v,y]) w λaj V=>J x3 (x7 aG (Γ gs) 3) V λax=>aA x3 (o5 cz ax aj) V λ_ ab=>K ab:=by
 have ak:=h.old;have ay:=ae.lt;obtain⟨av,az,aJ,aK,aL,al,aB,h1,aC,aM,aN,aO,aP,ac⟩:=id ak;obtain⟨ac,an⟩:=ac rfl;have al:v=az:=by rw[aB] at aa;exact (Z8 aa).symm
 subst al;have aD:bi (λr=>B r/\r<w.heap.size) R w xs a:=am.mono au (λr U h=>⟨h,U⟩) λ_ _ h=>h;refine kV (pl:=_) (l:=D) aG.p rfl cz.u cz.i ai.i rfl ae aa aC I aD (λr U ao=>⟨λaE=>(X r U aE.1).1 0 ao.1,an 0 r ao⟩) ⟨λh=>by have:=W 0 gs h.1;omega,λh=>by have:=(X gs ay h.1).2;omega,λh=>by have:=Y gs h;omega⟩ Ω Ω λaj ab ap aF aH=>?_;refine aw _ _ ab (ap.mono λr _ h=>h.elim (λh=>by have:=W 0 r h.1;omega) λh=>Ω) aF (ak.vg ap (λr U=>?_) aH (λj r ad U=>?_) λr U=>?_) (λj r U=>?_) λj ad=>?_
 .rcases U with U|rfl
  .exact .inl U
  .exact .inr ⟨λj h=>by have:=W j r h.1;omega,λh=>by have:=Y r h;omega⟩
 .rcases U with U|U|U
  .exact ac 0 j r (T9 ad) U
  .exact λh=>(X r U.2 U.1).1 j h.1
  .exact λh=>by have:=h.2;omega
 .rcases U with U|U|U
  .exact an 0 r U
  .exact λh=>by have:=(X r U.2 U.1).2;have:=Y r h;omega
  .exact λh=>by have:=Y r h;omega
 .unfold dU at U;split at U
  .rcases U with U|U|U
   .exact W 0 r U.1
   .exact (X r U.2 U.1).2
   .omega
  .exact W j r U.1
 .rw[W8 (T9 ad)]
theorem be.Lg {a:Bool} {ap:r9} (h:be true A R w cs k sizes zero D G aU H E) (ae:af w gs aG cs) (aa:cs[4]? =σ v) (W:∀j r,A j r->gs<r) (Y:∀r,R r->r<gs) (I:bW w 1 y 1 xs) (aq:bi B R w xs a) (X:∀r,r<w.heap.size->B r->(∀j,¬A j r)/\gs<r) (aH:G.length<=1000)
  (au:∀ah bo w',ag (λr=>gs<=r) w w'->af w' gs aG bo->be true ah R w' bo k sizes zero D (G++[a]) aU H E->(∀j r,ah j r->gs<r)->(∀j,j≠4->bo[j]? =cs[j]?)->K w'):
  aA x3 (l9 #[fs,fs] ap #[v,y]) w λai V=>J x3 (x7 aG (Γ gs) 4) V λaw=>aA x3 (o5 fs aw ai) V λ_ ab=>K ab:=by
 have aj:=h.old;have ax:=ae.lt;obtain⟨av,aI,ay,aJ,aK,ak,az,h1,aL,aB,aM,aN,aO,ac⟩:=id aj;obtain⟨ac,al⟩:=ac rfl;have ak:v=ay:=by rw[az] at aa;exact (Z8 aa).symm
 subst ak;have aC:bi (λr=>B r/\r<w.heap.size) R w xs a:=am.mono aq (λr U h=>⟨h,U⟩) λ_ _ h=>h;refine kV (pl:=_) (l:=G) aG.p rfl fs.u fs.i eN.i rfl ae aa aB I aC (λr U an=>⟨λaD=>(X r U aD.1).1 1 an.1,al 1 r an⟩) ⟨λh=>by have:=W 1 gs h.1;omega,λh=>by have:=(X gs ax h.1).2;omega,λh=>by have:=Y gs h;omega⟩ Ω Ω λai ab ao aE aF=>?_;refine au _ _ ab (ao.mono λr _ h=>h.elim (λh=>by have:=W 1 r h.1;omega) λh=>Ω) aE (aj.BM ao (λr U=>?_) aF (λj r ad U=>?_) λr U=>?_) (λj r U=>?_) λj ad=>?_
 .rcases U with U|rfl
  .exact .inl U
  .exact .inr ⟨λj h=>by have:=W j r h.1;omega,λh=>by have:=Y r h;omega⟩
 .rcases U with U|U|U
  .exact ac 1 j r (T9 ad) U
  .exact λh=>(X r U.2 U.1).1 j h.1
  .exact λh=>by have:=h.2;omega
 .rcases U with U|U|U
  .exact al 1 r U
  .exact λh=>by have:=(X r U.2 U.1).2;have:=Y r h;omega
  .exact λh=>by have:=Y r h;omega
 .unfold dU at U;split at U
  .rcases U with U|U|U
   .exact W 1 r U.1
   .exact (X r U.2 U.1).2
   .omega
  .exact W j r U.1
 .rw[W8 (T9 ad)]
theorem be.Lh {ap:r9} (h:be true A R w cs k sizes zero D G aU H E) (ae:af w gs aG cs) (aa:cs[5]? =σ v) (W:∀j r,A j r->gs<r) (Y:∀r,R r->r<gs) (I:bW w 1 y 1 xs) (aq:bi B R w xs a) (X:∀r,r<w.heap.size->B r->(∀j,¬A j r)/\gs<r) (aI:aU.length<=1000)
  (au:∀ah bo w',ag (λr=>gs<=r) w w'->af w' gs aG bo->be true ah R w' bo k sizes zero D G (aU++[a]) H E->(∀j r,ah j r->gs<r)->(∀j,j≠5->bo[j]? =cs[j]?)->K w'):
  aA x3 (l9 #[dJ,dJ] ap #[v,y]) w λai V=>J x3 (x7 aG (Γ gs) 5) V λax=>aA x3 (o5 dJ ax ai) V λ_ ab=>K ab:=by
 have aj:=h.old;have ay:=ae.lt;obtain⟨av,aJ,aK,az,aL,ak,aB,h1,aM,aN,aC,aO,aP,ac⟩:=id aj;obtain⟨ac,al⟩:=ac rfl;have ak:v=az:=by rw[aB] at aa;exact (Z8 aa).symm
 subst ak;have aD:bi (λr=>B r/\r<w.heap.size) R w xs a:=am.mono aq (λr U h=>⟨h,U⟩) λ_ _ h=>h;refine kV (pl:=_) (l:=aU) aG.p rfl dJ.u dJ.i aw.i rfl ae aa aC I aD (λr U an=>⟨λaE=>(X r U aE.1).1 2 an.1,al 2 r an⟩) ⟨λh=>by have:=W 2 gs h.1;omega,λh=>by have:=(X gs ay h.1).2;omega,λh=>by have:=Y gs h;omega⟩ Ω Ω λai ab ao aF aH=>?_;refine au _ _ ab (ao.mono λr _ h=>h.elim (λh=>by have:=W 2 r h.1;omega) λh=>Ω) aF (aj.gX ao (λr U=>?_) aH (λj r ad U=>?_) λr U=>?_) (λj r U=>?_) λj ad=>?_
 .rcases U with U|rfl
  .exact .inl U
  .exact .inr ⟨λj h=>by have:=W j r h.1;omega,λh=>by have:=Y r h;omega⟩
 .rcases U with U|U|U
  .exact ac 2 j r (T9 ad) U
  .exact λh=>(X r U.2 U.1).1 j h.1
  .exact λh=>by have:=h.2;omega
 .rcases U with U|U|U
  .exact al 2 r U
  .exact λh=>by have:=(X r U.2 U.1).2;have:=Y r h;omega
  .exact λh=>by have:=Y r h;omega
 .unfold dU at U;split at U
  .rcases U with U|U|U
   .exact W 2 r U.1
   .exact (X r U.2 U.1).2
   .omega
  .exact W j r U.1
 .rw[W8 (T9 ad)]
theorem be.Li {a:fG} {ap:r9} (h:be true A R w cs k sizes zero D G aU H E) (ae:af w gs aG cs) (aa:cs[6]? =σ v) (W:∀j r,A j r->gs<r) (Y:∀r,R r->r<gs) (I:bW w 4 y 1 xs) (aq:bi B R w xs a) (X:∀r,r<w.heap.size->B r->(∀j,¬A j r)/\gs<r) (aH:H.length<=1000)
  (au:∀ah bo w',ag (λr=>gs<=r) w w'->af w' gs aG bo->be true ah R w' bo k sizes zero D G aU (H++[a]) E->(∀j r,ah j r->gs<r)->(∀j,j≠6->bo[j]? =cs[j]?)->K w'):
  aA x3 (l9 #[b3,b3] ap #[v,y]) w λai V=>J x3 (x7 aG (Γ gs) 6) V λaw=>aA x3 (o5 b3 aw ai) V λ_ ab=>K ab:=by
 have aj:=h.old;have ax:=ae.lt;obtain⟨av,aI,aJ,aK,ay,ak,az,h1,aL,aM,aN,aB,aO,ac⟩:=id aj;obtain⟨ac,al⟩:=ac rfl;have ak:v=ay:=by rw[az] at aa;exact (Z8 aa).symm
 subst ak;have aC:bi (λr=>B r/\r<w.heap.size) R w xs a:=am.mono aq (λr U h=>⟨h,U⟩) λ_ _ h=>h;refine kV (pl:=_) (l:=H) aG.p rfl b3.u b3.i b0.i rfl ae aa aB I aC (λr U an=>⟨λaD=>(X r U aD.1).1 3 an.1,al 3 r an⟩) ⟨λh=>by have:=W 3 gs h.1;omega,λh=>by have:=(X gs ax h.1).2;omega,λh=>by have:=Y gs h;omega⟩ Ω Ω λai ab ao aE aF=>?_;refine au _ _ ab (ao.mono λr _ h=>h.elim (λh=>by have:=W 3 r h.1;omega) λh=>Ω) aE (aj.gq ao (λr U=>?_) aF (λj r ad U=>?_) λr U=>?_) (λj r U=>?_) λj ad=>?_
 .rcases U with U|rfl
  .exact .inl U
  .exact .inr ⟨λj h=>by have:=W j r h.1;omega,λh=>by have:=Y r h;omega⟩
 .rcases U with U|U|U
  .exact ac 3 j r (T9 ad) U
  .exact λh=>(X r U.2 U.1).1 j h.1
  .exact λh=>by have:=h.2;omega
 .rcases U with U|U|U
  .exact al 3 r U
  .exact λh=>by have:=(X r U.2 U.1).2;have:=Y r h;omega
  .exact λh=>by have:=Y r h;omega
 .unfold dU at U;split at U
  .rcases U with U|U|U
   .exact W 3 r U.1
   .exact (X r U.2 U.1).2
   .omega
  .exact W j r U.1
 .rw[W8 (T9 ad)]
end
theorem lJ {R:aj} {g:Nat} (h:au .i64 e w g v l):bi (λr=>leads v r) R w [v] l:=by
 have h1:=mi (R:=R) h;by_cases J:v= .slice ν 0 0
 .subst J;have:l=[]:=by
   obtain⟨U,⟨_,I⟩|⟨_,_,I,_⟩⟩:=h
   .exact Z5 I
   .cases I
  subst this;exact fx
 .obtain⟨U,⟨I,_⟩|⟨cap,cs,I,_⟩⟩:=id h
  .exact absurd I J
  .refine am.mono h1 (λr _ V=>?_) λ_ _ h=>h;rw[I];exact⟨_,_,_,rfl,V.symm⟩
theorem vh {R:aj} {g:Nat} (J:∀r c,af w r ab c->R r) (h:au .i64 ab w g v l):Seen R w [v] l:=oO (lJ (R:=λ_=>False) h) λr V I=>by
 rcases I with I|I
 .obtain⟨c,U⟩:=js h r I;exact J r c U
 .exact I.elim
theorem Lj {R:aj} {zero:Int} {av:x1} (h:Seen R w [av] sizes):be true (λ_ _=>False) R w [Δ k,av,Δ zero,.slice ν 0 0,.slice ν 0 0,.slice ν 0 0,.slice ν 0 0,.slice ν 0 0] k sizes zero [] [] [] [] []:=
 ⟨_,_,_,_,_,_,rfl,h,fx,fx,fx,fx,fx,λ_=>⟨λ_ _ _ _ h=>h.elim,λ_ _ h=>h.elim⟩⟩
theorem be.at {A:Nat->aj} {R:aj} {zero:Int} {D:List (Λ)} {G:List Bool} {aU:List (Λ)} {H:List fG} {E:List ii} (h:be m A R w cs k sizes zero D G aU H E) (c:Nat) (I:c<8):∃v,cs[c]? =σ v:=⟨_,y0 (by rw[h.len.1];exact I)⟩
def Lk (R:aj) (w:x2) (J U gs:Nat) (n:aV) (V:List x1) (i j:Nat) (I:x2):Prop:=Ext w I/\af I J dj V/\af I U aG z12/\ ∃A cs,af I gs aG cs/\(∀q r,A q r->gs<r)/\
 be true A R I cs n.k n.sizes n.zero ((n.unary.take i).map λu=>cu (newVar u)) (o7 i false) (n.unary.take i) ((n.funs.take j).map λg=>ei (jm n.sizes g)) []
theorem BO {b7:x1} {n:aV} {R:aj} (a1:∀r,R r->r<w.heap.size) (bx:∀r c,af w r ab c->R r) (c0:uW w b7 n) (aO:ig n) (eD:n.funs.length<=256):ak x3 Dt [b7] w λv w'=>Ext w w'/\ ∃A cs,v= .agg cs.toArray/\fp true A R w' cs n.k n.sizes (cV n)/\ ∀q r,A q r->w.heap.size<=r:=by
 have eE:=aO.sizes.2.1;have c1:=aO.jl;refine aB func70 ?_;refine bN λg1 U eF bz c2=>?_;obtain⟨av,eH,b8,eI,b9,ca,eJ,bB,a2,a6,c3,cb,bC,c4,cc⟩:=KY c0 c2;refine bp aG.i λay V eK a7 a8=>?_;have a8:af V ay aG z12:=a8;have bD:=a2.ext a7;rw[ac dj.p rfl,ad (v:=Δ n.k) Ψ (bD.Q0 rfl),ac dj.p rfl,ad (v:=av) Ψ (bD.Q1 rfl),ac dj.p rfl,ad (v:=Δ n.zero) Ψ (bD.Q2 rfl),
  cW (cs:=#[Δ n.k,av,Δ n.zero,.slice ν 0 0,.slice ν 0 0,.slice ν 0 0,.slice ν 0 0,.slice ν 0 0]) (by obtain⟨_,_,_,e⟩:=bZ a6.ls;rw[e];kernel_rfl)]
 refine bp aG.i λgs eL eM ba c5=>?_;have c6:Seen R w [av] n.sizes:=vh bx a6;have eP:=bz.size;have eQ:=a7.size;have z3:=ba.size;have c7:=(bz.trans a7).trans ba;have cd:=Lj (k:=n.k) (zero:=n.zero) (bg c6 c7);refine bH (vs:=[Δ n.k,av,Δ n.zero,.slice ν 0 0,.slice ν 0 0,.slice ν 0 0,.slice ν 0 0,.slice ν 0 0]) aG.i rfl rfl cd.len.2 c5 λda bF eR db=>?_;have eS:=a8.lt;have eU:=a2.lt;have dd:ay≠gs:=Ω
 have bG:Ext U da:=(a7.trans ba).then bF λr I he=>by have he:r=gs:=he;omega
 have ce:=bz.trans bG;have de:=(a8.ext ba).aa bF λhe=>dd he;have eV:w.heap.size<gs:=Ω
 rw[ac dj.p rfl,ad (v:=av) Ψ ((a2.ext bG).Q1 rfl),aT ai.u (a6.ext ce).ls];have df:=cd.aa bF λr I h he=>by
  have he:r=gs:=he;rcases h with⟨_,h⟩|h
  .exact h
  .have:=a1 r h;omega
 refine bP.range n.sizes.length (λi aA=>Lk R w g1 ay gs n [Δ n.k,av,Δ n.zero,b8,ca] i 0 aA) Ω ⟨ce,a2.ext bG,de,_,_,db,(λ_ _ h=>h.elim),df⟩ ?_ ?_
 .rintro i aA dg hi ⟨aC,bI,bJ,A,cs,aP,bK,bb⟩ dh;obtain⟨z,bL⟩:∃z,n.sizes[i]? =σ z:=⟨_,y0 hi⟩;obtain⟨u,hu⟩:∃u,n.unary[i]? =σ u:=⟨_,y0 Ω⟩;have eW:=aO.sizes.2.2 z (x5 bL);obtain⟨eX,_⟩:=aO.unary i z u bL hu;refine Υ λ_=>?_;rw[bd ai.u ab.i Ψ (a6.ext aC).ls bL];obtain⟨cg,rfl⟩:∃m:Nat,z=m:=⟨z.toNat,Ω⟩;refine bE.range cg (λj aQ bc=>Ext aA bc/\ ∃g,au .i64 ab bc g aQ ((W3 j).map λv:Nat=>(v:Int))/\ ∀r,leads aQ r->aA.heap.size<=r) Ω
   ⟨Ext.refl _,0,au.nil _ _ _ _,λr I=>by obtain⟨a,n,c,al,aD⟩:=I;cases al⟩ ?_ ?_
  .rintro j aQ bc bM bO ⟨am,di,aE,bf⟩ bQ;refine Υ λ_=>?_;refine dx (k:=.i64) ai.u ab.i rfl λeZ e0 dk e1 ah dl=>?_;refine eY ai.u ab.i rfl (aE.ext ah) dl.ls Θ Θ λe2 dm dn dp dq aF=>?_;rw[aN];have dr:=am.size;have ds:=ah.size;refine bQ _ _ ⟨(am.trans ah).then aF λr I he=>by have:=bf r he;omega,dm,?_,λr I=>(dq r I).elim (bf r) λh=>Ω⟩;rw[List.range_succ,Z3];exact dp
  rintro aQ bc bM ⟨am,di,aE,bf⟩;rw[aq,ae];refine⟨λh=>Ω,λ_=>?_⟩;have dt:(W3 cg).map (λv:Nat=>(v:Int))=cu (newVar u):=by rw[KZ];congr 2;omega
  rw[dt] at aE;have dr:=am.size;have e3:=aC.size;have e4:=aP.lt;have aR:∀r,R r->r<gs:=λr I=>by have:=a1 r I;omega
  have low:∀ {J W:x2} {b:Nat} {e:r9} {c:List x1},ag (λr=>gs<=r) J W->b<gs->af J b e c->af W b e c:=λan du h=>h.aa an λaH=>by have aH:gs<=_:=aH;omega
  have aS:∀ {J W:x2},Ext w J->ag (λr=>gs<=r) J W->Ext w W:=λbR an=>bR.then an λr I h=>by have h:gs<=r:=h;omega
  have ch:=bb.old.ext am;have dv:∀q r,(A q r/\r<aA.heap.size)->gs<r:=λq r h=>bK q r h.1;obtain⟨dw,ci⟩:=ch.at 3 Ω;rw[ac aG.p rfl,ad (v:=dw) Ψ ((aP.ext am).Q3 ci)];refine gN cz.u ai.i Φ (a:=cu (newVar u)) (cs:=[aQ]) aE.ls.cells.1 (lJ (R:=R) aE) λe5 dk ah _ dy=>?_;have ds:=ah.size;have bh:=am.trans ah;refine be.Lf (ch.ext ah) (aP.ext bh) ci dv aR dy (bg (lJ (R:=R) aE) ah) (λr I h=>?_) Θ λe6 e7 dn aF cj ck dz _=>?_
  .have:=bf r h;exact⟨λj h=>Ω,Ω⟩
  have e8:=aF.size;obtain⟨dA,cl⟩:=ck.at 4 Ω;rw[ac aG.p rfl,ad (v:=dA) Ψ (cj.Q4 cl)];refine gN (a:=false) (cs:=[.bool false]) (A:=λ_=>False) (R:=R) fs.u eN.i Φ rfl rfl λe9 fa aI _ dC=>?_;refine be.Lg (a:=false) (xs:=[.bool false]) (B:=λ_=>False) (ck.ext aI) (cj.ext aI) cl dz aR dC rfl (λr I h=>h.elim) Θ λdD fb cm bj cn dE dF _=>?_;have z9:=aI.size;have fc:=bj.size;have dG:Ext w cm:=aS ((aS (aC.trans bh) aF).trans aI) bj;have dH:=low bj Ω ((low aF Ω (bI.ext bh)).ext aI);have dI:=low bj Ω ((low aF Ω (bJ.ext bh)).ext aI);intro bS aJ _ _;have cp:=cn.ext aJ;have cq:=dH.ext aJ;have cr:=dG.trans aJ;obtain⟨aK,bk⟩:∃aK,b9[i]? =σ aK:=⟨_,y0 (by have:=congrArg R4 cb;rw[u4] at this;omega)⟩;have dK:aK.l=u:=by
   have ct:(b9.map (·.l))[i]? =σ aK.l:=by rw[x8,bk];rfl
   rw[cb,hu] at ct;exact (Z8 ct).symm
  have bT:=c3.ext cr;obtain⟨fd,cw⟩:=bT.2 aK (x5 bk);rw[dK] at cw;have cA:=dE.old.ext aJ;have dL:∀q r,(dD q r/\r<cm.heap.size)->gs<r:=λq r h=>dF q r h.1;obtain⟨dM,cB⟩:=cA.at 5 Ω;rw[ac aG.p rfl,ad (v:=dM) Ψ (cp.Q5 cB),ac dj.p rfl,ad (v:=b8) Ψ (cq.Q3 rfl),cG rfl dJ.u aw.i bT.1 (x4.1 bk).1,ad (v:=aK.v) (o:=i*1) Ψ (bT.1.range bk 0 _ rfl)];refine uZ (k:=.i64) aw.u ao.i λdN fe ff fg bl cC=>?_;refine⟨.inl bl,?_⟩;refine eY aw.u ao.i rfl cC (cw.ext bl).ls Θ Θ λcD fh dO bm dP dQ=>?_;rw[List.nil_append] at bm;have fi:=aJ.size;have fj:=bl.size;have cE:∀r,leads dN r->bS.heap.size<=r:=λr I=>by have:=(bA cC I).1;omega
  have dR:∀r,leads cD r->bS.heap.size<=r:=λr I=>(dP r I).elim (cE r) λh=>Ω
  have bU:Ext bS dO:=bl.then dQ λr I he=>by have:=cE r he;omega
  refine⟨.inl bU,?_⟩;have fk:=bU.size;refine gN dJ.u aw.i Φ (a:=u) (cs:=[cD]) bm.ls.cells.1 (lJ (R:=R) bm) λfm fo bV _ dS=>?_;have fq:=bV.size;have aM:=bU.trans bV;refine⟨.inl aM,?_⟩;refine be.Lh (cA.ext aM) (cp.ext aM) cB dL aR dS (bg (lJ (R:=R) bm) bV) (λr I h=>?_) Θ λdT dU ft bW dV dW dX _=>?_
  .have:=dR r h;have:=cn.lt;exact⟨λj h=>Ω,Ω⟩
  rw[aN];refine dh _ ⟨aS (cr.trans aM) bW,low bW Ω (cq.ext aM),low bW Ω ((dI.ext aJ).ext aM),dT,dU,dV,dX,?_⟩;rw[r8,hu,Z4,Z3,S3,List.map_nil,List.replicate_succ'];exact dW
 rintro aA dg ⟨aC,bI,bJ,A,cs,aP,bK,bb⟩;rw[aq,ae];refine⟨λh=>Ω,λ_=>?_⟩;rw[l5 Ω] at bb;have fu:bB.length=n.funs.length:=by rw[<-cc,u4]
 have dY:=bC.ext aC;rw[ac dj.p rfl,ad (v:=ca) Ψ (bI.Q4 rfl),c9 cK.u dY];have aR:∀r,R r->r<gs:=λr I=>by have:=a1 r I;omega
 have low:∀ {J W:x2} {b:Nat} {e:r9} {c:List x1},ag (λr=>gs<=r) J W->b<gs->af J b e c->af W b e c:=λan du h=>h.aa an λaH=>by have aH:gs<=_:=aH;omega
 have aS:∀ {J W:x2},Ext w J->ag (λr=>gs<=r) J W->Ext w W:=λbR an=>bR.then an λr I h=>by have h:gs<=r:=h;omega
 refine bP.range bB.length (λj Y=>Ext w Y/\af Y ay aG z12/\ ∃A cs,af Y gs aG cs/\(∀q r,A q r->gs<r)/\
  be true A R Y cs n.k n.sizes n.zero (n.unary.map λu=>cu (newVar u)) (o7 n.sizes.length false) n.unary ((n.funs.take j).map λg=>ei (jm n.sizes g)) []) bC.le ⟨aC,bJ,A,cs,aP,bK,bb⟩ ?_ ?_
 .rintro j Y bM bO ⟨ap,bX,bY,bo,bq,br,aU⟩ bQ;obtain⟨y,b1⟩:∃y,bB[j]? =σ y:=⟨_,y0 bO⟩;have cF:n.funs[j]? =σ (dc y):=by rw[<-cc,x8,b1];rfl
  have cH:=(aO.funs (dc y) (x5 cF)).1;have fv:y.cs.length<=4096:=by
   have h1:y.cs.length=_:=cH.len;have aH:=cH.small;omega
  have cI:=c4 y (x5 b1);have cJ:=cI.ext ap;have cL:=bC.ext ap;refine Υ λ_=>?_;rw[cG rfl cK.u aZ.i cL bO,bn aZ.p aZ.i rfl (cL.range b1)];refine bp aZ.i λdZ fw fx ea eb=>?_;refine bH (vs:=c8 y) aZ.i rfl rfl cJ.one eb λec ed fy ee=>?_;have ef:Ext Y ec:=ea.then ed λr I he=>by have he:r=dZ:=he;omega
  intro b2 cM _ _;have ax:=ef.trans cM;have cN:=bq.ext ax;have b4:=ee.ext cM;have eg:=cJ.ext ax;obtain⟨⟨fz,cO⟩,⟨fA,cP⟩,fB,eh⟩:=id eg;have cQ:=aU.old.ext ax;have ej:∀q r,(bY q r/\r<Y.heap.size)->gs<r:=λq r h=>br q r h.1;obtain⟨ek,cR⟩:=cQ.at 6 Ω;rw[ac aG.p rfl,ad (v:=ek) Ψ (cN.Q6 cR),ac aZ.p rfl,ad (v:=y.az) Ψ (b4.Q0 rfl),ac aZ.p rfl,ad (v:=y.av) Ψ (b4.Q1 rfl),ac aZ.p rfl,ad (v:=y.aL) Ψ (b4.Q2 rfl)];refine uZ (k:=.i64) aw.u ao.i λv25 fC fD fE bt cS=>?_;refine⟨.inl bt,?_⟩;refine eY aw.u ao.i rfl cS (eh.ext bt).ls Θ Θ λX fF cT bu em en=>?_;rw[List.nil_append] at bu;have fH:=ax.size;have z25:=bt.size;have cU:∀r,leads v25 r->b2.heap.size<=r:=λr I=>by have:=(bA cS I).1;omega
  have eo:∀r,leads X r->b2.heap.size<=r:=λr I=>(em r I).elim (cU r) λh=>Ω
  have bw:Ext b2 cT:=bt.then en λr I he=>by have:=cU r he;omega
  refine⟨.inl bw,?_⟩;rw[cW (cs:=#[y.az,y.av,X]) (by obtain⟨_,_,_,al⟩:=bZ cO.ls;obtain⟨_,_,_,aD⟩:=bZ cP.ls;obtain⟨_,_,_,aX⟩:=bZ bu.ls;rw[al,aD,aX];kernel_rfl),
   cW (cs:=#[y.az,y.av,X,.bool true]) (by obtain⟨_,_,_,al⟩:=bZ cO.ls;obtain⟨_,_,_,aD⟩:=bZ cP.ls;obtain⟨_,_,_,aX⟩:=bZ bu.ls;rw[al,aD,aX];kernel_rfl)]
  have fI:=bw.size;have cX:=(ap.trans ax).trans bw;obtain⟨⟨aW,ep⟩,⟨fJ,er⟩,_⟩:=id cI;have own:bi (α:=fG) (λr=>leads X r) R cT [y.az,y.av,X,.bool true] (ei (jm n.sizes (dc y))):=by
   refine⟨[y.az,y.av,X],[.bool true],λr=>leads X r,λ_=>False,rfl,λ_ h=>h,λ_ h=>h.elim,λ_ _ _ h=>h,⟨[y.az],[y.av,X],λ_=>False,λr=>leads X r,rfl,λ_ h=>h.elim,λ_ h=>h,λ_ _ h=>h.elim,?_,[y.av],[X],λ_=>False,λr=>leads X r,rfl,λ_ h=>h.elim,λ_ h=>h,λ_ _ h=>h.elim,?_,?_⟩,rfl⟩
   .exact bg (vh bx ep) cX
   .exact bg (vh bx er) cX
   .exact lJ bu
  refine gN b3.u b0.i Φ rfl own λfK fL b5 _ es=>?_;have fM:=b5.size;have aY:=bw.trans b5;refine⟨.inl aY,?_⟩;refine be.Li (cQ.ext aY) (cN.ext aY) cR ej aR es (bg own b5) (λr I h=>?_) Θ λet eu fN cY ev ew ey _=>?_
  .have:=eo r h;have:=bq.lt;exact⟨λj h=>Ω,Ω⟩
  rw[aN];refine bQ _ ⟨aS (ap.trans (ax.trans aY)) cY,low cY Ω (bX.ext (ax.trans aY)),et,eu,ev,ey,?_⟩;rw[r8,cF,Z4,Z3,S3,List.map_nil];exact ew
 rintro Y bM ⟨ap,bX,bY,bo,bq,br,aU⟩;rw[l5 Ω] at aU;rw[aq,ae];refine⟨λh=>Ω,λ_=>?_⟩;obtain⟨b6,ez⟩:=aU.len;rw[bn aG.p aG.i b6 (show Y.rangeAt gs 0 bo from bq.range)];refine bH (vs:=bo) aG.i b6 rfl ez bX λfO cZ fP eA=>?_;rw[eO aG.p aG.i b6 eA.range];have eB:=aU.aa cZ λr I h he=>by
  have he:r=ay:=he;rcases h with⟨q,h⟩|h
  .have:=br q r h;omega
  .have:=a1 r h;omega
 have fQ:=ap.size;refine⟨ap.then cZ λr I he=>by have he:r=ay:=he;omega,bY,bo,rfl,?_,λq r h=>by have:=br q r h;omega⟩;have al:(cV n).vars.map cu=n.unary.map λu=>cu (newVar u):=by show (n.unary.map newVar).map cu=_;rw[List.map_map];rfl
 have aD:(cV n).vars.map (λx=>decide (x.gone≠0))=o7 n.sizes.length false:=by
  show (n.unary.map newVar).map _=_;rw[List.map_map,<-c1];exact List.map_const' ..
 have aX:(cV n).vars.map (·.un)=n.unary:=by show (n.unary.map newVar).map _=_;rw[List.map_map];exact List.map_id _
 have eC:(cV n).funs.map ei=n.funs.map λg=>ei (jm n.sizes g):=by show (n.funs.map (jm n.sizes)).map ei=_;rw[List.map_map];rfl
 unfold fp;rw[al,aD,aX,eC];exact eB
section
variable {A:Nat->aj} {B R:aj} {w:x2} {cs xs:List x1} {gs:Nat} {y v:x1} {k zero:Int} {sizes:Λ} {D:List (Λ)} {G:List Bool} {aU:List (Λ)} {H:List fG} {E:List ii} {K:x2->Prop} {Z:aj}
theorem be.Ll {az:r9} (h:be true A R w cs k sizes zero D G aU H E) (al:af w gs aG cs) (aa:cs[3]? =σ v) (ab:∀j r,A j r->gs<r\/Z r) (W:∀r,Z r->r<gs/\A 4 r) (Y:∀r,R r->r<gs) (I:bW w 1 y 1 xs) (aB:bi B R w xs a) (X:∀r,r<w.heap.size->B r->(∀j,¬A j r)/\gs<r) (aO:D.length<=1000)
  (aC:∀ac bo w',ag (λr=>gs<=r) w w'->af w' gs aG bo->be true ac R w' bo k sizes zero (D++[a]) G aU H E->(∀j r,ac j r->gs<r\/Z r)->(∀r,Z r->r<gs/\ac 4 r)->(∀j,j≠3->bo[j]? =cs[j]?)->K w'):
  aA x3 (l9 #[cz,cz] az #[v,y]) w λan V=>J x3 (x7 aG (Γ gs) 3) V λaD=>aA x3 (o5 cz aD an) V λ_ ad=>K ad:=by
 have ao:=h.old;have aE:∀i j r,i≠j->A i r->¬A j r:=by obtain⟨_,_,_,_,_,_,_,_,_,_,_,_,_,aF⟩:=id h;exact (aF rfl).1
 have ap:∀r,A 0 r->gs<r:=λr h=>(ab 0 r h).resolve_right λae=>aE 0 4 r Ω h (W r ae).2;have aq:∀j,¬A j gs:=λj h=>(ab j gs h).elim (λh=>Ω) λh=>by have:=(W gs h).1;omega
 have aH:=al.lt;obtain⟨av,aI,aP,aQ,aR,au,aJ,h1,ae,aS,aT,aV,aW,ah⟩:=id ao;obtain⟨ah,aw⟩:=ah rfl;have au:v=aI:=by rw[aJ] at aa;exact (Z8 aa).symm
 subst au;have aK:bi (λr=>B r/\r<w.heap.size) R w xs a:=am.mono aB (λr U h=>⟨h,U⟩) λ_ _ h=>h;refine kV (pl:=_) (l:=D) aG.p rfl cz.u cz.i ai.i rfl al aa ae I aK (λr U ax=>⟨λaL=>(X r U aL.1).1 0 ax.1,aw 0 r ax⟩) ⟨λh=>aq 0 h.1,λh=>by have:=(X gs aH h.1).2;omega,λh=>by have:=Y gs h;omega⟩ Ω Ω λan ad ay aM aN=>?_;refine aC _ _ ad (ay.mono λr _ h=>h.elim (λh=>by have:=ap r h.1;omega) λh=>Ω) aM (ao.vg ay (λr U=>?_) aN (λj r aj U=>?_) λr U=>?_) (λj r U=>?_) (λr ak=>⟨(W r ak).1,?_⟩) λj aj=>?_
 .rcases U with U|rfl
  .exact .inl U
  .exact .inr ⟨λj h=>aq j h.1,λh=>by have:=Y r h;omega⟩
 .rcases U with U|U|U
  .exact ah 0 j r (T9 aj) U
  .exact λh=>(X r U.2 U.1).1 j h.1
  .exact λh=>by have:=h.2;omega
 .rcases U with U|U|U
  .exact aw 0 r U
  .exact λh=>by have:=(X r U.2 U.1).2;have:=Y r h;omega
  .exact λh=>by have:=Y r h;omega
 .unfold dU at U;split at U
  .rcases U with U|U|U
   .exact .inl (ap r U.1)
   .exact .inl (X r U.2 U.1).2
   .exact .inl Ω
  .exact ab j r U.1
 .unfold dU;rw[if_neg Ω];exact⟨(W r ak).2,by have:=(W r ak).1;omega⟩
 .rw[W8 (T9 aj)]
theorem be.Lm {az:r9} (h:be true A R w cs k sizes zero D G aU H E) (aj:af w gs aG cs) (aa:cs[5]? =σ v) (ab:∀j r,A j r->gs<r\/Z r) (W:∀r,Z r->r<gs/\A 4 r) (Y:∀r,R r->r<gs) (I:bW w 1 y 1 xs) (aB:bi B R w xs a) (X:∀r,r<w.heap.size->B r->(∀j,¬A j r)/\gs<r) (aP:aU.length<=1000)
  (aC:∀ac bo w',ag (λr=>gs<=r) w w'->af w' gs aG bo->be true ac R w' bo k sizes zero D G (aU++[a]) H E->(∀j r,ac j r->gs<r\/Z r)->(∀r,Z r->r<gs/\ac 4 r)->(∀j,j≠5->bo[j]? =cs[j]?)->K w'):
  aA x3 (l9 #[dJ,dJ] az #[v,y]) w λak V=>J x3 (x7 aG (Γ gs) 5) V λaD=>aA x3 (o5 dJ aD ak) V λ_ ad=>K ad:=by
 have al:=h.old;have aE:∀i j r,i≠j->A i r->¬A j r:=by obtain⟨_,_,_,_,_,_,_,_,_,_,_,_,_,aF⟩:=id h;exact (aF rfl).1
 have an:∀r,A 2 r->gs<r:=λr h=>(ab 2 r h).resolve_right λao=>aE 2 4 r Ω h (W r ao).2;have ap:∀j,¬A j gs:=λj h=>(ab j gs h).elim (λh=>Ω) λh=>by have:=(W gs h).1;omega
 have aH:=aj.lt;obtain⟨av,aQ,aR,aI,aS,aq,aJ,h1,ao,aT,aK,aV,aW,ae⟩:=id al;obtain⟨ae,au⟩:=ae rfl;have aq:v=aI:=by rw[aJ] at aa;exact (Z8 aa).symm
 subst aq;have aL:bi (λr=>B r/\r<w.heap.size) R w xs a:=am.mono aB (λr U h=>⟨h,U⟩) λ_ _ h=>h;refine kV (pl:=_) (l:=aU) aG.p rfl dJ.u dJ.i aw.i rfl aj aa aK I aL (λr U ax=>⟨λaM=>(X r U aM.1).1 2 ax.1,au 2 r ax⟩) ⟨λh=>ap 2 h.1,λh=>by have:=(X gs aH h.1).2;omega,λh=>by have:=Y gs h;omega⟩ Ω Ω λak ad ay aN aO=>?_;refine aC _ _ ad (ay.mono λr _ h=>h.elim (λh=>by have:=an r h.1;omega) λh=>Ω) aN (al.gX ay (λr U=>?_) aO (λj r ah U=>?_) λr U=>?_) (λj r U=>?_) (λr ai=>⟨(W r ai).1,?_⟩) λj ah=>?_
 .rcases U with U|rfl
  .exact .inl U
  .exact .inr ⟨λj h=>ap j h.1,λh=>by have:=Y r h;omega⟩
 .rcases U with U|U|U
  .exact ae 2 j r (T9 ah) U
  .exact λh=>(X r U.2 U.1).1 j h.1
  .exact λh=>by have:=h.2;omega
 .rcases U with U|U|U
  .exact au 2 r U
  .exact λh=>by have:=(X r U.2 U.1).2;have:=Y r h;omega
  .exact λh=>by have:=Y r h;omega
 .unfold dU at U;split at U
  .rcases U with U|U|U
   .exact .inl (an r U.1)
   .exact .inl (X r U.2 U.1).2
   .exact .inl Ω
  .exact ab j r U.1
 .unfold dU;rw[if_neg Ω];exact⟨(W r ai).2,by have:=(W r ai).1;omega⟩
 .rw[W8 (T9 ah)]
theorem be.Ln {a:fG} {ay:r9} (h:be true A R w cs k sizes zero D G aU H E) (aj:af w gs aG cs) (aa:cs[6]? =σ v) (ab:∀j r,A j r->gs<r\/Z r) (W:∀r,Z r->r<gs/\A 4 r) (Y:∀r,R r->r<gs) (I:bW w 4 y 1 xs) (az:bi B R w xs a) (X:∀r,r<w.heap.size->B r->(∀j,¬A j r)/\gs<r) (aO:H.length<=1000)
  (aB:∀ac bo w',ag (λr=>gs<=r) w w'->af w' gs aG bo->be true ac R w' bo k sizes zero D G aU (H++[a]) E->(∀j r,ac j r->gs<r\/Z r)->(∀r,Z r->r<gs/\ac 4 r)->(∀j,j≠6->bo[j]? =cs[j]?)->K w'):
  aA x3 (l9 #[b3,b3] ay #[v,y]) w λak V=>J x3 (x7 aG (Γ gs) 6) V λaC=>aA x3 (o5 b3 aC ak) V λ_ ad=>K ad:=by
 have al:=h.old;have aD:∀i j r,i≠j->A i r->¬A j r:=by obtain⟨_,_,_,_,_,_,_,_,_,_,_,_,_,aE⟩:=id h;exact (aE rfl).1
 have an:∀r,A 3 r->gs<r:=λr h=>(ab 3 r h).resolve_right λao=>aD 3 4 r Ω h (W r ao).2;have ap:∀j,¬A j gs:=λj h=>(ab j gs h).elim (λh=>Ω) λh=>by have:=(W gs h).1;omega
 have aF:=aj.lt;obtain⟨av,aP,aQ,aR,aH,aq,aI,h1,ao,aS,aT,aJ,aV,ae⟩:=id al;obtain⟨ae,au⟩:=ae rfl;have aq:v=aH:=by rw[aI] at aa;exact (Z8 aa).symm
 subst aq;have aK:bi (λr=>B r/\r<w.heap.size) R w xs a:=am.mono az (λr U h=>⟨h,U⟩) λ_ _ h=>h;refine kV (pl:=_) (l:=H) aG.p rfl b3.u b3.i b0.i rfl aj aa aJ I aK (λr U aw=>⟨λaL=>(X r U aL.1).1 3 aw.1,au 3 r aw⟩) ⟨λh=>ap 3 h.1,λh=>by have:=(X gs aF h.1).2;omega,λh=>by have:=Y gs h;omega⟩ Ω Ω λak ad ax aM aN=>?_;refine aB _ _ ad (ax.mono λr _ h=>h.elim (λh=>by have:=an r h.1;omega) λh=>Ω) aM (al.gq ax (λr U=>?_) aN (λj r ah U=>?_) λr U=>?_) (λj r U=>?_) (λr ai=>⟨(W r ai).1,?_⟩) λj ah=>?_
 .rcases U with U|rfl
  .exact .inl U
  .exact .inr ⟨λj h=>ap j h.1,λh=>by have:=Y r h;omega⟩
 .rcases U with U|U|U
  .exact ae 3 j r (T9 ah) U
  .exact λh=>(X r U.2 U.1).1 j h.1
  .exact λh=>by have:=h.2;omega
 .rcases U with U|U|U
  .exact au 3 r U
  .exact λh=>by have:=(X r U.2 U.1).2;have:=Y r h;omega
  .exact λh=>by have:=Y r h;omega
 .unfold dU at U;split at U
  .rcases U with U|U|U
   .exact .inl (an r U.1)
   .exact .inl (X r U.2 U.1).2
   .exact .inl Ω
  .exact ab j r U.1
 .unfold dU;rw[if_neg Ω];exact⟨(W r ai).2,by have:=(W r ai).1;omega⟩
 .rw[W8 (T9 ah)]
end
def kW (w:x2) (g:Nat) (k:Int) (sizes:Λ) (s:aF):Prop:=∃av I J U V W,af w g aG [Δ k,av,Δ s.zero,I,J,U,V,W]/\aJ .i64 w av sizes/\Seen ef w [av] sizes/\
 Seen ef w [I] (s.vars.map cu)/\Seen ef w [J] (s.vars.map λx=>decide (x.gone≠0))/\Seen ef w [U] (s.vars.map (·.un))/\Seen ef w [V] (s.funs.map ei)/\Seen ef w [W] (s.elims.map jt)
section
variable {w w':x2} {g:Nat} {v:x1} {k:Int} {sizes:Λ} {s:aF}
theorem kW.ext (h:kW w g k sizes s) (I:Ext w w'):kW w' g k sizes s:=by
 obtain⟨av,J,U,V,W,X,Y,h1,aa,ab,ac,ad,ae,af⟩:=h;exact⟨av,J,U,V,W,X,Y.ext I,h1.ext I,bg aa I,bg ab I,bg ac I,bg ad I,bg ae I,bg af I⟩
theorem iP.box (h:iP w v k sizes s) (I:Ext w w') (J:af w' g aG v.cells.toList):kW w' g k sizes s:=by
 obtain⟨cs,rfl,av,aa,ab,ac,ad,ae,rfl,h1,U,V,W,X,Y,_⟩:=h;obtain⟨_,_,_,ag⟩:=bZ (dZ h1);have c:∀ {α:Type} [am α] {v:x1} {l:List α} {A:aj},am.rep false A ef w [v] l-> ∃a n c,v= .slice a n c:=λh=>by
  obtain⟨_,_,_,_,_,⟨_,b,o,base,cap,e,_⟩,_⟩:=gb h;exact⟨_,_,_,e⟩
 obtain⟨_,_,_,ah⟩:=c U;obtain⟨_,_,_,ai⟩:=c V;obtain⟨_,_,_,ak⟩:=c W;obtain⟨_,_,_,al⟩:=c X;obtain⟨_,_,_,an⟩:=c Y;refine⟨av,aa,ab,ac,ad,ae,?_,(dZ h1).ext I,bg h1 I,bg U I,bg V I,bg W I,bg X I,bg Y I⟩;rw[ag,ah,ai,ak,al,an] at J ⊢;exact J
theorem kW.load {K:x1->Prop} (h:kW w g k sizes s) (I:∀u,iP w u k sizes s->K u):J x3 (x6 aG (Γ g)) w K:=by
 obtain⟨av,U,V,W,X,Y,aa,h1,ab,ac,ad,ae,af,ag⟩:=h;rw[bn aG.p aG.i rfl aa.range];exact I _ ⟨_,rfl,av,U,V,W,X,Y,rfl,ab,ac,ad,ae,af,ag,λh=>by cases h⟩
theorem pT {i:Int} (h:iP w v k sizes s):ak x3 nh [v,Δ i] w λr w'=>r= .bool (decide (0<=i/\i<sizes.length))/\Ext w w':=by
 refine aB func33 ?_;refine bN λg1 U aa I J=>?_;obtain⟨av,ab,af,ag,ah,aj,J,Y,_⟩:=h.box I J;refine aQ (λv V=>v= .bool (decide (0<=i/\i<sizes.length))/\Ext w V) (λ_ _ h=>h) λal W=>?_;rw[ce,ae];refine⟨λX=>?_,λX=>W _ _ ⟨by rw[decide_eq_false];omega,I⟩⟩;rw[ac aG.p rfl,ad (v:=av) Ψ (J.Q1 rfl),aT ai.u Y,aq];refine W _ _ ⟨?_,I⟩;congr 1;exact decide_eq_decide.2 ⟨λh=>⟨X,h⟩,λh=>h.2⟩
theorem pU {S R:aj} {f:et} (h:am.rep (α:=fG) m S R w cs (ei f)):∃az av aL,cs=[az,av,aL,.bool (decide (f.live≠0))]/\Seen ef w [az] f.sc/\Seen ef w [av] f.szs/\Seen ef w [aL] f.cs:=by
 obtain⟨ae,V,A,B,rfl,_,_,_,⟨W,af,ag,ah,rfl,_,_,_,h1,X,Y,ai,aa,rfl,_,_,_,I,J⟩,U⟩:=h;have one:∀ {α:Type} [am α] {m:Bool} {S R:aj} {c:List x1} {l:List α},am.rep m S R w c l-> ∃v,c=[v]:=λh=>by obtain⟨v,ab,_⟩:=h;exact⟨v,ab⟩
 have h1:Seen _ w W f.sc:=h1;have I:Seen _ w X f.szs:=I;have U:V=[.bool (decide (f.live≠0))]:=U;have J:am.rep m aa R w Y f.cs:=J;obtain⟨ac,rfl⟩:=one h1;obtain⟨ad,rfl⟩:=one I;obtain⟨v3,rfl⟩:=one J;subst U;exact⟨ac,ad,v3,rfl,hE h1,hE I,hE J⟩
theorem vi {j:Int} (h:iP w v k sizes s):ak x3 sS [v,Δ j] w λr w'=>r= .bool (decide (0<=j)&&dI s j.toNat)/\Ext w w':=by
 refine aB func31 ?_;refine bN λg1 U ah I J=>?_;obtain⟨av,ai,aj,al,Y,am,J,an,_,_,_,_,aa,_⟩:=h.box I J;refine aQ (λv V=>v= .bool (decide (0<=j)&&dI s j.toNat)/\Ext w V) (λ_ _ h=>h) λao W=>?_;rw[ce,ae];refine⟨λX=>?_,λX=>W _ _ ⟨by rw[decide_eq_false X];rfl,I⟩⟩;rw[ac aG.p rfl,ad (v:=Y) Ψ (J.Q6 rfl),eP b3.u aa,aq,ae,u4];refine⟨λap=>?_,λau=>W _ _ ⟨by unfold dI;rw[Y4 Ω,Bool.and_false],I⟩⟩;obtain⟨f,ab⟩:∃f,s.funs[j.toNat]? =σ f:=⟨_,y0 Ω⟩;rw[ac aG.p rfl,ad (v:=Y) Ψ (J.Q6 rfl)];refine jL (i:=j.toNat) Ω b3.u b0.i aa (by rw[x8,ab];rfl) λb o cs af ag=>?_;obtain⟨aw,ax,v3,rfl,_⟩:=pU ag;rw[ac b0.p rfl,ad (v:=.bool (decide (f.live≠0))) Ψ (af 3 _ rfl)];exact W _ _ ⟨by unfold dI;rw[ab,decide_eq_true X,V6],I⟩
theorem Lo {f:et} {W:Λ} (h:iP w v k sizes s) (Y:eB k sizes s) (X:s.funs[j]? =σ f) (aa:aJ .i64 w aE W):ak x3 wX [v,Δ (j:Int),aE] w λr w'=>r=Δ (nC (bm f.szs) W)/\Ext w w':=by
 refine aB func84 ?_;refine bN λg1 U al I J=>?_;obtain⟨av,am,an,ao,ab,ap,J,aq,_,_,_,_,ae,_⟩:=h.box I J;rw[ac aG.p rfl,ad (v:=ab) Ψ (J.Q6 rfl)];refine jL (i:=j) rfl b3.u b0.i ae (by rw[x8,X];rfl) λb o cs af ag=>?_;obtain⟨au,ah,v3,rfl,_,ai,_⟩:=pU ag;rw[ac b0.p rfl,ac aZ.p rfl,ad (v:=ah) Ψ (af 1 _ rfl)];refine (Gr (dZ ai) (pO Y (x5 X)).1 (aa.ext I)).mono ?_;rintro _ V _ ⟨rfl,aj⟩;exact⟨rfl,I.trans aj⟩
end
end Go.Proofs.YtgbkinibgjmodaaGreatDoor
namespace Go.Vc
open Go Go.RowKit
section
variable {P:W7} {w:x2} {α:Type} [am α] {S R:aj}
theorem pV {b:Nat} (I:P.underlying t=σ (.slice e)) (hi:aO P e (am.n α) b z)
  (J:∀v w',Ext w w'->bi (λr=>w.heap.size<=r) R w' [v] ([]:List α)->K v w'):aA P (Z7 t 0 #[]) w K:=
 iw I hi Ω (cs:=#[]) (by simp[Instr.fill]) λg w' X U V=>J _ w' U (by
  have hm:bU w' g e (am.n α) (.slice (σ ⟨g,0,ν⟩) 0 0) 0 []:=bU.full (by simpa using V) Ξ (by simp[maxLen]);exact⟨_,rfl,[],g,λ_ _=>False,⟨λ_ _ h=>h.elim,λ_ _ h=>h,λ_ _ _ _ _ h=>h.elim⟩,⟨rfl,λi c a W=>by simp at W⟩,mg hm (.inr (.inl Ω)),λ_=>⟨.inr Ω,e,hm⟩⟩)
theorem pW {V:r9} {b:Nat} {x:x1} {S':aj} {l':List α} (U:P.underlying t=σ (.slice e)) (hi:aO P e (am.n α) b z) (W:z.cells.size=am.n α)
  (h:bi S R w [v] ([]:List α)) (X:am.rep m S' R w [x] l') (Y:∀ {F:aj} {c:List x1} {a:α},am.rep m F R w c a->bi (λ_=>False) R w c a)
  (aa:∀r,r<w.heap.size->S r->¬R r) (ab:l'.length*b<=140737488355328) (ac:l'.length<=9223372036854775807)
  (ad:∀J w',bi (λr=>S r\/w.heap.size<=r) R w' [J] l'->ag S w w'->K J w'):aA P (l9 #[t,t] V #[v,x]) w K:=by
 obtain⟨vs,g,F,ak,he,I,_⟩:=gb X;refine xF (l:=[]) (l':=l') (us:=vs) (G:=λ_ _=>False) U U hi W h I.sl ⟨he.1,λi c a ae af=>Y (he.2 i c a ae af)⟩ (λ_ _ _ _ h=>h.elim) (λr ah h=>⟨λ_ h=>h,aa r ah h⟩) (by simpa using ab) (by simpa using ac) λJ w' h1 ai=>ad J w' (am.mono h1 (λr _ h=>?_) λ_ _ h=>h) ai;rcases h with h|⟨_,h⟩|h
 .exact .inl h
 .exact h.elim
 .exact .inr h
end
end Go.Vc
namespace Go.Proofs.YtgbkinibgjmodaaGreatDoor
open Go Go.Vc Go.RowKit Go.Proofs Go.Proofs.Tryz
set_option maxRecDepth 100000
theorem oi {α:Type} [am α] {S R:aj} {l:List α} (h:am.rep m S R w [v] l):∃a n c,v= .slice a n c:=by
 obtain⟨_,_,_,_,_,⟨_,b,o,base,cap,e,_⟩,_⟩:=gb h;exact⟨_,_,_,e⟩
theorem BP {cq:Nat->aj} {R:aj} {s:aF} (h:fp true cq R w cs k sizes s) (X:∀r,R r->r<w.heap.size) (a6:eB k sizes s) (fc:s.funs.length<=1000) (he:s.elims.length<=1000):
  ak x3 sT [.agg cs.toArray] w λv w'=>Ext w w'/\ ∃A bo,v= .agg bo.toArray/\fp true A R w' bo k sizes s/\ ∀q r,A q r->w.heap.size<=r:=by
 have fd:=a6.eu.2.1;have fe:=a6.vars;obtain⟨av,an,ay,az,aA,ah,rfl,cr,bJ,ct,cw,bK,bL,dj⟩:=be.old h;refine aB func45 ?_;refine bN λg1 U ff cA aC=>?_;have aC:af U g1 aG [Δ k,av,Δ s.zero,an,ay,az,aA,ah]:=by
  obtain⟨_,_,_,dk⟩:=oi cr;obtain⟨_,_,_,dl⟩:=oi bJ;obtain⟨_,_,_,dm⟩:=oi ct;obtain⟨_,_,_,dn⟩:=oi cw;obtain⟨_,_,_,dp⟩:=oi bK;obtain⟨_,_,_,dq⟩:=oi bL;rw[dk,dl,dm,dn,dp,dq] at aC ⊢;exact aC
 have dr:∀u∈([Δ k,av,Δ s.zero,an,ay,az,aA,ah]:List x1),u.oneCell'=true:=(be.len h).2;refine bp aG.i λaO V fg bM cB=>?_;rw[bn aG.p aG.i rfl (aC.ext bM).range];refine bp aG.i λgs fh fi bO ds=>?_;refine bH (vs:=[Δ k,av,Δ s.zero,an,ay,az,aA,ah]) aG.i rfl rfl dr ds λaD cC fj cD=>?_;have fk:=cA.size;have fm:=bM.size;have z3:=bO.size;have fo:=aC.lt;have fq:=cB.lt;have bQ:Ext U aD:=(bM.trans bO).then cC λr J he=>by have he:r=gs:=he;omega
 have dt:=(cB.ext bO).aa cC λhe=>by have he:aO=gs:=he;omega
 have cE:=cA.trans bQ;have bR:∀r,R r->r<gs:=λr J=>by have:=X r J;omega
 refine pV (α:=Bool) (R:=R) fs.u eN.i λv5 aE aP du=>?_;have a8:=bQ.trans aP;have z4:=bQ.size;have z5:=aP.size;rw[ac aG.p rfl,ad (v:=ay) Ψ ((aC.ext a8).Q4 rfl)];refine pW (α:=Bool) fs.u eN.i rfl du (bg (bg ct cE) aP) (λh=>h) (λr J I al=>by have:=X r al;omega) Θ Θ λbS bl bT cF=>?_;have a7:∀ {ap au:x2} {b:Nat} {e:r9} {c:List x1},ag (λr=>gs<=r) ap au->b<gs->af ap b e c->af au b e c:=λbU ft h=>h.aa bU λI=>by have I:gs<=_:=I;omega
 have ba:∀ {ap au:x2},Ext w ap->ag (λr=>gs<=r) ap au->Ext w au:=λdv bU=>dv.then bU λr J h=>by have h:gs<=r:=h;omega
 have fu:=cD.lt;have bV:ag (λr=>gs<=r) aE bl:=cF.mono λr _ h=>by have h:aD.heap.size<=r:=h;omega
 have dw:af bl gs aG [Δ k,av,Δ s.zero,an,ay,az,aA,ah]:=(cD.ext aP).aa cF λh=>by have h:aD.heap.size<=gs:=h;omega
 rw[ac aG.p rfl];refine bh (g:=gs) (o:=3) cz.i Ψ rfl dw Ξ λfv dx fw dy=>?_;rw[ac aG.p rfl];refine bh (g:=gs) (o:=4) fs.i (jK bT) (gd bT) dy Ξ λfy dz fz dA=>?_;rw[ac aG.p rfl];refine bh (g:=gs) (o:=5) dJ.i Ψ rfl dA Ξ λfA dC fB dD=>?_;rw[ac aG.p rfl];refine bh (g:=gs) (o:=6) b3.i Ψ rfl dD Ξ λbm dE fC bW=>?_;have bW:af bm gs aG [Δ k,av,Δ s.zero,.slice ν 0 0,bS,.slice ν 0 0,.slice ν 0 0,ah]:=bW;have bX:∀ {ap au:x2},ag (λr=>r=gs) ap au->ag (λr=>gs<=r) ap au:=λh=>h.mono λr _ h=>by have h:r=gs:=h;omega
 have bq:ag (λr=>r=gs) bl bm:=((dx.trans dz).trans dC).trans dE;have br:Ext w bm:=ba (ba (cE.trans aP) bV) (bX bq);have cG:=a7 (bX bq) Ω (a7 bV Ω (aC.ext a8));have dF:=a7 (bX bq) Ω (a7 bV Ω (dt.ext aP));obtain⟨fD,dG⟩:=dj rfl;let Z:aj:=λr=>cq 4 r/\r<w.heap.size;have cH:∀r,Z r->r<gs:=λr h=>by have:=h.2;omega
 let aH:Nat->aj:=λj r=>if j=1 then aD.heap.size<=r else if j=4 then Z r else False;have dH:be true aH R bm [Δ k,av,Δ s.zero,.slice ν 0 0,bS,.slice ν 0 0,.slice ν 0 0,ah] k sizes s.zero [] (s.vars.map λx=>decide (x.gone≠0)) [] [] (s.elims.map jt):=by
  refine⟨_,_,_,_,_,_,rfl,bg cr br,fx,?_,fx,fx,bg bL br,λ_=>⟨λi j r fE h1 I=>?_,λi r h1 I=>?_⟩⟩
  .have dI:bi (λr=>aD.heap.size<=r) R bl [bS] (s.vars.map λx=>decide (x.gone≠0)):=am.mono bT (λr _ h=>by
    rcases h with h|h
    .exact h
    .show aD.heap.size<=r;omega) λ_ _ h=>h
   refine am.aa dI bq λr J h1 I=>?_;have I:r=gs:=I;subst I;rcases h1 with h1|h1
   .have h1:aD.heap.size<=r:=h1;omega
   .have:=X r h1;omega
  .simp only[aH] at h1 I;split at h1<;>split at I
   .omega
   .split at I
    .have:=I.2;omega
    .exact I
   .split at h1
    .have:=h1.2;omega
    .exact h1
   .split at h1<;>split at I
    .omega
    .exact I
    .exact h1
    .exact h1
  .simp only[aH] at h1;have:=X r I;split at h1
   .omega
   .split at h1
    .exact dG 4 r h1 I
    .exact h1
 have dK:∀j r,aH j r->gs<r\/Z r:=λj r h=>by
  simp only[aH] at h;split at h
  .exact .inl Ω
  .split at h
   .exact .inr h
   .exact h.elim
 have dL:∀r,Z r->r<gs/\aH 4 r:=λr h=>⟨cH r h,h⟩;have dM:=bg bJ br;rw[ac aG.p rfl,ad (v:=an) Ψ (cG.Q3 rfl),eP cz.u dM,u4];refine bP.range s.vars.length (λi aE=>Ext w aE/\af aE g1 aG [Δ k,av,Δ s.zero,an,ay,az,aA,ah]/\af aE aO aG z12/\ ∃A cs,af aE gs aG cs/\(∀q r,A q r->gs<r\/Z r)/\(∀r,Z r->r<gs/\A 4 r)/\
  be true A R aE cs k sizes s.zero ((s.vars.take i).map cu) (s.vars.map λx:e9=>decide (x.gone≠0)) ((s.vars.take i).map λx:e9=>x.un) [] (s.elims.map jt)) Ω ⟨br,cG,dF,aH,_,bW,dK,dL,dH⟩ ?_ ?_
 .rintro i dN dO hi ⟨bt,bu,bY,A,cs,aQ,bZ,bb,bc⟩ dP;obtain⟨x,bw⟩:∃x,s.vars[i]? =σ x:=⟨_,y0 hi⟩;obtain⟨z,cI⟩:∃z,sizes[i]? =σ z:=⟨_,y0 Ω⟩;have fF:=(a6.var i x z bw cI).1;have fH:=a6.eu.2.2 z (x5 cI);have fI:(cu x).length<=32:=by
   unfold cu;refine Y9 (S9 _ _) ?_;rw[u4,List.length_range];omega
  have dQ:=aQ.lt;refine Υ λ_=>?_;intro aR aI _ _;have b1:=bt.trans aI;have fJ:=aI.size;have cJ:=bu.ext aI;obtain⟨d0,cK⟩:=bc.at 3 Ω;rw[ac aG.p rfl,ad (v:=d0) Ψ ((aQ.ext aI).Q3 cK),ac aG.p rfl,ad (v:=an) Ψ (cJ.Q3 rfl)];refine jL (α:=Λ) (a:=cu x) rfl cz.u ai.i (bg bJ b1) (by rw[x8,bw];rfl) λfK fL dR dS cL=>?_;obtain⟨cM,rfl⟩:∃u,dR=[u]:=by obtain⟨u,hu,_⟩:=cL;exact⟨u,hu⟩
  rw[ad (v:=cM) Ψ (by have:=dS 0 cM rfl;simpa using this)];refine pV (α:=Int) (R:=R) ai.u ab.i λfM fN bx dT=>?_;refine⟨.inl bx,?_⟩;refine pW (α:=Int) ai.u ab.i rfl dT (bg cL bx) (λh=>h) (λr J I al=>by have:=X r al;have:=b1.size;omega) Ω Ω λcN cO cP cQ=>?_;have fO:=bx.size;have fP:=cQ.size;have cR:Ext aR cO:=bx.then cQ λr J h=>by have h:aR.heap.size<=r:=h;omega
  refine⟨.inl cR,?_⟩;have cS:bi (λr=>aR.heap.size<=r) R cO [cN] (cu x):=am.mono cP (λr _ h=>by
   rcases h with h|h
   .exact h
   .show aR.heap.size<=r;omega) λ_ _ h=>h
  refine gN cz.u ai.i Φ (a:=cu x) (cs:=[cN]) (jK cP) cS λfQ fR a8 _ dV=>?_;have aS:=cR.trans a8;refine⟨.inl aS,?_⟩;have dW:=bc.old.ext (aI.trans aS);refine be.Ll dW (aQ.ext (aI.trans aS)) cK (λq r h=>bZ q r h.1) (λr h=>⟨(bb r h).1,(bb r h).2,by have:=(bb r h).1;omega⟩) bR dV (bg cS a8) (λr J h=>⟨λj I=>by have h:aR.heap.size<=r:=h;omega,by have h:aR.heap.size<=r:=h;omega⟩) Θ λfS fU dX b2 b4 cT dY b5 _=>?_;have dZ:Ext w dX:=ba (b1.trans aS) b2;have ea:=a7 b2 Ω (cJ.ext aS);have eb:=a7 b2 Ω ((bY.ext aI).ext aS);have fV:=b4.lt;intro aT aJ _ _;have b6:=dZ.trans aJ;have fW:=aJ.size;have cU:=ea.ext aJ;obtain⟨ec,cV⟩:=cT.at 5 Ω;rw[ac aG.p rfl,ad (v:=ec) Ψ ((b4.ext aJ).Q5 cV),ac aG.p rfl,ad (v:=az) Ψ (cU.Q5 rfl)];refine jL (α:=Λ) (a:=x.un) rfl dJ.u aw.i (bg cw b6) (by rw[x8,bw];rfl) λfX fY bz ed cW=>?_;obtain⟨cX,rfl⟩:∃u,bz=[u]:=by obtain⟨u,hu,_⟩:=cW;exact⟨u,hu⟩
  rw[ad (v:=cX) Ψ (by have:=ed 0 cX rfl;simpa using this)];refine pV (α:=Int) (R:=R) aw.u ao.i λfZ ga bA ee=>?_;refine⟨.inl bA,?_⟩;refine pW (α:=Int) aw.u ao.i rfl ee (bg cW bA) (λh=>h) (λr J I al=>by have:=X r al;have:=b6.size;omega) Ω Ω λcY cZ c0 c1=>?_;have gb:=bA.size;have gc:=c1.size;have c2:Ext aT cZ:=bA.then c1 λr J h=>by have h:aT.heap.size<=r:=h;omega
  refine⟨.inl c2,?_⟩;have c3:bi (λr=>aT.heap.size<=r) R cZ [cY] x.un:=am.mono c0 (λr _ h=>by
   rcases h with h|h
   .exact h
   .show aT.heap.size<=r;omega) λ_ _ h=>h
  refine gN dJ.u aw.i Φ (a:=x.un) (cs:=[cY]) (jK c0) c3 λgf gg c4 _ ef=>?_;have aU:=c2.trans c4;refine⟨.inl aU,?_⟩;have eg:=cT.old.ext (aJ.trans aU);refine be.Lm eg (b4.ext (aJ.trans aU)) cV (λq r h=>dY q r h.1) (λr h=>⟨(b5 r h).1,(b5 r h).2,by have:=(b5 r h).1;omega⟩) bR ef (bg c3 c4) (λr J h=>⟨λj I=>by have h:aT.heap.size<=r:=h;omega,by have h:aT.heap.size<=r:=h;omega⟩) Θ λeh ej gh b7 ek em en eo _=>?_;rw[aN];refine dP _ ⟨ba (b6.trans aU) b7,a7 b7 Ω (cU.ext aU),a7 b7 Ω ((eb.ext aJ).ext aU),eh,ej,ek,en,eo,?_⟩;rw[r8,bw,Z4,Z3,Z3];exact em
 rintro dN dO ⟨bt,bu,bY,A,cs,aQ,bZ,bb,bc⟩;rw[o9] at bc;rw[aq,ae];refine⟨λh=>Ω,λ_=>?_⟩;have ep:=bg bK bt;have dQ:=aQ.lt;rw[ac aG.p rfl,ad (v:=aA) Ψ (bu.Q6 rfl),eP b3.u ep,u4];refine bP.range s.funs.length (λj W=>Ext w W/\af W g1 aG [Δ k,av,Δ s.zero,an,ay,az,aA,ah]/\af W aO aG z12/\ ∃A cs,af W gs aG cs/\(∀q r,A q r->gs<r\/Z r)/\(∀r,Z r->r<gs/\A 4 r)/\
  be true A R W cs k sizes s.zero (s.vars.map cu) (s.vars.map λx:e9=>decide (x.gone≠0)) (s.vars.map λx:e9=>x.un) ((s.funs.take j).map ei) (s.elims.map jt)) Ω ⟨bt,bu,bY,A,cs,aQ,bZ,bb,bc⟩ ?_ ?_
 .rintro j W er c5 ⟨ax,b8,bB,bd,bz,aV,bC,bf,aK⟩ es;obtain⟨f,b9⟩:∃f,s.funs[j]? =σ f:=⟨_,y0 c5⟩;obtain⟨_,gi,gj⟩:=pO a6 (x5 b9);have et:=aV.lt;refine Υ λ_=>?_;refine iy b0.p rfl b3.u b0.i (bg bK ax) (by rw[x8,b9];rfl) λgk cb=>?_;have ev:=am.one cb;have gl:=cb;obtain⟨c6,c7,ew,ey,rfl,_,_,_,⟨bD,c8,ez,eA,rfl,_,_,_,aW,c9,da,gm,eC,rfl,_,_,_,aX,aY⟩,cc⟩:=cb;have aW:Seen R W bD f.sc:=aW;have aX:Seen R W c9 f.szs:=aX;have aY:am.rep true eC R W da f.cs:=aY;have cc:c7=[.bool (decide (f.live≠0))]:=cc;obtain⟨bj,rfl⟩:∃u,bD=[u]:=by obtain⟨u,hu,_⟩:=aW;exact⟨u,hu⟩
  obtain⟨a1,rfl⟩:∃u,c9=[u]:=by obtain⟨u,hu,_⟩:=aX;exact⟨u,hu⟩
  obtain⟨v3,rfl⟩:∃u,da=[u]:=by obtain⟨u,hu,_⟩:=aY;exact⟨u,hu⟩
  subst cc;refine bp b0.i λaL gn gp eD eE=>?_;refine bH (vs:=[bj,a1,v3,.bool (decide (f.live≠0))]) b0.i rfl rfl ev eE λY eF gq bE=>?_;have cd:Ext W Y:=eD.then eF λr J he=>by have he:r=aL:=he;omega
  refine pV (α:=Int) (R:=R) aw.u ao.i λgr gt bF eH=>?_;have db:=cd.trans bF;rw[ac b0.p rfl,ac aZ.p rfl,ad (v:=v3) Ψ ((bE.ext bF).cell (o:=0+0+2) rfl)];refine pW (α:=Int) aw.u ao.i rfl eH (bg aY db) (λh=>h) (λr J I al=>by have:=X r al;have:=(ax.trans cd).size;omega) Ω Ω λa2 gu ce cg=>?_;have gv:=cd.size;have gw:=bF.size;have gx:=cg.size;have eI:=(bE.ext bF).aa cg λh=>by have h:Y.heap.size<=aL:=h;have:=bE.lt;omega
  rw[ac b0.p rfl,ac aZ.p rfl];refine bh (g:=aL) (o:=2) aw.i (jK ce) (gd ce) eI Ξ λbG dc gy ch=>?_;have ch:af bG aL b0 [bj,a1,a2,.bool (decide (f.live≠0))]:=ch;have gz:W.heap.size<=aL:=Ω
  have gA:=bE.lt;have bI:Ext W bG:=(db.then cg λr J h=>by have h:Y.heap.size<=r:=h;omega).then dc λr J h=>by have h:r=aL:=h;omega
  have eJ:bi (λr=>Y.heap.size<=r) R bG [a2] f.cs:=am.mono (am.aa ce dc λr J h I=>by
   have I:r=aL:=I;rcases h with h|h
   .rcases h with h|h
    .have h:Y.heap.size<=r:=h;omega
    .omega
   .have:=X r h;have:=ax.size;omega) (λr _ h=>by
    rcases h with h|h
    .exact h
    .show Y.heap.size<=r;omega) λ_ _ h=>h
  have own:bi (α:=fG) (λr=>Y.heap.size<=r) R bG [bj,a1,a2,.bool (decide (f.live≠0))] (ei f):=
   ⟨[bj,a1,a2],[.bool (decide (f.live≠0))],λr=>Y.heap.size<=r,λ_=>False,rfl,λ_ h=>h,λ_ h=>h.elim,λ_ _ _ h=>h,⟨[bj],[a1,a2],λ_=>False,λr=>Y.heap.size<=r,rfl,λ_ h=>h.elim,λ_ h=>h,λ_ _ h=>h.elim,bg aW bI,[a1],[a2],λ_=>False,λr=>Y.heap.size<=r,rfl,λ_ h=>h.elim,λ_ h=>h,λ_ _ h=>h.elim,bg aX bI,eJ⟩,rfl⟩
  obtain⟨f0,dd⟩:=aK.at 6 Ω;rw[ac aG.p rfl,ad (v:=f0) Ψ ((aV.ext bI).Q6 dd),bn b0.p b0.i rfl ch.range];refine gN b3.u b0.i Φ rfl own λgB gC de _ eK=>?_;have bk:=bI.trans de;have eL:=aK.old.ext bk;refine be.Ln eL (aV.ext bk) dd (λq r h=>bC q r h.1) (λr h=>⟨(bf r h).1,(bf r h).2,by have:=(bf r h).1;omega⟩) bR eK (bg own de) (λr J h=>⟨λj I=>by have h:Y.heap.size<=r:=h;omega,by have h:Y.heap.size<=r:=h;omega⟩) Θ λeM eQ gD ci eR eS eU eV _=>?_;rw[aN];refine es _ ⟨ba (ax.trans bk) ci,a7 ci Ω (b8.ext bk),a7 ci Ω (bB.ext bk),eM,eQ,eR,eU,eV,?_⟩;rw[r8,b9,Z4,Z3];exact eS
 rintro W er ⟨ax,b8,bB,bd,bz,aV,bC,bf,aK⟩;rw[o9] at aK;rw[aq,ae];refine⟨λh=>Ω,λ_=>?_⟩;have et:=aV.lt;have gE:=ax.size;refine pV (α:=ii) (R:=R) e0.u ca.i λgF eW aM eX=>?_;have gH:=aM.size;rw[ac aG.p rfl,ad (v:=ah) Ψ ((b8.ext aM).cell (o:=0+7) rfl)];refine pW (α:=ii) e0.u ca.i rfl eX (bg bL (ax.trans aM)) (λh=>?_) (λr J I al=>by have:=X r al;omega) Θ Θ λcj gI ck cl=>?_
 .obtain⟨c6,c7,ew,ey,rfl,_,_,_,aW,bD,c8,ez,eA,rfl,_,_,_,aX,aY⟩:=h;exact⟨c6,_,λ_=>False,λ_=>False,rfl,λ_ h=>h,λ_ h=>h,λ_ _ h=>h.elim,aW,bD,c8,λ_=>False,λ_=>False,rfl,λ_ h=>h,λ_ h=>h,λ_ _ h=>h.elim,aX,aY⟩
 have gJ:=cl.size;have eY:=(aV.ext aM).aa cl λh=>by have h:W.heap.size<=gs:=h;omega
 rw[ac aG.p rfl];refine bh (g:=gs) (o:=7) e0.i (jK ck) (gd ck) eY (by rw[(be.len aK).1];omega) λcm df gK eZ=>?_;have cn:ag (λr=>W.heap.size<=r\/r=gs) eW cm:=(cl.mono λr _ h=>.inl h).trans (df.mono λr _ h=>.inr h);have e1:bi (λr=>W.heap.size<=r) R cm [cj] (s.elims.map jt):=am.mono (am.aa ck df λr J h I=>by
  have I:r=gs:=I;rcases h with h|h
  .rcases h with h|h
   .have h:W.heap.size<=r:=h;omega
   .omega
  .have:=X r h;omega) (λr _ h=>by
   rcases h with h|h
   .exact h
   .show W.heap.size<=r;omega) λ_ _ h=>h
 have e2:=(aK.old).ext aM;have e3:∀j,¬bd j gs:=λj h=>(bC j gs h).elim (λh=>Ω) λh=>by have:=cH gs h;omega
 have e4:∀i j r,i≠j->bd i r->¬bd j r:=by obtain⟨_,_,_,_,_,_,_,_,_,_,_,_,_,e5⟩:=id aK;exact (e5 rfl).1
 have dg:=e2.BN (x:=cj) cn (λr J=>?_) e1 (λj r c5 J I=>by have J:W.heap.size<=r:=J;have:=I.2;omega) (λr J I=>by have J:W.heap.size<=r:=J;have:=X r I;omega)
 rotate_left
 .refine .inr ⟨λj I=>?_,λI=>?_⟩
  .rcases J with J|rfl
   .have:=I.2;omega
   .exact e3 j I.1
  .have:=X r I;rcases J with J|J<;>omega
 obtain⟨cp,e6⟩:=dg.len;have e7:af cm aO aG z12:=(bB.ext aM).aa cn λh=>by
  rcases h with h|h
  .have:=bB.lt;omega
  .omega
 rw[bn aG.p aG.i cp eZ.range];refine bH (vs:=bz.set 7 cj) aG.i cp rfl e6 e7 λgL dh gM e8=>?_;rw[eO aG.p aG.i cp e8.range];have di:∀q r,dU (λi r=>bd i r/\r<W.heap.size) 4 (λr=>W.heap.size<=r) q r->gs<r:=λq r h=>by
  unfold dU at h;split at h
  .have h:W.heap.size<=r:=h;omega
  .rename_i fa;exact (bC q r h.1).resolve_right λI=>e4 q 4 r fa h.1 (bf r I).2
 have fb:=dg.aa dh λr J h he=>by
  have he:r=aO:=he;rcases h with⟨q,h⟩|h
  .have:=di q r h;omega
  .have:=X r h;omega
 refine⟨((ax.trans aM).then cn λr J h=>?_).then dh λr J h=>by have h:r=aO:=h;omega,_,_,rfl,fb,λq r h=>by have:=di q r h;omega⟩;rcases h with h|h<;>omega
theorem r2 {T:Nat->Prop} (h:ag S w w') (k:ag T w w'):ag (λr=>S r/\T r) w w':=
 ⟨h.size,λr o J I V=>by
  by_cases U:S r
  .exact k.a7 r o J I λW=>V ⟨U,W⟩
  .exact h.a7 r o J I U⟩
structure dh where
 d:Int
 i:Int
 v:Int
 j:Int
 c:Int
 t:Λ
 sc:Λ
 co:Λ
 kX:Bool
def dh.ok (a:dh):Prop:=(0<=a.d/\a.d<256)/\(-9223372036854775808<=a.i/\a.i<9223372036854775808)/\(-9223372036854775808<=a.v/\a.v<9223372036854775808)/\(-9223372036854775808<=a.j/\a.j<9223372036854775808)/\(-9223372036854775808<=a.c/\a.c<9223372036854775808)/\(∀x∈a.t,-9223372036854775808<=x/\x<9223372036854775808)/\(∀x∈a.sc,-9223372036854775808<=x/\x<9223372036854775808)/\ ∀x∈a.co,0<=x/\x<65536
def pX (w:x2) (df:x1) (a:dh):Prop:=a.ok/\ ∃aE az ck,df= .agg #[.int .u8 a.d,Δ a.i,Δ a.v,Δ a.j,Δ a.c,aE,az,ck,.bool a.kX]/\aJ .i64 w aE a.t/\aJ .i64 w az a.sc/\aJ .u16 w ck a.co
theorem pX.ext {df:x1} {a:dh} (h:pX w df a) (I:Ext w w'):pX w' df a:=by
 obtain⟨J,aE,az,ck,h1,U,V,W⟩:=h;exact⟨J,aE,az,ck,h1,U.ext I,V.ext I,W.ext I⟩
def b9 (k:Int) (a:dh):Int:=if a.kX then a.c.emod 18446744073709551616 % (k+1) else a.c
structure dV (w:x2) (g:Nat) (k:Int) (a:dh) (aE az ck:x1) (B:Nat):Prop where
 cZ:af w g aR [.int .u8 a.d,Δ a.i,Δ a.v,Δ a.j,Δ (b9 k a),aE,az,ck,.bool a.kX]
 t:∃g,au .i64 ab w g aE (a.t.take 40)
 sc:∃g,au .i64 ab w g az (a.sc.take 4)
 low:B<=g/\ ∀r,leads aE r\/leads az r->B<=r
theorem dV.aa {g:Nat} {a:dh} {ck:x1} {S:aj} (h:dV w g k a aE az ck B) (U:ag S w w') (V:∀r,r<w.heap.size->S r->r<B):dV w' g k a aE az ck B:=by
 obtain⟨h1,⟨ab,X⟩,⟨ac,Y⟩,ad,W⟩:=h;refine⟨h1.aa U λI=>?_,⟨ab,bc X U λr J I=>?_⟩,⟨ac,bc Y U λr J I=>?_⟩,ad,W⟩
 .have:=V g h1.lt I;omega
 .obtain⟨ae,af⟩:=bA X J;have:=V r Ω I;have:=W r (.inl J);omega
 .obtain⟨ae,af⟩:=bA Y J;have:=V r Ω I;have:=W r (.inr J);omega
theorem dV.ext {g:Nat} {a:dh} {ck:x1} (h:dV w g k a aE az ck B) (I:Ext w w'):dV w' g k a aE az ck B:=h.aa (I.aa λ_=>False) λ_ _ h=>h.elim
theorem iQ {A R:aj} {n:aV} {s:aF} {t:aD} (h:b7 w al ah A R n s t):∀r,A r\/R r->r<w.heap.size:=λr I=>by
 obtain⟨V,W,X,Y,⟨_,_,J,U⟩,_⟩:=h.1;exact I.elim (U r) (J r)
structure bK (w:x2) (al ah an:Nat) (A R:aj) (A9:Nat->aj) (aP:aj) (n:aV) (s u:aF) (t:aD) (h:List aD) (cs:List x1):Prop where
 b8:b7 w al ah A R n s t
 gG:ds t h
 box:af w an aG cs
 doc:fp true A9 aP w cs n.k n.sizes u
 apart:∀q r,A9 q r->¬A r/\¬R r/\r≠an
 read:∀r,aP r->¬dg w r/\r<w.heap.size/\r≠an
 out:¬A an/\¬R an
section
variable {w w':x2} {al ah an:Nat} {A R:aj} {A9:Nat->aj} {aP:aj} {n:aV} {s u:aF} {t:aD} {h:List aD} {cs:List x1}
theorem bK.ext (p:bK w al ah an A R A9 aP n s u t h cs) (J:Ext w w'):bK w' al ah an A R A9 aP n s u t h cs:=
 ⟨p.b8.ext J,p.gG,p.box.ext J,p.doc.ext J,p.apart,λr U=>⟨λh=>(p.read r U).1 (lD (λo V I _=>J.a7 r o V I) h),by have:=(p.read r U).2.1;have:=J.size;omega,(p.read r U).2.2⟩,p.out⟩
theorem bK.prog {X R':aj} {s':aF} {Y:aD} {h':List aD} (p:bK w al ah an A R A9 aP n s u t h cs) (ab:ag (dg w) w w') (V:Grow A w X w') (ad:b7 w' al ah X R' n s' Y) (W:ds Y h') (ac:∀r,R' r->R r\/B<=r) (ae:∀q r,A9 q r->r<w.heap.size->r<B) (am:an<B):
  bK w' al ah an X R' (λq r=>A9 q r/\r<w.heap.size) aP n s' u Y h' cs:=by
 have ao:=p.box.lt;have z:=ab.size;refine⟨ad,W,p.box.aa V.1 p.out.1,be.aa p.doc.old (r2 ab V.1) λr U h W=>?_,λq r h=>⟨λJ=>?_,λU=>(ac r U).elim (p.apart q r h.1).2.1 λaf=>by have:=ae q r h.1 h.2;omega,(p.apart q r h.1).2.2⟩,λr U=>⟨λh=>?_,by have:=(p.read r U).2.1;omega,(p.read r U).2.2⟩,λJ=>?_,λU=>(ac an U).elim p.out.2 λaf=>Ω⟩
 .rcases h with⟨q,h⟩|h
  .exact (p.apart q r h.1).1 W.2
  .exact (p.read r h).1 W.1
 .rcases V.2.1 r J with J|J
  .exact (p.apart q r h.1).1 J
  .have:=h.2;omega
 .exact (p.read r U).1 (lD (λo ai I ak=>ab.a7 r o ai I ak) h)
 .rcases V.2.1 an J with J|J
  .exact p.out.1 J
  .omega
theorem bK.vj {S:aj} {bL:Nat->aj} {u':aF} {bo:List x1} (p:bK w al ah an A R A9 aP n s u t h cs) (V:ag S w w') (Y:∀r,r<w.heap.size->S r->(∃q,A9 q r)\/r=an) (ab:af w' an aG bo) (ac:fp true bL aP w' bo n.k n.sizes u') (ad:∀q r,bL q r->(∃W,A9 W r)\/(¬A r/\¬R r/\r≠an)):
  bK w' al ah an A R bL aP n s u' t h bo:=by
 have am:=p.box.lt;have z:=V.size;have ae:∀q r,A9 q r->¬aP r:=by obtain⟨_,_,_,_,_,_,_,_,_,_,_,_,_,ai⟩:=p.doc;exact (ai rfl).2
 refine⟨⟨p.b8.1.aa V λr U h I=>?_,p.b8.2⟩,p.gG,ab,ac,λq r h=>?_,λr U=>⟨λh=>(p.read r U).1 (lD (λo ak I _=>V.a7 r o ak I λJ=>?_) h),by have:=(p.read r U).2.1;omega,(p.read r U).2.2⟩,p.out⟩
 .rcases Y r U I with⟨q,J⟩|J
  .exact h.elim (p.apart q r J).1 (p.apart q r J).2.1
  .subst J;exact h.elim p.out.1 p.out.2
 .rcases ad q r h with⟨W,J⟩|J
  .exact p.apart W r J
  .exact J
 .rcases Y r (p.read r U).2.1 J with⟨q,X⟩|X
  .exact ae q r X U
  .exact (p.read r U).2.2 X
theorem bK.Lp {S:aj} {bL:Nat->aj} {u':aF} {bo:List x1} (p:bK w al ah an A R A9 aP n s u t h cs) (J:∀r,A r\/R r->r<B) (ab:an<B) (U:ag S w w') (V:∀r,r<w.heap.size->S r->(∃q,A9 q r)\/r=an) (W:af w' an aG bo) (X:fp true bL aP w' bo n.k n.sizes u') (Y:∀q r,bL q r->(∃aa,A9 aa r)\/B<=r):
  bK w' al ah an A R bL aP n s u' t h bo:=
 p.vj U V W X λq r h=>(Y q r h).imp id λac=>⟨λI=>by have:=J r (.inl I);omega,λI=>by have:=J r (.inr I);omega,Ω⟩
theorem bK.vk {S:aj} {bL:Nat->aj} {u':aF} {bo:List x1} (p:bK w al ah an A R A9 aP n s u t h cs) (I:ag S w w') (J:∀r,r<w.heap.size->S r->(∃q,A9 q r)\/r=an) (U:af w' an aG bo) (V:fp true bL aP w' bo n.k n.sizes u') (W:∀q r,bL q r->(∃X,A9 X r)\/w.heap.size<=r):
  bK w' al ah an A R bL aP n s u' t h bo:=p.Lp (iQ p.b8) p.box.lt I J U V W
theorem bK.look (p:bK w al ah an A R A9 aP n s u t h cs):kW w an n.k n.sizes u:=by
 refine iP.box p.doc.Ld (Ext.refl _) ?_;have:=p.box;exact this
theorem bK.BQ (p:bK w al ah an A R A9 aP n s u t h cs):∃av I J U V W,cs=[Δ n.k,av,Δ u.zero,I,J,U,V,W]/\aJ .i64 w av n.sizes:=by
 obtain⟨av,I,J,U,V,W,h1,X,_⟩:=p.doc;exact⟨av,I,J,U,V,W,h1,dZ X⟩
end
section
variable {w:x2} {al ah an:Nat} {A R:aj} {A9:Nat->aj} {aP:aj} {n:aV} {s u:aF} {t:aD} {h:List aD} {cs:List x1}
theorem Lq {w0:x2} {a:dh} {W ck:x1} {aW:Nat} {K:x1->x1->x1->x2->Prop} (p:bK w0 al ah an A R A9 aP n s u t h cs) (bV:a.ok) (aI:aJ .i64 w0 aE a.t) (I:aJ .i64 w0 az a.sc) (bW:W=Γ aW)
  (ba:Ext w0 w) (bX:w0.heap.size<=aW) (aV:af w aW aR [.int .u8 a.d,Δ a.i,Δ a.v,Δ a.j,Δ a.c,aE,az,ck,.bool a.kX])
  (bY:∀aK aL w',Ext w0 w'->dV w' aW n.k a aK aL ck w0.heap.size->K (.bool (decide (ev n a.i a.v))) (.bool (decide (0<=b9 n.k a/\b9 n.k a<=n.k))) (.int .u8 (a.d % 9)) w'):
 bB (α:=x2->Prop) (λ(V:x2)=>
  cm V λX=>
  J x3 (x7 aR W 5) X λb0=>
  J x3 (x6 ai b0) X λb1=>
  J x3 (x7 aR W 5) X λb2=>
  J x3 (x6 ai b2) X λt45=>
  J x3 (Y3 #[ai] ab #[t45]) X λt46=>
  J x3 (l7.min_ #[ab,ab] ab #[t46,(Δ 40)]) X λb3=>
  J x3 (W6 ai b1 ν (σ b3) ν) X λb4=>
  J x3 (x7 aR W 6) X λt50=>
  J x3 (x6 ai t50) X λbb=>
  J x3 (x7 aR W 6) X λbc=>
  J x3 (x6 ai bc) X λt53=>
  J x3 (Y3 #[ai] ab #[t53]) X λbd=>
  J x3 (l7.min_ #[ab,ab] ab #[bd,(Δ 4)]) X λt55=>
  J x3 (W6 ai bb ν (σ t55) ν) X λbt=>
  ak x3 qA [b4] X λb5 Y=>
   (Ext X Y\/bl x3 (W6 ai bb ν (σ t55) ν) bt Y/\bl x3 (l7.min_ #[ab,ab] ab #[bd,(Δ 4)]) t55 Y/\bl x3 (Y3 #[ai] ab #[t53]) bd Y/\bl x3 (x6 ai bc) t53 Y/\bl x3 (x7 aR W 6) bc Y/\bl x3 (x6 ai t50) bb Y/\bl x3 (x7 aR W 6) t50 Y/\True)/\
  J x3 (x7 aR W 5) Y λbu=>
   ak x3 qA [bt] Y λb6 aX=>
   (Ext Y aX\/bl x3 (x7 aR W 5) bu aX/\True)/\
   aA x3 (o5 ai bu b5) aX λ(_:Unit) be=>
    J x3 (x7 aR W 6) be λb7=>
    aA x3 (o5 ai b7 b6) be λ(_:Unit) aZ=>
    bB (α:=x1->x2->Prop) (λ(value:x1) (aM:x2)=>
   cm aM λap=>
   J x3 (x7 aR W 4) ap λca=>
   J x3 (x6 ao ca) ap λcb=>
   J x3 (aY (Γ an)) ap λcc=>
   J x3 (x7 aG cc 0) ap λcd=>
   J x3 (x6 ao cd) ap λcg=>
   ak x3 wW [cb,cg] ap λch ax=>
    J x3 (x7 aR W 0) ax λci=>
   J x3 (x6 cv ci) ax λcj=>
   J x3 (aC .rem cv false true cj (.int .u8 9)) ax λcl=>K value ch cl ax) λbf=>
  cm aZ λaO=>
  J x3 (aY (Γ an)) aO λcn=>
  J x3 (x6 aG cn) aO λcp=>
  J x3 (x7 aR W 1) aO λcq=>
  J x3 (x6 ab cq) aO λcr=>
  ak x3 nh [cp,cr] aO λct U=>
   Split ct (J x3 (x7 aR W 2) U λcu=>
   J x3 (x6 ab cu) U λcw=>
   J x3 (aC .geq ab false true cw (Δ 0)) U λcz=>
   Split cz (J x3 (x7 aR W 2) U λcA=>
   J x3 (x6 ab cA) U λcB=>
   J x3 (aY (Γ an)) U λcC=>
   J x3 (x7 aG cC 1) U λt76=>
   J x3 (x6 ai t76) U λt77=>
   J x3 (x7 aR W 1) U λcD=>
   J x3 (x6 ab cD) U λcE=>
   J x3 (aY (Γ an)) U λcF=>
   J x3 (x7 aG cF 1) U λcG=>
   J x3 (x6 ai cG) U λcH=>
   J x3 (Y3 #[ai] ab #[cH]) U λcI=>
   J x3 (aC .sub ab false true cI (Δ 1)) U λcJ=>
   J x3 (l7.min_ #[ab,ab] ab #[cE,cJ]) U λcK=>
   J x3 (l7.max_ #[ab,ab] ab #[cK,(Δ 0)]) U λcL=>
   J x3 (n0 ai t77 cL) U λcM=>
   J x3 (x6 ab cM) U λcN=>
   J x3 (aC .lss ab false false cB cN) U λcO=>
   bf cO U)
   (bf (.bool false) U))
   (bf (.bool false) U)) λa1=>
 J x3 (x7 aR W 8) w λcP=>
 J x3 (x6 eN cP) w λcR=>
 Split cR (cm w λaj=>
  J x3 (x7 aR W 4) aj λcS=>
  J x3 (x6 ao cS) aj λcT=>
  J x3 (convert ao ew cT) aj λcU=>
  J x3 (aY (Γ an)) aj λcV=>
  J x3 (x7 aG cV 0) aj λcW=>
  J x3 (x6 ao cW) aj λcX=>
  J x3 (aC .add ao false true cX (Δ 1)) aj λcY=>
  J x3 (convert ao ew cY) aj λc0=>
  J x3 (aC .rem ew false false cU c0) aj λt39=>
  J x3 (convert ew ao t39) aj λc1=>
  J x3 (x7 aR W 4) aj λc2=>
  aA x3 (o5 ao c2 c1) aj λ(_:Unit) c4=>
  a1 c4)
  (a1 w):=by
 have aw:=p.b8.2.2.2.1;have bw:=aw.jZ;have bx:=aw.eu.1;have c5:=aw.eu.2.1;subst bW;have aw:=p.b8.2.2.2.1;have bw:=aw.jZ;have bx:=aw.eu.1;have c5:=aw.eu.2.1;obtain⟨c6,dp,dq,dr,ds,_⟩:=bV;obtain⟨av,dt,du,dv,dw,dx,rfl,c7⟩:=p.BQ;have bg:∀ {bz bC:x2},Ext w0 bz->ag (λr=>r=aW) bz bC->Ext w0 bC:=λc8 c9=>c8.then c9 λr au he=>by have he:r=aW:=he;omega
 refine di (λV=>Ext w0 V/\af V aW aR [.int .u8 a.d,Δ a.i,Δ a.v,Δ a.j,Δ (b9 n.k a),aE,az,ck,.bool a.kX]) ?_ ?_
 rotate_left
 .intro a1 aB;rw[ac aR.p rfl,ad (v:=.bool a.kX) Ψ (aV.cell (o:=0+8) rfl),bD];refine⟨λaI=>?_,λda=>aB _ ⟨ba,by unfold b9;rw[da] at aV ⊢;exact aV⟩⟩;intro V aS _ _;have a2:=aV.ext aS;rw[ac aR.p rfl,ad (v:=Δ a.c) Ψ (a2.Q4 rfl),e2 ao.u ew.u,ay,ac aG.p rfl,ad (v:=Δ n.k) Ψ ((p.box.ext (ba.trans aS)).Q0 rfl),aN,wrap_i64 Ω Ω,e2 ao.u ew.u,wrap_u64 (x:=n.k+1) Ω Ω];have hu:U6.wrap a.c=a.c.emod 18446744073709551616:=rfl;have au:0<=a.c.emod 18446744073709551616:=Int.emod_nonneg _ Φ;have dy:=Int.emod_nonneg (a.c.emod 18446744073709551616) (show n.k+1≠0 by omega);have bx:=Int.emod_lt_of_pos (a.c.emod 18446744073709551616) (show 0<n.k+1 by omega);rw[hu,kv Ω,Int.tmod_eq_emod_of_nonneg au,e2 ew.u ao.u,wrap_i64 Ω Ω,ac aR.p rfl];refine bh (o:=0+4) ao.i rfl rfl a2 Ξ λX db bi am=>?_;refine aB _ ⟨bg (ba.trans aS) db,?_⟩;unfold b9;rw[aI,if_pos rfl];rw[aI] at am;exact am
 rintro V ⟨aS,a2⟩;intro X bE _ _;have a6:=aS.trans bE;have am:=a2.ext bE;have bF:=aI.ext a6;have bi:=I.ext a6;obtain⟨_,_,_,dz⟩:=bZ aI;obtain⟨_,_,_,dA⟩:=bZ I;have dc:a.t.take (min a.t.length 40)=a.t.take 40:=by
  by_cases h:a.t.length<=40
  .rw[T7 h,o9,l5 h]
  .rw[Nat.min_eq_right Ω]
 have dd:a.sc.take (min a.sc.length 4)=a.sc.take 4:=by
  by_cases h:a.sc.length<=4
  .rw[T7 h,o9,l5 h]
  .rw[Nat.min_eq_right Ω]
 rw[ac aR.p rfl,ad (v:=aE) Ψ (am.Q5 rfl),ac aR.p rfl,ad (v:=aE) Ψ (am.Q5 rfl),aT ai.u bF,iv];refine tt (i:=min a.t.length 40) Ω ai.u ab.i bF Ω λdC bG=>?_;rw[dc] at bG;rw[ac aR.p rfl,ad (v:=az) Ψ (am.Q6 rfl),ac aR.p rfl,ad (v:=az) Ψ (am.Q6 rfl),aT ai.u bi,iv];refine tt (i:=min a.sc.length 4) Ω ai.u ab.i bi Ω λdD bH=>?_;rw[dd] at bH;refine (hF bG (by rw[o4];omega)).mono ?_;rintro aK Y _ ⟨aU,de,dE,bj⟩;refine⟨.inl aU,?_⟩;rw[ac aR.p rfl];refine (hF (bH.ext aU) (by rw[o4];omega)).mono ?_;rintro aL aX _ ⟨a7,df,dF,bk⟩;refine⟨.inl a7,?_⟩;obtain⟨_,_,_,bI⟩:=bZ bj.ls;obtain⟨_,_,_,bJ⟩:=bZ bk.ls;have z3:=a6.size;have z4:=aU.size;have dg:=(am.ext aU).ext a7;have dG:=am.lt;refine bh (o:=0+5) (v:=aK) ai.i (by rw[bI];rfl) (by rw[bI];rfl) dg Ξ λbe bm dH dj=>?_;rw[ac aR.p rfl];refine bh (o:=0+6) (v:=aL) ai.i (by rw[bJ];rfl) (by rw[bJ];rfl) dj Ξ λaZ bn dI dk=>?_;have dl:=(a6.trans aU).trans a7;have a8:=bg (bg dl bm) bn;have bL:dV aZ aW n.k a aK aL ck w0.heap.size:=by
  refine⟨dk,⟨de,((bj.ext a7).aa bm Ω).aa bn Ω⟩,⟨df,(bk.aa bm Ω).aa bn Ω⟩,bX,λr au=>?_⟩;rcases au with au|au
  .obtain⟨bo,_⟩:=bA bj au;omega
  .obtain⟨bo,_⟩:=bA bk au;omega
 refine aQ (λv aM=>v= .bool (decide (ev n a.i a.v))/\Ext aZ aM) ?_ ?_
 .rintro _ aM ⟨rfl,aD⟩;intro ap aF _ _;have bp:=aD.trans aF;have aH:=bL.ext bp;rw[ac aR.p rfl,ad (v:=Δ (b9 n.k a)) Ψ (aH.cZ.Q4 rfl),ay,ac aG.p rfl,ad (v:=Δ n.k) Ψ ((p.box.ext (a8.trans bp)).Q0 rfl)];refine (FF (a:=b9 n.k a) (k:=n.k)).mono ?_;rintro _ ax _ ⟨rfl,bM⟩;have bN:=aH.ext bM;rw[ac aR.p rfl,ad (v:=.int .u8 a.d) Ψ (bN.cZ.Q0 rfl),kv Φ,Int.tmod_eq_emod_of_nonneg c6.1];have bo:decide (cQ (b9 n.k a) n.k)=decide (0<=b9 n.k a/\b9 n.k a<=n.k):=decide_eq_decide.2 ⟨λh=>h.2,λh=>⟨bw,h⟩⟩;rw[bo];exact bY aK aL ax ((a8.trans bp).trans bM) bN
 intro a1 aB aM aD _ _;have bO:=bL.ext aD;have bP:=p.ext (a8.trans aD);rw[ay];refine bP.look.load λdJ dm=>?_;rw[ac aR.p rfl,ad (v:=Δ a.i) Ψ (bO.cZ.Q1 rfl)];refine (pT (i:=a.i) dm).mono ?_;rintro _ ap _ ⟨rfl,aF⟩;have aH:=bO.ext aF;have bQ:=(bP.ext aF).box;have bR:=((c7.ext a8).ext aD).ext aF;have bq:=aD.trans aF;rw[ae];refine⟨λbS=>?_,λdn=>aB _ _ ⟨by rw[decide_eq_false];exact λh=>dn ⟨h.1,h.2.1⟩,bq⟩⟩;rw[ac aR.p rfl,ad (v:=Δ a.v) Ψ (aH.cZ.Q2 rfl),ce,ae];refine⟨λbr=>?_,λbr=>aB _ _ ⟨by rw[decide_eq_false];exact λh=>br h.2.2.1,bq⟩⟩;obtain⟨z,bT⟩:∃z,n.sizes[a.i.toNat]? =σ z:=⟨_,y0 Ω⟩;have bU:n.sizes.getD a.i.toNat 0=z:=by rw[u5,bT];rfl
 rw[ac aR.p rfl,ad (v:=Δ a.v) Ψ (aH.cZ.Q2 rfl),ay,ac aG.p rfl,ad (v:=av) Ψ (bQ.Q1 rfl),ac aR.p rfl,ad (v:=Δ a.i) Ψ (aH.cZ.Q1 rfl),ay,ac aG.p rfl,ad (v:=av) Ψ (bQ.Q1 rfl),
  aT ai.u bR,c3,wrap_i64 Ω Ω,iv,qO,dY (y:=max (min a.i ((n.sizes.length:Int)-1)) 0) (i:=a.i.toNat) Ω ai.u ab.i Ψ bR bT,aq]
 refine aB _ _ ⟨?_,bq⟩;congr 1;exact decide_eq_decide.2 ⟨λh=>⟨bS.1,bS.2,br,by rw[bU];exact h⟩,λh=>by have:=h.2.2.2;rw[bU] at this;exact this⟩
end
end Go.Proofs.YtgbkinibgjmodaaGreatDoor
namespace Go.Vc
open Go Go.RowKit
section
variable {P:W7} {w:x2} {α:Type} [am α] {S R:aj}
theorem Lr {l:List α} {i:Nat} {a:α} (h:bi S R w [v] l) (ae:l[i]? =σ a) (ax:∀r,r<w.heap.size->S r->¬R r):∃g cap c F,v= .slice (σ ⟨g,0,ν⟩) l.length cap/\w.rangeAt g (i*am.n α) c/\bi F R w c a/\(∀r,F r->S r)/\
  ∀ {w':x2} {a':α} {T W:aj},ag T w w'->(∀r,r<w.heap.size->T r->F r)->bi W R w' c a'->(∀r,W r->F r\/w.heap.size<=r)->bi (λr=>S r\/w.heap.size<=r) R w' [v] (l.set i a'):=by
 have aJ:=(x4.1 ae).1;obtain⟨vs,g,F,U,he,I,hm⟩:=gb h;obtain⟨ay,af,ah⟩:=hm rfl;obtain⟨aK,⟨rfl,aL⟩|⟨cap,full,rfl,ai,aM,aN,aO,aP⟩⟩:=id ah
 .omega
 have az:vs.length=l.length:=he.1;have ak:S g:=ay.resolve_left Ξ;obtain⟨c,Y⟩:∃c,vs[i]? =σ c:=⟨_,y0 Ω⟩;have aA:=he.2 i c a Y ae;refine⟨g,cap,c,F i,rfl,?_,aA,λr J=>U.sub i r J,λ{w' a' T W} al an ao ab=>?_⟩
 .obtain⟨_,aQ,o',aR,aS,aB,_,_,aC,_,aD⟩:=I;cases aB;cases aC Ω;intro j u aE;have ap:=aD (i*am.n α+j) u (by rw[<-List.flatMap_id];exact mA (f:=id) (k:=am.n α) (λx aF=>he.len x aF) Y aE);rw[V3] at ap;exact ap
 have aG:¬T g:=λh=>U.top rfl i (an g ai.lt h);have aT:=am.len ao;have aU:vs.set i c=vs:=by
  refine X8 λq=>?_;rw[X7];by_cases aq:i=q
  .subst aq;rw[if_pos rfl,if_pos Ω,Y]
  .rw[if_neg aq]
 have au:bU w' g af (am.n α) (.slice (σ ⟨g,0,ν⟩) l.length cap) (l.set i a').length vs.flatten:=by
  rw[X2];exact ah.aa al λ_=>aG
 refine⟨_,rfl,vs,g,λj r=>if j=i then W r else F j r/\r<w.heap.size,⟨λj r J=>?_,λ_ j J=>?_,λ_ j q r aH h1 V=>?_⟩,⟨by simp[az],λj av aw ad ac=>?_⟩,?_,λ_=>⟨.inr (.inl ak),af,au⟩⟩
 .split at J
  .exact (ab r J).imp (U.sub i r) id
  .exact .inl (U.sub j r J.1)
 .split at J
  .rcases ab g J with h|h
   .exact U.top rfl i h
   .have:=ai.lt;omega
  .exact U.top rfl j J.1
 .split at h1<;>split at V
  .omega
  .rcases ab r h1 with h|h
   .rename_i e _;exact U.gM rfl i q r Ω h V.1
   .have:=V.2;omega
  .rcases ab r V with h|h
   .exact U.gM rfl j i r Ω h1.1 h
   .have:=h1.2;omega
  .exact U.gM rfl j q r aH h1.1 V.1
 .by_cases X:j=i
  .subst X;rw[Y] at ad;rw[V9 Ω] at ac;cases ad;cases ac;exact am.mono ao (λr _ h=>by simpa using h) λ_ _ h=>h
  .rw[W8 (T9 X)] at ac;have aI:bi (λr=>if j=i then W r else F j r/\r<w.heap.size) R w av aw:=am.mono (he.2 j av aw ad ac) (λr J h=>by rw[if_neg X];exact⟨h,J⟩) λ_ _ h=>h;refine am.aa aI al λr J h1 V=>?_;have V:=an r J V;rcases h1 with h1|h1
   .simp only[if_neg X] at h1;exact U.gM rfl j i r X h1.1 V
   .exact ax r J (U.sub i r V) h1
 .have:=mg (S:=λr=>(S r\/w.heap.size<=r)\/R r) au (.inr (.inl (.inl ak)));exact this
theorem vl {l:List α} {i:Nat} {a:α} (h:bi S R w [v] l) (an:l[i]? =σ a) (ao:∀r,r<w.heap.size->S r->¬R r):∃g cap full W c F,v= .slice (σ ⟨g,0,ν⟩) l.length cap/\af w g W full/\S g/\i*am.n α+am.n α<=full.length/\(∀ (q:Nat) x,c[q]? =σ x->full[i*am.n α+q]? =σ x)/\bi F R w c a/\(∀r,F r->S r)/\¬F g/\
  ∀ {w':x2} {a':α} {X:List x1} {T ab:aj},ag T w w'->(∀r,r<w.heap.size->T r->F r\/r=g)->af w' g W (over full (i*am.n α) X)->bi ab R w' X a'->(∀r,ab r->F r\/w.heap.size<=r)->bi (λr=>S r\/w.heap.size<=r) R w' [v] (l.set i a'):=by
 have aC:=(x4.1 an).1;obtain⟨vs,g,F,V,he,I,hm⟩:=gb h;obtain⟨aD,W,aE⟩:=hm rfl;obtain⟨aQ,⟨rfl,aR⟩|⟨cap,full,rfl,ap,aq,aF,au,av⟩⟩:=id aE
 .omega
 have aw:vs.length=l.length:=he.1;have ad:S g:=aD.resolve_left Ξ;obtain⟨c,ai⟩:∃c,vs[i]? =σ c:=⟨_,y0 Ω⟩;have aG:=he.2 i c a ai an;have aH:(i+1)*am.n α<=l.length*am.n α:=Y5 _ aC;have aI:l.length*am.n α<=full.length:=by rw[au];exact Y5 _ aq
 rw[U5,Nat.one_mul] at aH;refine⟨g,cap,full,W,c,F i,rfl,ap,ad,Ω,λq x ax=>?_,aG,λr U=>V.sub i r U,V.top rfl i,λ{w' a' X T ab} aJ aK aL ay ae=>?_⟩
 .have ak:=mA (f:=id) (k:=am.n α) (λx aM=>he.len x aM) ai ax;rw[List.flatMap_id,<-av] at ak;have aS:=(x4.1 ax).1;have al:=he.len c (x5 ai);rw[Y2 Ω] at ak;exact ak
 have al:=am.len ay;have aN:∀c∈vs.set i X,c.length=am.n α:=λc Y=>by
  rcases V7 Y with J|rfl
  .exact he.len c J
  .exact al
 have az:bU w' g W (am.n α) (.slice (σ ⟨g,0,ν⟩) l.length cap) (l.set i a').length (vs.set i X).flatten:=by
  refine⟨by rw[ja aN,X2,X2,aw],.inr ⟨cap,_,by rw[X2],aL,by rw[X2];exact aq,aF,by rw[kA,au],?_⟩⟩;rw[X2,rq Ω aI,av,BL he.len al Ω]
 refine⟨_,rfl,vs.set i X,g,λj r=>if j=i then ab r else F j r/\r<w.heap.size,⟨λj r U=>?_,λ_ j U=>?_,λ_ j q r aO h1 J=>?_⟩,⟨by simp[aw],λj aA aB Y ah=>?_⟩,?_,λ_=>⟨.inr (.inl ad),W,az⟩⟩
 .split at U
  .exact (ae r U).imp (V.sub i r) id
  .exact .inl (V.sub j r U.1)
 .split at U
  .rcases ae g U with h|h
   .exact V.top rfl i h
   .have:=ap.lt;omega
  .exact V.top rfl j U.1
 .split at h1<;>split at J
  .omega
  .rcases ae r h1 with h|h
   .rename_i e _;exact V.gM rfl i q r Ω h J.1
   .have:=J.2;omega
  .rcases ae r J with h|h
   .exact V.gM rfl j i r Ω h1.1 h
   .have:=h1.2;omega
  .exact V.gM rfl j q r aO h1.1 J.1
 .by_cases ac:j=i
  .subst ac;rw[V9 Ω] at Y;rw[V9 Ω] at ah;cases Y;cases ah;exact am.mono ay (λr _ h=>by simpa using h) λ_ _ h=>h
  .rw[W8 (T9 ac)] at Y ah;have aP:bi (λr=>if j=i then ab r else F j r/\r<w.heap.size) R w aA aB:=am.mono (he.2 j aA aB Y ah) (λr U h=>by rw[if_neg ac];exact⟨h,U⟩) λ_ _ h=>h;refine am.aa aP aJ λr U h1 J=>?_;have J:=aK r U J;rcases h1 with h1|h1
   .simp only[if_neg ac] at h1;rcases J with J|rfl
    .exact V.gM rfl j i r ac h1.1 J
    .exact V.top rfl j h1.1
   .rcases J with J|rfl
    .exact ao r U (V.sub i r J) h1
    .exact ao r U ad h1
 .have:=mg (S:=λr=>(S r\/w.heap.size<=r)\/R r) az (.inr (.inl (.inl ad)));exact this
end
end Go.Vc
namespace Go.Proofs.YtgbkinibgjmodaaGreatDoor
open Go Go.Vc Go.RowKit Go.Proofs Go.Proofs.Tryz
set_option maxRecDepth 100000
theorem pY {t:aD} {i:Nat} {x:Int}:(t.set i x).marks=t.marks/\(t.set i x).cells.length=t.cells.length/\(t.set i x).olds.length<=t.olds.length+1:=by
 unfold aD.set;split
 .exact⟨rfl,rfl,S6 _⟩
 .split
  .exact⟨rfl,Ξ,S6 _⟩
  .split
   .exact⟨rfl,Ξ,Ξ⟩
   .exact⟨rfl,Ξ,S6 _⟩
def iR (w0:x2) (al ah an:Nat) (A R:aj) (A9:Nat->aj) (aP:aj) (n:aV) (u:aF) (t:aD) (h:List aD) (w':x2):Prop:=∃J R' bL R9' I bo,bK w' al ah an J R' bL R9' n u u I h bo/\ag (λr=>A r\/(∃q,A9 q r)\/r=an) w0 w'/\(∀r,J r->A r\/w0.heap.size<=r)/\(∀r,R' r->R r\/w0.heap.size<=r)/\(∀r,aP r->R9' r)/\(∀r,R9' r->aP r\/w0.heap.size<=r)/\
 (∀q r,bL q r->(∃U,A9 U r)\/w0.heap.size<=r)/\I.marks=t.marks/\I.cells.length<=t.cells.length+700/\I.olds.length<=t.olds.length+800/\ag (λr=>dg w0 r\/(∃q,A9 q r)\/r=an) w0 w'/\I.ever=t.ever
theorem vm {S:aj} {w0 W:x2} (J:ag S w0 V) (X:ag (dg V) V W):ag (λr=>dg w0 r\/S r) w0 W:=
 ⟨Y9 J.size X.size,λr o Y I U=>X.a7 r o (J.a7 r o Y I λh=>U (.inr h)) I λh=>U (.inl (lD (λo aa ab _=>J.a7 r o aa ab λh=>U (.inr h)) h))⟩
section
variable {w0 w:x2} {al ah an aW:Nat} {A R:aj} {A9 bL:Nat->aj} {aP:aj} {n:aV} {s u:aF} {t:aD} {h:List aD} {cs bo:List x1} {a:dh} {aE az ck:x1} {Q:x1->x2->Prop}
theorem kc (p:bK w0 al ah an A R A9 aP n s s t h cs) (I:Ext w0 w):iR w0 al ah an A R A9 aP n s t h w:=
 ⟨A,R,A9,aP,t,cs,p.ext I,I.aa _,λ_ h=>.inl h,λ_ h=>.inl h,λ_ h=>h,λ_ h=>.inl h,λq _ h=>.inl ⟨q,h⟩,rfl,Nat.le_add_right _ _,Nat.le_add_right _ _,I.aa _,rfl⟩
theorem pZ {Y:x2} (U:bK V al ah an A R bL aP n s u t h bo) (W:ag (λr=>(∃q,A9 q r)\/r=an) w0 V) (ab:∀q r,bL q r->(∃ac,A9 ac r)\/w0.heap.size<=r) (I:kU V al ah A R n u t v Y):v=Δ 0/\iR w0 al ah an A R A9 aP n u t h Y:=by
 obtain⟨ad,aa,ae,q,x,X,af⟩:=I;obtain⟨ai,aj,ak⟩:=pY (t:=t) (i:=q) (x:=x);have z:=W.size;refine⟨ad,ae,R,_,aP,_,bo,U.prog aa X af U.gG.set (λ_ h=>.inl h) (λ_ _ _ h=>h) U.box.lt,(W.mono λr _ h=>.inr h).trans (X.1.mono λr _ h=>.inl h),λr J=>(X.2.1 r J).imp id λh=>Ω,λr J=>.inl J,λ_ h=>h,λ_ h=>.inl h,λq r J=>ab q r J.1,ai,Ω,Ω,vm W aa,aD.n8 _ _ _⟩
theorem bK.olds (p:bK w0 al ah an A R A9 aP n s u t h cs):bK w0 al ah an A R (λq r=>A9 q r/\r<w0.heap.size) aP n s u t h cs:=
 ⟨p.b8,p.gG,p.box,p.doc.old,λq r I=>p.apart q r I.1,p.read,p.out⟩
def mQ (n:aV) (s:aF) (c:Int):aF:=if 0<=c/\c<=n.k then {s with zero:=c} else s
theorem Ls (p:bK w0 al ah an A R A9 aP n s s t h cs) (ae:Room t) (W:Ext w0 w) (X:dV w aW n.k a aE az ck w0.heap.size) (af:∀w',iR w0 al ah an A R A9 aP n (mQ n s (b9 n.k a)) t h w'->Q (.bool true) w'):
  bB (α:=x1->x2->Prop) (λ(ap:x1) (Y:x2)=>
     J x3 (x7 aR (Γ aW) 4) Y λaq=>
     J x3 (x6 ao aq) Y λau=>
     ak x3 wR [Γ al,au] Y λav ai=>
     J x3 (aC .eql eF false false av ap) ai λaw=>
     Q aw ai) λaj=>
    J x3 (Op.unary .not (.bool (decide (0<=b9 n.k a/\b9 n.k a<=n.k)))) w λax=>
    Split ax (aj (Δ 3) w)
    (J x3 (x7 aR (Γ aW) 4) w λaB=>
    J x3 (x6 ao aB) w λaD=>
    J x3 (aY (Γ an)) w λaF=>
    J x3 (x7 aG aF 2) w λaH=>
    aA x3 (o5 ao aH aD) w λ(_:Unit) aI=>
    aj (Δ 0) aI):=by
 have aU:=p.box.lt;by_cases I:0<=b9 n.k a/\b9 n.k a<=n.k
 .refine aQ (λv V=>v=Δ 0/\dV V aW n.k a aE az ck w0.heap.size/\ag (λr=>(∃q,A9 q r)\/r=an) w0 V/\ ∃bo,bK V al ah an A R A9 aP n s {s with zero:=b9 n.k a} t h bo) ?_ ?_
  .rintro _ V ⟨rfl,aJ,U,bo,am⟩;rw[ac aR.p rfl,ad (v:=Δ (b9 n.k a)) Ψ (aJ.cZ.Q4 rfl)];refine (BK (c:=b9 n.k a) am.b8 ae).mono ?_;rintro v aK _ ⟨_,aL⟩;obtain⟨rfl,aM⟩:=pZ am U (λq r h=>.inl ⟨q,h⟩) (aL I);rw[bk];exact af _ (by unfold mQ;rw[if_pos I];exact aM)
  .intro aN ab;rw[decide_eq_true I,bf,Y1,aS,ac aR.p rfl,ad (v:=Δ (b9 n.k a)) Ψ (X.cZ.Q4 rfl),ay,ac aG.p rfl];have dW:=p.ext W;refine bh (o:=0+2) ao.i rfl rfl dW.box (by rw[dW.doc.len.1];omega) λV U aV aO=>?_;refine ab _ _ ⟨rfl,?_,(W.aa _).trans (U.mono λr _ h=>.inr h),_,dW.vk U (λr _ h=>.inr h) aO ?_ λq r h=>.inl ⟨q,h⟩⟩
   .exact X.aa U λr _ h=>by have h:r=an:=h;omega
   .exact (be.aa dW.doc U λr _ h he=>h.elim (λ⟨q,h⟩=>(p.apart q r h).2.2 he) λh=>(p.read r h).2.2 he).Le
 .refine aQ (λv V=>v=Δ 3/\w=V) ?_ ?_
  .rintro _ V ⟨rfl,rfl⟩;rw[ac aR.p rfl,ad (v:=Δ (b9 n.k a)) Ψ (X.cZ.Q4 rfl)];refine (BK (c:=b9 n.k a) (p.ext W).b8 ae).mono ?_;rintro v aK _ ⟨h1,_⟩;obtain⟨rfl,aT⟩:=h1 I;rw[bk];exact af _ (by unfold mQ;rw[if_neg I];exact kc p (W.trans aT))
  .intro aN ab;rw[decide_eq_false I,bf,X5,bQ];exact ab _ _ ⟨rfl,rfl⟩
end
theorem oj {α β:Type} {l:List α} {i:Nat} {a b:α} {f:α->β} (h:l[i]? =σ a) (J:f b=f a):(l.set i b).map f=l.map f:=by
 rw[T2,J];refine X8 λq=>?_;rw[X7];by_cases I:i=q
 .subst I;rw[if_pos rfl,x8,h,if_pos (by rw[u4];exact (x4.1 h).1)];rfl
 .rw[if_neg I]
theorem ol {T:Nat->Prop} (h:ag T w w'):ag (λr=>T r/\r<w.heap.size) w w':=⟨h.size,λr o J I U=>h.a7 r o J I λV=>U ⟨V,(j6.1 J).1⟩⟩
section
variable {w0 w w':x2} {al ah an aW:Nat} {A R:aj} {A9:Nat->aj} {aP:aj} {n:aV} {s u u':aF} {t:aD} {h:List aD} {cs:List x1} {a:dh} {aE az ck v:x1} {Q:x1->x2->Prop}
theorem be.nK {zero:Int} {D:List (Λ)} {G:List Bool} {aU:List (Λ)} {H:List fG} {E:List ii} {i:Nat} (I:cs[i]? =σ v) (h:be m A9 aP w (cs.set i v) k sizes zero D G aU H E):be m A9 aP w cs k sizes zero D G aU H E:=by
 have:cs.set i v=cs:=by
  refine X8 λq=>?_;rw[X7];by_cases J:i=q
  .subst J;have:=(x4.1 I).1;rw[if_pos rfl,if_pos this,I]
  .rw[if_neg J]
 rw[this] at h;exact h
theorem bK.row {T:aj} {bL:Nat->aj} {q:Nat} (p:bK w al ah an A R A9 aP n s u t h cs) (I:ag T w w') (J:∀r,r<w.heap.size->T r->A9 q r) (U:fp true bL aP w' cs n.k n.sizes u') (V:∀q r,bL q r->(∃W,A9 W r)\/w.heap.size<=r):
  bK w' al ah an A R bL aP n s u' t h cs:=
 p.vk I (λr X h=>.inl ⟨q,J r X h⟩) (p.box.aa I λh=>(p.apart q an (J an p.box.lt h)).2.2 rfl) U V
theorem vn {q:Nat} {B:aj} (I:∀r,B r->A9 q r\/w.heap.size<=r):∀j r,dU A9 q B j r->(∃J,A9 J r)\/w.heap.size<=r:=λj r h=>by
 unfold dU at h;split at h
 .exact (I r h).imp (λh=>⟨q,h⟩) id
 .exact .inl ⟨j,h⟩
theorem bK.Lt {T:aj} (p:bK w al ah an A R A9 aP n s u t h cs) (X:∀q r,A9 q r->r<w.heap.size) (Y:cs[5]? =σ v) (J:ag T w w') (U:∀r,r<w.heap.size->T r->A9 2 r) (aa:bi (λr=>A9 2 r\/w.heap.size<=r) aP w' [v] (u'.vars.map (·.un)))
  (ab:u'.zero=u.zero) (ac:u'.vars.map cu=u.vars.map cu) (ad:(u'.vars.map λx=>decide (x.gone≠0))=u.vars.map λx=>decide (x.gone≠0)) (ae:u'.funs=u.funs) (af:u'.elims=u.elims):
  ∃bL,bK w' al ah an A R bL aP n s u' t h cs/\ ∀q r,bL q r->(∃ai,A9 ai r)\/w.heap.size<=r:=by
 have V:=(show (∀i j r,i≠j->A9 i r->¬A9 j r)/\ ∀i r,A9 i r->¬aP r by obtain⟨_,_,_,_,_,_,_,_,_,_,_,_,_,ak⟩:=p.doc;exact ak rfl);have am:=be.gX p.doc (ol J) (λr I=>.inl (U r I.2 I.1)) aa (λj r ao I=>?_) (λr I=>?_)
 .have W:=vn (w:=w) (A9:=A9) (q:=2) (B:=λr=>A9 2 r\/w.heap.size<=r) λr h=>h;refine⟨_,p.row J U ?_ W,W⟩;have:=be.nK Y am;unfold fp;rw[ab,ac,ad,ae,af];exact this
 .rcases I with I|I
  .exact V.1 2 j r (T9 ao) I
  .exact λh=>by have:=X j r h;omega
 .rcases I with I|I
  .exact V.2 2 r I
  .exact λh=>by have:=(p.read r h).2.1;omega
def lK (n:aV) (s:aF) (a:dh):aF:=if ev n a.i a.v/\(0<=b9 n.k a/\b9 n.k a<=n.k) then gX s a.i.toNat a.v.toNat (b9 n.k a) else s
theorem Lu (p:bK w0 al ah an A R A9 aP n s s t h cs) (aB:Room t) (ap:Ext w0 w) (aD:dV w aW n.k a aE az ck w0.heap.size) (aF:∀w',iR w0 al ah an A R A9 aP n (lK n s a) t h w'->Q (.bool true) w'):
  bB (α:=x1->x2->Prop) (λ(bg:x1) (W:x2)=>
     J x3 (x7 aR (Γ aW) 1) W λaH=>
     J x3 (x6 ab aH) W λaI=>
     J x3 (x7 aR (Γ aW) 2) W λaJ=>
     J x3 (x6 ab aJ) W λaK=>
     J x3 (x7 aR (Γ aW) 4) W λaL=>
     J x3 (x6 ao aL) W λaM=>
     ak x3 qC [Γ al,aI,aK,aM] W λbh a1=>
     J x3 (aC .eql eF false false bh bg) a1 λbi=>
     Q bi a1) λaN=>
    J x3 (Op.unary .not (.bool (decide (ev n a.i a.v)))) w λbj=>
    Split bj (aN (Δ 1) w)
     (J x3 (Op.unary .not (.bool (decide (0<=b9 n.k a/\b9 n.k a<=n.k)))) w λbl=>
     Split bl (aN (Δ 3) w)
     (cm w λI=>
     J x3 (aY (Γ an)) I λbm=>
     J x3 (x7 aG bm 5) I λbn=>
     J x3 (x6 dJ bn) I λbo=>
     J x3 (x7 aR (Γ aW) 1) I λbp=>
     J x3 (x6 ab bp) I λbq=>
     J x3 (n0 dJ bo bq) I λbr=>
     J x3 (x6 aw br) I λbt=>
     J x3 (x7 aR (Γ aW) 2) I λbu=>
     J x3 (x6 ab bu) I λbw=>
     J x3 (x7 aR (Γ aW) 4) I λbx=>
     J x3 (x6 ao bx) I λbz=>
     J x3 (n0 aw bt bw) I λbA=>
     aA x3 (o5 ao bA bz) I λ(_:Unit) a2=>
      aN (Δ 0) a2)):=by
 have call:∀ {V:x2} {K:x1->x2->Prop},dV V aW n.k a aE az ck w0.heap.size->(ak x3 qC [Γ al,Δ a.i,Δ a.v,Δ (b9 n.k a)] V K)->
   J x3 (x7 aR (Γ aW) 1) V λaH=>J x3 (x6 ab aH) V λaI=>J x3 (x7 aR (Γ aW) 2) V λaJ=>J x3 (x6 ab aJ) V λaK=>
   J x3 (x7 aR (Γ aW) 4) V λaL=>J x3 (x6 ao aL) V λaM=>ak x3 qC [Γ al,aI,aK,aM] V K:=λae bC=>by
  rw[ac aR.p rfl,ad (v:=Δ a.i) Ψ (ae.cZ.Q1 rfl),ac aR.p rfl,ad (v:=Δ a.v) Ψ (ae.cZ.Q2 rfl),ac aR.p rfl,ad (v:=Δ (b9 n.k a)) Ψ (ae.cZ.Q4 rfl)];exact bC
 have dW:=p.olds.ext ap;by_cases U:ev n a.i a.v
 rotate_left
 .refine aQ (λv V=>v=Δ 1/\w=V) ?_ ?_
  .rintro _ V ⟨rfl,rfl⟩;refine call aD ((vd (i:=a.i) (v:=a.v) (c:=b9 n.k a) dW.b8 aB).mono ?_);rintro v a6 _ ⟨h1,_⟩;obtain⟨rfl,aO⟩:=h1 U;rw[bk];exact aF _ (by unfold lK;rw[if_neg λh=>U h.1];exact kc p (ap.trans aO))
  .intro a7 af;rw[decide_eq_false U,bf,X5,bQ];exact af _ _ ⟨rfl,rfl⟩
 by_cases X:0<=b9 n.k a/\b9 n.k a<=n.k
 rotate_left
 .refine aQ (λv V=>v=Δ 3/\w=V) ?_ ?_
  .rintro _ V ⟨rfl,rfl⟩;refine call aD ((vd (i:=a.i) (v:=a.v) (c:=b9 n.k a) dW.b8 aB).mono ?_);rintro v a6 _ ⟨_,h1,_⟩;obtain⟨rfl,aO⟩:=h1 U X;rw[bk];exact aF _ (by unfold lK;rw[if_neg λh=>X h.2];exact kc p (ap.trans aO))
  .intro a7 af;rw[decide_eq_true U,bf,Y1,aS,decide_eq_false X,bf,X5,bQ];exact af _ _ ⟨rfl,rfl⟩
 refine aQ (λv V=>v=Δ 0/\dV V aW n.k a aE az ck w0.heap.size/\ag (λr=>(∃q,A9 q r)\/r=an) w0 V/\ ∃bL,bK V al ah an A R bL aP n s (gX s a.i.toNat a.v.toNat (b9 n.k a)) t h cs/\ ∀q r,bL q r->(∃aT,A9 aT r)\/w0.heap.size<=r) ?_ ?_
 .rintro _ V ⟨rfl,ae,bD,bL,a8,aU⟩;refine call ae ((vd (i:=a.i) (v:=a.v) (c:=b9 n.k a) a8.b8 aB).mono ?_);rintro v a6 _ ⟨_,_,ba⟩;obtain⟨rfl,bE⟩:=pZ a8 bD aU (ba U X);rw[bk];exact aF _ (by unfold lK;rw[if_pos ⟨U,X⟩];exact bE)
 intro a7 af;rw[decide_eq_true U,bf,Y1,aS,decide_eq_true X,bf,Y1,aS];intro I aV _ _;have bb:=ap.trans aV;have aX:=dW.ext aV;have aq:=aD.ext aV;obtain⟨x,ai,bF,bS,_⟩:=U.var p.b8.2.2.2.1;obtain⟨h1,ba,bT,bU⟩:=id U;obtain⟨av,bV,bW,bX,bY,bZ,bc,_,_,_,bG,_,_,bd⟩:=id aX.doc;have z:=bb.size;have bH:∀q r,(A9 q r/\r<w0.heap.size)->r<I.heap.size:=λq r h=>by have:=h.2;omega
 obtain⟨g,cap,c,b0,rfl,bI,aZ,au,bJ⟩:=Lr (i:=a.i.toNat) (a:=x.un) bG (by rw[x8,ai];rfl) λr _ h=>(bd rfl).2 2 r h;obtain⟨u',rfl⟩:=X9.1 (am.len aZ);have be:=aX.box;rw[bc] at be;obtain⟨_,_,_,b1⟩:∃a n c,u'= .slice a n c:=by obtain⟨_,_,_,_,_,⟨_,b,o,base,cap,e,_⟩,_⟩:=gb aZ;exact⟨_,_,_,e⟩
 have bM:a.i.toNat<(s.vars.map (·.un)).length:=by rw[u4];exact (x4.1 ai).1
 rw[ay,ac aG.p rfl,ad (v:=.slice (σ ⟨g,0,ν⟩) (s.vars.map (·.un)).length cap) Ψ (be.Q5 rfl),ac aR.p rfl,ad (v:=Δ a.i) Ψ (aq.cZ.Q1 rfl),
  show a.i=((a.i.toNat:Nat):Int) by omega,fi dJ.u aw.i bM λ_=>rfl,ad (v:=u') (o:=0+a.i.toNat*1) Ψ (by rw[V3];exact bI 0 _ rfl)]
 rw[ac aR.p rfl,ad (v:=Δ a.v) Ψ (aq.cZ.Q2 rfl),ac aR.p rfl,ad (v:=Δ (b9 n.k a)) Ψ (aq.cZ.Q4 rfl)];refine vf (α:=Int) (i:=a.v.toNat) (A:=λ_=>False) rfl Ω aw.u ao.i aZ bF rfl rfl (λr _ aj=>⟨λh=>h,(bd rfl).2 2 r (au r aj)⟩) λa2 ax bN=>?_;have bO:=bJ ax (λr _ h=>h) bN λr aj=>aj.elim .inl False.elim;have Y:gX s a.i.toNat a.v.toNat (b9 n.k a)={s with vars:=s.vars.set a.i.toNat {x with un:=x.un.set a.v.toNat (b9 n.k a)}}:=by unfold gX;rw[ai]
 have bP:=aX.Lt (u':=gX s a.i.toNat a.v.toNat (b9 n.k a)) bH (by rw[bc];rfl) ax (λr _ h=>au r h) (by rw[Y,T2];exact bO) (by rw[Y]) (by rw[Y];exact oj ai (by unfold cu;simp)) (by rw[Y];exact oj ai rfl) (by rw[Y]) (by rw[Y]);obtain⟨bL,bR,aU⟩:=bP;refine af _ _ ⟨rfl,aq.aa ax λr _ h=>(au r h).2,((bb.aa _).trans (ax.mono λr _ h=>.inl ⟨2,(au r h).1⟩)),bL,bR,λq r aj=>?_⟩;rcases aU q r aj with⟨aT,h⟩|h
 .exact .inl ⟨aT,h.1⟩
 .exact .inr Ω
end
theorem r3 {s:aF} {n:aV} {i:Int} {b m:Nat} {x:e9} (h:By s n i b m) (J:0<=i) (U:s.vars[i.toNat]? =σ x):(gg b m).map (λv:Nat=>(v:Int))=cu x:=by
 obtain⟨_,_,V⟩:=h;obtain⟨rfl,W⟩:=V x J U;unfold gg cu;rw[List.filter_map];congr 1;refine List.filter_congr λq I=>?_;have I:=List.mem_range.1 I;rw[W,decide_eq_true I,V6];rfl
section
variable {w:x2} {al ah:Nat} {A R:aj} {n:aV} {s:aF} {t:aD}
end
section
variable {w:x2} {al ah:Nat} {A R:aj} {n:aV} {s:aF} {t:aD}
theorem BR {f:et} (h:b7 w al ah A R n s t) (I:s.funs[j]? =σ f):ak x3 Df [Γ al,Δ (j:Int)] w λr w'=>Ext w w'/\ ∃g,w.heap.size<=g/\au .i64 ab w' g r f.sc:=by
 have an:=(x4.1 I).1;refine aB func50 ?_;refine aQ (λv U=>v= .bool false/\Ext w U) ?_ ?_
 .rintro _ U ⟨rfl,J⟩;rw[aS];obtain⟨ao,ap,aa,av,aw,ax,L,aA,af,aC,aD,aE,X,W⟩:=(h.ext J).1.parts;obtain⟨y,Y⟩:∃y,L[j]? =σ y:=⟨_,y0 (by rw[W.1];omega)⟩;obtain⟨ag,_,_⟩:=W.2 j y f Y I;rw[ay,ac bt.p rfl,ad (v:=aa) Ψ (af.Q3 rfl),cG rfl dR.u cE.i X (by rw[W.1];omega),ac cE.p rfl,ad (v:=y.az) Ψ (X.range Y 0 _ rfl)];have aF:f.sc.length<=6:=(h.2.2.2.1.funs f (x5 I)).1.scope.2;refine (hF ag.ls Ω).mono ?_;rintro v V _ ⟨ai,g,aG,hm⟩;have:=J.size;exact⟨J.trans ai,g,Ω,hm⟩
 intro aH aj;rw[aq,ae];refine⟨λaI=>Ω,λ_=>?_⟩;refine (oe h).mono ?_;rintro _ aJ _ ⟨rfl,am⟩;rw[ce];exact aj _ _ ⟨by rw[decide_eq_false Ω],am⟩
end
theorem Lv {x:Int} (h:aJ .i64 w sv l):ak x3 s5 [sv,Δ x] w λv w'=>Ext w w'/\ ∃r:Int,v=Δ r/\(x∉l->r= -1)/\(x∈l->0<=r/\l[r.toNat]? =σ x):=by
 refine aB func103 ?_;rw[aT ai.u h];refine bE.range l.length (λi _ U=>Ext w U/\x∉l.take i) h.le ⟨Ext.refl _,Ξ⟩ ?_ ?_
 .rintro i _ U k hi ⟨I,J⟩ W;refine Υ λ_=>?_;obtain⟨y,V⟩:∃y,l[i]? =σ y:=⟨_,y0 hi⟩;rw[bd ai.u ab.i Ψ (h.ext I) V,bk,ae];refine⟨λhe=>⟨I,i,rfl,λhm=>absurd (he▸x5 V) hm,λ_=>⟨Ω,by rw[he,j0];exact V⟩⟩,λhe=>?_⟩;rw[aN];refine W _ _ ⟨I,λhm=>?_⟩;rw[r8,V] at hm;rcases n9.1 hm with hm|hm
  .exact J hm
  .simp at hm;exact he hm
 .rintro _ U k ⟨I,J⟩;rw[o9] at J;rw[aq,ae];exact⟨λh=>Ω,λ_=>⟨I,-1,rfl,λ_=>rfl,λh=>absurd h J⟩⟩
theorem vo {x:Int} (h:aJ .i64 w sv l):ak x3 DI [sv,Δ x] w λv w'=>v= .bool (decide (x∈l))/\Ext w w':=by
 refine aB func119 ?_;refine (Lv h).mono ?_;rintro _ U _ ⟨I,r,rfl,J,V⟩;rw[ce];refine⟨?_,I⟩;congr 1;refine decide_eq_decide.2 ⟨λX=>?_,λhm=>(V hm).1⟩;exact X4.1 λW=>by have:=J W;omega
theorem BS {Y:Nat} {cap:Array x1} {p:Int->Bool} (h:aJ .i64 w sv l)
  (ac:∀w' x,Ext w w'->x∈l->ak x3 Y (Δ x::cap.toList) w' λr ad=>r= .bool (p x)/\Ext w' ad):
  ak x3 s9 [sv,.func (.func Y) #[] cap] w λv w'=>Ext w w'/\((v=Δ (-1)/\ ∀x∈l,p x=false)\/ ∃i:Nat,v=Δ (i:Int)/\i<l.length/\(∀x∈l.take i,p x=false)/\ ∀x,l[i]? =σ x->p x=true):=by
 refine aB func170 ?_;rw[aT ai.u h];refine bE.range l.length (λi _ U=>Ext w U/\ ∀x∈l.take i,p x=false) h.le ⟨Ext.refl _,Ξ⟩ ?_ ?_
 .rintro i _ U k hi ⟨J,W⟩ af;refine Υ λ_=>?_;obtain⟨y,X⟩:∃y,l[i]? =σ y:=⟨_,y0 hi⟩;rw[bd ai.u ab.i Ψ (h.ext J) X];refine ak.mono (ac U y J (x5 X)) ?_;rintro _ V _ ⟨rfl,aa⟩;rw[bD];refine⟨λag=>⟨J.trans aa,.inr ⟨i,rfl,hi,W,λx I=>by rw[X] at I;cases I;exact ag⟩⟩,λah=>?_⟩;rw[aN];refine af _ _ ⟨J.trans aa,λx I=>?_⟩;rw[r8,X] at I;rcases n9.1 I with I|I
  .exact W x I
  .simp at I;subst I;exact ah
 .rintro _ U k ⟨J,W⟩;rw[o9] at W;rw[aq,ae];exact⟨λh=>Ω,λ_=>⟨J,.inl ⟨rfl,W⟩⟩⟩
theorem Lw {J:Nat} {cap:Array x1} {p:Int->Bool} (h:aJ .i64 w sv l)
  (V:∀w' x,Ext w w'->x∈l->ak x3 J (Δ x::cap.toList) w' λr W=>r= .bool (p x)/\Ext w' W):
  ak x3 qE [sv,.func (.func J) #[] cap] w λv w'=>v= .bool (l.any p)/\Ext w w':=by
 refine aB func196 ?_;refine (BS h V).mono ?_;rintro _ U _ ⟨I,⟨rfl,X⟩|⟨i,rfl,hi,_,Y⟩⟩
 .rw[ce];refine⟨?_,I⟩;congr 1;rw[decide_eq_false Ω,eq_comm,List.any_eq_false];exact λx I=>by rw[X x I];decide
 .rw[ce];refine⟨?_,I⟩;congr 1;rw[decide_eq_true Ω,eq_comm,List.any_eq_true];exact⟨_,T6 hi,Y _ (y0 hi)⟩
theorem Lx {g ax:Nat} {cap:Array x1} {p:Int->Bool} (h:au .i64 e w g sv l) (a8:l.length<=100000000)
  (ay:∀w' x,ag (λr=>leads sv r) w w'->x∈l->ak x3 ax (Δ x::cap.toList) w' λr aF=>r= .bool (p x)/\Ext w' aF):
  ak x3 wY [sv,.func (.func ax) #[] cap] w λv w'=>ag (λr=>leads sv r) w w'/\au .i64 e w' g v (l.filter λx=>!p x)/\ ∀r,leads v r->leads sv r:=by
 refine aB func85 ?_;refine (BS h.ls λw' x X=>ay w' x (X.aa _)).mono ?_;rintro _ U _ ⟨Y,⟨rfl,am⟩|⟨i,rfl,hi,am,aG⟩⟩
 .rw[bk,ae];refine⟨λ_=>⟨Y.aa _,?_⟩,λh=>absurd rfl h⟩;rw[List.filter_eq_self.2 λx X=>by rw[am x X];rfl];exact⟨h.ext Y,λ_ h=>h⟩
 rw[bk,ae];refine⟨λh=>Ω,λ_=>?_⟩;rw[aN,wrap_i64 Ω Ω];obtain⟨n,an⟩:∃n,l.length=n:=⟨_,rfl⟩;obtain⟨J,rfl⟩:∃J,sv= .slice (σ ⟨g,0,ν⟩) n J:=by
  obtain⟨_,⟨_,h1⟩|⟨J,cs,h1,_⟩⟩:=id h
  .omega
  .exact⟨J,by rw[h1,an]⟩
 obtain⟨_,_,_,_,ba,aH,_⟩:=pv h Ω;have az:∀r,r=g->leads (.slice (σ ⟨g,0,ν⟩) n J) r:=λr ao=>⟨_,_,_,rfl,ao.symm⟩;have aI:(l.take (i+1)).filter (λx=>!p x)=l.take i:=by
  obtain⟨y,V⟩:∃y,l[i]? =σ y:=⟨_,y0 hi⟩;rw[r8,V,List.filter_append,List.filter_eq_self.2 λx X=>by rw[am x X];rfl];simp[aG y V]
 refine⟨λap av ac=>∃ (q j:Nat) (I:Λ),ap=Δ (q:Int)/\av=Δ (j:Int)/\q<j/\j<=n/\ag (λr=>r=g) w ac/\au .i64 e ac g (.slice (σ ⟨g,0,ν⟩) n J) I/\I.length=n/\I.take q=(l.take j).filter (λx=>!p x)/\ ∀k,j<=k->I[k]? =l[k]?,
  λ_ av _=>n-(bO av).toNat,⟨i,i+1,l,rfl,rfl,Ω,Ω,Y.aa _,h.ext Y,an,aI.symm,λ_ _=>rfl⟩,?_⟩
 rintro _ _ ac ⟨q,j,I,rfl,rfl,bb,bc,ad,af,aA,W,aw⟩;have be:q=((l.take j).filter λx=>!p x).length:=by rw[<-W,o4];omega
 rw[gw ai.u,aq,ae];refine⟨λaJ=>?_,λbg=>?_⟩
 .have aJ:j<n:=Ω
  obtain⟨y,V⟩:∃y,l[j]? =σ y:=⟨_,y0 Ω⟩;have aK:I[j]? =σ y:=by rw[aw j (o8 _),V]
  refine aQ (λap ah=>∃ (q:Nat) (I:Λ),ap=Δ (q:Int)/\q<j+1/\ag (λr=>r=g) w ah/\au .i64 e ah g (.slice (σ ⟨g,0,ν⟩) n J) I/\I.length=n/\I.take q=(l.take (j+1)).filter (λx=>!p x)/\ ∀k,j+1<=k->I[k]? =l[k]?) ?_ ?_
  .rintro _ ah ⟨q,I,rfl,h1,aL,aM,aO,aP,aR⟩;rw[aN,wrap_i64 Ω Ω];exact⟨⟨q,j+1,I,rfl,rfl,h1,Ω,aL,aM,aO,aP,aR⟩,by simp only[bO];omega⟩
  intro bh aC;rw[bd ai.u ab.i Ψ af.ls aK];refine ak.mono (ay ac y (ad.mono λr _=>az r) (x5 V)) ?_;rintro _ ah _ ⟨rfl,aj⟩;have aD:(l.take (j+1)).filter (λx=>!p x)=(l.take j).filter (λx=>!p x)++[y].filter (λx=>!p x):=by rw[r8,V,List.filter_append];rfl
  rw[bf,bD];refine⟨λaS=>?_,λaT=>?_⟩
  .have aE:=af.ext aj;rw[gx rfl ai.u ab.i aE Ω];refine gy ab.i aE Ω λbi aU bj aV=>?_;rw[aN,wrap_i64 Ω Ω];refine aC _ _ ⟨q+1,_,rfl,Ω,(ad.trans (aj.aa _)).trans aU,aV,by simpa using aA,?_,λk al=>?_⟩
   .rw[aD,r8,V9 Ω,List.take_set_of_le (o8 _),W];simp only[Z4];rw[show[y].filter (λx=>!p x)=[y] by simpa using aS]
   .rw[W8 Ω];exact aw k Ω
  .refine aC _ _ ⟨q,I,rfl,Ω,ad.trans (aj.aa _),af.ext aj,aA,?_,λk al=>aw k Ω⟩;rw[aD,show[y].filter (λx=>!p x)=[] by simpa using aT,X6];exact W
 .have aW:j=n:=Ω
  subst aW;rw[<-an,o9] at W;obtain⟨_,_,cs,aX,_,_,bl,aY⟩:=pv af Ω;simp only[maxLen] at aH;rw[fw ai.u ab.i (l:=q) (h:=j) (m:=J) l6 hC ez Ω Ω Ω,if_neg Ω];have aZ:U1 (λx:Addr=>x.add (q*1)) (σ ⟨g,0,ν⟩)=σ ⟨g,q,ν⟩:=by simp[U7]
  rw[aZ];refine xY ai.u ab.i rfl rfl aX Ω Ω λbm a1 bn a2=>?_;rw[fw ai.u ab.i (l:=0) (h:=q) (m:=J) hB mb ez Ω Ω Ω,if_neg Ω];have a6:U1 (λx:Addr=>x.add (0*1)) (σ ⟨g,0,ν⟩)=σ ⟨g,0,ν⟩:=by simp[U7]
  rw[a6];refine⟨(ad.trans a1).mono λr _=>az r,?_⟩;have bo:(l.filter λx=>!p x).length=q:=by rw[<-W,o4];omega
  rw[<-W,Nat.sub_zero];refine⟨?_,λr ao=>by obtain⟨a,_,_,e,a7⟩:=ao;cases e;exact⟨_,_,_,rfl,a7⟩⟩;refine au.of (n:=q) ⟨Θ,.inr ⟨J,_,Ξ,a2,Ω,by simp only[maxLen];omega,by rw[kA];omega,?_⟩⟩;rw[T5];apply X8;intro k;by_cases al:k<q
  .rw[Y2 al,mc _ _ _ Θ,if_neg Ω,ints,x8,Y2 al];have:(cs.take j)[k]? =(ints .i64 I)[k]?:=by rw[aY]
   rw[Y2 Ω,ints,x8] at this;exact this
  .rw[Y4 Θ,Y4 Θ]
def hs (s:aF) (i:Int) (j:Nat):Bool:=match s.funs[j]? with
 |some f=>decide (f.live≠0)&&decide (i∈f.sc)
 |none=>false
def fH (s:aF) (i:Int) (m:Nat):Λ:=((W3 m).filter (hs s i)).map λj:Nat=>(j:Int)
theorem BT {A R:aj} {n:aV} {s:aF} {t:aD} {i:Int} (h:b7 w al ah A R n s t):ak x3 Dn [Γ al,Δ i] w λv w'=>Ext w w'/\ ∃g,au .i64 ab w' g v (fH s i s.funs.length)/\ ∀r,leads v r->w.heap.size<=r:=by
 have a1:=od h.2.1 h.2.2.1;have a2:s.funs.length<=100000000:=by
  have h1:=pC s;have ax:∀ (L:List et),L.length<=(L.flatMap fU).length:=λL=>by
   induction L with
   |nil=>exact o8 _
   |cons a L a6=>rw[V5,u9,j5];have:(fU a).length=a.cs.length+1:=rfl;omega
  have a7:=ax s.funs;omega
 refine aB func64 ?_;refine (oe h).mono ?_;rintro _ U _ ⟨rfl,aA⟩;refine bE.range s.funs.length (λj out V=>Ext w V/\ ∃g,au .i64 ab V g out (fH s i j)/\ ∀r,leads out r->w.heap.size<=r) Ω ⟨aA,0,au.nil _ _ _ _,λr af=>by obtain⟨a,n,c,aC,a8⟩:=af;cases aC⟩ ?_ ?_
 .rintro j out V aE aG ⟨J,g,hm,Y⟩ aH;obtain⟨f,X⟩:∃f,s.funs[j]? =σ f:=⟨_,y0 aG⟩;have an:fH s i (j+1)=if hs s i j=true then fH s i j++[(j:Int)] else fH s i j:=by
   unfold fH;rw[List.range_succ,List.filter_append];cases aI:hs s i j<;>simp[aI]
  refine Υ λ_=>?_;refine aQ (λout W=>Ext w W/\ ∃g,au .i64 ab W g out (fH s i (j+1))/\ ∀r,leads out r->w.heap.size<=r) ?_ ?_
  .rintro out W aJ;rw[aN];exact aH _ _ aJ
  intro ba ao;refine aQ (λr W=>r= .bool (hs s i j)/\Ext V W) ?_ ?_
  .rintro _ W ⟨rfl,I⟩;rw[bD];refine⟨λaK=>?_,λX=>ao _ _ ⟨J.trans I,g,by rw[an,if_neg (by rw[X];decide)];exact hm.ext I,Y⟩⟩;refine dx (k:=.i64) ai.u ab.i rfl λv4 bb aL bc aa aM=>?_;have bd:(fH s i j).length<=j:=by unfold fH;rw[u4];have:=S9 (hs s i) (W3 j);rw[List.length_range] at this;exact this
   refine eY ai.u ab.i rfl ((hm.ext I).ext aa) aM.ls Θ Θ λv5 aO aP aR aS aT=>?_;have z3:=J.size;have aU:Ext w aP:=((J.trans I).trans aa).then aT λr af he=>by have:=Y r he;omega
   have z4:=((J.trans I).trans aa).size;exact ao _ _ ⟨aU,aO,by rw[an,if_pos aK];exact aR,λr af=>(aS r af).elim (Y r) λh=>Ω⟩
  intro be ap;refine (lI (j:=(j:Int)) (h.ext J)).mono ?_;rintro _ W _ ⟨rfl,I⟩;rw[decide_eq_true Ω,V6,j0];have aW:dI s j=decide (f.live≠0):=by unfold dI;rw[X]
  rw[aW,ae];refine⟨λag=>?_,λag=>ap _ _ ⟨by unfold hs;rw[X];simp only;rw[decide_eq_false ag];rfl,I⟩⟩;obtain⟨bf,bg,aX,bh,bi,bj,L,bk,aY,bl,bm,bn,av,am⟩:=(h.ext (J.trans I)).1.parts;obtain⟨y,aw⟩:∃y,L[j]? =σ y:=⟨_,y0 (by rw[am.1];omega)⟩;obtain⟨aZ,_,_⟩:=am.2 j y f aw X;rw[ay,ac bt.p rfl,ad (v:=aX) Ψ (aY.Q3 rfl),cG rfl dR.u cE.i av (by rw[am.1];omega),ac cE.p rfl,ad (v:=y.az) Ψ (av.range aw 0 _ rfl)];refine (vo (x:=i) aZ.ls).mono ?_;rintro _ aL _ ⟨rfl,aa⟩;exact ap _ _ ⟨by unfold hs;rw[X];simp only;rw[decide_eq_true ag,V6],I.trans aa⟩
 .rintro out V aE ⟨J,g,hm,Y⟩;rw[aq,ae];exact⟨λh=>Ω,λ_=>⟨J,g,hm,Y⟩⟩
theorem vp {full:List x1} {o q:Nat} {x:x1} (U:∀ (k:Nat) y,c[k]? =σ y->full[o+k]? =σ y) (V:o+c.length<=full.length) (W:q<c.length):full.set (o+q) x=over full o (c.set q x):=by
 refine X8 λk=>?_;rw[mc _ _ _ (by rw[X2];exact V),X7,X2];by_cases h1:o<=k/\k<o+c.length
 .rw[if_pos h1,X7];by_cases I:o+q=k
  .rw[if_pos I,if_pos Ω,if_pos Ω,if_pos Ω]
  .rw[if_neg I,if_neg Ω];have J:k-o<c.length:=Ω
   have:=U (k-o) c[k-o] (y0 J);rw[y0 J,<-this];congr 1;omega
 .rw[if_neg h1,if_neg Ω]
section
variable {w0 w w':x2} {al ah an aW:Nat} {A R:aj} {A9:Nat->aj} {aP:aj} {n:aV} {s u u':aF} {t:aD} {h:List aD} {cs:List x1} {a:dh} {aE az ck v:x1} {Q:x1->x2->Prop}
theorem bK.gM (p:bK w al ah an A R A9 aP n s u t h cs):(∀i j r,i≠j->A9 i r->¬A9 j r)/\ ∀i r,A9 i r->¬aP r:=by
 obtain⟨_,_,_,_,_,_,_,_,_,_,_,_,_,I⟩:=p.doc;exact I rfl
theorem bK.BU {T:aj} (p:bK w al ah an A R A9 aP n s u t h cs) (W:∀q r,A9 q r->r<w.heap.size) (X:cs[6]? =σ v) (J:ag T w w') (U:∀r,r<w.heap.size->T r->A9 3 r) (Y:bi (λr=>A9 3 r\/w.heap.size<=r) aP w' [v] (u'.funs.map ei))
  (aa:u'.zero=u.zero) (ab:u'.vars=u.vars) (ac:u'.elims=u.elims):∃bL,bK w' al ah an A R bL aP n s u' t h cs/\ ∀q r,bL q r->(∃ad,A9 ad r)\/w.heap.size<=r:=by
 have ae:=be.gq p.doc (ol J) (λr I=>.inl (U r I.2 I.1)) Y (λj r af I=>?_) (λr I=>?_)
 .have V:=vn (w:=w) (A9:=A9) (q:=3) (B:=λr=>A9 3 r\/w.heap.size<=r) λr h=>h;refine⟨_,p.row J U ?_ V,V⟩;have:=be.nK X ae;unfold fp;rw[aa,ab,ac];exact this
 .rcases I with I|I
  .exact p.gM.1 3 j r (T9 af) I
  .exact λh=>by have:=W j r h;omega
 .rcases I with I|I
  .exact p.gM.2 3 r I
  .exact λh=>by have:=(p.read r h).2.1;omega
theorem Ly {F:aj} {f:et} {g:Nat} {x:Int} (h:bi (α:=fG) F R w c (ei f)) (X:ag (λr=>r=g) w w') (Y:¬F g) (ab:¬R g):c.length=4/\bi (α:=fG) F R w' (c.set 3 (.bool (decide (x≠0)))) (ei {f with live:=x}):=by
 have U:c.length=4:=am.len h;obtain⟨V,ac,A,B,rfl,W,ad,ae,h1,J⟩:=h;have J:ac=[.bool (decide (f.live≠0))]:=J;subst J;have af:V.length=3:=by simpa using U
 refine⟨U,V,[.bool (decide (x≠0))],A,B,?_,W,ad,ae,am.aa h1 X λr ah I he=>?_,rfl⟩
 .rw[U9 _ _ Ω,af];rfl
 .have he:r=g:=he;subst he;rcases I with I|I
  .exact Y (W r I)
  .exact ab I
def mR (s:aF) (a:dh):aF:=if 0<=a.j/\dI s a.j.toNat=true then iO s a.j.toNat else s
theorem Lz (p:bK w0 al ah an A R A9 aP n s s t h cs) (aN:Room t) (aq:Ext w0 w) (ao:dV w aW n.k a aE az ck w0.heap.size) (aO:∀w',iR w0 al ah an A R A9 aP n (mR s a) t h w'->Q (.bool true) w'):
  bB (α:=x1->x2->Prop) (λ(bb:x1) (au:x2)=>
       J x3 (x7 aR (Γ aW) 3) au λbc=>
       J x3 (x6 ab bc) au λbd=>
       ak x3 wN [Γ al,bd] au λbe aS=>
       J x3 (aC .eql eF false false be bb) aS λbg=>
       Q bg aS) λaT=>
      cm w λaf=>
      J x3 (aY (Γ an)) af λbi=>
      J x3 (x6 aG bi) af λbj=>
      J x3 (x7 aR (Γ aW) 3) af λbl=>
      J x3 (x6 ab bl) af λbm=>
      ak x3 sS [bj,bm] af λbn aw=>
       J x3 (Op.unary .not bn) aw λbo=>
       Split bo (aT (Δ 1) aw)
       (cm aw λU=>
       J x3 (aY (Γ an)) U λbp=>
       J x3 (x7 aG bp 6) U λbq=>
       J x3 (x6 b3 bq) U λbr=>
       J x3 (x7 aR (Γ aW) 3) U λbt=>
       J x3 (x6 ab bt) U λbu=>
       J x3 (n0 b3 br bu) U λbw=>
       J x3 (x7 b0 bw 1) U λbx=>
       aA x3 (o5 eN bx (.bool false)) U λ(_:Unit) bz=>
       aT (Δ 0) bz):=by
 have dW:=p.olds.ext aq;by_cases I:0<=a.j/\dI s a.j.toNat=true
 rotate_left
 .refine aQ (λv V=>v=Δ 1/\Ext w V) ?_ ?_
  .rintro _ V ⟨rfl,ax⟩;rw[ac aR.p rfl,ad (v:=Δ a.j) Ψ ((ao.ext ax).cZ.Q3 rfl)];refine (BD (j:=a.j) (dW.ext ax).b8 aN).mono ?_;rintro v aB _ ⟨h1,_⟩;obtain⟨rfl,ai⟩:=h1 I;rw[bk];exact aO _ (by unfold mR;rw[if_neg I];exact kc p ((aq.trans ax).trans ai))
  .intro bA aD bC W _ _;rw[ay];refine (dW.ext W).look.load λbE aF=>?_;rw[ac aR.p rfl,ad (v:=Δ a.j) Ψ ((ao.ext W).cZ.Q3 rfl)];refine (vi (j:=a.j) aF).mono ?_;rintro _ aB _ ⟨rfl,ai⟩;rw[bf,bD];refine⟨λ_=>aD _ _ ⟨rfl,W.trans ai⟩,λbF=>?_⟩;exact absurd (by simpa using bF) I
 refine aQ (λv V=>v=Δ 0/\dV V aW n.k a aE az ck w0.heap.size/\ag (λr=>(∃q,A9 q r)\/r=an) w0 V/\ ∃bL,bK V al ah an A R bL aP n s (iO s a.j.toNat) t h cs/\ ∀q r,bL q r->(∃aH,A9 aH r)\/w0.heap.size<=r) ?_ ?_
 .rintro _ V ⟨rfl,bG,bH,bL,aU,aI⟩;rw[ac aR.p rfl,ad (v:=Δ a.j) Ψ (bG.cZ.Q3 rfl)];refine (BD (j:=a.j) aU.b8 aN).mono ?_;rintro v aB _ ⟨_,X⟩;obtain⟨rfl,bI,bJ,q,bM,bN⟩:=X I;obtain⟨_,bO⟩:=pZ (v:=Δ 0) aU bH aI ⟨rfl,bI,bJ,q,0,bM,bN⟩;rw[bk];exact aO _ (by unfold mR;rw[if_pos I];exact bO)
 intro bA aD bC W _ _;rw[ay];refine (dW.ext W).look.load λbE aF=>?_;rw[ac aR.p rfl,ad (v:=Δ a.j) Ψ ((ao.ext W).cZ.Q3 rfl)];refine (vi (j:=a.j) aF).mono ?_;rintro _ aB _ ⟨rfl,ai⟩;rw[decide_eq_true I.1,I.2,bf,bD];refine⟨λh=>by simp at h,λ_=>?_⟩;intro aV bP _ _;have aJ:=(W.trans ai).trans bP;have aX:=aq.trans aJ;have aK:=dW.ext aJ;have aZ:=ao.ext aJ;obtain⟨f,ae,b4⟩:∃f,s.funs[a.j.toNat]? =σ f/\f.live≠0:=by
  have X:=I.2;unfold dI at X;cases ae:s.funs[a.j.toNat]? with
  |none=>rw[ae] at X;cases X
  |some f=>rw[ae] at X;exact⟨f,rfl,by simpa using X⟩
 obtain⟨av,b5,b6,b7,b9,ca,a1,_,_,_,_,bQ,_,a2⟩:=id aK.doc;have z:=aX.size;have bR:∀q r,(A9 q r/\r<w0.heap.size)->r<aV.heap.size:=λq r h=>by have:=h.2;omega
 obtain⟨g,cap,full,cb,c,cc,rfl,bS,a6,aL,bT,a7,cd,bU,bV⟩:=vl (i:=a.j.toNat) (a:=ei f) bQ (by rw[x8,ae];rfl) λr _ h=>(a2 rfl).2 3 r h;have a8:=aK.box;rw[a1] at a8;have bW:a.j.toNat<(s.funs.map ei).length:=by rw[u4];exact (x4.1 ae).1
 have ce:=I.1;have bX:c.length=4:=am.len a7;have aL:a.j.toNat*4+4<=full.length:=aL;have bY:∀ (q:Nat) x,c[q]? =σ x->full[a.j.toNat*4+q]? =σ x:=bT;rw[ay,ac aG.p rfl,ad (v:=.slice (σ ⟨g,0,ν⟩) (s.funs.map ei).length cap) Ψ (a8.Q6 rfl),ac aR.p rfl,ad (v:=Δ a.j) Ψ (aZ.cZ.Q3 rfl),
  show a.j=((a.j.toNat:Nat):Int) by omega,fi b3.u b0.i bW λ_=>rfl,ac b0.p rfl]
 refine bh (o:=0+a.j.toNat*4+3) eN.i rfl rfl bS Ω λcg aj ch ba=>?_;obtain⟨_,bZ⟩:=Ly (x:=0) a7 aj bU ((a2 rfl).2 3 g a6);rw[V3,vp bY (by rw[bX];exact aL) Ω] at ba;have b1:=bV aj (λr _ h=>.inr h) ba bZ λr Y=>.inl Y;have ap:iO s a.j.toNat={s with funs:=s.funs.set a.j.toNat {f with live:=0}}:=by unfold iO;rw[ae]
 have aM:∀r,r<aV.heap.size->r=g->A9 3 r/\r<w0.heap.size:=λr _ h=>by rw[h];exact a6
 obtain⟨bL,b2,aI⟩:=aK.BU (u':=iO s a.j.toNat) bR (by rw[a1];rfl) aj aM (by rw[ap,T2];exact b1) (by rw[ap]) (by rw[ap]) (by rw[ap]);refine aD _ _ ⟨rfl,aZ.aa aj λr Y h=>(aM r Y h).2,((aX.aa _).trans (aj.mono λr Y h=>.inl ⟨3,(aM r Y h).1⟩)),bL,b2,λq r Y=>?_⟩;rcases aI q r Y with⟨aH,h⟩|h
 .exact .inl ⟨aH,h.1⟩
 .exact .inr Ω
end
theorem LA {m:Int} {v w:Int} (I:0<=v) (hw:0<=w):dropped (((m.toNat ||| 2 ^ v.toNat:Nat):Int)) w=(dropped m w||decide (w=v)):=by
 unfold dropped;rw[j0,Nat.testBit_or,Nat.testBit_two_pow];congr 1;exact decide_eq_decide.2 ⟨λh=>Ω,λh=>Ω⟩
theorem LB {x:e9} {v:Int} (I:0<=v):cu {x with mask:=((x.mask.toNat ||| 2 ^ v.toNat:Nat):Int)}=(cu x).filter λy=>!decide (y=v):=by
 unfold cu;rw[List.filter_filter];refine List.filter_congr λy J=>?_;obtain⟨q,_,rfl⟩:=Z1.1 J;rw[LA I Ω];cases dropped x.mask (q:Int)<;>simp
section
variable {w0 w w':x2} {al ah an aW:Nat} {A R:aj} {A9:Nat->aj} {aP:aj} {n:aV} {s u u':aF} {t:aD} {h:List aD} {cs:List x1} {a:dh} {aE az ck v:x1} {Q:x1->x2->Prop}
theorem bK.LC {T:aj} (p:bK w al ah an A R A9 aP n s u t h cs) (W:∀q r,A9 q r->r<w.heap.size) (X:cs[3]? =σ v) (J:ag T w w') (U:∀r,r<w.heap.size->T r->A9 0 r) (Y:bi (λr=>A9 0 r\/w.heap.size<=r) aP w' [v] (u'.vars.map cu))
  (aa:u'.zero=u.zero) (ab:u'.vars.map (·.un)=u.vars.map (·.un)) (ac:(u'.vars.map λx=>decide (x.gone≠0))=u.vars.map λx=>decide (x.gone≠0)) (ad:u'.funs=u.funs) (ae:u'.elims=u.elims):
  ∃bL,bK w' al ah an A R bL aP n s u' t h cs/\ ∀q r,bL q r->(∃af,A9 af r)\/w.heap.size<=r:=by
 have ai:=be.vg p.doc (ol J) (λr I=>.inl (U r I.2 I.1)) Y (λj r ak I=>?_) (λr I=>?_)
 .have V:=vn (w:=w) (A9:=A9) (q:=0) (B:=λr=>A9 0 r\/w.heap.size<=r) λr h=>h;refine⟨_,p.row J U ?_ V,V⟩;have:=be.nK X ai;unfold fp;rw[aa,ab,ac,ad,ae];exact this
 .rcases I with I|I
  .exact p.gM.1 0 j r (T9 ak) I
  .exact λh=>by have:=W j r h;omega
 .rcases I with I|I
  .exact p.gM.2 0 r I
  .exact λh=>by have:=(p.read r h).2.1;omega
def mS (n:aV) (s:aF) (a:dh):aF:=if ev n a.i a.v then gH s a.i.toNat a.v.toNat else s
theorem LD (p:bK w0 al ah an A R A9 aP n s s t h cs) (a6:Room t) (aH:Ext w0 w) (aI:dV w aW n.k a aE az ck w0.heap.size) (a7:∀w',iR w0 al ah an A R A9 aP n (mS n s a) t h w'->Q (.bool true) w'):
  bB (α:=x1->x2->Prop) (λ(bC:x1) (ao:x2)=>
      J x3 (x7 aR (Γ aW) 1) ao λbD=>
      J x3 (x6 ab bD) ao λbE=>
      J x3 (x7 aR (Γ aW) 2) ao λbF=>
      J x3 (x6 ab bF) ao λbG=>
      ak x3 qz [Γ al,bE,bG] ao λbH a8=>
      J x3 (aC .eql eF false false bH bC) a8 λbI=>
      Q bI a8) λba=>
     J x3 (Op.unary .not (.bool (decide (ev n a.i a.v)))) w λbJ=>
     Split bJ (ba (Δ 1) w)
      (cm w λI=>
      J x3 (aY (Γ an)) I λaJ=>
      J x3 (x7 aG aJ 3) I λaK=>
      J x3 (x6 cz aK) I λbb=>
      J x3 (x7 aR (Γ aW) 1) I λaL=>
      J x3 (x6 ab aL) I λbd=>
      J x3 (aY (Γ an)) I λbM=>
      J x3 (x7 aG bM 3) I λbN=>
      J x3 (x6 cz bN) I λbO=>
      J x3 (x7 aR (Γ aW) 1) I λbP=>
      J x3 (x6 ab bP) I λbR=>
      J x3 (n0 cz bO bR) I λbS=>
      J x3 (x6 ai bS) I λbT=>
      J x3 (Instr.makeFunc (.func DC) #[] #[(Γ aW)]) I λbU=>
      ak x3 wY [bT,bU] I λbV W=>
      (Ext I W\/bl x3 (x6 ab aL) bd W/\bl x3 (x7 aR (Γ aW) 1) aL W/\bl x3 (x6 cz aK) bb W/\bl x3 (x7 aG aJ 3) aK W/\bl x3 (aY (Γ an)) aJ W/\True)/\
      J x3 (n0 cz bb bd) W λbW=>
      aA x3 (o5 ai bW bV) W λ(_:Unit) bX=>
       ba (Δ 0) bX):=by
 have call:∀ {V:x2} {K:x1->x2->Prop},dV V aW n.k a aE az ck w0.heap.size->(ak x3 qz [Γ al,Δ a.i,Δ a.v] V K)->
   J x3 (x7 aR (Γ aW) 1) V λbY=>J x3 (x6 ab bY) V λb0=>J x3 (x7 aR (Γ aW) 2) V λb1=>J x3 (x6 ab b1) V λb2=>
   ak x3 qz [Γ al,b0,b2] V K:=λau b3=>by
  rw[ac aR.p rfl,ad (v:=Δ a.i) Ψ (au.cZ.Q1 rfl),ac aR.p rfl,ad (v:=Δ a.v) Ψ (au.cZ.Q2 rfl)];exact b3
 have dW:=p.olds.ext aH;by_cases X:ev n a.i a.v
 rotate_left
 .refine aQ (λv V=>v=Δ 1/\w=V) ?_ ?_
  .rintro _ V ⟨rfl,rfl⟩;refine call aI ((va (i:=a.i) (v:=a.v) dW.b8 a6).mono ?_);rintro v b4 _ ⟨h1,_⟩;obtain⟨rfl,b5⟩:=h1 X;rw[bk];exact a7 _ (by unfold mS;rw[if_neg X];exact kc p (aH.trans b5))
  .intro b6 aM;rw[decide_eq_false X,bf,X5,bQ];exact aM _ _ ⟨rfl,rfl⟩
 refine aQ (λv V=>v=Δ 0/\dV V aW n.k a aE az ck w0.heap.size/\ag (λr=>(∃q,A9 q r)\/r=an) w0 V/\ ∃bL,bK V al ah an A R bL aP n s (gH s a.i.toNat a.v.toNat) t h cs/\ ∀q r,bL q r->(∃aN,A9 aN r)\/w0.heap.size<=r) ?_ ?_
 .rintro _ V ⟨rfl,au,b7,bL,be,aO⟩;refine call au ((va (i:=a.i) (v:=a.v) be.b8 a6).mono ?_);rintro v b4 _ ⟨_,bg⟩;obtain⟨rfl,Y,b9,y,ca,cb⟩:=bg X;obtain⟨_,cc⟩:=pZ (v:=Δ 0) be b7 aO ⟨rfl,Y,b9,_,y,ca,cb⟩;rw[bk];exact a7 _ (by unfold mS;rw[if_pos X];exact cc)
 intro b6 aM;rw[decide_eq_true X,bf,Y1,aS];intro aT aU _ _;have bi:=aH.trans aU;have aw:=dW.ext aU;have aV:=aI.ext aU;obtain⟨x,ap,cG,cH,_⟩:=X.var p.b8.2.2.2.1;obtain⟨h1,bg,cd,cI⟩:=id X;obtain⟨av,cJ,cK,cL,cM,cN,bj,_,ce,_,_,_,_,cg⟩:=id aw.doc;have z:=bi.size;have ch:∀q r,(A9 q r/\r<w0.heap.size)->r<aT.heap.size:=λq r h=>by have:=h.2;omega
 obtain⟨g,cap,full,ci,c,aX,rfl,bm,cj,aZ,bn,bo,a1,bp,cl⟩:=vl (i:=a.i.toNat) (a:=cu x) ce (by rw[x8,ap];rfl) λr _ h=>(cg rfl).2 0 r h;obtain⟨u',rfl⟩:=X9.1 (am.len bo);obtain⟨cO,cP,hm,cn⟩:=FD bo;have ae:∀r,leads u' r->aX r:=λr U=>by
  rcases cn with rfl|cp
  .obtain⟨_,_,_,e,_⟩:=U;cases e
  .obtain⟨e,_⟩:=bA hm U;rw[e];exact cp
 have ax:=aw.box;rw[bj] at ax;have bq:a.i.toNat<(s.vars.map cu).length:=by rw[u4];exact (x4.1 ap).1
 have aZ:a.i.toNat*1+1<=full.length:=aZ;have cq:full[a.i.toNat*1]? =σ u':=bn 0 u' rfl;obtain⟨_,_,_,cQ⟩:=bZ hm.ls;have cr:a.i=((a.i.toNat:Nat):Int):=Ω
 have ct:(cu x).length<=100000000:=by
  unfold cu;have:=S9 (λv:Int=>!dropped x.mask v) ((W3 x.un.length).map λv:Nat=>(v:Int));rw[u4,List.length_range] at this;omega
 have aD:=aV.cZ;rw[cr] at aD;have br:∀r,leads u' r->r<w0.heap.size:=λr U=>(a1 r (ae r U)).2;rw[ay,ac aG.p rfl,ad (v:=.slice (σ ⟨g,0,ν⟩) (s.vars.map cu).length cap) Ψ (ax.Q3 rfl),ac aR.p rfl,ad (v:=Δ ((a.i.toNat:Nat):Int)) Ψ (aD.Q1 rfl),
  ay,ac aG.p rfl,ad (v:=.slice (σ ⟨g,0,ν⟩) (s.vars.map cu).length cap) Ψ (ax.Q3 rfl),ac aR.p rfl,ad (v:=Δ ((a.i.toNat:Nat):Int)) Ψ (aD.Q1 rfl),fi cz.u ai.i bq λ_=>rfl,
  ad (v:=u') (o:=0+a.i.toNat*1) Ψ (bm.cell (by rw[V3];exact cq)),kx]
 refine (Lx (p:=λy=>decide (y=a.v)) hm ct λw' y cw cR=>?_).mono ?_
 .refine aB func86 ?_;rw[ac aR.p rfl,ad (v:=Δ a.v) Ψ ((aV.aa cw λr _ h=>br r h).cZ.Q2 rfl),bk];exact⟨rfl,Ext.refl _⟩
 rintro bt cS _ ⟨aF,bu,bw⟩;have cA:=aD.aa aF λh=>by have:=br aW h;have:=aI.low.1;omega
 have cB:=ax.aa aF λh=>(aw.apart 0 an (a1 an (ae an h))).2.2 rfl;have cC:=bm.aa aF λh=>bp (ae g h);refine⟨.inr ⟨hI Ψ (cA.Q1 rfl),Go.Vc.fD λK=>ac aR.p rfl,hI Ψ (cB.Q3 rfl),Go.Vc.fD λK=>ac aG.p rfl,Go.Vc.fD λK=>ay,trivial⟩,?_⟩;rw[fi cz.u ai.i bq λ_=>rfl];obtain⟨_,_,_,ev'⟩:=bZ bu.ls;refine bh (o:=0+a.i.toNat*1) ai.i (by rw[ev'];rfl) (by rw[ev'];rfl) cC Ω λbx bz cT aq=>?_;have aq:af bx g ci (over full (a.i.toNat*1) [bt]):=by
  have e:=vp (full:=full) (c:=[u']) (o:=a.i.toNat*1) (q:=0) (x:=bt) bn aZ Ξ;rw[V3] at aq;rw[Nat.add_zero] at e;rw[e] at aq;exact aq
 have Y:ag (λr=>aX r\/r=g) aT bx:=(aF.mono λr _ h=>.inl (ae r h)).trans (bz.mono λr _ h=>.inr h);have cD:=bc bu bz λr U he=>by have he:r=g:=he;subst he;exact bp (ae r (bw r U))
 have cE:=cl Y (λr _ h=>h) aq (lJ (R:=aP) cD) λr U=>.inl (ae r (bw r U));have aj:gH s a.i.toNat a.v.toNat={s with vars:=s.vars.set a.i.toNat {x with mask:=((x.mask.toNat ||| 2 ^ a.v.toNat:Nat):Int)}}:=by unfold gH;rw[ap]
 have a2:∀r,r<aT.heap.size->(aX r\/r=g)->A9 0 r/\r<w0.heap.size:=λr _ h=>h.elim (a1 r) λh=>by rw[h];exact cj
 obtain⟨bL,cF,aO⟩:=aw.LC (u':=gH s a.i.toNat a.v.toNat) ch (by rw[bj];rfl) Y a2 (by rw[aj,T2,LB cd];exact cE) (by rw[aj]) (by rw[aj];exact oj ap rfl) (by rw[aj];exact oj ap rfl) (by rw[aj]) (by rw[aj]);refine aM _ _ ⟨rfl,aV.aa Y λr U h=>(a2 r U h).2,((bi.aa _).trans (Y.mono λr U h=>.inl ⟨0,(a2 r U h).1⟩)),bL,cF,λq r U=>?_⟩;rcases aO q r U with⟨aN,h⟩|h
 .exact .inl ⟨aN,h.1⟩
 .exact .inr Ω
end
section
variable {w0 w w':x2} {al ah an aW:Nat} {A R:aj} {A9:Nat->aj} {aP:aj} {n:aV} {s u u':aF} {t:aD} {h:List aD} {cs:List x1} {a:dh} {aE az ck v:x1} {Q:x1->x2->Prop}
theorem LF {j c:Int} (h:b7 w al ah A R n s t) (J:¬(0<=j/\dI s j.toNat=true)):ak x3 oI [Γ al,Δ j,aE,Δ c] w λr w'=>r=Δ 1/\Ext w w':=by
 refine aB func57 ?_;have:ak x3 w6 [Γ al,Δ j,aE] w λr w'=>r=Δ (-1)/\Ext w w':=by
  refine aB func137 ?_;refine (lI (j:=j) h).mono ?_;rintro _ U _ ⟨rfl,I⟩;rw[bf,bD];refine⟨λ_=>⟨rfl,I⟩,λW=>absurd (by simpa using W) J⟩
 refine this.mono ?_;rintro _ U _ ⟨rfl,I⟩;refine (oh (h.ext I) (.inl Ω)).mono ?_;rintro r V _ ⟨rfl,X⟩;exact⟨by rw[if_pos Ω],I.trans X⟩
theorem LG {F:aj} {f:et} (h:bi (α:=fG) F R w c (ei f)) (ac:∀r,F r->¬R r):∃az av aL J,c=[az,av,aL,.bool (decide (f.live≠0))]/\bi J R w [aL] f.cs/\(∀r,J r->F r)/\
  ∀ {w':x2} {bo:Λ},ag J w w'->bi J R w' [aL] bo->bi (α:=fG) F R w' c (ei {f with cs:=bo}):=by
 obtain⟨aH,ao,A,B,rfl,ad,ap,aq,h1,V⟩:=h;obtain⟨au,aI,aw,ax,rfl,ay,ae,af,ah,aA⟩:=h1;obtain⟨aB,aC,aD,W,rfl,aE,X,ai,ak,al⟩:=aA;have V:ao=[.bool (decide (f.live≠0))]:=V;subst V;obtain⟨Y,rfl⟩:=X9.1 (show au.length=1 from am.len ah);obtain⟨U,rfl⟩:=X9.1 (show aB.length=1 from am.len ak);obtain⟨v3,rfl⟩:=X9.1 (show aC.length=1 from am.len al);have ab:∀r,W r->F r:=λr h=>ad r (ae r (X r h));refine⟨Y,U,v3,W,rfl,al,ab,λ{w' bo} an aF=>?_⟩;refine⟨[Y,U,v3],[.bool (decide (f.live≠0))],A,B,rfl,ad,ap,aq,⟨[Y],[U,v3],aw,ax,rfl,ay,ae,af,am.aa ah an λr aG I he=>?_,[U],[v3],aD,W,rfl,aE,X,ai,am.aa ak an λr aG I he=>?_,aF⟩,rfl⟩
 .exact I.elim (λI=>af rfl r I (X r he)) (ac r (ab r he))
 .exact I.elim (λI=>ai rfl r I he) (ac r (ab r he))
def kY (n:aV) (s:aF) (a:dh):aF:=if 0<=a.j/\(ec s a.j.toNat (a.t.take 40)).isSome=true/\(0<=b9 n.k a/\b9 n.k a<=n.k) then (match s.funs[a.j.toNat]? with
 |some f=>match ct f.szs (a.t.take 40) 0 with
  |some m=>gq s a.j.toNat m.toNat (b9 n.k a)
  |none=>s
 |none=>s) else s
theorem LH (p:bK w0 al ah an A R A9 aP n s s t h cs) (bl:Room t) (a8:Ext w0 w) (ba:dV w aW n.k a aE az ck w0.heap.size) (bm:∀w',iR w0 al ah an A R A9 aP n (kY n s a) t h w'->Q (.bool true) w'):
  bB (α:=x1->x2->Prop) (λ(bI:x1) (aT:x2)=>
      bB (α:=x1->x2->Prop) (λ(cb:x1) (aD:x2)=>
       J x3 (x7 aR (Γ aW) 3) aD λcc=>
       J x3 (x6 ab cc) aD λcd=>
       J x3 (x7 aR (Γ aW) 5) aD λbn=>
       J x3 (x6 ai bn) aD λce=>
       J x3 (x7 aR (Γ aW) 4) aD λcg=>
       J x3 (x6 ao cg) aD λch=>
       ak x3 oI [Γ al,cd,ce,ch] aD λci bJ=>
       J x3 (aC .eql eF false false ci cb) bJ λbo=>
       Q bo bJ) λbp=>
      J x3 (aC .lss ab false true bI (Δ 0)) aT λcj=>
      Split cj (bp (Δ 1) aT)
      (J x3 (Op.unary .not (.bool (decide (0<=b9 n.k a/\b9 n.k a<=n.k)))) aT λcl=>
      Split cl (bp (Δ 3) aT)
       (cm aT λU=>
       J x3 (aY (Γ an)) U λcn=>
       J x3 (x7 aG cn 6) U λcp=>
       J x3 (x6 b3 cp) U λcq=>
       J x3 (x7 aR (Γ aW) 3) U λcr=>
       J x3 (x6 ab cr) U λcu=>
       J x3 (n0 b3 cq cu) U λcw=>
       J x3 (x7 b0 cw 0) U λcz=>
       J x3 (x7 aZ cz 2) U λcA=>
       J x3 (x6 aw cA) U λcB=>
       J x3 (x7 aR (Γ aW) 4) U λcC=>
       J x3 (x6 ao cC) U λcD=>
       J x3 (n0 aw cB bI) U λcE=>
       aA x3 (o5 ao cE cD) U λ(_:Unit) cF=>
       bp (Δ 0) cF))) λbM=>
     cm w λaU=>
     J x3 (aY (Γ an)) aU λcG=>
     J x3 (x6 aG cG) aU λcH=>
     J x3 (x7 aR (Γ aW) 3) aU λcI=>
     J x3 (x6 ab cI) aU λcJ=>
     ak x3 sS [cH,cJ] aU λcK bN=>
     Split cK (cm bN λaF=>
     J x3 (aY (Γ an)) aF λcL=>
     J x3 (x6 aG cL) aF λcM=>
     J x3 (x7 aR (Γ aW) 3) aF λcN=>
     J x3 (x6 ab cN) aF λcO=>
     J x3 (x7 aR (Γ aW) 5) aF λcP=>
     J x3 (x6 ai cP) aF λcQ=>
     ak x3 wX [cM,cO,cQ] aF λcR cS=>
      bM cR cS)
     (bM (Δ (-1)) bN):=by
 obtain⟨W,bq⟩:∃W,W=a.t.take 40:=⟨_,rfl⟩;have bb:=p.b8.2.2.2.1;have bO:∀ {V:x2} {K:x1->Prop},dV V aW n.k a aE az ck w0.heap.size->(aJ .i64 V aE W->K aE)->J x3 (x7 aR (Γ aW) 5) V λbn=>J x3 (x6 ai bn) V K:=λX br=>by
  obtain⟨g,hm⟩:=X.t;obtain⟨_,_,_,e⟩:=bZ hm.ls;rw[ac aR.p rfl,ad (v:=aE) Ψ (X.cZ.Q5 rfl)];exact br (by rw[bq];exact hm.ls)
 have call:∀ {V:x2} {K:x1->x2->Prop},dV V aW n.k a aE az ck w0.heap.size->(aJ .i64 V aE W->ak x3 oI [Γ al,Δ a.j,aE,Δ (b9 n.k a)] V K)->
   J x3 (x7 aR (Γ aW) 3) V λcT=>J x3 (x6 ab cT) V λcU=>J x3 (x7 aR (Γ aW) 5) V λcV=>J x3 (x6 ai cV) V λcW=>
   J x3 (x7 aR (Γ aW) 4) V λcX=>J x3 (x6 ao cX) V λcY=>ak x3 oI [Γ al,cU,cW,cY] V K:=λX br=>by
  rw[ac aR.p rfl,ad (v:=Δ a.j) Ψ (X.cZ.Q3 rfl)];refine bO X λaj=>?_;rw[ac aR.p rfl,ad (v:=Δ (b9 n.k a)) Ψ (X.cZ.Q4 rfl)];exact br aj
 have dW:=p.olds.ext a8;refine aQ (λv V=>Ext w V/\((v=Δ (-1)/\¬(0<=a.j/\(ec s a.j.toNat W).isSome=true))\/ ∃f m,v=Δ ((m:Nat):Int)/\0<=a.j/\(ec s a.j.toNat W).isSome=true/\s.funs[a.j.toNat]? =σ f/\f.live≠0/\ct f.szs W 0=σ (m:Int)/\m<f.cs.length)) ?_ ?_
 rotate_left
 .intro bt ap aH bc _ _;rw[ay];refine (dW.ext bc).look.load λdr c0=>?_;rw[ac aR.p rfl,ad (v:=Δ a.j) Ψ ((ba.ext bc).cZ.Q3 rfl)];refine (vi (j:=a.j) c0).mono ?_;rintro _ ax _ ⟨rfl,Y⟩;rw[bD];refine⟨λbu=>?_,λaI=>ap _ _ ⟨bc.trans Y,.inl ⟨rfl,λ⟨aV,h1⟩=>?_⟩⟩⟩
  .rw[U4] at bu;have aV:=of_decide_eq_true bu.1;obtain⟨f,I,bw⟩:∃f,s.funs[a.j.toNat]? =σ f/\f.live≠0:=by
    have aX:=bu.2;unfold dI at aX;cases I:s.funs[a.j.toNat]? with
    |none=>rw[I] at aX;cases aX
    |some f=>rw[I] at aX;exact⟨f,rfl,by simpa using aX⟩
   intro bx a1 _ _;have bd:=(bc.trans Y).trans a1;have a2:=dW.ext bd;have aL:=ba.ext bd;rw[ay];refine a2.look.load λds c1=>?_;rw[ac aR.p rfl,ad (v:=Δ a.j) Ψ (aL.cZ.Q3 rfl)];refine bO aL λaj=>?_;have bP:=Lo (j:=a.j.toNat) c1 bb I aj;rw[show ((a.j.toNat:Nat):Int)=a.j by omega] at bP;refine bP.mono ?_;rintro _ bR _ ⟨rfl,bS⟩;have c2:=pO bb (x5 I);rw[G6 c2.1.2];have bT:ec s a.j.toNat W=(ct f.szs W 0).map λm=>eb s a.j.toNat+1+m.toNat:=by unfold ec;rw[I];simp only;rw[if_pos bw]
   cases hi:ct f.szs W 0 with
   |none=>exact ap _ _ ⟨bd.trans bS,.inl ⟨rfl,λ⟨_,h⟩=>by rw[bT,hi] at h;simp at h⟩⟩
   |some m=>
    have aM:(ec s a.j.toNat W).isSome=true:=by rw[bT,hi];rfl
    obtain⟨q,a6⟩:=Option.isSome_iff_exists.1 aM;obtain⟨_,c3,be,_,c4,bU,bz,_⟩:=pP bb a6;rw[I] at be;cases be;rw[hi] at bU;cases bU;exact ap _ _ ⟨bd.trans bS,.inr ⟨f,c4,rfl,aV,aM,I,bw,hi,bz⟩⟩
  .rw[decide_eq_true aV,V6] at aI;obtain⟨q,a6⟩:=Option.isSome_iff_exists.1 h1;obtain⟨_,c3,be,c5,_⟩:=pP bb a6;unfold dI at aI;rw[be] at aI;simp[c5] at aI
 rintro _ V ⟨aK,⟨rfl,aI⟩|⟨f,m,rfl,aV,aM,I,bw,hi,bz⟩⟩
 .have a7:=dW.ext aK;have X:=ba.ext aK;refine aQ (λv aH=>v=Δ 1/\V=aH) ?_ ?_
  .rintro _ aH ⟨rfl,rfl⟩;refine call X λaj=>?_;have bV:∀ {ax:x2},Ext V ax->J x3 (aC .eql eF false false (Δ 1) (Δ 1)) ax λbo=>Q bo ax:=λY=>by
    rw[bk];exact bm _ (by unfold kY;rw[<-bq,if_neg λh=>aI ⟨h.1,h.2.1⟩];exact kc p ((a8.trans aK).trans Y))
   by_cases bW:0<=a.j/\dI s a.j.toNat=true
   .have aB:=ve (j:=a.j.toNat) (c:=b9 n.k a) a7.b8 bl aj;rw[show ((a.j.toNat:Nat):Int)=a.j by omega] at aB;refine aB.mono ?_;rintro v ax _ ⟨h1,_⟩;have c6:ec s a.j.toNat W=ν:=by
     cases a6:ec s a.j.toNat W with
     |none=>rfl
     |some q=>exact absurd ⟨bW.1,by rw[a6];rfl⟩ aI
    obtain⟨rfl,Y⟩:=h1 c6;exact bV Y
   .refine (LF (c:=b9 n.k a) a7.b8 bW).mono ?_;rintro v ax _ ⟨rfl,Y⟩;exact bV Y
  .intro bt ap;rw[aq,ae];exact⟨λ_=>ap _ _ ⟨rfl,rfl⟩,λh=>absurd Φ h⟩
 have a7:=dW.ext aK;have X:=ba.ext aK;by_cases aN:0<=b9 n.k a/\b9 n.k a<=n.k
 rotate_left
 .refine aQ (λv aH=>v=Δ 3/\V=aH) ?_ ?_
  .rintro _ aH ⟨rfl,rfl⟩;refine call X λaj=>?_;have aB:=ve (j:=a.j.toNat) (c:=b9 n.k a) a7.b8 bl aj;rw[show ((a.j.toNat:Nat):Int)=a.j by omega] at aB;refine aB.mono ?_;rintro v ax _ ⟨_,h1,_⟩;obtain⟨rfl,Y⟩:=h1 aM aN;rw[bk];exact bm _ (by unfold kY;rw[if_neg λh=>aN h.2.2];exact kc p ((a8.trans aK).trans Y))
  .intro bt ap;rw[aq,ae];refine⟨λh=>Ω,λ_=>?_⟩;rw[decide_eq_false aN,bf,X5,bQ];exact ap _ _ ⟨rfl,rfl⟩
 have c7:kY n s a=gq s a.j.toNat m (b9 n.k a):=by
  unfold kY;rw[<-bq,if_pos ⟨aV,aM,aN⟩,I];simp only;rw[hi];rfl
 refine aQ (λv V=>v=Δ 0/\dV V aW n.k a aE az ck w0.heap.size/\ag (λr=>(∃q,A9 q r)\/r=an) w0 V/\ ∃bL,bK V al ah an A R bL aP n s (gq s a.j.toNat m (b9 n.k a)) t h cs/\ ∀q r,bL q r->(∃bA,A9 bA r)\/w0.heap.size<=r) ?_ ?_
 .rintro _ aH ⟨rfl,c8,c9,bL,bX,bC⟩;refine call c8 λaj=>?_;have aB:=ve (j:=a.j.toNat) (c:=b9 n.k a) bX.b8 bl aj;rw[show ((a.j.toNat:Nat):Int)=a.j by omega] at aB;refine aB.mono ?_;rintro v ax _ ⟨_,_,h1⟩;obtain⟨rfl,da⟩:=pZ bX c9 bC (h1 aM aN f m I hi);rw[bk];exact bm _ (by rw[c7];exact da)
 intro bt ap;rw[aq,ae];refine⟨λh=>Ω,λ_=>?_⟩;rw[decide_eq_true aN,bf,Y1,aS];intro bx a1 _ _;have bY:=(a8.trans aK).trans a1;have a2:=a7.ext a1;have aL:=X.ext a1;obtain⟨av,dt,du,dv,dw,dx,b1,_,_,_,_,db,_,bE⟩:=id a2.doc;have z:=bY.size;have dc:∀q r,(A9 q r/\r<w0.heap.size)->r<bx.heap.size:=λq r h=>by have:=h.2;omega
 obtain⟨g,cap,full,dd,c,dy,rfl,b2,dz,bF,b4,de,bG,df,dg⟩:=vl (i:=a.j.toNat) (a:=ei f) db (by rw[x8,I];rfl) λr _ h=>(bE rfl).2 3 r h;obtain⟨bg,bh,v3,dh,rfl,b5,bi,di⟩:=LG de λr h=>(bE rfl).2 3 r (bG r h);have b6:=a2.box;rw[b1] at b6;have dj:a.j.toNat<(s.funs.map ei).length:=by rw[u4];exact (x4.1 I).1
 have bF:a.j.toNat*4+4<=full.length:=bF;have b7:full[a.j.toNat*4+2]? =σ v3:=b4 2 v3 rfl;obtain⟨_,_,_,dA⟩:∃a n c,v3= .slice a n c:=by obtain⟨_,_,_,_,_,⟨_,b,o,base,cap,e,_⟩,_⟩:=gb b5;exact⟨_,_,_,e⟩
 rw[ay,ac aG.p rfl,ad (v:=.slice (σ ⟨g,0,ν⟩) (s.funs.map ei).length cap) Ψ (b6.Q6 rfl),ac aR.p rfl,ad (v:=Δ a.j) Ψ (aL.cZ.Q3 rfl),
  show a.j=((a.j.toNat:Nat):Int) by omega,fi b3.u b0.i dj λ_=>rfl,ac b0.p rfl,ac aZ.p rfl,ad (v:=v3) (o:=0+a.j.toNat*4+0+2) Ψ (b2.cell (by rw[V3,Nat.add_zero];exact b7)),ac aR.p rfl,ad (v:=Δ (b9 n.k a)) Ψ (aL.cZ.Q4 rfl)]
 refine vf (α:=Int) (i:=m) (A:=λ_=>False) rfl rfl aw.u ao.i b5 bz rfl rfl (λr _ au=>⟨λh=>h,(bE rfl).2 3 r (bG r (bi r au))⟩) λbR aO dk=>?_;have dl:=di aO (am.mono dk (λr _ h=>h.elim id False.elim) λ_ _ h=>h);have dm:af bR g dd (over full (a.j.toNat*4) [bg,bh,v3,.bool (decide (f.live≠0))]):=by
  have e:=vp (full:=full) (c:=[bg,bh,v3,.bool (decide (f.live≠0))]) (o:=a.j.toNat*4) (q:=2) (x:=v3) b4 bF Ξ;have dn:full.set (a.j.toNat*4+2) v3=full:=by
   refine X8 λk=>?_;rw[X7];by_cases ca:a.j.toNat*4+2=k
   .subst ca;rw[if_pos rfl,if_pos Ω,b7]
   .rw[if_neg ca]
  rw[dn] at e;rw[show ([bg,bh,v3,.bool (decide (f.live≠0))]:List x1)=[bg,bh,v3,.bool (decide (f.live≠0))].set 2 v3 from rfl,<-e];exact b2.aa aO λh=>df (bi g h)
 have dp:=dg aO (λr _ h=>.inl (bi r h)) dm dl λr au=>.inl au;have bj:gq s a.j.toNat m (b9 n.k a)={s with funs:=s.funs.set a.j.toNat {f with cs:=f.cs.set m (b9 n.k a)}}:=by unfold gq;rw[I]
 have bH:∀r,r<bx.heap.size->dh r->A9 3 r/\r<w0.heap.size:=λr _ h=>bG r (bi r h);obtain⟨bL,dq,bC⟩:=a2.BU (u':=gq s a.j.toNat m (b9 n.k a)) dc (by rw[b1];rfl) aO bH (by rw[bj,T2];exact dp) (by rw[bj]) (by rw[bj]) (by rw[bj]);refine ap _ _ ⟨rfl,aL.aa aO λr au h=>(bH r au h).2,((bY.aa _).trans (aO.mono λr au h=>.inl ⟨3,(bH r au h).1⟩)),bL,dq,λq r au=>?_⟩;rcases bC q r au with⟨bA,h⟩|h
 .exact .inl ⟨bA,h.1⟩
 .exact .inr Ω
end
section
variable {w:x2} {n:aV} {v:x1} {s:aF}
theorem BV {an:x1} (h:iP w v n.k n.sizes s) (aD:eB n.k n.sizes s) (W:aJ .i64 w an l):ak x3 Ef [v,an] w λr w'=>(∃b,r= .bool b/\(b=true↔kb n s l))/\Ext w w':=by
 have a2:=aD.vars;refine aB func175 ?_;refine bN λg1 U a6 I af=>?_;have ao:=h.box I af;rw[aT ai.u (W.ext I)];refine bE.range l.length (λi _ V=>Ext U V/\ ∀q,q<i->mP n s l q) W.le ⟨Ext.refl _,λq aE=>Ω⟩ ?_ ?_
 .rintro i _ V aF hi ⟨X,aH⟩ aK;obtain⟨x,Y⟩:∃x,l[i]? =σ x:=⟨_,y0 hi⟩;have aL:=I.trans X;refine Υ λ_=>?_;rw[bd ai.u ab.i Ψ (W.ext aL) Y];have ap:∀ {p:Prop},(¬(0<=x/\x<n.sizes.length/\fd s x.toNat=false/\(0<i->l.getD (i-1) 0<x)))->mP n s l i->p:=λag ⟨v,aa,al⟩=>by
   rw[Y] at aa;cases aa;exact absurd al ag
  refine aQ (λr au=>∃b,r= .bool b/\(b=false↔mP n s l i)/\Ext U au) ?_ ?_
  .rintro _ au ⟨b,rfl,af,aw⟩;rw[bD];refine⟨λaM=>⟨⟨false,rfl,⟨(λh=>by cases h),λh=>?_⟩⟩,I.trans aw⟩,λaO=>?_⟩
   .have:=af.2 (h i hi);rw[aM] at this;cases this
   .rw[aN];refine aK _ _ ⟨aw,λq aE=>?_⟩;by_cases aP:q=i
    .subst aP;exact af.1 aO
    .exact aH q Ω
  intro a7 ah;refine (ao.ext X).load λu hu=>?_;refine (pT (i:=x) hu).mono ?_;rintro _ a8 _ ⟨rfl,aR⟩;have J:=X.trans aR;rw[bf,bD];refine⟨λag=>ah _ _ ⟨true,rfl,⟨(λh=>by cases h),ap λaI=>?_⟩,J⟩,λaS=>?_⟩
  .rw[decide_eq_true (show 0<=x/\x<n.sizes.length from⟨aI.1,aI.2.1⟩)] at ag;cases ag
  have aj:0<=x/\x<n.sizes.length:=by simpa using aS
  obtain⟨y,ax⟩:∃y,s.vars[x.toNat]? =σ y:=⟨_,y0 Ω⟩;have ay:fd s x.toNat=decide (y.gone≠0):=by unfold fd;rw[ax]
  obtain⟨av,ba,aU,bb,bc,be,aV,_,_,_,aW,_⟩:=ao.ext J;rw[ac aG.p rfl,ad (v:=aU) Ψ (aV.Q4 rfl)];refine lm (α:=Bool) (i:=x.toNat) rfl Ω fs.u eN.i Ψ aW (by rw[x8,ax];rfl) λaX aY=>?_;obtain rfl:aX= .bool (decide (y.gone≠0)):=(List.cons.inj aY).1;rw[ae];refine⟨λam=>ah _ _ ⟨true,rfl,⟨(λh=>by cases h),ap λaI=>?_⟩,J⟩,λam=>?_⟩
  .rw[ay,decide_eq_true am] at aI;cases aI.2.2.1
  have az:fd s x.toNat=false:=by rw[ay];exact decide_eq_false am
  rw[bR,ae];refine⟨λaZ=>?_,λaZ=>ah _ _ ⟨false,rfl,⟨λ_=>⟨x,Y,aj.1,aj.2,az,λh=>Ω⟩,λ_=>rfl⟩,J⟩⟩;obtain⟨p,aA⟩:∃p,l[i-1]? =σ p:=⟨_,y0 Ω⟩;have bg:=W.le;rw[c3,wrap_i64 Ω Ω,dY (y:=(i:Int)-1) (i:=i-1) Ω ai.u ab.i Ψ (W.ext (I.trans J)) aA,ce];have aC:l.getD (i-1) 0=p:=by rw[u5,aA];rfl
  refine ah _ _ ⟨_,rfl,⟨λh=>⟨x,Y,aj.1,aj.2,az,λ_=>by rw[aC];have:=of_decide_eq_false h;omega⟩,λ⟨v,aa,_,_,_,al⟩=>?_⟩,J⟩;rw[Y] at aa;cases aa;have:=al Ω;rw[aC] at this;exact decide_eq_false Ω
 .rintro _ V aF ⟨X,a1⟩;rw[aq,ae];exact⟨λh=>Ω,λ_=>⟨⟨true,rfl,⟨λ_=>a1,λ_=>rfl⟩⟩,I.trans X⟩⟩
def kd (n:aV) (s:aF) (l I:Λ):Prop:=2<=l.length/\l.length=I.length/\kb n s l/\ ∀ (i:Nat) v z,l[i]? =σ v->I[i]? =σ z->n.sizes.getD v.toNat 0=z
theorem BW {aw ax:x1} {Y:Λ} (h:iP w v n.k n.sizes s) (aF:eB n.k n.sizes s) (W:aJ .i64 w aw l) (af:aJ .i64 w ax Y):ak x3 s4 [v,aw,ax] w λr w'=>(∃b,r= .bool b/\(b=true↔kd n s l Y))/\Ext w w':=by
 have aH:=W.le;refine aB func92 ?_;refine bN λg1 U a6 J aI=>?_;have ay:=h.box J aI;refine aQ (λr V=>∃b,r= .bool b/\(b=false↔2<=l.length/\l.length=Y.length/\kb n s l)/\Ext U V) ?_ ?_
 .rintro _ V ⟨b,rfl,az,aj⟩;rw[bD];refine⟨λaK=>⟨⟨false,rfl,⟨(λh=>by cases h),λI=>?_⟩⟩,J.trans aj⟩,λaL=>?_⟩
  .have:=az.2 ⟨I.1,I.2.1,I.2.2.1⟩;rw[aK] at this;cases this
  obtain⟨aM,aO,aA⟩:=az.1 aL;have aa:=J.trans aj;rw[aT ai.u (W.ext aa)];refine bE.range l.length (λi _ al=>Ext V al/\ ∀ (q:Nat) v z,q<i->l[q]? =σ v->Y[q]? =σ z->n.sizes.getD v.toNat 0=z) aH ⟨Ext.refl _,λq v z aP=>Ω⟩ ?_ ?_
  .rintro i _ al aR hi ⟨ag,aS⟩ aU;obtain⟨x,am,a7,a8,_⟩:=aA i hi;obtain⟨z,an⟩:∃z,Y[i]? =σ z:=⟨_,y0 Ω⟩;obtain⟨y,aC⟩:∃y,n.sizes[x.toNat]? =σ y:=⟨_,y0 Ω⟩;refine Υ λ_=>?_;rw[bd ai.u ab.i Ψ (W.ext (aa.trans ag)) am];intro ba aV _ _;have ah:=ag.trans aV;obtain⟨av,bb,bc,be,bg,bh,aW,aX,_⟩:=ay.ext (aj.trans ah);rw[ac aG.p rfl,ad (v:=av) Ψ (aW.Q1 rfl),dY (y:=x) (i:=x.toNat) Ω ai.u ab.i Ψ aX aC,bd ai.u ab.i Ψ (af.ext (aa.trans ah)) an,bG,ae];have aD:n.sizes.getD x.toNat 0=y:=by rw[u5,aC];rfl
   refine⟨λao=>⟨⟨false,rfl,⟨(λh=>by cases h),λI=>?_⟩⟩,aa.trans ah⟩,λhe=>?_⟩
   .have:=I.2.2.2 i x z am an;rw[aD] at this;exact absurd this ao
   .rw[aN];refine aU _ _ ⟨ah,λq v aY aP X ap=>?_⟩;by_cases aZ:q=i
    .subst aZ;rw[am] at X;rw[an] at ap;cases X;cases ap;rw[aD];exact X4.1 he
    .exact aS q v aY Ω X ap
  .rintro _ al aR ⟨ag,a1⟩;rw[aq,ae];refine⟨λh=>Ω,λ_=>⟨⟨true,rfl,⟨λ_=>⟨aM,aO,aA,λi v z X af=>a1 i v z (x4.1 X).1 X af⟩,λ_=>rfl⟩⟩,aa.trans ag⟩⟩
 intro bi au;rw[aT ai.u (W.ext J),aq,ae];refine⟨λbj=>au _ _ ⟨true,rfl,⟨(λh=>by cases h),λh=>Ω⟩,Ext.refl _⟩,λbk=>?_⟩;rw[aT ai.u (W.ext J),aT ai.u (af.ext J),bG,ae];refine⟨λao=>au _ _ ⟨true,rfl,⟨(λh=>by cases h),λh=>absurd Ω ao⟩,Ext.refl _⟩,λhe=>?_⟩;refine ay.load λu hu=>?_;refine (BV hu aF (W.ext J)).mono ?_;rintro _ bl _ ⟨⟨b,rfl,aE⟩,a2⟩;rw[bf];have he:=X4.1 he;refine au _ _ ⟨!b,rfl,⟨λh=>⟨Ω,Ω,aE.1 (by simpa using h)⟩,λh=>by rw[aE.2 h.2.2];rfl⟩,a2⟩
end
structure mT (n:aV) (s:aF) (e:hp):Prop where
 has:0<=e.v/\e.v<n.sizes.length
 there:fd s e.v.toNat=false
 scope:kb n s e.sc
 out:e.v∉e.sc
 om:∀f∈s.funs,f.live≠0->e.v∉f.sc
 count:(e.ea.length:Int)=aM (bF n.sizes e.sc)
 ea:∀b∈e.ea,-1<=b/\b<n.sizes.getD e.v.toNat 0
theorem BX {m:Λ} (I:∀x∈m,1<=x) (J:0<=aM l):aM l<=aM (l++m):=by
 induction m generalizing l with
 |nil=>simp
 |cons x m U=>
  have h1:aM l<=aM (l++[x]):=by
   rw[rf];have V:=I x (.head _);have:=Int.mul_le_mul_of_nonneg_left V J;rwa [Int.mul_one] at this
  have:=U (l:=l++[x]) (λy W=>I y (.tail _ W)) Ω;rw[X1] at this;exact Int.le_trans h1 this
section
variable {w:x2} {n:aV} {v:x1} {s:aF}
theorem BY {bv:x1} {e:hp} (h:iP w v n.k n.sizes s) (aY:eB n.k n.sizes s) (I:aJ .i64 w az e.sc) (a1:aJ .i64 w bv e.ea) (cS:e.ea.length<=1000000):ak x3 w1 [v,.agg #[Δ e.v,az,bv]] w λr w'=>(∃b,r= .bool b/\(b=true↔mT n s e))/\Ext w w':=by
 have cT:=aY.vars;refine aB func93 ?_;refine bN λg1 U cU bt aO=>?_;have bW:=h.box bt aO;refine bN λbX V cV bu a2=>?_;have al:=bt.trans bu;have ax:=bW.ext bu;have ah:af V bX ca [Δ e.v,az,bv]:=by
  obtain⟨_,_,_,bY⟩:=bZ I;obtain⟨_,_,_,b1⟩:=bZ a1;rw[bY,b1] at a2 ⊢;exact a2
 have aP:=I.ext al;have aR:=a1.ext al;clear a2 aO;refine aQ (λr a6=>∃b,r= .bool b/\(b=false↔(0<=e.v/\e.v<n.sizes.length)/\fd s e.v.toNat=false/\kb n s e.sc/\e.v∉e.sc)/\Ext V a6) ?_ ?_
 rotate_left
 .intro bw aa;refine ax.load λu hu=>?_;rw[ac ca.p rfl,ad (v:=Δ e.v) Ψ (ah.Q0 rfl)];refine (pT (i:=e.v) hu).mono ?_;rintro _ ay _ ⟨rfl,X⟩;rw[bf,bD];refine⟨λaC=>aa _ _ ⟨true,rfl,⟨(λh=>by cases h),λaI=>?_⟩,X⟩,λa7=>?_⟩
  .rw[decide_eq_true aI.1] at aC;cases aC
  have a8:0<=e.v/\e.v<n.sizes.length:=by simpa using a7
  obtain⟨y,bx⟩:∃y,s.vars[e.v.toNat]? =σ y:=⟨_,y0 Ω⟩;have bz:fd s e.v.toNat=decide (y.gone≠0):=by unfold fd;rw[bx]
  have ba:=ax.ext X;have aD:=ah.ext X;obtain⟨av,b2,bA,b4,bB,b5,b6,_,_,_,b7,_⟩:=id ba;rw[ac aG.p rfl,ad (v:=bA) Ψ (b6.Q4 rfl),ac ca.p rfl,ad (v:=Δ e.v) Ψ (aD.Q0 rfl)];refine lm (α:=Bool) (i:=e.v.toNat) rfl Ω fs.u eN.i Ψ b7 (by rw[x8,bx];rfl) λb8 b9=>?_;obtain rfl:b8= .bool (decide (y.gone≠0)):=(List.cons.inj b9).1;rw[ae];refine⟨λJ=>aa _ _ ⟨true,rfl,⟨(λh=>by cases h),λaI=>?_⟩,X⟩,λJ=>?_⟩
  .rw[bz,decide_eq_true J] at aI;cases aI.2.1
  have bb:fd s e.v.toNat=false:=by rw[bz];exact decide_eq_false J
  refine ba.load λu hu=>?_;rw[ac ca.p rfl,ad (v:=az) Ψ (aD.Q1 rfl)];refine (BV hu aY (aP.ext X)).mono ?_;rintro _ an _ ⟨⟨b,rfl,bC⟩,ag⟩;have bc:=X.trans ag;have aS:=aD.ext ag;rw[bf,bD];refine⟨λaC=>aa _ _ ⟨true,rfl,⟨(λh=>by cases h),λaI=>?_⟩,bc⟩,λa7=>?_⟩
  .rw[bC.2 aI.2.2.1] at aC;cases aC
  have aE:=bC.1 (by simpa using a7);rw[ac ca.p rfl,ad (v:=az) Ψ (aS.Q1 rfl),ac ca.p rfl,ad (v:=Δ e.v) Ψ (aS.Q0 rfl)];refine (BE (v:=e.v) (aP.ext bc)).mono ?_;rintro _ ao _ ⟨rfl,ap⟩;exact aa _ _ ⟨_,rfl,⟨λh=>⟨a8,bb,aE,of_decide_eq_false h⟩,λh=>decide_eq_false h.2.2.2⟩,bc.trans ap⟩
 rintro _ a6 ⟨b,rfl,bG,aF⟩;rw[bD];refine⟨λaU=>⟨⟨false,rfl,⟨(λh=>by cases h),λJ=>?_⟩⟩,al.trans aF⟩,λau=>?_⟩
 .rw[bG.2 ⟨J.has,J.there,J.scope,J.out⟩] at aU;cases aU
 obtain⟨a8,bb,aE,cb⟩:=bG.1 au;have cc:=ax.ext aF;obtain⟨av,b2,bA,b4,bB,b5,cd,_,_,_,_,_,be,_⟩:=id cc;rw[ac aG.p rfl,ad (v:=bB) Ψ (cd.Q6 rfl),eP b3.u be,u4];have bI:=ns be;rw[u4] at bI;refine bE.range s.funs.length (λj _ ay=>Ext a6 ay/\ ∀ (q:Nat) f,q<j->s.funs[q]? =σ f->f.live≠0->e.v∉f.sc) bI ⟨Ext.refl _,λq f W=>Ω⟩ ?_ ?_
 .rintro j t4 ay cg ch ⟨X,bh⟩ ci;obtain⟨f,au⟩:∃f,s.funs[j]? =σ f:=⟨_,y0 ch⟩;have cj:=aF.trans X;refine Υ λ_=>?_;refine iy b0.p rfl b3.u b0.i (bg be X) (by rw[x8,au];rfl) λcW bJ=>?_;have ck:=am.one bJ;obtain⟨bK,cl,cm,rfl,cn,_,_⟩:=pU bJ;refine bp b0.i λcp an cX ag aV=>?_;refine bH (vs:=[bK,cl,cm,.bool (decide (f.live≠0))]) b0.i rfl rfl ck aV λao cq cY bL=>?_;have bi:Ext ay ao:=ag.then cq λr cZ he=>by have he:r=cp:=he;omega
  refine aQ (λr aH=>∃b,r= .bool b/\(b=true↔f.live≠0/\e.v∈f.sc)/\Ext ao aH) ?_ ?_
  .rintro _ aH ⟨b,rfl,bM,aW⟩;have bO:=X.trans (bi.trans aW);rw[bD];refine⟨λaU=>⟨⟨false,rfl,⟨(λh=>by cases h),λJ=>?_⟩⟩,al.trans (aF.trans bO)⟩,λaV=>?_⟩
   .obtain⟨h1,cr⟩:=bM.1 aU;exact absurd cr (J.om f (x5 au) h1)
   .rw[aN];refine ci _ _ ⟨bO,λq ct W bj aX hm=>?_⟩;by_cases cu:q=j
    .subst cu;rw[au] at bj;cases bj;rw[bM.2 ⟨aX,hm⟩] at aV;cases aV
    .exact bh q ct Ω bj aX hm
  intro bw aa;rw[ac b0.p rfl,ad (v:=.bool (decide (f.live≠0))) Ψ (bL.Q3 rfl),ae];refine⟨λaX=>?_,λcw=>aa _ _ ⟨false,rfl,⟨(λh=>by cases h),λh=>absurd h.1 cw⟩,Ext.refl _⟩⟩;rw[ac b0.p rfl,ac aZ.p rfl,ad (v:=bK) Ψ (bL.cell (o:=0+0+0) rfl),ac ca.p rfl,ad (v:=Δ e.v) Ψ (((ah.ext cj).ext bi).Q0 rfl)];refine (BE (v:=e.v) ((dZ cn).ext bi)).mono ?_;rintro _ c0 _ ⟨rfl,cz⟩;exact aa _ _ ⟨_,rfl,⟨λh=>⟨aX,of_decide_eq_true h⟩,λh=>decide_eq_true h.2⟩,cz⟩
 rintro t4 ay cg ⟨X,cA⟩;rw[aq,ae];refine⟨λh=>Ω,λ_=>?_⟩;have aK:=aF.trans X;have aD:=ah.ext aK;have ba:=ax.ext aK;have om:∀f∈s.funs,f.live≠0->e.v∉f.sc:=λf au=>by
  obtain⟨q,W⟩:=Y7.1 au;exact cA q f (x4.1 W).1 W
 rw[ac ca.p rfl,ad (v:=az) Ψ (aD.Q1 rfl),aT ai.u (aP.ext aK)];obtain⟨L,aA⟩:∃L,L=bF n.sizes e.sc:=⟨_,rfl⟩;have c1:L.length=e.sc.length:=by rw[aA];unfold bF;rw[u4]
 have bl:∀x∈L,1<=x/\x<=32:=λx aL=>by
  rw[aA] at aL;unfold bF at aL;obtain⟨v,cB,rfl⟩:=Z1.1 aL;obtain⟨q,W⟩:=Y7.1 cB;obtain⟨c2,bP,c3,h1,_⟩:=aE q (x4.1 W).1;rw[W] at bP;cases bP;obtain⟨z,aj⟩:∃z,n.sizes[v.toNat]? =σ z:=⟨_,y0 Ω⟩;rw[u5,aj];exact aY.eu.2.2 z (x5 aj)
 have cC:∀q,0<=aM (L.take q):=λq=>by
  induction q with
  |zero=>simp[aM]
  |succ q bm=>
   cases W:L[q]? with
   |none=>
    have:=List.getElem?_eq_none_iff.1 W;rw[l5 Ω];rw[l5 Ω] at bm;exact bm
   |some x=>
    rw[jM W];exact Int.mul_nonneg bm (by have:=(bl x (x5 W)).1;omega)
 have cD:∀q,aM (L.take q)<=aM L:=λq=>by
  have:=BX (l:=L.take q) (m:=L.drop q) (λx aL=>(bl x (List.mem_of_mem_drop aL)).1) (cC q);rwa [List.take_append_drop] at this
 refine k7.range e.sc.length (λi _ cE an=>Ext ay an/\ ∃m:Int,cE=Δ m/\m=aM (L.take i)/\0<=m/\m<=1000000) I.le ⟨Ext.refl _,1,rfl,rfl,Ω,Ω⟩ ?_ ?_
 .rintro i t4 _ an cF hi ⟨ag,m,rfl,hm,bQ,bS⟩ cG;obtain⟨x,bT,c4,c5,_⟩:=aE i hi;obtain⟨z,aj⟩:∃z,n.sizes[x.toNat]? =σ z:=⟨_,y0 Ω⟩;have bU:L[i]? =σ z:=by rw[aA];unfold bF;rw[x8,bT,Y0,u5,aj];rfl
  have cH:=bl z (x5 bU);have Y:=aK.trans ag;obtain⟨bn,_,_,_,_,_,cI,bo,_⟩:=ax.ext Y;have c6:0<=m*z/\m*z<=1000000*32:=⟨Int.mul_nonneg bQ Ω,Int.mul_le_mul bS cH.2 Ω Ω⟩;have cJ:aM (L.take (i+1))=m*z:=by rw[jM bU,hm]
  refine Υ λ_=>?_;rw[bd ai.u ab.i Ψ (aP.ext Y) bT,ac aG.p rfl,ad (v:=bn) Ψ (cI.Q1 rfl),dY (y:=x) (i:=x.toNat) Ω ai.u ab.i Ψ bo aj,fv,wrap_i64 Ω Ω,
   ac ca.p rfl,ad (v:=bv) Ψ ((ah.ext Y).Q2 rfl),aT ai.u (aR.ext Y),bR,ae]
  refine⟨λc7=>⟨⟨false,rfl,⟨(λh=>by cases h),λJ=>?_⟩⟩,al.trans Y⟩,λc8=>?_⟩
  .have h1:=J.count;rw[<-aA] at h1;have:=cD (i+1);omega
  .rw[aN];exact cG _ _ _ ⟨ag,_,rfl,cJ.symm,Ω,Ω⟩
 rintro t4 _ an cF ⟨ag,m,rfl,hm,bQ,bS⟩;rw[l5 Ω] at hm;have Y:=aK.trans ag;have aS:=ah.ext Y;obtain⟨z,aj⟩:∃z,n.sizes[e.v.toNat]? =σ z:=⟨_,y0 Ω⟩;have bV:n.sizes.getD e.v.toNat 0=z:=by rw[u5,aj];rfl
 rw[aq,ae];refine⟨λh=>Ω,λ_=>?_⟩;rw[ac ca.p rfl,ad (v:=bv) Ψ (aS.Q2 rfl),aT ai.u (aR.ext Y)];refine bE.range e.ea.length (λi _ ao=>Ext an ao/\ ∀ (q:Nat) b,q<i->e.ea[q]? =σ b-> -1<=b/\b<z) a1.le ⟨Ext.refl _,λq b W=>Ω⟩ ?_ ?_
 .rintro i t4 ao cK hi ⟨ap,bh⟩ cL;obtain⟨b,bq⟩:∃b,e.ea[i]? =σ b:=⟨_,y0 hi⟩;have aw:=Y.trans ap;refine Υ λ_=>?_;rw[bd ai.u ab.i Ψ (aR.ext aw) bq];refine aQ (λr aH=>r= .bool (decide (¬(-1<=b/\b<z)))/\Ext an aH) ?_ ?_
  .rintro _ aH ⟨rfl,aW⟩;rw[ae];refine⟨λcM=>⟨⟨false,rfl,⟨(λh=>by cases h),λJ=>?_⟩⟩,al.trans (Y.trans aW)⟩,λcN=>?_⟩
   .have:=J.ea b (x5 bq);rw[bV] at this;exact absurd this cM
   .rw[aN];refine cL _ _ ⟨aW,λq cO W br=>?_⟩;by_cases cP:q=i
    .subst cP;rw[bq] at br;cases br;exact X4.1 cN
    .exact bh q cO Ω br
  intro bw aa;obtain⟨bn,_,_,_,_,_,cQ,bo,_⟩:=ax.ext aw;rw[aq,ae];refine⟨λc9=>aa _ _ ⟨by rw[decide_eq_true Ω],ap⟩,λda=>?_⟩;rw[ac aG.p rfl,ad (v:=bn) Ψ (cQ.Q1 rfl),ac ca.p rfl,ad (v:=Δ e.v) Ψ ((ah.ext aw).Q0 rfl),dY (y:=e.v) (i:=e.v.toNat) Ω ai.u ab.i Ψ bo aj,ce];refine aa _ _ ⟨?_,ap⟩;congr 1;exact decide_eq_decide.2 ⟨λh=>Ω,λh=>Ω⟩
 rintro t4 ao cK ⟨ap,cR⟩;rw[aq,ae];refine⟨λh=>Ω,λ_=>?_⟩;have aw:=Y.trans ap;rw[ac ca.p rfl,ad (v:=bv) Ψ ((ah.ext aw).Q2 rfl),aT ai.u (aR.ext aw),bk];refine⟨⟨_,rfl,⟨λh=>?_,λJ=>?_⟩⟩,al.trans aw⟩
 .have h:=of_decide_eq_true h;refine⟨a8,bb,aE,cb,om,by rw[<-aA,<-hm];exact h.symm,λb aO=>?_⟩;obtain⟨q,W⟩:=Y7.1 aO;rw[bV];exact cR q b (x4.1 W).1 W
 .have:=J.count;rw[<-aA] at this;exact decide_eq_true Ω
end
end Go.Proofs.YtgbkinibgjmodaaGreatDoor
