/- own texts, made small by a tool (wip/ holds them as they were written): no statement of the seat. -/
import Derived.Test.YthjegppepbbojaaGreatDoorZd
set_option linter.unusedVariables false
set_option linter.unusedSimpArgs false
set_option linter.unnecessarySimpa false
open Array renaming getElem?_eq_some_iff→Z1
open BitVec renaming ofInt→T4
open Bool renaming not_true→Y6,not_false→W6,true_and→V6,eq_iff_iff→U4,and_eq_true→U8
open Decidable renaming not_not→X9
open Go renaming Value→y0,World→x2,TypeId→o4,IntKind→o6,Builtin→j5,Program→V2
open Go.Addr renaming add_mid→T3
open Go.Builtin renaming append_→j4,len_→X0
open Go.Instr renaming loadAt→x7,fieldAt→x8,storeAt→o7,indexAt→l7,extract→Y0,buildSlice→Y1,sliceAt→V5,alloc→S8
open Go.IntKind renaming i64→X2,u64→T0
open Go.Proofs.Tryz renaming prog→x3
open Int renaming toNat_natCast→j0
open List renaming getElem?_eq_some_iff→x4,mem_of_getElem?→x5,getElem?_eq_getElem→x6,getElem?_map→u4,length_map→u5,getD_eq_getElem?_getD→u9,length_append→r8,take_add_one→r9,length_take→o5,replicate→o8,take_length→o9,take_of_length_le→n0,mem_append→l5,mem_singleton→l9,map_append→j9,append_assoc→Z4,length_cons→Z5,mem_map→Z6,eq_nil_of_length_eq_zero→Z8,getElem?_append_right→Y5,getElem?_take_of_lt→Y7,getElem?_eq_none→Y9,flatMap_cons→X3,mem_iff_getElem?→X4,append_nil→X6,length_set→W0,getElem?_set→W3,ext_getElem?→W5,length_eq_one_iff→W7,mem_or_eq_of_mem_set→W8,range→V0,getElem?_set_ne→V3,drop_eq_getElem_cons→V4,getElem?_set_self→U5,mem_of_mem_take→U9,mem_cons→T1,map_cons→T2,set_append_right→T6,map_set→T8,length→T9,getElem_mem→S3,length_filter_le→S5,length_drop→Q2
open Nat renaming le_refl→n9,mul_le_mul_right→X1,zero_le→X7,le_trans→X8,zero_add→V8,sub_self→V9,add_mul→U7,mul_one→S2,min_eq_left→S4,pow_le_pow_right→R5,le_succ→R6,add_assoc→Q0
open Ne renaming symm→S6
open Option renaming toList_some→j6,isNone_some→Z7,map_some→Y4,map_eq_some_iff→X5,map→U6,getD_some→S1
open Option.some renaming inj→Z9
set_option maxHeartbeats 16000000
open Option renaming some→σ,none→ν
variable {aa w w':x2}{a l sizes:Λ}{S:Nat->Prop}{B N ag aj j:Nat}{aF ax sv v z:y0}{e t:o4}{K:y0->x2->Prop}{k y:Int}{c cs:List y0}{m:Bool}
namespace Go.Proofs.YthjegppepbbojaaGreatDoor
open Go Go.Vc Go.RowKit Go.Proofs Go.Proofs.Tryz
set_option maxRecDepth 100000
theorem Cc {h:ey} {g:Nat} (U:fs w sizes h) (J:ad w' g aX (y0.agg (cO h).toArray).cells.toList):ad w' g aX (cO h):=by
 obtain⟨⟨g1,h1⟩,⟨ab,V⟩,ac,W⟩:=U;obtain⟨_,_,_,X⟩:=b7 h1.ls;obtain⟨_,_,_,Y⟩:=b7 V.ls;obtain⟨_,_,_,aa⟩:=b7 W.ls;simp only[cO,X,Y,aa] at J ⊢;exact J
theorem LP {a b:ey} (aA:fs w sizes a) (aB:fs w sizes b) (aE:iI a.sc) (aF:iI b.sc):ai x3 yj [.agg (cO a).toArray,.agg (cO b).toArray] w λv w'=>v= .bool (decide (c9 a.sc<c9 b.sc))/\Ext w w':=by
 obtain⟨⟨aZ,aC⟩,_⟩:=id aA;obtain⟨⟨a1,aG⟩,_⟩:=id aB;have an:=(u2 aE aF).1;refine az func192 ?_;refine bP λg1 V a2 aH ao=>?_;refine bP λaI aa a6 aD ap=>?_;have ao:=(Cc aA ao).ext aD;have ap:=Cc aB ap;have Y:=aH.trans aD;have ab:=aC.ls.ext Y;have ag:=aG.ls.ext Y;have ad:∀ {w':x2},Ext aa w'-> ∀ {K:y0->Prop},U x3 (x8 aX (Γ g1) 0) w' (λt=>U x3 (x7 af t) w' K)=K a.ax:=λJ K=>by
  rw[av aX.p 0 (ao.ext J) rfl]
 have ah:∀ {w':x2},Ext aa w'-> ∀ {K:y0->Prop},U x3 (x8 aX (Γ aI) 0) w' (λt=>U x3 (x7 af t) w' K)=K b.ax:=λJ K=>by
  rw[av aX.p 0 (ap.ext J) rfl]
 rw[ad (Ext.refl _),aU af.u ab,ah (Ext.refl _),aU af.u ag,bH,ak];refine⟨λaJ=>?_,λaK=>?_⟩
 .rw[ad (Ext.refl _),aU af.u ab,ah (Ext.refl _),aU af.u ag,aQ];refine⟨?_,Y⟩;congr 1;rw[U4,decide_eq_true_eq,decide_eq_true_eq,an];exact⟨λh=>.inl Ω,λh=>by rcases h with h|h<;>omega⟩
 have aM:a.sc.length=b.sc.length:=by have:=X9.1 aK;omega
 rw[ad (Ext.refl _),aU af.u ab];refine bA.range a.sc.length (λi _ aq=>Ext aa aq/\ ∀ (j:Nat) (x y:Int),j<i->a.sc[j]? =σ x->b.sc[j]? =σ y->x=y) aC.ls.le ⟨Ext.refl _,λj x y aO=>Ω⟩ ?_ ?_
 .rintro i _ aq k hi ⟨au,aj⟩ hk;obtain⟨x,J⟩:=aN (l:=a.sc) hi;obtain⟨y,al⟩:=aN (l:=b.sc) (i:=i) Ω;have W:fB a.sc b.sc=fB (a.sc.drop i) (b.sc.drop i):=sw aj Ω Ω;have aP:a.sc.drop i=x::a.sc.drop (i+1):=by rw[V4 hi,(x4.1 J).2]
  have aR:b.sc.drop i=y::b.sc.drop (i+1):=by rw[V4 (show i<b.sc.length by omega),(x4.1 al).2]
  rw[aP,aR] at W;simp only[fB] at W;refine bk Ω ?_;intro a7 aS _ _;have X:=au.trans aS;rw[ad X,bf af.u ac.i Ψ (ab.ext X) J,ah X,bf af.u ac.i Ψ (ag.ext X) al,bH,ak];refine⟨λaJ=>?_,λhe=>?_⟩
  .intro a8 aT _ _;have ae:=X.trans aT;rw[ad ae,bf af.u ac.i Ψ (ab.ext ae) J,ah ae,bf af.u ac.i Ψ (ag.ext ae) al,aQ];refine⟨?_,Y.trans ae⟩;congr 1;rw[U4,decide_eq_true_eq,decide_eq_true_eq,an,W];by_cases am:x<y
   .rw[if_pos am];exact⟨λ_=>.inr ⟨aM,Ω⟩,λ_=>am⟩
   .rw[if_neg am,if_pos (show y<x by omega)];exact⟨λh=>absurd h am,λh=>by rcases h with h|h<;>omega⟩
  .rw[aL];refine hk _ _ ⟨X,λj aV aW aO aw ay=>?_⟩;by_cases aY:j=i
   .subst aY;rw[J] at aw;rw[al] at ay;cases aw;cases ay;exact X9.1 he
   .exact aj j aV aW Ω aw ay
 .rintro _ aq k ⟨au,aj⟩;rw[aQ,ak];refine⟨λh=>Ω,λ_=>⟨?_,Y.trans au⟩⟩;congr 1;symm;rw[decide_eq_false_iff_not,an];have W:fB a.sc b.sc=fB (a.sc.drop a.sc.length) (b.sc.drop a.sc.length):=sw aj (n9 _) Ω;rw[List.drop_length,show b.sc.drop a.sc.length=[] from List.drop_eq_nil_of_le Ω] at W;rw[W];simp only[fB];omega
def da (h:ey):cu:=(h.sc,h.cs)
def jP (w:x2) (B g:Nat) (v:y0) (sizes:Λ) (L:List ey):Prop:=bb cO 3 aX w g v L/\(∀h∈L,fs w sizes h/\ ∀r,oQ h r->B<=r)/\(∀ (i j:Nat) x y,L[i]? =σ x->L[j]? =σ y->i≠j-> ∀r,leads x.aI r->¬leads y.aI r)/\ ∀r,leadsTo v r->B<=r
theorem l4 {h:ey} (af:fs w sizes h) (Y:ae S w w') (aa:∀r,S r->(∃e c,ad w r e c/\e≠ac/\e≠an)\/w.heap.size<=r\/((∃c,ad w r an c)/\¬leads h.aI r)):fs w' sizes h:=by
 obtain⟨⟨g1,h1⟩,⟨ag,ah⟩,ai,W⟩:=af;have ab:∀ {g:Nat} {v:y0} {l:Λ},ao .i64 ac w g v l->ao .i64 ac w' g v l:=λhm=>be hm Y λr U J=>by
  rcases aa r J with⟨e,c,V,X,_⟩|aj|⟨⟨c,V⟩,_⟩
  .exact b5 hm V (λhe=>X he.symm) U rfl
  .obtain⟨ak,al⟩:=bz hm U;omega
  .exact b5 hm V Φ U rfl
 refine⟨⟨g1,ab h1⟩,⟨ag,ab ah⟩,ai,be W Y λr U J=>?_⟩;rcases aa r J with⟨e,c,V,_,X⟩|aj|⟨_,am⟩
 .exact b5 W V (λhe=>X he.symm) U rfl
 .obtain⟨ak,al⟩:=bz W U;omega
 .exact am U
theorem jP.ext {g:Nat} {L:List ey} (h:jP w B g v sizes L) (J:Ext w w'):jP w' B g v sizes L:=⟨h.1.ext J,λx U=>⟨(h.2.1 x U).1.ext J,(h.2.1 x U).2⟩,h.2.2⟩
section
variable {α:Type} {f:α->List y0} {k:Nat} {P:V2} {w:x2} {e:o4} {g:Nat} {v:y0} {L:List α}
theorem LQ {M:List α} (h:bb f k e w g v L) (J:L.map f=M.map f):bb f k e w g v M:=by
 have U:L.length=M.length:=by have:=congrArg T9 J;simpa using this
 have hm:L.flatMap f=M.flatMap f:=by rw[List.flatMap_def,List.flatMap_def,J]
 refine⟨by rw[<-U,<-hm];exact h.1,λa V=>?_⟩;obtain⟨b,W,he⟩:=Z6.1 (show f a∈L.map f by rw[J];exact Z6.2 ⟨a,V,rfl⟩);rw[<-he];exact h.2 b W
theorem Cd {b l h':Nat} {low high:Option y0} {K:y0->Prop} (X:P.underlying t=σ (.slice e)) (hi:aO P e k b z) (h:bb f k e w g v L) (h1:kY low l) (Y:kZ high L.length h') (V:l<=h') (aw:h'<=L.length)
  (aa:∀W,(∀w',bb f k e w' g v L->b6 w' k W ((L.drop l).take (h'-l)).length (((L.drop l).take (h'-l)).flatMap f))->K W):U P (V5 t v low high ν) w K:=by
 have ab:=h.sl;obtain⟨_,ad,o,base,cap,rfl,ae,_⟩:=ab;rw[fM X hi h1 Y eJ V Ω (n9 _)];refine aa _ λw' J=>?_;have:=b6.part (l:=l) (h:=h') (m:=cap) J.sl V aw Ω (n9 _);rw[r3 l J.2,pQ (h'-l) (λa ac=>J.2 a (List.mem_of_mem_drop ac))] at this;have el:((L.drop l).take (h'-l)).length=h'-l:=by rw[o5,Q2];omega
 rw[el];exact this
theorem vI {ak:o4} {b:Nat} {x:y0} {M:List α} (Y:P.underlying t=σ (.slice e)) (hi:aO P e k b z) (af:z.cells.size=k) (h:bb f k e w g v L) (ag:b6 w k x M.length (M.flatMap f)) (al:∀a∈M,(f a).length=k) (h1:∀a∈M,∀u∈f a,u.oneCell'=true)
  (aa:(L.length+M.length)*b<=140737488355328) (ah:L.length+M.length<=9223372036854775807)
  (ai:∀J U w',bb f k e w' U J (L++M)->(∀r,leadsTo J r->leadsTo v r\/w.heap.size<=r)->ae (λr=>leadsTo v r) w w'->K J w'):ay P (j4 #[t,t] ak #[v,x]) w K:=by
 have aj:∀u∈M.flatMap f,u.oneCell'=true:=λu hu=>by
  obtain⟨a,am,hu⟩:=List.mem_flatMap.1 hu;exact h1 a am u hu
 have ab:∀J U w',b1 w' U e k J (L.length+M.length) (L.flatMap f++M.flatMap f)->bb f k e w' U J (L++M):=λJ U w' hm=>⟨by simpa using hm,λb aa=>by
  rcases l5.1 aa with h'|h'
  .exact h.2 b h'
  .exact al b h'⟩
 rcases h.1.2 with⟨V,an⟩|⟨cap,cs,V,ao,_⟩
 .have hm:b1 w w.heap.size e k v L.length (L.flatMap f):=⟨h.1.1,.inl ⟨V,an⟩⟩;subst V;refine mG Y Y hi af hm ag aj (by simpa using aa) (by simpa[maxLen] using ah) λJ U w' ac W ad=>ai J U w' (ab _ _ _ W) (λr X=>.inr ?_) (ad.mono λr X h=>Ω);have:=((ab _ _ _ W).leads X).1;omega
 .refine mG Y Y hi af h.1 ag aj (by simpa using aa) (by simpa[maxLen] using ah) λJ U w' ac W ad=>ai J U w' (ab _ _ _ W) (λr X=>?_) (ad.mono λr X h=>⟨_,_,_,V,h.symm⟩);have:=((ab _ _ _ W).leads X).1;rcases ac with ac|ac
  .exact .inl ⟨_,_,_,V,by show g=r;omega⟩
  .exact .inr Ω
theorem LR {b:Nat} (J:P.underlying t=σ (.slice e)) (hi:aO P e k b z)
  (U:∀v g w',g=w.heap.size->Ext w w'->bb f k e w' g v []->K v w'):ay P (Y1 t 0 #[]) w K:=
 iX J hi Ω (cs:=#[]) (by simp[Instr.fill]) λg w' V W X=>by
  exact U _ g w' V W ⟨by simpa using b1.full (k:=k) (n:=0) X Ξ (by simp[maxLen]),λc Y=>by cases Y⟩
end
theorem sK {α:Type} {A B:List α} {s:Nat} {a:α} (J:s<B.length) (U:A[s]? =σ a):(A.take s++B.drop s).set s a=A.take (s+1)++B.drop (s+1):=by
 have V:=(x4.1 U).1;have h1:(A.take s).length=s:=by rw[o5];omega
 rw[T6 _ _ Ω,h1,V9,V4 J,List.set_cons_zero,r9,U,j6,Z4];rfl
theorem Ce {α:Type} {A B:List α} {s:Nat} (J:s<=A.length):(A.take s++B.drop s)[s]? =B[s]?:=by
 have h1:(A.take s).length=s:=by rw[o5];omega
 rw[Y5 Ω,h1,V9,List.getElem?_drop,Nat.add_zero]
theorem Cf {g:cu}:∀ {l:List cu} {i:Nat},(∀p<i,∀x,l[p]? =σ x->c9 x.1<c9 g.1)->i<=l.length->(∀x,l[i]? =σ x->¬c9 x.1<c9 g.1)->gS g l=l.take i++g::l.drop i
 |[],i,_,J,_=>by
  have:i=0:=by simpa using J
  subst this;rfl
 |x::l,0,_,_,U=>by
  unfold gS;rw[if_neg (U x rfl)];rfl
 |x::l,i+1,h1,J,U=>by
  unfold gS;rw[if_pos (h1 0 Ω x rfl),Cf (i:=i) (λp W y V=>h1 (p+1) Ω y V) (by simpa using J) (λy V=>U y V)];rfl
theorem LS {g:Nat} {L:List ey} {h:ey} {s:Nat} {n:Int} {K:Unit->x2->Prop} (V:jP w B g v sizes L) (af:L[j]? =σ h) (J:s<h.cs.length)
  (ax:∀w',ae (λr=>leads h.aI r) w w'->(∀r,leads h.aI r-> ∃c,ad w r an c)->jP w' B g v sizes (L.set j {h with cs:=h.cs.set s n})->K () w'):
  U x3 (l7 au h.aI (Δ (s:Int))) w λt=>ay x3 (o7 an t (Δ n)) w K:=by
 obtain⟨h1,al,am,az⟩:=V;have aj:=(x4.1 af).1;obtain⟨ao,aA⟩:=al h (x5 af);obtain⟨_,_,ap,ag⟩:=id ao;have ah:∀r,leads h.aI r-> ∃c,ad w r an c:=λr V=>by
  obtain⟨rfl,_⟩:=bz ag V;obtain⟨_,⟨aB,_⟩|⟨cap,full,_,Y,_⟩⟩:=ag
  .obtain⟨a,n,c,e,_⟩:=V;rw[aB] at e;cases e
  .exact⟨_,Y⟩
 have aC:∀r,r=ap->leads h.aI r:=λr he=>by
  subst he;obtain⟨_,⟨_,aR⟩|⟨cap,full,e,Y,_⟩⟩:=ag
  .omega
  .exact⟨_,_,_,e,rfl⟩
 rw[hI rfl au.u an.i ag J];refine hJ an.i ag J λw' aa aS aD=>?_;have aa:=aa.mono (T:=λr=>leads h.aI r) λr _ he=>aC r he;refine ax w' aa ah ⟨?_,λx X=>?_,λp q x y X aE aF r aG aH=>?_,az⟩
 .refine LQ (h1.ab aa λr V J=>?_) ?_
  .obtain⟨c,Y⟩:=ah r J;exact cn h1 Y Φ V
  .rw[T8];symm;refine W5 λp=>?_;rw[W3,u4];by_cases W:j=p
   .subst W;rw[if_pos rfl,if_pos (by simpa using aj),af];rfl
   .rw[if_neg W]
 .have aJ:x={h with cs:=h.cs.set s n}\/ ∃p,p≠j/\L[p]? =σ x:=by
   obtain⟨p,W⟩:=X4.1 X;rw[W3] at W;by_cases ac:j=p
   .subst ac;rw[if_pos rfl,if_pos aj] at W;exact .inl (Z9 W).symm
   .rw[if_neg ac] at W;exact .inr ⟨p,λh=>ac h.symm,W⟩
  rcases aJ with rfl|⟨p,aK,W⟩
  .obtain⟨⟨g1,aq⟩,⟨aL,av⟩,_⟩:=ao;refine⟨⟨⟨g1,be aq aa λr V J=>?_⟩,⟨aL,be av aa λr V J=>?_⟩,ap,aD⟩,aA⟩
   .obtain⟨c,Y⟩:=ah r J;exact b5 aq Y Φ V rfl
   .obtain⟨c,Y⟩:=ah r J;exact b5 av Y Φ V rfl
  .obtain⟨aM,aN⟩:=al x (x5 W);refine⟨l4 aM aa λr V=>.inr (.inr ⟨ah r V,λak=>am p j x h W af aK r ak V⟩),aN⟩
 .have aw:∀ {p:Nat} {x:ey},(L.set j {h with cs:=h.cs.set s n})[p]? =σ x-> ∃ai,L[p]? =σ ai/\ai.aI=x.aI:=λ{p x} X=>by
   rw[W3] at X;by_cases ac:j=p
   .subst ac;rw[if_pos rfl,if_pos aj] at X;cases X;exact⟨h,af,rfl⟩
   .rw[if_neg ac] at X;exact⟨x,X,rfl⟩
  obtain⟨ai,ak,ex⟩:=aw X;obtain⟨aO,aP,aQ⟩:=aw aE;exact am p q ai aO ak aP aF r (by rw[ex];exact aG) (by rw[aQ];exact aH)
def kA (f:b4) (j:Nat):List cu:=(((e9 f).take j).filter fk).foldl (λl g=>gS g l) []
theorem Cg {f:b4} {x:cu} (h:(e9 f)[j]? =σ x):kA f (j+1)=if fk x then gS x (kA f j) else kA f j:=by
 unfold kA;rw[r9,h,j6,List.filter_append,List.foldl_append];cases J:fk x with
 |true=>rw[List.filter_cons_of_pos J];rfl
 |false=>rw[List.filter_cons_of_neg (by simp[J])];rfl
theorem LU (f:b4):kA f (e9 f).length=fl f:=by unfold kA fl;rw[o9]
theorem Ch (g:cu):∀l,(gS g l).length=l.length+1
 |[]=>rfl
 |h::l=>by
  unfold gS;split
  .rw[Z5,Ch g l,Z5]
  .rfl
theorem LV {f:b4} (U:j<=(e9 f).length):(kA f j).length<=j:=by
 induction j with
 |zero=>simp[kA]
 |succ j J=>
  have:=J Ω;rw[Cg (x:=(e9 f)[j]) (x6 Ω)];split
  .rw[Ch];omega
  .omega
theorem LW {g:Nat} {l:y0} {f:b4} {L:List ey} {Q:y0->x2->Prop} (aY:e1 N f) (Y:jP w B g l f.sizes L) (aZ:L.map da=e9 f)
  (cb:∀out w' go X,Ext w w'->bb cO 3 aX w' go out X->(∀h∈X,h∈L)->(∀h∈X,fs w' f.sizes h)->X.map da=fl f->(∀r,leadsTo out r->w.heap.size<=r)->Q out w'):
  U x3 (X0 #[cg] ac #[l]) w λcc=>
 bA (.slice ν 0 0) (Δ 0) w λout a1 am cd=>
  U x3 (aA .lss ac false false a1 cc) am λce=>
  Split ce (bJ (α:=y0->x2->Prop) (λ(ch:y0) (ao:x2)=>
   U x3 (aA .add ac false true a1 (Δ 1)) ao λci=>
   cd ch ci ao) λbC=>
  U x3 (l7 cg l a1) am λcj=>
  U x3 (x7 aX cj) am λck=>
  ay x3 (S8 aX true (.tuple #[])) am λaJ bD=>
  ay x3 (o7 aX aJ ck) bD λ(_:Unit) ah=>
  U x3 (x8 aX aJ 2) ah λcl=>
  U x3 (x7 au cl) ah λbE=>
  U x3 (X0 #[au] ac #[bE]) ah λcm=>
  bA (.bool false) (Δ 0) ah λbF a2 aa cn=>
   U x3 (aA .lss ac false false a2 cm) aa λcp=>
   Split cp (bJ (α:=y0->x2->Prop) (λ(cq:y0) (az:x2)=>
    U x3 (aA .add ac false true a2 (Δ 1)) az λcr=>
    cn cq cr az) λbG=>
   U x3 (l7 au bE a2) aa λct=>
   U x3 (x7 an ct) aa λcu=>
   Split bF (bG (.bool true) aa)
    (U x3 (aA .gtr an false true cu (Δ 0)) aa λcw=>
   bG cw aa))
    (U x3 (Op.unary .not bF) aa λcz=>
  Split cz (bC out aa)
   (b0 (Δ 0) aa λi aK cA=>
   bJ (α:=y0->x2->Prop) (λ(cB:y0) (ap:x2)=>
    Split cB (U x3 (aA .add ac false true i (Δ 1)) ap λcC=>
   cA cC ap)
     (cK ap λae=>
  U x3 (x7 aX aJ) ae λcD=>
  U x3 (V5 cg out (σ i) ν ν) ae λbH=>
  ay x3 (Y1 cg 1 #[(0,cD)]) ae λcF aB=>
   (Ext ae aB\/bw x3 (V5 cg out (σ i) ν ν) bH aB/\True)/\
  ay x3 (j4 #[cg,cg] cg #[cF,bH]) aB λcG a6=>
   ay x3 (Y1 cg 0 #[]) a6 λcH aM=>
  U x3 (V5 cg out ν (σ i) ν) aM λcI=>
  ay x3 (j4 #[cg,cg] cg #[cH,cI]) aM λcJ a7=>
  ay x3 (j4 #[cg,cg] cg #[cJ,cG]) a7 λcL a8=>
  bC cL a8)) λbI=>
   cK aK λaf=>
   U x3 (X0 #[cg] ac #[out]) af λcM=>
   U x3 (aA .lss ac false false i cM) af λcN=>
   Split cN (U x3 (l7 cg out i) af λcP=>
   U x3 (x7 aX cP) af λcQ=>
   U x3 (x7 aX aJ) af λcR=>
   ai x3 yj [cQ,cR] af λcS bL=>
    bI cS bL)
    (bI (.bool false) af))))
   (Q out am):=by
 have cT:L.length=(e9 f).length:=by rw[<-aZ,u5]
 have dD:L.length<=256:=by have:=(kp aY).2.2;have:=aY.ki;omega
 have bM:=(kp aY).1;rw[dt cg.u Y.1];refine bA.range L.length (λj out V=>∃go X,Ext w V/\bb cO 3 aX V go out X/\(∀h∈X,h∈L)/\X.map da=kA f j/\ ∀r,leadsTo out r->w.heap.size<=r) Y.1.le
  ⟨0,[],Ext.refl _,bb.nil _ _ _ _ _,λh aw=>(by cases aw),rfl,λr Y=>(eT Y).elim⟩ ?_ ?_
 rotate_left
 .rintro out V cU ⟨go,X,bN,aC,aj,aD,ba⟩;rw[aQ,ak];refine⟨λh=>Ω,λ_=>cb _ _ go X bN aC aj (λh aw=>((Y.ext bN).2.1 h (aj h aw)).1) ?_ ba⟩;rw[aD,cT,LU]
 rintro j out am cU bO ⟨go,X,aO,aC,aj,aD,ba⟩ cV;obtain⟨h,aw⟩:=aN (l:=L) bO;have hm:(e9 f)[j]? =σ (da h):=by rw[<-aZ,u4,aw];rfl
 have cW:=bM _ (x5 hm);have dE:X.length<=256:=by
  have:=LV (f:=f) (j:=j) Ω;rw[<-aD,u5] at this;omega
 have aE:=Y.ext aO;obtain⟨bc,_⟩:=aE.2.1 h (x5 aw);obtain⟨_,_,dF,cX⟩:=id bc;refine bk Ω ?_;refine aR (λbd ao=>∃be aG,Ext w ao/\bb cO 3 aX ao be bd aG/\(∀h∈aG,h∈L)/\aG.map da=kA f (j+1)/\ ∀r,leadsTo bd r->w.heap.size<=r) ?_ ?_
 .rintro bd ao ⟨be,aG,h1,cY,cZ,c1,c2⟩;rw[aL];exact cV _ _ ⟨be,aG,h1,cY,cZ,c1,c2⟩
 intro c3 aH;rw[cE rfl cg.u aX.i aE.1 bO,br aX.p aX.i rfl (aE.1.range aw)];refine bp aX.i λbP bD dG c4 c5=>?_;refine bK (vs:=cO h) aX.i rfl rfl bc.one c5 λah c6 dH bQ=>?_;have bR:Ext am ah:=c4.put c6 Ω;have bh:=cX.ext bR;rw[av aX.p 2 bQ rfl,aU au.u bh.ls];refine bA.range h.cs.length (λq sv aa=>Ext ah aa/\sv= .bool ((h.cs.take q).any λc=>decide (0<c))) bh.ls.le ⟨Ext.refl _,rfl⟩ ?_ ?_
 .rintro q _ aa c7 c8 ⟨aq,rfl⟩ db;obtain⟨c,bT⟩:=aN (l:=h.cs) c8;have e:(h.cs.take (q+1)).any (λc=>decide (0<c))=((h.cs.take q).any (λc=>decide (0<c))||decide (0<c)):=by
   rw[r9,bT,j6,List.any_append];simp
  refine bk Ω ?_;refine aR (λsv az=>Ext ah az/\sv= .bool ((h.cs.take (q+1)).any λc=>decide (0<c))) ?_ ?_
  .rintro _ az ⟨dc,rfl⟩;rw[aL];exact db _ _ ⟨dc,rfl⟩
  intro c3 aH;rw[bf au.u an.i Ψ (bh.ext aq).ls bT,bt];refine⟨λdd=>aH _ _ ⟨aq,by rw[e,dd];rfl⟩,λde=>?_⟩;rw[bY];exact aH _ _ ⟨aq,by rw[e,de];rfl⟩
 rintro _ aa c7 ⟨aq,rfl⟩;have bU:=bQ.ext aq;have al:=bR.trans aq;rw[o9];refine b2 Ω ?_;rw[bg,bt];have aP:=Cg hm;have df:(h.cs.any λc=>decide (0<c))=fk (da h):=rfl;rw[df];refine⟨λbi=>?_,λJ=>?_⟩
 .have bi:fk (da h)=false:=by simpa using bi
  rw[bi] at aP;exact aH _ _ ⟨go,X,aO.trans al,aC.ext al,aj,by rw[aD,aP];rfl,ba⟩
 have J:fk (da h)=true:=by simpa using J
 rw[J,if_pos rfl] at aP;refine⟨λbj aK=>∃i:Nat,bj=Δ (i:Int)/\i<=X.length/\Ext aa aK/\ ∀p<i,∀x,X[p]? =σ x->c9 x.sc<c9 h.sc,λbj _=>X.length-(bS bj).toNat,⟨0,rfl,X7 _,Ext.refl _,λp bl=>Ω⟩,?_⟩;rintro _ aK ⟨i,rfl,hi,dg,bm⟩;refine aR (λaF ap=>Ext aa ap/\((aF= .bool true/\i<X.length/\ ∀x,X[i]? =σ x->c9 x.sc<c9 h.sc)\/(aF= .bool false/\ ∀x,X[i]? =σ x->¬c9 x.sc<c9 h.sc))) ?_ ?_
 rotate_left
 .intro dI bn;intro af dh _ _;have ax:=dg.trans dh;have bo:=aC.ext (al.trans ax);rw[dt cg.u bo,aQ,ak];refine⟨λbm=>?_,λdJ=>bn _ _ ⟨ax,.inr ⟨rfl,λx W=>absurd (x4.1 W).1 Ω⟩⟩⟩;obtain⟨x,W⟩:=aN (l:=X) (i:=i) Ω;have bV:=aj x (x5 W);have di:iI x.sc:=(bM (da x) (by rw[<-aZ];exact Z6.2 ⟨x,bV,rfl⟩)).scope;have bW:=aE.ext (al.trans ax);rw[cE rfl cg.u aX.i bo Ω,br aX.p aX.i rfl (bo.range W),br aX.p aX.i rfl (show af.rangeAt bP 0 (cO h) from (bU.ext ax).range)];refine (LP (bW.2.1 x bV).1 (bW.2.1 h (x5 aw)).1 di cW.scope).mono ?_;rintro _ bL _ ⟨rfl,bZ⟩;by_cases aS:c9 x.sc<c9 h.sc
  .rw[decide_eq_true aS];exact bn _ _ ⟨ax.trans bZ,.inl ⟨rfl,Ω,λy ad=>by rw[W] at ad;cases ad;exact aS⟩⟩
  .rw[decide_eq_false aS];exact bn _ _ ⟨ax.trans bZ,.inr ⟨rfl,λy ad=>by rw[W] at ad;cases ad;exact aS⟩⟩
 rintro _ ap ⟨b1,⟨rfl,dK,dj⟩|⟨rfl,dk⟩⟩
 .rw[bX,aL,wrap_i64 Ω Ω];refine⟨⟨i+1,rfl,Ω,b1,λp bl x W=>?_⟩,by simp only[bS];omega⟩;by_cases dl:p=i
  .subst dl;exact dj x W
  .exact bm p Ω x W
 .rw[aT];intro ae dm _ _;have aI:=b1.trans dm;have aV:=aC.ext (al.trans aI);have dn:=aE.ext (al.trans aI);have bq:∀x∈X,∀u∈cO x,u.oneCell'=true:=λx W=>(dn.2.1 x (aj x W)).1.one;have dp:∀u∈cO h,u.oneCell'=true:=bc.one;rw[br aX.p aX.i rfl (show ae.rangeAt bP 0 (cO h) from (bU.ext aI).range)];refine Cd (h':=X.length) cg.u aX.i aV (mB i _ rfl) h5 hi (n9 _) λdL b3=>?_;refine gg (f:=cO) (k:=3) (a:=h) cg.u aX.i Ω rfl rfl λdM dN aB dO bu b5=>?_;refine⟨.inl bu,?_⟩;have dq:(X.drop i).take (X.length-i)=X.drop i:=n0 (by rw[Q2];omega);rw[dq] at b3;refine vI (M:=X.drop i) cg.u aX.i rfl b5 (b3 aB (aV.ext bu)) (λ_ _=>rfl) (λa ag=>bq a (List.mem_of_mem_drop ag)) Θ Θ λdP dQ a6 bx dR dr=>?_;have b6:Ext ae a6:=bu.then dr λr Y he=>by have:=(b5.leads he).1;omega
  refine LR (f:=cO) (k:=3) cg.u aX.i λdS dT aM dU bz aW=>?_;have bB:=b6.trans bz;refine Cd (h':=i) cg.u aX.i (aV.ext bB) h4 (mC i _ rfl) (X7 _) hi λdV b7=>?_;rw[List.drop_zero,Nat.sub_zero] at b7;refine vI (M:=X.take i) cg.u aX.i rfl aW (b7 aM (aV.ext bB)) (λ_ _=>rfl) (λa ag=>bq a (U9 ag)) Θ Θ λds dW a7 du dv b8=>?_;have dX:=b6.size;have dY:=bz.size;have dw:=(bx.ext bz).ab b8 λr Y J=>by have:=(bx.leads Y).1;have:=(bx.leads Y).2;have:=(aW.leads J).1;omega
  refine vI (M:=[h]++X.drop i) cg.u aX.i rfl du dw.sl (λ_ _=>rfl) (λa ag=>?_) Θ Θ λdZ dx a8 dy dz dA=>?_
  .rcases l5.1 ag with ag|ag
   .rw[l9.1 ag];exact dp
   .exact bq a (List.mem_of_mem_drop ag)
  have b9:Ext ae a7:=bB.then b8 λr Y he=>by have:=(aW.leads he).1;omega
  have ca:∀r,leadsTo ds r->ae.heap.size<=r:=λr Y=>(dv r Y).elim (λh=>by have:=(aW.leads h).1;omega) λh=>Ω
  have dC:Ext ae a8:=b9.then dA λr Y he=>by have:=ca r he;omega
  have ea:=(aO.trans (al.trans aI)).size;have ec:=b9.size;refine aH _ _ ⟨dx,_,(aO.trans (al.trans aI)).trans dC,dy,λx W=>?_,?_,λr Y=>(dz r Y).elim (λh=>by have:=ca r h;omega) λh=>Ω⟩
  .rcases l5.1 W with W|W
   .exact aj x (U9 (by simpa using W))
   .rcases l5.1 W with W|W
    .rw[l9.1 W];exact x5 aw
    .exact aj x (List.mem_of_mem_drop W)
  .rw[aP,<-aD,Cf (i:=i) (λp bl x W=>?_) (by simpa using hi) (λx W=>?_)]
   .simp
   .rw[u4] at W;cases ad:X[p]? with
    |none=>rw[ad] at W;cases W
    |some y=>rw[ad] at W;cases W;exact bm p bl y ad
   .rw[u4] at W;cases ad:X[i]? with
    |none=>rw[ad] at W;cases W
    |some y=>rw[ad] at W;cases W;exact dk y ad
def LX (w:x2) (f:b4) (v:y0) (w':x2):Prop:=Ext w w'/\ ∃go J,bb cO 3 aX w' go v J/\(∀h∈J,fs w' f.sizes h/\ ∀r,oQ h r->w.heap.size<=r)/\J.map da=fl f/\ ∀r,leadsTo v r->w.heap.size<=r
def kB (k:Int) (sc cs:Λ) (h:cu):cu:=if h.1=sc then (h.1,dQ k h.2 cs) else h
theorem LY {b1:Nat} {f:b4} (cU:nq w b1 f) (al:e1 N f):ai x3 ER [Γ b1] w (LX w f):=by
 have hk:=al.k;obtain⟨szv,gz,aV,gr,bn,b3,cV⟩:=id cU;obtain⟨b5,bo,cW,cX⟩:=id cV;refine az func115 ?_;rw[aK dx.p 3 bn rfl,dt dq.u bo];refine bA.range b5.length (λi l V=>∃g L,Ext w V/\jP V w.heap.size g l f.sizes L/\L.map da=eE f i) bo.le
  ⟨0,[],Ext.refl _,⟨bb.nil _ _ _ _ _,λh aw=>(by cases aw),λi j x y bq=>(by simp at bq),λr U=>(eT U).elim⟩,rfl⟩ ?_ ?_
 rotate_left
 .rintro l V cY ⟨g,L,ao,U,ap⟩;rw[<-cW,BC] at ap;rw[aQ,ak];refine⟨λh=>Ω,λ_=>LW al U ap λout w' go cZ bq bu c1 aq c2 c3=>?_⟩;have c4:=ao.size;exact⟨ao.trans bq,go,cZ,bu,λh aw=>⟨aq h aw,(U.2.1 h (c1 h aw)).2⟩,c2,λr U=>by have:=c3 r U;omega⟩
 rintro i l V cY hi ⟨g,L,ao,U,ap⟩ c5;obtain⟨bw,b6⟩:=aN (l:=b5) hi;obtain⟨x,bx⟩:=aN (l:=f.funs) (i:=i) Ω;have bB:=x5 bx;have bC:=cX i bw x b6 bx;have b7:=oD al bB;obtain⟨c6,dY,dZ⟩:=BB al i;have b8:L.length=(eE f i).length:=by rw[<-ap,u5]
 have ec:=al.ki;have b9:=bo.ext ao;refine bk Ω ?_;refine aR (λl' aa=>∃g L,Ext w aa/\jP aa w.heap.size g l' f.sizes L/\L.map da=eE f (i+1)) ?_ ?_
 .rintro l' aa bD;rw[aL];exact c5 _ _ bD
 intro ed ca;rw[cE rfl dq.u a1.i b9 hi,br a1.p a1.i rfl (b9.range b6)];refine bp a1.i λam ee ef c7 c8=>?_;refine bK (vs:=eN bw) a1.i rfl rfl bC.one c8 λc9 db eg dc=>?_;have cb:Ext V c9:=c7.put db Ω;have eh:=cb.size;refine aR (λdd aW=>∃X c,dd=Γ X/\Ext V aW/\ad aW X aX (cO c)/\c.sc=bl x.scope/\c.cs=(hs f.sizes f.k x).2/\fs aW f.sizes c/\V.heap.size<=X/\ ∀r,oQ c r->V.heap.size<=r) ?_ ?_
 rotate_left
 .intro ei cc;intro de cd _ _;have aY:=cb.trans cd;have aZ:=ao.trans aY;have df:=dc.ext cd;have ce:=bn.ext aZ;have ej:=aY.size;rw[br a1.p a1.i rfl (show de.rangeAt am 0 (eN bw) from df.range),aK dx.p 2 ce rfl,aK dx.p 1 ce rfl];refine⟨?_,?_⟩
  .refine (Cb (bC.ext aZ) al bB (b3.ext aZ)).mono ?_;rintro _ ek _ ⟨bE,c,rfl,h1,bF,aq,ag⟩;refine bp aX.i λX em ch bG a2=>?_;refine⟨.inl (bE.trans bG),?_⟩;refine bK (vs:=cO c) aX.i rfl rfl aq.one a2 λen ci eo dg=>?_;have ep:=bE.size;refine cc _ _ ⟨X,c,rfl,(aY.trans bE).trans (bG.then ci λr U he=>by have he:r=X:=he;omega),dg,h1,bF,?_,Ω,λr U=>by have:=ag r U;omega⟩;exact l4 (aq.ext bG) ci λr U=>.inl ⟨_,_,by have U:r=X:=U;subst U;exact a2,Φ,Φ⟩
  .refine bp aX.i λX er ch a6 a2=>?_;refine⟨.inl a6,?_⟩;have cj:=aZ.trans a6;refine (Cb (bC.ext cj) al bB (b3.ext cj)).mono ?_;rintro _ es _ ⟨ck,c,rfl,h1,bF,aq,ag⟩;have cl:=a2.ext ck;have et:=a6.size;refine bK (vs:=cO c) aX.i rfl rfl aq.one cl λeu cm ev dh=>?_;refine cc _ _ ⟨X,c,rfl,aY.trans ((a6.trans ck).then cm λr U he=>by have he:r=X:=he;omega),dh,h1,bF,?_,Ω,λr U=>by have:=ag r U;omega⟩;exact l4 aq cm λr U=>.inl ⟨_,_,by have U:r=X:=U;subst U;exact cl,Φ,Φ⟩
 rintro _ aW ⟨X,c,rfl,bH,di,aF,a7,dj,ch,ag⟩;have cn:=U.ext bH;have dk:∀h∈L,∀r,leads h.aI r->r<V.heap.size:=λh aw r dl=>by
  obtain⟨⟨_,_,dm,cp⟩,_⟩:=U.2.1 h aw;have:=bz cp dl;omega
 have dn:∀ {j:Nat},decide (c.sc∈(L.take j).map (·.sc))=decide (bl x.scope∈((eE f i).take j).map (·.1)):=λ{j}=>by
  rw[aF,<-ap,<-List.map_take,List.map_map];rfl
 have c4:=ao.size;rw[dt cg.u cn.1];refine bA.range L.length (λj aV ah=>∃W,aV= .bool (decide (c.sc∈(L.take j).map (·.sc)))/\Ext w ah/\V.heap.size<=ah.heap.size/\jP ah w.heap.size g l f.sizes W/\W.map da=((eE f i).map (kB f.k c.sc c.cs)).take j++(eE f i).drop j/\ad ah X aX (cO c)/\fs ah f.sizes c/\ ∀h∈W,∀r,leads h.aI r->r<V.heap.size) U.1.le
  ⟨L,Ξ,ao.trans bH,bH.size,cn,by simpa using ap,di,dj,dk⟩ ?_ ?_
 .rintro j _ ah dp cq ⟨W,rfl,aG,dr,a8,af,bJ,bL,ay⟩ ds;have du:W.length=L.length:=by
   have:=congrArg T9 af;simp only[u5,r8,o5,Q2] at this;omega
  obtain⟨h,aw⟩:=aN (l:=W) (i:=j) Ω;have ba:(eE f i)[j]? =σ (da h):=by
   have cr:(W.map da)[j]? =σ (da h):=by rw[u4,aw];rfl
   rw[af,Ce (by rw[u5];omega)] at cr;exact cr
  have bc:((eE f i).map (kB f.k c.sc c.cs))[j]? =σ (kB f.k c.sc c.cs (da h)):=by rw[u4,ba];rfl
  have dv:∃y,L[j]? =σ y/\y.sc=h.sc:=by
   refine⟨_,x6 cq,?_⟩;rw[<-ap,u4,x6 cq] at ba;exact congrArg Prod.fst (Z9 ba)
  obtain⟨y,ae,dw⟩:=dv;have bM:(c.sc∈(L.take (j+1)).map (·.sc))↔c.sc∈(L.take j).map (·.sc)\/h.sc=c.sc:=by
   rw[r9,ae,j6,j9,l5,List.map_singleton,l9,dw];exact or_congr Iff.rfl ⟨λe=>e.symm,λe=>e.symm⟩
  have ct:fo f.sizes f.k (da h):=c6 _ (x5 ba);refine bk Ω ?_;refine aR (λaV aj=>∃W,aV= .bool (decide (c.sc∈(L.take (j+1)).map (·.sc)))/\Ext w aj/\V.heap.size<=aj.heap.size/\jP aj w.heap.size g l f.sizes W/\W.map da=((eE f i).map (kB f.k c.sc c.cs)).take (j+1)++(eE f i).drop (j+1)/\ad aj X aX (cO c)/\fs aj f.sizes c/\ ∀h∈W,∀r,leads h.aI r->r<V.heap.size) ?_ ?_
  .rintro ew aj bD;rw[aL];exact ds _ _ bD
  intro ez cu;intro dz aH _ _;have bd:=a8.ext aH;have cw:=bJ.ext aH;have cz:=bL.ext aH;obtain⟨dA,eA⟩:=bd.2.1 h (x5 aw);obtain⟨⟨g1,h1⟩,_,dm,cp⟩:=id dA;obtain⟨⟨eB,dC⟩,_,eC,cA⟩:=id cz;rw[cE rfl cg.u aX.i bd.1 Ω,aM aX.p rfl,aS (v:=h.ax) Ψ (bd.1.range aw 0 _ rfl),av aX.p 0 cw rfl];refine (od h1.ls dC.ls).mono ?_;rintro _ eD _ ⟨rfl,aC⟩;have cB:=bd.ext aC;have bN:=cw.ext aC;have cC:=cz.ext aC;have cD:=(aG.trans aH).trans aC;have z9:=(aH.trans aC).size;rw[ak];refine⟨λbO=>?_,λcF=>?_⟩
  rotate_left
  .refine cu _ _ ⟨W,?_,cD,Ω,cB,?_,bN,cC,ay⟩
   .congr 1;exact decide_eq_decide.2 ⟨λh=>bM.2 (.inl h),λh=>(bM.1 h).resolve_right cF⟩
   .have e:kB f.k c.sc c.cs (da h)=da h:=if_neg cF;rw[e] at bc;rw[<-sK Ω bc,<-af];symm;refine W5 λp=>?_;rw[W3];by_cases aO:j=p
    .subst aO;rw[if_pos rfl,if_pos Θ,u4,aw];rfl
    .rw[if_neg aO]
  have dD:h.cs.length=c.cs.length:=by
   have dE:h.cs.length=_:=ct.len;have dF:c.cs.length=(aJ (bI f.sizes (hs f.sizes f.k x).1)).toNat:=by rw[a7];exact b7.len
   rw[dE,dF,show (da h).1=h.sc from rfl,bO,aF];rfl
  have eF:(dQ f.k h.cs c.cs).length=h.cs.length:=by unfold dQ;rw[List.length_zipWith];omega
  rw[av aX.p 2 bN rfl,aU au.u (cA.ext aC).ls];refine b0.range c.cs.length (λs aA=>Ext w aA/\V.heap.size<=aA.heap.size/\jP aA w.heap.size g l f.sizes (W.set j {h with cs:=(dQ f.k h.cs c.cs).take s++h.cs.drop s})/\ad aA X aX (cO c)/\fs aA f.sizes c) cA.ls.le
   ⟨cD,Ω,?_,bN,cC⟩ ?_ ?_
  .have e:W.set j {h with cs:=(dQ f.k h.cs c.cs).take 0++h.cs.drop 0}=W:=by
    refine W5 λp=>?_;rw[W3];by_cases aO:j=p
    .subst aO;rw[if_pos rfl,if_pos Ω,aw];rfl
    .rw[if_neg aO]
   rw[e];exact cB
  .rintro s aA dG J ⟨bP,cG,be,bQ,bR⟩ dH;refine bk Ω ?_;intro eH aP _ _;have aD:=be.ext aP;have cH:=bQ.ext aP;have cI:=bR.ext aP;have cJ:=bP.trans aP;have bh:(W.set j {h with cs:=(dQ f.k h.cs c.cs).take s++h.cs.drop s})[j]? =σ {h with cs:=(dQ f.k h.cs c.cs).take s++h.cs.drop s}:=by
    rw[W3,if_pos rfl,if_pos Ω]
   have cK:j<(W.set j {h with cs:=(dQ f.k h.cs c.cs).take s++h.cs.drop s}).length:=by rw[W0];omega
   obtain⟨⟨_,_,dI,bS⟩,dJ⟩:=aD.2.1 _ (x5 bh);obtain⟨_,_,eI,dK⟩:=id cI;obtain⟨a,bT⟩:=aN (l:=h.cs) (i:=s) Ω;obtain⟨b,aT⟩:=aN (l:=c.cs) J;have dL:s<({h with cs:=(dQ f.k h.cs c.cs).take s++h.cs.drop s}:ey).cs.length:=by show s<((dQ f.k h.cs c.cs).take s++h.cs.drop s).length;rw[r8,o5,Q2];omega
   have dM:((dQ f.k h.cs c.cs).take s++h.cs.drop s)[s]? =σ a:=by rw[Ce Ω];exact bT
   have bU:(dQ f.k h.cs c.cs)[s]? =σ (min (a+b) f.k):=by
    unfold dQ;rw[List.getElem?_zipWith,bT,aT]
   have eJ:=ct.iJ a (x5 bT);have eK:=b7.iJ b (by rw[<-a7];exact x5 aT);have dN:=bn.ext cJ;rw[cE rfl cg.u aX.i aD.1 cK,aM aX.p rfl,aS (v:=h.aI) Ψ (aD.1.range bh 2 _ rfl),cE rfl cg.u aX.i aD.1 cK,aM aX.p rfl,aS (v:=h.aI) Ψ (aD.1.range bh 2 _ rfl),bf au.u an.i Ψ bS.ls dM,av aX.p 2 cH rfl,bf au.u an.i Ψ dK.ls aT,aK dx.p 1 dN rfl];refine (H7 Ω Ω).mono ?_;rintro _ eL _ ⟨rfl,aE⟩;refine⟨.inl aE,?_⟩;have z12:=(aP.trans aE).size;refine LS (h:={h with cs:=(dQ f.k h.cs c.cs).take s++h.cs.drop s}) (aD.ext aE) bh dL λeM bi cL bV=>?_;rw[aL];have dO:=cI.ext aE;have cM:=cH.ext aE;have eO:=bi.size;refine dH _ ⟨(cJ.trans aE).then bi λr U he=>by have:=dJ r (.inl he);omega,Ω,?_,?_,?_⟩
   .rw[List.set_set] at bV;have e:=sK (A:=dQ f.k h.cs c.cs) (B:=h.cs) (s:=s) Ω bU;simp only[e] at bV;exact bV
   .exact cM.ab bi λJ=>by
     obtain⟨eP,dP⟩:=cL _ J;exact absurd (ea cM dP) Φ
   .refine l4 dO bi λr U=>.inr (.inr ⟨cL r U,λdR=>?_⟩);have:=ag r (.inl dR);have:=ay h (x5 aw) r U;omega
  .rintro aA dG ⟨bP,cG,be,bQ,bR⟩;refine b2 Ω ?_;have e:(dQ f.k h.cs c.cs).take c.cs.length++h.cs.drop c.cs.length=dQ f.k h.cs c.cs:=by
    rw[<-dD,List.drop_length,X6,n0 Ω]
   simp only[e] at be;refine cu _ _ ⟨_,?_,bP,cG,be,?_,bQ,bR,λz Y r U=>?_⟩
   .congr 1;symm;exact decide_eq_true (bM.2 (.inr bO))
   .have dS:kB f.k c.sc c.cs (da h)=da {h with cs:=dQ f.k h.cs c.cs}:=if_pos bO;rw[dS] at bc;rw[T8,af,sK Ω bc]
   .rcases W8 Y with Y|rfl
    .exact ay z Y r U
    .exact ay h (x5 aw) r U
 rintro _ ah dp ⟨W,rfl,aG,dr,a8,af,bJ,bL,ay⟩;refine b2 Ω ?_;rw[dn,b8,o9,bg,bt];have cN:=vl bx;have bU:((eE f i).map (kB f.k c.sc c.cs)).take L.length++(eE f i).drop L.length=(eE f i).map (kB f.k c.sc c.cs):=by
  rw[b8,List.drop_length,X6,n0 (by rw[u5];exact n9 _)]
 rw[bU] at af;have du:W.length=L.length:=by
  have:=congrArg T9 af;rw[u5,u5] at this;omega
 refine⟨λbj=>?_,λbW=>?_⟩
 .have bj:bl x.scope∉(eE f i).map (·.1):=by simpa using bj
  have dT:(eE f i).map (kB f.k c.sc c.cs)=eE f i:=by
   refine (List.map_congr_left λz Y=>?_).trans (List.map_id _);exact if_neg λhe=>bj (Z6.2 ⟨z,Y,by rw[he,aF]⟩)
  rw[dT] at af;rw[br aX.p aX.i rfl (show ah.rangeAt X 0 (cO c) from bJ.range)];refine gg (f:=cO) (k:=3) (a:=c) cg.u aX.i Ω rfl rfl λeQ dI aj eR bm bS=>?_;have aB:=a8.ext bm;have cP:=bL.ext bm;refine gB (f:=cO) (a:=c) cg.u aX.i rfl aB.1 (by simpa using bS.sl) cP.one Ω Ω λeS dU dz bu dV bX=>?_;have cQ:∀r,leadsTo l r-> ∃e c,ad aj r e c/\e≠ac/\e≠an:=λr U=>by
   obtain⟨rfl,c,aT⟩:=dy aB.1 U;exact⟨_,c,aT,Φ,Φ⟩
  have eU:=bm.size;have eV:=aG.size;refine ca _ _ ⟨dU,W++[c],(aG.trans bm).then bX λr U he=>by have:=aB.2.2.2 r he;omega,⟨bu,λz Y=>?_,λp q y z ae Y dW r bY bZ=>?_,λr U=>(dV r U).elim (aB.2.2.2 r) λh=>Ω⟩,?_⟩
  .rcases l5.1 Y with Y|Y
   .exact⟨l4 (aB.2.1 z Y).1 bX λr U=>.inl (cQ r U),(aB.2.1 z Y).2⟩
   .rw[l9.1 Y];exact⟨l4 cP bX λr U=>.inl (cQ r U),λr U=>by have:=ag r U;omega⟩
  .have cR:∀ {p:Nat} {y:ey},(W++[c])[p]? =σ y->W[p]? =σ y\/(p=W.length/\y=c):=λ{p y} ae=>by
    rw[List.getElem?_append] at ae;split at ae
    .exact .inl ae
    .by_cases dX:p-W.length=0
     .rw[dX] at ae;cases ae;exact .inr ⟨Ω,rfl⟩
     .rw[Y9 Θ] at ae;cases ae
   rcases cR ae with cS|⟨eW,rfl⟩<;>rcases cR Y with cT|⟨eq,rfl⟩
   .exact aB.2.2.1 p q y z cS cT dW r bY bZ
   .have:=ay y (x5 cS) r bY;have:=ag r (.inl bZ);omega
   .have:=ay z (x5 cT) r bZ;have:=ag r (.inl bY);omega
   .omega
  .rw[j9,af,cN,BA λz Y he=>bj (Z6.2 ⟨z,Y,he⟩)];show _++[(c.sc,c.cs)]=_;rw[aF,a7];rfl
 .have bW:bl x.scope∈(eE f i).map (·.1):=by simpa using bW
  refine ca _ _ ⟨g,W,aG,a8,?_⟩;rw[af,cN];unfold hM;rw[if_pos (show (hs f.sizes f.k x).1∈_ from bW)];refine List.map_congr_left λz _=>?_;unfold kB;rw[aF,a7];rfl
def vJ (w:x2) (B:Nat) (v:y0) (n:aY):Prop:=∃szv gz J V aV U gr L,v= .agg #[Δ n.k,szv,Δ n.zero,J,U]/\ao .i64 ac w gz szv n.sizes/\gX w V J aV/\aV.map (·.l)=n.unary/\bb cO 3 aX w gr U L/\(∀h∈L,fs w n.sizes h)/\L.map da=n.funs/\(∀r,leads szv r->B<=r)/\ ∀h∈L,∀r,oQ h r->B<=r
def z9:List y0:=[Δ 0,.slice ν 0 0,Δ 0,.slice ν 0 0,.slice ν 0 0]
def l6 (w:x2) (C U gs go:Nat) (szv aI:y0) (f:b4) (J:List ey) (w':x2):Prop:=Ext w w'/\C<=w'.heap.size/\ad w' U dw z9/\ao .i64 ac w' gs szv f.sizes/\bb cO 3 aX w' go aI J/\(∀r,leadsTo aI r->r<C)/\ ∀h∈J,fs w' f.sizes h
theorem l6.ext {C U gs go:Nat} {szv aI:y0} {f:b4} {V:List ey} (h:l6 w C U gs go szv aI f V w') (J:Ext w' aa):l6 w C U gs go szv aI f V aa:=by
 obtain⟨h1,ae,W,X,Y,ab,ac⟩:=h;have:=J.size;exact⟨h1.trans J,Ω,W.ext J,X.ext J,Y.ext J,ab,λx ad=>(ac x ad).ext J⟩
def LZ (w w':x2) (C J:Nat) (r:Nat):Prop:=w.heap.size<=r/\r≠J/\((∃c,ad w' r dw c)\/(∃c,ad w' r au c)\/((∃c,ad w' r aX c)/\C<=r))
theorem l6.ab {C Y gs go:Nat} {szv aI:y0} {f:b4} {ag:List ey} (h:l6 w C Y gs go szv aI f ag w') (W:ae S w' aa) (X:∀r,S r->LZ w w' C Y r):l6 w C Y gs go szv aI f ag aa:=by
 obtain⟨h1,ap,ak,ah,af,ai,al⟩:=h;have:=W.size;have aj:∀r,S r-> ∃e c,ad w' r e c/\e≠ac/\e≠an:=λr V=>by
  obtain⟨_,_,⟨c,U⟩|⟨c,U⟩|⟨⟨c,U⟩,_⟩⟩:=X r V
  .exact⟨_,c,U,Φ,Φ⟩
  .exact⟨_,c,U,Φ,Φ⟩
  .exact⟨_,c,U,Φ,Φ⟩
 refine⟨h1.then W λr V J=>by have:=(X r J).1;omega,Ω,ak.ab W λJ=>(X _ J).2.1 rfl,be ah W λr V J=>?_,af.ab W λr V J=>?_,ai,λx am=>l4 (al x am) W λr V=>.inl (aj r V)⟩
 .obtain⟨e,c,U,ao,_⟩:=aj r J;exact b5 ah U (λhe=>ao he.symm) V rfl
 .obtain⟨_,_,⟨c,U⟩|⟨c,U⟩|⟨_,aq⟩⟩:=X r J
  .exact cn af U Φ V
  .exact cn af U Φ V
  .have:=ai r V;omega
def Ci (w:x2) (C V:Nat) (szv:y0) (k:Int) (n:aY) (W:List ey) (w':x2):Prop:=∃J X aV U gr L,ad w' V dw [Δ k,szv,Δ n.zero,J,U]/\gX w' X J aV/\aV.map (·.l)=n.unary/\(∀r,leadsTo J r->w.heap.size<=r)/\bb cO 3 aX w' gr U L/\(∀h∈L,h∈W)/\L.map da=n.funs/\ ∀r,leadsTo U r->C<=r
theorem Cj {cm:Nat} {f:b4} (cp:nq w cm f) (ay:e1 N f):ai x3 Eb [Γ cm] w λv w'=>Ext w w'/\vJ w' w.heap.size v (cM f):=by
 have hk:=ay.k;have ee:=ay.sizes.2.1;obtain⟨ef,eg,eh,ei,cq,cr,ej⟩:=id cp;refine az func28 ?_;refine bp dw.i λaA V ek bo bq=>?_;have bq:ad V aA dw z9:=bq;rw[aK dx.p 1 (cq.ext bo) rfl,c8 (cs:=#[Δ f.k,.slice ν 0 0,Δ 0,.slice ν 0 0,.slice ν 0 0]) Ψ];refine bp dw.i λX aa em ct c6=>?_;refine bK (vs:=[Δ f.k,.slice ν 0 0,Δ 0,.slice ν 0 0,.slice ν 0 0]) dw.i rfl rfl (by intro u hu;simp at hu;rcases hu with rfl|rfl|rfl|rfl<;>rfl) c6 λc7 cu en c9=>?_;have bT:Ext w c7:=(bo.trans ct).then cu λr U he=>by have he:r=X:=he;have:=bo.size;omega
 have eo:=bq.lt;have ah:X≠aA:=Ω
 have db:=(bq.ext ct).ab cu λhe=>by have he:aA=X:=he;omega
 rw[aK dx.p 2 (cq.ext bT) rfl,aU au.u (cr.ext bT).ls];have ep:=bo.size;refine b0.range f.sizes.length (λi aD=>Ext w aD/\ad aD aA dw z9/\ ∃szv gs Y al aV,ad aD X dw [Δ f.k,szv,Δ 0,Y,.slice ν 0 0]/\ao .i64 ac aD gs szv (f.sizes.take i)/\(∀r,leads szv r->w.heap.size<=r)/\gX aD al Y aV/\aV.map (·.l)=(f.sizes.take i).map (λz=>o8 z.toNat 0)/\ ∀r,leadsTo Y r->w.heap.size<=r) Ω
  ⟨bT,db,_,0,_,0,[],c9,ao.nil _ _ _ _,(λr U=>by obtain⟨a,n,c,dc,er⟩:=U;cases dc),⟨bb.nil _ _ _ _ _,λx bU=>(by cases bU)⟩,rfl,λr U=>(eT U).elim⟩ ?_ ?_
 .rintro i aD dd hi ⟨aE,bV,szv,gs,Y,al,aV,a8,bt,bu,bW,ba,bw⟩ df;obtain⟨z,ag⟩:=aN (l:=f.sizes) hi;have es:=ay.sizes.2.2 z (x5 ag);have et:aV.length=i:=by have:=congrArg T9 ba;simp only[u5,o5] at this;omega
  refine bk Ω ?_;rw[bf au.u an.i Ψ (cr.ext aE).ls ag,av dw.p 1 a8 rfl];refine dJ (k:=.i64) af.u ac.i rfl λa5 eu cw ev aT dg=>?_;have bc:=bt.ext aT;refine fc af.u ac.i rfl bc dg.ls Θ Θ λbX cz ew bx dh cA=>?_;have bY:=a8.ext aT;have cB:=bV.ext aT;have cC:=bY.ab cA λhe=>b5 bc bY Φ he rfl;rw[aM dw.p rfl];refine bj (g:=X) (o:=1) af.i bx.ls.cells.1 bx.ls.cells.2 cC Ξ λbA cD ey bB=>?_;have bB:ad bA X dw [Δ f.k,bX,Δ 0,Y,.slice ν 0 0]:=bB;have bZ:ae (λr=>leads szv r\/r=X) cw bA:=(cA.mono λr _ h=>.inl h).trans (cD.mono λr _ h=>.inr h);have di:ao .i64 ac bA cz bX (f.sizes.take (i+1)):=by
   rw[r9,ag];exact be bx cD λr U he=>by
    have he:r=X:=he;subst he;exact b5 bx cC Φ U rfl
  have aW:∀r,(leads szv r\/r=X)-> ∃e c,ad cw r e c/\e≠an/\e≠au:=λr U=>by
   rcases U with U|rfl
   .obtain⟨rfl,_⟩:=bz bc U;obtain⟨_,⟨dj,_⟩|⟨cap,full,_,W,_⟩⟩:=bc
    .obtain⟨a,n,c,e,_⟩:=U;rw[dj] at e;cases e
    .exact⟨_,_,W,Φ,Φ⟩
   .exact⟨_,_,bY,Φ,Φ⟩
  have dk:=(bW.ext aT).ab bZ aW;have z4:=aE.size;have z5:=aT.size;have cF:Ext w bA:=(aE.trans aT).then bZ λr U he=>by
   rcases he with he|he
   .have:=bu r he;omega
   .omega
  have dl:=cB.ab bZ λJ=>by
   rcases J with J|J
   .exact b5 bc cB Φ J rfl
   .omega
  intro ez cG _ _;have dm:=bB.ext cG;rw[av dw.p 3 dm rfl];obtain⟨aF,rfl⟩:∃n:Nat,z=n:=⟨z.toNat,Ω⟩;refine jx (k:=.i64) au.u an.i Ω Ω λbC dn eA b3 dp=>?_;refine⟨.inl b3,?_⟩;have dq:ao .i64 an dn bC (.slice (σ ⟨bC,0,ν⟩) aF aF) (o8 aF 0):=ao.of (b1.full (k:=1) (n:=aF) dp Ξ (by simp[maxLen];omega));let a:kt:=⟨.slice (σ ⟨bC,0,ν⟩) aF aF,o8 aF 0⟩;refine gg (f:=ng) (a:=a) dH.u au.i Ω rfl rfl λeB eC b6 eD b7 dr=>?_;refine⟨.inl (b3.trans b7),?_⟩;have aY:=(cG.trans b3).trans b7;have bd:=dk.ext aY;refine gB (f:=ng) (a:=a) dH.u au.i rfl bd.1 (by simpa using dr.sl) (λu hu=>by rw[l9.1 (show u∈[a.v] from hu)];rfl) Ω Ω λb8 b9 eE am ca cH=>?_;have aZ:∀ {r:Nat},leadsTo Y r-> ∃c,ad b6 r au c:=λU=>by
   obtain⟨rfl,c,W⟩:=dy bd.1 U;exact⟨c,W⟩
  have cb:=bB.ext aY;have cI:=cb.ab cH λhe=>cn bd.1 cb Φ he;rw[aM dw.p rfl];refine bj dH.i (de am.sl).1 (de am.sl).2 cI Ξ λds cJ eF du=>?_;rw[aL];have aB:ae (λr=>leadsTo Y r\/r=X) b6 ds:=(cH.mono λr _ h=>.inl h).trans (cJ.mono λr _ h=>.inr h);have cc:∀r,(leadsTo Y r\/r=X)-> ∃e c,ad b6 r e c/\e≠an/\e≠ac:=λr U=>by
   rcases U with U|rfl
   .obtain⟨c,W⟩:=aZ U;exact⟨_,c,W,Φ,Φ⟩
   .exact⟨_,_,cb,Φ,Φ⟩
  have cK:=di.ext aY;have eH:=cF.size;have eI:=aY.size;have cL:=dl.ext aY;refine df _ ⟨(cF.trans aY).then aB (λr U he=>?_),cL.ab aB (λJ=>?_),bX,cz,b8,b9,aV++[a],du,be cK aB (λr U J=>?_),λr U=>?_,⟨am.ab cJ λr U he=>?_,λy ap=>?_⟩,?_,λr U=>?_⟩
  .rcases he with he|rfl
   .have:=bw r he;omega
   .omega
  .rcases J with J|J
   .exact cn bd.1 cL Φ J
   .omega
  .obtain⟨e,c,W,_,ah⟩:=cc r J;exact b5 cK W (λhe=>ah he.symm) U rfl
  .rcases dh r U with h|h
   .exact bu r h
   .omega
  .have he:r=X:=he;subst he;exact cn am cI Φ U
  .rcases l5.1 ap with ap|ap
   .exact bd.p7 aB (λr U=>by obtain⟨e,c,W,ah,_⟩:=cc r U;exact⟨e,c,W,ah⟩) y ap
   .rw[l9.1 ap];have cN:=dq.ext b7;exact⟨bC,be cN aB λr U J=>by
     obtain⟨e,c,W,ah,_⟩:=cc r J;exact b5 cN W (λhe=>ah he.symm) U rfl⟩
  .rw[j9,ba,r9,ag,j6,j9];rfl
  .rcases ca r U with h|h
   .exact bw r h
   .omega
 rintro aD dd ⟨aE,bV,szv,gs,Y,al,aV,a8,bt,bu,bW,ba,bw⟩;refine b2 Ω ?_;rw[o9] at bt ba;refine (LY (cp.ext aE) ay).mono ?_;rintro aI bD _ ⟨a1,go,aq,am,cP,cQ,eJ⟩;have cR:aq.length=(fl f).length:=by rw[<-cQ,u5]
 have eK:aq.length<=256:=by
  have h1:=(pX ay).2.length_eq;have bE:=(kp ay).2.2;have eL:=S5 fk (e9 f);have eM:=ay.ki;omega
 have z4:=aE.size;have eN:=a1.size;have eO:=a8.lt;rw[dt cg.u am];refine b0.range aq.length (λi aG=>l6 w bD.heap.size aA gs go szv aI f aq aG/\Ci w bD.heap.size X szv f.k (dz f i) aq aG) am.le
  ⟨⟨aE.trans a1,n9 _,bV.ext a1,bt.ext a1,am,λr U=>by have:=am.leads U;omega,λh aw=>(cP h aw).1⟩,Y,al,aV,_,0,[],a8.ext a1,bW.ext a1,ba,bw,bb.nil _ _ _ _ _,λx bU=>(by cases bU),rfl,λr U=>(eT U).elim⟩ ?_ ?_
 rotate_left
 .rintro aG dA ⟨a2,Y,al,aV,aH,gr,L,bF,bG,aO,bg,bh,a6,aP,bi⟩;obtain⟨dC,eP,cS,cd,eQ,eR,dD⟩:=id a2;have bH:=oH f aq.length;rw[cR,sD] at bH;rw[cR,sD] at bF aO aP;refine b2 Ω ?_;rw[br dw.p dw.i rfl (show aG.rangeAt X 0 [Δ f.k,szv,Δ (cM f).zero,Y,aH] from bF.range)];refine bK (vs:=[Δ f.k,szv,Δ (cM f).zero,Y,aH]) dw.i rfl rfl (λu hu=>?_) cS λeS bl eU dE=>?_
  .simp at hu;rcases hu with rfl|rfl|rfl|rfl|rfl
   .rfl
   .exact cd.ls.cells.2
   .rfl
   .exact (de bG.1.sl).2
   .exact (de bh.sl).2
  rw[eZ dw.p dw.i rfl dE.range];have aW:∀r,r=aA-> ∃e c,ad aG r e c/\e≠an/\e≠au/\e≠ac/\e≠aX:=λr U=>by
   subst U;exact⟨_,_,cS,Φ,Φ,Φ,Φ⟩
  refine⟨dC.then bl λr U he=>by have he:r=aA:=he;omega,szv,gs,Y,al,aV,aH,gr,L,?_,?_,bG.ab bl (λr U=>?_),aO,bh.ab bl (λr U J=>?_),λh aw=>?_,aP,bu,λh aw r U=>by have:=(cP h (a6 h aw)).2 r U;omega⟩
  .rw[bH.1]
  .rw[bH.2.1];refine be cd bl λr U J=>?_;obtain⟨e,c,W,_,_,ah,_⟩:=aW r J;exact b5 cd W (λhe=>ah he.symm) U rfl
  .obtain⟨e,c,W,h1,bE,_⟩:=aW r U;exact⟨e,c,W,h1,bE⟩
  .obtain⟨e,c,W,_,_,_,ah⟩:=aW r J;exact cn bh W (λhe=>ah he.symm) U
  .rw[bH.2.1];exact l4 (dD h (a6 h aw)) bl λr U=>by
    obtain⟨e,c,W,h1,_,bE,_⟩:=aW r U;exact .inl ⟨e,c,W,bE,h1⟩
 rintro i aG dA hi ⟨a2,Y,al,aV,aH,gr,L,bF,bG,aO,bg,bh,a6,aP,bi⟩ dF;obtain⟨y,ap⟩:=aN (l:=aq) hi;have bJ:=x5 ap;have cT:(fl f)[i]? =σ (da y):=by rw[<-cQ,u4,ap];rfl
 have ce:fo f.sizes f.k (da y):=sh ay _ (x5 cT);have ch:=vn cT;obtain⟨eV,eW,eX,eY⟩:=oH f i;refine bk Ω ?_;refine dv (λci=>l6 w bD.heap.size aA gs go szv aI f aq ci/\Ci w bD.heap.size X szv f.k (dz f (i+1)) aq ci) ?_ ?_
 .rintro ci h;rw[aL];exact dF _ h
 intro e0 cj;rw[cE rfl cg.u aX.i a2.2.2.2.2.1 hi,br aX.p aX.i rfl (a2.2.2.2.2.1.range ap)];refine bp aX.i λdG e2 e3 dI dK=>?_;refine bK (vs:=cO y) aX.i rfl rfl (a2.2.2.2.2.2.2 y bJ).one dK λcU dL e4 bL=>?_;have bM:Ext aG cU:=dI.put dL Ω;have bN:=a2.ext bM;have aQ:=bF.ext bM;have ck:=bG.ext bM;have bO:=bh.ext bM;obtain⟨e5,e6,cV,e7,e8,fa,cW⟩:=id bN;obtain⟨⟨fb,cX⟩,_,dM,cY⟩:=cW y bJ;rw[av aX.p 0 bL rfl,aU af.u cX.ls];have fd:aV.length=f.sizes.length:=by have:=congrArg T9 aO;rw[u5] at this;omega
 have fe:L.length<=256:=by have:=congrArg T9 aP;rw[u5] at this;omega
 rw[bn,ak];refine⟨λff=>?_,λfg=>?_⟩
 .
  have aR:y.sc=[]:=Z8 Ω;have aj:dz f (i+1)={dz f i with zero:=y.cs.getD 0 0}:=by rw[ch];unfold ij;simp only[da,aR]
  have fh:y.cs.length=1:=by have:=ce.len;simpa[da,aR,bI,aJ] using this
  have dN:y.cs[0]? =σ (y.cs.getD 0 0):=by rw[u9,x6 Ω];rfl
  rw[av aX.p 2 bL rfl,dY (y:=0) (i:=0) rfl au.u an.i Ψ cY.ls dN,aM dw.p rfl];refine bj an.i rfl rfl aQ Ξ λdO ax dP dQ=>?_;refine cj _ ⟨bN.ab ax λr U=>?_,Y,al,aV,aH,gr,L,?_,ck.ab ax (λr U=>?_),by rw[aj];exact aO,bg,bO.ab ax (λr U J=>?_),a6,by rw[aj];exact aP,bi⟩
  .have U:r=X:=U;subst U;exact⟨Ω,ah,.inl ⟨_,aQ⟩⟩
  .rw[aj];exact dQ
  .have U:r=X:=U;subst U;exact⟨_,_,aQ,Φ,Φ⟩
  .have J:r=X:=J;subst J;exact cn bO aQ Φ U
 rw[bn,ak];refine⟨λh1=>?_,λfi=>?_⟩
 .
  obtain⟨v,aR⟩:∃v,y.sc=[v]:=W7.1 Ω;have fj:=ce.scope.1 v (by show v∈y.sc;rw[aR];exact .head _);have fm:=ce.vars v (by show v∈y.sc;rw[aR];exact .head _);have aj:dz f (i+1)={dz f i with unary:=(dz f i).unary.set v.toNat y.cs}:=by rw[ch];unfold ij;simp only[da,aR]
  intro dR aC _ _;have cl:=aQ.ext aC;have cZ:=bL.ext aC;have bm:=ck.ext aC;have dS:=bN.ext aC;have c1:=bO.ext aC;rw[av dw.p 3 cl rfl,av aX.p 0 cZ rfl];refine rE (y:=0) (i:=0) rfl af.u ac.i (cX.ls.ext aC) (show y.sc[0]? =σ v by rw[aR];rfl) λb o dT=>?_;rw[aS Ψ dT,av aX.p 2 cZ rfl];obtain⟨u,hu⟩:=aN (l:=aV) (i:=v.toNat) Ω;rw[cE (i:=v.toNat) Ω dH.u au.i bm.1 Ω];let a:kt:=⟨y.aI,y.cs⟩;have bP:=cY.ext aC;refine oy (f:=ng) (j:=0) (a:=u) (a':=a) au.i bP.ls.cells.1 bP.ls.cells.2 bm.1 hu rfl Ω λdO ax dP dU=>?_;have aZ:∀ {r:Nat},leadsTo Y r-> ∃c,ad dR r au c:=λU=>by
   obtain⟨rfl,c,W⟩:=dy bm.1 U;exact⟨c,W⟩
  refine cj _ ⟨dS.ab ax λr U=>?_,Y,al,aV.set v.toNat a,aH,gr,L,?_,⟨dU,λz ag=>?_⟩,?_,bg,c1.ab ax (λr U J=>?_),a6,by rw[aj];exact aP,bi⟩
  .obtain⟨c,W⟩:=aZ U;exact⟨bg r U,λhe=>(by subst he;exact absurd (ea W (cV.ext aC)) Φ),.inr (.inl ⟨c,W⟩)⟩
  .rw[aj];exact cl.ab ax λhe=>cn bm.1 cl Φ he
  .rcases W8 ag with ag|rfl
   .exact bm.p7 ax (λr U=>by obtain⟨c,W⟩:=aZ U;exact⟨_,c,W,Φ⟩) z ag
   .exact⟨dM,be bP ax λr U J=>by
     obtain⟨c,W⟩:=aZ J;exact b5 bP W Φ U rfl⟩
  .rw[aj,T8,aO]
  .obtain⟨c,W⟩:=aZ J;exact cn c1 W Φ U
 .
  have aj:dz f (i+1)={dz f i with funs:=(dz f i).funs++[da y]}:=by
   rw[ch];unfold ij;have c2:2<=(da y).1.length:=by show 2<=y.sc.length;omega
   generalize da y=g at c2 ⊢;obtain⟨sc,cs⟩:=g
   match sc,c2 with
   |_::_::_,_=>rfl
  rw[av dw.p 4 aQ rfl,br aX.p aX.i rfl (show cU.rangeAt dG 0 (cO y) from bL.range)];refine gg (f:=cO) (k:=3) (a:=y) cg.u aX.i Ω rfl rfl λfp fq dV fs a7 dW=>?_;have bQ:=bO.ext a7;have dX:=ck.ext a7;have bR:=aQ.ext a7;have dZ:=bN.ext a7;refine gB (f:=cO) (a:=y) cg.u aX.i rfl bQ (by simpa using dW.sl) (cW y bJ).one Ω Ω λb8 b9 ft bS ca c3=>?_;have c4:=bR.ab c3 λhe=>cn bQ bR Φ he;rw[aM dw.p rfl];refine bj cg.i (de bS.sl).1 (de bS.sl).2 c4 Ξ λec c5 fu ed=>?_;have aB:ae (λr=>leadsTo aH r\/r=X) dV ec:=(c3.mono λr _ h=>.inl h).trans (c5.mono λr _ h=>.inr h);have fv:=a7.size;refine cj _ ⟨dZ.ab aB λr U=>?_,Y,al,aV,b8,b9,L++[y],?_,dX.ab aB (λr U=>?_),by rw[aj];exact aO,bg,bS.ab c5 (λr U J=>?_),λz ag=>?_,?_,λr U=>?_⟩
  .rcases U with U|rfl
   .obtain⟨rfl,c,W⟩:=dy bQ U;have:=bi _ U;refine⟨Ω,λhe=>?_,.inr (.inr ⟨⟨c,W⟩,this⟩)⟩;subst he;exact absurd (ea W (cV.ext a7)) Φ
   .exact⟨Ω,ah,.inl ⟨_,bR⟩⟩
  .rw[aj];exact ed
  .rcases U with U|rfl
   .obtain⟨rfl,c,W⟩:=dy bQ U;exact⟨_,c,W,Φ,Φ⟩
   .exact⟨_,_,bR,Φ,Φ⟩
  .have J:r=X:=J;subst J;exact cn bS c4 Φ U
  .rcases l5.1 ag with ag|ag
   .exact a6 z ag
   .rw[l9.1 ag];exact bJ
  .rw[aj,j9,aP];rfl
  .rcases ca r U with h|h
   .exact bi r h
   .omega
def qi (w:x2) (S:Nat->Prop) (e:o4):Prop:=∀r,S r-> ∃c,ad w r e c
theorem vK {U:o4} {k:o6} {g:Nat} (h:ao k U w g v l) (V:ae S w w') (W:qi w S e) (X:U≠e):ao k U w' g v l:=be h V λr Y J=>by
 obtain⟨c,aa⟩:=W r J;exact b5 h aa X Y rfl
theorem Ck {α:Type} {f:α->List y0} {k:Nat} {U:o4} {g:Nat} {L:List α} (h:bb f k U w g v L) (V:ae S w w') (W:qi w S e) (X:U≠e):bb f k U w' g v L:=h.ab V λr Y J=>by
 obtain⟨c,aa⟩:=W r J;exact cn h aa X Y
theorem vL {U:o4} {r:Nat} (h:ad w r U c) (V:ae S w w') (W:qi w S e) (X:U≠e):ad w' r U c:=h.ab V λJ=>by
 obtain⟨c,Y⟩:=W r J;exact X (ea h Y)
theorem Cl {g:Nat} (h:ad w g e c):qi w (λr=>r=g) e:=λr J=>by
 have J:r=g:=J;subst J;exact⟨c,h⟩
theorem jQ {k:o6} {g:Nat} (h:ao k e w g v l):qi w (λr=>leads v r) e:=λr J=>by
 have J:leads v r:=J;obtain⟨rfl,_⟩:=bz h J;obtain⟨_,⟨V,_⟩|⟨cap,full,_,W,_⟩⟩:=h
 .obtain⟨a,n,c,U,_⟩:=J;rw[V] at U;cases U
 .exact⟨_,W⟩
def bN (x:eX):Λ:=((V0 x.un.length).map λv:Nat=>(v:Int)).filter λv=>!dropped x.mask v
theorem vM {P:V2} {k:o6} {b:Nat} (J:P.underlying t=σ (.slice e)) (hi:aO P e 1 b z)
  (U:∀v g w',g=w.heap.size->Ext w w'->ao k e w' g v []->K v w'):ay P (Y1 t 0 #[]) w K:=
 iX J hi Ω (cs:=#[]) (by simp[Instr.fill]) λg w' V W X=>U _ g w' V W (ao.of (n:=0) (b1.full (by simpa using X) Ξ (by simp[maxLen])))
theorem L0 {n:aY} (h:vJ w B v n) {g:Nat} (W:ad w' g dw v.cells.toList):∃szv gz J V aV U gr L,ad w' g dw [Δ n.k,szv,Δ n.zero,J,U]/\ao .i64 ac w gz szv n.sizes/\gX w V J aV/\aV.map (·.l)=n.unary/\bb cO 3 aX w gr U L/\(∀h∈L,fs w n.sizes h)/\L.map da=n.funs/\(∀r,leads szv r->B<=r)/\ ∀h∈L,∀r,oQ h r->B<=r:=by
 obtain⟨szv,gz,J,V,aV,U,gr,L,rfl,X,Y,ab,aa,ae,af⟩:=h;obtain⟨_,_,_,ag⟩:=b7 X.ls;obtain⟨_,_,_,_,_,ah,_⟩:=Y.1.sl;obtain⟨_,_,_,_,_,ai,_⟩:=aa.sl;refine⟨szv,gz,J,V,aV,U,gr,L,?_,X,Y,ab,aa,ae,af⟩;rw[ag,ah,ai] at W ⊢;exact W
def z12:List y0:=[Δ 0,.slice ν 0 0,Δ 0,.slice ν 0 0,.slice ν 0 0,.slice ν 0 0,.slice ν 0 0,.slice ν 0 0]
theorem L1 (u:Λ):bN (newVar u)=(V0 u.length).map λv:Nat=>(v:Int):=by
 unfold bN newVar dropped;rw[List.filter_eq_self.2];intro a _;simp
section
variable {P:V2} {w:x2} {t:o4} {cx cy:Bool} {a b:Nat} {K:y0->Prop}
theorem L2 (J:a<2 ^ 62) (V:b<2 ^ 62):U P (aA .or t cx cy (Δ a) (Δ b)) w K=K (Δ ((a ||| b:Nat):Int)):=U.of λw' _=>by
 have e:(T4 64 (a:Int) ||| T4 64 (b:Int)).toNat=a ||| b:=by
  rw[lV,lV,BitVec.toNat_or,BitVec.toNat_ofNat,BitVec.toNat_ofNat,Nat.mod_eq_of_lt Ω,Nat.mod_eq_of_lt Ω]
 have X:a ||| b<2 ^ 62:=Nat.or_lt_two_pow J V;have hw:X2.wrap ((a ||| b:Nat):Int)=((a ||| b:Nat):Int):=wrap_i64 Ω Ω;have W:(T4 X2.bits (a:Int) ||| T4 X2.bits (b:Int)).toNat=a ||| b:=e;simp only[aA,eqGuard,binOp,Op.intBits,W,hw];rfl
theorem L3 (W:a<2 ^ 62) (J:b<2 ^ 62):U P (aA .and t cx cy (Δ a) (Δ b)) w K=K (Δ ((a &&& b:Nat):Int)):=U.of λw' _=>by
 have e:(T4 64 (a:Int) &&& T4 64 (b:Int)).toNat=a &&& b:=by
  rw[lV,lV,BitVec.toNat_and,BitVec.toNat_ofNat,BitVec.toNat_ofNat,Nat.mod_eq_of_lt Ω,Nat.mod_eq_of_lt Ω]
 have X:a &&& b<2 ^ 62:=Nat.and_lt_two_pow _ J;have hw:X2.wrap ((a &&& b:Nat):Int)=((a &&& b:Nat):Int):=wrap_i64 Ω Ω;have V:(T4 X2.bits (a:Int) &&& T4 X2.bits (b:Int)).toNat=a &&& b:=e;simp only[aA,eqGuard,binOp,Op.intBits,V,hw];rfl
theorem L4 {k:o6} {n:Nat} (J:n<62):U P (aA .shl t cx cy (Δ 1) (.int k (n:Int))) w K=K (Δ ((2 ^ n:Nat):Int)):=by
 rw[yp Ω];have e:min ((n:Int).toNat) X2.bits=n:=S4 (by show n<=64;omega);have V:2 ^ n<2 ^ 62:=Nat.pow_lt_pow_right Ω J;rw[e,Int.one_mul,show ((2:Int) ^ n)=((2 ^ n:Nat):Int) by simp];generalize 2 ^ n=q at V ⊢;rw[wrap_i64 Ω Ω]
end
theorem Cm (a n:Nat):(a / 2 ^ n &&& 1=1)↔a.testBit n=true:=by
 rw[Nat.and_one_is_mod,Nat.testBit_eq_decide_div_mod_eq,decide_eq_true_eq]
theorem Cn {b n:Nat} {v:Int} (Y:lW b n):ai x3 EU [ja b n,Δ v] w λr w'=>r= .bool (decide (0<=v/\v<n)&&b.testBit v.toNat)/\Ext w w':=by
 refine az func126 ?_;refine bP λg V ae U W=>?_;refine aR (λr aa=>r= .bool (decide (0<=v/\v<n)&&b.testBit v.toNat)/\Ext w aa) (λ_ _ h=>h) λaf X=>?_;rw[br cc.p cc.i rfl W.range];refine zq.mono ?_;rintro _ ag _ ⟨rfl,J⟩;rw[ak];refine⟨λh=>?_,λh=>X _ _ ⟨by rw[decide_eq_false h];rfl,U.trans J⟩⟩;obtain⟨ab,ah⟩:=Y;obtain⟨s,rfl⟩:∃s:Nat,v=s:=⟨v.toNat,Ω⟩;have ac:=W.ext J;have aj:(2:Nat) ^ n<=2 ^ 32:=R5 Ω ab;have ad:b / 2 ^ s<2 ^ 64:=Nat.lt_of_le_of_lt (Nat.div_le_self _ _) Ω;rw[av cc.p 0 ac rfl,rH Ω,show (1:Int)=((1:Nat):Int) from rfl,u64_and ad Ω,bn];refine X _ _ ⟨?_,U.trans J⟩;congr 1;rw[decide_eq_true h,V6,U4,decide_eq_true_eq,j0,<-Cm];omega
theorem L5 (m v:Nat):dropped (m:Int) (v:Int)=m.testBit v:=by unfold dropped;rw[j0,j0]
def ci (w:x2) (aj ag:Nat) (A R:ah) (n:aY) (s:aB) (t:aC):Prop:=StateM w aj ag A R n s t/\t.b3=s.cells/\ji t/\dA n.k n.sizes s/\jg n
theorem ci.ext {A R:ah} {n:aY} {s:aB} {t:aC} (h:ci w aj ag A R n s t) (J:Ext w w'):ci w' aj ag A R n s t:=⟨h.1.ext J,h.2⟩
theorem StateM.parts {A R:ah} {n:aY} {s:aB} {t:aC} (h:StateM w aj ag A R n s t):∃J U V W X Y L aa,ad w aj bF [Γ J,Γ ag,U,V,W]/\fE w J n/\cX w ag aa t/\ao .i64 ac w X U (gZ s)/\bb jK 3 cL w Y V L/\jk R w L s:=by
 obtain⟨J,U,V,W,_,X,Y,ge,L,E,aa,w0,ab,⟨ae,af,an⟩,⟨ai,ap,aq,au⟩,ak,⟨al,am⟩,av,aw⟩:=h;exact⟨J,U,V,W,X,Y,L,aa,ab,ae.ext af,ai,ak,al,am⟩
theorem oR {s:aB} {i:Nat} (h:i<s.vars.length):(gZ s)[i]? =σ (eY s i:Int):=by
 unfold gZ;rw[u4,List.getElem?_range h];rfl
theorem oS {s:aB} {t:aC} (U:t.b3=s.cells) (J:ji t):s.cells.length<=100000000:=by
 rw[<-U];unfold aC.b3;rw[u5];exact J.1
theorem qj {s:aB} {i:Nat} {x:eX} (h:s.vars[i]? =σ x):eY s i+x.un.length+2<=s.cells.length:=by
 have h1:=oJ h (j:=x.un.length+1) Ω;have J:(gY x)[x.un.length+1]? ≠ν:=by
  rw[Ne,List.getElem?_eq_none_iff];show ¬(x.un.length+1+1<=x.un.length+1);omega
 rw[<-h1] at J;have:=(x4.1 (Option.ne_none_iff_exists'.1 J).choose_spec).1;omega
theorem vN {s:aB} {f:dE} (h:s.funs[j]? =σ f):ei s j+f.cs.length+1<=s.cells.length:=by
 have h1:=vq h (j:=f.cs.length) Ω;have J:(gk f)[f.cs.length]? ≠ν:=by
  rw[Ne,List.getElem?_eq_none_iff];show ¬(f.cs.length+1<=f.cs.length);omega
 rw[<-h1] at J;have:=(x4.1 (Option.ne_none_iff_exists'.1 J).choose_spec).1;omega
section
variable {w:x2} {aj ag:Nat} {A R:ah} {n:aY} {s:aB} {t:aC}
theorem Co (h:ci w aj ag A R n s t):ai x3 E8 [Γ aj] w λv w'=>(∃J,v=Γ J/\fE w' J n)/\Ext w w':=by
 obtain⟨J,W,X,Y,aa,ab,L,ac,U,V,ad,ae,af,ah⟩:=h.1.parts;refine az func145 ?_;rw[cR et.u];simp only[Z7,aT];rw[aK bF.p 0 U rfl];exact⟨⟨J,rfl,V⟩,Ext.refl _⟩
theorem sL (h:ci w aj ag A R n s t):ai x3 Eh [Γ aj] w λv w'=>v=Δ (n.sizes.length:Int)/\Ext w w':=by
 refine az func60 ?_;refine (Co h).mono ?_;rintro _ V _ ⟨⟨X,rfl,J⟩,U⟩;refine (vt J).mono ?_;rintro _ aa _ ⟨rfl,W⟩;exact⟨rfl,U.trans W⟩
theorem nr (h:ci w aj ag A R n s t):ai x3 xU [Γ aj] w λv w'=>v=Δ n.k/\Ext w w':=by
 refine az func77 ?_;refine (Co h).mono ?_;rintro _ V _ ⟨⟨X,rfl,J⟩,U⟩;refine (Le J).mono ?_;rintro _ aa _ ⟨rfl,W⟩;exact⟨rfl,U.trans W⟩
theorem qk {i:Int} (h:ci w aj ag A R n s t):ai x3 Fb [Γ aj,Δ i] w λv w'=>v= .bool (decide (0<=i/\i<n.sizes.length))/\Ext w w':=by
 refine az func148 ?_;refine aR (λv V=>v= .bool (decide (0<=i/\i<n.sizes.length))/\Ext w V) (λ_ _ h=>h) λX J=>?_;rw[cr,ak];refine⟨λU=>?_,λU=>J _ _ ⟨by rw[decide_eq_false Ω],Ext.refl _⟩⟩;refine (sL h).mono ?_;rintro _ V _ ⟨rfl,W⟩;rw[aQ];refine J _ _ ⟨?_,W⟩;congr 1;exact decide_eq_decide.2 ⟨λh=>⟨U,h⟩,λh=>h.2⟩
theorem vO (h:ci w aj ag A R n s t):ai x3 Eg [Γ aj] w λv w'=>v=Δ s.zero/\Ext w w':=by
 obtain⟨X,Y,aa,ab,ac,ad,L,ae,J,af,U,ah,ak,al⟩:=h.1.parts;refine az func59 ?_;rw[cR et.u];simp only[Z7,aT];rw[aK bF.p 1 J rfl];refine (ku (i:=0) U rfl (show t.b3[0]? =σ s.zero by rw[h.2.1];exact K7 s)).mono ?_;rintro _ V _ ⟨rfl,W⟩;exact⟨rfl,W⟩
theorem ql (h:ci w aj ag A R n s t):ai x3 Ey [Γ aj] w λv w'=>v=Δ (s.funs.length:Int)/\Ext w w':=by
 obtain⟨W,X,Y,aa,ab,ac,L,ad,J,ae,af,ah,U,V⟩:=h.1.parts;refine az func78 ?_;rw[cR et.u];simp only[Z7,aT];rw[aK bF.p 3 J rfl,dt ed.u U];exact⟨by rw[V.1],Ext.refl _⟩
def ft (s:aB) (i:Nat):Bool:=match s.vars[i]? with
 |some x=>decide (x.gone≠0)
 |none=>false
theorem qm {i:Int} (h:ci w aj ag A R n s t):ai x3 En [Γ aj,Δ i] w λv w'=>v= .bool (decide (0<=i)&&ft s i.toNat)/\Ext w w':=by
 refine az func67 ?_;refine aR (λv V=>v= .bool (decide (0<=i)&&ft s i.toNat)/\Ext w V) (λ_ _ h=>h) λao U=>?_;intro aa W _ _;refine (qk (h.ext W)).mono ?_;rintro _ ap _ ⟨rfl,ab⟩;have J:=W.trans ab;have aq:=h.2.2.2.1.vars;rw[ak];refine⟨λad=>?_,λau=>U _ _ ⟨?_,J⟩⟩
 .obtain⟨av,aw,ax,ay,aA,aB,L,aC,X,aD,ae,ah,aE,aF⟩:=(h.ext J).1.parts;obtain⟨x,Y⟩:=aN (l:=s.vars) (i:=i.toNat) Ω;rw[aK bF.p 1 X rfl,aK bF.p 2 X rfl,dY (y:=i) (i:=i.toNat) Ω af.u ac.i Ψ ah.ls (oR Ω)];have al:t.b3[eY s i.toNat+0]? =σ x.gone:=by rw[h.2.1,oJ Y Ω];rfl
  refine (ku (i:=eY s i.toNat) ae rfl al).mono ?_;rintro _ aG _ ⟨rfl,am⟩;rw[bH];refine U _ _ ⟨?_,J.trans am⟩;rw[decide_eq_true ad.1,V6];unfold ft;rw[Y]
 .by_cases an:0<=i
  .unfold ft;rw[Y9 Ω,Bool.and_false]
  .rw[decide_eq_false an];rfl
def eF (n:aY) (i v:Int):Prop:=0<=i/\i<n.sizes.length/\0<=v/\v<n.sizes.getD i.toNat 0
instance (n:aY) (i v:Int):Decidable (eF n i v):=inferInstanceAs (Decidable (_/\_))
theorem eF.var {i v:Int} (W:eF n i v) (J:dA n.k n.sizes s):∃x,s.vars[i.toNat]? =σ x/\v.toNat<x.un.length/\x.un.length<=32/\n.sizes.getD i.toNat 0=x.un.length:=by
 obtain⟨h1,Y,aa,X⟩:=W;have ab:=J.vars;obtain⟨x,V⟩:=aN (l:=s.vars) (i:=i.toNat) Ω;obtain⟨z,U⟩:=aN (l:=n.sizes) (i:=i.toNat) Ω;have ac:=J.ej.2.2 z (x5 U);have ad:=(J.var i.toNat x z V U).1;rw[u9,U,S1] at X ⊢;exact⟨x,V,Ω,Ω,Ω⟩
theorem vP {i v:Int} (h:ci w aj ag A R n s t):ai x3 ET [Γ aj,Δ i,Δ v] w λr w'=>r=Δ (if eF n i v then ((eY s i.toNat+2+v.toNat:Nat):Int) else-1)/\Ext w w':=by
 have aF:=h.2.2.2.1.vars;refine az func125 ?_;refine aR (λr V=>r= .bool (decide (¬eF n i v))/\Ext w V) ?_ ?_
 .rintro _ V ⟨rfl,Y⟩;rw[ak];refine⟨λal=>⟨by rw[if_neg al],Y⟩,λW=>?_⟩;have W:=X9.1 W;obtain⟨x,am,aG,aH,_⟩:=W.var h.2.2.2.1;obtain⟨an,ao,ap,aq,au,av,L,aw,J,ad,ax,ae,ay,aA⟩:=(h.ext Y).1.parts;have ah:=qj am;have aI:=oS h.2.1 h.2.2.1;obtain⟨h1,aJ,aM,aN⟩:=id W;rw[aK bF.p 2 J rfl,dY (y:=i) (i:=i.toNat) Ω af.u ac.i Ψ ae.ls (oR Ω),aL,wrap_i64 Ω Ω,aL,wrap_i64 Ω Ω,if_pos W];refine⟨?_,Y⟩;congr 1;omega
 .intro aO ab;refine (qk h).mono ?_;rintro _ aa _ ⟨rfl,X⟩;rw[bg,bt];refine⟨λJ=>?_,λJ=>?_⟩
  .have J:¬(0<=i/\i<n.sizes.length):=λaB=>by rw[decide_eq_true aB] at J;cases J
   exact ab _ _ ⟨by rw[decide_eq_true];exact λU=>J ⟨U.1,U.2.1⟩,X⟩
  have J:0<=i/\i<n.sizes.length:=by simpa using J
  rw[aQ,ak];refine⟨λaC=>ab _ _ ⟨by rw[decide_eq_true];exact λU=>by have:=U.2.2.1;omega,X⟩,λaC=>?_⟩;obtain⟨an,ao,ap,aq,au,av,L,aw,aD,ad,ax,ae,ay,aA⟩:=(h.ext X).1.parts;rw[aK bF.p 0 aD rfl];refine (sE ad h.2.2.2.2).mono ?_;rintro _ aP _ ⟨aE,rfl⟩;rw[if_pos J.1,cr];refine ab _ _ ⟨?_,X.trans aE⟩;congr 1;refine decide_eq_decide.2 ⟨λh U=>?_,λh=>?_⟩
  .have:=U.2.2.2;omega
  .refine Int.not_lt.1 λah=>h ⟨J.1,J.2,Ω,ah⟩
def l8 (s:aB) (i v:Nat):Int:=match s.vars[i]? with
 |some x=>x.un.getD v 0
 |none=>0
theorem vQ {i v:Int} (h:ci w aj ag A R n s t):ai x3 Em [Γ aj,Δ i,Δ v] w λr w'=>r=(if eF n i v then .tuple #[Δ (l8 s i.toNat v.toNat),Δ 0] else .tuple #[Δ 0,Δ 1])/\Ext w w':=by
 refine az func66 ?_;rw[cR et.u];simp only[Z7,aT];refine (vP h).mono ?_;rintro _ V _ ⟨rfl,U⟩;by_cases J:eF n i v
 .rw[if_pos J,if_pos J];refine b2 Ω ?_;obtain⟨x,W,X,ae,_⟩:=J.var h.2.2.2.1;obtain⟨af,ah,al,am,an,ao,L,ap,Y,aq,ab,au,av,aw⟩:=(h.ext U).1.parts;rw[aK bF.p 1 Y rfl];have ac:t.b3[eY s i.toNat+2+v.toNat]? =σ (x.un.getD v.toNat 0):=by
   rw[h.2.1,Q0,oJ W Ω,show 2+v.toNat=v.toNat+1+1 by omega];show x.un[v.toNat]? =_;rw[u9,x6 X];rfl
  refine (ku (i:=eY s i.toNat+2+v.toNat) ab rfl ac).mono ?_;rintro _ aa _ ⟨rfl,ad⟩;refine⟨?_,U.trans ad⟩;unfold l8;rw[W]
 .rw[if_neg J,if_neg J,aQ,ak];exact⟨λ_=>⟨rfl,U⟩,λh=>Ω⟩
def dR (s:aB) (j:Nat):Bool:=match s.funs[j]? with
 |some f=>decide (f.live≠0)
 |none=>false
theorem ma {j:Int} (h:ci w aj ag A R n s t):ai x3 Eo [Γ aj,Δ j] w λv w'=>v= .bool (decide (0<=j)&&dR s j.toNat)/\Ext w w':=by
 refine az func68 ?_;refine aR (λv V=>v= .bool (decide (0<=j)&&dR s j.toNat)/\Ext w V) (λ_ _ h=>h) λao J=>?_;intro aa U _ _;rw[cr,ak];refine⟨λW=>?_,λW=>J _ _ ⟨by rw[decide_eq_false W];rfl,U⟩⟩;refine (ql (h.ext U)).mono ?_;rintro _ ap _ ⟨rfl,af⟩;have X:=U.trans af;rw[aQ,ak];refine⟨λaq=>?_,λau=>J _ _ ⟨?_,X⟩⟩
 .obtain⟨av,aw,ax,ay,aA,aB,L,aC,ac,aD,ah,aE,ad,Y⟩:=(h.ext X).1.parts;obtain⟨f,ab⟩:=aN (l:=s.funs) (i:=j.toNat) Ω;obtain⟨y,ae⟩:∃y,L[j.toNat]? =σ y:=⟨_,x6 (by rw[Y.1];omega)⟩;obtain⟨_,_,al⟩:=Y.2 j.toNat y f ae ab;rw[aK bF.p 1 ac rfl,aK bF.p 3 ac rfl,cE (i:=j.toNat) Ω ed.u cL.i ad (by rw[Y.1];omega),aM cL.p rfl,aS (v:=Δ (y.at_:Int)) Ψ (ad.range ae 2 _ rfl)];have am:t.b3[ei s j.toNat+0]? =σ f.live:=by rw[h.2.1,vq ab Ω];rfl
  refine (ku (i:=ei s j.toNat) ah (by rw[al]) am).mono ?_;rintro _ aF _ ⟨rfl,an⟩;rw[bH];refine J _ _ ⟨?_,X.trans an⟩;rw[decide_eq_true W,V6];unfold dR;rw[ab]
 .unfold dR;rw[Y9 Ω,Bool.and_false]
end
def Cp (s:aB) (n:aY) (i:Int) (b m:Nat):Prop:=lW b m/\(¬(0<=i/\i<n.sizes.length)->b=0/\m=0)/\ ∀x,0<=i->s.vars[i.toNat]? =σ x->m=x.un.length/\ ∀j:Nat,b.testBit j=(decide (j<x.un.length)&& !dropped x.mask (j:Int))
section
variable {w:x2} {aj ag:Nat} {A R:ah} {n:aY} {s:aB} {t:aC}
theorem oT {i:Int} (h:ci w aj ag A R n s t):ai x3 Ek [Γ aj,Δ i] w λv w'=>(∃b m,v=ja b m/\Cp s n i b m)/\Ext w w':=by
 have bP:=h.2.2.2.1.vars;refine az func64 ?_;refine bp cc.i λW V bQ aI au=>?_;have au:ad V W cc [.int .u64 0,Δ 0]:=au;refine (qk (h.ext aI)).mono ?_;rintro _ aa _ ⟨rfl,aJ⟩;have av:=au.ext aJ;have aw:=aI.trans aJ;rw[bg,bt];refine⟨λJ=>?_,λJ=>?_⟩
 .have J:¬(0<=i/\i<n.sizes.length):=λa8=>by rw[decide_eq_true a8] at J;cases J
  rw[c8 (cs:=#[.int .u64 0,Δ 0]) Ψ];refine bK (vs:=[.int .u64 0,Δ 0]) cc.i rfl rfl (by intro u hu;simp at hu;rcases hu with rfl|rfl<;>rfl) av λbR ba bS bb=>?_;rw[eZ cc.p cc.i rfl bb.range];refine⟨⟨0,0,rfl,⟨Ω,Ξ⟩,λ_=>⟨rfl,rfl⟩,λx aM bc=>?_⟩,aw.put ba Ω⟩;have:=(x4.1 bc).1;exact absurd ⟨aM,Ω⟩ J
 have J:0<=i/\i<n.sizes.length:=by simpa using J
 obtain⟨x,ae⟩:=aN (l:=s.vars) (i:=i.toNat) Ω;obtain⟨z,ax⟩:=aN (l:=n.sizes) (i:=i.toNat) Ω;have bd:=h.2.2.2.1.ej.2.2 z (x5 ax);obtain⟨bT,_,bU,bV⟩:=h.2.2.2.1.var i.toNat x z ae ax;obtain⟨be,bf,bh,bi,bj,bl,L,bm,ah,aO,_⟩:=(h.ext aw).1.parts;rw[aK bF.p 0 ah rfl];refine (sE aO h.2.2.2.2).mono ?_;rintro _ bW _ ⟨ay,rfl⟩;rw[if_pos J.1,u9,ax,S1];refine HF.mono ?_;rintro _ bX _ ⟨aA,rfl⟩;rw[if_pos bd];obtain⟨m,rfl⟩:∃m:Nat,z=m:=⟨z.toNat,Ω⟩;rw[bL,bM,j0];have aP:=(aw.trans ay).trans aA;refine bp cc.i λU bY bZ aQ bo=>?_;refine bK (vs:=[.int .u64 ((2 ^ m-1:Nat):Int),Δ (m:Int)]) cc.i rfl rfl (by intro u hu;simp at hu;rcases hu with rfl|rfl<;>rfl) bo λaR aS b1 bq=>?_;have z5:=aP.size;have aT:Ext w aR:=(aP.trans aQ).put aS Ω;have b4:=(((av.ext ay).ext aA)).lt;have bu:ad aR W cc [.int .u64 0,Δ 0]:=(((av.ext ay).ext aA).ext aQ).ab aS λhe=>by have he:W=U:=he;omega
 intro b5 aB _ _;have aU:=aT.trans aB;obtain⟨be,bf,bh,bi,bj,bl,L,bm,ah,aO,bw,bx,_⟩:=(h.ext aU).1.parts;have b6:=qj ae;have b7:=oS h.2.1 h.2.2.1;rw[aK bF.p 1 ah rfl,aK bF.p 2 ah rfl,dY (y:=i) (i:=i.toNat) Ω af.u ac.i Ψ bx.ls (oR Ω),aL,wrap_i64 Ω Ω];have bz:t.b3[eY s i.toNat+1]? =σ x.mask:=by rw[h.2.1,oJ ae Ω];rfl
 refine (ku (i:=eY s i.toNat+1) bw Ω bz).mono ?_;rintro _ bA _ ⟨rfl,aC⟩;have aV:=(bq.ext aB).ext aC;have bB:=(bu.ext aB).ext aC;obtain⟨mk,aW⟩:∃mk:Nat,x.mask=mk:=⟨x.mask.toNat,Ω⟩;rw[br cc.p cc.i rfl (show bA.rangeAt U 0 [.int .u64 ((2 ^ m-1:Nat):Int),Δ (m:Int)] from aV.range)];refine (zr (b:=2 ^ m-1) (n:=m)).mono ?_;rintro _ b8 _ ⟨rfl,aD⟩;have bC:=aU.trans aC;have bD:W≠U:=Ω
 have b9:=aT.size;have ca:w.heap.size<=U:=Ω
 have cb:w.heap.size<=W:=Ω
 refine b0.range m (λq X=>Ext w X/\ad X W cc [.int .u64 0,Δ 0]/\ ∃b:Nat,ad X U cc [.int .u64 (b:Int),Δ (m:Int)]/\lW b m/\ ∀j:Nat,b.testBit j=(decide (j<m)&& !(decide (j<q)&&mk.testBit j))) Ω
  ⟨bC.trans aD,bB.ext aD,_,aV.ext aD,⟨Ω,by have:=Nat.two_pow_pos m;omega⟩,λj=>by rw[zp];simp⟩ ?_ ?_
 .rintro q X bE cd ⟨al,am,b,Y,an,ao⟩ bG;refine bk Ω ?_;refine dv (λap=>Ext w ap/\ad ap W cc [.int .u64 0,Δ 0]/\ ∃b:Nat,ad ap U cc [.int .u64 (b:Int),Δ (m:Int)]/\lW b m/\ ∀j:Nat,b.testBit j=(decide (j<m)&& !(decide (j<q+1)&&mk.testBit j))) ?_ ?_
  .rintro ap bH;rw[aL];exact bG _ bH
  intro ce aX;have bI:mk / 2 ^ q<2 ^ 62:=Nat.lt_of_le_of_lt (Nat.div_le_self _ _) Ω;rw[aW,Ay Ω,show (1:Int)=((1:Nat):Int) from rfl,L3 bI Ω,bn,ak];have aY:(((mk / 2 ^ q &&& 1:Nat):Int)=((1:Nat):Int))↔mk.testBit q=true:=by rw[<-Cm];omega
  refine⟨λaE=>?_,λaF=>?_⟩
  .have aE:=aY.1 aE;rw[br cc.p cc.i rfl (show X.rangeAt U 0 [.int .u64 (b:Int),Δ (m:Int)] from Y.range)];refine (HH (v:=(q:Int)) an).mono ?_;rintro _ cg _ ⟨rfl,aG⟩;rw[if_pos ⟨Ω,Ω⟩,j0];refine bK (vs:=[.int .u64 ((i7 b (2 ^ q):Nat):Int),Δ (m:Int)]) cc.i rfl rfl (by intro u hu;simp at hu;rcases hu with rfl|rfl<;>rfl) (Y.ext aG) λch aZ cj bJ=>?_;have a1:∀j:Nat,(i7 b (2 ^ q)).testBit j=(decide (j<m)&& !(decide (j<q+1)&&mk.testBit j)):=λj=>by
    rw[zh,ao,Nat.testBit_two_pow];by_cases a2:j<m
    .by_cases aq:j=q
     .subst aq;simp[aE]
     .have aH:decide (j<q+1)=decide (j<q):=decide_eq_decide.2 ⟨λh=>Ω,λh=>Ω⟩;rw[aH,decide_eq_true a2,decide_eq_true (show j<64 by omega),decide_eq_false (show ¬q=j from λh=>aq h.symm)];simp
    .simp[a2]
   refine aX _ ⟨(al.trans aG).then aZ λr ck he=>by have he:r=U:=he;omega,(am.ext aG).ab aZ λhe=>bD he,_,bJ,⟨Ω,Hx λj a6=>by rw[a1,decide_eq_false Ω];rfl⟩,a1⟩
  .have aF:mk.testBit q=false:=by simpa using λh=>aF (aY.2 h)
   refine aX _ ⟨al,am,b,Y,an,λj=>?_⟩;rw[ao];by_cases aq:j=q
   .subst aq;simp[aF]
   .have aH:decide (j<q+1)=decide (j<q):=decide_eq_decide.2 ⟨λh=>Ω,λh=>Ω⟩;rw[aH]
 .rintro X bE ⟨al,am,b,Y,an,ao⟩;refine b2 Ω ?_;rw[br cc.p cc.i rfl (show X.rangeAt U 0 [.int .u64 (b:Int),Δ (m:Int)] from Y.range)];refine bK (vs:=[.int .u64 (b:Int),Δ (m:Int)]) cc.i rfl rfl (by intro u hu;simp at hu;rcases hu with rfl|rfl<;>rfl) am λcl bN cm bO=>?_;rw[eZ cc.p cc.i rfl bO.range];refine⟨⟨b,m,rfl,an,λh=>absurd J h,λy aM a7=>?_⟩,al.put bN Ω⟩;rw[ae] at a7;cases a7;refine⟨Ω,λj=>?_⟩;rw[ao,aW,L5,show x.un.length=m by omega];by_cases a6:j<m<;>simp[a6]
theorem qn {f:dE} (V:dA k sizes s) (X:f∈s.funs):bZ f.szs/\f.cs.length=(aJ f.szs).toNat/\aJ f.szs<=4096:=by
 obtain⟨U,J,_⟩:=V.funs f X;rw[J];refine⟨⟨?_,ld V.ej.2.2 λv W=>⟨(U.scope.1 v W).1,U.vars v W⟩⟩,U.len,U.small⟩;have:=U.scope.2;simp[bI];exact this
def en (s:aB) (j:Nat) (J:Λ):Option Nat:=match s.funs[j]? with
 |some f=>if f.live≠0 then (cB f.szs J 0).map λm=>ei s j+1+m.toNat else ν
 |none=>ν
def ip (s:aB) (j:Nat) (J:Λ):Int:=match s.funs[j]? with
 |some f=>ch f.szs f.cs J
 |none=>0
theorem Cq {ab:Λ} (h:ci w aj ag A R n s t) (ao:aH .i64 w aF ab):ai x3 yc [Γ aj,Δ (j:Int),aF] w λv w'=>v=Δ (match en s j ab with|some p=>(p:Int)|none=>-1)/\Ext w w':=by
 refine az func130 ?_;refine (ma h).mono ?_;rintro _ V _ ⟨rfl,ac⟩;rw[decide_eq_true Ω,V6,j0,bg,bt];refine⟨λJ=>⟨?_,ac⟩,λJ=>?_⟩
 .have J:dR s j=false:=by simpa using J
  have:en s j ab=ν:=by
   unfold en;unfold dR at J;cases U:s.funs[j]? with
   |none=>rfl
   |some f=>
    rw[U] at J;have J:f.live=0:=by simpa using J
    simp[J]
  rw[this]
 have J:dR s j=true:=by simpa using J
 obtain⟨f,U,ap⟩:∃f,s.funs[j]? =σ f/\f.live≠0:=by
  unfold dR at J;cases U:s.funs[j]? with
  |none=>rw[U] at J;cases J
  |some f=>rw[U] at J;exact⟨f,rfl,by simpa using J⟩
 obtain⟨al,aI,aJ⟩:=qn h.2.2.2.1 (x5 U);obtain⟨aq,au,av,aw,ax,am,L,ay,ad,aA,aB,aC,X,Y⟩:=(h.ext ac).1.parts;obtain⟨y,W⟩:∃y,L[j]? =σ y:=⟨_,x6 (by rw[Y.1];exact (x4.1 U).1)⟩;have ae:=(x4.1 W).1;obtain⟨_,aD,an⟩:=Y.2 j y f W U;have aE:V.rangeAt am (j*3+1) [y.szv]:=λq v af=>by
  match q,af with
  |0,af=>cases af;exact X.range W 1 _ rfl
 rw[aK bF.p 3 ad rfl,cE rfl ed.u cL.i X ae,aM cL.p rfl,br (cs:=[y.szv]) bx.p bx.i rfl aE];refine (yK aD.ls (ao.ext ac) al).mono ?_;rintro _ aa _ ⟨rfl,aG⟩;have ah:=ac.trans aG;unfold kh en;rw[U];simp only[if_pos ap];cases hi:cB f.szs ab 0 with
 |none=>
  simp only[Option.map_none];rw[bL,bM,bH,ak];exact⟨λ_=>⟨trivial,ah⟩,λh=>absurd (show (3:Int)≠0 by decide) h⟩
 |some m=>
  simp only[Y4];rw[bL,bM,bH,ak];refine⟨λh=>absurd rfl h,λ_=>?_⟩;have aN:=mL al.2 hi;have aO:=vN U;have aP:=oS h.2.1 h.2.2.1;obtain⟨aq,au,av,aw,ax,am,L,ay,ad,aA,aB,aC,X,Y⟩:=(h.ext ah).1.parts;obtain⟨y,W⟩:∃y,L[j]? =σ y:=⟨_,x6 (by rw[Y.1];exact (x4.1 U).1)⟩;have ae:=(x4.1 W).1;obtain⟨_,_,an⟩:=Y.2 j y f W U;rw[aK bF.p 3 ad rfl,cE rfl ed.u cL.i X ae,aM cL.p rfl,aS (v:=Δ (y.at_:Int)) Ψ (X.range W 2 _ rfl),an,aL,wrap_i64 Ω Ω,aL,wrap_i64 Ω Ω];refine⟨?_,ah⟩;congr 1;omega
theorem qo {U:Λ} {p:Nat} (V:dA k sizes s) (h:en s j U=σ p):s.cells[p]? =σ (ip s j U)/\ ∃f,s.funs[j]? =σ f/\f.live≠0/\ ∃m:Nat,cB f.szs U 0=σ (m:Int)/\m<f.cs.length/\p=ei s j+(m+1):=by
 unfold en at h;cases J:s.funs[j]? with
 |none=>rw[J] at h;cases h
 |some f=>
  rw[J] at h;simp only at h;split at h
  .rename_i W;obtain⟨m,hm,rfl⟩:=X5.1 h;obtain⟨X,Y,aa⟩:=qn V (x5 J);have ab:=mL X.2 hm;obtain⟨q,rfl⟩:∃q:Nat,m=q:=⟨m.toNat,Ω⟩;refine⟨?_,f,rfl,W,q,hm,Ω,Ω⟩;rw[show ei s j+1+(q:Int).toNat=ei s j+(q+1) by omega,vq J Ω];unfold ip ch;rw[J];simp only[hm];show f.cs[q]? =_;rw[j0,u9,x6 Ω];rfl
  .cases h
theorem vR {J:Λ} (h:ci w aj ag A R n s t) (W:aH .i64 w aF J):ai x3 Er [Γ aj,Δ (j:Int),aF] w λv w'=>v=(if (en s j J).isSome then .tuple #[Δ (ip s j J),Δ 0] else .tuple #[Δ 0,Δ 1])/\Ext w w':=by
 refine az func70 ?_;rw[cR et.u];simp only[Z7,aT];refine (Cq h W).mono ?_;rintro _ V _ ⟨rfl,U⟩;cases X:en s j J with
 |none=>
  simp only;rw[aQ,ak];exact⟨λ_=>⟨rfl,U⟩,λh=>Ω⟩
 |some p=>
  simp only;refine b2 Ω ?_;obtain⟨ad,ae,af,ah,al,am,L,an,Y,ao,ab,ap,aq,au⟩:=(h.ext U).1.parts;rw[aK bF.p 1 Y rfl];refine (ku (i:=p) ab rfl (by rw[h.2.1];exact (qo h.2.2.2.1 X).1)).mono ?_;rintro _ aa _ ⟨rfl,ac⟩;exact⟨rfl,U.trans ac⟩
end
theorem ek.parts {J:Nat} {U V aa:y0} {A R:ah} {n:aY} {s:aB} {t:aC} (h:ek w aj ag J U V aa A R n s t):∃W X L Y,ad w aj bF [Γ J,Γ ag,U,V,aa]/\fE w J n/\cX w ag Y t/\ao .i64 ac w W U (gZ s)/\bb jK 3 cL w X V L/\jk R w L s:=by
 obtain⟨_,W,X,ge,L,E,Y,w0,ab,⟨ae,af,an⟩,⟨ai,ap,aq,au⟩,ak,⟨al,am⟩,av,aw⟩:=h;exact⟨W,X,L,Y,ab,ae.ext af,ai,ak,al,am⟩
theorem Cr {a b:Int} (J:0<=a/\a<=k) (U:0<=b/\b<=k) (hk:1<=k/\k<=2147483648):ai x3 tQ [Δ a,Δ b,Δ k] w λv w'=>v= .tuple #[Δ (min (a+b) k),Δ 0]/\Ext w w':=by
 refine zX.mono ?_;rintro _ V _ ⟨rfl,W⟩;refine⟨?_,W⟩;unfold pI;rw[if_pos ⟨⟨hk,J.1,J.2⟩,hk,U.1,U.2⟩]
theorem L6 {s:aB} {J:Λ} {p:Nat} (U:dA k sizes s) (h:en s j J=σ p):0<=ip s j J/\ip s j J<=k:=by
 obtain⟨_,f,V,_,m,hm,W,_⟩:=qo U h;obtain⟨X,_,_⟩:=U.funs f (x5 V);unfold ip ch;rw[V];simp only[hm];rw[j0,u9,x6 W,S1];exact X.iJ _ (S3 W)
theorem Cs {A R:ah} {n:aY} {s:aB} {t:aC} {dk:y0} (h:ci w aj ag A R n s t) (aE:aH .i64 w dk a):ai x3 Ee [Γ aj,dk] w λv w'=>((qb s a->v= .tuple #[Δ (oK n.k s a),Δ 0])/\(¬qb s a->v= .tuple #[Δ 0,Δ 3]))/\Ext w w':=by
 have am:=h.2.2.2.1;have de:=am.vars;have hk:=am.kv;refine az func38 ?_;rw[cR et.u];simp only[Z7,aT];rw[aU af.u aE];refine (sL h).mono ?_;rintro _ V _ ⟨rfl,a7⟩;rw[bH,ak];refine⟨λdf=>⟨⟨λay=>absurd ay.1 Ω,λ_=>by trivial⟩,a7⟩,λdg=>?_⟩;have cb:a.length=s.vars.length:=Ω
 refine (vO (h.ext a7)).mono ?_;rintro _ aa _ ⟨rfl,cc⟩;have bB:=a7.trans cc;rw[aU af.u (aE.ext bB)];obtain⟨W,aO⟩:∃W,W=s.vars.zip a:=⟨_,rfl⟩;have dh:W.length=a.length:=by rw[aO,List.length_zip];omega
 refine nI.range a.length (λi t4 t5 ad aP an=>Ext w an/\ ∃J:Int,ad=Δ J/\J=(W.take i).foldl (nj n.k) s.zero/\(0<=J/\J<=n.k)/\aP= .bool ((W.take i).all jj)/\ ∀p<i,∀x v,s.vars[p]? =σ x->a[p]? =σ v->x.gone≠0\/(0<=v/\v<x.un.length)) aE.le
  ⟨bB,s.zero,rfl,rfl,am.zero,rfl,λp ae=>Ω⟩ ?_ ?_
 .rintro i t4 t5 _ _ an cd hi ⟨Y,J,rfl,aS,aV,rfl,a8⟩ ce;obtain⟨x,ap⟩:=aN (l:=s.vars) (i:=i) Ω;obtain⟨v,aq⟩:=aN (l:=a) hi;obtain⟨z,ba⟩:=aN (l:=n.sizes) (i:=i) Ω;have di:=am.ej.2.2 z (x5 ba);obtain⟨dj,cg,_⟩:=am.var i x z ap ba;have cj:W[i]? =σ (x,v):=by rw[aO,List.getElem?_zip_eq_some];exact⟨ap,aq⟩
  have bC:W.take (i+1)=W.take i++[(x,v)]:=by rw[r9,cj];rfl
  have aF:(W.take (i+1)).foldl (nj n.k) s.zero=nj n.k J (x,v):=by rw[bC,List.foldl_append,<-aS];rfl
  have bb:(W.take (i+1)).all jj=((W.take i).all jj&&jj (x,v)):=by rw[bC,List.all_append];simp
  have bD:(x.gone≠0\/(0<=v/\v<x.un.length))-> ∀p<i+1,∀x v,s.vars[p]? =σ x->a[p]? =σ v->x.gone≠0\/(0<=v/\v<x.un.length):=λaw p ae y u aA hu=>by
   by_cases ck:p=i
   .subst ck;rw[ap] at aA;rw[aq] at hu;cases aA;cases hu;exact aw
   .exact a8 p Ω y u aA hu
  refine bk Ω ?_;refine uq (λt4 t5 ad aP an=>Ext w an/\ ∃J:Int,ad=Δ J/\J=(W.take (i+1)).foldl (nj n.k) s.zero/\(0<=J/\J<=n.k)/\aP= .bool ((W.take (i+1)).all jj)/\ ∀p<i+1,∀x v,s.vars[p]? =σ x->a[p]? =σ v->x.gone≠0\/(0<=v/\v<x.un.length)) ?_ ?_
  .rintro t4 t5 ad aP dl bc;rw[aL];exact ce _ _ _ _ _ bc
  intro bE aG;rw[bf af.u ac.i Ψ (aE.ext Y) aq];refine (qm (i:=(i:Int)) (h.ext Y)).mono ?_;rintro _ dm _ ⟨rfl,bG⟩;have cl:ft s i=decide (x.gone≠0):=by unfold ft;rw[ap]
  rw[decide_eq_true Ω,V6,j0,cl,ak];refine⟨λbd=>aG _ _ _ _ _ ⟨Y.trans bG,J,rfl,?_,aV,?_,bD (.inl bd)⟩,λbe=>?_⟩
  .rw[aF];unfold nj;rw[if_pos bd]
  .rw[bb];unfold jj;rw[decide_eq_true bd,Bool.true_or,Bool.and_true]
  have bI:=Y.trans bG;refine (vQ (i:=(i:Int)) (v:=v) (h.ext bI)).mono ?_;rintro _ dn _ ⟨rfl,cm⟩;have aW:=bI.trans cm;have bJ:n.sizes.getD (i:Int).toNat 0=z:=by rw[j0,u9,ba];rfl
  by_cases aX:eF n (i:Int) v
  .have bN:=id aX;unfold eF at bN;rw[bJ] at bN;rw[if_pos aX,bL,bM,bH,ak];refine⟨λh=>absurd rfl h,λ_=>?_⟩;have cn:l8 s (i:Int).toNat v.toNat=x.un.getD v.toNat 0:=by unfold l8;rw[j0,ap]
   have cp:0<=x.un.getD v.toNat 0/\x.un.getD v.toNat 0<=n.k:=by
    rw[u9,x6 (show v.toNat<x.un.length by omega),S1];exact cg _ (S3 _)
   rw[cn];refine aR (λcq bO=>Ext w bO/\cq= .bool ((W.take (i+1)).all jj)) ?_ ?_
   .rintro _ bO ⟨bP,rfl⟩;refine (nr (h.ext bP)).mono ?_;rintro _ dp _ ⟨rfl,cr⟩;refine (Cr aV cp hk).mono ?_;rintro _ dq _ ⟨rfl,ct⟩;rw[bL,bM];refine aG _ _ _ _ _ ⟨(bP.trans cr).trans ct,_,rfl,?_,⟨Ω,Ω⟩,rfl,bD (.inr ⟨Ω,Ω⟩)⟩;rw[aF];unfold nj;rw[if_neg be]
   .intro dr bQ;rw[bt];have cu:jj (x,v)= !dropped x.mask v:=by unfold jj;rw[decide_eq_false be,Bool.false_or]
    refine⟨λcw=>?_,λal=>bQ _ _ ⟨aW,by rw[bb,al];rfl⟩⟩;refine (oT (i:=(i:Int)) (h.ext aW)).mono ?_;rintro _ ds _ ⟨⟨b,m,rfl,cz,_,cA⟩,cB⟩;refine (Cn cz).mono ?_;rintro _ du _ ⟨rfl,cC⟩;refine bQ _ _ ⟨(aW.trans cB).trans cC,?_⟩;obtain⟨hm,cD⟩:=cA x Ω (by rw[j0];exact ap);rw[bb,cw,cu,V6,decide_eq_true (show 0<=v/\v<(m:Int) by omega),V6,cD,decide_eq_true Ω,V6];congr 2
  .rw[if_neg aX,bL,bM,bH,ak];refine⟨λ_=>⟨⟨λay=>?_,λ_=>by trivial⟩,aW⟩,λh=>absurd (show (1:Int)≠0 by decide) h⟩;rcases ay.2 i x v ap aq with bh|bh
   .exact absurd bh be
   .exact absurd ⟨Ω,Ω,bh.1,by rw[bJ];omega⟩ aX
 rintro t4 t5 _ _ an cd ⟨Y,J,rfl,aS,aV,rfl,a8⟩;have ay:qb s a:=⟨cb,λi x v bi aq=>a8 i (x4.1 aq).1 x v bi aq⟩;rw[n0 Ω] at aS;rw[n0 Ω];refine b2 Ω ?_;rw[bg,bt];refine⟨λau=>?_,λau=>?_⟩
 .have au:W.all jj=false:=by simpa using au
  refine (nr (h.ext Y)).mono ?_;rintro _ dv _ ⟨rfl,cF⟩;refine⟨⟨λ_=>?_,λbj=>absurd ay bj⟩,Y.trans cF⟩;unfold oK;rw[<-aO,au];rfl
 have au:W.all jj=true:=by simpa using au
 have cG:oK n.k s a=s.funs.foldl (lh n.k a) J:=by
  unfold oK;rw[<-aO,au,if_pos rfl,<-aS]
 obtain⟨⟨dw,dx,dy,dz,cH⟩,dA⟩:=id h;have bl:∀ {w':x2},Ext w w'->ci w' aj ag A R n s t:=λbi=>h.ext bi;obtain⟨dC,dD,L,dE,cI,dF,dG,dH,bm,bR⟩:=(cH.ext Y).parts;rw[aK bF.p 3 cI rfl,dt ed.u bm];have dI:=bR.1;refine bA.range L.length (λj ad aI=>Ext an aI/\ ∃X:Int,ad=Δ X/\X=(s.funs.take j).foldl (lh n.k a) J/\0<=X/\X<=n.k) bm.le
  ⟨Ext.refl _,J,rfl,rfl,aV⟩ ?_ ?_
 rotate_left
 .rintro _ aI cJ ⟨ax,X,rfl,aZ,_⟩;rw[n0 Ω] at aZ;rw[aQ,ak];refine⟨λh=>Ω,λ_=>⟨⟨λ_=>by rw[cG,aZ],λbj=>absurd ay bj⟩,Y.trans ax⟩⟩
 rintro j _ aI cJ bS ⟨ax,X,rfl,aZ,bT⟩ cK;obtain⟨y,aA⟩:=aN (l:=L) bS;obtain⟨f,al⟩:=aN (l:=s.funs) (i:=j) Ω;have cM:jk R aI L s:=bR.ab (ax.ab λ_=>False) λ_ _ _ h=>h;obtain⟨a1,bn,dJ⟩:=cM.2 j y f aA al;have a1:=a1.ls;have bn:=bn.ls;obtain⟨bo,dK,dL⟩:=am.funs f (x5 al);have dM:f.sc.length<=6:=bo.scope.2;have aF:(s.funs.take (j+1)).foldl (lh n.k a) J=lh n.k a X f:=by
  rw[r9,al,j6,List.foldl_append,<-aZ];rfl
 have cN:=Y.trans ax;have bU:=bm.ext ax;refine bk Ω ?_;refine aR (λad bV=>Ext an bV/\ ∃X:Int,ad=Δ X/\X=(s.funs.take (j+1)).foldl (lh n.k a) J/\0<=X/\X<=n.k) ?_ ?_
 .rintro ad bV bc;rw[aL];exact cK _ _ bc
 intro bE aG;rw[cE rfl ed.u cL.i bU bS,br cL.p cL.i rfl (bU.range aA)];refine bp cL.i λdN dO dP cO cP=>?_;refine bK (vs:=jK y) cL.i rfl rfl (λu hu=>?_) cP λcQ cS dQ cT=>?_
 .simp[jK] at hu;rcases hu with rfl|rfl|rfl
  .exact a1.cells.2
  .exact bn.cells.2
  .rfl
 have bW:Ext aI cQ:=cO.put cS Ω;have bX:=cN.trans bW;refine (ma (j:=(j:Int)) (bl bX)).mono ?_;rintro _ cU _ ⟨rfl,bq⟩;have bY:=bX.trans bq;have bu:=bW.trans bq;have cV:dR s j=decide (f.live≠0):=by unfold dR;rw[al]
 rw[decide_eq_true Ω,V6,j0,cV,ak];refine⟨λbZ=>?_,λcW=>aG _ _ ⟨ax.trans bu,X,rfl,by rw[aF];unfold lh;rw[if_neg cW],bT⟩⟩;have b3:=cT.ext bq;have bw:=a1.ext bu;rw[av cL.p 0 b3 rfl,aU af.u bw];refine jx (k:=.i64) af.u ac.i Ω Ω λaJ cX dS bx cY=>?_;have cZ:ao .i64 ac cX aJ (.slice (σ ⟨aJ,0,ν⟩) f.sc.length f.sc.length) (o8 f.sc.length 0):=ao.of (b1.full (k:=1) (n:=f.sc.length) cY Ξ (by simp[maxLen];omega));rw[av cL.p 0 (b3.ext bx) rfl,aU af.u (bw.ext bx)];have dT:(lg a f.sc).length=f.sc.length:=by unfold lg;rw[u5]
 refine b0.range f.sc.length (λq a2=>Ext cU a2/\ao .i64 ac a2 aJ (.slice (σ ⟨aJ,0,ν⟩) f.sc.length f.sc.length) ((lg a f.sc).take q++(o8 f.sc.length (0:Int)).drop q)) Ω
  ⟨bx,by simpa using cZ⟩ ?_ ?_
 .rintro q a2 c1 b4 ⟨aD,aM⟩ c2;obtain⟨u,hu⟩:=aN (l:=f.sc) b4;have dU:=bo.vars u (x5 hu);have dV:=bo.scope.1 u (x5 hu);have c3:a[u.toNat]? =σ (a.getD u.toNat 0):=by rw[u9,x6 Ω];rfl
  have c4:(lg a f.sc)[q]? =σ (a.getD u.toNat 0):=by unfold lg;rw[u4,hu];rfl
  refine bk Ω ?_;rw[bf af.u ac.i Ψ (bw.ext aD) hu,dY (y:=u) (i:=u.toNat) Ω af.u ac.i Ψ (aE.ext (bY.trans aD)) c3,hI rfl af.u ac.i aM (by rw[r8,o5,Q2,List.length_replicate];omega)];refine hJ ac.i aM (by rw[r8,o5,Q2,List.length_replicate];omega) λdW c5 dX b5=>?_;rw[aL];refine c2 _ ⟨aD.then c5 λr dZ he=>by have he:r=aJ:=he;omega,?_⟩;rw[sK (by rw[List.length_replicate];exact b4) c4] at b5;exact b5
 rintro a2 c1 ⟨aD,aM⟩;rw[List.drop_of_length_le Ξ,X6,n0 Ω] at aM;refine b2 Ω ?_;have b6:=bY.trans aD;refine (vR (j:=j) (bl b6) aM.ls).mono ?_;rintro _ bz _ ⟨rfl,b7⟩;have c6:lh n.k a X f=min (X+ip s j (lg a f.sc)) n.k:=by
  unfold lh ip;rw[if_pos bZ,al]
 have b8:∀c e:Int,(0<=c/\c<=n.k)->c=ip s j (lg a f.sc)->(U x3 (Y0 (.tuple #[Δ c,Δ e]) 0) bz λc7=>
   U x3 (Y0 (.tuple #[Δ c,Δ e]) 1) bz λea=>
   ai x3 xU [Γ aj] bz λc8 b9=>
   ai x3 tQ [Δ X,c7,c8] b9 λca a6=>
   U x3 (Y0 ca 0) a6 λc9=>
   U x3 (Y0 ca 1) a6 λec=>
   bE c9 a6):=λc e da db=>by
  rw[bL,bM];refine (nr (bl (b6.trans b7))).mono ?_;rintro _ b9 _ ⟨rfl,dc⟩;refine (Cr bT da hk).mono ?_;rintro _ a6 _ ⟨rfl,dd⟩;rw[bL,bM];refine aG _ _ ⟨((((ax.trans bu).trans aD).trans b7).trans dc).trans dd,_,rfl,by rw[aF,c6,db],Ω,Ω⟩
 cases ae:en s j (lg a f.sc) with
 |some p=>exact b8 _ _ (L6 am ae) rfl
 |none=>
  refine b8 0 1 ⟨Ω,Ω⟩ ?_;unfold en at ae;rw[al] at ae;simp only[if_pos bZ] at ae;have ae:=Option.map_eq_none_iff.1 ae;unfold ip ch;rw[al];simp only[ae]
def Room (t:aC):Prop:=t.marks=[]\/t.olds.length<100000000
def gJ (s:aB) (i v:Nat):aB:=match s.vars[i]? with
 |some x=>{s with vars:=s.vars.set i {x with mask:=((x.mask.toNat ||| 2 ^ v:Nat):Int)}}
 |none=>s
def iL (s:aB) (j:Nat):aB:=match s.funs[j]? with
 |some f=>{s with funs:=s.funs.set j {f with live:=0}}
 |none=>s
theorem dA.vS {s:aB} {i:Nat} {x y:eX} (h:dA k sizes s) (U:s.vars[i]? =σ x) (X:y.un.length=x.un.length) (Y:∀c∈y.un,0<=c/\c<=k) (hm:0<=y.mask/\y.mask<4294967296):dA k sizes {s with vars:=s.vars.set i y}:=
 ⟨h.kv,h.ej,h.zero,by show (s.vars.set i y).length=_;rw[W0];exact h.vars,λp z q J V=>by
  have J:(s.vars.set i y)[p]? =σ z:=J;rw[W3] at J;by_cases W:i=p
  .subst W;rw[if_pos rfl,if_pos (x4.1 U).1] at J;cases J;exact⟨X.trans (h.var i x q U V).1,Y,hm⟩
  .rw[if_neg W] at J;exact h.var p z q J V,h.funs⟩
theorem dA.Ct {s:aB} {f g:dE} (h:dA k sizes s) (U:s.funs[j]? =σ f) (h1:g.sc=f.sc) (V:g.szs=f.szs) (W:g.cs.length=f.cs.length) (X:∀c∈g.cs,0<=c/\c<=k):dA k sizes {s with funs:=s.funs.set j g}:=
 ⟨h.kv,h.ej,h.zero,h.vars,h.var,λx J=>by
  rcases W8 J with J|rfl
  .exact h.funs x J
  .obtain⟨⟨Y,aa,ab,ac,ad,ag⟩,ae,af⟩:=h.funs f (x5 U);refine⟨⟨?_,?_,?_,?_,?_,X⟩,?_,?_⟩
   .show iI x.sc;rw[h1];exact Y
   .show x.sc.Pairwise _;rw[h1];exact aa
   .show ∀v∈x.sc,_;rw[h1];exact ab
   .show x.cs.length=(aJ (bI sizes x.sc)).toNat;rw[h1,W];exact ac
   .show aJ (bI sizes x.sc)<=_;rw[h1];exact ad
   .rw[h1,V];exact ae
   .rw[h1];exact af⟩
theorem qp {r:Nat} (J:ad w r e c) (he:¬(e=cQ\/e=dP\/e=fx\/e=dC\/e=bF\/e=cL\/e=bW)):¬cI w r:=by
 rintro (⟨X,Y,U,V⟩|W)
 .rw[ea J U] at he;exact he V
 .exact W _ J rfl
section
variable {w:x2} {aj ag:Nat} {A R:ah} {n:aY} {s:aB} {t:aC}
theorem ji.set (h:ji t) (J:Room t) (p:Nat) (x:Int):ji (t.set p x):=by
 refine⟨by rw[aC.BP];exact h.1,?_,by rw[aC.vv];exact h.2.2⟩;rcases J with J|J
 .rw[aC.vx J];exact h.2.1
 .have:=aC.vw t p x;omega
theorem sM {s':aB} {p:Nat} {x:Int} (h:ci w aj ag A R n s t) (ab:y=(p:Int)) (U:p<s.cells.length) (ac:s.cells.set p x=s'.cells) (J:jl s s') (ad:dA n.k n.sizes s') (af:Room t):
  ai x3 x1 [Γ ag,Δ y,Δ x] w λr w'=>r=Δ 0/\ae (cI w) w w'/\ ∃aG,Grow A w aG w'/\ci w' aj ag aG R n s' (t.set p x):=by
 obtain⟨ah,Y,aa,_,ak⟩:=id h;obtain⟨al,am,an⟩:=ah.qc;have ao:p<t.cells.length:=by rw[<-Y] at U;unfold aC.b3 at U;rw[u5] at U;exact U
 refine (p9 am.min ab ao aa).mono ?_;rintro _ V _ ⟨rfl,ap,W,aq⟩;obtain⟨aG,au,av⟩:=an (λr=>al r\/ap r) V _ ⟨W.1.mono λr _ h=>h.1,λr X=>X.elim .inl λh=>(W.2.1 r h).imp (λh=>h.1) id,λr X=>.inl X⟩ (aq.mono λr h=>.inr h);exact⟨rfl,W.1.mono λr _ h=>.inl h.2,aG,au,av.same J,by rw[aC.n7,Y,ac],aa.set af p x,ad,ak⟩
theorem vT {i v:Int} (h:ci w aj ag A R n s t) (an:Room t):ai x3 re [Γ aj,Δ i,Δ v] w λr w'=>(¬eF n i v->r=Δ 1/\Ext w w')/\
  (eF n i v->r=Δ 0/\ae (cI w) w w'/\ ∃aG x,Grow A w aG w'/\ci w' aj ag aG R n (gJ s i.toNat v.toNat) (t.set (eY s i.toNat+1) x)):=by
 refine az func37 ?_;rw[cR et.u];simp only[Z7,aT];refine (vP h).mono ?_;rintro _ V _ ⟨rfl,W⟩;by_cases U:eF n i v
 rotate_left
 .rw[if_neg U,aQ,ak];exact⟨λ_=>⟨λ_=>⟨by trivial,W⟩,λh=>absurd h U⟩,λh=>Ω⟩
 rw[if_pos U];refine b2 Ω ?_;obtain⟨x,J,ao,aE,aF⟩:=U.var h.2.2.2.1;obtain⟨h1,aH,aI,aJ⟩:=id U;have aM:=h.2.2.2.1.vars;obtain⟨z,ap⟩:=aN (l:=n.sizes) (i:=i.toNat) Ω;obtain⟨_,aq,aO,aP⟩:=h.2.2.2.1.var i.toNat x z J ap;have aR:=qj J;have aS:=oS h.2.1 h.2.2.1;obtain⟨aU,aV,aW,aX,au⟩:=(h.ext W).1;obtain⟨aY,aZ,L,a1,ad,a2,av,aw,a6,a7⟩:=au.parts;rw[aK bF.p 2 ad rfl,dY (y:=i) (i:=i.toNat) Ω af.u ac.i Ψ aw.ls (oR Ω),aL,wrap_i64 Ω Ω];intro aa X _ _;have ax:=W.trans X;have ah:=ad.ext X;have ay:=av.ext X;obtain⟨q,rfl⟩:∃q:Nat,v=q:=⟨v.toNat,Ω⟩;obtain⟨mk,al⟩:∃mk:Nat,x.mask=mk:=⟨x.mask.toNat,Ω⟩;rw[j0] at ao;rw[aK bF.p 1 ah rfl,aK bF.p 1 ah rfl,L4 Ω];have aA:t.b3[eY s i.toNat+1]? =σ x.mask:=by rw[h.2.1,oJ J Ω];rfl
 refine (ku (i:=eY s i.toNat+1) ay Ω aA).mono ?_;rintro _ a8 _ ⟨rfl,am⟩;refine⟨.inl am,?_⟩;have ba:(2:Nat) ^ q<=2 ^ 31:=R5 Ω Ω;rw[al,L2 Ω Ω];have Y:=ax.trans am;have bb:mk ||| 2 ^ q<2 ^ 32:=Nat.or_lt_two_pow Ω Ω;have ab:gJ s i.toNat (q:Int).toNat={s with vars:=s.vars.set i.toNat {x with mask:=((mk ||| 2 ^ q:Nat):Int)}}:=by
  unfold gJ;rw[J];simp only[al,j0]
 refine (sM (p:=eY s i.toNat+1) (s':=gJ s i.toNat (q:Int).toNat) (h.ext Y) Ω Ω ?_ ?_ ?_ an).mono ?_
 .rw[ab,vr J Ω];rfl
 .rw[ab];exact qd J rfl
 .rw[ab];exact h.2.2.2.1.vS J rfl aq ⟨by simp only;omega,by simp only;omega⟩
 rintro _ bc _ ⟨rfl,aB,aG,aC,aD⟩;exact⟨λh=>absurd U h,λ_=>⟨rfl,kx Y aB,aG,_,(Grow.ext Y).trans aC,aD⟩⟩
theorem Cu {j:Int} (h:ci w aj ag A R n s t) (ak:Room t):ai x3 xQ [Γ aj,Δ j] w λr w'=>(¬(0<=j/\dR s j.toNat=true)->r=Δ 1/\Ext w w')/\
  ((0<=j/\dR s j.toNat=true)->r=Δ 0/\ae (cI w) w w'/\ ∃aG p,Grow A w aG w'/\ci w' aj ag aG R n (iL s j.toNat) (t.set p 0)):=by
 refine az func56 ?_;rw[cR et.u];simp only[Z7,aT];refine (ma h).mono ?_;rintro _ V _ ⟨rfl,ac⟩;rw[bg,bt];refine⟨λU=>⟨λ_=>⟨by trivial,ac⟩,λaw=>?_⟩,λU=>?_⟩
 .rw[decide_eq_true aw.1,aw.2] at U;cases U
 have U:0<=j/\dR s j.toNat=true:=by simpa using U
 obtain⟨ax,W⟩:=id U;obtain⟨f,J,ay⟩:∃f,s.funs[j.toNat]? =σ f/\f.live≠0:=by
  unfold dR at W;cases J:s.funs[j.toNat]? with
  |none=>rw[J] at W;cases W
  |some f=>rw[J] at W;exact⟨f,rfl,by simpa using W⟩
 intro aa al _ _;have X:=ac.trans al;obtain⟨aA,aB,aC,aD,am⟩:=(h.ext X).1;obtain⟨aE,aF,L,aH,ad,aI,aJ,aL,af,ah⟩:=am.parts;obtain⟨y,Y⟩:∃y,L[j.toNat]? =σ y:=⟨_,x6 (by rw[ah.1];exact (x4.1 J).1)⟩;have an:=(x4.1 Y).1;obtain⟨_,_,ao⟩:=ah.2 j.toNat y f Y J;have aN:=vN J;rw[aK bF.p 1 ad rfl,aK bF.p 3 ad rfl,cE (i:=j.toNat) Ω ed.u cL.i af an,aM cL.p rfl,aS (v:=Δ (y.at_:Int)) Ψ (af.range Y 2 _ rfl)];have ab:iL s j.toNat={s with funs:=s.funs.set j.toNat {f with live:=0}}:=by
  unfold iL;rw[J]
 obtain⟨ap,_⟩:=h.2.2.2.1.funs f (x5 J);refine (sM (p:=ei s j.toNat+0) (s':=iL s j.toNat) (h.ext X) (by rw[ao];rfl) Ω ?_ ?_ ?_ ak).mono ?_
 .rw[ab,BL J Ω];rfl
 .rw[ab];exact sG J rfl rfl rfl
 .rw[ab];exact h.2.2.2.1.Ct J rfl rfl rfl ap.iJ
 rintro _ aO _ ⟨rfl,aq,aG,au,av⟩;exact⟨λh=>absurd U h,λ_=>⟨rfl,kx X aq,aG,_,(Grow.ext X).trans au,av⟩⟩
end
theorem vU {X:y0} {v:Int} (h:aH .i64 w X l):ai x3 Ew [X,Δ v] w λr w'=>r= .bool (decide (v∈l))/\Ext w w':=by
 refine az func75 ?_;rw[aU af.u h];refine bA.range l.length (λi _ V=>Ext w V/\v∉l.take i) h.le ⟨Ext.refl _,Ξ⟩ ?_ ?_
 .rintro i _ V k hi ⟨J,U⟩ hk;obtain⟨x,W⟩:=aN (l:=l) hi;refine bk Ω ?_;rw[bf af.u ac.i Ψ (h.ext J) W,bn,ak];refine⟨λhe=>⟨by rw[decide_eq_true];rw[<-he];exact x5 W,J⟩,λY=>?_⟩;rw[aL];refine hk _ _ ⟨J,λhm=>?_⟩;rw[r9,W,j6,l5,l9] at hm;rcases hm with hm|hm
  .exact U hm
  .exact Y hm.symm
 .rintro _ V k ⟨J,U⟩;rw[o9] at U;rw[aQ,ak];exact⟨λh=>Ω,λ_=>⟨by rw[decide_eq_false U],J⟩⟩
theorem L7 {x:eX} {v:Int} (h:0<=v/\v<x.un.length):v∈bN x↔dropped x.mask v=false:=by
 unfold bN;rw[List.mem_filter,Z6];constructor
 .rintro⟨_,J⟩;simpa using J
 .intro J;exact⟨⟨v.toNat,List.mem_range.2 Ω,Ω⟩,by simp[J]⟩
theorem fE.put {g aa:Nat} {n:aY} (h:fE w aa n) (J:ad w g aD c) (U:ae (λr=>r=g) w w'):fE w' aa n:=by
 have W:=Cl J;have af:∀r,r=g-> ∃e c,ad w r e c/\e≠gN/\e≠cT/\e≠ac/\e≠an/\e≠au:=λr V=>by
  subst V;exact⟨_,c,J,Φ,Φ,Φ,Φ,Φ⟩
 obtain⟨ag,ah,ai,aj,gr,aV,L,nm,szv,gz,fv2,h1,ak,al,am,ao,ap,aq⟩:=h;refine⟨ag,ah,ai,aj,gr,aV,L,nm,szv,gz,fv2,vL h1 U W Φ,vL ak U W Φ,vK al U W Φ,am.ab U λr V=>?_,ao,ap.ab U λr V=>?_,aq⟩
 .obtain⟨e,c,J,_,_,_,X,Y⟩:=af r V;exact⟨e,c,J,X,Y⟩
 .obtain⟨e,c,J,X,Y,av,aw,_⟩:=af r V;exact⟨e,c,J,X,Y,av,aw⟩
theorem StateM.put {g:Nat} {A R:ah} {n:aY} {s:aB} {t:aC} (h:StateM w aj ag A R n s t) (X:ad w g aD c) (V:ae (λr=>r=g) w w') (au:¬A g):∃R',(∀r,R' r->R r/\r≠g)/\StateM w' aj ag A R' n s t:=by
 obtain⟨av,aw,ax,ay,⟨h1,az,aA,aE⟩,aF,aG,ge,L,E,aH,w0,aI,⟨al,aa,aJ⟩,⟨aK,am,aL,aM⟩,aN,⟨aO,an⟩,aP,ao⟩:=h;obtain⟨dc,ap⟩:=BE;have z:=V.size;have W:=Cl X;have Y:∀r,(w0.heap.setIfInBounds g dc)[r]? =if g=r then (if g<w0.heap.size then σ dc else ν) else w0.heap[r]?:=λr=>Array.getElem?_setIfInBounds;have aQ:∀r,A r->r≠g:=λr U he=>au (he▸U);have int:∀ {v:y0} {l:Λ},il R w v l->il (λr=>R r/\r≠g) w' v l:=λ⟨⟨aR,hm⟩,aS⟩=>⟨⟨aR,vK hm V W Φ⟩,λr U=>⟨aS r U,b5 hm X Φ U⟩⟩;refine⟨λr=>R r/\r≠g,λr h=>h,av,aw,ax,ay,⟨h1,λr U aT=>az r U aT.1,λr U=>by have:=aA r U.1;omega,λr U=>by have:=aE r U;omega⟩,aF,aG,ge,L,E,aH,{w0 with heap:=w0.heap.setIfInBounds g dc},vL aI V W Φ,⟨?_,?_,?_⟩,
  ⟨aK.ab V λr U=>aQ r (am r U),am,aL,aM⟩,vK aN V W Φ,⟨Ck aO V W Φ,an.1,λj x f ac aU=>?_⟩,Ck aP V W Φ,ao.1,λj x e ac he=>?_⟩
 .by_cases J:∃o,w0.heap[g]? =σ o/\fw o=true
  .obtain⟨o,aq,aV⟩:=J;have aW:ad w0 g aD c:=by
    unfold ad at X ⊢;have:=aa.bc g o aq aV;rw[X] at this;rw[aq,this]
   refine al.put aW ⟨Ξ,λr o U J aX=>?_⟩;show (w0.heap.setIfInBounds g dc)[r]? =σ o;rw[Y,if_neg λhe=>aX he.symm];exact U
  .refine al.ext ⟨Ξ,λr o U aZ=>?_⟩;show (w0.heap.setIfInBounds g dc)[r]? =σ o;rw[Y,if_neg λhe=>J ⟨o,by rw[he];exact U,aZ⟩];exact U
 .refine⟨by show (w0.heap.setIfInBounds g dc).size<=_;rw[Array.size_setIfInBounds];exact X8 aa.size z,λr o U J=>?_⟩;have U:(w0.heap.setIfInBounds g dc)[r]? =σ o:=U;rw[Y] at U;by_cases he:g=r
  .rw[if_pos he] at U;split at U
   .cases U;rw[ap] at J;cases J
   .cases U
  .rw[if_neg he] at U;exact V.bc r o (aa.bc r o U J) J λh=>he h.symm
 .intro r o U J;have U:(w0.heap.setIfInBounds g dc)[r]? =σ o:=U;rw[Y] at U;by_cases he:g=r
  .rw[if_pos he] at U;split at U
   .cases U;rw[ap] at J;cases J
   .cases U
  .rw[if_neg he] at U;exact⟨aJ r o U J,λh=>he h.symm⟩
 .obtain⟨af,ai,ak⟩:=an.2 j x f ac aU;exact⟨int af,int ai,ak⟩
 .obtain⟨af,ai,ak⟩:=ao.2 j x e ac he;exact⟨af,int ai,int ak⟩
theorem L8 {pl:Λ} {f:b4} (W:pl.length<=60000) (h:fj pl=σ f):∃N,N<=60000/\e1 N f/\f.name≠[]/\ ∀b∈f.name,bQ b=true:=by
 unfold fj at h;rw[if_neg Ω] at h;cases J:gx ⟨(lex pl).1,0,false,[]⟩ with
 |none=>rw[J] at h;cases h
 |some q=>
  obtain⟨X,s⟩:=q;rw[J] at h;simp only at h;split at h
  .rename_i aw;cases h;obtain⟨h1,U⟩:=zQ rfl J aw.2.2;have Y:=n5 pl.length pl (n9 _);obtain⟨V,aa,_⟩:=rB pl.length pl (n9 _) f.name U;exact⟨_,by show (lex pl).1.length<=60000;omega,h1,V,aa⟩
  .cases h
theorem L9:ai x3 xK [.pointer ν] w λv w'=>v= .pointer ν/\Ext w w':=by
 refine az func26 ?_;rw[cR lM.u];simp only[Option.isNone_none,bX];exact⟨by trivial,Ext.refl _⟩
theorem Ma (h:aH .u8 w v l) (ag:l.length<=100000):ai x3 D6 [v] w λU w'=>Ext w w'/\ ∃g,ao .u8 cq w' g U l:=by
 have J:=h;obtain⟨ah,b,o,base,cap,rfl,aj,hm,Y,ab⟩:=h;refine az func22 ?_;rw[rt cH.u,bt];refine⟨λac=>⟨Ext.refl _,0,?_⟩,λ_=>?_⟩
 .have:l=[]:=by
   cases base with
   |none=>
        by_cases J:0<l.length
        .have:=Y J;cases this
        .exact Z8 Ω
   |some a=>cases ac
  subst this;exact ao.nil _ _ _ _
 .refine vM (k:=.u8) cH.u cq.i λak g1 V al W X=>?_;refine fc cH.u cq.i rfl X (J.ext W) Θ Θ λU ad aa ae am af=>?_;exact⟨W.then af (λr ab he=>by have:=(bz X he).1;omega),ad,by simpa using ae⟩
def Mb (sv:y0):Prop:=∃cs:List y0,sv= .agg cs.toArray/\cs.length=8/\ ∀u∈cs,u.oneCell'=true
theorem Cv:Mb (.agg z12.toArray):=⟨z12,rfl,rfl,by intro u hu;simp[z12] at hu;rcases hu with rfl|rfl|rfl|rfl<;>rfl⟩
theorem vV {f:b4} (J:e1 N f):(cM f).funs.length<=256:=by
 have h1:=(pX J).2.length_eq;have V:=(kp J).2.2;have W:=S5 fk (e9 f);have X:=J.ki;have U:=(oH f (fl f).length).2.2.2;rw[sD] at U;omega
theorem Mc {n:aY} {t:aC} (U:jg n) (V:n.funs.length<=256) (W:t.b3=(eb n).cells) (J:Plain t):ji t:=by
 have h1:=sI U V n.unary.length n.funs.length;rw[vz,<-W] at h1;unfold aC.b3 at h1;rw[u5] at h1;refine⟨Ω,?_,?_⟩
 .rw[J.2.1];exact X7 _
 .rw[J.1];exact X7 _
def ns (n:aY) (s:aB) (l:Λ) (i:Nat):Prop:=∃v,l[i]? =σ v/\0<=v/\v<n.sizes.length/\ft s v.toNat=false/\(0<i->l.getD (i-1) 0<v)
def kC (n:aY) (s:aB) (l:Λ):Prop:=∀i,i<l.length->ns n s l i
section
variable {w:x2} {aj ag:Nat} {A R:ah} {n:aY} {s:aB} {t:aC}
theorem Cw {ao:y0} (h:ci w aj ag A R n s t) (X:aH .i64 w ao l):ai x3 E2 [Γ aj,ao] w λv w'=>(∃b,v= .bool b/\(b=true↔kC n s l))/\Ext w w':=by
 refine az func137 ?_;rw[aU af.u X];refine bA.range l.length (λi _ V=>Ext w V/\ ∀q,q<i->ns n s l q) X.le ⟨Ext.refl _,λq aw=>Ω⟩ ?_ ?_
 .rintro i _ V ax hi ⟨Y,am⟩ ay;obtain⟨x,ab⟩:=aN (l:=l) hi;refine bk Ω ?_;rw[bf af.u ac.i Ψ (X.ext Y) ab];have ap:∀ {p:Prop},(¬(0<=x/\x<n.sizes.length/\ft s x.toNat=false/\(0<i->l.getD (i-1) 0<x)))->ns n s l i->p:=λaA ⟨v,ad,W⟩=>by
   rw[ab] at ad;cases ad;exact absurd W aA
  refine aR (λv aa=>∃b,v= .bool b/\(b=false↔ns n s l i)/\Ext w aa) ?_ ?_
  .rintro _ aa ⟨b,rfl,U,aq⟩;rw[bt];refine⟨λaB=>⟨⟨false,rfl,⟨(λh=>by cases h),λh=>?_⟩⟩,aq⟩,λaC=>?_⟩
   .have:=U.2 (h i hi);rw[aB] at this;cases this
   .rw[aL];refine ay _ _ ⟨aq,λq aw=>?_⟩;by_cases aD:q=i
    .rw[aD];exact U.1 aC
    .exact am q Ω
  intro aJ ah;refine (qk (h.ext Y)).mono ?_;rintro _ aK _ ⟨rfl,aE⟩;have an:=Y.trans aE;rw[bg,bt];refine⟨λU=>ah _ _ ⟨true,rfl,⟨(λh=>by cases h),λh=>?_⟩,an⟩,λU=>?_⟩
  .exact ap (λW=>by rw[decide_eq_true ⟨W.1,W.2.1⟩] at U;cases U) h
  have U:0<=x/\x<n.sizes.length:=by simpa using U
  refine (qm (h.ext an)).mono ?_;rintro _ aM _ ⟨rfl,aF⟩;have al:=an.trans aF;rw[decide_eq_true U.1,V6,bt];refine⟨λae=>ah _ _ ⟨true,rfl,⟨(λh=>by cases h),λh=>?_⟩,al⟩,λae=>?_⟩
  .exact ap (λW=>by rw[W.2.2.1] at ae;cases ae) h
  rw[bY,ak];refine⟨λaO=>?_,λaP=>ah _ _ ⟨false,rfl,⟨λ_=>⟨x,ab,U.1,U.2,ae,λh=>Ω⟩,λ_=>rfl⟩,al⟩⟩;obtain⟨y,au⟩:=aN (l:=l) (i:=i-1) Ω;have av:l.getD (i-1) 0=y:=by rw[u9,au];rfl
  have aS:=X.le;rw[dj,wrap_i64 Ω Ω,dY (y:=(i:Int)-1) (i:=i-1) Ω af.u ac.i Ψ (X.ext al) au,cr];refine ah _ _ ⟨_,rfl,⟨λaG=>⟨x,ab,U.1,U.2,ae,λ_=>?_⟩,λJ=>?_⟩,al⟩
  .have:=of_decide_eq_false aG;rw[av];omega
  .obtain⟨v,ad,_,_,_,aI⟩:=J;rw[ab] at ad;cases ad;have:=aI Ω;rw[av] at this;rw[decide_eq_false];omega
 .rintro _ V ax ⟨Y,am⟩;rw[aQ,ak];exact⟨λh=>Ω,λ_=>⟨⟨true,rfl,⟨λ_=>am,λ_=>rfl⟩⟩,Y⟩⟩
def Cx (s:aB) (l:Λ) (r:Int):Prop:=(r= -1/\ ∀f∈s.funs,¬(f.live≠0/\f.sc=l))\/ ∃ (j:Nat) (f:dE),r=j/\s.funs[j]? =σ f/\f.live≠0/\f.sc=l/\ ∀ (q:Nat) g,q<j->s.funs[q]? =σ g->¬(g.live≠0/\g.sc=l)
theorem Md {al:y0} (h:ci w aj ag A R n s t) (ao:aH .i64 w al l):ai x3 ED [Γ aj,al] w λv w'=>(∃r:Int,v=Δ r/\Cx s l r)/\Ext w w':=by
 have aY:=oS h.2.1 h.2.2.1;refine az func84 ?_;refine (ql h).mono ?_;rintro _ V _ ⟨rfl,ap⟩;have aq:s.funs.length<=9223372036854775807:=by
  obtain⟨au,av,ay,aA,aB,aC,L,aD,J,aE,aF,aG,X,W⟩:=h.1.parts;have:=X.le;rw[W.1] at this;omega
 refine bA.range s.funs.length (λj _ aa=>Ext w aa/\ ∀ (q:Nat) g,q<j->s.funs[q]? =σ g->¬(g.live≠0/\g.sc=l)) aq ⟨ap,λq g Y=>Ω⟩ ?_ ?_
 rotate_left
 .rintro _ aa aI ⟨ab,ac⟩;rw[aQ,ak];refine⟨λh=>Ω,λ_=>⟨⟨-1,rfl,.inl ⟨rfl,λf U=>?_⟩⟩,ab⟩⟩;obtain⟨q,Y,rfl⟩:=List.mem_iff_getElem.1 U;exact ac q _ Y (x6 Y)
 rintro j _ aa aI aJ ⟨ab,ac⟩ aO;obtain⟨f,U⟩:=aN (l:=s.funs) aJ;refine bk Ω ?_;refine aR (λv af=>v= .bool (decide (f.live≠0)&&decide (f.sc=l))/\Ext w af) ?_ ?_
 .rintro _ af ⟨rfl,ad⟩;rw[bt];refine⟨λJ=>⟨⟨(j:Int),rfl,.inr ⟨j,f,rfl,U,?_⟩⟩,ad⟩,λJ=>?_⟩
  .rw[U8,decide_eq_true_eq,decide_eq_true_eq] at J;exact⟨J.1,J.2,ac⟩
  .rw[aL];refine aO _ _ ⟨ad,λq g Y ah=>?_⟩;by_cases aP:q=j
   .subst aP;rw[U] at ah;cases ah;intro aw;rw[decide_eq_true aw.1,decide_eq_true aw.2] at J;cases J
   .exact ac q g Ω ah
 intro aZ am;refine (ma (j:=(j:Int)) (h.ext ab)).mono ?_;rintro _ af _ ⟨rfl,ad⟩;have ae:=ab.trans ad;have aT:dR s ((j:Int)).toNat=decide (f.live≠0):=by
  unfold dR;rw[j0,U]
 rw[decide_eq_true (Int.natCast_nonneg j),V6,aT,ak];refine⟨λaU=>?_,λaV=>am _ _ ⟨by rw[decide_eq_false aV];rfl,ae⟩⟩;obtain⟨au,av,ay,aA,aB,aC,L,aD,J,aE,aF,aG,X,W⟩:=(h.ext ae).1.parts;obtain⟨y,an⟩:∃y,L[j]? =σ y:=⟨_,x6 (by rw[W.1];omega)⟩;obtain⟨aW,_,_⟩:=W.2 j y f an U;rw[aK bF.p 3 J rfl,cE rfl ed.u cL.i X (by rw[W.1];omega),aM cL.p rfl,aS (v:=y.ax) Ψ (X.range an 0 _ rfl)];refine (k4 aW.ls (ao.ext ae)).mono ?_;rintro _ a1 _ ⟨rfl,aX⟩;exact am _ _ ⟨by rw[decide_eq_true aU,V6],ae.trans aX⟩
end
section
variable {w:x2} {B:Nat} {sv:y0} {k:Int} {sizes:Λ} {s:aB}
end
def ha (s:aB) (i v:Nat) (c:Int):aB:=match s.vars[i]? with
 |some x=>{s with vars:=s.vars.set i {x with un:=x.un.set v c}}
 |none=>s
def gp (s:aB) (j m:Nat) (c:Int):aB:=match s.funs[j]? with
 |some f=>{s with funs:=s.funs.set j {f with cs:=f.cs.set m c}}
 |none=>s
theorem Cy {i:Nat} {c:Int} (h:∀x∈l,0<=x/\x<=k) (U:0<=c/\c<=k):∀x∈l.set i c,0<=x/\x<=k:=λx J=>by
 rcases W8 J with J|rfl
 .exact h x J
 .exact U
def ll (w:x2) (aj ag:Nat) (A R:ah) (n:aY) (s':aB) (t:aC) (v:y0) (w':x2):Prop:=v=Δ 0/\ae (cI w) w w'/\ ∃aG p x,Grow A w aG w'/\ci w' aj ag aG R n s' (t.set p x)
theorem ll.ext {V:x2} {A R:ah} {n:aY} {s':aB} {t:aC} (J:Ext w V) (h:ll V aj ag A R n s' t v w'):ll w aj ag A R n s' t v w':=by
 obtain⟨h1,U,aG,p,x,W,X⟩:=h;exact⟨h1,kx J U,aG,p,x,(Grow.ext J).trans W,X⟩
section
variable {w:x2} {aj ag:Nat} {A R:ah} {n:aY} {s:aB} {t:aC}
theorem oU {c:Int} (h:ci w aj ag A R n s t) (U:y<0\/¬(0<=c/\c<=n.k)):ai x3 yb [Γ aj,Δ y,Δ c] w λv w'=>v=Δ (if y<0 then 1 else 3)/\Ext w w':=by
 refine az func128 ?_;rw[cR et.u];simp only[Z7,aT];rw[aQ,ak];refine⟨λJ=>⟨by rw[if_pos J],Ext.refl _⟩,λJ=>?_⟩;refine (nr h).mono ?_;rintro _ V _ ⟨rfl,W⟩;refine (k3 (a:=c) (k:=n.k)).mono ?_;rintro _ aa _ ⟨rfl,X⟩;have Y:=U.resolve_left J;rw[decide_eq_false (λh=>Y h.2),bg,W6,bX,if_neg J];exact⟨rfl,W.trans X⟩
theorem vW {s':aB} {p:Nat} {c:Int} (h:ci w aj ag A R n s t) (W:Room t) (X:y=(p:Int)) (Y:p<s.cells.length) (ab:s.cells.set p c=s'.cells) (J:jl s s') (ac:dA n.k n.sizes s') (ad:0<=c/\c<=n.k):
  ai x3 yb [Γ aj,Δ y,Δ c] w (ll w aj ag A R n s' t):=by
 refine az func128 ?_;rw[cR et.u];simp only[Z7,aT];refine b2 Ω ?_;refine (nr h).mono ?_;rintro _ V _ ⟨rfl,ae⟩;refine (k3 (a:=c) (k:=n.k)).mono ?_;rintro _ aa _ ⟨rfl,af⟩;have U:=ae.trans af;rw[decide_eq_true (show c5 c n.k from⟨h.2.2.2.1.kv,ad⟩),bg,Y6,aT];obtain⟨an,ao,ap,aq,au,av,L,aw,ah,ax,ay,aA,aC,aD⟩:=(h.ext U).1.parts;rw[aK bF.p 1 ah rfl];refine (sM (h.ext U) X Y ab J ac W).mono ?_;rintro _ aE _ ⟨rfl,ak,aG,al,am⟩;exact ll.ext U ⟨rfl,ak,aG,_,_,al,am⟩
theorem Cz {c:Int} (h:ci w aj ag A R n s t) (U:Room t):ai x3 xM [Γ aj,Δ c] w λv w'=>(¬(0<=c/\c<=n.k)->v=Δ 3/\Ext w w')/\((0<=c/\c<=n.k)->ll w aj ag A R n {s with zero:=c} t v w'):=by
 refine az func42 ?_;by_cases J:0<=c/\c<=n.k
 .refine (vW (p:=0) h U rfl (by unfold aB.cells hS;simp) (La s c) (vu s c) ⟨h.2.2.2.1.kv,h.2.2.2.1.ej,J,h.2.2.2.1.vars,h.2.2.2.1.var,h.2.2.2.1.funs⟩ J).mono ?_;rintro v V _ W;exact⟨λh=>absurd J h,λ_=>W⟩
 .refine (oU h (.inr J)).mono ?_;rintro v V _ ⟨rfl,X⟩;exact⟨λ_=>⟨rfl,X⟩,λh=>absurd h J⟩
theorem vX {i v c:Int} (h:ci w aj ag A R n s t) (ac:Room t):ai x3 rg [Γ aj,Δ i,Δ v,Δ c] w λr w'=>
  (¬eF n i v->r=Δ 1/\Ext w w')/\(eF n i v->¬(0<=c/\c<=n.k)->r=Δ 3/\Ext w w')/\(eF n i v->(0<=c/\c<=n.k)->ll w aj ag A R n (ha s i.toNat v.toNat c) t r w'):=by
 refine az func43 ?_;refine (vP h).mono ?_;rintro _ V _ ⟨rfl,U⟩;by_cases J:eF n i v
 .rw[if_pos J];by_cases X:0<=c/\c<=n.k
  .obtain⟨x,W,ah,ak,_⟩:=J.var h.2.2.2.1;have al:=h.2.2.2.1.vars;obtain⟨z,ad⟩:∃z,n.sizes[i.toNat]? =σ z:=⟨_,x6 (by have:=J.1;have:=J.2.1;omega)⟩;obtain⟨_,ae,hm⟩:=h.2.2.2.1.var i.toNat x z W ad;have am:=qj W;have Y:ha s i.toNat v.toNat c={s with vars:=s.vars.set i.toNat {x with un:=x.un.set v.toNat c}}:=by unfold ha;rw[W]
   refine (vW (p:=eY s i.toNat+(2+v.toNat)) (s':=ha s i.toNat v.toNat c) (h.ext U) ac Ω Ω ?_ ?_ ?_ X).mono ?_
   .rw[Y];refine vr W Ω ?_;rw[show 2+v.toNat=v.toNat+1+1 by omega];rfl
   .rw[Y];exact qd W Ξ
   .rw[Y];exact h.2.2.2.1.vS W Ξ (Cy ae X) hm
   .rintro r aa _ af;exact⟨λh=>absurd J h,λ_ h=>absurd X h,λ_ _=>af.ext U⟩
  .refine (oU (h.ext U) (.inr X)).mono ?_;rintro r aa _ ⟨rfl,ab⟩;rw[if_neg Ω];exact⟨λh=>absurd J h,λ_ _=>⟨rfl,U.trans ab⟩,λ_ h=>absurd h X⟩
 .rw[if_neg J];refine (oU (h.ext U) (.inl Ω)).mono ?_;rintro r aa _ ⟨rfl,ab⟩;rw[if_pos Ω];exact⟨λ_=>⟨rfl,U.trans ab⟩,λh=>absurd h J,λh=>absurd h J⟩
theorem vY {U:Λ} {c:Int} (h:ci w aj ag A R n s t) (ae:Room t) (af:aH .i64 w aF U):ai x3 pn [Γ aj,Δ (j:Int),aF,Δ c] w λr w'=>
  (en s j U=ν->r=Δ 1/\Ext w w')/\((en s j U).isSome=true->¬(0<=c/\c<=n.k)->r=Δ 3/\Ext w w')/\
  ((en s j U).isSome=true->(0<=c/\c<=n.k)-> ∀f (m:Nat),s.funs[j]? =σ f->cB f.szs U 0=σ (m:Int)->ll w aj ag A R n (gp s j m c) t r w'):=by
 refine az func46 ?_;refine (Cq h af).mono ?_;rintro _ V _ ⟨rfl,W⟩;cases ah:en s j U with
 |none=>
  simp only;refine (oU (h.ext W) (.inl Ω)).mono ?_;rintro r aa _ ⟨rfl,Y⟩;rw[if_pos Ω];exact⟨λ_=>⟨rfl,W.trans Y⟩,λh=>by simp at h,λh=>by simp at h⟩
 |some p=>
  simp only;by_cases X:0<=c/\c<=n.k
  .obtain⟨am,f,J,an,m,hm,ao,rfl⟩:=qo h.2.2.2.1 ah;have ap:=vN J;have ab:gp s j m c={s with funs:=s.funs.set j {f with cs:=f.cs.set m c}}:=by unfold gp;rw[J]
   obtain⟨ak,_⟩:=h.2.2.2.1.funs f (x5 J);refine (vW (p:=ei s j+(m+1)) (s':=gp s j m c) (h.ext W) ae rfl Ω ?_ ?_ ?_ X).mono ?_
   .rw[ab];exact BL J Ω rfl
   .rw[ab];exact sG J Ξ rfl rfl
   .rw[ab];exact h.2.2.2.1.Ct J rfl rfl Ξ (Cy ak.iJ X)
   .rintro r aa _ al;refine⟨(λh=>by cases h),λ_ h=>absurd X h,λ_ _ aq c7 ac ad=>?_⟩;rw[J] at ac;cases ac;rw[hm] at ad;have:c7=m:=by have:=Z9 ad;omega
    subst this;exact al.ext W
  .refine (oU (h.ext W) (.inr X)).mono ?_;rintro r aa _ ⟨rfl,Y⟩;rw[if_neg Ω];exact⟨(λh=>by cases h),λ_ _=>⟨rfl,W.trans Y⟩,λ_ h=>absurd h X⟩
end
end Go.Proofs.YthjegppepbbojaaGreatDoor
namespace Go.Vc
open Go Go.RowKit
section
variable {P:V2} {w:x2} {α:Type} [al α] {S R:ah}
theorem CA {k:Nat} {vs:List (List y0)} {i:Nat} (h:∀x∈vs,x.length=k) (J:c.length=k) (hi:i<vs.length):over vs.flatten (i*k) c=(vs.set i c).flatten:=by
 have:=uR (f:=id) (k:=k) (L:=vs) (i:=i) (a:=c) h J hi;rw[List.flatMap_id,List.flatMap_id] at this;exact this
theorem Me {l:List α} {i:Nat} (h:bi S R w [v] l) (ax:i<l.length):∃g cap full W,v= .slice (σ ⟨g,0,ν⟩) l.length cap/\ad w g W full/\S g/\i*al.n α+al.n α<=full.length/\
  ∀ {A:ah} {cs:List y0} {a:α},bi A R w cs a->(∀r,r<w.heap.size->S r->¬A r/\¬R r)-> ∀w',ae (λr=>r=g) w w'->ad w' g W (over full (i*al.n α) cs)->bi (λr=>S r\/A r) R w' [v] (l.set i a):=by
 obtain⟨vs,g,F,X,he,J,hm⟩:=gw h;obtain⟨ay,W,az⟩:=hm rfl;obtain⟨aH,⟨rfl,aI⟩|⟨cap,full,rfl,ai,ak,aA,am,aB⟩⟩:=id az
 .omega
 have an:vs.length=l.length:=he.1;have aC:(i+1)*al.n α<=l.length*al.n α:=X1 _ ax;have aD:l.length*al.n α<=full.length:=by rw[am];exact X1 _ ak
 rw[U7,Nat.one_mul] at aC;have aa:S g:=ay.resolve_left Ξ;refine⟨g,cap,full,W,rfl,ai,aa,Ω,λ{A cs a} ao ac w' ap aE=>?_⟩;have aq:=al.len ao;have au:¬A g:=(ac g ai.lt aa).1;have av:¬R g:=(ac g ai.lt aa).2;have aF:∀c∈vs.set i cs,c.length=al.n α:=λc Y=>by
  rcases W8 Y with U|rfl
  .exact he.len c U
  .exact aq
 have aw:b1 w' g W (al.n α) (.slice (σ ⟨g,0,ν⟩) l.length cap) (l.set i a).length (vs.set i cs).flatten:=by
  refine⟨by rw[jy aF,W0,W0,an],.inr ⟨cap,_,by rw[W0],aE,by rw[W0];exact ak,aA,by rw[k0,am],?_⟩⟩;rw[W0,r4 Ω aD,aB,CA he.len aq Ω]
 refine⟨_,rfl,vs.set i cs,g,λj r=>if j=i then A r/\r<w.heap.size else F j r/\r<w.heap.size,⟨λj r V=>?_,λ_ j V=>?_,λ_ j q r aG h1 U=>?_⟩,⟨by simp[an],λj c a' Y af=>?_⟩,?_,λ_=>⟨.inr (.inl aa),W,aw⟩⟩
 .split at V
  .exact .inr V.1
  .exact .inl (X.sub j r V.1)
 .split at V
  .exact au V.1
  .exact X.top rfl j V.1
 .split at h1<;>split at U
  .omega
  .exact (ac r U.2 (X.sub q r U.1)).1 h1.1
  .exact (ac r h1.2 (X.sub j r h1.1)).1 U.1
  .exact X.ho rfl j q r aG h1.1 U.1
 .by_cases ag:j=i
  .subst ag;rw[U5 Ω] at Y af;cases Y;cases af;have aj:bi (λr=>if j=j then A r/\r<w.heap.size else F j r/\r<w.heap.size) R w cs a:=al.mono ao (λr V h=>by rw[if_pos rfl];exact⟨h,V⟩) λ_ _ h=>h;refine al.ab aj ap λr V h1 U=>?_;have U:r=g:=U;subst U;rcases h1 with h1|h1
   .simp only[if_true] at h1;exact au h1.1
   .exact av h1
  .rw[V3 (S6 ag)] at Y af;have aj:bi (λr=>if j=i then A r/\r<w.heap.size else F j r/\r<w.heap.size) R w c a':=al.mono (he.2 j c a' Y af) (λr V h=>by rw[if_neg ag];exact⟨h,V⟩) λ_ _ h=>h;refine al.ab aj ap λr V h1 U=>?_;have U:r=g:=U;subst U;rcases h1 with h1|h1
   .simp only[if_neg ag] at h1;exact X.top rfl j h1.1
   .exact av h1
 .have:=mI (S:=λr=>(S r\/A r)\/R r) aw (.inr (.inl (.inl aa)));exact this
theorem vZ {aa:o6} {i b:Nat} {x:y0} {l:List α} {a:α} {A:ah} {K:Unit->x2->Prop} (V:al.n α=1) (ab:y=(i:Int)) (ac:P.underlying t=σ (.slice e)) (hi:aO P e 1 b z)
  (h:bi S R w [v] l) (W:i<l.length) (ad:x.cells= #[x]) (X:bi A R w [x] a) (af:∀r,r<w.heap.size->S r->¬A r/\¬R r)
  (ag:∀w',ae S w w'->bi (λr=>S r\/A r) R w' [v] (l.set i a)->K () w'):U P (l7 t v (.int aa y)) w λp=>ay P (o7 e p x) w K:=by
 subst ab;obtain⟨g,cap,full,ao,rfl,ai,aj,ak,am⟩:=Me h W;rw[V] at ak;rw[fz ac hi W λ_=>rfl];refine bj (o:=0+i*1) hi ad (al.one X x (.head _)) ai Ω λw' Y _ an=>ag w' (Y.mono λr _ J=>by have J:r=g:=J;subst J;exact aj) (am X af w' Y ?_);rw[V,V8] at*;exact an
end
end Go.Vc
namespace Go.Proofs.YthjegppepbbojaaGreatDoor
open Go Go.Vc Go.RowKit Go.Proofs Go.Proofs.Tryz
set_option maxRecDepth 100000
abbrev fu:Type:=(Rd (Λ)×Rd (Λ)×Λ)×Bool
abbrev hW:Type:=Int×Rd (Λ)×Rd (Λ)
def eo (f:dE):fu:=((f.sc,f.szs,f.cs),decide (f.live≠0))
def iM (e:hx):hW:=(e.v,e.sc,e.dl)
def bq (m:Bool) (A:Nat->ah) (R:ah) (w:x2) (cs:List y0) (k:Int) (sizes:Λ) (zero:Int) (D:List (Λ)) (G:List Bool) (aV:List (Λ)) (H:List fu) (E:List hW):Prop:=
 ∃szv J U V W X,cs=[Δ k,szv,Δ zero,J,U,V,W,X]/\Seen R w [szv] sizes/\
 al.rep m (A 0) R w [J] D/\al.rep m (A 1) R w [U] G/\al.rep m (A 2) R w [V] aV/\al.rep m (A 3) R w [W] H/\al.rep m (A 4) R w [X] E/\
 (m=true->(∀i j r,i≠j->A i r->¬A j r)/\ ∀i r,A i r->¬R r)
abbrev gq (m:Bool) (A:Nat->ah) (R:ah) (w:x2) (cs:List y0) (k:Int) (sizes:Λ) (s:aB):Prop:=
 bq m A R w cs k sizes s.zero (s.vars.map bN) (s.vars.map λx=>decide (x.gone≠0)) (s.vars.map (·.un)) (s.funs.map eo) (s.elims.map iM)
def gK (w:x2) (v:y0) (k:Int) (sizes:Λ) (s:aB):Prop:=∃cs,v= .agg cs.toArray/\gq false (λ_ _=>False) dr w cs k sizes s
def ef (A:Nat->ah) (i:Nat) (B:ah):Nat->ah:=λj=>if j=i then B else A j
section
variable {m:Bool} {A:Nat->ah} {R:ah} {w w':x2} {cs:List y0} {k zero:Int} {sizes:Λ} {D:List (Λ)} {G:List Bool} {aV:List (Λ)} {H:List fu} {E:List hW} {s:aB}
theorem bq.len (h:bq m A R w cs k sizes zero D G aV H E):cs.length=8/\ ∀u∈cs,u.oneCell'=true:=by
 obtain⟨szv,Y,aa,ab,ac,ad,rfl,h1,J,U,V,W,X,_⟩:=h;refine⟨rfl,λu hu=>?_⟩;simp only[T1,List.not_mem_nil,or_false] at hu;rcases hu with rfl|rfl|rfl|rfl|rfl|rfl|rfl|rfl
 .rfl
 .exact e7 h1
 .rfl
 .exact e7 J
 .exact e7 U
 .exact e7 V
 .exact e7 W
 .exact e7 X
theorem bq.ab {T:ah} (h:bq m A R w cs k sizes zero D G aV H E) (J:ae T w w') (V:∀r,r<w.heap.size->(∃i,A i r)\/R r->¬T r):bq m A R w' cs k sizes zero D G aV H E:=by
 obtain⟨szv,W,X,Y,aa,ac,rfl,h1,ad,af,ag,ai,aj,ak⟩:=h;have aw:∀i r,r<w.heap.size->A i r\/R r->¬T r:=λi r U h=>V r U (h.imp (λh=>⟨i,h⟩) id);exact⟨szv,W,X,Y,aa,ac,rfl,al.ab h1 J λr U h=>V r U (h.elim False.elim .inr),al.ab ad J (aw 0),al.ab af J (aw 1),al.ab ag J (aw 2),al.ab ai J (aw 3),al.ab aj J (aw 4),ak⟩
theorem bq.ext (h:bq m A R w cs k sizes zero D G aV H E) (J:Ext w w'):bq m A R w' cs k sizes zero D G aV H E:=h.ab (J.ab λ_=>False) λ_ _ _ h=>h
theorem gq.CB (h:gq m A R w cs k sizes s):gK w (.agg cs.toArray) k sizes s:=by
 obtain⟨szv,J,U,V,W,X,rfl,h1,Y,aa,ab,ac,ad,ae⟩:=h;exact⟨_,rfl,szv,J,U,V,W,X,rfl,gQ h1,gQ Y,gQ aa,gQ ab,gQ ac,gQ ad,λh=>by cases h⟩
theorem bq.mono {R':ah} (h:bq true A R w cs k sizes zero D G aV H E) (J:∀r,R r->R' r) (U:∀i r,A i r->¬R' r):bq true A R' w cs k sizes zero D G aV H E:=by
 obtain⟨szv,V,W,X,Y,aa,rfl,h1,ab,ac,ad,ae,af,ag⟩:=h;have hm:∀r,r<w.heap.size->R r->R' r:=λr _ h=>J r h;exact⟨szv,V,W,X,Y,aa,rfl,al.mono h1 (λ_ _ h=>h) hm,al.mono ab (λ_ _ h=>h) hm,al.mono ac (λ_ _ h=>h) hm,al.mono ad (λ_ _ h=>h) hm,al.mono ae (λ_ _ h=>h) hm,al.mono af (λ_ _ h=>h) hm,λ_=>⟨(ag rfl).1,U⟩⟩
theorem bq.old (h:bq true A R w cs k sizes zero D G aV H E):bq true (λi r=>A i r/\r<w.heap.size) R w cs k sizes zero D G aV H E:=by
 obtain⟨szv,V,W,X,Y,aa,rfl,h1,J,ab,ac,ad,ae,U⟩:=h;obtain⟨U,af⟩:=U rfl;have hm:∀i r,r<w.heap.size->A i r->A i r/\r<w.heap.size:=λi r ag h=>⟨h,ag⟩;exact⟨szv,V,W,X,Y,aa,rfl,h1,al.mono J (hm 0) λ_ _ h=>h,al.mono ab (hm 1) λ_ _ h=>h,al.mono ac (hm 2) λ_ _ h=>h,al.mono ad (hm 3) λ_ _ h=>h,al.mono ae (hm 4) λ_ _ h=>h,
  λ_=>⟨λi j r ah h1 J=>U i j r ah h1.1 J.1,λi r h=>af i r h.1⟩⟩
theorem qq {i:Nat} {B:ah} (h:∀i j r,i≠j->A i r->¬A j r) (U:∀j r,j≠i->B r->¬A j r):∀p q r,p≠q->ef A i B p r->¬ef A i B q r:=λp q r V h1 J=>by
 unfold ef at h1 J;split at h1<;>split at J
 .omega
 .exact U q r (by assumption) h1 J
 .exact U p r (by assumption) J h1
 .exact h p q r V h1 J
theorem qs {i:Nat} {B:ah} (h:∀i r,A i r->¬R r) (J:∀r,B r->¬R r):∀p r,ef A i B p r->¬R r:=λp r h1=>by
 unfold ef at h1;split at h1
 .exact J r h1
 .exact h p r h1
theorem bq.v7 {B:ah} {x:y0} {W:List (Λ)} (h:bq true A R w cs k sizes zero D G aV H E) {T:ah} (U:ae T w w') (X:∀r,T r->A 0 r\/(∀j,¬A j r)/\¬R r) (ac:bi B R w' [x] W) (ad:∀j r,j≠0->B r->¬A j r) (af:∀r,B r->¬R r):bq true (ef A 0 B) R w' (cs.set 3 x) k sizes zero W G aV H E:=by
 obtain⟨szv,au,ag,ai,aj,ak,rfl,h1,J,am,an,ao,ap,V⟩:=h;obtain⟨V,Y⟩:=V rfl;have aa:∀r,R r->¬T r:=λr h J=>(X r J).elim (λJ=>Y 0 r J h) λJ=>J.2 h;have aw:∀j r,j≠0->r<w.heap.size->A j r\/R r->¬T r:=λj r aq _ h J=>h.elim (λh=>(X r J).elim (λJ=>V j 0 r aq h J) λJ=>J.1 j h) λh=>aa r h J;refine⟨szv,x,ag,ai,aj,ak,rfl,al.ab h1 U λr _ h=>h.elim False.elim (aa r),?_,?_,?_,?_,?_,λ_=>⟨qq V ad,qs Y af⟩⟩
 .exact ac
 .exact al.ab am U λr=>aw 1 r Ω
 .exact al.ab an U λr=>aw 2 r Ω
 .exact al.ab ao U λr=>aw 3 r Ω
 .exact al.ab ap U λr=>aw 4 r Ω
theorem bq.CC {B:ah} {x:y0} {W:List Bool} (h:bq true A R w cs k sizes zero D G aV H E) {T:ah} (U:ae T w w') (X:∀r,T r->A 1 r\/(∀j,¬A j r)/\¬R r) (ac:bi B R w' [x] W) (ad:∀j r,j≠1->B r->¬A j r) (af:∀r,B r->¬R r):bq true (ef A 1 B) R w' (cs.set 4 x) k sizes zero D W aV H E:=by
 obtain⟨szv,ag,aq,ai,aj,ak,rfl,h1,J,au,am,an,ao,V⟩:=h;obtain⟨V,Y⟩:=V rfl;have aa:∀r,R r->¬T r:=λr h J=>(X r J).elim (λJ=>Y 1 r J h) λJ=>J.2 h;have aw:∀j r,j≠1->r<w.heap.size->A j r\/R r->¬T r:=λj r ap _ h J=>h.elim (λh=>(X r J).elim (λJ=>V j 1 r ap h J) λJ=>J.1 j h) λh=>aa r h J;refine⟨szv,ag,x,ai,aj,ak,rfl,al.ab h1 U λr _ h=>h.elim False.elim (aa r),?_,?_,?_,?_,?_,λ_=>⟨qq V ad,qs Y af⟩⟩
 .exact al.ab J U λr=>aw 0 r Ω
 .exact ac
 .exact al.ab am U λr=>aw 2 r Ω
 .exact al.ab an U λr=>aw 3 r Ω
 .exact al.ab ao U λr=>aw 4 r Ω
theorem bq.ha {B:ah} {x:y0} {W:List (Λ)} (h:bq true A R w cs k sizes zero D G aV H E) {T:ah} (U:ae T w w') (X:∀r,T r->A 2 r\/(∀j,¬A j r)/\¬R r) (ac:bi B R w' [x] W) (ad:∀j r,j≠2->B r->¬A j r) (af:∀r,B r->¬R r):bq true (ef A 2 B) R w' (cs.set 5 x) k sizes zero D G W H E:=by
 obtain⟨szv,ag,ai,aq,aj,ak,rfl,h1,J,am,au,an,ao,V⟩:=h;obtain⟨V,Y⟩:=V rfl;have aa:∀r,R r->¬T r:=λr h J=>(X r J).elim (λJ=>Y 2 r J h) λJ=>J.2 h;have aw:∀j r,j≠2->r<w.heap.size->A j r\/R r->¬T r:=λj r ap _ h J=>h.elim (λh=>(X r J).elim (λJ=>V j 2 r ap h J) λJ=>J.1 j h) λh=>aa r h J;refine⟨szv,ag,ai,x,aj,ak,rfl,al.ab h1 U λr _ h=>h.elim False.elim (aa r),?_,?_,?_,?_,?_,λ_=>⟨qq V ad,qs Y af⟩⟩
 .exact al.ab J U λr=>aw 0 r Ω
 .exact al.ab am U λr=>aw 1 r Ω
 .exact ac
 .exact al.ab an U λr=>aw 3 r Ω
 .exact al.ab ao U λr=>aw 4 r Ω
theorem bq.gp {B:ah} {x:y0} {W:List fu} (h:bq true A R w cs k sizes zero D G aV H E) {T:ah} (U:ae T w w') (X:∀r,T r->A 3 r\/(∀j,¬A j r)/\¬R r) (ac:bi B R w' [x] W) (ad:∀j r,j≠3->B r->¬A j r) (af:∀r,B r->¬R r):bq true (ef A 3 B) R w' (cs.set 6 x) k sizes zero D G aV W E:=by
 obtain⟨szv,ag,ai,aj,aq,ak,rfl,h1,J,am,an,au,ao,V⟩:=h;obtain⟨V,Y⟩:=V rfl;have aa:∀r,R r->¬T r:=λr h J=>(X r J).elim (λJ=>Y 3 r J h) λJ=>J.2 h;have aw:∀j r,j≠3->r<w.heap.size->A j r\/R r->¬T r:=λj r ap _ h J=>h.elim (λh=>(X r J).elim (λJ=>V j 3 r ap h J) λJ=>J.1 j h) λh=>aa r h J;refine⟨szv,ag,ai,aj,x,ak,rfl,al.ab h1 U λr _ h=>h.elim False.elim (aa r),?_,?_,?_,?_,?_,λ_=>⟨qq V ad,qs Y af⟩⟩
 .exact al.ab J U λr=>aw 0 r Ω
 .exact al.ab am U λr=>aw 1 r Ω
 .exact al.ab an U λr=>aw 2 r Ω
 .exact ac
 .exact al.ab ao U λr=>aw 4 r Ω
theorem bq.CD {B:ah} {x:y0} {W:List hW} (h:bq true A R w cs k sizes zero D G aV H E) {T:ah} (U:ae T w w') (X:∀r,T r->A 4 r\/(∀j,¬A j r)/\¬R r) (ac:bi B R w' [x] W) (ad:∀j r,j≠4->B r->¬A j r) (af:∀r,B r->¬R r):bq true (ef A 4 B) R w' (cs.set 7 x) k sizes zero D G aV H W:=by
 obtain⟨szv,ag,ai,aj,ak,aq,rfl,h1,J,am,an,ao,au,V⟩:=h;obtain⟨V,Y⟩:=V rfl;have aa:∀r,R r->¬T r:=λr h J=>(X r J).elim (λJ=>Y 4 r J h) λJ=>J.2 h;have aw:∀j r,j≠4->r<w.heap.size->A j r\/R r->¬T r:=λj r ap _ h J=>h.elim (λh=>(X r J).elim (λJ=>V j 4 r ap h J) λJ=>J.1 j h) λh=>aa r h J;refine⟨szv,ag,ai,aj,ak,x,rfl,al.ab h1 U λr _ h=>h.elim False.elim (aa r),?_,?_,?_,?_,?_,λ_=>⟨qq V ad,qs Y af⟩⟩
 .exact al.ab J U λr=>aw 0 r Ω
 .exact al.ab am U λr=>aw 1 r Ω
 .exact al.ab an U λr=>aw 2 r Ω
 .exact al.ab ao U λr=>aw 3 r Ω
 .exact ac
theorem bq.Mf {z:Int} (h:bq m A R w cs k sizes zero D G aV H E):bq m A R w (cs.set 2 (Δ z)) k sizes z D G aV H E:=by
 obtain⟨szv,J,U,V,W,X,rfl,h1,Y,aa,ab,ac,ad,ae⟩:=h;exact⟨szv,J,U,V,W,X,rfl,h1,Y,aa,ab,ac,ad,ae⟩
end
theorem ln {α:Type} [al α] {st an:o4} {pl:List (Nat×Nat)} {gs c q b ao:Nat} {ap y:y0} {box:List y0} {S A R:ah} {l:List α} {a:α} {K:x2->Prop}
  (aq:bG x3 st pl) (au:pl[c]? =σ (c,q+1)) (av:x3.underlying t=σ (.slice e)) (aw:aO x3 t 1 ao ap) (hi:aO x3 e (al.n α) b z) (ax:z.cells.size=al.n α)
  (ag:ad w gs st box) (az:box[c]? =σ v) (h:bi S R w [v] l) (J:b6 w (al.n α) y 1 cs) (aA:bi A R w cs a) (aB:∀r,r<w.heap.size->S r->¬A r/\¬R r) (X:¬S gs/\¬A gs/\¬R gs) (aG:(l.length+1)*b<=140737488355328) (aH:l.length+1<=1000000)
  (aC:∀W w',ae (λr=>S r\/r=gs) w w'->ad w' gs st (box.set c W)->bi (λr=>S r\/A r\/w.heap.size<=r) R w' [W] (l++[a])->K w'):
  ay x3 (j4 #[t,t] an #[v,y]) w λW aa=>U x3 (x8 st (Γ gs) c) aa λaD=>ay x3 (o7 t aD W) aa λ_ Y=>K Y:=by
 have aE:=(x4.1 az).1;refine mJ (A:=A) av hi ax h J aA (λr ai J V=>?_) Ω Ω λW aa ac aj=>?_
 .have:=aB r ai J;exact V.elim this.1 this.2
 have aF:ad aa gs st box:=ag.ab aj X.1;rw[aM aq au];refine bj (o:=0+c) aw (kf ac) (e7 ac) aF (by rw[V8];exact aE) λY ak aI am=>?_;refine aC W Y ((aj.mono λr _ h=>.inl h).trans (ak.mono λr _ h=>.inr h)) (by rw[V8] at am;exact am) (al.ab ac ak λr ai V af=>?_);have af:r=gs:=af;subst af;have aJ:=ag.lt;rcases V with V|V
 .rcases V with V|V|V
  .exact X.1 V
  .exact X.2.1 V
  .omega
 .exact X.2.2 V
section
variable {A:Nat->ah} {B R:ah} {w:x2} {cs xs:List y0} {gs:Nat} {y v:y0} {k zero:Int} {sizes:Λ} {D:List (Λ)} {G:List Bool} {aV:List (Λ)} {H:List fu} {E:List hW} {K:x2->Prop}
theorem bq.Mg {aq:o4} (h:bq true A R w cs k sizes zero D G aV H E) (ai:ad w gs aD cs) (ab:cs[3]? =σ v) (W:∀j r,A j r->gs<r) (Y:∀r,R r->r<gs) (J:b6 w 1 y 1 xs) (au:bi B R w xs a) (X:∀r,r<w.heap.size->B r->(∀j,¬A j r)/\gs<r) (aI:D.length<=1000)
  (av:∀aG bo w',ae (λr=>gs<=r) w w'->ad w' gs aD bo->bq true aG R w' bo k sizes zero (D++[a]) G aV H E->(∀j r,aG j r->gs<r)->(∀j,j≠3->bo[j]? =cs[j]?)->K w'):
  ay x3 (j4 #[cj,cj] aq #[v,y]) w λaj aa=>U x3 (x8 aD (Γ gs) 3) aa λaw=>ay x3 (o7 cj aw aj) aa λ_ ac=>K ac:=by
 have ak:=h.old;have ax:=ai.lt;obtain⟨szv,az,aJ,aK,aL,am,aA,h1,aB,aM,aN,aO,aP,ag⟩:=id ak;obtain⟨ag,an⟩:=ag rfl;have am:v=az:=by rw[aA] at ab;exact (Z9 ab).symm
 subst am;have aC:bi (λr=>B r/\r<w.heap.size) R w xs a:=al.mono au (λr V h=>⟨h,V⟩) λ_ _ h=>h;refine ln (pl:=_) (l:=D) aD.p rfl cj.u cj.i af.i rfl ai ab aB J aC (λr V ao=>⟨λaE=>(X r V aE.1).1 0 ao.1,an 0 r ao⟩) ⟨λh=>by have:=W 0 gs h.1;omega,λh=>by have:=(X gs ax h.1).2;omega,λh=>by have:=Y gs h;omega⟩ Ω Ω λaj ac ap aF aH=>?_;refine av _ _ ac (ap.mono λr _ h=>h.elim (λh=>by have:=W 0 r h.1;omega) λh=>Ω) aF (ak.v7 ap (λr V=>?_) aH (λj r ah V=>?_) λr V=>?_) (λj r V=>?_) λj ah=>?_
 .rcases V with V|rfl
  .exact .inl V
  .exact .inr ⟨λj h=>by have:=W j r h.1;omega,λh=>by have:=Y r h;omega⟩
 .rcases V with V|V|V
  .exact ag 0 j r (S6 ah) V
  .exact λh=>(X r V.2 V.1).1 j h.1
  .exact λh=>by have:=h.2;omega
 .rcases V with V|V|V
  .exact an 0 r V
  .exact λh=>by have:=(X r V.2 V.1).2;have:=Y r h;omega
  .exact λh=>by have:=Y r h;omega
 .unfold ef at V;split at V
  .rcases V with V|V|V
   .exact W 0 r V.1
   .exact (X r V.2 V.1).2
   .omega
  .exact W j r V.1
 .rw[V3 (S6 ah)]
theorem bq.Mh {a:Bool} {ap:o4} (h:bq true A R w cs k sizes zero D G aV H E) (ah:ad w gs aD cs) (ab:cs[4]? =σ v) (W:∀j r,A j r->gs<r) (Y:∀r,R r->r<gs) (J:b6 w 1 y 1 xs) (aq:bi B R w xs a) (X:∀r,r<w.heap.size->B r->(∀j,¬A j r)/\gs<r) (aH:G.length<=1000)
  (au:∀aG bo w',ae (λr=>gs<=r) w w'->ad w' gs aD bo->bq true aG R w' bo k sizes zero D (G++[a]) aV H E->(∀j r,aG j r->gs<r)->(∀j,j≠4->bo[j]? =cs[j]?)->K w'):
  ay x3 (j4 #[e4,e4] ap #[v,y]) w λai aa=>U x3 (x8 aD (Γ gs) 4) aa λav=>ay x3 (o7 e4 av ai) aa λ_ ac=>K ac:=by
 have aj:=h.old;have aw:=ah.lt;obtain⟨szv,aI,ax,aJ,aK,ak,az,h1,aL,aA,aM,aN,aO,af⟩:=id aj;obtain⟨af,am⟩:=af rfl;have ak:v=ax:=by rw[az] at ab;exact (Z9 ab).symm
 subst ak;have aB:bi (λr=>B r/\r<w.heap.size) R w xs a:=al.mono aq (λr V h=>⟨h,V⟩) λ_ _ h=>h;refine ln (pl:=_) (l:=G) aD.p rfl e4.u e4.i ec.i rfl ah ab aA J aB (λr V an=>⟨λaC=>(X r V aC.1).1 1 an.1,am 1 r an⟩) ⟨λh=>by have:=W 1 gs h.1;omega,λh=>by have:=(X gs aw h.1).2;omega,λh=>by have:=Y gs h;omega⟩ Ω Ω λai ac ao aE aF=>?_;refine au _ _ ac (ao.mono λr _ h=>h.elim (λh=>by have:=W 1 r h.1;omega) λh=>Ω) aE (aj.CC ao (λr V=>?_) aF (λj r ag V=>?_) λr V=>?_) (λj r V=>?_) λj ag=>?_
 .rcases V with V|rfl
  .exact .inl V
  .exact .inr ⟨λj h=>by have:=W j r h.1;omega,λh=>by have:=Y r h;omega⟩
 .rcases V with V|V|V
  .exact af 1 j r (S6 ag) V
  .exact λh=>(X r V.2 V.1).1 j h.1
  .exact λh=>by have:=h.2;omega
 .rcases V with V|V|V
  .exact am 1 r V
  .exact λh=>by have:=(X r V.2 V.1).2;have:=Y r h;omega
  .exact λh=>by have:=Y r h;omega
 .unfold ef at V;split at V
  .rcases V with V|V|V
   .exact W 1 r V.1
   .exact (X r V.2 V.1).2
   .omega
  .exact W j r V.1
 .rw[V3 (S6 ag)]
theorem bq.Mi {ap:o4} (h:bq true A R w cs k sizes zero D G aV H E) (ah:ad w gs aD cs) (ab:cs[5]? =σ v) (W:∀j r,A j r->gs<r) (Y:∀r,R r->r<gs) (J:b6 w 1 y 1 xs) (aq:bi B R w xs a) (X:∀r,r<w.heap.size->B r->(∀j,¬A j r)/\gs<r) (aI:aV.length<=1000)
  (av:∀aG bo w',ae (λr=>gs<=r) w w'->ad w' gs aD bo->bq true aG R w' bo k sizes zero D G (aV++[a]) H E->(∀j r,aG j r->gs<r)->(∀j,j≠5->bo[j]? =cs[j]?)->K w'):
  ay x3 (j4 #[dH,dH] ap #[v,y]) w λai aa=>U x3 (x8 aD (Γ gs) 5) aa λaw=>ay x3 (o7 dH aw ai) aa λ_ ac=>K ac:=by
 have aj:=h.old;have ax:=ah.lt;obtain⟨szv,aJ,aK,az,aL,ak,aA,h1,aM,aN,aB,aO,aP,af⟩:=id aj;obtain⟨af,am⟩:=af rfl;have ak:v=az:=by rw[aA] at ab;exact (Z9 ab).symm
 subst ak;have aC:bi (λr=>B r/\r<w.heap.size) R w xs a:=al.mono aq (λr V h=>⟨h,V⟩) λ_ _ h=>h;refine ln (pl:=_) (l:=aV) aD.p rfl dH.u dH.i au.i rfl ah ab aB J aC (λr V an=>⟨λaE=>(X r V aE.1).1 2 an.1,am 2 r an⟩) ⟨λh=>by have:=W 2 gs h.1;omega,λh=>by have:=(X gs ax h.1).2;omega,λh=>by have:=Y gs h;omega⟩ Ω Ω λai ac ao aF aH=>?_;refine av _ _ ac (ao.mono λr _ h=>h.elim (λh=>by have:=W 2 r h.1;omega) λh=>Ω) aF (aj.ha ao (λr V=>?_) aH (λj r ag V=>?_) λr V=>?_) (λj r V=>?_) λj ag=>?_
 .rcases V with V|rfl
  .exact .inl V
  .exact .inr ⟨λj h=>by have:=W j r h.1;omega,λh=>by have:=Y r h;omega⟩
 .rcases V with V|V|V
  .exact af 2 j r (S6 ag) V
  .exact λh=>(X r V.2 V.1).1 j h.1
  .exact λh=>by have:=h.2;omega
 .rcases V with V|V|V
  .exact am 2 r V
  .exact λh=>by have:=(X r V.2 V.1).2;have:=Y r h;omega
  .exact λh=>by have:=Y r h;omega
 .unfold ef at V;split at V
  .rcases V with V|V|V
   .exact W 2 r V.1
   .exact (X r V.2 V.1).2
   .omega
  .exact W j r V.1
 .rw[V3 (S6 ag)]
theorem bq.Mj {a:fu} {ap:o4} (h:bq true A R w cs k sizes zero D G aV H E) (ah:ad w gs aD cs) (ab:cs[6]? =σ v) (W:∀j r,A j r->gs<r) (Y:∀r,R r->r<gs) (J:b6 w 4 y 1 xs) (aq:bi B R w xs a) (X:∀r,r<w.heap.size->B r->(∀j,¬A j r)/\gs<r) (aH:H.length<=1000)
  (au:∀aG bo w',ae (λr=>gs<=r) w w'->ad w' gs aD bo->bq true aG R w' bo k sizes zero D G aV (H++[a]) E->(∀j r,aG j r->gs<r)->(∀j,j≠6->bo[j]? =cs[j]?)->K w'):
  ay x3 (j4 #[b8,b8] ap #[v,y]) w λai aa=>U x3 (x8 aD (Γ gs) 6) aa λav=>ay x3 (o7 b8 av ai) aa λ_ ac=>K ac:=by
 have aj:=h.old;have aw:=ah.lt;obtain⟨szv,aI,aJ,aK,ax,ak,az,h1,aL,aM,aN,aA,aO,af⟩:=id aj;obtain⟨af,am⟩:=af rfl;have ak:v=ax:=by rw[az] at ab;exact (Z9 ab).symm
 subst ak;have aB:bi (λr=>B r/\r<w.heap.size) R w xs a:=al.mono aq (λr V h=>⟨h,V⟩) λ_ _ h=>h;refine ln (pl:=_) (l:=H) aD.p rfl b8.u b8.i bT.i rfl ah ab aA J aB (λr V an=>⟨λaC=>(X r V aC.1).1 3 an.1,am 3 r an⟩) ⟨λh=>by have:=W 3 gs h.1;omega,λh=>by have:=(X gs aw h.1).2;omega,λh=>by have:=Y gs h;omega⟩ Ω Ω λai ac ao aE aF=>?_;refine au _ _ ac (ao.mono λr _ h=>h.elim (λh=>by have:=W 3 r h.1;omega) λh=>Ω) aE (aj.gp ao (λr V=>?_) aF (λj r ag V=>?_) λr V=>?_) (λj r V=>?_) λj ag=>?_
 .rcases V with V|rfl
  .exact .inl V
  .exact .inr ⟨λj h=>by have:=W j r h.1;omega,λh=>by have:=Y r h;omega⟩
 .rcases V with V|V|V
  .exact af 3 j r (S6 ag) V
  .exact λh=>(X r V.2 V.1).1 j h.1
  .exact λh=>by have:=h.2;omega
 .rcases V with V|V|V
  .exact am 3 r V
  .exact λh=>by have:=(X r V.2 V.1).2;have:=Y r h;omega
  .exact λh=>by have:=Y r h;omega
 .unfold ef at V;split at V
  .rcases V with V|V|V
   .exact W 3 r V.1
   .exact (X r V.2 V.1).2
   .omega
  .exact W j r V.1
 .rw[V3 (S6 ag)]
end
theorem mb {R:ah} {g:Nat} (h:ao .i64 e w g v l):bi (λr=>leads v r) R w [v] l:=by
 have h1:=mK (R:=R) h;by_cases U:v= .slice ν 0 0
 .subst U;have:l=[]:=by
   obtain⟨V,⟨_,J⟩|⟨_,_,J,_⟩⟩:=h
   .exact Z8 J
   .cases J
  subst this;exact fN
 .obtain⟨V,⟨J,_⟩|⟨cap,cs,J,_⟩⟩:=id h
  .exact absurd J U
  .refine al.mono h1 (λr _ W=>?_) λ_ _ h=>h;rw[J];exact⟨_,_,_,rfl,W.symm⟩
theorem v8 {R:ah} {g:Nat} (U:∀r c,B<=r->ad w r ac c->R r) (h:ao .i64 ac w g v l) (V:∀r,leads v r->B<=r):Seen R w [v] l:=lQ (mb (R:=λ_=>False) h) λr X J=>by
 rcases J with J|J
 .obtain⟨c,W⟩:=jQ h r J;exact U r c (V r J) W
 .exact J.elim
theorem Mk {R:ah} {zero:Int} {szv:y0} (h:Seen R w [szv] sizes):bq true (λ_ _=>False) R w [Δ k,szv,Δ zero,.slice ν 0 0,.slice ν 0 0,.slice ν 0 0,.slice ν 0 0,.slice ν 0 0] k sizes zero [] [] [] [] []:=
 ⟨_,_,_,_,_,_,rfl,h,fN,fN,fN,fN,fN,λ_=>⟨λ_ _ _ _ h=>h.elim,λ_ _ h=>h.elim⟩⟩
theorem bq.at {A:Nat->ah} {R:ah} {zero:Int} {D:List (Λ)} {G:List Bool} {aV:List (Λ)} {H:List fu} {E:List hW} (h:bq m A R w cs k sizes zero D G aV H E) (c:Nat) (J:c<8):∃v,cs[c]? =σ v:=⟨_,x6 (by rw[h.len.1];exact J)⟩
def Ml (R:ah) (w:x2) (U V gs:Nat) (n:aY) (W:List y0) (i j:Nat) (J:x2):Prop:=Ext w J/\ad J U dw W/\ad J V aD z12/\ ∃A cs,ad J gs aD cs/\(∀q r,A q r->gs<r)/\
 bq true A R J cs n.k n.sizes n.zero ((n.unary.take i).map λu=>bN (newVar u)) (o8 i false) (n.unary.take i) ((n.funs.take j).map λg=>eo (jJ n.sizes g)) []
theorem CE {b6:y0} {n:aY} {R:ah} (aW:∀r,R r->r<w.heap.size) (bx:∀r c,B<=r->ad w r ac c->R r) (cY:vJ w B b6 n) (aJ:jg n) (eC:n.funs.length<=256):ai x3 Ea [b6] w λv w'=>Ext w w'/\ ∃A cs,v= .agg cs.toArray/\gq true A R w' cs n.k n.sizes (eb n)/\ ∀q r,A q r->w.heap.size<=r:=by
 have eD:=aJ.sizes.2.1;have cZ:=aJ.jI;refine az func27 ?_;refine bP λg1 V eE bB c1=>?_;obtain⟨szv,gz,c2,eF,b9,c3,eH,bC,a1,a2,c4,ca,bD,c5,cb,c6,cc⟩:=L0 cY c1;refine bp aD.i λaq aa eI a6 a8=>?_;have a8:ad aa aq aD z12:=a8;have bE:=a1.ext a6;rw[av dw.p 0 bE rfl,av dw.p 1 bE rfl,av dw.p 2 bE rfl,
  c8 (cs:=#[Δ n.k,szv,Δ n.zero,.slice ν 0 0,.slice ν 0 0,.slice ν 0 0,.slice ν 0 0,.slice ν 0 0]) (by obtain⟨_,_,_,e⟩:=b7 a2.ls;rw[e];kernel_rfl)]
 refine bp aD.i λgs eJ eK ba c7=>?_;have c9:Seen R w [szv] n.sizes:=v8 bx a2 c6;have eL:=bB.size;have eM:=a6.size;have z3:=ba.size;have db:=(bB.trans a6).trans ba;have cd:=Mk (k:=n.k) (zero:=n.zero) (a7 c9 db);refine bK (vs:=[Δ n.k,szv,Δ n.zero,.slice ν 0 0,.slice ν 0 0,.slice ν 0 0,.slice ν 0 0,.slice ν 0 0]) aD.i rfl rfl cd.len.2 c7 λdc bF eN dd=>?_;have eO:=a8.lt;have eP:=a1.lt;have de:aq≠gs:=Ω
 have bG:Ext V dc:=(a6.trans ba).put bF Ω;have ce:=bB.trans bG;have df:=(a8.ext ba).ab bF λhe=>de he;have eQ:w.heap.size<gs:=Ω
 rw[av dw.p 1 (a1.ext bG) rfl,aU af.u (a2.ext ce).ls];have dg:=cd.ab bF λr J h he=>by
  have he:r=gs:=he;rcases h with⟨_,h⟩|h
  .exact h
  .have:=aW r h;omega
 refine b0.range n.sizes.length (λi aw=>Ml R w g1 aq gs n [Δ n.k,szv,Δ n.zero,c2,c3] i 0 aw) Ω ⟨ce,a1.ext bG,df,_,_,dd,(λ_ _ h=>h.elim),dg⟩ ?_ ?_
 .rintro i aw dh hi ⟨ay,bH,bI,A,cs,aK,bJ,bb⟩ di;obtain⟨z,bL⟩:=aN (l:=n.sizes) hi;obtain⟨u,hu⟩:=aN (l:=n.unary) (i:=i) Ω;have eR:=aJ.sizes.2.2 z (x5 bL);obtain⟨eS,_⟩:=aJ.unary i z u bL hu;refine bk Ω ?_;rw[bf af.u ac.i Ψ (a2.ext ay).ls bL];obtain⟨ch,rfl⟩:∃m:Nat,z=m:=⟨z.toNat,Ω⟩;refine bA.range ch (λj aM bc=>Ext aw bc/\ ∃g,ao .i64 ac bc g aM ((V0 j).map λv:Nat=>(v:Int))/\ ∀r,leads aM r->aw.heap.size<=r) Ω
   ⟨Ext.refl _,0,ao.nil _ _ _ _,λr J=>by obtain⟨a,n,c,aj,aA⟩:=J;cases aj⟩ ?_ ?_
  .rintro j aM bc bM bO ⟨ak,dj,aB,bd⟩ bQ;refine bk Ω ?_;refine dJ (k:=.i64) af.u ac.i rfl λeU eV dk eW ag dl=>?_;refine fc af.u ac.i rfl (aB.ext ag) dl.ls Θ Θ λeX dm dn dp dq aC=>?_;rw[aL];have dr:=ak.size;have ds:=ag.size;refine bQ _ _ ⟨(ak.trans ag).then aC λr J he=>by have:=bd r he;omega,dm,?_,λr J=>(dq r J).elim (bd r) λh=>Ω⟩;rw[List.range_succ,j9];exact dp
  rintro aM bc bM ⟨ak,dj,aB,bd⟩;refine b2 Ω ?_;have du:(V0 ch).map (λv:Nat=>(v:Int))=bN (newVar u):=by rw[L1];congr 2;omega
  rw[du] at aB;have dr:=ak.size;have eY:=ay.size;have e0:=aK.lt;have aO:∀r,R r->r<gs:=λr J=>by have:=aW r J;omega
  have low:∀ {U W:x2} {b:Nat} {e:o4} {c:List y0},ae (λr=>gs<=r) U W->b<gs->ad U b e c->ad W b e c:=λal dv h=>h.ab al λaE=>by have aE:gs<=_:=aE;omega
  have aP:∀ {U W:x2},Ext w U->ae (λr=>gs<=r) U W->Ext w W:=λbR al=>bR.then al λr J h=>by have h:gs<=r:=h;omega
  have ci:=bb.old.ext ak;have dx:∀q r,(A q r/\r<aw.heap.size)->gs<r:=λq r h=>bJ q r h.1;obtain⟨e1,ck⟩:=ci.at 3 Ω;rw[av aD.p 3 (aK.ext ak) ck];refine hp cj.u af.i Φ (a:=bN (newVar u)) (cs:=[aM]) aB.ls.cells.1 (mb (R:=R) aB) λe2 dk ag _ dy=>?_;have ds:=ag.size;have be:=ak.trans ag;refine bq.Mg (ci.ext ag) (aK.ext be) ck dx aO dy (a7 (mb (R:=R) aB) ag) (λr J h=>?_) Θ λe3 e5 dn aC cl cm dz _=>?_
  .have:=bd r h;exact⟨λj h=>Ω,Ω⟩
  have e6:=aC.size;obtain⟨e7,cn⟩:=cm.at 4 Ω;rw[av aD.p 4 cl cn];refine hp (a:=false) (cs:=[.bool false]) (A:=λ_=>False) (R:=R) e4.u ec.i Φ rfl rfl λe8 e9 aF _ dA=>?_;refine bq.Mh (a:=false) (xs:=[.bool false]) (B:=λ_=>False) (cm.ext aF) (cl.ext aF) cn dz aO dA rfl (λr J h=>h.elim) Θ λdC fa cp bg cq dD dE _=>?_;have z9:=aF.size;have fb:=bg.size;have dF:Ext w cp:=aP ((aP (ay.trans be) aC).trans aF) bg;have dG:=low bg Ω ((low aC Ω (bH.ext be)).ext aF);have dI:=low bg Ω ((low aC Ω (bI.ext be)).ext aF);intro bS aG _ _;have cr:=cq.ext aG;have ct:=dG.ext aG;have cu:=dF.trans aG;obtain⟨aH,bh⟩:∃aH,b9[i]? =σ aH:=⟨_,x6 (by have:=congrArg T9 ca;rw[u5] at this;omega)⟩;have dK:aH.l=u:=by
   have cw:(b9.map (·.l))[i]? =σ aH.l:=by rw[u4,bh];rfl
   rw[ca,hu] at cw;exact (Z9 cw).symm
  have bU:=c4.ext cu;obtain⟨fd,cz⟩:=bU.2 aH (x5 bh);rw[dK] at cz;have cA:=dD.old.ext aG;have dL:∀q r,(dC q r/\r<cp.heap.size)->gs<r:=λq r h=>dE q r h.1;obtain⟨fe,cB⟩:=cA.at 5 Ω;rw[av aD.p 5 cr cB,av dw.p 3 ct rfl,cE rfl dH.u au.i bU.1 (x4.1 bh).1,aS (v:=aH.v) (o:=i*1) Ψ (bU.1.range bh 0 _ rfl)];refine vM (k:=.i64) au.u an.i λdM ff fg fh bj cC=>?_;refine⟨.inl bj,?_⟩;refine fc au.u an.i rfl cC (cz.ext bj).ls Θ Θ λcD fi dN bl dO dP=>?_;rw[List.nil_append] at bl;have fj:=aG.size;have fk:=bj.size;have cF:∀r,leads dM r->bS.heap.size<=r:=λr J=>by have:=(bz cC J).1;omega
  have dQ:∀r,leads cD r->bS.heap.size<=r:=λr J=>(dO r J).elim (cF r) λh=>Ω
  have bV:Ext bS dN:=bj.then dP λr J he=>by have:=cF r he;omega
  refine⟨.inl bV,?_⟩;have fm:=bV.size;refine hp dH.u au.i Φ (a:=u) (cs:=[cD]) bl.ls.cells.1 (mb (R:=R) bl) λfo fp bW _ dR=>?_;have fq:=bW.size;have aI:=bV.trans bW;refine⟨.inl aI,?_⟩;refine bq.Mi (cA.ext aI) (cr.ext aI) cB dL aO dR (a7 (mb (R:=R) bl) bW) (λr J h=>?_) Θ λdS dT fs bX dU dV dW _=>?_
  .have:=dQ r h;have:=cq.lt;exact⟨λj h=>Ω,Ω⟩
  rw[aL];refine di _ ⟨aP (cu.trans aI) bX,low bX Ω (ct.ext aI),low bX Ω ((dI.ext aG).ext aI),dS,dT,dU,dW,?_⟩;rw[r9,hu,j6,j9,T2,List.map_nil,List.replicate_succ'];exact dV
 rintro aw dh ⟨ay,bH,bI,A,cs,aK,bJ,bb⟩;refine b2 Ω ?_;rw[n0 Ω] at bb;have ft:bC.length=n.funs.length:=by rw[<-cb,u5]
 have dX:=bD.ext ay;rw[av dw.p 4 bH rfl,dt cg.u dX];have aO:∀r,R r->r<gs:=λr J=>by have:=aW r J;omega
 have low:∀ {U W:x2} {b:Nat} {e:o4} {c:List y0},ae (λr=>gs<=r) U W->b<gs->ad U b e c->ad W b e c:=λal dv h=>h.ab al λaE=>by have aE:gs<=_:=aE;omega
 have aP:∀ {U W:x2},Ext w U->ae (λr=>gs<=r) U W->Ext w W:=λbR al=>bR.then al λr J h=>by have h:gs<=r:=h;omega
 refine b0.range bC.length (λj Y=>Ext w Y/\ad Y aq aD z12/\ ∃A cs,ad Y gs aD cs/\(∀q r,A q r->gs<r)/\
  bq true A R Y cs n.k n.sizes n.zero (n.unary.map λu=>bN (newVar u)) (o8 n.sizes.length false) n.unary ((n.funs.take j).map λg=>eo (jJ n.sizes g)) []) bD.le ⟨ay,bI,A,cs,aK,bJ,bb⟩ ?_ ?_
 .rintro j Y bM bO ⟨am,bY,bZ,bm,bn,bo,aQ⟩ bQ;obtain⟨y,aR⟩:=aN (l:=bC) bO;have cG:n.funs[j]? =σ (da y):=by rw[<-cb,u4,aR];rfl
  have cH:=(aJ.funs (da y) (x5 cG)).1;have fv:y.cs.length<=4096:=by
   have h1:y.cs.length=_:=cH.len;have aE:=cH.small;omega
  have cI:=c5 y (x5 aR);have cJ:=cI.ext am;have cK:=bD.ext am;refine bk Ω ?_;rw[cE rfl cg.u aX.i cK bO,br aX.p aX.i rfl (cK.range aR)];refine bp aX.i λfw fx fy dY dZ=>?_;refine bK (vs:=cO y) aX.i rfl rfl cJ.one dZ λea ed fz ee=>?_;have ef:Ext Y ea:=dY.put ed Ω;intro b1 cL _ _;have ap:=ef.trans cL;have cM:=bn.ext ap;have b3:=ee.ext cL;have eg:=cJ.ext ap;obtain⟨⟨fA,cN⟩,⟨fB,cP⟩,fC,eh⟩:=id eg;have cQ:=aQ.old.ext ap;have ei:∀q r,(bZ q r/\r<Y.heap.size)->gs<r:=λq r h=>bo q r h.1;obtain⟨fD,cR⟩:=cQ.at 6 Ω;rw[av aD.p 6 cM cR,av aX.p 0 b3 rfl,av aX.p 1 b3 rfl,av aX.p 2 b3 rfl];refine vM (k:=.i64) au.u an.i λv25 fE fF fG bt cS=>?_;refine⟨.inl bt,?_⟩;refine fc au.u an.i rfl cS (eh.ext bt).ls Θ Θ λX fH cT bu ej ek=>?_;rw[List.nil_append] at bu;have fI:=ap.size;have z25:=bt.size;have cU:∀r,leads v25 r->b1.heap.size<=r:=λr J=>by have:=(bz cS J).1;omega
  have em:∀r,leads X r->b1.heap.size<=r:=λr J=>(ej r J).elim (cU r) λh=>Ω
  have bw:Ext b1 cT:=bt.then ek λr J he=>by have:=cU r he;omega
  refine⟨.inl bw,?_⟩;rw[c8 (cs:=#[y.ax,y.szv,X]) (by obtain⟨_,_,_,aj⟩:=b7 cN.ls;obtain⟨_,_,_,aA⟩:=b7 cP.ls;obtain⟨_,_,_,aT⟩:=b7 bu.ls;rw[aj,aA,aT];kernel_rfl),
   c8 (cs:=#[y.ax,y.szv,X,.bool true]) (by obtain⟨_,_,_,aj⟩:=b7 cN.ls;obtain⟨_,_,_,aA⟩:=b7 cP.ls;obtain⟨_,_,_,aT⟩:=b7 bu.ls;rw[aj,aA,aT];kernel_rfl)]
  have fJ:=bw.size;have cV:=(am.trans ap).trans bw;obtain⟨⟨aZ,en⟩,⟨fK,ep⟩,_⟩:=id cI;have own:bi (α:=fu) (λr=>leads X r) R cT [y.ax,y.szv,X,.bool true] (eo (jJ n.sizes (da y))):=by
   refine⟨[y.ax,y.szv,X],[.bool true],λr=>leads X r,λ_=>False,rfl,λ_ h=>h,λ_ h=>h.elim,λ_ _ _ h=>h,⟨[y.ax],[y.szv,X],λ_=>False,λr=>leads X r,rfl,λ_ h=>h.elim,λ_ h=>h,λ_ _ h=>h.elim,?_,[y.szv],[X],λ_=>False,λr=>leads X r,rfl,λ_ h=>h.elim,λ_ h=>h,λ_ _ h=>h.elim,?_,?_⟩,rfl⟩
   .exact a7 (v8 bx en λr J=>cc y (x5 aR) r (.inr (.inl J))) cV
   .exact a7 (v8 bx ep λr J=>cc y (x5 aR) r (.inr (.inr J))) cV
   .exact mb bu
  refine hp b8.u bT.i Φ rfl own λfL fM b4 _ er=>?_;have fN:=b4.size;have aV:=bw.trans b4;refine⟨.inl aV,?_⟩;refine bq.Mj (cQ.ext aV) (cM.ext aV) cR ei aO er (a7 own b4) (λr J h=>?_) Θ λes et fO cW eu ev ew _=>?_
  .have:=em r h;have:=bn.lt;exact⟨λj h=>Ω,Ω⟩
  rw[aL];refine bQ _ ⟨aP (am.trans (ap.trans aV)) cW,low cW Ω (bY.ext (ap.trans aV)),es,et,eu,ew,?_⟩;rw[r9,cG,j6,j9,T2,List.map_nil];exact ev
 rintro Y bM ⟨am,bY,bZ,bm,bn,bo,aQ⟩;rw[n0 Ω] at aQ;refine b2 Ω ?_;obtain⟨b5,ey⟩:=aQ.len;rw[br aD.p aD.i b5 (show Y.rangeAt gs 0 bm from bn.range)];refine bK (vs:=bm) aD.i b5 rfl ey bY λfP cX fQ ez=>?_;rw[eZ aD.p aD.i b5 ez.range];have eA:=aQ.ab cX λr J h he=>by
  have he:r=aq:=he;rcases h with⟨q,h⟩|h
  .have:=bo q r h;omega
  .have:=aW r h;omega
 have fR:=am.size;refine⟨am.then cX λr J he=>by have he:r=aq:=he;omega,bZ,bm,rfl,?_,λq r h=>by have:=bo q r h;omega⟩;have aj:(eb n).vars.map bN=n.unary.map λu=>bN (newVar u):=by show (n.unary.map newVar).map bN=_;rw[List.map_map];rfl
 have aA:(eb n).vars.map (λx=>decide (x.gone≠0))=o8 n.sizes.length false:=by
  show (n.unary.map newVar).map _=_;rw[List.map_map,<-cZ];exact List.map_const' ..
 have aT:(eb n).vars.map (·.un)=n.unary:=by show (n.unary.map newVar).map _=_;rw[List.map_map];exact List.map_id _
 have eB:(eb n).funs.map eo=n.funs.map λg=>eo (jJ n.sizes g):=by show (n.funs.map (jJ n.sizes)).map eo=_;rw[List.map_map];rfl
 unfold gq;rw[aj,aA,aT,eB];exact eA
section
variable {A:Nat->ah} {B R:ah} {w:x2} {cs xs:List y0} {gs:Nat} {y v:y0} {k zero:Int} {sizes:Λ} {D:List (Λ)} {G:List Bool} {aV:List (Λ)} {H:List fu} {E:List hW} {K:x2->Prop} {Z:ah}
theorem bq.Mm {az:o4} (h:bq true A R w cs k sizes zero D G aV H E) (am:ad w gs aD cs) (ab:cs[3]? =σ v) (ac:∀j r,A j r->gs<r\/Z r) (W:∀r,Z r->r<gs/\A 4 r) (Y:∀r,R r->r<gs) (J:b6 w 1 y 1 xs) (aA:bi B R w xs a) (X:∀r,r<w.heap.size->B r->(∀j,¬A j r)/\gs<r) (aO:D.length<=1000)
  (aB:∀aG bo w',ae (λr=>gs<=r) w w'->ad w' gs aD bo->bq true aG R w' bo k sizes zero (D++[a]) G aV H E->(∀j r,aG j r->gs<r\/Z r)->(∀r,Z r->r<gs/\aG 4 r)->(∀j,j≠3->bo[j]? =cs[j]?)->K w'):
  ay x3 (j4 #[cj,cj] az #[v,y]) w λan aa=>U x3 (x8 aD (Γ gs) 3) aa λaC=>ay x3 (o7 cj aC an) aa λ_ ag=>K ag:=by
 have ao:=h.old;have aE:∀i j r,i≠j->A i r->¬A j r:=by obtain⟨_,_,_,_,_,_,_,_,_,_,_,_,_,aF⟩:=id h;exact (aF rfl).1
 have ap:∀r,A 0 r->gs<r:=λr h=>(ac 0 r h).resolve_right λah=>aE 0 4 r Ω h (W r ah).2;have aq:∀j,¬A j gs:=λj h=>(ac j gs h).elim (λh=>Ω) λh=>by have:=(W gs h).1;omega
 have aH:=am.lt;obtain⟨szv,aI,aP,aQ,aR,au,aJ,h1,ah,aS,aT,aU,aW,ai⟩:=id ao;obtain⟨ai,av⟩:=ai rfl;have au:v=aI:=by rw[aJ] at ab;exact (Z9 ab).symm
 subst au;have aK:bi (λr=>B r/\r<w.heap.size) R w xs a:=al.mono aA (λr V h=>⟨h,V⟩) λ_ _ h=>h;refine ln (pl:=_) (l:=D) aD.p rfl cj.u cj.i af.i rfl am ab ah J aK (λr V aw=>⟨λaL=>(X r V aL.1).1 0 aw.1,av 0 r aw⟩) ⟨λh=>aq 0 h.1,λh=>by have:=(X gs aH h.1).2;omega,λh=>by have:=Y gs h;omega⟩ Ω Ω λan ag ax aM aN=>?_;refine aB _ _ ag (ax.mono λr _ h=>h.elim (λh=>by have:=ap r h.1;omega) λh=>Ω) aM (ao.v7 ax (λr V=>?_) aN (λj r aj V=>?_) λr V=>?_) (λj r V=>?_) (λr ak=>⟨(W r ak).1,?_⟩) λj aj=>?_
 .rcases V with V|rfl
  .exact .inl V
  .exact .inr ⟨λj h=>aq j h.1,λh=>by have:=Y r h;omega⟩
 .rcases V with V|V|V
  .exact ai 0 j r (S6 aj) V
  .exact λh=>(X r V.2 V.1).1 j h.1
  .exact λh=>by have:=h.2;omega
 .rcases V with V|V|V
  .exact av 0 r V
  .exact λh=>by have:=(X r V.2 V.1).2;have:=Y r h;omega
  .exact λh=>by have:=Y r h;omega
 .unfold ef at V;split at V
  .rcases V with V|V|V
   .exact .inl (ap r V.1)
   .exact .inl (X r V.2 V.1).2
   .exact .inl Ω
  .exact ac j r V.1
 .unfold ef;rw[if_neg Ω];exact⟨(W r ak).2,by have:=(W r ak).1;omega⟩
 .rw[V3 (S6 aj)]
theorem bq.Mn {az:o4} (h:bq true A R w cs k sizes zero D G aV H E) (aj:ad w gs aD cs) (ab:cs[5]? =σ v) (ac:∀j r,A j r->gs<r\/Z r) (W:∀r,Z r->r<gs/\A 4 r) (Y:∀r,R r->r<gs) (J:b6 w 1 y 1 xs) (aA:bi B R w xs a) (X:∀r,r<w.heap.size->B r->(∀j,¬A j r)/\gs<r) (aP:aV.length<=1000)
  (aB:∀aG bo w',ae (λr=>gs<=r) w w'->ad w' gs aD bo->bq true aG R w' bo k sizes zero D G (aV++[a]) H E->(∀j r,aG j r->gs<r\/Z r)->(∀r,Z r->r<gs/\aG 4 r)->(∀j,j≠5->bo[j]? =cs[j]?)->K w'):
  ay x3 (j4 #[dH,dH] az #[v,y]) w λak aa=>U x3 (x8 aD (Γ gs) 5) aa λaC=>ay x3 (o7 dH aC ak) aa λ_ af=>K af:=by
 have am:=h.old;have aE:∀i j r,i≠j->A i r->¬A j r:=by obtain⟨_,_,_,_,_,_,_,_,_,_,_,_,_,aF⟩:=id h;exact (aF rfl).1
 have an:∀r,A 2 r->gs<r:=λr h=>(ac 2 r h).resolve_right λao=>aE 2 4 r Ω h (W r ao).2;have ap:∀j,¬A j gs:=λj h=>(ac j gs h).elim (λh=>Ω) λh=>by have:=(W gs h).1;omega
 have aH:=aj.lt;obtain⟨szv,aQ,aR,aI,aS,aq,aJ,h1,ao,aT,aK,aU,aW,ag⟩:=id am;obtain⟨ag,av⟩:=ag rfl;have aq:v=aI:=by rw[aJ] at ab;exact (Z9 ab).symm
 subst aq;have aL:bi (λr=>B r/\r<w.heap.size) R w xs a:=al.mono aA (λr V h=>⟨h,V⟩) λ_ _ h=>h;refine ln (pl:=_) (l:=aV) aD.p rfl dH.u dH.i au.i rfl aj ab aK J aL (λr V aw=>⟨λaM=>(X r V aM.1).1 2 aw.1,av 2 r aw⟩) ⟨λh=>ap 2 h.1,λh=>by have:=(X gs aH h.1).2;omega,λh=>by have:=Y gs h;omega⟩ Ω Ω λak af ax aN aO=>?_;refine aB _ _ af (ax.mono λr _ h=>h.elim (λh=>by have:=an r h.1;omega) λh=>Ω) aN (am.ha ax (λr V=>?_) aO (λj r ah V=>?_) λr V=>?_) (λj r V=>?_) (λr ai=>⟨(W r ai).1,?_⟩) λj ah=>?_
 .rcases V with V|rfl
  .exact .inl V
  .exact .inr ⟨λj h=>ap j h.1,λh=>by have:=Y r h;omega⟩
 .rcases V with V|V|V
  .exact ag 2 j r (S6 ah) V
  .exact λh=>(X r V.2 V.1).1 j h.1
  .exact λh=>by have:=h.2;omega
 .rcases V with V|V|V
  .exact av 2 r V
  .exact λh=>by have:=(X r V.2 V.1).2;have:=Y r h;omega
  .exact λh=>by have:=Y r h;omega
 .unfold ef at V;split at V
  .rcases V with V|V|V
   .exact .inl (an r V.1)
   .exact .inl (X r V.2 V.1).2
   .exact .inl Ω
  .exact ac j r V.1
 .unfold ef;rw[if_neg Ω];exact⟨(W r ai).2,by have:=(W r ai).1;omega⟩
 .rw[V3 (S6 ah)]
theorem bq.Mo {a:fu} {ax:o4} (h:bq true A R w cs k sizes zero D G aV H E) (aj:ad w gs aD cs) (ab:cs[6]? =σ v) (ac:∀j r,A j r->gs<r\/Z r) (W:∀r,Z r->r<gs/\A 4 r) (Y:∀r,R r->r<gs) (J:b6 w 4 y 1 xs) (az:bi B R w xs a) (X:∀r,r<w.heap.size->B r->(∀j,¬A j r)/\gs<r) (aO:H.length<=1000)
  (aA:∀aG bo w',ae (λr=>gs<=r) w w'->ad w' gs aD bo->bq true aG R w' bo k sizes zero D G aV (H++[a]) E->(∀j r,aG j r->gs<r\/Z r)->(∀r,Z r->r<gs/\aG 4 r)->(∀j,j≠6->bo[j]? =cs[j]?)->K w'):
  ay x3 (j4 #[b8,b8] ax #[v,y]) w λak aa=>U x3 (x8 aD (Γ gs) 6) aa λaB=>ay x3 (o7 b8 aB ak) aa λ_ af=>K af:=by
 have am:=h.old;have aC:∀i j r,i≠j->A i r->¬A j r:=by obtain⟨_,_,_,_,_,_,_,_,_,_,_,_,_,aE⟩:=id h;exact (aE rfl).1
 have an:∀r,A 3 r->gs<r:=λr h=>(ac 3 r h).resolve_right λao=>aC 3 4 r Ω h (W r ao).2;have ap:∀j,¬A j gs:=λj h=>(ac j gs h).elim (λh=>Ω) λh=>by have:=(W gs h).1;omega
 have aF:=aj.lt;obtain⟨szv,aP,aQ,aR,aH,aq,aI,h1,ao,aS,aT,aJ,aU,ag⟩:=id am;obtain⟨ag,au⟩:=ag rfl;have aq:v=aH:=by rw[aI] at ab;exact (Z9 ab).symm
 subst aq;have aK:bi (λr=>B r/\r<w.heap.size) R w xs a:=al.mono az (λr V h=>⟨h,V⟩) λ_ _ h=>h;refine ln (pl:=_) (l:=H) aD.p rfl b8.u b8.i bT.i rfl aj ab aJ J aK (λr V av=>⟨λaL=>(X r V aL.1).1 3 av.1,au 3 r av⟩) ⟨λh=>ap 3 h.1,λh=>by have:=(X gs aF h.1).2;omega,λh=>by have:=Y gs h;omega⟩ Ω Ω λak af aw aM aN=>?_;refine aA _ _ af (aw.mono λr _ h=>h.elim (λh=>by have:=an r h.1;omega) λh=>Ω) aM (am.gp aw (λr V=>?_) aN (λj r ah V=>?_) λr V=>?_) (λj r V=>?_) (λr ai=>⟨(W r ai).1,?_⟩) λj ah=>?_
 .rcases V with V|rfl
  .exact .inl V
  .exact .inr ⟨λj h=>ap j h.1,λh=>by have:=Y r h;omega⟩
 .rcases V with V|V|V
  .exact ag 3 j r (S6 ah) V
  .exact λh=>(X r V.2 V.1).1 j h.1
  .exact λh=>by have:=h.2;omega
 .rcases V with V|V|V
  .exact au 3 r V
  .exact λh=>by have:=(X r V.2 V.1).2;have:=Y r h;omega
  .exact λh=>by have:=Y r h;omega
 .unfold ef at V;split at V
  .rcases V with V|V|V
   .exact .inl (an r V.1)
   .exact .inl (X r V.2 V.1).2
   .exact .inl Ω
  .exact ac j r V.1
 .unfold ef;rw[if_neg Ω];exact⟨(W r ai).2,by have:=(W r ai).1;omega⟩
 .rw[V3 (S6 ah)]
end
def jR (w:x2) (g:Nat) (k:Int) (sizes:Λ) (s:aB):Prop:=∃szv J U V W X,ad w g aD [Δ k,szv,Δ s.zero,J,U,V,W,X]/\aH .i64 w szv sizes/\Seen dr w [szv] sizes/\
 Seen dr w [J] (s.vars.map bN)/\Seen dr w [U] (s.vars.map λx=>decide (x.gone≠0))/\Seen dr w [V] (s.vars.map (·.un))/\Seen dr w [W] (s.funs.map eo)/\Seen dr w [X] (s.elims.map iM)
section
variable {w w':x2} {g:Nat} {v:y0} {k:Int} {sizes:Λ} {s:aB}
theorem jR.ext (h:jR w g k sizes s) (J:Ext w w'):jR w' g k sizes s:=by
 obtain⟨szv,U,V,W,X,Y,aa,h1,ab,ac,ad,ae,af,ag⟩:=h;exact⟨szv,U,V,W,X,Y,aa.ext J,h1.ext J,a7 ab J,a7 ac J,a7 ad J,a7 ae J,a7 af J,a7 ag J⟩
theorem gK.box (h:gK w v k sizes s) (J:Ext w w') (U:ad w' g aD v.cells.toList):jR w' g k sizes s:=by
 obtain⟨cs,rfl,szv,ab,ac,ae,af,ag,rfl,h1,V,W,X,Y,aa,_⟩:=h;obtain⟨_,_,_,ai⟩:=b7 (c4 h1);have c:∀ {α:Type} [al α] {v:y0} {l:List α} {A:ah},al.rep false A dr w [v] l-> ∃a n c,v= .slice a n c:=λh=>by
  obtain⟨_,_,_,_,_,⟨_,b,o,base,cap,e,_⟩,_⟩:=gw h;exact⟨_,_,_,e⟩
 obtain⟨_,_,_,aj⟩:=c V;obtain⟨_,_,_,ak⟩:=c W;obtain⟨_,_,_,am⟩:=c X;obtain⟨_,_,_,an⟩:=c Y;obtain⟨_,_,_,ao⟩:=c aa;refine⟨szv,ab,ac,ae,af,ag,?_,(c4 h1).ext J,a7 h1 J,a7 V J,a7 W J,a7 X J,a7 Y J,a7 aa J⟩;rw[ai,aj,ak,am,an,ao] at U ⊢;exact U
theorem jR.load {K:y0->Prop} (h:jR w g k sizes s) (J:∀u,gK w u k sizes s->K u):U x3 (x7 aD (Γ g)) w K:=by
 obtain⟨szv,V,W,X,Y,aa,ab,h1,ac,ad,ae,af,ag,ah⟩:=h;rw[br aD.p aD.i rfl ab.range];exact J _ ⟨_,rfl,szv,V,W,X,Y,aa,rfl,ac,ad,ae,af,ag,ah,λh=>by cases h⟩
theorem qt {i:Int} (h:gK w v k sizes s):ai x3 nP [v,Δ i] w λr w'=>r= .bool (decide (0<=i/\i<sizes.length))/\Ext w w':=by
 refine az func40 ?_;refine bP λg1 V ab J U=>?_;obtain⟨szv,ac,ad,ae,ag,ah,U,Y,_⟩:=h.box J U;refine aR (λv aa=>v= .bool (decide (0<=i/\i<sizes.length))/\Ext w aa) (λ_ _ h=>h) λaj W=>?_;rw[cr,ak];refine⟨λX=>?_,λX=>W _ _ ⟨by rw[decide_eq_false];omega,J⟩⟩;rw[av aD.p 1 U rfl,aU af.u Y,aQ];refine W _ _ ⟨?_,J⟩;congr 1;exact decide_eq_decide.2 ⟨λh=>⟨X,h⟩,λh=>h.2⟩
theorem qu {S R:ah} {f:dE} (h:al.rep (α:=fu) m S R w cs (eo f)):∃ax szv aI,cs=[ax,szv,aI,.bool (decide (f.live≠0))]/\Seen dr w [ax] f.sc/\Seen dr w [szv] f.szs/\Seen dr w [aI] f.cs:=by
 obtain⟨af,W,A,B,rfl,_,_,_,⟨X,ag,aG,ai,rfl,_,_,_,h1,Y,aa,aj,ab,rfl,_,_,_,J,U⟩,V⟩:=h;have one:∀ {α:Type} [al α] {m:Bool} {S R:ah} {c:List y0} {l:List α},al.rep m S R w c l-> ∃v,c=[v]:=λh=>by obtain⟨v,ac,_⟩:=h;exact⟨v,ac⟩
 have h1:Seen _ w X f.sc:=h1;have J:Seen _ w Y f.szs:=J;have V:W=[.bool (decide (f.live≠0))]:=V;have U:al.rep m ab R w aa f.cs:=U;obtain⟨ad,rfl⟩:=one h1;obtain⟨ae,rfl⟩:=one J;obtain⟨v3,rfl⟩:=one U;subst V;exact⟨ad,ae,v3,rfl,gQ h1,gQ J,gQ U⟩
theorem wa {j:Int} (h:gK w v k sizes s):ai x3 tH [v,Δ j] w λr w'=>r= .bool (decide (0<=j)&&dR s j.toNat)/\Ext w w':=by
 refine az func44 ?_;refine bP λg1 V ae J U=>?_;obtain⟨szv,af,ag,ah,aj,al,U,am,_,_,_,_,Y,_⟩:=h.box J U;refine aR (λv aa=>v= .bool (decide (0<=j)&&dR s j.toNat)/\Ext w aa) (λ_ _ h=>h) λan W=>?_;rw[cr,ak];refine⟨λX=>?_,λX=>W _ _ ⟨by rw[decide_eq_false X];rfl,J⟩⟩;rw[av aD.p 6 U rfl,eh b8.u Y,aQ,ak,u5];refine⟨λao=>?_,λap=>W _ _ ⟨by unfold dR;rw[Y9 Ω,Bool.and_false],J⟩⟩;obtain⟨f,ab⟩:=aN (l:=s.funs) (i:=j.toNat) Ω;rw[av aD.p 6 U rfl];refine iY (i:=j.toNat) Ω b8.u bT.i Y (by rw[u4,ab];rfl) λb o cs ac ad=>?_;obtain⟨aq,au,v3,rfl,_⟩:=qu ad;rw[aM bT.p rfl,aS (v:=.bool (decide (f.live≠0))) Ψ (ac 3 _ rfl)];exact W _ _ ⟨by unfold dR;rw[ab,decide_eq_true X,V6],J⟩
theorem Mp {f:dE} {W:Λ} (h:gK w v k sizes s) (Y:dA k sizes s) (X:s.funs[j]? =σ f) (ab:aH .i64 w aF W):ai x3 xN [v,Δ (j:Int),aF] w λr w'=>r=Δ (og (bh f.szs) W)/\Ext w w':=by
 refine az func45 ?_;refine bP λg1 V aj J U=>?_;obtain⟨szv,ak,al,am,an,ao,U,ap,_,_,_,_,ac,_⟩:=h.box J U;rw[av aD.p 6 U rfl];refine iY (i:=j) rfl b8.u bT.i ac (by rw[u4,X];rfl) λb o cs ad ae=>?_;obtain⟨aq,af,v3,rfl,_,ag,_⟩:=qu ae;rw[aM bT.p rfl,aM aX.p rfl,aS (v:=af) Ψ (ad 1 _ rfl)];refine (Ht (c4 ag) (qn Y (x5 X)).1 (ab.ext J)).mono ?_;rintro _ aa _ ⟨rfl,ah⟩;exact⟨rfl,J.trans ah⟩
end
end Go.Proofs.YthjegppepbbojaaGreatDoor
namespace Go.Vc
open Go Go.RowKit
section
variable {P:V2} {w:x2} {α:Type} [al α] {S R:ah}
theorem qv {b:Nat} (J:P.underlying t=σ (.slice e)) (hi:aO P e (al.n α) b z)
  (U:∀v w',Ext w w'->bi (λr=>w.heap.size<=r) R w' [v] ([]:List α)->K v w'):ay P (Y1 t 0 #[]) w K:=
 iX J hi Ω (cs:=#[]) (by simp[Instr.fill]) λg w' Y V W=>U _ w' V (by
  have hm:b1 w' g e (al.n α) (.slice (σ ⟨g,0,ν⟩) 0 0) 0 []:=b1.full (by simpa using W) Ξ (by simp[maxLen]);exact⟨_,rfl,[],g,λ_ _=>False,⟨λ_ _ h=>h.elim,λ_ _ h=>h,λ_ _ _ _ _ h=>h.elim⟩,⟨rfl,λi c a X=>by simp at X⟩,mI hm (.inr (.inl Ω)),λ_=>⟨.inr Ω,e,hm⟩⟩)
theorem qw {W:o4} {b:Nat} {x:y0} {S':ah} {l':List α} (V:P.underlying t=σ (.slice e)) (hi:aO P e (al.n α) b z) (X:z.cells.size=al.n α)
  (h:bi S R w [v] ([]:List α)) (Y:al.rep m S' R w [x] l') (aa:∀ {F:ah} {c:List y0} {a:α},al.rep m F R w c a->bi (λ_=>False) R w c a)
  (ab:∀r,r<w.heap.size->S r->¬R r) (ac:l'.length*b<=140737488355328) (ad:l'.length<=9223372036854775807)
  (af:∀U w',bi (λr=>S r\/w.heap.size<=r) R w' [U] l'->ae S w w'->K U w'):ay P (j4 #[t,t] W #[v,x]) w K:=by
 obtain⟨vs,g,F,am,he,J,_⟩:=gw Y;refine yE (l:=[]) (l':=l') (us:=vs) (G:=λ_ _=>False) V V hi X h J.sl ⟨he.1,λi c a ag ai=>aa (he.2 i c a ag ai)⟩ (λ_ _ _ _ h=>h.elim) (λr aj h=>⟨λ_ h=>h,ab r aj h⟩) (by simpa using ac) (by simpa using ad) λU w' h1 ak=>af U w' (al.mono h1 (λr _ h=>?_) λ_ _ h=>h) ak;rcases h with h|⟨_,h⟩|h
 .exact .inl h
 .exact h.elim
 .exact .inr h
end
end Go.Vc
namespace Go.Proofs.YthjegppepbbojaaGreatDoor
open Go Go.Vc Go.RowKit Go.Proofs Go.Proofs.Tryz
set_option maxRecDepth 100000
theorem oV {α:Type} [al α] {S R:ah} {l:List α} (h:al.rep m S R w [v] l):∃a n c,v= .slice a n c:=by
 obtain⟨_,_,_,_,_,⟨_,b,o,base,cap,e,_⟩,_⟩:=gw h;exact⟨_,_,_,e⟩
theorem Mq {cw:Nat->ah} {R:ah} {s:aB} (h:gq true cw R w cs k sizes s) (X:∀r,R r->r<w.heap.size) (a6:dA k sizes s) (fh:s.funs.length<=1000) (he:s.elims.length<=1000):
  ai x3 D3 [.agg cs.toArray] w λv w'=>Ext w w'/\ ∃A bo,v= .agg bo.toArray/\gq true A R w' bo k sizes s/\ ∀q r,A q r->w.heap.size<=r:=by
 have fi:=a6.ej.2.1;have fj:=a6.vars;obtain⟨szv,aF,aG,aH,aI,aj,rfl,cz,bJ,cA,cB,bL,bM,dm⟩:=bq.old h;refine az func17 ?_;refine bP λg1 V fk cC ap=>?_;have ap:ad V g1 aD [Δ k,szv,Δ s.zero,aF,aG,aH,aI,aj]:=by
  obtain⟨_,_,_,dn⟩:=oV cz;obtain⟨_,_,_,dp⟩:=oV bJ;obtain⟨_,_,_,dq⟩:=oV cA;obtain⟨_,_,_,dr⟩:=oV cB;obtain⟨_,_,_,ds⟩:=oV bL;obtain⟨_,_,_,dt⟩:=oV bM;rw[dn,dp,dq,dr,ds,dt] at ap ⊢;exact ap
 have du:∀u∈([Δ k,szv,Δ s.zero,aF,aG,aH,aI,aj]:List y0),u.oneCell'=true:=(bq.len h).2;refine bp aD.i λaJ aa fm bO cD=>?_;rw[br aD.p aD.i rfl (ap.ext bO).range];refine bp aD.i λgs fo fp bQ dv=>?_;refine bK (vs:=[Δ k,szv,Δ s.zero,aF,aG,aH,aI,aj]) aD.i rfl rfl du dv λaq cE fq cF=>?_;have fs:=cC.size;have ft:=bO.size;have z3:=bQ.size;have fv:=ap.lt;have fw:=cD.lt;have bS:Ext V aq:=(bO.trans bQ).put cE Ω;have dw:=(cD.ext bQ).ab cE λhe=>by have he:aJ=gs:=he;omega
 have cG:=cC.trans bS;have bU:∀r,R r->r<gs:=λr U=>by have:=X r U;omega
 refine qv (α:=Bool) (R:=R) e4.u ec.i λv5 aw aK dx=>?_;have a8:=bS.trans aK;have z4:=bS.size;have z5:=aK.size;rw[av aD.p 4 (ap.ext a8) rfl];refine qw (α:=Bool) e4.u ec.i rfl dx (a7 (a7 cA cG) aK) (λh=>h) (λr U J ag=>by have:=X r ag;omega) Θ Θ λbV bl bW cH=>?_;have bc:∀ {ak am:x2} {b:Nat} {e:o4} {c:List y0},ae (λr=>gs<=r) ak am->b<gs->ad ak b e c->ad am b e c:=λbX fx h=>h.ab bX λJ=>by have J:gs<=_:=J;omega
 have ba:∀ {ak am:x2},Ext w ak->ae (λr=>gs<=r) ak am->Ext w am:=λdy bX=>dy.then bX λr U h=>by have h:gs<=r:=h;omega
 have fy:=cF.lt;have bY:ae (λr=>gs<=r) aw bl:=cH.mono λr _ h=>by have h:aq.heap.size<=r:=h;omega
 have dz:ad bl gs aD [Δ k,szv,Δ s.zero,aF,aG,aH,aI,aj]:=(cF.ext aK).ab cH λh=>by have h:aq.heap.size<=gs:=h;omega
 rw[aM aD.p rfl];refine bj (g:=gs) (o:=3) cj.i Ψ rfl dz Ξ λfz dC fA dD=>?_;rw[aM aD.p rfl];refine bj (g:=gs) (o:=4) e4.i (kf bW) (e7 bW) dD Ξ λfB dE fC dF=>?_;rw[aM aD.p rfl];refine bj (g:=gs) (o:=5) dH.i Ψ rfl dF Ξ λfD dG fE dI=>?_;rw[aM aD.p rfl];refine bj (g:=gs) (o:=6) b8.i Ψ rfl dI Ξ λbm dJ fF bZ=>?_;have bZ:ad bm gs aD [Δ k,szv,Δ s.zero,.slice ν 0 0,bV,.slice ν 0 0,.slice ν 0 0,aj]:=bZ;have b1:∀ {ak am:x2},ae (λr=>r=gs) ak am->ae (λr=>gs<=r) ak am:=λh=>h.mono λr _ h=>by have h:r=gs:=h;omega
 have bn:ae (λr=>r=gs) bl bm:=((dC.trans dE).trans dG).trans dJ;have bt:Ext w bm:=ba (ba (cG.trans aK) bY) (b1 bn);have cI:=bc (b1 bn) Ω (bc bY Ω (ap.ext a8));have dK:=bc (b1 bn) Ω (bc bY Ω (dw.ext aK));obtain⟨fG,dL⟩:=dm rfl;let Z:ah:=λr=>cw 4 r/\r<w.heap.size;have cJ:∀r,Z r->r<gs:=λr h=>by have:=h.2;omega
 let ax:Nat->ah:=λj r=>if j=1 then aq.heap.size<=r else if j=4 then Z r else False;have dM:bq true ax R bm [Δ k,szv,Δ s.zero,.slice ν 0 0,bV,.slice ν 0 0,.slice ν 0 0,aj] k sizes s.zero [] (s.vars.map λx=>decide (x.gone≠0)) [] [] (s.elims.map iM):=by
  refine⟨_,_,_,_,_,_,rfl,a7 cz bt,fN,?_,fN,fN,a7 bM bt,λ_=>⟨λi j r fH h1 J=>?_,λi r h1 J=>?_⟩⟩
  .have dN:bi (λr=>aq.heap.size<=r) R bl [bV] (s.vars.map λx=>decide (x.gone≠0)):=al.mono bW (λr _ h=>by
    rcases h with h|h
    .exact h
    .show aq.heap.size<=r;omega) λ_ _ h=>h
   refine al.ab dN bn λr U h1 J=>?_;have J:r=gs:=J;subst J;rcases h1 with h1|h1
   .have h1:aq.heap.size<=r:=h1;omega
   .have:=X r h1;omega
  .simp only[ax] at h1 J;split at h1<;>split at J
   .omega
   .split at J
    .have:=J.2;omega
    .exact J
   .split at h1
    .have:=h1.2;omega
    .exact h1
   .split at h1<;>split at J
    .omega
    .exact J
    .exact h1
    .exact h1
  .simp only[ax] at h1;have:=X r J;split at h1
   .omega
   .split at h1
    .exact dL 4 r h1 J
    .exact h1
 have dO:∀j r,ax j r->gs<r\/Z r:=λj r h=>by
  simp only[ax] at h;split at h
  .exact .inl Ω
  .split at h
   .exact .inr h
   .exact h.elim
 have dP:∀r,Z r->r<gs/\ax 4 r:=λr h=>⟨cJ r h,h⟩;have dQ:=a7 bJ bt;rw[av aD.p 3 cI rfl,eh cj.u dQ,u5];refine b0.range s.vars.length (λi aw=>Ext w aw/\ad aw g1 aD [Δ k,szv,Δ s.zero,aF,aG,aH,aI,aj]/\ad aw aJ aD z12/\ ∃A cs,ad aw gs aD cs/\(∀q r,A q r->gs<r\/Z r)/\(∀r,Z r->r<gs/\A 4 r)/\
  bq true A R aw cs k sizes s.zero ((s.vars.take i).map bN) (s.vars.map λx:eX=>decide (x.gone≠0)) ((s.vars.take i).map λx:eX=>x.un) [] (s.elims.map iM)) Ω ⟨bt,cI,dK,ax,_,bZ,dO,dP,dM⟩ ?_ ?_
 .rintro i dR dS hi ⟨bu,bw,b3,A,cs,aO,b4,bb,bd⟩ dT;obtain⟨x,bx⟩:=aN (l:=s.vars) hi;obtain⟨z,cK⟩:=aN (l:=sizes) (i:=i) Ω;have fI:=(a6.var i x z bx cK).1;have fJ:=a6.ej.2.2 z (x5 cK);have fK:(bN x).length<=32:=by
   unfold bN;refine X8 (S5 _ _) ?_;rw[u5,List.length_range];omega
  have dU:=aO.lt;refine bk Ω ?_;intro aP ay _ _;have b5:=bu.trans ay;have fL:=ay.size;have cL:=bw.ext ay;obtain⟨d0,cM⟩:=bd.at 3 Ω;rw[av aD.p 3 (aO.ext ay) cM,av aD.p 3 cL rfl];refine iY (α:=Λ) (a:=bN x) rfl cj.u af.i (a7 bJ b5) (by rw[u4,bx];rfl) λfM fO dV dW cN=>?_;obtain⟨cO,rfl⟩:∃u,dV=[u]:=by obtain⟨u,hu,_⟩:=cN;exact⟨u,hu⟩
  rw[aS (v:=cO) Ψ (by have:=dW 0 cO rfl;simpa using this)];refine qv (α:=Int) (R:=R) af.u ac.i λfP fQ bz dX=>?_;refine⟨.inl bz,?_⟩;refine qw (α:=Int) af.u ac.i rfl dX (a7 cN bz) (λh=>h) (λr U J ag=>by have:=X r ag;have:=b5.size;omega) Ω Ω λcP cQ cR cS=>?_;have fR:=bz.size;have fS:=cS.size;have cT:Ext aP cQ:=bz.then cS λr U h=>by have h:aP.heap.size<=r:=h;omega
  refine⟨.inl cT,?_⟩;have cU:bi (λr=>aP.heap.size<=r) R cQ [cP] (bN x):=al.mono cR (λr _ h=>by
   rcases h with h|h
   .exact h
   .show aP.heap.size<=r;omega) λ_ _ h=>h
  refine hp cj.u af.i Φ (a:=bN x) (cs:=[cP]) (kf cR) cU λfU fV a8 _ dY=>?_;have aQ:=cT.trans a8;refine⟨.inl aQ,?_⟩;have dZ:=bd.old.ext (ay.trans aQ);refine bq.Mm dZ (aO.ext (ay.trans aQ)) cM (λq r h=>b4 q r h.1) (λr h=>⟨(bb r h).1,(bb r h).2,by have:=(bb r h).1;omega⟩) bU dY (a7 cU a8) (λr U h=>⟨λj J=>by have h:aP.heap.size<=r:=h;omega,by have h:aP.heap.size<=r:=h;omega⟩) Θ λfW fX ea b6 b7 cV ed b9 _=>?_;have ee:Ext w ea:=ba (b5.trans aQ) b6;have eg:=bc b6 Ω (cL.ext aQ);have ei:=bc b6 Ω ((b3.ext ay).ext aQ);have fY:=b7.lt;intro aR aA _ _;have ca:=ee.trans aA;have fZ:=aA.size;have cW:=eg.ext aA;obtain⟨ga,cX⟩:=cV.at 5 Ω;rw[av aD.p 5 (b7.ext aA) cX,av aD.p 5 cW rfl];refine iY (α:=Λ) (a:=x.un) rfl dH.u au.i (a7 cB ca) (by rw[u4,bx];rfl) λgb gc bA ek cY=>?_;obtain⟨cZ,rfl⟩:∃u,bA=[u]:=by obtain⟨u,hu,_⟩:=cY;exact⟨u,hu⟩
  rw[aS (v:=cZ) Ψ (by have:=ek 0 cZ rfl;simpa using this)];refine qv (α:=Int) (R:=R) au.u an.i λgd gf bB em=>?_;refine⟨.inl bB,?_⟩;refine qw (α:=Int) au.u an.i rfl em (a7 cY bB) (λh=>h) (λr U J ag=>by have:=X r ag;have:=ca.size;omega) Ω Ω λc1 c2 c3 c4=>?_;have gg:=bB.size;have gh:=c4.size;have c5:Ext aR c2:=bB.then c4 λr U h=>by have h:aR.heap.size<=r:=h;omega
  refine⟨.inl c5,?_⟩;have c6:bi (λr=>aR.heap.size<=r) R c2 [c1] x.un:=al.mono c3 (λr _ h=>by
   rcases h with h|h
   .exact h
   .show aR.heap.size<=r;omega) λ_ _ h=>h
  refine hp dH.u au.i Φ (a:=x.un) (cs:=[c1]) (kf c3) c6 λgi gj c7 _ en=>?_;have aT:=c5.trans c7;refine⟨.inl aT,?_⟩;have ep:=cV.old.ext (aA.trans aT);refine bq.Mn ep (b7.ext (aA.trans aT)) cX (λq r h=>ed q r h.1) (λr h=>⟨(b9 r h).1,(b9 r h).2,by have:=(b9 r h).1;omega⟩) bU en (a7 c6 c7) (λr U h=>⟨λj J=>by have h:aR.heap.size<=r:=h;omega,by have h:aR.heap.size<=r:=h;omega⟩) Θ λer es gk cb et eu ev ew _=>?_;rw[aL];refine dT _ ⟨ba (ca.trans aT) cb,bc cb Ω (cW.ext aT),bc cb Ω ((ei.ext aA).ext aT),er,es,et,ev,ew,?_⟩;rw[r9,bx,j6,j9,j9];exact eu
 rintro dR dS ⟨bu,bw,b3,A,cs,aO,b4,bb,bd⟩;rw[o9] at bd;refine b2 Ω ?_;have ey:=a7 bL bu;have dU:=aO.lt;rw[av aD.p 6 bw rfl,eh b8.u ey,u5];refine b0.range s.funs.length (λj W=>Ext w W/\ad W g1 aD [Δ k,szv,Δ s.zero,aF,aG,aH,aI,aj]/\ad W aJ aD z12/\ ∃A cs,ad W gs aD cs/\(∀q r,A q r->gs<r\/Z r)/\(∀r,Z r->r<gs/\A 4 r)/\
  bq true A R W cs k sizes s.zero (s.vars.map bN) (s.vars.map λx:eX=>decide (x.gone≠0)) (s.vars.map λx:eX=>x.un) ((s.funs.take j).map eo) (s.elims.map iM)) Ω ⟨bu,bw,b3,A,cs,aO,b4,bb,bd⟩ ?_ ?_
 .rintro j W ez c8 ⟨ao,cc,bC,be,bA,aU,bD,bf,aC⟩ eB;obtain⟨f,cd⟩:∃f,s.funs[j]? =σ f:=⟨_,x6 c8⟩;obtain⟨_,gl,gm⟩:=qn a6 (x5 cd);have eC:=aU.lt;refine bk Ω ?_;refine hF bT.p rfl b8.u bT.i (a7 bL ao) (by rw[u4,cd];rfl) λgn ce=>?_;have eD:=al.one ce;have gp:=ce;obtain⟨c9,da,eE,eF,rfl,_,_,_,⟨bE,db,eH,eI,rfl,_,_,_,aV,dc,dd,gt,eJ,rfl,_,_,_,aW,aY⟩,cg⟩:=ce;have aV:Seen R W bE f.sc:=aV;have aW:Seen R W dc f.szs:=aW;have aY:al.rep true eJ R W dd f.cs:=aY;have cg:da=[.bool (decide (f.live≠0))]:=cg;obtain⟨bg,rfl⟩:∃u,bE=[u]:=by obtain⟨u,hu,_⟩:=aV;exact⟨u,hu⟩
  obtain⟨aZ,rfl⟩:∃u,dc=[u]:=by obtain⟨u,hu,_⟩:=aW;exact⟨u,hu⟩
  obtain⟨v3,rfl⟩:∃u,dd=[u]:=by obtain⟨u,hu,_⟩:=aY;exact⟨u,hu⟩
  subst cg;refine bp bT.i λa1 gu gv eK eL=>?_;refine bK (vs:=[bg,aZ,v3,.bool (decide (f.live≠0))]) bT.i rfl rfl eD eL λY eM gw bF=>?_;have ch:Ext W Y:=eK.put eM Ω;refine qv (α:=Int) (R:=R) au.u an.i λgx gy bG eN=>?_;have de:=ch.trans bG;rw[aM bT.p rfl,aM aX.p rfl,aS (v:=v3) Ψ ((bF.ext bG).cell (o:=0+0+2) rfl)];refine qw (α:=Int) au.u an.i rfl eN (a7 aY de) (λh=>h) (λr U J ag=>by have:=X r ag;have:=(ao.trans ch).size;omega) Ω Ω λa2 gA ci ck=>?_;have gB:=ch.size;have gC:=bG.size;have gD:=ck.size;have eO:=(bF.ext bG).ab ck λh=>by have h:Y.heap.size<=a1:=h;have:=bF.lt;omega
  rw[aM bT.p rfl,aM aX.p rfl];refine bj (g:=a1) (o:=2) au.i (kf ci) (e7 ci) eO Ξ λbH df gE cl=>?_;have cl:ad bH a1 bT [bg,aZ,a2,.bool (decide (f.live≠0))]:=cl;have gF:W.heap.size<=a1:=Ω
  have gH:=bF.lt;have bI:Ext W bH:=(de.then ck λr U h=>by have h:Y.heap.size<=r:=h;omega).then df λr U h=>by have h:r=a1:=h;omega
  have eP:bi (λr=>Y.heap.size<=r) R bH [a2] f.cs:=al.mono (al.ab ci df λr U h J=>by
   have J:r=a1:=J;rcases h with h|h
   .rcases h with h|h
    .have h:Y.heap.size<=r:=h;omega
    .omega
   .have:=X r h;have:=ao.size;omega) (λr _ h=>by
    rcases h with h|h
    .exact h
    .show Y.heap.size<=r;omega) λ_ _ h=>h
  have own:bi (α:=fu) (λr=>Y.heap.size<=r) R bH [bg,aZ,a2,.bool (decide (f.live≠0))] (eo f):=
   ⟨[bg,aZ,a2],[.bool (decide (f.live≠0))],λr=>Y.heap.size<=r,λ_=>False,rfl,λ_ h=>h,λ_ h=>h.elim,λ_ _ _ h=>h,⟨[bg],[aZ,a2],λ_=>False,λr=>Y.heap.size<=r,rfl,λ_ h=>h.elim,λ_ h=>h,λ_ _ h=>h.elim,a7 aV bI,[aZ],[a2],λ_=>False,λr=>Y.heap.size<=r,rfl,λ_ h=>h.elim,λ_ h=>h,λ_ _ h=>h.elim,a7 aW bI,eP⟩,rfl⟩
  obtain⟨f0,dg⟩:=aC.at 6 Ω;rw[av aD.p 6 (aU.ext bI) dg,br bT.p bT.i rfl cl.range];refine hp b8.u bT.i Φ rfl own λgI gJ dh _ eQ=>?_;have bh:=bI.trans dh;have eR:=aC.old.ext bh;refine bq.Mo eR (aU.ext bh) dg (λq r h=>bD q r h.1) (λr h=>⟨(bf r h).1,(bf r h).2,by have:=(bf r h).1;omega⟩) bU eQ (a7 own dh) (λr U h=>⟨λj J=>by have h:Y.heap.size<=r:=h;omega,by have h:Y.heap.size<=r:=h;omega⟩) Θ λeS eU gK cm eV eW eY e0 _=>?_;rw[aL];refine eB _ ⟨ba (ao.trans bh) cm,bc cm Ω (cc.ext bh),bc cm Ω (bC.ext bh),eS,eU,eV,eY,e0,?_⟩;rw[r9,cd,j6,j9];exact eW
 rintro W ez ⟨ao,cc,bC,be,bA,aU,bD,bf,aC⟩;rw[o9] at aC;refine b2 Ω ?_;have eC:=aU.lt;have gL:=ao.size;refine qv (α:=hW) (R:=R) eA.u bR.i λgM e1 aE e2=>?_;have gN:=aE.size;rw[av aD.p 7 (cc.ext aE) rfl];refine qw (α:=hW) eA.u bR.i rfl e2 (a7 bM (ao.trans aE)) (λh=>?_) (λr U J ag=>by have:=X r ag;omega) Θ Θ λcn gO cp cq=>?_
 .obtain⟨c9,da,eE,eF,rfl,_,_,_,aV,bE,db,eH,eI,rfl,_,_,_,aW,aY⟩:=h;exact⟨c9,_,λ_=>False,λ_=>False,rfl,λ_ h=>h,λ_ h=>h,λ_ _ h=>h.elim,aV,bE,db,λ_=>False,λ_=>False,rfl,λ_ h=>h,λ_ h=>h,λ_ _ h=>h.elim,aW,aY⟩
 have gP:=cq.size;have e3:=(aU.ext aE).ab cq λh=>by have h:W.heap.size<=gs:=h;omega
 rw[aM aD.p rfl];refine bj (g:=gs) (o:=7) eA.i (kf cp) (e7 cp) e3 (by rw[(bq.len aC).1];omega) λcr di gQ e5=>?_;have ct:ae (λr=>W.heap.size<=r\/r=gs) e1 cr:=(cq.mono λr _ h=>.inl h).trans (di.mono λr _ h=>.inr h);have e6:bi (λr=>W.heap.size<=r) R cr [cn] (s.elims.map iM):=al.mono (al.ab cp di λr U h J=>by
  have J:r=gs:=J;rcases h with h|h
  .rcases h with h|h
   .have h:W.heap.size<=r:=h;omega
   .omega
  .have:=X r h;omega) (λr _ h=>by
   rcases h with h|h
   .exact h
   .show W.heap.size<=r;omega) λ_ _ h=>h
 have e8:=(aC.old).ext aE;have e9:∀j,¬be j gs:=λj h=>(bD j gs h).elim (λh=>Ω) λh=>by have:=cJ gs h;omega
 have fa:∀i j r,i≠j->be i r->¬be j r:=by obtain⟨_,_,_,_,_,_,_,_,_,_,_,_,_,fb⟩:=id aC;exact (fb rfl).1
 have dj:=e8.CD (x:=cn) ct (λr U=>?_) e6 (λj r c8 U J=>by have U:W.heap.size<=r:=U;have:=J.2;omega) (λr U J=>by have U:W.heap.size<=r:=U;have:=X r J;omega)
 rotate_left
 .refine .inr ⟨λj J=>?_,λJ=>?_⟩
  .rcases U with U|rfl
   .have:=J.2;omega
   .exact e9 j J.1
  .have:=X r J;rcases U with U|U<;>omega
 obtain⟨cu,fc⟩:=dj.len;have fd:ad cr aJ aD z12:=(bC.ext aE).ab ct λh=>by
  rcases h with h|h
  .have:=bC.lt;omega
  .omega
 rw[br aD.p aD.i cu e5.range];refine bK (vs:=bA.set 7 cn) aD.i cu rfl fc fd λgR dk gS fe=>?_;rw[eZ aD.p aD.i cu fe.range];have dl:∀q r,ef (λi r=>be i r/\r<W.heap.size) 4 (λr=>W.heap.size<=r) q r->gs<r:=λq r h=>by
  unfold ef at h;split at h
  .have h:W.heap.size<=r:=h;omega
  .rename_i ff;exact (bD q r h.1).resolve_right λJ=>fa q 4 r ff h.1 (bf r J).2
 have fg:=dj.ab dk λr U h he=>by
  have he:r=aJ:=he;rcases h with⟨q,h⟩|h
  .have:=dl q r h;omega
  .have:=X r h;omega
 refine⟨((ao.trans aE).then ct λr U h=>?_).then dk λr U h=>by have h:r=aJ:=h;omega,_,_,rfl,fg,λq r h=>by have:=dl q r h;omega⟩;rcases h with h|h<;>omega
theorem sN {T:Nat->Prop} (h:ae S w w') (k:ae T w w'):ae (λr=>S r/\T r) w w':=
 ⟨h.size,λr o U J W=>by
  by_cases V:S r
  .exact k.bc r o U J λX=>W ⟨V,X⟩
  .exact h.bc r o U J V⟩
structure dn where
 d:Int
 i:Int
 v:Int
 j:Int
 c:Int
 t:Λ
 sc:Λ
 co:Λ
 nt:Bool
def dn.ok (a:dn):Prop:=(0<=a.d/\a.d<256)/\(-9223372036854775808<=a.i/\a.i<9223372036854775808)/\(-9223372036854775808<=a.v/\a.v<9223372036854775808)/\(-9223372036854775808<=a.j/\a.j<9223372036854775808)/\(-9223372036854775808<=a.c/\a.c<9223372036854775808)/\(∀x∈a.t,-9223372036854775808<=x/\x<9223372036854775808)/\(∀x∈a.sc,-9223372036854775808<=x/\x<9223372036854775808)/\ ∀x∈a.co,0<=x/\x<65536
def sO (w:x2) (dk:y0) (a:dn):Prop:=a.ok/\ ∃aF ax cP,dk= .agg #[.int .u8 a.d,Δ a.i,Δ a.v,Δ a.j,Δ a.c,aF,ax,cP,.bool a.nt]/\aH .i64 w aF a.t/\aH .i64 w ax a.sc/\aH .u16 w cP a.co
def cC (k:Int) (a:dn):Int:=if a.nt then a.c.emod 18446744073709551616 % (k+1) else a.c
structure eG (w:x2) (g:Nat) (k:Int) (a:dn) (aF ax cP:y0) (B:Nat):Prop where
 du:ad w g aW [.int .u8 a.d,Δ a.i,Δ a.v,Δ a.j,Δ (cC k a),aF,ax,cP,.bool a.nt]
 t:∃g,ao .i64 ac w g aF (a.t.take 40)
 sc:∃g,ao .i64 ac w g ax (a.sc.take 4)
 low:B<=g/\ ∀r,leads aF r\/leads ax r->B<=r
theorem eG.ab {g:Nat} {a:dn} {cP:y0} {S:ah} (h:eG w g k a aF ax cP B) (V:ae S w w') (W:∀r,r<w.heap.size->S r->r<B):eG w' g k a aF ax cP B:=by
 obtain⟨h1,⟨ac,Y⟩,⟨ad,aa⟩,af,X⟩:=h;refine⟨h1.ab V λJ=>?_,⟨ac,be Y V λr U J=>?_⟩,⟨ad,be aa V λr U J=>?_⟩,af,X⟩
 .have:=W g h1.lt J;omega
 .obtain⟨ag,ai⟩:=bz Y U;have:=W r Ω J;have:=X r (.inl U);omega
 .obtain⟨ag,ai⟩:=bz aa U;have:=W r Ω J;have:=X r (.inr U);omega
theorem eG.ext {g:Nat} {a:dn} {cP:y0} (h:eG w g k a aF ax cP B) (J:Ext w w'):eG w' g k a aF ax cP B:=h.ab (J.ab λ_=>False) λ_ _ h=>h.elim
theorem qx {A R:ah} {n:aY} {s:aB} {t:aC} (h:ci w aj ag A R n s t):∀r,A r\/R r->r<w.heap.size:=λr J=>by
 obtain⟨W,X,Y,aa,⟨_,_,U,V⟩,_⟩:=h.1;exact J.elim (V r) (U r)
structure bV (w:x2) (aj ag am:Nat) (A R:ah) (A9:Nat->ah) (aP:ah) (n:aY) (s u:aB) (t:aC) (h:List aC) (cs:List y0):Prop where
 cJ:ci w aj ag A R n s t
 hV:eC t h
 box:ad w am aD cs
 doc:gq true A9 aP w cs n.k n.sizes u
 apart:∀q r,A9 q r->¬A r/\¬R r/\r≠am
 read:∀r,aP r->¬cI w r/\r<w.heap.size/\r≠am
 out:¬A am/\¬R am
section
variable {w w':x2} {aj ag am:Nat} {A R:ah} {A9:Nat->ah} {aP:ah} {n:aY} {s u:aB} {t:aC} {h:List aC} {cs:List y0}
theorem bV.ext (p:bV w aj ag am A R A9 aP n s u t h cs) (U:Ext w w'):bV w' aj ag am A R A9 aP n s u t h cs:=
 ⟨p.cJ.ext U,p.hV,p.box.ext U,p.doc.ext U,p.apart,λr V=>⟨λh=>(p.read r V).1 (jL (λo W J _=>U.bc r o W J) h),by have:=(p.read r V).2.1;have:=U.size;omega,(p.read r V).2.2⟩,p.out⟩
theorem bV.prog {aG R':ah} {s':aB} {bD:aC} {h':List aC} (p:bV w aj ag am A R A9 aP n s u t h cs) (Y:ae (cI w) w w') (W:Grow A w aG w') (ac:ci w' aj ag aG R' n s' bD) (X:eC bD h') (aa:∀r,R' r->R r\/B<=r) (ad:∀q r,A9 q r->r<w.heap.size->r<B) (al:am<B):
  bV w' aj ag am aG R' (λq r=>A9 q r/\r<w.heap.size) aP n s' u bD h' cs:=by
 have an:=p.box.lt;have z:=Y.size;refine⟨ac,X,p.box.ab W.1 p.out.1,bq.ab p.doc.old (sN Y W.1) λr V h X=>?_,λq r h=>⟨λU=>?_,λV=>(aa r V).elim (p.apart q r h.1).2.1 λaf=>by have:=ad q r h.1 h.2;omega,(p.apart q r h.1).2.2⟩,λr V=>⟨λh=>?_,by have:=(p.read r V).2.1;omega,(p.read r V).2.2⟩,λU=>?_,λV=>(aa am V).elim p.out.2 λaf=>Ω⟩
 .rcases h with⟨q,h⟩|h
  .exact (p.apart q r h.1).1 X.2
  .exact (p.read r h).1 X.1
 .rcases W.2.1 r U with U|U
  .exact (p.apart q r h.1).1 U
  .have:=h.2;omega
 .exact (p.read r V).1 (jL (λo ai J ak=>Y.bc r o ai J ak) h)
 .rcases W.2.1 am U with U|U
  .exact p.out.1 U
  .omega
theorem bV.CF {S:ah} {bm:Nat->ah} {u':aB} {bo:List y0} (p:bV w aj ag am A R A9 aP n s u t h cs) (W:ae S w w') (aa:∀r,r<w.heap.size->S r->(∃q,A9 q r)\/r=am) (ac:ad w' am aD bo) (af:gq true bm aP w' bo n.k n.sizes u') (ai:∀q r,bm q r->(∃X,A9 X r)\/(¬A r/\¬R r/\r≠am)):
  bV w' aj ag am A R bm aP n s u' t h bo:=by
 have ao:=p.box.lt;have z:=W.size;have ak:∀q r,A9 q r->¬aP r:=by obtain⟨_,_,_,_,_,_,_,_,_,_,_,_,_,al⟩:=p.doc;exact (al rfl).2
 refine⟨⟨p.cJ.1.ab W λr V h J=>?_,p.cJ.2⟩,p.hV,ac,af,λq r h=>?_,λr V=>⟨λh=>(p.read r V).1 (jL (λo an J _=>W.bc r o an J λU=>?_) h),by have:=(p.read r V).2.1;omega,(p.read r V).2.2⟩,p.out⟩
 .rcases aa r V J with⟨q,U⟩|U
  .exact h.elim (p.apart q r U).1 (p.apart q r U).2.1
  .subst U;exact h.elim p.out.1 p.out.2
 .rcases ai q r h with⟨X,U⟩|U
  .exact p.apart X r U
  .exact U
 .rcases aa r (p.read r V).2.1 U with⟨q,Y⟩|Y
  .exact ak q r Y V
  .exact (p.read r V).2.2 Y
theorem bV.Mr {S:ah} {bm:Nat->ah} {u':aB} {bo:List y0} (p:bV w aj ag am A R A9 aP n s u t h cs) (U:∀r,A r\/R r->r<B) (ac:am<B) (V:ae S w w') (W:∀r,r<w.heap.size->S r->(∃q,A9 q r)\/r=am) (X:ad w' am aD bo) (Y:gq true bm aP w' bo n.k n.sizes u') (aa:∀q r,bm q r->(∃ab,A9 ab r)\/B<=r):
  bV w' aj ag am A R bm aP n s u' t h bo:=
 p.CF V W X Y λq r h=>(aa q r h).imp id λaf=>⟨λJ=>by have:=U r (.inl J);omega,λJ=>by have:=U r (.inr J);omega,Ω⟩
theorem bV.wb {S:ah} {bm:Nat->ah} {u':aB} {bo:List y0} (p:bV w aj ag am A R A9 aP n s u t h cs) (J:ae S w w') (U:∀r,r<w.heap.size->S r->(∃q,A9 q r)\/r=am) (V:ad w' am aD bo) (W:gq true bm aP w' bo n.k n.sizes u') (X:∀q r,bm q r->(∃Y,A9 Y r)\/w.heap.size<=r):
  bV w' aj ag am A R bm aP n s u' t h bo:=p.Mr (qx p.cJ) p.box.lt J U V W X
theorem bV.look (p:bV w aj ag am A R A9 aP n s u t h cs):jR w am n.k n.sizes u:=by
 refine gK.box p.doc.CB (Ext.refl _) ?_;have:=p.box;exact this
theorem bV.CG (p:bV w aj ag am A R A9 aP n s u t h cs):∃szv J U V W X,cs=[Δ n.k,szv,Δ u.zero,J,U,V,W,X]/\aH .i64 w szv n.sizes:=by
 obtain⟨szv,J,U,V,W,X,h1,Y,_⟩:=p.doc;exact⟨szv,J,U,V,W,X,h1,c4 Y⟩
end
section
variable {w:x2} {aj ag am:Nat} {A R:ah} {A9:Nat->ah} {aP:ah} {n:aY} {s u:aB} {t:aC} {h:List aC} {cs:List y0}
theorem Ms {w0:x2} {a:dn} {W cP:y0} {aZ:Nat} {K:y0->y0->y0->x2->Prop} (p:bV w0 aj ag am A R A9 aP n s u t h cs) (bW:a.ok) (aE:aH .i64 w0 aF a.t) (J:aH .i64 w0 ax a.sc) (bX:W=Γ aZ)
  (ba:Ext w0 w) (bY:w0.heap.size<=aZ) (aV:ad w aZ aW [.int .u8 a.d,Δ a.i,Δ a.v,Δ a.j,Δ a.c,aF,ax,cP,.bool a.nt])
  (bZ:∀aG aI w',Ext w0 w'->eG w' aZ n.k a aG aI cP w0.heap.size->K (.bool (decide (eF n a.i a.v))) (.bool (decide (0<=cC n.k a/\cC n.k a<=n.k))) (.int .u8 (a.d % 9)) w'):
 bJ (α:=x2->Prop) (λ(aa:x2)=>
  cK aa λX=>
  U x3 (x8 aW W 5) X λb0=>
  U x3 (x7 af b0) X λb1=>
  U x3 (x8 aW W 5) X λb2=>
  U x3 (x7 af b2) X λt45=>
  U x3 (X0 #[af] ac #[t45]) X λt46=>
  U x3 (j5.min_ #[ac,ac] ac #[t46,(Δ 40)]) X λb3=>
  U x3 (V5 af b1 ν (σ b3) ν) X λb4=>
  U x3 (x8 aW W 6) X λt50=>
  U x3 (x7 af t50) X λbb=>
  U x3 (x8 aW W 6) X λbc=>
  U x3 (x7 af bc) X λt53=>
  U x3 (X0 #[af] ac #[t53]) X λbe=>
  U x3 (j5.min_ #[ac,ac] ac #[be,(Δ 4)]) X λt55=>
  U x3 (V5 af bb ν (σ t55) ν) X λbx=>
  ai x3 rf [b4] X λb5 Y=>
   (Ext X Y\/bw x3 (V5 af bb ν (σ t55) ν) bx Y/\bw x3 (j5.min_ #[ac,ac] ac #[be,(Δ 4)]) t55 Y/\bw x3 (X0 #[af] ac #[t53]) be Y/\bw x3 (x7 af bc) t53 Y/\bw x3 (x8 aW W 6) bc Y/\bw x3 (x7 af t50) bb Y/\bw x3 (x8 aW W 6) t50 Y/\True)/\
  U x3 (x8 aW W 5) Y λbA=>
   ai x3 rf [bx] Y λb6 aX=>
   (Ext Y aX\/bw x3 (x8 aW W 5) bA aX/\True)/\
   ay x3 (o7 af bA b5) aX λ(_:Unit) bf=>
    U x3 (x8 aW W 6) bf λb8=>
    ay x3 (o7 af b8 b6) bf λ(_:Unit) aY=>
    bJ (α:=y0->x2->Prop) (λ(value:y0) (aJ:x2)=>
   cK aJ λao=>
   U x3 (x8 aW W 4) ao λb9=>
   U x3 (x7 an b9) ao λca=>
   U x3 (bd (Γ am)) ao λcb=>
   U x3 (x8 aD cb 0) ao λcc=>
   U x3 (x7 an cc) ao λcd=>
   ai x3 xL [ca,cd] ao λce au=>
    U x3 (x8 aW W 0) au λcg=>
   U x3 (x7 cq cg) au λch=>
   U x3 (aA .rem cq false true ch (.int .u8 9)) au λci=>K value ce ci au) λbg=>
  cK aY λaO=>
  U x3 (bd (Γ am)) aO λcj=>
  U x3 (x7 aD cj) aO λck=>
  U x3 (x8 aW W 1) aO λcl=>
  U x3 (x7 ac cl) aO λcm=>
  ai x3 nP [ck,cm] aO λcn V=>
   Split cn (U x3 (x8 aW W 2) V λcp=>
   U x3 (x7 ac cp) V λct=>
   U x3 (aA .geq ac false true ct (Δ 0)) V λcu=>
   Split cu (U x3 (x8 aW W 2) V λcw=>
   U x3 (x7 ac cw) V λcz=>
   U x3 (bd (Γ am)) V λcA=>
   U x3 (x8 aD cA 1) V λt76=>
   U x3 (x7 af t76) V λt77=>
   U x3 (x8 aW W 1) V λcB=>
   U x3 (x7 ac cB) V λcD=>
   U x3 (bd (Γ am)) V λcE=>
   U x3 (x8 aD cE 1) V λcF=>
   U x3 (x7 af cF) V λcG=>
   U x3 (X0 #[af] ac #[cG]) V λcH=>
   U x3 (aA .sub ac false true cH (Δ 1)) V λcI=>
   U x3 (j5.min_ #[ac,ac] ac #[cD,cI]) V λcL=>
   U x3 (j5.max_ #[ac,ac] ac #[cL,(Δ 0)]) V λcM=>
   U x3 (l7 af t77 cM) V λcN=>
   U x3 (x7 ac cN) V λcO=>
   U x3 (aA .lss ac false false cz cO) V λcQ=>
   bg cQ V)
   (bg (.bool false) V))
   (bg (.bool false) V)) λa1=>
 U x3 (x8 aW W 8) w λcR=>
 U x3 (x7 ec cR) w λcS=>
 Split cS (cK w λah=>
  U x3 (x8 aW W 4) ah λcT=>
  U x3 (x7 an cT) ah λcU=>
  U x3 (convert an eH cU) ah λcV=>
  U x3 (bd (Γ am)) ah λcW=>
  U x3 (x8 aD cW 0) ah λcX=>
  U x3 (x7 an cX) ah λcY=>
  U x3 (aA .add an false true cY (Δ 1)) ah λcZ=>
  U x3 (convert an eH cZ) ah λc1=>
  U x3 (aA .rem eH false false cV c1) ah λt39=>
  U x3 (convert eH an t39) ah λc2=>
  U x3 (x8 aW W 4) ah λc3=>
  ay x3 (o7 an c3 c2) ah λ(_:Unit) c4=>
  a1 c4)
  (a1 w):=by
 have ap:=p.cJ.2.2.2.1;have hk:=ap.kv;have bB:=ap.ej.1;have c6:=ap.ej.2.1;subst bX;have ap:=p.cJ.2.2.2.1;have hk:=ap.kv;have bB:=ap.ej.1;have c6:=ap.ej.2.1;obtain⟨c7,dq,dr,ds,dt,_⟩:=bW;obtain⟨szv,dw,dx,dy,dz,dA,rfl,c8⟩:=p.CG;have bh:∀ {bC bD:x2},Ext w0 bC->ae (λr=>r=aZ) bC bD->Ext w0 bD:=λc9 da=>c9.put da Ω;refine dv (λaa=>Ext w0 aa/\ad aa aZ aW [.int .u8 a.d,Δ a.i,Δ a.v,Δ a.j,Δ (cC n.k a),aF,ax,cP,.bool a.nt]) ?_ ?_
 rotate_left
 .intro a1 aw;rw[av aW.p 8 aV rfl,bt];refine⟨λaE=>?_,λdb=>aw _ ⟨ba,by unfold cC;rw[db] at aV ⊢;exact aV⟩⟩;intro aa aS _ _;have a2:=aV.ext aS;rw[av aW.p 4 a2 rfl,fi an.u eH.u,aK aD.p 0 (p.box.ext (ba.trans aS)) rfl,aL,wrap_i64 Ω Ω,fi an.u eH.u,wrap_u64 (x:=n.k+1) Ω Ω];have hu:T0.wrap a.c=a.c.emod 18446744073709551616:=rfl;have aq:0<=a.c.emod 18446744073709551616:=Int.emod_nonneg _ Φ;have dC:=Int.emod_nonneg (a.c.emod 18446744073709551616) (show n.k+1≠0 by omega);have bB:=Int.emod_lt_of_pos (a.c.emod 18446744073709551616) (show 0<n.k+1 by omega);rw[hu,kc Ω,Int.tmod_eq_emod_of_nonneg aq,fi eH.u an.u,wrap_i64 Ω Ω,aM aW.p rfl];refine bj (o:=0+4) an.i rfl rfl a2 Ξ λX dc bi al=>?_;refine aw _ ⟨bh (ba.trans aS) dc,?_⟩;unfold cC;rw[aE,if_pos rfl];rw[aE] at al;exact al
 rintro aa ⟨aS,a2⟩;intro X bE _ _;have a6:=aS.trans bE;have al:=a2.ext bE;have bF:=aE.ext a6;have bi:=J.ext a6;obtain⟨_,_,_,dD⟩:=b7 aE;obtain⟨_,_,_,dE⟩:=b7 J;have dd:a.t.take (min a.t.length 40)=a.t.take 40:=by
  by_cases h:a.t.length<=40
  .rw[S4 h,o9,n0 h]
  .rw[Nat.min_eq_right Ω]
 have de:a.sc.take (min a.sc.length 4)=a.sc.take 4:=by
  by_cases h:a.sc.length<=4
  .rw[S4 h,o9,n0 h]
  .rw[Nat.min_eq_right Ω]
 rw[av aW.p 5 al rfl,av aW.p 5 al rfl,aU af.u bF,iW];refine uo (i:=min a.t.length 40) Ω af.u ac.i bF Ω λdF bG=>?_;rw[dd] at bG;rw[av aW.p 6 al rfl,av aW.p 6 al rfl,aU af.u bi,iW];refine uo (i:=min a.sc.length 4) Ω af.u ac.i bi Ω λdG bH=>?_;rw[de] at bH;refine (h7 bG (by rw[o5];omega)).mono ?_;rintro aG Y _ ⟨aT,df,dH,bk⟩;refine⟨.inl aT,?_⟩;rw[aM aW.p rfl];refine (h7 (bH.ext aT) (by rw[o5];omega)).mono ?_;rintro aI aX _ ⟨a7,dg,dI,bl⟩;refine⟨.inl a7,?_⟩;obtain⟨_,_,_,bI⟩:=b7 bk.ls;obtain⟨_,_,_,bK⟩:=b7 bl.ls;have z3:=a6.size;have z4:=aT.size;have dh:=(al.ext aT).ext a7;have dJ:=al.lt;refine bj (o:=0+5) (v:=aG) af.i (by rw[bI];rfl) (by rw[bI];rfl) dh Ξ λbf bm dK di=>?_;rw[aM aW.p rfl];refine bj (o:=0+6) (v:=aI) af.i (by rw[bK];rfl) (by rw[bK];rfl) di Ξ λaY bn dL dk=>?_;have dl:=(a6.trans aT).trans a7;have a8:=bh (bh dl bm) bn;have bL:eG aY aZ n.k a aG aI cP w0.heap.size:=by
  refine⟨dk,⟨df,((bk.ext a7).ab bm Ω).ab bn Ω⟩,⟨dg,(bl.ab bm Ω).ab bn Ω⟩,bY,λr aq=>?_⟩;rcases aq with aq|aq
  .obtain⟨bo,_⟩:=bz bk aq;omega
  .obtain⟨bo,_⟩:=bz bl aq;omega
 refine aR (λv aJ=>v= .bool (decide (eF n a.i a.v))/\Ext aY aJ) ?_ ?_
 .rintro _ aJ ⟨rfl,az⟩;intro ao aB _ _;have bp:=az.trans aB;have aC:=bL.ext bp;rw[av aW.p 4 aC.du rfl,aK aD.p 0 (p.box.ext (a8.trans bp)) rfl];refine (GH (a:=cC n.k a) (k:=n.k)).mono ?_;rintro _ au _ ⟨rfl,bM⟩;have bN:=aC.ext bM;rw[av aW.p 0 bN.du rfl,kc Φ,Int.tmod_eq_emod_of_nonneg c7.1];have bo:decide (c5 (cC n.k a) n.k)=decide (0<=cC n.k a/\cC n.k a<=n.k):=decide_eq_decide.2 ⟨λh=>h.2,λh=>⟨hk,h⟩⟩;rw[bo];exact bZ aG aI au ((a8.trans bp).trans bM) bN
 intro a1 aw aJ az _ _;have bO:=bL.ext az;have bP:=p.ext (a8.trans az);rw[bu];refine bP.look.load λdM dm=>?_;rw[av aW.p 1 bO.du rfl];refine (qt (i:=a.i) dm).mono ?_;rintro _ ao _ ⟨rfl,aB⟩;have aC:=bO.ext aB;have bQ:=(bP.ext aB).box;have bR:=((c8.ext a8).ext az).ext aB;have bq:=az.trans aB;rw[ak];refine⟨λbS=>?_,λdp=>aw _ _ ⟨by rw[decide_eq_false];exact λh=>dp ⟨h.1,h.2.1⟩,bq⟩⟩;rw[av aW.p 2 aC.du rfl,cr,ak];refine⟨λbr=>?_,λbr=>aw _ _ ⟨by rw[decide_eq_false];exact λh=>br h.2.2.1,bq⟩⟩;obtain⟨z,bT⟩:=aN (l:=n.sizes) (i:=a.i.toNat) Ω;have bU:n.sizes.getD a.i.toNat 0=z:=by rw[u9,bT];rfl
 rw[av aW.p 2 aC.du rfl,aK aD.p 1 bQ rfl,av aW.p 1 aC.du rfl,aK aD.p 1 bQ rfl,
  aU af.u bR,dj,wrap_i64 Ω Ω,iW,ru,dY (y:=max (min a.i ((n.sizes.length:Int)-1)) 0) (i:=a.i.toNat) Ω af.u ac.i Ψ bR bT,aQ]
 refine aw _ _ ⟨?_,bq⟩;congr 1;exact decide_eq_decide.2 ⟨λh=>⟨bS.1,bS.2,br,by rw[bU];exact h⟩,λh=>by have:=h.2.2.2;rw[bU] at this;exact this⟩
end
end Go.Proofs.YthjegppepbbojaaGreatDoor
namespace Go.Vc
open Go Go.RowKit
section
variable {P:V2} {w:x2} {α:Type} [al α] {S R:ah}
theorem Mt {l:List α} {i:Nat} {a:α} (h:bi S R w [v] l) (ag:l[i]? =σ a) (ay:∀r,r<w.heap.size->S r->¬R r):∃g cap c F,v= .slice (σ ⟨g,0,ν⟩) l.length cap/\w.rangeAt g (i*al.n α) c/\bi F R w c a/\(∀r,F r->S r)/\
  ∀ {w':x2} {a':α} {T X:ah},ae T w w'->(∀r,r<w.heap.size->T r->F r)->bi X R w' c a'->(∀r,X r->F r\/w.heap.size<=r)->bi (λr=>S r\/w.heap.size<=r) R w' [v] (l.set i a'):=by
 have aK:=(x4.1 ag).1;obtain⟨vs,g,F,V,he,J,hm⟩:=gw h;obtain⟨az,ai,aj⟩:=hm rfl;obtain⟨aL,⟨rfl,aM⟩|⟨cap,full,rfl,ak,aN,aO,aP,aQ⟩⟩:=id aj
 .omega
 have aA:vs.length=l.length:=he.1;have am:S g:=az.resolve_left Ξ;obtain⟨c,aa⟩:∃c,vs[i]? =σ c:=⟨_,x6 Ω⟩;have aB:=he.2 i c a aa ag;refine⟨g,cap,c,F i,rfl,?_,aB,λr U=>V.sub i r U,λ{w' a' T X} an ao ap ac=>?_⟩
 .obtain⟨_,aR,o',aS,aT,aC,_,_,aD,_,aE⟩:=J;cases aC;cases aD Ω;intro j u aF;have aq:=aE (i*al.n α+j) u (by rw[<-List.flatMap_id];exact m8 (f:=id) (k:=al.n α) (λx aG=>he.len x aG) aa aF);rw[V8] at aq;exact aq
 have aH:¬T g:=λh=>V.top rfl i (ao g ak.lt h);have aU:=al.len ap;have aV:vs.set i c=vs:=by
  refine W5 λq=>?_;rw[W3];by_cases au:i=q
  .subst au;rw[if_pos rfl,if_pos Ω,aa]
  .rw[if_neg au]
 have av:b1 w' g ai (al.n α) (.slice (σ ⟨g,0,ν⟩) l.length cap) (l.set i a').length vs.flatten:=by
  rw[W0];exact aj.ab an λ_=>aH
 refine⟨_,rfl,vs,g,λj r=>if j=i then X r else F j r/\r<w.heap.size,⟨λj r U=>?_,λ_ j U=>?_,λ_ j q r aI h1 W=>?_⟩,⟨by simp[aA],λj aw ax af ad=>?_⟩,?_,λ_=>⟨.inr (.inl am),ai,av⟩⟩
 .split at U
  .exact (ac r U).imp (V.sub i r) id
  .exact .inl (V.sub j r U.1)
 .split at U
  .rcases ac g U with h|h
   .exact V.top rfl i h
   .have:=ak.lt;omega
  .exact V.top rfl j U.1
 .split at h1<;>split at W
  .omega
  .rcases ac r h1 with h|h
   .rename_i e _;exact V.ho rfl i q r Ω h W.1
   .have:=W.2;omega
  .rcases ac r W with h|h
   .exact V.ho rfl j i r Ω h1.1 h
   .have:=h1.2;omega
  .exact V.ho rfl j q r aI h1.1 W.1
 .by_cases Y:j=i
  .subst Y;rw[aa] at af;rw[U5 Ω] at ad;cases af;cases ad;exact al.mono ap (λr _ h=>by simpa using h) λ_ _ h=>h
  .rw[V3 (S6 Y)] at ad;have aJ:bi (λr=>if j=i then X r else F j r/\r<w.heap.size) R w aw ax:=al.mono (he.2 j aw ax af ad) (λr U h=>by rw[if_neg Y];exact⟨h,U⟩) λ_ _ h=>h;refine al.ab aJ an λr U h1 W=>?_;have W:=ao r U W;rcases h1 with h1|h1
   .simp only[if_neg Y] at h1;exact V.ho rfl j i r Y h1.1 W
   .exact ay r U (V.sub i r W) h1
 .have:=mI (S:=λr=>(S r\/w.heap.size<=r)\/R r) av (.inr (.inl (.inl am)));exact this
theorem wc {l:List α} {i:Nat} {a:α} (h:bi S R w [v] l) (ao:l[i]? =σ a) (ap:∀r,r<w.heap.size->S r->¬R r):∃g cap full X c F,v= .slice (σ ⟨g,0,ν⟩) l.length cap/\ad w g X full/\S g/\i*al.n α+al.n α<=full.length/\(∀ (q:Nat) x,c[q]? =σ x->full[i*al.n α+q]? =σ x)/\bi F R w c a/\(∀r,F r->S r)/\¬F g/\
  ∀ {w':x2} {a':α} {Y:List y0} {T ac:ah},ae T w w'->(∀r,r<w.heap.size->T r->F r\/r=g)->ad w' g X (over full (i*al.n α) Y)->bi ac R w' Y a'->(∀r,ac r->F r\/w.heap.size<=r)->bi (λr=>S r\/w.heap.size<=r) R w' [v] (l.set i a'):=by
 have aD:=(x4.1 ao).1;obtain⟨vs,g,F,W,he,J,hm⟩:=gw h;obtain⟨aE,X,aF⟩:=hm rfl;obtain⟨aR,⟨rfl,aS⟩|⟨cap,full,rfl,aq,au,aG,av,aw⟩⟩:=id aF
 .omega
 have ax:vs.length=l.length:=he.1;have ag:S g:=aE.resolve_left Ξ;obtain⟨c,ak⟩:∃c,vs[i]? =σ c:=⟨_,x6 Ω⟩;have aH:=he.2 i c a ak ao;have aI:(i+1)*al.n α<=l.length*al.n α:=X1 _ aD;have aJ:l.length*al.n α<=full.length:=by rw[av];exact X1 _ au
 rw[U7,Nat.one_mul] at aI;refine⟨g,cap,full,X,c,F i,rfl,aq,ag,Ω,λq x ay=>?_,aH,λr V=>W.sub i r V,W.top rfl i,λ{w' a' Y T ac} aK aL aM az ai=>?_⟩
 .have am:=m8 (f:=id) (k:=al.n α) (λx aN=>he.len x aN) ak ay;rw[List.flatMap_id,<-aw] at am;have aT:=(x4.1 ay).1;have an:=he.len c (x5 ak);rw[Y7 Ω] at am;exact am
 have an:=al.len az;have aO:∀c∈vs.set i Y,c.length=al.n α:=λc aa=>by
  rcases W8 aa with U|rfl
  .exact he.len c U
  .exact an
 have aA:b1 w' g X (al.n α) (.slice (σ ⟨g,0,ν⟩) l.length cap) (l.set i a').length (vs.set i Y).flatten:=by
  refine⟨by rw[jy aO,W0,W0,ax],.inr ⟨cap,_,by rw[W0],aM,by rw[W0];exact au,aG,by rw[k0,av],?_⟩⟩;rw[W0,r4 Ω aJ,aw,CA he.len an Ω]
 refine⟨_,rfl,vs.set i Y,g,λj r=>if j=i then ac r else F j r/\r<w.heap.size,⟨λj r V=>?_,λ_ j V=>?_,λ_ j q r aP h1 U=>?_⟩,⟨by simp[ax],λj aB aC aa aj=>?_⟩,?_,λ_=>⟨.inr (.inl ag),X,aA⟩⟩
 .split at V
  .exact (ai r V).imp (W.sub i r) id
  .exact .inl (W.sub j r V.1)
 .split at V
  .rcases ai g V with h|h
   .exact W.top rfl i h
   .have:=aq.lt;omega
  .exact W.top rfl j V.1
 .split at h1<;>split at U
  .omega
  .rcases ai r h1 with h|h
   .rename_i e _;exact W.ho rfl i q r Ω h U.1
   .have:=U.2;omega
  .rcases ai r U with h|h
   .exact W.ho rfl j i r Ω h1.1 h
   .have:=h1.2;omega
  .exact W.ho rfl j q r aP h1.1 U.1
 .by_cases af:j=i
  .subst af;rw[U5 Ω] at aa;rw[U5 Ω] at aj;cases aa;cases aj;exact al.mono az (λr _ h=>by simpa using h) λ_ _ h=>h
  .rw[V3 (S6 af)] at aa aj;have aQ:bi (λr=>if j=i then ac r else F j r/\r<w.heap.size) R w aB aC:=al.mono (he.2 j aB aC aa aj) (λr V h=>by rw[if_neg af];exact⟨h,V⟩) λ_ _ h=>h;refine al.ab aQ aK λr V h1 U=>?_;have U:=aL r V U;rcases h1 with h1|h1
   .simp only[if_neg af] at h1;rcases U with U|rfl
    .exact W.ho rfl j i r af h1.1 U
    .exact W.top rfl j h1.1
   .rcases U with U|rfl
    .exact ap r V (W.sub i r U) h1
    .exact ap r V ag h1
 .have:=mI (S:=λr=>(S r\/w.heap.size<=r)\/R r) aA (.inr (.inl (.inl ag)));exact this
end
end Go.Vc
namespace Go.Proofs.YthjegppepbbojaaGreatDoor
open Go Go.Vc Go.RowKit Go.Proofs Go.Proofs.Tryz
set_option maxRecDepth 100000
theorem qy {t:aC} {i:Nat} {x:Int}:(t.set i x).marks=t.marks/\(t.set i x).cells.length=t.cells.length/\(t.set i x).olds.length<=t.olds.length+1:=by
 unfold aC.set;split
 .exact⟨rfl,rfl,R6 _⟩
 .split
  .exact⟨rfl,Ξ,R6 _⟩
  .split
   .exact⟨rfl,Ξ,Ξ⟩
   .exact⟨rfl,Ξ,R6 _⟩
def jo (w0:x2) (aj ag am:Nat) (A R:ah) (A9:Nat->ah) (aP:ah) (n:aY) (u:aB) (t:aC) (h:List aC) (w':x2):Prop:=∃aG R' bm R9' bD bo,bV w' aj ag am aG R' bm R9' n u u bD h bo/\ae (λr=>A r\/(∃q,A9 q r)\/r=am) w0 w'/\(∀r,aG r->A r\/w0.heap.size<=r)/\(∀r,R' r->R r\/w0.heap.size<=r)/\(∀r,aP r->R9' r)/\(∀r,R9' r->aP r\/w0.heap.size<=r)/\
 (∀q r,bm q r->(∃J,A9 J r)\/w0.heap.size<=r)/\bD.marks=t.marks/\bD.cells.length<=t.cells.length+700/\bD.olds.length<=t.olds.length+800/\ae (λr=>cI w0 r\/(∃q,A9 q r)\/r=am) w0 w'/\bD.ever=t.ever
theorem we {S:ah} {w0 W:x2} (U:ae S w0 aa) (X:ae (cI aa) aa W):ae (λr=>cI w0 r\/S r) w0 W:=
 ⟨X8 U.size X.size,λr o Y J V=>X.bc r o (U.bc r o Y J λh=>V (.inr h)) J λh=>V (.inl (jL (λo ab ac _=>U.bc r o ab ac λh=>V (.inr h)) h))⟩
section
variable {w0 w:x2} {aj ag am aZ:Nat} {A R:ah} {A9 bm:Nat->ah} {aP:ah} {n:aY} {s u:aB} {t:aC} {h:List aC} {cs bo:List y0} {a:dn} {aF ax cP:y0} {Q:y0->x2->Prop}
theorem kD (p:bV w0 aj ag am A R A9 aP n s s t h cs) (J:Ext w0 w):jo w0 aj ag am A R A9 aP n s t h w:=
 ⟨A,R,A9,aP,t,cs,p.ext J,J.ab _,λ_ h=>.inl h,λ_ h=>.inl h,λ_ h=>h,λ_ h=>.inl h,λq _ h=>.inl ⟨q,h⟩,rfl,Nat.le_add_right _ _,Nat.le_add_right _ _,J.ab _,rfl⟩
theorem qz {Y:x2} (V:bV aa aj ag am A R bm aP n s u t h bo) (W:ae (λr=>(∃q,A9 q r)\/r=am) w0 aa) (ac:∀q r,bm q r->(∃ad,A9 ad r)\/w0.heap.size<=r) (J:ll aa aj ag A R n u t v Y):v=Δ 0/\jo w0 aj ag am A R A9 aP n u t h Y:=by
 obtain⟨af,ab,aG,q,x,X,ah⟩:=J;obtain⟨ai,ak,al⟩:=qy (t:=t) (i:=q) (x:=x);have z:=W.size;refine⟨af,aG,R,_,aP,_,bo,V.prog ab X ah V.hV.set (λ_ h=>.inl h) (λ_ _ _ h=>h) V.box.lt,(W.mono λr _ h=>.inr h).trans (X.1.mono λr _ h=>.inl h),λr U=>(X.2.1 r U).imp id λh=>Ω,λr U=>.inl U,λ_ h=>h,λ_ h=>.inl h,λq r U=>ac q r U.1,ai,Ω,Ω,we W ab,aC.oN _ _ _⟩
theorem bV.olds (p:bV w0 aj ag am A R A9 aP n s u t h cs):bV w0 aj ag am A R (λq r=>A9 q r/\r<w0.heap.size) aP n s u t h cs:=
 ⟨p.cJ,p.hV,p.box,p.doc.old,λq r J=>p.apart q r J.1,p.read,p.out⟩
def lp (n:aY) (s:aB) (c:Int):aB:=if 0<=c/\c<=n.k then {s with zero:=c} else s
theorem Mu (p:bV w0 aj ag am A R A9 aP n s s t h cs) (af:Room t) (W:Ext w0 w) (Y:eG w aZ n.k a aF ax cP w0.heap.size) (ah:∀w',jo w0 aj ag am A R A9 aP n (lp n s (cC n.k a)) t h w'->Q (.bool true) w'):
  bJ (α:=y0->x2->Prop) (λ(ap:y0) (ac:x2)=>
     U x3 (x8 aW (Γ aZ) 4) ac λaq=>
     U x3 (x7 an aq) ac λau=>
     ai x3 xM [Γ aj,au] ac λaw ak=>
     U x3 (aA .eql e5 false false aw ap) ak λaz=>
     Q az ak) λal=>
    U x3 (Op.unary .not (.bool (decide (0<=cC n.k a/\cC n.k a<=n.k)))) w λaB=>
    Split aB (al (Δ 3) w)
    (U x3 (x8 aW (Γ aZ) 4) w λaC=>
    U x3 (x7 an aC) w λaE=>
    U x3 (bd (Γ am)) w λaG=>
    U x3 (x8 aD aG 2) w λaH=>
    ay x3 (o7 an aH aE) w λ(_:Unit) aI=>
    al (Δ 0) aI):=by
 have aU:=p.box.lt;by_cases J:0<=cC n.k a/\cC n.k a<=n.k
 .refine aR (λv aa=>v=Δ 0/\eG aa aZ n.k a aF ax cP w0.heap.size/\ae (λr=>(∃q,A9 q r)\/r=am) w0 aa/\ ∃bo,bV aa aj ag am A R A9 aP n s {s with zero:=cC n.k a} t h bo) ?_ ?_
  .rintro _ aa ⟨rfl,aJ,V,bo,ao⟩;rw[av aW.p 4 aJ.du rfl];refine (Cz (c:=cC n.k a) ao.cJ af).mono ?_;rintro v aK _ ⟨_,aL⟩;obtain⟨rfl,aN⟩:=qz ao V (λq r h=>.inl ⟨q,h⟩) (aL J);rw[bn];exact ah _ (by unfold lp;rw[if_pos J];exact aN)
  .intro aO ad;rw[decide_eq_true J,bg,Y6,aT,av aW.p 4 Y.du rfl,bu,aM aD.p rfl];have X:=p.ext W;refine bj (o:=0+2) an.i rfl rfl X.box (by rw[X.doc.len.1];omega) λaa V aV aQ=>?_;refine ad _ _ ⟨rfl,?_,(W.ab _).trans (V.mono λr _ h=>.inr h),_,X.wb V (λr _ h=>.inr h) aQ ?_ λq r h=>.inl ⟨q,h⟩⟩
   .exact Y.ab V λr _ h=>by have h:r=am:=h;omega
   .exact (bq.ab X.doc V λr _ h he=>h.elim (λ⟨q,h⟩=>(p.apart q r h).2.2 he) λh=>(p.read r h).2.2 he).Mf
 .refine aR (λv aa=>v=Δ 3/\w=aa) ?_ ?_
  .rintro _ aa ⟨rfl,rfl⟩;rw[av aW.p 4 Y.du rfl];refine (Cz (c:=cC n.k a) (p.ext W).cJ af).mono ?_;rintro v aK _ ⟨h1,_⟩;obtain⟨rfl,aS⟩:=h1 J;rw[bn];exact ah _ (by unfold lp;rw[if_neg J];exact kD p (W.trans aS))
  .intro aO ad;rw[decide_eq_false J,bg,W6,bX];exact ad _ _ ⟨rfl,rfl⟩
end
theorem oW {α β:Type} {l:List α} {i:Nat} {a b:α} {f:α->β} (h:l[i]? =σ a) (U:f b=f a):(l.set i b).map f=l.map f:=by
 rw[T8,U];refine W5 λq=>?_;rw[W3];by_cases J:i=q
 .subst J;rw[if_pos rfl,u4,h,if_pos (by rw[u5];exact (x4.1 h).1)];rfl
 .rw[if_neg J]
theorem oX {T:Nat->Prop} (h:ae T w w'):ae (λr=>T r/\r<w.heap.size) w w':=⟨h.size,λr o U J V=>h.bc r o U J λW=>V ⟨W,(Z1.1 U).1⟩⟩
section
variable {w0 w w':x2} {aj ag am aZ:Nat} {A R:ah} {A9:Nat->ah} {aP:ah} {n:aY} {s u u':aB} {t:aC} {h:List aC} {cs:List y0} {a:dn} {aF ax cP v:y0} {Q:y0->x2->Prop}
theorem bq.oo {zero:Int} {D:List (Λ)} {G:List Bool} {aV:List (Λ)} {H:List fu} {E:List hW} {i:Nat} (J:cs[i]? =σ v) (h:bq m A9 aP w (cs.set i v) k sizes zero D G aV H E):bq m A9 aP w cs k sizes zero D G aV H E:=by
 have:cs.set i v=cs:=by
  refine W5 λq=>?_;rw[W3];by_cases U:i=q
  .subst U;have:=(x4.1 J).1;rw[if_pos rfl,if_pos this,J]
  .rw[if_neg U]
 rw[this] at h;exact h
theorem bV.row {T:ah} {bm:Nat->ah} {q:Nat} (p:bV w aj ag am A R A9 aP n s u t h cs) (J:ae T w w') (U:∀r,r<w.heap.size->T r->A9 q r) (V:gq true bm aP w' cs n.k n.sizes u') (W:∀q r,bm q r->(∃X,A9 X r)\/w.heap.size<=r):
  bV w' aj ag am A R bm aP n s u' t h cs:=
 p.wb J (λr Y h=>.inl ⟨q,U r Y h⟩) (p.box.ab J λh=>(p.apart q am (U am p.box.lt h)).2.2 rfl) V W
theorem wg {q:Nat} {B:ah} (J:∀r,B r->A9 q r\/w.heap.size<=r):∀j r,ef A9 q B j r->(∃U,A9 U r)\/w.heap.size<=r:=λj r h=>by
 unfold ef at h;split at h
 .exact (J r h).imp (λh=>⟨q,h⟩) id
 .exact .inl ⟨j,h⟩
theorem bV.Mv {T:ah} (p:bV w aj ag am A R A9 aP n s u t h cs) (Y:∀q r,A9 q r->r<w.heap.size) (aa:cs[5]? =σ v) (U:ae T w w') (V:∀r,r<w.heap.size->T r->A9 2 r) (ab:bi (λr=>A9 2 r\/w.heap.size<=r) aP w' [v] (u'.vars.map (·.un)))
  (ac:u'.zero=u.zero) (ad:u'.vars.map bN=u.vars.map bN) (af:(u'.vars.map λx=>decide (x.gone≠0))=u.vars.map λx=>decide (x.gone≠0)) (ai:u'.funs=u.funs) (ak:u'.elims=u.elims):
  ∃bm,bV w' aj ag am A R bm aP n s u' t h cs/\ ∀q r,bm q r->(∃al,A9 al r)\/w.heap.size<=r:=by
 have W:=(show (∀i j r,i≠j->A9 i r->¬A9 j r)/\ ∀i r,A9 i r->¬aP r by obtain⟨_,_,_,_,_,_,_,_,_,_,_,_,_,an⟩:=p.doc;exact an rfl);have ao:=bq.ha p.doc (oX U) (λr J=>.inl (V r J.2 J.1)) ab (λj r ap J=>?_) (λr J=>?_)
 .have X:=wg (w:=w) (A9:=A9) (q:=2) (B:=λr=>A9 2 r\/w.heap.size<=r) λr h=>h;refine⟨_,p.row U V ?_ X,X⟩;have:=bq.oo aa ao;unfold gq;rw[ac,ad,af,ai,ak];exact this
 .rcases J with J|J
  .exact W.1 2 j r (S6 ap) J
  .exact λh=>by have:=Y j r h;omega
 .rcases J with J|J
  .exact W.2 2 r J
  .exact λh=>by have:=(p.read r h).2.1;omega
def kE (n:aY) (s:aB) (a:dn):aB:=if eF n a.i a.v/\(0<=cC n.k a/\cC n.k a<=n.k) then ha s a.i.toNat a.v.toNat (cC n.k a) else s
theorem Mw (p:bV w0 aj ag am A R A9 aP n s s t h cs) (az:Room t) (ao:Ext w0 w) (aB:eG w aZ n.k a aF ax cP w0.heap.size) (aC:∀w',jo w0 aj ag am A R A9 aP n (kE n s a) t h w'->Q (.bool true) w'):
  bJ (α:=y0->x2->Prop) (λ(bh:y0) (W:x2)=>
     U x3 (x8 aW (Γ aZ) 1) W λaE=>
     U x3 (x7 ac aE) W λaG=>
     U x3 (x8 aW (Γ aZ) 2) W λaH=>
     U x3 (x7 ac aH) W λaI=>
     U x3 (x8 aW (Γ aZ) 4) W λaJ=>
     U x3 (x7 an aJ) W λaK=>
     ai x3 rg [Γ aj,aG,aI,aK] W λbi a1=>
     U x3 (aA .eql e5 false false bi bh) a1 λbj=>
     Q bj a1) λaL=>
    U x3 (Op.unary .not (.bool (decide (eF n a.i a.v)))) w λbk=>
    Split bk (aL (Δ 1) w)
     (U x3 (Op.unary .not (.bool (decide (0<=cC n.k a/\cC n.k a<=n.k)))) w λbl=>
     Split bl (aL (Δ 3) w)
     (cK w λJ=>
     U x3 (bd (Γ am)) J λbo=>
     U x3 (x8 aD bo 5) J λbp=>
     U x3 (x7 dH bp) J λbq=>
     U x3 (x8 aW (Γ aZ) 1) J λbr=>
     U x3 (x7 ac br) J λbt=>
     U x3 (l7 dH bq bt) J λbw=>
     U x3 (x7 au bw) J λbx=>
     U x3 (x8 aW (Γ aZ) 2) J λbz=>
     U x3 (x7 ac bz) J λbA=>
     U x3 (x8 aW (Γ aZ) 4) J λbB=>
     U x3 (x7 an bB) J λbC=>
     U x3 (l7 au bx bA) J λbD=>
     ay x3 (o7 an bD bC) J λ(_:Unit) a2=>
      aL (Δ 0) a2)):=by
 have call:∀ {aa:x2} {K:y0->x2->Prop},eG aa aZ n.k a aF ax cP w0.heap.size->(ai x3 rg [Γ aj,Δ a.i,Δ a.v,Δ (cC n.k a)] aa K)->
   U x3 (x8 aW (Γ aZ) 1) aa λaE=>U x3 (x7 ac aE) aa λaG=>U x3 (x8 aW (Γ aZ) 2) aa λaH=>U x3 (x7 ac aH) aa λaI=>
   U x3 (x8 aW (Γ aZ) 4) aa λaJ=>U x3 (x7 an aJ) aa λaK=>ai x3 rg [Γ aj,aG,aI,aK] aa K:=λad bE=>by
  rw[av aW.p 1 ad.du rfl,av aW.p 2 ad.du rfl,av aW.p 4 ad.du rfl];exact bE
 have aN:=p.olds.ext ao;by_cases V:eF n a.i a.v
 rotate_left
 .refine aR (λv aa=>v=Δ 1/\w=aa) ?_ ?_
  .rintro _ aa ⟨rfl,rfl⟩;refine call aB ((vX (i:=a.i) (v:=a.v) (c:=cC n.k a) aN.cJ az).mono ?_);rintro v a6 _ ⟨h1,_⟩;obtain⟨rfl,aO⟩:=h1 V;rw[bn];exact aC _ (by unfold kE;rw[if_neg λh=>V h.1];exact kD p (ao.trans aO))
  .intro a7 af;rw[decide_eq_false V,bg,W6,bX];exact af _ _ ⟨rfl,rfl⟩
 by_cases X:0<=cC n.k a/\cC n.k a<=n.k
 rotate_left
 .refine aR (λv aa=>v=Δ 3/\w=aa) ?_ ?_
  .rintro _ aa ⟨rfl,rfl⟩;refine call aB ((vX (i:=a.i) (v:=a.v) (c:=cC n.k a) aN.cJ az).mono ?_);rintro v a6 _ ⟨_,h1,_⟩;obtain⟨rfl,aO⟩:=h1 V X;rw[bn];exact aC _ (by unfold kE;rw[if_neg λh=>X h.2];exact kD p (ao.trans aO))
  .intro a7 af;rw[decide_eq_true V,bg,Y6,aT,decide_eq_false X,bg,W6,bX];exact af _ _ ⟨rfl,rfl⟩
 refine aR (λv aa=>v=Δ 0/\eG aa aZ n.k a aF ax cP w0.heap.size/\ae (λr=>(∃q,A9 q r)\/r=am) w0 aa/\ ∃bm,bV aa aj ag am A R bm aP n s (ha s a.i.toNat a.v.toNat (cC n.k a)) t h cs/\ ∀q r,bm q r->(∃aQ,A9 aQ r)\/w0.heap.size<=r) ?_ ?_
 .rintro _ aa ⟨rfl,ad,bF,bm,a8,aU⟩;refine call ad ((vX (i:=a.i) (v:=a.v) (c:=cC n.k a) a8.cJ az).mono ?_);rintro v a6 _ ⟨_,_,ba⟩;obtain⟨rfl,bG⟩:=qz a8 bF aU (ba V X);rw[bn];exact aC _ (by unfold kE;rw[if_pos ⟨V,X⟩];exact bG)
 intro a7 af;rw[decide_eq_true V,bg,Y6,aT,decide_eq_true X,bg,Y6,aT];intro J aV _ _;have bb:=ao.trans aV;have aX:=aN.ext aV;have ap:=aB.ext aV;obtain⟨x,ah,bH,bT,_⟩:=V.var p.cJ.2.2.2.1;obtain⟨h1,ba,bU,bW⟩:=id V;obtain⟨szv,bY,bZ,b0,b1,b2,bc,_,_,_,bI,_,_,be⟩:=id aX.doc;have z:=bb.size;have bK:∀q r,(A9 q r/\r<w0.heap.size)->r<J.heap.size:=λq r h=>by have:=h.2;omega
 obtain⟨g,cap,c,b3,rfl,bL,aY,aq,bM⟩:=Mt (i:=a.i.toNat) (a:=x.un) bI (by rw[u4,ah];rfl) λr _ h=>(be rfl).2 2 r h;obtain⟨u',rfl⟩:=W7.1 (al.len aY);have bf:=aX.box;rw[bc] at bf;obtain⟨_,_,_,b4⟩:∃a n c,u'= .slice a n c:=by obtain⟨_,_,_,_,_,⟨_,b,o,base,cap,e,_⟩,_⟩:=gw aY;exact⟨_,_,_,e⟩
 have bO:a.i.toNat<(s.vars.map (·.un)).length:=by rw[u5];exact (x4.1 ah).1
 rw[bu,aM aD.p rfl,aS (v:=.slice (σ ⟨g,0,ν⟩) (s.vars.map (·.un)).length cap) Ψ (bf.cell (o:=0+5) rfl),av aW.p 1 ap.du rfl,
  show a.i=((a.i.toNat:Nat):Int) by omega,fz dH.u au.i bO λ_=>rfl,aS (v:=u') (o:=0+a.i.toNat*1) Ψ (by rw[V8];exact bL 0 _ rfl)]
 rw[av aW.p 2 ap.du rfl,av aW.p 4 ap.du rfl];refine vZ (α:=Int) (i:=a.v.toNat) (A:=λ_=>False) rfl Ω au.u an.i aY bH rfl rfl (λr _ ak=>⟨λh=>h,(be rfl).2 2 r (aq r ak)⟩) λa2 aw bP=>?_;have bQ:=bM aw (λr _ h=>h) bP λr ak=>ak.elim .inl False.elim;have Y:ha s a.i.toNat a.v.toNat (cC n.k a)={s with vars:=s.vars.set a.i.toNat {x with un:=x.un.set a.v.toNat (cC n.k a)}}:=by unfold ha;rw[ah]
 have bR:=aX.Mv (u':=ha s a.i.toNat a.v.toNat (cC n.k a)) bK (by rw[bc];rfl) aw (λr _ h=>aq r h) (by rw[Y,T8];exact bQ) (by rw[Y]) (by rw[Y];exact oW ah (by unfold bN;simp)) (by rw[Y];exact oW ah rfl) (by rw[Y]) (by rw[Y]);obtain⟨bm,bS,aU⟩:=bR;refine af _ _ ⟨rfl,ap.ab aw λr _ h=>(aq r h).2,((bb.ab _).trans (aw.mono λr _ h=>.inl ⟨2,(aq r h).1⟩)),bm,bS,λq r ak=>?_⟩;rcases aU q r ak with⟨aQ,h⟩|h
 .exact .inl ⟨aQ,h.1⟩
 .exact .inr Ω
end
theorem sP {s:aB} {n:aY} {i:Int} {b m:Nat} {x:eX} (h:Cp s n i b m) (U:0<=i) (V:s.vars[i.toNat]? =σ x):(gA b m).map (λv:Nat=>(v:Int))=bN x:=by
 obtain⟨_,_,W⟩:=h;obtain⟨rfl,X⟩:=W x U V;unfold gA bN;rw[List.filter_map];congr 1;refine List.filter_congr λq J=>?_;have J:=List.mem_range.1 J;rw[X,decide_eq_true J,V6];rfl
section
variable {w:x2} {aj ag:Nat} {A R:ah} {n:aY} {s:aB} {t:aC}
end
section
variable {w:x2} {aj ag:Nat} {A R:ah} {n:aY} {s:aB} {t:aC}
theorem Mx {f:dE} (h:ci w aj ag A R n s t) (J:s.funs[j]? =σ f):ai x3 EC [Γ aj,Δ (j:Int)] w λr w'=>Ext w w'/\ ∃g,w.heap.size<=g/\ao .i64 ac w' g r f.sc:=by
 have al:=(x4.1 J).1;refine az func83 ?_;refine aR (λv V=>v= .bool false/\Ext w V) ?_ ?_
 .rintro _ V ⟨rfl,U⟩;rw[aT];obtain⟨am,an,ap,aq,au,av,L,aw,ab,ay,aA,aB,X,W⟩:=(h.ext U).1.parts;obtain⟨y,Y⟩:∃y,L[j]? =σ y:=⟨_,x6 (by rw[W.1];omega)⟩;obtain⟨ad,_,_⟩:=W.2 j y f Y J;rw[aK bF.p 3 ab rfl,cE rfl ed.u cL.i X (by rw[W.1];omega),aM cL.p rfl,aS (v:=y.ax) Ψ (X.range Y 0 _ rfl)];have aC:f.sc.length<=6:=(h.2.2.2.1.funs f (x5 J)).1.scope.2;refine (h7 ad.ls Ω).mono ?_;rintro v aa _ ⟨ae,g,aD,hm⟩;have:=U.size;exact⟨U.trans ae,g,Ω,hm⟩
 intro aE af;rw[aQ,ak];refine⟨λaF=>Ω,λ_=>?_⟩;refine (ql h).mono ?_;rintro _ aG _ ⟨rfl,ah⟩;rw[cr];exact af _ _ ⟨by rw[decide_eq_false Ω],ah⟩
end
theorem My {x:Int} (h:aH .i64 w sv l):ai x3 tT [sv,Δ x] w λv w'=>Ext w w'/\ ∃r:Int,v=Δ r/\(x∉l->r= -1)/\(x∈l->0<=r/\l[r.toNat]? =σ x):=by
 refine az func160 ?_;rw[aU af.u h];refine bA.range l.length (λi _ V=>Ext w V/\x∉l.take i) h.le ⟨Ext.refl _,Ξ⟩ ?_ ?_
 .rintro i _ V k hi ⟨J,U⟩ hk;refine bk Ω ?_;obtain⟨y,W⟩:=aN (l:=l) hi;rw[bf af.u ac.i Ψ (h.ext J) W,bn,ak];refine⟨λhe=>⟨J,i,rfl,λhm=>absurd (he▸x5 W) hm,λ_=>⟨Ω,by rw[he,j0];exact W⟩⟩,λhe=>?_⟩;rw[aL];refine hk _ _ ⟨J,λhm=>?_⟩;rw[r9,W] at hm;rcases l5.1 hm with hm|hm
  .exact U hm
  .simp at hm;exact he hm
 .rintro _ V k ⟨J,U⟩;rw[o9] at U;rw[aQ,ak];exact⟨λh=>Ω,λ_=>⟨J,-1,rfl,λ_=>rfl,λh=>absurd h U⟩⟩
theorem wh {x:Int} (h:aH .i64 w sv l):ai x3 EA [sv,Δ x] w λv w'=>v= .bool (decide (x∈l))/\Ext w w':=by
 refine az func81 ?_;refine (My h).mono ?_;rintro _ V _ ⟨J,r,rfl,U,W⟩;rw[cr];refine⟨?_,J⟩;congr 1;refine decide_eq_decide.2 ⟨λY=>?_,λhm=>(W hm).1⟩;exact X9.1 λX=>by have:=U X;omega
theorem CH {Y:Nat} {cap:Array y0} {p:Int->Bool} (h:aH .i64 w sv l)
  (ad:∀w' x,Ext w w'->x∈l->ai x3 Y (Δ x::cap.toList) w' λr ae=>r= .bool (p x)/\Ext w' ae):
  ai x3 tR [sv,.func (.func Y) #[] cap] w λv w'=>Ext w w'/\((v=Δ (-1)/\ ∀x∈l,p x=false)\/ ∃i:Nat,v=Δ (i:Int)/\i<l.length/\(∀x∈l.take i,p x=false)/\ ∀x,l[i]? =σ x->p x=true):=by
 refine az func131 ?_;rw[aU af.u h];refine bA.range l.length (λi _ V=>Ext w V/\ ∀x∈l.take i,p x=false) h.le ⟨Ext.refl _,Ξ⟩ ?_ ?_
 .rintro i _ V k hi ⟨U,W⟩ hk;refine bk Ω ?_;obtain⟨y,X⟩:=aN (l:=l) hi;rw[bf af.u ac.i Ψ (h.ext U) X];refine ai.mono (ad V y U (x5 X)) ?_;rintro _ aa _ ⟨rfl,ab⟩;rw[bt];refine⟨λag=>⟨U.trans ab,.inr ⟨i,rfl,hi,W,λx J=>by rw[X] at J;cases J;exact ag⟩⟩,λah=>?_⟩;rw[aL];refine hk _ _ ⟨U.trans ab,λx J=>?_⟩;rw[r9,X] at J;rcases l5.1 J with J|J
  .exact W x J
  .simp at J;subst J;exact ah
 .rintro _ V k ⟨U,W⟩;rw[o9] at W;rw[aQ,ak];exact⟨λh=>Ω,λ_=>⟨U,.inl ⟨rfl,W⟩⟩⟩
theorem Mz {U:Nat} {cap:Array y0} {p:Int->Bool} (h:aH .i64 w sv l)
  (W:∀w' x,Ext w w'->x∈l->ai x3 U (Δ x::cap.toList) w' λr X=>r= .bool (p x)/\Ext w' X):
  ai x3 rk [sv,.func (.func U) #[] cap] w λv w'=>v= .bool (l.any p)/\Ext w w':=by
 refine az func216 ?_;refine (CH h W).mono ?_;rintro _ V _ ⟨J,⟨rfl,Y⟩|⟨i,rfl,hi,_,aa⟩⟩
 .rw[cr];refine⟨?_,J⟩;congr 1;rw[decide_eq_false Ω,eq_comm,List.any_eq_false];exact λx J=>by rw[Y x J];decide
 .rw[cr];refine⟨?_,J⟩;congr 1;rw[decide_eq_true Ω,eq_comm,List.any_eq_true];exact⟨_,S3 hi,aa _ (x6 hi)⟩
theorem MA {g aw:Nat} {cap:Array y0} {p:Int->Bool} (h:ao .i64 e w g sv l) (ba:l.length<=100000000)
  (ax:∀w' x,ae (λr=>leads sv r) w w'->x∈l->ai x3 aw (Δ x::cap.toList) w' λr aE=>r= .bool (p x)/\Ext w' aE):
  ai x3 xO [sv,.func (.func aw) #[] cap] w λv w'=>ae (λr=>leads sv r) w w'/\ao .i64 e w' g v (l.filter λx=>!p x)/\ ∀r,leads v r->leads sv r:=by
 refine az func47 ?_;refine (CH h.ls λw' x Y=>ax w' x (Y.ab _)).mono ?_;rintro _ V _ ⟨aa,⟨rfl,am⟩|⟨i,rfl,hi,am,aF⟩⟩
 .rw[bn,ak];refine⟨λ_=>⟨aa.ab _,?_⟩,λh=>absurd rfl h⟩;rw[List.filter_eq_self.2 λx Y=>by rw[am x Y];rfl];exact⟨h.ext aa,λ_ h=>h⟩
 rw[bn,ak];refine⟨λh=>Ω,λ_=>?_⟩;rw[aL,wrap_i64 Ω Ω];obtain⟨n,an⟩:∃n,l.length=n:=⟨_,rfl⟩;obtain⟨U,rfl⟩:∃U,sv= .slice (σ ⟨g,0,ν⟩) n U:=by
  obtain⟨_,⟨_,h1⟩|⟨U,cs,h1,_⟩⟩:=id h
  .omega
  .exact⟨U,by rw[h1,an]⟩
 obtain⟨_,_,_,_,bb,aG,_⟩:=p2 h Ω;have ay:∀r,r=g->leads (.slice (σ ⟨g,0,ν⟩) n U) r:=λr ap=>⟨_,_,_,rfl,ap.symm⟩;have aH:(l.take (i+1)).filter (λx=>!p x)=l.take i:=by
  obtain⟨y,W⟩:=aN (l:=l) hi;rw[r9,W,List.filter_append,List.filter_eq_self.2 λx Y=>by rw[am x Y];rfl];simp[aF y W]
 refine⟨λaq au ad=>∃ (q j:Nat) (J:Λ),aq=Δ (q:Int)/\au=Δ (j:Int)/\q<j/\j<=n/\ae (λr=>r=g) w ad/\ao .i64 e ad g (.slice (σ ⟨g,0,ν⟩) n U) J/\J.length=n/\J.take q=(l.take j).filter (λx=>!p x)/\ ∀k,j<=k->J[k]? =l[k]?,
  λ_ au _=>n-(bS au).toNat,⟨i,i+1,l,rfl,rfl,Ω,Ω,aa.ab _,h.ext aa,an,aH.symm,λ_ _=>rfl⟩,?_⟩
 rintro _ _ ad ⟨q,j,J,rfl,rfl,bc,bd,ag,ah,aA,X,av⟩;have be:q=((l.take j).filter λx=>!p x).length:=by rw[<-X,o5];omega
 rw[gP af.u,aQ,ak];refine⟨λaI=>?_,λbh=>?_⟩
 .have aI:j<n:=Ω
  obtain⟨y,W⟩:=aN (l:=l) (i:=j) Ω;have aJ:J[j]? =σ y:=by rw[av j (n9 _),W]
  refine aR (λaq aj=>∃ (q:Nat) (J:Λ),aq=Δ (q:Int)/\q<j+1/\ae (λr=>r=g) w aj/\ao .i64 e aj g (.slice (σ ⟨g,0,ν⟩) n U) J/\J.length=n/\J.take q=(l.take (j+1)).filter (λx=>!p x)/\ ∀k,j+1<=k->J[k]? =l[k]?) ?_ ?_
  .rintro _ aj ⟨q,J,rfl,h1,aK,aM,aO,aP,aS⟩;rw[aL,wrap_i64 Ω Ω];exact⟨⟨q,j+1,J,rfl,rfl,h1,Ω,aK,aM,aO,aP,aS⟩,by simp only[bS];omega⟩
  intro bi aB;rw[bf af.u ac.i Ψ ah.ls aJ];refine ai.mono (ax ad y (ag.mono λr _=>ay r) (x5 W)) ?_;rintro _ aj _ ⟨rfl,al⟩;have aC:(l.take (j+1)).filter (λx=>!p x)=(l.take j).filter (λx=>!p x)++[y].filter (λx=>!p x):=by rw[r9,W,List.filter_append];rfl
  rw[bg,bt];refine⟨λaT=>?_,λaU=>?_⟩
  .have aD:=ah.ext al;rw[hI rfl af.u ac.i aD Ω];refine hJ ac.i aD Ω λbj aV bk aW=>?_;rw[aL,wrap_i64 Ω Ω];refine aB _ _ ⟨q+1,_,rfl,Ω,(ag.trans (al.ab _)).trans aV,aW,by simpa using aA,?_,λk hk=>?_⟩
   .rw[aC,r9,U5 Ω,List.take_set_of_le (n9 _),X];simp only[j6];rw[show[y].filter (λx=>!p x)=[y] by simpa using aT]
   .rw[V3 Ω];exact av k Ω
  .refine aB _ _ ⟨q,J,rfl,Ω,ag.trans (al.ab _),ah.ext al,aA,?_,λk hk=>av k Ω⟩;rw[aC,show[y].filter (λx=>!p x)=[] by simpa using aU,X6];exact X
 .have aX:j=n:=Ω
  subst aX;rw[<-an,o9] at X;obtain⟨_,_,cs,aY,_,_,bl,aZ⟩:=p2 ah Ω;simp only[maxLen] at aG;rw[fM af.u ac.i (l:=q) (h:=j) (m:=U) mA h5 eJ Ω Ω Ω,if_neg Ω];have a1:U6 (λx:Addr=>x.add (q*1)) (σ ⟨g,0,ν⟩)=σ ⟨g,q,ν⟩:=by simp[T3]
  rw[a1];refine yV af.u ac.i rfl rfl aY Ω Ω λbm a2 bo a6=>?_;rw[fM af.u ac.i (l:=0) (h:=q) (m:=U) h4 mD eJ Ω Ω Ω,if_neg Ω];have a7:U6 (λx:Addr=>x.add (0*1)) (σ ⟨g,0,ν⟩)=σ ⟨g,0,ν⟩:=by simp[T3]
  rw[a7];refine⟨(ag.trans a2).mono λr _=>ay r,?_⟩;have bp:(l.filter λx=>!p x).length=q:=by rw[<-X,o5];omega
  rw[<-X,Nat.sub_zero];refine⟨?_,λr ap=>by obtain⟨a,_,_,e,a8⟩:=ap;cases e;exact⟨_,_,_,rfl,a8⟩⟩;refine ao.of (n:=q) ⟨Θ,.inr ⟨U,_,Ξ,a6,Ω,by simp only[maxLen];omega,by rw[k0];omega,?_⟩⟩;rw[S2];apply W5;intro k;by_cases hk:k<q
  .rw[Y7 hk,mE _ _ _ Θ,if_neg Ω,ints,u4,Y7 hk];have:(cs.take j)[k]? =(ints .i64 J)[k]?:=by rw[aZ]
   rw[Y7 Ω,ints,u4] at this;exact this
  .rw[Y9 Θ,Y9 Θ]
def hX (s:aB) (i:Int) (j:Nat):Bool:=match s.funs[j]? with
 |some f=>decide (f.live≠0)&&decide (i∈f.sc)
 |none=>false
def fV (s:aB) (i:Int) (m:Nat):Λ:=((V0 m).filter (hX s i)).map λj:Nat=>(j:Int)
theorem CI {A R:ah} {n:aY} {s:aB} {t:aC} {i:Int} (h:ci w aj ag A R n s t):ai x3 EB [Γ aj,Δ i] w λv w'=>Ext w w'/\ ∃g,ao .i64 ac w' g v (fV s i s.funs.length)/\ ∀r,leads v r->w.heap.size<=r:=by
 have a2:=oS h.2.1 h.2.2.1;have a6:s.funs.length<=100000000:=by
  have h1:=qa s;have av:∀ (L:List dE),L.length<=(L.flatMap gk).length:=λL=>by
   induction L with
   |nil=>exact n9 _
   |cons a L a7=>rw[X3,r8,Z5];have:(gk a).length=a.cs.length+1:=rfl;omega
  have a8:=av s.funs;omega
 refine az func82 ?_;refine (ql h).mono ?_;rintro _ V _ ⟨rfl,aw⟩;refine bA.range s.funs.length (λj out aa=>Ext w aa/\ ∃g,ao .i64 ac aa g out (fV s i j)/\ ∀r,leads out r->w.heap.size<=r) Ω ⟨aw,0,ao.nil _ _ _ _,λr ad=>by obtain⟨a,n,c,ay,ba⟩:=ad;cases ay⟩ ?_ ?_
 .rintro j out aa aA aD ⟨U,g,hm,Y⟩ aE;obtain⟨f,X⟩:=aN (l:=s.funs) aD;have am:fV s i (j+1)=if hX s i j=true then fV s i j++[(j:Int)] else fV s i j:=by
   unfold fV;rw[List.range_succ,List.filter_append];cases aF:hX s i j<;>simp[aF]
  refine bk Ω ?_;refine aR (λout W=>Ext w W/\ ∃g,ao .i64 ac W g out (fV s i (j+1))/\ ∀r,leads out r->w.heap.size<=r) ?_ ?_
  .rintro out W aG;rw[aL];exact aE _ _ aG
  intro bb an;refine aR (λr W=>r= .bool (hX s i j)/\Ext aa W) ?_ ?_
  .rintro _ W ⟨rfl,J⟩;rw[bt];refine⟨λaH=>?_,λX=>an _ _ ⟨U.trans J,g,by rw[am,if_neg (by rw[X];decide)];exact hm.ext J,Y⟩⟩;refine dJ (k:=.i64) af.u ac.i rfl λv4 bc aI bd ab aJ=>?_;have be:(fV s i j).length<=j:=by unfold fV;rw[u5];have:=S5 (hX s i) (V0 j);rw[List.length_range] at this;exact this
   refine fc af.u ac.i rfl ((hm.ext J).ext ab) aJ.ls Θ Θ λv5 aO aP aT aU aV=>?_;have z3:=U.size;have aW:Ext w aP:=((U.trans J).trans ab).then aV λr ad he=>by have:=Y r he;omega
   have z4:=((U.trans J).trans ab).size;exact an _ _ ⟨aW,aO,by rw[am,if_pos aH];exact aT,λr ad=>(aU r ad).elim (Y r) λh=>Ω⟩
  intro bf ap;refine (ma (j:=(j:Int)) (h.ext U)).mono ?_;rintro _ W _ ⟨rfl,J⟩;rw[decide_eq_true Ω,V6,j0];have aX:dR s j=decide (f.live≠0):=by unfold dR;rw[X]
  rw[aX,ak];refine⟨λae=>?_,λae=>ap _ _ ⟨by unfold hX;rw[X];simp only;rw[decide_eq_false ae];rfl,J⟩⟩;obtain⟨bg,bh,bi,bj,bl,bm,L,bn,aZ,bo,bp,bq,aq,al⟩:=(h.ext (U.trans J)).1.parts;obtain⟨y,au⟩:∃y,L[j]? =σ y:=⟨_,x6 (by rw[al.1];omega)⟩;obtain⟨a1,_,_⟩:=al.2 j y f au X;rw[aK bF.p 3 aZ rfl,cE rfl ed.u cL.i aq (by rw[al.1];omega),aM cL.p rfl,aS (v:=y.ax) Ψ (aq.range au 0 _ rfl)];refine (wh (x:=i) a1.ls).mono ?_;rintro _ aI _ ⟨rfl,ab⟩;exact ap _ _ ⟨by unfold hX;rw[X];simp only;rw[decide_eq_true ae,V6],J.trans ab⟩
 .rintro out aa aA ⟨U,g,hm,Y⟩;rw[aQ,ak];exact⟨λh=>Ω,λ_=>⟨U,g,hm,Y⟩⟩
theorem wi {full:List y0} {o q:Nat} {x:y0} (V:∀ (k:Nat) y,c[k]? =σ y->full[o+k]? =σ y) (W:o+c.length<=full.length) (X:q<c.length):full.set (o+q) x=over full o (c.set q x):=by
 refine W5 λk=>?_;rw[mE _ _ _ (by rw[W0];exact W),W3,W0];by_cases h1:o<=k/\k<o+c.length
 .rw[if_pos h1,W3];by_cases J:o+q=k
  .rw[if_pos J,if_pos Ω,if_pos Ω,if_pos Ω]
  .rw[if_neg J,if_neg Ω];have U:k-o<c.length:=Ω
   have:=V (k-o) c[k-o] (x6 U);rw[x6 U,<-this];congr 1;omega
 .rw[if_neg h1,if_neg Ω]
section
variable {w0 w w':x2} {aj ag am aZ:Nat} {A R:ah} {A9:Nat->ah} {aP:ah} {n:aY} {s u u':aB} {t:aC} {h:List aC} {cs:List y0} {a:dn} {aF ax cP v:y0} {Q:y0->x2->Prop}
theorem bV.ho (p:bV w aj ag am A R A9 aP n s u t h cs):(∀i j r,i≠j->A9 i r->¬A9 j r)/\ ∀i r,A9 i r->¬aP r:=by
 obtain⟨_,_,_,_,_,_,_,_,_,_,_,_,_,J⟩:=p.doc;exact J rfl
theorem bV.CJ {T:ah} (p:bV w aj ag am A R A9 aP n s u t h cs) (X:∀q r,A9 q r->r<w.heap.size) (Y:cs[6]? =σ v) (U:ae T w w') (V:∀r,r<w.heap.size->T r->A9 3 r) (aa:bi (λr=>A9 3 r\/w.heap.size<=r) aP w' [v] (u'.funs.map eo))
  (ab:u'.zero=u.zero) (ac:u'.vars=u.vars) (ad:u'.elims=u.elims):∃bm,bV w' aj ag am A R bm aP n s u' t h cs/\ ∀q r,bm q r->(∃af,A9 af r)\/w.heap.size<=r:=by
 have ai:=bq.gp p.doc (oX U) (λr J=>.inl (V r J.2 J.1)) aa (λj r ak J=>?_) (λr J=>?_)
 .have W:=wg (w:=w) (A9:=A9) (q:=3) (B:=λr=>A9 3 r\/w.heap.size<=r) λr h=>h;refine⟨_,p.row U V ?_ W,W⟩;have:=bq.oo Y ai;unfold gq;rw[ab,ac,ad];exact this
 .rcases J with J|J
  .exact p.ho.1 3 j r (S6 ak) J
  .exact λh=>by have:=X j r h;omega
 .rcases J with J|J
  .exact p.ho.2 3 r J
  .exact λh=>by have:=(p.read r h).2.1;omega
theorem MB {F:ah} {f:dE} {g:Nat} {x:Int} (h:bi (α:=fu) F R w c (eo f)) (Y:ae (λr=>r=g) w w') (aa:¬F g) (ac:¬R g):c.length=4/\bi (α:=fu) F R w' (c.set 3 (.bool (decide (x≠0)))) (eo {f with live:=x}):=by
 have V:c.length=4:=al.len h;obtain⟨W,ad,A,B,rfl,X,af,ag,h1,U⟩:=h;have U:ad=[.bool (decide (f.live≠0))]:=U;subst U;have ai:W.length=3:=by simpa using V
 refine⟨V,W,[.bool (decide (x≠0))],A,B,?_,X,af,ag,al.ab h1 Y λr aj J he=>?_,rfl⟩
 .rw[T6 _ _ Ω,ai];rfl
 .have he:r=g:=he;subst he;rcases J with J|J
  .exact aa (X r J)
  .exact ac J
def lq (s:aB) (a:dn):aB:=if 0<=a.j/\dR s a.j.toNat=true then iL s a.j.toNat else s
theorem MC (p:bV w0 aj ag am A R A9 aP n s s t h cs) (aQ:Room t) (aq:Ext w0 w) (an:eG w aZ n.k a aF ax cP w0.heap.size) (aS:∀w',jo w0 aj ag am A R A9 aP n (lq s a) t h w'->Q (.bool true) w'):
  bJ (α:=y0->x2->Prop) (λ(bc:y0) (au:x2)=>
       U x3 (x8 aW (Γ aZ) 3) au λbe=>
       U x3 (x7 ac be) au λbf=>
       ai x3 xQ [Γ aj,bf] au λbh aT=>
       U x3 (aA .eql e5 false false bh bc) aT λbi=>
       Q bi aT) λaU=>
      cK w λaf=>
      U x3 (bd (Γ am)) af λbk=>
      U x3 (x7 aD bk) af λbl=>
      U x3 (x8 aW (Γ aZ) 3) af λbo=>
      U x3 (x7 ac bo) af λbp=>
      ai x3 tH [bl,bp] af λbq aw=>
       U x3 (Op.unary .not bq) aw λbr=>
       Split br (aU (Δ 1) aw)
       (cK aw λV=>
       U x3 (bd (Γ am)) V λbw=>
       U x3 (x8 aD bw 6) V λbx=>
       U x3 (x7 b8 bx) V λbz=>
       U x3 (x8 aW (Γ aZ) 3) V λbA=>
       U x3 (x7 ac bA) V λbB=>
       U x3 (l7 b8 bz bB) V λbC=>
       U x3 (x8 bT bC 1) V λbD=>
       ay x3 (o7 ec bD (.bool false)) V λ(_:Unit) bE=>
       aU (Δ 0) bE):=by
 have ao:=p.olds.ext aq;by_cases J:0<=a.j/\dR s a.j.toNat=true
 rotate_left
 .refine aR (λv aa=>v=Δ 1/\Ext w aa) ?_ ?_
  .rintro _ aa ⟨rfl,az⟩;rw[av aW.p 3 (an.ext az).du rfl];refine (Cu (j:=a.j) (ao.ext az).cJ aQ).mono ?_;rintro v aB _ ⟨h1,_⟩;obtain⟨rfl,ah⟩:=h1 J;rw[bn];exact aS _ (by unfold lq;rw[if_neg J];exact kD p ((aq.trans az).trans ah))
  .intro bF aC bG W _ _;rw[bu];refine (ao.ext W).look.load λbH aE=>?_;rw[av aW.p 3 (an.ext W).du rfl];refine (wa (j:=a.j) aE).mono ?_;rintro _ aB _ ⟨rfl,ah⟩;rw[bg,bt];refine⟨λ_=>aC _ _ ⟨rfl,W.trans ah⟩,λbI=>?_⟩;exact absurd (by simpa using bI) J
 refine aR (λv aa=>v=Δ 0/\eG aa aZ n.k a aF ax cP w0.heap.size/\ae (λr=>(∃q,A9 q r)\/r=am) w0 aa/\ ∃bm,bV aa aj ag am A R bm aP n s (iL s a.j.toNat) t h cs/\ ∀q r,bm q r->(∃aH,A9 aH r)\/w0.heap.size<=r) ?_ ?_
 .rintro _ aa ⟨rfl,bK,bL,bm,aV,aI⟩;rw[av aW.p 3 bK.du rfl];refine (Cu (j:=a.j) aV.cJ aQ).mono ?_;rintro v aB _ ⟨_,X⟩;obtain⟨rfl,bM,aG,q,bN,bO⟩:=X J;obtain⟨_,bP⟩:=qz (v:=Δ 0) aV bL aI ⟨rfl,bM,aG,q,0,bN,bO⟩;rw[bn];exact aS _ (by unfold lq;rw[if_pos J];exact bP)
 intro bF aC bG W _ _;rw[bu];refine (ao.ext W).look.load λbH aE=>?_;rw[av aW.p 3 (an.ext W).du rfl];refine (wa (j:=a.j) aE).mono ?_;rintro _ aB _ ⟨rfl,ah⟩;rw[decide_eq_true J.1,J.2,bg,bt];refine⟨λh=>by simp at h,λ_=>?_⟩;intro aX bQ _ _;have aJ:=(W.trans ah).trans bQ;have aY:=aq.trans aJ;have aL:=ao.ext aJ;have a1:=an.ext aJ;obtain⟨f,ad,b5⟩:∃f,s.funs[a.j.toNat]? =σ f/\f.live≠0:=by
  have X:=J.2;unfold dR at X;cases ad:s.funs[a.j.toNat]? with
  |none=>rw[ad] at X;cases X
  |some f=>rw[ad] at X;exact⟨f,rfl,by simpa using X⟩
 obtain⟨szv,b6,b7,b9,ca,cb,a2,_,_,_,_,bR,_,a6⟩:=id aL.doc;have z:=aY.size;have bS:∀q r,(A9 q r/\r<w0.heap.size)->r<aX.heap.size:=λq r h=>by have:=h.2;omega
 obtain⟨g,cap,full,cc,c,cd,rfl,bU,a7,aN,bW,a8,ce,bX,bY⟩:=wc (i:=a.j.toNat) (a:=eo f) bR (by rw[u4,ad];rfl) λr _ h=>(a6 rfl).2 3 r h;have ba:=aL.box;rw[a2] at ba;have bZ:a.j.toNat<(s.funs.map eo).length:=by rw[u5];exact (x4.1 ad).1
 have cg:=J.1;have b0:c.length=4:=al.len a8;have aN:a.j.toNat*4+4<=full.length:=aN;have b1:∀ (q:Nat) x,c[q]? =σ x->full[a.j.toNat*4+q]? =σ x:=bW;rw[aK aD.p 6 ba rfl,av aW.p 3 a1.du rfl,
  show a.j=((a.j.toNat:Nat):Int) by omega,fz b8.u bT.i bZ λ_=>rfl,aM bT.p rfl]
 refine bj (o:=0+a.j.toNat*4+3) ec.i rfl rfl bU Ω λch ak ci bb=>?_;obtain⟨_,b2⟩:=MB (x:=0) a8 ak bX ((a6 rfl).2 3 g a7);rw[V8,wi b1 (by rw[b0];exact aN) Ω] at bb;have b3:=bY ak (λr _ h=>.inr h) bb b2 λr Y=>.inl Y;have ap:iL s a.j.toNat={s with funs:=s.funs.set a.j.toNat {f with live:=0}}:=by unfold iL;rw[ad]
 have aO:∀r,r<aX.heap.size->r=g->A9 3 r/\r<w0.heap.size:=λr _ h=>by rw[h];exact a7
 obtain⟨bm,b4,aI⟩:=aL.CJ (u':=iL s a.j.toNat) bS (by rw[a2];rfl) ak aO (by rw[ap,T8];exact b3) (by rw[ap]) (by rw[ap]) (by rw[ap]);refine aC _ _ ⟨rfl,a1.ab ak λr Y h=>(aO r Y h).2,((aY.ab _).trans (ak.mono λr Y h=>.inl ⟨3,(aO r Y h).1⟩)),bm,b4,λq r Y=>?_⟩;rcases aI q r Y with⟨aH,h⟩|h
 .exact .inl ⟨aH,h.1⟩
 .exact .inr Ω
end
theorem MD {m:Int} {v w:Int} (J:0<=v) (hw:0<=w):dropped (((m.toNat ||| 2 ^ v.toNat:Nat):Int)) w=(dropped m w||decide (w=v)):=by
 unfold dropped;rw[j0,Nat.testBit_or,Nat.testBit_two_pow];congr 1;exact decide_eq_decide.2 ⟨λh=>Ω,λh=>Ω⟩
theorem ME {x:eX} {v:Int} (J:0<=v):bN {x with mask:=((x.mask.toNat ||| 2 ^ v.toNat:Nat):Int)}=(bN x).filter λy=>!decide (y=v):=by
 unfold bN;rw[List.filter_filter];refine List.filter_congr λy U=>?_;obtain⟨q,_,rfl⟩:=Z6.1 U;rw[MD J Ω];cases dropped x.mask (q:Int)<;>simp
section
variable {w0 w w':x2} {aj ag am aZ:Nat} {A R:ah} {A9:Nat->ah} {aP:ah} {n:aY} {s u u':aB} {t:aC} {h:List aC} {cs:List y0} {a:dn} {aF ax cP v:y0} {Q:y0->x2->Prop}
theorem bV.MF {T:ah} (p:bV w aj ag am A R A9 aP n s u t h cs) (X:∀q r,A9 q r->r<w.heap.size) (Y:cs[3]? =σ v) (U:ae T w w') (V:∀r,r<w.heap.size->T r->A9 0 r) (aa:bi (λr=>A9 0 r\/w.heap.size<=r) aP w' [v] (u'.vars.map bN))
  (ab:u'.zero=u.zero) (ac:u'.vars.map (·.un)=u.vars.map (·.un)) (ad:(u'.vars.map λx=>decide (x.gone≠0))=u.vars.map λx=>decide (x.gone≠0)) (af:u'.funs=u.funs) (ai:u'.elims=u.elims):
  ∃bm,bV w' aj ag am A R bm aP n s u' t h cs/\ ∀q r,bm q r->(∃ak,A9 ak r)\/w.heap.size<=r:=by
 have al:=bq.v7 p.doc (oX U) (λr J=>.inl (V r J.2 J.1)) aa (λj r an J=>?_) (λr J=>?_)
 .have W:=wg (w:=w) (A9:=A9) (q:=0) (B:=λr=>A9 0 r\/w.heap.size<=r) λr h=>h;refine⟨_,p.row U V ?_ W,W⟩;have:=bq.oo Y al;unfold gq;rw[ab,ac,ad,af,ai];exact this
 .rcases J with J|J
  .exact p.ho.1 0 j r (S6 an) J
  .exact λh=>by have:=X j r h;omega
 .rcases J with J|J
  .exact p.ho.2 0 r J
  .exact λh=>by have:=(p.read r h).2.1;omega
def lr (n:aY) (s:aB) (a:dn):aB:=if eF n a.i a.v then gJ s a.i.toNat a.v.toNat else s
theorem MG (p:bV w0 aj ag am A R A9 aP n s s t h cs) (a7:Room t) (aE:Ext w0 w) (aH:eG w aZ n.k a aF ax cP w0.heap.size) (a8:∀w',jo w0 aj ag am A R A9 aP n (lr n s a) t h w'->Q (.bool true) w'):
  bJ (α:=y0->x2->Prop) (λ(bG:y0) (an:x2)=>
      U x3 (x8 aW (Γ aZ) 1) an λbH=>
      U x3 (x7 ac bH) an λbI=>
      U x3 (x8 aW (Γ aZ) 2) an λbK=>
      U x3 (x7 ac bK) an λbL=>
      ai x3 re [Γ aj,bI,bL] an λbM ba=>
      U x3 (aA .eql e5 false false bM bG) ba λbO=>
      Q bO ba) λbb=>
     U x3 (Op.unary .not (.bool (decide (eF n a.i a.v)))) w λbP=>
     Split bP (bb (Δ 1) w)
      (cK w λJ=>
      U x3 (bd (Γ am)) J λaI=>
      U x3 (x8 aD aI 3) J λaJ=>
      U x3 (x7 cj aJ) J λbc=>
      U x3 (x8 aW (Γ aZ) 1) J λaL=>
      U x3 (x7 ac aL) J λbf=>
      U x3 (bd (Γ am)) J λbQ=>
      U x3 (x8 aD bQ 3) J λbR=>
      U x3 (x7 cj bR) J λbS=>
      U x3 (x8 aW (Γ aZ) 1) J λbT=>
      U x3 (x7 ac bT) J λbU=>
      U x3 (l7 cj bS bU) J λbW=>
      U x3 (x7 af bW) J λbY=>
      U x3 (Instr.makeFunc (.func Ef) #[] #[(Γ aZ)]) J λbZ=>
      ai x3 xO [bY,bZ] J λb0 W=>
      (Ext J W\/bw x3 (x7 ac aL) bf W/\bw x3 (x8 aW (Γ aZ) 1) aL W/\bw x3 (x7 cj aJ) bc W/\bw x3 (x8 aD aI 3) aJ W/\bw x3 (bd (Γ am)) aI W/\True)/\
      U x3 (l7 cj bc bf) W λb1=>
      ay x3 (o7 af b1 b0) W λ(_:Unit) b2=>
       bb (Δ 0) b2):=by
 have call:∀ {aa:x2} {K:y0->x2->Prop},eG aa aZ n.k a aF ax cP w0.heap.size->(ai x3 re [Γ aj,Δ a.i,Δ a.v] aa K)->
   U x3 (x8 aW (Γ aZ) 1) aa λb3=>U x3 (x7 ac b3) aa λb4=>U x3 (x8 aW (Γ aZ) 2) aa λb5=>U x3 (x7 ac b5) aa λb6=>
   ai x3 re [Γ aj,b4,b6] aa K:=λaq b8=>by
  rw[av aW.p 1 aq.du rfl,av aW.p 2 aq.du rfl];exact b8
 have bh:=p.olds.ext aE;by_cases X:eF n a.i a.v
 rotate_left
 .refine aR (λv aa=>v=Δ 1/\w=aa) ?_ ?_
  .rintro _ aa ⟨rfl,rfl⟩;refine call aH ((vT (i:=a.i) (v:=a.v) bh.cJ a7).mono ?_);rintro v b9 _ ⟨h1,_⟩;obtain⟨rfl,ca⟩:=h1 X;rw[bn];exact a8 _ (by unfold lr;rw[if_neg X];exact kD p (aE.trans ca))
  .intro cb aN;rw[decide_eq_false X,bg,W6,bX];exact aN _ _ ⟨rfl,rfl⟩
 refine aR (λv aa=>v=Δ 0/\eG aa aZ n.k a aF ax cP w0.heap.size/\ae (λr=>(∃q,A9 q r)\/r=am) w0 aa/\ ∃bm,bV aa aj ag am A R bm aP n s (gJ s a.i.toNat a.v.toNat) t h cs/\ ∀q r,bm q r->(∃aO,A9 aO r)\/w0.heap.size<=r) ?_ ?_
 .rintro _ aa ⟨rfl,aq,cc,bm,bi,aQ⟩;refine call aq ((vT (i:=a.i) (v:=a.v) bi.cJ a7).mono ?_);rintro v b9 _ ⟨_,bk⟩;obtain⟨rfl,Y,aG,y,cd,ce⟩:=bk X;obtain⟨_,cg⟩:=qz (v:=Δ 0) bi cc aQ ⟨rfl,Y,aG,_,y,cd,ce⟩;rw[bn];exact a8 _ (by unfold lr;rw[if_pos X];exact cg)
 intro cb aN;rw[decide_eq_true X,bg,Y6,aT];intro aU aV _ _;have bl:=aE.trans aV;have au:=bh.ext aV;have aX:=aH.ext aV;obtain⟨x,ao,cG,cH,_⟩:=X.var p.cJ.2.2.2.1;obtain⟨h1,bk,ch,cI⟩:=id X;obtain⟨szv,cL,cM,cN,cO,cQ,bo,_,ci,_,_,_,_,ck⟩:=id au.doc;have z:=bl.size;have cl:∀q r,(A9 q r/\r<w0.heap.size)->r<aU.heap.size:=λq r h=>by have:=h.2;omega
 obtain⟨g,cap,full,cm,c,aY,rfl,bp,cn,a1,bq,br,a2,bt,cp⟩:=wc (i:=a.i.toNat) (a:=bN x) ci (by rw[u4,ao];rfl) λr _ h=>(ck rfl).2 0 r h;obtain⟨u',rfl⟩:=W7.1 (al.len br);obtain⟨cR,cS,hm,cq⟩:=GF br;have ah:∀r,leads u' r->aY r:=λr V=>by
  rcases cq with rfl|cr
  .obtain⟨_,_,_,e,_⟩:=V;cases e
  .obtain⟨e,_⟩:=bz hm V;rw[e];exact cr
 have aw:=au.box;rw[bo] at aw;have bx:a.i.toNat<(s.vars.map bN).length:=by rw[u5];exact (x4.1 ao).1
 have a1:a.i.toNat*1+1<=full.length:=a1;have ct:full[a.i.toNat*1]? =σ u':=bq 0 u' rfl;obtain⟨_,_,_,cT⟩:=b7 hm.ls;have cu:a.i=((a.i.toNat:Nat):Int):=Ω
 have cw:(bN x).length<=100000000:=by
  unfold bN;have:=S5 (λv:Int=>!dropped x.mask v) ((V0 x.un.length).map λv:Nat=>(v:Int));rw[u5,List.length_range] at this;omega
 have aB:=aX.du;rw[cu] at aB;have bA:∀r,leads u' r->r<w0.heap.size:=λr V=>(a2 r (ah r V)).2;rw[aK aD.p 3 aw rfl,aM aW.p rfl,aS (v:=Δ ((a.i.toNat:Nat):Int)) Ψ (aB.cell (o:=0+1) rfl),
  aK aD.p 3 aw rfl,aM aW.p rfl,aS (v:=Δ ((a.i.toNat:Nat):Int)) Ψ (aB.cell (o:=0+1) rfl),fz cj.u af.i bx λ_=>rfl,
  aS (v:=u') (o:=0+a.i.toNat*1) Ψ (bp.cell (by rw[V8];exact ct)),kX]
 refine (MA (p:=λy=>decide (y=a.v)) hm cw λw' y cz cU=>?_).mono ?_
 .refine az func48 ?_;rw[av aW.p 2 (aX.ab cz λr _ h=>bA r h).du rfl,bn];exact⟨rfl,Ext.refl _⟩
 rintro bB cV _ ⟨aC,bC,bD⟩;have cA:=aB.ab aC λh=>by have:=bA aZ h;have:=aH.low.1;omega
 have cB:=aw.ab aC λh=>(au.apart 0 am (a2 am (ah am h))).2.2 rfl;have cC:=bp.ab aC λh=>bt (ah g h);refine⟨.inr ⟨iF Ψ (cA.cell (o:=0+1) rfl),Go.Vc.gU λK=>aM aW.p rfl,iF Ψ (cB.cell (o:=0+3) rfl),Go.Vc.gU λK=>aM aD.p rfl,Go.Vc.gU λK=>bu,trivial⟩,?_⟩;rw[fz cj.u af.i bx λ_=>rfl];obtain⟨_,_,_,ev'⟩:=b7 bC.ls;refine bj (o:=0+a.i.toNat*1) af.i (by rw[ev'];rfl) (by rw[ev'];rfl) cC Ω λbE bF cW ap=>?_;have ap:ad bE g cm (over full (a.i.toNat*1) [bB]):=by
  have e:=wi (full:=full) (c:=[u']) (o:=a.i.toNat*1) (q:=0) (x:=bB) bq a1 Ξ;rw[V8] at ap;rw[Nat.add_zero] at e;rw[e] at ap;exact ap
 have Y:ae (λr=>aY r\/r=g) aU bE:=(aC.mono λr _ h=>.inl (ah r h)).trans (bF.mono λr _ h=>.inr h);have cD:=be bC bF λr V he=>by have he:r=g:=he;subst he;exact bt (ah r (bD r V))
 have cE:=cp Y (λr _ h=>h) ap (mb (R:=aP) cD) λr V=>.inl (ah r (bD r V));have ak:gJ s a.i.toNat a.v.toNat={s with vars:=s.vars.set a.i.toNat {x with mask:=((x.mask.toNat ||| 2 ^ a.v.toNat:Nat):Int)}}:=by unfold gJ;rw[ao]
 have a6:∀r,r<aU.heap.size->(aY r\/r=g)->A9 0 r/\r<w0.heap.size:=λr _ h=>h.elim (a2 r) λh=>by rw[h];exact cn
 obtain⟨bm,cF,aQ⟩:=au.MF (u':=gJ s a.i.toNat a.v.toNat) cl (by rw[bo];rfl) Y a6 (by rw[ak,T8,ME ch];exact cE) (by rw[ak]) (by rw[ak];exact oW ao rfl) (by rw[ak];exact oW ao rfl) (by rw[ak]) (by rw[ak]);refine aN _ _ ⟨rfl,aX.ab Y λr V h=>(a6 r V h).2,((bl.ab _).trans (Y.mono λr V h=>.inl ⟨0,(a6 r V h).1⟩)),bm,cF,λq r V=>?_⟩;rcases aQ q r V with⟨aO,h⟩|h
 .exact .inl ⟨aO,h.1⟩
 .exact .inr Ω
end
section
variable {w0 w w':x2} {aj ag am aZ:Nat} {A R:ah} {A9:Nat->ah} {aP:ah} {n:aY} {s u u':aB} {t:aC} {h:List aC} {cs:List y0} {a:dn} {aF ax cP v:y0} {Q:y0->x2->Prop}
theorem MH {j c:Int} (h:ci w aj ag A R n s t) (U:¬(0<=j/\dR s j.toNat=true)):ai x3 pn [Γ aj,Δ j,aF,Δ c] w λr w'=>r=Δ 1/\Ext w w':=by
 refine az func46 ?_;have:ai x3 yc [Γ aj,Δ j,aF] w λr w'=>r=Δ (-1)/\Ext w w':=by
  refine az func130 ?_;refine (ma (j:=j) h).mono ?_;rintro _ V _ ⟨rfl,J⟩;rw[bg,bt];refine⟨λ_=>⟨rfl,J⟩,λW=>absurd (by simpa using W) U⟩
 refine this.mono ?_;rintro _ V _ ⟨rfl,J⟩;refine (oU (h.ext J) (.inl Ω)).mono ?_;rintro r aa _ ⟨rfl,X⟩;exact⟨by rw[if_pos Ω],J.trans X⟩
theorem MI {F:ah} {f:dE} (h:bi (α:=fu) F R w c (eo f)) (ad:∀r,F r->¬R r):∃ax szv aI U,c=[ax,szv,aI,.bool (decide (f.live≠0))]/\bi U R w [aI] f.cs/\(∀r,U r->F r)/\
  ∀ {w':x2} {bo:Λ},ae U w w'->bi U R w' [aI] bo->bi (α:=fu) F R w' c (eo {f with cs:=bo}):=by
 obtain⟨aH,ap,A,B,rfl,af,aq,au,h1,W⟩:=h;obtain⟨av,aJ,aG,aw,rfl,ay,ag,ai,aj,az⟩:=h1;obtain⟨aA,aB,aC,X,rfl,aD,Y,ak,am,an⟩:=az;have W:ap=[.bool (decide (f.live≠0))]:=W;subst W;obtain⟨aa,rfl⟩:=W7.1 (show av.length=1 from al.len aj);obtain⟨V,rfl⟩:=W7.1 (show aA.length=1 from al.len am);obtain⟨v3,rfl⟩:=W7.1 (show aB.length=1 from al.len an);have ac:∀r,X r->F r:=λr h=>af r (ag r (Y r h));refine⟨aa,V,v3,X,rfl,an,ac,λ{w' bo} ao aE=>?_⟩;refine⟨[aa,V,v3],[.bool (decide (f.live≠0))],A,B,rfl,af,aq,au,⟨[aa],[V,v3],aG,aw,rfl,ay,ag,ai,al.ab aj ao λr aF J he=>?_,[V],[v3],aC,X,rfl,aD,Y,ak,al.ab am ao λr aF J he=>?_,aE⟩,rfl⟩
 .exact J.elim (λJ=>ai rfl r J (Y r he)) (ad r (ac r he))
 .exact J.elim (λJ=>ak rfl r J he) (ad r (ac r he))
def jS (n:aY) (s:aB) (a:dn):aB:=if 0<=a.j/\(en s a.j.toNat (a.t.take 40)).isSome=true/\(0<=cC n.k a/\cC n.k a<=n.k) then (match s.funs[a.j.toNat]? with
 |some f=>match cB f.szs (a.t.take 40) 0 with
  |some m=>gp s a.j.toNat m.toNat (cC n.k a)
  |none=>s
 |none=>s) else s
theorem MJ (p:bV w0 aj ag am A R A9 aP n s s t h cs) (bo:Room t) (a8:Ext w0 w) (ba:eG w aZ n.k a aF ax cP w0.heap.size) (bp:∀w',jo w0 aj ag am A R A9 aP n (jS n s a) t h w'->Q (.bool true) w'):
  bJ (α:=y0->x2->Prop) (λ(bM:y0) (aO:x2)=>
      bJ (α:=y0->x2->Prop) (λ(cc:y0) (az:x2)=>
       U x3 (x8 aW (Γ aZ) 3) az λcd=>
       U x3 (x7 ac cd) az λce=>
       U x3 (x8 aW (Γ aZ) 5) az λbq=>
       U x3 (x7 af bq) az λcg=>
       U x3 (x8 aW (Γ aZ) 4) az λch=>
       U x3 (x7 an ch) az λci=>
       ai x3 pn [Γ aj,ce,cg,ci] az λcj bN=>
       U x3 (aA .eql e5 false false cj cc) bN λbr=>
       Q br bN) λbw=>
      U x3 (aA .lss ac false true bM (Δ 0)) aO λck=>
      Split ck (bw (Δ 1) aO)
      (U x3 (Op.unary .not (.bool (decide (0<=cC n.k a/\cC n.k a<=n.k)))) aO λcl=>
      Split cl (bw (Δ 3) aO)
       (cK aO λV=>
       U x3 (bd (Γ am)) V λcm=>
       U x3 (x8 aD cm 6) V λcn=>
       U x3 (x7 b8 cn) V λcp=>
       U x3 (x8 aW (Γ aZ) 3) V λcq=>
       U x3 (x7 ac cq) V λcr=>
       U x3 (l7 b8 cp cr) V λct=>
       U x3 (x8 bT ct 0) V λcu=>
       U x3 (x8 aX cu 2) V λcw=>
       U x3 (x7 au cw) V λcz=>
       U x3 (x8 aW (Γ aZ) 4) V λcA=>
       U x3 (x7 an cA) V λcD=>
       U x3 (l7 au cz bM) V λcE=>
       ay x3 (o7 an cE cD) V λ(_:Unit) cF=>
       bw (Δ 0) cF))) λbO=>
     cK w λaU=>
     U x3 (bd (Γ am)) aU λcG=>
     U x3 (x7 aD cG) aU λcH=>
     U x3 (x8 aW (Γ aZ) 3) aU λcI=>
     U x3 (x7 ac cI) aU λcL=>
     ai x3 tH [cH,cL] aU λcM bP=>
     Split cM (cK bP λaB=>
     U x3 (bd (Γ am)) aB λcN=>
     U x3 (x7 aD cN) aB λcO=>
     U x3 (x8 aW (Γ aZ) 3) aB λcQ=>
     U x3 (x7 ac cQ) aB λcR=>
     U x3 (x8 aW (Γ aZ) 5) aB λcS=>
     U x3 (x7 af cS) aB λcT=>
     ai x3 xN [cO,cR,cT] aB λcU cV=>
      bO cU cV)
     (bO (Δ (-1)) bP):=by
 obtain⟨W,bx⟩:∃W,W=a.t.take 40:=⟨_,rfl⟩;have bb:=p.cJ.2.2.2.1;have bQ:∀ {aa:x2} {K:y0->Prop},eG aa aZ n.k a aF ax cP w0.heap.size->(aH .i64 aa aF W->K aF)->U x3 (x8 aW (Γ aZ) 5) aa λbq=>U x3 (x7 af bq) aa K:=λX bz=>by
  obtain⟨g,hm⟩:=X.t;obtain⟨_,_,_,e⟩:=b7 hm.ls;rw[av aW.p 5 X.du rfl];exact bz (by rw[bx];exact hm.ls)
 have call:∀ {aa:x2} {K:y0->x2->Prop},eG aa aZ n.k a aF ax cP w0.heap.size->(aH .i64 aa aF W->ai x3 pn [Γ aj,Δ a.j,aF,Δ (cC n.k a)] aa K)->
   U x3 (x8 aW (Γ aZ) 3) aa λcW=>U x3 (x7 ac cW) aa λcX=>U x3 (x8 aW (Γ aZ) 5) aa λcY=>U x3 (x7 af cY) aa λcZ=>
   U x3 (x8 aW (Γ aZ) 4) aa λc1=>U x3 (x7 an c1) aa λc2=>ai x3 pn [Γ aj,cX,cZ,c2] aa K:=λX bz=>by
  rw[av aW.p 3 X.du rfl];refine bQ X λah=>?_;rw[av aW.p 4 X.du rfl];exact bz ah
 have bc:=p.olds.ext a8;refine aR (λv aa=>Ext w aa/\((v=Δ (-1)/\¬(0<=a.j/\(en s a.j.toNat W).isSome=true))\/ ∃f m,v=Δ ((m:Nat):Int)/\0<=a.j/\(en s a.j.toNat W).isSome=true/\s.funs[a.j.toNat]? =σ f/\f.live≠0/\cB f.szs W 0=σ (m:Int)/\m<f.cs.length)) ?_ ?_
 rotate_left
 .intro bA ao aC be _ _;rw[bu];refine (bc.ext be).look.load λdv c3=>?_;rw[av aW.p 3 (ba.ext be).du rfl];refine (wa (j:=a.j) c3).mono ?_;rintro _ aq _ ⟨rfl,Y⟩;rw[bt];refine⟨λbB=>?_,λaE=>ao _ _ ⟨be.trans Y,.inl ⟨rfl,λ⟨aV,h1⟩=>?_⟩⟩⟩
  .rw[U8] at bB;have aV:=of_decide_eq_true bB.1;obtain⟨f,J,bC⟩:∃f,s.funs[a.j.toNat]? =σ f/\f.live≠0:=by
    have aY:=bB.2;unfold dR at aY;cases J:s.funs[a.j.toNat]? with
    |none=>rw[J] at aY;cases aY
    |some f=>rw[J] at aY;exact⟨f,rfl,by simpa using aY⟩
   intro bD a1 _ _;have bf:=(be.trans Y).trans a1;have a2:=bc.ext bf;have aI:=ba.ext bf;rw[bu];refine a2.look.load λdw c4=>?_;rw[av aW.p 3 aI.du rfl];refine bQ aI λah=>?_;have bR:=Mp (j:=a.j.toNat) c4 bb J ah;rw[show ((a.j.toNat:Nat):Int)=a.j by omega] at bR;refine bR.mono ?_;rintro _ bS _ ⟨rfl,bU⟩;have c5:=qn bb (x5 J);rw[H6 c5.1.2];have bW:en s a.j.toNat W=(cB f.szs W 0).map λm=>ei s a.j.toNat+1+m.toNat:=by unfold en;rw[J];simp only;rw[if_pos bC]
   cases hi:cB f.szs W 0 with
   |none=>exact ao _ _ ⟨bf.trans bU,.inl ⟨rfl,λ⟨_,h⟩=>by rw[bW,hi] at h;simp at h⟩⟩
   |some m=>
    have aJ:(en s a.j.toNat W).isSome=true:=by rw[bW,hi];rfl
    obtain⟨q,a6⟩:=Option.isSome_iff_exists.1 aJ;obtain⟨_,c6,bh,_,c7,bY,bE,_⟩:=qo bb a6;rw[J] at bh;cases bh;rw[hi] at bY;cases bY;exact ao _ _ ⟨bf.trans bU,.inr ⟨f,c7,rfl,aV,aJ,J,bC,hi,bE⟩⟩
  .rw[decide_eq_true aV,V6] at aE;obtain⟨q,a6⟩:=Option.isSome_iff_exists.1 h1;obtain⟨_,c6,bh,c8,_⟩:=qo bb a6;unfold dR at aE;rw[bh] at aE;simp[c8] at aE
 rintro _ aa ⟨aG,⟨rfl,aE⟩|⟨f,m,rfl,aV,aJ,J,bC,hi,bE⟩⟩
 .have a7:=bc.ext aG;have X:=ba.ext aG;refine aR (λv aC=>v=Δ 1/\aa=aC) ?_ ?_
  .rintro _ aC ⟨rfl,rfl⟩;refine call X λah=>?_;have bZ:∀ {aq:x2},Ext aa aq->U x3 (aA .eql e5 false false (Δ 1) (Δ 1)) aq λbr=>Q br aq:=λY=>by
    rw[bn];exact bp _ (by unfold jS;rw[<-bx,if_neg λh=>aE ⟨h.1,h.2.1⟩];exact kD p ((a8.trans aG).trans Y))
   by_cases b0:0<=a.j/\dR s a.j.toNat=true
   .have aw:=vY (j:=a.j.toNat) (c:=cC n.k a) a7.cJ bo ah;rw[show ((a.j.toNat:Nat):Int)=a.j by omega] at aw;refine aw.mono ?_;rintro v aq _ ⟨h1,_⟩;have c9:en s a.j.toNat W=ν:=by
     cases a6:en s a.j.toNat W with
     |none=>rfl
     |some q=>exact absurd ⟨b0.1,by rw[a6];rfl⟩ aE
    obtain⟨rfl,Y⟩:=h1 c9;exact bZ Y
   .refine (MH (c:=cC n.k a) a7.cJ b0).mono ?_;rintro v aq _ ⟨rfl,Y⟩;exact bZ Y
  .intro bA ao;rw[aQ,ak];exact⟨λ_=>ao _ _ ⟨rfl,rfl⟩,λh=>absurd Φ h⟩
 have a7:=bc.ext aG;have X:=ba.ext aG;by_cases aL:0<=cC n.k a/\cC n.k a<=n.k
 rotate_left
 .refine aR (λv aC=>v=Δ 3/\aa=aC) ?_ ?_
  .rintro _ aC ⟨rfl,rfl⟩;refine call X λah=>?_;have aw:=vY (j:=a.j.toNat) (c:=cC n.k a) a7.cJ bo ah;rw[show ((a.j.toNat:Nat):Int)=a.j by omega] at aw;refine aw.mono ?_;rintro v aq _ ⟨_,h1,_⟩;obtain⟨rfl,Y⟩:=h1 aJ aL;rw[bn];exact bp _ (by unfold jS;rw[if_neg λh=>aL h.2.2];exact kD p ((a8.trans aG).trans Y))
  .intro bA ao;refine b2 Ω ?_;rw[decide_eq_false aL,bg,W6,bX];exact ao _ _ ⟨rfl,rfl⟩
 have da:jS n s a=gp s a.j.toNat m (cC n.k a):=by
  unfold jS;rw[<-bx,if_pos ⟨aV,aJ,aL⟩,J];simp only;rw[hi];rfl
 refine aR (λv aa=>v=Δ 0/\eG aa aZ n.k a aF ax cP w0.heap.size/\ae (λr=>(∃q,A9 q r)\/r=am) w0 aa/\ ∃bm,bV aa aj ag am A R bm aP n s (gp s a.j.toNat m (cC n.k a)) t h cs/\ ∀q r,bm q r->(∃bF,A9 bF r)\/w0.heap.size<=r) ?_ ?_
 .rintro _ aC ⟨rfl,db,dc,bm,b1,bG⟩;refine call db λah=>?_;have aw:=vY (j:=a.j.toNat) (c:=cC n.k a) b1.cJ bo ah;rw[show ((a.j.toNat:Nat):Int)=a.j by omega] at aw;refine aw.mono ?_;rintro v aq _ ⟨_,_,h1⟩;obtain⟨rfl,dd⟩:=qz b1 dc bG (h1 aJ aL f m J hi);rw[bn];exact bp _ (by rw[da];exact dd)
 intro bA ao;refine b2 Ω ?_;rw[decide_eq_true aL,bg,Y6,aT];intro bD a1 _ _;have b3:=(a8.trans aG).trans a1;have a2:=a7.ext a1;have aI:=X.ext a1;obtain⟨szv,dx,dy,dz,dA,dC,b4,_,_,_,_,de,_,bH⟩:=id a2.doc;have z:=b3.size;have df:∀q r,(A9 q r/\r<w0.heap.size)->r<bD.heap.size:=λq r h=>by have:=h.2;omega
 obtain⟨g,cap,full,dg,c,dD,rfl,b5,dE,bI,b6,dh,bK,di,dj⟩:=wc (i:=a.j.toNat) (a:=eo f) de (by rw[u4,J];rfl) λr _ h=>(bH rfl).2 3 r h;obtain⟨bi,bj,v3,dk,rfl,b9,bk,dl⟩:=MI dh λr h=>(bH rfl).2 3 r (bK r h);have ca:=a2.box;rw[b4] at ca;have dm:a.j.toNat<(s.funs.map eo).length:=by rw[u5];exact (x4.1 J).1
 have bI:a.j.toNat*4+4<=full.length:=bI;have cb:full[a.j.toNat*4+2]? =σ v3:=b6 2 v3 rfl;obtain⟨_,_,_,dF⟩:∃a n c,v3= .slice a n c:=by obtain⟨_,_,_,_,_,⟨_,b,o,base,cap,e,_⟩,_⟩:=gw b9;exact⟨_,_,_,e⟩
 rw[aK aD.p 6 ca rfl,av aW.p 3 aI.du rfl,
  show a.j=((a.j.toNat:Nat):Int) by omega,fz b8.u bT.i dm λ_=>rfl,aM bT.p rfl,aM aX.p rfl,aS (v:=v3) (o:=0+a.j.toNat*4+0+2) Ψ (b5.cell (by rw[V8,Nat.add_zero];exact cb)),av aW.p 4 aI.du rfl]
 refine vZ (α:=Int) (i:=m) (A:=λ_=>False) rfl rfl au.u an.i b9 bE rfl rfl (λr _ ap=>⟨λh=>h,(bH rfl).2 3 r (bK r (bk r ap))⟩) λbS aN dn=>?_;have dp:=dl aN (al.mono dn (λr _ h=>h.elim id False.elim) λ_ _ h=>h);have dq:ad bS g dg (over full (a.j.toNat*4) [bi,bj,v3,.bool (decide (f.live≠0))]):=by
  have e:=wi (full:=full) (c:=[bi,bj,v3,.bool (decide (f.live≠0))]) (o:=a.j.toNat*4) (q:=2) (x:=v3) b6 bI Ξ;have dr:full.set (a.j.toNat*4+2) v3=full:=by
   refine W5 λk=>?_;rw[W3];by_cases hk:a.j.toNat*4+2=k
   .subst hk;rw[if_pos rfl,if_pos Ω,cb]
   .rw[if_neg hk]
  rw[dr] at e;rw[show ([bi,bj,v3,.bool (decide (f.live≠0))]:List y0)=[bi,bj,v3,.bool (decide (f.live≠0))].set 2 v3 from rfl,<-e];exact b5.ab aN λh=>di (bk g h)
 have ds:=dj aN (λr _ h=>.inl (bk r h)) dq dp λr ap=>.inl ap;have bl:gp s a.j.toNat m (cC n.k a)={s with funs:=s.funs.set a.j.toNat {f with cs:=f.cs.set m (cC n.k a)}}:=by unfold gp;rw[J]
 have bL:∀r,r<bD.heap.size->dk r->A9 3 r/\r<w0.heap.size:=λr _ h=>bK r (bk r h);obtain⟨bm,dt,bG⟩:=a2.CJ (u':=gp s a.j.toNat m (cC n.k a)) df (by rw[b4];rfl) aN bL (by rw[bl,T8];exact ds) (by rw[bl]) (by rw[bl]) (by rw[bl]);refine ao _ _ ⟨rfl,aI.ab aN λr ap h=>(bL r ap h).2,((b3.ab _).trans (aN.mono λr ap h=>.inl ⟨3,(bL r ap h).1⟩)),bm,dt,λq r ap=>?_⟩;rcases bG q r ap with⟨bF,h⟩|h
 .exact .inl ⟨bF,h.1⟩
 .exact .inr Ω
end
section
variable {w:x2} {n:aY} {v:y0} {s:aB}
theorem CK {am:y0} (h:gK w v n.k n.sizes s) (aC:dA n.k n.sizes s) (W:aH .i64 w am l):ai x3 E5 [v,am] w λr w'=>(∃b,r= .bool b/\(b=true↔kC n s l))/\Ext w w':=by
 have a1:=aC.vars;refine az func142 ?_;refine bP λg1 V a2 J ad=>?_;have an:=h.box J ad;rw[aU af.u (W.ext J)];refine bA.range l.length (λi _ aa=>Ext V aa/\ ∀q,q<i->ns n s l q) W.le ⟨Ext.refl _,λq aE=>Ω⟩ ?_ ?_
 .rintro i _ aa aF hi ⟨X,aG⟩ aI;obtain⟨x,Y⟩:=aN (l:=l) hi;have aJ:=J.trans X;refine bk Ω ?_;rw[bf af.u ac.i Ψ (W.ext aJ) Y];have ao:∀ {p:Prop},(¬(0<=x/\x<n.sizes.length/\ft s x.toNat=false/\(0<i->l.getD (i-1) 0<x)))->ns n s l i->p:=λae ⟨v,ab,aj⟩=>by
   rw[Y] at ab;cases ab;exact absurd aj ae
  refine aR (λr ap=>∃b,r= .bool b/\(b=false↔ns n s l i)/\Ext V ap) ?_ ?_
  .rintro _ ap ⟨b,rfl,ad,aq⟩;rw[bt];refine⟨λaK=>⟨⟨false,rfl,⟨(λh=>by cases h),λh=>?_⟩⟩,J.trans aq⟩,λaM=>?_⟩
   .have:=ad.2 (h i hi);rw[aK] at this;cases this
   .rw[aL];refine aI _ _ ⟨aq,λq aE=>?_⟩;by_cases aO:q=i
    .subst aO;exact ad.1 aM
    .exact aG q Ω
  intro a6 ag;refine (an.ext X).load λu hu=>?_;refine (qt (i:=x) hu).mono ?_;rintro _ a7 _ ⟨rfl,aP⟩;have U:=X.trans aP;rw[bg,bt];refine⟨λae=>ag _ _ ⟨true,rfl,⟨(λh=>by cases h),ao λaw=>?_⟩,U⟩,λaS=>?_⟩
  .rw[decide_eq_true (show 0<=x/\x<n.sizes.length from⟨aw.1,aw.2.1⟩)] at ae;cases ae
  have ah:0<=x/\x<n.sizes.length:=by simpa using aS
  obtain⟨y,au⟩:=aN (l:=s.vars) (i:=x.toNat) Ω;have ax:ft s x.toNat=decide (y.gone≠0):=by unfold ft;rw[au]
  obtain⟨szv,a8,ba,bb,bc,bd,aT,_,_,_,aV,_⟩:=an.ext U;rw[av aD.p 4 aT rfl];refine hE (α:=Bool) (i:=x.toNat) rfl Ω e4.u ec.i Ψ aV (by rw[u4,au];rfl) λaW aX=>?_;obtain rfl:aW= .bool (decide (y.gone≠0)):=(List.cons.inj aX).1;rw[ak];refine⟨λal=>ag _ _ ⟨true,rfl,⟨(λh=>by cases h),ao λaw=>?_⟩,U⟩,λal=>?_⟩
  .rw[ax,decide_eq_true al] at aw;cases aw.2.2.1
  have ay:ft s x.toNat=false:=by rw[ax];exact decide_eq_false al
  rw[bY,ak];refine⟨λaY=>?_,λaY=>ag _ _ ⟨false,rfl,⟨λ_=>⟨x,Y,ah.1,ah.2,ay,λh=>Ω⟩,λ_=>rfl⟩,U⟩⟩;obtain⟨p,aA⟩:=aN (l:=l) (i:=i-1) Ω;have be:=W.le;rw[dj,wrap_i64 Ω Ω,dY (y:=(i:Int)-1) (i:=i-1) Ω af.u ac.i Ψ (W.ext (J.trans U)) aA,cr];have aB:l.getD (i-1) 0=p:=by rw[u9,aA];rfl
  refine ag _ _ ⟨_,rfl,⟨λh=>⟨x,Y,ah.1,ah.2,ay,λ_=>by rw[aB];have:=of_decide_eq_false h;omega⟩,λ⟨v,ab,_,_,_,aj⟩=>?_⟩,U⟩;rw[Y] at ab;cases ab;have:=aj Ω;rw[aB] at this;exact decide_eq_false Ω
 .rintro _ aa aF ⟨X,aZ⟩;rw[aQ,ak];exact⟨λh=>Ω,λ_=>⟨⟨true,rfl,⟨λ_=>aZ,λ_=>rfl⟩⟩,J.trans X⟩⟩
def kF (n:aY) (s:aB) (l J:Λ):Prop:=2<=l.length/\l.length=J.length/\kC n s l/\ ∀ (i:Nat) v z,l[i]? =σ v->J[i]? =σ z->n.sizes.getD v.toNat 0=z
theorem CL {aq au:y0} {Y:Λ} (h:gK w v n.k n.sizes s) (aE:dA n.k n.sizes s) (W:aH .i64 w aq l) (ad:aH .i64 w au Y):ai x3 tN [v,aq,au] w λr w'=>(∃b,r= .bool b/\(b=true↔kF n s l Y))/\Ext w w':=by
 have aF:=W.le;refine az func55 ?_;refine bP λg1 V a6 U aG=>?_;have aw:=h.box U aG;refine aR (λr aa=>∃b,r= .bool b/\(b=false↔2<=l.length/\l.length=Y.length/\kC n s l)/\Ext V aa) ?_ ?_
 .rintro _ aa ⟨b,rfl,ax,ah⟩;rw[bt];refine⟨λaI=>⟨⟨false,rfl,⟨(λh=>by cases h),λJ=>?_⟩⟩,U.trans ah⟩,λaJ=>?_⟩
  .have:=ax.2 ⟨J.1,J.2.1,J.2.2.1⟩;rw[aI] at this;cases this
  obtain⟨aK,aM,ay⟩:=ax.1 aJ;have ab:=U.trans ah;rw[aU af.u (W.ext ab)];refine bA.range l.length (λi _ aj=>Ext aa aj/\ ∀ (q:Nat) v z,q<i->l[q]? =σ v->Y[q]? =σ z->n.sizes.getD v.toNat 0=z) aF ⟨Ext.refl _,λq v z aO=>Ω⟩ ?_ ?_
  .rintro i _ aj aP hi ⟨ae,aS⟩ aT;obtain⟨x,al,a7,a8,_⟩:=ay i hi;obtain⟨z,am⟩:=aN (l:=Y) (i:=i) Ω;obtain⟨y,aA⟩:=aN (l:=n.sizes) (i:=x.toNat) Ω;refine bk Ω ?_;rw[bf af.u ac.i Ψ (W.ext (ab.trans ae)) al];intro ba aV _ _;have ag:=ae.trans aV;obtain⟨szv,bb,bc,bd,be,bh,aW,aX,_⟩:=aw.ext (ah.trans ag);rw[av aD.p 1 aW rfl,dY (y:=x) (i:=x.toNat) Ω af.u ac.i Ψ aX aA,bf af.u ac.i Ψ (ad.ext (ab.trans ag)) am,bH,ak];have aB:n.sizes.getD x.toNat 0=y:=by rw[u9,aA];rfl
   refine⟨λan=>⟨⟨false,rfl,⟨(λh=>by cases h),λJ=>?_⟩⟩,ab.trans ag⟩,λhe=>?_⟩
   .have:=J.2.2.2 i x z al am;rw[aB] at this;exact absurd this an
   .rw[aL];refine aT _ _ ⟨ag,λq v aY aO X ao=>?_⟩;by_cases aZ:q=i
    .subst aZ;rw[al] at X;rw[am] at ao;cases X;cases ao;rw[aB];exact X9.1 he
    .exact aS q v aY Ω X ao
  .rintro _ aj aP ⟨ae,a1⟩;rw[aQ,ak];refine⟨λh=>Ω,λ_=>⟨⟨true,rfl,⟨λ_=>⟨aK,aM,ay,λi v z X ad=>a1 i v z (x4.1 X).1 X ad⟩,λ_=>rfl⟩⟩,ab.trans ae⟩⟩
 intro bi ap;rw[aU af.u (W.ext U),aQ,ak];refine⟨λbj=>ap _ _ ⟨true,rfl,⟨(λh=>by cases h),λh=>Ω⟩,Ext.refl _⟩,λbl=>?_⟩;rw[aU af.u (W.ext U),aU af.u (ad.ext U),bH,ak];refine⟨λan=>ap _ _ ⟨true,rfl,⟨(λh=>by cases h),λh=>absurd Ω an⟩,Ext.refl _⟩,λhe=>?_⟩;refine aw.load λu hu=>?_;refine (CK hu aE (W.ext U)).mono ?_;rintro _ bm _ ⟨⟨b,rfl,aC⟩,a2⟩;rw[bg];have he:=X9.1 he;refine ap _ _ ⟨!b,rfl,⟨λh=>⟨Ω,Ω,aC.1 (by simpa using h)⟩,λh=>by rw[aC.2 h.2.2];rfl⟩,a2⟩
end
structure nu (n:aY) (s:aB) (e:hx):Prop where
 has:0<=e.v/\e.v<n.sizes.length
 there:ft s e.v.toNat=false
 scope:kC n s e.sc
 out:e.v∉e.sc
 oY:∀f∈s.funs,f.live≠0->e.v∉f.sc
 count:(e.dl.length:Int)=aJ (bI n.sizes e.sc)
 dl:∀b∈e.dl,-1<=b/\b<n.sizes.getD e.v.toNat 0
theorem CM {m:Λ} (J:∀x∈m,1<=x) (U:0<=aJ l):aJ l<=aJ (l++m):=by
 induction m generalizing l with
 |nil=>simp
 |cons x m V=>
  have h1:aJ l<=aJ (l++[x]):=by
   rw[rU];have W:=J x (.head _);have:=Int.mul_le_mul_of_nonneg_left W U;rwa [Int.mul_one] at this
  have:=V (l:=l++[x]) (λy X=>J y (.tail _ X)) Ω;rw[Z4] at this;exact Int.le_trans h1 this
section
variable {w:x2} {n:aY} {v:y0} {s:aB}
theorem CN {bv:y0} {e:hx} (h:gK w v n.k n.sizes s) (a2:dA n.k n.sizes s) (J:aH .i64 w ax e.sc) (a6:aH .i64 w bv e.dl) (cV:e.dl.length<=1000000):ai x3 xR [v,.agg #[Δ e.v,ax,bv]] w λr w'=>(∃b,r= .bool b/\(b=true↔nu n s e))/\Ext w w':=by
 have cW:=a2.vars;refine az func57 ?_;refine bP λg1 V cX bx aO=>?_;have bX:=h.box bx aO;refine bP λbZ aa cY bz a8=>?_;have aj:=bx.trans bz;have au:=bX.ext bz;have ag:ad aa bZ bR [Δ e.v,ax,bv]:=by
  obtain⟨_,_,_,b0⟩:=b7 J;obtain⟨_,_,_,b1⟩:=b7 a6;rw[b0,b1] at a8 ⊢;exact a8
 have aP:=J.ext aj;have aT:=a6.ext aj;clear a8 aO;refine aR (λr ba=>∃b,r= .bool b/\(b=false↔(0<=e.v/\e.v<n.sizes.length)/\ft s e.v.toNat=false/\kC n s e.sc/\e.v∉e.sc)/\Ext aa ba) ?_ ?_
 rotate_left
 .intro bB ab;refine au.load λu hu=>?_;rw[av bR.p 0 ag rfl];refine (qt (i:=e.v) hu).mono ?_;rintro _ ay _ ⟨rfl,X⟩;rw[bg,bt];refine⟨λaB=>ab _ _ ⟨true,rfl,⟨(λh=>by cases h),λaw=>?_⟩,X⟩,λbb=>?_⟩
  .rw[decide_eq_true aw.1] at aB;cases aB
  have bc:0<=e.v/\e.v<n.sizes.length:=by simpa using bb
  obtain⟨y,bC⟩:=aN (l:=s.vars) (i:=e.v.toNat) Ω;have bD:ft s e.v.toNat=decide (y.gone≠0):=by unfold ft;rw[bC]
  have bd:=au.ext X;have aC:=ag.ext X;obtain⟨szv,b3,b4,b5,b6,b9,ca,_,_,_,cb,_⟩:=id bd;rw[av aD.p 4 ca rfl,av bR.p 0 aC rfl];refine hE (α:=Bool) (i:=e.v.toNat) rfl Ω e4.u ec.i Ψ cb (by rw[u4,bC];rfl) λcc cd=>?_;obtain rfl:cc= .bool (decide (y.gone≠0)):=(List.cons.inj cd).1;rw[ak];refine⟨λU=>ab _ _ ⟨true,rfl,⟨(λh=>by cases h),λaw=>?_⟩,X⟩,λU=>?_⟩
  .rw[bD,decide_eq_true U] at aw;cases aw.2.1
  have be:ft s e.v.toNat=false:=by rw[bD];exact decide_eq_false U
  refine bd.load λu hu=>?_;rw[av bR.p 1 aC rfl];refine (CK hu a2 (aP.ext X)).mono ?_;rintro _ am _ ⟨⟨b,rfl,bE⟩,ae⟩;have bh:=X.trans ae;have aV:=aC.ext ae;rw[bg,bt];refine⟨λaB=>ab _ _ ⟨true,rfl,⟨(λh=>by cases h),λaw=>?_⟩,bh⟩,λbb=>?_⟩
  .rw[bE.2 aw.2.2.1] at aB;cases aB
  have aE:=bE.1 (by simpa using bb);rw[av bR.p 1 aV rfl,av bR.p 0 aV rfl];refine (vU (v:=e.v) (aP.ext bh)).mono ?_;rintro _ an _ ⟨rfl,ao⟩;exact ab _ _ ⟨_,rfl,⟨λh=>⟨bc,be,aE,of_decide_eq_false h⟩,λh=>decide_eq_false h.2.2.2⟩,bh.trans ao⟩
 rintro _ ba ⟨b,rfl,bF,aF⟩;rw[bt];refine⟨λaW=>⟨⟨false,rfl,⟨(λh=>by cases h),λU=>?_⟩⟩,aj.trans aF⟩,λap=>?_⟩
 .rw[bF.2 ⟨U.has,U.there,U.scope,U.out⟩] at aW;cases aW
 obtain⟨bc,be,aE,ce⟩:=bF.1 ap;have cg:=au.ext aF;obtain⟨szv,b3,b4,b5,b6,b9,ch,_,_,_,_,_,bi,_⟩:=id cg;rw[av aD.p 6 ch rfl,eh b8.u bi,u5];have bG:=lR bi;rw[u5] at bG;refine bA.range s.funs.length (λj _ ay=>Ext ba ay/\ ∀ (q:Nat) f,q<j->s.funs[q]? =σ f->f.live≠0->e.v∉f.sc) bG ⟨Ext.refl _,λq f W=>Ω⟩ ?_ ?_
 .rintro j t4 ay ci cj ⟨X,bj⟩ ck;obtain⟨f,ap⟩:=aN (l:=s.funs) cj;have cl:=aF.trans X;refine bk Ω ?_;refine hF bT.p rfl b8.u bT.i (a7 bi X) (by rw[u4,ap];rfl) λcZ bH=>?_;have cm:=al.one bH;obtain⟨bJ,cn,cp,rfl,cq,_,_⟩:=qu bH;refine bp bT.i λc1 am c2 ae aY=>?_;refine bK (vs:=[bJ,cn,cp,.bool (decide (f.live≠0))]) bT.i rfl rfl cm aY λan ct c3 bL=>?_;have bl:Ext ay an:=ae.put ct Ω;refine aR (λr aG=>∃b,r= .bool b/\(b=true↔f.live≠0/\e.v∈f.sc)/\Ext an aG) ?_ ?_
  .rintro _ aG ⟨b,rfl,bM,aZ⟩;have bN:=X.trans (bl.trans aZ);rw[bt];refine⟨λaW=>⟨⟨false,rfl,⟨(λh=>by cases h),λU=>?_⟩⟩,aj.trans (aF.trans bN)⟩,λaY=>?_⟩
   .obtain⟨h1,cu⟩:=bM.1 aW;exact absurd cu (U.oY f (x5 ap) h1)
   .rw[aL];refine ck _ _ ⟨bN,λq cw W bm a1 hm=>?_⟩;by_cases cz:q=j
    .subst cz;rw[ap] at bm;cases bm;rw[bM.2 ⟨a1,hm⟩] at aY;cases aY
    .exact bj q cw Ω bm a1 hm
  intro bB ab;rw[aM bT.p rfl,aS (v:=.bool (decide (f.live≠0))) Ψ (bL.cell (o:=0+3) rfl),ak];refine⟨λa1=>?_,λcA=>ab _ _ ⟨false,rfl,⟨(λh=>by cases h),λh=>absurd h.1 cA⟩,Ext.refl _⟩⟩;rw[aM bT.p rfl,aM aX.p rfl,aS (v:=bJ) Ψ (bL.cell (o:=0+0+0) rfl),av bR.p 0 ((ag.ext cl).ext bl) rfl];refine (vU (v:=e.v) ((c4 cq).ext bl)).mono ?_;rintro _ c5 _ ⟨rfl,cB⟩;exact ab _ _ ⟨_,rfl,⟨λh=>⟨a1,of_decide_eq_true h⟩,λh=>decide_eq_true h.2⟩,cB⟩
 rintro t4 ay ci ⟨X,cC⟩;refine b2 Ω ?_;have aI:=aF.trans X;have aC:=ag.ext aI;have bd:=au.ext aI;have oY:∀f∈s.funs,f.live≠0->e.v∉f.sc:=λf ap=>by
  obtain⟨q,W⟩:=X4.1 ap;exact cC q f (x4.1 W).1 W
 rw[av bR.p 1 aC rfl,aU af.u (aP.ext aI)];obtain⟨L,aA⟩:∃L,L=bI n.sizes e.sc:=⟨_,rfl⟩;have c6:L.length=e.sc.length:=by rw[aA];unfold bI;rw[u5]
 have bo:∀x∈L,1<=x/\x<=32:=λx aK=>by
  rw[aA] at aK;unfold bI at aK;obtain⟨v,cD,rfl⟩:=Z6.1 aK;obtain⟨q,W⟩:=X4.1 cD;obtain⟨c7,bO,c8,h1,_⟩:=aE q (x4.1 W).1;rw[W] at bO;cases bO;obtain⟨z,ah⟩:=aN (l:=n.sizes) (i:=v.toNat) Ω;rw[u9,ah];exact a2.ej.2.2 z (x5 ah)
 have cE:∀q,0<=aJ (L.take q):=λq=>by
  induction q with
  |zero=>simp[aJ]
  |succ q bq=>
   cases W:L[q]? with
   |none=>
    have:=List.getElem?_eq_none_iff.1 W;rw[n0 Ω];rw[n0 Ω] at bq;exact bq
   |some x=>
    rw[kg W];exact Int.mul_nonneg bq (by have:=(bo x (x5 W)).1;omega)
 have cF:∀q,aJ (L.take q)<=aJ L:=λq=>by
  have:=CM (l:=L.take q) (m:=L.drop q) (λx aK=>(bo x (List.mem_of_mem_drop aK)).1) (cE q);rwa [List.take_append_drop] at this
 refine lF.range e.sc.length (λi _ cG am=>Ext ay am/\ ∃m:Int,cG=Δ m/\m=aJ (L.take i)/\0<=m/\m<=1000000) J.le ⟨Ext.refl _,1,rfl,rfl,Ω,Ω⟩ ?_ ?_
 .rintro i t4 _ am cH hi ⟨ae,m,rfl,hm,bQ,bS⟩ cI;obtain⟨x,bU,c9,da,_⟩:=aE i hi;obtain⟨z,ah⟩:=aN (l:=n.sizes) (i:=x.toNat) Ω;have bV:L[i]? =σ z:=by rw[aA];unfold bI;rw[u4,bU,Y4,u9,ah];rfl
  have cJ:=bo z (x5 bV);have Y:=aI.trans ae;obtain⟨cK,_,_,_,_,_,cL,br,_⟩:=au.ext Y;have db:0<=m*z/\m*z<=1000000*32:=⟨Int.mul_nonneg bQ Ω,Int.mul_le_mul bS cJ.2 Ω Ω⟩;have cM:aJ (L.take (i+1))=m*z:=by rw[kg bV,hm]
  refine bk Ω ?_;rw[bf af.u ac.i Ψ (aP.ext Y) bU,av aD.p 1 cL rfl,dY (y:=x) (i:=x.toNat) Ω af.u ac.i Ψ br ah,fL,wrap_i64 Ω Ω,
   av bR.p 2 (ag.ext Y) rfl,aU af.u (aT.ext Y),bY,ak]
  refine⟨λdc=>⟨⟨false,rfl,⟨(λh=>by cases h),λU=>?_⟩⟩,aj.trans Y⟩,λdd=>?_⟩
  .have h1:=U.count;rw[<-aA] at h1;have:=cF (i+1);omega
  .rw[aL];exact cI _ _ _ ⟨ae,_,rfl,cM.symm,Ω,Ω⟩
 rintro t4 _ am cH ⟨ae,m,rfl,hm,bQ,bS⟩;rw[n0 Ω] at hm;have Y:=aI.trans ae;have aV:=ag.ext Y;obtain⟨z,ah⟩:=aN (l:=n.sizes) (i:=e.v.toNat) Ω;have bW:n.sizes.getD e.v.toNat 0=z:=by rw[u9,ah];rfl
 refine b2 Ω ?_;rw[av bR.p 2 aV rfl,aU af.u (aT.ext Y)];refine bA.range e.dl.length (λi _ an=>Ext am an/\ ∀ (q:Nat) b,q<i->e.dl[q]? =σ b-> -1<=b/\b<z) a6.le ⟨Ext.refl _,λq b W=>Ω⟩ ?_ ?_
 .rintro i t4 an cN hi ⟨ao,bj⟩ cO;obtain⟨b,bu⟩:=aN (l:=e.dl) hi;have aq:=Y.trans ao;refine bk Ω ?_;rw[bf af.u ac.i Ψ (aT.ext aq) bu];refine aR (λr aG=>r= .bool (decide (¬(-1<=b/\b<z)))/\Ext am aG) ?_ ?_
  .rintro _ aG ⟨rfl,aZ⟩;rw[ak];refine⟨λcP=>⟨⟨false,rfl,⟨(λh=>by cases h),λU=>?_⟩⟩,aj.trans (Y.trans aZ)⟩,λcQ=>?_⟩
   .have:=U.dl b (x5 bu);rw[bW] at this;exact absurd this cP
   .rw[aL];refine cO _ _ ⟨aZ,λq cR W bw=>?_⟩;by_cases cS:q=i
    .subst cS;rw[bu] at bw;cases bw;exact X9.1 cQ
    .exact bj q cR Ω bw
  intro bB ab;obtain⟨cK,_,_,_,_,_,cT,br,_⟩:=au.ext aq;rw[aQ,ak];refine⟨λde=>ab _ _ ⟨by rw[decide_eq_true Ω],ao⟩,λdf=>?_⟩;rw[av aD.p 1 cT rfl,av bR.p 0 (ag.ext aq) rfl,dY (y:=e.v) (i:=e.v.toNat) Ω af.u ac.i Ψ br ah,cr];refine ab _ _ ⟨?_,ao⟩;congr 1;exact decide_eq_decide.2 ⟨λh=>Ω,λh=>Ω⟩
 rintro t4 an cN ⟨ao,cU⟩;refine b2 Ω ?_;have aq:=Y.trans ao;rw[av bR.p 2 (ag.ext aq) rfl,aU af.u (aT.ext aq),bn];refine⟨⟨_,rfl,⟨λh=>?_,λU=>?_⟩⟩,aj.trans aq⟩
 .have h:=of_decide_eq_true h;refine⟨bc,be,aE,ce,oY,by rw[<-aA,<-hm];exact h.symm,λb aO=>?_⟩;obtain⟨q,W⟩:=X4.1 aO;rw[bW];exact cU q b (x4.1 W).1 W
 .have:=U.count;rw[<-aA] at this;exact decide_eq_true Ω
end
section
variable {w:x2} {aj ag:Nat} {A R:ah} {n:aY} {s:aB} {t:aC}
theorem sQ (h:kC n s l):∀x∈l,0<=x/\x<n.sizes.length:=λx V=>by
 obtain⟨q,J⟩:=X4.1 V;obtain⟨v,U,W,h1,_⟩:=h q (x4.1 J).1;rw[J] at U;cases U;exact⟨W,h1⟩
theorem CO {ad:y0} (h:ci w aj ag A R n s t) (W:aH .i64 w ad l) (ae:∀x∈l,0<=x) (aB:l.length<=100000000):ai x3 E4 [Γ aj,ad] w λr w'=>Ext w w'/\ ∃g,ao .i64 ac w' g r (bI n.sizes l)/\ ∀q,leads r q->w.heap.size<=q:=by
 refine az func141 ?_;rw[aU af.u W];refine bA.range l.length (λi out aa=>Ext w aa/\ ∃g,ao .i64 ac aa g out (bI n.sizes (l.take i))/\ ∀q,leads out q->w.heap.size<=q) W.le ⟨Ext.refl _,0,ao.nil _ _ _ _,λr U=>by obtain⟨a,n,c,ah,aC⟩:=U;cases ah⟩ ?_ ?_
 .rintro i out aa al hi ⟨J,g,hm,V⟩ am;obtain⟨x,X⟩:=aN (l:=l) hi;refine bk Ω ?_;obtain⟨aD,aE,aF,aG,aI,aJ,L,aM,an,ap,aO,aP,aR,aS⟩:=(h.ext J).1.parts;rw[bf af.u ac.i Ψ (W.ext J) X,aK bF.p 0 an rfl];refine (sE (i:=x) ap h.2.2.2.2).mono ?_;rintro _ aT _ ⟨Y,rfl⟩;rw[if_pos (ae x (x5 X))];refine dJ (k:=.i64) af.u ac.i rfl λv4 aV aW aX ab aq=>?_;have aY:(bI n.sizes (l.take i)).length=i:=by unfold bI;rw[u5,o5];omega
  refine fc af.u ac.i rfl ((hm.ext Y).ext ab) aq.ls Θ Θ λv5 au av aw ax ay=>?_;have z3:=J.size;have aA:Ext w av:=((J.trans Y).trans ab).then ay λr U he=>by have:=V r he;omega
  have z4:=((J.trans Y).trans ab).size;rw[aL];refine am _ _ ⟨aA,au,?_,λr U=>(ax r U).elim (V r) λh=>Ω⟩;rw[show bI n.sizes (l.take (i+1))=bI n.sizes (l.take i)++[n.sizes.getD x.toNat 0] by unfold bI;rw[r9,X,j9];rfl];exact aw
 .rintro out aa al ⟨J,g,hm,V⟩;rw[aQ,ak];rw[o9] at hm;exact⟨λh=>Ω,λ_=>⟨J,g,hm,V⟩⟩
theorem CP {s:aB} {i:Int}:fV s i s.funs.length=[]↔ ∀f∈s.funs,f.live≠0->i∉f.sc:=by
 unfold fV;rw[List.map_eq_nil_iff,List.filter_eq_nil_iff];constructor
 .intro h f U W hm;obtain⟨q,V⟩:=X4.1 U;refine h q (List.mem_range.2 (x4.1 V).1) ?_;unfold hX;rw[V];simp only;rw[decide_eq_true W,decide_eq_true hm];rfl
 .intro h q V J;unfold hX at J;cases U:s.funs[q]? with
  |none=>rw[U] at J;cases J
  |some f=>
   rw[U] at J;simp only[U8,decide_eq_true_eq] at J;exact h f (x5 U) J.1 J.2
theorem MK {bv:y0} {e:hx} (h:ci w aj ag A R n s t) (J:aH .i64 w ax e.sc) (a8:aH .i64 w bv e.dl) (bZ:e.dl.length<=1000000) (bu:e.sc.length<=100000000):ai x3 E6 [Γ aj,.agg #[Δ e.v,ax,bv]] w λr w'=>(∃b,r= .bool b/\(b=true↔nu n s e))/\Ext w w':=by
 have ba:=h.2.2.2.1;have b0:=ba.vars;refine az func143 ?_;refine bP λg1 V b1 bw bb=>?_;refine bP λbx aa b3 bc aP=>?_;have am:=bw.trans bc;have an:ad aa g1 et [Γ aj]:=bb.ext bc;have X:ad aa bx bW [Δ e.v,ax,bv]:=by
  obtain⟨_,_,_,bz⟩:=b7 J;obtain⟨_,_,_,bA⟩:=b7 a8;rw[bz,bA] at aP ⊢;exact aP
 have aT:=J.ext am;have aV:=a8.ext am;have ao:=h.ext am;clear aP bb;refine aR (λr bd=>∃b,r= .bool b/\(b=false↔(0<=e.v/\e.v<n.sizes.length)/\ft s e.v.toNat=false/\(∀f∈s.funs,f.live≠0->e.v∉f.sc)/\kC n s e.sc/\e.v∉e.sc)/\Ext aa bd) ?_ ?_
 rotate_left
 .intro bB ab;rw[aS (o:=0) Ψ (an.Qz rfl),av bW.p 0 X rfl];refine (qk (i:=e.v) ao).mono ?_;rintro _ be _ ⟨rfl,ae⟩;rw[bg,bt];refine⟨λay=>ab _ _ ⟨true,rfl,⟨(λh=>by cases h),λaw=>?_⟩,ae⟩,λaW=>?_⟩
  .rw[decide_eq_true aw.1] at ay;cases ay
  have aA:0<=e.v/\e.v<n.sizes.length:=by simpa using aW
  rw[aS (o:=0) Ψ ((an.ext ae).Qz rfl),av bW.p 0 (X.ext ae) rfl];refine (qm (i:=e.v) (ao.ext ae)).mono ?_;rintro _ aB _ ⟨rfl,ah⟩;have W:=ae.trans ah;rw[decide_eq_true aA.1,V6,bt];refine⟨λU=>ab _ _ ⟨true,rfl,⟨(λh=>by cases h),λaw=>?_⟩,W⟩,λaX=>?_⟩
  .rw[U] at aw;cases aw.2.1
  rw[aS (o:=0) Ψ ((an.ext W).Qz rfl),av bW.p 0 (X.ext W) rfl];refine (CI (i:=e.v) (ao.ext W)).mono ?_;rintro b4 aG _ ⟨aC,b5,bC,_⟩;have ap:=W.trans aC;rw[aU af.u bC.ls,bY,ak];refine⟨λU=>ab _ _ ⟨true,rfl,⟨(λh=>by cases h),λaw=>?_⟩,ap⟩,λU=>?_⟩
  .rw[CP.2 aw.2.2.1] at U;simp at U
  have bD:=CP.1 (Z8 (l:=fV s e.v s.funs.length) Ω);rw[aS (o:=0) Ψ ((an.ext ap).Qz rfl),av bW.p 1 (X.ext ap) rfl];refine (Cw (ao.ext ap) (aT.ext ap)).mono ?_;rintro _ bh _ ⟨⟨b,rfl,bi⟩,bE⟩;have aD:=ap.trans bE;rw[bg,bt];refine⟨λay=>ab _ _ ⟨true,rfl,⟨(λh=>by cases h),λaw=>?_⟩,aD⟩,λaW=>?_⟩
  .rw[bi.2 aw.2.2.2.1] at ay;cases ay
  have aE:=bi.1 (by simpa using aW);rw[av bW.p 1 (X.ext aD) rfl,av bW.p 0 (X.ext aD) rfl];refine (wh (x:=e.v) (aT.ext aD)).mono ?_;rintro _ bG _ ⟨rfl,aF⟩;exact ab _ _ ⟨_,rfl,⟨λh=>⟨aA,aX,bD,aE,of_decide_eq_false h⟩,λh=>decide_eq_false h.2.2.2.2⟩,aD.trans aF⟩
 rintro _ bd ⟨b,rfl,bj,aq⟩;rw[bt];refine⟨λbl=>⟨⟨false,rfl,⟨(λh=>by cases h),λU=>?_⟩⟩,am.trans aq⟩,λbH=>?_⟩
 .rw[bj.2 ⟨U.has,U.there,U.oY,U.scope,U.out⟩] at bl;cases bl
 obtain⟨aA,aX,oY,aE,bJ⟩:=bj.1 bH;rw[aS (o:=0) Ψ ((an.ext aq).Qz rfl),av bW.p 1 (X.ext aq) rfl];refine (CO (ao.ext aq) (aT.ext aq) (λx al=>(sQ aE x al).1) bu).mono ?_;rintro b6 be _ ⟨ae,gz,aI,_⟩;obtain⟨L,au⟩:∃L,L=bI n.sizes e.sc:=⟨_,rfl⟩;rw[<-au] at aI;have bm:=aq.trans ae;have b8:L.length=e.sc.length:=by rw[au];unfold bI;rw[u5]
 have aY:∀x∈L,1<=x/\x<=32:=λx al=>by
  rw[au] at al;unfold bI at al;obtain⟨v,bK,rfl⟩:=Z6.1 al;obtain⟨b9,h1⟩:=sQ aE v bK;obtain⟨z,aM⟩:=aN (l:=n.sizes) (i:=v.toNat) Ω;rw[u9,aM];exact ba.ej.2.2 z (x5 aM)
 have bL:∀q,0<=aJ (L.take q):=λq=>by
  induction q with
  |zero=>simp[aJ]
  |succ q aZ=>
   cases a1:L[q]? with
   |none=>
    have:=List.getElem?_eq_none_iff.1 a1;rw[n0 Ω];rw[n0 Ω] at aZ;exact aZ
   |some x=>
    rw[kg a1];exact Int.mul_nonneg aZ (by have:=(aY x (x5 a1)).1;omega)
 have bM:∀q,aJ (L.take q)<=aJ L:=λq=>by
  have:=CM (l:=L.take q) (m:=L.drop q) (λx al=>(aY x (List.mem_of_mem_drop al)).1) (bL q);rwa [List.take_append_drop] at this
 rw[aU af.u aI.ls];refine lF.range L.length (λi _ bN aB=>Ext be aB/\ ∃m:Int,bN=Δ m/\m=aJ (L.take i)/\0<=m/\m<=1000000) aI.ls.le ⟨Ext.refl _,1,rfl,rfl,Ω,Ω⟩ ?_ ?_
 .rintro i t4 _ aB bO hi ⟨ah,m,rfl,hm,bo,bp⟩ bQ;obtain⟨z,a2⟩:=aN (l:=L) hi;have bR:=aY z (x5 a2);have W:=bm.trans ah;have ca:0<=m*z/\m*z<=1000000*32:=⟨Int.mul_nonneg bo Ω,Int.mul_le_mul bp bR.2 Ω Ω⟩;have bS:aJ (L.take (i+1))=m*z:=by rw[kg a2,hm]
  refine bk Ω ?_;rw[bf af.u ac.i Ψ (aI.ls.ext ah) a2,fL,wrap_i64 Ω Ω,
   av bW.p 2 (X.ext W) rfl,aU af.u (aV.ext W),bY,ak]
  refine⟨λcb=>⟨⟨false,rfl,⟨(λh=>by cases h),λU=>?_⟩⟩,am.trans W⟩,λcc=>?_⟩
  .have h1:=U.count;rw[<-au] at h1;have:=bM (i+1);omega
  .rw[aL];exact bQ _ _ _ ⟨ah,_,rfl,bS.symm,Ω,Ω⟩
 rintro t4 _ aB bO ⟨ah,m,rfl,hm,bo,bp⟩;rw[o9] at hm;have W:=bm.trans ah;have bq:=X.ext W;obtain⟨z,aM⟩:=aN (l:=n.sizes) (i:=e.v.toNat) Ω;have a6:n.sizes.getD e.v.toNat 0=z:=by rw[u9,aM];rfl
 refine b2 Ω ?_;rw[kX];refine aR (λr aG=>r= .bool (decide (m=e.dl.length/\ ∀b∈e.dl,-1<=b/\b<z))/\Ext aB aG) ?_ ?_
 .rintro _ aG ⟨rfl,aC⟩;refine⟨⟨_,rfl,⟨λaO=>?_,λU=>?_⟩⟩,am.trans (W.trans aC)⟩
  .have aO:=of_decide_eq_true aO;exact⟨aA,aX,aE,bJ,oY,by rw[<-au,<-hm];exact aO.1.symm,λb Y=>by rw[a6];exact aO.2 b Y⟩
  .have h1:=U.count;rw[<-au,<-hm] at h1;exact decide_eq_true ⟨h1.symm,λb Y=>by have:=U.dl b Y;rwa [a6] at this⟩
 intro bB ab;rw[av bW.p 2 bq rfl,aU af.u (aV.ext W),bn,ak];refine⟨λhe=>?_,λbT=>ab _ _ ⟨by rw[decide_eq_false λh=>bT h.1],Ext.refl _⟩⟩;rw[av bW.p 2 bq rfl];refine (Mz (p:=λb=>decide (¬(-1<=b/\b<z))) (aV.ext W) λw' y bU cd=>?_).mono ?_
 .refine az func219 ?_;refine aR (λr bh=>r= .bool (decide (¬(-1<=y/\y<z)))/\Ext w' bh) (λ_ _ h=>h) λce br=>?_;intro bG aF _ _;have a7:=W.trans (bU.trans aF);rw[aQ,ak];refine⟨λcg=>br _ _ ⟨by rw[decide_eq_true Ω],aF⟩,λch=>?_⟩;obtain⟨cj,ck,cl,cm,cn,cp,cq,ct,Y,bV,cu,cw,cz,cA⟩:=(ao.ext a7).1.parts;rw[aS (o:=0) Ψ ((an.ext a7).Qz rfl),aK bF.p 0 Y rfl,av bW.p 0 (X.ext a7) rfl];refine (sE (i:=e.v) bV h.2.2.2.2).mono ?_;rintro _ cB _ ⟨bX,rfl⟩;rw[if_pos aA.1,a6,cr];refine br _ _ ⟨?_,aF.trans bX⟩;congr 1;exact decide_eq_decide.2 ⟨λh=>Ω,λh=>Ω⟩
 rintro _ aG _ ⟨rfl,aC⟩;rw[bg];refine ab _ _ ⟨?_,aC⟩;congr 1;rw[U4];simp only[Bool.not_eq_true',List.any_eq_false,decide_eq_true_eq,X9];exact⟨λaw=>⟨he,λb Y=>aw b Y⟩,λaw b Y=>aw.2 b Y⟩
end
end Go.Proofs.YthjegppepbbojaaGreatDoor
