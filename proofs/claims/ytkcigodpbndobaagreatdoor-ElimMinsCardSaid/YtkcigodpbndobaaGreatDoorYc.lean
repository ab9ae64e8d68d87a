/- own texts, made small by a tool (wip/ holds them as they were written): no statement of the seat. -/
import Derived.Test.YtkcigodpbndobaaGreatDoorYb
set_option linter.unusedVariables false
set_option linter.unusedSimpArgs false
set_option linter.unnecessarySimpa false
open Bool renaming false→sp,true→rs,not_true→Y2,not_false→X1,eq_iff_iff→U5
open Decidable renaming not_not→Z2
open Go renaming Value→x1,World→x3,TypeId→r8,IntKind→o4,Builtin→j5,Program→X2,Addr→S6,FuncId→S9
open Go.Addr renaming add_mid→W0
open Go.Builtin renaming append_→j4,len_→X7,zeroCells→S1
open Go.Instr renaming loadAt→u4,fieldAt→u6,storeAt→o6,indexAt→j0,extract→c7,buildSlice→Z3,sliceAt→V6,alloc→S5
open Go.IntKind renaming i64→Y6
open Go.Proofs.Tryz renaming prog→x7
open Go.Value renaming int→Y9,cells→T5
open Int renaming toNat_natCast→u7
open List renaming getElem?_eq_some_iff→x4,mem_of_getElem?→x5,getElem?_eq_getElem→x6,getElem?_map→x8,getD_eq_getElem?_getD→v8,take_add_one→u5,replicate→u9,length_map→r9,take_length→p8,length_append→p9,take_of_length_le→o7,mem_map→o8,mem_append→o9,map_append→n9,length_take→j6,ext_getElem?→j9,mem_iff_getElem?→c8,eq_nil_of_length_eq_zero→c9,mem_singleton→b8,range→Z4,getElem?_set_self→Z5,getElem?_eq_none→Y0,getElem?_take_of_lt→Y3,length_cons→Y4,getElem?_append_right→Y5,append_assoc→Y7,getElem?_set→Y8,drop_eq_getElem_cons→X0,length_eq_one_iff→X3,pairwise_iff_getElem→X5,getElem?_set_ne→W5,getElem?_append_left→W8,append_nil→V2,map_congr_left→V3,mem_of_mem_take→V4,map_set→V5,flatMap_cons→U3,map_cons→U4,length_set→U7,getElem_mem→T0,mem_or_eq_of_mem_set→T4,set_append_right→S7,length_filter_le→S8
open Nat renaming le_refl→o5,le_trans→Y1,zero_le→X8,zero_add→V0,mul_one→V1,mul_le_mul_right→V7,sub_self→U1,add_mul→T7
open Option renaming toList_some→l7,isNone_some→l9,some→b9,map_some→Z0,map_eq_some_iff→Z6,map→W3,getD_some→R3
open Option.some renaming inj→Z7,injEq→X6
set_option maxHeartbeats 16000000
open Option renaming some→σ,none→ν
variable{k y:Int}{e:r8}{I w w0:x3}{bp bv sv v z:x1}{l co szs t:Λ}{B N a ac ad gs j n r:Nat}{S:Nat->Prop}{cs:List x1}{K:x1->x3->Prop}
namespace Go.Proofs.YtkcigodpbndobaaGreatDoor
open Go Go.Vc Go.RowKit Go.Proofs Go.Proofs.Tryz
set_option maxRecDepth 100000
theorem iy{k:o4}{g:Nat}(h:an k e w g v l)(f:0<l.length):g<w.heap.size:=by
 obtain⟨_,⟨_,h1⟩|⟨_,_,_,a,_⟩⟩:=h
 .omega
 .exact a.lt
def gp(w:x3)(g m:Nat)(sv:x1)(gs:Nat)(szs:Λ)(k o:Int)(D:Told):Prop:=
 ag w g fM [sv,Δ k,Δ o,.map (σ m)]/\an .i64 ae w gs sv szs/\de w m (D.map lj)/\bU szs/\cK o k/\∀p∈D,cW szs p.1/\cK p.2 k/\p.2≠o
theorem gp.is{g m:Nat}{o:Int}{D:Told}(h:gp w g m sv gs szs k o D):e1 w g m szs k o D:=⟨⟨sv,gs,h.1,h.2.1⟩,h.2.2⟩
theorem e1.at{g m:Nat}{o:Int}{D:Told}(h:e1 w g m szs k o D):∃sv gs,gp w g m sv gs szs k o D:=by
 obtain⟨⟨sv,gs,h1,a⟩,e⟩:=h;exact⟨sv,gs,h1,a,e⟩
theorem gp.W{g m:Nat}{o:Int}{D:Told}(h:gp w g m sv gs szs k o D)(a:Ext w I):gp I g m sv gs szs k o D:=by
 obtain⟨h1,e,f,j⟩:=h;exact⟨h1.W a,e.W a,f.W a,j⟩
theorem gp.aa{g m:Nat}{o:Int}{D:Told}(h:gp w g m sv gs szs k o D)(a:af S w I)(e:¬S g)(hm:¬S m)(U:∀r,li sv r->¬S r):gp I g m sv gs szs k o D:=by
 obtain⟨h1,f,j,p⟩:=h;exact⟨h1.aa a e,bl f a U,j.aa a hm,p⟩
theorem vh{g m:Nat}{d:List (x1×x1)}(h:ag w g e cs)(hm:de w m d):g≠m:=by
 rintro rfl;obtain⟨a,c,h1,_⟩:=hm;unfold ag at h;rw[h1]at h;cases h
theorem Eu{g m:Nat}{k:o4}{d:List (x1×x1)}(h:an k e w g v l)(hm:de w m d)(f:li v r):r≠m:=by
 obtain⟨rfl,_⟩:=bD h f;obtain⟨_,⟨rfl,_⟩|⟨_,_,_,j,_⟩⟩:=h
 .obtain⟨a,n,c,h,_⟩:=f;cases h
 .exact vh j hm
theorem gp.put{g m:Nat}{o:Int}{D D':Told}(h:gp w g m sv gs szs k o D)(a:af (λr=>r=m) w I)(bf:e1 I g m szs k o D'):gp I g m sv gs szs k o D':=
 ⟨h.1.aa a (λhe=>vh h.1 h.2.2.1 he),bl h.2.1 a (λr e he=>Eu h.2.1 h.2.2.1 e he),bf.2⟩
theorem gp.sA{g m:Nat}{o:Int}{D:Told}(h:gp w g m sv gs szs k o D):g<w.heap.size/\m<w.heap.size/\∀r,li sv r->r<w.heap.size:=
 ⟨h.1.lt,h.2.2.1.lt,λr a=>by obtain⟨rfl,e⟩:=bD h.2.1 a;exact e⟩
instance (s t:Λ):Decidable (cW s t):=decidable_of_iff ((cc s t 0).isSome=rs) ⟨λh=>by
 cases a:cc s t 0 with
 |none=>rw[a]at h;cases h
 |some n=>exact⟨n,a⟩,λ⟨n,h⟩=>by rw[h];rfl⟩
theorem vi(h:aF .i64 w sv l)(G:l.length<=1000000):ak x7 Bt [sv] w λv I=>Ext w I/\∃g,w.heap.size<=g/\an .i64 ae I g v l:=by
 refine ay func55 ?_;rw[aS au.u h];refine jy (k:=.i64) ai.u ae.i Ω Ω λg J H j p=>?_;have y:an .i64 ae J g (.slice (σ ⟨g,0,ν⟩) l.length l.length) (u9 l.length 0):=by
  have:=bW.full (k:=1) (n:=l.length) p Ξ (by simp[maxLen];omega);exact an.of this
 rw[aS au.u (h.W j)];have K:=p.lt;refine ce.range l.length (λi V=>af (λr=>r=g) J V/\an .i64 ae V g (.slice (σ ⟨g,0,ν⟩) l.length l.length) (l.take i++u9 (l.length-i) 0)) h.le ⟨af.refl _ _,by simpa using y⟩ ?_ ?_
 rotate_left
 .rintro V z ⟨f,a⟩;rw[aP,aj];rw[p8,U1,List.replicate_zero,V2]at a;exact⟨λh=>Ω,λ_=>⟨j.put f Ω,g,Ω,a⟩⟩
 rintro i V z hi ⟨f,a⟩ A;obtain⟨x,q⟩:=aC (l:=l) hi;have B:Ext w V:=j.put f Ω;refine bt Ω ?_;rw[ba au.u ao.i Ψ (h.W B) q];rw[gb rfl ai.u ae.i a Θ];refine gd ae.i a Θ λL C M s=>?_;rw[aL];refine A _ ⟨f.F C,?_⟩;have e:(l.take i++u9 (l.length-i) 0).set i x=l.take (i+1)++u9 (l.length-(i+1)) 0:=by
  have E:(l.take i).length=i:=by rw[j6];omega
  rw[S7 _ _ Ω,E,U1,show l.length-i=(l.length-(i+1))+1 by omega,List.replicate_succ,List.set_cons_zero,u5,q,l7,Y7];rfl
 rw[e]at s;exact s
def OK(w:x3)(l:Λ)(k o:Int)(v:x1)(I:x3):Prop:=
 Ext w I/\(¬bU l->v= .tuple #[.pointer ν,Δ 1])/\(bU l->¬cK o k->v= .tuple #[.pointer ν,Δ 3])/\
  (bU l->cK o k->∃g m sv gs,v= .tuple #[Γ g,Δ 0]/\w.heap.size<=g/\w.heap.size<=m/\(∀r,li sv r->w.heap.size<=r)/\gp I g m sv gs l k o [])
theorem OL{o:Int}(h:aF .i64 w sv l):ak x7 qI [sv,Δ k,Δ o] w (OK w l k o):=by
 refine ay func125 ?_;refine aV (λv J=>Ext w J/\∃c,v= .bool c/\(c=rs↔¬bU l)) ?_ ?_
 .rintro _ J ⟨e,c,rfl,f⟩;rw[bM];refine⟨λx=>⟨e,λ_=>rfl,λh=>m7 h (f.1 x),λh=>m7 h (f.1 x)⟩,λA=>?_⟩;have U:bU l:=Classical.byContradiction λh=>by have:=f.2 h;rw[A]at this;cases this
  have I:=U.1;refine lb.X ?_;rintro _ V _ ⟨rfl,a⟩;by_cases hi:cK o k
  rotate_left
  .simp only[hi,decide_false,bA,X1,bZ];exact⟨e.F a,λh=>m7 U h,λ_ _=>rfl,λ_ h=>m7 h hi⟩
  simp only[hi,decide_true,bA,Y2,aW];refine(jZ ((h.W e).W a) Ω).X ?_;rintro aO K _ ⟨y,B,L,hm⟩;have M:=hm.ls.cells;refine uV λm N O j C=>?_;rw[dq (cs:=#[aO,Δ k,Δ o,.map (σ m)]) (by obtain⟨_,_,_,_,_,rfl,_⟩:=hm.ls;kernel_rfl)];refine bj λg P Q q E=>?_;have s1:=e.size;have s2:=a.size;have R:=y.size;have S:=j.size;exact⟨((((e.F a).F y).F j).F q),λh=>m7 U h,λ_ h=>m7 hi h,λ_ _=>⟨g,m,aO,B,rfl,Ω,Ω,λr G=>by have:=(bD hm G).1;omega,E,(hm.W j).W q,C.W q,U,hi,λp H=>by cases H⟩⟩
 .intro az z;rw[aS ai.u h];simp only[bG,aj];refine⟨λW=>z _ _ ⟨Ext.refl _,rs,rfl,λ_ U=>by have:=U.1;omega,λ_=>rfl⟩,λX=>?_⟩;refine(Dz h).X ?_;rintro _ V _ ⟨rfl,a⟩;refine z _ _ ⟨a,_,rfl,?_⟩;rw[rc];exact⟨λs U=>s U.2,λs U=>s ⟨Ω,U⟩⟩
structure Ev where
 szs:Λ
 k:Int
 o:Int
 D:Told
instance Vw:aq Ev where
 n:=1
 rep _ _ R w cs a:=∃g m sv gs,cs=[Γ g]/\gp w g m sv gs a.szs a.k a.o a.D/\R g/\R m/\∀r,li sv r->R r
 len:=by rintro _ _ _ _ _ _ ⟨_,_,_,_,rfl,_⟩;rfl
 one:=by rintro _ _ _ _ _ _ ⟨_,_,_,_,rfl,_⟩ u z;simp at z;subst z;rfl
 aa:=by
  rintro _ _ R T w I _ a ⟨g,m,sv,gs,rfl,h1,f,h,j⟩ A p;obtain⟨q,s,x⟩:=h1.sA;exact⟨g,m,sv,gs,rfl,h1.aa A (p g q (.inr f)) (p m s (.inr h)) λr e=>p r (x r e) (.inr (j r e)),f,h,j⟩
 X:=by
  rintro _ _ _ R R' w _ a ⟨g,m,sv,gs,rfl,h1,f,h,j⟩ _ y;obtain⟨q,s,x⟩:=h1.sA;exact⟨g,m,sv,gs,rfl,h1,y g q f,y m s h,λr e=>y r (x r e) (j r e)⟩
 jR:=by
  rintro _ _ R w _ a ⟨g,m,sv,gs,rfl,h1,f,h,j⟩;exact⟨g,m,sv,gs,rfl,h1,.inr f,.inr h,λr e=>.inr (j r e)⟩
abbrev iz:Type:=Rd (Λ)×Ev
def sQ(k:Int)(x:cv)(f:iz):Prop:=f.1=x.scope/\f.2.szs=x.co/\f.2.k=k/\f.2.o=min x.other k/\f.2.D.length<=x.lines.length/\∀t,jF f.2.D f.2.o t=lh x k t
theorem OM{m:Bool}{S R:ah}{x:cv}(h:aq.rep m S R w cs (iU x)):∃aI d9 cm,cs=[aI,d9,Δ x.other,cm]/\aq.rep (α:=Λ) sp bO R w [aI] x.scope/\aq.rep (α:=Λ) sp bO R w [d9] x.co/\aq.rep (α:=List (Λ×Int)) sp bO R w [cm] x.lines:=by
 obtain⟨j,d1,q,r,rfl,_,_,_,h1,p,d2,s,z,rfl,_,_,_,a,A,d3,B,C,rfl,_,_,_,f,e⟩:=h;have h1:=h1;have a:=a;have f:=f;have e:=e;obtain⟨u,rfl⟩:=X3.1 (show j.length=1 from aq.len h1);obtain⟨v,rfl⟩:=X3.1 (show p.length=1 from aq.len a);obtain⟨y,rfl⟩:=X3.1 (show d3.length=1 from aq.len e);subst f;exact⟨u,v,y,rfl,h1,a,e⟩
theorem ON{m:Bool}{S R:ah}{p:Λ×Int}(h:aq.rep m S R w cs p):∃aO,cs=[aO,Δ p.2]/\aF .i64 w aO p.1:=by
 obtain⟨e,d1,f,j,rfl,_,_,_,h1,a⟩:=h;obtain⟨u,rfl⟩:=X3.1 (show e.length=1 from aq.len h1);have a:=a;subst a;exact⟨u,rfl,eC h1⟩
structure vj(k:Int)(x:cv):Prop where
 k:right k
 co:bU x.co
 other:0<=x.other
 lines:oH x.co x.lines
 len:x.lines.length<=60000
 scope:x.scope.length<=100001
theorem cE{k:o4}(h:aF k w v l):∃a n c,v= .slice a n c:=by
 obtain⟨_,b,o,base,cap,rfl,_⟩:=h
 grind
theorem OO{aE aF aG:x1}{K:Int}{R:ah}{x:cv}(ae:ag w ac cH [aE,Δ K,aF,aG])(aH:Seen R w cs (iU x))(aJ:vj K x):
  ak x7 w7 [Γ ac,.agg cs.toArray] w λv I=>Ext w I/\∃ci,∃f:iz,v= .agg ci.toArray/\ci.length=2/\Seen (e0 w.heap.size) I ci f/\sQ K x f:=by
 obtain⟨aI,d9,cm,rfl,h1,ai,O⟩:=OM aH;obtain⟨E,P,bg,aj,bh,bi⟩:=aJ;have bk:=P.1;refine ay func56 ?_;refine bj λam J bm al e=>?_;have e:ag J am cj [aI,d9,Δ x.other,cm]:=by
  obtain⟨_,_,_,rfl⟩:=nT h1;obtain⟨_,_,_,rfl⟩:=nT ai;obtain⟨_,_,_,rfl⟩:=nT O;exact e
 refine bu cN.i λaM V bp Q G=>?_;have G:=G;intro bq H _ _;have S:=(al.F Q).F H;have U:=Q.F H;have br:=al.size;have bs:=Q.size;have z3:=H.size;have bw:=G.lt;have an:=ae.W S;rw[aK cj.p 1 (e.W U) rfl,aN cH.p 1 an rfl,
  aK cj.p 2 (e.W U) rfl,aN cH.p 1 an rfl,nC]
 refine(vi ((eC ai).W S) Ω).X ?_;rintro bx bz _ ⟨q,bA,bB,aP⟩;refine⟨.inl q,?_⟩;have z4:=q.size;have aQ:cK (min x.other K) K:=⟨E,by have:=E.1;omega,Ω⟩;refine(OL aP.ls).X ?_;rintro _ aR _ ⟨L,_,_,aS⟩;obtain⟨ad,m,sv,gs,rfl,bC,bE,aT,aU⟩:=aS P aQ;rw[bn,bo];have z5:=L.size;have W:=(S.F q).F L;have ao:=(U.F q).F L;rw[aK cj.p 3 (e.W ao) rfl];have ap:=bN O W;rw[jf jT.u ap];refine ce.range x.lines.length (λi M=>af (λr=>r=m) aR M/\∃D,D.length<=i/\gp M ad m sv gs x.co K (min x.other K) D/\∀t,jF D (min x.other K) t=mU x K i t) (qP ap) ⟨af.refl _ _,[],o5 _,aU,λt=>by rw[Ek];rfl⟩ ?_ ?_
 .rintro i M aV hi ⟨a,D,aq,s,au⟩ aW;obtain⟨p,X⟩:=aC (l:=x.lines) hi;have av:=aj.2 p (x5 X);have y:=W.put a Ω;have aX:=a.size;have aY:=bN O y;refine bt Ω ?_;refine nM ev.p rfl jT.u ev.i aY X λbF aZ=>?_;obtain⟨aO,rfl,aw⟩:=ON aZ;refine bu ev.i λbG bH bI ax a1=>?_;have bJ:=ax.size;refine b4 (vs:=[aO,Δ p.2]) ev.i rfl rfl (by intro v z;simp at z;rcases z with rfl|rfl<;>first|exact aw.cells.2|rfl) a1 λbK a2 bL az=>?_;have a6:=ax.put a2 Ω;intro bM Y _ _;have j:=a6.F Y;have z9:=j.size;rw[aK ev.p 0 (az.W Y) rfl,aK ev.p 1 (az.W Y) rfl,aN cH.p 1 ((ae.W y).W j) rfl,nC];have bP:=yc P av.1;refine(vi (aw.W j) Ω).X ?_;rintro bQ bR _ ⟨A,bS,bT,a7⟩;refine⟨.inl A,?_⟩;have bU:=A.size;refine(DH ((s.W j).W A).is a7.ls).X ?_;rintro _ bV _ ⟨_,a8⟩;have ba:cK (min p.2 K) K:=⟨E,by have:=E.1;omega,Ω⟩;obtain⟨rfl,aA,D',aB,aD⟩:=a8 ⟨av.1,ba⟩;rw[aL];refine aW _ ⟨(a.F ((j.F A).aa _)).F aA,D',by have:=aB.2;omega,gp.put ((s.W j).W A) aA aD,λt=>?_⟩;rw[Em aj.1 X,aB.cost s.is.nodup aD.nodup]
  grind
 .rintro M aV ⟨a,D,aq,s,au⟩;have y:=W.put a Ω;have bb:=ao.put a Ω;have aX:=a.size;refine b6 Ω ?_;rw[aK cj.p 0 (e.W bb) rfl];refine(vi ((eC h1).W y) Ω).X ?_;rintro Z bW _ ⟨N,bX,bY,B⟩;have z12:=N.size;rw[dq (cs:=#[Z,Γ ad]) (by obtain⟨_,_,_,rfl⟩:=cE B.ls;kernel_rfl)];have bc:=((H.F q).F L).put a Ω;refine b4 (vs:=[Z,Γ ad]) cN.i rfl rfl (by intro v z;simp at z;rcases z with rfl|rfl<;>first|exact B.ls.cells.2|rfl) ((G.W bc).W N) λbZ ab b0 bd=>?_;rw[fA cN.p cN.i rfl bd.range];have be:=(s.W N).aa ab Ω Ω (by grind);have bf:=bl B ab λr C he=>by have he:r=aM:=he;have:=(bD B C).1;omega
  refine⟨(y.F N).put ab Ω,_,(x.scope,⟨x.co,K,min x.other K,D⟩),rfl,rfl,?_,rfl,rfl,rfl,rfl,aq,λt=>?_⟩
  .exact⟨[Z],[Γ ad],bO,bO,rfl,λ_ h=>h,λ_ h=>h,λ_ _ h _=>h,sO bf λr C=>by have:=(bD B C).1;omega,
    ⟨ad,m,sv,gs,rfl,be,by show w.heap.size<=ad;omega,by show w.heap.size<=m;omega,λr C=>by have:=aT r C;show w.heap.size<=r;omega⟩⟩
  .rw[au,El]
theorem OP{S R:ah}{f:iz}(h:aq.rep sp S R w cs f):aq.rep (α:=iz) rs bO R w cs f:=by
 obtain⟨c,d,A,B,rfl,h1,j,_,a,e⟩:=h;exact⟨c,d,bO,bO,rfl,λ_ h=>h,λ_ h=>h,λ_ _ h _=>h,a,e⟩
def vk(k:Int)(a:List cv)(e:List iz):Prop:=e.length=a.length/\∀(i:Nat)x f,a[i]?=σ x->e[i]?=σ f->sQ k x f
theorem OQ{e:Nat}{m:Bool}{S R:ah}{W d9 an:x1}{K:Int}{q:List cv}{aF:x3->Prop}(aG:ag w e cH [W,Δ K,d9,.slice ν 0 0])(aX:aq.rep m S R w [an] (show List jG from q.map iU))(aY:∀r,S r\/R r->r≠e)(aZ:∀x∈q,vj K x)(bM:q.length<=256)(a1:∀I z,∀s:List iz,af (λr=>r=e) w I->ag I e cH [W,Δ K,d9,z]->Seen (λr=>w.heap.size<=r) I [z] s->vk K q s->aF I):
  ce (Δ 0) w λao E a2=>
   ab x7 (aQ .lss ae sp sp ao (Δ (q.length:Int))) E λt182=>
   Split t182 (ab x7 (j0 kr an ao) E λt183=>
   ab x7 (u4 cj t183) E λa6=>
   aD x7 (S5 cj rs (.tuple #[])) E λx a7=>
   aD x7 (o6 cj x a6) a7 λ(_:Unit)a8=>
   eu a8 λC=>
   ab x7 (bR (Γ e)) C λG=>
   ab x7 (u6 cH G 3) C λH=>
   ab x7 (u4 dM H) C λap=>
   ab x7 (u4 cj x) C λba=>
   ak x7 w7 [(Γ e),ba] C λbb L=>
    (Ext C L\/cC x7 (u4 dM H) ap L/\cC x7 (u6 cH G 3) H L/\cC x7 (bR (Γ e)) G L/\True)/\
   aD x7 (Z3 dM 1 #[(0,bb)]) L λbc M=>
    (Ext C M\/cC x7 (u4 dM H) ap M/\cC x7 (u6 cH G 3) H M/\cC x7 (bR (Γ e)) G M/\True)/\
    aD x7 (j4 #[dM,dM] dM #[ap,bc]) M λbd au=>
     ab x7 (bR (Γ e)) au λbe=>
     ab x7 (u6 cH be 3) au λbf=>
     aD x7 (o6 dM bf bd) au λ(_:Unit)aH=>
     ab x7 (aQ .add ae sp rs ao (Δ 1)) aH λbg=>
   a2 bg aH) (aF E):=by
 have bP:=aG.lt;have bQ:(q.map iU).length=q.length:=Ξ
 refine ce.range q.length (λi J=>af (λr=>r=e) w J/\∃z,∃s:List iz,∃A R':ah,ag J e cH [W,Δ K,d9,z]/\bH A R' J [z] s/\(∀r,A r->w.heap.size<=r/\r<J.heap.size)/\(∀r,R' r->w.heap.size<=r/\¬A r/\r<J.heap.size)/\vk K (q.take i) s) Ω
  ⟨af.refl _ _,_,[],bO,bO,aG,iw,λ_ h=>h.elim,λ_ h=>h.elim,rfl,λi x f h=>by simp at h⟩ ?_ ?_
 rotate_left
 .rintro J bh ⟨N,z,s,A,R',O,av,B,P,X⟩;rw[p8]at X;rw[aP,aj];refine⟨λh=>Ω,λ_=>a1 J z s N O (sd av λr _ h=>?_) X⟩;exact h.elim (λh=>(B r h).1) λh=>(P r h).1
 rintro i J bh hi ⟨N,z,s,A,R',O,av,B,P,aI,X⟩ bi;obtain⟨x,aw⟩:=aC (l:=q) hi;have bj:=aZ x (x5 aw);have bT:=N.size;rw[j6]at aI;have bk:aq.rep m S R J [an] (show List jG from q.map iU):=aq.aa aX N λr _ h he=>aY r h he;refine bt Ω ?_;refine nM (α:=jG) (a:=iU x) cj.p rfl kr.u cj.i bk (by show(q.map iU)[i]?=_;rw[x8,aw];rfl) λcs ax=>?_;have aJ:cs.length=4:=aq.len ax;have bl:Seen (λr=>S r\/R r) J cs (iU x):=sd ax λr _ h=>h;refine bu cj.i λam V bU aK bm=>?_;have bV:=aK.size;refine b4 (vs:=cs) cj.i aJ rfl (aq.one ax) bm λbn bo bW bp=>?_;have bq:Ext J bn:=aK.put bo Ω;intro Y aM _ _;have Q:=bq.F aM;have z4:=Q.size;rw[aN cH.p 3 (O.W Q) rfl,bC cj.p cj.i aJ (bp.W aM).range];refine(OO (O.W Q) (bN bl Q) bj).X ?_;rintro _ Z _ ⟨ac,ci,f,rfl,bX,aO,br⟩;have z5:=ac.size;refine⟨.inl ac,?_⟩;have aR:=OP aO;have bs:=Q.F ac;refine la (α:=iz) (a:=f) (cs:=ci) (A:=bO) (R:=e0 Y.heap.size) dM.u cN.i Φ (by
  obtain⟨c,d,bY,bZ,he,_,_,_,ad,bx⟩:=aO;have ad:aq.rep (α:=Λ) sp bO _ Z c f.1:=ad;obtain⟨u,rfl⟩:=X3.1 (show c.length=1 from aq.len ad);obtain⟨b0,cn,b1,b2,rfl,_⟩:=bx;obtain⟨_,_,_,rfl⟩:=nT ad;cases he;rfl) aR λu ay ai _ bz=>?_
 have b3:=ai.size;refine⟨.inl (ac.F ai),?_⟩;have az:=bs.F ai;have bA:bH A (λr=>R' r\/(Y.heap.size<=r/\r<Z.heap.size)) ay [z] s:=bN (aq.X av (λ_ _ h=>h) λ_ _ h=>.inl h) az;have bB:bH bO (λr=>R' r\/(Y.heap.size<=r/\r<Z.heap.size)) ay ci f:=bN (aq.X aR (λ_ _ h=>h) λr y h=>.inr ⟨h,y⟩) ai;refine ox (α:=iz) (a:=f) (A:=bO) dM.u cN.i rfl bA bz bB (λr _ aS h=>?_) Ω Ω λaU bD aA aB=>?_
 .rcases h with h|h|h
  .exact h
  .exact (P r h).2.1 aS
  .have:=(B r aS).2;omega
 have b5:=aB.size;rw[bS,aT cH.p rfl];have bE:=(O.W az).aa aB (λhe=>by have:=(B _ he).1;omega);refine bw (g:=e) (o:=3) dM.i (qO aA) (nK aA) bE Ξ λbF aV b6 aE=>?_;have aE:ag bF e cH [W,Δ K,d9,aU]:=aE;rw[aL];have bG:=nI aA;refine bi _ ⟨(iP (N.F (az.aa _)) aB λr y he=>by have:=(B _ he).1;omega).F aV,aU,s++[f],λr=>((A r\/bO r\/ay.heap.size<=r)/\r<bD.heap.size),λr=>R' r\/(Y.heap.size<=r/\r<Z.heap.size),aE,aq.aa bG aV λr _ h he=>?_,λr y=>?_,λr y=>?_,?_,λj bI bJ al U=>?_⟩
 .have he:r=e:=he;rcases h with h|h|h
  .rcases h.1 with h1|h1|h1
   .have:=(B _ h1).1;omega
   .exact h1
   .omega
  .have:=(P r h).1;omega
  .omega
 .have b7:=y.2;rcases y.1 with h1|h1|h1
  .have:=(B _ h1).1;omega
  .exact h1.elim
  .omega
 .rcases y with y|y
  .have aW:=P r y;refine⟨aW.1,λh=>?_,Ω⟩;rcases h.1 with h1|h1|h1
   .exact aW.2.1 h1
   .exact h1
   .omega
  .refine⟨Ω,λh=>?_,Ω⟩;rcases h.1 with h1|h1|h1
   .have:=(B _ h1).2;omega
   .exact h1
   .omega
 .rw[p9,j6,aI];simp;omega
 .have bK:=(x4.1 U).1;rw[p9,List.length_singleton]at bK;rw[Y3 Ω]at al;by_cases bL:j<s.length
  .rw[W8 bL]at U;exact X j bI bJ (by rw[Y3 Ω];exact al) U
  .rw[Y5 Ω,show j-s.length=0 by omega]at U;rw[show j=i by omega,aw]at al;cases U;cases al;exact br
def mV(w:x3)(h:Nat)(f:ca):Prop:=∃d9 a gz,∃e:List iz,ag w h cH [cb f.name,Δ f.k,d9,a]/\an .i64 ae w gz d9 f.co/\Seen ff w [a] e/\vk f.k f.d7 e
theorem mV.W{e:Nat}{f:ca}(h:mV w e f)(a:Ext w I):mV I e f:=by
 obtain⟨d9,j,gz,p,h1,q,r,s⟩:=h;exact⟨d9,j,gz,p,h1.W a,q.W a,bN r a,s⟩
def Ew(w:x3)(h:Option ca)(v:x1)(I:x3):Prop:=Ext w I/\match h with
 |none=>∃n e:Int,v= .tuple #[.pointer ν,Δ n,Δ e]/\e≠0
 |some f=>∃a,∃n:Int,v= .tuple #[Γ a,Δ n,Δ 0]/\mV I a f
structure OR(clean:Bool)(so:Option aH)(name:Λ)(k:Int)(co:Λ)(acc:List jG)(res:Option ca):Prop where
 ra:∀s,so=σ s->s.d8=[]->clean=rs->s.big=sp->∃fs,acc=fs.map iU/\res=σ ⟨name,k,co,fs⟩/\(∀x∈fs,vj k x)/\fs.length<=256/\co.length<=1000000
 bad:res≠ν->∃s,so=σ s/\s.d8=[]/\clean=rs/\s.big=sp
theorem OS{g:Nat}{A B S R:ah}{m O:Bool}{so:Option aH}{name:Λ}{acc:List jG}{M:Option ca}{d9 aG p:x1}{bo:Λ}{Q:x1->x3->Prop}(aI:iT w g gs A B O so)(U:OR O so name k co acc M)(bp:aF .i64 w d9 co)(bq:∀r,li d9 r->r≠g/\r≠gs)(br:aq.rep m S R w [aG] acc)(a7:∀r,S r\/R r->r≠g/\r≠gs/\r<w.heap.size)(cY:so=ν->True)(cZ:g<w.heap.size)(c0:gs<w.heap.size)(bs:af (λr=>w0.heap.size<=r) w0 w)(c1:w0.heap.size<=g)(c2:w0.heap.size<=gs)(bt:aF .u8 w0 p bo)(ad:∀v I,Ew w0 M v I->Q v I):
  ct (α:=x3->Prop) (λ(j:x3)=>
  ab x7 (bR (Γ g)) j λbu=>
  ab x7 (u6 cD bu 1) j λbw=>
  ab x7 (u6 fe bw 0) j λbx=>
  ab x7 (u4 k5 bx) j λbA=>
  ab x7 (aQ .neq k5 sp rs bA (Δ 0)) j λbB=>
  Split bB (eu j λG=>
   ab x7 (bR (Γ g)) G λbC=>
   ab x7 (u6 cD bC 1) G λbD=>
   ab x7 (u6 fe bD 2) G λbE=>
   ab x7 (u4 ae bE) G λbF=>
   ab x7 (bR (Γ g)) G λbG=>
   ab x7 (u6 cD bG 1) G λbH=>
   ab x7 (u6 fe bH 0) G λbI=>
   ab x7 (u4 k5 bI) G λbJ=>
   Q (.tuple #[(.pointer ν),bF,bJ]) G)
   (ab x7 (bR (Γ g)) j λbK=>
   ab x7 (u6 cD bK 1) j λbL=>
   ab x7 (u6 fe bL 1) j λbM=>
   ab x7 (u4 k5 bM) j λbO=>
   ab x7 (aQ .neq k5 sp rs bO (Δ 0)) j λbP=>
   Split bP (eu j λH=>
   ab x7 (bR (Γ g)) H λbQ=>
   ab x7 (u6 cD bQ 1) H λbT=>
   ab x7 (u6 fe bT 3) H λbU=>
   ab x7 (u4 ae bU) H λbV=>
   ab x7 (bR (Γ g)) H λbW=>
   ab x7 (u6 cD bW 1) H λbX=>
   ab x7 (u6 fe bX 1) H λbY=>
   ab x7 (u4 k5 bY) H λb0=>
   Q (.tuple #[(.pointer ν),bV,b0]) H)
   (ak x7 Bt [d9] j λb1 a8=>
  ab x7 (Instr.build cH #[(0,cb name),(1,Δ k),(2,b1)]) a8 λb2=>
  aD x7 (Instr.box cH b2) a8 λW ba=>
  ab x7 (X7 #[kr] ae #[aG]) ba λb3=>
  ce (Δ 0) ba λaJ X b4=>
   ab x7 (aQ .lss ae sp sp aJ b3) X λt182=>
   Split t182 (ab x7 (j0 kr aG aJ) X λt183=>
   ab x7 (u4 cj t183) X λb5=>
   aD x7 (S5 cj rs (.tuple #[])) X λx b6=>
   aD x7 (o6 cj x b5) b6 λ(_:Unit)b7=>
   eu b7 λP=>
   ab x7 (bR W) P λai=>
   ab x7 (u6 cH ai 3) P λal=>
   ab x7 (u4 dM al) P λaK=>
   ab x7 (u4 cj x) P λb8=>
   ak x7 w7 [W,b8] P λb9 am=>
    (Ext P am\/cC x7 (u4 dM al) aK am/\cC x7 (u6 cH ai 3) al am/\cC x7 (bR W) ai am/\True)/\
   aD x7 (Z3 dM 1 #[(0,b9)]) am λcc an=>
    (Ext P an\/cC x7 (u4 dM al) aK an/\cC x7 (u6 cH ai 3) al an/\cC x7 (bR W) ai an/\True)/\
    aD x7 (j4 #[dM,dM] dM #[aK,cc]) an λcd aL=>
     ab x7 (bR W) aL λcf=>
     ab x7 (u6 cH cf 3) aL λcg=>
     aD x7 (o6 dM cg cd) aL λ(_:Unit)bb=>
     ab x7 (aQ .add ae sp rs aJ (Δ 1)) bb λch=>
   b4 ch bb)
    (ab x7 (X7 #[cS] ae #[p]) X λci=>
  Q (.tuple #[W,ci,(Δ 0)]) X)))) λax=>
 ak x7 mw [(Γ g)] w λck ao=>
 Split ck (ab x7 (bR (Γ g)) ao λcl=>
  ab x7 (u6 cD cl 0) ao λcm=>
  ab x7 (u4 ur cm) ao λcn=>
  ak x7 w6 [cn] ao λaM N=>
  ab x7 (c7 aM 0) N λc3=>
  ab x7 (c7 aM 1) N λbc=>
  ab x7 (c7 aM 2) N λaO=>
  ab x7 (aQ .eql k5 sp rs aO (Δ 0)) N λcp=>
  Split cp (ak x7 pq [(Γ g),(Δ 4),bc] N λc4 cq=>
  ax cq)
  (ab x7 (aQ .eql k5 sp rs aO (Δ 11)) N λcr=>
  Split cr (ak x7 pq [(Γ g),aO,bc] N λc5 cu=>
   ax cu)
   (ax N)))
  (ax ao):=by
 refine dh (λj=>af (λr=>r=g\/r=gs) w j/\∃(e big K L m1:Int)(sv:x1),ag j g cD (jj gs e big K L m1 sv)/\((e≠0/\M=ν)\/(e=0/\∃s,so=σ s/\s.d8=[]/\O=rs/\(s.big=rs↔big≠0)))) ?_ ?_
 rotate_left
 .intro az aP;refine(D7 aI).X ?_;rintro _ J _ ⟨rfl,ap⟩;cases so with
  |none=>
   rw[show(ν:Option aH).isSome=sp from rfl,aW];obtain⟨e,big,K,L,m1,sv,y,aR⟩:=aI.W ap;refine aP _ ⟨ap.aa _,e,big,K,L,m1,sv,y,.inl ⟨aR,?_⟩⟩;cases C:M with
   |none=>rfl
   |some f=>obtain⟨s,h,_⟩:=U.bad (by rw[C];simp);cases h
  |some s=>
   rw[show(σ s:Option aH).isSome=rs from rfl,bZ];have cw:=aI.W ap;obtain⟨ay,cz,cA,big,K,L,m1,sv,y,aR,cB⟩:=id cw;rw[aN cD.p 0 y rfl];refine(sx cz).X ?_;rintro v V _ ⟨Y,Z⟩;have cF:(s.d8≠[]\/O=sp)->M=ν:=λq=>by
    cases C:M with
    |none=>rfl
    |some f=>
     obtain⟨s',h,au,bd,_⟩:=U.bad (by rw[C];simp);cases h;rcases q with q|q
     .exact m7 au q
     .rw[q]at bd;cases bd
   have aA:∀E,af (λr=>r=g) V E->fi E g gs A B->(s.d8≠[]\/O=sp)->az E:=λE aw aA q=>by
    obtain⟨_,e,big,K,L,m1,sv,l,cG,cI,_⟩:=aA;exact aP _ ⟨((ap.aa _).F (Y.X λr _ h=>.inr h)).F (aw.X λr _ h=>.inl h),e,big,K,L,m1,sv,cG,.inl ⟨cI.1,cF q⟩⟩
   have aU:=y.aa Y ay.1;have be:=aq.aa cB Y λr _ h au=>by
    have au:r=gs:=au;subst au;rcases h with h|h
    .exact ay.2.2.1 h
    .exact h.1 (.inr (.inl rfl))
   have bf:s.m2.length<=100000:=by have:=cA.2.2;omega
   cases ac:s.d8 with
   |cons t l=>
    rw[ac]at Z;obtain⟨c6,n,rfl⟩:=Z;rw[gY,gZ,ia,bi,aj];refine⟨λ_=>?_,λh=>m7 rfl h⟩;refine(uO (ay.aa Y) aU be Ω bf).X ?_;rintro _ E _ ⟨aw,aV⟩;exact aA E aw aV (.inl (by rw[ac];simp))
   |nil=>
    rw[ac]at Z;obtain⟨n,rfl⟩:=Z;rw[gY,gZ,ia,bi,aj];refine⟨λh=>by cases O<;>simp at h,λ_=>?_⟩;rw[bi,aj];cases aB:O with
    |true=>
     subst aB;refine⟨λh=>by simp at h,λ_=>aP _ ⟨(ap.aa _).F (Y.X λr _ h=>.inr h),0,big,K,L,m1,sv,aU,.inr ⟨rfl,s,rfl,ac,rfl,aR.1⟩⟩⟩
    |false=>
     subst aB;refine⟨λ_=>?_,λh=>m7 rfl h⟩;refine(uO (ay.aa Y) aU be Ξ bf).X ?_;rintro _ E _ ⟨aw,aV⟩;exact aA E aw aV (.inr rfl)
 .rintro J ⟨aC,e,big,K,L,m1,sv,y,cJ⟩;have c8:=aC.size;have aX:=(bs.W λr C h=>Ω).then aC (λr C h=>by rcases h with h|h<;>omega);rw[bS,aT cD.p rfl,aT fe.p rfl,av Ψ (y.cell rfl),bz,aj];rcases cJ with⟨he,aY⟩|⟨rfl,s,rfl,ac,aB,bg⟩
  .refine⟨λ_=>?_,λh=>m7 he h⟩;intro V z _ _;rw[bS,aT cD.p rfl,aT fe.p rfl,av Ψ ((y.W z).cell rfl),bS,aT cD.p rfl,aT fe.p rfl,av Ψ ((y.W z).cell rfl)];rw[aY]at ad;exact ad _ _ ⟨aX.F z,K,e,rfl,he⟩
  .refine⟨λh=>m7 rfl h,λ_=>?_⟩;rw[bS,aT cD.p rfl,aT fe.p rfl,av Ψ (y.cell rfl),bz,aj];refine⟨λq=>?_,λq=>?_⟩
   .have aY:M=ν:=by
     cases C:M with
     |none=>rfl
     |some f=>
      obtain⟨s',h,_,_,bh⟩:=U.bad (by rw[C];simp);cases h;rw[bg.2 q]at bh;cases bh
    intro V z _ _;rw[bS,aT cD.p rfl,aT fe.p rfl,av Ψ ((y.W z).cell rfl),bS,aT cD.p rfl,aT fe.p rfl,av Ψ ((y.W z).cell rfl)];rw[aY]at ad;exact ad _ _ ⟨aX.F z,L,big,rfl,q⟩
   .have cK:s.big=sp:=by
     cases cL:s.big with
     |false=>rfl
     |true=>exact m7 (bg.1 cL) q
    obtain⟨bk,rfl,rfl,cM,cN,cO⟩:=U.ra s rfl ac aB cK;have cP:=jg bp aC λr C a n c Z U=>by
     have:=bq r ⟨a,n,c,Z,U⟩;exact C.elim this.1 this.2
    refine(vi cP cO).X ?_;rintro aZ V _ ⟨z,gz,c9,a1⟩;have da:=z.size;rw[dq (cs:=#[cb name,Δ k,aZ,.slice ν 0 0]) (by obtain⟨_,_,_,rfl⟩:=cE a1.ls;kernel_rfl)];refine bj λa2 E db a6 aE=>?_;have aE:ag E a2 cH [cb name,Δ k,aZ,.slice ν 0 0]:=by obtain⟨_,_,_,rfl⟩:=cE a1.ls;exact aE
    have bl:=bN (bN (aq.aa br aC λr _ h he=>by have:=a7 r h;exact he.elim this.1 this.2.1) z) a6;have cQ:(bk.map iU).length=bk.length:=Ξ
    rw[jf kr.u bl,cQ];refine OQ aE bl (λr h=>by have:=a7 r h;omega) cM cN λdc cR cT cU cV cW cX=>?_;have dd:=aE.lt;have z3:=a6.size;have bm:=a6.then cU (λr C h=>by have h:r=a2:=h;omega);have bn:=(aX.F z).F bm;rw[aS cS.u (bt.W bn)];exact ad _ _ ⟨bn,a2,_,rfl,aZ,cR,gz,cT,cV,a1.W bm,jY cW,cX⟩
theorem Ex{α:Type}{f:List α->aH->Option (α×aH)}{acc:List α}{s:aH}:fD f (n+1) acc (σ s)=match f acc s with
  |none=>ν
  |some (a,s')=>fD f n (acc++[a]) (σ s'):=by
 show dc f (n+1) acc s=_;simp only[dc];cases f acc s<;>rfl
theorem OT{g:Nat}{A B:ah}{s:Option aH}{E:Bool}{most:Int}{Q:x1->x3->Prop}(h:ds w g gs A B E s)(aA:(N:Int)<=ax)(R:∀d9 I l so gz,af (bI g gs A) w I->ds I g gs A B E so->an .i64 ao I gz d9 l->w.heap.size<=gz->l.length<=100001->(∀q,fD (gH most) N [] s=σ q->so=σ q.2/\l=q.1)->(fD (gH most) N [] s=ν->so=ν)->Q d9 I):
 bT (.slice ν 0 0) (Δ 0) w λco i G k=>
  ct (α:=x1->x3->Prop) (λ(aB:x1)(S:x3)=>
   Split aB (ak x7 pp [Γ g,(Δ 1),Δ most] S λU x=>
  ab x7 (c7 U 0) x λW=>
  ab x7 (c7 U 1) x λaC=>
  ab x7 (aQ .gtr ao sp rs W (Δ 32)) x λaE=>
  ak x7 r3 [Γ g,aE,aC] x λbr aF=>
  aD x7 (Z3 au 1 #[(0,W)]) aF λaG aI=>
  aD x7 (j4 #[au,au] au #[co,aG]) aI λaJ X=>
  ab x7 (aQ .add ao sp rs i (Δ 1)) X λaK=>
  k aJ aK X) (Q co S)) λaz=>
  ab x7 (aQ .lss ao sp sp i (Δ (N:Int))) G λaM=>
  Split aM (ak x7 mw [Γ g] G λaN aO=>
  az aN aO)
   (az (.bool sp) G):=by
 obtain⟨bs,Y,bt,aR,aS⟩:=h.side;have ad:∀r,bI g gs A r->r<w.heap.size:=aR;unfold ax at aA;generalize aT:fD (gH most) N [] s=Z at R;refine⟨λout H J=>∃(i:Nat)(l:Λ)(so:Option aH)(gz:Nat),H=Δ (i:Int)/\i<=N/\af (bI g gs A) w J/\an .i64 ao J gz out l/\w.heap.size<=gz/\ds J g gs A B E so/\Z=fD (gH most) (N-i) l so/\l.length<=100001/\∀st,so=σ st->l.length+st.d8.length<=100000,
  λ_ H _=>N-(b0 H).toNat,⟨0,[],s,w.heap.size,rfl,X8 _,af.refl _ _,an.nil _ _ _ _,o5 _,h,aT.symm,Ξ,λst aU=>?_⟩,?_⟩
 .subst aU;have:=h.words;simpa using this
 rintro out _ J ⟨i,l,so,gz,rfl,bu,K,ac,aX,ae,y,aY,ag⟩;refine aV (λv ai=>Ext J ai/\((v= .bool rs/\i<N/\∃st,so=σ st)\/(v= .bool sp/\(so=ν\/i=N)))) ?_ ?_
 rotate_left
 .intro az L;rw[aP,aj];refine⟨λaZ=>?_,λbw=>L _ _ ⟨Ext.refl _,.inr ⟨rfl,.inr Ω⟩⟩⟩;refine(rh ae).X ?_;rintro _ ai _ ⟨rfl,al⟩;cases so with
  |none=>exact L _ _ ⟨al,.inr ⟨rfl,.inl rfl⟩⟩
  |some st=>exact L _ _ ⟨al,.inl ⟨rfl,Ω,st,rfl⟩⟩
 rintro _ V ⟨p,a1⟩;have am:=ac.W p;have ap:=ae.W p;rcases a1 with⟨rfl,aZ,st,rfl⟩|⟨rfl,a2⟩
 rotate_left
 .rw[aW];have aq:Z=so.map λst=>(l,st):=by
   rcases a2 with rfl|rfl
   .exact y
   .rw[U1]at y;rw[y];cases so<;>rfl
  refine R out V l so gz (K.F (p.aa _)) ap am aX aY (λq f=>?_) λav=>?_
  .rw[aq]at f;cases so with
   |none=>cases f
   |some st=>cases f;exact⟨rfl,rfl⟩
  .rw[aq]at av;cases so with
   |none=>rfl
   |some st=>cases av
 rw[bZ];have ag:=ag st rfl;refine(nS ap).X ?_;rintro _ bx _ ⟨M,z,at_,rfl,a6,bz⟩;obtain⟨O,a7⟩:=M.of;rw[bn,bo,bG];refine(sM a7).X ?_;rintro _ bA _ M;obtain⟨P,a8⟩:=M.of;refine dl au.u ao.i rfl λa ga ba bB C bb=>?_;have bC:=K.size;have bE:=p.size;have z3:=O.size;have z4:=P.size;have z5:=C.size;have aw:∀r,li out r->¬bI g gs A r:=λr j bd=>by have:=ad r bd;have:=(bD ac j).1;omega
 have be:=bl (bl am O aw) P aw;refine iO au.u ao.i rfl (be.W C) bb.ls Θ Θ λbF bf bg bH bi ay=>?_;rw[aL,lm Ω Ω];have bj:af (bI g gs A) w ba:=((((K.F (p.aa _)).F O).F P).F (C.aa _));have bk:af (bI g gs A) w bg:=iP bj ay λr j he=>by have he:r=gz:=he;omega
 have bm:∀r,bI g gs A r->¬(λr=>r=gz) r:=λr j he=>by have:=ad r j;have he:r=gz:=he;omega
 have bp:∀r,cU g gs A B r->¬(λr=>r=gz) r:=λr j he=>by have:=aS r j.2;have he:r=gz:=he;omega
 refine⟨⟨i+1,l++[z],_,bf,rfl,Ω,bk,bi,Ω,(a8.W C).aa ay bm bp,?_,Θ,λbJ bq=>?_⟩,by simp only[b0];omega⟩
 .rw[y,show N-i=(N-(i+1))+1 by omega,Ex];unfold gH;cases f:bh 1 most st with
  |none=>have e:bc 1 most (σ st)=ν:=f;rw[e];rfl
  |some q=>
   have e:bc 1 most (σ st)=σ q:=f;have:=a6 q e;subst this;rw[e];rfl
 .obtain⟨s2,Y,rfl⟩:=Z6.1 bq;obtain⟨q,f,rfl⟩:=Z6.1 Y;have h1:=(dI f).1;simp only[p9,List.length_singleton];show l.length+1+q.2.d8.length<=100000;omega
theorem OU{acc:List (Λ×Int)}{s s':aH}{a:Λ×Int}(h:eR co acc s=σ (a,s')):s'.m1=s.m1/\s'.big=s.big:=by
 obtain⟨_,_,_,e⟩:=q5 h;exact⟨e.eqs.1,e.eqs.2.1⟩
theorem OV{s s':aH}{l:List (Λ×Int)}(hi:dX s)(h:eb co s=σ (l,s')):dX s'/\(s.big=rs->s'.big=rs):=by
 have e:=D4 co (σ s);rw[show j8 co (σ s)=eb co s from rfl,h]at e;cases p:bc (-ax) ax (σ s)with
 |none=>rw[p]at e;cases e
 |some q=>
  obtain⟨n,s1⟩:=q;rw[p]at e;simp only at e;have h1:=(dI p).eqs;have w:dX s1:=λf=>by rw[h1.1];rw[h1.2.1]at f;exact hi f
  split at e
  .cases U:s1.m2[(-n-1).toNat]? with
   |none=>rw[U]at e;cases e
   |some q=>
    obtain⟨z,fB⟩:=q;rw[U]at e;simp only at e;split at e
    .cases e;exact⟨w,λf=>by rw[h1.2.1];exact f⟩
    .cases e
  .have:=mN (λacc t=>t.m1=(lp n s1).m1/\t.big=(lp n s1).big) (λacc t a t' ⟨r,j⟩ g=>by
    have:=OU g;exact⟨by rw[this.1,r],by rw[this.2,j]⟩) n.toNat [] _ l s' ⟨rfl,rfl⟩ e.symm
   obtain⟨⟨r,j⟩,_⟩:=this;refine⟨λf=>by rw[r];rw[j]at f;exact Oa n s1 f,λf=>?_⟩;rw[j];show(s1.big||_)=rs;rw[h1.2.1,f];rfl
theorem OW{all:Λ}{s s':aH}{x:cv}(hi:dX s)(h:du all s=σ (x,s')):dX s'/\s'.d8.length<s.d8.length:=by
 unfold du at h;cases j:bh (-ax) ax s with
 |none=>rw[j]at h;cases h
 |some q=>
 obtain⟨a,s1⟩:=q;rw[j]at h;simp only at h;have t0:=dI j;cases h1:fg all.length a.natAbs s1 with
 |none=>rw[h1]at h;cases h
 |some q=>
 obtain⟨sc,s2⟩:=q;rw[h1]at h;simp only at h;obtain⟨p,_⟩:=xW h1;generalize sc.map (λv=>all.getD v.toNat 0)=co at h;cases r:bh 0 ax (bg (decide (6<a.natAbs)||dH co) s2)with
 |none=>rw[r]at h;cases h
 |some q=>
 obtain⟨other,w⟩:=q;rw[r]at h;simp only at h;have y:=dI r;have C:dX w:=λe=>by
  rw[y.eqs.1];rw[y.eqs.2.1]at e;have e:(s2.big||_)=sp:=e;have A:=(Bool.or_eq_false_iff.1 e).1;show s2.m1<=16384;rw[p.eqs.1,t0.eqs.1];rw[p.eqs.2.1,t0.eqs.2.1]at A;exact hi A
 cases f:eb co w with
 |none=>rw[f]at h;cases h
 |some q=>
 obtain⟨lines,z⟩:=q;rw[f]at h;simp only[X6,Prod.mk.injEq]at h;obtain⟨_,rfl⟩:=h;have E:=OV C f;have H:=Eb f;have I:=t0.1;have J:=p.1;have K:s2.d8.length=w.d8.length+1:=y.1;have B:∀t:aH,t.m1=z.m1/\t.big=z.big/\t.d8=z.d8->dX t/\t.d8.length<s.d8.length:=λt ⟨F,G,a3⟩=>⟨λe=>by rw[F];rw[G]at e;exact E.1 e,by rw[a3];omega⟩;split
 .exact B _ ⟨rfl,rfl,rfl⟩
 .exact B _ ⟨rfl,rfl,rfl⟩
theorem OX{S R:ah}{x:jG}(h:aq.rep sp S R w cs x):aq.rep (α:=jG) rs bO R w cs x/\(x1.agg cs.toArray).cells=cs.toArray:=by
 obtain⟨j,d1,r,s,rfl,_,_,_,h1,p,d2,z,A,rfl,_,_,_,a,q,d3,B,C,rfl,_,_,_,f,e⟩:=h;have h1:=h1;have a:=a;have f:=f;have e:=e;refine⟨⟨j,_,bO,bO,rfl,λ_ h=>h,λ_ h=>h,λ_ _ h _=>h,h1,p,_,bO,bO,rfl,λ_ h=>h,λ_ h=>h,λ_ _ h _=>h,a,q,d3,bO,bO,rfl,λ_ h=>h,λ_ h=>h,λ_ _ h _=>h,f,e⟩,?_⟩;obtain⟨u,rfl⟩:=X3.1 (show j.length=1 from aq.len h1);obtain⟨v,rfl⟩:=X3.1 (show p.length=1 from aq.len a);obtain⟨y,rfl⟩:=X3.1 (show d3.length=1 from aq.len e);obtain⟨_,_,_,rfl⟩:=nT h1;obtain⟨_,_,_,rfl⟩:=nT a;obtain⟨_,_,_,rfl⟩:=nT e;subst f;rfl
theorem OY{g c:Nat}{A B:ah}{o:Option aH}{Q:Bool}{P:x1}{all:Λ}{aB:x1->x3->Prop}(aC:iT w g gs A B Q o)(hi:∀s,o=σ s->dX s)(bm:(c:Int)<=ax)(bn:aF .i64 w P all)(aE:∀r,li P r->r≠g/\r≠gs/\r<w.heap.size/\(o≠ν->¬A r))(bo:o≠ν->∀z∈all,1<=z/\z<=ax)(bp:all.length<=100001)(bq:fj w)(h1:1<w0.heap.size/\(o≠ν->cU g gs A B 1))(aG:af (λr=>w0.heap.size<=r) w0 w)(br:w0.heap.size<=g)(bs:w0.heap.size<=gs)(cd:g<w.heap.size/\gs<w.heap.size)(bt:o≠ν->∀r,A r->w0.heap.size<=r)(aI:∀L I acc so aJ x aK aM,af (λr=>w0.heap.size<=r) w0 I->w.heap.size<=I.heap.size->iT I g gs aJ x Q so->aq.rep (α:=List jG) rs aK aM I [L] acc->(∀r,aK r\/aM r->r≠g/\r≠gs/\r<I.heap.size)->aF .i64 I P all->
   (∀q,fD (λ_ s=>du all s) c [] o=σ q->so=σ q.2/\acc=q.1.map iU)->(fD (λ_ s=>du all s) c [] o=ν->so=ν)->aB L I):
 bT (.slice ν 0 0) (Δ 0) w λd7 aN ag bu=>
  ct (α:=x1->x3->Prop) (λ(bw:x1)(aO:x3)=>
   Split bw (ak x7 Bs [Γ g,P] aO λbx bz=>
  aD x7 (Z3 kr 1 #[(0,bx)]) bz λbA bB=>
  aD x7 (j4 #[kr,kr] kr #[d7,bA]) bB λbC aR=>
  ab x7 (aQ .add ao sp rs aN (Δ 1)) aR λbD=>
  bu bC bD aR) (aB d7 aO)) λaS=>
  ab x7 (aQ .lss ao sp sp aN (Δ (c:Int))) ag λbE=>
  Split bE (ak x7 mw [Γ g] ag λbF bG=>
  aS bF bG)
   (aS (.bool sp) ag):=by
 unfold ax at bm;generalize f:fD (λ_ s=>du all s) c [] o=aT at aI;have aU:∀s,o=σ s->o≠ν:=by grind
 refine⟨λL ai J=>∃(i:Nat)(acc:List jG)(y:List cv)(so:Option aH)(p H C M:ah),ai=Δ (i:Int)/\i<=c/\af (λr=>w0.heap.size<=r) w0 J/\w.heap.size<=J.heap.size/\iT J g gs p H Q so/\aq.rep rs C M J [L] acc/\
   aF .i64 J P all/\fj J/\aT=fD (λ_ s=>du all s) (c-i) y so/\(∀r,C r->w.heap.size<=r/\r<J.heap.size)/\(∀r,M r->r≠g/\r≠gs/\¬C r)/\
   ∀s,so=σ s->acc=y.map iU/\dX s/\y.length+s.d8.length<=100000/\o≠ν/\(∀r,p r->A r\/w.heap.size<=r)/\(∀r,p r->w0.heap.size<=r)/\(∀r,B r->H r)/\(∀r,C r->¬H r/\¬p r)/\(∀r,M r->cU g gs p H r),
  λ_ ai _=>c-(b0 ai).toNat,⟨0,[],[],o,A,B,bO,bO,rfl,X8 _,aG,o5 _,aC,iw,bn,bq,f.symm,λ_ h=>h.elim,λ_ h=>h.elim,λs U=>⟨rfl,hi s U,?_,aU s U,by grind,bt (aU s U),λr e=>e,λ_ h=>h.elim,λ_ h=>h.elim⟩⟩,?_⟩
 .subst U;have al:en w g gs A B s Q:=aC;have:=al.2.1.words.1
  grind
 rintro L _ J ⟨i,acc,y,so,p,H,C,M,rfl,ce,bJ,cf,aX,bK,am,aY,Z,E,cg,bL⟩;refine aV (λv aZ=>Ext J aZ/\((v= .bool rs/\i<c/\∃st,so=σ st)\/(v= .bool sp/\(so=ν\/i=c)))) ?_ ?_
 rotate_left
 .intro az ch;rw[aP,aj];refine⟨λa1=>?_,by grind [Ext.refl]⟩;refine(D7 aX).X ?_;rintro _ aZ _ ⟨rfl,ci⟩;cases so<;>grind
 rintro _ V ⟨G,bM⟩;have ck:=G.size;have S:=aX.W G;have a2:=bN bK G;have a6:af (λr=>w0.heap.size<=r) w0 V:=bJ.F (G.aa _);rcases bM with⟨rfl,a1,st,rfl⟩|⟨rfl,bP⟩
 rotate_left
 .rw[aW];have a7:aT=so.map λst=>(y,st):=by
   rcases bP with rfl|rfl
   .exact Z
   .rw[U1]at Z;rw[Z];cases so<;>rfl
  refine aI L V acc so p H C (λr=>M r/\r<V.heap.size) a6 Ω S (aq.X a2 (λ_ _ h=>h) (by grind)) (λr e=>?_) (am.W G) (λq K=>?_) λbQ=>?_
  .rcases e with e|e
   .have:=E r e;omega
   grind
  .rw[a7]at K;cases so<;>grind
  .rw[a7]at bQ;cases so<;>grind
 rw[bZ];obtain⟨rfl,a8,cl,an,ba,ap,bb,ac,bc⟩:=bL st rfl;have S:=S;obtain⟨cm,cn,cp,cq,cr⟩:=S.1;have bR:=h1.2 an;have bd:cU g gs p H 1:=⟨λf=>by
  rcases f with f|f|f
  .omega
  .omega
  .have:=ap 1 f;omega,bb 1 bR.2⟩
 have be:∀r,li P r->¬bI g gs p r/\r<V.heap.size:=λr e=>by
  obtain⟨cu,cw,bS,cz⟩:=aE r e;refine⟨λf=>?_,Ω⟩;rcases f with f|f|f
  .omega
  .omega
  .rcases ba r f with h|h
   all_goals grind
 refine(Om S a8 (am.W G) be (bo an) bp (aY.W G) bd).X ?_;rintro _ cA _ ⟨aJ,x,cs,bU,rfl,cB,W,X,au,bf,bg,bV,bW⟩;have z3:=W.size;obtain⟨bh,bX⟩:=OX bV;refine la (α:=jG) (R:=cU g gs aJ x) kr.u cj.i Φ bX bh λu av N _ bY=>?_;have z4:=N.size;have b1:∀r,r<V.heap.size->C r\/M r->¬bI g gs p r:=λr e h f=>by
  rcases h with h|h
  .have j:=E r h;rcases f with f|f|f
   .omega
   .omega
   .exact (ac r h).2 f
  .exact (bc r h).1 f
 have b2:∀r,r<V.heap.size->cU g gs p H r->cU g gs aJ x r:=λr e h=>⟨λf=>h.1 (f.imp id (Or.imp id λf=>(X r f).elim id Ω)),bf r h.2⟩;have b3:bH C (cU g gs aJ x) av [L] (y.map iU):=bN (aq.aa (aq.X (R':=λr=>cU g gs aJ x r/\M r) a2 (λ_ _ h=>h) λr e h=>⟨b2 r e (bc r h),h⟩) W λr e h=>b1 r e (by grind) |> λh=>h) N |> λh=>aq.X h (λ_ _ h=>h) λ_ _ h=>h.1;have ad:∀r,C r->¬x r:=λr h ae=>by
  have j:=E r h;rcases(au r ae).1 with O|O
  .exact (ac r h).1 O
  omega
 have cC:(y.map iU).length=y.length:=Ξ
 refine ox kr.u cj.i rfl b3 bY (bN bh N) (λr _ b4 h=>?_) Ω Ω λcD aw b5 Y=>?_
 .rcases h with h|h
  .exact h
  .exact ad r b4 h.2
 have z5:=Y.size;rw[aL,lm Ω Ω];have b6:af (λr=>w0.heap.size<=r) w0 av:=(a6.F (W.X λr _ f=>by
  rcases f with rfl|rfl|f
  .exact br
  .exact bs
  .exact ap r f)).F (N.aa _)
 have z0:=aG.size;have b7:af (λr=>w0.heap.size<=r) w0 aw:=b6.F (Y.X λr _ h=>by have:=(E r h).1;omega);have b8:=(jg (am.W G) W λr e a n c ay aA=>(be r ⟨a,n,c,ay,aA⟩).1 e).W N;have b9:=jg b8 Y λr e a n c ay aA=>by
  have bS:=(aE r ⟨a,n,c,ay,aA⟩).2.2.1;have:=(E r e).1;omega
 have ca:=(((aY.W G).aa W bd.1).W N).aa Y λh=>by have:=(E 1 h).1;omega
 have bi:iT aw g gs aJ x Q ((du all st).map (·.2)):=by
  refine iT.aa (bg.W N) Y (λh=>by have:=E _ h;omega) (λr e cE h=>?_) (λr e h=>ad r h e.2);have j:=E r h;rcases e with rfl|rfl|e
  .omega
  .omega
  .rcases X r e with O|O
   .exact (ac r h).2 O
   .omega
 have cb:=nI b5;refine⟨⟨i+1,(y.map iU)++[bU],y++((du all st).map (·.1)).toList,(du all st).map (·.2),aJ,x,λr=>(C r\/bO r\/av.heap.size<=r)/\r<aw.heap.size,cU g gs aJ x,rfl,Ω,b7,Ω,bi,cb,b9,ca,?_,λr e=>⟨?_,e.2⟩,λr e=>⟨λh=>e.1 (.inl h),λh=>e.1 (.inr (.inl h)),λh=>?_⟩,λs' cc=>?_⟩,by simp only[b0];omega⟩
 .rw[Z,show c-i=(c-(i+1))+1 by omega,Ex];cases K:du all st with
  |none=>rfl
  |some q=>rfl
 .rcases e.1 with h|h|h
  .exact (E r h).1
  .exact h.elim
  .omega
 .rcases h.1 with j|j|j
  .exact ad r j e.2
  .exact j
  .have:=(au r e.2).2;omega
 .obtain⟨q,K,rfl⟩:=Z6.1 cc;have j:=OW a8 K;have O:=bW q K;refine⟨?_,j.1,?_,an,λr e=>?_,λr e=>?_,λr e=>bf r (bb r e),λr e=>⟨λae=>?_,λbj=>?_⟩,λr e=>e⟩
  .rw[K,O];simp
  .rw[K];simp only[Z0,l7,p9,List.length_singleton];omega
  .rcases X r e with h|h
   .exact ba r h
   omega
  .rcases X r e with h|h
   .exact ap r h
   .omega
  .rcases e.1 with j|j|j
   .exact ad r j ae
   .exact j
   .have:=(au r ae).2;omega
  .have cF:=bi;have bk:=bg;rw[K]at bk;have al:=bk;have a1:=al.1.2.2.2.1 r (.inr (.inr bj));rcases e.1 with j|j|j
   .rcases X r bj with bl|bl
    .exact (ac r j).2 bl
    .have:=(E r j).2;omega
   .exact j
   .omega
theorem dX.num{lo hi n:Int}{s s':aH}(e:dX s)(h:bh lo hi s=σ (n,s')):dX s':=λa=>by
 have h1:=(dI h).eqs;rw[h1.1];rw[h1.2.1]at a;exact e a
theorem dX.big{b:Bool}{s:aH}(h:dX s):dX (bg b s):=λa=>by
 have a:(s.big||b)=sp:=a;exact h (by grind)
theorem dX.word{w:Λ}{s s':aH}(h:dX s)(hw:dW s=σ (w,s')):dX s':=λa=>by
 have h1:=(xV hw).2;rw[h1]at a ⊢;exact h a
theorem OZ{most:Int}{s s':aH}(hi:dX s)(hm:most<=ax)(h:dc (gH most) N [] s=σ (l,s')):dX s'/\(∀z∈l,1<=z/\z<=ax)/\l.length+s'.d8.length<=s.d8.length:=by
 have:=mN (λacc t=>dX t/\(∀z∈acc,1<=z/\z<=ax)/\acc.length+t.d8.length<=s.d8.length) (λacc t a t' ⟨h1,j,p⟩ g=>by
  unfold gH at g;cases e:bh 1 most t with
  |none=>grind
  |some q=>
   obtain⟨z,f⟩:=q;rw[e]at g;simp only[X6,Prod.mk.injEq]at g;obtain⟨rfl,rfl⟩:=g;have r:=(jh e).1;have w:=(dI e).1;refine⟨(h1.num e).big,λx y=>?_,?_⟩
   .grind
   .simp only[p9,List.length_singleton];show acc.length+1+f.d8.length<=_;omega) N [] s l s' (by grind) h
 grind
theorem O0{s0:aH}{name:Λ}{n most cnt:Int}{so6:Option aH}(h1:∀q,dW s0=σ q->name=q.1)(p:∀q,bc 1 ax (((dW s0).map (·.2)).map (bg (decide (64<(name.length:Int)))))=σ q->n=q.1)(j:∀q,bc 1 ax (((bc 1 ax (((dW s0).map (·.2)).map (bg (decide (64<(name.length:Int)))))).map (·.2)).map (bg (decide (64<n))))=σ q->most=q.1)(h:∀q,bc 0 ax ((bc 1 ax (((bc 1 ax (((dW s0).map (·.2)).map (bg (decide (64<(name.length:Int)))))).map (·.2)).map (bg (decide (64<n))))).map (·.2))=σ q->cnt=q.1)(f:∀q,bc 1 ax (((bc 0 ax ((bc 1 ax (((bc 1 ax (((dW s0).map (·.2)).map (bg (decide (64<(name.length:Int)))))).map (·.2)).map (bg (decide (64<n))))).map (·.2))).map (·.2)).map (bg (decide (256<cnt))))=σ q->k=q.1)(e:∀q,fD (gH most) n.toNat [] (((bc 1 ax (((bc 0 ax ((bc 1 ax (((bc 1 ax (((dW s0).map (·.2)).map (bg (decide (64<(name.length:Int)))))).map (·.2)).map (bg (decide (64<n))))).map (·.2))).map (·.2)).map (bg (decide (256<cnt))))).map (·.2)).map (bg (decide (2147483648<k))))=σ q->so6=σ q.2/\co=q.1)(a:fD (gH most) n.toNat [] (((bc 1 ax (((bc 0 ax ((bc 1 ax (((bc 1 ax (((dW s0).map (·.2)).map (bg (decide (64<(name.length:Int)))))).map (·.2)).map (bg (decide (64<n))))).map (·.2))).map (·.2)).map (bg (decide (256<cnt))))).map (·.2)).map (bg (decide (2147483648<k))))=ν->so6=ν):
  jB s0=(fD (λ_ s=>du co s) cnt.toNat [] so6).map λq=>((⟨name,k,co,q.1⟩:ca),q.2):=by
 unfold jB;cases z:dW s0 with
 |none=>
  rw[z]at a;rw[a rfl];rfl
 |some I=>
 obtain⟨X,s1⟩:=I;rw[z]at h1 p j h f e a;have:=h1 _ rfl;subst this;have J:decide (64<(name.length:Int))=decide (64<name.length):=by grind
 rw[J]at p j h f e a;simp only[Z0]at p j h f e a ⊢;generalize bg (decide (64<name.length)) s1=w at*;cases A:bh 1 ax w with
 |none=>
  rw[show bc 1 ax (σ w)=ν from A]at a;rw[a rfl];rfl
 |some K=>
 obtain⟨L,s2⟩:=K;rw[show bc 1 ax (σ w)=σ (L,s2)from A]at p j h f e a;have:=p _ rfl;subst this;simp only[Z0]at j h f e a ⊢;generalize bg (decide (64<n)) s2=x at*;cases B:bh 1 ax x with
 |none=>
  rw[show bc 1 ax (σ x)=ν from B]at a;rw[a rfl];rfl
 |some M=>
 obtain⟨N,r⟩:=M;rw[show bc 1 ax (σ x)=σ (N,r)from B]at j h f e a;have:=j _ rfl;subst this;simp only[Z0]at h f e a ⊢;cases C:bh 0 ax r with
 |none=>
  rw[show bc 0 ax (σ r)=ν from C]at a;rw[a rfl];rfl
 |some O=>
 obtain⟨P,E⟩:=O;rw[show bc 0 ax (σ r)=σ (P,E)from C]at h f e a;have:=h _ rfl;subst this;simp only[Z0]at f e a ⊢;generalize bg (decide (256<cnt)) E=y at*;cases F:bh 1 ax y with
 |none=>
  rw[show bc 1 ax (σ y)=ν from F]at a;rw[a rfl];rfl
 |some Q=>
 obtain⟨R,G⟩:=Q;rw[show bc 1 ax (σ y)=σ (R,G)from F]at f e a;have:=f _ rfl;subst this;simp only[Z0]at e a ⊢;generalize bg (decide (2147483648<k)) G=S at*;cases H:dc (gH most) n.toNat [] S with
 |none=>
  rw[a H];rfl
 |some T=>
 obtain⟨Y,V⟩:=T;obtain⟨U,W⟩:=e _ H;subst W;rw[U];simp only;show _=W3 _ (dc (λ_ s=>du co s) cnt.toNat [] V)
 grind
theorem O1{f:ca}(a:fb N f)(p:N<=60000):∀x∈f.d7,vj f.k x:=λx h=>by
 obtain⟨h1,q,r⟩:=a.d7 x h;refine⟨a.k,⟨?_,λz e=>?_⟩,h1.other,h1.lines,by have:=h1.len;omega,Ω⟩
 .grind [sy.co]
 .rw[h1.co]at e;obtain⟨v,j,rfl⟩:=o8.1 e;have:=h1.scope.2 v j;refine a.co.2.2 _ ?_
  grind
theorem O2{p:x1}{B:Λ}(P:aF .u8 w p B)(aE:Bytes B)(bE:B.length<=60000)(ab:fj w):ak x7 Il [p] w (Ew w (ie B)):=by
 have aG:1<w.heap.size:=by
  have:=ab 0 (.int .u64 1) rfl
  grind [xp]
 have bF:ax=4611686018427387904:=rfl;refine ay func11 ?_;rw[aS cS.u P,bG,aj];refine⟨Ω,λ_=>?_⟩;refine(CK P aE Ω).X ?_;rintro _ J _ ⟨ac,gs,rfl,bH,aI,Q⟩;rw[dq (cs:=#[Γ gs,Δ 0,Δ 0,Δ 0,Δ 0,Δ 0,.slice ν 0 0]) Ψ];refine bj λg V bJ R ad=>?_;have bK:=ac.size;have bL:=R.size;have bM:=ad.lt;have bN:gs<J.heap.size:=Q.2.2.2.1.lt;have bP:=si _ B (o5 _);let s0:aH:=⟨(lex B).1,0,sp,[]⟩;let B0:ah:=λr=>r<J.heap.size;have aK:en V g gs bO B0 s0 (lex B).2:=by
  refine⟨⟨Ω,λh=>h,λh=>h,λr A=>?_,Ω⟩,⟨aI,B,0,Q.W R,λr A=>?_,by grind⟩,by grind,0,0,0,0,.slice ν 0 0,ad,by grind,iw (α:=lS)⟩
  .rcases A with rfl|rfl|A
   all_goals grind
  .obtain⟨_,_,_,L,bx,hm⟩:=Q;have G:=bD hm A;have K:=ch hm L Φ A;exact⟨λH=>by
    rcases H with H|H|H
    all_goals omega,Ω⟩
 have aL:∀r,bI g gs bO r->w.heap.size<=r:=λr A=>by
  rcases A with rfl|rfl|A
  all_goals grind
 refine(Do aK).X ?_;rintro _ bQ _ ⟨j,name,bR,rfl,bS,bT,aM⟩;obtain⟨aN,aO⟩:=gk.of j;rw[bn,bo,pF da.u,bG];refine(sM aO).X ?_;rintro _ bU _ j;obtain⟨aP,aQ⟩:=j.of;refine(nS (lo:=1) (hi:=ax) aQ).X ?_;rintro _ bV _ ⟨j,n,bW,rfl,ae,aR⟩;obtain⟨aT,aU⟩:=j.of;rw[bn,bo,bG];refine(sM aU).X ?_;rintro _ bX _ j;obtain⟨aV,aW⟩:=j.of;refine(nS (lo:=1) (hi:=ax) aW).X ?_;rintro _ bY _ ⟨j,most,bZ,rfl,ag,aX⟩;obtain⟨aY,aZ⟩:=j.of;rw[bn,bo];refine(nS (lo:=0) (hi:=ax) aZ).X ?_;rintro _ b0 _ ⟨j,cnt,b1,rfl,ai,a1⟩;obtain⟨a2,a6⟩:=j.of;rw[bn,bo,bG];refine(sM a6).X ?_;rintro _ b2 _ j;obtain⟨a7,a8⟩:=j.of;refine(nS (lo:=1) (hi:=ax) a8).X ?_;rintro _ b3 _ ⟨j,k,b4,rfl,hk,b5⟩;obtain⟨ba,bb⟩:=j.of;rw[bn,bo,bG];refine(sM bb).X ?_;rintro _ al _ j;obtain⟨bd,am⟩:=j.of;have an:af (bI g gs bO) V al:=(((((((aN.F aP).F aT).F aV).F aY).F a2).F a7).F ba).F bd;have S:∀{lo:Int}{o:Option aH}{x:Int},0<=lo->lo<=1->(∀q,bc lo ax o=σ q->x=q.1)->(bc lo ax o=ν->x=0)->0<=x/\x<=ax:=λ{lo o x}b6 h1 U b7=>by
  cases y:bc lo ax o with
  |none=>grind
  |some q=>
   have G:=oK (n:=q.1) (s':=q.2) y
   grind
 have b8:=S Ω Ω ae aR;have b9:=S Ω Ω ai a1;have cb:=S Ω Ω ag aX;obtain⟨N,be⟩:∃N:Nat,n=(N:Int):=⟨n.toNat,Ω⟩;obtain⟨C,bf⟩:∃C:Nat,cnt=(C:Int):=⟨cnt.toNat,Ω⟩;have bh:n.toNat=N:=Ω
 have bi:cnt.toNat=C:=Ω
 have bk:dX s0:=λ_=>by show(0:Int)<=16384;omega
 have M:∀{o:Option aH}{b:Bool},(∀s,o=σ s->dX s)->∀s,o.map (bg b)=σ s->dX s:=λh s U=>by
  obtain⟨t,W,rfl⟩:=Z6.1 U;exact(h t W).big
 have O:∀{o:Option aH}{lo hi:Int},(∀s,o=σ s->dX s)->∀s,(bc lo hi o).map (·.2)=σ s->dX s:=λ{o lo hi}h s U=>by
  obtain⟨q,y,rfl⟩:=Z6.1 U;cases o with
  |none=>cases y
  |some t=>exact(h t rfl).num (n:=q.1) (s':=q.2) y
 have bl:∀s,(dW s0).map (·.2)=σ s->dX s:=λs U=>by
  obtain⟨q,y,rfl⟩:=Z6.1 U;exact bk.word (w:=q.1) (s':=q.2) y
 have ao:=M (b:=decide (2147483648<k)) (O (lo:=1) (hi:=ax) (M (b:=decide (256<cnt)) (O (lo:=0) (hi:=ax) (O (lo:=1) (hi:=ax) (M (b:=decide (64<n)) (O (lo:=1) (hi:=ax) (M (b:=decide (64<(name.length:Int))) bl)))))));have a:=λ(co:Λ)(so6:Option aH)=>O0 (s0:=s0) (name:=name) (co:=co) (n:=n) (most:=most) (cnt:=cnt) (k:=k) (so6:=so6) aM ae ag ai hk;rw[bh]at a;generalize cc:W3 (bg (decide (2147483648<k))) (W3 (λx=>x.2) (bc 1 ax (W3 (bg (decide (256<cnt))) (W3 (λx=>x.2) (bc 0 ax (W3 (λx=>x.2) (bc 1 ax (W3 (bg (decide (64<n))) (W3 (λx=>x.2) (bc 1 ax (W3 (bg (decide (64<(name.length:Int)))) (W3 (λx=>x.2) (dW s0)))))))))))))=ap at ao am a;rw[be];refine OT am Ω λd9 X co so6 gz bm aq au cd bp av bq=>?_;have a:=a co so6 av bq;rw[bi]at a;have Y:af (bI g gs bO) V X:=an.F bm;have z12:=Y.size;have aw:=ac.F R;have br:af (λr=>w.heap.size<=r) w X:=(aw.aa _).F (Y.X (by grind));have ce:=aq.side;have cf:∀Z,so6=σ Z->dX Z/\(∀z∈co,1<=z/\z<=ax)/\co.length<=100000:=λZ bs=>by
  cases y:fD (gH most) N [] ap with
  |none=>grind
  |some q=>
   obtain⟨G,K⟩:=av q y;cases bs.symm.F G;subst K;cases ap with
   |none=>cases y
   |some bt=>
    obtain⟨cg,ci,cj⟩:=OZ (ao bt rfl) Ω y
    grind [ds.words]
 rw[bf];have bu:∀r,li d9 r->al.heap.size<=r/\r<X.heap.size:=λr A=>by have:=bD au A;omega
 have ck:=an.size;refine OY aq.q (by grind) Ω au.ls (λr A=>?_) (λaz=>?_) bp ((ab.W aw).aa Y (by grind)) ⟨aG,λ_=>⟨λH=>by have:=aL 1 H;omega,by show 1<J.heap.size;omega⟩⟩
  br Ω Ω Ω (by grind) λcl cm acc so aJ cn cp cq aA cr bw bz bA bB aB ct=>?_
 .grind
 .cases cu:so6<;>grind
 have cw:=aA.size;have E:ie B=match jB s0 with
   |none=>ν
   |some (f,s)=>if s.d8=[]/\(lex B).2=rs/\s.big=sp then σ f else ν:=by
  unfold ie;rw[m6 Ω];have e:jB ⟨(lex B).1,0,sp,[]⟩=jB s0:=rfl;rw[e];cases jB s0<;>rfl
 refine OS bw ⟨λs U W bC L=>?_,λaz=>?_⟩ bB (λr A=>by have:=bu r A;omega) bz bA (by grind) Ω Ω aA Ω Ω P λv I h=>h
 .cases y:fD (λ_ s=>du co s) C [] so6 with
  |none=>grind
  |some q=>
   obtain⟨G,K⟩:=aB q y;cases U.symm.F G;rw[y]at a;have a:jB s0=σ ((⟨name,k,co,q.1⟩:ca),q.2):=a;have aC:=(Dl rfl a L).1;rw[a]at E;simp only at E;rw[m5 ⟨W,bC,L⟩]at E;exact⟨q.1,K,E,O1 aC (by grind),aC.mO,Ω⟩
 .cases y:fD (λ_ s=>du co s) C [] so6 with
  |none=>
   rw[y]at a;have a:=a;rw[a]at E;exact m7 E az
  |some q=>
   obtain⟨G,K⟩:=aB q y;rw[y]at a;have a:jB s0=σ ((⟨name,k,co,q.1⟩:ca),q.2):=a;rw[a]at E;simp only at E;by_cases aD:q.2.d8=[]/\(lex B).2=rs/\q.2.big=sp
   .exact⟨q.2,G,aD⟩
   .rw[m6 aD]at E
    grind
def nW(b n:Nat):Λ:=(fh b n).map λ(x:Nat)=>(x:Int)
theorem vl(s t cs:Λ):∃e,sh s t cs= .tuple #[Δ (bd s cs t),Δ e]:=by
 unfold sh bd;cases cc s t 0 with
 |none=>exact⟨3,rfl⟩
 |some n=>exact⟨0,rfl⟩
theorem cd.aa{S:ah}{g:Nat}{cs:Λ}(h:cd w g a sv szs k cs)(e:af S w I)(h1:¬S g)(f:a<w.heap.size->¬S a)(j:∀r,li sv r->¬S r):cd I g a sv szs k cs:=by
 obtain⟨⟨aY,gs,p,hm,q⟩,s⟩:=h;exact⟨⟨aY,gs,p.aa e h1,bl hm e j,q.aa e f⟩,s⟩
theorem O3{α β:Type}(f:β->α->β)(z:β){l:List α}{x:α}(h:l[j]?=σ x):(l.take (j+1)).foldl f z=f ((l.take j).foldl f z) x:=by
 rw[u5,h,List.foldl_append];rfl
def O4(w:x3)(szs:Λ)(k:Int)(cs:Λ)(pos:Int)(b n:Nat)(v:x1)(I:x3):Prop:=
 Ext w I/\
  (¬(0<=pos/\pos<szs.length/\(n:Int)=fc szs pos)->v= .tuple #[.pointer ν,.slice ν 0 0,Δ 1])/\
  (∀i:Nat,pos=i->i<szs.length->(n:Int)=fc szs i->∃a e f h bv,v= .tuple #[Γ a,bv,Δ 0]/\
   cd I a e f (gg szs i) k ((nO szs cs k i (nW b n)).map (·.2))/\an .i64 ae I h bv ((nO szs cs k i (nW b n)).map (·.1))/\
   w.heap.size<=a/\w.heap.size<=e/\w.heap.size<=h/\∀r,li f r->w.heap.size<=r)
theorem O5{g bb:Nat}{pos:Int}{cs:Λ}{b:Nat}(h:cd w g bb sv szs k cs)(hk:right k)(ec:mJ b n)(bc:Laid w):
  ak x7 I5 [Γ g,Δ pos,j3 b n] w (O4 w szs k cs pos b n):=by
 have ax:=h;have be:=h.2.2.1;refine je func92 ?_;refine bj λg1 J fZ cW ay=>?_;refine bj λed V gc b8 aJ=>?_;refine bj λee aA gf bH b9=>?_;have s1:=cW.size;have s2:=b8.size;have gh:=bH.size;have gi:=ay.lt;have gj:=aJ.lt;have gk:=b9.lt;have ay:=(ay.W b8).W bH;have aJ:=aJ.W bH;have aK:=(cW.F b8).F bH;rw[av Ψ (ay.Qz rfl),cV dp.u];simp only[l9,aW];have sub:∀{w:x3}{g:Nat}{sv:x1}{k:Int}{aY:x1},ag w g cp [sv,Δ k,aY]->w.rangeAt g (0+0) [sv]:=λQ=>oz Q (by
  intro j v P
  match j,P with
  |0,P=>exact P)
 refine aV (λv cY=>v= .bool (decide (¬(0<=pos/\pos<szs.length/\(n:Int)=fc szs pos)))/\Ext aA cY) ?_ ?_
 .rintro _ cY ⟨rfl,cZ⟩;simp only[aj];refine⟨λca gl ef _=>⟨(aK.F cZ).F ef,λ_=>rfl,λi hi h1 X=>m7 ⟨Ω,Ω,by rw[hi];exact X⟩ ca⟩,λeg=>?_⟩;obtain⟨eh,ei,ej⟩:=Z2.1 eg;obtain⟨i,rfl⟩:∃i:Nat,pos=i:=⟨pos.toNat,Ω⟩;have hi:i<szs.length:=Ω
  have bf:bU (gg szs i):=be.erase i;have ek:aB (gg szs i)<=4096:=by
   have:=MC be hi;have:=h.2.1.2.2;unfold gg;omega
  have gm:=prod_bound bf;obtain⟨N,gn⟩:∃N:Nat,aB (gg szs i)=N:=⟨(aB (gg szs i)).toNat,Ω⟩;have bI:(aB (gg szs i)).toNat=N:=Ω
  have gp:=be.1;refine aV (λu bJ=>Ext aA bJ/\∃E G B C,u=Γ E/\ag bJ E dp [Γ G]/\cd bJ G B C (gg szs i) k (u9 N k)/\
   aA.heap.size<=E/\aA.heap.size<=G/\aA.heap.size<=B/\(∀r,li C r->aA.heap.size<=r)/\E≠B) ?_ ?_
  .rintro _ bJ ⟨cb,E,G,B,C,rfl,U,Y,gq,gu,gv,em,en⟩;refine dl ai.u ae.i rfl λgw gx cc gA aC eo=>?_;have ep:=Y.W aC;obtain⟨⟨bK,c0,bL,ce,cf⟩,⟨c1,c2,_⟩,_,gB⟩:=id ep;have gC:0<N:=Ω
   have gD:=cb.size;have gE:=aC.size;have gF:=U.lt;have gH:=bL.lt;have gI:B<cc.heap.size:=iy cf Θ;rw[av Ψ ((U.W aC).Qz rfl),aN cp.p 2 bL rfl,aS au.u cf.ls];have er:((u9 N k).length:Int)=N:=Ξ
   rw[er];refine(M4 eo.ls Ω).X ?_;rintro bv es _ ⟨c3,aE,gJ,bM⟩;have gK:aE<es.heap.size:=iy bM Θ;refine bu ai.i λet gL gM cg ev=>?_;refine bw ai.i bM.ls.cells.1 bM.ls.cells.2 ev (by simp[T5]) λc4 c5 gN c6=>?_;have gO:=c3.size;have gP:=cg.size;have bN:Ext cc c4:=(c3.F cg).then c5 (by rintro r A rfl;omega);have ew:an .i64 ae c4 aE bv (u9 N (-1)):=(bM.W cg).aa c5 Ω;rw[av Ψ ((U.W (aC.F bN)).Qz rfl),bS,aT cp.p rfl,bC (cs:=[C]) bq.p bq.i rfl (sub (bL.W bN))];refine pO.X ?_;rintro _ aF _ ⟨bO,gs,rfl,gQ,c8⟩;have gR:=bN.size;have gS:=bO.size;have aG:=bN.F bO;have gT:=c6.lt;let S:Nat->Prop:=λr=>r=aE\/r=B;let aM:x3->Prop:=λI=>ag I g1 dp [Γ g]/\ag I ed ae [Δ (i:Int)]/\ag I ee b3 [.int .u64 (b:Int),Δ (n:Int)]/\
    ag I E dp [Γ G]/\ag I G cp [C,Δ k,bK]/\ag I et ai [bv]/\cd I g bb sv szs k cs/\an .i64 ae I c0 C (gg szs i)/\Laid I/\ag I gs bq [C]/\aF.heap.size<=I.heap.size
   have ey:∀r,li C r->r<cc.heap.size:=λr A=>by have:=bD ce A;omega
   have ch:aM aF:=by
    have bg:=(cb.F aC).F aG;exact⟨ay.W bg,aJ.W bg,b9.W bg,U.W (aC.F aG),bL.W aG,c6.W bO,ax.W (aK.F bg),ce.W aG,bc.W (aK.F bg),c8,o5 _⟩
   have gU:g<w.heap.size:=by obtain⟨⟨_,_,W,_,_⟩,_⟩:=ax;exact W.lt
   have gV:bb<aA.heap.size->bb<w.heap.size:=λ_=>by
    obtain⟨⟨_,_,_,_,W⟩,_,_,ez⟩:=ax;have:=prod_bound be;exact iy W Ω
   have eA:∀r,li sv r->r<w.heap.size:=λr A=>by
    obtain⟨⟨_,_,_,W,_⟩,_⟩:=ax;have:=bD W A;omega
   have gX:bb<w.heap.size:=by
    obtain⟨⟨_,_,_,_,W⟩,_,_,ez⟩:=ax;have:=prod_bound be;exact iy W Ω
   have bh:∀{a b:x3},af S a b->aM a->aM b:=by
    rintro a b y ⟨f1,f2,f3,f4,f5,f6,f7,f8,f9,f10,f11⟩;have O:∀{r:Nat},r≠aE->r≠B->¬S r:=λh1 X h=>h.elim h1 X;refine⟨f1.aa y (O Ω Ω),f2.aa y (O Ω Ω),f3.aa y (O Ω Ω),f4.aa y (O Ω en),f5.aa y (O Ω c1),f6.aa y (O Ω Ω),
     f7.aa y (O Ω Ω) (λ_=>O Ω Ω) (λr A=>by have:=eA r A;exact O Ω Ω),bl f8 y (λr A=>by have:=ey r A;exact O Ω (λhe=>c2 (he▸A))),
     gW y (O Ω Ω) f9,f10.aa y (O Ω Ω),Y1 f11 y.size⟩
   have ci:∀{a b:x3},Ext a b->aM a->aM b:=λy=>bh (y.aa S);let L:=nO szs cs k i (nW b n);have da:L.length=N:=by simp[L,nO,bI]
   let Z:Λ:=L.map (·.1);let ac:Λ:=L.map (·.2);have cj:Z.length=N:=by simp[Z,da]
   have bP:ac.length=N:=by simp[ac,da]
   have db:=pN (g:=gs) (B0:=aF.heap.size) (sv:=C) bf;rw[bI]at db;refine mp.old ⟨Nat,sp,kp,#[Γ gs],0,_,_,_,λq I=>af S aF I/\an .i64 ae I aE bv (upto Z (-1) q)/\an .i64 ao I B bK (upto ac k q),λ_ _ _=>False,rfl,db.s,
    ?_,λ_ _ y h=>⟨h.1.W y,h.2.1.W y,Y1 h.2.2 y.size⟩,λ_ _ _ y h=>⟨h.1.F (y.aa S),h.2.1.W y,h.2.2.W y⟩,λ_ _ _ _ _ h=>h,⟨c8,(ce.W aG).ls,o5 _⟩,⟨af.refl _ _,?_,?_⟩,?_,?_,λ_ _ h=>h.elim,λ_ _ _ h=>h.elim⟩
   .rintro _ _ _ _ ⟨_,_,_,_,rfl,_⟩;rfl
   .rw[mK,cj];exact ew.W bO
   .rw[mK,bP];exact cf.W aG
   .rintro _ aO q _ dc ⟨_,_,gY⟩ ⟨W,rfl,gZ,gt,eB,eC,ck⟩ ⟨cl,eD,eE⟩;cases eB;have eF:∀r,S r->r<aF.heap.size:=λr h=>by rcases h with rfl|rfl<;>omega
    refine bu ae.i λdd g0 g2 de eH=>?_;refine bw ae.i rfl rfl eH (by simp[T5]) λeI df _ dg=>?_;refine bu ai.i λam g3 g4 cm eJ=>?_;refine bw ai.i ck.ls.cells.1 ck.ls.cells.2 eJ (by simp[T5]) λg5 dh _ eK=>?_;intro cn cq _ _;have g6:=de.size;have g7:=df.size;have g8:=cm.size;have eL:Ext dc eI:=de.then df (by rintro r A rfl;omega);have cr:Ext dc cn:=((eL.F cm).then dh (by rintro r A rfl;omega)).F cq;have g9:=dg.lt;have eM:ag cn dd ae [Δ (q:Int)]:=((dg.W cm).aa dh Ω).W cq;have di:ag cn am ai [aO]:=eK.W cq;have ha:=di.lt;obtain⟨f1,f2,f3,f4,f5,f6,f7,f8,f9,f10,f11⟩:=ci cr (bh cl ch);rw[bC b3.p b3.i rfl f3.range];refine(pJ (b:=b) (n:=n)).X ?_;rintro _ dj _ ⟨bQ,aU,rfl,hb,dk⟩;have bi:=cr.F bQ;let x:=b1 (gg szs i) (q:Int);let f:Int->Int:=λv=>bd szs cs (q1 x i v);let st:Nat->Int×Int:=λj=>((nW b n).take j).foldl (oE f) (-1,k);let bk:x3->Prop:=λI=>aM I/\ag I dd ae [Δ (q:Int)]/\ag I am ai [aO]/\an .i64 ae I gt aO x/\ag I aU b3 [.int .u64 (b:Int),Δ (n:Int)];have hc:=cr.size;have dm:bk dj:=⟨ci bi (bh cl ch),eM.W bQ,di.W bQ,ck.W bi,dk⟩;have bm:∀{a b:x3},af S a b->bk a->bk b:=by
     rintro a b y ⟨h1,X,ct,bp,aQ⟩;have O:∀{r:Nat},aF.heap.size<=r->¬S r:=λh1 X=>by have:=eF _ X;omega
     exact⟨bh y h1,X.aa y (O Ω),ct.aa y (O Ω),bp.aa y (λ_=>O eC),aQ.aa y (O Ω)⟩
    have br:∀{a b:x3},Ext a b->bk a->bk b:=λy=>bm (y.aa S);have eN:(nW b n).length=(fh b n).length:=by simp[nW]
    have dn:L[q]?=σ (st (fh b n).length):=by
     simp only[L,nO,st];rw[x8,List.getElem?_range (by rw[bI];exact W),<-eN,p8];rfl
    have eO:=pI (g:=aU) ec;refine mo.old ⟨_,sp,k4,#[Γ aU],_,_,_,_,λj I=>af S dj I/\an .i64 ae I aE bv ((upto Z (-1) q).set q (st j).1)/\an .i64 ao I B bK ((upto ac k q).set q (st j).2),λ_ _ _=>False,rfl,eO.s,
     ?_,λ_ _ y h=>⟨h.1.W y,h.2.W y⟩,λ_ _ _ y h=>⟨h.1.F (y.aa S),h.2.1.W y,h.2.2.W y⟩,λ_ _ _ _ _ h=>h,⟨dk,f9.W bQ⟩,⟨af.refl _ _,?_,?_⟩,?_,?_,λ_ _ h=>h.elim,λ_ _ _ h=>h.elim⟩
    .rintro _ _ _ _ ⟨_,_,_,_,rfl⟩;rfl
    .rw[show(st 0).1= -1 from rfl,pK (C1 Ω)];exact eD.W bi
    .rw[show(st 0).2=k from rfl,pK (C1 Ω)];exact eE.W bi
    .rintro _ j _ hd ⟨_,_⟩ ⟨hf,rfl,v,P,eP⟩ ⟨cu,bR,cw⟩;cases eP;intro eQ cz _ _;have eR:(nW b n)[j]?=σ (v:Int):=by simp[nW,P]
     have dq:st (j+1)=oE f (st j) v:=O3 _ _ eR;have bs:=bm cu dm;have hg:((upto Z (-1) q).set q (st j).1).length=N:=by rw[U7,lg,cj]
     have hh:((upto ac k q).set q (st j).2).length=N:=by rw[U7,lg,bP]
     have cA:((upto Z (-1) q).set q (st j).1)[q]?=σ (st j).1:=by rw[Z5 (by rw[lg];omega)]
     have cB:((upto ac k q).set q (st j).2)[q]?=σ (st j).2:=by rw[Z5 (by rw[lg];omega)]
     refine aV (λc cD=>Ext eQ cD/\c=Δ (f v)) ?_ ?_
     .rintro _ cD ⟨dr,rfl⟩;refine aV (λt ds=>Ext cD ds/\t= .bool (decide ((st j).1<0\/f v<(st j).2))) ?_ ?_
      .rintro _ ds ⟨eS,rfl⟩;have bt:=(cz.F dr).F eS;simp only[aj,eu];refine⟨λeU eV eW _ _=>?_,λeX=>?_⟩
       .have aR:=bt.F eW;obtain⟨⟨f1,f2,f3,f4,f5,f6,f7,f8,f9,f10,f11⟩,aX,cE,bT,dt⟩:=br aR bs;rw[av Ψ (f6.Qz rfl),av Ψ (aX.Qz rfl),av Ψ (f4.Qz rfl),aN cp.p 2 f5 rfl,
         av Ψ (aX.Qz rfl),gb rfl ai.u ae.i (bR.W aR) Ω]
        refine gd ae.i (bR.W aR) Ω λdu dv hj dw=>?_;have dx:af S eV du:=dv.X λr _ h=>.inl h;have dy:=(cw.W aR).aa dv Ω;have dz:=bm dx (br aR bs);refine⟨.inr ⟨mH Ψ (dz.2.1.Qz rfl),trivial⟩,?_⟩;rw[gb rfl au.u ao.i dy Ω];refine gd ao.i dy Ω λeY dA hl dC=>?_;have dD:af S du eY:=dA.X λr _ h=>.inr h;have dE:=bm dD dz;have e:st (j+1)=((v:Int),f v):=by rw[dq];unfold oE;rw[m5 eU]
        refine⟨⟨dE.2.2.2.2,dE.1.2.2.2.2.2.2.2.2.1⟩,⟨((cu.F (aR.aa S)).F dx).F dD,?_,?_⟩,λh=>by cases h⟩
        .rw[e];rw[List.set_set]at dw;exact dw.aa dA Ω
        .rw[e];rw[List.set_set]at dC;exact dC
       .have e:st (j+1)=st j:=by rw[dq];unfold oE;rw[m6 eX]
        have dF:=br bt bs;refine⟨⟨dF.2.2.2.2,dF.1.2.2.2.2.2.2.2.2.1⟩,⟨cu.F (bt.aa S),?_,?_⟩,λh=>by cases h⟩
        .rw[e];exact bR.W bt
        .rw[e];exact cw.W bt
      .intro hn dG ho cF _ _;have cG:=(cz.F dr).F cF;obtain⟨⟨f1,f2,f3,f4,f5,f6,f7,f8,f9,f10,f11⟩,aX,cE,bT,dt⟩:=br cG bs;rw[av Ψ (f6.Qz rfl),av Ψ (aX.Qz rfl),ba ai.u ae.i Ψ (bR.W cG).ls cA];simp only[aP,aj];refine⟨λh=>dG _ _ ⟨cF,by simp[h]⟩,λh=>?_⟩;rw[av Ψ (f4.Qz rfl),aN cp.p 2 f5 rfl,av Ψ (aX.Qz rfl),
        ba au.u ao.i Ψ (cw.W cG).ls cB]
       simp only[aP];exact dG _ _ ⟨cF,by simp[h]⟩
     .intro eZ e0 bV dH _ _;have e1:=cz.F dH;obtain⟨⟨f1,f2,f3,f4,f5,f6,f7,f8,f9,f10,f11⟩,aX,cE,bT,dt⟩:=br e1 bs;have hp:x.length<=6:=by simp only[x];rw[ix];exact bf.1
      have e2:i<=x.length:=by simp only[x];rw[ix];simp[gg];omega
      rw[av Ψ (f1.Qz rfl),av Ψ (cE.Qz rfl),av Ψ (f2.Qz rfl)];have bW:∀{aZ:x3}{a1 bx:x1}{g84 a2:Nat},Ext bV aZ->bV.heap.size<=g84->an .i64 ae aZ g84 a1 x->an .i64 ae aZ a2 bx [(v:Int)]->g84≠a2->
        ak x7 BL [a1,Δ (i:Int),bx] aZ λe3 bA=>
         (Ext bV bA\/cC x7 (u4 dp (Γ g1)) (Γ g) bA/\True)/\
         ak x7 BK [Γ g,e3] bA λdI bX=>ab x7 (c7 dI 0) bX λe4=>ab x7 (c7 dI 1) bX λ_=>eZ e4 bX:=by
       intro aZ a1 bx g84 a2 ad bY ah al e5;refine(M3 ah al e5 e2 Ω).X ?_;rintro hq bA _ ⟨e6,hr,_,e7⟩;have cH:Ext bV bA:=ad.then e6 (by rintro r A rfl;omega);refine⟨.inl cH,?_⟩;refine(uA (f7.W cH) e7.ls).X ?_;rintro _ bX _ ⟨rfl,e8⟩;obtain⟨e,he⟩:=vl szs (q1 x i v) cs;have e9:sh szs (x.take i++[(v:Int)]++x.drop i) cs= .tuple #[Δ (f v),Δ e]:=he;rw[e9,bn,bo];exact e0 _ _ ⟨(dH.F cH).F e8,rfl⟩
      constructor
      .refine (jZ bT.ls Ω).X ?_;rintro a1 dJ _ ⟨a6,g84,bY,ah⟩;refine⟨.inl a6,?_⟩;refine dl ai.u ae.i rfl λbx a2 aZ fa ad al=>⟨.inl (a6.F ad),?_⟩;by_cases fb:0<x.length
       .have fd:g84<dJ.heap.size:=iy ah fb;exact bW (a6.F ad) bY (ah.W ad) al Ω
       .have fe:x=[]:=c9 Ω;have ff:a1= .slice ν 0 0\/g84<dJ.heap.size:=by
         obtain⟨_,⟨h,_⟩|⟨_,_,_,Q,_⟩⟩:=ah
         .exact .inl h
         .exact .inr Q.lt
        rcases ff with rfl|fd
        .refine bW (g84:=a2+1) (a6.F ad) (by have:=a6.size;omega) ?_ al Ω;rw[fe];exact an.nil _ _ _ _
        .exact bW (a6.F ad) bY (ah.W ad) al Ω
      .refine dl ai.u ae.i rfl λbx a2 hs fa bB al=>⟨.inl bB,?_⟩;refine(jZ (bT.ls.W bB) Ω).X ?_;rintro a1 ht _ ⟨cI,g84,bY,ah⟩;have hu:=bB.size;have hv:=iy al Ξ;exact⟨.inl (bB.F cI),bW (bB.F cI) Ω ah (al.W cI) Ω⟩
    .rintro _ hx rfl ⟨dK,fg,fi⟩;have cK:=bm dK dm;refine⟨⟨cK.1.2.2.2.2.2.2.2.2.2.1,cK.1.2.2.2.2.2.2.2.1.ls,cK.1.2.2.2.2.2.2.2.2.2.2⟩,⟨(cl.F (bi.aa S)).F dK,?_,?_⟩,λh=>by cases h⟩
     .have cL:Z[q]?=σ (st (fh b n).length).1:=by simp only[Z];rw[x8,dn];rfl
      rw[<-mM cL];exact fg
     .have cL:ac[q]?=σ (st (fh b n).length).2:=by simp only[ac];rw[x8,dn];rfl
      rw[<-mM cL];exact fi
   .rintro cX hy fj ⟨dL,cM,cN⟩ hz bZ _ _;rw[show cX=N from fj]at cM cN;obtain⟨f1,f2,f3,f4,f5,f6,f7,f8,f9,f10,f11⟩:=ci bZ (bh dL ch);rw[av Ψ (f4.Qz rfl),av Ψ (f6.Qz rfl)];intro fk bE _;have fm:Ext w fk:=by
     have fo:Ext w aF:=aK.F ((cb.F aC).F aG);exact((fo.then dL (λr A h=>by rcases h with rfl|rfl<;>omega)).F bZ).F bE
    rw[<-cj,mL]at cM;rw[<-bP,mL]at cN;refine⟨fm,λca=>m7 ⟨eh,ei,ej⟩ ca,λfp hA _ _=>?_⟩;have fq:fp=i:=Ω
    subst fq;exact⟨G,B,C,aE,bv,rfl,⟨⟨bK,c0,f5.W bE,f8.W bE,(cN.W bZ).W bE⟩,⟨c1,c2,ek⟩,bf,by rw[bP];omega⟩,(cM.W bZ).W bE,Ω,Ω,Ω,λr A=>by have:=em r A;omega⟩
  .intro az bF M fs _ _;have bG:=cZ.F fs;have cO:=ax.W (aK.F bG);have ap:=ay.W bG;have aq:=aJ.W bG;obtain⟨⟨aY,gs,Q,hm,ft⟩,_⟩:=id cO;rw[av Ψ (ap.Qz rfl),bS,aT cp.p rfl,bC (cs:=[sv]) bq.p bq.i rfl (sub Q),
    av Ψ (aq.Qz rfl),av Ψ (aq.Qz rfl)]
   simp only[aL];rw[lm Ω Ω,av Ψ (ap.Qz rfl),aN cp.p 1 Q rfl,
    av Ψ (ap.Qz rfl),aN cp.p 1 Q rfl]
   have hB:=bG.size;have dM:∀{z:x3}{K:x1->x3->Prop},Ext M z->(∀v I H,Ext M I->Ext z I->z.heap.size<=H->H<I.heap.size->an .i64 ae I H v szs->K v I)->ak x7 xe [.agg #[sv]] z K:=λR aH=>
    (uT (hm.ls.W R) Ω).X λv I _ ⟨y,H,b0,P⟩=>aH v I H (R.F y) y b0 (iy P Ω) P
   have cP:∀{z:x3}{v:x1}{H:Nat}{K:x1->x3->Prop},Ext M z->M.heap.size<=H->an .i64 ae z H v szs->(∀v I,Ext M I->af (λr=>r=H) z I->(∃H,M.heap.size<=H/\an .i64 ae I H v (gg szs i))->K v I)->
     ak x7 Bz [v,Δ (i:Int),Δ ((i:Int)+1)] z K:=λR b0 P aH=>
    (Ds P hi Ω).X λv I _ ⟨y,fu⟩=>aH v I (R.then y (by rintro r A rfl;omega)) y ⟨_,b0,fu⟩
   have dN:∀{z:x3}{v:x1}{K:x1->x3->Prop},Ext M z->(∃H,M.heap.size<=H/\an .i64 ae z H v (gg szs i))->
     (∀I G B C,Ext z I->z.heap.size<=G->z.heap.size<=B->(∀r,li C r->z.heap.size<=r)->cd I G B C (gg szs i) k (u9 N k)->K (.tuple #[Γ G,Δ 0]) I)->
     ak x7 xc [v,Δ k,Δ k] z K:=λR ⟨H,b0,P⟩ aH=>
    (sg P.ls).X λv I _ ⟨y,_,_,_,bp⟩=>by
     obtain⟨G,B,C,rfl,aQ,cQ,fv,dO⟩:=bp bf Ω ⟨hk,by have:=hk.1;omega,Int.le_refl _⟩;rw[bI]at dO;exact aH I G B C y aQ cQ fv dO
   have b2:∀{z:x3}{K:x1->x3->Prop},Ext M z->(∀I,Ext M I->Ext z I->z.heap.size<I.heap.size->ag I z.heap.size dp [.pointer ν]->K (Γ z.heap.size) I)->aD x7 (S5 dp rs (.tuple #[])) z K:=λR aH=>
    bu dp.i λg I fw y Q=>by subst fw;exact aH I (R.F y) y Q.lt Q
   have dP:∀{z:x3}{E G B:Nat}{C:x1},Ext M z->M.heap.size<=E->ag z E dp [.pointer ν]->cd z G B C (gg szs i) k (u9 N k)->M.heap.size<=G->M.heap.size<=B->(∀r,li C r->M.heap.size<=r)->
     E≠G->E≠B->¬li C E->aD x7 (o6 dp (Γ E) (Γ G)) z λ_ I=>az (Γ E) I:=λR dQ U Y h1 X ct bp aQ cQ=>
    bw dp.i rfl rfl U Ξ λI dR _ fx=>bF _ _ ⟨(bG.F R).then dR (by rintro r A rfl;omega),_,_,_,_,rfl,fx,Y.aa dR (Ne.symm bp) (λ_=>Ne.symm aQ) (λr A he=>cQ (he▸A)),Ω,Ω,Ω,λr A=>by have:=ct r A;omega,aQ⟩
   have cR:∀{z:x3}{E:Nat}{v:x1},Ext M z->M.heap.size<=E->ag z E dp [.pointer ν]->(∃H,M.heap.size<=H/\an .i64 ae z H v (gg szs i))->
     ak x7 xc [v,Δ k,Δ k] z λt cS=>ab x7 (c7 t 0) cS λt0=>ab x7 (c7 t 1) cS λ_=>aD x7 (o6 dp (Γ E) t0) cS λ_ I=>az (Γ E) I:=λ{z E v}R dQ U P=>
    dN R P λhC G B C dS fy fz b4 Y=>by
     have b5:=U.lt;have hD:=R.size;rw[bn,bo];exact dP (R.F dS) dQ (U.W dS) Y Ω Ω (λr A=>by have:=b4 r A;omega) Ω Ω (λbc=>by have:=b4 _ bc;omega)
   refine⟨dM (Ext.refl _) λfA hE fB b6 _ cT fD b7=>⟨.inl b6,cP b6 cT b7 λdT hF a7 hG a8=>⟨.inl a7,?_,?_⟩,?_⟩,?_⟩
   .refine dN a7 a8 λhH G B C fE fy fz b4 Y=>?_;have fF:=a7.size;have dU:=a7.F fE;rw[bn,bo];refine b2 dU λhI dV fG b5 fH=>⟨.inl dV,?_⟩;have hJ:=dU.size;have fI:=Y;obtain⟨⟨_,_,cA,fJ,cB⟩,_⟩:=fI;have hK:=cA.lt;have hL:=iy cB Θ;exact dP dV Ω fH (Y.W fG) Ω Ω (λr A=>by have:=b4 r A;omega) Ω Ω (λbc=>by have:=bD fJ bc;omega)
   .refine b2 a7 λhM dW fK b5 fL=>⟨.inl dW,?_⟩;obtain⟨fM,fN,fO⟩:=a8;have fF:=a7.size;exact cR dW Ω fL ⟨fM,fN,fO.W fK⟩
   .refine b2 b6 λhN dX fP b5 fQ=>⟨.inl dX,?_⟩;have hO:=b6.size;refine cP dX cT (b7.W fP) λdT hP dY fR a8=>⟨.inl dY,?_⟩;exact cR dY Ω (fQ.aa fR Ω) a8
   .refine b2 (Ext.refl _) λhQ dZ hR b5 fS=>⟨.inl dZ,?_⟩;refine dM dZ λfA hS fB ea fU cT fD b7=>⟨.inl ea,?_⟩;refine cP ea Ω b7 λdT hT eb fV a8=>⟨.inl eb,?_⟩;exact cR eb Ω ((fS.W fU).aa fV Ω) a8
 .intro az bF hU aI _ _;have ap:=ay.W aI;have aq:=aJ.W aI;rw[av Ψ (aq.Qz rfl)];simp only[aP,aj];refine⟨λhV=>⟨.inl (Ext.refl _),.inl (Ext.refl _),bF _ _ ⟨by rw[ms];omega,aI⟩⟩,λhW=>?_⟩;have cO:=ax.W (aK.F aI);obtain⟨⟨aY,gs,Q,hm,ft⟩,_⟩:=id cO;rw[av Ψ (aq.Qz rfl),av Ψ (ap.Qz rfl),bS,aT cp.p rfl,bC (cs:=[sv]) bq.p bq.i rfl (sub Q)];refine(ya hm.ls).X ?_;rintro _ hX _ ⟨rfl,aw⟩;refine⟨.inl aw,?_⟩;simp only[cJ,aj];refine⟨λhY=>⟨.inl (Ext.refl _),bF _ _ ⟨by rw[ms];omega,aI.F aw⟩⟩,λhZ=>?_⟩;have ap:=ap.W aw;have aq:=aq.W aw;have fW:=(b9.W aI).W aw;rw[bC b3.p b3.i rfl fW.range,av Ψ (ap.Qz rfl),bS,aT cp.p rfl,bC (cs:=[sv]) bq.p bq.i rfl (sub (Q.W aw)),av Ψ (aq.Qz rfl)];refine(uK (b:=b) (n:=n)).X ?_;rintro _ h0 _ ⟨rfl,cU⟩;refine⟨.inl cU,?_⟩;refine(q9 ((hm.ls.W aw).W cU)).X ?_;rintro _ h2 _ ⟨rfl,fX⟩;simp only[bz];refine bF _ _ ⟨?_,((aI.F aw).F cU).F fX⟩;congr 1;have fY:(0<=pos/\pos<(szs.length:Int)/\(n:Int)=fc szs pos)↔(n:Int)=fc szs pos:=⟨λh=>h.2.2,λh=>⟨Ω,Ω,h⟩⟩;simp only[fY]
theorem O6:ak x7 BO [sv] w λr I=>Ext w I/\∃g,r= .func (.func qJ) #[] #[Γ g]/\w.heap.size<=g/\ag I g ai sv.cells.toList:=by
 refine ay func218 ?_;refine bj λg J f a e=>?_;rw[jX];exact⟨a,g,rfl,Ω,e⟩
theorem O7{f:S9}{cap:Array x1}{B:Nat->List x1->x3->Prop}{e:x3->Prop}{L:Λ}(Q:qD x7 f cap.toList n B e)(C:∀k vs w,B k vs w->∃x,L[k]?=σ x/\vs=[Δ x])(he:∀a b,af (λr=>w.heap.size<=r) a b->e a->e b)(R:e w)(S:n=L.length)(aq:L.length<=1000000):
  ak x7 Kf [.slice ν 0 0,.func (.func f) #[] cap] w λv I=>Ext w I/\∃g,w.heap.size<=g/\an .i64 ae I g v L:=by
 refine je func195 ?_;refine bj λgs J au E p=>?_;have p:=p;have aw:=p.lt;have G:∀{a b:x3},Ext a b->e a->e b:=λj=>he _ _ (j.aa _);refine mo.old ⟨Nat,sp,f,cap,0,_,_,e,λk I=>af (λr=>w.heap.size<=r) w I/\∃v g,gs<g/\ag I gs ai [v]/\an .i64 ae I g v (L.take k),λ_ _ _=>False,rfl,Q.s,?_,λ_ _ j h=>G j h,
  λ_ _ _ j h=>⟨h.1.F (j.aa _),by obtain⟨v,g,h1,U,W⟩:=h.2;exact⟨v,g,h1,U.W j,W.W j⟩⟩,λ_ _ _ _ _ h=>h,G E R,⟨E.aa _,_,gs+1,Ω,p,an.nil _ _ _ _⟩,?_,?_,λ_ _ h=>h.elim,λ_ _ _ h=>h.elim⟩
 .rintro k vs ax I ⟨_,_,h⟩;obtain⟨x,_,rfl⟩:=C k vs I h;rfl
 .rintro a k _ V hX ⟨hk,rfl,Y⟩ ⟨Z,v,g,ab,H,q⟩;obtain⟨x,j,ac⟩:=C k _ V Y;cases ac;intro ay y _ _;have K:=H.W y;rw[av Ψ (K.cell rfl)];refine dl ai.u ae.i rfl λa ga az aA z ad=>?_;have aB:(L.take k).length<=1000000:=Θ
  refine iO ai.u ae.i rfl ((q.W y).W z) ad.ls (by simp only[Y4,List.length_nil];omega) (by simp only[Y4,List.length_nil];omega) λah aj aC aD A M=>?_;have aE:=H.lt;have aF:=y.size;have aG:=z.size;refine bw ai.i A.ls.cells.1 A.ls.cells.2 (((K.W z).aa M Ω)) Ξ λal N aH am=>?_;have O:af (λr=>w.heap.size<=r) V al:=(((y.F z).aa _).F (M.X λr _ h=>by show w.heap.size<=r;omega)).F (N.X λr _ h=>by show w.heap.size<=r;omega);refine⟨he _ _ O hX,⟨Z.F O,ah,aj,Ω,am,?_⟩,λh=>by cases h⟩;rw[u5,j];exact A.aa N (λ_=>Ω)
 .rintro k aI hk ⟨ao,v,g,ab,ap,q⟩;have hk:=hk;subst hk;rw[av Ψ (ap.cell rfl)];intro aJ P _;rw[S,p8]at q;exact⟨(ao.W λr aK h=>by have:w.heap.size<=r:=h;omega).F P,g,Ω,q.W P⟩
theorem Ey{f:S9}{cap:Array x1}{j:Nat->List x1->x3->Prop}{e:x3->Prop}{L:Λ}(p:qD x7 f cap.toList n j e)(q:∀k vs w,j k vs w->∃x,L[k]?=σ x/\vs=[Δ x])(he:∀a b,af (λr=>w.heap.size<=r) a b->e a->e b)(s:e w)(y:n=L.length)(z:L.length<=1000000):
  ak x7 Ja [.func (.func f) #[] cap] w λv I=>Ext w I/\∃g,w.heap.size<=g/\an .i64 ae I g v L:=by
 refine ay func98 ?_;exact(O7 p q he s y z).X λ_ _ _ h=>h
theorem O8{x:Int}:ak x7 cmp_Less_int [Δ x,Δ y] w λv I=>v= .bool (decide (x<y))/\Ext w I:=by
 refine ay func301 ?_;refine aV (λv J=>v= .bool (decide (x<y))/\Ext w J) (λ_ _ h=>h) λaz a=>?_;have e:∀{z:Int}{w:x3},ak x7 cmp_isNaN_int [Δ z] w λv I=>v= .bool sp/\Ext w I:=λ{z w}=>by
  refine ay func227 ?_;simp only[bz];exact⟨Ξ,Ext.refl _⟩
 refine e.X ?_;rintro _ V _ ⟨rfl,f⟩;rw[aW];simp only[aP];exact a _ _ ⟨rfl,f⟩
theorem O9{P:X2}{t:r8}{cx cy:Bool}{k:o4}{a b:Int}:cC P (aQ .sub t cx cy (.int k a) (.int k b)) (.int k (k.wrap (a-b))) w:=λI _=>by simp[aQ,eqGuard,binOp,Op.intArith]
theorem Pa{g:Nat}(h:an .i64 ae w g sv l)(ap:l.length<=1000000):
  ak x7 Ld [sv,Δ 0,Δ l.length] w λ_ I=>af (λr=>r=g) w I/\∃m,m.Perm l/\m.Pairwise (·<= ·)/\an .i64 ae I g sv m:=by
 refine ay func295 ?_;simp only[aL];refine⟨λt J=>∃(i:Nat)(m:Λ),t=Δ i/\1<=i/\(i<=l.length\/i=1)/\m.Perm l/\sw m i/\af (λr=>r=g) w J/\an .i64 ae J g sv m,λt _=>l.length+1-(b0 t).toNat,
  ⟨1,l,by congr 1,Ω,.inr rfl,.refl _,λp q x y h1 U=>Ω,af.refl _ _,h⟩,?_⟩
 rintro _ J ⟨i,m,rfl,aq,au,z,K,L,hm⟩;have W:=z.length_eq;simp only[aP,aj];refine⟨λX=>?_,λav=>?_⟩
 .have X:i<l.length:=Ω
  refine⟨λt V=>∃(j:Nat)(m:Λ),t=Δ j/\j<=i/\m.Perm l/\q3 m i j/\af (λr=>r=g) w V/\an .i64 ae V g sv m,λt _=>(b0 t).toNat,⟨i,m,rfl,o5 _,z,MH K,L,hm⟩,?_⟩;rintro _ V ⟨j,m,rfl,Y,z,E,M,hm⟩;have W:=z.length_eq;refine aV (λv N=>Ext V N/\∃c,v= .bool c/\(c=rs->0<j/\∃a b,m[j-1]?=σ a/\m[j]?=σ b/\b<a)/\(c=sp->j=0\/0<j/\∃a b,m[j-1]?=σ a/\m[j]?=σ b/\a<=b)) ?_ ?_
  .rintro _ N ⟨B,c,rfl,Z,ab⟩;rw[bM];refine⟨λh=>?_,λh=>?_⟩
   .obtain⟨A,a,b,f,s,G⟩:=Z h;intro aw O _ _;have C:=(hm.W B).W O;have e:Y6.wrap ((j:Int)-1)=((j-1:Nat):Int):=by rw[lm Ω Ω];omega
    simp only[dN,e];rw[ba ai.u ae.i Ψ C.ls f,ba ai.u ae.i Ψ C.ls s,gb rfl ai.u ae.i C Ω];refine gd ae.i C Ω λac ad ax Q=>⟨.inr ⟨by have:=O9 (P:=x7) (w:=ac) (t:=ae) (cx:=sp) (cy:=rs) (k:=.i64) (a:=(j:Int)) (b:=1);rwa [e]at this,trivial⟩,?_⟩;rw[gb rfl ai.u ae.i Q Θ];refine gd ae.i Q Θ λaA ag aB ah=>?_;refine⟨⟨j-1,_,rfl,Ω,(swap_perm Ω f s).F z,MK E A Y f s G,((M.F ((B.F O).aa _)).F ad).F ag,ah⟩,?_⟩;simp only[b0];omega
   .simp only[aL];rw[lm Ω Ω];refine⟨⟨i+1,m,rfl,Ω,.inl Ω,z,?_,M.F (B.aa _),hm.W B⟩,?_⟩
    .rcases ab h with rfl|⟨A,a,b,f,s,G⟩
     .exact MI E
     .exact MJ E A f s G
    .simp only[b0];omega
  .intro az R aD H _ _;have S:=hm.W H;simp only[bG,aj];refine⟨λA=>?_,λA=>R _ _ ⟨H,sp,rfl,(λh=>by cases h),λ_=>.inl Ω⟩⟩;have e:Y6.wrap ((j:Int)-1)=((j-1:Nat):Int):=by rw[lm Ω Ω];omega
   obtain⟨b,s⟩:=aC (l:=m) (i:=j) Ω;obtain⟨a,f⟩:=aC (l:=m) (i:=j-1) Ω;rw[ba ai.u ae.i Ψ S.ls s];simp only[dN,e];rw[ba ai.u ae.i Ψ S.ls f];refine O8.X ?_;rintro _ aE _ ⟨rfl,al⟩;refine R _ _ ⟨H.F al,_,rfl,λh=>⟨Ω,a,b,f,s,by simpa using h⟩,λh=>.inr ⟨Ω,a,b,f,s,by simpa using h⟩⟩
 .refine⟨L,m,z,ML λp q x y h1 U am ao=>K p q x y h1 Ω am ao,hm⟩
theorem Pb{P:X2}{t:r8}{k:o4}{s:ByteArray}{i:Nat}{K:x1->Prop}(a:P.underlying t=σ .string)(hi:i<s.size)(e:∀b:Nat,b<256->K (.int .u8 b)):
  ab P (Instr.index t (.string s) (.int k (i:Int))) w K:=by
 have f:s[i]?=σ s[i]:=by simp[hi]
 have:ab P (Instr.index t (.string s) (.int k (i:Int))) w K=K (.int .u8 s[i].toNat):=ab.of λI _=>by
  simp[Instr.index,asIntOf,run_underlying a,hi]
 rw[this];exact e _ (UInt8.toNat_lt _)
theorem Pc(a:n<256):ak x7 Ky [.int .u64 (n:Int)] w λv I=>(∃r,v=Δ r)/\Ext w I:=by
 refine ay func226 ?_;refine ak.X (K:=λv I=>(∃r,v=Δ r)/\Ext w I) ?_ (λ_ _ _ h=>h);refine ay func283 ?_;simp only[ct,cJ,aj];refine⟨λh=>Ω,λ_=>⟨λh=>Ω,λ_=>⟨λh=>Ω,λ_=>?_⟩⟩⟩;rw[e9 fL.u cP.u,wrap_u8 Ω Ω];refine Pb da.u (by exact Nat.lt_of_lt_of_le a Φ) λb e=>?_;rw[e9 cP.u ae.u];simp only[aL];exact⟨⟨_,rfl⟩,Ext.refl _⟩
theorem Pd{g:Nat}(h:an .i64 ae w g sv l)(f:l.length<=12):
  ak x7 BH [sv] w λ_ I=>af (λr=>r=g) w I/\∃m,m.Perm l/\m.Pairwise (·<= ·)/\an .i64 ae I g sv m:=by
 refine ay func176 ?_;rw[aS ai.u h.ls,e9 ae.u ny.u,lw Ω Ω];refine(Pc Ω).X ?_;rintro _ J _ ⟨⟨r,rfl⟩,e⟩;refine ak.X (K:=λ_ I=>af (λr=>r=g) J I/\∃m,m.Perm l/\m.Pairwise (·<= ·)/\an .i64 ae I g sv m) ?_ (λ_ _ _ h=>⟨(e.aa _).F h.1,h.2⟩);refine ay func255 ?_;refine⟨λa b _ _ _ V=>a=Δ 0/\b=Δ l.length/\J=V,λ_ _ _ _ _ _=>0,⟨rfl,rfl,rfl⟩,?_⟩;rintro _ _ _ _ _ _ ⟨rfl,rfl,rfl⟩;simp only[dN,nA,aj];rw[lm Ω Ω];refine⟨λ_=>?_,λh=>Ω⟩;refine(Pa (h.W e) Ω).X ?_;exact λ_ _ _ h=>h
theorem Pe{f:S9}{cap:Array x1}{j:Nat->List x1->x3->Prop}{e:x3->Prop}{L:Λ}(p:qD x7 f cap.toList n j e)(q:∀k vs w,j k vs w->∃x,L[k]?=σ x/\vs=[Δ x])(he:∀a b,af (λr=>w.heap.size<=r) a b->e a->e b)(s:e w)(y:n=L.length)(z:L.length<=12):
  ak x7 BN [.func (.func f) #[] cap] w λv I=>Ext w I/\∃g m,w.heap.size<=g/\m.Perm L/\m.Pairwise (·<= ·)/\an .i64 ae I g v m:=by
 refine ay func217 ?_;refine(Ey p q he s y Ω).X ?_;rintro v J _ ⟨A,g,B,C⟩;refine(Pd C z).X ?_;rintro _ V _ ⟨E,m,h1,G,H⟩;exact⟨A.then E (by rintro r K rfl;omega),g,m,B,h1,G,H⟩
theorem Ez{x:Int}(h:aF .i64 w sv l):
  ak x7 w9 [sv,Δ x] w λv I=>Ext w I/\∃r:Int,v=Δ r/\∀i:Nat,l[i]?=σ x->(r=i↔ ∀j,j<i->l[j]? ≠σ x):=by
 refine ay func91 ?_;rw[aS ai.u h];refine bT.range l.length (λi _ J=>Ext w J/\∀j,j<i->l[j]? ≠σ x) h.le ⟨Ext.refl _,λj p=>Ω⟩ ?_ ?_
 .rintro i _ J k hi ⟨a,e⟩ hk;simp only[aP,aj];refine⟨λ_=>?_,λh=>Ω⟩;obtain⟨y,f⟩:=aC (l:=l) hi;rw[ba ai.u ae.i Ψ (h.W a) f];simp only[bi,aj,aL];refine⟨λhe=>⟨a,i,rfl,λq s=>?_⟩,λhe=>hk _ _ ⟨a,λj p=>?_⟩⟩
  .subst he;refine⟨λB=>by
              have:i=q:=Ω
              subst this;exact e,λz=>?_⟩
   rcases Nat.lt_trichotomy i q with h1|h1|h1
   .exact m7 f (z i h1)
   .omega
   .exact m7 s (e q h1)
  .by_cases A:j=i
   .subst A;rw[f];intro h;exact he (Z7 h).symm
   .exact e j Ω
 .rintro _ J k ⟨a,e⟩;simp only[aP,aj];refine⟨λh=>Ω,λ_=>⟨a,-1,rfl,λi hi=>?_⟩⟩;exact m7 hi (e i (x4.1 hi).1)
theorem Pf{g:Nat}(p:ag w0 g ai [sv])(e:aF .i64 w0 sv l):
  qD x7 qJ [Γ g] l.length (λk vs _=>∃x,l[k]?=σ x/\vs=[Δ x]) (λw=>Ext w0 w):=by
 refine⟨qJ.enters,λy az B w C _ q a r=>?_⟩;refine r7 func272 ?_;rw[av Ψ ((p.W a).cell rfl),aS ai.u (e.W a)];refine ce.range l.length (λi V=>az i V/\Ext w0 V) e.le ⟨r,a⟩ ?_ ?_
 .rintro i V k hi ⟨f,j⟩ hk;simp only[aP,aj];refine⟨λ_=>?_,λh=>Ω⟩;obtain⟨x,a⟩:=aC (l:=l) hi;rw[ba ai.u ae.i Ψ (e.W j) a];refine⟨rfl,(q i _ V hi j ⟨x,a,rfl⟩ f).X ?_⟩;rintro _ E (⟨rfl,s,z⟩|⟨rfl,A⟩)
  .simp only[bA,Y2,aW,aL];exact hk _ ⟨z.1,s⟩
  .simp only[bA,X1,bZ];exact .inr ⟨i,hi,A⟩
 .rintro V k ⟨f,_⟩;simp only[aP,aj];exact⟨λh=>Ω,λ_=>.inl f⟩
theorem yx(h:aF .i64 w sv l)(j:l.length<=12)(p:∀v I g m,Ext w I->w.heap.size<=g->m.Perm l->m.Pairwise (·<= ·)->an .i64 ae I g v m->K v I):
  ak x7 BO [sv] w λt J=>ak x7 BN [t] J K:=by
 refine O6.X ?_;rintro _ J _ ⟨f,g,rfl,B,e⟩;have e:ag J g ai [sv]:=by rw[h.cells.1]at e;exact e
 refine(Pe (Pf e (h.W f)) (λ_ _ _ h=>h) (λa b q s=>s.then q (λr C h=>Ω)) (Ext.refl _) rfl j).X ?_;rintro v V _ ⟨x,y,m,E,h1,z,A⟩;have:=f.size;exact p v V y m (f.F x) Ω h1 z A
def Pg(w:x3)(szs:Λ)(k:Int)(cs a:Λ)(v:x1)(I:x3):Prop:=
 Ext w I/\
  (¬Good a szs.length->v= .tuple #[.pointer ν,Δ 1])/\
  (Good a szs.length->∃e f h,v= .tuple #[Γ e,Δ 0]/\cd I e f h (fa szs a) k (pL szs cs a))
theorem Ph{g bG:Nat}{Z:x1}{cs z:Λ}(h:cd w g bG sv szs k cs)(hk:right k)(Q:aF .i64 w Z z)(cn:z.length<=12)(cq:Good z szs.length->aB (fa szs z)<=4096):
  ak x7 Kt [Γ g,Z] w (Pg w szs k cs z):=by
 have aA:=h;have cr:=h.2.2.1;have ct:=Q.cells;refine je func219 ?_;refine bj λg1 J c9 bH C=>?_;refine bj λbI V da a2 A=>?_;have s1:=bH.size;have s2:=a2.size;have db:=C.lt;have dc:=A.lt;have a6:=bH.F a2;have C:=C.W a2;have A:ag V bI ai [Z]:=by rw[ct.1]at A;exact A
 rw[av Ψ (C.cell rfl),cV dp.u];simp only[l9,aW];rw[av Ψ (A.cell rfl)];have cu:=Q.W a6;have sub:∀{w:x3}{g:Nat}{sv:x1}{k:Int}{aY:x1},ag w g cp [sv,Δ k,aY]->w.rangeAt g (0+0) [sv]:=λK=>oz K (by
  intro j v a7
  match j,a7 with
  |0,a7=>exact a7)
 refine yx cu cn λdY cw di m bJ dd a8 cz hm=>?_;have cA:=a8.length_eq;rw[aS ai.u hm.ls];have cB:=a6.F bJ;refine mn.range m.length (λi _ _ bb=>Ext cw bb/\∀j,j<i->m[j]?=σ (j:Int)) Ω ⟨Ext.refl _,λj bc=>Ω⟩ ?_ ?_
 .rintro i _ _ bb ab hi ⟨ac,be⟩ ad;simp only[aP,aj];refine⟨λ_=>?_,λh=>Ω⟩;obtain⟨y,ah⟩:=aC (l:=m) hi;rw[ba ai.u ae.i Ψ (hm.ls.W ac) ah];simp only[bz,aj,aL];refine⟨λal de cC _=>⟨(cB.F ac).F cC,λ_=>rfl,λbf=>?_⟩,λhe=>ad _ _ _ ⟨ac,λj bc=>?_⟩⟩
  .have:=C5 bf a8 cz i hi;rw[ah]at this;exact m7 (Z7 this).symm al
  .by_cases cD:j=i
   .subst cD;rw[ah];congr 1;omega
   .exact be j Ω
 .rintro _ _ bb ab ⟨ac,be⟩;simp only[aP,aj,eu];refine⟨λh=>Ω,λ_ df cE _ _=>?_⟩;have E:=MM be a8;have am:=(bJ.F ac).F cE;have aD:=a6.F am;have C:=C.W am;have A:=A.W am;have cF:=Q.W aD;have cG:=aA.W aD;have dg:=am.size;obtain⟨⟨aY,gs,K,aE,bK⟩,_⟩:=id cG;rw[av Ψ (A.cell rfl),aS ai.u cF,av Ψ (C.cell rfl),bS,aT cp.p rfl,bC (cs:=[sv]) bq.p bq.i rfl (sub K)];refine(ya aE.ls).X ?_;rintro _ dh _ ⟨rfl,L⟩;refine⟨.inl L,?_⟩;simp only[bz,aj];refine⟨λal dj cH _=>⟨(aD.F L).F cH,λ_=>rfl,λbf=>m7 (by rw[bf.1]) al⟩,λdk=>?_⟩;have bg:z.length=szs.length:=Ω
  have E:Good z szs.length:=by rw[<-bg,<-cA];exact E
  have dl:=am.F L;have bh:=aD.F L;have C:=C.W L;have A:=A.W L;have bL:=Q.W bh;rw[av Ψ (A.cell rfl),aS ai.u bL];refine jy ai.u ae.i Ω Ω λgz cI dm R bM=>?_;have cJ:=an.of (n:=z.length) (bW.full bM Ξ (by simp[maxLen];omega));generalize (x1.slice (σ ⟨gz,0,ν⟩) z.length z.length)=cK at*;have dn:=L.size;have dq:=R.size;have dr:=bM.lt;rw[av Ψ ((A.W R).cell rfl),aS ai.u (bL.W R)];have bN:=bh.F R;have aG:(fa szs z).length=z.length:=uL _ _;refine ce.range z.length (λi aH=>af (λr=>r=gz) cI aH/\an .i64 ae aH gz cK (upto (fa szs z) 0 i)) Ω ⟨af.refl _ _,by rw[mK,aG];exact cJ⟩ ?_ ?_
  .rintro i aH ab hi ⟨M,aI⟩ ad;simp only[aP,aj];refine⟨λ_=>?_,λh=>Ω⟩;have ap:=bN.then M (by rintro r O rfl;omega);have aJ:=R.then M (by rintro r O rfl;omega);obtain⟨p,bi⟩:=aC (l:=z) hi;obtain⟨⟨aY,gs,K,aE,bK⟩,_⟩:=aA.W ap;rw[ba ai.u ae.i Ψ (Q.W ap) bi,av Ψ ((C.W aJ).cell rfl),bS,aT cp.p rfl,bC (cs:=[sv]) bq.p bq.i rfl (sub K)];refine(q9 aE.ls).X ?_;rintro _ ds _ ⟨rfl,bO⟩;have bP:=aI.W bO;have cL:(upto (fa szs z) 0 i).length=z.length:=by rw[lg,aG]
   rw[gb rfl ai.u ae.i bP Ω];refine gd ae.i bP Ω λdt cM _ bQ=>?_;simp only[aL];have h1:=(E.2 i p bi).1;have aq:(fa szs z)[i]?=σ (fc szs p):=by
    unfold fa fc;rw[x8,bi,m5 h1.1];rfl
   rw[mM aq]at bQ;exact ad _ ⟨(M.F (bO.aa _)).F cM,bQ⟩
  .rintro aH ab ⟨M,aI⟩;simp only[aP,aj];refine⟨λh=>Ω,λ_=>?_⟩;have ap:=bN.then M (by rintro r O rfl;omega);have aJ:=R.then M (by rintro r O rfl;omega);rw[<-aG,mL]at aI;obtain⟨⟨aY,gs,K,aE,bK⟩,_⟩:=aA.W ap;rw[av Ψ ((C.W aJ).cell rfl),aN cp.p 1 K rfl];have aK:=cr.MO E rfl;have bR:=cq E;have du:=prod_bound aK;refine(sg aI.ls).X ?_;rintro _ bT _ ⟨bU,_,_,_,cN⟩;obtain⟨aw,G,U,rfl,dv,dw,dx,aM⟩:=cN aK bR ⟨hk,Ω,by have:=hk.1;omega⟩;obtain⟨N,aQ⟩:∃N:Nat,(aB (fa szs z)).toNat=N:=⟨_,rfl⟩;rw[aQ]at aM;rw[bn,bo];refine bu dp.i λbV dy dz bX ax=>?_;refine bw dp.i rfl rfl ax (by simp[T5]) λdA cO dC ax=>?_;have dD:=M.size;have dE:=bU.size;have dF:=bX.size;have bk:=bX.then cO (by rintro r O rfl;omega);have bY:=bU.F bk;have cP:=aM.W bk;have dG:=ax.lt;obtain⟨⟨bm,bZ,b0,b2,cQ⟩,⟨b3,b4,_⟩,_,dH⟩:=id cP;have dI:0<N:=Ω
   have dJ:aw<bT.heap.size:=by obtain⟨⟨_,_,q,_⟩,_⟩:=id aM;exact q.lt
   have dK:G<bT.heap.size:=by obtain⟨⟨_,_,_,_,q⟩,_⟩:=id aM;exact iy q Θ
   rw[av Ψ (ax.cell rfl),bS,aT cp.p rfl,bC (cs:=[U]) bq.p bq.i rfl (sub b0)];refine pO.X ?_;rintro _ P _ ⟨H,aR,rfl,dL,b5⟩;have dM:=bk.size;have dN:=H.size;let S:Nat->Prop:=λr=>r=G;let W:=pL szs cs z;have bp:W.length=N:=by simp only[W];rw[Db,aQ]
   let cR:x3->Prop:=λI=>ag I g1 dp [Γ g]/\ag I bI ai [Z]/\ag I bV dp [Γ aw]/\ag I aw cp [U,Δ k,bm]/\
    cd I g bG sv szs k cs/\aF .i64 I Z z/\an .i64 ae I bZ U (fa szs z)/\ag I aR bq [U]/\P.heap.size<=I.heap.size
   have X:∀{a:x3},af S P a->cR a:=by
    intro a B;have br:=(aJ.F bY).F H;have bs:=br.put B Ω;have b6:=bh.F bs;refine⟨C.W bs,A.W bs,(ax.W H).aa B (by show¬(bV=G);omega),(b0.W H).aa B (by show¬(aw=G);exact b3),aA.W b6,Q.W b6,bl (b2.W H) B (λr O he=>b4 ((show r=G from he)▸O)),
     b5.aa B (by show¬(aR=G);omega),B.size⟩
   have b7:=pN (g:=aR) (B0:=P.heap.size) (sv:=U) aK;rw[aQ]at b7;refine mp.old ⟨Nat,sp,kp,#[Γ aR],0,_,_,_,λq I=>af S P I/\an .i64 ao I G bm (upto W 0 q),λ_ _ _=>False,rfl,b7.s,
    ?_,λ_ _ B h=>⟨h.1.W B,h.2.1.W B,Y1 h.2.2 B.size⟩,λ_ _ _ B h=>⟨h.1.F (B.aa S),h.2.W B⟩,λ_ _ _ _ _ h=>h,⟨b5,(b2.W H).ls,o5 _⟩,⟨af.refl _ _,?_⟩,?_,?_,λ_ _ h=>h.elim,λ_ _ _ h=>h.elim⟩
   .rintro _ _ _ _ ⟨_,_,_,_,rfl,_⟩;rfl
   .rw[mK,bp];exact cQ.W H
   .rintro _ aO q _ dO ⟨_,_,dP⟩ ⟨aq,rfl,dQ,gt,cS,dR,cT⟩ ⟨aU,cU⟩;cases cS;let x:=b1 (fa szs z) (q:Int);have b8:x.length=z.length:=by simp only[x];rw[ix,aG]
    intro cW Y _ _;have ca:=cT.W Y;rw[aS ai.u ca.ls];refine jy ai.u ae.i (by rw[ix];omega) (by rw[ix];omega) λgo cX dS bt cb=>?_;have cY:=an.of (n:=(b1 (fa szs z) (q:Int)).length) (bW.full cb Ξ (by rw[ix];simp[maxLen];omega));generalize (x1.slice (σ ⟨go,0,ν⟩) (b1 (fa szs z) (q:Int)).length (b1 (fa szs z) (q:Int)).length)=cZ at*;have dT:=aU.size;have dU:=Y.size;have dV:=bt.size;have lo:=cb.lt;have c0:af S P cX:=aU.F ((Y.F bt).aa S);have f:=X c0;rw[av Ψ (f.2.1.cell rfl),aS ai.u f.2.2.2.2.2.1];refine ce.range z.length (λj aV=>Ext cW aV/\∃y:Λ,y.length=z.length/\an .i64 ae aV go cZ y/\∀(i:Nat)(p:Int),i<j->z[i]?=σ p->y[p.toNat]?=x[i]?) Ω
     ⟨bt,_,by simp[b8,x],cY,λi p hi=>Ω⟩ ?_ ?_
    .rintro j aV ab bc ⟨ay,y,bx,aX,bA⟩ ad;simp only[aP,aj];refine⟨λ_=>?_,λh=>Ω⟩;have f:=X (aU.F ((Y.F ay).aa S));obtain⟨p,aZ⟩:=aC (l:=z) bc;obtain⟨u,cc⟩:=aC (l:=x) (i:=j) Ω;have dW:=(E.2 j p aZ).1;rw[ba ai.u ae.i Ψ f.2.2.2.2.2.1 aZ,ba ai.u ae.i Ψ (ca.W ay).ls cc,gb (i:=p.toNat) Ω ai.u ae.i aX Ω];refine gd ae.i aX Ω λdX c1 dZ c2=>?_;simp only[aL];refine ad _ ⟨ay.then c1 (by rintro r O rfl;omega),_,by simpa using bx,c2,λi a1 hi az=>?_⟩;by_cases cf:i=j
     .subst cf;rw[aZ]at az;cases az;rw[Z5 Ω,cc]
     .have ea:=(E.2 i a1 az).1;have al:p.toNat≠a1.toNat:=λhe=>by
       have:p=a1:=Ω
       subst this;exact cf (E.inj az aZ)
      rw[W5 al];exact bA i a1 Ω az
    .rintro aV ab ⟨ay,y,bx,aX,bA⟩;simp only[aP,aj];refine⟨λh=>Ω,λ_ c3 cg _ _=>?_⟩;have ah:=C9 E (by rw[b8,bg]) (by rw[bx,bg]) λi p ch=>bA i p (x4.1 ch).1 ch;have ci:=ay.F cg;have cj:af S P c3:=aU.F ((Y.F ci).aa S);obtain⟨f1,f2,f3,f4,f5,f6,f7,f8,f9⟩:=X cj;rw[av Ψ (f3.cell rfl),aN cp.p 2 f4 rfl,av Ψ (f1.cell rfl)];refine(uA f5 (aX.ls.W cg)).X ?_;rintro _ eb _ ⟨rfl,bB⟩;refine⟨.inl bB,?_⟩;obtain⟨e,he⟩:=vl szs y cs;rw[he,bn,bo];have c4:=cj.F (bB.aa S);have ck:=(cU.W ((Y.F ci).F bB));have cL:(upto W 0 q).length=N:=by rw[lg,bp]
     rw[gb rfl au.u ao.i ck Ω];refine gd ao.i ck Ω λc5 c6 ec cl=>?_;have cm:af S P c5:=c4.F (c6.X λr _ h=>h);obtain⟨f1,f2,f3,f4,f5,f6,f7,f8,f9⟩:=X cm;have c7:W[q]?=σ (bd szs cs y):=by
      simp only[W,pL];rw[x8,List.getElem?_range (by rw[aQ];exact aq),ah];rfl
     rw[mM c7]at cl;exact⟨⟨f8,f7.ls,f9⟩,⟨cm,cl⟩,λh=>by cases h⟩
   .rintro q ed aq ⟨bD,bE⟩;rw[show q=N from aq]at bE;have f:=X bD;rw[av Ψ (f.2.2.1.cell rfl)];intro ee bF _;obtain⟨f1,f2,f3,f4,f5,f6,f7,f8,f9⟩:=X (bD.F (bF.aa S));rw[<-bp,mL]at bE;have br:=(ap.F bY).F H;refine⟨(br.put bD Ω).F bF,λc8=>m7 E c8,λ_=>⟨aw,G,U,rfl,⟨bm,bZ,f4,f7,bE.W bF⟩,⟨b3,b4,bR⟩,aK,Db _ _ _⟩⟩
def ez(l:Λ):Prop:=∀(i j:Nat)(x y:Int),i<j->l[i]?=σ x->l[j]?=σ y->x<y
theorem ez.inj(h:ez l){i:Nat}{x:Int}(hi:l[i]?=σ x)(a:l[j]?=σ x):i=j:=by
 rcases Nat.lt_trichotomy i j with h1|h1|h1
 .have:=h i j x x h1 hi a;omega
 .exact h1
 .have:=h j i x x h1 a hi;omega
def dedup(l:Λ):Nat->Λ
 |0=>[]
 |j+1=>if 0<j/\l[j]?=l[j-1]? then dedup l j else dedup l j++[l.getD j 0]
theorem EA(l:Λ):∀j,(dedup l j).length<=j
 :=by
 intro a;induction a<;>grind [dedup]
theorem yy(a:0<j)(h:l[j]?=l[j-1]?):dedup l (j+1)=dedup l j:=by
 grind [dedup]
theorem yz{x:Int}(a:l[j]?=σ x)(h:0<j->l[j]? ≠l[j-1]?):dedup l (j+1)=dedup l j++[x]:=by
 grind [dedup]
theorem yA:∀{j:Nat},j<=l.length->(∀i,i<j->0<i->l[i]? ≠l[i-1]?)->dedup l j=l.take j
 :=by
 intro a;induction a<;>grind [dedup,yz,u5]
theorem yB{l:Λ}(U:l.Pairwise (·<= ·)):∀{j:Nat},j<=l.length->(ez (dedup l j)/\∀x,x∈dedup l j↔x∈l.take j)
 |0,_=>⟨λi j x y _ h=>by simp[dedup]at h,by grind [dedup]⟩
 |j+1,C=>by
  obtain⟨h1,r⟩:=yB U (j:=j) Ω;have p:l[j]?=σ l[j]:=x6 Ω;by_cases q:0<j/\l[j]?=l[j-1]?
  .rw[yy q.1 q.2];refine⟨h1,λx=>?_⟩;rw[r,u5,p];simp only[l7,o9,b8];refine⟨.inl,λh=>h.elim id λhe=>?_⟩;subst he;have E:(l.take j)[j-1]?=σ l[j]:=by grind
   grind
  .have s:0<j->l[j]? ≠l[j-1]?:=by grind
   rw[yz p s];have w:∀x∈dedup l j,x<l[j]:=λx F=>by
    grind [List.getElem_of_mem,X5]
   refine⟨λa b x y z f e=>?_,λx=>?_⟩
   .have A:=(x4.1 e).1;simp only[p9,Y4,List.length_nil]at A;rw[W8 Ω]at f;by_cases B:b=(dedup l j).length
    .subst B;rw[Y5 (o5 _),U1]at e;simp at e;subst e;exact w x (x5 f)
    .rw[W8 Ω]at e;exact h1 a b x y z f e
   grind [u5]
def sR(l:Λ):Prop:=∀(j:Nat)(x:Int),l[j]?=σ x->0<=x/\(0<j->∀y,l[j-1]?=σ y->y<x)
theorem sR.up(h:sR l):ez l:=by
 intro i j x y r f;induction j generalizing y with
 |zero=>omega
 |succ j p=>
  intro e;have s:=(x4.1 e).1;obtain⟨z,a⟩:∃z,l[j]?=σ z:=⟨_,x6 (show j<l.length by omega)⟩;have h1:=(h (j+1) y e).2 Ω z (by simpa using a);by_cases q:i=j
  .subst q;rw[f]at a;cases a;exact h1
  .have:=p z Ω a;omega
theorem EB(h:ez l)(e:∀x∈l,0<=x):sR l:=λj x a=>⟨e x (x5 a),λp y f=>h (j-1) j y x Ω f a⟩
theorem EC{g H:Nat}{bK:x1}{cs:Λ}(h:cd w g H sv szs k cs)(a:aF .i64 w bK l):
  ak x7 Ku [Γ g,bK] w λv I=>Ext w I/\∃c,v= .bool c/\(c=rs↔l.length=szs.length/\sR l):=by
 obtain⟨⟨aY,gs,K,hm,q⟩,_⟩:=h;have sub:w.rangeAt g (0+0) [sv]:=oz K (by
  intro j v r
  match j,r with
  |0,r=>exact r)
 refine ay func220 ?_;rw[aS ai.u a,bS,aT cp.p rfl,bC (cs:=[sv]) bq.p bq.i rfl sub];refine(ya hm.ls).X ?_;rintro _ J _ ⟨rfl,s⟩;simp only[bz,aj];refine⟨λL=>⟨s,sp,rfl,(λh=>by cases h),λh=>m7 (by rw[h.1]) L⟩,λE=>?_⟩;have E:l.length=szs.length:=Ω
 rw[aS ai.u (a.W s)];refine bT.range l.length (λi _ V=>Ext w V/\∀(j:Nat)(x:Int),j<i->l[j]?=σ x->0<=x/\(0<j->∀y,l[j-1]?=σ y->y<x)) a.le ⟨s,λj x M=>Ω⟩ ?_ ?_
 .rintro i _ V N hi ⟨e,z⟩ O;simp only[aP,aj];refine⟨λ_=>?_,λh=>Ω⟩;obtain⟨x,f⟩:=aC (l:=l) hi;have W:=a.le;rw[ba ai.u ae.i Ψ (a.W e) f];refine aV (λv P=>V=P/\∃c,v= .bool c/\(c=sp↔0<=x/\(0<i->∀y,l[i-1]?=σ y->y<x))) ?_ ?_
  .rintro _ _ ⟨rfl,c,rfl,q⟩;rw[bM];simp only[aL];refine⟨λQ=>⟨e,sp,rfl,(λh=>by cases h),λh=>?_⟩,λR=>O _ _ ⟨e,λj S M A=>?_⟩⟩
   .have:=q.2 (h.2 i x f);rw[Q]at this;cases this
   .by_cases U:j=i
    .subst U;rw[f]at A;cases A;exact q.1 R
    .exact z j S Ω A
  .intro az B;simp only[aP,bG,dN,aj];refine⟨λX=>B _ _ ⟨rfl,rs,rfl,(λh=>by cases h),λh=>Ω⟩,λY=>⟨λZ=>?_,λaa=>B _ _ ⟨rfl,sp,rfl,λ_=>⟨Ω,λh=>Ω⟩,λ_=>rfl⟩⟩⟩;obtain⟨y,C⟩:∃y,l[i-1]?=σ y:=⟨_,x6 (show i-1<l.length by omega)⟩;rw[lm Ω Ω,ew (i:=i-1) Ω ai.u ae.i Ψ (a.W e) C];simp only[cJ];refine B _ _ ⟨rfl,_,rfl,?_⟩;rw[decide_eq_false_iff_not];refine⟨λh=>⟨Ω,λ_ ab G=>by rw[C]at G;cases G;omega⟩,λh=>by have:=h.2 Ω y C;omega⟩
 .rintro _ V N ⟨e,z⟩;simp only[aP,aj];exact⟨λh=>Ω,λ_=>⟨e,rs,rfl,λ_=>⟨E,λj x f=>z j x (x4.1 f).1 f⟩,λ_=>rfl⟩⟩
def ij(l:Λ)(x:Int):Int:=if x∈l then(l.idxOf x:Int)else-1
theorem pU{i:Nat}{x:Int}(h:ez l)(hi:l[i]?=σ x):ij l x=i:=by
 have hm:x∈l:=x5 hi;have a:=List.idxOf_lt_length_of_mem hm;have e:=h.inj (by rw[x6 a,List.getElem_idxOf a]) hi;unfold ij;rw[m5 hm,e]
theorem ED{x:Int}(h:x∉l):ij l x= -1:=m6 h
theorem vm{x:Int}(h:aF .i64 w sv l)(p:ez l):
  ak x7 w9 [sv,Δ x] w λv I=>v=Δ (ij l x)/\Ext w I:=by
 refine ay func91 ?_;rw[aS ai.u h];refine bT.range l.length (λi _ J=>Ext w J/\∀j,j<i->l[j]? ≠σ x) h.le ⟨Ext.refl _,λj q=>Ω⟩ ?_ ?_
 .rintro i _ J k hi ⟨a,e⟩ hk;simp only[aP,aj];refine⟨λ_=>?_,λh=>Ω⟩;obtain⟨y,f⟩:=aC (l:=l) hi;rw[ba ai.u ae.i Ψ (h.W a) f];simp only[bi,aj,aL];refine⟨λhe=>⟨?_,a⟩,λhe=>hk _ _ ⟨a,λj q=>?_⟩⟩
  .subst he;rw[pU p f]
  .by_cases r:j=i
   .subst r;rw[f];intro h;exact he (Z7 h).symm
   .exact e j Ω
 .rintro _ J k ⟨a,e⟩;simp only[aP,aj];refine⟨λh=>Ω,λ_=>⟨?_,a⟩⟩;rw[ED];intro hm;obtain⟨i,hi,he⟩:=List.getElem_of_mem hm;exact e i hi (by rw[x6 hi,he])
def gq(x d6 scope:Λ):Λ:=scope.map λp=>x.getD (d6.idxOf p) 0
theorem Pj(x d6 scope:Λ):(gq x d6 scope).length=scope.length:=by simp[gq]
theorem EE{dG s:x1}{x d6 scope:Λ}(C:aF .i64 w dG x)(E:aF .i64 w s d6)(U:aF .i64 w sv scope)(G:ez d6)(H:∀p∈scope,p∈d6)(R:x.length=d6.length)(S:scope.length<=1000):
  ak x7 Kx [dG,s,sv] w λv I=>Ext w I/\∃g,w.heap.size<=g/\an .i64 ae I g v (gq x d6 scope):=by
 refine ay func223 ?_;rw[aS ai.u U];refine jy ai.u ae.i Ω Ω λgz J W y K=>?_;have L:=an.of (n:=scope.length) (bW.full K Ξ (by simp[maxLen];omega));generalize (x1.slice (σ ⟨gz,0,ν⟩) scope.length scope.length)=M at*;rw[aS ai.u (U.W y)];have j:=Pj x d6 scope;refine ce.range scope.length (λi V=>Ext w V/\an .i64 ae V gz M (upto (gq x d6 scope) 0 i)) Ω ⟨y,by rw[mK,j];exact L⟩ ?_ ?_
 .rintro i V N hi ⟨a,hm⟩ O;simp only[aP,aj];refine⟨λ_=>?_,λh=>Ω⟩;obtain⟨p,q⟩:=aC (l:=scope) hi;have z:=H p (x5 q);have X:=List.idxOf_lt_length_of_mem z;rw[ba ai.u ae.i Ψ (U.W a) q];refine(vm (E.W a) G).X ?_;rintro _ Y _ ⟨rfl,f⟩;have e:ij d6 p=(d6.idxOf p:Int):=m5 z;obtain⟨u,A⟩:∃u,x[d6.idxOf p]?=σ u:=⟨_,x6 Ω⟩;have Z:(upto (gq x d6 scope) 0 i).length=scope.length:=by rw[lg,j]
  rw[ew (i:=d6.idxOf p) e ai.u ae.i Ψ (C.W (a.F f)) A,gb rfl ai.u ae.i (hm.W f) Ω];refine gd ae.i (hm.W f) Ω λaa P _ B=>?_;simp only[aL];have Q:(gq x d6 scope)[i]?=σ u:=by
   unfold gq;rw[x8,q,Z0,v8,A];rfl
  rw[mM Q]at B;exact O _ ⟨(a.F f).then P (by rintro r ab rfl;omega),B⟩
 .rintro V N ⟨a,hm⟩;simp only[aP,aj];refine⟨λh=>Ω,λ_=>⟨a,gz,Ω,?_⟩⟩;rw[<-j,mL]at hm;exact hm
theorem EF(j:t≠[])(hw:∀b∈t,b7 b=rs):lex t=([t],rs):=by
 cases t with
 |nil=>exact m7 rfl j
 |cons b q=>
  have a:q.dropWhile b7=[]:=by
   have:∀(q:Λ),(∀x∈q,b7 x=rs)->q.dropWhile b7=[]/\q.takeWhile b7=q:=λq a=>by
    induction q with
    |nil=>simp
    |cons x q e=>
     have:=e λy f=>a y (.tail _ f);simp[a x (.head _),this.1,this.2]
   exact(this q λx h=>hw x (.tail _ h)).1
  have p:q.takeWhile b7=q:=by
   have:∀(q:Λ),(∀x∈q,b7 x=rs)->q.takeWhile b7=q:=λq a=>by
    induction q with
    |nil=>simp
    |cons x q e=>simp[a x (.head _),e λy f=>a y (.tail _ f)]
   exact this q λx h=>hw x (.tail _ h)
  rw[CC (hw b (.head _)),a,p]
theorem EG{p:x1}(h:aF .u8 w p l)(e:Bytes l)(f:l.length<=100000):ak x7 Bq [p] w λv I=>Ext w I/\∃g R,v=Γ g/\w.heap.size<=g/\iQ I g R (lex l).1 (lex l).2/\¬R g:=by
 refine(CK h e f).X ?_;rintro _ J _ ⟨j,g,rfl,q,s,a⟩;obtain⟨h1,z,A,x,bx,hm⟩:=id a;exact⟨j,g,λr=>r≠g,rfl,q,⟨s,l,0,a,λr y=>ch hm x Φ y,by rw[List.drop_zero]⟩,λh=>h rfl⟩
theorem Pk{p:x1}(h:aF .u8 w p t)(x:Bytes t)(y:t.length<=100000)(z:t≠[])(hw:∀b∈t,b7 b=rs):ak x7 K0 [p] w λv I=>Ext w I/\∃n:Int,v= .tuple #[Δ 1,Δ n,Δ 0]:=by
 have A:=EF z hw;refine ay func269 ?_;refine(EG h x y).X ?_;rintro _ J _ ⟨B,g,R,rfl,G,j,H⟩;rw[A]at j;refine⟨λ_ _ _ a V=>af (λr=>r=g) J V/\((a=Δ 0/\iQ V g R [t] rs)\/(a=Δ 1/\iQ V g R [] rs)),λ_ _ _ a _=>1-(b0 a).toNat,⟨af.refl _ _,.inl ⟨rfl,j⟩⟩,?_⟩;rintro _ _ _ _ V ⟨q,⟨rfl,e⟩|⟨rfl,e⟩⟩
 .refine (sx e).X ?_;rintro v C _ ⟨f,E,n,rfl⟩;rw[gY,gZ,ia,bi,aj];refine⟨λ_=>?_,λh=>m7 rfl h⟩;rw[aL,lm Ω Ω];exact⟨⟨q.F f,.inr ⟨rfl,E⟩⟩,by simp[b0]⟩
 .refine (sx e).X ?_;rintro v C _ ⟨f,n,rfl⟩;rw[gY,gZ,ia,bi,aj];refine⟨λh=>by simp at h,λ_=>?_⟩;rw[bi,aj];refine⟨λh=>by simp at h,λ_=>?_⟩;have s:=B.then (q.F f) (λr K he=>by have he:r=g:=he;omega);rw[aS cS.u (h.W s)];exact⟨s,_,rfl⟩
theorem Pl(a:Bytes t)(e:t.length<=100000)(f:t≠[])(hw:∀b∈t,b7 b=rs):ak x7 Ko [cb t] w λv I=>v= .bool rs/\Ext w I:=by
 have x:=EF f hw;refine ay func211 ?_;refine xF da.u cS.u cP.u a Ω λbv J j y _=>?_;refine(Pk y a e f hw).X ?_;rintro _ V _ ⟨p,n,rfl⟩;rw[gY,gZ,ia];refine xF da.u cS.u cP.u a Ω λK L q z _=>?_;refine(EG z a e).X ?_;rintro _ M _ ⟨A,g,R,rfl,N,s,O⟩;rw[x]at s;refine(sx s).X ?_;rintro _ B _ ⟨C,_,m,rfl⟩;rw[gY,gZ,ia];have E:=(((j.F p).F (q.F A))).then C (λr P he=>by
  have he:r=g:=he;have:=j.size;have:=p.size;have:=q.size;omega)
 refine aV (λv G=>B=G/\v= .bool rs) ?_ ?_
 .rintro _ _ ⟨rfl,rfl⟩;exact⟨rfl,E⟩
 .intro az H;rw[bi,aj];refine⟨λ_=>?_,λh=>m7 rfl h⟩;rw[bi,aj];refine⟨λ_=>?_,λh=>m7 rfl h⟩;rw[Cy a a];exact H _ _ ⟨rfl,by rw[ms rfl]⟩
theorem Pm{x:Int}:ak x7 xg [Δ x] w λv I=>v= .bool (decide (¬jA x))/\Ext w I:=by
 refine ay func210 ?_;refine aV (λv J=>w=J/\v= .bool (decide (¬jA x))) ?_ ?_
 .rintro _ _ ⟨rfl,rfl⟩;exact⟨rfl,Ext.refl _⟩
 .intro az e;rw[aP,aj];refine⟨λh=>e _ _ ⟨rfl,by rw[ms];intro a;have:=a.1;omega⟩,λh=>?_⟩;rw[bG];refine e _ _ ⟨rfl,?_⟩;congr 1;rw[U5,rc,rc];exact⟨λf a=>by have:=a.2;omega,λf=>by
   by_cases j:32<x
   .exact j
   .exact m7 ⟨Ω,Ω⟩ f⟩
theorem Pn(h:aF .i64 w sv l)(f:∀x∈l,jA x):
  ak x7 ul [sv,.func (.func xg) #[] #[]] w λv I=>v= .bool sp/\Ext w I:=by
 refine ay func163 ?_;refine ak.X (K:=λv I=>v=Δ (-1)/\Ext w I) ?_ ?_
 .refine ay func239 ?_;rw[aS ai.u h];refine bT.range l.length (λ_ _ J=>Ext w J) h.le (Ext.refl _) ?_ ?_
  .rintro i _ J k hi a hk;refine bt Ω ?_;obtain⟨x,e⟩:=aC (l:=l) hi;rw[ba ai.u ae.i Ψ (h.W a) e];show ak x7 xg [Δ x] J _;refine Pm.X ?_;rintro _ V _ ⟨rfl,j⟩;rw[aj];refine⟨λp=>m7 (f x (x5 e)) p,λ_=>?_⟩;rw[aL];exact hk _ _ (a.F j)
  .rintro _ J k a;rw[aP,aj];exact⟨λh=>Ω,λ_=>⟨rfl,a⟩⟩
 .rintro _ J _ ⟨rfl,a⟩;rw[cJ];exact⟨rfl,a⟩
theorem vn{m:Bool}{S R:ah}{d:iz}(h:aq.rep m S R w cs d):∃sv g a aO gs,cs=[sv,Γ g]/\aF .i64 w sv d.1/\gp w g a aO gs d.2.szs d.2.k d.2.o d.2.D:=by
 obtain⟨c,e,A,B,rfl,_,_,_,h1,f⟩:=h;have h1:=h1;obtain⟨u,rfl⟩:=X3.1 (show c.length=1 from aq.len h1);obtain⟨g,m,sv,gs,rfl,j,_⟩:=f;exact⟨u,g,m,sv,gs,rfl,eC h1,j⟩
theorem Po{X:Nat}{f:ca}{d:iz}{x:cv}{m:Bool}{S R:ah}(an:mV w X f)(ao:fb N f)(ap:x∈f.d7)(au:sQ f.k x d)(aw:aq.rep m S R w cs d):
  ak x7 K1 [Γ X,.agg cs.toArray] w λv I=>v= .bool rs/\Ext w I:=by
 obtain⟨d9,aJ,gz,aM,Y,Z,_,_⟩:=an;obtain⟨sv,ad,aQ,aO,gs,rfl,s,L⟩:=vn aw;obtain⟨ax,aa,aA,aR,aT,aU⟩:=au;obtain⟨G,aX,aY⟩:=ao.d7 x ap;rw[ax]at s;refine ay func271 ?_;refine bj λam J aZ A H=>?_;have H:ag J am cN [sv,Γ ad]:=by obtain⟨_,_,_,rfl⟩:=cE s;exact H
 refine aV (λv V=>Ext J V/\v= .bool sp) ?_ ?_
 rotate_left
 .intro az M;intro V q _ _;have z:=H.W q;rw[aK cN.p 1 z rfl,cV e8.u];simp only[l9,aW];rw[aK cN.p 1 z rfl,aN cH.p 1 (Y.W (A.F q)) rfl];refine(Nu (L.W (A.F q)).is).X ?_;rintro _ B _ ⟨rfl,a⟩;refine⟨.inl a,?_⟩;rw[bz,aj];refine⟨λh=>m7 aA h,λ_=>?_⟩;have C:=z.W a;have O:=q.F a;rw[aK cN.p 1 C rfl,aK cN.p 0 C rfl,aS ai.u (s.W (A.F O))];refine(Nv (L.W (A.F O)).is).X ?_;rintro _ K _ ⟨rfl,e⟩;refine⟨.inl e,?_⟩;rw[bz];refine M _ _ ⟨O.F e,?_⟩;rw[pl];intro h;exact h (by rw[aa,G.co,r9])
 rintro _ V ⟨q,rfl⟩;rw[aW];have z:=H.W q;have P:=A.F q;rw[aK cN.p 0 z rfl,aS ai.u (s.W P)];refine bT.range x.scope.length (λ_ _ B=>Ext V B) Ω (Ext.refl _) ?_ ?_
 rotate_left
 .rintro _ B k a;rw[aP,aj];exact⟨λh=>Ω,λ_=>⟨rfl,P.F a⟩⟩
 rintro i _ B k hi a hk;obtain⟨v,E⟩:=aC (l:=x.scope) hi;have a1:=G.scope.2 v (x5 E);have Q:=P.F a;have C:=z.W a;have ab:=Y.W Q;have aB:f.co[v.toNat]?=σ (f.co.getD v.toNat 0):=by
  rw[v8,x6 Ω];rfl
 refine bt Ω ?_;rw[ba ai.u ae.i Ψ (s.W Q) E];refine aV (λb K=>Ext B K/\b= .bool sp) ?_ ?_
 .rintro _ K ⟨e,rfl⟩;rw[aW,aL];exact hk _ _ (a.F e)
 .intro az M;intro K e _ _;have U:=Q.F e;refine b6 Ω ?_;rw[aN cH.p 2 (ab.W e) rfl,aS ai.u (Z.ls.W U),cJ,aj];refine⟨λh=>Ω,λ_=>?_⟩;rw[aK cN.p 0 (C.W e) rfl];refine(Ez (s.W U)).X ?_;rintro _ a2 _ ⟨ac,r,rfl,aD⟩;have aE:r=(i:Int):=(aD i E).2 λj a6 aF=>by have:=mQ G.scope.1 aF E;omega
  subst aE;have af:=U.F ac;have W:=e.F ac;rw[bz,aj];refine⟨λh=>m7 rfl h,λ_=>?_⟩;rw[aK cN.p 1 (C.W W) rfl,aN cH.p 2 (ab.W W) rfl];refine pD (y:=v) (i:=v.toNat) Ω ai.u ae.i (Z.ls.W af) aB λb o aG=>?_;rw[av Ψ aG];refine(yd (L.W af).is).X ?_;rintro a7 a8 _ ⟨al,bb,bc,aH⟩;refine⟨.inl al,?_⟩;have aI:d.2.szs[i]?=σ (f.co.getD v.toNat 0):=by
   rw[aa,G.co,x8,E];rfl
  rw[ba ai.u ae.i Ψ aH.ls aI,bz];exact M _ _ ⟨W.F al,by rw[pl (λh=>h rfl)]⟩
theorem Pp{f:ca}{d:iz}{x:cv}{m:Bool}{S R:ah}(q:mV w j f)(r:fb N f)(s:x∈f.d7)(y:sQ f.k x d)(a:aq.rep m S R w cs d):
  ak x7 xh [Γ j,.agg cs.toArray] w λv I=>v= .bool sp/\Ext w I:=by
 refine ay func214 ?_;refine bj λam J C e h=>?_;have z:cs.length=2:=aq.len a;have h:ag J am cN cs:=by
  obtain⟨sv,ad,E,aO,gs,rfl,A,G⟩:=vn a;obtain⟨_,_,_,rfl⟩:=cE A;exact h
 rw[bC cN.p cN.i z h.range];refine(Po (q.W e) r s y (bN a e)).X ?_;rintro _ V _ ⟨rfl,B⟩;rw[bA];exact⟨rfl,e.F B⟩
theorem Pq{f:ca}{r:x1}{e:List iz}{m:Bool}{S R:ah}(A:mV w j f)(B:fb N f)(q:aq.rep m S R w [r] e)(s:vk f.k f.d7 e):
  ak x7 Kq [r,.func (.func xh) #[Γ j] #[]] w λv I=>v= .bool sp/\Ext w I:=by
 refine ay func213 ?_;refine ak.X (K:=λv I=>v=Δ (-1)/\Ext w I) ?_ ?_
 .refine ay func270 ?_;rw[jf dM.u q];refine bT.range e.length (λ_ _ J=>Ext w J) (qP q) (Ext.refl _) ?_ ?_
  .rintro i _ J k hi a hk;refine bt Ω ?_;obtain⟨d,y⟩:=aC (l:=e) hi;obtain⟨x,z⟩:∃x,f.d7[i]?=σ x:=⟨_,x6 (by have:=s.1;omega)⟩;refine nM (α:=iz) cN.p rfl dM.u cN.i (bN q a) y λcs C=>?_;show ak x7 xh [Γ j,.agg cs.toArray] J _;refine(Pp (A.W a) B (x5 z) (s.2 i x d z y) C).X ?_;rintro _ V _ ⟨rfl,E⟩;rw[aW,aL];exact hk _ _ (a.F E)
  .rintro _ J k a;rw[aP,aj];exact⟨λh=>Ω,λ_=>⟨rfl,a⟩⟩
 .rintro _ J _ ⟨rfl,a⟩;rw[cJ];exact⟨rfl,a⟩
def nX(a:List cv):Nat:=(a.map λx=>x.lines.length).sum
theorem Pr{ag:Nat}{f:ca}(ah:mV w ag f)(r:fb N f)(be:N<=60000)(W:f.name≠[]/\∀b∈f.name,b7 b=rs):
  ak x7 Jx [Γ ag] w λv I=>Ext w I/\∃e:Int,v=Δ e/\(nX f.d7<=16384->e=0):=by
 obtain⟨d9,bf,gz,y,A,X,Y,B⟩:=id ah;have bg:=r.name;have aD:Bytes f.name:=λb aE=>by
  have:=ro (W.2 b aE);omega
 refine ay func129 ?_;rw[cV xl.u];simp only[l9,aW];refine aV (λv J=>Ext w J/\v= .bool sp) ?_ ?_
 rotate_left
 .intro az s;rw[aN cH.p 0 A rfl];refine(Pl aD Ω W.1 W.2).X ?_;rintro _ J _ ⟨rfl,q⟩;rw[bA,Y2,aW];rw[aN cH.p 2 (A.W q) rfl,aS ai.u (X.ls.W q),bi,aj];refine⟨λh=>by have:=r.co.1;omega,λ_=>?_⟩;rw[aN cH.p 2 (A.W q) rfl];refine(Pn (X.ls.W q) r.co.2.2).X ?_;rintro _ V _ ⟨rfl,C⟩;have al:=q.F C;rw[aW,aN cH.p 1 (A.W al) rfl];refine Ce.X ?_;rintro _ E _ ⟨rfl,G⟩;have O:=al.F G;rw[ms (show right f.k from r.k),bA,Y2,aW,aN cH.p 3 (A.W O) rfl,jX];refine(Pq (ah.W O) r (bN Y O) B).X ?_;rintro _ ap _ ⟨rfl,aF⟩;exact s _ _ ⟨O.F aF,rfl⟩
 rintro _ J ⟨q,rfl⟩;rw[aW];have P:=A.W q;refine aV (λv V=>J=V/\v= .bool sp) ?_ ?_
 rotate_left
 .intro az s;rw[aN cH.p 0 P rfl,pF da.u,bG,aj];refine⟨λh=>Ω,λ_=>?_⟩;rw[aN cH.p 2 P rfl,aS ai.u (X.ls.W q),bG,aj];refine⟨λh=>by have:=r.co.2.1;omega,λ_=>?_⟩;rw[aN cH.p 3 P rfl,jf dM.u (bN Y q),bG];exact s _ _ ⟨rfl,by rw[pl];have:=r.mO;have:=B.1;omega⟩
 rintro _ _ ⟨rfl,rfl⟩;have aq:=bN Y q;rw[aN cH.p 3 P rfl,jf dM.u aq];refine⟨λaG aH Z V=>∃i n:Nat,Z=Δ (i:Int)/\i<=y.length/\aG=Δ (n:Int)/\aH= .bool sp/\Ext J V/\n<=nX (f.d7.take i)/\n<=i*60000,λ_ _ Z _=>y.length-(b0 Z).toNat,
  ⟨0,0,rfl,X8 _,rfl,rfl,Ext.refl _,X8 _,Ω⟩,?_⟩
 rintro _ _ _ V ⟨i,n,rfl,hi,rfl,rfl,C,aI,bh⟩;have bj:y.length<=256:=by rw[B.1];exact r.mO
 rw[aP,aj];refine⟨λav=>?_,λbk=>?_⟩
 .have av:i<y.length:=Ω
  obtain⟨d,aw⟩:=aC (l:=y) av;obtain⟨x,aa⟩:∃x,f.d7[i]?=σ x:=⟨_,x6 (by have:=B.1;omega)⟩;have Q:=B.2 i x d aa aw;obtain⟨R,aJ,aM⟩:=r.d7 x (x5 aa);have bl:=R.len;refine jb (λa b E=>Ext V E/\a=Δ ((n+d.2.D.length:Nat):Int)/\b= .bool sp) ?_ ?_
  .rintro _ _ E ⟨G,rfl,rfl⟩;rw[aL,lm Ω Ω];have aQ:=Q.2.2.2.2.1;refine⟨⟨i+1,n+d.2.D.length,rfl,Ω,rfl,rfl,C.F G,?_,?_⟩,by simp only[b0];omega⟩
   .have e:nX (f.d7.take (i+1))=nX (f.d7.take i)+x.lines.length:=by
     unfold nX;rw[u5,aa,l7,n9,List.sum_append,U4,List.map_nil,List.sum_cons,List.sum_nil,Nat.add_zero]
    omega
   .have:(i+1)*60000=i*60000+60000:=Ω
    have bm:d.2.D.length<=60000:=Ω
    omega
  .intro az s;refine nM (α:=iz) cN.p rfl dM.u cN.i (bN aq C) aw λcs aR=>?_;obtain⟨sv,ad,bn,aO,gs,rfl,aT,ax⟩:=vn aR;refine bu cN.i λam E bo G aU=>?_;refine b4 (vs:=[sv,Γ ad]) cN.i rfl rfl (by intro v S;simp at S;rcases S with rfl|rfl<;>first|exact aT.cells.2|rfl) aU λap aX bp aA=>?_;have ab:Ext V ap:=G.put aX Ω;rw[aK cN.p 1 aA rfl];refine(Nt (ax.W ab).is).X ?_;rintro _ bq _ ⟨rfl,ac⟩;have aQ:=Q.2.2.2.2.1;rw[aL,lm Ω Ω,aK cN.p 1 (aA.W ac) rfl];refine(yd ((ax.W ab).W ac).is).X ?_;rintro br af _ ⟨aY,bs,bw,aB⟩;rw[aS ai.u aB.ls];have bx:d.2.szs.length<=6:=by rw[Q.2.1,R.co,r9];exact aJ
   refine bT.range d.2.szs.length (λj out U=>Ext af U/\∃gr,af.heap.size<=gr/\an .i64 ao U gr out (d.2.szs.take j)) Ω ⟨Ext.refl _,af.heap.size,o5 _,an.nil _ _ _ _⟩ ?_ ?_
   .rintro j out U k aZ ⟨H,gr,a1,K⟩ hk;obtain⟨z,L⟩:=aC (l:=d.2.szs) aZ;refine bt Ω ?_;rw[ba ai.u ae.i Ψ (aB.ls.W H) L];refine dl au.u ao.i rfl λa ga a2 bz M a6=>?_;refine iO au.u ao.i rfl (K.W M) a6.ls Θ Θ λbB a7 bC bD a8 bb=>?_;have bE:=H.size;have bF:=M.size;rw[aL];refine hk _ _ ⟨(H.F M).put bb Ω,a7,Ω,?_⟩;rw[u5,L];exact a8
   .rintro out U k ⟨H,gr,a1,K⟩;rw[p8]at K;refine b6 Ω ?_;rw[aW];have bc:d.2.szs=x.co:=Q.2.1;rw[bc]at K;refine(Dp K.ls λz L=>?_).X ?_
    .rw[R.co]at L;obtain⟨v,S,rfl⟩:=o8.1 L;have bH:=R.scope.2 v S;refine(r.co.2.2 _ ?_).1;rw[v8,x6 Ω];exact T0 _
    .rintro _ a2 _ ⟨rfl,M⟩;refine s _ _ _ ⟨(((ab.F ac).F aY).F H).F M,by congr 1,by rw[aM]⟩
 .have bd:i=y.length:=Ω
  subst bd;rw[B.1,p8]at aI;refine aV (λv E=>V=E/\v= .bool (decide (16384<(n:Int)))) ?_ ?_
  .rintro _ _ ⟨rfl,rfl⟩;rw[aj];refine⟨λh=>⟨q.F C,5,rfl,λbI=>Ω⟩,λh=>⟨q.F C,0,rfl,λ_=>rfl⟩⟩
  .intro az s;rw[aW,bG];exact s _ _ ⟨rfl,rfl⟩
theorem vo:∀{a b:Λ}{i:Nat},(∀(j:Nat)(x y:Int),j<i->a[j]?=σ x->b[j]?=σ y->x=y)->i<=a.length->i<=b.length->jH a b=jH (a.drop i) (b.drop i)
 |_,_,0,_,_,_=>Ξ
 |[],_,i+1,_,h,_=>by simp at h
 |_::_,[],i+1,_,_,h=>by simp at h
 |x::a,y::b,i+1,he,h1,e=>by
  have f:=he 0 x y Ω rfl rfl;subst f;simp only[jH,Int.lt_irrefl,if_false,List.drop_succ_cons];exact vo (λj u v r p q=>he (j+1) u v Ω p q) (by simpa using h1) (by simpa using e)
theorem EH{x:Int}:ak x7 cmp_isNaN_int [Δ x] w λv I=>v= .bool sp/\Ext w I:=by
 refine ay func227 ?_;simp only[bz];exact⟨Ξ,Ext.refl _⟩
theorem EI{x:Int}:ak x7 JE [Δ x,Δ y] w λv I=>v=Δ (if x<y then-1 else if y<x then 1 else 0)/\Ext w I:=by
 refine ay func141 ?_;refine EH.X ?_;rintro _ J _ ⟨rfl,a⟩;refine EH.X ?_;rintro _ V _ ⟨rfl,e⟩;simp only[aW,aP,bG,aj];exact⟨λh=>⟨by rw[m5 h],a.F e⟩,λh=>⟨λf=>⟨by rw[m6 h,m5 f],a.F e⟩,λf=>⟨by rw[m6 h,m6 f],a.F e⟩⟩⟩
theorem Ps{a b:Λ}(r:aF .i64 w bp a)(z:aF .i64 w bv b):ak x7 JF [bp,bv] w λv I=>v=Δ (jH a b)/\Ext w I:=by
 refine ay func142 ?_;have aa:=r.le;rw[aS ai.u r];refine⟨λ_ A J=>∃i:Nat,A=Δ (i:Int)/\i<=a.length/\i<=b.length/\Ext w J/\∀(j:Nat)(x y:Int),j<i->a[j]?=σ x->b[j]?=σ y->x=y,λ_ A _=>a.length-(b0 A).toNat,⟨0,rfl,X8 _,X8 _,Ext.refl _,λj x y P=>Ω⟩,?_⟩;rintro _ _ J ⟨i,rfl,Q,R,f,K⟩;have p:=vo K Q R;simp only[aP,aj];refine⟨λs=>?_,λab=>?_⟩
 .have s:i<a.length:=Ω
  obtain⟨x,B⟩:=aC (l:=a) s;have L:a.drop i=x::a.drop (i+1):=by rw[X0 s,(x4.1 B).2]
  rw[ba ai.u ae.i Ψ (r.W f) B,aS ai.u (z.W f)];simp only[cJ,aj];refine⟨λh=>?_,λh=>?_⟩
  .have:b.drop i=[]:=by rw[List.drop_eq_nil_iff];omega
   rw[this,L]at p;exact⟨by rw[p];rfl,f⟩
  have C:i<b.length:=Ω
  obtain⟨y,E⟩:=aC (l:=b) C;have S:b.drop i=y::b.drop (i+1):=by rw[X0 C,(x4.1 E).2]
  rw[ba ai.u ae.i Ψ (z.W f) E];refine EI.X ?_;rintro _ V _ ⟨rfl,M⟩;rw[L,S]at p;simp only[jH]at p;simp only[bz,aj,aL];refine⟨λN=>⟨?_,f.F M⟩,λU=>?_⟩
  .rw[p];by_cases h1:x<y
   .rw[m5 h1,m5 h1]
   .by_cases q:y<x
    .rw[m6 h1,m5 q,m6 h1,m5 q]
    .rw[m6 h1,m6 q]at N;exact m7 rfl N
  .rw[lm Ω Ω];refine⟨⟨i+1,rfl,s,C,f.F M,λj W X P G H=>?_⟩,by simp only[b0];omega⟩;by_cases Y:j=i
   .subst Y;rw[B]at G;rw[E]at H;cases G;cases H;have O:=Z2.1 U;by_cases h1:x<y
    .rw[m5 h1]at O;omega
    .by_cases q:y<x
     .rw[m6 h1,m5 q]at O;omega
     .omega
   .exact K j W X Ω G H
 .have Z:i=a.length:=Ω
  subst Z;rw[List.drop_length]at p;rw[aS ai.u (r.W f),aS ai.u (z.W f)];simp only[aP,aj];refine⟨λh=>⟨?_,f⟩,λh=>⟨?_,f⟩⟩
  .obtain⟨y,l,e⟩:∃y l,b.drop a.length=y::l:=⟨_,_,X0 Ω⟩;rw[p,e];rfl
  .have:b.drop a.length=[]:=by rw[List.drop_eq_nil_iff];omega
   rw[p,this];rfl
theorem Pt{x:Int}{f:x1}(h:aF .i64 w f [x,y]):ak x7 JD [f] w λv I=>v=Δ (if x≠0 then x else y)/\Ext w I:=by
 refine ay func140 ?_;rw[aS ai.u h];refine bT.range 2 (λi _ J=>Ext w J/\(1<=i->x=0)/\(2<=i->y=0)) Ω ⟨Ext.refl _,Ω,Ω⟩ ?_ ?_
 .rintro i _ J k hi ⟨a,h1,e⟩ hk;rw[aP,aj];refine⟨λ_=>?_,λh=>by simp at h;omega⟩
  match i,hi,h1,e,hk with
  |0,_,h1,e,hk=>
   rw[ba ai.u ae.i Ψ (h.W a) rfl,bz,aj];refine⟨λj=>⟨by rw[m5 j],a⟩,λhe=>?_⟩;rw[aL];exact hk _ _ ⟨a,λ_=>Z2.1 he,λh=>Ω⟩
  |1,_,h1,e,hk=>
   rw[ba ai.u ae.i Ψ (h.W a) rfl,bz,aj];have p:=h1 (o5 _);refine⟨λj=>⟨by rw[m6 Ω],a⟩,λhe=>?_⟩;rw[aL];exact hk _ _ ⟨a,λ_=>p,λ_=>Z2.1 he⟩
 .rintro _ J k ⟨a,h1,e⟩;have p:=h1 Ω;have q:=e Ω;rw[aP,aj];exact⟨λh=>by simp at h,λ_=>⟨by rw[m6 Ω,q],a⟩⟩
structure cr where
 sv:x1
 g:Nat
 sc:Λ
 cs:Λ
def fd(h:cr):List x1:=[h.sv,Γ h.g]
abbrev lq(h:cr):x1:=.agg (fd h).toArray
def sS(h:cr):Int:=dm h.sc
def ka(w:x3)(a:Nat)(h:cr):Prop:=(∃e,an .i64 ae w e h.sv h.sc)/\(∀r,li h.sv r->r≠a)/\lV h.sc
theorem ka.aa{h:cr}(ap:ka w a h)(e:af S w I)(f:∀r,li h.sv r->¬S r):ka I a h:=by
 obtain⟨⟨j,hm⟩,p⟩:=ap;exact⟨⟨j,bl hm e f⟩,p⟩
theorem ka.one{e:Nat}{h:cr}(ap:ka w e h):∀u∈fd h,u.oneCell'=rs:=by
 obtain⟨⟨f,hm⟩,_⟩:=ap;intro u a;simp[fd]at a;rcases a with rfl|rfl
 .exact hm.ls.cells.2
 .rfl
def fk(w:x3)(g:Nat)(v:x1)(L:List cr):Prop:=bm fd 2 c4 w g v L/\∀h∈L,ka w g h
theorem fk.W{g:Nat}{L:List cr}(h:fk w g v L)(a:Ext w I):fk I g v L:=⟨h.1.W a,λx e=>(h.2 x e).aa (a.aa λ_=>False) λ_ _ h=>h⟩
theorem fk.at{g:Nat}{L:List cr}(h:fk w g v L){i:Nat}{x:cr}(hi:L[i]?=σ x):ka w g x:=h.2 x (x5 hi)
theorem vp{g:Nat}{L:List cr}{i:Nat}{x:cr}{K:x1->Prop}(a:y=(i:Int))(h:fk w g v L)(hi:L[i]?=σ x):
  ab x7 (j0 gE v (Δ y)) w (λp=>ab x7 (u4 c4 p) w K)=K (lq x):=by
 rw[c5 a gE.u c4.i h.1 (x4.1 hi).1,bC c4.p c4.i rfl (h.1.range hi)]
theorem Pu{g:Nat}{L:List cr}{i:Nat}{x:cr}{K:Unit->x3->Prop}(j:y=(i:Int))(h:fk w g v L)(hi:i<L.length)(hk:ka w g x)(q:∀I,af (λr=>lc v r) w I->fk I g v (L.set i x)->K () I):ab x7 (j0 gE v (Δ y)) w λp=>aD x7 (o6 c4 p (lq x)) w K:=by
 rw[c5 j gE.u c4.i h.1 hi];refine Nw c4.i h.1 rfl hk.one hi λI e _ bf=>q I e ⟨bf,λz a=>?_⟩;rcases T4 a with a|rfl
 .exact (h.2 z a).aa e λr f he=>(h.2 z a).2.1 r f (h.1.li he).1
 .exact hk.aa e λr f he=>hk.2.1 r f (h.1.li he).1
abbrev Pv:x1:=.func (.func BE) #[] #[]
def yC(a b:cr):Int:=let c:Int:=if(a.sc.length:Int)<b.sc.length then-1 else if(b.sc.length:Int)<a.sc.length then 1 else 0
 if c≠0 then c else jH a.sc b.sc
theorem Pw{a b:cr}(f:lV a.sc)(j:lV b.sc):yC a b<0↔sS a<sS b:=by
 have p:=(yq f j).1;unfold sS yC;simp only;generalize q:(if(a.sc.length:Int)<b.sc.length then(-1:Int)else if(b.sc.length:Int)<a.sc.length then 1 else 0)=c;rw[p,<-q];by_cases h1:(a.sc.length:Int)<b.sc.length
 .rw[m5 h1,m5 Ω];exact⟨λ_=>.inl Ω,λ_=>Ω⟩
 .by_cases e:(b.sc.length:Int)<a.sc.length
  .rw[m6 h1,m5 e,m5 Ω];exact⟨λh=>Ω,λh=>by rcases h with h|h<;>omega⟩
  .rw[m6 h1,m6 e,m6 Ω];exact⟨λh=>.inr ⟨Ω,h⟩,λh=>by rcases h with h|h;omega;exact h.2⟩
theorem Px{y:Nat}{a b:cr}(A:ka w y a)(B:ka w y b):ak x7 BE [lq a,lq b] w λv I=>Ext w I/\v=Δ (yC a b):=by
 obtain⟨⟨ga,r⟩,_,M⟩:=A;obtain⟨⟨N,s⟩,_,O⟩:=B;refine ay func139 ?_;refine bj λg1 J P C h=>?_;refine bj λE V Q z j=>?_;have h:ag J g1 c4 [a.sv,Γ a.g]:=by
  obtain⟨_,_,_,e⟩:=cE r.ls;simp only[lq,fd,e]at h ⊢;exact h
 have j:ag V E c4 [b.sv,Γ b.g]:=by
  obtain⟨_,_,_,e⟩:=cE s.ls;simp only[lq,fd,e]at j ⊢;exact j
 intro R x _ _;have f:=(C.F z).F x;have f1:=(h.W z).W x;have f2:=j.W x;rw[aK c4.p 0 f1 rfl,aS ai.u (r.ls.W f),aK c4.p 0 f2 rfl,aS ai.u (s.ls.W f),
  aK c4.p 0 f1 rfl,aK c4.p 0 f2 rfl]
 refine EI.X ?_;rintro _ S _ ⟨rfl,q⟩;refine⟨.inl q,?_⟩;refine(Ps ((r.ls.W f).W q) ((s.ls.W f).W q)).X ?_;rintro _ U _ ⟨rfl,G⟩;refine sj (l:=[if(a.sc.length:Int)<b.sc.length then(-1:Int)else if(b.sc.length:Int)<a.sc.length then 1 else 0,jH a.sc b.sc]) ai.u ae.i Ω rfl Ψ λW X Y Z H K=>?_;refine(Pt K.ls).X ?_;rintro _ aa _ ⟨rfl,L⟩;exact⟨((((f.F q).F G).F H).F L),rfl⟩
theorem Py{g:Nat}{L:List cr}(h:fk w g v L)(E:L.length<65536):
  ak x7 JC [v,Pv] w λ_ I=>af (λr=>lc v r) w I/\∃M,M.Perm L/\u1 sS M 0 M.length/\fk I g v M:=by
 have j:∀{s:x3}{a:cr},af (λr=>r=g) w s->ka w g a->ka s g a:=λf e=>e.aa f λr z he=>e.2.1 r z he;refine(DO NG (G:=ka w g) (num:=sS) NM NN (λa e=>e.one) (λa _=>rfl) (λa b e A=>Pw e.2.2 A.2.2) (Enters.of x7 NO rfl Ψ) h.1 h.2 E λs a b f e A=>Px (j f e) (j f A)).X ?_;rintro _ I _ ⟨f,M,C,H,hm⟩;have J:af (λr=>r=g) w I:=f.X λr _ z=>(h.1.li z).1;exact⟨f,M,C,λp q x y _ K _ B N=>H p q x y K B N,hm,λx B=>j J (h.2 x (C.mem_iff.1 B))⟩
theorem Pz{m:Λ}(h:nV l)(a:l.Nodup)(e:m.Perm l)(U:m.Pairwise (·<= ·)):m=bB l:=by
 refine ys ?_ (yp l) λx=>?_
 .have f:=e.nodup_iff.2 a;exact(List.Pairwise.and U f).imp Ω
 grind [Ec]
theorem PA(h:∀z∈l,1<=z/\z<=32)(a:dH l=sp):aB l<=4096:=by
 have:=of_decide_eq_false a
 grind [yv]
theorem PB{f:ca}{d:iz}{x:cv}{m:Bool}{S R:ah}(h:fb N f)(bh:N<=60000)(P:x∈f.d7)(ax:sQ f.k x d)(az:aq.rep m S R w cs d):
  ak x7 Jy [.agg cs.toArray] w λv I=>Ext w I/\∃sv gs E Q W,v= .tuple #[sv,Γ E]/\w.heap.size<=gs/\an .i64 ae I gs sv (bB x.scope)/\cd I E Q W (aA f.co (bB x.scope)) f.k (jD f.co f.k x).2:=by
 obtain⟨sv,ad,bi,aO,bk,rfl,G,aB⟩:=vn az;obtain⟨aD,aE,aF,bl,bm,aG⟩:=ax;obtain⟨a,aH,aI⟩:=h.d7 x P;have Z:=vc a h.co.2.1;have bp:=a.len;rw[aD]at G;have aJ:∀z∈x.co,1<=z/\z<=32:=λz ab=>by
  rw[a.co]at ab;obtain⟨v,aM,rfl⟩:=o8.1 ab;have bq:=a.scope.2 v aM;refine h.co.2.2 _ ?_
  grind
 have aN:=PA aJ aI;have X:=vb Z a.scope.1;have br:(bB x.scope).length<=6:=by rw[X.length_eq];exact aH
 refine ay func130 ?_;refine bj λam J bs ac y=>?_;have y:ag J am cN [sv,Γ ad]:=by obtain⟨_,_,_,rfl⟩:=cE G;exact y
 rw[aK cN.p 1 y rfl];refine(Et (aB.W ac).is Ω).X ?_;rintro _ V _ ⟨Y,_,A⟩;rw[aE]at A;obtain⟨g,bu,bw,aP,rfl,bx,bz,A,aj⟩:=A aN;rw[aF]at A;rw[bn,bo,aK cN.p 0 (y.W Y) rfl];have B:=ac.F Y;refine yx (G.W B) Ω λv bA gs bC H bD aQ U K=>?_;have aR:=Pz Z a.scope.1 aQ U;subst aR;have bE:=B.size;rw[aS ai.u K.ls];refine jy ai.u ae.i Ω Ω λgo aT bF L al=>?_;have bG:=an.of (bW.full (n:=(bB x.scope).length) al Ξ (by simp[maxLen];omega));rw[aS ai.u (K.ls.W L)];have bH:=al.lt;have bI:(gn x.scope (bB x.scope)).length=(bB x.scope).length:=by simp[gn]
 have aU:=H.F L;have bJ:=B.F aU;refine ce.range (bB x.scope).length (λi M=>af (λr=>r=go) aT M/\an .i64 ae M go (.slice (σ ⟨go,0,ν⟩) (bB x.scope).length (bB x.scope).length) ((gn x.scope (bB x.scope)).take i++u9 ((bB x.scope).length-i) 0)) Ω (by grind [af.refl]) ?_ ?_
 .rintro i M k hi ⟨O,C⟩ hk;obtain⟨v,ao⟩:=aC (l:=(bB x.scope)) hi;have q:=L.put O Ω;have aV:=(B.F H).F q;have aW:v∈x.scope:=X.mem_iff.1 (x5 ao);refine bt Ω ?_;rw[ba ai.u ae.i Ψ (K.ls.W q) ao];have aX:=(Y.F H).F q;rw[aK cN.p 0 (y.W aX) rfl];refine(Ez (G.W aV)).X ?_;rintro _ aY _ ⟨s,r,rfl,aZ⟩;have ap:=vf aW;have bK:=(aZ _ ap).2 λj bL a1=>by have:=mQ a.scope.1 a1 ap;omega
  rw[gb rfl ai.u ae.i (C.W s) (by grind)];refine gd ae.i (C.W s) (by grind) λbM a2 bN bO=>?_;rw[aL];refine hk _ ⟨(O.F (s.aa _)).F a2,?_⟩;have a6:(gn x.scope (bB x.scope))[i]?=σ r:=by grind [Oz]
  have e:((gn x.scope (bB x.scope)).take i++u9 ((bB x.scope).length-i) 0).set i r=(gn x.scope (bB x.scope)).take (i+1)++u9 ((bB x.scope).length-(i+1)) 0:=by
   have a7:((gn x.scope (bB x.scope)).take i).length=i:=by grind
   rw[S7 _ _ Ω,a7,U1,show(bB x.scope).length-i=((bB x.scope).length-(i+1))+1 by omega,List.replicate_succ,List.set_cons_zero,u5,a6,l7,Y7];rfl
  grind
 .rintro M k ⟨O,C⟩;have q:=L.put O Ω;have au:=H.F q;refine b6 Ω ?_;rw[U1,List.replicate_zero,V2,o7 Ω]at C;have a8:∀t,cW x.co t->bd x.co aP t=lh x f.k t:=λt bb=>by rw[aj.2 t bb];exact aG t
  obtain⟨av,bc⟩:=OB h P aj.1 a8;have be:Good (gn x.scope (bB x.scope)) x.co.length:=by
   rw[a.co,r9];exact vg a.scope.1 X
  have bf:=(rj h P);refine(Ph (A.W au) h.k C.ls Ω λ_=>?_).X ?_
  .rw[av];exact bf.small
  .rintro _ aY _ ⟨s,_,bg⟩;obtain⟨E,Q,W,rfl,aw⟩:=bg be;rw[bn,bo];rw[av,bc]at aw;exact⟨(B.F au).F s,v,gs,E,Q,W,rfl,Ω,(K.W q).W s,aw⟩
theorem PC{P:X2}{t x f:r8}{k y g o cap:Nat}(h:P.underlying t=σ (.slice e))(hi:aR P e k y z)(A:z.cells.size=k)(h1:∀u∈dV z.cells (n*k),u.oneCell'=rs)(a:ag w g f cs)(H:o+n*k<=cs.length)(p:∀I,af (λr=>r=g) w I->ag I g f (over cs o (dV z.cells (n*k)))->K (.tuple #[]) I):aD P (j5.clear_ #[t] x #[.slice (σ ⟨g,o,ν⟩) n cap]) w K:=by
 obtain⟨i,hi,J,rfl,B⟩:=hi;have C:∀w,(zeroValue e).run P w= .ok z w:=λw=>by simp[zeroValue,typeInfo,hi,B]
 have E:(S1 z.cells n).toList=dV z.cells (n*k):=by
  unfold S1 dV;rw[A]
 have q:=run_storeCells_cells (P:=P) g o (dV z.cells (n*k)) 0 w (λj F=>by
   rw[qN]at F;rw[Nat.add_zero,a.cell (x6 (show o+j<cs.length by omega))];rfl) (λj _=>a.frozen _ _) h1
 simp only[Nat.add_zero]at q;obtain⟨G,s⟩:=nH (dV z.cells (n*k)) cs o w a;rcases Nat.eq_zero_or_pos n with rfl|L
 .refine .of (by simp[j5.clear_,run_underlying h]) (cA.refl _) (p w (af.refl _ _) ?_);rw[Nat.zero_mul,c9 (qN z.cells 0)];exact a
 .obtain⟨m,rfl⟩:∃m,n=m+1:=⟨n-1,Ω⟩;refine .of (by simp[j5.clear_,run_underlying h,C,E,q]) (s.cB a) (p _ s.aa G)
theorem dJ{α:Type}{f:α->List x1}{k:Nat}{g:Nat}{L:List α}(h:bm f k e w g v L)(j:lc v r):r=g/\∃cs,ag w g e cs:=by
 obtain⟨_,⟨rfl,_⟩|⟨cap,cs,rfl,p,_⟩⟩:=h.1
 .exact (gl j).elim
 .obtain⟨a,n,c,h1,q⟩:=j;cases h1;exact⟨q.symm,cs,p⟩
theorem PD{α:Type}{f:α->List x1}{k:Nat}{g:Nat}{L:List α}(h:bm f k e w g v L)(a:L≠[]):∃cs n c,v= .slice (σ ⟨g,0,ν⟩) n c/\ag w g e cs:=by
 obtain⟨_,⟨rfl,j⟩|⟨cap,cs,rfl,p,_⟩⟩:=h.1
 .exact m7 (c9 j) a
 .exact⟨cs,_,_,rfl,p⟩
theorem fk.mk{g:Nat}{L:List cr}(h:bm fd 2 c4 w g v L)(e:∀x∈L,(∃f,an .i64 ae w f x.sv x.sc)/\lV x.sc):fk w g v L:=by
 refine⟨h,λx a=>⟨(e x a).1,λr j=>?_,(e x a).2⟩⟩;obtain⟨cs,n,c,_,p⟩:=PD h (λq=>by rw[q]at a;cases a);obtain⟨⟨f,hm⟩,_⟩:=e x a;exact ch hm p Φ j
def Sem(w:x3)(k:Int)(co:Λ)(L:List cr):Prop:=∀x∈L,∃a e,cd w x.g a e (aA co x.sc) k x.cs
theorem yD{g p:Nat}{q:x1}{cs:Λ}(h:cd w g p q szs k cs)(e:af S w I)(f:∀r,S r->∃c,ag w r c4 c):cd I g p q szs k cs:=by
 obtain⟨⟨aY,gs,h1,s,x⟩,y⟩:=h;refine⟨⟨aY,gs,h1.aa e λU=>?_,bl s e λr j U=>?_,bl x e λr j U=>?_⟩,y⟩
 .obtain⟨c,a⟩:=f g U;unfold ag at h1 a;rw[h1]at a;have:=(Obj.cells.inj (Z7 a)).2.1;exact m7 this Φ
 .obtain⟨c,a⟩:=f r U;exact ch s a Φ j rfl
 .obtain⟨c,a⟩:=f r U;exact ch x a Φ j rfl
theorem Sem.W{L:List cr}(h:Sem w k co L)(a:Ext w I):Sem I k co L:=λx e=>by
 obtain⟨f,j,p⟩:=h x e;exact⟨f,j,p.W a⟩
theorem Sem.row{L M:List cr}{g:Nat}(h:Sem w k co L)(a:fk w g v M)(e:af (λr=>lc v r) w I):Sem I k co L:=λx f=>by
 obtain⟨j,p,q⟩:=h x f;exact⟨j,p,yD q e λr s=>by obtain⟨rfl,c,y⟩:=dJ a.1 s;exact⟨c,y⟩⟩
def ec(h:cr):cZ:=(h.sc,h.cs)
theorem PE{c:Int}:ak x7 xb [Δ c] w λv I=>v= .bool (decide (0<c))/\Ext w I:=by
 refine ay func136 ?_;rw[bG];exact⟨rfl,Ext.refl _⟩
theorem PF(h:aF .i64 w sv l):
  ak x7 JA [sv,.func (.func xb) #[] #[]] w λv I=>v= .bool (l.any λc=>decide (0<c))/\Ext w I:=by
 refine ay func135 ?_;refine ak.X (K:=λv I=>Ext w I/\∃r:Int,v=Δ r/\(0<=r↔ ∃c∈l,0<c)) ?_ ?_
 .refine ay func224 ?_;rw[aS au.u h];refine bT.range l.length (λi _ J=>Ext w J/\∀c∈l.take i,¬0<c) h.le ⟨Ext.refl _,λc a=>by simp at a⟩ ?_ ?_
  .rintro i _ J k hi ⟨e,j⟩ hk;refine bt Ω ?_;obtain⟨x,p⟩:=aC (l:=l) hi;rw[ba au.u ao.i Ψ (h.W e) p];show ak x7 xb [Δ x] J _;refine PE.X ?_;rintro _ V _ ⟨rfl,q⟩;rw[aj];refine⟨λf=>⟨e.F q,i,rfl,⟨λ_=>⟨x,x5 p,f⟩,λ_=>Ω⟩⟩,λs=>?_⟩;rw[aL];refine hk _ _ ⟨e.F q,λc a=>?_⟩;rw[u5,p]at a;rcases o9.1 a with a|a
   .exact j c a
   .simp at a;subst a;exact s
  .rintro _ J k ⟨e,j⟩;rw[p8]at j;rw[aP,aj];exact⟨λh=>Ω,λ_=>⟨e,-1,rfl,⟨λh=>Ω,λ⟨c,a,f⟩=>m7 f (j c a)⟩⟩⟩
 .rintro _ J _ ⟨e,r,rfl,y⟩;rw[cJ];refine⟨?_,e⟩;congr 1;rw[U5,rc,List.any_eq_true,y];exact⟨λ⟨c,a,f⟩=>⟨c,a,ms f⟩,λ⟨c,a,f⟩=>⟨c,a,ro f⟩⟩
theorem EJ{h:Nat}{x:cr}{q:x1}(r:ka w h x)(s:cd w x.g j q szs k x.cs):ak x7 r4 [lq x] w λv I=>v= .bool (!gh (ec x))/\Ext w I:=by
 obtain⟨⟨B,hm⟩,_⟩:=r;refine ay func134 ?_;refine bj λam J C f a=>?_;have a:ag J am c4 [x.sv,Γ x.g]:=by
  obtain⟨_,_,_,e⟩:=cE hm.ls;simp only[lq,fd,e]at a ⊢;exact a
 rw[aK c4.p 1 a rfl];refine(nP (s.W f)).X ?_;rintro E V _ ⟨y,G,H,z⟩;refine(PF z.ls).X ?_;rintro _ K _ ⟨rfl,A⟩;rw[bA];exact⟨rfl,(f.F y).F A⟩
theorem PG{g:Nat}{L:List cr}(h:fk w g v L)(U:Sem w k co L):
  ak x7 BC [v,.func (.func r4) #[] #[]] w λr I=>Ext w I/\((r=Δ (-1)/\∀x∈L,gh (ec x)=rs)\/∃i:Nat,r=Δ (i:Int)/\i<L.length/\(∀x∈L.take i,gh (ec x)=rs)/\∀x,L[i]?=σ x->gh (ec x)=sp):=by
 refine ay func131 ?_;rw[eI gE.u h.1];refine bT.range L.length (λi _ J=>Ext w J/\∀x∈L.take i,gh (ec x)=rs) h.1.le ⟨Ext.refl _,λc a=>by simp at a⟩ ?_ ?_
 .rintro i _ J k hi ⟨e,f⟩ hk;refine bt Ω ?_;obtain⟨x,j⟩:=aC (l:=L) hi;rw[vp rfl (h.W e) j];show ak x7 r4 [lq x] J _;obtain⟨B,C,s⟩:=U x (x5 j);refine(EJ ((h.W e).at j) (s.W e)).X ?_;rintro _ V _ ⟨rfl,p⟩;rw[bM];refine⟨λz=>⟨e.F p,.inr ⟨i,rfl,hi,f,λy q=>by rw[j]at q;cases q;simpa using z⟩⟩,λA=>?_⟩;rw[aL];refine hk _ _ ⟨e.F p,λc a=>?_⟩;rw[u5,j]at a;rcases o9.1 a with a|a
  .exact f c a
  .simp at a;subst a;simpa using A
 .rintro _ J k ⟨e,f⟩;rw[p8]at f;rw[aP,aj];exact⟨λh=>Ω,λ_=>⟨e,.inl ⟨rfl,f⟩⟩⟩
def gu(x:cr):Bool:=gh (ec x)
theorem yE{L:List cr}{x:cr}(a:L[j]?=σ x):(L.take (j+1)).filter gu=if gu x=rs then(L.take j).filter gu++[x]else(L.take j).filter gu:=by
 rw[u5,a,l7,List.filter_append];by_cases h:gu x=rs
 .rw[m5 h];simp[h]
 .rw[m6 h];simp[h]
theorem EK{z:Array x1}(e:0<z.size)(h:∀u∈z.toList,u.oneCell'=rs):∀u∈dV z n,u.oneCell'=rs:=λu a=>by
 unfold dV at a;rw[Array.toList_map,o8]at a;obtain⟨i,_,rfl⟩:=a;have f:i % z.size<z.size:=Nat.mod_lt _ e;rw[getElem!_pos z (i % z.size) f];exact h _ Ξ
theorem PH{g:Nat}{L:List cr}(h:fk w g v L)(U:Sem w k co L)(bb:L.length<=100000):
  ak x7 JB [v,.func (.func r4) #[] #[]] w λf I=>af (λr=>lc v r) w I/\fk I g f (L.filter gu)/\∀r,lc f r->lc v r:=by
 refine ay func137 ?_;refine(PG h U).X ?_;rintro r J _ ⟨G,q⟩;rcases q with⟨rfl,P⟩|⟨Q,rfl,aw,P,ax⟩
 .rw[bi,aj];refine⟨λ_=>⟨G.aa _,?_,λr q=>q⟩,λh=>m7 rfl h⟩;rw[List.filter_eq_self.2 (show∀x∈L,gu x=rs from P)];exact h.W G
 rw[bi,aj];refine⟨λh=>Ω,λ_=>?_⟩;rw[aL,lm Ω Ω];obtain⟨R,ad⟩:=aC (l:=L) aw;refine⟨λS W V=>∃(i j:Nat)(M:List cr),S=Δ (i:Int)/\W=Δ (j:Int)/\i<j/\j<=L.length/\M.length=L.length/\M.take i=(L.take j).filter gu/\M.drop j=L.drop j/\(∀x∈M,x∈L)/\fk V g v M/\af (λr=>lc v r) w V,
  λ_ W _=>L.length-(b0 W).toNat,⟨Q,Q+1,L,rfl,by congr 1,Ω,Ω,rfl,?_,rfl,λx s=>s,h.W G,G.aa _⟩,?_⟩
 .have aA:¬gu R=rs:=by rw[show gu R=sp from ax R ad];simp
  rw[yE ad,m6 aA,List.filter_eq_self.2 (show∀x∈L.take Q,gu x=rs from P)]
 rintro _ _ V ⟨i,j,M,rfl,rfl,bc,bd,ae,A,ag,ah,e,H⟩;have aB:Sem V k co L:=U.row h H;rw[eI gE.u e.1,aP,aj];refine⟨λX=>?_,λbe=>?_⟩
 .have X:j<L.length:=Ω
  obtain⟨x,s⟩:=aC (l:=L) X;have K:M[j]?=σ x:=by
   have h1:(M.drop j)[0]?=(L.drop j)[0]?:=by rw[ag]
   rw[List.getElem?_drop,List.getElem?_drop,Nat.add_zero]at h1;rw[h1,s]
  have ai:M.drop (j+1)=L.drop (j+1):=by
   have h1:(M.drop j).drop 1=(L.drop j).drop 1:=by rw[ag]
   rw[List.drop_drop,List.drop_drop]at h1;exact h1
  refine aV (λS N=>∃(C:Nat)(z:List cr),S=Δ (C:Int)/\C<j+1/\z.length=L.length/\z.take C=(L.take (j+1)).filter gu/\z.drop (j+1)=L.drop (j+1)/\(∀x∈z,x∈L)/\fk N g v z/\af (λr=>lc v r) w N) ?_ ?_
  .rintro _ N ⟨C,z,rfl,h1,Y,aE,aF,aG,aH,aI⟩;rw[aL,lm Ω Ω];exact⟨⟨C,j+1,z,rfl,rfl,h1,X,Y,aE,aF,aG,aH,aI⟩,by simp only[b0];omega⟩
  .intro az al;rw[vp rfl e K];refine bu c4.i λam N bf aJ aK=>?_;refine b4 (vs:=fd x) c4.i rfl rfl (e.at K).one aK λaM aN bg an=>?_;have Z:=aJ.put aN Ω;rw[bC c4.p c4.i rfl an.range];show ak x7 r4 [lq x] aM _;obtain⟨bh,bj,aO⟩:=aB x (x5 s);refine(EJ ((e.W Z).at K) (aO.W Z)).X ?_;rintro _ bk _ ⟨rfl,ao⟩;have E:=Z.F ao;rw[bA,Bool.not_not,bM];refine⟨λhk=>?_,λaQ=>?_⟩
   .rw[bC c4.p c4.i rfl (an.W ao).range];refine Pu rfl (e.W E) Ω ((e.W E).at K) λbl aR aS=>?_;rw[aL,lm Ω Ω];refine al _ _ ⟨i+1,M.set i x,rfl,Ω,by simp[ae],?_,?_,λy B=>?_,aS,(H.F (E.aa _)).F aR⟩
    .have ac:gu x=rs:=hk;rw[yE s,m5 ac,u5,Z5 Ω,l7,List.take_set_of_le (o5 _),A]
    .rw[List.drop_set_of_lt Ω,ai]
    .rcases T4 B with B|rfl
     .exact ah y B
     .exact x5 s
   .have ac:¬gu x=rs:=by rw[show gu x=sp from aQ];simp
    exact al _ _ ⟨i,M,rfl,Ω,ae,by rw[yE s,m6 ac,A],ai,ah,e.W E,H.F (E.aa _)⟩
 .have aT:j=L.length:=Ω
  subst aT;rw[p8]at A;obtain⟨⟨bm,aU⟩,ap⟩:=e.1;rcases aU with⟨_,bn⟩|⟨cap,cs,aW,aX,bo,aY,aZ,a1⟩
  .omega
  subst aW;have a2:(ab x7 (V6 gE (.slice (σ ⟨g,0,ν⟩) M.length cap) (σ (Δ (i:Int))) ν ν) V λa6=>
    aD x7 (j5.clear_ #[gE] Lo #[a6]) V λu O=>
    ab x7 (V6 gE (.slice (σ ⟨g,0,ν⟩) M.length cap) ν (σ (Δ (i:Int))) ν) O λa7=>
    (λf I=>af (λr=>lc (.slice (σ ⟨g,0,ν⟩) M.length cap) r) w I/\fk I g f (L.filter gu)/\∀r,lc f r->lc (.slice (σ ⟨g,0,ν⟩) M.length cap) r) a7 O):=by
   rw[eB gE.u c4.i (mA i _ rfl) gX dU Ω Ω (o5 _),m6 Ω];simp only[Z0,W0];refine PC gE.u c4.i rfl ?_ aX Ω λO aq a8=>?_
   .exact EK Φ Φ
   rw[eB gE.u c4.i iN (nF i _ rfl) dU Ω Ω (o5 _),m6 Ω];simp only[Z0,W0,Nat.zero_mul,V0,Nat.sub_zero];have ba:(dV (x1.agg #[.slice ν 0 0,.pointer ν]).cells ((M.length-i)*2)).length=(M.length-i)*2:=qN _ _;have bp:(M.flatMap fd).length=M.length*2:=lk ap;have au:(L.filter gu).length=i:=by rw[<-A,j6];omega
   have key:(λf I=>af (λr=>lc (.slice (σ ⟨g,0,ν⟩) M.length cap) r) w I/\fk I g f (L.filter gu)/\∀r,lc f r->lc (.slice (σ ⟨g,0,ν⟩) M.length cap) r) (.slice (σ ⟨g,0,ν⟩) (L.filter gu).length cap) O:=by
    refine⟨H.F (aq.X λr _ he=>⟨_,_,_,rfl,he.symm⟩),⟨⟨⟨lk (λy _=>rfl),.inr ⟨cap,_,rfl,a8,Ω,aY,by rw[fZ,aZ],?_⟩⟩,λy _=>rfl⟩,λy B=>?_⟩,λr q=>?_⟩
    .rw[au,<-A,<-sI i ap,<-a1,List.take_take,nG (by rw[ba];omega),Y7,List.take_append_of_le_length (by rw[j6];omega),List.take_take];congr 1;omega
    .have av:y∈M:=by rw[<-A]at B;exact V4 B
     exact(e.2 y av).aa aq λr q he=>(e.2 y av).2.1 r q he
    .obtain⟨a,n,c,h1,Y⟩:=q;cases h1;exact⟨_,_,_,rfl,Y⟩
   rw[au]at key;exact key
  exact a2
theorem sT{k:o4}{g cap:Nat}{b:Option S6}(h:an k e w g (.slice b n cap) l)(a:0<l.length):
  b=σ ⟨g,0,ν⟩/\n=l.length/\∃cs,ag w g e cs/\n<=cap/\cap<=maxLen/\cs.length=cap/\cs.take n=ints k l:=by
 obtain⟨_,⟨_,h1⟩|⟨f,cs,h1,j,p,q,r,s⟩⟩:=h
 all_goals grind
theorem PI{g cap:Nat}(h:an .i64 ae w g (.slice (σ ⟨g,0,ν⟩) n cap) l)(e:j<l.length):aF .i64 w (.slice (σ ⟨g,j,ν⟩) (n-j) (cap-j)) (l.drop j):=by
 obtain⟨_,f,cs,a,h1,p,q,r⟩:=sT h Ω;have:=Cv (o:=j) (k:=n-j) (c:=cap-j) a Ω Ω Ω;refine aF.of (n:=n-j) ?_
 grind [List.drop_take,List.map_drop]
theorem EL{g:Nat}(h:an .i64 ae w g sv l)(aN:l.length<=100000):
  ak x7 J4 [sv] w λv I=>af (λr=>r=g) w I/\an .i64 ae I g v (dedup l l.length):=by
 refine ay func177 ?_;rw[aS ai.u h.ls];simp only[aP,aj];refine⟨λaO=>⟨af.refl _ _,?_⟩,λaQ=>?_⟩
 .grind [yA]
 obtain⟨n,N⟩:∃n,l.length=n:=⟨_,rfl⟩;obtain⟨cap,rfl⟩:∃cap,sv= .slice (σ ⟨g,0,ν⟩) n cap:=by
  obtain⟨_,⟨_,h1⟩|⟨aR,cs,h1,_⟩⟩:=id h
  all_goals grind
 obtain⟨_,_,_,_,aT,Y,_⟩:=sT h Ω;refine⟨λ_ t J=>∃j:Nat,t=Δ (j:Int)/\1<=j/\j<=n/\Ext w J/\∀i,i<j->0<i->l[i]? ≠l[i-1]?,λ_ t _=>n-(b0 t).toNat,⟨1,rfl,Ω,Ω,Ext.refl _,Ω⟩,?_⟩;rintro aU _ J ⟨j,rfl,aW,Z,p,aX⟩;rw[aS ai.u (h.ls.W p)];simp only[aP,aj,eu];refine⟨λab V ac _ _=>?_,λaY=>⟨p.aa _,?_⟩⟩
 .have ab:j<n:=Ω
  have s:=p.F ac;have O:=h.ls.W s;obtain⟨a,ad⟩:=aC (l:=l) (i:=j) Ω;obtain⟨b,ag⟩:=aC (l:=l) (i:=j-1) Ω;rw[ba ai.u ae.i Ψ O ad];simp only[dN];rw[lm Ω Ω,ew (i:=j-1) Ω ai.u ae.i Ψ O ag];simp only[bi,aj,aL];refine⟨λP=>?_,λP=>?_⟩
  .subst P;rw[eB ai.u ae.i lL gX dU Ω Ω Ω,m6 Ω];have ah:W3 (λx:S6=>x.add (j*1)) (σ ⟨g,0,ν⟩)=σ ⟨g,j,ν⟩:=by simp[W0]
   rw[ah];have al:dedup l (j+1)=l.take j:=by grind [yy,yA]
   refine⟨λC t E=>∃(q e:Nat)(f:Λ),C=Δ (q:Int)/\t=Δ (e:Int)/\1<=e/\j+e<=n/\af (λr=>r=g) w E/\an .i64 ae E g (.slice (σ ⟨g,0,ν⟩) n cap) f/\f.length=n/\
     q=(dedup l (j+e)).length/\f.take q=dedup l (j+e)/\q<=j+e-1/\∀i,j+e-1<=i->f[i]?=l[i]?,λ_ t _=>n-(b0 t).toNat,
    ⟨j,1,l,rfl,rfl,Ω,Ω,s.aa _,h.W s,N,by grind,by rw[al],Ω,λi _=>rfl⟩,?_⟩
   rintro _ _ E ⟨q,e,f,rfl,rfl,aZ,a1,G,Q,am,ao,R,ap,A⟩;rw[iu ai.u];simp only[aP,aj,eu];refine⟨λS=>?_,λS=>?_⟩
   .have S:j+e<n:=Ω
    refine aV (λC H=>∃(q:Nat)(f:Λ),C=Δ (q:Int)/\af (λr=>r=g) w H/\an .i64 ae H g (.slice (σ ⟨g,0,ν⟩) n cap) f/\f.length=n/\
     q=(dedup l (j+(e+1))).length/\f.take q=dedup l (j+(e+1))/\q<=j+(e+1)-1/\∀i,j+(e+1)-1<=i->f[i]?=l[i]?) ?_ ?_
    .rintro _ H ⟨q,f,rfl,h1,aq,au,av,aw,ax,aA⟩;simp only[aL];rw[lm Ω Ω];exact⟨⟨q,e+1,f,rfl,rfl,Ω,Ω,h1,aq,au,av,aw,ax,aA⟩,by simp only[b0];omega⟩
    .intro az U a2 K _ _;have B:=Q.W K;have L:=PI (j:=j) B Ω;obtain⟨y,W⟩:=aC (l:=l) (i:=j+e) Ω;obtain⟨z,aB⟩:=aC (l:=l) (i:=j+e-1) Ω;have X:(f.drop j)[e]?=σ y:=by rw[List.getElem?_drop,A _ Ω,W]
     have aD:(f.drop j)[e-1]?=σ z:=by rw[List.getElem?_drop,A _ Ω,<-aB];congr 1;omega
     rw[ba ai.u ae.i Ψ L X];simp only[dN];rw[lm Ω Ω,ew (i:=e-1) Ω ai.u ae.i Ψ L aD];simp only[bz,aj,aL];refine⟨λM=>?_,λM=>?_⟩
     .rw[ba ai.u ae.i Ψ L X,gb rfl ai.u ae.i B Ω];refine gd ae.i B Ω λa6 aE a7 aF=>?_;rw[lm Ω Ω];have a8:=yz W (by grind);refine U _ _ ⟨q+1,_,rfl,(G.F (K.aa _)).F aE,aF,by grind,?_,?_,Ω,λi hi=>?_⟩
      .grind
      .grind [u5,Z5,List.take_set_of_le]
      .rw[W5 Ω];exact A i Ω
     .have M:=Z2.1 M;have bb:dedup l (j+e+1)=dedup l (j+e):=by grind [yy]
      exact U _ _ ⟨q,f,rfl,G.F (K.aa _),B,am,by grind,by grind,Ω,λi hi=>A i Ω⟩
   .have hk:j+e=n:=Ω
    rw[hk]at ao R ap;obtain⟨_,_,cs,aG,_,_,bc,aH⟩:=sT Q Ω;simp only[maxLen]at Y;rw[eB ai.u ae.i lL gX dU Ω Ω Ω,m6 Ω];have aI:W3 (λx:S6=>x.add (q*1)) (σ ⟨g,0,ν⟩)=σ ⟨g,q,ν⟩:=by simp[W0]
    rw[aI];refine xB ai.u ae.i rfl rfl aG Ω Ω λbd aJ be aK=>?_;rw[eB ai.u ae.i iN mB dU Ω Ω Ω,m6 Ω];have aM:W3 (λx:S6=>x.add (0*1)) (σ ⟨g,0,ν⟩)=σ ⟨g,0,ν⟩:=by simp[W0]
    rw[aM,N];refine⟨G.F aJ,?_⟩;rw[<-R];refine an.of (n:=q) ⟨Θ,.inr ⟨cap,_,Ξ,aK,Ω,Ω,by rw[fZ];omega,?_⟩⟩;rw[V1];apply j9;intro i;by_cases hi:i<q
    .rw[Y3 hi,kt _ _ _ Θ,m6 Ω,ints,x8,Y3 hi];have:(cs.take n)[i]?=(ints .i64 f)[i]?:=by rw[aH]
     grind
    grind
  .rw[lm Ω Ω];refine⟨⟨j+1,rfl,Ω,Ω,s,λi hi bf=>?_⟩,by grind [b0]⟩
   grind
 .have Z:j=n:=Ω
  rw[yA (o5 _) (by grind),p8];exact h.W p
theorem PJ(z:n<=1000000):ak x7 K2 [.slice ν 0 0,Δ (n:Int)] w λv I=>Ext w I/\∃g,w.heap.size<=g/\an .i64 ae I g v []:=by
 refine ay func273 ?_;refine dh (λJ=>w=J) ?_ ?_
 .rintro _ rfl;refine aV (λv I=>Ext w I/\∃g,w.heap.size<=g/\an .i64 ae I g v []) (λ_ _ h=>h) λaz a=>?_;rw[xA ai.u,iu ai.u];simp only[dN];have e:Y6.wrap (((0:Nat):Int)-((0:Nat):Int))=0:=Φ
  have f:Y6.wrap ((n:Int)-0)=n:=by rw[lm Ω Ω];omega
  rw[e,f];simp only[bG,aj];refine⟨λh=>?_,λh=>a _ _ ⟨Ext.refl _,w.heap.size,o5 _,an.nil _ _ _ _⟩⟩;rw[xA ai.u,eB ai.u ae.i iN mB dU Ω Ω Ω,m5 rfl];refine Ct (xs:=[]) rfl ai.u ae.u ae.i rfl ⟨rfl,0,0,ν,0,rfl,o5 _,X8 _,λh=>m7 h (Nat.lt_irrefl _),λj v h=>by simp at h⟩ Ω Ω Ω Ω λv g I A p hm=>?_;obtain⟨_,⟨_,B⟩|⟨cap,cs,rfl,q,h1,r,s,C⟩⟩:=hm
  .omega
  rw[iu ai.u,eB ai.u ae.i iN mB dU Ω Ω Ω,m6 Ω];have y:W3 (λx:S6=>x.add (0*1)) (σ ⟨g,0,ν⟩)=σ ⟨g,0,ν⟩:=by simp[W0]
  rw[y];refine a _ _ ⟨p,g,Ω,an.of (n:=0) ⟨Ξ,.inr ⟨cap,cs,Ξ,q,Ω,r,s,Ξ⟩⟩⟩
 .intro az a;simp only[aP,aj];exact⟨λh=>Ω,λ_=>a _ rfl⟩
theorem PK{a b:Λ}(E:aF .i64 w bp a)(G:aF .i64 w bv b)(U:a.length<=1000)(W:b.length<=1000)(X:∀v I g,Ext w I->w.heap.size<=g->an .i64 ae I g v (a++b)->K v I):
  aD x7 (Z3 dk 2 #[(0,bp),(1,bv)]) w λt J=>ak x7 Kv [t] J K:=by
 obtain⟨⟨H,L,M,Y⟩,⟨N,O,P,Z⟩⟩:(∃x n c,bp= .slice x n c)/\(∃x n c,bv= .slice x n c):=by
  obtain⟨_,_,_,x,c,h1,_⟩:=id E;obtain⟨_,_,_,y,d,aa,_⟩:=id G;exact⟨⟨x,_,c,h1⟩,⟨y,_,d,aa⟩⟩
 subst Y;subst Z;refine lM dk.u ai.i Ω (cs:=#[.slice H L M,.slice N O P]) Ψ λg J aA q s=>?_;have s:=s;have key:∀i:Nat,i<2->∃v l,[x1.slice H L M,.slice N O P][i]?=σ v/\[a,b][i]?=σ l/\aF .i64 w v l/\l.length<=1000:=λi hi=>by
  match i,hi with
  |0,_=>exact⟨_,_,rfl,rfl,E,U⟩
  |1,_=>exact⟨_,_,rfl,rfl,G,W⟩
 refine ay func221 ?_;rw[iu dk.u];refine bT.range 2 (λi size V=>Ext J V/\∃n:Nat,n<=1000*i/\size=Δ (n:Int)) Ω ⟨Ext.refl _,0,Ω,rfl⟩ ?_ ?_
 .rintro i _ V ab hi ⟨f,n,ac,rfl⟩ ad;simp only[aP,aj];refine⟨λ_=>?_,λh=>Ω⟩;obtain⟨v,l,B,Q,C,af⟩:=key i hi;refine aV (λv R=>V=R/\v=Δ ((n+l.length:Nat):Int)) ?_ ?_
  .rintro _ _ ⟨rfl,rfl⟩;simp only[aL];exact ad _ _ ⟨f,_,Ω,rfl⟩
  .intro az ag;rw[fs dk.u ai.i hi (λ_=>rfl),av Ψ ((s.W f).cell (by rw[<-B];congr 1;omega)),aS ai.u (C.W (q.F f))];simp only[aL,aP,aj];rw[lm Ω Ω];exact⟨λh=>Ω,λ_=>ag _ _ ⟨rfl,by congr 1⟩⟩
 .rintro _ V ab ⟨f,n,ac,rfl⟩;simp only[aP,aj];refine⟨λh=>Ω,λ_=>?_⟩;refine(PJ Ω).X ?_;rintro v0 R _ ⟨S,ah,aB,al⟩;have s1:=q.size;have s2:=f.size;have aC:=S.size;have am:=f.F S;rw[iu dk.u];refine bT.range 2 (λi v z=>Ext J z/\∃p,J.heap.size<=p/\an .i64 ae z p v (([a,b].take i).flatten)/\(([a,b].take i).flatten).length<=1000*i) Ω ⟨am,ah,Ω,al,Ξ⟩ ?_ ?_
  .rintro i v4 z ao hi ⟨j,p,ap,A,aE⟩ aq;simp only[aP,aj];refine⟨λ_=>?_,λh=>Ω⟩;obtain⟨v,l,B,Q,C,af⟩:=key i hi;rw[fs dk.u ai.i hi (λ_=>rfl),av Ψ ((s.W j).cell (by rw[<-B];congr 1;omega))];refine iO ai.u ae.i rfl A (C.W (q.F j)) Ω Ω λaG au aH aI aw ax=>?_;simp only[aL];have aJ:=j.size;have e:([a,b].take (i+1)).flatten=([a,b].take i).flatten++l:=by rw[u5,Q];simp
   refine aq _ _ ⟨j.then ax (by rintro r aK rfl;omega),au,Ω,by rw[e];exact aw,by rw[e,p9];omega⟩
  .rintro v4 z ao ⟨j,p,ap,A,_⟩;simp only[aP,aj];refine⟨λh=>Ω,λ_=>X _ _ p (q.F j) Ω ?_⟩;have e:([a,b].take 2).flatten=a++b:=Ξ
   rw[e]at A;exact A
def pV(s1 a s2 e d6:Λ):Prop:=∀p∈d6,p∈a->p∈e->fc s1 (ij a p)=fc s2 (ij e p)
def dA(s1 a s2 e d6:Λ):Λ:=d6.map λp=>max (fc s1 (ij a p)) (fc s2 (ij e p))
theorem EM(s1 a s2 e d6:Λ):(dA s1 a s2 e d6).length=d6.length:=by simp[dA]
theorem yF{x:Int}:0<=ij l x↔x∈l:=by
 grind [ij]
theorem PL{g ao P ap:Nat}{A Q:x1}{s1 s2 d6 a e:Λ}{aq:Int}{au av:Λ}(h1:cd w g ao sv s1 k au)(R:cd w P ap A s2 aq av)(B:aF .i64 w Q d6)(aw:aF .i64 w bp a)(ax:aF .i64 w bv e)(aA:ez a)(aB:ez e)(a1:d6.length<=1000):
  ak x7 Kw [Q,Γ g,bp,Γ P,bv] w λv I=>Ext w I/\
   (¬pV s1 a s2 e d6->v= .tuple #[.slice ν 0 0,.bool sp])/\
   (pV s1 a s2 e d6->∃x am,v= .tuple #[x,.bool rs]/\w.heap.size<=am/\an .i64 ae I am x (dA s1 a s2 e d6)):=by
 have sub:∀{w:x3}{g:Nat}{sv:x1}{k:Int}{aY:x1},ag w g cp [sv,Δ k,aY]->w.rangeAt g (0+0) [sv]:=by grind [oz]
 refine ay func222 ?_;rw[aS ai.u B];refine jy ai.u ae.i Ω Ω λgz J a2 aD aE=>?_;have a6:=an.of (n:=d6.length) (bW.full aE Ξ (by simp[maxLen];omega));generalize (x1.slice (σ ⟨gz,0,ν⟩) d6.length d6.length)=aG at*;rw[aS ai.u (B.W aD)];have aH:=EM s1 a s2 e d6;refine mn.range d6.length (λi _ _ V=>Ext w V/\an .i64 ae V gz aG (upto (dA s1 a s2 e d6) 0 i)/\∀(j:Nat)(p:Int),j<i->d6[j]?=σ p->p∈a->p∈e->fc s1 (ij a p)=fc s2 (ij e p)) Ω
  (by grind [mK]) ?_ ?_
 .rintro i _ _ V aI hi ⟨f,hm,S⟩ aJ;simp only[aP,aj];refine⟨λ_=>?_,Ω⟩;obtain⟨p,q⟩:=aC (l:=d6) hi;rw[ba ai.u ae.i Ψ (B.W f) q];refine(vm (aw.W f) aA).X ?_;rintro _ a7 _ ⟨rfl,C⟩;refine(vm (ax.W (f.F C)) aB).X ?_;rintro _ aK _ ⟨rfl,U⟩;have W:=(f.F C).F U;refine aV (λv X=>Ext aK X/\∃c,v= .bool c/\(c=rs↔p∈a/\p∈e/\fc s1 (ij a p)≠fc s2 (ij e p))) ?_ ?_
  .rintro _ X ⟨Y,c,rfl,aM⟩;have Z:=W.F Y;rw[bM];refine⟨λaN=>⟨Z,by grind,λE=>?_⟩,λa8=>?_⟩
   .obtain⟨r,s,aO⟩:=aM.1 aN;exact m7 (E p (x5 q) r s) aO
   .simp only[eu];intro bb aa _ _;have G:=Z.F aa;obtain⟨⟨aY,gs,H,K,_⟩,_⟩:=h1.W G;obtain⟨⟨aQ,aR,L,M,_⟩,_⟩:=R.W G;rw[bS,aT cp.p rfl,bC (cs:=[sv]) bq.p bq.i rfl (sub H),bS,aT cp.p rfl,bC (cs:=[A]) bq.p bq.i rfl (sub L)];refine(q9 K.ls).X ?_;rintro _ bc _ ⟨rfl,y⟩;refine⟨.inl y,?_⟩;refine(q9 (M.ls.W y)).X ?_;rintro _ bd _ ⟨rfl,ab⟩;have aU:=(G.F y).F ab;have ac:=hm.W ((((C.F U).F Y).F aa).F (y.F ab));have be:(upto (dA s1 a s2 e d6) 0 i).length=d6.length:=by rw[lg,aH]
    rw[xq,gb rfl ai.u ae.i ac Ω];refine gd ae.i ac Ω λbf aW _ ad=>?_;simp only[aL];have aX:(dA s1 a s2 e d6)[i]?=σ (max (fc s1 (ij a p)) (fc s2 (ij e p))):=by
     grind [dA]
    rw[mM aX]at ad;refine aJ _ _ _ ⟨aU.then aW Ω,ad,λj bg E bh r s=>?_⟩
    grind
  .intro az N;simp only[eu,cJ,aj];intro bi z _ _;refine⟨λaf=>⟨λah=>?_,λah=>⟨.inl (Ext.refl _),N _ _ ⟨z,sp,rfl,⟨by grind,λh=>m7 (yF.2 h.2.1) ah⟩⟩⟩⟩,λaf=>⟨.inl (Ext.refl _),N _ _ ⟨z,sp,rfl,⟨by grind,λh=>m7 (yF.2 h.1) af⟩⟩⟩⟩;have al:=W.F z;obtain⟨⟨aY,gs,H,K,_⟩,_⟩:=h1.W al;obtain⟨⟨aQ,aR,L,M,_⟩,_⟩:=R.W al;rw[bS,aT cp.p rfl,bC (cs:=[sv]) bq.p bq.i rfl (sub H),bS,aT cp.p rfl,bC (cs:=[A]) bq.p bq.i rfl (sub L)];refine(q9 K.ls).X ?_;rintro _ bj _ ⟨rfl,O⟩;refine⟨.inl O,?_⟩;refine(q9 (M.ls.W O)).X ?_;rintro _ bk _ ⟨rfl,aZ⟩;simp only[bz];refine N _ _ ⟨(z.F O).F aZ,_,rfl,?_⟩
   grind [yF]
 .rintro _ _ V aI ⟨f,hm,S⟩;simp only[aP,aj];refine⟨λh=>Ω,λ_=>?_⟩;have E:pV s1 a s2 e d6:=λp q r s=>by
   obtain⟨i,hi,he⟩:=List.getElem_of_mem q;exact S i p hi (by grind) r s
  grind [mL]
def rk(a e d6:Λ):Prop:=ez d6/\∀x,x∈d6↔x∈a\/x∈e
def nY(s1 f a s2 h e d6:Λ)(k:Int):Λ:=
 (Z4 (aB (dA s1 a s2 e d6)).toNat).map λ(q:Nat)=>min (bd s1 f (gq (b1 (dA s1 a s2 e d6) q) d6 a)+bd s2 h (gq (b1 (dA s1 a s2 e d6) q) d6 e)) k
theorem PM(s1 f a s2 h e d6:Λ)(k:Int):(nY s1 f a s2 h e d6 k).length=(aB (dA s1 a s2 e d6)).toNat:=by simp[nY]
theorem pW{s cs:Λ}(hk:right k)(h:∀x∈cs,cK x k):cK (bd s cs t) k:=by
 have a:cK 0 k:=⟨hk,Int.le_refl _,by have:=hk.1;omega⟩
 grind [bd]
def Fits(s l:Λ):Prop:=l.length=s.length/\sR l
def sU(e:Int):x1:=.tuple #[.pointer ν,.slice ν 0 0,Δ e]
def EN(w:x3)(s1 q a s2 r e:Λ)(k f:Int)(v:x1)(I:x3):Prop:=
 Ext w I/\(¬(Fits s1 a/\Fits s2 e)->v=sU 1)/\
  (Fits s1 a/\Fits s2 e->∃d6,rk a e d6/\(¬pV s1 a s2 e d6->v=sU 1)/\(pV s1 a s2 e d6->(k≠f->v=sU 3)/\
   (k=f->¬bU (dA s1 a s2 e d6)->v=sU 1)/\(k=f->bU (dA s1 a s2 e d6)->4096<aB (dA s1 a s2 e d6)->v=sU 5)/\
   (k=f->bU (dA s1 a s2 e d6)->aB (dA s1 a s2 e d6)<=4096->∃h j s p,v= .tuple #[Γ h,p,Δ 0]/\
    cd I h j s (dA s1 a s2 e d6) k (nY s1 q a s2 r e d6 k)/\(w.heap.size<=h/\w.heap.size<=j)/\∃aU,w.heap.size<=aU/\an .i64 ae I aU p d6)))
theorem EO{g bF ga bG:Nat}{bH:x1}{s1 s2 f j:Λ}{a7:Int}{E G:Λ}(h1:cd w g bF sv s1 k E)(ah:cd w ga bG bH s2 a7 G)(al:aF .i64 w bp f)(aq:aF .i64 w bv j)(hk:right k)(cm:∀x∈E,cK x k)(cn:∀x∈G,cK x a7):
  ak x7 Jz [Γ g,bp,Γ ga,bv] w (EN w s1 E f s2 G j k a7):=by
 have cq:=al.cells;have dE:=aq.cells;have cr:=h1.2.2.1;have ct:=ah.2.2.1;have sub:∀{w:x3}{g:Nat}{sv:x1}{k:Int}{aY:x1},ag w g cp [sv,Δ k,aY]->w.rangeAt g (0+0) [sv]:=by grind [oz]
 refine je func133 ?_;refine bj λg1 J dF bI C=>?_;refine bj λbJ V dG a8 H=>?_;refine bj λbL dH dI aJ K=>?_;refine bj λbN W dJ aw L=>?_;have dK:=C.lt;have dL:=H.lt;have dM:=K.lt;have dN:=L.lt;have dO:=bI.size;have dP:=a8.size;have dQ:=aJ.size;have dR:=aw.size;have X:=((bI.F a8).F aJ).F aw;have C:ag W g1 dp [Γ g]:=((C.W a8).W aJ).W aw;have H:ag W bJ ai [bp]:=by rw[cq.1]at H;exact(H.W aJ).W aw
 have K:ag W bL dp [Γ ga]:=K.W aw;have L:ag W bN ai [bv]:=by grind
 refine aV (λv bO=>v= .bool sp/\W=bO) ?_ ?_
 rotate_left
 .intro az ba;rw[av Ψ (C.Qz rfl),cV dp.u];simp only[l9,aW];rw[av Ψ (K.cell rfl),cV dp.u]
  grind
 rintro _ _ ⟨rfl,rfl⟩;simp only[aW];refine aV (λv bP=>Ext W bP/\∃c,v= .bool c/\(c=rs↔¬(Fits s1 f/\Fits s2 j))) ?_ ?_
 rotate_left
 .intro az ba;rw[av Ψ (C.cell rfl),av Ψ (H.cell rfl)];refine(EC (h1.W X) (al.W X)).X ?_;rintro _ bO _ ⟨Y,c,rfl,aK⟩;simp only[bA,bM];refine⟨λcu=>ba _ _ ⟨Y,rs,rfl,λ_ h=>?_,λ_=>rfl⟩,λbQ=>?_⟩
  .have:=aK.2 h.1;grind
  .have cw:c=rs:=by grind
   rw[av Ψ ((K.W Y).cell rfl),av Ψ ((L.W Y).cell rfl)];refine(EC ((ah.W X).W Y) ((aq.W X).W Y)).X ?_;rintro _ dS _ ⟨cz,d,rfl,bR⟩;simp only[bA];refine ba _ _ ⟨Y.F cz,_,rfl,λh ap=>?_,λh=>?_⟩
   .have:=bR.2 ap.2;grind
   .cases d with
    |false=>rfl
    |true=>exact m7 ⟨aK.1 cw,bR.1 rfl⟩ h
 rintro _ bP ⟨ax,c,rfl,aK⟩;have aL:=X.F ax;rw[bM];refine⟨λcu dT cA _=>⟨aL.F cA,λ_=>rfl,by grind⟩,λbQ=>?_⟩;have cB:=Classical.byContradiction λh=>by
  have:=aK.2 h;rw[bQ]at this;cases this
 obtain⟨⟨dU,cC⟩,dV,cD⟩:=id cB;have dW:=cr.1;have dX:=ct.1;rw[av Ψ ((H.W ax).cell rfl),av Ψ ((L.W ax).cell rfl)];refine PK (al.W aL) (aq.W aL) Ω Ω λdY dZ ea bT eb cE=>?_;refine yx cE.ls (by grind) λec ed bV m bW ee bX cF cG=>?_;have cH:=bX.length_eq;rw[p9]at cH;refine(EL cG Ω).X ?_;rintro aM ef _ ⟨cI,ay⟩;have eg:=ax.size;have eh:=bT.size;have ei:=bW.size;have bY:=(bT.F bW).then cI Ω;obtain⟨cJ,cL⟩:=yB cF (o5 _);have ej:=EA m m.length;have M:rk f j (dedup m m.length):=⟨cJ,λx=>by rw[cL,p8,bX.mem_iff,o9]⟩;generalize dedup m m.length=d6 at*;refine bu ai.i λaU ek em b0 cM=>?_;refine bw ai.i ay.ls.cells.1 ay.ls.cells.2 cM (by simp[T5]) λen cN eo aA=>?_;have ep:=bY.size;have er:=b0.size;have aP:=b0.then cN Ω;have Z:=(ax.F bY).F aP;have aC:=X.F Z;have bK:=aA.lt;have b2:=ay.ls.W aP;have aA:=aA;rw[av Ψ (aA.cell rfl),av Ψ ((C.W Z).cell rfl),av Ψ ((H.W Z).cell rfl),av Ψ ((K.W Z).cell rfl),av Ψ ((L.W Z).cell rfl)];refine(PL (h1.W aC) (ah.W aC) b2 (al.W aC) (aq.W aC) cC.up cD.up Ω).X ?_;rintro es et _ ⟨ab,cO,cP⟩;have b3:=aC.F ab;by_cases b4:pV s1 f s2 j d6
 rotate_left
 .rw[cO b4,bn,bo];simp only[bA,X1,bZ];intro eu cQ _;exact⟨b3.F cQ,by grind,λ_=>⟨d6,M,λ_=>rfl,by grind⟩⟩
 obtain⟨xs,am,rfl,ev,cR⟩:=cP b4;rw[bn,bo];simp only[bA,Y2,aW];intro ac P _ _;have aQ:=(Z.F ab).F P;have ad:=b3.F P;have C:=C.W aQ;have H:=H.W aQ;have K:=K.W aQ;have L:=L.W aQ;have cS:=(aA.W ab).W P;obtain⟨⟨aY,gs,b5,ew,_⟩,_⟩:=h1.W ad;obtain⟨⟨ey,ez,cT,eA,_⟩,_⟩:=ah.W ad;rw[av Ψ (C.cell rfl),aN cp.p 1 b5 rfl,av Ψ (K.cell rfl),aN cp.p 1 cT rfl];simp only[bz,aj];refine⟨λaR eB cU _=>⟨ad.F cU,by grind,λ_=>⟨d6,M,by grind,λ_=>⟨λ_=>rfl,Ω,Ω,Ω⟩⟩⟩,λaR=>?_⟩;have aR:=Z2.1 aR;subst aR;rw[av Ψ (C.cell rfl),aN cp.p 1 b5 rfl];have cW:=cR.W P;refine(sg cW.ls).X ?_;rintro aO aS _ ⟨b6,eC,eD,_,cX⟩;have eE:=aP.size;have eF:=ab.size;have eH:=P.size;have eI:=b6.size;obtain⟨aD,e,rfl,eJ,bb⟩:∃(aD:Option S6)(e:Int),aO= .tuple #[.pointer aD,Δ e]/\(e=0->aD≠ν)/\((e=1/\¬bU (dA s1 f s2 j d6))\/(e=5/\bU (dA s1 f s2 j d6)/\4096<aB (dA s1 f s2 j d6))\/(e=0/\bU (dA s1 f s2 j d6)/\aB (dA s1 f s2 j d6)<=4096/\
   ∃y A z,aD=σ ⟨y,0,ν⟩/\ac.heap.size<=y/\ac.heap.size<=A/\(∀r,li z r->ac.heap.size<=r)/\cd aS y A z (dA s1 f s2 j d6) k (u9 (aB (dA s1 f s2 j d6)).toNat 0))):=by
  by_cases U:bU (dA s1 f s2 j d6)
  .by_cases O:aB (dA s1 f s2 j d6)<=4096
   .obtain⟨y,A,z,cY,cZ,c0,c1,c2⟩:=cX U O ⟨hk,Ω,by have:=hk.1;omega⟩;exact⟨_,_,cY,by grind,.inr (.inr ⟨rfl,U,O,y,A,z,rfl,cZ,c0,c1,c2⟩)⟩
   grind
  grind
 rw[bn,bo];refine bu dp.i λc3 eK eL b7 aE=>?_;refine bw dp.i rfl rfl aE (by simp[T5]) λeM c4 eN aE=>?_;have eO:=b7.size;have bc:=b7.then c4 Ω;have b8:=b6.F bc;have c5:=ad.F b8;have eP:=aE.lt;simp only[bz,aj];refine⟨λeQ eR c6 _=>⟨c5.F c6,by grind,λ_=>⟨d6,M,by grind,λ_=>⟨Ω,λ_ U=>?_,λ_ U O=>?_,λ_ U O=>?_⟩⟩⟩,λeS=>?_⟩
 .rcases bb with⟨rfl,_⟩|⟨_,h,_⟩|⟨_,h,_⟩
  .rfl
  all_goals grind
 .rcases bb with⟨_,h⟩|⟨rfl,_⟩|⟨_,_,h,_⟩
  .grind
  .rfl
  .omega
 .grind
 obtain⟨be,c7,y,A,z,rfl,eU,eV,eW,aX⟩:bU (dA s1 f s2 j d6)/\aB (dA s1 f s2 j d6)<=4096/\
   ∃y A z,aD=σ ⟨y,0,ν⟩/\ac.heap.size<=y/\ac.heap.size<=A/\(∀r,li z r->ac.heap.size<=r)/\cd aS y A z (dA s1 f s2 j d6) k (u9 (aB (dA s1 f s2 j d6)).toNat 0):=by
  rcases bb with⟨h,_⟩|⟨h,_⟩|⟨_,h⟩
  all_goals omega
 obtain rfl:e=0:=Ω
 have eX:(dA s1 f s2 j d6).length=d6.length:=EM _ _ _ _ _;have eY:=prod_bound be;obtain⟨N,b9⟩:∃N:Nat,(aB (dA s1 f s2 j d6)).toNat=N:=⟨_,rfl⟩;rw[b9]at aX;have eZ:0<N:=Ω
 have c8:=aX.W bc;obtain⟨⟨bf,ca,cb,cc,c9⟩,⟨da,db,_⟩,_,e0⟩:=id c8;have e1:y<aS.heap.size:=by obtain⟨⟨_,_,q,_⟩,_⟩:=id aX;exact q.lt
 have e2:A<aS.heap.size:=by obtain⟨⟨_,_,_,_,q⟩,_⟩:=id aX;exact iy q Θ
 rw[av Ψ (aE.cell rfl),bS,aT cp.p rfl,bC (cs:=[z]) bq.p bq.i rfl (sub cb)];refine pO.X ?_;rintro _ aZ _ ⟨Q,bg,rfl,e3,ce⟩;have e4:=bc.size;have e5:=Q.size;let S:Nat->Prop:=λr=>r=A;let aG:=nY s1 E f s2 G j d6 k;have bh:aG.length=N:=by grind [PM]
 have dc:=(b2.W ab).W P;let dd:x3->Prop:=λI=>ag I g1 dp [Γ g]/\ag I bJ ai [bp]/\ag I bL dp [Γ ga]/\ag I bN ai [bv]/\ag I aU ai [aM]/\aF .i64 I aM d6/\
  ag I c3 dp [Γ y]/\ag I y cp [z,Δ k,bf]/\cd I g bF sv s1 k E/\cd I ga bG bH s2 k G/\aF .i64 I bp f/\aF .i64 I bv j/\an .i64 ae I ca z (dA s1 f s2 j d6)/\ag I bg bq [z]/\aZ.heap.size<=I.heap.size
 have bi:=b8.F Q;have aH:∀{a:x3},af S aZ a->dd a:=by
  intro a B;have R:=bi.put B Ω;have a1:=ad.F R;exact⟨C.W R,H.W R,K.W R,L.W R,cS.W R,dc.W R,(aE.W Q).aa B Ω,(cb.W Q).aa B Ω,h1.W a1,ah.W a1,al.W a1,aq.W a1,
   bl (cc.W Q) B (by grind),ce.aa B Ω,B.size⟩
 have cf:=pN (g:=bg) (B0:=aZ.heap.size) (sv:=z) be;rw[b9]at cf;refine mp.old ⟨Nat,sp,kp,#[Γ bg],0,_,_,_,λq I=>af S aZ I/\an .i64 ao I A bf (upto aG 0 q),λ_ _ _=>False,rfl,cf.s,
  ?_,λ_ _ B h=>⟨h.1.W B,h.2.1.W B,Y1 h.2.2 B.size⟩,λ_ _ _ B h=>⟨h.1.F (B.aa S),h.2.W B⟩,by grind,⟨ce,(cc.W Q).ls,o5 _⟩,⟨af.refl _ _,?_⟩,?_,?_,by grind,by grind⟩
 .rintro _ _ _ _ ⟨_,_,_,_,rfl,_⟩;rfl
 .rw[mK,bh];exact c9.W Q
 .rintro _ aO q _ e6 ⟨_,_,e7⟩ ⟨cg,rfl,e8,gt,de,e9,ch⟩ ⟨a2,df⟩;cases de;let x:=b1 (dA s1 f s2 j d6) (q:Int);have ci:x.length=d6.length:=by grind [ix]
  intro fa dg _ _;intro fb dh _ _;have bk:=dg.F dh;obtain⟨f1,f2,f3,f4,f5,f6,f7,f8,f9,f10,f11,f12,f13,f14,f15⟩:=aH (a2.F (bk.aa S));rw[av Ψ (f1.cell rfl),av Ψ (f5.cell rfl),av Ψ (f2.cell rfl)];refine(EE (ch.ls.W bk) f6 f11 M.1 (λp O=>(M.2 p).2 (.inl O)) ci Ω).X ?_;rintro fc fd _ ⟨bm,fe,ff,di⟩;refine⟨.inl bm,?_⟩;refine(uA (f9.W bm) di.ls).X ?_;rintro _ fg _ ⟨rfl,dj⟩;obtain⟨dk,dl⟩:=vl s1 (gq x d6 f) E;have dm:=dl;rw[dm,bn,bo];intro fh dn _ _;have br:=((bk.F bm).F dj).F dn;obtain⟨f1,f2,f3,f4,f5,f6,f7,f8,f9,f10,f11,f12,f13,f14,f15⟩:=aH (a2.F (br.aa S));rw[av Ψ (f3.cell rfl),av Ψ (f5.cell rfl),av Ψ (f4.cell rfl)];refine(EE (ch.ls.W br) f6 f12 M.1 (λp O=>(M.2 p).2 (.inr O)) ci Ω).X ?_;rintro fi fj _ ⟨bs,fk,fm,dq⟩;refine⟨.inl bs,?_⟩;refine(uA (f10.W bs) dq.ls).X ?_;rintro _ fo _ ⟨rfl,dr⟩;obtain⟨ds,dt⟩:=vl s2 (gq x d6 j) G;have du:=dt;rw[du,bn,bo];intro fp dv _ _;have bt:=((br.F bs).F dr).F dv;obtain⟨f1,f2,f3,f4,f5,f6,f7,f8,f9,f10,f11,f12,f13,f14,f15⟩:=aH (a2.F (bt.aa S));rw[av Ψ (f7.cell rfl),aN cp.p 2 f8 rfl,av Ψ (f7.cell rfl),aN cp.p 1 f8 rfl];refine Dq.X ?_;rintro _ fq _ ⟨rfl,bx⟩;refine⟨.inl bx,?_⟩;have dw:sB (bd s1 E (gq x d6 f)) (bd s2 G (gq x d6 j)) k= .tuple #[Δ (min (bd s1 E (gq x d6 f)+bd s2 G (gq x d6 j)) k),Δ 0]:=m5 ⟨pW hk cm,pW hk cn⟩;rw[dw,jW (v:=Δ (min (bd s1 E (gq x d6 f)+bd s2 G (gq x d6 j)) k)) rfl,jW (v:=Δ 0) rfl];have cj:=df.W (bt.F bx);have fs:(upto aG 0 q).length=N:=by rw[lg,bh]
  rw[gb rfl au.u ao.i cj Ω];refine gd ao.i cj Ω λft fu fv ck=>?_;have cl:=(a2.F ((bt.F bx).aa S)).F Ω;obtain⟨f1,f2,f3,f4,f5,f6,f7,f8,f9,f10,f11,f12,f13,f14,f15⟩:=aH cl;have dx:aG[q]?=σ (min (bd s1 E (gq x d6 f)+bd s2 G (gq x d6 j)) k):=by
   simp only[aG,nY];rw[x8,List.getElem?_range Ω];rfl
  rw[mM dx]at ck;exact⟨⟨f14,f13.ls,f15⟩,⟨cl,ck⟩,by grind⟩
 .rintro q dy cg ⟨bB,bE⟩;rw[show q=N from cg]at bE;intro fw a6 _ _;obtain⟨f1,f2,f3,f4,f5,f6,f7,f8,f9,f10,f11,f12,f13,f14,f15⟩:=aH (bB.F (a6.aa S));rw[av Ψ (f7.cell rfl),av Ψ (f5.cell rfl)];intro fx aI _;rw[<-bh,mL]at bE;have dz:=ad.F bi;have dC:an .i64 ae dy bV aM d6:=bl (ay.W ((aP.F ab).F (P.F bi))) bB λr dD U=>by obtain⟨dk,ds⟩:=bD ay dD;have U:r=A:=U;omega
  have fy:=aL.size;refine⟨((dz.put bB Ω).F a6).F aI,by grind,λ_=>⟨d6,M,by grind,λ_=>⟨Ω,by grind,Ω,λ_ _ _=>⟨y,A,z,aM,rfl,⟨⟨bf,ca,f8.W aI,f13.W aI,(bE.W a6).W aI⟩,⟨da,db,c7⟩,be,by grind⟩,⟨Ω,Ω⟩,bV,Ω,(dC.W a6).W aI⟩⟩⟩⟩
theorem ez.pair(h:ez l):l.Pairwise (·< ·):=X5.2 λi j hi a e=>h i j _ _ e (x6 hi) (x6 a)
theorem pX{m:Λ}(e:ez l)(hm:ez m)(h:∀x,x∈l↔x∈m):l=m:=by
 have f:l.Nodup:=e.pair.imp λh=>Ω
 have j:m.Nodup:=hm.pair.imp λh=>Ω
 exact List.Perm.eq_of_pairwise (le:=(·<= ·)) (λa b _ _ h1 p=>Int.le_antisymm h1 p) (e.pair.imp λh=>Int.le_of_lt h) (hm.pair.imp λh=>Int.le_of_lt h) ((List.perm_ext_iff_of_nodup f j).2 h)
theorem PN{d6:Λ}(h:rk l l d6)(a:ez l):d6=l:=pX h.1 a λx=>by rw[h.2];simp
theorem EP(h:l.Pairwise (·< ·)):ez l:=λi j x y a e f=>by
 grind [X5]
theorem PO{x:Λ}(a:l.Nodup)(h:x.length=l.length):gq x l l=x:=by
 refine j9 λi=>?_
 grind [gq]
theorem EQ{s:Λ}(a:ez l)(h:s.length=l.length):dA s l s l l=s:=by
 refine j9 λi=>?_
 grind [dA,Y0,pU,fc]
theorem PP{s a b:Λ}(e:l.Pairwise (·< ·))(h:s.length=l.length)(U:dd s)(f:a.length=(aB s).toNat)(j:b.length=(aB s).toNat):nY s a l s b l l k=bX k a b:=by
 have p:l.Nodup:=e.imp Ω
 grind [nY,EQ,EP,OC,PO,ix]
theorem PQ{s a b:Λ}(j:l.Pairwise (·< ·))(y:∀x∈l,0<=x)(h:s.length=l.length)(U:bU s)(K:aB s<=4096)(z:a.length=(aB s).toNat)(A:b.length=(aB s).toNat)(e:EN w s a l s b l k k v I):
  Ext w I/\∃q B C E,v= .tuple #[Γ q,E,Δ 0]/\cd I q B C s k (bX k a b):=by
 obtain⟨L,_,e⟩:=e;have f:=EP j;have r:Fits s l:=⟨h.symm,EB f y⟩;obtain⟨d6,F,_,G⟩:=e ⟨r,r⟩;have H:=PN F f;subst H;obtain⟨_,_,_,J⟩:=G λp M N O=>rfl;rw[EQ f h,PP j h U.2 z A]at J
 grind
theorem PR{s:Λ}(U:dd s):(bk s).Nodup:=(Es U).imp λ{a b}h he=>by subst he;omega
theorem PS{s:Λ}{i:Nat}(U:dd s)(hi:(bk s)[i]?=σ t)(a:(bk s)[j]?=σ t):i=j:=mQ (PR U) hi a
theorem PT{s:Λ}(U:dd s)(h:cW s t):∃j:Nat,(bk s)[j]?=σ t:=c8.1 ((Er U).2 h)
theorem vq{g m:Nat}{d:List (x1×x1)}(h:ag w g e cs)(hm:de w m d)(a:af (λr=>r=m) w I):ag I g e cs:=h.aa a (λhe=>vh h hm he)
theorem ER{g m:Nat}{k:o4}{d:List (x1×x1)}(h:an k e w g v l)(hm:de w m d)(a:af (λr=>r=m) w I):an k e I g v l:=bl h a (λ_ f he=>Eu h hm f he)
def vr(cs:Λ)(o:Int):Prop:=o∈cs/\∀d∈cs,cs.count d<cs.count o\/(cs.count d=cs.count o/\o<=d)
theorem PU{i:Nat}{x:Int}(h:l[i]?=σ x)(y:Int):(l.take (i+1)).count y=(l.take i).count y+if y=x then 1 else 0:=by
 rw[u5,h,List.count_append];congr 1;simp only[l7,List.count_singleton];by_cases a:y=x
 .subst a;simp
 .rw[m6 a,m6 (by simpa using λh=>a h.symm)]
def ik(p:Int×Int):x1×x1:=(Δ p.1,Δ p.2)
theorem sV:Keys x7 ao λv=>∃n,v=Δ n:=Keys.int ao.u
theorem sW(E:List (Int×Int)):∀p∈E.map ik,∃n,p.1=Δ n:=λp a=>by
 obtain⟨q,_,rfl⟩:=o8.1 a;exact⟨_,rfl⟩
def yG(cs:Λ)(E:List (Int×Int)):Prop:=(∀x,x∈E.map (·.1)↔x∈cs)/\∀p∈E,p.2=(cs.count p.1:Nat)
theorem ES{cs:Λ}{E:List (Int×Int)}(h:yG cs E){x:Int}(e:x∈cs):∃j:Nat,E[j]?=σ (x,((cs.count x:Nat):Int)):=by
 obtain⟨p,a,rfl⟩:=o8.1 ((h.1 x).2 e);obtain⟨j,f⟩:=c8.1 a;exact⟨j,by rw[f,<-h.2 p a]⟩
theorem ET{bK:x1}{cs:Λ}(h:aF .i64 w bK cs)(aw:cs≠[])(bg:cs.length<=1000000):ak x7 uq [bK] w λv I=>Ext w I/\∃o,v=Δ o/\vr cs o:=by
 refine ay func229 ?_;refine aD.cB (uV λm J hm X aN bh=>?_);rw[aS au.u (h.W X)];refine ce.range cs.length (λi V=>af (λr=>r=m) J V/\∃E,de V m (E.map ik)/\yG (cs.take i) E) Ω ⟨af.refl _ _,[],aN,by simp[yG]⟩ ?_ ?_
 .rintro i V aO hi ⟨G,E,A,f⟩ ax;obtain⟨x,Y⟩:=aC (l:=cs) hi;have H:Ext w V:=X.put G Ω;have aQ:∀y,(cs.take i).count y<=1000000:=λy=>by
   have:=List.count_le_length (a:=y) (l:=cs.take i);rw[j6]at this;omega
  refine bt Ω ?_;rw[ba au.u ao.i Ψ (h.W H) Y];have P:=PU Y;have aA:∀y,y∈cs.take (i+1)↔y∈cs.take i\/y=x:=λy=>by
   rw[u5,Y];simp
  by_cases L:x∈cs.take i
  .obtain⟨j,Z⟩:=ES f L;have Q:(E.map ik)[j]?=σ (Δ x,Δ (((cs.take i).count x:Nat):Int)):=by rw[x8,Z];rfl
   rw[sC nz.u sV A (sW E) ⟨_,rfl⟩ Q];simp only[Bool.false_eq_true,if_false];have:=aQ x;rw[aL,lm Ω Ω];refine aD.cB (sD nz.u sV A (sW E) ⟨_,rfl⟩ (λR v0 aa ac M ad aR=>?_) (λaa S=>m7 rfl (S _ (x5 Q))));have aT:=A.uniq ac Q rfl;subst aT;rw[aL];have ag:(E.map ik).set R (Δ x,Δ ((((cs.take i).count x:Nat):Int)+1))=(E.set R (x,(((cs.take i).count x:Nat):Int)+1)).map ik:=by rw[V5];rfl
   rw[ag]at M;have aU:=(x4.1 Z).1;refine ax _ ⟨G.F ad,_,M,λy=>?_,λp e=>?_⟩
   .rw[V5,pK (by rw[x8,Z];rfl),f.1,aA];exact⟨.inl,λh=>h.elim id (λh=>h▸L)⟩
   .obtain⟨q,s⟩:=c8.1 e;by_cases ah:R=q
    .subst ah;rw[Z5 aU]at s;cases s;show _=(((cs.take (i+1)).count x:Nat):Int);rw[P,m5 rfl];omega
    .rw[W5 ah]at s;have ai:p.1≠x:=λhe=>ah (A.uniq Q (show(E.map ik)[q]?=σ (ik p) by rw[x8,s];rfl) (by rw[ik,he]));rw[f.2 p (x5 s),P,m6 ai,Nat.add_zero]
  .have S:∀p∈E.map ik,p.1≠Y9 .i64 x:=λp e he=>by
    obtain⟨q,s,rfl⟩:=o8.1 e;have:q.1=x:=by simpa[ik]using he
    exact L ((f.1 x).1 (o8.2 ⟨q,s,this⟩))
   rw[uW nz.u sV ⟨_,_,ae.i⟩ A (sW E) ⟨_,rfl⟩ S];simp only[Bool.false_eq_true,if_false];rw[aL,lm Ω Ω];refine aD.cB (sD nz.u sV A (sW E) ⟨_,rfl⟩ (λR v0 aa ac=>m7 rfl (S _ (x5 ac))) (λaa _ M ad aR=>?_));rw[aL];have ag:E.map ik++[(Y9 .i64 x,Y9 .i64 (0+1))]=(E++[(x,1)]).map ik:=by rw[n9];rfl
   rw[ag]at M;have aX:(cs.take i).count x=0:=List.count_eq_zero.2 L;refine ax _ ⟨G.F ad,_,M,λy=>?_,λp e=>?_⟩
   .rw[n9,o9,f.1,aA];simp
   .rcases o9.1 e with e|e
    .have ai:=λhe=>L ((f.1 x).1 (o8.2 ⟨p,e,he⟩));rw[f.2 p e,P,m6 ai,Nat.add_zero]
    .rw[b8.1 e];show(1:Int)=(((cs.take (i+1)).count x:Nat):Int);rw[P,m5 rfl,aX];rfl
 rintro V aO ⟨G,E,A,f⟩;rw[p8]at f;have H:=X.put G Ω;refine b6 Ω ?_;refine(M5 (h.W H) aw).X ?_;rintro _ aY bj ⟨rfl,al⟩;have bk:=H.size;have bl:=al.size;refine aD.cB (Dt nz.u (A.W al) λN bm bn aZ bo a1 bp=>?_);refine⟨λdZ C=>∃b B z left aB,dZ=Δ b/\b∈cs/\Ext aY C/\iR C N m (E.map ik) left aB/\left=z.map ik/\(B++z).Perm E/\∀p∈B,cs.count p.1<cs.count b\/(cs.count p.1=cs.count b/\b<=p.1),λ_ C=>rf C N,
  ⟨xO cs,[],E,E.map ik,ν,rfl,(MG aw).1,aZ,a1,rfl,List.Perm.refl _,λp e=>by cases e⟩,?_⟩
 rintro _ C ⟨b,B,z,left,aB,rfl,am,an,aE,rfl,U,ap⟩;refine Dv aE (λ_=>by show w.heap.size<=N;omega) (λa2=>?_) (λj p aq e aG bq O=>?_)
 .rw[jW (v:=.bool sp) rfl,aW];have:z=[]:=List.map_eq_nil_iff.1 a2;subst this;rw[V2]at U;refine⟨(H.F al).F an,b,rfl,am,λd a6=>?_⟩;obtain⟨q,s,rfl⟩:=o8.1 ((f.1 d).2 a6);exact ap q (U.mem_iff.2 s)
 .rw[jW (v:=.bool rs) rfl,bZ];refine Dw O ?_;obtain⟨q,s,rfl⟩:∃q,z[j]?=σ q/\ik q=p:=by
   rw[x8]at e;exact Z6.1 e
  have aH:=U.mem_iff.1 (o9.2 (.inr (x5 s)));have br:=f.2 q aH;have a7:=(f.1 q.1).1 (o8.2 ⟨q,aH,rfl⟩);obtain⟨a8,bb⟩:=ES f am;have bc:(E.map ik)[a8]?=σ (Δ b,Δ ((cs.count b:Nat):Int)):=by rw[x8,bb];rfl
  rw[jW (v:=Δ q.1) rfl,jW (v:=Δ q.2) rfl];have aI:(B++[q]++z.eraseIdx j).Perm E:=by
   refine List.Perm.trans ?_ U;rw[Y7];exact List.Perm.append_left B (yg s)
  have aJ:rf aq N<rf C N:=by
   rw[uZ O,uZ aE];have:=DI (x4.1 e).1;omega
  refine aV (λv bd=>aq=bd/\∃r:Bool,v= .bool r/\(r=rs↔(cs.count b<cs.count q.1\/(cs.count q.1=cs.count b/\q.1<b)))) ?_ ?_
  .rintro _ _ ⟨rfl,r,rfl,W⟩;rw[bM];refine⟨λbe=>?_,λaK=>?_⟩
   .have W:=W.1 be;refine⟨⟨q.1,B++[q],z.eraseIdx j,_,_,rfl,a7,an.F aG,O,(oJ ik z j),aI,λp e=>?_⟩,aJ⟩;rcases o9.1 e with e|e
    .have:=ap p e;omega
    .rw[b8.1 e];exact .inr ⟨rfl,Int.le_refl _⟩
   .have W:¬(cs.count b<cs.count q.1\/(cs.count q.1=cs.count b/\q.1<b)):=λh=>by rw[W.2 h]at aK;cases aK
    refine⟨⟨b,B++[q],z.eraseIdx j,_,_,rfl,am,an.F aG,O,(oJ ik z j),aI,λp e=>?_⟩,aJ⟩;rcases o9.1 e with e|e
    .exact ap p e
    .rw[b8.1 e];omega
  .intro az av;have aM:∀K:x1->Prop,ab x7 (Instr.lookup nz (.map (σ m)) (Δ b) sp) aq K=K (Δ ((cs.count b:Nat):Int)):=λK=>by
    rw[sC nz.u sV O.map (sW E) ⟨_,rfl⟩ bc];simp
   rw[aM,bG,aj];refine⟨λh1=>av _ _ ⟨rfl,rs,rfl,⟨λ_=>.inl Ω,λ_=>rfl⟩⟩,λh1=>?_⟩;rw[aM,bi,aj];refine⟨λbf=>?_,λbf=>av _ _ ⟨rfl,sp,rfl,⟨λh=>(by cases h),λh=>Ω⟩⟩⟩;rw[aP];refine av _ _ ⟨rfl,_,rfl,?_⟩;rw[rc];omega
theorem PV{g:Nat}{k:o4}{p:r8}(h:an k e w g v l)(q:ag w j p cs)(x:e≠p)(s:li v r):r≠j:=by
 obtain⟨rfl,_⟩:=bD h s;obtain⟨_,⟨rfl,_⟩|⟨_,_,_,f,_⟩⟩:=h
 .obtain⟨a,n,c,h,_⟩:=s;cases h
 .rintro rfl;unfold ag at q f;rw[q]at f;injection f with h1;injection h1 with z y;exact x y.symm
def PW(w:x3)(szs:Λ)(k:Int)(cs:Λ)(v:x1)(I:x3):Prop:=Ext w I/\∃g m o D,v=Γ g/\e1 I g m szs k o D/\D.length<=(aB szs).toNat/\jI szs (jF D o) cs/\vr cs o
theorem PX{g bN:Nat}{cs:Λ}(h:cd w g bN sv szs k cs)(aE:∀c∈cs,cK c k):ak x7 JG [Γ g] w (PW w szs k cs):=by
 obtain⟨⟨aY,gs,a8,hm,cl⟩,⟨_,_,bb⟩,U,al⟩:=id h;have cm:=prod_bound U;have cn:=U.1;have bc:cs≠[]:=λhe=>by rw[he]at al;simp at al;omega
 refine je func143 ?_;rw[cV dp.u];simp only[l9,aW];refine(nP h).X ?_;rintro bK V _ ⟨O,cp,cq,aG⟩;refine bu au.i λam cr ct be bf=>?_;have cu:=bf.lt;refine bw au.i aG.ls.cells.1 aG.ls.cells.2 bf (by simp[T5]) λan bO cw ap=>?_;have ap:ag an am au [bK]:=ap;have s2:=O.size;have cz:=be.size;have bg:Ext V an:=be.put bO Ω;have bh:=aG.W bg;have Z:=O.F bg;refine aV (λu aq=>∃a E m o K L,u=Γ a/\Ext an aq/\ag aq a e8 [Γ E]/\an.heap.size<=m/\gp aq E m K L szs k o []/\vr cs o) ?_ ?_
 .rintro _ aq ⟨a,E,m,o,K,L,rfl,ac,e,cA,A,C⟩;have bP:=h.W (Z.F ac);have bQ:=ap.W ac;have bR:=bh.W ac;refine(nQ bP).X ?_;rintro _ cB _ ⟨rfl,bS⟩;refine pO.X ?_;rintro _ aH _ ⟨bT,bi,rfl,cD,bj⟩;have P:=bS.F bT;have bl:=A.W P;have bU:=bQ.W P;have bm:=e.W P;have bV:=bR.W P;have bp:=hm.W ((Z.F ac).F P);have Q:=bl.2.2.1;have bW:=(Z.F ac).F P;have cE:=Z.size;have bX:=pN (g:=bi) (B0:=aH.heap.size) (sv:=sv) U;refine mp.old ⟨Nat,sp,kp,#[Γ bi],_,_,_,_,λi I=>af (λr=>r=m) aH I/\∃D,D.length<=i/\gp I E m K L szs k o D/\∀(j:Nat)t,(bk szs)[j]?=σ t->jF D o t=if j<i then bd szs cs t else o,λ_ _ _=>False,rfl,bX.s,
   ?_,λ_ _ S h=>⟨h.1.W S,h.2.1.W S,Y1 h.2.2 S.size⟩,λ_ _ _ S ⟨h1,D,bY,bZ,bb⟩=>⟨h1.F (S.aa _),D,bY,bZ.W S,bb⟩,λ_ _ _ _ _ h=>h,⟨bj,bp.ls,o5 _⟩,⟨af.refl _ _,[],o5 _,bl,λj t _=>by rw[m6 Ω];rfl⟩,?_,?_,λ_ _ h=>h.elim,λ_ _ _ h=>h.elim⟩
  .rintro _ _ _ _ ⟨_,_,_,_,rfl,_⟩;rfl
  .rintro _ aO i _ b0 ⟨cF,cG,b2⟩ ⟨hi,rfl,cH,gt,b3,cI,y⟩ ⟨aw,D,bq,aI,aJ⟩;cases b3;have aK:(bk szs)[i]?=σ (b1 szs (i:Int)):=q0 U.2 Ω;have b4:=q2 U.2 hi;generalize b1 szs (i:Int)=t at*;have br:=OJ U.2 al aK;intro b5 ax _ _;intro b6 b7 _ _;have ay:=ax.F b7;have aA:af (λr=>r=m) aH b6:=aw.F (ay.aa _);rw[av Ψ ((vq bm Q aA).cell rfl),av Ψ ((vq bU Q aA).cell rfl),ba au.u ao.i Ψ (ER bV Q aA).ls br];have aL:=aI.W ay;refine(DH aL.is (y.W ay).ls).X ?_;rintro _ cJ _ ⟨_,b8⟩;obtain⟨rfl,aM,D',bs,bt⟩:=b8 ⟨b4,aE _ (x5 br)⟩;have aN:=aA.F aM;have cL:=bs.2;refine⟨⟨vq bj Q aN,(ER bp Q aN).ls,Y1 b2 (Y1 ay.size aM.size)⟩,⟨aN,D',Ω,aL.put aM bt,λj s M=>?_⟩,λh=>by cases h⟩;rw[bs.cost aL.is.nodup bt.nodup];by_cases bx:j=i
   .subst bx;rw[aK]at M;cases M;rw[m5 rfl,m5 Ω]
   .rw[m6 (λ(he:s=t)=>bx (PS U.2 (by rw[<-he];exact M) aK)),aJ j s M];by_cases h1:j<i
    .rw[m5 h1,m5 Ω]
    .rw[m6 h1,m6 Ω]
  .rintro i b0 rfl ⟨aw,D,bq,aI,aJ⟩;rw[av Ψ ((vq bm Q aw).cell rfl)];intro b5 ax _;refine⟨(bW.put aw Ω).F ax,E,m,o,D,rfl,aI.is.W ax,bq,⟨al,λt b9=>?_⟩,C⟩;obtain⟨j,M⟩:=PT U.2 b9;have:=(x4.1 M).1;rw[jz U.2]at this;rw[aJ j t M,m5 this]
 intro az bz;intro z ad _ _;have aP:=Z.F ad;have bA:=ad;have aB:=h.W aP;have bB:=bh.W ad;have cM:=ad.size;rw[av Ψ ((ap.W ad).cell rfl)];have bC:∀{a:Nat}{I:x3}{aO:x1}{o:Int},Ext z I->z.heap.size<=a->(∃f,ag I a e8 [f])->aF .i64 I aO szs->vr cs o->
   ak x7 qI [aO,Δ k,Δ o] I λB q=>ab x7 (c7 B 0) q λN=>ab x7 (c7 B 1) q λ_=>aD x7 (o6 e8 (Γ a) N) q λ(_:Unit)G=>az (Γ a) G:=by
  rintro a I aO o x p ⟨f,e⟩ y C;refine(DB y).X ?_;rintro _ q _ ⟨aQ,_,_,aR⟩;obtain⟨E,m,rfl,ca,cb,A⟩:=aR U (aE _ C.1);obtain⟨K,L,A⟩:=A.at;rw[bn,bo];have cc:=e.lt;have s':=x.size;refine bw e8.i rfl rfl (e.W aQ) Ξ λG bD cN ce=>?_;refine bz _ _ ⟨a,E,m,o,K,L,rfl,((bA.F x).F aQ).put bD Ω,ce,Ω,A.aa bD (λhe=>by have he:=he;omega) (λhe=>by have he:=he;omega) (λr aS he=>?_),C⟩;exact PV A.2.1 (e.W aQ) Φ aS he
 have bE:∀{a:Nat}{I:x3}{aO:x1},Ext z I->z.heap.size<=a->(∃f,ag I a e8 [f])->aF .i64 I aO szs->
   ak x7 uq [bK] I λae V=>ak x7 qI [aO,Δ k,ae] V λB q=>ab x7 (c7 B 0) q λN=>ab x7 (c7 B 1) q λ_=>aD x7 (o6 e8 (Γ a) N) q λ(_:Unit)G=>az (Γ a) G:=by
  rintro a I aO x p ⟨f,e⟩ y;refine(ET (bB.W x).ls bc Ω).X ?_;rintro _ V _ ⟨O,o,rfl,C⟩;exact bC (x.F O) p ⟨f,e.W O⟩ (y.W O) C
 have bF:∀{a:Nat}{I:x3}{aO:x1},Ext z I->z.heap.size<=a->(∃f,ag I a e8 [f])->aF .i64 I aO szs->
   ak x7 xi [Γ g] I λaT J=>(Ext z J\/cC x7 (u4 au (Γ am)) bK J/\True)/\
    ak x7 uq [bK] J λae V=>ak x7 qI [aO,aT,ae] V λB q=>ab x7 (c7 B 0) q λN=>ab x7 (c7 B 1) q λ_=>aD x7 (o6 e8 (Γ a) N) q λ(_:Unit)G=>az (Γ a) G:=by
  rintro a I aO x p ⟨f,e⟩ y;refine(x9 (aB.W x)).X ?_;rintro _ J _ ⟨rfl,H⟩;exact⟨.inl (x.F H),bE (x.F H) p ⟨f,e.W H⟩ (y.W H)⟩
 have bG:szs.length<=1000:=Ω
 have bH:∀{a:Nat}{I:x3},Ext z I->z.heap.size<=a->(∃f,ag I a e8 [f])->
   ak x7 xe [.agg #[sv]] I λcf w0=>(Ext z w0\/cC x7 (u4 au (Γ am)) bK w0/\True)/\
    ak x7 xi [Γ g] w0 λaT J=>(Ext z J\/cC x7 (u4 au (Γ am)) bK J/\True)/\
    ak x7 uq [bK] J λae V=>ak x7 qI [cf,aT,ae] V λB q=>ab x7 (c7 B 0) q λN=>ab x7 (c7 B 1) q λ_=>aD x7 (o6 e8 (Γ a) N) q λ(_:Unit)G=>az (Γ a) G:=by
  rintro a I x p ⟨f,e⟩;refine(uT (hm.W (aP.F x)).ls bG).X ?_;rintro aO J _ ⟨H,_,_,y⟩;exact⟨.inl (x.F H),bF (x.F H) p ⟨f,e.W H⟩ y.ls⟩
 have ah:∀{I:x3}{R:x1->x3->Prop},Ext z I->(∀a ai,z.heap.size<=a->Ext I ai->(∃f,ag ai a e8 [f])->R (Γ a) ai)->aD x7 (S5 e8 rs (.tuple #[])) I R:=λ{I}{R}x cg=>by
  have:=x.size;exact bu e8.i λa ai p ch a8=>cg a ai Ω ch ⟨_,a8⟩
 refine⟨?_,ah (Ext.refl _) λa cO p aC e=>⟨.inl aC,?_⟩⟩
 rotate_left
 .refine (nQ (aB.W aC)).X ?_;rintro _ cP _ ⟨rfl,aU⟩;obtain⟨f,e⟩:=e;exact⟨.inl (aC.F aU),bH (aC.F aU) p ⟨f,e.W aU⟩⟩
 refine(nQ aB).X ?_;rintro _ cQ _ ⟨rfl,W⟩;refine⟨.inl W,?_,ah W λa cR p bI e=>⟨.inl (W.F bI),bH (W.F bI) p e⟩⟩;refine(uT (hm.W (aP.F W)).ls bG).X ?_;rintro aO cS _ ⟨ci,_,_,y⟩;have X:=W.F ci;refine⟨.inl X,?_,ah X λa cT p aX e=>⟨.inl (X.F aX),bF (X.F aX) p e (y.W aX).ls⟩⟩;refine(x9 (aB.W X)).X ?_;rintro _ cU _ ⟨rfl,aZ⟩;have Y:=X.F aZ;refine⟨.inl Y,?_,ah Y λa cW p a1 e=>⟨.inl (Y.F a1),bE (Y.F a1) p e ((y.W aZ).W a1).ls⟩⟩;refine(ET (bB.W Y).ls bc Ω).X ?_;rintro _ cX _ ⟨bJ,o,rfl,C⟩;have aj:=Y.F bJ;have bL:=(y.W aZ).W bJ;refine⟨?_,ah aj λa cY p a2 e=>⟨.inl (aj.F a2),bC (aj.F a2) p e (bL.W a2).ls C⟩⟩;refine(DB bL.ls).X ?_;rintro _ cZ _ ⟨cj,_,_,aR⟩;obtain⟨E,m,rfl,ca,cb,A⟩:=aR U (aE _ C.1);obtain⟨K,L,A⟩:=A.at;rw[bn,bo];have a6:=aj.F cj;refine bu e8.i λa c0 p a7 e=>?_;refine⟨.inl (a6.F a7),?_⟩;have cc:=e.lt;obtain⟨c1,c2,t3⟩:=A.sA;have c3:=aj.size;have c4:=a6.size;refine bw e8.i rfl rfl e (by simp[T5]) λc5 bM c6 ck=>?_;exact bz _ _ ⟨a,E,m,o,K,L,rfl,((bA.F a6).F a7).put bM Ω,ck,Ω,(A.W a7).aa bM (λhe=>by have he:=he;omega) (λhe=>by have he:=he;omega) (λr aS he=>by have he:r=a:=he;have:=t3 r aS;omega),C⟩
theorem EU{acc:List cZ}{g:cZ}(h:∀x∈acc,x.1≠g.1):jE k acc g=acc++[g]:=by
 grind [jE]
theorem PY{acc:List cZ}{g h:cZ}{i:Nat}(e:kH acc)(hi:acc[i]?=σ h)(he:h.1=g.1):jE k acc g=acc.set i (h.1,bX k h.2 g.2):=by
 have p:=(x4.1 hi).1;unfold jE;rw[m5 (o8.2 ⟨h,x5 hi,he⟩)];refine j9 λj=>?_;rw[x8,Y8];by_cases a:i=j
 .grind
 .rw[m6 a];cases q:acc[j]? with
  |none=>rfl
  |some y=>
   have:y.1≠g.1:=λr=>a (by
    have h1:(acc.map (·.1))[i]?=σ g.1:=by grind
    have f:(acc.map (·.1))[j]?=σ g.1:=by grind
    exact mQ e h1 f)
   grind
theorem PZ{α β:Type}{f:β->α->β}{b:β}{l:List α}{i:Nat}{x:α}(h:l[i]?=σ x):(l.take (i+1)).foldl f b=f ((l.take i).foldl f b) x:=by
 grind [u5]
def oL(w:x3)(k:Int)(co:Λ)(x:cr):Prop:=(∃a,an .i64 ae w a x.sv x.sc)/\∃m o D,e1 w x.g m (aA co x.sc) k o D/\D.length<=4096/\jI (aA co x.sc) (jF D o) x.cs
theorem oL.W{x:cr}(h:oL w k co x)(a:Ext w I):oL I k co x:=by
 obtain⟨⟨e,h1⟩,m,o,D,f,j⟩:=h;exact⟨⟨e,h1.W a⟩,m,o,D,f.W a,j⟩
theorem oL.aa{x:cr}(h:oL w k co x)(f:af S w I)(j:∀r,S r->∃e c,ag w r e c/\e≠fM/\e≠ae):oL I k co x:=by
 obtain⟨⟨s,h1⟩,m,o,D,y,z⟩:=h;obtain⟨sv,gs,a⟩:=y.at;have p:∀{g:Nat}{v:x1}{l:Λ},an .i64 ae w g v l->∀r,li v r->¬S r:=by grind [ch]
 refine⟨⟨s,bl h1 f (p h1)⟩,m,o,D,(a.aa f (λU=>?_) (λU=>?_) (p a.2.1)).is,z⟩
 .obtain⟨e,c,q,A,_⟩:=j _ U;have B:=a.1
  grind [ag]
 .obtain⟨e,c,q,_,_⟩:=j _ U;exact vh q a.2.2.1 rfl
def sX(w:x3)(g:Nat)(v:x1)(k:Int)(co:Λ)(L:List cr):Prop:=bm fd 2 cN w g v L/\∀x∈L,oL w k co x
theorem sX.W{g:Nat}{L:List cr}(h:sX w g v k co L)(a:Ext w I):sX I g v k co L:=⟨h.1.W a,λx e=>(h.2 x e).W a⟩
def P0(w:x3)(B a:Nat)(f:ca):Prop:=∃d9 e gz g L,ag w a cH [cb f.name,Δ f.k,d9,e]/\an .i64 ae w gz d9 f.co/\sX w g e f.k f.co L/\L.map ec=gj f/\B<=a/\(∀r,li d9 r->B<=r)/\∀x∈L,∀r,li x.sv r->B<=r
theorem P1{g bx:Nat}{L:List cr}{q:Λ}(h:fk w g v L)(B:ag w bx ai [sv])(U:aF .i64 w sv q):
  ak x7 BC [v,.func (.func BD) #[] #[Γ bx]] w λr I=>Ext w I/\((r=Δ (-1)/\∀x∈L,x.sc≠q)\/∃i:Nat,r=Δ (i:Int)/\∃x,L[i]?=σ x/\x.sc=q):=by
 refine ay func131 ?_;rw[eI gE.u h.1];refine bT.range L.length (λi _ J=>Ext w J/\∀x∈L.take i,x.sc≠q) h.1.le ⟨Ext.refl _,λc a=>by simp at a⟩ ?_ ?_
 .rintro i _ J k hi ⟨f,s⟩ hk;refine bt Ω ?_;obtain⟨x,y⟩:=aC (l:=L) hi;rw[vp rfl (h.W f) y];show ak x7 BD [lq x,Γ bx] J _;obtain⟨⟨E,hm⟩,_⟩:=(h.W f).at y;refine ay func132 ?_;refine bj λam V G j z=>?_;have z:ag V am c4 [x.sv,Γ x.g]:=by
   obtain⟨_,_,_,e⟩:=cE hm.ls;simp only[lq,fd,e]at z ⊢;exact z
  rw[aK c4.p 0 z rfl,av Ψ ((B.W (f.F j)).Qz rfl)];refine(se (hm.ls.W j) (U.W (f.F j))).X ?_;rintro _ H _ ⟨rfl,A⟩;rw[aj];refine⟨λhe=>⟨(f.F j).F A,.inr ⟨i,rfl,x,y,he⟩⟩,λC=>?_⟩;rw[aL];refine hk _ _ ⟨(f.F j).F A,λc a=>?_⟩;rw[u5,y]at a;rcases o9.1 a with a|a
  .exact s c a
  .simp at a;subst a;exact C
 .rintro _ J k ⟨f,s⟩;rw[p8]at s;rw[aP,aj];exact⟨λh=>Ω,λ_=>⟨f,.inl ⟨rfl,s⟩⟩⟩
def e3(f:ca)(i:Nat):List cZ:=((f.d7.take i).map (jD f.co f.k)).foldl (jE f.k) []
theorem EV{f:ca}(a:fb N f)(i:Nat):(∀g∈e3 f i,ep f.co f.k g)/\kH (e3 f i)/\(e3 f i).length<=i:=by
 have:=yu (co:=f.co) (k:=f.k) (by have:=a.k.1;omega) (l:=(f.d7.take i).map (jD f.co f.k)) (acc:=[]) (λh ap=>by cases ap) List.nodup_nil λg j=>by
  obtain⟨x,p,rfl⟩:=o8.1 j;exact rj a (V4 p)
 refine⟨this.1,this.2.1,?_⟩;have e:=this.2.2;rw[List.length_nil,r9,V0,j6]at e;exact Y1 e (Nat.min_le_left _ _)
theorem yH{f:ca}{i:Nat}{x:cv}(h:f.d7[i]?=σ x):e3 f (i+1)=jE f.k (e3 f i) (jD f.co f.k x):=by
 unfold e3;rw[u5,h,l7,n9,List.foldl_append];rfl
theorem EW(f:ca):e3 f f.d7.length=gi f:=by unfold e3 gi;rw[p8]
theorem EX{L:List cr}{i:Nat}{x:cr}{D:List cZ}(h:L.map ec=D)(a:L[i]?=σ x):ec x∈D:=by rw[<-h];exact o8.2 ⟨x,x5 a,rfl⟩
def P2(w:x3)(f:ca)(v:x1)(I:x3):Prop:=Ext w I/\((¬nX f.d7<=16384/\∃e:Int,e≠0/\v= .tuple #[.pointer ν,Δ e])\/∃a,v= .tuple #[Γ a,Δ 0]/\P0 I w.heap.size a f)
theorem vt{g e:Nat}{sc cs:Λ}(hm:an .i64 ae w g sv sc):∀u∈fd ⟨sv,e,sc,cs⟩,u.oneCell'=rs:=λu a=>by
 simp[fd]at a;rcases a with rfl|rfl
 .exact hm.ls.cells.2
 .rfl
theorem P3{bH:Nat}{f:ca}(bI:mV w bH f)(G:fb N f)(bJ:N<=60000)(cP:f.name≠[]/\∀b∈f.name,b7 b=rs):
  ak x7 II [Γ bH] w (P2 w f):=by
 have hk:=G.k;refine ay func63 ?_;refine(Pr bI G bJ cP).X ?_;rintro _ J _ ⟨aI,e,rfl,he⟩;rw[bz,aj];refine⟨λbK=>⟨aI,.inl ⟨λh=>bK (he h),e,bK,rfl⟩⟩,λea=>?_⟩;have bL:=bI.W aI;obtain⟨d9,aJ,gz,a2,bM,cQ,a6,aM⟩:=id bL;have eb:a2.length<=256:=by rw[aM.1];exact G.mO
 rw[aN cH.p 3 bM rfl,jf dM.u a6];refine bT.range a2.length (λi l V=>∃g L,Ext J V/\fk V g l L/\Sem V f.k f.co L/\L.map ec=e3 f i/\(∀r,lc l r->J.heap.size<=r)/\∀x∈L,∀r,li x.sv r->J.heap.size<=r) (qP a6)
  ⟨0,[],Ext.refl _,⟨bm.nil _ _ _ _ _,λx ap=>(by cases ap)⟩,λx ap=>(by cases ap),rfl,by grind [gl],by grind⟩ ?_ ?_
 .rintro i l V cR hi ⟨g,L,R,au,aO,S,bO,cS⟩ ed;obtain⟨d,bP⟩:=aC (l:=a2) hi;obtain⟨x,a7⟩:∃x,f.d7[i]?=σ x:=⟨_,x6 (by have:=aM.1;omega)⟩;have bQ:=x5 a7;have cT:=aM.2 i x d a7 bP;have U:=rj G bQ;obtain⟨cU,ee,ef⟩:=EV G i;have cV:L.length<=i:=by grind
  refine bt Ω ?_;refine aV (λfB aP=>∃W aw,Ext J aP/\fk aP W fB aw/\Sem aP f.k f.co aw/\aw.map ec=e3 f (i+1)/\(∀r,lc fB r->J.heap.size<=r)/\∀x∈aw,∀r,li x.sv r->J.heap.size<=r) ?_ ?_
  .rintro fB aP ⟨W,aw,h1,eg,eh,ei,ej⟩;rw[aL]
   grind
  intro az bR;refine nM (α:=iz) cN.p rfl dM.u cN.i (bN a6 R) bP λcs a8=>?_;have bV:cs.length=2:=aq.len a8;refine bu cN.i λam ek em cW cX=>?_;refine b4 (vs:=cs) cN.i bV rfl (aq.one a8) cX λcY cZ en c0=>?_;have H:Ext V cY:=cW.put cZ Ω;rw[bC cN.p cN.i bV c0.range];refine(PB G bJ bQ cT (bN a8 H)).X ?_;rintro _ c1 _ ⟨c2,sv,gs,bW,c3,c6,rfl,eo,X,bY⟩;rw[bn,bo];refine bu ai.i λbx er es c7 c8=>?_;refine bw ai.i X.ls.cells.1 X.ls.cells.2 c8 (by simp[T5]) λbZ c9 et aQ=>?_;have ba:Ext c1 bZ:=c7.put c9 Ω;have aQ:ag bZ bx ai [sv]:=aQ;rw[jX];have bb:=(H.F c2).F ba;have z28:=bb.size;have eu:=R.size;refine(P1 (au.W bb) aQ (X.ls.W ba)).X ?_;rintro _ ev _ ⟨aR,A⟩;have aS:=bb.F aR;have b0:=ba.F aR;have bc:=X.W b0;have b1:=bY.W b0;have b2:=aQ.W aR;have b3:=au.W aS;have bd:=aO.W aS;rcases A with⟨rfl,da⟩|⟨db,rfl,y,C,dc⟩
  .refine bt Ω ?_;rw[av Ψ (b2.Qz rfl),dq (cs:=#[sv,Γ bW]) (by obtain⟨_,_,_,rfl⟩:=cE X.ls;kernel_rfl)];let a:cr:=⟨sv,bW,bB x.scope,(jD f.co f.k x).2⟩;have be:∀u∈fd a,u.oneCell'=rs:=vt bc;refine iS (f:=fd) (a:=a) gE.u c4.i Ω rfl rfl λew ey dd ez Y de=>?_;have Z:=b3.W Y;refine jk (f:=fd) (a:=a) gE.u c4.i rfl Z.1 (by simpa using de.sl) be Ω Ω λax W eA aD b5 aE=>?_;have cc:=bc.W Y;have cd:∀{r:Nat},lc l r->∃c,ag dd r c4 c:=λA=>by
    obtain⟨rfl,c,B⟩:=dJ Z.1 A
    grind
   refine bR _ _ ⟨W,L++[a],((R.F aS).F Y).then aE (by grind),fk.mk aD λz s=>?_,λz s=>?_,?_,λr A=>?_,λz s r A=>?_⟩
   .rcases o9.1 s with s|s
    .have:=(Z.2 z s).aa aE λr A he=>(Z.2 z s).2.1 r A (Z.1.li he).1;exact⟨this.1,this.2.2⟩
    .rw[b8.1 s];exact⟨⟨gs,bl cc aE λr A he=>by obtain⟨c,B⟩:=cd he;exact ch cc B Φ A rfl⟩,U.scope⟩
   .rcases o9.1 s with s|s
    .exact (bd.W Y).row Z aE z s
    .rw[b8.1 s];exact⟨c3,c6,yD (b1.W Y) aE Ω⟩
   .rw[n9,S,yH a7,EU]
    .rfl
    .intro c E df;rw[<-S]at E;obtain⟨z,s,rfl⟩:=o8.1 E;exact da z s df
   .rcases b5 r A with h|h
    .grind
    .have:=Y.size;have:=aR.size;omega
   .rcases o9.1 s with s|s
    .grind
    .rw[b8.1 s]at A;have eB:=(bD X A).1;have:=H.size;omega
  .refine b6 Ω ?_;intro eC K _ _;have bf:=b3.W K;have cf:=(x4.1 C).1;obtain⟨dg,dh,aU⟩:=(bd.W K) y (x5 C);have cg:=b2.W K;have ci:=bc.W K;have di:=b1.W K;rw[c5 rfl gE.u c4.i bf.1 cf,aT c4.p rfl,av Ψ (bf.1.range C 1 _ rfl),av Ψ (cg.Qz rfl),av Ψ (cg.Qz rfl)];have aF:ep f.co f.k (ec y):=cU _ (EX S C);rw[dc]at aU;have cj:∀{c:Int},0<=c/\c<=f.k->cK c f.k:=λh=>⟨hk,h.1,h.2⟩;refine(EO aU di ci.ls ci.ls hk (λc E=>cj (aF.fP c E)) (λc E=>cj (U.fP c E))).X ?_;intro eD dj _ dk;have dl:y.cs.length=(aB (aA f.co (bB x.scope))).toNat:=by grind [ep.len,ec]
   have dm:bU (aA f.co (bB x.scope)):=bY.2.2.1;obtain⟨bg,dn,dr,ds,eE,rfl,eF⟩:=PQ U.up (λv dt=>(U.scope.1 v dt).1) (by simp[aA];rfl) dm U.small dl U.len dk;rw[gY,gZ,ia];have O:=bf.W bg;rw[c5 rfl gE.u c4.i O.1 cf,aT c4.p rfl];let a:cr:=⟨y.sv,dn,y.sc,bX f.k y.cs (jD f.co f.k x).2⟩;refine re (f:=fd) (j:=1) (a:=y) (a':=a) dp.i rfl rfl O.1 C rfl Ω λdu aW eH dv=>?_;have cd:∀{r:Nat},lc l r->∃c,ag dj r c4 c:=λA=>by
    obtain⟨rfl,c,B⟩:=dJ O.1 A
    grind
   refine bR _ _ ⟨g,L.set db a,((R.F aS).F (K.F bg)).then aW (by grind),fk.mk dv λz s=>?_,λz s=>?_,?_,bO,λz s=>?_⟩
   .have eJ:∀z∈L,(∃bh,an .i64 ae du bh z.sv z.sc)/\lV z.sc:=λz s=>by
     have:=(O.2 z s).aa aW λr A he=>(O.2 z s).2.1 r A (O.1.li he).1;exact⟨this.1,this.2.2⟩
    grind
   .rcases T4 s with s|rfl
    .exact ((bd.W K).W bg).row O aW z s
    .refine⟨dr,ds,yD ?_ aW Ω⟩
     grind
   all_goals grind [V5,yH,PY,jD,ec]
 .rintro l V cR ⟨g,L,R,au,aO,S,bO,cS⟩;refine b6 Ω ?_;rw[aM.1,EW]at S;have cV:L.length<=256:=by
   grind [mT,fb.mO]
  refine(PH au aO Ω).X ?_;rintro eK ck _ ⟨cl,cm,eL⟩;have dw:Ext J ck:=R.then cl (by grind);have dx:Sem ck f.k f.co (L.filter gu):=λz s=>(aO.row au cl) z (by grind);have eM:(L.filter gu).length<=L.length:=S8 _ _;refine(Py cm Ω).X ?_;rintro _ cn _ ⟨cp,M,bi,dy,cq⟩;have dz:Ext J cn:=dw.then cp (by grind);have ct:Sem cn f.k f.co M:=λz s=>(dx.row cm cp) z (bi.mem_iff.1 s);have eN:M.length<=256:=by rw[bi.length_eq];omega
  have eO:∀x∈M,∀r,li x.sv r->J.heap.size<=r:=by grind
  have dA:M.map ec=gj f:=by
   refine Ow G ?_ ?_
   .refine (bi.map ec).F ?_;rw[<-S,List.filter_map];exact .refl _
   .rw[List.pairwise_map];refine X5.2 λp q dC cu dD=>?_;exact dy p q _ _ (X8 _) dD cu (x6 dC) (x6 cu)
  intro eP aX _ _;have ab:=dz.F aX;have eQ:=bL.W ab;have bk:=bM.W ab;rw[aN cH.p 0 bk rfl,aN cH.p 1 bk rfl,aN cH.p 2 bk rfl];refine(jZ (cQ.ls.W ab) (by have:=G.co.2.1;omega)).X ?_;rintro aG cw _ ⟨P,dE,eR,bp⟩;refine⟨.inl P,?_⟩;rw[dq (cs:=#[cb f.name,Δ f.k,aG,.slice ν 0 0]) (by obtain⟨_,_,_,rfl⟩:=cE bp.ls;kernel_rfl)];refine bj λQ dF eS aY bq=>?_;have bq:ag dF Q cH [cb f.name,Δ f.k,aG,.slice ν 0 0]:=bq;have eU:=(ab.F P).F aY;have dG:=((cq.W aX).W P).W aY;have eV:=((ct.W aX).W P).W aY;rw[eI gE.u dG.1];refine ce.range M.length (λi ac=>∃aJ gr I,Ext cw ac/\ag ac Q cH [cb f.name,Δ f.k,aG,aJ]/\sX ac gr aJ f.k f.co I/\I.map ec=(M.take i).map ec/\I.length=i/\(∀r,lc aJ r->cw.heap.size<=r)/\∀x∈I,∀r,li x.sv r->J.heap.size<=r) Ω
   ⟨_,0,[],aY,bq,⟨bm.nil _ _ _ _ _,λx ap=>(by cases ap)⟩,rfl,rfl,by grind [gl],by grind⟩ ?_ ?_
  rotate_left
  .rintro ac dH ⟨aH,gr,I,ah,al,br,aZ,_,_,dI⟩;rw[p8,dA]at aZ;refine b6 Ω ?_;have eW:=aI.size;have eX:=ab.size;have eY:=P.size;exact⟨(aI.F (ab.F P)).F ah,.inr ⟨Q,rfl,aG,aH,dE,gr,I,al,bp.W ah,br,aZ,Ω,λr A=>by have:=(bD bp A).1;omega,by grind⟩⟩
  rintro i ac dH hi ⟨aH,gr,I,ah,al,br,aZ,eZ,dK,dI⟩ dL;obtain⟨y,C⟩:=aC (l:=M) hi;have cz:=(aX.F P).F ah;have cA:=cq.W cz;have cB:=cA.at C;obtain⟨dg,dh,aU⟩:=(ct.W cz) y (x5 C);have aF:ep f.co f.k (ec y):=by grind [vd]
  refine bt Ω ?_;rw[vp rfl cA C];refine bu c4.i λgy e0 e1 dN dO=>?_;refine b4 (vs:=fd y) c4.i rfl rfl cB.one dO λdP dQ e2 dR=>?_;have dS:Ext ac dP:=dN.put dQ Ω;intro e4 cC _ _;have bs:=dS.F cC;have cD:=dR.W cC;have dT:=al.W bs;rw[aN cH.p 3 dT rfl,aK c4.p 0 cD rfl,aK c4.p 1 cD rfl];refine(PX (aU.W bs) λc E=>⟨hk,(aF.fP c E).1,(aF.fP c E).2⟩).X ?_;rintro _ e5 _ ⟨bA,ad,m,o,D,rfl,dU,e6,dV,_⟩;refine⟨.inl bA,?_⟩;have cF:=bs.F bA;obtain⟨⟨bh,cG⟩,_,e7⟩:=cB;have cI:=cG.W cF;rw[dq (cs:=#[y.sv,Γ ad]) (by obtain⟨_,_,_,e⟩:=cE cG.ls;rw[e];kernel_rfl)];let a:cr:=⟨y.sv,ad,y.sc,y.cs⟩;have be:∀u∈fd a,u.oneCell'=rs:=vt cI;refine iS (f:=fd) (a:=a) dM.u cN.i Ω rfl rfl λv25 e8 bE e9 H dW=>?_;refine⟨.inl (bA.F H),?_⟩;have ao:=cF.F H;have a1:=br.W ao;refine jk (f:=fd) (a:=a) dM.u cN.i rfl a1.1 (by simpa using dW.sl) be Ω Ω λax W dX aD b5 cJ=>?_;have fa:=ah.size;have fc:=ao.size;have bF:ag dX Q cH [cb f.name,Δ f.k,aG,aH]:=(al.W ao).aa cJ λhe=>by
   obtain⟨rfl,c,B⟩:=dJ a1.1 he;have h1:=al.W ao;unfold ag at B h1;rw[h1]at B;exact m7 (Obj.cells.inj (Z7 B)).2.1 Φ
  rw[bS,aT cH.p rfl];have cL:ax.cells= #[ax]/\ax.oneCell'=rs:=by
   obtain⟨_,_,_,_,_,rfl,_⟩:=aD.sl;exact⟨rfl,rfl⟩
  refine bw dM.i cL.1 cL.2 bF Ξ λdY cM fe dZ=>?_;rw[aL];have bG:af (λr=>r=Q\/lc aH r) bE dY:=(cJ.X λr _ h=>.inr h).F (cM.X λr _ h=>.inl h);have cO:∀r,(r=Q\/lc aH r)->∃e c,ag bE r e c/\e≠fM/\e≠ae:=λr A=>by
   rcases A with rfl|A
   .exact⟨_,_,al.W ao,Φ,Φ⟩
   .obtain⟨rfl,c,B⟩:=dJ a1.1 A;exact⟨_,c,B,Φ,Φ⟩
  refine dL _ ⟨ax,W,I++[a],?_,dZ,⟨aD.aa cM λr A he=>?_,λz s=>?_⟩,?_,by grind,λr A=>?_,λz s=>?_⟩
  .exact (ah.F ao).then bG λr A he=>by
    rcases he with rfl|he
    .omega
    .have:=dK r he;omega
  .have he:r=Q:=he;subst he;obtain⟨rfl,c,B⟩:=dJ aD A;unfold ag at B bF;rw[bF]at B;exact m7 (Obj.cells.inj (Z7 B)).2.1 Φ
  .rcases o9.1 s with s|s
   .exact (a1.2 z s).aa bG cO
   .rw[b8.1 s];refine oL.aa (w:=bE) ⟨⟨bh,cI.W H⟩,m,o,D,dU.W H,?_,dV⟩ bG cO;have:=aF.small
    grind [ec]
  .rw[n9,aZ,u5,C,n9];rfl
  all_goals grind
theorem eJ{a:r8}{c f:List x1}(h:ag w r e c)(bf:ag w r a f):e=a:=by
 grind [ag]
theorem cO{α:Type}{f:α->List x1}{k:Nat}{a:r8}{g:Nat}{L:List α}(h:bm f k e w g v L)(q:ag w j a cs)(r:e≠a):¬lc v j:=λp=>by
 obtain⟨rfl,c,s⟩:=dJ h p
 grind [eJ]
structure mW where
 v:x1
 l:Λ
def sY(h:mW):List x1:=[h.v]
def iV(w:x3)(g:Nat)(v:x1)(aX:List mW):Prop:=bm sY 1 au w g v aX/\∀h∈aX,∃a,an .i64 ao w a h.v h.l
theorem iV.W{g:Nat}{aX:List mW}(h:iV w g v aX)(a:Ext w I):iV I g v aX:=⟨h.1.W a,λx e=>by
 obtain⟨f,hm⟩:=h.2 x e;exact⟨f,hm.W a⟩⟩
theorem iV.sZ{g:Nat}{aX:List mW}(h:iV w g v aX)(j:af S w I)(p:∀r,S r->∃e c,ag w r e c/\e≠ao):∀h∈aX,∃a,an .i64 ao I a h.v h.l:=λx f=>by
 obtain⟨a,hm⟩:=h.2 x f;exact⟨a,by grind [bl,ch]⟩
theorem iV.aa{g:Nat}{aX:List mW}(h:iV w g v aX)(a:af S w I)(f:∀r,S r->∃e c,ag w r e c/\e≠ao/\e≠au):iV I g v aX:=
 ⟨h.1.aa a λr j U=>by
  obtain⟨e,c,p,_,q⟩:=f r U;exact cO h.1 p (by grind) j,h.sZ a (by grind)⟩
def pY(w:x3)(k:Int)(co:Λ)(x:cr):Prop:=(∃a,an .i64 ae w a x.sv x.sc)/\∃e f,cd w x.g e f (aA co x.sc) k x.cs
theorem pY.W{x:cr}(h:pY w k co x)(a:Ext w I):pY I k co x:=by
 obtain⟨⟨e,h1⟩,f,j,p⟩:=h;exact⟨⟨e,h1.W a⟩,f,j,p.W a⟩
theorem EY{g f:Nat}{j:x1}{cs:Λ}(h:cd w g f j szs k cs)(a:af S w I)(y:∀r,S r->∃e c,ag w r e c/\e≠cp/\e≠ae/\e≠ao):cd I g f j szs k cs:=by
 obtain⟨⟨aY,gs,h1,p,q⟩,s⟩:=h;refine⟨⟨aY,gs,h1.aa a λU=>?_,bl p a λr x U=>?_,bl q a λr x U=>?_⟩,s⟩
 all_goals grind [eJ,ch]
theorem pY.aa{x:cr}(h:pY w k co x)(a:af S w I)(f:∀r,S r->∃e c,ag w r e c/\e≠cp/\e≠ae/\e≠ao):pY I k co x:=by
 obtain⟨⟨j,h1⟩,p,q,s⟩:=h;refine⟨⟨j,bl h1 a λr y U=>?_⟩,p,q,EY s a f⟩
 grind [ch]
def pZ(w:x3)(g:Nat)(v:x1)(k:Int)(co:Λ)(L:List cr):Prop:=bm fd 2 iM w g v L/\∀x∈L,pY w k co x
theorem pZ.W{g:Nat}{L:List cr}(h:pZ w g v k co L)(a:Ext w I):pZ I g v k co L:=⟨h.1.W a,λx e=>(h.2 x e).W a⟩
theorem pZ.aa{g:Nat}{L:List cr}(h:pZ w g v k co L)(a:af S w I)(f:∀r,S r->∃e c,ag w r e c/\e≠iM/\e≠cp/\e≠ae/\e≠ao):pZ I g v k co L:=
 ⟨h.1.aa a λr j U=>by
  obtain⟨e,c,p,s,_⟩:=f r U;exact cO h.1 p (by grind) j,λx q=>(h.2 x q).aa a (by grind)⟩
def gv(w:x3)(h:Nat)(n:aG):Prop:=∃a e f j gr aX L nm d9 gz fv2,ag w h fX [Γ a,Δ n.zero,e,f]/\ag w a cH [nm,Δ n.k,d9,fv2]/\an .i64 ae w gz d9 n.co/\
 iV w j e aX/\aX.map (·.l)=n.unary/\pZ w gr f n.k n.co L/\L.map ec=n.d7
theorem gv.W{e:Nat}{n:aG}(h:gv w e n)(a:Ext w I):gv I e n:=by
 obtain⟨f,j,p,q,gr,aX,L,nm,d9,gz,fv2,h1,r,s,x,y,z,A⟩:=h;exact⟨f,j,p,q,gr,aX,L,nm,d9,gz,fv2,h1.W a,r.W a,s.W a,x.W a,y,z.W a,A⟩
def s3(w:x3)(B:Nat)(k:Int)(co:Λ)(x:cr):Prop:=(∃f,an .i64 ae w f x.sv x.sc)/\(∃a e,cd w x.g a e (aA co x.sc) k x.cs/\B<=a/\∀r,li e r->B<=r)/\B<=x.g/\∀r,li x.sv r->B<=r
theorem s3.aa{x:cr}(h:s3 w B k co x)(a:af S w I)(f:∀r,S r->∃e c,ag w r e c/\e≠cp/\e≠ae/\e≠ao):s3 I B k co x:=by
 obtain⟨⟨j,h1⟩,⟨p,q,s,y⟩,z⟩:=h;refine⟨⟨j,bl h1 a λr A U=>?_⟩,⟨p,q,EY s a f,y⟩,z⟩
 grind [ch]
def nZ(w:x3)(B g:Nat)(v:x1)(k:Int)(co:Λ)(L:List cr):Prop:=bm fd 2 iM w g v L/\∀x∈L,s3 w B k co x
theorem nZ.W{g:Nat}{L:List cr}(h:nZ w B g v k co L)(a:Ext w I):nZ I B g v k co L:=⟨h.1.W a,λx e=>(h.2 x e).aa (a.aa λ_=>False) λ_ h=>h.elim⟩
theorem nZ.aa{g:Nat}{L:List cr}(h:nZ w B g v k co L)(a:af S w I)(f:∀r,S r->∃e c,ag w r e c/\e≠iM/\e≠cp/\e≠ae/\e≠ao):nZ I B g v k co L:=
 ⟨h.1.aa a λr j U=>by
  obtain⟨e,c,p,s,_⟩:=f r U;exact cO h.1 p (by grind) j,λx q=>(h.2 x q).aa a (by grind)⟩
theorem EZ:∃o:Obj,fI o=sp:=⟨.deferred ν,rfl⟩
theorem ghost(w:x3)(B:Nat):∃w0,Ext w0 w/\af (λr=>r<B) w w0/\∀r o,w0.heap[r]?=σ o->fI o=rs->B<=r:=by
 obtain⟨cB,e⟩:=EZ;have f:∀r,(w.heap.mapIdx λr o=>if r<B then cB else o)[r]?=(w.heap[r]?).map λo=>if r<B then cB else o:=λr=>Ξ
 refine⟨{w with heap:=w.heap.mapIdx λr o=>if r<B then cB else o},⟨Ξ,λr o a U=>?_⟩,⟨Ξ,λr o a U h=>?_⟩,λr o a U=>?_⟩
 all_goals grind
def E0(B:Nat)(w:x3)(a:Nat)(n:aG):Prop:=∃w0,gv w0 a n/\Ext w0 w/\∀r o,w0.heap[r]?=σ o->fI o=rs->B<=r
theorem P4{q f y gr gz:Nat}{n:aG}{j p nm d9 fv2:x1}{aX:List mW}{L:List cr}(h1:ag w q fX [Γ f,Δ n.zero,j,p])(E:ag w f cH [nm,Δ n.k,d9,fv2])(F:an .i64 ae w gz d9 n.co)(z:iV w y j aX)(G:aX.map (·.l)=n.unary)(A:nZ w B gr p n.k n.co L)(H:L.map ec=n.d7)(I:B<=q)(J:B<=f)(K:∀r,li d9 r->B<=r)(W:∀r,lc j r\/lc p r->B<=r)(X:∀h∈aX,∀r,li h.v r->B<=r):E0 B w q n:=by
 obtain⟨w0,s,a,M⟩:=ghost w B;have no:∀{r:Nat},B<=r->¬r<B:=Ω
 have C:∀{e:r8}{g:Nat}{v:x1}{l:Λ},an .i64 e w g v l->(∀r,li v r->B<=r)->an .i64 e w0 g v l:=by grind [bl]
 refine⟨w0,⟨f,j,p,y,gr,aX,L,nm,d9,gz,fv2,h1.aa a (no I),E.aa a (no J),C F K,⟨z.1.aa a (by grind),λh ap=>?_⟩,G,⟨A.1.aa a (by grind),λx s=>?_⟩,H⟩,s,M⟩
 .obtain⟨N,hm⟩:=z.2 h ap
  grind
 .obtain⟨⟨N,Y⟩,⟨O,P,⟨⟨aY,gs,Q,R,t3⟩,t4⟩,Z,S⟩,U,ab⟩:=A.2 x s;exact⟨by grind,O,P,⟨aY,gs,Q.aa a (no U),C R S,bl t3 a λr V=>no (by have:=(bD t3 V).1;omega)⟩,t4⟩
def kb(n:aG)(g:cZ):aG:=match g.1 with
 |[]=>{n with zero:=g.2.getD 0 0}
 |[v]=>{n with unary:=n.unary.set v.toNat g.2}
 |_=>{n with d7:=n.d7++[g]}
def E1(f:ca):aG:=⟨f.k,f.co,0,f.co.map λz=>u9 z.toNat 0,[]⟩
theorem P5(f:ca):dr f=(gj f).foldl kb (E1 f):=rfl
def ed(f:ca)(i:Nat):aG:=((gj f).take i).foldl kb (E1 f)
theorem yI{f:ca}{i:Nat}{g:cZ}(h:(gj f)[i]?=σ g):ed f (i+1)=kb (ed f i) g:=PZ h
theorem vu(f:ca):ed f (gj f).length=dr f:=by grind [ed,P5]
theorem P6(n:aG)(g:cZ):(kb n g).k=n.k/\(kb n g).co=n.co/\(kb n g).unary.length=n.unary.length/\(kb n g).d7.length<=n.d7.length+1:=by
 grind [kb]
theorem rl(f:ca):∀i,(ed f i).k=f.k/\(ed f i).co=f.co/\(ed f i).unary.length=f.co.length/\(ed f i).d7.length<=i
 |0=>⟨rfl,rfl,by show(f.co.map _).length=_;simp,X8 _⟩
 |i+1=>by
  have e:=rl f i;cases a:(gj f)[i]? with
  |none=>
   grind [ed,o7]
  |some g=>
   rw[yI a]
   grind [P6]
def P7(w:x3)(f:ca)(v:x1)(I:x3):Prop:=Ext w I/\((¬nX f.d7<=16384/\∃e:Int,e≠0/\v= .tuple #[.pointer ν,Δ e])\/∃a,v= .tuple #[Γ a,Δ 0]/\E0 w.heap.size I a (dr f))
theorem eK{k:Nat}(h:b5 w k v n cs):v.cells= #[v]/\v.oneCell'=rs:=by
 obtain⟨_,_,_,_,_,rfl,_⟩:=h;exact⟨rfl,rfl⟩
theorem P8{bM:Nat}{f:ca}(cl:mV w bM f)(X:fb N f)(cm:N<=60000)(cn:f.name≠[]/\∀b∈f.name,b7 b=rs):
  ak x7 Io [Γ bM] w (P7 w f):=by
 have hk:=X.k;refine ay func13 ?_;refine(P3 cl X cm cn).X ?_;rintro _ J _ ⟨ad,⟨cq,e,he,rfl⟩|⟨aH,rfl,ct⟩⟩
 .rw[bn,bo,bz,aj];exact⟨λ_=>⟨ad,.inl ⟨cq,e,he,rfl⟩⟩,λh=>m7 he h⟩
 rw[bn,bo,bz,aj];refine⟨Ω,λ_=>?_⟩;obtain⟨d9,cu,gz,dt,M,aZ,a1,bN,cw,cz,cA,cB⟩:=id ct;have du:M.length<=256:=by
  have h1:=(sP X).2.length_eq
  grind [mT,fb.mO]
 have dv:=X.co.2.1;rw[dq (cs:=#[Γ aH,Δ 0,.slice ν 0 0,.slice ν 0 0]) Ψ];refine bj λH V dw a2 a6=>?_;have a6:=a6;rw[aN cH.p 2 (aZ.W a2) rfl,aS ai.u (a1.ls.W a2)];refine ce.range f.co.length (λi ah=>∃s G aX,Ext J ah/\ag ah H fX [Γ aH,Δ 0,s,.slice ν 0 0]/\iV ah G s aX/\aX.map (·.l)=(f.co.take i).map (λz=>u9 z.toNat 0)/\(∀r,lc s r->J.heap.size<=r)/\∀h∈aX,∀r,li h.v r->J.heap.size<=r) Ω
  ⟨_,0,[],a2,a6,⟨bm.nil _ _ _ _ _,λx al=>(by cases al)⟩,rfl,λr q=>(gl q).elim,λx al=>(by cases al)⟩ ?_ ?_
 .rintro i ah cC hi ⟨s,G,aX,S,aI,a7,aJ,bO,W⟩ cD;obtain⟨z,A⟩:=aC (l:=f.co) hi;have dx:=X.co.2.2 z (x5 A);have dy:aX.length=i:=by grind [r9]
  refine bt Ω ?_;rw[ba ai.u ae.i Ψ (a1.ls.W S) A];intro dz a8 _ _;have cF:=aI.W a8;rw[aN fX.p 2 cF rfl];obtain⟨aM,rfl⟩:∃n:Nat,z=n:=⟨z.toNat,Ω⟩;refine jy au.u ao.i Ω Ω λbP dA dC bb cG=>?_;refine⟨.inl bb,?_⟩;have bQ:=an.of (bW.full (n:=aM) cG Ξ (by simp[maxLen];omega));let a:mW:=⟨.slice (σ ⟨bP,0,ν⟩) aM aM,u9 aM 0⟩;refine iS (f:=sY) (a:=a) eP.u au.i Ω rfl rfl λdD dE bc dF bd cI=>?_;refine⟨.inl (bb.F bd),?_⟩;have aO:=(a8.F bb).F bd;have aP:=a7.W aO;refine jk (f:=sY) (a:=a) eP.u au.i rfl aP.1 (by simpa using cI.sl) (λu be=>by rw[b8.1 (show u∈[a.v]from be)];rfl) Ω Ω λbf bg dG I cJ bR=>?_;have aq:∀{r:Nat},lc s r->∃c,ag bc r au c:=λq=>by
   obtain⟨rfl,c,B⟩:=dJ aP.1 q
   grind
  have bh:=aI.W aO;have bT:=bh.aa bR λhe=>cO aP.1 bh Φ he;rw[bS,aT fX.p rfl];refine bw eP.i (eK I.sl).1 (eK I.sl).2 bT Ξ λcK bU dH cL=>?_;rw[aL];have bk:af (λr=>lc s r\/r=H) bc cK:=(bR.X λr _ h=>.inl h).F (bU.X λr _ h=>.inr h);have Y:∀r,(lc s r\/r=H)->∃e c,ag bc r e c/\e≠ao:=λr q=>by
   rcases q with q|rfl
   .obtain⟨c,B⟩:=aq q;exact⟨_,c,B,Φ⟩
   .exact⟨_,_,bh,Φ⟩
  have bV:=ad.size;have z3:=S.size;have dI:=aO.size;refine cD _ ⟨bf,bg,aX++[a],(S.F aO).then bk (λr q he=>?_),cL,⟨I.aa bU λr q he=>?_,λy C=>?_⟩,?_,λr q=>?_,λy C r q=>?_⟩
  .grind
  .have he:r=H:=he;subst he;exact cO I bT Φ q
  .rcases o9.1 C with C|C
   .exact aP.sZ bk Y y C
   .rw[b8.1 C];have bX:=bQ.W bd;exact⟨bP,bl bX bk λr q U=>by
     obtain⟨e,c,B,cM⟩:=Y r U;exact ch bX B (λhe=>cM he.symm) q rfl⟩
  .rw[n9,aJ,u5,A,l7,n9];rfl
  .grind
  .rcases o9.1 C with C|C
   .grind
   .rw[b8.1 C]at q;have cP:=(bD bQ q).1;have:=a8.size;omega
 .rintro ah cC ⟨s,G,aX,S,aI,a7,aJ,bO,W⟩;refine b6 Ω ?_;rw[p8]at aJ;have cQ:=aZ.W S;have cR:=bN.W S;rw[aN cH.p 3 cQ rfl,eI dM.u cR.1];refine ce.range M.length (λi Z=>∃s E G gr aX L,Ext J Z/\ag Z H fX [Γ aH,Δ (ed f i).zero,s,E]/\iV Z G s aX/\aX.map (·.l)=(ed f i).unary/\nZ Z w.heap.size gr E f.k f.co L/\L.map ec=(ed f i).d7/\(∀r,lc s r\/lc E r->J.heap.size<=r)/\∀h∈aX,∀r,li h.v r->J.heap.size<=r) Ω
   ⟨s,_,G,0,aX,[],S,aI,a7,aJ,⟨bm.nil _ _ _ _ _,λx al=>(by cases al)⟩,rfl,λr q=>q.elim (bO r) λh=>(gl h).elim,W⟩ ?_ ?_
  rotate_left
  .rintro Z cS ⟨s,E,G,gr,aX,L,K,aQ,bp,aR,bY,aU,aw,W⟩;refine b6 Ω ?_;have cT:M.length=(gj f).length:=by grind
   have bq:=rl f M.length;rw[cT,vu]at aQ aR aU bq;have bV:=ad.size;refine⟨ad.F K,.inr ⟨H,rfl,P4 (gr:=gr) (nm:=cb f.name) (d9:=d9) (gz:=gz) (fv2:=cu) aQ ?_ ?_ bp aR ?_ aU Ω cz cA (λr q=>by have:=aw r q;omega) λh ap r q=>by have:=W h ap r q;omega⟩⟩
   .rw[bq.1];exact aZ.W K
   .rw[bq.2.1];exact a1.W K
   grind
  rintro i Z cS hi ⟨s,E,G,gr,aX,L,K,aQ,bp,aR,bY,aU,aw,W⟩ dK;obtain⟨y,C⟩:=aC (l:=M) hi;have cU:(gj f)[i]?=σ (ec y):=by grind
  have br:=vd X _ (EX cw C);have bs:=bN.W K;obtain⟨dL,dN,dO,dP⟩:=rl f i;refine bt Ω ?_;refine dh (λax=>∃s E G gr aX L,Ext J ax/\ag ax H fX [Γ aH,Δ (ed f (i+1)).zero,s,E]/\iV ax G s aX/\aX.map (·.l)=(ed f (i+1)).unary/\nZ ax w.heap.size gr E f.k f.co L/\L.map ec=(ed f (i+1)).d7/\(∀r,lc s r\/lc E r->J.heap.size<=r)/\∀h∈aX,∀r,li h.v r->J.heap.size<=r) ?_ ?_
  .rintro ax h;rw[aL]
   grind
  intro az bx;have cV:=bs.2 y (x5 C);obtain⟨⟨cW,bA⟩,m,o,D,cX,dQ,cY⟩:=cV;rw[c5 rfl dM.u cN.i bs.1 hi,bC cN.p cN.i rfl (bs.1.range C)];refine bu cN.i λam dR dS cZ c0=>?_;refine b4 (vs:=fd y) cN.i rfl rfl (vt bA) c0 λdT c1 dU bZ=>?_;have bB:=cZ.put c1 Ω;rw[aK cN.p 1 bZ rfl];refine(Et (cX.W bB) Ω).X ?_;rintro _ dV _ ⟨b0,_,ab⟩;obtain⟨g,c2,c3,dW,rfl,dX,c4,ab,c6⟩:=ab br.small;have c7:dd (aA f.co y.sc):=ab.2.2.1.2;have c8:=jI.eq c7 c6 cY;subst c8;have P:=bB.F b0;have bE:=bZ.W b0;have bF:=bA.W P;rw[bn,bo,aK cN.p 0 bE rfl,aS ai.u bF.ls];have bV:=ad.size;have z9:=K.size;have dY:=P.size;have bG:=aQ.W P;have bH:=bp.W P;have bI:=bY.W P;have da:=yI cU;rw[bi,aj];refine⟨λdZ=>?_,λea=>?_⟩
  .
   have b1:y.sc=[]:=c9 Ω;have ac:ed f (i+1)={ed f i with zero:=y.cs.getD 0 0}:=by grind [kb,ec]
   refine(nP ab).X ?_;rintro b2 db _ ⟨aV,eb,ee,dc⟩;have ef:y.cs.length=1:=by grind [ep.len,ec,aA,aB]
   have de:y.cs[0]?=σ (y.cs.getD 0 0):=by grind
   rw[ew (y:=0) (i:=0) rfl au.u ao.i Ψ dc.ls de,bS,aT fX.p rfl];have b3:=bG.W aV;refine bw ao.i rfl rfl b3 Ξ λeg bJ eh ei=>?_;have Y:∀r,r=H->∃e c,ag db r e c/\e≠iM/\e≠cp/\e≠ae/\e≠ao/\e≠au:=λr q=>by
    subst q;exact⟨_,_,b3,Φ,Φ,Φ,Φ,Φ⟩
   refine bx _ ⟨s,E,G,gr,aX,L,((K.F P).F aV).put bJ Ω,?_,(bH.W aV).aa bJ (λr q=>?_),by grind,(bI.W aV).aa bJ (λr q=>?_),by grind,aw,W⟩
   all_goals grind
  rw[bi,aj];refine⟨λh1=>?_,λej=>?_⟩
  .
   obtain⟨v,b1⟩:∃v,y.sc=[v]:=X3.1 Ω;have ek:=br.scope.1 v (by show v∈y.sc;grind);have em:=br.d6 v (by show v∈y.sc;grind);have ac:ed f (i+1)={ed f i with unary:=(ed f i).unary.set v.toNat y.cs}:=by grind [kb,ec]
   intro en Q _ _;have b5:=bG.W Q;have df:=bE.W Q;rw[aN fX.p 2 b5 rfl,aK cN.p 0 df rfl];refine pD rfl ai.u ae.i (bF.ls.W Q) (show y.sc[0]?=σ v by rw[b1];rfl) λb o dg=>?_;rw[av Ψ dg];refine(nP (ab.W Q)).X ?_;rintro b2 di _ ⟨aD,dj,eo,aE⟩;refine⟨.inl aD,?_⟩;have aF:=(bH.W Q).W aD;have er:aX.length=f.co.length:=by grind
   obtain⟨u,be⟩:=aC (l:=aX) (i:=v.toNat) Ω;rw[c5 (i:=v.toNat) Ω eP.u au.i aF.1 Ω];let a:mW:=⟨b2,y.cs⟩;refine re (j:=0) (a:=u) (a':=a) au.i aE.ls.cells.1 aE.ls.cells.2 aF.1 be rfl Ω λes aG et dk=>?_;have b9:=b5.W aD;have aq:∀{r:Nat},lc s r->∃c,ag di r au c:=λq=>by
    obtain⟨rfl,c,B⟩:=dJ aF.1 q
    grind
   refine bx _ ⟨s,E,G,gr,aX.set v.toNat a,L,(((K.F P).F Q).F aD).then aG (λr q he=>by have:=aw r (.inl he);omega),?_,⟨dk,λz A=>?_⟩,?_,((bI.W Q).W aD).aa aG (λr q=>?_),by grind,aw,λz A r q=>?_⟩
   .rw[ac];exact b9.aa aG λhe=>cO aF.1 b9 Φ he
   .rcases T4 A with A|rfl
    .exact aF.sZ aG (λr q=>by obtain⟨c,B⟩:=aq q;exact⟨_,c,B,Φ⟩) z A
    .exact⟨dj,bl aE aG λr q U=>by
      obtain⟨c,B⟩:=aq U;exact ch aE B Φ q rfl⟩
   .rw[ac,V5,aR]
   .obtain⟨c,B⟩:=aq q;exact⟨_,c,B,Φ,Φ,Φ,Φ⟩
   .rcases T4 A with A|rfl
    .grind
    .have cP:=(bD aE q).1;have:=Q.size;omega
  .
   have ac:ed f (i+1)={ed f i with d7:=(ed f i).d7++[ec y]}:=by
    rw[da];unfold kb;have cc:2<=(ec y).1.length:=by show 2<=y.sc.length;omega
    generalize ec y=g at cc ⊢;obtain⟨sc,cs⟩:=g
    match sc,cc with
    |_::_::_,_=>rfl
   intro eu R _ _;have cd:=bG.W R;have dl:=bE.W R;have cf:=bF.W R;rw[aN fX.p 3 cd rfl,aK cN.p 0 dl rfl,dq (cs:=#[y.sv,Γ g]) (by obtain⟨_,_,_,e⟩:=cE bA.ls;rw[e];kernel_rfl)];let a:cr:=⟨y.sv,g,y.sc,y.cs⟩;refine iS (f:=fd) (a:=a) my.u iM.i Ω rfl rfl λev ey bK ez O dm=>?_;refine⟨.inl O,?_⟩;have aW:=(bI.W R).W O;have dn:=(bH.W R).W O;have bL:=cd.W O;have eA:L.length<=256:=by grind
   refine jk my.u iM.i rfl aW.1 (by simpa using dm.sl) (vt (cf.W O)) Ω Ω λbf bg eB I cJ cg=>?_;have ci:=bL.aa cg λhe=>cO aW.1 bL Φ he;rw[bS,aT fX.p rfl];refine bw my.i (eK I.sl).1 (eK I.sl).2 ci Ξ λdp cj eC dr=>?_;have aY:af (λr=>lc E r\/r=H) bK dp:=(cg.X λr _ h=>.inl h).F (cj.X λr _ h=>.inr h);have Y:∀r,(lc E r\/r=H)->∃e c,ag bK r e c/\e≠cp/\e≠ae/\e≠ao/\e≠au:=λr q=>by
    rcases q with q|rfl
    .obtain⟨rfl,c,B⟩:=dJ aW.1 q;exact⟨_,c,B,Φ,Φ,Φ,Φ⟩
    .exact⟨_,_,bL,Φ,Φ,Φ,Φ⟩
   have eD:=(R.F O).size;refine bx _ ⟨s,bf,G,bg,aX,L++[a],(((K.F P).F R).F O).then aY (λr q he=>?_),?_,dn.aa aY (λr q=>?_),by grind,⟨I.aa cj λr q he=>?_,λz A=>?_⟩,?_,λr q=>?_,W⟩
   .grind
   .rw[ac];exact dr
   .obtain⟨e,c,B,_,_,ds,eE⟩:=Y r q
    grind
   .have he:r=H:=he;subst he;exact cO I ci Φ q
   .have ck:∀r,(lc E r\/r=H)->∃e c,ag bK r e c/\e≠cp/\e≠ae/\e≠ao:=λr q=>by
     obtain⟨e,c,B,h1,eF,ds,_⟩:=Y r q
     grind
    rcases o9.1 A with A|A
    .exact (aW.2 z A).aa aY ck
    .rw[b8.1 A];have eH:=bB.size;refine s3.aa ⟨⟨cW,cf.W O⟩,⟨c2,c3,?_,Ω,λr q=>by have:=c4.2 r q;omega⟩,by grind,cB y (x5 C)⟩ aY ck;exact(ab.W R).W O
   .rw[ac,n9,aU];rfl
   grind
theorem E2{z:Array x1}{k:Nat}(a:z.size=k):(S1 z n).toList=dV z (n*k):=by
 grind [S1,dV]
theorem P9{P:X2}{t p s:r8}{x kn:o4}{b g k m:Nat}{xs:List x1}(T:y=(m:Int))(J:P.underlying t=σ (.slice e))(L:P.underlying p=σ (.int kn))(hi:aR P e k b z)(U:z.cells.size=k)(au:0<k)(h1:∀u∈dV z.cells (m*k),u.oneCell'=rs)(h:bW w g e k v n xs)(V:0<m)(W:(n+m)*b<=140737488355328)(av:n+m<=9223372036854775807)(M:∀B X I,bW I X e k B (n+m) (xs++dV z.cells (m*k))->(∀r,lc B r->lc v r\/w.heap.size<=r)->af (λr=>lc v r) w I->K B I):aD P (j4 #[t,p] s #[v,.int x y]) w K:=by
 subst T;obtain⟨i,hi,Y,rfl,N⟩:=hi;obtain⟨aw,hm⟩:=h;have Z:=qN z.cells (m*k);have ab:m*i.bytes<=281474976710656:=by
  grind
 have grow:∀(base:Option S6)(cap:Nat),v= .slice base n cap->(j5.firstCells i.size n (.slice base n cap)).run P w.drew= .ok xs.toArray w.drew->cap<n+m->aD P (j4 #[t,p] s #[v,.int x (m:Int)]) w K:=λbase cap ac ad f=>by
  subst ac;have C:=Lib.run_append_grow_zeros (P:=P) w t p s e i z x kn J L hi N base n cap xs ad m V Ω f Ω ab (growslice_fits f W);have O:n+m<=grownCap w (n+m) cap e:=grownCap_ge w _ _ _;have ae:grownCap w (n+m) cap e<=maxLen:=by grind [grownCap_le_maxLen,maxLen]
  have ax:=qN z.cells ((grownCap w (n+m) cap e-(n+m))*k);have ay:(n+m)*k<=grownCap w (n+m) cap e*k:=V7 _ O;have ah:(n+m)*k=n*k+m*k:=T7 _ _ _;have az:(grownCap w (n+m) cap e-(n+m))*k=grownCap w (n+m) cap e*k-(n+m)*k:=Nat.sub_mul _ _ _;refine .of C ((qu w _ (Nat.le_succ _)).F (qw _ _)) (M _ w.heap.size _ ⟨by grind,.inr ⟨_,xs++dV z.cells (m*k)++dV z.cells ((grownCap w (n+m) cap e-(n+m))*k),rfl,?_,O,ae,?_,?_⟩⟩ (λr E=>?_) (((rR w _).F (qv _ _)).aa _))
  .have:=heap_alloc_new w.drew (.cells (xs.toArray++S1 z.cells m++S1 z.cells (grownCap w (n+m) cap e-(n+m))) e);unfold ag;rw[show w.drew.heap.size=w.heap.size from rfl]at this;rw[this];congr 2
   grind [E2]
  .grind
  .grind
  .obtain⟨a,ai,c,F,A⟩:=E
   grind
 rcases hm with⟨rfl,aj⟩|⟨cap,cs,rfl,q,F,A,Q,ak⟩
 .subst aj;have:xs=[]:=by grind
  subst this;exact grow ν 0 rfl (by grind [run_firstCells_none]) Ω
 .by_cases f:n+m<=cap
  .have al:(n+m)*k<=cs.length:=by rw[Q];exact V7 _ f
   have ah:(n+m)*k=n*k+m*k:=T7 _ _ _;have G:=run_storeCells_cells (P:=P) g (0+n*k) (dV z.cells (m*k)) 0 w (λj R=>by
    rw[Z]at R;rw[Nat.add_zero,V0,q.cell (x6 Ω)];rfl) (λj _=>q.frozen _ _) h1
   simp only[Nat.add_zero]at G;have hw:Y6.wrap (m:Int)=m:=by rw[o4.wrap_i64];omega
   have am:¬((m:Int)<0):=Ω
   have an:¬(281474976710656<(m:Int)*(i.bytes:Int)):=Ω
   have ao:¬(m*i.size=0):=by grind [Nat.mul_ne_zero]
   have ap:(S1 z.cells m).toList=dV z.cells (m*k):=E2 U;have C:(j4 #[t,p] s #[.slice (σ ⟨g,0,ν⟩) n cap,.int x (m:Int)]).run P w= .ok (.slice (σ ⟨g,0,ν⟩) (n+m) cap) (w.setCells g (0+n*k) (dV z.cells (m*k))):=by
    simp[j4,run_underlying J,run_underlying L,sizeOf,typeInfo,zeroValue,hi,N,asInt,asIntOf,hw,f,am,ao,an,ap,S6.add_lit,Y];simp only[V0]at G;rw[G];simp
    grind
   obtain⟨aq,S⟩:=nH (dV z.cells (m*k)) cs (0+n*k) w q;refine .of C (S.cB q) (M _ g _ ⟨by grind,.inr ⟨cap,_,rfl,aq,f,A,by rw[fZ,Q],?_⟩⟩ (λr E=>.inl ?_) (S.aa.X λr _ he=>⟨_,_,_,rfl,he.symm⟩))
   .grind [nG]
   .obtain⟨a,ai,c,F,A⟩:=E;cases F;exact⟨_,_,_,rfl,A⟩
  .refine grow _ cap rfl ?_ Ω;have al:n*k<=cs.length:=by grind
   refine run_firstCells_some w.drew i.size n _ n cap xs (by grind) λj u H=>?_;rw[W0,V0];have R:=(x4.1 H).1;rw[<-ak,Y3 Ω]at H;exact q.cell H
def kJ(c:Cell):List x1:=[Δ c.v,.int .u64 (c.st:Int)]
def s4(o:mG):List x1:=[Δ (o.i:Int),Δ o.c.v,.int .u64 (o.c.st:Int)]
def rm(m:uD):List x1:=[Δ (m.olds:Int),Δ (m.cells:Int),.int .u64 (m.st:Int)]
def dB(w:x3)(ad:Nat)(A:ah)(t:aw):Prop:=A ad/\∃e go di aY a dY,ag w ad fz [aY,a,dY,.int .u64 (t.kA:Int)]/\bm kJ 2 eH w e aY t.cells/\bm s4 3 k7 w go a t.olds/\bm rm 3 fN w di dY t.marks/\
 ∀r,lc aY r\/lc a r\/lc dY r->A r
theorem dB.aa{S A:ah}{t:aw}(h:dB w ad A t)(a:af S w I)(f:∀r,A r->¬S r):dB I ad A t:=by
 obtain⟨e,j,go,di,aY,p,dY,h1,q,s,x,y⟩:=h;exact⟨e,j,go,di,aY,p,dY,h1.aa a (f _ e),q.aa a (by grind),s.aa a (by grind),x.aa a (by grind),y⟩
theorem dB.W{A:ah}{t:aw}(h:dB w ad A t)(a:Ext w I):dB I ad A t:=h.aa (a.aa λ_=>False) λ_ _ h=>h
theorem dB.X{A B:ah}{t:aw}(h:dB w ad A t)(a:∀r,A r->B r):dB w ad B t:=by
 obtain⟨e,f,go,di,aY,j,dY,h1,p,q,s,x⟩:=h;exact⟨a _ e,f,go,di,aY,j,dY,h1,p,q,s,λr y=>a r (x r y)⟩
def Grow(A:ah)(w:x3)(aJ:ah)(I:x3):Prop:=af A w I/\(∀r,aJ r->A r\/w.heap.size<=r)/\∀r,A r->aJ r
theorem Grow.refl(A:ah)(w:x3):Grow A w A w:=⟨af.refl _ _,λ_ h=>.inl h,λ_ h=>h⟩
theorem Grow.W{A:ah}(h:Ext w I):Grow A w A I:=⟨h.aa _,by grind,λ_ h=>h⟩
theorem Grow.F{A aJ e:ah}{f:x3}(h:Grow A w aJ I)(k:Grow aJ I e f):Grow A w e f:=
 ⟨⟨Y1 h.1.size k.1.size,λr o a U j=>k.1.a8 r o (h.1.a8 r o a U j) U λp=>(h.2.1 r p).elim j λq=>by
  grind⟩,λr a=>by
  rcases k.2.1 r a with h1|h1
  .exact h.2.1 r h1
  .have:=h.1.size;omega,λr a=>k.2.2 r (h.2.2 r a)⟩
theorem E3{A:ah}{t:aw}(h:dB w ad A t):ak x7 KE [Γ ad] w λv I=>v=Δ (t.cells.length:Int)/\Ext w I:=by
 obtain⟨e,f,go,di,aY,j,dY,h1,a,q,r,s⟩:=h;refine ay func236 ?_;rw[cV r5.u];simp only[l9,aW];rw[aN fz.p 0 h1 rfl,eI jx.u a];exact⟨rfl,Ext.refl _⟩
theorem E4{A:ah}{t:aw}{i:Int}(h:dB w ad A t):ak x7 JJ [Γ ad,Δ i] w λv I=>v= .bool (decide (0<=i/\i<t.cells.length))/\Ext w I:=by
 refine ay func148 ?_;refine aV (λv J=>v= .bool (decide (0<=i/\i<t.cells.length))/\Ext w J) (λ_ _ h=>h) ?_;intro az a;rw[cJ,aj];refine⟨λe=>?_,λe=>a _ _ ⟨by rw[pl];omega,Ext.refl _⟩⟩;refine(E3 h).X ?_;rintro _ J _ ⟨rfl,f⟩;rw[aP];refine a _ _ ⟨?_,f⟩;congr 1;rw[U5,rc,rc];exact⟨λh=>⟨Ω,h⟩,λh=>h.2⟩
theorem Qa{A:ah}{t:aw}{i:Nat}{c:Cell}(h:dB w ad A t)(j:y=(i:Int))(a:t.cells[i]?=σ c):ak x7 By [Γ ad,Δ y] w λv I=>v=Δ c.v/\Ext w I:=by
 have q:=(x4.1 a).1;refine ay func78 ?_;refine(E4 h).X ?_;rintro _ J _ ⟨rfl,e⟩;rw[ms Ω,bA,Y2,aW];obtain⟨r,s,go,di,aY,x,dY,h1,f,z,B,C⟩:=h.W e;rw[aN fz.p 0 h1 rfl,c5 j jx.u eH.i f q,aT eH.p rfl,av Ψ (f.range a 0 _ rfl)];exact⟨rfl,e⟩
theorem oM{A:ah}{t:aw}{i:Nat}{x:Int}(h:dB w ad A t)(e:y=(i:Int))(a:t.bP[i]?=σ x):ak x7 By [Γ ad,Δ y] w λv I=>v=Δ x/\Ext w I:=by
 unfold aw.bP at a;rw[x8]at a;obtain⟨c,f,rfl⟩:=Z6.1 a;exact Qa h e f
def mX(t:aw):Prop:=t.cells.length<=100000000/\t.olds.length<=100000000/\t.marks.length<=100000000
theorem vv{q go di:Nat}{aY a dY:x1}{t:aw}{x:x1}(h1:ag w ad fz [aY,a,dY,x])(f:bm kJ 2 eH w q aY t.cells)(h:bm s4 3 k7 w go a t.olds)(j:bm rm 3 fN w di dY t.marks):
  (¬lc aY ad/\¬lc a ad/\¬lc dY ad)/\(∀r,lc aY r->¬lc a r/\¬lc dY r)/\∀r,lc a r->¬lc aY r/\¬lc dY r:=by
 refine⟨⟨cO f h1 Φ,cO h h1 Φ,cO j h1 Φ⟩,λr p=>?_,λr p=>?_⟩
 .obtain⟨rfl,c,e⟩:=dJ f p;exact⟨cO h e Φ,cO j e Φ⟩
 .obtain⟨rfl,c,e⟩:=dJ h p;exact⟨cO f e Φ,cO j e Φ⟩
theorem s5{A:ah}{t:aw}{i:Nat}{x:Int}(h:dB w ad A t)(bk:y=(i:Int))(O:i<t.cells.length)(ax:mX t):ak x7 Bv [Γ ad,Δ y,Δ x] w λv I=>v=Δ 0/\∃aJ,Grow A w aJ I/\dB I ad aJ (t.set i x):=by
 subst bk;obtain⟨c,C⟩:=aC (l:=t.cells) O;refine ay func67 ?_;rw[cV r5.u];simp only[l9,aW];refine(E4 h).X ?_;rintro _ J _ ⟨rfl,L⟩;rw[ms Ω,bA,Y2,aW];obtain⟨aX,P,go,di,aY,Q,dY,h1,aZ,aA,Z,ac⟩:=id (h.W L);have bl:∀{V:x3}{aJ:ah}{t':aw}{st:Nat}{K:x3->Prop},dB V ad aJ t'->t'.cells[i]?=σ ⟨c.v,st⟩->
   (∀q,af aJ V q->dB q ad aJ {t' with cells:=t'.cells.set i ⟨x,st⟩}->K q)->
   (ab x7 (bR (Γ ad)) V λt77=>
   ab x7 (u6 fz t77 0) V λbm=>
   ab x7 (u4 jx bm) V λbn=>
   ab x7 (j0 jx bn (Δ (i:Int))) V λbo=>
   ab x7 (u6 eH bo 0) V λbp=>
   aD x7 (o6 ao bp (Δ x)) V λ(_:Unit)q=>
   K q):=by
  intro V aJ t' st K aB ae bq;obtain⟨aE,P,go,di,aY,Q,dY,E,G,R,S,U⟩:=aB;have br:=(x4.1 ae).1;rw[aN fz.p 0 E rfl,c5 rfl jx.u eH.i G br,aT eH.p rfl];obtain⟨⟨W,aF,aG⟩,H,_⟩:=vv E G R S;refine re (f:=kJ) (j:=0) (a:=⟨c.v,st⟩) (a':=⟨x,st⟩) ao.i rfl rfl G ae rfl Ω λq B bs bt=>?_;exact bq q (B.X λr _ e=>U r (.inl e)) ⟨aE,P,go,di,aY,Q,dY,E.aa B W,bt,R.aa B λr e he=>(H r he).1 e,S.aa B λr e he=>(H r he).2 e,U⟩
 refine dh (λV=>∃aJ t' st,Grow A J aJ V/\dB V ad aJ t'/\t'.cells[i]?=σ ⟨c.v,st⟩/\t.set i x={t' with cells:=t'.cells.set i ⟨x,st⟩}) ?_ ?_
 .rintro V ⟨aJ,t',st,bx,aB,ae,aH⟩;refine bl aB ae λq B aA=>⟨by trivial,aJ,?_,by rw[aH];exact aA⟩;exact(Grow.W L).F (bx.F ⟨B,λ_ h=>.inl h,λ_ h=>h⟩)
 intro az aI;rw[aN fz.p 2 h1 rfl,eI uu.u Z,bG,aj];have a1:∀(hm:t.marks.getLast? =ν\/∃m,t.marks.getLast? =σ m/\¬(c.st<m.st/\i<m.cells)),t.set i x={t with cells:=t.cells.set i ⟨x,c.st⟩}:=λhm=>by
  unfold aw.set;rw[C];rcases hm with hm|⟨m,hm,bz⟩
  .simp only[hm]
  .simp only[hm];rw[m6 bz]
 refine⟨λbY=>?_,λbZ=>aI _ ⟨A,t,c.st,Grow.refl _ _,h.W L,C,a1 (.inl ?_)⟩⟩
 rotate_left
 .rw[List.getLast?_eq_none_iff];exact c9 Ω
 obtain⟨m,hm⟩:=aC (l:=t.marks) (i:=t.marks.length-1) Ω;have a2:t.marks.getLast? =σ m:=by rw[List.getLast?_eq_getElem?];exact hm
 have b0:=ax.2.2;rw[aN fz.p 2 h1 rfl,dN,lm Ω Ω,c5 (i:=t.marks.length-1) Ω uu.u fN.i Z Ω,bC fN.p fN.i rfl (Z.range hm)];refine bu fN.i λam V b1 a6 bB=>?_;refine b4 (vs:=rm m) fN.i rfl rfl (by intro v X;simp[rm]at X;rcases X with rfl|rfl|rfl<;>rfl) bB λq B bs bD=>?_;have a7:=a6.put B Ω;have ai:∀{I:x3},Ext q I->ag I am fN (rm m):=λL=>bD.W L;refine aV (λv aL=>v= .bool (decide (c.st<m.st/\i<m.cells))/\Ext q aL) ?_ ?_
 rotate_left
 .intro b2 a8;intro aL s _ _;have M:=a7.F s;have ba:=ai s;have N:=aZ.W M;rw[aN fz.p 0 (h1.W M) rfl,c5 rfl jx.u eH.i N O,aT eH.p rfl,av Ψ (N.range C 1 _ rfl),aK fN.p 2 ba rfl,aP,aj];refine⟨λbb=>?_,λbc=>a8 _ _ ⟨by rw[pl];omega,s⟩⟩;rw[aK fN.p 1 ba rfl,aP];refine a8 _ _ ⟨?_,s⟩;congr 1;rw[U5,rc,rc];exact⟨λh=>⟨Ω,Ω⟩,λh=>Ω⟩
 rintro _ aL ⟨rfl,s⟩;have M:=a7.F s;rw[aj];refine⟨λbb=>?_,λbc=>aI _ ⟨A,t,c.st,Grow.W M,(h.W L).W M,C,a1 (.inr ⟨m,a2,bc⟩)⟩⟩;intro b3 al _ _;have Y:=M.F al;have aM:=h1.W Y;have N:=aZ.W Y;have bE:=aA.W Y;have bF:=Z.W Y;rw[bS,aT fz.p rfl,av Ψ (aM.cell rfl),bS,aT fz.p rfl,av Ψ (aM.cell rfl),c5 rfl jx.u eH.i N O,bC eH.p eH.i rfl (N.range C)];rw[dq (cs:=#[Δ (i:Int),Δ c.v,.int .u64 (c.st:Int)]) Ψ];let a:mG:=⟨i,c⟩;have bH:∀u∈s4 a,u.oneCell'=rs:=by intro v X;simp[s4]at X;rcases X with rfl|rfl|rfl<;>rfl
 refine iS (f:=s4) (a:=a) pw.u k7.i Ω rfl rfl λb5 b6 bd b7 z bI=>?_;refine⟨.inl z,?_⟩;have be:=Y.F z;have aO:=aM.W z;have bf:=N.W z;have aQ:=bE.W z;have bg:=bF.W z;obtain⟨⟨W,aF,aG⟩,H,bJ⟩:=vv aO bf aQ bg;refine jk pw.u k7.i rfl aQ (by simpa using bI.sl) bH (by have:=ax.2.1;omega) (by have:=ax.2.1;omega) λbK bL b8 an bM bh=>?_;rw[bS,aT fz.p rfl];have bi:=aO.aa bh aF;refine bw pw.i (eK an.sl).1 (eK an.sl).2 bi Ξ λap bj b9 aR=>?_;have aR:=aR;have aq:af (λr=>lc Q r\/r=ad) bd ap:=(bh.X λr _ h=>.inl h).F (bj.X λr _ h=>.inr h);have bN:=bf.aa aq λr e he=>he.elim (λhe=>(H r e).1 he) λhe=>W (he▸e);have bO:=bg.aa aq λr e he=>he.elim (λhe=>(bJ r he).2 e) λhe=>aG (he▸e);have bP:=an.aa bj λr e he=>by
  have he:r=ad:=he;subst he;exact cO an bi Φ e
 have ca:=be.size;have cb:=a6.size;let aS:ah:=λr=>A r\/bd.heap.size<=r;have bQ:Grow A J aS ap:=⟨(be.aa A).F (aq.X λr _ he=>he.elim (λhe=>ac r (.inr (.inl he))) λhe=>he▸aX),λr e=>e.imp id λe=>Ω,λr e=>.inl e⟩;have bT:dB ap ad aS {t with olds:=t.olds++[a]}:=⟨.inl aX,P,bL,di,aY,bK,dY,aR,bN,bP,bO,λr e=>by
  rcases e with e|e|e
  .exact .inl (ac r (.inl e))
  .rcases bM r e with h|h
   .exact .inl (ac r (.inr (.inl h)))
   .exact .inr h
  .exact .inl (ac r (.inr (.inr e)))⟩
 have bU:ag ap am fN (rm m):=(ai ((s.F al).F z)).aa aq λhe=>by
  rcases he with he|he
  .obtain⟨rfl,cc,bV⟩:=dJ aQ he;exact m7 (eJ bV (ai ((s.F al).F z))) Φ
  .subst he;exact m7 (eJ aO (ai ((s.F al).F z))) Φ
 intro cd aU _ _;have bW:=bT.W aU;obtain⟨aE,P,go,di,aY,Q,dY,E,G,R,S,U⟩:=bW;rw[aN fz.p 0 E rfl,aK fN.p 2 (bU.W aU) rfl,c5 rfl jx.u eH.i G O,aT eH.p rfl];obtain⟨⟨W,aF,aG⟩,H,_⟩:=vv E G R S;refine re (a':=⟨c.v,m.st⟩) fL.i rfl rfl G C rfl Ω λce au cf bX=>?_;have aH:t.set i x={t with olds:=t.olds++[a],cells:=t.cells.set i ⟨x,m.st⟩}:=by
  unfold aw.set;rw[C];simp only[a2];rw[m5 bb]
 refine aI _ ⟨aS,{t with olds:=t.olds++[a],cells:=t.cells.set i ⟨c.v,m.st⟩},m.st,bQ.F ((Grow.W aU).F ⟨au.X λr _ e=>U r (.inl e),λ_ h=>.inl h,λ_ h=>h⟩),⟨aE,P,go,di,aY,Q,dY,E.aa au W,bX,R.aa au λr e he=>(H r he).1 e,S.aa au λr e he=>(H r he).2 e,U⟩,?_,?_⟩
 .show (t.cells.set i _)[i]?=_;rw[Z5 O]
 .rw[aH];simp only[List.set_set]
theorem E5(n:Nat):dV (#[Δ 0,.int .u64 0]:Array x1) (n*2)=(u9 n (⟨0,0⟩:Cell)).flatMap kJ:=by
 have:∀n,dV (#[Δ 0,.int .u64 0]:Array x1) (n*2)=(u9 n (⟨0,0⟩:Cell)).flatMap kJ:=by
  intro n;apply j9;intro j;have r:((u9 n (⟨0,0⟩:Cell)).flatMap kJ).length=n*2:=by simp[kJ]
  by_cases p:j<n*2
  .have q:(dV (#[Δ 0,.int .u64 0]:Array x1) (n*2))[j]?=σ (if j % 2=0 then Δ 0 else .int .u64 0):=by
    unfold dV;rw[Array.getElem?_toList,Array.getElem?_map,Array.getElem?_range,m5 p];rcases Nat.mod_two_eq_zero_or_one j with h|h<;>simp[h]
   have e:=rb (f:=kJ) (k:=2) (L:=u9 n (⟨0,0⟩:Cell)) (i:=j / 2) (j:=j % 2) (a:=⟨0,0⟩) (v:=if j % 2=0 then Δ 0 else .int .u64 0) (λa _=>rfl) (by rw[List.getElem?_replicate,m5 Ω]) (by rcases Nat.mod_two_eq_zero_or_one j with h|h<;>simp[h,kJ]);rw[show j / 2*2+j % 2=j by omega]at e;rw[q,e]
  .rw[Y0 (by rw[qN];omega),Y0 Ω]
 exact this n
theorem Qb{A:ah}{t:aw}(h:dB w ad A t)(R:mX t)(ag:n<=100000000):ak x7 JK [Γ ad,Δ (n:Int)] w λv I=>v=Δ (t.cells.length:Int)/\∃aJ,Grow A w aJ I/\dB I ad aJ (t.grow n):=by
 refine ay func149 ?_;refine(E3 h).X ?_;rintro _ J _ ⟨rfl,f⟩;refine dh (λV=>∃aJ,Grow A w aJ V/\dB V ad aJ (t.grow n)) (λV h=>⟨rfl,h⟩) ?_;intro az y;refine aV (λv V=>v= .bool (decide (0<n))/\J=V) ?_ ?_
 rotate_left
 .intro ai S;rw[BY r5.u];simp only[l9,X1,bZ];rw[bG];refine S _ _ ⟨?_,rfl⟩;congr 1;rw[U5,rc,rc];omega
 rintro _ _ ⟨rfl,rfl⟩;rw[aj];refine⟨λB=>?_,λB=>y _ ⟨A,Grow.W f,?_⟩⟩
 rotate_left
 .have:n=0:=Ω
  subst this;have e:t.grow 0=t:=by unfold aw.grow;simp
  rw[e];exact h.W f
 obtain⟨C,al,go,di,aY,U,dY,h1,E,G,H,j⟩:=id (h.W f);rw[aN fz.p 0 h1 rfl];obtain⟨⟨W,X,Y⟩,K,am⟩:=vv h1 E G H;have an:=R.1;refine P9 (k:=2) rfl jx.u ae.u eH.i rfl Ω (λu Z=>?_) E.1 B Ω Ω λL M V N ab O=>?_
 .exact EK Φ Φ u Z
 rw[bS,aT fz.p rfl];have q:bm kJ 2 eH V M L (t.cells++u9 n ⟨0,0⟩):=by
  refine⟨?_,λ_ _=>rfl⟩;have e:(x1.agg #[Δ 0,.int .u64 0]).cells= #[Δ 0,.int .u64 0]:=rfl;rw[e,E5]at N;rw[p9,List.length_replicate,List.flatMap_append];exact N
 have P:=h1.aa O W;refine bw jx.i (eK q.sl).1 (eK q.sl).2 P Ξ λac Q ao s=>?_;have s:=s;have x:af (λr=>lc aY r\/r=ad) J ac:=(O.X λr _ h=>.inl h).F (Q.X λr _ h=>.inr h);have z:=f.size;refine y _ ⟨λr=>A r\/J.heap.size<=r,(Grow.W f).F ⟨x.X λr _ he=>he.elim (λhe=>j r (.inl he)) λhe=>he▸C,λr a=>a,λr a=>.inl a⟩,.inl C,M,go,di,L,U,dY,s,q.aa Q λr a he=>?_,G.aa x λr a he=>he.elim (λhe=>(K r he).1 a) λhe=>X (he▸a),H.aa x λr a he=>he.elim (λhe=>(K r he).2 a) λhe=>Y (he▸a),λr a=>?_⟩
 .have he:r=ad:=he;subst he;exact cO q P Φ a
 .rcases a with a|a|a
  .exact (ab r a).imp (λh=>j r (.inl h)) id
  .exact .inl (j r (.inr (.inl a)))
  .exact .inl (j r (.inr (.inr a)))
theorem Qc(s:n<=1000):ak x7 IL [Δ (n:Int)] w λv I=>Ext w I/\∃ad,v=Γ ad/\dB I ad (e0 w.heap.size) ⟨u9 n ⟨0,0⟩,[],[],0⟩:=by
 refine ay func66 ?_;rw[xq,Int.max_eq_left Ω];refine B7 jx.u eH.i Ω Ω λg J x h f=>?_;rw[dq (cs:=#[.slice (σ ⟨g,0,ν⟩) n n,.slice ν 0 0,.slice ν 0 0,.int .u64 0]) Ψ];refine bj λad V y j q=>?_;have z:=h.size;have e:(x1.agg #[Δ 0,.int .u64 0]).cells= #[Δ 0,.int .u64 0]:=rfl;have f:ag J g eH ((u9 n (⟨0,0⟩:Cell)).flatMap kJ):=by rw[<-E5,<-e];exact f
 have p:bm kJ 2 eH J g (.slice (σ ⟨g,0,ν⟩) n n) (u9 n ⟨0,0⟩):=by
  refine⟨?_,λ_ _=>rfl⟩;rw[List.length_replicate];exact bW.full f (by simp[kJ]) (by simp[maxLen];omega)
 refine⟨h.F j,ad,rfl,by show w.heap.size<=ad;omega,g,0,0,_,_,_,q,p.W j,bm.nil _ _ _ _ _,bm.nil _ _ _ _ _,λr a=>?_⟩;rcases a with a|a|a
 .have:=(p.li a).1;show w.heap.size<=r;omega
 .exact (gl a).elim
 .exact (gl a).elim
theorem pA{α β:Type}{f:α->List β}:∀{L:List α}{i j:Nat}{a:α},L[i]?=σ a->j<(f a).length->(L.flatMap f)[((L.take i).flatMap f).length+j]?=(f a)[j]?
 |x::L,0,j,a,h,e=>by
  grind
 |x::L,i+1,j,a,h,e=>by
  have h:L[i]?=σ a:=by grind
  rw[List.take_succ_cons,U3,U3,p9,Nat.add_assoc,Y5 Ω,Nat.add_sub_cancel_left,pA h e]
theorem yJ{α β:Type}{f:α->List β}:∀{L:List α}{i j:Nat}{a b:α}{x:β},L[i]?=σ a->j<(f a).length->f b=(f a).set j x->(L.flatMap f).set (((L.take i).flatMap f).length+j) x=(L.set i b).flatMap f
 |y::L,0,j,a,b,x,h,e,p=>by
  grind
 |y::L,i+1,j,a,b,x,h,e,p=>by
  have h:L[i]?=σ a:=by grind
  rw[List.take_succ_cons,U3,U3,p9,Nat.add_assoc,S7 _ _ Ω,Nat.add_sub_cancel_left,yJ h e p,List.set_cons_succ,U3]
theorem E6{α β:Type}{f:α->List β}{L:List α}{i:Nat}{a:α}(h:L[i]?=σ a)(e:j<(f a).length):((L.take i).flatMap f).length+j<(L.flatMap f).length:=by
 have h1:=pA (f:=f) h e
 grind
structure br where
 gone:Int
 mask:Int
 un:Λ
structure bF where
 sc:Λ
 szs:Λ
 live:Int
 cs:Λ
structure jJ where
 v:Int
 sc:Λ
 dZ:Λ
structure al where
 zero:Int
 d6:List br
 d7:List bF
 elims:List jJ
def iA(x:br):Λ:=x.gone::x.mask::x.un
def fQ(x:bF):Λ:=x.live::x.cs
def kK(s:al):Λ:=[s.zero,(s.d7.length:Int),(s.elims.length:Int)]
def al.cells(s:al):Λ:=kK s++(s.d6.flatMap iA++s.d7.flatMap fQ)
def gL(s:al)(i:Nat):Nat:=3+((s.d6.take i).flatMap iA).length
def e4(s:al)(j:Nat):Nat:=3+((s.d6.flatMap iA).length+((s.d7.take j).flatMap fQ).length)
theorem Qd(s:al):s.cells[0]?=σ s.zero:=rfl
theorem rn{s:al}{i:Nat}{x:br}(h:s.d6[i]?=σ x)(a:j<x.un.length+2):s.cells[gL s i+j]?=(iA x)[j]?:=by
 have e:j<(iA x).length:=a;unfold al.cells gL
 grind [kK,E6,pA]
theorem yK{s:al}{i:Nat}{x:bF}(h:s.d7[i]?=σ x)(a:j<x.cs.length+1):s.cells[e4 s i+j]?=(fQ x)[j]?:=by
 have e:j<(fQ x).length:=a;unfold al.cells e4;rw[Nat.add_assoc,Nat.add_assoc,Y5 (by simp[kK]),show(kK s).length=3 from rfl,Nat.add_sub_cancel_left,Y5 Ω,Nat.add_sub_cancel_left,pA h e]
theorem Qe(s:al)(c:Int):s.cells.set 0 c=({s with zero:=c}:al).cells:=rfl
theorem yL{s:al}{i:Nat}{x y:br}{c:Int}(h:s.d6[i]?=σ x)(a:j<x.un.length+2)(e:iA y=(iA x).set j c):s.cells.set (gL s i+j) c=({s with d6:=s.d6.set i y}:al).cells:=by
 have f:j<(iA x).length:=a;unfold al.cells gL
 grind [kK,E6,yJ]
theorem E7{s:al}{i:Nat}{x y:bF}{c:Int}(h:s.d7[i]?=σ x)(a:j<x.cs.length+1)(e:fQ y=(fQ x).set j c):s.cells.set (e4 s i+j) c=({s with d7:=s.d7.set i y}:al).cells:=by
 have f:j<(fQ x).length:=a;unfold al.cells e4;rw[Nat.add_assoc,Nat.add_assoc,S7 _ _ (by simp[kK]),show(kK s).length=3 from rfl,Nat.add_sub_cancel_left,S7 _ _ Ω,Nat.add_sub_cancel_left,yJ h f e]
 grind [kK]
theorem Qf{s:al}(x:bF):(s.cells++fQ x).set 1 ((s.d7.length+1:Nat):Int)=({s with d7:=s.d7++[x]}:al).cells:=by
 grind [al.cells,kK]
theorem Qg{s:al}(e:jJ):s.cells.set 2 ((s.elims.length+1:Nat):Int)=({s with elims:=s.elims++[e]}:al).cells:=by
 grind [al.cells,kK]
theorem rp(s:al):s.cells.length=3+((s.d6.flatMap iA).length+(s.d7.flatMap fQ).length):=by
 unfold al.cells;rw[p9,p9];rfl
def ee(a sc:Λ):Λ:=sc.map λv=>a.getD v.toNat 0
def jm(k:Int)(a:Int)(p:br×Int):Int:=if p.1.gone≠0 then a else min (a+p.1.un.getD p.2.toNat 0) k
def il(k:Int)(a:Λ)(e:Int)(f:bF):Int:=if f.live≠0 then min (e+bd f.szs f.cs (ee a f.sc)) k else e
def dropped(mask:Int)(v:Int):Bool:=mask.toNat.testBit v.toNat
def dK(p:br×Int):Bool:=decide (p.1.gone≠0)|| !dropped p.1.mask p.2
def dL(k:Int)(s:al)(a:Λ):Int:=if(s.d6.zip a).all dK then s.d7.foldl (il k a) ((s.d6.zip a).foldl (jm k) s.zero)else k
def e5(s:al)(a:Λ):Prop:=a.length=s.d6.length/\∀(i:Nat)x v,s.d6[i]?=σ x->a[i]?=σ v->x.gone≠0\/(0<=v/\v<x.un.length)
structure a6(k:Int)(co:Λ)(s:al):Prop where
 dy:1<=k/\k<=2147483648
 cF:1<=co.length/\co.length<=64/\∀z∈co,1<=z/\z<=32
 zero:0<=s.zero/\s.zero<=k
 d6:s.d6.length=co.length
 var:∀(i:Nat)x z,s.d6[i]?=σ x->co[i]?=σ z->x.un.length=z.toNat/\(∀c∈x.un,0<=c/\c<=k)/\0<=x.mask/\x.mask<4294967296
 d7:∀f∈s.d7,ep co k (f.sc,f.cs)/\f.szs=aA co f.sc/\2<=f.sc.length
def newVar(u:Λ):br:=⟨0,0,u⟩
def mY(co:Λ)(g:cZ):bF:=⟨g.1,aA co g.1,1,g.2⟩
def dt(n:aG):al:=⟨n.zero,n.unary.map newVar,n.d7.map (mY n.co),[]⟩
theorem Qh{n:aG}(h:kI n):a6 n.k n.co (dt n):=by
 refine⟨h.k,h.co,h.zero,by simp[dt,h.lW],λi x z a j=>?_,λf p=>?_⟩
 .have a:(n.unary.map newVar)[i]?=σ x:=a;rw[x8]at a;obtain⟨u,q,rfl⟩:=Z6.1 a;obtain⟨h1,e⟩:=h.unary i z u j q;exact⟨h1,e,Int.le_refl _,by show(0:Int)<_;omega⟩
 .obtain⟨g,r,rfl⟩:=o8.1 p;obtain⟨h1,e⟩:=h.d7 g r;exact⟨h1,rfl,e⟩
theorem yM{n:aG}(h:gv w a n):ak x7 IN [Γ a] w λv I=>v=Δ (n.co.length:Int)/\Ext w I:=by
 obtain⟨j,q,r,s,gr,aX,L,nm,d9,gz,fv2,h1,e,f,x,y,z,A⟩:=h;refine ay func69 ?_;rw[cV ov.u];simp only[l9,aW];rw[aN fX.p 0 h1 rfl,aN cH.p 2 e rfl,aS ai.u f.ls];exact⟨rfl,Ext.refl _⟩
theorem Qi{n:aG}(h:gv w a n):ak x7 Kl [Γ a] w λv I=>v=Δ n.k/\Ext w I:=by
 obtain⟨f,j,q,r,gr,aX,L,nm,d9,gz,fv2,h1,e,s,x,y,z,A⟩:=h;refine ay func203 ?_;rw[cV ov.u];simp only[l9,aW];rw[aN fX.p 0 h1 rfl,aN cH.p 1 e rfl];exact⟨rfl,Ext.refl _⟩
theorem Qj{n:aG}(h:gv w a n):ak x7 IM [Γ a] w λv I=>v=Δ n.zero/\Ext w I:=by
 obtain⟨e,f,j,q,gr,aX,L,nm,d9,gz,fv2,h1,r,s,x,y,z,A⟩:=h;refine ay func68 ?_;rw[cV ov.u];simp only[l9,aW];rw[aN fX.p 1 h1 rfl];exact⟨rfl,Ext.refl _⟩
theorem E8{n:aG}(h:gv w a n):ak x7 Bx [Γ a] w λv I=>v=Δ (n.d7.length:Int)/\Ext w I:=by
 obtain⟨j,q,r,s,gr,aX,L,nm,d9,gz,fv2,h1,x,y,z,A,e,f⟩:=h;refine ay func72 ?_;rw[cV ov.u];simp only[l9,aW];rw[aN fX.p 3 h1 rfl,eI my.u e.1];exact⟨by rw[<-f,r9],Ext.refl _⟩
theorem E9{x:Nat}{n:aG}{i:Int}(h:gv w x n)(j:kI n):ak x7 IP [Γ x,Δ i] w λv I=>Ext w I/\(¬(0<=i/\i<n.co.length)->v= .slice ν 0 0)/\
  ∀u,0<=i->n.unary[i.toNat]?=σ u->∃g,w.heap.size<=g/\an .i64 ao I g v u:=by
 refine ay func70 ?_;have N:=j.lW;refine aV (λv J=>v= .bool (decide (¬(0<=i/\i<n.co.length)))/\Ext w J) ?_ ?_
 .rintro _ J ⟨rfl,e⟩;rw[aj];refine⟨λE=>⟨e,λ_=>rfl,λu G f=>?_⟩,λq=>?_⟩
  .have:=(x4.1 f).1;exact m7 ⟨G,Ω⟩ E
  have q:=Z2.1 q;obtain⟨O,P,Q,R,gr,aX,L,nm,d9,gz,fv2,h1,S,U,r,y,W,X⟩:=h.W e;have Y:aX.length=n.unary.length:=by rw[<-y,r9]
  obtain⟨a,s⟩:=aC (l:=aX) (i:=i.toNat) Ω;obtain⟨Z,hm⟩:=r.2 a (x5 s);rw[aN fX.p 2 h1 rfl,c5 (i:=i.toNat) Ω eP.u au.i r.1 Ω,av (o:=i.toNat*1) Ψ (r.1.range s 0 _ rfl)];have A:n.unary[i.toNat]?=σ a.l:=by rw[<-y,x8,s];rfl
  have aa:a.l.length<=32:=by
   obtain⟨z,B⟩:=aC (l:=n.co) (i:=i.toNat) Ω;have ab:=(j.unary i.toNat z a.l B A).1;have ac:=j.co.2.2 z (x5 B);omega
  refine(xx hm.ls Ω).X ?_;rintro v V _ ⟨H,g,ad,K⟩;refine⟨e.F H,λM=>m7 q M,λu _ f=>⟨g,by have:=e.size;omega,?_⟩⟩;rw[A]at f;cases f;exact K
 .intro az C;rw[aP,aj];refine⟨λae=>C _ _ ⟨by rw[ms];omega,Ext.refl _⟩,λaf=>?_⟩;refine(yM h).X ?_;rintro _ J _ ⟨rfl,e⟩;rw[cJ];refine C _ _ ⟨?_,e⟩;congr 1;rw[U5,rc,rc];omega
theorem vw{n:aG}{i:Int}(h:gv w j n)(a:kI n):ak x7 JR [Γ j,Δ i] w λv I=>Ext w I/\v=Δ (if 0<=i then n.co.getD i.toNat 0 else 0):=by
 refine ay func157 ?_;refine(E9 h a).X ?_;rintro v J _ ⟨p,s,x⟩;by_cases e:0<=i/\i<n.co.length
 .have y:=a.lW;obtain⟨u,q⟩:=aC (l:=n.unary) (i:=i.toNat) Ω;obtain⟨z,f⟩:=aC (l:=n.co) (i:=i.toNat) Ω;obtain⟨g,_,hm⟩:=x u e.1 q;rw[aS au.u hm.ls];refine⟨p,?_⟩;have A:=(a.unary i.toNat z u f q).1;have B:=a.co.2.2 z (x5 f);rw[m5 e.1,v8,f];congr 1;simp only[R3];omega
 .rw[s e,iu au.u];refine⟨p,?_⟩;by_cases r:0<=i
  .rw[m5 r,v8,Y0 Ω];rfl
  .rw[m6 r];rfl
theorem Fa{n:aG}{j:Int}(h:gv w a n)(f:∀I,Ext w I->K (.bool (decide (¬(0<=j/\j<n.d7.length)))) I):
  ab x7 (aQ .lss ae sp rs (Δ j) (Δ 0)) w λq=>Split q (K (.bool rs) w) (ak x7 Bx [Γ a] w λr p=>ab x7 (aQ .geq ae sp sp (Δ j) r) p λs=>K s p):=by
 rw[aP,aj];refine⟨λy=>?_,λz=>?_⟩
 .have:=f w (Ext.refl _);rw[ms (show¬(0<=j/\j<n.d7.length) by omega)]at this;exact this
 .refine (E8 h).X ?_;rintro _ J _ ⟨rfl,x⟩;rw[cJ];have:=f J x;have e:decide ((n.d7.length:Int)<=j)=decide (¬(0<=j/\j<n.d7.length)):=by
   rw[U5,rc,rc];omega
  rw[<-e]at this;exact this
theorem Qk{s:Nat}{n:aG}{g:cZ}(h:gv w s n)(z:kI n)(e:n.d7[j]?=σ g):ak x7 IR [Γ s,Δ (j:Int)] w λv I=>Ext w I/\∃gs,w.heap.size<=gs/\an .i64 ae I gs v g.1:=by
 refine ay func74 ?_;have G:=(x4.1 e).1;refine aV (λv J=>v= .bool (decide (¬(0<=(j:Int)/\(j:Int)<n.d7.length)))/\Ext w J) ?_ λaz A=>Fa h λI B=>A _ _ ⟨rfl,B⟩;rintro _ J ⟨rfl,f⟩;rw[pl Ω,aW];obtain⟨H,K,M,N,gr,aX,L,nm,d9,gz,fv2,h1,O,P,Q,R,q,x⟩:=h.W f;have S:L.length=n.d7.length:=by rw[<-x,r9]
 obtain⟨a,r⟩:=aC (l:=L) (i:=j) Ω;have y:ec a=g:=by rw[<-x,x8,r]at e;exact Z7 e
 obtain⟨⟨U,hm⟩,_⟩:=q.2 a (x5 r);rw[aN fX.p 3 h1 rfl,c5 rfl my.u iM.i q.1 Ω,aT iM.p rfl,av Ψ (q.1.range r 0 _ rfl)];have W:a.sc.length<=6:=by
  have:=(z.d7 g (x5 e)).1.scope.2;rw[<-y]at this;exact this
 refine(jZ hm.ls Ω).X ?_;rintro v V _ ⟨C,gs,X,E⟩;refine⟨f.F C,gs,by have:=f.size;omega,?_⟩;rw[<-y];exact E
theorem Ql{g C:Nat}{cs:Λ}(h:cd w g C sv szs k cs):ak x7 JM [Γ g] w λv I=>Ext w I/\∃a e,v=Γ a/\w.heap.size<=a/\w.heap.size<=e/\cd I a e sv szs k cs:=by
 obtain⟨⟨aY,gs,E,hm,G⟩,⟨h1,M,H⟩,U,y⟩:=h;refine ay func151 ?_;rw[cV dp.u];simp only[l9,aW];intro J f _ _;have r:=E.W f;have N:=prod_bound U;rw[bS,aT cp.p rfl,bC (cs:=[sv]) bq.p bq.i rfl (oz r (by
  intro j v s
  match j,s with
  |0,s=>exact s)),aN cp.p 1 r rfl,aN cp.p 2 r rfl]
 refine(xx (G.ls.W f) Ω).X ?_;rintro z V _ ⟨x,e,O,q⟩;refine⟨.inl x,?_⟩;rw[dq (cs:=#[sv,Δ k,z]) (by obtain⟨_,_,_,rfl⟩:=cE hm.ls;obtain⟨_,_,_,rfl⟩:=cE q.ls;kernel_rfl)];refine bj λa P Q A K=>?_;have R:=f.size;have S:=x.size;have W:=q;have B:=(f.F x).F A;refine⟨B,a,e,rfl,Ω,Ω,⟨z,gs,K,hm.W B,q.W A⟩,⟨?_,?_,H⟩,U,y⟩
 .have:=iy q (by rw[y];omega);omega
 .intro L;obtain⟨X,Y⟩:=bD hm L;omega
theorem Qm{z:Nat}{n:aG}{g:cZ}(A:gv w0 z n)(B:Ext w0 w)(f:n.d7[j]?=σ g):ak x7 IS [Γ z,Δ (j:Int)] w λv I=>Ext w I/\∃gt q sv,v=Γ gt/\w.heap.size<=gt/\w.heap.size<=q/\cd I gt q sv (aA n.co g.1) n.k g.2/\∀r,li sv r->∃c,ag w0 r ae c:=by
 have h:=A.W B;refine ay func75 ?_;have X:=(x4.1 f).1;refine aV (λv J=>v= .bool (decide (¬(0<=(j:Int)/\(j:Int)<n.d7.length)))/\Ext w J) ?_ λaz K=>Fa h λI M=>K _ _ ⟨rfl,M⟩;rintro _ J ⟨rfl,s⟩;rw[pl Ω,aW];have e:=B.F s;obtain⟨Y,Z,aa,ab,gr,aX,L,nm,d9,gz,fv2,h1,ac,ad,af,ah,x,C⟩:=A;have ai:L.length=n.d7.length:=by rw[<-C,r9]
 obtain⟨a,y⟩:=aC (l:=L) (i:=j) Ω;have N:ec a=g:=by rw[<-C,x8,y]at f;exact Z7 f
 obtain⟨_,q,O,E⟩:=x.2 a (x5 y);rw[aN fX.p 3 (h1.W e) rfl,c5 rfl my.u iM.i (x.1.W e) Ω,aT iM.p rfl,av Ψ ((x.1.W e).range y 1 _ rfl)];refine(Ql (E.W e)).X ?_;rintro v V _ ⟨P,gt,Q,rfl,aj,al,R⟩;have am:=s.size;refine⟨s.F P,gt,Q,O,rfl,Ω,Ω,?_,λr G=>?_⟩
 .rw[<-N];exact R
 .obtain⟨⟨_,_,_,hm,_⟩,_⟩:=E;obtain⟨S,_⟩:=bD hm G;rcases hm.2 with⟨U,_⟩|⟨_,cs,_,W,_⟩
  .obtain⟨_,_,_,H,an⟩:=G;rw[U]at H;cases H
  .exact⟨cs,S▸W⟩
structure rq where
 aI:x1
 d9:x1
 at_:Nat
def mZ(x:rq):List x1:=[x.aI,x.d9,Δ (x.at_:Int)]
structure p0 where
 v:Int
 aI:x1
 bv:x1
def kc(x:p0):List x1:=[Δ x.v,x.aI,x.bv]
def iW(s:al):Λ:=(Z4 s.d6.length).map λi=>(gL s i:Int)
def kd(R:ah)(w:x3)(v:x1)(l:Λ):Prop:=(∃g,an .i64 ae w g v l)/\∀r,li v r->R r
theorem kd.ls{R:ah}(h:kd R w v l):aF .i64 w v l:=by
 obtain⟨⟨g,h⟩,_⟩:=h;exact h.ls
theorem kd.aa{R S:ah}(h:kd R w v l)(f:af S w I)(j:∀r,r<w.heap.size->R r->¬S r):kd R I v l:=by
 obtain⟨⟨g,h1⟩,a⟩:=h;exact⟨⟨g,bl h1 f λr e=>j r (by obtain⟨p,q⟩:=bD h1 e;omega) (a r e)⟩,a⟩
theorem kd.X{R R':ah}(h:kd R w v l)(a:∀r,R r->R' r):kd R' w v l:=⟨h.1,λr e=>a r (h.2 r e)⟩
def lr(R:ah)(w:x3)(L:List rq)(s:al):Prop:=L.length=s.d7.length/\∀(j:Nat)x f,L[j]?=σ x->s.d7[j]?=σ f->kd R w x.aI f.sc/\kd R w x.d9 f.szs/\x.at_=e4 s j
def m3(R:ah)(w:x3)(E:List p0)(s:al):Prop:=E.length=s.elims.length/\∀(j:Nat)x e,E[j]?=σ x->s.elims[j]?=σ e->x.v=e.v/\kd R w x.aI e.sc/\kd R w x.bv e.dZ
theorem lr.aa{R S:ah}{L:List rq}{s:al}(h:lr R w L s)(a:af S w I)(e:∀r,r<w.heap.size->R r->¬S r):lr R I L s:=⟨h.1,λj x f p q=>by
 obtain⟨h1,y,z⟩:=h.2 j x f p q;exact⟨h1.aa a e,y.aa a e,z⟩⟩
theorem m3.aa{R S:ah}{E:List p0}{s:al}(h:m3 R w E s)(a:af S w I)(e:∀r,r<w.heap.size->R r->¬S r):m3 R I E s:=⟨h.1,λj x f p q=>by
 obtain⟨h1,y,z⟩:=h.2 j x f p q;exact⟨h1,y.aa a e,z.aa a e⟩⟩
theorem lr.X{R R':ah}{L:List rq}{s:al}(h:lr R w L s)(a:∀r,R r->R' r):lr R' w L s:=⟨h.1,λj x f e p=>by
 obtain⟨h1,q,y⟩:=h.2 j x f e p;exact⟨h1.X a,q.X a,y⟩⟩
theorem m3.X{R R':ah}{E:List p0}{s:al}(h:m3 R w E s)(a:∀r,R r->R' r):m3 R' w E s:=⟨h.1,λj x f e p=>by
 obtain⟨h1,q,y⟩:=h.2 j x f e p;exact⟨h1,q.X a,y.X a⟩⟩
theorem s6{a b c:x3}(h:Ext a b)(k:af S b c)(f:∀r o,a.heap[r]?=σ o->fI o=rs->¬S r):Ext a c:=
 ⟨Y1 h.size k.size,λr o e U=>k.a8 r o (h.a8 r o e U) U (f r o e U)⟩
theorem dB.cut{A:ah}{t:aw}(h:dB w ad A t):dB w ad (λr=>A r/\r<w.heap.size) t:=by
 obtain⟨s,x,go,di,aY,y,dY,h1,e,f,j,z⟩:=h;refine⟨⟨s,h1.lt⟩,x,go,di,aY,y,dY,h1,e,f,j,λr a=>⟨z r a,?_⟩⟩;rcases a with a|a|a
 .obtain⟨p,q⟩:=e.li a;omega
 .obtain⟨p,q⟩:=f.li a;omega
 .obtain⟨p,q⟩:=j.li a;omega
def eU(w:x3)(ac ad j:Nat)(e f h:x1)(A R:ah)(n:aG)(s:al)(t:aw):Prop:=
 (A ac/\(∀r,A r->¬R r)/\(∀r,R r->r<w.heap.size)/\∀r,A r->r<w.heap.size)/\∃aU p ge,∃(L:List rq)(E:List p0)(a:ah)(w0:x3),
  ag w ac bV [Γ j,Γ ad,e,f,h]/\(gv w0 j n/\Ext w0 w/\∀r o,w0.heap[r]?=σ o->fI o=rs->R r)/\
  (dB w ad a t/\(∀r,a r->A r)/\¬a ac/\∀r,li e r\/lc f r\/lc h r->A r/\¬a r)/\an .i64 ae w aU e (iW s)/\
  (bm mZ 3 cT w p f L/\lr R w L s)/\bm kc 3 b2 w ge h E/\m3 R w E s
theorem eU.aa{S:ah}{p q x:x1}{A R:ah}{n:aG}{s:al}{t:aw}(h:eU w ac ad j p q x A R n s t)(a:af S w I)(f:∀r,r<w.heap.size->A r\/R r->¬S r):eU I ac ad j p q x A R n s t:=by
 obtain⟨⟨h1,aj,ak,am⟩,aU,y,ge,L,E,B,w0,C,⟨F,G,H⟩,⟨J,K,M,N⟩,O,⟨P,Q⟩,T,V⟩:=h;have z:=a.size;refine⟨by grind,aU,y,ge,L,E,B,w0,C.aa a (by grind),⟨F,s6 G a λr o e an U=>f r (by grind) (by grind) U,H⟩,
  ⟨?_,K,M,N⟩,bl O a λr e U=>f r ?_ (by grind) U,⟨P.aa a λr e U=>f r ?_ (by grind) U,Q.aa a (by grind)⟩,T.aa a λr e U=>f r ?_ (by grind) U,V.aa a (by grind)⟩
 .obtain⟨W,X,go,di,aY,Y,dY,Z,ab,ae,ag,ai⟩:=J;refine⟨W,X,go,di,aY,Y,dY,Z.aa a (by grind),ab.aa a λr e U=>?_,ae.aa a λr e U=>?_,ag.aa a λr e U=>?_,ai⟩
  all_goals grind
 all_goals grind
theorem eU.W{e f j:x1}{A R:ah}{n:aG}{s:al}{t:aw}(h:eU w ac ad a e f j A R n s t)(p:Ext w I):eU I ac ad a e f j A R n s t:=h.aa (p.aa λ_=>False) λ_ _ _ h=>h
theorem eU.s7{q:Nat}{x y:x1}{A R:ah}{n:aG}{s:al}{t:aw}(h:eU w ac ad q x y z A R n s t):∃j,dB w ad j t/\∀f I t',Grow j w f I->dB I ad f t'->∃aJ,Grow A w aJ I/\eU I ac ad q x y z aJ R n s t':=by
 obtain⟨⟨h1,af,C,F⟩,aU,K,ge,L,E,j,w0,M,⟨N,O,P⟩,⟨Q,G,S,ag⟩,T,⟨U,V⟩,W,X⟩:=h;refine⟨j,Q,λH I t' p Y=>?_⟩;have J:=Y.cut;have e:Grow j w (λr=>H r/\r<I.heap.size) I:=⟨p.1,λr a=>p.2.1 r a.1,λr a=>⟨p.2.2 r a,by have:=F r (G r a);have:=p.1.size;omega⟩⟩;obtain⟨f,Z⟩:∃B:ah,B=λr=>H r/\r<I.heap.size:=⟨_,rfl⟩;rw[<-Z]at J e;have ai:∀r,f r->r<I.heap.size:=by grind
 refine⟨λr=>A r\/f r,⟨e.1.X (by grind),λr a=>?_,by grind⟩,⟨.inl h1,λr a ab=>?_,λr a=>?_,λr a=>?_⟩,aU,K,ge,L,E,f,w0,M.aa e.1 S,⟨N,s6 O e.1 (by grind),P⟩,
  ⟨J,by grind,λa=>?_,λr a=>⟨by grind,λae=>?_⟩⟩,bl T e.1 (by grind),⟨U.aa e.1 (by grind),V.aa e.1 (by grind)⟩,W.aa e.1 (by grind),X.aa e.1 (by grind)⟩
 .rcases a with a|a
  .grind
  .exact (e.2.1 r a).imp (G r) id
 .have:=C r ab;rcases a with a|a
  .grind
  .rcases e.2.1 r a with h|h
   all_goals grind
 .have:=C r a;have:=e.1.size;omega
 .rcases a with a|a
  .have:=F r a;have:=e.1.size;omega
  grind
 .rcases e.2.1 _ a with h|h
  all_goals grind
 .rcases e.2.1 r ae with h|h
  all_goals grind
def StateM(w:x3)(ac ad:Nat)(A R:ah)(n:aG)(s:al)(t:aw):Prop:=∃a e f h,eU w ac ad a e f h A R n s t
theorem StateM.aa{S:ah}{A R:ah}{n:aG}{s:al}{t:aw}(h:StateM w ac ad A R n s t)(a:af S w I)(e:∀r,r<w.heap.size->A r\/R r->¬S r):StateM I ac ad A R n s t:=by
 obtain⟨f,j,p,q,h⟩:=h;exact⟨f,j,p,q,h.aa a e⟩
theorem StateM.W{A R:ah}{n:aG}{s:al}{t:aw}(h:StateM w ac ad A R n s t)(a:Ext w I):StateM I ac ad A R n s t:=h.aa (a.aa λ_=>False) λ_ _ _ h=>h
theorem StateM.s7{A R:ah}{n:aG}{s:al}{t:aw}(h:StateM w ac ad A R n s t):∃a,dB w ad a t/\∀e I t',Grow a w e I->dB I ad e t'->∃aJ,Grow A w aJ I/\StateM I ac ad aJ R n s t':=by
 obtain⟨f,j,p,q,h⟩:=h;obtain⟨a,h1,r⟩:=h.s7;exact⟨a,h1,λe I t' x y=>by
  obtain⟨aJ,z,B⟩:=r e I t' x y;exact⟨aJ,z,f,j,p,q,B⟩⟩
def n0(s s':al):Prop:=iW s'=iW s/\s'.d7.length=s.d7.length/\(∀(j:Nat)a,s'.d7[j]?=σ a->∃f,s.d7[j]?=σ f/\a.sc=f.sc/\a.szs=f.szs/\e4 s' j=e4 s j)/\s'.elims=s.elims
theorem eU.same{e p q:x1}{A R:ah}{n:aG}{s s':al}{t:aw}(h:eU w ac ad a e p q A R n s t)(U:n0 s s'):eU w ac ad a e p q A R n s' t:=by
 obtain⟨ap,aU,y,ge,L,E,z,w0,B,C,F,T,⟨G,r⟩,H,V⟩:=h;obtain⟨W,I,J,X⟩:=U;refine⟨ap,aU,y,ge,L,E,z,w0,B,C,F,by grind,⟨G,r.1.F I.symm,λj x K M N=>?_⟩,H,?_⟩
 .obtain⟨f,O,P,Q,S⟩:=J j K N;rw[P,Q,S];exact r.2 j x f M O
 grind [m3]
theorem StateM.same{A R:ah}{n:aG}{s s':al}{t:aw}(h:StateM w ac ad A R n s t)(U:n0 s s'):StateM w ac ad A R n s' t:=by
 obtain⟨a,e,f,j,h⟩:=h;exact⟨a,e,f,j,h.same U⟩
theorem vx{α β:Type}{f:α->List β}:∀{L:List α}{i j:Nat}{a b:α},L[i]?=σ a->(f b).length=(f a).length->(((L.set i b).take j).flatMap f).length=((L.take j).flatMap f).length
 |[],_,_,_,_,h,_=>by simp at h
 |x::L,0,j,a,b,h,e=>by
  cases h;cases j<;>grind
 |x::L,i+1,j,a,b,h,e=>by
  have h:L[i]?=σ a:=by grind
  cases j with
  |zero=>rfl
  |succ j=>
   rw[List.set_cons_succ,List.take_succ_cons,List.take_succ_cons,U3,U3,p9,p9,vx h e]
theorem yN(s:al)(c:Int):n0 s {s with zero:=c}:=⟨rfl,rfl,λj f h=>⟨f,h,rfl,rfl,rfl⟩,rfl⟩
theorem s8{s:al}{i:Nat}{x y:br}(a:s.d6[i]?=σ x)(e:y.un.length=x.un.length):n0 s {s with d6:=s.d6.set i y}:=by
 have p:(iA y).length=(iA x).length:=by simp[iA,e]
 refine⟨?_,rfl,λj f h=>⟨f,h,rfl,rfl,?_⟩,rfl⟩
 .grind [iW,gL,vx]
 .unfold e4;have:=vx (j:=s.d6.length) a p
  grind [o7]
theorem yO{s:al}{i:Nat}{x y:bF}(e:s.d7[i]?=σ x)(a:y.cs.length=x.cs.length)(h1:y.sc=x.sc)(p:y.szs=x.szs):n0 s {s with d7:=s.d7.set i y}:=by
 have q:(fQ y).length=(fQ x).length:=by simp[fQ,a]
 refine⟨rfl,U7,λj f h=>?_,rfl⟩
 grind [e4,vx]
theorem aw.yP(t:aw)(i:Nat)(x:Int):(t.set i x).marks=t.marks:=by
 grind [aw.set]
theorem aw.Fb(t:aw)(i:Nat)(x:Int):(t.set i x).kA=t.kA:=by
 grind [aw.set]
theorem aw.Fc(t:aw)(i:Nat)(x:Int):(t.set i x).cells.length=t.cells.length:=by
 grind [aw.qU,aw.bP,r9]
theorem aw.yQ(t:aw)(i:Nat)(x:Int):(t.set i x).olds.length<=t.olds.length+1:=by
 unfold aw.set
 grind
theorem aw.yR{t:aw}(h:t.marks=[])(i:Nat)(x:Int):(t.set i x).olds=t.olds:=by
 grind [aw.set]
def gw(t:aw)(l:Λ):Nat->aw
 |0=>t.grow l.length
 |i+1=>(gw t l i).set (t.cells.length+i) (l.getD i 0)
def lX(t:aw)(l:Λ):aw:=gw t l l.length
theorem rr(t:aw)(l:Λ):∀i,(gw t l i).marks=t.marks
 |0=>rfl
 |i+1=>(aw.yP _ _ _).F (rr t l i)
theorem Fe(t:aw)(l:Λ):∀i,(gw t l i).kA=t.kA
 |0=>rfl
 |i+1=>(aw.Fb _ _ _).F (Fe t l i)
theorem yS(t:aw)(l:Λ):∀i,(gw t l i).cells.length=t.cells.length+l.length
 :=by
 intro a;induction a<;>grind [gw,aw.grow,aw.Fc]
theorem vy(t:aw)(l:Λ):∀i,(gw t l i).olds.length<=t.olds.length+i
 |0=>o5 _
 |i+1=>by have:=aw.yQ (gw t l i) (t.cells.length+i) (l.getD i 0);have:=vy t l i;show(aw.set _ _ _).olds.length<=_;omega
theorem Ff{t:aw}(h:t.marks=[])(l:Λ):∀i,(gw t l i).olds=t.olds
 |0=>rfl
 |i+1=>(aw.yR ((rr t l i).F h) _ _).F (Ff h l i)
theorem Fg(t:aw)(l:Λ):∀i,i<=l.length->(gw t l i).bP=t.bP++(l.take i++u9 (l.length-i) 0)
 |0,_=>by rw[List.take_zero,List.nil_append];exact aw.LS
 |i+1,h=>by
  have a:=Fg t l i Ω;show(aw.set _ _ _).bP=_;have e:t.bP.length=t.cells.length:=by simp[aw.bP]
  rw[aw.qU,a,S7 _ _ Ω,e,Nat.add_sub_cancel_left,S7 _ _ (by rw[j6];omega),j6,Nat.min_eq_left Ω,U1,show l.length-i=(l.length-(i+1))+1 by omega,List.replicate_succ,List.set_cons_zero,u5,v8,x6 Ω]
  grind
theorem Fh(t:aw)(l:Λ):(lX t l).bP=t.bP++l:=by
 grind [lX,Fg]
theorem gI.gw{h:List aw}{t:aw}(hk:gI t h)(l:Λ):∀i,gI (gw t l i) h
 |0=>hk.grow
 |i+1=>(gI.gw hk l i).set
theorem kG{s:Go.Sem x1}{x:x1}(h:ab x7 s w (λv=>v=x)):cC x7 s x w:=by
 obtain⟨v,h,rfl⟩:=h;exact h
theorem vz{off:Nat}{z:Nat}{a:r8}{x:x1}(f:ag w ac e cs)(h:∀(K:x1->Prop),ab x7 (u6 bV (Γ ac) z) w K=K (.pointer (σ ⟨ac,0+off,ν⟩)))(j:k9 x7 a=rs)(p:cs[0+off]?=σ x):
  cC x7 (u4 a (.pointer (σ ⟨ac,0+off,ν⟩))) x w/\cC x7 (u6 bV (Γ ac) z) (.pointer (σ ⟨ac,0+off,ν⟩)) w/\cC x7 (bR (Γ ac)) (Γ ac) w/\True:=
 ⟨mH j (f.cell p),kG (by rw[h]),kG (by rw[bS]),trivial⟩
def Fi(w:x3)(r:Nat):Prop:=∃e c,ag w r e c/\(e=fz\/e=eH\/e=k7\/e=fN\/e=bV\/e=cT\/e=b2)
def dv(w:x3)(r:Nat):Prop:=Fi w r\/∀o,w.heap[r]?=σ o->fI o≠rs
theorem oN{J:x3}(hk:∀o,w.heap[r]?=σ o->fI o=rs->¬dv w r->J.heap[r]?=σ o)(h:dv J r):dv w r:=by
 by_cases a:dv w r
 .exact a
 .refine m7 (.inr λo f U=>?_) a;have h1:=hk o f U a;rcases h with⟨e,c,j,he⟩|p
  .refine a (.inl ⟨e,c,?_,he⟩)
   grind [ag]
  grind
theorem gM{J V:x3}(a:Ext w J)(e:af (dv J) J V):af (dv w) w V:=(a.aa _).F (e.X λr _ h=>oN (λo f U _=>a.a8 r o f U) h)
theorem oO{J V:x3}(h:af (dv w) w J)(a:af (dv J) J V):af (dv w) w V:=h.F (a.X λr _ e=>oN (λo f U j=>h.a8 r o f U j) e)
theorem dB.min{A:ah}{t:aw}(h:dB w ad A t):dB w ad (λr=>A r/\Fi w r) t:=by
 obtain⟨q,s,go,di,aY,x,dY,h1,f,j,p,y⟩:=h;refine⟨⟨q,_,_,h1,.inl rfl⟩,s,go,di,aY,x,dY,h1,f,j,p,λr a=>⟨y r a,?_⟩⟩;rcases a with a|a|a
 .obtain⟨rfl,c,e⟩:=dJ f a;exact⟨_,c,e,.inr (.inl rfl)⟩
 .obtain⟨rfl,c,e⟩:=dJ j a;exact⟨_,c,e,.inr (.inr (.inl rfl))⟩
 .obtain⟨rfl,c,e⟩:=dJ p a;exact⟨_,c,e,.inr (.inr (.inr (.inl rfl)))⟩
theorem eU.vA{f:Nat}{j p q:x1}{A R:ah}{n:aG}{s:al}{t:aw}(h:eU w ac ad f j p q A R n s t):∃a,dB w ad a t/\∀x I t',Grow a w x I->dB I ad x t'->af (dv w) w I/\∃aJ,Grow A w aJ I/\eU I ac ad f j p q aJ R n s t':=by
 obtain⟨a,y,z⟩:=h.s7;refine⟨_,y.min,λB J t' e C=>⟨e.1.X λr _ h=>.inl h.2,?_⟩⟩;exact z (λr=>a r\/B r) J _ ⟨e.1.X λr _ h=>h.1,λr E=>E.elim .inl λh=>(e.2.1 r h).imp (λh=>h.1) id,by grind⟩ (C.X (by grind))
theorem Fj{q:Nat}{y B:x1}{A R:ah}{n:aG}{s:al}{t:aw}{bK:x1}(h:eU w ac ad q y z B A R n s t)(C:aF .i64 w bK l)(P:∀r,li bK r->¬A r)(aH:t.cells.length+l.length<=100000000)(aI:t.olds.length+l.length<=100000000)(hm:t.marks.length<=100000000):
  ak x7 Bw [Γ ac,bK] w λv I=>v=Δ (t.cells.length:Int)/\af (dv w) w I/\∃aJ,Grow A w aJ I/\eU I ac ad q y z B aJ R n s (lX t l):=by
 refine ay func71 ?_;obtain⟨_,aU,Q,ge,L,E,_,w0,G,_⟩:=id h;obtain⟨S,H,K⟩:=h.vA;rw[aN bV.p 1 G rfl,aS au.u C];refine(Qb H ⟨Ω,Ω,hm⟩ Ω).X ?_;rintro _ J _ ⟨rfl,U,W,X⟩;obtain⟨Y,Z,N,aa⟩:=K U J _ W X;have O:∀{aJ:ah}{I:x3},Grow A w aJ I->aF .i64 I bK l:=λab=>jg C ab.1 λr ae a ag c ai am=>P r ⟨a,ag,c,ai,am⟩ ae;rw[aS au.u (O N)];have an:=C.le;refine ce.range l.length (λi V=>af (dv w) w V/\∃e,Grow A w e V/\eU V ac ad q y z B e R n s (gw t l i)) an ⟨Y,Z,N,aa⟩ ?_ ?_
 .rintro i V k hi ⟨M,e,f,j⟩ hk;refine bt Ω ?_;obtain⟨x,ap⟩:=aC (l:=l) hi;rw[ba au.u ao.i Ψ (O f) ap];obtain⟨_,aU,Q,ge,L,E,_,w0,G,_⟩:=id j;obtain⟨S,H,K⟩:=j.vA;have aK:=yS t l i;have aM:=vy t l i;have aq:=rr t l i;rw[aN bV.p 1 G rfl,aL,lm Ω Ω];refine(s5 (i:=t.cells.length+i) H Ω Ω ⟨Ω,Ω,by rw[aq];exact hm⟩).X ?_;rintro _ av _ ⟨rfl,ax,az,aA⟩;obtain⟨aB,aD,aE,aO⟩:=K ax av _ az aA;rw[aL];refine hk _ ⟨oO M aB,aD,f.F aE,?_⟩
  grind [gw]
 .rintro V k ⟨M,e,f,j⟩;rw[aP,aj];exact⟨λh=>Ω,λ_=>⟨rfl,M,e,f,j⟩⟩
def gN(s:al)(sc szs cs:Λ):al:={s with d7:=s.d7++[⟨sc,szs,1,cs⟩]}
def n1(s:al)(t:aw)(cs:Λ):aw:=(lX t (1::cs)).set 1 ((s.d7.length+1:Nat):Int)
theorem Fk{s:al}{t:aw}{sc cs:Λ}(h:t.bP=s.cells):(n1 s t cs).bP=(gN s sc szs cs).cells:=by
 unfold n1 gN;rw[aw.qU,Fh,h,<-Qf];rfl
theorem Fl{bi:Nat}{bj aH bk:x1}{A R:ah}{n:aG}{s:al}{t:aw}{aI:x1}{sc cs:Λ}{g bC:Nat}{Y:x1}(h:eU w ac ad bi bj aH bk A R n s t)(c4:t.bP=s.cells)(bY:aF .i64 w aI sc)(c5:∀r,li aI r->¬A r)(bm:cd w g bC Y szs k cs)(bZ:¬A g/\¬A bC/\∀r,li Y r->¬A r)(c6:sc.length<=1000)(aQ:t.cells.length+cs.length+1<=100000000)(ba:t.olds.length+cs.length+1<=100000000)(hm:t.marks.length<=100000000)(c7:s.d7.length<=1000000):
  ak x7 IQ [Γ ac,aI,Γ g] w λv I=>v=Δ (s.d7.length:Int)/\af (dv w) w I/\∃aJ R' bn,Grow A w aJ I/\eU I ac ad bi bj bn bk aJ R' n (gN s sc szs cs) (n1 s t cs)/\(∀r,R r->R' r)/\∀r,R' r->R r\/li Y r\/w.heap.size<=r:=by
 have c8:t.cells.length=s.cells.length:=by grind [aw.bP]
 have c9:=rp s;have da:e4 (gN s sc szs cs) s.d7.length=t.cells.length:=by
  grind [e4,gN]
 have db:∀j,j<s.d7.length->e4 (gN s sc szs cs) j=e4 s j:=by grind [e4,gN]
 have b0:iW (gN s sc szs cs)=iW s:=rfl;refine ay func73 ?_;refine dh (λJ=>af (dv w) w J/\∃aJ R' bn,Grow A w aJ J/\eU J ac ad bi bj bn bk aJ R' n (gN s sc szs cs) (lX t (1::cs))/\(∀r,R r->R' r)/\∀r,R' r->R r\/li Y r\/w.heap.size<=r) ?_ ?_
 .rintro J ⟨b1,dc,b2,b3,b4,b5,b6,b7⟩;intro V bo _ _;have bE:=b5.W bo;obtain⟨_,aU,bp,ge,L,E,_,w0,aj,_,_,_,⟨aX,bb⟩,_⟩:=id bE;have bq:L.length=s.d7.length+1:=by rw[bb.1];simp[gN]
  rw[aN bV.p 1 aj rfl,aN bV.p 3 aj rfl,eI eQ.u aX];obtain⟨bF,b8,b9⟩:=bE.vA;have ca:=yS t (1::cs) (1::cs).length;have cb:=vy t (1::cs) (1::cs).length;have dd:=rr t (1::cs) (1::cs).length;simp only[Y4]at ca cb;refine(s5 b8 rfl (by show 1<(gw _ _ _).cells.length;grind) ⟨by show(gw _ _ _).cells.length<=_;grind,by show(gw _ _ _).olds.length<=_;grind,by show(gw _ _ _).marks.length<=_;grind⟩).X ?_;rintro _ cc _ ⟨rfl,ce,cf,cg⟩;obtain⟨ci,cj,ck,cl⟩:=b9 ce cc _ cf cg;obtain⟨_,aU,bp,ge,cm,E,_,w0,aj,_,_,_,⟨aX,cn⟩,_⟩:=id cl;have de:cm.length=s.d7.length+1:=by rw[cn.1];simp[gN]
  rw[aN bV.p 3 aj rfl,eI eQ.u aX,dN,lm Ω Ω];refine⟨by grind,oO b1 (gM bo ci),cj,b2,b3,b4.F ((Grow.W bo).F ck),?_,b6,b7⟩
  grind [n1]
 intro az cp;intro aK aL _ _;have bG:=h.W aL;obtain⟨_,aU,bp,ge,L,E,_,w0,aj,_⟩:=id bG;rw[aN bV.p 3 aj rfl];have z4:=aL.size;have bc:∀{B:x3}{Z S:x1}{aY ag:Nat},Ext aK B->w.heap.size<=aY->w.heap.size<=ag->an .i64 ae B aY Z sc->an .i64 ao B ag S (1::cs)->(∀r,li Z r\/li S r->¬A r)->
   ak x7 Bw [Γ ac,S] B λcq ax=>
    (Ext aK ax\/cC x7 (u4 eQ (.pointer (σ ⟨ac,0+3,ν⟩))) aH ax/\cC x7 (u6 bV (Γ ac) 3) (.pointer (σ ⟨ac,0+3,ν⟩)) ax/\cC x7 (bR (Γ ac)) (Γ ac) ax/\True)/\
    ab x7 (Instr.build cT #[(0,Z),(1,.agg #[Y]),(2,cq)]) ax λt22=>
    aD x7 (Z3 eQ 1 #[(0,t22)]) ax λcr am=>
     (Ext aK am\/cC x7 (u4 eQ (.pointer (σ ⟨ac,0+3,ν⟩))) aH am/\cC x7 (u6 bV (Γ ac) 3) (.pointer (σ ⟨ac,0+3,ν⟩)) am/\cC x7 (bR (Γ ac)) (Γ ac) am/\True)/\
    aD x7 (j4 #[eQ,eQ] eQ #[aH,cr]) am λct bd=>
     ab x7 (bR (Γ ac)) bd λt25=>
     ab x7 (u6 bV t25 3) bd λcu=>
     aD x7 (o6 eQ cu ct) bd λ(_:Unit)aR=>
      az aR:=by
  intro B Z S aY ag C bH Q G P df;have cw:=bG.W C;refine(Fj cw P.ls (by grind) Ω Ω hm).X ?_;rintro _ ax _ ⟨rfl,cz,aZ,aS,cA⟩;obtain⟨⟨cB,dg,cD,cF⟩,aU,bp,ge,L,E,bF,w0,aj,⟨cG,cH,bI⟩,⟨cI,cJ,cK,di⟩,br,⟨aX,bb⟩,bs,cL⟩:=id cA;have aA:=bl G aS.1 (by grind);have be:=((Classical.choose_spec (show∃gs,an .i64 ae w gs Y szs from by obtain⟨⟨_,gs,_,q,_⟩,_⟩:=bm;exact⟨gs,q⟩)).W aL).W C;have cM:=bl be aS.1 bZ.2.2;refine⟨.inr (vz aj (λK=>by rw[aT bV.p rfl]) Ψ rfl),?_⟩;rw[dq (cs:=#[Z,Y,Δ (t.cells.length:Int)]) (by obtain⟨_,_,_,rfl⟩:=cE G.ls;obtain⟨_,_,_,rfl⟩:=cE be.ls;kernel_rfl)];let a:rq:=⟨Z,Y,t.cells.length⟩;have cN:∀u∈mZ a,u.oneCell'=rs:=by
   intro u bJ;simp[mZ]at bJ;rcases bJ with rfl|rfl|rfl
   .exact G.ls.cells.2
   .exact be.ls.cells.2
   .rfl
  refine iS (f:=mZ) (a:=a) eQ.u cT.i Ω rfl rfl λdj dk am dm H cP=>?_;refine⟨.inr (vz (aj.W H) (λK=>by rw[aT bV.p rfl]) Ψ rfl),?_⟩;have a1:=aX.W H;have bq:=bb.1;refine jk eQ.u cT.i rfl a1 (by simpa using cP.sl) cN Ω Ω λcQ cR bd a2 cS bK=>?_;have a6:=aj.W H;have bL:=a6.aa bK λhe=>cO a1 a6 Φ he;rw[bS,aT bV.p rfl];refine bw eQ.i (eK a2.sl).1 (eK a2.sl).2 bL Ξ λaR bM dn bt=>?_;have bt:=bt;have ap:af (λr=>lc aH r\/r=ac) am aR:=(bK.X (by grind)).F (bM.X Ω);have z9:=C.size;have dp:=aS.1.size;have dr:=H.size;have ds:=ap.size;have bN:∀r,(lc aH r\/r=ac)->aZ r:=by grind
  have bu:∀r,(lc aH r\/r=ac)->¬R r:=by grind
  have cU:af (dv w) w aR:=oO (gM (aL.F C) cz) (gM H (ap.X λr _ y=>by
   rcases y with y|rfl
   .obtain⟨_,c,aQ⟩:=dJ a1 y;exact .inl ⟨_,c,‹r=_› ▸aQ,Φ⟩
   .exact .inl ⟨_,_,a6,Φ⟩))
  let cV:ah:=λr=>aZ r\/(am.heap.size<=r/\r<aR.heap.size);let bx:ah:=λr=>R r\/(li Y r/\r<ax.heap.size)\/(li Z r/\r<ax.heap.size);have dt:∀r,r<w.heap.size->aZ r->A r:=λr y h=>(aS.2.1 r h).elim id Ω;have du:∀r,li Z r->w.heap.size<=r/\r<B.heap.size:=λr y=>by obtain⟨h1,aV⟩:=bD G y;omega
  have dw:∀r,li Y r->r<B.heap.size:=λr y=>by obtain⟨h1,aV⟩:=bD be y;omega
  have bO:∀r,li Z r\/li Y r->¬aZ r:=λr y cW=>by
   rcases aS.2.1 r cW with h|h
   all_goals grind
  refine cp _ ⟨cU,cV,bx,cQ,(Grow.W (aL.F C)).F (aS.F ((Grow.W H).F ⟨ap.X λr _ y=>bN r y,λr y=>y.imp id And.left,λr y=>.inl y⟩)),?_,λr y=>.inl y,λr y=>?_⟩
  rotate_left
  .grind
  have bQ:∀{v:x1}{a7:Nat}{l:Λ},an .i64 ae am a7 v l->(∀r,li v r->¬aZ r)->an .i64 ae aR a7 v l:=λhm cX=>bl hm ap λr y U=>cX r y (bN r U);have cY:∀r,bx r->r<am.heap.size:=λr y=>by
   rcases y with y|y|y
   .have:=cD r y;omega
   .omega
   .omega
  refine⟨⟨.inl cB,λr y dx=>?_,λr y=>by have:=cY r y;omega,λr y=>y.elim (λy=>by have:=cF r y;omega) And.right⟩,aU,cR,ge,L++[a],E,bF,w0,bt,⟨cG,s6 (cH.F H) ap λr o y ba U=>bu r U (bI r o y ba),λr o y ba=>.inl (bI r o y ba)⟩,⟨(cI.W H).aa ap λr y U=>?_,λr y=>.inl (cJ r y),cK,λr y=>?_⟩,?_,⟨a2.aa bM λr y he=>?_,?_⟩,(bs.W H).aa ap λr y U=>?_,?_⟩
  .grind
  .grind
  .rcases y with y|y|y
   .grind
   .obtain⟨h1,aV⟩:=a2.li y;rcases cS r y with h|h
    all_goals grind
   grind
  .rw[b0];exact bl (br.W H) ap λr y U=>by
    rcases U with U|rfl
    .obtain⟨rfl,c,aQ⟩:=dJ a1 U;exact ch (br.W H) aQ Φ y rfl
    .exact ch (br.W H) a6 Φ y rfl
  .have he:r=ac:=he;subst he;exact cO a2 bL Φ y
  .refine⟨by rw[p9,bq];simp[gN],λj x f bf aM=>?_⟩;have aM:(s.d7++[⟨sc,szs,1,cs⟩])[j]?=σ f:=aM;by_cases cZ:j<s.d7.length
   .rw[W8 Ω]at bf;rw[W8 cZ]at aM;obtain⟨dy,dz,dA⟩:=((((lr.aa bb (H.aa λ_=>False) λ_ _ _ h=>h).aa ap λr _ y U=>bu r U y).X (R':=bx) λr y=>.inl y)).2 j x f bf aM
    grind
   .have bT:j=s.d7.length:=by have:=(x4.1 aM).1;simp at this;omega
    rw[Y5 Ω,bq,bT,U1]at bf;rw[Y5 Ω,bT,U1]at aM;cases bf;cases aM;refine⟨⟨⟨_,bQ (aA.W H) λr y=>bO r (.inl y)⟩,λr y=>.inr (.inr ⟨y,?_⟩)⟩,⟨⟨_,bQ (cM.W H) λr y=>bO r (.inr y)⟩,λr y=>.inr (.inl ⟨y,?_⟩)⟩,?_⟩
    all_goals grind
  .rcases U with U|rfl
   .obtain⟨rfl,c,aQ⟩:=dJ a1 U;exact cO (bs.W H) aQ Φ y
   .exact cO (bs.W H) a6 Φ y
  .exact ((m3.aa cL (H.aa λ_=>False) λ_ _ _ h=>h).aa ap λr _ y U=>bu r U y).X λr y=>.inl y
 have aW:=bm.W aL;have bU:=bY.W aL;have dC:∀r,A r->r<w.heap.size:=h.1.2.2.2;obtain⟨_,⟨_,_,dD⟩,dE,dF⟩:=id bm;have dG:cs.length<=4096:=Ω
 have bg:∀{aq:x3}{aO aP:x1}{W:Nat}{K:x1->x3->Prop},Ext aK aq->aK.heap.size<=W->an .i64 ao aq W aO [1]->aF .i64 aq aP cs->
   (∀S ag B,Ext aK B->af (λr=>r=W) aq B->w.heap.size<=ag->an .i64 ao B ag S (1::cs)->(Ext aK B->K S B))->aD x7 (j4 #[au,au] au #[aO,aP]) aq K:=by
  intro aq aO aP W K z bh av aB dH;refine iO au.u ao.i rfl av aB Θ Θ λS ag B Q P aC=>?_;have C:=z.put aC Ω;have c0:=z.size
  grind
 have aE:∀{v:x1}{a7:Nat}{c1:o4}{e:r8}{c2:x3}{l:Λ},an c1 e c2 a7 v l->w.heap.size<=a7->∀r,li v r->¬A r:=λhm dI r y dK=>by
  obtain⟨h1,_⟩:=bD hm y
  grind
 refine⟨?_,?_⟩
 .refine (jZ bU Ω).X ?_;rintro Z c3 _ ⟨M,aY,bH,G⟩;have z5:=M.size;refine⟨.inl M,?_,?_⟩
  .refine (nQ (aW.W M)).X ?_;rintro _ bW _ ⟨rfl,N⟩;have X:=M.F N;have dL:=X.size;have dM:=N.size;have bX:=(aW.W M).W N;refine⟨.inl X,?_,?_⟩
   .refine dl au.u ao.i rfl λaO W aq bh z av=>?_;refine⟨.inl (X.F z),?_⟩;refine(nP (bX.W z)).X ?_;rintro aP bz _ ⟨O,bA,bB,aB⟩;have ai:=(X.F z).F O;refine⟨.inl ai,?_⟩;refine bg ai Ω (av.W O) aB.ls λS ag B C aC Q P _=>⟨.inl C,?_⟩;have aA:=bl (((G.W N).W z).W O) aC λr y he=>by have he:r=W:=he;obtain⟨h1,aV⟩:=bD G y;omega
    exact bc C Ω Q aA P λr y=>y.elim (aE G Ω r) (aE P Q r)
   .refine (nP bX).X ?_;rintro aP aq _ ⟨z,bA,bB,aB⟩;refine⟨.inl (X.F z),?_⟩;have c0:=z.size;refine dl au.u ao.i rfl λaO W bz bh O av=>?_;have ai:=(X.F z).F O;refine⟨.inl ai,?_⟩;refine bg ai Ω av (aB.ls.W O) λS ag B C aC Q P _=>⟨.inl C,?_⟩;have aA:=bl (((G.W N).W z).W O) aC λr y he=>by have he:r=W:=he;obtain⟨h1,aV⟩:=bD G y;omega
    exact bc C Ω Q aA P λr y=>y.elim (aE G Ω r) (aE P Q r)
  .refine dl au.u ao.i rfl λaO W bW bh N av=>?_;have X:=M.F N;refine⟨.inl X,?_⟩;refine(nQ ((aW.W M).W N)).X ?_;rintro _ aq _ ⟨rfl,z⟩;have a8:=X.F z;refine⟨.inl a8,?_⟩;refine(nP (((aW.W M).W N).W z)).X ?_;rintro aP bz _ ⟨O,bA,bB,aB⟩;have ai:=a8.F O;refine⟨.inl ai,?_⟩;refine bg ai Ω ((av.W z).W O) aB.ls λS ag B C aC Q P _=>⟨.inl C,?_⟩;have aA:=bl (((G.W N).W z).W O) aC λr y he=>by have he:r=W:=he;obtain⟨h1,aV⟩:=bD G y;omega
   exact bc C Ω Q aA P λr y=>y.elim (aE G Ω r) (aE P Q r)
 .refine dl au.u ao.i rfl λaO W c3 bh M av=>?_;refine⟨.inl M,?_⟩;have z5:=M.size;have dO:=iy av Ξ;refine(jZ (bU.W M) Ω).X ?_;rintro Z bW _ ⟨N,aY,bH,G⟩;have X:=M.F N;refine⟨.inl X,?_⟩;refine(nQ ((aW.W M).W N)).X ?_;rintro _ aq _ ⟨rfl,z⟩;have a8:=X.F z;refine⟨.inl a8,?_⟩;refine(nP (((aW.W M).W N).W z)).X ?_;rintro aP bz _ ⟨O,bA,bB,aB⟩;have ai:=a8.F O;refine⟨.inl ai,?_⟩;refine bg ai Ω (((av.W N).W z).W O) aB.ls λS ag B C aC Q P _=>⟨.inl C,?_⟩;have aA:=bl ((G.W z).W O) aC λr y he=>by have he:r=W:=he;obtain⟨h1,aV⟩:=bD G y;omega
  exact bc C Ω Q aA P λr y=>y.elim (aE G Ω r) (aE P Q r)
theorem gx{P:X2}{t G:r8}{k:o4}{b g:Nat}{x:x1}{m:Λ}(y:P.underlying t=σ (.slice e))(hi:aR P e 1 b z)(A:z.cells.size=1)(h:an k e w g v l)(B:aF k w x m)(C:(l.length+m.length)*b<=140737488355328)(E:l.length+m.length<=9223372036854775807)(F:∀a f I,an k e I f a (l++m)->(∀r,li a r->li v r\/w.heap.size<=r)->af (λr=>li v r) w I->K a I):aD P (j4 #[t,t] G #[v,x]) w K:=by
 rcases h.2 with⟨q,H⟩|⟨cap,cs,q,M,N⟩
 .have J:=c9 H;subst J;have bf:an k e w w.heap.size v []:=by grind [an.nil]
  refine iO y hi A bf B C E λa f I j hm s=>F a f I hm (λr p=>.inr ?_) (s.X Ω);obtain⟨L,_⟩:=bD hm p;omega
 .refine iO y hi A h B C E λa f I j hm s=>F a f I hm (λr p=>?_) (s.X λr p he=>⟨_,_,_,q,he.symm⟩);obtain⟨L,_⟩:=bD hm p;rcases j with j|j
  .exact .inl ⟨_,_,_,q,by show g=r;omega⟩
  omega
def addVar(s:al)(u:Λ):al:={s with d6:=s.d6++[newVar u]}
theorem Qn(s:al)(u:Λ):iW (addVar s u)=iW s++[((3+(s.d6.flatMap iA).length:Nat):Int)]:=by
 unfold iW addVar;rw[p9,List.length_singleton,List.range_succ,n9]
 grind [V3,gL]
theorem Qo{s:al}{u:Λ}(a:s.d7=[]):(addVar s u).cells=s.cells++(0::0::u):=by
 unfold al.cells addVar kK;simp only[a,List.flatMap_nil,V2,List.flatMap_append,List.flatMap_singleton,Y7];rfl
def fl(n:aG)(i j:Nat):al:=⟨n.zero,(n.unary.take i).map newVar,(n.d7.take j).map (mY n.co),[]⟩
theorem Fm{n:aG}{i:Nat}{u:Λ}(h:n.unary[i]?=σ u):fl n (i+1) 0=addVar (fl n i 0) u:=by
 grind [fl,addVar,u5]
theorem Qp{n:aG}{i:Nat}{g:cZ}(h:n.d7[j]?=σ g):fl n i (j+1)=gN (fl n i j) g.1 (aA n.co g.1) g.2:=by
 unfold fl gN;simp only[u5,h,l7,n9,List.map_singleton];rfl
theorem yT(n:aG):fl n n.unary.length n.d7.length=dt n:=by
 grind [fl,dt]
theorem Fo{α β:Type}{f:α->List β}{b:Nat}:∀{L:List α},(∀x∈L,(f x).length<=b)->(L.flatMap f).length<=L.length*b
 :=by
 intro a;induction a<;>grind [T7]
theorem vB{n:aG}(a:kI n)(A:n.d7.length<=256)(i j:Nat):(fl n i j).cells.length<=2000000:=by
 rw[rp];have h1:=Fo (f:=iA) (b:=34) (L:=(fl n i j).d6) λx h=>by
  obtain⟨u,s,rfl⟩:=o8.1 (show x∈(n.unary.take i).map newVar from h);obtain⟨p,q⟩:=c8.1 (V4 s);have B:=a.lW;have C:=(x4.1 q).1;obtain⟨z,r⟩:=aC (l:=n.co) (i:=p) Ω;have w:=(a.unary p z u r q).1;have e:=a.co.2.2 z (x5 r);show u.length+2<=34;omega
 have w:=Fo (f:=fQ) (b:=4097) (L:=(fl n i j).d7) λx h=>by
  obtain⟨g,y,rfl⟩:=o8.1 (show x∈(n.d7.take j).map (mY n.co)from h);have e:=(a.d7 g (V4 y)).1;have E:=e.len;have F:=e.small;show g.2.length+1<=4097;omega
 have e:(fl n i j).d6.length<=64:=by
  show((n.unary.take i).map newVar).length<=64;rw[r9,j6];have:=a.lW;have:=a.co.2.1;omega
 grind [fl]
def Plain(t:aw):Prop:=t.marks=[]/\t.olds=[]/\gI t []/\t.kA=0
theorem Plain.set{t:aw}(h:Plain t)(i:Nat)(x:Int):Plain (t.set i x):=⟨(aw.yP _ _ _).F h.1,(aw.yR h.1 _ _).F h.2.1,h.2.2.1.set,(aw.Fb _ _ _).F h.2.2.2⟩
theorem Plain.lay{t:aw}(h:Plain t)(l:Λ):Plain (lX t l):=⟨(rr _ _ _).F h.1,(Ff h.1 _ _).F h.2.1,h.2.2.1.gw l _,(Fe _ _ _).F h.2.2.2⟩
theorem Plain.put{s:al}{t:aw}(h:Plain t)(cs:Λ):Plain (n1 s t cs):=(h.lay _).set _ _
def Qq(w:x3)(R0:ah)(n:aG)(v:x1)(I:x3):Prop:=Ext w I/\∃ac ad A R t,v=Γ ac/\StateM I ac ad A R n (dt n) t/\t.bP=(dt n).cells/\Plain t/\(∀r,A r->w.heap.size<=r)/\∀r,R r->R0 r\/w.heap.size<=r
theorem Qr{R0:ah}{z:Nat}{n:aG}(aA:gv w0 z n)(Z:Ext w0 w)(aX:∀r o,w0.heap[r]?=σ o->fI o=rs->R0 r)(cB:∀r,R0 r->r<w.heap.size)(B:kI n)(cC:n.d7.length<=256):ak x7 Bj [Γ z] w (Qq w R0 n):=by
 have h:=aA.W Z;have cD:=B.lW;have cE:=B.co.2.1;refine ay func14 ?_;rw[cV ov.u];simp only[l9,aW];refine(Qc (n:=3) Ω).X ?_;rintro _ J _ ⟨ab,ad,rfl,bx⟩;rw[dq (cs:=#[Γ z,Γ ad,.slice ν 0 0,.slice ν 0 0,.slice ν 0 0]) Ψ];refine bj λac V cF I M=>?_;have M:=M;have cG:=ab.size;have cH:=I.size;have cI:=M.lt;have bz:eU V ac ad z (.slice ν 0 0) (.slice ν 0 0) (.slice ν 0 0) (λr=>r=ac\/(w.heap.size<=r/\r<J.heap.size)) R0 n ⟨0,[],[],[]⟩ ⟨u9 3 ⟨0,0⟩,[],[],0⟩:=by
  refine⟨⟨.inl rfl,λr q bA=>?_,λr q=>?_,λr q=>?_⟩,0,0,0,[],[],λr=>w.heap.size<=r/\r<J.heap.size,w0,M,⟨aA,Z.F (ab.F I),aX⟩,⟨(bx.cut).W I,Ω,λq=>?_,λr q=>?_⟩,an.nil _ _ _ _,⟨bm.nil _ _ _ _ _,rfl,by grind⟩,bm.nil _ _ _ _ _,rfl,by grind⟩
  .grind
  .grind
  .omega
  .omega
  .rcases q with q|q|q
   .obtain⟨a,cJ,c,aB,cK⟩:=q;cases aB
   all_goals grind [gl]
 intro cL N _ _;have bB:=bz.W N;rw[aN bV.p 1 (M.W N) rfl];refine(Qj (h.W ((ab.F I).F N))).X ?_;rintro _ cM _ ⟨rfl,ag⟩;refine⟨.inl ag,?_⟩;have bC:=bB.W ag;obtain⟨aD,bE,bF⟩:=bC.s7;refine(s5 bE rfl Φ ⟨Ξ,Ξ,Ξ⟩).X ?_;rintro _ bG _ ⟨_,bH,bI,bJ⟩;obtain⟨bK,aY,aE⟩:=bF bH bG _ bI bJ;have aE:=aE.same (yN ⟨0,[],[],[]⟩ n.zero);have z3:=N.size;have z4:=ag.size;have bL:=((ab.F I).F N).F ag;have aZ:=bL.then aY.1 Ω;refine(yM (h.W aZ)).X ?_;rintro _ cN _ ⟨rfl,a1⟩;refine ce.range n.co.length (λi aj=>∃A C t,Ext w aj/\eU aj ac ad z C (.slice ν 0 0) (.slice ν 0 0) A R0 n (fl n i 0) t/\t.bP=(fl n i 0).cells/\Plain t/\∀r,A r->w.heap.size<=r) Ω
  ⟨bK,_,_,aZ.F a1,aE.W a1,?_,?_,λr q=>?_⟩ ?_ ?_
 .rw[aw.qU];rfl
 .exact Plain.set ⟨rfl,rfl,⟨rfl,rfl,λc s=>by rw[(List.mem_replicate.1 s).2];exact o5 _,X8 _⟩,rfl⟩ _ _
 .rcases aY.2.1 r q with he|he
  all_goals omega
 .rintro i aj bM hi ⟨A,C,t,H,aF,a2,O,aH⟩ bN;obtain⟨u,al⟩:=aC (l:=n.unary) (i:=i) Ω;obtain⟨a6,a7⟩:=aC (l:=n.co) (i:=i) Ω;have cO:u.length<=32:=by
   have cP:=(B.unary i a6 u a7 al).1;have cQ:=B.co.2.2 a6 (x5 a7);omega
  refine bt Ω ?_;refine(E9 (h.W H) B).X ?_;rintro cR cS _ ⟨bO,_,bQ⟩;obtain⟨cT,cU,bR⟩:=bQ u Ω (by rw[u7];exact al);intro a8 ba _ _;have aK:=bO.F ba;have bb:=aF.W aK;obtain⟨⟨_,_,_,bc⟩,aU,bd,ge,L,E,aD,w0,am,_⟩:=id bb;have cW:=aK.size;have cX:=H.size;rw[aN bV.p 2 am rfl];refine sj (l:=[0,0]) au.u ao.i Ω rfl Ψ λbT cY cZ c0 ap be=>?_;refine⟨.inl ap,?_⟩;refine gx au.u ao.i rfl be ((bR.W ba).ls.W ap) Θ Θ λbU c1 c2 bW bX bY=>?_;have c3:∀r,li bT r->a8.heap.size<=r:=λr q=>by obtain⟨aB,_⟩:=bD be q;omega
  have aq:=ap.then bY (by grind);refine⟨.inl aq,?_⟩;have bZ:=bb.W aq;have c4:∀r,li bU r->a8.heap.size<=r:=λr q=>by
   rcases bX r q with h|h
   .grind
   .have:=ap.size;omega
  have b0:t.cells.length<=2000000:=by
   grind [vB,aw.bP]
  have b1:t.olds.length=0:=by rw[O.2.1];rfl
  have b2:t.marks.length=0:=by rw[O.1];rfl
  refine(Fj bZ bW.ls (by grind) Θ Θ Ω).X ?_;rintro _ c5 _ ⟨rfl,_,aM,aO,b3⟩;obtain⟨⟨b4,c6,c7,c8⟩,aU,bd,ge,L,E,aD,w0,am,⟨b5,b7,b8⟩,⟨b9,c9,ca,da⟩,cb,⟨cc,cd⟩,cf,cg⟩:=id b3;refine⟨.inr (vz am (λK=>by rw[aT bV.p rfl]) Ψ rfl),?_⟩;refine dl ai.u ae.i rfl λdb dc bf dd y ci=>?_;have aP:=am.W y;refine⟨.inr (vz aP (λK=>by rw[aT bV.p rfl]) Ψ rfl),?_⟩;have de:(iW (fl n i 0)).length=i:=by
   grind [iW,fl]
  have bg:=cb.W y;refine gx ai.u ae.i rfl bg ci.ls (by grind) (by grind) λcj ck df P dg bh=>?_;have bi:=aP.aa bh λhe=>ch bg aP Φ he rfl;rw[bS,aT bV.p rfl];refine bw ai.i P.ls.cells.1 P.ls.cells.2 bi Ξ λbk bn dh aQ=>?_;have aQ:=aQ;rw[aL];have s:af (λr=>li C r\/r=ac) bf bk:=(bh.X (by grind)).F (bn.X Ω);have di:=aq.size;have z12:=aO.1.size;have dj:=y.size;have dk:=s.size;have dm:∀r,aM r->w.heap.size<=r:=λr q=>(aO.2.1 r q).elim (aH r) Ω;have dn:∀r,(li C r\/r=ac)->aM r:=by grind
  have dp:(fl n (i+1) 0).cells=(fl n i 0).cells++(0::0::u):=by rw[Fm al];exact Qo rfl
  have cl:t.cells.length=3+((fl n i 0).d6.flatMap iA).length:=by
   grind [rp,aw.bP,fl]
  refine bN _ ⟨λr=>aM r\/(bf.heap.size<=r/\r<bk.heap.size),cj,lX t ([0,0]++u),?_,⟨⟨.inl b4,λr q bA=>?_,by grind,λr q=>?_⟩,ck,bd,ge,L,E,aD,w0,aQ,⟨b5,s6 (b7.F y) s (by grind),b8⟩,⟨(b9.W y).aa s λr q U=>?_,by grind,ca,λr q=>?_⟩,?_,⟨(cc.W y).aa s λr q U=>?_,?_⟩,(cf.W y).aa s λr q U=>?_,?_⟩,?_,O.lay _,λr q=>?_⟩
  .exact ((H.F (aK.F aq)).then aO.1 (by grind)).F y |>.then s (by grind)
  .grind
  .grind
  .grind
  .rcases q with q|q|q
   .have dr:=(bD P q)
    grind
   all_goals grind
  .rw[Fm al,Qn,<-cl];exact bl P bn λr q he=>by
    have he:r=ac:=he;subst he;exact ch P bi Φ q rfl
  .grind [gl]
  .refine⟨cd.1,λj x f cm aR=>?_⟩;have aR:((n.d7.take 0).map (mY n.co))[j]?=σ f:=aR;simp at aR
  .grind [gl]
  .refine⟨cg.1,λj x e cm he=>?_⟩;have he:([]:List jJ)[j]?=σ e:=he;simp at he
  all_goals grind [Fh]
 .rintro aj bM ⟨A,C,t,H,aF,a2,O,aH⟩;refine b6 Ω ?_;refine(E8 (h.W H)).X ?_;rintro _ ds _ ⟨rfl,bo⟩;refine ce.range n.d7.length (λj Q=>∃A R av t,Ext w Q/\eU Q ac ad z C av (.slice ν 0 0) A R n (fl n n.co.length j) t/\t.bP=(fl n n.co.length j).cells/\Plain t/\(∀r,A r->w.heap.size<=r)/\∀r,R r->R0 r\/w.heap.size<=r) Ω
   ⟨A,_,_,t,H.F bo,aF.W bo,a2,O,aH,by grind⟩ ?_ ?_
  .rintro j Q cn cp ⟨A,R,av,t,G,S,ax,W,bp,bq⟩ cq;obtain⟨g,az⟩:=aC (l:=n.d7) cp;have aS:=(B.d7 g (x5 az)).1;refine bt Ω ?_;refine(Qk (h.W G) B az).X ?_;rintro aI du _ ⟨X,gs,dv,br⟩;refine(Qm aA (Z.F (G.F X)) az).X ?_;rintro _ dw _ ⟨Y,gt,dx,cr,rfl,dy,dz,ct,bs⟩;have z0:=Z.size;have dA:∀r,li cr r->r<w.heap.size:=λr q=>by obtain⟨c,aV⟩:=bs r q;have:=aV.lt;omega
   have cu:=(S.W X).W Y;have bc:∀r,A r->r<Q.heap.size:=S.1.2.2.2;have dC:=X.size;have b0:t.cells.length<=2000000:=by
    grind [vB,aw.bP]
   have b1:t.olds.length=0:=by rw[W.2.1];rfl
   have b2:t.marks.length=0:=by rw[W.1];rfl
   have dD:g.2.length<=4096:=by have:=aS.len;have:=aS.small;omega
   have dE:=aS.scope.2;refine(Fl (sc:=g.1) cu ax (br.ls.W Y) (λr q cw=>by have:=bc r cw;obtain⟨aB,_⟩:=bD br q;omega) ct (by grind) Ω Ω Ω Ω ?_).X ?_
   .show ((n.d7.take j).map (mY n.co)).length<=_
    grind
   rintro _ dF _ ⟨rfl,_,aJ,R',cz,bu,dG,dH,cA⟩;rw[aL];have dI:=Qp (i:=n.co.length) az;refine cq _ ⟨aJ,R',cz,n1 (fl n n.co.length j) t g.2,((G.F X).F Y).then bu.1 (by grind),?_,?_,W.put _,λr q=>?_,λr q=>?_⟩
   .grind
   .grind [Fk]
   .rcases bu.2.1 r q with h|h
    .grind
    .have:=G.size;have:=Y.size;omega
   .rcases cA r q with h|h|h
    .grind
    .exact .inl (by obtain⟨c,aV⟩:=bs r h;exact aX r _ aV rfl)
    .exact .inr (by have:=G.size;have:=X.size;have:=Y.size;omega)
  .rintro Q cn ⟨A,R,av,t,G,S,ax,W,bp,bq⟩;refine b6 Ω ?_;have e:fl n n.co.length n.d7.length=dt n:=by grind [yT]
   rw[e]at S ax;exact⟨G,ac,ad,A,R,t,rfl,⟨z,C,av,_,S⟩,ax,W,bp,bq⟩
end Go.Proofs.YtkcigodpbndobaaGreatDoor
