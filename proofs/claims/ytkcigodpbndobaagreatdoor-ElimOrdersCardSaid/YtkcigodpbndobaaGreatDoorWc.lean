/- own texts, made small by a tool (wip/ holds them as they were written): no statement of the seat. -/
import Derived.Test.YtkcigodpbndobaaGreatDoorWb
set_option linter.unusedVariables false
set_option linter.unusedSimpArgs false
set_option linter.unnecessarySimpa false
open Bool renaming false→rs,true→ro,not_true→Y6,not_false→X4,eq_iff_iff→T1
open Decidable renaming not_not→Z6
open Go renaming Value→x1,World→x3,TypeId→r9,IntKind→o5,Builtin→j9,Program→X5,Addr→Q0,FuncId→Q2
open Go.Addr renaming add_mid→W5
open Go.Builtin renaming append_→j6,len_→W0,zeroCells→S8
open Go.Instr renaming loadAt→u4,fieldAt→u6,storeAt→o7,indexAt→j4,extract→c8,buildSlice→Y1,sliceAt→V4,alloc→S5
open Go.IntKind renaming i64→Y7
open Go.Proofs.Tryz renaming prog→x7
open Go.Value renaming int→X2,cells→T9
open Int renaming toNat_natCast→u9,le_refl→R6
open List renaming getElem?_eq_some_iff→x4,mem_of_getElem?→x5,getElem?_eq_getElem→x6,getElem?_map→x8,getD_eq_getElem?_getD→u5,take_add_one→u7,replicate→r8,length_append→p8,length_map→o4,take_length→o6,mem_map→o8,mem_append→o9,take_of_length_le→n9,map_append→l7,ext_getElem?→j5,length_take→c7,mem_iff_getElem?→c9,mem_singleton→b8,eq_nil_of_length_eq_zero→Z0,range→Z2,getElem?_set_self→Z3,getElem?_eq_none→Z9,length_cons→Y3,getElem?_set→Y4,getElem?_take_of_lt→Y5,getElem?_append_right→Y9,append_assoc→X0,drop_eq_getElem_cons→X1,getElem?_set_ne→X3,length_eq_one_iff→X6,pairwise_iff_getElem→X9,getElem?_append_left→W8,append_nil→V1,map_congr_left→V2,map_set→V3,mem_of_mem_take→U1,map_cons→U3,length_set→U4,flatMap_cons→U7,length_singleton→T4,mem_or_eq_of_mem_set→T8,set_append_right→Q1,getElem_mem→Q4
open Nat renaming le_refl→p9,le_trans→Y2,zero_le→X7,zero_add→W7,mul_one→V0,mul_le_mul_right→V5,sub_self→U5,add_mul→T7
open Option renaming toList_some→l9,isNone_some→j0,some→b9,map_some→Z4,map_eq_some_iff→Y0,map→W6
open Option.some renaming inj→Z7,injEq→Y8
open Prod.mk renaming injEq→T2
set_option maxHeartbeats 16000000
open Option renaming some→σ,none→ν
variable{k y:Int}{e:r9}{I w w0:x3}{bv bw sv v z:x1}{l co szs t:Λ}{B N a ac ad gs j n r:Nat}{S:Nat->Prop}{cs:List x1}{K:x1->x3->Prop}
namespace Go.Proofs.YtkcigodpbndobaaGreatDoor
open Go Go.Vc Go.RowKit Go.Proofs Go.Proofs.Tryz
set_option maxRecDepth 100000
theorem iA{k:o5}{g:Nat}(h:ao k e w g v l)(f:0<l.length):g<w.heap.size:=by
 obtain⟨_,⟨_,h1⟩|⟨_,_,_,a,_⟩⟩:=h
 .omega
 .exact a.lt
def gq(w:x3)(g m:Nat)(sv:x1)(gs:Nat)(szs:Λ)(k o:Int)(D:Told):Prop:=
 ag w g fP [sv,Δ k,Δ o,.map (σ m)]/\ao .i64 ae w gs sv szs/\dg w m (D.map lq)/\bS szs/\cJ o k/\∀p∈D,cX szs p.1/\cJ p.2 k/\p.2≠o
theorem gq.is{g m:Nat}{o:Int}{D:Told}(h:gq w g m sv gs szs k o D):e2 w g m szs k o D:=⟨⟨sv,gs,h.1,h.2.1⟩,h.2.2⟩
theorem e2.at{g m:Nat}{o:Int}{D:Told}(h:e2 w g m szs k o D):∃sv gs,gq w g m sv gs szs k o D:=by
 obtain⟨⟨sv,gs,h1,a⟩,e⟩:=h;exact⟨sv,gs,h1,a,e⟩
theorem gq.W{g m:Nat}{o:Int}{D:Told}(h:gq w g m sv gs szs k o D)(a:Ext w I):gq I g m sv gs szs k o D:=by
 obtain⟨h1,e,f,j⟩:=h;exact⟨h1.W a,e.W a,f.W a,j⟩
theorem gq.aa{g m:Nat}{o:Int}{D:Told}(h:gq w g m sv gs szs k o D)(a:af S w I)(e:¬S g)(hm:¬S m)(U:∀r,li sv r->¬S r):gq I g m sv gs szs k o D:=by
 obtain⟨h1,f,j,p⟩:=h;exact⟨h1.aa a e,bk f a U,j.aa a hm,p⟩
theorem vw{g m:Nat}{d:List (x1×x1)}(h:ag w g e cs)(hm:dg w m d):g≠m:=by
 rintro rfl;obtain⟨a,c,h1,_⟩:=hm;unfold ag at h;rw[h1]at h;cases h
theorem EE{g m:Nat}{k:o5}{d:List (x1×x1)}(h:ao k e w g v l)(hm:dg w m d)(f:li v r):r≠m:=by
 obtain⟨rfl,_⟩:=bE h f;obtain⟨_,⟨rfl,_⟩|⟨_,_,_,j,_⟩⟩:=h
 .obtain⟨a,n,c,h,_⟩:=f;cases h
 .exact vw j hm
theorem gq.put{g m:Nat}{o:Int}{D D':Told}(h:gq w g m sv gs szs k o D)(a:af (λr=>r=m) w I)(bi:e2 I g m szs k o D'):gq I g m sv gs szs k o D':=
 ⟨h.1.aa a (λhe=>vw h.1 h.2.2.1 he),bk h.2.1 a (λr e he=>EE h.2.1 h.2.2.1 e he),bi.2⟩
theorem gq.sK{g m:Nat}{o:Int}{D:Told}(h:gq w g m sv gs szs k o D):g<w.heap.size/\m<w.heap.size/\∀r,li sv r->r<w.heap.size:=
 ⟨h.1.lt,h.2.2.1.lt,λr a=>by obtain⟨rfl,e⟩:=bE h.2.1 a;exact e⟩
instance (s t:Λ):Decidable (cX s t):=decidable_of_iff ((ct s t 0).isSome=ro) ⟨λh=>by
 cases a:ct s t 0 with
 |none=>rw[a]at h;cases h
 |some n=>exact⟨n,a⟩,λ⟨n,h⟩=>by rw[h];rfl⟩
theorem vx(h:aI .i64 w sv l)(G:l.length<=1000000):aj x7 BB [sv] w λv I=>Ext w I/\∃g,w.heap.size<=g/\ao .i64 ae I g v l:=by
 refine az func55 ?_;rw[aS aw.u h];refine ky (k:=.i64) al.u ae.i Ω Ω λg J H j p=>?_;have y:ao .i64 ae J g (.slice (σ ⟨g,0,ν⟩) l.length l.length) (r8 l.length 0):=by
  have:=bZ.full (k:=1) (n:=l.length) p Ξ (by simp[maxLen];omega);exact ao.of this
 rw[aS aw.u (h.W j)];have K:=p.lt;refine cm.range l.length (λi V=>af (λr=>r=g) J V/\ao .i64 ae V g (.slice (σ ⟨g,0,ν⟩) l.length l.length) (l.take i++r8 (l.length-i) 0)) h.le ⟨af.refl _ _,by simpa using y⟩ ?_ ?_
 rotate_left
 .rintro V z ⟨f,a⟩;rw[aP,ai];rw[o6,U5,List.replicate_zero,V1]at a;exact⟨λh=>Ω,λ_=>⟨j.put f Ω,g,Ω,a⟩⟩
 rintro i V z hi ⟨f,a⟩ A;obtain⟨x,q⟩:=aF (l:=l) hi;have B:Ext w V:=j.put f Ω;refine bC Ω ?_;rw[be aw.u ap.i Ψ (h.W B) q];rw[iy rfl al.u ae.i a Θ];refine iz ae.i a Θ λL C M s=>?_;rw[aM];refine A _ ⟨f.F C,?_⟩;have e:(l.take i++r8 (l.length-i) 0).set i x=l.take (i+1)++r8 (l.length-(i+1)) 0:=by
  have E:(l.take i).length=i:=by rw[c7];omega
  rw[Q1 _ _ Ω,E,U5,show l.length-i=(l.length-(i+1))+1 by omega,List.replicate_succ,List.set_cons_zero,u7,q,l9,X0];rfl
 rw[e]at s;exact s
def OZ(w:x3)(l:Λ)(k o:Int)(v:x1)(I:x3):Prop:=
 Ext w I/\(¬bS l->v= .tuple #[.pointer ν,Δ 1])/\(bS l->¬cJ o k->v= .tuple #[.pointer ν,Δ 3])/\
  (bS l->cJ o k->∃g m sv gs,v= .tuple #[Γ g,Δ 0]/\w.heap.size<=g/\w.heap.size<=m/\(∀r,li sv r->w.heap.size<=r)/\gq I g m sv gs l k o [])
theorem O0{o:Int}(h:aI .i64 w sv l):aj x7 qT [sv,Δ k,Δ o] w (OZ w l k o):=by
 refine az func125 ?_;refine aV (λv J=>Ext w J/\∃c,v= .bool c/\(c=ro↔¬bS l)) ?_ ?_
 .rintro _ J ⟨e,c,rfl,f⟩;rw[bU];refine⟨λx=>⟨e,λ_=>rfl,λh=>m6 h (f.1 x),λh=>m6 h (f.1 x)⟩,λA=>?_⟩;have U:bS l:=Classical.byContradiction λh=>by have:=f.2 h;rw[A]at this;cases this
  have I:=U.1;refine lk.X ?_;rintro _ V _ ⟨rfl,a⟩;by_cases hi:cJ o k
  rotate_left
  .simp only[hi,decide_false,bA,X4,bY];exact⟨e.F a,λh=>m6 U h,λ_ _=>rfl,λ_ h=>m6 h hi⟩
  simp only[hi,decide_true,bA,Y6,aX];refine(j3 ((h.W e).W a) Ω).X ?_;rintro aN K _ ⟨y,B,L,hm⟩;have M:=hm.ls.cells;refine vf λm N O j C=>?_;rw[dw (cs:=#[aN,Δ k,Δ o,.map (σ m)]) (by obtain⟨_,_,_,_,_,rfl,_⟩:=hm.ls;kernel_rfl)];refine bm λg P Q q E=>?_;have s1:=e.size;have s2:=a.size;have R:=y.size;have S:=j.size;exact⟨((((e.F a).F y).F j).F q),λh=>m6 U h,λ_ h=>m6 hi h,λ_ _=>⟨g,m,aN,B,rfl,Ω,Ω,λr G=>by have:=(bE hm G).1;omega,E,(hm.W j).W q,C.W q,U,hi,λp H=>by cases H⟩⟩
 .intro ay z;rw[aS al.u h];simp only[bL,ai];refine⟨λW=>z _ _ ⟨Ext.refl _,ro,rfl,λ_ U=>by have:=U.1;omega,λ_=>rfl⟩,λX=>?_⟩;refine(DJ h).X ?_;rintro _ V _ ⟨rfl,a⟩;refine z _ _ ⟨a,_,rfl,?_⟩;rw[pl];exact⟨λs U=>s U.2,λs U=>s ⟨Ω,U⟩⟩
structure EF where
 szs:Λ
 k:Int
 o:Int
 D:Told
instance VN:aq EF where
 n:=1
 rep _ _ R w cs a:=∃g m sv gs,cs=[Γ g]/\gq w g m sv gs a.szs a.k a.o a.D/\R g/\R m/\∀r,li sv r->R r
 len:=by rintro _ _ _ _ _ _ ⟨_,_,_,_,rfl,_⟩;rfl
 one:=by rintro _ _ _ _ _ _ ⟨_,_,_,_,rfl,_⟩ u z;simp at z;subst z;rfl
 aa:=by
  rintro _ _ R T w I _ a ⟨g,m,sv,gs,rfl,h1,f,h,j⟩ A p;obtain⟨q,s,x⟩:=h1.sK;exact⟨g,m,sv,gs,rfl,h1.aa A (p g q (.inr f)) (p m s (.inr h)) λr e=>p r (x r e) (.inr (j r e)),f,h,j⟩
 X:=by
  rintro _ _ _ R R' w _ a ⟨g,m,sv,gs,rfl,h1,f,h,j⟩ _ y;obtain⟨q,s,x⟩:=h1.sK;exact⟨g,m,sv,gs,rfl,h1,y g q f,y m s h,λr e=>y r (x r e) (j r e)⟩
 jU:=by
  rintro _ _ R w _ a ⟨g,m,sv,gs,rfl,h1,f,h,j⟩;exact⟨g,m,sv,gs,rfl,h1,.inr f,.inr h,λr e=>.inr (j r e)⟩
abbrev iB:Type:=Rd (Λ)×EF
def s3(k:Int)(x:cq)(f:iB):Prop:=f.1=x.scope/\f.2.szs=x.co/\f.2.k=k/\f.2.o=min x.other k/\f.2.D.length<=x.lines.length/\∀t,jI f.2.D f.2.o t=lp x k t
theorem O1{m:Bool}{S R:ah}{x:cq}(h:aq.rep m S R w cs (iX x)):∃aJ d9 cr,cs=[aJ,d9,Δ x.other,cr]/\aq.rep (α:=Λ) rs bT R w [aJ] x.scope/\aq.rep (α:=Λ) rs bT R w [d9] x.co/\aq.rep (α:=List (Λ×Int)) rs bT R w [cr] x.lines:=by
 obtain⟨j,d1,q,r,rfl,_,_,_,h1,p,d2,s,z,rfl,_,_,_,a,A,d3,B,C,rfl,_,_,_,f,e⟩:=h;have h1:=h1;have a:=a;have f:=f;have e:=e;obtain⟨u,rfl⟩:=X6.1 (show j.length=1 from aq.len h1);obtain⟨v,rfl⟩:=X6.1 (show p.length=1 from aq.len a);obtain⟨y,rfl⟩:=X6.1 (show d3.length=1 from aq.len e);subst f;exact⟨u,v,y,rfl,h1,a,e⟩
theorem O2{m:Bool}{S R:ah}{p:Λ×Int}(h:aq.rep m S R w cs p):∃aN,cs=[aN,Δ p.2]/\aI .i64 w aN p.1:=by
 obtain⟨e,d1,f,j,rfl,_,_,_,h1,a⟩:=h;obtain⟨u,rfl⟩:=X6.1 (show e.length=1 from aq.len h1);have a:=a;subst a;exact⟨u,rfl,fw h1⟩
structure vy(k:Int)(x:cq):Prop where
 k:right k
 co:bS x.co
 other:0<=x.other
 lines:oR x.co x.lines
 len:x.lines.length<=60000
 scope:x.scope.length<=100001
theorem cP{k:o5}(h:aI k w v l):∃a n c,v= .slice a n c:=by
 obtain⟨_,b,o,base,cap,rfl,_⟩:=h
 grind
theorem O3{aD aE aG:x1}{K:Int}{R:ah}{x:cq}(ae:ag w ac cG [aD,Δ K,aE,aG])(aH:Seen R w cs (iX x))(aI:vy K x):
  aj x7 xq [Γ ac,.agg cs.toArray] w λv I=>Ext w I/\∃ck,∃f:iB,v= .agg ck.toArray/\ck.length=2/\Seen (fF w.heap.size) I ck f/\s3 K x f:=by
 obtain⟨aJ,d9,cr,rfl,h1,ai,O⟩:=O1 aH;obtain⟨E,P,bg,al,bh,bi⟩:=aI;have bj:=P.1;refine az func56 ?_;refine bm λak J bl am e=>?_;have e:ag J ak cn [aJ,d9,Δ x.other,cr]:=by
  obtain⟨_,_,_,rfl⟩:=n1 h1;obtain⟨_,_,_,rfl⟩:=n1 ai;obtain⟨_,_,_,rfl⟩:=n1 O;exact e
 refine bx cN.i λaL V bn Q G=>?_;have G:=G;intro bq H _ _;have S:=(am.F Q).F H;have U:=Q.F H;have br:=am.size;have bs:=Q.size;have z3:=H.size;have bt:=G.lt;have an:=ae.W S;rw[aQ cn.p 1 (e.W U) rfl,aK cG.p 1 an rfl,
  aQ cn.p 2 (e.W U) rfl,aK cG.p 1 an rfl,nJ]
 refine(vx ((fw ai).W S) Ω).X ?_;rintro bu bw _ ⟨q,bz,bA,aO⟩;refine⟨.inl q,?_⟩;have z4:=q.size;have aP:cJ (min x.other K) K:=⟨E,by have:=E.1;omega,Ω⟩;refine(O0 aO.ls).X ?_;rintro _ aR _ ⟨L,_,_,aS⟩;obtain⟨ad,m,sv,gs,rfl,bB,bD,aT,aU⟩:=aS P aP;rw[bo,bp];have z5:=L.size;have W:=(S.F q).F L;have ao:=(U.F q).F L;rw[aQ cn.p 3 (e.W ao) rfl];have ap:=b6 O W;rw[kB jW.u ap];refine cm.range x.lines.length (λi M=>af (λr=>r=m) aR M/\∃D,D.length<=i/\gq M ad m sv gs x.co K (min x.other K) D/\∀t,jI D (min x.other K) t=mZ x K i t) (uI ap) ⟨af.refl _ _,[],p9 _,aU,λt=>by rw[Ev];rfl⟩ ?_ ?_
 .rintro i M aV hi ⟨a,D,aq,s,au⟩ aW;obtain⟨p,X⟩:=aF (l:=x.lines) hi;have av:=al.2 p (x5 X);have y:=W.put a Ω;have aX:=a.size;have aY:=b6 O y;refine bC Ω ?_;refine pL ev.p rfl jW.u ev.i aY X λbF aZ=>?_;obtain⟨aN,rfl,aw⟩:=O2 aZ;refine bx ev.i λbG bH bI ax a1=>?_;have bJ:=ax.size;refine cb (vs:=[aN,Δ p.2]) ev.i rfl rfl (by intro v z;simp at z;rcases z with rfl|rfl<;>first|exact aw.cells.2|rfl) a1 λbK a2 bL ay=>?_;have a6:=ax.put a2 Ω;intro bM Y _ _;have j:=a6.F Y;have z9:=j.size;rw[aQ ev.p 0 (ay.W Y) rfl,aQ ev.p 1 (ay.W Y) rfl,aK cG.p 1 ((ae.W y).W j) rfl,nJ];have bN:=yq P av.1;refine(vx (aw.W j) Ω).X ?_;rintro bO bP _ ⟨A,bQ,bR,a7⟩;refine⟨.inl A,?_⟩;have bS:=A.size;refine(DR ((s.W j).W A).is a7.ls).X ?_;rintro _ bU _ ⟨_,a8⟩;have ba:cJ (min p.2 K) K:=⟨E,by have:=E.1;omega,Ω⟩;obtain⟨rfl,aA,D',aB,aC⟩:=a8 ⟨av.1,ba⟩;rw[aM];refine aW _ ⟨(a.F ((j.F A).aa _)).F aA,D',by have:=aB.2;omega,gq.put ((s.W j).W A) aA aC,λt=>?_⟩;rw[Ex al.1 X,aB.cost s.is.nodup aC.nodup]
  grind
 .rintro M aV ⟨a,D,aq,s,au⟩;have y:=W.put a Ω;have bb:=ao.put a Ω;have aX:=a.size;refine ci Ω ?_;rw[aQ cn.p 0 (e.W bb) rfl];refine(vx ((fw h1).W y) Ω).X ?_;rintro Z bV _ ⟨N,bW,bX,B⟩;have z12:=N.size;rw[dw (cs:=#[Z,Γ ad]) (by obtain⟨_,_,_,rfl⟩:=cP B.ls;kernel_rfl)];have bc:=((H.F q).F L).put a Ω;refine cb (vs:=[Z,Γ ad]) cN.i rfl rfl (by intro v z;simp at z;rcases z with rfl|rfl<;>first|exact B.ls.cells.2|rfl) ((G.W bc).W N) λbY ab bZ bd=>?_;rw[fD cN.p cN.i rfl bd.range];have be:=(s.W N).aa ab Ω Ω (by grind);have bf:=bk B ab λr C he=>by have he:r=aL:=he;have:=(bE B C).1;omega
  refine⟨(y.F N).put ab Ω,_,(x.scope,⟨x.co,K,min x.other K,D⟩),rfl,rfl,?_,rfl,rfl,rfl,rfl,aq,λt=>?_⟩
  .exact⟨[Z],[Γ ad],bT,bT,rfl,λ_ h=>h,λ_ h=>h,λ_ _ h _=>h,sY bf λr C=>by have:=(bE B C).1;omega,
    ⟨ad,m,sv,gs,rfl,be,by show w.heap.size<=ad;omega,by show w.heap.size<=m;omega,λr C=>by have:=aT r C;show w.heap.size<=r;omega⟩⟩
  .rw[au,Ew]
theorem O4{S R:ah}{f:iB}(h:aq.rep rs S R w cs f):aq.rep (α:=iB) ro bT R w cs f:=by
 obtain⟨c,d,A,B,rfl,h1,j,_,a,e⟩:=h;exact⟨c,d,bT,bT,rfl,λ_ h=>h,λ_ h=>h,λ_ _ h _=>h,a,e⟩
def vz(k:Int)(a:List cq)(e:List iB):Prop:=e.length=a.length/\∀(i:Nat)x f,a[i]?=σ x->e[i]?=σ f->s3 k x f
theorem O5{e:Nat}{m:Bool}{S R:ah}{W d9 an:x1}{K:Int}{q:List cq}{aE:x3->Prop}(aG:ag w e cG [W,Δ K,d9,.slice ν 0 0])(aX:aq.rep m S R w [an] (show List jJ from q.map iX))(aY:∀r,S r\/R r->r≠e)(aZ:∀x∈q,vy K x)(bN:q.length<=256)(a1:∀I z,∀s:List iB,af (λr=>r=e) w I->ag I e cG [W,Δ K,d9,z]->Seen (λr=>w.heap.size<=r) I [z] s->vz K q s->aE I):
  cm (Δ 0) w λao E a2=>
   ab x7 (aO .lss ae rs rs ao (Δ (q.length:Int))) E λt182=>
   Split t182 (ab x7 (j4 ku an ao) E λt183=>
   ab x7 (u4 cn t183) E λa6=>
   aC x7 (S5 cn ro (.tuple #[])) E λx a7=>
   aC x7 (o7 cn x a6) a7 λ(_:Unit)a8=>
   eu a8 λC=>
   ab x7 (bQ (Γ e)) C λG=>
   ab x7 (u6 cG G 3) C λH=>
   ab x7 (u4 dQ H) C λap=>
   ab x7 (u4 cn x) C λba=>
   aj x7 xq [(Γ e),ba] C λbb L=>
    (Ext C L\/cE x7 (u4 dQ H) ap L/\cE x7 (u6 cG G 3) H L/\cE x7 (bQ (Γ e)) G L/\True)/\
   aC x7 (Y1 dQ 1 #[(0,bb)]) L λbc M=>
    (Ext C M\/cE x7 (u4 dQ H) ap M/\cE x7 (u6 cG G 3) H M/\cE x7 (bQ (Γ e)) G M/\True)/\
    aC x7 (j6 #[dQ,dQ] dQ #[ap,bc]) M λbd au=>
     ab x7 (bQ (Γ e)) au λbe=>
     ab x7 (u6 cG be 3) au λbf=>
     aC x7 (o7 dQ bf bd) au λ(_:Unit)aH=>
     ab x7 (aO .add ae rs ro ao (Δ 1)) aH λbg=>
   a2 bg aH) (aE E):=by
 have bO:=aG.lt;have bP:(q.map iX).length=q.length:=Ξ
 refine cm.range q.length (λi J=>af (λr=>r=e) w J/\∃z,∃s:List iB,∃A R':ah,ag J e cG [W,Δ K,d9,z]/\bM A R' J [z] s/\(∀r,A r->w.heap.size<=r/\r<J.heap.size)/\(∀r,R' r->w.heap.size<=r/\¬A r/\r<J.heap.size)/\vz K (q.take i) s) Ω
  ⟨af.refl _ _,_,[],bT,bT,aG,iQ,λ_ h=>h.elim,λ_ h=>h.elim,rfl,λi x f h=>by simp at h⟩ ?_ ?_
 rotate_left
 .rintro J bh ⟨N,z,s,A,R',O,av,B,P,X⟩;rw[o6]at X;rw[aP,ai];refine⟨λh=>Ω,λ_=>a1 J z s N O (ss av λr _ h=>?_) X⟩;exact h.elim (λh=>(B r h).1) λh=>(P r h).1
 rintro i J bh hi ⟨N,z,s,A,R',O,av,B,P,aI,X⟩ bi;obtain⟨x,aw⟩:=aF (l:=q) hi;have bj:=aZ x (x5 aw);have bS:=N.size;rw[c7]at aI;have bk:aq.rep m S R J [an] (show List jJ from q.map iX):=aq.aa aX N λr _ h he=>aY r h he;refine bC Ω ?_;refine pL (α:=jJ) (a:=iX x) cn.p rfl ku.u cn.i bk (by show(q.map iX)[i]?=_;rw[x8,aw];rfl) λcs ax=>?_;have aJ:cs.length=4:=aq.len ax;have bl:Seen (λr=>S r\/R r) J cs (iX x):=ss ax λr _ h=>h;refine bx cn.i λak V bU aL bm=>?_;have bV:=aL.size;refine cb (vs:=cs) cn.i aJ rfl (aq.one ax) bm λbn bo bW bp=>?_;have bq:Ext J bn:=aL.put bo Ω;intro Y aN _ _;have Q:=bq.F aN;have z4:=Q.size;rw[aK cG.p 3 (O.W Q) rfl,bB cn.p cn.i aJ (bp.W aN).range];refine(O3 (O.W Q) (b6 bl Q) bj).X ?_;rintro _ Z _ ⟨ac,ck,f,rfl,bX,aQ,br⟩;have z5:=ac.size;refine⟨.inl ac,?_⟩;have aR:=O4 aQ;have bs:=Q.F ac;refine lX (α:=iB) (a:=f) (cs:=ck) (A:=bT) (R:=fF Y.heap.size) dQ.u cN.i Φ (by
  obtain⟨c,d,bY,bZ,he,_,_,_,ad,bu⟩:=aQ;have ad:aq.rep (α:=Λ) rs bT _ Z c f.1:=ad;obtain⟨u,rfl⟩:=X6.1 (show c.length=1 from aq.len ad);obtain⟨b0,bK,b1,b2,rfl,_⟩:=bu;obtain⟨_,_,_,rfl⟩:=n1 ad;cases he;rfl) aR λu ay al _ bw=>?_
 have b3:=al.size;refine⟨.inl (ac.F al),?_⟩;have az:=bs.F al;have bz:bM A (λr=>R' r\/(Y.heap.size<=r/\r<Z.heap.size)) ay [z] s:=b6 (aq.X av (λ_ _ h=>h) λ_ _ h=>.inl h) az;have bA:bM bT (λr=>R' r\/(Y.heap.size<=r/\r<Z.heap.size)) ay ck f:=b6 (aq.X aR (λ_ _ h=>h) λr y h=>.inr ⟨h,y⟩) al;refine pM (α:=iB) (a:=f) (A:=bT) dQ.u cN.i rfl bz bw bA (λr _ aS h=>?_) Ω Ω λaU bD aA aB=>?_
 .rcases h with h|h|h
  .exact h
  .exact (P r h).2.1 aS
  .have:=(B r aS).2;omega
 have b4:=aB.size;rw[bR,aT cG.p rfl];have bE:=(O.W az).aa aB (λhe=>by have:=(B _ he).1;omega);refine bt (g:=e) (o:=3) dQ.i (su aA) (nQ aA) bE Ξ λbF aV b5 aD=>?_;have aD:ag bF e cG [W,Δ K,d9,aU]:=aD;rw[aM];have bG:=oH aA;refine bi _ ⟨(iS (N.F (az.aa _)) aB λr y he=>by have:=(B _ he).1;omega).F aV,aU,s++[f],λr=>((A r\/bT r\/ay.heap.size<=r)/\r<bD.heap.size),λr=>R' r\/(Y.heap.size<=r/\r<Z.heap.size),aD,aq.aa bG aV λr _ h he=>?_,λr y=>?_,λr y=>?_,?_,λj bH bI am U=>?_⟩
 .have he:r=e:=he;rcases h with h|h|h
  .rcases h.1 with h1|h1|h1
   .have:=(B _ h1).1;omega
   .exact h1
   .omega
  .have:=(P r h).1;omega
  .omega
 .have b7:=y.2;rcases y.1 with h1|h1|h1
  .have:=(B _ h1).1;omega
  .exact h1.elim
  .omega
 .rcases y with y|y
  .have aW:=P r y;refine⟨aW.1,λh=>?_,Ω⟩;rcases h.1 with h1|h1|h1
   .exact aW.2.1 h1
   .exact h1
   .omega
  .refine⟨Ω,λh=>?_,Ω⟩;rcases h.1 with h1|h1|h1
   .have:=(B _ h1).2;omega
   .exact h1
   .omega
 .rw[p8,c7,aI];simp;omega
 .have bJ:=(x4.1 U).1;rw[p8,T4]at bJ;rw[Y5 Ω]at am;by_cases bL:j<s.length
  .rw[W8 bL]at U;exact X j bH bI (by rw[Y5 Ω];exact am) U
  .rw[Y9 Ω,show j-s.length=0 by omega]at U;rw[show j=i by omega,aw]at am;cases U;cases am;exact br
def m4(w:x3)(h:Nat)(f:b5):Prop:=∃d9 a gz,∃e:List iB,ag w h cG [cc f.name,Δ f.k,d9,a]/\ao .i64 ae w gz d9 f.co/\Seen fo w [a] e/\vz f.k f.d7 e
theorem m4.W{e:Nat}{f:b5}(h:m4 w e f)(a:Ext w I):m4 I e f:=by
 obtain⟨d9,j,gz,p,h1,q,r,s⟩:=h;exact⟨d9,j,gz,p,h1.W a,q.W a,b6 r a,s⟩
def EG(w:x3)(h:Option b5)(v:x1)(I:x3):Prop:=Ext w I/\match h with
 |none=>∃n e:Int,v= .tuple #[.pointer ν,Δ n,Δ e]/\e≠0
 |some f=>∃a,∃n:Int,v= .tuple #[Γ a,Δ n,Δ 0]/\m4 I a f
structure O6(clean:Bool)(so:Option aG)(name:Λ)(k:Int)(co:Λ)(acc:List jJ)(res:Option b5):Prop where
 rp:∀s,so=σ s->s.d8=[]->clean=ro->s.big=rs->∃fs,acc=fs.map iX/\res=σ ⟨name,k,co,fs⟩/\(∀x∈fs,vy k x)/\fs.length<=256/\co.length<=1000000
 bad:res≠ν->∃s,so=σ s/\s.d8=[]/\clean=ro/\s.big=rs
theorem O7{g:Nat}{A B S R:ah}{m O:Bool}{so:Option aG}{name:Λ}{acc:List jJ}{M:Option b5}{d9 aF p:x1}{bo:Λ}{Q:x1->x3->Prop}(aH:iW w g gs A B O so)(U:O6 O so name k co acc M)(bp:aI .i64 w d9 co)(bq:∀r,li d9 r->r≠g/\r≠gs)(br:aq.rep m S R w [aF] acc)(a7:∀r,S r\/R r->r≠g/\r≠gs/\r<w.heap.size)(cY:so=ν->True)(cZ:g<w.heap.size)(c0:gs<w.heap.size)(bs:af (λr=>w0.heap.size<=r) w0 w)(c1:w0.heap.size<=g)(c2:w0.heap.size<=gs)(bt:aI .u8 w0 p bo)(ad:∀v I,EG w0 M v I->Q v I):
  cz (α:=x3->Prop) (λ(j:x3)=>
  ab x7 (bQ (Γ g)) j λbu=>
  ab x7 (u6 cF bu 1) j λbw=>
  ab x7 (u6 fl bw 0) j λbx=>
  ab x7 (u4 lb bx) j λbz=>
  ab x7 (aO .neq lb rs ro bz (Δ 0)) j λbA=>
  Split bA (eu j λG=>
   ab x7 (bQ (Γ g)) G λbB=>
   ab x7 (u6 cF bB 1) G λbC=>
   ab x7 (u6 fl bC 2) G λbD=>
   ab x7 (u4 ae bD) G λbE=>
   ab x7 (bQ (Γ g)) G λbF=>
   ab x7 (u6 cF bF 1) G λbG=>
   ab x7 (u6 fl bG 0) G λbH=>
   ab x7 (u4 lb bH) G λbI=>
   Q (.tuple #[(.pointer ν),bE,bI]) G)
   (ab x7 (bQ (Γ g)) j λbK=>
   ab x7 (u6 cF bK 1) j λbL=>
   ab x7 (u6 fl bL 1) j λbM=>
   ab x7 (u4 lb bM) j λbN=>
   ab x7 (aO .neq lb rs ro bN (Δ 0)) j λbO=>
   Split bO (eu j λH=>
   ab x7 (bQ (Γ g)) H λbP=>
   ab x7 (u6 cF bP 1) H λbS=>
   ab x7 (u6 fl bS 3) H λbT=>
   ab x7 (u4 ae bT) H λbU=>
   ab x7 (bQ (Γ g)) H λbV=>
   ab x7 (u6 cF bV 1) H λbW=>
   ab x7 (u6 fl bW 1) H λbX=>
   ab x7 (u4 lb bX) H λbZ=>
   Q (.tuple #[(.pointer ν),bU,bZ]) H)
   (aj x7 BB [d9] j λb0 a8=>
  ab x7 (Instr.build cG #[(0,cc name),(1,Δ k),(2,b0)]) a8 λb1=>
  aC x7 (Instr.box cG b1) a8 λW ba=>
  ab x7 (W0 #[ku] ae #[aF]) ba λb2=>
  cm (Δ 0) ba λaJ X b3=>
   ab x7 (aO .lss ae rs rs aJ b2) X λt182=>
   Split t182 (ab x7 (j4 ku aF aJ) X λt183=>
   ab x7 (u4 cn t183) X λb4=>
   aC x7 (S5 cn ro (.tuple #[])) X λx b7=>
   aC x7 (o7 cn x b4) b7 λ(_:Unit)b8=>
   eu b8 λP=>
   ab x7 (bQ W) P λak=>
   ab x7 (u6 cG ak 3) P λal=>
   ab x7 (u4 dQ al) P λaL=>
   ab x7 (u4 cn x) P λb9=>
   aj x7 xq [W,b9] P λca am=>
    (Ext P am\/cE x7 (u4 dQ al) aL am/\cE x7 (u6 cG ak 3) al am/\cE x7 (bQ W) ak am/\True)/\
   aC x7 (Y1 dQ 1 #[(0,ca)]) am λcb an=>
    (Ext P an\/cE x7 (u4 dQ al) aL an/\cE x7 (u6 cG ak 3) al an/\cE x7 (bQ W) ak an/\True)/\
    aC x7 (j6 #[dQ,dQ] dQ #[aL,cb]) an λcd aM=>
     ab x7 (bQ W) aM λce=>
     ab x7 (u6 cG ce 3) aM λcf=>
     aC x7 (o7 dQ cf cd) aM λ(_:Unit)bb=>
     ab x7 (aO .add ae rs ro aJ (Δ 1)) bb λcg=>
   b3 cg bb)
    (ab x7 (W0 #[cS] ae #[p]) X λch=>
  Q (.tuple #[W,ch,(Δ 0)]) X)))) λaw=>
 aj x7 mF [(Γ g)] w λci ao=>
 Split ci (ab x7 (bQ (Γ g)) ao λcj=>
  ab x7 (u6 cF cj 0) ao λck=>
  ab x7 (u4 uA ck) ao λcl=>
  aj x7 xp [cl] ao λaN N=>
  ab x7 (c8 aN 0) N λc3=>
  ab x7 (c8 aN 1) N λbc=>
  ab x7 (c8 aN 2) N λaP=>
  ab x7 (aO .eql lb rs ro aP (Δ 0)) N λcp=>
  Split cp (aj x7 pz [(Γ g),(Δ 4),bc] N λc4 cq=>
  aw cq)
  (ab x7 (aO .eql lb rs ro aP (Δ 11)) N λcr=>
  Split cr (aj x7 pz [(Γ g),aP,bc] N λc5 ct=>
   aw ct)
   (aw N)))
  (aw ao):=by
 refine dk (λj=>af (λr=>r=g\/r=gs) w j/\∃(e big K L m1:Int)(sv:x1),ag j g cF (jn gs e big K L m1 sv)/\((e≠0/\M=ν)\/(e=0/\∃s,so=σ s/\s.d8=[]/\O=ro/\(s.big=ro↔big≠0)))) ?_ ?_
 rotate_left
 .intro ay aQ;refine(Eh aH).X ?_;rintro _ J _ ⟨rfl,ap⟩;cases so with
  |none=>
   rw[show(ν:Option aG).isSome=rs from rfl,aX];obtain⟨e,big,K,L,m1,sv,y,aR⟩:=aH.W ap;refine aQ _ ⟨ap.aa _,e,big,K,L,m1,sv,y,.inl ⟨aR,?_⟩⟩;cases C:M with
   |none=>rfl
   |some f=>obtain⟨s,h,_⟩:=U.bad (by rw[C];simp);cases h
  |some s=>
   rw[show(σ s:Option aG).isSome=ro from rfl,bY];have cu:=aH.W ap;obtain⟨az,cw,cA,big,K,L,m1,sv,y,aR,cB⟩:=id cu;rw[aK cF.p 0 y rfl];refine(sH cw).X ?_;rintro v V _ ⟨Y,Z⟩;have cC:(s.d8≠[]\/O=rs)->M=ν:=λq=>by
    cases C:M with
    |none=>rfl
    |some f=>
     obtain⟨s',h,au,bd,_⟩:=U.bad (by rw[C];simp);cases h;rcases q with q|q
     .exact m6 au q
     .rw[q]at bd;cases bd
   have aA:∀E,af (λr=>r=g) V E->fq E g gs A B->(s.d8≠[]\/O=rs)->ay E:=λE av aA q=>by
    obtain⟨_,e,big,K,L,m1,sv,l,cD,cH,_⟩:=aA;exact aQ _ ⟨((ap.aa _).F (Y.X λr _ h=>.inr h)).F (av.X λr _ h=>.inl h),e,big,K,L,m1,sv,cD,.inl ⟨cH.1,cC q⟩⟩
   have aU:=y.aa Y az.1;have be:=aq.aa cB Y λr _ h au=>by
    have au:r=gs:=au;subst au;rcases h with h|h
    .exact az.2.2.1 h
    .exact h.1 (.inr (.inl rfl))
   have bf:s.m2.length<=100000:=by have:=cA.2.2;omega
   cases ac:s.d8 with
   |cons t l=>
    rw[ac]at Z;obtain⟨c6,n,rfl⟩:=Z;rw[gX,gY,gZ,bh,ai];refine⟨λ_=>?_,λh=>m6 rfl h⟩;refine(u2 (az.aa Y) aU be Ω bf).X ?_;rintro _ E _ ⟨av,aV⟩;exact aA E av aV (.inl (by rw[ac];simp))
   |nil=>
    rw[ac]at Z;obtain⟨n,rfl⟩:=Z;rw[gX,gY,gZ,bh,ai];refine⟨λh=>by cases O<;>simp at h,λ_=>?_⟩;rw[bh,ai];cases aB:O with
    |true=>
     subst aB;refine⟨λh=>by simp at h,λ_=>aQ _ ⟨(ap.aa _).F (Y.X λr _ h=>.inr h),0,big,K,L,m1,sv,aU,.inr ⟨rfl,s,rfl,ac,rfl,aR.1⟩⟩⟩
    |false=>
     subst aB;refine⟨λ_=>?_,λh=>m6 rfl h⟩;refine(u2 (az.aa Y) aU be Ξ bf).X ?_;rintro _ E _ ⟨av,aV⟩;exact aA E av aV (.inr rfl)
 .rintro J ⟨aD,e,big,K,L,m1,sv,y,cI⟩;have c7:=aD.size;have aW:=(bs.W λr C h=>Ω).then aD (λr C h=>by rcases h with h|h<;>omega);rw[bR,aT cF.p rfl,aT fl.p rfl,ax Ψ (y.cell rfl),bJ,ai];rcases cI with⟨he,aY⟩|⟨rfl,s,rfl,ac,aB,bg⟩
  .refine⟨λ_=>?_,λh=>m6 he h⟩;intro V z _ _;rw[bR,aT cF.p rfl,aT fl.p rfl,ax Ψ ((y.W z).cell rfl),bR,aT cF.p rfl,aT fl.p rfl,ax Ψ ((y.W z).cell rfl)];rw[aY]at ad;exact ad _ _ ⟨aW.F z,K,e,rfl,he⟩
  .refine⟨λh=>m6 rfl h,λ_=>?_⟩;rw[bR,aT cF.p rfl,aT fl.p rfl,ax Ψ (y.cell rfl),bJ,ai];refine⟨λq=>?_,λq=>?_⟩
   .have aY:M=ν:=by
     cases C:M with
     |none=>rfl
     |some f=>
      obtain⟨s',h,_,_,bi⟩:=U.bad (by rw[C];simp);cases h;rw[bg.2 q]at bi;cases bi
    intro V z _ _;rw[bR,aT cF.p rfl,aT fl.p rfl,ax Ψ ((y.W z).cell rfl),bR,aT cF.p rfl,aT fl.p rfl,ax Ψ ((y.W z).cell rfl)];rw[aY]at ad;exact ad _ _ ⟨aW.F z,L,big,rfl,q⟩
   .have cJ:s.big=rs:=by
     cases cK:s.big with
     |false=>rfl
     |true=>exact m6 (bg.1 cK) q
    obtain⟨bj,rfl,rfl,cL,cM,cN⟩:=U.rp s rfl ac aB cJ;have cO:=jk bp aD λr C a n c Z U=>by
     have:=bq r ⟨a,n,c,Z,U⟩;exact C.elim this.1 this.2
    refine(vx cO cN).X ?_;rintro aZ V _ ⟨z,gz,c9,a1⟩;have da:=z.size;rw[dw (cs:=#[cc name,Δ k,aZ,.slice ν 0 0]) (by obtain⟨_,_,_,rfl⟩:=cP a1.ls;kernel_rfl)];refine bm λa2 E db a6 aE=>?_;have aE:ag E a2 cG [cc name,Δ k,aZ,.slice ν 0 0]:=by obtain⟨_,_,_,rfl⟩:=cP a1.ls;exact aE
    have bk:=b6 (b6 (aq.aa br aD λr _ h he=>by have:=a7 r h;exact he.elim this.1 this.2.1) z) a6;have cQ:(bj.map iX).length=bj.length:=Ξ
    rw[kB ku.u bk,cQ];refine O5 aE bk (λr h=>by have:=a7 r h;omega) cL cM λdc cR cT cU cV cW cX=>?_;have dd:=aE.lt;have z3:=a6.size;have bl:=a6.then cU (λr C h=>by have h:r=a2:=h;omega);have bn:=(aW.F z).F bl;rw[aS cS.u (bt.W bn)];exact ad _ _ ⟨bn,a2,_,rfl,aZ,cR,gz,cT,cV,a1.W bl,lj cW,cX⟩
theorem EH{α:Type}{f:List α->aG->Option (α×aG)}{acc:List α}{s:aG}:fG f (n+1) acc (σ s)=match f acc s with
  |none=>ν
  |some (a,s')=>fG f n (acc++[a]) (σ s'):=by
 show c3 f (n+1) acc s=_;simp only[c3];cases f acc s<;>rfl
theorem O8{g:Nat}{A B:ah}{s:Option aG}{E:Bool}{most:Int}{Q:x1->x3->Prop}(h:dy w g gs A B E s)(aA:(N:Int)<=au)(R:∀d9 I l so gz,af (bG g gs A) w I->dy I g gs A B E so->ao .i64 ap I gz d9 l->w.heap.size<=gz->l.length<=100001->(∀q,fG (fR most) N [] s=σ q->so=σ q.2/\l=q.1)->(fG (fR most) N [] s=ν->so=ν)->Q d9 I):
 b2 (.slice ν 0 0) (Δ 0) w λco i G k=>
  cz (α:=x1->x3->Prop) (λ(aB:x1)(S:x3)=>
   Split aB (aj x7 py [Γ g,(Δ 1),Δ most] S λU x=>
  ab x7 (c8 U 0) x λW=>
  ab x7 (c8 U 1) x λaD=>
  ab x7 (aO .gtr ap rs ro W (Δ 32)) x λaE=>
  aj x7 sj [Γ g,aE,aD] x λbr aF=>
  aC x7 (Y1 aw 1 #[(0,W)]) aF λaH aI=>
  aC x7 (j6 #[aw,aw] aw #[co,aH]) aI λaJ X=>
  ab x7 (aO .add ap rs ro i (Δ 1)) X λaK=>
  k aJ aK X) (Q co S)) λay=>
  ab x7 (aO .lss ap rs rs i (Δ (N:Int))) G λaL=>
  Split aL (aj x7 mF [Γ g] G λaN aQ=>
  ay aN aQ)
   (ay (.bool rs) G):=by
 obtain⟨bs,Y,bt,aR,aS⟩:=h.side;have ad:∀r,bG g gs A r->r<w.heap.size:=aR;unfold au at aA;generalize aT:fG (fR most) N [] s=Z at R;refine⟨λout H J=>∃(i:Nat)(l:Λ)(so:Option aG)(gz:Nat),H=Δ (i:Int)/\i<=N/\af (bG g gs A) w J/\ao .i64 ap J gz out l/\w.heap.size<=gz/\dy J g gs A B E so/\Z=fG (fR most) (N-i) l so/\l.length<=100001/\∀st,so=σ st->l.length+st.d8.length<=100000,
  λ_ H _=>N-(b0 H).toNat,⟨0,[],s,w.heap.size,rfl,X7 _,af.refl _ _,ao.nil _ _ _ _,p9 _,h,aT.symm,Ξ,λst aU=>?_⟩,?_⟩
 .subst aU;have:=h.words;simpa using this
 rintro out _ J ⟨i,l,so,gz,rfl,bu,K,ac,aW,ae,y,aY,ag⟩;refine aV (λv ak=>Ext J ak/\((v= .bool ro/\i<N/\∃st,so=σ st)\/(v= .bool rs/\(so=ν\/i=N)))) ?_ ?_
 rotate_left
 .intro ay L;rw[aP,ai];refine⟨λaZ=>?_,λbw=>L _ _ ⟨Ext.refl _,.inr ⟨rfl,.inr Ω⟩⟩⟩;refine(rv ae).X ?_;rintro _ ak _ ⟨rfl,al⟩;cases so with
  |none=>exact L _ _ ⟨al,.inr ⟨rfl,.inl rfl⟩⟩
  |some st=>exact L _ _ ⟨al,.inl ⟨rfl,Ω,st,rfl⟩⟩
 rintro _ V ⟨p,a1⟩;have am:=ac.W p;have an:=ae.W p;rcases a1 with⟨rfl,aZ,st,rfl⟩|⟨rfl,a2⟩
 rotate_left
 .rw[aX];have aq:Z=so.map λst=>(l,st):=by
   rcases a2 with rfl|rfl
   .exact y
   .rw[U5]at y;rw[y];cases so<;>rfl
  refine R out V l so gz (K.F (p.aa _)) an am aW aY (λq f=>?_) λav=>?_
  .rw[aq]at f;cases so with
   |none=>cases f
   |some st=>cases f;exact⟨rfl,rfl⟩
  .rw[aq]at av;cases so with
   |none=>rfl
   |some st=>cases av
 rw[bY];have ag:=ag st rfl;refine(n0 an).X ?_;rintro _ bx _ ⟨M,z,at_,rfl,a6,bz⟩;obtain⟨O,a7⟩:=M.of;rw[bo,bp,bL];refine(sW a7).X ?_;rintro _ bA _ M;obtain⟨P,a8⟩:=M.of;refine dr aw.u ap.i rfl λa ga ba bB C bd=>?_;have bC:=K.size;have bD:=p.size;have z3:=O.size;have z4:=P.size;have z5:=C.size;have ax:∀r,li out r->¬bG g gs A r:=λr j be=>by have:=ad r be;have:=(bE ac j).1;omega
 have bf:=bk (bk am O ax) P ax;refine jD aw.u ap.i rfl (bf.W C) bd.ls Θ Θ λbF bg bh bH bi az=>?_;rw[aM,lm Ω Ω];have bj:af (bG g gs A) w ba:=((((K.F (p.aa _)).F O).F P).F (C.aa _));have bl:af (bG g gs A) w bh:=iS bj az λr j he=>by have he:r=gz:=he;omega
 have bm:∀r,bG g gs A r->¬(λr=>r=gz) r:=λr j he=>by have:=ad r j;have he:r=gz:=he;omega
 have bn:∀r,cT g gs A B r->¬(λr=>r=gz) r:=λr j he=>by have:=aS r j.2;have he:r=gz:=he;omega
 refine⟨⟨i+1,l++[z],_,bg,rfl,Ω,bl,bi,Ω,(a8.W C).aa az bm bn,?_,Θ,λbI bq=>?_⟩,by simp only[b0];omega⟩
 .rw[y,show N-i=(N-(i+1))+1 by omega,EH];unfold fR;cases f:bc 1 most st with
  |none=>have e:bb 1 most (σ st)=ν:=f;rw[e];rfl
  |some q=>
   have e:bb 1 most (σ st)=σ q:=f;have:=a6 q e;subst this;rw[e];rfl
 .obtain⟨s2,Y,rfl⟩:=Y0.1 bq;obtain⟨q,f,rfl⟩:=Y0.1 Y;have h1:=(ds f).1;simp only[p8,T4];show l.length+1+q.2.d8.length<=100000;omega
theorem O9{acc:List (Λ×Int)}{s s':aG}{a:Λ×Int}(h:eP co acc s=σ (a,s')):s'.m1=s.m1/\s'.big=s.big:=by
 obtain⟨_,_,_,e⟩:=pY h;exact⟨e.eqs.1,e.eqs.2.1⟩
theorem Pa{s s':aG}{l:List (Λ×Int)}(hi:eb s)(h:dM co s=σ (l,s')):eb s'/\(s.big=ro->s'.big=ro):=by
 have e:=Ee co (σ s);rw[show kc co (σ s)=dM co s from rfl,h]at e;cases p:bb (-au) au (σ s)with
 |none=>rw[p]at e;cases e
 |some q=>
  obtain⟨n,s1⟩:=q;rw[p]at e;simp only at e;have h1:=(ds p).eqs;have w:eb s1:=λf=>by rw[h1.1];rw[h1.2.1]at f;exact hi f
  split at e
  .cases U:s1.m2[(-n-1).toNat]? with
   |none=>rw[U]at e;cases e
   |some q=>
    obtain⟨z,fx⟩:=q;rw[U]at e;simp only at e;split at e
    .cases e;exact⟨w,λf=>by rw[h1.2.1];exact f⟩
    .cases e
  .have:=kH (λacc t=>t.m1=(lx n s1).m1/\t.big=(lx n s1).big) (λacc t a t' ⟨r,j⟩ g=>by
    have:=O9 g;exact⟨by rw[this.1,r],by rw[this.2,j]⟩) n.toNat [] _ l s' ⟨rfl,rfl⟩ e.symm
   obtain⟨⟨r,j⟩,_⟩:=this;refine⟨λf=>by rw[r];rw[j]at f;exact Ot n s1 f,λf=>?_⟩;rw[j];show(s1.big||_)=ro;rw[h1.2.1,f];rfl
theorem Pb{all:Λ}{s s':aG}{x:cq}(hi:eb s)(h:dl all s=σ (x,s')):eb s'/\s'.d8.length<s.d8.length:=by
 unfold dl at h;cases j:bc (-au) au s with
 |none=>rw[j]at h;cases h
 |some q=>
 obtain⟨a,s1⟩:=q;rw[j]at h;simp only at h;have t0:=ds j;cases h1:ff all.length a.natAbs s1 with
 |none=>rw[h1]at h;cases h
 |some q=>
 obtain⟨sc,s2⟩:=q;rw[h1]at h;simp only at h;obtain⟨p,_⟩:=u0 h1;generalize sc.map (λv=>all.getD v.toNat 0)=co at h;cases r:bc 0 au (ba (decide (6<a.natAbs)||dD co) s2)with
 |none=>rw[r]at h;cases h
 |some q=>
 obtain⟨other,w⟩:=q;rw[r]at h;simp only at h;have y:=ds r;have C:eb w:=λe=>by
  rw[y.eqs.1];rw[y.eqs.2.1]at e;have e:(s2.big||_)=rs:=e;have A:=(Bool.or_eq_false_iff.1 e).1;show s2.m1<=16384;rw[p.eqs.1,t0.eqs.1];rw[p.eqs.2.1,t0.eqs.2.1]at A;exact hi A
 cases f:dM co w with
 |none=>rw[f]at h;cases h
 |some q=>
 obtain⟨lines,z⟩:=q;rw[f]at h;simp only[Y8,T2]at h;obtain⟨_,rfl⟩:=h;have E:=Pa C f;have H:=El f;have I:=t0.1;have J:=p.1;have K:s2.d8.length=w.d8.length+1:=y.1;have B:∀t:aG,t.m1=z.m1/\t.big=z.big/\t.d8=z.d8->eb t/\t.d8.length<s.d8.length:=λt ⟨F,G,a3⟩=>⟨λe=>by rw[F];rw[G]at e;exact E.1 e,by rw[a3];omega⟩;split
 .exact B _ ⟨rfl,rfl,rfl⟩
 .exact B _ ⟨rfl,rfl,rfl⟩
theorem Pc{S R:ah}{x:jJ}(h:aq.rep rs S R w cs x):aq.rep (α:=jJ) ro bT R w cs x/\(x1.agg cs.toArray).cells=cs.toArray:=by
 obtain⟨j,d1,r,s,rfl,_,_,_,h1,p,d2,z,A,rfl,_,_,_,a,q,d3,B,C,rfl,_,_,_,f,e⟩:=h;have h1:=h1;have a:=a;have f:=f;have e:=e;refine⟨⟨j,_,bT,bT,rfl,λ_ h=>h,λ_ h=>h,λ_ _ h _=>h,h1,p,_,bT,bT,rfl,λ_ h=>h,λ_ h=>h,λ_ _ h _=>h,a,q,d3,bT,bT,rfl,λ_ h=>h,λ_ h=>h,λ_ _ h _=>h,f,e⟩,?_⟩;obtain⟨u,rfl⟩:=X6.1 (show j.length=1 from aq.len h1);obtain⟨v,rfl⟩:=X6.1 (show p.length=1 from aq.len a);obtain⟨y,rfl⟩:=X6.1 (show d3.length=1 from aq.len e);obtain⟨_,_,_,rfl⟩:=n1 h1;obtain⟨_,_,_,rfl⟩:=n1 a;obtain⟨_,_,_,rfl⟩:=n1 e;subst f;rfl
theorem Pd{g c:Nat}{A B:ah}{o:Option aG}{Q:Bool}{P:x1}{all:Λ}{aB:x1->x3->Prop}(aD:iW w g gs A B Q o)(hi:∀s,o=σ s->eb s)(bm:(c:Int)<=au)(bn:aI .i64 w P all)(aE:∀r,li P r->r≠g/\r≠gs/\r<w.heap.size/\(o≠ν->¬A r))(bo:o≠ν->∀z∈all,1<=z/\z<=au)(bp:all.length<=100001)(bq:fj w)(h1:1<w0.heap.size/\(o≠ν->cT g gs A B 1))(aF:af (λr=>w0.heap.size<=r) w0 w)(br:w0.heap.size<=g)(bs:w0.heap.size<=gs)(cd:g<w.heap.size/\gs<w.heap.size)(bt:o≠ν->∀r,A r->w0.heap.size<=r)(aJ:∀L I acc so aH x aK aL,af (λr=>w0.heap.size<=r) w0 I->w.heap.size<=I.heap.size->iW I g gs aH x Q so->aq.rep (α:=List jJ) ro aK aL I [L] acc->(∀r,aK r\/aL r->r≠g/\r≠gs/\r<I.heap.size)->aI .i64 I P all->
   (∀q,fG (λ_ s=>dl all s) c [] o=σ q->so=σ q.2/\acc=q.1.map iX)->(fG (λ_ s=>dl all s) c [] o=ν->so=ν)->aB L I):
 b2 (.slice ν 0 0) (Δ 0) w λd7 aN ag bu=>
  cz (α:=x1->x3->Prop) (λ(bw:x1)(aQ:x3)=>
   Split bw (aj x7 BA [Γ g,P] aQ λbx bz=>
  aC x7 (Y1 ku 1 #[(0,bx)]) bz λbA bB=>
  aC x7 (j6 #[ku,ku] ku #[d7,bA]) bB λbC aR=>
  ab x7 (aO .add ap rs ro aN (Δ 1)) aR λbD=>
  bu bC bD aR) (aB d7 aQ)) λaS=>
  ab x7 (aO .lss ap rs rs aN (Δ (c:Int))) ag λbE=>
  Split bE (aj x7 mF [Γ g] ag λbF bH=>
  aS bF bH)
   (aS (.bool rs) ag):=by
 unfold au at bm;generalize f:fG (λ_ s=>dl all s) c [] o=aT at aJ;have aU:∀s,o=σ s->o≠ν:=by grind
 refine⟨λL ak J=>∃(i:Nat)(acc:List jJ)(y:List cq)(so:Option aG)(p H C M:ah),ak=Δ (i:Int)/\i<=c/\af (λr=>w0.heap.size<=r) w0 J/\w.heap.size<=J.heap.size/\iW J g gs p H Q so/\aq.rep ro C M J [L] acc/\
   aI .i64 J P all/\fj J/\aT=fG (λ_ s=>dl all s) (c-i) y so/\(∀r,C r->w.heap.size<=r/\r<J.heap.size)/\(∀r,M r->r≠g/\r≠gs/\¬C r)/\
   ∀s,so=σ s->acc=y.map iX/\eb s/\y.length+s.d8.length<=100000/\o≠ν/\(∀r,p r->A r\/w.heap.size<=r)/\(∀r,p r->w0.heap.size<=r)/\(∀r,B r->H r)/\(∀r,C r->¬H r/\¬p r)/\(∀r,M r->cT g gs p H r),
  λ_ ak _=>c-(b0 ak).toNat,⟨0,[],[],o,A,B,bT,bT,rfl,X7 _,aF,p9 _,aD,iQ,bn,bq,f.symm,λ_ h=>h.elim,λ_ h=>h.elim,λs U=>⟨rfl,hi s U,?_,aU s U,by grind,bt (aU s U),λr e=>e,λ_ h=>h.elim,λ_ h=>h.elim⟩⟩,?_⟩
 .subst U;have al:ek w g gs A B s Q:=aD;have:=al.2.1.words.1
  grind
 rintro L _ J ⟨i,acc,y,so,p,H,C,M,rfl,ce,bI,cf,aW,bJ,am,aY,Z,E,cg,bK⟩;refine aV (λv aZ=>Ext J aZ/\((v= .bool ro/\i<c/\∃st,so=σ st)\/(v= .bool rs/\(so=ν\/i=c)))) ?_ ?_
 rotate_left
 .intro ay ch;rw[aP,ai];refine⟨λa1=>?_,by grind [Ext.refl]⟩;refine(Eh aW).X ?_;rintro _ aZ _ ⟨rfl,ci⟩;cases so<;>grind
 rintro _ V ⟨G,bL⟩;have cj:=G.size;have S:=aW.W G;have a2:=b6 bJ G;have a6:af (λr=>w0.heap.size<=r) w0 V:=bI.F (G.aa _);rcases bL with⟨rfl,a1,st,rfl⟩|⟨rfl,bN⟩
 rotate_left
 .rw[aX];have a7:aT=so.map λst=>(y,st):=by
   rcases bN with rfl|rfl
   .exact Z
   .rw[U5]at Z;rw[Z];cases so<;>rfl
  refine aJ L V acc so p H C (λr=>M r/\r<V.heap.size) a6 Ω S (aq.X a2 (λ_ _ h=>h) (by grind)) (λr e=>?_) (am.W G) (λq K=>?_) λbO=>?_
  .rcases e with e|e
   .have:=E r e;omega
   grind
  .rw[a7]at K;cases so<;>grind
  .rw[a7]at bO;cases so<;>grind
 rw[bY];obtain⟨rfl,a8,ck,an,ba,ao,bb,ac,bc⟩:=bK st rfl;have S:=S;obtain⟨cl,cm,cp,cr,ct⟩:=S.1;have bP:=h1.2 an;have bd:cT g gs p H 1:=⟨λf=>by
  rcases f with f|f|f
  .omega
  .omega
  .have:=ao 1 f;omega,bb 1 bP.2⟩
 have be:∀r,li P r->¬bG g gs p r/\r<V.heap.size:=λr e=>by
  obtain⟨cu,cw,bQ,cA⟩:=aE r e;refine⟨λf=>?_,Ω⟩;rcases f with f|f|f
  .omega
  .omega
  .rcases ba r f with h|h
   all_goals grind
 refine(OE S a8 (am.W G) be (bo an) bp (aY.W G) bd).X ?_;rintro _ cB _ ⟨aH,x,cs,bR,rfl,cC,W,X,av,bf,bg,bS,bU⟩;have z3:=W.size;obtain⟨bh,bV⟩:=Pc bS;refine lX (α:=jJ) (R:=cT g gs aH x) ku.u cn.i Φ bV bh λu aw N _ bW=>?_;have z4:=N.size;have bX:∀r,r<V.heap.size->C r\/M r->¬bG g gs p r:=λr e h f=>by
  rcases h with h|h
  .have j:=E r h;rcases f with f|f|f
   .omega
   .omega
   .exact (ac r h).2 f
  .exact (bc r h).1 f
 have bZ:∀r,r<V.heap.size->cT g gs p H r->cT g gs aH x r:=λr e h=>⟨λf=>h.1 (f.imp id (Or.imp id λf=>(X r f).elim id Ω)),bf r h.2⟩;have b1:bM C (cT g gs aH x) aw [L] (y.map iX):=b6 (aq.aa (aq.X (R':=λr=>cT g gs aH x r/\M r) a2 (λ_ _ h=>h) λr e h=>⟨bZ r e (bc r h),h⟩) W λr e h=>bX r e (by grind) |> λh=>h) N |> λh=>aq.X h (λ_ _ h=>h) λ_ _ h=>h.1;have ad:∀r,C r->¬x r:=λr h ae=>by
  have j:=E r h;rcases(av r ae).1 with O|O
  .exact (ac r h).1 O
  omega
 have cD:(y.map iX).length=y.length:=Ξ
 refine pM ku.u cn.i rfl b1 bW (b6 bh N) (λr _ b3 h=>?_) Ω Ω λcE ax b4 Y=>?_
 .rcases h with h|h
  .exact h
  .exact ad r b3 h.2
 have z5:=Y.size;rw[aM,lm Ω Ω];have b5:af (λr=>w0.heap.size<=r) w0 aw:=(a6.F (W.X λr _ f=>by
  rcases f with rfl|rfl|f
  .exact br
  .exact bs
  .exact ao r f)).F (N.aa _)
 have z0:=aF.size;have b7:af (λr=>w0.heap.size<=r) w0 ax:=b5.F (Y.X λr _ h=>by have:=(E r h).1;omega);have b8:=(jk (am.W G) W λr e a n c az aA=>(be r ⟨a,n,c,az,aA⟩).1 e).W N;have b9:=jk b8 Y λr e a n c az aA=>by
  have bQ:=(aE r ⟨a,n,c,az,aA⟩).2.2.1;have:=(E r e).1;omega
 have ca:=(((aY.W G).aa W bd.1).W N).aa Y λh=>by have:=(E 1 h).1;omega
 have bi:iW ax g gs aH x Q ((dl all st).map (·.2)):=by
  refine iW.aa (bg.W N) Y (λh=>by have:=E _ h;omega) (λr e cF h=>?_) (λr e h=>ad r h e.2);have j:=E r h;rcases e with rfl|rfl|e
  .omega
  .omega
  .rcases X r e with O|O
   .exact (ac r h).2 O
   .omega
 have cb:=oH b4;refine⟨⟨i+1,(y.map iX)++[bR],y++((dl all st).map (·.1)).toList,(dl all st).map (·.2),aH,x,λr=>(C r\/bT r\/aw.heap.size<=r)/\r<ax.heap.size,cT g gs aH x,rfl,Ω,b7,Ω,bi,cb,b9,ca,?_,λr e=>⟨?_,e.2⟩,λr e=>⟨λh=>e.1 (.inl h),λh=>e.1 (.inr (.inl h)),λh=>?_⟩,λs' cc=>?_⟩,by simp only[b0];omega⟩
 .rw[Z,show c-i=(c-(i+1))+1 by omega,EH];cases K:dl all st with
  |none=>rfl
  |some q=>rfl
 .rcases e.1 with h|h|h
  .exact (E r h).1
  .exact h.elim
  .omega
 .rcases h.1 with j|j|j
  .exact ad r j e.2
  .exact j
  .have:=(av r e.2).2;omega
 .obtain⟨q,K,rfl⟩:=Y0.1 cc;have j:=Pb a8 K;have O:=bU q K;refine⟨?_,j.1,?_,an,λr e=>?_,λr e=>?_,λr e=>bf r (bb r e),λr e=>⟨λae=>?_,λbj=>?_⟩,λr e=>e⟩
  .rw[K,O];simp
  .rw[K];simp only[Z4,l9,p8,T4];omega
  .rcases X r e with h|h
   .exact ba r h
   omega
  .rcases X r e with h|h
   .exact ao r h
   .omega
  .rcases e.1 with j|j|j
   .exact ad r j ae
   .exact j
   .have:=(av r ae).2;omega
  .have cG:=bi;have bk:=bg;rw[K]at bk;have al:=bk;have a1:=al.1.2.2.2.1 r (.inr (.inr bj));rcases e.1 with j|j|j
   .rcases X r bj with bl|bl
    .exact (ac r j).2 bl
    .have:=(E r j).2;omega
   .exact j
   .omega
theorem eb.num{lo hi n:Int}{s s':aG}(e:eb s)(h:bc lo hi s=σ (n,s')):eb s':=λa=>by
 have h1:=(ds h).eqs;rw[h1.1];rw[h1.2.1]at a;exact e a
theorem eb.big{b:Bool}{s:aG}(h:eb s):eb (ba b s):=λa=>by
 have a:(s.big||b)=rs:=a;exact h (by grind)
theorem eb.word{w:Λ}{s s':aG}(h:eb s)(hw:dS s=σ (w,s')):eb s':=λa=>by
 have h1:=(uZ hw).2;rw[h1]at a ⊢;exact h a
theorem Pe{most:Int}{s s':aG}(hi:eb s)(hm:most<=au)(h:c3 (fR most) N [] s=σ (l,s')):eb s'/\(∀z∈l,1<=z/\z<=au)/\l.length+s'.d8.length<=s.d8.length:=by
 have:=kH (λacc t=>eb t/\(∀z∈acc,1<=z/\z<=au)/\acc.length+t.d8.length<=s.d8.length) (λacc t a t' ⟨h1,j,p⟩ g=>by
  unfold fR at g;cases e:bc 1 most t with
  |none=>grind
  |some q=>
   obtain⟨z,f⟩:=q;rw[e]at g;simp only[Y8,T2]at g;obtain⟨rfl,rfl⟩:=g;have r:=(jl e).1;have w:=(ds e).1;refine⟨(h1.num e).big,λx y=>?_,?_⟩
   .grind
   .simp only[p8,T4];show acc.length+1+f.d8.length<=_;omega) N [] s l s' (by grind) h
 grind
theorem Pf{s0:aG}{name:Λ}{n most cnt:Int}{so6:Option aG}(h1:∀q,dS s0=σ q->name=q.1)(p:∀q,bb 1 au (((dS s0).map (·.2)).map (ba (decide (64<(name.length:Int)))))=σ q->n=q.1)(j:∀q,bb 1 au (((bb 1 au (((dS s0).map (·.2)).map (ba (decide (64<(name.length:Int)))))).map (·.2)).map (ba (decide (64<n))))=σ q->most=q.1)(h:∀q,bb 0 au ((bb 1 au (((bb 1 au (((dS s0).map (·.2)).map (ba (decide (64<(name.length:Int)))))).map (·.2)).map (ba (decide (64<n))))).map (·.2))=σ q->cnt=q.1)(f:∀q,bb 1 au (((bb 0 au ((bb 1 au (((bb 1 au (((dS s0).map (·.2)).map (ba (decide (64<(name.length:Int)))))).map (·.2)).map (ba (decide (64<n))))).map (·.2))).map (·.2)).map (ba (decide (256<cnt))))=σ q->k=q.1)(e:∀q,fG (fR most) n.toNat [] (((bb 1 au (((bb 0 au ((bb 1 au (((bb 1 au (((dS s0).map (·.2)).map (ba (decide (64<(name.length:Int)))))).map (·.2)).map (ba (decide (64<n))))).map (·.2))).map (·.2)).map (ba (decide (256<cnt))))).map (·.2)).map (ba (decide (2147483648<k))))=σ q->so6=σ q.2/\co=q.1)(a:fG (fR most) n.toNat [] (((bb 1 au (((bb 0 au ((bb 1 au (((bb 1 au (((dS s0).map (·.2)).map (ba (decide (64<(name.length:Int)))))).map (·.2)).map (ba (decide (64<n))))).map (·.2))).map (·.2)).map (ba (decide (256<cnt))))).map (·.2)).map (ba (decide (2147483648<k))))=ν->so6=ν):
  iR s0=(fG (λ_ s=>dl co s) cnt.toNat [] so6).map λq=>((⟨name,k,co,q.1⟩:b5),q.2):=by
 unfold iR;cases z:dS s0 with
 |none=>
  rw[z]at a;rw[a rfl];rfl
 |some I=>
 obtain⟨X,s1⟩:=I;rw[z]at h1 p j h f e a;have:=h1 _ rfl;subst this;have J:decide (64<(name.length:Int))=decide (64<name.length):=by grind
 rw[J]at p j h f e a;simp only[Z4]at p j h f e a ⊢;generalize ba (decide (64<name.length)) s1=w at*;cases A:bc 1 au w with
 |none=>
  rw[show bb 1 au (σ w)=ν from A]at a;rw[a rfl];rfl
 |some K=>
 obtain⟨L,s2⟩:=K;rw[show bb 1 au (σ w)=σ (L,s2)from A]at p j h f e a;have:=p _ rfl;subst this;simp only[Z4]at j h f e a ⊢;generalize ba (decide (64<n)) s2=x at*;cases B:bc 1 au x with
 |none=>
  rw[show bb 1 au (σ x)=ν from B]at a;rw[a rfl];rfl
 |some M=>
 obtain⟨N,r⟩:=M;rw[show bb 1 au (σ x)=σ (N,r)from B]at j h f e a;have:=j _ rfl;subst this;simp only[Z4]at h f e a ⊢;cases C:bc 0 au r with
 |none=>
  rw[show bb 0 au (σ r)=ν from C]at a;rw[a rfl];rfl
 |some O=>
 obtain⟨P,E⟩:=O;rw[show bb 0 au (σ r)=σ (P,E)from C]at h f e a;have:=h _ rfl;subst this;simp only[Z4]at f e a ⊢;generalize ba (decide (256<cnt)) E=y at*;cases F:bc 1 au y with
 |none=>
  rw[show bb 1 au (σ y)=ν from F]at a;rw[a rfl];rfl
 |some Q=>
 obtain⟨R,G⟩:=Q;rw[show bb 1 au (σ y)=σ (R,G)from F]at f e a;have:=f _ rfl;subst this;simp only[Z4]at e a ⊢;generalize ba (decide (2147483648<k)) G=S at*;cases H:c3 (fR most) n.toNat [] S with
 |none=>
  rw[a H];rfl
 |some T=>
 obtain⟨Y,V⟩:=T;obtain⟨U,W⟩:=e _ H;subst W;rw[U];simp only;show _=W6 _ (c3 (λ_ s=>dl co s) cnt.toNat [] V)
 grind
theorem Pg{f:b5}(a:fh N f)(p:N<=60000):∀x∈f.d7,vy f.k x:=λx h=>by
 obtain⟨h1,q,r⟩:=a.d7 x h;refine⟨a.k,⟨?_,λz e=>?_⟩,h1.other,h1.lines,by have:=h1.len;omega,Ω⟩
 .grind [sI.co]
 .rw[h1.co]at e;obtain⟨v,j,rfl⟩:=o8.1 e;have:=h1.scope.2 v j;refine a.co.2.2 _ ?_
  grind
theorem Ph{p:x1}{B:Λ}(P:aI .u8 w p B)(aE:Bytes B)(bD:B.length<=60000)(ab:fj w):aj x7 II [p] w (EG w (eC B)):=by
 have aF:1<w.heap.size:=by
  have:=ab 0 (.int .u64 1) rfl
  grind [xI]
 have bF:au=4611686018427387904:=rfl;refine az func11 ?_;rw[aS cS.u P,bL,ai];refine⟨Ω,λ_=>?_⟩;refine(CT P aE Ω).X ?_;rintro _ J _ ⟨ac,gs,rfl,bH,aJ,Q⟩;rw[dw (cs:=#[Γ gs,Δ 0,Δ 0,Δ 0,Δ 0,Δ 0,.slice ν 0 0]) Ψ];refine bm λg V bI R ad=>?_;have bJ:=ac.size;have bK:=R.size;have bM:=ad.lt;have bN:gs<J.heap.size:=Q.2.2.2.1.lt;have bO:=q5 _ B (p9 _);let s0:aG:=⟨(lex B).1,0,rs,[]⟩;let B0:ah:=λr=>r<J.heap.size;have aK:ek V g gs bT B0 s0 (lex B).2:=by
  refine⟨⟨Ω,λh=>h,λh=>h,λr A=>?_,Ω⟩,⟨aJ,B,0,Q.W R,λr A=>?_,by grind⟩,by grind,0,0,0,0,.slice ν 0 0,ad,by grind,iQ (α:=l0)⟩
  .rcases A with rfl|rfl|A
   all_goals grind
  .obtain⟨_,_,_,L,bu,hm⟩:=Q;have G:=bE hm A;have K:=cj hm L Φ A;exact⟨λH=>by
    rcases H with H|H|H
    all_goals omega,Ω⟩
 have aL:∀r,bG g gs bT r->w.heap.size<=r:=λr A=>by
  rcases A with rfl|rfl|A
  all_goals grind
 refine(Dy aK).X ?_;rintro _ bP _ ⟨j,name,bQ,rfl,bR,bS,aM⟩;obtain⟨aN,aO⟩:=gl.of j;rw[bo,bp,pR dd.u,bL];refine(sW aO).X ?_;rintro _ bU _ j;obtain⟨aP,aQ⟩:=j.of;refine(n0 (lo:=1) (hi:=au) aQ).X ?_;rintro _ bV _ ⟨j,n,bW,rfl,ae,aR⟩;obtain⟨aT,aU⟩:=j.of;rw[bo,bp,bL];refine(sW aU).X ?_;rintro _ bX _ j;obtain⟨aV,aW⟩:=j.of;refine(n0 (lo:=1) (hi:=au) aW).X ?_;rintro _ bY _ ⟨j,most,bZ,rfl,ag,aX⟩;obtain⟨aY,aZ⟩:=j.of;rw[bo,bp];refine(n0 (lo:=0) (hi:=au) aZ).X ?_;rintro _ b0 _ ⟨j,cnt,b1,rfl,ak,a1⟩;obtain⟨a2,a6⟩:=j.of;rw[bo,bp,bL];refine(sW a6).X ?_;rintro _ b2 _ j;obtain⟨a7,a8⟩:=j.of;refine(n0 (lo:=1) (hi:=au) a8).X ?_;rintro _ b3 _ ⟨j,k,b4,rfl,hk,b6⟩;obtain⟨bc,bd⟩:=j.of;rw[bo,bp,bL];refine(sW bd).X ?_;rintro _ al _ j;obtain⟨be,am⟩:=j.of;have an:af (bG g gs bT) V al:=(((((((aN.F aP).F aT).F aV).F aY).F a2).F a7).F bc).F be;have S:∀{lo:Int}{o:Option aG}{x:Int},0<=lo->lo<=1->(∀q,bb lo au o=σ q->x=q.1)->(bb lo au o=ν->x=0)->0<=x/\x<=au:=λ{lo o x}b7 h1 U b8=>by
  cases y:bb lo au o with
  |none=>grind
  |some q=>
   have G:=oT (n:=q.1) (s':=q.2) y
   grind
 have b9:=S Ω Ω ae aR;have ca:=S Ω Ω ak a1;have cb:=S Ω Ω ag aX;obtain⟨N,bf⟩:∃N:Nat,n=(N:Int):=⟨n.toNat,Ω⟩;obtain⟨C,bg⟩:∃C:Nat,cnt=(C:Int):=⟨cnt.toNat,Ω⟩;have bh:n.toNat=N:=Ω
 have bi:cnt.toNat=C:=Ω
 have bj:eb s0:=λ_=>by show(0:Int)<=16384;omega
 have M:∀{o:Option aG}{b:Bool},(∀s,o=σ s->eb s)->∀s,o.map (ba b)=σ s->eb s:=λh s U=>by
  obtain⟨t,W,rfl⟩:=Y0.1 U;exact(h t W).big
 have O:∀{o:Option aG}{lo hi:Int},(∀s,o=σ s->eb s)->∀s,(bb lo hi o).map (·.2)=σ s->eb s:=λ{o lo hi}h s U=>by
  obtain⟨q,y,rfl⟩:=Y0.1 U;cases o with
  |none=>cases y
  |some t=>exact(h t rfl).num (n:=q.1) (s':=q.2) y
 have bk:∀s,(dS s0).map (·.2)=σ s->eb s:=λs U=>by
  obtain⟨q,y,rfl⟩:=Y0.1 U;exact bj.word (w:=q.1) (s':=q.2) y
 have ao:=M (b:=decide (2147483648<k)) (O (lo:=1) (hi:=au) (M (b:=decide (256<cnt)) (O (lo:=0) (hi:=au) (O (lo:=1) (hi:=au) (M (b:=decide (64<n)) (O (lo:=1) (hi:=au) (M (b:=decide (64<(name.length:Int))) bk)))))));have a:=λ(co:Λ)(so6:Option aG)=>Pf (s0:=s0) (name:=name) (co:=co) (n:=n) (most:=most) (cnt:=cnt) (k:=k) (so6:=so6) aM ae ag ak hk;rw[bh]at a;generalize cc:W6 (ba (decide (2147483648<k))) (W6 (λx=>x.2) (bb 1 au (W6 (ba (decide (256<cnt))) (W6 (λx=>x.2) (bb 0 au (W6 (λx=>x.2) (bb 1 au (W6 (ba (decide (64<n))) (W6 (λx=>x.2) (bb 1 au (W6 (ba (decide (64<(name.length:Int)))) (W6 (λx=>x.2) (dS s0)))))))))))))=ap at ao am a;rw[bf];refine O8 am Ω λd9 X co so6 gz bl aq av cd bn aw bq=>?_;have a:=a co so6 aw bq;rw[bi]at a;have Y:af (bG g gs bT) V X:=an.F bl;have z12:=Y.size;have ax:=ac.F R;have br:af (λr=>w.heap.size<=r) w X:=(ax.aa _).F (Y.X (by grind));have ce:=aq.side;have cf:∀Z,so6=σ Z->eb Z/\(∀z∈co,1<=z/\z<=au)/\co.length<=100000:=λZ bs=>by
  cases y:fG (fR most) N [] ap with
  |none=>grind
  |some q=>
   obtain⟨G,K⟩:=aw q y;cases bs.symm.F G;subst K;cases ap with
   |none=>cases y
   |some bt=>
    obtain⟨cg,ch,ci⟩:=Pe (ao bt rfl) Ω y
    grind [dy.words]
 rw[bg];have bw:∀r,li d9 r->al.heap.size<=r/\r<X.heap.size:=λr A=>by have:=bE av A;omega
 have ck:=an.size;refine Pd aq.q (by grind) Ω av.ls (λr A=>?_) (λay=>?_) bn ((ab.W ax).aa Y (by grind)) ⟨aF,λ_=>⟨λH=>by have:=aL 1 H;omega,by show 1<J.heap.size;omega⟩⟩
  br Ω Ω Ω (by grind) λcl cm acc so aH cn cp cq aA cr bx bz bA bB aB ct=>?_
 .grind
 .cases cu:so6<;>grind
 have cw:=aA.size;have E:eC B=match iR s0 with
   |none=>ν
   |some (f,s)=>if s.d8=[]/\(lex B).2=ro/\s.big=rs then σ f else ν:=by
  unfold eC;rw[m5 Ω];have e:iR ⟨(lex B).1,0,rs,[]⟩=iR s0:=rfl;rw[e];cases iR s0<;>rfl
 refine O7 bx ⟨λs U W bC L=>?_,λay=>?_⟩ bB (λr A=>by have:=bw r A;omega) bz bA (by grind) Ω Ω aA Ω Ω P λv I h=>h
 .cases y:fG (λ_ s=>dl co s) C [] so6 with
  |none=>grind
  |some q=>
   obtain⟨G,K⟩:=aB q y;cases U.symm.F G;rw[y]at a;have a:iR s0=σ ((⟨name,k,co,q.1⟩:b5),q.2):=a;have aC:=(Dv rfl a L).1;rw[a]at E;simp only at E;rw[m3 ⟨W,bC,L⟩]at E;exact⟨q.1,K,E,Pg aC (by grind),aC.mT,Ω⟩
 .cases y:fG (λ_ s=>dl co s) C [] so6 with
  |none=>
   rw[y]at a;have a:=a;rw[a]at E;exact m6 E ay
  |some q=>
   obtain⟨G,K⟩:=aB q y;rw[y]at a;have a:iR s0=σ ((⟨name,k,co,q.1⟩:b5),q.2):=a;rw[a]at E;simp only at E;by_cases aD:q.2.d8=[]/\(lex B).2=ro/\q.2.big=rs
   .exact⟨q.2,G,aD⟩
   .rw[m5 aD]at E
    grind
def n4(b n:Nat):Λ:=(fp b n).map λ(x:Nat)=>(x:Int)
theorem vA(s t cs:Λ):∃e,sy s t cs= .tuple #[Δ (bg s cs t),Δ e]:=by
 unfold sy bg;cases ct s t 0 with
 |none=>exact⟨3,rfl⟩
 |some n=>exact⟨0,rfl⟩
theorem ce.aa{S:ah}{g:Nat}{cs:Λ}(h:ce w g a sv szs k cs)(e:af S w I)(h1:¬S g)(f:a<w.heap.size->¬S a)(j:∀r,li sv r->¬S r):ce I g a sv szs k cs:=by
 obtain⟨⟨a1,gs,p,hm,q⟩,s⟩:=h;exact⟨⟨a1,gs,p.aa e h1,bk hm e j,q.aa e f⟩,s⟩
theorem Pj{α β:Type}(f:β->α->β)(z:β){l:List α}{x:α}(h:l[j]?=σ x):(l.take (j+1)).foldl f z=f ((l.take j).foldl f z) x:=by
 rw[u7,h,List.foldl_append];rfl
def Pk(w:x3)(szs:Λ)(k:Int)(cs:Λ)(pos:Int)(b n:Nat)(v:x1)(I:x3):Prop:=
 Ext w I/\
  (¬(0<=pos/\pos<szs.length/\(n:Int)=fi szs pos)->v= .tuple #[.pointer ν,.slice ν 0 0,Δ 1])/\
  (∀i:Nat,pos=i->i<szs.length->(n:Int)=fi szs i->∃a e f h bv,v= .tuple #[Γ a,bv,Δ 0]/\
   ce I a e f (gh szs i) k ((nT szs cs k i (n4 b n)).map (·.2))/\ao .i64 ae I h bv ((nT szs cs k i (n4 b n)).map (·.1))/\
   w.heap.size<=a/\w.heap.size<=e/\w.heap.size<=h/\∀r,li f r->w.heap.size<=r)
theorem Pl{g a8:Nat}{pos:Int}{cs:Λ}{b:Nat}(h:ce w g a8 sv szs k cs)(hk:right k)(eb:mR b n)(ba:Laid w):
  aj x7 Jl [Γ g,Δ pos,ka b n] w (Pk w szs k cs pos b n):=by
 have au:=h;have bb:=h.2.2.1;refine jj func92 ?_;refine bm λg1 J fY cV av=>?_;refine bm λec V fZ b8 aI=>?_;refine bm λed az gb bG b9=>?_;have s1:=cV.size;have s2:=b8.size;have gc:=bG.size;have gd:=av.lt;have gf:=aI.lt;have gg:=b9.lt;have av:=(av.W b8).W bG;have aI:=aI.W bG;have aJ:=(cV.F b8).F bG;rw[ax Ψ (av.Qz rfl),cW dv.u];simp only[j0,aX];have sub:∀{w:x3}{g:Nat}{sv:x1}{k:Int}{a1:x1},ag w g cu [sv,Δ k,a1]->w.rangeAt g (0+0) [sv]:=λP=>oJ P (by
  intro j v O
  match j,O with
  |0,O=>exact O)
 refine aV (λv cX=>v= .bool (decide (¬(0<=pos/\pos<szs.length/\(n:Int)=fi szs pos)))/\Ext az cX) ?_ ?_
 .rintro _ cX ⟨rfl,cZ⟩;simp only[ai];refine⟨λca gi ee _=>⟨(aJ.F cZ).F ee,λ_=>rfl,λi hi h1 W=>m6 ⟨Ω,Ω,by rw[hi];exact W⟩ ca⟩,λef=>?_⟩;obtain⟨eg,eh,ei⟩:=Z6.1 ef;obtain⟨i,rfl⟩:∃i:Nat,pos=i:=⟨pos.toNat,Ω⟩;have hi:i<szs.length:=Ω
  have bc:bS (gh szs i):=bb.erase i;have ej:aA (gh szs i)<=4096:=by
   have:=MR bb hi;have:=h.2.1.2.2;unfold gh;omega
  have gj:=prod_bound bc;obtain⟨N,gk⟩:∃N:Nat,aA (gh szs i)=N:=⟨(aA (gh szs i)).toNat,Ω⟩;have bH:(aA (gh szs i)).toNat=N:=Ω
  have gl:=bb.1;refine aV (λu bI=>Ext az bI/\∃C E A B,u=Γ C/\ag bI C dv [Γ E]/\ce bI E A B (gh szs i) k (r8 N k)/\
   az.heap.size<=C/\az.heap.size<=E/\az.heap.size<=A/\(∀r,li B r->az.heap.size<=r)/\C≠A) ?_ ?_
  .rintro _ bI ⟨cb,C,E,A,B,rfl,R,X,gm,gn,gp,ek,em⟩;refine dr al.u ae.i rfl λgq gu cc gv aB en=>?_;have eo:=X.W aB;obtain⟨⟨bK,c0,bL,cd,cf⟩,⟨c1,c2,_⟩,_,gw⟩:=id eo;have gx:0<N:=Ω
   have gA:=cb.size;have gB:=aB.size;have gC:=R.lt;have gD:=bL.lt;have gE:A<cc.heap.size:=iA cf Θ;rw[ax Ψ ((R.W aB).Qz rfl),aK cu.p 2 bL rfl,aS aw.u cf.ls];have ep:((r8 N k).length:Int)=N:=Ξ
   rw[ep];refine(Nk en.ls Ω).X ?_;rintro bv er _ ⟨c3,aD,gF,bM⟩;have gI:aD<er.heap.size:=iA bM Θ;refine bx al.i λes gJ gK cg et=>?_;refine bt al.i bM.ls.cells.1 bM.ls.cells.2 et (by simp[T9]) λc4 c5 gL c6=>?_;have gM:=c3.size;have gN:=cg.size;have bN:Ext cc c4:=(c3.F cg).then c5 (by rintro r z rfl;omega);have ev:ao .i64 ae c4 aD bv (r8 N (-1)):=(bM.W cg).aa c5 Ω;rw[ax Ψ ((R.W (aB.F bN)).Qz rfl),bR,aT cu.p rfl,bB (cs:=[B]) bn.p bn.i rfl (sub (bL.W bN))];refine p1.X ?_;rintro _ aE _ ⟨bO,gs,rfl,gO,c7⟩;have gP:=bN.size;have gQ:=bO.size;have aF:=bN.F bO;have gR:=c6.lt;let S:Nat->Prop:=λr=>r=aD\/r=A;let aL:x3->Prop:=λI=>ag I g1 dv [Γ g]/\ag I ec ae [Δ (i:Int)]/\ag I ed b3 [.int .u64 (b:Int),Δ (n:Int)]/\
    ag I C dv [Γ E]/\ag I E cu [B,Δ k,bK]/\ag I es al [bv]/\ce I g a8 sv szs k cs/\ao .i64 ae I c0 B (gh szs i)/\Laid I/\ag I gs bn [B]/\aE.heap.size<=I.heap.size
   have ew:∀r,li B r->r<cc.heap.size:=λr z=>by have:=bE cd z;omega
   have ch:aL aE:=by
    have bd:=(cb.F aB).F aF;exact⟨av.W bd,aI.W bd,b9.W bd,R.W (aB.F aF),bL.W aF,c6.W bO,au.W (aJ.F bd),cd.W aF,ba.W (aJ.F bd),c7,p9 _⟩
   have gS:g<w.heap.size:=by obtain⟨⟨_,_,U,_,_⟩,_⟩:=au;exact U.lt
   have gT:a8<az.heap.size->a8<w.heap.size:=λ_=>by
    obtain⟨⟨_,_,_,_,U⟩,_,_,ey⟩:=au;have:=prod_bound bb;exact iA U Ω
   have ez:∀r,li sv r->r<w.heap.size:=λr z=>by
    obtain⟨⟨_,_,_,U,_⟩,_⟩:=au;have:=bE U z;omega
   have gU:a8<w.heap.size:=by
    obtain⟨⟨_,_,_,_,U⟩,_,_,ey⟩:=au;have:=prod_bound bb;exact iA U Ω
   have bf:∀{a b:x3},af S a b->aL a->aL b:=by
    rintro a b y ⟨f1,f2,f3,f4,f5,f6,f7,f8,f9,f10,f11⟩;have M:∀{r:Nat},r≠aD->r≠A->¬S r:=λh1 W h=>h.elim h1 W;refine⟨f1.aa y (M Ω Ω),f2.aa y (M Ω Ω),f3.aa y (M Ω Ω),f4.aa y (M Ω em),f5.aa y (M Ω c1),f6.aa y (M Ω Ω),
     f7.aa y (M Ω Ω) (λ_=>M Ω Ω) (λr z=>by have:=ez r z;exact M Ω Ω),bk f8 y (λr z=>by have:=ew r z;exact M Ω (λhe=>c2 (he▸z))),
     gH y (M Ω Ω) f9,f10.aa y (M Ω Ω),Y2 f11 y.size⟩
   have ci:∀{a b:x3},Ext a b->aL a->aL b:=λy=>bf (y.aa S);let L:=nT szs cs k i (n4 b n);have c9:L.length=N:=by simp[L,nT,bH]
   let Y:Λ:=L.map (·.1);let Z:Λ:=L.map (·.2);have cj:Y.length=N:=by simp[Y,c9]
   have bP:Z.length=N:=by simp[Z,c9]
   have da:=p0 (g:=gs) (B0:=aE.heap.size) (sv:=B) bc;rw[bH]at da;refine mA.old ⟨Nat,rs,kt,#[Γ gs],0,_,_,_,λq I=>af S aE I/\ao .i64 ae I aD bv (upto Y (-1) q)/\ao .i64 ap I A bK (upto Z k q),λ_ _ _=>False,rfl,da.s,
    ?_,λ_ _ y h=>⟨h.1.W y,h.2.1.W y,Y2 h.2.2 y.size⟩,λ_ _ _ y h=>⟨h.1.F (y.aa S),h.2.1.W y,h.2.2.W y⟩,λ_ _ _ _ _ h=>h,⟨c7,(cd.W aF).ls,p9 _⟩,⟨af.refl _ _,?_,?_⟩,?_,?_,λ_ _ h=>h.elim,λ_ _ _ h=>h.elim⟩
   .rintro _ _ _ _ ⟨_,_,_,_,rfl,_⟩;rfl
   .rw[nU,cj];exact ev.W bO
   .rw[nU,bP];exact cf.W aF
   .rintro _ aN q _ db ⟨_,_,gV⟩ ⟨U,rfl,gW,gt,eA,eB,ck⟩ ⟨cl,eC,eD⟩;cases eA;have eE:∀r,S r->r<aE.heap.size:=λr h=>by rcases h with rfl|rfl<;>omega
    refine bx ae.i λdc gX gY dd eF=>?_;refine bt ae.i rfl rfl eF (by simp[T9]) λeH de _ df=>?_;refine bx al.i λak gZ g0 cm eI=>?_;refine bt al.i ck.ls.cells.1 ck.ls.cells.2 eI (by simp[T9]) λg2 dg _ eJ=>?_;intro cn cp _ _;have g3:=dd.size;have g4:=de.size;have g5:=cm.size;have eK:Ext db eH:=dd.then de (by rintro r z rfl;omega);have cq:Ext db cn:=((eK.F cm).then dg (by rintro r z rfl;omega)).F cp;have g6:=df.lt;have eL:ag cn dc ae [Δ (q:Int)]:=((df.W cm).aa dg Ω).W cp;have dh:ag cn ak al [aN]:=eJ.W cp;have g7:=dh.lt;obtain⟨f1,f2,f3,f4,f5,f6,f7,f8,f9,f10,f11⟩:=ci cq (bf cl ch);rw[bB b3.p b3.i rfl f3.range];refine(pV (b:=b) (n:=n)).X ?_;rintro _ di _ ⟨bQ,aU,rfl,g8,dj⟩;have bh:=cq.F bQ;let x:=b1 (gh szs i) (q:Int);let f:Int->Int:=λv=>bg szs cs (rf x i v);let st:Nat->Int×Int:=λj=>((n4 b n).take j).foldl (oO f) (-1,k);let bi:x3->Prop:=λI=>aL I/\ag I dc ae [Δ (q:Int)]/\ag I ak al [aN]/\ao .i64 ae I gt aN x/\ag I aU b3 [.int .u64 (b:Int),Δ (n:Int)];have g9:=cq.size;have dk:bi di:=⟨ci bh (bf cl ch),eL.W bQ,dh.W bQ,ck.W bh,dj⟩;have bj:∀{a b:x3},af S a b->bi a->bi b:=by
     rintro a b y ⟨h1,W,cr,bl,aO⟩;have M:∀{r:Nat},aE.heap.size<=r->¬S r:=λh1 W=>by have:=eE _ W;omega
     exact⟨bf y h1,W.aa y (M Ω),cr.aa y (M Ω),bl.aa y (λ_=>M eB),aO.aa y (M Ω)⟩
    have br:∀{a b:x3},Ext a b->bi a->bi b:=λy=>bj (y.aa S);have eM:(n4 b n).length=(fp b n).length:=by simp[n4]
    have dl:L[q]?=σ (st (fp b n).length):=by
     simp only[L,nT,st];rw[x8,List.getElem?_range (by rw[bH];exact U),<-eM,o6];rfl
    have eN:=pU (g:=aU) eb;refine mz.old ⟨_,rs,la,#[Γ aU],_,_,_,_,λj I=>af S di I/\ao .i64 ae I aD bv ((upto Y (-1) q).set q (st j).1)/\ao .i64 ap I A bK ((upto Z k q).set q (st j).2),λ_ _ _=>False,rfl,eN.s,
     ?_,λ_ _ y h=>⟨h.1.W y,h.2.W y⟩,λ_ _ _ y h=>⟨h.1.F (y.aa S),h.2.1.W y,h.2.2.W y⟩,λ_ _ _ _ _ h=>h,⟨dj,f9.W bQ⟩,⟨af.refl _ _,?_,?_⟩,?_,?_,λ_ _ h=>h.elim,λ_ _ _ h=>h.elim⟩
    .rintro _ _ _ _ ⟨_,_,_,_,rfl⟩;rfl
    .rw[show(st 0).1= -1 from rfl,pW (Db Ω)];exact eC.W bh
    .rw[show(st 0).2=k from rfl,pW (Db Ω)];exact eD.W bh
    .rintro _ j _ ha ⟨_,_⟩ ⟨hb,rfl,v,O,eO⟩ ⟨ct,bT,cw⟩;cases eO;intro eP cz _ _;have eQ:(n4 b n)[j]?=σ (v:Int):=by simp[n4,O]
     have dm:st (j+1)=oO f (st j) v:=Pj _ _ eQ;have bs:=bj ct dk;have hc:((upto Y (-1) q).set q (st j).1).length=N:=by rw[U4,mS,cj]
     have hd:((upto Z k q).set q (st j).2).length=N:=by rw[U4,mS,bP]
     have cA:((upto Y (-1) q).set q (st j).1)[q]?=σ (st j).1:=by rw[Z3 (by rw[mS];omega)]
     have cB:((upto Z k q).set q (st j).2)[q]?=σ (st j).2:=by rw[Z3 (by rw[mS];omega)]
     refine aV (λc cC=>Ext eP cC/\c=Δ (f v)) ?_ ?_
     .rintro _ cC ⟨dn,rfl⟩;refine aV (λt dp=>Ext cC dp/\t= .bool (decide ((st j).1<0\/f v<(st j).2))) ?_ ?_
      .rintro _ dp ⟨eR,rfl⟩;have bu:=(cz.F dn).F eR;simp only[ai,eu];refine⟨λeS eU eV _ _=>?_,λeW=>?_⟩
       .have aQ:=bu.F eV;obtain⟨⟨f1,f2,f3,f4,f5,f6,f7,f8,f9,f10,f11⟩,aR,cD,bU,dq⟩:=br aQ bs;rw[ax Ψ (f6.Qz rfl),ax Ψ (aR.Qz rfl),ax Ψ (f4.Qz rfl),aK cu.p 2 f5 rfl,
         ax Ψ (aR.Qz rfl),iy rfl al.u ae.i (bT.W aQ) Ω]
        refine iz ae.i (bT.W aQ) Ω λds dt hf du=>?_;have dw:af S eU ds:=dt.X λr _ h=>.inl h;have dx:=(cw.W aQ).aa dt Ω;have dy:=bj dw (br aQ bs);refine⟨.inr ⟨mP Ψ (dy.2.1.Qz rfl),trivial⟩,?_⟩;rw[iy rfl aw.u ap.i dx Ω];refine iz ap.i dx Ω λeX dz hg dA=>?_;have dC:af S ds eX:=dz.X λr _ h=>.inr h;have dD:=bj dC dy;have e:st (j+1)=((v:Int),f v):=by rw[dm];unfold oO;rw[m3 eS]
        refine⟨⟨dD.2.2.2.2,dD.1.2.2.2.2.2.2.2.2.1⟩,⟨((ct.F (aQ.aa S)).F dw).F dC,?_,?_⟩,λh=>by cases h⟩
        .rw[e];rw[List.set_set]at du;exact du.aa dz Ω
        .rw[e];rw[List.set_set]at dA;exact dA
       .have e:st (j+1)=st j:=by rw[dm];unfold oO;rw[m5 eW]
        have dE:=br bu bs;refine⟨⟨dE.2.2.2.2,dE.1.2.2.2.2.2.2.2.2.1⟩,⟨ct.F (bu.aa S),?_,?_⟩,λh=>by cases h⟩
        .rw[e];exact bT.W bu
        .rw[e];exact cw.W bu
      .intro hh dF hj cF _ _;have cG:=(cz.F dn).F cF;obtain⟨⟨f1,f2,f3,f4,f5,f6,f7,f8,f9,f10,f11⟩,aR,cD,bU,dq⟩:=br cG bs;rw[ax Ψ (f6.Qz rfl),ax Ψ (aR.Qz rfl),be al.u ae.i Ψ (bT.W cG).ls cA];simp only[aP,ai];refine⟨λh=>dF _ _ ⟨cF,by simp[h]⟩,λh=>?_⟩;rw[ax Ψ (f4.Qz rfl),aK cu.p 2 f5 rfl,ax Ψ (aR.Qz rfl),
        be aw.u ap.i Ψ (cw.W cG).ls cB]
       simp only[aP];exact dF _ _ ⟨cF,by simp[h]⟩
     .intro eY eZ bV dG _ _;have e0:=cz.F dG;obtain⟨⟨f1,f2,f3,f4,f5,f6,f7,f8,f9,f10,f11⟩,aR,cD,bU,dq⟩:=br e0 bs;have hl:x.length<=6:=by simp only[x];rw[ix];exact bc.1
      have e1:i<=x.length:=by simp only[x];rw[ix];simp[gh];omega
      rw[ax Ψ (f1.Qz rfl),ax Ψ (cD.Qz rfl),ax Ψ (f2.Qz rfl)];have bW:∀{aW:x3}{aY bw:x1}{g84 aZ:Nat},Ext bV aW->bV.heap.size<=g84->ao .i64 ae aW g84 aY x->ao .i64 ae aW aZ bw [(v:Int)]->g84≠aZ->
        aj x7 BT [aY,Δ (i:Int),bw] aW λe2 bz=>
         (Ext bV bz\/cE x7 (u4 dv (Γ g1)) (Γ g) bz/\True)/\
         aj x7 BS [Γ g,e2] bz λdH bX=>ab x7 (c8 dH 0) bX λe3=>ab x7 (c8 dH 1) bX λ_=>eY e3 bX:=by
       intro aW aY bw g84 aZ ac bY ad ah e4;refine(Nj ad ah e4 e1 Ω).X ?_;rintro hn bz _ ⟨e5,ho,_,e6⟩;have cH:Ext bV bz:=ac.then e5 (by rintro r z rfl;omega);refine⟨.inl cH,?_⟩;refine(uL (f7.W cH) e6.ls).X ?_;rintro _ bX _ ⟨rfl,e7⟩;obtain⟨e,he⟩:=vA szs (rf x i v) cs;have e8:sy szs (x.take i++[(v:Int)]++x.drop i) cs= .tuple #[Δ (f v),Δ e]:=he;rw[e8,bo,bp];exact eZ _ _ ⟨(dG.F cH).F e7,rfl⟩
      constructor
      .refine (j3 bU.ls Ω).X ?_;rintro aY dI _ ⟨a2,g84,bY,ad⟩;refine⟨.inl a2,?_⟩;refine dr al.u ae.i rfl λbw aZ aW e9 ac ah=>⟨.inl (a2.F ac),?_⟩;by_cases fa:0<x.length
       .have fb:g84<dI.heap.size:=iA ad fa;exact bW (a2.F ac) bY (ad.W ac) ah Ω
       .have fc:x=[]:=Z0 Ω;have fd:aY= .slice ν 0 0\/g84<dI.heap.size:=by
         obtain⟨_,⟨h,_⟩|⟨_,_,_,P,_⟩⟩:=ad
         .exact .inl h
         .exact .inr P.lt
        rcases fd with rfl|fb
        .refine bW (g84:=aZ+1) (a2.F ac) (by have:=a2.size;omega) ?_ ah Ω;rw[fc];exact ao.nil _ _ _ _
        .exact bW (a2.F ac) bY (ad.W ac) ah Ω
      .refine dr al.u ae.i rfl λbw aZ hp e9 bA ah=>⟨.inl bA,?_⟩;refine(j3 (bU.ls.W bA) Ω).X ?_;rintro aY hq _ ⟨cJ,g84,bY,ad⟩;have hr:=bA.size;have hs:=iA ah Ξ;exact⟨.inl (bA.F cJ),bW (bA.F cJ) Ω ad (ah.W cJ) Ω⟩
    .rintro _ ht rfl ⟨dJ,fe,ff⟩;have cK:=bj dJ dk;refine⟨⟨cK.1.2.2.2.2.2.2.2.2.2.1,cK.1.2.2.2.2.2.2.2.1.ls,cK.1.2.2.2.2.2.2.2.2.2.2⟩,⟨(cl.F (bh.aa S)).F dJ,?_,?_⟩,λh=>by cases h⟩
     .have cL:Y[q]?=σ (st (fp b n).length).1:=by simp only[Y];rw[x8,dl];rfl
      rw[<-nW cL];exact fe
     .have cL:Z[q]?=σ (st (fp b n).length).2:=by simp only[Z];rw[x8,dl];rfl
      rw[<-nW cL];exact ff
   .rintro cY hu fg ⟨dK,cM,cN⟩ hv bZ _ _;rw[show cY=N from fg]at cM cN;obtain⟨f1,f2,f3,f4,f5,f6,f7,f8,f9,f10,f11⟩:=ci bZ (bf dK ch);rw[ax Ψ (f4.Qz rfl),ax Ψ (f6.Qz rfl)];intro fh bC _;have fj:Ext w fh:=by
     have fk:Ext w aE:=aJ.F ((cb.F aB).F aF);exact((fk.then dK (λr z h=>by rcases h with rfl|rfl<;>omega)).F bZ).F bC
    rw[<-cj,nV]at cM;rw[<-bP,nV]at cN;refine⟨fj,λca=>m6 ⟨eg,eh,ei⟩ ca,λfm hx _ _=>?_⟩;have fo:fm=i:=Ω
    subst fo;exact⟨E,A,B,aD,bv,rfl,⟨⟨bK,c0,f5.W bC,f8.W bC,(cN.W bZ).W bC⟩,⟨c1,c2,ej⟩,bc,by rw[bP];omega⟩,(cM.W bZ).W bC,Ω,Ω,Ω,λr z=>by have:=ek r z;omega⟩
  .intro ay bD H fq _ _;have bF:=cZ.F fq;have cO:=au.W (aJ.F bF);have am:=av.W bF;have an:=aI.W bF;obtain⟨⟨a1,gs,P,hm,fs⟩,_⟩:=id cO;rw[ax Ψ (am.Qz rfl),bR,aT cu.p rfl,bB (cs:=[sv]) bn.p bn.i rfl (sub P),
    ax Ψ (an.Qz rfl),ax Ψ (an.Qz rfl)]
   simp only[aM];rw[lm Ω Ω,ax Ψ (am.Qz rfl),aK cu.p 1 P rfl,
    ax Ψ (am.Qz rfl),aK cu.p 1 P rfl]
   have hy:=bF.size;have dL:∀{bq:x3}{K:x1->x3->Prop},Ext H bq->(∀v I G,Ext H I->Ext bq I->bq.heap.size<=G->G<I.heap.size->ao .i64 ae I G v szs->K v I)->aj x7 xx [.agg #[sv]] bq K:=λQ aG=>
    (vd (hm.ls.W Q) Ω).X λv I _ ⟨y,G,b0,O⟩=>aG v I G (Q.F y) y b0 (iA O Ω) O
   have cP:∀{bq:x3}{v:x1}{G:Nat}{K:x1->x3->Prop},Ext H bq->H.heap.size<=G->ao .i64 ae bq G v szs->(∀v I,Ext H I->af (λr=>r=G) bq I->(∃G,H.heap.size<=G/\ao .i64 ae I G v (gh szs i))->K v I)->
     aj x7 BH [v,Δ (i:Int),Δ ((i:Int)+1)] bq K:=λQ b0 O aG=>
    (DC O hi Ω).X λv I _ ⟨y,ft⟩=>aG v I (Q.then y (by rintro r z rfl;omega)) y ⟨_,b0,ft⟩
   have dM:∀{bq:x3}{v:x1}{K:x1->x3->Prop},Ext H bq->(∃G,H.heap.size<=G/\ao .i64 ae bq G v (gh szs i))->
     (∀I E A B,Ext bq I->bq.heap.size<=E->bq.heap.size<=A->(∀r,li B r->bq.heap.size<=r)->ce I E A B (gh szs i) k (r8 N k)->K (.tuple #[Γ E,Δ 0]) I)->
     aj x7 xv [v,Δ k,Δ k] bq K:=λQ ⟨G,b0,O⟩ aG=>
    (sx O.ls).X λv I _ ⟨y,_,_,_,bl⟩=>by
     obtain⟨E,A,B,rfl,aO,cQ,fu,dN⟩:=bl bc Ω ⟨hk,by have:=hk.1;omega,R6 _⟩;rw[bH]at dN;exact aG I E A B y aO cQ fu dN
   have b2:∀{bq:x3}{K:x1->x3->Prop},Ext H bq->(∀I,Ext H I->Ext bq I->bq.heap.size<I.heap.size->ag I bq.heap.size dv [.pointer ν]->K (Γ bq.heap.size) I)->aC x7 (S5 dv ro (.tuple #[])) bq K:=λQ aG=>
    bx dv.i λg I fv y P=>by subst fv;exact aG I (Q.F y) y P.lt P
   have dO:∀{bq:x3}{C E A:Nat}{B:x1},Ext H bq->H.heap.size<=C->ag bq C dv [.pointer ν]->ce bq E A B (gh szs i) k (r8 N k)->H.heap.size<=E->H.heap.size<=A->(∀r,li B r->H.heap.size<=r)->
     C≠E->C≠A->¬li B C->aC x7 (o7 dv (Γ C) (Γ E)) bq λ_ I=>ay (Γ C) I:=λQ dP R X h1 W cr bl aO cQ=>
    bt dv.i rfl rfl R Ξ λI dQ _ fw=>bD _ _ ⟨(bF.F Q).then dQ (by rintro r z rfl;omega),_,_,_,_,rfl,fw,X.aa dQ (Ne.symm bl) (λ_=>Ne.symm aO) (λr z he=>cQ (he▸z)),Ω,Ω,Ω,λr z=>by have:=cr r z;omega,aO⟩
   have cR:∀{bq:x3}{C:Nat}{v:x1},Ext H bq->H.heap.size<=C->ag bq C dv [.pointer ν]->(∃G,H.heap.size<=G/\ao .i64 ae bq G v (gh szs i))->
     aj x7 xv [v,Δ k,Δ k] bq λt cU=>ab x7 (c8 t 0) cU λt0=>ab x7 (c8 t 1) cU λ_=>aC x7 (o7 dv (Γ C) t0) cU λ_ I=>ay (Γ C) I:=λ{bq C v}Q dP R O=>
    dM Q O λhz E A B dR fx fy b4 X=>by
     have b5:=R.lt;have hA:=Q.size;rw[bo,bp];exact dO (Q.F dR) dP (R.W dR) X Ω Ω (λr z=>by have:=b4 r z;omega) Ω Ω (λba=>by have:=b4 _ ba;omega)
   refine⟨dL (Ext.refl _) λfz hB fA b6 _ cS fB b7=>⟨.inl b6,cP b6 cS b7 λdS hC a6 hD a7=>⟨.inl a6,?_,?_⟩,?_⟩,?_⟩
   .refine dM a6 a7 λhE E A B fD fx fy b4 X=>?_;have fE:=a6.size;have dT:=a6.F fD;rw[bo,bp];refine b2 dT λhF dU fF b5 fG=>⟨.inl dU,?_⟩;have hG:=dT.size;have fH:=X;obtain⟨⟨_,_,cA,fI,cB⟩,_⟩:=fH;have hH:=cA.lt;have hI:=iA cB Θ;exact dO dU Ω fG (X.W fF) Ω Ω (λr z=>by have:=b4 r z;omega) Ω Ω (λba=>by have:=bE fI ba;omega)
   .refine b2 a6 λhJ dV fJ b5 fK=>⟨.inl dV,?_⟩;obtain⟨fL,fM,fN⟩:=a7;have fE:=a6.size;exact cR dV Ω fK ⟨fL,fM,fN.W fJ⟩
   .refine b2 b6 λhK dW fO b5 fP=>⟨.inl dW,?_⟩;have hL:=b6.size;refine cP dW cS (b7.W fO) λdS hM dX fQ a7=>⟨.inl dX,?_⟩;exact cR dX Ω (fP.aa fQ Ω) a7
   .refine b2 (Ext.refl _) λhN dY hO b5 fR=>⟨.inl dY,?_⟩;refine dL dY λfz hP fA dZ fS cS fB b7=>⟨.inl dZ,?_⟩;refine cP dZ Ω b7 λdS hQ ea fU a7=>⟨.inl ea,?_⟩;exact cR ea Ω ((fR.W fS).aa fU Ω) a7
 .intro ay bD hR aH _ _;have am:=av.W aH;have an:=aI.W aH;rw[ax Ψ (an.Qz rfl)];simp only[aP,ai];refine⟨λhS=>⟨.inl (Ext.refl _),.inl (Ext.refl _),bD _ _ ⟨by rw[m7];omega,aH⟩⟩,λhT=>?_⟩;have cO:=au.W (aJ.F aH);obtain⟨⟨a1,gs,P,hm,fs⟩,_⟩:=id cO;rw[ax Ψ (an.Qz rfl),ax Ψ (am.Qz rfl),bR,aT cu.p rfl,bB (cs:=[sv]) bn.p bn.i rfl (sub P)];refine(yo hm.ls).X ?_;rintro _ hU _ ⟨rfl,aq⟩;refine⟨.inl aq,?_⟩;simp only[cI,ai];refine⟨λhV=>⟨.inl (Ext.refl _),bD _ _ ⟨by rw[m7];omega,aH.F aq⟩⟩,λhW=>?_⟩;have am:=am.W aq;have an:=an.W aq;have fV:=(b9.W aH).W aq;rw[bB b3.p b3.i rfl fV.range,ax Ψ (am.Qz rfl),bR,aT cu.p rfl,bB (cs:=[sv]) bn.p bn.i rfl (sub (P.W aq)),ax Ψ (an.Qz rfl)];refine(uW (b:=b) (n:=n)).X ?_;rintro _ hX _ ⟨rfl,cT⟩;refine⟨.inl cT,?_⟩;refine(rn ((hm.ls.W aq).W cT)).X ?_;rintro _ hY _ ⟨rfl,fW⟩;simp only[bJ];refine bD _ _ ⟨?_,((aH.F aq).F cT).F fW⟩;congr 1;have fX:(0<=pos/\pos<(szs.length:Int)/\(n:Int)=fi szs pos)↔(n:Int)=fi szs pos:=⟨λh=>h.2.2,λh=>⟨Ω,Ω,h⟩⟩;simp only[fX]
theorem Pm:aj x7 BW [sv] w λr I=>Ext w I/\∃g,r= .func (.func qU) #[] #[Γ g]/\w.heap.size<=g/\ag I g al sv.cells.toList:=by
 refine az func218 ?_;refine bm λg J f a e=>?_;rw[j1];exact⟨a,g,rfl,Ω,e⟩
theorem Pn{f:Q2}{cap:Array x1}{B:Nat->List x1->x3->Prop}{e:x3->Prop}{L:Λ}(Q:qO x7 f cap.toList n B e)(C:∀k vs w,B k vs w->∃x,L[k]?=σ x/\vs=[Δ x])(he:∀a b,af (λr=>w.heap.size<=r) a b->e a->e b)(R:e w)(S:n=L.length)(aq:L.length<=1000000):
  aj x7 Kv [.slice ν 0 0,.func (.func f) #[] cap] w λv I=>Ext w I/\∃g,w.heap.size<=g/\ao .i64 ae I g v L:=by
 refine jj func195 ?_;refine bm λgs J au E p=>?_;have p:=p;have av:=p.lt;have G:∀{a b:x3},Ext a b->e a->e b:=λj=>he _ _ (j.aa _);refine mz.old ⟨Nat,rs,f,cap,0,_,_,e,λk I=>af (λr=>w.heap.size<=r) w I/\∃v g,gs<g/\ag I gs al [v]/\ao .i64 ae I g v (L.take k),λ_ _ _=>False,rfl,Q.s,?_,λ_ _ j h=>G j h,
  λ_ _ _ j h=>⟨h.1.F (j.aa _),by obtain⟨v,g,h1,U,W⟩:=h.2;exact⟨v,g,h1,U.W j,W.W j⟩⟩,λ_ _ _ _ _ h=>h,G E R,⟨E.aa _,_,gs+1,Ω,p,ao.nil _ _ _ _⟩,?_,?_,λ_ _ h=>h.elim,λ_ _ _ h=>h.elim⟩
 .rintro k vs aw I ⟨_,_,h⟩;obtain⟨x,_,rfl⟩:=C k vs I h;rfl
 .rintro a k _ V hX ⟨hk,rfl,Y⟩ ⟨Z,v,g,ab,H,q⟩;obtain⟨x,j,ac⟩:=C k _ V Y;cases ac;intro ay y _ _;have K:=H.W y;rw[ax Ψ (K.cell rfl)];refine dr al.u ae.i rfl λa ga az aA z ad=>?_;have aB:(L.take k).length<=1000000:=Θ
  refine jD al.u ae.i rfl ((q.W y).W z) ad.ls (by simp only[Y3,List.length_nil];omega) (by simp only[Y3,List.length_nil];omega) λah ai aC aD A M=>?_;have aE:=H.lt;have aF:=y.size;have aG:=z.size;refine bt al.i A.ls.cells.1 A.ls.cells.2 (((K.W z).aa M Ω)) Ξ λak N aH am=>?_;have O:af (λr=>w.heap.size<=r) V ak:=(((y.F z).aa _).F (M.X λr _ h=>by show w.heap.size<=r;omega)).F (N.X λr _ h=>by show w.heap.size<=r;omega);refine⟨he _ _ O hX,⟨Z.F O,ah,ai,Ω,am,?_⟩,λh=>by cases h⟩;rw[u7,j];exact A.aa N (λ_=>Ω)
 .rintro k aI hk ⟨an,v,g,ab,ap,q⟩;have hk:=hk;subst hk;rw[ax Ψ (ap.cell rfl)];intro aJ P _;rw[S,o6]at q;exact⟨(an.W λr aK h=>by have:w.heap.size<=r:=h;omega).F P,g,Ω,q.W P⟩
theorem EI{f:Q2}{cap:Array x1}{j:Nat->List x1->x3->Prop}{e:x3->Prop}{L:Λ}(p:qO x7 f cap.toList n j e)(q:∀k vs w,j k vs w->∃x,L[k]?=σ x/\vs=[Δ x])(he:∀a b,af (λr=>w.heap.size<=r) a b->e a->e b)(s:e w)(y:n=L.length)(z:L.length<=1000000):
  aj x7 Jq [.func (.func f) #[] cap] w λv I=>Ext w I/\∃g,w.heap.size<=g/\ao .i64 ae I g v L:=by
 refine az func98 ?_;exact(Pn p q he s y z).X λ_ _ _ h=>h
theorem Po{x:Int}:aj x7 cmp_Less_int [Δ x,Δ y] w λv I=>v= .bool (decide (x<y))/\Ext w I:=by
 refine az func301 ?_;refine aV (λv J=>v= .bool (decide (x<y))/\Ext w J) (λ_ _ h=>h) λay a=>?_;have e:∀{z:Int}{w:x3},aj x7 cmp_isNaN_int [Δ z] w λv I=>v= .bool rs/\Ext w I:=λ{z w}=>by
  refine az func227 ?_;simp only[bJ];exact⟨Ξ,Ext.refl _⟩
 refine e.X ?_;rintro _ V _ ⟨rfl,f⟩;rw[aX];simp only[aP];exact a _ _ ⟨rfl,f⟩
theorem Pp{P:X5}{t:r9}{cx cy:Bool}{k:o5}{a b:Int}:cE P (aO .sub t cx cy (.int k a) (.int k b)) (.int k (k.wrap (a-b))) w:=λI _=>by simp[aO,eqGuard,binOp,Op.intArith]
theorem Pq{g:Nat}(h:ao .i64 ae w g sv l)(ap:l.length<=1000000):
  aj x7 Lt [sv,Δ 0,Δ l.length] w λ_ I=>af (λr=>r=g) w I/\∃m,m.Perm l/\m.Pairwise (·<= ·)/\ao .i64 ae I g sv m:=by
 refine az func295 ?_;simp only[aM];refine⟨λt J=>∃(i:Nat)(m:Λ),t=Δ i/\1<=i/\(i<=l.length\/i=1)/\m.Perm l/\sG m i/\af (λr=>r=g) w J/\ao .i64 ae J g sv m,λt _=>l.length+1-(b0 t).toNat,
  ⟨1,l,by congr 1,Ω,.inr rfl,.refl _,λp q x y h1 U=>Ω,af.refl _ _,h⟩,?_⟩
 rintro _ J ⟨i,m,rfl,aq,au,z,K,L,hm⟩;have W:=z.length_eq;simp only[aP,ai];refine⟨λX=>?_,λav=>?_⟩
 .have X:i<l.length:=Ω
  refine⟨λt V=>∃(j:Nat)(m:Λ),t=Δ j/\j<=i/\m.Perm l/\rh m i j/\af (λr=>r=g) w V/\ao .i64 ae V g sv m,λt _=>(b0 t).toNat,⟨i,m,rfl,p9 _,z,MW K,L,hm⟩,?_⟩;rintro _ V ⟨j,m,rfl,Y,z,E,M,hm⟩;have W:=z.length_eq;refine aV (λv N=>Ext V N/\∃c,v= .bool c/\(c=ro->0<j/\∃a b,m[j-1]?=σ a/\m[j]?=σ b/\b<a)/\(c=rs->j=0\/0<j/\∃a b,m[j-1]?=σ a/\m[j]?=σ b/\a<=b)) ?_ ?_
  .rintro _ N ⟨B,c,rfl,Z,ab⟩;rw[bU];refine⟨λh=>?_,λh=>?_⟩
   .obtain⟨A,a,b,f,s,G⟩:=Z h;intro aw O _ _;have C:=(hm.W B).W O;have e:Y7.wrap ((j:Int)-1)=((j-1:Nat):Int):=by rw[lm Ω Ω];omega
    simp only[dR,e];rw[be al.u ae.i Ψ C.ls f,be al.u ae.i Ψ C.ls s,iy rfl al.u ae.i C Ω];refine iz ae.i C Ω λac ad ax Q=>⟨.inr ⟨by have:=Pp (P:=x7) (w:=ac) (t:=ae) (cx:=rs) (cy:=ro) (k:=.i64) (a:=(j:Int)) (b:=1);rwa [e]at this,trivial⟩,?_⟩;rw[iy rfl al.u ae.i Q Θ];refine iz ae.i Q Θ λaA ag aB ah=>?_;refine⟨⟨j-1,_,rfl,Ω,(swap_perm Ω f s).F z,MZ E A Y f s G,((M.F ((B.F O).aa _)).F ad).F ag,ah⟩,?_⟩;simp only[b0];omega
   .simp only[aM];rw[lm Ω Ω];refine⟨⟨i+1,m,rfl,Ω,.inl Ω,z,?_,M.F (B.aa _),hm.W B⟩,?_⟩
    .rcases ab h with rfl|⟨A,a,b,f,s,G⟩
     .exact MX E
     .exact MY E A f s G
    .simp only[b0];omega
  .intro ay R aC H _ _;have S:=hm.W H;simp only[bL,ai];refine⟨λA=>?_,λA=>R _ _ ⟨H,rs,rfl,(λh=>by cases h),λ_=>.inl Ω⟩⟩;have e:Y7.wrap ((j:Int)-1)=((j-1:Nat):Int):=by rw[lm Ω Ω];omega
   obtain⟨b,s⟩:=aF (l:=m) (i:=j) Ω;obtain⟨a,f⟩:=aF (l:=m) (i:=j-1) Ω;rw[be al.u ae.i Ψ S.ls s];simp only[dR,e];rw[be al.u ae.i Ψ S.ls f];refine Po.X ?_;rintro _ aD _ ⟨rfl,ak⟩;refine R _ _ ⟨H.F ak,_,rfl,λh=>⟨Ω,a,b,f,s,by simpa using h⟩,λh=>.inr ⟨Ω,a,b,f,s,by simpa using h⟩⟩
 .refine⟨L,m,z,M0 λp q x y h1 U am an=>K p q x y h1 Ω am an,hm⟩
theorem Pr{P:X5}{t:r9}{k:o5}{s:ByteArray}{i:Nat}{K:x1->Prop}(a:P.underlying t=σ .string)(hi:i<s.size)(e:∀b:Nat,b<256->K (.int .u8 b)):
  ab P (Instr.index t (.string s) (.int k (i:Int))) w K:=by
 have f:s[i]?=σ s[i]:=by simp[hi]
 have:ab P (Instr.index t (.string s) (.int k (i:Int))) w K=K (.int .u8 s[i].toNat):=ab.of λI _=>by
  simp[Instr.index,asIntOf,run_underlying a,hi]
 rw[this];exact e _ (UInt8.toNat_lt _)
theorem Ps(a:n<256):aj x7 KO [.int .u64 (n:Int)] w λv I=>(∃r,v=Δ r)/\Ext w I:=by
 refine az func226 ?_;refine aj.X (K:=λv I=>(∃r,v=Δ r)/\Ext w I) ?_ (λ_ _ _ h=>h);refine az func283 ?_;simp only[cz,cI,ai];refine⟨λh=>Ω,λ_=>⟨λh=>Ω,λ_=>⟨λh=>Ω,λ_=>?_⟩⟩⟩;rw[e1 fN.u cM.u,wrap_u8 Ω Ω];refine Pr dd.u (by exact Nat.lt_of_lt_of_le a Φ) λb e=>?_;rw[e1 cM.u ae.u];simp only[aM];exact⟨⟨_,rfl⟩,Ext.refl _⟩
theorem Pt{g:Nat}(h:ao .i64 ae w g sv l)(f:l.length<=12):
  aj x7 BP [sv] w λ_ I=>af (λr=>r=g) w I/\∃m,m.Perm l/\m.Pairwise (·<= ·)/\ao .i64 ae I g sv m:=by
 refine az func176 ?_;rw[aS al.u h.ls,e1 ae.u nG.u,lw Ω Ω];refine(Ps Ω).X ?_;rintro _ J _ ⟨⟨r,rfl⟩,e⟩;refine aj.X (K:=λ_ I=>af (λr=>r=g) J I/\∃m,m.Perm l/\m.Pairwise (·<= ·)/\ao .i64 ae I g sv m) ?_ (λ_ _ _ h=>⟨(e.aa _).F h.1,h.2⟩);refine az func255 ?_;refine⟨λa b _ _ _ V=>a=Δ 0/\b=Δ l.length/\J=V,λ_ _ _ _ _ _=>0,⟨rfl,rfl,rfl⟩,?_⟩;rintro _ _ _ _ _ _ ⟨rfl,rfl,rfl⟩;simp only[dR,oG,ai];rw[lm Ω Ω];refine⟨λ_=>?_,λh=>Ω⟩;refine(Pq (h.W e) Ω).X ?_;exact λ_ _ _ h=>h
theorem Pu{f:Q2}{cap:Array x1}{j:Nat->List x1->x3->Prop}{e:x3->Prop}{L:Λ}(p:qO x7 f cap.toList n j e)(q:∀k vs w,j k vs w->∃x,L[k]?=σ x/\vs=[Δ x])(he:∀a b,af (λr=>w.heap.size<=r) a b->e a->e b)(s:e w)(y:n=L.length)(z:L.length<=12):
  aj x7 BV [.func (.func f) #[] cap] w λv I=>Ext w I/\∃g m,w.heap.size<=g/\m.Perm L/\m.Pairwise (·<= ·)/\ao .i64 ae I g v m:=by
 refine az func217 ?_;refine(EI p q he s y Ω).X ?_;rintro v J _ ⟨A,g,B,C⟩;refine(Pt C z).X ?_;rintro _ V _ ⟨E,m,h1,G,H⟩;exact⟨A.then E (by rintro r K rfl;omega),g,m,B,h1,G,H⟩
theorem EJ{x:Int}(h:aI .i64 w sv l):
  aj x7 xt [sv,Δ x] w λv I=>Ext w I/\∃r:Int,v=Δ r/\∀i:Nat,l[i]?=σ x->(r=i↔ ∀j,j<i->l[j]? ≠σ x):=by
 refine az func91 ?_;rw[aS al.u h];refine b2.range l.length (λi _ J=>Ext w J/\∀j,j<i->l[j]? ≠σ x) h.le ⟨Ext.refl _,λj p=>Ω⟩ ?_ ?_
 .rintro i _ J k hi ⟨a,e⟩ hk;simp only[aP,ai];refine⟨λ_=>?_,λh=>Ω⟩;obtain⟨y,f⟩:=aF (l:=l) hi;rw[be al.u ae.i Ψ (h.W a) f];simp only[bh,ai,aM];refine⟨λhe=>⟨a,i,rfl,λq s=>?_⟩,λhe=>hk _ _ ⟨a,λj p=>?_⟩⟩
  .subst he;refine⟨λB=>by
              have:i=q:=Ω
              subst this;exact e,λz=>?_⟩
   rcases Nat.lt_trichotomy i q with h1|h1|h1
   .exact m6 f (z i h1)
   .omega
   .exact m6 s (e q h1)
  .by_cases A:j=i
   .subst A;rw[f];intro h;exact he (Z7 h).symm
   .exact e j Ω
 .rintro _ J k ⟨a,e⟩;simp only[aP,ai];refine⟨λh=>Ω,λ_=>⟨a,-1,rfl,λi hi=>?_⟩⟩;exact m6 hi (e i (x4.1 hi).1)
theorem Pv{g:Nat}(p:ag w0 g al [sv])(e:aI .i64 w0 sv l):
  qO x7 qU [Γ g] l.length (λk vs _=>∃x,l[k]?=σ x/\vs=[Δ x]) (λw=>Ext w0 w):=by
 refine⟨qU.enters,λy ay B w C _ q a r=>?_⟩;refine sq func272 ?_;rw[ax Ψ ((p.W a).cell rfl),aS al.u (e.W a)];refine cm.range l.length (λi V=>ay i V/\Ext w0 V) e.le ⟨r,a⟩ ?_ ?_
 .rintro i V k hi ⟨f,j⟩ hk;simp only[aP,ai];refine⟨λ_=>?_,λh=>Ω⟩;obtain⟨x,a⟩:=aF (l:=l) hi;rw[be al.u ae.i Ψ (e.W j) a];refine⟨rfl,(q i _ V hi j ⟨x,a,rfl⟩ f).X ?_⟩;rintro _ E (⟨rfl,s,z⟩|⟨rfl,A⟩)
  .simp only[bA,Y6,aX,aM];exact hk _ ⟨z.1,s⟩
  .simp only[bA,X4,bY];exact .inr ⟨i,hi,A⟩
 .rintro V k ⟨f,_⟩;simp only[aP,ai];exact⟨λh=>Ω,λ_=>.inl f⟩
theorem yL(h:aI .i64 w sv l)(j:l.length<=12)(p:∀v I g m,Ext w I->w.heap.size<=g->m.Perm l->m.Pairwise (·<= ·)->ao .i64 ae I g v m->K v I):
  aj x7 BW [sv] w λt J=>aj x7 BV [t] J K:=by
 refine Pm.X ?_;rintro _ J _ ⟨f,g,rfl,B,e⟩;have e:ag J g al [sv]:=by rw[h.cells.1]at e;exact e
 refine(Pu (Pv e (h.W f)) (λ_ _ _ h=>h) (λa b q s=>s.then q (λr C h=>Ω)) (Ext.refl _) rfl j).X ?_;rintro v V _ ⟨x,y,m,E,h1,z,A⟩;have:=f.size;exact p v V y m (f.F x) Ω h1 z A
def Pw(w:x3)(szs:Λ)(k:Int)(cs a:Λ)(v:x1)(I:x3):Prop:=
 Ext w I/\
  (¬Good a szs.length->v= .tuple #[.pointer ν,Δ 1])/\
  (Good a szs.length->∃e f h,v= .tuple #[Γ e,Δ 0]/\ce I e f h (fg szs a) k (pX szs cs a))
theorem Px{g bF:Nat}{Z:x1}{cs z:Λ}(h:ce w g bF sv szs k cs)(hk:right k)(Q:aI .i64 w Z z)(cn:z.length<=12)(cp:Good z szs.length->aA (fg szs z)<=4096):
  aj x7 KJ [Γ g,Z] w (Pw w szs k cs z):=by
 have aB:=h;have cq:=h.2.2.1;have cr:=Q.cells;refine jj func219 ?_;refine bm λg1 J c9 bG C=>?_;refine bm λbH V da a2 A=>?_;have s1:=bG.size;have s2:=a2.size;have db:=C.lt;have dc:=A.lt;have a6:=bG.F a2;have C:=C.W a2;have A:ag V bH al [Z]:=by rw[cr.1]at A;exact A
 rw[ax Ψ (C.cell rfl),cW dv.u];simp only[j0,aX];rw[ax Ψ (A.cell rfl)];have ct:=Q.W a6;have sub:∀{w:x3}{g:Nat}{sv:x1}{k:Int}{a1:x1},ag w g cu [sv,Δ k,a1]->w.rangeAt g (0+0) [sv]:=λK=>oJ K (by
  intro j v a7
  match j,a7 with
  |0,a7=>exact a7)
 refine yL ct cn λeo cw dx m bI dd a8 cz hm=>?_;have cA:=a8.length_eq;rw[aS al.u hm.ls];have cB:=a6.F bI;refine k8.range m.length (λi _ _ ba=>Ext cw ba/\∀j,j<i->m[j]?=σ (j:Int)) Ω ⟨Ext.refl _,λj bb=>Ω⟩ ?_ ?_
 .rintro i _ _ ba ab hi ⟨ac,bc⟩ ad;simp only[aP,ai];refine⟨λ_=>?_,λh=>Ω⟩;obtain⟨y,ah⟩:=aF (l:=m) hi;rw[be al.u ae.i Ψ (hm.ls.W ac) ah];simp only[bJ,ai,aM];refine⟨λak de cC _=>⟨(cB.F ac).F cC,λ_=>rfl,λbd=>?_⟩,λhe=>ad _ _ _ ⟨ac,λj bb=>?_⟩⟩
  .have:=Df bd a8 cz i hi;rw[ah]at this;exact m6 (Z7 this).symm ak
  .by_cases cD:j=i
   .subst cD;rw[ah];congr 1;omega
   .exact bc j Ω
 .rintro _ _ ba ab ⟨ac,bc⟩;simp only[aP,ai,eu];refine⟨λh=>Ω,λ_ df cE _ _=>?_⟩;have E:=M1 bc a8;have am:=(bI.F ac).F cE;have aC:=a6.F am;have C:=C.W am;have A:=A.W am;have cF:=Q.W aC;have cG:=aB.W aC;have dg:=am.size;obtain⟨⟨a1,gs,K,aD,bK⟩,_⟩:=id cG;rw[ax Ψ (A.cell rfl),aS al.u cF,ax Ψ (C.cell rfl),bR,aT cu.p rfl,bB (cs:=[sv]) bn.p bn.i rfl (sub K)];refine(yo aD.ls).X ?_;rintro _ dh _ ⟨rfl,L⟩;refine⟨.inl L,?_⟩;simp only[bJ,ai];refine⟨λak di cH _=>⟨(aC.F L).F cH,λ_=>rfl,λbd=>m6 (by rw[bd.1]) ak⟩,λdj=>?_⟩;have bf:z.length=szs.length:=Ω
  have E:Good z szs.length:=by rw[<-bf,<-cA];exact E
  have dk:=am.F L;have bh:=aC.F L;have C:=C.W L;have A:=A.W L;have bL:=Q.W bh;rw[ax Ψ (A.cell rfl),aS al.u bL];refine ky al.u ae.i Ω Ω λgz cI dl R bM=>?_;have cJ:=ao.of (n:=z.length) (bZ.full bM Ξ (by simp[maxLen];omega));generalize (x1.slice (σ ⟨gz,0,ν⟩) z.length z.length)=cK at*;have dm:=L.size;have dn:=R.size;have dp:=bM.lt;rw[ax Ψ ((A.W R).cell rfl),aS al.u (bL.W R)];have bN:=bh.F R;have aE:(fg szs z).length=z.length:=uX _ _;refine cm.range z.length (λi aG=>af (λr=>r=gz) cI aG/\ao .i64 ae aG gz cK (upto (fg szs z) 0 i)) Ω ⟨af.refl _ _,by rw[nU,aE];exact cJ⟩ ?_ ?_
  .rintro i aG ab hi ⟨M,aH⟩ ad;simp only[aP,ai];refine⟨λ_=>?_,λh=>Ω⟩;have an:=bN.then M (by rintro r O rfl;omega);have aJ:=R.then M (by rintro r O rfl;omega);obtain⟨p,bi⟩:=aF (l:=z) hi;obtain⟨⟨a1,gs,K,aD,bK⟩,_⟩:=aB.W an;rw[be al.u ae.i Ψ (Q.W an) bi,ax Ψ ((C.W aJ).cell rfl),bR,aT cu.p rfl,bB (cs:=[sv]) bn.p bn.i rfl (sub K)];refine(rn aD.ls).X ?_;rintro _ dq _ ⟨rfl,bO⟩;have bP:=aH.W bO;have cL:(upto (fg szs z) 0 i).length=z.length:=by rw[mS,aE]
   rw[iy rfl al.u ae.i bP Ω];refine iz ae.i bP Ω λdr cM _ bQ=>?_;simp only[aM];have h1:=(E.2 i p bi).1;have aq:(fg szs z)[i]?=σ (fi szs p):=by
    unfold fg fi;rw[x8,bi,m3 h1.1];rfl
   rw[nW aq]at bQ;exact ad _ ⟨(M.F (bO.aa _)).F cM,bQ⟩
  .rintro aG ab ⟨M,aH⟩;simp only[aP,ai];refine⟨λh=>Ω,λ_=>?_⟩;have an:=bN.then M (by rintro r O rfl;omega);have aJ:=R.then M (by rintro r O rfl;omega);rw[<-aE,nV]at aH;obtain⟨⟨a1,gs,K,aD,bK⟩,_⟩:=aB.W an;rw[ax Ψ ((C.W aJ).cell rfl),aK cu.p 1 K rfl];have aL:=cq.M3 E rfl;have bS:=cp E;have ds:=prod_bound aL;refine(sx aH.ls).X ?_;rintro _ bT _ ⟨bU,_,_,_,cN⟩;obtain⟨au,G,U,rfl,dt,du,dw,aO⟩:=cN aL bS ⟨hk,Ω,by have:=hk.1;omega⟩;obtain⟨N,aQ⟩:∃N:Nat,(aA (fg szs z)).toNat=N:=⟨_,rfl⟩;rw[aQ]at aO;rw[bo,bp];refine bx dv.i λbV dy dz bW av=>?_;refine bt dv.i rfl rfl av (by simp[T9]) λdA cO dC av=>?_;have dD:=M.size;have dE:=bU.size;have dF:=bW.size;have bj:=bW.then cO (by rintro r O rfl;omega);have bX:=bU.F bj;have cP:=aO.W bj;have dG:=av.lt;obtain⟨⟨bl,bY,b0,b2,cQ⟩,⟨b3,b4,_⟩,_,dH⟩:=id cP;have dI:0<N:=Ω
   have dJ:au<bT.heap.size:=by obtain⟨⟨_,_,q,_⟩,_⟩:=id aO;exact q.lt
   have dK:G<bT.heap.size:=by obtain⟨⟨_,_,_,_,q⟩,_⟩:=id aO;exact iA q Θ
   rw[ax Ψ (av.cell rfl),bR,aT cu.p rfl,bB (cs:=[U]) bn.p bn.i rfl (sub b0)];refine p1.X ?_;rintro _ P _ ⟨H,aR,rfl,dL,b5⟩;have dM:=bj.size;have dN:=H.size;let S:Nat->Prop:=λr=>r=G;let W:=pX szs cs z;have bq:W.length=N:=by simp only[W];rw[Dl,aQ]
   let cR:x3->Prop:=λI=>ag I g1 dv [Γ g]/\ag I bH al [Z]/\ag I bV dv [Γ au]/\ag I au cu [U,Δ k,bl]/\
    ce I g bF sv szs k cs/\aI .i64 I Z z/\ao .i64 ae I bY U (fg szs z)/\ag I aR bn [U]/\P.heap.size<=I.heap.size
   have X:∀{a:x3},af S P a->cR a:=by
    intro a B;have br:=(aJ.F bX).F H;have bs:=br.put B Ω;have b6:=bh.F bs;refine⟨C.W bs,A.W bs,(av.W H).aa B (by show¬(bV=G);omega),(b0.W H).aa B (by show¬(au=G);exact b3),aB.W b6,Q.W b6,bk (b2.W H) B (λr O he=>b4 ((show r=G from he)▸O)),
     b5.aa B (by show¬(aR=G);omega),B.size⟩
   have b7:=p0 (g:=aR) (B0:=P.heap.size) (sv:=U) aL;rw[aQ]at b7;refine mA.old ⟨Nat,rs,kt,#[Γ aR],0,_,_,_,λq I=>af S P I/\ao .i64 ap I G bl (upto W 0 q),λ_ _ _=>False,rfl,b7.s,
    ?_,λ_ _ B h=>⟨h.1.W B,h.2.1.W B,Y2 h.2.2 B.size⟩,λ_ _ _ B h=>⟨h.1.F (B.aa S),h.2.W B⟩,λ_ _ _ _ _ h=>h,⟨b5,(b2.W H).ls,p9 _⟩,⟨af.refl _ _,?_⟩,?_,?_,λ_ _ h=>h.elim,λ_ _ _ h=>h.elim⟩
   .rintro _ _ _ _ ⟨_,_,_,_,rfl,_⟩;rfl
   .rw[nU,bq];exact cQ.W H
   .rintro _ aN q _ dO ⟨_,_,dP⟩ ⟨aq,rfl,dQ,gt,cS,dR,cT⟩ ⟨aU,cU⟩;cases cS;let x:=b1 (fg szs z) (q:Int);have b8:x.length=z.length:=by simp only[x];rw[ix,aE]
    intro cV Y _ _;have ca:=cT.W Y;rw[aS al.u ca.ls];refine ky al.u ae.i (by rw[ix];omega) (by rw[ix];omega) λgo cX dS bu cb=>?_;have cY:=ao.of (n:=(b1 (fg szs z) (q:Int)).length) (bZ.full cb Ξ (by rw[ix];simp[maxLen];omega));generalize (x1.slice (σ ⟨go,0,ν⟩) (b1 (fg szs z) (q:Int)).length (b1 (fg szs z) (q:Int)).length)=cZ at*;have dT:=aU.size;have dU:=Y.size;have dV:=bu.size;have lo:=cb.lt;have c0:af S P cX:=aU.F ((Y.F bu).aa S);have f:=X c0;rw[ax Ψ (f.2.1.cell rfl),aS al.u f.2.2.2.2.2.1];refine cm.range z.length (λj aV=>Ext cV aV/\∃y:Λ,y.length=z.length/\ao .i64 ae aV go cZ y/\∀(i:Nat)(p:Int),i<j->z[i]?=σ p->y[p.toNat]?=x[i]?) Ω
     ⟨bu,_,by simp[b8,x],cY,λi p hi=>Ω⟩ ?_ ?_
    .rintro j aV ab bb ⟨ay,y,bw,aW,bz⟩ ad;simp only[aP,ai];refine⟨λ_=>?_,λh=>Ω⟩;have f:=X (aU.F ((Y.F ay).aa S));obtain⟨p,aY⟩:=aF (l:=z) bb;obtain⟨u,cc⟩:=aF (l:=x) (i:=j) Ω;have dW:=(E.2 j p aY).1;rw[be al.u ae.i Ψ f.2.2.2.2.2.1 aY,be al.u ae.i Ψ (ca.W ay).ls cc,iy (i:=p.toNat) Ω al.u ae.i aW Ω];refine iz ae.i aW Ω λdX c1 dY c2=>?_;simp only[aM];refine ad _ ⟨ay.then c1 (by rintro r O rfl;omega),_,by simpa using bw,c2,λi aZ hi az=>?_⟩;by_cases cd:i=j
     .subst cd;rw[aY]at az;cases az;rw[Z3 Ω,cc]
     .have dZ:=(E.2 i aZ az).1;have ak:p.toNat≠aZ.toNat:=λhe=>by
       have:p=aZ:=Ω
       subst this;exact cd (E.inj az aY)
      rw[X3 ak];exact bz i aZ Ω az
    .rintro aV ab ⟨ay,y,bw,aW,bz⟩;simp only[aP,ai];refine⟨λh=>Ω,λ_ c3 cf _ _=>?_⟩;have ah:=Dj E (by rw[b8,bf]) (by rw[bw,bf]) λi p cg=>bz i p (x4.1 cg).1 cg;have ch:=ay.F cf;have ci:af S P c3:=aU.F ((Y.F ch).aa S);obtain⟨f1,f2,f3,f4,f5,f6,f7,f8,f9⟩:=X ci;rw[ax Ψ (f3.cell rfl),aK cu.p 2 f4 rfl,ax Ψ (f1.cell rfl)];refine(uL f5 (aW.ls.W cf)).X ?_;rintro _ ea _ ⟨rfl,bA⟩;refine⟨.inl bA,?_⟩;obtain⟨e,he⟩:=vA szs y cs;rw[he,bo,bp];have c4:=ci.F (bA.aa S);have cj:=(cU.W ((Y.F ch).F bA));have cL:(upto W 0 q).length=N:=by rw[mS,bq]
     rw[iy rfl aw.u ap.i cj Ω];refine iz ap.i cj Ω λc5 c6 eb ck=>?_;have cl:af S P c5:=c4.F (c6.X λr _ h=>h);obtain⟨f1,f2,f3,f4,f5,f6,f7,f8,f9⟩:=X cl;have c7:W[q]?=σ (bg szs cs y):=by
      simp only[W,pX];rw[x8,List.getElem?_range (by rw[aQ];exact aq),ah];rfl
     rw[nW c7]at ck;exact⟨⟨f8,f7.ls,f9⟩,⟨cl,ck⟩,λh=>by cases h⟩
   .rintro q ec aq ⟨bC,bD⟩;rw[show q=N from aq]at bD;have f:=X bC;rw[ax Ψ (f.2.2.1.cell rfl)];intro ed bE _;obtain⟨f1,f2,f3,f4,f5,f6,f7,f8,f9⟩:=X (bC.F (bE.aa S));rw[<-bq,nV]at bD;have br:=(an.F bX).F H;refine⟨(br.put bC Ω).F bE,λc8=>m6 E c8,λ_=>⟨au,G,U,rfl,⟨bl,bY,f4,f7,bD.W bE⟩,⟨b3,b4,bS⟩,aL,Dl _ _ _⟩⟩
def ez(l:Λ):Prop:=∀(i j:Nat)(x y:Int),i<j->l[i]?=σ x->l[j]?=σ y->x<y
theorem ez.inj(h:ez l){i:Nat}{x:Int}(hi:l[i]?=σ x)(a:l[j]?=σ x):i=j:=by
 rcases Nat.lt_trichotomy i j with h1|h1|h1
 .have:=h i j x x h1 hi a;omega
 .exact h1
 .have:=h j i x x h1 a hi;omega
def dedup(l:Λ):Nat->Λ
 |0=>[]
 |j+1=>if 0<j/\l[j]?=l[j-1]? then dedup l j else dedup l j++[l.getD j 0]
theorem EK(l:Λ):∀j,(dedup l j).length<=j
 :=by
 intro a;induction a<;>grind [dedup]
theorem yM(a:0<j)(h:l[j]?=l[j-1]?):dedup l (j+1)=dedup l j:=by
 grind [dedup]
theorem yN{x:Int}(a:l[j]?=σ x)(h:0<j->l[j]? ≠l[j-1]?):dedup l (j+1)=dedup l j++[x]:=by
 grind [dedup]
theorem yO:∀{j:Nat},j<=l.length->(∀i,i<j->0<i->l[i]? ≠l[i-1]?)->dedup l j=l.take j
 :=by
 intro a;induction a<;>grind [dedup,yN,u7]
theorem yP{l:Λ}(U:l.Pairwise (·<= ·)):∀{j:Nat},j<=l.length->(ez (dedup l j)/\∀x,x∈dedup l j↔x∈l.take j)
 |0,_=>⟨λi j x y _ h=>by simp[dedup]at h,by grind [dedup]⟩
 |j+1,C=>by
  obtain⟨h1,r⟩:=yP U (j:=j) Ω;have p:l[j]?=σ l[j]:=x6 Ω;by_cases q:0<j/\l[j]?=l[j-1]?
  .rw[yM q.1 q.2];refine⟨h1,λx=>?_⟩;rw[r,u7,p];simp only[l9,o9,b8];refine⟨.inl,λh=>h.elim id λhe=>?_⟩;subst he;have E:(l.take j)[j-1]?=σ l[j]:=by grind
   grind
  .have s:0<j->l[j]? ≠l[j-1]?:=by grind
   rw[yN p s];have w:∀x∈dedup l j,x<l[j]:=λx F=>by
    grind [List.getElem_of_mem,X9]
   refine⟨λa b x y z f e=>?_,λx=>?_⟩
   .have A:=(x4.1 e).1;simp only[p8,Y3,List.length_nil]at A;rw[W8 Ω]at f;by_cases B:b=(dedup l j).length
    .subst B;rw[Y9 (p9 _),U5]at e;simp at e;subst e;exact w x (x5 f)
    .rw[W8 Ω]at e;exact h1 a b x y z f e
   grind [u7]
def s4(l:Λ):Prop:=∀(j:Nat)(x:Int),l[j]?=σ x->0<=x/\(0<j->∀y,l[j-1]?=σ y->y<x)
theorem s4.up(h:s4 l):ez l:=by
 intro i j x y r f;induction j generalizing y with
 |zero=>omega
 |succ j p=>
  intro e;have s:=(x4.1 e).1;obtain⟨z,a⟩:∃z,l[j]?=σ z:=⟨_,x6 (show j<l.length by omega)⟩;have h1:=(h (j+1) y e).2 Ω z (by simpa using a);by_cases q:i=j
  .subst q;rw[f]at a;cases a;exact h1
  .have:=p z Ω a;omega
theorem EL(h:ez l)(e:∀x∈l,0<=x):s4 l:=λj x a=>⟨e x (x5 a),λp y f=>h (j-1) j y x Ω f a⟩
theorem EM{g H:Nat}{bD:x1}{cs:Λ}(h:ce w g H sv szs k cs)(a:aI .i64 w bD l):
  aj x7 KK [Γ g,bD] w λv I=>Ext w I/\∃c,v= .bool c/\(c=ro↔l.length=szs.length/\s4 l):=by
 obtain⟨⟨a1,gs,K,hm,q⟩,_⟩:=h;have sub:w.rangeAt g (0+0) [sv]:=oJ K (by
  intro j v r
  match j,r with
  |0,r=>exact r)
 refine az func220 ?_;rw[aS al.u a,bR,aT cu.p rfl,bB (cs:=[sv]) bn.p bn.i rfl sub];refine(yo hm.ls).X ?_;rintro _ J _ ⟨rfl,s⟩;simp only[bJ,ai];refine⟨λL=>⟨s,rs,rfl,(λh=>by cases h),λh=>m6 (by rw[h.1]) L⟩,λE=>?_⟩;have E:l.length=szs.length:=Ω
 rw[aS al.u (a.W s)];refine b2.range l.length (λi _ V=>Ext w V/\∀(j:Nat)(x:Int),j<i->l[j]?=σ x->0<=x/\(0<j->∀y,l[j-1]?=σ y->y<x)) a.le ⟨s,λj x M=>Ω⟩ ?_ ?_
 .rintro i _ V N hi ⟨e,z⟩ O;simp only[aP,ai];refine⟨λ_=>?_,λh=>Ω⟩;obtain⟨x,f⟩:=aF (l:=l) hi;have W:=a.le;rw[be al.u ae.i Ψ (a.W e) f];refine aV (λv P=>V=P/\∃c,v= .bool c/\(c=rs↔0<=x/\(0<i->∀y,l[i-1]?=σ y->y<x))) ?_ ?_
  .rintro _ _ ⟨rfl,c,rfl,q⟩;rw[bU];simp only[aM];refine⟨λQ=>⟨e,rs,rfl,(λh=>by cases h),λh=>?_⟩,λR=>O _ _ ⟨e,λj S M A=>?_⟩⟩
   .have:=q.2 (h.2 i x f);rw[Q]at this;cases this
   .by_cases U:j=i
    .subst U;rw[f]at A;cases A;exact q.1 R
    .exact z j S Ω A
  .intro ay B;simp only[aP,bL,dR,ai];refine⟨λX=>B _ _ ⟨rfl,ro,rfl,(λh=>by cases h),λh=>Ω⟩,λY=>⟨λZ=>?_,λaa=>B _ _ ⟨rfl,rs,rfl,λ_=>⟨Ω,λh=>Ω⟩,λ_=>rfl⟩⟩⟩;obtain⟨y,C⟩:∃y,l[i-1]?=σ y:=⟨_,x6 (show i-1<l.length by omega)⟩;rw[lm Ω Ω,fm (i:=i-1) Ω al.u ae.i Ψ (a.W e) C];simp only[cI];refine B _ _ ⟨rfl,_,rfl,?_⟩;rw[decide_eq_false_iff_not];refine⟨λh=>⟨Ω,λ_ ab G=>by rw[C]at G;cases G;omega⟩,λh=>by have:=h.2 Ω y C;omega⟩
 .rintro _ V N ⟨e,z⟩;simp only[aP,ai];exact⟨λh=>Ω,λ_=>⟨e,ro,rfl,λ_=>⟨E,λj x f=>z j x (x4.1 f).1 f⟩,λ_=>rfl⟩⟩
def ih(l:Λ)(x:Int):Int:=if x∈l then(l.idxOf x:Int)else-1
theorem p7{i:Nat}{x:Int}(h:ez l)(hi:l[i]?=σ x):ih l x=i:=by
 have hm:x∈l:=x5 hi;have a:=List.idxOf_lt_length_of_mem hm;have e:=h.inj (by rw[x6 a,List.getElem_idxOf a]) hi;unfold ih;rw[m3 hm,e]
theorem EN{x:Int}(h:x∉l):ih l x= -1:=m5 h
theorem vB{x:Int}(h:aI .i64 w sv l)(p:ez l):
  aj x7 xt [sv,Δ x] w λv I=>v=Δ (ih l x)/\Ext w I:=by
 refine az func91 ?_;rw[aS al.u h];refine b2.range l.length (λi _ J=>Ext w J/\∀j,j<i->l[j]? ≠σ x) h.le ⟨Ext.refl _,λj q=>Ω⟩ ?_ ?_
 .rintro i _ J k hi ⟨a,e⟩ hk;simp only[aP,ai];refine⟨λ_=>?_,λh=>Ω⟩;obtain⟨y,f⟩:=aF (l:=l) hi;rw[be al.u ae.i Ψ (h.W a) f];simp only[bh,ai,aM];refine⟨λhe=>⟨?_,a⟩,λhe=>hk _ _ ⟨a,λj q=>?_⟩⟩
  .subst he;rw[p7 p f]
  .by_cases r:j=i
   .subst r;rw[f];intro h;exact he (Z7 h).symm
   .exact e j Ω
 .rintro _ J k ⟨a,e⟩;simp only[aP,ai];refine⟨λh=>Ω,λ_=>⟨?_,a⟩⟩;rw[EN];intro hm;obtain⟨i,hi,he⟩:=List.getElem_of_mem hm;exact e i hi (by rw[x6 hi,he])
def gu(x d6 scope:Λ):Λ:=scope.map λp=>x.getD (d6.idxOf p) 0
theorem Py(x d6 scope:Λ):(gu x d6 scope).length=scope.length:=by simp[gu]
theorem EO{eB s:x1}{x d6 scope:Λ}(C:aI .i64 w eB x)(E:aI .i64 w s d6)(U:aI .i64 w sv scope)(G:ez d6)(H:∀p∈scope,p∈d6)(R:x.length=d6.length)(S:scope.length<=1000):
  aj x7 KN [eB,s,sv] w λv I=>Ext w I/\∃g,w.heap.size<=g/\ao .i64 ae I g v (gu x d6 scope):=by
 refine az func223 ?_;rw[aS al.u U];refine ky al.u ae.i Ω Ω λgz J W y K=>?_;have L:=ao.of (n:=scope.length) (bZ.full K Ξ (by simp[maxLen];omega));generalize (x1.slice (σ ⟨gz,0,ν⟩) scope.length scope.length)=M at*;rw[aS al.u (U.W y)];have j:=Py x d6 scope;refine cm.range scope.length (λi V=>Ext w V/\ao .i64 ae V gz M (upto (gu x d6 scope) 0 i)) Ω ⟨y,by rw[nU,j];exact L⟩ ?_ ?_
 .rintro i V N hi ⟨a,hm⟩ O;simp only[aP,ai];refine⟨λ_=>?_,λh=>Ω⟩;obtain⟨p,q⟩:=aF (l:=scope) hi;have z:=H p (x5 q);have X:=List.idxOf_lt_length_of_mem z;rw[be al.u ae.i Ψ (U.W a) q];refine(vB (E.W a) G).X ?_;rintro _ Y _ ⟨rfl,f⟩;have e:ih d6 p=(d6.idxOf p:Int):=m3 z;obtain⟨u,A⟩:∃u,x[d6.idxOf p]?=σ u:=⟨_,x6 Ω⟩;have Z:(upto (gu x d6 scope) 0 i).length=scope.length:=by rw[mS,j]
  rw[fm (i:=d6.idxOf p) e al.u ae.i Ψ (C.W (a.F f)) A,iy rfl al.u ae.i (hm.W f) Ω];refine iz ae.i (hm.W f) Ω λaa P _ B=>?_;simp only[aM];have Q:(gu x d6 scope)[i]?=σ u:=by
   unfold gu;rw[x8,q,Z4,u5,A];rfl
  rw[nW Q]at B;exact O _ ⟨(a.F f).then P (by rintro r ab rfl;omega),B⟩
 .rintro V N ⟨a,hm⟩;simp only[aP,ai];refine⟨λh=>Ω,λ_=>⟨a,gz,Ω,?_⟩⟩;rw[<-j,nV]at hm;exact hm
theorem EP(j:t≠[])(hw:∀b∈t,b7 b=ro):lex t=([t],ro):=by
 cases t with
 |nil=>exact m6 rfl j
 |cons b q=>
  have a:q.dropWhile b7=[]:=by
   have:∀(q:Λ),(∀x∈q,b7 x=ro)->q.dropWhile b7=[]/\q.takeWhile b7=q:=λq a=>by
    induction q with
    |nil=>simp
    |cons x q e=>
     have:=e λy f=>a y (.tail _ f);simp[a x (.head _),this.1,this.2]
   exact(this q λx h=>hw x (.tail _ h)).1
  have p:q.takeWhile b7=q:=by
   have:∀(q:Λ),(∀x∈q,b7 x=ro)->q.takeWhile b7=q:=λq a=>by
    induction q with
    |nil=>simp
    |cons x q e=>simp[a x (.head _),e λy f=>a y (.tail _ f)]
   exact this q λx h=>hw x (.tail _ h)
  rw[CL (hw b (.head _)),a,p]
theorem EQ{p:x1}(h:aI .u8 w p l)(e:Bytes l)(f:l.length<=100000):aj x7 By [p] w λv I=>Ext w I/\∃g R,v=Γ g/\w.heap.size<=g/\iT I g R (lex l).1 (lex l).2/\¬R g:=by
 refine(CT h e f).X ?_;rintro _ J _ ⟨j,g,rfl,q,s,a⟩;obtain⟨h1,z,A,x,bu,hm⟩:=id a;exact⟨j,g,λr=>r≠g,rfl,q,⟨s,l,0,a,λr y=>cj hm x Φ y,by rw[List.drop_zero]⟩,λh=>h rfl⟩
theorem Pz{p:x1}(h:aI .u8 w p t)(x:Bytes t)(y:t.length<=100000)(z:t≠[])(hw:∀b∈t,b7 b=ro):aj x7 Lg [p] w λv I=>Ext w I/\∃n:Int,v= .tuple #[Δ 1,Δ n,Δ 0]:=by
 have A:=EP z hw;refine az func269 ?_;refine(EQ h x y).X ?_;rintro _ J _ ⟨B,g,R,rfl,G,j,H⟩;rw[A]at j;refine⟨λ_ _ _ a V=>af (λr=>r=g) J V/\((a=Δ 0/\iT V g R [t] ro)\/(a=Δ 1/\iT V g R [] ro)),λ_ _ _ a _=>1-(b0 a).toNat,⟨af.refl _ _,.inl ⟨rfl,j⟩⟩,?_⟩;rintro _ _ _ _ V ⟨q,⟨rfl,e⟩|⟨rfl,e⟩⟩
 .refine (sH e).X ?_;rintro v C _ ⟨f,E,n,rfl⟩;rw[gX,gY,gZ,bh,ai];refine⟨λ_=>?_,λh=>m6 rfl h⟩;rw[aM,lm Ω Ω];exact⟨⟨q.F f,.inr ⟨rfl,E⟩⟩,by simp[b0]⟩
 .refine (sH e).X ?_;rintro v C _ ⟨f,n,rfl⟩;rw[gX,gY,gZ,bh,ai];refine⟨λh=>by simp at h,λ_=>?_⟩;rw[bh,ai];refine⟨λh=>by simp at h,λ_=>?_⟩;have s:=B.then (q.F f) (λr K he=>by have he:r=g:=he;omega);rw[aS cS.u (h.W s)];exact⟨s,_,rfl⟩
theorem PA(a:Bytes t)(e:t.length<=100000)(f:t≠[])(hw:∀b∈t,b7 b=ro):aj x7 KE [cc t] w λv I=>v= .bool ro/\Ext w I:=by
 have x:=EP f hw;refine az func211 ?_;refine xW dd.u cS.u cM.u a Ω λbv J j y _=>?_;refine(Pz y a e f hw).X ?_;rintro _ V _ ⟨p,n,rfl⟩;rw[gX,gY,gZ];refine xW dd.u cS.u cM.u a Ω λK L q z _=>?_;refine(EQ z a e).X ?_;rintro _ M _ ⟨A,g,R,rfl,N,s,O⟩;rw[x]at s;refine(sH s).X ?_;rintro _ B _ ⟨C,_,m,rfl⟩;rw[gX,gY,gZ];have E:=(((j.F p).F (q.F A))).then C (λr P he=>by
  have he:r=g:=he;have:=j.size;have:=p.size;have:=q.size;omega)
 refine aV (λv G=>B=G/\v= .bool ro) ?_ ?_
 .rintro _ _ ⟨rfl,rfl⟩;exact⟨rfl,E⟩
 .intro ay H;rw[bh,ai];refine⟨λ_=>?_,λh=>m6 rfl h⟩;rw[bh,ai];refine⟨λ_=>?_,λh=>m6 rfl h⟩;rw[CH a a];exact H _ _ ⟨rfl,by rw[m7 rfl]⟩
theorem PB{x:Int}:aj x7 xz [Δ x] w λv I=>v= .bool (decide (¬jE x))/\Ext w I:=by
 refine az func210 ?_;refine aV (λv J=>w=J/\v= .bool (decide (¬jE x))) ?_ ?_
 .rintro _ _ ⟨rfl,rfl⟩;exact⟨rfl,Ext.refl _⟩
 .intro ay e;rw[aP,ai];refine⟨λh=>e _ _ ⟨rfl,by rw[m7];intro a;have:=a.1;omega⟩,λh=>?_⟩;rw[bL];refine e _ _ ⟨rfl,?_⟩;congr 1;rw[T1,pl,pl];exact⟨λf a=>by have:=a.2;omega,λf=>by
   by_cases j:32<x
   .exact j
   .exact m6 ⟨Ω,Ω⟩ f⟩
theorem PC(h:aI .i64 w sv l)(f:∀x∈l,jE x):
  aj x7 uw [sv,.func (.func xz) #[] #[]] w λv I=>v= .bool rs/\Ext w I:=by
 refine az func163 ?_;refine aj.X (K:=λv I=>v=Δ (-1)/\Ext w I) ?_ ?_
 .refine az func239 ?_;rw[aS al.u h];refine b2.range l.length (λ_ _ J=>Ext w J) h.le (Ext.refl _) ?_ ?_
  .rintro i _ J k hi a hk;refine bC Ω ?_;obtain⟨x,e⟩:=aF (l:=l) hi;rw[be al.u ae.i Ψ (h.W a) e];show aj x7 xz [Δ x] J _;refine PB.X ?_;rintro _ V _ ⟨rfl,j⟩;rw[ai];refine⟨λp=>m6 (f x (x5 e)) p,λ_=>?_⟩;rw[aM];exact hk _ _ (a.F j)
  .rintro _ J k a;rw[aP,ai];exact⟨λh=>Ω,λ_=>⟨rfl,a⟩⟩
 .rintro _ J _ ⟨rfl,a⟩;rw[cI];exact⟨rfl,a⟩
theorem vC{m:Bool}{S R:ah}{d:iB}(h:aq.rep m S R w cs d):∃sv g a aN gs,cs=[sv,Γ g]/\aI .i64 w sv d.1/\gq w g a aN gs d.2.szs d.2.k d.2.o d.2.D:=by
 obtain⟨c,e,A,B,rfl,_,_,_,h1,f⟩:=h;have h1:=h1;obtain⟨u,rfl⟩:=X6.1 (show c.length=1 from aq.len h1);obtain⟨g,m,sv,gs,rfl,j,_⟩:=f;exact⟨u,g,m,sv,gs,rfl,fw h1,j⟩
theorem PD{X:Nat}{f:b5}{d:iB}{x:cq}{m:Bool}{S R:ah}(an:m4 w X f)(ao:fh N f)(ap:x∈f.d7)(au:s3 f.k x d)(av:aq.rep m S R w cs d):
  aj x7 Lh [Γ X,.agg cs.toArray] w λv I=>v= .bool ro/\Ext w I:=by
 obtain⟨d9,aJ,gz,aL,Y,Z,_,_⟩:=an;obtain⟨sv,ad,aO,aN,gs,rfl,s,L⟩:=vC av;obtain⟨aw,aa,aA,aR,aT,aU⟩:=au;obtain⟨G,aW,aY⟩:=ao.d7 x ap;rw[aw]at s;refine az func271 ?_;refine bm λak J aZ A H=>?_;have H:ag J ak cN [sv,Γ ad]:=by obtain⟨_,_,_,rfl⟩:=cP s;exact H
 refine aV (λv V=>Ext J V/\v= .bool rs) ?_ ?_
 rotate_left
 .intro ay M;intro V q _ _;have z:=H.W q;rw[aQ cN.p 1 z rfl,cW fd.u];simp only[j0,aX];rw[aQ cN.p 1 z rfl,aK cG.p 1 (Y.W (A.F q)) rfl];refine(NJ (L.W (A.F q)).is).X ?_;rintro _ B _ ⟨rfl,a⟩;refine⟨.inl a,?_⟩;rw[bJ,ai];refine⟨λh=>m6 aA h,λ_=>?_⟩;have C:=z.W a;have O:=q.F a;rw[aQ cN.p 1 C rfl,aQ cN.p 0 C rfl,aS al.u (s.W (A.F O))];refine(NK (L.W (A.F O)).is).X ?_;rintro _ K _ ⟨rfl,e⟩;refine⟨.inl e,?_⟩;rw[bJ];refine M _ _ ⟨O.F e,?_⟩;rw[ms];intro h;exact h (by rw[aa,G.co,o4])
 rintro _ V ⟨q,rfl⟩;rw[aX];have z:=H.W q;have P:=A.F q;rw[aQ cN.p 0 z rfl,aS al.u (s.W P)];refine b2.range x.scope.length (λ_ _ B=>Ext V B) Ω (Ext.refl _) ?_ ?_
 rotate_left
 .rintro _ B k a;rw[aP,ai];exact⟨λh=>Ω,λ_=>⟨rfl,P.F a⟩⟩
 rintro i _ B k hi a hk;obtain⟨v,E⟩:=aF (l:=x.scope) hi;have a1:=G.scope.2 v (x5 E);have Q:=P.F a;have C:=z.W a;have ab:=Y.W Q;have aB:f.co[v.toNat]?=σ (f.co.getD v.toNat 0):=by
  rw[u5,x6 Ω];rfl
 refine bC Ω ?_;rw[be al.u ae.i Ψ (s.W Q) E];refine aV (λb K=>Ext B K/\b= .bool rs) ?_ ?_
 .rintro _ K ⟨e,rfl⟩;rw[aX,aM];exact hk _ _ (a.F e)
 .intro ay M;intro K e _ _;have U:=Q.F e;refine ci Ω ?_;rw[aK cG.p 2 (ab.W e) rfl,aS al.u (Z.ls.W U),cI,ai];refine⟨λh=>Ω,λ_=>?_⟩;rw[aQ cN.p 0 (C.W e) rfl];refine(EJ (s.W U)).X ?_;rintro _ a2 _ ⟨ac,r,rfl,aC⟩;have aD:r=(i:Int):=(aC i E).2 λj a6 aE=>by have:=mV G.scope.1 aE E;omega
  subst aD;have af:=U.F ac;have W:=e.F ac;rw[bJ,ai];refine⟨λh=>m6 rfl h,λ_=>?_⟩;rw[aQ cN.p 1 (C.W W) rfl,aK cG.p 2 (ab.W W) rfl];refine pP (y:=v) (i:=v.toNat) Ω al.u ae.i (Z.ls.W af) aB λb o aG=>?_;rw[ax Ψ aG];refine(yr (L.W af).is).X ?_;rintro a7 a8 _ ⟨am,ba,bb,aH⟩;refine⟨.inl am,?_⟩;have aI:d.2.szs[i]?=σ (f.co.getD v.toNat 0):=by
   rw[aa,G.co,x8,E];rfl
  rw[be al.u ae.i Ψ aH.ls aI,bJ];exact M _ _ ⟨W.F am,by rw[ms (λh=>h rfl)]⟩
theorem PE{f:b5}{d:iB}{x:cq}{m:Bool}{S R:ah}(q:m4 w j f)(r:fh N f)(s:x∈f.d7)(y:s3 f.k x d)(a:aq.rep m S R w cs d):
  aj x7 xA [Γ j,.agg cs.toArray] w λv I=>v= .bool rs/\Ext w I:=by
 refine az func214 ?_;refine bm λak J C e h=>?_;have z:cs.length=2:=aq.len a;have h:ag J ak cN cs:=by
  obtain⟨sv,ad,E,aN,gs,rfl,A,G⟩:=vC a;obtain⟨_,_,_,rfl⟩:=cP A;exact h
 rw[bB cN.p cN.i z h.range];refine(PD (q.W e) r s y (b6 a e)).X ?_;rintro _ V _ ⟨rfl,B⟩;rw[bA];exact⟨rfl,e.F B⟩
theorem PF{f:b5}{r:x1}{e:List iB}{m:Bool}{S R:ah}(A:m4 w j f)(B:fh N f)(q:aq.rep m S R w [r] e)(s:vz f.k f.d7 e):
  aj x7 KG [r,.func (.func xA) #[Γ j] #[]] w λv I=>v= .bool rs/\Ext w I:=by
 refine az func213 ?_;refine aj.X (K:=λv I=>v=Δ (-1)/\Ext w I) ?_ ?_
 .refine az func270 ?_;rw[kB dQ.u q];refine b2.range e.length (λ_ _ J=>Ext w J) (uI q) (Ext.refl _) ?_ ?_
  .rintro i _ J k hi a hk;refine bC Ω ?_;obtain⟨d,y⟩:=aF (l:=e) hi;obtain⟨x,z⟩:∃x,f.d7[i]?=σ x:=⟨_,x6 (by have:=s.1;omega)⟩;refine pL (α:=iB) cN.p rfl dQ.u cN.i (b6 q a) y λcs C=>?_;show aj x7 xA [Γ j,.agg cs.toArray] J _;refine(PE (A.W a) B (x5 z) (s.2 i x d z y) C).X ?_;rintro _ V _ ⟨rfl,E⟩;rw[aX,aM];exact hk _ _ (a.F E)
  .rintro _ J k a;rw[aP,ai];exact⟨λh=>Ω,λ_=>⟨rfl,a⟩⟩
 .rintro _ J _ ⟨rfl,a⟩;rw[cI];exact⟨rfl,a⟩
def jM(a:List cq):Nat:=(a.map λx=>x.lines.length).sum
theorem PG{ag:Nat}{f:b5}(ah:m4 w ag f)(r:fh N f)(bd:N<=60000)(W:f.name≠[]/\∀b∈f.name,b7 b=ro):
  aj x7 JN [Γ ag] w λv I=>Ext w I/\∃e:Int,v=Δ e/\(jM f.d7<=16384->e=0):=by
 obtain⟨d9,bf,gz,y,A,X,Y,B⟩:=id ah;have bg:=r.name;have aC:Bytes f.name:=λb aD=>by
  have:=rc (W.2 b aD);omega
 refine az func129 ?_;rw[cW xE.u];simp only[j0,aX];refine aV (λv J=>Ext w J/\v= .bool rs) ?_ ?_
 rotate_left
 .intro ay s;rw[aK cG.p 0 A rfl];refine(PA aC Ω W.1 W.2).X ?_;rintro _ J _ ⟨rfl,q⟩;rw[bA,Y6,aX];rw[aK cG.p 2 (A.W q) rfl,aS al.u (X.ls.W q),bh,ai];refine⟨λh=>by have:=r.co.1;omega,λ_=>?_⟩;rw[aK cG.p 2 (A.W q) rfl];refine(PC (X.ls.W q) r.co.2.2).X ?_;rintro _ V _ ⟨rfl,C⟩;have am:=q.F C;rw[aX,aK cG.p 1 (A.W am) rfl];refine Cm.X ?_;rintro _ E _ ⟨rfl,G⟩;have O:=am.F G;rw[m7 (show right f.k from r.k),bA,Y6,aX,aK cG.p 3 (A.W O) rfl,j1];refine(PF (ah.W O) r (b6 Y O) B).X ?_;rintro _ an _ ⟨rfl,aE⟩;exact s _ _ ⟨O.F aE,rfl⟩
 rintro _ J ⟨q,rfl⟩;rw[aX];have P:=A.W q;refine aV (λv V=>J=V/\v= .bool rs) ?_ ?_
 rotate_left
 .intro ay s;rw[aK cG.p 0 P rfl,pR dd.u,bL,ai];refine⟨λh=>Ω,λ_=>?_⟩;rw[aK cG.p 2 P rfl,aS al.u (X.ls.W q),bL,ai];refine⟨λh=>by have:=r.co.2.1;omega,λ_=>?_⟩;rw[aK cG.p 3 P rfl,kB dQ.u (b6 Y q),bL];exact s _ _ ⟨rfl,by rw[ms];have:=r.mT;have:=B.1;omega⟩
 rintro _ _ ⟨rfl,rfl⟩;have aq:=b6 Y q;rw[aK cG.p 3 P rfl,kB dQ.u aq];refine⟨λaG aH Z V=>∃i n:Nat,Z=Δ (i:Int)/\i<=y.length/\aG=Δ (n:Int)/\aH= .bool rs/\Ext J V/\n<=jM (f.d7.take i)/\n<=i*60000,λ_ _ Z _=>y.length-(b0 Z).toNat,
  ⟨0,0,rfl,X7 _,rfl,rfl,Ext.refl _,X7 _,Ω⟩,?_⟩
 rintro _ _ _ V ⟨i,n,rfl,hi,rfl,rfl,C,aI,bi⟩;have bj:y.length<=256:=by rw[B.1];exact r.mT
 rw[aP,ai];refine⟨λau=>?_,λbk=>?_⟩
 .have au:i<y.length:=Ω
  obtain⟨d,av⟩:=aF (l:=y) au;obtain⟨x,aa⟩:∃x,f.d7[i]?=σ x:=⟨_,x6 (by have:=B.1;omega)⟩;have Q:=B.2 i x d aa av;obtain⟨R,aJ,aL⟩:=r.d7 x (x5 aa);have bl:=R.len;refine jA (λa b E=>Ext V E/\a=Δ ((n+d.2.D.length:Nat):Int)/\b= .bool rs) ?_ ?_
  .rintro _ _ E ⟨G,rfl,rfl⟩;rw[aM,lm Ω Ω];have aO:=Q.2.2.2.2.1;refine⟨⟨i+1,n+d.2.D.length,rfl,Ω,rfl,rfl,C.F G,?_,?_⟩,by simp only[b0];omega⟩
   .have e:jM (f.d7.take (i+1))=jM (f.d7.take i)+x.lines.length:=by
     unfold jM;rw[u7,aa,l9,l7,List.sum_append,U3,List.map_nil,List.sum_cons,List.sum_nil,Nat.add_zero]
    omega
   .have:(i+1)*60000=i*60000+60000:=Ω
    have bm:d.2.D.length<=60000:=Ω
    omega
  .intro ay s;refine pL (α:=iB) cN.p rfl dQ.u cN.i (b6 aq C) av λcs aR=>?_;obtain⟨sv,ad,bn,aN,gs,rfl,aT,ax⟩:=vC aR;refine bx cN.i λak E bo G aU=>?_;refine cb (vs:=[sv,Γ ad]) cN.i rfl rfl (by intro v S;simp at S;rcases S with rfl|rfl<;>first|exact aT.cells.2|rfl) aU λan aW bp aA=>?_;have ab:Ext V an:=G.put aW Ω;rw[aQ cN.p 1 aA rfl];refine(NI (ax.W ab).is).X ?_;rintro _ bq _ ⟨rfl,ac⟩;have aO:=Q.2.2.2.2.1;rw[aM,lm Ω Ω,aQ cN.p 1 (aA.W ac) rfl];refine(yr ((ax.W ab).W ac).is).X ?_;rintro br af _ ⟨aY,bs,bt,aB⟩;rw[aS al.u aB.ls];have bu:d.2.szs.length<=6:=by rw[Q.2.1,R.co,o4];exact aJ
   refine b2.range d.2.szs.length (λj out U=>Ext af U/\∃gr,af.heap.size<=gr/\ao .i64 ap U gr out (d.2.szs.take j)) Ω ⟨Ext.refl _,af.heap.size,p9 _,ao.nil _ _ _ _⟩ ?_ ?_
   .rintro j out U k aZ ⟨H,gr,a1,K⟩ hk;obtain⟨z,L⟩:=aF (l:=d.2.szs) aZ;refine bC Ω ?_;rw[be al.u ae.i Ψ (aB.ls.W H) L];refine dr aw.u ap.i rfl λa ga a2 bw M a6=>?_;refine jD aw.u ap.i rfl (K.W M) a6.ls Θ Θ λbz a7 bB bD a8 ba=>?_;have bE:=H.size;have bF:=M.size;rw[aM];refine hk _ _ ⟨(H.F M).put ba Ω,a7,Ω,?_⟩;rw[u7,L];exact a8
   .rintro out U k ⟨H,gr,a1,K⟩;rw[o6]at K;refine ci Ω ?_;rw[aX];have bb:d.2.szs=x.co:=Q.2.1;rw[bb]at K;refine(Dz K.ls λz L=>?_).X ?_
    .rw[R.co]at L;obtain⟨v,S,rfl⟩:=o8.1 L;have bG:=R.scope.2 v S;refine(r.co.2.2 _ ?_).1;rw[u5,x6 Ω];exact Q4 _
    .rintro _ a2 _ ⟨rfl,M⟩;refine s _ _ _ ⟨(((ab.F ac).F aY).F H).F M,by congr 1,by rw[aL]⟩
 .have bc:i=y.length:=Ω
  subst bc;rw[B.1,o6]at aI;refine aV (λv E=>V=E/\v= .bool (decide (16384<(n:Int)))) ?_ ?_
  .rintro _ _ ⟨rfl,rfl⟩;rw[ai];refine⟨λh=>⟨q.F C,5,rfl,λbH=>Ω⟩,λh=>⟨q.F C,0,rfl,λ_=>rfl⟩⟩
  .intro ay s;rw[aX,bL];exact s _ _ ⟨rfl,rfl⟩
theorem vD:∀{a b:Λ}{i:Nat},(∀(j:Nat)(x y:Int),j<i->a[j]?=σ x->b[j]?=σ y->x=y)->i<=a.length->i<=b.length->jK a b=jK (a.drop i) (b.drop i)
 |_,_,0,_,_,_=>Ξ
 |[],_,i+1,_,h,_=>by simp at h
 |_::_,[],i+1,_,_,h=>by simp at h
 |x::a,y::b,i+1,he,h1,e=>by
  have f:=he 0 x y Ω rfl rfl;subst f;simp only[jK,Int.lt_irrefl,if_false,List.drop_succ_cons];exact vD (λj u v r p q=>he (j+1) u v Ω p q) (by simpa using h1) (by simpa using e)
theorem ER{x:Int}:aj x7 cmp_isNaN_int [Δ x] w λv I=>v= .bool rs/\Ext w I:=by
 refine az func227 ?_;simp only[bJ];exact⟨Ξ,Ext.refl _⟩
theorem ES{x:Int}:aj x7 JU [Δ x,Δ y] w λv I=>v=Δ (if x<y then-1 else if y<x then 1 else 0)/\Ext w I:=by
 refine az func141 ?_;refine ER.X ?_;rintro _ J _ ⟨rfl,a⟩;refine ER.X ?_;rintro _ V _ ⟨rfl,e⟩;simp only[aX,aP,bL,ai];exact⟨λh=>⟨by rw[m3 h],a.F e⟩,λh=>⟨λf=>⟨by rw[m5 h,m3 f],a.F e⟩,λf=>⟨by rw[m5 h,m5 f],a.F e⟩⟩⟩
theorem PH{a b:Λ}(r:aI .i64 w bw a)(z:aI .i64 w bv b):aj x7 JV [bw,bv] w λv I=>v=Δ (jK a b)/\Ext w I:=by
 refine az func142 ?_;have aa:=r.le;rw[aS al.u r];refine⟨λ_ A J=>∃i:Nat,A=Δ (i:Int)/\i<=a.length/\i<=b.length/\Ext w J/\∀(j:Nat)(x y:Int),j<i->a[j]?=σ x->b[j]?=σ y->x=y,λ_ A _=>a.length-(b0 A).toNat,⟨0,rfl,X7 _,X7 _,Ext.refl _,λj x y P=>Ω⟩,?_⟩;rintro _ _ J ⟨i,rfl,Q,R,f,K⟩;have p:=vD K Q R;simp only[aP,ai];refine⟨λs=>?_,λab=>?_⟩
 .have s:i<a.length:=Ω
  obtain⟨x,B⟩:=aF (l:=a) s;have L:a.drop i=x::a.drop (i+1):=by rw[X1 s,(x4.1 B).2]
  rw[be al.u ae.i Ψ (r.W f) B,aS al.u (z.W f)];simp only[cI,ai];refine⟨λh=>?_,λh=>?_⟩
  .have:b.drop i=[]:=by rw[List.drop_eq_nil_iff];omega
   rw[this,L]at p;exact⟨by rw[p];rfl,f⟩
  have C:i<b.length:=Ω
  obtain⟨y,E⟩:=aF (l:=b) C;have S:b.drop i=y::b.drop (i+1):=by rw[X1 C,(x4.1 E).2]
  rw[be al.u ae.i Ψ (z.W f) E];refine ES.X ?_;rintro _ V _ ⟨rfl,M⟩;rw[L,S]at p;simp only[jK]at p;simp only[bJ,ai,aM];refine⟨λN=>⟨?_,f.F M⟩,λU=>?_⟩
  .rw[p];by_cases h1:x<y
   .rw[m3 h1,m3 h1]
   .by_cases q:y<x
    .rw[m5 h1,m3 q,m5 h1,m3 q]
    .rw[m5 h1,m5 q]at N;exact m6 rfl N
  .rw[lm Ω Ω];refine⟨⟨i+1,rfl,s,C,f.F M,λj W X P G H=>?_⟩,by simp only[b0];omega⟩;by_cases Y:j=i
   .subst Y;rw[B]at G;rw[E]at H;cases G;cases H;have O:=Z6.1 U;by_cases h1:x<y
    .rw[m3 h1]at O;omega
    .by_cases q:y<x
     .rw[m5 h1,m3 q]at O;omega
     .omega
   .exact K j W X Ω G H
 .have Z:i=a.length:=Ω
  subst Z;rw[List.drop_length]at p;rw[aS al.u (r.W f),aS al.u (z.W f)];simp only[aP,ai];refine⟨λh=>⟨?_,f⟩,λh=>⟨?_,f⟩⟩
  .obtain⟨y,l,e⟩:∃y l,b.drop a.length=y::l:=⟨_,_,X1 Ω⟩;rw[p,e];rfl
  .have:b.drop a.length=[]:=by rw[List.drop_eq_nil_iff];omega
   rw[p,this];rfl
theorem PI{x:Int}{f:x1}(h:aI .i64 w f [x,y]):aj x7 JT [f] w λv I=>v=Δ (if x≠0 then x else y)/\Ext w I:=by
 refine az func140 ?_;rw[aS al.u h];refine b2.range 2 (λi _ J=>Ext w J/\(1<=i->x=0)/\(2<=i->y=0)) Ω ⟨Ext.refl _,Ω,Ω⟩ ?_ ?_
 .rintro i _ J k hi ⟨a,h1,e⟩ hk;rw[aP,ai];refine⟨λ_=>?_,λh=>by simp at h;omega⟩
  match i,hi,h1,e,hk with
  |0,_,h1,e,hk=>
   rw[be al.u ae.i Ψ (h.W a) rfl,bJ,ai];refine⟨λj=>⟨by rw[m3 j],a⟩,λhe=>?_⟩;rw[aM];exact hk _ _ ⟨a,λ_=>Z6.1 he,λh=>Ω⟩
  |1,_,h1,e,hk=>
   rw[be al.u ae.i Ψ (h.W a) rfl,bJ,ai];have p:=h1 (p9 _);refine⟨λj=>⟨by rw[m5 Ω],a⟩,λhe=>?_⟩;rw[aM];exact hk _ _ ⟨a,λ_=>p,λ_=>Z6.1 he⟩
 .rintro _ J k ⟨a,h1,e⟩;have p:=h1 Ω;have q:=e Ω;rw[aP,ai];exact⟨λh=>by simp at h,λ_=>⟨by rw[m5 Ω,q],a⟩⟩
structure cw where
 sv:x1
 g:Nat
 sc:Λ
 cs:Λ
def fk(h:cw):List x1:=[h.sv,Γ h.g]
abbrev ly(h:cw):x1:=.agg (fk h).toArray
def s5(h:cw):Int:=dt h.sc
def ke(w:x3)(a:Nat)(h:cw):Prop:=(∃e,ao .i64 ae w e h.sv h.sc)/\(∀r,li h.sv r->r≠a)/\l3 h.sc
theorem ke.aa{h:cw}(an:ke w a h)(e:af S w I)(f:∀r,li h.sv r->¬S r):ke I a h:=by
 obtain⟨⟨j,hm⟩,p⟩:=an;exact⟨⟨j,bk hm e f⟩,p⟩
theorem ke.one{e:Nat}{h:cw}(an:ke w e h):∀u∈fk h,u.oneCell'=ro:=by
 obtain⟨⟨f,hm⟩,_⟩:=an;intro u a;simp[fk]at a;rcases a with rfl|rfl
 .exact hm.ls.cells.2
 .rfl
def fs(w:x3)(g:Nat)(v:x1)(L:List cw):Prop:=bj fk 2 db w g v L/\∀h∈L,ke w g h
theorem fs.W{g:Nat}{L:List cw}(h:fs w g v L)(a:Ext w I):fs I g v L:=⟨h.1.W a,λx e=>(h.2 x e).aa (a.aa λ_=>False) λ_ _ h=>h⟩
theorem fs.at{g:Nat}{L:List cw}(h:fs w g v L){i:Nat}{x:cw}(hi:L[i]?=σ x):ke w g x:=h.2 x (x5 hi)
theorem vE{g:Nat}{L:List cw}{i:Nat}{x:cw}{K:x1->Prop}(a:y=(i:Int))(h:fs w g v L)(hi:L[i]?=σ x):
  ab x7 (j4 gF v (Δ y)) w (λp=>ab x7 (u4 db p) w K)=K (ly x):=by
 rw[dm a gF.u db.i h.1 (x4.1 hi).1,bB db.p db.i rfl (h.1.range hi)]
theorem PJ{g:Nat}{L:List cw}{i:Nat}{x:cw}{K:Unit->x3->Prop}(j:y=(i:Int))(h:fs w g v L)(hi:i<L.length)(hk:ke w g x)(q:∀I,af (λr=>lc v r) w I->fs I g v (L.set i x)->K () I):ab x7 (j4 gF v (Δ y)) w λp=>aC x7 (o7 db p (ly x)) w K:=by
 rw[dm j gF.u db.i h.1 hi];refine NL db.i h.1 rfl hk.one hi λI e _ bi=>q I e ⟨bi,λz a=>?_⟩;rcases T8 a with a|rfl
 .exact (h.2 z a).aa e λr f he=>(h.2 z a).2.1 r f (h.1.li he).1
 .exact hk.aa e λr f he=>hk.2.1 r f (h.1.li he).1
abbrev PK:x1:=.func (.func BM) #[] #[]
def yQ(a b:cw):Int:=let c:Int:=if(a.sc.length:Int)<b.sc.length then-1 else if(b.sc.length:Int)<a.sc.length then 1 else 0
 if c≠0 then c else jK a.sc b.sc
theorem PL{a b:cw}(f:l3 a.sc)(j:l3 b.sc):yQ a b<0↔s5 a<s5 b:=by
 have p:=(yE f j).1;unfold s5 yQ;simp only;generalize q:(if(a.sc.length:Int)<b.sc.length then(-1:Int)else if(b.sc.length:Int)<a.sc.length then 1 else 0)=c;rw[p,<-q];by_cases h1:(a.sc.length:Int)<b.sc.length
 .rw[m3 h1,m3 Ω];exact⟨λ_=>.inl Ω,λ_=>Ω⟩
 .by_cases e:(b.sc.length:Int)<a.sc.length
  .rw[m5 h1,m3 e,m3 Ω];exact⟨λh=>Ω,λh=>by rcases h with h|h<;>omega⟩
  .rw[m5 h1,m5 e,m5 Ω];exact⟨λh=>.inr ⟨Ω,h⟩,λh=>by rcases h with h|h;omega;exact h.2⟩
theorem PM{y:Nat}{a b:cw}(A:ke w y a)(B:ke w y b):aj x7 BM [ly a,ly b] w λv I=>Ext w I/\v=Δ (yQ a b):=by
 obtain⟨⟨ga,r⟩,_,M⟩:=A;obtain⟨⟨N,s⟩,_,O⟩:=B;refine az func139 ?_;refine bm λg1 J P C h=>?_;refine bm λE V Q z j=>?_;have h:ag J g1 db [a.sv,Γ a.g]:=by
  obtain⟨_,_,_,e⟩:=cP r.ls;simp only[ly,fk,e]at h ⊢;exact h
 have j:ag V E db [b.sv,Γ b.g]:=by
  obtain⟨_,_,_,e⟩:=cP s.ls;simp only[ly,fk,e]at j ⊢;exact j
 intro R x _ _;have f:=(C.F z).F x;have f1:=(h.W z).W x;have f2:=j.W x;rw[aQ db.p 0 f1 rfl,aS al.u (r.ls.W f),aQ db.p 0 f2 rfl,aS al.u (s.ls.W f),
  aQ db.p 0 f1 rfl,aQ db.p 0 f2 rfl]
 refine ES.X ?_;rintro _ S _ ⟨rfl,q⟩;refine⟨.inl q,?_⟩;refine(PH ((r.ls.W f).W q) ((s.ls.W f).W q)).X ?_;rintro _ U _ ⟨rfl,G⟩;refine uR (l:=[if(a.sc.length:Int)<b.sc.length then(-1:Int)else if(b.sc.length:Int)<a.sc.length then 1 else 0,jK a.sc b.sc]) al.u ae.i Ω rfl Ψ λW X Y Z H K=>?_;refine(PI K.ls).X ?_;rintro _ aa _ ⟨rfl,L⟩;exact⟨((((f.F q).F G).F H).F L),rfl⟩
theorem PN{g:Nat}{L:List cw}(h:fs w g v L)(E:L.length<65536):
  aj x7 JS [v,PK] w λ_ I=>af (λr=>lc v r) w I/\∃M,M.Perm L/\vl s5 M 0 M.length/\fs I g v M:=by
 have j:∀{s:x3}{a:cw},af (λr=>r=g) w s->ke w g a->ke s g a:=λf e=>e.aa f λr z he=>e.2.1 r z he;refine(DY NV (G:=ke w g) (num:=s5) N1 N2 (λa e=>e.one) (λa _=>rfl) (λa b e A=>PL e.2.2 A.2.2) (Enters.of x7 N3 rfl Ψ) h.1 h.2 E λs a b f e A=>PM (j f e) (j f A)).X ?_;rintro _ I _ ⟨f,M,C,H,hm⟩;have J:af (λr=>r=g) w I:=f.X λr _ z=>(h.1.li z).1;exact⟨f,M,C,λp q x y _ K _ B N=>H p q x y K B N,hm,λx B=>j J (h.2 x (C.mem_iff.1 B))⟩
theorem PO{m:Λ}(h:n3 l)(a:l.Nodup)(e:m.Perm l)(U:m.Pairwise (·<= ·)):m=bz l:=by
 refine yG ?_ (yD l) λx=>?_
 .have f:=e.nodup_iff.2 a;exact(List.Pairwise.and U f).imp Ω
 grind [Em]
theorem PP(h:∀z∈l,1<=z/\z<=32)(a:dD l=rs):aA l<=4096:=by
 have:=of_decide_eq_false a
 grind [yJ]
theorem PQ{f:b5}{d:iB}{x:cq}{m:Bool}{S R:ah}(h:fh N f)(bh:N<=60000)(P:x∈f.d7)(ax:s3 f.k x d)(ay:aq.rep m S R w cs d):
  aj x7 JO [.agg cs.toArray] w λv I=>Ext w I/\∃sv gs E Q W,v= .tuple #[sv,Γ E]/\w.heap.size<=gs/\ao .i64 ae I gs sv (bz x.scope)/\ce I E Q W (aB f.co (bz x.scope)) f.k (jG f.co f.k x).2:=by
 obtain⟨sv,ad,bi,aN,bj,rfl,G,aA⟩:=vC ay;obtain⟨aC,aD,aE,bk,bl,aG⟩:=ax;obtain⟨a,aH,aI⟩:=h.d7 x P;have Z:=vq a h.co.2.1;have bn:=a.len;rw[aC]at G;have aJ:∀z∈x.co,1<=z/\z<=32:=λz ab=>by
  rw[a.co]at ab;obtain⟨v,aK,rfl⟩:=o8.1 ab;have bq:=a.scope.2 v aK;refine h.co.2.2 _ ?_
  grind
 have aL:=PP aJ aI;have X:=vp Z a.scope.1;have br:(bz x.scope).length<=6:=by rw[X.length_eq];exact aH
 refine az func130 ?_;refine bm λak J bs ac y=>?_;have y:ag J ak cN [sv,Γ ad]:=by obtain⟨_,_,_,rfl⟩:=cP G;exact y
 rw[aQ cN.p 1 y rfl];refine(ED (aA.W ac).is Ω).X ?_;rintro _ V _ ⟨Y,_,A⟩;rw[aD]at A;obtain⟨g,bt,bu,aO,rfl,bw,bx,A,ai⟩:=A aL;rw[aE]at A;rw[bo,bp,aQ cN.p 0 (y.W Y) rfl];have B:=ac.F Y;refine yL (G.W B) Ω λv bA gs bB H bD aP U K=>?_;have aR:=PO Z a.scope.1 aP U;subst aR;have bE:=B.size;rw[aS al.u K.ls];refine ky al.u ae.i Ω Ω λgo aT bF L am=>?_;have bG:=ao.of (bZ.full (n:=(bz x.scope).length) am Ξ (by simp[maxLen];omega));rw[aS al.u (K.ls.W L)];have bH:=am.lt;have bI:(gp x.scope (bz x.scope)).length=(bz x.scope).length:=by simp[gp]
 have aU:=H.F L;have bJ:=B.F aU;refine cm.range (bz x.scope).length (λi M=>af (λr=>r=go) aT M/\ao .i64 ae M go (.slice (σ ⟨go,0,ν⟩) (bz x.scope).length (bz x.scope).length) ((gp x.scope (bz x.scope)).take i++r8 ((bz x.scope).length-i) 0)) Ω (by grind [af.refl]) ?_ ?_
 .rintro i M k hi ⟨O,C⟩ hk;obtain⟨v,an⟩:=aF (l:=(bz x.scope)) hi;have q:=L.put O Ω;have aV:=(B.F H).F q;have aW:v∈x.scope:=X.mem_iff.1 (x5 an);refine bC Ω ?_;rw[be al.u ae.i Ψ (K.ls.W q) an];have aX:=(Y.F H).F q;rw[aQ cN.p 0 (y.W aX) rfl];refine(EJ (G.W aV)).X ?_;rintro _ aY _ ⟨s,r,rfl,aZ⟩;have ap:=vu aW;have bK:=(aZ _ ap).2 λj bL a1=>by have:=mV a.scope.1 a1 ap;omega
  rw[iy rfl al.u ae.i (C.W s) (by grind)];refine iz ae.i (C.W s) (by grind) λbM a2 bN bO=>?_;rw[aM];refine hk _ ⟨(O.F (s.aa _)).F a2,?_⟩;have a6:(gp x.scope (bz x.scope))[i]?=σ r:=by grind [OO]
  have e:((gp x.scope (bz x.scope)).take i++r8 ((bz x.scope).length-i) 0).set i r=(gp x.scope (bz x.scope)).take (i+1)++r8 ((bz x.scope).length-(i+1)) 0:=by
   have a7:((gp x.scope (bz x.scope)).take i).length=i:=by grind
   rw[Q1 _ _ Ω,a7,U5,show(bz x.scope).length-i=((bz x.scope).length-(i+1))+1 by omega,List.replicate_succ,List.set_cons_zero,u7,a6,l9,X0];rfl
  grind
 .rintro M k ⟨O,C⟩;have q:=L.put O Ω;have au:=H.F q;refine ci Ω ?_;rw[U5,List.replicate_zero,V1,n9 Ω]at C;have a8:∀t,cX x.co t->bg x.co aO t=lp x f.k t:=λt ba=>by rw[ai.2 t ba];exact aG t
  obtain⟨av,bb⟩:=OQ h P ai.1 a8;have bc:Good (gp x.scope (bz x.scope)) x.co.length:=by
   rw[a.co,o4];exact vv a.scope.1 X
  have bd:=(ry h P);refine(Px (A.W au) h.k C.ls Ω λ_=>?_).X ?_
  .rw[av];exact bd.small
  .rintro _ aY _ ⟨s,_,bf⟩;obtain⟨E,Q,W,rfl,aw⟩:=bf bc;rw[bo,bp];rw[av,bb]at aw;exact⟨(B.F au).F s,v,gs,E,Q,W,rfl,Ω,(K.W q).W s,aw⟩
theorem PR{P:X5}{t x f:r9}{k y g o cap:Nat}(h:P.underlying t=σ (.slice e))(hi:aR P e k y z)(A:z.cells.size=k)(h1:∀u∈ea z.cells (n*k),u.oneCell'=ro)(a:ag w g f cs)(H:o+n*k<=cs.length)(p:∀I,af (λr=>r=g) w I->ag I g f (over cs o (ea z.cells (n*k)))->K (.tuple #[]) I):aC P (j9.clear_ #[t] x #[.slice (σ ⟨g,o,ν⟩) n cap]) w K:=by
 obtain⟨i,hi,J,rfl,B⟩:=hi;have C:∀w,(zeroValue e).run P w= .ok z w:=λw=>by simp[zeroValue,typeInfo,hi,B]
 have E:(S8 z.cells n).toList=ea z.cells (n*k):=by
  unfold S8 ea;rw[A]
 have q:=run_storeCells_cells (P:=P) g o (ea z.cells (n*k)) 0 w (λj F=>by
   rw[qY]at F;rw[Nat.add_zero,a.cell (x6 (show o+j<cs.length by omega))];rfl) (λj _=>a.frozen _ _) h1
 simp only[Nat.add_zero]at q;obtain⟨G,s⟩:=nO (ea z.cells (n*k)) cs o w a;rcases Nat.eq_zero_or_pos n with rfl|L
 .refine .of (by simp[j9.clear_,run_underlying h]) (cC.refl _) (p w (af.refl _ _) ?_);rw[Nat.zero_mul,Z0 (qY z.cells 0)];exact a
 .obtain⟨m,rfl⟩:∃m,n=m+1:=⟨n-1,Ω⟩;refine .of (by simp[j9.clear_,run_underlying h,C,E,q]) (s.cD a) (p _ s.aa G)
theorem dN{α:Type}{f:α->List x1}{k:Nat}{g:Nat}{L:List α}(h:bj f k e w g v L)(j:lc v r):r=g/\∃cs,ag w g e cs:=by
 obtain⟨_,⟨rfl,_⟩|⟨cap,cs,rfl,p,_⟩⟩:=h.1
 .exact (gm j).elim
 .obtain⟨a,n,c,h1,q⟩:=j;cases h1;exact⟨q.symm,cs,p⟩
theorem PS{α:Type}{f:α->List x1}{k:Nat}{g:Nat}{L:List α}(h:bj f k e w g v L)(a:L≠[]):∃cs n c,v= .slice (σ ⟨g,0,ν⟩) n c/\ag w g e cs:=by
 obtain⟨_,⟨rfl,j⟩|⟨cap,cs,rfl,p,_⟩⟩:=h.1
 .exact m6 (Z0 j) a
 .exact⟨cs,_,_,rfl,p⟩
theorem fs.mk{g:Nat}{L:List cw}(h:bj fk 2 db w g v L)(e:∀x∈L,(∃f,ao .i64 ae w f x.sv x.sc)/\l3 x.sc):fs w g v L:=by
 refine⟨h,λx a=>⟨(e x a).1,λr j=>?_,(e x a).2⟩⟩;obtain⟨cs,n,c,_,p⟩:=PS h (λq=>by rw[q]at a;cases a);obtain⟨⟨f,hm⟩,_⟩:=e x a;exact cj hm p Φ j
def Sem(w:x3)(k:Int)(co:Λ)(L:List cw):Prop:=∀x∈L,∃a e,ce w x.g a e (aB co x.sc) k x.cs
theorem yR{g p:Nat}{q:x1}{cs:Λ}(h:ce w g p q szs k cs)(e:af S w I)(f:∀r,S r->∃c,ag w r db c):ce I g p q szs k cs:=by
 obtain⟨⟨a1,gs,h1,s,x⟩,y⟩:=h;refine⟨⟨a1,gs,h1.aa e λU=>?_,bk s e λr j U=>?_,bk x e λr j U=>?_⟩,y⟩
 .obtain⟨c,a⟩:=f g U;unfold ag at h1 a;rw[h1]at a;have:=(Obj.cells.inj (Z7 a)).2.1;exact m6 this Φ
 .obtain⟨c,a⟩:=f r U;exact cj s a Φ j rfl
 .obtain⟨c,a⟩:=f r U;exact cj x a Φ j rfl
theorem Sem.W{L:List cw}(h:Sem w k co L)(a:Ext w I):Sem I k co L:=λx e=>by
 obtain⟨f,j,p⟩:=h x e;exact⟨f,j,p.W a⟩
theorem Sem.row{L M:List cw}{g:Nat}(h:Sem w k co L)(a:fs w g v M)(e:af (λr=>lc v r) w I):Sem I k co L:=λx f=>by
 obtain⟨j,p,q⟩:=h x f;exact⟨j,p,yR q e λr s=>by obtain⟨rfl,c,y⟩:=dN a.1 s;exact⟨c,y⟩⟩
def ed(h:cw):c4:=(h.sc,h.cs)
theorem PT{c:Int}:aj x7 xu [Δ c] w λv I=>v= .bool (decide (0<c))/\Ext w I:=by
 refine az func136 ?_;rw[bL];exact⟨rfl,Ext.refl _⟩
theorem PU(h:aI .i64 w sv l):
  aj x7 JQ [sv,.func (.func xu) #[] #[]] w λv I=>v= .bool (l.any λc=>decide (0<c))/\Ext w I:=by
 refine az func135 ?_;refine aj.X (K:=λv I=>Ext w I/\∃r:Int,v=Δ r/\(0<=r↔ ∃c∈l,0<c)) ?_ ?_
 .refine az func224 ?_;rw[aS aw.u h];refine b2.range l.length (λi _ J=>Ext w J/\∀c∈l.take i,¬0<c) h.le ⟨Ext.refl _,λc a=>by simp at a⟩ ?_ ?_
  .rintro i _ J k hi ⟨e,j⟩ hk;refine bC Ω ?_;obtain⟨x,p⟩:=aF (l:=l) hi;rw[be aw.u ap.i Ψ (h.W e) p];show aj x7 xu [Δ x] J _;refine PT.X ?_;rintro _ V _ ⟨rfl,q⟩;rw[ai];refine⟨λf=>⟨e.F q,i,rfl,⟨λ_=>⟨x,x5 p,f⟩,λ_=>Ω⟩⟩,λs=>?_⟩;rw[aM];refine hk _ _ ⟨e.F q,λc a=>?_⟩;rw[u7,p]at a;rcases o9.1 a with a|a
   .exact j c a
   .simp at a;subst a;exact s
  .rintro _ J k ⟨e,j⟩;rw[o6]at j;rw[aP,ai];exact⟨λh=>Ω,λ_=>⟨e,-1,rfl,⟨λh=>Ω,λ⟨c,a,f⟩=>m6 f (j c a)⟩⟩⟩
 .rintro _ J _ ⟨e,r,rfl,y⟩;rw[cI];refine⟨?_,e⟩;congr 1;rw[T1,pl,List.any_eq_true,y];exact⟨λ⟨c,a,f⟩=>⟨c,a,m7 f⟩,λ⟨c,a,f⟩=>⟨c,a,rc f⟩⟩
theorem ET{h:Nat}{x:cw}{q:x1}(r:ke w h x)(s:ce w x.g j q szs k x.cs):aj x7 sk [ly x] w λv I=>v= .bool (!gi (ed x))/\Ext w I:=by
 obtain⟨⟨B,hm⟩,_⟩:=r;refine az func134 ?_;refine bm λak J C f a=>?_;have a:ag J ak db [x.sv,Γ x.g]:=by
  obtain⟨_,_,_,e⟩:=cP hm.ls;simp only[ly,fk,e]at a ⊢;exact a
 rw[aQ db.p 1 a rfl];refine(nX (s.W f)).X ?_;rintro E V _ ⟨y,G,H,z⟩;refine(PU z.ls).X ?_;rintro _ K _ ⟨rfl,A⟩;rw[bA];exact⟨rfl,(f.F y).F A⟩
theorem PV{g:Nat}{L:List cw}(h:fs w g v L)(U:Sem w k co L):
  aj x7 BK [v,.func (.func sk) #[] #[]] w λr I=>Ext w I/\((r=Δ (-1)/\∀x∈L,gi (ed x)=ro)\/∃i:Nat,r=Δ (i:Int)/\i<L.length/\(∀x∈L.take i,gi (ed x)=ro)/\∀x,L[i]?=σ x->gi (ed x)=rs):=by
 refine az func131 ?_;rw[e3 gF.u h.1];refine b2.range L.length (λi _ J=>Ext w J/\∀x∈L.take i,gi (ed x)=ro) h.1.le ⟨Ext.refl _,λc a=>by simp at a⟩ ?_ ?_
 .rintro i _ J k hi ⟨e,f⟩ hk;refine bC Ω ?_;obtain⟨x,j⟩:=aF (l:=L) hi;rw[vE rfl (h.W e) j];show aj x7 sk [ly x] J _;obtain⟨B,C,s⟩:=U x (x5 j);refine(ET ((h.W e).at j) (s.W e)).X ?_;rintro _ V _ ⟨rfl,p⟩;rw[bU];refine⟨λz=>⟨e.F p,.inr ⟨i,rfl,hi,f,λy q=>by rw[j]at q;cases q;simpa using z⟩⟩,λA=>?_⟩;rw[aM];refine hk _ _ ⟨e.F p,λc a=>?_⟩;rw[u7,j]at a;rcases o9.1 a with a|a
  .exact f c a
  .simp at a;subst a;simpa using A
 .rintro _ J k ⟨e,f⟩;rw[o6]at f;rw[aP,ai];exact⟨λh=>Ω,λ_=>⟨e,.inl ⟨rfl,f⟩⟩⟩
def gv(x:cw):Bool:=gi (ed x)
theorem yS{L:List cw}{x:cw}(a:L[j]?=σ x):(L.take (j+1)).filter gv=if gv x=ro then(L.take j).filter gv++[x]else(L.take j).filter gv:=by
 rw[u7,a,l9,List.filter_append];by_cases h:gv x=ro
 .rw[m3 h];simp[h]
 .rw[m5 h];simp[h]
theorem EU{z:Array x1}(e:0<z.size)(h:∀u∈z.toList,u.oneCell'=ro):∀u∈ea z n,u.oneCell'=ro:=λu a=>by
 unfold ea at a;rw[Array.toList_map,o8]at a;obtain⟨i,_,rfl⟩:=a;have f:i % z.size<z.size:=Nat.mod_lt _ e;rw[getElem!_pos z (i % z.size) f];exact h _ Ξ
theorem PW{g:Nat}{L:List cw}(h:fs w g v L)(U:Sem w k co L)(bb:L.length<=100000):
  aj x7 JR [v,.func (.func sk) #[] #[]] w λf I=>af (λr=>lc v r) w I/\fs I g f (L.filter gv)/\∀r,lc f r->lc v r:=by
 refine az func137 ?_;refine(PV h U).X ?_;rintro r J _ ⟨G,q⟩;rcases q with⟨rfl,P⟩|⟨Q,rfl,aw,P,ax⟩
 .rw[bh,ai];refine⟨λ_=>⟨G.aa _,?_,λr q=>q⟩,λh=>m6 rfl h⟩;rw[List.filter_eq_self.2 (show∀x∈L,gv x=ro from P)];exact h.W G
 rw[bh,ai];refine⟨λh=>Ω,λ_=>?_⟩;rw[aM,lm Ω Ω];obtain⟨R,ad⟩:=aF (l:=L) aw;refine⟨λS W V=>∃(i j:Nat)(M:List cw),S=Δ (i:Int)/\W=Δ (j:Int)/\i<j/\j<=L.length/\M.length=L.length/\M.take i=(L.take j).filter gv/\M.drop j=L.drop j/\(∀x∈M,x∈L)/\fs V g v M/\af (λr=>lc v r) w V,
  λ_ W _=>L.length-(b0 W).toNat,⟨Q,Q+1,L,rfl,by congr 1,Ω,Ω,rfl,?_,rfl,λx s=>s,h.W G,G.aa _⟩,?_⟩
 .have aA:¬gv R=ro:=by rw[show gv R=rs from ax R ad];simp
  rw[yS ad,m5 aA,List.filter_eq_self.2 (show∀x∈L.take Q,gv x=ro from P)]
 rintro _ _ V ⟨i,j,M,rfl,rfl,bc,bd,ae,A,ag,ah,e,H⟩;have aB:Sem V k co L:=U.row h H;rw[e3 gF.u e.1,aP,ai];refine⟨λX=>?_,λbe=>?_⟩
 .have X:j<L.length:=Ω
  obtain⟨x,s⟩:=aF (l:=L) X;have K:M[j]?=σ x:=by
   have h1:(M.drop j)[0]?=(L.drop j)[0]?:=by rw[ag]
   rw[List.getElem?_drop,List.getElem?_drop,Nat.add_zero]at h1;rw[h1,s]
  have al:M.drop (j+1)=L.drop (j+1):=by
   have h1:(M.drop j).drop 1=(L.drop j).drop 1:=by rw[ag]
   rw[List.drop_drop,List.drop_drop]at h1;exact h1
  refine aV (λS N=>∃(C:Nat)(z:List cw),S=Δ (C:Int)/\C<j+1/\z.length=L.length/\z.take C=(L.take (j+1)).filter gv/\z.drop (j+1)=L.drop (j+1)/\(∀x∈z,x∈L)/\fs N g v z/\af (λr=>lc v r) w N) ?_ ?_
  .rintro _ N ⟨C,z,rfl,h1,Y,aD,aE,aG,aH,aI⟩;rw[aM,lm Ω Ω];exact⟨⟨C,j+1,z,rfl,rfl,h1,X,Y,aD,aE,aG,aH,aI⟩,by simp only[b0];omega⟩
  .intro ay am;rw[vE rfl e K];refine bx db.i λak N bf aJ aK=>?_;refine cb (vs:=fk x) db.i rfl rfl (e.at K).one aK λaL aN bg an=>?_;have Z:=aJ.put aN Ω;rw[bB db.p db.i rfl an.range];show aj x7 sk [ly x] aL _;obtain⟨bi,bj,aO⟩:=aB x (x5 s);refine(ET ((e.W Z).at K) (aO.W Z)).X ?_;rintro _ bk _ ⟨rfl,ao⟩;have E:=Z.F ao;rw[bA,Bool.not_not,bU];refine⟨λhk=>?_,λaQ=>?_⟩
   .rw[bB db.p db.i rfl (an.W ao).range];refine PJ rfl (e.W E) Ω ((e.W E).at K) λbl aR aS=>?_;rw[aM,lm Ω Ω];refine am _ _ ⟨i+1,M.set i x,rfl,Ω,by simp[ae],?_,?_,λy B=>?_,aS,(H.F (E.aa _)).F aR⟩
    .have ac:gv x=ro:=hk;rw[yS s,m3 ac,u7,Z3 Ω,l9,List.take_set_of_le (p9 _),A]
    .rw[List.drop_set_of_lt Ω,al]
    .rcases T8 B with B|rfl
     .exact ah y B
     .exact x5 s
   .have ac:¬gv x=ro:=by rw[show gv x=rs from aQ];simp
    exact am _ _ ⟨i,M,rfl,Ω,ae,by rw[yS s,m5 ac,A],al,ah,e.W E,H.F (E.aa _)⟩
 .have aT:j=L.length:=Ω
  subst aT;rw[o6]at A;obtain⟨⟨bm,aU⟩,ap⟩:=e.1;rcases aU with⟨_,bn⟩|⟨cap,cs,aW,aX,bo,aY,aZ,a1⟩
  .omega
  subst aW;have a2:(ab x7 (V4 gF (.slice (σ ⟨g,0,ν⟩) M.length cap) (σ (Δ (i:Int))) ν ν) V λa6=>
    aC x7 (j9.clear_ #[gF] LD #[a6]) V λu O=>
    ab x7 (V4 gF (.slice (σ ⟨g,0,ν⟩) M.length cap) ν (σ (Δ (i:Int))) ν) O λa7=>
    (λf I=>af (λr=>lc (.slice (σ ⟨g,0,ν⟩) M.length cap) r) w I/\fs I g f (L.filter gv)/\∀r,lc f r->lc (.slice (σ ⟨g,0,ν⟩) M.length cap) r) a7 O):=by
   rw[eA gF.u db.i (mI i _ rfl) gW dZ Ω Ω (p9 _),m5 Ω];simp only[Z4,W5];refine PR gF.u db.i rfl ?_ aX Ω λO aq a8=>?_
   .exact EU Φ Φ
   rw[eA gF.u db.i iP (nM i _ rfl) dZ Ω Ω (p9 _),m5 Ω];simp only[Z4,W5,Nat.zero_mul,W7,Nat.sub_zero];have ba:(ea (x1.agg #[.slice ν 0 0,.pointer ν]).cells ((M.length-i)*2)).length=(M.length-i)*2:=qY _ _;have bp:(M.flatMap fk).length=M.length*2:=lr ap;have au:(L.filter gv).length=i:=by rw[<-A,c7];omega
   have key:(λf I=>af (λr=>lc (.slice (σ ⟨g,0,ν⟩) M.length cap) r) w I/\fs I g f (L.filter gv)/\∀r,lc f r->lc (.slice (σ ⟨g,0,ν⟩) M.length cap) r) (.slice (σ ⟨g,0,ν⟩) (L.filter gv).length cap) O:=by
    refine⟨H.F (aq.X λr _ he=>⟨_,_,_,rfl,he.symm⟩),⟨⟨⟨lr (λy _=>rfl),.inr ⟨cap,_,rfl,a8,Ω,aY,by rw[gf,aZ],?_⟩⟩,λy _=>rfl⟩,λy B=>?_⟩,λr q=>?_⟩
    .rw[au,<-A,<-sS i ap,<-a1,List.take_take,nN (by rw[ba];omega),X0,List.take_append_of_le_length (by rw[c7];omega),List.take_take];congr 1;omega
    .have av:y∈M:=by rw[<-A]at B;exact U1 B
     exact(e.2 y av).aa aq λr q he=>(e.2 y av).2.1 r q he
    .obtain⟨a,n,c,h1,Y⟩:=q;cases h1;exact⟨_,_,_,rfl,Y⟩
   rw[au]at key;exact key
  exact a2
theorem s6{k:o5}{g cap:Nat}{b:Option Q0}(h:ao k e w g (.slice b n cap) l)(a:0<l.length):
  b=σ ⟨g,0,ν⟩/\n=l.length/\∃cs,ag w g e cs/\n<=cap/\cap<=maxLen/\cs.length=cap/\cs.take n=ints k l:=by
 obtain⟨_,⟨_,h1⟩|⟨f,cs,h1,j,p,q,r,s⟩⟩:=h
 all_goals grind
theorem PX{g cap:Nat}(h:ao .i64 ae w g (.slice (σ ⟨g,0,ν⟩) n cap) l)(e:j<l.length):aI .i64 w (.slice (σ ⟨g,j,ν⟩) (n-j) (cap-j)) (l.drop j):=by
 obtain⟨_,f,cs,a,h1,p,q,r⟩:=s6 h Ω;have:=CD (o:=j) (k:=n-j) (c:=cap-j) a Ω Ω Ω;refine aI.of (n:=n-j) ?_
 grind [List.drop_take,List.map_drop]
theorem EV{g:Nat}(h:ao .i64 ae w g sv l)(aN:l.length<=100000):
  aj x7 Kk [sv] w λv I=>af (λr=>r=g) w I/\ao .i64 ae I g v (dedup l l.length):=by
 refine az func177 ?_;rw[aS al.u h.ls];simp only[aP,ai];refine⟨λaO=>⟨af.refl _ _,?_⟩,λaQ=>?_⟩
 .grind [yO]
 obtain⟨n,N⟩:∃n,l.length=n:=⟨_,rfl⟩;obtain⟨cap,rfl⟩:∃cap,sv= .slice (σ ⟨g,0,ν⟩) n cap:=by
  obtain⟨_,⟨_,h1⟩|⟨aR,cs,h1,_⟩⟩:=id h
  all_goals grind
 obtain⟨_,_,_,_,aT,Y,_⟩:=s6 h Ω;refine⟨λ_ t J=>∃j:Nat,t=Δ (j:Int)/\1<=j/\j<=n/\Ext w J/\∀i,i<j->0<i->l[i]? ≠l[i-1]?,λ_ t _=>n-(b0 t).toNat,⟨1,rfl,Ω,Ω,Ext.refl _,Ω⟩,?_⟩;rintro aU _ J ⟨j,rfl,aW,Z,p,aX⟩;rw[aS al.u (h.ls.W p)];simp only[aP,ai,eu];refine⟨λab V ac _ _=>?_,λaY=>⟨p.aa _,?_⟩⟩
 .have ab:j<n:=Ω
  have s:=p.F ac;have O:=h.ls.W s;obtain⟨a,ad⟩:=aF (l:=l) (i:=j) Ω;obtain⟨b,ag⟩:=aF (l:=l) (i:=j-1) Ω;rw[be al.u ae.i Ψ O ad];simp only[dR];rw[lm Ω Ω,fm (i:=j-1) Ω al.u ae.i Ψ O ag];simp only[bh,ai,aM];refine⟨λP=>?_,λP=>?_⟩
  .subst P;rw[eA al.u ae.i lT gW dZ Ω Ω Ω,m5 Ω];have ah:W6 (λx:Q0=>x.add (j*1)) (σ ⟨g,0,ν⟩)=σ ⟨g,j,ν⟩:=by simp[W5]
   rw[ah];have ak:dedup l (j+1)=l.take j:=by grind [yM,yO]
   refine⟨λC t E=>∃(q e:Nat)(f:Λ),C=Δ (q:Int)/\t=Δ (e:Int)/\1<=e/\j+e<=n/\af (λr=>r=g) w E/\ao .i64 ae E g (.slice (σ ⟨g,0,ν⟩) n cap) f/\f.length=n/\
     q=(dedup l (j+e)).length/\f.take q=dedup l (j+e)/\q<=j+e-1/\∀i,j+e-1<=i->f[i]?=l[i]?,λ_ t _=>n-(b0 t).toNat,
    ⟨j,1,l,rfl,rfl,Ω,Ω,s.aa _,h.W s,N,by grind,by rw[ak],Ω,λi _=>rfl⟩,?_⟩
   rintro _ _ E ⟨q,e,f,rfl,rfl,aZ,a1,G,Q,am,an,R,ap,A⟩;rw[iv al.u];simp only[aP,ai,eu];refine⟨λS=>?_,λS=>?_⟩
   .have S:j+e<n:=Ω
    refine aV (λC H=>∃(q:Nat)(f:Λ),C=Δ (q:Int)/\af (λr=>r=g) w H/\ao .i64 ae H g (.slice (σ ⟨g,0,ν⟩) n cap) f/\f.length=n/\
     q=(dedup l (j+(e+1))).length/\f.take q=dedup l (j+(e+1))/\q<=j+(e+1)-1/\∀i,j+(e+1)-1<=i->f[i]?=l[i]?) ?_ ?_
    .rintro _ H ⟨q,f,rfl,h1,aq,au,av,aw,ax,aA⟩;simp only[aM];rw[lm Ω Ω];exact⟨⟨q,e+1,f,rfl,rfl,Ω,Ω,h1,aq,au,av,aw,ax,aA⟩,by simp only[b0];omega⟩
    .intro ay U a2 K _ _;have B:=Q.W K;have L:=PX (j:=j) B Ω;obtain⟨y,W⟩:=aF (l:=l) (i:=j+e) Ω;obtain⟨z,aB⟩:=aF (l:=l) (i:=j+e-1) Ω;have X:(f.drop j)[e]?=σ y:=by rw[List.getElem?_drop,A _ Ω,W]
     have aC:(f.drop j)[e-1]?=σ z:=by rw[List.getElem?_drop,A _ Ω,<-aB];congr 1;omega
     rw[be al.u ae.i Ψ L X];simp only[dR];rw[lm Ω Ω,fm (i:=e-1) Ω al.u ae.i Ψ L aC];simp only[bJ,ai,aM];refine⟨λM=>?_,λM=>?_⟩
     .rw[be al.u ae.i Ψ L X,iy rfl al.u ae.i B Ω];refine iz ae.i B Ω λa6 aD a7 aE=>?_;rw[lm Ω Ω];have a8:=yN W (by grind);refine U _ _ ⟨q+1,_,rfl,(G.F (K.aa _)).F aD,aE,by grind,?_,?_,Ω,λi hi=>?_⟩
      .grind
      .grind [u7,Z3,List.take_set_of_le]
      .rw[X3 Ω];exact A i Ω
     .have M:=Z6.1 M;have ba:dedup l (j+e+1)=dedup l (j+e):=by grind [yM]
      exact U _ _ ⟨q,f,rfl,G.F (K.aa _),B,am,by grind,by grind,Ω,λi hi=>A i Ω⟩
   .have hk:j+e=n:=Ω
    rw[hk]at an R ap;obtain⟨_,_,cs,aG,_,_,bb,aH⟩:=s6 Q Ω;simp only[maxLen]at Y;rw[eA al.u ae.i lT gW dZ Ω Ω Ω,m5 Ω];have aI:W6 (λx:Q0=>x.add (q*1)) (σ ⟨g,0,ν⟩)=σ ⟨g,q,ν⟩:=by simp[W5]
    rw[aI];refine xT al.u ae.i rfl rfl aG Ω Ω λbc aJ bd aK=>?_;rw[eA al.u ae.i iP mJ dZ Ω Ω Ω,m5 Ω];have aL:W6 (λx:Q0=>x.add (0*1)) (σ ⟨g,0,ν⟩)=σ ⟨g,0,ν⟩:=by simp[W5]
    rw[aL,N];refine⟨G.F aJ,?_⟩;rw[<-R];refine ao.of (n:=q) ⟨Θ,.inr ⟨cap,_,Ξ,aK,Ω,Ω,by rw[gf];omega,?_⟩⟩;rw[V0];apply j5;intro i;by_cases hi:i<q
    .rw[Y5 hi,kw _ _ _ Θ,m5 Ω,ints,x8,Y5 hi];have:(cs.take n)[i]?=(ints .i64 f)[i]?:=by rw[aH]
     grind
    grind
  .rw[lm Ω Ω];refine⟨⟨j+1,rfl,Ω,Ω,s,λi hi bf=>?_⟩,by grind [b0]⟩
   grind
 .have Z:j=n:=Ω
  rw[yO (p9 _) (by grind),o6];exact h.W p
theorem PY(z:n<=1000000):aj x7 Li [.slice ν 0 0,Δ (n:Int)] w λv I=>Ext w I/\∃g,w.heap.size<=g/\ao .i64 ae I g v []:=by
 refine az func273 ?_;refine dk (λJ=>w=J) ?_ ?_
 .rintro _ rfl;refine aV (λv I=>Ext w I/\∃g,w.heap.size<=g/\ao .i64 ae I g v []) (λ_ _ h=>h) λay a=>?_;rw[xS al.u,iv al.u];simp only[dR];have e:Y7.wrap (((0:Nat):Int)-((0:Nat):Int))=0:=Φ
  have f:Y7.wrap ((n:Int)-0)=n:=by rw[lm Ω Ω];omega
  rw[e,f];simp only[bL,ai];refine⟨λh=>?_,λh=>a _ _ ⟨Ext.refl _,w.heap.size,p9 _,ao.nil _ _ _ _⟩⟩;rw[xS al.u,eA al.u ae.i iP mJ dZ Ω Ω Ω,m3 rfl];refine CB (xs:=[]) rfl al.u ae.u ae.i rfl ⟨rfl,0,0,ν,0,rfl,p9 _,X7 _,λh=>m6 h (Nat.lt_irrefl _),λj v h=>by simp at h⟩ Ω Ω Ω Ω λv g I A p hm=>?_;obtain⟨_,⟨_,B⟩|⟨cap,cs,rfl,q,h1,r,s,C⟩⟩:=hm
  .omega
  rw[iv al.u,eA al.u ae.i iP mJ dZ Ω Ω Ω,m5 Ω];have y:W6 (λx:Q0=>x.add (0*1)) (σ ⟨g,0,ν⟩)=σ ⟨g,0,ν⟩:=by simp[W5]
  rw[y];refine a _ _ ⟨p,g,Ω,ao.of (n:=0) ⟨Ξ,.inr ⟨cap,cs,Ξ,q,Ω,r,s,Ξ⟩⟩⟩
 .intro ay a;simp only[aP,ai];exact⟨λh=>Ω,λ_=>a _ rfl⟩
theorem PZ{a b:Λ}(E:aI .i64 w bw a)(G:aI .i64 w bv b)(U:a.length<=1000)(W:b.length<=1000)(X:∀v I g,Ext w I->w.heap.size<=g->ao .i64 ae I g v (a++b)->K v I):
  aC x7 (Y1 dL 2 #[(0,bw),(1,bv)]) w λt J=>aj x7 KL [t] J K:=by
 obtain⟨⟨H,L,M,Y⟩,⟨N,O,P,Z⟩⟩:(∃x n c,bw= .slice x n c)/\(∃x n c,bv= .slice x n c):=by
  obtain⟨_,_,_,x,c,h1,_⟩:=id E;obtain⟨_,_,_,y,d,aa,_⟩:=id G;exact⟨⟨x,_,c,h1⟩,⟨y,_,d,aa⟩⟩
 subst Y;subst Z;refine lU dL.u al.i Ω (cs:=#[.slice H L M,.slice N O P]) Ψ λg J aA q s=>?_;have s:=s;have key:∀i:Nat,i<2->∃v l,[x1.slice H L M,.slice N O P][i]?=σ v/\[a,b][i]?=σ l/\aI .i64 w v l/\l.length<=1000:=λi hi=>by
  match i,hi with
  |0,_=>exact⟨_,_,rfl,rfl,E,U⟩
  |1,_=>exact⟨_,_,rfl,rfl,G,W⟩
 refine az func221 ?_;rw[iv dL.u];refine b2.range 2 (λi size V=>Ext J V/\∃n:Nat,n<=1000*i/\size=Δ (n:Int)) Ω ⟨Ext.refl _,0,Ω,rfl⟩ ?_ ?_
 .rintro i _ V ab hi ⟨f,n,ac,rfl⟩ ad;simp only[aP,ai];refine⟨λ_=>?_,λh=>Ω⟩;obtain⟨v,l,B,Q,C,af⟩:=key i hi;refine aV (λv R=>V=R/\v=Δ ((n+l.length:Nat):Int)) ?_ ?_
  .rintro _ _ ⟨rfl,rfl⟩;simp only[aM];exact ad _ _ ⟨f,_,Ω,rfl⟩
  .intro ay ag;rw[fv dL.u al.i hi (λ_=>rfl),ax Ψ ((s.W f).cell (by rw[<-B];congr 1;omega)),aS al.u (C.W (q.F f))];simp only[aM,aP,ai];rw[lm Ω Ω];exact⟨λh=>Ω,λ_=>ag _ _ ⟨rfl,by congr 1⟩⟩
 .rintro _ V ab ⟨f,n,ac,rfl⟩;simp only[aP,ai];refine⟨λh=>Ω,λ_=>?_⟩;refine(PY Ω).X ?_;rintro v0 R _ ⟨S,ah,aB,ak⟩;have s1:=q.size;have s2:=f.size;have aD:=S.size;have am:=f.F S;rw[iv dL.u];refine b2.range 2 (λi v z=>Ext J z/\∃p,J.heap.size<=p/\ao .i64 ae z p v (([a,b].take i).flatten)/\(([a,b].take i).flatten).length<=1000*i) Ω ⟨am,ah,Ω,ak,Ξ⟩ ?_ ?_
  .rintro i v4 z an hi ⟨j,p,ap,A,aE⟩ aq;simp only[aP,ai];refine⟨λ_=>?_,λh=>Ω⟩;obtain⟨v,l,B,Q,C,af⟩:=key i hi;rw[fv dL.u al.i hi (λ_=>rfl),ax Ψ ((s.W j).cell (by rw[<-B];congr 1;omega))];refine jD al.u ae.i rfl A (C.W (q.F j)) Ω Ω λaF au aG aH av aw=>?_;simp only[aM];have aJ:=j.size;have e:([a,b].take (i+1)).flatten=([a,b].take i).flatten++l:=by rw[u7,Q];simp
   refine aq _ _ ⟨j.then aw (by rintro r aK rfl;omega),au,Ω,by rw[e];exact av,by rw[e,p8];omega⟩
  .rintro v4 z an ⟨j,p,ap,A,_⟩;simp only[aP,ai];refine⟨λh=>Ω,λ_=>X _ _ p (q.F j) Ω ?_⟩;have e:([a,b].take 2).flatten=a++b:=Ξ
   rw[e]at A;exact A
def qa(s1 a s2 e d6:Λ):Prop:=∀p∈d6,p∈a->p∈e->fi s1 (ih a p)=fi s2 (ih e p)
def dE(s1 a s2 e d6:Λ):Λ:=d6.map λp=>max (fi s1 (ih a p)) (fi s2 (ih e p))
theorem EW(s1 a s2 e d6:Λ):(dE s1 a s2 e d6).length=d6.length:=by simp[dE]
theorem yT{x:Int}:0<=ih l x↔x∈l:=by
 grind [ih]
theorem P0{g an P ap:Nat}{A Q:x1}{s1 s2 d6 a e:Λ}{aq:Int}{au av:Λ}(h1:ce w g an sv s1 k au)(R:ce w P ap A s2 aq av)(B:aI .i64 w Q d6)(aw:aI .i64 w bw a)(ax:aI .i64 w bv e)(aA:ez a)(aB:ez e)(aZ:d6.length<=1000):
  aj x7 KM [Q,Γ g,bw,Γ P,bv] w λv I=>Ext w I/\
   (¬qa s1 a s2 e d6->v= .tuple #[.slice ν 0 0,.bool rs])/\
   (qa s1 a s2 e d6->∃x ak,v= .tuple #[x,.bool ro]/\w.heap.size<=ak/\ao .i64 ae I ak x (dE s1 a s2 e d6)):=by
 have sub:∀{w:x3}{g:Nat}{sv:x1}{k:Int}{a1:x1},ag w g cu [sv,Δ k,a1]->w.rangeAt g (0+0) [sv]:=by grind [oJ]
 refine az func222 ?_;rw[aS al.u B];refine ky al.u ae.i Ω Ω λgz J a2 aC aD=>?_;have a6:=ao.of (n:=d6.length) (bZ.full aD Ξ (by simp[maxLen];omega));generalize (x1.slice (σ ⟨gz,0,ν⟩) d6.length d6.length)=aE at*;rw[aS al.u (B.W aC)];have aG:=EW s1 a s2 e d6;refine k8.range d6.length (λi _ _ V=>Ext w V/\ao .i64 ae V gz aE (upto (dE s1 a s2 e d6) 0 i)/\∀(j:Nat)(p:Int),j<i->d6[j]?=σ p->p∈a->p∈e->fi s1 (ih a p)=fi s2 (ih e p)) Ω
  (by grind [nU]) ?_ ?_
 .rintro i _ _ V aH hi ⟨f,hm,S⟩ aJ;simp only[aP,ai];refine⟨λ_=>?_,Ω⟩;obtain⟨p,q⟩:=aF (l:=d6) hi;rw[be al.u ae.i Ψ (B.W f) q];refine(vB (aw.W f) aA).X ?_;rintro _ a7 _ ⟨rfl,C⟩;refine(vB (ax.W (f.F C)) aB).X ?_;rintro _ aK _ ⟨rfl,U⟩;have W:=(f.F C).F U;refine aV (λv X=>Ext aK X/\∃c,v= .bool c/\(c=ro↔p∈a/\p∈e/\fi s1 (ih a p)≠fi s2 (ih e p))) ?_ ?_
  .rintro _ X ⟨Y,c,rfl,aL⟩;have Z:=W.F Y;rw[bU];refine⟨λaN=>⟨Z,by grind,λE=>?_⟩,λa8=>?_⟩
   .obtain⟨r,s,aO⟩:=aL.1 aN;exact m6 (E p (x5 q) r s) aO
   .simp only[eu];intro ba aa _ _;have G:=Z.F aa;obtain⟨⟨a1,gs,H,K,_⟩,_⟩:=h1.W G;obtain⟨⟨aQ,aR,L,M,_⟩,_⟩:=R.W G;rw[bR,aT cu.p rfl,bB (cs:=[sv]) bn.p bn.i rfl (sub H),bR,aT cu.p rfl,bB (cs:=[A]) bn.p bn.i rfl (sub L)];refine(rn K.ls).X ?_;rintro _ bb _ ⟨rfl,y⟩;refine⟨.inl y,?_⟩;refine(rn (M.ls.W y)).X ?_;rintro _ bc _ ⟨rfl,ab⟩;have aU:=(G.F y).F ab;have ac:=hm.W ((((C.F U).F Y).F aa).F (y.F ab));have bd:(upto (dE s1 a s2 e d6) 0 i).length=d6.length:=by rw[mS,aG]
    rw[xJ,iy rfl al.u ae.i ac Ω];refine iz ae.i ac Ω λbf aW _ ad=>?_;simp only[aM];have aX:(dE s1 a s2 e d6)[i]?=σ (max (fi s1 (ih a p)) (fi s2 (ih e p))):=by
     grind [dE]
    rw[nW aX]at ad;refine aJ _ _ _ ⟨aU.then aW Ω,ad,λj bg E bh r s=>?_⟩
    grind
  .intro ay N;simp only[eu,cI,ai];intro bi z _ _;refine⟨λaf=>⟨λah=>?_,λah=>⟨.inl (Ext.refl _),N _ _ ⟨z,rs,rfl,⟨by grind,λh=>m6 (yT.2 h.2.1) ah⟩⟩⟩⟩,λaf=>⟨.inl (Ext.refl _),N _ _ ⟨z,rs,rfl,⟨by grind,λh=>m6 (yT.2 h.1) af⟩⟩⟩⟩;have am:=W.F z;obtain⟨⟨a1,gs,H,K,_⟩,_⟩:=h1.W am;obtain⟨⟨aQ,aR,L,M,_⟩,_⟩:=R.W am;rw[bR,aT cu.p rfl,bB (cs:=[sv]) bn.p bn.i rfl (sub H),bR,aT cu.p rfl,bB (cs:=[A]) bn.p bn.i rfl (sub L)];refine(rn K.ls).X ?_;rintro _ bj _ ⟨rfl,O⟩;refine⟨.inl O,?_⟩;refine(rn (M.ls.W O)).X ?_;rintro _ bk _ ⟨rfl,aY⟩;simp only[bJ];refine N _ _ ⟨(z.F O).F aY,_,rfl,?_⟩
   grind [yT]
 .rintro _ _ V aH ⟨f,hm,S⟩;simp only[aP,ai];refine⟨λh=>Ω,λ_=>?_⟩;have E:qa s1 a s2 e d6:=λp q r s=>by
   obtain⟨i,hi,he⟩:=List.getElem_of_mem q;exact S i p hi (by grind) r s
  grind [nV]
def rz(a e d6:Λ):Prop:=ez d6/\∀x,x∈d6↔x∈a\/x∈e
def n5(s1 f a s2 h e d6:Λ)(k:Int):Λ:=
 (Z2 (aA (dE s1 a s2 e d6)).toNat).map λ(q:Nat)=>min (bg s1 f (gu (b1 (dE s1 a s2 e d6) q) d6 a)+bg s2 h (gu (b1 (dE s1 a s2 e d6) q) d6 e)) k
theorem P1(s1 f a s2 h e d6:Λ)(k:Int):(n5 s1 f a s2 h e d6 k).length=(aA (dE s1 a s2 e d6)).toNat:=by simp[n5]
theorem qb{s cs:Λ}(hk:right k)(h:∀x∈cs,cJ x k):cJ (bg s cs t) k:=by
 have a:cJ 0 k:=⟨hk,R6 _,by have:=hk.1;omega⟩
 grind [bg]
def Fits(s l:Λ):Prop:=l.length=s.length/\s4 l
def s7(e:Int):x1:=.tuple #[.pointer ν,.slice ν 0 0,Δ e]
def EX(w:x3)(s1 q a s2 r e:Λ)(k f:Int)(v:x1)(I:x3):Prop:=
 Ext w I/\(¬(Fits s1 a/\Fits s2 e)->v=s7 1)/\
  (Fits s1 a/\Fits s2 e->∃d6,rz a e d6/\(¬qa s1 a s2 e d6->v=s7 1)/\(qa s1 a s2 e d6->(k≠f->v=s7 3)/\
   (k=f->¬bS (dE s1 a s2 e d6)->v=s7 1)/\(k=f->bS (dE s1 a s2 e d6)->4096<aA (dE s1 a s2 e d6)->v=s7 5)/\
   (k=f->bS (dE s1 a s2 e d6)->aA (dE s1 a s2 e d6)<=4096->∃h j s p,v= .tuple #[Γ h,p,Δ 0]/\
    ce I h j s (dE s1 a s2 e d6) k (n5 s1 q a s2 r e d6 k)/\(w.heap.size<=h/\w.heap.size<=j)/\∃aU,w.heap.size<=aU/\ao .i64 ae I aU p d6)))
theorem EY{g bF ga bG:Nat}{bH:x1}{s1 s2 f j:Λ}{a7:Int}{E G:Λ}(h1:ce w g bF sv s1 k E)(ah:ce w ga bG bH s2 a7 G)(am:aI .i64 w bw f)(aq:aI .i64 w bv j)(hk:right k)(cm:∀x∈E,cJ x k)(cn:∀x∈G,cJ x a7):
  aj x7 JP [Γ g,bw,Γ ga,bv] w (EX w s1 E f s2 G j k a7):=by
 have cp:=am.cells;have dD:=aq.cells;have cq:=h1.2.2.1;have cr:=ah.2.2.1;have sub:∀{w:x3}{g:Nat}{sv:x1}{k:Int}{a1:x1},ag w g cu [sv,Δ k,a1]->w.rangeAt g (0+0) [sv]:=by grind [oJ]
 refine jj func133 ?_;refine bm λg1 J dF bI C=>?_;refine bm λbK V dG a8 H=>?_;refine bm λbL dH dI aJ K=>?_;refine bm λbM W dJ au L=>?_;have dK:=C.lt;have dL:=H.lt;have dM:=K.lt;have dN:=L.lt;have dO:=bI.size;have dP:=a8.size;have dQ:=aJ.size;have dR:=au.size;have X:=((bI.F a8).F aJ).F au;have C:ag W g1 dv [Γ g]:=((C.W a8).W aJ).W au;have H:ag W bK al [bw]:=by rw[cp.1]at H;exact(H.W aJ).W au
 have K:ag W bL dv [Γ ga]:=K.W au;have L:ag W bM al [bv]:=by grind
 refine aV (λv bN=>v= .bool rs/\W=bN) ?_ ?_
 rotate_left
 .intro ay ba;rw[ax Ψ (C.Qz rfl),cW dv.u];simp only[j0,aX];rw[ax Ψ (K.cell rfl),cW dv.u]
  grind
 rintro _ _ ⟨rfl,rfl⟩;simp only[aX];refine aV (λv bO=>Ext W bO/\∃c,v= .bool c/\(c=ro↔¬(Fits s1 f/\Fits s2 j))) ?_ ?_
 rotate_left
 .intro ay ba;rw[ax Ψ (C.cell rfl),ax Ψ (H.cell rfl)];refine(EM (h1.W X) (am.W X)).X ?_;rintro _ bN _ ⟨Y,c,rfl,aL⟩;simp only[bA,bU];refine⟨λct=>ba _ _ ⟨Y,ro,rfl,λ_ h=>?_,λ_=>rfl⟩,λbP=>?_⟩
  .have:=aL.2 h.1;grind
  .have cw:c=ro:=by grind
   rw[ax Ψ ((K.W Y).cell rfl),ax Ψ ((L.W Y).cell rfl)];refine(EM ((ah.W X).W Y) ((aq.W X).W Y)).X ?_;rintro _ dS _ ⟨cz,d,rfl,bQ⟩;simp only[bA];refine ba _ _ ⟨Y.F cz,_,rfl,λh an=>?_,λh=>?_⟩
   .have:=bQ.2 an.2;grind
   .cases d with
    |false=>rfl
    |true=>exact m6 ⟨aL.1 cw,bQ.1 rfl⟩ h
 rintro _ bO ⟨av,c,rfl,aL⟩;have aM:=X.F av;rw[bU];refine⟨λct dT cA _=>⟨aM.F cA,λ_=>rfl,by grind⟩,λbP=>?_⟩;have cB:=Classical.byContradiction λh=>by
  have:=aL.2 h;rw[bP]at this;cases this
 obtain⟨⟨dU,cC⟩,dV,cD⟩:=id cB;have dW:=cq.1;have dX:=cr.1;rw[ax Ψ ((H.W av).cell rfl),ax Ψ ((L.W av).cell rfl)];refine PZ (am.W aM) (aq.W aM) Ω Ω λdY dZ ea bT eb cE=>?_;refine yL cE.ls (by grind) λec ed bV m bW ee bX cF cG=>?_;have cH:=bX.length_eq;rw[p8]at cH;refine(EV cG Ω).X ?_;rintro aO ef _ ⟨cI,az⟩;have eg:=av.size;have eh:=bT.size;have ei:=bW.size;have bZ:=(bT.F bW).then cI Ω;obtain⟨cK,cL⟩:=yP cF (p9 _);have ej:=EK m m.length;have M:rz f j (dedup m m.length):=⟨cK,λx=>by rw[cL,o6,bX.mem_iff,o9]⟩;generalize dedup m m.length=d6 at*;refine bx al.i λaU ek em b0 cM=>?_;refine bt al.i az.ls.cells.1 az.ls.cells.2 cM (by simp[T9]) λen cN eo aB=>?_;have ep:=bZ.size;have er:=b0.size;have aP:=b0.then cN Ω;have Z:=(av.F bZ).F aP;have aC:=X.F Z;have bD:=aB.lt;have b2:=az.ls.W aP;have aB:=aB;rw[ax Ψ (aB.cell rfl),ax Ψ ((C.W Z).cell rfl),ax Ψ ((H.W Z).cell rfl),ax Ψ ((K.W Z).cell rfl),ax Ψ ((L.W Z).cell rfl)];refine(P0 (h1.W aC) (ah.W aC) b2 (am.W aC) (aq.W aC) cC.up cD.up Ω).X ?_;rintro es et _ ⟨ab,cO,cP⟩;have b3:=aC.F ab;by_cases b4:qa s1 f s2 j d6
 rotate_left
 .rw[cO b4,bo,bp];simp only[bA,X4,bY];intro eu cQ _;exact⟨b3.F cQ,by grind,λ_=>⟨d6,M,λ_=>rfl,by grind⟩⟩
 obtain⟨xs,ak,rfl,ev,cR⟩:=cP b4;rw[bo,bp];simp only[bA,Y6,aX];intro ac P _ _;have aQ:=(Z.F ab).F P;have ad:=b3.F P;have C:=C.W aQ;have H:=H.W aQ;have K:=K.W aQ;have L:=L.W aQ;have cS:=(aB.W ab).W P;obtain⟨⟨a1,gs,b5,ew,_⟩,_⟩:=h1.W ad;obtain⟨⟨ey,ez,cT,eA,_⟩,_⟩:=ah.W ad;rw[ax Ψ (C.cell rfl),aK cu.p 1 b5 rfl,ax Ψ (K.cell rfl),aK cu.p 1 cT rfl];simp only[bJ,ai];refine⟨λaR eB cU _=>⟨ad.F cU,by grind,λ_=>⟨d6,M,by grind,λ_=>⟨λ_=>rfl,Ω,Ω,Ω⟩⟩⟩,λaR=>?_⟩;have aR:=Z6.1 aR;subst aR;rw[ax Ψ (C.cell rfl),aK cu.p 1 b5 rfl];have cV:=cR.W P;refine(sx cV.ls).X ?_;rintro aN aS _ ⟨b6,eC,eD,_,cX⟩;have eE:=aP.size;have eF:=ab.size;have eH:=P.size;have eI:=b6.size;obtain⟨aD,e,rfl,eJ,bb⟩:∃(aD:Option Q0)(e:Int),aN= .tuple #[.pointer aD,Δ e]/\(e=0->aD≠ν)/\((e=1/\¬bS (dE s1 f s2 j d6))\/(e=5/\bS (dE s1 f s2 j d6)/\4096<aA (dE s1 f s2 j d6))\/(e=0/\bS (dE s1 f s2 j d6)/\aA (dE s1 f s2 j d6)<=4096/\
   ∃y A z,aD=σ ⟨y,0,ν⟩/\ac.heap.size<=y/\ac.heap.size<=A/\(∀r,li z r->ac.heap.size<=r)/\ce aS y A z (dE s1 f s2 j d6) k (r8 (aA (dE s1 f s2 j d6)).toNat 0))):=by
  by_cases U:bS (dE s1 f s2 j d6)
  .by_cases O:aA (dE s1 f s2 j d6)<=4096
   .obtain⟨y,A,z,cY,cZ,c0,c1,c2⟩:=cX U O ⟨hk,Ω,by have:=hk.1;omega⟩;exact⟨_,_,cY,by grind,.inr (.inr ⟨rfl,U,O,y,A,z,rfl,cZ,c0,c1,c2⟩)⟩
   grind
  grind
 rw[bo,bp];refine bx dv.i λc3 eK eL b7 aE=>?_;refine bt dv.i rfl rfl aE (by simp[T9]) λeM c4 eN aE=>?_;have eO:=b7.size;have bc:=b7.then c4 Ω;have b8:=b6.F bc;have c5:=ad.F b8;have eP:=aE.lt;simp only[bJ,ai];refine⟨λeQ eR c6 _=>⟨c5.F c6,by grind,λ_=>⟨d6,M,by grind,λ_=>⟨Ω,λ_ U=>?_,λ_ U O=>?_,λ_ U O=>?_⟩⟩⟩,λeS=>?_⟩
 .rcases bb with⟨rfl,_⟩|⟨_,h,_⟩|⟨_,h,_⟩
  .rfl
  all_goals grind
 .rcases bb with⟨_,h⟩|⟨rfl,_⟩|⟨_,_,h,_⟩
  .grind
  .rfl
  .omega
 .grind
 obtain⟨bd,c7,y,A,z,rfl,eU,eV,eW,aW⟩:bS (dE s1 f s2 j d6)/\aA (dE s1 f s2 j d6)<=4096/\
   ∃y A z,aD=σ ⟨y,0,ν⟩/\ac.heap.size<=y/\ac.heap.size<=A/\(∀r,li z r->ac.heap.size<=r)/\ce aS y A z (dE s1 f s2 j d6) k (r8 (aA (dE s1 f s2 j d6)).toNat 0):=by
  rcases bb with⟨h,_⟩|⟨h,_⟩|⟨_,h⟩
  all_goals omega
 obtain rfl:e=0:=Ω
 have eX:(dE s1 f s2 j d6).length=d6.length:=EW _ _ _ _ _;have eY:=prod_bound bd;obtain⟨N,b9⟩:∃N:Nat,(aA (dE s1 f s2 j d6)).toNat=N:=⟨_,rfl⟩;rw[b9]at aW;have eZ:0<N:=Ω
 have c8:=aW.W bc;obtain⟨⟨be,ca,cb,cc,c9⟩,⟨da,db,_⟩,_,e0⟩:=id c8;have e1:y<aS.heap.size:=by obtain⟨⟨_,_,q,_⟩,_⟩:=id aW;exact q.lt
 have e2:A<aS.heap.size:=by obtain⟨⟨_,_,_,_,q⟩,_⟩:=id aW;exact iA q Θ
 rw[ax Ψ (aE.cell rfl),bR,aT cu.p rfl,bB (cs:=[z]) bn.p bn.i rfl (sub cb)];refine p1.X ?_;rintro _ aY _ ⟨Q,bf,rfl,e3,cd⟩;have e4:=bc.size;have e5:=Q.size;let S:Nat->Prop:=λr=>r=A;let aF:=n5 s1 E f s2 G j d6 k;have bh:aF.length=N:=by grind [P1]
 have dc:=(b2.W ab).W P;let dd:x3->Prop:=λI=>ag I g1 dv [Γ g]/\ag I bK al [bw]/\ag I bL dv [Γ ga]/\ag I bM al [bv]/\ag I aU al [aO]/\aI .i64 I aO d6/\
  ag I c3 dv [Γ y]/\ag I y cu [z,Δ k,be]/\ce I g bF sv s1 k E/\ce I ga bG bH s2 k G/\aI .i64 I bw f/\aI .i64 I bv j/\ao .i64 ae I ca z (dE s1 f s2 j d6)/\ag I bf bn [z]/\aY.heap.size<=I.heap.size
 have bi:=b8.F Q;have aG:∀{a:x3},af S aY a->dd a:=by
  intro a B;have R:=bi.put B Ω;have aZ:=ad.F R;exact⟨C.W R,H.W R,K.W R,L.W R,cS.W R,dc.W R,(aE.W Q).aa B Ω,(cb.W Q).aa B Ω,h1.W aZ,ah.W aZ,am.W aZ,aq.W aZ,
   bk (cc.W Q) B (by grind),cd.aa B Ω,B.size⟩
 have cf:=p0 (g:=bf) (B0:=aY.heap.size) (sv:=z) bd;rw[b9]at cf;refine mA.old ⟨Nat,rs,kt,#[Γ bf],0,_,_,_,λq I=>af S aY I/\ao .i64 ap I A be (upto aF 0 q),λ_ _ _=>False,rfl,cf.s,
  ?_,λ_ _ B h=>⟨h.1.W B,h.2.1.W B,Y2 h.2.2 B.size⟩,λ_ _ _ B h=>⟨h.1.F (B.aa S),h.2.W B⟩,by grind,⟨cd,(cc.W Q).ls,p9 _⟩,⟨af.refl _ _,?_⟩,?_,?_,by grind,by grind⟩
 .rintro _ _ _ _ ⟨_,_,_,_,rfl,_⟩;rfl
 .rw[nU,bh];exact c9.W Q
 .rintro _ aN q _ e6 ⟨_,_,e7⟩ ⟨cg,rfl,e8,gt,de,e9,ch⟩ ⟨a2,df⟩;cases de;let x:=b1 (dE s1 f s2 j d6) (q:Int);have ci:x.length=d6.length:=by grind [ix]
  intro fa dg _ _;intro fb dh _ _;have bj:=dg.F dh;obtain⟨f1,f2,f3,f4,f5,f6,f7,f8,f9,f10,f11,f12,f13,f14,f15⟩:=aG (a2.F (bj.aa S));rw[ax Ψ (f1.cell rfl),ax Ψ (f5.cell rfl),ax Ψ (f2.cell rfl)];refine(EO (ch.ls.W bj) f6 f11 M.1 (λp O=>(M.2 p).2 (.inl O)) ci Ω).X ?_;rintro fc fd _ ⟨bl,fe,ff,di⟩;refine⟨.inl bl,?_⟩;refine(uL (f9.W bl) di.ls).X ?_;rintro _ fg _ ⟨rfl,dj⟩;obtain⟨dk,dl⟩:=vA s1 (gu x d6 f) E;have dm:=dl;rw[dm,bo,bp];intro fh dn _ _;have bq:=((bj.F bl).F dj).F dn;obtain⟨f1,f2,f3,f4,f5,f6,f7,f8,f9,f10,f11,f12,f13,f14,f15⟩:=aG (a2.F (bq.aa S));rw[ax Ψ (f3.cell rfl),ax Ψ (f5.cell rfl),ax Ψ (f4.cell rfl)];refine(EO (ch.ls.W bq) f6 f12 M.1 (λp O=>(M.2 p).2 (.inr O)) ci Ω).X ?_;rintro fi fj _ ⟨br,fk,fm,dp⟩;refine⟨.inl br,?_⟩;refine(uL (f10.W br) dp.ls).X ?_;rintro _ fo _ ⟨rfl,dq⟩;obtain⟨dr,ds⟩:=vA s2 (gu x d6 j) G;have dt:=ds;rw[dt,bo,bp];intro fp du _ _;have bs:=((bq.F br).F dq).F du;obtain⟨f1,f2,f3,f4,f5,f6,f7,f8,f9,f10,f11,f12,f13,f14,f15⟩:=aG (a2.F (bs.aa S));rw[ax Ψ (f7.cell rfl),aK cu.p 2 f8 rfl,ax Ψ (f7.cell rfl),aK cu.p 1 f8 rfl];refine DA.X ?_;rintro _ fq _ ⟨rfl,bu⟩;refine⟨.inl bu,?_⟩;have dw:sL (bg s1 E (gu x d6 f)) (bg s2 G (gu x d6 j)) k= .tuple #[Δ (min (bg s1 E (gu x d6 f)+bg s2 G (gu x d6 j)) k),Δ 0]:=m3 ⟨qb hk cm,qb hk cn⟩;rw[dw,jZ (v:=Δ (min (bg s1 E (gu x d6 f)+bg s2 G (gu x d6 j)) k)) rfl,jZ (v:=Δ 0) rfl];have cj:=df.W (bs.F bu);have fs:(upto aF 0 q).length=N:=by rw[mS,bh]
  rw[iy rfl aw.u ap.i cj Ω];refine iz ap.i cj Ω λft fu fv ck=>?_;have cl:=(a2.F ((bs.F bu).aa S)).F Ω;obtain⟨f1,f2,f3,f4,f5,f6,f7,f8,f9,f10,f11,f12,f13,f14,f15⟩:=aG cl;have dx:aF[q]?=σ (min (bg s1 E (gu x d6 f)+bg s2 G (gu x d6 j)) k):=by
   simp only[aF,n5];rw[x8,List.getElem?_range Ω];rfl
  rw[nW dx]at ck;exact⟨⟨f14,f13.ls,f15⟩,⟨cl,ck⟩,by grind⟩
 .rintro q dy cg ⟨bz,bC⟩;rw[show q=N from cg]at bC;intro fw a6 _ _;obtain⟨f1,f2,f3,f4,f5,f6,f7,f8,f9,f10,f11,f12,f13,f14,f15⟩:=aG (bz.F (a6.aa S));rw[ax Ψ (f7.cell rfl),ax Ψ (f5.cell rfl)];intro fx aH _;rw[<-bh,nV]at bC;have dz:=ad.F bi;have dA:ao .i64 ae dy bV aO d6:=bk (az.W ((aP.F ab).F (P.F bi))) bz λr dC U=>by obtain⟨dk,dr⟩:=bE az dC;have U:r=A:=U;omega
  have fy:=aM.size;refine⟨((dz.put bz Ω).F a6).F aH,by grind,λ_=>⟨d6,M,by grind,λ_=>⟨Ω,by grind,Ω,λ_ _ _=>⟨y,A,z,aO,rfl,⟨⟨be,ca,f8.W aH,f13.W aH,(bC.W a6).W aH⟩,⟨da,db,c7⟩,bd,by grind⟩,⟨Ω,Ω⟩,bV,Ω,(dA.W a6).W aH⟩⟩⟩⟩
theorem ez.pair(h:ez l):l.Pairwise (·< ·):=X9.2 λi j hi a e=>h i j _ _ e (x6 hi) (x6 a)
theorem rA{m:Λ}(e:ez l)(hm:ez m)(h:∀x,x∈l↔x∈m):l=m:=by
 have f:l.Nodup:=e.pair.imp λh=>Ω
 have j:m.Nodup:=hm.pair.imp λh=>Ω
 exact List.Perm.eq_of_pairwise (le:=(·<= ·)) (λa b _ _ h1 p=>Int.le_antisymm h1 p) (e.pair.imp λh=>Int.le_of_lt h) (hm.pair.imp λh=>Int.le_of_lt h) ((List.perm_ext_iff_of_nodup f j).2 h)
theorem P2{d6:Λ}(h:rz l l d6)(a:ez l):d6=l:=rA h.1 a λx=>by rw[h.2];simp
theorem EZ(h:l.Pairwise (·< ·)):ez l:=λi j x y a e f=>by
 grind [X9]
theorem P3{x:Λ}(a:l.Nodup)(h:x.length=l.length):gu x l l=x:=by
 refine j5 λi=>?_
 grind [gu]
theorem E0{s:Λ}(a:ez l)(h:s.length=l.length):dE s l s l l=s:=by
 refine j5 λi=>?_
 grind [dE,Z9,p7,fi]
theorem P4{s a b:Λ}(e:l.Pairwise (·< ·))(h:s.length=l.length)(U:dh s)(f:a.length=(aA s).toNat)(j:b.length=(aA s).toNat):n5 s a l s b l l k=bV k a b:=by
 have p:l.Nodup:=e.imp Ω
 grind [n5,E0,EZ,OR,P3,ix]
theorem P5{s a b:Λ}(j:l.Pairwise (·< ·))(y:∀x∈l,0<=x)(h:s.length=l.length)(U:bS s)(K:aA s<=4096)(z:a.length=(aA s).toNat)(A:b.length=(aA s).toNat)(e:EX w s a l s b l k k v I):
  Ext w I/\∃q B C E,v= .tuple #[Γ q,E,Δ 0]/\ce I q B C s k (bV k a b):=by
 obtain⟨L,_,e⟩:=e;have f:=EZ j;have r:Fits s l:=⟨h.symm,EL f y⟩;obtain⟨d6,F,_,G⟩:=e ⟨r,r⟩;have H:=P2 F f;subst H;obtain⟨_,_,_,J⟩:=G λp M N O=>rfl;rw[E0 f h,P4 j h U.2 z A]at J
 grind
theorem P6{s:Λ}(U:dh s):(bl s).Nodup:=(EC U).imp λ{a b}h he=>by subst he;omega
theorem P7{s:Λ}{i:Nat}(U:dh s)(hi:(bl s)[i]?=σ t)(a:(bl s)[j]?=σ t):i=j:=mV (P6 U) hi a
theorem P8{s:Λ}(U:dh s)(h:cX s t):∃j:Nat,(bl s)[j]?=σ t:=c9.1 ((EB U).2 h)
theorem vF{g m:Nat}{d:List (x1×x1)}(h:ag w g e cs)(hm:dg w m d)(a:af (λr=>r=m) w I):ag I g e cs:=h.aa a (λhe=>vw h hm he)
theorem E1{g m:Nat}{k:o5}{d:List (x1×x1)}(h:ao k e w g v l)(hm:dg w m d)(a:af (λr=>r=m) w I):ao k e I g v l:=bk h a (λ_ f he=>EE h hm f he)
def vG(cs:Λ)(o:Int):Prop:=o∈cs/\∀d∈cs,cs.count d<cs.count o\/(cs.count d=cs.count o/\o<=d)
theorem P9{i:Nat}{x:Int}(h:l[i]?=σ x)(y:Int):(l.take (i+1)).count y=(l.take i).count y+if y=x then 1 else 0:=by
 rw[u7,h,List.count_append];congr 1;simp only[l9,List.count_singleton];by_cases a:y=x
 .subst a;simp
 .rw[m5 a,m5 (by simpa using λh=>a h.symm)]
def ii(p:Int×Int):x1×x1:=(Δ p.1,Δ p.2)
theorem s8:Keys x7 ap λv=>∃n,v=Δ n:=Keys.int ap.u
theorem s9(E:List (Int×Int)):∀p∈E.map ii,∃n,p.1=Δ n:=λp a=>by
 obtain⟨q,_,rfl⟩:=o8.1 a;exact⟨_,rfl⟩
def yU(cs:Λ)(E:List (Int×Int)):Prop:=(∀x,x∈E.map (·.1)↔x∈cs)/\∀p∈E,p.2=(cs.count p.1:Nat)
theorem E2{cs:Λ}{E:List (Int×Int)}(h:yU cs E){x:Int}(e:x∈cs):∃j:Nat,E[j]?=σ (x,((cs.count x:Nat):Int)):=by
 obtain⟨p,a,rfl⟩:=o8.1 ((h.1 x).2 e);obtain⟨j,f⟩:=c9.1 a;exact⟨j,by rw[f,<-h.2 p a]⟩
theorem E3{bD:x1}{cs:Λ}(h:aI .i64 w bD cs)(av:cs≠[])(bg:cs.length<=1000000):aj x7 uz [bD] w λv I=>Ext w I/\∃o,v=Δ o/\vG cs o:=by
 refine az func229 ?_;refine aC.cD (vf λm J hm X aN bi=>?_);rw[aS aw.u (h.W X)];refine cm.range cs.length (λi V=>af (λr=>r=m) J V/\∃E,dg V m (E.map ii)/\yU (cs.take i) E) Ω ⟨af.refl _ _,[],aN,by simp[yU]⟩ ?_ ?_
 .rintro i V aO hi ⟨G,E,A,f⟩ ax;obtain⟨x,Y⟩:=aF (l:=cs) hi;have H:Ext w V:=X.put G Ω;have aQ:∀y,(cs.take i).count y<=1000000:=λy=>by
   have:=List.count_le_length (a:=y) (l:=cs.take i);rw[c7]at this;omega
  refine bC Ω ?_;rw[be aw.u ap.i Ψ (h.W H) Y];have P:=P9 Y;have aA:∀y,y∈cs.take (i+1)↔y∈cs.take i\/y=x:=λy=>by
   rw[u7,Y];simp
  by_cases L:x∈cs.take i
  .obtain⟨j,Z⟩:=E2 f L;have Q:(E.map ii)[j]?=σ (Δ x,Δ (((cs.take i).count x:Nat):Int)):=by rw[x8,Z];rfl
   rw[sM nH.u s8 A (s9 E) ⟨_,rfl⟩ Q];simp only[Bool.false_eq_true,if_false];have:=aQ x;rw[aM,lm Ω Ω];refine aC.cD (sN nH.u s8 A (s9 E) ⟨_,rfl⟩ (λR v0 aa ac M ad aR=>?_) (λaa S=>m6 rfl (S _ (x5 Q))));have aT:=A.uniq ac Q rfl;subst aT;rw[aM];have ag:(E.map ii).set R (Δ x,Δ ((((cs.take i).count x:Nat):Int)+1))=(E.set R (x,(((cs.take i).count x:Nat):Int)+1)).map ii:=by rw[V3];rfl
   rw[ag]at M;have aU:=(x4.1 Z).1;refine ax _ ⟨G.F ad,_,M,λy=>?_,λp e=>?_⟩
   .rw[V3,pW (by rw[x8,Z];rfl),f.1,aA];exact⟨.inl,λh=>h.elim id (λh=>h▸L)⟩
   .obtain⟨q,s⟩:=c9.1 e;by_cases ah:R=q
    .subst ah;rw[Z3 aU]at s;cases s;show _=(((cs.take (i+1)).count x:Nat):Int);rw[P,m3 rfl];omega
    .rw[X3 ah]at s;have ak:p.1≠x:=λhe=>ah (A.uniq Q (show(E.map ii)[q]?=σ (ii p) by rw[x8,s];rfl) (by rw[ii,he]));rw[f.2 p (x5 s),P,m5 ak,Nat.add_zero]
  .have S:∀p∈E.map ii,p.1≠X2 .i64 x:=λp e he=>by
    obtain⟨q,s,rfl⟩:=o8.1 e;have:q.1=x:=by simpa[ii]using he
    exact L ((f.1 x).1 (o8.2 ⟨q,s,this⟩))
   rw[vg nH.u s8 ⟨_,_,ae.i⟩ A (s9 E) ⟨_,rfl⟩ S];simp only[Bool.false_eq_true,if_false];rw[aM,lm Ω Ω];refine aC.cD (sN nH.u s8 A (s9 E) ⟨_,rfl⟩ (λR v0 aa ac=>m6 rfl (S _ (x5 ac))) (λaa _ M ad aR=>?_));rw[aM];have ag:E.map ii++[(X2 .i64 x,X2 .i64 (0+1))]=(E++[(x,1)]).map ii:=by rw[l7];rfl
   rw[ag]at M;have aW:(cs.take i).count x=0:=List.count_eq_zero.2 L;refine ax _ ⟨G.F ad,_,M,λy=>?_,λp e=>?_⟩
   .rw[l7,o9,f.1,aA];simp
   .rcases o9.1 e with e|e
    .have ak:=λhe=>L ((f.1 x).1 (o8.2 ⟨p,e,he⟩));rw[f.2 p e,P,m5 ak,Nat.add_zero]
    .rw[b8.1 e];show(1:Int)=(((cs.take (i+1)).count x:Nat):Int);rw[P,m3 rfl,aW];rfl
 rintro V aO ⟨G,E,A,f⟩;rw[o6]at f;have H:=X.put G Ω;refine ci Ω ?_;refine(Nl (h.W H) av).X ?_;rintro _ aY bj ⟨rfl,al⟩;have bk:=H.size;have bl:=al.size;refine aC.cD (DD nH.u (A.W al) λN bm bn aZ bo a1 bp=>?_);refine⟨λdn C=>∃b B z left aB,dn=Δ b/\b∈cs/\Ext aY C/\iU C N m (E.map ii) left aB/\left=z.map ii/\(B++z).Perm E/\∀p∈B,cs.count p.1<cs.count b\/(cs.count p.1=cs.count b/\b<=p.1),λ_ C=>rt C N,
  ⟨yb cs,[],E,E.map ii,ν,rfl,(MV av).1,aZ,a1,rfl,List.Perm.refl _,λp e=>by cases e⟩,?_⟩
 rintro _ C ⟨b,B,z,left,aB,rfl,am,an,aD,rfl,U,ao⟩;refine DF aD (λ_=>by show w.heap.size<=N;omega) (λa2=>?_) (λj p aq e aE bq O=>?_)
 .rw[jZ (v:=.bool rs) rfl,aX];have:z=[]:=List.map_eq_nil_iff.1 a2;subst this;rw[V1]at U;refine⟨(H.F al).F an,b,rfl,am,λd a6=>?_⟩;obtain⟨q,s,rfl⟩:=o8.1 ((f.1 d).2 a6);exact ao q (U.mem_iff.2 s)
 .rw[jZ (v:=.bool ro) rfl,bY];refine DG O ?_;obtain⟨q,s,rfl⟩:∃q,z[j]?=σ q/\ii q=p:=by
   rw[x8]at e;exact Y0.1 e
  have aG:=U.mem_iff.1 (o9.2 (.inr (x5 s)));have br:=f.2 q aG;have a7:=(f.1 q.1).1 (o8.2 ⟨q,aG,rfl⟩);obtain⟨a8,ba⟩:=E2 f am;have bb:(E.map ii)[a8]?=σ (Δ b,Δ ((cs.count b:Nat):Int)):=by rw[x8,ba];rfl
  rw[jZ (v:=Δ q.1) rfl,jZ (v:=Δ q.2) rfl];have aH:(B++[q]++z.eraseIdx j).Perm E:=by
   refine List.Perm.trans ?_ U;rw[X0];exact List.Perm.append_left B (yu s)
  have aJ:rt aq N<rt C N:=by
   rw[vj O,vj aD];have:=DS (x4.1 e).1;omega
  refine aV (λv bc=>aq=bc/\∃r:Bool,v= .bool r/\(r=ro↔(cs.count b<cs.count q.1\/(cs.count q.1=cs.count b/\q.1<b)))) ?_ ?_
  .rintro _ _ ⟨rfl,r,rfl,W⟩;rw[bU];refine⟨λbd=>?_,λaK=>?_⟩
   .have W:=W.1 bd;refine⟨⟨q.1,B++[q],z.eraseIdx j,_,_,rfl,a7,an.F aE,O,(oS ii z j),aH,λp e=>?_⟩,aJ⟩;rcases o9.1 e with e|e
    .have:=ao p e;omega
    .rw[b8.1 e];exact .inr ⟨rfl,R6 _⟩
   .have W:¬(cs.count b<cs.count q.1\/(cs.count q.1=cs.count b/\q.1<b)):=λh=>by rw[W.2 h]at aK;cases aK
    refine⟨⟨b,B++[q],z.eraseIdx j,_,_,rfl,am,an.F aE,O,(oS ii z j),aH,λp e=>?_⟩,aJ⟩;rcases o9.1 e with e|e
    .exact ao p e
    .rw[b8.1 e];omega
  .intro ay au;have aL:∀K:x1->Prop,ab x7 (Instr.lookup nH (.map (σ m)) (Δ b) rs) aq K=K (Δ ((cs.count b:Nat):Int)):=λK=>by
    rw[sM nH.u s8 O.map (s9 E) ⟨_,rfl⟩ bb];simp
   rw[aL,bL,ai];refine⟨λh1=>au _ _ ⟨rfl,ro,rfl,⟨λ_=>.inl Ω,λ_=>rfl⟩⟩,λh1=>?_⟩;rw[aL,bh,ai];refine⟨λbf=>?_,λbf=>au _ _ ⟨rfl,rs,rfl,⟨λh=>(by cases h),λh=>Ω⟩⟩⟩;rw[aP];refine au _ _ ⟨rfl,_,rfl,?_⟩;rw[pl];omega
theorem Qa{g:Nat}{k:o5}{p:r9}(h:ao k e w g v l)(q:ag w j p cs)(x:e≠p)(s:li v r):r≠j:=by
 obtain⟨rfl,_⟩:=bE h s;obtain⟨_,⟨rfl,_⟩|⟨_,_,_,f,_⟩⟩:=h
 .obtain⟨a,n,c,h,_⟩:=s;cases h
 .rintro rfl;unfold ag at q f;rw[q]at f;injection f with h1;injection h1 with z y;exact x y.symm
def Qb(w:x3)(szs:Λ)(k:Int)(cs:Λ)(v:x1)(I:x3):Prop:=Ext w I/\∃g m o D,v=Γ g/\e2 I g m szs k o D/\D.length<=(aA szs).toNat/\jL szs (jI D o) cs/\vG cs o
theorem Qc{g bN:Nat}{cs:Λ}(h:ce w g bN sv szs k cs)(aE:∀c∈cs,cJ c k):aj x7 JW [Γ g] w (Qb w szs k cs):=by
 obtain⟨⟨a1,gs,a8,hm,cl⟩,⟨_,_,ba⟩,U,al⟩:=id h;have cm:=prod_bound U;have cn:=U.1;have bb:cs≠[]:=λhe=>by rw[he]at al;simp at al;omega
 refine jj func143 ?_;rw[cW dv.u];simp only[j0,aX];refine(nX h).X ?_;rintro bD V _ ⟨O,cp,cq,aF⟩;refine bx aw.i λam cr ct bc bd=>?_;have cu:=bd.lt;refine bt aw.i aF.ls.cells.1 aF.ls.cells.2 bd (by simp[T9]) λan bO cw ao=>?_;have ao:ag an am aw [bD]:=ao;have s2:=O.size;have cz:=bc.size;have bf:Ext V an:=bc.put bO Ω;have bh:=aF.W bf;have Z:=O.F bf;refine aV (λu aq=>∃a E m o K L,u=Γ a/\Ext an aq/\ag aq a fd [Γ E]/\an.heap.size<=m/\gq aq E m K L szs k o []/\vG cs o) ?_ ?_
 .rintro _ aq ⟨a,E,m,o,K,L,rfl,ac,e,cA,A,C⟩;have bP:=h.W (Z.F ac);have bQ:=ao.W ac;have bR:=bh.W ac;refine(nY bP).X ?_;rintro _ cB _ ⟨rfl,bS⟩;refine p1.X ?_;rintro _ aG _ ⟨bT,bi,rfl,cC,bj⟩;have P:=bS.F bT;have bk:=A.W P;have bU:=bQ.W P;have bm:=e.W P;have bV:=bR.W P;have bn:=hm.W ((Z.F ac).F P);have Q:=bk.2.2.1;have bW:=(Z.F ac).F P;have cD:=Z.size;have bX:=p0 (g:=bi) (B0:=aG.heap.size) (sv:=sv) U;refine mA.old ⟨Nat,rs,kt,#[Γ bi],_,_,_,_,λi I=>af (λr=>r=m) aG I/\∃D,D.length<=i/\gq I E m K L szs k o D/\∀(j:Nat)t,(bl szs)[j]?=σ t->jI D o t=if j<i then bg szs cs t else o,λ_ _ _=>False,rfl,bX.s,
   ?_,λ_ _ S h=>⟨h.1.W S,h.2.1.W S,Y2 h.2.2 S.size⟩,λ_ _ _ S ⟨h1,D,bY,bZ,ba⟩=>⟨h1.F (S.aa _),D,bY,bZ.W S,ba⟩,λ_ _ _ _ _ h=>h,⟨bj,bn.ls,p9 _⟩,⟨af.refl _ _,[],p9 _,bk,λj t _=>by rw[m5 Ω];rfl⟩,?_,?_,λ_ _ h=>h.elim,λ_ _ _ h=>h.elim⟩
  .rintro _ _ _ _ ⟨_,_,_,_,rfl,_⟩;rfl
  .rintro _ aN i _ b0 ⟨cF,cG,b2⟩ ⟨hi,rfl,cH,gt,b3,cI,y⟩ ⟨au,D,bq,aH,aJ⟩;cases b3;have aK:(bl szs)[i]?=σ (b1 szs (i:Int)):=re U.2 Ω;have b4:=rg U.2 hi;generalize b1 szs (i:Int)=t at*;have br:=OY U.2 al aK;intro b5 av _ _;intro b6 b7 _ _;have az:=av.F b7;have aA:af (λr=>r=m) aG b6:=au.F (az.aa _);rw[ax Ψ ((vF bm Q aA).cell rfl),ax Ψ ((vF bU Q aA).cell rfl),be aw.u ap.i Ψ (E1 bV Q aA).ls br];have aL:=aH.W az;refine(DR aL.is (y.W az).ls).X ?_;rintro _ cK _ ⟨_,b8⟩;obtain⟨rfl,aM,D',bs,bu⟩:=b8 ⟨b4,aE _ (x5 br)⟩;have aO:=aA.F aM;have cL:=bs.2;refine⟨⟨vF bj Q aO,(E1 bn Q aO).ls,Y2 b2 (Y2 az.size aM.size)⟩,⟨aO,D',Ω,aL.put aM bu,λj s M=>?_⟩,λh=>by cases h⟩;rw[bs.cost aL.is.nodup bu.nodup];by_cases bw:j=i
   .subst bw;rw[aK]at M;cases M;rw[m3 rfl,m3 Ω]
   .rw[m5 (λ(he:s=t)=>bw (P7 U.2 (by rw[<-he];exact M) aK)),aJ j s M];by_cases h1:j<i
    .rw[m3 h1,m3 Ω]
    .rw[m5 h1,m5 Ω]
  .rintro i b0 rfl ⟨au,D,bq,aH,aJ⟩;rw[ax Ψ ((vF bm Q au).cell rfl)];intro b5 av _;refine⟨(bW.put au Ω).F av,E,m,o,D,rfl,aH.is.W av,bq,⟨al,λt b9=>?_⟩,C⟩;obtain⟨j,M⟩:=P8 U.2 b9;have:=(x4.1 M).1;rw[j2 U.2]at this;rw[aJ j t M,m3 this]
 intro ay bz;intro z ad _ _;have aP:=Z.F ad;have bA:=ad;have aB:=h.W aP;have bB:=bh.W ad;have cM:=ad.size;rw[ax Ψ ((ao.W ad).cell rfl)];have bC:∀{a:Nat}{I:x3}{aN:x1}{o:Int},Ext z I->z.heap.size<=a->(∃f,ag I a fd [f])->aI .i64 I aN szs->vG cs o->
   aj x7 qT [aN,Δ k,Δ o] I λB q=>ab x7 (c8 B 0) q λN=>ab x7 (c8 B 1) q λ_=>aC x7 (o7 fd (Γ a) N) q λ(_:Unit)G=>ay (Γ a) G:=by
  rintro a I aN o x p ⟨f,e⟩ y C;refine(DL y).X ?_;rintro _ q _ ⟨aQ,_,_,aR⟩;obtain⟨E,m,rfl,ca,cb,A⟩:=aR U (aE _ C.1);obtain⟨K,L,A⟩:=A.at;rw[bo,bp];have cc:=e.lt;have s':=x.size;refine bt fd.i rfl rfl (e.W aQ) Ξ λG bE cN cd=>?_;refine bz _ _ ⟨a,E,m,o,K,L,rfl,((bA.F x).F aQ).put bE Ω,cd,Ω,A.aa bE (λhe=>by have he:=he;omega) (λhe=>by have he:=he;omega) (λr aS he=>?_),C⟩;exact Qa A.2.1 (e.W aQ) Φ aS he
 have bF:∀{a:Nat}{I:x3}{aN:x1},Ext z I->z.heap.size<=a->(∃f,ag I a fd [f])->aI .i64 I aN szs->
   aj x7 uz [bD] I λae V=>aj x7 qT [aN,Δ k,ae] V λB q=>ab x7 (c8 B 0) q λN=>ab x7 (c8 B 1) q λ_=>aC x7 (o7 fd (Γ a) N) q λ(_:Unit)G=>ay (Γ a) G:=by
  rintro a I aN x p ⟨f,e⟩ y;refine(E3 (bB.W x).ls bb Ω).X ?_;rintro _ V _ ⟨O,o,rfl,C⟩;exact bC (x.F O) p ⟨f,e.W O⟩ (y.W O) C
 have bG:∀{a:Nat}{I:x3}{aN:x1},Ext z I->z.heap.size<=a->(∃f,ag I a fd [f])->aI .i64 I aN szs->
   aj x7 xB [Γ g] I λaT J=>(Ext z J\/cE x7 (u4 aw (Γ am)) bD J/\True)/\
    aj x7 uz [bD] J λae V=>aj x7 qT [aN,aT,ae] V λB q=>ab x7 (c8 B 0) q λN=>ab x7 (c8 B 1) q λ_=>aC x7 (o7 fd (Γ a) N) q λ(_:Unit)G=>ay (Γ a) G:=by
  rintro a I aN x p ⟨f,e⟩ y;refine(yn (aB.W x)).X ?_;rintro _ J _ ⟨rfl,H⟩;exact⟨.inl (x.F H),bF (x.F H) p ⟨f,e.W H⟩ (y.W H)⟩
 have bH:szs.length<=1000:=Ω
 have bI:∀{a:Nat}{I:x3},Ext z I->z.heap.size<=a->(∃f,ag I a fd [f])->
   aj x7 xx [.agg #[sv]] I λcf w0=>(Ext z w0\/cE x7 (u4 aw (Γ am)) bD w0/\True)/\
    aj x7 xB [Γ g] w0 λaT J=>(Ext z J\/cE x7 (u4 aw (Γ am)) bD J/\True)/\
    aj x7 uz [bD] J λae V=>aj x7 qT [cf,aT,ae] V λB q=>ab x7 (c8 B 0) q λN=>ab x7 (c8 B 1) q λ_=>aC x7 (o7 fd (Γ a) N) q λ(_:Unit)G=>ay (Γ a) G:=by
  rintro a I x p ⟨f,e⟩;refine(vd (hm.W (aP.F x)).ls bH).X ?_;rintro aN J _ ⟨H,_,_,y⟩;exact⟨.inl (x.F H),bG (x.F H) p ⟨f,e.W H⟩ y.ls⟩
 have ah:∀{I:x3}{R:x1->x3->Prop},Ext z I->(∀a ai,z.heap.size<=a->Ext I ai->(∃f,ag ai a fd [f])->R (Γ a) ai)->aC x7 (S5 fd ro (.tuple #[])) I R:=λ{I}{R}x cg=>by
  have:=x.size;exact bx fd.i λa ai p ch a8=>cg a ai Ω ch ⟨_,a8⟩
 refine⟨?_,ah (Ext.refl _) λa cO p aD e=>⟨.inl aD,?_⟩⟩
 rotate_left
 .refine (nY (aB.W aD)).X ?_;rintro _ cP _ ⟨rfl,aU⟩;obtain⟨f,e⟩:=e;exact⟨.inl (aD.F aU),bI (aD.F aU) p ⟨f,e.W aU⟩⟩
 refine(nY aB).X ?_;rintro _ cQ _ ⟨rfl,W⟩;refine⟨.inl W,?_,ah W λa cR p bJ e=>⟨.inl (W.F bJ),bI (W.F bJ) p e⟩⟩;refine(vd (hm.W (aP.F W)).ls bH).X ?_;rintro aN cS _ ⟨ci,_,_,y⟩;have X:=W.F ci;refine⟨.inl X,?_,ah X λa cT p aW e=>⟨.inl (X.F aW),bG (X.F aW) p e (y.W aW).ls⟩⟩;refine(yn (aB.W X)).X ?_;rintro _ cU _ ⟨rfl,aY⟩;have Y:=X.F aY;refine⟨.inl Y,?_,ah Y λa cV p aZ e=>⟨.inl (Y.F aZ),bF (Y.F aZ) p e ((y.W aY).W aZ).ls⟩⟩;refine(E3 (bB.W Y).ls bb Ω).X ?_;rintro _ cX _ ⟨bK,o,rfl,C⟩;have ak:=Y.F bK;have bL:=(y.W aY).W bK;refine⟨?_,ah ak λa cY p a2 e=>⟨.inl (ak.F a2),bC (ak.F a2) p e (bL.W a2).ls C⟩⟩;refine(DL bL.ls).X ?_;rintro _ cZ _ ⟨cj,_,_,aR⟩;obtain⟨E,m,rfl,ca,cb,A⟩:=aR U (aE _ C.1);obtain⟨K,L,A⟩:=A.at;rw[bo,bp];have a6:=ak.F cj;refine bx fd.i λa c0 p a7 e=>?_;refine⟨.inl (a6.F a7),?_⟩;have cc:=e.lt;obtain⟨c1,c2,t3⟩:=A.sK;have c3:=ak.size;have c4:=a6.size;refine bt fd.i rfl rfl e (by simp[T9]) λc5 bM c6 ck=>?_;exact bz _ _ ⟨a,E,m,o,K,L,rfl,((bA.F a6).F a7).put bM Ω,ck,Ω,(A.W a7).aa bM (λhe=>by have he:=he;omega) (λhe=>by have he:=he;omega) (λr aS he=>by have he:r=a:=he;have:=t3 r aS;omega),C⟩
theorem E4{acc:List c4}{g:c4}(h:∀x∈acc,x.1≠g.1):jH k acc g=acc++[g]:=by
 grind [jH]
theorem Qd{acc:List c4}{g h:c4}{i:Nat}(e:kL acc)(hi:acc[i]?=σ h)(he:h.1=g.1):jH k acc g=acc.set i (h.1,bV k h.2 g.2):=by
 have p:=(x4.1 hi).1;unfold jH;rw[m3 (o8.2 ⟨h,x5 hi,he⟩)];refine j5 λj=>?_;rw[x8,Y4];by_cases a:i=j
 .grind
 .rw[m5 a];cases q:acc[j]? with
  |none=>rfl
  |some y=>
   have:y.1≠g.1:=λr=>a (by
    have h1:(acc.map (·.1))[i]?=σ g.1:=by grind
    have f:(acc.map (·.1))[j]?=σ g.1:=by grind
    exact mV e h1 f)
   grind
theorem Qe{α β:Type}{f:β->α->β}{b:β}{l:List α}{i:Nat}{x:α}(h:l[i]?=σ x):(l.take (i+1)).foldl f b=f ((l.take i).foldl f b) x:=by
 grind [u7]
def oU(w:x3)(k:Int)(co:Λ)(x:cw):Prop:=(∃a,ao .i64 ae w a x.sv x.sc)/\∃m o D,e2 w x.g m (aB co x.sc) k o D/\D.length<=4096/\jL (aB co x.sc) (jI D o) x.cs
theorem oU.W{x:cw}(h:oU w k co x)(a:Ext w I):oU I k co x:=by
 obtain⟨⟨e,h1⟩,m,o,D,f,j⟩:=h;exact⟨⟨e,h1.W a⟩,m,o,D,f.W a,j⟩
theorem oU.aa{x:cw}(h:oU w k co x)(f:af S w I)(j:∀r,S r->∃e c,ag w r e c/\e≠fP/\e≠ae):oU I k co x:=by
 obtain⟨⟨s,h1⟩,m,o,D,y,z⟩:=h;obtain⟨sv,gs,a⟩:=y.at;have p:∀{g:Nat}{v:x1}{l:Λ},ao .i64 ae w g v l->∀r,li v r->¬S r:=by grind [cj]
 refine⟨⟨s,bk h1 f (p h1)⟩,m,o,D,(a.aa f (λU=>?_) (λU=>?_) (p a.2.1)).is,z⟩
 .obtain⟨e,c,q,A,_⟩:=j _ U;have B:=a.1
  grind [ag]
 .obtain⟨e,c,q,_,_⟩:=j _ U;exact vw q a.2.2.1 rfl
def ta(w:x3)(g:Nat)(v:x1)(k:Int)(co:Λ)(L:List cw):Prop:=bj fk 2 cN w g v L/\∀x∈L,oU w k co x
theorem ta.W{g:Nat}{L:List cw}(h:ta w g v k co L)(a:Ext w I):ta I g v k co L:=⟨h.1.W a,λx e=>(h.2 x e).W a⟩
def Qf(w:x3)(B a:Nat)(f:b5):Prop:=∃d9 e gz g L,ag w a cG [cc f.name,Δ f.k,d9,e]/\ao .i64 ae w gz d9 f.co/\ta w g e f.k f.co L/\L.map ed=gk f/\B<=a/\(∀r,li d9 r->B<=r)/\∀x∈L,∀r,li x.sv r->B<=r
theorem Qg{g bu:Nat}{L:List cw}{q:Λ}(h:fs w g v L)(B:ag w bu al [sv])(U:aI .i64 w sv q):
  aj x7 BK [v,.func (.func BL) #[] #[Γ bu]] w λr I=>Ext w I/\((r=Δ (-1)/\∀x∈L,x.sc≠q)\/∃i:Nat,r=Δ (i:Int)/\∃x,L[i]?=σ x/\x.sc=q):=by
 refine az func131 ?_;rw[e3 gF.u h.1];refine b2.range L.length (λi _ J=>Ext w J/\∀x∈L.take i,x.sc≠q) h.1.le ⟨Ext.refl _,λc a=>by simp at a⟩ ?_ ?_
 .rintro i _ J k hi ⟨f,s⟩ hk;refine bC Ω ?_;obtain⟨x,y⟩:=aF (l:=L) hi;rw[vE rfl (h.W f) y];show aj x7 BL [ly x,Γ bu] J _;obtain⟨⟨E,hm⟩,_⟩:=(h.W f).at y;refine az func132 ?_;refine bm λak V G j z=>?_;have z:ag V ak db [x.sv,Γ x.g]:=by
   obtain⟨_,_,_,e⟩:=cP hm.ls;simp only[ly,fk,e]at z ⊢;exact z
  rw[aQ db.p 0 z rfl,ax Ψ ((B.W (f.F j)).Qz rfl)];refine(uK (hm.ls.W j) (U.W (f.F j))).X ?_;rintro _ H _ ⟨rfl,A⟩;rw[ai];refine⟨λhe=>⟨(f.F j).F A,.inr ⟨i,rfl,x,y,he⟩⟩,λC=>?_⟩;rw[aM];refine hk _ _ ⟨(f.F j).F A,λc a=>?_⟩;rw[u7,y]at a;rcases o9.1 a with a|a
  .exact s c a
  .simp at a;subst a;exact C
 .rintro _ J k ⟨f,s⟩;rw[o6]at s;rw[aP,ai];exact⟨λh=>Ω,λ_=>⟨f,.inl ⟨rfl,s⟩⟩⟩
def e5(f:b5)(i:Nat):List c4:=((f.d7.take i).map (jG f.co f.k)).foldl (jH f.k) []
theorem E5{f:b5}(a:fh N f)(i:Nat):(∀g∈e5 f i,ey f.co f.k g)/\kL (e5 f i)/\(e5 f i).length<=i:=by
 have:=yI (co:=f.co) (k:=f.k) (by have:=a.k.1;omega) (l:=(f.d7.take i).map (jG f.co f.k)) (acc:=[]) (λh an=>by cases an) List.nodup_nil λg j=>by
  obtain⟨x,p,rfl⟩:=o8.1 j;exact ry a (U1 p)
 refine⟨this.1,this.2.1,?_⟩;have e:=this.2.2;rw[List.length_nil,o4,W7,c7]at e;exact Y2 e (Nat.min_le_left _ _)
theorem yV{f:b5}{i:Nat}{x:cq}(h:f.d7[i]?=σ x):e5 f (i+1)=jH f.k (e5 f i) (jG f.co f.k x):=by
 unfold e5;rw[u7,h,l9,l7,List.foldl_append];rfl
theorem E6(f:b5):e5 f f.d7.length=gj f:=by unfold e5 gj;rw[o6]
theorem E7{L:List cw}{i:Nat}{x:cw}{D:List c4}(h:L.map ed=D)(a:L[i]?=σ x):ed x∈D:=by rw[<-h];exact o8.2 ⟨x,x5 a,rfl⟩
def Qh(w:x3)(f:b5)(v:x1)(I:x3):Prop:=Ext w I/\((¬jM f.d7<=16384/\∃e:Int,e≠0/\v= .tuple #[.pointer ν,Δ e])\/∃a,v= .tuple #[Γ a,Δ 0]/\Qf I w.heap.size a f)
theorem vH{g e:Nat}{sc cs:Λ}(hm:ao .i64 ae w g sv sc):∀u∈fk ⟨sv,e,sc,cs⟩,u.oneCell'=ro:=λu a=>by
 simp[fk]at a;rcases a with rfl|rfl
 .exact hm.ls.cells.2
 .rfl
theorem Qi{bG:Nat}{f:b5}(bH:m4 w bG f)(G:fh N f)(bI:N<=60000)(cO:f.name≠[]/\∀b∈f.name,b7 b=ro):
  aj x7 I0 [Γ bG] w (Qh w f):=by
 have hk:=G.k;refine az func63 ?_;refine(PG bH G bI cO).X ?_;rintro _ J _ ⟨aI,e,rfl,he⟩;rw[bJ,ai];refine⟨λbK=>⟨aI,.inl ⟨λh=>bK (he h),e,bK,rfl⟩⟩,λea=>?_⟩;have bL:=bH.W aI;obtain⟨d9,aJ,gz,a2,bM,cQ,a6,aL⟩:=id bL;have eb:a2.length<=256:=by rw[aL.1];exact G.mT
 rw[aK cG.p 3 bM rfl,kB dQ.u a6];refine b2.range a2.length (λi l V=>∃g L,Ext J V/\fs V g l L/\Sem V f.k f.co L/\L.map ed=e5 f i/\(∀r,lc l r->J.heap.size<=r)/\∀x∈L,∀r,li x.sv r->J.heap.size<=r) (uI a6)
  ⟨0,[],Ext.refl _,⟨bj.nil _ _ _ _ _,λx ap=>(by cases ap)⟩,λx ap=>(by cases ap),rfl,by grind [gm],by grind⟩ ?_ ?_
 .rintro i l V cR hi ⟨g,L,R,au,aN,S,bN,cS⟩ ec;obtain⟨d,bO⟩:=aF (l:=a2) hi;obtain⟨x,a7⟩:∃x,f.d7[i]?=σ x:=⟨_,x6 (by have:=aL.1;omega)⟩;have bP:=x5 a7;have cT:=aL.2 i x d a7 bO;have U:=ry G bP;obtain⟨cU,ee,ef⟩:=E5 G i;have cV:L.length<=i:=by grind
  refine bC Ω ?_;refine aV (λfx aO=>∃W av,Ext J aO/\fs aO W fx av/\Sem aO f.k f.co av/\av.map ed=e5 f (i+1)/\(∀r,lc fx r->J.heap.size<=r)/\∀x∈av,∀r,li x.sv r->J.heap.size<=r) ?_ ?_
  .rintro fx aO ⟨W,av,h1,eg,eh,ei,ej⟩;rw[aM]
   grind
  intro ay bQ;refine pL (α:=iB) cN.p rfl dQ.u cN.i (b6 a6 R) bO λcs a8=>?_;have bT:cs.length=2:=aq.len a8;refine bx cN.i λak ek em cW cX=>?_;refine cb (vs:=cs) cN.i bT rfl (aq.one a8) cX λcY cZ en c0=>?_;have H:Ext V cY:=cW.put cZ Ω;rw[bB cN.p cN.i bT c0.range];refine(PQ G bI bP cT (b6 a8 H)).X ?_;rintro _ c1 _ ⟨c2,sv,gs,bU,c3,c4,rfl,eo,X,bW⟩;rw[bo,bp];refine bx al.i λbu ep er c5 c6=>?_;refine bt al.i X.ls.cells.1 X.ls.cells.2 c6 (by simp[T9]) λbX c7 es aP=>?_;have ba:Ext c1 bX:=c5.put c7 Ω;have aP:ag bX bu al [sv]:=aP;rw[j1];have bb:=(H.F c2).F ba;have z28:=bb.size;have et:=R.size;refine(Qg (au.W bb) aP (X.ls.W ba)).X ?_;rintro _ eu _ ⟨aR,A⟩;have aS:=bb.F aR;have bY:=ba.F aR;have bc:=X.W bY;have bZ:=bW.W bY;have b0:=aP.W aR;have b1:=au.W aS;have bd:=aN.W aS;rcases A with⟨rfl,c8⟩|⟨c9,rfl,y,C,da⟩
  .refine bC Ω ?_;rw[ax Ψ (b0.Qz rfl),dw (cs:=#[sv,Γ bU]) (by obtain⟨_,_,_,rfl⟩:=cP X.ls;kernel_rfl)];let a:cw:=⟨sv,bU,bz x.scope,(jG f.co f.k x).2⟩;have be:∀u∈fk a,u.oneCell'=ro:=vH bc;refine iV (f:=fk) (a:=a) gF.u db.i Ω rfl rfl λev ew dc ez Y dd=>?_;have Z:=b1.W Y;refine jo (f:=fk) (a:=a) gF.u db.i rfl Z.1 (by simpa using dd.sl) be Ω Ω λaw W eA aC b3 aD=>?_;have b4:=bc.W Y;have ca:∀{r:Nat},lc l r->∃c,ag dc r db c:=λA=>by
    obtain⟨rfl,c,B⟩:=dN Z.1 A
    grind
   refine bQ _ _ ⟨W,L++[a],((R.F aS).F Y).then aD (by grind),fs.mk aC λz s=>?_,λz s=>?_,?_,λr A=>?_,λz s r A=>?_⟩
   .rcases o9.1 s with s|s
    .have:=(Z.2 z s).aa aD λr A he=>(Z.2 z s).2.1 r A (Z.1.li he).1;exact⟨this.1,this.2.2⟩
    .rw[b8.1 s];exact⟨⟨gs,bk b4 aD λr A he=>by obtain⟨c,B⟩:=ca he;exact cj b4 B Φ A rfl⟩,U.scope⟩
   .rcases o9.1 s with s|s
    .exact (bd.W Y).row Z aD z s
    .rw[b8.1 s];exact⟨c3,c4,yR (bZ.W Y) aD Ω⟩
   .rw[l7,S,yV a7,E4]
    .rfl
    .intro c E de;rw[<-S]at E;obtain⟨z,s,rfl⟩:=o8.1 E;exact c8 z s de
   .rcases b3 r A with h|h
    .grind
    .have:=Y.size;have:=aR.size;omega
   .rcases o9.1 s with s|s
    .grind
    .rw[b8.1 s]at A;have eB:=(bE X A).1;have:=H.size;omega
  .refine ci Ω ?_;intro eC K _ _;have bf:=b1.W K;have cd:=(x4.1 C).1;obtain⟨df,dg,aU⟩:=(bd.W K) y (x5 C);have ce:=b0.W K;have cf:=bc.W K;have dh:=bZ.W K;rw[dm rfl gF.u db.i bf.1 cd,aT db.p rfl,ax Ψ (bf.1.range C 1 _ rfl),ax Ψ (ce.Qz rfl),ax Ψ (ce.Qz rfl)];have aE:ey f.co f.k (ed y):=cU _ (E7 S C);rw[da]at aU;have cg:∀{c:Int},0<=c/\c<=f.k->cJ c f.k:=λh=>⟨hk,h.1,h.2⟩;refine(EY aU dh cf.ls cf.ls hk (λc E=>cg (aE.gM c E)) (λc E=>cg (U.gM c E))).X ?_;intro eD di _ dj;have dk:y.cs.length=(aA (aB f.co (bz x.scope))).toNat:=by grind [ey.len,ed]
   have dl:bS (aB f.co (bz x.scope)):=bW.2.2.1;obtain⟨bg,dn,dp,dq,eE,rfl,eF⟩:=P5 U.up (λv dr=>(U.scope.1 v dr).1) (by simp[aB];rfl) dl U.small dk U.len dj;rw[gX,gY,gZ];have O:=bf.W bg;rw[dm rfl gF.u db.i O.1 cd,aT db.p rfl];let a:cw:=⟨y.sv,dn,y.sc,bV f.k y.cs (jG f.co f.k x).2⟩;refine rr (f:=fk) (j:=1) (a:=y) (a':=a) dv.i rfl rfl O.1 C rfl Ω λds aW eH dt=>?_;have ca:∀{r:Nat},lc l r->∃c,ag di r db c:=λA=>by
    obtain⟨rfl,c,B⟩:=dN O.1 A
    grind
   refine bQ _ _ ⟨g,L.set c9 a,((R.F aS).F (K.F bg)).then aW (by grind),fs.mk dt λz s=>?_,λz s=>?_,?_,bN,λz s=>?_⟩
   .have eI:∀z∈L,(∃bh,ao .i64 ae ds bh z.sv z.sc)/\l3 z.sc:=λz s=>by
     have:=(O.2 z s).aa aW λr A he=>(O.2 z s).2.1 r A (O.1.li he).1;exact⟨this.1,this.2.2⟩
    grind
   .rcases T8 s with s|rfl
    .exact ((bd.W K).W bg).row O aW z s
    .refine⟨dp,dq,yR ?_ aW Ω⟩
     grind
   all_goals grind [V3,yV,Qd,jG,ed]
 .rintro l V cR ⟨g,L,R,au,aN,S,bN,cS⟩;refine ci Ω ?_;rw[aL.1,E6]at S;have cV:L.length<=256:=by
   grind [mY,fh.mT]
  refine(PW au aN Ω).X ?_;rintro eJ ch _ ⟨ck,cl,eK⟩;have du:Ext J ch:=R.then ck (by grind);have dx:Sem ch f.k f.co (L.filter gv):=λz s=>(aN.row au ck) z (by grind);have eL:(L.filter gv).length<=L.length:=List.length_filter_le _ _;refine(PN cl Ω).X ?_;rintro _ cn _ ⟨cp,M,bi,dy,cq⟩;have dz:Ext J cn:=du.then cp (by grind);have cr:Sem cn f.k f.co M:=λz s=>(dx.row cl cp) z (bi.mem_iff.1 s);have eM:M.length<=256:=by rw[bi.length_eq];omega
  have eN:∀x∈M,∀r,li x.sv r->J.heap.size<=r:=by grind
  have dA:M.map ed=gk f:=by
   refine OL G ?_ ?_
   .refine (bi.map ed).F ?_;rw[<-S,List.filter_map];exact .refl _
   .rw[List.pairwise_map];refine X9.2 λp q dC ct dD=>?_;exact dy p q _ _ (X7 _) dD ct (x6 dC) (x6 ct)
  intro eO aX _ _;have ab:=dz.F aX;have eP:=bL.W ab;have bl:=bM.W ab;rw[aK cG.p 0 bl rfl,aK cG.p 1 bl rfl,aK cG.p 2 bl rfl];refine(j3 (cQ.ls.W ab) (by have:=G.co.2.1;omega)).X ?_;rintro aG cu _ ⟨P,dE,eQ,bn⟩;refine⟨.inl P,?_⟩;rw[dw (cs:=#[cc f.name,Δ f.k,aG,.slice ν 0 0]) (by obtain⟨_,_,_,rfl⟩:=cP bn.ls;kernel_rfl)];refine bm λQ dF eR aY bq=>?_;have bq:ag dF Q cG [cc f.name,Δ f.k,aG,.slice ν 0 0]:=bq;have eS:=(ab.F P).F aY;have dG:=((cq.W aX).W P).W aY;have eU:=((cr.W aX).W P).W aY;rw[e3 gF.u dG.1];refine cm.range M.length (λi ac=>∃aJ gr I,Ext cu ac/\ag ac Q cG [cc f.name,Δ f.k,aG,aJ]/\ta ac gr aJ f.k f.co I/\I.map ed=(M.take i).map ed/\I.length=i/\(∀r,lc aJ r->cu.heap.size<=r)/\∀x∈I,∀r,li x.sv r->J.heap.size<=r) Ω
   ⟨_,0,[],aY,bq,⟨bj.nil _ _ _ _ _,λx ap=>(by cases ap)⟩,rfl,rfl,by grind [gm],by grind⟩ ?_ ?_
  rotate_left
  .rintro ac dH ⟨aH,gr,I,ah,am,br,aZ,_,_,dI⟩;rw[o6,dA]at aZ;refine ci Ω ?_;have eV:=aI.size;have eW:=ab.size;have eX:=P.size;exact⟨(aI.F (ab.F P)).F ah,.inr ⟨Q,rfl,aG,aH,dE,gr,I,am,bn.W ah,br,aZ,Ω,λr A=>by have:=(bE bn A).1;omega,by grind⟩⟩
  rintro i ac dH hi ⟨aH,gr,I,ah,am,br,aZ,eY,dJ,dI⟩ dK;obtain⟨y,C⟩:=aF (l:=M) hi;have cz:=(aX.F P).F ah;have cA:=cq.W cz;have cB:=cA.at C;obtain⟨df,dg,aU⟩:=(cr.W cz) y (x5 C);have aE:ey f.co f.k (ed y):=by grind [vr]
  refine bC Ω ?_;rw[vE rfl cA C];refine bx db.i λgy eZ e0 dL dM=>?_;refine cb (vs:=fk y) db.i rfl rfl cB.one dM λdO dP e1 dR=>?_;have dS:Ext ac dO:=dL.put dP Ω;intro e2 cC _ _;have bs:=dS.F cC;have cD:=dR.W cC;have dT:=am.W bs;rw[aK cG.p 3 dT rfl,aQ db.p 0 cD rfl,aQ db.p 1 cD rfl];refine(Qc (aU.W bs) λc E=>⟨hk,(aE.gM c E).1,(aE.gM c E).2⟩).X ?_;rintro _ e4 _ ⟨bw,ad,m,o,D,rfl,dU,e6,dV,_⟩;refine⟨.inl bw,?_⟩;have cE:=bs.F bw;obtain⟨⟨bh,cF⟩,_,e7⟩:=cB;have cH:=cF.W cE;rw[dw (cs:=#[y.sv,Γ ad]) (by obtain⟨_,_,_,e⟩:=cP cF.ls;rw[e];kernel_rfl)];let a:cw:=⟨y.sv,ad,y.sc,y.cs⟩;have be:∀u∈fk a,u.oneCell'=ro:=vH cH;refine iV (f:=fk) (a:=a) dQ.u cN.i Ω rfl rfl λv25 e8 bA e9 H dW=>?_;refine⟨.inl (bw.F H),?_⟩;have an:=cE.F H;have a1:=br.W an;refine jo (f:=fk) (a:=a) dQ.u cN.i rfl a1.1 (by simpa using dW.sl) be Ω Ω λaw W dX aC b3 cI=>?_;have fa:=ah.size;have fb:=an.size;have bD:ag dX Q cG [cc f.name,Δ f.k,aG,aH]:=(am.W an).aa cI λhe=>by
   obtain⟨rfl,c,B⟩:=dN a1.1 he;have h1:=am.W an;unfold ag at B h1;rw[h1]at B;exact m6 (Obj.cells.inj (Z7 B)).2.1 Φ
  rw[bR,aT cG.p rfl];have cK:aw.cells= #[aw]/\aw.oneCell'=ro:=by
   obtain⟨_,_,_,_,_,rfl,_⟩:=aC.sl;exact⟨rfl,rfl⟩
  refine bt dQ.i cK.1 cK.2 bD Ξ λdY cL fc dZ=>?_;rw[aM];have bF:af (λr=>r=Q\/lc aH r) bA dY:=(cI.X λr _ h=>.inr h).F (cL.X λr _ h=>.inl h);have cM:∀r,(r=Q\/lc aH r)->∃e c,ag bA r e c/\e≠fP/\e≠ae:=λr A=>by
   rcases A with rfl|A
   .exact⟨_,_,am.W an,Φ,Φ⟩
   .obtain⟨rfl,c,B⟩:=dN a1.1 A;exact⟨_,c,B,Φ,Φ⟩
  refine dK _ ⟨aw,W,I++[a],?_,dZ,⟨aC.aa cL λr A he=>?_,λz s=>?_⟩,?_,by grind,λr A=>?_,λz s=>?_⟩
  .exact (ah.F an).then bF λr A he=>by
    rcases he with rfl|he
    .omega
    .have:=dJ r he;omega
  .have he:r=Q:=he;subst he;obtain⟨rfl,c,B⟩:=dN aC A;unfold ag at B bD;rw[bD]at B;exact m6 (Obj.cells.inj (Z7 B)).2.1 Φ
  .rcases o9.1 s with s|s
   .exact (a1.2 z s).aa bF cM
   .rw[b8.1 s];refine oU.aa (w:=bA) ⟨⟨bh,cH.W H⟩,m,o,D,dU.W H,?_,dV⟩ bF cM;have:=aE.small
    grind [ed]
  .rw[l7,aZ,u7,C,l7];rfl
  all_goals grind
theorem eI{a:r9}{c f:List x1}(h:ag w r e c)(bi:ag w r a f):e=a:=by
 grind [ag]
theorem cO{α:Type}{f:α->List x1}{k:Nat}{a:r9}{g:Nat}{L:List α}(h:bj f k e w g v L)(q:ag w j a cs)(r:e≠a):¬lc v j:=λp=>by
 obtain⟨rfl,c,s⟩:=dN h p
 grind [eI]
structure m8 where
 v:x1
 l:Λ
def tb(h:m8):List x1:=[h.v]
def iY(w:x3)(g:Nat)(v:x1)(aW:List m8):Prop:=bj tb 1 aw w g v aW/\∀h∈aW,∃a,ao .i64 ap w a h.v h.l
theorem iY.W{g:Nat}{aW:List m8}(h:iY w g v aW)(a:Ext w I):iY I g v aW:=⟨h.1.W a,λx e=>by
 obtain⟨f,hm⟩:=h.2 x e;exact⟨f,hm.W a⟩⟩
theorem iY.tc{g:Nat}{aW:List m8}(h:iY w g v aW)(j:af S w I)(p:∀r,S r->∃e c,ag w r e c/\e≠ap):∀h∈aW,∃a,ao .i64 ap I a h.v h.l:=λx f=>by
 obtain⟨a,hm⟩:=h.2 x f;exact⟨a,by grind [bk,cj]⟩
theorem iY.aa{g:Nat}{aW:List m8}(h:iY w g v aW)(a:af S w I)(f:∀r,S r->∃e c,ag w r e c/\e≠ap/\e≠aw):iY I g v aW:=
 ⟨h.1.aa a λr j U=>by
  obtain⟨e,c,p,_,q⟩:=f r U;exact cO h.1 p (by grind) j,h.tc a (by grind)⟩
def qc(w:x3)(k:Int)(co:Λ)(x:cw):Prop:=(∃a,ao .i64 ae w a x.sv x.sc)/\∃e f,ce w x.g e f (aB co x.sc) k x.cs
theorem qc.W{x:cw}(h:qc w k co x)(a:Ext w I):qc I k co x:=by
 obtain⟨⟨e,h1⟩,f,j,p⟩:=h;exact⟨⟨e,h1.W a⟩,f,j,p.W a⟩
theorem E8{g f:Nat}{j:x1}{cs:Λ}(h:ce w g f j szs k cs)(a:af S w I)(y:∀r,S r->∃e c,ag w r e c/\e≠cu/\e≠ae/\e≠ap):ce I g f j szs k cs:=by
 obtain⟨⟨a1,gs,h1,p,q⟩,s⟩:=h;refine⟨⟨a1,gs,h1.aa a λU=>?_,bk p a λr x U=>?_,bk q a λr x U=>?_⟩,s⟩
 all_goals grind [eI,cj]
theorem qc.aa{x:cw}(h:qc w k co x)(a:af S w I)(f:∀r,S r->∃e c,ag w r e c/\e≠cu/\e≠ae/\e≠ap):qc I k co x:=by
 obtain⟨⟨j,h1⟩,p,q,s⟩:=h;refine⟨⟨j,bk h1 a λr y U=>?_⟩,p,q,E8 s a f⟩
 grind [cj]
def qd(w:x3)(g:Nat)(v:x1)(k:Int)(co:Λ)(L:List cw):Prop:=bj fk 2 iN w g v L/\∀x∈L,qc w k co x
theorem qd.W{g:Nat}{L:List cw}(h:qd w g v k co L)(a:Ext w I):qd I g v k co L:=⟨h.1.W a,λx e=>(h.2 x e).W a⟩
theorem qd.aa{g:Nat}{L:List cw}(h:qd w g v k co L)(a:af S w I)(f:∀r,S r->∃e c,ag w r e c/\e≠iN/\e≠cu/\e≠ae/\e≠ap):qd I g v k co L:=
 ⟨h.1.aa a λr j U=>by
  obtain⟨e,c,p,s,_⟩:=f r U;exact cO h.1 p (by grind) j,λx q=>(h.2 x q).aa a (by grind)⟩
def gw(w:x3)(h:Nat)(n:aD):Prop:=∃a e f j gr aW L nm d9 gz fv2,ag w h gb [Γ a,Δ n.zero,e,f]/\ag w a cG [nm,Δ n.k,d9,fv2]/\ao .i64 ae w gz d9 n.co/\
 iY w j e aW/\aW.map (·.l)=n.unary/\qd w gr f n.k n.co L/\L.map ed=n.d7
theorem gw.W{e:Nat}{n:aD}(h:gw w e n)(a:Ext w I):gw I e n:=by
 obtain⟨f,j,p,q,gr,aW,L,nm,d9,gz,fv2,h1,r,s,x,y,z,A⟩:=h;exact⟨f,j,p,q,gr,aW,L,nm,d9,gz,fv2,h1.W a,r.W a,s.W a,x.W a,y,z.W a,A⟩
def td(w:x3)(B:Nat)(k:Int)(co:Λ)(x:cw):Prop:=(∃f,ao .i64 ae w f x.sv x.sc)/\(∃a e,ce w x.g a e (aB co x.sc) k x.cs/\B<=a/\∀r,li e r->B<=r)/\B<=x.g/\∀r,li x.sv r->B<=r
theorem td.aa{x:cw}(h:td w B k co x)(a:af S w I)(f:∀r,S r->∃e c,ag w r e c/\e≠cu/\e≠ae/\e≠ap):td I B k co x:=by
 obtain⟨⟨j,h1⟩,⟨p,q,s,y⟩,z⟩:=h;refine⟨⟨j,bk h1 a λr A U=>?_⟩,⟨p,q,E8 s a f,y⟩,z⟩
 grind [cj]
def n7(w:x3)(B g:Nat)(v:x1)(k:Int)(co:Λ)(L:List cw):Prop:=bj fk 2 iN w g v L/\∀x∈L,td w B k co x
theorem n7.W{g:Nat}{L:List cw}(h:n7 w B g v k co L)(a:Ext w I):n7 I B g v k co L:=⟨h.1.W a,λx e=>(h.2 x e).aa (a.aa λ_=>False) λ_ h=>h.elim⟩
theorem n7.aa{g:Nat}{L:List cw}(h:n7 w B g v k co L)(a:af S w I)(f:∀r,S r->∃e c,ag w r e c/\e≠iN/\e≠cu/\e≠ae/\e≠ap):n7 I B g v k co L:=
 ⟨h.1.aa a λr j U=>by
  obtain⟨e,c,p,s,_⟩:=f r U;exact cO h.1 p (by grind) j,λx q=>(h.2 x q).aa a (by grind)⟩
theorem E9:∃o:Obj,fK o=rs:=⟨.deferred ν,rfl⟩
theorem ghost(w:x3)(B:Nat):∃w0,Ext w0 w/\af (λr=>r<B) w w0/\∀r o,w0.heap[r]?=σ o->fK o=ro->B<=r:=by
 obtain⟨cD,e⟩:=E9;have f:∀r,(w.heap.mapIdx λr o=>if r<B then cD else o)[r]?=(w.heap[r]?).map λo=>if r<B then cD else o:=λr=>Ξ
 refine⟨{w with heap:=w.heap.mapIdx λr o=>if r<B then cD else o},⟨Ξ,λr o a U=>?_⟩,⟨Ξ,λr o a U h=>?_⟩,λr o a U=>?_⟩
 all_goals grind
def Fa(B:Nat)(w:x3)(a:Nat)(n:aD):Prop:=∃w0,gw w0 a n/\Ext w0 w/\∀r o,w0.heap[r]?=σ o->fK o=ro->B<=r
theorem Qj{q f y gr gz:Nat}{n:aD}{j p nm d9 fv2:x1}{aW:List m8}{L:List cw}(h1:ag w q gb [Γ f,Δ n.zero,j,p])(E:ag w f cG [nm,Δ n.k,d9,fv2])(F:ao .i64 ae w gz d9 n.co)(z:iY w y j aW)(G:aW.map (·.l)=n.unary)(A:n7 w B gr p n.k n.co L)(H:L.map ed=n.d7)(I:B<=q)(J:B<=f)(K:∀r,li d9 r->B<=r)(W:∀r,lc j r\/lc p r->B<=r)(X:∀h∈aW,∀r,li h.v r->B<=r):Fa B w q n:=by
 obtain⟨w0,s,a,M⟩:=ghost w B;have no:∀{r:Nat},B<=r->¬r<B:=Ω
 have C:∀{e:r9}{g:Nat}{v:x1}{l:Λ},ao .i64 e w g v l->(∀r,li v r->B<=r)->ao .i64 e w0 g v l:=by grind [bk]
 refine⟨w0,⟨f,j,p,y,gr,aW,L,nm,d9,gz,fv2,h1.aa a (no I),E.aa a (no J),C F K,⟨z.1.aa a (by grind),λh an=>?_⟩,G,⟨A.1.aa a (by grind),λx s=>?_⟩,H⟩,s,M⟩
 .obtain⟨N,hm⟩:=z.2 h an
  grind
 .obtain⟨⟨N,Y⟩,⟨O,P,⟨⟨a1,gs,Q,R,t3⟩,t4⟩,Z,S⟩,U,ab⟩:=A.2 x s;exact⟨by grind,O,P,⟨a1,gs,Q.aa a (no U),C R S,bk t3 a λr V=>no (by have:=(bE t3 V).1;omega)⟩,t4⟩
def kf(n:aD)(g:c4):aD:=match g.1 with
 |[]=>{n with zero:=g.2.getD 0 0}
 |[v]=>{n with unary:=n.unary.set v.toNat g.2}
 |_=>{n with d7:=n.d7++[g]}
def Fb(f:b5):aD:=⟨f.k,f.co,0,f.co.map λz=>r8 z.toNat 0,[]⟩
theorem Qk(f:b5):df f=(gk f).foldl kf (Fb f):=rfl
def ee(f:b5)(i:Nat):aD:=((gk f).take i).foldl kf (Fb f)
theorem yW{f:b5}{i:Nat}{g:c4}(h:(gk f)[i]?=σ g):ee f (i+1)=kf (ee f i) g:=Qe h
theorem vI(f:b5):ee f (gk f).length=df f:=by grind [ee,Qk]
theorem Ql(n:aD)(g:c4):(kf n g).k=n.k/\(kf n g).co=n.co/\(kf n g).unary.length=n.unary.length/\(kf n g).d7.length<=n.d7.length+1:=by
 grind [kf]
theorem rB(f:b5):∀i,(ee f i).k=f.k/\(ee f i).co=f.co/\(ee f i).unary.length=f.co.length/\(ee f i).d7.length<=i
 |0=>⟨rfl,rfl,by show(f.co.map _).length=_;simp,X7 _⟩
 |i+1=>by
  have e:=rB f i;cases a:(gk f)[i]? with
  |none=>
   grind [ee,n9]
  |some g=>
   rw[yW a]
   grind [Ql]
def Qm(w:x3)(f:b5)(v:x1)(I:x3):Prop:=Ext w I/\((¬jM f.d7<=16384/\∃e:Int,e≠0/\v= .tuple #[.pointer ν,Δ e])\/∃a,v= .tuple #[Γ a,Δ 0]/\Fa w.heap.size I a (df f))
theorem eJ{k:Nat}(h:b4 w k v n cs):v.cells= #[v]/\v.oneCell'=ro:=by
 obtain⟨_,_,_,_,_,rfl,_⟩:=h;exact⟨rfl,rfl⟩
theorem Qn{bM:Nat}{f:b5}(ck:m4 w bM f)(X:fh N f)(cl:N<=60000)(cn:f.name≠[]/\∀b∈f.name,b7 b=ro):
  aj x7 IK [Γ bM] w (Qm w f):=by
 have hk:=X.k;refine az func13 ?_;refine(Qi ck X cl cn).X ?_;rintro _ J _ ⟨ad,⟨cp,e,he,rfl⟩|⟨aH,rfl,cq⟩⟩
 .rw[bo,bp,bJ,ai];exact⟨λ_=>⟨ad,.inl ⟨cp,e,he,rfl⟩⟩,λh=>m6 he h⟩
 rw[bo,bp,bJ,ai];refine⟨Ω,λ_=>?_⟩;obtain⟨d9,cr,gz,dr,M,aZ,a1,bN,ct,cz,cA,cB⟩:=id cq;have ds:M.length<=256:=by
  have h1:=(sZ X).2.length_eq
  grind [mY,fh.mT]
 have dt:=X.co.2.1;rw[dw (cs:=#[Γ aH,Δ 0,.slice ν 0 0,.slice ν 0 0]) Ψ];refine bm λH V du a2 a6=>?_;have a6:=a6;rw[aK cG.p 2 (aZ.W a2) rfl,aS al.u (a1.ls.W a2)];refine cm.range f.co.length (λi ah=>∃s G aW,Ext J ah/\ag ah H gb [Γ aH,Δ 0,s,.slice ν 0 0]/\iY ah G s aW/\aW.map (·.l)=(f.co.take i).map (λz=>r8 z.toNat 0)/\(∀r,lc s r->J.heap.size<=r)/\∀h∈aW,∀r,li h.v r->J.heap.size<=r) Ω
  ⟨_,0,[],a2,a6,⟨bj.nil _ _ _ _ _,λx am=>(by cases am)⟩,rfl,λr q=>(gm q).elim,λx am=>(by cases am)⟩ ?_ ?_
 .rintro i ah cC hi ⟨s,G,aW,S,aI,a7,aJ,bO,W⟩ cD;obtain⟨z,A⟩:=aF (l:=f.co) hi;have dv:=X.co.2.2 z (x5 A);have dx:aW.length=i:=by grind [o4]
  refine bC Ω ?_;rw[be al.u ae.i Ψ (a1.ls.W S) A];intro dy a8 _ _;have cE:=aI.W a8;rw[aK gb.p 2 cE rfl];obtain⟨aL,rfl⟩:∃n:Nat,z=n:=⟨z.toNat,Ω⟩;refine ky aw.u ap.i Ω Ω λbP dz dA ba cF=>?_;refine⟨.inl ba,?_⟩;have bQ:=ao.of (bZ.full (n:=aL) cF Ξ (by simp[maxLen];omega));let a:m8:=⟨.slice (σ ⟨bP,0,ν⟩) aL aL,r8 aL 0⟩;refine iV (f:=tb) (a:=a) e0.u aw.i Ω rfl rfl λdC dD bb dE bc cH=>?_;refine⟨.inl (ba.F bc),?_⟩;have aN:=(a8.F ba).F bc;have aO:=a7.W aN;refine jo (f:=tb) (a:=a) e0.u aw.i rfl aO.1 (by simpa using cH.sl) (λu bd=>by rw[b8.1 (show u∈[a.v]from bd)];rfl) Ω Ω λbf bg dF I cI bS=>?_;have aq:∀{r:Nat},lc s r->∃c,ag bb r aw c:=λq=>by
   obtain⟨rfl,c,B⟩:=dN aO.1 q
   grind
  have bi:=aI.W aN;have bT:=bi.aa bS λhe=>cO aO.1 bi Φ he;rw[bR,aT gb.p rfl];refine bt e0.i (eJ I.sl).1 (eJ I.sl).2 bT Ξ λcJ bU dG cK=>?_;rw[aM];have bl:af (λr=>lc s r\/r=H) bb cJ:=(bS.X λr _ h=>.inl h).F (bU.X λr _ h=>.inr h);have Y:∀r,(lc s r\/r=H)->∃e c,ag bb r e c/\e≠ap:=λr q=>by
   rcases q with q|rfl
   .obtain⟨c,B⟩:=aq q;exact⟨_,c,B,Φ⟩
   .exact⟨_,_,bi,Φ⟩
  have bV:=ad.size;have z3:=S.size;have dH:=aN.size;refine cD _ ⟨bf,bg,aW++[a],(S.F aN).then bl (λr q he=>?_),cK,⟨I.aa bU λr q he=>?_,λy C=>?_⟩,?_,λr q=>?_,λy C r q=>?_⟩
  .grind
  .have he:r=H:=he;subst he;exact cO I bT Φ q
  .rcases o9.1 C with C|C
   .exact aO.tc bl Y y C
   .rw[b8.1 C];have bW:=bQ.W bc;exact⟨bP,bk bW bl λr q U=>by
     obtain⟨e,c,B,cL⟩:=Y r U;exact cj bW B (λhe=>cL he.symm) q rfl⟩
  .rw[l7,aJ,u7,A,l9,l7];rfl
  .grind
  .rcases o9.1 C with C|C
   .grind
   .rw[b8.1 C]at q;have cM:=(bE bQ q).1;have:=a8.size;omega
 .rintro ah cC ⟨s,G,aW,S,aI,a7,aJ,bO,W⟩;refine ci Ω ?_;rw[o6]at aJ;have cQ:=aZ.W S;have cR:=bN.W S;rw[aK cG.p 3 cQ rfl,e3 dQ.u cR.1];refine cm.range M.length (λi Z=>∃s E G gr aW L,Ext J Z/\ag Z H gb [Γ aH,Δ (ee f i).zero,s,E]/\iY Z G s aW/\aW.map (·.l)=(ee f i).unary/\n7 Z w.heap.size gr E f.k f.co L/\L.map ed=(ee f i).d7/\(∀r,lc s r\/lc E r->J.heap.size<=r)/\∀h∈aW,∀r,li h.v r->J.heap.size<=r) Ω
   ⟨s,_,G,0,aW,[],S,aI,a7,aJ,⟨bj.nil _ _ _ _ _,λx am=>(by cases am)⟩,rfl,λr q=>q.elim (bO r) λh=>(gm h).elim,W⟩ ?_ ?_
  rotate_left
  .rintro Z cS ⟨s,E,G,gr,aW,L,K,aP,bn,aR,bX,aU,au,W⟩;refine ci Ω ?_;have cT:M.length=(gk f).length:=by grind
   have bq:=rB f M.length;rw[cT,vI]at aP aR aU bq;have bV:=ad.size;refine⟨ad.F K,.inr ⟨H,rfl,Qj (gr:=gr) (nm:=cc f.name) (d9:=d9) (gz:=gz) (fv2:=cr) aP ?_ ?_ bn aR ?_ aU Ω cz cA (λr q=>by have:=au r q;omega) λh an r q=>by have:=W h an r q;omega⟩⟩
   .rw[bq.1];exact aZ.W K
   .rw[bq.2.1];exact a1.W K
   grind
  rintro i Z cS hi ⟨s,E,G,gr,aW,L,K,aP,bn,aR,bX,aU,au,W⟩ dI;obtain⟨y,C⟩:=aF (l:=M) hi;have cU:(gk f)[i]?=σ (ed y):=by grind
  have br:=vr X _ (E7 ct C);have bs:=bN.W K;obtain⟨dJ,dK,dL,dM⟩:=rB f i;refine bC Ω ?_;refine dk (λav=>∃s E G gr aW L,Ext J av/\ag av H gb [Γ aH,Δ (ee f (i+1)).zero,s,E]/\iY av G s aW/\aW.map (·.l)=(ee f (i+1)).unary/\n7 av w.heap.size gr E f.k f.co L/\L.map ed=(ee f (i+1)).d7/\(∀r,lc s r\/lc E r->J.heap.size<=r)/\∀h∈aW,∀r,li h.v r->J.heap.size<=r) ?_ ?_
  .rintro av h;rw[aM]
   grind
  intro ay bu;have cV:=bs.2 y (x5 C);obtain⟨⟨cW,bw⟩,m,o,D,cX,dO,cY⟩:=cV;rw[dm rfl dQ.u cN.i bs.1 hi,bB cN.p cN.i rfl (bs.1.range C)];refine bx cN.i λak dP dR cZ c0=>?_;refine cb (vs:=fk y) cN.i rfl rfl (vH bw) c0 λdS c1 dT bY=>?_;have bz:=cZ.put c1 Ω;rw[aQ cN.p 1 bY rfl];refine(ED (cX.W bz) Ω).X ?_;rintro _ dU _ ⟨b0,_,ab⟩;obtain⟨g,c2,c3,dV,rfl,dW,c4,ab,c5⟩:=ab br.small;have c6:dh (aB f.co y.sc):=ab.2.2.1.2;have c7:=jL.eq c6 c5 cY;subst c7;have P:=bz.F b0;have bA:=bY.W b0;have bD:=bw.W P;rw[bo,bp,aQ cN.p 0 bA rfl,aS al.u bD.ls];have bV:=ad.size;have z9:=K.size;have dX:=P.size;have bF:=aP.W P;have bG:=bn.W P;have bH:=bX.W P;have c8:=yW cU;rw[bh,ai];refine⟨λdY=>?_,λdZ=>?_⟩
  .
   have b1:y.sc=[]:=Z0 Ω;have ac:ee f (i+1)={ee f i with zero:=y.cs.getD 0 0}:=by grind [kf,ed]
   refine(nX ab).X ?_;rintro b2 c9 _ ⟨aV,ea,eb,da⟩;have ec:y.cs.length=1:=by grind [ey.len,ed,aB,aA]
   have db:y.cs[0]?=σ (y.cs.getD 0 0):=by grind
   rw[fm (y:=0) (i:=0) rfl aw.u ap.i Ψ da.ls db,bR,aT gb.p rfl];have b3:=bF.W aV;refine bt ap.i rfl rfl b3 Ξ λef bI eg eh=>?_;have Y:∀r,r=H->∃e c,ag c9 r e c/\e≠iN/\e≠cu/\e≠ae/\e≠ap/\e≠aw:=λr q=>by
    subst q;exact⟨_,_,b3,Φ,Φ,Φ,Φ,Φ⟩
   refine bu _ ⟨s,E,G,gr,aW,L,((K.F P).F aV).put bI Ω,?_,(bG.W aV).aa bI (λr q=>?_),by grind,(bH.W aV).aa bI (λr q=>?_),by grind,au,W⟩
   all_goals grind
  rw[bh,ai];refine⟨λh1=>?_,λei=>?_⟩
  .
   obtain⟨v,b1⟩:∃v,y.sc=[v]:=X6.1 Ω;have ej:=br.scope.1 v (by show v∈y.sc;grind);have ek:=br.d6 v (by show v∈y.sc;grind);have ac:ee f (i+1)={ee f i with unary:=(ee f i).unary.set v.toNat y.cs}:=by grind [kf,ed]
   intro em Q _ _;have b4:=bF.W Q;have dc:=bA.W Q;rw[aK gb.p 2 b4 rfl,aQ cN.p 0 dc rfl];refine pP rfl al.u ae.i (bD.ls.W Q) (show y.sc[0]?=σ v by rw[b1];rfl) λb o dd=>?_;rw[ax Ψ dd];refine(nX (ab.W Q)).X ?_;rintro b2 de _ ⟨aC,df,en,aD⟩;refine⟨.inl aC,?_⟩;have aE:=(bG.W Q).W aC;have eo:aW.length=f.co.length:=by grind
   obtain⟨u,bd⟩:=aF (l:=aW) (i:=v.toNat) Ω;rw[dm (i:=v.toNat) Ω e0.u aw.i aE.1 Ω];let a:m8:=⟨b2,y.cs⟩;refine rr (j:=0) (a:=u) (a':=a) aw.i aD.ls.cells.1 aD.ls.cells.2 aE.1 bd rfl Ω λep aG er dg=>?_;have b6:=b4.W aC;have aq:∀{r:Nat},lc s r->∃c,ag de r aw c:=λq=>by
    obtain⟨rfl,c,B⟩:=dN aE.1 q
    grind
   refine bu _ ⟨s,E,G,gr,aW.set v.toNat a,L,(((K.F P).F Q).F aC).then aG (λr q he=>by have:=au r (.inl he);omega),?_,⟨dg,λz A=>?_⟩,?_,((bH.W Q).W aC).aa aG (λr q=>?_),by grind,au,λz A r q=>?_⟩
   .rw[ac];exact b6.aa aG λhe=>cO aE.1 b6 Φ he
   .rcases T8 A with A|rfl
    .exact aE.tc aG (λr q=>by obtain⟨c,B⟩:=aq q;exact⟨_,c,B,Φ⟩) z A
    .exact⟨df,bk aD aG λr q U=>by
      obtain⟨c,B⟩:=aq U;exact cj aD B Φ q rfl⟩
   .rw[ac,V3,aR]
   .obtain⟨c,B⟩:=aq q;exact⟨_,c,B,Φ,Φ,Φ,Φ⟩
   .rcases T8 A with A|rfl
    .grind
    .have cM:=(bE aD q).1;have:=Q.size;omega
  .
   have ac:ee f (i+1)={ee f i with d7:=(ee f i).d7++[ed y]}:=by
    rw[c8];unfold kf;have b9:2<=(ed y).1.length:=by show 2<=y.sc.length;omega
    generalize ed y=g at b9 ⊢;obtain⟨sc,cs⟩:=g
    match sc,b9 with
    |_::_::_,_=>rfl
   intro es R _ _;have ca:=bF.W R;have di:=bA.W R;have cd:=bD.W R;rw[aK gb.p 3 ca rfl,aQ cN.p 0 di rfl,dw (cs:=#[y.sv,Γ g]) (by obtain⟨_,_,_,e⟩:=cP bw.ls;rw[e];kernel_rfl)];let a:cw:=⟨y.sv,g,y.sc,y.cs⟩;refine iV (f:=fk) (a:=a) mG.u iN.i Ω rfl rfl λet eu bK ev O dj=>?_;refine⟨.inl O,?_⟩;have aX:=(bH.W R).W O;have dl:=(bG.W R).W O;have bL:=ca.W O;have ew:L.length<=256:=by grind
   refine jo mG.u iN.i rfl aX.1 (by simpa using dj.sl) (vH (cd.W O)) Ω Ω λbf bg ez I cI ce=>?_;have cf:=bL.aa ce λhe=>cO aX.1 bL Φ he;rw[bR,aT gb.p rfl];refine bt mG.i (eJ I.sl).1 (eJ I.sl).2 cf Ξ λdn cg eA dp=>?_;have aY:af (λr=>lc E r\/r=H) bK dn:=(ce.X λr _ h=>.inl h).F (cg.X λr _ h=>.inr h);have Y:∀r,(lc E r\/r=H)->∃e c,ag bK r e c/\e≠cu/\e≠ae/\e≠ap/\e≠aw:=λr q=>by
    rcases q with q|rfl
    .obtain⟨rfl,c,B⟩:=dN aX.1 q;exact⟨_,c,B,Φ,Φ,Φ,Φ⟩
    .exact⟨_,_,bL,Φ,Φ,Φ,Φ⟩
   have eB:=(R.F O).size;refine bu _ ⟨s,bf,G,bg,aW,L++[a],(((K.F P).F R).F O).then aY (λr q he=>?_),?_,dl.aa aY (λr q=>?_),by grind,⟨I.aa cg λr q he=>?_,λz A=>?_⟩,?_,λr q=>?_,W⟩
   .grind
   .rw[ac];exact dp
   .obtain⟨e,c,B,_,_,dq,eC⟩:=Y r q
    grind
   .have he:r=H:=he;subst he;exact cO I cf Φ q
   .have ch:∀r,(lc E r\/r=H)->∃e c,ag bK r e c/\e≠cu/\e≠ae/\e≠ap:=λr q=>by
     obtain⟨e,c,B,h1,eD,dq,_⟩:=Y r q
     grind
    rcases o9.1 A with A|A
    .exact (aX.2 z A).aa aY ch
    .rw[b8.1 A];have eE:=bz.size;refine td.aa ⟨⟨cW,cd.W O⟩,⟨c2,c3,?_,Ω,λr q=>by have:=c4.2 r q;omega⟩,by grind,cB y (x5 C)⟩ aY ch;exact(ab.W R).W O
   .rw[ac,l7,aU];rfl
   grind
theorem Fc{z:Array x1}{k:Nat}(a:z.size=k):(S8 z n).toList=ea z (n*k):=by
 grind [S8,ea]
theorem Qo{P:X5}{t p s:r9}{x kn:o5}{b g k m:Nat}{xs:List x1}(T:y=(m:Int))(J:P.underlying t=σ (.slice e))(L:P.underlying p=σ (.int kn))(hi:aR P e k b z)(U:z.cells.size=k)(au:0<k)(h1:∀u∈ea z.cells (m*k),u.oneCell'=ro)(h:bZ w g e k v n xs)(V:0<m)(W:(n+m)*b<=140737488355328)(av:n+m<=9223372036854775807)(M:∀B X I,bZ I X e k B (n+m) (xs++ea z.cells (m*k))->(∀r,lc B r->lc v r\/w.heap.size<=r)->af (λr=>lc v r) w I->K B I):aC P (j6 #[t,p] s #[v,.int x y]) w K:=by
 subst T;obtain⟨i,hi,Y,rfl,N⟩:=hi;obtain⟨aw,hm⟩:=h;have Z:=qY z.cells (m*k);have ab:m*i.bytes<=281474976710656:=by
  grind
 have grow:∀(base:Option Q0)(cap:Nat),v= .slice base n cap->(j9.firstCells i.size n (.slice base n cap)).run P w.drew= .ok xs.toArray w.drew->cap<n+m->aC P (j6 #[t,p] s #[v,.int x (m:Int)]) w K:=λbase cap ac ad f=>by
  subst ac;have C:=Lib.run_append_grow_zeros (P:=P) w t p s e i z x kn J L hi N base n cap xs ad m V Ω f Ω ab (growslice_fits f W);have O:n+m<=grownCap w (n+m) cap e:=grownCap_ge w _ _ _;have ae:grownCap w (n+m) cap e<=maxLen:=by grind [grownCap_le_maxLen,maxLen]
  have ax:=qY z.cells ((grownCap w (n+m) cap e-(n+m))*k);have ay:(n+m)*k<=grownCap w (n+m) cap e*k:=V5 _ O;have ah:(n+m)*k=n*k+m*k:=T7 _ _ _;have az:(grownCap w (n+m) cap e-(n+m))*k=grownCap w (n+m) cap e*k-(n+m)*k:=Nat.sub_mul _ _ _;refine .of C ((qG w _ (Nat.le_succ _)).F (qI _ _)) (M _ w.heap.size _ ⟨by grind,.inr ⟨_,xs++ea z.cells (m*k)++ea z.cells ((grownCap w (n+m) cap e-(n+m))*k),rfl,?_,O,ae,?_,?_⟩⟩ (λr E=>?_) (((r3 w _).F (qH _ _)).aa _))
  .have:=heap_alloc_new w.drew (.cells (xs.toArray++S8 z.cells m++S8 z.cells (grownCap w (n+m) cap e-(n+m))) e);unfold ag;rw[show w.drew.heap.size=w.heap.size from rfl]at this;rw[this];congr 2
   grind [Fc]
  .grind
  .grind
  .obtain⟨a,ai,c,F,A⟩:=E
   grind
 rcases hm with⟨rfl,aj⟩|⟨cap,cs,rfl,q,F,A,Q,ak⟩
 .subst aj;have:xs=[]:=by grind
  subst this;exact grow ν 0 rfl (by grind [run_firstCells_none]) Ω
 .by_cases f:n+m<=cap
  .have al:(n+m)*k<=cs.length:=by rw[Q];exact V5 _ f
   have ah:(n+m)*k=n*k+m*k:=T7 _ _ _;have G:=run_storeCells_cells (P:=P) g (0+n*k) (ea z.cells (m*k)) 0 w (λj R=>by
    rw[Z]at R;rw[Nat.add_zero,W7,q.cell (x6 Ω)];rfl) (λj _=>q.frozen _ _) h1
   simp only[Nat.add_zero]at G;have hw:Y7.wrap (m:Int)=m:=by rw[o5.wrap_i64];omega
   have am:¬((m:Int)<0):=Ω
   have an:¬(281474976710656<(m:Int)*(i.bytes:Int)):=Ω
   have ao:¬(m*i.size=0):=by grind [Nat.mul_ne_zero]
   have ap:(S8 z.cells m).toList=ea z.cells (m*k):=Fc U;have C:(j6 #[t,p] s #[.slice (σ ⟨g,0,ν⟩) n cap,.int x (m:Int)]).run P w= .ok (.slice (σ ⟨g,0,ν⟩) (n+m) cap) (w.setCells g (0+n*k) (ea z.cells (m*k))):=by
    simp[j6,run_underlying J,run_underlying L,sizeOf,typeInfo,zeroValue,hi,N,asInt,asIntOf,hw,f,am,ao,an,ap,Q0.add_lit,Y];simp only[W7]at G;rw[G];simp
    grind
   obtain⟨aq,S⟩:=nO (ea z.cells (m*k)) cs (0+n*k) w q;refine .of C (S.cD q) (M _ g _ ⟨by grind,.inr ⟨cap,_,rfl,aq,f,A,by rw[gf,Q],?_⟩⟩ (λr E=>.inl ?_) (S.aa.X λr _ he=>⟨_,_,_,rfl,he.symm⟩))
   .grind [nN]
   .obtain⟨a,ai,c,F,A⟩:=E;cases F;exact⟨_,_,_,rfl,A⟩
  .refine grow _ cap rfl ?_ Ω;have al:n*k<=cs.length:=by grind
   refine run_firstCells_some w.drew i.size n _ n cap xs (by grind) λj u H=>?_;rw[W5,W7];have R:=(x4.1 H).1;rw[<-ak,Y5 Ω]at H;exact q.cell H
def kN(c:Cell):List x1:=[Δ c.v,.int .u64 (c.st:Int)]
def te(o:mO):List x1:=[Δ (o.i:Int),Δ o.c.v,.int .u64 (o.c.st:Int)]
def rC(m:uO):List x1:=[Δ (m.olds:Int),Δ (m.cells:Int),.int .u64 (m.st:Int)]
def dF(w:x3)(ad:Nat)(A:ah)(t:av):Prop:=A ad/\∃e go dx a1 a eo,ag w ad fC [a1,a,eo,.int .u64 (t.kD:Int)]/\bj kN 2 eH w e a1 t.cells/\bj te 3 lf w go a t.olds/\bj rC 3 fQ w dx eo t.marks/\
 ∀r,lc a1 r\/lc a r\/lc eo r->A r
theorem dF.aa{S A:ah}{t:av}(h:dF w ad A t)(a:af S w I)(f:∀r,A r->¬S r):dF I ad A t:=by
 obtain⟨e,j,go,dx,a1,p,eo,h1,q,s,x,y⟩:=h;exact⟨e,j,go,dx,a1,p,eo,h1.aa a (f _ e),q.aa a (by grind),s.aa a (by grind),x.aa a (by grind),y⟩
theorem dF.W{A:ah}{t:av}(h:dF w ad A t)(a:Ext w I):dF I ad A t:=h.aa (a.aa λ_=>False) λ_ _ h=>h
theorem dF.X{A B:ah}{t:av}(h:dF w ad A t)(a:∀r,A r->B r):dF w ad B t:=by
 obtain⟨e,f,go,dx,a1,j,eo,h1,p,q,s,x⟩:=h;exact⟨a _ e,f,go,dx,a1,j,eo,h1,p,q,s,λr y=>a r (x r y)⟩
def Grow(A:ah)(w:x3)(aH:ah)(I:x3):Prop:=af A w I/\(∀r,aH r->A r\/w.heap.size<=r)/\∀r,A r->aH r
theorem Grow.refl(A:ah)(w:x3):Grow A w A w:=⟨af.refl _ _,λ_ h=>.inl h,λ_ h=>h⟩
theorem Grow.W{A:ah}(h:Ext w I):Grow A w A I:=⟨h.aa _,by grind,λ_ h=>h⟩
theorem Grow.F{A aH e:ah}{f:x3}(h:Grow A w aH I)(k:Grow aH I e f):Grow A w e f:=
 ⟨⟨Y2 h.1.size k.1.size,λr o a U j=>k.1.aZ r o (h.1.aZ r o a U j) U λp=>(h.2.1 r p).elim j λq=>by
  grind⟩,λr a=>by
  rcases k.2.1 r a with h1|h1
  .exact h.2.1 r h1
  .have:=h.1.size;omega,λr a=>k.2.2 r (h.2.2 r a)⟩
theorem Fe{A:ah}{t:av}(h:dF w ad A t):aj x7 KU [Γ ad] w λv I=>v=Δ (t.cells.length:Int)/\Ext w I:=by
 obtain⟨e,f,go,dx,a1,j,eo,h1,a,q,r,s⟩:=h;refine az func236 ?_;rw[cW sm.u];simp only[j0,aX];rw[aK fC.p 0 h1 rfl,e3 jC.u a];exact⟨rfl,Ext.refl _⟩
theorem Ff{A:ah}{t:av}{i:Int}(h:dF w ad A t):aj x7 JZ [Γ ad,Δ i] w λv I=>v= .bool (decide (0<=i/\i<t.cells.length))/\Ext w I:=by
 refine az func148 ?_;refine aV (λv J=>v= .bool (decide (0<=i/\i<t.cells.length))/\Ext w J) (λ_ _ h=>h) ?_;intro ay a;rw[cI,ai];refine⟨λe=>?_,λe=>a _ _ ⟨by rw[ms];omega,Ext.refl _⟩⟩;refine(Fe h).X ?_;rintro _ J _ ⟨rfl,f⟩;rw[aP];refine a _ _ ⟨?_,f⟩;congr 1;rw[T1,pl,pl];exact⟨λh=>⟨Ω,h⟩,λh=>h.2⟩
theorem Qp{A:ah}{t:av}{i:Nat}{c:Cell}(h:dF w ad A t)(j:y=(i:Int))(a:t.cells[i]?=σ c):aj x7 BG [Γ ad,Δ y] w λv I=>v=Δ c.v/\Ext w I:=by
 have q:=(x4.1 a).1;refine az func78 ?_;refine(Ff h).X ?_;rintro _ J _ ⟨rfl,e⟩;rw[m7 Ω,bA,Y6,aX];obtain⟨r,s,go,dx,a1,x,eo,h1,f,z,B,C⟩:=h.W e;rw[aK fC.p 0 h1 rfl,dm j jC.u eH.i f q,aT eH.p rfl,ax Ψ (f.range a 0 _ rfl)];exact⟨rfl,e⟩
theorem oV{A:ah}{t:av}{i:Nat}{x:Int}(h:dF w ad A t)(e:y=(i:Int))(a:t.bO[i]?=σ x):aj x7 BG [Γ ad,Δ y] w λv I=>v=Δ x/\Ext w I:=by
 unfold av.bO at a;rw[x8]at a;obtain⟨c,f,rfl⟩:=Y0.1 a;exact Qp h e f
def m9(t:av):Prop:=t.cells.length<=100000000/\t.olds.length<=100000000/\t.marks.length<=100000000
theorem vJ{q go dx:Nat}{a1 a eo:x1}{t:av}{x:x1}(h1:ag w ad fC [a1,a,eo,x])(f:bj kN 2 eH w q a1 t.cells)(h:bj te 3 lf w go a t.olds)(j:bj rC 3 fQ w dx eo t.marks):
  (¬lc a1 ad/\¬lc a ad/\¬lc eo ad)/\(∀r,lc a1 r->¬lc a r/\¬lc eo r)/\∀r,lc a r->¬lc a1 r/\¬lc eo r:=by
 refine⟨⟨cO f h1 Φ,cO h h1 Φ,cO j h1 Φ⟩,λr p=>?_,λr p=>?_⟩
 .obtain⟨rfl,c,e⟩:=dN f p;exact⟨cO h e Φ,cO j e Φ⟩
 .obtain⟨rfl,c,e⟩:=dN h p;exact⟨cO f e Φ,cO j e Φ⟩
theorem tf{A:ah}{t:av}{i:Nat}{x:Int}(h:dF w ad A t)(bk:y=(i:Int))(O:i<t.cells.length)(aw:m9 t):aj x7 BD [Γ ad,Δ y,Δ x] w λv I=>v=Δ 0/\∃aH,Grow A w aH I/\dF I ad aH (t.set i x):=by
 subst bk;obtain⟨c,C⟩:=aF (l:=t.cells) O;refine az func67 ?_;rw[cW sm.u];simp only[j0,aX];refine(Ff h).X ?_;rintro _ J _ ⟨rfl,L⟩;rw[m7 Ω,bA,Y6,aX];obtain⟨aW,P,go,dx,a1,Q,eo,h1,aY,aA,Z,ac⟩:=id (h.W L);have bl:∀{V:x3}{aH:ah}{t':av}{st:Nat}{K:x3->Prop},dF V ad aH t'->t'.cells[i]?=σ ⟨c.v,st⟩->
   (∀q,af aH V q->dF q ad aH {t' with cells:=t'.cells.set i ⟨x,st⟩}->K q)->
   (ab x7 (bQ (Γ ad)) V λt77=>
   ab x7 (u6 fC t77 0) V λbm=>
   ab x7 (u4 jC bm) V λbn=>
   ab x7 (j4 jC bn (Δ (i:Int))) V λbo=>
   ab x7 (u6 eH bo 0) V λbp=>
   aC x7 (o7 ap bp (Δ x)) V λ(_:Unit)q=>
   K q):=by
  intro V aH t' st K aB ae bq;obtain⟨aD,P,go,dx,a1,Q,eo,E,G,R,S,U⟩:=aB;have br:=(x4.1 ae).1;rw[aK fC.p 0 E rfl,dm rfl jC.u eH.i G br,aT eH.p rfl];obtain⟨⟨W,aE,aG⟩,H,_⟩:=vJ E G R S;refine rr (f:=kN) (j:=0) (a:=⟨c.v,st⟩) (a':=⟨x,st⟩) ap.i rfl rfl G ae rfl Ω λq B bs bu=>?_;exact bq q (B.X λr _ e=>U r (.inl e)) ⟨aD,P,go,dx,a1,Q,eo,E.aa B W,bu,R.aa B λr e he=>(H r he).1 e,S.aa B λr e he=>(H r he).2 e,U⟩
 refine dk (λV=>∃aH t' st,Grow A J aH V/\dF V ad aH t'/\t'.cells[i]?=σ ⟨c.v,st⟩/\t.set i x={t' with cells:=t'.cells.set i ⟨x,st⟩}) ?_ ?_
 .rintro V ⟨aH,t',st,bw,aB,ae,aI⟩;refine bl aB ae λq B aA=>⟨by trivial,aH,?_,by rw[aI];exact aA⟩;exact(Grow.W L).F (bw.F ⟨B,λ_ h=>.inl h,λ_ h=>h⟩)
 intro ay aJ;rw[aK fC.p 2 h1 rfl,e3 uC.u Z,bL,ai];have aZ:∀(hm:t.marks.getLast? =ν\/∃m,t.marks.getLast? =σ m/\¬(c.st<m.st/\i<m.cells)),t.set i x={t with cells:=t.cells.set i ⟨x,c.st⟩}:=λhm=>by
  unfold av.set;rw[C];rcases hm with hm|⟨m,hm,bz⟩
  .simp only[hm]
  .simp only[hm];rw[m5 bz]
 refine⟨λbY=>?_,λbZ=>aJ _ ⟨A,t,c.st,Grow.refl _ _,h.W L,C,aZ (.inl ?_)⟩⟩
 rotate_left
 .rw[List.getLast?_eq_none_iff];exact Z0 Ω
 obtain⟨m,hm⟩:=aF (l:=t.marks) (i:=t.marks.length-1) Ω;have a2:t.marks.getLast? =σ m:=by rw[List.getLast?_eq_getElem?];exact hm
 have b0:=aw.2.2;rw[aK fC.p 2 h1 rfl,dR,lm Ω Ω,dm (i:=t.marks.length-1) Ω uC.u fQ.i Z Ω,bB fQ.p fQ.i rfl (Z.range hm)];refine bx fQ.i λak V b1 a6 bC=>?_;refine cb (vs:=rC m) fQ.i rfl rfl (by intro v X;simp[rC]at X;rcases X with rfl|rfl|rfl<;>rfl) bC λq B bs bD=>?_;have a7:=a6.put B Ω;have al:∀{I:x3},Ext q I->ag I ak fQ (rC m):=λL=>bD.W L;refine aV (λv aL=>v= .bool (decide (c.st<m.st/\i<m.cells))/\Ext q aL) ?_ ?_
 rotate_left
 .intro b2 a8;intro aL s _ _;have M:=a7.F s;have ba:=al s;have N:=aY.W M;rw[aK fC.p 0 (h1.W M) rfl,dm rfl jC.u eH.i N O,aT eH.p rfl,ax Ψ (N.range C 1 _ rfl),aQ fQ.p 2 ba rfl,aP,ai];refine⟨λbb=>?_,λbc=>a8 _ _ ⟨by rw[ms];omega,s⟩⟩;rw[aQ fQ.p 1 ba rfl,aP];refine a8 _ _ ⟨?_,s⟩;congr 1;rw[T1,pl,pl];exact⟨λh=>⟨Ω,Ω⟩,λh=>Ω⟩
 rintro _ aL ⟨rfl,s⟩;have M:=a7.F s;rw[ai];refine⟨λbb=>?_,λbc=>aJ _ ⟨A,t,c.st,Grow.W M,(h.W L).W M,C,aZ (.inr ⟨m,a2,bc⟩)⟩⟩;intro b3 am _ _;have Y:=M.F am;have aM:=h1.W Y;have N:=aY.W Y;have bE:=aA.W Y;have bF:=Z.W Y;rw[bR,aT fC.p rfl,ax Ψ (aM.cell rfl),bR,aT fC.p rfl,ax Ψ (aM.cell rfl),dm rfl jC.u eH.i N O,bB eH.p eH.i rfl (N.range C)];rw[dw (cs:=#[Δ (i:Int),Δ c.v,.int .u64 (c.st:Int)]) Ψ];let a:mO:=⟨i,c⟩;have bG:∀u∈te a,u.oneCell'=ro:=by intro v X;simp[te]at X;rcases X with rfl|rfl|rfl<;>rfl
 refine iV (f:=te) (a:=a) pF.u lf.i Ω rfl rfl λb4 b5 bd b6 z bH=>?_;refine⟨.inl z,?_⟩;have be:=Y.F z;have aN:=aM.W z;have bf:=N.W z;have aO:=bE.W z;have bg:=bF.W z;obtain⟨⟨W,aE,aG⟩,H,bI⟩:=vJ aN bf aO bg;refine jo pF.u lf.i rfl aO (by simpa using bH.sl) bG (by have:=aw.2.1;omega) (by have:=aw.2.1;omega) λbJ bK b7 an bM bh=>?_;rw[bR,aT fC.p rfl];have bi:=aN.aa bh aE;refine bt pF.i (eJ an.sl).1 (eJ an.sl).2 bi Ξ λao bj b8 aR=>?_;have aR:=aR;have aq:af (λr=>lc Q r\/r=ad) bd ao:=(bh.X λr _ h=>.inl h).F (bj.X λr _ h=>.inr h);have bN:=bf.aa aq λr e he=>he.elim (λhe=>(H r e).1 he) λhe=>W (he▸e);have bO:=bg.aa aq λr e he=>he.elim (λhe=>(bI r he).2 e) λhe=>aG (he▸e);have bP:=an.aa bj λr e he=>by
  have he:r=ad:=he;subst he;exact cO an bi Φ e
 have b9:=be.size;have ca:=a6.size;let aS:ah:=λr=>A r\/bd.heap.size<=r;have bS:Grow A J aS ao:=⟨(be.aa A).F (aq.X λr _ he=>he.elim (λhe=>ac r (.inr (.inl he))) λhe=>he▸aW),λr e=>e.imp id λe=>Ω,λr e=>.inl e⟩;have bT:dF ao ad aS {t with olds:=t.olds++[a]}:=⟨.inl aW,P,bK,dx,a1,bJ,eo,aR,bN,bP,bO,λr e=>by
  rcases e with e|e|e
  .exact .inl (ac r (.inl e))
  .rcases bM r e with h|h
   .exact .inl (ac r (.inr (.inl h)))
   .exact .inr h
  .exact .inl (ac r (.inr (.inr e)))⟩
 have bU:ag ao ak fQ (rC m):=(al ((s.F am).F z)).aa aq λhe=>by
  rcases he with he|he
  .obtain⟨rfl,cc,bV⟩:=dN aO he;exact m6 (eI bV (al ((s.F am).F z))) Φ
  .subst he;exact m6 (eI aN (al ((s.F am).F z))) Φ
 intro cd aU _ _;have bW:=bT.W aU;obtain⟨aD,P,go,dx,a1,Q,eo,E,G,R,S,U⟩:=bW;rw[aK fC.p 0 E rfl,aQ fQ.p 2 (bU.W aU) rfl,dm rfl jC.u eH.i G O,aT eH.p rfl];obtain⟨⟨W,aE,aG⟩,H,_⟩:=vJ E G R S;refine rr (a':=⟨c.v,m.st⟩) fN.i rfl rfl G C rfl Ω λce au cf bX=>?_;have aI:t.set i x={t with olds:=t.olds++[a],cells:=t.cells.set i ⟨x,m.st⟩}:=by
  unfold av.set;rw[C];simp only[a2];rw[m3 bb]
 refine aJ _ ⟨aS,{t with olds:=t.olds++[a],cells:=t.cells.set i ⟨c.v,m.st⟩},m.st,bS.F ((Grow.W aU).F ⟨au.X λr _ e=>U r (.inl e),λ_ h=>.inl h,λ_ h=>h⟩),⟨aD,P,go,dx,a1,Q,eo,E.aa au W,bX,R.aa au λr e he=>(H r he).1 e,S.aa au λr e he=>(H r he).2 e,U⟩,?_,?_⟩
 .show (t.cells.set i _)[i]?=_;rw[Z3 O]
 .rw[aI];simp only[List.set_set]
theorem Fg(n:Nat):ea (#[Δ 0,.int .u64 0]:Array x1) (n*2)=(r8 n (⟨0,0⟩:Cell)).flatMap kN:=by
 have:∀n,ea (#[Δ 0,.int .u64 0]:Array x1) (n*2)=(r8 n (⟨0,0⟩:Cell)).flatMap kN:=by
  intro n;apply j5;intro j;have r:((r8 n (⟨0,0⟩:Cell)).flatMap kN).length=n*2:=by simp[kN]
  by_cases p:j<n*2
  .have q:(ea (#[Δ 0,.int .u64 0]:Array x1) (n*2))[j]?=σ (if j % 2=0 then Δ 0 else .int .u64 0):=by
    unfold ea;rw[Array.getElem?_toList,Array.getElem?_map,Array.getElem?_range,m3 p];rcases Nat.mod_two_eq_zero_or_one j with h|h<;>simp[h]
   have e:=rq (f:=kN) (k:=2) (L:=r8 n (⟨0,0⟩:Cell)) (i:=j / 2) (j:=j % 2) (a:=⟨0,0⟩) (v:=if j % 2=0 then Δ 0 else .int .u64 0) (λa _=>rfl) (by rw[List.getElem?_replicate,m3 Ω]) (by rcases Nat.mod_two_eq_zero_or_one j with h|h<;>simp[h,kN]);rw[show j / 2*2+j % 2=j by omega]at e;rw[q,e]
  .rw[Z9 (by rw[qY];omega),Z9 Ω]
 exact this n
theorem Qq{A:ah}{t:av}(h:dF w ad A t)(R:m9 t)(ag:n<=100000000):aj x7 J0 [Γ ad,Δ (n:Int)] w λv I=>v=Δ (t.cells.length:Int)/\∃aH,Grow A w aH I/\dF I ad aH (t.grow n):=by
 refine az func149 ?_;refine(Fe h).X ?_;rintro _ J _ ⟨rfl,f⟩;refine dk (λV=>∃aH,Grow A w aH V/\dF V ad aH (t.grow n)) (λV h=>⟨rfl,h⟩) ?_;intro ay y;refine aV (λv V=>v= .bool (decide (0<n))/\J=V) ?_ ?_
 rotate_left
 .intro ak S;rw[B7 sm.u];simp only[j0,X4,bY];rw[bL];refine S _ _ ⟨?_,rfl⟩;congr 1;rw[T1,pl,pl];omega
 rintro _ _ ⟨rfl,rfl⟩;rw[ai];refine⟨λB=>?_,λB=>y _ ⟨A,Grow.W f,?_⟩⟩
 rotate_left
 .have:n=0:=Ω
  subst this;have e:t.grow 0=t:=by unfold av.grow;simp
  rw[e];exact h.W f
 obtain⟨C,al,go,dx,a1,U,eo,h1,E,G,H,j⟩:=id (h.W f);rw[aK fC.p 0 h1 rfl];obtain⟨⟨W,X,Y⟩,K,am⟩:=vJ h1 E G H;have an:=R.1;refine Qo (k:=2) rfl jC.u ae.u eH.i rfl Ω (λu Z=>?_) E.1 B Ω Ω λL M V N ab O=>?_
 .exact EU Φ Φ u Z
 rw[bR,aT fC.p rfl];have q:bj kN 2 eH V M L (t.cells++r8 n ⟨0,0⟩):=by
  refine⟨?_,λ_ _=>rfl⟩;have e:(x1.agg #[Δ 0,.int .u64 0]).cells= #[Δ 0,.int .u64 0]:=rfl;rw[e,Fg]at N;rw[p8,List.length_replicate,List.flatMap_append];exact N
 have P:=h1.aa O W;refine bt jC.i (eJ q.sl).1 (eJ q.sl).2 P Ξ λac Q ao s=>?_;have s:=s;have x:af (λr=>lc a1 r\/r=ad) J ac:=(O.X λr _ h=>.inl h).F (Q.X λr _ h=>.inr h);have z:=f.size;refine y _ ⟨λr=>A r\/J.heap.size<=r,(Grow.W f).F ⟨x.X λr _ he=>he.elim (λhe=>j r (.inl he)) λhe=>he▸C,λr a=>a,λr a=>.inl a⟩,.inl C,M,go,dx,L,U,eo,s,q.aa Q λr a he=>?_,G.aa x λr a he=>he.elim (λhe=>(K r he).1 a) λhe=>X (he▸a),H.aa x λr a he=>he.elim (λhe=>(K r he).2 a) λhe=>Y (he▸a),λr a=>?_⟩
 .have he:r=ad:=he;subst he;exact cO q P Φ a
 .rcases a with a|a|a
  .exact (ab r a).imp (λh=>j r (.inl h)) id
  .exact .inl (j r (.inr (.inl a)))
  .exact .inl (j r (.inr (.inr a)))
theorem Qr(s:n<=1000):aj x7 I3 [Δ (n:Int)] w λv I=>Ext w I/\∃ad,v=Γ ad/\dF I ad (fF w.heap.size) ⟨r8 n ⟨0,0⟩,[],[],0⟩:=by
 refine az func66 ?_;rw[xJ,Int.max_eq_left Ω];refine Cf jC.u eH.i Ω Ω λg J x h f=>?_;rw[dw (cs:=#[.slice (σ ⟨g,0,ν⟩) n n,.slice ν 0 0,.slice ν 0 0,.int .u64 0]) Ψ];refine bm λad V y j q=>?_;have z:=h.size;have e:(x1.agg #[Δ 0,.int .u64 0]).cells= #[Δ 0,.int .u64 0]:=rfl;have f:ag J g eH ((r8 n (⟨0,0⟩:Cell)).flatMap kN):=by rw[<-Fg,<-e];exact f
 have p:bj kN 2 eH J g (.slice (σ ⟨g,0,ν⟩) n n) (r8 n ⟨0,0⟩):=by
  refine⟨?_,λ_ _=>rfl⟩;rw[List.length_replicate];exact bZ.full f (by simp[kN]) (by simp[maxLen];omega)
 refine⟨h.F j,ad,rfl,by show w.heap.size<=ad;omega,g,0,0,_,_,_,q,p.W j,bj.nil _ _ _ _ _,bj.nil _ _ _ _ _,λr a=>?_⟩;rcases a with a|a|a
 .have:=(p.li a).1;show w.heap.size<=r;omega
 .exact (gm a).elim
 .exact (gm a).elim
theorem pJ{α β:Type}{f:α->List β}:∀{L:List α}{i j:Nat}{a:α},L[i]?=σ a->j<(f a).length->(L.flatMap f)[((L.take i).flatMap f).length+j]?=(f a)[j]?
 |x::L,0,j,a,h,e=>by
  grind
 |x::L,i+1,j,a,h,e=>by
  have h:L[i]?=σ a:=by grind
  rw[List.take_succ_cons,U7,U7,p8,Nat.add_assoc,Y9 Ω,Nat.add_sub_cancel_left,pJ h e]
theorem yX{α β:Type}{f:α->List β}:∀{L:List α}{i j:Nat}{a b:α}{x:β},L[i]?=σ a->j<(f a).length->f b=(f a).set j x->(L.flatMap f).set (((L.take i).flatMap f).length+j) x=(L.set i b).flatMap f
 |y::L,0,j,a,b,x,h,e,p=>by
  grind
 |y::L,i+1,j,a,b,x,h,e,p=>by
  have h:L[i]?=σ a:=by grind
  rw[List.take_succ_cons,U7,U7,p8,Nat.add_assoc,Q1 _ _ Ω,Nat.add_sub_cancel_left,yX h e p,List.set_cons_succ,U7]
theorem Fh{α β:Type}{f:α->List β}{L:List α}{i:Nat}{a:α}(h:L[i]?=σ a)(e:j<(f a).length):((L.take i).flatMap f).length+j<(L.flatMap f).length:=by
 have h1:=pJ (f:=f) h e
 grind
structure bs where
 gone:Int
 mask:Int
 un:Λ
structure bH where
 sc:Λ
 szs:Λ
 live:Int
 cs:Λ
structure iC where
 v:Int
 sc:Λ
 dn:Λ
structure am where
 zero:Int
 d6:List bs
 d7:List bH
 elims:List iC
def iD(x:bs):Λ:=x.gone::x.mask::x.un
def fT(x:bH):Λ:=x.live::x.cs
def kO(s:am):Λ:=[s.zero,(s.d7.length:Int),(s.elims.length:Int)]
def am.cells(s:am):Λ:=kO s++(s.d6.flatMap iD++s.d7.flatMap fT)
def gN(s:am)(i:Nat):Nat:=3+((s.d6.take i).flatMap iD).length
def e6(s:am)(j:Nat):Nat:=3+((s.d6.flatMap iD).length+((s.d7.take j).flatMap fT).length)
theorem Qs(s:am):s.cells[0]?=σ s.zero:=rfl
theorem rD{s:am}{i:Nat}{x:bs}(h:s.d6[i]?=σ x)(a:j<x.un.length+2):s.cells[gN s i+j]?=(iD x)[j]?:=by
 have e:j<(iD x).length:=a;unfold am.cells gN
 grind [kO,Fh,pJ]
theorem yY{s:am}{i:Nat}{x:bH}(h:s.d7[i]?=σ x)(a:j<x.cs.length+1):s.cells[e6 s i+j]?=(fT x)[j]?:=by
 have e:j<(fT x).length:=a;unfold am.cells e6;rw[Nat.add_assoc,Nat.add_assoc,Y9 (by simp[kO]),show(kO s).length=3 from rfl,Nat.add_sub_cancel_left,Y9 Ω,Nat.add_sub_cancel_left,pJ h e]
theorem Qt(s:am)(c:Int):s.cells.set 0 c=({s with zero:=c}:am).cells:=rfl
theorem yZ{s:am}{i:Nat}{x y:bs}{c:Int}(h:s.d6[i]?=σ x)(a:j<x.un.length+2)(e:iD y=(iD x).set j c):s.cells.set (gN s i+j) c=({s with d6:=s.d6.set i y}:am).cells:=by
 have f:j<(iD x).length:=a;unfold am.cells gN
 grind [kO,Fh,yX]
theorem Fi{s:am}{i:Nat}{x y:bH}{c:Int}(h:s.d7[i]?=σ x)(a:j<x.cs.length+1)(e:fT y=(fT x).set j c):s.cells.set (e6 s i+j) c=({s with d7:=s.d7.set i y}:am).cells:=by
 have f:j<(fT x).length:=a;unfold am.cells e6;rw[Nat.add_assoc,Nat.add_assoc,Q1 _ _ (by simp[kO]),show(kO s).length=3 from rfl,Nat.add_sub_cancel_left,Q1 _ _ Ω,Nat.add_sub_cancel_left,yX h f e]
 grind [kO]
theorem Qu{s:am}(x:bH):(s.cells++fT x).set 1 ((s.d7.length+1:Nat):Int)=({s with d7:=s.d7++[x]}:am).cells:=by
 grind [am.cells,kO]
theorem Qv{s:am}(e:iC):s.cells.set 2 ((s.elims.length+1:Nat):Int)=({s with elims:=s.elims++[e]}:am).cells:=by
 grind [am.cells,kO]
theorem rE(s:am):s.cells.length=3+((s.d6.flatMap iD).length+(s.d7.flatMap fT).length):=by
 unfold am.cells;rw[p8,p8];rfl
def ij(a sc:Λ):Λ:=sc.map λv=>a.getD v.toNat 0
def vK(k:Int)(a:Int)(p:bs×Int):Int:=if p.1.gone≠0 then a else min (a+p.1.un.getD p.2.toNat 0) k
def vL(k:Int)(a:Λ)(e:Int)(f:bH):Int:=if f.live≠0 then min (e+bg f.szs f.cs (ij a f.sc)) k else e
def dropped(mask:Int)(v:Int):Bool:=mask.toNat.testBit v.toNat
def ik(p:bs×Int):Bool:=decide (p.1.gone≠0)|| !dropped p.1.mask p.2
def dO(k:Int)(s:am)(a:Λ):Int:=if(s.d6.zip a).all ik then s.d7.foldl (vL k a) ((s.d6.zip a).foldl (vK k) s.zero)else k
def eK(s:am)(a:Λ):Prop:=a.length=s.d6.length/\∀(i:Nat)x v,s.d6[i]?=σ x->a[i]?=σ v->x.gone≠0\/(0<=v/\v<x.un.length)
structure aY(k:Int)(co:Λ)(s:am):Prop where
 dH:1<=k/\k<=2147483648
 c5:1<=co.length/\co.length<=64/\∀z∈co,1<=z/\z<=32
 zero:0<=s.zero/\s.zero<=k
 d6:s.d6.length=co.length
 var:∀(i:Nat)x z,s.d6[i]?=σ x->co[i]?=σ z->x.un.length=z.toNat/\(∀c∈x.un,0<=c/\c<=k)/\0<=x.mask/\x.mask<4294967296
 d7:∀f∈s.d7,ey co k (f.sc,f.cs)/\f.szs=aB co f.sc/\2<=f.sc.length
def newVar(u:Λ):bs:=⟨0,0,u⟩
def na(co:Λ)(g:c4):bH:=⟨g.1,aB co g.1,1,g.2⟩
def di(n:aD):am:=⟨n.zero,n.unary.map newVar,n.d7.map (na n.co),[]⟩
theorem Qw{n:aD}(h:kM n):aY n.k n.co (di n):=by
 refine⟨h.k,h.co,h.zero,by simp[di,h.l4],λi x z a j=>?_,λf p=>?_⟩
 .have a:(n.unary.map newVar)[i]?=σ x:=a;rw[x8]at a;obtain⟨u,q,rfl⟩:=Y0.1 a;obtain⟨h1,e⟩:=h.unary i z u j q;exact⟨h1,e,R6 _,by show(0:Int)<_;omega⟩
 .obtain⟨g,r,rfl⟩:=o8.1 p;obtain⟨h1,e⟩:=h.d7 g r;exact⟨h1,rfl,e⟩
theorem y0{n:aD}(h:gw w a n):aj x7 I5 [Γ a] w λv I=>v=Δ (n.co.length:Int)/\Ext w I:=by
 obtain⟨j,q,r,s,gr,aW,L,nm,d9,gz,fv2,h1,e,f,x,y,z,A⟩:=h;refine az func69 ?_;rw[cW oE.u];simp only[j0,aX];rw[aK gb.p 0 h1 rfl,aK cG.p 2 e rfl,aS al.u f.ls];exact⟨rfl,Ext.refl _⟩
theorem Qx{n:aD}(h:gw w a n):aj x7 KB [Γ a] w λv I=>v=Δ n.k/\Ext w I:=by
 obtain⟨f,j,q,r,gr,aW,L,nm,d9,gz,fv2,h1,e,s,x,y,z,A⟩:=h;refine az func203 ?_;rw[cW oE.u];simp only[j0,aX];rw[aK gb.p 0 h1 rfl,aK cG.p 1 e rfl];exact⟨rfl,Ext.refl _⟩
theorem Qy{n:aD}(h:gw w a n):aj x7 I4 [Γ a] w λv I=>v=Δ n.zero/\Ext w I:=by
 obtain⟨e,f,j,q,gr,aW,L,nm,d9,gz,fv2,h1,r,s,x,y,z,A⟩:=h;refine az func68 ?_;rw[cW oE.u];simp only[j0,aX];rw[aK gb.p 1 h1 rfl];exact⟨rfl,Ext.refl _⟩
theorem Fj{n:aD}(h:gw w a n):aj x7 BF [Γ a] w λv I=>v=Δ (n.d7.length:Int)/\Ext w I:=by
 obtain⟨j,q,r,s,gr,aW,L,nm,d9,gz,fv2,h1,x,y,z,A,e,f⟩:=h;refine az func72 ?_;rw[cW oE.u];simp only[j0,aX];rw[aK gb.p 3 h1 rfl,e3 mG.u e.1];exact⟨by rw[<-f,o4],Ext.refl _⟩
theorem Fk{x:Nat}{n:aD}{i:Int}(h:gw w x n)(j:kM n):aj x7 I6 [Γ x,Δ i] w λv I=>Ext w I/\(¬(0<=i/\i<n.co.length)->v= .slice ν 0 0)/\
  ∀u,0<=i->n.unary[i.toNat]?=σ u->∃g,w.heap.size<=g/\ao .i64 ap I g v u:=by
 refine az func70 ?_;have N:=j.l4;refine aV (λv J=>v= .bool (decide (¬(0<=i/\i<n.co.length)))/\Ext w J) ?_ ?_
 .rintro _ J ⟨rfl,e⟩;rw[ai];refine⟨λE=>⟨e,λ_=>rfl,λu G f=>?_⟩,λq=>?_⟩
  .have:=(x4.1 f).1;exact m6 ⟨G,Ω⟩ E
  have q:=Z6.1 q;obtain⟨O,P,Q,R,gr,aW,L,nm,d9,gz,fv2,h1,S,U,r,y,W,X⟩:=h.W e;have Y:aW.length=n.unary.length:=by rw[<-y,o4]
  obtain⟨a,s⟩:=aF (l:=aW) (i:=i.toNat) Ω;obtain⟨Z,hm⟩:=r.2 a (x5 s);rw[aK gb.p 2 h1 rfl,dm (i:=i.toNat) Ω e0.u aw.i r.1 Ω,ax (o:=i.toNat*1) Ψ (r.1.range s 0 _ rfl)];have A:n.unary[i.toNat]?=σ a.l:=by rw[<-y,x8,s];rfl
  have aa:a.l.length<=32:=by
   obtain⟨z,B⟩:=aF (l:=n.co) (i:=i.toNat) Ω;have ab:=(j.unary i.toNat z a.l B A).1;have ac:=j.co.2.2 z (x5 B);omega
  refine(xP hm.ls Ω).X ?_;rintro v V _ ⟨H,g,ad,K⟩;refine⟨e.F H,λM=>m6 q M,λu _ f=>⟨g,by have:=e.size;omega,?_⟩⟩;rw[A]at f;cases f;exact K
 .intro ay C;rw[aP,ai];refine⟨λae=>C _ _ ⟨by rw[m7];omega,Ext.refl _⟩,λaf=>?_⟩;refine(y0 h).X ?_;rintro _ J _ ⟨rfl,e⟩;rw[cI];refine C _ _ ⟨?_,e⟩;congr 1;rw[T1,pl,pl];omega
theorem vM{n:aD}{i:Int}(h:gw w j n)(a:kM n):aj x7 J7 [Γ j,Δ i] w λv I=>Ext w I/\v=Δ (if 0<=i then n.co.getD i.toNat 0 else 0):=by
 refine az func157 ?_;refine(Fk h a).X ?_;rintro v J _ ⟨p,s,x⟩;by_cases e:0<=i/\i<n.co.length
 .have y:=a.l4;obtain⟨u,q⟩:=aF (l:=n.unary) (i:=i.toNat) Ω;obtain⟨z,f⟩:=aF (l:=n.co) (i:=i.toNat) Ω;obtain⟨g,_,hm⟩:=x u e.1 q;rw[aS aw.u hm.ls];refine⟨p,?_⟩;have A:=(a.unary i.toNat z u f q).1;have B:=a.co.2.2 z (x5 f);rw[m3 e.1,u5,f];congr 1;simp only[Option.getD_some];omega
 .rw[s e,iv aw.u];refine⟨p,?_⟩;by_cases r:0<=i
  .rw[m3 r,u5,Z9 Ω];rfl
  .rw[m5 r];rfl
theorem Fl{n:aD}{j:Int}(h:gw w a n)(f:∀I,Ext w I->K (.bool (decide (¬(0<=j/\j<n.d7.length)))) I):
  ab x7 (aO .lss ae rs ro (Δ j) (Δ 0)) w λq=>Split q (K (.bool ro) w) (aj x7 BF [Γ a] w λr p=>ab x7 (aO .geq ae rs rs (Δ j) r) p λs=>K s p):=by
 rw[aP,ai];refine⟨λy=>?_,λz=>?_⟩
 .have:=f w (Ext.refl _);rw[m7 (show¬(0<=j/\j<n.d7.length) by omega)]at this;exact this
 .refine (Fj h).X ?_;rintro _ J _ ⟨rfl,x⟩;rw[cI];have:=f J x;have e:decide ((n.d7.length:Int)<=j)=decide (¬(0<=j/\j<n.d7.length)):=by
   rw[T1,pl,pl];omega
  rw[<-e]at this;exact this
theorem Qz{s:Nat}{n:aD}{g:c4}(h:gw w s n)(z:kM n)(e:n.d7[j]?=σ g):aj x7 I8 [Γ s,Δ (j:Int)] w λv I=>Ext w I/\∃gs,w.heap.size<=gs/\ao .i64 ae I gs v g.1:=by
 refine az func74 ?_;have G:=(x4.1 e).1;refine aV (λv J=>v= .bool (decide (¬(0<=(j:Int)/\(j:Int)<n.d7.length)))/\Ext w J) ?_ λay A=>Fl h λI B=>A _ _ ⟨rfl,B⟩;rintro _ J ⟨rfl,f⟩;rw[ms Ω,aX];obtain⟨H,K,M,N,gr,aW,L,nm,d9,gz,fv2,h1,O,P,Q,R,q,x⟩:=h.W f;have S:L.length=n.d7.length:=by rw[<-x,o4]
 obtain⟨a,r⟩:=aF (l:=L) (i:=j) Ω;have y:ed a=g:=by rw[<-x,x8,r]at e;exact Z7 e
 obtain⟨⟨U,hm⟩,_⟩:=q.2 a (x5 r);rw[aK gb.p 3 h1 rfl,dm rfl mG.u iN.i q.1 Ω,aT iN.p rfl,ax Ψ (q.1.range r 0 _ rfl)];have W:a.sc.length<=6:=by
  have:=(z.d7 g (x5 e)).1.scope.2;rw[<-y]at this;exact this
 refine(j3 hm.ls Ω).X ?_;rintro v V _ ⟨C,gs,X,E⟩;refine⟨f.F C,gs,by have:=f.size;omega,?_⟩;rw[<-y];exact E
theorem QA{g C:Nat}{cs:Λ}(h:ce w g C sv szs k cs):aj x7 J2 [Γ g] w λv I=>Ext w I/\∃a e,v=Γ a/\w.heap.size<=a/\w.heap.size<=e/\ce I a e sv szs k cs:=by
 obtain⟨⟨a1,gs,E,hm,G⟩,⟨h1,M,H⟩,U,y⟩:=h;refine az func151 ?_;rw[cW dv.u];simp only[j0,aX];intro J f _ _;have r:=E.W f;have N:=prod_bound U;rw[bR,aT cu.p rfl,bB (cs:=[sv]) bn.p bn.i rfl (oJ r (by
  intro j v s
  match j,s with
  |0,s=>exact s)),aK cu.p 1 r rfl,aK cu.p 2 r rfl]
 refine(xP (G.ls.W f) Ω).X ?_;rintro z V _ ⟨x,e,O,q⟩;refine⟨.inl x,?_⟩;rw[dw (cs:=#[sv,Δ k,z]) (by obtain⟨_,_,_,rfl⟩:=cP hm.ls;obtain⟨_,_,_,rfl⟩:=cP q.ls;kernel_rfl)];refine bm λa P Q A K=>?_;have R:=f.size;have S:=x.size;have W:=q;have B:=(f.F x).F A;refine⟨B,a,e,rfl,Ω,Ω,⟨z,gs,K,hm.W B,q.W A⟩,⟨?_,?_,H⟩,U,y⟩
 .have:=iA q (by rw[y];omega);omega
 .intro L;obtain⟨X,Y⟩:=bE hm L;omega
theorem QB{z:Nat}{n:aD}{g:c4}(A:gw w0 z n)(B:Ext w0 w)(f:n.d7[j]?=σ g):aj x7 I9 [Γ z,Δ (j:Int)] w λv I=>Ext w I/\∃gt q sv,v=Γ gt/\w.heap.size<=gt/\w.heap.size<=q/\ce I gt q sv (aB n.co g.1) n.k g.2/\∀r,li sv r->∃c,ag w0 r ae c:=by
 have h:=A.W B;refine az func75 ?_;have X:=(x4.1 f).1;refine aV (λv J=>v= .bool (decide (¬(0<=(j:Int)/\(j:Int)<n.d7.length)))/\Ext w J) ?_ λay K=>Fl h λI M=>K _ _ ⟨rfl,M⟩;rintro _ J ⟨rfl,s⟩;rw[ms Ω,aX];have e:=B.F s;obtain⟨Y,Z,aa,ab,gr,aW,L,nm,d9,gz,fv2,h1,ac,ad,af,ah,x,C⟩:=A;have ai:L.length=n.d7.length:=by rw[<-C,o4]
 obtain⟨a,y⟩:=aF (l:=L) (i:=j) Ω;have N:ed a=g:=by rw[<-C,x8,y]at f;exact Z7 f
 obtain⟨_,q,O,E⟩:=x.2 a (x5 y);rw[aK gb.p 3 (h1.W e) rfl,dm rfl mG.u iN.i (x.1.W e) Ω,aT iN.p rfl,ax Ψ ((x.1.W e).range y 1 _ rfl)];refine(QA (E.W e)).X ?_;rintro v V _ ⟨P,gt,Q,rfl,ak,al,R⟩;have am:=s.size;refine⟨s.F P,gt,Q,O,rfl,Ω,Ω,?_,λr G=>?_⟩
 .rw[<-N];exact R
 .obtain⟨⟨_,_,_,hm,_⟩,_⟩:=E;obtain⟨S,_⟩:=bE hm G;rcases hm.2 with⟨U,_⟩|⟨_,cs,_,W,_⟩
  .obtain⟨_,_,_,H,an⟩:=G;rw[U]at H;cases H
  .exact⟨cs,S▸W⟩
structure rF where
 aJ:x1
 d9:x1
 at_:Nat
def oW(x:rF):List x1:=[x.aJ,x.d9,Δ (x.at_:Int)]
structure qe where
 v:Int
 aJ:x1
 bv:x1
def kg(x:qe):List x1:=[Δ x.v,x.aJ,x.bv]
def iZ(s:am):Λ:=(Z2 s.d6.length).map λi=>(gN s i:Int)
def kh(R:ah)(w:x3)(v:x1)(l:Λ):Prop:=(∃g,ao .i64 ae w g v l)/\∀r,li v r->R r
theorem kh.ls{R:ah}(h:kh R w v l):aI .i64 w v l:=by
 obtain⟨⟨g,h⟩,_⟩:=h;exact h.ls
theorem kh.aa{R S:ah}(h:kh R w v l)(f:af S w I)(j:∀r,r<w.heap.size->R r->¬S r):kh R I v l:=by
 obtain⟨⟨g,h1⟩,a⟩:=h;exact⟨⟨g,bk h1 f λr e=>j r (by obtain⟨p,q⟩:=bE h1 e;omega) (a r e)⟩,a⟩
theorem kh.X{R R':ah}(h:kh R w v l)(a:∀r,R r->R' r):kh R' w v l:=⟨h.1,λr e=>a r (h.2 r e)⟩
def l5(R:ah)(w:x3)(L:List rF)(s:am):Prop:=L.length=s.d7.length/\∀(j:Nat)x f,L[j]?=σ x->s.d7[j]?=σ f->kh R w x.aJ f.sc/\kh R w x.d9 f.szs/\x.at_=e6 s j
def nb(R:ah)(w:x3)(E:List qe)(s:am):Prop:=E.length=s.elims.length/\∀(j:Nat)x e,E[j]?=σ x->s.elims[j]?=σ e->x.v=e.v/\kh R w x.aJ e.sc/\kh R w x.bv e.dn
theorem l5.aa{R S:ah}{L:List rF}{s:am}(h:l5 R w L s)(a:af S w I)(e:∀r,r<w.heap.size->R r->¬S r):l5 R I L s:=⟨h.1,λj x f p q=>by
 obtain⟨h1,y,z⟩:=h.2 j x f p q;exact⟨h1.aa a e,y.aa a e,z⟩⟩
theorem nb.aa{R S:ah}{E:List qe}{s:am}(h:nb R w E s)(a:af S w I)(e:∀r,r<w.heap.size->R r->¬S r):nb R I E s:=⟨h.1,λj x f p q=>by
 obtain⟨h1,y,z⟩:=h.2 j x f p q;exact⟨h1,y.aa a e,z.aa a e⟩⟩
theorem l5.X{R R':ah}{L:List rF}{s:am}(h:l5 R w L s)(a:∀r,R r->R' r):l5 R' w L s:=⟨h.1,λj x f e p=>by
 obtain⟨h1,q,y⟩:=h.2 j x f e p;exact⟨h1.X a,q.X a,y⟩⟩
theorem nb.X{R R':ah}{E:List qe}{s:am}(h:nb R w E s)(a:∀r,R r->R' r):nb R' w E s:=⟨h.1,λj x f e p=>by
 obtain⟨h1,q,y⟩:=h.2 j x f e p;exact⟨h1,q.X a,y.X a⟩⟩
theorem tg{a b c:x3}(h:Ext a b)(k:af S b c)(f:∀r o,a.heap[r]?=σ o->fK o=ro->¬S r):Ext a c:=
 ⟨Y2 h.size k.size,λr o e U=>k.aZ r o (h.aZ r o e U) U (f r o e U)⟩
theorem dF.cut{A:ah}{t:av}(h:dF w ad A t):dF w ad (λr=>A r/\r<w.heap.size) t:=by
 obtain⟨s,x,go,dx,a1,y,eo,h1,e,f,j,z⟩:=h;refine⟨⟨s,h1.lt⟩,x,go,dx,a1,y,eo,h1,e,f,j,λr a=>⟨z r a,?_⟩⟩;rcases a with a|a|a
 .obtain⟨p,q⟩:=e.li a;omega
 .obtain⟨p,q⟩:=f.li a;omega
 .obtain⟨p,q⟩:=j.li a;omega
def eS(w:x3)(ac ad j:Nat)(e f h:x1)(A R:ah)(n:aD)(s:am)(t:av):Prop:=
 (A ac/\(∀r,A r->¬R r)/\(∀r,R r->r<w.heap.size)/\∀r,A r->r<w.heap.size)/\∃aU p ge,∃(L:List rF)(E:List qe)(a:ah)(w0:x3),
  ag w ac bX [Γ j,Γ ad,e,f,h]/\(gw w0 j n/\Ext w0 w/\∀r o,w0.heap[r]?=σ o->fK o=ro->R r)/\
  (dF w ad a t/\(∀r,a r->A r)/\¬a ac/\∀r,li e r\/lc f r\/lc h r->A r/\¬a r)/\ao .i64 ae w aU e (iZ s)/\
  (bj oW 3 dq w p f L/\l5 R w L s)/\bj kg 3 ca w ge h E/\nb R w E s
theorem eS.aa{S:ah}{p q x:x1}{A R:ah}{n:aD}{s:am}{t:av}(h:eS w ac ad j p q x A R n s t)(a:af S w I)(f:∀r,r<w.heap.size->A r\/R r->¬S r):eS I ac ad j p q x A R n s t:=by
 obtain⟨⟨h1,aj,ak,al⟩,aU,y,ge,L,E,B,w0,C,⟨F,G,H⟩,⟨J,K,M,N⟩,O,⟨P,Q⟩,T,V⟩:=h;have z:=a.size;refine⟨by grind,aU,y,ge,L,E,B,w0,C.aa a (by grind),⟨F,tg G a λr o e an U=>f r (by grind) (by grind) U,H⟩,
  ⟨?_,K,M,N⟩,bk O a λr e U=>f r ?_ (by grind) U,⟨P.aa a λr e U=>f r ?_ (by grind) U,Q.aa a (by grind)⟩,T.aa a λr e U=>f r ?_ (by grind) U,V.aa a (by grind)⟩
 .obtain⟨W,X,go,dx,a1,Y,eo,Z,ab,ae,ag,ai⟩:=J;refine⟨W,X,go,dx,a1,Y,eo,Z.aa a (by grind),ab.aa a λr e U=>?_,ae.aa a λr e U=>?_,ag.aa a λr e U=>?_,ai⟩
  all_goals grind
 all_goals grind
theorem eS.W{e f j:x1}{A R:ah}{n:aD}{s:am}{t:av}(h:eS w ac ad a e f j A R n s t)(p:Ext w I):eS I ac ad a e f j A R n s t:=h.aa (p.aa λ_=>False) λ_ _ _ h=>h
theorem eS.th{q:Nat}{x y:x1}{A R:ah}{n:aD}{s:am}{t:av}(h:eS w ac ad q x y z A R n s t):∃j,dF w ad j t/\∀f I t',Grow j w f I->dF I ad f t'->∃aH,Grow A w aH I/\eS I ac ad q x y z aH R n s t':=by
 obtain⟨⟨h1,af,C,F⟩,aU,K,ge,L,E,j,w0,M,⟨N,O,P⟩,⟨Q,G,S,ag⟩,T,⟨U,V⟩,W,X⟩:=h;refine⟨j,Q,λH I t' p Y=>?_⟩;have J:=Y.cut;have e:Grow j w (λr=>H r/\r<I.heap.size) I:=⟨p.1,λr a=>p.2.1 r a.1,λr a=>⟨p.2.2 r a,by have:=F r (G r a);have:=p.1.size;omega⟩⟩;obtain⟨f,Z⟩:∃B:ah,B=λr=>H r/\r<I.heap.size:=⟨_,rfl⟩;rw[<-Z]at J e;have ai:∀r,f r->r<I.heap.size:=by grind
 refine⟨λr=>A r\/f r,⟨e.1.X (by grind),λr a=>?_,by grind⟩,⟨.inl h1,λr a ab=>?_,λr a=>?_,λr a=>?_⟩,aU,K,ge,L,E,f,w0,M.aa e.1 S,⟨N,tg O e.1 (by grind),P⟩,
  ⟨J,by grind,λa=>?_,λr a=>⟨by grind,λae=>?_⟩⟩,bk T e.1 (by grind),⟨U.aa e.1 (by grind),V.aa e.1 (by grind)⟩,W.aa e.1 (by grind),X.aa e.1 (by grind)⟩
 .rcases a with a|a
  .grind
  .exact (e.2.1 r a).imp (G r) id
 .have:=C r ab;rcases a with a|a
  .grind
  .rcases e.2.1 r a with h|h
   all_goals grind
 .have:=C r a;have:=e.1.size;omega
 .rcases a with a|a
  .have:=F r a;have:=e.1.size;omega
  grind
 .rcases e.2.1 _ a with h|h
  all_goals grind
 .rcases e.2.1 r ae with h|h
  all_goals grind
def StateM(w:x3)(ac ad:Nat)(A R:ah)(n:aD)(s:am)(t:av):Prop:=∃a e f h,eS w ac ad a e f h A R n s t
theorem StateM.aa{S:ah}{A R:ah}{n:aD}{s:am}{t:av}(h:StateM w ac ad A R n s t)(a:af S w I)(e:∀r,r<w.heap.size->A r\/R r->¬S r):StateM I ac ad A R n s t:=by
 obtain⟨f,j,p,q,h⟩:=h;exact⟨f,j,p,q,h.aa a e⟩
theorem StateM.W{A R:ah}{n:aD}{s:am}{t:av}(h:StateM w ac ad A R n s t)(a:Ext w I):StateM I ac ad A R n s t:=h.aa (a.aa λ_=>False) λ_ _ _ h=>h
theorem StateM.th{A R:ah}{n:aD}{s:am}{t:av}(h:StateM w ac ad A R n s t):∃a,dF w ad a t/\∀e I t',Grow a w e I->dF I ad e t'->∃aH,Grow A w aH I/\StateM I ac ad aH R n s t':=by
 obtain⟨f,j,p,q,h⟩:=h;obtain⟨a,h1,r⟩:=h.th;exact⟨a,h1,λe I t' x y=>by
  obtain⟨aH,z,B⟩:=r e I t' x y;exact⟨aH,z,f,j,p,q,B⟩⟩
def n8(s s':am):Prop:=iZ s'=iZ s/\s'.d7.length=s.d7.length/\(∀(j:Nat)a,s'.d7[j]?=σ a->∃f,s.d7[j]?=σ f/\a.sc=f.sc/\a.szs=f.szs/\e6 s' j=e6 s j)/\s'.elims=s.elims
theorem eS.same{e p q:x1}{A R:ah}{n:aD}{s s':am}{t:av}(h:eS w ac ad a e p q A R n s t)(U:n8 s s'):eS w ac ad a e p q A R n s' t:=by
 obtain⟨an,aU,y,ge,L,E,z,w0,B,C,F,T,⟨G,r⟩,H,V⟩:=h;obtain⟨W,I,J,X⟩:=U;refine⟨an,aU,y,ge,L,E,z,w0,B,C,F,by grind,⟨G,r.1.F I.symm,λj x K M N=>?_⟩,H,?_⟩
 .obtain⟨f,O,P,Q,S⟩:=J j K N;rw[P,Q,S];exact r.2 j x f M O
 grind [nb]
theorem StateM.same{A R:ah}{n:aD}{s s':am}{t:av}(h:StateM w ac ad A R n s t)(U:n8 s s'):StateM w ac ad A R n s' t:=by
 obtain⟨a,e,f,j,h⟩:=h;exact⟨a,e,f,j,h.same U⟩
theorem vN{α β:Type}{f:α->List β}:∀{L:List α}{i j:Nat}{a b:α},L[i]?=σ a->(f b).length=(f a).length->(((L.set i b).take j).flatMap f).length=((L.take j).flatMap f).length
 |[],_,_,_,_,h,_=>by simp at h
 |x::L,0,j,a,b,h,e=>by
  cases h;cases j<;>grind
 |x::L,i+1,j,a,b,h,e=>by
  have h:L[i]?=σ a:=by grind
  cases j with
  |zero=>rfl
  |succ j=>
   rw[List.set_cons_succ,List.take_succ_cons,List.take_succ_cons,U7,U7,p8,p8,vN h e]
theorem y1(s:am)(c:Int):n8 s {s with zero:=c}:=⟨rfl,rfl,λj f h=>⟨f,h,rfl,rfl,rfl⟩,rfl⟩
theorem ti{s:am}{i:Nat}{x y:bs}(a:s.d6[i]?=σ x)(e:y.un.length=x.un.length):n8 s {s with d6:=s.d6.set i y}:=by
 have p:(iD y).length=(iD x).length:=by simp[iD,e]
 refine⟨?_,rfl,λj f h=>⟨f,h,rfl,rfl,?_⟩,rfl⟩
 .grind [iZ,gN,vN]
 .unfold e6;have:=vN (j:=s.d6.length) a p
  grind [n9]
theorem y2{s:am}{i:Nat}{x y:bH}(e:s.d7[i]?=σ x)(a:y.cs.length=x.cs.length)(h1:y.sc=x.sc)(p:y.szs=x.szs):n8 s {s with d7:=s.d7.set i y}:=by
 have q:(fT y).length=(fT x).length:=by simp[fT,a]
 refine⟨rfl,U4,λj f h=>?_,rfl⟩
 grind [e6,vN]
theorem av.y3(t:av)(i:Nat)(x:Int):(t.set i x).marks=t.marks:=by
 grind [av.set]
theorem av.Fm(t:av)(i:Nat)(x:Int):(t.set i x).kD=t.kD:=by
 grind [av.set]
theorem av.Fo(t:av)(i:Nat)(x:Int):(t.set i x).cells.length=t.cells.length:=by
 grind [av.q6,av.bO,o4]
theorem av.y4(t:av)(i:Nat)(x:Int):(t.set i x).olds.length<=t.olds.length+1:=by
 unfold av.set
 grind
theorem av.y5{t:av}(h:t.marks=[])(i:Nat)(x:Int):(t.set i x).olds=t.olds:=by
 grind [av.set]
def gx(t:av)(l:Λ):Nat->av
 |0=>t.grow l.length
 |i+1=>(gx t l i).set (t.cells.length+i) (l.getD i 0)
def l6(t:av)(l:Λ):av:=gx t l l.length
theorem rG(t:av)(l:Λ):∀i,(gx t l i).marks=t.marks
 |0=>rfl
 |i+1=>(av.y3 _ _ _).F (rG t l i)
theorem Fp(t:av)(l:Λ):∀i,(gx t l i).kD=t.kD
 |0=>rfl
 |i+1=>(av.Fm _ _ _).F (Fp t l i)
theorem y6(t:av)(l:Λ):∀i,(gx t l i).cells.length=t.cells.length+l.length
 :=by
 intro a;induction a<;>grind [gx,av.grow,av.Fo]
theorem vO(t:av)(l:Λ):∀i,(gx t l i).olds.length<=t.olds.length+i
 |0=>p9 _
 |i+1=>by have:=av.y4 (gx t l i) (t.cells.length+i) (l.getD i 0);have:=vO t l i;show(av.set _ _ _).olds.length<=_;omega
theorem Fq{t:av}(h:t.marks=[])(l:Λ):∀i,(gx t l i).olds=t.olds
 |0=>rfl
 |i+1=>(av.y5 ((rG t l i).F h) _ _).F (Fq h l i)
theorem Fr(t:av)(l:Λ):∀i,i<=l.length->(gx t l i).bO=t.bO++(l.take i++r8 (l.length-i) 0)
 |0,_=>by rw[List.take_zero,List.nil_append];exact av.L8
 |i+1,h=>by
  have a:=Fr t l i Ω;show(av.set _ _ _).bO=_;have e:t.bO.length=t.cells.length:=by simp[av.bO]
  rw[av.q6,a,Q1 _ _ Ω,e,Nat.add_sub_cancel_left,Q1 _ _ (by rw[c7];omega),c7,Nat.min_eq_left Ω,U5,show l.length-i=(l.length-(i+1))+1 by omega,List.replicate_succ,List.set_cons_zero,u7,u5,x6 Ω]
  grind
theorem Fs(t:av)(l:Λ):(l6 t l).bO=t.bO++l:=by
 grind [l6,Fr]
theorem gJ.gx{h:List av}{t:av}(hk:gJ t h)(l:Λ):∀i,gJ (gx t l i) h
 |0=>hk.grow
 |i+1=>(gJ.gx hk l i).set
theorem kK{s:Go.Sem x1}{x:x1}(h:ab x7 s w (λv=>v=x)):cE x7 s x w:=by
 obtain⟨v,h,rfl⟩:=h;exact h
theorem vP{off:Nat}{z:Nat}{a:r9}{x:x1}(f:ag w ac e cs)(h:∀(K:x1->Prop),ab x7 (u6 bX (Γ ac) z) w K=K (.pointer (σ ⟨ac,0+off,ν⟩)))(j:lh x7 a=ro)(p:cs[0+off]?=σ x):
  cE x7 (u4 a (.pointer (σ ⟨ac,0+off,ν⟩))) x w/\cE x7 (u6 bX (Γ ac) z) (.pointer (σ ⟨ac,0+off,ν⟩)) w/\cE x7 (bQ (Γ ac)) (Γ ac) w/\True:=
 ⟨mP j (f.cell p),kK (by rw[h]),kK (by rw[bR]),trivial⟩
def Ft(w:x3)(r:Nat):Prop:=∃e c,ag w r e c/\(e=fC\/e=eH\/e=lf\/e=fQ\/e=bX\/e=dq\/e=ca)
def du(w:x3)(r:Nat):Prop:=Ft w r\/∀o,w.heap[r]?=σ o->fK o≠ro
theorem oX{J:x3}(hk:∀o,w.heap[r]?=σ o->fK o=ro->¬du w r->J.heap[r]?=σ o)(h:du J r):du w r:=by
 by_cases a:du w r
 .exact a
 .refine m6 (.inr λo f U=>?_) a;have h1:=hk o f U a;rcases h with⟨e,c,j,he⟩|p
  .refine a (.inl ⟨e,c,?_,he⟩)
   grind [ag]
  grind
theorem gA{J V:x3}(a:Ext w J)(e:af (du J) J V):af (du w) w V:=(a.aa _).F (e.X λr _ h=>oX (λo f U _=>a.aZ r o f U) h)
theorem nc{J V:x3}(h:af (du w) w J)(a:af (du J) J V):af (du w) w V:=h.F (a.X λr _ e=>oX (λo f U j=>h.aZ r o f U j) e)
theorem dF.min{A:ah}{t:av}(h:dF w ad A t):dF w ad (λr=>A r/\Ft w r) t:=by
 obtain⟨q,s,go,dx,a1,x,eo,h1,f,j,p,y⟩:=h;refine⟨⟨q,_,_,h1,.inl rfl⟩,s,go,dx,a1,x,eo,h1,f,j,p,λr a=>⟨y r a,?_⟩⟩;rcases a with a|a|a
 .obtain⟨rfl,c,e⟩:=dN f a;exact⟨_,c,e,.inr (.inl rfl)⟩
 .obtain⟨rfl,c,e⟩:=dN j a;exact⟨_,c,e,.inr (.inr (.inl rfl))⟩
 .obtain⟨rfl,c,e⟩:=dN p a;exact⟨_,c,e,.inr (.inr (.inr (.inl rfl)))⟩
theorem eS.vQ{f:Nat}{j p q:x1}{A R:ah}{n:aD}{s:am}{t:av}(h:eS w ac ad f j p q A R n s t):∃a,dF w ad a t/\∀x I t',Grow a w x I->dF I ad x t'->af (du w) w I/\∃aH,Grow A w aH I/\eS I ac ad f j p q aH R n s t':=by
 obtain⟨a,y,z⟩:=h.th;refine⟨_,y.min,λB J t' e C=>⟨e.1.X λr _ h=>.inl h.2,?_⟩⟩;exact z (λr=>a r\/B r) J _ ⟨e.1.X λr _ h=>h.1,λr E=>E.elim .inl λh=>(e.2.1 r h).imp (λh=>h.1) id,by grind⟩ (C.X (by grind))
theorem Fu{q:Nat}{y B:x1}{A R:ah}{n:aD}{s:am}{t:av}{bD:x1}(h:eS w ac ad q y z B A R n s t)(C:aI .i64 w bD l)(P:∀r,li bD r->¬A r)(aG:t.cells.length+l.length<=100000000)(aJ:t.olds.length+l.length<=100000000)(hm:t.marks.length<=100000000):
  aj x7 BE [Γ ac,bD] w λv I=>v=Δ (t.cells.length:Int)/\af (du w) w I/\∃aH,Grow A w aH I/\eS I ac ad q y z B aH R n s (l6 t l):=by
 refine az func71 ?_;obtain⟨_,aU,Q,ge,L,E,_,w0,G,_⟩:=id h;obtain⟨S,H,K⟩:=h.vQ;rw[aK bX.p 1 G rfl,aS aw.u C];refine(Qq H ⟨Ω,Ω,hm⟩ Ω).X ?_;rintro _ J _ ⟨rfl,U,W,X⟩;obtain⟨Y,Z,N,aa⟩:=K U J _ W X;have O:∀{aH:ah}{I:x3},Grow A w aH I->aI .i64 I bD l:=λab=>jk C ab.1 λr ae a ag c ak al=>P r ⟨a,ag,c,ak,al⟩ ae;rw[aS aw.u (O N)];have an:=C.le;refine cm.range l.length (λi V=>af (du w) w V/\∃e,Grow A w e V/\eS V ac ad q y z B e R n s (gx t l i)) an ⟨Y,Z,N,aa⟩ ?_ ?_
 .rintro i V k hi ⟨M,e,f,j⟩ hk;refine bC Ω ?_;obtain⟨x,ao⟩:=aF (l:=l) hi;rw[be aw.u ap.i Ψ (O f) ao];obtain⟨_,aU,Q,ge,L,E,_,w0,G,_⟩:=id j;obtain⟨S,H,K⟩:=j.vQ;have aL:=y6 t l i;have aN:=vO t l i;have aq:=rG t l i;rw[aK bX.p 1 G rfl,aM,lm Ω Ω];refine(tf (i:=t.cells.length+i) H Ω Ω ⟨Ω,Ω,by rw[aq];exact hm⟩).X ?_;rintro _ au _ ⟨rfl,ax,ay,aA⟩;obtain⟨aB,aC,aE,aO⟩:=K ax au _ ay aA;rw[aM];refine hk _ ⟨nc M aB,aC,f.F aE,?_⟩
  grind [gx]
 .rintro V k ⟨M,e,f,j⟩;rw[aP,ai];exact⟨λh=>Ω,λ_=>⟨rfl,M,e,f,j⟩⟩
def gO(s:am)(sc szs cs:Λ):am:={s with d7:=s.d7++[⟨sc,szs,1,cs⟩]}
def oa(s:am)(t:av)(cs:Λ):av:=(l6 t (1::cs)).set 1 ((s.d7.length+1:Nat):Int)
theorem Fv{s:am}{t:av}{sc cs:Λ}(h:t.bO=s.cells):(oa s t cs).bO=(gO s sc szs cs).cells:=by
 unfold oa gO;rw[av.q6,Fs,h,<-Qu];rfl
theorem Fw{bi:Nat}{bj aG bl:x1}{A R:ah}{n:aD}{s:am}{t:av}{aJ:x1}{sc cs:Λ}{g bC:Nat}{Y:x1}(h:eS w ac ad bi bj aG bl A R n s t)(c3:t.bO=s.cells)(bY:aI .i64 w aJ sc)(c4:∀r,li aJ r->¬A r)(bm:ce w g bC Y szs k cs)(bZ:¬A g/\¬A bC/\∀r,li Y r->¬A r)(c5:sc.length<=1000)(aQ:t.cells.length+cs.length+1<=100000000)(ba:t.olds.length+cs.length+1<=100000000)(hm:t.marks.length<=100000000)(c6:s.d7.length<=1000000):
  aj x7 I7 [Γ ac,aJ,Γ g] w λv I=>v=Δ (s.d7.length:Int)/\af (du w) w I/\∃aH R' bn,Grow A w aH I/\eS I ac ad bi bj bn bl aH R' n (gO s sc szs cs) (oa s t cs)/\(∀r,R r->R' r)/\∀r,R' r->R r\/li Y r\/w.heap.size<=r:=by
 have c7:t.cells.length=s.cells.length:=by grind [av.bO]
 have c8:=rE s;have c9:e6 (gO s sc szs cs) s.d7.length=t.cells.length:=by
  grind [e6,gO]
 have da:∀j,j<s.d7.length->e6 (gO s sc szs cs) j=e6 s j:=by grind [e6,gO]
 have b0:iZ (gO s sc szs cs)=iZ s:=rfl;refine az func73 ?_;refine dk (λJ=>af (du w) w J/\∃aH R' bn,Grow A w aH J/\eS J ac ad bi bj bn bl aH R' n (gO s sc szs cs) (l6 t (1::cs))/\(∀r,R r->R' r)/\∀r,R' r->R r\/li Y r\/w.heap.size<=r) ?_ ?_
 .rintro J ⟨b1,db,b2,b3,b4,b5,b6,b7⟩;intro V bo _ _;have bD:=b5.W bo;obtain⟨_,aU,bp,ge,L,E,_,w0,ak,_,_,_,⟨aX,bb⟩,_⟩:=id bD;have bq:L.length=s.d7.length+1:=by rw[bb.1];simp[gO]
  rw[aK bX.p 1 ak rfl,aK bX.p 3 ak rfl,e3 fe.u aX];obtain⟨bF,b8,b9⟩:=bD.vQ;have ca:=y6 t (1::cs) (1::cs).length;have cb:=vO t (1::cs) (1::cs).length;have dc:=rG t (1::cs) (1::cs).length;simp only[Y3]at ca cb;refine(tf b8 rfl (by show 1<(gx _ _ _).cells.length;grind) ⟨by show(gx _ _ _).cells.length<=_;grind,by show(gx _ _ _).olds.length<=_;grind,by show(gx _ _ _).marks.length<=_;grind⟩).X ?_;rintro _ cc _ ⟨rfl,cd,cf,cg⟩;obtain⟨ch,ci,ck,cl⟩:=b9 cd cc _ cf cg;obtain⟨_,aU,bp,ge,cm,E,_,w0,ak,_,_,_,⟨aX,cn⟩,_⟩:=id cl;have dd:cm.length=s.d7.length+1:=by rw[cn.1];simp[gO]
  rw[aK bX.p 3 ak rfl,e3 fe.u aX,dR,lm Ω Ω];refine⟨by grind,nc b1 (gA bo ch),ci,b2,b3,b4.F ((Grow.W bo).F ck),?_,b6,b7⟩
  grind [oa]
 intro ay cp;intro aL aM _ _;have bG:=h.W aM;obtain⟨_,aU,bp,ge,L,E,_,w0,ak,_⟩:=id bG;rw[aK bX.p 3 ak rfl];have z4:=aM.size;have bc:∀{B:x3}{Z S:x1}{aY ag:Nat},Ext aL B->w.heap.size<=aY->w.heap.size<=ag->ao .i64 ae B aY Z sc->ao .i64 ap B ag S (1::cs)->(∀r,li Z r\/li S r->¬A r)->
   aj x7 BE [Γ ac,S] B λcq ax=>
    (Ext aL ax\/cE x7 (u4 fe (.pointer (σ ⟨ac,0+3,ν⟩))) aG ax/\cE x7 (u6 bX (Γ ac) 3) (.pointer (σ ⟨ac,0+3,ν⟩)) ax/\cE x7 (bQ (Γ ac)) (Γ ac) ax/\True)/\
    ab x7 (Instr.build dq #[(0,Z),(1,.agg #[Y]),(2,cq)]) ax λt22=>
    aC x7 (Y1 fe 1 #[(0,t22)]) ax λcr al=>
     (Ext aL al\/cE x7 (u4 fe (.pointer (σ ⟨ac,0+3,ν⟩))) aG al/\cE x7 (u6 bX (Γ ac) 3) (.pointer (σ ⟨ac,0+3,ν⟩)) al/\cE x7 (bQ (Γ ac)) (Γ ac) al/\True)/\
    aC x7 (j6 #[fe,fe] fe #[aG,cr]) al λct bd=>
     ab x7 (bQ (Γ ac)) bd λt25=>
     ab x7 (u6 bX t25 3) bd λcu=>
     aC x7 (o7 fe cu ct) bd λ(_:Unit)aR=>
      ay aR:=by
  intro B Z S aY ag C bH Q G P de;have cw:=bG.W C;refine(Fu cw P.ls (by grind) Ω Ω hm).X ?_;rintro _ ax _ ⟨rfl,cz,aZ,aS,cA⟩;obtain⟨⟨cB,df,cC,cD⟩,aU,bp,ge,L,E,bF,w0,ak,⟨cF,cG,bI⟩,⟨cH,cI,cJ,dg⟩,br,⟨aX,bb⟩,bs,cK⟩:=id cA;have aA:=bk G aS.1 (by grind);have be:=((Classical.choose_spec (show∃gs,ao .i64 ae w gs Y szs from by obtain⟨⟨_,gs,_,q,_⟩,_⟩:=bm;exact⟨gs,q⟩)).W aM).W C;have cL:=bk be aS.1 bZ.2.2;refine⟨.inr (vP ak (λK=>by rw[aT bX.p rfl]) Ψ rfl),?_⟩;rw[dw (cs:=#[Z,Y,Δ (t.cells.length:Int)]) (by obtain⟨_,_,_,rfl⟩:=cP G.ls;obtain⟨_,_,_,rfl⟩:=cP be.ls;kernel_rfl)];let a:rF:=⟨Z,Y,t.cells.length⟩;have cM:∀u∈oW a,u.oneCell'=ro:=by
   intro u bJ;simp[oW]at bJ;rcases bJ with rfl|rfl|rfl
   .exact G.ls.cells.2
   .exact be.ls.cells.2
   .rfl
  refine iV (f:=oW) (a:=a) fe.u dq.i Ω rfl rfl λdh di al dj H cN=>?_;refine⟨.inr (vP (ak.W H) (λK=>by rw[aT bX.p rfl]) Ψ rfl),?_⟩;have a1:=aX.W H;have bq:=bb.1;refine jo fe.u dq.i rfl a1 (by simpa using cN.sl) cM Ω Ω λcQ cR bd a2 cS bK=>?_;have a6:=ak.W H;have bL:=a6.aa bK λhe=>cO a1 a6 Φ he;rw[bR,aT bX.p rfl];refine bt fe.i (eJ a2.sl).1 (eJ a2.sl).2 bL Ξ λaR bM dl bu=>?_;have bu:=bu;have an:af (λr=>lc aG r\/r=ac) al aR:=(bK.X (by grind)).F (bM.X Ω);have z9:=C.size;have dm:=aS.1.size;have dn:=H.size;have dp:=an.size;have bN:∀r,(lc aG r\/r=ac)->aZ r:=by grind
  have bw:∀r,(lc aG r\/r=ac)->¬R r:=by grind
  have cT:af (du w) w aR:=nc (gA (aM.F C) cz) (gA H (an.X λr _ y=>by
   rcases y with y|rfl
   .obtain⟨_,c,aQ⟩:=dN a1 y;exact .inl ⟨_,c,‹r=_› ▸aQ,Φ⟩
   .exact .inl ⟨_,_,a6,Φ⟩))
  let cU:ah:=λr=>aZ r\/(al.heap.size<=r/\r<aR.heap.size);let bx:ah:=λr=>R r\/(li Y r/\r<ax.heap.size)\/(li Z r/\r<ax.heap.size);have ds:∀r,r<w.heap.size->aZ r->A r:=λr y h=>(aS.2.1 r h).elim id Ω;have dt:∀r,li Z r->w.heap.size<=r/\r<B.heap.size:=λr y=>by obtain⟨h1,aV⟩:=bE G y;omega
  have dv:∀r,li Y r->r<B.heap.size:=λr y=>by obtain⟨h1,aV⟩:=bE be y;omega
  have bP:∀r,li Z r\/li Y r->¬aZ r:=λr y cV=>by
   rcases aS.2.1 r cV with h|h
   all_goals grind
  refine cp _ ⟨cT,cU,bx,cQ,(Grow.W (aM.F C)).F (aS.F ((Grow.W H).F ⟨an.X λr _ y=>bN r y,λr y=>y.imp id And.left,λr y=>.inl y⟩)),?_,λr y=>.inl y,λr y=>?_⟩
  rotate_left
  .grind
  have bS:∀{v:x1}{a7:Nat}{l:Λ},ao .i64 ae al a7 v l->(∀r,li v r->¬aZ r)->ao .i64 ae aR a7 v l:=λhm cW=>bk hm an λr y U=>cW r y (bN r U);have cX:∀r,bx r->r<al.heap.size:=λr y=>by
   rcases y with y|y|y
   .have:=cC r y;omega
   .omega
   .omega
  refine⟨⟨.inl cB,λr y dx=>?_,λr y=>by have:=cX r y;omega,λr y=>y.elim (λy=>by have:=cD r y;omega) And.right⟩,aU,cR,ge,L++[a],E,bF,w0,bu,⟨cF,tg (cG.F H) an λr o y ba U=>bw r U (bI r o y ba),λr o y ba=>.inl (bI r o y ba)⟩,⟨(cH.W H).aa an λr y U=>?_,λr y=>.inl (cI r y),cJ,λr y=>?_⟩,?_,⟨a2.aa bM λr y he=>?_,?_⟩,(bs.W H).aa an λr y U=>?_,?_⟩
  .grind
  .grind
  .rcases y with y|y|y
   .grind
   .obtain⟨h1,aV⟩:=a2.li y;rcases cS r y with h|h
    all_goals grind
   grind
  .rw[b0];exact bk (br.W H) an λr y U=>by
    rcases U with U|rfl
    .obtain⟨rfl,c,aQ⟩:=dN a1 U;exact cj (br.W H) aQ Φ y rfl
    .exact cj (br.W H) a6 Φ y rfl
  .have he:r=ac:=he;subst he;exact cO a2 bL Φ y
  .refine⟨by rw[p8,bq];simp[gO],λj x f bf aN=>?_⟩;have aN:(s.d7++[⟨sc,szs,1,cs⟩])[j]?=σ f:=aN;by_cases cY:j<s.d7.length
   .rw[W8 Ω]at bf;rw[W8 cY]at aN;obtain⟨dy,dz,dA⟩:=((((l5.aa bb (H.aa λ_=>False) λ_ _ _ h=>h).aa an λr _ y U=>bw r U y).X (R':=bx) λr y=>.inl y)).2 j x f bf aN
    grind
   .have bT:j=s.d7.length:=by have:=(x4.1 aN).1;simp at this;omega
    rw[Y9 Ω,bq,bT,U5]at bf;rw[Y9 Ω,bT,U5]at aN;cases bf;cases aN;refine⟨⟨⟨_,bS (aA.W H) λr y=>bP r (.inl y)⟩,λr y=>.inr (.inr ⟨y,?_⟩)⟩,⟨⟨_,bS (cL.W H) λr y=>bP r (.inr y)⟩,λr y=>.inr (.inl ⟨y,?_⟩)⟩,?_⟩
    all_goals grind
  .rcases U with U|rfl
   .obtain⟨rfl,c,aQ⟩:=dN a1 U;exact cO (bs.W H) aQ Φ y
   .exact cO (bs.W H) a6 Φ y
  .exact ((nb.aa cK (H.aa λ_=>False) λ_ _ _ h=>h).aa an λr _ y U=>bw r U y).X λr y=>.inl y
 have aW:=bm.W aM;have bU:=bY.W aM;have dC:∀r,A r->r<w.heap.size:=h.1.2.2.2;obtain⟨_,⟨_,_,dD⟩,dE,dF⟩:=id bm;have dG:cs.length<=4096:=Ω
 have bg:∀{aq:x3}{aO aP:x1}{W:Nat}{K:x1->x3->Prop},Ext aL aq->aL.heap.size<=W->ao .i64 ap aq W aO [1]->aI .i64 aq aP cs->
   (∀S ag B,Ext aL B->af (λr=>r=W) aq B->w.heap.size<=ag->ao .i64 ap B ag S (1::cs)->(Ext aL B->K S B))->aC x7 (j6 #[aw,aw] aw #[aO,aP]) aq K:=by
  intro aq aO aP W K z bh au aB dH;refine jD aw.u ap.i rfl au aB Θ Θ λS ag B Q P aE=>?_;have C:=z.put aE Ω;have cZ:=z.size
  grind
 have aF:∀{v:x1}{a7:Nat}{c0:o5}{e:r9}{c1:x3}{l:Λ},ao c0 e c1 a7 v l->w.heap.size<=a7->∀r,li v r->¬A r:=λhm dI r y dJ=>by
  obtain⟨h1,_⟩:=bE hm y
  grind
 refine⟨?_,?_⟩
 .refine (j3 bU Ω).X ?_;rintro Z c2 _ ⟨M,aY,bH,G⟩;have z5:=M.size;refine⟨.inl M,?_,?_⟩
  .refine (nY (aW.W M)).X ?_;rintro _ bV _ ⟨rfl,N⟩;have X:=M.F N;have dK:=X.size;have dL:=N.size;have bW:=(aW.W M).W N;refine⟨.inl X,?_,?_⟩
   .refine dr aw.u ap.i rfl λaO W aq bh z au=>?_;refine⟨.inl (X.F z),?_⟩;refine(nX (bW.W z)).X ?_;rintro aP bz _ ⟨O,bA,bB,aB⟩;have ai:=(X.F z).F O;refine⟨.inl ai,?_⟩;refine bg ai Ω (au.W O) aB.ls λS ag B C aE Q P _=>⟨.inl C,?_⟩;have aA:=bk (((G.W N).W z).W O) aE λr y he=>by have he:r=W:=he;obtain⟨h1,aV⟩:=bE G y;omega
    exact bc C Ω Q aA P λr y=>y.elim (aF G Ω r) (aF P Q r)
   .refine (nX bW).X ?_;rintro aP aq _ ⟨z,bA,bB,aB⟩;refine⟨.inl (X.F z),?_⟩;have cZ:=z.size;refine dr aw.u ap.i rfl λaO W bz bh O au=>?_;have ai:=(X.F z).F O;refine⟨.inl ai,?_⟩;refine bg ai Ω au (aB.ls.W O) λS ag B C aE Q P _=>⟨.inl C,?_⟩;have aA:=bk (((G.W N).W z).W O) aE λr y he=>by have he:r=W:=he;obtain⟨h1,aV⟩:=bE G y;omega
    exact bc C Ω Q aA P λr y=>y.elim (aF G Ω r) (aF P Q r)
  .refine dr aw.u ap.i rfl λaO W bV bh N au=>?_;have X:=M.F N;refine⟨.inl X,?_⟩;refine(nY ((aW.W M).W N)).X ?_;rintro _ aq _ ⟨rfl,z⟩;have a8:=X.F z;refine⟨.inl a8,?_⟩;refine(nX (((aW.W M).W N).W z)).X ?_;rintro aP bz _ ⟨O,bA,bB,aB⟩;have ai:=a8.F O;refine⟨.inl ai,?_⟩;refine bg ai Ω ((au.W z).W O) aB.ls λS ag B C aE Q P _=>⟨.inl C,?_⟩;have aA:=bk (((G.W N).W z).W O) aE λr y he=>by have he:r=W:=he;obtain⟨h1,aV⟩:=bE G y;omega
   exact bc C Ω Q aA P λr y=>y.elim (aF G Ω r) (aF P Q r)
 .refine dr aw.u ap.i rfl λaO W c2 bh M au=>?_;refine⟨.inl M,?_⟩;have z5:=M.size;have dM:=iA au Ξ;refine(j3 (bU.W M) Ω).X ?_;rintro Z bV _ ⟨N,aY,bH,G⟩;have X:=M.F N;refine⟨.inl X,?_⟩;refine(nY ((aW.W M).W N)).X ?_;rintro _ aq _ ⟨rfl,z⟩;have a8:=X.F z;refine⟨.inl a8,?_⟩;refine(nX (((aW.W M).W N).W z)).X ?_;rintro aP bz _ ⟨O,bA,bB,aB⟩;have ai:=a8.F O;refine⟨.inl ai,?_⟩;refine bg ai Ω (((au.W N).W z).W O) aB.ls λS ag B C aE Q P _=>⟨.inl C,?_⟩;have aA:=bk ((G.W z).W O) aE λr y he=>by have he:r=W:=he;obtain⟨h1,aV⟩:=bE G y;omega
  exact bc C Ω Q aA P λr y=>y.elim (aF G Ω r) (aF P Q r)
theorem fU{P:X5}{t G:r9}{k:o5}{b g:Nat}{x:x1}{m:Λ}(y:P.underlying t=σ (.slice e))(hi:aR P e 1 b z)(A:z.cells.size=1)(h:ao k e w g v l)(B:aI k w x m)(C:(l.length+m.length)*b<=140737488355328)(E:l.length+m.length<=9223372036854775807)(F:∀a f I,ao k e I f a (l++m)->(∀r,li a r->li v r\/w.heap.size<=r)->af (λr=>li v r) w I->K a I):aC P (j6 #[t,t] G #[v,x]) w K:=by
 rcases h.2 with⟨q,H⟩|⟨cap,cs,q,M,N⟩
 .have J:=Z0 H;subst J;have bi:ao k e w w.heap.size v []:=by grind [ao.nil]
  refine jD y hi A bi B C E λa f I j hm s=>F a f I hm (λr p=>.inr ?_) (s.X Ω);obtain⟨L,_⟩:=bE hm p;omega
 .refine jD y hi A h B C E λa f I j hm s=>F a f I hm (λr p=>?_) (s.X λr p he=>⟨_,_,_,q,he.symm⟩);obtain⟨L,_⟩:=bE hm p;rcases j with j|j
  .exact .inl ⟨_,_,_,q,by show g=r;omega⟩
  omega
def addVar(s:am)(u:Λ):am:={s with d6:=s.d6++[newVar u]}
theorem QC(s:am)(u:Λ):iZ (addVar s u)=iZ s++[((3+(s.d6.flatMap iD).length:Nat):Int)]:=by
 unfold iZ addVar;rw[p8,T4,List.range_succ,l7]
 grind [V2,gN]
theorem QD{s:am}{u:Λ}(a:s.d7=[]):(addVar s u).cells=s.cells++(0::0::u):=by
 unfold am.cells addVar kO;simp only[a,List.flatMap_nil,V1,List.flatMap_append,List.flatMap_singleton,X0];rfl
def ft(n:aD)(i j:Nat):am:=⟨n.zero,(n.unary.take i).map newVar,(n.d7.take j).map (na n.co),[]⟩
theorem Fx{n:aD}{i:Nat}{u:Λ}(h:n.unary[i]?=σ u):ft n (i+1) 0=addVar (ft n i 0) u:=by
 grind [ft,addVar,u7]
theorem QE{n:aD}{i:Nat}{g:c4}(h:n.d7[j]?=σ g):ft n i (j+1)=gO (ft n i j) g.1 (aB n.co g.1) g.2:=by
 unfold ft gO;simp only[u7,h,l9,l7,List.map_singleton];rfl
theorem y7(n:aD):ft n n.unary.length n.d7.length=di n:=by
 grind [ft,di]
theorem Fy{α β:Type}{f:α->List β}{b:Nat}:∀{L:List α},(∀x∈L,(f x).length<=b)->(L.flatMap f).length<=L.length*b
 :=by
 intro a;induction a<;>grind [T7]
theorem vR{n:aD}(a:kM n)(A:n.d7.length<=256)(i j:Nat):(ft n i j).cells.length<=2000000:=by
 rw[rE];have h1:=Fy (f:=iD) (b:=34) (L:=(ft n i j).d6) λx h=>by
  obtain⟨u,s,rfl⟩:=o8.1 (show x∈(n.unary.take i).map newVar from h);obtain⟨p,q⟩:=c9.1 (U1 s);have B:=a.l4;have C:=(x4.1 q).1;obtain⟨z,r⟩:=aF (l:=n.co) (i:=p) Ω;have w:=(a.unary p z u r q).1;have e:=a.co.2.2 z (x5 r);show u.length+2<=34;omega
 have w:=Fy (f:=fT) (b:=4097) (L:=(ft n i j).d7) λx h=>by
  obtain⟨g,y,rfl⟩:=o8.1 (show x∈(n.d7.take j).map (na n.co)from h);have e:=(a.d7 g (U1 y)).1;have E:=e.len;have F:=e.small;show g.2.length+1<=4097;omega
 have e:(ft n i j).d6.length<=64:=by
  show((n.unary.take i).map newVar).length<=64;rw[o4,c7];have:=a.l4;have:=a.co.2.1;omega
 grind [ft]
def Plain(t:av):Prop:=t.marks=[]/\t.olds=[]/\gJ t []/\t.kD=0
theorem Plain.set{t:av}(h:Plain t)(i:Nat)(x:Int):Plain (t.set i x):=⟨(av.y3 _ _ _).F h.1,(av.y5 h.1 _ _).F h.2.1,h.2.2.1.set,(av.Fm _ _ _).F h.2.2.2⟩
theorem Plain.lay{t:av}(h:Plain t)(l:Λ):Plain (l6 t l):=⟨(rG _ _ _).F h.1,(Fq h.1 _ _).F h.2.1,h.2.2.1.gx l _,(Fp _ _ _).F h.2.2.2⟩
theorem Plain.put{s:am}{t:av}(h:Plain t)(cs:Λ):Plain (oa s t cs):=(h.lay _).set _ _
def QF(w:x3)(R0:ah)(n:aD)(v:x1)(I:x3):Prop:=Ext w I/\∃ac ad A R t,v=Γ ac/\StateM I ac ad A R n (di n) t/\t.bO=(di n).cells/\Plain t/\(∀r,A r->w.heap.size<=r)/\∀r,R r->R0 r\/w.heap.size<=r
theorem QG{R0:ah}{z:Nat}{n:aD}(aA:gw w0 z n)(Z:Ext w0 w)(aW:∀r o,w0.heap[r]?=σ o->fK o=ro->R0 r)(cB:∀r,R0 r->r<w.heap.size)(B:kM n)(cC:n.d7.length<=256):aj x7 Bs [Γ z] w (QF w R0 n):=by
 have h:=aA.W Z;have cD:=B.l4;have cE:=B.co.2.1;refine az func14 ?_;rw[cW oE.u];simp only[j0,aX];refine(Qr (n:=3) Ω).X ?_;rintro _ J _ ⟨ab,ad,rfl,bw⟩;rw[dw (cs:=#[Γ z,Γ ad,.slice ν 0 0,.slice ν 0 0,.slice ν 0 0]) Ψ];refine bm λac V cF I M=>?_;have M:=M;have cG:=ab.size;have cH:=I.size;have cI:=M.lt;have bx:eS V ac ad z (.slice ν 0 0) (.slice ν 0 0) (.slice ν 0 0) (λr=>r=ac\/(w.heap.size<=r/\r<J.heap.size)) R0 n ⟨0,[],[],[]⟩ ⟨r8 3 ⟨0,0⟩,[],[],0⟩:=by
  refine⟨⟨.inl rfl,λr q bz=>?_,λr q=>?_,λr q=>?_⟩,0,0,0,[],[],λr=>w.heap.size<=r/\r<J.heap.size,w0,M,⟨aA,Z.F (ab.F I),aW⟩,⟨(bw.cut).W I,Ω,λq=>?_,λr q=>?_⟩,ao.nil _ _ _ _,⟨bj.nil _ _ _ _ _,rfl,by grind⟩,bj.nil _ _ _ _ _,rfl,by grind⟩
  .grind
  .grind
  .omega
  .omega
  .rcases q with q|q|q
   .obtain⟨a,cJ,c,aB,cK⟩:=q;cases aB
   all_goals grind [gm]
 intro cL N _ _;have bA:=bx.W N;rw[aK bX.p 1 (M.W N) rfl];refine(Qy (h.W ((ab.F I).F N))).X ?_;rintro _ cM _ ⟨rfl,ag⟩;refine⟨.inl ag,?_⟩;have bB:=bA.W ag;obtain⟨aC,bD,bF⟩:=bB.th;refine(tf bD rfl Φ ⟨Ξ,Ξ,Ξ⟩).X ?_;rintro _ bG _ ⟨_,bH,bI,bJ⟩;obtain⟨bK,aY,aE⟩:=bF bH bG _ bI bJ;have aE:=aE.same (y1 ⟨0,[],[],[]⟩ n.zero);have z3:=N.size;have z4:=ag.size;have bL:=((ab.F I).F N).F ag;have aZ:=bL.then aY.1 Ω;refine(y0 (h.W aZ)).X ?_;rintro _ cN _ ⟨rfl,a1⟩;refine cm.range n.co.length (λi ai=>∃A C t,Ext w ai/\eS ai ac ad z C (.slice ν 0 0) (.slice ν 0 0) A R0 n (ft n i 0) t/\t.bO=(ft n i 0).cells/\Plain t/\∀r,A r->w.heap.size<=r) Ω
  ⟨bK,_,_,aZ.F a1,aE.W a1,?_,?_,λr q=>?_⟩ ?_ ?_
 .rw[av.q6];rfl
 .exact Plain.set ⟨rfl,rfl,⟨rfl,rfl,λc s=>by rw[(List.mem_replicate.1 s).2];exact p9 _,X7 _⟩,rfl⟩ _ _
 .rcases aY.2.1 r q with he|he
  all_goals omega
 .rintro i ai bM hi ⟨A,C,t,H,aG,a2,O,aI⟩ bN;obtain⟨u,ak⟩:=aF (l:=n.unary) (i:=i) Ω;obtain⟨a6,a7⟩:=aF (l:=n.co) (i:=i) Ω;have cO:u.length<=32:=by
   have cP:=(B.unary i a6 u a7 ak).1;have cQ:=B.co.2.2 a6 (x5 a7);omega
  refine bC Ω ?_;refine(Fk (h.W H) B).X ?_;rintro cR cS _ ⟨bP,_,bQ⟩;obtain⟨cT,cU,bS⟩:=bQ u Ω (by rw[u9];exact ak);intro a8 ba _ _;have aL:=bP.F ba;have bb:=aG.W aL;obtain⟨⟨_,_,_,bc⟩,aU,bd,ge,L,E,aC,w0,am,_⟩:=id bb;have cV:=aL.size;have cX:=H.size;rw[aK bX.p 2 am rfl];refine uR (l:=[0,0]) aw.u ap.i Ω rfl Ψ λbT cY cZ c0 an be=>?_;refine⟨.inl an,?_⟩;refine fU aw.u ap.i rfl be ((bS.W ba).ls.W an) Θ Θ λbU c1 c2 bV bW bY=>?_;have c3:∀r,li bT r->a8.heap.size<=r:=λr q=>by obtain⟨aB,_⟩:=bE be q;omega
  have aq:=an.then bY (by grind);refine⟨.inl aq,?_⟩;have bZ:=bb.W aq;have c4:∀r,li bU r->a8.heap.size<=r:=λr q=>by
   rcases bW r q with h|h
   .grind
   .have:=an.size;omega
  have b0:t.cells.length<=2000000:=by
   grind [vR,av.bO]
  have b1:t.olds.length=0:=by rw[O.2.1];rfl
  have b2:t.marks.length=0:=by rw[O.1];rfl
  refine(Fu bZ bV.ls (by grind) Θ Θ Ω).X ?_;rintro _ c5 _ ⟨rfl,_,aN,aO,b3⟩;obtain⟨⟨b4,c6,c7,c8⟩,aU,bd,ge,L,E,aC,w0,am,⟨b5,b6,b7⟩,⟨b8,c9,b9,da⟩,ca,⟨cb,cc⟩,cd,ce⟩:=id b3;refine⟨.inr (vP am (λK=>by rw[aT bX.p rfl]) Ψ rfl),?_⟩;refine dr al.u ae.i rfl λdb dc bf dd y cf=>?_;have aP:=am.W y;refine⟨.inr (vP aP (λK=>by rw[aT bX.p rfl]) Ψ rfl),?_⟩;have de:(iZ (ft n i 0)).length=i:=by
   grind [iZ,ft]
  have bg:=ca.W y;refine fU al.u ae.i rfl bg cf.ls (by grind) (by grind) λcg ch df P dg bh=>?_;have bi:=aP.aa bh λhe=>cj bg aP Φ he rfl;rw[bR,aT bX.p rfl];refine bt al.i P.ls.cells.1 P.ls.cells.2 bi Ξ λbl bn dh aQ=>?_;have aQ:=aQ;rw[aM];have s:af (λr=>li C r\/r=ac) bf bl:=(bh.X (by grind)).F (bn.X Ω);have dj:=aq.size;have z12:=aO.1.size;have dk:=y.size;have dl:=s.size;have dm:∀r,aN r->w.heap.size<=r:=λr q=>(aO.2.1 r q).elim (aI r) Ω;have dn:∀r,(li C r\/r=ac)->aN r:=by grind
  have dp:(ft n (i+1) 0).cells=(ft n i 0).cells++(0::0::u):=by rw[Fx ak];exact QD rfl
  have ck:t.cells.length=3+((ft n i 0).d6.flatMap iD).length:=by
   grind [rE,av.bO,ft]
  refine bN _ ⟨λr=>aN r\/(bf.heap.size<=r/\r<bl.heap.size),cg,l6 t ([0,0]++u),?_,⟨⟨.inl b4,λr q bz=>?_,by grind,λr q=>?_⟩,ch,bd,ge,L,E,aC,w0,aQ,⟨b5,tg (b6.F y) s (by grind),b7⟩,⟨(b8.W y).aa s λr q U=>?_,by grind,b9,λr q=>?_⟩,?_,⟨(cb.W y).aa s λr q U=>?_,?_⟩,(cd.W y).aa s λr q U=>?_,?_⟩,?_,O.lay _,λr q=>?_⟩
  .exact ((H.F (aL.F aq)).then aO.1 (by grind)).F y |>.then s (by grind)
  .grind
  .grind
  .grind
  .rcases q with q|q|q
   .have dq:=(bE P q)
    grind
   all_goals grind
  .rw[Fx ak,QC,<-ck];exact bk P bn λr q he=>by
    have he:r=ac:=he;subst he;exact cj P bi Φ q rfl
  .grind [gm]
  .refine⟨cc.1,λj x f cl aR=>?_⟩;have aR:((n.d7.take 0).map (na n.co))[j]?=σ f:=aR;simp at aR
  .grind [gm]
  .refine⟨ce.1,λj x e cl he=>?_⟩;have he:([]:List iC)[j]?=σ e:=he;simp at he
  all_goals grind [Fs]
 .rintro ai bM ⟨A,C,t,H,aG,a2,O,aI⟩;refine ci Ω ?_;refine(Fj (h.W H)).X ?_;rintro _ ds _ ⟨rfl,bo⟩;refine cm.range n.d7.length (λj Q=>∃A R au t,Ext w Q/\eS Q ac ad z C au (.slice ν 0 0) A R n (ft n n.co.length j) t/\t.bO=(ft n n.co.length j).cells/\Plain t/\(∀r,A r->w.heap.size<=r)/\∀r,R r->R0 r\/w.heap.size<=r) Ω
   ⟨A,_,_,t,H.F bo,aG.W bo,a2,O,aI,by grind⟩ ?_ ?_
  .rintro j Q cn cp ⟨A,R,au,t,G,S,ax,W,bp,bq⟩ cq;obtain⟨g,ay⟩:=aF (l:=n.d7) cp;have aS:=(B.d7 g (x5 ay)).1;refine bC Ω ?_;refine(Qz (h.W G) B ay).X ?_;rintro aJ dt _ ⟨X,gs,du,br⟩;refine(QB aA (Z.F (G.F X)) ay).X ?_;rintro _ dv _ ⟨Y,gt,dx,cr,rfl,dy,dz,ct,bs⟩;have z0:=Z.size;have dA:∀r,li cr r->r<w.heap.size:=λr q=>by obtain⟨c,aV⟩:=bs r q;have:=aV.lt;omega
   have cu:=(S.W X).W Y;have bc:∀r,A r->r<Q.heap.size:=S.1.2.2.2;have dC:=X.size;have b0:t.cells.length<=2000000:=by
    grind [vR,av.bO]
   have b1:t.olds.length=0:=by rw[W.2.1];rfl
   have b2:t.marks.length=0:=by rw[W.1];rfl
   have dD:g.2.length<=4096:=by have:=aS.len;have:=aS.small;omega
   have dE:=aS.scope.2;refine(Fw (sc:=g.1) cu ax (br.ls.W Y) (λr q cw=>by have:=bc r cw;obtain⟨aB,_⟩:=bE br q;omega) ct (by grind) Ω Ω Ω Ω ?_).X ?_
   .show ((n.d7.take j).map (na n.co)).length<=_
    grind
   rintro _ dF _ ⟨rfl,_,aH,R',cz,bu,dG,dH,cA⟩;rw[aM];have dI:=QE (i:=n.co.length) ay;refine cq _ ⟨aH,R',cz,oa (ft n n.co.length j) t g.2,((G.F X).F Y).then bu.1 (by grind),?_,?_,W.put _,λr q=>?_,λr q=>?_⟩
   .grind
   .grind [Fv]
   .rcases bu.2.1 r q with h|h
    .grind
    .have:=G.size;have:=Y.size;omega
   .rcases cA r q with h|h|h
    .grind
    .exact .inl (by obtain⟨c,aV⟩:=bs r h;exact aW r _ aV rfl)
    .exact .inr (by have:=G.size;have:=X.size;have:=Y.size;omega)
  .rintro Q cn ⟨A,R,au,t,G,S,ax,W,bp,bq⟩;refine ci Ω ?_;have e:ft n n.co.length n.d7.length=di n:=by grind [y7]
   rw[e]at S ax;exact⟨G,ac,ad,A,R,t,rfl,⟨z,C,au,_,S⟩,ax,W,bp,bq⟩
end Go.Proofs.YtkcigodpbndobaaGreatDoor
