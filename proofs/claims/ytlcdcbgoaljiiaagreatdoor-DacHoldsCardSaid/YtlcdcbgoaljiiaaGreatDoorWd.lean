/- own texts, made small by a tool (wip/ holds them as they were written): no statement of the seat. -/
import Derived.Test.YtlcdcbgoaljiiaaGreatDoorWc
set_option linter.unusedVariables false
set_option linter.unusedSimpArgs false
set_option linter.unnecessarySimpa false
open Array renaming getElem?_eq_some_iff→Y2
open BitVec renaming ofInt→U6
open Bool renaming false→sp,true→s2,not_true→Y5,not_false→X6,eq_iff_iff→V9,or_eq_false_iff→T3,and_eq_true→T8,true_and→S7
open Decidable renaming not_not→X1
open Go renaming Value→x4,World→x5,TypeId→o4,IntKind→o8,Program→W0
open Go.Builtin renaming append_→b9,len_→X8
open Go.Instr renaming loadAt→u5,fieldAt→u6,storeAt→o7,indexAt→n9,extract→Z7,buildSlice→Y4,sliceAt→V5,alloc→R3
open Go.IntKind renaming i64→X5
open Go.Proofs.Tryz renaming prog→x8
open Int renaming toNat_natCast→u7,le_refl→S5
open List renaming getElem?_eq_some_iff→x6,mem_of_getElem?→x7,getElem?_eq_getElem→v8,getElem?_map→u4,take_add_one→u9,getD_eq_getElem?_getD→r8,length_map→r9,replicate→o5,take_length→o9,mem_map→l9,mem_append→j5,eq_nil_of_length_eq_zero→j6,take_of_length_le→j9,length_append→c9,map_append→Z2,length_take→Z3,getElem?_set_self→Z6,length_set→Z9,mem_singleton→Y1,ext_getElem?→Y3,mem_iff_getElem?→Y8,getElem?_set_ne→Y9,range→X0,getElem?_append_right→X2,drop_eq_getElem_cons→X4,getElem?_set→X7,length_eq_one_iff→W3,length_cons→W5,getElem?_eq_none→W8,getElem?_take_of_lt→V1,getElem?_append_left→V6,map_set→U2,mem_or_eq_of_mem_set→U5,set_append_right→U7,flatMap_cons→T0,append_assoc→T1,append_nil→T4,map_map→T5,getElem_mem→S2,mem_filter→S6,mem_of_mem_take→R2
open Nat renaming le_refl→o6,le_trans→X3,zero_le→X9,zero_add→V0,mul_le_mul_right→V4,sub_self→V7,pow_le_pow_right→T2,add_mul→T6
open Option renaming toList_some→j4,isNone_some→b8,map_eq_some_iff→Y0,map_some→Y7,map→V8,isSome_some→T7,isSome_none→S3
open Option.some renaming inj→Z5,injEq→W7
open Prod.mk renaming injEq→R4
set_option maxHeartbeats 16000000
open Option renaming some→σ,none→ν
variable{I w:x5}{S:Nat->Prop}{c k n v y:Int}{all an cs l pl d6 t tl:Λ}{P e:o4}{B N af ag gs gz j pos:Nat}{aY sv hv z:x4}{K:x4->x5->Prop}{L:List (Λ)}
namespace Go.Proofs.YtlcdcbgoaljiiaaGreatDoor
open Go Go.Vc Go.RowKit Go.Proofs Go.Proofs.Tryz
set_option maxRecDepth 100000
structure yG where
 v:x4
 t:Λ
 c:Int
def p1(y:yG):List x4:=[y.v,Δ y.c]
def l7(w:x5)(g:Nat)(v:x4)(l:List (Λ×Int)):Prop:=∃L:List yG,bo p1 2 cw w g v L/\(∀y∈L,∃gy,aH .i64 ay w gy y.v y.t)/\L.map (λy=>(y.t,y.c))=l
structure kA where
 aZ:x4
 hv:x4
 o:Int
 cz:x4
def fX(h:kA):List x4:=[h.aZ,h.hv,Δ h.o,h.cz]
def iE(w:x5)(h:kA)(x:cI):Prop:=(∃g,aH .i64 ay w g h.aZ x.scope)/\(∃g,aH .i64 ay w g h.hv x.d6)/\h.o=x.other/\∃g,l7 w g h.cz x.lines
def iO(w:x5)(r:Nat):Prop:=∃e c,aj w r e c/\e≠ay/\e≠cw
theorem e0{g:Nat}{v:x4}(h:aH .i64 ay w g v l)(f:ai S w I)(j:∀r,S r->iO w r\/w.heap.size<=r):aH .i64 ay I g v l:=bG h f λr a V=>by
 rcases j r V with⟨e,c,q,s,_⟩|x
 .exact cB h q (λhe=>s he.symm) a rfl
 .obtain⟨y,z⟩:=cd h a;omega
theorem yH{α:Type}{f:α->List x4}{k:Nat}{g:Nat}{v:x4}{L:List α}(h:bo f k e w g v L)(q:ai S w I)(s:∀r,S r->(∃a c,aj w r a c/\a≠e)\/w.heap.size<=r):bo f k e I g v L:=h.ab q λr j V=>by
 rcases s r V with⟨a,c,x,y⟩|z
 .exact cP h x (λhe=>y he.symm) j
 .obtain⟨A,B⟩:=h.lc j;omega
theorem l7.dZ{g:Nat}{v:x4}{l:List (Λ×Int)}(h:l7 w g v l)(a:ai S w I)(f:∀r,S r->iO w r\/w.heap.size<=r):l7 I g v l:=by
 obtain⟨L,h1,j,q⟩:=h;refine⟨L,yH h1 a λr s=>(f r s).imp (λ⟨e,c,x,_,z⟩=>⟨e,c,x,z⟩) id,λy A=>?_,q⟩;obtain⟨gy,hm⟩:=j y A;exact⟨gy,e0 hm a f⟩
theorem iE.dZ{h:kA}{x:cI}(ax:iE w h x)(a:ai S w I)(e:∀r,S r->iO w r\/w.heap.size<=r):iE I h x:=by
 obtain⟨⟨g1,h1⟩,⟨f,j⟩,q,s,y⟩:=ax;exact⟨⟨g1,e0 h1 a e⟩,⟨f,e0 j a e⟩,q,s,y.dZ a e⟩
theorem iE.W{h:kA}{x:cI}(ax:iE w h x)(J:Ext w I):iE I h x:=ax.dZ (J.ab λ_=>False) λ_ h=>h.elim
theorem iE.one{h:kA}{x:cI}(ax:iE w h x):∀u∈fX h,u.oneCell'=s2:=by
 obtain⟨⟨g1,h1⟩,⟨f,a⟩,j,q,L,e,_⟩:=ax;intro u hu;simp[fX]at hu;rcases hu with rfl|rfl|rfl|rfl
 .exact h1.ls.cells.2
 .exact a.ls.cells.2
 .rfl
 .exact (eJ e.sl).2
def oO(w:x5)(a:x4)(e:List jj)(gs:Nat)(sv:x4)(L:List kA)(X:List cI):Prop:=(kz w a e/\∀r,hx a r->∃c,aj w r cH c)/\bo fX 4 bj w gs sv L/\X.length=L.length/\∀(i:Nat)h x,L[i]?=σ h->X[i]?=σ x->iE w h x
theorem oO.dZ{q:x4}{z:List jj}{L:List kA}{X:List cI}(h:oO w q z gs sv L X)(j:ai S w I)(s:∀r,S r->(∃e c,aj w r e c/\e≠ay/\e≠cw/\e≠cH/\¬hx sv r)\/w.heap.size<=r):oO I q z gs sv L X:=by
 obtain⟨⟨h1,A⟩,B,E,F⟩:=h;have hw:∀r,hx q r->¬S r:=λr a V=>by
  obtain⟨c,f⟩:=A r a;rcases s r V with⟨e,G,C,_,_,y,_⟩|H
  .exact y (fI C f)
  .have:=f.lt;omega
 refine⟨⟨h1.ab j hw,λr a=>?_⟩,B.ab j λr a V=>?_,E,λi ax x hi J=>(F i ax x hi J).dZ j λr a=>(s r a).imp (λ⟨e,c,f,K,M,_⟩=>⟨e,c,f,K,M⟩) id⟩
 .obtain⟨c,f⟩:=A r a;exact⟨c,f.ab j (hw r a)⟩
 .rcases s r V with⟨e,G,C,_,_,_,y⟩|H
  .exact y a
  .obtain⟨N,O⟩:=B.lc a;omega
def jk(a:x4)(e f bad h big j m1:Int)(sv:x4):List x4:=[a,Δ e,Δ f,Δ bad,Δ h,Δ big,Δ j,Δ m1,sv]
def Q3(N:Nat)(so:Option aO)(a:List jj)(e bad big m1:Int)(L:List kA)(X:List cI):Prop:=match so with
 |some s=>bad=0/\e≠0/\(big≠0↔s.big=s2)/\(s.big=sp->m1=s.m1)/\True/\a.map (·.1)=s.hp/\(∀t∈s.hp,Bytes t/\t.length<=65536)/\X.map (λx=>(x.d6,x.lines))=s.m2/\L.length+a.length<=100000
 |none=>bad≠0/\L.length<=N
def bZ(w:x5)(g B:Nat)(H:ak)(N:Nat)(so:Option aO):Prop:=100000<=N/\∃w0 a e gs sv L X,∃(h f bad j big q m1:Int),w0.heap.size=B/\ai (λr=>r=g) w0 w/\(∃c,aj w0 g bR c)/\aj w g bR (jk a h f bad j big q m1 sv)/\oO w0 a e gs sv L X/\(∀r,hx sv r->H r)/\Q3 N so e f bad big m1 L X
theorem oO.g{g:Nat}{e:x4}{f:List jj}{L:List kA}{X:List cI}(h:oO w e f gs sv L X)(q:ai (λr=>r=g) w I)(s:∃c,aj w g bR c):oO I e f gs sv L X:=
 h.dZ q λr a=>.inl (by
  have a:r=g:=a;subst a;obtain⟨c,j⟩:=s;exact⟨_,c,j,Φ,Φ,Φ,λx=>cP h.2.1 j Φ x⟩)
theorem bZ.new{g:Nat}{H:ak}{so:Option aO}(h:bZ w g B H N so)(a:ai S w I)(e:∀r,S r->B<=r):bZ I g B H N so:=by
 obtain⟨x,w0,y,z,gs,sv,L,X,A,C,bad,E,big,F,m1,h1,f,j,G,J,K,M⟩:=h;have q:g<w0.heap.size:=by obtain⟨c,O⟩:=j;exact O.lt
 exact⟨x,w0,y,z,gs,sv,L,X,A,C,bad,E,big,F,m1,h1,⟨X3 f.size a.size,λr o s V q=>a.a7 r o (f.a7 r o s V q) V λP=>by
  have:=e r P;have:=(Y2.1 s).1;omega⟩,j,G.ab a λV=>by have:=e g V;omega,J,K,M⟩
theorem bZ.W{g:Nat}{H:ak}{so:Option aO}(h:bZ w g B H N so)(J:Ext w I):bZ I g B H N so:=h.new (J.ab λ_=>False) λ_ h=>h.elim
theorem bZ.base{g:Nat}{H:ak}{so:Option aO}(h:bZ w g B H N so):bZ w g w.heap.size H N so:=by
 obtain⟨e,w0,f,j,gs,sv,L,X,q,r,bad,s,big,x,m1,h1,y,z,a,A,C,E⟩:=h;exact⟨e,w,f,j,gs,sv,L,X,q,r,bad,s,big,x,m1,rfl,ai.refl _ _,⟨_,a⟩,a,A.g y z,C,E⟩
theorem bZ.dZ{g:Nat}{H:ak}{so:Option aO}(h:bZ w g B H N so)(j:ai S w I)(q:∀r,S r->(∃e c,aj w r e c/\e≠ay/\e≠cw/\e≠cH/\e≠bR/\¬H r)\/w.heap.size<=r):bZ I g I.heap.size H N so:=by
 obtain⟨x,w0,y,z,gs,sv,L,X,A,C,bad,E,big,F,m1,h1,G,J,f,K,s,M⟩:=h.base;have O:=K.g G J;have a:=f.ab j λV=>by
  rcases q g V with⟨e,c,a,_,_,_,P,_⟩|aa
  .exact P (fI a f)
  .have:=f.lt;omega
 refine⟨x,I,y,z,gs,sv,L,X,A,C,bad,E,big,F,m1,rfl,ai.refl _ _,⟨_,a⟩,a,O.dZ j λr Q=>(q r Q).imp (λ⟨e,c,a,R,U,W,_,Y⟩=>⟨e,c,a,R,U,W,λZ=>Y (s r Z)⟩) id,s,M⟩
theorem bZ.lt{g:Nat}{H:ak}{so:Option aO}(h:bZ w g B H N so):g<B/\B<=w.heap.size:=by
 obtain⟨f,w0,j,q,gs,sv,L,X,r,s,bad,x,big,y,m1,h1,a,⟨c,e⟩,_⟩:=h;have:=e.lt;have:=a.size;omega
theorem jE{g:Nat}{H:ak}{so:Option aO}(h:bZ w g B H N so):∃a,∃(e f bad j big q m1:Int),∃sv,aj w g bR (jk a e f bad j big q m1 sv)/\(so.isSome=s2↔bad=0):=by
 obtain⟨y,w0,a,z,gs,sv,L,X,e,f,bad,j,big,q,m1,h1,A,C,x,E,F,r⟩:=h;refine⟨a,e,f,bad,j,big,q,m1,sv,x,?_⟩;cases so with
 |none=>exact⟨(λh=>by cases h),λh=>m6 h r.1⟩
 |some s=>exact⟨λ_=>r.1,λ_=>rfl⟩
theorem m8{g:Nat}{H:ak}{so:Option aO}{K:x4->Prop}(h:bZ w g B H N so):ad x8 (b1 (Γ g)) w (λa=>ad x8 (u6 bR a 3) w λt45=>ad x8 (u5 al t45) w λt46=>ad x8 (aT .eql al sp s2 t46 (Δ 0)) w K)=K (.bool so.isSome):=by
 obtain⟨f,j,q,bad,r,big,s,m1,sv,e,hi⟩:=jE h;rw[aP bR.p 3 e rfl,bm];congr 2;rw[V9,ro];exact hi.symm
theorem sV{g:Nat}{H:ak}{so:Option aO}{K:x4->Prop}(h:bZ w g B H N so):ad x8 (b1 (Γ g)) w (λf=>ad x8 (u6 bR f 3) w λt45=>ad x8 (u5 al t45) w λt46=>ad x8 (aT .neq al sp s2 t46 (Δ 0)) w K)=K (.bool (!so.isSome)):=by
 obtain⟨q,r,s,bad,x,big,y,m1,sv,j,hi⟩:=jE h;rw[aP bR.p 3 j rfl,bM];congr 2;cases e:so.isSome with
 |true=>have a:=hi.1 e;simp[a]
 |false=>
  have a:bad≠0:=λa=>by rw[hi.2 a]at e;cases e
  simp[a]
def rf(w:x5)(g B:Nat)(H:ak)(N:Nat)(so:Option aO)(I:x5):Prop:=ai (λr=>r=g) w I/\bZ I g B H N so
theorem p2{g:Nat}{H:ak}{so:Option aO}{e at_:Int}(h:bZ w g B H N so)(he:e≠0):aq x8 pn [Γ g,Δ e,Δ at_] w λ_ I=>rf w g B H N ν I:=by
 refine aE func121 ?_;rw[m8 h];cases so with
 |none=>rw[S3,bc];exact⟨ai.refl _ _,h⟩
 |some s=>
  rw[T7,bS];obtain⟨j,w0,q,r,gs,sv,L,X,x,y,bad,Q,big,z,m1,h1,A,C,E,G,J,K⟩:=h;rw[cc,a1 bR.p rfl];refine bw (g:=g) (o:=3) al.i rfl rfl E (by simp[jk]) λU M R O=>?_;rw[cc,a1 bR.p rfl];refine bw (g:=g) (o:=4) al.i rfl rfl O (by simp[jk]) λaa P S a=>?_;have a:=a;have f:=M.F P;obtain⟨_,_,_,_,_,_,_,_,V⟩:=K;exact⟨f,j,w0,q,r,gs,sv,L,X,x,y,e,at_,big,z,m1,h1,A.F f,C,a,G,J,he,Ω⟩
theorem oP{g:Nat}{H:ak}{so:Option aO}{b:Bool}{at_:Int}(h:bZ w g B H N so):aq x8 tX [Γ g,.bool b,Δ at_] w λ_ I=>rf w g B H N (so.map (br b)) I:=by
 refine aE func118 ?_;obtain⟨A,w0,C,E,gs,sv,L,X,G,J,bad,K,big,W,m1,h1,M,O,e,P,Q,f⟩:=id h;refine a6 (λv U=>w=U/\v= .bool (b&&decide (big=0)&&so.isSome)) ?_ ?_
 .rintro _ _ ⟨rfl,rfl⟩;rw[cb];refine⟨λR=>?_,λah=>⟨ai.refl _ _,A,w0,C,E,gs,sv,L,X,G,J,bad,K,big,W,m1,h1,M,O,e,P,Q,?_⟩⟩
  .rw[T8,T8]at R;obtain⟨⟨Y,ae⟩,Z⟩:=R;rw[cc,a1 bR.p rfl];refine bw (g:=g) (o:=5) al.i rfl rfl e (by simp[jk]) λU ab af ac=>?_;rw[cc,a1 bR.p rfl];refine bw (g:=g) (o:=6) al.i rfl rfl ac (by simp[jk]) λaa ad ag j=>?_;have j:=j;have S:=ab.F ad;refine⟨S,A,w0,C,E,gs,sv,L,X,G,J,bad,K,5,at_,m1,h1,M.F S,O,j,P,Q,?_⟩;cases so with
   |none=>cases Z
   |some s=>
    obtain⟨q,r,V,x,y⟩:=f;exact⟨q,r,⟨λ_=>by show(s.big||b)=s2;rw[Y,Bool.or_true],λ_=>Ω⟩,λax=>x (T3.1 ax).1,y⟩
  .cases so with
   |none=>exact f
   |some s=>
    obtain⟨q,r,V,x,y⟩:=f;refine⟨q,r,?_,λax=>x (T3.1 ax).1,y⟩;show big≠0↔(s.big||b)=s2;cases b with
    |false=>rw[Bool.or_false];exact V
    |true=>
     have a:big≠0:=by simpa using ah
     simp[a]
 .intro aA z;cases b with
  |false=>rw[bc];exact z _ _ ⟨rfl,Ξ⟩
  |true=>
   rw[bS,aP bR.p 5 e rfl,bm,ao];refine⟨λa=>?_,λa=>z _ _ ⟨rfl,by rw[rc a];simp⟩⟩;rw[m8 h];exact z _ _ ⟨rfl,by rw[ms a];simp⟩
def kW(so:Option aO):Option (Λ×aO):=so.bind eh
theorem E3{g:Nat}{H:ak}{so:Option aO}(h:bZ w g B H N so):aq x8 JK [Γ g] w λv I=>rf w g B H N ((kW so).map (·.2)) I/\∃(t:Λ)(n:Int),v= .agg #[cp t,Δ n]/\Bytes t/\t.length<=65536/\∀q,kW so=σ q->t=q.1:=by
 have az:=h.lt;refine aE func117 ?_;refine bE cH.i λe U bj y z=>?_;have h1:=h.W y;have zero:∀{f:x5},rf U g B H N ν f->aj f e cH [.string ⟨#[]⟩,Δ 0]->kW so=ν->(ad x8 (Instr.build cH #[]) f λt9=>
   aM x8 (o7 cH (Γ e) t9) f λ(_:Unit)aa=>
   ad x8 (do loadVar cH (<-asAddr (Γ e))) aa λaA=>(λv I=>rf w g B H N ((kW so).map (·.2)) I/\∃(t:Λ)(n:Int),v= .agg #[cp t,Δ n]/\Bytes t/\t.length<=65536/\∀q,kW so=σ q->t=q.1) aA aa):=by
  intro f j G P;rw[ds (cs:=#[.string ⟨#[]⟩,Δ 0]) Ψ];refine b3 (vs:=[.string ⟨#[]⟩,Δ 0]) cH.i rfl rfl (by intro v ac;simp at ac;rcases ac with rfl|rfl<;>rfl) G λaB W bk aC=>?_;rw[fu cH.p cH.i rfl aC.range,P];have aD:=y.size;have bl:=az;refine⟨⟨ja ((y.ab _).F j.1) W λr a he=>?_,j.2.new W λr a=>?_⟩,[],0,rfl,(λb aF=>by cases aF),Ξ,λq Q=>by cases Q⟩
  .have he:r=e:=he;omega
  .have a:r=e:=a;omega
 rw[sV h1];cases so with
 |none=>
  rw[S3,X6,bS];exact zero ⟨ai.refl _ _,h1⟩ z rfl
 |some s=>
 rw[T7,Y5,bc];obtain⟨aG,w0,bn,R,gs,sv,L,X,aH,aI,bad,aJ,big,aK,m1,aL,Y,Z,A,J,aN,aQ⟩:=id h1;have aR:=J.g Y Z;obtain⟨⟨K,bo⟩,_⟩:=id aR;obtain⟨aS,ae,aT,aU,aV,af,ag,aW,aX⟩:=id aQ;rw[aP bR.p 0 A rfl,E1 K,bm,ao];refine⟨λah=>?_,λah=>?_⟩
 .have aY:R=[]:=j6 Ω;have C:s.hp=[]:=by rw[<-af,aY];rfl
  have P:kW (σ s)=ν:=by show eh s=ν;unfold eh;rw[C]
  intro f M _ _;have G:=A.W M;rw[aP bR.p 2 G rfl,aP bR.p 1 G rfl];refine(p2 (h1.W M) ae).Y ?_;rintro _ aB _ j;have aZ:=z.lt;exact zero ⟨(M.ab _).F j.1,j.2⟩ ((z.W M).ab j.1 λhe=>by have he:=he;omega) P
 .obtain⟨x,E,rfl⟩:∃x l,R=x::l:=by
   cases R with
   |nil=>exact m6 rfl ah
   |cons x l=>exact⟨x,l,rfl⟩
  have C:s.hp=x.1::E.map (·.1):=by rw[<-af];rfl
  have a2:kW (σ s)=σ (x.1,{s with hp:=E.map (·.1)}):=by show eh s=_;unfold eh;rw[C]
  have al:=ag x.1 (by rw[C];exact .head _);rw[aP bR.p 0 A rfl];refine E2 K λb o a6=>?_;rw[bH cH.p cH.i rfl a6];refine bE cH.i λbp bq br a7 a8=>?_;refine b3 (vs:=iD x) cH.i rfl rfl (yE x) a8 λbs ba bt am=>?_;have O:=a7.put ba Ω;have an:=A.W O;rw[aP bR.p 0 an rfl];refine QZ (K.ab (O.ab λ_=>False) λ_ _ h=>h) λap au bb=>?_;have av:=au U K;rw[cc,a1 bR.p rfl];refine bw (g:=g) (o:=0) fP.i (eJ av).1 (eJ av).2 an (by simp[jk]) λaw S bu V=>?_;have V:=V;have aZ:=A.lt;have bx:=am.lt;have bz:=z.lt;have aD:=y.size;have bd:=am.ab S λhe=>by have he:=he;omega
  rw[bH cH.p cH.i rfl bd.range];have be:aj aw e cH [.string ⟨#[]⟩,Δ 0]:=(aj.W z O).ab S λhe=>by have he:=he;omega
  refine b3 (vs:=iD x) cH.i rfl rfl (yE x) be λbA ax bB bf=>?_;rw[fu cH.p cH.i rfl bf.range];have ay:=(O.ab _).F S;rw[a2];refine⟨⟨ja ((y.ab _).F ay) ax λr a he=>?_,?_⟩,x.1,x.2,rfl,al.1,al.2,λq Q=>by cases Q;rfl⟩
  .have he:r=e:=he;omega
  .have bg:oO w0 ap E gs sv L X:=⟨⟨au w0 J.1.1,λr a=>J.1.2 r (bb r a)⟩,J.2⟩;have bh:bZ aw g B H N (σ {s with hp:=E.map (·.1)}):=⟨aG,w0,ap,E,gs,sv,L,X,aH,aI,bad,aJ,big,aK,m1,aL,Y.F ay,Z,V,bg,aN,aS,ae,aT,aU,aV,rfl,λt bi=>ag t (by rw[C];exact .tail _ bi),aW,by simp at aX;omega⟩;refine bh.new ax λr a=>?_;have a:r=e:=a;omega
theorem Q4{lo hi:Int}{so:Option aO}:bl lo hi so=match kW so with
  |none=>ν
  |some (w,s)=>match iw w with
   |none=>ν
   |some n=>if lo<=n/\n<=hi then σ (n,s)else ν:=by
 cases so with
 |none=>rfl
 |some s=>rfl
theorem l8{g:Nat}{H:ak}{so:Option aO}{lo hi:Int}(h:bZ w g B H N so):aq x8 nE [Γ g,Δ lo,Δ hi] w λv I=>rf w g B H N ((bl lo hi so).map (·.2)) I/\∃n at_:Int,v= .tuple #[Δ n,Δ at_]/\(∀q,bl lo hi so=σ q->n=q.1)/\(bl lo hi so=ν->n=0):=by
 have aw:=h.lt;refine aE func119 ?_;refine(E3 h).Y ?_;rintro _ U _ ⟨⟨M,h1⟩,t,at_,rfl,W,ay,O⟩;have az:=h1.lt;refine bE cH.i λaB aa aC X Y=>?_;refine b3 (vs:=[cp t,Δ at_]) cH.i rfl rfl (by intro v ac;simp at ac;rcases ac with rfl|rfl<;>rfl) Y λZ ad aD P=>?_;have Q:Ext U Z:=X.put ad Ω;have ae:=h1.W Q;rw[aN cH.p 0 P rfl];refine(QW W Ω).Y ?_;rintro _ C _ ⟨rfl,E⟩;have G:=ae.W E;have R:=P.W E;have af:=Q.F E;have aF:=M.size;obtain⟨n,e,ag,J,ah⟩:∃n e:Int,lY t= .tuple #[Δ n,Δ e]/\(∀m,iw t=σ m->n=m/\e=0)/\(iw t=ν->e≠0):=by
  unfold lY;cases iw t with
  |none=>exact⟨0,4,rfl,(λm hm=>by cases hm),λ_=>Ω⟩
  |some m=>exact⟨m,0,rfl,(λm hm=>by cases hm;exact⟨rfl,rfl⟩),λh=>by cases h⟩
 rw[ag,bz,bA];have a:=Q4 (lo:=lo) (hi:=hi) (so:=so);have S:ai (λr=>r=g) w C:=M.F (af.ab _);refine dh (λx=>ai (λr=>r=g) C x/\bZ x g B H N ((bl lo hi so).map (·.2))) ?_ ?_
 .rintro x ⟨y,s⟩;rw[sV s];cases z:bl lo hi so with
  |none=>
   rw[z]at s;rw[Option.map_none,S3,X6,bS];exact⟨⟨S.F y,s⟩,0,0,rfl,(λq z=>by cases z),λ_=>rfl⟩
  |some q=>
   rw[z]at s a;rw[Y7,T7,Y5,bc];intro aG K _ _;have aj:=(R.ab y λhe=>by have he:=he;omega).W K;rw[aN cH.p 1 aj rfl];refine⟨⟨(S.F y).F (K.ab _),s.W K⟩,n,at_,rfl,λaH al=>?_,λh=>by cases h⟩;cases al;cases j:kW so with
   |none=>rw[j]at a;cases a
   |some p=>
    obtain⟨bx,s1⟩:=p;have L:=O (bx,s1) j;subst L;rw[j]at a;simp only at a;cases f:iw t with
    |none=>rw[f]at a;cases a
    |some m=>
     rw[f]at a;simp only at a;split at a
     .cases a;exact(J m f).1
     .cases a
 .intro aA V;refine a6 (λv x=>C=x/\∃c:Bool,v= .bool c/\(c=s2->bl lo hi so=ν)/\(c=sp->(bl lo hi so).map (·.2)=(kW so).map (·.2))) ?_ ?_
  .rintro _ _ ⟨rfl,c,rfl,am,an⟩;rw[cb];refine⟨λh=>?_,λh=>V _ ⟨ai.refl _ _,by rw[an h];exact G⟩⟩;rw[aN cH.p 1 R rfl];refine(p2 G Ω).Y ?_;rintro _ x _ ⟨y,s⟩;exact V _ ⟨y,by rw[am h];exact s⟩
  .intro aI A;rw[m8 G];cases j:kW so with
   |none=>
    rw[j]at a;simp only at a;rw[Option.map_none,S3,bc];exact A _ _ ⟨rfl,sp,rfl,(λh=>by cases h),λ_=>by rw[a,j];rfl⟩
   |some p=>
    obtain⟨bx,s1⟩:=p;have L:=O (bx,s1) j;subst L;rw[j]at a;simp only at a;rw[Y7,T7,bS,bM,ao];refine⟨λhe=>?_,λhe=>?_⟩
    .refine A _ _ ⟨rfl,s2,rfl,λ_=>?_,λh=>by cases h⟩;cases f:iw t with
     |none=>rw[a,f]
     |some m=>exact m6 (J m f).2 he
    .have ap:=X1.1 he;cases f:iw t with
     |none=>exact m6 ap (ah f)
     |some m=>
      rw[f]at a;simp only at a;have au:=(J m f).1;subst au;rw[aW,ao];refine⟨λav=>A _ _ ⟨rfl,s2,rfl,λ_=>by rw[a,m5 Ω],λh=>by cases h⟩,λav=>?_⟩;rw[bU];refine A _ _ ⟨rfl,_,rfl,λax=>?_,λax=>?_⟩
      .rw[a,m5 (by have:=rs ax;omega)]
      .rw[a,m3 (by have:=of_decide_eq_false ax;omega),j];rfl
theorem yI{bC bv:x4}{a b:Λ}(e:aQ .i64 w bC a)(s:aQ .i64 w bv b):aq x8 tY [bC,bv] w λv I=>v= .bool (decide (a=b))/\Ext w I:=by
 refine aE func180 ?_;rw[a8 aB.u e,a8 aB.u s,bM,ao];refine⟨λh=>⟨by rw[rc];intro he;rw[he]at h;exact h rfl,Ext.refl _⟩,λh=>?_⟩;have z:a.length=b.length:=by have:=X1.1 h;omega
 rw[a8 aB.u e];refine ce.range a.length (λi _ U=>Ext w U/\a.take i=b.take i) e.le ⟨Ext.refl _,rfl⟩ ?_ ?_
 .rintro i _ U k hi ⟨q,f⟩ hk;obtain⟨x,J⟩:=aI (l:=a) hi;obtain⟨y,r⟩:=aI (l:=b) (i:=i) Ω;refine bF Ω ?_;intro aa A _ _;have j:=q.F A;rw[bk aB.u ay.i Ψ (e.W j) J,bk aB.u ay.i Ψ (s.W j) r,bM,ao];refine⟨λB=>⟨by rw[rc];intro he;rw[he,r]at J;exact B (Z5 J).symm,j⟩,λhe=>?_⟩;rw[aR];refine hk _ _ ⟨j,?_⟩;rw[u9,u9,f,J,r,X1.1 he]
 .rintro _ U k ⟨q,f⟩;rw[aW,ao];refine⟨λh=>Ω,λ_=>⟨?_,q⟩⟩;rw[o9,z,o9]at f;rw[ms f]
def iP(w:x5)(B a:Nat)(x:cI):Prop:=∃aZ hv cz g1 e f,aj w a bj [aZ,hv,Δ x.other,cz]/\aH .i64 ay w g1 aZ x.scope/\aH .i64 ay w e hv x.d6/\l7 w f cz x.lines/\(∀r,lc aZ r\/lc hv r->B<=r)/\(∀r,lc aZ r->¬lc hv r)/\B<=a
def E4(w:x5)(r:Nat):Prop:=(∃e c,aj w r e c/\e≠ay/\e≠cw/\e≠bj)\/w.heap.size<=r
theorem iP.dZ{f:Nat}{x:cI}(h:iP w B f x)(a:ai S w I)(s:∀r,S r->E4 w r):iP I B f x:=by
 obtain⟨aZ,hv,cz,g1,y,z,h1,A,C,E,F,G,H⟩:=h;have j:∀r,S r->iO w r\/w.heap.size<=r:=λr J=>(s r J).imp (λ⟨e,c,q,K,L,_⟩=>⟨e,c,q,K,L⟩) id;refine⟨aZ,hv,cz,g1,y,z,h1.ab a λV=>?_,e0 A a j,e0 C a j,E.dZ a j,F,G,H⟩;rcases s f V with⟨e,c,q,_,_,M⟩|N
 .exact M (fI q h1)
 .have:=h1.lt;omega
theorem iP.W{a:Nat}{x:cI}(h:iP w B a x)(J:Ext w I):iP I B a x:=h.dZ (J.ab λ_=>False) λ_ h=>h.elim
theorem ma{g:Nat}{H:ak}{so:Option aO}(h:bZ w g B H N so):∀r,r=g->E4 w r:=λr a=>by
 subst a;obtain⟨f,j,q,bad,s,big,x,m1,sv,e,_⟩:=jE h;exact .inl ⟨_,_,e,Φ,Φ,Φ⟩
def iQ(g B:Nat):ak:=λr=>r=g\/B<=r
theorem Q5{k:Nat}{acc:Λ}{s:aO}:dc (λacc s=>match bt 0 (n-1) s with
 |none=>ν
 |some (v,s)=>if v∈acc then ν else σ (v,s)) (k+1) acc s=match bt 0 (n-1) s with
  |none=>ν
  |some (v,s')=>if v∈acc then ν else dc (λacc s=>match bt 0 (n-1) s with
 |none=>ν
 |some (v,s)=>if v∈acc then ν else σ (v,s)) k (acc++[v]) s':=by
 rw[dc];cases bt 0 (n-1) s with
 |none=>rfl
 |some q=>
  obtain⟨v,s'⟩:=q;simp only;by_cases ac:v∈acc
  .rw[m3 ac,m3 ac]
  .rw[m5 ac,m5 ac]
def E5(n:Int)(k:Nat)(acc:Λ)(s:aO):Option (Λ×aO):=dc (λacc s=>match bt 0 (n-1) s with
 |none=>ν
 |some (v,s)=>if v∈acc then ν else σ (v,s)) k acc s
theorem E6{g f ar:Nat}{H:ak}{s:aO}{so:Option aO}{Y:x4}{aJ aK:x5->Prop}(ax:bZ w g B H N so)(b0:so=σ s\/(so=ν/\ar=0))(b2:iP w B f ⟨[],[],0,[]⟩)(b3:∀c,aj w f bj c->c[3]?=σ (.slice ν 0 0))(bx:aH .i64 ay w gz Y all)(b4:∀r,lc Y r->r<B)(dk:all.length<=100001)(dl:ar<=4611686018427387904)(aL:so=σ s->s.hp.length<=100000)(am:so=σ s->∀I x,ai (iQ g B) w I->fv all.length ar s=ν->bZ I g B H N ν->iP I B f x->aJ I)(b5:so=ν->aK w)(aP:so=σ s->∀I scope s',ai (iQ g B) w I->fv all.length ar s=σ (scope,s')->bZ I g B H N (σ s')->iP I B f ⟨scope,scope.map λv=>all.getD v.toNat 0,0,[]⟩->(∀c,aj I f bj c->c[3]?=σ (.slice ν 0 0))->aK I):
  b7 (Δ 0) w λi z k=>
   cG (α:=x4->x5->Prop) (λ(b6:x4)(M:x5)=>
    Split b6 (ad x8 (X8 #[aB] al #[Y]) M λt53=>
   ad x8 (aT .sub ay sp s2 t53 (Δ 1)) M λb8=>
   aq x8 nE [Γ g,(Δ 0),b8] M λt55 A=>
   ad x8 (Z7 t55 0) A λaQ=>
   ad x8 (Z7 t55 1) A λca=>
   ad x8 (b1 (Γ g)) A λcb=>
   ad x8 (u6 bR cb 3) A λcc=>
   ad x8 (u5 al cc) A λce=>
   ad x8 (aT .neq al sp s2 ce (Δ 0)) A λcf=>
   Split cf (aJ A)
    (ad x8 (u6 bj (Γ f) 0) A λcg=>
   ad x8 (u5 aB cg) A λbB=>
   ad x8 (X8 #[aB] al #[bB]) A λt66=>
   b7 (Δ 0) A λaS E ci=>
    ad x8 (aT .lss al sp sp aS t66) E λcj=>
    Split cj (ad x8 (n9 aB bB aS) E λck=>
    ad x8 (u5 ay ck) E λt70=>
    ad x8 (aT .eql ay sp sp t70 aQ) E λcl=>
    Split cl (aq x8 pn [Γ g,(Δ 4),ca] E λt76 aU=>aJ aU)
     (ad x8 (aT .add al sp s2 aS (Δ 1)) E λcm=>
    ci cm E))
     (ad x8 (u6 bj (Γ f) 0) E λcn=>
   ad x8 (u5 aB cn) E λcp=>
   aM x8 (Y4 aB 1 #[(0,aQ)]) E λcq Z=>
   aM x8 (b9 #[aB,aB] aB #[cp,cq]) Z λcr aV=>
   ad x8 (u6 bj (Γ f) 0) aV λct=>
   aM x8 (o7 aB ct cr) aV λ(_:Unit)an=>
   ey an λR=>
   ad x8 (u6 bj (Γ f) 1) R λaX=>
   ad x8 (u5 aB aX) R λbC=>
   ad x8 (n9 aB Y aQ) R λcu=>
   ad x8 (u5 ay cu) R λcw=>
   aM x8 (Y4 aB 1 #[(0,cw)]) R λcA X=>
    (Ext R X\/ch x8 (u5 aB aX) bC X/\ch x8 (u6 bj (Γ f) 1) aX X/\True)/\
   aM x8 (b9 #[aB,aB] aB #[bC,cA]) X λcC aY=>
    ad x8 (u6 bj (Γ f) 1) aY λcD=>
    aM x8 (o7 aB cD cC) aY λ(_:Unit)aa=>
     ad x8 (aT .add ay sp s2 i (Δ 1)) aa λcE=>
   k cE aa)))
     (aK M)) λbD=>
   ad x8 (aT .lss ay sp sp i (Δ (ar:Int))) z λcF=>
   Split cF (ad x8 (b1 (Γ g)) z λcH=>
   ad x8 (u6 bR cH 3) z λcI=>
   ad x8 (u5 al cI) z λt45=>
   ad x8 (aT .eql al sp s2 t45 (Δ 0)) z λt46=>
   bD t46 z)
    (bD (.bool sp) z):=by
 have dm:=ax.lt;rcases b0 with rfl|⟨rfl,rfl⟩
 rotate_left
 .refine b7.range 0 (λ_ U=>w=U) Ω rfl (λi U k hi=>Ω) ?_;rintro _ k rfl;refine a6 (λv M=>w=M/\v= .bool sp) ?_ ?_
  .rintro _ _ ⟨rfl,rfl⟩;rw[bc];exact b5 rfl
  .intro aA ae;rw[aW,ao];exact⟨λh=>Ω,λ_=>ae _ _ ⟨rfl,rfl⟩⟩
 have h:=ax;have aL:=aL rfl;have am:=am rfl;have aP:=aP rfl;refine b7.range ar (λi z=>∃scope O,ai (iQ g B) w z/\bZ z g B H N (σ O)/\iP z B f ⟨scope,scope.map λv=>all.getD v.toNat 0,0,[]⟩/\scope.length=i/\scope.length+O.hp.length<=100000/\fv all.length ar s=E5 all.length (ar-i) scope O/\∀c,aj z f bj c->c[3]?=σ (.slice ν 0 0)) Ω ⟨[],s,ai.refl _ _,h,b2,rfl,by simpa using aL,rfl,b3⟩ ?_ ?_
 rotate_left
 .rintro z k ⟨scope,O,ap,Q,au,bE,cJ,C,a2⟩;refine a6 (λv M=>z=M/\v= .bool sp) ?_ ?_
  .rintro _ _ ⟨rfl,rfl⟩;rw[bc];rw[V7]at C;exact aP z scope O ap C Q au a2
  .intro aA ae;rw[aW,ao];exact⟨λh=>Ω,λ_=>ae _ _ ⟨rfl,rfl⟩⟩
 rintro i z k hi ⟨scope,O,ap,Q,au,bE,cJ,C,a2⟩ hk;refine a6 (λv M=>z=M/\v= .bool s2) ?_ ?_
 rotate_left
 .intro aA ae;refine bF Ω ?_;rw[m8 Q];exact ae _ _ ⟨rfl,rfl⟩
 rintro _ _ ⟨rfl,rfl⟩;rw[bS];have bH:∀{I:x5},ai (iQ g B) w I->aH .i64 ay I gz Y all:=λcK=>bG bx cK λr e V=>by
  rcases V with rfl|V
  .obtain⟨cL,G,af,bad,cM,big,cN,m1,sv,J,_⟩:=jE h;exact cB bx J Φ e rfl
  .have:=b4 r e;omega
 rw[a8 aB.u (bH ap).ls,dr,lm Ω Ω];refine(l8 Q).Y ?_;rintro _ A _ ⟨⟨a7,K⟩,n,at_,rfl,ba,cO⟩;rw[bz,bA,sV K];have bb:=au.dZ a7 (ma Q);have bd:ai (iQ g B) w A:=ap.F (a7.Y λr _ h=>.inl h);have cQ:=Q5 (n:=(all.length:Int)) (k:=ar-(i+1)) (acc:=scope) (s:=O);have cR:ar-i=(ar-(i+1))+1:=Ω
 rw[cR]at C;unfold E5 at C;rw[cQ]at C;have cS:bl 0 ((all.length:Int)-1) (σ O)=bt 0 ((all.length:Int)-1) O:=rfl;rw[cS]at K ba cO ⊢;cases av:bt 0 ((all.length:Int)-1) O with
 |none=>
  rw[av]at K C;rw[Option.map_none,S3,X6,bS];exact am A _ bd C K bb
 |some q=>
  obtain⟨v,bI⟩:=q;rw[av]at K C ba;have cT:=ba _ rfl;subst cT;have dn:=(jx av).1;have dp:=(dT av).1;simp only at C;rw[Y7,T7,Y5,bc];have K:bZ A g B H N (σ bI):=K;obtain⟨aZ,hv,cz,g1,dq,be,f1,f2,f3,f4,f5,f6,f7⟩:=id bb;rw[aN bj.p 0 f1 rfl,a8 aB.u f2.ls];have ds:scope.length<=100000:=Ω
  refine b7.range scope.length (λj E=>A=E/\n∉scope.take j) Ω ⟨rfl,Ξ⟩ ?_ ?_
  .rintro j _ cU cV ⟨rfl,aw⟩ cW;obtain⟨u,hu⟩:=aI (l:=scope) cV;rw[aW,ao];refine⟨λ_=>?_,λh=>by simp only at h;omega⟩;rw[bk aB.u ay.i Ψ f2.ls hu,bm,ao];refine⟨λhe=>?_,λcX=>?_⟩
   .refine (p2 K Ω).Y ?_;rintro _ aU _ ⟨bJ,cY⟩;rw[m3 (by rw[<-he];exact x7 hu)]at C;exact am aU _ (bd.F (bJ.Y λr _ h=>.inl h)) C cY (bb.dZ bJ (ma K))
   .rw[aR];refine cW _ ⟨rfl,?_⟩;rw[u9,hu];intro hm;rcases j5.1 hm with hm|hm
    .exact aw hm
    .simp at hm;exact cX hm.symm
  .rintro _ cU ⟨rfl,aw⟩;rw[o9]at aw;rw[aW,ao];refine⟨λh=>by simp only at h;omega,λ_=>?_⟩;rw[m5 aw]at C;rw[aN bj.p 0 f1 rfl];refine e6 aB.u ay.i rfl λdt du Z dv P cZ=>?_;have dw:=K.lt;refine jD aB.u ay.i rfl (f2.W P) cZ.ls Θ Θ λbf c0 aV az c1 bK=>?_;have aC:=f1.W P;have f113:=aC.ab bK λhe=>cB (f2.W P) aC Φ he rfl;rw[a1 bj.p rfl];refine bw (g:=f) (o:=0) aB.i az.ls.cells.1 az.ls.cells.2 f113 Ξ λan bL dx aD=>?_;have aD:=aD;intro R bg _ _;have ag:ai (λr=>lc aZ r\/r=f) Z an:=(bK.Y λr _ h=>.inl h).F (bL.Y λr _ h=>.inr h);have bM:∀r,(lc aZ r\/r=f)->iQ g B r:=λr e=>.inr (e.elim (λe=>f5 r (.inl e)) λe=>e▸f7);have bN:=(bd.F (P.ab _)).F (ag.Y λr _ e=>bM r e);have c2:ai (iQ g B) w R:=bN.F (bg.ab _);have c3:=bG (f3.W P) ag λr e V=>by
    rcases V with V|rfl
    .exact f6 r V e
    .exact cB (f3.W P) aC Φ e rfl
   have c4:=bG az bL λr e he=>by
    have he:r=f:=he;subst he;exact cB az f113 Φ e rfl
   have c5:∀r,(lc aZ r\/r=f)->(∃c,aj Z r ay c)\/∃c,aj Z r bj c:=λr e=>by
    rcases e with e|rfl
    .obtain⟨G,_⟩:=cd f2 e;obtain⟨_,⟨ac,_⟩|⟨_,cs,ac,J,_⟩⟩:=f2.W P
     .rw[ac]at e;obtain⟨a,c6,c,G,af⟩:=e;cases G
     .exact .inl ⟨cs,G▸J⟩
    .exact .inr ⟨_,aC⟩
   have c7:l7 an be cz []:=by
    obtain⟨L,S,c8,bh⟩:=f4.dZ (P.ab λ_=>False) λ_ h=>h.elim;have bi:=List.map_eq_nil_iff.1 bh;subst bi;refine⟨[],S.ab ag λr e V=>?_,λy bn=>(by cases bn),rfl⟩;rcases c5 r V with⟨c,J⟩|⟨c,J⟩
    .exact cP S J Φ e
    .exact cP S J Φ e
   have da:=(K.W P).new ag λr e=>by
    rcases bM r e with rfl|h
    .rcases e with e|e
     .exact f5 _ (.inl e)
     .exact e▸f7
    .exact h
   rw[aN bj.p 1 (aD.W bg) rfl];have db:all[n.toNat]?=σ (all.getD n.toNat 0):=by rw[r8,v8 Ω];rfl
   rw[ft (y:=n) (i:=n.toNat) Ω aB.u ay.i Ψ (bH c2).ls db];refine e6 aB.u ay.i rfl λdy dz X dA bO dc=>?_;refine⟨.inl bO,?_⟩;have W:=bg.F bO;have f316:=c3.W W;have bP:(scope.map λv=>all.getD v.toNat 0).length=scope.length:=r9 _;refine jD aB.u ay.i rfl f316 dc.ls (by simp at bP ⊢;omega) (by simp at bP ⊢;omega) λbQ dd aY aE bT bU=>?_;have aF:=aD.W W;have bV:=aF.ab bU λhe=>cB f316 aF Φ he rfl;rw[a1 bj.p rfl];refine bw (g:=f) (o:=1) aB.i aE.ls.cells.1 aE.ls.cells.2 bV Ξ λaa bW dC ah=>?_;have ah:=ah;rw[aR];have aG:ai (λr=>lc hv r\/r=f) X aa:=(bU.Y λr _ h=>.inl h).F (bW.Y λr _ h=>.inr h);have bX:∀r,(lc hv r\/r=f)->B<=r:=λr e=>e.elim (λe=>f5 r (.inr e)) λe=>e▸f7;have bo:=c4.W W;have dD:=P.size;have dE:=ag.size;have bp:∀r,lc bf r->B<=r/\¬lc hv r:=λr e=>by
    rcases c1 r e with h|h
    .exact⟨f5 r (.inl h),f6 r h⟩
    .exact⟨Ω,λbq=>by obtain⟨G,af⟩:=cd f3 bq;omega⟩
   have de:=bG bo aG λr e V=>by
    rcases V with V|rfl
    .exact (bp r e).2 V
    .exact cB bo aF Φ e rfl
   have df:=bG aE bW λr e he=>by
    have he:r=f:=he;subst he;exact cB aE bV Φ e rfl
   have dg:l7 aa be cz []:=by
    obtain⟨L,S,c8,bh⟩:=c7.dZ (W.ab λ_=>False) λ_ h=>h.elim;have bi:=List.map_eq_nil_iff.1 bh;subst bi;refine⟨[],S.ab aG λr e V=>?_,λy bn=>(by cases bn),rfl⟩;rcases V with V|rfl
    .obtain⟨G,_⟩:=cd f316 V;obtain⟨_,⟨ac,_⟩|⟨_,cs,ac,J,_⟩⟩:=f316
     .rw[ac]at V;obtain⟨a,c6,c,G,af⟩:=V;cases G
     .exact cP S (G▸J) Φ e
    .exact cP S aF Φ e
   refine hk _ ⟨scope++[n],bI,((bN.F (W.ab _)).F (aG.Y λr _ e=>.inr (bX r e))),(da.W W).new aG bX,⟨bf,bQ,cz,c0,dd,be,ah,de,by rw[Z2];exact df,dg,λr e=>?_,λr e bq=>?_,f7⟩,by rw[c9,bE];rfl,by rw[c9];simp;omega,C,λc br=>?_⟩
   .rcases e with e|e
    .exact (bp r e).1
    .rcases bT r e with h|h
     .exact f5 r (.inr h)
     .have:=W.size;omega
   .rcases bT r bq with h|h
    .exact (bp r e).2 h
    .obtain⟨G,af⟩:=cd bo e;omega
   .have dh:c=[bf,bQ,Δ 0,cz]:=by
     unfold aj at br ah;rw[ah]at br;have:=(Obj.cells.inj (Z5 br)).1;exact(Array.toList_inj.2 this).symm
    have di:cz= .slice ν 0 0:=by
     obtain⟨dF,dG,dH,_,_,_,bs,_⟩:=au;have bY:=a2 _ bs;have bu:=bs.ab a7 λhe=>by
      have he:=he;obtain⟨cL,G,af,bad,cM,big,cN,m1,sv,J,_⟩:=jE Q;subst he;exact m6 (fI J bs) Φ
     unfold aj at bu f1;rw[f1]at bu;have dj:=Array.toList_inj.2 (Obj.cells.inj (Z5 bu)).1;have Q:=congrArg (λl=>l[3]?) dj;simp at Q;simp at bY;rw[Q,bY]
    rw[dh,di];rfl
theorem Q6{s:x4->x5->Prop}(h:aQ .i64 w sv l)(h1:∀z∈l,1<=z)(H:∀c:Int,(4096<c↔dO l=s2)->s (Δ c) w):
  ce (Δ 1) (Δ 0) w λx j a I=>
   ad x8 (aT .lss al sp sp j (Δ (l.length:Int))) a λJ=>
   Split J (cG (α:=x4->x5->Prop) (λ(K:x4)(y:x5)=>
    ad x8 (aT .add al sp s2 j (Δ 1)) y λL=>
    I K L y) λA=>
   ad x8 (n9 aB sv j) a λM=>
   ad x8 (u5 ay M) a λB=>
   cG (α:=x4->x5->Prop) (λ(N:x4)(f:x5)=>
    ad x8 (aT .mul ay sp sp x N) f λC=>
    ad x8 (aT .gtr ay sp s2 C (Δ 4096)) f λO=>
    Split O (A (Δ 4097) f)
     (A C f)) λE=>
   ad x8 (aT .gtr ay sp s2 B (Δ 4096)) a λP=>
   Split P (E (Δ 4097) a)
    (E B a))
    (s x a):=by
 refine ce.range l.length (λi c U=>w=U/\∃p:Int,p=aX ((l.take i).map λk=>min k 4097)/\1<=p/\c=Δ (if 4096<p then 4097 else p)) h.le ⟨rfl,1,by simp[aX],Ω,by rw[m5 Ω]⟩ ?_ ?_
 .rintro i _ _ Q hi ⟨rfl,p,ae,R,rfl⟩ S;obtain⟨z,q⟩:=aI (l:=l) hi;have W:=h1 z (x7 q);have e:aX ((l.take (i+1)).map λk=>min k 4097)=p*min z 4097:=by
   rw[ae,u9,q,j4,Z2,List.map_cons,List.map_nil,C6]
  have X:p*1<=p*min z 4097:=Int.mul_le_mul_of_nonneg_left Ω Ω;refine bF Ω ?_;refine a6 (λv aa=>w=aa/\v=Δ (if 4096<p*min z 4097 then 4097 else p*min z 4097)) ?_ ?_
  .rintro _ _ ⟨rfl,rfl⟩;rw[aR];exact S _ _ ⟨rfl,_,e.symm,Ω,rfl⟩
  intro aA r;rw[bk aB.u ay.i Ψ h q];refine a6 (λv aa=>w=aa/\v=Δ (min z 4097)) ?_ ?_
  .rintro _ _ ⟨rfl,rfl⟩;rw[fQ];by_cases F:4096<p
   .rw[m3 F];have V:(4097:Int)*1<=4097*min z 4097:=Int.mul_le_mul_of_nonneg_left Ω Ω;rw[lm Ω Ω,bU,ao];refine⟨λ_=>r _ _ ⟨rfl,by rw[m3 Ω]⟩,λY=>Ω⟩
   .rw[m5 F];have V:p*min z 4097<=4096*4097:=by
     have Z:=Int.mul_le_mul_of_nonneg_right (show p<=4096 by omega) (show 0<=min z 4097 by omega);have ab:=Int.mul_le_mul_of_nonneg_left (show min z 4097<=4097 by omega) (show(0:Int)<=4096 by omega);omega
    rw[lm Ω Ω,bU,ao];exact⟨λax=>r _ _ ⟨rfl,by rw[m3 ax]⟩,λax=>r _ _ ⟨rfl,by rw[m5 ax]⟩⟩
  .intro ac G;rw[bU,ao];exact⟨λax=>G _ _ ⟨rfl,by congr 1;omega⟩,λax=>G _ _ ⟨rfl,by congr 1;omega⟩⟩
 .rintro _ _ Q ⟨rfl,p,ae,R,rfl⟩;rw[o9]at ae;rw[aW,ao];refine⟨λh=>Ω,λ_=>H _ ?_⟩;unfold dO;rw[<-ae,ro];split
  .exact⟨λ_=>Ω,λ_=>Ω⟩
  .exact Iff.rfl
theorem Q7{g av:Nat}{H:ak}{so:Option aO}{Z:x5->Prop}(h:bZ w g B H N so)(C:aH .i64 ay w gz hv d6)(az:∀z∈d6,1<=z/\z<=aF)(bo:d6.length<=100001)(R:aj w av cw [.slice ν 0 0,Δ 0])(aA:B<=av)(ac:∀t I aY gt,t.length=d6.length->ai (λr=>r=g\/r=av\/w.heap.size<=r) w I->aj I av cw [aY,Δ 0]->aH .i64 ay I gt aY t->(∀r,lc aY r->w.heap.size<=r)->bZ I g B H N ((gK d6 [] so).map (·.2))->(∀q,gK d6 [] so=σ q->t=q.1)->Z I):
  b7 (Δ 0) w λS s aC=>
      ad x8 (aT .lss al sp sp S (Δ (d6.length:Int))) s λaD=>
      Split aD (ad x8 (n9 aB hv S) s λaE=>
      ad x8 (u5 ay aE) s λaG=>
      ad x8 (aT .sub ay sp s2 aG (Δ 1)) s λaJ=>
      aq x8 nE [Γ g,(Δ 0),aJ] s λae E=>
      ad x8 (Z7 ae 0) E λaK=>
      ad x8 (Z7 ae 1) E λbp=>
      ad x8 (u6 cw (Γ av) 0) E λaL=>
      ad x8 (u5 aB aL) E λaP=>
      aM x8 (Y4 aB 1 #[(0,aK)]) E λaQ aS=>
      aM x8 (b9 #[aB,aB] aB #[aP,aQ]) aS λaU af=>
      ad x8 (u6 cw (Γ av) 0) af λaV=>
      aM x8 (o7 aB aV aU) af λ(_:Unit)ag=>
      ad x8 (aT .add al sp s2 S (Δ 1)) ag λaW=>
      aC aW ag)
       (Z s):=by
 have bq:=R.lt;have br:=h.lt;refine b7.range d6.length (λj U=>∃t aY gt s1,t.length=j/\ai (λr=>r=g\/r=av\/w.heap.size<=r) w U/\aj U av cw [aY,Δ 0]/\aH .i64 ay U gt aY t/\(∀r,lc aY r->w.heap.size<=r)/\bZ U g B H N s1/\gK d6 [] so=gK (d6.drop j) t s1) C.ls.le
  ⟨[],_,0,so,rfl,ai.refl _ _,R,aH.nil _ _ _ _,(λr e=>by obtain⟨a,n,c,L,W⟩:=e;cases L),h,rfl⟩ ?_ ?_
 rotate_left
 .rintro U aX ⟨t,aY,gt,s1,M,x,O,G,y,J,he⟩;refine b4 Ω ?_;rw[List.drop_length]at he;cases s1 with
  |none=>
   have he:=he;exact ac t U aY gt M x O G y (by rw[he];exact J) (λq f=>by rw[he]at f;cases f)
  |some s1=>
   have he:=he;exact ac t U aY gt M x O G y (by rw[he];exact J) (λq f=>by rw[he]at f;cases f;rfl)
 rintro j U aX ah ⟨t,aY,gt,s1,M,x,O,G,y,J,he⟩ aZ;obtain⟨z,X⟩:=aI (l:=d6) ah;have a2:=az z (x7 X);have bs:z<=4611686018427387904:=a2.2;have a6:=bG C x λr e V=>by
  rcases V with rfl|rfl|V
  .obtain⟨a7,L,W,bad,a8,big,ba,m1,sv,K,_⟩:=jE h;exact cB C K Φ e rfl
  .exact cB C R Φ e rfl
  .obtain⟨L,W⟩:=cd C e;omega
 refine bF Ω ?_;rw[bk aB.u ay.i Ψ a6.ls X,dr,lm Ω Ω];refine(l8 J).Y ?_;rintro _ aa _ ⟨⟨P,bb⟩,n,at_,rfl,bc,bt⟩;rw[bz,bA];have bd:av≠g:=Ω
 have am:=O.ab P λhe=>bd he;have be:∃c,aj U g bR c:=by obtain⟨a7,L,W,bad,a8,big,ba,m1,sv,K,_⟩:=jE J;exact⟨_,K⟩
 have an:=bG G P λr e he=>by
  have he:r=g:=he;obtain⟨c,K⟩:=be;exact cB G K Φ e he
 rw[aN cw.p 0 am rfl];refine e6 aB.u ay.i rfl λa3 bu bf bx A bg=>?_;refine jD aB.u ay.i rfl (an.W A) bg.ls Θ Θ λbh bi bB Q bj ao=>?_;have ap:=am.W A;have au:=ap.ab ao λhe=>cB (an.W A) ap Φ he rfl;rw[a1 cw.p rfl];refine bw (g:=av) (o:=0) aB.i Q.ls.cells.1 Q.ls.cells.2 au Ξ λbm aw bC Y=>?_;have Y:=Y;rw[aR];have ax:ai (λr=>lc aY r\/r=av) bf bm:=(ao.Y λr _ h=>.inl h).F (aw.Y λr _ h=>.inr h);have bD:=x.size;have bE:=P.size;have z3:=A.size;refine aZ _ ⟨t++[n],bh,bi,(bl 0 (z-1) s1).map (·.2),by simp[M],?_,Y,bG Q aw λr e he=>?_,λr e=>?_,?_,?_⟩
 .refine (x.F (P.Y λr _ h=>.inl h)).F ((A.ab _).F (ax.Y λr _ h=>?_));exact h.elim (λh=>.inr (.inr (y r h))) λh=>.inr (.inl h)
 .have he:r=av:=he;subst he;exact cB Q au Φ e rfl
 .rcases bj r e with h|h
  .exact y r h
  .omega
 .refine (bb.W A).new ax λr e=>?_;rcases e with e|rfl
  .have:=y r e;omega
  .exact aA
 .rw[he];have bn:d6.drop j=z::d6.drop (j+1):=by rw[X4 ah,(x6.1 X).2]
  rw[bn,DE];cases f:bl 0 (z-1) s1 with
  |none=>rfl
  |some q=>
   obtain⟨v,bH⟩:=q;have:=bc _ f;subst this;rfl
theorem yJ{g:Nat}{v:x4}(h:aH .i64 ay w g v t):∀u∈p1 ⟨v,t,c⟩,u.oneCell'=s2:=by
 intro u hu;simp[p1]at hu;rcases hu with rfl|rfl
 .exact h.ls.cells.2
 .rfl
def Q8(d6:Λ)(cnt i:Nat)(s0:aO)(A:List (Λ×Int))(so:Option aO):Prop:=(∃s,so=σ s/\dc (eX d6) cnt [] s0=dc (eX d6) (cnt-i) A s/\A.length+s.hp.length<=100000)\/(so=ν/\dc (eX d6) cnt [] s0=ν)
theorem Q9{g J g1 a2 W:Nat}{H:ak}{s0:aO}{aZ cz:x4}{scope:Λ}{o:Int}{ax:List (Λ×Int)}{bW:x5->Prop}(h:bZ w g B H N (σ s0))(f1:aj w J bj [aZ,hv,Δ o,cz])(f2:aH .i64 ay w g1 aZ scope)(f3:aH .i64 ay w a2 hv d6)(f4:l7 w W cz ax)(f5:∀r,lc aZ r\/lc hv r->B<=r)(f6:∀r,lc aZ r->¬lc hv r)(f7:B<=J)(cV:∀z∈d6,1<=z/\z<=aF)(cW:d6.length<=100001)(eU:n<=4611686018427387904)(bo:0<n->ax=[]/\∀r,¬hx cz r)(cX:s0.hp.length<=100000)(bX:∀I A bp,ai (iQ g B) w I->iP I B J ⟨scope,d6,o,A⟩->bZ I g B H N bp->(n<=0->A=ax/\bp=σ s0)->(0<n->bp=(dc (eX d6) n.toNat [] s0).map (·.2)/\∀q,dc (eX d6) n.toNat [] s0=σ q->A=q.1)->bW I):
  b7 (Δ 0) w λbY Y cY=>
     cG (α:=x4->x5->Prop) (λ(cZ:x4)(b0:x5)=>
      Split cZ (aM x8 (R3 cw s2 (.tuple #[])) b0 λx X=>
     ad x8 (u6 bj (Γ J) 1) X λc0=>
     ad x8 (u5 aB c0) X λb2=>
     ad x8 (X8 #[aB] al #[b2]) X λc1=>
     b7 (Δ 0) X λbq Z c2=>
      ad x8 (aT .lss al sp sp bq c1) Z λc3=>
      Split c3 (ad x8 (n9 aB b2 bq) Z λc4=>
      ad x8 (u5 ay c4) Z λc5=>
      ad x8 (aT .sub ay sp s2 c5 (Δ 1)) Z λc6=>
      aq x8 nE [Γ g,(Δ 0),c6] Z λb5 az=>
      ad x8 (Z7 b5 0) az λc7=>
      ad x8 (Z7 b5 1) az λeV=>
      ad x8 (u6 cw x 0) az λc8=>
      ad x8 (u5 aB c8) az λda=>
      aM x8 (Y4 aB 1 #[(0,c7)]) az λdb dd=>
      aM x8 (b9 #[aB,aB] aB #[da,db]) dd λde b6=>
      ad x8 (u6 cw x 0) b6 λdf=>
      aM x8 (o7 aB df de) b6 λ(_:Unit)b8=>
      ad x8 (aT .add al sp s2 bq (Δ 1)) b8 λdg=>
      c2 dg b8)
       (aq x8 nE [Γ g,(Δ 0),(Δ 4611686018427387904)] Z λca G=>
     ad x8 (Z7 ca 0) G λdi=>
     ad x8 (Z7 ca 1) G λdj=>
     ad x8 (u6 bj (Γ J) 3) G λdk=>
     ad x8 (u5 eB dk) G λcb=>
     ad x8 (X8 #[eB] al #[cb]) G λdl=>
     b7 (Δ 0) G λbr K dm=>
      ad x8 (aT .lss al sp sp br dl) K λdn=>
      Split dn (cG (α:=x5->Prop) (λ(ap:x5)=>
       ad x8 (aT .add al sp s2 br (Δ 1)) ap λdp=>
       dm dp ap) λcc=>
      ad x8 (n9 eB cb br) K λdq=>
      ad x8 (u5 cw dq) K λdr=>
      aM x8 (R3 cw s2 (.tuple #[])) K λy cd=>
      aM x8 (o7 cw y dr) cd λ(_:Unit)O=>
      cG (α:=x4->x5->Prop) (λ(ds:x4)(aC:x5)=>
       Split ds (aq x8 pn [Γ g,(Δ 4),dj] aC λeW ce=>
        cc ce)
        (cc aC)) λcf=>
      ad x8 (b1 (Γ g)) O λdt=>
      ad x8 (u6 bR dt 3) O λdu=>
      ad x8 (u5 al du) O λdv=>
      ad x8 (aT .eql al sp s2 dv (Δ 0)) O λdw=>
      Split dw (ad x8 (u6 cw x 0) O λdx=>
       ad x8 (u5 aB dx) O λdy=>
      ad x8 (u6 cw y 0) O λdz=>
      ad x8 (u5 aB dz) O λdA=>
      aq x8 tY [dy,dA] O λdC cg=>
      cf dC cg)
       (cf (.bool sp) O))
       (ad x8 (u6 cw x 1) K λdD=>
     aM x8 (o7 ay dD di) K λ(_:Unit)ac=>
     ad x8 (u6 bj (Γ J) 3) ac λdE=>
     ad x8 (u5 eB dE) ac λdF=>
     ad x8 (u5 cw x) ac λdH=>
     aM x8 (Y4 eB 1 #[(0,dH)]) ac λdI a7=>
     aM x8 (b9 #[eB,eB] eB #[dF,dI]) a7 λdJ bs=>
     ad x8 (u6 bj (Γ J) 3) bs λdK=>
     aM x8 (o7 eB dK dJ) bs λ(_:Unit)af=>
     ad x8 (aT .add ay sp s2 bY (Δ 1)) af λdL=>
     cY dL af)))
       (bW b0)) λch=>
     ad x8 (aT .lss ay sp sp bY (Δ n)) Y λdM=>
     Split dM (ad x8 (b1 (Γ g)) Y λdN=>
     ad x8 (u6 bR dN 3) Y λdO=>
     ad x8 (u5 al dO) Y λdP=>
     ad x8 (aT .eql al sp s2 dP (Δ 0)) Y λdQ=>
     ch dQ Y)
      (ch (.bool sp) Y):=by
 have dR:=h.lt;refine b7.range n.toNat (λi U=>∃A so cz W,ai (iQ g B) w U/\aj U J bj [aZ,hv,Δ o,cz]/\aH .i64 ay U g1 aZ scope/\aH .i64 ay U a2 hv d6/\l7 U W cz A/\(0<n->∀r,hx cz r->B<=r)/\bZ U g B H N so/\(n<=0->A=ax/\so=σ s0)/\(0<n->Q8 d6 n.toNat i s0 A so)) Ω
  ⟨ax,σ s0,cz,W,ai.refl _ _,f1,f2,f3,f4,λae r C=>m6 C ((bo ae).2 r),h,λ_=>⟨rfl,rfl⟩,λae=>.inl ⟨s0,rfl,by rw[(bo ae).1];rfl,by rw[(bo ae).1];simpa using cX⟩⟩ ?_ ?_
 rotate_left
 .rintro U k ⟨A,so,cz,W,aD,au,ba,aE,aJ,bu,ag,ci,E⟩;refine a6 (λv aa=>U=aa/\v= .bool sp) ?_ ?_
  .rintro _ _ ⟨rfl,rfl⟩;rw[bc];refine bX U A so aD ⟨aZ,hv,cz,g1,a2,W,au,ba,aE,aJ,f5,f6,f7⟩ ag ci λae=>?_;rcases E ae with⟨s,rfl,he,_⟩|⟨rfl,he⟩
   .rw[V7]at he;rw[he];exact⟨rfl,λq M=>by cases M;rfl⟩
   .rw[he];exact⟨rfl,λq M=>by cases M⟩
  .intro aA bB;rw[aW,ao];exact⟨λh=>Ω,λ_=>bB _ _ ⟨rfl,rfl⟩⟩
 rintro i U k hi ⟨A,so,cz,W,aD,au,ba,aE,aJ,bu,ag,ci,E⟩ hk;have ae:0<n:=Ω
 refine a6 (λv aa=>U=aa/\v= .bool so.isSome) ?_ ?_
 rotate_left
 .intro aA bB;refine bF Ω ?_;rw[m8 ag];exact bB _ _ ⟨rfl,rfl⟩
 rintro _ _ ⟨rfl,rfl⟩;rcases E ae with⟨dG,rfl,he,eY⟩|⟨rfl,he⟩
 rotate_left
 .rw[S3,bc];refine bX U A ν aD ⟨aZ,hv,cz,g1,a2,W,au,ba,aE,aJ,f5,f6,f7⟩ ag (λh=>Ω) λ_=>?_;rw[he];exact⟨rfl,λq M=>by cases M⟩
 rw[T7,bS];have eZ:=ag.lt;refine bE cw.i λav X e1 aK bC=>?_;have bC:aj X av cw [.slice ν 0 0,Δ 0]:=bC;have dS:=au.W aK;have cj:=aE.W aK;have e2:=aK.size;have e3:=au.lt;rw[a1 bj.p rfl,aG Ψ (dS.cell rfl),a8 aB.u cj.ls];refine Q7 (ag.W aK) cj cV cW bC Ω λt Z aY gt e4 dU dV dW dX ea eb=>?_;refine(l8 ea).Y ?_;rintro _ G _ ⟨⟨bD,bb⟩,c,at_,rfl,ec,e5⟩;rw[bz,bA];have bI:av≠g:=Ω
 have ck:J≠g:=by have:=h.lt;omega
 have ed:ai (λr=>r=g\/r=av\/X.heap.size<=r) X G:=dU.F (bD.Y λr _ h=>.inl h);have cl:∀{S:Nat->Prop},(∀r,S r->r=g\/U.heap.size<=r)->∀r,S r->iO U r\/U.heap.size<=r:=λee r C=>(ee r C).imp (λhe=>by
  subst he;obtain⟨cm,aL,aP,bad,cn,big,cp,m1,sv,E,_⟩:=jE ag;exact⟨_,_,E,Φ,Φ⟩) id
 have bd:ai (λr=>r=g\/U.heap.size<=r) U G:=(aK.ab _).F (ed.Y λr _ h=>h.elim .inl λh=>h.elim (λh=>.inr Ω) λh=>.inr Ω);have cq:=au.ab bd λh=>h.elim ck λh=>Ω
 obtain⟨L,be,cr,bJ⟩:=aJ.dZ bd (cl λr C=>C);have ct:=dV.ab bD λhe=>bI he;have cA:=bG dW bD λr C he=>by
  have he:r=g:=he;have:=dX r C;omega
 have e6:L.length=A.length:=by rw[<-bJ,r9]
 rw[aN bj.p 3 cq rfl,ek eB.u be];generalize cC:(bl 0 4611686018427387904 (V8 (λx=>x.snd) (gK d6 [] (σ dG)))).map (·.2)=ah at bb;have e7:=bd.size;refine b7.range L.length (λj K=>ai (λr=>r=g) G K/\bZ K g B H N (if t∈(L.take j).map (·.t)then ν else ah)) be.le ⟨ai.refl _ _,by simpa using bb⟩ ?_ ?_
 .rintro j K ef cD ⟨P,aQ⟩ eg;obtain⟨y,Q⟩:=aI (l:=L) cD;have bK:∃c,aj G g bR c:=by obtain⟨cm,aL,aP,bad,cn,big,cp,m1,sv,E,_⟩:=jE bb;exact⟨_,E⟩
  have am:∀r,r=g->iO G r\/G.heap.size<=r:=λr C=>by
   subst C;obtain⟨c,E⟩:=bK;exact .inl ⟨_,c,E,Φ,Φ⟩
  have bf:=yH be P λr C=>(am r C).imp (λ⟨e,c,E,_,aS⟩=>⟨e,c,E,aS⟩) id;obtain⟨e8,eh⟩:=cr y (x7 Q);have cE:=e0 eh P am;have bL:=e0 cA P am;have bg:=ct.ab P λhe=>bI he;refine bF Ω ?_;have bM:t∈(L.take (j+1)).map (·.t)↔t∈(L.take j).map (·.t)\/t=y.t:=by
   rw[u9,Q,j4,Z2,j5];simp
  refine dh (λap=>ai (λr=>r=g) G ap/\bZ ap g B H N (if t∈(L.take (j+1)).map (·.t)then ν else ah)) ?_ ?_
  .rintro ap ei;rw[aR];exact eg _ ei
  intro e9 cF;rw[cu rfl eB.u cw.i bf cD,bH cw.p cw.i rfl (bf.range Q)];refine bE cw.i λgy cd fa ej em=>?_;refine b3 (vs:=p1 y) cw.i rfl rfl (yJ cE) em λO en fb eo=>?_;have aU:=ej.put en Ω;have cH:=aQ.W aU;have cI:ai (λr=>r=g) G O:=P.F (aU.ab _);refine a6 (λv aC=>∃b:Bool,v= .bool b/\Ext O aC/\(b=s2->t=y.t)/\(b=sp->t≠y.t\/(if t∈(L.take j).map (·.t)then ν else ah)=ν)) ?_ ?_
  .rintro _ aC ⟨b,rfl,bN,ep,er⟩;have an:=cH.W bN;cases b with
   |true=>
    rw[bS];refine(p2 an Ω).Y ?_;rintro _ ce _ ⟨es,et⟩;refine cF _ ⟨(cI.F (bN.ab _)).F es,?_⟩;rw[m3 (bM.2 (.inr (ep rfl)))];exact et
   |false=>
    rw[bc];refine cF _ ⟨cI.F (bN.ab _),?_⟩;by_cases hm:t∈(L.take j).map (·.t)
    .rw[m3 (bM.2 (.inl hm))];rw[m3 hm]at an;exact an
    .rw[m5 hm]at an;rcases er rfl with aS|cJ
     .rw[m5 (λh=>(bM.1 h).elim hm aS)];exact an
     .rw[m5 hm]at cJ;rw[cJ]at an ⊢;split<;>exact an
  .intro fc cK;rw[m8 cH];cases aV:(if t∈(L.take j).map (·.t)then ν else ah)with
   |none=>
    rw[S3,bc];exact cK _ _ ⟨sp,rfl,Ext.refl _,(λh=>by cases h),λ_=>.inr aV⟩
   |some fd=>
    rw[T7,bS];have eu:=bg.W aU;rw[aN cw.p 0 eu rfl,aN cw.p 0 eo rfl];refine(yI (bL.ls.W aU) (cE.ls.W aU)).Y ?_;rintro _ cg _ ⟨rfl,ev⟩;exact cK _ _ ⟨_,rfl,ev,λh=>rs h,λh=>.inl (of_decide_eq_false h)⟩
 .rintro K ef ⟨P,aQ⟩;rw[o9]at aQ;have ew:L.map (·.t)=A.map (·.1):=by rw[<-bJ,T5];rfl
  rw[ew]at aQ;have bK:∃c,aj G g bR c:=by obtain⟨cm,aL,aP,bad,cn,big,cp,m1,sv,E,_⟩:=jE bb;exact⟨_,E⟩
  have am:∀r,r=g->iO G r\/G.heap.size<=r:=λr C=>by
   subst C;obtain⟨c,E⟩:=bK;exact .inl ⟨_,c,E,Φ,Φ⟩
  have cL:∀r,(r=g\/U.heap.size<=r)->iO U r\/U.heap.size<=r:=cl λr C=>C;have bh:ai (λr=>r=g\/U.heap.size<=r) U K:=bd.F (P.Y λr _ h=>.inl h);have ey:=cq.ab P λhe=>ck he;have ez:=e0 ba bh cL;have eA:=e0 aE bh cL;have bf:=yH be P λr C=>(am r C).imp (λ⟨e,c,E,_,aS⟩=>⟨e,c,E,aS⟩) id;have eC:∀y∈L,∃gy,aH .i64 ay K gy y.v y.t:=λy Q=>by
   obtain⟨gy,hm⟩:=cr y Q;exact⟨gy,e0 hm P am⟩
  have bL:=e0 cA P am;have bg:=ct.ab P λhe=>bI he;refine b4 Ω ?_;rw[a1 cw.p rfl];refine bw (g:=av) (o:=1) ay.i rfl rfl bg Ξ λac aw fe bO=>?_;have bO:=bO;have eD:J≠av:=Ω
  have cM:=ey.ab aw λhe=>eD he;have ff:U.heap.size<=av:=Ω
  have eE:∀r,hx cz r->r≠av:=λr C=>by obtain⟨aL,aP⟩:=aJ.choose_spec.1.lc C;omega
  have eF:=bf.ab aw λr C he=>eE r C he;rw[aN bj.p 3 cM rfl,bH cw.p cw.i rfl bO.range];let a:yG:=⟨aY,t,c⟩;have bi:∀{v:x4}{aX:Nat}{l:Λ},aH .i64 ay K aX v l->aH .i64 ay ac aX v l:=λhm=>bG hm aw λr C he=>by
   have he:r=av:=he;exact cB hm bg Φ C he
  have cN:=bi bL;refine jc (f:=p1) (a:=a) eB.u cw.i Ω rfl rfl λv45 fg a7 fh R eH=>?_;have bP:=eF.W R;refine jB (f:=p1) (a:=a) eB.u cw.i rfl bP (by simpa using eH.sl) (yJ (cN.W R)) Ω Ω λcO cQ bs bk eI cR=>?_;have bQ:=cM.W R;have cS:=bQ.ab cR λhe=>cP bP bQ Φ he;rw[a1 bj.p rfl];refine bw (g:=J) (o:=3) eB.i (eJ bk.sl).1 (eJ bk.sl).2 cS Ξ λaf cT fi bT=>?_;have bT:=bT;rw[aR];have bU:ai (λr=>hx cz r\/r=J) a7 af:=(cR.Y λr _ h=>.inl h).F (cT.Y λr _ h=>.inr h);have bm:∀{v:x4}{aX:Nat}{l:Λ},aH .i64 ay a7 aX v l->aH .i64 ay af aX v l:=λhm=>bG hm bU λr C V=>by
   rcases V with V|rfl
   .obtain⟨rfl,fj,E⟩:=dY bP V;exact cB hm E Φ C rfl
   .exact cB hm bQ Φ C rfl
  have cU:∀r,(hx cz r\/r=J)->B<=r:=λr C=>C.elim (λC=>bu ae r C) λC=>C▸f7;have eK:bZ ac g B H N (if t∈A.map (·.1)then ν else ah):=aQ.new aw λr C=>by
   have C:r=av:=C;omega
  have eL:=(eK.W R).new bU cU;have eM:ai (iQ g B) U af:=((bh.Y λr _ h=>h.elim .inl λh=>.inr Ω).F (aw.Y λr _ h=>.inr (by have h:r=av:=h;omega))).F ((R.ab _).F (bU.Y λr _ h=>.inr (cU r h)));have eN:l7 af cQ cO (A++[(t,c)]):=⟨L++[a],bk.ab cT λr C he=>by
   have he:r=J:=he;subst he;exact cP bk cS Φ C,λy Q=>by
   rcases j5.1 Q with Q|Q
   .obtain⟨gy,hm⟩:=eC y Q;exact⟨gy,bm ((bi hm).W R)⟩
   .rw[Y1.1 Q];exact⟨gt,bm (cN.W R)⟩,by rw[Z2,bJ];rfl⟩
  refine hk _ ⟨A++[(t,c)],_,cO,cQ,aD.F eM,bT,bm ((bi ez).W R),bm ((bi eA).W R),eN,λ_ r C=>?_,eL,λh=>Ω,λ_=>?_⟩
  .rcases eI r C with h|h
   .exact bu ae r h
   .have:=aD.size;have:=bh.size;have:=aw.size;have:=R.size;have:=dR.2;omega
  .have eO:n.toNat-i=(n.toNat-(i+1))+1:=Ω
   rw[eO]at he;obtain⟨eP,eQ⟩:=DI eb ec;cases M:bl 0 aF ((gK d6 [] (σ dG)).map (·.2))with
   |none=>
    have aV:ah=ν:=by rw[<-cC];show(bl 0 aF _).map _=ν;rw[M];rfl
    rw[qY (eP M)]at he;refine .inr ⟨?_,he⟩;rw[aV];split<;>rfl
   |some q=>
    have aV:ah=σ q.2:=by rw[<-cC];show(bl 0 aF _).map _=_;rw[M];rfl
    have bn:=eQ q M;by_cases hm:t∈A.map (·.1)
    .rw[m3 hm]at bn;rw[qY bn]at he;exact .inr ⟨by rw[m3 hm],he⟩
    .rw[m5 hm]at bn;rw[uH bn]at he;refine .inl ⟨q.2,by rw[m5 hm,aV],he,?_⟩;cases bV:gK d6 [] (σ dG)with
     |none=>rw[bV]at M;cases M
     |some p=>
      rw[bV]at M;obtain⟨bx,s1⟩:=p;have aL:=bV;obtain⟨u,_,_,eR⟩:=xK aL;have aP:bt 0 aF s1=σ q:=M;obtain⟨fk,fm⟩:=q;have eS:=dT aP;have:=eR.1;have:=eS.1;rw[c9];simp only[List.length_singleton];omega
def lv(s:aO):Prop:=s.big=sp->0<=s.m1/\s.m1<=16384
def lx(e:Bool)(ar:Nat)(scope d6:Λ)(f:Option aO):Option (cI×aO):=match bl 0 aF (f.map (br (decide (6<ar)||dO d6)))with
 |none=>ν
 |some (other,h)=>match ei d6 h with
  |none=>ν
  |some (lines,a)=>σ (⟨scope,d6,other,lines⟩,if e=s2 then{a with m2:=a.m2++[(d6,lines)]}else a)
theorem E7{s s':aO}{l:List (Λ×Int)}(h:ei d6 s=σ (l,s')):s'.hp.length+1<=s.hp.length/\s'.m2=s.m2:=by
 unfold ei at h;cases e:bt (-aF) aF s with
 |none=>rw[e]at h;cases h
 |some q=>
  obtain⟨n,s1⟩:=q;have j:=dT e;have z:=j.1;have r:=j.eqs.2.2;rw[e]at h;simp only at h;split at h
  .split at h
   .cases h
   .split at h
    .cases h;exact⟨Ω,r⟩
    .cases h
  .have be:=h;have:=mN (λ_ t=>t.hp.length<=s1.hp.length/\t.m2=s1.m2) (λacc t a bx w y=>by
    obtain⟨_,_,_,x⟩:=qV y;have h1:=x.1;have f:=x.eqs.2.2;exact⟨by have:=w.1;omega,f.F w.2⟩) n.toNat [] (br (decide (16384<min (s1.m1+n) aF)) {s1 with m1:=min (s1.m1+n) aF}) l s' ⟨o6 _,rfl⟩ be
   obtain⟨⟨h1,f⟩,_⟩:=this;exact⟨Ω,f.F r⟩
theorem vt{g:Nat}{H:ak}{s:aO}(h:bZ w g B H N (σ s)):s.hp.length<=100000/\s.m2.length+s.hp.length<=100000:=by
 obtain⟨j,w0,q,r,gs,sv,L,X,x,y,bad,z,big,A,m1,h1,C,E,F,e,G,I,J,K,M,O,a,P,f,Q⟩:=h;have R:=e.2.2.1;refine⟨by rw[<-a,r9];omega,by rw[<-a,<-f,r9,r9];omega⟩
def E8(w:x5)(g h B:Nat)(H:ak)(e:Option (cI×aO))(v:x4)(I:x5):Prop:=∃f x a,ai (λr=>r=g\/H r\/r=h\/B<=r) w I/\v= .agg (fX f).toArray/\iE I f x/\bZ I g I.heap.size a 100001 (e.map (·.2))/\(∀q,e=σ q->x=q.1)/\(∀r,H r->a r)/\(∀r,a r->H r\/B<=r)/\∀r,a r->r<I.heap.size
theorem E9{g E ar:Nat}{H:ak}{R:Option aO}{bd:Bool}{dz:Int}{scope:Λ}{Q:x4->x5->Prop}(h:bZ w g B H 100000 R)(dA:iP w B E ⟨scope,d6,0,[]⟩)(fk:∀c,aj w E bj c->c[3]?=σ (.slice ν 0 0))(dC:∀z∈d6,1<=z/\z<=aF)(fm:d6.length<=100001)(dD:aj w N bj [.slice ν 0 0,.slice ν 0 0,Δ 0,.slice ν 0 0])(jz:N<B)(cH:¬H N)(cJ:∀r,H r->r<B)(fo:∀ap,R=σ ap->lv ap)(fp:∀v I,E8 w g N B H (lx bd ar scope d6 R) v I->Q v I):
  ad x8 (u6 bj (Γ E) 1) w λfq=>
  ad x8 (u5 aB fq) w λdE=>
  ad x8 (X8 #[aB] al #[dE]) w λfs=>
  ce (Δ 1) (Δ 0) w λdF cZ az ft=>
   ad x8 (aT .lss al sp sp cZ fs) az λfv=>
   Split fv (cG (α:=x4->x5->Prop) (λ(fw:x4)(dG:x5)=>
    ad x8 (aT .add al sp s2 cZ (Δ 1)) dG λfx=>
    ft fw fx dG) λdH=>
   ad x8 (n9 aB dE cZ) az λfy=>
   ad x8 (u5 ay fy) az λdI=>
   cG (α:=x4->x5->Prop) (λ(fz:x4)(cK:x5)=>
    ad x8 (aT .mul ay sp sp dF fz) cK λdJ=>
    ad x8 (aT .gtr ay sp s2 dJ (Δ 4096)) cK λfA=>
    Split fA (dH (Δ 4097) cK)
     (dH dJ cK)) λdK=>
   ad x8 (aT .gtr ay sp s2 dI (Δ 4096)) az λfB=>
   Split fB (dK (Δ 4097) az)
    (dK dI az))
    (cG (α:=x5->Prop) (λ(bV:x5)=>
   aq x8 nE [(Γ g),(Δ 0),(Δ 4611686018427387904)] bV λdL bC=>
   ad x8 (Z7 dL 0) bC λfD=>
   ad x8 (Z7 dL 1) bC λjA=>
   ad x8 (u6 bj (Γ E) 2) bC λfE=>
   aM x8 (o7 ay fE fD) bC λ(_:Unit)be=>
   aq x8 nE [(Γ g),(Δ (-4611686018427387904)),(Δ 4611686018427387904)] be λdM O=>
   ad x8 (Z7 dM 0) O λbD=>
   ad x8 (Z7 dM 1) O λdP=>
   ad x8 (b1 (Γ g)) O λfF=>
   ad x8 (u6 bR fF 3) O λfG=>
   ad x8 (u5 al fG) O λfH=>
   ad x8 (aT .neq al sp s2 fH (Δ 0)) O λfJ=>
   Split fJ (ad x8 (u5 bj (Γ E)) O λbW=>
    aM x8 (o7 bj (Γ N) bW) O λ(_:Unit)bf=>
    ad x8 (do loadVar bj (<-asAddr (Γ N))) bf λbX=>
 Q bX bf)
    (cG (α:=x5->Prop) (λ(aQ:x5)=>
    b7 (Δ 0) aQ λdQ bn fK=>
     cG (α:=x4->x5->Prop) (λ(fL:x4)(bY:x5)=>
      Split fL (aM x8 (R3 cw s2 (.tuple #[])) bY λx cL=>
     ad x8 (u6 bj (Γ E) 1) cL λfM=>
     ad x8 (u5 aB fM) cL λdR=>
     ad x8 (X8 #[aB] al #[dR]) cL λfN=>
     b7 (Δ 0) cL λc0 bE fO=>
      ad x8 (aT .lss al sp sp c0 fN) bE λfP=>
      Split fP (ad x8 (n9 aB dR c0) bE λfQ=>
      ad x8 (u5 ay fQ) bE λfR=>
      ad x8 (aT .sub ay sp s2 fR (Δ 1)) bE λfS=>
      aq x8 nE [(Γ g),(Δ 0),fS] bE λdS b0=>
      ad x8 (Z7 dS 0) b0 λfU=>
      ad x8 (Z7 dS 1) b0 λjC=>
      ad x8 (u6 cw x 0) b0 λfV=>
      ad x8 (u5 aB fV) b0 λfW=>
      aM x8 (Y4 aB 1 #[(0,fU)]) b0 λfY fZ=>
      aM x8 (b9 #[aB,aB] aB #[fW,fY]) fZ λgb dU=>
      ad x8 (u6 cw x 0) dU λgc=>
      aM x8 (o7 aB gc gb) dU λ(_:Unit)dV=>
      ad x8 (aT .add al sp s2 c0 (Δ 1)) dV λgd=>
      fO gd dV)
       (aq x8 nE [(Γ g),(Δ 0),(Δ 4611686018427387904)] bE λdW bF=>
     ad x8 (Z7 dW 0) bF λgf=>
     ad x8 (Z7 dW 1) bF λgg=>
     ad x8 (u6 bj (Γ E) 3) bF λgh=>
     ad x8 (u5 eB gh) bF λdX=>
     ad x8 (X8 #[eB] al #[dX]) bF λgi=>
     b7 (Δ 0) bF λc1 bG gj=>
      ad x8 (aT .lss al sp sp c1 gi) bG λgk=>
      Split gk (cG (α:=x5->Prop) (λ(ea:x5)=>
       ad x8 (aT .add al sp s2 c1 (Δ 1)) ea λgl=>
       gj gl ea) λeb=>
      ad x8 (n9 eB dX c1) bG λgm=>
      ad x8 (u5 cw gm) bG λgn=>
      aM x8 (R3 cw s2 (.tuple #[])) bG λy gq=>
      aM x8 (o7 cw y gn) gq λ(_:Unit)aC=>
      cG (α:=x4->x5->Prop) (λ(gu:x4)(ec:x5)=>
       Split gu (aq x8 pn [(Γ g),(Δ 4),gg] ec λjD gv=>
        eb gv)
        (eb ec)) λed=>
      ad x8 (b1 (Γ g)) aC λgw=>
      ad x8 (u6 bR gw 3) aC λgx=>
      ad x8 (u5 al gx) aC λgA=>
      ad x8 (aT .eql al sp s2 gA (Δ 0)) aC λgB=>
      Split gB (ad x8 (u6 cw x 0) aC λgC=>
       ad x8 (u5 aB gC) aC λgD=>
      ad x8 (u6 cw y 0) aC λgE=>
      ad x8 (u5 aB gE) aC λgF=>
      aq x8 tY [gD,gF] aC λgH gI=>
      ed gH gI)
       (ed (.bool sp) aC))
       (ad x8 (u6 cw x 1) bG λgJ=>
     aM x8 (o7 ay gJ gf) bG λ(_:Unit)cM=>
     ad x8 (u6 bj (Γ E) 3) cM λgK=>
     ad x8 (u5 eB gK) cM λgL=>
     ad x8 (u5 cw x) cM λgM=>
     aM x8 (Y4 eB 1 #[(0,gM)]) cM λgN gO=>
     aM x8 (b9 #[eB,eB] eB #[gL,gN]) gO λgP ee=>
     ad x8 (u6 bj (Γ E) 3) ee λgQ=>
     aM x8 (o7 eB gQ gP) ee λ(_:Unit)ef=>
     ad x8 (aT .add ay sp s2 dQ (Δ 1)) ef λgR=>
     fK gR ef)))
       (cG (α:=x5->Prop) (λ(ag:x5)=>
     ad x8 (u5 bj (Γ E)) ag λgS=>
     aM x8 (o7 bj (Γ N) gS) ag λ(_:Unit)eg=>
     ad x8 (do loadVar bj (<-asAddr (Γ N))) eg λgT=>
 Q gT eg) λeh=>
    Split (.bool bd) (ey bY λau=>
     ad x8 (b1 (Γ g)) au λc2=>
     ad x8 (u6 bR c2 8) au λc3=>
     ad x8 (u5 dN c3) au λej=>
     ad x8 (u5 bj (Γ E)) au λgU=>
     aM x8 (Y4 dN 1 #[(0,gU)]) au λgV aS=>
     (Ext au aS\/ch x8 (u5 dN c3) ej aS/\ch x8 (u6 bR c2 8) c3 aS/\ch x8 (b1 (Γ g)) c2 aS/\True)/\
     aM x8 (b9 #[dN,dN] dN #[ej,gV]) aS λgW cN=>
      ad x8 (b1 (Γ g)) cN λgX=>
      ad x8 (u6 bR gX 8) cN λgY=>
      aM x8 (o7 dN gY gW) cN λ(_:Unit)bo=>
      eh bo)
     (eh bY))) λem=>
     ad x8 (aT .lss ay sp sp dQ bD) bn λgZ=>
     Split gZ (ad x8 (b1 (Γ g)) bn λg0=>
     ad x8 (u6 bR g0 3) bn λg2=>
     ad x8 (u5 al g2) bn λg3=>
     ad x8 (aT .eql al sp s2 g3 (Δ 0)) bn λg4=>
     em g4 bn)
      (em (.bool sp) bn)) λen=>
   ad x8 (aT .lss ay sp s2 bD (Δ 0)) O λg5=>
   Split g5 (cG (α:=x4->x5->Prop) (λ(g6:x4)(Z:x5)=>
     Split g6 (aq x8 pn [(Γ g),(Δ 4),dP] Z λjF c4=>
     ad x8 (u5 bj (Γ E)) c4 λg7=>
     aM x8 (o7 bj (Γ N) g7) c4 λ(_:Unit)eo=>
     ad x8 (do loadVar bj (<-asAddr (Γ N))) eo λg8=>
 Q g8 eo)
     (ad x8 (b1 (Γ g)) Z λg9=>
    ad x8 (u6 bR g9 8) Z λha=>
    ad x8 (u5 dN ha) Z λhb=>
    ad x8 (Op.unary .neg bD) Z λhc=>
    ad x8 (aT .sub ay sp s2 hc (Δ 1)) Z λhd=>
    ad x8 (n9 dN hb hd) Z λhg=>
    ad x8 (u6 bj hg 3) Z λhh=>
    ad x8 (u5 eB hh) Z λhj=>
    ad x8 (u6 bj (Γ E) 3) Z λhl=>
    aM x8 (o7 eB hl hj) Z λ(_:Unit)ep=>
    en ep)) λer=>
    ey O λP=>
    ad x8 (Op.unary .neg bD) P λhn=>
    ad x8 (b1 (Γ g)) P λhq=>
    ad x8 (u6 bR hq 8) P λhr=>
    ad x8 (u5 dN hr) P λhs=>
    ad x8 (X8 #[dN] al #[hs]) P λht=>
    ad x8 (aT .gtr ay sp sp hn ht) P λhy=>
    Split hy (er (.bool s2) P)
    (ad x8 (b1 (Γ g)) P λhz=>
    ad x8 (u6 bR hz 8) P λhA=>
    ad x8 (u5 dN hA) P λhB=>
    ad x8 (Op.unary .neg bD) P λhC=>
    ad x8 (aT .sub ay sp s2 hC (Δ 1)) P λhD=>
    ad x8 (n9 dN hB hD) P λhE=>
    ad x8 (u6 bj hE 1) P λhF=>
    ad x8 (u5 aB hF) P λhG=>
    ad x8 (u6 bj (Γ E) 1) P λhH=>
    ad x8 (u5 aB hH) P λhI=>
    aq x8 tY [hG,hI] P λhJ c5=>
    ad x8 (Op.unary .not hJ) c5 λhK=>
    er hK c5))
    (ad x8 (b1 (Γ g)) O λhL=>
    ad x8 (u6 bR hL 7) O λhM=>
    ad x8 (u5 ay hM) O λhN=>
    ad x8 (aT .add ay sp sp hN bD) O λhO=>
    ad x8 (b1 (Γ g)) O λhP=>
    ad x8 (u6 bR hP 7) O λhQ=>
    aM x8 (o7 ay hQ hO) O λ(_:Unit)aD=>
    cG (α:=x5->Prop) (λ(aE:x5)=>
     ad x8 (b1 (Γ g)) aE λhR=>
     ad x8 (u6 bR hR 7) aE λhS=>
     ad x8 (u5 ay hS) aE λhT=>
     ad x8 (aT .gtr ay sp s2 hT (Δ 16384)) aE λhU=>
     aq x8 tX [(Γ g),hU,dP] aE λjG c6=>
     en c6) λes=>
    ad x8 (b1 (Γ g)) aD λhV=>
    ad x8 (u6 bR hV 7) aD λhW=>
    ad x8 (u5 ay hW) aD λhX=>
    ad x8 (aT .gtr ay sp s2 hX (Δ 4611686018427387904)) aD λhY=>
    Split hY (ad x8 (b1 (Γ g)) aD λhZ=>
    ad x8 (u6 bR hZ 7) aD λh0=>
    aM x8 (o7 ay h0 (Δ 4611686018427387904)) aD λ(_:Unit)et=>
    es et)
    (es aD)))) λeu=>
  ad x8 (aT .gtr ay sp s2 (Δ (ar:Int)) (Δ 6)) az λh2=>
  Split h2 (aq x8 tX [(Γ g),(.bool s2),(Δ dz)] az λjH h3=>
  eu h3)
   (ad x8 (aT .gtr ay sp s2 dF (Δ 4096)) az λh4=>
  aq x8 tX [(Γ g),h4,(Δ dz)] az λjI h5=>
  eu h5)):=by
 have h6:=h.lt;have ev:N≠g:=λhe=>by
  obtain⟨av,ac,ae,bad,aw,big,ax,m1,sv,C,_⟩:=jE h;subst he;exact m6 (fI C dD) Φ
 obtain⟨aZ,hv,cz,g1,cO,cQ,f1,f2,f3,f4,f5,f6,f7⟩:=id dA;have b2:E≠g:=Ω
 have ret:∀{G:x5}{x:cI}{S:ak},iP G B E x->aj G N bj [.slice ν 0 0,.slice ν 0 0,Δ 0,.slice ν 0 0]->ai (λr=>r=g\/H r\/B<=r) w G->bZ G g G.heap.size S 100001 ((lx bd ar scope d6 R).map (·.2))->(∀q,lx bd ar scope d6 R=σ q->x=q.1)->¬S N->(∀r,H r->S r)->(∀r,S r->H r\/B<=r)->(∀r,S r->r<G.heap.size)->
   (ad x8 (u5 bj (Γ E)) G λbW=>
    aM x8 (o7 bj (Γ N) bW) G λ(_:Unit)bf=>
    ad x8 (do loadVar bj (<-asAddr (Γ N))) bf λbX=>Q bX bf):=by
  intro G x S c7 c8 h7 h8 J h9 da ia ib;obtain⟨aZ,hv,cz,g1,cO,cQ,db,dd,de,df,dg,ew,ez⟩:=c7;let af:kA:=⟨aZ,hv,x.other,cz⟩;have b4:iE G af x:=⟨⟨g1,dd⟩,⟨cO,de⟩,rfl,cQ,df⟩;rw[bH bj.p bj.i rfl (show G.rangeAt E 0 (fX af)from db.range)];refine b3 (vs:=fX af) bj.i rfl rfl b4.one c8 λjJ di ic ie=>?_;rw[fu bj.p bj.i rfl ie.range];have ig:∀r,r=N->iO G r\/G.heap.size<=r:=λr j=>by subst j;exact .inl ⟨_,_,c8,Φ,Φ⟩
  refine fp _ _ ⟨af,x,S,(h7.Y λr _ h=>?_).F (di.Y λr _ h=>.inr (.inr (.inl h))),rfl,b4.dZ di ig,h8.dZ di λr j=>.inl ?_,J,da,ia,λr j=>by rw[ic];exact ib r j⟩
  .exact h.elim .inl λh=>h.elim (λh=>.inr (.inl h)) λh=>.inr (.inr (.inr h))
  .have j:r=N:=j;subst j;exact⟨_,_,c8,Φ,Φ,Φ,Φ,h9⟩
 have dj:∀{G:x5},ai (iQ g B) w G->aj G N bj [.slice ν 0 0,.slice ν 0 0,Δ 0,.slice ν 0 0]:=λaU=>dD.ab aU λV=>V.elim ev λh=>Ω
 have dk:∀{G:x5},ai (iQ g B) w G->ai (λr=>r=g\/H r\/B<=r) w G:=λaU=>aU.Y λr _ h=>h.elim .inl λh=>.inr (.inr h);have eA:∀{G:x5}{eC:Nat}{S:ak}{so:Option aO},bZ G g eC S 100000 so->bZ G g eC S 100001 so:=λj=>by
  obtain⟨b5,w0,av,bg,gs,sv,L,X,ac,ae,bad,aw,big,ax,m1,h1,ih,ii,ij,ik,dl,dm⟩:=j;refine⟨Ω,w0,av,bg,gs,sv,L,X,ac,ae,bad,aw,big,ax,m1,h1,ih,ii,ij,ik,dl,?_⟩;rename_i so;cases so with
  |none=>exact⟨dm.1,by have:=dm.2;omega⟩
  |some s=>exact dm
 have eD:∀{G:x5}{x:cI},iP G B E x->ai (iQ g B) w G->bZ G g B H 100000 ν->lx bd ar scope d6 R=ν->(ad x8 (u5 bj (Γ E)) G λbW=>
    aM x8 (o7 bj (Γ N) bW) G λ(_:Unit)bf=>
    ad x8 (do loadVar bj (<-asAddr (Γ N))) bf λbX=>Q bX bf):=λc7 aU j eE=>
  ret c7 (dj aU) (dk aU) (by rw[eE];exact eA j.base) (λq W=>by rw[eE]at W;cases W) cH (λ_ h=>h) (λ_ h=>.inl h) λr j=>by have:=cJ r j;have:=aU.size;omega
 rw[aN bj.p 1 f1 rfl,a8 aB.u f3.ls];refine Q6 f3.ls (λz il=>(dC z il).1) λc aU=>?_;refine dh (λbV=>ai (λr=>r=g) w bV/\bZ bV g B H 100000 (R.map (br (decide (6<ar)||dO d6)))) ?_ ?_
 rotate_left
 .intro aA aV;rw[bU,ao];refine⟨λdl=>?_,λdl=>?_⟩
  .refine (oP h).Y ?_;rintro _ U _ aX;refine aV _ ⟨aX.1,?_⟩;rw[ms (show 6<ar by omega),Bool.true_or];exact aX.2
  .rw[bU];refine(oP h).Y ?_;rintro _ U _ aX;refine aV _ ⟨aX.1,?_⟩;have e:dO d6=decide (4096<c):=by rw[V9,ro];exact aU.symm
   rw[rc (show¬6<ar by omega),Bool.false_or,e];exact aX.2
 rintro bV ⟨im,io⟩;refine(l8 io).Y ?_;rintro _ bC _ ⟨⟨ip,iq⟩,o,jK,rfl,ir,jL⟩;rw[bz,bA];have bI:ai (λr=>r=g) w bC:=im.F ip;have jM:=dA.dZ bI (ma h);have f123:=f1.ab bI λhe=>b2 he;rw[a1 bj.p rfl];refine bw (g:=E) (o:=2) ay.i rfl rfl f123 Ξ λbe b6 jN bJ=>?_;have bJ:aj be E bj [aZ,hv,Δ o,cz]:=bJ;have dn:∀r,r=g->iO w r\/w.heap.size<=r:=λr j=>(ma h r j).imp (λ⟨e,c,C,aY,a2,_⟩=>⟨e,c,C,aY,a2⟩) id;have bK:∀{G:x5}{c:List x4},aj G E bj c->∀r,r=E->iO G r\/G.heap.size<=r:=λC r j=>by subst j;exact .inl ⟨_,_,C,Φ,Φ⟩
 have f224:=e0 (e0 f2 bI dn) b6 (bK f123);have f324:=e0 (e0 f3 bI dn) b6 (bK f123);have eF:=(f4.dZ bI dn).dZ b6 (bK f123);have bL:=iq.new b6 λr j=>by have j:r=E:=j;omega
 have eH:ai (iQ g B) w be:=(bI.Y λr _ h=>.inl h).F (b6.Y λr _ h=>.inr (by have h:r=E:=h;omega));refine(l8 bL).Y ?_;rintro _ O _ ⟨⟨bh,a7⟩,n,jO,rfl,it,eI⟩;rw[bz,bA,sV a7];have eK:ai (iQ g B) w O:=eH.F (bh.Y λr _ h=>.inl h);have iu:iP be B E ⟨scope,d6,o,[]⟩:=⟨aZ,hv,cz,g1,cO,cQ,bJ,f224,f324,eF,f5,f6,f7⟩;have eL:=iu.dZ bh (ma bL);cases ba:bl (-4611686018427387904) 4611686018427387904 (V8 (λx=>x.snd) (bl 0 4611686018427387904 (R.map (br (decide (6<ar)||dO d6)))))with
 |none=>
  rw[ba]at a7;rw[Option.map_none,S3,X6,bS];refine eD eL eK a7 ?_;unfold lx;cases Y:bl 0 aF (R.map (br (decide (6<ar)||dO d6)))with
  |none=>rfl
  |some p=>
   obtain⟨o',M⟩:=p;have iv:bl 0 4611686018427387904 (R.map (br (decide (6<ar)||dO d6)))=σ (o',M):=Y;rw[iv]at ba;have e:bt (-aF) aF M=ν:=ba;simp only;unfold ei;rw[e]
 |some q=>
 obtain⟨jP,K⟩:=q;have iw:=it _ ba;subst iw;rw[ba]at a7;have a7:bZ O g B H 100000 (σ K):=a7;rw[Y7,T7,Y5,bc];obtain⟨M,Y,dp⟩:∃M,bl 0 aF (R.map (br (decide (6<ar)||dO d6)))=σ (o,M)/\bt (-aF) aF M=σ (n,K):=by
  cases Y:bl 0 4611686018427387904 (R.map (br (decide (6<ar)||dO d6)))with
  |none=>rw[Y]at ba;cases ba
  |some p=>
   obtain⟨o',M⟩:=p;have:=ir _ Y;subst this;rw[Y]at ba;exact⟨M,Y,ba⟩
 have b8:lx bd ar scope d6 R=match ei d6 M with
   |none=>ν
   |some (lines,K)=>σ (⟨scope,d6,o,lines⟩,if bd=s2 then{K with m2:=K.m2++[(d6,lines)]}else K):=by
  unfold lx;rw[Y]
 have ix:=(jx dp).1;have iy: -4611686018427387904<=n/\n<=4611686018427387904:=ix;have eM:ei d6 M=(if n<0 then match K.m2[(-n-1).toNat]? with
   |none=>ν
   |some (z,l)=>if z=d6 then σ (l,K)else ν
  else dc (eX d6) n.toNat [] (br (decide (16384<min (K.m1+n) aF)) {K with m1:=min (K.m1+n) aF})):=by
  unfold ei;rw[dp];rfl
 have iz:lv K:=by
  cases bM:R with
  |none=>rw[bM]at Y;cases Y
  |some ap=>
   rw[bM]at Y;have dq:bt 0 aF (br (decide (6<ar)||dO d6) ap)=σ (o,M):=Y;have cR:=(dT dq).eqs;have ca:=(dT dp).eqs;intro C;rw[ca.2.1,cR.2.1]at C;rw[ca.1,cR.1];exact fo ap bM (T3.1 C).1
 refine dh (λaQ=>ai (iQ g B) w aQ/\∃bp cb cS bi,aj aQ E bj [aZ,hv,Δ o,bp]/\aH .i64 ay aQ g1 aZ scope/\aH .i64 ay aQ cO hv d6/\l7 aQ cb bp cS/\bZ aQ g B H 100000 (σ bi)/\(0<n->cS=[]/\∀r,¬hx bp r)/\ei d6 M=(if n<=0 then σ (cS,bi)else dc (eX d6) n.toNat [] bi)) ?_ ?_
 .rintro aQ ⟨iA,bp,cb,cS,bi,db,dd,de,df,dg,ew,ez⟩;refine Q9 dg db dd de df f5 f6 f7 dC fm iy.2 ew (vt dg).1 λbY A ds iB eN eO iC cd=>?_;have bO:=iA.F iB;have bq:ds=(ei d6 M).map (·.2)/\∀q,ei d6 M=σ q->A=q.1:=by
   rw[ez];by_cases dt:n<=0
   .obtain⟨ac,ae⟩:=iC dt;rw[m3 dt];exact⟨ae,λq W=>by cases W;exact ac⟩
   .rw[m5 dt];exact cd Ω
  obtain⟨bq,aX⟩:=bq;cases bd with
  |false=>
   refine dh (λag=>bY=ag) ?_ ?_
   .rintro _ rfl;refine ret eN (dj bO) (dk bO) ?_ ?_ cH (λ_ h=>h) (λ_ h=>.inl h) λr j=>by have:=cJ r j;have:=bO.size;omega
    .have:(lx sp ar scope d6 R).map (·.2)=ds:=by
      rw[b8,bq];cases ei d6 M with
      |none=>rfl
      |some p=>rfl
     rw[this];exact eA eO.base
    .intro q W;rw[b8]at W;cases ah:ei d6 M with
     |none=>rw[ah]at W;cases W
     |some p=>
      rw[ah]at W;have:=aX p ah;cases W;rw[this]
   .intro aA aV;rw[bc];exact aV _ rfl
  |true=>
   refine dh (λag=>∃S,ai (λr=>r=g\/H r\/B<=r) w ag/\iP ag B E ⟨scope,d6,o,A⟩/\aj ag N bj [.slice ν 0 0,.slice ν 0 0,Δ 0,.slice ν 0 0]/\bZ ag g ag.heap.size S 100001 ((lx s2 ar scope d6 R).map (·.2))/\¬S N/\(∀r,H r->S r)/\(∀r,S r->H r\/B<=r)/\∀r,S r->r<ag.heap.size) ?_ ?_
   .rintro ag ⟨S,iD,iF,a3,a4,a5,iG,iH,iI⟩;refine ret iF a3 iD a4 ?_ a5 iG iH iI;intro q W;rw[b8]at W;cases ah:ei d6 M with
    |none=>rw[ah]at W;cases W
    |some p=>
     rw[ah]at W;have:=aX p ah;cases W;rw[this]
   .intro aA aV;rw[bS];intro au cf _ _;have iJ:=eO.W cf;have iK:=eN.W cf;have iL:=(dj bO).W cf;obtain⟨b5,w0,av,bg,gs,sv,L,X,ac,ae,bad,aw,big,ax,m1,cT,bs,bu,am,bx,bk,bB⟩:=id iJ;have iM:=bx.g bs bu;obtain⟨⟨iN,eP⟩,aJ,cg,ci⟩:=id iM;have iR:∀r,hx sv r->r<B:=λr j=>cJ r (bk r j);rw[aP bR.p 8 am rfl];obtain⟨eQ,eR,bp,eS,eU,cb,eV,eW,eY,eZ,iS,iT,iU⟩:=id iK;let af:kA:=⟨eQ,eR,o,bp⟩;let x:cI:=⟨scope,d6,o,A⟩;have b4:iE au af x:=⟨⟨eS,eW⟩,⟨eU,eY⟩,rfl,cb,eZ⟩;rw[bH bj.p bj.i rfl (show au.rangeAt E 0 (fX af)from eV.range)];refine jc (f:=fX) (a:=af) dN.u bj.i Ω rfl rfl λjQ jR aS jS aa iV=>?_;refine⟨.inl aa,?_⟩;have jT:L.length<=100000:=by
     cases ds with
     |none=>exact bB.2
     |some s=>have:=bB.2.2.2.2.2.2.2.2;omega
    have du:=aJ.W aa;refine jB (f:=fX) (a:=af) dN.u bj.i rfl du (by simpa using iV.sl) (b4.W aa).one Ω Ω λe1 iW cN cj iX e2=>?_;have dv:=am.W aa;have e3:=dv.ab e2 λhe=>cP du dv Φ he;rw[cc,a1 bR.p rfl];refine bw (g:=g) (o:=8) dN.i (eJ cj.sl).1 (eJ cj.sl).2 e3 (by simp[jk]) λbo dw jU cU=>?_;have cU:aj bo g bR (jk av ac ae bad aw big ax m1 e1):=cU;have aK:ai (λr=>hx sv r\/r=g) aS bo:=(e2.Y λr _ h=>.inl h).F (dw.Y λr _ h=>.inr h);have cV:∀r,(hx sv r\/r=g)->iO aS r\/aS.heap.size<=r:=λr j=>by
     rcases j with j|rfl
     .obtain⟨rfl,c,C⟩:=dY du j;exact .inl ⟨_,c,C,Φ,Φ⟩
     .exact .inl ⟨_,_,dv,Φ,Φ⟩
    have e4:∀{af x},iE au af x->iE bo af x:=λhe=>(he.W aa).dZ aK cV;have z50:=cf.size;have jV:=aa.size;have z53:=aK.size;have jW:=bO.size;have jX:=h6.2;refine aV _ ⟨λr=>H r\/(au.heap.size<=r/\r<bo.heap.size),?_,?_,?_,?_,?_,λr j=>.inl j,λr j=>j.imp id λj=>Ω,λr j=>?_⟩
    .refine (((dk bO).F (cf.ab _)).F (aa.ab _)).F (aK.Y λr _ j=>?_);exact j.elim (λj=>.inr (.inl (bk r j))) .inl
    .have iY:=eV.W aa;refine⟨eQ,eR,bp,eS,eU,cb,iY.ab aK λj=>?_,e0 (eW.W aa) aK cV,e0 (eY.W aa) aK cV,(eZ.dZ (aa.ab λ_=>False) λ_ h=>h.elim).dZ aK cV,iS,iT,iU⟩;rcases j with j|j
     .have:=iR _ j;omega
     .exact b2 j
    .exact (iL.W aa).ab aK λj=>j.elim (λj=>cH (bk _ j)) ev
    .refine⟨Ω,bo,av,bg,iW,e1,L++[af],X++[x],ac,ae,bad,aw,big,ax,m1,rfl,ai.refl _ _,⟨_,cU⟩,cU,⟨⟨?_,λr j=>?_⟩,cj.ab dw λr j he=>?_,by rw[c9,c9,cg];rfl,λi iZ i0 hi ck=>?_⟩,λr j=>?_,?_⟩
     .refine (iN.ab (aa.ab λ_=>False) λ_ _ h=>h).ab aK λr j V=>?_;obtain⟨c,C⟩:=eP r j;rcases V with V|rfl
      .obtain⟨rfl,i1,dx⟩:=dY aJ V;exact m6 (fI C dx) Φ
      .exact m6 (fI C am) Φ
     .obtain⟨c,C⟩:=eP r j;refine⟨c,(C.W aa).ab aK λV=>?_⟩;rcases V with V|rfl
      .obtain⟨rfl,i1,dx⟩:=dY aJ V;exact m6 (fI C dx) Φ
      .exact m6 (fI C am) Φ
     .have he:r=g:=he;subst he;exact cP cj e3 Φ j
     .by_cases i2:i<L.length
      .rw[V6 i2]at hi;rw[V6 Ω]at ck;exact e4 (ci i iZ i0 hi ck)
      .rw[X2 Ω]at hi;rw[X2 Ω]at ck;have i3:i-L.length=0:=by have:=(x6.1 hi).1;simp at this;omega
       have da:i-X.length=0:=Ω
       rw[i3]at hi;rw[da]at ck;cases hi;cases ck;exact e4 b4
     .rcases iX r j with h|h
      .exact .inl (bk r h)
      .have:=(cj.lc j);have:=dw.size;exact .inr ⟨Ω,Ω⟩
     .rw[b8];cases ah:ei d6 M with
      |none=>
       rw[ah]at bq;rw[bq]at bB;exact⟨bB.1,by rw[c9];simp;have:=bB.2;omega⟩
      |some p=>
       obtain⟨lines,bi⟩:=p;rw[ah]at bq;rw[bq]at bB;have i4:=aX _ ah;obtain⟨cl,cm,cn,cp,cq,bP,cr,aL,cW⟩:=id bB;have e5:=E7 ah;refine⟨cl,cm,cn,cp,cq,bP,cr,?_,?_⟩
       .show (X++[x]).map _=bi.m2++[(d6,lines)];rw[Z2,aL];simp only[x,List.map_cons,List.map_nil];rw[i4]
       .have jY:M.m2.length+M.hp.length<=100000:=by
         cases bM:R with
         |none=>rw[bM]at Y;cases Y
         |some ap=>
          rw[bM]at Y h;have dq:bt 0 aF (br (decide (6<ar)||dO d6) ap)=σ (o,M):=Y;have t9:=dT dq;have cR:=t9.1;have ca:=t9.eqs.2.2;have t3:=(vt h).2;have e6:(br (decide (6<ar)||dO d6) ap).hp=ap.hp:=rfl;have e7:(br (decide (6<ar)||dO d6) ap).m2=ap.m2:=rfl;rw[e6]at cR;rw[e7]at ca;rw[ca];omega
        have e8:L.length=bi.m2.length:=by rw[<-aL,r9,cg]
        have i5:bg.length=bi.hp.length:=by rw[<-bP,r9]
        rw[e5.2]at e8;rw[c9,e8,i5];simp only[List.length_singleton];have:=e5.1;omega
    .rintro (j|j)
     .exact cH j
     .omega
    .rcases j with j|j
     .have:=cJ r j;omega
     .exact j.2
 .intro aA aV;rw[aW,ao];refine⟨λi6=>?_,λi7=>?_⟩
  .
   refine a6 (λv Z=>Ext O Z/\∃b:Bool,v= .bool b/\(b=s2->ei d6 M=ν)/\(b=sp->∃lines,ei d6 M=σ (lines,K)/\K.m2[(-n-1).toNat]?=σ (d6,lines))) ?_ ?_
   .rintro _ Z ⟨bQ,b,rfl,i8,i9⟩;have cX:=a7.W bQ;have ja:=eL.W bQ;have e9:=eK.F (bQ.ab _);cases b with
    |true=>
     rw[bS];refine(p2 cX Ω).Y ?_;rintro _ c4 _ ⟨fa,jb⟩;exact eD (ja.dZ fa (ma cX)) (e9.F (fa.Y λr _ h=>.inl h)) jb (by rw[b8,i8 rfl])
    |false=>
     rw[bc];obtain⟨lines,jd,bT⟩:=i9 rfl;obtain⟨b5,w0,av,bg,gs,sv,L,X,ac,ae,bad,aw,big,ax,m1,cT,bs,bu,am,bx,bk,cl,cm,cn,cp,cq,bP,cr,aL,cW⟩:=id cX;obtain⟨_,aJ,cg,ci⟩:=bx.g bs bu;have ct:(-n-1).toNat<L.length:=by
      have h1:=(x6.1 bT).1;rw[<-aL,r9]at h1;omega
     obtain⟨hk,cA⟩:∃h,L[(-n-1).toNat]?=σ h:=⟨_,v8 ct⟩;obtain⟨bb,cB⟩:=aI (l:=X) (i:=(-n-1).toNat) Ω;obtain⟨_,_,_,je,an⟩:=ci _ hk bb cA cB;have jf:bb.lines=lines:=by
      rw[<-aL,u4,cB]at bT;have:=Z5 bT;exact(Prod.mk.inj this).2
     rw[aP bR.p 8 am rfl,nJ,lm Ω Ω,dr,lm Ω Ω,cu (i:=(-n-1).toNat) Ω dN.u bj.i aJ ct,a1 bj.p rfl,aG Ψ (aJ.range cA 3 _ rfl)];obtain⟨jZ,fb,j1,j2⟩:=id an;have cY:aj Z E bj [aZ,hv,Δ o,cz]:=(bJ.ab bh λhe=>b2 he).W bQ;have jg:=(e0 f224 bh λr j=>(ma bL r j).imp (λ⟨e,c,C,aY,a2,_⟩=>⟨e,c,C,aY,a2⟩) id).W bQ;have jh:=(e0 f324 bh λr j=>(ma bL r j).imp (λ⟨e,c,C,aY,a2,_⟩=>⟨e,c,C,aY,a2⟩) id).W bQ;rw[a1 bj.p rfl];refine bw (g:=E) (o:=3) eB.i (eJ fb.sl).1 (eJ fb.sl).2 cY Ξ λep cC j3 ji=>?_;refine aV _ ⟨e9.F (cC.Y λr _ h=>.inr (by have h:r=E:=h;omega)),hk.cz,je,lines,K,ji,e0 jg cC (bK cY),e0 jh cC (bK cY),?_,cX.new cC λr j=>by have j:r=E:=j;omega,λh=>Ω,by rw[jd,m3 Ω]⟩;rw[<-jf];exact an.dZ cC (bK cY)
   .intro j4 fc;intro P cD _ _;have jj:=a7.W cD;obtain⟨b5,w0,av,bg,gs,sv,L,X,ac,ae,bad,aw,big,ax,m1,cT,bs,bu,am,bx,bk,cl,cm,cn,cp,cq,bP,cr,aL,cW⟩:=id jj;obtain⟨_,aJ,cg,ci⟩:=bx.g bs bu;have j5:K.m2.length=L.length:=by rw[<-aL,r9,cg]
    have an:=eM;rw[m3 i6]at an;rw[nJ,lm Ω Ω,aP bR.p 8 am rfl,ek dN.u aJ,bU,ao];refine⟨λcd=>fc _ _ ⟨cD,s2,rfl,λ_=>?_,λh=>by cases h⟩,λcd=>?_⟩
    .rw[an,W8 Ω]
    have ct:(-n-1).toNat<L.length:=Ω
    obtain⟨hk,cA⟩:∃h,L[(-n-1).toNat]?=σ h:=⟨_,v8 ct⟩;obtain⟨bb,cB⟩:=aI (l:=X) (i:=(-n-1).toNat) Ω;obtain⟨_,⟨gz,jl⟩,_,_⟩:=ci _ hk bb cA cB;have bT:K.m2[(-n-1).toNat]?=σ (bb.d6,bb.lines):=by rw[<-aL,u4,cB];rfl
    rw[bT]at an;simp only at an;rw[aP bR.p 8 am rfl,nJ,lm Ω Ω,dr,lm Ω Ω,cu (i:=(-n-1).toNat) Ω dN.u bj.i aJ ct,a1 bj.p rfl,aG Ψ (aJ.range cA 1 _ rfl)];have jm:aj P E bj [aZ,hv,Δ o,cz]:=(bJ.ab bh λhe=>b2 he).W cD;have jn:=(e0 f324 bh λr j=>(ma bL r j).imp (λ⟨e,c,C,aY,a2,_⟩=>⟨e,c,C,aY,a2⟩) id).W cD;rw[aN bj.p 1 jm rfl];refine(yI jl.ls jn.ls).Y ?_;rintro _ c5 _ ⟨rfl,jo⟩;rw[bN];refine fc _ _ ⟨cD.F jo,_,rfl,λC=>?_,λC=>?_⟩
    .have jp:bb.d6≠d6:=by simpa using C
     rw[an,m5 jp]
    .have fd:bb.d6=d6:=by simpa using C
     exact⟨bb.lines,by rw[an,m3 fd],by rw[bT,fd]⟩
  .
   have an:=eM;rw[m5 i7]at an;obtain⟨b5,w0,av,bg,gs,sv,L,X,ac,ae,bad,aw,big,ax,m1,cT,bs,bu,am,bx,bk,cl,cm,cn,cp,cq,bP,cr,aL,cW⟩:=id a7;rw[aP bR.p 7 am rfl,aR];generalize jq:X5.wrap (m1+n)=bm;have fe:K.big=sp->bm=K.m1+n/\0<=bm:=λC=>by
    obtain⟨e6,e7⟩:=iz C;have jr:=cp C;rw[<-jq,jr,lm Ω Ω];exact⟨rfl,Ω⟩
   rw[cc,a1 bR.p rfl];refine bw (g:=g) (o:=7) ay.i rfl rfl am (by simp[jk]) λaD ff j6 cE=>?_;have cE:aj aD g bR (jk av ac ae bad aw big ax bm sv):=cE;refine dh (λaE=>ai (λr=>r=g) O aE/\aj aE g bR (jk av ac ae bad aw big ax (min bm aF) sv)) ?_ ?_
   rotate_left
   .intro j7 fg;rw[aP bR.p 7 cE rfl,bU,ao];refine⟨λcd=>?_,λcd=>fg _ ⟨ff,?_⟩⟩
    .rw[cc,a1 bR.p rfl];refine bw (g:=g) (o:=7) ay.i rfl rfl cE (by simp[jk]) λet js j8 jt=>?_;refine fg _ ⟨ff.F js,?_⟩;have e:min bm aF=4611686018427387904:=by unfold aF;omega
     rw[e];exact jt
    .have e:min bm aF=bm:=by unfold aF;omega
     rw[e];exact cE
   rintro aE ⟨fh,fi⟩;have ju:bZ aE g B H 100000 (σ {K with m1:=min (K.m1+n) aF}):=⟨b5,w0,av,bg,gs,sv,L,X,ac,ae,bad,aw,big,ax,_,cT,bs.F fh,bu,fi,bx,bk,cl,cm,cn,λC=>by
    have C:K.big=sp:=C;rw[(fe C).1],cq,bP,cr,aL,cW⟩
   rw[aP bR.p 7 fi rfl,bU];refine(oP ju).Y ?_;rintro _ c6 _ ⟨jv,fj⟩;have jw:(σ {K with m1:=min (K.m1+n) aF}).map (br (decide (16384<min bm aF)))=σ (br (decide (16384<min (K.m1+n) aF)) {K with m1:=min (K.m1+n) aF}):=by
    show σ (br _ _)=_;congr 1;unfold br;cases C:K.big with
    |true=>simp
    |false=>rw[(fe C).1]
   rw[jw]at fj;have cF:ai (λr=>r=g) be c6:=(bh.F fh).F jv;have dy:∀r,r=g->iO be r\/be.heap.size<=r:=λr j=>(ma bL r j).imp (λ⟨e,c,C,aY,a2,_⟩=>⟨e,c,C,aY,a2⟩) id;have jy:cz= .slice ν 0 0:=by
    have:=fk _ f1;simpa using this
   refine aV _ ⟨eH.F (cF.Y λr _ h=>.inl h),cz,cQ,[],_,bJ.ab cF λhe=>b2 he,e0 f224 cF dy,e0 f324 cF dy,eF.dZ cF dy,fj,λ_=>⟨rfl,λr j=>by rw[jy]at j;exact gp j⟩,?_⟩;rw[an];by_cases eI:n<=0
   .have:n=0:=Ω
    subst this;rw[m3 (S5 _)];rfl
   .rw[m5 eI]
theorem Fa{s:aO}:dA all s=match bt (-aF) aF s with
  |none=>ν
  |some (a,s1)=>match fv all.length a.natAbs s1 with
   |none=>ν
   |some (scope,e)=>lx (decide (a<0)) a.natAbs scope (scope.map λv=>all.getD v.toNat 0) (σ e):=by
 unfold dA;cases bt (-aF) aF s with
 |none=>rfl
 |some q=>
  obtain⟨a,s1⟩:=q;simp only;cases fv all.length a.natAbs s1 with
  |none=>rfl
  |some p=>
   obtain⟨scope,e⟩:=p;simp only;unfold lx;show _=match bt 0 aF (br (decide (6<a.natAbs)||dO (scope.map λv=>all.getD v.toNat 0)) e)with
    |none=>ν
    |some (other,f)=>_
   cases bt 0 aF (br (decide (6<a.natAbs)||dO (scope.map λv=>all.getD v.toNat 0)) e)with
   |none=>rfl
   |some j=>
    obtain⟨o,f⟩:=j;simp only;cases ei (scope.map λv=>all.getD v.toNat 0) f with
    |none=>rfl
    |some r=>
     obtain⟨ls,w⟩:=r;by_cases h:a<0
     .simp[h]
     .simp[h]
def yK(w:x5)(g:Nat)(H:ak)(e:Option (cI×aO))(v:x4)(I:x5):Prop:=∃f x a,ai (λr=>r=g\/H r) w I/\v= .agg (fX f).toArray/\iE I f x/\bZ I g I.heap.size a 100001 (e.map (·.2))/\(∀q,e=σ q->x=q.1)/\(∀r,H r->a r)/\(∀r,a r->H r\/w.heap.size<=r)/\∀r,a r->r<I.heap.size
theorem Fb{k:Nat}{s s':aO}(h:fv n k s=σ (l,s')):s'.hp.length+l.length<=s.hp.length/\s'.m1=s.m1/\s'.big=s.big/\s'.m2=s.m2/\∀v∈l,0<=v/\v<n:=by
 have:=mN (f:=l0 n) (λ(acc:Λ)t=>t.hp.length+acc.length<=s.hp.length/\t.m1=s.m1/\t.big=s.big/\t.m2=s.m2/\∀v∈acc,0<=v/\v<n) (λacc t a bx j e=>by
  unfold l0 at e;cases w:bt 0 (n-1) t with
  |none=>rw[w]at e;cases e
  |some q=>
   obtain⟨v,C⟩:=q;rw[w]at e;simp only at e;split at e
   .cases e
   .cases e;have x:=dT w;have E:=(jx w).1;obtain⟨z,A,B⟩:=x.eqs;have t0:=x.1;refine⟨by have:=j.1;rw[c9];simp only[List.length_singleton];omega,z.F j.2.1,A.F j.2.2.1,B.F j.2.2.2.1,λy r=>?_⟩;rcases j5.1 r with r|r
    .exact j.2.2.2.2 y r
    .rw[Y1.1 r];omega) k [] s l s' ⟨Ξ,rfl,rfl,rfl,λv ac=>by cases ac⟩ h
 exact this.1
theorem Ra{g B0:Nat}{H:ak}{s:aO}{O:x4}(h:bZ w g B0 H 100000 (σ s))(af:aH .i64 ay w gz O all)(ag:∀z∈all,1<=z/\z<=aF)(aS:all.length<=100001)(P:∀r,H r->r<w.heap.size)(bi:lv s):
  aq x8 Be [Γ g,O] w (yK w g H (dA all s)):=by
 have bU:=h.lt;refine aE func120 ?_;refine bE bj.i λG U bV Q R=>?_;have R:aj U G bj [.slice ν 0 0,.slice ν 0 0,Δ 0,.slice ν 0 0]:=R;refine bE bj.i λK aa bW S W=>?_;have W:aj aa K bj [.slice ν 0 0,.slice ν 0 0,Δ 0,.slice ν 0 0]:=W;have h1:=(h.W Q).base;have ah:=h1.W S;have bX:=Q.size;have aT:=R.lt;have bY:=W.lt;refine(l8 ah).Y ?_;rintro _ E _ ⟨⟨Y,j⟩,a,b0,rfl,al,am⟩;rw[bz,bA,aW];have bk:K≠g:=Ω
 have an:G≠g:=Ω
 have ap:=W.ab Y λhe=>bk he;have au:=(R.W S).ab Y λhe=>an he;have aU:aH .i64 ay E gz O all:=bG ((af.W Q).W S) Y λr e he=>by
  have he:r=g:=he;obtain⟨aV,B,J,bad,aX,big,aY,m1,sv,Z,_⟩:=jE h;subst he;exact cB af Z Φ e rfl
 have a1:∀r,lc O r->r<U.heap.size:=λr e=>by obtain⟨B,J⟩:=cd af e;omega
 have av:iP E U.heap.size K ⟨[],[],0,[]⟩:=⟨_,_,_,0,0,0,ap,aH.nil _ _ _ _,aH.nil _ _ _ _,⟨[],bo.nil _ _ _ _ _,λy bm=>(by cases bm),rfl⟩,(λr e=>by rcases e with⟨a,n,c,B,J⟩|⟨a,n,c,B,J⟩<;>cases B),(λr e=>by obtain⟨a,n,c,B,J⟩:=e;cases B),Ω⟩;have aw:∀c,aj E K bj c->c[3]?=σ (.slice ν 0 0):=λc az=>by
  unfold aj at az ap;rw[ap]at az;have:=Array.toList_inj.2 (Obj.cells.inj (Z5 az)).1;simp at this;rw[<-this];rfl
 have a2:ai (λr=>r=g) U E:=(S.ab _).F Y;have b1:U.heap.size<=E.heap.size:=a2.size;have aB:∀{f:x5}{aC:Option (cI×aO)}{v:x4}{I:x5},ai (iQ g U.heap.size) E f->aC=dA all s->E8 f g G U.heap.size H aC v I->yK w g H (dA all s) v I:=by
  rintro f aC v I C rfl ⟨N,x,bn,aD,aG,aI,aJ,a7,a8,ba,bp⟩;refine⟨N,x,bn,?_,aG,aI,aJ,a7,a8,λr e=>(ba r e).imp id λh=>Ω,bp⟩;refine ja (ja ((Q.ab _).F (a2.Y λr _ h=>.inl h)) C λr e he=>?_) aD λr e he=>?_
  .exact he.elim .inl λhe=>Ω
  .rcases he with he|he|he|he
   .exact .inl he
   .exact .inr he
   .omega
   .omega
 have bq:∀{f:x5}{x:cI},ai (iQ g U.heap.size) E f->dA all s=ν->bZ f g U.heap.size H 100000 ν->iP f U.heap.size K x->
   (ad x8 (u5 bj (Γ K)) f λbr=>
    aM x8 (o7 bj (Γ G) br) f λ(_:Unit)bb=>
    ad x8 (do loadVar bj (<-asAddr (Γ G))) bb λbs=>yK w g H (dA all s) bs bb):=by
  intro f x C bc aK bu;obtain⟨aZ,hv,cz,g1,bw,bx,aD,aG,aI,aJ,a7,a8,ba⟩:=bu;let N:kA:=⟨aZ,hv,x.other,cz⟩;have bd:iE f N x:=⟨⟨g1,aG⟩,⟨bw,aI⟩,rfl,bx,aJ⟩;have aL:=au.ab C λV=>V.elim an λh=>Ω
  rw[bH bj.p bj.i rfl (show f.rangeAt K 0 (fX N)from aD.range)];refine b3 (vs:=fX N) bj.i rfl rfl bd.one aL λb2 aN b4 bB=>?_;rw[fu bj.p bj.i rfl bB.range];have bC:∀r,r=G->iO f r\/f.heap.size<=r:=λr e=>by subst e;exact .inl ⟨_,_,aL,Φ,Φ⟩
  have b5:=C.size;refine aB C rfl ⟨N,x,H,aN.Y λr _ h=>.inr (.inr (.inl h)),rfl,bd.dZ aN bC,?_,(λq A=>by rw[bc]at A;cases A),λ_ h=>h,λ_ h=>.inl h,λr e=>by have:=P r e;omega⟩;rw[bc];have bD:bZ f g U.heap.size H 100001 ν:=by
   obtain⟨b6,w0,aV,bF,gs,sv,L,X,B,J,bad,aX,big,aY,m1,h1,ah,j,bI,bJ,aP,be⟩:=aK;exact⟨Ω,w0,aV,bF,gs,sv,L,X,B,J,bad,aX,big,aY,m1,h1,ah,j,bI,bJ,aP,be.1,by have:=be.2;omega⟩
  refine bD.dZ aN λr e=>.inl ?_;have e:r=G:=e;subst e;exact⟨_,_,aL,Φ,Φ,Φ,Φ,λax=>by have:=P _ ax;omega⟩
 have M:=Fa (all:=all) (s:=s);have bK:bl (-4611686018427387904) 4611686018427387904 (σ s)=bt (-aF) aF s:=rfl;rw[bK]at j al am;have b7: -4611686018427387904<=a/\a<=4611686018427387904:=by
  cases A:bt (-aF) aF s with
  |none=>have:=am A;omega
  |some q=>have:=al q A;rw[this];exact(jx A).1
 refine a6 (λv bL=>E=bL/\v=Δ (a.natAbs:Int)) ?_ ?_
 rotate_left
 .intro aA bf;rw[ao];refine⟨λb8=>?_,λb9=>bf _ _ ⟨rfl,by congr 1;omega⟩⟩;rw[nJ,lm Ω Ω];exact bf _ _ ⟨rfl,by congr 1;omega⟩
 rintro _ _ ⟨rfl,rfl⟩;have bg:∀r,H r->r<U.heap.size:=λr e=>by have:=P r e;omega
 have bh:¬H G:=λax=>by have:=P _ ax;omega
 have bM:∀{scope:Λ},(∀v∈scope,0<=v/\v<(all.length:Int))->∀z∈scope.map (λv=>all.getD v.toNat 0),1<=z/\z<=aF:=λac z bN=>by
  obtain⟨v,bO,rfl⟩:=l9.1 bN;have:=ac v bO;refine ag _ ?_;rw[r8,v8 Ω];exact S2 _
 cases A:bt (-aF) aF s with
 |none=>
  rw[A]at j M;have bP:=am A;subst bP;refine E6 (s:=s) (ar:=(0:Int).natAbs) j (.inr ⟨rfl,rfl⟩) av aw aU a1 aS Φ (λh=>by cases h) ?_ ?_ ?_
  .intro h;cases h
  .intro _;exact E9 j av aw (λz ag=>by cases ag) Ξ au aT bh bg (λbQ V=>by cases V) λv I aQ=>aB (ai.refl _ _) (by rw[M];rfl) aQ
  .intro h;cases h
 |some q=>
  obtain⟨a',s1⟩:=q;rw[A]at j M;have:=al _ A;subst this;simp only at M;have j:bZ E g U.heap.size H 100000 (σ s1):=j;have bR:=dT A;refine E6 j (.inl rfl) av aw aU a1 aS Ω (λ_=>(vt j).1) ?_ ?_ ?_
  .intro _ f x C ae aK aR;exact bq C (by rw[M,ae]) aK aR
  .intro h;cases h
  .intro _ f scope s' C ae aP aR bS;obtain⟨ca,bT,t3,t4,t5⟩:=Fb ae;rw[ae]at M;obtain⟨B,J,cb⟩:=bR.eqs;refine E9 aP aR bS (bM t5) ?_ (au.ab C λV=>V.elim an λh=>Ω) aT bh bg (λbQ V=>?_) λv I aQ=>aB C M.symm aQ
   .rw[r9];have:=(vt j).1;omega
   .cases V;intro Z;rw[t3,J]at Z;rw[bT,B];exact bi Z
theorem Rb{s s':aO}{l:List (Λ×Int)}(h:ei d6 s=σ (l,s'))(j:lv s):lv s':=by
 unfold ei at h;cases f:bt (-aF) aF s with
 |none=>grind
 |some q=>
  obtain⟨n,s1⟩:=q;obtain⟨r,E,t3⟩:=(dT f).eqs;have w:lv s1:=λe=>by rw[r];exact j (by grind)
  rw[f]at h;simp only at h;split at h
  .split at h
   .cases h
   .split at h
    all_goals grind
  .rename_i F;have be:=h;have:=mN (λ_ t=>lv t) (λacc t a bx x y=>by
    obtain⟨_,_,_,z⟩:=qV y;obtain⟨A,G,H⟩:=z.eqs;intro e;rw[A];exact x (by grind)) n.toNat [] (br (decide (16384<min (s1.m1+n) aF)) {s1 with m1:=min (s1.m1+n) aF}) l s' (λe=>by
     obtain⟨B,C⟩:=T3.1 e;have I:=w B;have J:=of_decide_eq_false C;show 0<=min (s1.m1+n) aF/\min (s1.m1+n) aF<=16384
     grind [aF]) be
   grind
theorem Rc{s s':aO}{x:cI}(h:dA all s=σ (x,s')):s'.hp.length+1<=s.hp.length/\(lv s->lv s'):=by
 rw[Fa]at h;cases w:bt (-aF) aF s with
 |none=>grind
 |some q=>
  obtain⟨a,s1⟩:=q;rw[w]at h;simp only at h;have y:=dT w;cases V:fv all.length a.natAbs s1 with
  |none=>grind
  |some p=>
   obtain⟨scope,f⟩:=p;rw[V]at h;simp only at h;obtain⟨O,E,t3,_⟩:=Fb V;unfold lx at h;have e:bl 0 aF ((σ f).map (br (decide (6<a.natAbs)||dO (scope.map λv=>all.getD v.toNat 0))))=bt 0 aF (br (decide (6<a.natAbs)||dO (scope.map λv=>all.getD v.toNat 0)) f):=rfl;rw[e]at h;cases z:bt 0 aF (br (decide (6<a.natAbs)||dO (scope.map λv=>all.getD v.toNat 0)) f)with
   |none=>grind
   |some F=>
    obtain⟨o,A⟩:=F;rw[z]at h;simp only at h;have B:=dT z;cases j:ei (scope.map λv=>all.getD v.toNat 0) A with
    |none=>grind
    |some G=>
     obtain⟨ls,r⟩:=G;rw[j]at h;simp only[W7,R4]at h;obtain⟨_,P⟩:=h;have Q:=E7 j;have H:(br (decide (6<a.natAbs)||dO (scope.map λv=>all.getD v.toNat 0)) f).hp=f.hp:=rfl;have I:=B.1;rw[H]at I;have R:=y.1;obtain⟨J,S,_⟩:=y.eqs;obtain⟨f1,f2,_⟩:=B.eqs;have K:s'.hp=r.hp/\s'.m1=r.m1/\s'.big=r.big:=by
      grind
     refine⟨by grind,λL=>?_⟩;have M:lv A:=λC=>by
      rw[f2]at C;rw[f1];have T:=(T3.1 C).1;show 0<=f.m1/\f.m1<=16384;rw[E,J];exact L (by grind)
     have N:=Rb j M;intro U;rw[K.2.1];exact N (by grind)
theorem bZ.shrink{g:Nat}{H:ak}{so:Option aO}(h:bZ w g B H N so):∃a,bZ w g B a N so/\(∀r,a r->H r)/\∀r,a r->∃c,aj w r bj c:=by
 obtain⟨x,w0,y,z,gs,sv,L,X,A,C,bad,E,big,F,m1,h1,f,j,G,q,I,J⟩:=h;refine⟨λr=>hx sv r,⟨x,w0,y,z,gs,sv,L,X,A,C,bad,E,big,F,m1,h1,f,j,G,q,λr e=>e,J⟩,I,λr e=>?_⟩;obtain⟨rfl,c,s⟩:=dY q.2.1 e;refine⟨c,s.ab f λhe=>?_⟩;obtain⟨M,K⟩:=j;subst he;exact m6 (fI s K) Φ
theorem bZ.low{g:Nat}{H:ak}{s:aO}(h:bZ w g B H N (σ s)):bZ w g B H 100000 (σ s):=by
 obtain⟨F,w0,a,e,gs,sv,L,X,f,j,bad,q,big,r,m1,h1,x,y,z,A,C,E⟩:=h;exact⟨o6 _,w0,a,e,gs,sv,L,X,f,j,bad,q,big,r,m1,h1,x,y,z,A,C,E⟩
theorem bZ.up{g M:Nat}{H:ak}{so:Option aO}(h:bZ w g B H N so)(F:N<=M):bZ w g B H M so:=by
 obtain⟨G,w0,e,f,gs,sv,L,X,j,q,bad,r,big,x,m1,h1,y,z,A,C,E,a⟩:=h;refine⟨Ω,w0,e,f,gs,sv,L,X,j,q,bad,r,big,x,m1,h1,y,z,A,C,E,?_⟩;cases so with
 |none=>exact⟨a.1,by have:=a.2;omega⟩
 |some s=>exact a
def m9{α:Type}(f:List α->aO->Option (α×aO))(cnt i:Nat)(a:Option aO)(A:List α)(so:Option aO):Prop:=a.bind (dc f cnt [])=(match so with
 |none=>ν
 |some s=>dc f (cnt-i) A s)
theorem m9.step{α:Type}{f:List α->aO->Option (α×aO)}{cnt i:Nat}{e:Option aO}{A:List α}{s:aO}{a:α}{j:Option aO}(h:m9 f cnt i e A (σ s))(hi:i<cnt)(h1:j=(f A s).map (·.2))(r:∀q,f A s=σ q->a=q.1):m9 f cnt (i+1) e (A++[a]) j:=by
 unfold m9 at*;rw[h,show cnt-i=(cnt-(i+1))+1 by omega];simp only;cases w:f A s<;>grind [qY,uH]
theorem Re{s0:aO}{acc:Λ}{most j:Int}{X:List cI}{x y z A L so6 e:Option aO}(h1:x=((eh s0).map (·.2)).map (br (decide (64<t.length))))(O:∀q,eh s0=σ q->t=q.1)(r:y=((bl 1 aF x).map (·.2)).map (br (decide (64<n))))(M:∀q,bl 1 aF x=σ q->n=q.1)(h:z=(bl 1 aF y).map (·.2))(hm:∀q,bl 1 aF y=σ q->most=q.1)(f:A=((bl 0 aF z).map (·.2)).map (br (decide (256<j))))(N:∀q,bl 0 aF z=σ q->j=q.1)(a:L=((bl 1 aF A).map (·.2)).map (br (decide (2147483648<k))))(hk:∀q,bl 1 aF A=σ q->k=q.1)(w:L.bind (dc (ia most) n.toNat [])=so6.map λs=>(acc,s))(F:so6.bind (dc (λ_ s=>dA acc s) j.toNat [])=e.map λs=>(X,s)):jW s0=e.map λs=>(⟨t,k,acc,X⟩,s):=by
 unfold jW;cases G:eh s0 with
 |none=>
  rw[G]at h1;subst h1;subst r;subst h;subst f;subst a;have:so6=ν:=by cases so6 with|none=>rfl|some s=>cases w
  subst this;cases e<;>grind
 |some P=>
 obtain⟨bx,s1⟩:=P;have:=O _ G;subst this;rw[G]at h1;have h1:x=σ (br (decide (64<t.length)) s1):=h1;subst h1;simp only;have Q:bl 1 aF (σ (br (decide (64<t.length)) s1))=bt 1 aF (br (decide (64<t.length)) s1):=rfl;rw[Q]at r M;cases H:bt 1 aF (br (decide (64<t.length)) s1)with
 |none=>
  rw[H]at r;subst r;subst h;subst f;subst a;have:so6=ν:=by cases so6 with|none=>rfl|some s=>cases w
  subst this;cases e<;>grind
 |some R=>
 obtain⟨ab,B⟩:=R;have:=M _ H;subst this;rw[H]at r;have r:y=σ (br (decide (64<n)) B):=r;subst r;simp only;have S:bl 1 aF (σ (br (decide (64<n)) B))=bt 1 aF (br (decide (64<n)) B):=rfl;rw[S]at h hm;cases I:bt 1 aF (br (decide (64<n)) B)with
 |none=>
  rw[I]at h;subst h;subst f;subst a;have:so6=ν:=by cases so6 with|none=>rfl|some s=>cases w
  subst this;cases e<;>grind
 |some T=>
 obtain⟨bY,C⟩:=T;have:=hm _ I;subst this;rw[I]at h;have h:z=σ C:=h;subst h;simp only;have U:bl 0 aF (σ C)=bt 0 aF C:=rfl;rw[U]at f N;cases J:bt 0 aF C with
 |none=>
  rw[J]at f;subst f;subst a;have:so6=ν:=by cases so6 with|none=>rfl|some s=>cases w
  subst this;cases e<;>grind
 |some V=>
 obtain⟨ac,E⟩:=V;have:=N _ J;subst this;rw[J]at f;have f:A=σ (br (decide (256<j)) E):=f;subst f;simp only;have W:bl 1 aF (σ (br (decide (256<j)) E))=bt 1 aF (br (decide (256<j)) E):=rfl;rw[W]at a hk;cases K:bt 1 aF (br (decide (256<j)) E)with
 |none=>
  rw[K]at a;subst a;have:so6=ν:=by cases so6<;>grind
  subst this;cases e<;>grind
 |some Y=>
 obtain⟨ad,Z⟩:=Y;have:=hk _ K;subst this;rw[K]at a;have a:=a;subst a;simp only;have w:dc (ia most) n.toNat [] (br (decide (2147483648<k)) Z)=so6.map λs=>(acc,s):=w;rw[w];cases so6 with
 |none=>cases e<;>grind
 |some aa=>
  simp only[Y7];have F:dc (λ_ s=>dA acc s) j.toNat [] aa=e.map λs=>(X,s):=F;rw[F];cases e<;>rfl
def rg(w:x5)(gr:Nat)(a:x4)(X:List cI):Prop:=∃L,bo fX 4 bj w gr a L/\X.length=L.length/\∀(i:Nat)h x,L[i]?=σ h->X[i]?=σ x->iE w h x
def p3(w:x5)(e:Nat)(f:cn):Prop:=∃hv gz a gr,aj w e eA [cp f.name,Δ f.k,hv,a]/\aH .i64 ay w gz hv f.d6/\rg w gr a f.ho
theorem rg.W{gr:Nat}{a:x4}{X:List cI}(h:rg w gr a X)(J:Ext w I):rg I gr a X:=by
 obtain⟨L,h1,e,f⟩:=h;exact⟨L,h1.W J,e,λi ax x hi j=>(f i ax x hi j).W J⟩
theorem p3.W{a:Nat}{f:cn}(h:p3 w a f)(J:Ext w I):p3 I a f:=by
 obtain⟨hv,gz,e,gr,h1,j,q⟩:=h;exact⟨hv,gz,e,gr,h1.W J,j.W J,q.W J⟩
def Rf(w:x5)(pl:Λ)(v:x4)(I:x5):Prop:=Ext w I/\∃n e:Int,(ix pl=ν->v= .tuple #[.pointer ν,Δ n,Δ e])/\∀f,ix pl=σ f->∃a,v= .tuple #[Γ a,Δ n,Δ e]/\p3 I a f
theorem Rg{w0:x5}{g y:Nat}{so6:Option aO}{acc:Λ}{O bad:Int}{p:x4}{Q:x4->x5->Prop}(c6:ai (λr=>w0.heap.size<=r) w0 w)(bP:aj w y eA [cp t,Δ k,hv,.slice ν 0 0])(c7:aH .i64 ay w gz hv acc)(h:bZ w g B bX 100000 so6)(c8:∀s,so6=σ s->lv s/\s.hp.length<=100000/\(∀z∈acc,1<=z/\z<=aF)/\acc.length<=100001)(e8:w0.heap.size<=g)(e9:w0.heap.size<=y)(ae:aQ .u8 w0 p pl)(fa:0<=O/\O<=4611686018427387904)(bi:∀v I X bk,Ext w0 I->so6.bind (dc (λ_ s=>dA acc s) O.toNat [])=bk.map (λs=>(X,s))->
   (∀s,bk=σ s->s.hp=[]/\¬0<=bad/\s.big=sp->v= .tuple #[Γ y,Δ (pl.length:Int),Δ 0]/\p3 I y ⟨t,k,acc,X⟩)->
   ((∀s,bk=σ s->¬(s.hp=[]/\¬0<=bad/\s.big=sp))->∃n e:Int,v= .tuple #[.pointer ν,Δ n,Δ e])->Q v I):
  b7 (Δ 0) w λbQ A da=>
   cG (α:=x4->x5->Prop) (λ(db:x4)(K:x5)=>
    Split db (ey K λE=>
   ad x8 (b1 (Γ y)) E λaC=>
   ad x8 (u6 eA aC 3) E λaD=>
   ad x8 (u5 dN aD) E λbl=>
   ad x8 (b1 (Γ y)) E λdd=>
   ad x8 (u6 eA dd 2) E λde=>
   ad x8 (u5 aB de) E λdf=>
   aq x8 Be [(Γ g),df] E λdg af=>
    (Ext E af\/ch x8 (u5 dN aD) bl af/\ch x8 (u6 eA aC 3) aD af/\ch x8 (b1 (Γ y)) aC af/\True)/\
   aM x8 (Y4 dN 1 #[(0,dg)]) af λdi P=>
    (Ext E P\/ch x8 (u5 dN aD) bl P/\ch x8 (u6 eA aC 3) aD P/\ch x8 (b1 (Γ y)) aC P/\True)/\
    aM x8 (b9 #[dN,dN] dN #[bl,di]) P λdj aU=>
     ad x8 (b1 (Γ y)) aU λdk=>
     ad x8 (u6 eA dk 3) aU λdl=>
     aM x8 (o7 dN dl dj) aU λ(_:Unit)aV=>
     ad x8 (aT .add ay sp s2 bQ (Δ 1)) aV λdm=>
   da dm aV)
     (cG (α:=x5->Prop) (λ(N:x5)=>
   cG (α:=x5->Prop) (λ(C:x5)=>
    ad x8 (b1 (Γ g)) C λdn=>
    ad x8 (u6 bR dn 3) C λdp=>
    ad x8 (u5 al dp) C λdq=>
    ad x8 (aT .neq al sp s2 dq (Δ 0)) C λdr=>
    Split dr (ey C λY=>
     ad x8 (b1 (Γ g)) Y λds=>
     ad x8 (u6 bR ds 4) Y λdt=>
     ad x8 (u5 al dt) Y λdu=>
     ad x8 (b1 (Γ g)) Y λdv=>
     ad x8 (u6 bR dv 3) Y λdw=>
     ad x8 (u5 al dw) Y λdx=>
     Q (.tuple #[(.pointer ν),du,dx]) Y)
     (ad x8 (b1 (Γ g)) C λdy=>
    ad x8 (u6 bR dy 5) C λdz=>
    ad x8 (u5 al dz) C λdC=>
    ad x8 (aT .neq al sp s2 dC (Δ 0)) C λdD=>
    Split dD (ey C λZ=>
     ad x8 (b1 (Γ g)) Z λdE=>
     ad x8 (u6 bR dE 6) Z λdF=>
     ad x8 (u5 al dF) Z λdG=>
     ad x8 (b1 (Γ g)) Z λdH=>
     ad x8 (u6 bR dH 5) Z λdI=>
     ad x8 (u5 al dI) Z λdJ=>
     Q (.tuple #[(.pointer ν),dG,dJ]) Z)
     (ad x8 (X8 #[cW] al #[p]) C λdK=>
    Q (.tuple #[(Γ y),dK,(Δ 0)]) C))) λbT=>
   cG (α:=x4->x5->Prop) (λ(dL:x4)(aX:x5)=>
    Split dL (aq x8 pn [(Γ g),(Δ 11),(Δ bad)] aX λfb bV=>
     bT bV)
     (bT aX)) λbW=>
   ad x8 (b1 (Γ g)) N λdM=>
   ad x8 (u6 bR dM 3) N λdO=>
   ad x8 (u5 al dO) N λdP=>
   ad x8 (aT .eql al sp s2 dP (Δ 0)) N λdQ=>
   Split dQ (ad x8 (aT .geq al sp s2 (Δ bad) (Δ 0)) N λdR=>
   bW dR N)
    (bW (.bool sp) N)) λbY=>
  cG (α:=x4->x5->Prop) (λ(dS:x4)(R:x5)=>
   Split dS (ad x8 (b1 (Γ g)) R λdT=>
    ad x8 (u6 bR dT 0) R λdU=>
    ad x8 (u5 fP dU) R λdV=>
    ad x8 (n9 fP dV (Δ 0)) R λdW=>
    ad x8 (u6 cH dW 1) R λdX=>
    ad x8 (u5 al dX) R λea=>
    aq x8 pn [(Γ g),(Δ 4),ea] R λfc bm=>
    bY bm)
    (bY R)) λb0=>
  ad x8 (b1 (Γ g)) K λeb=>
  ad x8 (u6 bR eb 3) K λec=>
  ad x8 (u5 al ec) K λed=>
  ad x8 (aT .eql al sp s2 ed (Δ 0)) K λee=>
  Split ee (ad x8 (b1 (Γ g)) K λef=>
  ad x8 (u6 bR ef 0) K λeg=>
  ad x8 (u5 fP eg) K λeh=>
  ad x8 (X8 #[fP] al #[eh]) K λei=>
  ad x8 (aT .gtr al sp s2 ei (Δ 0)) K λej=>
  b0 ej K)
   (b0 (.bool sp) K))) λb3=>
   ad x8 (aT .lss ay sp sp bQ (Δ O)) A λek=>
   Split ek (ad x8 (b1 (Γ g)) A λem=>
   ad x8 (u6 bR em 3) A λen=>
   ad x8 (u5 al en) A λeo=>
   ad x8 (aT .eql al sp s2 eo (Δ 0)) A λep=>
   b3 ep A)
    (b3 (.bool sp) A):=by
 have b4:y≠g:=λhe=>by
  obtain⟨ag,aa,ac,bad,ah,big,am,m1,sv,f,_⟩:=jE h;subst he;exact m6 (fI f bP) Φ
 refine⟨λbn A=>∃i:Nat,bn=Δ (i:Int)/\i<=O.toNat/\ai (λr=>w0.heap.size<=r) w0 A/\∃M gr X so,∃H:ak,aj A y eA [cp t,Δ k,hv,M]/\aH .i64 ay A gz hv acc/\rg A gr M X/\(∀r,hx M r->w0.heap.size<=r/\¬H r)/\¬H y/\(∀r,lc hv r->¬H r)/\(∀r,H r->w0.heap.size<=r)/\bZ A g A.heap.size H 100001 so/\m9 (λ_ s=>dA acc s) O.toNat i so6 X so/\
   ∀s,so=σ s->lv s/\X.length+s.hp.length<=100000/\(∀z∈acc,1<=z/\z<=aF)/\acc.length<=100001,λbn _=>O.toNat-(b2 bn).toNat,
  ⟨0,rfl,X9 _,c6,_,0,[],so6,bX,bP,c7,⟨[],bo.nil _ _ _ _ _,rfl,λi h x hi=>by simp at hi⟩,λr a=>(gp a).elim,id,λr _ h=>h,λr h=>h.elim,h.base.up Ω,?_,λs V=>?_⟩,?_⟩
 .unfold m9;cases so6<;>rfl
 .obtain⟨er,es,a3,a4⟩:=c8 s V;exact⟨er,by simpa using es,a3,a4⟩
 rintro _ A ⟨i,rfl,hi,aY,M,gr,X,so,H,b5,b6,b8,aE,bp,et,ca,W,bq,eu⟩;refine a6 (λv K=>A=K/\((v= .bool s2/\i<O.toNat/\∃s,so=σ s)\/(v= .bool sp/\(so=ν\/i=O.toNat)))) ?_ ?_
 rotate_left
 .intro aA br;rw[aW,ao];refine⟨λcb=>?_,λfd=>br _ _ ⟨rfl,.inr ⟨rfl,.inr Ω⟩⟩⟩;rw[m8 W];cases so with
  |none=>exact br _ _ ⟨rfl,.inr ⟨rfl,.inl rfl⟩⟩
  |some s=>exact br _ _ ⟨rfl,.inl ⟨rfl,Ω,s,rfl⟩⟩
 rintro _ _ ⟨rfl,⟨rfl,cb,s,rfl⟩|⟨rfl,ev⟩⟩
 .
  rw[bS];intro E an _ _;obtain⟨ce,fe,cf,cg⟩:=eu s rfl;have aI:=b5.W an;obtain⟨ew,ci,aJ,cj⟩:=(W.W an).low.shrink;have bs:=b6.W an;have ez:=b8.W an;rw[aP eA.p 3 aI rfl,aP eA.p 2 aI rfl];refine(Ra ci bs cf cg (λr a=>by obtain⟨c,f⟩:=cj r a;exact f.lt) ce).Y ?_;rintro _ af _ ⟨eB,x,ck,ap,rfl,cl,eC,eD,ff,cm,eE⟩;have cn:∃c,aj E g bR c:=by obtain⟨ag,aa,ac,bad,ah,big,am,m1,sv,f,_⟩:=jE ci;exact⟨_,f⟩
  have cq:∀r,(r=g\/ew r)->iO E r\/E.heap.size<=r:=λr a=>by
   rcases a with rfl|a
   .obtain⟨c,f⟩:=cn;exact .inl ⟨_,c,f,Φ,Φ⟩
   .obtain⟨c,f⟩:=cj r a;exact .inl ⟨_,c,f,Φ,Φ⟩
  have bt:=aI.ab ap λa=>a.elim (λhe=>b4 he) λa=>bp (aJ _ a);have st:∀{I:x5},aj I y eA [cp t,Δ k,hv,M]->ch x8 (u5 dN (.pointer (σ ⟨y,0+3,ν⟩))) M I/\ch x8 (u6 eA (Γ y) 3) (.pointer (σ ⟨y,0+3,ν⟩)) I/\ch x8 (b1 (Γ y)) (Γ y) I/\True:=λf=>
   ⟨ur Ψ (f.cell rfl),mT (by rw[a1 eA.p rfl]),mT (by rw[cc]),trivial⟩
  refine⟨.inr (st bt),?_⟩;refine jc dN.u bj.i Ω rfl rfl λfg fh P fi S eF=>?_;refine⟨.inr (st (bt.W S)),?_⟩;obtain⟨L,au,bu,bx⟩:=id ez;have eH:=au.ab ap λr a V=>V.elim (λhe=>by
   obtain⟨c,f⟩:=cn;subst he;exact cP au f Φ a) λV=>(aE r a).2 (aJ r V)
  have bz:=eH.W S;refine jB dN.u bj.i rfl bz (by simpa using eF.sl) (cl.W S).one Ω Ω λeI eK aU aZ eL cr=>?_;have bA:=bt.W S;have ct:=bA.ab cr λhe=>cP bz bA Φ he;rw[cc,a1 eA.p rfl];refine bw (g:=y) (o:=3) dN.i (eJ aZ.sl).1 (eJ aZ.sl).2 ct Ξ λaV cu fj bB=>?_;have bB:=bB;have fk:i<=4611686018427387904:=Ω
  rw[aR,lm Ω Ω];have av:ai (λr=>hx M r\/r=y) P aV:=(cr.Y λr _ h=>.inl h).F (cu.Y λr _ h=>.inr h);have cz:∀r,(hx M r\/r=y)->∃e c,aj P r e c/\e≠ay/\e≠cw/\e≠cH/\e≠bR:=λr a=>by
   rcases a with a|rfl
   .obtain⟨rfl,c,f⟩:=dY bz a;exact⟨_,c,f,Φ,Φ,Φ,Φ⟩
   .exact⟨_,_,bA,Φ,Φ,Φ,Φ⟩
  have bC:∀r,(hx M r\/r=y)->iO P r\/P.heap.size<=r:=λr a=>by
   obtain⟨e,c,f,bD,bE,_⟩:=cz r a;exact .inl ⟨e,c,f,bD,bE⟩
  have fm:=an.size;have fo:=ap.size;have fp:=S.size;have fq:=av.size;have cA:∀r,hx M r->r<E.heap.size:=λr a=>by obtain⟨aa,ac⟩:=au.lc a;omega
  have aK:∀r,r<E.heap.size->¬H r->¬ck r:=λr a eM bF=>(cm r bF).elim (λh=>eM (aJ r h)) λh=>Ω
  have eN:∀r,lc hv r->r<E.heap.size:=λr a=>by obtain⟨aa,ac⟩:=cd bs a;omega
  refine⟨⟨i+1,rfl,Ω,?_,eI,eK,X++[x],_,ck,bB,e0 ((e0 bs ap cq).W S) av bC,⟨L++[eB],aZ.ab cu λr a he=>?_,by rw[c9,c9,bu];rfl,λj cB eO aw aL=>?_⟩,λr a=>?_,aK y aI.lt bp,λr a=>aK r (eN r a) (et r a),λr a=>?_,?_,bq.step cb rfl λq G=>eD q G,λs' U=>?_⟩,by simp only[b2];omega⟩
  .refine (((aY.F (an.ab _)).F (ap.Y λr _ h=>?_)).F (S.ab _)).F (av.Y λr _ h=>?_)
   .exact h.elim (λh=>Ω) λh=>ca r (aJ r h)
   .exact h.elim (λh=>(aE r h).1) λh=>Ω
  .have he:r=y:=he;subst he;exact cP aZ ct Φ a
  .by_cases eP:j<L.length
   .rw[V6 eP]at aw;rw[V6 Ω]at aL;exact(((bx j cB eO aw aL).dZ ap cq).W S).dZ av bC
   .rw[X2 Ω]at aw;rw[X2 Ω]at aL;have eQ:j-L.length=0:=by have:=(x6.1 aw).1;simp at this;omega
    have eR:j-X.length=0:=Ω
    rw[eQ]at aw;rw[eR]at aL;cases aw;cases aL;exact(cl.W S).dZ av bC
  .rcases eL r a with h|h
   .exact⟨(aE r h).1,aK r (cA r h) (aE r h).2⟩
   .exact⟨by have:=aY.size;omega,λbF=>by have:=eE r bF;omega⟩
  .rcases cm r a with h|h
   .exact ca r (aJ r h)
   .have:=aY.size;omega
  .refine (eC.W S).dZ av λr a=>.inl ?_;obtain⟨e,c,f,bD,bE,eS,eU⟩:=cz r a;refine⟨e,c,f,bD,bE,eS,eU,?_⟩;rcases a with a|rfl
   .exact aK r (cA r a) (aE r a).2
   .exact aK _ aI.lt bp
  .cases bG:dA acc s with
   |none=>rw[bG]at U;cases U
   |some q=>
    obtain⟨fs,cC⟩:=q;rw[bG]at U;cases U;obtain⟨ft,eV⟩:=Rc bG;refine⟨eV ce,?_,cf,cg⟩;rw[c9];simp only[List.length_singleton];omega
 .
  rw[bc];have bH:so6.bind (dc (λ_ s=>dA acc s) O.toNat [])=so.map λs=>(X,s):=by
   unfold m9 at bq;rw[bq];cases so with
   |none=>rfl
   |some s=>
    rcases ev with h|rfl
    .cases h
    .simp only[V7];rfl
  have row:∀{I:x5},ai (λr=>r=g) A I->rg I gr M X/\aj I y eA [cp t,Δ k,hv,M]/\aH .i64 ay I gz hv acc:=λa2=>by
   obtain⟨ag,aa,ac,bad,ah,big,am,m1,sv,f,_⟩:=jE W;have cD:∀r,r=g->iO A r\/A.heap.size<=r:=λr a=>by subst a;exact .inl ⟨_,_,f,Φ,Φ⟩
   obtain⟨L,au,bu,bx⟩:=id b8;refine⟨⟨L,au.ab a2 λr a he=>?_,bu,λi h x hi J=>(bx i h x hi J).dZ a2 cD⟩,b5.ab a2 λhe=>b4 he,e0 b6 a2 cD⟩;have he:r=g:=he;subst he;exact cP au f Φ a
  refine dh (λN=>ai (λr=>r=g) A N/\bZ N g A.heap.size H 100001 (so.bind λs=>if s.hp=[]then σ s else ν)) ?_ ?_
  rotate_left
  .intro fu cE;refine a6 (λv R=>A=R/\∃b:Bool,v= .bool b/\(b=s2->∃s,so=σ s/\s.hp≠[])/\(b=sp->∀s,so=σ s->s.hp=[])) ?_ ?_
   .rintro _ _ ⟨rfl,b,rfl,bI,bJ⟩;cases b with
    |true=>
     obtain⟨s,rfl,a7⟩:=bI rfl;rw[bS];obtain⟨cF,cI,ag,aN,gs,sv,L,cJ,aa,ac,bK,ah,big,am,m1,cK,ba,bb,az,bd,cL,cM,cN,be,cO,cQ,bf,cR,cS,cU⟩:=id W;obtain⟨⟨bL,eW⟩,_⟩:=bd.g ba bb;obtain⟨x,fv,rfl⟩:∃x l,aN=x::l:=by
      cases aN with
      |nil=>exact m6 bf.symm (by simpa using a7)
      |cons x l=>exact⟨x,l,rfl⟩
     rw[aP bR.p 0 az rfl];refine E2 bL λb o eX=>?_;rw[a1 cH.p rfl,aG Ψ (eX 1 _ rfl)];refine(p2 W Ω).Y ?_;rintro _ bm _ ⟨eY,eZ⟩;refine cE _ ⟨eY,?_⟩;show bZ bm g _ H 100001 (if s.hp=[]then σ s else ν);rw[m5 a7];exact eZ
    |false=>
     rw[bc];refine cE _ ⟨ai.refl _ _,?_⟩;cases so with
     |none=>exact W
     |some s=>
      show bZ _ g _ H 100001 (if s.hp=[]then σ s else ν);rw[m3 (bJ rfl s rfl)];exact W
   .intro fw cV;rw[m8 W];cases so with
    |none=>
     rw[S3,bc];exact cV _ _ ⟨rfl,sp,rfl,(λh=>by cases h),λ_ s V=>by cases V⟩
    |some s=>
     rw[T7,bS];obtain⟨cF,cI,ag,aN,gs,sv,L,cJ,aa,ac,bK,ah,big,am,m1,cK,ba,bb,az,bd,cL,cM,cN,be,cO,cQ,bf,cR,cS,cU⟩:=id W;obtain⟨⟨bL,eW⟩,_⟩:=bd.g ba bb;rw[aP bR.p 0 az rfl,E1 bL,bU];have fx:aN.length=s.hp.length:=by rw[<-bf,r9]
     refine cV _ _ ⟨rfl,_,rfl,λh=>⟨s,rfl,λaS=>?_⟩,λh s' U=>?_⟩
     .have:=rs h;have cB:s.hp.length=0:=by rw[aS];rfl
      omega
     .cases U;have:=of_decide_eq_false h;exact j6 Ω
  rintro N ⟨cX,bN⟩;refine dh (λC=>ai (λr=>r=g) A C/\bZ C g A.heap.size H 100001 (so.bind λs=>if s.hp=[]/\¬0<=bad then σ s else ν)) ?_ ?_
  rotate_left
  .intro fy cY;refine a6 (λv aX=>N=aX/\∃b:Bool,v= .bool b/\(b=s2->(so.bind λs=>if s.hp=[]/\¬0<=bad then σ s else ν)=ν)/\(b=sp->(so.bind λs=>if s.hp=[]/\¬0<=bad then σ s else ν)=so.bind λs=>if s.hp=[]then σ s else ν)) ?_ ?_
   .rintro _ _ ⟨rfl,b,rfl,bI,bJ⟩;cases b with
    |true=>
     rw[bS];refine(p2 bN Ω).Y ?_;rintro _ bV _ ⟨e1,e2⟩;exact cY _ ⟨cX.F e1,by rw[bI rfl];exact e2⟩
    |false=>
     rw[bc];exact cY _ ⟨cX,by rw[bJ rfl];exact bN⟩
   .intro fz cZ;rw[m8 bN];cases G:(so.bind λs=>if s.hp=[]then σ s else ν)with
    |none=>
     rw[S3,bc];refine cZ _ _ ⟨rfl,sp,rfl,(λh=>by cases h),λ_=>?_⟩;cases so with
     |none=>rfl
     |some s=>
      have G:(if s.hp=[]then σ s else ν)=ν:=G;show(if s.hp=[]/\¬0<=bad then σ s else ν)=(if s.hp=[]then σ s else ν);rw[G];split at G
      .cases G
      .rename_i a7;rw[m5 (λh=>a7 h.1)]
    |some s=>
     rw[T7,bS,cT];refine cZ _ _ ⟨rfl,_,rfl,λh=>?_,λh=>?_⟩
     .have aS:=rs h;cases so with
      |none=>rfl
      |some s=>exact m5 λh=>h.2 aS
     .have aS:=of_decide_eq_false h;cases so with
      |none=>rfl
      |some s=>
       show(if s.hp=[]/\¬0<=bad then σ s else ν)=(if s.hp=[]then σ s else ν);by_cases V:s.hp=[]
       .rw[m3 V,m3 ⟨V,aS⟩]
       .rw[m5 V,m5 λh=>V h.1]
  rintro C ⟨c0,bg⟩;obtain⟨e3,e4,e5⟩:=row c0;have e6:ai (λr=>w0.heap.size<=r) w0 C:=aY.F (c0.Y λr _ h=>by have h:r=g:=h;omega);have bh:=e6.W λr a he=>Ω
  rw[sV bg];cases G:(so.bind λs=>if s.hp=[]/\¬0<=bad then σ s else ν)with
  |none=>
   rw[S3,X6,bS];intro Y c1 _ _;obtain⟨ag,aa,ac,bK,ah,big,am,m1,sv,f,_⟩:=jE (bg.W c1);rw[aP bR.p 4 f rfl,aP bR.p 3 f rfl];refine bi _ _ X so (bh.F c1) bH (λs V ax=>?_) λ_=>⟨_,_,rfl⟩;subst V;have G:(if s.hp=[]/\¬0<=bad then σ s else ν)=ν:=G;rw[m3 ⟨ax.1,ax.2.1⟩]at G;cases G
  |some s=>
   rw[G]at bg;rw[T7,Y5,bc];obtain⟨s',rfl,U⟩:∃s',so=σ s'/\(if s'.hp=[]/\¬0<=bad then σ s' else ν)=σ s:=by
    cases so with
    |none=>cases G
    |some s'=>exact⟨s',rfl,G⟩
   split at U
   .rename_i c2;cases U;obtain⟨cF,cI,ag,aN,gs,sv,L,cJ,aa,ac,bK,ah,big,am,m1,cK,ba,bb,az,bd,cL,cM,cN,be,cO,cQ,bf,cR,cS,cU⟩:=id bg;rw[aP bR.p 5 az rfl,bM,ao];refine⟨λbO=>?_,λbO=>?_⟩
    .intro Z c3 _ _;have c4:=az.W c3;rw[aP bR.p 6 c4 rfl,aP bR.p 5 c4 rfl];refine bi _ _ X _ (bh.F c3) bH (λcC c5 ax=>?_) λ_=>⟨_,_,rfl⟩;cases c5;rw[be.1 bO]at ax;cases ax.2.2
    .rw[a8 cW.u (ae.W bh)];refine bi _ _ X _ bh bH (λcC c5 ax=>⟨rfl,hv,gz,M,gr,e4,e5,e3⟩) λe7=>?_;refine m6 ⟨c2.1,c2.2,?_⟩ (e7 s rfl);cases f:s.big with
     |false=>rfl
     |true=>exact m6 (be.2 f) bO
   .cases U
def Zero(so:Option aO):Prop:=∀s,so=σ s->s.m1=0/\s.hp.length<=100000
theorem Zero.big{so:Option aO}(h:Zero so)(b:Bool):Zero (so.map (br b)):=λs V=>by
 cases so with
 |none=>cases V
 |some s0=>cases V;exact h s0 rfl
theorem zero_num{lo hi:Int}{so:Option aO}(h:Zero so):Zero ((bl lo hi so).map (·.2)):=λs V=>by
 cases so with
 |none=>cases V
 |some s0=>
  have V:V8 (λx=>x.2) (bt lo hi s0)=σ s:=V;cases a:bt lo hi s0 with
  |none=>rw[a]at V;cases V
  |some q=>
   obtain⟨n,s1⟩:=q;rw[a]at V;cases V;have e:=dT a;have:=e.1;obtain⟨h1,f⟩:=h s0 rfl;exact⟨e.eqs.1.F h1,by show s1.hp.length<=100000;omega⟩
theorem Rh{so:Option aO}(h:Zero so):Zero ((kW so).map (·.2)):=λs V=>by
 cases so with
 |none=>cases V
 |some s0=>
  have V:V8 (λx=>x.2) (eh s0)=σ s:=V;cases a:eh s0 with
  |none=>rw[a]at V;cases V
  |some q=>
   obtain⟨n,s1⟩:=q;rw[a]at V;cases V;obtain⟨U,aa⟩:=xI a;obtain⟨h1,e⟩:=h s0 rfl;have:s0.hp.length=s1.hp.length+1:=by rw[U];rfl
   exact⟨by show s1.m1=0;rw[aa];exact h1,by show s1.hp.length<=100000;omega⟩
theorem Ri{so:Option aO}{f:cn}(h:jW ⟨(lex pl).1,0,sp,[]⟩=so.map λs=>(f,s))(a:¬65536<pl.length):ix pl=so.bind λs=>if s.hp=[]/\(lex pl).2=s2/\s.big=sp then σ f else ν:=by
 unfold ix;rw[m5 a,h]<;>cases so<;>rfl
theorem Rj(a:pl.length<=60000):(∀t∈(lex pl).1,Bytes t/\t.length<=65536)/\(lex pl).1.length<=60000:=by
 refine⟨λt e=>?_,X3 (r2 pl.length pl (o6 _)) a⟩;obtain⟨_,f,j⟩:=um pl.length pl (o6 _) t e;refine⟨λb h=>?_,Ω⟩;have:=rs (f b h);omega
theorem Fc{p:x4}(ae:aQ .u8 w p pl)(cq:Bytes pl)(cr:pl.length<=60000):aq x8 I8 [p] w (Rf w pl):=by
 obtain⟨ct,dN⟩:=Rj cr;refine aE func59 ?_;rw[a8 cW.u ae,bU,ao];refine⟨λh=>Ω,λ_=>?_⟩;refine(Q2 ae cq Ω).Y ?_;rintro _ U _ ⟨aJ,au,bf,bad,rfl,bg,bh,cu,dO,bi⟩;rw[bz,bA,a8 cW.u (ae.W aJ),ds (cs:=#[au,Δ (pl.length:Int),Δ 4,Δ 0,Δ 0,Δ 0,Δ 0,Δ 0,.slice ν 0 0]) (by obtain⟨_,_,_,_,_,rfl,_⟩:=bg;kernel_rfl)];refine bn λg aa dP av W=>?_;have W:aj aa g bR (jk au (pl.length:Int) 4 0 0 0 0 0 (.slice ν 0 0)):=W;have dQ:=aJ.size;have dR:=av.size;have dS:=W.lt;refine dh (λC=>Ext w C/\ai (λr=>r=g) aa C/\∃Y Z:Int,Z≠0/\aj C g bR (jk au Y Z 0 0 0 0 0 (.slice ν 0 0))) ?_ ?_
 rotate_left
 .intro aA R;have bj:=aJ.F av;rw[cT,ao];refine⟨λ_=>?_,λ_=>R _ ⟨bj,ai.refl _ _,_,_,Ω,W⟩⟩;rw[cc,a1 bR.p rfl];refine bw (g:=g) (o:=1) al.i rfl rfl W (by simp[jk]) λdU cw dV cz=>?_;rw[cc,a1 bR.p rfl];refine bw (g:=g) (o:=2) al.i rfl rfl cz (by simp[jk]) λdW cA dX cC=>?_;have E:=cw.F cA;exact R _ ⟨bj.then E λr j he=>by have he:r=g:=he;omega,E,bad,11,Ω,cC⟩
 rintro C ⟨bk,aK,Y,Z,cD,bm⟩;have z3:=aK.size;have cE:bZ C g C.heap.size bX 100000 (σ ⟨(lex pl).1,0,sp,[]⟩):=by
  refine⟨o6 _,C,au,bf,0,_,[],[],Y,Z,0,0,0,0,0,rfl,ai.refl _ _,⟨_,bm⟩,bm,⟨⟨?_,λr j=>?_⟩,bo.nil _ _ _ _ _,rfl,λi h x hi=>by simp at hi⟩,λr j=>gp j,rfl,cD,Ξ,λ_=>rfl,trivial,bh,ct,rfl,?_⟩
  .refine (bg.ab (av.ab λ_=>False) λ_ _ h=>h).ab aK λr j he=>?_;have he:r=g:=he;obtain⟨c,M⟩:=bi r j;have:=M.lt;omega
  .obtain⟨c,M⟩:=bi r j;exact⟨c,(M.W av).ab aK λhe=>by have he:r=g:=he;have:=M.lt;omega⟩
  .have:bf.length=(lex pl).1.length:=by rw[<-bh,r9]
   simp only[List.length_nil];omega
 have dY:∀{Q:x5}{cF N:Nat}{H:ak}{so:Option aO},bZ Q g cF H N so->True:=λ_=>trivial;rw[ds (cs:=#[cp [],Δ 0,.slice ν 0 0,.slice ν 0 0]) Ψ];refine bn λB cG dZ aL aw=>?_;have aw:aj cG B eA [cp [],Δ 0,.slice ν 0 0,.slice ν 0 0]:=aw;have ea:C.heap.size<=B:=Ω
 have eb:=aw.lt;have cI:B≠g:=Ω
 have G:∀{Q ad:x5}{c:List x4},aj Q B eA c->ai (λr=>r=g) Q ad->aj ad B eA c:=λM E=>M.ab E λhe=>cI he;refine(E3 (cE.W aL)).Y ?_;rintro _ cJ _ ⟨⟨aM,cK⟩,t,bp,rfl,ec,ed,cL⟩;refine bE cH.i λbq ee ef cM cN=>?_;refine b3 (vs:=[cp t,Δ bp]) cH.i rfl rfl (by intro v ac;simp at ac;rcases ac with rfl|rfl<;>rfl) cN λcO cP eg bs=>?_;have az:Ext cJ cO:=cM.put cP Ω;have cQ:=(G aw aM).W az;rw[aN cH.p 0 bs rfl,cc,a1 eA.p rfl];refine bw (g:=B) (o:=0) dj.i rfl rfl cQ Ξ λbu aS eh aT=>?_;have aT:=aT;have cR:=(cK.W az).new aS λr j=>by have j:r=B:=j;omega
 have z4:=aL.size;have z5:=aM.size;have ei:=az.size;have bx:aj bu bq cH [cp t,Δ bp]:=bs.ab aS λhe=>by have he:bq=B:=he;omega
 rw[aN cH.p 0 bx rfl,pG dj.u,bU,aN cH.p 1 bx rfl];have cS:ai (λr=>w.heap.size<=r) w bu:=((((bk.ab _).F (aL.ab _)).F (aM.Y λr _ h=>by have h:r=g:=h;omega)).F (az.ab _)).F (aS.Y λr _ h=>by have h:r=B:=h;omega);have up:∀{Q ad:x5},ai (λr=>w.heap.size<=r) w Q->ai (λr=>r=g) Q ad->ai (λr=>w.heap.size<=r) w ad:=λh k=>h.F (k.Y λr _ h=>by have h:r=g:=h;omega);refine(oP cR).Y ?_;rintro _ ej _ ⟨bB,af⟩;have cU:=up cS bB;have cV:=G aT bB;generalize aU:(((kW (σ ⟨(lex pl).1,0,sp,[]⟩)).map (·.2)).map (br (decide ((64:Int)<(t.length:Int)))))=aV at af;refine(l8 af).Y ?_;rintro _ ek _ ⟨⟨bC,cX⟩,n,em,rfl,bD,cY⟩;rw[bz,bA,bU];refine(oP cX).Y ?_;rintro _ en _ ⟨bF,bH⟩;have cZ:=up (up cU bC) bF;have c0:=G (G cV bC) bF;generalize bI:((bl 1 4611686018427387904 aV).map (·.2)).map (br (decide (64<n)))=aX at bH;refine(l8 bH).Y ?_;rintro _ eo _ ⟨⟨bJ,bK⟩,most,ep,rfl,hm,c1⟩;rw[bz,bA];generalize bL:(bl 1 4611686018427387904 aX).map (·.2)=aY at bK;refine(l8 bK).Y ?_;rintro _ er _ ⟨⟨bM,c2⟩,aZ,es,rfl,bN,c3⟩;rw[bz,bA,bU];refine(oP c2).Y ?_;rintro _ et _ ⟨bO,bP⟩;generalize bQ:((bl 0 4611686018427387904 aY).map (·.2)).map (br (decide (256<aZ)))=bT at bP;refine(l8 bP).Y ?_;rintro _ eu _ ⟨⟨bV,c4⟩,k,ev,rfl,hk,ew⟩;rw[bz,bA,bU];refine(oP c4).Y ?_;rintro _ ey _ ⟨bW,bY⟩;generalize b0:((bl 1 4611686018427387904 bT).map (·.2)).map (br (decide (2147483648<k)))=ag at bY;have c5:=up (up (up (up (up cZ bJ) bM) bO) bV) bW;have c6:=G (G (G (G (G c0 bJ) bM) bO) bV) bW;rw[cc,a1 eA.p rfl];refine bw (g:=B) (o:=1) ay.i rfl rfl c6 Ξ λc7 b1 ez a2=>?_;have a2:=a2;have c8:=bY.new b1 λr j=>by have j:r=B:=j;omega
 have b4:ai (λr=>w.heap.size<=r) w c7:=c5.F (b1.Y λr _ h=>by have h:r=B:=h;omega);have eB:0<=n/\n<=4611686018427387904:=by
  cases A:bl 1 4611686018427387904 aV with
  |none=>have:=cY A;omega
  |some q=>have af:=bD q A;have:=oJ A;omega
 have eC:0<=most/\most<=4611686018427387904:=by
  cases A:bl 1 4611686018427387904 aX with
  |none=>have:=c1 A;omega
  |some q=>have af:=hm q A;have:=oJ A;omega
 have da:0<=aZ/\aZ<=4611686018427387904:=by
  cases A:bl 0 4611686018427387904 aY with
  |none=>have:=c3 A;omega
  |some q=>have af:=bN q A;have:=oJ (s':=q.2) A;omega
 have db:Zero (σ (⟨(lex pl).1,0,sp,[]⟩:aO)):=λs V=>by cases V;exact⟨rfl,by simp only;omega⟩
 have dd:Zero aV:=by rw[<-aU];exact(Rh db).big _
 have de:Zero aX:=by rw[<-bI];exact(zero_num dd).big _
 have df:Zero aY:=by rw[<-bL];exact zero_num de
 have dg:Zero bT:=by rw[<-bQ];exact(zero_num df).big _
 have b5:Zero ag:=by rw[<-b0];exact(zero_num dg).big _
 have eD:=b4.size;refine⟨λa7 O=>∃i:Nat,a7=Δ (i:Int)/\i<=n.toNat/\ai (λr=>w.heap.size<=r) w O/\∃hv gz acc so,aj O B eA [cp t,Δ k,hv,.slice ν 0 0]/\aH .i64 ay O gz hv acc/\(∀r,lc hv r->C.heap.size<=r)/\bZ O g C.heap.size bX 100000 so/\m9 (ia most) n.toNat i ag acc so/\∀s,so=σ s->s.m1=0/\acc.length+s.hp.length<=100000/\∀z∈acc,1<=z/\z<=aF,λa7 _=>n.toNat-(b2 a7).toNat,
  ⟨0,rfl,X9 _,b4,_,0,[],ag,a2,aH.nil _ _ _ _,(λr j=>by obtain⟨a,aC,c,Y,Z⟩:=j;cases Y),c8,?_,λs V=>⟨(b5 s V).1,by simpa using(b5 s V).2,λz di=>by cases di⟩⟩,?_⟩
 .unfold m9;cases ag<;>rfl
 rintro _ O ⟨i,rfl,hi,ba,hv,gz,acc,so,b6,b7,b8,am,bb,b9⟩;refine a6 (λv dk=>O=dk/\((v= .bool s2/\i<n.toNat/\∃s,so=σ s)\/(v= .bool sp/\(so=ν\/i=n.toNat)))) ?_ ?_
 rotate_left
 .intro aA R;rw[aW,ao];refine⟨λca=>?_,λeE=>R _ _ ⟨rfl,.inr ⟨rfl,.inr Ω⟩⟩⟩;rw[m8 am];cases so with
  |none=>exact R _ _ ⟨rfl,.inr ⟨rfl,.inl rfl⟩⟩
  |some s=>exact R _ _ ⟨rfl,.inl ⟨rfl,Ω,s,rfl⟩⟩
 rintro _ _ ⟨rfl,⟨rfl,ca,s,rfl⟩|⟨rfl,dl⟩⟩
 .rw[bS];obtain⟨dm,eF,dn⟩:=b9 s rfl;refine(l8 am).Y ?_;rintro _ eH _ ⟨⟨dp,dq⟩,z,eI,rfl,bd,eJ⟩;rw[bz,bA,bU];refine(oP dq).Y ?_;rintro _ eK _ ⟨dr,dt⟩;have aD:=dp.F dr;have cb:=G b6 aD;have du:∀r,r=g->iO O r\/O.heap.size<=r:=λr j=>(ma am r j).imp (λ⟨e,c,M,dv,dw,_⟩=>⟨e,c,M,dv,dw⟩) id;have cd:=e0 b7 aD du;rw[aP eA.p 2 cb rfl];refine e6 aB.u ay.i rfl λa22 eL dx eM S dy=>?_;refine jD aB.u ay.i rfl (cd.W S) dy.ls Θ Θ λdz dA eN aG dC ce=>?_;have cf:=cb.W S;have cg:=cf.ab ce λhe=>cB (cd.W S) cf Φ he rfl;rw[cc,a1 eA.p rfl];refine bw (g:=B) (o:=2) aB.i aG.ls.cells.1 aG.ls.cells.2 cg Ξ λdD ch eO be=>?_;have be:=be;rw[aR,lm Ω Ω];have ci:ai (λr=>lc hv r\/r=B) dx dD:=(ce.Y λr _ h=>.inl h).F (ch.Y λr _ h=>.inr h);have cj:∀r,(lc hv r\/r=B)->C.heap.size<=r:=λr j=>j.elim (b8 r) λj=>Ω
  have eP:=bk.size;have eQ:=aD.size;have z22:=S.size;have eR:=ba.size;have eS:=am.lt;refine⟨⟨i+1,rfl,Ω,((up ba aD).F (S.ab _)).F (ci.Y λr _ h=>by have:=cj r h;omega),dz,dA,acc++[z],((bl 1 most (σ s)).map (·.2)).map (br (decide (32<z))),be,bG aG ch λr j he=>?_,λr j=>?_,(dt.W S).new ci cj,?_,λs' K=>?_⟩,by simp only[b2];omega⟩
  .have he:r=B:=he;subst he;exact cB aG cg Φ j rfl
  .rcases dC r j with h|h
   .exact b8 r h
   .omega
  .refine bb.step ca ?_ λq A=>?_
   .show (V8 _ (bt 1 most s)).map _=_;unfold ia;cases A:bt 1 most s with
    |none=>rfl
    |some q=>
     have:=bd q A;obtain⟨ck,aI⟩:=q;subst this;rfl
   .unfold ia at A;cases L:bt 1 most s with
    |none=>rw[L]at A;cases A
    |some an=>
     rw[L]at A;have:=bd an L;obtain⟨ck,aI⟩:=an;cases A;exact this
  .cases L:bt 1 most s with
   |none=>
    have K:(V8 (λx=>x.2) (bt 1 most s)).map (br (decide (32<z)))=σ s':=K;rw[L]at K;cases K
   |some an=>
    have K:(V8 (λx=>x.2) (bt 1 most s)).map (br (decide (32<z)))=σ s':=K;rw[L]at K;have dE:=bd an L;obtain⟨ck,aI⟩:=an;cases K;have cl:=dT L;have iR:=(jx L).1;have eU:=cl.1;refine⟨by show aI.m1=0;rw[cl.eqs.1];exact dm,?_,λy ap=>?_⟩
    .rw[c9];show acc.length+1+aI.hp.length<=100000;omega
    .rcases j5.1 ap with ap|ap
     .exact dn y ap
     .rw[Y1.1 ap,dE];exact⟨iR.1,by unfold aF;have:=iR.2;simp only at*;omega⟩
 .rw[bc];have dF:ag.bind (dc (ia most) n.toNat [])=so.map λs=>(acc,s):=by
   unfold m9 at bb;rw[bb];cases so with
   |none=>rfl
   |some s=>
    rcases dl with h|rfl
    .cases h
    .simp only[V7];rfl
  refine Rg ba b6 b7 am (λs V=>?_) Ω Ω ae da λv I X dG J dH dI cm=>?_
  .obtain⟨dJ,eV,a3⟩:=b9 s V;exact⟨λ_=>by rw[dJ];omega,Ω,a3,Ω⟩
  .have dK:(decide ((64:Int)<(t.length:Int)))=decide (64<t.length):=by rw[V9,ro,ro];omega
   rw[dK]at aU;have dL:=Re aU.symm (λq A=>cL q A) bI.symm bD bL.symm hm bQ.symm bN b0.symm hk dF dH;have P:=Ri dL Ω;have cn:¬0<=bad↔(lex pl).2=s2:=by
    rw[cu];cases (lex pl).2<;>simp
   cases dG with
   |none=>
    obtain⟨aC,e,rfl⟩:=cm λs V=>by cases V
    exact⟨J,aC,e,λ_=>rfl,λf ah=>by rw[P]at ah;cases ah⟩
   |some s=>
    have P:ix pl=if s.hp=[]/\(lex pl).2=s2/\s.big=sp then σ ⟨t,k,acc,X⟩else ν:=P;by_cases E:s.hp=[]/\(lex pl).2=s2/\s.big=sp
    .rw[m3 E]at P;obtain⟨rfl,dM⟩:=dI s rfl ⟨E.1,cn.2 E.2.1,E.2.2⟩;exact⟨J,_,_,(λah=>by rw[P]at ah;cases ah),λf ah=>⟨B,rfl,by rw[P]at ah;cases ah;exact dM⟩⟩
    .rw[m5 E]at P;obtain⟨aC,e,rfl⟩:=cm λs' K ax=>by
      cases K;exact E ⟨ax.1,cn.1 ax.2.1,ax.2.2⟩
     exact⟨J,aC,e,λ_=>rfl,λf ah=>by rw[P]at ah;cases ah⟩
theorem Fe{a b:Int}:aq x8 KP [Δ a,Δ b] w λv I=>v=Δ (min a b)/\Ext w I:=by
 refine aE func208 ?_;rw[aW,ao];exact⟨λh=>⟨by congr 1;omega,Ext.refl _⟩,λh=>⟨by congr 1;omega,Ext.refl _⟩⟩
theorem Rk{s:kA}{x:cI}(h:iE w s x)(O:(x.lines.map (·.1)).Nodup)(P:aQ .i64 w aY t):aq x8 Ls [.agg (fX s).toArray,aY,Δ k] w λv I=>v=Δ (li x k t)/\Ext w I:=by
 obtain⟨⟨g1,Q⟩,⟨an,R⟩,S,ap,L,f,V,E⟩:=id h;refine aE func265 ?_;refine bn λW U au z a=>?_;have a:aj U W bj (fX s):=by
  obtain⟨_,_,_,X⟩:=df Q.ls;obtain⟨_,_,_,Y⟩:=df R.ls;obtain⟨_,_,_,_,_,Z,_⟩:=f.sl;simp only[fX,X,Y,Z]at a ⊢;exact a
 have ab:=f.W z;have ac:L.length=x.lines.length:=by rw[<-E,r9]
 rw[aN bj.p 2 a rfl,aN bj.p 3 a rfl,ek eB.u ab,S];refine ce.range L.length (λi j aa=>Ext U aa/\∃c:Int,j=Δ c/\min c k=mW x k i t) f.le ⟨Ext.refl _,x.other,rfl,(DZ x k t).symm⟩ ?_ ?_
 .rintro i _ aa ad hi ⟨e,c,rfl,q⟩ ae;obtain⟨y,A⟩:=aI (l:=L) hi;obtain⟨gy,G⟩:=V y (x7 A);have B:=z.F e;have af:x.lines[i]?=σ (y.t,y.c):=by rw[<-E,u4,A];rfl
  have H:=D1 (k:=k) O af t;refine bF Ω ?_;refine a6 (λj J=>Ext U J/\∃c:Int,j=Δ c/\min c k=mW x k (i+1) t) ?_ ?_
  .rintro j J ag;rw[aR];exact ae _ _ ag
  intro aA K;have M:=f.W B;rw[cu rfl eB.u cw.i M hi,bH cw.p cw.i rfl (M.range A)];refine bE cw.i λav aw ax ah ai=>?_;refine b3 (vs:=p1 y) cw.i rfl rfl (yJ G) ai λay ak az N=>?_;have r:=ah.put ak Ω;rw[aN cw.p 0 N rfl];refine(yI ((G.ls.W B).W r) ((P.W B).W r)).Y ?_;rintro _ aB _ ⟨rfl,C⟩;rw[ao];refine⟨λhe=>?_,λal=>?_⟩
  .rw[aN cw.p 1 (N.W C) rfl];refine K _ _ ⟨(e.F r).F C,y.c,rfl,?_⟩;rw[H,m3 he.symm]
  .refine K _ _ ⟨(e.F r).F C,c,rfl,?_⟩;rw[H,m5 λhe=>al he.symm,q]
 .rintro _ aa ad ⟨e,c,rfl,q⟩;rw[ac,D0]at q;refine b4 Ω ?_;refine Fe.Y ?_;rintro _ aC _ ⟨rfl,am⟩;exact⟨by rw[q],(z.F e).F am⟩
theorem Rl{dd:x4}(h:aQ .i64 w dd l)(L:l.Nodup)(ah:l.length<=64):aq x8 Lr [dd] w λv I=>Ext w I/\∃g,aH .i64 al I g v (bJ l)/\∀r,lc v r->w.heap.size<=r:=by
 refine aE func264 ?_;have M:∀i,i<=64->(((X0 i).map λ(v:Nat)=>(v:Int)).filter λv=>decide (v∈l)).length<=i:=λi _=>by
  have:=List.length_filter_le (λv=>decide (v∈l)) ((X0 i).map λ(v:Nat)=>(v:Int));simp at this;omega
 refine ce.range 64 (λi e U=>Ext w U/\∃g,aH .i64 al U g e (((X0 i).map λ(v:Nat)=>(v:Int)).filter λv=>decide (v∈l))/\∀r,lc e r->w.heap.size<=r) Ω ⟨Ext.refl _,0,aH.nil _ _ _ _,λr y=>by obtain⟨a,n,c,N,ai⟩:=y;cases N⟩ ?_ ?_
 .rintro i e U k hi ⟨z,g,hm,C⟩ hk;refine bF Ω ?_;rw[a8 aB.u (h.W z)];have O:=M i Ω;generalize P:(((X0 i).map λ(v:Nat)=>(v:Int)).filter λv=>decide (v∈l))=A at hm O;refine ce.range l.length (λj e aa=>Ext w aa/\∃g,aH .i64 al aa g e (A++(if(i:Int)∈l.take j then[(i:Int)]else[]))/\∀r,lc e r->w.heap.size<=r) h.le ⟨z,g,by simpa using hm,C⟩ ?_ ?_
  .rintro j Q aa R S ⟨q,E,f,s⟩ V;obtain⟨x,J⟩:=aI (l:=l) S;refine bF Ω ?_;refine a6 (λe B=>Ext w B/\∃g,aH .i64 al B g e (A++(if(i:Int)∈l.take (j+1)then[(i:Int)]else[]))/\∀r,lc e r->w.heap.size<=r) ?_ ?_
   .rintro aj B W;rw[aR];exact V _ _ W
   intro aA K;have G:(i:Int)∈l.take (j+1)↔(i:Int)∈l.take j\/(i:Int)=x:=by
    rw[u9,J,j4,j5,Y1]
   rw[bk aB.u ay.i Ψ (h.W q) J,bm,ao];refine⟨λhe=>?_,λX=>?_⟩
   .have Y:(i:Int)∉l.take j:=λhm=>by
     obtain⟨p,ae⟩:=Y8.1 hm;have Z:p<j:=by have:=(x6.1 ae).1;rw[Z3]at this;omega
     rw[V1 Z,<-he]at ae;have:=l1 L ae J;omega
    rw[m5 Y,T4]at f;refine e6 au.u al.i rfl λa3 ak B am H ab=>?_;refine jD au.u al.i rfl (f.W H) ab.ls Θ Θ λan ac ap ad af ag=>?_;have av:=q.size;have z3:=H.size;refine K _ _ ⟨(q.F H).then ag λr y he=>by have:=s r he;omega,ac,?_,λr y=>(af r y).elim (s r) λh=>Ω⟩;rw[m3 (G.2 (.inr he.symm))];exact ad
   .refine K _ _ ⟨q,E,?_,s⟩;have:((i:Int)∈l.take (j+1))=((i:Int)∈l.take j):=propext ⟨λax=>(G.1 ax).resolve_right λhe=>X he.symm,λax=>G.2 (.inl ax)⟩;simp only[this];exact f
  .rintro Q aa R ⟨q,E,f,s⟩;rw[o9]at f;refine b4 Ω ?_;rw[aR];refine hk _ _ ⟨q,E,?_,s⟩;rw[List.range_succ,Z2,List.filter_append,P];by_cases hm:(i:Int)∈l
   .rw[m3 hm]at f;simpa[hm]using f
   .rw[m5 hm]at f;simpa[hm]using f
 .rintro e U k ⟨z,g,hm,C⟩;rw[aW,ao];exact⟨λh=>Ω,λ_=>⟨z,g,hm,C⟩⟩
structure fY where
 aZ:x4
 hv:x4
 bf:x4
 sc:Λ
 cs:Λ
def ea(h:fY):List x4:=[h.aZ,h.hv,h.bf]
def rh(h:fY)(r:Nat):Prop:=lc h.bf r\/lc h.aZ r\/lc h.hv r
def gv(w:x5)(d6:Λ)(h:fY):Prop:=(∃g,aH .i64 al w g h.aZ h.sc)/\(∃g,aH .i64 al w g h.hv (b5 d6 h.sc))/\∃g,aH .i64 ay w g h.bf h.cs
theorem gv.W{h:fY}(ax:gv w d6 h)(J:Ext w I):gv I d6 h:=by
 obtain⟨⟨g1,h1⟩,⟨a,e⟩,f,j⟩:=ax;exact⟨⟨g1,h1.W J⟩,⟨a,e.W J⟩,f,j.W J⟩
theorem gv.one{h:fY}(ax:gv w d6 h):∀u∈ea h,u.oneCell'=s2:=by
 obtain⟨⟨g1,h1⟩,⟨f,a⟩,j,e⟩:=ax;intro u hu;simp[ea]at hu;rcases hu with rfl|rfl|rfl
 .exact h1.ls.cells.2
 .exact a.ls.cells.2
 .exact e.ls.cells.2
theorem Ff{f:cn}{x:cI}{Y:kA}(h:iE w Y x)(az:fG N f)(bo:x∈f.ho)(bV:aH .i64 ay w gz sv f.d6):
  aq x8 KM [.agg (fX Y).toArray,sv,Δ f.k] w λv I=>Ext w I/\∃c:fY,v= .agg (ea c).toArray/\c.sc=bJ x.scope/\c.cs=(jY f.d6 f.k x).2/\gv I f.d6 c/\∀r,rh c r->w.heap.size<=r:=by
 obtain⟨Z,bW,du⟩:=az.ho x bo;have ac:=uW Z az.d6.2.1;have bp:=uV ac Z.scope.1;have dv:(bJ x.scope).length<=6:=by rw[bp.length_eq];exact bW
 have bY:=q6 az bo;have dw:=DS x.scope;obtain⟨⟨g1,aC⟩,⟨dx,bZ⟩,dy,dz,b0⟩:=id h;refine aE func204 ?_;refine bn λaT U dA bq ad=>?_;have ad:aj U aT bj (fX Y):=by
  obtain⟨L,b1,_⟩:=b0;obtain⟨_,_,_,C⟩:=df aC.ls;obtain⟨_,_,_,J⟩:=df bZ.ls;obtain⟨_,_,_,_,_,b2,_⟩:=b1.sl;simp only[fX,C,J,b2]at ad ⊢;exact ad
 refine bE ba.i λb6 aa dC aU aV=>?_;have aW:=bq.F aU;rw[aN bj.p 0 (ad.W aU) rfl];refine(Rl (aC.ls.W aW) Z.scope.1 Ω).Y ?_;rintro aZ dD _ ⟨aD,gr,a2,dE⟩;rw[ds (cs:=#[aZ,.slice ν 0 0,.slice ν 0 0]) (by obtain⟨_,_,_,rfl⟩:=df a2.ls;kernel_rfl)];refine bE ba.i λB dF b8 b9 cb=>?_;refine b3 (vs:=[aZ,.slice ν 0 0,.slice ν 0 0]) ba.i rfl rfl (by intro u hu;simp at hu;rcases hu with rfl|rfl;exact a2.ls.cells.2;rfl) cb λQ cc dG S=>?_;have aF:=b9.put cc Ω;have br:=(aW.F aD).F aF;have R:=a2.W aF;have bt:=((ad.W aU).W aD).W aF;have bu:=(aV.W aD).W aF;have dH:=aW.size;have z3:=aD.size;have dI:=br.size;have dJ:=S.lt;have dK:=b8;rw[aN ba.p 0 S rfl,a8 au.u R.ls];have bx:∀v∈bJ x.scope,0<=v/\v<f.d6.length:=λv hm=>Z.scope.2 v (by grind);have bb:∀{I:x5},ai (λr=>r=B\/Q.heap.size<=r) Q I->Ext w I:=λbc=>br.then bc Ω;have cf:(b5 f.d6 (bJ x.scope)).length=(bJ x.scope).length:=by simp[b5]
 refine b7.range (bJ x.scope).length (λi W=>ai (λr=>r=B\/Q.heap.size<=r) Q W/\∃hv gs,aj W B ba [aZ,hv,.slice ν 0 0]/\aH .i64 al W gs hv ((b5 f.d6 (bJ x.scope)).take i)/\∀r,lc hv r->Q.heap.size<=r) Ω
  ⟨ai.refl _ _,_,0,S,aH.nil _ _ _ _,λr s=>by obtain⟨a,n,c,C,J⟩:=s;cases C⟩ ?_ ?_
 .rintro i W cg hi ⟨K,hv,gs,ch,af,ci⟩ cj;obtain⟨v,bz⟩:=aI (l:=(bJ x.scope)) hi;have dL:=bx v (x7 bz);have ck:=bG R K λr s V=>by
   rcases V with rfl|V
   .exact cB R S Φ s rfl
   .obtain⟨C,J⟩:=cd R s;omega
  refine bF Ω ?_;rw[bk au.u al.i Ψ ck.ls bz];intro dM ag _ _;have bA:=ch.W ag;have cl:f.d6[v.toNat]?=σ (f.d6.getD v.toNat 0):=by grind
  rw[aN ba.p 1 bA rfl,ft (y:=v) (i:=v.toNat) Ω aB.u ay.i Ψ (bV.W ((bb K).F ag)).ls cl];refine e6 au.u al.i rfl λdN dO cm dP ah cp=>?_;refine⟨.inl ah,?_⟩;have cq:=(af.W ag).W ah;refine jD au.u al.i rfl cq cp.ls Θ Θ λcr cu dQ bB dR bC=>?_;have cw:=bA.W ah;have cz:=cw.ab bC (by grind);rw[a1 ba.p rfl];refine bw (g:=B) (o:=1) au.i bB.ls.cells.1 bB.ls.cells.2 cz Ξ λcA cC dS cD=>?_;rw[aR];have cE:ai (λr=>lc hv r\/r=B) cm cA:=(bC.Y (by grind)).F (cC.Y Ω);have cF:=K.size;have dT:=(ag.F ah).size;refine cj _ ⟨((K.F (ag.ab _)).F (ah.ab _)).F (cE.Y (by grind)),cr,cu,cD,?_,by grind⟩
  grind [b5,u9,bG]
 rintro W cg ⟨K,hv,gs,bD,af,ci⟩;rw[<-cf,o9]at af;refine b4 Ω ?_;have dU:=bb K;have aG:ct (b5 f.d6 (bJ x.scope)):=⟨Ω,pT az.d6.2.2 bx⟩;have cG:=bY.small;rw[aN ba.p 1 bD rfl];refine(sb _ af.ls aG).Y ?_;rintro cH E _ ⟨aJ,cJ⟩;have dV:=jt aG.2;have dW:=nT aG.2;have dX:aX (b5 f.d6 (bJ x.scope))<=4096:=cG;rw[fE ca.u cJ];have aK:ai (λr=>r=B\/Q.heap.size<=r) Q E:=K.F (aJ.ab _);have ak:=bD.W aJ;have bI:=af.W aJ;have cF:=K.size;have dY:=aJ.size;have bd:aH .i64 al E gr aZ (bJ x.scope):=bG R aK λr s V=>by
  rcases V with rfl|V
  .exact cB R S Φ s rfl
  .obtain⟨C,J⟩:=cd R s;omega
 have bK:aj E aT bj (fX Y):=bt.ab aK λV=>V.elim (λhe=>by subst he;exact m6 (fI bt S) Φ) Ω;have bL:=bu.ab aK λV=>V.elim (λhe=>by have:=aV.lt;omega) λh=>by have:=bu.lt;omega
 have bM:∀{I:x5},ai (λr=>r=B\/E.heap.size<=r) E I->Ext w I:=λbc=>(bb aK).then bc Ω;have dZ:B<E.heap.size:=ak.lt;refine b7.range (bs (b5 f.d6 (bJ x.scope))).length (λq z=>ai (λr=>r=B\/E.heap.size<=r) E z/\∃bf am,aj z B ba [aZ,hv,bf]/\aH .i64 ay z am bf (((bs (b5 f.d6 (bJ x.scope))).take q).map λt=>li x f.k (qW x.scope (bJ x.scope) t))/\∀r,lc bf r->E.heap.size<=r) Ω
  ⟨ai.refl _ _,_,0,ak,aH.nil _ _ _ _,λr s=>by obtain⟨a,n,c,C,J⟩:=s;cases C⟩ ?_ ?_
 .rintro q z cK cL ⟨H,bf,am,an,ap,cM⟩ cN;obtain⟨t,bN⟩:∃t,(bs (b5 f.d6 (bJ x.scope)))[q]?=σ t:=⟨_,v8 cL⟩;have eb:t.length=(bJ x.scope).length:=by
   have ec:=se aG.2 (i:=q) Ω
   grind [kN]
  have be:=bM H;have cO:aw.rep (α:=List (Λ)) s2 (e7 W.heap.size) bX z [cH] (bs (b5 f.d6 (bJ x.scope))):=by grind [aw.ab]
  have X:∀{M:Nat}{O:x4}{P:Λ},aH .i64 al E M O P->aH .i64 al z M O P:=λhm=>bG hm H λr s V=>by
   rcases V with rfl|V
   .exact cB hm ak Φ s rfl
   .obtain⟨C,J⟩:=cd hm s;omega
  have bO:=X bd;have bP:aj z aT bj (fX Y):=bK.ab H λV=>V.elim (λhe=>by subst he;exact m6 (fI bK ak) Φ) Ω;refine bF Ω ?_;refine fF (α:=Λ) rfl rfl ca.u au.i Ψ cO bN λaY cP=>?_;have cQ:=c3 cP;rw[aN bj.p 0 bP rfl,a8 aB.u (aC.ls.W be)];have z12:=H.size;refine ce.range x.scope.length (λp G aL=>Ext z aL/\∃go,aH .i64 ay aL go G ((x.scope.take p).map λv=>t.getD ((bJ x.scope).idxOf v) 0)/\∀r,lc G r->z.heap.size<=r) Ω ⟨Ext.refl _,0,aH.nil _ _ _ _,λr s=>by obtain⟨a,n,c,C,J⟩:=s;cases C⟩ ?_ ?_
  .rintro p G aL cR ae ⟨av,go,aM,cS⟩ ed;obtain⟨v,bQ⟩:=aI (l:=x.scope) ae;have cT:v∈bJ x.scope:=bp.mem_iff.2 (x7 bQ);refine bF Ω ?_;have cU:=be.F av;have cV:=an.W av;have cW:=bO.W av;rw[bk aB.u ay.i Ψ (aC.ls.W cU) bQ,aN ba.p 0 cV rfl,a8 au.u cW.ls];generalize ee:((x.scope.take p).map λv=>t.getD ((bJ x.scope).idxOf v) 0)=A at aM;have ef:A.length=p:=by grind
   refine ce.range (bJ x.scope).length (λj G aO=>Ext z aO/\∃go,aH .i64 ay aO go G (A++if v∈(bJ x.scope).take j then[t.getD ((bJ x.scope).idxOf v) 0]else[])/\∀r,lc G r->z.heap.size<=r) Ω (by grind) ?_ ?_
   .rintro j cX aO cY cZ ⟨ax,c0,aP,c1⟩ eg;obtain⟨u,hu⟩:=aI (l:=(bJ x.scope)) cZ;have c2:=bO.W ax;refine bF Ω ?_;refine a6 (λG bg=>Ext z bg/\∃go,aH .i64 ay bg go G (A++if v∈(bJ x.scope).take (j+1)then[t.getD ((bJ x.scope).idxOf v) 0]else[])/\∀r,lc G r->z.heap.size<=r) ?_ ?_
    .rintro eh bg ei;rw[aR]
     grind
    intro aA c4;have ej:v∈(bJ x.scope).take (j+1)↔v∈(bJ x.scope).take j\/v=u:=by
     grind [u9]
    rw[bk au.u al.i Ψ c2.ls hu,bm,ao];refine⟨λhe=>?_,λek=>?_⟩
    .have c5:v∉(bJ x.scope).take j:=λhm=>by
      grind [Y8]
     rw[m5 c5,T4]at aP;have c6:t[j]?=σ (t.getD ((bJ x.scope).idxOf v) 0):=by
      grind
     rw[bk au.u al.i Ψ (cQ.W ax) c6];refine e6 aB.u ay.i rfl λem en eo ep bh c7=>?_;refine jD aB.u ay.i rfl (aP.W bh) c7.ls Θ Θ λer c8 es et eu c9=>?_;have ev:=ax.size;have ew:=bh.size;refine c4 _ _ ⟨(ax.F bh).then c9 (by grind),c8,?_,by grind⟩
     grind
    grind
   .rintro cX aO cY ⟨ax,c0,aP,c1⟩;rw[o9,m3 cT]at aP;refine b4 Ω ?_;rw[aR]
    grind [u9]
  .rintro G aL cR ⟨av,go,aM,cS⟩;rw[o9]at aM;refine b4 Ω ?_;intro ey bR _ _;have aQ:=av.F bR;have da:=an.W aQ;have db:=bP.W aQ;rw[aN ba.p 2 da rfl,bH bj.p bj.i rfl db.range];refine(Rk (h.W (be.F aQ)) Z.lines.1 (aM.ls.W bR)).Y ?_;rintro _ ez _ ⟨rfl,bi⟩;refine⟨.inl bi,?_⟩;refine e6 aB.u ay.i rfl λeA eB dc eC bS dd=>?_;refine⟨.inl (bi.F bS),?_⟩;have aS:=(aQ.F bi).F bS;have de:=ap.W aS;refine jD aB.u ay.i rfl de dd.ls Θ Θ λdg dh eD bl eE bT=>?_;have di:=an.W aS;have dj:=di.ab bT (by grind);rw[a1 ba.p rfl];refine bw (g:=B) (o:=2) aB.i bl.ls.cells.1 bl.ls.cells.2 dj Ξ λdk bU eF dl=>?_;rw[aR];have dm:ai (λr=>lc bf r\/r=B) dc dk:=(bT.Y (by grind)).F (bU.Y Ω);have eH:=aS.size;refine cN _ ⟨(H.F (aS.ab _)).F (dm.Y (by grind)),dg,dh,dl,?_,by grind⟩;rw[u9,bN,j4,Z2];exact bG bl bU (by grind)
 .rintro z cK ⟨H,bf,am,an,ap,cM⟩;rw[o9]at ap;refine b4 Ω ?_;have X:∀{M:Nat}{O:x4}{P:Λ},aH .i64 al E M O P->aH .i64 al z M O P:=λhm=>bG hm H λr s V=>by
   rcases V with rfl|V
   .exact cB hm ak Φ s rfl
   .obtain⟨C,J⟩:=cd hm s;omega
  let c:fY:=⟨aZ,hv,bf,bJ x.scope,(jY f.d6 f.k x).2⟩;have dn:gv z f.d6 c:=⟨⟨gr,X bd⟩,⟨gs,X bI⟩,am,ap⟩;rw[bH ba.p ba.i rfl (show z.rangeAt B 0 (ea c)from an.range)];have dp:=bL.ab H λV=>V.elim (λhe=>by have:=aV.lt;omega) λh=>by have:=bL.lt;omega
  refine b3 (vs:=ea c) ba.i rfl rfl dn.one dp λdq dr eI dt=>?_;rw[fu ba.p ba.i rfl dt.range];have a7:∀{M:Nat}{O:x4}{P:Λ}{e:o4},e≠ba->aH .i64 e z M O P->aH .i64 e dq M O P:=by grind [bG,cB]
  refine⟨(bM H).then dr λr s he=>by have he:r=b6:=he;have:=bq.size;omega,c,rfl,rfl,rfl,⟨⟨gr,a7 Φ (X bd)⟩,⟨gs,a7 Φ (X bI)⟩,am,a7 Φ ap⟩,λr s=>?_⟩;rcases s with s|s|s
  all_goals grind
theorem Fg{h:fY}{g:Nat}(e:gv w d6 h)(a:aj I g ba (x4.agg (ea h).toArray).cells.toList):aj I g ba (ea h):=by
 obtain⟨⟨g1,h1⟩,⟨x,f⟩,y,j⟩:=e;obtain⟨_,_,_,q⟩:=df h1.ls;obtain⟨_,_,_,r⟩:=df f.ls;obtain⟨_,_,_,s⟩:=df j.ls;simp only[ea,q,r,s]at a ⊢;exact a
theorem Rm{a b:fY}(R:gv w d6 a)(S:gv w d6 b)(X:l3 a.sc)(Y:l3 b.sc):aq x8 Bp [.agg (ea a).toArray,.agg (ea b).toArray] w λv I=>v= .bool (decide (dv a.sc<dv b.sc))/\Ext w I:=by
 obtain⟨⟨ga,V⟩,_⟩:=id R;obtain⟨⟨aw,Z⟩,_⟩:=id S;have H:=(yb X Y).1;refine aE func206 ?_;refine bn λg1 U ax ab L=>?_;refine bn λac aa ay W M=>?_;have L:=(Fg R L).W W;have M:=Fg S M;have q:=ab.F W;have r:=V.ls.W q;have A:=Z.ls.W q;have s:∀{I:x5},Ext aa I->∀{K:x4->Prop},ad x8 (u6 ba (Γ g1) 0) I (λt=>ad x8 (u5 au t) I K)=K a.aZ:=λJ K=>by
  rw[aN ba.p 0 (L.W J) rfl]
 have B:∀{I:x5},Ext aa I->∀{K:x4->Prop},ad x8 (u6 ba (Γ ac) 0) I (λt=>ad x8 (u5 au t) I K)=K b.aZ:=λJ K=>by
  rw[aN ba.p 0 (M.W J) rfl]
 rw[s (Ext.refl _),a8 au.u r,B (Ext.refl _),a8 au.u A,bM,ao];refine⟨λae=>?_,λaf=>?_⟩
 .rw[s (Ext.refl _),a8 au.u r,B (Ext.refl _),a8 au.u A,aW];refine⟨?_,q⟩;congr 1;rw[V9,ro,ro,H];exact⟨λh=>.inl Ω,λh=>by rcases h with h|h<;>omega⟩
 have ag:a.sc.length=b.sc.length:=by have:=X1.1 af;omega
 rw[s (Ext.refl _),a8 au.u r];refine ce.range a.sc.length (λi _ N=>Ext aa N/\∀(j:Nat)(x y:Int),j<i->a.sc[j]?=σ x->b.sc[j]?=σ y->x=y) V.ls.le ⟨Ext.refl _,λj x y ah=>Ω⟩ ?_ ?_
 .rintro i _ N k hi ⟨O,C⟩ hk;obtain⟨x,J⟩:=aI (l:=a.sc) hi;obtain⟨y,E⟩:=aI (l:=b.sc) (i:=i) Ω;have e:=vc C Ω Ω;have ai:a.sc.drop i=x::a.sc.drop (i+1):=by rw[X4 hi,(x6.1 J).2]
  have aj:b.sc.drop i=y::b.sc.drop (i+1):=by rw[X4 (show i<b.sc.length by omega),(x6.1 E).2]
  rw[ai,aj]at e;simp only[j3]at e;refine bF Ω ?_;intro az ak _ _;have f:=O.F ak;rw[s f,bk au.u al.i Ψ (r.W f) J,B f,bk au.u al.i Ψ (A.W f) E,bM,ao];refine⟨λae=>?_,λhe=>?_⟩
  .intro aA am _ _;have z:=f.F am;rw[s z,bk au.u al.i Ψ (r.W z) J,B z,bk au.u al.i Ψ (A.W z) E,aW];refine⟨?_,q.F z⟩;congr 1;rw[V9,ro,ro,H,e];by_cases G:x<y
   .rw[m3 G];exact⟨λ_=>.inr ⟨ag,Ω⟩,λ_=>G⟩
   .rw[m5 G,m3 (show y<x by omega)];exact⟨λh=>m6 h G,λh=>by rcases h with h|h<;>omega⟩
  .rw[aR];refine hk _ _ ⟨f,λj an ap ah P Q=>?_⟩;by_cases av:j=i
   .subst av;rw[J]at P;rw[E]at Q;cases P;cases Q;exact X1.1 he
   .exact C j an ap Ω P Q
 .rintro _ N k ⟨O,C⟩;rw[aW,ao];refine⟨λh=>Ω,λ_=>⟨?_,q.F O⟩⟩;congr 1;symm;rw[decide_eq_false_iff_not,H];have e:=vc C (o6 _) Ω;rw[List.drop_length,show b.sc.drop a.sc.length=[]from List.drop_eq_nil_of_le Ω]at e;rw[e];simp only[j3];omega
def dV(h:fY):c5:=(h.sc,h.cs)
def mb(w:x5)(B g:Nat)(v:x4)(d6:Λ)(L:List fY):Prop:=bo ea 3 ba w g v L/\(∀h∈L,gv w d6 h/\∀r,rh h r->B<=r)/\(∀(i j:Nat)x y,L[i]?=σ x->L[j]?=σ y->i≠j->∀r,lc x.bf r->¬lc y.bf r)/\∀r,hx v r->B<=r
theorem oQ{h:fY}(z:gv w d6 h)(s:ai S w I)(x:∀r,S r->(∃e c,aj w r e c/\e≠al/\e≠ay)\/w.heap.size<=r\/((∃c,aj w r ay c)/\¬lc h.bf r)):gv I d6 h:=by
 obtain⟨⟨g1,h1⟩,⟨A,B⟩,C,j⟩:=z;have y:∀{g:Nat}{v:x4}{l:Λ},aH .i64 al w g v l->aH .i64 al I g v l:=λhm=>bG hm s λr a V=>by
  rcases x r V with⟨e,c,f,q,_⟩|E|⟨⟨c,f⟩,_⟩
  .exact cB hm f (λhe=>q he.symm) a rfl
  .obtain⟨F,G⟩:=cd hm a;omega
  .exact cB hm f Φ a rfl
 refine⟨⟨g1,y h1⟩,⟨A,y B⟩,C,bG j s λr a V=>?_⟩;rcases x r V with⟨e,c,f,_,q⟩|E|⟨_,H⟩
 .exact cB j f (λhe=>q he.symm) a rfl
 .obtain⟨F,G⟩:=cd j a;omega
 .exact H a
theorem mb.W{g:Nat}{v:x4}{L:List fY}(h:mb w B g v d6 L)(J:Ext w I):mb I B g v d6 L:=⟨h.1.W J,λx a=>⟨(h.2.1 x a).1.W J,(h.2.1 x a).2⟩,h.2.2⟩
section
variable{α:Type}{f:α->List x4}{k:Nat}{P:W0}{w:x5}{e:o4}{g:Nat}{v:x4}{L:List α}
theorem Rn{M:List α}(h:bo f k e w g v L)(ah:L.map f=M.map f):bo f k e w g v M:=by
 have j:L.length=M.length:=by have:=congrArg List.length ah;simpa using this
 have hm:L.flatMap f=M.flatMap f:=by rw[List.flatMap_def,List.flatMap_def,ah]
 refine⟨by rw[<-j,<-hm];exact h.1,λa q=>?_⟩;obtain⟨b,r,he⟩:=l9.1 (show f a∈L.map f by rw[ah];exact l9.2 ⟨a,q,rfl⟩);rw[<-he];exact h.2 b r
theorem Fh{t:o4}{b l be:Nat}{low high:Option x4}{K:x4->Prop}(s:P.underlying t=σ (.slice e))(hi:aV P e k b z)(h:bo f k e w g v L)(h1:nL low l)(x:nM high L.length be)(q:l<=be)(ax:be<=L.length)(y:∀r,(∀I,bo f k e I g v L->cq I k r ((L.drop l).take (be-l)).length (((L.drop l).take (be-l)).flatMap f))->K r):ad P (V5 t v low high ν) w K:=by
 have A:=h.sl;obtain⟨_,C,o,base,cap,rfl,E,_⟩:=A;rw[iI s hi h1 x fD q Ω (o6 _)];refine y _ λI j=>?_;have:=cq.part (l:=l) (h:=be) (m:=cap) j.sl q ax Ω (o6 _);rw[uO l j.2,sw (be-l) (λa B=>j.2 a (List.mem_of_mem_drop B))]at this;have el:((L.drop l).take (be-l)).length=be-l:=by rw[Z3,List.length_drop];omega
 rw[el];exact this
theorem yL{t Q:o4}{b:Nat}{x:x4}{M:List α}(A:P.underlying t=σ (.slice e))(hi:aV P e k b z)(G:z.cells.size=k)(h:bo f k e w g v L)(J:cq w k x M.length (M.flatMap f))(R:∀a∈M,(f a).length=k)(h1:∀a∈M,∀u∈f a,u.oneCell'=s2)(B:(L.length+M.length)*b<=140737488355328)(H:L.length+M.length<=9223372036854775807)(N:∀j q I,bo f k e I q j (L++M)->(∀r,hx j r->hx v r\/w.heap.size<=r)->ai (λr=>hx v r) w I->K j I):aM P (b9 #[t,t] Q #[v,x]) w K:=by
 have O:∀u∈M.flatMap f,u.oneCell'=s2:=λu hu=>by
  obtain⟨a,S,hu⟩:=List.mem_flatMap.1 hu;exact h1 a S u hu
 have C:∀j q I,cf I q e k j (L.length+M.length) (L.flatMap f++M.flatMap f)->bo f k e I q j (L++M):=λj q I hm=>⟨by simpa using hm,λb B=>by
  rcases j5.1 B with be|be
  .exact h.2 b be
  .exact R b be⟩
 rcases h.1.2 with⟨ac,T⟩|⟨cap,cs,ac,U,_⟩
 .have hm:cf w w.heap.size e k v L.length (L.flatMap f):=⟨h.1.1,.inl ⟨ac,T⟩⟩;subst ac;refine pA A A hi G hm J O (by simpa using B) (by simpa[maxLen]using H) λj q I E s F=>N j q I (C _ _ _ s) (λr y=>.inr ?_) (F.Y λr y h=>Ω);have:=((C _ _ _ s).lc y).1;omega
 .refine pA A A hi G h.1 J O (by simpa using B) (by simpa[maxLen]using H) λj q I E s F=>N j q I (C _ _ _ s) (λr y=>?_) (F.Y λr y h=>⟨_,_,_,ac,h.symm⟩);have:=((C _ _ _ s).lc y).1;rcases E with E|E
  .exact .inl ⟨_,_,_,ac,by show g=r;omega⟩
  .exact .inr Ω
theorem Ro{t:o4}{b:Nat}(a:P.underlying t=σ (.slice e))(hi:aV P e k b z)(h:∀v g I,g=w.heap.size->Ext w I->bo f k e I g v []->K v I):aM P (Y4 t 0 #[]) w K:=
 lb a hi Ω (cs:=#[]) (by simp[Instr.fill]) λg I j q r=>by
  exact h _ g I j q ⟨by simpa using cf.full (n:=0) r Ξ (by simp[maxLen]),λc s=>by cases s⟩
end
theorem yM{α:Type}{A B:List α}{s:Nat}{a:α}(V:s<B.length)(e:A[s]?=σ a):(A.take s++B.drop s).set s a=A.take (s+1)++B.drop (s+1):=by
 have f:=(x6.1 e).1;have h1:(A.take s).length=s:=by rw[Z3];omega
 rw[U7 _ _ Ω,h1,V7,X4 V,List.set_cons_zero,u9,e,j4,T1];rfl
theorem Fi{α:Type}{A B:List α}{s:Nat}(V:s<=A.length):(A.take s++B.drop s)[s]?=B[s]?:=by
 have h1:(A.take s).length=s:=by rw[Z3];omega
 rw[X2 Ω,h1,V7,List.getElem?_drop,Nat.add_zero]
theorem Fj{g:c5}:∀{l:List c5}{i:Nat},(∀p<i,∀x,l[p]?=σ x->dv x.1<dv g.1)->i<=l.length->(∀x,l[i]?=σ x->¬dv x.1<dv g.1)->jy g l=l.take i++g::l.drop i
 |[],i,_,a,_=>by
  have:i=0:=by simpa using a
  subst this;rfl
 |x::l,0,_,_,e=>by
  unfold jy;rw[m5 (e x rfl)];rfl
 |x::l,i+1,h1,a,e=>by
  unfold jy;rw[m3 (h1 0 Ω x rfl),Fj (λp ae y f=>h1 (p+1) Ω y f) (by simpa using a) (λy f=>e y f)];rfl
theorem Rp{g:Nat}{v:x4}{L:List fY}{h:fY}{s:Nat}{K:Unit->x5->Prop}(f:mb w B g v d6 L)(E:L[j]?=σ h)(V:s<h.cs.length)(X:∀I,ai (λr=>lc h.bf r) w I->(∀r,lc h.bf r->∃c,aj w r ay c)->mb I B g v d6 (L.set j {h with cs:=h.cs.set s n})->K () I):
  ad x8 (n9 aB h.bf (Δ (s:Int))) w λt=>aM x8 (o7 ay t (Δ n)) w K:=by
 obtain⟨h1,O,P,Y⟩:=f;have M:=(x6.1 E).1;obtain⟨Q,Z⟩:=O h (x7 E);obtain⟨_,_,R,F⟩:=id Q;have G:∀r,lc h.bf r->∃c,aj w r ay c:=λr f=>by
  obtain⟨rfl,_⟩:=cd F f;obtain⟨_,⟨ac,_⟩|⟨cap,full,_,z,_⟩⟩:=F
  .obtain⟨a,n,c,e,_⟩:=f;rw[ac]at e;cases e
  .exact⟨_,z⟩
 have aa:∀r,r=R->lc h.bf r:=λr he=>by
  subst he;obtain⟨_,⟨_,ax⟩|⟨cap,full,e,z,_⟩⟩:=F
  .omega
  .exact⟨_,_,_,e,rfl⟩
 rw[ju rfl aB.u ay.i F V];refine jv ay.i F V λI A az af=>?_;have A:=A.Y λr _ he=>aa r he;refine X I A G ⟨?_,λx J=>?_,λp q x y J ag ah r ak al=>?_,Y⟩
 .refine Rn (h1.ab A λr f V=>?_) ?_
  .obtain⟨c,z⟩:=G r V;exact cP h1 z Φ f
  .rw[U2];symm;refine Y3 λp=>?_;rw[X7,u4];by_cases ae:j=p
   .subst ae;rw[m3 rfl,m3 (by simpa using M),E];rfl
   .rw[m5 ae]
 .have am:x={h with cs:=h.cs.set s n}\/∃p,p≠j/\L[p]?=σ x:=by
   obtain⟨p,ae⟩:=Y8.1 J;rw[X7]at ae;by_cases C:j=p
   .subst C;rw[m3 rfl,m3 M]at ae;exact .inl (Z5 ae).symm
   .rw[m5 C]at ae;exact .inr ⟨p,λh=>C h.symm,ae⟩
  rcases am with rfl|⟨p,an,ae⟩
  .obtain⟨⟨g1,S⟩,⟨ao,U⟩,_⟩:=Q;refine⟨⟨⟨g1,bG S A λr f V=>?_⟩,⟨ao,bG U A λr f V=>?_⟩,R,af⟩,Z⟩
   .obtain⟨c,z⟩:=G r V;exact cB S z Φ f rfl
   .obtain⟨c,z⟩:=G r V;exact cB U z Φ f rfl
  .obtain⟨ap,aq⟩:=O x (x7 ae);refine⟨oQ ap A λr f=>.inr (.inr ⟨G r f,λN=>P p j x h ae E an r N f⟩),aq⟩
 .have W:∀{p:Nat}{x:fY},(L.set j {h with cs:=h.cs.set s n})[p]?=σ x->∃H,L[p]?=σ H/\H.bf=x.bf:=λ{p x}J=>by
   rw[X7]at J;by_cases C:j=p
   .subst C;rw[m3 rfl,m3 M]at J;cases J;exact⟨h,E,rfl⟩
   .rw[m5 C]at J;exact⟨x,J,rfl⟩
  obtain⟨H,N,ex⟩:=W J;obtain⟨au,av,aw⟩:=W ag;exact P p q H au N av ah r (by rw[ex];exact ak) (by rw[aw];exact al)
def na(f:cn)(j:Nat):List c5:=(((gm f).take j).filter gl).foldl (λl g=>jy g l) []
theorem Fk{f:cn}{x:c5}(h:(gm f)[j]?=σ x):na f (j+1)=if gl x then jy x (na f j)else na f j:=by
 unfold na;rw[u9,h,j4,List.filter_append,List.foldl_append];cases V:gl x with
 |true=>rw[List.filter_cons_of_pos V];rfl
 |false=>rw[List.filter_cons_of_neg (by simp[V])];rfl
theorem Rq(f:cn):na f (gm f).length=gn f:=by unfold na gn;rw[o9]
theorem Fl(g:c5):∀l,(jy g l).length=l.length+1
 |[]=>rfl
 |h::l=>by
  unfold jy;split
  .rw[W5,Fl g l,W5]
  .rfl
theorem Rr{f:cn}(e:j<=(gm f).length):(na f j).length<=j:=by
 induction j with
 |zero=>simp[na]
 |succ j a=>
  have:=a Ω;rw[Fk (v8 Ω)];split
  .rw[Fl];omega
  .omega
theorem Rs{g:Nat}{l:x4}{f:cn}{L:List fY}{Q:x4->x5->Prop}(az:fG N f)(z:mb w B g l f.d6 L)(aD:L.map dV=gm f)(bM:∀out I go s,Ext w I->bo ea 3 ba I go out s->(∀h∈s,h∈L)->(∀h∈s,gv I f.d6 h)->s.map dV=gn f->(∀r,hx out r->w.heap.size<=r)->Q out I):
  ad x8 (X8 #[c8] al #[l]) w λbO=>
 ce (.slice ν 0 0) (Δ 0) w λout aE P bP=>
  ad x8 (aT .lss al sp sp aE bO) P λbQ=>
  Split bQ (cG (α:=x4->x5->Prop) (λ(bR:x4)(R:x5)=>
   ad x8 (aT .add al sp s2 aE (Δ 1)) R λbT=>
   bP bR bT R) λa7=>
  ad x8 (n9 c8 l aE) P λbV=>
  ad x8 (u5 ba bV) P λbW=>
  aM x8 (R3 ba s2 (.tuple #[])) P λak bb=>
  aM x8 (o7 ba ak bW) bb λ(_:Unit)M=>
  ad x8 (u6 ba ak 2) M λbX=>
  ad x8 (u5 aB bX) M λbd=>
  ad x8 (X8 #[aB] al #[bd]) M λbY=>
  ce (.bool sp) (Δ 0) M λbe aF A bZ=>
   ad x8 (aT .lss al sp sp aF bY) A λb0=>
   Split b0 (cG (α:=x4->x5->Prop) (λ(b1:x4)(Y:x5)=>
    ad x8 (aT .add al sp s2 aF (Δ 1)) Y λb5=>
    bZ b1 b5 Y) λbf=>
   ad x8 (n9 aB bd aF) A λb6=>
   ad x8 (u5 ay b6) A λb8=>
   Split be (bf (.bool s2) A)
    (ad x8 (aT .gtr ay sp s2 b8 (Δ 0)) A λca=>
   bf ca A))
    (ad x8 (Op.unary .not be) A λcc=>
  Split cc (a7 out A)
   (b7 (Δ 0) A λi am cd=>
   cG (α:=x4->x5->Prop) (λ(cf:x4)(S:x5)=>
    Split cf (ad x8 (aT .add al sp s2 i (Δ 1)) S λcg=>
   cd cg S)
     (ey S λO=>
  ad x8 (u5 ba ak) O λci=>
  ad x8 (V5 c8 out (σ i) ν ν) O λbg=>
  aM x8 (Y4 c8 1 #[(0,ci)]) O λcj Z=>
   (Ext O Z\/ch x8 (V5 c8 out (σ i) ν ν) bg Z/\True)/\
  aM x8 (b9 #[c8,c8] c8 #[cj,bg]) Z λck bh=>
   aM x8 (Y4 c8 0 #[]) bh λcl an=>
  ad x8 (V5 c8 out ν (σ i) ν) an λcm=>
  aM x8 (b9 #[c8,c8] c8 #[cl,cm]) an λcp bi=>
  aM x8 (b9 #[c8,c8] c8 #[cp,ck]) bi λcq bj=>
  a7 cq bj)) λbl=>
   ey am λE=>
   ad x8 (X8 #[c8] al #[out]) E λcr=>
   ad x8 (aT .lss al sp sp i cr) E λct=>
   Split ct (ad x8 (n9 c8 out i) E λcw=>
   ad x8 (u5 ba cw) E λcz=>
   ad x8 (u5 ba ak) E λcA=>
   aq x8 Bp [cz,cA] E λcB bm=>
    bl cB bm)
    (bl (.bool sp) E))))
   (Q out P):=by
 have cC:L.length=(gm f).length:=by rw[<-aD,r9]
 have dg:L.length<=256:=by have:=(mV az).2.2;have:=az.mO;omega
 have bn:=(mV az).1;rw[ek c8.u z.1];refine ce.range L.length (λj out U=>∃go s,Ext w U/\bo ea 3 ba U go out s/\(∀h∈s,h∈L)/\s.map dV=na f j/\∀r,hx out r->w.heap.size<=r) z.1.le
  ⟨0,[],Ext.refl _,bo.nil _ _ _ _ _,λh ax=>(by cases ax),rfl,λr z=>(gp z).elim⟩ ?_ ?_
 rotate_left
 .rintro out U cD ⟨go,s,bp,aa,H,ac,aG⟩;rw[aW,ao];refine⟨λh=>Ω,λ_=>bM _ _ go s bp aa H (λh ax=>((z.W bp).2.1 h (H h ax)).1) ?_ aG⟩;rw[ac,cC,Rq]
 rintro j out P cD bq ⟨go,s,ap,aa,H,ac,aG⟩ cE;obtain⟨h,ax⟩:=aI (l:=L) bq;have hm:(gm f)[j]?=σ (dV h):=by rw[<-aD,u4,ax];rfl
 have cF:=bn _ (x7 hm);have dh:s.length<=256:=by
  have:=Rr (f:=f) (j:=j) Ω;rw[<-ac,r9]at this;omega
 have af:=z.W ap;obtain⟨aH,_⟩:=af.2.1 h (x7 ax);obtain⟨_,_,di,cH⟩:=id aH;refine bF Ω ?_;refine a6 (λaJ R=>∃aK ag,Ext w R/\bo ea 3 ba R aK aJ ag/\(∀h∈ag,h∈L)/\ag.map dV=na f (j+1)/\∀r,hx aJ r->w.heap.size<=r) ?_ ?_
 .rintro aJ R ⟨aK,ag,h1,cI,cJ,cK,cL⟩;rw[aR];exact cE _ _ ⟨aK,ag,h1,cI,cJ,cK,cL⟩
 intro aA ai;rw[cu rfl c8.u ba.i af.1 bq,bH ba.p ba.i rfl (af.1.range ax)];refine bE ba.i λbr bb dj cM cN=>?_;refine b3 (vs:=ea h) ba.i rfl rfl aH.one cN λM cO dk bs=>?_;have bt:=cM.put cO Ω;have aL:=cH.W bt;rw[aN ba.p 2 bs rfl,a8 aB.u aL.ls];refine ce.range h.cs.length (λq sv A=>Ext M A/\sv= .bool ((h.cs.take q).any λc=>decide (0<c))) aL.ls.le ⟨Ext.refl _,rfl⟩ ?_ ?_
 .rintro q _ A cP cQ ⟨W,rfl⟩ cR;obtain⟨c,bu⟩:=aI (l:=h.cs) cQ;have e:(h.cs.take (q+1)).any (λc=>decide (0<c))=((h.cs.take q).any (λc=>decide (0<c))||decide (0<c)):=by
   rw[u9,bu,j4,List.any_append];simp
  refine bF Ω ?_;refine a6 (λsv Y=>Ext M Y/\sv= .bool ((h.cs.take (q+1)).any λc=>decide (0<c))) ?_ ?_
  .rintro _ Y ⟨cS,rfl⟩;rw[aR];exact cR _ _ ⟨cS,rfl⟩
  intro aA ai;rw[bk aB.u ay.i Ψ (aL.W W).ls bu,cb];refine⟨λcT=>ai _ _ ⟨W,by rw[e,cT];rfl⟩,λah=>?_⟩;rw[bU];exact ai _ _ ⟨W,by rw[e,ah];rfl⟩
 rintro _ A cP ⟨W,rfl⟩;have bw:=bs.W W;have K:=bt.F W;rw[o9];refine b4 Ω ?_;rw[bN,cb];have au:=Fk hm;have cU:(h.cs.any λc=>decide (0<c))=gl (dV h):=rfl;rw[cU];refine⟨λaO=>?_,λV=>?_⟩
 .have aO:gl (dV h)=sp:=by simpa using aO
  rw[aO]at au;exact ai _ _ ⟨go,s,ap.F K,aa.W K,H,by rw[ac,au];rfl,aG⟩
 have V:gl (dV h)=s2:=by simpa using V
 rw[V,m3 rfl]at au;refine⟨λaP am=>∃i:Nat,aP=Δ (i:Int)/\i<=s.length/\Ext A am/\∀p<i,∀x,s[p]?=σ x->dv x.sc<dv h.sc,λaP _=>s.length-(b2 aP).toNat,⟨0,rfl,X9 _,Ext.refl _,λp ae=>Ω⟩,?_⟩;rintro _ am ⟨i,rfl,hi,cV,aQ⟩;refine a6 (λaY S=>Ext A S/\((aY= .bool s2/\i<s.length/\∀x,s[i]?=σ x->dv x.sc<dv h.sc)\/(aY= .bool sp/\∀x,s[i]?=σ x->¬dv x.sc<dv h.sc))) ?_ ?_
 rotate_left
 .intro dl aS;intro E cW _ _;have X:=cV.F cW;have aU:=aa.W (K.F X);rw[ek c8.u aU,aW,ao];refine⟨λaQ=>?_,λdm=>aS _ _ ⟨X,.inr ⟨rfl,λx J=>m6 (x6.1 J).1 Ω⟩⟩⟩;obtain⟨x,J⟩:=aI (l:=s) (i:=i) Ω;have bx:=H x (x7 J);have cX:=(bn (dV x) (by rw[<-aD];exact l9.2 ⟨x,bx,rfl⟩)).scope;have bz:=af.W (K.F X);rw[cu rfl c8.u ba.i aU Ω,bH ba.p ba.i rfl (aU.range J),bH ba.p ba.i rfl (show E.rangeAt br 0 (ea h)from(bw.W X).range)];refine(Rm (bz.2.1 x bx).1 (bz.2.1 h (x7 ax)).1 cX cF.scope).Y ?_;rintro _ bm _ ⟨rfl,bA⟩;by_cases aC:dv x.sc<dv h.sc
  .rw[ms aC];exact aS _ _ ⟨X.F bA,.inl ⟨rfl,Ω,λy C=>by rw[J]at C;cases C;exact aC⟩⟩
  .rw[rc aC];exact aS _ _ ⟨X.F bA,.inr ⟨rfl,λy C=>by rw[J]at C;cases C;exact aC⟩⟩
 rintro _ S ⟨bB,⟨rfl,dn,cY⟩|⟨rfl,cZ⟩⟩
 .rw[bS,aR,lm Ω Ω];refine⟨⟨i+1,rfl,Ω,bB,λp ae x J=>?_⟩,by simp only[b2];omega⟩;by_cases c0:p=i
  .subst c0;exact cY x J
  .exact aQ p Ω x J
 .rw[bc];intro O c1 _ _;have aj:=bB.F c1;have av:=aa.W (K.F aj);have c2:=af.W (K.F aj);have aV:∀x∈s,∀u∈ea x,u.oneCell'=s2:=λx J=>(c2.2.1 x (H x J)).1.one;have c3:∀u∈ea h,u.oneCell'=s2:=aH.one;rw[bH ba.p ba.i rfl (show O.rangeAt br 0 (ea h)from(bw.W aj).range)];refine Fh c8.u ba.i av (pw i _ rfl) la hi (o6 _) λdp bC=>?_;refine jc c8.u ba.i Ω rfl rfl λdq dr Z ds aX bD=>?_;refine⟨.inl aX,?_⟩;have c4:(s.drop i).take (s.length-i)=s.drop i:=j9 (by rw[List.length_drop];omega);rw[c4]at bC;refine yL c8.u ba.i rfl bD (bC Z (av.W aX)) (λ_ _=>rfl) (λa G=>aV a (List.mem_of_mem_drop G)) Θ Θ λdt du bh aZ dw c5=>?_;have bG:=aX.then c5 λr z he=>by have:=(bD.lc he).1;omega
  refine Ro (f:=ea) (k:=3) c8.u ba.i λdx dy an dz a1 aw=>?_;have a2:=bG.F a1;refine Fh c8.u ba.i (av.W a2) kl (px i _ rfl) (X9 _) hi λdA bI=>?_;rw[List.drop_zero,Nat.sub_zero]at bI;refine yL c8.u ba.i rfl aw (bI an (av.W a2)) (λ_ _=>rfl) (λa G=>aV a (R2 G)) Θ Θ λc6 dC bi c7 c9 bJ=>?_;have dD:=bG.size;have dE:=a1.size;have da:=(aZ.W a1).ab bJ λr z V=>by have:=(aZ.lc z).1;have:=(aZ.lc z).2;have:=(aw.lc V).1;omega
  refine yL c8.u ba.i rfl c7 da.sl (λ_ _=>rfl) (λa G=>?_) Θ Θ λdF db bj dc dd de=>?_
  .rcases j5.1 G with G|G
   .rw[Y1.1 G];exact c3
   .exact aV a (List.mem_of_mem_drop G)
  have bK:=a2.then bJ λr z he=>by have:=(aw.lc he).1;omega
  have bL:∀r,hx c6 r->O.heap.size<=r:=λr z=>(c9 r z).elim (λh=>by have:=(aw.lc h).1;omega) λh=>Ω
  have df:=bK.then de λr z he=>by have:=bL r he;omega
  have dG:=(ap.F (K.F aj)).size;have dH:=bK.size;refine ai _ _ ⟨db,_,(ap.F (K.F aj)).F df,dc,λx J=>?_,?_,λr z=>(dd r z).elim (λh=>by have:=bL r h;omega) λh=>Ω⟩
  .rcases j5.1 J with J|J
   .exact H x (R2 (by simpa using J))
   .rcases j5.1 J with J|J
    .rw[Y1.1 J];exact x7 ax
    .exact H x (List.mem_of_mem_drop J)
  .rw[au,<-ac,Fj (λp ae x J=>?_) (by simpa using hi) (λx J=>?_)]
   .simp
   .rw[u4]at J;cases C:s[p]? with
    |none=>rw[C]at J;cases J
    |some y=>rw[C]at J;cases J;exact aQ p ae y C
   .rw[u4]at J;cases C:s[i]? with
    |none=>rw[C]at J;cases J
    |some y=>rw[C]at J;cases J;exact cZ y C
def Rt(w:x5)(f:cn)(v:x4)(I:x5):Prop:=Ext w I/\∃go a,bo ea 3 ba I go v a/\(∀h∈a,gv I f.d6 h/\∀r,rh h r->w.heap.size<=r)/\a.map dV=gn f/\∀r,hx v r->w.heap.size<=r
def nb(k:Int)(sc cs:Λ)(h:c5):c5:=if h.1=sc then(h.1,eP k h.2 cs)else h
theorem Ru{bG:Nat}{f:cn}(cE:p3 w bG f)(Q:fG N f):aq x8 JU [Γ bG] w (Rt w f):=by
 have hk:=Q.k;obtain⟨hv,gz,au,gr,aV,bI,cF⟩:=id cE;obtain⟨X,aY,cG,cH⟩:=id cF;refine aE func134 ?_;rw[aP eA.p 3 aV rfl,ek dN.u aY];refine ce.range X.length (λi l U=>∃g L,Ext w U/\mb U w.heap.size g l f.d6 L/\L.map dV=fa f i) aY.le
  ⟨0,[],Ext.refl _,⟨bo.nil _ _ _ _ _,λh ax=>(by cases ax),λi j x y J=>(by simp at J),λr A=>(gp A).elim⟩,rfl⟩ ?_ ?_
 rotate_left
 .rintro l U cI ⟨g,L,R,A,S⟩;rw[<-cG,Ey]at S;rw[aW,ao];refine⟨λh=>Ω,λ_=>Rs Q A S λout I go cJ J aZ cK W cL cM=>?_⟩;have cN:=R.size;exact⟨R.F J,go,cJ,aZ,λh ax=>⟨W h ax,(A.2.1 h (cK h ax)).2⟩,cL,λr A=>by have:=cM r A;omega⟩
 rintro i l U cI hi ⟨g,L,R,A,S⟩ cO;obtain⟨a2,bK⟩:=aI (l:=X) hi;obtain⟨x,a7⟩:=aI (l:=f.ho) (i:=i) Ω;have bb:=x7 a7;have bc:=cH i a2 x bK a7;have bL:=q6 Q bb;obtain⟨cP,dA,dC⟩:=Ex Q i;have bM:L.length=(fa f i).length:=by rw[<-S,r9]
 have dD:=Q.mO;have bO:=aY.W R;refine bF Ω ?_;refine a6 (λl' aa=>∃g L,Ext w aa/\mb aa w.heap.size g l' f.d6 L/\L.map dV=fa f (i+1)) ?_ ?_
 .rintro l' aa bd;rw[aR];exact cO _ _ bd
 intro aA bP;rw[cu rfl dN.u bj.i bO hi,bH bj.p bj.i rfl (bO.range bK)];refine bE bj.i λav dE dF cQ cR=>?_;refine b3 (vs:=fX a2) bj.i rfl rfl bc.one cR λdG cS dH cT=>?_;have bQ:=cQ.put cS Ω;have dI:=bQ.size;refine a6 (λbi aw=>∃E c,bi=Γ E/\Ext U aw/\aj aw E ba (ea c)/\c.sc=bJ x.scope/\c.cs=(jY f.d6 f.k x).2/\gv aw f.d6 c/\U.heap.size<=E/\∀r,rh c r->U.heap.size<=r) ?_ ?_
 rotate_left
 .intro dJ bR;intro cU bS _ _;have az:=bQ.F bS;have aC:=R.F az;have cV:=cT.W bS;have bT:=aV.W aC;have dK:=az.size;rw[bH bj.p bj.i rfl (show cU.rangeAt av 0 (fX a2)from cV.range),aP eA.p 2 bT rfl,aP eA.p 1 bT rfl];refine⟨?_,?_⟩
  .refine (Ff (bc.W aC) Q bb (bI.W aC)).Y ?_;rintro _ dL _ ⟨be,c,rfl,h1,bg,W,M⟩;refine bE ba.i λE dM bU bh aD=>?_;refine⟨.inl (be.F bh),?_⟩;refine b3 (vs:=ea c) ba.i rfl rfl W.one aD λdO bV dP cW=>?_;have dQ:=be.size;refine bR _ _ ⟨E,c,rfl,(az.F be).F (bh.then bV λr A he=>by have he:r=E:=he;omega),cW,h1,bg,?_,Ω,λr A=>by have:=M r A;omega⟩;exact oQ (W.W bh) bV λr A=>.inl ⟨_,_,by have A:r=E:=A;subst A;exact aD,Φ,Φ⟩
  .refine bE ba.i λE dR bU aF aD=>?_;refine⟨.inl aF,?_⟩;have bW:=aC.F aF;refine(Ff (bc.W bW) Q bb (bI.W bW)).Y ?_;rintro _ dS _ ⟨bX,c,rfl,h1,bg,W,M⟩;have bY:=aD.W bX;have dT:=aF.size;refine b3 (vs:=ea c) ba.i rfl rfl W.one bY λdU bZ dW cX=>?_;refine bR _ _ ⟨E,c,rfl,az.F ((aF.F bX).then bZ λr A he=>by have he:r=E:=he;omega),cX,h1,bg,?_,Ω,λr A=>by have:=M r A;omega⟩;exact oQ W bZ λr A=>.inl ⟨_,_,by have A:r=E:=A;subst A;exact bY,Φ,Φ⟩
 rintro _ aw ⟨E,c,rfl,bl,cY,ai,aH,cZ,bU,M⟩;have b0:=A.W bl;have c0:∀h∈L,∀r,lc h.bf r->r<U.heap.size:=λh ax r c1=>by
  obtain⟨⟨_,_,c2,b1⟩,_⟩:=A.2.1 h ax;have:=cd b1 c1;omega
 have c3:∀{j:Nat},decide (c.sc∈(L.take j).map (·.sc))=decide (bJ x.scope∈((fa f i).take j).map (·.1)):=λ{j}=>by
  rw[ai,<-S,<-List.map_take,T5];rfl
 have cN:=R.size;rw[ek c8.u b0.1];refine ce.range L.length (λj au O=>∃C,au= .bool (decide (c.sc∈(L.take j).map (·.sc)))/\Ext w O/\U.heap.size<=O.heap.size/\mb O w.heap.size g l f.d6 C/\C.map dV=((fa f i).map (nb f.k c.sc c.cs)).take j++(fa f i).drop j/\aj O E ba (ea c)/\gv O f.d6 c/\∀h∈C,∀r,lc h.bf r->r<U.heap.size) A.1.le
  ⟨L,Ξ,R.F bl,bl.size,b0,by simpa using S,cY,cZ,c0⟩ ?_ ?_
 .rintro j _ O c4 b2 ⟨C,rfl,ak,c5,aJ,K,bm,bn,Y⟩ c6;have c7:C.length=L.length:=by
   have:=congrArg List.length K;simp only[r9,c9,Z3,List.length_drop]at this;omega
  obtain⟨h,ax⟩:=aI (l:=C) (i:=j) Ω;have aK:(fa f i)[j]?=σ (dV h):=by
   have b6:(C.map dV)[j]?=σ (dV h):=by rw[u4,ax];rfl
   rw[K,Fi (by rw[r9];omega)]at b6;exact b6
  have aL:((fa f i).map (nb f.k c.sc c.cs))[j]?=σ (nb f.k c.sc c.cs (dV h)):=by rw[u4,aK];rfl
  have da:∃y,L[j]?=σ y/\y.sc=h.sc:=by
   refine⟨_,v8 b2,?_⟩;rw[<-S,u4,v8 b2]at aK;exact congrArg Prod.fst (Z5 aK)
  obtain⟨y,H,db⟩:=da;have bp:(c.sc∈(L.take (j+1)).map (·.sc))↔c.sc∈(L.take j).map (·.sc)\/h.sc=c.sc:=by
   rw[u9,H,j4,Z2,j5,List.map_singleton,Y1,db];exact or_congr Iff.rfl ⟨λe=>e.symm,λe=>e.symm⟩
  have b8:=cP _ (x7 aK);refine bF Ω ?_;refine a6 (λau P=>∃C,au= .bool (decide (c.sc∈(L.take (j+1)).map (·.sc)))/\Ext w P/\U.heap.size<=P.heap.size/\mb P w.heap.size g l f.d6 C/\C.map dV=((fa f i).map (nb f.k c.sc c.cs)).take (j+1)++(fa f i).drop (j+1)/\aj P E ba (ea c)/\gv P f.d6 c/\∀h∈C,∀r,lc h.bf r->r<U.heap.size) ?_ ?_
  .rintro dX P bd;rw[aR];exact c6 _ _ bd
  intro dZ b9;intro dc am _ _;have aM:=aJ.W am;have ca:=bm.W am;have cc:=bn.W am;obtain⟨dd,eb⟩:=aM.2.1 h (x7 ax);obtain⟨⟨g1,h1⟩,_,c2,b1⟩:=id dd;obtain⟨⟨ec,de⟩,_,ed,cf⟩:=id cc;rw[cu rfl c8.u ba.i aM.1 Ω,a1 ba.p rfl,aG Ψ (aM.1.range ax 0 _ rfl),aN ba.p 0 ca rfl];refine(Ct h1.ls de.ls).Y ?_;rintro _ ee _ ⟨rfl,ad⟩;have cg:=aM.W ad;have bq:=ca.W ad;have ch:=cc.W ad;have ci:=(ak.F am).F ad;have z9:=(am.F ad).size;rw[ao];refine⟨λbr=>?_,λcj=>?_⟩
  rotate_left
  .refine b9 _ _ ⟨C,?_,ci,Ω,cg,?_,bq,ch,Y⟩
   .congr 1;exact decide_eq_decide.2 ⟨λh=>bp.2 (.inl h),λh=>(bp.1 h).resolve_right cj⟩
   .have e:nb f.k c.sc c.cs (dV h)=dV h:=m5 cj;rw[e]at aL;rw[<-yM Ω aL,<-K];symm;refine Y3 λp=>?_;rw[X7];by_cases ae:j=p
    .subst ae;rw[m3 rfl,m3 Θ,u4,ax];rfl
    .rw[m5 ae]
  have df:h.cs.length=c.cs.length:=by
   have dg:h.cs.length=_:=b8.len;have dh:c.cs.length=(aX (b5 f.d6 (jY f.d6 f.k x).1)).toNat:=by rw[aH];exact bL.len
   rw[dg,dh,show(dV h).1=h.sc from rfl,br,ai];rfl
  have ef:(eP f.k h.cs c.cs).length=h.cs.length:=by unfold eP;rw[List.length_zipWith];omega
  rw[aN ba.p 2 bq rfl,a8 aB.u (cf.W ad).ls];refine b7.range c.cs.length (λs Z=>Ext w Z/\U.heap.size<=Z.heap.size/\mb Z w.heap.size g l f.d6 (C.set j {h with cs:=(eP f.k h.cs c.cs).take s++h.cs.drop s})/\aj Z E ba (ea c)/\gv Z f.d6 c) cf.ls.le
   ⟨ci,Ω,?_,bq,ch⟩ ?_ ?_
  .have e:C.set j {h with cs:=(eP f.k h.cs c.cs).take 0++h.cs.drop 0}=C:=by
    refine Y3 λp=>?_;rw[X7];by_cases ae:j=p
    .subst ae;rw[m3 rfl,m3 Ω,ax];rfl
    .rw[m5 ae]
   rw[e];exact cg
  .rintro s Z di V ⟨bs,ck,aO,bt,bu⟩ dj;refine bF Ω ?_;intro eg an _ _;have af:=aO.W an;have cl:=bt.W an;have cm:=bu.W an;have cp:=bs.F an;have aQ:(C.set j {h with cs:=(eP f.k h.cs c.cs).take s++h.cs.drop s})[j]?=σ {h with cs:=(eP f.k h.cs c.cs).take s++h.cs.drop s}:=by
    rw[X7,m3 rfl,m3 Ω]
   have cq:j<(C.set j {h with cs:=(eP f.k h.cs c.cs).take s++h.cs.drop s}).length:=by rw[Z9];omega
   obtain⟨⟨_,_,dk,bw⟩,dl⟩:=af.2.1 _ (x7 aQ);obtain⟨_,_,eh,dm⟩:=id cm;obtain⟨a,bx⟩:=aI (l:=h.cs) (i:=s) Ω;obtain⟨b,ap⟩:=aI (l:=c.cs) V;have dn:s<({h with cs:=(eP f.k h.cs c.cs).take s++h.cs.drop s}:fY).cs.length:=by show s<((eP f.k h.cs c.cs).take s++h.cs.drop s).length;rw[c9,Z3,List.length_drop];omega
   have dp:((eP f.k h.cs c.cs).take s++h.cs.drop s)[s]?=σ a:=by rw[Fi Ω];exact bx
   have bz:(eP f.k h.cs c.cs)[s]?=σ (min (a+b) f.k):=by
    unfold eP;rw[List.getElem?_zipWith,bx,ap]
   have ei:=b8.jf a (x7 bx);have ej:=bL.jf b (by rw[<-aH];exact x7 ap);have dq:=aV.W cp;rw[cu rfl c8.u ba.i af.1 cq,a1 ba.p rfl,aG Ψ (af.1.range aQ 2 _ rfl),cu rfl c8.u ba.i af.1 cq,a1 ba.p rfl,aG Ψ (af.1.range aQ 2 _ rfl),bk aB.u ay.i Ψ bw.ls dp,aN ba.p 2 cl rfl,bk aB.u ay.i Ψ dm.ls ap,aP eA.p 1 dq rfl];refine(mQ Ω Ω).Y ?_;rintro _ em _ ⟨rfl,ag⟩;refine⟨.inl ag,?_⟩;have z12:=(an.F ag).size;refine Rp (af.W ag) aQ dn λen aS cr bA=>?_;rw[aR];have dr:=cm.W ag;have ct:=cl.W ag;have eo:=aS.size;refine dj _ ⟨(cp.F ag).then aS λr A he=>by have:=dl r (.inl he);omega,Ω,?_,?_,?_⟩
   .rw[List.set_set]at bA;have e:=yM (B:=h.cs) (s:=s) Ω bz;simp only[e]at bA;exact bA
   .exact ct.ab aS λV=>by
     obtain⟨ep,ds⟩:=cr _ V;exact m6 (fI ct ds) Φ
   .refine oQ dr aS λr A=>.inr (.inr ⟨cr r A,λdt=>?_⟩);have:=M r (.inl dt);have:=Y h (x7 ax) r A;omega
  .rintro Z di ⟨bs,ck,aO,bt,bu⟩;refine b4 Ω ?_;have e:(eP f.k h.cs c.cs).take c.cs.length++h.cs.drop c.cs.length=eP f.k h.cs c.cs:=by
    rw[<-df,List.drop_length,T4,j9 Ω]
   simp only[e]at aO;refine b9 _ _ ⟨_,?_,bs,ck,aO,?_,bt,bu,λz G r A=>?_⟩
   .congr 1;symm;exact ms (bp.2 (.inr br))
   .have du:nb f.k c.sc c.cs (dV h)=dV {h with cs:=eP f.k h.cs c.cs}:=m3 br;rw[du]at aL;rw[U2,K,yM Ω aL]
   .rcases U5 G with G|rfl
    .exact Y z G r A
    .exact Y h (x7 ax) r A
 rintro _ O c4 ⟨C,rfl,ak,c5,aJ,K,bm,bn,Y⟩;refine b4 Ω ?_;rw[c3,bM,o9,bN,cb];have cw:=ys a7;have bz:((fa f i).map (nb f.k c.sc c.cs)).take L.length++(fa f i).drop L.length=(fa f i).map (nb f.k c.sc c.cs):=by
  rw[bM,List.drop_length,T4,j9 (by rw[r9];exact o6 _)]
 rw[bz]at K;have c7:C.length=L.length:=by
  have:=congrArg List.length K;rw[r9,r9]at this;omega
 refine⟨λaT=>?_,λah=>?_⟩
 .have aT:bJ x.scope∉(fa f i).map (·.1):=by simpa using aT
  have dv:(fa f i).map (nb f.k c.sc c.cs)=fa f i:=by
   refine(List.map_congr_left λz G=>?_).F (List.map_id _);exact m5 λhe=>aT (l9.2 ⟨z,G,by rw[he,ai]⟩)
  rw[dv]at K;rw[bH ba.p ba.i rfl (show O.rangeAt E 0 (ea c)from bm.range)];refine jc c8.u ba.i Ω rfl rfl λer dk P es aU bw=>?_;have ac:=aJ.W aU;have cz:=bn.W aU;refine jB c8.u ba.i rfl ac.1 (by simpa using bw.sl) cz.one Ω Ω λet dw dc aZ dx bB=>?_;have cA:∀r,hx l r->∃e c,aj P r e c/\e≠al/\e≠ay:=λr A=>by
   obtain⟨rfl,c,ap⟩:=dY ac.1 A;exact⟨_,c,ap,Φ,Φ⟩
  have eu:=aU.size;have ev:=ak.size;refine bP _ _ ⟨dw,C++[c],(ak.F aU).then bB λr A he=>by have:=ac.2.2.2 r he;omega,⟨aZ,λz G=>?_,λp q y z H G dy r bC bD=>?_,λr A=>(dx r A).elim (ac.2.2.2 r) λh=>Ω⟩,?_⟩
  .rcases j5.1 G with G|G
   .exact⟨oQ (ac.2.1 z G).1 bB λr A=>.inl (cA r A),(ac.2.1 z G).2⟩
   .rw[Y1.1 G];exact⟨oQ cz bB λr A=>.inl (cA r A),λr A=>by have:=M r A;omega⟩
  .have cB:∀{p:Nat}{y:fY},(C++[c])[p]?=σ y->C[p]?=σ y\/(p=C.length/\y=c):=λ{p y}H=>by
    rw[List.getElem?_append]at H;split at H
    .exact .inl H
    .by_cases dz:p-C.length=0
     .rw[dz]at H;cases H;exact .inr ⟨Ω,rfl⟩
     .rw[W8 Θ]at H;cases H
   rcases cB H with cC|⟨ew,rfl⟩<;>rcases cB G with cD|⟨eq,rfl⟩
   .exact ac.2.2.1 p q y z cC cD dy r bC bD
   .have:=Y y (x7 cC) r bC;have:=M r (.inl bD);omega
   .have:=Y z (x7 cD) r bD;have:=M r (.inl bC);omega
   .omega
  .rw[Z2,K,cw,Ew λz G he=>aT (l9.2 ⟨z,G,he⟩)];show _++[(c.sc,c.cs)]=_;rw[ai,aH];rfl
 .have ah:bJ x.scope∈(fa f i).map (·.1):=by simpa using ah
  refine bP _ _ ⟨g,C,ak,aJ,?_⟩;rw[K,cw];unfold jZ;rw[m3 (show(jY f.d6 f.k x).1∈_ from ah)];refine List.map_congr_left λz _=>?_;unfold nb;rw[ai,aH];rfl
def yN(w:x5)(B:Nat)(v:x4)(n:aJ):Prop:=∃hv gz a f bb e gr L,v= .agg #[Δ n.k,hv,Δ n.zero,a,e]/\aH .i64 al w gz hv n.d6/\jh w f a bb/\bb.map (·.l)=n.unary/\bo ea 3 ba w gr e L/\(∀h∈L,gv w n.d6 h)/\L.map dV=n.ho/\(∀r,lc hv r->B<=r)/\∀h∈L,∀r,rh h r->B<=r
def z9:List x4:=[Δ 0,.slice ν 0 0,Δ 0,.slice ν 0 0,.slice ν 0 0]
def oR(w:x5)(C gt gs go:Nat)(hv bf:x4)(f:cn)(a:List fY)(I:x5):Prop:=Ext w I/\C<=I.heap.size/\aj I gt ef z9/\aH .i64 al I gs hv f.d6/\bo ea 3 ba I go bf a/\(∀r,hx bf r->r<C)/\∀h∈a,gv I f.d6 h
theorem oR.W{aa:x5}{C gt go:Nat}{bf:x4}{f:cn}{a:List fY}(h:oR w C gt gs go hv bf f a I)(J:Ext I aa):oR w C gt gs go hv bf f a aa:=by
 obtain⟨h1,z,e,j,q,r,s⟩:=h;have:=J.size;exact⟨h1.F J,Ω,e.W J,j.W J,q.W J,r,λx y=>(s x y).W J⟩
def Rv(w I:x5)(C gt:Nat)(r:Nat):Prop:=w.heap.size<=r/\r≠gt/\((∃c,aj I r ef c)\/(∃c,aj I r aB c)\/((∃c,aj I r ba c)/\C<=r))
theorem oR.ab{aa:x5}{C gt go:Nat}{bf:x4}{f:cn}{z:List fY}(h:oR w C gt gs go hv bf f z I)(q:ai S I aa)(s:∀r,S r->Rv w I C gt r):oR w C gt gs go hv bf f z aa:=by
 obtain⟨h1,K,F,A,y,B,G⟩:=h;have:=q.size;have E:∀r,S r->∃e c,aj I r e c/\e≠al/\e≠ay:=λr j=>by
  obtain⟨_,_,⟨c,a⟩|⟨c,a⟩|⟨⟨c,a⟩,_⟩⟩:=s r j
  .exact⟨_,c,a,Φ,Φ⟩
  .exact⟨_,c,a,Φ,Φ⟩
  .exact⟨_,c,a,Φ,Φ⟩
 refine⟨h1.then q λr j V=>by have:=(s r V).1;omega,Ω,F.ab q λV=>(s _ V).2.1 rfl,bG A q λr j V=>?_,y.ab q λr j V=>?_,B,λx J=>oQ (G x J) q λr j=>.inl (E r j)⟩
 .obtain⟨e,c,a,H,_⟩:=E r V;exact cB A a (λhe=>H he.symm) j rfl
 .obtain⟨_,_,⟨c,a⟩|⟨c,a⟩|⟨_,L⟩⟩:=s r V
  .exact cP y a Φ j
  .exact cP y a Φ j
  .have:=B r j;omega
def Fm(w:x5)(C f:Nat)(hv:x4)(k:Int)(n:aJ)(j:List fY)(I:x5):Prop:=∃a q bb e gr L,aj I f ef [Δ k,hv,Δ n.zero,a,e]/\jh I q a bb/\bb.map (·.l)=n.unary/\(∀r,hx a r->w.heap.size<=r)/\bo ea 3 ba I gr e L/\(∀h∈L,h∈j)/\L.map dV=n.ho/\∀r,hx e r->C<=r
theorem Fo{bT:Nat}{f:cn}(bU:p3 w bT f)(Q:fG N f):aq x8 Jb [Γ bT] w λv I=>Ext w I/\yN I w.heap.size v (cY f):=by
 have hk:=Q.k;have dw:=Q.d6.2.1;obtain⟨dx,dy,dz,dA,bV,bW,dC⟩:=id bU;refine aE func63 ?_;refine bE ef.i λgt U dD aS aT=>?_;have aT:=aT;rw[aP eA.p 1 (bV.W aS) rfl,ds (cs:=#[Δ f.k,.slice ν 0 0,Δ 0,.slice ν 0 0,.slice ν 0 0]) Ψ];refine bE ef.i λA aa dE bX cJ=>?_;refine b3 (vs:=[Δ f.k,.slice ν 0 0,Δ 0,.slice ν 0 0,.slice ν 0 0]) ef.i rfl rfl (by intro u hu;simp at hu;rcases hu with rfl|rfl|rfl|rfl<;>rfl) cJ λdF bY dG cK=>?_;have bs:=(aS.F bX).then bY λr q he=>by have he:r=A:=he;have:=aS.size;omega
 have dH:=aT.lt;have E:A≠gt:=Ω
 have cL:=(aT.W bX).ab bY λhe=>by have he:=he;omega
 rw[aP eA.p 2 (bV.W bs) rfl,a8 aB.u (bW.W bs).ls];have dI:=aS.size;refine b7.range f.d6.length (λi W=>Ext w W/\aj W gt ef z9/\∃hv gs B H bb,aj W A ef [Δ f.k,hv,Δ 0,B,.slice ν 0 0]/\aH .i64 al W gs hv (f.d6.take i)/\(∀r,lc hv r->w.heap.size<=r)/\jh W H B bb/\bb.map (·.l)=(f.d6.take i).map (λz=>o5 z.toNat 0)/\∀r,hx B r->w.heap.size<=r) Ω
  ⟨bs,cL,_,0,_,0,[],cK,aH.nil _ _ _ _,(λr q=>by obtain⟨a,n,c,cM,dJ⟩:=q;cases cM),⟨bo.nil _ _ _ _ _,λx J=>(by cases J)⟩,rfl,λr q=>(gp q).elim⟩ ?_ ?_
 .rintro i W cN hi ⟨X,bt,hv,gs,B,H,bb,aC,aU,aV,bu,aD,aW⟩ cO;obtain⟨z,C⟩:=aI (l:=f.d6) hi;have dK:=Q.d6.2.2 z (x7 C);have dL:bb.length=i:=by have:=congrArg List.length aD;simp only[r9,Z3]at this;omega
  refine bF Ω ?_;rw[bk aB.u ay.i Ψ (bW.W X).ls C,aN ef.p 1 aC rfl];refine e6 au.u al.i rfl λa5 dM bZ dN ag cQ=>?_;have aF:=aU.W ag;refine jD au.u al.i rfl aF cQ.ls Θ Θ λb0 b1 dO aY cR b2=>?_;have bx:=aC.W ag;have b6:=bt.W ag;have b8:=bx.ab b2 λhe=>cB aF bx Φ he rfl;rw[a1 ef.p rfl];refine bw (g:=A) (o:=1) au.i aY.ls.cells.1 aY.ls.cells.2 b8 Ξ λb9 ca dP aZ=>?_;have aZ:=aZ;have bz:ai (λr=>lc hv r\/r=A) bZ b9:=(b2.Y λr _ h=>.inl h).F (ca.Y λr _ h=>.inr h);have cS:aH .i64 al b9 b1 b0 (f.d6.take (i+1)):=by
   rw[u9,C];exact bG aY ca λr q he=>by
    have he:r=A:=he;subst he;exact cB aY b8 Φ q rfl
  have ah:∀r,(lc hv r\/r=A)->∃e c,aj bZ r e c/\e≠ay/\e≠aB:=λr q=>by
   rcases q with q|rfl
   .obtain⟨rfl,_⟩:=cd aF q;obtain⟨_,⟨ac,_⟩|⟨cap,full,_,s,_⟩⟩:=aF
    .obtain⟨a,n,c,e,_⟩:=q;rw[ac]at e;cases e
    .exact⟨_,_,s,Φ,Φ⟩
   .exact⟨_,_,bx,Φ,Φ⟩
  have cT:=(bu.W ag).ab bz ah;have z4:=X.size;have z5:=ag.size;have cb:=(X.F ag).then bz λr q he=>by
   rcases he with he|he
   .have:=aV r he;omega
   .omega
  have cU:=b6.ab bz λV=>by
   rcases V with V|V
   .exact cB aF b6 Φ V rfl
   .omega
  intro dQ cc _ _;have cV:=aZ.W cc;rw[aN ef.p 3 cV rfl];obtain⟨a2,rfl⟩:∃n:Nat,z=n:=⟨z.toNat,Ω⟩;refine kM aB.u ay.i Ω Ω λce dR dS bA cW=>?_;refine⟨.inl bA,?_⟩;have cX:=aH.of (cf.full (n:=a2) cW Ξ (by simp[maxLen];omega));let a:mY:=⟨.slice (σ ⟨ce,0,ν⟩) a2 a2,o5 a2 0⟩;refine jc (f:=sO) (a:=a) c0.u aB.i Ω rfl rfl λdT dU bB dW bC cZ=>?_;refine⟨.inl (bA.F bC),?_⟩;have ak:=(cc.F bA).F bC;have aJ:=cT.W ak;refine jB (f:=sO) (a:=a) c0.u aB.i rfl aJ.1 (by simpa using cZ.sl) (λu hu=>by rw[Y1.1 (show u∈[a.v]from hu)];rfl) Ω Ω λbD bI dX K bJ cg=>?_;have am:∀{r:Nat},hx B r->∃c,aj bB r aB c:=λq=>by
   obtain⟨rfl,c,s⟩:=dY aJ.1 q;exact⟨c,s⟩
  have bK:=aZ.W ak;have ch:=bK.ab cg λhe=>cP aJ.1 bK Φ he;rw[a1 ef.p rfl];refine bw c0.i (eJ K.sl).1 (eJ K.sl).2 ch Ξ λc1 ci dZ c2=>?_;rw[aR];have R:ai (λr=>hx B r\/r=A) bB c1:=(cg.Y λr _ h=>.inl h).F (ci.Y λr _ h=>.inr h);have bL:∀r,(hx B r\/r=A)->∃e c,aj bB r e c/\e≠ay/\e≠al:=λr q=>by
   rcases q with q|rfl
   .obtain⟨c,s⟩:=am q;exact⟨_,c,s,Φ,Φ⟩
   .exact⟨_,_,bK,Φ,Φ⟩
  have cj:=cS.W ak;have eb:=cb.size;have ec:=ak.size;have ck:=cU.W ak;refine cO _ ⟨(cb.F ak).then R (λr q he=>?_),ck.ab R (λV=>?_),b0,b1,bD,bI,bb++[a],c2,bG cj R (λr q V=>?_),λr q=>?_,⟨K.ab ci λr q he=>?_,λy M=>?_⟩,?_,λr q=>?_⟩
  .rcases he with he|rfl
   .have:=aW r he;omega
   .omega
  .rcases V with V|V
   .exact cP aJ.1 ck Φ V
   .omega
  .obtain⟨e,c,s,_,E⟩:=bL r V;exact cB cj s (λhe=>E he.symm) q rfl
  .rcases cR r q with h|h
   .exact aV r h
   .omega
  .have he:r=A:=he;subst he;exact cP K ch Φ q
  .rcases j5.1 M with M|M
   .exact aJ.sP R (λr q=>by obtain⟨e,c,s,E,_⟩:=bL r q;exact⟨e,c,s,E⟩) y M
   .rw[Y1.1 M];have cl:=cX.W bC;exact⟨ce,bG cl R λr q V=>by
     obtain⟨e,c,s,E,_⟩:=bL r V;exact cB cl s (λhe=>E he.symm) q rfl⟩
  .rw[Z2,aD,u9,C,j4,Z2];rfl
  .rcases bJ r q with h|h
   .exact aW r h
   .omega
 rintro W cN ⟨X,bt,hv,gs,B,H,bb,aC,aU,aV,bu,aD,aW⟩;refine b4 Ω ?_;rw[o9]at aU aD;refine(Ru (bU.W X) Q).Y ?_;rintro bf a6 _ ⟨an,go,O,K,cm,cp,ed⟩;have cq:O.length=(gn f).length:=by rw[<-cp,r9]
 have ee:O.length<=256:=by
  have h1:=(sE Q).2.length_eq;have a7:=(mV Q).2.2;have eg:=List.length_filter_le gl (gm f);have eh:=Q.mO;omega
 have z4:=X.size;have ei:=an.size;have ej:=aC.lt;rw[ek c8.u K];refine b7.range O.length (λi ap=>oR w a6.heap.size gt gs go hv bf f O ap/\Fm w a6.heap.size A hv f.k (eo f i) O ap) K.le
  ⟨⟨X.F an,o6 _,bt.W an,aU.W an,K,λr q=>by have:=K.lc q;omega,λh ax=>(cm h ax).1⟩,B,H,bb,_,0,[],aC.W an,bu.W an,aD,aW,bo.nil _ _ _ _ _,λx J=>(by cases J),rfl,λr q=>(gp q).elim⟩ ?_ ?_
 rotate_left
 .rintro ap c3 ⟨av,B,H,bb,Y,gr,L,bc,bd,Z,aK,aL,aw,ad,aM⟩;obtain⟨c4,em,cr,bM,en,ep,c5⟩:=id av;have be:=q8 f O.length;rw[cq,vj]at be;rw[cq,vj]at bc Z ad;refine b4 Ω ?_;rw[bH ef.p ef.i rfl (show ap.rangeAt A 0 [Δ f.k,hv,Δ (cY f).zero,B,Y]from bc.range)];refine b3 (vs:=[Δ f.k,hv,Δ (cY f).zero,B,Y]) ef.i rfl rfl (λu hu=>?_) cr λer aO es c6=>?_
  .simp at hu;rcases hu with rfl|rfl|rfl|rfl|rfl
   .rfl
   .exact bM.ls.cells.2
   .rfl
   .exact (eJ bd.1.sl).2
   .exact (eJ aL.sl).2
  rw[fu ef.p ef.i rfl c6.range];have ah:∀r,r=gt->∃e c,aj ap r e c/\e≠ay/\e≠aB/\e≠al/\e≠ba:=λr q=>by
   subst q;exact⟨_,_,cr,Φ,Φ,Φ,Φ⟩
  refine⟨c4.then aO λr q he=>by have he:r=gt:=he;omega,hv,gs,B,H,bb,Y,gr,L,?_,?_,bd.ab aO (λr q=>?_),Z,aL.ab aO (λr q V=>?_),λh ax=>?_,ad,aV,λh ax r q=>by have:=(cm h (aw h ax)).2 r q;omega⟩
  .rw[be.1]
  .rw[be.2.1];refine bG bM aO λr q V=>?_;obtain⟨e,c,s,_,_,E,_⟩:=ah r V;exact cB bM s (λhe=>E he.symm) q rfl
  .obtain⟨e,c,s,h1,a7,_⟩:=ah r q;exact⟨e,c,s,h1,a7⟩
  .obtain⟨e,c,s,_,_,_,E⟩:=ah r V;exact cP aL s (λhe=>E he.symm) q
  .rw[be.2.1];exact oQ (c5 h (aw h ax)) aO λr q=>by
    obtain⟨e,c,s,h1,_,a7,_⟩:=ah r q;exact .inl ⟨e,c,s,a7,h1⟩
 rintro i ap c3 hi ⟨av,B,H,bb,Y,gr,L,bc,bd,Z,aK,aL,aw,ad,aM⟩ c7;obtain⟨y,M⟩:=aI (l:=O) hi;have bg:=x7 M;have ct:(gn f)[i]?=σ (dV y):=by rw[<-cp,u4,M];rfl
 have bN:=uX Q _ (x7 ct);have bO:=yu ct;obtain⟨et,eu,ev,ew⟩:=q8 f i;refine bF Ω ?_;refine dh (λbP=>oR w a6.heap.size gt gs go hv bf f O bP/\Fm w a6.heap.size A hv f.k (eo f (i+1)) O bP) ?_ ?_
 .rintro bP h;rw[aR];exact c7 _ h
 intro aA bQ;rw[cu rfl c8.u ba.i av.2.2.2.2.1 hi,bH ba.p ba.i rfl (av.2.2.2.2.1.range M)];refine bE ba.i λc9 ey ez da db=>?_;refine b3 (vs:=ea y) ba.i rfl rfl (av.2.2.2.2.2.2 y bg).one db λdc dd eB bh=>?_;have bi:=da.put dd Ω;have bj:=av.W bi;have ae:=bc.W bi;have bR:=bd.W bi;have bl:=aL.W bi;obtain⟨eC,eD,cw,eE,eF,eH,cz⟩:=id bj;obtain⟨⟨eI,cA⟩,_,de,cC⟩:=cz y bg;rw[aN ba.p 0 bh rfl,a8 au.u cA.ls];have eK:bb.length=f.d6.length:=by have:=congrArg List.length Z;rw[r9]at this;omega
 have eL:L.length<=256:=by have:=congrArg List.length ad;rw[r9]at this;omega
 rw[bm,ao];refine⟨λeM=>?_,λeN=>?_⟩
 .
  have af:y.sc=[]:=j6 Ω;have G:eo f (i+1)={eo f i with zero:=y.cs.getD 0 0}:=by rw[bO];unfold kv;simp only[dV,af]
  have eO:y.cs.length=1:=by have:=bN.len;simpa[dV,af,b5,aX]using this
  have df:y.cs[0]?=σ (y.cs.getD 0 0):=by rw[r8,v8 Ω];rfl
  rw[aN ba.p 2 bh rfl,ft (y:=0) (i:=0) rfl aB.u ay.i Ψ cC.ls df,a1 ef.p rfl];refine bw ay.i rfl rfl ae Ξ λdg P di dj=>?_;refine bQ _ ⟨bj.ab P λr q=>?_,B,H,bb,Y,gr,L,?_,bR.ab P (λr q=>?_),by rw[G];exact Z,aK,bl.ab P (λr q V=>?_),aw,by rw[G];exact ad,aM⟩
  .have q:r=A:=q;subst q;exact⟨Ω,E,.inl ⟨_,ae⟩⟩
  .rw[G];exact dj
  .have q:r=A:=q;subst q;exact⟨_,_,ae,Φ,Φ⟩
  .have V:r=A:=V;subst V;exact cP bl ae Φ q
 rw[bm,ao];refine⟨λh1=>?_,λeP=>?_⟩
 .
  obtain⟨v,af⟩:∃v,y.sc=[v]:=W3.1 Ω;have eQ:=bN.scope.1 v (by show v∈y.sc;rw[af];exact .head _);have eR:=bN.d9 v (by show v∈y.sc;rw[af];exact .head _);have G:eo f (i+1)={eo f i with unary:=(eo f i).unary.set v.toNat y.cs}:=by rw[bO];unfold kv;simp only[dV,af]
  intro dk S _ _;have bS:=ae.W S;have cD:=bh.W S;have aQ:=bR.W S;have dl:=bj.W S;have cE:=bl.W S;rw[aN ef.p 3 bS rfl,aN ba.p 0 cD rfl];refine nR rfl au.u al.i (cA.ls.W S) (show y.sc[0]?=σ v by rw[af];rfl) λb o dm=>?_;rw[aG Ψ dm,aN ba.p 2 cD rfl];obtain⟨u,hu⟩:=aI (l:=bb) (i:=v.toNat) Ω;rw[cu (i:=v.toNat) Ω c0.u aB.i aQ.1 Ω];let a:mY:=⟨y.bf,y.cs⟩;have bn:=cC.W S;refine lk (j:=0) (a:=u) (a':=a) aB.i bn.ls.cells.1 bn.ls.cells.2 aQ.1 hu rfl Ω λdg P di dn=>?_;have am:∀{r:Nat},hx B r->∃c,aj dk r aB c:=λq=>by
   obtain⟨rfl,c,s⟩:=dY aQ.1 q;exact⟨c,s⟩
  refine bQ _ ⟨dl.ab P λr q=>?_,B,H,bb.set v.toNat a,Y,gr,L,?_,⟨dn,λz C=>?_⟩,?_,aK,cE.ab P (λr q V=>?_),aw,by rw[G];exact ad,aM⟩
  .obtain⟨c,s⟩:=am q;exact⟨aK r q,λhe=>(by subst he;exact m6 (fI s (cw.W S)) Φ),.inr (.inl ⟨c,s⟩)⟩
  .rw[G];exact bS.ab P λhe=>cP aQ.1 bS Φ he
  .rcases U5 C with C|rfl
   .exact aQ.sP P (λr q=>by obtain⟨c,s⟩:=am q;exact⟨_,c,s,Φ⟩) z C
   .exact⟨de,bG bn P λr q V=>by
     obtain⟨c,s⟩:=am V;exact cB bn s Φ q rfl⟩
  .rw[G,U2,Z]
  .obtain⟨c,s⟩:=am V;exact cP cE s Φ q
 .
  have G:eo f (i+1)={eo f i with ho:=(eo f i).ho++[dV y]}:=by
   rw[bO];unfold kv;have cF:2<=(dV y).1.length:=by show 2<=y.sc.length;omega
   generalize dV y=g at cF ⊢;obtain⟨sc,cs⟩:=g
   match sc,cF with
   |_::_::_,_=>rfl
  rw[aN ef.p 4 ae rfl,bH ba.p ba.i rfl (show dc.rangeAt c9 0 (ea y)from bh.range)];refine jc c8.u ba.i Ω rfl rfl λeS eU dp eV az dq=>?_;have bp:=bl.W az;have dr:=bR.W az;have bq:=ae.W az;have dt:=bj.W az;refine jB c8.u ba.i rfl bp (by simpa using dq.sl) (cz y bg).one Ω Ω λbD bI eW br bJ cG=>?_;have cH:=bq.ab cG λhe=>cP bp bq Φ he;rw[a1 ef.p rfl];refine bw c8.i (eJ br.sl).1 (eJ br.sl).2 cH Ξ λdu cI eX dv=>?_;have R:ai (λr=>hx Y r\/r=A) dp du:=(cG.Y λr _ h=>.inl h).F (cI.Y λr _ h=>.inr h);have eY:=az.size;refine bQ _ ⟨dt.ab R λr q=>?_,B,H,bb,bD,bI,L++[y],?_,dr.ab R (λr q=>?_),by rw[G];exact Z,aK,br.ab cI (λr q V=>?_),λz C=>?_,?_,λr q=>?_⟩
  .rcases q with q|rfl
   .obtain⟨rfl,c,s⟩:=dY bp q;have:=aM _ q;refine⟨Ω,λhe=>?_,.inr (.inr ⟨⟨c,s⟩,this⟩)⟩;subst he;exact m6 (fI s (cw.W az)) Φ
   .exact⟨Ω,E,.inl ⟨_,bq⟩⟩
  .rw[G];exact dv
  .rcases q with q|rfl
   .obtain⟨rfl,c,s⟩:=dY bp q;exact⟨_,c,s,Φ,Φ⟩
   .exact⟨_,_,bq,Φ,Φ⟩
  .have V:r=A:=V;subst V;exact cP br cH Φ q
  .rcases j5.1 C with C|C
   .exact aw z C
   .rw[Y1.1 C];exact bg
  .rw[G,Z2,ad];rfl
  .rcases bJ r q with h|h
   .exact aM r h
   .omega
def sW(w:x5)(S:Nat->Prop)(e:o4):Prop:=∀r,S r->∃c,aj w r e c
theorem yO{a:o4}{k:o8}{g:Nat}{v:x4}(h:aH k a w g v l)(f:ai S w I)(j:sW w S e)(q:a≠e):aH k a I g v l:=bG h f λr s V=>by
 obtain⟨c,x⟩:=j r V
 grind [cB]
theorem Fp{α:Type}{f:α->List x4}{k:Nat}{a:o4}{g:Nat}{v:x4}{L:List α}(h:bo f k a w g v L)(j:ai S w I)(q:sW w S e)(s:a≠e):bo f k a I g v L:=h.ab j λr x V=>by
 obtain⟨c,y⟩:=q r V
 grind [cP]
theorem yP{a:o4}{r:Nat}{c:List x4}(h:aj w r a c)(f:ai S w I)(j:sW w S e)(q:a≠e):aj I r a c:=h.ab f λV=>by
 obtain⟨c,s⟩:=j r V
 grind [fI]
theorem Fq{g:Nat}{c:List x4}(h:aj w g e c):sW w (λr=>r=g) e:=λr a=>by
 have a:r=g:=a;subst a;exact⟨c,h⟩
theorem Rw{k:o8}{g:Nat}{v:x4}(h:aH k e w g v l):sW w (λr=>lc v r) e:=λr f=>by
 have f:=f;obtain⟨rfl,_⟩:=cd h f;obtain⟨_,⟨ac,_⟩|⟨cap,full,_,j,_⟩⟩:=h
 .obtain⟨a,n,c,q,_⟩:=f;grind
 grind
def az(x:bp):Λ:=((X0 x.un.length).map λv:Nat=>(v:Int)).filter λv=>!dropped x.mask v
theorem yQ{P:W0}{k:o8}{t:o4}{b:Nat}(a:P.underlying t=σ (.slice e))(hi:aV P e 1 b z)(f:∀v g I,g=w.heap.size->Ext w I->aH k e I g v []->K v I):aM P (Y4 t 0 #[]) w K:=
 lb a hi Ω (cs:=#[]) (by simp[Instr.fill]) λg I h j q=>f _ g I h j (aH.of (cf.full (by simpa using q) Ξ (by simp[maxLen])))
theorem Rx{v:x4}{n:aJ}(h:yN w B v n){g:Nat}(j:aj I g ef v.cells.toList):∃hv gz a f bb e gr L,aj I g ef [Δ n.k,hv,Δ n.zero,a,e]/\aH .i64 al w gz hv n.d6/\jh w f a bb/\bb.map (·.l)=n.unary/\bo ea 3 ba w gr e L/\(∀h∈L,gv w n.d6 h)/\L.map dV=n.ho/\(∀r,lc hv r->B<=r)/\∀h∈L,∀r,rh h r->B<=r:=by
 obtain⟨hv,gz,a,f,bb,e,gr,L,rfl,q,s,y,x,z,A⟩:=h;obtain⟨_,_,_,C⟩:=df q.ls;obtain⟨_,_,_,_,_,E,_⟩:=s.1.sl;obtain⟨_,_,_,_,_,F,_⟩:=x.sl;refine⟨hv,gz,a,f,bb,e,gr,L,?_,q,s,y,x,z,A⟩;rw[C,E,F]at j ⊢;exact j
def z12:List x4:=[Δ 0,.slice ν 0 0,Δ 0,.slice ν 0 0,.slice ν 0 0,.slice ν 0 0,.slice ν 0 0,.slice ν 0 0]
theorem Ry(u:Λ):az (newVar u)=(X0 u.length).map λv:Nat=>(v:Int):=by
 unfold az newVar dropped;rw[List.filter_eq_self.2];intro a _;simp
section
variable{P:W0}{w:x5}{t:o4}{cx cy:Bool}{a b:Nat}{K:x4->Prop}
theorem Rz(f:a<2 ^ 62)(h:b<2 ^ 62):ad P (aT .or t cx cy (Δ a) (Δ b)) w K=K (Δ ((a ||| b:Nat):Int)):=ad.of λI _=>by
 have e:(U6 64 (a:Int) ||| U6 64 (b:Int)).toNat=a ||| b:=by
  rw[oE,oE,BitVec.toNat_or,BitVec.toNat_ofNat,BitVec.toNat_ofNat,Nat.mod_eq_of_lt Ω,Nat.mod_eq_of_lt Ω]
 have q:a ||| b<2 ^ 62:=Nat.or_lt_two_pow f h;have hw:X5.wrap ((a ||| b:Nat):Int)=((a ||| b:Nat):Int):=lm Ω Ω;have j:(U6 X5.bits (a:Int) ||| U6 X5.bits (b:Int)).toNat=a ||| b:=e;simp only[aT,eqGuard,binOp,Op.intBits,j,hw];rfl
theorem Fr(j:a<2 ^ 62)(f:b<2 ^ 62):ad P (aT .and t cx cy (Δ a) (Δ b)) w K=K (Δ ((a &&& b:Nat):Int)):=ad.of λI _=>by
 have e:(U6 64 (a:Int) &&& U6 64 (b:Int)).toNat=a &&& b:=by
  rw[oE,oE,BitVec.toNat_and,BitVec.toNat_ofNat,BitVec.toNat_ofNat,Nat.mod_eq_of_lt Ω,Nat.mod_eq_of_lt Ω]
 have q:a &&& b<2 ^ 62:=Nat.and_lt_two_pow _ f;have hw:X5.wrap ((a &&& b:Nat):Int)=((a &&& b:Nat):Int):=lm Ω Ω;have h:(U6 X5.bits (a:Int) &&& U6 X5.bits (b:Int)).toNat=a &&& b:=e;simp only[aT,eqGuard,binOp,Op.intBits,h,hw];rfl
theorem RA{k:o8}{n:Nat}(a:n<62):ad P (aT .shl t cx cy (Δ 1) (.int k (n:Int))) w K=K (Δ ((2 ^ n:Nat):Int)):=by
 rw[BD Ω];have e:min ((n:Int).toNat) X5.bits=n:=Nat.min_eq_left (by show n<=64;omega);have f:2 ^ n<2 ^ 62:=Nat.pow_lt_pow_right Ω a;rw[e,Int.one_mul,show((2:Int) ^ n)=((2 ^ n:Nat):Int) by simp];generalize 2 ^ n=q at f ⊢;rw[lm Ω Ω]
end
theorem Fs(a n:Nat):(a / 2 ^ n &&& 1=1)↔a.testBit n=s2:=by
 rw[Nat.and_one_is_mod,Nat.testBit_eq_decide_div_mod_eq,ro]
theorem Ft{b n:Nat}(q:mK b n):aq x8 JC [kq b n,Δ v] w λr I=>r= .bool (decide (0<=v/\v<n)&&b.testBit v.toNat)/\Ext w I:=by
 refine aE func97 ?_;refine bn λg U A e f=>?_;refine a6 (λr aa=>r= .bool (decide (0<=v/\v<n)&&b.testBit v.toNat)/\Ext w aa) (λ_ _ h=>h) λaA j=>?_;rw[bH ci.p ci.i rfl f.range];refine CE.Y ?_;rintro _ B _ ⟨rfl,a⟩;rw[ao];refine⟨λh=>?_,λh=>j _ _ ⟨by rw[rc h];rfl,e.F a⟩⟩;obtain⟨x,C⟩:=q;obtain⟨s,rfl⟩:∃s:Nat,v=s:=⟨v.toNat,Ω⟩;have y:=f.W a;have E:(2:Nat) ^ n<=2 ^ 32:=T2 Ω x;have z:b / 2 ^ s<2 ^ 64:=Nat.lt_of_le_of_lt (Nat.div_le_self _ _) Ω;rw[aN ci.p 0 y rfl,mJ Ω,show(1:Int)=((1:Nat):Int)from rfl,u64_and z Ω,bm];refine j _ _ ⟨?_,e.F a⟩;congr 1;rw[ms h,S7,V9,ro,u7,<-Fs];omega
theorem RB(m v:Nat):dropped (m:Int) (v:Int)=m.testBit v:=by unfold dropped;rw[u7,u7]
def bD(w:x5)(af ag:Nat)(A R:ak)(n:aJ)(s:am)(t:aD):Prop:=StateM w af ag A R n s t/\t.cg=s.cells/\oL t/\bd n.k n.d6 s/\kU n
theorem bD.W{A R:ak}{n:aJ}{s:am}{t:aD}(h:bD w af ag A R n s t)(J:Ext w I):bD I af ag A R n s t:=⟨h.1.W J,h.2⟩
theorem StateM.parts{A R:ak}{n:aJ}{s:am}{t:aD}(h:StateM w af ag A R n s t):∃a e f j bi q L r,aj w af cX [Γ a,Γ ag,e,f,j]/\gP w a n/\dK w ag r t/\aH .i64 al w bi e (j8 s)/\bo rb 3 gD w q f L/\m7 R w L s:=by
 obtain⟨a,e,f,j,_,bi,q,ge,L,E,r,w0,x,⟨y,z,H⟩,⟨B,I,J,K⟩,C,⟨F,G⟩,M,N⟩:=h;exact⟨a,e,f,j,bi,q,L,r,x,y.W z,B,C,F,G⟩
theorem vu{s:am}{i:Nat}(h:i<s.d9.length):(j8 s)[i]?=σ (iM s i:Int):=by
 unfold j8;rw[u4,List.getElem?_range h];rfl
theorem sX{s:am}{t:aD}(ac:t.cg=s.cells)(V:oL t):s.cells.length<=100000000:=by
 rw[<-ac];unfold aD.cg;rw[r9];exact V.1
theorem vv{s:am}{i:Nat}{x:bp}(h:s.d9[i]?=σ x):iM s i+x.un.length+2<=s.cells.length:=by
 have h1:=sS h (j:=x.un.length+1) Ω;have a:(jC x)[x.un.length+1]? ≠ν:=by
  rw[Ne,List.getElem?_eq_none_iff];show¬(x.un.length+1+1<=x.un.length+1);omega
 rw[<-h1]at a;have:=(x6.1 (Option.ne_none_iff_exists'.1 a).choose_spec).1;omega
theorem yR{s:am}{f:bL}(h:s.ho[j]?=σ f):fJ s j+f.cs.length+1<=s.cells.length:=by
 have h1:=yw h (j:=f.cs.length) Ω;have a:(ji f)[f.cs.length]? ≠ν:=by
  rw[Ne,List.getElem?_eq_none_iff];show¬(f.cs.length+1<=f.cs.length);omega
 rw[<-h1]at a;have:=(x6.1 (Option.ne_none_iff_exists'.1 a).choose_spec).1;omega
section
variable{w:x5}{af ag:Nat}{A R:ak}{n:aJ}{s:am}{t:aD}
theorem Fu(h:bD w af ag A R n s t):aq x8 Jy [Γ af] w λv I=>(∃a,v=Γ a/\gP I a n)/\Ext w I:=by
 obtain⟨a,j,q,r,bi,x,L,y,e,f,z,B,C,E⟩:=h.1.parts;refine aE func92 ?_;rw[dl ez.u];simp only[b8,bc];rw[aP cX.p 0 e rfl];exact⟨⟨a,rfl,f⟩,Ext.refl _⟩
theorem Fv(h:bD w af ag A R n s t):aq x8 I0 [Γ af] w λv I=>v=Δ (n.d6.length:Int)/\Ext w I:=by
 refine aE func46 ?_;refine(Fu h).Y ?_;rintro _ U _ ⟨⟨j,rfl,a⟩,e⟩;refine(yy a).Y ?_;rintro _ aa _ ⟨rfl,f⟩;exact⟨rfl,e.F f⟩
theorem n2(h:bD w af ag A R n s t):aq x8 J9 [Γ af] w λv I=>v=Δ n.k/\Ext w I:=by
 refine aE func152 ?_;refine(Fu h).Y ?_;rintro _ U _ ⟨⟨j,rfl,a⟩,e⟩;refine(QJ a).Y ?_;rintro _ aa _ ⟨rfl,f⟩;exact⟨rfl,e.F f⟩
theorem yS{i:Int}(h:bD w af ag A R n s t):aq x8 Jc [Γ af,Δ i] w λv I=>v= .bool (decide (0<=i/\i<n.d6.length))/\Ext w I:=by
 refine aE func64 ?_;refine a6 (λv U=>v= .bool (decide (0<=i/\i<n.d6.length))/\Ext w U) (λ_ _ h=>h) λaA a=>?_;rw[cT,ao];refine⟨λe=>?_,λe=>a _ _ ⟨by rw[rc Ω],Ext.refl _⟩⟩;refine(Fv h).Y ?_;rintro _ U _ ⟨rfl,f⟩;rw[aW];refine a _ _ ⟨?_,f⟩;congr 1;exact decide_eq_decide.2 ⟨λh=>⟨e,h⟩,λh=>h.2⟩
theorem sY(h:bD w af ag A R n s t):aq x8 IH [Γ af] w λv I=>v=Δ s.zero/\Ext w I:=by
 obtain⟨j,q,r,x,bi,y,L,z,a,B,e,C,E,G⟩:=h.1.parts;refine aE func13 ?_;rw[dl ez.u];simp only[b8,bc];rw[aP cX.p 1 a rfl];refine(pX e rfl (show t.cg[0]?=σ s.zero by rw[h.2.1];exact QE s)).Y ?_;rintro _ U _ ⟨rfl,f⟩;exact⟨rfl,f⟩
theorem p4(h:bD w af ag A R n s t):aq x8 IJ [Γ af] w λv I=>v=Δ (s.ho.length:Int)/\Ext w I:=by
 obtain⟨j,q,r,x,bi,y,L,z,a,B,C,E,e,f⟩:=h.1.parts;refine aE func15 ?_;rw[dl ez.u];simp only[b8,bc];rw[aP cX.p 3 a rfl,ek gC.u e];exact⟨by rw[f.1],Ext.refl _⟩
def dw(s:am)(i:Nat):Bool:=match s.d9[i]? with
 |some x=>decide (x.gone≠0)
 |none=>sp
theorem vw{i:Int}(h:bD w af ag A R n s t):aq x8 I1 [Γ af,Δ i] w λv I=>v= .bool (decide (0<=i)&&dw s i.toNat)/\Ext w I:=by
 refine aE func48 ?_;refine a6 (λv U=>v= .bool (decide (0<=i)&&dw s i.toNat)/\Ext w U) (λ_ _ h=>h) λaA a=>?_;intro aa e _ _;refine(yS (h.W e)).Y ?_;rintro _ H _ ⟨rfl,q⟩;have J:=e.F q;have K:=h.2.2.2.1.d9;rw[ao];refine⟨λr=>?_,λM=>a _ _ ⟨?_,J⟩⟩
 .obtain⟨N,O,P,Q,bi,S,L,V,f,W,z,B,X,Y⟩:=(h.W J).1.parts;obtain⟨x,j⟩:=aI (l:=s.d9) (i:=i.toNat) Ω;rw[aP cX.p 1 f rfl,aP cX.p 2 f rfl,ft (y:=i) (i:=i.toNat) Ω au.u al.i Ψ B.ls (vu Ω)];have C:t.cg[iM s i.toNat+0]?=σ x.gone:=by rw[h.2.1,sS j Ω];rfl
  refine(pX z rfl C).Y ?_;rintro _ Z _ ⟨rfl,E⟩;rw[bM];refine a _ _ ⟨?_,J.F E⟩;rw[ms r.1,S7];unfold dw;rw[j]
 .by_cases G:0<=i
  .unfold dw;rw[W8 Ω,Bool.and_false]
  .rw[rc G];rfl
def eF(n:aJ)(i v:Int):Prop:=0<=i/\i<n.d6.length/\0<=v/\v<n.d6.getD i.toNat 0
instance (n:aJ) (i v:Int):Decidable (eF n i v):=inferInstanceAs (Decidable (_/\_))
theorem eF.var{i:Int}(ac:eF n i v)(a:bd n.k n.d6 s):∃x,s.d9[i.toNat]?=σ x/\v.toNat<x.un.length/\x.un.length<=32/\n.d6.getD i.toNat 0=x.un.length:=by
 obtain⟨h1,h,j,f⟩:=ac;have q:=a.d9;obtain⟨x,J⟩:=aI (l:=s.d9) (i:=i.toNat) Ω;obtain⟨z,e⟩:=aI (l:=n.d6) (i:=i.toNat) Ω;have r:=a.eZ.2.2 z (x7 e);have w:=(a.var i.toNat x z J e).1;rw[r8,e,Option.getD_some]at f ⊢;exact⟨x,J,Ω,Ω,Ω⟩
theorem yT{i:Int}(h:bD w af ag A R n s t):aq x8 Jt [Γ af,Δ i,Δ v] w λr I=>r=Δ (if eF n i v then((iM s i.toNat+2+v.toNat:Nat):Int)else-1)/\Ext w I:=by
 have Z:=h.2.2.2.1.d9;refine aE func84 ?_;refine a6 (λr U=>r= .bool (decide (¬eF n i v))/\Ext w U) ?_ ?_
 .rintro _ U ⟨rfl,q⟩;rw[ao];refine⟨λG=>⟨by rw[m5 G],q⟩,λf=>?_⟩;have f:=X1.1 f;obtain⟨x,H,ab,ad,_⟩:=f.var h.2.2.2.1;obtain⟨J,K,M,N,bi,O,L,P,a,B,Q,C,S,V⟩:=(h.W q).1.parts;have E:=vv H;have ae:=sX h.2.1 h.2.2.1;obtain⟨h1,ah,ai,aj⟩:=id f;rw[aP cX.p 2 a rfl,ft (y:=i) (i:=i.toNat) Ω au.u al.i Ψ C.ls (vu Ω),aR,lm Ω Ω,aR,lm Ω Ω,m3 f];refine⟨?_,q⟩;congr 1;omega
 .intro aA z;refine(yS h).Y ?_;rintro _ aa _ ⟨rfl,j⟩;rw[bN,cb];refine⟨λa=>?_,λa=>?_⟩
  .have a:¬(0<=i/\i<n.d6.length):=λW=>by rw[ms W]at a;cases a
   exact z _ _ ⟨by rw[ms];exact λe=>a ⟨e.1,e.2.1⟩,j⟩
  have a:0<=i/\i<n.d6.length:=by simpa using a
  rw[aW,ao];refine⟨λac=>z _ _ ⟨by rw[ms];exact λe=>by have:=e.2.2.1;omega,j⟩,λac=>?_⟩;obtain⟨J,K,M,N,bi,O,L,P,X,B,Q,C,S,V⟩:=(h.W j).1.parts;rw[aP cX.p 0 X rfl];refine(EL B h.2.2.2.2).Y ?_;rintro _ ak _ ⟨Y,rfl⟩;rw[m3 a.1,cT];refine z _ _ ⟨?_,j.F Y⟩;congr 1;refine decide_eq_decide.2 ⟨λh e=>?_,λh=>?_⟩
  .have:=e.2.2.2;omega
  .refine Int.not_lt.1 λE=>h ⟨a.1,a.2,Ω,E⟩
def fz(s:am)(i v:Nat):Int:=match s.d9[i]? with
 |some x=>x.un.getD v 0
 |none=>0
theorem p5{i:Int}(h:bD w af ag A R n s t):aq x8 wW [Γ af,Δ i,Δ v] w λr I=>r=(if eF n i v then .tuple #[Δ (fz s i.toNat v.toNat),Δ 0]else .tuple #[Δ 0,Δ 1])/\Ext w I:=by
 refine aE func36 ?_;rw[dl ez.u];simp only[b8,bc];refine(yT h).Y ?_;rintro _ U _ ⟨rfl,e⟩;by_cases a:eF n i v
 .rw[m3 a,m3 a];refine b4 Ω ?_;obtain⟨x,f,j,C,_⟩:=a.var h.2.2.2.1;obtain⟨E,G,H,J,bi,K,L,M,q,N,y,O,P,Q⟩:=(h.W e).1.parts;rw[aP cX.p 1 q rfl];have z:t.cg[iM s i.toNat+2+v.toNat]?=σ (x.un.getD v.toNat 0):=by
   rw[h.2.1,Nat.add_assoc,sS f Ω,show 2+v.toNat=v.toNat+1+1 by omega];show x.un[v.toNat]?=_;rw[r8,v8 j];rfl
  refine(pX y rfl z).Y ?_;rintro _ aa _ ⟨rfl,B⟩;refine⟨?_,e.F B⟩;unfold fz;rw[f]
 .rw[m5 a,m5 a,aW,ao];exact⟨λ_=>⟨rfl,e⟩,λh=>Ω⟩
def e1(s:am)(j:Nat):Bool:=match s.ho[j]? with
 |some f=>decide (f.live≠0)
 |none=>sp
theorem sZ{j:Int}(h:bD w af ag A R n s t):aq x8 I2 [Γ af,Δ j] w λv I=>v= .bool (decide (0<=j)&&e1 s j.toNat)/\Ext w I:=by
 refine aE func49 ?_;refine a6 (λv U=>v= .bool (decide (0<=j)&&e1 s j.toNat)/\Ext w U) (λ_ _ h=>h) λaA a=>?_;intro aa e _ _;rw[cT,ao];refine⟨λq=>?_,λq=>a _ _ ⟨by rw[rc q];rfl,e⟩⟩;refine(p4 (h.W e)).Y ?_;rintro _ M _ ⟨rfl,C⟩;have J:=e.F C;rw[aW,ao];refine⟨λN=>?_,λO=>a _ _ ⟨?_,J⟩⟩
 .obtain⟨P,Q,S,V,bi,W,L,X,x,Y,E,Z,z,r⟩:=(h.W J).1.parts;obtain⟨f,ah⟩:=aI (l:=s.ho) (i:=j.toNat) Ω;obtain⟨y,B⟩:∃y,L[j.toNat]?=σ y:=⟨_,v8 (by rw[r.1];omega)⟩;obtain⟨_,_,G⟩:=r.2 j.toNat y f B ah;rw[aP cX.p 1 x rfl,aP cX.p 3 x rfl,cu (i:=j.toNat) Ω gC.u gD.i z (by rw[r.1];omega),a1 gD.p rfl,aG Ψ (z.range B 2 _ rfl)];have H:t.cg[fJ s j.toNat+0]?=σ f.live:=by rw[h.2.1,yw ah Ω];rfl
  refine(pX (i:=fJ s j.toNat) E (by rw[G]) H).Y ?_;rintro _ ab _ ⟨rfl,K⟩;rw[bM];refine a _ _ ⟨?_,J.F K⟩;rw[ms q,S7];unfold e1;rw[ah]
 .unfold e1;rw[W8 Ω,Bool.and_false]
end
def vx(s:am)(n:aJ)(i:Int)(b m:Nat):Prop:=mK b m/\(¬(0<=i/\i<n.d6.length)->b=0/\m=0)/\∀x,0<=i->s.d9[i.toNat]?=σ x->m=x.un.length/\∀j:Nat,b.testBit j=(decide (j<x.un.length)&& !dropped x.mask (j:Int))
section
variable{w:x5}{af ag:Nat}{A R:ak}{n:aJ}{s:am}{t:aD}
theorem jF{i:Int}(h:bD w af ag A R n s t):aq x8 A1 [Γ af,Δ i] w λv I=>(∃b m,v=kq b m/\vx s n i b m)/\Ext w I:=by
 have bo:=h.2.2.2.1.d9;refine aE func25 ?_;refine bE ci.i λB U bp am Q=>?_;have Q:=Q;refine(yS (h.W am)).Y ?_;rintro _ aa _ ⟨rfl,an⟩;have S:=Q.W an;have V:=am.F an;rw[bN,cb];refine⟨λa=>?_,λa=>?_⟩
 .have a:¬(0<=i/\i<n.d6.length):=λaN=>by rw[ms aN]at a;cases a
  rw[ds (cs:=#[.int .u64 0,Δ 0]) Ψ];refine b3 (vs:=[.int .u64 0,Δ 0]) ci.i rfl rfl (by intro u hu;simp at hu;rcases hu with rfl|rfl<;>rfl) S λbq aO br aQ=>?_;rw[fu ci.p ci.i rfl aQ.range];refine⟨⟨0,0,rfl,⟨Ω,Ξ⟩,λ_=>⟨rfl,rfl⟩,λx ap J=>?_⟩,V.put aO Ω⟩;have:=(x6.1 J).1;exact m6 ⟨ap,Ω⟩ a
 have a:0<=i/\i<n.d6.length:=by simpa using a
 obtain⟨x,E⟩:=aI (l:=s.d9) (i:=i.toNat) Ω;obtain⟨z,W⟩:=aI (l:=n.d6) (i:=i.toNat) Ω;have aS:=h.2.2.2.1.eZ.2.2 z (x7 W);obtain⟨bs,_,bt,bu⟩:=h.2.2.2.1.var i.toNat x z E W;obtain⟨aT,aU,aV,aW,bi,aX,L,aY,G,av,_⟩:=(h.W V).1.parts;rw[aP cX.p 0 G rfl];refine(EL av h.2.2.2.2).Y ?_;rintro _ bw _ ⟨X,rfl⟩;rw[m3 a.1,r8,W,Option.getD_some];refine M5.Y ?_;rintro _ bx _ ⟨Y,rfl⟩;rw[m3 aS];obtain⟨m,rfl⟩:∃m:Nat,z=m:=⟨z.toNat,Ω⟩;rw[bz,bA,u7];have aw:=(V.F X).F Y;refine bE ci.i λe bB bC ax aZ=>?_;refine b3 (vs:=[.int .u64 ((2 ^ m-1:Nat):Int),Δ (m:Int)]) ci.i rfl rfl (by intro u hu;simp at hu;rcases hu with rfl|rfl<;>rfl) aZ λa1 ay bG a2=>?_;have z5:=aw.size;have az:=(aw.F ax).put ay Ω;have bI:=(((S.W X).W Y)).lt;have a6:aj a1 B ci [.int .u64 0,Δ 0]:=(((S.W X).W Y).W ax).ab ay λhe=>by have he:=he;omega
 intro bJ Z _ _;have aB:=az.F Z;obtain⟨aT,aU,aV,aW,bi,aX,L,aY,G,av,a7,a8,_⟩:=(h.W aB).1.parts;have bK:=vv E;have bL:=sX h.2.1 h.2.2.1;rw[aP cX.p 1 G rfl,aP cX.p 2 G rfl,ft (y:=i) (i:=i.toNat) Ω au.u al.i Ψ a8.ls (vu Ω),aR,lm Ω Ω];have ba:t.cg[iM s i.toNat+1]?=σ x.mask:=by rw[h.2.1,sS E Ω];rfl
 refine(pX a7 Ω ba).Y ?_;rintro _ bb _ ⟨rfl,ac⟩;have aC:=(a2.W Z).W ac;have bc:=(a6.W Z).W ac;obtain⟨mk,aD⟩:∃mk:Nat,x.mask=mk:=⟨x.mask.toNat,Ω⟩;rw[bH ci.p ci.i rfl (show bb.rangeAt e 0 [.int .u64 ((2 ^ m-1:Nat):Int),Δ (m:Int)]from aC.range)];refine(xz).Y ?_;rintro _ bM _ ⟨rfl,ad⟩;have bd:=aB.F ac;have be:B≠e:=Ω
 have bO:=az.size;have bP:w.heap.size<=e:=Ω
 have bQ:w.heap.size<=B:=Ω
 refine b7.range m (λq f=>Ext w f/\aj f B ci [.int .u64 0,Δ 0]/\∃b:Nat,aj f e ci [.int .u64 (b:Int),Δ (m:Int)]/\mK b m/\∀j:Nat,b.testBit j=(decide (j<m)&& !(decide (j<q)&&mk.testBit j))) Ω
  ⟨bd.F ad,bc.W ad,_,aC.W ad,⟨Ω,by have:=Nat.two_pow_pos m;omega⟩,λj=>by rw[CD];simp⟩ ?_ ?_
 .rintro q f bf bR ⟨H,K,b,C,M,N⟩ bg;refine bF Ω ?_;refine dh (λO=>Ext w O/\aj O B ci [.int .u64 0,Δ 0]/\∃b:Nat,aj O e ci [.int .u64 (b:Int),Δ (m:Int)]/\mK b m/\∀j:Nat,b.testBit j=(decide (j<m)&& !(decide (j<q+1)&&mk.testBit j))) ?_ ?_
  .rintro O bh;rw[aR];exact bg _ bh
  intro aA aF;have bj:mk / 2 ^ q<2 ^ 62:=Nat.lt_of_le_of_lt (Nat.div_le_self _ _) Ω;rw[aD,Dz Ω,show(1:Int)=((1:Nat):Int)from rfl,Fr bj Ω,bm,ao];have aG:(((mk / 2 ^ q &&& 1:Nat):Int)=((1:Nat):Int))↔mk.testBit q=s2:=by rw[<-Fs];omega
  refine⟨λae=>?_,λah=>?_⟩
  .have ae:=aG.1 ae;rw[bH ci.p ci.i rfl (show f.rangeAt e 0 [.int .u64 (b:Int),Δ (m:Int)]from C.range)];refine(M7 M).Y ?_;rintro _ bS _ ⟨rfl,ai⟩;rw[m3 ⟨Ω,Ω⟩,u7];refine b3 (vs:=[.int .u64 ((lg b (2 ^ q):Nat):Int),Δ (m:Int)]) ci.i rfl rfl (by intro u hu;simp at hu;rcases hu with rfl|rfl<;>rfl) (C.W ai) λbT aH bU bk=>?_;have aJ:∀j:Nat,(lg b (2 ^ q)).testBit j=(decide (j<m)&& !(decide (j<q+1)&&mk.testBit j)):=λj=>by
    rw[Cv,N,Nat.testBit_two_pow];by_cases aK:j<m
    .by_cases P:j=q
     .subst P;simp[ae]
     .have ak:decide (j<q+1)=decide (j<q):=decide_eq_decide.2 ⟨λh=>Ω,λh=>Ω⟩;rw[ak,ms aK,ms (show j<64 by omega),rc (show¬q=j from λh=>P h.symm)];simp
    .simp[aK]
   refine aF _ ⟨(H.F ai).then aH λr bV he=>by have he:r=e:=he;omega,(K.W ai).ab aH λhe=>be he,_,bk,⟨Ω,MY λj aL=>by rw[aJ,rc Ω];rfl⟩,aJ⟩
  .have ah:mk.testBit q=sp:=by simpa using λh=>ah (aG.2 h)
   refine aF _ ⟨H,K,b,C,M,λj=>?_⟩;rw[N];by_cases P:j=q
   .subst P;simp[ah]
   .have ak:decide (j<q+1)=decide (j<q):=decide_eq_decide.2 ⟨λh=>Ω,λh=>Ω⟩;rw[ak]
 .rintro f bf ⟨H,K,b,C,M,N⟩;refine b4 Ω ?_;rw[bH ci.p ci.i rfl (show f.rangeAt e 0 [.int .u64 (b:Int),Δ (m:Int)]from C.range)];refine b3 (vs:=[.int .u64 (b:Int),Δ (m:Int)]) ci.i rfl rfl (by intro u hu;simp at hu;rcases hu with rfl|rfl<;>rfl) K λbW bl bX bn=>?_;rw[fu ci.p ci.i rfl bn.range];refine⟨⟨b,m,rfl,M,λh=>m6 a h,λy ap aM=>?_⟩,H.put bl Ω⟩;rw[E]at aM;cases aM;refine⟨Ω,λj=>?_⟩;rw[N,aD,RB,show x.un.length=m by omega];by_cases aL:j<m<;>simp[aL]
theorem vy{f:bL}(e:bd k d6 s)(ah:f∈s.ho):ct f.an/\f.cs.length=(aX f.an).toNat/\aX f.an<=4096:=by
 obtain⟨a,V,_⟩:=e.ho f ah;rw[V];refine⟨⟨?_,pT e.eZ.2.2 λv ac=>⟨(a.scope.1 v ac).1,a.d9 v ac⟩⟩,a.len,a.small⟩;have:=a.scope.2;simp[b5];exact this
def iS(s:am)(j:Nat)(tl:Λ):Option Nat:=match s.ho[j]? with
 |some f=>if f.live≠0 then(cj f.an tl 0).map λm=>fJ s j+1+m.toNat else ν
 |none=>ν
def nc(s:am)(j:Nat)(tl:Λ):Int:=match s.ho[j]? with
 |some f=>bu f.an f.cs tl
 |none=>0
theorem Fw(h:bD w af ag A R n s t)(K:aQ .i64 w aY tl):aq x8 Ju [Γ af,Δ (j:Int),aY] w λv I=>v=Δ (match iS s j tl with|some p=>(p:Int)|none=>-1)/\Ext w I:=by
 refine aE func85 ?_;refine(sZ h).Y ?_;rintro _ U _ ⟨rfl,z⟩;rw[ms Ω,S7,u7,bN,cb];refine⟨λa=>⟨?_,z⟩,λa=>?_⟩
 .have a:e1 s j=sp:=by simpa using a
  have:iS s j tl=ν:=by
   unfold iS;unfold e1 at a;cases ah:s.ho[j]? with
   |none=>rfl
   |some f=>
    rw[ah]at a;have a:f.live=0:=by simpa using a
    simp[a]
  rw[this]
 have a:e1 s j=s2:=by simpa using a
 obtain⟨f,ah,M⟩:∃f,s.ho[j]?=σ f/\f.live≠0:=by
  unfold e1 at a;cases ah:s.ho[j]? with
  |none=>rw[ah]at a;cases a
  |some f=>rw[ah]at a;exact⟨f,rfl,by simpa using a⟩
 obtain⟨G,ad,ae⟩:=vy h.2.2.2.1 (x7 ah);obtain⟨N,O,P,Q,bi,H,L,S,B,V,W,X,r,x⟩:=(h.W z).1.parts;obtain⟨y,e⟩:∃y,L[j]?=σ y:=⟨_,v8 (by rw[x.1];exact(x6.1 ah).1)⟩;have C:=(x6.1 e).1;obtain⟨_,Y,J⟩:=x.2 j y f e ah;have Z:U.rangeAt H (j*3+1) [y.hv]:=λq v ac=>by
  match q,ac with
  |0,ac=>cases ac;exact r.range e 1 _ rfl
 rw[aP cX.p 3 B rfl,cu rfl gC.u gD.i r C,a1 gD.p rfl,bH (cs:=[y.hv]) bO.p bO.i rfl Z];refine(BY Y.ls (K.W z) G).Y ?_;rintro _ aa _ ⟨rfl,ab⟩;have E:=z.F ab;unfold mG iS;rw[ah];simp only[m3 M];cases hi:cj f.an tl 0 with
 |none=>
  simp only[Option.map_none];rw[bz,bA,bM,ao];exact⟨λ_=>⟨trivial,E⟩,λh=>m6 (show(3:Int)≠0 by decide) h⟩
 |some m=>
  simp only[Y7];rw[bz,bA,bM,ao];refine⟨λh=>m6 rfl h,λ_=>?_⟩;have ai:=mF G.2 hi;have aj:=yR ah;have ak:=sX h.2.1 h.2.2.1;obtain⟨N,O,P,Q,bi,H,L,S,B,V,W,X,r,x⟩:=(h.W E).1.parts;obtain⟨y,e⟩:∃y,L[j]?=σ y:=⟨_,v8 (by rw[x.1];exact(x6.1 ah).1)⟩;have C:=(x6.1 e).1;obtain⟨_,_,J⟩:=x.2 j y f e ah;rw[aP cX.p 3 B rfl,cu rfl gC.u gD.i r C,a1 gD.p rfl,aG Ψ (r.range e 2 _ rfl),J,aR,lm Ω Ω,aR,lm Ω Ω];refine⟨?_,E⟩;congr 1;omega
theorem yU{p:Nat}(a:bd k d6 s)(h:iS s j tl=σ p):s.cells[p]?=σ (nc s j tl)/\∃f,s.ho[j]?=σ f/\f.live≠0/\∃m:Nat,cj f.an tl 0=σ (m:Int)/\m<f.cs.length/\p=fJ s j+(m+1):=by
 unfold iS at h;cases ah:s.ho[j]? with
 |none=>rw[ah]at h;cases h
 |some f=>
  rw[ah]at h;simp only at h;split at h
  .rename_i e;obtain⟨m,hm,rfl⟩:=Y0.1 h;obtain⟨r,w,x⟩:=vy a (x7 ah);have y:=mF r.2 hm;obtain⟨q,rfl⟩:∃q:Nat,m=q:=⟨m.toNat,Ω⟩;refine⟨?_,f,rfl,e,q,hm,Ω,Ω⟩;rw[show fJ s j+1+(q:Int).toNat=fJ s j+(q+1) by omega,yw ah Ω];unfold nc bu;rw[ah];simp only[hm];show f.cs[q]?=_;rw[u7,r8,v8 Ω];rfl
  .cases h
theorem vz(h:bD w af ag A R n s t)(e:aQ .i64 w aY tl):aq x8 wX [Γ af,Δ (j:Int),aY] w λv I=>v=(if(iS s j tl).isSome then .tuple #[Δ (nc s j tl),Δ 0]else .tuple #[Δ 0,Δ 1])/\Ext w I:=by
 refine aE func37 ?_;rw[dl ez.u];simp only[b8,bc];refine(Fw h e).Y ?_;rintro _ U _ ⟨rfl,a⟩;cases ae:iS s j tl with
 |none=>
  simp only;rw[aW,ao];exact⟨λ_=>⟨rfl,a⟩,λh=>Ω⟩
 |some p=>
  simp only;refine b4 Ω ?_;obtain⟨x,y,z,B,bi,C,L,E,f,G,q,H,J,K⟩:=(h.W a).1.parts;rw[aP cX.p 1 f rfl];refine(pX q rfl (by rw[h.2.1];exact(yU h.2.2.2.1 ae).1)).Y ?_;rintro _ aa _ ⟨rfl,r⟩;exact⟨rfl,a.F r⟩
end
theorem fb.parts{a:Nat}{e f r:x4}{A R:ak}{n:aJ}{s:am}{t:aD}(h:fb w af ag a e f r A R n s t):∃bi j L q,aj w af cX [Γ a,Γ ag,e,f,r]/\gP w a n/\dK w ag q t/\aH .i64 al w bi e (j8 s)/\bo rb 3 gD w j f L/\m7 R w L s:=by
 obtain⟨_,bi,j,ge,L,E,q,w0,x,⟨y,z,H⟩,⟨B,I,J,K⟩,C,⟨F,G⟩,M,N⟩:=h;exact⟨bi,j,L,q,x,y.W z,B,C,F,G⟩
theorem RC{a b:Int}(e:0<=a/\a<=k)(f:0<=b/\b<=k)(hk:1<=k/\k<=2147483648):aq x8 Br [Δ a,Δ b,Δ k] w λv I=>v= .tuple #[Δ (min (a+b) k),Δ 0]/\Ext w I:=by
 refine xO.Y ?_;rintro _ U _ ⟨rfl,J⟩;refine⟨?_,J⟩;unfold pN;rw[m3 ⟨⟨hk,e.1,e.2⟩,hk,f.1,f.2⟩]
def Room(t:aD):Prop:=t.marks=[]\/t.olds.length<100000000
def eb(s:am)(i v:Nat):am:=match s.d9[i]? with
 |some x=>{s with d9:=s.d9.set i {x with mask:=((x.mask.toNat ||| 2 ^ v:Nat):Int)}}
 |none=>s
theorem bd.vA{s:am}{i:Nat}{x y:bp}(h:bd k d6 s)(J:s.d9[i]?=σ x)(j:y.un.length=x.un.length)(r:∀c∈y.un,0<=c/\c<=k)(hm:0<=y.mask/\y.mask<4294967296):bd k d6 {s with d9:=s.d9.set i y}:=
 ⟨h.ep,h.eZ,h.zero,by grind [bd.d9],λp z q a e=>by
  have a:(s.d9.set i y)[p]?=σ z:=a;rw[X7]at a;by_cases f:i=p
  .subst f;rw[m3 rfl,m3 (x6.1 J).1]at a;cases a;exact⟨j.F (h.var i x q J e).1,r,hm⟩
  .rw[m5 f]at a;exact h.var p z q a e,h.ho⟩
theorem bd.Fx{s:am}{f g:bL}(h:bd k d6 s)(ah:s.ho[j]?=σ f)(h1:g.sc=f.sc)(e:g.an=f.an)(q:g.cs.length=f.cs.length)(a:∀c∈g.cs,0<=c/\c<=k):bd k d6 {s with ho:=s.ho.set j g}:=
 ⟨h.ep,h.eZ,h.zero,h.d9,h.var,λx J=>by
  rcases U5 J with J|rfl
  .exact h.ho x J
  .obtain⟨⟨r,w,y,z,A,B⟩,C,E⟩:=h.ho f (x7 ah);refine⟨⟨?_,?_,?_,?_,?_,a⟩,?_,?_⟩
   .grind
   all_goals grind⟩
theorem RD{r:Nat}{c:List x4}(a:aj w r e c)(he:¬(e=gW\/e=ff\/e=nH\/e=iu\/e=cX\/e=gD\/e=fe)):¬eQ w r:=by
 rintro (⟨h,j,q,s⟩|f)
 .grind [fI]
 .exact f _ a rfl
section
variable{w:x5}{af ag:Nat}{A R:ak}{n:aJ}{s:am}{t:aD}
theorem oL.set(h:oL t)(aC:Room t)(p:Nat)(x:Int):oL (t.set p x):=by
 refine⟨by rw[aD.EQ];exact h.1,?_,by rw[aD.yz];exact h.2.2⟩;rcases aC with aC|aC
 .rw[aD.yA aC];exact h.2.1
 grind [aD.ER]
theorem Fy{s':am}{p:Nat}{x:Int}(h:bD w af ag A R n s t)(f:y=(p:Int))(ae:p<s.cells.length)(j:s.cells.set p x=s'.cells)(V:pZ s s')(q:bd n.k n.d6 s')(aC:Room t):
  aq x8 Bf [Γ ag,Δ y,Δ x] w λr I=>r=Δ 0/\ai (eQ w) w I/\∃aS,Grow A w aS I/\bD I af ag aS R n s' (t.set p x):=by
 obtain⟨z,ac,e,_,B⟩:=id h;obtain⟨C,E,G⟩:=z.sT;have H:p<t.cells.length:=by grind [aD.cg]
 refine(vl E.min f H e).Y ?_;rintro _ U _ ⟨rfl,J,a,K⟩;obtain⟨aS,L,M⟩:=G (λr=>C r\/J r) U _ ⟨a.1.Y λr _ h=>h.1,λr N=>N.elim .inl λh=>(a.2.1 r h).imp (λh=>h.1) id,by grind⟩ (K.Y (by grind));exact⟨rfl,a.1.Y λr _ h=>.inl h.2,aS,L,M.same V,by rw[aD.r3,ac,j],e.set aC p x,q,B⟩
theorem yV{i:Int}(h:bD w af ag A R n s t)(aC:Room t):aq x8 Ji [Γ af,Δ i,Δ v] w λr I=>(¬eF n i v->r=Δ 1/\Ext w I)/\
  (eF n i v->r=Δ 0/\ai (eQ w) w I/\∃aS x,Grow A w aS I/\bD I af ag aS R n (eb s i.toNat v.toNat) (t.set (iM s i.toNat+1) x)):=by
 refine aE func70 ?_;rw[dl ez.u];simp only[b8,bc];refine(yT h).Y ?_;rintro _ U _ ⟨rfl,B⟩;by_cases e:eF n i v
 rotate_left
 .rw[m5 e,aW,ao];exact⟨by grind,λh=>Ω⟩
 rw[m3 e];refine b4 Ω ?_;obtain⟨x,a,J,ab,ac⟩:=e.var h.2.2.2.1;obtain⟨h1,ad,ae,ah⟩:=id e;have aj:=h.2.2.2.1.d9;obtain⟨z,K⟩:=aI (l:=n.d6) (i:=i.toNat) Ω;obtain⟨_,M,ak,am⟩:=h.2.2.2.1.var i.toNat x z a K;have an:=vv a;have ap:=sX h.2.1 h.2.2.1;obtain⟨av,aw,ax,ay,N⟩:=(h.W B).1;obtain⟨bi,az,L,aA,C,aB,O,P,aD,aF⟩:=N.parts;rw[aP cX.p 2 C rfl,ft (y:=i) (i:=i.toNat) Ω au.u al.i Ψ P.ls (vu Ω),aR,lm Ω Ω];intro aa f _ _;have Q:=B.F f;have E:=C.W f;have S:=O.W f;obtain⟨q,rfl⟩:∃q:Nat,v=q:=⟨v.toNat,Ω⟩;obtain⟨mk,V⟩:∃mk:Nat,x.mask=mk:=⟨x.mask.toNat,Ω⟩;rw[u7]at J;rw[aP cX.p 1 E rfl,aP cX.p 1 E rfl,RA Ω];have W:t.cg[iM s i.toNat+1]?=σ x.mask:=by rw[h.2.1,sS a Ω];rfl
 refine(pX (i:=iM s i.toNat+1) S Ω W).Y ?_;rintro _ aG _ ⟨rfl,G⟩;refine⟨.inl G,?_⟩;have aH:(2:Nat) ^ q<=2 ^ 31:=T2 Ω Ω;rw[V,Rz Ω Ω];have j:=Q.F G;have aJ:mk ||| 2 ^ q<2 ^ 32:=Nat.or_lt_two_pow Ω Ω;have H:eb s i.toNat (q:Int).toNat={s with d9:=s.d9.set i.toNat {x with mask:=((mk ||| 2 ^ q:Nat):Int)}}:=by
  grind [eb,u7]
 refine(Fy (p:=iM s i.toNat+1) (s':=eb s i.toNat (q:Int).toNat) (h.W j) Ω Ω ?_ ?_ ?_ aC).Y ?_
 .rw[H,EI a Ω];rfl
 .grind [EO]
 .rw[H];exact h.2.2.2.1.vA a rfl M (by grind)
 rintro _ aK _ ⟨rfl,X,aS,Y,Z⟩;exact⟨by grind,λ_=>⟨rfl,iN j X,aS,_,(Grow.W j).F Y,Z⟩⟩
end
theorem vB{dd:x4}(h:aQ .i64 w dd l):aq x8 IR [dd,Δ v] w λr I=>r= .bool (decide (v∈l))/\Ext w I:=by
 refine aE func30 ?_;rw[a8 au.u h];refine ce.range l.length (λi _ U=>Ext w U/\v∉l.take i) h.le ⟨Ext.refl _,Ξ⟩ ?_ ?_
 .rintro i _ U k hi ⟨J,a⟩ hk;obtain⟨x,e⟩:=aI (l:=l) hi;refine bF Ω ?_;rw[bk au.u al.i Ψ (h.W J) e,bm,ao];refine⟨λhe=>⟨by rw[ms];rw[<-he];exact x7 e,J⟩,λf=>?_⟩;rw[aR];refine hk _ _ ⟨J,λhm=>?_⟩;rw[u9,e,j4,j5,Y1]at hm;rcases hm with hm|hm
  .exact a hm
  .exact f hm.symm
 .rintro _ U k ⟨J,a⟩;rw[o9]at a;rw[aW,ao];exact⟨λh=>Ω,λ_=>⟨by rw[rc a],J⟩⟩
theorem Fz:∀{s t:Λ}{m k v:Int},s.length=t.length->cj (s++[k]) (t++[v]) m=(cj s t m).bind λr=>if 0<=v/\v<k then σ (r*k+v)else ν
 |[],[],m,k,v,_=>by simp[cj]
 |x::s,y::t,m,k,v,h=>by
  have h:s.length=t.length:=by simpa using h
  rw[List.cons_append,List.cons_append];simp only[cj];split
  .exact Fz h
  .rfl
theorem FA{x:bp}(h:0<=v/\v<x.un.length):v∈az x↔dropped x.mask v=sp:=by
 unfold az;rw[S6,l9];constructor
 .rintro⟨_,a⟩;simpa using a
 .intro a;exact⟨⟨v.toNat,List.mem_range.2 Ω,Ω⟩,by simp[a]⟩
def bV(s:am):Prop:=∀f∈s.ho,f.live≠0->∀v∈f.sc,∀x,s.d9[v.toNat]?=σ x->x.gone=0
theorem gP.put{g y:Nat}{c:List x4}{n:aJ}(h:gP w y n)(a:aj w g aK c)(f:ai (λr=>r=g) w I):gP I y n:=by
 have q:=Fq a;have z:∀r,r=g->∃e c,aj w r e c/\e≠i7/\e≠db/\e≠al/\e≠ay/\e≠aB:=λr j=>by
  subst j;exact⟨_,c,a,Φ,Φ,Φ,Φ,Φ⟩
 obtain⟨A,B,C,E,gr,bb,L,nm,hv,gz,fv2,h1,F,G,H,J,K,M⟩:=h;refine⟨A,B,C,E,gr,bb,L,nm,hv,gz,fv2,yP h1 f q Φ,yP F f q Φ,yO G f q Φ,H.ab f λr j=>?_,J,K.ab f λr j=>?_,M⟩
 .obtain⟨e,c,a,_,_,_,s,x⟩:=z r j;exact⟨e,c,a,s,x⟩
 .obtain⟨e,c,a,s,x,N,O,_⟩:=z r j;exact⟨e,c,a,s,x,N,O⟩
theorem StateM.put{g:Nat}{A R:ak}{n:aJ}{s:am}{t:aD}{c:List x4}(h:StateM w af ag A R n s t)(B:aj w g aK c)(q:ai (λr=>r=g) w I)(S:¬A g):∃R',(∀r,R' r->R r/\r≠g)/\StateM I af ag A R' n s t:=by
 obtain⟨U,W,X,Y,⟨h1,Z,aa,ac⟩,bi,ad,ge,L,E,ae,w0,al,⟨M,F,an⟩,⟨ao,N,ap,aq⟩,au,⟨av,O⟩,aw,P⟩:=h;obtain⟨cR,Q⟩:=EA;have z:=q.size;have y:=Fq B;have C:∀r,(w0.heap.setIfInBounds g cR)[r]?=if g=r then(if g<w0.heap.size then σ cR else ν)else w0.heap[r]?:=λr=>Array.getElem?_setIfInBounds;have ax:∀r,A r->r≠g:=λr a he=>S (he▸a);have int:∀{v:x4}{l:Λ},kx R w v l->kx (λr=>R r/\r≠g) I v l:=λ⟨⟨ay,hm⟩,az⟩=>⟨⟨ay,yO hm q y Φ⟩,λr a=>⟨az r a,cB hm B Φ a⟩⟩;refine⟨λr=>R r/\r≠g,λr h=>h,U,W,X,Y,⟨h1,λr a aA=>Z r a aA.1,λr a=>by have:=aa r a.1;omega,λr a=>by have:=ac r a;omega⟩,bi,ad,ge,L,E,ae,{w0 with heap:=w0.heap.setIfInBounds g cR},yP al q y Φ,⟨?_,?_,?_⟩,
  ⟨ao.ab q λr a=>ax r (N r a),N,ap,aq⟩,yO au q y Φ,⟨Fp av q y Φ,O.1,λj x f J ah=>?_⟩,Fp aw q y Φ,P.1,λj x e J he=>?_⟩
 .by_cases V:∃o,w0.heap[g]?=σ o/\gf o=s2
  .obtain⟨o,aC,aB⟩:=V;have aE:aj w0 g aK c:=by
    unfold aj at B ⊢;have:=F.a7 g o aC aB;rw[B]at this;rw[aC,this]
   refine M.put aE ⟨Ξ,λr o a V aF=>?_⟩;show(w0.heap.setIfInBounds g cR)[r]?=σ o;rw[C,m5 λhe=>aF he.symm];exact a
  .refine M.W ⟨Ξ,λr o a aG=>?_⟩;show(w0.heap.setIfInBounds g cR)[r]?=σ o;rw[C,m5 λhe=>V ⟨o,by rw[he];exact a,aG⟩];exact a
 .refine⟨by show(w0.heap.setIfInBounds g cR).size<=_;rw[Array.size_setIfInBounds];exact X3 F.size z,λr o a V=>?_⟩;have a:(w0.heap.setIfInBounds g cR)[r]?=σ o:=a;rw[C]at a;by_cases he:g=r
  .rw[m3 he]at a;split at a
   .cases a;rw[Q]at V;cases V
   .cases a
  .rw[m5 he]at a;exact q.a7 r o (F.a7 r o a V) V λh=>he h.symm
 .intro r o a V;have a:(w0.heap.setIfInBounds g cR)[r]?=σ o:=a;rw[C]at a;by_cases he:g=r
  .rw[m3 he]at a;split at a
   .cases a;rw[Q]at V;cases V
   .cases a
  .rw[m5 he]at a;exact⟨an r o a V,λh=>he h.symm⟩
 .obtain⟨G,H,K⟩:=O.2 j x f J ah;exact⟨int G,int H,K⟩
 .obtain⟨G,H,K⟩:=P.2 j x e J he;exact⟨G,int H,int K⟩
theorem RE{f:cn}(j:pl.length<=60000)(h:ix pl=σ f):∃N,N<=60000/\fG N f/\f.name≠[]/\∀b∈f.name,ck b=s2:=by
 unfold ix at h;rw[m5 Ω]at h;cases a:jW ⟨(lex pl).1,0,sp,[]⟩with
 |none=>rw[a]at h;cases h
 |some q=>
  obtain⟨r,s⟩:=q;rw[a]at h;simp only at h;split at h
  .rename_i ax;cases h;obtain⟨h1,e⟩:=C2 rfl a ax.2.2;have w:=r2 pl.length pl (o6 _);obtain⟨U,aa,_⟩:=um pl.length pl (o6 _) f.name e;exact⟨_,by show(lex pl).1.length<=60000;omega,h1,U,aa⟩
  .cases h
theorem RF:aq x8 A7 [.pointer ν] w λv I=>v= .pointer ν/\Ext w I:=by
 refine aE func61 ?_;rw[dl ou.u];simp only[Option.isNone_none,bS];exact⟨by trivial,Ext.refl _⟩
theorem RG{v:x4}(h:aQ .u8 w v l)(C:l.length<=100000):aq x8 I6 [v] w λf I=>Ext w I/\∃g,aH .u8 cV I g f l:=by
 have e:=h;obtain⟨E,b,o,base,cap,rfl,G,hm,s,x⟩:=h;refine aE func57 ?_;rw[qG cW.u,cb];refine⟨λy=>⟨Ext.refl _,0,?_⟩,λ_=>?_⟩
 .have:l=[]:=by
   cases base with
   |none=>
        by_cases e:0<l.length
        .have:=s e;cases this
        .exact j6 Ω
   |some a=>cases y
  subst this;exact aH.nil _ _ _ _
 .refine yQ (k:=.u8) cW.u cV.i λH g1 U J j q=>?_;refine jD cW.u cV.i rfl q (e.W j) Θ Θ λf z aa A K B=>?_;exact⟨j.then B (λr x he=>by have:=(cd q he).1;omega),z,by simpa using A⟩
def RH(sv:x4):Prop:=∃cs:List x4,sv= .agg cs.toArray/\cs.length=8/\∀u∈cs,u.oneCell'=s2
theorem FB:RH (.agg z12.toArray):=⟨z12,rfl,rfl,by intro u hu;simp[z12]at hu;rcases hu with rfl|rfl|rfl|rfl<;>rfl⟩
theorem yW{f:cn}(a:fG N f):(cY f).ho.length<=256:=by
 have h1:=(sE a).2.length_eq;have h:=(mV a).2.2;have j:=List.length_filter_le gl (gm f);have q:=a.mO;have e:=(q8 f (gn f).length).2.2.2;rw[vj]at e;omega
theorem RI{n:aJ}{t:aD}(e:kU n)(ah:n.ho.length<=256)(ac:t.cg=(dp n).cells)(a:Plain t):oL t:=by
 have h1:=vr e ah n.unary.length n.ho.length;rw[yD,<-ac]at h1;unfold aD.cg at h1;rw[r9]at h1;refine⟨Ω,?_,?_⟩
 .rw[a.2.1];exact X9 _
 .rw[a.1];exact X9 _
section
variable{w:x5}{af ag:Nat}{A R:ak}{n:aJ}{s:am}{t:aD}
theorem FC{j:Int}(h:bD w af ag A R n s t)(q:¬(0<=j/\j<s.ho.length)):aq x8 rP [Γ af,Δ j] w λr I=>r= .slice ν 0 0/\Ext w I:=by
 refine aE func54 ?_;refine a6 (λv U=>v= .bool s2/\Ext w U) ?_ ?_
 .rintro _ U ⟨rfl,e⟩;rw[bS];exact⟨rfl,e⟩
 intro aA a;rw[aW,ao];refine⟨λ_=>a _ _ ⟨rfl,Ext.refl _⟩,λx=>?_⟩;refine(p4 h).Y ?_;rintro _ y _ ⟨rfl,f⟩;rw[cT];exact a _ _ ⟨by rw[ms Ω],f⟩
end
section
variable{w:x5}{B:Nat}{sv:x4}{k:Int}{d6:Λ}{s:am}
end
def ii:List (Λ)->List (Λ)
 |[]=>[[]]
 |d::a=>d.flatMap λv=>(ii a).map (v:: ·)
theorem s3:∀{a:List (Λ)}{t:Λ},t∈ii a↔t.length=a.length/\∀(p:Nat)d v,a[p]?=σ d->t[p]?=σ v->v∈d
 |[],t=>by
  grind [ii]
 |d::a,t=>by
  simp only[ii,List.mem_flatMap,l9];constructor
  .rintro⟨v,ac,bx,f,rfl⟩;obtain⟨h1,e⟩:=s3.1 f
   grind
  .rintro⟨h1,e⟩;cases t with
   |nil=>simp at h1
   |cons v bx=>exact⟨v,e 0 d v rfl rfl,bx,s3.2 ⟨by grind,λp h u ae hu=>e (p+1) h u (by grind) (by grind)⟩,rfl⟩
def p6:List (Int->Bool)->Λ->Bool
 |q::a,v::t=>q v&&p6 a t
 |_,_=>s2
theorem FD:∀(a:List (Λ))(f:List (Int->Bool)),f.length=a.length->ii ((a.zip f).map λp=>p.1.filter p.2)=(ii a).filter (p6 f)
 |[],[],_=>rfl
 |d::a,q::f,h=>by
  have j:=FD a f (by grind);simp only[List.zip_cons_cons,List.map_cons,ii];rw[j];clear j h;induction d with
  |nil=>rfl
  |cons v d r=>
   rw[T0,List.filter_append,<-r];have e:((ii a).map (v:: ·)).filter (p6 (q::f))=if q v then((ii a).filter (p6 f)).map (v:: ·)else[]:=by
    rw[List.filter_map]
    grind [List.filter_congr,p6,List.filter_eq_nil_iff]
   grind
def jG(k:Int):Λ:=(X0 k.toNat).map λv:Nat=>(v:Int)
theorem yX:∀(s:Λ),bs s=ii (s.map jG)
 :=by
 intro a;induction a<;>grind [bs,ii,jG,List.flatMap_map]
theorem s4:v∈jG k↔0<=v/\v<k:=by
 unfold jG;rw[l9];constructor
 .grind
 .intro h;exact⟨v.toNat,by grind,Ω⟩
def er(f:Int->Int)(L:List (Λ))(an cs:Λ):Λ:=((bs an).zip cs).map λp=>if p.1∈L then f p.2 else p.2
theorem ri(f:Int->Int)(L:List (Λ))(an cs:Λ)(h:cs.length<=(bs an).length):(er f L an cs).length=cs.length:=by
 grind [er]
theorem rj{f:Int->Int}{i:Nat}(a:(bs an)[i]?=σ t)(e:cs[i]?=σ c):(er f L an cs)[i]?=σ (if t∈L then f c else c):=by
 grind [er]
theorem RJ{f:Int->Int}{i:Nat}(V:dS an)(s:cs.length<=(bs an).length)(a:(bs an)[i]?=σ t)(e:cs[i]?=σ c)(r:t∉L):(er f L an cs)[i]?=σ c/\(er f L an cs).set i (f c)=er f (L++[t]) an cs:=by
 have h1:=rj (f:=f) (L:=L) a e;rw[m5 r]at h1;refine⟨h1,?_⟩;apply Y3;intro j;rw[X7];by_cases h:i=j
 .subst h;rw[m3 rfl,m3 (x6.1 h1).1,rj a e,m3 Ξ]
 .rw[m5 h];cases q:cs[j]? with
  |none=>
   grind [ri]
  |some w=>
   obtain⟨u,hu⟩:∃u,(bs an)[j]?=σ u:=⟨_,v8 (by grind)⟩;rw[rj hu q,rj hu q];have x:u≠t:=λhe=>by
    subst he;have y:=kr V a
    grind [kr]
   grind
def ly(s:am)(i v:Nat)(c:Int):am:=match s.d9[i]? with
 |some x=>{s with d9:=s.d9.set i {x with un:=x.un.set v c}}
 |none=>s
def lz(s:am)(j m:Nat)(c:Int):am:=match s.ho[j]? with
 |some f=>{s with ho:=s.ho.set j {f with cs:=f.cs.set m c}}
 |none=>s
theorem vC{i:Nat}(h:∀x∈l,0<=x/\x<=k)(a:0<=c/\c<=k):∀x∈l.set i c,0<=x/\x<=k:=λx J=>by
 rcases U5 J with J|rfl
 .exact h x J
 .exact a
def oS(w:x5)(af ag:Nat)(A R:ak)(n:aJ)(s':am)(t:aD)(v:x4)(I:x5):Prop:=v=Δ 0/\ai (eQ w) w I/\∃aS p x,Grow A w aS I/\bD I af ag aS R n s' (t.set p x)
theorem oS.W{U:x5}{A R:ak}{n:aJ}{s':am}{t:aD}{v:x4}(J:Ext w U)(h:oS U af ag A R n s' t v I):oS w af ag A R n s' t v I:=by
 obtain⟨h1,a,aS,p,x,e,f⟩:=h;exact⟨h1,iN J a,aS,p,x,(Grow.W J).F e,f⟩
section
variable{w:x5}{af ag:Nat}{A R:ak}{n:aJ}{s:am}{t:aD}
theorem s5(h:bD w af ag A R n s t)(f:y<0\/¬(0<=c/\c<=n.k)):aq x8 By [Γ af,Δ y,Δ c] w λv I=>v=Δ (if y<0 then 1 else 3)/\Ext w I:=by
 refine aE func269 ?_;rw[dl ez.u];simp only[b8,bc];rw[aW,ao];refine⟨λe=>⟨by rw[m3 e],Ext.refl _⟩,λe=>?_⟩;refine(n2 h).Y ?_;rintro _ U _ ⟨rfl,j⟩;refine(ld (a:=c) (k:=n.k)).Y ?_;rintro _ aa _ ⟨rfl,q⟩;have r:=f.resolve_left e;rw[rc (λh=>r h.2),bN,X6,bS,m5 e];exact⟨rfl,j.F q⟩
theorem yY{s':am}{p:Nat}(h:bD w af ag A R n s t)(aC:Room t)(f:y=(p:Int))(ae:p<s.cells.length)(j:s.cells.set p c=s'.cells)(V:pZ s s')(q:bd n.k n.d6 s')(r:0<=c/\c<=n.k):
  aq x8 By [Γ af,Δ y,Δ c] w (oS w af ag A R n s' t):=by
 refine aE func269 ?_;rw[dl ez.u];simp only[b8,bc];refine b4 Ω ?_;refine(n2 h).Y ?_;rintro _ U _ ⟨rfl,x⟩;refine(ld (a:=c) (k:=n.k)).Y ?_;rintro _ aa _ ⟨rfl,z⟩;have e:=x.F z;rw[ms (show cE c n.k from⟨h.2.2.2.1.ep,r⟩),bN,Y5,bc];obtain⟨H,I,J,K,bi,M,L,N,B,O,P,Q,S,W⟩:=(h.W e).1.parts;rw[aP cX.p 1 B rfl];refine(Fy (h.W e) f ae j V q aC).Y ?_;rintro _ X _ ⟨rfl,C,aS,E,G⟩;exact oS.W e ⟨rfl,C,aS,_,_,E,G⟩
theorem RK(h:bD w af ag A R n s t)(aC:Room t):aq x8 KW [Γ af,Δ c] w λv I=>(¬(0<=c/\c<=n.k)->v=Δ 3/\Ext w I)/\((0<=c/\c<=n.k)->oS w af ag A R n {s with zero:=c} t v I):=by
 refine aE func217 ?_;by_cases a:0<=c/\c<=n.k
 .refine (yY (p:=0) h aC rfl (by unfold am.cells l5;simp) (QF s c) (EN s c) ⟨h.2.2.2.1.ep,h.2.2.2.1.eZ,a,h.2.2.2.1.d9,h.2.2.2.1.var,h.2.2.2.1.ho⟩ a).Y ?_;rintro v U _ e;exact⟨λh=>m6 a h,λ_=>e⟩
 .refine (s5 h (.inr a)).Y ?_;rintro v U _ ⟨rfl,f⟩;exact⟨λ_=>⟨rfl,f⟩,λh=>m6 h a⟩
theorem FE{i:Int}(h:bD w af ag A R n s t)(aC:Room t):aq x8 KV [Γ af,Δ i,Δ v,Δ c] w λr I=>
  (¬eF n i v->r=Δ 1/\Ext w I)/\(eF n i v->¬(0<=c/\c<=n.k)->r=Δ 3/\Ext w I)/\(eF n i v->(0<=c/\c<=n.k)->oS w af ag A R n (ly s i.toNat v.toNat c) t r I):=by
 refine aE func216 ?_;refine(yT h).Y ?_;rintro _ U _ ⟨rfl,e⟩;by_cases a:eF n i v
 .rw[m3 a];by_cases j:0<=c/\c<=n.k
  .obtain⟨x,f,G,H,_⟩:=a.var h.2.2.2.1;have J:=h.2.2.2.1.d9;obtain⟨z,B⟩:∃z,n.d6[i.toNat]?=σ z:=⟨_,v8 (by have:=a.1;have:=a.2.1;omega)⟩;obtain⟨_,C,hm⟩:=h.2.2.2.1.var i.toNat x z f B;have K:=vv f;have q:ly s i.toNat v.toNat c={s with d9:=s.d9.set i.toNat {x with un:=x.un.set v.toNat c}}:=by unfold ly;rw[f]
   refine(yY (p:=iM s i.toNat+(2+v.toNat)) (s':=ly s i.toNat v.toNat c) (h.W e) aC Ω Ω ?_ ?_ ?_ j).Y ?_
   .rw[q];refine EI f Ω ?_;rw[show 2+v.toNat=v.toNat+1+1 by omega];rfl
   .rw[q];exact EO f Ξ
   .rw[q];exact h.2.2.2.1.vA f Ξ (vC C j) hm
   .rintro r aa _ E;exact⟨λh=>m6 a h,λ_ h=>m6 j h,λ_ _=>E.W e⟩
  .refine (s5 (h.W e) (.inr j)).Y ?_;rintro r aa _ ⟨rfl,y⟩;rw[m5 Ω];exact⟨λh=>m6 a h,λ_ _=>⟨rfl,e.F y⟩,λ_ h=>m6 h j⟩
 .rw[m5 a];refine(s5 (h.W e) (.inl Ω)).Y ?_;rintro r aa _ ⟨rfl,y⟩;rw[m3 Ω];exact⟨λ_=>⟨rfl,e.F y⟩,λh=>m6 h a,λh=>m6 h a⟩
theorem RL(h:bD w af ag A R n s t)(aC:Room t)(B:aQ .i64 w aY tl):aq x8 KU [Γ af,Δ (j:Int),aY,Δ c] w λr I=>
  (iS s j tl=ν->r=Δ 1/\Ext w I)/\((iS s j tl).isSome=s2->¬(0<=c/\c<=n.k)->r=Δ 3/\Ext w I)/\
  ((iS s j tl).isSome=s2->(0<=c/\c<=n.k)->∀f (m:Nat),s.ho[j]?=σ f->cj f.an tl 0=σ (m:Int)->oS w af ag A R n (lz s j m c) t r I):=by
 refine aE func215 ?_;refine(Fw h B).Y ?_;rintro _ U _ ⟨rfl,a⟩;cases C:iS s j tl with
 |none=>
  simp only;refine(s5 (h.W a) (.inl Ω)).Y ?_;rintro r aa _ ⟨rfl,q⟩;rw[m3 Ω];exact⟨λ_=>⟨rfl,a.F q⟩,λh=>by simp at h,λh=>by simp at h⟩
 |some p=>
  simp only;by_cases e:0<=c/\c<=n.k
  .obtain⟨H,f,ah,J,m,hm,K,rfl⟩:=yU h.2.2.2.1 C;have L:=yR ah;have x:lz s j m c={s with ho:=s.ho.set j {f with cs:=f.cs.set m c}}:=by unfold lz;rw[ah]
   obtain⟨E,_⟩:=h.2.2.2.1.ho f (x7 ah);refine(yY (p:=fJ s j+(m+1)) (s':=lz s j m c) (h.W a) aC rfl Ω ?_ ?_ ?_ e).Y ?_
   .rw[x];exact QG ah Ω rfl
   .rw[x];exact QO ah Ξ rfl rfl
   .rw[x];exact h.2.2.2.1.Fx ah rfl rfl Ξ (vC E.jf e)
   .rintro r aa _ G;refine⟨(λh=>by cases h),λ_ h=>m6 e h,λ_ _ M bY y z=>?_⟩;rw[ah]at y;cases y;rw[hm]at z;have:bY=m:=by have:=Z5 z;omega
    subst this;exact G.W a
  .refine (s5 (h.W a) (.inr e)).Y ?_;rintro r aa _ ⟨rfl,q⟩;rw[m5 Ω];exact⟨(λh=>by cases h),λ_ _=>⟨rfl,a.F q⟩,λ_ h=>m6 h e⟩
end
def fk(of:Int->Int)(p:Int×Int)(v:Int):Int×Int:=if p.2= -1\/of v<p.1 then(of v,v)else p
def cJ(k:Int)(l:Λ)(of:Int->Int):Int×Int:=l.foldl (fk of) (k,-1)
theorem lA{s:am}{n:aJ}{i:Int}{b m:Nat}{x:bp}(h:vx s n i b m)(e:0<=i)(J:s.d9[i.toNat]?=σ x):(ic b m).map (λv:Nat=>(v:Int))=az x:=by
 obtain⟨_,_,f⟩:=h;obtain⟨rfl,j⟩:=f x e J;unfold ic az;rw[List.filter_map];congr 1;refine List.filter_congr λq a=>?_;have a:=List.mem_range.1 a;rw[j,ms a,S7];rfl
section
variable{w:x5}{af ag:Nat}{A R:ak}{n:aJ}{s:am}{t:aD}
theorem RM{a b:Int}(h:bD w af ag A R n s t)(f:0<=a/\a<=n.k)(j:0<=b/\b<=n.k):aq x8 K5 [Γ af,Δ a,Δ b] w λv I=>v=Δ (min (a+b) n.k)/\Ext w I:=by
 refine aE func227 ?_;refine(n2 h).Y ?_;rintro _ U _ ⟨rfl,q⟩;refine(xO).Y ?_;rintro _ aa _ ⟨rfl,r⟩;have hk:=h.2.2.2.1.ep;have e:pN a b n.k= .tuple #[Δ (min (a+b) n.k),Δ 0]:=by
  unfold pN;rw[m3 (show cE a n.k/\cE b n.k from⟨⟨hk,f⟩,⟨hk,j⟩⟩)]
 rw[e,bz,bA];exact⟨rfl,q.F r⟩
def lB(n:aJ)(s:am)(i:Int):Bool:=decide (0<=i/\i<n.d6.length)&& !dw s i.toNat
theorem RN{i:Int}(h:bD w af ag A R n s t):aq x8 KY [Γ af,Δ i] w λv I=>v=Δ (if lB n s i=s2 then 0 else 1)/\Ext w I:=by
 refine aE func219 ?_;rw[dl ez.u];simp only[b8,bc];refine a6 (λv U=>v= .bool (!lB n s i)/\Ext w U) ?_ ?_
 .rintro _ U ⟨rfl,a⟩;rw[cb];refine⟨λj=>⟨by rw[m5 (by simpa using j)],a⟩,λj=>⟨by rw[m3 (by simpa using j)],a⟩⟩
 intro aA q;refine(vw h).Y ?_;rintro _ U _ ⟨rfl,a⟩;rw[cb];refine⟨λe=>q _ _ ⟨?_,a⟩,λe=>?_⟩
 .rw[T8]at e;unfold lB;rw[e.2,Y5,Bool.and_false];rfl
 refine(jF (i:=i) (h.W a)).Y ?_;rintro _ aa _ ⟨⟨b,m,rfl,H,B,C⟩,E⟩;refine(xz).Y ?_;rintro _ J _ ⟨rfl,G⟩;rw[bm];refine q _ _ ⟨?_,(a.F E).F G⟩;congr 1;have K:=h.2.2.2.1.d9;unfold lB;by_cases f:0<=i/\i<n.d6.length
 .obtain⟨x,r⟩:=aI (l:=s.d9) (i:=i.toNat) Ω;obtain⟨z,y⟩:=aI (l:=n.d6) (i:=i.toNat) Ω;have h1:=(h.2.2.2.1.var i.toNat x z r y).1;have L:=h.2.2.2.1.eZ.2.2 z (x7 y);have hm:=(C x f.1 r).1;rw[ms f.1,S7]at e;rw[ms f,e,rc Ω];rfl
 .rw[rc f,(B f).2];rfl
def yZ(w:x5)(mc:Nat)(cap:Array x4)(l:Λ)(of:Int->Int):Prop:=∀(I:x5)(v:Int),Ext w I->v∈l->aq x8 mc (Δ v::cap.toList) I λr a=>r=Δ (of v)/\Ext I a
theorem FF{i:Int}{x:bp}{of:Int->Int}{mc:Nat}{cap:Array x4}(h:bD w af ag A R n s t)(N:Laid w)(aN:0<=i)(J:s.d9[i.toNat]?=σ x)(aO:yZ w mc cap (az x) of):
  aq x8 KZ [Γ af,Δ i,.func (.func mc) #[] cap] w λr I=>Ext w I/\r= .tuple #[Δ (cJ n.k (az x) of).1,Δ (cJ n.k (az x) of).2]:=by
 refine jq func220 ?_;refine bn λaP U bd O E=>?_;have E:=E;refine(n2 (h.W O)).Y ?_;rintro _ aa _ ⟨rfl,G⟩;refine bE ay.i λP be bf an ap=>?_;refine bE al.i λga bg bh Q au=>?_;have bj:=(O.F G).size;have z3:=an.size;have z4:=Q.size;refine bw ay.i rfl rfl (ap.W Q) Φ λbk av bl aQ=>?_;have bo:=ap.lt;have bq:=au.lt;refine bw al.i rfl rfl (au.ab av Ω) Φ λbr aw bs aR=>?_;have aS:=aQ.ab aw Ω;have ax:=((an.F Q).then av λr a he=>by have he:r=P:=he;omega).put aw Ω;have aB:=(O.F G).F ax;refine(jF (i:=i) (h.W aB)).Y ?_;rintro _ bt _ ⟨⟨b,m,rfl,V⟩,aC⟩;refine(mM).Y ?_;rintro _ W _ ⟨aT,bi,rfl,bu,X⟩;have bx:=V.1;have aD:=lA V aN J;have B:=aC.F aT;have y:=aB.F B;have bz:=y.size;have bA:=B.size;have bB:=E.lt;have bC:=aC.size;have z12:=G.size;obtain⟨S,H⟩:∃S:ak,S=λr=>r=P\/r=ga:=⟨_,rfl⟩;have K:∀r,S r->w.heap.size<=r:=λr a=>by rw[H]at a;rcases a with rfl|rfl<;>omega
 have Y:∀r,S r->r≠aP/\r≠bi:=λr a=>by rw[H]at a;rcases a with rfl|rfl<;>omega
 let st:Nat->Int×Int:=λj=>((az x).take j).foldl (fk of) (n.k,-1);have aU:=E.W (G.F (ax.F B));refine kH.old ⟨_,sp,jQ,#[Γ bi],_,_,_,_,λj I=>ai S W I/\aj I P ay [Δ (st j).1]/\aj I ga al [Δ (st j).2],λ_ _ _=>False,rfl,(mL (g:=bi) V.1).s,?_,
  λ_ _ J h=>⟨h.1.W J,h.2.W J⟩,λ_ _ _ J h=>⟨h.1.F (J.ab S),h.2.1.W J,h.2.2.W J⟩,λ_ _ _ _ _ h=>h,⟨X,N.W y⟩,⟨ai.refl _ _,aS.W B,aR.W B⟩,?_,?_,λ_ _ h=>h.elim,λ_ _ _ h=>h.elim⟩
 .rintro _ _ _ _ ⟨_,_,_,_,rfl⟩;rfl
 .rintro _ j _ aV ⟨_,_⟩ ⟨bF,rfl,v,ac,aX⟩ ⟨z,L,M⟩;cases aX;intro aE f _ _;have aF:(az x)[j]?=σ (v:Int):=by rw[<-aD,u4,ac];rfl
  have aH:st (j+1)=fk of (st j) v:=by
   show((az x).take (j+1)).foldl _ _=_;rw[u9,aF,List.foldl_append];rfl
  have aY:=((y.then z λr a h=>by have:=K r h;omega)).F f;have aZ:=(aU.ab z λh=>(Y _ h).1 rfl).W f;rw[aG Ψ (aZ.cell rfl)];refine aq.Y (aO aE v aY (x7 aF)) ?_;rintro _ aI _ ⟨rfl,Z⟩;have ad:=f.F Z;have ae:=L.W ad;have ah:=M.W ad;refine a6 (λr am=>r= .bool (decide ((st j).2= -1\/of v<(st j).1))/\Ext aI am) ?_ ?_
  .rintro _ am ⟨rfl,C⟩;have aJ:=ad.F C;rw[ao];refine⟨λa1=>?_,λa2=>?_⟩
   .refine bw ay.i rfl rfl (ae.W C) Ξ λbG aK bH a7=>?_;refine bw al.i rfl rfl ((ah.W C).ab aK Ω) Ξ λa8 aL bI ba=>?_;have bb:=a7.ab aL Ω;have q:ai S W a8:=((z.F (aJ.ab S)).F (aK.Y λr _ h=>by rw[H];exact .inl h)).F (aL.Y λr _ h=>by rw[H];exact .inr h);have e:st (j+1)=(of v,(v:Int)):=by rw[aH];unfold fk;rw[m3 a1]
    refine⟨⟨X.ab q λh=>(Y _ h).2 rfl,(N.W (y.then q λr a h=>by have:=K r h;omega))⟩,⟨q,?_,?_⟩,λh=>by cases h⟩
    .rw[e];exact bb
    .rw[e];exact ba
   .have e:st (j+1)=st j:=by rw[aH];unfold fk;rw[m5 a2]
    have q:ai S W am:=z.F (aJ.ab S);refine⟨⟨X.ab q λh=>(Y _ h).2 rfl,(N.W (y.then q λr a h=>by have:=K r h;omega))⟩,⟨q,?_,?_⟩,λh=>by cases h⟩
    .rw[e];exact ae.W C
    .rw[e];exact ah.W C
  .intro aA aM;rw[aG Ψ (ah.cell rfl),bm,ao];refine⟨λh1=>aM _ _ ⟨by rw[ms (.inl h1)],Ext.refl _⟩,λh1=>?_⟩;rw[aG Ψ (ae.cell rfl),aW];refine aM _ _ ⟨?_,Ext.refl _⟩;congr 1;exact decide_eq_decide.2 ⟨.inr,λh=>h.resolve_left h1⟩
 .rintro k aV rfl ⟨z,L,M⟩;intro aE f _ _;have bc:st (ic b m).length=cJ n.k (az x) of:=by
   show((az x).take _).foldl _ _=_;rw[j9 (by rw[<-aD,r9];exact o6 _)];rfl
  rw[bc]at L M;rw[aG Ψ ((L.W f).cell rfl),aG Ψ ((M.W f).cell rfl)];intro aI Z _;exact⟨((y.then z λr a h=>by have:=K r h;omega).F f).F Z,rfl⟩
end
theorem y0{x:bp}(h:v∈az x):0<=v/\v<x.un.length:=by
 unfold az at h;obtain⟨h,_⟩:=S6.1 h;obtain⟨q,a,rfl⟩:=l9.1 h;have:=List.mem_range.1 a;omega
theorem FG{s:am}{n:aJ}{i:Int}{b m:Nat}{x:bp}(h:vx s n i b m)(e:0<=i)(J:s.d9[i.toNat]?=σ x):(decide (0<=v/\v<m)&&b.testBit v.toNat)=decide (v∈az x):=by
 obtain⟨_,_,f⟩:=h;obtain⟨rfl,j⟩:=f x e J;by_cases ac:0<=v/\v<x.un.length
 .rw[ms ac,S7,j,ms (show v.toNat<x.un.length by omega),S7,show((v.toNat:Nat):Int)=v by omega];have:=FA ac;cases a:dropped x.mask v with
  |false=>rw[ms (this.2 a)];rfl
  |true=>rw[rc λh=>by rw[this.1 h]at a;cases a];rfl
 .rw[rc ac,rc λh=>ac (y0 h)];rfl
def ec(s:am)(j:Nat)(tl:Λ):Int:=if(iS s j tl).isSome then nc s j tl else 0
def bQ(n:aJ)(s:am)(i v:Int):Int:=if eF n i v then fz s i.toNat v.toNat else 0
theorem vD{s:am}(a:bd k d6 s):0<=ec s j tl/\ec s j tl<=k:=by
 have hk:=a.ep;unfold ec;cases q:iS s j tl with
 |none=>simp;omega
 |some p=>
  obtain⟨r,f,ah,w,m,hm,h,rfl⟩:=yU a q;rw[T7,m3 rfl];have e:nc s j tl=f.cs.getD m 0:=by
   unfold nc bu;rw[ah];simp only;rw[hm];rfl
  rw[e,r8,v8 h];exact(a.ho f (x7 ah)).1.jf _ (S2 h)
theorem lC{n:aJ}{s:am}{i:Int}(a:bd n.k n.d6 s):0<=bQ n s i v/\bQ n s i v<=n.k:=by
 have hk:=a.ep;have q:=a.d9;unfold bQ;split
 .rename_i h;obtain⟨x,e,f,_⟩:=h.var a;obtain⟨z,j⟩:∃z,n.d6[i.toNat]?=σ z:=⟨_,v8 (by have:=(x6.1 e).1;omega)⟩;have:=(a.var i.toNat x z e j).2.1;unfold fz;rw[e];simp only;rw[r8,v8 f];exact this _ (S2 f)
 .omega
section
variable{w:x5}{af ag:Nat}{A R:ak}{n:aJ}{s:am}{t:aD}
theorem FH(h:bD w af ag A R n s t)(f:aQ .i64 w aY tl)(q:∀e I,Ext w I->K (.tuple #[Δ (ec s j tl),Δ e]) I):aq x8 wX [Γ af,Δ (j:Int),aY] w K:=by
 refine(vz h f).Y ?_;rintro _ U _ ⟨rfl,a⟩;have:=q;unfold ec at this;split
 .rename_i V;rw[m3 V]at this;exact this 0 U a
 .rename_i V;rw[m5 V]at this;exact this 1 U a
theorem FI{i:Int}(h:bD w af ag A R n s t)(f:∀e I,Ext w I->K (.tuple #[Δ (bQ n s i v),Δ e]) I):aq x8 wW [Γ af,Δ i,Δ v] w K:=by
 refine(p5 h).Y ?_;rintro _ U _ ⟨rfl,a⟩;have:=f;unfold bQ at this;split
 .rename_i V;rw[m3 V]at this;exact this 0 U a
 .rename_i V;rw[m5 V]at this;exact this 1 U a
theorem RO{i:Int}(h:bD w af ag A R n s t):aq x8 K0 [Γ af,Δ i] w λr I=>Ext w I/\∃cap,r= .func (.func Bz) #[] cap/\∀l,yZ I Bz cap l (bQ n s i):=by
 refine aE func221 ?_;refine bn λg1 U B y a=>?_;refine bn λC aa E q f=>?_;rw[lS];have x:=y.F q;refine⟨x,_,rfl,λl I v j _=>?_⟩;refine aE func270 ?_;have a:=a;have f:=f;rw[aG Ψ (((a.W q).W j).cell rfl),aG Ψ ((f.W j).cell rfl)];refine FI (h.W (x.F j)) λe G z=>?_;rw[bz,bA];exact⟨rfl,z⟩
theorem FJ{i:Int}(f:bd n.k n.d6 s)(h:lB n s i=s2):0<=i/\∃x,s.d9[i.toNat]?=σ x/\x.gone=0:=by
 unfold lB at h;rw[T8]at h;have h1:=rs h.1;have j:=f.d9;obtain⟨x,e⟩:=aI (l:=s.d9) (i:=i.toNat) Ω;have a:=h.2;unfold dw at a;rw[e]at a;exact⟨h1.1,x,e,by simpa using a⟩
theorem RP{i:Int}(h:bD w af ag A R n s t)(q:Laid w):aq x8 Bi [Γ af,Δ i] w λr I=>Ext w I/\(lB n s i=sp->r= .tuple #[Δ 0,Δ (-1),Δ 1])/\
  ∀x,lB n s i=s2->s.d9[i.toNat]?=σ x->r= .tuple #[Δ (cJ n.k (az x) (bQ n s i)).1,Δ (cJ n.k (az x) (bQ n s i)).2,Δ 0]:=by
 refine aE func159 ?_;refine(RN h).Y ?_;rintro _ U _ ⟨rfl,a⟩;cases ac:lB n s i with
 |false=>
  rw[m5 Φ,bM,ao];exact⟨λ_=>⟨a,λ_=>rfl,λ_ h=>by cases h⟩,λh=>m6 Φ h⟩
 |true=>
  obtain⟨y,x,f,_⟩:=FJ h.2.2.2.1 ac;rw[m3 rfl,bM,ao];refine⟨λh=>m6 rfl h,λ_=>?_⟩;refine(RO (h.W a)).Y ?_;rintro _ aa _ ⟨z,cap,rfl,B⟩;have e:=a.F z;refine(FF (h.W e) (q.W e) y f (B _)).Y ?_;rintro _ E _ ⟨C,rfl⟩;rw[bz,bA];exact⟨e.F C,(λh=>by cases h),λG _ j=>by rw[f]at j;cases j;rfl⟩
theorem md{f:bL}(h:bD w af ag A R n s t)(ah:s.ho[j]?=σ f):aq x8 rP [Γ af,Δ (j:Int)] w λr I=>Ext w I/\∃g,w.heap.size<=g/\aH .i64 al I g r f.sc:=by
 have H:=(x6.1 ah).1;refine aE func54 ?_;refine a6 (λv U=>v= .bool sp/\Ext w U) ?_ ?_
 .rintro _ U ⟨rfl,a⟩;rw[bc];obtain⟨J,K,M,N,bi,O,L,P,z,Q,S,V,q,e⟩:=(h.W a).1.parts;obtain⟨y,x⟩:∃y,L[j]?=σ y:=⟨_,v8 (by rw[e.1];omega)⟩;obtain⟨B,_,_⟩:=e.2 j y f x ah;rw[aP cX.p 3 z rfl,cu rfl gC.u gD.i q (by rw[e.1];omega),a1 gD.p rfl,aG Ψ (q.range x 0 _ rfl)];have W:f.sc.length<=6:=(h.2.2.2.1.ho f (x7 ah)).1.scope.2;refine(lf B.ls Ω).Y ?_;rintro v aa _ ⟨C,g,X,hm⟩;have:=a.size;exact⟨a.F C,g,Ω,hm⟩
 intro aA E;rw[aW,ao];refine⟨λY=>Ω,λ_=>?_⟩;refine(p4 h).Y ?_;rintro _ Z _ ⟨rfl,G⟩;rw[cT];exact E _ _ ⟨by rw[rc Ω],G⟩
structure n3(s:am)(j pos v:Int)(f:bL)(u:Int)(x:bp):Prop where
 FK:0<=j
 ah:s.ho[j.toNat]?=σ f
 live:f.live≠0
 eL:0<=pos
 hu:f.sc[pos.toNat]?=σ u
 oT:0<=u
 J:s.d9[u.toNat]?=σ x
 ac:v∈az x
theorem RQ{j pos:Int}(h:bD w af ag A R n s t):aq x8 Kl [Γ af,Δ j,Δ pos,Δ v] w λr I=>Ext w I/\∃e:Int,r=Δ e/\(e=0\/e=1)/\(e=0↔ ∃f u x,n3 s j pos v f u x):=by
 have av:=h.2.2.2.1.d9;refine aE func165 ?_;rw[dl ez.u];simp only[b8,bc];have key:∀(K:x4->x5->Prop),(∀r I,Ext w I->(∀f,0<=j->s.ho[j.toNat]?=σ f->aQ .i64 I r f.sc)->K r I)->aq x8 rP [Γ af,Δ j] w K:=λK N=>by
  by_cases O:0<=j/\j<s.ho.length
  .obtain⟨f,ah⟩:=aI (l:=s.ho) (i:=j.toNat) Ω;have:=md h ah;rw[show((j.toNat:Nat):Int)=j by omega]at this;refine this.Y ?_;rintro r U _ ⟨a,g,_,hm⟩;exact N r U a λq _ P=>by rw[ah]at P;cases P;exact hm.ls
  .refine (FC h O).Y ?_;rintro r U _ ⟨rfl,a⟩;exact N _ U a λf C ah=>m6 ⟨C,by have:=(x6.1 ah).1;omega⟩ O
 refine key _ λr U a aj=>?_;refine a6 (λak aa=>∃b,ak= .bool b/\(b=sp↔ ∃f u x,n3 s j pos v f u x)/\Ext w aa) ?_ ?_
 .rintro _ aa ⟨b,rfl,E,Q⟩;rw[cb];refine⟨λS=>⟨Q,1,rfl,.inr rfl,⟨(λh=>by cases h),λh=>by rw[E.2 h]at S;cases S⟩⟩,λah=>⟨Q,0,rfl,.inl rfl,⟨λ_=>E.1 ah,λ_=>rfl⟩⟩⟩
 intro aA G;refine(sZ (h.W a)).Y ?_;rintro _ aw _ ⟨rfl,V⟩;have z:=a.F V;rw[bN,cb];refine⟨λH=>G _ _ ⟨s2,rfl,⟨(λh=>by cases h),λ⟨f,u,x,ae⟩=>?_⟩,z⟩,λL=>?_⟩
 .rw[ms ae.FK,S7]at H;unfold e1 at H;rw[ae.ah]at H;simp[ae.live]at H
 have L:0<=j/\e1 s j.toNat=s2:=by simpa using L
 obtain⟨C,B⟩:=L;obtain⟨f,ah,am⟩:∃f,s.ho[j.toNat]?=σ f/\f.live≠0:=by
  unfold e1 at B;cases ah:s.ho[j.toNat]? with
  |none=>rw[ah]at B;cases B
  |some f=>rw[ah]at B;exact⟨f,rfl,by simpa using B⟩
 have W:=(aj f C ah).W V;have X:=(h.2.2.2.1.ho f (x7 ah)).1;have same:∀{q u x},n3 s j pos v q u x->q=f:=λae=>by have:=ae.ah;rw[ah]at this;cases this;rfl
 rw[aW,ao];refine⟨λax=>G _ _ ⟨s2,rfl,⟨(λh=>by cases h),λ⟨f,u,x,ae⟩=>by have:=ae.eL;omega⟩,z⟩,λay=>?_⟩;rw[a8 au.u W,cT,ao];refine⟨λaz=>G _ _ ⟨s2,rfl,⟨(λh=>by cases h),λ⟨q,u,x,ae⟩=>?_⟩,z⟩,λaB=>?_⟩
 .obtain rfl:=same ae;have:=(x6.1 ae.hu).1;omega
 obtain⟨u,hu⟩:=aI (l:=f.sc) (i:=pos.toNat) Ω;have Y:=x7 hu;have Z:=(X.scope.1 u Y).1;have aC:=X.d9 u Y;obtain⟨x,M⟩:=aI (l:=s.d9) (i:=u.toNat) Ω;rw[ft (y:=pos) (i:=pos.toNat) Ω au.u al.i Ψ W hu];refine(jF (i:=u) (h.W z)).Y ?_;rintro _ aD _ ⟨⟨b,m,rfl,ab⟩,an⟩;refine(Ft ab.1).Y ?_;rintro _ aF _ ⟨rfl,ap⟩;rw[FG ab Z M,bN];refine G _ _ ⟨_,rfl,⟨λE=>⟨f,u,x,C,ah,am,Ω,hu,Z,M,by simpa using E⟩,λ⟨q,u',aG,ae⟩=>?_⟩,(z.F an).F ap⟩;obtain rfl:=same ae;have ad:=ae.hu;rw[hu]at ad;cases ad;have ai:=ae.J;rw[M]at ai;cases ai;rw[ms ae.ac];rfl
end
def aU(s:am)(i:Int):Λ:=match s.d9[i.toNat]? with
 |some x=>az x
 |none=>[]
def p7(s:am)(sc:Λ)(pos:Int):Nat->Nat->Λ->List (Λ)
 |0,_,tl=>[tl]
 |m+1,p,tl=>if(p:Int)=pos then p7 s sc pos m (p+1) tl else(aU s (sc.getD p 0)).flatMap λv=>p7 s sc pos m (p+1) (tl.set p v)
section
variable{af ag:Nat}{A R:ak}{n:aJ}{s:am}{t:aD}
end
def jH(s:am)(pos:Nat)(v:Int):Λ->Nat->List (Λ)
 |[],_=>[]
 |u::sc,p=>(if p=pos then[v]else aU s u)::jH s pos v sc (p+1)
def bW(s:am)(sc:Λ)(pos:Nat)(v:Int):List (Λ):=ii (jH s pos v sc 0)
theorem y1{s:am}{sc:Λ}{pos:Nat}{v:Int}:∀(m p:Nat)(tl:Λ),sc.length=p+m->tl.length=sc.length->(p<=pos->tl[pos]?=σ v)->
  p7 s sc pos m p tl=(ii (jH s pos v (sc.drop p) p)).map (tl.take p++ ·)
 |0,p,tl,h1,f,a=>by
  grind [p7,jH,ii]
 |m+1,p,tl,h1,f,a=>by
  have ae:p<sc.length:=Ω
  obtain⟨u,hu⟩:=aI (l:=sc) ae;have q:sc.drop p=u::sc.drop (p+1):=by grind [X4]
  have r:sc.getD p 0=u:=by grind
  rw[q];unfold p7 jH;rw[ii];by_cases j:p=pos
  .have w:=a Ω;rw[m3 Ω,m3 j,List.flatMap_singleton,y1 m (p+1) tl Ω f (λ_=>w),T5]
   grind [List.map_congr_left,u9]
  .rw[m5 Ω,m5 j,r,List.map_flatMap];congr 1;funext x;have e:(tl.set p x).take (p+1)=tl.take p++[x]:=by grind [u9,List.take_set_of_le]
   rw[y1 m (p+1) (tl.set p x) Ω (by grind) (λh=>by rw[Y9 Ω];exact a Ω),T5,e]
   grind [List.map_congr_left]
theorem RR{s:am}{sc:Λ}(h:pos<sc.length):p7 s sc pos sc.length 0 ((o5 sc.length 0).set pos v)=bW s sc pos v:=by
 rw[y1 sc.length 0 _ Ω Ξ (λ_=>by rw[Z6 (by grind)])];unfold bW;simp
def p8(s:am)(pos:Nat)(v:Int):Λ->Nat->List (Int->Bool)
 |[],_=>[]
 |u::sc,p=>(λx=>(decide (p=pos->x=v))&&decide (x∈aU s u))::p8 s pos v sc (p+1)
theorem RS(h:0<=v/\v<k):(jG k).filter (λx=>decide (x=v))=[v]:=by
 have a:(jG k).Nodup:=by
  grind [jG,List.nodup_range]
 have hm:v∈jG k:=s4.2 h;generalize jG k=l at a hm;induction l<;>grind [List.filter_eq_nil_iff]
section
variable{k:Int}{d6:Λ}{s:am}{v:Int}{pos:Nat}
theorem RT{u:Int}(a:bd k d6 s)(h:0<=u/\u<d6.length):(jG (d6.getD u.toNat 0)).filter (λx=>decide (x∈aU s u))=aU s u:=by
 have f:=a.d9;obtain⟨x,J⟩:=aI (l:=s.d9) (i:=u.toNat) Ω;obtain⟨z,e⟩:=aI (l:=d6) (i:=u.toNat) Ω;have h1:=(a.var _ x z J e).1
 grind [aU,az,jG,List.filter_congr]
theorem FL(a:bd k d6 s):∀(sc:Λ)(p:Nat),(∀u∈sc,0<=u/\u<d6.length)->(∀u,p<=pos->sc[pos-p]?=σ u->v∈aU s u)->
  jH s pos v sc p=(((b5 d6 sc).map jG).zip (p8 s pos v sc p)).map λq=>q.1.filter q.2
 |[],p,_,_=>rfl
 |u::sc,p,hu,ac=>by
  have e:=FL a sc (p+1) (by grind) (by grind);have f:=hu u (.head _);have h:=RT a f;show(if p=pos then[v]else aU s u)::jH s pos v sc (p+1)=(jG (d6.getD u.toNat 0)).filter (λx=>decide (p=pos->x=v)&&decide (x∈aU s u))::((((b5 d6 sc).map jG).zip (p8 s pos v sc (p+1))).map λq=>q.1.filter q.2);rw[<-e];congr 1;by_cases ae:p=pos
  .rw[m3 ae];have j:v∈aU s u:=by grind
   grind [RS,s4]
  grind
theorem RU:∀(sc:Λ)(p:Nat),(p8 s pos v sc p).length=sc.length
 :=by
 intro a;induction a<;>grind [p8]
theorem y2{sc:Λ}(a:bd k d6 s)(e:∀u∈sc,0<=u/\u<d6.length)(ac:∀u,sc[pos]?=σ u->v∈aU s u):
  bW s sc pos v=(bs (b5 d6 sc)).filter (p6 (p8 s pos v sc 0)):=by
 grind [bW,FL,FD,RU,b5,yX]
end
theorem y3{k:Int}:∀(l:Λ)(z:Int),z<=k->(∀c∈l,0<=c)->l.foldl (λa c=>min (a+c) k) z=min (z+l.sum) k
 |[],z,h,_=>Θ
 |c::l,z,h,e=>by
  have V:∀(l:Λ),(∀c∈l,0<=c)->0<=l.sum:=λl=>by
   induction l with
   |nil=>grind
   |cons a l f=>intro h;have:=f λc e=>h c (.tail _ e);have:=h a (.head _);grind
  have h1:=e c (.head _);have j:=V l λc h=>e c (.tail _ h);rw[List.foldl_cons,y3 l _ Ω (by grind),List.sum_cons];omega
def ed(p:bp×Int):Int:=if p.1.gone≠0 then 0 else p.1.un.getD p.2.toNat 0
def fZ(a:Λ)(f:bL):Int:=if f.live≠0 then bu f.an f.cs (kw a f.sc)else 0
theorem foldl_map'{α β e:Type}(g:α->β)(h:e->β->e)(be:e->α->e)(P:e->Prop)(ax:∀c a,P c->be c a=h c (g a))(f:∀c a,P c->P (be c a)):∀(l:List α)(c:e),P c->l.foldl be c=(l.map g).foldl h c
 :=by
 intro a;induction a<;>grind
theorem y4{i:Nat}{x:Int}(h:l[i]?=σ x):(l.set i y).sum=l.sum-x+y:=by
 induction l generalizing i with
 |nil=>simp at h
 |cons a l e=>
  cases i<;>grind
def cK(k a c:Int):Int:=if a=k then k else a-c
def b6(k a c:Int):Int:=min (a+c) k
theorem vE{r g u:Int}(a:0<=r)(e:c<=g/\g<=k)(hu:0<=u/\u<=k)(f:0<=c):min (r+cK k g c+b6 k u c) k=min (r+g+u) k:=by
 grind [cK,b6]
theorem s6:∀(l:Λ),(∀c∈l,0<=c)->0<=l.sum
 |[],_=>Ξ
 |a::l,h=>by have:=s6 l (by grind);have:=h a (.head _);grind
theorem s7:∀{l:Λ}{i:Nat}{x:Int},(∀c∈l,0<=c)->l[i]?=σ x->x<=l.sum
 |[],_,_,_,h=>by simp at h
 |a::l,0,x,e,h=>by
  simp at h;subst h;have:=s6 l (by grind)
  grind
 |a::l,i+1,x,e,h=>by
  have:=s7 (by grind) (show l[i]?=σ x by grind);have:=e a (.head _)
  grind
theorem FM{i:Nat}(hk:0<=k)(h:∀c∈l,0<=c/\c<=k):0<=l.getD i 0/\l.getD i 0<=k:=by
 rw[r8];cases a:l[i]? with
 |none=>grind
 |some c=>exact h c (x7 a)
theorem FN{f:Int->Int}{m:Int}(V:dS an)(a:cs.length=(bs an).length)(hi:cj an t 0=σ m):bu an (er f L an cs) t=if t∈L then f (bu an cs t)else bu an cs t:=by
 grind [lX,rj,bu]
section
variable{k:Int}{d6 a:Λ}{s:am}
theorem RV{i:Nat}{p:bp×Int}(e:bd k d6 s)(h:(s.d9.zip a)[i]?=σ p):0<=ed p/\ed p<=k:=by
 have hk:=e.ep;obtain⟨h1,_⟩:=List.getElem?_zip_eq_some.1 h;have f:=(x6.1 h1).1;have j:=e.d9;have:=e.var i p.1 _ h1 (v8 Ω);unfold ed;split
 .omega
 .exact FM Ω this.2.1
theorem RW{f:bL}(e:bd k d6 s)(h:f∈s.ho):0<=fZ a f/\fZ a f<=k:=by
 have hk:=e.ep;have:=(e.ho f h).1.jf;unfold fZ;split
 .exact (vf e.ep λc j=>⟨e.ep,this c j⟩).2
 .omega
theorem vF(e:bd k d6 s):∀c∈(s.d9.zip a).map ed,0<=c:=λc f=>by
 obtain⟨p,ae,rfl⟩:=l9.1 f;obtain⟨i,hi⟩:=Y8.1 ae;exact(RV e hi).1
theorem s8(e:bd k d6 s):∀c∈s.ho.map (fZ a),0<=c:=λc f=>by
 obtain⟨p,ae,rfl⟩:=l9.1 f;exact(RW e ae).1
theorem p9(e:bd k d6 s):eK k s a=if(s.d9.zip a).all gu then min (s.zero+((s.d9.zip a).map ed).sum+(s.ho.map (fZ a)).sum) k else k:=by
 have h1:(s.d9.zip a).foldl (mZ k) s.zero=((s.d9.zip a).map ed).foldl (λx c=>min (x+c) k) s.zero:=by
  refine foldl_map' ed (λx c=>min (x+c) k) (mZ k) (λc=>c<=k) (λc p f=>?_) (λc p f=>?_) _ _ e.zero.2
  all_goals grind [mZ,ed]
 have h:∀z,z<=k->s.ho.foldl (l6 k a) z=(s.ho.map (fZ a)).foldl (λx c=>min (x+c) k) z:=λz j=>by
  refine foldl_map' (fZ a) (λx c=>min (x+c) k) (l6 k a) (λc=>c<=k) (λc p f=>?_) (λc p f=>?_) _ _ j
  all_goals grind [l6,fZ]
 unfold eK;split
 .rw[h1,y3 _ _ e.zero.2 (vF e),h _ Ω,y3 _ _ Ω (s8 e)];have:=s6 _ (s8 (a:=a) e);omega
 .rfl
theorem vG{α β:Type}:∀{l:List α}{m:List β}{i:Nat}{x:α}{y:β},m[i]?=σ y->(l.set i x).zip m=(l.zip m).set i (x,y)
 |[],_,_,_,_,_=>Ξ
 |_::_,[],_,_,_,h=>by simp at h
 |a::l,b::m,0,x,y,h=>by simp at h;subst h;rfl
 |a::l,b::m,i+1,x,y,h=>by
  rw[List.set_cons_succ,List.zip_cons_cons,List.zip_cons_cons,List.set_cons_succ,vG (by simpa using h)]
theorem vH{α:Type}{q:α->Bool}:∀{l:List α}{i:Nat}{x y:α},l[i]?=σ x->q y=q x->(l.set i y).all q=l.all q
 |[],_,_,_,h,_=>by simp at h
 |a::l,0,x,y,h,e=>by grind
 |a::l,i+1,x,y,h,e=>by rw[List.set_cons_succ,List.all_cons,List.all_cons,vH (by grind) e]
def eR(s:am)(u:Nat)(x:bp)(un:Λ):am:={s with d9:=s.d9.set u {x with un:=un}}
def et(s:am)(j:Nat)(f:bL)(cs:Λ):am:={s with ho:=s.ho.set j {f with cs:=cs}}
theorem y5{u:Nat}{x:bp}{un:Λ}(a:bd k d6 s)(J:s.d9[u]?=σ x)(e:un.length=x.un.length)(f:∀c∈un,0<=c/\c<=k):bd k d6 (eR s u x un):=by
 have h:=(x6.1 J).1;have j:=a.d9;have h1:=a.var u x _ J (v8 Ω);exact a.vA J e f h1.2.2
theorem FO{f:bL}(a:bd k d6 s)(ah:s.ho[j]?=σ f)(e:cs.length=f.cs.length)(h:∀c∈cs,0<=c/\c<=k):bd k d6 (et s j f cs):=a.Fx ah rfl rfl e h
theorem RX{u:Nat}{x:bp}{f:bL}{un:Λ}{bC:Int}(e:bd k d6 s)(J:s.d9[u]?=σ x)(ah:s.ho[j]?=σ f)(y:un.length=x.un.length)(z:∀c∈un,0<=c/\c<=k)(A:cs.length=f.cs.length)(B:∀c∈cs,0<=c/\c<=k)(q:a[u]?=σ bC)(h:(s.d9.zip a).all gu=s2->∀r,0<=r->min (r+fZ a {f with cs:=cs}+ed ({x with un:=un},bC)) k=min (r+fZ a f+ed (x,bC)) k):eK k (eR (et s j f cs) u x un) a=eK k s a:=by
 have C:=FO e ah A B;have E:=y5 C J y z;rw[p9 E,p9 e];have w:(s.d9.zip a)[u]?=σ (x,bC):=List.getElem?_zip_eq_some.2 ⟨J,q⟩;have F:((eR (et s j f cs) u x un).d9.zip a)=(s.d9.zip a).set u ({x with un:=un},bC):=vG q;have G:((s.d9.zip a).set u ({x with un:=un},bC)).all gu=(s.d9.zip a).all gu:=vH w rfl;rw[F,G];split
 .rename_i H;have I:(((s.d9.zip a).set u ({x with un:=un},bC)).map ed).sum=((s.d9.zip a).map ed).sum-ed (x,bC)+ed ({x with un:=un},bC):=by
   grind [U2,y4]
  have K:((eR (et s j f cs) u x un).ho.map (fZ a)).sum=(s.ho.map (fZ a)).sum-fZ a f+fZ a {f with cs:=cs}:=by
   show((s.ho.set j {f with cs:=cs}).map (fZ a)).sum=_
   grind [U2,y4]
  have h1:=s7 (vF e) (by rw[u4,w];rfl);have L:=s7 (s8 (a:=a) e) (by rw[u4,ah];rfl);have M:=e.zero.1;have N:=h H (s.zero+(((s.d9.zip a).map ed).sum-ed (x,bC))+((s.ho.map (fZ a)).sum-fZ a f)) Ω;rw[I,K];show min (s.zero+_+_) k=_;omega
 .rfl
end
theorem FP{s:am}:∀(sc:Λ)(p q:Nat),(jH s pos v sc p)[q]?=(sc[q]?).map λu=>if p+q=pos then[v]else aU s u
 :=by
 intro a;induction a<;>grind [jH]
theorem RY{s:am}:∀(sc:Λ)(p:Nat),(jH s pos v sc p).length=sc.length
 :=by
 intro a;induction a<;>grind [jH]
theorem oU{s:am}{sc:Λ}:t∈bW s sc pos v↔t.length=sc.length/\∀(p:Nat)u w,sc[p]?=σ u->t[p]?=σ w->if p=pos then w=v else w∈aU s u:=by
 unfold bW;rw[s3,RY];refine and_congr_right λ_=>⟨λh p u w hu hw=>?_,λh p d w a hw=>?_⟩
 .have:w∈if 0+p=pos then[v]else aU s u:=by grind [FP]
  grind
 grind [FP]
theorem e2{x:bp}:v∈az x↔(0<=v/\v<x.un.length)/\dropped x.mask v=sp:=by
 unfold az;rw[S6];refine and_congr ?_ Ξ;have:=s4 (k:=(x.un.length:Int)) (v:=v)
 grind [jG]
theorem FQ{f:Int->Int}(V:dS an)(e:∀c∈cs,0<=c/\c<=k)(ah:∀t∈L,0<=f (bu an cs t)/\f (bu an cs t)<=k):∀c∈er f L an cs,0<=c/\c<=k:=λc a=>by
 unfold er at a;obtain⟨p,ae,rfl⟩:=l9.1 a;obtain⟨i,hi⟩:=Y8.1 ae;obtain⟨h1,h⟩:=List.getElem?_zip_eq_some.1 hi;split
 .grind [bu,kr]
 .exact e _ (x7 h)
section
variable{k:Int}{d6 a:Λ}{s:am}
def fA(s:am)(j:Nat)(f:bL)(pos u:Nat)(x:bp)(v:Int)(tup un:Int->Int):am:=
 eR (et s j f (er tup (bW s f.sc pos v) f.an f.cs)) u x (x.un.set v.toNat (un (x.un.getD v.toNat 0)))
theorem ka{f:bL}(e:bd k d6 s)(ah:f∈s.ho):dS f.an/\f.cs.length=(bs f.an).length:=by
 obtain⟨a,h,_⟩:=e.ho f ah;have j:dS f.an:=by rw[h];exact pT e.eZ.2.2 λv ac=>⟨(a.scope.1 v ac).1,a.d9 v ac⟩
 refine⟨j,?_⟩;have h1:=a.len
 grind [jt]
theorem FR{u:Nat}{f:bL}{x:bp}{tup un:Int->Int}(a:bd k d6 s)(ah:s.ho[j]?=σ f)(J:s.d9[u]?=σ x)(h:∀t∈bW s f.sc pos v,0<=tup (bu f.an f.cs t)/\tup (bu f.an f.cs t)<=k)(e:0<=un (x.un.getD v.toNat 0)/\un (x.un.getD v.toNat 0)<=k):bd k d6 (fA s j f pos u x v tup un):=by
 obtain⟨q,r⟩:=ka a (x7 ah);have w:=(a.ho f (x7 ah)).1;have y:=(x6.1 J).1;have z:=a.d9;have h1:=a.var u x _ J (v8 Ω);exact y5 (by grind [FO,ri,FQ,gq.jf]) J (by grind) (vC h1.2.1 e)
theorem FS{u:Nat}{f:bL}{x:bp}{tup un:Int->Int}(A:bd k d6 s)(F:ig s a)(ah:s.ho[j]?=σ f)(X:f.live≠0)(hu:f.sc[pos]?=σ (u:Int))(J:s.d9[u]?=σ x)(ac:v∈az x)(G:∀w∈f.sc,∀y,s.d9[w.toNat]?=σ y->y.gone=0)(L:∀t∈bW s f.sc pos v,0<=tup (bu f.an f.cs t)/\tup (bu f.an f.cs t)<=k)(M:0<=un (x.un.getD v.toNat 0)/\un (x.un.getD v.toNat 0)<=k)(Y:∀t∈bW s f.sc pos v,∀r,0<=r->min (r+tup (bu f.an f.cs t)+un (x.un.getD v.toNat 0)) k=min (r+bu f.an f.cs t+x.un.getD v.toNat 0) k):
  eK k (fA s j f pos u x v tup un) a=eK k s a:=by
 obtain⟨N,Z⟩:=ka A (x7 ah);obtain⟨B,aa,_⟩:=A.ho f (x7 ah);have ab:=(x6.1 J).1;have ad:=A.d9;have h1:=A.var u x _ J (v8 Ω);have ae:=F.1;obtain⟨bC,O⟩:=aI (l:=a) (i:=u) Ω;refine RX A J ah (by grind) (vC h1.2.1 M) (by grind [ri]) (FQ N B.jf L) O λP r af=>?_;have ag:=G u (x7 hu) x (by grind);obtain⟨tl,ai⟩:∃tl,tl=kw a f.sc:=⟨_,rfl⟩;have Q:∀(q:Nat)w,f.sc[q]?=σ w->∃y,s.d9[w.toNat]?=σ y/\tl[q]?=σ (a.getD w.toNat 0)/\a.getD w.toNat 0∈az y/\f.an[q]?=σ (y.un.length:Int):=λq w hw=>by
  have hm:=x7 hw;have aj:=(B.scope.1 w hm).1;have ak:=B.d9 w hm;obtain⟨y,h⟩:=aI (l:=s.d9) (i:=w.toNat) Ω;obtain⟨z,H⟩:=aI (l:=d6) (i:=w.toNat) Ω;obtain⟨C,I⟩:=aI (l:=a) (i:=w.toNat) Ω;have al:=G w hm y h;have am:=(A.var _ y z h H).1;have ao:=A.eZ.2.2 z (x7 H);have e:a.getD w.toNat 0=C:=by grind
  have ap:=List.all_eq_true.1 P (y,C) (x7 (List.getElem?_zip_eq_some.2 ⟨h,I⟩));have aq:=(F.2 _ y C h I).resolve_left Ω
  grind [kw,e2,gu,b5]
 have au:tl.length=f.sc.length:=by grind [kw]
 have av:f.an.length=f.sc.length:=by grind [b5]
 obtain⟨m,hm⟩:∃m,cj f.an tl 0=σ m:=by
  have:tl∈bs f.an:=by
   rw[yX,s3];refine⟨by grind,λq d w aw hw=>?_⟩;obtain⟨b,ax⟩:=aI (l:=f.sc) (i:=q) (by grind)
   grind [s4,e2]
  grind [Y8,kr]
 have R:fZ a f=bu f.an f.cs tl:=by grind [fZ]
 have S:fZ a {f with cs:=er tup (bW s f.sc pos v) f.an f.cs}=if tl∈bW s f.sc pos v then tup (bu f.an f.cs tl)else bu f.an f.cs tl:=by
  grind [FN,fZ]
 have T:ed (x,bC)=x.un.getD bC.toNat 0:=by grind [ed]
 have U:ed ({x with un:=x.un.set v.toNat (un (x.un.getD v.toNat 0))},bC)=(x.un.set v.toNat (un (x.un.getD v.toNat 0))).getD bC.toNat 0:=by grind [ed]
 obtain⟨y,h,K,E,_⟩:=Q pos _ hu;rw[u7]at h K E;rw[J]at h;cases h;have V:a.getD u 0=bC:=by grind
 rw[V]at K E;have ay:=(e2.1 ac).1;have aA:=(e2.1 E).1;rw[R,S,T,U];by_cases he:bC=v
 .subst he
  grind [oU,aU]
 .have W:tl∉bW s f.sc pos v:=by grind [oU]
  rw[m5 W,r8,Y9 Ω,<-r8]
end
def eG(g:Int->Int)(un L:Λ):Λ:=L.foldl (λun v=>un.set v.toNat (g (un.getD v.toNat 0))) un
theorem vI{g:Int->Int}:∀(L un:Λ),(eG g un L).length=un.length
 :=by
 intro a;induction a<;>grind [eG,Z9]
theorem vJ{g:Int->Int}:∀(L un:Λ)(w:Int),L.Nodup->(∀v∈L,0<=v/\v<un.length)->0<=w->(eG g un L).getD w.toNat 0=if w∈L then g (un.getD w.toNat 0)else un.getD w.toNat 0
 |[],un,w,_,_,_=>by simp[eG]
 |v::L,un,w,a,e,hw=>by
  obtain⟨h1,f⟩:=List.nodup_cons.1 a;have ac:=e v (.head _);have h:=vJ (g:=g) L (un.set v.toNat (g (un.getD v.toNat 0))) w f (by grind) hw
  grind [eG]
theorem qa(x:bp):(az x).Nodup:=by
 grind [az,List.nodup_range]
theorem FT{k:Int}{g:Int->Int}:∀(L un:Λ),(∀c∈un,0<=c/\c<=k)->L.Nodup->(∀v∈L,0<=v/\v<un.length)->(∀v∈L,0<=g (un.getD v.toNat 0)/\g (un.getD v.toNat 0)<=k)->∀c∈eG g un L,0<=c/\c<=k
 |[],un,h,_,_,_,c,a=>h c a
 |v::L,un,h,f,e,q,c,a=>by
  obtain⟨h1,j⟩:=List.nodup_cons.1 f;have ac:=e v (.head _);refine FT (g:=g) L (un.set v.toNat (g (un.getD v.toNat 0))) (by grind) j (by grind) (λu hu=>?_) c a;have r:u≠v:=by grind
  have s:=e u (.tail _ hu);rw[r8,Y9 Ω,<-r8]
  grind
section
variable{k:Int}{d6 a:Λ}{s:am}
def iT(s:am)(u:Nat)(x:bp)(g z:Int->Int):am:={eR s u x (eG g x.un (az x))with zero:=z s.zero}
theorem bd.RZ(a:bd k d6 s)(h:0<=c/\c<=k):bd k d6 {s with zero:=c}:=⟨a.ep,a.eZ,h,a.d9,a.var,a.ho⟩
theorem y6{u:Nat}{x:bp}{g z:Int->Int}(a:bd k d6 s)(J:s.d9[u]?=σ x)(e:∀v∈az x,0<=g (x.un.getD v.toNat 0)/\g (x.un.getD v.toNat 0)<=k)(f:0<=z s.zero/\z s.zero<=k):bd k d6 (iT s u x g z):=by
 have h:=(x6.1 J).1;have j:=a.d9;have h1:=a.var u x _ J (v8 Ω);exact(y5 a J (vI _ _) (FT _ _ h1.2.1 (qa x) (λv ac=>(e2.1 ac).1) e)).RZ f
theorem FU{u:Nat}{x:bp}{g z:Int->Int}(e:bd k d6 s)(j:ig s a)(J:s.d9[u]?=σ x)(L:x.gone=0)(q:∀v∈az x,0<=g (x.un.getD v.toNat 0)/\g (x.un.getD v.toNat 0)<=k)(w:0<=z s.zero/\z s.zero<=k)(y:∀v∈az x,∀r,0<=r->min (r+g (x.un.getD v.toNat 0)+z s.zero) k=min (r+x.un.getD v.toNat 0+s.zero) k):eK k (iT s u x g z) a=eK k s a:=by
 have A:=y6 e J q w;have M:=(x6.1 J).1;have N:=e.d9;have O:=j.1;obtain⟨bC,f⟩:=aI (l:=a) (i:=u) Ω;rw[p9 A,p9 e];have h:(s.d9.zip a)[u]?=σ (x,bC):=List.getElem?_zip_eq_some.2 ⟨J,f⟩;obtain⟨un,B⟩:∃un,un=eG g x.un (az x):=⟨_,rfl⟩;have C:((iT s u x g z).d9.zip a)=(s.d9.zip a).set u ({x with un:=un},bC):=by rw[B];exact vG f
 have E:((s.d9.zip a).set u ({x with un:=un},bC)).all gu=(s.d9.zip a).all gu:=vH h rfl;rw[C,E];split
 .rename_i F;have G:(((s.d9.zip a).set u ({x with un:=un},bC)).map ed).sum=((s.d9.zip a).map ed).sum-ed (x,bC)+ed ({x with un:=un},bC):=by
   grind [U2,y4]
  have h1:=s7 (vF e) (by rw[u4,h];rfl);have P:=s6 _ (s8 (a:=a) e);have Q:=List.all_eq_true.1 F (x,bC) (x7 h);have R:=(j.2 _ x bC J f).resolve_left Ω;have H:bC∈az x:=by
   grind [e2,gu]
  have I:ed (x,bC)=x.un.getD bC.toNat 0:=by grind [ed]
  have K:ed ({x with un:=un},bC)=g (x.un.getD bC.toNat 0):=by
   grind [ed,vJ,qa,e2]
  rw[G,K];rw[I]at h1 ⊢;have S:=y bC H (((s.d9.zip a).map ed).sum-x.un.getD bC.toNat 0+(s.ho.map (fZ a)).sum) Ω;show min (z s.zero+_+(s.ho.map (fZ a)).sum) k=_;omega
 .rfl
theorem y7{m:Nat}{w:Int}(ac:0<=v)(hw:0<=w):dropped ((m ||| 2 ^ v.toNat:Nat):Int) w=(dropped (m:Int) w||decide (w=v)):=by
 unfold dropped;rw[u7,u7,Nat.testBit_or,Nat.testBit_two_pow]
 grind
theorem kX{i:Nat}{x:bp}(J:s.d9[i]?=σ x):eb s i v.toNat={s with d9:=s.d9.set i {x with mask:=((x.mask.toNat ||| 2 ^ v.toNat:Nat):Int)}}:=by
 grind [eb]
theorem y8{i:Nat}{x:bp}(a:bd k d6 s)(J:s.d9[i]?=σ x)(ac:0<=v/\v<x.un.length):bd k d6 (eb s i v.toNat):=by
 rw[kX J];have h:=(x6.1 J).1;have j:=a.d9;have h1:=a.var i x _ J (v8 Ω);have q:=a.eZ.2.2 _ (S2 (n:=i) Ω);refine a.vA J rfl h1.2.1 ⟨by grind,?_⟩;have e:x.mask.toNat<2 ^ 32:=Ω
 have f:2 ^ v.toNat<2 ^ 32:=Nat.pow_lt_pow_right Ω Ω;have:=Nat.or_lt_two_pow e f
 grind
theorem FV{i:Nat}{bC:Int}{x:bp}(f:bd k d6 s)(w:ig s a)(J:s.d9[i]?=σ x)(z:x.gone=0)(ac:0<=v/\v<x.un.length)(h:a[i]?=σ bC):eK k (eb s i v.toNat) a=if bC=v then k else eK k s a:=by
 have A:=y8 f J ac;rw[p9 A,p9 f];have F:(s.d9.zip a)[i]?=σ (x,bC):=List.getElem?_zip_eq_some.2 ⟨J,h⟩;have B:=(w.2 _ x bC J h).resolve_left Ω;obtain⟨y,j⟩:∃y:bp,y={x with mask:=((x.mask.toNat ||| 2 ^ v.toNat:Nat):Int)}:=⟨_,rfl⟩;have C:((eb s i v.toNat).d9.zip a)=(s.d9.zip a).set i (y,bC):=by grind [kX,vG]
 have r:(eb s i v.toNat).zero=s.zero/\(eb s i v.toNat).ho=s.ho:=by grind [kX]
 have G:gu (y,bC)=(gu (x,bC)&&decide (bC≠v)):=by
  unfold gu;rw[j];simp only[z];rw[y7 ac.1 B.1];have hm:((x.mask.toNat:Nat):Int)=x.mask:=by
   have H:=(x6.1 J).1;have I:=f.d9;have h1:=f.var i x _ J (v8 Ω);omega
  grind
 rw[C,r.1,r.2];by_cases e:bC=v
 .grind [Z6]
 .have K:((s.d9.zip a).set i (y,bC)).all gu=(s.d9.zip a).all gu:=by grind [vH]
  have L:((s.d9.zip a).set i (y,bC)).map ed=(s.d9.zip a).map ed:=by
   rw[U2];have E:ed (y,bC)=ed (x,bC):=by rw[j];rfl
   rw[E];refine Y3 λq=>?_
   grind
  grind
theorem R1{i:Nat}{bC:Int}{x:bp}(f:ig s a)(J:s.d9[i]?=σ x)(j:x.gone=0)(e:a[i]?=σ bC)(q:bC∉az x):eK k s a=k:=by
 have r:=(f.2 _ x bC J e).resolve_left Ω;unfold eK;rw[m5];intro h;have:=List.all_eq_true.1 h (x,bC) (x7 (List.getElem?_zip_eq_some.2 ⟨J,e⟩))
 grind [gu,e2]
end
end Go.Proofs.YtlcdcbgoaljiiaaGreatDoor
namespace Go.Vc
open Go Go.RowKit
section
variable{P:W0}{w:x5}{α:Type}[aw α]{S R:ak}
theorem FW{k:Nat}{vs:List (List x4)}{i:Nat}{c:List x4}(h:∀x∈vs,x.length=k)(e:c.length=k)(hi:i<vs.length):over vs.flatten (i*k) c=(vs.set i c).flatten:=by
 have:=xU (f:=id) (k:=k) (L:=vs) (i:=i) (a:=c) h e hi;rw[List.flatMap_id,List.flatMap_id]at this;exact this
theorem R5{v:x4}{l:List α}{i:Nat}(h:bB S R w [v] l)(Q:i<l.length):∃g cap full s,v= .slice (σ ⟨g,0,ν⟩) l.length cap/\aj w g s full/\S g/\i*aw.n α+aw.n α<=full.length/\
  ∀{A:ak}{cs:List x4}{a:α},bB A R w cs a->(∀r,r<w.heap.size->S r->¬A r/\¬R r)->∀I,ai (λr=>r=g) w I->aj I g s (over full (i*aw.n α) cs)->bB (λr=>S r\/A r) R I [v] (l.set i a):=by
 obtain⟨vs,g,F,ae,he,V,hm⟩:=jT h;obtain⟨T,s,U⟩:=hm rfl;obtain⟨af,⟨rfl,ag⟩|⟨cap,full,rfl,E,H,W,ah,X⟩⟩:=id U
 .omega
 have J:=he.1;have Y:(i+1)*aw.n α<=l.length*aw.n α:=V4 _ Q;have Z:l.length*aw.n α<=full.length:=by rw[ah];exact V4 _ H
 rw[T6,Nat.one_mul]at Y;have y:=T.resolve_left Ξ;refine⟨g,cap,full,s,rfl,E,y,Ω,λ{A cs a}K z I L aa=>?_⟩;have M:=aw.len K;have N:=(z g E.lt y).1;have O:=(z g E.lt y).2;have ac:∀c∈vs.set i cs,c.length=aw.n α:=λc x=>by
  rcases U5 x with e|rfl
  .exact he.len c e
  .exact M
 have P:cf I g s (aw.n α) (.slice (σ ⟨g,0,ν⟩) l.length cap) (l.set i a).length (vs.set i cs).flatten:=by
  refine⟨by rw[uh ac,Z9,Z9,J],.inr ⟨cap,_,by rw[Z9],aa,by rw[Z9];exact H,W,by rw[nN,ah],?_⟩⟩;rw[Z9,xV Ω Z,X,FW he.len M Ω]
 refine⟨_,rfl,vs.set i cs,g,λj r=>if j=i then A r/\r<w.heap.size else F j r/\r<w.heap.size,⟨λj r f=>?_,λ_ j f=>?_,λ_ j q r ad h1 e=>?_⟩,⟨by simp[J],λj c a' x B=>?_⟩,?_,λ_=>⟨.inr (.inl y),s,P⟩⟩
 .split at f
  .exact .inr f.1
  .exact .inl (ae.sub j r f.1)
 .split at f
  .exact N f.1
  .exact ae.top rfl j f.1
 .split at h1<;>split at e
  .omega
  .exact (z r e.2 (ae.sub q r e.1)).1 h1.1
  .exact (z r h1.2 (ae.sub j r h1.1)).1 e.1
  .exact ae.iv rfl j q r ad h1.1 e.1
 .by_cases C:j=i
  .subst C;rw[Z6 Ω]at x B;cases x;cases B;have G:bB (λr=>if j=j then A r/\r<w.heap.size else F j r/\r<w.heap.size) R w cs a:=aw.Y K (λr f h=>by rw[m3 rfl];exact⟨h,f⟩) λ_ _ h=>h;refine aw.ab G L λr f h1 e=>?_;have e:r=g:=e;subst e;rcases h1 with h1|h1
   .simp only[if_true]at h1;exact N h1.1
   .exact O h1
  .rw[Y9 (Ne.symm C)]at x B;have G:bB (λr=>if j=i then A r/\r<w.heap.size else F j r/\r<w.heap.size) R w c a':=aw.Y (he.2 j c a' x B) (λr f h=>by rw[m5 C];exact⟨h,f⟩) λ_ _ h=>h;refine aw.ab G L λr f h1 e=>?_;have e:r=g:=e;subst e;rcases h1 with h1|h1
   .simp only[m5 C]at h1;exact ae.top rfl j h1.1
   .exact O h1
 .have:=pD (S:=λr=>(S r\/A r)\/R r) P (.inr (.inl (.inl y)));exact this
theorem FX{t:o4}{C:o8}{i b:Nat}{v x:x4}{l:List α}{a:α}{A:ak}{K:Unit->x5->Prop}(j:aw.n α=1)(E:y=(i:Int))(F:P.underlying t=σ (.slice e))(hi:aV P e 1 b z)(h:bB S R w [v] l)(q:i<l.length)(J:x.cells= #[x])(s:bB A R w [x] a)(G:∀r,r<w.heap.size->S r->¬A r/\¬R r)(H:∀I,ai S w I->bB (λr=>S r\/A r) R I [v] (l.set i a)->K () I):ad P (n9 t v (.int C y)) w λp=>aM P (o7 e p x) w K:=by
 subst E;obtain⟨g,cap,full,T,rfl,L,M,N,O⟩:=R5 h q;rw[j]at N;rw[e5 F hi q λ_=>rfl];refine bw (o:=0+i*1) hi J (aw.one s x (.head _)) L Ω λI B _ Q=>H I (B.Y λr _ f=>by have f:r=g:=f;subst f;exact M) (O s G I B ?_);rw[j,V0]at*;exact Q
end
end Go.Vc
namespace Go.Proofs.YtlcdcbgoaljiiaaGreatDoor
open Go Go.Vc Go.RowKit Go.Proofs Go.Proofs.Tryz
set_option maxRecDepth 100000
abbrev kb:Type:=(Rd (Λ)×Rd (Λ)×Λ)×Bool
abbrev nd:Type:=Int×Rd (Λ)×Rd (Λ)
def jI(f:bL):kb:=((f.sc,f.an,f.cs),decide (f.live≠0))
def rk(e:vm):nd:=(e.v,e.sc,e.lu)
def bI(m:Bool)(A:Nat->ak)(R:ak)(w:x5)(cs:List x4)(k:Int)(d6:Λ)(zero:Int)(D:List (Λ))(G:List Bool)(bb:List (Λ))(H:List kb)(E:List nd):Prop:=
 ∃hv a e f h q,cs=[Δ k,hv,Δ zero,a,e,f,h,q]/\Seen R w [hv] d6/\
 aw.rep m (A 0) R w [a] D/\aw.rep m (A 1) R w [e] G/\aw.rep m (A 2) R w [f] bb/\aw.rep m (A 3) R w [h] H/\aw.rep m (A 4) R w [q] E/\
 (m=s2->(∀i j r,i≠j->A i r->¬A j r)/\∀i r,A i r->¬R r)
abbrev gQ(m:Bool)(A:Nat->ak)(R:ak)(w:x5)(cs:List x4)(k:Int)(d6:Λ)(s:am):Prop:=
 bI m A R w cs k d6 s.zero (s.d9.map az) (s.d9.map λx=>decide (x.gone≠0)) (s.d9.map (·.un)) (s.ho.map jI) (s.dC.map rk)
def e3(w:x5)(v:x4)(k:Int)(d6:Λ)(s:am):Prop:=∃cs,v= .agg cs.toArray/\gQ sp (λ_ _=>False) eW w cs k d6 s
def fK(A:Nat->ak)(i:Nat)(B:ak):Nat->ak:=λj=>if j=i then B else A j
section
variable{m:Bool}{A:Nat->ak}{R:ak}{w I:x5}{cs:List x4}{k zero:Int}{d6:Λ}{D:List (Λ)}{G:List Bool}{bb:List (Λ)}{H:List kb}{E:List nd}{s:am}
theorem bI.len(h:bI m A R w cs k d6 zero D G bb H E):cs.length=8/\∀u∈cs,u.oneCell'=s2:=by
 obtain⟨hv,a,e,f,j,q,rfl,h1,r,s,x,y,z,_⟩:=h;refine⟨rfl,λu hu=>?_⟩;simp only[List.mem_cons,List.not_mem_nil,or_false]at hu;rcases hu with rfl|rfl|rfl|rfl|rfl|rfl|rfl|rfl
 .rfl
 .exact iJ h1
 .rfl
 all_goals grind [iJ]
theorem bI.ab{T:ak}(h:bI m A R w cs k d6 zero D G bb H E)(a:ai T w I)(J:∀r,r<w.heap.size->(∃i,A i r)\/R r->¬T r):bI m A R I cs k d6 zero D G bb H E:=by
 obtain⟨hv,e,f,j,q,s,rfl,h1,x,y,z,B,C,F⟩:=h;have ax:∀i r,r<w.heap.size->A i r\/R r->¬T r:=by grind
 exact⟨hv,e,f,j,q,s,rfl,by grind [aw.ab],aw.ab x a (ax 0),aw.ab y a (ax 1),aw.ab z a (ax 2),aw.ab B a (ax 3),aw.ab C a (ax 4),F⟩
theorem bI.W(h:bI m A R w cs k d6 zero D G bb H E)(J:Ext w I):bI m A R I cs k d6 zero D G bb H E:=h.ab (J.ab λ_=>False) λ_ _ _ h=>h
theorem gQ.s9(h:gQ m A R w cs k d6 s):e3 w (.agg cs.toArray) k d6 s:=by
 obtain⟨hv,a,e,f,j,q,rfl,h1,r,x,y,z,B,C⟩:=h;exact⟨_,rfl,hv,a,e,f,j,q,rfl,jS h1,jS r,jS x,jS y,jS z,jS B,by grind⟩
theorem e3.W{v:x4}(h:e3 w v k d6 s)(J:Ext w I):e3 I v k d6 s:=by
 obtain⟨cs,rfl,h⟩:=h;exact⟨cs,rfl,h.W J⟩
theorem bI.old(h:bI s2 A R w cs k d6 zero D G bb H E):bI s2 (λi r=>A i r/\r<w.heap.size) R w cs k d6 zero D G bb H E:=by
 obtain⟨hv,e,f,j,q,s,rfl,h1,x,y,z,B,C,a⟩:=h;obtain⟨a,F⟩:=a rfl;have hm:∀i r,r<w.heap.size->A i r->A i r/\r<w.heap.size:=by grind
 exact⟨hv,e,f,j,q,s,rfl,h1,aw.Y x (hm 0) λ_ _ h=>h,aw.Y y (hm 1) λ_ _ h=>h,aw.Y z (hm 2) λ_ _ h=>h,aw.Y B (hm 3) λ_ _ h=>h,aw.Y C (hm 4) λ_ _ h=>h,
  by grind⟩
theorem ta{i:Nat}{B:ak}(h:∀i j r,i≠j->A i r->¬A j r)(e:∀j r,j≠i->B r->¬A j r):∀p q r,p≠q->fK A i B p r->¬fK A i B q r:=λp q r f h1 a=>by
 unfold fK at h1 a
 grind
theorem tb{i:Nat}{B:ak}(h:∀i r,A i r->¬R r)(a:∀r,B r->¬R r):∀p r,fK A i B p r->¬R r:=λp r h1=>by
 unfold fK at h1
 grind
theorem bI.y9{B:ak}{x:x4}{D':List (Λ)}(h:bI s2 A R w cs k d6 zero D G bb H E){T:ak}(a:ai T w I)(O:∀r,T r->A 0 r\/(∀j,¬A j r)/\¬R r)(f:bB B R I [x] D')(q:∀j r,j≠0->B r->¬A j r)(s:∀r,B r->¬R r):bI s2 (fK A 0 B) R I (cs.set 3 x) k d6 zero D' G bb H E:=by
 obtain⟨hv,P,y,z,C,F,rfl,h1,Q,J,K,L,M,e⟩:=h;obtain⟨e,N⟩:=e rfl;have S:∀r,R r->¬T r:=by grind
 have ax:∀j r,j≠0->r<w.heap.size->A j r\/R r->¬T r:=by grind
 refine⟨hv,x,y,z,C,F,rfl,by grind [aw.ab],?_,?_,?_,?_,?_,λ_=>⟨ta e q,tb N s⟩⟩
 .exact f
 .exact aw.ab J a λr=>ax 1 r Ω
 .exact aw.ab K a λr=>ax 2 r Ω
 .exact aw.ab L a λr=>ax 3 r Ω
 .exact aw.ab M a λr=>ax 4 r Ω
theorem bI.R6{B:ak}{x:x4}{f:List Bool}(h:bI s2 A R w cs k d6 zero D G bb H E){T:ak}(a:ai T w I)(P:∀r,T r->A 1 r\/(∀j,¬A j r)/\¬R r)(q:bB B R I [x] f)(s:∀j r,j≠1->B r->¬A j r)(y:∀r,B r->¬R r):bI s2 (fK A 1 B) R I (cs.set 4 x) k d6 zero D f bb H E:=by
 obtain⟨hv,z,Q,C,F,J,rfl,h1,K,S,L,M,N,e⟩:=h;obtain⟨e,O⟩:=e rfl;have U:∀r,R r->¬T r:=by grind
 have ax:∀j r,j≠1->r<w.heap.size->A j r\/R r->¬T r:=by grind
 refine⟨hv,z,x,C,F,J,rfl,by grind [aw.ab],?_,?_,?_,?_,?_,λ_=>⟨ta e s,tb O y⟩⟩
 .exact aw.ab K a λr=>ax 0 r Ω
 .exact q
 .exact aw.ab L a λr=>ax 2 r Ω
 .exact aw.ab M a λr=>ax 3 r Ω
 .exact aw.ab N a λr=>ax 4 r Ω
theorem bI.ly{B:ak}{x:x4}{f:List (Λ)}(h:bI s2 A R w cs k d6 zero D G bb H E){T:ak}(a:ai T w I)(P:∀r,T r->A 2 r\/(∀j,¬A j r)/\¬R r)(q:bB B R I [x] f)(s:∀j r,j≠2->B r->¬A j r)(y:∀r,B r->¬R r):bI s2 (fK A 2 B) R I (cs.set 5 x) k d6 zero D G f H E:=by
 obtain⟨hv,z,C,Q,F,J,rfl,h1,K,L,S,M,N,e⟩:=h;obtain⟨e,O⟩:=e rfl;have U:∀r,R r->¬T r:=by grind
 have ax:∀j r,j≠2->r<w.heap.size->A j r\/R r->¬T r:=by grind
 refine⟨hv,z,C,x,F,J,rfl,by grind [aw.ab],?_,?_,?_,?_,?_,λ_=>⟨ta e s,tb O y⟩⟩
 .exact aw.ab K a λr=>ax 0 r Ω
 .exact aw.ab L a λr=>ax 1 r Ω
 .exact q
 .exact aw.ab M a λr=>ax 3 r Ω
 .exact aw.ab N a λr=>ax 4 r Ω
theorem bI.lz{B:ak}{x:x4}{f:List kb}(h:bI s2 A R w cs k d6 zero D G bb H E){T:ak}(a:ai T w I)(P:∀r,T r->A 3 r\/(∀j,¬A j r)/\¬R r)(q:bB B R I [x] f)(s:∀j r,j≠3->B r->¬A j r)(y:∀r,B r->¬R r):bI s2 (fK A 3 B) R I (cs.set 6 x) k d6 zero D G bb f E:=by
 obtain⟨hv,z,C,F,Q,J,rfl,h1,K,L,M,S,N,e⟩:=h;obtain⟨e,O⟩:=e rfl;have U:∀r,R r->¬T r:=by grind
 have ax:∀j r,j≠3->r<w.heap.size->A j r\/R r->¬T r:=by grind
 refine⟨hv,z,C,F,x,J,rfl,by grind [aw.ab],?_,?_,?_,?_,?_,λ_=>⟨ta e s,tb O y⟩⟩
 .exact aw.ab K a λr=>ax 0 r Ω
 .exact aw.ab L a λr=>ax 1 r Ω
 .exact aw.ab M a λr=>ax 2 r Ω
 .exact q
 .exact aw.ab N a λr=>ax 4 r Ω
theorem bI.R7{B:ak}{x:x4}{f:List nd}(h:bI s2 A R w cs k d6 zero D G bb H E){T:ak}(a:ai T w I)(P:∀r,T r->A 4 r\/(∀j,¬A j r)/\¬R r)(q:bB B R I [x] f)(s:∀j r,j≠4->B r->¬A j r)(y:∀r,B r->¬R r):bI s2 (fK A 4 B) R I (cs.set 7 x) k d6 zero D G bb H f:=by
 obtain⟨hv,z,C,F,J,Q,rfl,h1,K,L,M,N,S,e⟩:=h;obtain⟨e,O⟩:=e rfl;have U:∀r,R r->¬T r:=by grind
 have ax:∀j r,j≠4->r<w.heap.size->A j r\/R r->¬T r:=by grind
 refine⟨hv,z,C,F,J,x,rfl,by grind [aw.ab],?_,?_,?_,?_,?_,λ_=>⟨ta e s,tb O y⟩⟩
 .exact aw.ab K a λr=>ax 0 r Ω
 .exact aw.ab L a λr=>ax 1 r Ω
 .exact aw.ab M a λr=>ax 2 r Ω
 .exact aw.ab N a λr=>ax 3 r Ω
 .exact q
theorem bI.R8{z:Int}(h:bI m A R w cs k d6 zero D G bb H E):bI m A R w (cs.set 2 (Δ z)) k d6 z D G bb H E:=by
 obtain⟨hv,a,e,f,j,q,rfl,h1,r,s,x,y,B,C⟩:=h;exact⟨hv,a,e,f,j,q,rfl,h1,r,s,x,y,B,C⟩
end
theorem qb{α:Type}[aw α]{st t L:o4}{pl:List (Nat×Nat)}{c q b M:Nat}{N y v:x4}{box cs:List x4}{S A R:ak}{l:List α}{a:α}{K:x5->Prop}(ae:bP x8 st pl)(O:pl[c]?=σ (c,q+1))(P:x8.underlying t=σ (.slice e))(Q:aV x8 t 1 M N)(hi:aV x8 e (aw.n α) b z)(T:z.cells.size=aw.n α)(E:aj w gs st box)(ac:box[c]?=σ v)(h:bB S R w [v] l)(V:cq w (aw.n α) y 1 cs)(U:bB A R w cs a)(W:∀r,r<w.heap.size->S r->¬A r/\¬R r)(s:¬S gs/\¬A gs/\¬R gs)(ag:(l.length+1)*b<=140737488355328)(ah:l.length+1<=1000000)(X:∀j I,ai (λr=>S r\/r=gs) w I->aj I gs st (box.set c j)->bB (λr=>S r\/A r\/w.heap.size<=r) R I [j] (l++[a])->K I):
  aM x8 (b9 #[t,t] L #[v,y]) w λj aa=>ad x8 (u6 st (Γ gs) c) aa λY=>aM x8 (o7 t Y j) aa λ_ x=>K x:=by
 have Z:=(x6.1 ac).1;refine oz P hi T h V U (λr F V f=>?_) Ω Ω λj aa B G=>?_
 .have:=W r F V;exact f.elim this.1 this.2
 have af:=E.ab G s.1;rw[a1 ae O];refine bw (o:=0+c) Q (lU B) (iJ B) af (by rw[V0];exact Z) λx H al J=>?_;refine X j x ((G.Y λr _ h=>.inl h).F (H.Y λr _ h=>.inr h)) (by rw[V0]at J;exact J) (aw.ab B H λr F f C=>?_);have C:r=gs:=C;subst C;have am:=E.lt;rcases f with f|f
 .rcases f with f|f|f
  .exact s.1 f
  .exact s.2.1 f
  .omega
 .exact s.2.2 f
section
variable{A:Nat->ak}{B R:ak}{w:x5}{cs xs:List x4}{gs:Nat}{y v:x4}{k zero:Int}{d6:Λ}{D:List (Λ)}{G:List Bool}{bb:List (Λ)}{H:List kb}{E:List nd}{K:x5->Prop}
theorem bI.R9{a:Λ}(h:bI s2 A R w cs k d6 zero D G bb H E)(F:aj w gs aK cs)(ac:cs[3]?=σ v)(f:∀j r,A j r->gs<r)(s:∀r,R r->r<gs)(V:cq w 1 y 1 xs)(Q:bB B R w xs a)(q:∀r,r<w.heap.size->B r->(∀j,¬A j r)/\gs<r)(ah:D.length<=1000)(S:∀aS bK I,ai (λr=>gs<=r) w I->aj I gs aK bK->bI s2 aS R I bK k d6 zero (D++[a]) G bb H E->(∀j r,aS j r->gs<r)->(∀j,j≠3->bK[j]?=cs[j]?)->K I):
  aM x8 (b9 #[ca,ca] P #[v,y]) w λJ aa=>ad x8 (u6 aK (Γ gs) 3) aa λU=>aM x8 (o7 ca U J) aa λ_ x=>K x:=by
 have aC:=h.old;have W:=F.lt;obtain⟨hv,X,ak,al,am,L,Y,h1,Z,an,ao,ap,aq,z⟩:=id aC;obtain⟨z,M⟩:=z rfl;have L:v=X:=by rw[Y]at ac;exact(Z5 ac).symm
 subst L;have ab:bB (λr=>B r/\r<w.heap.size) R w xs a:=aw.Y Q (λr e h=>⟨h,e⟩) λ_ _ h=>h;refine qb aK.p rfl ca.u ca.i au.i rfl F ac Z V ab (λr e N=>⟨λae=>(q r e ae.1).1 0 N.1,M 0 r N⟩) ⟨λh=>by have:=f 0 gs h.1;omega,λh=>by have:=(q gs W h.1).2;omega,λh=>by have:=s gs h;omega⟩ Ω Ω λJ x O af ag=>?_;refine S _ _ x (O.Y λr _ h=>h.elim (λh=>by have:=f 0 r h.1;omega) λh=>Ω) af (aC.y9 O (λr e=>?_) ag (λj r C e=>?_) λr e=>?_) (λj r e=>?_) λj C=>?_
 .rcases e with e|rfl
  .exact .inl e
  .exact .inr ⟨λj h=>by have:=f j r h.1;omega,λh=>by have:=s r h;omega⟩
 .rcases e with e|e|e
  .exact z 0 j r (Ne.symm C) e
  .exact λh=>(q r e.2 e.1).1 j h.1
  .exact λh=>by have:=h.2;omega
 .rcases e with e|e|e
  .exact M 0 r e
  .exact λh=>by have:=(q r e.2 e.1).2;have:=s r h;omega
  .exact λh=>by have:=s r h;omega
 .unfold fK at e;split at e
  .rcases e with e|e|e
   .exact f 0 r e.1
   .exact (q r e.2 e.1).2
   .omega
  .exact f j r e.1
 .rw[Y9 (Ne.symm C)]
theorem bI.Sa{a:Bool}(h:bI s2 A R w cs k d6 zero D G bb H E)(F:aj w gs aK cs)(ac:cs[4]?=σ v)(f:∀j r,A j r->gs<r)(s:∀r,R r->r<gs)(V:cq w 1 y 1 xs)(Q:bB B R w xs a)(q:∀r,r<w.heap.size->B r->(∀j,¬A j r)/\gs<r)(ah:G.length<=1000)(S:∀aS bK I,ai (λr=>gs<=r) w I->aj I gs aK bK->bI s2 aS R I bK k d6 zero D (G++[a]) bb H E->(∀j r,aS j r->gs<r)->(∀j,j≠4->bK[j]?=cs[j]?)->K I):
  aM x8 (b9 #[jo,jo] P #[v,y]) w λJ aa=>ad x8 (u6 aK (Γ gs) 4) aa λU=>aM x8 (o7 jo U J) aa λ_ x=>K x:=by
 have aC:=h.old;have W:=F.lt;obtain⟨hv,ak,X,al,am,L,Y,h1,an,Z,ao,ap,aq,z⟩:=id aC;obtain⟨z,M⟩:=z rfl;have L:v=X:=by rw[Y]at ac;exact(Z5 ac).symm
 subst L;have ab:bB (λr=>B r/\r<w.heap.size) R w xs a:=aw.Y Q (λr e h=>⟨h,e⟩) λ_ _ h=>h;refine qb aK.p rfl jo.u jo.i ee.i rfl F ac Z V ab (λr e N=>⟨λae=>(q r e ae.1).1 1 N.1,M 1 r N⟩) ⟨λh=>by have:=f 1 gs h.1;omega,λh=>by have:=(q gs W h.1).2;omega,λh=>by have:=s gs h;omega⟩ Ω Ω λJ x O af ag=>?_;refine S _ _ x (O.Y λr _ h=>h.elim (λh=>by have:=f 1 r h.1;omega) λh=>Ω) af (aC.R6 O (λr e=>?_) ag (λj r C e=>?_) λr e=>?_) (λj r e=>?_) λj C=>?_
 .rcases e with e|rfl
  .exact .inl e
  .exact .inr ⟨λj h=>by have:=f j r h.1;omega,λh=>by have:=s r h;omega⟩
 .rcases e with e|e|e
  .exact z 1 j r (Ne.symm C) e
  .exact λh=>(q r e.2 e.1).1 j h.1
  .exact λh=>by have:=h.2;omega
 .rcases e with e|e|e
  .exact M 1 r e
  .exact λh=>by have:=(q r e.2 e.1).2;have:=s r h;omega
  .exact λh=>by have:=s r h;omega
 .unfold fK at e;split at e
  .rcases e with e|e|e
   .exact f 1 r e.1
   .exact (q r e.2 e.1).2
   .omega
  .exact f j r e.1
 .rw[Y9 (Ne.symm C)]
theorem bI.Sb{a:Λ}(h:bI s2 A R w cs k d6 zero D G bb H E)(F:aj w gs aK cs)(ac:cs[5]?=σ v)(f:∀j r,A j r->gs<r)(s:∀r,R r->r<gs)(V:cq w 1 y 1 xs)(Q:bB B R w xs a)(q:∀r,r<w.heap.size->B r->(∀j,¬A j r)/\gs<r)(ah:bb.length<=1000)(S:∀aS bK I,ai (λr=>gs<=r) w I->aj I gs aK bK->bI s2 aS R I bK k d6 zero D G (bb++[a]) H E->(∀j r,aS j r->gs<r)->(∀j,j≠5->bK[j]?=cs[j]?)->K I):
  aM x8 (b9 #[c0,c0] P #[v,y]) w λJ aa=>ad x8 (u6 aK (Γ gs) 5) aa λU=>aM x8 (o7 c0 U J) aa λ_ x=>K x:=by
 have aC:=h.old;have W:=F.lt;obtain⟨hv,ak,al,X,am,L,Y,h1,an,ao,Z,ap,aq,z⟩:=id aC;obtain⟨z,M⟩:=z rfl;have L:v=X:=by rw[Y]at ac;exact(Z5 ac).symm
 subst L;have ab:bB (λr=>B r/\r<w.heap.size) R w xs a:=aw.Y Q (λr e h=>⟨h,e⟩) λ_ _ h=>h;refine qb aK.p rfl c0.u c0.i aB.i rfl F ac Z V ab (λr e N=>⟨λae=>(q r e ae.1).1 2 N.1,M 2 r N⟩) ⟨λh=>by have:=f 2 gs h.1;omega,λh=>by have:=(q gs W h.1).2;omega,λh=>by have:=s gs h;omega⟩ Ω Ω λJ x O af ag=>?_;refine S _ _ x (O.Y λr _ h=>h.elim (λh=>by have:=f 2 r h.1;omega) λh=>Ω) af (aC.ly O (λr e=>?_) ag (λj r C e=>?_) λr e=>?_) (λj r e=>?_) λj C=>?_
 .rcases e with e|rfl
  .exact .inl e
  .exact .inr ⟨λj h=>by have:=f j r h.1;omega,λh=>by have:=s r h;omega⟩
 .rcases e with e|e|e
  .exact z 2 j r (Ne.symm C) e
  .exact λh=>(q r e.2 e.1).1 j h.1
  .exact λh=>by have:=h.2;omega
 .rcases e with e|e|e
  .exact M 2 r e
  .exact λh=>by have:=(q r e.2 e.1).2;have:=s r h;omega
  .exact λh=>by have:=s r h;omega
 .unfold fK at e;split at e
  .rcases e with e|e|e
   .exact f 2 r e.1
   .exact (q r e.2 e.1).2
   .omega
  .exact f j r e.1
 .rw[Y9 (Ne.symm C)]
theorem bI.Sc{a:kb}(h:bI s2 A R w cs k d6 zero D G bb H E)(F:aj w gs aK cs)(ac:cs[6]?=σ v)(f:∀j r,A j r->gs<r)(s:∀r,R r->r<gs)(V:cq w 4 y 1 xs)(Q:bB B R w xs a)(q:∀r,r<w.heap.size->B r->(∀j,¬A j r)/\gs<r)(ah:H.length<=1000)(S:∀aS bK I,ai (λr=>gs<=r) w I->aj I gs aK bK->bI s2 aS R I bK k d6 zero D G bb (H++[a]) E->(∀j r,aS j r->gs<r)->(∀j,j≠6->bK[j]?=cs[j]?)->K I):
  aM x8 (b9 #[c7,c7] P #[v,y]) w λJ aa=>ad x8 (u6 aK (Γ gs) 6) aa λU=>aM x8 (o7 c7 U J) aa λ_ x=>K x:=by
 have aC:=h.old;have W:=F.lt;obtain⟨hv,ak,al,am,X,L,Y,h1,an,ao,ap,Z,aq,z⟩:=id aC;obtain⟨z,M⟩:=z rfl;have L:v=X:=by rw[Y]at ac;exact(Z5 ac).symm
 subst L;have ab:bB (λr=>B r/\r<w.heap.size) R w xs a:=aw.Y Q (λr e h=>⟨h,e⟩) λ_ _ h=>h;refine qb aK.p rfl c7.u c7.i cr.i rfl F ac Z V ab (λr e N=>⟨λae=>(q r e ae.1).1 3 N.1,M 3 r N⟩) ⟨λh=>by have:=f 3 gs h.1;omega,λh=>by have:=(q gs W h.1).2;omega,λh=>by have:=s gs h;omega⟩ Ω Ω λJ x O af ag=>?_;refine S _ _ x (O.Y λr _ h=>h.elim (λh=>by have:=f 3 r h.1;omega) λh=>Ω) af (aC.lz O (λr e=>?_) ag (λj r C e=>?_) λr e=>?_) (λj r e=>?_) λj C=>?_
 .rcases e with e|rfl
  .exact .inl e
  .exact .inr ⟨λj h=>by have:=f j r h.1;omega,λh=>by have:=s r h;omega⟩
 .rcases e with e|e|e
  .exact z 3 j r (Ne.symm C) e
  .exact λh=>(q r e.2 e.1).1 j h.1
  .exact λh=>by have:=h.2;omega
 .rcases e with e|e|e
  .exact M 3 r e
  .exact λh=>by have:=(q r e.2 e.1).2;have:=s r h;omega
  .exact λh=>by have:=s r h;omega
 .unfold fK at e;split at e
  .rcases e with e|e|e
   .exact f 3 r e.1
   .exact (q r e.2 e.1).2
   .omega
  .exact f j r e.1
 .rw[Y9 (Ne.symm C)]
end
end Go.Proofs.YtlcdcbgoaljiiaaGreatDoor
