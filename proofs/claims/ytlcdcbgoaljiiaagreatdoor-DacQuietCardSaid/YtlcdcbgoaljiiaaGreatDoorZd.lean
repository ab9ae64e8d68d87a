/- own texts, made small by a tool (wip/ holds them as they were written): no statement of the seat. -/
import Derived.Test.YtlcdcbgoaljiiaaGreatDoorZc
set_option linter.unusedVariables false
set_option linter.unusedSimpArgs false
set_option linter.unnecessarySimpa false
open Array renaming getElem?_eq_some_iff→Z6
open BitVec renaming ofInt→U8
open Bool renaming false→ne,true→ms,not_true→Y1,not_false→X4,eq_iff_iff→U1,true_and→T0,or_eq_false_iff→T5,and_eq_true→S0
open Decidable renaming not_not→X0
open Go renaming Value→x1,World→x4,TypeId→r8,IntKind→o5,Program→W5
open Go.Builtin renaming append_→c9,len_→W7
open Go.Instr renaming loadAt→u4,fieldAt→u6,storeAt→o7,indexAt→n9,extract→Z9,buildSlice→Y3,sliceAt→V5,alloc→R4
open Go.IntKind renaming i64→X3
open Go.Proofs.Tryz renaming prog→x7
open Int renaming toNat_natCast→u5,le_refl→S8
open List renaming getElem?_eq_some_iff→x5,mem_of_getElem?→x6,getElem?_eq_getElem→x8,getElem?_map→v8,take_add_one→u7,length_map→u9,replicate→r9,getD_eq_getElem?_getD→p8,length_append→o4,take_length→o6,mem_map→o9,take_of_length_le→j4,mem_append→j5,eq_nil_of_length_eq_zero→j6,length_take→j9,map_append→Z2,length_set→Z5,mem_singleton→Z7,getElem?_set_self→Y2,mem_iff_getElem?→Y4,ext_getElem?→Y5,drop_eq_getElem_cons→Y8,getElem?_append_right→X1,range→X2,length_cons→X5,append_assoc→X7,getElem?_set→X8,getElem?_set_ne→W0,getElem?_take_of_lt→W3,length_eq_one_iff→W6,getElem?_eq_none→V0,append_nil→V2,getElem?_append_left→V3,flatMap_cons→U2,map_set→U4,mem_or_eq_of_mem_set→U7,set_append_right→U9,mem_filter→T6,map_map→T7,getElem_mem→T9,length_singleton→S1,mem_of_mem_take→S4
open Nat renaming le_refl→p9,le_trans→Y7,mul_le_mul_right→X6,zero_le→X9,zero_add→V7,sub_self→V8,pow_le_pow_right→T3,add_mul→T4
open Option renaming toList_some→o8,isNone_some→l9,map_eq_some_iff→Y0,map_some→Y9,map→V9,isSome_some→T8,isSome_none→S6
open Option.some renaming inj→Z4,injEq→W9
open Prod.mk renaming injEq→R5
set_option maxHeartbeats 16000000
open Option renaming some→σ,none→ν
variable{I w:x4}{S:Nat->Prop}{c k n v y:Int}{all am cs l pl d6 t tl:Λ}{P e:r8}{B N af ag gs gz j pos:Nat}{aV sv ho z:x1}{K:x1->x4->Prop}{L:List (Λ)}
namespace Go.Proofs.YtlcdcbgoaljiiaaGreatDoor
open Go Go.Vc Go.RowKit Go.Proofs Go.Proofs.Tryz
set_option maxRecDepth 100000
structure yM where
 v:x1
 t:Λ
 c:Int
def p6(y:yM):List x1:=[y.v,Δ y.c]
def md(w:x4)(g:Nat)(v:x1)(l:List (Λ×Int)):Prop:=∃L:List yM,bn p6 2 cr w g v L/\(∀y∈L,∃gy,aH .i64 ax w gy y.v y.t)/\L.map (λy=>(y.t,y.c))=l
structure kB where
 aZ:x1
 ho:x1
 o:Int
 cu:x1
def fW(h:kB):List x1:=[h.aZ,h.ho,Δ h.o,h.cu]
def iH(w:x4)(h:kB)(x:cE):Prop:=(∃g,aH .i64 ax w g h.aZ x.scope)/\(∃g,aH .i64 ax w g h.ho x.d6)/\h.o=x.other/\∃g,md w g h.cu x.lines
def iT(w:x4)(r:Nat):Prop:=∃e c,ai w r e c/\e≠ax/\e≠cr
theorem e0{g:Nat}{v:x1}(h:aH .i64 ax w g v l)(f:aj S w I)(j:∀r,S r->iT w r\/w.heap.size<=r):aH .i64 ax I g v l:=bB h f λr a V=>by
 rcases j r V with⟨e,c,q,s,_⟩|x
 .exact cv h q (λhe=>s he.symm) a rfl
 .obtain⟨y,z⟩:=b5 h a;omega
theorem yN{α:Type}{f:α->List x1}{k:Nat}{g:Nat}{v:x1}{L:List α}(h:bn f k e w g v L)(q:aj S w I)(s:∀r,S r->(∃a c,ai w r a c/\a≠e)\/w.heap.size<=r):bn f k e I g v L:=h.aa q λr j V=>by
 rcases s r V with⟨a,c,x,y⟩|z
 .exact cw h x (λhe=>y he.symm) j
 .obtain⟨A,B⟩:=h.hv j;omega
theorem md.dX{g:Nat}{v:x1}{l:List (Λ×Int)}(h:md w g v l)(a:aj S w I)(f:∀r,S r->iT w r\/w.heap.size<=r):md I g v l:=by
 obtain⟨L,h1,j,q⟩:=h;refine⟨L,yN h1 a λr s=>(f r s).imp (λ⟨e,c,x,_,z⟩=>⟨e,c,x,z⟩) id,λy A=>?_,q⟩;obtain⟨gy,hm⟩:=j y A;exact⟨gy,e0 hm a f⟩
theorem iH.dX{h:kB}{x:cE}(aw:iH w h x)(a:aj S w I)(e:∀r,S r->iT w r\/w.heap.size<=r):iH I h x:=by
 obtain⟨⟨g1,h1⟩,⟨f,j⟩,q,s,y⟩:=aw;exact⟨⟨g1,e0 h1 a e⟩,⟨f,e0 j a e⟩,q,s,y.dX a e⟩
theorem iH.W{h:kB}{x:cE}(aw:iH w h x)(J:Ext w I):iH I h x:=aw.dX (J.aa λ_=>False) λ_ h=>h.elim
theorem iH.one{h:kB}{x:cE}(aw:iH w h x):∀u∈fW h,u.oneCell'=ms:=by
 obtain⟨⟨g1,h1⟩,⟨f,a⟩,j,q,L,e,_⟩:=aw;intro u hu;simp[fW]at hu;rcases hu with rfl|rfl|rfl|rfl
 .exact h1.ls.cells.2
 .exact a.ls.cells.2
 .rfl
 .exact (dn e.sl).2
def oT(w:x4)(a:x1)(e:List jr)(gs:Nat)(sv:x1)(L:List kB)(X:List cE):Prop:=(kA w a e/\∀r,hp a r->∃c,ai w r cD c)/\bn fW 4 bj w gs sv L/\X.length=L.length/\∀(i:Nat)h x,L[i]?=σ h->X[i]?=σ x->iH w h x
theorem oT.dX{q:x1}{z:List jr}{L:List kB}{X:List cE}(h:oT w q z gs sv L X)(j:aj S w I)(s:∀r,S r->(∃e c,ai w r e c/\e≠ax/\e≠cr/\e≠cD/\¬hp sv r)\/w.heap.size<=r):oT I q z gs sv L X:=by
 obtain⟨⟨h1,A⟩,B,E,F⟩:=h;have hw:∀r,hp q r->¬S r:=λr a V=>by
  obtain⟨c,f⟩:=A r a;rcases s r V with⟨e,G,C,_,_,y,_⟩|H
  .exact y (eJ C f)
  .have:=f.lt;omega
 refine⟨⟨h1.aa j hw,λr a=>?_⟩,B.aa j λr a V=>?_,E,λi aw x hi J=>(F i aw x hi J).dX j λr a=>(s r a).imp (λ⟨e,c,f,K,M,_⟩=>⟨e,c,f,K,M⟩) id⟩
 .obtain⟨c,f⟩:=A r a;exact⟨c,f.aa j (hw r a)⟩
 .rcases s r V with⟨e,G,C,_,_,_,y⟩|H
  .exact y a
  .obtain⟨N,O⟩:=B.hv a;omega
def js(a:x1)(e f bad h big j li:Int)(sv:x1):List x1:=[a,Δ e,Δ f,Δ bad,Δ h,Δ big,Δ j,Δ li,sv]
def Q9(N:Nat)(so:Option aN)(a:List jr)(e bad big li:Int)(L:List kB)(X:List cE):Prop:=match so with
 |some s=>bad=0/\e≠0/\(big≠0↔s.big=ms)/\(s.big=ne->li=s.li)/\True/\a.map (·.1)=s.d9/\(∀t∈s.d9,Bytes t/\t.length<=65536)/\X.map (λx=>(x.d6,x.lines))=s.lm/\L.length+a.length<=100000
 |none=>bad≠0/\L.length<=N
def bZ(w:x4)(g B:Nat)(H:ak)(N:Nat)(so:Option aN):Prop:=100000<=N/\∃w0 a e gs sv L X,∃(h f bad j big q li:Int),w0.heap.size=B/\aj (λr=>r=g) w0 w/\(∃c,ai w0 g bO c)/\ai w g bO (js a h f bad j big q li sv)/\oT w0 a e gs sv L X/\(∀r,hp sv r->H r)/\Q9 N so e f bad big li L X
theorem oT.g{g:Nat}{e:x1}{f:List jr}{L:List kB}{X:List cE}(h:oT w e f gs sv L X)(q:aj (λr=>r=g) w I)(s:∃c,ai w g bO c):oT I e f gs sv L X:=
 h.dX q λr a=>.inl (by
  have a:r=g:=a;subst a;obtain⟨c,j⟩:=s;exact⟨_,c,j,Φ,Φ,Φ,λx=>cw h.2.1 j Φ x⟩)
theorem bZ.new{g:Nat}{H:ak}{so:Option aN}(h:bZ w g B H N so)(a:aj S w I)(e:∀r,S r->B<=r):bZ I g B H N so:=by
 obtain⟨x,w0,y,z,gs,sv,L,X,A,C,bad,E,big,F,li,h1,f,j,G,J,K,M⟩:=h;have q:g<w0.heap.size:=by obtain⟨c,O⟩:=j;exact O.lt
 exact⟨x,w0,y,z,gs,sv,L,X,A,C,bad,E,big,F,li,h1,⟨Y7 f.size a.size,λr o s V q=>a.bb r o (f.bb r o s V q) V λP=>by
  have:=e r P;have:=(Z6.1 s).1;omega⟩,j,G.aa a λV=>by have:=e g V;omega,J,K,M⟩
theorem bZ.W{g:Nat}{H:ak}{so:Option aN}(h:bZ w g B H N so)(J:Ext w I):bZ I g B H N so:=h.new (J.aa λ_=>False) λ_ h=>h.elim
theorem bZ.base{g:Nat}{H:ak}{so:Option aN}(h:bZ w g B H N so):bZ w g w.heap.size H N so:=by
 obtain⟨e,w0,f,j,gs,sv,L,X,q,r,bad,s,big,x,li,h1,y,z,a,A,C,E⟩:=h;exact⟨e,w,f,j,gs,sv,L,X,q,r,bad,s,big,x,li,rfl,aj.refl _ _,⟨_,a⟩,a,A.g y z,C,E⟩
theorem bZ.dX{g:Nat}{H:ak}{so:Option aN}(h:bZ w g B H N so)(j:aj S w I)(q:∀r,S r->(∃e c,ai w r e c/\e≠ax/\e≠cr/\e≠cD/\e≠bO/\¬H r)\/w.heap.size<=r):bZ I g I.heap.size H N so:=by
 obtain⟨x,w0,y,z,gs,sv,L,X,A,C,bad,E,big,F,li,h1,G,J,f,K,s,M⟩:=h.base;have O:=K.g G J;have a:=f.aa j λV=>by
  rcases q g V with⟨e,c,a,_,_,_,P,_⟩|ab
  .exact P (eJ a f)
  .have:=f.lt;omega
 refine⟨x,I,y,z,gs,sv,L,X,A,C,bad,E,big,F,li,rfl,aj.refl _ _,⟨_,a⟩,a,O.dX j λr Q=>(q r Q).imp (λ⟨e,c,a,R,U,W,_,Y⟩=>⟨e,c,a,R,U,W,λZ=>Y (s r Z)⟩) id,s,M⟩
theorem bZ.lt{g:Nat}{H:ak}{so:Option aN}(h:bZ w g B H N so):g<B/\B<=w.heap.size:=by
 obtain⟨f,w0,j,q,gs,sv,L,X,r,s,bad,x,big,y,li,h1,a,⟨c,e⟩,_⟩:=h;have:=e.lt;have:=a.size;omega
theorem jJ{g:Nat}{H:ak}{so:Option aN}(h:bZ w g B H N so):∃a,∃(e f bad j big q li:Int),∃sv,ai w g bO (js a e f bad j big q li sv)/\(so.isSome=ms↔bad=0):=by
 obtain⟨y,w0,a,z,gs,sv,L,X,e,f,bad,j,big,q,li,h1,A,C,x,E,F,r⟩:=h;refine⟨a,e,f,bad,j,big,q,li,sv,x,?_⟩;cases so with
 |none=>exact⟨(λh=>by cases h),λh=>m2 h r.1⟩
 |some s=>exact⟨λ_=>r.1,λ_=>rfl⟩
theorem nc{g:Nat}{H:ak}{so:Option aN}{K:x1->Prop}(h:bZ w g B H N so):ad x7 (b0 (Γ g)) w (λa=>ad x7 (u6 bO a 3) w λt45=>ad x7 (u4 al t45) w λt46=>ad x7 (aU .eql al ne ms t46 (Δ 0)) w K)=K (.bool so.isSome):=by
 obtain⟨f,j,q,bad,r,big,s,li,sv,e,hi⟩:=jJ h;rw[aL bO.p 3 e rfl,bl];congr 2;rw[U1,m6];exact hi.symm
theorem s6{g:Nat}{H:ak}{so:Option aN}{K:x1->Prop}(h:bZ w g B H N so):ad x7 (b0 (Γ g)) w (λf=>ad x7 (u6 bO f 3) w λt45=>ad x7 (u4 al t45) w λt46=>ad x7 (aU .neq al ne ms t46 (Δ 0)) w K)=K (.bool (!so.isSome)):=by
 obtain⟨q,r,s,bad,x,big,y,li,sv,j,hi⟩:=jJ h;rw[aL bO.p 3 j rfl,bG];congr 2;cases e:so.isSome with
 |true=>have a:=hi.1 e;simp[a]
 |false=>
  have a:bad≠0:=λa=>by rw[hi.2 a]at e;cases e
  simp[a]
def rk(w:x4)(g B:Nat)(H:ak)(N:Nat)(so:Option aN)(I:x4):Prop:=aj (λr=>r=g) w I/\bZ I g B H N so
theorem p7{g:Nat}{H:ak}{so:Option aN}{e at_:Int}(h:bZ w g B H N so)(he:e≠0):aq x7 pu [Γ g,Δ e,Δ at_] w λ_ I=>rk w g B H N ν I:=by
 refine aF func121 ?_;rw[nc h];cases so with
 |none=>rw[S6,a6];exact⟨aj.refl _ _,h⟩
 |some s=>
  rw[T8,bK];obtain⟨j,w0,q,r,gs,sv,L,X,x,y,bad,Q,big,z,li,h1,A,C,E,G,J,K⟩:=h;rw[bR,aY bO.p rfl];refine bs (g:=g) (o:=3) al.i rfl rfl E (by simp[js]) λU M R O=>?_;rw[bR,aY bO.p rfl];refine bs (g:=g) (o:=4) al.i rfl rfl O (by simp[js]) λab P S a=>?_;have a:=a;have f:=M.F P;obtain⟨_,_,_,_,_,_,_,_,V⟩:=K;exact⟨f,j,w0,q,r,gs,sv,L,X,x,y,e,at_,big,z,li,h1,A.F f,C,a,G,J,he,Ω⟩
theorem oU{g:Nat}{H:ak}{so:Option aN}{b:Bool}{at_:Int}(h:bZ w g B H N so):aq x7 ud [Γ g,.bool b,Δ at_] w λ_ I=>rk w g B H N (so.map (bp b)) I:=by
 refine aF func118 ?_;obtain⟨A,w0,C,E,gs,sv,L,X,G,J,bad,K,big,W,li,h1,M,O,e,P,Q,f⟩:=id h;refine a1 (λv U=>w=U/\v= .bool (b&&decide (big=0)&&so.isSome)) ?_ ?_
 .rintro _ _ ⟨rfl,rfl⟩;rw[b1];refine⟨λR=>?_,λah=>⟨aj.refl _ _,A,w0,C,E,gs,sv,L,X,G,J,bad,K,big,W,li,h1,M,O,e,P,Q,?_⟩⟩
  .rw[S0,S0]at R;obtain⟨⟨Y,ae⟩,Z⟩:=R;rw[bR,aY bO.p rfl];refine bs (g:=g) (o:=5) al.i rfl rfl e (by simp[js]) λU aa af ac=>?_;rw[bR,aY bO.p rfl];refine bs (g:=g) (o:=6) al.i rfl rfl ac (by simp[js]) λab ad ag j=>?_;have j:=j;have S:=aa.F ad;refine⟨S,A,w0,C,E,gs,sv,L,X,G,J,bad,K,5,at_,li,h1,M.F S,O,j,P,Q,?_⟩;cases so with
   |none=>cases Z
   |some s=>
    obtain⟨q,r,V,x,y⟩:=f;exact⟨q,r,⟨λ_=>by show(s.big||b)=ms;rw[Y,Bool.or_true],λ_=>Ω⟩,λaw=>x (T5.1 aw).1,y⟩
  .cases so with
   |none=>exact f
   |some s=>
    obtain⟨q,r,V,x,y⟩:=f;refine⟨q,r,?_,λaw=>x (T5.1 aw).1,y⟩;show big≠0↔(s.big||b)=ms;cases b with
    |false=>rw[Bool.or_false];exact V
    |true=>
     have a:big≠0:=by simpa using ah
     simp[a]
 .intro aA z;cases b with
  |false=>rw[a6];exact z _ _ ⟨rfl,Ξ⟩
  |true=>
   rw[bK,aL bO.p 5 e rfl,bl,ao];refine⟨λa=>?_,λa=>z _ _ ⟨rfl,by rw[m5 a];simp⟩⟩;rw[nc h];exact z _ _ ⟨rfl,by rw[m3 a];simp⟩
def kY(so:Option aN):Option (Λ×aN):=so.bind eg
theorem Fh{g:Nat}{H:ak}{so:Option aN}(h:bZ w g B H N so):aq x7 JP [Γ g] w λv I=>rk w g B H N ((kY so).map (·.2)) I/\∃(t:Λ)(n:Int),v= .agg #[ce t,Δ n]/\Bytes t/\t.length<=65536/\∀q,kY so=σ q->t=q.1:=by
 have az:=h.lt;refine aF func117 ?_;refine bC cD.i λe U bj y z=>?_;have h1:=h.W y;have zero:∀{f:x4},rk U g B H N ν f->ai f e cD [.string ⟨#[]⟩,Δ 0]->kY so=ν->(ad x7 (Instr.build cD #[]) f λt9=>
   aM x7 (o7 cD (Γ e) t9) f λ(_:Unit)ab=>
   ad x7 (do loadVar cD (<-asAddr (Γ e))) ab λaA=>(λv I=>rk w g B H N ((kY so).map (·.2)) I/\∃(t:Λ)(n:Int),v= .agg #[ce t,Δ n]/\Bytes t/\t.length<=65536/\∀q,kY so=σ q->t=q.1) aA ab):=by
  intro f j G P;rw[dk (cs:=#[.string ⟨#[]⟩,Δ 0]) Ψ];refine b8 (vs:=[.string ⟨#[]⟩,Δ 0]) cD.i rfl rfl (by intro v ac;simp at ac;rcases ac with rfl|rfl<;>rfl) G λaB W bk aC=>?_;rw[gk cD.p cD.i rfl aC.range,P];have aD:=y.size;have bm:=az;refine⟨⟨ji ((y.aa _).F j.1) W λr a he=>?_,j.2.new W λr a=>?_⟩,[],0,rfl,(λb aE=>by cases aE),Ξ,λq Q=>by cases Q⟩
  .have he:r=e:=he;omega
  .have a:r=e:=a;omega
 rw[s6 h1];cases so with
 |none=>
  rw[S6,X4,bK];exact zero ⟨aj.refl _ _,h1⟩ z rfl
 |some s=>
 rw[T8,Y1,a6];obtain⟨aG,w0,bn,R,gs,sv,L,X,aH,aI,bad,aJ,big,aK,li,aO,Y,Z,A,J,aP,aQ⟩:=id h1;have aR:=J.g Y Z;obtain⟨⟨K,bo⟩,_⟩:=id aR;obtain⟨aS,ae,aT,aU,aV,af,ag,aW,aX⟩:=id aQ;rw[aL bO.p 0 A rfl,Ff K,bl,ao];refine⟨λah=>?_,λah=>?_⟩
 .have aZ:R=[]:=j6 Ω;have C:s.d9=[]:=by rw[<-af,aZ];rfl
  have P:kY (σ s)=ν:=by show eg s=ν;unfold eg;rw[C]
  intro f M _ _;have G:=A.W M;rw[aL bO.p 2 G rfl,aL bO.p 1 G rfl];refine(p7 (h1.W M) ae).Y ?_;rintro _ aB _ j;have a1:=z.lt;exact zero ⟨(M.aa _).F j.1,j.2⟩ ((z.W M).aa j.1 λhe=>by have he:=he;omega) P
 .obtain⟨x,E,rfl⟩:∃x l,R=x::l:=by
   cases R with
   |nil=>exact m2 rfl ah
   |cons x l=>exact⟨x,l,rfl⟩
  have C:s.d9=x.1::E.map (·.1):=by rw[<-af];rfl
  have a2:kY (σ s)=σ (x.1,{s with d9:=E.map (·.1)}):=by show eg s=_;unfold eg;rw[C]
  have al:=ag x.1 (by rw[C];exact .head _);rw[aL bO.p 0 A rfl];refine Fg K λb o a7=>?_;rw[bF cD.p cD.i rfl a7];refine bC cD.i λbp bq br a8 ba=>?_;refine b8 (vs:=iG x) cD.i rfl rfl (yK x) ba λbt bb bu am=>?_;have O:=a8.put bb Ω;have an:=A.W O;rw[aL bO.p 0 an rfl];refine Q5 (K.aa (O.aa λ_=>False) λ_ _ h=>h) λap au bc=>?_;have av:=au U K;rw[bR,aY bO.p rfl];refine bs (g:=g) (o:=0) fM.i (dn av).1 (dn av).2 an (by simp[js]) λaw S bw V=>?_;have V:=V;have a1:=A.lt;have bx:=am.lt;have bz:=z.lt;have aD:=y.size;have bd:=am.aa S λhe=>by have he:=he;omega
  rw[bF cD.p cD.i rfl bd.range];have be:ai aw e cD [.string ⟨#[]⟩,Δ 0]:=(ai.W z O).aa S λhe=>by have he:=he;omega
  refine b8 (vs:=iG x) cD.i rfl rfl (yK x) be λbA ax bB bf=>?_;rw[gk cD.p cD.i rfl bf.range];have ay:=(O.aa _).F S;rw[a2];refine⟨⟨ji ((y.aa _).F ay) ax λr a he=>?_,?_⟩,x.1,x.2,rfl,al.1,al.2,λq Q=>by cases Q;rfl⟩
  .have he:r=e:=he;omega
  .have bg:oT w0 ap E gs sv L X:=⟨⟨au w0 J.1.1,λr a=>J.1.2 r (bc r a)⟩,J.2⟩;have bh:bZ aw g B H N (σ {s with d9:=E.map (·.1)}):=⟨aG,w0,ap,E,gs,sv,L,X,aH,aI,bad,aJ,big,aK,li,aO,Y.F ay,Z,V,bg,aP,aS,ae,aT,aU,aV,rfl,λt bi=>ag t (by rw[C];exact .tail _ bi),aW,by simp at aX;omega⟩;refine bh.new ax λr a=>?_;have a:r=e:=a;omega
theorem Ra{lo hi:Int}{so:Option aN}:bk lo hi so=match kY so with
  |none=>ν
  |some (w,s)=>match ix w with
   |none=>ν
   |some n=>if lo<=n/\n<=hi then σ (n,s)else ν:=by
 cases so with
 |none=>rfl
 |some s=>rfl
theorem me{g:Nat}{H:ak}{so:Option aN}{lo hi:Int}(h:bZ w g B H N so):aq x7 nE [Γ g,Δ lo,Δ hi] w λv I=>rk w g B H N ((bk lo hi so).map (·.2)) I/\∃n at_:Int,v= .tuple #[Δ n,Δ at_]/\(∀q,bk lo hi so=σ q->n=q.1)/\(bk lo hi so=ν->n=0):=by
 have ax:=h.lt;refine aF func119 ?_;refine(Fh h).Y ?_;rintro _ U _ ⟨⟨M,h1⟩,t,at_,rfl,W,ay,O⟩;have az:=h1.lt;refine bC cD.i λaB ab aC X Y=>?_;refine b8 (vs:=[ce t,Δ at_]) cD.i rfl rfl (by intro v ac;simp at ac;rcases ac with rfl|rfl<;>rfl) Y λZ ad aD P=>?_;have Q:Ext U Z:=X.put ad Ω;have ae:=h1.W Q;rw[aO cD.p 0 P rfl];refine(Q2 W Ω).Y ?_;rintro _ C _ ⟨rfl,E⟩;have G:=ae.W E;have R:=P.W E;have af:=Q.F E;have aE:=M.size;obtain⟨n,e,ag,J,ah⟩:∃n e:Int,l5 t= .tuple #[Δ n,Δ e]/\(∀m,ix t=σ m->n=m/\e=0)/\(ix t=ν->e≠0):=by
  unfold l5;cases ix t with
  |none=>exact⟨0,4,rfl,(λm hm=>by cases hm),λ_=>Ω⟩
  |some m=>exact⟨m,0,rfl,(λm hm=>by cases hm;exact⟨rfl,rfl⟩),λh=>by cases h⟩
 rw[ag,bx,bz];have a:=Ra (lo:=lo) (hi:=hi) (so:=so);have S:aj (λr=>r=g) w C:=M.F (af.aa _);refine cZ (λx=>aj (λr=>r=g) C x/\bZ x g B H N ((bk lo hi so).map (·.2))) ?_ ?_
 .rintro x ⟨y,s⟩;rw[s6 s];cases z:bk lo hi so with
  |none=>
   rw[z]at s;rw[Option.map_none,S6,X4,bK];exact⟨⟨S.F y,s⟩,0,0,rfl,(λq z=>by cases z),λ_=>rfl⟩
  |some q=>
   rw[z]at s a;rw[Y9,T8,Y1,a6];intro aG K _ _;have ai:=(R.aa y λhe=>by have he:=he;omega).W K;rw[aO cD.p 1 ai rfl];refine⟨⟨(S.F y).F (K.aa _),s.W K⟩,n,at_,rfl,λaH al=>?_,λh=>by cases h⟩;cases al;cases j:kY so with
   |none=>rw[j]at a;cases a
   |some p=>
    obtain⟨bu,s1⟩:=p;have L:=O (bu,s1) j;subst L;rw[j]at a;simp only at a;cases f:ix t with
    |none=>rw[f]at a;cases a
    |some m=>
     rw[f]at a;simp only at a;split at a
     .cases a;exact(J m f).1
     .cases a
 .intro aA V;refine a1 (λv x=>C=x/\∃c:Bool,v= .bool c/\(c=ms->bk lo hi so=ν)/\(c=ne->(bk lo hi so).map (·.2)=(kY so).map (·.2))) ?_ ?_
  .rintro _ _ ⟨rfl,c,rfl,am,an⟩;rw[b1];refine⟨λh=>?_,λh=>V _ ⟨aj.refl _ _,by rw[an h];exact G⟩⟩;rw[aO cD.p 1 R rfl];refine(p7 G Ω).Y ?_;rintro _ x _ ⟨y,s⟩;exact V _ ⟨y,by rw[am h];exact s⟩
  .intro aI A;rw[nc G];cases j:kY so with
   |none=>
    rw[j]at a;simp only at a;rw[Option.map_none,S6,a6];exact A _ _ ⟨rfl,ne,rfl,(λh=>by cases h),λ_=>by rw[a,j];rfl⟩
   |some p=>
    obtain⟨bu,s1⟩:=p;have L:=O (bu,s1) j;subst L;rw[j]at a;simp only at a;rw[Y9,T8,bK,bG,ao];refine⟨λhe=>?_,λhe=>?_⟩
    .refine A _ _ ⟨rfl,ms,rfl,λ_=>?_,λh=>by cases h⟩;cases f:ix t with
     |none=>rw[a,f]
     |some m=>exact m2 (J m f).2 he
    .have ap:=X0.1 he;cases f:ix t with
     |none=>exact m2 ap (ah f)
     |some m=>
      rw[f]at a;simp only at a;have au:=(J m f).1;subst au;rw[aW,ao];refine⟨λav=>A _ _ ⟨rfl,ms,rfl,λ_=>by rw[a,m1 Ω],λh=>by cases h⟩,λav=>?_⟩;rw[bU];refine A _ _ ⟨rfl,_,rfl,λaw=>?_,λaw=>?_⟩
      .rw[a,m1 (by have:=m7 aw;omega)]
      .rw[a,lw (by have:=of_decide_eq_false aw;omega),j];rfl
theorem yO{bD bv:x1}{a b:Λ}(e:aQ .i64 w bD a)(s:aQ .i64 w bv b):aq x7 ue [bD,bv] w λv I=>v= .bool (decide (a=b))/\Ext w I:=by
 refine aF func180 ?_;rw[a7 aC.u e,a7 aC.u s,bG,ao];refine⟨λh=>⟨by rw[m5];intro he;rw[he]at h;exact h rfl,Ext.refl _⟩,λh=>?_⟩;have z:a.length=b.length:=by have:=X0.1 h;omega
 rw[a7 aC.u e];refine cb.range a.length (λi _ U=>Ext w U/\a.take i=b.take i) e.le ⟨Ext.refl _,rfl⟩ ?_ ?_
 .rintro i _ U k hi ⟨q,f⟩ hk;obtain⟨x,J⟩:=aK (l:=a) hi;obtain⟨y,r⟩:=aK (l:=b) (i:=i) Ω;refine bM Ω ?_;intro ab A _ _;have j:=q.F A;rw[bm aC.u ax.i Ψ (e.W j) J,bm aC.u ax.i Ψ (s.W j) r,bG,ao];refine⟨λB=>⟨by rw[m5];intro he;rw[he,r]at J;exact B (Z4 J).symm,j⟩,λhe=>?_⟩;rw[aR];refine hk _ _ ⟨j,?_⟩;rw[u7,u7,f,J,r,X0.1 he]
 .rintro _ U k ⟨q,f⟩;rw[aW,ao];refine⟨λh=>Ω,λ_=>⟨?_,q⟩⟩;rw[o6,z,o6]at f;rw[m3 f]
def iU(w:x4)(B a:Nat)(x:cE):Prop:=∃aZ ho cu g1 e f,ai w a bj [aZ,ho,Δ x.other,cu]/\aH .i64 ax w g1 aZ x.scope/\aH .i64 ax w e ho x.d6/\md w f cu x.lines/\(∀r,hv aZ r\/hv ho r->B<=r)/\(∀r,hv aZ r->¬hv ho r)/\B<=a
def Fi(w:x4)(r:Nat):Prop:=(∃e c,ai w r e c/\e≠ax/\e≠cr/\e≠bj)\/w.heap.size<=r
theorem iU.dX{f:Nat}{x:cE}(h:iU w B f x)(a:aj S w I)(s:∀r,S r->Fi w r):iU I B f x:=by
 obtain⟨aZ,ho,cu,g1,y,z,h1,A,C,E,F,G,H⟩:=h;have j:∀r,S r->iT w r\/w.heap.size<=r:=λr J=>(s r J).imp (λ⟨e,c,q,K,L,_⟩=>⟨e,c,q,K,L⟩) id;refine⟨aZ,ho,cu,g1,y,z,h1.aa a λV=>?_,e0 A a j,e0 C a j,E.dX a j,F,G,H⟩;rcases s f V with⟨e,c,q,_,_,M⟩|N
 .exact M (eJ q h1)
 .have:=h1.lt;omega
theorem iU.W{a:Nat}{x:cE}(h:iU w B a x)(J:Ext w I):iU I B a x:=h.dX (J.aa λ_=>False) λ_ h=>h.elim
theorem mf{g:Nat}{H:ak}{so:Option aN}(h:bZ w g B H N so):∀r,r=g->Fi w r:=λr a=>by
 subst a;obtain⟨f,j,q,bad,s,big,x,li,sv,e,_⟩:=jJ h;exact .inl ⟨_,_,e,Φ,Φ,Φ⟩
def iV(g B:Nat):ak:=λr=>r=g\/B<=r
theorem Rb{k:Nat}{acc:Λ}{s:aN}:c6 (λacc s=>match br 0 (n-1) s with
 |none=>ν
 |some (v,s)=>if v∈acc then ν else σ (v,s)) (k+1) acc s=match br 0 (n-1) s with
  |none=>ν
  |some (v,s')=>if v∈acc then ν else c6 (λacc s=>match br 0 (n-1) s with
 |none=>ν
 |some (v,s)=>if v∈acc then ν else σ (v,s)) k (acc++[v]) s':=by
 rw[c6];cases br 0 (n-1) s with
 |none=>rfl
 |some q=>
  obtain⟨v,s'⟩:=q;simp only;by_cases ac:v∈acc
  .rw[lw ac,lw ac]
  .rw[m1 ac,m1 ac]
def Fj(n:Int)(k:Nat)(acc:Λ)(s:aN):Option (Λ×aN):=c6 (λacc s=>match br 0 (n-1) s with
 |none=>ν
 |some (v,s)=>if v∈acc then ν else σ (v,s)) k acc s
theorem Fk{g f ar:Nat}{H:ak}{s:aN}{so:Option aN}{Y:x1}{aI aJ:x4->Prop}(aw:bZ w g B H N so)(b1:so=σ s\/(so=ν/\ar=0))(b2:iU w B f ⟨[],[],0,[]⟩)(b3:∀c,ai w f bj c->c[3]?=σ (.slice ν 0 0))(bA:aH .i64 ax w gz Y all)(b4:∀r,hv Y r->r<B)(dj:all.length<=100001)(dk:ar<=4611686018427387904)(aL:so=σ s->s.d9.length<=100000)(am:so=σ s->∀I x,aj (iV g B) w I->fs all.length ar s=ν->bZ I g B H N ν->iU I B f x->aI I)(b7:so=ν->aJ w)(aP:so=σ s->∀I scope s',aj (iV g B) w I->fs all.length ar s=σ (scope,s')->bZ I g B H N (σ s')->iU I B f ⟨scope,scope.map λv=>all.getD v.toNat 0,0,[]⟩->(∀c,ai I f bj c->c[3]?=σ (.slice ν 0 0))->aJ I):
  b6 (Δ 0) w λi z k=>
   cC (α:=x1->x4->Prop) (λ(b8:x1)(M:x4)=>
    Split b8 (ad x7 (W7 #[aC] al #[Y]) M λt53=>
   ad x7 (aU .sub ax ne ms t53 (Δ 1)) M λb9=>
   aq x7 nE [Γ g,(Δ 0),b9] M λt55 A=>
   ad x7 (Z9 t55 0) A λaQ=>
   ad x7 (Z9 t55 1) A λca=>
   ad x7 (b0 (Γ g)) A λcb=>
   ad x7 (u6 bO cb 3) A λcc=>
   ad x7 (u4 al cc) A λcd=>
   ad x7 (aU .neq al ne ms cd (Δ 0)) A λce=>
   Split ce (aI A)
    (ad x7 (u6 bj (Γ f) 0) A λcf=>
   ad x7 (u4 aC cf) A λbC=>
   ad x7 (W7 #[aC] al #[bC]) A λt66=>
   b6 (Δ 0) A λaS E cg=>
    ad x7 (aU .lss al ne ne aS t66) E λch=>
    Split ch (ad x7 (n9 aC bC aS) E λci=>
    ad x7 (u4 ax ci) E λt70=>
    ad x7 (aU .eql ax ne ne t70 aQ) E λcj=>
    Split cj (aq x7 pu [Γ g,(Δ 4),ca] E λt76 aT=>aI aT)
     (ad x7 (aU .add al ne ms aS (Δ 1)) E λck=>
    cg ck E))
     (ad x7 (u6 bj (Γ f) 0) E λcl=>
   ad x7 (u4 aC cl) E λcm=>
   aM x7 (Y3 aC 1 #[(0,aQ)]) E λcn Z=>
   aM x7 (c9 #[aC,aC] aC #[cm,cn]) Z λcp aV=>
   ad x7 (u6 bj (Γ f) 0) aV λcq=>
   aM x7 (o7 aC cq cp) aV λ(_:Unit)an=>
   eP an λR=>
   ad x7 (u6 bj (Γ f) 1) R λaX=>
   ad x7 (u4 aC aX) R λbD=>
   ad x7 (n9 aC Y aQ) R λcr=>
   ad x7 (u4 ax cr) R λct=>
   aM x7 (Y3 aC 1 #[(0,ct)]) R λcz X=>
    (Ext R X\/cK x7 (u4 aC aX) bD X/\cK x7 (u6 bj (Γ f) 1) aX X/\True)/\
   aM x7 (c9 #[aC,aC] aC #[bD,cz]) X λcA a2=>
    ad x7 (u6 bj (Γ f) 1) a2 λcB=>
    aM x7 (o7 aC cB cA) a2 λ(_:Unit)ab=>
     ad x7 (aU .add ax ne ms i (Δ 1)) ab λcD=>
   k cD ab)))
     (aJ M)) λbE=>
   ad x7 (aU .lss ax ne ne i (Δ (ar:Int))) z λcE=>
   Split cE (ad x7 (b0 (Γ g)) z λcF=>
   ad x7 (u6 bO cF 3) z λcG=>
   ad x7 (u4 al cG) z λt45=>
   ad x7 (aU .eql al ne ms t45 (Δ 0)) z λt46=>
   bE t46 z)
    (bE (.bool ne) z):=by
 have dl:=aw.lt;rcases b1 with rfl|⟨rfl,rfl⟩
 rotate_left
 .refine b6.range 0 (λ_ U=>w=U) Ω rfl (λi U k hi=>Ω) ?_;rintro _ k rfl;refine a1 (λv M=>w=M/\v= .bool ne) ?_ ?_
  .rintro _ _ ⟨rfl,rfl⟩;rw[a6];exact b7 rfl
  .intro aA ae;rw[aW,ao];exact⟨λh=>Ω,λ_=>ae _ _ ⟨rfl,rfl⟩⟩
 have h:=aw;have aL:=aL rfl;have am:=am rfl;have aP:=aP rfl;refine b6.range ar (λi z=>∃scope O,aj (iV g B) w z/\bZ z g B H N (σ O)/\iU z B f ⟨scope,scope.map λv=>all.getD v.toNat 0,0,[]⟩/\scope.length=i/\scope.length+O.d9.length<=100000/\fs all.length ar s=Fj all.length (ar-i) scope O/\∀c,ai z f bj c->c[3]?=σ (.slice ν 0 0)) Ω ⟨[],s,aj.refl _ _,h,b2,rfl,by simpa using aL,rfl,b3⟩ ?_ ?_
 rotate_left
 .rintro z k ⟨scope,O,ap,Q,au,bF,cH,C,a8⟩;refine a1 (λv M=>z=M/\v= .bool ne) ?_ ?_
  .rintro _ _ ⟨rfl,rfl⟩;rw[a6];rw[V8]at C;exact aP z scope O ap C Q au a8
  .intro aA ae;rw[aW,ao];exact⟨λh=>Ω,λ_=>ae _ _ ⟨rfl,rfl⟩⟩
 rintro i z k hi ⟨scope,O,ap,Q,au,bF,cH,C,a8⟩ hk;refine a1 (λv M=>z=M/\v= .bool ms) ?_ ?_
 rotate_left
 .intro aA ae;refine bM Ω ?_;rw[nc Q];exact ae _ _ ⟨rfl,rfl⟩
 rintro _ _ ⟨rfl,rfl⟩;rw[bK];have bG:∀{I:x4},aj (iV g B) w I->aH .i64 ax I gz Y all:=λcI=>bB bA cI λr e V=>by
  rcases V with rfl|V
  .obtain⟨cJ,G,af,bad,cL,big,cM,li,sv,J,_⟩:=jJ h;exact cv bA J Φ e rfl
  .have:=b4 r e;omega
 rw[a7 aC.u (bG ap).ls,c5,hx Ω Ω];refine(me Q).Y ?_;rintro _ A _ ⟨⟨ba,K⟩,n,at_,rfl,bb,cN⟩;rw[bx,bz,s6 K];have bc:=au.dX ba (mf Q);have bd:aj (iV g B) w A:=ap.F (ba.Y λr _ h=>.inl h);have cO:=Rb (n:=(all.length:Int)) (k:=ar-(i+1)) (acc:=scope) (s:=O);have cP:ar-i=(ar-(i+1))+1:=Ω
 rw[cP]at C;unfold Fj at C;rw[cO]at C;have cQ:bk 0 ((all.length:Int)-1) (σ O)=br 0 ((all.length:Int)-1) O:=rfl;rw[cQ]at K bb cN ⊢;cases av:br 0 ((all.length:Int)-1) O with
 |none=>
  rw[av]at K C;rw[Option.map_none,S6,X4,bK];exact am A _ bd C K bc
 |some q=>
  obtain⟨v,bH⟩:=q;rw[av]at K C bb;have cR:=bb _ rfl;subst cR;have dm:=(jD av).1;have dn:=(dS av).1;simp only at C;rw[Y9,T8,Y1,a6];have K:bZ A g B H N (σ bH):=K;obtain⟨aZ,ho,cu,g1,dp,be,f1,f2,f3,f4,f5,f6,f7⟩:=id bc;rw[aO bj.p 0 f1 rfl,a7 aC.u f2.ls];have dq:scope.length<=100000:=Ω
  refine b6.range scope.length (λj E=>A=E/\n∉scope.take j) Ω ⟨rfl,Ξ⟩ ?_ ?_
  .rintro j _ cS cT ⟨rfl,ay⟩ cU;obtain⟨u,hu⟩:=aK (l:=scope) cT;rw[aW,ao];refine⟨λ_=>?_,λh=>by simp only at h;omega⟩;rw[bm aC.u ax.i Ψ f2.ls hu,bl,ao];refine⟨λhe=>?_,λcV=>?_⟩
   .refine (p7 K Ω).Y ?_;rintro _ aT _ ⟨bI,cW⟩;rw[lw (by rw[<-he];exact x6 hu)]at C;exact am aT _ (bd.F (bI.Y λr _ h=>.inl h)) C cW (bc.dX bI (mf K))
   .rw[aR];refine cU _ ⟨rfl,?_⟩;rw[u7,hu];intro hm;rcases j5.1 hm with hm|hm
    .exact ay hm
    .simp at hm;exact cV hm.symm
  .rintro _ cS ⟨rfl,ay⟩;rw[o6]at ay;rw[aW,ao];refine⟨λh=>by simp only at h;omega,λ_=>?_⟩;rw[m1 ay]at C;rw[aO bj.p 0 f1 rfl];refine eI aC.u ax.i rfl λdr ds Z dt P cX=>?_;have du:=K.lt;refine iF aC.u ax.i rfl (f2.W P) cX.ls Θ Θ λbf cY aV az cZ bJ=>?_;have aB:=f1.W P;have f113:=aB.aa bJ λhe=>cv (f2.W P) aB Φ he rfl;rw[aY bj.p rfl];refine bs (g:=f) (o:=0) aC.i az.ls.cells.1 az.ls.cells.2 f113 Ξ λan bL dv aD=>?_;have aD:=aD;intro R bg _ _;have ag:aj (λr=>hv aZ r\/r=f) Z an:=(bJ.Y λr _ h=>.inl h).F (bL.Y λr _ h=>.inr h);have bN:∀r,(hv aZ r\/r=f)->iV g B r:=λr e=>.inr (e.elim (λe=>f5 r (.inl e)) λe=>e▸f7);have bP:=(bd.F (P.aa _)).F (ag.Y λr _ e=>bN r e);have c0:aj (iV g B) w R:=bP.F (bg.aa _);have c1:=bB (f3.W P) ag λr e V=>by
    rcases V with V|rfl
    .exact f6 r V e
    .exact cv (f3.W P) aB Φ e rfl
   have c2:=bB az bL λr e he=>by
    have he:r=f:=he;subst he;exact cv az f113 Φ e rfl
   have c3:∀r,(hv aZ r\/r=f)->(∃c,ai Z r ax c)\/∃c,ai Z r bj c:=λr e=>by
    rcases e with e|rfl
    .obtain⟨G,_⟩:=b5 f2 e;obtain⟨_,⟨ac,_⟩|⟨_,cs,ac,J,_⟩⟩:=f2.W P
     .rw[ac]at e;obtain⟨a,c4,c,G,af⟩:=e;cases G
     .exact .inl ⟨cs,G▸J⟩
    .exact .inr ⟨_,aB⟩
   have c6:md an be cu []:=by
    obtain⟨L,S,c7,bh⟩:=f4.dX (P.aa λ_=>False) λ_ h=>h.elim;have bi:=List.map_eq_nil_iff.1 bh;subst bi;refine⟨[],S.aa ag λr e V=>?_,λy bn=>(by cases bn),rfl⟩;rcases c3 r V with⟨c,J⟩|⟨c,J⟩
    .exact cw S J Φ e
    .exact cw S J Φ e
   have c8:=(K.W P).new ag λr e=>by
    rcases bN r e with rfl|h
    .rcases e with e|e
     .exact f5 _ (.inl e)
     .exact e▸f7
    .exact h
   rw[aO bj.p 1 (aD.W bg) rfl];have da:all[n.toNat]?=σ (all.getD n.toNat 0):=by rw[p8,x8 Ω];rfl
   rw[fO (y:=n) (i:=n.toNat) Ω aC.u ax.i Ψ (bG c0).ls da];refine eI aC.u ax.i rfl λdw dx X dy bQ db=>?_;refine⟨.inl bQ,?_⟩;have W:=bg.F bQ;have f316:=c1.W W;have bR:(scope.map λv=>all.getD v.toNat 0).length=scope.length:=u9 _;refine iF aC.u ax.i rfl f316 db.ls (by simp at bR ⊢;omega) (by simp at bR ⊢;omega) λbS dc a2 aE bT bU=>?_;have aF:=aD.W W;have bV:=aF.aa bU λhe=>cv f316 aF Φ he rfl;rw[aY bj.p rfl];refine bs (g:=f) (o:=1) aC.i aE.ls.cells.1 aE.ls.cells.2 bV Ξ λab bW dz ah=>?_;have ah:=ah;rw[aR];have aG:aj (λr=>hv ho r\/r=f) X ab:=(bU.Y λr _ h=>.inl h).F (bW.Y λr _ h=>.inr h);have bX:∀r,(hv ho r\/r=f)->B<=r:=λr e=>e.elim (λe=>f5 r (.inr e)) λe=>e▸f7;have bo:=c2.W W;have dA:=P.size;have dC:=ag.size;have bp:∀r,hv bf r->B<=r/\¬hv ho r:=λr e=>by
    rcases cZ r e with h|h
    .exact⟨f5 r (.inl h),f6 r h⟩
    .exact⟨Ω,λbq=>by obtain⟨G,af⟩:=b5 f3 bq;omega⟩
   have dd:=bB bo aG λr e V=>by
    rcases V with V|rfl
    .exact (bp r e).2 V
    .exact cv bo aF Φ e rfl
   have de:=bB aE bW λr e he=>by
    have he:r=f:=he;subst he;exact cv aE bV Φ e rfl
   have df:md ab be cu []:=by
    obtain⟨L,S,c7,bh⟩:=c6.dX (W.aa λ_=>False) λ_ h=>h.elim;have bi:=List.map_eq_nil_iff.1 bh;subst bi;refine⟨[],S.aa aG λr e V=>?_,λy bn=>(by cases bn),rfl⟩;rcases V with V|rfl
    .obtain⟨G,_⟩:=b5 f316 V;obtain⟨_,⟨ac,_⟩|⟨_,cs,ac,J,_⟩⟩:=f316
     .rw[ac]at V;obtain⟨a,c4,c,G,af⟩:=V;cases G
     .exact cw S (G▸J) Φ e
    .exact cw S aF Φ e
   refine hk _ ⟨scope++[n],bH,((bP.F (W.aa _)).F (aG.Y λr _ e=>.inr (bX r e))),(c8.W W).new aG bX,⟨bf,bS,cu,cY,dc,be,ah,dd,by rw[Z2];exact de,df,λr e=>?_,λr e bq=>?_,f7⟩,by rw[o4,bF];rfl,by rw[o4];simp;omega,C,λc bt=>?_⟩
   .rcases e with e|e
    .exact (bp r e).1
    .rcases bT r e with h|h
     .exact f5 r (.inr h)
     .have:=W.size;omega
   .rcases bT r bq with h|h
    .exact (bp r e).2 h
    .obtain⟨G,af⟩:=b5 bo e;omega
   .have dg:c=[bf,bS,Δ 0,cu]:=by
     unfold ai at bt ah;rw[ah]at bt;have:=(Obj.cells.inj (Z4 bt)).1;exact(Array.toList_inj.2 this).symm
    have dh:cu= .slice ν 0 0:=by
     obtain⟨dD,dE,dF,_,_,_,bu,_⟩:=au;have bY:=a8 _ bu;have bw:=bu.aa ba λhe=>by
      have he:=he;obtain⟨cJ,G,af,bad,cL,big,cM,li,sv,J,_⟩:=jJ Q;subst he;exact m2 (eJ J bu) Φ
     unfold ai at bw f1;rw[f1]at bw;have di:=Array.toList_inj.2 (Obj.cells.inj (Z4 bw)).1;have Q:=congrArg (λl=>l[3]?) di;simp at Q;simp at bY;rw[Q,bY]
    rw[dg,dh];rfl
theorem Rc{s:x1->x4->Prop}(h:aQ .i64 w sv l)(h1:∀z∈l,1<=z)(H:∀c:Int,(4096<c↔dM l=ms)->s (Δ c) w):
  cb (Δ 1) (Δ 0) w λx j a I=>
   ad x7 (aU .lss al ne ne j (Δ (l.length:Int))) a λJ=>
   Split J (cC (α:=x1->x4->Prop) (λ(K:x1)(y:x4)=>
    ad x7 (aU .add al ne ms j (Δ 1)) y λL=>
    I K L y) λA=>
   ad x7 (n9 aC sv j) a λM=>
   ad x7 (u4 ax M) a λB=>
   cC (α:=x1->x4->Prop) (λ(N:x1)(f:x4)=>
    ad x7 (aU .mul ax ne ne x N) f λC=>
    ad x7 (aU .gtr ax ne ms C (Δ 4096)) f λO=>
    Split O (A (Δ 4097) f)
     (A C f)) λE=>
   ad x7 (aU .gtr ax ne ms B (Δ 4096)) a λP=>
   Split P (E (Δ 4097) a)
    (E B a))
    (s x a):=by
 refine cb.range l.length (λi c U=>w=U/\∃p:Int,p=aX ((l.take i).map λk=>min k 4097)/\1<=p/\c=Δ (if 4096<p then 4097 else p)) h.le ⟨rfl,1,by simp[aX],Ω,by rw[m1 Ω]⟩ ?_ ?_
 .rintro i _ _ Q hi ⟨rfl,p,ae,R,rfl⟩ S;obtain⟨z,q⟩:=aK (l:=l) hi;have W:=h1 z (x6 q);have e:aX ((l.take (i+1)).map λk=>min k 4097)=p*min z 4097:=by
   rw[ae,u7,q,o8,Z2,List.map_cons,List.map_nil,Di]
  have X:p*1<=p*min z 4097:=Int.mul_le_mul_of_nonneg_left Ω Ω;refine bM Ω ?_;refine a1 (λv ab=>w=ab/\v=Δ (if 4096<p*min z 4097 then 4097 else p*min z 4097)) ?_ ?_
  .rintro _ _ ⟨rfl,rfl⟩;rw[aR];exact S _ _ ⟨rfl,_,e.symm,Ω,rfl⟩
  intro aA r;rw[bm aC.u ax.i Ψ h q];refine a1 (λv ab=>w=ab/\v=Δ (min z 4097)) ?_ ?_
  .rintro _ _ ⟨rfl,rfl⟩;rw[iv];by_cases F:4096<p
   .rw[lw F];have V:(4097:Int)*1<=4097*min z 4097:=Int.mul_le_mul_of_nonneg_left Ω Ω;rw[hx Ω Ω,bU,ao];refine⟨λ_=>r _ _ ⟨rfl,by rw[lw Ω]⟩,λY=>Ω⟩
   .rw[m1 F];have V:p*min z 4097<=4096*4097:=by
     have Z:=Int.mul_le_mul_of_nonneg_right (show p<=4096 by omega) (show 0<=min z 4097 by omega);have aa:=Int.mul_le_mul_of_nonneg_left (show min z 4097<=4097 by omega) (show(0:Int)<=4096 by omega);omega
    rw[hx Ω Ω,bU,ao];exact⟨λaw=>r _ _ ⟨rfl,by rw[lw aw]⟩,λaw=>r _ _ ⟨rfl,by rw[m1 aw]⟩⟩
  .intro ac G;rw[bU,ao];exact⟨λaw=>G _ _ ⟨rfl,by congr 1;omega⟩,λaw=>G _ _ ⟨rfl,by congr 1;omega⟩⟩
 .rintro _ _ Q ⟨rfl,p,ae,R,rfl⟩;rw[o6]at ae;rw[aW,ao];refine⟨λh=>Ω,λ_=>H _ ?_⟩;unfold dM;rw[<-ae,m6];split
  .exact⟨λ_=>Ω,λ_=>Ω⟩
  .exact Iff.rfl
theorem Re{g au:Nat}{H:ak}{so:Option aN}{Z:x4->Prop}(h:bZ w g B H N so)(C:aH .i64 ax w gz ho d6)(az:∀z∈d6,1<=z/\z<=aG)(bo:d6.length<=100001)(R:ai w au cr [.slice ν 0 0,Δ 0])(aA:B<=au)(ac:∀t I aV gt,t.length=d6.length->aj (λr=>r=g\/r=au\/w.heap.size<=r) w I->ai I au cr [aV,Δ 0]->aH .i64 ax I gt aV t->(∀r,hv aV r->w.heap.size<=r)->bZ I g B H N ((gG d6 [] so).map (·.2))->(∀q,gG d6 [] so=σ q->t=q.1)->Z I):
  b6 (Δ 0) w λS s aB=>
      ad x7 (aU .lss al ne ne S (Δ (d6.length:Int))) s λaD=>
      Split aD (ad x7 (n9 aC ho S) s λaE=>
      ad x7 (u4 ax aE) s λaF=>
      ad x7 (aU .sub ax ne ms aF (Δ 1)) s λaI=>
      aq x7 nE [Γ g,(Δ 0),aI] s λae E=>
      ad x7 (Z9 ae 0) E λaJ=>
      ad x7 (Z9 ae 1) E λbp=>
      ad x7 (u6 cr (Γ au) 0) E λaL=>
      ad x7 (u4 aC aL) E λaP=>
      aM x7 (Y3 aC 1 #[(0,aJ)]) E λaQ aS=>
      aM x7 (c9 #[aC,aC] aC #[aP,aQ]) aS λaT af=>
      ad x7 (u6 cr (Γ au) 0) af λaW=>
      aM x7 (o7 aC aW aT) af λ(_:Unit)ag=>
      ad x7 (aU .add al ne ms S (Δ 1)) ag λaX=>
      aB aX ag)
       (Z s):=by
 have bq:=R.lt;have br:=h.lt;refine b6.range d6.length (λj U=>∃t aV gt s1,t.length=j/\aj (λr=>r=g\/r=au\/w.heap.size<=r) w U/\ai U au cr [aV,Δ 0]/\aH .i64 ax U gt aV t/\(∀r,hv aV r->w.heap.size<=r)/\bZ U g B H N s1/\gG d6 [] so=gG (d6.drop j) t s1) C.ls.le
  ⟨[],_,0,so,rfl,aj.refl _ _,R,aH.nil _ _ _ _,(λr e=>by obtain⟨a,n,c,L,W⟩:=e;cases L),h,rfl⟩ ?_ ?_
 rotate_left
 .rintro U aZ ⟨t,aV,gt,s1,M,x,O,G,y,J,he⟩;refine cc Ω ?_;rw[List.drop_length]at he;cases s1 with
  |none=>
   have he:=he;exact ac t U aV gt M x O G y (by rw[he];exact J) (λq f=>by rw[he]at f;cases f)
  |some s1=>
   have he:=he;exact ac t U aV gt M x O G y (by rw[he];exact J) (λq f=>by rw[he]at f;cases f;rfl)
 rintro j U aZ ah ⟨t,aV,gt,s1,M,x,O,G,y,J,he⟩ a1;obtain⟨z,X⟩:=aK (l:=d6) ah;have a2:=az z (x6 X);have bt:z<=4611686018427387904:=a2.2;have a6:=bB C x λr e V=>by
  rcases V with rfl|rfl|V
  .obtain⟨a7,L,W,bad,a8,big,ba,li,sv,K,_⟩:=jJ h;exact cv C K Φ e rfl
  .exact cv C R Φ e rfl
  .obtain⟨L,W⟩:=b5 C e;omega
 refine bM Ω ?_;rw[bm aC.u ax.i Ψ a6.ls X,c5,hx Ω Ω];refine(me J).Y ?_;rintro _ ab _ ⟨⟨P,bb⟩,n,at_,rfl,bc,bu⟩;rw[bx,bz];have bd:au≠g:=Ω
 have am:=O.aa P λhe=>bd he;have be:∃c,ai U g bO c:=by obtain⟨a7,L,W,bad,a8,big,ba,li,sv,K,_⟩:=jJ J;exact⟨_,K⟩
 have an:=bB G P λr e he=>by
  have he:r=g:=he;obtain⟨c,K⟩:=be;exact cv G K Φ e he
 rw[aO cr.p 0 am rfl];refine eI aC.u ax.i rfl λa3 bw bf bA A bg=>?_;refine iF aC.u ax.i rfl (an.W A) bg.ls Θ Θ λbh bi bC Q bj ao=>?_;have ap:=am.W A;have av:=ap.aa ao λhe=>cv (an.W A) ap Φ he rfl;rw[aY cr.p rfl];refine bs (g:=au) (o:=0) aC.i Q.ls.cells.1 Q.ls.cells.2 av Ξ λbl aw bD Y=>?_;have Y:=Y;rw[aR];have ay:aj (λr=>hv aV r\/r=au) bf bl:=(ao.Y λr _ h=>.inl h).F (aw.Y λr _ h=>.inr h);have bE:=x.size;have bF:=P.size;have z3:=A.size;refine a1 _ ⟨t++[n],bh,bi,(bk 0 (z-1) s1).map (·.2),by simp[M],?_,Y,bB Q aw λr e he=>?_,λr e=>?_,?_,?_⟩
 .refine (x.F (P.Y λr _ h=>.inl h)).F ((A.aa _).F (ay.Y λr _ h=>?_));exact h.elim (λh=>.inr (.inr (y r h))) λh=>.inr (.inl h)
 .have he:r=au:=he;subst he;exact cv Q av Φ e rfl
 .rcases bj r e with h|h
  .exact y r h
  .omega
 .refine (bb.W A).new ay λr e=>?_;rcases e with e|rfl
  .have:=y r e;omega
  .exact aA
 .rw[he];have bn:d6.drop j=z::d6.drop (j+1):=by rw[Y8 ah,(x5.1 X).2]
  rw[bn,DQ];cases f:bk 0 (z-1) s1 with
  |none=>rfl
  |some q=>
   obtain⟨v,bG⟩:=q;have:=bc _ f;subst this;rfl
theorem yP{g:Nat}{v:x1}(h:aH .i64 ax w g v t):∀u∈p6 ⟨v,t,c⟩,u.oneCell'=ms:=by
 intro u hu;simp[p6]at hu;rcases hu with rfl|rfl
 .exact h.ls.cells.2
 .rfl
def Rf(d6:Λ)(cnt i:Nat)(s0:aN)(A:List (Λ×Int))(so:Option aN):Prop:=(∃s,so=σ s/\c6 (eX d6) cnt [] s0=c6 (eX d6) (cnt-i) A s/\A.length+s.d9.length<=100000)\/(so=ν/\c6 (eX d6) cnt [] s0=ν)
theorem Rg{g J g1 a8 W:Nat}{H:ak}{s0:aN}{aZ cu:x1}{scope:Λ}{o:Int}{ay:List (Λ×Int)}{bW:x4->Prop}(h:bZ w g B H N (σ s0))(f1:ai w J bj [aZ,ho,Δ o,cu])(f2:aH .i64 ax w g1 aZ scope)(f3:aH .i64 ax w a8 ho d6)(f4:md w W cu ay)(f5:∀r,hv aZ r\/hv ho r->B<=r)(f6:∀r,hv aZ r->¬hv ho r)(f7:B<=J)(cT:∀z∈d6,1<=z/\z<=aG)(cU:d6.length<=100001)(eR:n<=4611686018427387904)(bo:0<n->ay=[]/\∀r,¬hp cu r)(cV:s0.d9.length<=100000)(bX:∀I A bp,aj (iV g B) w I->iU I B J ⟨scope,d6,o,A⟩->bZ I g B H N bp->(n<=0->A=ay/\bp=σ s0)->(0<n->bp=(c6 (eX d6) n.toNat [] s0).map (·.2)/\∀q,c6 (eX d6) n.toNat [] s0=σ q->A=q.1)->bW I):
  b6 (Δ 0) w λbY Y cW=>
     cC (α:=x1->x4->Prop) (λ(cX:x1)(b1:x4)=>
      Split cX (aM x7 (R4 cr ms (.tuple #[])) b1 λx X=>
     ad x7 (u6 bj (Γ J) 1) X λcY=>
     ad x7 (u4 aC cY) X λb2=>
     ad x7 (W7 #[aC] al #[b2]) X λc0=>
     b6 (Δ 0) X λbq Z c1=>
      ad x7 (aU .lss al ne ne bq c0) Z λc2=>
      Split c2 (ad x7 (n9 aC b2 bq) Z λc3=>
      ad x7 (u4 ax c3) Z λc4=>
      ad x7 (aU .sub ax ne ms c4 (Δ 1)) Z λc5=>
      aq x7 nE [Γ g,(Δ 0),c5] Z λb3 az=>
      ad x7 (Z9 b3 0) az λc7=>
      ad x7 (Z9 b3 1) az λeS=>
      ad x7 (u6 cr x 0) az λc8=>
      ad x7 (u4 aC c8) az λda=>
      aM x7 (Y3 aC 1 #[(0,c7)]) az λdb dc=>
      aM x7 (c9 #[aC,aC] aC #[da,db]) dc λdd b4=>
      ad x7 (u6 cr x 0) b4 λde=>
      aM x7 (o7 aC de dd) b4 λ(_:Unit)b5=>
      ad x7 (aU .add al ne ms bq (Δ 1)) b5 λdf=>
      c1 df b5)
       (aq x7 nE [Γ g,(Δ 0),(Δ 4611686018427387904)] Z λb7 G=>
     ad x7 (Z9 b7 0) G λdg=>
     ad x7 (Z9 b7 1) G λdh=>
     ad x7 (u6 bj (Γ J) 3) G λdi=>
     ad x7 (u4 ew di) G λb9=>
     ad x7 (W7 #[ew] al #[b9]) G λdj=>
     b6 (Δ 0) G λbt K dk=>
      ad x7 (aU .lss al ne ne bt dj) K λdl=>
      Split dl (cC (α:=x4->Prop) (λ(ap:x4)=>
       ad x7 (aU .add al ne ms bt (Δ 1)) ap λdm=>
       dk dm ap) λca=>
      ad x7 (n9 ew b9 bt) K λdp=>
      ad x7 (u4 cr dp) K λdq=>
      aM x7 (R4 cr ms (.tuple #[])) K λy cb=>
      aM x7 (o7 cr y dq) cb λ(_:Unit)O=>
      cC (α:=x1->x4->Prop) (λ(dr:x1)(aB:x4)=>
       Split dr (aq x7 pu [Γ g,(Δ 4),dh] aB λeU cd=>
        ca cd)
        (ca aB)) λce=>
      ad x7 (b0 (Γ g)) O λds=>
      ad x7 (u6 bO ds 3) O λdt=>
      ad x7 (u4 al dt) O λdu=>
      ad x7 (aU .eql al ne ms du (Δ 0)) O λdv=>
      Split dv (ad x7 (u6 cr x 0) O λdw=>
       ad x7 (u4 aC dw) O λdx=>
      ad x7 (u6 cr y 0) O λdy=>
      ad x7 (u4 aC dy) O λdz=>
      aq x7 ue [dx,dz] O λdA cg=>
      ce dA cg)
       (ce (.bool ne) O))
       (ad x7 (u6 cr x 1) K λdC=>
     aM x7 (o7 ax dC dg) K λ(_:Unit)ac=>
     ad x7 (u6 bj (Γ J) 3) ac λdD=>
     ad x7 (u4 ew dD) ac λdE=>
     ad x7 (u4 cr x) ac λdF=>
     aM x7 (Y3 ew 1 #[(0,dF)]) ac λdG ba=>
     aM x7 (c9 #[ew,ew] ew #[dE,dG]) ba λdH bw=>
     ad x7 (u6 bj (Γ J) 3) bw λdI=>
     aM x7 (o7 ew dI dH) bw λ(_:Unit)af=>
     ad x7 (aU .add ax ne ms bY (Δ 1)) af λdJ=>
     cW dJ af)))
       (bW b1)) λch=>
     ad x7 (aU .lss ax ne ne bY (Δ n)) Y λdK=>
     Split dK (ad x7 (b0 (Γ g)) Y λdL=>
     ad x7 (u6 bO dL 3) Y λdM=>
     ad x7 (u4 al dM) Y λdN=>
     ad x7 (aU .eql al ne ms dN (Δ 0)) Y λdP=>
     ch dP Y)
      (ch (.bool ne) Y):=by
 have dQ:=h.lt;refine b6.range n.toNat (λi U=>∃A so cu W,aj (iV g B) w U/\ai U J bj [aZ,ho,Δ o,cu]/\aH .i64 ax U g1 aZ scope/\aH .i64 ax U a8 ho d6/\md U W cu A/\(0<n->∀r,hp cu r->B<=r)/\bZ U g B H N so/\(n<=0->A=ay/\so=σ s0)/\(0<n->Rf d6 n.toNat i s0 A so)) Ω
  ⟨ay,σ s0,cu,W,aj.refl _ _,f1,f2,f3,f4,λae r C=>m2 C ((bo ae).2 r),h,λ_=>⟨rfl,rfl⟩,λae=>.inl ⟨s0,rfl,by rw[(bo ae).1];rfl,by rw[(bo ae).1];simpa using cV⟩⟩ ?_ ?_
 rotate_left
 .rintro U k ⟨A,so,cu,W,aE,av,bb,aF,aI,bA,ag,ci,E⟩;refine a1 (λv ab=>U=ab/\v= .bool ne) ?_ ?_
  .rintro _ _ ⟨rfl,rfl⟩;rw[a6];refine bX U A so aE ⟨aZ,ho,cu,g1,a8,W,av,bb,aF,aI,f5,f6,f7⟩ ag ci λae=>?_;rcases E ae with⟨s,rfl,he,_⟩|⟨rfl,he⟩
   .rw[V8]at he;rw[he];exact⟨rfl,λq M=>by cases M;rfl⟩
   .rw[he];exact⟨rfl,λq M=>by cases M⟩
  .intro aA bD;rw[aW,ao];exact⟨λh=>Ω,λ_=>bD _ _ ⟨rfl,rfl⟩⟩
 rintro i U k hi ⟨A,so,cu,W,aE,av,bb,aF,aI,bA,ag,ci,E⟩ hk;have ae:0<n:=Ω
 refine a1 (λv ab=>U=ab/\v= .bool so.isSome) ?_ ?_
 rotate_left
 .intro aA bD;refine bM Ω ?_;rw[nc ag];exact bD _ _ ⟨rfl,rfl⟩
 rintro _ _ ⟨rfl,rfl⟩;rcases E ae with⟨eK,rfl,he,eV⟩|⟨rfl,he⟩
 rotate_left
 .rw[S6,a6];refine bX U A ν aE ⟨aZ,ho,cu,g1,a8,W,av,bb,aF,aI,f5,f6,f7⟩ ag (λh=>Ω) λ_=>?_;rw[he];exact⟨rfl,λq M=>by cases M⟩
 rw[T8,bK];have eW:=ag.lt;refine bC cr.i λau X eY aJ bE=>?_;have bE:ai X au cr [.slice ν 0 0,Δ 0]:=bE;have dR:=av.W aJ;have cj:=aF.W aJ;have eZ:=aJ.size;have e1:=av.lt;rw[aY bj.p rfl,aD Ψ (dR.cell rfl),a7 aC.u cj.ls];refine Re (ag.W aJ) cj cT cU bE Ω λt Z aV gt e2 dT dU dV dW dY dZ=>?_;refine(me dY).Y ?_;rintro _ G _ ⟨⟨bG,bc⟩,c,at_,rfl,ea,e3⟩;rw[bx,bz];have bH:au≠g:=Ω
 have ck:J≠g:=by have:=h.lt;omega
 have eb:aj (λr=>r=g\/r=au\/X.heap.size<=r) X G:=dT.F (bG.Y λr _ h=>.inl h);have cl:∀{S:Nat->Prop},(∀r,S r->r=g\/U.heap.size<=r)->∀r,S r->iT U r\/U.heap.size<=r:=λec r C=>(ec r C).imp (λhe=>by
  subst he;obtain⟨cm,aL,aP,bad,cn,big,cp,li,sv,E,_⟩:=jJ ag;exact⟨_,_,E,Φ,Φ⟩) id
 have bd:aj (λr=>r=g\/U.heap.size<=r) U G:=(aJ.aa _).F (eb.Y λr _ h=>h.elim .inl λh=>h.elim (λh=>.inr Ω) λh=>.inr Ω);have cq:=av.aa bd λh=>h.elim ck λh=>Ω
 obtain⟨L,be,ct,bI⟩:=aI.dX bd (cl λr C=>C);have cz:=dU.aa bG λhe=>bH he;have cA:=bB dV bG λr C he=>by
  have he:r=g:=he;have:=dW r C;omega
 have e4:L.length=A.length:=by rw[<-bI,u9]
 rw[aO bj.p 3 cq rfl,dO ew.u be];generalize cB:(bk 0 4611686018427387904 (V9 (λx=>x.snd) (gG d6 [] (σ eK)))).map (·.2)=ah at bc;have e5:=bd.size;refine b6.range L.length (λj K=>aj (λr=>r=g) G K/\bZ K g B H N (if t∈(L.take j).map (·.t)then ν else ah)) be.le ⟨aj.refl _ _,by simpa using bc⟩ ?_ ?_
 .rintro j K ed cD ⟨P,aQ⟩ ee;obtain⟨y,Q⟩:=aK (l:=L) cD;have bJ:∃c,ai G g bO c:=by obtain⟨cm,aL,aP,bad,cn,big,cp,li,sv,E,_⟩:=jJ bc;exact⟨_,E⟩
  have am:∀r,r=g->iT G r\/G.heap.size<=r:=λr C=>by
   subst C;obtain⟨c,E⟩:=bJ;exact .inl ⟨_,c,E,Φ,Φ⟩
  have bf:=yN be P λr C=>(am r C).imp (λ⟨e,c,E,_,aS⟩=>⟨e,c,E,aS⟩) id;obtain⟨e6,ef⟩:=ct y (x6 Q);have cE:=e0 ef P am;have bL:=e0 cA P am;have bg:=cz.aa P λhe=>bH he;refine bM Ω ?_;have bN:t∈(L.take (j+1)).map (·.t)↔t∈(L.take j).map (·.t)\/t=y.t:=by
   rw[u7,Q,o8,Z2,j5];simp
  refine cZ (λap=>aj (λr=>r=g) G ap/\bZ ap g B H N (if t∈(L.take (j+1)).map (·.t)then ν else ah)) ?_ ?_
  .rintro ap eg;rw[aR];exact ee _ eg
  intro e7 cF;rw[cf rfl ew.u cr.i bf cD,bF cr.p cr.i rfl (bf.range Q)];refine bC cr.i λgy cb e8 eh ei=>?_;refine b8 (vs:=p6 y) cr.i rfl rfl (yP cE) ei λO ek e9 em=>?_;have aT:=eh.put ek Ω;have cG:=aQ.W aT;have cH:aj (λr=>r=g) G O:=P.F (aT.aa _);refine a1 (λv aB=>∃b:Bool,v= .bool b/\Ext O aB/\(b=ms->t=y.t)/\(b=ne->t≠y.t\/(if t∈(L.take j).map (·.t)then ν else ah)=ν)) ?_ ?_
  .rintro _ aB ⟨b,rfl,bP,en,eo⟩;have an:=cG.W bP;cases b with
   |true=>
    rw[bK];refine(p7 an Ω).Y ?_;rintro _ cd _ ⟨ep,er⟩;refine cF _ ⟨(cH.F (bP.aa _)).F ep,?_⟩;rw[lw (bN.2 (.inr (en rfl)))];exact er
   |false=>
    rw[a6];refine cF _ ⟨cH.F (bP.aa _),?_⟩;by_cases hm:t∈(L.take j).map (·.t)
    .rw[lw (bN.2 (.inl hm))];rw[lw hm]at an;exact an
    .rw[m1 hm]at an;rcases eo rfl with aS|cI
     .rw[m1 (λh=>(bN.1 h).elim hm aS)];exact an
     .rw[m1 hm]at cI;rw[cI]at an ⊢;split<;>exact an
  .intro fa cJ;rw[nc cG];cases aX:(if t∈(L.take j).map (·.t)then ν else ah)with
   |none=>
    rw[S6,a6];exact cJ _ _ ⟨ne,rfl,Ext.refl _,(λh=>by cases h),λ_=>.inr aX⟩
   |some fb=>
    rw[T8,bK];have es:=bg.W aT;rw[aO cr.p 0 es rfl,aO cr.p 0 em rfl];refine(yO (bL.ls.W aT) (cE.ls.W aT)).Y ?_;rintro _ cg _ ⟨rfl,et⟩;exact cJ _ _ ⟨_,rfl,et,λh=>m7 h,λh=>.inl (of_decide_eq_false h)⟩
 .rintro K ed ⟨P,aQ⟩;rw[o6]at aQ;have eu:L.map (·.t)=A.map (·.1):=by rw[<-bI,T7];rfl
  rw[eu]at aQ;have bJ:∃c,ai G g bO c:=by obtain⟨cm,aL,aP,bad,cn,big,cp,li,sv,E,_⟩:=jJ bc;exact⟨_,E⟩
  have am:∀r,r=g->iT G r\/G.heap.size<=r:=λr C=>by
   subst C;obtain⟨c,E⟩:=bJ;exact .inl ⟨_,c,E,Φ,Φ⟩
  have cK:∀r,(r=g\/U.heap.size<=r)->iT U r\/U.heap.size<=r:=cl λr C=>C;have bh:aj (λr=>r=g\/U.heap.size<=r) U K:=bd.F (P.Y λr _ h=>.inl h);have ev:=cq.aa P λhe=>ck he;have ey:=e0 bb bh cK;have ez:=e0 aF bh cK;have bf:=yN be P λr C=>(am r C).imp (λ⟨e,c,E,_,aS⟩=>⟨e,c,E,aS⟩) id;have eA:∀y∈L,∃gy,aH .i64 ax K gy y.v y.t:=λy Q=>by
   obtain⟨gy,hm⟩:=ct y Q;exact⟨gy,e0 hm P am⟩
  have bL:=e0 cA P am;have bg:=cz.aa P λhe=>bH he;refine cc Ω ?_;rw[aY cr.p rfl];refine bs (g:=au) (o:=1) ax.i rfl rfl bg Ξ λac aw fc bQ=>?_;have bQ:=bQ;have eB:J≠au:=Ω
  have cL:=ev.aa aw λhe=>eB he;have fd:U.heap.size<=au:=Ω
  have eC:∀r,hp cu r->r≠au:=λr C=>by obtain⟨aL,aP⟩:=aI.choose_spec.1.hv C;omega
  have eD:=bf.aa aw λr C he=>eC r C he;rw[aO bj.p 3 cL rfl,bF cr.p cr.i rfl bQ.range];let a:yM:=⟨aV,t,c⟩;have bi:∀{v:x1}{a2:Nat}{l:Λ},aH .i64 ax K a2 v l->aH .i64 ax ac a2 v l:=λhm=>bB hm aw λr C he=>by
   have he:r=au:=he;exact cv hm bg Φ C he
  have cM:=bi bL;refine jk (f:=p6) (a:=a) ew.u cr.i Ω rfl rfl λv45 fe ba ff R eE=>?_;have bR:=eD.W R;refine jH (f:=p6) (a:=a) ew.u cr.i rfl bR (by simpa using eE.sl) (yP (cM.W R)) Ω Ω λcN cO bw bl eF cP=>?_;have bS:=cL.W R;have cQ:=bS.aa cP λhe=>cw bR bS Φ he;rw[aY bj.p rfl];refine bs (g:=J) (o:=3) ew.i (dn bl.sl).1 (dn bl.sl).2 cQ Ξ λaf cR fg bT=>?_;have bT:=bT;rw[aR];have bU:aj (λr=>hp cu r\/r=J) ba af:=(cP.Y λr _ h=>.inl h).F (cR.Y λr _ h=>.inr h);have bm:∀{v:x1}{a2:Nat}{l:Λ},aH .i64 ax ba a2 v l->aH .i64 ax af a2 v l:=λhm=>bB hm bU λr C V=>by
   rcases V with V|rfl
   .obtain⟨rfl,fh,E⟩:=ej bR V;exact cv hm E Φ C rfl
   .exact cv hm bS Φ C rfl
  have cS:∀r,(hp cu r\/r=J)->B<=r:=λr C=>C.elim (λC=>bA ae r C) λC=>C▸f7;have eH:bZ ac g B H N (if t∈A.map (·.1)then ν else ah):=aQ.new aw λr C=>by
   have C:r=au:=C;omega
  have eI:=(eH.W R).new bU cS;have eJ:aj (iV g B) U af:=((bh.Y λr _ h=>h.elim .inl λh=>.inr Ω).F (aw.Y λr _ h=>.inr (by have h:r=au:=h;omega))).F ((R.aa _).F (bU.Y λr _ h=>.inr (cS r h)));have eL:md af cO cN (A++[(t,c)]):=⟨L++[a],bl.aa cR λr C he=>by
   have he:r=J:=he;subst he;exact cw bl cQ Φ C,λy Q=>by
   rcases j5.1 Q with Q|Q
   .obtain⟨gy,hm⟩:=eA y Q;exact⟨gy,bm ((bi hm).W R)⟩
   .rw[Z7.1 Q];exact⟨gt,bm (cM.W R)⟩,by rw[Z2,bI];rfl⟩
  refine hk _ ⟨A++[(t,c)],_,cN,cO,aE.F eJ,bT,bm ((bi ey).W R),bm ((bi ez).W R),eL,λ_ r C=>?_,eI,λh=>Ω,λ_=>?_⟩
  .rcases eF r C with h|h
   .exact bA ae r h
   .have:=aE.size;have:=bh.size;have:=aw.size;have:=R.size;have:=dQ.2;omega
  .have eM:n.toNat-i=(n.toNat-(i+1))+1:=Ω
   rw[eM]at he;obtain⟨eN,eO⟩:=DU dZ ea;cases M:bk 0 aG ((gG d6 [] (σ eK)).map (·.2))with
   |none=>
    have aX:ah=ν:=by rw[<-cB];show(bk 0 aG _).map _=ν;rw[M];rfl
    rw[q5 (eN M)]at he;refine .inr ⟨?_,he⟩;rw[aX];split<;>rfl
   |some q=>
    have aX:ah=σ q.2:=by rw[<-cB];show(bk 0 aG _).map _=_;rw[M];rfl
    have bn:=eO q M;by_cases hm:t∈A.map (·.1)
    .rw[lw hm]at bn;rw[q5 bn]at he;exact .inr ⟨by rw[lw hm],he⟩
    .rw[m1 hm]at bn;rw[uP bn]at he;refine .inl ⟨q.2,by rw[m1 hm,aX],he,?_⟩;cases bV:gG d6 [] (σ eK)with
     |none=>rw[bV]at M;cases M
     |some p=>
      rw[bV]at M;obtain⟨bu,s1⟩:=p;have aL:=bV;obtain⟨u,_,_,eP⟩:=xS aL;have aP:br 0 aG s1=σ q:=M;obtain⟨fi,fj⟩:=q;have eQ:=dS aP;have:=eP.1;have:=eQ.1;rw[o4];simp only[S1];omega
def lE(s:aN):Prop:=s.big=ne->0<=s.li/\s.li<=16384
def lF(e:Bool)(ar:Nat)(scope d6:Λ)(f:Option aN):Option (cE×aN):=match bk 0 aG (f.map (bp (decide (6<ar)||dM d6)))with
 |none=>ν
 |some (other,h)=>match eh d6 h with
  |none=>ν
  |some (lines,a)=>σ (⟨scope,d6,other,lines⟩,if e=ms then{a with lm:=a.lm++[(d6,lines)]}else a)
theorem Fl{s s':aN}{l:List (Λ×Int)}(h:eh d6 s=σ (l,s')):s'.d9.length+1<=s.d9.length/\s'.lm=s.lm:=by
 unfold eh at h;cases e:br (-aG) aG s with
 |none=>rw[e]at h;cases h
 |some q=>
  obtain⟨n,s1⟩:=q;have j:=dS e;have z:=j.1;have r:=j.eqs.2.2;rw[e]at h;simp only at h;split at h
  .split at h
   .cases h
   .split at h
    .cases h;exact⟨Ω,r⟩
    .cases h
  .have bg:=h;have:=mQ (λ_ t=>t.d9.length<=s1.d9.length/\t.lm=s1.lm) (λacc t a bu w y=>by
    obtain⟨_,_,_,x⟩:=q2 y;have h1:=x.1;have f:=x.eqs.2.2;exact⟨by have:=w.1;omega,f.F w.2⟩) n.toNat [] (bp (decide (16384<min (s1.li+n) aG)) {s1 with li:=min (s1.li+n) aG}) l s' ⟨p9 _,rfl⟩ bg
   obtain⟨⟨h1,f⟩,_⟩:=this;exact⟨Ω,f.F r⟩
theorem vE{g:Nat}{H:ak}{s:aN}(h:bZ w g B H N (σ s)):s.d9.length<=100000/\s.lm.length+s.d9.length<=100000:=by
 obtain⟨j,w0,q,r,gs,sv,L,X,x,y,bad,z,big,A,li,h1,C,E,F,e,G,I,J,K,M,O,a,P,f,Q⟩:=h;have R:=e.2.2.1;refine⟨by rw[<-a,u9];omega,by rw[<-a,<-f,u9,u9];omega⟩
def Fm(w:x4)(g h B:Nat)(H:ak)(e:Option (cE×aN))(v:x1)(I:x4):Prop:=∃f x a,aj (λr=>r=g\/H r\/r=h\/B<=r) w I/\v= .agg (fW f).toArray/\iH I f x/\bZ I g I.heap.size a 100001 (e.map (·.2))/\(∀q,e=σ q->x=q.1)/\(∀r,H r->a r)/\(∀r,a r->H r\/B<=r)/\∀r,a r->r<I.heap.size
theorem Fo{g E ar:Nat}{H:ak}{R:Option aN}{bd:Bool}{dz:Int}{scope:Λ}{Q:x1->x4->Prop}(h:bZ w g B H 100000 R)(dA:iU w B E ⟨scope,d6,0,[]⟩)(fk:∀c,ai w E bj c->c[3]?=σ (.slice ν 0 0))(dC:∀z∈d6,1<=z/\z<=aG)(fm:d6.length<=100001)(dD:ai w N bj [.slice ν 0 0,.slice ν 0 0,Δ 0,.slice ν 0 0])(jx:N<B)(cH:¬H N)(cI:∀r,H r->r<B)(fo:∀ap,R=σ ap->lE ap)(fp:∀v I,Fm w g N B H (lF bd ar scope d6 R) v I->Q v I):
  ad x7 (u6 bj (Γ E) 1) w λfq=>
  ad x7 (u4 aC fq) w λdE=>
  ad x7 (W7 #[aC] al #[dE]) w λfs=>
  cb (Δ 1) (Δ 0) w λdF cY az ft=>
   ad x7 (aU .lss al ne ne cY fs) az λfu=>
   Split fu (cC (α:=x1->x4->Prop) (λ(fv:x1)(dG:x4)=>
    ad x7 (aU .add al ne ms cY (Δ 1)) dG λfw=>
    ft fv fw dG) λdH=>
   ad x7 (n9 aC dE cY) az λfx=>
   ad x7 (u4 ax fx) az λdI=>
   cC (α:=x1->x4->Prop) (λ(fy:x1)(cJ:x4)=>
    ad x7 (aU .mul ax ne ne dF fy) cJ λdJ=>
    ad x7 (aU .gtr ax ne ms dJ (Δ 4096)) cJ λfz=>
    Split fz (dH (Δ 4097) cJ)
     (dH dJ cJ)) λdK=>
   ad x7 (aU .gtr ax ne ms dI (Δ 4096)) az λfA=>
   Split fA (dK (Δ 4097) az)
    (dK dI az))
    (cC (α:=x4->Prop) (λ(bW:x4)=>
   aq x7 nE [(Γ g),(Δ 0),(Δ 4611686018427387904)] bW λdN bC=>
   ad x7 (Z9 dN 0) bC λfB=>
   ad x7 (Z9 dN 1) bC λjy=>
   ad x7 (u6 bj (Γ E) 2) bC λfD=>
   aM x7 (o7 ax fD fB) bC λ(_:Unit)be=>
   aq x7 nE [(Γ g),(Δ (-4611686018427387904)),(Δ 4611686018427387904)] be λdP O=>
   ad x7 (Z9 dP 0) O λbD=>
   ad x7 (Z9 dP 1) O λdQ=>
   ad x7 (b0 (Γ g)) O λfE=>
   ad x7 (u6 bO fE 3) O λfF=>
   ad x7 (u4 al fF) O λfG=>
   ad x7 (aU .neq al ne ms fG (Δ 0)) O λfH=>
   Split fH (ad x7 (u4 bj (Γ E)) O λbX=>
    aM x7 (o7 bj (Γ N) bX) O λ(_:Unit)bf=>
    ad x7 (do loadVar bj (<-asAddr (Γ N))) bf λbY=>
 Q bY bf)
    (cC (α:=x4->Prop) (λ(aQ:x4)=>
    b6 (Δ 0) aQ λdR bn fI=>
     cC (α:=x1->x4->Prop) (λ(fJ:x1)(b1:x4)=>
      Split fJ (aM x7 (R4 cr ms (.tuple #[])) b1 λx cL=>
     ad x7 (u6 bj (Γ E) 1) cL λfK=>
     ad x7 (u4 aC fK) cL λdT=>
     ad x7 (W7 #[aC] al #[dT]) cL λfL=>
     b6 (Δ 0) cL λc0 bG fM=>
      ad x7 (aU .lss al ne ne c0 fL) bG λfN=>
      Split fN (ad x7 (n9 aC dT c0) bG λfO=>
      ad x7 (u4 ax fO) bG λfP=>
      ad x7 (aU .sub ax ne ms fP (Δ 1)) bG λfQ=>
      aq x7 nE [(Γ g),(Δ 0),fQ] bG λdU b2=>
      ad x7 (Z9 dU 0) b2 λfR=>
      ad x7 (Z9 dU 1) b2 λjz=>
      ad x7 (u6 cr x 0) b2 λfS=>
      ad x7 (u4 aC fS) b2 λfU=>
      aM x7 (Y3 aC 1 #[(0,fR)]) b2 λfV fX=>
      aM x7 (c9 #[aC,aC] aC #[fU,fV]) fX λfY dV=>
      ad x7 (u6 cr x 0) dV λfZ=>
      aM x7 (o7 aC fZ fY) dV λ(_:Unit)dW=>
      ad x7 (aU .add al ne ms c0 (Δ 1)) dW λgb=>
      fM gb dW)
       (aq x7 nE [(Γ g),(Δ 0),(Δ 4611686018427387904)] bG λdY bH=>
     ad x7 (Z9 dY 0) bH λgc=>
     ad x7 (Z9 dY 1) bH λgd=>
     ad x7 (u6 bj (Γ E) 3) bH λgf=>
     ad x7 (u4 ew gf) bH λdZ=>
     ad x7 (W7 #[ew] al #[dZ]) bH λgg=>
     b6 (Δ 0) bH λc1 bI gh=>
      ad x7 (aU .lss al ne ne c1 gg) bI λgi=>
      Split gi (cC (α:=x4->Prop) (λ(ea:x4)=>
       ad x7 (aU .add al ne ms c1 (Δ 1)) ea λgj=>
       gh gj ea) λeb=>
      ad x7 (n9 ew dZ c1) bI λgl=>
      ad x7 (u4 cr gl) bI λgm=>
      aM x7 (R4 cr ms (.tuple #[])) bI λy gn=>
      aM x7 (o7 cr y gm) gn λ(_:Unit)aB=>
      cC (α:=x1->x4->Prop) (λ(gp:x1)(ec:x4)=>
       Split gp (aq x7 pu [(Γ g),(Δ 4),gd] ec λjA gq=>
        eb gq)
        (eb ec)) λed=>
      ad x7 (b0 (Γ g)) aB λgu=>
      ad x7 (u6 bO gu 3) aB λgv=>
      ad x7 (u4 al gv) aB λgw=>
      ad x7 (aU .eql al ne ms gw (Δ 0)) aB λgx=>
      Split gx (ad x7 (u6 cr x 0) aB λgA=>
       ad x7 (u4 aC gA) aB λgB=>
      ad x7 (u6 cr y 0) aB λgC=>
      ad x7 (u4 aC gC) aB λgD=>
      aq x7 ue [gB,gD] aB λgE gH=>
      ed gE gH)
       (ed (.bool ne) aB))
       (ad x7 (u6 cr x 1) bI λgI=>
     aM x7 (o7 ax gI gc) bI λ(_:Unit)cM=>
     ad x7 (u6 bj (Γ E) 3) cM λgJ=>
     ad x7 (u4 ew gJ) cM λgK=>
     ad x7 (u4 cr x) cM λgL=>
     aM x7 (Y3 ew 1 #[(0,gL)]) cM λgM gN=>
     aM x7 (c9 #[ew,ew] ew #[gK,gM]) gN λgO ee=>
     ad x7 (u6 bj (Γ E) 3) ee λgP=>
     aM x7 (o7 ew gP gO) ee λ(_:Unit)ef=>
     ad x7 (aU .add ax ne ms dR (Δ 1)) ef λgQ=>
     fI gQ ef)))
       (cC (α:=x4->Prop) (λ(ag:x4)=>
     ad x7 (u4 bj (Γ E)) ag λgR=>
     aM x7 (o7 bj (Γ N) gR) ag λ(_:Unit)eg=>
     ad x7 (do loadVar bj (<-asAddr (Γ N))) eg λgS=>
 Q gS eg) λei=>
    Split (.bool bd) (eP b1 λau=>
     ad x7 (b0 (Γ g)) au λc2=>
     ad x7 (u6 bO c2 8) au λc3=>
     ad x7 (u4 dL c3) au λek=>
     ad x7 (u4 bj (Γ E)) au λgT=>
     aM x7 (Y3 dL 1 #[(0,gT)]) au λgU aS=>
     (Ext au aS\/cK x7 (u4 dL c3) ek aS/\cK x7 (u6 bO c2 8) c3 aS/\cK x7 (b0 (Γ g)) c2 aS/\True)/\
     aM x7 (c9 #[dL,dL] dL #[ek,gU]) aS λgV cN=>
      ad x7 (b0 (Γ g)) cN λgW=>
      ad x7 (u6 bO gW 8) cN λgX=>
      aM x7 (o7 dL gX gV) cN λ(_:Unit)bo=>
      ei bo)
     (ei b1))) λem=>
     ad x7 (aU .lss ax ne ne dR bD) bn λgY=>
     Split gY (ad x7 (b0 (Γ g)) bn λgZ=>
     ad x7 (u6 bO gZ 3) bn λg0=>
     ad x7 (u4 al g0) bn λg2=>
     ad x7 (aU .eql al ne ms g2 (Δ 0)) bn λg3=>
     em g3 bn)
      (em (.bool ne) bn)) λen=>
   ad x7 (aU .lss ax ne ms bD (Δ 0)) O λg4=>
   Split g4 (cC (α:=x1->x4->Prop) (λ(g5:x1)(Z:x4)=>
     Split g5 (aq x7 pu [(Γ g),(Δ 4),dQ] Z λjB c4=>
     ad x7 (u4 bj (Γ E)) c4 λg6=>
     aM x7 (o7 bj (Γ N) g6) c4 λ(_:Unit)eo=>
     ad x7 (do loadVar bj (<-asAddr (Γ N))) eo λg7=>
 Q g7 eo)
     (ad x7 (b0 (Γ g)) Z λg8=>
    ad x7 (u6 bO g8 8) Z λg9=>
    ad x7 (u4 dL g9) Z λha=>
    ad x7 (Op.unary .neg bD) Z λhb=>
    ad x7 (aU .sub ax ne ms hb (Δ 1)) Z λhc=>
    ad x7 (n9 dL ha hc) Z λhd=>
    ad x7 (u6 bj hd 3) Z λhg=>
    ad x7 (u4 ew hg) Z λhh=>
    ad x7 (u6 bj (Γ E) 3) Z λhj=>
    aM x7 (o7 ew hj hh) Z λ(_:Unit)ep=>
    en ep)) λer=>
    eP O λP=>
    ad x7 (Op.unary .neg bD) P λhl=>
    ad x7 (b0 (Γ g)) P λhn=>
    ad x7 (u6 bO hn 8) P λhq=>
    ad x7 (u4 dL hq) P λhr=>
    ad x7 (W7 #[dL] al #[hr]) P λhs=>
    ad x7 (aU .gtr ax ne ne hl hs) P λht=>
    Split ht (er (.bool ms) P)
    (ad x7 (b0 (Γ g)) P λhy=>
    ad x7 (u6 bO hy 8) P λhz=>
    ad x7 (u4 dL hz) P λhA=>
    ad x7 (Op.unary .neg bD) P λhB=>
    ad x7 (aU .sub ax ne ms hB (Δ 1)) P λhC=>
    ad x7 (n9 dL hA hC) P λhD=>
    ad x7 (u6 bj hD 1) P λhE=>
    ad x7 (u4 aC hE) P λhF=>
    ad x7 (u6 bj (Γ E) 1) P λhG=>
    ad x7 (u4 aC hG) P λhH=>
    aq x7 ue [hF,hH] P λhI c7=>
    ad x7 (Op.unary .not hI) c7 λhJ=>
    er hJ c7))
    (ad x7 (b0 (Γ g)) O λhK=>
    ad x7 (u6 bO hK 7) O λhL=>
    ad x7 (u4 ax hL) O λhM=>
    ad x7 (aU .add ax ne ne hM bD) O λhN=>
    ad x7 (b0 (Γ g)) O λhO=>
    ad x7 (u6 bO hO 7) O λhP=>
    aM x7 (o7 ax hP hN) O λ(_:Unit)aE=>
    cC (α:=x4->Prop) (λ(aF:x4)=>
     ad x7 (b0 (Γ g)) aF λhQ=>
     ad x7 (u6 bO hQ 7) aF λhR=>
     ad x7 (u4 ax hR) aF λhS=>
     ad x7 (aU .gtr ax ne ms hS (Δ 16384)) aF λhT=>
     aq x7 ud [(Γ g),hT,dQ] aF λjC c8=>
     en c8) λes=>
    ad x7 (b0 (Γ g)) aE λhU=>
    ad x7 (u6 bO hU 7) aE λhV=>
    ad x7 (u4 ax hV) aE λhW=>
    ad x7 (aU .gtr ax ne ms hW (Δ 4611686018427387904)) aE λhX=>
    Split hX (ad x7 (b0 (Γ g)) aE λhY=>
    ad x7 (u6 bO hY 7) aE λhZ=>
    aM x7 (o7 ax hZ (Δ 4611686018427387904)) aE λ(_:Unit)et=>
    es et)
    (es aE)))) λeu=>
  ad x7 (aU .gtr ax ne ms (Δ (ar:Int)) (Δ 6)) az λh0=>
  Split h0 (aq x7 ud [(Γ g),(.bool ms),(Δ dz)] az λjE h2=>
  eu h2)
   (ad x7 (aU .gtr ax ne ms dF (Δ 4096)) az λh3=>
  aq x7 ud [(Γ g),h3,(Δ dz)] az λjF h4=>
  eu h4)):=by
 have h5:=h.lt;have ev:N≠g:=λhe=>by
  obtain⟨av,ac,ae,bad,aw,big,ay,li,sv,C,_⟩:=jJ h;subst he;exact m2 (eJ C dD) Φ
 obtain⟨aZ,ho,cu,g1,cO,cP,f1,f2,f3,f4,f5,f6,f7⟩:=id dA;have b3:E≠g:=Ω
 have ret:∀{G:x4}{x:cE}{S:ak},iU G B E x->ai G N bj [.slice ν 0 0,.slice ν 0 0,Δ 0,.slice ν 0 0]->aj (λr=>r=g\/H r\/B<=r) w G->bZ G g G.heap.size S 100001 ((lF bd ar scope d6 R).map (·.2))->(∀q,lF bd ar scope d6 R=σ q->x=q.1)->¬S N->(∀r,H r->S r)->(∀r,S r->H r\/B<=r)->(∀r,S r->r<G.heap.size)->
   (ad x7 (u4 bj (Γ E)) G λbX=>
    aM x7 (o7 bj (Γ N) bX) G λ(_:Unit)bf=>
    ad x7 (do loadVar bj (<-asAddr (Γ N))) bf λbY=>Q bY bf):=by
  intro G x S da db h6 h7 J h8 dc h9 ia;obtain⟨aZ,ho,cu,g1,cO,cP,dd,de,df,dg,dh,ey,ez⟩:=da;let af:kB:=⟨aZ,ho,x.other,cu⟩;have b4:iH G af x:=⟨⟨g1,de⟩,⟨cO,df⟩,rfl,cP,dg⟩;rw[bF bj.p bj.i rfl (show G.rangeAt E 0 (fW af)from dd.range)];refine b8 (vs:=fW af) bj.i rfl rfl b4.one db λjG di ib ic=>?_;rw[gk bj.p bj.i rfl ic.range];have ie:∀r,r=N->iT G r\/G.heap.size<=r:=λr j=>by subst j;exact .inl ⟨_,_,db,Φ,Φ⟩
  refine fp _ _ ⟨af,x,S,(h6.Y λr _ h=>?_).F (di.Y λr _ h=>.inr (.inr (.inl h))),rfl,b4.dX di ie,h7.dX di λr j=>.inl ?_,J,dc,h9,λr j=>by rw[ib];exact ia r j⟩
  .exact h.elim .inl λh=>h.elim (λh=>.inr (.inl h)) λh=>.inr (.inr (.inr h))
  .have j:r=N:=j;subst j;exact⟨_,_,db,Φ,Φ,Φ,Φ,h8⟩
 have dj:∀{G:x4},aj (iV g B) w G->ai G N bj [.slice ν 0 0,.slice ν 0 0,Δ 0,.slice ν 0 0]:=λaT=>dD.aa aT λV=>V.elim ev λh=>Ω
 have dk:∀{G:x4},aj (iV g B) w G->aj (λr=>r=g\/H r\/B<=r) w G:=λaT=>aT.Y λr _ h=>h.elim .inl λh=>.inr (.inr h);have eA:∀{G:x4}{eB:Nat}{S:ak}{so:Option aN},bZ G g eB S 100000 so->bZ G g eB S 100001 so:=λj=>by
  obtain⟨b5,w0,av,bg,gs,sv,L,X,ac,ae,bad,aw,big,ay,li,h1,ig,ih,ii,ij,dl,dm⟩:=j;refine⟨Ω,w0,av,bg,gs,sv,L,X,ac,ae,bad,aw,big,ay,li,h1,ig,ih,ii,ij,dl,?_⟩;rename_i so;cases so with
  |none=>exact⟨dm.1,by have:=dm.2;omega⟩
  |some s=>exact dm
 have eC:∀{G:x4}{x:cE},iU G B E x->aj (iV g B) w G->bZ G g B H 100000 ν->lF bd ar scope d6 R=ν->(ad x7 (u4 bj (Γ E)) G λbX=>
    aM x7 (o7 bj (Γ N) bX) G λ(_:Unit)bf=>
    ad x7 (do loadVar bj (<-asAddr (Γ N))) bf λbY=>Q bY bf):=λda aT j eD=>
  ret da (dj aT) (dk aT) (by rw[eD];exact eA j.base) (λq W=>by rw[eD]at W;cases W) cH (λ_ h=>h) (λ_ h=>.inl h) λr j=>by have:=cI r j;have:=aT.size;omega
 rw[aO bj.p 1 f1 rfl,a7 aC.u f3.ls];refine Rc f3.ls (λz ik=>(dC z ik).1) λc aT=>?_;refine cZ (λbW=>aj (λr=>r=g) w bW/\bZ bW g B H 100000 (R.map (bp (decide (6<ar)||dM d6)))) ?_ ?_
 rotate_left
 .intro aA aV;rw[bU,ao];refine⟨λdl=>?_,λdl=>?_⟩
  .refine (oU h).Y ?_;rintro _ U _ aX;refine aV _ ⟨aX.1,?_⟩;rw[m3 (show 6<ar by omega),Bool.true_or];exact aX.2
  .rw[bU];refine(oU h).Y ?_;rintro _ U _ aX;refine aV _ ⟨aX.1,?_⟩;have e:dM d6=decide (4096<c):=by rw[U1,m6];exact aT.symm
   rw[m5 (show¬6<ar by omega),Bool.false_or,e];exact aX.2
 rintro bW ⟨il,im⟩;refine(me im).Y ?_;rintro _ bC _ ⟨⟨io,ip⟩,o,jI,rfl,iq,jK⟩;rw[bx,bz];have bJ:aj (λr=>r=g) w bC:=il.F io;have jL:=dA.dX bJ (mf h);have f123:=f1.aa bJ λhe=>b3 he;rw[aY bj.p rfl];refine bs (g:=E) (o:=2) ax.i rfl rfl f123 Ξ λbe b7 jM bL=>?_;have bL:ai be E bj [aZ,ho,Δ o,cu]:=bL;have dp:∀r,r=g->iT w r\/w.heap.size<=r:=λr j=>(mf h r j).imp (λ⟨e,c,C,a2,a8,_⟩=>⟨e,c,C,a2,a8⟩) id;have bM:∀{G:x4}{c:List x1},ai G E bj c->∀r,r=E->iT G r\/G.heap.size<=r:=λC r j=>by subst j;exact .inl ⟨_,_,C,Φ,Φ⟩
 have f224:=e0 (e0 f2 bJ dp) b7 (bM f123);have f324:=e0 (e0 f3 bJ dp) b7 (bM f123);have eE:=(f4.dX bJ dp).dX b7 (bM f123);have bN:=ip.new b7 λr j=>by have j:r=E:=j;omega
 have eF:aj (iV g B) w be:=(bJ.Y λr _ h=>.inl h).F (b7.Y λr _ h=>.inr (by have h:r=E:=h;omega));refine(me bN).Y ?_;rintro _ O _ ⟨⟨bh,ba⟩,n,jN,rfl,ir,eH⟩;rw[bx,bz,s6 ba];have eI:aj (iV g B) w O:=eF.F (bh.Y λr _ h=>.inl h);have it:iU be B E ⟨scope,d6,o,[]⟩:=⟨aZ,ho,cu,g1,cO,cP,bL,f224,f324,eE,f5,f6,f7⟩;have eK:=it.dX bh (mf bN);cases bb:bk (-4611686018427387904) 4611686018427387904 (V9 (λx=>x.snd) (bk 0 4611686018427387904 (R.map (bp (decide (6<ar)||dM d6)))))with
 |none=>
  rw[bb]at ba;rw[Option.map_none,S6,X4,bK];refine eC eK eI ba ?_;unfold lF;cases Y:bk 0 aG (R.map (bp (decide (6<ar)||dM d6)))with
  |none=>rfl
  |some p=>
   obtain⟨o',M⟩:=p;have iu:bk 0 4611686018427387904 (R.map (bp (decide (6<ar)||dM d6)))=σ (o',M):=Y;rw[iu]at bb;have e:br (-aG) aG M=ν:=bb;simp only;unfold eh;rw[e]
 |some q=>
 obtain⟨jO,K⟩:=q;have iv:=ir _ bb;subst iv;rw[bb]at ba;have ba:bZ O g B H 100000 (σ K):=ba;rw[Y9,T8,Y1,a6];obtain⟨M,Y,dq⟩:∃M,bk 0 aG (R.map (bp (decide (6<ar)||dM d6)))=σ (o,M)/\br (-aG) aG M=σ (n,K):=by
  cases Y:bk 0 4611686018427387904 (R.map (bp (decide (6<ar)||dM d6)))with
  |none=>rw[Y]at bb;cases bb
  |some p=>
   obtain⟨o',M⟩:=p;have:=iq _ Y;subst this;rw[Y]at bb;exact⟨M,Y,bb⟩
 have b9:lF bd ar scope d6 R=match eh d6 M with
   |none=>ν
   |some (lines,K)=>σ (⟨scope,d6,o,lines⟩,if bd=ms then{K with lm:=K.lm++[(d6,lines)]}else K):=by
  unfold lF;rw[Y]
 have iw:=(jD dq).1;have ix: -4611686018427387904<=n/\n<=4611686018427387904:=iw;have eL:eh d6 M=(if n<0 then match K.lm[(-n-1).toNat]? with
   |none=>ν
   |some (z,l)=>if z=d6 then σ (l,K)else ν
  else c6 (eX d6) n.toNat [] (bp (decide (16384<min (K.li+n) aG)) {K with li:=min (K.li+n) aG})):=by
  unfold eh;rw[dq];rfl
 have iy:lE K:=by
  cases bP:R with
  |none=>rw[bP]at Y;cases Y
  |some ap=>
   rw[bP]at Y;have dr:br 0 aG (bp (decide (6<ar)||dM d6) ap)=σ (o,M):=Y;have cQ:=(dS dr).eqs;have ca:=(dS dq).eqs;intro C;rw[ca.2.1,cQ.2.1]at C;rw[ca.1,cQ.1];exact fo ap bP (T5.1 C).1
 refine cZ (λaQ=>aj (iV g B) w aQ/\∃bq cc cR bi,ai aQ E bj [aZ,ho,Δ o,bq]/\aH .i64 ax aQ g1 aZ scope/\aH .i64 ax aQ cO ho d6/\md aQ cc bq cR/\bZ aQ g B H 100000 (σ bi)/\(0<n->cR=[]/\∀r,¬hp bq r)/\eh d6 M=(if n<=0 then σ (cR,bi)else c6 (eX d6) n.toNat [] bi)) ?_ ?_
 .rintro aQ ⟨iz,bq,cc,cR,bi,dd,de,df,dg,dh,ey,ez⟩;refine Rg dh dd de df dg f5 f6 f7 dC fm ix.2 ey (vE dh).1 λb1 A ds iA eM eN iB cd=>?_;have bQ:=iz.F iA;have bt:ds=(eh d6 M).map (·.2)/\∀q,eh d6 M=σ q->A=q.1:=by
   rw[ez];by_cases dt:n<=0
   .obtain⟨ac,ae⟩:=iB dt;rw[lw dt];exact⟨ae,λq W=>by cases W;exact ac⟩
   .rw[m1 dt];exact cd Ω
  obtain⟨bt,aX⟩:=bt;cases bd with
  |false=>
   refine cZ (λag=>b1=ag) ?_ ?_
   .rintro _ rfl;refine ret eM (dj bQ) (dk bQ) ?_ ?_ cH (λ_ h=>h) (λ_ h=>.inl h) λr j=>by have:=cI r j;have:=bQ.size;omega
    .have:(lF ne ar scope d6 R).map (·.2)=ds:=by
      rw[b9,bt];cases eh d6 M with
      |none=>rfl
      |some p=>rfl
     rw[this];exact eA eN.base
    .intro q W;rw[b9]at W;cases ah:eh d6 M with
     |none=>rw[ah]at W;cases W
     |some p=>
      rw[ah]at W;have:=aX p ah;cases W;rw[this]
   .intro aA aV;rw[a6];exact aV _ rfl
  |true=>
   refine cZ (λag=>∃S,aj (λr=>r=g\/H r\/B<=r) w ag/\iU ag B E ⟨scope,d6,o,A⟩/\ai ag N bj [.slice ν 0 0,.slice ν 0 0,Δ 0,.slice ν 0 0]/\bZ ag g ag.heap.size S 100001 ((lF ms ar scope d6 R).map (·.2))/\¬S N/\(∀r,H r->S r)/\(∀r,S r->H r\/B<=r)/\∀r,S r->r<ag.heap.size) ?_ ?_
   .rintro ag ⟨S,iC,iD,a3,a4,a5,iE,iF,iG⟩;refine ret iD a3 iC a4 ?_ a5 iE iF iG;intro q W;rw[b9]at W;cases ah:eh d6 M with
    |none=>rw[ah]at W;cases W
    |some p=>
     rw[ah]at W;have:=aX p ah;cases W;rw[this]
   .intro aA aV;rw[bK];intro au ce _ _;have iI:=eN.W ce;have iJ:=eM.W ce;have iK:=(dj bQ).W ce;obtain⟨b5,w0,av,bg,gs,sv,L,X,ac,ae,bad,aw,big,ay,li,cS,bu,bw,am,bA,bl,bB⟩:=id iI;have iL:=bA.g bu bw;obtain⟨⟨iM,eO⟩,aI,cg,ch⟩:=id iL;have iN:∀r,hp sv r->r<B:=λr j=>cI r (bl r j);rw[aL bO.p 8 am rfl];obtain⟨eQ,eR,bq,eS,eU,cc,eV,eW,eY,eZ,iO,iP,iQ⟩:=id iJ;let af:kB:=⟨eQ,eR,o,bq⟩;let x:cE:=⟨scope,d6,o,A⟩;have b4:iH au af x:=⟨⟨eS,eW⟩,⟨eU,eY⟩,rfl,cc,eZ⟩;rw[bF bj.p bj.i rfl (show au.rangeAt E 0 (fW af)from eV.range)];refine jk (f:=fW) (a:=af) dL.u bj.i Ω rfl rfl λjP jQ aS jR ab iR=>?_;refine⟨.inl ab,?_⟩;have jS:L.length<=100000:=by
     cases ds with
     |none=>exact bB.2
     |some s=>have:=bB.2.2.2.2.2.2.2.2;omega
    have du:=aI.W ab;refine jH (f:=fW) (a:=af) dL.u bj.i rfl du (by simpa using iR.sl) (b4.W ab).one Ω Ω λe1 iS cN ci iW e2=>?_;have dv:=am.W ab;have e3:=dv.aa e2 λhe=>cw du dv Φ he;rw[bR,aY bO.p rfl];refine bs (g:=g) (o:=8) dL.i (dn ci.sl).1 (dn ci.sl).2 e3 (by simp[js]) λbo dw jT cT=>?_;have cT:ai bo g bO (js av ac ae bad aw big ay li e1):=cT;have aJ:aj (λr=>hp sv r\/r=g) aS bo:=(e2.Y λr _ h=>.inl h).F (dw.Y λr _ h=>.inr h);have cU:∀r,(hp sv r\/r=g)->iT aS r\/aS.heap.size<=r:=λr j=>by
     rcases j with j|rfl
     .obtain⟨rfl,c,C⟩:=ej du j;exact .inl ⟨_,c,C,Φ,Φ⟩
     .exact .inl ⟨_,_,dv,Φ,Φ⟩
    have e4:∀{af x},iH au af x->iH bo af x:=λhe=>(he.W ab).dX aJ cU;have z50:=ce.size;have jU:=ab.size;have z53:=aJ.size;have jV:=bQ.size;have jW:=h5.2;refine aV _ ⟨λr=>H r\/(au.heap.size<=r/\r<bo.heap.size),?_,?_,?_,?_,?_,λr j=>.inl j,λr j=>j.imp id λj=>Ω,λr j=>?_⟩
    .refine (((dk bQ).F (ce.aa _)).F (ab.aa _)).F (aJ.Y λr _ j=>?_);exact j.elim (λj=>.inr (.inl (bl r j))) .inl
    .have iX:=eV.W ab;refine⟨eQ,eR,bq,eS,eU,cc,iX.aa aJ λj=>?_,e0 (eW.W ab) aJ cU,e0 (eY.W ab) aJ cU,(eZ.dX (ab.aa λ_=>False) λ_ h=>h.elim).dX aJ cU,iO,iP,iQ⟩;rcases j with j|j
     .have:=iN _ j;omega
     .exact b3 j
    .exact (iK.W ab).aa aJ λj=>j.elim (λj=>cH (bl _ j)) ev
    .refine⟨Ω,bo,av,bg,iS,e1,L++[af],X++[x],ac,ae,bad,aw,big,ay,li,rfl,aj.refl _ _,⟨_,cT⟩,cT,⟨⟨?_,λr j=>?_⟩,ci.aa dw λr j he=>?_,by rw[o4,o4,cg];rfl,λi iY iZ hi cj=>?_⟩,λr j=>?_,?_⟩
     .refine (iM.aa (ab.aa λ_=>False) λ_ _ h=>h).aa aJ λr j V=>?_;obtain⟨c,C⟩:=eO r j;rcases V with V|rfl
      .obtain⟨rfl,i0,dx⟩:=ej aI V;exact m2 (eJ C dx) Φ
      .exact m2 (eJ C am) Φ
     .obtain⟨c,C⟩:=eO r j;refine⟨c,(C.W ab).aa aJ λV=>?_⟩;rcases V with V|rfl
      .obtain⟨rfl,i0,dx⟩:=ej aI V;exact m2 (eJ C dx) Φ
      .exact m2 (eJ C am) Φ
     .have he:r=g:=he;subst he;exact cw ci e3 Φ j
     .by_cases i1:i<L.length
      .rw[V3 i1]at hi;rw[V3 Ω]at cj;exact e4 (ch i iY iZ hi cj)
      .rw[X1 Ω]at hi;rw[X1 Ω]at cj;have i2:i-L.length=0:=by have:=(x5.1 hi).1;simp at this;omega
       have dc:i-X.length=0:=Ω
       rw[i2]at hi;rw[dc]at cj;cases hi;cases cj;exact e4 b4
     .rcases iW r j with h|h
      .exact .inl (bl r h)
      .have:=(ci.hv j);have:=dw.size;exact .inr ⟨Ω,Ω⟩
     .rw[b9];cases ah:eh d6 M with
      |none=>
       rw[ah]at bt;rw[bt]at bB;exact⟨bB.1,by rw[o4];simp;have:=bB.2;omega⟩
      |some p=>
       obtain⟨lines,bi⟩:=p;rw[ah]at bt;rw[bt]at bB;have i3:=aX _ ah;obtain⟨ck,cl,cm,cn,cp,bS,cq,aP,cV⟩:=id bB;have e5:=Fl ah;refine⟨ck,cl,cm,cn,cp,bS,cq,?_,?_⟩
       .show (X++[x]).map _=bi.lm++[(d6,lines)];rw[Z2,aP];simp only[x,List.map_cons,List.map_nil];rw[i3]
       .have jX:M.lm.length+M.d9.length<=100000:=by
         cases bP:R with
         |none=>rw[bP]at Y;cases Y
         |some ap=>
          rw[bP]at Y h;have dr:br 0 aG (bp (decide (6<ar)||dM d6) ap)=σ (o,M):=Y;have t9:=dS dr;have cQ:=t9.1;have ca:=t9.eqs.2.2;have t3:=(vE h).2;have e6:(bp (decide (6<ar)||dM d6) ap).d9=ap.d9:=rfl;have e7:(bp (decide (6<ar)||dM d6) ap).lm=ap.lm:=rfl;rw[e6]at cQ;rw[e7]at ca;rw[ca];omega
        have e8:L.length=bi.lm.length:=by rw[<-aP,u9,cg]
        have i4:bg.length=bi.d9.length:=by rw[<-bS,u9]
        rw[e5.2]at e8;rw[o4,e8,i4];simp only[S1];have:=e5.1;omega
    .rintro (j|j)
     .exact cH j
     .omega
    .rcases j with j|j
     .have:=cI r j;omega
     .exact j.2
 .intro aA aV;rw[aW,ao];refine⟨λi5=>?_,λi6=>?_⟩
  .
   refine a1 (λv Z=>Ext O Z/\∃b:Bool,v= .bool b/\(b=ms->eh d6 M=ν)/\(b=ne->∃lines,eh d6 M=σ (lines,K)/\K.lm[(-n-1).toNat]?=σ (d6,lines))) ?_ ?_
   .rintro _ Z ⟨bT,b,rfl,i7,i8⟩;have cW:=ba.W bT;have i9:=eK.W bT;have e9:=eI.F (bT.aa _);cases b with
    |true=>
     rw[bK];refine(p7 cW Ω).Y ?_;rintro _ c4 _ ⟨fa,ja⟩;exact eC (i9.dX fa (mf cW)) (e9.F (fa.Y λr _ h=>.inl h)) ja (by rw[b9,i7 rfl])
    |false=>
     rw[a6];obtain⟨lines,jb,bV⟩:=i8 rfl;obtain⟨b5,w0,av,bg,gs,sv,L,X,ac,ae,bad,aw,big,ay,li,cS,bu,bw,am,bA,bl,ck,cl,cm,cn,cp,bS,cq,aP,cV⟩:=id cW;obtain⟨_,aI,cg,ch⟩:=bA.g bu bw;have ct:(-n-1).toNat<L.length:=by
      have h1:=(x5.1 bV).1;rw[<-aP,u9]at h1;omega
     obtain⟨hk,cz⟩:∃h,L[(-n-1).toNat]?=σ h:=⟨_,x8 ct⟩;obtain⟨bc,cA⟩:=aK (l:=X) (i:=(-n-1).toNat) Ω;obtain⟨_,_,_,jc,an⟩:=ch _ hk bc cz cA;have jd:bc.lines=lines:=by
      rw[<-aP,v8,cA]at bV;have:=Z4 bV;exact(Prod.mk.inj this).2
     rw[aL bO.p 8 am rfl,nJ,hx Ω Ω,c5,hx Ω Ω,cf (i:=(-n-1).toNat) Ω dL.u bj.i aI ct,aY bj.p rfl,aD Ψ (aI.range cz 3 _ rfl)];obtain⟨jY,fb,jZ,j1⟩:=id an;have cX:ai Z E bj [aZ,ho,Δ o,cu]:=(bL.aa bh λhe=>b3 he).W bT;have je:=(e0 f224 bh λr j=>(mf bN r j).imp (λ⟨e,c,C,a2,a8,_⟩=>⟨e,c,C,a2,a8⟩) id).W bT;have jf:=(e0 f324 bh λr j=>(mf bN r j).imp (λ⟨e,c,C,a2,a8,_⟩=>⟨e,c,C,a2,a8⟩) id).W bT;rw[aY bj.p rfl];refine bs (g:=E) (o:=3) ew.i (dn fb.sl).1 (dn fb.sl).2 cX Ξ λep cB j2 jg=>?_;refine aV _ ⟨e9.F (cB.Y λr _ h=>.inr (by have h:r=E:=h;omega)),hk.cu,jc,lines,K,jg,e0 je cB (bM cX),e0 jf cB (bM cX),?_,cW.new cB λr j=>by have j:r=E:=j;omega,λh=>Ω,by rw[jb,lw Ω]⟩;rw[<-jd];exact an.dX cB (bM cX)
   .intro j3 fc;intro P cD _ _;have jh:=ba.W cD;obtain⟨b5,w0,av,bg,gs,sv,L,X,ac,ae,bad,aw,big,ay,li,cS,bu,bw,am,bA,bl,ck,cl,cm,cn,cp,bS,cq,aP,cV⟩:=id jh;obtain⟨_,aI,cg,ch⟩:=bA.g bu bw;have j4:K.lm.length=L.length:=by rw[<-aP,u9,cg]
    have an:=eL;rw[lw i5]at an;rw[nJ,hx Ω Ω,aL bO.p 8 am rfl,dO dL.u aI,bU,ao];refine⟨λcd=>fc _ _ ⟨cD,ms,rfl,λ_=>?_,λh=>by cases h⟩,λcd=>?_⟩
    .rw[an,V0 Ω]
    have ct:(-n-1).toNat<L.length:=Ω
    obtain⟨hk,cz⟩:∃h,L[(-n-1).toNat]?=σ h:=⟨_,x8 ct⟩;obtain⟨bc,cA⟩:=aK (l:=X) (i:=(-n-1).toNat) Ω;obtain⟨_,⟨gz,ji⟩,_,_⟩:=ch _ hk bc cz cA;have bV:K.lm[(-n-1).toNat]?=σ (bc.d6,bc.lines):=by rw[<-aP,v8,cA];rfl
    rw[bV]at an;simp only at an;rw[aL bO.p 8 am rfl,nJ,hx Ω Ω,c5,hx Ω Ω,cf (i:=(-n-1).toNat) Ω dL.u bj.i aI ct,aY bj.p rfl,aD Ψ (aI.range cz 1 _ rfl)];have jj:ai P E bj [aZ,ho,Δ o,cu]:=(bL.aa bh λhe=>b3 he).W cD;have jl:=(e0 f324 bh λr j=>(mf bN r j).imp (λ⟨e,c,C,a2,a8,_⟩=>⟨e,c,C,a2,a8⟩) id).W cD;rw[aO bj.p 1 jj rfl];refine(yO ji.ls jl.ls).Y ?_;rintro _ c7 _ ⟨rfl,jm⟩;rw[bE];refine fc _ _ ⟨cD.F jm,_,rfl,λC=>?_,λC=>?_⟩
    .have jn:bc.d6≠d6:=by simpa using C
     rw[an,m1 jn]
    .have fd:bc.d6=d6:=by simpa using C
     exact⟨bc.lines,by rw[an,lw fd],by rw[bV,fd]⟩
  .
   have an:=eL;rw[m1 i6]at an;obtain⟨b5,w0,av,bg,gs,sv,L,X,ac,ae,bad,aw,big,ay,li,cS,bu,bw,am,bA,bl,ck,cl,cm,cn,cp,bS,cq,aP,cV⟩:=id ba;rw[aL bO.p 7 am rfl,aR];generalize jo:X3.wrap (li+n)=bm;have fe:K.big=ne->bm=K.li+n/\0<=bm:=λC=>by
    obtain⟨e6,e7⟩:=iy C;have jp:=cn C;rw[<-jo,jp,hx Ω Ω];exact⟨rfl,Ω⟩
   rw[bR,aY bO.p rfl];refine bs (g:=g) (o:=7) ax.i rfl rfl am (by simp[js]) λaE ff j5 cF=>?_;have cF:ai aE g bO (js av ac ae bad aw big ay bm sv):=cF;refine cZ (λaF=>aj (λr=>r=g) O aF/\ai aF g bO (js av ac ae bad aw big ay (min bm aG) sv)) ?_ ?_
   rotate_left
   .intro j6 fg;rw[aL bO.p 7 cF rfl,bU,ao];refine⟨λcd=>?_,λcd=>fg _ ⟨ff,?_⟩⟩
    .rw[bR,aY bO.p rfl];refine bs (g:=g) (o:=7) ax.i rfl rfl cF (by simp[js]) λet jq j7 jr=>?_;refine fg _ ⟨ff.F jq,?_⟩;have e:min bm aG=4611686018427387904:=by unfold aG;omega
     rw[e];exact jr
    .have e:min bm aG=bm:=by unfold aG;omega
     rw[e];exact cF
   rintro aF ⟨fh,fi⟩;have jt:bZ aF g B H 100000 (σ {K with li:=min (K.li+n) aG}):=⟨b5,w0,av,bg,gs,sv,L,X,ac,ae,bad,aw,big,ay,_,cS,bu.F fh,bw,fi,bA,bl,ck,cl,cm,λC=>by
    have C:K.big=ne:=C;rw[(fe C).1],cp,bS,cq,aP,cV⟩
   rw[aL bO.p 7 fi rfl,bU];refine(oU jt).Y ?_;rintro _ c8 _ ⟨ju,fj⟩;have jv:(σ {K with li:=min (K.li+n) aG}).map (bp (decide (16384<min bm aG)))=σ (bp (decide (16384<min (K.li+n) aG)) {K with li:=min (K.li+n) aG}):=by
    show σ (bp _ _)=_;congr 1;unfold bp;cases C:K.big with
    |true=>simp
    |false=>rw[(fe C).1]
   rw[jv]at fj;have cG:aj (λr=>r=g) be c8:=(bh.F fh).F ju;have dy:∀r,r=g->iT be r\/be.heap.size<=r:=λr j=>(mf bN r j).imp (λ⟨e,c,C,a2,a8,_⟩=>⟨e,c,C,a2,a8⟩) id;have jw:cu= .slice ν 0 0:=by
    have:=fk _ f1;simpa using this
   refine aV _ ⟨eF.F (cG.Y λr _ h=>.inl h),cu,cP,[],_,bL.aa cG λhe=>b3 he,e0 f224 cG dy,e0 f324 cG dy,eE.dX cG dy,fj,λ_=>⟨rfl,λr j=>by rw[jw]at j;exact gF j⟩,?_⟩;rw[an];by_cases eH:n<=0
   .have:n=0:=Ω
    subst this;rw[lw (S8 _)];rfl
   .rw[m1 eH]
theorem Fp{s:aN}:dz all s=match br (-aG) aG s with
  |none=>ν
  |some (a,s1)=>match fs all.length a.natAbs s1 with
   |none=>ν
   |some (scope,e)=>lF (decide (a<0)) a.natAbs scope (scope.map λv=>all.getD v.toNat 0) (σ e):=by
 unfold dz;cases br (-aG) aG s with
 |none=>rfl
 |some q=>
  obtain⟨a,s1⟩:=q;simp only;cases fs all.length a.natAbs s1 with
  |none=>rfl
  |some p=>
   obtain⟨scope,e⟩:=p;simp only;unfold lF;show _=match br 0 aG (bp (decide (6<a.natAbs)||dM (scope.map λv=>all.getD v.toNat 0)) e)with
    |none=>ν
    |some (other,f)=>_
   cases br 0 aG (bp (decide (6<a.natAbs)||dM (scope.map λv=>all.getD v.toNat 0)) e)with
   |none=>rfl
   |some j=>
    obtain⟨o,f⟩:=j;simp only;cases eh (scope.map λv=>all.getD v.toNat 0) f with
    |none=>rfl
    |some r=>
     obtain⟨ls,w⟩:=r;by_cases h:a<0
     .simp[h]
     .simp[h]
def yQ(w:x4)(g:Nat)(H:ak)(e:Option (cE×aN))(v:x1)(I:x4):Prop:=∃f x a,aj (λr=>r=g\/H r) w I/\v= .agg (fW f).toArray/\iH I f x/\bZ I g I.heap.size a 100001 (e.map (·.2))/\(∀q,e=σ q->x=q.1)/\(∀r,H r->a r)/\(∀r,a r->H r\/w.heap.size<=r)/\∀r,a r->r<I.heap.size
theorem Fq{k:Nat}{s s':aN}(h:fs n k s=σ (l,s')):s'.d9.length+l.length<=s.d9.length/\s'.li=s.li/\s'.big=s.big/\s'.lm=s.lm/\∀v∈l,0<=v/\v<n:=by
 have:=mQ (f:=l7 n) (λ(acc:Λ)t=>t.d9.length+acc.length<=s.d9.length/\t.li=s.li/\t.big=s.big/\t.lm=s.lm/\∀v∈acc,0<=v/\v<n) (λacc t a bu j e=>by
  unfold l7 at e;cases w:br 0 (n-1) t with
  |none=>rw[w]at e;cases e
  |some q=>
   obtain⟨v,C⟩:=q;rw[w]at e;simp only at e;split at e
   .cases e
   .cases e;have x:=dS w;have E:=(jD w).1;obtain⟨z,A,B⟩:=x.eqs;have t0:=x.1;refine⟨by have:=j.1;rw[o4];simp only[S1];omega,z.F j.2.1,A.F j.2.2.1,B.F j.2.2.2.1,λy r=>?_⟩;rcases j5.1 r with r|r
    .exact j.2.2.2.2 y r
    .rw[Z7.1 r];omega) k [] s l s' ⟨Ξ,rfl,rfl,rfl,λv ac=>by cases ac⟩ h
 exact this.1
theorem Rh{g B0:Nat}{H:ak}{s:aN}{O:x1}(h:bZ w g B0 H 100000 (σ s))(af:aH .i64 ax w gz O all)(ag:∀z∈all,1<=z/\z<=aG)(aS:all.length<=100001)(P:∀r,H r->r<w.heap.size)(bi:lE s):
  aq x7 Bp [Γ g,O] w (yQ w g H (dz all s)):=by
 have bU:=h.lt;refine aF func120 ?_;refine bC bj.i λG U bV Q R=>?_;have R:ai U G bj [.slice ν 0 0,.slice ν 0 0,Δ 0,.slice ν 0 0]:=R;refine bC bj.i λK ab bW S W=>?_;have W:ai ab K bj [.slice ν 0 0,.slice ν 0 0,Δ 0,.slice ν 0 0]:=W;have h1:=(h.W Q).base;have ah:=h1.W S;have bX:=Q.size;have aT:=R.lt;have bY:=W.lt;refine(me ah).Y ?_;rintro _ E _ ⟨⟨Y,j⟩,a,b0,rfl,al,am⟩;rw[bx,bz,aW];have bl:K≠g:=Ω
 have an:G≠g:=Ω
 have ap:=W.aa Y λhe=>bl he;have au:=(R.W S).aa Y λhe=>an he;have aU:aH .i64 ax E gz O all:=bB ((af.W Q).W S) Y λr e he=>by
  have he:r=g:=he;obtain⟨aV,B,J,bad,aX,big,aY,li,sv,Z,_⟩:=jJ h;subst he;exact cv af Z Φ e rfl
 have a2:∀r,hv O r->r<U.heap.size:=λr e=>by obtain⟨B,J⟩:=b5 af e;omega
 have av:iU E U.heap.size K ⟨[],[],0,[]⟩:=⟨_,_,_,0,0,0,ap,aH.nil _ _ _ _,aH.nil _ _ _ _,⟨[],bn.nil _ _ _ _ _,λy bm=>(by cases bm),rfl⟩,(λr e=>by rcases e with⟨a,n,c,B,J⟩|⟨a,n,c,B,J⟩<;>cases B),(λr e=>by obtain⟨a,n,c,B,J⟩:=e;cases B),Ω⟩;have ay:∀c,ai E K bj c->c[3]?=σ (.slice ν 0 0):=λc az=>by
  unfold ai at az ap;rw[ap]at az;have:=Array.toList_inj.2 (Obj.cells.inj (Z4 az)).1;simp at this;rw[<-this];rfl
 have a6:aj (λr=>r=g) U E:=(S.aa _).F Y;have b1:U.heap.size<=E.heap.size:=a6.size;have aB:∀{f:x4}{aC:Option (cE×aN)}{v:x1}{I:x4},aj (iV g U.heap.size) E f->aC=dz all s->Fm f g G U.heap.size H aC v I->yQ w g H (dz all s) v I:=by
  rintro f aC v I C rfl ⟨N,x,bo,aD,aE,aI,aJ,a7,a8,ba,bp⟩;refine⟨N,x,bo,?_,aE,aI,aJ,a7,a8,λr e=>(ba r e).imp id λh=>Ω,bp⟩;refine ji (ji ((Q.aa _).F (a6.Y λr _ h=>.inl h)) C λr e he=>?_) aD λr e he=>?_
  .exact he.elim .inl λhe=>Ω
  .rcases he with he|he|he|he
   .exact .inl he
   .exact .inr he
   .omega
   .omega
 have bq:∀{f:x4}{x:cE},aj (iV g U.heap.size) E f->dz all s=ν->bZ f g U.heap.size H 100000 ν->iU f U.heap.size K x->
   (ad x7 (u4 bj (Γ K)) f λbs=>
    aM x7 (o7 bj (Γ G) bs) f λ(_:Unit)bb=>
    ad x7 (do loadVar bj (<-asAddr (Γ G))) bb λbt=>yQ w g H (dz all s) bt bb):=by
  intro f x C bc aK bu;obtain⟨aZ,ho,cu,g1,bw,bA,aD,aE,aI,aJ,a7,a8,ba⟩:=bu;let N:kB:=⟨aZ,ho,x.other,cu⟩;have bd:iH f N x:=⟨⟨g1,aE⟩,⟨bw,aI⟩,rfl,bA,aJ⟩;have aL:=au.aa C λV=>V.elim an λh=>Ω
  rw[bF bj.p bj.i rfl (show f.rangeAt K 0 (fW N)from aD.range)];refine b8 (vs:=fW N) bj.i rfl rfl bd.one aL λb2 aO b3 bD=>?_;rw[gk bj.p bj.i rfl bD.range];have bE:∀r,r=G->iT f r\/f.heap.size<=r:=λr e=>by subst e;exact .inl ⟨_,_,aL,Φ,Φ⟩
  have b4:=C.size;refine aB C rfl ⟨N,x,H,aO.Y λr _ h=>.inr (.inr (.inl h)),rfl,bd.dX aO bE,?_,(λq A=>by rw[bc]at A;cases A),λ_ h=>h,λ_ h=>.inl h,λr e=>by have:=P r e;omega⟩;rw[bc];have bG:bZ f g U.heap.size H 100001 ν:=by
   obtain⟨b6,w0,aV,bH,gs,sv,L,X,B,J,bad,aX,big,aY,li,h1,ah,j,bI,bJ,aP,be⟩:=aK;exact⟨Ω,w0,aV,bH,gs,sv,L,X,B,J,bad,aX,big,aY,li,h1,ah,j,bI,bJ,aP,be.1,by have:=be.2;omega⟩
  refine bG.dX aO λr e=>.inl ?_;have e:r=G:=e;subst e;exact⟨_,_,aL,Φ,Φ,Φ,Φ,λaw=>by have:=P _ aw;omega⟩
 have M:=Fp (all:=all) (s:=s);have bK:bk (-4611686018427387904) 4611686018427387904 (σ s)=br (-aG) aG s:=rfl;rw[bK]at j al am;have b7: -4611686018427387904<=a/\a<=4611686018427387904:=by
  cases A:br (-aG) aG s with
  |none=>have:=am A;omega
  |some q=>have:=al q A;rw[this];exact(jD A).1
 refine a1 (λv bL=>E=bL/\v=Δ (a.natAbs:Int)) ?_ ?_
 rotate_left
 .intro aA bf;rw[ao];refine⟨λb9=>?_,λca=>bf _ _ ⟨rfl,by congr 1;omega⟩⟩;rw[nJ,hx Ω Ω];exact bf _ _ ⟨rfl,by congr 1;omega⟩
 rintro _ _ ⟨rfl,rfl⟩;have bg:∀r,H r->r<U.heap.size:=λr e=>by have:=P r e;omega
 have bh:¬H G:=λaw=>by have:=P _ aw;omega
 have bM:∀{scope:Λ},(∀v∈scope,0<=v/\v<(all.length:Int))->∀z∈scope.map (λv=>all.getD v.toNat 0),1<=z/\z<=aG:=λac z bN=>by
  obtain⟨v,bO,rfl⟩:=o9.1 bN;have:=ac v bO;refine ag _ ?_;rw[p8,x8 Ω];exact T9 _
 cases A:br (-aG) aG s with
 |none=>
  rw[A]at j M;have bP:=am A;subst bP;refine Fk (s:=s) (ar:=(0:Int).natAbs) j (.inr ⟨rfl,rfl⟩) av ay aU a2 aS Φ (λh=>by cases h) ?_ ?_ ?_
  .intro h;cases h
  .intro _;exact Fo j av ay (λz ag=>by cases ag) Ξ au aT bh bg (λbQ V=>by cases V) λv I aQ=>aB (aj.refl _ _) (by rw[M];rfl) aQ
  .intro h;cases h
 |some q=>
  obtain⟨a',s1⟩:=q;rw[A]at j M;have:=al _ A;subst this;simp only at M;have j:bZ E g U.heap.size H 100000 (σ s1):=j;have bR:=dS A;refine Fk j (.inl rfl) av ay aU a2 aS Ω (λ_=>(vE j).1) ?_ ?_ ?_
  .intro _ f x C ae aK aR;exact bq C (by rw[M,ae]) aK aR
  .intro h;cases h
  .intro _ f scope s' C ae aP aR bS;obtain⟨cb,bT,t3,t4,t5⟩:=Fq ae;rw[ae]at M;obtain⟨B,J,cc⟩:=bR.eqs;refine Fo aP aR bS (bM t5) ?_ (au.aa C λV=>V.elim an λh=>Ω) aT bh bg (λbQ V=>?_) λv I aQ=>aB C M.symm aQ
   .rw[u9];have:=(vE j).1;omega
   .cases V;intro Z;rw[t3,J]at Z;rw[bT,B];exact bi Z
theorem Ri{s s':aN}{l:List (Λ×Int)}(h:eh d6 s=σ (l,s'))(j:lE s):lE s':=by
 unfold eh at h;cases f:br (-aG) aG s with
 |none=>grind
 |some q=>
  obtain⟨n,s1⟩:=q;obtain⟨r,E,t3⟩:=(dS f).eqs;have w:lE s1:=λe=>by rw[r];exact j (by grind)
  rw[f]at h;simp only at h;split at h
  .split at h
   .cases h
   .split at h
    all_goals grind
  .rename_i F;have bg:=h;have:=mQ (λ_ t=>lE t) (λacc t a bu x y=>by
    obtain⟨_,_,_,z⟩:=q2 y;obtain⟨A,G,H⟩:=z.eqs;intro e;rw[A];exact x (by grind)) n.toNat [] (bp (decide (16384<min (s1.li+n) aG)) {s1 with li:=min (s1.li+n) aG}) l s' (λe=>by
     obtain⟨B,C⟩:=T5.1 e;have I:=w B;have J:=of_decide_eq_false C;show 0<=min (s1.li+n) aG/\min (s1.li+n) aG<=16384
     grind [aG]) bg
   grind
theorem Rj{s s':aN}{x:cE}(h:dz all s=σ (x,s')):s'.d9.length+1<=s.d9.length/\(lE s->lE s'):=by
 rw[Fp]at h;cases w:br (-aG) aG s with
 |none=>grind
 |some q=>
  obtain⟨a,s1⟩:=q;rw[w]at h;simp only at h;have y:=dS w;cases V:fs all.length a.natAbs s1 with
  |none=>grind
  |some p=>
   obtain⟨scope,f⟩:=p;rw[V]at h;simp only at h;obtain⟨O,E,t3,_⟩:=Fq V;unfold lF at h;have e:bk 0 aG ((σ f).map (bp (decide (6<a.natAbs)||dM (scope.map λv=>all.getD v.toNat 0))))=br 0 aG (bp (decide (6<a.natAbs)||dM (scope.map λv=>all.getD v.toNat 0)) f):=rfl;rw[e]at h;cases z:br 0 aG (bp (decide (6<a.natAbs)||dM (scope.map λv=>all.getD v.toNat 0)) f)with
   |none=>grind
   |some F=>
    obtain⟨o,A⟩:=F;rw[z]at h;simp only at h;have B:=dS z;cases j:eh (scope.map λv=>all.getD v.toNat 0) A with
    |none=>grind
    |some G=>
     obtain⟨ls,r⟩:=G;rw[j]at h;simp only[W9,R5]at h;obtain⟨_,P⟩:=h;have Q:=Fl j;have H:(bp (decide (6<a.natAbs)||dM (scope.map λv=>all.getD v.toNat 0)) f).d9=f.d9:=rfl;have I:=B.1;rw[H]at I;have R:=y.1;obtain⟨J,S,_⟩:=y.eqs;obtain⟨f1,f2,_⟩:=B.eqs;have K:s'.d9=r.d9/\s'.li=r.li/\s'.big=r.big:=by
      grind
     refine⟨by grind,λL=>?_⟩;have M:lE A:=λC=>by
      rw[f2]at C;rw[f1];have T:=(T5.1 C).1;show 0<=f.li/\f.li<=16384;rw[E,J];exact L (by grind)
     have N:=Ri j M;intro U;rw[K.2.1];exact N (by grind)
theorem bZ.shrink{g:Nat}{H:ak}{so:Option aN}(h:bZ w g B H N so):∃a,bZ w g B a N so/\(∀r,a r->H r)/\∀r,a r->∃c,ai w r bj c:=by
 obtain⟨x,w0,y,z,gs,sv,L,X,A,C,bad,E,big,F,li,h1,f,j,G,q,I,J⟩:=h;refine⟨λr=>hp sv r,⟨x,w0,y,z,gs,sv,L,X,A,C,bad,E,big,F,li,h1,f,j,G,q,λr e=>e,J⟩,I,λr e=>?_⟩;obtain⟨rfl,c,s⟩:=ej q.2.1 e;refine⟨c,s.aa f λhe=>?_⟩;obtain⟨M,K⟩:=j;subst he;exact m2 (eJ s K) Φ
theorem bZ.low{g:Nat}{H:ak}{s:aN}(h:bZ w g B H N (σ s)):bZ w g B H 100000 (σ s):=by
 obtain⟨F,w0,a,e,gs,sv,L,X,f,j,bad,q,big,r,li,h1,x,y,z,A,C,E⟩:=h;exact⟨p9 _,w0,a,e,gs,sv,L,X,f,j,bad,q,big,r,li,h1,x,y,z,A,C,E⟩
theorem bZ.up{g M:Nat}{H:ak}{so:Option aN}(h:bZ w g B H N so)(F:N<=M):bZ w g B H M so:=by
 obtain⟨G,w0,e,f,gs,sv,L,X,j,q,bad,r,big,x,li,h1,y,z,A,C,E,a⟩:=h;refine⟨Ω,w0,e,f,gs,sv,L,X,j,q,bad,r,big,x,li,h1,y,z,A,C,E,?_⟩;cases so with
 |none=>exact⟨a.1,by have:=a.2;omega⟩
 |some s=>exact a
def nd{α:Type}(f:List α->aN->Option (α×aN))(cnt i:Nat)(a:Option aN)(A:List α)(so:Option aN):Prop:=a.bind (c6 f cnt [])=(match so with
 |none=>ν
 |some s=>c6 f (cnt-i) A s)
theorem nd.step{α:Type}{f:List α->aN->Option (α×aN)}{cnt i:Nat}{e:Option aN}{A:List α}{s:aN}{a:α}{j:Option aN}(h:nd f cnt i e A (σ s))(hi:i<cnt)(h1:j=(f A s).map (·.2))(r:∀q,f A s=σ q->a=q.1):nd f cnt (i+1) e (A++[a]) j:=by
 unfold nd at*;rw[h,show cnt-i=(cnt-(i+1))+1 by omega];simp only;cases w:f A s<;>grind [q5,uP]
theorem Rk{s0:aN}{acc:Λ}{most j:Int}{X:List cE}{x y z A L so6 e:Option aN}(h1:x=((eg s0).map (·.2)).map (bp (decide (64<t.length))))(O:∀q,eg s0=σ q->t=q.1)(r:y=((bk 1 aG x).map (·.2)).map (bp (decide (64<n))))(M:∀q,bk 1 aG x=σ q->n=q.1)(h:z=(bk 1 aG y).map (·.2))(hm:∀q,bk 1 aG y=σ q->most=q.1)(f:A=((bk 0 aG z).map (·.2)).map (bp (decide (256<j))))(N:∀q,bk 0 aG z=σ q->j=q.1)(a:L=((bk 1 aG A).map (·.2)).map (bp (decide (2147483648<k))))(hk:∀q,bk 1 aG A=σ q->k=q.1)(w:L.bind (c6 (gY most) n.toNat [])=so6.map λs=>(acc,s))(F:so6.bind (c6 (λ_ s=>dz acc s) j.toNat [])=e.map λs=>(X,s)):jU s0=e.map λs=>(⟨t,k,acc,X⟩,s):=by
 unfold jU;cases G:eg s0 with
 |none=>
  rw[G]at h1;subst h1;subst r;subst h;subst f;subst a;have:so6=ν:=by cases so6 with|none=>rfl|some s=>cases w
  subst this;cases e<;>grind
 |some P=>
 obtain⟨bu,s1⟩:=P;have:=O _ G;subst this;rw[G]at h1;have h1:x=σ (bp (decide (64<t.length)) s1):=h1;subst h1;simp only;have Q:bk 1 aG (σ (bp (decide (64<t.length)) s1))=br 1 aG (bp (decide (64<t.length)) s1):=rfl;rw[Q]at r M;cases H:br 1 aG (bp (decide (64<t.length)) s1)with
 |none=>
  rw[H]at r;subst r;subst h;subst f;subst a;have:so6=ν:=by cases so6 with|none=>rfl|some s=>cases w
  subst this;cases e<;>grind
 |some R=>
 obtain⟨ab,B⟩:=R;have:=M _ H;subst this;rw[H]at r;have r:y=σ (bp (decide (64<n)) B):=r;subst r;simp only;have S:bk 1 aG (σ (bp (decide (64<n)) B))=br 1 aG (bp (decide (64<n)) B):=rfl;rw[S]at h hm;cases I:br 1 aG (bp (decide (64<n)) B)with
 |none=>
  rw[I]at h;subst h;subst f;subst a;have:so6=ν:=by cases so6 with|none=>rfl|some s=>cases w
  subst this;cases e<;>grind
 |some T=>
 obtain⟨bX,C⟩:=T;have:=hm _ I;subst this;rw[I]at h;have h:z=σ C:=h;subst h;simp only;have U:bk 0 aG (σ C)=br 0 aG C:=rfl;rw[U]at f N;cases J:br 0 aG C with
 |none=>
  rw[J]at f;subst f;subst a;have:so6=ν:=by cases so6 with|none=>rfl|some s=>cases w
  subst this;cases e<;>grind
 |some V=>
 obtain⟨ac,E⟩:=V;have:=N _ J;subst this;rw[J]at f;have f:A=σ (bp (decide (256<j)) E):=f;subst f;simp only;have W:bk 1 aG (σ (bp (decide (256<j)) E))=br 1 aG (bp (decide (256<j)) E):=rfl;rw[W]at a hk;cases K:br 1 aG (bp (decide (256<j)) E)with
 |none=>
  rw[K]at a;subst a;have:so6=ν:=by cases so6<;>grind
  subst this;cases e<;>grind
 |some Y=>
 obtain⟨ad,Z⟩:=Y;have:=hk _ K;subst this;rw[K]at a;have a:=a;subst a;simp only;have w:c6 (gY most) n.toNat [] (bp (decide (2147483648<k)) Z)=so6.map λs=>(acc,s):=w;rw[w];cases so6 with
 |none=>cases e<;>grind
 |some aa=>
  simp only[Y9];have F:c6 (λ_ s=>dz acc s) j.toNat [] aa=e.map λs=>(X,s):=F;rw[F];cases e<;>rfl
def rl(w:x4)(gr:Nat)(a:x1)(X:List cE):Prop:=∃L,bn fW 4 bj w gr a L/\X.length=L.length/\∀(i:Nat)h x,L[i]?=σ h->X[i]?=σ x->iH w h x
def qa(w:x4)(e:Nat)(f:cd):Prop:=∃ho gz a gr,ai w e ev [ce f.name,Δ f.k,ho,a]/\aH .i64 ax w gz ho f.d6/\rl w gr a f.d8
theorem rl.W{gr:Nat}{a:x1}{X:List cE}(h:rl w gr a X)(J:Ext w I):rl I gr a X:=by
 obtain⟨L,h1,e,f⟩:=h;exact⟨L,h1.W J,e,λi aw x hi j=>(f i aw x hi j).W J⟩
theorem qa.W{a:Nat}{f:cd}(h:qa w a f)(J:Ext w I):qa I a f:=by
 obtain⟨ho,gz,e,gr,h1,j,q⟩:=h;exact⟨ho,gz,e,gr,h1.W J,j.W J,q.W J⟩
def Rl(w:x4)(pl:Λ)(v:x1)(I:x4):Prop:=Ext w I/\∃n e:Int,(iy pl=ν->v= .tuple #[.pointer ν,Δ n,Δ e])/\∀f,iy pl=σ f->∃a,v= .tuple #[Γ a,Δ n,Δ e]/\qa I a f
theorem Rm{w0:x4}{g y:Nat}{so6:Option aN}{acc:Λ}{O bad:Int}{p:x1}{Q:x1->x4->Prop}(c7:aj (λr=>w0.heap.size<=r) w0 w)(bS:ai w y ev [ce t,Δ k,ho,.slice ν 0 0])(c8:aH .i64 ax w gz ho acc)(h:bZ w g B b3 100000 so6)(da:∀s,so6=σ s->lE s/\s.d9.length<=100000/\(∀z∈acc,1<=z/\z<=aG)/\acc.length<=100001)(e8:w0.heap.size<=g)(e9:w0.heap.size<=y)(ae:aQ .u8 w0 p pl)(fa:0<=O/\O<=4611686018427387904)(bi:∀v I X bk,Ext w0 I->so6.bind (c6 (λ_ s=>dz acc s) O.toNat [])=bk.map (λs=>(X,s))->
   (∀s,bk=σ s->s.d9=[]/\¬0<=bad/\s.big=ne->v= .tuple #[Γ y,Δ (pl.length:Int),Δ 0]/\qa I y ⟨t,k,acc,X⟩)->
   ((∀s,bk=σ s->¬(s.d9=[]/\¬0<=bad/\s.big=ne))->∃n e:Int,v= .tuple #[.pointer ν,Δ n,Δ e])->Q v I):
  b6 (Δ 0) w λbT A db=>
   cC (α:=x1->x4->Prop) (λ(dc:x1)(K:x4)=>
    Split dc (eP K λE=>
   ad x7 (b0 (Γ y)) E λaB=>
   ad x7 (u6 ev aB 3) E λaE=>
   ad x7 (u4 dL aE) E λbl=>
   ad x7 (b0 (Γ y)) E λdd=>
   ad x7 (u6 ev dd 2) E λde=>
   ad x7 (u4 aC de) E λdf=>
   aq x7 Bp [(Γ g),df] E λdg af=>
    (Ext E af\/cK x7 (u4 dL aE) bl af/\cK x7 (u6 ev aB 3) aE af/\cK x7 (b0 (Γ y)) aB af/\True)/\
   aM x7 (Y3 dL 1 #[(0,dg)]) af λdh P=>
    (Ext E P\/cK x7 (u4 dL aE) bl P/\cK x7 (u6 ev aB 3) aE P/\cK x7 (b0 (Γ y)) aB P/\True)/\
    aM x7 (c9 #[dL,dL] dL #[bl,dh]) P λdi aT=>
     ad x7 (b0 (Γ y)) aT λdj=>
     ad x7 (u6 ev dj 3) aT λdk=>
     aM x7 (o7 dL dk di) aT λ(_:Unit)aV=>
     ad x7 (aU .add ax ne ms bT (Δ 1)) aV λdl=>
   db dl aV)
     (cC (α:=x4->Prop) (λ(N:x4)=>
   cC (α:=x4->Prop) (λ(C:x4)=>
    ad x7 (b0 (Γ g)) C λdm=>
    ad x7 (u6 bO dm 3) C λdp=>
    ad x7 (u4 al dp) C λdq=>
    ad x7 (aU .neq al ne ms dq (Δ 0)) C λdr=>
    Split dr (eP C λY=>
     ad x7 (b0 (Γ g)) Y λds=>
     ad x7 (u6 bO ds 4) Y λdt=>
     ad x7 (u4 al dt) Y λdu=>
     ad x7 (b0 (Γ g)) Y λdv=>
     ad x7 (u6 bO dv 3) Y λdw=>
     ad x7 (u4 al dw) Y λdx=>
     Q (.tuple #[(.pointer ν),du,dx]) Y)
     (ad x7 (b0 (Γ g)) C λdy=>
    ad x7 (u6 bO dy 5) C λdA=>
    ad x7 (u4 al dA) C λdC=>
    ad x7 (aU .neq al ne ms dC (Δ 0)) C λdD=>
    Split dD (eP C λZ=>
     ad x7 (b0 (Γ g)) Z λdE=>
     ad x7 (u6 bO dE 6) Z λdF=>
     ad x7 (u4 al dF) Z λdG=>
     ad x7 (b0 (Γ g)) Z λdH=>
     ad x7 (u6 bO dH 5) Z λdI=>
     ad x7 (u4 al dI) Z λdJ=>
     Q (.tuple #[(.pointer ν),dG,dJ]) Z)
     (ad x7 (W7 #[cU] al #[p]) C λdK=>
    Q (.tuple #[(Γ y),dK,(Δ 0)]) C))) λbV=>
   cC (α:=x1->x4->Prop) (λ(dM:x1)(aX:x4)=>
    Split dM (aq x7 pu [(Γ g),(Δ 11),(Δ bad)] aX λfb bW=>
     bV bW)
     (bV aX)) λbX=>
   ad x7 (b0 (Γ g)) N λdN=>
   ad x7 (u6 bO dN 3) N λdO=>
   ad x7 (u4 al dO) N λdP=>
   ad x7 (aU .eql al ne ms dP (Δ 0)) N λdQ=>
   Split dQ (ad x7 (aU .geq al ne ms (Δ bad) (Δ 0)) N λdR=>
   bX dR N)
    (bX (.bool ne) N)) λb1=>
  cC (α:=x1->x4->Prop) (λ(dS:x1)(R:x4)=>
   Split dS (ad x7 (b0 (Γ g)) R λdT=>
    ad x7 (u6 bO dT 0) R λdU=>
    ad x7 (u4 fM dU) R λdV=>
    ad x7 (n9 fM dV (Δ 0)) R λdW=>
    ad x7 (u6 cD dW 1) R λdY=>
    ad x7 (u4 al dY) R λdZ=>
    aq x7 pu [(Γ g),(Δ 4),dZ] R λfc bm=>
    b1 bm)
    (b1 R)) λb2=>
  ad x7 (b0 (Γ g)) K λea=>
  ad x7 (u6 bO ea 3) K λeb=>
  ad x7 (u4 al eb) K λec=>
  ad x7 (aU .eql al ne ms ec (Δ 0)) K λed=>
  Split ed (ad x7 (b0 (Γ g)) K λee=>
  ad x7 (u6 bO ee 0) K λef=>
  ad x7 (u4 fM ef) K λeg=>
  ad x7 (W7 #[fM] al #[eg]) K λeh=>
  ad x7 (aU .gtr al ne ms eh (Δ 0)) K λei=>
  b2 ei K)
   (b2 (.bool ne) K))) λb4=>
   ad x7 (aU .lss ax ne ne bT (Δ O)) A λek=>
   Split ek (ad x7 (b0 (Γ g)) A λem=>
   ad x7 (u6 bO em 3) A λen=>
   ad x7 (u4 al en) A λeo=>
   ad x7 (aU .eql al ne ms eo (Δ 0)) A λep=>
   b4 ep A)
    (b4 (.bool ne) A):=by
 have b7:y≠g:=λhe=>by
  obtain⟨ag,ab,ac,bad,ah,big,am,li,sv,f,_⟩:=jJ h;subst he;exact m2 (eJ f bS) Φ
 refine⟨λbo A=>∃i:Nat,bo=Δ (i:Int)/\i<=O.toNat/\aj (λr=>w0.heap.size<=r) w0 A/\∃M gr X so,∃H:ak,ai A y ev [ce t,Δ k,ho,M]/\aH .i64 ax A gz ho acc/\rl A gr M X/\(∀r,hp M r->w0.heap.size<=r/\¬H r)/\¬H y/\(∀r,hv ho r->¬H r)/\(∀r,H r->w0.heap.size<=r)/\bZ A g A.heap.size H 100001 so/\nd (λ_ s=>dz acc s) O.toNat i so6 X so/\
   ∀s,so=σ s->lE s/\X.length+s.d9.length<=100000/\(∀z∈acc,1<=z/\z<=aG)/\acc.length<=100001,λbo _=>O.toNat-(bY bo).toNat,
  ⟨0,rfl,X9 _,c7,_,0,[],so6,b3,bS,c8,⟨[],bn.nil _ _ _ _ _,rfl,λi h x hi=>by simp at hi⟩,λr a=>(gF a).elim,id,λr _ h=>h,λr h=>h.elim,h.base.up Ω,?_,λs V=>?_⟩,?_⟩
 .unfold nd;cases so6<;>rfl
 .obtain⟨er,es,a3,a4⟩:=da s V;exact⟨er,by simpa using es,a3,a4⟩
 rintro _ A ⟨i,rfl,hi,aZ,M,gr,X,so,H,b8,b9,ca,aF,bp,et,cb,W,bq,eu⟩;refine a1 (λv K=>A=K/\((v= .bool ms/\i<O.toNat/\∃s,so=σ s)\/(v= .bool ne/\(so=ν\/i=O.toNat)))) ?_ ?_
 rotate_left
 .intro aA br;rw[aW,ao];refine⟨λcc=>?_,λfd=>br _ _ ⟨rfl,.inr ⟨rfl,.inr Ω⟩⟩⟩;rw[nc W];cases so with
  |none=>exact br _ _ ⟨rfl,.inr ⟨rfl,.inl rfl⟩⟩
  |some s=>exact br _ _ ⟨rfl,.inl ⟨rfl,Ω,s,rfl⟩⟩
 rintro _ _ ⟨rfl,⟨rfl,cc,s,rfl⟩|⟨rfl,ew⟩⟩
 .
  rw[bK];intro E an _ _;obtain⟨cd,fe,cf,cg⟩:=eu s rfl;have aI:=b8.W an;obtain⟨ey,ch,aJ,ci⟩:=(W.W an).low.shrink;have bt:=b9.W an;have ez:=ca.W an;rw[aL ev.p 3 aI rfl,aL ev.p 2 aI rfl];refine(Rh ch bt cf cg (λr a=>by obtain⟨c,f⟩:=ci r a;exact f.lt) cd).Y ?_;rintro _ af _ ⟨eA,x,cj,ap,rfl,ck,eB,eC,ff,cl,eD⟩;have cm:∃c,ai E g bO c:=by obtain⟨ag,ab,ac,bad,ah,big,am,li,sv,f,_⟩:=jJ ch;exact⟨_,f⟩
  have cn:∀r,(r=g\/ey r)->iT E r\/E.heap.size<=r:=λr a=>by
   rcases a with rfl|a
   .obtain⟨c,f⟩:=cm;exact .inl ⟨_,c,f,Φ,Φ⟩
   .obtain⟨c,f⟩:=ci r a;exact .inl ⟨_,c,f,Φ,Φ⟩
  have bu:=aI.aa ap λa=>a.elim (λhe=>b7 he) λa=>bp (aJ _ a);have st:∀{I:x4},ai I y ev [ce t,Δ k,ho,M]->cK x7 (u4 dL (.pointer (σ ⟨y,0+3,ν⟩))) M I/\cK x7 (u6 ev (Γ y) 3) (.pointer (σ ⟨y,0+3,ν⟩)) I/\cK x7 (b0 (Γ y)) (Γ y) I/\True:=λf=>
   ⟨kS Ψ (f.cell rfl),jl (by rw[aY ev.p rfl]),jl (by rw[bR]),trivial⟩
  refine⟨.inr (st bu),?_⟩;refine jk dL.u bj.i Ω rfl rfl λfg fh P fi S eE=>?_;refine⟨.inr (st (bu.W S)),?_⟩;obtain⟨L,au,bw,bx⟩:=id ez;have eF:=au.aa ap λr a V=>V.elim (λhe=>by
   obtain⟨c,f⟩:=cm;subst he;exact cw au f Φ a) λV=>(aF r a).2 (aJ r V)
  have bz:=eF.W S;refine jH dL.u bj.i rfl bz (by simpa using eE.sl) (ck.W S).one Ω Ω λeH eI aT a2 eK cp=>?_;have bA:=bu.W S;have cq:=bA.aa cp λhe=>cw bz bA Φ he;rw[bR,aY ev.p rfl];refine bs (g:=y) (o:=3) dL.i (dn a2.sl).1 (dn a2.sl).2 cq Ξ λaV ct fj bB=>?_;have bB:=bB;have fk:i<=4611686018427387904:=Ω
  rw[aR,hx Ω Ω];have av:aj (λr=>hp M r\/r=y) P aV:=(cp.Y λr _ h=>.inl h).F (ct.Y λr _ h=>.inr h);have cu:∀r,(hp M r\/r=y)->∃e c,ai P r e c/\e≠ax/\e≠cr/\e≠cD/\e≠bO:=λr a=>by
   rcases a with a|rfl
   .obtain⟨rfl,c,f⟩:=ej bz a;exact⟨_,c,f,Φ,Φ,Φ,Φ⟩
   .exact⟨_,_,bA,Φ,Φ,Φ,Φ⟩
  have bC:∀r,(hp M r\/r=y)->iT P r\/P.heap.size<=r:=λr a=>by
   obtain⟨e,c,f,bD,bE,_⟩:=cu r a;exact .inl ⟨e,c,f,bD,bE⟩
  have fm:=an.size;have fo:=ap.size;have fp:=S.size;have fq:=av.size;have cz:∀r,hp M r->r<E.heap.size:=λr a=>by obtain⟨ab,ac⟩:=au.hv a;omega
  have aK:∀r,r<E.heap.size->¬H r->¬cj r:=λr a eL bF=>(cl r bF).elim (λh=>eL (aJ r h)) λh=>Ω
  have eM:∀r,hv ho r->r<E.heap.size:=λr a=>by obtain⟨ab,ac⟩:=b5 bt a;omega
  refine⟨⟨i+1,rfl,Ω,?_,eH,eI,X++[x],_,cj,bB,e0 ((e0 bt ap cn).W S) av bC,⟨L++[eA],a2.aa ct λr a he=>?_,by rw[o4,o4,bw];rfl,λj cA eN ay aO=>?_⟩,λr a=>?_,aK y aI.lt bp,λr a=>aK r (eM r a) (et r a),λr a=>?_,?_,bq.step cc rfl λq G=>eC q G,λs' U=>?_⟩,by simp only[bY];omega⟩
  .refine (((aZ.F (an.aa _)).F (ap.Y λr _ h=>?_)).F (S.aa _)).F (av.Y λr _ h=>?_)
   .exact h.elim (λh=>Ω) λh=>cb r (aJ r h)
   .exact h.elim (λh=>(aF r h).1) λh=>Ω
  .have he:r=y:=he;subst he;exact cw a2 cq Φ a
  .by_cases eO:j<L.length
   .rw[V3 eO]at ay;rw[V3 Ω]at aO;exact(((bx j cA eN ay aO).dX ap cn).W S).dX av bC
   .rw[X1 Ω]at ay;rw[X1 Ω]at aO;have eQ:j-L.length=0:=by have:=(x5.1 ay).1;simp at this;omega
    have eR:j-X.length=0:=Ω
    rw[eQ]at ay;rw[eR]at aO;cases ay;cases aO;exact(ck.W S).dX av bC
  .rcases eK r a with h|h
   .exact⟨(aF r h).1,aK r (cz r h) (aF r h).2⟩
   .exact⟨by have:=aZ.size;omega,λbF=>by have:=eD r bF;omega⟩
  .rcases cl r a with h|h
   .exact cb r (aJ r h)
   .have:=aZ.size;omega
  .refine (eB.W S).dX av λr a=>.inl ?_;obtain⟨e,c,f,bD,bE,eS,eU⟩:=cu r a;refine⟨e,c,f,bD,bE,eS,eU,?_⟩;rcases a with a|rfl
   .exact aK r (cz r a) (aF r a).2
   .exact aK _ aI.lt bp
  .cases bH:dz acc s with
   |none=>rw[bH]at U;cases U
   |some q=>
    obtain⟨fs,cB⟩:=q;rw[bH]at U;cases U;obtain⟨ft,eV⟩:=Rj bH;refine⟨eV cd,?_,cf,cg⟩;rw[o4];simp only[S1];omega
 .
  rw[a6];have bI:so6.bind (c6 (λ_ s=>dz acc s) O.toNat [])=so.map λs=>(X,s):=by
   unfold nd at bq;rw[bq];cases so with
   |none=>rfl
   |some s=>
    rcases ew with h|rfl
    .cases h
    .simp only[V8];rfl
  have row:∀{I:x4},aj (λr=>r=g) A I->rl I gr M X/\ai I y ev [ce t,Δ k,ho,M]/\aH .i64 ax I gz ho acc:=λa8=>by
   obtain⟨ag,ab,ac,bad,ah,big,am,li,sv,f,_⟩:=jJ W;have cE:∀r,r=g->iT A r\/A.heap.size<=r:=λr a=>by subst a;exact .inl ⟨_,_,f,Φ,Φ⟩
   obtain⟨L,au,bw,bx⟩:=id ca;refine⟨⟨L,au.aa a8 λr a he=>?_,bw,λi h x hi J=>(bx i h x hi J).dX a8 cE⟩,b8.aa a8 λhe=>b7 he,e0 b9 a8 cE⟩;have he:r=g:=he;subst he;exact cw au f Φ a
  refine cZ (λN=>aj (λr=>r=g) A N/\bZ N g A.heap.size H 100001 (so.bind λs=>if s.d9=[]then σ s else ν)) ?_ ?_
  rotate_left
  .intro fu cF;refine a1 (λv R=>A=R/\∃b:Bool,v= .bool b/\(b=ms->∃s,so=σ s/\s.d9≠[])/\(b=ne->∀s,so=σ s->s.d9=[])) ?_ ?_
   .rintro _ _ ⟨rfl,b,rfl,bJ,bL⟩;cases b with
    |true=>
     obtain⟨s,rfl,ba⟩:=bJ rfl;rw[bK];obtain⟨cG,cH,ag,aP,gs,sv,L,cI,ab,ac,bM,ah,big,am,li,cL,bb,bc,az,bd,cM,cN,cO,be,cP,cQ,bf,cR,cS,cT⟩:=id W;obtain⟨⟨bN,eW⟩,_⟩:=bd.g bb bc;obtain⟨x,fv,rfl⟩:∃x l,aP=x::l:=by
      cases aP with
      |nil=>exact m2 bf.symm (by simpa using ba)
      |cons x l=>exact⟨x,l,rfl⟩
     rw[aL bO.p 0 az rfl];refine Fg bN λb o eX=>?_;rw[aY cD.p rfl,aD Ψ (eX 1 _ rfl)];refine(p7 W Ω).Y ?_;rintro _ bm _ ⟨eY,eZ⟩;refine cF _ ⟨eY,?_⟩;show bZ bm g _ H 100001 (if s.d9=[]then σ s else ν);rw[m1 ba];exact eZ
    |false=>
     rw[a6];refine cF _ ⟨aj.refl _ _,?_⟩;cases so with
     |none=>exact W
     |some s=>
      show bZ _ g _ H 100001 (if s.d9=[]then σ s else ν);rw[lw (bL rfl s rfl)];exact W
   .intro fw cV;rw[nc W];cases so with
    |none=>
     rw[S6,a6];exact cV _ _ ⟨rfl,ne,rfl,(λh=>by cases h),λ_ s V=>by cases V⟩
    |some s=>
     rw[T8,bK];obtain⟨cG,cH,ag,aP,gs,sv,L,cI,ab,ac,bM,ah,big,am,li,cL,bb,bc,az,bd,cM,cN,cO,be,cP,cQ,bf,cR,cS,cT⟩:=id W;obtain⟨⟨bN,eW⟩,_⟩:=bd.g bb bc;rw[aL bO.p 0 az rfl,Ff bN,bU];have fx:aP.length=s.d9.length:=by rw[<-bf,u9]
     refine cV _ _ ⟨rfl,_,rfl,λh=>⟨s,rfl,λaS=>?_⟩,λh s' U=>?_⟩
     .have:=m7 h;have cA:s.d9.length=0:=by rw[aS];rfl
      omega
     .cases U;have:=of_decide_eq_false h;exact j6 Ω
  rintro N ⟨cW,bP⟩;refine cZ (λC=>aj (λr=>r=g) A C/\bZ C g A.heap.size H 100001 (so.bind λs=>if s.d9=[]/\¬0<=bad then σ s else ν)) ?_ ?_
  rotate_left
  .intro fy cX;refine a1 (λv aX=>N=aX/\∃b:Bool,v= .bool b/\(b=ms->(so.bind λs=>if s.d9=[]/\¬0<=bad then σ s else ν)=ν)/\(b=ne->(so.bind λs=>if s.d9=[]/\¬0<=bad then σ s else ν)=so.bind λs=>if s.d9=[]then σ s else ν)) ?_ ?_
   .rintro _ _ ⟨rfl,b,rfl,bJ,bL⟩;cases b with
    |true=>
     rw[bK];refine(p7 bP Ω).Y ?_;rintro _ bW _ ⟨e1,e2⟩;exact cX _ ⟨cW.F e1,by rw[bJ rfl];exact e2⟩
    |false=>
     rw[a6];exact cX _ ⟨cW,by rw[bL rfl];exact bP⟩
   .intro fz cY;rw[nc bP];cases G:(so.bind λs=>if s.d9=[]then σ s else ν)with
    |none=>
     rw[S6,a6];refine cY _ _ ⟨rfl,ne,rfl,(λh=>by cases h),λ_=>?_⟩;cases so with
     |none=>rfl
     |some s=>
      have G:(if s.d9=[]then σ s else ν)=ν:=G;show(if s.d9=[]/\¬0<=bad then σ s else ν)=(if s.d9=[]then σ s else ν);rw[G];split at G
      .cases G
      .rename_i ba;rw[m1 (λh=>ba h.1)]
    |some s=>
     rw[T8,bK,cJ];refine cY _ _ ⟨rfl,_,rfl,λh=>?_,λh=>?_⟩
     .have aS:=m7 h;cases so with
      |none=>rfl
      |some s=>exact m1 λh=>h.2 aS
     .have aS:=of_decide_eq_false h;cases so with
      |none=>rfl
      |some s=>
       show(if s.d9=[]/\¬0<=bad then σ s else ν)=(if s.d9=[]then σ s else ν);by_cases V:s.d9=[]
       .rw[lw V,lw ⟨V,aS⟩]
       .rw[m1 V,m1 λh=>V h.1]
  rintro C ⟨c0,bg⟩;obtain⟨e3,e4,e5⟩:=row c0;have e6:aj (λr=>w0.heap.size<=r) w0 C:=aZ.F (c0.Y λr _ h=>by have h:r=g:=h;omega);have bh:=e6.W λr a he=>Ω
  rw[s6 bg];cases G:(so.bind λs=>if s.d9=[]/\¬0<=bad then σ s else ν)with
  |none=>
   rw[S6,X4,bK];intro Y c1 _ _;obtain⟨ag,ab,ac,bM,ah,big,am,li,sv,f,_⟩:=jJ (bg.W c1);rw[aL bO.p 4 f rfl,aL bO.p 3 f rfl];refine bi _ _ X so (bh.F c1) bI (λs V aw=>?_) λ_=>⟨_,_,rfl⟩;subst V;have G:(if s.d9=[]/\¬0<=bad then σ s else ν)=ν:=G;rw[lw ⟨aw.1,aw.2.1⟩]at G;cases G
  |some s=>
   rw[G]at bg;rw[T8,Y1,a6];obtain⟨s',rfl,U⟩:∃s',so=σ s'/\(if s'.d9=[]/\¬0<=bad then σ s' else ν)=σ s:=by
    cases so with
    |none=>cases G
    |some s'=>exact⟨s',rfl,G⟩
   split at U
   .rename_i c2;cases U;obtain⟨cG,cH,ag,aP,gs,sv,L,cI,ab,ac,bM,ah,big,am,li,cL,bb,bc,az,bd,cM,cN,cO,be,cP,cQ,bf,cR,cS,cT⟩:=id bg;rw[aL bO.p 5 az rfl,bG,ao];refine⟨λbQ=>?_,λbQ=>?_⟩
    .intro Z c3 _ _;have c4:=az.W c3;rw[aL bO.p 6 c4 rfl,aL bO.p 5 c4 rfl];refine bi _ _ X _ (bh.F c3) bI (λcB c5 aw=>?_) λ_=>⟨_,_,rfl⟩;cases c5;rw[be.1 bQ]at aw;cases aw.2.2
    .rw[a7 cU.u (ae.W bh)];refine bi _ _ X _ bh bI (λcB c5 aw=>⟨rfl,ho,gz,M,gr,e4,e5,e3⟩) λe7=>?_;refine m2 ⟨c2.1,c2.2,?_⟩ (e7 s rfl);cases f:s.big with
     |false=>rfl
     |true=>exact m2 (be.2 f) bQ
   .cases U
def Zero(so:Option aN):Prop:=∀s,so=σ s->s.li=0/\s.d9.length<=100000
theorem Zero.big{so:Option aN}(h:Zero so)(b:Bool):Zero (so.map (bp b)):=λs V=>by
 cases so with
 |none=>cases V
 |some s0=>cases V;exact h s0 rfl
theorem zero_num{lo hi:Int}{so:Option aN}(h:Zero so):Zero ((bk lo hi so).map (·.2)):=λs V=>by
 cases so with
 |none=>cases V
 |some s0=>
  have V:V9 (λx=>x.2) (br lo hi s0)=σ s:=V;cases a:br lo hi s0 with
  |none=>rw[a]at V;cases V
  |some q=>
   obtain⟨n,s1⟩:=q;rw[a]at V;cases V;have e:=dS a;have:=e.1;obtain⟨h1,f⟩:=h s0 rfl;exact⟨e.eqs.1.F h1,by show s1.d9.length<=100000;omega⟩
theorem Rn{so:Option aN}(h:Zero so):Zero ((kY so).map (·.2)):=λs V=>by
 cases so with
 |none=>cases V
 |some s0=>
  have V:V9 (λx=>x.2) (eg s0)=σ s:=V;cases a:eg s0 with
  |none=>rw[a]at V;cases V
  |some q=>
   obtain⟨n,s1⟩:=q;rw[a]at V;cases V;obtain⟨U,ab⟩:=xQ a;obtain⟨h1,e⟩:=h s0 rfl;have:s0.d9.length=s1.d9.length+1:=by rw[U];rfl
   exact⟨by show s1.li=0;rw[ab];exact h1,by show s1.d9.length<=100000;omega⟩
theorem Ro{so:Option aN}{f:cd}(h:jU ⟨(lex pl).1,0,ne,[]⟩=so.map λs=>(f,s))(a:¬65536<pl.length):iy pl=so.bind λs=>if s.d9=[]/\(lex pl).2=ms/\s.big=ne then σ f else ν:=by
 unfold iy;rw[m1 a,h]<;>cases so<;>rfl
theorem Rp(a:pl.length<=60000):(∀t∈(lex pl).1,Bytes t/\t.length<=65536)/\(lex pl).1.length<=60000:=by
 refine⟨λt e=>?_,Y7 (r6 pl.length pl (p9 _)) a⟩;obtain⟨_,f,j⟩:=uy pl.length pl (p9 _) t e;refine⟨λb h=>?_,Ω⟩;have:=m7 (f b h);omega
theorem Fr{p:x1}(ae:aQ .u8 w p pl)(cq:Bytes pl)(cr:pl.length<=60000):aq x7 Jd [p] w (Rl w pl):=by
 obtain⟨ct,dL⟩:=Rp cr;refine aF func59 ?_;rw[a7 cU.u ae,bU,ao];refine⟨λh=>Ω,λ_=>?_⟩;refine(Q8 ae cq Ω).Y ?_;rintro _ U _ ⟨aJ,au,bf,bad,rfl,bg,bh,cu,dM,bi⟩;rw[bx,bz,a7 cU.u (ae.W aJ),dk (cs:=#[au,Δ (pl.length:Int),Δ 4,Δ 0,Δ 0,Δ 0,Δ 0,Δ 0,.slice ν 0 0]) (by obtain⟨_,_,_,_,_,rfl,_⟩:=bg;kernel_rfl)];refine bo λg ab dN av W=>?_;have W:ai ab g bO (js au (pl.length:Int) 4 0 0 0 0 0 (.slice ν 0 0)):=W;have dO:=aJ.size;have dP:=av.size;have dQ:=W.lt;refine cZ (λC=>Ext w C/\aj (λr=>r=g) ab C/\∃Y Z:Int,Z≠0/\ai C g bO (js au Y Z 0 0 0 0 0 (.slice ν 0 0))) ?_ ?_
 rotate_left
 .intro aA R;have bj:=aJ.F av;rw[cJ,ao];refine⟨λ_=>?_,λ_=>R _ ⟨bj,aj.refl _ _,_,_,Ω,W⟩⟩;rw[bR,aY bO.p rfl];refine bs (g:=g) (o:=1) al.i rfl rfl W (by simp[js]) λdR cw dT cz=>?_;rw[bR,aY bO.p rfl];refine bs (g:=g) (o:=2) al.i rfl rfl cz (by simp[js]) λdU cA dV cB=>?_;have E:=cw.F cA;exact R _ ⟨bj.then E λr j he=>by have he:r=g:=he;omega,E,bad,11,Ω,cB⟩
 rintro C ⟨bl,aK,Y,Z,cC,bm⟩;have z3:=aK.size;have cE:bZ C g C.heap.size b3 100000 (σ ⟨(lex pl).1,0,ne,[]⟩):=by
  refine⟨p9 _,C,au,bf,0,_,[],[],Y,Z,0,0,0,0,0,rfl,aj.refl _ _,⟨_,bm⟩,bm,⟨⟨?_,λr j=>?_⟩,bn.nil _ _ _ _ _,rfl,λi h x hi=>by simp at hi⟩,λr j=>gF j,rfl,cC,Ξ,λ_=>rfl,trivial,bh,ct,rfl,?_⟩
  .refine (bg.aa (av.aa λ_=>False) λ_ _ h=>h).aa aK λr j he=>?_;have he:r=g:=he;obtain⟨c,M⟩:=bi r j;have:=M.lt;omega
  .obtain⟨c,M⟩:=bi r j;exact⟨c,(M.W av).aa aK λhe=>by have he:r=g:=he;have:=M.lt;omega⟩
  .have:bf.length=(lex pl).1.length:=by rw[<-bh,u9]
   simp only[List.length_nil];omega
 have dW:∀{Q:x4}{cF N:Nat}{H:ak}{so:Option aN},bZ Q g cF H N so->True:=λ_=>trivial;rw[dk (cs:=#[ce [],Δ 0,.slice ν 0 0,.slice ν 0 0]) Ψ];refine bo λB cG dX aM ay=>?_;have ay:ai cG B ev [ce [],Δ 0,.slice ν 0 0,.slice ν 0 0]:=ay;have dY:C.heap.size<=B:=Ω
 have dZ:=ay.lt;have cH:B≠g:=Ω
 have G:∀{Q ad:x4}{c:List x1},ai Q B ev c->aj (λr=>r=g) Q ad->ai ad B ev c:=λM E=>M.aa E λhe=>cH he;refine(Fh (cE.W aM)).Y ?_;rintro _ cI _ ⟨⟨aP,cK⟩,t,bq,rfl,ea,eb,cL⟩;refine bC cD.i λbt ec ed cM cN=>?_;refine b8 (vs:=[ce t,Δ bq]) cD.i rfl rfl (by intro v ac;simp at ac;rcases ac with rfl|rfl<;>rfl) cN λcO cP ee bu=>?_;have az:Ext cI cO:=cM.put cP Ω;have cQ:=(G ay aP).W az;rw[aO cD.p 0 bu rfl,bR,aY ev.p rfl];refine bs (g:=B) (o:=0) de.i rfl rfl cQ Ξ λbw aS ef aT=>?_;have aT:=aT;have cR:=(cK.W az).new aS λr j=>by have j:r=B:=j;omega
 have z4:=aM.size;have z5:=aP.size;have eg:=az.size;have bA:ai bw bt cD [ce t,Δ bq]:=bu.aa aS λhe=>by have he:bt=B:=he;omega
 rw[aO cD.p 0 bA rfl,pO de.u,bU,aO cD.p 1 bA rfl];have cS:aj (λr=>w.heap.size<=r) w bw:=((((bl.aa _).F (aM.aa _)).F (aP.Y λr _ h=>by have h:r=g:=h;omega)).F (az.aa _)).F (aS.Y λr _ h=>by have h:r=B:=h;omega);have up:∀{Q ad:x4},aj (λr=>w.heap.size<=r) w Q->aj (λr=>r=g) Q ad->aj (λr=>w.heap.size<=r) w ad:=λh k=>h.F (k.Y λr _ h=>by have h:r=g:=h;omega);refine(oU cR).Y ?_;rintro _ eh _ ⟨bD,af⟩;have cT:=up cS bD;have cV:=G aT bD;generalize aU:(((kY (σ ⟨(lex pl).1,0,ne,[]⟩)).map (·.2)).map (bp (decide ((64:Int)<(t.length:Int)))))=aV at af;refine(me af).Y ?_;rintro _ ei _ ⟨⟨bE,cW⟩,n,ej,rfl,bF,cX⟩;rw[bx,bz,bU];refine(oU cW).Y ?_;rintro _ ek _ ⟨bG,bH⟩;have cY:=up (up cT bE) bG;have c0:=G (G cV bE) bG;generalize bI:((bk 1 4611686018427387904 aV).map (·.2)).map (bp (decide (64<n)))=aX at bH;refine(me bH).Y ?_;rintro _ em _ ⟨⟨bJ,bL⟩,most,en,rfl,hm,c1⟩;rw[bx,bz];generalize bM:(bk 1 4611686018427387904 aX).map (·.2)=aZ at bL;refine(me bL).Y ?_;rintro _ eo _ ⟨⟨bN,c2⟩,a2,ep,rfl,bP,c3⟩;rw[bx,bz,bU];refine(oU c2).Y ?_;rintro _ er _ ⟨bQ,bS⟩;generalize bT:((bk 0 4611686018427387904 aZ).map (·.2)).map (bp (decide (256<a2)))=bV at bS;refine(me bS).Y ?_;rintro _ es _ ⟨⟨bW,c4⟩,k,et,rfl,hk,eu⟩;rw[bx,bz,bU];refine(oU c4).Y ?_;rintro _ ew _ ⟨bX,b0⟩;generalize b1:((bk 1 4611686018427387904 bV).map (·.2)).map (bp (decide (2147483648<k)))=ag at b0;have c5:=up (up (up (up (up cY bJ) bN) bQ) bW) bX;have c7:=G (G (G (G (G c0 bJ) bN) bQ) bW) bX;rw[bR,aY ev.p rfl];refine bs (g:=B) (o:=1) ax.i rfl rfl c7 Ξ λc8 b2 ey a8=>?_;have a8:=a8;have c9:=b0.new b2 λr j=>by have j:r=B:=j;omega
 have b4:aj (λr=>w.heap.size<=r) w c8:=c5.F (b2.Y λr _ h=>by have h:r=B:=h;omega);have ez:0<=n/\n<=4611686018427387904:=by
  cases A:bk 1 4611686018427387904 aV with
  |none=>have:=cX A;omega
  |some q=>have af:=bF q A;have:=oM A;omega
 have eA:0<=most/\most<=4611686018427387904:=by
  cases A:bk 1 4611686018427387904 aX with
  |none=>have:=c1 A;omega
  |some q=>have af:=hm q A;have:=oM A;omega
 have da:0<=a2/\a2<=4611686018427387904:=by
  cases A:bk 0 4611686018427387904 aZ with
  |none=>have:=c3 A;omega
  |some q=>have af:=bP q A;have:=oM (s':=q.2) A;omega
 have db:Zero (σ (⟨(lex pl).1,0,ne,[]⟩:aN)):=λs V=>by cases V;exact⟨rfl,by simp only;omega⟩
 have dc:Zero aV:=by rw[<-aU];exact(Rn db).big _
 have dd:Zero aX:=by rw[<-bI];exact(zero_num dc).big _
 have df:Zero aZ:=by rw[<-bM];exact zero_num dd
 have dg:Zero bV:=by rw[<-bT];exact(zero_num df).big _
 have b5:Zero ag:=by rw[<-b1];exact(zero_num dg).big _
 have eB:=b4.size;refine⟨λba O=>∃i:Nat,ba=Δ (i:Int)/\i<=n.toNat/\aj (λr=>w.heap.size<=r) w O/\∃ho gz acc so,ai O B ev [ce t,Δ k,ho,.slice ν 0 0]/\aH .i64 ax O gz ho acc/\(∀r,hv ho r->C.heap.size<=r)/\bZ O g C.heap.size b3 100000 so/\nd (gY most) n.toNat i ag acc so/\∀s,so=σ s->s.li=0/\acc.length+s.d9.length<=100000/\∀z∈acc,1<=z/\z<=aG,λba _=>n.toNat-(bY ba).toNat,
  ⟨0,rfl,X9 _,b4,_,0,[],ag,a8,aH.nil _ _ _ _,(λr j=>by obtain⟨a,aB,c,Y,Z⟩:=j;cases Y),c9,?_,λs V=>⟨(b5 s V).1,by simpa using(b5 s V).2,λz dh=>by cases dh⟩⟩,?_⟩
 .unfold nd;cases ag<;>rfl
 rintro _ O ⟨i,rfl,hi,bb,ho,gz,acc,so,b6,b7,b9,am,bc,ca⟩;refine a1 (λv di=>O=di/\((v= .bool ms/\i<n.toNat/\∃s,so=σ s)\/(v= .bool ne/\(so=ν\/i=n.toNat)))) ?_ ?_
 rotate_left
 .intro aA R;rw[aW,ao];refine⟨λcb=>?_,λeC=>R _ _ ⟨rfl,.inr ⟨rfl,.inr Ω⟩⟩⟩;rw[nc am];cases so with
  |none=>exact R _ _ ⟨rfl,.inr ⟨rfl,.inl rfl⟩⟩
  |some s=>exact R _ _ ⟨rfl,.inl ⟨rfl,Ω,s,rfl⟩⟩
 rintro _ _ ⟨rfl,⟨rfl,cb,s,rfl⟩|⟨rfl,dj⟩⟩
 .rw[bK];obtain⟨dl,eD,dm⟩:=ca s rfl;refine(me am).Y ?_;rintro _ eE _ ⟨⟨dn,dp⟩,z,eF,rfl,bd,eH⟩;rw[bx,bz,bU];refine(oU dp).Y ?_;rintro _ eJ _ ⟨dq,dr⟩;have aD:=dn.F dq;have cc:=G b6 aD;have ds:∀r,r=g->iT O r\/O.heap.size<=r:=λr j=>(mf am r j).imp (λ⟨e,c,M,dt,du,_⟩=>⟨e,c,M,dt,du⟩) id;have cd:=e0 b7 aD ds;rw[aL ev.p 2 cc rfl];refine eI aC.u ax.i rfl λa22 eK dv eL S dw=>?_;refine iF aC.u ax.i rfl (cd.W S) dw.ls Θ Θ λdx dy eM aE dz cf=>?_;have cg:=cc.W S;have ch:=cg.aa cf λhe=>cv (cd.W S) cg Φ he rfl;rw[bR,aY ev.p rfl];refine bs (g:=B) (o:=2) aC.i aE.ls.cells.1 aE.ls.cells.2 ch Ξ λdA ci eN be=>?_;have be:=be;rw[aR,hx Ω Ω];have cj:aj (λr=>hv ho r\/r=B) dv dA:=(cf.Y λr _ h=>.inl h).F (ci.Y λr _ h=>.inr h);have ck:∀r,(hv ho r\/r=B)->C.heap.size<=r:=λr j=>j.elim (b9 r) λj=>Ω
  have eO:=bl.size;have eP:=aD.size;have z22:=S.size;have eQ:=bb.size;have eR:=am.lt;refine⟨⟨i+1,rfl,Ω,((up bb aD).F (S.aa _)).F (cj.Y λr _ h=>by have:=ck r h;omega),dx,dy,acc++[z],((bk 1 most (σ s)).map (·.2)).map (bp (decide (32<z))),be,bB aE ci λr j he=>?_,λr j=>?_,(dr.W S).new cj ck,?_,λs' K=>?_⟩,by simp only[bY];omega⟩
  .have he:r=B:=he;subst he;exact cv aE ch Φ j rfl
  .rcases dz r j with h|h
   .exact b9 r h
   .omega
  .refine bc.step cb ?_ λq A=>?_
   .show (V9 _ (br 1 most s)).map _=_;unfold gY;cases A:br 1 most s with
    |none=>rfl
    |some q=>
     have:=bd q A;obtain⟨cl,aI⟩:=q;subst this;rfl
   .unfold gY at A;cases L:br 1 most s with
    |none=>rw[L]at A;cases A
    |some an=>
     rw[L]at A;have:=bd an L;obtain⟨cl,aI⟩:=an;cases A;exact this
  .cases L:br 1 most s with
   |none=>
    have K:(V9 (λx=>x.2) (br 1 most s)).map (bp (decide (32<z)))=σ s':=K;rw[L]at K;cases K
   |some an=>
    have K:(V9 (λx=>x.2) (br 1 most s)).map (bp (decide (32<z)))=σ s':=K;rw[L]at K;have dC:=bd an L;obtain⟨cl,aI⟩:=an;cases K;have cm:=dS L;have fX:=(jD L).1;have eS:=cm.1;refine⟨by show aI.li=0;rw[cm.eqs.1];exact dl,?_,λy ap=>?_⟩
    .rw[o4];show acc.length+1+aI.d9.length<=100000;omega
    .rcases j5.1 ap with ap|ap
     .exact dm y ap
     .rw[Z7.1 ap,dC];exact⟨fX.1,by unfold aG;have:=fX.2;simp only at*;omega⟩
 .rw[a6];have dD:ag.bind (c6 (gY most) n.toNat [])=so.map λs=>(acc,s):=by
   unfold nd at bc;rw[bc];cases so with
   |none=>rfl
   |some s=>
    rcases dj with h|rfl
    .cases h
    .simp only[V8];rfl
  refine Rm bb b6 b7 am (λs V=>?_) Ω Ω ae da λv I X dE J dF dG cn=>?_
  .obtain⟨dH,eU,a3⟩:=ca s V;exact⟨λ_=>by rw[dH];omega,Ω,a3,Ω⟩
  .have dI:(decide ((64:Int)<(t.length:Int)))=decide (64<t.length):=by rw[U1,m6,m6];omega
   rw[dI]at aU;have dJ:=Rk aU.symm (λq A=>cL q A) bI.symm bF bM.symm hm bT.symm bP b1.symm hk dD dF;have P:=Ro dJ Ω;have cp:¬0<=bad↔(lex pl).2=ms:=by
    rw[cu];cases (lex pl).2<;>simp
   cases dE with
   |none=>
    obtain⟨aB,e,rfl⟩:=cn λs V=>by cases V
    exact⟨J,aB,e,λ_=>rfl,λf ah=>by rw[P]at ah;cases ah⟩
   |some s=>
    have P:iy pl=if s.d9=[]/\(lex pl).2=ms/\s.big=ne then σ ⟨t,k,acc,X⟩else ν:=P;by_cases E:s.d9=[]/\(lex pl).2=ms/\s.big=ne
    .rw[lw E]at P;obtain⟨rfl,dK⟩:=dG s rfl ⟨E.1,cp.2 E.2.1,E.2.2⟩;exact⟨J,_,_,(λah=>by rw[P]at ah;cases ah),λf ah=>⟨B,rfl,by rw[P]at ah;cases ah;exact dK⟩⟩
    .rw[m1 E]at P;obtain⟨aB,e,rfl⟩:=cn λs' K aw=>by
      cases K;exact E ⟨aw.1,cp.1 aw.2.1,aw.2.2⟩
     exact⟨J,aB,e,λ_=>rfl,λf ah=>by rw[P]at ah;cases ah⟩
theorem Fs{a b:Int}:aq x7 KV [Δ a,Δ b] w λv I=>v=Δ (min a b)/\Ext w I:=by
 refine aF func208 ?_;rw[aW,ao];exact⟨λh=>⟨by congr 1;omega,Ext.refl _⟩,λh=>⟨by congr 1;omega,Ext.refl _⟩⟩
theorem Rq{s:kB}{x:cE}(h:iH w s x)(O:(x.lines.map (·.1)).Nodup)(P:aQ .i64 w aV t):aq x7 Ly [.agg (fW s).toArray,aV,Δ k] w λv I=>v=Δ (lr x k t)/\Ext w I:=by
 obtain⟨⟨g1,Q⟩,⟨an,R⟩,S,ap,L,f,V,E⟩:=id h;refine aF func265 ?_;refine bo λW U av z a=>?_;have a:ai U W bj (fW s):=by
  obtain⟨_,_,_,X⟩:=dA Q.ls;obtain⟨_,_,_,Y⟩:=dA R.ls;obtain⟨_,_,_,_,_,Z,_⟩:=f.sl;simp only[fW,X,Y,Z]at a ⊢;exact a
 have aa:=f.W z;have ac:L.length=x.lines.length:=by rw[<-E,u9]
 rw[aO bj.p 2 a rfl,aO bj.p 3 a rfl,dO ew.u aa,S];refine cb.range L.length (λi j ab=>Ext U ab/\∃c:Int,j=Δ c/\min c k=mX x k i t) f.le ⟨Ext.refl _,x.other,rfl,(Eb x k t).symm⟩ ?_ ?_
 .rintro i _ ab ad hi ⟨e,c,rfl,q⟩ ae;obtain⟨y,A⟩:=aK (l:=L) hi;obtain⟨gy,G⟩:=V y (x6 A);have B:=z.F e;have af:x.lines[i]?=σ (y.t,y.c):=by rw[<-E,v8,A];rfl
  have H:=Ed (k:=k) O af t;refine bM Ω ?_;refine a1 (λj J=>Ext U J/\∃c:Int,j=Δ c/\min c k=mX x k (i+1) t) ?_ ?_
  .rintro j J ag;rw[aR];exact ae _ _ ag
  intro aA K;have M:=f.W B;rw[cf rfl ew.u cr.i M hi,bF cr.p cr.i rfl (M.range A)];refine bC cr.i λau aw ax ah aj=>?_;refine b8 (vs:=p6 y) cr.i rfl rfl (yP G) aj λay ak az N=>?_;have r:=ah.put ak Ω;rw[aO cr.p 0 N rfl];refine(yO ((G.ls.W B).W r) ((P.W B).W r)).Y ?_;rintro _ aB _ ⟨rfl,C⟩;rw[ao];refine⟨λhe=>?_,λal=>?_⟩
  .rw[aO cr.p 1 (N.W C) rfl];refine K _ _ ⟨(e.F r).F C,y.c,rfl,?_⟩;rw[H,lw he.symm]
  .refine K _ _ ⟨(e.F r).F C,c,rfl,?_⟩;rw[H,m1 λhe=>al he.symm,q]
 .rintro _ ab ad ⟨e,c,rfl,q⟩;rw[ac,Ec]at q;refine cc Ω ?_;refine Fs.Y ?_;rintro _ aC _ ⟨rfl,am⟩;exact⟨by rw[q],(z.F e).F am⟩
theorem Rr{cQ:x1}(h:aQ .i64 w cQ l)(L:l.Nodup)(ah:l.length<=64):aq x7 Lx [cQ] w λv I=>Ext w I/\∃g,aH .i64 al I g v (bH l)/\∀r,hv v r->w.heap.size<=r:=by
 refine aF func264 ?_;have M:∀i,i<=64->(((X2 i).map λ(v:Nat)=>(v:Int)).filter λv=>decide (v∈l)).length<=i:=λi _=>by
  have:=List.length_filter_le (λv=>decide (v∈l)) ((X2 i).map λ(v:Nat)=>(v:Int));simp at this;omega
 refine cb.range 64 (λi e U=>Ext w U/\∃g,aH .i64 al U g e (((X2 i).map λ(v:Nat)=>(v:Int)).filter λv=>decide (v∈l))/\∀r,hv e r->w.heap.size<=r) Ω ⟨Ext.refl _,0,aH.nil _ _ _ _,λr y=>by obtain⟨a,n,c,N,ai⟩:=y;cases N⟩ ?_ ?_
 .rintro i e U k hi ⟨z,g,hm,C⟩ hk;refine bM Ω ?_;rw[a7 aC.u (h.W z)];have O:=M i Ω;generalize P:(((X2 i).map λ(v:Nat)=>(v:Int)).filter λv=>decide (v∈l))=A at hm O;refine cb.range l.length (λj e ab=>Ext w ab/\∃g,aH .i64 al ab g e (A++(if(i:Int)∈l.take j then[(i:Int)]else[]))/\∀r,hv e r->w.heap.size<=r) h.le ⟨z,g,by simpa using hm,C⟩ ?_ ?_
  .rintro j Q ab R S ⟨q,E,f,s⟩ V;obtain⟨x,J⟩:=aK (l:=l) S;refine bM Ω ?_;refine a1 (λe B=>Ext w B/\∃g,aH .i64 al B g e (A++(if(i:Int)∈l.take (j+1)then[(i:Int)]else[]))/\∀r,hv e r->w.heap.size<=r) ?_ ?_
   .rintro aj B W;rw[aR];exact V _ _ W
   intro aA K;have G:(i:Int)∈l.take (j+1)↔(i:Int)∈l.take j\/(i:Int)=x:=by
    rw[u7,J,o8,j5,Z7]
   rw[bm aC.u ax.i Ψ (h.W q) J,bl,ao];refine⟨λhe=>?_,λX=>?_⟩
   .have Y:(i:Int)∉l.take j:=λhm=>by
     obtain⟨p,ae⟩:=Y4.1 hm;have Z:p<j:=by have:=(x5.1 ae).1;rw[j9]at this;omega
     rw[W3 Z,<-he]at ae;have:=l8 L ae J;omega
    rw[m1 Y,V2]at f;refine eI av.u al.i rfl λa3 ak B am H aa=>?_;refine iF av.u al.i rfl (f.W H) aa.ls Θ Θ λan ac ap ad af ag=>?_;have au:=q.size;have z3:=H.size;refine K _ _ ⟨(q.F H).then ag λr y he=>by have:=s r he;omega,ac,?_,λr y=>(af r y).elim (s r) λh=>Ω⟩;rw[lw (G.2 (.inr he.symm))];exact ad
   .refine K _ _ ⟨q,E,?_,s⟩;have:((i:Int)∈l.take (j+1))=((i:Int)∈l.take j):=propext ⟨λaw=>(G.1 aw).resolve_right λhe=>X he.symm,λaw=>G.2 (.inl aw)⟩;simp only[this];exact f
  .rintro Q ab R ⟨q,E,f,s⟩;rw[o6]at f;refine cc Ω ?_;rw[aR];refine hk _ _ ⟨q,E,?_,s⟩;rw[List.range_succ,Z2,List.filter_append,P];by_cases hm:(i:Int)∈l
   .rw[lw hm]at f;simpa[hm]using f
   .rw[m1 hm]at f;simpa[hm]using f
 .rintro e U k ⟨z,g,hm,C⟩;rw[aW,ao];exact⟨λh=>Ω,λ_=>⟨z,g,hm,C⟩⟩
structure fY where
 aZ:x1
 ho:x1
 bd:x1
 sc:Λ
 cs:Λ
def dY(h:fY):List x1:=[h.aZ,h.ho,h.bd]
def rm(h:fY)(r:Nat):Prop:=hv h.bd r\/hv h.aZ r\/hv h.ho r
def gp(w:x4)(d6:Λ)(h:fY):Prop:=(∃g,aH .i64 al w g h.aZ h.sc)/\(∃g,aH .i64 al w g h.ho (ci d6 h.sc))/\∃g,aH .i64 ax w g h.bd h.cs
theorem gp.W{h:fY}(aw:gp w d6 h)(J:Ext w I):gp I d6 h:=by
 obtain⟨⟨g1,h1⟩,⟨a,e⟩,f,j⟩:=aw;exact⟨⟨g1,h1.W J⟩,⟨a,e.W J⟩,f,j.W J⟩
theorem gp.one{h:fY}(aw:gp w d6 h):∀u∈dY h,u.oneCell'=ms:=by
 obtain⟨⟨g1,h1⟩,⟨f,a⟩,j,e⟩:=aw;intro u hu;simp[dY]at hu;rcases hu with rfl|rfl|rfl
 .exact h1.ls.cells.2
 .exact a.ls.cells.2
 .exact e.ls.cells.2
theorem Ft{f:cd}{x:cE}{Y:kB}(h:iH w Y x)(az:fC N f)(bn:x∈f.d8)(bV:aH .i64 ax w gz sv f.d6):
  aq x7 KS [.agg (fW Y).toArray,sv,Δ f.k] w λv I=>Ext w I/\∃c:fY,v= .agg (dY c).toArray/\c.sc=bH x.scope/\c.cs=(jY f.d6 f.k x).2/\gp I f.d6 c/\∀r,rm c r->w.heap.size<=r:=by
 obtain⟨Z,bW,dr⟩:=az.d8 x bn;have ac:=vd Z az.d6.2.1;have bp:=vc ac Z.scope.1;have ds:(bH x.scope).length<=6:=by rw[bp.length_eq];exact bW
 have bX:=re az bn;have dt:=D4 x.scope;obtain⟨⟨g1,aB⟩,⟨du,bY⟩,dv,dw,bZ⟩:=id h;refine aF func204 ?_;refine bo λaT U dx br ad=>?_;have ad:ai U aT bj (fW Y):=by
  obtain⟨L,b0,_⟩:=bZ;obtain⟨_,_,_,C⟩:=dA aB.ls;obtain⟨_,_,_,J⟩:=dA bY.ls;obtain⟨_,_,_,_,_,b1,_⟩:=b0.sl;simp only[fW,C,J,b1]at ad ⊢;exact ad
 refine bC be.i λb2 ab dz aU aW=>?_;have a2:=br.F aU;rw[aO bj.p 0 (ad.W aU) rfl];refine(Rr (aB.ls.W a2) Z.scope.1 Ω).Y ?_;rintro aZ dC _ ⟨aD,gr,a6,dD⟩;rw[dk (cs:=#[aZ,.slice ν 0 0,.slice ν 0 0]) (by obtain⟨_,_,_,rfl⟩:=dA a6.ls;kernel_rfl)];refine bC be.i λB dE b4 b7 b9=>?_;refine b8 (vs:=[aZ,.slice ν 0 0,.slice ν 0 0]) be.i rfl rfl (by intro u hu;simp at hu;rcases hu with rfl|rfl;exact a6.ls.cells.2;rfl) b9 λQ ca dF S=>?_;have aE:=b7.put ca Ω;have bt:=(a2.F aD).F aE;have R:=a6.W aE;have bu:=((ad.W aU).W aD).W aE;have bw:=(aW.W aD).W aE;have dG:=a2.size;have z3:=aD.size;have dH:=bt.size;have dI:=S.lt;have dJ:=b4;rw[aO be.p 0 S rfl,a7 av.u R.ls];have bx:∀v∈bH x.scope,0<=v/\v<f.d6.length:=λv hm=>Z.scope.2 v (by grind);have a8:∀{I:x4},aj (λr=>r=B\/Q.heap.size<=r) Q I->Ext w I:=λba=>bt.then ba Ω;have ce:(ci f.d6 (bH x.scope)).length=(bH x.scope).length:=by simp[ci]
 refine b6.range (bH x.scope).length (λi W=>aj (λr=>r=B\/Q.heap.size<=r) Q W/\∃ho gs,ai W B be [aZ,ho,.slice ν 0 0]/\aH .i64 al W gs ho ((ci f.d6 (bH x.scope)).take i)/\∀r,hv ho r->Q.heap.size<=r) Ω
  ⟨aj.refl _ _,_,0,S,aH.nil _ _ _ _,λr s=>by obtain⟨a,n,c,C,J⟩:=s;cases C⟩ ?_ ?_
 .rintro i W cf hi ⟨K,ho,gs,ch,af,cj⟩ ck;obtain⟨v,bz⟩:=aK (l:=(bH x.scope)) hi;have dK:=bx v (x6 bz);have cl:=bB R K λr s V=>by
   rcases V with rfl|V
   .exact cv R S Φ s rfl
   .obtain⟨C,J⟩:=b5 R s;omega
  refine bM Ω ?_;rw[bm av.u al.i Ψ cl.ls bz];intro dL ag _ _;have bA:=ch.W ag;have cm:f.d6[v.toNat]?=σ (f.d6.getD v.toNat 0):=by grind
  rw[aO be.p 1 bA rfl,fO (y:=v) (i:=v.toNat) Ω aC.u ax.i Ψ (bV.W ((a8 K).F ag)).ls cm];refine eI av.u al.i rfl λdM dN cn dO ah cp=>?_;refine⟨.inl ah,?_⟩;have cq:=(af.W ag).W ah;refine iF av.u al.i rfl cq cp.ls Θ Θ λcr ct dP bD dQ bE=>?_;have cu:=bA.W ah;have cw:=cu.aa bE (by grind);rw[aY be.p rfl];refine bs (g:=B) (o:=1) av.i bD.ls.cells.1 bD.ls.cells.2 cw Ξ λcz cA dR cB=>?_;rw[aR];have cC:aj (λr=>hv ho r\/r=B) cn cz:=(bE.Y (by grind)).F (cA.Y Ω);have cD:=K.size;have dS:=(ag.F ah).size;refine ck _ ⟨((K.F (ag.aa _)).F (ah.aa _)).F (cC.Y (by grind)),cr,ct,cB,?_,by grind⟩
  grind [ci,u7,bB]
 rintro W cf ⟨K,ho,gs,bG,af,cj⟩;rw[<-ce,o6]at af;refine cc Ω ?_;have dT:=a8 K;have aG:cg (ci f.d6 (bH x.scope)):=⟨Ω,oN az.d6.2.2 bx⟩;have cF:=bX.small;rw[aO be.p 1 bG rfl];refine(uD _ af.ls aG).Y ?_;rintro cG E _ ⟨aI,cH⟩;have dU:=jg aG.2;have dV:=nT aG.2;have dW:aX (ci f.d6 (bH x.scope))<=4096:=cF;rw[jB df.u cH];have aJ:aj (λr=>r=B\/Q.heap.size<=r) Q E:=K.F (aI.aa _);have ak:=bG.W aI;have bI:=af.W aI;have cD:=K.size;have dX:=aI.size;have bc:aH .i64 al E gr aZ (bH x.scope):=bB R aJ λr s V=>by
  rcases V with rfl|V
  .exact cv R S Φ s rfl
  .obtain⟨C,J⟩:=b5 R s;omega
 have bJ:ai E aT bj (fW Y):=bu.aa aJ λV=>V.elim (λhe=>by subst he;exact m2 (eJ bu S) Φ) Ω;have bK:=bw.aa aJ λV=>V.elim (λhe=>by have:=aW.lt;omega) λh=>by have:=bw.lt;omega
 have bL:∀{I:x4},aj (λr=>r=B\/E.heap.size<=r) E I->Ext w I:=λba=>(a8 aJ).then ba Ω;have dZ:B<E.heap.size:=ak.lt;refine b6.range (bq (ci f.d6 (bH x.scope))).length (λq z=>aj (λr=>r=B\/E.heap.size<=r) E z/\∃bd am,ai z B be [aZ,ho,bd]/\aH .i64 ax z am bd (((bq (ci f.d6 (bH x.scope))).take q).map λt=>lr x f.k (q3 x.scope (bH x.scope) t))/\∀r,hv bd r->E.heap.size<=r) Ω
  ⟨aj.refl _ _,_,0,ak,aH.nil _ _ _ _,λr s=>by obtain⟨a,n,c,C,J⟩:=s;cases C⟩ ?_ ?_
 .rintro q z cI cJ ⟨H,bd,am,an,ap,cK⟩ cL;obtain⟨t,bN⟩:∃t,(bq (ci f.d6 (bH x.scope)))[q]?=σ t:=⟨_,x8 cJ⟩;have ea:t.length=(bH x.scope).length:=by
   have eb:=qZ aG.2 (i:=q) Ω
   grind [kQ]
  have bf:=bL H;have cM:ay.rep (α:=List (Λ)) ms (fU W.heap.size) b3 z [cG] (bq (ci f.d6 (bH x.scope))):=by grind [ay.aa]
  have X:∀{M:Nat}{O:x1}{P:Λ},aH .i64 al E M O P->aH .i64 al z M O P:=λhm=>bB hm H λr s V=>by
   rcases V with rfl|V
   .exact cv hm ak Φ s rfl
   .obtain⟨C,J⟩:=b5 hm s;omega
  have bO:=X bc;have bP:ai z aT bj (fW Y):=bJ.aa H λV=>V.elim (λhe=>by subst he;exact m2 (eJ bJ ak) Φ) Ω;refine bM Ω ?_;refine iN (α:=Λ) rfl rfl df.u av.i Ψ cM bN λaV cN=>?_;have cO:=dy cN;rw[aO bj.p 0 bP rfl,a7 aC.u (aB.ls.W bf)];have z12:=H.size;refine cb.range x.scope.length (λp G aL=>Ext z aL/\∃go,aH .i64 ax aL go G ((x.scope.take p).map λv=>t.getD ((bH x.scope).idxOf v) 0)/\∀r,hv G r->z.heap.size<=r) Ω ⟨Ext.refl _,0,aH.nil _ _ _ _,λr s=>by obtain⟨a,n,c,C,J⟩:=s;cases C⟩ ?_ ?_
  .rintro p G aL cP ae ⟨au,go,aM,cQ⟩ ec;obtain⟨v,bQ⟩:=aK (l:=x.scope) ae;have cR:v∈bH x.scope:=bp.mem_iff.2 (x6 bQ);refine bM Ω ?_;have cS:=bf.F au;have cT:=an.W au;have cU:=bO.W au;rw[bm aC.u ax.i Ψ (aB.ls.W cS) bQ,aO be.p 0 cT rfl,a7 av.u cU.ls];generalize ed:((x.scope.take p).map λv=>t.getD ((bH x.scope).idxOf v) 0)=A at aM;have ee:A.length=p:=by grind
   refine cb.range (bH x.scope).length (λj G aN=>Ext z aN/\∃go,aH .i64 ax aN go G (A++if v∈(bH x.scope).take j then[t.getD ((bH x.scope).idxOf v) 0]else[])/\∀r,hv G r->z.heap.size<=r) Ω (by grind) ?_ ?_
   .rintro j cV aN cW cX ⟨aw,cY,aP,cZ⟩ ef;obtain⟨u,hu⟩:=aK (l:=(bH x.scope)) cX;have c0:=bO.W aw;refine bM Ω ?_;refine a1 (λG bg=>Ext z bg/\∃go,aH .i64 ax bg go G (A++if v∈(bH x.scope).take (j+1)then[t.getD ((bH x.scope).idxOf v) 0]else[])/\∀r,hv G r->z.heap.size<=r) ?_ ?_
    .rintro eg bg eh;rw[aR]
     grind
    intro aA c1;have ei:v∈(bH x.scope).take (j+1)↔v∈(bH x.scope).take j\/v=u:=by
     grind [u7]
    rw[bm av.u al.i Ψ c0.ls hu,bl,ao];refine⟨λhe=>?_,λej=>?_⟩
    .have c2:v∉(bH x.scope).take j:=λhm=>by
      grind [Y4]
     rw[m1 c2,V2]at aP;have c3:t[j]?=σ (t.getD ((bH x.scope).idxOf v) 0):=by
      grind
     rw[bm av.u al.i Ψ (cO.W aw) c3];refine eI aC.u ax.i rfl λek em en eo bh c4=>?_;refine iF aC.u ax.i rfl (aP.W bh) c4.ls Θ Θ λep c5 er es et c6=>?_;have eu:=aw.size;have ev:=bh.size;refine c1 _ _ ⟨(aw.F bh).then c6 (by grind),c5,?_,by grind⟩
     grind
    grind
   .rintro cV aN cW ⟨aw,cY,aP,cZ⟩;rw[o6,lw cR]at aP;refine cc Ω ?_;rw[aR]
    grind [u7]
  .rintro G aL cP ⟨au,go,aM,cQ⟩;rw[o6]at aM;refine cc Ω ?_;intro ew bR _ _;have aQ:=au.F bR;have c7:=an.W aQ;have c8:=bP.W aQ;rw[aO be.p 2 c7 rfl,bF bj.p bj.i rfl c8.range];refine(Rq (h.W (bf.F aQ)) Z.lines.1 (aM.ls.W bR)).Y ?_;rintro _ ey _ ⟨rfl,bi⟩;refine⟨.inl bi,?_⟩;refine eI aC.u ax.i rfl λez eA c9 eB bS da=>?_;refine⟨.inl (bi.F bS),?_⟩;have aS:=(aQ.F bi).F bS;have db:=ap.W aS;refine iF aC.u ax.i rfl db da.ls Θ Θ λdc dd eC bk eD bT=>?_;have de:=an.W aS;have dg:=de.aa bT (by grind);rw[aY be.p rfl];refine bs (g:=B) (o:=2) aC.i bk.ls.cells.1 bk.ls.cells.2 dg Ξ λdh bU eE di=>?_;rw[aR];have dj:aj (λr=>hv bd r\/r=B) c9 dh:=(bT.Y (by grind)).F (bU.Y Ω);have eF:=aS.size;refine cL _ ⟨(H.F (aS.aa _)).F (dj.Y (by grind)),dc,dd,di,?_,by grind⟩;rw[u7,bN,o8,Z2];exact bB bk bU (by grind)
 .rintro z cI ⟨H,bd,am,an,ap,cK⟩;rw[o6]at ap;refine cc Ω ?_;have X:∀{M:Nat}{O:x1}{P:Λ},aH .i64 al E M O P->aH .i64 al z M O P:=λhm=>bB hm H λr s V=>by
   rcases V with rfl|V
   .exact cv hm ak Φ s rfl
   .obtain⟨C,J⟩:=b5 hm s;omega
  let c:fY:=⟨aZ,ho,bd,bH x.scope,(jY f.d6 f.k x).2⟩;have dl:gp z f.d6 c:=⟨⟨gr,X bc⟩,⟨gs,X bI⟩,am,ap⟩;rw[bF be.p be.i rfl (show z.rangeAt B 0 (dY c)from an.range)];have dm:=bK.aa H λV=>V.elim (λhe=>by have:=aW.lt;omega) λh=>by have:=bK.lt;omega
  refine b8 (vs:=dY c) be.i rfl rfl dl.one dm λdn dp eH dq=>?_;rw[gk be.p be.i rfl dq.range];have bb:∀{M:Nat}{O:x1}{P:Λ}{e:r8},e≠be->aH .i64 e z M O P->aH .i64 e dn M O P:=by grind [bB,cv]
  refine⟨(bL H).then dp λr s he=>by have he:r=b2:=he;have:=br.size;omega,c,rfl,rfl,rfl,⟨⟨gr,bb Φ (X bc)⟩,⟨gs,bb Φ (X bI)⟩,am,bb Φ ap⟩,λr s=>?_⟩;rcases s with s|s|s
  all_goals grind
theorem Fu{h:fY}{g:Nat}(e:gp w d6 h)(a:ai I g be (x1.agg (dY h).toArray).cells.toList):ai I g be (dY h):=by
 obtain⟨⟨g1,h1⟩,⟨x,f⟩,y,j⟩:=e;obtain⟨_,_,_,q⟩:=dA h1.ls;obtain⟨_,_,_,r⟩:=dA f.ls;obtain⟨_,_,_,s⟩:=dA j.ls;simp only[dY,q,r,s]at a ⊢;exact a
theorem Rs{a b:fY}(R:gp w d6 a)(S:gp w d6 b)(X:mb a.sc)(Y:mb b.sc):aq x7 BA [.agg (dY a).toArray,.agg (dY b).toArray] w λv I=>v= .bool (decide (dt a.sc<dt b.sc))/\Ext w I:=by
 obtain⟨⟨ga,V⟩,_⟩:=id R;obtain⟨⟨aw,Z⟩,_⟩:=id S;have H:=(yh X Y).1;refine aF func206 ?_;refine bo λg1 U ax aa L=>?_;refine bo λac ab ay W M=>?_;have L:=(Fu R L).W W;have M:=Fu S M;have q:=aa.F W;have r:=V.ls.W q;have A:=Z.ls.W q;have s:∀{I:x4},Ext ab I->∀{K:x1->Prop},ad x7 (u6 be (Γ g1) 0) I (λt=>ad x7 (u4 av t) I K)=K a.aZ:=λJ K=>by
  rw[aO be.p 0 (L.W J) rfl]
 have B:∀{I:x4},Ext ab I->∀{K:x1->Prop},ad x7 (u6 be (Γ ac) 0) I (λt=>ad x7 (u4 av t) I K)=K b.aZ:=λJ K=>by
  rw[aO be.p 0 (M.W J) rfl]
 rw[s (Ext.refl _),a7 av.u r,B (Ext.refl _),a7 av.u A,bG,ao];refine⟨λae=>?_,λaf=>?_⟩
 .rw[s (Ext.refl _),a7 av.u r,B (Ext.refl _),a7 av.u A,aW];refine⟨?_,q⟩;congr 1;rw[U1,m6,m6,H];exact⟨λh=>.inl Ω,λh=>by rcases h with h|h<;>omega⟩
 have ag:a.sc.length=b.sc.length:=by have:=X0.1 af;omega
 rw[s (Ext.refl _),a7 av.u r];refine cb.range a.sc.length (λi _ N=>Ext ab N/\∀(j:Nat)(x y:Int),j<i->a.sc[j]?=σ x->b.sc[j]?=σ y->x=y) V.ls.le ⟨Ext.refl _,λj x y ah=>Ω⟩ ?_ ?_
 .rintro i _ N k hi ⟨O,C⟩ hk;obtain⟨x,J⟩:=aK (l:=a.sc) hi;obtain⟨y,E⟩:=aK (l:=b.sc) (i:=i) Ω;have e:=vn C Ω Ω;have ai:a.sc.drop i=x::a.sc.drop (i+1):=by rw[Y8 hi,(x5.1 J).2]
  have aj:b.sc.drop i=y::b.sc.drop (i+1):=by rw[Y8 (show i<b.sc.length by omega),(x5.1 E).2]
  rw[ai,aj]at e;simp only[j2]at e;refine bM Ω ?_;intro az ak _ _;have f:=O.F ak;rw[s f,bm av.u al.i Ψ (r.W f) J,B f,bm av.u al.i Ψ (A.W f) E,bG,ao];refine⟨λae=>?_,λhe=>?_⟩
  .intro aA am _ _;have z:=f.F am;rw[s z,bm av.u al.i Ψ (r.W z) J,B z,bm av.u al.i Ψ (A.W z) E,aW];refine⟨?_,q.F z⟩;congr 1;rw[U1,m6,m6,H,e];by_cases G:x<y
   .rw[lw G];exact⟨λ_=>.inr ⟨ag,Ω⟩,λ_=>G⟩
   .rw[m1 G,lw (show y<x by omega)];exact⟨λh=>m2 h G,λh=>by rcases h with h|h<;>omega⟩
  .rw[aR];refine hk _ _ ⟨f,λj an ap ah P Q=>?_⟩;by_cases au:j=i
   .subst au;rw[J]at P;rw[E]at Q;cases P;cases Q;exact X0.1 he
   .exact C j an ap Ω P Q
 .rintro _ N k ⟨O,C⟩;rw[aW,ao];refine⟨λh=>Ω,λ_=>⟨?_,q.F O⟩⟩;congr 1;symm;rw[decide_eq_false_iff_not,H];have e:=vn C (p9 _) Ω;rw[List.drop_length,show b.sc.drop a.sc.length=[]from List.drop_eq_nil_of_le Ω]at e;rw[e];simp only[j2];omega
def dU(h:fY):cX:=(h.sc,h.cs)
def mg(w:x4)(B g:Nat)(v:x1)(d6:Λ)(L:List fY):Prop:=bn dY 3 be w g v L/\(∀h∈L,gp w d6 h/\∀r,rm h r->B<=r)/\(∀(i j:Nat)x y,L[i]?=σ x->L[j]?=σ y->i≠j->∀r,hv x.bd r->¬hv y.bd r)/\∀r,hp v r->B<=r
theorem oV{h:fY}(z:gp w d6 h)(s:aj S w I)(x:∀r,S r->(∃e c,ai w r e c/\e≠al/\e≠ax)\/w.heap.size<=r\/((∃c,ai w r ax c)/\¬hv h.bd r)):gp I d6 h:=by
 obtain⟨⟨g1,h1⟩,⟨A,B⟩,C,j⟩:=z;have y:∀{g:Nat}{v:x1}{l:Λ},aH .i64 al w g v l->aH .i64 al I g v l:=λhm=>bB hm s λr a V=>by
  rcases x r V with⟨e,c,f,q,_⟩|E|⟨⟨c,f⟩,_⟩
  .exact cv hm f (λhe=>q he.symm) a rfl
  .obtain⟨F,G⟩:=b5 hm a;omega
  .exact cv hm f Φ a rfl
 refine⟨⟨g1,y h1⟩,⟨A,y B⟩,C,bB j s λr a V=>?_⟩;rcases x r V with⟨e,c,f,_,q⟩|E|⟨_,H⟩
 .exact cv j f (λhe=>q he.symm) a rfl
 .obtain⟨F,G⟩:=b5 j a;omega
 .exact H a
theorem mg.W{g:Nat}{v:x1}{L:List fY}(h:mg w B g v d6 L)(J:Ext w I):mg I B g v d6 L:=⟨h.1.W J,λx a=>⟨(h.2.1 x a).1.W J,(h.2.1 x a).2⟩,h.2.2⟩
section
variable{α:Type}{f:α->List x1}{k:Nat}{P:W5}{w:x4}{e:r8}{g:Nat}{v:x1}{L:List α}
theorem Rt{M:List α}(h:bn f k e w g v L)(ah:L.map f=M.map f):bn f k e w g v M:=by
 have j:L.length=M.length:=by have:=congrArg List.length ah;simpa using this
 have hm:L.flatMap f=M.flatMap f:=by rw[List.flatMap_def,List.flatMap_def,ah]
 refine⟨by rw[<-j,<-hm];exact h.1,λa q=>?_⟩;obtain⟨b,r,he⟩:=o9.1 (show f a∈L.map f by rw[ah];exact o9.2 ⟨a,q,rfl⟩);rw[<-he];exact h.2 b r
theorem Fv{t:r8}{b l bg:Nat}{low high:Option x1}{K:x1->Prop}(s:P.underlying t=σ (.slice e))(hi:aS P e k b z)(h:bn f k e w g v L)(h1:nL low l)(x:nM high L.length bg)(q:l<=bg)(aw:bg<=L.length)(y:∀r,(∀I,bn f k e I g v L->cn I k r ((L.drop l).take (bg-l)).length (((L.drop l).take (bg-l)).flatMap f))->K r):ad P (V5 t v low high ν) w K:=by
 have A:=h.sl;obtain⟨_,C,o,base,cap,rfl,E,_⟩:=A;rw[gW s hi h1 x fc q Ω (p9 _)];refine y _ λI j=>?_;have:=cn.part (l:=l) (h:=bg) (m:=cap) j.sl q aw Ω (p9 _);rw[uY l j.2,sD (bg-l) (λa B=>j.2 a (List.mem_of_mem_drop B))]at this;have el:((L.drop l).take (bg-l)).length=bg-l:=by rw[j9,List.length_drop];omega
 rw[el];exact this
theorem yR{t Q:r8}{b:Nat}{x:x1}{M:List α}(A:P.underlying t=σ (.slice e))(hi:aS P e k b z)(G:z.cells.size=k)(h:bn f k e w g v L)(J:cn w k x M.length (M.flatMap f))(R:∀a∈M,(f a).length=k)(h1:∀a∈M,∀u∈f a,u.oneCell'=ms)(B:(L.length+M.length)*b<=140737488355328)(H:L.length+M.length<=9223372036854775807)(N:∀j q I,bn f k e I q j (L++M)->(∀r,hp j r->hp v r\/w.heap.size<=r)->aj (λr=>hp v r) w I->K j I):aM P (c9 #[t,t] Q #[v,x]) w K:=by
 have O:∀u∈M.flatMap f,u.oneCell'=ms:=λu hu=>by
  obtain⟨a,S,hu⟩:=List.mem_flatMap.1 hu;exact h1 a S u hu
 have C:∀j q I,b7 I q e k j (L.length+M.length) (L.flatMap f++M.flatMap f)->bn f k e I q j (L++M):=λj q I hm=>⟨by simpa using hm,λb B=>by
  rcases j5.1 B with bg|bg
  .exact h.2 b bg
  .exact R b bg⟩
 rcases h.1.2 with⟨ac,T⟩|⟨cap,cs,ac,U,_⟩
 .have hm:b7 w w.heap.size e k v L.length (L.flatMap f):=⟨h.1.1,.inl ⟨ac,T⟩⟩;subst ac;refine pG A A hi G hm J O (by simpa using B) (by simpa[maxLen]using H) λj q I E s F=>N j q I (C _ _ _ s) (λr y=>.inr ?_) (F.Y λr y h=>Ω);have:=((C _ _ _ s).hv y).1;omega
 .refine pG A A hi G h.1 J O (by simpa using B) (by simpa[maxLen]using H) λj q I E s F=>N j q I (C _ _ _ s) (λr y=>?_) (F.Y λr y h=>⟨_,_,_,ac,h.symm⟩);have:=((C _ _ _ s).hv y).1;rcases E with E|E
  .exact .inl ⟨_,_,_,ac,by show g=r;omega⟩
  .exact .inr Ω
theorem Ru{t:r8}{b:Nat}(a:P.underlying t=σ (.slice e))(hi:aS P e k b z)(h:∀v g I,g=w.heap.size->Ext w I->bn f k e I g v []->K v I):aM P (Y3 t 0 #[]) w K:=
 lX a hi Ω (cs:=#[]) (by simp[Instr.fill]) λg I j q r=>by
  exact h _ g I j q ⟨by simpa using b7.full (n:=0) r Ξ (by simp[maxLen]),λc s=>by cases s⟩
end
theorem yS{α:Type}{A B:List α}{s:Nat}{a:α}(V:s<B.length)(e:A[s]?=σ a):(A.take s++B.drop s).set s a=A.take (s+1)++B.drop (s+1):=by
 have f:=(x5.1 e).1;have h1:(A.take s).length=s:=by rw[j9];omega
 rw[U9 _ _ Ω,h1,V8,Y8 V,List.set_cons_zero,u7,e,o8,X7];rfl
theorem Fw{α:Type}{A B:List α}{s:Nat}(V:s<=A.length):(A.take s++B.drop s)[s]?=B[s]?:=by
 have h1:(A.take s).length=s:=by rw[j9];omega
 rw[X1 Ω,h1,V8,List.getElem?_drop,Nat.add_zero]
theorem Fx{g:cX}:∀{l:List cX}{i:Nat},(∀p<i,∀x,l[p]?=σ x->dt x.1<dt g.1)->i<=l.length->(∀x,l[i]?=σ x->¬dt x.1<dt g.1)->jE g l=l.take i++g::l.drop i
 |[],i,_,a,_=>by
  have:i=0:=by simpa using a
  subst this;rfl
 |x::l,0,_,_,e=>by
  unfold jE;rw[m1 (e x rfl)];rfl
 |x::l,i+1,h1,a,e=>by
  unfold jE;rw[lw (h1 0 Ω x rfl),Fx (λp ae y f=>h1 (p+1) Ω y f) (by simpa using a) (λy f=>e y f)];rfl
theorem Rv{g:Nat}{v:x1}{L:List fY}{h:fY}{s:Nat}{K:Unit->x4->Prop}(f:mg w B g v d6 L)(E:L[j]?=σ h)(V:s<h.cs.length)(X:∀I,aj (λr=>hv h.bd r) w I->(∀r,hv h.bd r->∃c,ai w r ax c)->mg I B g v d6 (L.set j {h with cs:=h.cs.set s n})->K () I):
  ad x7 (n9 aC h.bd (Δ (s:Int))) w λt=>aM x7 (o7 ax t (Δ n)) w K:=by
 obtain⟨h1,O,P,Y⟩:=f;have M:=(x5.1 E).1;obtain⟨Q,Z⟩:=O h (x6 E);obtain⟨_,_,R,F⟩:=id Q;have G:∀r,hv h.bd r->∃c,ai w r ax c:=λr f=>by
  obtain⟨rfl,_⟩:=b5 F f;obtain⟨_,⟨ac,_⟩|⟨cap,full,_,z,_⟩⟩:=F
  .obtain⟨a,n,c,e,_⟩:=f;rw[ac]at e;cases e
  .exact⟨_,z⟩
 have ab:∀r,r=R->hv h.bd r:=λr he=>by
  subst he;obtain⟨_,⟨_,ay⟩|⟨cap,full,e,z,_⟩⟩:=F
  .omega
  .exact⟨_,_,_,e,rfl⟩
 rw[jV rfl aC.u ax.i F V];refine jW ax.i F V λI A az af=>?_;have A:=A.Y λr _ he=>ab r he;refine X I A G ⟨?_,λx J=>?_,λp q x y J ag ah r ak al=>?_,Y⟩
 .refine Rt (h1.aa A λr f V=>?_) ?_
  .obtain⟨c,z⟩:=G r V;exact cw h1 z Φ f
  .rw[U4];symm;refine Y5 λp=>?_;rw[X8,v8];by_cases ae:j=p
   .subst ae;rw[lw rfl,lw (by simpa using M),E];rfl
   .rw[m1 ae]
 .have am:x={h with cs:=h.cs.set s n}\/∃p,p≠j/\L[p]?=σ x:=by
   obtain⟨p,ae⟩:=Y4.1 J;rw[X8]at ae;by_cases C:j=p
   .subst C;rw[lw rfl,lw M]at ae;exact .inl (Z4 ae).symm
   .rw[m1 C]at ae;exact .inr ⟨p,λh=>C h.symm,ae⟩
  rcases am with rfl|⟨p,an,ae⟩
  .obtain⟨⟨g1,S⟩,⟨ao,U⟩,_⟩:=Q;refine⟨⟨⟨g1,bB S A λr f V=>?_⟩,⟨ao,bB U A λr f V=>?_⟩,R,af⟩,Z⟩
   .obtain⟨c,z⟩:=G r V;exact cv S z Φ f rfl
   .obtain⟨c,z⟩:=G r V;exact cv U z Φ f rfl
  .obtain⟨ap,aq⟩:=O x (x6 ae);refine⟨oV ap A λr f=>.inr (.inr ⟨G r f,λN=>P p j x h ae E an r N f⟩),aq⟩
 .have W:∀{p:Nat}{x:fY},(L.set j {h with cs:=h.cs.set s n})[p]?=σ x->∃H,L[p]?=σ H/\H.bd=x.bd:=λ{p x}J=>by
   rw[X8]at J;by_cases C:j=p
   .subst C;rw[lw rfl,lw M]at J;cases J;exact⟨h,E,rfl⟩
   .rw[m1 C]at J;exact⟨x,J,rfl⟩
  obtain⟨H,N,ex⟩:=W J;obtain⟨au,av,aw⟩:=W ag;exact P p q H au N av ah r (by rw[ex];exact ak) (by rw[aw];exact al)
def nf(f:cd)(j:Nat):List cX:=(((gm f).take j).filter gl).foldl (λl g=>jE g l) []
theorem Fy{f:cd}{x:cX}(h:(gm f)[j]?=σ x):nf f (j+1)=if gl x then jE x (nf f j)else nf f j:=by
 unfold nf;rw[u7,h,o8,List.filter_append,List.foldl_append];cases V:gl x with
 |true=>rw[List.filter_cons_of_pos V];rfl
 |false=>rw[List.filter_cons_of_neg (by simp[V])];rfl
theorem Rw(f:cd):nf f (gm f).length=gn f:=by unfold nf gn;rw[o6]
theorem Fz(g:cX):∀l,(jE g l).length=l.length+1
 |[]=>rfl
 |h::l=>by
  unfold jE;split
  .rw[X5,Fz g l,X5]
  .rfl
theorem Rx{f:cd}(e:j<=(gm f).length):(nf f j).length<=j:=by
 induction j with
 |zero=>simp[nf]
 |succ j a=>
  have:=a Ω;rw[Fy (x8 Ω)];split
  .rw[Fz];omega
  .omega
theorem Ry{g:Nat}{l:x1}{f:cd}{L:List fY}{Q:x1->x4->Prop}(az:fC N f)(z:mg w B g l f.d6 L)(aB:L.map dU=gm f)(bO:∀out I go s,Ext w I->bn dY 3 be I go out s->(∀h∈s,h∈L)->(∀h∈s,gp I f.d6 h)->s.map dU=gn f->(∀r,hp out r->w.heap.size<=r)->Q out I):
  ad x7 (W7 #[c0] al #[l]) w λbP=>
 cb (.slice ν 0 0) (Δ 0) w λout aD P bQ=>
  ad x7 (aU .lss al ne ne aD bP) P λbR=>
  Split bR (cC (α:=x1->x4->Prop) (λ(bS:x1)(R:x4)=>
   ad x7 (aU .add al ne ms aD (Δ 1)) R λbT=>
   bQ bS bT R) λba=>
  ad x7 (n9 c0 l aD) P λbV=>
  ad x7 (u4 be bV) P λbW=>
  aM x7 (R4 be ms (.tuple #[])) P λak bb=>
  aM x7 (o7 be ak bW) bb λ(_:Unit)M=>
  ad x7 (u6 be ak 2) M λbX=>
  ad x7 (u4 aC bX) M λbc=>
  ad x7 (W7 #[aC] al #[bc]) M λbZ=>
  cb (.bool ne) (Δ 0) M λbd aF A b0=>
   ad x7 (aU .lss al ne ne aF bZ) A λb2=>
   Split b2 (cC (α:=x1->x4->Prop) (λ(b3:x1)(Y:x4)=>
    ad x7 (aU .add al ne ms aF (Δ 1)) Y λb4=>
    b0 b3 b4 Y) λbf=>
   ad x7 (n9 aC bc aF) A λb5=>
   ad x7 (u4 ax b5) A λb7=>
   Split bd (bf (.bool ms) A)
    (ad x7 (aU .gtr ax ne ms b7 (Δ 0)) A λb9=>
   bf b9 A))
    (ad x7 (Op.unary .not bd) A λca=>
  Split ca (ba out A)
   (b6 (Δ 0) A λi am ce=>
   cC (α:=x1->x4->Prop) (λ(cg:x1)(S:x4)=>
    Split cg (ad x7 (aU .add al ne ms i (Δ 1)) S λch=>
   ce ch S)
     (eP S λO=>
  ad x7 (u4 be ak) O λci=>
  ad x7 (V5 c0 out (σ i) ν ν) O λbg=>
  aM x7 (Y3 c0 1 #[(0,ci)]) O λcj Z=>
   (Ext O Z\/cK x7 (V5 c0 out (σ i) ν ν) bg Z/\True)/\
  aM x7 (c9 #[c0,c0] c0 #[cj,bg]) Z λck bh=>
   aM x7 (Y3 c0 0 #[]) bh λcl an=>
  ad x7 (V5 c0 out ν (σ i) ν) an λcm=>
  aM x7 (c9 #[c0,c0] c0 #[cl,cm]) an λcn bi=>
  aM x7 (c9 #[c0,c0] c0 #[cn,ck]) bi λcp bj=>
  ba cp bj)) λbk=>
   eP am λE=>
   ad x7 (W7 #[c0] al #[out]) E λcq=>
   ad x7 (aU .lss al ne ne i cq) E λcr=>
   Split cr (ad x7 (n9 c0 out i) E λct=>
   ad x7 (u4 be ct) E λcu=>
   ad x7 (u4 be ak) E λcw=>
   aq x7 BA [cu,cw] E λcz bl=>
    bk cz bl)
    (bk (.bool ne) E))))
   (Q out P):=by
 have cA:L.length=(gm f).length:=by rw[<-aB,u9]
 have dg:L.length<=256:=by have:=(mW az).2.2;have:=az.mR;omega
 have bo:=(mW az).1;rw[dO c0.u z.1];refine cb.range L.length (λj out U=>∃go s,Ext w U/\bn dY 3 be U go out s/\(∀h∈s,h∈L)/\s.map dU=nf f j/\∀r,hp out r->w.heap.size<=r) z.1.le
  ⟨0,[],Ext.refl _,bn.nil _ _ _ _ _,λh aw=>(by cases aw),rfl,λr z=>(gF z).elim⟩ ?_ ?_
 rotate_left
 .rintro out U cB ⟨go,s,bp,ab,H,ac,aG⟩;rw[aW,ao];refine⟨λh=>Ω,λ_=>bO _ _ go s bp ab H (λh aw=>((z.W bp).2.1 h (H h aw)).1) ?_ aG⟩;rw[ac,cA,Rw]
 rintro j out P cB bq ⟨go,s,ap,ab,H,ac,aG⟩ cD;obtain⟨h,aw⟩:=aK (l:=L) bq;have hm:(gm f)[j]?=σ (dU h):=by rw[<-aB,v8,aw];rfl
 have cE:=bo _ (x6 hm);have dh:s.length<=256:=by
  have:=Rx (f:=f) (j:=j) Ω;rw[<-ac,u9]at this;omega
 have af:=z.W ap;obtain⟨aH,_⟩:=af.2.1 h (x6 aw);obtain⟨_,_,di,cF⟩:=id aH;refine bM Ω ?_;refine a1 (λaI R=>∃aJ ag,Ext w R/\bn dY 3 be R aJ aI ag/\(∀h∈ag,h∈L)/\ag.map dU=nf f (j+1)/\∀r,hp aI r->w.heap.size<=r) ?_ ?_
 .rintro aI R ⟨aJ,ag,h1,cG,cH,cI,cJ⟩;rw[aR];exact cD _ _ ⟨aJ,ag,h1,cG,cH,cI,cJ⟩
 intro aA ai;rw[cf rfl c0.u be.i af.1 bq,bF be.p be.i rfl (af.1.range aw)];refine bC be.i λbr bb dj cL cM=>?_;refine b8 (vs:=dY h) be.i rfl rfl aH.one cM λM cN dk bs=>?_;have bt:=cL.put cN Ω;have aL:=cF.W bt;rw[aO be.p 2 bs rfl,a7 aC.u aL.ls];refine cb.range h.cs.length (λq sv A=>Ext M A/\sv= .bool ((h.cs.take q).any λc=>decide (0<c))) aL.ls.le ⟨Ext.refl _,rfl⟩ ?_ ?_
 .rintro q _ A cO cP ⟨W,rfl⟩ cQ;obtain⟨c,bu⟩:=aK (l:=h.cs) cP;have e:(h.cs.take (q+1)).any (λc=>decide (0<c))=((h.cs.take q).any (λc=>decide (0<c))||decide (0<c)):=by
   rw[u7,bu,o8,List.any_append];simp
  refine bM Ω ?_;refine a1 (λsv Y=>Ext M Y/\sv= .bool ((h.cs.take (q+1)).any λc=>decide (0<c))) ?_ ?_
  .rintro _ Y ⟨cR,rfl⟩;rw[aR];exact cQ _ _ ⟨cR,rfl⟩
  intro aA ai;rw[bm aC.u ax.i Ψ (aL.W W).ls bu,b1];refine⟨λcS=>ai _ _ ⟨W,by rw[e,cS];rfl⟩,λah=>?_⟩;rw[bU];exact ai _ _ ⟨W,by rw[e,ah];rfl⟩
 rintro _ A cO ⟨W,rfl⟩;have bw:=bs.W W;have K:=bt.F W;rw[o6];refine cc Ω ?_;rw[bE,b1];have au:=Fy hm;have cT:(h.cs.any λc=>decide (0<c))=gl (dU h):=rfl;rw[cT];refine⟨λaN=>?_,λV=>?_⟩
 .have aN:gl (dU h)=ne:=by simpa using aN
  rw[aN]at au;exact ai _ _ ⟨go,s,ap.F K,ab.W K,H,by rw[ac,au];rfl,aG⟩
 have V:gl (dU h)=ms:=by simpa using V
 rw[V,lw rfl]at au;refine⟨λaP am=>∃i:Nat,aP=Δ (i:Int)/\i<=s.length/\Ext A am/\∀p<i,∀x,s[p]?=σ x->dt x.sc<dt h.sc,λaP _=>s.length-(bY aP).toNat,⟨0,rfl,X9 _,Ext.refl _,λp ae=>Ω⟩,?_⟩;rintro _ am ⟨i,rfl,hi,cU,aQ⟩;refine a1 (λaV S=>Ext A S/\((aV= .bool ms/\i<s.length/\∀x,s[i]?=σ x->dt x.sc<dt h.sc)\/(aV= .bool ne/\∀x,s[i]?=σ x->¬dt x.sc<dt h.sc))) ?_ ?_
 rotate_left
 .intro dl aS;intro E cV _ _;have X:=cU.F cV;have aT:=ab.W (K.F X);rw[dO c0.u aT,aW,ao];refine⟨λaQ=>?_,λdm=>aS _ _ ⟨X,.inr ⟨rfl,λx J=>m2 (x5.1 J).1 Ω⟩⟩⟩;obtain⟨x,J⟩:=aK (l:=s) (i:=i) Ω;have bx:=H x (x6 J);have cW:=(bo (dU x) (by rw[<-aB];exact o9.2 ⟨x,bx,rfl⟩)).scope;have bz:=af.W (K.F X);rw[cf rfl c0.u be.i aT Ω,bF be.p be.i rfl (aT.range J),bF be.p be.i rfl (show E.rangeAt br 0 (dY h)from(bw.W X).range)];refine(Rs (bz.2.1 x bx).1 (bz.2.1 h (x6 aw)).1 cW cE.scope).Y ?_;rintro _ bl _ ⟨rfl,bA⟩;by_cases aE:dt x.sc<dt h.sc
  .rw[m3 aE];exact aS _ _ ⟨X.F bA,.inl ⟨rfl,Ω,λy C=>by rw[J]at C;cases C;exact aE⟩⟩
  .rw[m5 aE];exact aS _ _ ⟨X.F bA,.inr ⟨rfl,λy C=>by rw[J]at C;cases C;exact aE⟩⟩
 rintro _ S ⟨bB,⟨rfl,dn,cX⟩|⟨rfl,cY⟩⟩
 .rw[bK,aR,hx Ω Ω];refine⟨⟨i+1,rfl,Ω,bB,λp ae x J=>?_⟩,by simp only[bY];omega⟩;by_cases cZ:p=i
  .subst cZ;exact cX x J
  .exact aQ p Ω x J
 .rw[a6];intro O c1 _ _;have aj:=bB.F c1;have av:=ab.W (K.F aj);have c2:=af.W (K.F aj);have aX:∀x∈s,∀u∈dY x,u.oneCell'=ms:=λx J=>(c2.2.1 x (H x J)).1.one;have c3:∀u∈dY h,u.oneCell'=ms:=aH.one;rw[bF be.p be.i rfl (show O.rangeAt br 0 (dY h)from(bw.W aj).range)];refine Fv c0.u be.i av (pC i _ rfl) kp hi (p9 _) λdp bD=>?_;refine jk c0.u be.i Ω rfl rfl λdq dr Z ds aY bG=>?_;refine⟨.inl aY,?_⟩;have c4:(s.drop i).take (s.length-i)=s.drop i:=j4 (by rw[List.length_drop];omega);rw[c4]at bD;refine yR c0.u be.i rfl bG (bD Z (av.W aY)) (λ_ _=>rfl) (λa G=>aX a (List.mem_of_mem_drop G)) Θ Θ λdu dv bh aZ dw c5=>?_;have bH:=aY.then c5 λr z he=>by have:=(bG.hv he).1;omega
  refine Ru (f:=dY) (k:=3) c0.u be.i λdx dy an dz a2 ay=>?_;have a8:=bH.F a2;refine Fv c0.u be.i (av.W a8) ko (pD i _ rfl) (X9 _) hi λdA bI=>?_;rw[List.drop_zero,Nat.sub_zero]at bI;refine yR c0.u be.i rfl ay (bI an (av.W a8)) (λ_ _=>rfl) (λa G=>aX a (S4 G)) Θ Θ λc6 dC bi c7 c8 bJ=>?_;have dD:=bH.size;have dE:=a2.size;have da:=(aZ.W a2).aa bJ λr z V=>by have:=(aZ.hv z).1;have:=(aZ.hv z).2;have:=(ay.hv V).1;omega
  refine yR c0.u be.i rfl c7 da.sl (λ_ _=>rfl) (λa G=>?_) Θ Θ λdF db bj dc dd de=>?_
  .rcases j5.1 G with G|G
   .rw[Z7.1 G];exact c3
   .exact aX a (List.mem_of_mem_drop G)
  have bL:=a8.then bJ λr z he=>by have:=(ay.hv he).1;omega
  have bN:∀r,hp c6 r->O.heap.size<=r:=λr z=>(c8 r z).elim (λh=>by have:=(ay.hv h).1;omega) λh=>Ω
  have df:=bL.then de λr z he=>by have:=bN r he;omega
  have dG:=(ap.F (K.F aj)).size;have dH:=bL.size;refine ai _ _ ⟨db,_,(ap.F (K.F aj)).F df,dc,λx J=>?_,?_,λr z=>(dd r z).elim (λh=>by have:=bN r h;omega) λh=>Ω⟩
  .rcases j5.1 J with J|J
   .exact H x (S4 (by simpa using J))
   .rcases j5.1 J with J|J
    .rw[Z7.1 J];exact x6 aw
    .exact H x (List.mem_of_mem_drop J)
  .rw[au,<-ac,Fx (λp ae x J=>?_) (by simpa using hi) (λx J=>?_)]
   .simp
   .rw[v8]at J;cases C:s[p]? with
    |none=>rw[C]at J;cases J
    |some y=>rw[C]at J;cases J;exact aQ p ae y C
   .rw[v8]at J;cases C:s[i]? with
    |none=>rw[C]at J;cases J
    |some y=>rw[C]at J;cases J;exact cY y C
def Rz(w:x4)(f:cd)(v:x1)(I:x4):Prop:=Ext w I/\∃go a,bn dY 3 be I go v a/\(∀h∈a,gp I f.d6 h/\∀r,rm h r->w.heap.size<=r)/\a.map dU=gn f/\∀r,hp v r->w.heap.size<=r
def ng(k:Int)(sc cs:Λ)(h:cX):cX:=if h.1=sc then(h.1,eS k h.2 cs)else h
theorem RA{bI:Nat}{f:cd}(cE:qa w bI f)(Q:fC N f):aq x7 JZ [Γ bI] w (Rz w f):=by
 have hk:=Q.k;obtain⟨ho,gz,av,gr,aV,bJ,cF⟩:=id cE;obtain⟨X,aZ,cG,cH⟩:=id cF;refine aF func134 ?_;rw[aL ev.p 3 aV rfl,dO dL.u aZ];refine cb.range X.length (λi l U=>∃g L,Ext w U/\mg U w.heap.size g l f.d6 L/\L.map dU=e5 f i) aZ.le
  ⟨0,[],Ext.refl _,⟨bn.nil _ _ _ _ _,λh aw=>(by cases aw),λi j x y J=>(by simp at J),λr A=>(gF A).elim⟩,rfl⟩ ?_ ?_
 rotate_left
 .rintro l U cI ⟨g,L,R,A,S⟩;rw[<-cG,EL]at S;rw[aW,ao];refine⟨λh=>Ω,λ_=>Ry Q A S λout I go cJ J a2 cK W cL cM=>?_⟩;have cN:=R.size;exact⟨R.F J,go,cJ,a2,λh aw=>⟨W h aw,(A.2.1 h (cK h aw)).2⟩,cL,λr A=>by have:=cM r A;omega⟩
 rintro i l U cI hi ⟨g,L,R,A,S⟩ cO;obtain⟨a6,bK⟩:=aK (l:=X) hi;obtain⟨x,a8⟩:=aK (l:=f.d8) (i:=i) Ω;have ba:=x6 a8;have bb:=cH i a6 x bK a8;have bL:=re Q ba;obtain⟨cP,dz,dA⟩:=EK Q i;have bN:L.length=(e5 f i).length:=by rw[<-S,u9]
 have dC:=Q.mR;have bO:=aZ.W R;refine bM Ω ?_;refine a1 (λfS ab=>∃g L,Ext w ab/\mg ab w.heap.size g fS f.d6 L/\L.map dU=e5 f (i+1)) ?_ ?_
 .rintro fS ab bc;rw[aR];exact cO _ _ bc
 intro aA bP;rw[cf rfl dL.u bj.i bO hi,bF bj.p bj.i rfl (bO.range bK)];refine bC bj.i λau dD dE cQ cR=>?_;refine b8 (vs:=fW a6) bj.i rfl rfl bb.one cR λdF cS dG cT=>?_;have bQ:=cQ.put cS Ω;have dH:=bQ.size;refine a1 (λbh ay=>∃E c,bh=Γ E/\Ext U ay/\ai ay E be (dY c)/\c.sc=bH x.scope/\c.cs=(jY f.d6 f.k x).2/\gp ay f.d6 c/\U.heap.size<=E/\∀r,rm c r->U.heap.size<=r) ?_ ?_
 rotate_left
 .intro dI bR;intro cU bS _ _;have az:=bQ.F bS;have aB:=R.F az;have cV:=cT.W bS;have bT:=aV.W aB;have dJ:=az.size;rw[bF bj.p bj.i rfl (show cU.rangeAt au 0 (fW a6)from cV.range),aL ev.p 2 bT rfl,aL ev.p 1 bT rfl];refine⟨?_,?_⟩
  .refine (Ft (bb.W aB) Q ba (bJ.W aB)).Y ?_;rintro _ dK _ ⟨bf,c,rfl,h1,bg,W,M⟩;refine bC be.i λE dM bU bi aE=>?_;refine⟨.inl (bf.F bi),?_⟩;refine b8 (vs:=dY c) be.i rfl rfl W.one aE λdN bV dP cW=>?_;have dQ:=bf.size;refine bR _ _ ⟨E,c,rfl,(az.F bf).F (bi.then bV λr A he=>by have he:r=E:=he;omega),cW,h1,bg,?_,Ω,λr A=>by have:=M r A;omega⟩;exact oV (W.W bi) bV λr A=>.inl ⟨_,_,by have A:r=E:=A;subst A;exact aE,Φ,Φ⟩
  .refine bC be.i λE dR bU aG aE=>?_;refine⟨.inl aG,?_⟩;have bW:=aB.F aG;refine(Ft (bb.W bW) Q ba (bJ.W bW)).Y ?_;rintro _ dS _ ⟨bX,c,rfl,h1,bg,W,M⟩;have bY:=aE.W bX;have dT:=aG.size;refine b8 (vs:=dY c) be.i rfl rfl W.one bY λdV bZ dW cX=>?_;refine bR _ _ ⟨E,c,rfl,az.F ((aG.F bX).then bZ λr A he=>by have he:r=E:=he;omega),cX,h1,bg,?_,Ω,λr A=>by have:=M r A;omega⟩;exact oV W bZ λr A=>.inl ⟨_,_,by have A:r=E:=A;subst A;exact bY,Φ,Φ⟩
 rintro _ ay ⟨E,c,rfl,bk,cY,aj,aH,cZ,bU,M⟩;have b0:=A.W bk;have c1:∀h∈L,∀r,hv h.bd r->r<U.heap.size:=λh aw r c2=>by
  obtain⟨⟨_,_,c3,b2⟩,_⟩:=A.2.1 h aw;have:=b5 b2 c2;omega
 have c4:∀{j:Nat},decide (c.sc∈(L.take j).map (·.sc))=decide (bH x.scope∈((e5 f i).take j).map (·.1)):=λ{j}=>by
  rw[aj,<-S,<-List.map_take,T7];rfl
 have cN:=R.size;rw[dO c0.u b0.1];refine cb.range L.length (λj av O=>∃C,av= .bool (decide (c.sc∈(L.take j).map (·.sc)))/\Ext w O/\U.heap.size<=O.heap.size/\mg O w.heap.size g l f.d6 C/\C.map dU=((e5 f i).map (ng f.k c.sc c.cs)).take j++(e5 f i).drop j/\ai O E be (dY c)/\gp O f.d6 c/\∀h∈C,∀r,hv h.bd r->r<U.heap.size) A.1.le
  ⟨L,Ξ,R.F bk,bk.size,b0,by simpa using S,cY,cZ,c1⟩ ?_ ?_
 .rintro j _ O c5 b3 ⟨C,rfl,ak,c6,aI,K,bl,bo,Y⟩ c7;have c8:C.length=L.length:=by
   have:=congrArg List.length K;simp only[u9,o4,j9,List.length_drop]at this;omega
  obtain⟨h,aw⟩:=aK (l:=C) (i:=j) Ω;have aJ:(e5 f i)[j]?=σ (dU h):=by
   have b4:(C.map dU)[j]?=σ (dU h):=by rw[v8,aw];rfl
   rw[K,Fw (by rw[u9];omega)]at b4;exact b4
  have aM:((e5 f i).map (ng f.k c.sc c.cs))[j]?=σ (ng f.k c.sc c.cs (dU h)):=by rw[v8,aJ];rfl
  have c9:∃y,L[j]?=σ y/\y.sc=h.sc:=by
   refine⟨_,x8 b3,?_⟩;rw[<-S,v8,x8 b3]at aJ;exact congrArg Prod.fst (Z4 aJ)
  obtain⟨y,H,da⟩:=c9;have bp:(c.sc∈(L.take (j+1)).map (·.sc))↔c.sc∈(L.take j).map (·.sc)\/h.sc=c.sc:=by
   rw[u7,H,o8,Z2,j5,List.map_singleton,Z7,da];exact or_congr Iff.rfl ⟨λe=>e.symm,λe=>e.symm⟩
  have b7:=cP _ (x6 aJ);refine bM Ω ?_;refine a1 (λav P=>∃C,av= .bool (decide (c.sc∈(L.take (j+1)).map (·.sc)))/\Ext w P/\U.heap.size<=P.heap.size/\mg P w.heap.size g l f.d6 C/\C.map dU=((e5 f i).map (ng f.k c.sc c.cs)).take (j+1)++(e5 f i).drop (j+1)/\ai P E be (dY c)/\gp P f.d6 c/\∀h∈C,∀r,hv h.bd r->r<U.heap.size) ?_ ?_
  .rintro dX P bc;rw[aR];exact c7 _ _ bc
  intro dZ b9;intro db am _ _;have aN:=aI.W am;have ca:=bl.W am;have ce:=bo.W am;obtain⟨dc,ea⟩:=aN.2.1 h (x6 aw);obtain⟨⟨g1,h1⟩,_,c3,b2⟩:=id dc;obtain⟨⟨eb,dd⟩,_,ec,cg⟩:=id ce;rw[cf rfl c0.u be.i aN.1 Ω,aY be.p rfl,aD Ψ (aN.1.range aw 0 _ rfl),aO be.p 0 ca rfl];refine(CE h1.ls dd.ls).Y ?_;rintro _ ed _ ⟨rfl,ad⟩;have ch:=aN.W ad;have bq:=ca.W ad;have cj:=ce.W ad;have ck:=(ak.F am).F ad;have z9:=(am.F ad).size;rw[ao];refine⟨λbr=>?_,λcl=>?_⟩
  rotate_left
  .refine b9 _ _ ⟨C,?_,ck,Ω,ch,?_,bq,cj,Y⟩
   .congr 1;exact decide_eq_decide.2 ⟨λh=>bp.2 (.inl h),λh=>(bp.1 h).resolve_right cl⟩
   .have e:ng f.k c.sc c.cs (dU h)=dU h:=m1 cl;rw[e]at aM;rw[<-yS Ω aM,<-K];symm;refine Y5 λp=>?_;rw[X8];by_cases ae:j=p
    .subst ae;rw[lw rfl,lw Θ,v8,aw];rfl
    .rw[m1 ae]
  have de:h.cs.length=c.cs.length:=by
   have df:h.cs.length=_:=b7.len;have dg:c.cs.length=(aX (ci f.d6 (jY f.d6 f.k x).1)).toNat:=by rw[aH];exact bL.len
   rw[df,dg,show(dU h).1=h.sc from rfl,br,aj];rfl
  have ee:(eS f.k h.cs c.cs).length=h.cs.length:=by unfold eS;rw[List.length_zipWith];omega
  rw[aO be.p 2 bq rfl,a7 aC.u (cg.W ad).ls];refine b6.range c.cs.length (λs Z=>Ext w Z/\U.heap.size<=Z.heap.size/\mg Z w.heap.size g l f.d6 (C.set j {h with cs:=(eS f.k h.cs c.cs).take s++h.cs.drop s})/\ai Z E be (dY c)/\gp Z f.d6 c) cg.ls.le
   ⟨ck,Ω,?_,bq,cj⟩ ?_ ?_
  .have e:C.set j {h with cs:=(eS f.k h.cs c.cs).take 0++h.cs.drop 0}=C:=by
    refine Y5 λp=>?_;rw[X8];by_cases ae:j=p
    .subst ae;rw[lw rfl,lw Ω,aw];rfl
    .rw[m1 ae]
   rw[e];exact ch
  .rintro s Z dh V ⟨bs,cm,aP,bt,bu⟩ di;refine bM Ω ?_;intro ef an _ _;have af:=aP.W an;have cn:=bt.W an;have cp:=bu.W an;have cq:=bs.F an;have aQ:(C.set j {h with cs:=(eS f.k h.cs c.cs).take s++h.cs.drop s})[j]?=σ {h with cs:=(eS f.k h.cs c.cs).take s++h.cs.drop s}:=by
    rw[X8,lw rfl,lw Ω]
   have cr:j<(C.set j {h with cs:=(eS f.k h.cs c.cs).take s++h.cs.drop s}).length:=by rw[Z5];omega
   obtain⟨⟨_,_,dj,bw⟩,dk⟩:=af.2.1 _ (x6 aQ);obtain⟨_,_,eg,dl⟩:=id cp;obtain⟨a,bx⟩:=aK (l:=h.cs) (i:=s) Ω;obtain⟨b,ap⟩:=aK (l:=c.cs) V;have dm:s<({h with cs:=(eS f.k h.cs c.cs).take s++h.cs.drop s}:fY).cs.length:=by show s<((eS f.k h.cs c.cs).take s++h.cs.drop s).length;rw[o4,j9,List.length_drop];omega
   have dn:((eS f.k h.cs c.cs).take s++h.cs.drop s)[s]?=σ a:=by rw[Fw Ω];exact bx
   have bz:(eS f.k h.cs c.cs)[s]?=σ (min (a+b) f.k):=by
    unfold eS;rw[List.getElem?_zipWith,bx,ap]
   have eh:=b7.jI a (x6 bx);have ei:=bL.jI b (by rw[<-aH];exact x6 ap);have dp:=aV.W cq;rw[cf rfl c0.u be.i af.1 cr,aY be.p rfl,aD Ψ (af.1.range aQ 2 _ rfl),cf rfl c0.u be.i af.1 cr,aY be.p rfl,aD Ψ (af.1.range aQ 2 _ rfl),bm aC.u ax.i Ψ bw.ls dn,aO be.p 2 cn rfl,bm aC.u ax.i Ψ dl.ls ap,aL ev.p 1 dp rfl];refine(oJ Ω Ω).Y ?_;rintro _ ek _ ⟨rfl,ag⟩;refine⟨.inl ag,?_⟩;have z12:=(an.F ag).size;refine Rv (af.W ag) aQ dm λem aS ct bA=>?_;rw[aR];have dq:=cp.W ag;have cu:=cn.W ag;have en:=aS.size;refine di _ ⟨(cq.F ag).then aS λr A he=>by have:=dk r (.inl he);omega,Ω,?_,?_,?_⟩
   .rw[List.set_set]at bA;have e:=yS (B:=h.cs) (s:=s) Ω bz;simp only[e]at bA;exact bA
   .exact cu.aa aS λV=>by
     obtain⟨eo,dr⟩:=ct _ V;exact m2 (eJ cu dr) Φ
   .refine oV dq aS λr A=>.inr (.inr ⟨ct r A,λds=>?_⟩);have:=M r (.inl ds);have:=Y h (x6 aw) r A;omega
  .rintro Z dh ⟨bs,cm,aP,bt,bu⟩;refine cc Ω ?_;have e:(eS f.k h.cs c.cs).take c.cs.length++h.cs.drop c.cs.length=eS f.k h.cs c.cs:=by
    rw[<-de,List.drop_length,V2,j4 Ω]
   simp only[e]at aP;refine b9 _ _ ⟨_,?_,bs,cm,aP,?_,bt,bu,λz G r A=>?_⟩
   .congr 1;symm;exact m3 (bp.2 (.inr br))
   .have dt:ng f.k c.sc c.cs (dU h)=dU {h with cs:=eS f.k h.cs c.cs}:=lw br;rw[dt]at aM;rw[U4,K,yS Ω aM]
   .rcases U7 G with G|rfl
    .exact Y z G r A
    .exact Y h (x6 aw) r A
 rintro _ O c5 ⟨C,rfl,ak,c6,aI,K,bl,bo,Y⟩;refine cc Ω ?_;rw[c4,bN,o6,bE,b1];have cw:=yy a8;have bz:((e5 f i).map (ng f.k c.sc c.cs)).take L.length++(e5 f i).drop L.length=(e5 f i).map (ng f.k c.sc c.cs):=by
  rw[bN,List.drop_length,V2,j4 (by rw[u9];exact p9 _)]
 rw[bz]at K;have c8:C.length=L.length:=by
  have:=congrArg List.length K;rw[u9,u9]at this;omega
 refine⟨λaT=>?_,λah=>?_⟩
 .have aT:bH x.scope∉(e5 f i).map (·.1):=by simpa using aT
  have du:(e5 f i).map (ng f.k c.sc c.cs)=e5 f i:=by
   refine(List.map_congr_left λz G=>?_).F (List.map_id _);exact m1 λhe=>aT (o9.2 ⟨z,G,by rw[he,aj]⟩)
  rw[du]at K;rw[bF be.p be.i rfl (show O.rangeAt E 0 (dY c)from bl.range)];refine jk c0.u be.i Ω rfl rfl λep dj P er aU bw=>?_;have ac:=aI.W aU;have cz:=bo.W aU;refine jH c0.u be.i rfl ac.1 (by simpa using bw.sl) cz.one Ω Ω λes dv db a2 dw bB=>?_;have cA:∀r,hp l r->∃e c,ai P r e c/\e≠al/\e≠ax:=λr A=>by
   obtain⟨rfl,c,ap⟩:=ej ac.1 A;exact⟨_,c,ap,Φ,Φ⟩
  have et:=aU.size;have eu:=ak.size;refine bP _ _ ⟨dv,C++[c],(ak.F aU).then bB λr A he=>by have:=ac.2.2.2 r he;omega,⟨a2,λz G=>?_,λp q y z H G dx r bD bG=>?_,λr A=>(dw r A).elim (ac.2.2.2 r) λh=>Ω⟩,?_⟩
  .rcases j5.1 G with G|G
   .exact⟨oV (ac.2.1 z G).1 bB λr A=>.inl (cA r A),(ac.2.1 z G).2⟩
   .rw[Z7.1 G];exact⟨oV cz bB λr A=>.inl (cA r A),λr A=>by have:=M r A;omega⟩
  .have cB:∀{p:Nat}{y:fY},(C++[c])[p]?=σ y->C[p]?=σ y\/(p=C.length/\y=c):=λ{p y}H=>by
    rw[List.getElem?_append]at H;split at H
    .exact .inl H
    .by_cases dy:p-C.length=0
     .rw[dy]at H;cases H;exact .inr ⟨Ω,rfl⟩
     .rw[V0 Θ]at H;cases H
   rcases cB H with cC|⟨ew,rfl⟩<;>rcases cB G with cD|⟨eq,rfl⟩
   .exact ac.2.2.1 p q y z cC cD dx r bD bG
   .have:=Y y (x6 cC) r bD;have:=M r (.inl bG);omega
   .have:=Y z (x6 cD) r bG;have:=M r (.inl bD);omega
   .omega
  .rw[Z2,K,cw,EJ λz G he=>aT (o9.2 ⟨z,G,he⟩)];show _++[(c.sc,c.cs)]=_;rw[aj,aH];rfl
 .have ah:bH x.scope∈(e5 f i).map (·.1):=by simpa using ah
  refine bP _ _ ⟨g,C,ak,aI,?_⟩;rw[K,cw];unfold jZ;rw[lw (show(jY f.d6 f.k x).1∈_ from ah)];refine List.map_congr_left λz _=>?_;unfold ng;rw[aj,aH];rfl
def yT(w:x4)(B:Nat)(v:x1)(n:aI):Prop:=∃ho gz a f bc e gr L,v= .agg #[Δ n.k,ho,Δ n.zero,a,e]/\aH .i64 al w gz ho n.d6/\jp w f a bc/\bc.map (·.l)=n.unary/\bn dY 3 be w gr e L/\(∀h∈L,gp w n.d6 h)/\L.map dU=n.d8/\(∀r,hv ho r->B<=r)/\∀h∈L,∀r,rm h r->B<=r
def z9:List x1:=[Δ 0,.slice ν 0 0,Δ 0,.slice ν 0 0,.slice ν 0 0]
def oW(w:x4)(C gt gs go:Nat)(ho bd:x1)(f:cd)(a:List fY)(I:x4):Prop:=Ext w I/\C<=I.heap.size/\ai I gt ed z9/\aH .i64 al I gs ho f.d6/\bn dY 3 be I go bd a/\(∀r,hp bd r->r<C)/\∀h∈a,gp I f.d6 h
theorem oW.W{ab:x4}{C gt go:Nat}{bd:x1}{f:cd}{a:List fY}(h:oW w C gt gs go ho bd f a I)(J:Ext I ab):oW w C gt gs go ho bd f a ab:=by
 obtain⟨h1,z,e,j,q,r,s⟩:=h;have:=J.size;exact⟨h1.F J,Ω,e.W J,j.W J,q.W J,r,λx y=>(s x y).W J⟩
def RB(w I:x4)(C gt:Nat)(r:Nat):Prop:=w.heap.size<=r/\r≠gt/\((∃c,ai I r ed c)\/(∃c,ai I r aC c)\/((∃c,ai I r be c)/\C<=r))
theorem oW.aa{ab:x4}{C gt go:Nat}{bd:x1}{f:cd}{z:List fY}(h:oW w C gt gs go ho bd f z I)(q:aj S I ab)(s:∀r,S r->RB w I C gt r):oW w C gt gs go ho bd f z ab:=by
 obtain⟨h1,K,F,A,y,B,G⟩:=h;have:=q.size;have E:∀r,S r->∃e c,ai I r e c/\e≠al/\e≠ax:=λr j=>by
  obtain⟨_,_,⟨c,a⟩|⟨c,a⟩|⟨⟨c,a⟩,_⟩⟩:=s r j
  .exact⟨_,c,a,Φ,Φ⟩
  .exact⟨_,c,a,Φ,Φ⟩
  .exact⟨_,c,a,Φ,Φ⟩
 refine⟨h1.then q λr j V=>by have:=(s r V).1;omega,Ω,F.aa q λV=>(s _ V).2.1 rfl,bB A q λr j V=>?_,y.aa q λr j V=>?_,B,λx J=>oV (G x J) q λr j=>.inl (E r j)⟩
 .obtain⟨e,c,a,H,_⟩:=E r V;exact cv A a (λhe=>H he.symm) j rfl
 .obtain⟨_,_,⟨c,a⟩|⟨c,a⟩|⟨_,L⟩⟩:=s r V
  .exact cw y a Φ j
  .exact cw y a Φ j
  .have:=B r j;omega
def FA(w:x4)(C f:Nat)(ho:x1)(k:Int)(n:aI)(j:List fY)(I:x4):Prop:=∃a q bc e gr L,ai I f ed [Δ k,ho,Δ n.zero,a,e]/\jp I q a bc/\bc.map (·.l)=n.unary/\(∀r,hp a r->w.heap.size<=r)/\bn dY 3 be I gr e L/\(∀h∈L,h∈j)/\L.map dU=n.d8/\∀r,hp e r->C<=r
theorem FB{bT:Nat}{f:cd}(bU:qa w bT f)(Q:fC N f):aq x7 Jg [Γ bT] w λv I=>Ext w I/\yT I w.heap.size v (c7 f):=by
 have hk:=Q.k;have dv:=Q.d6.2.1;obtain⟨dw,dx,dy,dz,bV,bW,dA⟩:=id bU;refine aF func63 ?_;refine bC ed.i λgt U dC aS aT=>?_;have aT:=aT;rw[aL ev.p 1 (bV.W aS) rfl,dk (cs:=#[Δ f.k,.slice ν 0 0,Δ 0,.slice ν 0 0,.slice ν 0 0]) Ψ];refine bC ed.i λA ab dD bX cJ=>?_;refine b8 (vs:=[Δ f.k,.slice ν 0 0,Δ 0,.slice ν 0 0,.slice ν 0 0]) ed.i rfl rfl (by intro u hu;simp at hu;rcases hu with rfl|rfl|rfl|rfl<;>rfl) cJ λdE bY dF cK=>?_;have bt:=(aS.F bX).then bY λr q he=>by have he:r=A:=he;have:=aS.size;omega
 have dG:=aT.lt;have E:A≠gt:=Ω
 have cL:=(aT.W bX).aa bY λhe=>by have he:=he;omega
 rw[aL ev.p 2 (bV.W bt) rfl,a7 aC.u (bW.W bt).ls];have dH:=aS.size;refine b6.range f.d6.length (λi W=>Ext w W/\ai W gt ed z9/\∃ho gs B H bc,ai W A ed [Δ f.k,ho,Δ 0,B,.slice ν 0 0]/\aH .i64 al W gs ho (f.d6.take i)/\(∀r,hv ho r->w.heap.size<=r)/\jp W H B bc/\bc.map (·.l)=(f.d6.take i).map (λz=>r9 z.toNat 0)/\∀r,hp B r->w.heap.size<=r) Ω
  ⟨bt,cL,_,0,_,0,[],cK,aH.nil _ _ _ _,(λr q=>by obtain⟨a,n,c,cM,dI⟩:=q;cases cM),⟨bn.nil _ _ _ _ _,λx J=>(by cases J)⟩,rfl,λr q=>(gF q).elim⟩ ?_ ?_
 .rintro i W cN hi ⟨X,bu,ho,gs,B,H,bc,aB,aU,aV,bw,aE,aW⟩ cO;obtain⟨z,C⟩:=aK (l:=f.d6) hi;have dJ:=Q.d6.2.2 z (x6 C);have dK:bc.length=i:=by have:=congrArg List.length aE;simp only[u9,j9]at this;omega
  refine bM Ω ?_;rw[bm aC.u ax.i Ψ (bW.W X).ls C,aO ed.p 1 aB rfl];refine eI av.u al.i rfl λa5 dL bZ dM ag cP=>?_;have aG:=aU.W ag;refine iF av.u al.i rfl aG cP.ls Θ Θ λb0 b1 dN aZ cQ b2=>?_;have bx:=aB.W ag;have b3:=bu.W ag;have b4:=bx.aa b2 λhe=>cv aG bx Φ he rfl;rw[aY ed.p rfl];refine bs (g:=A) (o:=1) av.i aZ.ls.cells.1 aZ.ls.cells.2 b4 Ξ λb9 ca dP a1=>?_;have a1:=a1;have bz:aj (λr=>hv ho r\/r=A) bZ b9:=(b2.Y λr _ h=>.inl h).F (ca.Y λr _ h=>.inr h);have cR:aH .i64 al b9 b1 b0 (f.d6.take (i+1)):=by
   rw[u7,C];exact bB aZ ca λr q he=>by
    have he:r=A:=he;subst he;exact cv aZ b4 Φ q rfl
  have ah:∀r,(hv ho r\/r=A)->∃e c,ai bZ r e c/\e≠ax/\e≠aC:=λr q=>by
   rcases q with q|rfl
   .obtain⟨rfl,_⟩:=b5 aG q;obtain⟨_,⟨ac,_⟩|⟨cap,full,_,s,_⟩⟩:=aG
    .obtain⟨a,n,c,e,_⟩:=q;rw[ac]at e;cases e
    .exact⟨_,_,s,Φ,Φ⟩
   .exact⟨_,_,bx,Φ,Φ⟩
  have cS:=(bw.W ag).aa bz ah;have z4:=X.size;have z5:=ag.size;have cb:=(X.F ag).then bz λr q he=>by
   rcases he with he|he
   .have:=aV r he;omega
   .omega
  have cT:=b3.aa bz λV=>by
   rcases V with V|V
   .exact cv aG b3 Φ V rfl
   .omega
  intro dQ ce _ _;have cU:=a1.W ce;rw[aO ed.p 3 cU rfl];obtain⟨a2,rfl⟩:∃n:Nat,z=n:=⟨z.toNat,Ω⟩;refine lk aC.u ax.i Ω Ω λcg dR dS bA cV=>?_;refine⟨.inl bA,?_⟩;have cW:=aH.of (b7.full (n:=a2) cV Ξ (by simp[maxLen];omega));let a:mZ:=⟨.slice (σ ⟨cg,0,ν⟩) a2 a2,r9 a2 0⟩;refine jk (f:=sV) (a:=a) et.u aC.i Ω rfl rfl λdT dV bD dW bE cX=>?_;refine⟨.inl (bA.F bE),?_⟩;have ak:=(ce.F bA).F bE;have aI:=cS.W ak;refine jH (f:=sV) (a:=a) et.u aC.i rfl aI.1 (by simpa using cX.sl) (λu hu=>by rw[Z7.1 (show u∈[a.v]from hu)];rfl) Ω Ω λbG bH dX K bI ch=>?_;have am:∀{r:Nat},hp B r->∃c,ai bD r aC c:=λq=>by
   obtain⟨rfl,c,s⟩:=ej aI.1 q;exact⟨c,s⟩
  have bJ:=a1.W ak;have cj:=bJ.aa ch λhe=>cw aI.1 bJ Φ he;rw[aY ed.p rfl];refine bs et.i (dn K.sl).1 (dn K.sl).2 cj Ξ λcY ck dZ c1=>?_;rw[aR];have R:aj (λr=>hp B r\/r=A) bD cY:=(ch.Y λr _ h=>.inl h).F (ck.Y λr _ h=>.inr h);have bK:∀r,(hp B r\/r=A)->∃e c,ai bD r e c/\e≠ax/\e≠al:=λr q=>by
   rcases q with q|rfl
   .obtain⟨c,s⟩:=am q;exact⟨_,c,s,Φ,Φ⟩
   .exact⟨_,_,bJ,Φ,Φ⟩
  have cl:=cR.W ak;have ea:=cb.size;have eb:=ak.size;have cm:=cT.W ak;refine cO _ ⟨(cb.F ak).then R (λr q he=>?_),cm.aa R (λV=>?_),b0,b1,bG,bH,bc++[a],c1,bB cl R (λr q V=>?_),λr q=>?_,⟨K.aa ck λr q he=>?_,λy M=>?_⟩,?_,λr q=>?_⟩
  .rcases he with he|rfl
   .have:=aW r he;omega
   .omega
  .rcases V with V|V
   .exact cw aI.1 cm Φ V
   .omega
  .obtain⟨e,c,s,_,E⟩:=bK r V;exact cv cl s (λhe=>E he.symm) q rfl
  .rcases cQ r q with h|h
   .exact aV r h
   .omega
  .have he:r=A:=he;subst he;exact cw K cj Φ q
  .rcases j5.1 M with M|M
   .exact aI.sW R (λr q=>by obtain⟨e,c,s,E,_⟩:=bK r q;exact⟨e,c,s,E⟩) y M
   .rw[Z7.1 M];have cn:=cW.W bE;exact⟨cg,bB cn R λr q V=>by
     obtain⟨e,c,s,E,_⟩:=bK r V;exact cv cn s (λhe=>E he.symm) q rfl⟩
  .rw[Z2,aE,u7,C,o8,Z2];rfl
  .rcases bI r q with h|h
   .exact aW r h
   .omega
 rintro W cN ⟨X,bu,ho,gs,B,H,bc,aB,aU,aV,bw,aE,aW⟩;refine cc Ω ?_;rw[o6]at aU aE;refine(RA (bU.W X) Q).Y ?_;rintro bd a6 _ ⟨an,go,O,K,cp,cq,ec⟩;have cr:O.length=(gn f).length:=by rw[<-cq,u9]
 have ee:O.length<=256:=by
  have h1:=(sL Q).2.length_eq;have a8:=(mW Q).2.2;have ef:=List.length_filter_le gl (gm f);have eg:=Q.mR;omega
 have z4:=X.size;have eh:=an.size;have ei:=aB.lt;rw[dO c0.u K];refine b6.range O.length (λi ap=>oW w a6.heap.size gt gs go ho bd f O ap/\FA w a6.heap.size A ho f.k (en f i) O ap) K.le
  ⟨⟨X.F an,p9 _,bu.W an,aU.W an,K,λr q=>by have:=K.hv q;omega,λh aw=>(cp h aw).1⟩,B,H,bc,_,0,[],aB.W an,bw.W an,aE,aW,bn.nil _ _ _ _ _,λx J=>(by cases J),rfl,λr q=>(gF q).elim⟩ ?_ ?_
 rotate_left
 .rintro ap c2 ⟨au,B,H,bc,Y,gr,L,ba,bb,Z,aJ,aM,ay,ad,aN⟩;obtain⟨c3,ek,ct,bL,em,eo,c4⟩:=id au;have bf:=rg f O.length;rw[cr,vv]at bf;rw[cr,vv]at ba Z ad;refine cc Ω ?_;rw[bF ed.p ed.i rfl (show ap.rangeAt A 0 [Δ f.k,ho,Δ (c7 f).zero,B,Y]from ba.range)];refine b8 (vs:=[Δ f.k,ho,Δ (c7 f).zero,B,Y]) ed.i rfl rfl (λu hu=>?_) ct λep aP er c5=>?_
  .simp at hu;rcases hu with rfl|rfl|rfl|rfl|rfl
   .rfl
   .exact bL.ls.cells.2
   .rfl
   .exact (dn bb.1.sl).2
   .exact (dn aM.sl).2
  rw[gk ed.p ed.i rfl c5.range];have ah:∀r,r=gt->∃e c,ai ap r e c/\e≠ax/\e≠aC/\e≠al/\e≠be:=λr q=>by
   subst q;exact⟨_,_,ct,Φ,Φ,Φ,Φ⟩
  refine⟨c3.then aP λr q he=>by have he:r=gt:=he;omega,ho,gs,B,H,bc,Y,gr,L,?_,?_,bb.aa aP (λr q=>?_),Z,aM.aa aP (λr q V=>?_),λh aw=>?_,ad,aV,λh aw r q=>by have:=(cp h (ay h aw)).2 r q;omega⟩
  .rw[bf.1]
  .rw[bf.2.1];refine bB bL aP λr q V=>?_;obtain⟨e,c,s,_,_,E,_⟩:=ah r V;exact cv bL s (λhe=>E he.symm) q rfl
  .obtain⟨e,c,s,h1,a8,_⟩:=ah r q;exact⟨e,c,s,h1,a8⟩
  .obtain⟨e,c,s,_,_,_,E⟩:=ah r V;exact cw aM s (λhe=>E he.symm) q
  .rw[bf.2.1];exact oV (c4 h (ay h aw)) aP λr q=>by
    obtain⟨e,c,s,h1,_,a8,_⟩:=ah r q;exact .inl ⟨e,c,s,a8,h1⟩
 rintro i ap c2 hi ⟨au,B,H,bc,Y,gr,L,ba,bb,Z,aJ,aM,ay,ad,aN⟩ c6;obtain⟨y,M⟩:=aK (l:=O) hi;have bg:=x6 M;have cu:(gn f)[i]?=σ (dU y):=by rw[<-cq,v8,M];rfl
 have bN:=ve Q _ (x6 cu);have bO:=yA cu;obtain⟨es,eu,ew,ey⟩:=rg f i;refine bM Ω ?_;refine cZ (λbP=>oW w a6.heap.size gt gs go ho bd f O bP/\FA w a6.heap.size A ho f.k (en f (i+1)) O bP) ?_ ?_
 .rintro bP h;rw[aR];exact c6 _ h
 intro aA bQ;rw[cf rfl c0.u be.i au.2.2.2.2.1 hi,bF be.p be.i rfl (au.2.2.2.2.1.range M)];refine bC be.i λc8 ez eA c9 da=>?_;refine b8 (vs:=dY y) be.i rfl rfl (au.2.2.2.2.2.2 y bg).one da λdb dc eB bh=>?_;have bi:=c9.put dc Ω;have bj:=au.W bi;have ae:=ba.W bi;have bR:=bb.W bi;have bk:=aM.W bi;obtain⟨eC,eD,cz,eE,eF,eH,cA⟩:=id bj;obtain⟨⟨eK,cB⟩,_,dd,cC⟩:=cA y bg;rw[aO be.p 0 bh rfl,a7 av.u cB.ls];have eL:bc.length=f.d6.length:=by have:=congrArg List.length Z;rw[u9]at this;omega
 have eM:L.length<=256:=by have:=congrArg List.length ad;rw[u9]at this;omega
 rw[bl,ao];refine⟨λeN=>?_,λeO=>?_⟩
 .
  have af:y.sc=[]:=j6 Ω;have G:en f (i+1)={en f i with zero:=y.cs.getD 0 0}:=by rw[bO];unfold kx;simp only[dU,af]
  have eP:y.cs.length=1:=by have:=bN.len;simpa[dU,af,ci,aX]using this
  have de:y.cs[0]?=σ (y.cs.getD 0 0):=by rw[p8,x8 Ω];rfl
  rw[aO be.p 2 bh rfl,fO (y:=0) (i:=0) rfl aC.u ax.i Ψ cC.ls de,aY ed.p rfl];refine bs ax.i rfl rfl ae Ξ λdf P dg dh=>?_;refine bQ _ ⟨bj.aa P λr q=>?_,B,H,bc,Y,gr,L,?_,bR.aa P (λr q=>?_),by rw[G];exact Z,aJ,bk.aa P (λr q V=>?_),ay,by rw[G];exact ad,aN⟩
  .have q:r=A:=q;subst q;exact⟨Ω,E,.inl ⟨_,ae⟩⟩
  .rw[G];exact dh
  .have q:r=A:=q;subst q;exact⟨_,_,ae,Φ,Φ⟩
  .have V:r=A:=V;subst V;exact cw bk ae Φ q
 rw[bl,ao];refine⟨λh1=>?_,λeQ=>?_⟩
 .
  obtain⟨v,af⟩:∃v,y.sc=[v]:=W6.1 Ω;have eR:=bN.scope.1 v (by show v∈y.sc;rw[af];exact .head _);have eS:=bN.d7 v (by show v∈y.sc;rw[af];exact .head _);have G:en f (i+1)={en f i with unary:=(en f i).unary.set v.toNat y.cs}:=by rw[bO];unfold kx;simp only[dU,af]
  intro di S _ _;have bS:=ae.W S;have cD:=bh.W S;have aQ:=bR.W S;have dj:=bj.W S;have cE:=bk.W S;rw[aO ed.p 3 bS rfl,aO be.p 0 cD rfl];refine mN rfl av.u al.i (cB.ls.W S) (show y.sc[0]?=σ v by rw[af];rfl) λb o dl=>?_;rw[aD Ψ dl,aO be.p 2 cD rfl];obtain⟨u,hu⟩:=aK (l:=bc) (i:=v.toNat) Ω;rw[cf (i:=v.toNat) Ω et.u aC.i aQ.1 Ω];let a:mZ:=⟨y.bd,y.cs⟩;have bo:=cC.W S;refine lv (j:=0) (a:=u) (a':=a) aC.i bo.ls.cells.1 bo.ls.cells.2 aQ.1 hu rfl Ω λdf P dg dm=>?_;have am:∀{r:Nat},hp B r->∃c,ai di r aC c:=λq=>by
   obtain⟨rfl,c,s⟩:=ej aQ.1 q;exact⟨c,s⟩
  refine bQ _ ⟨dj.aa P λr q=>?_,B,H,bc.set v.toNat a,Y,gr,L,?_,⟨dm,λz C=>?_⟩,?_,aJ,cE.aa P (λr q V=>?_),ay,by rw[G];exact ad,aN⟩
  .obtain⟨c,s⟩:=am q;exact⟨aJ r q,λhe=>(by subst he;exact m2 (eJ s (cz.W S)) Φ),.inr (.inl ⟨c,s⟩)⟩
  .rw[G];exact bS.aa P λhe=>cw aQ.1 bS Φ he
  .rcases U7 C with C|rfl
   .exact aQ.sW P (λr q=>by obtain⟨c,s⟩:=am q;exact⟨_,c,s,Φ⟩) z C
   .exact⟨dd,bB bo P λr q V=>by
     obtain⟨c,s⟩:=am V;exact cv bo s Φ q rfl⟩
  .rw[G,U4,Z]
  .obtain⟨c,s⟩:=am V;exact cw cE s Φ q
 .
  have G:en f (i+1)={en f i with d8:=(en f i).d8++[dU y]}:=by
   rw[bO];unfold kx;have cF:2<=(dU y).1.length:=by show 2<=y.sc.length;omega
   generalize dU y=g at cF ⊢;obtain⟨sc,cs⟩:=g
   match sc,cF with
   |_::_::_,_=>rfl
  rw[aO ed.p 4 ae rfl,bF be.p be.i rfl (show db.rangeAt c8 0 (dY y)from bh.range)];refine jk c0.u be.i Ω rfl rfl λeU eV dp eW az dq=>?_;have bp:=bk.W az;have dr:=bR.W az;have bq:=ae.W az;have ds:=bj.W az;refine jH c0.u be.i rfl bp (by simpa using dq.sl) (cA y bg).one Ω Ω λbG bH eX br bI cG=>?_;have cH:=bq.aa cG λhe=>cw bp bq Φ he;rw[aY ed.p rfl];refine bs c0.i (dn br.sl).1 (dn br.sl).2 cH Ξ λdt cI eY du=>?_;have R:aj (λr=>hp Y r\/r=A) dp dt:=(cG.Y λr _ h=>.inl h).F (cI.Y λr _ h=>.inr h);have eZ:=az.size;refine bQ _ ⟨ds.aa R λr q=>?_,B,H,bc,bG,bH,L++[y],?_,dr.aa R (λr q=>?_),by rw[G];exact Z,aJ,br.aa cI (λr q V=>?_),λz C=>?_,?_,λr q=>?_⟩
  .rcases q with q|rfl
   .obtain⟨rfl,c,s⟩:=ej bp q;have:=aN _ q;refine⟨Ω,λhe=>?_,.inr (.inr ⟨⟨c,s⟩,this⟩)⟩;subst he;exact m2 (eJ s (cz.W az)) Φ
   .exact⟨Ω,E,.inl ⟨_,bq⟩⟩
  .rw[G];exact du
  .rcases q with q|rfl
   .obtain⟨rfl,c,s⟩:=ej bp q;exact⟨_,c,s,Φ,Φ⟩
   .exact⟨_,_,bq,Φ,Φ⟩
  .have V:r=A:=V;subst V;exact cw br cH Φ q
  .rcases j5.1 C with C|C
   .exact ay z C
   .rw[Z7.1 C];exact bg
  .rw[G,Z2,ad];rfl
  .rcases bI r q with h|h
   .exact aN r h
   .omega
def s7(w:x4)(S:Nat->Prop)(e:r8):Prop:=∀r,S r->∃c,ai w r e c
theorem yU{a:r8}{k:o5}{g:Nat}{v:x1}(h:aH k a w g v l)(f:aj S w I)(j:s7 w S e)(q:a≠e):aH k a I g v l:=bB h f λr s V=>by
 obtain⟨c,x⟩:=j r V
 grind [cv]
theorem FC{α:Type}{f:α->List x1}{k:Nat}{a:r8}{g:Nat}{v:x1}{L:List α}(h:bn f k a w g v L)(j:aj S w I)(q:s7 w S e)(s:a≠e):bn f k a I g v L:=h.aa j λr x V=>by
 obtain⟨c,y⟩:=q r V
 grind [cw]
theorem yV{a:r8}{r:Nat}{c:List x1}(h:ai w r a c)(f:aj S w I)(j:s7 w S e)(q:a≠e):ai I r a c:=h.aa f λV=>by
 obtain⟨c,s⟩:=j r V
 grind [eJ]
theorem FD{g:Nat}{c:List x1}(h:ai w g e c):s7 w (λr=>r=g) e:=λr a=>by
 have a:r=g:=a;subst a;exact⟨c,h⟩
theorem s8{k:o5}{g:Nat}{v:x1}(h:aH k e w g v l):s7 w (λr=>hv v r) e:=λr f=>by
 have f:=f;obtain⟨rfl,_⟩:=b5 h f;obtain⟨_,⟨ac,_⟩|⟨cap,full,_,j,_⟩⟩:=h
 .obtain⟨a,n,c,q,_⟩:=f;grind
 grind
def aB(x:bA):Λ:=((X2 x.un.length).map λv:Nat=>(v:Int)).filter λv=>!dropped x.mask v
theorem yW{P:W5}{k:o5}{t:r8}{b:Nat}(a:P.underlying t=σ (.slice e))(hi:aS P e 1 b z)(f:∀v g I,g=w.heap.size->Ext w I->aH k e I g v []->K v I):aM P (Y3 t 0 #[]) w K:=
 lX a hi Ω (cs:=#[]) (by simp[Instr.fill]) λg I h j q=>f _ g I h j (aH.of (b7.full (by simpa using q) Ξ (by simp[maxLen])))
theorem RC{v:x1}{n:aI}(h:yT w B v n){g:Nat}(j:ai I g ed v.cells.toList):∃ho gz a f bc e gr L,ai I g ed [Δ n.k,ho,Δ n.zero,a,e]/\aH .i64 al w gz ho n.d6/\jp w f a bc/\bc.map (·.l)=n.unary/\bn dY 3 be w gr e L/\(∀h∈L,gp w n.d6 h)/\L.map dU=n.d8/\(∀r,hv ho r->B<=r)/\∀h∈L,∀r,rm h r->B<=r:=by
 obtain⟨ho,gz,a,f,bc,e,gr,L,rfl,q,s,y,x,z,A⟩:=h;obtain⟨_,_,_,C⟩:=dA q.ls;obtain⟨_,_,_,_,_,E,_⟩:=s.1.sl;obtain⟨_,_,_,_,_,F,_⟩:=x.sl;refine⟨ho,gz,a,f,bc,e,gr,L,?_,q,s,y,x,z,A⟩;rw[C,E,F]at j ⊢;exact j
def z12:List x1:=[Δ 0,.slice ν 0 0,Δ 0,.slice ν 0 0,.slice ν 0 0,.slice ν 0 0,.slice ν 0 0,.slice ν 0 0]
theorem RD(u:Λ):aB (newVar u)=(X2 u.length).map λv:Nat=>(v:Int):=by
 unfold aB newVar dropped;rw[List.filter_eq_self.2];intro a _;simp
section
variable{P:W5}{w:x4}{t:r8}{cx cy:Bool}{a b:Nat}{K:x1->Prop}
theorem RE(f:a<2 ^ 62)(h:b<2 ^ 62):ad P (aU .or t cx cy (Δ a) (Δ b)) w K=K (Δ ((a ||| b:Nat):Int)):=ad.of λI _=>by
 have e:(U8 64 (a:Int) ||| U8 64 (b:Int)).toNat=a ||| b:=by
  rw[oG,oG,BitVec.toNat_or,BitVec.toNat_ofNat,BitVec.toNat_ofNat,Nat.mod_eq_of_lt Ω,Nat.mod_eq_of_lt Ω]
 have q:a ||| b<2 ^ 62:=Nat.or_lt_two_pow f h;have hw:X3.wrap ((a ||| b:Nat):Int)=((a ||| b:Nat):Int):=hx Ω Ω;have j:(U8 X3.bits (a:Int) ||| U8 X3.bits (b:Int)).toNat=a ||| b:=e;simp only[aU,eqGuard,binOp,Op.intBits,j,hw];rfl
theorem FE(j:a<2 ^ 62)(f:b<2 ^ 62):ad P (aU .and t cx cy (Δ a) (Δ b)) w K=K (Δ ((a &&& b:Nat):Int)):=ad.of λI _=>by
 have e:(U8 64 (a:Int) &&& U8 64 (b:Int)).toNat=a &&& b:=by
  rw[oG,oG,BitVec.toNat_and,BitVec.toNat_ofNat,BitVec.toNat_ofNat,Nat.mod_eq_of_lt Ω,Nat.mod_eq_of_lt Ω]
 have q:a &&& b<2 ^ 62:=Nat.and_lt_two_pow _ f;have hw:X3.wrap ((a &&& b:Nat):Int)=((a &&& b:Nat):Int):=hx Ω Ω;have h:(U8 X3.bits (a:Int) &&& U8 X3.bits (b:Int)).toNat=a &&& b:=e;simp only[aU,eqGuard,binOp,Op.intBits,h,hw];rfl
theorem RF{k:o5}{n:Nat}(a:n<62):ad P (aU .shl t cx cy (Δ 1) (.int k (n:Int))) w K=K (Δ ((2 ^ n:Nat):Int)):=by
 rw[BO Ω];have e:min ((n:Int).toNat) X3.bits=n:=Nat.min_eq_left (by show n<=64;omega);have f:2 ^ n<2 ^ 62:=Nat.pow_lt_pow_right Ω a;rw[e,Int.one_mul,show((2:Int) ^ n)=((2 ^ n:Nat):Int) by simp];generalize 2 ^ n=q at f ⊢;rw[hx Ω Ω]
end
theorem FF(a n:Nat):(a / 2 ^ n &&& 1=1)↔a.testBit n=ms:=by
 rw[Nat.and_one_is_mod,Nat.testBit_eq_decide_div_mod_eq,m6]
theorem yX{b n:Nat}(q:mP b n):aq x7 JH [ks b n,Δ v] w λr I=>r= .bool (decide (0<=v/\v<n)&&b.testBit v.toNat)/\Ext w I:=by
 refine aF func97 ?_;refine bo λg U A e f=>?_;refine a1 (λr ab=>r= .bool (decide (0<=v/\v<n)&&b.testBit v.toNat)/\Ext w ab) (λ_ _ h=>h) λaA j=>?_;rw[bF b9.p b9.i rfl f.range];refine CQ.Y ?_;rintro _ B _ ⟨rfl,a⟩;rw[ao];refine⟨λh=>?_,λh=>j _ _ ⟨by rw[m5 h];rfl,e.F a⟩⟩;obtain⟨x,C⟩:=q;obtain⟨s,rfl⟩:∃s:Nat,v=s:=⟨v.toNat,Ω⟩;have y:=f.W a;have E:(2:Nat) ^ n<=2 ^ 32:=T3 Ω x;have z:b / 2 ^ s<2 ^ 64:=Nat.lt_of_le_of_lt (Nat.div_le_self _ _) Ω;rw[aO b9.p 0 y rfl,mO Ω,show(1:Int)=((1:Nat):Int)from rfl,u64_and z Ω,bl];refine j _ _ ⟨?_,e.F a⟩;congr 1;rw[m3 h,T0,U1,m6,u5,<-FF];omega
theorem RG(m v:Nat):dropped (m:Int) (v:Int)=m.testBit v:=by unfold dropped;rw[u5,u5]
def bw(w:x4)(af ag:Nat)(A R:ak)(n:aI)(s:an)(t:az):Prop:=StateM w af ag A R n s t/\t.bT=s.cells/\m8 t/\ba n.k n.d6 s/\kX n
theorem bw.W{A R:ak}{n:aI}{s:an}{t:az}(h:bw w af ag A R n s t)(J:Ext w I):bw I af ag A R n s t:=⟨h.1.W J,h.2⟩
theorem StateM.parts{A R:ak}{n:aI}{s:an}{t:az}(h:StateM w af ag A R n s t):∃a e f j bh q L r,ai w af ch [Γ a,Γ ag,e,f,j]/\gM w a n/\db w ag r t/\aH .i64 al w bh e (iR s)/\bn oQ 3 ec w q f L/\na R w L s:=by
 obtain⟨a,e,f,j,_,bh,q,ge,L,E,r,w0,x,⟨y,z,H⟩,⟨B,I,J,K⟩,C,⟨F,G⟩,M,N⟩:=h;exact⟨a,e,f,j,bh,q,L,r,x,y.W z,B,C,F,G⟩
theorem s9{s:an}{i:Nat}(h:i<s.d7.length):(iR s)[i]?=σ (ic s i:Int):=by
 unfold iR;rw[v8,List.getElem?_range h];rfl
theorem ta{s:an}{t:az}(ac:t.bT=s.cells)(V:m8 t):s.cells.length<=100000000:=by
 rw[<-ac];unfold az.bT;rw[u9];exact V.1
theorem vF{s:an}{i:Nat}{x:bA}(h:s.d7[i]?=σ x):ic s i+x.un.length+2<=s.cells.length:=by
 have h1:=ri h (j:=x.un.length+1) Ω;have a:(iE x)[x.un.length+1]? ≠ν:=by
  rw[Ne,List.getElem?_eq_none_iff];show¬(x.un.length+1+1<=x.un.length+1);omega
 rw[<-h1]at a;have:=(x5.1 (Option.ne_none_iff_exists'.1 a).choose_spec).1;omega
theorem yY{s:an}{f:bI}(h:s.d8[j]?=σ f):e6 s j+f.cs.length+1<=s.cells.length:=by
 have h1:=yC h (j:=f.cs.length) Ω;have a:(ib f)[f.cs.length]? ≠ν:=by
  rw[Ne,List.getElem?_eq_none_iff];show¬(f.cs.length+1<=f.cs.length);omega
 rw[<-h1]at a;have:=(x5.1 (Option.ne_none_iff_exists'.1 a).choose_spec).1;omega
section
variable{w:x4}{af ag:Nat}{A R:ak}{n:aI}{s:an}{t:az}
theorem FG(h:bw w af ag A R n s t):aq x7 JD [Γ af] w λv I=>(∃a,v=Γ a/\gM I a n)/\Ext w I:=by
 obtain⟨a,j,q,r,bh,x,L,y,e,f,z,B,C,E⟩:=h.1.parts;refine aF func92 ?_;rw[cT dx.u];simp only[l9,a6];rw[aL ch.p 0 e rfl];exact⟨⟨a,rfl,f⟩,Ext.refl _⟩
theorem yZ(h:bw w af ag A R n s t):aq x7 I2 [Γ af] w λv I=>v=Δ (n.d6.length:Int)/\Ext w I:=by
 refine aF func46 ?_;refine(FG h).Y ?_;rintro _ U _ ⟨⟨j,rfl,a⟩,e⟩;refine(yE a).Y ?_;rintro _ ab _ ⟨rfl,f⟩;exact⟨rfl,e.F f⟩
theorem n2(h:bw w af ag A R n s t):aq x7 Ke [Γ af] w λv I=>v=Δ n.k/\Ext w I:=by
 refine aF func152 ?_;refine(FG h).Y ?_;rintro _ U _ ⟨⟨j,rfl,a⟩,e⟩;refine(QP a).Y ?_;rintro _ ab _ ⟨rfl,f⟩;exact⟨rfl,e.F f⟩
theorem y0{i:Int}(h:bw w af ag A R n s t):aq x7 Jh [Γ af,Δ i] w λv I=>v= .bool (decide (0<=i/\i<n.d6.length))/\Ext w I:=by
 refine aF func64 ?_;refine a1 (λv U=>v= .bool (decide (0<=i/\i<n.d6.length))/\Ext w U) (λ_ _ h=>h) λaA a=>?_;rw[cJ,ao];refine⟨λe=>?_,λe=>a _ _ ⟨by rw[m5 Ω],Ext.refl _⟩⟩;refine(yZ h).Y ?_;rintro _ U _ ⟨rfl,f⟩;rw[aW];refine a _ _ ⟨?_,f⟩;congr 1;exact decide_eq_decide.2 ⟨λh=>⟨e,h⟩,λh=>h.2⟩
theorem tb(h:bw w af ag A R n s t):aq x7 IQ [Γ af] w λv I=>v=Δ s.zero/\Ext w I:=by
 obtain⟨j,q,r,x,bh,y,L,z,a,B,e,C,E,G⟩:=h.1.parts;refine aF func13 ?_;rw[cT dx.u];simp only[l9,a6];rw[aL ch.p 1 a rfl];refine(m4 e rfl (show t.bT[0]?=σ s.zero by rw[h.2.1];exact QI s)).Y ?_;rintro _ U _ ⟨rfl,f⟩;exact⟨rfl,f⟩
theorem rn(h:bw w af ag A R n s t):aq x7 IR [Γ af] w λv I=>v=Δ (s.d8.length:Int)/\Ext w I:=by
 obtain⟨j,q,r,x,bh,y,L,z,a,B,C,E,e,f⟩:=h.1.parts;refine aF func15 ?_;rw[cT dx.u];simp only[l9,a6];rw[aL ch.p 3 a rfl,dO fm.u e];exact⟨by rw[f.1],Ext.refl _⟩
def dp(s:an)(i:Nat):Bool:=match s.d7[i]? with
 |some x=>decide (x.gone≠0)
 |none=>ne
theorem tc{i:Int}(h:bw w af ag A R n s t):aq x7 I4 [Γ af,Δ i] w λv I=>v= .bool (decide (0<=i)&&dp s i.toNat)/\Ext w I:=by
 refine aF func48 ?_;refine a1 (λv U=>v= .bool (decide (0<=i)&&dp s i.toNat)/\Ext w U) (λ_ _ h=>h) λaA a=>?_;intro ab e _ _;refine(y0 (h.W e)).Y ?_;rintro _ H _ ⟨rfl,q⟩;have J:=e.F q;have K:=h.2.2.2.1.d7;rw[ao];refine⟨λr=>?_,λM=>a _ _ ⟨?_,J⟩⟩
 .obtain⟨N,O,P,Q,bh,S,L,V,f,W,z,B,X,Y⟩:=(h.W J).1.parts;obtain⟨x,j⟩:=aK (l:=s.d7) (i:=i.toNat) Ω;rw[aL ch.p 1 f rfl,aL ch.p 2 f rfl,fO (y:=i) (i:=i.toNat) Ω av.u al.i Ψ B.ls (s9 Ω)];have C:t.bT[ic s i.toNat+0]?=σ x.gone:=by rw[h.2.1,ri j Ω];rfl
  refine(m4 z rfl C).Y ?_;rintro _ Z _ ⟨rfl,E⟩;rw[bG];refine a _ _ ⟨?_,J.F E⟩;rw[m3 r.1,T0];unfold dp;rw[j]
 .by_cases G:0<=i
  .unfold dp;rw[V0 Ω,Bool.and_false]
  .rw[m5 G];rfl
def eC(n:aI)(i v:Int):Prop:=0<=i/\i<n.d6.length/\0<=v/\v<n.d6.getD i.toNat 0
instance (n:aI) (i v:Int):Decidable (eC n i v):=inferInstanceAs (Decidable (_/\_))
theorem eC.var{i:Int}(ac:eC n i v)(a:ba n.k n.d6 s):∃x,s.d7[i.toNat]?=σ x/\v.toNat<x.un.length/\x.un.length<=32/\n.d6.getD i.toNat 0=x.un.length:=by
 obtain⟨h1,h,j,f⟩:=ac;have q:=a.d7;obtain⟨x,J⟩:=aK (l:=s.d7) (i:=i.toNat) Ω;obtain⟨z,e⟩:=aK (l:=n.d6) (i:=i.toNat) Ω;have r:=a.fg.2.2 z (x6 e);have w:=(a.var i.toNat x z J e).1;rw[p8,e,Option.getD_some]at f ⊢;exact⟨x,J,Ω,Ω,Ω⟩
theorem y1{i:Int}(h:bw w af ag A R n s t):aq x7 Jy [Γ af,Δ i,Δ v] w λr I=>r=Δ (if eC n i v then((ic s i.toNat+2+v.toNat:Nat):Int)else-1)/\Ext w I:=by
 have Z:=h.2.2.2.1.d7;refine aF func84 ?_;refine a1 (λr U=>r= .bool (decide (¬eC n i v))/\Ext w U) ?_ ?_
 .rintro _ U ⟨rfl,q⟩;rw[ao];refine⟨λG=>⟨by rw[m1 G],q⟩,λf=>?_⟩;have f:=X0.1 f;obtain⟨x,H,aa,ad,_⟩:=f.var h.2.2.2.1;obtain⟨J,K,M,N,bh,O,L,P,a,B,Q,C,S,V⟩:=(h.W q).1.parts;have E:=vF H;have ae:=ta h.2.1 h.2.2.1;obtain⟨h1,ah,ai,aj⟩:=id f;rw[aL ch.p 2 a rfl,fO (y:=i) (i:=i.toNat) Ω av.u al.i Ψ C.ls (s9 Ω),aR,hx Ω Ω,aR,hx Ω Ω,lw f];refine⟨?_,q⟩;congr 1;omega
 .intro aA z;refine(y0 h).Y ?_;rintro _ ab _ ⟨rfl,j⟩;rw[bE,b1];refine⟨λa=>?_,λa=>?_⟩
  .have a:¬(0<=i/\i<n.d6.length):=λW=>by rw[m3 W]at a;cases a
   exact z _ _ ⟨by rw[m3];exact λe=>a ⟨e.1,e.2.1⟩,j⟩
  have a:0<=i/\i<n.d6.length:=by simpa using a
  rw[aW,ao];refine⟨λac=>z _ _ ⟨by rw[m3];exact λe=>by have:=e.2.2.1;omega,j⟩,λac=>?_⟩;obtain⟨J,K,M,N,bh,O,L,P,X,B,Q,C,S,V⟩:=(h.W j).1.parts;rw[aL ch.p 0 X rfl];refine(EY B h.2.2.2.2).Y ?_;rintro _ ak _ ⟨Y,rfl⟩;rw[lw a.1,cJ];refine z _ _ ⟨?_,j.F Y⟩;congr 1;refine decide_eq_decide.2 ⟨λh e=>?_,λh=>?_⟩
  .have:=e.2.2.2;omega
  .refine Int.not_lt.1 λE=>h ⟨a.1,a.2,Ω,E⟩
def fx(s:an)(i v:Nat):Int:=match s.d7[i]? with
 |some x=>x.un.getD v 0
 |none=>0
theorem qb{i:Int}(h:bw w af ag A R n s t):aq x7 Be [Γ af,Δ i,Δ v] w λr I=>r=(if eC n i v then .tuple #[Δ (fx s i.toNat v.toNat),Δ 0]else .tuple #[Δ 0,Δ 1])/\Ext w I:=by
 refine aF func36 ?_;rw[cT dx.u];simp only[l9,a6];refine(y1 h).Y ?_;rintro _ U _ ⟨rfl,e⟩;by_cases a:eC n i v
 .rw[lw a,lw a];refine cc Ω ?_;obtain⟨x,f,j,C,_⟩:=a.var h.2.2.2.1;obtain⟨E,G,H,J,bh,K,L,M,q,N,y,O,P,Q⟩:=(h.W e).1.parts;rw[aL ch.p 1 q rfl];have z:t.bT[ic s i.toNat+2+v.toNat]?=σ (x.un.getD v.toNat 0):=by
   rw[h.2.1,Nat.add_assoc,ri f Ω,show 2+v.toNat=v.toNat+1+1 by omega];show x.un[v.toNat]?=_;rw[p8,x8 j];rfl
  refine(m4 y rfl z).Y ?_;rintro _ ab _ ⟨rfl,B⟩;refine⟨?_,e.F B⟩;unfold fx;rw[f]
 .rw[m1 a,m1 a,aW,ao];exact⟨λ_=>⟨rfl,e⟩,λh=>Ω⟩
def eL(s:an)(j:Nat):Bool:=match s.d8[j]? with
 |some f=>decide (f.live≠0)
 |none=>ne
theorem rp{j:Int}(h:bw w af ag A R n s t):aq x7 I5 [Γ af,Δ j] w λv I=>v= .bool (decide (0<=j)&&eL s j.toNat)/\Ext w I:=by
 refine aF func49 ?_;refine a1 (λv U=>v= .bool (decide (0<=j)&&eL s j.toNat)/\Ext w U) (λ_ _ h=>h) λaA a=>?_;intro ab e _ _;rw[cJ,ao];refine⟨λq=>?_,λq=>a _ _ ⟨by rw[m5 q];rfl,e⟩⟩;refine(rn (h.W e)).Y ?_;rintro _ M _ ⟨rfl,C⟩;have J:=e.F C;rw[aW,ao];refine⟨λN=>?_,λO=>a _ _ ⟨?_,J⟩⟩
 .obtain⟨P,Q,S,V,bh,W,L,X,x,Y,E,Z,z,r⟩:=(h.W J).1.parts;obtain⟨f,ah⟩:=aK (l:=s.d8) (i:=j.toNat) Ω;obtain⟨y,B⟩:∃y,L[j.toNat]?=σ y:=⟨_,x8 (by rw[r.1];omega)⟩;obtain⟨_,_,G⟩:=r.2 j.toNat y f B ah;rw[aL ch.p 1 x rfl,aL ch.p 3 x rfl,cf (i:=j.toNat) Ω fm.u ec.i z (by rw[r.1];omega),aY ec.p rfl,aD Ψ (z.range B 2 _ rfl)];have H:t.bT[e6 s j.toNat+0]?=σ f.live:=by rw[h.2.1,yC ah Ω];rfl
  refine(m4 (i:=e6 s j.toNat) E (by rw[G]) H).Y ?_;rintro _ aa _ ⟨rfl,K⟩;rw[bG];refine a _ _ ⟨?_,J.F K⟩;rw[m3 q,T0];unfold eL;rw[ah]
 .unfold eL;rw[V0 Ω,Bool.and_false]
end
def vG(s:an)(n:aI)(i:Int)(b m:Nat):Prop:=mP b m/\(¬(0<=i/\i<n.d6.length)->b=0/\m=0)/\∀x,0<=i->s.d7[i.toNat]?=σ x->m=x.un.length/\∀j:Nat,b.testBit j=(decide (j<x.un.length)&& !dropped x.mask (j:Int))
section
variable{w:x4}{af ag:Nat}{A R:ak}{n:aI}{s:an}{t:az}
theorem iW{i:Int}(h:bw w af ag A R n s t):aq x7 IU [Γ af,Δ i] w λv I=>(∃b m,v=ks b m/\vG s n i b m)/\Ext w I:=by
 have bo:=h.2.2.2.1.d7;refine aF func25 ?_;refine bC b9.i λB U bp am Q=>?_;have Q:=Q;refine(y0 (h.W am)).Y ?_;rintro _ ab _ ⟨rfl,an⟩;have S:=Q.W an;have V:=am.F an;rw[bE,b1];refine⟨λa=>?_,λa=>?_⟩
 .have a:¬(0<=i/\i<n.d6.length):=λaO=>by rw[m3 aO]at a;cases a
  rw[dk (cs:=#[.int .u64 0,Δ 0]) Ψ];refine b8 (vs:=[.int .u64 0,Δ 0]) b9.i rfl rfl (by intro u hu;simp at hu;rcases hu with rfl|rfl<;>rfl) S λbq aP br aQ=>?_;rw[gk b9.p b9.i rfl aQ.range];refine⟨⟨0,0,rfl,⟨Ω,Ξ⟩,λ_=>⟨rfl,rfl⟩,λx ap J=>?_⟩,V.put aP Ω⟩;have:=(x5.1 J).1;exact m2 ⟨ap,Ω⟩ a
 have a:0<=i/\i<n.d6.length:=by simpa using a
 obtain⟨x,E⟩:=aK (l:=s.d7) (i:=i.toNat) Ω;obtain⟨z,W⟩:=aK (l:=n.d6) (i:=i.toNat) Ω;have aS:=h.2.2.2.1.fg.2.2 z (x6 W);obtain⟨bs,_,bt,bu⟩:=h.2.2.2.1.var i.toNat x z E W;obtain⟨aT,aU,aV,aW,bh,aX,L,aY,G,au,_⟩:=(h.W V).1.parts;rw[aL ch.p 0 G rfl];refine(EY au h.2.2.2.2).Y ?_;rintro _ bA _ ⟨X,rfl⟩;rw[lw a.1,p8,W,Option.getD_some];refine Na.Y ?_;rintro _ bB _ ⟨Y,rfl⟩;rw[lw aS];obtain⟨m,rfl⟩:∃m:Nat,z=m:=⟨z.toNat,Ω⟩;rw[bx,bz,u5];have aw:=(V.F X).F Y;refine bC b9.i λe bD bG ax aZ=>?_;refine b8 (vs:=[.int .u64 ((2 ^ m-1:Nat):Int),Δ (m:Int)]) b9.i rfl rfl (by intro u hu;simp at hu;rcases hu with rfl|rfl<;>rfl) aZ λa1 ay bH a2=>?_;have z5:=aw.size;have az:=(aw.F ax).put ay Ω;have bI:=(((S.W X).W Y)).lt;have a6:ai a1 B b9 [.int .u64 0,Δ 0]:=(((S.W X).W Y).W ax).aa ay λhe=>by have he:=he;omega
 intro bJ Z _ _;have aB:=az.F Z;obtain⟨aT,aU,aV,aW,bh,aX,L,aY,G,au,a7,a8,_⟩:=(h.W aB).1.parts;have bK:=vF E;have bL:=ta h.2.1 h.2.2.1;rw[aL ch.p 1 G rfl,aL ch.p 2 G rfl,fO (y:=i) (i:=i.toNat) Ω av.u al.i Ψ a8.ls (s9 Ω),aR,hx Ω Ω];have ba:t.bT[ic s i.toNat+1]?=σ x.mask:=by rw[h.2.1,ri E Ω];rfl
 refine(m4 a7 Ω ba).Y ?_;rintro _ bb _ ⟨rfl,ac⟩;have aC:=(a2.W Z).W ac;have bc:=(a6.W Z).W ac;obtain⟨mk,aD⟩:∃mk:Nat,x.mask=mk:=⟨x.mask.toNat,Ω⟩;rw[bF b9.p b9.i rfl (show bb.rangeAt e 0 [.int .u64 ((2 ^ m-1:Nat):Int),Δ (m:Int)]from aC.range)];refine(xH).Y ?_;rintro _ bN _ ⟨rfl,ad⟩;have bd:=aB.F ac;have be:B≠e:=Ω
 have bO:=az.size;have bP:w.heap.size<=e:=Ω
 have bQ:w.heap.size<=B:=Ω
 refine b6.range m (λq f=>Ext w f/\ai f B b9 [.int .u64 0,Δ 0]/\∃b:Nat,ai f e b9 [.int .u64 (b:Int),Δ (m:Int)]/\mP b m/\∀j:Nat,b.testBit j=(decide (j<m)&& !(decide (j<q)&&mk.testBit j))) Ω
  ⟨bd.F ad,bc.W ad,_,aC.W ad,⟨Ω,by have:=Nat.two_pow_pos m;omega⟩,λj=>by rw[CP];simp⟩ ?_ ?_
 .rintro q f bf bR ⟨H,K,b,C,M,N⟩ bg;refine bM Ω ?_;refine cZ (λO=>Ext w O/\ai O B b9 [.int .u64 0,Δ 0]/\∃b:Nat,ai O e b9 [.int .u64 (b:Int),Δ (m:Int)]/\mP b m/\∀j:Nat,b.testBit j=(decide (j<m)&& !(decide (j<q+1)&&mk.testBit j))) ?_ ?_
  .rintro O bi;rw[aR];exact bg _ bi
  intro aA aE;have bj:mk / 2 ^ q<2 ^ 62:=Nat.lt_of_le_of_lt (Nat.div_le_self _ _) Ω;rw[aD,DL Ω,show(1:Int)=((1:Nat):Int)from rfl,FE bj Ω,bl,ao];have aG:(((mk / 2 ^ q &&& 1:Nat):Int)=((1:Nat):Int))↔mk.testBit q=ms:=by rw[<-FF];omega
  refine⟨λae=>?_,λah=>?_⟩
  .have ae:=aG.1 ae;rw[bF b9.p b9.i rfl (show f.rangeAt e 0 [.int .u64 (b:Int),Δ (m:Int)]from C.range)];refine(Nc M).Y ?_;rintro _ bS _ ⟨rfl,aj⟩;rw[lw ⟨Ω,Ω⟩,u5];refine b8 (vs:=[.int .u64 ((lp b (2 ^ q):Nat):Int),Δ (m:Int)]) b9.i rfl rfl (by intro u hu;simp at hu;rcases hu with rfl|rfl<;>rfl) (C.W aj) λbU aH bV bk=>?_;have aI:∀j:Nat,(lp b (2 ^ q)).testBit j=(decide (j<m)&& !(decide (j<q+1)&&mk.testBit j)):=λj=>by
    rw[CH,N,Nat.testBit_two_pow];by_cases aJ:j<m
    .by_cases P:j=q
     .subst P;simp[ae]
     .have ak:decide (j<q+1)=decide (j<q):=decide_eq_decide.2 ⟨λh=>Ω,λh=>Ω⟩;rw[ak,m3 aJ,m3 (show j<64 by omega),m5 (show¬q=j from λh=>P h.symm)];simp
    .simp[aJ]
   refine aE _ ⟨(H.F aj).then aH λr bW he=>by have he:r=e:=he;omega,(K.W aj).aa aH λhe=>be he,_,bk,⟨Ω,M3 λj aM=>by rw[aI,m5 Ω];rfl⟩,aI⟩
  .have ah:mk.testBit q=ne:=by simpa using λh=>ah (aG.2 h)
   refine aE _ ⟨H,K,b,C,M,λj=>?_⟩;rw[N];by_cases P:j=q
   .subst P;simp[ah]
   .have ak:decide (j<q+1)=decide (j<q):=decide_eq_decide.2 ⟨λh=>Ω,λh=>Ω⟩;rw[ak]
 .rintro f bf ⟨H,K,b,C,M,N⟩;refine cc Ω ?_;rw[bF b9.p b9.i rfl (show f.rangeAt e 0 [.int .u64 (b:Int),Δ (m:Int)]from C.range)];refine b8 (vs:=[.int .u64 (b:Int),Δ (m:Int)]) b9.i rfl rfl (by intro u hu;simp at hu;rcases hu with rfl|rfl<;>rfl) K λbX bm bY bn=>?_;rw[gk b9.p b9.i rfl bn.range];refine⟨⟨b,m,rfl,M,λh=>m2 a h,λy ap aN=>?_⟩,H.put bm Ω⟩;rw[E]at aN;cases aN;refine⟨Ω,λj=>?_⟩;rw[N,aD,RG,show x.un.length=m by omega];by_cases aM:j<m<;>simp[aM]
theorem FH{f:bI}(e:ba k d6 s)(ah:f∈s.d8):cg f.am/\f.cs.length=(aX f.am).toNat/\aX f.am<=4096:=by
 obtain⟨a,V,_⟩:=e.d8 f ah;rw[V];refine⟨⟨?_,oN e.fg.2.2 λv ac=>⟨(a.scope.1 v ac).1,a.d7 v ac⟩⟩,a.len,a.small⟩;have:=a.scope.2;simp[ci];exact this
def ig(s:an)(j:Nat)(tl:Λ):Option Nat:=match s.d8[j]? with
 |some f=>if f.live≠0 then(ct f.am tl 0).map λm=>e6 s j+1+m.toNat else ν
 |none=>ν
def mh(s:an)(j:Nat)(tl:Λ):Int:=match s.d8[j]? with
 |some f=>bt f.am f.cs tl
 |none=>0
theorem FI(h:bw w af ag A R n s t)(K:aQ .i64 w aV tl):aq x7 Jz [Γ af,Δ (j:Int),aV] w λv I=>v=Δ (match ig s j tl with|some p=>(p:Int)|none=>-1)/\Ext w I:=by
 refine aF func85 ?_;refine(rp h).Y ?_;rintro _ U _ ⟨rfl,z⟩;rw[m3 Ω,T0,u5,bE,b1];refine⟨λa=>⟨?_,z⟩,λa=>?_⟩
 .have a:eL s j=ne:=by simpa using a
  have:ig s j tl=ν:=by
   unfold ig;unfold eL at a;cases ah:s.d8[j]? with
   |none=>rfl
   |some f=>
    rw[ah]at a;have a:f.live=0:=by simpa using a
    simp[a]
  rw[this]
 have a:eL s j=ms:=by simpa using a
 obtain⟨f,ah,M⟩:∃f,s.d8[j]?=σ f/\f.live≠0:=by
  unfold eL at a;cases ah:s.d8[j]? with
  |none=>rw[ah]at a;cases a
  |some f=>rw[ah]at a;exact⟨f,rfl,by simpa using a⟩
 obtain⟨G,ad,ae⟩:=FH h.2.2.2.1 (x6 ah);obtain⟨N,O,P,Q,bh,H,L,S,B,V,W,X,r,x⟩:=(h.W z).1.parts;obtain⟨y,e⟩:∃y,L[j]?=σ y:=⟨_,x8 (by rw[x.1];exact(x5.1 ah).1)⟩;have C:=(x5.1 e).1;obtain⟨_,Y,J⟩:=x.2 j y f e ah;have Z:U.rangeAt H (j*3+1) [y.ho]:=λq v ac=>by
  match q,ac with
  |0,ac=>cases ac;exact r.range e 1 _ rfl
 rw[aL ch.p 3 B rfl,cf rfl fm.u ec.i r C,aY ec.p rfl,bF (cs:=[y.ho]) bL.p bL.i rfl Z];refine(B9 Y.ls (K.W z) G).Y ?_;rintro _ ab _ ⟨rfl,aa⟩;have E:=z.F aa;unfold mK ig;rw[ah];simp only[lw M];cases hi:ct f.am tl 0 with
 |none=>
  simp only[Option.map_none];rw[bx,bz,bG,ao];exact⟨λ_=>⟨trivial,E⟩,λh=>m2 (show(3:Int)≠0 by decide) h⟩
 |some m=>
  simp only[Y9];rw[bx,bz,bG,ao];refine⟨λh=>m2 rfl h,λ_=>?_⟩;have ai:=pK G.2 hi;have aj:=yY ah;have ak:=ta h.2.1 h.2.2.1;obtain⟨N,O,P,Q,bh,H,L,S,B,V,W,X,r,x⟩:=(h.W E).1.parts;obtain⟨y,e⟩:∃y,L[j]?=σ y:=⟨_,x8 (by rw[x.1];exact(x5.1 ah).1)⟩;have C:=(x5.1 e).1;obtain⟨_,_,J⟩:=x.2 j y f e ah;rw[aL ch.p 3 B rfl,cf rfl fm.u ec.i r C,aY ec.p rfl,aD Ψ (r.range e 2 _ rfl),J,aR,hx Ω Ω,aR,hx Ω Ω];refine⟨?_,E⟩;congr 1;omega
theorem y2{p:Nat}(a:ba k d6 s)(h:ig s j tl=σ p):s.cells[p]?=σ (mh s j tl)/\∃f,s.d8[j]?=σ f/\f.live≠0/\∃m:Nat,ct f.am tl 0=σ (m:Int)/\m<f.cs.length/\p=e6 s j+(m+1):=by
 unfold ig at h;cases ah:s.d8[j]? with
 |none=>rw[ah]at h;cases h
 |some f=>
  rw[ah]at h;simp only at h;split at h
  .rename_i e;obtain⟨m,hm,rfl⟩:=Y0.1 h;obtain⟨r,w,x⟩:=FH a (x6 ah);have y:=pK r.2 hm;obtain⟨q,rfl⟩:∃q:Nat,m=q:=⟨m.toNat,Ω⟩;refine⟨?_,f,rfl,e,q,hm,Ω,Ω⟩;rw[show e6 s j+1+(q:Int).toNat=e6 s j+(q+1) by omega,yC ah Ω];unfold mh bt;rw[ah];simp only[hm];show f.cs[q]?=_;rw[u5,p8,x8 Ω];rfl
  .cases h
theorem vH(h:bw w af ag A R n s t)(e:aQ .i64 w aV tl):aq x7 Bf [Γ af,Δ (j:Int),aV] w λv I=>v=(if(ig s j tl).isSome then .tuple #[Δ (mh s j tl),Δ 0]else .tuple #[Δ 0,Δ 1])/\Ext w I:=by
 refine aF func37 ?_;rw[cT dx.u];simp only[l9,a6];refine(FI h e).Y ?_;rintro _ U _ ⟨rfl,a⟩;cases ae:ig s j tl with
 |none=>
  simp only;rw[aW,ao];exact⟨λ_=>⟨rfl,a⟩,λh=>Ω⟩
 |some p=>
  simp only;refine cc Ω ?_;obtain⟨x,y,z,B,bh,C,L,E,f,G,q,H,J,K⟩:=(h.W a).1.parts;rw[aL ch.p 1 f rfl];refine(m4 q rfl (by rw[h.2.1];exact(y2 h.2.2.2.1 ae).1)).Y ?_;rintro _ ab _ ⟨rfl,r⟩;exact⟨rfl,a.F r⟩
end
theorem eZ.parts{a:Nat}{e f r:x1}{A R:ak}{n:aI}{s:an}{t:az}(h:eZ w af ag a e f r A R n s t):∃bh j L q,ai w af ch [Γ a,Γ ag,e,f,r]/\gM w a n/\db w ag q t/\aH .i64 al w bh e (iR s)/\bn oQ 3 ec w j f L/\na R w L s:=by
 obtain⟨_,bh,j,ge,L,E,q,w0,x,⟨y,z,H⟩,⟨B,I,J,K⟩,C,⟨F,G⟩,M,N⟩:=h;exact⟨bh,j,L,q,x,y.W z,B,C,F,G⟩
theorem RH{a b:Int}(e:0<=a/\a<=k)(f:0<=b/\b<=k)(hk:1<=k/\k<=2147483648):aq x7 BC [Δ a,Δ b,Δ k] w λv I=>v= .tuple #[Δ (min (a+b) k),Δ 0]/\Ext w I:=by
 refine xW.Y ?_;rintro _ U _ ⟨rfl,J⟩;refine⟨?_,J⟩;unfold pU;rw[lw ⟨⟨hk,e.1,e.2⟩,hk,f.1,f.2⟩]
def Room(t:az):Prop:=t.marks=[]\/t.olds.length<100000000
def dZ(s:an)(i v:Nat):an:=match s.d7[i]? with
 |some x=>{s with d7:=s.d7.set i {x with mask:=((x.mask.toNat ||| 2 ^ v:Nat):Int)}}
 |none=>s
theorem ba.vI{s:an}{i:Nat}{x y:bA}(h:ba k d6 s)(J:s.d7[i]?=σ x)(j:y.un.length=x.un.length)(r:∀c∈y.un,0<=c/\c<=k)(hm:0<=y.mask/\y.mask<4294967296):ba k d6 {s with d7:=s.d7.set i y}:=
 ⟨h.eA,h.fg,h.zero,by grind [ba.d7],λp z q a e=>by
  have a:(s.d7.set i y)[p]?=σ z:=a;rw[X8]at a;by_cases f:i=p
  .subst f;rw[lw rfl,lw (x5.1 J).1]at a;cases a;exact⟨j.F (h.var i x q J e).1,r,hm⟩
  .rw[m1 f]at a;exact h.var p z q a e,h.d8⟩
theorem ba.FJ{s:an}{f g:bI}(h:ba k d6 s)(ah:s.d8[j]?=σ f)(h1:g.sc=f.sc)(e:g.am=f.am)(q:g.cs.length=f.cs.length)(a:∀c∈g.cs,0<=c/\c<=k):ba k d6 {s with d8:=s.d8.set j g}:=
 ⟨h.eA,h.fg,h.zero,h.d7,h.var,λx J=>by
  rcases U7 J with J|rfl
  .exact h.d8 x J
  .obtain⟨⟨r,w,y,z,A,B⟩,C,E⟩:=h.d8 f (x6 ah);refine⟨⟨?_,?_,?_,?_,?_,a⟩,?_,?_⟩
   .grind
   all_goals grind⟩
theorem RI{r:Nat}{c:List x1}(a:ai w r e c)(he:¬(e=dh\/e=eu\/e=gT\/e=ee\/e=ch\/e=ec\/e=gS)):¬eB w r:=by
 rintro (⟨h,j,q,s⟩|f)
 .grind [eJ]
 .exact f _ a rfl
section
variable{w:x4}{af ag:Nat}{A R:ak}{n:aI}{s:an}{t:az}
theorem m8.set(h:m8 t)(aE:Room t)(p:Nat)(x:Int):m8 (t.set p x):=by
 refine⟨by rw[az.E3];exact h.1,?_,by rw[az.yG];exact h.2.2⟩;rcases aE with aE|aE
 .rw[az.yH aE];exact h.2.1
 grind [az.E4]
theorem FK{s':an}{p:Nat}{x:Int}(h:bw w af ag A R n s t)(f:y=(p:Int))(ae:p<s.cells.length)(j:s.cells.set p x=s'.cells)(V:nb s s')(q:ba n.k n.d6 s')(aE:Room t):
  aq x7 Bq [Γ ag,Δ y,Δ x] w λr I=>r=Δ 0/\aj (eB w) w I/\∃aP,Grow A w aP I/\bw I af ag aP R n s' (t.set p x):=by
 obtain⟨z,ac,e,_,B⟩:=id h;obtain⟨C,E,G⟩:=z.s4;have H:p<t.cells.length:=by grind [az.bT]
 refine(vw E.min f H e).Y ?_;rintro _ U _ ⟨rfl,J,a,K⟩;obtain⟨aP,L,M⟩:=G (λr=>C r\/J r) U _ ⟨a.1.Y λr _ h=>h.1,λr N=>N.elim .inl λh=>(a.2.1 r h).imp (λh=>h.1) id,by grind⟩ (K.Y (by grind));exact⟨rfl,a.1.Y λr _ h=>.inl h.2,aP,L,M.same V,by rw[az.r7,ac,j],e.set aE p x,q,B⟩
theorem y3{i:Int}(h:bw w af ag A R n s t)(aE:Room t):aq x7 Jn [Γ af,Δ i,Δ v] w λr I=>(¬eC n i v->r=Δ 1/\Ext w I)/\
  (eC n i v->r=Δ 0/\aj (eB w) w I/\∃aP x,Grow A w aP I/\bw I af ag aP R n (dZ s i.toNat v.toNat) (t.set (ic s i.toNat+1) x)):=by
 refine aF func70 ?_;rw[cT dx.u];simp only[l9,a6];refine(y1 h).Y ?_;rintro _ U _ ⟨rfl,B⟩;by_cases e:eC n i v
 rotate_left
 .rw[m1 e,aW,ao];exact⟨by grind,λh=>Ω⟩
 rw[lw e];refine cc Ω ?_;obtain⟨x,a,J,aa,ac⟩:=e.var h.2.2.2.1;obtain⟨h1,ad,ae,ah⟩:=id e;have ai:=h.2.2.2.1.d7;obtain⟨z,K⟩:=aK (l:=n.d6) (i:=i.toNat) Ω;obtain⟨_,M,ak,am⟩:=h.2.2.2.1.var i.toNat x z a K;have an:=vF a;have ap:=ta h.2.1 h.2.2.1;obtain⟨au,aw,ax,ay,N⟩:=(h.W B).1;obtain⟨bh,az,L,aA,C,aB,O,P,aC,aD⟩:=N.parts;rw[aL ch.p 2 C rfl,fO (y:=i) (i:=i.toNat) Ω av.u al.i Ψ P.ls (s9 Ω),aR,hx Ω Ω];intro ab f _ _;have Q:=B.F f;have E:=C.W f;have S:=O.W f;obtain⟨q,rfl⟩:∃q:Nat,v=q:=⟨v.toNat,Ω⟩;obtain⟨mk,V⟩:∃mk:Nat,x.mask=mk:=⟨x.mask.toNat,Ω⟩;rw[u5]at J;rw[aL ch.p 1 E rfl,aL ch.p 1 E rfl,RF Ω];have W:t.bT[ic s i.toNat+1]?=σ x.mask:=by rw[h.2.1,ri a Ω];rfl
 refine(m4 (i:=ic s i.toNat+1) S Ω W).Y ?_;rintro _ aG _ ⟨rfl,G⟩;refine⟨.inl G,?_⟩;have aH:(2:Nat) ^ q<=2 ^ 31:=T3 Ω Ω;rw[V,RE Ω Ω];have j:=Q.F G;have aI:mk ||| 2 ^ q<2 ^ 32:=Nat.or_lt_two_pow Ω Ω;have H:dZ s i.toNat (q:Int).toNat={s with d7:=s.d7.set i.toNat {x with mask:=((mk ||| 2 ^ q:Nat):Int)}}:=by
  grind [dZ,u5]
 refine(FK (p:=ic s i.toNat+1) (s':=dZ s i.toNat (q:Int).toNat) (h.W j) Ω Ω ?_ ?_ ?_ aE).Y ?_
 .rw[H,EV a Ω];rfl
 .grind [E1]
 .rw[H];exact h.2.2.2.1.vI a rfl M (by grind)
 rintro _ aJ _ ⟨rfl,X,aP,Y,Z⟩;exact⟨by grind,λ_=>⟨rfl,iS j X,aP,_,(Grow.W j).F Y,Z⟩⟩
end
theorem y4{cQ:x1}(h:aQ .i64 w cQ l):aq x7 IV [cQ,Δ v] w λr I=>r= .bool (decide (v∈l))/\Ext w I:=by
 refine aF func30 ?_;rw[a7 av.u h];refine cb.range l.length (λi _ U=>Ext w U/\v∉l.take i) h.le ⟨Ext.refl _,Ξ⟩ ?_ ?_
 .rintro i _ U k hi ⟨J,a⟩ hk;obtain⟨x,e⟩:=aK (l:=l) hi;refine bM Ω ?_;rw[bm av.u al.i Ψ (h.W J) e,bl,ao];refine⟨λhe=>⟨by rw[m3];rw[<-he];exact x6 e,J⟩,λf=>?_⟩;rw[aR];refine hk _ _ ⟨J,λhm=>?_⟩;rw[u7,e,o8,j5,Z7]at hm;rcases hm with hm|hm
  .exact a hm
  .exact f hm.symm
 .rintro _ U k ⟨J,a⟩;rw[o6]at a;rw[aW,ao];exact⟨λh=>Ω,λ_=>⟨by rw[m5 a],J⟩⟩
theorem FL{x:bA}(h:0<=v/\v<x.un.length):v∈aB x↔dropped x.mask v=ne:=by
 unfold aB;rw[T6,o9];constructor
 .rintro⟨_,a⟩;simpa using a
 .intro a;exact⟨⟨v.toNat,List.mem_range.2 Ω,Ω⟩,by simp[a]⟩
def b2(s:an):Prop:=∀f∈s.d8,f.live≠0->∀v∈f.sc,∀x,s.d7[v.toNat]?=σ x->x.gone=0
theorem gM.put{g y:Nat}{c:List x1}{n:aI}(h:gM w y n)(a:ai w g a8 c)(f:aj (λr=>r=g) w I):gM I y n:=by
 have q:=FD a;have z:∀r,r=g->∃e c,ai w r e c/\e≠jd/\e≠c4/\e≠al/\e≠ax/\e≠aC:=λr j=>by
  subst j;exact⟨_,c,a,Φ,Φ,Φ,Φ,Φ⟩
 obtain⟨A,B,C,E,gr,bc,L,nm,ho,gz,fv2,h1,F,G,H,J,K,M⟩:=h;refine⟨A,B,C,E,gr,bc,L,nm,ho,gz,fv2,yV h1 f q Φ,yV F f q Φ,yU G f q Φ,H.aa f λr j=>?_,J,K.aa f λr j=>?_,M⟩
 .obtain⟨e,c,a,_,_,_,s,x⟩:=z r j;exact⟨e,c,a,s,x⟩
 .obtain⟨e,c,a,s,x,N,O,_⟩:=z r j;exact⟨e,c,a,s,x,N,O⟩
theorem StateM.put{g:Nat}{A R:ak}{n:aI}{s:an}{t:az}{c:List x1}(h:StateM w af ag A R n s t)(B:ai w g a8 c)(q:aj (λr=>r=g) w I)(S:¬A g):∃R',(∀r,R' r->R r/\r≠g)/\StateM I af ag A R' n s t:=by
 obtain⟨U,W,X,Y,⟨h1,Z,ab,ac⟩,bh,ad,ge,L,E,ae,w0,al,⟨M,F,am⟩,⟨ao,N,ap,aq⟩,au,⟨av,O⟩,aw,P⟩:=h;obtain⟨cO,Q⟩:=EN;have z:=q.size;have y:=FD B;have C:∀r,(w0.heap.setIfInBounds g cO)[r]?=if g=r then(if g<w0.heap.size then σ cO else ν)else w0.heap[r]?:=λr=>Array.getElem?_setIfInBounds;have ax:∀r,A r->r≠g:=λr a he=>S (he▸a);have int:∀{v:x1}{l:Λ},ky R w v l->ky (λr=>R r/\r≠g) I v l:=λ⟨⟨ay,hm⟩,aA⟩=>⟨⟨ay,yU hm q y Φ⟩,λr a=>⟨aA r a,cv hm B Φ a⟩⟩;refine⟨λr=>R r/\r≠g,λr h=>h,U,W,X,Y,⟨h1,λr a aB=>Z r a aB.1,λr a=>by have:=ab r a.1;omega,λr a=>by have:=ac r a;omega⟩,bh,ad,ge,L,E,ae,{w0 with heap:=w0.heap.setIfInBounds g cO},yV al q y Φ,⟨?_,?_,?_⟩,
  ⟨ao.aa q λr a=>ax r (N r a),N,ap,aq⟩,yU au q y Φ,⟨FC av q y Φ,O.1,λj x f J ah=>?_⟩,FC aw q y Φ,P.1,λj x e J he=>?_⟩
 .by_cases V:∃o,w0.heap[g]?=σ o/\gf o=ms
  .obtain⟨o,aE,aC⟩:=V;have aD:ai w0 g a8 c:=by
    unfold ai at B ⊢;have:=F.bb g o aE aC;rw[B]at this;rw[aE,this]
   refine M.put aD ⟨Ξ,λr o a V aF=>?_⟩;show(w0.heap.setIfInBounds g cO)[r]?=σ o;rw[C,m1 λhe=>aF he.symm];exact a
  .refine M.W ⟨Ξ,λr o a aG=>?_⟩;show(w0.heap.setIfInBounds g cO)[r]?=σ o;rw[C,m1 λhe=>V ⟨o,by rw[he];exact a,aG⟩];exact a
 .refine⟨by show(w0.heap.setIfInBounds g cO).size<=_;rw[Array.size_setIfInBounds];exact Y7 F.size z,λr o a V=>?_⟩;have a:(w0.heap.setIfInBounds g cO)[r]?=σ o:=a;rw[C]at a;by_cases he:g=r
  .rw[lw he]at a;split at a
   .cases a;rw[Q]at V;cases V
   .cases a
  .rw[m1 he]at a;exact q.bb r o (F.bb r o a V) V λh=>he h.symm
 .intro r o a V;have a:(w0.heap.setIfInBounds g cO)[r]?=σ o:=a;rw[C]at a;by_cases he:g=r
  .rw[lw he]at a;split at a
   .cases a;rw[Q]at V;cases V
   .cases a
  .rw[m1 he]at a;exact⟨am r o a V,λh=>he h.symm⟩
 .obtain⟨G,H,K⟩:=O.2 j x f J ah;exact⟨int G,int H,K⟩
 .obtain⟨G,H,K⟩:=P.2 j x e J he;exact⟨G,int H,int K⟩
theorem RJ{f:cd}(j:pl.length<=60000)(h:iy pl=σ f):∃N,N<=60000/\fC N f/\f.name≠[]/\∀b∈f.name,ca b=ms:=by
 unfold iy at h;rw[m1 Ω]at h;cases a:jU ⟨(lex pl).1,0,ne,[]⟩with
 |none=>rw[a]at h;cases h
 |some q=>
  obtain⟨r,s⟩:=q;rw[a]at h;simp only at h;split at h
  .rename_i aw;cases h;obtain⟨h1,e⟩:=De rfl a aw.2.2;have w:=r6 pl.length pl (p9 _);obtain⟨U,ab,_⟩:=uy pl.length pl (p9 _) f.name e;exact⟨_,by show(lex pl).1.length<=60000;omega,h1,U,ab⟩
  .cases h
theorem RK:aq x7 Bi [.pointer ν] w λv I=>v= .pointer ν/\Ext w I:=by
 refine aF func61 ?_;rw[cT oy.u];simp only[Option.isNone_none,bK];exact⟨by trivial,Ext.refl _⟩
theorem RL{v:x1}(h:aQ .u8 w v l)(C:l.length<=100000):aq x7 Jb [v] w λf I=>Ext w I/\∃g,aH .u8 cS I g f l:=by
 have e:=h;obtain⟨E,b,o,base,cap,rfl,G,hm,s,x⟩:=h;refine aF func57 ?_;rw[qP cU.u,b1];refine⟨λy=>⟨Ext.refl _,0,?_⟩,λ_=>?_⟩
 .have:l=[]:=by
   cases base with
   |none=>
        by_cases e:0<l.length
        .have:=s e;cases this
        .exact j6 Ω
   |some a=>cases y
  subst this;exact aH.nil _ _ _ _
 .refine yW (k:=.u8) cU.u cS.i λH g1 U J j q=>?_;refine iF cU.u cS.i rfl q (e.W j) Θ Θ λf z ab A K B=>?_;exact⟨j.then B (λr x he=>by have:=(b5 q he).1;omega),z,by simpa using A⟩
def RM(sv:x1):Prop:=∃cs:List x1,sv= .agg cs.toArray/\cs.length=8/\∀u∈cs,u.oneCell'=ms
theorem FM:RM (.agg z12.toArray):=⟨z12,rfl,rfl,by intro u hu;simp[z12]at hu;rcases hu with rfl|rfl|rfl|rfl<;>rfl⟩
theorem y5{f:cd}(a:fC N f):(c7 f).d8.length<=256:=by
 have h1:=(sL a).2.length_eq;have h:=(mW a).2.2;have j:=List.length_filter_le gl (gm f);have q:=a.mR;have e:=(rg f (gn f).length).2.2.2;rw[vv]at e;omega
theorem RN{n:aI}{t:az}(e:kX n)(ah:n.d8.length<=256)(ac:t.bT=(dB n).cells)(a:Plain t):m8 t:=by
 have h1:=vD e ah n.unary.length n.d8.length;rw[yJ,<-ac]at h1;unfold az.bT at h1;rw[u9]at h1;refine⟨Ω,?_,?_⟩
 .rw[a.2.1];exact X9 _
 .rw[a.1];exact X9 _
section
variable{w:x4}{af ag:Nat}{A R:ak}{n:aI}{s:an}{t:az}
theorem FN{j:Int}(h:bw w af ag A R n s t)(q:¬(0<=j/\j<s.d8.length)):aq x7 rW [Γ af,Δ j] w λr I=>r= .slice ν 0 0/\Ext w I:=by
 refine aF func54 ?_;refine a1 (λv U=>v= .bool ms/\Ext w U) ?_ ?_
 .rintro _ U ⟨rfl,e⟩;rw[bK];exact⟨rfl,e⟩
 intro aA a;rw[aW,ao];refine⟨λ_=>a _ _ ⟨rfl,Ext.refl _⟩,λx=>?_⟩;refine(rn h).Y ?_;rintro _ y _ ⟨rfl,f⟩;rw[cJ];exact a _ _ ⟨by rw[m3 Ω],f⟩
end
section
variable{w:x4}{B:Nat}{sv:x1}{k:Int}{d6:Λ}{s:an}
end
def ih:List (Λ)->List (Λ)
 |[]=>[[]]
 |d::a=>d.flatMap λv=>(ih a).map (v:: ·)
theorem vJ:∀{a:List (Λ)}{t:Λ},t∈ih a↔t.length=a.length/\∀(p:Nat)d v,a[p]?=σ d->t[p]?=σ v->v∈d
 |[],t=>by
  grind [ih]
 |d::a,t=>by
  simp only[ih,List.mem_flatMap,o9];constructor
  .rintro⟨v,ac,bu,f,rfl⟩;obtain⟨h1,e⟩:=vJ.1 f
   grind
  .rintro⟨h1,e⟩;cases t with
   |nil=>simp at h1
   |cons v bu=>exact⟨v,e 0 d v rfl rfl,bu,vJ.2 ⟨by grind,λp h u ae hu=>e (p+1) h u (by grind) (by grind)⟩,rfl⟩
def qc:List (Int->Bool)->Λ->Bool
 |q::a,v::t=>q v&&qc a t
 |_,_=>ms
theorem FO:∀(a:List (Λ))(f:List (Int->Bool)),f.length=a.length->ih ((a.zip f).map λp=>p.1.filter p.2)=(ih a).filter (qc f)
 |[],[],_=>rfl
 |d::a,q::f,h=>by
  have j:=FO a f (by grind);simp only[List.zip_cons_cons,List.map_cons,ih];rw[j];clear j h;induction d with
  |nil=>rfl
  |cons v d r=>
   rw[U2,List.filter_append,<-r];have e:((ih a).map (v:: ·)).filter (qc (q::f))=if q v then((ih a).filter (qc f)).map (v:: ·)else[]:=by
    rw[List.filter_map]
    grind [List.filter_congr,qc,List.filter_eq_nil_iff]
   grind
def kb(k:Int):Λ:=(X2 k.toNat).map λv:Nat=>(v:Int)
theorem FP:∀(s:Λ),bq s=ih (s.map kb)
 :=by
 intro a;induction a<;>grind [bq,ih,kb,List.flatMap_map]
theorem vK:v∈kb k↔0<=v/\v<k:=by
 unfold kb;rw[o9];constructor
 .grind
 .intro h;exact⟨v.toNat,by grind,Ω⟩
def eo(f:Int->Int)(L:List (Λ))(am cs:Λ):Λ:=((bq am).zip cs).map λp=>if p.1∈L then f p.2 else p.2
theorem rq(f:Int->Int)(L:List (Λ))(am cs:Λ)(h:cs.length<=(bq am).length):(eo f L am cs).length=cs.length:=by
 grind [eo]
theorem rr{f:Int->Int}{i:Nat}(a:(bq am)[i]?=σ t)(e:cs[i]?=σ c):(eo f L am cs)[i]?=σ (if t∈L then f c else c):=by
 grind [eo]
theorem RO{f:Int->Int}{i:Nat}(V:dN am)(s:cs.length<=(bq am).length)(a:(bq am)[i]?=σ t)(e:cs[i]?=σ c)(r:t∉L):(eo f L am cs)[i]?=σ c/\(eo f L am cs).set i (f c)=eo f (L++[t]) am cs:=by
 have h1:=rr (f:=f) (L:=L) a e;rw[m1 r]at h1;refine⟨h1,?_⟩;apply Y5;intro j;rw[X8];by_cases h:i=j
 .subst h;rw[lw rfl,lw (x5.1 h1).1,rr a e,lw Ξ]
 .rw[m1 h];cases q:cs[j]? with
  |none=>
   grind [rq]
  |some w=>
   obtain⟨u,hu⟩:∃u,(bq am)[j]?=σ u:=⟨_,x8 (by grind)⟩;rw[rr hu q,rr hu q];have x:u≠t:=λhe=>by
    subst he;have y:=kt V a
    grind [kt]
   grind
def mi(s:an)(i v:Nat)(c:Int):an:=match s.d7[i]? with
 |some x=>{s with d7:=s.d7.set i {x with un:=x.un.set v c}}
 |none=>s
def mj(s:an)(j m:Nat)(c:Int):an:=match s.d8[j]? with
 |some f=>{s with d8:=s.d8.set j {f with cs:=f.cs.set m c}}
 |none=>s
theorem vL{i:Nat}(h:∀x∈l,0<=x/\x<=k)(a:0<=c/\c<=k):∀x∈l.set i c,0<=x/\x<=k:=λx J=>by
 rcases U7 J with J|rfl
 .exact h x J
 .exact a
def oX(w:x4)(af ag:Nat)(A R:ak)(n:aI)(s':an)(t:az)(v:x1)(I:x4):Prop:=v=Δ 0/\aj (eB w) w I/\∃aP p x,Grow A w aP I/\bw I af ag aP R n s' (t.set p x)
theorem oX.W{U:x4}{A R:ak}{n:aI}{s':an}{t:az}{v:x1}(J:Ext w U)(h:oX U af ag A R n s' t v I):oX w af ag A R n s' t v I:=by
 obtain⟨h1,a,aP,p,x,e,f⟩:=h;exact⟨h1,iS J a,aP,p,x,(Grow.W J).F e,f⟩
section
variable{w:x4}{af ag:Nat}{A R:ak}{n:aI}{s:an}{t:az}
theorem td(h:bw w af ag A R n s t)(f:y<0\/¬(0<=c/\c<=n.k)):aq x7 BJ [Γ af,Δ y,Δ c] w λv I=>v=Δ (if y<0 then 1 else 3)/\Ext w I:=by
 refine aF func269 ?_;rw[cT dx.u];simp only[l9,a6];rw[aW,ao];refine⟨λe=>⟨by rw[lw e],Ext.refl _⟩,λe=>?_⟩;refine(n2 h).Y ?_;rintro _ U _ ⟨rfl,j⟩;refine(ln (a:=c) (k:=n.k)).Y ?_;rintro _ ab _ ⟨rfl,q⟩;have r:=f.resolve_left e;rw[m5 (λh=>r h.2),bE,X4,bK,m1 e];exact⟨rfl,j.F q⟩
theorem y6{s':an}{p:Nat}(h:bw w af ag A R n s t)(aE:Room t)(f:y=(p:Int))(ae:p<s.cells.length)(j:s.cells.set p c=s'.cells)(V:nb s s')(q:ba n.k n.d6 s')(r:0<=c/\c<=n.k):
  aq x7 BJ [Γ af,Δ y,Δ c] w (oX w af ag A R n s' t):=by
 refine aF func269 ?_;rw[cT dx.u];simp only[l9,a6];refine cc Ω ?_;refine(n2 h).Y ?_;rintro _ U _ ⟨rfl,x⟩;refine(ln (a:=c) (k:=n.k)).Y ?_;rintro _ ab _ ⟨rfl,z⟩;have e:=x.F z;rw[m3 (show cA c n.k from⟨h.2.2.2.1.eA,r⟩),bE,Y1,a6];obtain⟨H,I,J,K,bh,M,L,N,B,O,P,Q,S,W⟩:=(h.W e).1.parts;rw[aL ch.p 1 B rfl];refine(FK (h.W e) f ae j V q aE).Y ?_;rintro _ X _ ⟨rfl,C,aP,E,G⟩;exact oX.W e ⟨rfl,C,aP,_,_,E,G⟩
theorem RP(h:bw w af ag A R n s t)(aE:Room t):aq x7 K2 [Γ af,Δ c] w λv I=>(¬(0<=c/\c<=n.k)->v=Δ 3/\Ext w I)/\((0<=c/\c<=n.k)->oX w af ag A R n {s with zero:=c} t v I):=by
 refine aF func217 ?_;by_cases a:0<=c/\c<=n.k
 .refine (y6 (p:=0) h aE rfl (by unfold an.cells lD;simp) (QL s c) (E0 s c) ⟨h.2.2.2.1.eA,h.2.2.2.1.fg,a,h.2.2.2.1.d7,h.2.2.2.1.var,h.2.2.2.1.d8⟩ a).Y ?_;rintro v U _ e;exact⟨λh=>m2 a h,λ_=>e⟩
 .refine (td h (.inr a)).Y ?_;rintro v U _ ⟨rfl,f⟩;exact⟨λ_=>⟨rfl,f⟩,λh=>m2 h a⟩
theorem FQ{i:Int}(h:bw w af ag A R n s t)(aE:Room t):aq x7 K1 [Γ af,Δ i,Δ v,Δ c] w λr I=>
  (¬eC n i v->r=Δ 1/\Ext w I)/\(eC n i v->¬(0<=c/\c<=n.k)->r=Δ 3/\Ext w I)/\(eC n i v->(0<=c/\c<=n.k)->oX w af ag A R n (mi s i.toNat v.toNat c) t r I):=by
 refine aF func216 ?_;refine(y1 h).Y ?_;rintro _ U _ ⟨rfl,e⟩;by_cases a:eC n i v
 .rw[lw a];by_cases j:0<=c/\c<=n.k
  .obtain⟨x,f,G,H,_⟩:=a.var h.2.2.2.1;have J:=h.2.2.2.1.d7;obtain⟨z,B⟩:∃z,n.d6[i.toNat]?=σ z:=⟨_,x8 (by have:=a.1;have:=a.2.1;omega)⟩;obtain⟨_,C,hm⟩:=h.2.2.2.1.var i.toNat x z f B;have K:=vF f;have q:mi s i.toNat v.toNat c={s with d7:=s.d7.set i.toNat {x with un:=x.un.set v.toNat c}}:=by unfold mi;rw[f]
   refine(y6 (p:=ic s i.toNat+(2+v.toNat)) (s':=mi s i.toNat v.toNat c) (h.W e) aE Ω Ω ?_ ?_ ?_ j).Y ?_
   .rw[q];refine EV f Ω ?_;rw[show 2+v.toNat=v.toNat+1+1 by omega];rfl
   .rw[q];exact E1 f Ξ
   .rw[q];exact h.2.2.2.1.vI f Ξ (vL C j) hm
   .rintro r ab _ E;exact⟨λh=>m2 a h,λ_ h=>m2 j h,λ_ _=>E.W e⟩
  .refine (td (h.W e) (.inr j)).Y ?_;rintro r ab _ ⟨rfl,y⟩;rw[m1 Ω];exact⟨λh=>m2 a h,λ_ _=>⟨rfl,e.F y⟩,λ_ h=>m2 h j⟩
 .rw[m1 a];refine(td (h.W e) (.inl Ω)).Y ?_;rintro r ab _ ⟨rfl,y⟩;rw[lw Ω];exact⟨λ_=>⟨rfl,e.F y⟩,λh=>m2 h a,λh=>m2 h a⟩
theorem RQ(h:bw w af ag A R n s t)(aE:Room t)(B:aQ .i64 w aV tl):aq x7 K0 [Γ af,Δ (j:Int),aV,Δ c] w λr I=>
  (ig s j tl=ν->r=Δ 1/\Ext w I)/\((ig s j tl).isSome=ms->¬(0<=c/\c<=n.k)->r=Δ 3/\Ext w I)/\
  ((ig s j tl).isSome=ms->(0<=c/\c<=n.k)->∀f (m:Nat),s.d8[j]?=σ f->ct f.am tl 0=σ (m:Int)->oX w af ag A R n (mj s j m c) t r I):=by
 refine aF func215 ?_;refine(FI h B).Y ?_;rintro _ U _ ⟨rfl,a⟩;cases C:ig s j tl with
 |none=>
  simp only;refine(td (h.W a) (.inl Ω)).Y ?_;rintro r ab _ ⟨rfl,q⟩;rw[lw Ω];exact⟨λ_=>⟨rfl,a.F q⟩,λh=>by simp at h,λh=>by simp at h⟩
 |some p=>
  simp only;by_cases e:0<=c/\c<=n.k
  .obtain⟨H,f,ah,J,m,hm,K,rfl⟩:=y2 h.2.2.2.1 C;have L:=yY ah;have x:mj s j m c={s with d8:=s.d8.set j {f with cs:=f.cs.set m c}}:=by unfold mj;rw[ah]
   obtain⟨E,_⟩:=h.2.2.2.1.d8 f (x6 ah);refine(y6 (p:=e6 s j+(m+1)) (s':=mj s j m c) (h.W a) aE rfl Ω ?_ ?_ ?_ e).Y ?_
   .rw[x];exact QM ah Ω rfl
   .rw[x];exact QU ah Ξ rfl rfl
   .rw[x];exact h.2.2.2.1.FJ ah rfl rfl Ξ (vL E.jI e)
   .rintro r ab _ G;refine⟨(λh=>by cases h),λ_ h=>m2 e h,λ_ _ M bX y z=>?_⟩;rw[ah]at y;cases y;rw[hm]at z;have:bX=m:=by have:=Z4 z;omega
    subst this;exact G.W a
  .refine (td (h.W a) (.inr e)).Y ?_;rintro r ab _ ⟨rfl,q⟩;rw[m1 Ω];exact⟨(λh=>by cases h),λ_ _=>⟨rfl,a.F q⟩,λ_ h=>m2 h e⟩
end
def fh(of:Int->Int)(p:Int×Int)(v:Int):Int×Int:=if p.2= -1\/of v<p.1 then(of v,v)else p
def cF(k:Int)(l:Λ)(of:Int->Int):Int×Int:=l.foldl (fh of) (k,-1)
theorem kC{s:an}{n:aI}{i:Int}{b m:Nat}{x:bA}(h:vG s n i b m)(e:0<=i)(J:s.d7[i.toNat]?=σ x):(gD b m).map (λv:Nat=>(v:Int))=aB x:=by
 obtain⟨_,_,f⟩:=h;obtain⟨rfl,j⟩:=f x e J;unfold gD aB;rw[List.filter_map];congr 1;refine List.filter_congr λq a=>?_;have a:=List.mem_range.1 a;rw[j,m3 a,T0];rfl
section
variable{w:x4}{af ag:Nat}{A R:ak}{n:aI}{s:an}{t:az}
theorem RR{a b:Int}(h:bw w af ag A R n s t)(f:0<=a/\a<=n.k)(j:0<=b/\b<=n.k):aq x7 Lb [Γ af,Δ a,Δ b] w λv I=>v=Δ (min (a+b) n.k)/\Ext w I:=by
 refine aF func227 ?_;refine(n2 h).Y ?_;rintro _ U _ ⟨rfl,q⟩;refine(xW).Y ?_;rintro _ ab _ ⟨rfl,r⟩;have hk:=h.2.2.2.1.eA;have e:pU a b n.k= .tuple #[Δ (min (a+b) n.k),Δ 0]:=by
  unfold pU;rw[lw (show cA a n.k/\cA b n.k from⟨⟨hk,f⟩,⟨hk,j⟩⟩)]
 rw[e,bx,bz];exact⟨rfl,q.F r⟩
def lG(n:aI)(s:an)(i:Int):Bool:=decide (0<=i/\i<n.d6.length)&& !dp s i.toNat
theorem RS{i:Int}(h:bw w af ag A R n s t):aq x7 K4 [Γ af,Δ i] w λv I=>v=Δ (if lG n s i=ms then 0 else 1)/\Ext w I:=by
 refine aF func219 ?_;rw[cT dx.u];simp only[l9,a6];refine a1 (λv U=>v= .bool (!lG n s i)/\Ext w U) ?_ ?_
 .rintro _ U ⟨rfl,a⟩;rw[b1];refine⟨λj=>⟨by rw[m1 (by simpa using j)],a⟩,λj=>⟨by rw[lw (by simpa using j)],a⟩⟩
 intro aA q;refine(tc h).Y ?_;rintro _ U _ ⟨rfl,a⟩;rw[b1];refine⟨λe=>q _ _ ⟨?_,a⟩,λe=>?_⟩
 .rw[S0]at e;unfold lG;rw[e.2,Y1,Bool.and_false];rfl
 refine(iW (i:=i) (h.W a)).Y ?_;rintro _ ab _ ⟨⟨b,m,rfl,H,B,C⟩,E⟩;refine(xH).Y ?_;rintro _ J _ ⟨rfl,G⟩;rw[bl];refine q _ _ ⟨?_,(a.F E).F G⟩;congr 1;have K:=h.2.2.2.1.d7;unfold lG;by_cases f:0<=i/\i<n.d6.length
 .obtain⟨x,r⟩:=aK (l:=s.d7) (i:=i.toNat) Ω;obtain⟨z,y⟩:=aK (l:=n.d6) (i:=i.toNat) Ω;have h1:=(h.2.2.2.1.var i.toNat x z r y).1;have L:=h.2.2.2.1.fg.2.2 z (x6 y);have hm:=(C x f.1 r).1;rw[m3 f.1,T0]at e;rw[m3 f,e,m5 Ω];rfl
 .rw[m5 f,(B f).2];rfl
def y7(w:x4)(ml:Nat)(cap:Array x1)(l:Λ)(of:Int->Int):Prop:=∀(I:x4)(v:Int),Ext w I->v∈l->aq x7 ml (Δ v::cap.toList) I λr a=>r=Δ (of v)/\Ext I a
theorem FR{i:Int}{x:bA}{of:Int->Int}{ml:Nat}{cap:Array x1}(h:bw w af ag A R n s t)(N:Laid w)(aN:0<=i)(J:s.d7[i.toNat]?=σ x)(aO:y7 w ml cap (aB x) of):
  aq x7 K5 [Γ af,Δ i,.func (.func ml) #[] cap] w λr I=>Ext w I/\r= .tuple #[Δ (cF n.k (aB x) of).1,Δ (cF n.k (aB x) of).2]:=by
 refine iM func220 ?_;refine bo λaP U bd O E=>?_;have E:=E;refine(n2 (h.W O)).Y ?_;rintro _ ab _ ⟨rfl,G⟩;refine bC ax.i λP be bf an ap=>?_;refine bC al.i λga bg bi Q au=>?_;have bj:=(O.F G).size;have z3:=an.size;have z4:=Q.size;refine bs ax.i rfl rfl (ap.W Q) Φ λbk av bm aQ=>?_;have bn:=ap.lt;have bp:=au.lt;refine bs al.i rfl rfl (au.aa av Ω) Φ λbq aw br aR=>?_;have aS:=aQ.aa aw Ω;have ay:=((an.F Q).then av λr a he=>by have he:r=P:=he;omega).put aw Ω;have az:=(O.F G).F ay;refine(iW (i:=i) (h.W az)).Y ?_;rintro _ bt _ ⟨⟨b,m,rfl,V⟩,aC⟩;refine(l3).Y ?_;rintro _ W _ ⟨aT,bh,rfl,bu,X⟩;have bx:=V.1;have aE:=kC V aN J;have B:=aC.F aT;have y:=az.F B;have bz:=y.size;have bB:=B.size;have bD:=E.lt;have bE:=aC.size;have z12:=G.size;obtain⟨S,H⟩:∃S:ak,S=λr=>r=P\/r=ga:=⟨_,rfl⟩;have K:∀r,S r->w.heap.size<=r:=λr a=>by rw[H]at a;rcases a with rfl|rfl<;>omega
 have Y:∀r,S r->r≠aP/\r≠bh:=λr a=>by rw[H]at a;rcases a with rfl|rfl<;>omega
 let st:Nat->Int×Int:=λj=>((aB x).take j).foldl (fh of) (n.k,-1);have aU:=E.W (G.F (ay.F B));refine ki.old ⟨_,ne,jy,#[Γ bh],_,_,_,_,λj I=>aj S W I/\ai I P ax [Δ (st j).1]/\ai I ga al [Δ (st j).2],λ_ _ _=>False,rfl,(l2 (g:=bh) V.1).s,?_,
  λ_ _ J h=>⟨h.1.W J,h.2.W J⟩,λ_ _ _ J h=>⟨h.1.F (J.aa S),h.2.1.W J,h.2.2.W J⟩,λ_ _ _ _ _ h=>h,⟨X,N.W y⟩,⟨aj.refl _ _,aS.W B,aR.W B⟩,?_,?_,λ_ _ h=>h.elim,λ_ _ _ h=>h.elim⟩
 .rintro _ _ _ _ ⟨_,_,_,_,rfl⟩;rfl
 .rintro _ j _ aV ⟨_,_⟩ ⟨bF,rfl,v,ac,aX⟩ ⟨z,L,M⟩;cases aX;intro aF f _ _;have aG:(aB x)[j]?=σ (v:Int):=by rw[<-aE,v8,ac];rfl
  have aH:st (j+1)=fh of (st j) v:=by
   show((aB x).take (j+1)).foldl _ _=_;rw[u7,aG,List.foldl_append];rfl
  have aY:=((y.then z λr a h=>by have:=K r h;omega)).F f;have aZ:=(aU.aa z λh=>(Y _ h).1 rfl).W f;rw[aD Ψ (aZ.cell rfl)];refine aq.Y (aO aF v aY (x6 aG)) ?_;rintro _ aI _ ⟨rfl,Z⟩;have ad:=f.F Z;have ae:=L.W ad;have ah:=M.W ad;refine a1 (λr am=>r= .bool (decide ((st j).2= -1\/of v<(st j).1))/\Ext aI am) ?_ ?_
  .rintro _ am ⟨rfl,C⟩;have aJ:=ad.F C;rw[ao];refine⟨λa2=>?_,λa6=>?_⟩
   .refine bs ax.i rfl rfl (ae.W C) Ξ λbG aK bH a7=>?_;refine bs al.i rfl rfl ((ah.W C).aa aK Ω) Ξ λa8 aL bI ba=>?_;have bb:=a7.aa aL Ω;have q:aj S W a8:=((z.F (aJ.aa S)).F (aK.Y λr _ h=>by rw[H];exact .inl h)).F (aL.Y λr _ h=>by rw[H];exact .inr h);have e:st (j+1)=(of v,(v:Int)):=by rw[aH];unfold fh;rw[lw a2]
    refine⟨⟨X.aa q λh=>(Y _ h).2 rfl,(N.W (y.then q λr a h=>by have:=K r h;omega))⟩,⟨q,?_,?_⟩,λh=>by cases h⟩
    .rw[e];exact bb
    .rw[e];exact ba
   .have e:st (j+1)=st j:=by rw[aH];unfold fh;rw[m1 a6]
    have q:aj S W am:=z.F (aJ.aa S);refine⟨⟨X.aa q λh=>(Y _ h).2 rfl,(N.W (y.then q λr a h=>by have:=K r h;omega))⟩,⟨q,?_,?_⟩,λh=>by cases h⟩
    .rw[e];exact ae.W C
    .rw[e];exact ah.W C
  .intro aA aM;rw[aD Ψ (ah.cell rfl),bl,ao];refine⟨λh1=>aM _ _ ⟨by rw[m3 (.inl h1)],Ext.refl _⟩,λh1=>?_⟩;rw[aD Ψ (ae.cell rfl),aW];refine aM _ _ ⟨?_,Ext.refl _⟩;congr 1;exact decide_eq_decide.2 ⟨.inr,λh=>h.resolve_left h1⟩
 .rintro k aV rfl ⟨z,L,M⟩;intro aF f _ _;have bc:st (gD b m).length=cF n.k (aB x) of:=by
   show((aB x).take _).foldl _ _=_;rw[j4 (by rw[<-aE,u9];exact p9 _)];rfl
  rw[bc]at L M;rw[aD Ψ ((L.W f).cell rfl),aD Ψ ((M.W f).cell rfl)];intro aI Z _;exact⟨((y.then z λr a h=>by have:=K r h;omega).F f).F Z,rfl⟩
end
theorem y8{x:bA}(h:v∈aB x):0<=v/\v<x.un.length:=by
 unfold aB at h;obtain⟨h,_⟩:=T6.1 h;obtain⟨q,a,rfl⟩:=o9.1 h;have:=List.mem_range.1 a;omega
theorem FS{s:an}{n:aI}{i:Int}{b m:Nat}{x:bA}(h:vG s n i b m)(e:0<=i)(J:s.d7[i.toNat]?=σ x):(decide (0<=v/\v<m)&&b.testBit v.toNat)=decide (v∈aB x):=by
 obtain⟨_,_,f⟩:=h;obtain⟨rfl,j⟩:=f x e J;by_cases ac:0<=v/\v<x.un.length
 .rw[m3 ac,T0,j,m3 (show v.toNat<x.un.length by omega),T0,show((v.toNat:Nat):Int)=v by omega];have:=FL ac;cases a:dropped x.mask v with
  |false=>rw[m3 (this.2 a)];rfl
  |true=>rw[m5 λh=>by rw[this.1 h]at a;cases a];rfl
 .rw[m5 ac,m5 λh=>ac (y8 h)];rfl
def ea(s:an)(j:Nat)(tl:Λ):Int:=if(ig s j tl).isSome then mh s j tl else 0
def bN(n:aI)(s:an)(i v:Int):Int:=if eC n i v then fx s i.toNat v.toNat else 0
theorem vM{s:an}(a:ba k d6 s):0<=ea s j tl/\ea s j tl<=k:=by
 have hk:=a.eA;unfold ea;cases q:ig s j tl with
 |none=>simp;omega
 |some p=>
  obtain⟨r,f,ah,w,m,hm,h,rfl⟩:=y2 a q;rw[T8,lw rfl];have e:mh s j tl=f.cs.getD m 0:=by
   unfold mh bt;rw[ah];simp only;rw[hm];rfl
  rw[e,p8,x8 h];exact(a.d8 f (x6 ah)).1.jI _ (T9 h)
theorem lH{n:aI}{s:an}{i:Int}(a:ba n.k n.d6 s):0<=bN n s i v/\bN n s i v<=n.k:=by
 have hk:=a.eA;have q:=a.d7;unfold bN;split
 .rename_i h;obtain⟨x,e,f,_⟩:=h.var a;obtain⟨z,j⟩:∃z,n.d6[i.toNat]?=σ z:=⟨_,x8 (by have:=(x5.1 e).1;omega)⟩;have:=(a.var i.toNat x z e j).2.1;unfold fx;rw[e];simp only;rw[p8,x8 f];exact this _ (T9 f)
 .omega
section
variable{w:x4}{af ag:Nat}{A R:ak}{n:aI}{s:an}{t:az}
theorem FT(h:bw w af ag A R n s t)(f:aQ .i64 w aV tl)(q:∀e I,Ext w I->K (.tuple #[Δ (ea s j tl),Δ e]) I):aq x7 Bf [Γ af,Δ (j:Int),aV] w K:=by
 refine(vH h f).Y ?_;rintro _ U _ ⟨rfl,a⟩;have:=q;unfold ea at this;split
 .rename_i V;rw[lw V]at this;exact this 0 U a
 .rename_i V;rw[m1 V]at this;exact this 1 U a
theorem FU{i:Int}(h:bw w af ag A R n s t)(f:∀e I,Ext w I->K (.tuple #[Δ (bN n s i v),Δ e]) I):aq x7 Be [Γ af,Δ i,Δ v] w K:=by
 refine(qb h).Y ?_;rintro _ U _ ⟨rfl,a⟩;have:=f;unfold bN at this;split
 .rename_i V;rw[lw V]at this;exact this 0 U a
 .rename_i V;rw[m1 V]at this;exact this 1 U a
theorem RT{i:Int}(h:bw w af ag A R n s t):aq x7 K6 [Γ af,Δ i] w λr I=>Ext w I/\∃cap,r= .func (.func BK) #[] cap/\∀l,y7 I BK cap l (bN n s i):=by
 refine aF func221 ?_;refine bo λg1 U B y a=>?_;refine bo λC ab E q f=>?_;rw[lh];have x:=y.F q;refine⟨x,_,rfl,λl I v j _=>?_⟩;refine aF func270 ?_;have a:=a;have f:=f;rw[aD Ψ (((a.W q).W j).cell rfl),aD Ψ ((f.W j).cell rfl)];refine FU (h.W (x.F j)) λe G z=>?_;rw[bx,bz];exact⟨rfl,z⟩
theorem FV{i:Int}(f:ba n.k n.d6 s)(h:lG n s i=ms):0<=i/\∃x,s.d7[i.toNat]?=σ x/\x.gone=0:=by
 unfold lG at h;rw[S0]at h;have h1:=m7 h.1;have j:=f.d7;obtain⟨x,e⟩:=aK (l:=s.d7) (i:=i.toNat) Ω;have a:=h.2;unfold dp at a;rw[e]at a;exact⟨h1.1,x,e,by simpa using a⟩
theorem RU{i:Int}(h:bw w af ag A R n s t)(q:Laid w):aq x7 Bt [Γ af,Δ i] w λr I=>Ext w I/\(lG n s i=ne->r= .tuple #[Δ 0,Δ (-1),Δ 1])/\
  ∀x,lG n s i=ms->s.d7[i.toNat]?=σ x->r= .tuple #[Δ (cF n.k (aB x) (bN n s i)).1,Δ (cF n.k (aB x) (bN n s i)).2,Δ 0]:=by
 refine aF func159 ?_;refine(RS h).Y ?_;rintro _ U _ ⟨rfl,a⟩;cases ac:lG n s i with
 |false=>
  rw[m1 Φ,bG,ao];exact⟨λ_=>⟨a,λ_=>rfl,λ_ h=>by cases h⟩,λh=>m2 Φ h⟩
 |true=>
  obtain⟨y,x,f,_⟩:=FV h.2.2.2.1 ac;rw[lw rfl,bG,ao];refine⟨λh=>m2 rfl h,λ_=>?_⟩;refine(RT (h.W a)).Y ?_;rintro _ ab _ ⟨z,cap,rfl,B⟩;have e:=a.F z;refine(FR (h.W e) (q.W e) y f (B _)).Y ?_;rintro _ E _ ⟨C,rfl⟩;rw[bx,bz];exact⟨e.F C,(λh=>by cases h),λG _ j=>by rw[f]at j;cases j;rfl⟩
theorem mm{f:bI}(h:bw w af ag A R n s t)(ah:s.d8[j]?=σ f):aq x7 rW [Γ af,Δ (j:Int)] w λr I=>Ext w I/\∃g,w.heap.size<=g/\aH .i64 al I g r f.sc:=by
 have H:=(x5.1 ah).1;refine aF func54 ?_;refine a1 (λv U=>v= .bool ne/\Ext w U) ?_ ?_
 .rintro _ U ⟨rfl,a⟩;rw[a6];obtain⟨J,K,M,N,bh,O,L,P,z,Q,S,V,q,e⟩:=(h.W a).1.parts;obtain⟨y,x⟩:∃y,L[j]?=σ y:=⟨_,x8 (by rw[e.1];omega)⟩;obtain⟨B,_,_⟩:=e.2 j y f x ah;rw[aL ch.p 3 z rfl,cf rfl fm.u ec.i q (by rw[e.1];omega),aY ec.p rfl,aD Ψ (q.range x 0 _ rfl)];have W:f.sc.length<=6:=(h.2.2.2.1.d8 f (x6 ah)).1.scope.2;refine(mL B.ls Ω).Y ?_;rintro v ab _ ⟨C,g,X,hm⟩;have:=a.size;exact⟨a.F C,g,Ω,hm⟩
 intro aA E;rw[aW,ao];refine⟨λY=>Ω,λ_=>?_⟩;refine(rn h).Y ?_;rintro _ Z _ ⟨rfl,G⟩;rw[cJ];exact E _ _ ⟨by rw[m5 Ω],G⟩
structure n3(s:an)(j pos v:Int)(f:bI)(u:Int)(x:bA):Prop where
 FW:0<=j
 ah:s.d8[j.toNat]?=σ f
 live:f.live≠0
 eM:0<=pos
 hu:f.sc[pos.toNat]?=σ u
 qd:0<=u
 J:s.d7[u.toNat]?=σ x
 ac:v∈aB x
theorem RV{j pos:Int}(h:bw w af ag A R n s t):aq x7 Kq [Γ af,Δ j,Δ pos,Δ v] w λr I=>Ext w I/\∃e:Int,r=Δ e/\(e=0\/e=1)/\(e=0↔ ∃f u x,n3 s j pos v f u x):=by
 have au:=h.2.2.2.1.d7;refine aF func165 ?_;rw[cT dx.u];simp only[l9,a6];have key:∀(K:x1->x4->Prop),(∀r I,Ext w I->(∀f,0<=j->s.d8[j.toNat]?=σ f->aQ .i64 I r f.sc)->K r I)->aq x7 rW [Γ af,Δ j] w K:=λK N=>by
  by_cases O:0<=j/\j<s.d8.length
  .obtain⟨f,ah⟩:=aK (l:=s.d8) (i:=j.toNat) Ω;have:=mm h ah;rw[show((j.toNat:Nat):Int)=j by omega]at this;refine this.Y ?_;rintro r U _ ⟨a,g,_,hm⟩;exact N r U a λq _ P=>by rw[ah]at P;cases P;exact hm.ls
  .refine (FN h O).Y ?_;rintro r U _ ⟨rfl,a⟩;exact N _ U a λf C ah=>m2 ⟨C,by have:=(x5.1 ah).1;omega⟩ O
 refine key _ λr U a aj=>?_;refine a1 (λak ab=>∃b,ak= .bool b/\(b=ne↔ ∃f u x,n3 s j pos v f u x)/\Ext w ab) ?_ ?_
 .rintro _ ab ⟨b,rfl,E,Q⟩;rw[b1];refine⟨λS=>⟨Q,1,rfl,.inr rfl,⟨(λh=>by cases h),λh=>by rw[E.2 h]at S;cases S⟩⟩,λah=>⟨Q,0,rfl,.inl rfl,⟨λ_=>E.1 ah,λ_=>rfl⟩⟩⟩
 intro aA G;refine(rp (h.W a)).Y ?_;rintro _ aw _ ⟨rfl,V⟩;have z:=a.F V;rw[bE,b1];refine⟨λH=>G _ _ ⟨ms,rfl,⟨(λh=>by cases h),λ⟨f,u,x,ae⟩=>?_⟩,z⟩,λL=>?_⟩
 .rw[m3 ae.FW,T0]at H;unfold eL at H;rw[ae.ah]at H;simp[ae.live]at H
 have L:0<=j/\eL s j.toNat=ms:=by simpa using L
 obtain⟨C,B⟩:=L;obtain⟨f,ah,am⟩:∃f,s.d8[j.toNat]?=σ f/\f.live≠0:=by
  unfold eL at B;cases ah:s.d8[j.toNat]? with
  |none=>rw[ah]at B;cases B
  |some f=>rw[ah]at B;exact⟨f,rfl,by simpa using B⟩
 have W:=(aj f C ah).W V;have X:=(h.2.2.2.1.d8 f (x6 ah)).1;have same:∀{q u x},n3 s j pos v q u x->q=f:=λae=>by have:=ae.ah;rw[ah]at this;cases this;rfl
 rw[aW,ao];refine⟨λax=>G _ _ ⟨ms,rfl,⟨(λh=>by cases h),λ⟨f,u,x,ae⟩=>by have:=ae.eM;omega⟩,z⟩,λay=>?_⟩;rw[a7 av.u W,cJ,ao];refine⟨λaz=>G _ _ ⟨ms,rfl,⟨(λh=>by cases h),λ⟨q,u,x,ae⟩=>?_⟩,z⟩,λaB=>?_⟩
 .obtain rfl:=same ae;have:=(x5.1 ae.hu).1;omega
 obtain⟨u,hu⟩:=aK (l:=f.sc) (i:=pos.toNat) Ω;have Y:=x6 hu;have Z:=(X.scope.1 u Y).1;have aC:=X.d7 u Y;obtain⟨x,M⟩:=aK (l:=s.d7) (i:=u.toNat) Ω;rw[fO (y:=pos) (i:=pos.toNat) Ω av.u al.i Ψ W hu];refine(iW (i:=u) (h.W z)).Y ?_;rintro _ aD _ ⟨⟨b,m,rfl,aa⟩,an⟩;refine(yX aa.1).Y ?_;rintro _ aE _ ⟨rfl,ap⟩;rw[FS aa Z M,bE];refine G _ _ ⟨_,rfl,⟨λE=>⟨f,u,x,C,ah,am,Ω,hu,Z,M,by simpa using E⟩,λ⟨q,u',aG,ae⟩=>?_⟩,(z.F an).F ap⟩;obtain rfl:=same ae;have ad:=ae.hu;rw[hu]at ad;cases ad;have ai:=ae.J;rw[M]at ai;cases ai;rw[m3 ae.ac];rfl
end
def aT(s:an)(i:Int):Λ:=match s.d7[i.toNat]? with
 |some x=>aB x
 |none=>[]
def qe(s:an)(sc:Λ)(pos:Int):Nat->Nat->Λ->List (Λ)
 |0,_,tl=>[tl]
 |m+1,p,tl=>if(p:Int)=pos then qe s sc pos m (p+1) tl else(aT s (sc.getD p 0)).flatMap λv=>qe s sc pos m (p+1) (tl.set p v)
section
variable{af ag:Nat}{A R:ak}{n:aI}{s:an}{t:az}
end
def jK(s:an)(pos:Nat)(v:Int):Λ->Nat->List (Λ)
 |[],_=>[]
 |u::sc,p=>(if p=pos then[v]else aT s u)::jK s pos v sc (p+1)
def bV(s:an)(sc:Λ)(pos:Nat)(v:Int):List (Λ):=ih (jK s pos v sc 0)
theorem y9{s:an}{sc:Λ}{pos:Nat}{v:Int}:∀(m p:Nat)(tl:Λ),sc.length=p+m->tl.length=sc.length->(p<=pos->tl[pos]?=σ v)->
  qe s sc pos m p tl=(ih (jK s pos v (sc.drop p) p)).map (tl.take p++ ·)
 |0,p,tl,h1,f,a=>by
  grind [qe,jK,ih]
 |m+1,p,tl,h1,f,a=>by
  have ae:p<sc.length:=Ω
  obtain⟨u,hu⟩:=aK (l:=sc) ae;have q:sc.drop p=u::sc.drop (p+1):=by grind [Y8]
  have r:sc.getD p 0=u:=by grind
  rw[q];unfold qe jK;rw[ih];by_cases j:p=pos
  .have w:=a Ω;rw[lw Ω,lw j,List.flatMap_singleton,y9 m (p+1) tl Ω f (λ_=>w),T7]
   grind [List.map_congr_left,u7]
  .rw[m1 Ω,m1 j,r,List.map_flatMap];congr 1;funext x;have e:(tl.set p x).take (p+1)=tl.take p++[x]:=by grind [u7,List.take_set_of_le]
   rw[y9 m (p+1) (tl.set p x) Ω (by grind) (λh=>by rw[W0 Ω];exact a Ω),T7,e]
   grind [List.map_congr_left]
theorem RW{s:an}{sc:Λ}(h:pos<sc.length):qe s sc pos sc.length 0 ((r9 sc.length 0).set pos v)=bV s sc pos v:=by
 rw[y9 sc.length 0 _ Ω Ξ (λ_=>by rw[Y2 (by grind)])];unfold bV;simp
def qf(s:an)(pos:Nat)(v:Int):Λ->Nat->List (Int->Bool)
 |[],_=>[]
 |u::sc,p=>(λx=>(decide (p=pos->x=v))&&decide (x∈aT s u))::qf s pos v sc (p+1)
theorem RX(h:0<=v/\v<k):(kb k).filter (λx=>decide (x=v))=[v]:=by
 have a:(kb k).Nodup:=by
  grind [kb,List.nodup_range]
 have hm:v∈kb k:=vK.2 h;generalize kb k=l at a hm;induction l<;>grind [List.filter_eq_nil_iff]
section
variable{k:Int}{d6:Λ}{s:an}{v:Int}{pos:Nat}
theorem RY{u:Int}(a:ba k d6 s)(h:0<=u/\u<d6.length):(kb (d6.getD u.toNat 0)).filter (λx=>decide (x∈aT s u))=aT s u:=by
 have f:=a.d7;obtain⟨x,J⟩:=aK (l:=s.d7) (i:=u.toNat) Ω;obtain⟨z,e⟩:=aK (l:=d6) (i:=u.toNat) Ω;have h1:=(a.var _ x z J e).1
 grind [aT,aB,kb,List.filter_congr]
theorem FX(a:ba k d6 s):∀(sc:Λ)(p:Nat),(∀u∈sc,0<=u/\u<d6.length)->(∀u,p<=pos->sc[pos-p]?=σ u->v∈aT s u)->
  jK s pos v sc p=(((ci d6 sc).map kb).zip (qf s pos v sc p)).map λq=>q.1.filter q.2
 |[],p,_,_=>rfl
 |u::sc,p,hu,ac=>by
  have e:=FX a sc (p+1) (by grind) (by grind);have f:=hu u (.head _);have h:=RY a f;show(if p=pos then[v]else aT s u)::jK s pos v sc (p+1)=(kb (d6.getD u.toNat 0)).filter (λx=>decide (p=pos->x=v)&&decide (x∈aT s u))::((((ci d6 sc).map kb).zip (qf s pos v sc (p+1))).map λq=>q.1.filter q.2);rw[<-e];congr 1;by_cases ae:p=pos
  .rw[lw ae];have j:v∈aT s u:=by grind
   grind [RX,vK]
  grind
theorem RZ:∀(sc:Λ)(p:Nat),(qf s pos v sc p).length=sc.length
 :=by
 intro a;induction a<;>grind [qf]
theorem za{sc:Λ}(a:ba k d6 s)(e:∀u∈sc,0<=u/\u<d6.length)(ac:∀u,sc[pos]?=σ u->v∈aT s u):
  bV s sc pos v=(bq (ci d6 sc)).filter (qc (qf s pos v sc 0)):=by
 grind [bV,FX,FO,RZ,ci,FP]
end
theorem zb{k:Int}:∀(l:Λ)(z:Int),z<=k->(∀c∈l,0<=c)->l.foldl (λa c=>min (a+c) k) z=min (z+l.sum) k
 |[],z,h,_=>Θ
 |c::l,z,h,e=>by
  have V:∀(l:Λ),(∀c∈l,0<=c)->0<=l.sum:=λl=>by
   induction l with
   |nil=>grind
   |cons a l f=>intro h;have:=f λc e=>h c (.tail _ e);have:=h a (.head _);grind
  have h1:=e c (.head _);have j:=V l λc h=>e c (.tail _ h);rw[List.foldl_cons,zb l _ Ω (by grind),List.sum_cons];omega
def eb(p:bA×Int):Int:=if p.1.gone≠0 then 0 else p.1.un.getD p.2.toNat 0
def fZ(a:Λ)(f:bI):Int:=if f.live≠0 then bt f.am f.cs (sY a f.sc)else 0
theorem foldl_map'{α β e:Type}(g:α->β)(h:e->β->e)(bg:e->α->e)(P:e->Prop)(aw:∀c a,P c->bg c a=h c (g a))(f:∀c a,P c->P (bg c a)):∀(l:List α)(c:e),P c->l.foldl bg c=(l.map g).foldl h c
 :=by
 intro a;induction a<;>grind
theorem zc{i:Nat}{x:Int}(h:l[i]?=σ x):(l.set i y).sum=l.sum-x+y:=by
 induction l generalizing i with
 |nil=>simp at h
 |cons a l e=>
  cases i<;>grind
def cG(k a c:Int):Int:=if a=k then k else a-c
def b4(k a c:Int):Int:=min (a+c) k
theorem vN{r g u:Int}(a:0<=r)(e:c<=g/\g<=k)(hu:0<=u/\u<=k)(f:0<=c):min (r+cG k g c+b4 k u c) k=min (r+g+u) k:=by
 grind [cG,b4]
theorem te:∀(l:Λ),(∀c∈l,0<=c)->0<=l.sum
 |[],_=>Ξ
 |a::l,h=>by have:=te l (by grind);have:=h a (.head _);grind
theorem tf:∀{l:Λ}{i:Nat}{x:Int},(∀c∈l,0<=c)->l[i]?=σ x->x<=l.sum
 |[],_,_,_,h=>by simp at h
 |a::l,0,x,e,h=>by
  simp at h;subst h;have:=te l (by grind)
  grind
 |a::l,i+1,x,e,h=>by
  have:=tf (by grind) (show l[i]?=σ x by grind);have:=e a (.head _)
  grind
theorem FY{i:Nat}(hk:0<=k)(h:∀c∈l,0<=c/\c<=k):0<=l.getD i 0/\l.getD i 0<=k:=by
 rw[p8];cases a:l[i]? with
 |none=>grind
 |some c=>exact h c (x6 a)
theorem FZ{f:Int->Int}{m:Int}(V:dN am)(a:cs.length=(bq am).length)(hi:ct am t 0=σ m):bt am (eo f L am cs) t=if t∈L then f (bt am cs t)else bt am cs t:=by
 grind [l4,rr,bt]
section
variable{k:Int}{d6 a:Λ}{s:an}
theorem R1{i:Nat}{p:bA×Int}(e:ba k d6 s)(h:(s.d7.zip a)[i]?=σ p):0<=eb p/\eb p<=k:=by
 have hk:=e.eA;obtain⟨h1,_⟩:=List.getElem?_zip_eq_some.1 h;have f:=(x5.1 h1).1;have j:=e.d7;have:=e.var i p.1 _ h1 (x8 Ω);unfold eb;split
 .omega
 .exact FY Ω this.2.1
theorem R3{f:bI}(e:ba k d6 s)(h:f∈s.d8):0<=fZ a f/\fZ a f<=k:=by
 have hk:=e.eA;have:=(e.d8 f h).1.jI;unfold fZ;split
 .exact (vq e.eA λc j=>⟨e.eA,this c j⟩).2
 .omega
theorem vO(e:ba k d6 s):∀c∈(s.d7.zip a).map eb,0<=c:=λc f=>by
 obtain⟨p,ae,rfl⟩:=o9.1 f;obtain⟨i,hi⟩:=Y4.1 ae;exact(R1 e hi).1
theorem tg(e:ba k d6 s):∀c∈s.d8.map (fZ a),0<=c:=λc f=>by
 obtain⟨p,ae,rfl⟩:=o9.1 f;exact(R3 e ae).1
theorem qg(e:ba k d6 s):fE k s a=if(s.d7.zip a).all j8 then min (s.zero+((s.d7.zip a).map eb).sum+(s.d8.map (fZ a)).sum) k else k:=by
 have h1:(s.d7.zip a).foldl (vy k) s.zero=((s.d7.zip a).map eb).foldl (λx c=>min (x+c) k) s.zero:=by
  refine foldl_map' eb (λx c=>min (x+c) k) (vy k) (λc=>c<=k) (λc p f=>?_) (λc p f=>?_) _ _ e.zero.2
  all_goals grind [vy,eb]
 have h:∀z,z<=k->s.d8.foldl (vz k a) z=(s.d8.map (fZ a)).foldl (λx c=>min (x+c) k) z:=λz j=>by
  refine foldl_map' (fZ a) (λx c=>min (x+c) k) (vz k a) (λc=>c<=k) (λc p f=>?_) (λc p f=>?_) _ _ j
  all_goals grind [vz,fZ]
 unfold fE;split
 .rw[h1,zb _ _ e.zero.2 (vO e),h _ Ω,zb _ _ Ω (tg e)];have:=te _ (tg (a:=a) e);omega
 .rfl
theorem vP{α β:Type}:∀{l:List α}{m:List β}{i:Nat}{x:α}{y:β},m[i]?=σ y->(l.set i x).zip m=(l.zip m).set i (x,y)
 |[],_,_,_,_,_=>Ξ
 |_::_,[],_,_,_,h=>by simp at h
 |a::l,b::m,0,x,y,h=>by simp at h;subst h;rfl
 |a::l,b::m,i+1,x,y,h=>by
  rw[List.set_cons_succ,List.zip_cons_cons,List.zip_cons_cons,List.set_cons_succ,vP (by simpa using h)]
theorem vQ{α:Type}{q:α->Bool}:∀{l:List α}{i:Nat}{x y:α},l[i]?=σ x->q y=q x->(l.set i y).all q=l.all q
 |[],_,_,_,h,_=>by simp at h
 |a::l,0,x,y,h,e=>by grind
 |a::l,i+1,x,y,h,e=>by rw[List.set_cons_succ,List.all_cons,List.all_cons,vQ (by grind) e]
def e7(s:an)(u:Nat)(x:bA)(un:Λ):an:={s with d7:=s.d7.set u {x with un:=un}}
def eH(s:an)(j:Nat)(f:bI)(cs:Λ):an:={s with d8:=s.d8.set j {f with cs:=cs}}
theorem zd{u:Nat}{x:bA}{un:Λ}(a:ba k d6 s)(J:s.d7[u]?=σ x)(e:un.length=x.un.length)(f:∀c∈un,0<=c/\c<=k):ba k d6 (e7 s u x un):=by
 have h:=(x5.1 J).1;have j:=a.d7;have h1:=a.var u x _ J (x8 Ω);exact a.vI J e f h1.2.2
theorem F0{f:bI}(a:ba k d6 s)(ah:s.d8[j]?=σ f)(e:cs.length=f.cs.length)(h:∀c∈cs,0<=c/\c<=k):ba k d6 (eH s j f cs):=a.FJ ah rfl rfl e h
theorem R6{u:Nat}{x:bA}{f:bI}{un:Λ}{bD:Int}(e:ba k d6 s)(J:s.d7[u]?=σ x)(ah:s.d8[j]?=σ f)(y:un.length=x.un.length)(z:∀c∈un,0<=c/\c<=k)(A:cs.length=f.cs.length)(B:∀c∈cs,0<=c/\c<=k)(q:a[u]?=σ bD)(h:(s.d7.zip a).all j8=ms->∀r,0<=r->min (r+fZ a {f with cs:=cs}+eb ({x with un:=un},bD)) k=min (r+fZ a f+eb (x,bD)) k):fE k (e7 (eH s j f cs) u x un) a=fE k s a:=by
 have C:=F0 e ah A B;have E:=zd C J y z;rw[qg E,qg e];have w:(s.d7.zip a)[u]?=σ (x,bD):=List.getElem?_zip_eq_some.2 ⟨J,q⟩;have F:((e7 (eH s j f cs) u x un).d7.zip a)=(s.d7.zip a).set u ({x with un:=un},bD):=vP q;have G:((s.d7.zip a).set u ({x with un:=un},bD)).all j8=(s.d7.zip a).all j8:=vQ w rfl;rw[F,G];split
 .rename_i H;have I:(((s.d7.zip a).set u ({x with un:=un},bD)).map eb).sum=((s.d7.zip a).map eb).sum-eb (x,bD)+eb ({x with un:=un},bD):=by
   grind [U4,zc]
  have K:((e7 (eH s j f cs) u x un).d8.map (fZ a)).sum=(s.d8.map (fZ a)).sum-fZ a f+fZ a {f with cs:=cs}:=by
   show((s.d8.set j {f with cs:=cs}).map (fZ a)).sum=_
   grind [U4,zc]
  have h1:=tf (vO e) (by rw[v8,w];rfl);have L:=tf (tg (a:=a) e) (by rw[v8,ah];rfl);have M:=e.zero.1;have N:=h H (s.zero+(((s.d7.zip a).map eb).sum-eb (x,bD))+((s.d8.map (fZ a)).sum-fZ a f)) Ω;rw[I,K];show min (s.zero+_+_) k=_;omega
 .rfl
end
theorem F3{s:an}:∀(sc:Λ)(p q:Nat),(jK s pos v sc p)[q]?=(sc[q]?).map λu=>if p+q=pos then[v]else aT s u
 :=by
 intro a;induction a<;>grind [jK]
theorem R7{s:an}:∀(sc:Λ)(p:Nat),(jK s pos v sc p).length=sc.length
 :=by
 intro a;induction a<;>grind [jK]
theorem oY{s:an}{sc:Λ}:t∈bV s sc pos v↔t.length=sc.length/\∀(p:Nat)u w,sc[p]?=σ u->t[p]?=σ w->if p=pos then w=v else w∈aT s u:=by
 unfold bV;rw[vJ,R7];refine and_congr_right λ_=>⟨λh p u w hu hw=>?_,λh p d w a hw=>?_⟩
 .have:w∈if 0+p=pos then[v]else aT s u:=by grind [F3]
  grind
 grind [F3]
theorem e1{x:bA}:v∈aB x↔(0<=v/\v<x.un.length)/\dropped x.mask v=ne:=by
 unfold aB;rw[T6];refine and_congr ?_ Ξ;have:=vK (k:=(x.un.length:Int)) (v:=v)
 grind [kb]
theorem F4{f:Int->Int}(V:dN am)(e:∀c∈cs,0<=c/\c<=k)(ah:∀t∈L,0<=f (bt am cs t)/\f (bt am cs t)<=k):∀c∈eo f L am cs,0<=c/\c<=k:=λc a=>by
 unfold eo at a;obtain⟨p,ae,rfl⟩:=o9.1 a;obtain⟨i,hi⟩:=Y4.1 ae;obtain⟨h1,h⟩:=List.getElem?_zip_eq_some.1 hi;split
 .grind [bt,kt]
 .exact e _ (x6 h)
section
variable{k:Int}{d6 a:Λ}{s:an}
def fy(s:an)(j:Nat)(f:bI)(pos u:Nat)(x:bA)(v:Int)(tup un:Int->Int):an:=
 e7 (eH s j f (eo tup (bV s f.sc pos v) f.am f.cs)) u x (x.un.set v.toNat (un (x.un.getD v.toNat 0)))
theorem kD{f:bI}(e:ba k d6 s)(ah:f∈s.d8):dN f.am/\f.cs.length=(bq f.am).length:=by
 obtain⟨a,h,_⟩:=e.d8 f ah;have j:dN f.am:=by rw[h];exact oN e.fg.2.2 λv ac=>⟨(a.scope.1 v ac).1,a.d7 v ac⟩
 refine⟨j,?_⟩;have h1:=a.len
 grind [jg]
theorem F5{u:Nat}{f:bI}{x:bA}{tup un:Int->Int}(a:ba k d6 s)(ah:s.d8[j]?=σ f)(J:s.d7[u]?=σ x)(h:∀t∈bV s f.sc pos v,0<=tup (bt f.am f.cs t)/\tup (bt f.am f.cs t)<=k)(e:0<=un (x.un.getD v.toNat 0)/\un (x.un.getD v.toNat 0)<=k):ba k d6 (fy s j f pos u x v tup un):=by
 obtain⟨q,r⟩:=kD a (x6 ah);have w:=(a.d8 f (x6 ah)).1;have y:=(x5.1 J).1;have z:=a.d7;have h1:=a.var u x _ J (x8 Ω);exact zd (by grind [F0,rq,F4,gH.jI]) J (by grind) (vL h1.2.1 e)
theorem F6{u:Nat}{f:bI}{x:bA}{tup un:Int->Int}(A:ba k d6 s)(F:ka s a)(ah:s.d8[j]?=σ f)(X:f.live≠0)(hu:f.sc[pos]?=σ (u:Int))(J:s.d7[u]?=σ x)(ac:v∈aB x)(G:∀w∈f.sc,∀y,s.d7[w.toNat]?=σ y->y.gone=0)(L:∀t∈bV s f.sc pos v,0<=tup (bt f.am f.cs t)/\tup (bt f.am f.cs t)<=k)(M:0<=un (x.un.getD v.toNat 0)/\un (x.un.getD v.toNat 0)<=k)(Y:∀t∈bV s f.sc pos v,∀r,0<=r->min (r+tup (bt f.am f.cs t)+un (x.un.getD v.toNat 0)) k=min (r+bt f.am f.cs t+x.un.getD v.toNat 0) k):
  fE k (fy s j f pos u x v tup un) a=fE k s a:=by
 obtain⟨N,Z⟩:=kD A (x6 ah);obtain⟨B,aa,_⟩:=A.d8 f (x6 ah);have ab:=(x5.1 J).1;have ad:=A.d7;have h1:=A.var u x _ J (x8 Ω);have ae:=F.1;obtain⟨bD,O⟩:=aK (l:=a) (i:=u) Ω;refine R6 A J ah (by grind) (vL h1.2.1 M) (by grind [rq]) (F4 N B.jI L) O λP r af=>?_;have ag:=G u (x6 hu) x (by grind);obtain⟨tl,ai⟩:∃tl,tl=sY a f.sc:=⟨_,rfl⟩;have Q:∀(q:Nat)w,f.sc[q]?=σ w->∃y,s.d7[w.toNat]?=σ y/\tl[q]?=σ (a.getD w.toNat 0)/\a.getD w.toNat 0∈aB y/\f.am[q]?=σ (y.un.length:Int):=λq w hw=>by
  have hm:=x6 hw;have aj:=(B.scope.1 w hm).1;have ak:=B.d7 w hm;obtain⟨y,h⟩:=aK (l:=s.d7) (i:=w.toNat) Ω;obtain⟨z,H⟩:=aK (l:=d6) (i:=w.toNat) Ω;obtain⟨C,I⟩:=aK (l:=a) (i:=w.toNat) Ω;have al:=G w hm y h;have an:=(A.var _ y z h H).1;have ao:=A.fg.2.2 z (x6 H);have e:a.getD w.toNat 0=C:=by grind
  have ap:=List.all_eq_true.1 P (y,C) (x6 (List.getElem?_zip_eq_some.2 ⟨h,I⟩));have aq:=(F.2 _ y C h I).resolve_left Ω
  grind [sY,e1,j8,ci]
 have au:tl.length=f.sc.length:=by grind [sY]
 have av:f.am.length=f.sc.length:=by grind [ci]
 obtain⟨m,hm⟩:∃m,ct f.am tl 0=σ m:=by
  have:tl∈bq f.am:=by
   rw[FP,vJ];refine⟨by grind,λq d w aw hw=>?_⟩;obtain⟨b,ax⟩:=aK (l:=f.sc) (i:=q) (by grind)
   grind [vK,e1]
  grind [Y4,kt]
 have R:fZ a f=bt f.am f.cs tl:=by grind [fZ]
 have S:fZ a {f with cs:=eo tup (bV s f.sc pos v) f.am f.cs}=if tl∈bV s f.sc pos v then tup (bt f.am f.cs tl)else bt f.am f.cs tl:=by
  grind [FZ,fZ]
 have T:eb (x,bD)=x.un.getD bD.toNat 0:=by grind [eb]
 have U:eb ({x with un:=x.un.set v.toNat (un (x.un.getD v.toNat 0))},bD)=(x.un.set v.toNat (un (x.un.getD v.toNat 0))).getD bD.toNat 0:=by grind [eb]
 obtain⟨y,h,K,E,_⟩:=Q pos _ hu;rw[u5]at h K E;rw[J]at h;cases h;have V:a.getD u 0=bD:=by grind
 rw[V]at K E;have ay:=(e1.1 ac).1;have az:=(e1.1 E).1;rw[R,S,T,U];by_cases he:bD=v
 .subst he
  grind [oY,aT]
 .have W:tl∉bV s f.sc pos v:=by grind [oY]
  rw[m1 W,p8,W0 Ω,<-p8]
end
def eD(g:Int->Int)(un L:Λ):Λ:=L.foldl (λun v=>un.set v.toNat (g (un.getD v.toNat 0))) un
theorem vR{g:Int->Int}:∀(L un:Λ),(eD g un L).length=un.length
 :=by
 intro a;induction a<;>grind [eD,Z5]
theorem vS{g:Int->Int}:∀(L un:Λ)(w:Int),L.Nodup->(∀v∈L,0<=v/\v<un.length)->0<=w->(eD g un L).getD w.toNat 0=if w∈L then g (un.getD w.toNat 0)else un.getD w.toNat 0
 |[],un,w,_,_,_=>by simp[eD]
 |v::L,un,w,a,e,hw=>by
  obtain⟨h1,f⟩:=List.nodup_cons.1 a;have ac:=e v (.head _);have h:=vS (g:=g) L (un.set v.toNat (g (un.getD v.toNat 0))) w f (by grind) hw
  grind [eD]
theorem qh(x:bA):(aB x).Nodup:=by
 grind [aB,List.nodup_range]
theorem F7{k:Int}{g:Int->Int}:∀(L un:Λ),(∀c∈un,0<=c/\c<=k)->L.Nodup->(∀v∈L,0<=v/\v<un.length)->(∀v∈L,0<=g (un.getD v.toNat 0)/\g (un.getD v.toNat 0)<=k)->∀c∈eD g un L,0<=c/\c<=k
 |[],un,h,_,_,_,c,a=>h c a
 |v::L,un,h,f,e,q,c,a=>by
  obtain⟨h1,j⟩:=List.nodup_cons.1 f;have ac:=e v (.head _);refine F7 (g:=g) L (un.set v.toNat (g (un.getD v.toNat 0))) (by grind) j (by grind) (λu hu=>?_) c a;have r:u≠v:=by grind
  have s:=e u (.tail _ hu);rw[p8,W0 Ω,<-p8]
  grind
section
variable{k:Int}{d6 a:Λ}{s:an}
def iX(s:an)(u:Nat)(x:bA)(g z:Int->Int):an:={e7 s u x (eD g x.un (aB x))with zero:=z s.zero}
theorem ba.R8(a:ba k d6 s)(h:0<=c/\c<=k):ba k d6 {s with zero:=c}:=⟨a.eA,a.fg,h,a.d7,a.var,a.d8⟩
theorem ze{u:Nat}{x:bA}{g z:Int->Int}(a:ba k d6 s)(J:s.d7[u]?=σ x)(e:∀v∈aB x,0<=g (x.un.getD v.toNat 0)/\g (x.un.getD v.toNat 0)<=k)(f:0<=z s.zero/\z s.zero<=k):ba k d6 (iX s u x g z):=by
 have h:=(x5.1 J).1;have j:=a.d7;have h1:=a.var u x _ J (x8 Ω);exact(zd a J (vR _ _) (F7 _ _ h1.2.1 (qh x) (λv ac=>(e1.1 ac).1) e)).R8 f
theorem F8{u:Nat}{x:bA}{g z:Int->Int}(e:ba k d6 s)(j:ka s a)(J:s.d7[u]?=σ x)(L:x.gone=0)(q:∀v∈aB x,0<=g (x.un.getD v.toNat 0)/\g (x.un.getD v.toNat 0)<=k)(w:0<=z s.zero/\z s.zero<=k)(y:∀v∈aB x,∀r,0<=r->min (r+g (x.un.getD v.toNat 0)+z s.zero) k=min (r+x.un.getD v.toNat 0+s.zero) k):fE k (iX s u x g z) a=fE k s a:=by
 have A:=ze e J q w;have M:=(x5.1 J).1;have N:=e.d7;have O:=j.1;obtain⟨bD,f⟩:=aK (l:=a) (i:=u) Ω;rw[qg A,qg e];have h:(s.d7.zip a)[u]?=σ (x,bD):=List.getElem?_zip_eq_some.2 ⟨J,f⟩;obtain⟨un,B⟩:∃un,un=eD g x.un (aB x):=⟨_,rfl⟩;have C:((iX s u x g z).d7.zip a)=(s.d7.zip a).set u ({x with un:=un},bD):=by rw[B];exact vP f
 have E:((s.d7.zip a).set u ({x with un:=un},bD)).all j8=(s.d7.zip a).all j8:=vQ h rfl;rw[C,E];split
 .rename_i F;have G:(((s.d7.zip a).set u ({x with un:=un},bD)).map eb).sum=((s.d7.zip a).map eb).sum-eb (x,bD)+eb ({x with un:=un},bD):=by
   grind [U4,zc]
  have h1:=tf (vO e) (by rw[v8,h];rfl);have P:=te _ (tg (a:=a) e);have Q:=List.all_eq_true.1 F (x,bD) (x6 h);have R:=(j.2 _ x bD J f).resolve_left Ω;have H:bD∈aB x:=by
   grind [e1,j8]
  have I:eb (x,bD)=x.un.getD bD.toNat 0:=by grind [eb]
  have K:eb ({x with un:=un},bD)=g (x.un.getD bD.toNat 0):=by
   grind [eb,vS,qh,e1]
  rw[G,K];rw[I]at h1 ⊢;have S:=y bD H (((s.d7.zip a).map eb).sum-x.un.getD bD.toNat 0+(s.d8.map (fZ a)).sum) Ω;show min (z s.zero+_+(s.d8.map (fZ a)).sum) k=_;omega
 .rfl
theorem zf{m:Nat}{w:Int}(ac:0<=v)(hw:0<=w):dropped ((m ||| 2 ^ v.toNat:Nat):Int) w=(dropped (m:Int) w||decide (w=v)):=by
 unfold dropped;rw[u5,u5,Nat.testBit_or,Nat.testBit_two_pow]
 grind
theorem kZ{i:Nat}{x:bA}(J:s.d7[i]?=σ x):dZ s i v.toNat={s with d7:=s.d7.set i {x with mask:=((x.mask.toNat ||| 2 ^ v.toNat:Nat):Int)}}:=by
 grind [dZ]
theorem zg{i:Nat}{x:bA}(a:ba k d6 s)(J:s.d7[i]?=σ x)(ac:0<=v/\v<x.un.length):ba k d6 (dZ s i v.toNat):=by
 rw[kZ J];have h:=(x5.1 J).1;have j:=a.d7;have h1:=a.var i x _ J (x8 Ω);have q:=a.fg.2.2 _ (T9 (n:=i) Ω);refine a.vI J rfl h1.2.1 ⟨by grind,?_⟩;have e:x.mask.toNat<2 ^ 32:=Ω
 have f:2 ^ v.toNat<2 ^ 32:=Nat.pow_lt_pow_right Ω Ω;have:=Nat.or_lt_two_pow e f
 grind
theorem F9{i:Nat}{bD:Int}{x:bA}(f:ba k d6 s)(w:ka s a)(J:s.d7[i]?=σ x)(z:x.gone=0)(ac:0<=v/\v<x.un.length)(h:a[i]?=σ bD):fE k (dZ s i v.toNat) a=if bD=v then k else fE k s a:=by
 have A:=zg f J ac;rw[qg A,qg f];have F:(s.d7.zip a)[i]?=σ (x,bD):=List.getElem?_zip_eq_some.2 ⟨J,h⟩;have B:=(w.2 _ x bD J h).resolve_left Ω;obtain⟨y,j⟩:∃y:bA,y={x with mask:=((x.mask.toNat ||| 2 ^ v.toNat:Nat):Int)}:=⟨_,rfl⟩;have C:((dZ s i v.toNat).d7.zip a)=(s.d7.zip a).set i (y,bD):=by grind [kZ,vP]
 have r:(dZ s i v.toNat).zero=s.zero/\(dZ s i v.toNat).d8=s.d8:=by grind [kZ]
 have G:j8 (y,bD)=(j8 (x,bD)&&decide (bD≠v)):=by
  unfold j8;rw[j];simp only[z];rw[zf ac.1 B.1];have hm:((x.mask.toNat:Nat):Int)=x.mask:=by
   have H:=(x5.1 J).1;have I:=f.d7;have h1:=f.var i x _ J (x8 Ω);omega
  grind
 rw[C,r.1,r.2];by_cases e:bD=v
 .grind [Y2]
 .have K:((s.d7.zip a).set i (y,bD)).all j8=(s.d7.zip a).all j8:=by grind [vQ]
  have L:((s.d7.zip a).set i (y,bD)).map eb=(s.d7.zip a).map eb:=by
   rw[U4];have E:eb (y,bD)=eb (x,bD):=by rw[j];rfl
   rw[E];refine Y5 λq=>?_
   grind
  grind
theorem R9{i:Nat}{bD:Int}{x:bA}(f:ka s a)(J:s.d7[i]?=σ x)(j:x.gone=0)(e:a[i]?=σ bD)(q:bD∉aB x):fE k s a=k:=by
 have r:=(f.2 _ x bD J e).resolve_left Ω;unfold fE;rw[m1];intro h;have:=List.all_eq_true.1 h (x,bD) (x6 (List.getElem?_zip_eq_some.2 ⟨J,e⟩))
 grind [j8,e1]
end
end Go.Proofs.YtlcdcbgoaljiiaaGreatDoor
namespace Go.Vc
open Go Go.RowKit
section
variable{P:W5}{w:x4}{α:Type}[ay α]{S R:ak}
theorem Ga{k:Nat}{vs:List (List x1)}{i:Nat}{c:List x1}(h:∀x∈vs,x.length=k)(e:c.length=k)(hi:i<vs.length):over vs.flatten (i*k) c=(vs.set i c).flatten:=by
 have:=x0 (f:=id) (k:=k) (L:=vs) (i:=i) (a:=c) h e hi;rw[List.flatMap_id,List.flatMap_id]at this;exact this
theorem Sa{v:x1}{l:List α}{i:Nat}(h:bS S R w [v] l)(Q:i<l.length):∃g cap full s,v= .slice (σ ⟨g,0,ν⟩) l.length cap/\ai w g s full/\S g/\i*ay.n α+ay.n α<=full.length/\
  ∀{A:ak}{cs:List x1}{a:α},bS A R w cs a->(∀r,r<w.heap.size->S r->¬A r/\¬R r)->∀I,aj (λr=>r=g) w I->ai I g s (over full (i*ay.n α) cs)->bS (λr=>S r\/A r) R I [v] (l.set i a):=by
 obtain⟨vs,g,F,ae,he,V,hm⟩:=kP h;obtain⟨T,s,U⟩:=hm rfl;obtain⟨af,⟨rfl,ag⟩|⟨cap,full,rfl,E,H,W,ah,X⟩⟩:=id U
 .omega
 have J:=he.1;have Y:(i+1)*ay.n α<=l.length*ay.n α:=X6 _ Q;have Z:l.length*ay.n α<=full.length:=by rw[ah];exact X6 _ H
 rw[T4,Nat.one_mul]at Y;have y:=T.resolve_left Ξ;refine⟨g,cap,full,s,rfl,E,y,Ω,λ{A cs a}K z I L ab=>?_⟩;have M:=ay.len K;have N:=(z g E.lt y).1;have O:=(z g E.lt y).2;have ac:∀c∈vs.set i cs,c.length=ay.n α:=λc x=>by
  rcases U7 x with e|rfl
  .exact he.len c e
  .exact M
 have P:b7 I g s (ay.n α) (.slice (σ ⟨g,0,ν⟩) l.length cap) (l.set i a).length (vs.set i cs).flatten:=by
  refine⟨by rw[ll ac,Z5,Z5,J],.inr ⟨cap,_,by rw[Z5],ab,by rw[Z5];exact H,W,by rw[nN,ah],?_⟩⟩;rw[Z5,x2 Ω Z,X,Ga he.len M Ω]
 refine⟨_,rfl,vs.set i cs,g,λj r=>if j=i then A r/\r<w.heap.size else F j r/\r<w.heap.size,⟨λj r f=>?_,λ_ j f=>?_,λ_ j q r ad h1 e=>?_⟩,⟨by simp[J],λj c a' x B=>?_⟩,?_,λ_=>⟨.inr (.inl y),s,P⟩⟩
 .split at f
  .exact .inr f.1
  .exact .inl (ae.sub j r f.1)
 .split at f
  .exact N f.1
  .exact ae.top rfl j f.1
 .split at h1<;>split at e
  .omega
  .exact (z r e.2 (ae.sub q r e.1)).1 h1.1
  .exact (z r h1.2 (ae.sub j r h1.1)).1 e.1
  .exact ae.iw rfl j q r ad h1.1 e.1
 .by_cases C:j=i
  .subst C;rw[Y2 Ω]at x B;cases x;cases B;have G:bS (λr=>if j=j then A r/\r<w.heap.size else F j r/\r<w.heap.size) R w cs a:=ay.Y K (λr f h=>by rw[lw rfl];exact⟨h,f⟩) λ_ _ h=>h;refine ay.aa G L λr f h1 e=>?_;have e:r=g:=e;subst e;rcases h1 with h1|h1
   .simp only[if_true]at h1;exact N h1.1
   .exact O h1
  .rw[W0 (Ne.symm C)]at x B;have G:bS (λr=>if j=i then A r/\r<w.heap.size else F j r/\r<w.heap.size) R w c a':=ay.Y (he.2 j c a' x B) (λr f h=>by rw[m1 C];exact⟨h,f⟩) λ_ _ h=>h;refine ay.aa G L λr f h1 e=>?_;have e:r=g:=e;subst e;rcases h1 with h1|h1
   .simp only[m1 C]at h1;exact ae.top rfl j h1.1
   .exact O h1
 .have:=qS (S:=λr=>(S r\/A r)\/R r) P (.inr (.inl (.inl y)));exact this
theorem Gb{t:r8}{C:o5}{i b:Nat}{v x:x1}{l:List α}{a:α}{A:ak}{K:Unit->x4->Prop}(j:ay.n α=1)(E:y=(i:Int))(F:P.underlying t=σ (.slice e))(hi:aS P e 1 b z)(h:bS S R w [v] l)(q:i<l.length)(J:x.cells= #[x])(s:bS A R w [x] a)(G:∀r,r<w.heap.size->S r->¬A r/\¬R r)(H:∀I,aj S w I->bS (λr=>S r\/A r) R I [v] (l.set i a)->K () I):ad P (n9 t v (.int C y)) w λp=>aM P (o7 e p x) w K:=by
 subst E;obtain⟨g,cap,full,T,rfl,L,M,N,O⟩:=Sa h q;rw[j]at N;rw[fq F hi q λ_=>rfl];refine bs (o:=0+i*1) hi J (ay.one s x (.head _)) L Ω λI B _ Q=>H I (B.Y λr _ f=>by have f:r=g:=f;subst f;exact M) (O s G I B ?_);rw[j,V7]at*;exact Q
end
end Go.Vc
namespace Go.Proofs.YtlcdcbgoaljiiaaGreatDoor
open Go Go.Vc Go.RowKit Go.Proofs Go.Proofs.Tryz
set_option maxRecDepth 100000
abbrev k0:Type:=(Rd (Λ)×Rd (Λ)×Λ)×Bool
abbrev qi:Type:=Int×Rd (Λ)×Rd (Λ)
def kE(f:bI):k0:=((f.sc,f.am,f.cs),decide (f.live≠0))
def Gc(e:vx):qi:=(e.v,e.sc,e.oO)
def ck(m:Bool)(A:Nat->ak)(R:ak)(w:x4)(cs:List x1)(k:Int)(d6:Λ)(zero:Int)(D:List (Λ))(G:List Bool)(bc:List (Λ))(H:List k0)(E:List qi):Prop:=
 ∃ho a e f h q,cs=[Δ k,ho,Δ zero,a,e,f,h,q]/\Seen R w [ho] d6/\
 ay.rep m (A 0) R w [a] D/\ay.rep m (A 1) R w [e] G/\ay.rep m (A 2) R w [f] bc/\ay.rep m (A 3) R w [h] H/\ay.rep m (A 4) R w [q] E/\
 (m=ms->(∀i j r,i≠j->A i r->¬A j r)/\∀i r,A i r->¬R r)
abbrev kc(m:Bool)(A:Nat->ak)(R:ak)(w:x4)(cs:List x1)(k:Int)(d6:Λ)(s:an):Prop:=
 ck m A R w cs k d6 s.zero (s.d7.map aB) (s.d7.map λx=>decide (x.gone≠0)) (s.d7.map (·.un)) (s.d8.map kE) (s.di.map Gc)
def iI(w:x4)(v:x1)(k:Int)(d6:Λ)(s:an):Prop:=∃cs,v= .agg cs.toArray/\kc ne (λ_ _=>False) e3 w cs k d6 s
def kd(A:Nat->ak)(i:Nat)(B:ak):Nat->ak:=λj=>if j=i then B else A j
section
variable{m:Bool}{A:Nat->ak}{R:ak}{w I:x4}{cs:List x1}{k zero:Int}{d6:Λ}{D:List (Λ)}{G:List Bool}{bc:List (Λ)}{H:List k0}{E:List qi}{s:an}
theorem ck.len(h:ck m A R w cs k d6 zero D G bc H E):cs.length=8/\∀u∈cs,u.oneCell'=ms:=by
 obtain⟨ho,a,e,f,j,q,rfl,h1,r,s,x,y,z,_⟩:=h;refine⟨rfl,λu hu=>?_⟩;simp only[List.mem_cons,List.not_mem_nil,or_false]at hu;rcases hu with rfl|rfl|rfl|rfl|rfl|rfl|rfl|rfl
 .rfl
 .exact jS h1
 .rfl
 all_goals grind [jS]
theorem ck.aa{T:ak}(h:ck m A R w cs k d6 zero D G bc H E)(a:aj T w I)(J:∀r,r<w.heap.size->(∃i,A i r)\/R r->¬T r):ck m A R I cs k d6 zero D G bc H E:=by
 obtain⟨ho,e,f,j,q,s,rfl,h1,x,y,z,B,C,F⟩:=h;have aw:∀i r,r<w.heap.size->A i r\/R r->¬T r:=by grind
 exact⟨ho,e,f,j,q,s,rfl,by grind [ay.aa],ay.aa x a (aw 0),ay.aa y a (aw 1),ay.aa z a (aw 2),ay.aa B a (aw 3),ay.aa C a (aw 4),F⟩
theorem ck.W(h:ck m A R w cs k d6 zero D G bc H E)(J:Ext w I):ck m A R I cs k d6 zero D G bc H E:=h.aa (J.aa λ_=>False) λ_ _ _ h=>h
theorem kc.zh(h:kc m A R w cs k d6 s):iI w (.agg cs.toArray) k d6 s:=by
 obtain⟨ho,a,e,f,j,q,rfl,h1,r,x,y,z,B,C⟩:=h;exact⟨_,rfl,ho,a,e,f,j,q,rfl,kO h1,kO r,kO x,kO y,kO z,kO B,by grind⟩
theorem ck.old(h:ck ms A R w cs k d6 zero D G bc H E):ck ms (λi r=>A i r/\r<w.heap.size) R w cs k d6 zero D G bc H E:=by
 obtain⟨ho,e,f,j,q,s,rfl,h1,x,y,z,B,C,a⟩:=h;obtain⟨a,F⟩:=a rfl;have hm:∀i r,r<w.heap.size->A i r->A i r/\r<w.heap.size:=by grind
 exact⟨ho,e,f,j,q,s,rfl,h1,ay.Y x (hm 0) λ_ _ h=>h,ay.Y y (hm 1) λ_ _ h=>h,ay.Y z (hm 2) λ_ _ h=>h,ay.Y B (hm 3) λ_ _ h=>h,ay.Y C (hm 4) λ_ _ h=>h,
  by grind⟩
theorem vT{i:Nat}{B:ak}(h:∀i j r,i≠j->A i r->¬A j r)(e:∀j r,j≠i->B r->¬A j r):∀p q r,p≠q->kd A i B p r->¬kd A i B q r:=λp q r f h1 a=>by
 unfold kd at h1 a
 grind
theorem vU{i:Nat}{B:ak}(h:∀i r,A i r->¬R r)(a:∀r,B r->¬R r):∀p r,kd A i B p r->¬R r:=λp r h1=>by
 unfold kd at h1
 grind
theorem ck.Gd{B:ak}{x:x1}{D':List (Λ)}(h:ck ms A R w cs k d6 zero D G bc H E){T:ak}(a:aj T w I)(O:∀r,T r->A 0 r\/(∀j,¬A j r)/\¬R r)(f:bS B R I [x] D')(q:∀j r,j≠0->B r->¬A j r)(s:∀r,B r->¬R r):ck ms (kd A 0 B) R I (cs.set 3 x) k d6 zero D' G bc H E:=by
 obtain⟨ho,P,y,z,C,F,rfl,h1,Q,J,K,L,M,e⟩:=h;obtain⟨e,N⟩:=e rfl;have S:∀r,R r->¬T r:=by grind
 have aw:∀j r,j≠0->r<w.heap.size->A j r\/R r->¬T r:=by grind
 refine⟨ho,x,y,z,C,F,rfl,by grind [ay.aa],?_,?_,?_,?_,?_,λ_=>⟨vT e q,vU N s⟩⟩
 .exact f
 .exact ay.aa J a λr=>aw 1 r Ω
 .exact ay.aa K a λr=>aw 2 r Ω
 .exact ay.aa L a λr=>aw 3 r Ω
 .exact ay.aa M a λr=>aw 4 r Ω
theorem ck.Sb{B:ak}{x:x1}{f:List Bool}(h:ck ms A R w cs k d6 zero D G bc H E){T:ak}(a:aj T w I)(P:∀r,T r->A 1 r\/(∀j,¬A j r)/\¬R r)(q:bS B R I [x] f)(s:∀j r,j≠1->B r->¬A j r)(y:∀r,B r->¬R r):ck ms (kd A 1 B) R I (cs.set 4 x) k d6 zero D f bc H E:=by
 obtain⟨ho,z,Q,C,F,J,rfl,h1,K,S,L,M,N,e⟩:=h;obtain⟨e,O⟩:=e rfl;have U:∀r,R r->¬T r:=by grind
 have aw:∀j r,j≠1->r<w.heap.size->A j r\/R r->¬T r:=by grind
 refine⟨ho,z,x,C,F,J,rfl,by grind [ay.aa],?_,?_,?_,?_,?_,λ_=>⟨vT e s,vU O y⟩⟩
 .exact ay.aa K a λr=>aw 0 r Ω
 .exact q
 .exact ay.aa L a λr=>aw 2 r Ω
 .exact ay.aa M a λr=>aw 3 r Ω
 .exact ay.aa N a λr=>aw 4 r Ω
theorem ck.mi{B:ak}{x:x1}{f:List (Λ)}(h:ck ms A R w cs k d6 zero D G bc H E){T:ak}(a:aj T w I)(P:∀r,T r->A 2 r\/(∀j,¬A j r)/\¬R r)(q:bS B R I [x] f)(s:∀j r,j≠2->B r->¬A j r)(y:∀r,B r->¬R r):ck ms (kd A 2 B) R I (cs.set 5 x) k d6 zero D G f H E:=by
 obtain⟨ho,z,C,Q,F,J,rfl,h1,K,L,S,M,N,e⟩:=h;obtain⟨e,O⟩:=e rfl;have U:∀r,R r->¬T r:=by grind
 have aw:∀j r,j≠2->r<w.heap.size->A j r\/R r->¬T r:=by grind
 refine⟨ho,z,C,x,F,J,rfl,by grind [ay.aa],?_,?_,?_,?_,?_,λ_=>⟨vT e s,vU O y⟩⟩
 .exact ay.aa K a λr=>aw 0 r Ω
 .exact ay.aa L a λr=>aw 1 r Ω
 .exact q
 .exact ay.aa M a λr=>aw 3 r Ω
 .exact ay.aa N a λr=>aw 4 r Ω
theorem ck.mj{B:ak}{x:x1}{f:List k0}(h:ck ms A R w cs k d6 zero D G bc H E){T:ak}(a:aj T w I)(P:∀r,T r->A 3 r\/(∀j,¬A j r)/\¬R r)(q:bS B R I [x] f)(s:∀j r,j≠3->B r->¬A j r)(y:∀r,B r->¬R r):ck ms (kd A 3 B) R I (cs.set 6 x) k d6 zero D G bc f E:=by
 obtain⟨ho,z,C,F,Q,J,rfl,h1,K,L,M,S,N,e⟩:=h;obtain⟨e,O⟩:=e rfl;have U:∀r,R r->¬T r:=by grind
 have aw:∀j r,j≠3->r<w.heap.size->A j r\/R r->¬T r:=by grind
 refine⟨ho,z,C,F,x,J,rfl,by grind [ay.aa],?_,?_,?_,?_,?_,λ_=>⟨vT e s,vU O y⟩⟩
 .exact ay.aa K a λr=>aw 0 r Ω
 .exact ay.aa L a λr=>aw 1 r Ω
 .exact ay.aa M a λr=>aw 2 r Ω
 .exact q
 .exact ay.aa N a λr=>aw 4 r Ω
theorem ck.Sc{z:Int}(h:ck m A R w cs k d6 zero D G bc H E):ck m A R w (cs.set 2 (Δ z)) k d6 z D G bc H E:=by
 obtain⟨ho,a,e,f,j,q,rfl,h1,r,s,x,y,B,C⟩:=h;exact⟨ho,a,e,f,j,q,rfl,h1,r,s,x,y,B,C⟩
end
theorem vV{α:Type}[ay α]{st t L:r8}{pl:List (Nat×Nat)}{c q b M:Nat}{N y v:x1}{box cs:List x1}{S A R:ak}{l:List α}{a:α}{K:x4->Prop}(ae:bJ x7 st pl)(O:pl[c]?=σ (c,q+1))(P:x7.underlying t=σ (.slice e))(Q:aS x7 t 1 M N)(hi:aS x7 e (ay.n α) b z)(T:z.cells.size=ay.n α)(E:ai w gs st box)(ac:box[c]?=σ v)(h:bS S R w [v] l)(V:cn w (ay.n α) y 1 cs)(U:bS A R w cs a)(W:∀r,r<w.heap.size->S r->¬A r/\¬R r)(s:¬S gs/\¬A gs/\¬R gs)(ag:(l.length+1)*b<=140737488355328)(ah:l.length+1<=1000000)(X:∀j I,aj (λr=>S r\/r=gs) w I->ai I gs st (box.set c j)->bS (λr=>S r\/A r\/w.heap.size<=r) R I [j] (l++[a])->K I):
  aM x7 (c9 #[t,t] L #[v,y]) w λj ab=>ad x7 (u6 st (Γ gs) c) ab λY=>aM x7 (o7 t Y j) ab λ_ x=>K x:=by
 have Z:=(x5.1 ac).1;refine pI P hi T h V U (λr F V f=>?_) Ω Ω λj ab B G=>?_
 .have:=W r F V;exact f.elim this.1 this.2
 have af:=E.aa G s.1;rw[aY ae O];refine bs (o:=0+c) Q (r4 B) (jS B) af (by rw[V7];exact Z) λx H al J=>?_;refine X j x ((G.Y λr _ h=>.inl h).F (H.Y λr _ h=>.inr h)) (by rw[V7]at J;exact J) (ay.aa B H λr F f C=>?_);have C:r=gs:=C;subst C;have am:=E.lt;rcases f with f|f
 .rcases f with f|f|f
  .exact s.1 f
  .exact s.2.1 f
  .omega
 .exact s.2.2 f
section
variable{A:Nat->ak}{B R:ak}{w:x4}{cs xs:List x1}{gs:Nat}{y v:x1}{k zero:Int}{d6:Λ}{D:List (Λ)}{G:List Bool}{bc:List (Λ)}{H:List k0}{E:List qi}{K:x4->Prop}
theorem ck.Sd{a:Λ}(h:ck ms A R w cs k d6 zero D G bc H E)(F:ai w gs a8 cs)(ac:cs[3]?=σ v)(f:∀j r,A j r->gs<r)(s:∀r,R r->r<gs)(V:cn w 1 y 1 xs)(Q:bS B R w xs a)(q:∀r,r<w.heap.size->B r->(∀j,¬A j r)/\gs<r)(ah:D.length<=1000)(S:∀aP cj I,aj (λr=>gs<=r) w I->ai I gs a8 cj->ck ms aP R I cj k d6 zero (D++[a]) G bc H E->(∀j r,aP j r->gs<r)->(∀j,j≠3->cj[j]?=cs[j]?)->K I):
  aM x7 (c9 #[df,df] P #[v,y]) w λJ ab=>ad x7 (u6 a8 (Γ gs) 3) ab λU=>aM x7 (o7 df U J) ab λ_ x=>K x:=by
 have aE:=h.old;have W:=F.lt;obtain⟨ho,X,ak,al,am,L,Y,h1,Z,an,ao,ap,aq,z⟩:=id aE;obtain⟨z,M⟩:=z rfl;have L:v=X:=by rw[Y]at ac;exact(Z4 ac).symm
 subst L;have aa:bS (λr=>B r/\r<w.heap.size) R w xs a:=ay.Y Q (λr e h=>⟨h,e⟩) λ_ _ h=>h;refine vV a8.p rfl df.u df.i av.i rfl F ac Z V aa (λr e N=>⟨λae=>(q r e ae.1).1 0 N.1,M 0 r N⟩) ⟨λh=>by have:=f 0 gs h.1;omega,λh=>by have:=(q gs W h.1).2;omega,λh=>by have:=s gs h;omega⟩ Ω Ω λJ x O af ag=>?_;refine S _ _ x (O.Y λr _ h=>h.elim (λh=>by have:=f 0 r h.1;omega) λh=>Ω) af (aE.Gd O (λr e=>?_) ag (λj r C e=>?_) λr e=>?_) (λj r e=>?_) λj C=>?_
 .rcases e with e|rfl
  .exact .inl e
  .exact .inr ⟨λj h=>by have:=f j r h.1;omega,λh=>by have:=s r h;omega⟩
 .rcases e with e|e|e
  .exact z 0 j r (Ne.symm C) e
  .exact λh=>(q r e.2 e.1).1 j h.1
  .exact λh=>by have:=h.2;omega
 .rcases e with e|e|e
  .exact M 0 r e
  .exact λh=>by have:=(q r e.2 e.1).2;have:=s r h;omega
  .exact λh=>by have:=s r h;omega
 .unfold kd at e;split at e
  .rcases e with e|e|e
   .exact f 0 r e.1
   .exact (q r e.2 e.1).2
   .omega
  .exact f j r e.1
 .rw[W0 (Ne.symm C)]
theorem ck.Se{a:Bool}(h:ck ms A R w cs k d6 zero D G bc H E)(F:ai w gs a8 cs)(ac:cs[4]?=σ v)(f:∀j r,A j r->gs<r)(s:∀r,R r->r<gs)(V:cn w 1 y 1 xs)(Q:bS B R w xs a)(q:∀r,r<w.heap.size->B r->(∀j,¬A j r)/\gs<r)(ah:G.length<=1000)(S:∀aP cj I,aj (λr=>gs<=r) w I->ai I gs a8 cj->ck ms aP R I cj k d6 zero D (G++[a]) bc H E->(∀j r,aP j r->gs<r)->(∀j,j≠4->cj[j]?=cs[j]?)->K I):
  aM x7 (c9 #[lb,lb] P #[v,y]) w λJ ab=>ad x7 (u6 a8 (Γ gs) 4) ab λU=>aM x7 (o7 lb U J) ab λ_ x=>K x:=by
 have aE:=h.old;have W:=F.lt;obtain⟨ho,ak,X,al,am,L,Y,h1,an,Z,ao,ap,aq,z⟩:=id aE;obtain⟨z,M⟩:=z rfl;have L:v=X:=by rw[Y]at ac;exact(Z4 ac).symm
 subst L;have aa:bS (λr=>B r/\r<w.heap.size) R w xs a:=ay.Y Q (λr e h=>⟨h,e⟩) λ_ _ h=>h;refine vV a8.p rfl lb.u lb.i eE.i rfl F ac Z V aa (λr e N=>⟨λae=>(q r e ae.1).1 1 N.1,M 1 r N⟩) ⟨λh=>by have:=f 1 gs h.1;omega,λh=>by have:=(q gs W h.1).2;omega,λh=>by have:=s gs h;omega⟩ Ω Ω λJ x O af ag=>?_;refine S _ _ x (O.Y λr _ h=>h.elim (λh=>by have:=f 1 r h.1;omega) λh=>Ω) af (aE.Sb O (λr e=>?_) ag (λj r C e=>?_) λr e=>?_) (λj r e=>?_) λj C=>?_
 .rcases e with e|rfl
  .exact .inl e
  .exact .inr ⟨λj h=>by have:=f j r h.1;omega,λh=>by have:=s r h;omega⟩
 .rcases e with e|e|e
  .exact z 1 j r (Ne.symm C) e
  .exact λh=>(q r e.2 e.1).1 j h.1
  .exact λh=>by have:=h.2;omega
 .rcases e with e|e|e
  .exact M 1 r e
  .exact λh=>by have:=(q r e.2 e.1).2;have:=s r h;omega
  .exact λh=>by have:=s r h;omega
 .unfold kd at e;split at e
  .rcases e with e|e|e
   .exact f 1 r e.1
   .exact (q r e.2 e.1).2
   .omega
  .exact f j r e.1
 .rw[W0 (Ne.symm C)]
theorem ck.Sf{a:Λ}(h:ck ms A R w cs k d6 zero D G bc H E)(F:ai w gs a8 cs)(ac:cs[5]?=σ v)(f:∀j r,A j r->gs<r)(s:∀r,R r->r<gs)(V:cn w 1 y 1 xs)(Q:bS B R w xs a)(q:∀r,r<w.heap.size->B r->(∀j,¬A j r)/\gs<r)(ah:bc.length<=1000)(S:∀aP cj I,aj (λr=>gs<=r) w I->ai I gs a8 cj->ck ms aP R I cj k d6 zero D G (bc++[a]) H E->(∀j r,aP j r->gs<r)->(∀j,j≠5->cj[j]?=cs[j]?)->K I):
  aM x7 (c9 #[et,et] P #[v,y]) w λJ ab=>ad x7 (u6 a8 (Γ gs) 5) ab λU=>aM x7 (o7 et U J) ab λ_ x=>K x:=by
 have aE:=h.old;have W:=F.lt;obtain⟨ho,ak,al,X,am,L,Y,h1,an,ao,Z,ap,aq,z⟩:=id aE;obtain⟨z,M⟩:=z rfl;have L:v=X:=by rw[Y]at ac;exact(Z4 ac).symm
 subst L;have aa:bS (λr=>B r/\r<w.heap.size) R w xs a:=ay.Y Q (λr e h=>⟨h,e⟩) λ_ _ h=>h;refine vV a8.p rfl et.u et.i aC.i rfl F ac Z V aa (λr e N=>⟨λae=>(q r e ae.1).1 2 N.1,M 2 r N⟩) ⟨λh=>by have:=f 2 gs h.1;omega,λh=>by have:=(q gs W h.1).2;omega,λh=>by have:=s gs h;omega⟩ Ω Ω λJ x O af ag=>?_;refine S _ _ x (O.Y λr _ h=>h.elim (λh=>by have:=f 2 r h.1;omega) λh=>Ω) af (aE.mi O (λr e=>?_) ag (λj r C e=>?_) λr e=>?_) (λj r e=>?_) λj C=>?_
 .rcases e with e|rfl
  .exact .inl e
  .exact .inr ⟨λj h=>by have:=f j r h.1;omega,λh=>by have:=s r h;omega⟩
 .rcases e with e|e|e
  .exact z 2 j r (Ne.symm C) e
  .exact λh=>(q r e.2 e.1).1 j h.1
  .exact λh=>by have:=h.2;omega
 .rcases e with e|e|e
  .exact M 2 r e
  .exact λh=>by have:=(q r e.2 e.1).2;have:=s r h;omega
  .exact λh=>by have:=s r h;omega
 .unfold kd at e;split at e
  .rcases e with e|e|e
   .exact f 2 r e.1
   .exact (q r e.2 e.1).2
   .omega
  .exact f j r e.1
 .rw[W0 (Ne.symm C)]
theorem ck.Sg{a:k0}(h:ck ms A R w cs k d6 zero D G bc H E)(F:ai w gs a8 cs)(ac:cs[6]?=σ v)(f:∀j r,A j r->gs<r)(s:∀r,R r->r<gs)(V:cn w 4 y 1 xs)(Q:bS B R w xs a)(q:∀r,r<w.heap.size->B r->(∀j,¬A j r)/\gs<r)(ah:H.length<=1000)(S:∀aP cj I,aj (λr=>gs<=r) w I->ai I gs a8 cj->ck ms aP R I cj k d6 zero D G bc (H++[a]) E->(∀j r,aP j r->gs<r)->(∀j,j≠6->cj[j]?=cs[j]?)->K I):
  aM x7 (c9 #[fa,fa] P #[v,y]) w λJ ab=>ad x7 (u6 a8 (Γ gs) 6) ab λU=>aM x7 (o7 fa U J) ab λ_ x=>K x:=by
 have aE:=h.old;have W:=F.lt;obtain⟨ho,ak,al,am,X,L,Y,h1,an,ao,ap,Z,aq,z⟩:=id aE;obtain⟨z,M⟩:=z rfl;have L:v=X:=by rw[Y]at ac;exact(Z4 ac).symm
 subst L;have aa:bS (λr=>B r/\r<w.heap.size) R w xs a:=ay.Y Q (λr e h=>⟨h,e⟩) λ_ _ h=>h;refine vV a8.p rfl fa.u fa.i dI.i rfl F ac Z V aa (λr e N=>⟨λae=>(q r e ae.1).1 3 N.1,M 3 r N⟩) ⟨λh=>by have:=f 3 gs h.1;omega,λh=>by have:=(q gs W h.1).2;omega,λh=>by have:=s gs h;omega⟩ Ω Ω λJ x O af ag=>?_;refine S _ _ x (O.Y λr _ h=>h.elim (λh=>by have:=f 3 r h.1;omega) λh=>Ω) af (aE.mj O (λr e=>?_) ag (λj r C e=>?_) λr e=>?_) (λj r e=>?_) λj C=>?_
 .rcases e with e|rfl
  .exact .inl e
  .exact .inr ⟨λj h=>by have:=f j r h.1;omega,λh=>by have:=s r h;omega⟩
 .rcases e with e|e|e
  .exact z 3 j r (Ne.symm C) e
  .exact λh=>(q r e.2 e.1).1 j h.1
  .exact λh=>by have:=h.2;omega
 .rcases e with e|e|e
  .exact M 3 r e
  .exact λh=>by have:=(q r e.2 e.1).2;have:=s r h;omega
  .exact λh=>by have:=s r h;omega
 .unfold kd at e;split at e
  .rcases e with e|e|e
   .exact f 3 r e.1
   .exact (q r e.2 e.1).2
   .omega
  .exact f j r e.1
 .rw[W0 (Ne.symm C)]
end
end Go.Proofs.YtlcdcbgoaljiiaaGreatDoor
