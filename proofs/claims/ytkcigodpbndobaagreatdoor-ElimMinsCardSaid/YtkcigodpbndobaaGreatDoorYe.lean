/- own texts, made small by a tool (wip/ holds them as they were written): no statement of the seat. -/
import Derived.Test.YtkcigodpbndobaaGreatDoorYd
set_option linter.unusedVariables false
set_option linter.unusedSimpArgs false
set_option linter.unnecessarySimpa false
open Array renaming getElem?_eq_some_iff→Z9
open Bool renaming false→sp,true→rs,not_true→Y2,not_false→X1,true_and→W7,and_eq_true→V8,eq_iff_iff→U5
open Decidable renaming not_not→Z2
open Go renaming Value→x1,World→x3,TypeId→r8,IntKind→o4,Builtin→j5,Program→X2,Addr→S6
open Go.Addr renaming add_mid→W0
open Go.Builtin renaming append_→j4,zeroCells→S1
open Go.Instr renaming loadAt→u4,fieldAt→u6,storeAt→o6,indexAt→j0,extract→c7,buildSlice→Z3
open Go.Proofs.Tryz renaming prog→x7
open Go.Value renaming int→Y9,cells→T5
open Int renaming toNat_natCast→u7,mul_le_mul_of_nonneg_right→W6,eq_ofNat_of_zero_le→U8
open List renaming getElem?_eq_some_iff→x4,mem_of_getElem?→x5,getElem?_eq_getElem→x6,getElem?_map→x8,getD_eq_getElem?_getD→v8,take_add_one→u5,replicate→u9,length_map→r9,take_length→p8,length_append→p9,take_of_length_le→o7,mem_map→o8,mem_append→o9,map_append→n9,length_take→j6,ext_getElem?→j9,mem_iff_getElem?→c8,eq_nil_of_length_eq_zero→c9,mem_singleton→b8,range→Z4,getElem?_set_self→Z5,getElem?_eq_none→Y0,getElem?_take_of_lt→Y3,length_cons→Y4,getElem?_append_right→Y5,append_assoc→Y7,getElem?_set→Y8,drop_eq_getElem_cons→X0,length_eq_one_iff→X3,pairwise_iff_getElem→X5,getElem?_set_ne→W5,getElem?_append_left→W8,append_nil→V2,map_congr_left→V3,mem_of_mem_take→V4,map_set→V5,flatMap_cons→U3,map_cons→U4,length_set→U7,getElem?_zip_eq_some→U9,getElem_mem→T0,mem_range→T1,mem_filter→T2,mem_or_eq_of_mem_set→T4,map_map→T8,map_take→S0,length_filter_le→S8
open Nat renaming le_refl→o5,le_trans→Y1,zero_add→V0,mul_one→V1,mul_le_mul_right→V7,sub_self→U1,add_mul→T7
open Option renaming toList_some→l7,isNone_some→l9,some→b9,map_some→Z0,map_eq_some_iff→Z6,map→W3,isSome_some→S2,isSome_none→S3,getD_some→R3
open Option.some renaming inj→Z7
set_option maxHeartbeats 16000000
open Option renaming some→σ,none→ν
variable{I w:x3}{S e:r8}{c k most v:Int}{cs:List x1}{a l sc co szs t tl:Λ}{B ac ga gt gtb gy j pos:Nat}{aI sv:x1}{K:x1->x3->Prop}{D:Nat->Prop}
namespace Go.Proofs.YtkcigodpbndobaaGreatDoor
open Go Go.Vc Go.RowKit Go.Proofs Go.Proofs.Tryz
set_option maxRecDepth 100000
theorem vQ{α:Type}[aq α]{st t L:r8}{C:List (Nat×Nat)}{gs c q b M:Nat}{z N y v:x1}{box:List x1}{S A R:ah}{l:List α}{a:α}{K:x3->Prop}(O:bL x7 st C)(P:C[c]?=σ (c,q+1))(Q:x7.underlying t=σ (.slice e))(T:aR x7 t 1 M N)(hi:aR x7 e (aq.n α) b z)(W:z.cells.size=aq.n α)(E:ag w gs st box)(X:box[c]?=σ v)(h:bH S R w [v] l)(U:b5 w (aq.n α) y 1 cs)(Y:bH A R w cs a)(Z:∀r,r<w.heap.size->S r->¬A r/\¬R r)(p:¬S gs/\¬A gs/\¬R gs)(aj:(l.length+1)*b<=140737488355328)(ak:l.length+1<=1000000)(ac:∀j I,af (λr=>S r\/r=gs) w I->ag I gs st (box.set c j)->bH (λr=>S r\/A r\/w.heap.size<=r) R I [j] (l++[a])->K I):
  aD x7 (j4 #[t,t] L #[v,y]) w λj V=>ab x7 (u6 st (Γ gs) c) V λad=>aD x7 (o6 t ad j) V λ_ s=>K s:=by
 have ae:=(x4.1 X).1;refine ox Q hi W h U Y (λr F U f=>?_) Ω Ω λj V x G=>?_
 .have:=Z r F U;exact f.elim this.1 this.2
 have ai:=E.aa G p.1;rw[aT O P];refine bw (o:=0+c) T (qO x) (nK x) ai (by rw[V0];exact ae) λs H al J=>?_;refine ac j s ((G.X λr _ h=>.inl h).F (H.X λr _ h=>.inr h)) (by rw[V0]at J;exact J) (aq.aa x H λr F f B=>?_);have B:r=gs:=B;subst B;have am:=E.lt;rcases f with f|f
 .rcases f with f|f|f
  .exact p.1 f
  .exact p.2.1 f
  .omega
 .exact p.2.2 f
section
variable{A:Nat->ah}{B R:ah}{w:x3}{cs xs:List x1}{gs:Nat}{y v:x1}{k zero:Int}{co:Λ}{D:List (Λ)}{G:List Bool}{aX:List (Λ)}{H:List kh}{E:List qg}{K:x3->Prop}
theorem cf.RA(h:cf rs A R w cs k co zero D G aX H E)(J:ag w gs aZ cs)(x:cs[3]?=σ v)(f:∀j r,A j r->gs<r)(s:∀r,R r->r<gs)(U:b5 w 1 y 1 xs)(W:bH B R w xs a)(q:∀r,r<w.heap.size->B r->(∀j,¬A j r)/\gs<r)(al:D.length<=1000)(X:∀aJ ci I,af (λr=>gs<=r) w I->ag I gs aZ ci->cf rs aJ R I ci k co zero (D++[a]) G aX H E->(∀j r,aJ j r->gs<r)->(∀j,j≠3->ci[j]?=cs[j]?)->K I):
  aD x7 (j4 #[dk,dk] S #[v,y]) w λL V=>ab x7 (u6 aZ (Γ gs) 3) V λY=>aD x7 (o6 dk Y L) V λ_ z=>K z:=by
 have M:=h.old;have Z:=J.lt;obtain⟨d9,aa,am,an,ao,N,ac,h1,ad,ap,au,av,aw,C⟩:=id M;obtain⟨C,O⟩:=C rfl;have N:v=aa:=by rw[ac]at x;exact(Z7 x).symm
 subst N;have ae:bH (λr=>B r/\r<w.heap.size) R w xs a:=aq.X W (λr e h=>⟨h,e⟩) λ_ _ h=>h;refine vQ aZ.p rfl dk.u dk.i ai.i rfl J x ad U ae (λr e P=>⟨λah=>(q r e ah.1).1 0 P.1,O 0 r P⟩) ⟨λh=>by have:=f 0 gs h.1;omega,λh=>by have:=(q gs Z h.1).2;omega,λh=>by have:=s gs h;omega⟩ Ω Ω λL z Q aj ak=>?_;refine X _ _ z (Q.X λr _ h=>h.elim (λh=>by have:=f 0 r h.1;omega) λh=>Ω) aj (M.Ga Q (λr e=>?_) ak (λj r F e=>?_) λr e=>?_) (λj r e=>?_) λj F=>?_
 .rcases e with e|rfl
  .exact .inl e
  .exact .inr ⟨λj h=>by have:=f j r h.1;omega,λh=>by have:=s r h;omega⟩
 .rcases e with e|e|e
  .exact C 0 j r (Ne.symm F) e
  .exact λh=>(q r e.2 e.1).1 j h.1
  .exact λh=>by have:=h.2;omega
 .rcases e with e|e|e
  .exact O 0 r e
  .exact λh=>by have:=(q r e.2 e.1).2;have:=s r h;omega
  .exact λh=>by have:=s r h;omega
 .unfold jO at e;split at e
  .rcases e with e|e|e
   .exact f 0 r e.1
   .exact (q r e.2 e.1).2
   .omega
  .exact f j r e.1
 .rw[W5 (Ne.symm F)]
theorem cf.RB{a:Bool}(h:cf rs A R w cs k co zero D G aX H E)(J:ag w gs aZ cs)(x:cs[4]?=σ v)(f:∀j r,A j r->gs<r)(s:∀r,R r->r<gs)(U:b5 w 1 y 1 xs)(W:bH B R w xs a)(q:∀r,r<w.heap.size->B r->(∀j,¬A j r)/\gs<r)(ak:G.length<=1000)(X:∀aJ ci I,af (λr=>gs<=r) w I->ag I gs aZ ci->cf rs aJ R I ci k co zero D (G++[a]) aX H E->(∀j r,aJ j r->gs<r)->(∀j,j≠4->ci[j]?=cs[j]?)->K I):
  aD x7 (j4 #[kq,kq] S #[v,y]) w λL V=>ab x7 (u6 aZ (Γ gs) 4) V λY=>aD x7 (o6 kq Y L) V λ_ z=>K z:=by
 have M:=h.old;have Z:=J.lt;obtain⟨d9,al,aa,am,an,N,ac,h1,ao,ad,ap,au,av,C⟩:=id M;obtain⟨C,O⟩:=C rfl;have N:v=aa:=by rw[ac]at x;exact(Z7 x).symm
 subst N;have ae:bH (λr=>B r/\r<w.heap.size) R w xs a:=aq.X W (λr e h=>⟨h,e⟩) λ_ _ h=>h;refine vQ aZ.p rfl kq.u kq.i gD.i rfl J x ad U ae (λr e P=>⟨λah=>(q r e ah.1).1 1 P.1,O 1 r P⟩) ⟨λh=>by have:=f 1 gs h.1;omega,λh=>by have:=(q gs Z h.1).2;omega,λh=>by have:=s gs h;omega⟩ Ω Ω λL z Q ai aj=>?_;refine X _ _ z (Q.X λr _ h=>h.elim (λh=>by have:=f 1 r h.1;omega) λh=>Ω) ai (M.Ry Q (λr e=>?_) aj (λj r F e=>?_) λr e=>?_) (λj r e=>?_) λj F=>?_
 .rcases e with e|rfl
  .exact .inl e
  .exact .inr ⟨λj h=>by have:=f j r h.1;omega,λh=>by have:=s r h;omega⟩
 .rcases e with e|e|e
  .exact C 1 j r (Ne.symm F) e
  .exact λh=>(q r e.2 e.1).1 j h.1
  .exact λh=>by have:=h.2;omega
 .rcases e with e|e|e
  .exact O 1 r e
  .exact λh=>by have:=(q r e.2 e.1).2;have:=s r h;omega
  .exact λh=>by have:=s r h;omega
 .unfold jO at e;split at e
  .rcases e with e|e|e
   .exact f 1 r e.1
   .exact (q r e.2 e.1).2
   .omega
  .exact f j r e.1
 .rw[W5 (Ne.symm F)]
theorem cf.RC(h:cf rs A R w cs k co zero D G aX H E)(J:ag w gs aZ cs)(x:cs[5]?=σ v)(f:∀j r,A j r->gs<r)(s:∀r,R r->r<gs)(U:b5 w 1 y 1 xs)(W:bH B R w xs a)(q:∀r,r<w.heap.size->B r->(∀j,¬A j r)/\gs<r)(ak:aX.length<=1000)(X:∀aJ ci I,af (λr=>gs<=r) w I->ag I gs aZ ci->cf rs aJ R I ci k co zero D G (aX++[a]) H E->(∀j r,aJ j r->gs<r)->(∀j,j≠5->ci[j]?=cs[j]?)->K I):
  aD x7 (j4 #[eP,eP] S #[v,y]) w λL V=>ab x7 (u6 aZ (Γ gs) 5) V λY=>aD x7 (o6 eP Y L) V λ_ z=>K z:=by
 have M:=h.old;have Z:=J.lt;obtain⟨d9,al,am,aa,an,N,ac,h1,ao,ap,ad,av,aw,C⟩:=id M;obtain⟨C,O⟩:=C rfl;have N:v=aa:=by rw[ac]at x;exact(Z7 x).symm
 subst N;have ae:bH (λr=>B r/\r<w.heap.size) R w xs a:=aq.X W (λr e h=>⟨h,e⟩) λ_ _ h=>h;refine vQ aZ.p rfl eP.u eP.i au.i rfl J x ad U ae (λr e P=>⟨λah=>(q r e ah.1).1 2 P.1,O 2 r P⟩) ⟨λh=>by have:=f 2 gs h.1;omega,λh=>by have:=(q gs Z h.1).2;omega,λh=>by have:=s gs h;omega⟩ Ω Ω λL z Q ai aj=>?_;refine X _ _ z (Q.X λr _ h=>h.elim (λh=>by have:=f 2 r h.1;omega) λh=>Ω) ai (M.kP Q (λr e=>?_) aj (λj r F e=>?_) λr e=>?_) (λj r e=>?_) λj F=>?_
 .rcases e with e|rfl
  .exact .inl e
  .exact .inr ⟨λj h=>by have:=f j r h.1;omega,λh=>by have:=s r h;omega⟩
 .rcases e with e|e|e
  .exact C 2 j r (Ne.symm F) e
  .exact λh=>(q r e.2 e.1).1 j h.1
  .exact λh=>by have:=h.2;omega
 .rcases e with e|e|e
  .exact O 2 r e
  .exact λh=>by have:=(q r e.2 e.1).2;have:=s r h;omega
  .exact λh=>by have:=s r h;omega
 .unfold jO at e;split at e
  .rcases e with e|e|e
   .exact f 2 r e.1
   .exact (q r e.2 e.1).2
   .omega
  .exact f j r e.1
 .rw[W5 (Ne.symm F)]
theorem cf.RD{a:kh}(h:cf rs A R w cs k co zero D G aX H E)(J:ag w gs aZ cs)(x:cs[6]?=σ v)(f:∀j r,A j r->gs<r)(s:∀r,R r->r<gs)(U:b5 w 4 y 1 xs)(W:bH B R w xs a)(q:∀r,r<w.heap.size->B r->(∀j,¬A j r)/\gs<r)(ak:H.length<=1000)(X:∀aJ ci I,af (λr=>gs<=r) w I->ag I gs aZ ci->cf rs aJ R I ci k co zero D G aX (H++[a]) E->(∀j r,aJ j r->gs<r)->(∀j,j≠6->ci[j]?=cs[j]?)->K I):
  aD x7 (j4 #[fq,fq] S #[v,y]) w λL V=>ab x7 (u6 aZ (Γ gs) 6) V λY=>aD x7 (o6 fq Y L) V λ_ z=>K z:=by
 have M:=h.old;have Z:=J.lt;obtain⟨d9,al,am,an,aa,N,ac,h1,ao,ap,au,ad,av,C⟩:=id M;obtain⟨C,O⟩:=C rfl;have N:v=aa:=by rw[ac]at x;exact(Z7 x).symm
 subst N;have ae:bH (λr=>B r/\r<w.heap.size) R w xs a:=aq.X W (λr e h=>⟨h,e⟩) λ_ _ h=>h;refine vQ aZ.p rfl fq.u fq.i dF.i rfl J x ad U ae (λr e P=>⟨λah=>(q r e ah.1).1 3 P.1,O 3 r P⟩) ⟨λh=>by have:=f 3 gs h.1;omega,λh=>by have:=(q gs Z h.1).2;omega,λh=>by have:=s gs h;omega⟩ Ω Ω λL z Q ai aj=>?_;refine X _ _ z (Q.X λr _ h=>h.elim (λh=>by have:=f 3 r h.1;omega) λh=>Ω) ai (M.kQ Q (λr e=>?_) aj (λj r F e=>?_) λr e=>?_) (λj r e=>?_) λj F=>?_
 .rcases e with e|rfl
  .exact .inl e
  .exact .inr ⟨λj h=>by have:=f j r h.1;omega,λh=>by have:=s r h;omega⟩
 .rcases e with e|e|e
  .exact C 3 j r (Ne.symm F) e
  .exact λh=>(q r e.2 e.1).1 j h.1
  .exact λh=>by have:=h.2;omega
 .rcases e with e|e|e
  .exact O 3 r e
  .exact λh=>by have:=(q r e.2 e.1).2;have:=s r h;omega
  .exact λh=>by have:=s r h;omega
 .unfold jO at e;split at e
  .rcases e with e|e|e
   .exact f 3 r e.1
   .exact (q r e.2 e.1).2
   .omega
  .exact f j r e.1
 .rw[W5 (Ne.symm F)]
end
theorem oX{R:ah}{v:x1}{g:Nat}(h:an .i64 e w g v l):bH (λr=>li v r) R w [v] l:=by
 have h1:=mD (R:=R) h;by_cases f:v= .slice ν 0 0
 .subst f;have:l=[]:=by
   obtain⟨j,⟨_,a⟩|⟨_,_,a,_⟩⟩:=h
   all_goals grind
  grind [iw]
 .obtain⟨j,⟨a,_⟩|⟨cap,cs,a,_⟩⟩:=id h
  .grind
  .refine aq.X h1 (λr _ p=>?_) λ_ _ h=>h;rw[a];exact⟨_,_,_,rfl,p.symm⟩
theorem zq{R:ah}{v:x1}{g:Nat}(e:∀r c,B<=r->ag w r ae c->R r)(h:an .i64 ae w g v l)(f:∀r,li v r->B<=r):Seen R w [v] l:=sd (oX (R:=λ_=>False) h) λr j a=>by
 rcases a with a|a
 .obtain⟨c,p⟩:=rx h r a
  grind
 grind
theorem RE{R:ah}{zero:Int}{d9:x1}(h:Seen R w [d9] co):cf rs (λ_ _=>False) R w [Δ k,d9,Δ zero,.slice ν 0 0,.slice ν 0 0,.slice ν 0 0,.slice ν 0 0,.slice ν 0 0] k co zero [] [] [] [] []:=
 ⟨_,_,_,_,_,_,rfl,h,iw,iw,iw,iw,iw,by grind⟩
theorem cf.at{m:Bool}{A:Nat->ah}{R:ah}{zero:Int}{D:List (Λ)}{G:List Bool}{aX:List (Λ)}{H:List kh}{E:List qg}(h:cf m A R w cs k co zero D G aX H E)(c:Nat)(a:c<8):∃v,cs[c]?=σ v:=⟨_,x6 (by rw[h.len.1];exact a)⟩
def RF(R:ah)(w:x3)(e gt gs:Nat)(n:aG)(f:List x1)(i j:Nat)(a:x3):Prop:=Ext w a/\ag a e dT f/\ag a gt aZ z12/\∃A cs,ag a gs aZ cs/\(∀q r,A q r->gs<r)/\
 cf rs A R a cs n.k n.co n.zero ((n.unary.take i).map λu=>aM (newVar u)) (u9 i sp) (n.unary.take i) ((n.d7.take j).map λg=>kR (mY n.co g)) []
theorem Gb{bx:x1}{n:aG}{R:ah}(dM:∀r,R r->r<w.heap.size)(aU:∀r c,B<=r->ag w r ae c->R r)(cj:y2 w B bx n)(ab:kI n)(dN:n.d7.length<=256):ak x7 Jm [bx] w λv I=>Ext w I/\∃A cs,v= .agg cs.toArray/\ki rs A R I cs n.k n.co (dt n)/\∀q r,A q r->w.heap.size<=r:=by
 have dO:=ab.co.2.1;have ck:=ab.lW;refine ay func115 ?_;refine bj λg1 J dQ aV cl=>?_;obtain⟨d9,gz,cm,dR,bz,cn,dS,aW,aw,ax,cp,dU,aX,cq,dV,cr,bA⟩:=Q1 cj cl;refine bu aZ.i λgt V dW az aA=>?_;have aA:ag V gt aZ z12:=aA;have aY:=aw.W az;rw[aK dT.p 0 aY rfl,aK dT.p 1 aY rfl,aK dT.p 2 aY rfl,
  dq (cs:=#[Δ n.k,d9,Δ n.zero,.slice ν 0 0,.slice ν 0 0,.slice ν 0 0,.slice ν 0 0,.slice ν 0 0]) (by obtain⟨_,_,_,e⟩:=cE ax.ls;rw[e];kernel_rfl)]
 refine bu aZ.i λgs dX dY aB ct=>?_;have cu:Seen R w [d9] n.co:=zq aU ax cr;have dZ:=aV.size;have ea:=az.size;have z3:=aB.size;have cw:=(aV.F az).F aB;have bB:=RE (k:=n.k) (zero:=n.zero) (bN cu cw);refine b4 (vs:=[Δ n.k,d9,Δ n.zero,.slice ν 0 0,.slice ν 0 0,.slice ν 0 0,.slice ν 0 0,.slice ν 0 0]) aZ.i rfl rfl bB.len.2 ct λeb a1 ec cz=>?_;have ed:=aA.lt;have ee:=aw.lt;have cA:gt≠gs:=Ω
 have a2:=(az.F aB).put a1 Ω;have bE:=aV.F a2;have cB:=(aA.W aB).aa a1 λhe=>cA he;have eg:w.heap.size<gs:=Ω
 rw[aK dT.p 1 (aw.W a2) rfl,aS ai.u (ax.W bE).ls];have cC:=bB.aa a1 (by grind);refine ce.range n.co.length (λi P=>RF R w g1 gt gs n [Δ n.k,d9,Δ n.zero,cm,cn] i 0 P) Ω ⟨bE,aw.W a2,cB,_,_,cz,by grind,cC⟩ ?_ ?_
 .rintro i P cD hi ⟨ac,a6,bF,A,cs,aD,cF,a8⟩ cG;obtain⟨z,bb⟩:=aC (l:=n.co) hi;obtain⟨u,bG⟩:=aC (l:=n.unary) (i:=i) Ω;have eh:=ab.co.2.2 z (x5 bb);obtain⟨ei,_⟩:=ab.unary i z u bb bG;refine bt Ω ?_;rw[ba ai.u ae.i Ψ (ax.W ac).ls bb];obtain⟨bI,rfl⟩:∃m:Nat,z=m:=⟨z.toNat,Ω⟩;refine bT.range bI (λj ad aE=>Ext P aE/\∃g,an .i64 ae aE g ad ((Z4 j).map λv:Nat=>(v:Int))/\∀r,li ad r->P.heap.size<=r) Ω
   ⟨Ext.refl _,0,an.nil _ _ _ _,λr f=>by obtain⟨a,n,c,K,Q⟩:=f;cases K⟩ ?_ ?_
  .rintro j ad aE bc bd ⟨L,cH,S,cI⟩ be;refine bt Ω ?_;refine dl ai.u ae.i rfl λej ek cJ em G cK=>?_;refine gx ai.u ae.i rfl (S.W G) cK.ls Θ Θ λen cL cM eo ep U=>?_;rw[aL];have cN:=L.size;have cO:=G.size;refine be _ _ ⟨(L.F G).then U (by grind),cL,?_,by grind⟩
   grind [List.range_succ]
  rintro ad aE bc ⟨L,cH,S,cI⟩;refine b6 Ω ?_;have cP:(Z4 bI).map (λv:Nat=>(v:Int))=aM (newVar u):=by grind [Q2]
  rw[cP]at S;have cN:=L.size;have er:=ac.size;have es:=aD.lt;have aj:∀r,R r->r<gs:=by grind
  have low:∀{s C:x3}{b:Nat}{e:r8}{c:List x1},af (λr=>gs<=r) s C->b<gs->ag s b e c->ag C b e c:=λM cQ h=>h.aa M Ω;have al:∀{s C:x3},Ext w s->af (λr=>gs<=r) s C->Ext w C:=λbf M=>bf.then M Ω;have bJ:=a8.old.W L;have cR:∀q r,(A q r/\r<P.heap.size)->gs<r:=by grind
  obtain⟨et,bK⟩:=bJ.at 3 Ω;rw[aK aZ.p 3 (aD.W L) bK];refine la dk.u ai.i Φ (a:=aM (newVar u)) (cs:=[ad]) S.ls.cells.1 (oX (R:=R) S) λeu cJ G _ cS=>?_;have cO:=G.size;have aF:=L.F G;refine cf.RA (bJ.W G) (aD.W aF) bK cR aj cS (bN (oX S) G) (λr f h=>?_) Θ λev ew cM U bL bM cT _=>?_
  .grind
  have ey:=U.size;obtain⟨ez,bO⟩:=bM.at 4 Ω;rw[aK aZ.p 4 bL bO];refine la (a:=sp) (cs:=[.bool sp]) (A:=λ_=>False) (R:=R) kq.u gD.i Φ rfl rfl λeA eB W _ cU=>?_;refine cf.RB (B:=λ_=>False) (bM.W W) (bL.W W) bO cT aj cU rfl (by grind) Θ λcV eC bP aH cW cX eD _=>?_;have z9:=W.size;have eE:=aH.size;have cY:Ext w bP:=al ((al (ac.F aF) U).F W) aH;have cZ:=low aH Ω ((low U Ω (a6.W aF)).W W);have c0:=low aH Ω ((low U Ω (bF.W aF)).W W);intro bg X _ _;have bQ:=cW.W X;have bR:=cZ.W X;have bS:=cY.F X;obtain⟨Y,aJ⟩:∃Y,bz[i]?=σ Y:=⟨_,x6 (by grind)⟩;have c1:Y.l=u:=by
   have eF:(bz.map (·.l))[i]?=σ Y.l:=by rw[x8,aJ];rfl
   grind
  have bh:=cp.W bS;obtain⟨eH,bU⟩:=bh.2 Y (x5 aJ);rw[c1]at bU;have bV:=cX.old.W X;have c2:∀q r,(cV q r/\r<bP.heap.size)->gs<r:=by grind
  obtain⟨eJ,bW⟩:=bV.at 5 Ω;rw[aK aZ.p 5 bQ bW,aK dT.p 3 bR rfl,c5 rfl eP.u au.i bh.1 (x4.1 aJ).1,av (v:=Y.v) (o:=i*1) Ψ (bh.1.range aJ 0 _ rfl)];refine y5 (k:=.i64) au.u ao.i λc4 eK eL eM aN bX=>?_;refine⟨.inl aN,?_⟩;refine gx au.u ao.i rfl bX (bU.W aN).ls Θ Θ λbY eN c6 aO c7 c8=>?_;rw[List.nil_append]at aO;have eO:=X.size;have eQ:=aN.size;have c9:∀r,li c4 r->bg.heap.size<=r:=λr f=>by have:=(bD bX f).1;omega
  have eR:∀r,li bY r->bg.heap.size<=r:=λr f=>(c7 r f).elim (c9 r) Ω;have bi:Ext bg c6:=aN.then c8 (by grind);refine⟨.inl bi,?_⟩;have eS:=bi.size;refine la eP.u au.i Φ (a:=u) (cs:=[bY]) aO.ls.cells.1 (oX (R:=R) aO) λeU eV bk _ da=>?_;have eW:=bk.size;have Z:=bi.F bk;refine⟨.inl Z,?_⟩;refine cf.RC (bV.W Z) (bQ.W Z) bW c2 aj da (bN (oX (R:=R) aO) bk) (λr f h=>?_) Θ λdb dc eX bl dd de df _=>?_
  .grind
  rw[aL];refine cG _ ⟨al (bS.F Z) bl,low bl Ω (bR.W Z),low bl Ω ((c0.W X).W Z),db,dc,dd,df,?_⟩;rw[u5,bG,l7,n9,U4,List.map_nil,List.replicate_succ'];exact de
 rintro P cD ⟨ac,a6,bF,A,cs,aD,cF,a8⟩;refine b6 Ω ?_;rw[o7 Ω]at a8;have eY:aW.length=n.d7.length:=by grind
 have dg:=aX.W ac;rw[aK dT.p 4 a6 rfl,eI c3.u dg];have aj:∀r,R r->r<gs:=by grind
 have low:∀{s C:x3}{b:Nat}{e:r8}{c:List x1},af (λr=>gs<=r) s C->b<gs->ag s b e c->ag C b e c:=λM cQ h=>h.aa M Ω;have al:∀{s C:x3},Ext w s->af (λr=>gs<=r) s C->Ext w C:=λbf M=>bf.then M Ω;refine ce.range aW.length (λj H=>Ext w H/\ag H gt aZ z12/\∃A cs,ag H gs aZ cs/\(∀q r,A q r->gs<r)/\
  cf rs A R H cs n.k n.co n.zero (n.unary.map λu=>aM (newVar u)) (u9 n.co.length sp) n.unary ((n.d7.take j).map λg=>kR (mY n.co g)) []) aX.le (by grind) ?_ ?_
 .rintro j H bc bd ⟨N,bm,bn,bo,bp,dh,am⟩ be;obtain⟨y,aP⟩:=aC (l:=aW) bd;have bZ:n.d7[j]?=σ (ef y):=by grind
  have b0:=(ab.d7 (ef y) (x5 bZ)).1;have eZ:y.cs.length<=4096:=by
   have h1:y.cs.length=_:=b0.len;have e0:=b0.small;omega
  have b1:=cq y (x5 aP);have b2:=b1.W N;have b3:=aX.W N;refine bt Ω ?_;rw[c5 rfl c3.u a7.i b3 bd,bC a7.p a7.i rfl (b3.range aP)];refine bu a7.i λe1 e2 e3 di dj=>?_;refine b4 (vs:=dP y) a7.i rfl rfl b2.one dj λdm dn e4 dp=>?_;have dr:Ext H dm:=di.put dn Ω;intro bq b5 _ _;have O:=dr.F b5;have b7:=bp.W O;have br:=dp.W b5;have ds:=b2.W O;obtain⟨⟨e5,b8⟩,⟨e6,b9⟩,e7,du⟩:=id ds;have ca:=am.old.W O;have dv:∀q r,(bn q r/\r<H.heap.size)->gs<r:=by grind
  obtain⟨e8,cb⟩:=ca.at 6 Ω;rw[aK aZ.p 6 b7 cb,aK a7.p 0 br rfl,aK a7.p 1 br rfl,aK a7.p 2 br rfl];refine y5 (k:=.i64) au.u ao.i λv25 e9 fa fb aQ cc=>?_;refine⟨.inl aQ,?_⟩;refine gx au.u ao.i rfl cc (du.W aQ).ls Θ Θ λE fc cd aR fd dw=>?_;rw[List.nil_append]at aR;have fe:=O.size;have z25:=aQ.size;have ff:∀r,li v25 r->bq.heap.size<=r:=λr f=>by have:=(bD cc f).1;omega
  have dx:∀r,li E r->bq.heap.size<=r:=by grind
  have aT:Ext bq cd:=aQ.then dw (by grind);refine⟨.inl aT,?_⟩;rw[dq (cs:=#[y.aI,y.d9,E]) (by obtain⟨_,_,_,K⟩:=cE b8.ls;obtain⟨_,_,_,Q⟩:=cE b9.ls;obtain⟨_,_,_,ap⟩:=cE aR.ls;rw[K,Q,ap];kernel_rfl),
   dq (cs:=#[y.aI,y.d9,E,.bool rs]) (by obtain⟨_,_,_,K⟩:=cE b8.ls;obtain⟨_,_,_,Q⟩:=cE b9.ls;obtain⟨_,_,_,ap⟩:=cE aR.ls;rw[K,Q,ap];kernel_rfl)]
  have fg:=aT.size;have cg:=(N.F O).F aT;obtain⟨⟨ga,dy⟩,⟨fh,dz⟩,_⟩:=id b1;have own:bH (α:=kh) (λr=>li E r) R cd [y.aI,y.d9,E,.bool rs] (kR (mY n.co (ef y))):=by
   refine⟨[y.aI,y.d9,E],[.bool rs],λr=>li E r,λ_=>False,rfl,λ_ h=>h,λ_ h=>h.elim,λ_ _ _ h=>h,⟨[y.aI],[y.d9,E],λ_=>False,λr=>li E r,rfl,λ_ h=>h.elim,λ_ h=>h,by grind,?_,[y.d9],[E],λ_=>False,λr=>li E r,rfl,λ_ h=>h.elim,λ_ h=>h,by grind,?_,?_⟩,rfl⟩
   .exact bN (zq aU dy λr f=>bA y (x5 aP) r (.inr (.inl f))) cg
   .exact bN (zq aU dz λr f=>bA y (x5 aP) r (.inr (.inr f))) cg
   .exact oX aR
  refine la fq.u dF.i Φ rfl own λfi fj bs _ dA=>?_;have fk:=bs.size;have aq:=aT.F bs;refine⟨.inl aq,?_⟩;refine cf.RD (ca.W aq) (b7.W aq) cb dv aj dA (bN own bs) (λr f h=>?_) Θ λdC dD fm ch dE dG dH _=>?_
  .have:=dx r h;have:=bp.lt
   grind
  rw[aL];refine be _ ⟨al (N.F (O.F aq)) ch,low ch Ω (bm.W (O.F aq)),dC,dD,dE,dH,?_⟩;rw[u5,bZ,l7,n9,U4,List.map_nil];exact dG
 rintro H bc ⟨N,bm,bn,bo,bp,dh,am⟩;rw[o7 Ω]at am;refine b6 Ω ?_;obtain⟨bw,dI⟩:=am.len;rw[bC aZ.p aZ.i bw (by grind [ag.range])];refine b4 (vs:=bo) aZ.i bw rfl dI bm λfo ci fp dJ=>?_;rw[fA aZ.p aZ.i bw dJ.range];have dK:=am.aa ci (by grind);have fs:=N.size;refine⟨N.then ci Ω,bn,bo,rfl,?_,by grind⟩;have K:(dt n).d6.map aM=n.unary.map λu=>aM (newVar u):=by show(n.unary.map newVar).map aM=_;rw[T8];rfl
 have Q:(dt n).d6.map (λx=>decide (x.gone≠0))=u9 n.co.length sp:=by
  show(n.unary.map newVar).map _=_;rw[T8,<-ck];exact List.map_const' ..
 have ap:(dt n).d6.map (·.un)=n.unary:=by show(n.unary.map newVar).map _=_;rw[T8];exact List.map_id _
 have dL:(dt n).d7.map kR=n.d7.map λg=>kR (mY n.co g):=by show(n.d7.map (mY n.co)).map kR=_;rw[T8];rfl
 unfold ki;rw[K,Q,ap,dL];exact dK
def n5(w:x3)(g:Nat)(k:Int)(co:Λ)(s:al):Prop:=∃d9 a e f h j,ag w g aZ [Δ k,d9,Δ s.zero,a,e,f,h,j]/\aF .i64 w d9 co/\Seen ff w [d9] co/\
 Seen ff w [a] (s.d6.map aM)/\Seen ff w [e] (s.d6.map λx=>decide (x.gone≠0))/\Seen ff w [f] (s.d6.map (·.un))/\Seen ff w [h] (s.d7.map kR)/\Seen ff w [j] (s.elims.map F8)
section
variable{w I:x3}{g:Nat}{v:x1}{k:Int}{co:Λ}{s:al}
theorem n5.W(h:n5 w g k co s)(a:Ext w I):n5 I g k co s:=by
 obtain⟨d9,e,f,j,p,q,r,h1,x,y,z,A,B,C⟩:=h;exact⟨d9,e,f,j,p,q,r.W a,h1.W a,bN x a,bN y a,bN z a,bN A a,bN B a,bN C a⟩
theorem io.box(h:io w v k co s)(f:Ext w I)(j:ag I g aZ v.cells.toList):n5 I g k co s:=by
 obtain⟨cs,rfl,d9,z,B,C,E,F,rfl,h1,p,q,r,x,y,_⟩:=h;obtain⟨_,_,_,G⟩:=cE (eC h1);have c:∀{α:Type}[aq α]{v:x1}{l:List α}{A:ah},aq.rep sp A ff w [v] l->∃a n c,v= .slice a n c:=λh=>by
  obtain⟨_,_,_,_,_,⟨_,b,o,base,cap,e,_⟩,_⟩:=kw h;exact⟨_,_,_,e⟩
 obtain⟨_,_,_,H⟩:=c p;obtain⟨_,_,_,J⟩:=c q;obtain⟨_,_,_,K⟩:=c r;obtain⟨_,_,_,L⟩:=c x;obtain⟨_,_,_,M⟩:=c y;refine⟨d9,z,B,C,E,F,?_,(eC h1).W f,bN h1 f,bN p f,bN q f,bN r f,bN x f,bN y f⟩;rw[G,H,J,K,L,M]at j ⊢;exact j
theorem n5.load{K:x1->Prop}(h:n5 w g k co s)(a:∀u,io w u k co s->K u):ab x7 (u4 aZ (Γ g)) w K:=by
 obtain⟨d9,e,f,j,q,r,x,h1,y,z,A,B,C,E⟩:=h;rw[bC aZ.p aZ.i rfl x.range];exact a _ ⟨_,rfl,d9,e,f,j,q,r,rfl,y,z,A,B,C,E,λh=>by cases h⟩
theorem zr{i:Int}(h:io w v k co s):ak x7 Iv [v,Δ i] w λr I=>r= .bool (decide (0<=i/\i<co.length))/\Ext w I:=by
 refine ay func28 ?_;refine bj λg1 J x a e=>?_;obtain⟨d9,y,z,A,B,C,e,q,_⟩:=h.box a e;refine aV (λv V=>v= .bool (decide (0<=i/\i<co.length))/\Ext w V) (λ_ _ h=>h) λaz f=>?_;rw[cJ,aj];refine⟨λj=>?_,λj=>f _ _ ⟨by rw[pl];omega,a⟩⟩;rw[aK aZ.p 1 e rfl,aS ai.u q,aP];refine f _ _ ⟨?_,a⟩;congr 1;exact decide_eq_decide.2 ⟨λh=>⟨j,h⟩,λh=>h.2⟩
theorem oY{m:Bool}{S R:ah}{f:bF}(h:aq.rep (α:=kh) m S R w cs (kR f)):∃aI d9 aY,cs=[aI,d9,aY,.bool (decide (f.live≠0))]/\Seen ff w [aI] f.sc/\Seen ff w [d9] f.szs/\Seen ff w [aY] f.cs:=by
 obtain⟨E,p,A,B,rfl,_,_,_,⟨q,F,aJ,G,rfl,_,_,_,h1,r,s,H,x,rfl,_,_,_,a,e⟩,j⟩:=h;have one:∀{α:Type}[aq α]{m:Bool}{S R:ah}{c:List x1}{l:List α},aq.rep m S R w c l->∃v,c=[v]:=λh=>by obtain⟨v,y,_⟩:=h;exact⟨v,y⟩
 have h1:Seen _ w q f.sc:=h1;have a:Seen _ w r f.szs:=a;have j:p=[.bool (decide (f.live≠0))]:=j;have e:aq.rep m x R w s f.cs:=e;obtain⟨z,rfl⟩:=one h1;obtain⟨C,rfl⟩:=one a;obtain⟨v3,rfl⟩:=one e;subst j;exact⟨z,C,v3,rfl,jY h1,jY a,jY e⟩
theorem RG{j:Int}(h:io w v k co s):ak x7 Lj [v,Δ j] w λr I=>r= .bool (decide (0<=j)&&eA s j.toNat)/\Ext w I:=by
 refine ay func318 ?_;refine bj λg1 J C a e=>?_;obtain⟨d9,E,G,H,K,L,e,M,_,_,_,_,y,_⟩:=h.box a e;refine aV (λv V=>v= .bool (decide (0<=j)&&eA s j.toNat)/\Ext w V) (λ_ _ h=>h) λaz q=>?_;rw[cJ,aj];refine⟨λx=>?_,λx=>q _ _ ⟨by rw[pl x];rfl,a⟩⟩;rw[aK aZ.p 6 e rfl,jf fq.u y,aP,aj,r9];refine⟨λN=>?_,λO=>q _ _ ⟨by unfold eA;rw[Y0 Ω,Bool.and_false],a⟩⟩;obtain⟨f,z⟩:=aC (l:=s.d7) (i:=j.toNat) Ω;rw[aK aZ.p 6 e rfl];refine nL (i:=j.toNat) Ω fq.u dF.i y (by rw[x8,z];rfl) λb o cs A B=>?_;obtain⟨P,Q,v3,rfl,_⟩:=oY B;rw[aT dF.p rfl,av (v:=.bool (decide (f.live≠0))) Ψ (A 3 _ rfl)];exact q _ _ ⟨by unfold eA;rw[z,ms x,W7],a⟩
end
theorem vR{S T:Nat->Prop}(h:af S w I)(k:af T w I):af (λr=>S r/\T r) w I:=
 ⟨h.size,λr o a U f=>by
  by_cases e:S r
  .exact k.a8 r o a U (by grind)
  .exact h.a8 r o a U e⟩
theorem rG{ad:Nat}{A R:ah}{n:aG}{s:al}{t:aw}(h:be w ac ad A R n s t):∀r,A r\/R r->r<w.heap.size:=λr a=>by
 obtain⟨e,f,j,p,⟨_,_,q,x⟩,_⟩:=h.1
 grind
structure cg(w:x3)(ac ad am:Nat)(A R:ah)(A9:Nat->ah)(aE:ah)(n:aG)(s u:al)(t:aw)(h:List aw)(cs:List x1):Prop where
 eW:be w ac ad A R n s t
 jK:gI t h
 box:ag w am aZ cs
 doc:ki rs A9 aE w cs n.k n.co u
 apart:∀q r,A9 q r->¬A r/\¬R r/\r≠am
 read:∀r,aE r->¬dv w r/\r<w.heap.size/\r≠am
 out:¬A am/\¬R am
section
variable{w I:x3}{ac ad am:Nat}{A R:ah}{A9:Nat->ah}{aE:ah}{n:aG}{s u:al}{t:aw}{h:List aw}{cs:List x1}
theorem cg.W(p:cg w ac ad am A R A9 aE n s u t h cs)(a:Ext w I):cg I ac ad am A R A9 aE n s u t h cs:=
 ⟨p.eW.W a,p.jK,p.box.W a,p.doc.W a,p.apart,λr e=>⟨λh=>(p.read r e).1 (oN (λo f U _=>a.a8 r o f U) h),by have:=(p.read r e).2.1;have:=a.size;omega,(p.read r e).2.2⟩,p.out⟩
theorem cg.prog{aJ R':ah}{s':al}{t':aw}{bf:List aw}(p:cg w ac ad am A R A9 aE n s u t h cs)(x:af (dv w) w I)(f:Grow A w aJ I)(C:be I ac ad aJ R' n s' t')(j:gI t' bf)(y:∀r,R' r->R r\/B<=r)(G:∀q r,A9 q r->r<w.heap.size->r<B)(H:am<B):
  cg I ac ad am aJ R' (λq r=>A9 q r/\r<w.heap.size) aE n s' u t' bf cs:=by
 have J:=p.box.lt;have z:=x.size;refine⟨C,j,p.box.aa f.1 p.out.1,cf.aa p.doc.old (vR x f.1) λr e h j=>?_,λq r h=>⟨λa=>?_,λe=>(y r e).elim (p.apart q r h.1).2.1 (by grind),(p.apart q r h.1).2.2⟩,λr e=>⟨λh=>?_,by have:=(p.read r e).2.1;omega,(p.read r e).2.2⟩,λa=>?_,λe=>(y am e).elim p.out.2 Ω⟩
 .rcases h with⟨q,h⟩|h
  .exact (p.apart q r h.1).1 j.2
  .exact (p.read r h).1 j.1
 .rcases f.2.1 r a with a|a
  .exact (p.apart q r h.1).1 a
  omega
 .exact (p.read r e).1 (oN (λo E U F=>x.a8 r o E U F) h)
 .rcases f.2.1 am a with a|a
  .exact p.out.1 a
  .omega
theorem cg.RH{S:ah}{cq:Nat->ah}{u':al}{ci:List x1}(p:cg w ac ad am A R A9 aE n s u t h cs)(f:af S w I)(x:∀r,r<w.heap.size->S r->(∃q,A9 q r)\/r=am)(B:ag I am aZ ci)(C:ki rs cq aE I ci n.k n.co u')(E:∀q r,cq q r->(∃j,A9 j r)\/(¬A r/\¬R r/\r≠am)):
  cg I ac ad am A R cq aE n s u' t h ci:=by
 have G:=p.box.lt;have z:=f.size;have H:∀q r,A9 q r->¬aE r:=by obtain⟨_,_,_,_,_,_,_,_,_,_,_,_,_,J⟩:=p.doc;grind
 refine⟨⟨p.eW.1.aa f λr e h U=>?_,p.eW.2⟩,p.jK,B,C,λq r h=>?_,λr e=>⟨λh=>(p.read r e).1 (oN (λo F U _=>f.a8 r o F U λa=>?_) h),by have:=(p.read r e).2.1;omega,(p.read r e).2.2⟩,p.out⟩
 .rcases x r e U with⟨q,a⟩|a
  .exact h.elim (p.apart q r a).1 (p.apart q r a).2.1
  .subst a;exact h.elim p.out.1 p.out.2
 .rcases E q r h with⟨j,a⟩|a
  .exact p.apart j r a
  .exact a
 .rcases x r (p.read r e).2.1 a with⟨q,y⟩|y
  .grind
  .exact (p.read r e).2.2 y
theorem cg.RI{S:ah}{cq:Nat->ah}{u':al}{ci:List x1}(p:cg w ac ad am A R A9 aE n s u t h cs)(y:∀r,A r\/R r->r<B)(z:am<B)(a:af S w I)(e:∀r,r<w.heap.size->S r->(∃q,A9 q r)\/r=am)(f:ag I am aZ ci)(j:ki rs cq aE I ci n.k n.co u')(C:∀q r,cq q r->(∃x,A9 x r)\/B<=r):
  cg I ac ad am A R cq aE n s u' t h ci:=
 p.RH a e f j (by grind)
theorem cg.Gc{S:ah}{cq:Nat->ah}{u':al}{ci:List x1}(p:cg w ac ad am A R A9 aE n s u t h cs)(a:af S w I)(e:∀r,r<w.heap.size->S r->(∃q,A9 q r)\/r=am)(f:ag I am aZ ci)(j:ki rs cq aE I ci n.k n.co u')(x:∀q r,cq q r->(∃y,A9 y r)\/w.heap.size<=r):
  cg I ac ad am A R cq aE n s u' t h ci:=p.RI (rG p.eW) p.box.lt a e f j x
theorem cg.look(p:cg w ac ad am A R A9 aE n s u t h cs):n5 w am n.k n.co u:=by
 refine io.box p.doc.F9 (Ext.refl _) ?_;have:=p.box;exact this
theorem cg.qh(p:cg w ac ad am A R A9 aE n s u t h cs):∃d9 a e f j q,cs=[Δ n.k,d9,Δ u.zero,a,e,f,j,q]/\aF .i64 w d9 n.co:=by
 obtain⟨d9,a,e,f,j,q,h1,r,_⟩:=p.doc
 grind [eC]
end
end Go.Proofs.YtkcigodpbndobaaGreatDoor
namespace Go.Vc
open Go Go.RowKit
section
variable{P:X2}{w:x3}{α:Type}[aq α]{S R:ah}
theorem vS{v:x1}{l:List α}{i:Nat}{a:α}(h:bH S R w [v] l)(C:l[i]?=σ a)(N:∀r,r<w.heap.size->S r->¬R r):∃g cap c F,v= .slice (σ ⟨g,0,ν⟩) l.length cap/\w.rangeAt g (i*aq.n α) c/\bH F R w c a/\(∀r,F r->S r)/\
  ∀{I:x3}{a':α}{T z:ah},af T w I->(∀r,r<w.heap.size->T r->F r)->bH z R I c a'->(∀r,z r->F r\/w.heap.size<=r)->bH (λr=>S r\/w.heap.size<=r) R I [v] (l.set i a'):=by
 have al:=(x4.1 C).1;obtain⟨vs,g,F,s,he,U,hm⟩:=kw h;obtain⟨O,P,E⟩:=hm rfl;obtain⟨am,⟨rfl,an⟩|⟨cap,full,rfl,Q,ao,ap,au,av⟩⟩:=id E
 .omega
 have V:vs.length=l.length:=he.1;have aw:S g:=O.resolve_left Ξ;obtain⟨c,G⟩:∃c,vs[i]?=σ c:=⟨_,x6 Ω⟩;have W:=he.2 i c a G C;refine⟨g,cap,c,F i,rfl,?_,W,λr p=>s.sub i r p,λ{I a' T z}H J X A=>?_⟩
 .obtain⟨_,ax,o',ay,az,Y,_,_,Z,_,ab⟩:=U;cases Y;cases Z Ω;intro j u ac;have aA:=ab (i*aq.n α+j) u (by rw[<-List.flatMap_id];exact rb (f:=id) (k:=aq.n α) (λx ad=>he.len x ad) G ac)
  grind
 have ae:¬T g:=λh=>s.top rfl i (J g Q.lt h);have aB:=aq.len X;have aC:vs.set i c=vs:=by
  refine j9 λq=>?_
  grind
 have aD:bW I g P (aq.n α) (.slice (σ ⟨g,0,ν⟩) l.length cap) (l.set i a').length vs.flatten:=by
  rw[U7];exact E.aa H λ_=>ae
 refine⟨_,rfl,vs,g,λj r=>if j=i then z r else F j r/\r<w.heap.size,⟨λj r p=>?_,λ_ j p=>?_,λ_ j q r ai h1 y=>?_⟩,⟨by simp[V],λj K L aj M=>?_⟩,?_,by grind⟩
 .split at p
  .exact (A r p).imp (s.sub i r) id
  .exact .inl (s.sub j r p.1)
 .split at p
  .rcases A g p with h|h
   .exact s.top rfl i h
   grind [ag.lt]
  .exact s.top rfl j p.1
 .split at h1<;>split at y
  .omega
  .rcases A r h1 with h|h
   .rename_i e _;exact s.ib rfl i q r Ω h y.1
   omega
  .rcases A r y with h|h
   .exact s.ib rfl j i r Ω h1.1 h
   omega
  .exact s.ib rfl j q r ai h1.1 y.1
 .by_cases B:j=i
  .subst B
   grind
  .rw[W5 (Ne.symm B)]at M;have ak:bH (λr=>if j=i then z r else F j r/\r<w.heap.size) R w K L:=aq.X (he.2 j K L aj M) (by grind) λ_ _ h=>h;refine aq.aa ak H λr p h1 y=>?_;have y:=J r p y;rcases h1 with h1|h1
   .simp only[m6 B]at h1;exact s.ib rfl j i r B h1.1 y
   .exact N r p (s.sub i r y) h1
 grind [qQ]
theorem Gd{v:x1}{l:List α}{i:Nat}{a:α}(h:bH S R w [v] l)(H:l[i]?=σ a)(N:∀r,r<w.heap.size->S r->¬R r):∃g cap full A c F,v= .slice (σ ⟨g,0,ν⟩) l.length cap/\ag w g A full/\S g/\i*aq.n α+aq.n α<=full.length/\(∀(q:Nat)x,c[q]?=σ x->full[i*aq.n α+q]?=σ x)/\bH F R w c a/\(∀r,F r->S r)/\¬F g/\
  ∀{I:x3}{a':α}{z:List x1}{T B:ah},af T w I->(∀r,r<w.heap.size->T r->F r\/r=g)->ag I g A (over full (i*aq.n α) z)->bH B R I z a'->(∀r,B r->F r\/w.heap.size<=r)->bH (λr=>S r\/w.heap.size<=r) R I [v] (l.set i a'):=by
 have O:=(x4.1 H).1;obtain⟨vs,g,F,s,he,U,hm⟩:=kw h;obtain⟨P,A,Q⟩:=hm rfl;obtain⟨ap,⟨rfl,au⟩|⟨cap,full,rfl,V,av,W,X,aw⟩⟩:=id Q
 .omega
 have Y:vs.length=l.length:=he.1;have Z:S g:=P.resolve_left Ξ;obtain⟨c,J⟩:∃c,vs[i]?=σ c:=⟨_,x6 Ω⟩;have ab:=he.2 i c a J H;have ac:(i+1)*aq.n α<=l.length*aq.n α:=V7 _ O;have ax:l.length*aq.n α<=full.length:=by grind
 rw[T7,Nat.one_mul]at ac;refine⟨g,cap,full,A,c,F i,rfl,V,Z,Ω,λq x ad=>?_,ab,λr y=>s.sub i r y,s.top rfl i,λ{I a' z T B}ae ai aj ak C=>?_⟩
 .have ay:=rb (f:=id) (k:=aq.n α) (λx al=>he.len x al) J ad
  grind [List.flatMap_id]
 have am:=aq.len ak;have az:∀c∈vs.set i z,c.length=aq.n α:=λc E=>by
  rcases T4 E with p|rfl
  .exact he.len c p
  .exact am
 have aA:bW I g A (aq.n α) (.slice (σ ⟨g,0,ν⟩) l.length cap) (l.set i a').length (vs.set i z).flatten:=by
  refine⟨by grind [kv,U7],.inr ⟨cap,_,by grind,aj,by grind,W,by rw[fZ,X],?_⟩⟩
  grind [yf,F6,lO.len]
 refine⟨_,rfl,vs.set i z,g,λj r=>if j=i then B r else F j r/\r<w.heap.size,⟨λj r y=>?_,λ_ j y=>?_,λ_ j q r an h1 p=>?_⟩,⟨by simp[Y],λj K L E M=>?_⟩,?_,by grind⟩
 .split at y
  .exact (C r y).imp (s.sub i r) id
  .exact .inl (s.sub j r y.1)
 .split at y
  .rcases C g y with h|h
   .exact s.top rfl i h
   grind [ag.lt]
  .exact s.top rfl j y.1
 .split at h1<;>split at p
  .omega
  .rcases C r h1 with h|h
   .rename_i e _;exact s.ib rfl i q r Ω h p.1
   omega
  .rcases C r p with h|h
   .exact s.ib rfl j i r Ω h1.1 h
   omega
  .exact s.ib rfl j q r an h1.1 p.1
 .by_cases G:j=i
  .subst G
   grind
  .rw[W5 (Ne.symm G)]at E M;have ao:bH (λr=>if j=i then B r else F j r/\r<w.heap.size) R w K L:=aq.X (he.2 j K L E M) (by grind) λ_ _ h=>h;refine aq.aa ao ae λr y h1 p=>?_;have p:=ai r y p;rcases h1 with h1|h1
   .simp only[m6 G]at h1;rcases p with p|rfl
    .exact s.ib rfl j i r G h1.1 p
    .exact s.top rfl j h1.1
   .rcases p with p|rfl
    .exact N r y (s.sub i r p) h1
    grind
 grind [qQ]
end
end Go.Vc
namespace Go.Proofs.YtkcigodpbndobaaGreatDoor
open Go Go.Vc Go.RowKit Go.Proofs Go.Proofs.Tryz
set_option maxRecDepth 100000
theorem RJ{t:aw}{i:Nat}{x:Int}:(t.set i x).marks=t.marks/\(t.set i x).cells.length=t.cells.length/\(t.set i x).olds.length<=t.olds.length+1:=by
 unfold aw.set;split
 .exact⟨rfl,rfl,Nat.le_succ _⟩
 .split
  .exact⟨rfl,Ξ,Nat.le_succ _⟩
  .split
   .exact⟨rfl,Ξ,Ξ⟩
   .exact⟨rfl,Ξ,Nat.le_succ _⟩
section
variable{w0 w:x3}{ac ad am ga:Nat}{A R:ah}{A9 cq:Nat->ah}{aE:ah}{n:aG}{s u:al}{t:aw}{h:List aw}{cs ci:List x1}{aO aI nb:x1}{Q:x1->x3->Prop}
theorem cg.olds(p:cg w0 ac ad am A R A9 aE n s u t h cs):cg w0 ac ad am A R (λq r=>A9 q r/\r<w0.heap.size) aE n s u t h cs:=
 ⟨p.eW,p.jK,p.box,p.doc.old,λq r a=>p.apart q r a.1,p.read,p.out⟩
end
theorem rH{α β:Type}{l:List α}{i:Nat}{a b:α}{f:α->β}(h:l[i]?=σ a)(j:f b=f a):(l.set i b).map f=l.map f:=by
 rw[V5,j];refine j9 λq=>?_;rw[Y8];by_cases e:i=q
 .subst e;rw[m5 rfl,x8,h,m5 (by rw[r9];exact(x4.1 h).1)];rfl
 .rw[m6 e]
theorem zs{T:Nat->Prop}(h:af T w I):af (λr=>T r/\r<w.heap.size) w I:=⟨h.size,λr o a U e=>h.a8 r o a U λf=>e ⟨f,(Z9.1 a).1⟩⟩
section
variable{w0 w I:x3}{ac ad am ga:Nat}{A R:ah}{A9:Nat->ah}{aE:ah}{n:aG}{s u u':al}{t:aw}{h:List aw}{cs:List x1}{aO aI nb v:x1}{Q:x1->x3->Prop}
theorem cf.pK{m:Bool}{zero:Int}{D:List (Λ)}{G:List Bool}{aX:List (Λ)}{H:List kh}{E:List qg}{i:Nat}(a:cs[i]?=σ v)(h:cf m A9 aE w (cs.set i v) k co zero D G aX H E):cf m A9 aE w cs k co zero D G aX H E:=by
 have:cs.set i v=cs:=by
  refine j9 λq=>?_;rw[Y8];by_cases e:i=q
  .subst e;have:=(x4.1 a).1;rw[m5 rfl,m5 this,a]
  .rw[m6 e]
 rw[this]at h;exact h
theorem cg.row{T:ah}{cq:Nat->ah}{q:Nat}(p:cg w ac ad am A R A9 aE n s u t h cs)(a:af T w I)(e:∀r,r<w.heap.size->T r->A9 q r)(f:ki rs cq aE I cs n.k n.co u')(j:∀q r,cq q r->(∃x,A9 x r)\/w.heap.size<=r):
  cg I ac ad am A R cq aE n s u' t h cs:=
 p.Gc a (λr y h=>.inl ⟨q,e r y h⟩) (p.box.aa a λh=>(p.apart q am (e am p.box.lt h)).2.2 rfl) f j
theorem zt{q:Nat}{B:ah}(a:∀r,B r->A9 q r\/w.heap.size<=r):∀j r,jO A9 q B j r->(∃e,A9 e r)\/w.heap.size<=r:=λj r h=>by
 unfold jO at h;split at h
 .exact (a r h).imp (λh=>⟨q,h⟩) id
 .exact .inl ⟨j,h⟩
end
theorem RK{x:Int}(h:aF .i64 w sv l):ak x7 w9 [sv,Δ x] w λv I=>Ext w I/\∃r:Int,v=Δ r/\(x∉l->r= -1)/\(x∈l->0<=r/\l[r.toNat]?=σ x):=by
 refine ay func91 ?_;rw[aS ai.u h];refine bT.range l.length (λi _ J=>Ext w J/\x∉l.take i) h.le ⟨Ext.refl _,Ξ⟩ ?_ ?_
 .rintro i _ J k hi ⟨a,e⟩ hk;refine bt Ω ?_;obtain⟨y,f⟩:=aC (l:=l) hi;rw[ba ai.u ae.i Ψ (h.W a) f,bi,aj];refine⟨λhe=>⟨a,i,rfl,λhm=>m7 (he▸x5 f) hm,λ_=>⟨Ω,by rw[he,u7];exact f⟩⟩,λhe=>?_⟩;rw[aL];refine hk _ _ ⟨a,λhm=>?_⟩;rw[u5,f]at hm;rcases o9.1 hm with hm|hm
  .exact e hm
  .simp at hm;exact he hm
 .rintro _ J k ⟨a,e⟩;rw[p8]at e;rw[aP,aj];exact⟨λh=>Ω,λ_=>⟨a,-1,rfl,λ_=>rfl,λh=>m7 h e⟩⟩
theorem Ge{x:Int}(h:aF .i64 w sv l):ak x7 Jj [sv,Δ x] w λv I=>v= .bool (decide (x∈l))/\Ext w I:=by
 refine ay func107 ?_;refine(RK h).X ?_;rintro _ J _ ⟨a,r,rfl,e,f⟩;rw[cJ];refine⟨?_,a⟩;congr 1;refine decide_eq_decide.2 ⟨λp=>?_,λhm=>(f hm).1⟩;exact Z2.1 λj=>by have:=e j;omega
theorem Gf{q:Nat}{cap:Array x1}{p:Int->Bool}(h:aF .i64 w sv l)(z:∀I x,Ext w I->x∈l->ak x7 q (Δ x::cap.toList) I λr A=>r= .bool (p x)/\Ext I A):
  ak x7 xj [sv,.func (.func q) #[] cap] w λv I=>Ext w I/\((v=Δ (-1)/\∀x∈l,p x=sp)\/∃i:Nat,v=Δ (i:Int)/\i<l.length/\(∀x∈l.take i,p x=sp)/\∀x,l[i]?=σ x->p x=rs):=by
 refine ay func239 ?_;rw[aS ai.u h];refine bT.range l.length (λi _ J=>Ext w J/\∀x∈l.take i,p x=sp) h.le ⟨Ext.refl _,Ξ⟩ ?_ ?_
 .rintro i _ J k hi ⟨e,f⟩ hk;refine bt Ω ?_;obtain⟨y,j⟩:=aC (l:=l) hi;rw[ba ai.u ae.i Ψ (h.W e) j];refine ak.X (z J y e (x5 j)) ?_;rintro _ V _ ⟨rfl,s⟩;rw[bM];refine⟨λB=>⟨e.F s,.inr ⟨i,rfl,hi,f,λx a=>by rw[j]at a;cases a;exact B⟩⟩,λC=>?_⟩;rw[aL];refine hk _ _ ⟨e.F s,λx a=>?_⟩;rw[u5,j]at a;rcases o9.1 a with a|a
  .exact f x a
  .simp at a;subst a;exact C
 .rintro _ J k ⟨e,f⟩;rw[p8]at f;rw[aP,aj];exact⟨λh=>Ω,λ_=>⟨e,.inl ⟨rfl,f⟩⟩⟩
theorem RL{e:Nat}{cap:Array x1}{p:Int->Bool}(h:aF .i64 w sv l)(f:∀I x,Ext w I->x∈l->ak x7 e (Δ x::cap.toList) I λr j=>r= .bool (p x)/\Ext I j):
  ak x7 ul [sv,.func (.func e) #[] cap] w λv I=>v= .bool (l.any p)/\Ext w I:=by
 refine ay func163 ?_;refine(Gf h f).X ?_;rintro _ J _ ⟨a,⟨rfl,q⟩|⟨i,rfl,hi,_,s⟩⟩
 .rw[cJ];refine⟨?_,a⟩;congr 1;rw[pl Ω,eq_comm,List.any_eq_false];exact λx a=>by rw[q x a];decide
 .rw[cJ];refine⟨?_,a⟩;congr 1;rw[ms Ω,eq_comm,List.any_eq_true];exact⟨_,T0 hi,s _ (x6 hi)⟩
theorem Gg{g S:Nat}{cap:Array x1}{p:Int->Bool}(h:an .i64 e w g sv l)(aK:l.length<=100000000)(U:∀I x,af (λr=>li sv r) w I->x∈l->ak x7 S (Δ x::cap.toList) I λr ab=>r= .bool (p x)/\Ext I ab):
  ak x7 JX [sv,.func (.func S) #[] cap] w λv I=>af (λr=>li sv r) w I/\an .i64 e I g v (l.filter λx=>!p x)/\∀r,li v r->li sv r:=by
 refine ay func166 ?_;refine(Gf h.ls λI x B=>U I x (B.aa _)).X ?_;rintro _ J _ ⟨C,⟨rfl,M⟩|⟨i,rfl,hi,M,ac⟩⟩
 .rw[bi,aj];refine⟨λ_=>⟨C.aa _,?_⟩,λh=>m7 rfl h⟩;rw[List.filter_eq_self.2 λx B=>by rw[M x B];rfl];exact⟨h.W C,λ_ h=>h⟩
 rw[bi,aj];refine⟨λh=>Ω,λ_=>?_⟩;rw[aL,lm Ω Ω];obtain⟨n,N⟩:∃n,l.length=n:=⟨_,rfl⟩;obtain⟨s,rfl⟩:∃s,sv= .slice (σ ⟨g,0,ν⟩) n s:=by
  obtain⟨_,⟨_,h1⟩|⟨s,cs,h1,_⟩⟩:=id h
  .omega
  .exact⟨s,by rw[h1,N]⟩
 obtain⟨_,_,_,_,aM,ad,_⟩:=sT h Ω;have V:∀r,r=g->li (.slice (σ ⟨g,0,ν⟩) n s) r:=λr O=>⟨_,_,_,rfl,O.symm⟩;have ag:(l.take (i+1)).filter (λx=>!p x)=l.take i:=by
  obtain⟨y,z⟩:=aC (l:=l) hi;rw[u5,z,List.filter_append,List.filter_eq_self.2 λx B=>by rw[M x B];rfl];simp[ac y z]
 refine⟨λP Q E=>∃(q j:Nat)(f:Λ),P=Δ (q:Int)/\Q=Δ (j:Int)/\q<j/\j<=n/\af (λr=>r=g) w E/\an .i64 e E g (.slice (σ ⟨g,0,ν⟩) n s) f/\f.length=n/\f.take q=(l.take j).filter (λx=>!p x)/\∀k,j<=k->f[k]?=l[k]?,
  λ_ Q _=>n-(b0 Q).toNat,⟨i,i+1,l,rfl,rfl,Ω,Ω,C.aa _,h.W C,N,ag.symm,λ_ _=>rfl⟩,?_⟩
 rintro _ _ E ⟨q,j,f,rfl,rfl,aN,aO,G,H,W,A,R⟩;have aQ:q=((l.take j).filter λx=>!p x).length:=by rw[<-A,j6];omega
 rw[iu ai.u,aP,aj];refine⟨λah=>?_,λaR=>?_⟩
 .have ah:j<n:=Ω
  obtain⟨y,z⟩:=aC (l:=l) (i:=j) Ω;have al:f[j]?=σ y:=by rw[R j (o5 _),z]
  refine aV (λP K=>∃(q:Nat)(f:Λ),P=Δ (q:Int)/\q<j+1/\af (λr=>r=g) w K/\an .i64 e K g (.slice (σ ⟨g,0,ν⟩) n s) f/\f.length=n/\f.take q=(l.take (j+1)).filter (λx=>!p x)/\∀k,j+1<=k->f[k]?=l[k]?) ?_ ?_
  .rintro _ K ⟨q,f,rfl,h1,am,ao,ap,aq,au⟩;rw[aL,lm Ω Ω];exact⟨⟨q,j+1,f,rfl,rfl,h1,Ω,am,ao,ap,aq,au⟩,by simp only[b0];omega⟩
  intro az X;rw[ba ai.u ae.i Ψ H.ls al];refine ak.X (U E y (G.X λr _=>V r) (x5 z)) ?_;rintro _ K _ ⟨rfl,L⟩;have Y:(l.take (j+1)).filter (λx=>!p x)=(l.take j).filter (λx=>!p x)++[y].filter (λx=>!p x):=by rw[u5,z,List.filter_append];rfl
  rw[bA,bM];refine⟨λav=>?_,λaw=>?_⟩
  .have Z:=H.W L;rw[gb rfl ai.u ae.i Z Ω];refine gd ae.i Z Ω λaS ax aT aA=>?_;rw[aL,lm Ω Ω];refine X _ _ ⟨q+1,_,rfl,Ω,(G.F (L.aa _)).F ax,aA,by simpa using W,?_,λk hk=>?_⟩
   .rw[Y,u5,Z5 Ω,List.take_set_of_le (o5 _),A];simp only[l7];rw[show[y].filter (λx=>!p x)=[y] by simpa using av]
   .rw[W5 Ω];exact R k Ω
  .refine X _ _ ⟨q,f,rfl,Ω,G.F (L.aa _),H.W L,W,?_,λk hk=>R k Ω⟩;rw[Y,show[y].filter (λx=>!p x)=[] by simpa using aw,V2];exact A
 .have aB:j=n:=Ω
  subst aB;rw[<-N,p8]at A;obtain⟨_,_,cs,aD,_,_,aU,aE⟩:=sT H Ω;simp only[maxLen]at ad;rw[eB ai.u ae.i lL gX dU Ω Ω Ω,m6 Ω];have aF:W3 (λx:S6=>x.add (q*1)) (σ ⟨g,0,ν⟩)=σ ⟨g,q,ν⟩:=by simp[W0]
  rw[aF];refine xB ai.u ae.i rfl rfl aD Ω Ω λaW aG aX aH=>?_;rw[eB ai.u ae.i iN mB dU Ω Ω Ω,m6 Ω];have aI:W3 (λx:S6=>x.add (0*1)) (σ ⟨g,0,ν⟩)=σ ⟨g,0,ν⟩:=by simp[W0]
  rw[aI];refine⟨(G.F aG).X λr _=>V r,?_⟩;have aY:(l.filter λx=>!p x).length=q:=by rw[<-A,j6];omega
  rw[<-A,Nat.sub_zero];refine⟨?_,λr O=>by obtain⟨a,_,_,e,aJ⟩:=O;cases e;exact⟨_,_,_,rfl,aJ⟩⟩;refine an.of (n:=q) ⟨Θ,.inr ⟨s,_,Ξ,aH,Ω,by simp only[maxLen];omega,by rw[fZ];omega,?_⟩⟩;rw[V1];apply j9;intro k;by_cases hk:k<q
  .rw[Y3 hk,kt _ _ _ Θ,m6 Ω,ints,x8,Y3 hk];have:(cs.take j)[k]?=(ints .i64 f)[k]?:=by rw[aE]
   rw[Y3 Ω,ints,x8]at this;exact this
  .rw[Y0 Θ,Y0 Θ]
def gO(s:al)(i:Int)(j:Nat):Bool:=match s.d7[j]? with
 |some f=>decide (f.live≠0)&&decide (i∈f.sc)
 |none=>sp
def cR(s:al)(i:Int)(m:Nat):Λ:=((Z4 m).filter (gO s i)).map λj:Nat=>(j:Int)
theorem tj{ad:Nat}{A R:ah}{n:aG}{s:al}{t:aw}{i:Int}(h:be w ac ad A R n s t):ak x7 Iy [Γ ac,Δ i] w λv I=>Ext w I/\∃g,an .i64 ae I g v (cR s i s.d7.length)/\∀r,li v r->w.heap.size<=r:=by
 have aD:=p4 h.2.1 h.2.2.1;have aE:s.d7.length<=100000000:=by
  have h1:=rp s;have Q:∀(L:List bF),L.length<=(L.flatMap fQ).length:=λL=>by
   induction L with
   |nil=>exact o5 _
   |cons a L aF=>rw[U3,p9,Y4];have:(fQ a).length=a.cs.length+1:=rfl;omega
  have aH:=Q s.d7;omega
 refine ay func32 ?_;refine(td h).X ?_;rintro _ J _ ⟨rfl,S⟩;refine bT.range s.d7.length (λj out V=>Ext w V/\∃g,an .i64 ae V g out (cR s i j)/\∀r,li out r->w.heap.size<=r) Ω ⟨S,0,an.nil _ _ _ _,λr E=>by obtain⟨a,n,c,U,aI⟩:=E;cases U⟩ ?_ ?_
 .rintro j out V W X ⟨q,g,hm,B⟩ Y;obtain⟨f,z⟩:=aC (l:=s.d7) X;have K:cR s i (j+1)=if gO s i j=rs then cR s i j++[(j:Int)]else cR s i j:=by
   unfold cR;rw[List.range_succ,List.filter_append];cases Z:gO s i j<;>simp[Z]
  refine bt Ω ?_;refine aV (λout x=>Ext w x/\∃g,an .i64 ae x g out (cR s i (j+1))/\∀r,li out r->w.heap.size<=r) ?_ ?_
  .rintro out x aa;rw[aL];exact Y _ _ aa
  intro az M;refine aV (λr x=>r= .bool (gO s i j)/\Ext V x) ?_ ?_
  .rintro _ x ⟨rfl,e⟩;rw[bM];refine⟨λab=>?_,λz=>M _ _ ⟨q.F e,g,by rw[K,m6 (by rw[z];decide)];exact hm.W e,B⟩⟩;refine dl ai.u ae.i rfl λv4 aJ af aK C ag=>?_;have aM:(cR s i j).length<=j:=by unfold cR;rw[r9];have:=S8 (gO s i) (Z4 j);rw[List.length_range]at this;exact this
   refine gx ai.u ae.i rfl ((hm.W e).W C) ag.ls Θ Θ λv5 am aO ao ap aq=>?_;have z3:=q.size;have au:=((q.F e).F C).then aq λr E he=>by have:=B r he;omega
   have z4:=((q.F e).F C).size;exact M _ _ ⟨au,am,by rw[K,m5 ab];exact ao,λr E=>(ap r E).elim (B r) λh=>Ω⟩
  intro aQ N;refine(p5 (h.W q)).X ?_;rintro _ x _ ⟨rfl,e⟩;rw[ms Ω,W7,u7];have ax:eA s j=decide (f.live≠0):=by unfold eA;rw[z]
  rw[ax,aj];refine⟨λG=>?_,λG=>N _ _ ⟨by unfold gO;rw[z];simp only;rw[pl G];rfl,e⟩⟩;obtain⟨aR,aS,aW,aX,aU,aY,L,aZ,aA,a1,a2,a6,O,H⟩:=(h.W (q.F e)).1.parts;obtain⟨y,P⟩:∃y,L[j]?=σ y:=⟨_,x6 (by rw[H.1];omega)⟩;obtain⟨aB,_,_⟩:=H.2 j y f P z;rw[aN bV.p 3 aA rfl,c5 rfl eQ.u cT.i O (by rw[H.1];omega),aT cT.p rfl,av Ψ (O.range P 0 _ rfl)];refine(Ge aB.ls).X ?_;rintro _ af _ ⟨rfl,C⟩;exact N _ _ ⟨by unfold gO;rw[z];simp only;rw[ms G,W7],e.F C⟩
 .rintro out V W ⟨q,g,hm,B⟩;rw[aP,aj];exact⟨λh=>Ω,λ_=>⟨q,g,hm,B⟩⟩
theorem Gh{full c:List x1}{o q:Nat}{x:x1}(f:∀(k:Nat)y,c[k]?=σ y->full[o+k]?=σ y)(h:o+c.length<=full.length)(j:q<c.length):full.set (o+q) x=over full o (c.set q x):=by
 refine j9 λk=>?_;rw[kt _ _ _ (by rw[U7];exact h),Y8,U7];by_cases h1:o<=k/\k<o+c.length
 .rw[m5 h1,Y8];by_cases a:o+q=k
  .rw[m5 a,m5 Ω,m5 Ω,m5 Ω]
  .rw[m6 a,m6 Ω];have e:k-o<c.length:=Ω
   have:=f (k-o) c[k-o] (x6 e);rw[x6 e,<-this];congr 1;omega
 .rw[m6 h1,m6 Ω]
section
variable{w0 w I:x3}{ac ad am ga:Nat}{A R:ah}{A9:Nat->ah}{aE:ah}{n:aG}{s u u':al}{t:aw}{h:List aw}{cs:List x1}{aO aI nb v:x1}{Q:x1->x3->Prop}
theorem cg.ib(p:cg w ac ad am A R A9 aE n s u t h cs):(∀i j r,i≠j->A9 i r->¬A9 j r)/\∀i r,A9 i r->¬aE r:=by
 obtain⟨_,_,_,_,_,_,_,_,_,_,_,_,_,a⟩:=p.doc;exact a rfl
theorem cg.RM{T:ah}(p:cg w ac ad am A R A9 aE n s u t h cs)(y:∀q r,A9 q r->r<w.heap.size)(z:cs[6]?=σ v)(e:af T w I)(f:∀r,r<w.heap.size->T r->A9 3 r)(C:bH (λr=>A9 3 r\/w.heap.size<=r) aE I [v] (u'.d7.map kR))(E:u'.zero=u.zero)(F:u'.d6=u.d6)(G:u'.elims=u.elims):∃cq,cg I ac ad am A R cq aE n s u' t h cs/\∀q r,cq q r->(∃H,A9 H r)\/w.heap.size<=r:=by
 have J:=cf.kQ p.doc (zs e) (λr a=>.inl (f r a.2 a.1)) C (λj r K a=>?_) (λr a=>?_)
 .have x:=zt (w:=w) (A9:=A9) (q:=3) (B:=λr=>A9 3 r\/w.heap.size<=r) λr h=>h;refine⟨_,p.row e f ?_ x,x⟩;have:=cf.pK z J;unfold ki;rw[E,F,G];exact this
 .rcases a with a|a
  .exact p.ib.1 3 j r (Ne.symm K) a
  .exact λh=>by have:=y j r h;omega
 .rcases a with a|a
  .exact p.ib.2 3 r a
  .exact λh=>by have:=(p.read r h).2.1;omega
end
theorem RN{m:Int}{w:Int}(a:0<=v)(hw:0<=w):dropped (((m.toNat ||| 2 ^ v.toNat:Nat):Int)) w=(dropped m w||decide (w=v)):=by
 unfold dropped;rw[u7,Nat.testBit_or,Nat.testBit_two_pow];congr 1;exact decide_eq_decide.2 ⟨λh=>Ω,λh=>Ω⟩
theorem zu{x:br}(a:0<=v):aM {x with mask:=((x.mask.toNat ||| 2 ^ v.toNat:Nat):Int)}=(aM x).filter λy=>!decide (y=v):=by
 unfold aM;rw[List.filter_filter];refine List.filter_congr λy e=>?_;obtain⟨q,_,rfl⟩:=o8.1 e;rw[RN a Ω];cases dropped x.mask (q:Int)<;>simp
section
variable{w0 w I:x3}{ac ad am ga:Nat}{A R:ah}{A9:Nat->ah}{aE:ah}{n:aG}{s u u':al}{t:aw}{h:List aw}{cs:List x1}{aO aI nb v:x1}{Q:x1->x3->Prop}
theorem cg.qi{T:ah}(p:cg w ac ad am A R A9 aE n s u t h cs)(z:∀q r,A9 q r->r<w.heap.size)(C:cs[3]?=σ v)(e:af T w I)(f:∀r,r<w.heap.size->T r->A9 0 r)(E:bH (λr=>A9 0 r\/w.heap.size<=r) aE I [v] (u'.d6.map aM))(F:u'.zero=u.zero)(G:u'.d6.map (·.un)=u.d6.map (·.un))(H:(u'.d6.map λx=>decide (x.gone≠0))=u.d6.map λx=>decide (x.gone≠0))(J:u'.d7=u.d7)(K:u'.elims=u.elims):
  ∃cq,cg I ac ad am A R cq aE n s u' t h cs/\∀q r,cq q r->(∃L,A9 L r)\/w.heap.size<=r:=by
 have M:=cf.Ga p.doc (zs e) (λr a=>.inl (f r a.2 a.1)) E (λj r N a=>?_) (λr a=>?_)
 .have y:=zt (w:=w) (B:=λr=>A9 0 r\/w.heap.size<=r) λr h=>h;refine⟨_,p.row e f ?_ y,y⟩;have:=cf.pK C M;unfold ki;rw[F,G,H,J,K];exact this
 .rcases a with a|a
  .exact p.ib.1 0 j r (Ne.symm N) a
  .exact λh=>by have:=z j r h;omega
 .rcases a with a|a
  .exact p.ib.2 0 r a
  .exact λh=>by have:=(p.read r h).2.1;omega
end
section
variable{w0 w I:x3}{ac ad am ga:Nat}{A R:ah}{A9:Nat->ah}{aE:ah}{n:aG}{s u u':al}{t:aw}{h:List aw}{cs:List x1}{aO aI nb v:x1}{Q:x1->x3->Prop}
theorem RO{F:ah}{c:List x1}{f:bF}(h:bH (α:=kh) F R w c (kR f))(z:∀r,F r->¬R r):∃aI d9 aY e,c=[aI,d9,aY,.bool (decide (f.live≠0))]/\bH e R w [aY] f.cs/\(∀r,e r->F r)/\
  ∀{I:x3}{ci:Λ},af e w I->bH e R I [aY] ci->bH (α:=kh) F R I c (kR {f with cs:=ci}):=by
 obtain⟨ab,ac,A,B,rfl,C,N,O,h1,p⟩:=h;obtain⟨P,ad,aJ,Q,rfl,S,E,G,H,T⟩:=h1;obtain⟨U,V,W,q,rfl,X,s,J,K,L⟩:=T;have p:=p;subst p;obtain⟨x,rfl⟩:=X3.1 (show P.length=1 from aq.len H);obtain⟨j,rfl⟩:=X3.1 (show U.length=1 from aq.len K);obtain⟨v3,rfl⟩:=X3.1 (show V.length=1 from aq.len L);have y:∀r,q r->F r:=λr h=>C r (E r (s r h));refine⟨x,j,v3,q,rfl,L,y,λ{I ci}M Y=>?_⟩;refine⟨[x,j,v3],[.bool (decide (f.live≠0))],A,B,rfl,C,N,O,⟨[x],[j,v3],aJ,Q,rfl,S,E,G,aq.aa H M λr Z a he=>?_,[j],[v3],W,q,rfl,X,s,J,aq.aa K M λr Z a he=>?_,Y⟩,rfl⟩
 .exact a.elim (λa=>G rfl r a (s r he)) (z r (y r he))
 .exact a.elim (λa=>J rfl r a he) (z r (y r he))
end
theorem RP{cs:Λ}{d9 aY bp:x1}(h1:aF .i64 w aI sc)(A:aF .i64 w d9 (aA co sc))(B:aF .i64 w aY cs)(h:ep co k (sc,cs))(K:∀z∈co,1<=z/\z<=32)(L:aF .i64 w bp a)(q:∀v∈sc,∃x,a[v.toNat]?=σ x/\0<=x/\x<co.getD v.toNat 0):
  ak x7 I2 [.agg #[aI,d9,aY],bp] w λv I=>v=Δ (bd (aA co sc) cs (ee a sc))/\Ext w I:=by
 have C:dd (aA co sc):=jl K λv q=>⟨(h.scope.1 v q).1,h.d6 v q⟩;have Y:sc.length<=6:=h.scope.2;refine ay func87 ?_;refine bj λM J Z j f=>?_;have f:ag J M a7 [aI,d9,aY]:=by
  obtain⟨_,_,_,N⟩:=cE h1;obtain⟨_,_,_,O⟩:=cE A;obtain⟨_,_,_,P⟩:=cE B;rw[N,O,P]at f ⊢;exact f
 rw[aK a7.p 0 f rfl,aS ai.u (h1.W j)];have aa:(ee a sc).length=sc.length:=by grind [ee]
 have ab:(aA co sc).length=sc.length:=by grind [aA]
 refine bT.range sc.length (λi Q V=>Ext J V/\∃m:Int,Q=Δ m/\cc ((aA co sc).take i) ((ee a sc).take i) 0=σ m) h1.le ⟨Ext.refl _,0,rfl,rfl⟩ ?_ ?_
 .rintro i _ V R hi ⟨e,m,rfl,hm⟩ S;obtain⟨v,r⟩:=aC (l:=sc) hi;obtain⟨x,U,ac,ad⟩:=q v (x5 r);have af:=h.scope.1 v (x5 r);have E:(aA co sc)[i]?=σ (co.getD v.toNat 0):=by grind [aA]
  have ah:(ee a sc)[i]?=σ x:=by grind [ee]
  have aj:=C _ (x5 E);have G:∀z∈(aA co sc).take i,1<=z/\z<=32:=by grind
  have W:=ky G hm;have al:=prod_bound (l:=(aA co sc).take i) ⟨by rw[j6];omega,G⟩;refine bt Ω ?_;rw[ba ai.u ae.i Ψ (h1.W (j.F e)) r];intro am s _ _;have H:=(j.F e).F s;have an:0<=m*co.getD v.toNat 0/\m*co.getD v.toNat 0<=1073741824*32:=⟨Int.mul_nonneg Ω Ω,Int.mul_le_mul Ω Ω Ω Ω⟩;rw[aK a7.p 1 (f.W (e.F s)) rfl,ba ai.u ae.i Ψ (A.W H) E,fO,lm Ω Ω,ew (y:=v) (i:=v.toNat) Ω ai.u ae.i Ψ (L.W H) U,aL,lm Ω Ω,aL];refine S _ _ ⟨e.F s,_,rfl,?_⟩
  grind [u5,l7,FQ]
 .rintro _ V R ⟨e,m,rfl,hm⟩;rw[o7 Ω,o7 Ω]at hm;have W:=ky C hm;have ap:cs.length=(aB (aA co sc)).toNat:=h.len;refine b6 Ω ?_;have X:cs[m.toNat]?=σ (cs.getD m.toNat 0):=by grind
  rw[aK a7.p 2 (f.W e) rfl,ew (y:=m) (i:=m.toNat) Ω au.u ao.i Ψ (B.W (j.F e)) X];refine⟨?_,j.F e⟩
  grind [bd]
theorem RQ{bp:x1}{s:al}(h:io w sv k co s)(C:a6 k co s)(aU:cw s)(S:e5 s a)(ad:aF .i64 w bp a):ak x7 IC [sv,bp] w λv I=>v=Δ (dL k s a)/\Ext w I:=by
 have bQ:=C.d6;have hk:=C.dy;refine ay func40 ?_;refine bj λg1 J bR O H=>?_;obtain⟨d9,bS,bU,bV,bW,bX,H,bY,_,aW,aX,a1,U,_⟩:=h.box O H;have W:=ad.W O;have bZ:=S.1;rw[aK aZ.p 2 H rfl,aS ai.u W];obtain⟨B,b0⟩:∃B,B=s.d6.zip a:=⟨_,rfl⟩;have b1:B.length=a.length:=by grind
 refine mn.range a.length (λi _ E V=>Ext J V/\∃e:Int,E=Δ e/\e=(B.take i).foldl (jm k) s.zero/\(0<=e/\e<=k)/\(B.take i).all dK=rs) ad.le
  ⟨Ext.refl _,s.zero,rfl,rfl,C.zero,rfl⟩ ?_ ?_
 .rintro i t4 _ V a2 hi ⟨G,e,rfl,af,ag,ah⟩ b2;obtain⟨x,K⟩:=aC (l:=s.d6) (i:=i) Ω;obtain⟨v,r⟩:=aC (l:=a) hi;obtain⟨z,P⟩:=aC (l:=co) (i:=i) Ω;obtain⟨b3,a8,_⟩:=C.var i x z K P;have b5:B[i]?=σ (x,v):=by grind
  have b7:B.take (i+1)=B.take i++[(x,v)]:=by grind [u5]
  have bb:(B.take (i+1)).foldl (jm k) s.zero=jm k e (x,v):=by grind
  have b8:(B.take (i+1)).all dK=dK (x,v):=by grind
  have bc:(s.d6.map λx=>decide (x.gone≠0))[i]?=σ (decide (x.gone≠0)):=by grind
  refine bt Ω ?_;refine jb (λ_ E am=>Ext J am/\∃e:Int,E=Δ e/\e=(B.take (i+1)).foldl (jm k) s.zero/\(0<=e/\e<=k)/\(B.take (i+1)).all dK=rs) ?_ ?_
  .rintro t4 E am be;rw[aL]
   grind
  intro az L;have X:=H.W G;rw[ba ai.u ae.i Ψ (W.W G) r,aK aZ.p 4 X rfl];refine kx (α:=Bool) rfl rfl kq.u gD.i Ψ (bN aX G) bc λbf bg=>?_;obtain rfl:bf= .bool (decide (x.gone≠0)):=(List.cons.inj bg).1;rw[aj];refine⟨λb9=>L _ _ _ ⟨G,e,rfl,?_,ag,?_⟩,λbh=>?_⟩
  .grind [jm]
  .grind [dK]
  have bi:0<=v/\v<x.un.length:=(S.2 i x v K r).resolve_left bh;rw[aK aZ.p 3 X rfl];refine kx (α:=Λ) (a:=aM x) rfl rfl dk.u ai.i Ψ (bN aW G) (by grind) λca bk=>?_;refine(rB (v:=v) (eC bk)).X ?_;rintro _ cb _ ⟨rfl,an⟩;have ap:=G.F an;have cd:=ze bi;rw[bA,bM];refine⟨λbl=>?_,λbl=>?_⟩
  .have ce:v∉aM x:=by grind
   rw[aK aZ.p 0 (X.W an) rfl];refine⟨?_,O.F ap⟩
   grind [dL,dK]
  have cf:dropped x.mask v=sp:=by grind
  intro cg bm _ _;have Y:=ap.F bm;have aw:=H.W Y;have ax:x.un[v.toNat]?=σ (x.un.getD v.toNat 0):=by grind
  have ch:=a8 _ (x5 ax);rw[aK aZ.p 5 aw rfl];refine kx (α:=Λ) (a:=x.un) rfl rfl eP.u au.i Ψ (bN a1 Y) (by grind) λci bn=>?_;rw[ew (y:=v) (i:=v.toNat) Ω au.u ao.i Ψ (eC bn) ax,aK aZ.p 0 aw rfl];refine(oI Ω Ω).X ?_;rintro _ cj _ ⟨rfl,bo⟩;refine L _ _ _ ⟨Y.F bo,_,rfl,?_,Ω,?_⟩
  all_goals grind [jm,dK]
 rintro t4 _ V a2 ⟨G,e,rfl,af,ag,ah⟩;rw[o7 Ω]at af ah;have bq:dL k s a=s.d7.foldl (il k a) e:=by
  grind [dL]
 refine b6 Ω ?_;rw[aK aZ.p 6 (H.W G) rfl,jf fq.u (bN U G),r9];have aA:=qP U;rw[r9]at aA;refine bT.range s.d7.length (λj E M=>Ext J M/\∃A:Int,E=Δ A/\A=(s.d7.take j).foldl (il k a) e/\0<=A/\A<=k) aA
  (by grind) ?_ ?_
 rotate_left
 .rintro _ M br ⟨N,A,rfl,Z,_⟩;rw[o7 Ω]at Z;rw[aP,aj];exact⟨λh=>Ω,λ_=>⟨by rw[bq,Z],O.F N⟩⟩
 rintro j _ M br ck ⟨N,A,rfl,Z,bs⟩ cl;obtain⟨f,Q⟩:=aC (l:=s.d7) (i:=j) Ω;obtain⟨R,aB,cm⟩:=C.d7 f (x5 Q);have bb:(s.d7.take (j+1)).foldl (il k a) e=il k a A f:=by
  grind [u5]
 refine bt Ω ?_;refine aV (λE aD=>Ext J aD/\∃A:Int,E=Δ A/\A=(s.d7.take (j+1)).foldl (il k a) e/\0<=A/\A<=k) ?_ ?_
 .rintro E aD be;rw[aL]
  grind
 intro az L;refine nM dF.p rfl fq.u dF.i (bN U N) (by rw[x8,Q];rfl) λcn aE=>?_;have bw:=aq.one aE;obtain⟨aI,aG,aY,rfl,bx,bz,bB⟩:=oY aE;refine bu dF.i λbD cp cq bE bF=>?_;refine b4 (vs:=[aI,aG,aY,.bool (decide (f.live≠0))]) dF.i rfl rfl bw bF λbG bH cr aH=>?_;have aJ:Ext M bG:=bE.put bH Ω;rw[aT dF.p rfl,av (v:=.bool (decide (f.live≠0))) Ψ (aH.cell (o:=0+3) rfl),aj];refine⟨λbI=>?_,λct=>L _ _ ⟨N.F aJ,A,rfl,by grind [il],bs⟩⟩;intro aN aO _ _;have aQ:=aJ.F aO;have aa:=N.F aQ;have bJ:=H.W aa;have ab:=aH.W aO;have cu:aN.rangeAt bD 0 [aI,aG,aY]:=λq v r=>by
  match q,r with
  |0,r=>cases r;exact ab.cell rfl
  |1,r=>cases r;exact ab.cell rfl
  |2,r=>cases r;exact ab.cell rfl
 rw[aT dF.p rfl,bC a7.p a7.i rfl Ω,aK aZ.p 0 bJ rfl];have ac:∀{v:x1}{l:Λ},Seen ff M [v] l->aF .i64 aN v l:=λh=>(eC h).W aQ;refine(RP (a:=a) (ac bx) (aB▸ac bz) (ac bB) R C.cF.2.2 (W.W aa) λv r=>?_).X ?_
 .have cz:=R.scope.1 v r;have cA:=R.d6 v r;obtain⟨x,K⟩:=aC (l:=s.d6) (i:=v.toNat) Ω;obtain⟨u,bK⟩:=aC (l:=a) (i:=v.toNat) Ω;obtain⟨z,P⟩:=aC (l:=co) (i:=v.toNat) Ω;have cB:=(C.var _ x z K P).1;have cC:=C.cF.2.2 z (x5 P);have bL:=aU f (x5 Q) bI v r x K;have cD:=(S.2 _ x u K bK).resolve_left λh=>h bL
  grind
 rintro _ cE _ ⟨rfl,aR⟩;refine⟨.inl aR,?_⟩;rw[<-aB];have cG:0<=bd f.szs f.cs (ee a f.sc)/\bd f.szs f.cs (ee a f.sc)<=k:=by
  unfold bd;cases hi:cc f.szs (ee a f.sc) 0 with
  |none=>grind
  |some m=>
   simp only;obtain⟨bO,cH,_⟩:=y9 C (x5 Q);have cI:=ky bO.2 hi;rw[v8,x6 Ω,R3];exact R.fP _ (T0 _)
 refine(oI Ω Ω).X ?_;rintro _ cJ _ ⟨rfl,bP⟩;refine L _ _ ⟨(aa.F aR).F bP,_,rfl,?_,Ω,Ω⟩
 grind [il]
section
variable{w:x3}{n:aG}{v:x1}{s:al}
def rI(n:aG)(s:al)(l a:Λ):Prop:=2<=l.length/\l.length=a.length/\p6 n s l/\∀(i:Nat)v z,l[i]?=σ v->a[i]?=σ z->n.co.getD v.toNat 0=z
end
structure tk(n:aG)(s:al)(e:jJ):Prop where
 has:0<=e.v/\e.v<n.co.length
 there:cG s e.v.toNat=sp
 scope:p6 n s e.sc
 out:e.v∉e.sc
 rJ:∀f∈s.d7,f.live≠0->e.v∉f.sc
 count:(e.dZ.length:Int)=aB (aA n.co e.sc)
 dZ:∀b∈e.dZ,-1<=b/\b<n.co.getD e.v.toNat 0
theorem RR{m:Λ}(a:∀x∈m,1<=x)(e:0<=aB l):aB l<=aB (l++m):=by
 induction m generalizing l with
 |nil=>simp
 |cons x m f=>
  have h1:aB l<=aB (l++[x]):=by
   rw[x2];have h:=a x (.head _);have:=Int.mul_le_mul_of_nonneg_left h e;rwa [Int.mul_one]at this
  have:=f (l:=l++[x]) (λy j=>a y (.tail _ j)) Ω;rw[Y7]at this;exact Int.le_trans h1 this
section
variable{w:x3}{n:aG}{v:x1}{s:al}
end
section
variable{w:x3}{ac ad:Nat}{A R:ah}{n:aG}{s:al}{t:aw}
theorem vT(h:p6 n s l):∀x∈l,0<=x/\x<n.co.length:=λx f=>by
 obtain⟨q,a⟩:=c8.1 f;obtain⟨v,e,j,h1,_⟩:=h q (x4.1 a).1;rw[a]at e;cases e;exact⟨j,h1⟩
theorem Gi{bK:x1}(h:be w ac ad A R n s t)(y:aF .i64 w bK l)(E:∀x∈l,0<=x)(X:l.length<=100000000):ak x7 KW [Γ ac,bK] w λr I=>Ext w I/\∃g,an .i64 ae I g r (aA n.co l)/\∀q,li r q->w.heap.size<=q:=by
 refine ay func260 ?_;rw[aS ai.u y];refine bT.range l.length (λi out V=>Ext w V/\∃g,an .i64 ae V g out (aA n.co (l.take i))/\∀q,li out q->w.heap.size<=q) y.le ⟨Ext.refl _,0,an.nil _ _ _ _,λr f=>by obtain⟨a,n,c,G,Y⟩:=f;cases G⟩ ?_ ?_
 .rintro i out V H hi ⟨e,g,hm,j⟩ J;obtain⟨x,z⟩:=aC (l:=l) hi;refine bt Ω ?_;obtain⟨Z,aa,ab,af,aU,ag,L,ah,K,M,al,am,ao,ap⟩:=(h.W e).1.parts;rw[ba ai.u ae.i Ψ (y.W e) z,aN bV.p 0 K rfl];refine(vw (i:=x) M h.2.2.2.2).X ?_;rintro _ aq _ ⟨B,rfl⟩;rw[m5 (E x (x5 z))];refine dl (k:=.i64) ai.u ae.i rfl λv4 au av aw C N=>?_;have ax:(aA n.co (l.take i)).length=i:=by unfold aA;rw[r9,j6];omega
  refine gx ai.u ae.i rfl ((hm.W B).W C) N.ls Θ Θ λv5 O P Q S U=>?_;have z3:=e.size;have W:Ext w P:=((e.F B).F C).then U λr f he=>by have:=j r he;omega
  have z4:=((e.F B).F C).size;rw[aL];refine J _ _ ⟨W,O,?_,λr f=>(S r f).elim (j r) λh=>Ω⟩;rw[show aA n.co (l.take (i+1))=aA n.co (l.take i)++[n.co.getD x.toNat 0] by unfold aA;rw[u5,z,n9];rfl];exact Q
 .rintro out V H ⟨e,g,hm,j⟩;rw[aP,aj];rw[p8]at hm;exact⟨λh=>Ω,λ_=>⟨e,g,hm,j⟩⟩
theorem zv{s:al}{i:Int}:cR s i s.d7.length=[]↔ ∀f∈s.d7,f.live≠0->i∉f.sc:=by
 unfold cR;rw[List.map_eq_nil_iff,List.filter_eq_nil_iff];constructor
 .intro h f e p hm;obtain⟨q,j⟩:=c8.1 e;refine h q (T1.2 (x4.1 j).1) ?_;unfold gO;rw[j];simp only;rw[ms p,ms hm];rfl
 .intro h q j a;unfold gO at a;cases e:s.d7[q]? with
  |none=>rw[e]at a;cases a
  |some f=>
   rw[e]at a;simp only[V8,rc]at a;exact h f (x5 e) a.1 a.2
theorem RS{bv:x1}{e:jJ}(h:be w ac ad A R n s t)(U:aF .i64 w aI e.sc)(aO:aF .i64 w bv e.dZ)(bI:e.dZ.length<=1000000)(bd:e.sc.length<=100000000):ak x7 J9 [Γ ac,.agg #[Δ e.v,aI,bv]] w λr I=>(∃b,r= .bool b/\(b=rs↔tk n s e))/\Ext w I:=by
 have aQ:=h.2.2.2.1;have bJ:=aQ.d6;refine ay func188 ?_;refine bj λg1 J bK bf aR=>?_;refine bj λbg V bL aT ao=>?_;have M:=bf.F aT;have N:ag V g1 dx [Γ ac]:=aR.W aT;have B:ag V bg b2 [Δ e.v,aI,bv]:=by
  obtain⟨_,_,_,bh⟩:=cE U;obtain⟨_,_,_,bk⟩:=cE aO;rw[bh,bk]at ao ⊢;exact ao
 have aq:=U.W M;have au:=aO.W M;have O:=h.W M;clear ao aR;refine aV (λr aW=>∃b,r= .bool b/\(b=sp↔(0<=e.v/\e.v<n.co.length)/\cG s e.v.toNat=sp/\(∀f∈s.d7,f.live≠0->e.v∉f.sc)/\p6 n s e.sc/\e.v∉e.sc)/\Ext V aW) ?_ ?_
 rotate_left
 .intro az E;rw[av (o:=0) Ψ (N.Qz rfl),aK b2.p 0 B rfl];refine(tc (i:=e.v) O).X ?_;rintro _ aX _ ⟨rfl,G⟩;rw[bA,bM];refine⟨λW=>E _ _ ⟨rs,rfl,⟨(λh=>by cases h),λap=>?_⟩,G⟩,λaw=>?_⟩
  .rw[ms ap.1]at W;cases W
  have X:0<=e.v/\e.v<n.co.length:=by simpa using aw
  rw[av (o:=0) Ψ ((N.W G).Qz rfl),aK b2.p 0 (B.W G) rfl];refine(oT (i:=e.v) (O.W G)).X ?_;rintro _ Y _ ⟨rfl,H⟩;have j:=G.F H;rw[ms X.1,W7,bM];refine⟨λa=>E _ _ ⟨rs,rfl,⟨(λh=>by cases h),λap=>?_⟩,j⟩,λax=>?_⟩
  .rw[a]at ap;cases ap.2.1
  rw[av (o:=0) Ψ ((N.W j).Qz rfl),aK b2.p 0 (B.W j) rfl];refine(tj (i:=e.v) (O.W j)).X ?_;rintro bN ah _ ⟨Z,bO,bl,_⟩;have P:=j.F Z;rw[aS ai.u bl.ls,bG,aj];refine⟨λa=>E _ _ ⟨rs,rfl,⟨(λh=>by cases h),λap=>?_⟩,P⟩,λa=>?_⟩
  .rw[zv.2 ap.2.2.1]at a;simp at a
  have bm:=zv.1 (c9 (l:=cR s e.v s.d7.length) Ω);rw[av (o:=0) Ψ ((N.W P).Qz rfl),aK b2.p 1 (B.W P) rfl];refine(FS (O.W P) (aq.W P)).X ?_;rintro _ aY _ ⟨⟨b,rfl,aZ⟩,bn⟩;have aa:=P.F bn;rw[bA,bM];refine⟨λW=>E _ _ ⟨rs,rfl,⟨(λh=>by cases h),λap=>?_⟩,aa⟩,λaw=>?_⟩
  .rw[aZ.2 ap.2.2.2.1]at W;cases W
  have ab:=aZ.1 (by simpa using aw);rw[aK b2.p 1 (B.W aa) rfl,aK b2.p 0 (B.W aa) rfl];refine(Ge (x:=e.v) (aq.W aa)).X ?_;rintro _ bo _ ⟨rfl,af⟩;exact E _ _ ⟨_,rfl,⟨λh=>⟨X,ax,bm,ab,of_decide_eq_false h⟩,λh=>pl h.2.2.2.2⟩,aa.F af⟩
 rintro _ aW ⟨b,rfl,a1,Q⟩;rw[bM];refine⟨λa2=>⟨⟨sp,rfl,⟨(λh=>by cases h),λa=>?_⟩⟩,M.F Q⟩,λbp=>?_⟩
 .rw[a1.2 ⟨a.has,a.there,a.rJ,a.scope,a.out⟩]at a2;cases a2
 obtain⟨X,ax,rJ,ab,bq⟩:=a1.1 bp;rw[av (o:=0) Ψ ((N.W Q).Qz rfl),aK b2.p 1 (B.W Q) rfl];refine(Gi (O.W Q) (aq.W Q) (λx K=>(vT ab x K).1) bd).X ?_;rintro bP aX _ ⟨G,gz,al,_⟩;obtain⟨L,S⟩:∃L,L=aA n.co e.sc:=⟨_,rfl⟩;rw[<-S]at al;have a6:=Q.F G;have bQ:L.length=e.sc.length:=by rw[S];unfold aA;rw[r9]
 have aD:∀x∈L,1<=x/\x<=32:=λx K=>by
  rw[S]at K;unfold aA at K;obtain⟨v,br,rfl⟩:=o8.1 K;obtain⟨bR,h1⟩:=vT ab v br;obtain⟨z,am⟩:=aC (l:=n.co) (i:=v.toNat) Ω;rw[v8,am];exact aQ.cF.2.2 z (x5 am)
 have bs:∀q,0<=aB (L.take q):=λq=>by
  induction q with
  |zero=>simp[aB]
  |succ q aE=>
   cases aG:L[q]? with
   |none=>
    have:=List.getElem?_eq_none_iff.1 aG;rw[o7 Ω];rw[o7 Ω]at aE;exact aE
   |some x=>
    rw[oy aG];exact Int.mul_nonneg aE (by have:=(aD x (x5 aG)).1;omega)
 have bu:∀q,aB (L.take q)<=aB L:=λq=>by
  have:=RR (l:=L.take q) (m:=L.drop q) (λx K=>(aD x (List.mem_of_mem_drop K)).1) (bs q);rwa [List.take_append_drop]at this
 rw[aS ai.u al.ls];refine mn.range L.length (λi _ bw Y=>Ext aX Y/\∃m:Int,bw=Δ m/\m=aB (L.take i)/\0<=m/\m<=1000000) al.ls.le ⟨Ext.refl _,1,rfl,rfl,Ω,Ω⟩ ?_ ?_
 .rintro i t4 _ Y bx hi ⟨H,m,rfl,hm,a7,a8⟩ bz;obtain⟨z,aH⟩:=aC (l:=L) hi;have bB:=aD z (x5 aH);have j:=a6.F H;have bS:0<=m*z/\m*z<=1000000*32:=⟨Int.mul_nonneg a7 Ω,Int.mul_le_mul a8 bB.2 Ω Ω⟩;have bC:aB (L.take (i+1))=m*z:=by rw[oy aH,hm]
  refine bt Ω ?_;rw[ba ai.u ae.i Ψ (al.ls.W H) aH,fO,lm Ω Ω,
   aK b2.p 2 (B.W j) rfl,aS ai.u (au.W j),bG,aj]
  refine⟨λbT=>⟨⟨sp,rfl,⟨(λh=>by cases h),λa=>?_⟩⟩,M.F j⟩,λbU=>?_⟩
  .have h1:=a.count;rw[<-S]at h1;have:=bu (i+1);omega
  .rw[aL];exact bz _ _ _ ⟨H,_,rfl,bC.symm,Ω,Ω⟩
 rintro t4 _ Y bx ⟨H,m,rfl,hm,a7,a8⟩;rw[p8]at hm;have j:=a6.F H;have bb:=B.W j;obtain⟨z,am⟩:=aC (l:=n.co) (i:=e.v.toNat) Ω;have aJ:n.co.getD e.v.toNat 0=z:=by rw[v8,am];rfl
 refine b6 Ω ?_;rw[jX];refine aV (λr ah=>r= .bool (decide (m=e.dZ.length/\∀b∈e.dZ,-1<=b/\b<z))/\Ext Y ah) ?_ ?_
 .rintro _ ah ⟨rfl,Z⟩;refine⟨⟨_,rfl,⟨λan=>?_,λa=>?_⟩⟩,M.F (j.F Z)⟩
  .have an:=ro an;exact⟨X,ax,ab,bq,rJ,by rw[<-S,<-hm];exact an.1.symm,λb C=>by rw[aJ];exact an.2 b C⟩
  .have h1:=a.count;rw[<-S,<-hm]at h1;exact ms ⟨h1.symm,λb C=>by have:=a.dZ b C;rwa [aJ]at this⟩
 intro az E;rw[aK b2.p 2 bb rfl,aS ai.u (au.W j),bi,aj];refine⟨λhe=>?_,λbD=>E _ _ ⟨by rw[pl λh=>bD h.1],Ext.refl _⟩⟩;rw[aK b2.p 2 bb rfl];refine(RL (p:=λb=>decide (¬(-1<=b/\b<z))) (au.W j) λI y bE bW=>?_).X ?_
 .refine ay func261 ?_;refine aV (λr aY=>r= .bool (decide (¬(-1<=y/\y<z)))/\Ext I aY) (λ_ _ h=>h) λbX bc=>?_;intro bo af _ _;have aM:=j.F (bE.F af);rw[aP,aj];refine⟨λbY=>bc _ _ ⟨by rw[ms Ω],af⟩,λbZ=>?_⟩;obtain⟨b0,b1,b3,b4,aU,b5,b7,b8,C,bF,b9,ca,cb,cc⟩:=(O.W aM).1.parts;rw[av (o:=0) Ψ ((N.W aM).Qz rfl),aN bV.p 0 C rfl,aK b2.p 0 (B.W aM) rfl];refine(vw (i:=e.v) bF h.2.2.2.2).X ?_;rintro _ cd _ ⟨bH,rfl⟩;rw[m5 X.1,aJ,cJ];refine bc _ _ ⟨?_,af.F bH⟩;congr 1;exact decide_eq_decide.2 ⟨λh=>Ω,λh=>Ω⟩
 rintro _ ah _ ⟨rfl,Z⟩;rw[bA];refine E _ _ ⟨?_,Z⟩;congr 1;rw[U5];simp only[Bool.not_eq_true',List.any_eq_false,rc,Z2];exact⟨λap=>⟨he,λb C=>ap b C⟩,λap b C=>ap.2 b C⟩
end
theorem Gj{bv:x1}{dZ:Λ}(U:aF .i64 w aI sc)(C:aF .i64 w bv dZ)(h1:sc.length<=1000000)(Q:dZ.length<=1000000):
  ak x7 Jg [.agg #[Δ v,aI,bv]] w λr I=>Ext w I/\∃E G g1 H,r= .agg #[Δ v,E,G]/\w.heap.size<=g1/\w.heap.size<=H/\an .i64 ae I g1 E sc/\an .i64 ae I H G dZ:=by
 refine ay func104 ?_;refine bj λge J ad K L=>?_;have R:ag J ge b2 [Δ v,aI,bv]:=by
  obtain⟨_,_,_,q⟩:=cE U;obtain⟨_,_,_,S⟩:=cE C;rw[q,S]at L ⊢;exact L
 refine bu b2.i λgr V af M N=>?_;intro ah s _ _;have O:=M.F s;have e:=K.F O;have x:=R.W O;rw[aK b2.p 0 x rfl,aK b2.p 1 x rfl,aK b2.p 2 x rfl];refine(jZ (U.W e) h1).X ?_;rintro y ai _ ⟨a,W,aj,f⟩;refine⟨.inl a,?_⟩;refine(jZ ((C.W e).W a) Q).X ?_;rintro z al _ ⟨h,X,am,j⟩;refine⟨.inl (a.F h),?_⟩;have z3:=e.size;have z4:=a.size;have Y:=f.W h;rw[dq (cs:=#[Δ v,y,z]) (by obtain⟨_,_,_,rfl⟩:=cE f.ls;obtain⟨_,_,_,rfl⟩:=cE j.ls;kernel_rfl)];have Z:=((N.W s).W a).W h;have ao:=M.size;have ap:=N.lt;have aq:=s.size;refine b4 (vs:=[Δ v,y,z]) b2.i rfl rfl ?_ Z λaa A au ab=>?_
 .intro u P;simp at P;rcases P with rfl|rfl|rfl
  .rfl
  .exact f.ls.cells.2
  .exact j.ls.cells.2
 rw[fA b2.p b2.i rfl ab.range];have av:=K.size;have ac:Ext w aa:=((e.F a).F h).put A Ω;refine⟨ac,y,z,W,X,rfl,Ω,Ω,bl Y A λr B he=>?_,bl j A λr B he=>?_⟩
 .have he:r=gr:=he;obtain⟨q,_⟩:=bD f B;omega
 .have he:r=gr:=he;obtain⟨q,_⟩:=bD j B;omega
def n7(s:al)(e:jJ):al:=match s.d6[e.v.toNat]? with
 |some x=>{s with elims:=s.elims++[e],d6:=s.d6.set e.v.toNat {x with gone:=1}}
 |none=>s
section
variable{w:x3}{ac ad:Nat}{A R:ah}{n:aG}{s:al}{t:aw}
theorem RT{bv:x1}{e:jJ}(h:be w ac ad A R n s t)(ab:t.olds.length+2<=100000000)(U:aF .i64 w aI e.sc)(aB:aF .i64 w bv e.dZ)(bb:e.dZ.length<=1000000)(bR:e.sc.length<=1000000)(cY:s.elims.length<=1000000):
  ak x7 I7 [Γ ac,.agg #[Δ e.v,aI,bv]] w λr I=>(¬tk n s e->r=Δ 1/\Ext w I)/\
   (tk n s e->r=Δ 0/\af (dv w) w I/\∃aJ R' x y p,Grow A w aJ I/\be I ac ad aJ R' n (n7 s e) ((t.set 2 x).set p y)/\(∀r,R r->R' r)/\∀r,R' r->R r\/w.heap.size<=r):=by
 obtain⟨_,bc,bd,G,bT⟩:=id h;refine ay func95 ?_;refine bj λge J cZ aj bf=>?_;have aC:ag J ge b2 [Δ e.v,aI,bv]:=by
  obtain⟨_,_,_,bU⟩:=cE U;obtain⟨_,_,_,bW⟩:=cE aB;rw[bU,bW]at bf ⊢;exact bf
 rw[cV dx.u];simp only[l9,aW];rw[bC b2.p b2.i rfl aC.range];refine(RS (h.W aj) (U.W aj) (aB.W aj) bb Ω).X ?_;rintro _ V _ ⟨⟨b,rfl,bg⟩,aD⟩;have bh:=aj.F aD;rw[bA,bM];refine⟨λam=>⟨λ_=>⟨by trivial,bh⟩,λbX=>?_⟩,λbY=>?_⟩
 .rw[bg.2 bX]at am;cases am
 have ao:tk n s e:=bg.1 (by simpa using bY);intro c0 aE _ _;have Q:=bh.F aE;obtain⟨aG,aH,aL,aM,bi⟩:=(h.W Q).1;obtain⟨_,_,_,_,_,c1,_,_,B,_⟩:=id bi;rw[aN bV.p 4 B rfl,bC b2.p b2.i rfl ((aC.W aD).W aE).range];refine(Gj (U.W Q) (aB.W Q) bR bb).X ?_;rintro _ c2 _ ⟨aO,aP,aQ,g1,c3,rfl,c4,c5,bk,bm⟩;refine⟨.inl aO,?_⟩;let a:p0:=⟨e.v,aP,aQ⟩;have bZ:∀u∈kc a,u.oneCell'=rs:=by
  intro u bn;simp[kc]at bn;rcases bn with rfl|rfl|rfl
  .rfl
  .exact bk.ls.cells.2
  .exact bm.ls.cells.2
 refine iS (f:=kc) (a:=a) iq.u b2.i Ω rfl rfl λv5 c6 M c7 ap b0=>?_;have W:=aO.F ap;refine⟨.inl W,?_⟩;have b1:=bi.W W;obtain⟨⟨bo,bp,c8,bq⟩,aU,b3,c9,L,E,b4,w0,B,⟨b5,b6,br⟩,⟨b7,bs,bt,H⟩,aR,⟨aS,b8⟩,N,aq⟩:=id b1;have bu:E.length=s.elims.length:=aq.1;refine jk (f:=kc) (a:=a) iq.u b2.i rfl N (by simpa using b0.sl) bZ Ω Ω λaV b9 da X ca aX=>?_;have bx:=B.aa aX λhe=>cO N B Φ he;rw[bS,aT bV.p rfl];refine bw iq.i (eK X.sl).1 (eK X.sl).2 bx Ξ λK aY db aZ=>?_;have aZ:ag K ac bV [Γ aG,Γ ad,aH,aL,aV]:=aZ;have z:af (λr=>lc aM r\/r=ac) M K:=(aX.X λr _ h=>.inl h).F (aY.X λr _ h=>.inr h);have cb:af (dv M) M K:=z.X λr _ q=>by
  rcases q with q|rfl
  .obtain⟨_,c,Y⟩:=dJ N q;exact .inl ⟨_,c,‹r=_› ▸Y,Φ⟩
  .exact .inl ⟨_,_,B,Φ⟩
 have z3:=Q.size;have z4:=aO.size;have z5:=ap.size;have dc:=z.size;have dd:=aX.size;have de:=aY.size;have au:∀r,(lc aM r\/r=ac)->A r:=λr q=>q.elim (λq=>(H r (.inr (.inr q))).1) λq=>q▸bo;have a1:∀r,(lc aM r\/r=ac)->¬R r:=λr q=>bp r (au r q);obtain⟨bz,a2⟩:(∀r,R r->r<w.heap.size)/\∀r,A r->r<w.heap.size:=by obtain⟨_,_,_,_,⟨_,_,cc,cd⟩,_⟩:=h.1;exact⟨cc,cd⟩
 have bB:=(bk.W ap);have bE:=(bm.W ap);have S:∀r,li aP r\/li aQ r->w.heap.size<=r/\r<M.heap.size:=λr q=>by
  rcases q with q|q
  .obtain⟨h1,bF⟩:=bD bB q;omega
  .obtain⟨h1,bF⟩:=bD bE q;omega
 let av:ah:=λr=>A r\/(M.heap.size<=r/\r<K.heap.size);let O:ah:=λr=>R r\/li aP r\/li aQ r;have bG:∀{v:x1}{bH:Nat}{l:Λ},an .i64 ae M bH v l->(∀r,li v r->w.heap.size<=r)->an .i64 ae K bH v l:=λhm ce=>bl hm z λr q U=>by
  have:=a2 r (au r U);have:=ce r q;omega
 have cf:eU K ac ad aG aH aL aV av O n {s with elims:=s.elims++[e]} t:=by
  refine⟨⟨.inl bo,λr q C=>?_,λr q=>?_,λr q=>q.elim (λq=>by have:=bq r q;omega) And.right⟩,aU,b3,b9,L,E++[a],b4,w0,aZ,⟨b5,s6 b6 z λr o q ab U=>a1 r U (br r o q ab),λr o q ab=>.inl (br r o q ab)⟩,⟨b7.aa z λr q U=>?_,λr q=>.inl (bs r q),bt,λr q=>?_⟩,?_,⟨aS.aa z λr q U=>?_,?_⟩,X.aa aY λr q he=>?_,?_⟩
  .rcases q with q|q
   .rcases C with C|C
    .exact bp r q C
    .have:=S r C;have:=a2 r q;omega
   .rcases C with C|C
    .have:=bz r C;omega
    .have:=S r C;omega
  .rcases q with q|q
   .have:=bz r q;omega
   .have:=S r q;omega
  .rcases U with U|rfl
   .exact (H r (.inr (.inr U))).2 q
   .exact bt q
  .rcases q with q|q|q
   .exact⟨.inl (H r (.inl q)).1,(H r (.inl q)).2⟩
   .exact⟨.inl (H r (.inr (.inl q))).1,(H r (.inr (.inl q))).2⟩
   .obtain⟨h1,bF⟩:=X.li q;rcases ca r q with h|h
    .exact⟨.inl (H r (.inr (.inr h))).1,(H r (.inr (.inr h))).2⟩
    .refine⟨.inr ⟨h,Ω⟩,λcg=>?_⟩;have:=bq r (bs r cg);omega
  .exact bl aR z λr q U=>by
    rcases U with U|rfl
    .obtain⟨rfl,c,Y⟩:=dJ N U;exact ch aR Y Φ q rfl
    .exact ch aR B Φ q rfl
  .rcases U with U|rfl
   .obtain⟨rfl,c,Y⟩:=dJ N U;exact cO aS Y Φ q
   .exact cO aS B Φ q
  .exact (lr.aa b8 z λr _ q U=>a1 r U q).X λr q=>.inl q
  .have he:r=ac:=he;subst he;exact cO X bx Φ q
  .refine⟨by rw[p9,bu];simp,λj x f ax P=>?_⟩;have P:(s.elims++[e])[j]?=σ f:=P;by_cases ci:j<s.elims.length
   .rw[W8 Ω]at ax;rw[W8 ci]at P;exact((m3.aa aq z λr _ q U=>a1 r U q).X (R':=O) λr q=>.inl q).2 j x f ax P
   .have bI:j=s.elims.length:=by have:=(x4.1 P).1;simp at this;omega
    rw[Y5 Ω,bu,bI,U1]at ax;rw[Y5 Ω,bI,U1]at P;cases ax;cases P;exact⟨rfl,⟨⟨_,bG bB λr q=>(S r (.inl q)).1⟩,λr q=>.inr (.inl q)⟩,⟨_,bG bE λr q=>(S r (.inr q)).1⟩,λr q=>.inr (.inr q)⟩
 have cj:Grow A w av K:=(Grow.W (Q.F W)).F ⟨z.X λr _ q=>au r q,λr q=>q.imp id And.left,λr q=>.inl q⟩;have ck:af (dv w) w K:=gM (Q.F W) cb;have cl:∀r,O r->R r\/w.heap.size<=r:=λr q=>q.imp id λq=>(S r q).1;have cm:∀r,av r->A r\/M.heap.size<=r:=λr q=>q.imp id And.left;have cn:∀r,R r->O r:=λr q=>.inl q
 clear_value av O
 intro df az _ _;have bJ:=cf.W az;obtain⟨_,_,_,_,_,cp,_,_,B,_,_,_,_,N,aq⟩:=id bJ;have cq:cp.length=s.elims.length+1:=by rw[aq.1];simp
 rw[aN bV.p 1 B rfl,aN bV.p 4 B rfl,eI iq.u N,cq];obtain⟨dg,cr,ct⟩:=bJ.vA;have cu:t.cells.length=s.cells.length:=by rw[<-bc];simp[aw.bP]
 have cw:2<t.cells.length:=by rw[cu,rp];omega
 refine(s5 (i:=2) (y:=2) cr rfl cw bd).X ?_;rintro _ bK _ ⟨rfl,cz,cA,cB⟩;obtain⟨cC,A9,bL,cD⟩:=ct cz bK _ cA cB;have cG:mX (t.set 2 ((s.elims.length+1:Nat):Int)):=bd.set (.inr Ω) _ _;have cH:be bK ac ad A9 O n {s with elims:=s.elims++[e]} (t.set 2 ((s.elims.length+1:Nat):Int)):=
  ⟨⟨aG,aH,aL,aV,cD⟩,by rw[aw.qU,bc];exact Qg e,cG,⟨G.dy,G.cF,G.zero,G.d6,G.var,G.d7⟩,bT⟩
 intro cI aA _ _;have a7:=cH.W aA;obtain⟨dh,di,dj,dk,dl,dm,dn,dp,bN,dq,dr,cJ,ds,dt⟩:=a7.1.parts;have du:=G.d6;obtain⟨x,Z⟩:∃x,s.d6[e.v.toNat]?=σ x:=⟨_,x6 (by have:=ao.has;omega)⟩;have cK:e.v=((e.v.toNat:Nat):Int):=by have:=ao.has;omega
 have cL:=(x4.1 Z).1;have bO:=((aC.W aD).W aE).W W;have dw:=bO.lt;have bQ:¬A ge:=λcM=>by have:=a2 ge cM;omega
 have cN:ag cI ge b2 [Δ e.v,aI,bv]:=(((bO.aa z λU=>bQ (au ge U)).W az).aa bL.1 λU=>(cm ge U).elim bQ λh=>Ω).W aA;rw[aN bV.p 1 bN rfl,aN bV.p 2 bN rfl,aK b2.p 0 cN rfl,ew (y:=e.v) (i:=e.v.toNat) cK ai.u ae.i Ψ cJ.ls (ry cL)];have a8:n7 s e={({s with elims:=s.elims++[e]}:al)with d6:=s.d6.set e.v.toNat {x with gone:=1}}:=by
  unfold n7;rw[Z]
 have dz:=tb (s:=({s with elims:=s.elims++[e]}:al)) (i:=e.v.toNat) (x:=x) Z;have ba:({s with elims:=s.elims++[e]}:al).d6[e.v.toNat]?=σ x:=Z;obtain⟨dA,cP,cQ⟩:=G.var e.v.toNat x _ Z (x6 (show e.v.toNat<n.co.length by have:=ao.has;omega));have dC:=aw.yQ t 2 ((s.elims.length+1:Nat):Int);refine(vH (p:=gL ({s with elims:=s.elims++[e]}:al) e.v.toNat+0) (s':=n7 s e) a7 (by rfl) Ω ?_ ?_ ?_ (.inr Ω)).X ?_
 .rw[a8,yL ba Ω];rfl
 .rw[a8];exact s8 ba rfl
 .rw[a8];exact a6.te (s:=({s with elims:=s.elims++[e]}:al)) a7.2.2.2.1 ba rfl cP cQ
 rintro _ cR _ ⟨rfl,cS,cT,cU,cW⟩;have cX:af (dv w) w cR:=oO ck (gM az (oO cC (gM aA cS)));exact⟨λam=>m7 ao am,λ_=>⟨rfl,cX,cT,O,_,_,_,cj.F ((Grow.W az).F (bL.F ((Grow.W aA).F cU))),cW,cn,cl⟩⟩
end
theorem vU{n:aG}{s:al}{f:Λ}:rI n s sc f↔2<=sc.length/\p6 n s sc/\f=aA n.co sc:=by
 unfold rI aA;constructor
 .rintro⟨h1,p,h,j⟩;refine⟨h1,h,j9 λi=>?_⟩;rw[x8];by_cases hi:i<sc.length
  .obtain⟨v,e⟩:=aC (l:=sc) hi;obtain⟨z,a⟩:=aC (l:=f) (i:=i) Ω;rw[e,a,Z0,j i v z e a]
  .rw[Y0 Ω,Y0 Ω];rfl
 .rintro⟨h1,h,rfl⟩;refine⟨h1,by rw[r9],h,λi v z e a=>?_⟩;rw[x8,e,Z0]at a;exact Z7 a
theorem RU{n:aG}{s:al}(h:p6 n s l):l.Pairwise (·< ·):=by
 have step:∀i x y,l[i]?=σ x->l[i+1]?=σ y->x<y:=λi x y e a=>by
  obtain⟨v,f,_,_,_,q⟩:=h (i+1) (x4.1 a).1;rw[a]at f;cases f;have:=q Ω;rwa [Nat.add_sub_cancel,v8,e]at this
 have all:∀d i x y,l[i]?=σ x->l[i+d+1]?=σ y->x<y:=λd=>by
  induction d with
  |zero=>exact step
  |succ d r=>
   intro i x y e a;obtain⟨z,p⟩:∃z,l[i+d+1]?=σ z:=⟨_,x6 (by have:=(x4.1 a).1;omega)⟩;exact Int.lt_trans (r i x z e p) (step _ z y p a)
 rw[X5];intro i j hi w A;exact all (j-i-1) i _ _ (x6 hi) (by rw[show i+(j-i-1)+1=j by omega];exact x6 w)
section
variable{w:x3}{ac ad:Nat}{A R:ah}{n:aG}{s:al}{t:aw}
theorem RV{C:x1}{cs:Λ}{g K:Nat}(h:be w ac ad A R n s t)(z:aF .i64 w aI sc)(Z:∀r,li aI r->¬A r)(y:cd w g K C szs n.k cs)(aa:¬A g/\¬A K/\∀r,li C r->¬A r)(ab:sc.length<=6)(ae:∀c∈cs,0<=c/\c<=n.k)(ag:t.cells.length+cs.length+1<=100000000)(bd:t.olds.length+cs.length+2<=100000000)(e:s.d7.length<=1000000):
  ak x7 Kb [Γ ac,aI,Γ g] w λr I=>(¬rI n s sc szs->r= .tuple #[Δ 0,Δ 1]/\Ext w I)/\
   (rI n s sc szs->r= .tuple #[Δ (s.d7.length:Int),Δ 0]/\af (dv w) w I/\∃aJ R',Grow A w aJ I/\be I ac ad aJ R' n (gN s sc szs cs) (n1 s t cs)/\(∀r,R r->R' r)/\∀r,R' r->R r\/li C r\/w.heap.size<=r):=by
 obtain⟨_,q,L,j,ah⟩:=id h;refine ay func191 ?_;rw[cV dx.u];simp only[l9,aW];refine aV (λv J=>∃b,v= .bool b/\(b=sp↔rI n s sc szs)/\Ext w J) ?_ ?_
 rotate_left
 .intro az E;rw[aS ai.u z,aP,aj];refine⟨λbf=>E _ _ ⟨rs,rfl,⟨(λh=>by cases h),λh=>by have:=h.1;omega⟩,Ext.refl _⟩,λbg=>?_⟩;refine(FS h z).X ?_;rintro _ J _ ⟨⟨b,rfl,M⟩,a⟩;rw[bA,bM];refine⟨λB=>E _ _ ⟨rs,rfl,⟨(λh=>by cases h),λh=>by rw[M.2 h.2.2.1]at B;cases B⟩,a⟩,λal=>?_⟩;have p:=M.1 (by simpa using al);rw[cV dp.u];simp only[l9,aW];refine(x9 (y.W a)).X ?_;rintro _ V _ ⟨rfl,am⟩;have N:=a.F am;refine(kM (h.W N)).X ?_;rintro _ bh _ ⟨rfl,an⟩;have O:=N.F an;rw[bz,aj];refine⟨λao=>m7 rfl ao,λ_=>?_⟩;refine(nQ (y.W O)).X ?_;rintro _ bi _ ⟨rfl,ap⟩;have P:=O.F ap;obtain⟨⟨aY,gs,_,aq,_⟩,_,au,_⟩:=id y;refine(uT (aq.ls.W P) (by have:=au.1;omega)).X ?_;rintro v5 bj _ ⟨av,bk,bl,ax⟩;have G:=P.F av;refine(Gi (h.W G) (z.W G) (λx aA=>(vT p x aA).1) Ω).X ?_;rintro bm bn _ ⟨Q,bo,aB,_⟩;refine(se (ax.ls.W Q) aB.ls).X ?_;rintro _ bp _ ⟨rfl,aC⟩;rw[bA];exact E _ _ ⟨_,rfl,⟨λh=>vU.2 ⟨Ω,p,by simpa using h⟩,λh=>by rw[ms (vU.1 h).2.2];rfl⟩,(G.F Q).F aC⟩
 rintro _ J ⟨b,rfl,S,a⟩;rw[bM];refine⟨λU=>⟨λ_=>⟨by trivial,a⟩,λp=>by rw[S.2 p]at U;cases U⟩,λaD=>?_⟩;have p:=S.1 aD;obtain⟨aE,W,H⟩:=vU.1 p;obtain⟨aG,aH,bq,aK,aL⟩:=(h.W a).1;refine(Fl aL q (z.W a) Z (y.W a) aa Ω ag Ω L.2.2 e).X ?_;rintro _ V _ ⟨rfl,aM,aJ,R',aN,aO,aQ,aR,aT⟩;obtain⟨_,⟨_,_,aU⟩,br,aX⟩:=id y;have aZ:=yS t (1::cs) (1::cs).length;have a1:=vy t (1::cs) (1::cs).length;have a2:=rr t (1::cs) (1::cs).length;simp only[Y4]at aZ a1;obtain⟨a7,a8,X⟩:=RJ (t:=lX t (1::cs)) (i:=1) (x:=((s.d7.length+1:Nat):Int));have ba:mX (n1 s t cs):=by
  refine⟨?_,?_,?_⟩
  .show (aw.set _ _ _).cells.length<=_;rw[a8];unfold lX;simp only[Y4];omega
  .show (aw.set _ _ _).olds.length<=_;unfold lX at X ⊢;simp only[Y4]at X ⊢;omega
  .show (aw.set _ _ _).marks.length<=_;rw[a7];unfold lX;rw[a2];exact L.2.2
 have Y:=vT W;have bb:a6 n.k n.co (gN s sc szs cs):=by
  refine⟨j.dy,j.cF,j.zero,j.d6,j.var,λf e=>?_⟩;have e:f∈s.d7++[(⟨sc,szs,1,cs⟩:bF)]:=e;rcases o9.1 e with e|e
  .exact j.d7 f e
  .obtain rfl:=b8.1 e;exact⟨⟨⟨λv q=>by have:=Y v q;have:=j.cF.2.1;omega,ab⟩,RU W,λv q=>(Y v q).2,by rw[<-H];exact aX,by rw[<-H];exact aU,ae⟩,H,aE⟩
 have bs:=a.size;exact⟨λB=>m7 p B,λ_=>⟨by trivial,gM a aM,aJ,R',(Grow.W a).F aO,⟨⟨aG,aH,aN,aK,aQ⟩,Fk q,ba,bb,ah⟩,aR,λr bc=>(aT r bc).imp id λh=>h.imp id λh=>Ω⟩⟩
end
theorem RW(a:∀v g I,g=w.heap.size->Ext w I->an .i64 ae I g v []->K v I):aD x7 (Z3 ai 0 #[]) w K:=
 sj (l:=[]) ai.u ae.i Ω rfl Ψ a
section
variable{w:x3}{am ga B:Nat}{n:aG}{s:al}{aO aI nb:x1}{K:x1->x3->Prop}
end
theorem cw.d6{s:al}{i:Nat}{x y:br}(h:cw s)(r:s.d6[i]?=σ x)(w:y.gone=x.gone):cw {s with d6:=s.d6.set i y}:=λf j p v q z a=>by
 have a:(s.d6.set i y)[v.toNat]?=σ z:=a;rw[Y8]at a;split at a
 .rename_i e;split at a
  .cases a;subst e;rw[w];exact h f j p v q x r
  .cases a
 .exact h f j p v q z a
theorem cw.d7{s:al}{f g:bF}(h:cw s)(q:s.d7[j]?=σ f)(U:g.sc=f.sc)(r:g.live≠0->f.live≠0):cw {s with d7:=s.d7.set j g}:=λx a e v w z p=>by
 rcases T4 a with a|rfl
 .exact h x a e v w z p
 .exact h f (x5 q) (r e) v (by grind) z p
structure iZ where
 kind:Nat
 i:Int
 pos:Int
 v:Int
 c:Int
def eF(s:al)(i v:Int):Option br:=if 0<=i then match s.d6[i.toNat]? with
 |some x=>if x.gone=0/\v∈aM x then σ x else ν
 |none=>ν else ν
def eX(s:al)(j pos v:Int):Option (bF×Int×br):=if 0<=j/\0<=pos then match s.d7[j.toNat]? with
 |some f=>if f.live≠0 then match f.sc[pos.toNat]? with
  |some u=>(eF s u v).map λx=>(f,u,x)
  |none=>ν
  else ν
 |none=>ν else ν
def n8(k:Int)(s:al)(f:bF)(pos:Nat)(v:Int):Int:=((cQ s f.sc pos v).map (bd f.szs f.cs)).foldl min k
def eg(k c most:Int):Int:=if¬(0<=c/\c<=k)then 3 else if most<c then 7 else 0
def lx(x:br):Int:=match(aM x).map λv=>x.un.getD v.toNat 0 with
 |[]=>-1
 |c::l=>l.foldl min c
def gP(s:al)(i:Nat)(v:Int):Λ->al
 |[]=>s
 |w::L=>gP (if w≠v then eD s i w.toNat else s) i v L
def cL(k:Int)(s:al)(a:iZ):al×Int:=
 if a.kind=0 then match eX s a.i a.pos a.v with
  |none=>(s,1)
  |some (f,u,x)=>if eg k a.c (n8 k s f a.pos.toNat a.v)≠0 then(s,eg k a.c (n8 k s f a.pos.toNat a.v))else(kg s a.i.toNat f a.pos.toNat u.toNat x a.v (λg=>dQ k g a.c) λg=>dR k g a.c,0)
 else if a.kind=1 then match eX s a.i a.pos a.v with
  |none=>(s,1)
  |some (f,u,x)=>if eg k a.c (x.un.getD a.v.toNat 0)≠0 then(s,eg k a.c (x.un.getD a.v.toNat 0))else(kg s a.i.toNat f a.pos.toNat u.toNat x a.v (λg=>dR k g a.c) λg=>dQ k g a.c,0)
 else if a.kind=2 then match(if 0<=a.i then s.d6[a.i.toNat]? else ν)with
  |none=>(s,1)
  |some x=>if x.gone≠0 then(s,1)else if eg k a.c (lx x)≠0 then(s,eg k a.c (lx x))else(l6 s a.i.toNat x (λg=>dQ k g a.c) λg=>dR k g a.c,0)
 else if a.kind=3 then match(if 0<=a.i then s.d6[a.i.toNat]? else ν)with
  |none=>(s,1)
  |some x=>if x.gone≠0 then(s,1)else if eg k a.c (if aM x=[]then-1 else s.zero)≠0 then(s,eg k a.c (if aM x=[]then-1 else s.zero))else(l6 s a.i.toNat x (λg=>dR k g a.c) λg=>dQ k g a.c,0)
 else if a.kind=4 then match eF s a.i a.v with
  |none=>(s,1)
  |some x=>if dR k s.zero (x.un.getD a.v.toNat 0)<k then(s,7)else(eD s a.i.toNat a.v.toNat,0)
 else match eF s a.i a.v with
  |none=>(s,1)
  |some x=>(gP s a.i.toNat a.v (aM x),0)
theorem tm:∀(l:Λ)(z c:Int),c<=l.foldl min z↔c<=z/\∀x∈l,c<=x
 :=by
 intro a;induction a<;>grind
theorem oZ(h:¬eg k c most≠0):(0<=c/\c<=k)/\c<=most:=by
 grind [eg]
theorem l8{s:al}{i:Int}{x:br}(h:eF s i v=σ x):0<=i/\s.d6[i.toNat]?=σ x/\x.gone=0/\v∈aM x:=by
 grind [eF]
theorem o0{s:al}{j pos u:Int}{f:bF}{x:br}(h:eX s j pos v=σ (f,u,x)):0<=j/\0<=pos/\s.d7[j.toNat]?=σ f/\f.live≠0/\f.sc[pos.toNat]?=σ u/\eF s u v=σ x:=by
 unfold eX at h;split at h
 .rename_i a;split at h
  .rename_i g e;split at h
   .rename_i p;split at h
    .rename_i w hw;cases q:eF s w v<;>grind
    .cases h
   .cases h
  .cases h
 .cases h
section
variable{k:Int}{co a:Λ}{s:al}
theorem o1{g:Int}(a:0<=g/\g<=k)(e:0<=c/\c<=g):0<=dQ k g c/\dQ k g c<=k:=by
 grind [dQ]
theorem o2{g:Int}(a:0<=g/\g<=k)(e:0<=c):0<=dR k g c/\dR k g c<=k:=by
 grind [dR]
theorem jp{u:Nat}{v:Nat}{x:br}(a:a6 k co s)(e:s.d6[u]?=σ x):0<=x.un.getD v 0/\x.un.getD v 0<=k:=by
 have hk:=a.dy;have f:=(x4.1 e).1;have h:=a.d6;exact zk Ω (a.var u x _ e (x6 Ω)).2.1
theorem qj{f:bF}(a:a6 k co s)(e:f∈s.d7):0<=bd f.szs f.cs t/\bd f.szs f.cs t<=k:=(pW a.dy λc h=>⟨a.dy,(a.d7 f e).1.fP c h⟩).2
theorem zw{x:br}(h:v∈aM x)(a:c<=lx x):c<=x.un.getD v.toNat 0:=by
 unfold lx at a;have hm:x.un.getD v.toNat 0∈(aM x).map λv=>x.un.getD v.toNat 0:=by grind
 grind [tm]
theorem tn{i:Nat}{v:Int}{x:br}:∀(L:Λ)(s:al),a6 k co s->s.d6[i]?=σ x->(∀w∈L,0<=w/\w<x.un.length)->a6 k co (gP s i v L)/\(cw s->cw (gP s i v L))/\
  ∀bp,e5 s a->x.gone=0->a[i]?=σ bp->dL k (gP s i v L) a=if bp∈L/\bp≠v then k else dL k s a
 |[],s,j,f,_=>⟨j,id,λbp _ _ _=>by rw[m6 Ξ];rfl⟩
 |w::L,s,j,f,A=>by
  unfold gP;by_cases hw:w≠v
  .rw[m5 hw];have B:=A w (.head _);have C:=zp j f B;have E:=(x4.1 f).1;have F:(eD s i w.toNat).d6[i]?=σ {x with mask:=((x.mask.toNat ||| 2 ^ w.toNat:Nat):Int)}:=by grind [n4]
   obtain⟨h1,r,G⟩:=tn L (eD s i w.toNat) C F (by grind);refine⟨h1,λJ=>r ?_,λbp p H I=>?_⟩
   .grind [n4,cw.d6]
   .have K:e5 (eD s i w.toNat) a:=by
     rw[n4 f];refine⟨by show a.length=(s.d6.set _ _).length;rw[U7];exact p.1,λq y b h z=>?_⟩;have h:(s.d6.set i {x with mask:=((x.mask.toNat ||| 2 ^ w.toNat:Nat):Int)})[q]?=σ y:=h;by_cases e:i=q
     .subst e;rw[Z5 E]at h;cases h;exact p.2 i x b f z
     .rw[W5 e]at h;exact p.2 q y b h z
    grind [F5]
  .rw[m6 hw];obtain⟨h1,r,G⟩:=tn L s j f (by grind);refine⟨h1,r,λbp p H I=>?_⟩
   grind
theorem cw.zero(h:cw s):cw {s with zero:=c}:=h
theorem Gl{u:Nat}{f:bF}{x:br}{tup un:Int->Int}(h:cw s)(a:s.d7[j]?=σ f)(e:s.d6[u]?=σ x):cw (kg s j f pos u x v tup un):=
 cw.d6 (cw.d7 h a rfl id) e rfl
theorem Gm{u:Nat}{x:br}{g z:Int->Int}(h:cw s)(a:s.d6[u]?=σ x):cw (l6 s u x g z):=cw.zero (cw.d6 h a rfl)
def rK(k:Int)(s:al)(m:iZ)(s':al)(e:Int)(a:Λ):Prop:=dL k s' a=if 5<=m.kind/\e=0/\a[m.i.toNat]? ≠σ m.v then k else dL k s a
theorem RX{m:iZ}(h:a6 k co s)(E:cw s):a6 k co (cL k s m).1/\cw (cL k s m).1/\∀a,e5 s a->rK k s m (cL k s m).1 (cL k s m).2 a:=by
 have hk:=h.dy;have ac:∀e:Int,e≠0->a6 k co s/\cw s/\∀a,e5 s a->rK k s m s e a:=by grind [rK]
 have low:∀{s':al}{e:Int},m.kind<5->a6 k co s'->cw s'->(∀a,e5 s a->dL k s' a=dL k s a)->a6 k co s'/\cw s'/\∀a,e5 s a->rK k s m s' e a:=by grind [rK]
 unfold cL;split
 .rename_i M;cases A:eX s m.i m.pos m.v with
  |none=>grind
  |some q=>
   obtain⟨f,u,x⟩:=q;simp only;split
   .grind
   .rename_i he;obtain⟨z,hm⟩:=oZ he;simp only;obtain⟨_,_,F,H,V,p⟩:=o0 A;obtain⟨W,j,B,N⟩:=l8 p;have G:=x5 F;have ad:∀t∈cQ s f.sc m.pos.toNat m.v,m.c<=bd f.szs f.cs t:=λt C=>((tm _ _ _).1 hm).2 _ (by grind);have O:f.sc[m.pos.toNat]?=σ ((u.toNat:Nat):Int):=by grind
    have C:∀t∈cQ s f.sc m.pos.toNat m.v,0<=dQ k (bd f.szs f.cs t) m.c/\dQ k (bd f.szs f.cs t) m.c<=k:=λt C=>o1 (qj h G) (by grind);have P:=o2 (k:=k) (jp (v:=m.v.toNat) h j) z.1;refine low Ω (by grind [FZ]) (Gl E F j) λa y=>F0 h y F H O j N (E f G H) C P λt C r I=>?_;have:=qj (t:=t) h G
    grind [vL,jp]
 split
 .rename_i _ M;cases A:eX s m.i m.pos m.v with
  |none=>grind
  |some q=>
   obtain⟨f,u,x⟩:=q;simp only;split
   .grind
   .rename_i he;obtain⟨z,hm⟩:=oZ he;simp only;obtain⟨_,_,F,H,V,p⟩:=o0 A;obtain⟨W,j,B,N⟩:=l8 p;have G:=x5 F;have O:f.sc[m.pos.toNat]?=σ ((u.toNat:Nat):Int):=by grind
    have C:∀t∈cQ s f.sc m.pos.toNat m.v,0<=dR k (bd f.szs f.cs t) m.c/\dR k (bd f.szs f.cs t) m.c<=k:=λt C=>o2 (qj h G) z.1;have P:=o1 (k:=k) (jp (v:=m.v.toNat) h j) ⟨z.1,hm⟩;refine low Ω (by grind [FZ]) (Gl E F j) λa y=>F0 h y F H O j N (E f G H) C P λt C r I=>?_;have h1:=qj (t:=t) h G;have R:=jp (v:=m.v.toNat) h j
    grind [vL]
 split
 .rename_i _ _ M;cases A:(if 0<=m.i then s.d6[m.i.toNat]? else ν)with
  |none=>grind
  |some x=>
   have j:s.d6[m.i.toNat]?=σ x:=by grind
   simp only;split
   .grind
   split
   .grind
   .rename_i B he;obtain⟨z,hm⟩:=oZ he;simp only;have X:∀v∈aM x,m.c<=x.un.getD v.toNat 0:=λv p=>zw p hm;have J:∀v∈aM x,0<=dQ k (x.un.getD v.toNat 0) m.c/\dQ k (x.un.getD v.toNat 0) m.c<=k:=λv p=>o1 (jp h j) (by grind);have K:=o2 h.zero z.1;refine low Ω (zo h j J K) (Gm E j) λa y=>F4 h y j (Z2.1 B) J K λv p r I=>?_;exact vL I ⟨X v p,(jp h j).2⟩ h.zero z.1
 split
 .rename_i _ _ _ M;cases A:(if 0<=m.i then s.d6[m.i.toNat]? else ν)with
  |none=>grind
  |some x=>
   have j:s.d6[m.i.toNat]?=σ x:=by grind
   simp only;obtain⟨S,Y⟩:∃S,S=(if aM x=[]then-1 else s.zero):=⟨_,rfl⟩;rw[<-Y];split
   .grind
   split
   .grind
   .rename_i B he;obtain⟨z,hm⟩:=oZ he;simp only;have T:m.c<=s.zero:=by
     omega
    have J:∀v∈aM x,0<=dR k (x.un.getD v.toNat 0) m.c/\dR k (x.un.getD v.toNat 0) m.c<=k:=λv p=>o2 (jp h j) z.1;have K:=o1 h.zero ⟨z.1,T⟩;refine low Ω (zo h j J K) (Gm E j) λa y=>F4 h y j (Z2.1 B) J K λv p r I=>?_;have:=vL I ⟨T,h.zero.2⟩ (jp (v:=v.toNat) h j) z.1;omega
 split
 .rename_i _ _ _ _ M;cases A:eF s m.i m.v with
  |none=>grind
  |some x=>
   obtain⟨_,j,B,p⟩:=l8 A;simp only;split
   .grind
   .rename_i he;have U:=(jN.1 p).1;simp only;refine low Ω (zp h j U) (by grind [n4,cw.d6]) λa y=>?_;have Z:=(x4.1 j).1;have aa:=y.1;obtain⟨bp,L⟩:=aC (l:=a) (i:=m.i.toNat) Ω;rw[F5 h y j B U L];split
    .rename_i e;subst e;rw[oW h];split
     .have ab:(s.d6.zip a)[m.i.toNat]?=σ (x,m.v):=U9.2 ⟨j,L⟩;have h1:=qd (qe h) (x:=cz (x,m.v)) (by rw[x8,ab];rfl);have R:=l4 _ (oV (a:=a) h)
      grind [cz,dR]
     .rfl
    .rfl
 .rename_i h1 R ae af ag;cases A:eF s m.i m.v with
  |none=>grind
  |some x=>
   obtain⟨_,j,B,p⟩:=l8 A;simp only;have Q:∀w∈aM x,0<=w/\w<x.un.length:=by grind [jN]
   refine⟨(tn (a:=[]) (aM x) s h j Q).1,(tn (a:=[]) (aM x) s h j Q).2.1 E,λa y=>?_⟩;have Z:=(x4.1 j).1;have aa:=y.1;obtain⟨bp,L⟩:=aC (l:=a) (i:=m.i.toNat) Ω;unfold rK;rw[(tn (aM x) s h j Q).2.2 bp y B L,L]
   grind [Rw]
end
theorem RY{f:Int->Int}{L:List (Λ)}{cs:Λ}(U:dd szs)(j:cs.length<=(bk szs).length)(h:∀t∈L,f (bd szs cs t)=bd szs cs t):er f L szs cs=cs:=by
 apply j9;intro i;cases a:cs[i]? with
 |none=>
  grind [rC]
 |some c=>
  obtain⟨t,e⟩:=aC (l:=bk szs) (i:=i) (by grind);rw[rD e a]
  grind [bd,kD]
section
variable{k:Int}{co:Λ}{s:al}
end
section
variable{k:Int}{co:Λ}{s:al}
theorem vV{f:bF}(a:a6 k co s)(e:f∈s.d7)(q:∀u,f.sc[pos]?=σ u->v∈dn s u)(h:t∈cQ s f.sc pos v):∃m:Nat,cc f.szs t 0=σ (m:Int):=by
 obtain⟨j,r,_⟩:=a.d7 f e;obtain⟨w,_⟩:=l5 a e;rw[zj a (λu p=>⟨(j.scope.1 u p).1,j.d6 u p⟩) q,<-r]at h
 grind [c8,kD]
end
section
variable{k:Int}{co:Λ}{s:al}
theorem RZ{m:iZ}(h:(cL k s m).2≠0):(cL k s m).1=s:=by
 grind [cL]
end
theorem R1(U:dd szs):(bk szs).Nodup:=by
 rw[List.nodup_iff_pairwise_ne,X5];intro i j hi a e he;have h1:=kD U (x6 hi)
 grind [kD]
section
variable{k:Int}{co:Λ}{s:al}
theorem Gn{f:bF}(a:a6 k co s)(e:f∈s.d7)(p:∀u,f.sc[pos]?=σ u->v∈dn s u):(cQ s f.sc pos v).Nodup:=by
 obtain⟨h,q,_⟩:=a.d7 f e;obtain⟨r,_⟩:=l5 a e;rw[zj a (λu j=>⟨(h.scope.1 u j).1,h.d6 u j⟩) p,<-q]
 grind [R1]
theorem zx{α:Type}{l:List α}{q:Nat}{a:α}(e:l.Nodup)(h:l[q]?=σ a):a∉l.take q:=λhm=>by
 grind [c8,List.getElem_inj]
theorem Gp{m q:Nat}{f:bF}{g:Int->Int}{L:List (Λ)}(a:a6 k co s)(e:s.d7[j]?=σ f)(h:L.Nodup)(p:L[q]?=σ t)(hi:cc f.szs t 0=σ (m:Int)):
  bd f.szs (er g (L.take q) f.szs f.cs) t=bd f.szs f.cs t/\kQ (dw s j f (er g (L.take q) f.szs f.cs)) j m (g (bd f.szs f.cs t))=dw s j f (er g (L.take (q+1)) f.szs f.cs):=by
 obtain⟨r,w⟩:=l5 a (x5 e);have x:=zx h p
 grind [oD,u7,bd,Rj,kQ,dw,u5,List.set_set]
end
theorem zy{of:Int->Int}{c:Int}:∀(l:Λ)(b w:Int),w≠ -1->(∀v∈l,v≠ -1)->(c<=(l.foldl (fH of) (b,w)).1↔c<=b/\∀v∈l,c<=of v)
 |[],b,w,_,_=>Ξ
 |v::l,b,w,hw,a=>by
  rw[List.foldl_cons,List.forall_mem_cons];have f:=a v (.head _);have e:=λu j=>a u (.tail _ j);unfold fH;by_cases h:of v<b
  .rw[m5 (.inr h)];show c<=(l.foldl (fH of) (of v,v)).1↔_;rw[zy l _ _ f e]
   grind
  .rw[m6 (by rintro (h1|h1)<;>contradiction)];show c<=(l.foldl (fH of) (b,w)).1↔_;rw[zy l _ _ hw e]
   grind
theorem o3{of:Int->Int}(h:∀v∈l,v≠ -1/\of v<=k):c<=(fm k l of).1↔c<=k/\∀v∈l,c<=of v:=by
 cases l<;>grind [fm,fH,zy]
section
variable{n:aG}{s:al}
end
structure e6(s s':al):Prop where
 d6:s'.d6.length=s.d6.length
 var:∀(i:Nat)x y,s.d6[i]?=σ x->s'.d6[i]?=σ y->y.gone=x.gone/\y.un.length=x.un.length
 d7:s'.d7.length=s.d7.length
 fn:∀(j:Nat)f g,s.d7[j]?=σ f->s'.d7[j]?=σ g->g.sc=f.sc/\g.szs=f.szs/\g.live=f.live/\g.cs.length=f.cs.length
 elims:s'.elims=s.elims
theorem e6.rfl{s:al}:e6 s s:=⟨Eq.refl _,by grind,Eq.refl _,by grind,Eq.refl _⟩
theorem e6.F{a b c:al}(h:e6 a b)(k:e6 b c):e6 a c:=by
 refine⟨k.d6.F h.d6,λi x z e w=>?_,k.d7.F h.d7,λj f q p A=>?_,k.elims.F h.elims⟩
 .have B:=(x4.1 e).1;have C:=h.d6;obtain⟨y,r⟩:=aC (l:=b.d6) (i:=i) Ω;have h1:=h.var i x y e r;have E:=k.var i y z r w;omega
 .have B:=(x4.1 p).1;have C:=h.d7;obtain⟨g,s⟩:=aC (l:=b.d7) (i:=j) Ω;have h1:=h.fn j f g p s;have E:=k.fn j g q s A
  grind
section
variable{k:Int}{co:Λ}{s:al}
theorem zz{i:Nat}{x y:br}(e:s.d6[i]?=σ x)(h:y.gone=x.gone)(p:y.un.length=x.un.length):e6 s {s with d6:=s.d6.set i y}:=by
 refine⟨U7,λj a b q r=>?_,rfl,λj f g h1 w=>?_,rfl⟩
 all_goals grind
theorem R2{f g:bF}(r:s.d7[j]?=σ f)(h:g.sc=f.sc/\g.szs=f.szs/\g.live=f.live/\g.cs.length=f.cs.length):e6 s {s with d7:=s.d7.set j g}:=by
 refine⟨rfl,λi a b e p=>?_,U7,λq a b e p=>?_,rfl⟩
 all_goals grind
theorem R5:e6 s {s with zero:=c}:=⟨rfl,by grind,rfl,by grind,rfl⟩
theorem zA{i:Nat}:e6 s (eD s i v.toNat):=by
 cases a:s.d6[i]? with
 |none=>unfold eD;rw[a];exact .rfl
 |some x=>rw[n4 a];grind [zz]
theorem zB{i:Nat}{v:Int}:∀(L:Λ)(s:al),e6 s (gP s i v L)
 |[],_=>.rfl
 |w::L,s=>by
  unfold gP;split
  .exact zA.F (zB L _)
  .exact zB L s
theorem R6{u:Nat}{x:br}{g z:Int->Int}(a:s.d6[u]?=σ x):e6 s (l6 s u x g z):=
 (zz (y:={x with un:=eE g x.un (aM x)}) a rfl (zn _ _)).F R5
theorem Gq{u:Nat}{f:bF}{x:br}{t un:Int->Int}(e:a6 k co s)(a:s.d7[j]?=σ f)(h:s.d6[u]?=σ x):e6 s (kg s j f pos u x v t un):=by
 obtain⟨_,p⟩:=l5 e (x5 a);have h1:e6 s (dw s j f (er t (cQ s f.sc pos v) f.szs f.cs)):=R2 a ⟨rfl,rfl,rfl,rC _ _ _ _ Ω⟩;exact h1.F (zz (y:={x with un:=x.un.set v.toNat (un (x.un.getD v.toNat 0))}) h rfl U7)
theorem R7{m:iZ}(q:a6 k co s):e6 s (cL k s m).1:=by
 by_cases he:(cL k s m).2=0
 .generalize a:cL k s m=r at he ⊢;unfold cL at a;split at a
  .split at a
   .grind
   .rename_i f u x e;obtain⟨_,_,j,_,_,h⟩:=o0 e;obtain⟨_,p,_,_⟩:=l8 h
    grind [Gq]
  split at a
  .split at a
   .grind
   .rename_i f u x e;obtain⟨_,_,j,_,_,h⟩:=o0 e;obtain⟨_,p,_,_⟩:=l8 h
    grind [Gq]
  grind [R6,zA,zB]
 .rw[RZ he];exact .rfl
end
theorem R8{g n c:Nat}(a:ag w g cP cs)(h:∀I,af (λr=>r=g) w I->(∀o vs,w.rangeAt g o vs->I.rangeAt g o vs)->K (.slice (σ ⟨g,0,ν⟩) n c) I):
  aD x7 (convert cS cS (.slice (σ ⟨g,0,ν⟩) n c)) w K:=by
 have f:∀r,(w.freeze ⟨g,cs.length,ν⟩ 1).heap[r]?=if g=r then(w.heap[r]?).map (λ| .cells c p (lo,hi)=>.cells c p (if lo == hi then(cs.length,cs.length+1)else(min lo cs.length,max hi (cs.length+1)))|o=>o)else w.heap[r]?:=λr=>by
  unfold x3.freeze;rw[m6 Φ];exact Array.getElem?_modify
 have A:(w.freeze ⟨g,cs.length,ν⟩ 1).heap.size=w.heap.size:=by
  unfold x3.freeze;rw[m6 Φ];exact Array.size_modify
 have q:w.shape? g=σ (cP,cs.length):=by
  unfold x3.shape?;unfold ag at a;rw[a];simp
 have s:(convert cS cS (.slice (σ ⟨g,0,ν⟩) n c)).run x7 w= .ok (.slice (σ ⟨g,0,ν⟩) n c) (w.freeze ⟨g,cs.length,ν⟩ 1):=by
  simp[convert,run_underlying cS.u,run_underlying cP.u,markStringish,q]
 unfold ag at a;refine .of s ⟨by unfold x3.freeze;rw[m6 Φ],.lD (by unfold x3.freeze;rw[m6 Φ]) (by unfold x3.freeze;rw[m6 Φ]),by unfold x3.freeze;rw[m6 Φ],Ω,λr o e U=>?_⟩ (h _ ⟨Ω,λr o e _ x=>?_⟩ λo vs y j v z=>?_)
 .rw[f];by_cases he:g=r
  .subst he;rw[a]at e;cases e;cases U
  .rw[m6 he];exact e
 .rw[f,m6 λhe=>x he.symm];exact e
 .have h1:=y j v z;unfold x3.cell? at h1 ⊢;rw[f,m5 rfl];rw[a]at h1 ⊢;exact h1
def zC(s0 s:al):Prop:=s.zero=s0.zero/\s.d7=s0.d7/\s.d6.length=s0.d6.length/\∀(i:Nat)x,s.d6[i]?=σ x->∃a,s0.d6[i]?=σ a/\x.un=a.un/\x.gone=0/\a.gone=0/\a.mask=0
theorem zC.new(n:aG):zC (dt n) (dt n):=⟨rfl,rfl,rfl,λi x a=>by
 refine⟨x,a,rfl,?_⟩;have a:(n.unary.map newVar)[i]?=σ x:=a;rw[x8]at a;obtain⟨u,_,rfl⟩:=Z6.1 a;exact⟨rfl,rfl,rfl⟩⟩
theorem Gr(n:aG):cw (dt n):=λf _ _ v _ x a=>by
 obtain⟨_,_,_,h,_⟩:=(zC.new n).2.2.2 _ x a;exact h
def vW(B:Nat)(w:x3)(a:x1)(cs:List x1)(f:ca):Prop:=∃ac ad A R t N A9 aE,fb N f/\a=Γ ac/\be w ac ad A R (dr f) (dt (dr f)) t/\Plain t/\(∀r,A r->B<=r)/\
 ki rs A9 aE w cs (dr f).k (dr f).co (dt (dr f))/\(∀q r,A9 q r->¬A r/\¬R r/\B<=r)/\(∀r,aE r->¬dv w r/\r<w.heap.size/\B<=r)/\∀r,R r->B<=r
def R9(w:x3)(q:Λ)(v:x1)(I:x3):Prop:=Ext w I/\∃a cs ok,v= .tuple #[a,.agg cs.toArray,.bool ok]/\(cs.length=8/\∀u∈cs,u.oneCell'=rs)/\((ok=sp/\a= .pointer ν)\/(ok=rs/\∃f,ie q=σ f/\vW w.heap.size I a cs f))/\∀f,ie q=σ f->nX f.d7<=16384->ok=rs
theorem Sa{V p:x3}{am:Nat}{x:x1}{f:ca}(y:vW B V x cs f)(a:Ext V p)(C:ag p am aZ cs)(K:V.heap.size<=am):
  ∃ac ad A R A9 aE t,x=Γ ac/\cg p ac ad am A R A9 aE (dr f) (dt (dr f)) (dt (dr f)) t [] cs/\t.marks=[]/\(∀r,A r->B<=r)/\(∀q r,A9 q r->B<=r)/\t.cells.length<=2000000/\t.olds.length=0/\(dr f).d7.length<=256/\t.kA=0/\(∀r,aE r->B<=r)/\∀r,R r->B<=r:=by
 obtain⟨ac,ad,A,R,t,N,A9,aE,s,rfl,w,e,E,F,L,G,H⟩:=y;have M:=rG w;have z:=a.size;have j:=(vB (Ej s).1 (zf s) (dr f).unary.length (dr f).d7.length);rw[yT,<-w.2.1]at j;unfold aw.bP at j;rw[r9]at j;refine⟨ac,ad,A,R,λq r=>A9 q r/\r<V.heap.size,aE,t,rfl,⟨w.W a,e.2.2.1,C,F.old.W a,by grind,λr I=>⟨λh=>(G r I).1 (oN (λo J U _=>a.a8 r o J U) h),by grind,by grind⟩,by grind,by grind⟩,e.1,E,by grind,j,by rw[e.2.1];rfl,zf s,e.2.2.2,by grind,H⟩
structure kj(a b:al):Prop where
 off:iW b=iW a
 fn:∀(j:Nat)f,a.d7[j]?=σ f->∃f',b.d7[j]?=σ f'/\f'.sc=f.sc/\f'.szs=f.szs/\e4 b j=e4 a j
 el:∃l,b.elims=a.elims++l
theorem kj.F{a b c:al}(h:kj a b)(k:kj b c):kj a c:=by
 refine⟨k.off.F h.off,λj f e=>?_,?_⟩
 .obtain⟨p,h1,q,r,s⟩:=h.fn j f e;obtain⟨f2,w,x,y,z⟩:=k.fn j p h1
  grind
 grind [kj.el]
theorem n0.tp{s s':al}(h:n0 s s'):kj s s':=
 ⟨h.1,λj f p=>by
  have q:=h.2.1;obtain⟨a,e⟩:∃a,s'.d7[j]?=σ a:=⟨_,x6 (by grind)⟩;obtain⟨f0,h1,r,w,x⟩:=h.2.2.1 j a e
  grind,[],by rw[h.2.2.2,V2]⟩
section
variable{w:x3}{ac ad:Nat}{A R:ah}{n:aG}{s Vx:al}{t jS:aw}{ap:List aw}{m:Nat}
end
theorem Sb(s:al)(f:bF):kj s {s with d7:=s.d7++[f]}:=
 ⟨rfl,λj g a=>by
  have e:=(x4.1 a).1;refine⟨g,by show(s.d7++[f])[j]?=_;rw[W8 e];exact a,rfl,rfl,?_⟩;unfold e4;show 3+(_+(((s.d7++[f]).take j).flatMap fQ).length)=_;rw[List.take_append_of_le_length Ω],[],(V2 _).symm⟩
theorem Sc{s:al}{e:jJ}{i:Nat}{x y:br}(a:s.d6[i]?=σ x)(p:y.un.length=x.un.length):kj s {s with elims:=s.elims++[e],d6:=s.d6.set i y}:=
 kj.F (b:={s with elims:=s.elims++[e]}) ⟨rfl,λj f h=>⟨f,h,rfl,rfl,rfl⟩,[e],rfl⟩ (s8 (s:={s with elims:=s.elims++[e]}) a p).tp
def rL(s:al):Prop:=∀e∈s.elims,e.sc.length<=1000/\e.dZ.length<=5000
def fS(sc t:Λ)(v:Int):Int:=t.getD (sc.idxOf v) 0
def et(szs sc:Λ)(F:(Int->Int)->Int):Λ:=(Z4 (aB szs).toNat).map λ(q:Nat)=>F (fS sc (b1 szs q))
def tq(sc:Λ)(F:(Int->Int)->Int):Prop:=∀A B:Int->Int,(∀v∈sc,A v=B v)->F A=F B
theorem tr{F:(Int->Int)->Int}:(et szs sc F).length=(aB szs).toNat:=by simp[et]
theorem Gs{F:(Int->Int)->Int}(h:∀A,0<=F A/\F A<=k):∀c∈et szs sc F,0<=c/\c<=k:=λc a=>by
 obtain⟨q,_,rfl⟩:=o8.1 a;exact h _
theorem Sd{A:Int->Int}:∀v∈sc,fS sc (sc.map A) v=A v:=λv a=>by
 have h:=List.idxOf_lt_length_iff.2 a;unfold fS;rw[v8,x8,x6 h,List.getElem_idxOf];rfl
theorem zD(e:ez sc)(j:t.length=sc.length):sc.map (fS sc t)=t:=by
 apply j9;intro i;rw[x8];by_cases h:i<sc.length
 .have h1:sc[i]?=σ sc[i]:=x6 h;have a:=pU e h1;have f:sc[i]∈sc:=T0 h;unfold ij at a;rw[m5 f]at a;rw[h1,Z0];unfold fS;rw[show sc.idxOf sc[i]=i by omega,v8,x6 (show i<t.length by omega)];rfl
 .rw[Y0 Ω,Y0 Ω];rfl
theorem vX{F:(Int->Int)->Int}{A:Int->Int}(U:dd szs)(a:tq sc F)(h:cW szs (sc.map A)):bd szs (et szs sc F) (sc.map A)=F A:=by
 unfold et;rw[ME U (f:=λt=>F (fS sc t)) h];exact a _ _ Sd
theorem qk{A:Int->Int}:cW (aA co sc) (sc.map A)↔ ∀v∈sc,0<=A v/\A v<co.getD v.toNat 0:=by
 rw[oG];refine⟨λh v a=>?_,λh=>⟨by simp[aA],λi z x e f=>?_⟩⟩
 .obtain⟨i,hi⟩:=c8.1 a;exact h.2 i _ _ (by unfold aA;rw[x8,hi];rfl) (by rw[x8,hi];rfl)
 .unfold aA at e;rw[x8,Z6]at e f;obtain⟨v,a,rfl⟩:=e;obtain⟨p,j,rfl⟩:=f;rw[a]at j;cases j;exact h v (x5 a)
def ft(a:Λ)(v:Int):Int:=a.getD v.toNat 0
theorem vY(a sc:Λ):ee a sc=sc.map (ft a):=rfl
def ip(s:al)(a:Λ):Int:=s.zero+((s.d6.zip a).map cz).sum+(s.d7.map (df a)).sum
def ma(s:al)(a:Λ):Bool:=(s.d6.zip a).all dK
section
variable{k:Int}{co a:Λ}{s:al}{n:aG}
theorem Gt(e:a6 k co s):dL k s a=if ma s a=rs then min (ip s a) k else k:=oW e
theorem Gu(e:a6 k co s):0<=ip s a:=by
 have h1:=l4 _ (qe (a:=a) e);have f:=l4 _ (oV (a:=a) e);have h:=e.zero;unfold ip;omega
def kS(s:al)(sc:Λ):Option Nat:=s.d7.findIdx? λf=>decide (f.live≠0)&&decide (f.sc=sc)
def eG(n:aG)(s:al)(sc cs:Λ):al:=match sc with
 |[]=>{s with zero:=min (s.zero+cs.getD 0 0) n.k}
 |[v]=>match s.d6[v.toNat]? with
  |some x=>dD s v.toNat x (bX n.k x.un cs)
  |none=>s
 |_=>match kS s sc with
  |some j=>match s.d7[j]? with
   |some f=>dw s j f (bX n.k f.cs cs)
   |none=>s
  |none=>gN s sc (aA n.co sc) cs
theorem Gv{k:Int}{m:Λ}{i:Nat}(h:l.length=m.length)(hi:i<l.length):(bX k l m).getD i 0=min (l.getD i 0+m.getD i 0) k:=by
 unfold bX
 grind
theorem Gw{t x y k:Int}(a:y=min (x+c) k)(e:0<=t-x):min (t-x+y) k=min (t+c) k:=Ω
theorem Gx{s:al}(h:kS s sc=σ j):∃f,s.d7[j]?=σ f/\f.live≠0/\f.sc=sc:=by
 obtain⟨a,h1,_⟩:=List.findIdx?_eq_some_iff_getElem.1 h;have h1:(decide (s.d7[j].live≠0)&&decide (s.d7[j].sc=sc))=rs:=h1;exact⟨_,x6 a,by simpa using h1⟩
theorem Se{k:Int}{m:Λ}(U:dd szs)(f:l.length=(aB szs).toNat)(hm:m.length=(aB szs).toNat)(e:cW szs t):bd szs (bX k l m) t=min (bd szs l t+bd szs m t) k:=by
 obtain⟨q,a⟩:=e;have h:=ky U a;unfold bd;rw[a];exact Gv Ω Ω
theorem Gy{cs:Λ}(h:a6 n.k n.co s)(Q:ep n.co n.k (sc,cs))(N:e5 s a)(E:∀v∈sc,cG s v.toNat=sp):
  a6 n.k n.co (eG n s sc cs)/\ma (eG n s sc cs) a=ma s a/\min (ip (eG n s sc cs) a) n.k=min (ip s a+bd (aA n.co sc) cs (ee a sc)) n.k:=by
 have hk:=h.dy;have am:=h.d6;have an:=h.zero;have h1:=l4 _ (qe (a:=a) h);have ao:=l4 _ (oV (a:=a) h);obtain⟨w,I,A,C,J,O⟩:=Q;have F:0<=bd (aA n.co sc) cs (ee a sc)/\bd (aA n.co sc) cs (ee a sc)<=n.k:=(pW h.dy λc Q=>⟨h.dy,O c Q⟩).2;have q:dd (aA n.co sc):=jl h.cF.2.2 λv G=>⟨(w.1 v G).1,A v G⟩;have K:cW (aA n.co sc) (ee a sc):=by
  rw[vY,qk];intro v G;have ag:=(w.1 v G).1;have ah:=A v G;obtain⟨x,p⟩:=aC (l:=s.d6) (i:=v.toNat) Ω;obtain⟨z,q⟩:=aC (l:=n.co) (i:=v.toNat) Ω;obtain⟨y,B⟩:=aC (l:=a) (i:=v.toNat) (by have:=N.1;omega);have ai:=E v G;have aj:=N.2 _ x y p B;have R:=(h.var _ x z p q).1;have ak:=h.cF.2.2 z (x5 q);have S:x.gone=0:=by simpa[cG,p]using ai
  have H:ft a v=y:=by unfold ft;rw[v8,B];rfl
  have T:n.co.getD v.toNat 0=z:=by rw[v8,q];rfl
  rw[H,T];omega
 match sc,w,I,A,C,J,F,q,K,E with
 |[],w,I,A,C,J,F,q,K,E=>
  have e:bd (aA n.co []) cs (ee a [])=cs.getD 0 0:=rfl;rw[e]at F ⊢;refine⟨⟨h.dy,h.cF,⟨by show 0<=min _ _;omega,by show min _ _<=_;omega⟩,h.d6,h.var,h.d7⟩,rfl,?_⟩;show min (min (s.zero+cs.getD 0 0) n.k+((s.d6.zip a).map cz).sum+(s.d7.map (df a)).sum) n.k=min (s.zero+((s.d6.zip a).map cz).sum+(s.d7.map (df a)).sum+cs.getD 0 0) n.k;omega
 |[v],w,I,A,C,J,F,q,K,E=>
  have ag:=(w.1 v (.head _)).1;have ah:=A v (.head _);obtain⟨x,p⟩:=aC (l:=s.d6) (i:=v.toNat) Ω;obtain⟨z,U⟩:=aC (l:=n.co) (i:=v.toNat) Ω;obtain⟨y,B⟩:=aC (l:=a) (i:=v.toNat) (by have:=N.1;omega);have R:=h.var _ x z p U;have ak:=h.cF.2.2 z (x5 U);have S:x.gone=0:=by simpa[cG,p]using E v (.head _)
  have aj:=N.2 _ x y p B;have T:n.co.getD v.toNat 0=z:=by rw[v8,U];rfl
  have V:aA n.co [v]=[z]:=by rw[<-T];rfl
  have Y:ee a [v]=[y]:=by
   show[a.getD v.toNat 0]=[y];rw[v8,B];rfl
  have Z:bd [z] cs [y]=cs.getD y.toNat 0:=by
   have:0<=y/\y<z:=Ω
   unfold bd cc;rw[m5 this];unfold cc;simp
  have L:cs.length=x.un.length:=by rw[C,V,R.1];simp[aB]
  have el:eG n s [v] cs=dD s v.toNat x (bX n.k x.un cs):=by
   unfold eG;simp only[p]
  rw[el,V,Y,Z];rw[V,Y,Z]at F;have W:(bX n.k x.un cs).length=x.un.length:=by simp[bX,L]
  have aa:(s.d6.zip a)[v.toNat]?=σ (x,y):=U9.2 ⟨p,B⟩;refine⟨vM h p W (yt Ω R.2.1 O),?_,?_⟩
  .show ((s.d6.set v.toNat {x with un:=bX n.k x.un cs}).zip a).all dK=_;rw[qf B];exact rF aa rfl
  .show min (s.zero+(((s.d6.set v.toNat {x with un:=bX n.k x.un cs}).zip a).map cz).sum+(s.d7.map (df a)).sum) n.k=_;have M:((s.d6.zip a).map cz)[v.toNat]?=σ (cz (x,y)):=by rw[x8,aa];rfl
   rw[qf B,V5,qc M];have al:=qd (qe (a:=a) h) M;have X:cz ({x with un:=bX n.k x.un cs},y)=min (cz (x,y)+cs.getD y.toNat 0) n.k:=by
    unfold cz;rw[m6 (by simpa using S),m6 (by simpa using S)];exact Gv L.symm Ω
   have:=Gw (t:=ip s a) X (by unfold ip;omega);unfold ip at this ⊢;omega
 |u::v::sc,w,I,A,C,J,F,q,K,E=>
  cases r:kS s (u::v::sc)with
  |some j=>
   obtain⟨f,P,ab,ac⟩:=Gx r;obtain⟨ad,ae,ap⟩:=h.d7 f (x5 P);have el:eG n s (u::v::sc) cs=dw s j f (bX n.k f.cs cs):=by
    unfold eG;simp only[r,P]
   rw[el];have H:f.szs=aA n.co (u::v::sc):=by rw[ae,ac]
   have L:f.cs.length=(aB f.szs).toNat:=by rw[ae];exact ad.len
   have af:cs.length=(aB f.szs).toNat:=by rw[H];exact C
   have W:(bX n.k f.cs cs).length=f.cs.length:=by simp[bX,L,af]
   refine⟨zl h P W (yt Ω ad.fP O),rfl,?_⟩;show min (s.zero+((s.d6.zip a).map cz).sum+((s.d7.set j {f with cs:=bX n.k f.cs cs}).map (df a)).sum) n.k=_;have M:(s.d7.map (df a))[j]?=σ (df a f):=by rw[x8,P];rfl
   rw[V5,qc M];have al:=qd (oV (a:=a) h) M;have X:df a {f with cs:=bX n.k f.cs cs}=min (df a f+bd (aA n.co (u::v::sc)) cs (ee a (u::v::sc))) n.k:=by
    unfold df;rw[m5 ab,m5 ab,<-H,ac];exact Se (by rw[H];exact q) L af (by rw[H];exact K)
   have:=Gw (t:=ip s a) X (by unfold ip;omega);unfold ip at this ⊢;omega
  |none=>
   have el:eG n s (u::v::sc) cs=gN s (u::v::sc) (aA n.co (u::v::sc)) cs:=by
    unfold eG;simp only[r]
   rw[el];refine⟨⟨h.dy,h.cF,h.zero,h.d6,h.var,λf r=>?_⟩,rfl,?_⟩
   .rcases o9.1 r with r|r
    .exact h.d7 f r
    .cases b8.1 r;exact⟨⟨w,I,A,C,J,O⟩,rfl,Ξ⟩
   .show min (s.zero+((s.d6.zip a).map cz).sum+((s.d7++[_]).map (df a)).sum) n.k=_;rw[n9,List.sum_append,List.map_singleton,List.sum_singleton];unfold ip df;rw[m5 (show(1:Int)≠0 by decide)];show min (_+(_+bd (aA n.co (u::v::sc)) cs (ee a (u::v::sc)))) n.k=_;omega
end
def gQ(f:bF)(A:Int->Int):Int:=bd f.szs f.cs (f.sc.map A)
def bs(s:al)(i:Int):List bF:=s.d7.filter λf=>decide (f.live≠0)&&decide (i∈f.sc)
def a1(co:Λ)(s:al)(i:Int):Λ:=((Z4 co.length).map λv:Nat=>(v:Int)).filter λv=>decide (v≠i)&&(bs s i).any λf=>decide (v∈f.sc)
def dS(k:Int)(un:Λ)(i:Int)(L:List bF)(A:Int->Int):Int:=L.foldl (λc f=>min (c+gQ f A) k) (un.getD (A i).toNat 0)
def fT(A:Int->Int)(i v u:Int):Int:=if u=i then v else A u
def fo(k:Int)(s:al)(i:Int)(x:br)(A:Int->Int):Int×Int:=fm k (aM x) λv=>dS k x.un i (bs s i) (fT A i v)
def iH(s:al)(i:Int):al:={s with d7:=s.d7.map λf=>if f.live≠0/\i∈f.sc then{f with live:=0}else f}
def gA(n:aG)(s:al)(i:Int)(x:br):jJ:=⟨i,a1 n.co s i,et (aA n.co (a1 n.co s i)) (a1 n.co s i) λA=>(fo n.k s i x A).2⟩
def ts(n:aG)(s:al)(i:Int)(x:br):Λ:=et (aA n.co (a1 n.co s i)) (a1 n.co s i) λA=>(fo n.k s i x A).1
def gR(n:aG)(s:al)(i:Int)(x:br):al:=eG n (n7 (iH s i) (gA n s i x)) (a1 n.co s i) (ts n s i x)
theorem Gz{of:Int->Int}(h:∀v∈l,v≠ -1)(s:l≠[]):(fm k l of).2∈l/\of (fm k l of).2=(fm k l of).1:=by
 have w:∀(l:Λ)(p:Int×Int),p.2≠ -1->of p.2=p.1->(∀v∈l,v≠ -1)->((l.foldl (fH of) p).2=p.2\/(l.foldl (fH of) p).2∈l)/\of (l.foldl (fH of) p).2=(l.foldl (fH of) p).1:=by
  intro l;induction l with
  |nil=>intro p _ h _;exact⟨.inl rfl,h⟩
  |cons v l q=>
   intro p x y j;rw[List.foldl_cons];have z:=j v (.head _);by_cases r:p.2= -1\/of v<p.1
   .have e:fH of p v=(of v,v):=m5 r;rw[e];obtain⟨h1,a⟩:=q (of v,v) z rfl λu f=>j u (.tail _ f);exact⟨.inr (h1.elim (λh=>h▸ .head _) (.tail _)),a⟩
   .have e:fH of p v=p:=m6 r;rw[e];obtain⟨h1,a⟩:=q p x y λu f=>j u (.tail _ f);exact⟨h1.imp id (.tail _),a⟩
 cases l with
 |nil=>exact m7 rfl s
 |cons v l=>
  have e:fm k (v::l) of=l.foldl (fH of) (of v,v):=by
   unfold fm;rw[List.foldl_cons];exact congrArg (λp=>List.foldl (fH of) p l) (m5 (.inl rfl))
  rw[e];obtain⟨h1,a⟩:=w l (of v,v) (h v (.head _)) rfl λu f=>h u (.tail _ f);exact⟨h1.elim (λh=>h▸ .head _) (.tail _),a⟩
theorem zE{f g:Int->Int}(h:∀v∈l,f v=g v):fm k l f=fm k l g:=by
 unfold fm;generalize (k,(-1:Int))=p;induction l generalizing p with
 |nil=>rfl
 |cons v l a=>
  rw[List.foldl_cons,List.foldl_cons,a λu e=>h u (.tail _ e)];unfold fH;rw[h v (.head _)]
theorem Sf{r:Int}{f:Int->Int}(p:0<=r)(h:∀v∈l,v≠ -1/\f v<=k):min (r+(fm k l f).1) k=(fm k l λv=>min (r+f v) k).1:=by
 have e:∀v∈l,v≠ -1/\min (r+f v) k<=k:=λv a=>⟨(h v a).1,Ω⟩;apply Int.le_antisymm
 .rw[o3 e];refine⟨Ω,λv a=>?_⟩;have:=((o3 h).1 (Int.le_refl _)).2 v a;omega
 .obtain⟨q,j⟩:=(o3 e).1 (Int.le_refl _);have:(fm k l λv=>min (r+f v) k).1-r<=(fm k l f).1:=(o3 h).2 ⟨Ω,λv a=>by have:=j v a;omega⟩;omega
theorem Sg{f:Int->Int}(h:∀v∈l,v≠ -1/\f v=k):(fm k l f).1=k:=by
 have h1:∀v∈l,v≠ -1/\f v<=k:=λv a=>⟨(h v a).1,by have:=(h v a).2;omega⟩;have e:=(o3 h1).1 (Int.le_refl _);have j:=(o3 (c:=k) h1).2 ⟨Int.le_refl _,λv a=>by have:=(h v a).2;omega⟩;omega
theorem jP{s:al}{i:Int}{f:bF}:f∈bs s i↔f∈s.d7/\f.live≠0/\i∈f.sc:=by
 unfold bs;rw[T2];simp
theorem fU{s:al}{i:Int}:v∈a1 co s i↔(0<=v/\v<co.length)/\v≠i/\∃f∈s.d7,f.live≠0/\i∈f.sc/\v∈f.sc:=by
 unfold a1;rw[T2,o8,V8,List.any_eq_true,rc];constructor
 .rintro⟨⟨q,r,rfl⟩,a,f,w,e⟩;have:=T1.1 r;obtain⟨h,j,p⟩:=jP.1 w;exact⟨Ω,a,f,h,j,p,by simpa using e⟩
 .rintro⟨h1,a,f,e,h,j,p⟩;exact⟨⟨v.toNat,T1.2 Ω,Ω⟩,a,f,jP.2 ⟨e,h,j⟩,by simpa using p⟩
theorem rM{s:al}{i:Int}:(a1 co s i).Pairwise (·< ·):=by
 unfold a1;refine List.Pairwise.filter _ ?_;rw[List.pairwise_map];exact List.pairwise_lt_range.imp λh=>Ω
theorem GA{s:al}{e:jJ}{x:br}(a:s.d6[e.v.toNat]?=σ x):n7 s e={s with elims:=s.elims++[e],d6:=s.d6.set e.v.toNat {x with gone:=1}}:=by
 unfold n7;rw[a]
theorem GB{α β:Type}:∀{l:List α}{m:List β}{i:Nat}{x:α}{y:β},l[i]?=σ x->l.zip (m.set i y)=(l.zip m).set i (x,y)
 |[],_,_,_,_,h=>by simp at h
 |a::l,[],_,_,_,_=>Ξ
 |a::l,b::m,0,x,y,h=>by simp at h;subst h;rfl
 |a::l,b::m,i+1,x,y,h=>by
  rw[List.set_cons_succ,List.zip_cons_cons,List.zip_cons_cons,List.set_cons_succ,GB (by simpa using h)]
theorem Sh{α:Type}{q:α->Bool}{l:List α}{i:Nat}{y z:α}(hi:i<l.length)(h:q y=q z):(l.set i y).all q=(l.set i z).all q:=by
 have h1:(l.set i z)[i]?=σ z:=by rw[Z5 hi]
 have:=rF (q:=q) (x:=z) (y:=y) h1 h;rw[List.set_set]at this;exact this
section
variable{n:aG}{s:al}{i:Int}{x:br}{a:Λ}{k:Int}{co:Λ}
theorem vZ{f:bF}{A:Int->Int}(a:a6 k co s)(h:f∈s.d7):0<=gQ f A/\gQ f A<=k:=by
 exact(pW a.dy λc e=>⟨a.dy,(a.d7 f h).1.fP c e⟩).2
theorem GC{A:Int->Int}{L:List bF}(a:a6 k co s)(e:∀f∈L,f∈s.d7)(h:x.un.getD (A i).toNat 0<=k):dS k x.un i L A=min (x.un.getD (A i).toNat 0+(L.map λf=>gQ f A).sum) k:=by
 have:dS k x.un i L A=(L.map λf=>gQ f A).foldl (λc d=>min (c+d) k) (x.un.getD (A i).toNat 0):=by
  unfold dS;rw[List.foldl_map]
 rw[this];refine vK _ _ h λc j=>?_;obtain⟨f,p,rfl⟩:=o8.1 j;exact(vZ a (e f p)).1
theorem zF{c:Nat}(a:a6 k co s)(e:s.d6[j]?=σ x):0<=x.un.getD c 0/\x.un.getD c 0<=k:=by
 have hk:=a.dy;have f:=(x4.1 e).1;have h:=a.d6;exact zk Ω (a.var j x _ e (x6 Ω)).2.1
theorem v7{A:Int->Int}{L:List bF}(a:a6 k co s)(e:∀f∈L,f∈s.d7)(h:s.d6[j]?=σ x):0<=dS k x.un i L A/\dS k x.un i L A<=k:=by
 have hk:=a.dy;have h1:=zF (c:=(A i).toNat) a h;rw[GC a e h1.2];have:=l4 (L.map λf=>gQ f A) λc p=>by
  obtain⟨f,q,rfl⟩:=o8.1 p;exact(vZ a (e f q)).1
 omega
theorem GD{A B:Int->Int}{un:Λ}{L:List bF}(h:A i=B i)(a:∀f∈L,∀v∈f.sc,A v=B v):dS k un i L A=dS k un i L B:=by
 unfold dS;rw[h];generalize un.getD (B i).toNat 0=c;induction L generalizing c with
 |nil=>rfl
 |cons f L j=>
  have e:gQ f A=gQ f B:=by
   unfold gQ;rw[V3 (a f (.head _))]
  rw[List.foldl_cons,List.foldl_cons,e];exact j (λg p=>a g (.tail _ p)) _
theorem zG(j:a6 k co s){f:bF}(p:f∈bs s i)(a:v∈f.sc):v=i\/v∈a1 co s i:=by
 obtain⟨h1,q,r⟩:=jP.1 p;by_cases e:v=i
 .exact .inl e
 .have h:=(j.d7 f h1).1;exact .inr (fU.2 ⟨⟨(h.scope.1 v a).1,h.d6 v a⟩,e,f,h1,q,r,a⟩)
theorem Si(a:a6 k co s){A B:Int->Int}(h:∀v∈a1 co s i,A v=B v):fo k s i x A=fo k s i x B:=by
 refine zE λv p=>GD (by simp[fT]) λf e u j=>?_;unfold fT;split
 .rfl
 .exact h u ((zG a e j).resolve_left (by assumption))
theorem tt{x:br}:∀v∈aM x,v≠ -1:=λv a=>by have:=qa a;omega
theorem Sj{A:Int->Int}(a:a6 k co s)(h:s.d6[j]?=σ x):0<=(fo k s i x A).1/\(fo k s i x A).1<=k:=by
 have hk:=a.dy;have h1:∀v∈aM x,v≠ -1/\dS k x.un i (bs s i) (fT A i v)<=k:=λv p=>⟨tt v p,(v7 a (λf e=>(jP.1 e).1) h).2⟩;exact⟨(o3 h1).2 ⟨Ω,λv p=>(v7 a (λf e=>(jP.1 e).1) h).1⟩,((o3 h1).1 (Int.le_refl _)).1⟩
theorem Sk(L:List bF):(L.map (df a)).sum=((L.map λf=>if f.live≠0/\i∈f.sc then{f with live:=0}else f).map (df a)).sum+((L.filter λf=>decide (f.live≠0)&&decide (i∈f.sc)).map λf=>gQ f (ft a)).sum:=by
 induction L with
 |nil=>rfl
 |cons f L e=>
  rw[U4,U4,U4,List.sum_cons,List.sum_cons,e];by_cases h:f.live≠0/\i∈f.sc
  .rw[m5 h,List.filter_cons_of_pos (by simpa using h),U4,List.sum_cons];have j:df a {f with live:=0}=0:=m6 Ξ;have p:df a f=gQ f (ft a):=m5 h.1;omega
  .rw[m6 h,List.filter_cons_of_neg (by simpa using h)];omega
theorem wa{f:bF}(h:f∈(iH s i).d7):∃g∈s.d7,f.sc=g.sc/\f.szs=g.szs/\f.cs=g.cs/\(f.live≠0->f=g/\i∉f.sc):=by
 obtain⟨g,a,rfl⟩:=o8.1 h;refine⟨g,a,?_⟩;split
 .exact⟨rfl,rfl,rfl,λh=>m7 rfl h⟩
 .rename_i h;exact⟨rfl,rfl,rfl,λe=>⟨rfl,λhi=>h ⟨e,hi⟩⟩⟩
theorem Sl(a:a6 k co s):a6 k co (iH s i):=⟨a.dy,a.cF,a.zero,a.d6,a.var,λf e=>by
 obtain⟨g,h,j,p,q,_⟩:=wa e;rw[j,p,q];exact a.d7 g h⟩
theorem Sm{e:jJ}(a:a6 k co s)(h:s.d6[e.v.toNat]?=σ x):a6 k co (n7 s e):=by
 have r:=(x4.1 h).1;rw[GA h];refine⟨a.dy,a.cF,a.zero,by simp[a.d6],λj y z f p=>?_,a.d7⟩;have f:(s.d6.set e.v.toNat {x with gone:=1})[j]?=σ y:=f;rw[Y8]at f;by_cases q:e.v.toNat=j
 .subst q;rw[m5 rfl,m5 r]at f;cases f;exact a.var _ x z h p
 .rw[m6 q]at f;exact a.var j y z f p
structure eh(n:aG)(s:al)(i:Int)(x:br):Prop where
 has:0<=i/\i<n.co.length
 at_:s.d6[i.toNat]?=σ x
 there:x.gone=0
 wb:(a1 n.co s i).length<=3
 small:n.co.getD i.toNat 0*aB (aA n.co (a1 n.co s i))<=4096
theorem eh.size(h:eh n s i x)(a:a6 n.k n.co s):n.co.getD i.toNat 0=x.un.length/\1<=x.un.length/\x.un.length<=32:=by
 have f:=a.d6;have j:=h.has;obtain⟨z,e⟩:=aC (l:=n.co) (i:=i.toNat) Ω;have p:=(a.var _ x z h.at_ e).1;have q:=a.cF.2.2 z (x5 e);rw[v8,e];show z=_/\_;omega
theorem rN(a:a6 k co s):dd (aA co (a1 co s i)):=jl a.cF.2.2 λv e=>(fU.1 e).1
theorem eh.prod(h:eh n s i x)(a:a6 n.k n.co s):aB (aA n.co (a1 n.co s i))<=4096:=by
 have h1:=h.small;obtain⟨e,f,_⟩:=h.size a;have j:=kC (rN (i:=i) a);have:=W6 (show 1<=n.co.getD i.toNat 0 by omega) (show 0<=aB (aA n.co (a1 n.co s i)) by omega);omega
theorem eh.can(h:eh n s i x)(a:a6 n.k n.co s):ep n.co n.k (a1 n.co s i,ts n s i x):=by
 refine⟨⟨λv e=>?_,by have:=h.wb;show(a1 n.co s i).length<=6;omega⟩,rM,λv e=>(fU.1 e).1.2,tr (F:=λA=>(fo n.k s i x A).1),h.prod a,show∀c∈ts n s i x,0<=c/\c<=n.k from Gs λA=>Sj a h.at_⟩;have:=(fU.1 e).1;have:=a.cF.2.1;omega
theorem zH(e:cw s)(h:a6 k co s)(j:v∈a1 co s i):cG s v.toNat=sp:=by
 obtain⟨h1,w,f,p,q,x,r⟩:=fU.1 j;have z:=h.d6;obtain⟨y,a⟩:=aC (l:=s.d6) (i:=v.toNat) Ω;have:=e f p q v r y a;unfold cG;rw[a];simp[this]
def fu(n:aG)(s:al)(i:Int)(x:br):al:=n7 (iH s i) (gA n s i x)
theorem eh.rO(h:eh n s i x):fu n s i x={iH s i with elims:=s.elims++[gA n s i x],d6:=s.d6.set i.toNat {x with gone:=1}}:=GA (s:=iH s i) (e:=gA n s i x) h.at_
theorem eh.tu(h:eh n s i x)(a:a6 n.k n.co s):a6 n.k n.co (fu n s i x):=Sm (e:=gA n s i x) (Sl a) h.at_
theorem eh.zI(h:eh n s i x)(f:a6 n.k n.co s)(j:Nat):cG (fu n s i x) j=(cG s j||decide (j=i.toNat)):=by
 have a:=(x4.1 h.at_).1;rw[h.rO];unfold cG;show(match(s.d6.set i.toNat {x with gone:=1})[j]? with|some x=>decide (x.gone≠0)|none=>sp)=_;rw[Y8];by_cases e:i.toNat=j
 .subst e;rw[m5 rfl,m5 a];simp
 .rw[m6 e,pl (λh=>e h.symm),Bool.or_false];cases s.d6[j]?<;>rfl
theorem eh.wc(h:eh n s i x)(a:a6 n.k n.co s)(f:cw s):∀v∈a1 n.co s i,cG (fu n s i x) v.toNat=sp:=λv e=>by
 obtain⟨h1,j,_⟩:=fU.1 e;have:=h.has;rw[h.zI a,zH f a e,pl Ω];rfl
theorem eh.Sn(h:eh n s i x)(q:a6 n.k n.co s)(I:v∈aM x)(V:a.length=s.d6.length):
  ma s (a.set i.toNat v)=ma (fu n s i x) a/\min (ip s (a.set i.toNat v)) n.k=min (ip (fu n s i x) a+dS n.k x.un i (bs s i) (fT (ft a) i v)) n.k:=by
 have W:=(x4.1 h.at_).1;obtain⟨y,r⟩:=aC (l:=a) (i:=i.toNat) Ω;have w:(s.d6.zip a)[i.toNat]?=σ (x,y):=U9.2 ⟨h.at_,r⟩;have J:=(x4.1 w).1;have K:=h.there;have M:=jN.1 I;have z:(fu n s i x).d6.zip a=(s.d6.zip a).set i.toNat ({x with gone:=1},y):=by
  rw[h.rO];exact qf r
 have B:s.d6.zip (a.set i.toNat v)=(s.d6.zip a).set i.toNat (x,v):=GB h.at_;refine⟨?_,?_⟩
 .unfold ma;rw[z,B];refine Sh J ?_;unfold dK;simp[M.2]
 .have C:((s.d6.zip a).map cz)[i.toNat]?=σ (cz (x,y)):=by rw[x8,w];rfl
  have eT:((s.d6.zip (a.set i.toNat v)).map cz).sum=((s.d6.zip a).map cz).sum-cz (x,y)+x.un.getD v.toNat 0:=by
   rw[B,V5,qc C];have:cz (x,v)=x.un.getD v.toNat 0:=m6 (by simpa using K);omega
  have e2:(((fu n s i x).d6.zip a).map cz).sum=((s.d6.zip a).map cz).sum-cz (x,y)+0:=by
   rw[z,V5,qc C];rfl
  have E:∀u,0<=u->ft (a.set i.toNat v) u=fT (ft a) i v u:=λu j=>by
   have:=h.has;unfold ft fT;rw[v8,Y8];by_cases e:u=i
   .subst e;rw[m5 rfl,m5 rfl,m5 Ω];rfl
   .rw[m6 Ω,m6 e];exact(v8 ..).symm
  have f1:=Sk (a:=a.set i.toNat v) (i:=i) s.d7;have f2:((bs s i).map λf=>gQ f (ft (a.set i.toNat v)))=(bs s i).map λf=>gQ f (fT (ft a) i v):=V3 λf p=>by
   unfold gQ;rw[V3 λu j=>E u ((q.d7 f (jP.1 p).1).1.scope.1 u j).1]
  have f3:(iH s i).d7.map (df (a.set i.toNat v))=(iH s i).d7.map (df a):=V3 λf p=>by
   obtain⟨g,N,O,X,Y,P⟩:=wa p;unfold df;split
   .rename_i Q;rw[vY,vY,V3 λu j=>?_];have R:=((q.d7 g N).1.scope.1 u (O▸j)).1;rw[E u R];unfold fT;rw[m6 λ(e:u=i)=>(P Q).2 (e▸j)]
   .rfl
  have j:=zF (c:=v.toNat) q h.at_;have F:fT (ft a) i v i=v:=m5 rfl;have G:=GC (i:=i) (x:=x) (A:=fT (ft a) i v) (L:=bs s i) q (λf p=>(jP.1 p).1) (by rw[F];exact j.2);rw[F]at G;rw[G];have g1:(s.d7.map (df (a.set i.toNat v))).sum=((iH s i).d7.map (df a)).sum+((bs s i).map λf=>gQ f (fT (ft a) i v)).sum:=by
   rw[<-f3,<-f2];exact f1
  have S:(fu n s i x).d7=(iH s i).d7:=by rw[h.rO]
  have T:(fu n s i x).zero=s.zero:=by rw[h.rO];rfl
  have H:=Gu (a:=a) (h.tu q);have Z:=l4 ((bs s i).map λf=>gQ f (fT (ft a) i v)) λc U=>by
   obtain⟨f,p,rfl⟩:=o8.1 U;exact(vZ q (jP.1 p).1).1
  unfold ip at H ⊢;rw[e2,S,T]at H ⊢;rw[eT,g1];omega
theorem eh.cost(h:eh n s i x)(j:a6 n.k n.co s)(w:cw s)(p:e5 (fu n s i x) a):cW (aA n.co (a1 n.co s i)) (ee a (a1 n.co s i)):=by
 have hm:=h.tu j;have E:=hm.d6;rw[vY,qk];intro v q;obtain⟨h1,_⟩:=fU.1 q;have A:=h.wc j w v q;obtain⟨y,e⟩:=aC (l:=(fu n s i x).d6) (i:=v.toNat) Ω;obtain⟨z,f⟩:=aC (l:=n.co) (i:=v.toNat) Ω;obtain⟨u,r⟩:=aC (l:=a) (i:=v.toNat) (by have:=p.1;omega);have F:=p.2 _ y u e r;have G:=(hm.var _ y z e f).1;have H:=hm.cF.2.2 z (x5 f);have I:y.gone=0:=by simpa[cG,e]using A
 have B:ft a v=u:=by unfold ft;rw[v8,r];rfl
 have C:n.co.getD v.toNat 0=z:=by rw[v8,f];rfl
 rw[B,C];omega
theorem eh.val(h:eh n s i x)(j:a6 n.k n.co s)(z:cw s)(r:e5 (fu n s i x) a):
  dL n.k (gR n s i x) a=(fm n.k (aM x) λv=>dL n.k s (a.set i.toNat v)).1/\(aM x≠[]->(fo n.k s i x (ft a)).2∈aM x/\dL n.k s (a.set i.toNat (fo n.k s i x (ft a)).2)=dL n.k (gR n s i x) a):=by
 have hm:=h.tu j;have E:a.length=s.d6.length:=by rw[r.1,hm.d6,j.d6]
 obtain⟨w,y,q⟩:=Gy (a:=a) hm (h.can j) r (h.wc j z);have w:a6 n.k n.co (gR n s i x):=w;have y:ma (gR n s i x) a=ma (fu n s i x) a:=y;have q:min (ip (gR n s i x) a) n.k=_:=q;have e:bd (aA n.co (a1 n.co s i)) (ts n s i x) (ee a (a1 n.co s i))=(fo n.k s i x (ft a)).1:=
  vX (F:=λA=>(fo n.k s i x A).1) (rN j) (λA B G=>by show(fo n.k s i x A).1=_;rw[Si j G]) (h.cost j z r)
 rw[e]at q;have H:=Gu (a:=a) hm;have I:∀v∈aM x,v≠ -1/\dS n.k x.un i (bs s i) (fT (ft a) i v)<=n.k:=λv p=>⟨tt v p,(v7 j (λf J=>(jP.1 J).1) h.at_).2⟩;have p:∀v∈aM x,dL n.k s (a.set i.toNat v)=if ma (fu n s i x) a=rs then min (ip (fu n s i x) a+dS n.k x.un i (bs s i) (fT (ft a) i v)) n.k else n.k:=λv p=>by
  obtain⟨K,L⟩:=h.Sn j p E;rw[Gt j,K,L]
 rw[Gt w,y,q];have M:(if ma (fu n s i x) a=rs then min (ip (fu n s i x) a+(fo n.k s i x (ft a)).1) n.k else n.k)=(fm n.k (aM x) λv=>dL n.k s (a.set i.toNat v)).1:=by
  rw[zE p];split
  .exact Sf H I
  .exact (Sg λv p=>⟨tt v p,rfl⟩).symm
 refine⟨M,λN=>?_⟩;obtain⟨C,O⟩:=Gz (k:=n.k) (of:=λv=>dS n.k x.un i (bs s i) (fT (ft a) i v)) tt N;refine⟨C,(p _ C).F ?_⟩;exact congrArg (λc=>if ma (fu n s i x) a=rs then min (ip (fu n s i x) a+c) n.k else n.k) O
end
section
variable{n:aG}{s s':al}{i:Int}{x:br}{a:Λ}{k:Int}{co:Λ}
theorem tv{cs:Λ}(r:a6 n.k n.co s)(E:ep n.co n.k (sc,cs)):
  (sc=[]/\eG n s sc cs={s with zero:=min (s.zero+cs.getD 0 0) n.k})\/
  (∃v y,sc=[v]/\s.d6[v.toNat]?=σ y/\cs.length=y.un.length/\eG n s sc cs=dD s v.toNat y (bX n.k y.un cs))\/
  (∃j f,2<=sc.length/\kS s sc=σ j/\s.d7[j]?=σ f/\f.live≠0/\f.sc=sc/\f.szs=aA n.co sc/\f.cs.length=cs.length/\eG n s sc cs=dw s j f (bX n.k f.cs cs))\/
  (2<=sc.length/\kS s sc=ν/\eG n s sc cs=gN s sc (aA n.co sc) cs):=by
 have L:=r.d6;obtain⟨e,p,h,a,q,M⟩:=E
 match sc,e,p,h,a,q with
 |[],e,p,h,a,q=>exact .inl ⟨rfl,rfl⟩
 |[v],e,p,h,a,q=>
  have N:=(e.1 v (.head _)).1;have O:=h v (.head _);obtain⟨y,w⟩:=aC (l:=s.d6) (i:=v.toNat) Ω;obtain⟨z,C⟩:=aC (l:=n.co) (i:=v.toNat) Ω;have F:=r.var _ y z w C;have G:n.co.getD v.toNat 0=z:=by rw[v8,C];rfl
  have H:aA n.co [v]=[z]:=by rw[<-G];rfl
  refine .inr (.inl ⟨v,y,rfl,w,by rw[a,H,F.1];simp[aB],?_⟩);unfold eG;simp only[w]
 |u::v::sc,e,p,h,a,q=>
  cases x:kS s (u::v::sc)with
  |some j=>
   obtain⟨f,A,I,B⟩:=Gx x;obtain⟨J,K,P⟩:=r.d7 f (x5 A);refine .inr (.inr (.inl ⟨j,f,Ξ,rfl,A,I,B,by rw[K,B],?_,?_⟩))
   .have:=J.len;rw[B]at this;exact this.F a.symm
   .unfold eG;simp only[x,A]
  |none=>
   refine .inr (.inr (.inr ⟨Ξ,rfl,?_⟩));unfold eG;simp only[x]
theorem GF{y z:br}{vs:List br}(a:s.d6[j]?=σ z)(hm:y.mask=z.mask)(f:y.un.length=z.un.length)(i:Int):dn {s with d6:=s.d6.set j y} i=dn s i:=by
 have h:=(x4.1 a).1;unfold dn;show(match(s.d6.set j y)[i.toNat]? with|some x=>aM x|none=>[])=_;rw[Y8];by_cases e:j=i.toNat
 .subst e;rw[m5 rfl,m5 h,a];show aM y=aM z;unfold aM;rw[hm,f]
 .rw[m6 e];rfl
theorem Sp{y z:br}(a:s.d6[j]?=σ z)(f:y.gone=z.gone)(i:Nat):cG {s with d6:=s.d6.set j y} i=cG s i:=by
 have h:=(x4.1 a).1;unfold cG;show(match(s.d6.set j y)[i]? with|some x=>decide (x.gone≠0)|none=>sp)=_;rw[Y8];by_cases e:j=i
 .subst e;rw[m5 rfl,m5 h,a];show decide (y.gone≠0)=decide (z.gone≠0);rw[f]
 .rw[m6 e];rfl
theorem Sq{cs:Λ}(x:a6 n.k n.co s)(z:ep n.co n.k (sc,cs)):
  (eG n s sc cs).elims=s.elims/\(eG n s sc cs).d7.length<=s.d7.length+1/\kj s (eG n s sc cs)/\(∀j:Nat,cG (eG n s sc cs) j=cG s j)/\(∀i,dn (eG n s sc cs) i=dn s i)/\
   ∀f∈(eG n s sc cs).d7,f.live≠0->f.sc=sc\/∃g∈s.d7,g.live≠0/\g.sc=f.sc:=by
 rcases tv x z with⟨rfl,e⟩|⟨v,y,rfl,r,h,e⟩|⟨j,f,A,p,B,E,C,F,h,e⟩|⟨A,p,e⟩
 .rw[e];exact⟨rfl,Nat.le_succ _,(yN s _).tp,λ_=>rfl,λ_=>rfl,λf p h=>.inr ⟨f,p,h,rfl⟩⟩
 .rw[e];have q:(bX n.k y.un cs).length=y.un.length:=by simp[bX,h]
  exact⟨rfl,Nat.le_succ _,(s8 r q).tp,Sp r rfl,GF (vs:=[]) r rfl q,λf p h=>.inr ⟨f,p,h,rfl⟩⟩
 .rw[e];have q:(bX n.k f.cs cs).length=f.cs.length:=by simp[bX,h]
  refine⟨rfl,by show(s.d7.set j _).length<=_;simp,(yO (y:={f with cs:=bX n.k f.cs cs}) B q rfl rfl).tp,λ_=>rfl,λ_=>rfl,λg a w=>?_⟩;rcases T4 a with a|rfl
  .exact .inr ⟨g,a,w,rfl⟩
  .exact .inl C
 .rw[e];refine⟨rfl,by show(s.d7++[_]).length<=_;simp,Sb s _,λ_=>rfl,λ_=>rfl,λg a w=>?_⟩;rcases o9.1 a with a|a
  .exact .inr ⟨g,a,w,rfl⟩
  .cases b8.1 a;exact .inl rfl
theorem Sr(a:a6 k co s):e5 s (u9 s.d6.length 0):=by
 refine⟨Ξ,λi x v e f=>.inr ?_⟩;have j:=(x4.1 e).1;have p:=a.d6;obtain⟨z,h⟩:=aC (l:=co) (i:=i) Ω;have q:=(a.var _ x z e h).1;have r:=a.cF.2.2 z (x5 h);rw[List.getElem?_replicate,m5 j]at f;cases f;omega
theorem Ss:kj s (iH s i):=by
 refine⟨rfl,λj f a=>?_,[],(V2 _).symm⟩;have e:∀(L:List bF)j,(((L.map λf=>if f.live≠0/\i∈f.sc then{f with live:=0}else f).take j).flatMap fQ).length=((L.take j).flatMap fQ).length:=by
  intro L;induction L with
  |nil=>intro j;rfl
  |cons f L h=>
   intro j;cases j with
   |zero=>rfl
   |succ j=>
    rw[U4,List.take_succ_cons,List.take_succ_cons,U3,U3,p9,p9,h];split
    .rfl
    .rfl
 refine⟨if f.live≠0/\i∈f.sc then{f with live:=0}else f,?_,?_,?_,?_⟩
 .show (s.d7.map _)[j]?=_;rw[x8,a];rfl
 .split<;>rfl
 .split<;>rfl
 .unfold e4;exact congrArg (λm=>3+((s.d6.flatMap iA).length+m)) (e s.d7 j)
structure St(n:aG)(s:al)(i:Int)(x:br)(s':al):Prop where
 ok:a6 n.k n.co s'
 zJ:cw s'
 tp:kj s s'
 gone:∀j:Nat,cG s' j=(cG s j||decide (j=i.toNat))
 Vy:∀j,dn s' j=dn s j
 elims:s'.elims=s.elims++[gA n s i x]
 d7:s'.d7.length<=s.d7.length+1
 rJ:∀f∈s'.d7,f.live≠0->i∉f.sc
theorem eh.all(h:eh n s i x)(a:a6 n.k n.co s)(C:cw s):St n s i x (gR n s i x):=by
 have hm:=h.tu a;have F:=h.can a;obtain⟨s1,s2,M,N,O,P⟩:=Sq hm F;have z:=h.rO;have X:=(x4.1 h.at_).1;have G:∀j:Nat,cG (gR n s i x) j=(cG s j||decide (j=i.toNat)):=λj=>(N j).F (h.zI a j);have H:∀f∈(gR n s i x).d7,f.live≠0->f.sc=a1 n.co s i\/(∃g∈s.d7,g.live≠0/\g.sc=f.sc/\i∉g.sc):=λf p q=>by
  rcases P f p q with e|⟨g,r,A,e⟩
  .exact .inl e
  .rw[z]at r;obtain⟨Q,R,Y,Z,aa,S⟩:=wa r;obtain⟨E,T⟩:=S A;exact .inr ⟨Q,R,E▸A,by rw[<-E];exact e,by rw[<-E];exact T⟩
 have I:∀f∈(gR n s i x).d7,f.live≠0->i∉f.sc:=λf p q=>by
  rcases H f p q with e|⟨g,r,A,e,hi⟩
  .rw[e];intro hi;exact(fU.1 hi).2.1 rfl
  .rw[<-e];exact hi
 have J:a6 n.k n.co (gR n s i x):=(Gy hm F (Sr hm) (h.wc a C)).1;refine⟨J,λf p q v w y U=>?_,?_,G,λj=>(O j).F ?_,s1.F (by rw[z]),Y1 s2 (by rw[z];show(s.d7.map _).length+1<=_;simp),I⟩
 .have h1:cG s v.toNat=sp:=by
   rcases H f p q with e|⟨g,r,A,e,hi⟩
   .exact zH C a (e▸w)
   .have ab:=a.d6;have K:=(a.d7 g r).1;have ac:=K.d6 v (e▸w);have ad:=(K.scope.1 v (e▸w)).1;obtain⟨V,L⟩:=aC (l:=s.d6) (i:=v.toNat) Ω;have:=C g r A v (e▸w) V L;unfold cG;rw[L];simp[this]
  have B:=G v.toNat;have ae:0<=v:=((J.d7 f p).1.scope.1 v w).1;have W:v.toNat≠i.toNat:=λe=>I f p q (by have:=h.has;rw[show i=v by omega];exact w);rw[h1,pl W]at B;unfold cG at B;rw[U]at B;simpa using B
 .refine kj.F (Ss (i:=i)) (kj.F (b:=fu n s i x) ?_ M);rw[z];exact Sc (s:=iH s i) h.at_ rfl
 .rw[z];exact GF (s:={iH s i with elims:=s.elims++[gA n s i x]}) (y:={x with gone:=1}) (vs:=[]) h.at_ rfl rfl j
theorem Su(f:a6 k co s)(p:a6 k co s')(h:∀j,cG s' j=cG s j)(w:e5 s a):e5 s' a:=by
 refine⟨by rw[w.1,f.d6,p.d6],λj y v q B=>?_⟩;have G:=(x4.1 q).1;have h1:=f.d6;have H:=p.d6;obtain⟨x,r⟩:=aC (l:=s.d6) (i:=j) Ω;obtain⟨z,A⟩:=aC (l:=co) (i:=j) Ω;have C:=(f.var j x z r A).1;have E:=(p.var j y z q A).1;have e:=h j;unfold cG at e;rw[r,q]at e;have F:=w.2 j x v r B;simp only[decide_eq_decide]at e;rw[E,<-C];exact F.imp (λh=>e.2 h) id
def gS(n:aG)(s:al)(i most:Int):Int:=if¬(iG n s i=rs/\0<=most/\most<=3)then 1 else if most<((a1 n.co s i).length:Int)\/4096<n.co.getD i.toNat 0*aB (aA n.co (a1 n.co s i))then 12 else 0
theorem Sv(a:a6 n.k n.co s)(h:gS n s i most=0):∃x,eh n s i x:=by
 unfold gS at h;split at h
 .cases h
 .rename_i h1;split at h
  .cases h
  .rename_i p;have h1:=Z2.1 h1;obtain⟨q,x,e,f⟩:=Rl a h1.1;have j:0<=i/\i<n.co.length:=by
    have:=h1.1;unfold iG at this;simp at this;omega
   exact⟨x,j,e,f,Ω,Ω⟩
def oa(n:aG)(s:al)(i most:Int):al:=if gS n s i most=0 then match s.d6[i.toNat]? with
 |some x=>gR n s i x
 |none=>s else s
theorem GG(e:a6 n.k n.co s)(h:gS n s i most=0):∃x,eh n s i x/\oa n s i most=gR n s i x:=by
 obtain⟨x,a⟩:=Sv e h;refine⟨x,a,?_⟩;unfold oa;rw[m5 h,a.at_]
theorem Sw(h:eh n s i x)(r:a6 n.k n.co s)(F:cw s)(w:e5 (gR n s i x) a)(G:0<=v/\v<x.un.length):e5 s (a.set i.toNat v):=by
 have A:=h.all r F;have h1:=r.d6;have K:=A.ok.d6;refine⟨by rw[U7,w.1];omega,λj y u p f=>?_⟩;have L:=(x4.1 p).1;rw[Y8]at f;by_cases e:i.toNat=j
 .subst e;have M:=w.1;rw[m5 rfl,m5 Ω]at f;cases f;have:=h.at_;rw[p]at this;cases this;exact .inr G
 .rw[m6 e]at f;obtain⟨C,B⟩:=aC (l:=(gR n s i x).d6) (i:=j) Ω;obtain⟨z,E⟩:=aC (l:=n.co) (i:=j) Ω;have H:=(r.var j y z p E).1;have I:=(A.ok.var j C z B E).1;have q:=A.gone j;unfold cG at q;rw[p,B,pl (λh=>e h.symm),Bool.or_false]at q;have J:=w.2 j C u B f;simp only[decide_eq_decide]at q;rw[H,<-I];exact J.imp (λh=>q.1 h) id
theorem Sx(h:eh n s i x)(f:a6 n.k n.co s)(C:cw s){c:Λ}(w:e5 s c):e5 (gR n s i x) c:=by
 have p:=h.all f C;have h1:=f.d6;have H:=p.ok.d6;refine⟨by rw[w.1];omega,λj y u q E=>?_⟩;have I:=(x4.1 q).1;obtain⟨A,r⟩:=aC (l:=s.d6) (i:=j) Ω;obtain⟨z,B⟩:=aC (l:=n.co) (i:=j) Ω;have F:=(f.var j A z r B).1;have G:=(p.ok.var j y z q B).1;have e:=p.gone j;unfold cG at e;rw[q,r]at e;have a:=w.2 j A u r E;rcases a with a|a
 .left;simp only[ms a,Bool.true_or]at e;exact ro e
 .rw[G,<-F];exact .inr a
end
section
variable{w I:x3}{ac ad am di:Nat}{A R O M aE:ah}{A9:Nat->ah}{k:Int}{co:Λ}{U:List al}{n:aG}{s u:al}{t:aw}{h:List aw}{cs:List x1}
structure Vz(w:x3)(am:Nat)(A R:ah)(A9:Nat->ah)(aE O M:ah):Prop where
 o:∀r,O r->r<w.heap.size/\¬A r/\¬R r/\(∀q,¬A9 q r)/\¬aE r/\r≠am/\¬M r
 m:∀r,M r->r<w.heap.size/\¬A r/\(∀q,¬A9 q r)/\¬aE r/\r≠am
theorem cg.side{S:ah}(p:cg w ac ad am A R A9 aE n s u t h cs)(f:af S w I)(e:∀r,r<w.heap.size->S r->¬A r/\¬R r/\(∀q,¬A9 q r)/\¬aE r/\r≠am):cg I ac ad am A R A9 aE n s u t h cs:=by
 have z:=f.size;exact⟨⟨p.eW.1.aa f λr a h U=>h.elim (e r a U).1 (e r a U).2.1,p.eW.2⟩,p.jK,p.box.aa f λU=>(e am p.box.lt U).2.2.2.2 rfl,p.doc.aa f λr a h U=>h.elim (λ⟨q,h⟩=>(e r a U).2.2.1 q h) (e r a U).2.2.2.1,p.apart,
  λr a=>⟨λh=>(p.read r a).1 (oN (λo j U _=>f.a8 r o j U λx=>(e r (p.read r a).2.1 x).2.2.2.1 a) h),by have:=(p.read r a).2.1;omega,(p.read r a).2.2⟩,p.out⟩
theorem cg.GH(p:cg w ac ad am A R A9 aE n s u t h cs):∀q r,A9 q r->¬aE r:=by
 obtain⟨_,_,_,_,_,_,_,_,_,_,_,_,_,a⟩:=p.doc;exact(a rfl).2
end
theorem GI{w0:x3}{out:x1}{g:Nat}{x:Int}(e:Ext w0 w)(hm:an .i64 ae w g out l)(f:∀r,li out r->w0.heap.size<=r)(F:l.length<=1000000000)(p:∀v I q,Ext w0 I->an .i64 ae I q v (l++[x])->(∀r,li v r->w0.heap.size<=r)->K v I):
  aD x7 (Z3 ai 1 #[(0,Δ x)]) w λy J=>aD x7 (j4 #[ai,ai] ai #[out,y]) J K:=by
 refine dl ai.u ae.i rfl λv4 G H L a s=>?_;refine gx ai.u ae.i rfl (hm.W a) s.ls Θ Θ λv5 A M B C E=>?_;have z:=(e.F a).size;exact p _ _ A ((e.F a).then E λr j he=>by have:=f r he;omega) B λr j=>(C r j).elim (f r) λh=>Ω
theorem Sy{s:al}{i:Int}:cR s i (j+1)=if gO s i j=rs then cR s i j++[(j:Int)]else cR s i j:=by
 unfold cR;rw[List.range_succ,List.filter_append];cases a:gO s i j<;>simp[a]
theorem zK{s:al}{i:Int}:(cR s i j).length<=j:=by
 unfold cR;rw[r9];have:=S8 (gO s i) (Z4 j);rw[List.length_range]at this;exact this
theorem we(x:br):(aM x).length<=x.un.length:=by
 unfold aM;have:=S8 (λv:Int=>!dropped x.mask v) ((Z4 x.un.length).map λv:Nat=>(v:Int));rw[r9,List.length_range]at this;exact this
def Sz(w:x3)(g:Nat)(v:x1)(l:List jJ):Prop:=∃E,bm kc 3 b2 w g v E/\E.length=l.length/\∀(q:Nat)x e,E[q]?=σ x->l[q]?=σ e->x.v=e.v/\(∃g,an .i64 ae w g x.aI e.sc)/\∃g,an .i64 ae w g x.bv e.dZ
def GJ(B:Nat)(w:x3)(g:Nat)(v:x1)(l:List jJ):Prop:=∃E,bm kc 3 b2 w g v E/\E.length=l.length/\∀(q:Nat)x e,E[q]?=σ x->l[q]?=σ e->x.v=e.v/\(∃g,B<=g/\an .i64 ae w g x.aI e.sc)/\∃g,B<=g/\an .i64 ae w g x.bv e.dZ
section
variable{w:x3}{ac ad:Nat}{A R:ah}{n:aG}{s:al}{t:aw}
theorem SA(h:be w ac ad A R n s t)(am:rL s)(a1:s.elims.length<=100000):ak x7 Bn [Γ ac] w λv I=>Ext w I/\∃g,GJ w.heap.size I g v s.elims/\∀r,lc v r->w.heap.size<=r:=by
 obtain⟨⟨a2,a6,a7,ba,S⟩,_⟩:=h;obtain⟨_,_,_,_,_,E,_,_,ao,_,_,_,_,P,U⟩:=id S;have bb:E.length=s.elims.length:=U.1;refine ay func30 ?_;rw[cV dx.u];simp only[l9,aW];rw[aN bV.p 4 ao rfl,eI iq.u P];refine bT.range E.length (λj out V=>Ext w V/\∃g,GJ w.heap.size V g out (s.elims.take j)/\∀r,lc out r->w.heap.size<=r) Ω ⟨Ext.refl _,0,⟨[],bm.nil _ _ _ _ _,rfl,λq x e h=>by simp at h⟩,λr B=>(gl B).elim⟩ ?_ ?_
 .rintro j out V ap W ⟨z,g,⟨O,C,X,aq⟩,L⟩ au;obtain⟨x,Y⟩:=aC (l:=E) W;obtain⟨e,Q⟩:=aC (l:=s.elims) (i:=j) Ω;obtain⟨bc,Z⟩:=am e (x5 Q);have bd:=S.W z;obtain⟨av,aw,ax⟩:=U.2 j x e Y Q;have f2:=aw.ls.W z;have f3:=ax.ls.W z;refine bt Ω ?_;rw[c5 rfl iq.u b2.i (P.W z) W,bC b2.p b2.i rfl ((P.W z).range Y)];refine bu b2.i λge bf bg az aA=>?_;refine b4 (vs:=kc x) b2.i rfl rfl (by intro u J;simp[kc]at J;rcases J with rfl|rfl|rfl<;>first|rfl|exact f2.cells.2|exact f3.cells.2) aA λaB aD bh aE=>?_;have M:Ext V aB:=az.put aD Ω;rw[bC b2.p b2.i rfl aE.range];refine(Gj (v:=x.v) (f2.W M) (f3.W M) Ω Ω).X ?_;rintro _ bi _ ⟨aF,aG,aH,g1,bj,rfl,bk,bn,aa,ab⟩;let a:p0:=⟨x.v,aG,aH⟩;refine iS (f:=kc) (a:=a) iq.u b2.i Ω rfl rfl λbo bp aI bq N aJ=>?_;have G:=(M.F aF).F N;have br:=z.size;have bs:=G.size;have bw:=M.size;have bx:=N.size;have af:(s.elims.take j).length=j:=by rw[j6];omega
  refine jk (f:=kc) (a:=a) iq.u b2.i rfl (C.W G) (by simpa using aJ.sl) (by intro u J;simp[kc,a]at J;rcases J with rfl|rfl|rfl<;>first|rfl|exact aa.ls.cells.2|exact ab.ls.cells.2) Ω Ω λbz aK ag aM aO ah=>?_;have bA:∀r,lc out r->r=g/\r<V.heap.size:=λr B=>by obtain⟨ai,bB⟩:=C.li B;omega
  have aQ:Ext w ag:=(z.F G).then ah λr B he=>by have:=L r he;omega
  rw[aL];refine au _ _ ⟨aQ,aK,⟨O++[a],aM,by simp[X,af];omega,λq y f K H=>?_⟩,λr B=>(aO r B).elim (L r) λh=>Ω⟩;have a8:∀{v:x1}{al:Nat}{l:Λ},w.heap.size<=al->an .i64 ae aI al v l->∃g,w.heap.size<=g/\an .i64 ae ag g v l:=λaR hm=>⟨_,aR,bl hm ah λr B he=>by
   obtain⟨ai,c,aS⟩:=dJ (C.W G) he;exact ch hm aS Φ B ai⟩
  by_cases aT:q<O.length
  .rw[W8 aT]at K;rw[List.getElem?_take]at H;split at H
   .obtain⟨aU,⟨_,Z,aV⟩,_,aX,aY⟩:=aq q y f K (by rw[List.getElem?_take,m5 Ω];exact H);exact⟨aU,a8 Z (aV.W G),a8 aX (aY.W G)⟩
   .cases H
  .have aZ:q=O.length:=by have:=(x4.1 K).1;simp at this;omega
   subst aZ;rw[Y5 (o5 _),U1]at K;rw[X,af,List.getElem?_take,m5 Ω,Q]at H;cases K;cases H;exact⟨av,a8 Ω (aa.W N),a8 Ω (ab.W N)⟩
 .rintro out V ap ⟨z,g,C,L⟩;rw[aP,aj];refine⟨λh=>Ω,λ_=>⟨z,g,?_,L⟩⟩;rw[o7 Ω]at C;exact C
theorem GK(h:be w ac ad A R n s t)(a:rL s)(f:s.elims.length<=100000):ak x7 Bn [Γ ac] w λv I=>Ext w I/\∃g,Sz I g v s.elims/\∀r,lc v r->w.heap.size<=r:=by
 refine(SA h a f).X ?_;rintro v I _ ⟨h1,g,⟨E,j,p,y⟩,z⟩;refine⟨h1,g,⟨E,j,p,λq x e B he=>?_⟩,z⟩;obtain⟨C,⟨_,_,G⟩,_,_,H⟩:=y q x e B he;exact⟨C,⟨_,G⟩,_,H⟩
end
theorem ly(h:l.Pairwise (·< ·)):ez l:=λi j x y a e f=>by
 obtain⟨h1,rfl⟩:=x4.1 e;obtain⟨p,rfl⟩:=x4.1 f;exact X5.1 h i j h1 p a
def nc(s:al)(j:Int):Λ:=match s.d7[j.toNat]? with
 |some f=>f.sc
 |none=>[]
section
variable{n:aG}{s:al}{i:Int}{k:Int}{co:Λ}
theorem ql{m:Nat}{j:Int}:j∈cR s i m↔ ∃q:Nat,q<m/\gO s i q=rs/\j=(q:Int):=by
 unfold cR;rw[o8];constructor
 .rintro⟨q,e,rfl⟩;obtain⟨h1,a⟩:=T2.1 e;exact⟨q,T1.1 h1,a,rfl⟩
 .rintro⟨q,h1,a,rfl⟩;exact⟨q,T2.2 ⟨T1.2 h1,a⟩,rfl⟩
theorem SB{m:Nat}:(cR s i m).Nodup:=by
 unfold cR;have h:((Z4 m).filter (gO s i)).Pairwise (·< ·):=List.Pairwise.filter _ List.pairwise_lt_range;unfold List.Nodup;rw[List.pairwise_map];exact h.imp λh=>Ω
theorem zL:∀m,m<=s.d7.length->(cR s i m).map (λj=>s.d7[j.toNat]?)=((s.d7.take m).filter λf=>decide (f.live≠0)&&decide (i∈f.sc)).map σ
 |0,_=>rfl
 |m+1,h=>by
  obtain⟨f,e⟩:=aC (l:=s.d7) (i:=m) Ω;have q:gO s i m=(decide (f.live≠0)&&decide (i∈f.sc)):=by unfold gO;rw[e]
  rw[Sy,u5,e,l7,List.filter_append,n9,<-zL m Ω,q];by_cases a:(decide (f.live≠0)&&decide (i∈f.sc))=rs
  .rw[m5 a,n9,List.filter_cons_of_pos (p:=λf:bF=>decide (f.live≠0)&&decide (i∈f.sc)) a];simp[e]
  .rw[m6 a,List.filter_cons_of_neg (p:=λf:bF=>decide (f.live≠0)&&decide (i∈f.sc)) a];simp
theorem SC:(cR s i s.d7.length).length=(bs s i).length:=by
 have:=congrArg List.length (zL (s:=s) (i:=i) s.d7.length (o5 _));rw[p8,r9,r9]at this;exact this
theorem zM{q:Nat}{j:Int}(h:(cR s i s.d7.length)[q]?=σ j):0<=j/\∃f,s.d7[j.toNat]?=σ f/\(bs s i)[q]?=σ f/\f.live≠0/\i∈f.sc:=by
 obtain⟨p,h1,x,rfl⟩:=ql.1 (x5 h);obtain⟨f,r⟩:=aC (l:=s.d7) h1;have e:=congrArg (λl=>l[q]?) (zL (s:=s) (i:=i) s.d7.length (o5 _));simp only[x8,h,Z0,p8]at e;rw[u7,r]at e;have a:(bs s i)[q]?=σ f:=by
  unfold bs;cases a:(s.d7.filter λf=>decide (f.live≠0)&&decide (i∈f.sc))[q]? with
  |none=>rw[a]at e;cases e
  |some g=>rw[a]at e;cases e;rfl
 have w:=jP.1 (x5 a);exact⟨Ω,f,by rw[u7];exact r,a,w.2.1,w.2.2⟩
theorem SD{m:Λ}(x:a6 k co s)(y:m.Perm ((cR s i s.d7.length).flatMap (nc s)))(U:m.Pairwise (·<= ·)):(dedup m m.length).filter (λv=>!decide (v=i))=a1 co s i:=by
 obtain⟨h1,z⟩:=yB U (o5 _);refine pX (ly (List.Pairwise.filter _ h1.pair)) (ly rM) λv=>?_;rw[T2,z,p8,y.mem_iff,List.mem_flatMap,fU];constructor
 .rintro⟨⟨j,A,a⟩,B⟩;obtain⟨q,e,h,rfl⟩:=ql.1 A;obtain⟨f,p⟩:=aC (l:=s.d7) e;unfold gO at h;rw[p]at h;rw[V8]at h;unfold nc at a;rw[u7,p]at a;have r:=x5 p;have w:=(x.d7 f r).1;exact⟨⟨(w.scope.1 v a).1,w.d6 v a⟩,by simpa using B,f,r,by simpa using h.1,by simpa using h.2,a⟩
 .rintro⟨H,C,f,p,E,F,G⟩;obtain⟨q,e⟩:=c8.1 p;refine⟨⟨(q:Int),ql.2 ⟨q,(x4.1 e).1,?_,rfl⟩,?_⟩,by simpa using C⟩
  .unfold gO;rw[e];simp[E,F]
  .unfold nc;rw[u7,e];exact G
def kT(s:al)(L:Λ):al:=L.foldl (λs j=>kO s j.toNat) s
theorem SE:(kO s j).d7=s.d7.mapIdx (λq f=>if q=j then{f with live:=0}else f)/\(kO s j).d6=s.d6/\(kO s j).zero=s.zero/\(kO s j).elims=s.elims:=by
 unfold kO;split
 .rename_i f a;refine⟨?_,rfl,rfl,rfl⟩;apply j9;intro q;rw[Y8,List.getElem?_mapIdx];by_cases e:j=q
  .subst e;rw[m5 rfl,m5 (x4.1 a).1,a];simp
  .rw[m6 e];cases s.d7[q]? with
   |none=>rfl
   |some g=>simp[show¬q=j from λh=>e h.symm]
 .rename_i a;refine⟨?_,rfl,rfl,rfl⟩;apply j9;intro q;rw[List.getElem?_mapIdx];cases p:s.d7[q]? with
  |none=>rfl
  |some g=>
   have:q≠j:=λe=>by subst e;rw[a]at p;cases p
   simp[this]
theorem zN:∀(L:Λ)(s:al),(∀j∈L,0<=j)->(kT s L).d7=s.d7.mapIdx (λq f=>if(q:Int)∈L then{f with live:=0}else f)/\(kT s L).d6=s.d6/\(kT s L).zero=s.zero/\(kT s L).elims=s.elims
 |[],s,_=>by
  refine⟨?_,rfl,rfl,rfl⟩;show s.d7=_;apply j9;intro q;rw[List.getElem?_mapIdx];cases s.d7[q]?<;>simp
 |j::L,s,h=>by
  obtain⟨h1,p,r,w⟩:=SE (s:=s) (j:=j.toNat);obtain⟨x,y,z,A⟩:=zN L (kO s j.toNat) λq B=>h q (.tail _ B);have C:=h j (.head _);refine⟨?_,y.F p,z.F r,A.F w⟩;show(kT (kO s j.toNat) L).d7=_;rw[x,h1];apply j9;intro q;rw[List.getElem?_mapIdx,List.getElem?_mapIdx,List.getElem?_mapIdx];cases s.d7[q]? with
  |none=>rfl
  |some f=>
   simp only[Z0,List.mem_cons];by_cases e:q=j.toNat
   .rw[m5 e,m5 (Or.inl Ω)];split<;>rfl
   .rw[m6 e];by_cases a:(q:Int)∈L
    .rw[m5 a,m5 (.inr a)]
    .rw[m6 a,m6 (λh=>h.elim (λh=>e Ω) a)]
theorem SF:kT s (cR s i s.d7.length)=iH s i:=by
 obtain⟨h1,h,r,w⟩:=zN (cR s i s.d7.length) s λj z=>by obtain⟨q,_,_,rfl⟩:=ql.1 z;omega
 have:(kT s (cR s i s.d7.length)).d7=(iH s i).d7:=by
  rw[h1];apply j9;intro q;show _=(s.d7.map _)[q]?;rw[List.getElem?_mapIdx,x8];cases x:s.d7[q]? with
  |none=>rfl
  |some f=>
   simp only[Z0];congr 1;by_cases a:f.live≠0/\i∈f.sc
   .rw[m5 a,m5 (ql.2 ⟨q,(x4.1 x).1,by unfold gO;rw[x];simp[a.1,a.2],rfl⟩)]
   .rw[m6 a,m6];intro hm;obtain⟨p,_,y,e⟩:=ql.1 hm;have:p=q:=Ω
    subst this;unfold gO at y;rw[x]at y;exact a (by simpa using y)
 cases hk:kT s (cR s i s.d7.length);rw[hk]at this h r w;unfold iH;simp only at this h r w;rw[h,r,w,this];rfl
theorem SG{q:Nat}{j:Int}(h:(cR s i s.d7.length)[q]?=σ j):0<=j/\eA (kT s ((cR s i s.d7.length).take q)) j.toNat=rs:=by
 obtain⟨e,f,r,_,w,_⟩:=zM h;refine⟨e,?_⟩;have h1:=(zN ((cR s i s.d7.length).take q) s λj x=>by obtain⟨q,_,_,rfl⟩:=ql.1 (V4 x);omega).1;have y:(j.toNat:Int)∉(cR s i s.d7.length).take q:=λhm=>by
  obtain⟨p,a⟩:=c8.1 hm;rw[List.getElem?_take]at a;split at a
  .rw[show((j.toNat:Nat):Int)=j by omega]at a;obtain⟨z,A⟩:=x4.1 a;obtain⟨B,C⟩:=x4.1 h;exact X5.1 (SB (s:=s) (i:=i) (m:=s.d7.length)) p q z B Ω (A.F (C.symm.F (by congr 1)))
  .cases a
 unfold eA;rw[h1,List.getElem?_mapIdx,r];simp only[Z0,m6 y];simp[w]
theorem SH{q:Nat}{j:Int}(h:(cR s i s.d7.length)[q]?=σ j):kO (kT s ((cR s i s.d7.length).take q)) j.toNat=kT s ((cR s i s.d7.length).take (q+1)):=by
 unfold kT;rw[u5,h,l7,List.foldl_append];rfl
def bY(co:Λ)(i:Int)(L:List bF):Λ:=((Z4 co.length).map λv:Nat=>(v:Int)).filter λv=>decide (v=i)||L.any λf=>decide (v∈f.sc)
theorem kk{L:List bF}:v∈bY co i L↔(0<=v/\v<co.length)/\(v=i\/∃f∈L,v∈f.sc):=by
 unfold bY;rw[T2,o8,Bool.or_eq_true,List.any_eq_true,rc];constructor
 .rintro⟨⟨q,e,rfl⟩,h⟩;have:=T1.1 e;exact⟨Ω,h.imp id λ⟨f,h1,a⟩=>⟨f,h1,by simpa using a⟩⟩
 .rintro⟨h1,h⟩;exact⟨⟨v.toNat,T1.2 Ω,Ω⟩,h.imp id λ⟨f,h1,a⟩=>⟨f,h1,by simpa using a⟩⟩
theorem mb{L:List bF}:ez (bY co i L):=by
 unfold bY;refine ly (List.Pairwise.filter _ ?_);rw[List.pairwise_map];exact List.pairwise_lt_range.imp λh=>Ω
theorem SI(h:0<=i/\i<co.length):bY co i []=[i]:=pX mb (ly Ξ) λv=>by
 rw[kk];simp;omega
theorem SJ{L:List bF}{f:bF}{d6:Λ}(j:∀v∈f.sc,0<=v/\v<co.length)(h:rk (bY co i L) f.sc d6):d6=bY co i (L++[f]):=pX h.1 mb λv=>by
 rw[h.2,kk,kk];constructor
 .rintro (⟨h1,p⟩|h1)
  .exact⟨h1,p.imp id λ⟨g,a,e⟩=>⟨g,List.mem_append_left _ a,e⟩⟩
  .exact⟨j v h1,.inr ⟨f,Ξ,h1⟩⟩
 .rintro⟨h1,rfl|⟨g,a,e⟩⟩
  .exact .inl ⟨h1,.inl rfl⟩
  .rcases o9.1 a with a|a
   .exact .inl ⟨h1,.inr ⟨g,a,e⟩⟩
   .cases b8.1 a;exact .inr e
theorem GL{e f d6:Λ}(s:ez e)(w:ez f)(x:∀v∈d6,0<=co.getD v.toNat 0)(h:rk e f d6):dA (aA co e) e (aA co f) f d6=aA co d6:=by
 have key:∀{l:Λ}(j:ez l)(p:Int),fc (aA co l) (ij l p)=if p∈l then co.getD p.toNat 0 else 0:=λ{l}j p=>by
  by_cases a:p∈l
  .rw[m5 a];obtain⟨q,r⟩:=c8.1 a;rw[pU j r];unfold fc aA;rw[m5 Ω,u7,v8,x8,r];rfl
  .rw[m6 a,ED a];rfl
 unfold dA;refine V3 λp a=>?_;have:=x p a;rw[key s,key w];rcases(h.2 p).1 a with h1|h1
 .rw[m5 h1];split<;>omega
 .rw[m5 h1];split<;>omega
theorem SK{e d6:Λ}(j:ez a)(s:ez e):pV (aA co a) a (aA co e) e d6:=λp _ w x=>by
 obtain⟨q,f⟩:=c8.1 w;obtain⟨r,h⟩:=c8.1 x;rw[pU j f,pU s h];unfold fc aA;rw[m5 Ω,m5 Ω,u7,u7,v8,v8,x8,x8,f,h]
theorem SL{e f d6:Λ}{F G:(Int->Int)->Int}(U:dd (aA co d6))(B:ez e)(C:ez f)(h:rk e f d6)(E:tq e F)(H:tq f G):
  nY (aA co e) (et (aA co e) e F) e (aA co f) (et (aA co f) f G) f d6 k=et (aA co d6) d6 λA=>min (F A+G A) k:=by
 have I:∀v∈d6,1<=co.getD v.toNat 0:=λv a=>(U _ (o8.2 ⟨v,a,rfl⟩)).1;have p:∀{l:Λ},(∀v∈l,v∈d6)->dd (aA co l):=λJ z K=>by
  obtain⟨v,a,rfl⟩:=o8.1 K;exact U _ (o8.2 ⟨v,J v a,rfl⟩)
 have r:∀v∈e,v∈d6:=λv a=>(h.2 v).2 (.inl a);have s:∀v∈f,v∈d6:=λv a=>(h.2 v).2 (.inr a);unfold nY et;rw[GL B C (λv a=>by have:=I v a;omega) h];refine V3 λq j=>?_;have j:=T1.1 j;have L:=q2 U j;have M:(b1 (aA co d6) (q:Int)).length=d6.length:=by rw[ix];simp[aA]
 have w:∀v∈d6,0<=fS d6 (b1 (aA co d6) (q:Int)) v/\fS d6 (b1 (aA co d6) (q:Int)) v<co.getD v.toNat 0:=qk.1 (by rw[zD h.1 M];exact L);have x:=vX (szs:=aA co e) (sc:=e) (F:=F) (A:=fS d6 (b1 (aA co d6) (q:Int))) (p r) E (qk.2 λv a=>w v (r v a));have y:=vX (szs:=aA co f) (sc:=f) (F:=G) (A:=fS d6 (b1 (aA co d6) (q:Int))) (p s) H (qk.2 λv a=>w v (s v a));unfold et at x y;exact congrArg (min · k) (congr (congrArg (·+ ·) x) y)
theorem GM{un:Λ}{L:List bF}(hi:0<=i/\i<co.length)(j:∀f∈L,∀v∈f.sc,0<=v/\v<co.length):tq (bY co i L) (dS k un i L):=λA B h=>
 GD (h i (kk.2 ⟨hi,.inl rfl⟩)) λf a v e=>h v (kk.2 ⟨j f a v e,.inr ⟨f,a,e⟩⟩)
theorem SM{f:bF}:tq f.sc (gQ f):=λA B h=>by
 unfold gQ;rw[V3 h]
theorem zO(E:a6 k co s)(hi:0<=i/\i<co.length)(x:(bY co i (bs s i))[pos]?=σ i):
  (bY co i (bs s i)).take pos++(bY co i (bs s i)).drop (pos+1)=a1 co s i/\bY co i (bs s i)=(a1 co s i).take pos++[i]++(a1 co s i).drop pos:=by
 have y:=mb (co:=co) (i:=i) (L:=bs s i);generalize F:bY co i (bs s i)=l at x y;obtain⟨S,G⟩:=x4.1 x;have r:l=l.take pos++[i]++l.drop (pos+1):=by
  rw[<-G,Y7];simp
 have z:∀v,v∈l↔v=i\/v∈a1 co s i:=λv=>by
  rw[<-F,kk];constructor
  .rintro⟨h1,rfl|⟨f,H,j⟩⟩
   .exact .inl rfl
   .exact zG E H j
  .rintro (rfl|h)
   .exact⟨hi,.inl rfl⟩
   .obtain⟨h1,A,f,I,J,K,M⟩:=fU.1 h;exact⟨h1,.inr ⟨f,jP.2 ⟨I,J,K⟩,M⟩⟩
 have N:=y.pair;have p:=N;rw[r]at p;have O:(l.take pos++l.drop (pos+1)).Pairwise (·< ·):=by
  rw[Y7,List.pairwise_append]at p;obtain⟨B,q,w⟩:=p;rw[List.singleton_append,List.pairwise_cons]at q;rw[List.pairwise_append];exact⟨B,q.2,λa P b Q=>w a P b (by simp[Q])⟩
 have R:i∉l.take pos++l.drop (pos+1):=λhm=>by
  rw[Y7,List.pairwise_append]at p;obtain⟨B,q,w⟩:=p;rw[List.singleton_append,List.pairwise_cons]at q;rcases o9.1 hm with hm|hm
  .have:=w i hm i Ξ;omega
  .have:=q.1 i hm;omega
 have C:l.take pos++l.drop (pos+1)=a1 co s i:=by
  refine pX (ly O) (ly rM) λv=>?_;constructor
  .intro j;have h1:v∈l:=by
    rw[r];rcases o9.1 j with h|h<;>simp[h]
   exact((z v).1 h1).resolve_left λe=>R (e▸j)
  .intro j;have h1:=(z v).2 (.inr j);rw[r,Y7,o9,o9,b8]at h1;have A:=(fU.1 j).2.1;rw[o9];exact h1.imp id λh=>h.resolve_left A
 refine⟨C,?_⟩;have T:(l.take pos).length=pos:=Θ
 rw[<-C,List.take_append_of_le_length Ω,o7 Ω,List.drop_append_of_le_length Ω,List.drop_of_length_le Ω,List.nil_append];exact r
theorem zP{k:Int}{f:Int->Int}:∀(l:Λ),(∀v∈l,0<=v)->∀(p:Int×Int),(p.1= -1\/0<=p.1)->l.foldl (oE f) p=((l.foldl (fH f) (p.2,p.1)).2,(l.foldl (fH f) (p.2,p.1)).1)
 |[],_,p,_=>rfl
 |v::l,h,p,r=>by
  have s:=h v (.head _);rw[List.foldl_cons,List.foldl_cons];by_cases a:p.1<0\/f v<p.2
  .have e:oE f p v=(v,f v):=m5 a;have j:fH f (p.2,p.1) v=(f v,v):=m5 (a.imp (λh=>by show p.1= -1;omega) id);rw[e,j,zP (k:=k) l (λu q=>h u (.tail _ q)) (v,f v) (.inr s)]
  .have e:oE f p v=p:=m6 a;have j:fH f (p.2,p.1) v=(p.2,p.1):=m6 λh=>a (h.imp (λh=>by have h:p.1= -1:=h;omega) id);rw[e,j,zP (k:=k) l (λu q=>h u (.tail _ q)) p r]
theorem SN{x:br}(h:a6 k co s)(hi:0<=i/\i<co.length)(H:s.d6[i.toNat]?=σ x)(I:(bY co i (bs s i))[pos]?=σ i):
  gg (aA co (bY co i (bs s i))) pos=aA co (a1 co s i)/\
  (nO (aA co (bY co i (bs s i))) (et (aA co (bY co i (bs s i))) (bY co i (bs s i)) (dS k x.un i (bs s i))) k pos (aM x)).map (·.1)=et (aA co (a1 co s i)) (a1 co s i) (λA=>(fo k s i x A).2)/\
  (nO (aA co (bY co i (bs s i))) (et (aA co (bY co i (bs s i))) (bY co i (bs s i)) (dS k x.un i (bs s i))) k pos (aM x)).map (·.2)=et (aA co (a1 co s i)) (a1 co s i) (λA=>(fo k s i x A).1):=by
 obtain⟨h1,J⟩:=zO h hi I;have K:∀f∈bs s i,∀v∈f.sc,0<=v/\v<co.length:=λf r v a=>by
  have C:=(h.d7 f (jP.1 r).1).1;exact⟨(C.scope.1 v a).1,C.d6 v a⟩
 have L:dd (aA co (bY co i (bs s i))):=jl h.cF.2.2 λv a=>(kk.1 a).1;have M:=rN (i:=i) h;have w:gg (aA co (bY co i (bs s i))) pos=aA co (a1 co s i):=by
  unfold gg aA;rw[<-S0,<-List.map_drop,<-n9,h1]
 have T:=h.d6;obtain⟨z,y⟩:=aC (l:=co) (i:=i.toNat) Ω;have U:=(h.var _ x z H y).1;have V:=h.cF.2.2 z (x5 y);have N:co.getD i.toNat 0=x.un.length:=by rw[v8,y];show z=_;omega
 have key:∀q:Nat,q<(aB (aA co (a1 co s i))).toNat->ss (aA co (bY co i (bs s i))) (et (aA co (bY co i (bs s i))) (bY co i (bs s i)) (dS k x.un i (bs s i))) k pos (aM x) (b1 (aA co (a1 co s i)) q)=
   ((fo k s i x (fS (a1 co s i) (b1 (aA co (a1 co s i)) q))).2,(fo k s i x (fS (a1 co s i) (b1 (aA co (a1 co s i)) q))).1):=λq p=>by
  have E:=q2 M p;have F:(b1 (aA co (a1 co s i)) (q:Int)).length=(a1 co s i).length:=by rw[ix];simp[aA]
  have B:=zD (ly rM) F;generalize W:b1 (aA co (a1 co s i)) (q:Int)=t at E F B;have O:∀v,q1 t pos v=(bY co i (bs s i)).map (fT (fS (a1 co s i) t) i v):=λv=>by
   have G:∀u∈a1 co s i,fT (fS (a1 co s i) t) i v u=fS (a1 co s i) t u:=λu j=>m6 (fU.1 j).2.1;rw[J,n9,n9,List.map_singleton,V3 λu j=>G u (V4 j),V3 (l:=(a1 co s i).drop pos) λu j=>G u (List.mem_of_mem_drop j),S0,List.map_drop,B];unfold q1 fT;rw[m5 rfl]
  have P:∀u∈a1 co s i,0<=fS (a1 co s i) t u/\fS (a1 co s i) t u<co.getD u.toNat 0:=qk.1 (by rw[B];exact E);have Q:∀v∈aM x,bd (aA co (bY co i (bs s i))) (et (aA co (bY co i (bs s i))) (bY co i (bs s i)) (dS k x.un i (bs s i))) (q1 t pos v)=dS k x.un i (bs s i) (fT (fS (a1 co s i) t) i v):=λv a=>by
   have R:=qa a;rw[O];refine vX L (GM hi K) (qk.2 λu j=>?_);unfold fT;by_cases e:u=i
   .rw[m5 e,e,N];exact R
   .rw[m6 e];refine P u ?_;obtain⟨g1,S⟩:=kk.1 j;obtain⟨f,r,a⟩:=S.resolve_left e;exact(zG h r a).resolve_left e
  unfold ss;rw[zP (k:=k) (aM x) (λv a=>(qa a).1) (-1,k) (.inl rfl)];show((fm k (aM x) _).2,(fm k (aM x) _).1)=_;rw[zE Q];rfl
 refine⟨w,?_,?_⟩
 .unfold nO et;rw[T8,w];refine V3 λq p=>?_;show(ss _ _ _ _ _ _).1=_;rw[show((Z4 (aB (aA co (bY co i (bs s i)))).toNat).map λq:Nat=>dS k x.un i (bs s i) (fS (bY co i (bs s i)) (b1 (aA co (bY co i (bs s i))) q)))=et (aA co (bY co i (bs s i))) (bY co i (bs s i)) (dS k x.un i (bs s i))from rfl,key q (T1.1 p)]
 .unfold nO et;rw[T8,w];refine V3 λq p=>?_;show(ss _ _ _ _ _ _).2=_;rw[show((Z4 (aB (aA co (bY co i (bs s i)))).toNat).map λq:Nat=>dS k x.un i (bs s i) (fS (bY co i (bs s i)) (b1 (aA co (bY co i (bs s i))) q)))=et (aA co (bY co i (bs s i))) (bY co i (bs s i)) (dS k x.un i (bs s i))from rfl,key q (T1.1 p)]
end
theorem wg{out:x1}{g:Nat}{x:Int}(hm:an .i64 ao w g out l)(C:l.length<=1000000000000)(e:∀v I f,af (λr=>li out r) w I->an .i64 ao I f v (l++[x])->(∀r,li v r->li out r\/w.heap.size<=r)->K v I):
  aD x7 (Z3 au 1 #[(0,Δ x)]) w λy J=>aD x7 (j4 #[au,au] au #[out,y]) J K:=by
 refine dl au.u ao.i rfl λv4 E F G a j=>?_;refine gx au.u ao.i rfl (hm.W a) j.ls Θ Θ λv5 p H q s A=>?_;have z:=a.size;exact e _ _ p ((a.aa _).F A) q λr B=>(s r B).imp id λh=>Ω
def pa(l:Λ):Λ:=(l.length:Int)::l
def qm(w:x3)(out v:x1)(l:Λ)(I:x3):Prop:=af (λr=>li out r) w I/\(∃g,an .i64 ao I g v l)/\∀r,li v r->li out r\/w.heap.size<=r
theorem qm.F{J V:x3}{o v u:x1}{fB:Λ}(h:qm w o v l J)(k:qm J v u fB V):qm w o u fB V:=by
 obtain⟨h1,_,e⟩:=h;obtain⟨f,p,q⟩:=k;have z:=h1.size;have s:=f.size;exact⟨⟨Ω,λr x a U j=>f.a8 r x (h1.a8 r x a U j) U λh=>(e r h).elim j λh=>by have:=(Z9.1 a).1;omega⟩,p,λr a=>(q r a).elim (e r) λh=>.inr Ω⟩
theorem GN{k f:o4}{a:r8}{g:Nat}{v u:x1}{fB:Λ}(h:an k e w g v l)(bf:an f a w j u fB)(he:e≠a)(p:af (λr=>li u r) w I):an k e I g v l:=bl h p λr q s=>by
 obtain⟨z,x⟩:=rx h r q;obtain⟨A,y⟩:=rx bf r s;exact he (eJ x y)
theorem SO{k:o4}{a:r8}{g b:Nat}{u:x1}(f:ag w b a cs)(h:an k e w g u l)(he:e≠a)(j:af (λr=>li u r) w I):ag I b a cs:=f.aa j λp=>by
 obtain⟨s,q⟩:=rx h b p;exact he (eJ q f)
theorem wh{out bK:x1}{g f:Nat}{o:Λ}(hm:an .i64 ao w g out o)(h:an .i64 ae w f bK l)(M:o.length+l.length<=100000000000):ak x7 I9 [out,bK] w λv I=>qm w out v (o++pa l) I:=by
 refine ay func97 ?_;rw[aS ai.u h.ls];refine wg hm Ω λz J g1 j A B=>?_;have p:=GN h hm Φ j;have C:qm w out z (o++[(l.length:Int)]) J:=⟨j,⟨g1,A⟩,B⟩;rw[aS ai.u p.ls];refine bT.range l.length (λi a V=>qm w out a (o++(l.length:Int)::l.take i) V/\an .i64 ae V f bK l) Ω ⟨by rw[List.take_zero];exact C,p⟩ ?_ ?_
 .rintro i a V E hi ⟨e,q⟩ G;obtain⟨x,r⟩:=aC (l:=l) hi;obtain⟨_,⟨N,s⟩,_⟩:=id e;refine bt Ω ?_;rw[ba ai.u ae.i Ψ q.ls r];refine wg s (by rw[p9,Y4,j6];omega) λv3 O H y K L=>?_;rw[aL];refine G _ _ ⟨e.F ⟨y,⟨H,?_⟩,L⟩,GN q s Φ y⟩;rw[u5,r];simpa using K
 .rintro a V E ⟨e,_⟩;refine b6 Ω ?_;rw[p8]at e;exact e
def fv(s:al)(sc t:Λ):Bool:=(sc.zip t).all λp=>match s.d6[p.1.toNat]? with
 |some x=>decide (p.2∈aM x)
 |none=>sp
section
variable{w:x3}{ac ad:Nat}{A R:ah}{n:aG}{s:al}{t:aw}
theorem SP{d9 aO:x1}{at_:Int}(h:be w ac ad A R n s t)(f:aF .i64 w aI sc)(P:aF .i64 w d9 szs)(Q:∀v∈sc,0<=v/\v<n.co.length)(S:aF .i64 w aO tl)(ap:tl.length=sc.length):
  ak x7 Jf [Γ ac,.agg #[aI,d9,Δ at_],aO] w λr I=>r= .bool (fv s sc tl)/\Ext w I:=by
 have aq:=h.2.2.2.1.d6;refine ay func103 ?_;refine bj λg1 J au M j=>?_;have j:ag J g1 cT [aI,d9,Δ at_]:=by
  obtain⟨_,_,_,U⟩:=cE f;obtain⟨_,_,_,W⟩:=cE P;rw[U,W]at j ⊢;exact j
 rw[aK cT.p 0 j rfl,aS ai.u (f.W M)];refine bT.range sc.length (λi _ V=>Ext w V/\fv s (sc.take i) (tl.take i)=rs) f.le ⟨M,rfl⟩ ?_ ?_
 .rintro i X V Y hi ⟨z,a⟩ Z;obtain⟨v,B⟩:=aC (l:=sc) hi;obtain⟨y,G⟩:=aC (l:=tl) (i:=i) Ω;have N:=Q v (x5 B);obtain⟨x,C⟩:=aC (l:=s.d6) (i:=v.toNat) Ω;refine bt Ω ?_;rw[ba ai.u ae.i Ψ (f.W z) B];intro aw aa _ _;have E:=z.F aa;refine pD rfl ai.u ae.i (S.W E) G λb o ab=>?_;rw[av Ψ ab];refine(kN (i:=v) (h.W E)).X ?_;rintro _ ax _ ⟨⟨b,m,rfl,H⟩,K⟩;refine⟨.inl K,?_⟩;refine(y6 H.1).X ?_;rintro _ az _ ⟨rfl,O⟩;obtain⟨hm,af⟩:=H.2.2 x N.1 C;have aA:=n3 H N.1 C;have ah:(decide (0<=y/\y<(m:Int))&&b.testBit y.toNat)=decide (y∈aM x):=by
   rw[af,hm];by_cases e:0<=y/\y<(x.un.length:Int)
   .rw[ms e,W7,ms Ω,W7,Int.toNat_of_nonneg e.1];have:=ze e;rw[U5,rc];simpa using this.symm
   .rw[pl e,Bool.false_and];symm;refine pl λhm=>e ?_;unfold aM at hm;obtain⟨h1,_⟩:=T2.1 hm;obtain⟨q,al,rfl⟩:=o8.1 h1;have:=T1.1 al;omega
  have am:(sc.take (i+1)).zip (tl.take (i+1))=(sc.take i).zip (tl.take i)++[(v,y)]:=by
   rw[u5,u5,B,G,l7,l7,List.zip_append Θ];rfl
  have an:fv s (sc.take (i+1)) (tl.take (i+1))=decide (y∈aM x):=by
   unfold fv at a ⊢;rw[am,List.all_append,a,W7];simp[C]
  rw[ah,bA,bM];refine⟨λL=>?_,λL=>?_⟩
  .refine⟨?_,(E.F K).F O⟩;congr 1;symm;have ao:(v,y)∈sc.zip tl:=x5 (U9.2 ⟨B,G⟩);unfold fv;rw[List.all_eq_false];exact⟨_,ao,by simp only[C];simpa using L⟩
  .rw[aL];exact Z _ _ ⟨(E.F K).F O,by rw[an];simpa using L⟩
 .rintro X V Y ⟨z,a⟩;rw[aP,aj];refine⟨λh=>Ω,λ_=>⟨?_,z⟩⟩;rw[p8,o7 Ω]at a;rw[a]
end
def kU(x:br):Λ:=if x.gone≠0 then[]else(aM x).map λv=>x.un.getD v.toNat 0
def mc(x:br):Λ:=[x.gone]++pa (aM x)++kU x
def kV(s:al)(f:bF):Λ:=if f.live≠0 then pa f.sc++((bk f.szs).filter (fv s f.sc)).map (bd f.szs f.cs)else[]
def ob(e:jJ):Λ:=[-1,e.v]++pa e.sc++pa e.dZ
def wi(s:al):Λ:=[s.zero]++s.d6.flatMap mc++s.d7.flatMap (kV s)++s.elims.flatMap ob
theorem rP(l:Λ):(pa l).length=l.length+1:=rfl
def i7(w I:x3)(ac g1 go:Nat)(l:Λ):Prop:=Ext w I/\ag I g1 dx [Γ ac]/\∃v g,ag I go au [v]/\an .i64 ao I g v l/\∀r,li v r->w.heap.size<=r
section
variable{w J V:x3}{ac ad g1 go:Nat}{A R:ah}{n:aG}{s:al}{t:aw}{l fB:Λ}
theorem i7.W(h:i7 w J ac g1 go l)(a:Ext J V):i7 w V ac g1 go l:=by
 obtain⟨h1,e,v,g,f,j,p⟩:=h;exact⟨h1.F a,e.W a,v,g,f.W a,j.W a,p⟩
theorem i7.put{v u:x1}{g:Nat}{K:Unit->x3->Prop}(j:Ext w J)(y:w.heap.size<=go)(f:ag J g1 dx [Γ ac])(e:ag J go au [u])(hm:an .i64 ao J g v l)(p:∀r,li v r->w.heap.size<=r)(q:∀V,af (λr=>r=go) J V->i7 w V ac g1 go l->K () V):aD x7 (o6 au (Γ go) v) J K:=by
 have h:=hm.ls.cells;refine bw (g:=go) (o:=0) au.i h.1 h.2 e Ξ λV a z s=>q V a ⟨j.then a Ω,f.aa a λhe=>?_,v,g,s,bl hm a λr x he=>?_,p⟩
 .have he:=he;subst he;exact m7 (eJ f e) Φ
 .have he:r=go:=he;subst he;obtain⟨c,b⟩:=rx hm r x;exact m7 (eJ b e) Φ
theorem side{v:x1}{g b:Nat}(a:ag J b e cs)(hm:an .i64 ao J g v l)(he:ao≠e)(f:af (λr=>li v r) J V):ag V b e cs:=SO a hm he f
theorem tw{u:x1}{b:Nat}(a:ag J b e cs)(h:ag J go au [u])(he:au≠e)(f:af (λr=>r=go) J V):ag V b e cs:=a.aa f (by grind [eJ])
end
theorem kv{α β:Type}{f:α->List β}{L:List α}{b:Nat}(h:∀a∈L,(f a).length<=b):(L.flatMap f).length<=L.length*b:=by
 induction L with
 |nil=>simp
 |cons a L e=>
  rw[U3,p9,Y4,T7,Nat.one_mul];have:=h a Ξ;have:=e λa j=>h a (by simp[j]);omega
section
variable{w:x3}{ac ad:Nat}{A R:ah}{n:aG}{s:al}{t:aw}
theorem SQ(a:a6 k co s):∀x∈s.d6,(mc x).length<=66:=λx e=>by
 obtain⟨i,hi⟩:=c8.1 e;have f:=a.d6;have h:=(x4.1 hi).1;obtain⟨j,_⟩:=a.var i x _ hi (x6 Ω);have p:=a.cF.2.2 _ (T0 (n:=i) Ω);have:=we x;have q:(kU x).length<=(aM x).length:=by unfold kU;split<;>simp
 unfold mc;rw[p9,p9,rP];simp;omega
theorem SR(e:a6 k co s):∀f∈s.d7,(kV s f).length<=4103:=λf q=>by
 obtain⟨a,h,_⟩:=e.d7 f q;have r:dd f.szs:=by rw[h];exact jl e.cF.2.2 λv j=>⟨(a.scope.1 v j).1,a.d6 v j⟩
 have h1:=jz r;have w:aB f.szs<=4096:=by rw[h];exact a.small
 have x:=S8 (fv s f.sc) (bk f.szs);have p:=a.scope.2;have p:f.sc.length<=6:=p;unfold kV;split
 .rw[p9,rP,r9];omega
 .simp
theorem GO(h:be w ac ad A R n s t)(b9:Laid w)(B:rL s)(fM:s.d7.length<=100000)(fN:s.elims.length<=100000):ak x7 It [Γ ac] w λv I=>Ext w I/\∃g,an .i64 ao I g v (wi s)/\∀r,li v r->w.heap.size<=r:=by
 have af:=h.2.2.2.1;have fO:=af.d6;have fP:=af.cF.2.1;have c2:=SQ af;have c3:=SR af;obtain⟨⟨fQ,fR,fS,fU,ef⟩,_⟩:=id h;obtain⟨_,_,_,_,ca,c4,_,_,c6,_,_,_,⟨cb,c7⟩,cc,c8⟩:=id ef;have fV:ca.length=s.d7.length:=c7.1;have fW:=c8.1;refine je func26 ?_;refine bj λg1 J fX cd a7=>?_;have a7:=a7;rw[av Ψ (a7.cell rfl),cV dx.u];simp only[l9,aW];rw[av Ψ (a7.cell rfl)];refine(rz (h.W cd)).X ?_;rintro _ fY _ ⟨rfl,c9⟩;refine dl au.u ao.i rfl λv4 fZ gb gc da db=>?_;refine bu au.i λgo gd aP dc O=>?_;have gf:=cd.size;have z3:=c9.size;have z4:=da.size;have bE:=(c9.F da).F dc;have O:=O;refine i7.put (cd.F bE) Ω (a7.W bE) O (db.W dc) (λr z=>by obtain⟨e,_⟩:=bD db z;omega) λgg gh cf=>?_;rw[av Ψ (cf.2.1.cell rfl)];refine(vE (h.W cf.1)).X ?_;rintro _ gi _ ⟨rfl,eg⟩;have aP:w.heap.size<=go:=Ω
 refine ce.range n.co.length (λi cg=>i7 w cg ac g1 go ([s.zero]++(s.d6.take i).flatMap mc)) Ω (by rw[List.take_zero,List.flatMap_nil,V2];exact cf.W eg) ?_ ?_
 .rintro i cg eh hi S ei;obtain⟨x,aq⟩:=aC (l:=s.d6) (i:=i) Ω;have a8:([s.zero]++(s.d6.take i).flatMap mc).length<=100000:=by
   have:=kv (L:=s.d6.take i) (b:=66) λa ba=>c2 a (V4 ba);rw[j6]at this;rw[p9];have P:min i s.d6.length*66<=64*66:=V7 _ Ω;simp only[List.length_singleton];omega
  generalize bb:[s.zero]++(s.d6.take i).flatMap mc=ah at S a8;have bc:[s.zero]++(s.d6.take (i+1)).flatMap mc=ah++mc x:=by
   rw[<-bb,u5,aq,l7,List.flatMap_append,List.flatMap_singleton,Y7]
  refine bt Ω ?_;refine bu ae.i λbf ej gj ek ch=>?_;have ch:ag ej bf ae [Δ 0]:=ch;refine bw (g:=bf) (o:=0) ae.i rfl rfl ch Ξ λgk em gl ci=>?_;have ci:=ci;have en:=ek.put em Ω;intro gm de _ _;have cj:=ci.W de;obtain⟨aj,bF,v,g,O,hm,aw⟩:=S.W (en.F de);obtain⟨gn,gp,gq,gu,aU,gv,L,gw,df,gA,eo,ep,gB,gC⟩:=(h.W aj).1.parts;have N:∀{Q:x3}{K:x1->Prop},ag Q g1 dx [Γ ac]->K (Γ ac)->ab x7 (u4 dx (Γ g1)) Q K:=λB ax=>by
   rw[av Ψ (B.cell rfl)];exact ax
  have bg:∀{Q:x3}{K:x1->Prop},ag Q bf ae [Δ (i:Int)]->K (Δ (i:Int))->ab x7 (u4 ae (Γ bf)) Q K:=λB ax=>by
   rw[av Ψ (B.cell rfl)];exact ax
  rw[av Ψ (O.Qz rfl)];refine N bF ?_;rw[aN bV.p 1 df rfl];refine N bF ?_;rw[aN bV.p 2 df rfl];refine bg cj ?_;rw[ew (y:=(i:Int)) (i:=i) rfl ai.u ae.i Ψ ep.ls (ry Ω)];refine N bF (bg cj ?_);have bG:t.bP[gL s i+0]?=σ x.gone:=by rw[h.2.1,rn aq Ω];rfl
  refine(oM eo rfl bG).X ?_;rintro _ gD _ ⟨rfl,ck⟩;refine⟨.inl ck,?_⟩;refine dl au.u ao.i rfl λgE gF gH gI dg er=>?_;refine⟨.inl (ck.F dg),?_⟩;have aQ:=ck.F dg;have V:=hm.W aQ;refine gx au.u ao.i rfl V er.ls Θ Θ λcl es et W cm X=>?_;have eu:=aj.size;have gJ:=aQ.size;have bh:∀r,li cl r->w.heap.size<=r:=λr z=>(cm r z).elim (aw r) λh=>Ω
  have al:=(aj.F aQ).then X λr z he=>by have:=aw r he;omega
  have di:=side (cj.W aQ) V Φ X;have bH:=side (bF.W aQ) V Φ X;have cn:=side (O.W aQ) V Φ X;refine⟨.inr ⟨mH Ψ (di.cell rfl),mH Ψ (bH.cell rfl),trivial⟩,?_⟩;refine(kN (i:=(i:Int)) (h.W al)).X ?_;rintro _ gK _ ⟨⟨gM,gN,rfl,dj⟩,bE⟩;refine pJ.X ?_;rintro _ dk _ ⟨ev,dm,rfl,gO,cp⟩;have dn:=n3 dj Ω (by rw[u7];exact aq);have dp:=bE.F ev;have gP:=we x;have gQ:=(af.var i x _ aq (x6 hi)).1;have gR:=af.cF.2.2 _ (T0 hi);refine(Ey (L:=aM x) (pI (g:=dm) dj.1) (λk vs w hk=>by
    obtain⟨v,ay,rfl⟩:=hk;exact⟨v,by rw[<-dn,x8,ay];rfl,rfl⟩) (λa b bG dq=>⟨dq.1.aa bG λh=>by have:=cp.lt;have h:dk.heap.size<=dm:=h;omega,gW bG (λh=>by have h:dk.heap.size<=0:=h;have:=cp.lt;omega) dq.2⟩) ⟨cp,b9.W (al.F dp)⟩ (by rw[<-dn,r9]) Ω).X ?_
  rintro gS gT _ ⟨ey,gU,_,ez⟩;have Y:=dp.F ey;refine(wh (W.W Y) ez Θ).X ?_;rintro bI cq _ ⟨E,⟨dr,aD⟩,bi⟩;have eB:=al.size;have gV:=Y.size;have bL:∀r,li bI r->w.heap.size<=r:=λr z=>(bi r z).elim (bh r) λh=>Ω
  have aE:=(al.F Y).then E λr z he=>by have:=bh r he;omega
  have eC:=side (di.W Y) (W.W Y) Φ E;have cr:=side (bH.W Y) (W.W Y) Φ E;have bN:=side (cn.W Y) (W.W Y) Φ E;refine i7.put aE aP cr bN aD bL λct aF bl=>?_;have ds:=tw eC bN Φ aF;refine N bl.2.1 (bg ds ?_);refine(kN (i:=(i:Int)) (h.W bl.1)).X ?_;rintro _ eD _ ⟨⟨eE,eF,rfl,dt⟩,eH⟩;refine pJ.X ?_;rintro _ gX _ ⟨eJ,du,rfl,eK,eM⟩;have dv:=eH.F eJ;have dw:=n3 dt Ω (by rw[u7];exact aq);have dy:=bl.W dv;let dz:=ah++[x.gone]++pa (aM x);refine mo.old ⟨Nat,sp,k4,#[Γ du],_,_,_,_,λq I=>i7 w I ac g1 go (dz++(kU x).take q)/\ag I bf ae [Δ (i:Int)],λ_ _ _=>False,rfl,(pI (g:=du) dt.1).s,?_,
   λ_ _ C h=>⟨h.1.W C,h.2.W C⟩,λ_ _ _ C h=>⟨h.1.W C,h.2.W C⟩,λ_ _ _ _ _ h=>h,⟨eM,b9.W dy.1⟩,⟨by rw[List.take_zero,V2];exact dy,ds.W dv⟩,?_,?_,λ_ _ h=>h.elim,λ_ _ _ h=>h.elim⟩
  .rintro _ _ _ _ ⟨_,_,_,_,rfl⟩;rfl
  .rintro _ q _ dA ⟨dC,eN⟩ ⟨bO,rfl,y,bQ,eO⟩ ⟨bR,cu⟩;cases eO;intro gY cw _ _;have cz:=bR.W cw;have cA:=cu.W cw;have dD:(aM x)[q]?=σ (y:Int):=by rw[<-dw,x8,bQ];rfl
   have dE:=x5 dD;have gZ:0<=(y:Int)/\(y:Int)<x.un.length:=by
    unfold aM at dE;obtain⟨h1,_⟩:=T2.1 dE;obtain⟨j,aG,e⟩:=o8.1 h1;have:=T1.1 aG;omega
   refine N cz.2.1 (bg cA ?_);refine(l2 (h.W cz.1)).X ?_;rintro _ g0 _ ⟨rfl,bS⟩;have eP:eL n i y:=⟨Ω,Ω,Ω,by rw[u7,v8,x6 hi,R3];omega⟩;have eR:fG s (i:Int).toNat (y:Int).toNat=x.un.getD y 0:=by
    rw[u7,u7];unfold fG;rw[aq]
   have bm:=cz.W bS;rw[m5 eP,eR,bn,bo];refine N bm.2.1 (bg (cA.W bS) ?_);refine(oT (h.W bm.1)).X ?_;rintro _ g2 _ ⟨rfl,bT⟩;have eS:(decide (0<=(i:Int))&&cG s (i:Int).toNat)=decide (x.gone≠0):=by
    rw[ms Ω,W7,u7];unfold cG;rw[aq]
   have bW:=(cw.F bS).F bT;rw[eS,bA,bM];refine⟨λaH=>?_,λaH=>?_⟩
   .have aR:¬x.gone≠0:=by simpa using aH
    obtain⟨bp,cB,v5,eU,am,G,br⟩:=bm.W bT;rw[av Ψ (am.cell rfl)];have eV:((kU x).take q).length<=100:=by rw[j6];unfold kU;rw[m6 aR,r9];omega
    refine wg G (by simp only[dz,p9,rP,List.length_singleton];omega) λeW eX eY H cC cD=>?_;have eZ:=bp.size;have cE:=bp.then H λr z he=>by have:=br r he;omega
    refine i7.put (g1:=g1) cE aP (side cB G Φ H) (side am G Φ H) cC (λr z=>(cD r z).elim (br r) λh=>Ω) λcH bX aS=>?_;have e0:=tw (side ((cA.W bS).W bT) G Φ H) (side am G Φ H) Φ bX;have cI:=eK;have e1:∀{b:Nat}{e:r8}{cs:List x1},ag dA b e cs->ao≠e->au≠e->ag cH b e cs:=λB h1 P=>tw (side (B.W bW) G h1 H) (side am G Φ H) P bX;refine⟨⟨e1 dC Φ Φ,b9.W aS.1⟩,⟨?_,e0⟩,λh=>by cases h⟩;rw[u5,show(kU x)[q]?=σ (x.un.getD y 0) by unfold kU;rw[m6 aR,x8,dD];rfl,l7,<-Y7];exact aS
   .have aR:x.gone≠0:=by simpa using aH
    refine⟨⟨dC.W bW,eN.W bW⟩,⟨?_,cu.W bW⟩,λh=>by cases h⟩;have e:kU x=[]:=by unfold kU;rw[m5 aR]
    rw[e,List.take_nil]at bm ⊢;exact bm.W bT
  .rintro q dA rfl ⟨bR,cu⟩;rw[aL];refine ei _ ?_;rw[bc];have:(kU x).take (fh eE eF).length=kU x:=o7 (by
    unfold kU;split
    .simp
    .rw[r9,<-dw,r9];exact o5 _)
   rw[this]at bR;unfold mc;rw[<-Y7,<-Y7];exact bR
 .rintro cg eh S;refine b6 Ω ?_;rw[o7 Ω]at S;have e2:([s.zero]++s.d6.flatMap mc).length<=100000:=by
   have:=kv c2;have P:s.d6.length*66<=64*66:=V7 _ Ω;rw[p9];simp only[List.length_singleton];omega
  have N:∀{Q:x3}{K:x1->Prop},ag Q g1 dx [Γ ac]->K (Γ ac)->ab x7 (u4 dx (Γ g1)) Q K:=λB ax=>by
   rw[av Ψ (B.Qz rfl)];exact ax
  refine N S.2.1 ?_;rw[aN bV.p 3 (c6.W S.1) rfl,eI eQ.u (cb.W S.1)];unfold wi;generalize[s.zero]++s.d6.flatMap mc=bK at S e2;refine ce.range ca.length (λj cJ=>i7 w cJ ac g1 go (bK++(s.d7.take j).flatMap (kV s))) Ω (by rw[List.take_zero,List.flatMap_nil,V2];exact S) ?_ ?_
  .rintro j cJ e3 aG M e4;obtain⟨f,aV⟩:=aC (l:=s.d7) (i:=j) Ω;obtain⟨y,bQ⟩:=aC (l:=ca) aG;obtain⟨⟨⟨bJ,aX⟩,_⟩,e5,_⟩:=c7.2 j y f bQ aV;have bY:=e5.ls;obtain⟨aY,cK,_⟩:=af.d7 f (x5 aV);have bZ:dd f.szs:=by rw[cK];exact jl af.cF.2.2 λv ay=>⟨(aY.scope.1 v ay).1,aY.d6 v ay⟩
   have g3:f.sc.length<=6:=aY.scope.2;have e6:f.szs.length=f.sc.length:=by rw[cK];unfold aA;rw[r9]
   have e7:bU f.szs:=⟨Ω,bZ⟩;have g4:=jz bZ;have g5:aB f.szs<=4096:=by rw[cK];exact aY.small
   have a8:(bK++(s.d7.take j).flatMap (kV s)).length<=1000000000:=by
    have:=kv (L:=s.d7.take j) (b:=4103) λa ba=>c3 a (V4 ba);rw[j6]at this;have P:min j s.d7.length*4103<=100000*4103:=V7 _ Ω;rw[p9];omega
   generalize bb:bK++(s.d7.take j).flatMap (kV s)=ah at M a8;have bc:bK++(s.d7.take (j+1)).flatMap (kV s)=ah++kV s f:=by
    rw[<-bb,u5,aV,l7,List.flatMap_append,List.flatMap_singleton,Y7]
   refine bt Ω ?_;refine dh (λdF=>i7 w dF ac g1 go (ah++kV s f)) (λdF e8=>by rw[aL];exact e4 _ (by rw[bc];exact e8)) λaz dG=>?_;rw[c5 rfl eQ.u cT.i (cb.W M.1) aG,bC cT.p cT.i rfl ((cb.W M.1).range bQ)];refine bu ae.i λaZ dH g6 b0 a1=>?_;have a1:ag dH aZ ae [Δ 0]:=a1;refine bu cT.i λe9 fa g7 dI dJ=>?_;refine bw (g:=aZ) (o:=0) ae.i rfl rfl (a1.W dI) Ξ λfb dK g8 cL=>?_;have cL:=cL;have g9:=b0.size;have ha:=a1.lt;have cM:=(aX.W M.1).ls;have fc:=bY.W M.1;refine b4 (vs:=mZ y) cT.i rfl rfl (by intro u bs;simp[mZ]at bs;rcases bs with rfl|rfl|rfl<;>first|rfl|exact cM.cells.2|exact fc.cells.2) (dJ.aa dK λhe=>by have he:=he;omega) λfd dL hb fe=>?_;have dM:=cL.aa dL λhe=>by have he:=he;omega
   have ff:=((b0.F dI).then dK λr z he=>by have he:r=aZ:=he;omega).put dL Ω;have cN:=M.W ff;have dN:∀{Q:x3}{K:x1->Prop},ag Q aZ ae [Δ (j:Int)]->K (Δ (j:Int))->ab x7 (u4 ae (Γ aZ)) Q K:=λB ax=>by
    rw[av Ψ (B.cell rfl)];exact ax
   refine N cN.2.1 (dN dM ?_);refine(p5 (h.W cN.1)).X ?_;rintro _ fg _ ⟨rfl,bx⟩;have dO:=cN.W bx;have fi:(decide (0<=(j:Int))&&eA s (j:Int).toNat)=decide (f.live≠0):=by
    rw[ms Ω,W7,u7];unfold eA;rw[aV]
   rw[fi,bA,bM];refine⟨λaH=>dG _ ?_,λaH=>?_⟩
   .have aR:¬f.live≠0:=by simpa using aH
    unfold kV;rw[m6 aR,V2];exact dO
   have cI:f.live≠0:=by simpa using aH
   obtain⟨cO,fj,hc,ge,cP,bz,dP⟩:=id dO;have fk:=dM.W bx;have dQ:=fe.W bx;rw[av Ψ (cP.Qz rfl),aK cT.p 0 dQ rfl];refine(wh bz (aX.W cO) Ω).X ?_;rintro bI cq _ ⟨E,⟨dr,aD⟩,bi⟩;have hd:=cO.size;have aE:Ext w cq:=cO.then E λr z he=>by have:=dP r he;omega
   refine i7.put (w:=w) (g1:=g1) aE aP (side fj bz Φ E) (side cP bz Φ E) aD (λr z=>(bi r z).elim (dP r) λh=>Ω) λct aF bl=>?_;have dR:∀{b:Nat}{e:r8}{cs:List x1},ag fg b e cs->ao≠e->au≠e->ag ct b e cs:=λB h1 P=>tw (side B bz h1 E) (side cP bz Φ E) P aF;have fm:=dR fk Φ Φ;have dS:=dR dQ Φ Φ;rw[aT cT.p rfl,bC (cs:=[y.d9]) bq.p bq.i rfl (λq u bO=>by
    cases q with
    |zero=>cases bO;exact dS.cell (o:=0+1) rfl
    |succ q=>simp at bO)]
   refine pO.X ?_;rintro _ hf _ ⟨cQ,dT,rfl,hg,fo⟩;have cR:=bl.W cQ;have fp:=pN (g:=dT) (B0:=w.heap.size) (sv:=y.d9) e7;refine mp.old ⟨Nat,sp,kp,#[Γ dT],_,_,_,_,λq I=>i7 w I ac g1 go (ah++pa f.sc++(((bk f.szs).take q).filter (fv s f.sc)).map (bd f.szs f.cs))/\ag I aZ ae [Δ (j:Int)]/\ag I e9 cT [y.aI,y.d9,Δ (y.at_:Int)],λ_ _ _=>False,rfl,fp.s,
    ?_,λ_ _ C h=>⟨h.1.W C,h.2.1.W C,Y1 h.2.2 C.size⟩,λ_ _ _ C h=>⟨h.1.W C,h.2.1.W C,h.2.2.W C⟩,λ_ _ _ _ _ h=>h,⟨fo,bY.W cR.1,cR.1.size⟩,⟨by rw[List.take_zero,List.filter_nil,List.map_nil,V2];exact cR,fm.W cQ,dS.W cQ⟩,?_,?_,λ_ _ h=>h.elim,λ_ _ _ h=>h.elim⟩
   .rintro _ _ _ _ ⟨_,_,_,_,rfl,_⟩;rfl
   .rintro _ aO q _ dU ⟨dV,fq,fs⟩ ⟨bO,rfl,hh,gt,ft,hj,dW⟩ ⟨b3,cS,cU⟩;cases ft;have b5:(bk f.szs)[q]?=σ (b1 f.szs (q:Int)):=q0 bZ Ω;generalize b1 f.szs (q:Int)=tl at b5 dW;intro hl b7 _ _;have cW:=b3.W b7;have dX:=(dW.W b7).ls;refine N cW.2.1 (dN (cS.W b7) ?_);refine(rA (h.W cW.1) dX).X ?_;rintro _ hn _ ⟨rfl,cX⟩;have fu:=kD bZ b5;have fw:(iF s j tl).isSome=rs:=by unfold iF;rw[aV];simp only;rw[m5 cI,fu];rfl
    have fx:jL s j tl=bd f.szs f.cs tl:=by unfold jL;rw[aV]
    have bB:=cW.W cX;rw[m5 fw,fx,bn,bo];refine N bB.2.1 ?_;have dY:=b7.F cX;rw[bC cT.p cT.i rfl (cU.W dY).range];refine(SP (h.W bB.1) ((aX.W bB.1).ls) (bY.W bB.1) (λv ay=>⟨(aY.scope.1 v ay).1,aY.d6 v ay⟩) (dX.W cX) (by rw[xw b5,e6])).X ?_;rintro _ ho _ ⟨rfl,dZ⟩;have ea:=bB.W dZ;have a2:=dY.F dZ;have eb:((bk f.szs).take (q+1)).filter (fv s f.sc)=((bk f.szs).take q).filter (fv s f.sc)++(if fv s f.sc tl=rs then[tl]else[]):=by
     rw[u5,b5,l7,List.filter_append];congr 1;cases ap:fv s f.sc tl<;>simp[ap]
    rw[bM];refine⟨λcY=>?_,λcY=>?_⟩
    .obtain⟨bp,cB,v5,eU,am,G,br⟩:=ea;rw[av Ψ (am.cell rfl)];have eV:(((bk f.szs).take q).filter (fv s f.sc)).length<=4096:=by
      have:=S8 (fv s f.sc) ((bk f.szs).take q);rw[j6]at this;omega
     refine wg G (by simp only[p9,rP,r9];omega) λeW eX eY H cC cD=>?_;have eZ:=bp.size;have cE:=bp.then H λr z he=>by have:=br r he;omega
     refine i7.put cE aP (side cB G Φ H) (side am G Φ H) cC (λr z=>(cD r z).elim (br r) λh=>Ω) λcH bX aS=>?_;have cZ:∀{b:Nat}{e:r8}{cs:List x1},ag dU b e cs->ao≠e->au≠e->ag cH b e cs:=λB h1 P=>tw (side (B.W a2) G h1 H) (side am G Φ H) P bX;refine⟨⟨cZ dV Φ Φ,bY.W aS.1,aS.1.size⟩,⟨?_,cZ cS Φ Φ,cZ cU Φ Φ⟩,λh=>by cases h⟩;rw[eb,m5 cY,n9,List.map_singleton,<-Y7];exact aS
    .refine⟨⟨dV.W a2,fq.W a2,Y1 fs a2.size⟩,⟨?_,cS.W a2,cU.W a2⟩,λh=>by cases h⟩;rw[eb,m6 (by rw[cY];decide),V2];exact ea
   .rintro q dU rfl ⟨b3,_⟩;refine dG _ ?_;rw[o7 Ω]at b3;unfold kV;rw[m5 cI,<-Y7];exact b3
  .rintro cJ e3 M;refine b6 Ω ?_;rw[o7 Ω]at M;have fy:(bK++s.d7.flatMap (kV s)).length<=1000000000:=by
    have:=kv (b:=4103) c3;have P:s.d7.length*4103<=100000*4103:=V7 _ Ω;rw[p9];omega
   refine N M.2.1 ?_;rw[aN bV.p 4 (c6.W M.1) rfl,eI iq.u (cc.W M.1)];generalize bK++s.d7.flatMap (kV s)=b8 at M fy;refine ce.range c4.length (λj c0=>i7 w c0 ac g1 go (b8++(s.elims.take j).flatMap ob)) Ω (by rw[List.take_zero,List.flatMap_nil,V2];exact M) ?_ ?_
   .rintro j c0 fz aG Z fA;obtain⟨e,he⟩:=aC (l:=s.elims) (i:=j) Ω;obtain⟨x,C⟩:=aC (l:=c4) aG;obtain⟨bx,⟨⟨bJ,aX⟩,_⟩,⟨hp,ec⟩,_⟩:=c8.2 j x e C he;obtain⟨hq,dJ⟩:=B e (x5 he);have a8:(b8++(s.elims.take j).flatMap ob).length<=10000000000:=by
     have:=kv (L:=s.elims.take j) (f:=ob) (b:=6004) λa ba=>by
      obtain⟨h1,P⟩:=B a (V4 ba);unfold ob;simp only[p9,rP,Y4,List.length_nil];omega
     rw[j6]at this;have P:min j s.elims.length*6004<=100000*6004:=V7 _ Ω;rw[p9];omega
    generalize bb:b8++(s.elims.take j).flatMap ob=ah at Z a8;have bc:b8++(s.elims.take (j+1)).flatMap ob=ah++ob e:=by
     rw[<-bb,u5,he,l7,List.flatMap_append,List.flatMap_singleton,Y7]
    refine bt Ω ?_;rw[c5 rfl iq.u b2.i (cc.W Z.1) aG,bC b2.p b2.i rfl ((cc.W Z.1).range C)];refine bu b2.i λge dH hr b0 a1=>?_;have cM:=(aX.W Z.1).ls;have fB:=(ec.W Z.1).ls;refine b4 (vs:=kc x) b2.i rfl rfl (by intro u bs;simp[kc]at bs;rcases bs with rfl|rfl|rfl<;>first|rfl|exact cM.cells.2|exact fB.cells.2) a1 λfa fD hs a6=>?_;have fE:=b0.put fD Ω;intro fb ed _ _;have a6:=a6.W ed;obtain⟨aj,U,v,g,O,hm,aw⟩:=Z.W (fE.F ed);rw[av Ψ (O.cell rfl),aK b2.p 0 a6 rfl,aK b2.p 1 a6 rfl,aK b2.p 2 a6 rfl,bx];refine sj (l:=[-1,e.v]) au.u ao.i Ω rfl Ψ λht hu fd hv aJ fF=>?_;refine⟨.inl aJ,?_⟩;have V:=hm.W aJ;refine gx au.u ao.i rfl V fF.ls Θ Θ λcl es et W cm X=>?_;have eu:=aj.size;have hx:=aJ.size;have bh:∀r,li cl r->w.heap.size<=r:=λr z=>(cm r z).elim (aw r) λh=>Ω
    have al:=(aj.F aJ).then X λr z he=>by have:=aw r he;omega
    have c1:=side (a6.W aJ) V Φ X;have bH:=side (U.W aJ) V Φ X;have cn:=side (O.W aJ) V Φ X;refine⟨.inr ⟨mH Ψ (c1.cell rfl),Go.Vc.kG λK=>aT b2.p rfl,mH Ψ (c1.cell rfl),Go.Vc.kG λK=>aT b2.p rfl,trivial⟩,?_⟩;refine(wh W (aX.W al) Θ).X ?_;rintro bI cq _ ⟨E,⟨dr,aD⟩,bi⟩;have eB:=al.size;have bL:∀r,li bI r->w.heap.size<=r:=λr z=>(bi r z).elim (bh r) λh=>Ω
    have aE:=al.then E λr z he=>by have:=bh r he;omega
    have fH:=side c1 W Φ E;have cr:=side bH W Φ E;have bN:=side cn W Φ E;refine⟨.inr ⟨mH Ψ (fH.cell rfl),Go.Vc.kG λK=>aT b2.p rfl,trivial⟩,?_⟩;refine(wh aD (ec.W aE) (by simp[rP];omega)).X ?_;rintro hy ct _ ⟨aF,⟨hz,fI⟩,fJ⟩;have hA:=aE.size;have fK:=aE.then aF λr z he=>by have:=bL r he;omega
    refine i7.put fK aP (side cr aD Φ aF) (side bN aD Φ aF) fI (λr z=>(fJ r z).elim (bL r) λh=>Ω) λeD hB fL=>?_;rw[aL];refine fA _ ?_;rw[bc];unfold ob;rw[<-Y7,<-Y7];exact fL
   .rintro c0 fz Z;refine b6 Ω ?_;rw[o7 Ω]at Z;obtain⟨aj,U,v,g,O,hm,aw⟩:=Z;rw[av Ψ (O.cell rfl)];intro hC ee _;exact⟨aj.F ee,g,hm.W ee,aw⟩
end
end Go.Proofs.YtkcigodpbndobaaGreatDoor
namespace Go.Vc
open Go Go.RowKit Go.Shelf Go.Proofs Go.Sort
theorem SS{g m:Nat}{os:Array Obj}(a:ag w g e cs)(s:l.length<=cs.length):
  ag (Sort.grow (putRow (Y9 .i64) (Sort.ahead w m) g 0 l.toArray) os) g e (ints .i64 l++cs.drop l.length)/\∀r,r<w.heap.size->r≠g->(Sort.grow (putRow (Y9 .i64) (Sort.ahead w m) g 0 l.toArray) os).heap[r]?=w.heap[r]?:=by
 have p:=a.lt;have f:∀r,r<w.heap.size->(Sort.grow (putRow (Y9 .i64) (Sort.ahead w m) g 0 l.toArray) os).heap[r]?=(w.heap.modify g (onCells (putCells (Y9 .i64) 0 l.toArray)))[r]?:=λr j=>by
  show((w.heap.modify g (onCells (putCells (Y9 .i64) 0 l.toArray)))++os)[r]?=_
  grind
 refine⟨?_,λr j q=>?_⟩
 .unfold ag at a ⊢;rw[f g p,Array.getElem?_modify,m5 rfl,a];show σ (Obj.cells (putCells (Y9 .i64) 0 l.toArray cs.toArray) e (0,0))=_;refine congrArg σ (congrArg (λc=>Obj.cells c e (0,0)) ?_);apply Array.ext
  .simp[Sort.putCells,ints];omega
  .intro i h1 x;have h1:i<cs.length:=by simpa[Sort.putCells]using h1
   simp only[Sort.putCells,Array.getElem_mapIdx,List.getElem_toArray,List.size_toArray];by_cases h:i<l.length
   .rw[m5 Ω,List.getElem_append_left (by simpa[ints]using h)];simp[ints,h]
   .rw[m6 Ω,List.getElem_append_right (by simp[ints];omega)];simp[ints];congr 1;omega
 .rw[f r j,Array.getElem?_modify,m6 (λe=>q e.symm)]
theorem SU{P:X2}{B:Ren}(L:Lays.n189 P B){g:Nat}{v:x1}(h:an .i64 e w g v l)(W:l.length<1000000):
  ak P (B.f 189) [v] w λ_ I=>af (λr=>r=g) w I/\∃m,m.Perm l/\m.Pairwise (·<= ·)/\an .i64 e I g v m:=by
 have G:=enters_of L.f189 Ψ rfl;have H:∀p c,v= .slice p 0 c->l=[]->ak P (B.f 189) [v] w λ_ I=>af (λr=>r=g) w I/\∃m,m.Perm l/\m.Pairwise (·<= ·)/\an .i64 e I g v m:=λp c J R=>by
  refine .code G ?_;rw[J];refine(calls_of_every_depth λD=>AnyS.slices_Sort_int_none_in L D p c w).X ?_;rintro X I ⟨rfl,rfl⟩;exact⟨_,rfl,cA.refl _,af.refl _ _,l,.refl _,by rw[R];exact .nil,by rw[<-J];exact h⟩
 obtain⟨Y,⟨s,S⟩|⟨c,cs,s,z,Z,hm,K,C⟩⟩:=id h
 .exact H _ _ s (c9 S)
 by_cases M:l=[]
 .refine H (σ ⟨g,0,ν⟩) c ?_ M;rw[s,M];rfl
 have K:cs.length=c:=by simpa using K
 have C:cs.take l.length=ints .i64 l:=by simpa using C
 have T:Go.Sort.Holds (Y9 .i64) w g 0 l.toArray:=by
  intro j A;have A:j<l.length:=by simpa using A
  have h1:cs[j]?=σ (Δ l[j]):=by
   have:(cs.take l.length)[j]?=σ (Δ l[j]):=by
    rw[C];simp[ints,A]
   rw[List.getElem?_take,m5 A]at this;exact this
  refine⟨?_,?_⟩
  .have:=z.cell h1;rw[V0,this];simp[A]
  .grind [x3.frozen?,ag]
 have N:=calls_of_every_depth λD=>AnyS.slices_Sort_int_in L D g 0 c l w T z.lt Ω;rw[<-s]at N;refine .code G (N.X ?_);rintro _ I ⟨rfl,n,os,rfl⟩;have E:(l.mergeSort λx y=>decide (x<=y)).length=l.length:=List.length_mergeSort l;obtain⟨V,O⟩:=SS (m:=n) (os:=os) (l:=l.mergeSort λx y=>decide (x<=y)) z Ω;have Q:w.heap.size<=(Sort.grow (putRow (Y9 .i64) (Sort.ahead w n) g 0 (l.mergeSort λx y=>decide (x<=y)).toArray) os).heap.size:=by
  show w.heap.size<=((w.heap.modify g _)++os).size;simp
 refine⟨_,rfl,⟨rfl,⟨rfl,Nat.le_add_right _ _⟩,rfl,Q,λr o q U=>?_⟩,⟨Q,λr o q _ F=>?_⟩,_,List.mergeSort_perm l (λx y=>decide (x<=y)),?_,?_⟩
 .have F:r≠g:=λhe=>by subst he;unfold ag at z;rw[z]at q;cases q;cases U
  rw[O r (Z9.1 q).1 F];exact q
 .rw[O r (Z9.1 q).1 F];exact q
 .have:=List.pairwise_mergeSort (le:=λx y:Int=>decide (x<=y)) (λa b c h1 aa=>by simp at*;omega) (λa b=>Θ) l;exact this.imp λh=>by simpa using h
 .refine⟨by simp[ints],.inr ⟨c,_,by rw[s,E],V,Ω,hm,?_,?_⟩⟩
  .simp[ints,E];omega
  .rw[V1,E,List.take_append_of_le_length (by simp[ints]),o7 (by simp[ints])]
end Go.Vc
namespace Go.Vc
open Go Go.RowKit
theorem SV{P:X2}{t f:r8}{k:o4}{b c:Nat}{z x:x1}{base:Option S6}{m:Λ}(p:P.underlying t=σ (.slice e))(hi:aR P e 1 b z)(C:z.cells.size=1)(h:aF k w (.slice base l.length c) l)(E:aF k w x m)(hm:0<m.length)(q:c<l.length+m.length)(F:(l.length+m.length)*b<=140737488355328)(G:l.length+m.length<=9223372036854775807)(H:∀r I,Ext w I->an k e I w.heap.size r (l++m)->K r I):aD P (j4 #[t,t] f #[.slice base l.length c,x]) w K:=by
 obtain⟨i,hi,s,rfl,J⟩:=hi;obtain⟨L,X,Y,Z,aa,he,ab,ac,y,M⟩:=id h;cases he;have N:(ints k l).length=l.length*i.size:=by rw[L,s]
 have O:(j5.firstCells i.size l.length (.slice base l.length c)).run P w.drew= .ok (ints k l).toArray w.drew:=by
  cases A:base with
  |none=>
   have Q:l=[]:=by
    cases l with
    |nil=>rfl
    |cons a l=>have:=y Ξ;rw[A]at this;cases this
   subst Q;exact run_firstCells_none _ _ _ _ _
  |some a=>
   refine run_firstCells_some (w:=w.drew) i.size l.length a l.length c (ints k l) N λj u B=>?_;have R:0<l.length:=by have:=(x4.1 B).1;simp[ints]at this;omega
   have:=y R;rw[A]at this;cases this;rw[W0];exact M j u B
 have S:Src P i.size t x m.length (ints k m) w:=by
  rw[s];exact b5.src E p (ku _ _) hm
 have T:=run_append_grow_src w t t f e i z p hi J base l.length c (ints k l) O x m.length (ints k m) S q Ω (growslice_fits q F);have U:l.length+m.length<=grownCap w (l.length+m.length) c e:=grownCap_ge w _ _ _;have V:=grownCap_le_maxLen w (l.length+m.length) c e (by simpa[maxLen]using G);have W:Ext w (w.drew.alloc (.cells ((ints k l++ints k m).toArray++S1 z.cells (grownCap w (l.length+m.length) c e-(l.length+m.length))) e)):=(rR w _).F (qv _ _);refine .of T ((qu w _ (Nat.le_succ _)).F (qw _ _)) (H _ _ W ⟨by simp[ints],.inr ⟨_,((ints k l++ints k m).toArray++S1 z.cells (grownCap w (l.length+m.length) c e-(l.length+m.length))).toList,?_,?_,?_,V,?_,?_⟩⟩)
 .rw[p9]
 .show _=_;rw[Array.toArray_toList];exact heap_alloc_new w.drew _
 .rw[p9];exact U
 .simp[ints,size_zeroCells,C];omega
 .simp[ints];rw[<-Y7];exact List.take_left' Ξ
end Go.Vc
namespace Go.Proofs.YtkcigodpbndobaaGreatDoor
open Go Go.Vc Go.RowKit Go.Proofs Go.Proofs.Tryz
set_option maxRecDepth 100000
theorem SX{v:x1}{g:Nat}(h:an .i64 ae w g v l)(a:l.length<1000000):
  ak x7 BH [v] w λ_ I=>af (λr=>r=g) w I/\∃m,m.Perm l/\m.Pairwise (·<= ·)/\an .i64 ae I g v m:=SU NI h a
section
variable{w:x3}{ac ad:Nat}{A R:ah}{n:aG}{s:al}{t:aw}
theorem GP{bK:x1}(h:be w ac ad A R n s t)(j:aF .i64 w bK l)(L:∀v∈l,0<=v/\v<n.co.length)(X:l.length<=1000):
  ak x7 IZ [Γ ac,bK] w λr I=>Ext w I/\∃g,w.heap.size<=g/\an .i64 ae I g r (aA n.co l):=by
 have p:=h.2.2.2.1;have Y:=p.d6;refine ay func84 ?_;rw[aS ai.u j];refine jy ai.u ae.i Ω Ω λgz J Z B M=>?_;have a:=an.of (n:=l.length) (bW.full M Ξ (by simp[maxLen];omega));generalize (x1.slice (σ ⟨gz,0,ν⟩) l.length l.length)=N at*;have q:(aA n.co l).length=l.length:=by simp[aA]
 rw[aS ai.u (j.W B)];refine ce.range l.length (λi V=>Ext w V/\an .i64 ae V gz N (upto (aA n.co l) 0 i)) Ω ⟨B,by rw[mK,q];exact a⟩ ?_ ?_
 .rintro i V O hi ⟨e,f⟩ P;refine bt Ω ?_;obtain⟨v,y⟩:=aC (l:=l) hi;have Q:=L v (x5 y);rw[ba ai.u ae.i Ψ (j.W e) y];refine(kN (i:=v) (h.W e)).X ?_;rintro _ aa _ ⟨⟨b,m,rfl,S⟩,C⟩;refine uK.X ?_;rintro _ ab _ ⟨rfl,E⟩;obtain⟨x,G⟩:=aC (l:=s.d6) (i:=v.toNat) Ω;obtain⟨z,a⟩:=aC (l:=n.co) (i:=v.toNat) Ω;have hm:=(S.2.2 x Q.1 G).1;have af:=(p.var _ x z G a).1;have ag:=p.cF.2.2 z (x5 a);have ah:(upto (aA n.co l) 0 i).length=l.length:=by rw[lg,q]
  have H:=(f.W C).W E;rw[gb rfl ai.u ae.i H Ω];refine gd ae.i H Ω λaj U _ K=>?_;rw[aL];have W:(aA n.co l)[i]?=σ (m:Int):=by
   unfold aA;rw[x8,y,Z0,v8,a];show σ z=_;congr 1;omega
  rw[mM W]at K;exact P _ ⟨((e.F C).F E).put U Ω,K⟩
 .rintro V O ⟨e,f⟩;refine b6 Ω ⟨e,gz,Ω,?_⟩;rw[<-q,mL]at f;exact f
theorem GQ(a:a6 k co s)(j:Int):(nc s j).length<=6:=by
 unfold nc;split
 .rename_i f e;exact(a.d7 f (x5 e)).1.scope.2
 .simp
theorem GR{i:Int}(h:be w ac ad A R n s t)(aE:s.d7.length<=1000):ak x7 I3 [Γ ac,Δ i] w λr I=>Ext w I/\∃g,w.heap.size<=g/\an .i64 ae I g r (a1 n.co s i):=by
 have K:=h.2.2.2.1;refine ay func89 ?_;refine bj λaj J aF B M=>?_;rw[av Ψ (M.cell rfl)];refine(tj (h.W B)).X ?_;rintro aG V _ ⟨C,aH,Q,_⟩;have aI:=B.size;have aJ:=C.size;have aK:=M.lt;have aM:(cR s i s.d7.length).length<=s.d7.length:=zK;have S:∀q,(((cR s i s.d7.length).take q).flatMap (nc s)).length<=6000:=λq=>by
  have h1:=kv (L:=(cR s i s.d7.length).take q) (f:=nc s) (b:=6) λa _=>GQ K a;rw[j6]at h1;omega
 rw[aS ai.u Q.ls];refine bT.range (cR s i s.d7.length).length (λj out E=>Ext V E/\∃g,V.heap.size<=g/\an .i64 ae E g out (((cR s i s.d7.length).take j).flatMap (nc s))) Ω ⟨Ext.refl _,V.heap.size,o5 _,an.nil _ _ _ _⟩ ?_ ?_
 .rintro q out E al am ⟨e,g,y,G⟩ ao;refine bt Ω ?_;obtain⟨j,N⟩:=aC (l:=cR s i s.d7.length) am;obtain⟨aN,f,W,_,_,_⟩:=zM N;have ap:j=((j.toNat:Nat):Int):=Ω
  rw[ba ai.u ae.i Ψ (Q.ls.W e) N,ap];refine(rE (h.W ((B.F C).F e)) W).X ?_;rintro sv aq _ ⟨O,gs,aO,au⟩;have X:nc s j=f.sc:=by unfold nc;rw[W]
  have aw:=GQ K j;rw[X]at aw;have Y:=S q;refine iO ai.u ae.i rfl (G.W O) au.ls Ω Ω λaP ax Z aQ H P=>?_;rw[aL];have z3:=e.size;have z4:=O.size;refine ao _ _ ⟨(e.F O).put P y,ax,Ω,?_⟩;rw[u5,N,l7,List.flatMap_append,List.flatMap_singleton,X];exact H
 .rintro out E al ⟨e,g,y,G⟩;refine b6 Ω ?_;have Y:=S (cR s i s.d7.length).length;rw[p8]at G Y;refine(SX G Ω).X ?_;rintro _ aq _ ⟨az,m,ab,U,aA⟩;have aR:=ab.length_eq;refine(EL aA Ω).X ?_;rintro aY Z _ ⟨P,H⟩;rw[jX];have aT:=EA m m.length;have z3:=e.size;have af:Ext V Z:=(e.put az y).put P y;have aU:aj<V.heap.size:=Ω
  have ag:∀r,li aY r->r=g:=λr z=>(bD H z).1;refine(Gg (p:=λx=>decide (x=i)) H Ω λI x aB _=>?_).X ?_
  .refine ay func178 ?_;rw[av Ψ ((((M.W C).W af).aa aB λz=>by have:=ag _ z;omega).cell rfl),bi];exact⟨rfl,Ext.refl _⟩
  .rintro r aV _ ⟨aD,ah,_⟩;refine⟨(B.F C).F (af.put (aD.X λr _ z=>ag r z) y),g,Ω,?_⟩;rw[SD K ab U]at ah;exact ah
theorem GS{i:Int}(h:be w ac ad A R n s t)(a:s.d7.length<=1000):ak x7 Ir [Γ ac,Δ i] w λr I=>r=Δ ((a1 n.co s i).length:Int)/\Ext w I:=by
 refine ay func22 ?_;refine(GR h a).X ?_;rintro _ J _ ⟨e,g,_,hm⟩;rw[aS ai.u hm.ls];exact⟨rfl,e⟩
theorem SY(l:Λ)(z:Int):aB (l++[z])=z*aB l:=by
 rw[pB];simp[aB,Int.mul_comm]
theorem GU{i:Int}(h:be w ac ad A R n s t)(Y:s.d7.length<=1000):ak x7 Is [Γ ac,Δ i,Δ most] w λr I=>r=Δ (gS n s i most)/\Ext w I:=by
 have M:=h.2.2.2.1;refine ay func23 ?_;rw[cV dx.u];simp only[l9,aW];refine aV (λv J=>v= .bool (decide (¬(iG n s i=rs/\0<=most/\most<=3)))/\Ext w J) ?_ ?_
 .rintro _ J ⟨rfl,e⟩;rw[aj];refine⟨λZ=>⟨by unfold gS;rw[m5 Z],e⟩,λz=>?_⟩;have z:=Z2.1 z;have aa:0<=i/\i<n.co.length:=by
   have:=z.1;unfold iG at this;simp at this;omega
  refine(GR (h.W e) Y).X ?_;rintro bK V _ ⟨E,g,B,hm⟩;have j:=e.F E;have G:gS n s i most=if most<((a1 n.co s i).length:Int)\/4096<n.co.getD i.toNat 0*aB (aA n.co (a1 n.co s i))then 12 else 0:=by
   unfold gS;rw[m6 (λh=>h z)]
  have aT:(a1 n.co s i).length<=64:=by
   have h1:=S8 (λv=>decide (v≠i)&&(bs s i).any λf=>decide (v∈f.sc)) ((Z4 n.co.length).map λv:Nat=>(v:Int));have N:=M.cF.2.1;unfold a1;simp only[r9,List.length_range]at h1;omega
  rw[aS ai.u hm.ls,bG,aj];refine⟨λaU=>⟨by rw[G,m5 (.inl Ω)],j⟩,λaX=>?_⟩;rw[aS ai.u hm.ls,aS ai.u hm.ls];have O:=hm.ls;obtain⟨_,aY,aZ,base,cap,q,ab,a2,_⟩:=id O;subst q;rw[eB ai.u ae.i iN mB B2 Ω (o5 _) ab];have af:aF .i64 V (.slice base (a1 n.co s i).length (a1 n.co s i).length) (a1 n.co s i):=by
   obtain⟨ag,b,o,a6,a7,he,a8,ba,ah,al⟩:=id O;cases he;exact⟨ag,b,o,base,_,rfl,o5 _,Ω,ah,al⟩
  have an:(x1.slice (if(a1 n.co s i).length=0 then base else base.map λx=>x.add (0*1)) ((a1 n.co s i).length-0) ((a1 n.co s i).length-0))= .slice base (a1 n.co s i).length (a1 n.co s i).length:=by
   have:(base.map λx:S6=>x.add (0*1))=base:=by
    cases base with
    |none=>rfl
    |some a=>simp[S6.add]
   rw[this];simp
  rw[an];refine dl ai.u ae.i rfl λv3 bb bc bd P ao=>?_;refine SV ai.u ae.i rfl (af.W P) ao.ls Ξ Ξ Θ Θ λv4 bf ap aq=>?_;have Q:=P.F ap;have S:∀v∈a1 n.co s i++[i],0<=v/\v<n.co.length:=λv q=>by
   rcases o9.1 q with q|q
   .exact (fU.1 q).1
   .cases b8.1 q;exact aa
  refine(GP (h.W (j.F Q)) aq.ls S Θ).X ?_;rintro bg bh _ ⟨au,bi,_,av⟩;refine(Cj av.ls).X ?_;rintro _ bj _ ⟨aw,bk,ax,aC⟩;have U:=((j.F Q).F au).F aw;have aD:∀x∈aA n.co (a1 n.co s i++[i]),1<=x/\x<=32:=jl M.cF.2.2 S;have W:bU (aA n.co (a1 n.co s i++[i])):=⟨by simp[aA];omega,aD⟩;have bl:aB (aA n.co (a1 n.co s i++[i]))=n.co.getD i.toNat 0*aB (aA n.co (a1 n.co s i)):=by
   unfold aA;rw[n9,List.map_singleton,SY]
  by_cases aE:4096<aB (aA n.co (a1 n.co s i++[i]))
  .rw[ax W aE,bn,bo];refine bu bq.i λam aG aH H K=>?_;refine b4 (vs:=[.slice ν 0 0]) bq.i rfl rfl (by simp[x1.oneCell']) K λaI L aJ aK=>?_;rw[bz,aj];exact⟨λ_=>⟨by rw[G,m5 (.inr Ω)],U.F (H.put L Ω)⟩,λh=>m7 Φ h⟩
  .obtain⟨bm,aO,rfl,_,aL⟩:=aC W Ω;rw[bn,bo];refine bu bq.i λam aG aH H K=>?_;refine b4 (vs:=[aO]) bq.i rfl rfl (by intro u aM;rw[b8.1 aM];exact aL.ls.cells.2) K λaI L aJ aK=>?_;rw[bz,aj];exact⟨λh=>m7 rfl h,λ_=>⟨by rw[G,m6 Ω],U.F (H.put L Ω)⟩⟩
 .intro az y;rw[aP,aj];have C:∀{p:Prop}[Decidable p],¬p->(x1.bool rs)= .bool (decide ¬p):=λh=>by rw[ms h]
  refine⟨λaN=>y _ _ ⟨C λh=>by have:=h.1;unfold iG at this;simp at this;omega,Ext.refl _⟩,λaN=>?_⟩;refine(vE h).X ?_;rintro _ J _ ⟨rfl,e⟩;rw[cJ,aj];refine⟨λh1=>y _ _ ⟨C λh=>by have:=h.1;unfold iG at this;simp at this;omega,e⟩,λh1=>?_⟩;refine(oT (i:=i) (h.W e)).X ?_;rintro _ V _ ⟨rfl,E⟩;have j:=e.F E;rw[ms Ω,W7,bM];refine⟨λB=>y _ _ ⟨C λh=>by have:=h.1;unfold iG at this;simp[B]at this,j⟩,λB=>?_⟩;rw[aP,aj];refine⟨λN=>y _ _ ⟨C λh=>Ω,j⟩,λN=>?_⟩;rw[bG];refine y _ _ ⟨?_,j⟩;have aQ:iG n s i=rs:=by
   unfold iG;rw[ms ⟨Ω,Ω⟩,B];rfl
  congr 1;rw[decide_eq_decide];exact⟨λX aR=>Ω,λX=>Decidable.byContradiction λaR=>X ⟨aQ,Ω,Ω⟩⟩
def oc(s:al)(l:Λ):Int:=match kS s l with
 |some j=>j
 |none=>-1
theorem SZ{bK:x1}(h:be w ac ad A R n s t)(p:aF .i64 w bK l):ak x7 BM [Γ ac,bK] w λr I=>r=Δ (oc s l)/\Ext w I:=by
 refine(Rh h p).X ?_;rintro _ J _ ⟨⟨r,rfl,x⟩,y⟩;refine⟨?_,y⟩;rcases x with⟨rfl,a⟩|⟨j,f,rfl,e,z,B,a⟩
 .have:kS s l=ν:=List.findIdx?_eq_none_iff.2 λf e=>by
   have:=a f e;simp only[Bool.and_eq_false_iff,decide_eq_false_iff_not];exact Classical.not_and_iff_not_or_not.1 this
  unfold oc;rw[this]
 .obtain⟨C,rfl⟩:=x4.1 e;have:kS s l=σ j:=List.findIdx?_eq_some_iff_getElem.2 ⟨C,by simp[z,B],λq E=>by
   have:=a q _ E (x6 Ω);simpa using this⟩
  unfold oc;rw[this]
end
def fV(s:al)(sc:Λ)(pos:Int)(v:Int):Nat->Nat->Λ->List (Λ)
 |0,_,tl=>[tl]
 |m+1,p,tl=>if(p:Int)=pos then fV s sc pos v m (p+1) (tl.set p v)else(dn s (sc.getD p 0)).flatMap λx=>fV s sc pos v m (p+1) (tl.set p x)
theorem wj{α:Type}{l:List α}{p:Nat}{x:α}(h:p<l.length):(l.set p x).take (p+1)=l.take p++[x]:=by
 grind [u5,List.take_set_of_le]
theorem wk{s:al}{sc:Λ}{pos:Nat}{v:Int}:∀(m p:Nat)(tl:Λ),sc.length=p+m->tl.length=sc.length->fV s sc pos v m p tl=(jM (l3 s pos v (sc.drop p) p)).map (tl.take p++ ·)
 |0,p,tl,h1,e=>by
  grind [fV,l3,jM]
 |m+1,p,tl,h1,e=>by
  have f:p<sc.length:=Ω
  obtain⟨u,q⟩:=aC (l:=sc) f;have h:sc.drop p=u::sc.drop (p+1):=by grind [X0]
  have j:sc.getD p 0=u:=by grind
  rw[h];unfold fV l3;rw[jM];by_cases a:p=pos
  .rw[m5 Ω,m5 a,List.flatMap_singleton,wk m (p+1) (tl.set p v) Ω (by grind),T8,wj Ω]
   grind [V3]
  .rw[m6 Ω,m6 a,j,List.map_flatMap];congr 1;funext x;rw[wk m (p+1) (tl.set p x) Ω (by grind),T8,wj Ω]
   grind [V3]
theorem Ta{s:al}{m p:Nat}(h1:sc.length=p+m)(e:tl.length=sc.length)(f:a.length=sc.length)(h:a.take p=tl.take p):fV s sc pos v m p a=fV s sc pos v m p tl:=by
 grind [wk]
theorem Tb{s:al}(h:tl.length=sc.length):fV s sc pos v sc.length 0 tl=cQ s sc pos v:=by
 rw[wk sc.length 0 tl Ω h];unfold cQ;simp
section
variable{w:x3}{ac ad:Nat}{A R:ah}{n:aG}{s:al}{t:aw}
theorem zQ{i:Int}(h:be w ac ad A R n s t):ak x7 KT [Γ ac,Δ i,Δ v] w λr I=>Ext w I/\r=Δ (if(eF s i v).isSome=rs then 0 else 1):=by
 have M:=h.2.2.2.1.d6;refine ay func254 ?_;rw[cV dx.u];simp only[l9,aW];refine aV (λr J=>r= .bool (!(eF s i v).isSome)/\Ext w J) ?_ ?_
 .rintro _ J ⟨rfl,C⟩;rw[bM];exact⟨λp=>⟨C,by rw[m6 (by simpa using p)]⟩,λp=>⟨C,by rw[m5 (by simpa using p)]⟩⟩
 intro az E;refine(oT h).X ?_;rintro _ V _ ⟨rfl,q⟩;rw[bM];refine⟨λa=>E _ _ ⟨?_,q⟩,λa=>?_⟩
 .rw[V8,rc]at a;have y:eF s i v=ν:=by
   unfold eF;rw[m5 a.1];have z:=a.2;unfold cG at z;cases e:s.d6[i.toNat]? with
   |none=>rfl
   |some x=>
    rw[e]at z;simp only;rw[m6 λh=>by simp[h.1]at z]
  rw[y];rfl
 refine(kN (i:=i) (h.W q)).X ?_;rintro _ N _ ⟨⟨b,m,rfl,B⟩,H⟩;refine(y6 B.1).X ?_;rintro _ O _ ⟨rfl,K⟩;rw[bA];refine E _ _ ⟨?_,(q.F H).F K⟩;congr 2;by_cases f:0<=i/\i<n.co.length
 .obtain⟨x,e⟩:=aC (l:=s.d6) (i:=i.toNat) Ω;rw[Rk B f.1 e];unfold eF;rw[m5 f.1,e];have L:x.gone=0:=by
   rw[ms f.1,W7]at a;unfold cG at a;rw[e]at a;simpa using a
  simp only;by_cases j:v∈aM x
  .rw[ms j,m5 ⟨L,j⟩];rfl
  .rw[pl j,m6 λh=>j h.2];rfl
 .obtain⟨rfl,rfl⟩:=B.2.1 f;have y:eF s i v=ν:=by
   unfold eF;by_cases G:0<=i
   .rw[m5 G,Y0 Ω]
   .rw[m6 G]
  rw[y,pl Ω];rfl
def Tc(s:al)(j pos v:Int)(u e:Int):Prop:=(e=0/\∃f x,eX s j pos v=σ (f,u,x))\/(e=1/\eX s j pos v=ν)
theorem GV{j pos:Int}(h:be w ac ad A R n s t):ak x7 KM [Γ ac,Δ j,Δ pos,Δ v] w λr I=>Ext w I/\∃u e,r= .tuple #[Δ u,Δ e]/\Tc s j pos v u e:=by
 refine ay func245 ?_;rw[cV dx.u];simp only[l9,aW];have key:∀(K:x1->x3->Prop),(∀r I,Ext w I->(∀f,0<=j->s.d7[j.toNat]?=σ f->aF .i64 I r f.sc)->K r I)->ak x7 um [Γ ac,Δ j] w K:=λK Y=>by
  by_cases Z:0<=j/\j<s.d7.length
  .obtain⟨f,p⟩:=aC (l:=s.d7) (i:=j.toNat) Ω;have:=rE h p;rw[show((j.toNat:Nat):Int)=j by omega]at this;refine this.X ?_;rintro r J _ ⟨C,g,_,hm⟩;exact Y r J C λL _ aa=>by rw[p]at aa;cases aa;exact hm.ls
  .refine (Ri h Z).X ?_;rintro r J _ ⟨rfl,C⟩;exact Y _ J C λf E p=>m7 ⟨E,by have:=(x4.1 p).1;omega⟩ Z
 refine key _ λr J C ab=>?_;have O:∀{P:Prop},(¬∃f u,0<=j/\0<=pos/\s.d7[j.toNat]?=σ f/\f.live≠0/\f.sc[pos.toNat]?=σ u)->(eX s j pos v=ν->P)->P:=λz ap=>ap (by
  cases M:eX s j pos v with
  |none=>rfl
  |some q=>
   obtain⟨f,u,x⟩:=q;obtain⟨Q,S,a3,a4,a5,_⟩:=o0 M;exact m7 ⟨f,u,Q,S,a3,a4,a5⟩ z)
 refine aV (λaf V=>Ext J V/\((af= .bool rs/\eX s j pos v=ν)\/(af= .bool sp/\∃f u,0<=j/\0<=pos/\s.d7[j.toNat]?=σ f/\f.live≠0/\f.sc[pos.toNat]?=σ u))) ?_ ?_
 .rintro _ V ⟨U,⟨rfl,z⟩|⟨rfl,f,u,E,ag,p,aq,G⟩⟩
  .rw[bZ];exact⟨C.F U,0,1,rfl,.inr ⟨rfl,z⟩⟩
  .rw[aW];intro au B _ _;have ah:=(ab f E p).W (U.F B);refine pD Ω ai.u ae.i ah G λb o aw=>?_;rw[av Ψ aw,ew (y:=pos) (i:=pos.toNat) Ω ai.u ae.i Ψ ah G];have al:=(C.F U).F B;refine(zQ (h.W al)).X ?_;rintro _ aA _ ⟨am,rfl⟩;refine⟨.inl am,al.F am,u,_,rfl,?_⟩;have M:eX s j pos v=(eF s u v).map λx=>(f,u,x):=by
    unfold eX;rw[m5 ⟨E,ag⟩,p];simp only;rw[m5 aq,G]
   cases an:eF s u v with
   |none=>exact .inr ⟨rfl,by rw[M,an];rfl⟩
   |some x=>exact .inl ⟨rfl,f,x,by rw[M,an];rfl⟩
 intro az N;refine(p5 (h.W C)).X ?_;rintro _ au _ ⟨rfl,B⟩;have same:∀{f L:bF},s.d7[j.toNat]?=σ f->s.d7[j.toNat]?=σ L->L=f:=λa b=>by rw[a]at b;exact(Z7 b).symm
 rw[bA,bM];refine⟨λW=>O (λ⟨f,u,Q,S,a3,a4,a5⟩=>?_) λz=>N _ _ ⟨B,.inl ⟨rfl,z⟩⟩,λX=>?_⟩
 .unfold eA at W;rw[a3]at W;simp[Q,a4]at W
 have X:0<=j/\eA s j.toNat=rs:=by simpa using X
 obtain⟨E,H⟩:=X;obtain⟨f,p,ax⟩:∃f,s.d7[j.toNat]?=σ f/\f.live≠0:=by
  unfold eA at H;cases p:s.d7[j.toNat]? with
  |none=>rw[p]at H;cases H
  |some f=>rw[p]at H;exact⟨f,rfl,by simpa using H⟩
 rw[aP,aj];refine⟨λaB=>O (λ⟨_,_,_,S,_⟩=>Ω) λz=>N _ _ ⟨B,.inl ⟨rfl,z⟩⟩,λag=>?_⟩;rw[aS ai.u ((ab f E p).W B),cJ];by_cases ao:(f.sc.length:Int)<=pos
 .refine O (λ⟨L,u,_,_,a3,_,a5⟩=>?_) λz=>N _ _ ⟨B,.inl ⟨by rw[ms ao],z⟩⟩;obtain rfl:=same p a3;have:=(x4.1 a5).1;omega
 .obtain⟨u,G⟩:=aC (l:=f.sc) (i:=pos.toNat) Ω;exact N _ _ ⟨B,.inr ⟨by rw[pl ao],f,u,E,Ω,p,ax,G⟩⟩
theorem wm(h:be w ac ad A R n s t):ak x7 KN [Γ ac,Δ c,Δ most] w λr I=>Ext w I/\r=Δ (eg n.k c most):=by
 refine ay func246 ?_;refine(kM h).X ?_;rintro _ J _ ⟨rfl,a⟩;refine lb.X ?_;rintro _ V _ ⟨rfl,e⟩;have hi:cK c n.k↔0<=c/\c<=n.k:=⟨λh=>h.2,λj=>⟨h.2.2.2.1.dy,j⟩⟩;unfold eg;rw[bA,bM];refine⟨λf=>⟨a.F e,?_⟩,λf=>?_⟩
 .have:¬cK c n.k:=by simpa using f
  rw[m5 λh=>this (hi.2 h)]
 .have:cK c n.k:=by simpa using f
  rw[m6 λh=>h (hi.1 this),bG,aj];exact⟨λh=>⟨a.F e,by rw[m5 h]⟩,λh=>⟨a.F e,by rw[m6 h]⟩⟩
theorem Td{a b:Int}(hk:right k)(f:0<=a/\a<=k)(j:0<=b/\b<=k)(s:a=k\/b<=a):ak x7 Lb [Δ a,Δ b,Δ k] w λv I=>v= .tuple #[Δ (dQ k a b),Δ 0]/\Ext w I:=by
 have x:1<=k/\k<=2147483648:=hk;refine ay func293 ?_;refine aV (λr J=>r= .bool sp/\Ext w J) ?_ ?_
 .rintro _ J ⟨rfl,e⟩;unfold dQ;rw[aW,bi,aj];refine⟨λh=>⟨by rw[m5 h],e⟩,λh=>?_⟩;rw[m6 h,bG,aj];refine⟨λy=>Ω,λ_=>?_⟩;rw[dN,lm Ω Ω];exact⟨rfl,e⟩
 intro az p;refine lb.X ?_;rintro _ J _ ⟨rfl,e⟩;rw[ms (show cK a k from⟨hk,f⟩),bA,Y2,aW];refine lb.X ?_;rintro _ V _ ⟨rfl,q⟩;rw[ms (show cK b k from⟨hk,j⟩),bA,Y2];exact p _ _ ⟨rfl,e.F q⟩
theorem wn{a:Int}(h:be w ac ad A R n s t)(e:0<=a/\a<=n.k)(f:0<=c/\c<=n.k)(j:a=n.k\/c<=a):ak x7 ps [Γ ac,Δ a,Δ c] w λr I=>r=Δ (dQ n.k a c)/\Ext w I:=by
 refine ay func248 ?_;refine(kM h).X ?_;rintro _ J _ ⟨rfl,p⟩;refine(Td h.2.2.2.1.dy e f j).X ?_;rintro _ V _ ⟨rfl,q⟩;rw[bn,bo];exact⟨rfl,p.F q⟩
theorem tx{a:Int}(h:be w ac ad A R n s t)(e:0<=a/\a<=n.k)(f:0<=c/\c<=n.k):ak x7 pt [Γ ac,Δ a,Δ c] w λr I=>r=Δ (dR n.k a c)/\Ext w I:=by
 refine ay func249 ?_;refine(kM h).X ?_;rintro _ J _ ⟨rfl,j⟩;refine(vG e f h.2.2.2.1.dy).X ?_;rintro _ V _ ⟨rfl,p⟩;rw[bn,bo];exact⟨rfl,j.F p⟩
end
def pb(w:x3)(ac gs bJ bx aU:Nat)(aI:x1)(pos v:Int):Prop:=ag w gs dx [Γ ac]/\ag w bJ ai [aI]/\ag w bx ae [Δ pos]/\ag w aU ae [Δ v]
theorem pb.aa{S:ah}{gs bJ bx aU:Nat}{pos:Int}(h:pb w ac gs bJ bx aU aI pos v)(a:af S w I)(e:¬S gs/\¬S bJ/\¬S bx/\¬S aU):pb I ac gs bJ bx aU aI pos v:=
 ⟨h.1.aa a e.1,h.2.1.aa a e.2.1,h.2.2.1.aa a e.2.2.1,h.2.2.2.aa a e.2.2.2⟩
theorem pb.W{gs bJ bx aU:Nat}{pos:Int}(h:pb w ac gs bJ bx aU aI pos v)(a:Ext w I):pb I ac gs bJ bx aU aI pos v:=h.aa (a.aa λ_=>False) (by grind)
def gB(ac ad:Nat)(R:ah)(n:aG)(s:al)(gs bJ bx aU:Nat)(aI:x1)(sc:Λ)(pos v:Int)(B0:Nat)(D:Nat->Prop)(w:x3):Prop:=
 pb w ac gs bJ bx aU aI pos v/\(gs<B0/\bJ<B0/\bx<B0/\aU<B0)/\aF .i64 w aI sc/\(∀r,li aI r->r<B0)/\(Laid w/\B0<=w.heap.size)/\∃A s' t',be w ac ad A R n s' t'/\(∀i,dn s' i=dn s i)/\∀r,A r\/R r->r<B0\/D r
section
variable{ac ad gs bJ bx aU B0:Nat}{R:ah}{n:aG}{s:al}{aI:x1}{sc:Λ}{pos v:Int}
theorem gB.W(h:gB ac ad R n s gs bJ bx aU aI sc pos v B0 D w)(a:Ext w I):gB ac ad R n s gs bJ bx aU aI sc pos v B0 D I:=by
 obtain⟨h1,f,j,p,e,A,s',t',q,r,x⟩:=h;exact⟨h1.W a,f,j.W a,p,⟨e.1.W a,Y1 e.2 a.size⟩,A,s',t',q.W a,r,x⟩
def lz(w:x3)(l gy gt gtb ga:Nat)(iI:Array x1)(q:Nat)(tl:Λ):Prop:=ag w gy BS [.func (.yield l) #[] #[]]/\ag w gtb ai [.slice (σ ⟨gt,0,ν⟩) q q]/\ag w ga qK [.func (.func pu) #[] iI]/\
 an .i64 ae w gt (.slice (σ ⟨gt,0,ν⟩) q q) tl
theorem lz.aa{S:ah}{l q:Nat}{iI:Array x1}(h:lz w l gy gt gtb ga iI q tl)(f:af S w I)(j:¬S gy/\¬S gtb/\¬S ga/\¬S gt):lz I l gy gt gtb ga iI q tl:=
 ⟨h.1.aa f j.1,h.2.1.aa f j.2.1,h.2.2.1.aa f j.2.2.1,bl h.2.2.2 f λr p=>by
  obtain⟨a,_,_,e,s⟩:=p
  grind⟩
theorem lz.W{l q:Nat}{iI:Array x1}(h:lz w l gy gt gtb ga iI q tl)(a:Ext w I):lz I l gy gt gtb ga iI q tl:=h.aa (a.aa λ_=>False) (by grind)
theorem Te(U:aF .i64 w aI sc):ak x7 BR [Γ ac,aI,Δ pos,Δ v] w λr I=>Ext w I/\∃gs bJ bx aU,r= .func (.func nx) #[] #[Γ bJ,Γ bx,Γ aU,Γ gs]/\pb I ac gs bJ bx aU aI pos v/\w.heap.size<=gs/\w.heap.size<=bJ/\w.heap.size<=bx/\w.heap.size<=aU:=by
 obtain⟨_,_,_,x⟩:=cE U;refine ay func292 ?_;refine bj λgs J z q h=>?_;refine bj λbJ V A j a=>?_;refine bj λbx B C e p=>?_;refine bj λaU s E f y=>?_;have h:ag s gs dx [Γ ac]:=((ag.W h j).W e).W f;have a:ag s bJ ai [aI]:=by rw[x]at a ⊢;exact(ag.W a e).W f
 have p:=ag.W p f;rw[jX];have G:=q.size;have H:=j.size;have z3:=e.size;exact⟨((q.F j).F e).F f,gs,bJ,bx,aU,rfl,⟨h,a,p,y⟩,Ω,Ω,Ω,Ω⟩
theorem gB.own{S:ah}(h:gB ac ad R n s gs bJ bx aU aI sc pos v B0 D w)(f:af S w I)(F:∀r,S r->B0<=r/\¬D r):gB ac ad R n s gs bJ bx aU aI sc pos v B0 D I:=by
 obtain⟨h1,y,z,j,p,A,s',t',q,B,C⟩:=h;have no:∀{r:Nat},r<B0->¬S r:=by grind
 refine⟨h1.aa f (by grind),y,jg z f λr x a n c e E=>?_,j,⟨?_,Y1 p.2 f.size⟩,A,s',t',⟨q.1.aa f λr _ x U=>?_,q.2⟩,B,C⟩
 .exact no (j r ⟨a,n,c,e,E⟩) x
 .exact gW f (no Ω) p.1
 grind
def Tf(P:(Nat->Prop)->x3->Prop)(az:(Nat->Prop)->Nat->x3->Prop)(L:List (Λ))(l B:Nat):Prop:=∀(D:Nat->Prop)(k:Nat)tl aO I,(∀r,D r->B<=r/\r<I.heap.size)->B<=I.heap.size->P D I->L[k]?=σ tl->aF .i64 I aO tl->az D k I->
 ja x7 l [aO] I λu a=>u= .bool rs/\(∃D',(∀r,D' r->D r\/I.heap.size<=r/\r<a.heap.size)/\(∀r,D r->D' r)/\P D' a/\az D' (k+1) a)/\cA I a/\I.heap.size<=a.heap.size/\af (λr=>r<B\/D r) I a
def tz(D:Nat->Prop)(B gy gtb ga gt:Nat):Prop:=(B<=gy/\¬D gy)/\(B<=gtb/\¬D gtb)/\(B<=ga/\¬D ga)/\B<=gt/\¬D gt
theorem tz.go{D':Nat->Prop}{m cn:Nat}(h:tz D B gy gtb ga gt)(a:∀r,D' r->D r\/m<=r/\r<cn)(hm:gy<m/\gtb<m/\ga<m/\gt<m):tz D' B gy gtb ga gt:=
 have f:∀{g:Nat},g<m->¬D g->¬D' g:=by grind
 ⟨⟨h.1.1,f hm.1 h.1.2⟩,⟨h.2.1.1,f hm.2.1 h.2.1.2⟩,⟨h.2.2.1.1,f hm.2.2.1 h.2.2.1.2⟩,h.2.2.2.1,f hm.2.2.2 h.2.2.2.2⟩
theorem lz.lt{l q:Nat}{iI:Array x1}(h:lz w l gy gt gtb ga iI q tl):gy<w.heap.size/\gtb<w.heap.size/\ga<w.heap.size/\gt<w.heap.size:=
 ⟨h.1.lt,h.2.1.lt,h.2.2.1.lt,(bD h.2.2.2 ⟨_,_,_,rfl,rfl⟩).2⟩
def AtR(l gy gt gtb ga:Nat)(iI:Array x1)(P:(Nat->Prop)->x3->Prop)(az:(Nat->Prop)->Nat->x3->Prop)(S:ah)(D:Nat->Prop)(w:x3)(sl k p:Nat)(tl:Λ)(I:x3):Prop:=
 w.heap.size<=I.heap.size/\∃D' a,a.length=sl/\a.take p=tl.take p/\lz I l gy gt gtb ga iI sl a/\((∀r,D' r->D r\/w.heap.size<=r/\r<I.heap.size)/\∀r,D r->D' r)/\P D' I/\az D' k I/\af S w I
section
variable{l gy gt gtb ga B:Nat}{iI:Array x1}{P:(Nat->Prop)->x3->Prop}{az:(Nat->Prop)->Nat->x3->Prop}{S T:ah}{D:Nat->Prop}{w J V:x3}{sl k p:Nat}{tl:Λ}
theorem AtR.own(A:∀D T J V,af T J V->(∀r,T r->B<=r/\¬D r)->P D J->P D V)(e:∀D k J V,af (λr=>B<=r/\¬D r) J V->fJ B J V->az D k J->az D k V)(h:AtR l gy gt gtb ga iI P az S D w sl k p tl J)(a:af T J V)(f:fJ B J V)(C:∀r,T r->r<w.heap.size/\¬D r/\B<=r/\S r/\r≠gy/\r≠gtb/\r≠ga/\r≠gt):AtR l gy gt gtb ga iI P az S D w sl k p tl V:=by
 obtain⟨j,D',q,h1,s,x,⟨E,F⟩,G,y,z⟩:=h;have H:∀r,T r->B<=r/\¬D' r:=by grind
 exact⟨Y1 j a.size,D',q,h1,s,x.aa a (by grind),
  by grind [Nat.lt_of_lt_of_le,af.size],by grind,e D' k J V (a.X (by grind)) f y,z.F (a.X (by grind))⟩
theorem AtR.base{w0:x3}(h:AtR l gy gt gtb ga iI P az S D w sl k p tl J)(a:Ext w0 w)(e:∀r,r<w0.heap.size->S r->T r):AtR l gy gt gtb ga iI P az T D w0 sl k p tl J:=by
 obtain⟨f,D',j,h1,q,s,⟨x,y⟩,z,A,B⟩:=h;exact⟨Y1 a.size f,D',j,h1,q,s,⟨λr C=>(x r C).imp id λh=>⟨Y1 a.size h.1,h.2⟩,y⟩,z,A,((a.aa S).F B).X e⟩
theorem AtR.comp{a:Nat->Prop}{e:Λ}{x:Int}(E:∀r,r<B\/D r\/r=gt->S r)(F:∀r,a r->D r\/w.heap.size<=r/\r<J.heap.size)(G:∀r,D r->a r)(f:af S w J)(H:e.take p=tl.take p)(h:AtR l gy gt gtb ga iI P az (λr=>r<B\/a r\/r=gt) a J sl k (p+1) (e.set p x) V):AtR l gy gt gtb ga iI P az S D w sl k p tl V:=by
 obtain⟨j,D',q,h1,s,y,⟨I,K⟩,z,A,C⟩:=h;have U:=f.size;refine⟨Y1 U j,D',q,h1,?_,y,⟨λr L=>?_,by grind⟩,z,A,?_⟩
 .have:=congrArg (List.take p) s
  grind [List.take_set_of_le]
 .grind
 .refine ((f.X (by grind)).F (C.X λr _ h=>?_):af (λr=>S r\/w.heap.size<=r) w V).X (by grind)
  grind
end
theorem Tg{α β:Type}{l:List α}{a:α->List β}{i:Nat}{y:α}{z:β}(h:l[j]?=σ y)(hi:(a y)[i]?=σ z):(l.flatMap a)[((l.take j).flatMap a).length+i]?=σ z:=by
 have p:=(x4.1 h).1;have e:l=l.take j++y::l.drop (j+1):=by
  grind [List.take_append_drop,X0]
 conv=>lhs;rw[e,List.flatMap_append,U3]
 have f:=(x4.1 hi).1;have el:((l.take j++y::l.drop (j+1)).take j)=l.take j:=by grind
 rw[el,Y5 Ω,Nat.add_sub_cancel_left,W8 f];exact hi
theorem Th{t:r8}{b o:Nat}{x:x1}{K:x1->Prop}(a:k9 x7 t=rs)(h:w.cell? ⟨b,o,ν⟩=σ x):ab x7 (do loadVar t (<-asAddr (.pointer (σ ⟨b,o,ν⟩)))) w K=K x:=ab.of λI f=>by
 have bf:=jV f h;unfold k9 at a;cases e:x7.underlying t with
 |none=>grind
 |some d=>
  rw[e]at a;cases d<;>first|(cases a;done)|simp[asAddr,loadVar,isAgg,run_underlying e,bf]
def nd(bJ gy gtb bx aU ga gs:Nat):Array x1:=#[Γ bJ,Γ gy,Γ gtb,Γ bx,Γ aU,Γ ga,Γ gs]
def wo(p:Nat)(bJ gy gtb bx aU ga gs:Nat):List x1:=[Δ (p:Int),Γ bJ,Γ gy,Γ gtb,Γ bx,Γ aU,Γ ga,Γ gs]
theorem Ti{l:Nat}{L:List (Λ)}{az:(Nat->Prop)->Nat->x3->Prop}(bS:0<=pos)(bT:∀u∈sc,0<=u/\u<n.co.length)(cV:sc.length<=6)(cW:B0<=B)(cX:gt≠gy/\gt≠gtb/\gt≠ga)(P:∀D k J V,af (λr=>B<=r/\¬D r) J V->fJ B J V->az D k J->az D k V)(bU:Tf (gB ac ad R n s gs bJ bx aU aI sc pos v B0) az L l B):
  ∀(q p:Nat)(tl:Λ)(k:Nat)(D:Nat->Prop)(w:x3),sc.length=p+q->tl.length=sc.length->(∀r,D r->B<=r/\r<w.heap.size)->B<=w.heap.size->tz D B gy gtb ga gt->lz w l gy gt gtb ga (nd bJ gy gtb bx aU ga gs) sc.length tl->gB ac ad R n s gs bJ bx aU aI sc pos v B0 D w->az D k w->
   (∀i x,(fV s sc pos v q p tl)[i]?=σ x->L[k+i]?=σ x)->
   ak x7 pu (wo p bJ gy gtb bx aU ga gs) w λr I=>r= .bool rs/\AtR l gy gt gtb ga (nd bJ gy gtb bx aU ga gs) (gB ac ad R n s gs bJ bx aU aI sc pos v B0) az (λr=>r<B\/D r\/r=gt) D w sc.length (k+(fV s sc pos v q p tl).length) p tl I:=by
 obtain⟨a,rfl⟩:=U8 bS;have Z:∀D T J V,af T J V->(∀r,T r->B<=r/\¬D r)->gB ac ad R n s gs bJ bx aU aI sc a v B0 D J->gB ac ad R n s gs bJ bx aU aI sc a v B0 D V:=λD T J V aP cY h=>h.own aP (by grind);have aQ:∀{M:x3}{K:x1->Prop},ag M bJ ai [aI]->K aI->ab x7 (u4 ai (Γ bJ)) M K:=λaR aT=>by rw[av Ψ (aR.cell rfl)];exact aT
 have aV:∀{aX p:Nat}{tl:Λ}{D:Nat->Prop}{w V M:x3}{f:Nat}{b:Bool},Ext w V->w.heap.size<=f->f<V.heap.size->(∀r,D r->B<=r/\r<w.heap.size)->B<=w.heap.size->(gy<w.heap.size/\gtb<w.heap.size/\ga<w.heap.size/\gt<w.heap.size)->
   AtR l gy gt gtb ga (nd bJ gy gtb bx aU ga gs) (gB ac ad R n s gs bJ bx aU aI sc a v B0) az (λr=>r<B\/D r\/r=gt\/r=f) D V sc.length aX p tl M->ag M f gD [.bool b]->
   aD x7 (o6 gD (Γ f) (.bool rs)) M λ(_:Unit)aY=>ab x7 (do loadVar gD (<-asAddr (Γ f))) aY λr=>wM w.heap.size aY λbh=>r= .bool rs/\AtR l gy gt gtb ga (nd bJ gy gtb bx aU ga gs) (gB ac ad R n s gs bJ bx aU aI sc a v B0) az (λr=>r<B\/D r\/r=gt) D w sc.length aX p tl bh:=by
  intro aX p tl D w V M f b C bk an U ah ao aZ a1;have bV:∀r,r=f->r<V.heap.size/\¬D r/\B<=r/\(r<B\/D r\/r=gt\/r=f)/\r≠gy/\r≠gtb/\r≠ga/\r≠gt:=by
   grind
  refine aD.cB (bw gD.i rfl rfl a1 Ξ λaY bW cZ a2 bX=>?_);have a2:=a2;have bY:=aZ.own Z P bW bX.o bV;rw[Th Ψ (a2.cell rfl)];intro bh bZ b0;refine⟨rfl,((bY.own Z P (bZ.aa λ_=>False) (b0.2.X ah) λ_ h=>h.elim).base C λr ap h=>?_)⟩
  grind
 intro q;induction q with
 |zero=>
  intro p tl k D w b1 aB U ah G aq a6 a7 au;refine je func320 ?_;refine aD.cB (bj λg1 J b2 aw z bb=>?_);refine aD.cB (bu gD.i λf V bk W N bc=>?_);have C:=aw.F W;have b3:=aw.size;have b4:=W.size;have z:=ag.W z W;have N:=N;have an:=N.lt;have aE:=P D k w V (C.aa _) (bb.F bc).o a7;have H:=a6.W C;have E:=aq.W C;rw[av Ψ (z.cell rfl)];refine aQ H.1.2.1 ?_;rw[aS ai.u H.2.2.1,bi,aj];refine⟨λ_=>?_,λh=>m7 Ω h⟩;rw[av Ψ (E.1.cell rfl),av Ψ (E.2.1.cell rfl)];have b5:=au 0 tl rfl;refine(show ja x7 l [.slice (σ ⟨gt,0,ν⟩) sc.length sc.length] V _ from ja.X (bU D k tl _ V (by grind) Ω H b5 E.2.2.2.ls aE) ?_);rintro _ b6 ⟨rfl,⟨D',d1,d2,b7,b8⟩,b9,ca,bd⟩;refine⟨b9,?_⟩;have ao:=aq.lt;have bl:∀{g:Nat},w.heap.size<=g->¬D g:=by grind
  have aF:∀{g:Nat},B<=g->¬D g->¬(g<B\/D g):=by grind
  have a1:=N.aa bd (by grind);have aZ:AtR l gy gt gtb ga (nd bJ gy gtb bx aU ga gs) (gB ac ad R n s gs bJ bx aU aI sc a v B0) az (λr=>r<B\/D r\/r=gt\/r=f) D V sc.length (k+1) p tl b6:=
   ⟨ca,D',tl,aB,rfl,E.aa bd ⟨aF G.1.1 G.1.2,aF G.2.1.1 G.2.1.2,aF G.2.2.1.1 G.2.2.1.2,aF G.2.2.2.1 G.2.2.2.2⟩,⟨d1,d2⟩,b7,b8,bd.X (by grind)⟩
  exact aV C Ω an U ah ao aZ a1
 |succ q bm=>
  intro p tl k D w b1 aB U ah G aq a6 a7 au;refine je func320 ?_;refine aD.cB (bj λg1 J b2 aw z bb=>?_);refine aD.cB (bu gD.i λf V bk W N bc=>?_);have C:=aw.F W;have b3:=aw.size;have b4:=W.size;have z:=ag.W z W;have N:=N;have an:=N.lt;have h1:=z.lt;have aE:=P D k w V (C.aa _) (bb.F bc).o a7;have H:=a6.W C;have E:=aq.W C;have ao:=aq.lt;have bl:∀{g:Nat},w.heap.size<=g->¬D g:=by grind
  rw[av Ψ (z.cell rfl)];refine aQ H.1.2.1 ?_;rw[aS ai.u H.2.2.1,bi,aj];refine⟨λh=>m7 h Ω,λ_=>?_⟩;rw[av Ψ (z.cell rfl),av Ψ (H.1.2.2.1.cell rfl),bi,aj];have bn:∀{M:x3}{K:x1->Prop},ag M gtb ai [.slice (σ ⟨gt,0,ν⟩) sc.length sc.length]->K (.slice (σ ⟨gt,0,ν⟩) sc.length sc.length)->ab x7 (u4 ai (Γ gtb)) M K:=λaR aT=>by rw[av Ψ (aR.cell rfl)];exact aT
  have bo:∀{D:Nat->Prop}(r:Nat),tz D B gy gtb ga gt->r=gt->B<=r/\¬D r:=λr h e=>e▸⟨h.2.2.2.1,h.2.2.2.2⟩;refine⟨λhe=>?_,λcb=>?_⟩
  .refine bn E.2.1 ?_;rw[av Ψ (z.cell rfl),av Ψ (H.1.2.2.2.cell rfl),gb rfl ai.u ae.i E.2.2.2 Ω];refine aD.cB (gd ae.i E.2.2.2 Ω λaG S c0 cc cd=>?_);have bp:lz aG l gy gt gtb ga (nd bJ gy gtb bx aU ga gs) sc.length (tl.set p v):=⟨E.1.aa S Ω,E.2.1.aa S Ω,E.2.2.1.aa S Ω,cc⟩;have ce:=Z D _ _ _ S (by grind) H;have cf:=P D k V aG (S.X (by grind)) cd.o aE;have cg:=z.aa S Ω;have ch:=N.aa S Ω;rw[av Ψ (bp.2.2.1.cell rfl),av Ψ (cg.cell rfl),aL,lm Ω Ω];have hw:fV s sc a v (q+1) p tl=fV s sc a v q (p+1) (tl.set p v):=by rw[fV,m5 he]
   rw[hw];rw[hw]at au;refine(show ak x7 pu (wo (p+1) bJ gy gtb bx aU ga gs) aG _ from ak.X (bm (p+1) (tl.set p v) k D aG Ω (by grind) (by grind) Ω G bp ce cf au) ?_);rintro _ ci c1 ⟨rfl,bq⟩;have cj:ag ci f gD [.bool sp]:=by
    obtain⟨_,_,_,_,_,_,_,_,_,ck⟩:=bq;exact ch.aa ck (by grind)
   exact aV C Ω an U ah ao (AtR.comp (by grind) (by grind) (λ_ h=>h) (S.X Ω) rfl bq) cj
  intro c2 aH _ cl;have aJ:=H.W aH;obtain⟨A,s',t',br,cm,c3⟩:=id aJ.2.2.2.2.2;obtain⟨u,be⟩:=aC (l:=sc) (i:=p) Ω;obtain⟨cn,c4⟩:=bT u (x5 be);have c5:=br.2.2.2.1.d6;obtain⟨x,bs⟩:=aC (l:=s'.d6) (i:=u.toNat) Ω;rw[av Ψ (aJ.1.1.cell rfl)];refine aQ aJ.1.2.1 ?_;rw[av Ψ ((z.W aH).cell rfl),ba ai.u ae.i Ψ aJ.2.2.1 be];refine(kN (i:=u) br).X ?_;rintro _ c6 cp ⟨⟨b,c7,rfl,bt⟩,bz⟩;refine(pJ).X ?_;rintro _ aK cq ⟨cr,bB,rfl,c8,bC⟩;have bD:=n3 bt cn bs;have ct:dn s (sc.getD p 0)=aM x:=by
   rw[<-cm,v8,be,R3];unfold dn;rw[bs]
  have bE:fV s sc a v (q+1) p tl=(aM x).flatMap λy=>fV s sc a v q (p+1) (tl.set p y):=by rw[fV,m6 cb,ct]
  have X:=(aH.F bz).F cr;have cu:=(cl.F cp).F cq;have z12:=X.size;have c9:=(aH.F bz).size;have da:=bC.lt;have bF:B<=aK.heap.size:=Ω
  have cw:=P D k V aK (X.aa _) cu.o aE;have bG:=H.W X;have bH:=E.W X;refine⟨Nat,sp,sp,k4,#[Γ bB],0,_,_,λ_=>_,λ_ j I=>AtR l gy gt gtb ga (nd bJ gy gtb bx aU ga gs) (gB ac ad R n s gs bJ bx aU aI sc a v B0) az (λr=>r<B\/D r\/r=gt) D aK sc.length (k+(((aM x).take j).flatMap λy=>fV s sc a v q (p+1) (tl.set p y)).length) p tl I/\ag I g1 ae [Δ (p:Int)]/\ag I f gD [.bool sp],
   λ_ _ _ _=>False,rfl,(pI (g:=bB) bt.1).s.x,?_,λ_ _ _ al h=>⟨h.1.W al,h.2.W al⟩,?_,by grind,⟨bC,bG.2.2.2.2.1.1⟩,?_,?_,?_,λ_ _ _ h=>h.elim,by grind⟩
  .rintro _ _ _ _ ⟨_,_,_,_,rfl⟩;rfl
  .rintro _ j db dc aP cz ⟨Y,ax,O⟩;have al:=aP.W (by grind);exact⟨Y.own Z P (al.aa λ_=>False) (cz.X bF) λ_ h=>h.elim,ax.W al,O.W al⟩
  .exact⟨⟨o5 _,D,tl,aB,rfl,bH,⟨by grind,λ_ h=>h⟩,bG,by simpa using cw,af.refl _ _⟩,z.W X,N.W X⟩
  .rintro _ _ j _ dd _ _ ⟨cA,de⟩ ⟨df,rfl,y,cC,cD⟩ ⟨cE,bI,cF⟩;cases cD;intro bK ay cG _;have bL:(aM x)[j]?=σ (y:Int):=by rw[<-bD,x8,cC];rfl
   have cH:=cE.own Z P (ay.aa λ_=>False) (cG.2.X bF) λ_ h=>h.elim;obtain⟨dg,aA,aN,Y,ax,O,⟨aO,cI⟩,cJ,cK,cL⟩:=cH;have cM:=bH.lt;have bf:=G.go aO cM;have bM:∀r,aA r->B<=r/\r<bK.heap.size:=λr ap=>(aO r ap).elim (λh=>⟨(U r h).1,by have:=(U r h).2;omega⟩) Ω;refine bn O.2.1 ?_;rw[av Ψ ((bI.W ay).cell rfl),gb rfl ai.u ae.i O.2.2.2 Ω];refine aD.cB (gd ae.i O.2.2.2 Ω λam Q dh cN cO=>?_);have bN:lz am l gy gt gtb ga (nd bJ gy gtb bx aU ga gs) sc.length (aN.set p y):=⟨O.1.aa Q Ω,O.2.1.aa Q Ω,O.2.2.1.aa Q Ω,cN⟩;have cP:=Z aA _ _ _ Q (λr h=>bo r bf h) cJ;have cQ:=P aA _ bK am (Q.X λr _ h=>bo r bf h) cO.o cK;have bO:ag am g1 ae [Δ (p:Int)]:=(bI.W ay).aa Q Ω;have cR:ag am f gD [.bool sp]:=(cF.W ay).aa Q Ω;have cS:=(cA.W ay).aa Q Ω;rw[av Ψ (bN.2.2.1.cell rfl),av Ψ (bO.cell rfl),aL,lm Ω Ω];have bP:fV s sc a v q (p+1) (aN.set p (y:Int))=fV s sc a v q (p+1) (tl.set p (y:Int)):=Ta Ω (by rw[U7];exact aB) (by rw[U7];exact Y) (by rw[wj Ω,wj Ω,ax]);refine(show ak x7 pu (wo (p+1) bJ gy gtb bx aU ga gs) am _ from ak.X (bm (p+1) (aN.set p y) _ aA am Ω (by rw[U7];exact Y) (λr ap=>⟨(bM r ap).1,by have:=(bM r ap).2;omega⟩) Ω bf bN cP cQ λi di hi=>?_) ?_)
   .rw[bP]at hi;rw[Nat.add_assoc];refine au _ _ ?_;rw[bE];exact Tg bL hi
   rintro _ dj dk ⟨rfl,bQ⟩;rw[bA,Y2,aW];have bR:=AtR.comp (λr h=>h) (λr h=>(aO r h).imp id Ω) cI (cL.F (Q.X Ω)) ax bQ;obtain⟨_,_,_,_,_,_,_,cT,_,bg⟩:=bQ;have a8:∀{g:Nat},w.heap.size<=g->g<aK.heap.size->¬(g<B\/aA g\/g=gt):=λcU dl h=>by
    rcases h with h|h|h
    .omega
    .exact (aO _ h).elim (bl cU) Ω
    .omega
   refine⟨⟨cS.aa bg (a8 Ω Ω),cT.2.2.2.2.1.1⟩,⟨?_,bO.aa bg (a8 Ω Ω),cR.aa bg (a8 Ω Ω)⟩,by grind⟩;have e:k+(((aM x).take j).flatMap λy=>fV s sc a v q (p+1) (tl.set p y)).length+(fV s sc a v q (p+1) (aN.set p (y:Int))).length=k+(((aM x).take (j+1)).flatMap λy=>fV s sc a v q (p+1) (tl.set p y)).length:=by
    rw[bP,u5,bL,l7,List.flatMap_append,List.flatMap_singleton,p9];omega
   rw[e]at bR;exact bR
  .rintro _ j dm rfl ⟨Y,ax,O⟩;rw[o7 (by rw[<-bD,r9];omega),<-bE]at Y;exact aV C Ω an U ah ao (Y.base X (by grind)) O
end
section
variable{ac ad gs bJ bx aU B0:Nat}{R:ah}{n:aG}{s:al}{aI:x1}{sc:Λ}{v:Int}
theorem GW{e:Nat}(W:∀u∈sc,0<=u/\u<n.co.length)(X:sc.length<=6):
  rY x7 rs sp nx [Γ bJ,Γ bx,Γ aU,Γ gs] 0 (λk=>k=(cQ s sc e v).length)
   (λk vs Y w=>Y=k+1/\∃tl aO,(cQ s sc e v)[k]?=σ tl/\vs=[aO]/\aF .i64 w aO tl) (gB ac ad R n s gs bJ bx aU aI sc e v B0):=by
 refine⟨nx.enters,λl az a1 w Z _ ah hj aj=>?_⟩;have E:∀D k J V,af (λr=>w.heap.size<=r/\¬D r) J V->fJ w.heap.size J V->az D k J->az D k V:=λD k J V ak al=>Z D k J V (ak.X λr _ h=>⟨rfl,h⟩) al;have U:=hj.2.2.1;have am:=hj.2.2.2.2.1.2;obtain⟨_,_,_,a2⟩:=cE U;refine r7 func319 ?_;refine aD.cB (bj λgy J a6 p G ao=>?_);have ap:∀{H:x3}{K:x1->Prop},ag H bJ ai [aI]->K aI->ab x7 (u4 ai (Γ bJ)) H K:=λaq au=>by rw[av (v:=aI) Ψ (aq.Qz rfl)];exact au
 refine ap (hj.1.2.1.W p) ?_;rw[aS ai.u (U.W p)];refine aD.cB (jy (k:=.i64) ai.u ae.i Ω Ω λgt V a7 A M aw=>?_);refine aD.cB (bu ai.i λgtb a8 ba q N ax=>?_);refine aD.cB (bw ai.i rfl rfl N (by simp[T5]) λbb C bc ay aA=>?_);refine aD.cB (bu qK.i λga bd be f O aB=>?_);rw[jX];refine aD.cB (bw qK.i rfl rfl O (by simp[T5]) λa y bf aC aE=>?_);have bg:=p.size;have bh:=A.size;have z3:=q.size;have z5:=f.size;have bi:=G.lt;have bk:=M.lt;have bl:=N.lt;have bm:=O.lt;have aG:ag a gy BS [.func (.yield l) #[] #[]]:=(((((ag.W G A).W q).aa C Ω).W f).aa y Ω);have aH:ag a gt ae (ints .i64 (u9 sc.length 0)):=((((M.W q).aa C Ω).W f).aa y Ω);have aJ:ag a gtb ai [.slice (σ ⟨gt,0,ν⟩) sc.length sc.length]:=((ag.W ay f).aa y Ω);have P:ag a ga qK [.func (.func pu) #[] (nd bJ gy gtb bx aU ga gs)]:=aC;rw[av (v:=.func (.func pu) #[] (nd bJ gy gtb bx aU ga gs)) Ψ (P.Qz rfl)];have hm:an .i64 ae a gt (.slice (σ ⟨gt,0,ν⟩) sc.length sc.length) (u9 sc.length 0):=by
  have:=bW.full (n:=sc.length) (k:=1) aH Ξ (by simp only[maxLen];omega);unfold an;rw[List.length_replicate];exact this
 have aK:=(p.F A).F q;have Q:af (λr=>w.heap.size<=r/\¬False) w a:=(((aK.aa _).F (C.X λr _ h=>⟨by have h:r=gtb:=h;omega,id⟩)).F (f.aa _)).F (y.X λr _ h=>⟨by have h:r=ga:=h;omega,id⟩);have aL:cA w a:=((((ao.F aw).F ax).F aA).F aB).F aE;have aM:gB ac ad R n s gs bJ bx aU aI sc e v B0 (λ_=>False) a:=hj.own Q λr aN=>⟨Ω,aN.2⟩;have S:=Tb (s:=s) (sc:=sc) (pos:=e) (v:=v) (tl:=u9 sc.length 0) Ξ;refine(show gT x7 pu (wo 0 bJ gy gtb bx aU ga gs) a _ from(Ti (L:=cQ s sc e v) (B:=w.heap.size) (l:=l) (gy:=gy) (gt:=gt) (gtb:=gtb) (ga:=ga) (pos:=e) Ω W X am ⟨Ω,Ω,Ω⟩ E ?_ sc.length 0 (u9 sc.length 0) 0 (λ_=>False) a Ω Ξ (λ_ h=>h.elim) Ω ⟨⟨Ω,id⟩,⟨Ω,id⟩,⟨Ω,id⟩,Ω,id⟩ ⟨aG,aJ,P,hm⟩ aM (E _ _ _ _ Q aL.o aj) λi x hi=>?_).free.X ?_)
 .intro D k tl aO I aP aQ aR aT aV z;refine ja.X (ah D k (k+1) [aO] I aP aQ aR ⟨rfl,tl,aO,aT,rfl,aV⟩ z) ?_;rintro u bn (⟨h1,aW,aX,aY,aZ⟩|⟨h,_⟩)
  .exact⟨h1,aW,aX (.inr rfl),aY,aZ rfl⟩
  .cases h
 .rw[S]at hi;rw[V0];exact hi
 .rintro _ bo ⟨_,rfl,_,D',_,_,_,_,_,_,z,_⟩;rw[S,V0]at z;exact .inl ⟨D',_,rfl,z⟩
end
def GX(m gs bJ bx aU:Nat)(aI:x1):Prop:=(m<=gs/\m<=bJ/\m<=bx/\m<=aU)/\∀r,li aI r->m<=r
section
variable{ac ad gs bJ bx aU B0 m:Nat}{A R:ah}{n:aG}{s s':al}{t:aw}{aI:x1}{sc:Λ}{pos v:Int}{w I:x3}
theorem be.lt(h:be w ac ad A R n s t){r:Nat}(a:A r\/R r):r<w.heap.size:=by
 obtain⟨⟨j,p,q,x,⟨_,_,e,f⟩,_⟩,_⟩:=h;exact a.elim (f r) (e r)
theorem gB.put{D' S:Nat->Prop}(h:gB ac ad R n s gs bJ bx aU aI sc pos v B0 D w)(j:af S w I)(hm:GX m gs bJ bx aU aI)(y:∀r,S r->r<m\/B0<=r)(z:Laid I)(B:be I ac ad A R n s' t)(C:∀i,dn s' i=dn s i)(E:∀r,A r\/R r->r<B0\/D' r):gB ac ad R n s gs bJ bx aU aI sc pos v B0 D' I:=by
 obtain⟨h1,f,p,q,F,_⟩:=h;have no:∀{r:Nat},m<=r->r<B0->¬S r:=λh1 f p=>by have:=y _ p;omega
 exact⟨h1.aa j ⟨no hm.1.1 f.1,no hm.1.2.1 f.2.1,no hm.1.2.2.1 f.2.2.1,no hm.1.2.2.2 f.2.2.2⟩,f,jg p j λr G a n c e x=>no (hm.2 r ⟨a,n,c,e,x⟩) (q r ⟨a,n,c,e,x⟩) G,q,⟨z,Y1 F.2 j.size⟩,A,s',t,B,C,E⟩
theorem GY{f:bF}{y:x3->Prop}(h:be w ac ad A R n s t)(B:Laid w)(C:s.d7[j]?=σ f)(E:∀aI gs bJ bx aU I,Ext w I->GX w.heap.size gs bJ bx aU aI->gB ac ad R n s gs bJ bx aU aI f.sc pos v I.heap.size (λ_=>False) I->K (.func (.func nx) #[] #[Γ bJ,Γ bx,Γ aU,Γ gs]) I):
  ak x7 um [Γ ac,Δ (j:Int)] w λaI J=>(Ext w J\/y J)/\ak x7 BR [Γ ac,aI,Δ pos,Δ v] J K:=by
 refine(rE h C).X ?_;rintro aI J _ ⟨q,g,G,hm⟩;refine⟨.inl q,(Te hm.ls).X ?_⟩;rintro _ V _ ⟨x,gs,bJ,bx,aU,rfl,a,H,L,M,N⟩;have p:=q.F x;have O:=q.size;have z:=p.size;refine E aI gs bJ bx aU V p ⟨⟨Ω,Ω,Ω,Ω⟩,λr e=>(bD hm e).1▸G⟩ ⟨a,⟨a.1.lt,a.2.1.lt,a.2.2.1.lt,a.2.2.2.lt⟩,hm.ls.W x,λr e=>?_,⟨B.W p,o5 _⟩,A,s,t,h.W p,λ_=>rfl,λr e=>.inl ?_⟩
 .have:=bD hm e;have:=x.size;omega
 .have:=h.lt e;omega
end
section
variable{k:Int}{co:Λ}{s:al}{f:bF}{j pos:Nat}{v:Int}{tl:Λ}
theorem wp{m:Nat}(a:s.d7[j]?=σ f)(e:f.live≠0)(hm:cc f.szs tl 0=σ (m:Int)):(iF s j tl).isSome=rs/\jL s j tl=bd f.szs f.cs tl:=by
 unfold iF jL;rw[a];simp[e,hm]
end
section
variable{w:x3}{ac ad:Nat}{A R:ah}{n:aG}{s:al}{t:aw}
theorem Tj{f:bF}(h:be w ac ad A R n s t)(ah:Laid w)(N:s.d7[j]?=σ f)(ay:f.live≠0)(az:∀u,f.sc[pos]?=σ u->v∈dn s u):
  ak x7 KO [Γ ac,Δ (j:Int),Δ (pos:Int),Δ v] w λr I=>r=Δ (n8 n.k s f pos v)/\Ext w I:=by
 have ai:=h.2.2.2.1;have aj:=x5 N;obtain⟨O,aT,_⟩:=ai.d7 f aj;refine je func247 ?_;refine bj λg1 J aV P y=>?_;refine bj λal V aW K L=>?_;have y:=ag.W y K;have L:=L;rw[av Ψ (y.cell rfl)];refine(kM (h.W (P.F K))).X ?_;rintro _ aX _ ⟨rfl,Q⟩;refine bu ao.i λS aY aZ U am=>?_;have a1:=P.size;have a2:=K.size;have z3:=Q.size;have z4:=U.size;have a6:=y.lt;have a7:=L.lt;have ba:=am.lt;refine bw ao.i rfl rfl am (by simp[T5]) λbb W bc X=>?_;have X:=X;intro an z _ _;have bf:=z.size;have ap:=Q.F U;have Y:=((((P.F K).F Q).F U).then W (by rintro r p rfl;omega)).F z;have Z:ag an g1 dx [Γ ac]:=((y.W ap).aa W Ω).W z;have aq:ag an al ae [Δ (j:Int)]:=((L.W ap).aa W Ω).W z;have au:=X.W z;have bg:=au.lt;rw[av Ψ (Z.cell rfl),av Ψ (Z.cell rfl),av Ψ (aq.cell rfl)];refine GY (h.W Y) (ah.W Y) N λaI gs bJ bx aU aA B aB aC=>?_;have bh:=B.size;refine⟨Nat,rs,sp,nx,#[Γ bJ,Γ bx,Γ aU,Γ gs],0,_,_,_,λD k I=>Ext w I/\ag I g1 dx [Γ ac]/\ag I al ae [Δ (j:Int)]/\ag I S ao [Δ ((((cQ s f.sc pos v).take k).map (bd f.szs f.cs)).foldl min n.k)],
  λ_ _ _ _=>False,rfl,GW (λu aw=>⟨(O.scope.1 u aw).1,O.d6 u aw⟩) O.scope.2,?_,λ_ _ _ aE h=>h.W aE,?_,λ_ _ _ _ _ _ _ h=>h,aC,?_,?_,?_,λ_ _ _ h=>h.elim,λ_ _ _ _ h=>h.elim⟩
 .rintro _ _ _ _ ⟨_,_,_,_,rfl,_⟩;rfl
 .rintro D k aF aG M bi ⟨q,C,E,x⟩;have a8:∀{g:Nat}{e:r8}{cs:List x1},g<aA.heap.size->ag aF g e cs->ag aG g e cs:=λbk aH=>aH.aa M λh=>by have:=h.2.1;omega
  exact⟨q.then M λr p h=>by have:=h.2.1;omega,a8 Ω C,a8 Ω E,a8 Ω x⟩
 .exact⟨Y.F B,Z.W B,aq.W B,au.W B⟩
 .rintro aO D k bl bm bp bq aJ ⟨rfl,tl,br,ax,e,aK⟩ ⟨q,C,E,x⟩;cases e;intro bs G _ aL;obtain⟨m,hm⟩:=vV ai aj az (x5 ax);obtain⟨aM,M⟩:=wp N ay hm;rw[av Ψ ((C.W G).cell rfl),av Ψ ((E.W G).cell rfl)];refine(rA (h.W (q.F G)) (aK.W G)).X ?_;rintro _ bt aN ⟨rfl,aP⟩;have a:=G.F aP;rw[m5 aM,M,bn,bo,av Ψ ((x.W a).cell rfl),nC];refine aD.cB (bw ao.i rfl rfl (x.W a) Ξ λbz H bA ab aQ=>?_);have bB:=a.size;have af:=(q.F a).then H (by rintro r p rfl;omega);have aR:=h.W af;refine⟨⟨D,λr h=>.inl h,λ_ h=>h,(aJ.W a).put H aB (λr p=>.inl (by have p:r=S:=p;omega)) (ah.W af) aR (λ_=>rfl) λr p=>.inl (by have:=h.lt p;omega),af,(C.W a).aa H Ω,(E.W a).aa H Ω,?_⟩,aL.F (aN.lE.F aQ.lE),(a.aa _).F (H.X λr _ h=>.inl (by have h:r=S:=h;omega))⟩;have ab:=ab;rw[u5,ax,l7,n9,List.foldl_append];exact ab
 .rintro D k bC rfl ⟨q,C,E,x⟩;rw[av Ψ (x.cell rfl)];intro bD aS _;refine⟨?_,q.F aS⟩;rw[o7 (o5 _)];rfl
end
def zR(w:x3)(a:Nat)(cap:Array x1)(e:Λ)(of:Λ->Int):Prop:=∀(I:x3)(aO:x1)(tl:Λ),af (λr=>w.heap.size<=r) w I->aF .i64 I aO tl->cW e tl->ak x7 a (aO::cap.toList) I λr f=>r=Δ (of tl)/\Ext I f
def pc(a:Λ)(of:Λ->Int):Λ:=(Z4 (aB a).toNat).map λ(q:Nat)=>of (b1 a q)
section
variable{w:x3}{ac ad:Nat}{A R:ah}{n:aG}{s:al}{t:aw}
theorem be.side{S:ah}(h:be w ac ad A R n s t)(a:af S w I)(e:∀r,r<w.heap.size->¬S r):be I ac ad A R n s t:=⟨h.1.aa a λr f _=>e r f,h.2⟩
theorem zS(a:a6 k co s)(e:∀v∈sc,0<=v/\v<co.length)(f:sc.length<=6):bU (aA co sc):=⟨by simp[aA];omega,jl a.cF.2.2 e⟩
theorem GZ{X:Nat}{cap:Array x1}{of:Λ->Int}(h:be w ac ad A R n s t)(aJ:aF .i64 w aI sc)(Y:∀v∈sc,0<=v/\v<n.co.length)(aK:sc.length<=6)(aL:aB (aA n.co sc)<=4096)(aM:zR w X cap (aA n.co sc) of)(aN:∀tl,cW (aA n.co sc) tl->0<=of tl/\of tl<=n.k):
  ak x7 BI [Γ ac,aI,.func (.func X) #[] cap] w λr I=>Ext w I/\∃g Z sv,r=Γ g/\w.heap.size<=g/\w.heap.size<=Z/\cd I g Z sv (aA n.co sc) n.k (pc (aA n.co sc) of):=by
 have ab:=h.2.2.2.1;have hk:=ab.dy;have f:=zS ab Y aK;have bf:=prod_bound f;refine je func179 ?_;refine bj λbg J bh j ae=>?_;refine(GP (h.W j) (aJ.W j) Y Ω).X ?_;rintro bi V _ ⟨C,gz,bk,aP⟩;refine(kM (h.W (j.F C))).X ?_;rintro _ bm _ ⟨rfl,E⟩;refine(sg (aP.ls.W E)).X ?_;rintro _ G _ ⟨ag,_,_,_,aQ⟩;obtain⟨ah,a,H,rfl,bp,bq,br,K⟩:=aQ f aL ⟨hk,Ω,Ω⟩;obtain⟨N,M⟩:∃N:Nat,(aB (aA n.co sc)).toNat=N:=⟨_,rfl⟩;rw[M]at K;rw[bn,bo];refine bu dp.i λaR bs aS aT p=>?_;refine bw dp.i rfl rfl p (by simp[T5]) λaU aV bt p=>?_;have O:Ext G aU:=aT.put aV Ω;have aW:=(C.F E).F ag;have aX:=aW.F O;have ai:=K.W O;rw[av Ψ (p.cell rfl)];refine(nQ ai).X ?_;rintro _ bx _ ⟨rfl,aj⟩;refine pO.X ?_;rintro _ P _ ⟨al,am,rfl,bz,Q⟩;have S:=aj.F al;have an:=aX.F S;have ao:=j.F an;have ap:=ai.W S;have bA:=j.size;have bB:=C.size;have z3:=E.size;have z4:=ag.size;have z46:=O.size;have bC:=aj.size;have bD:=al.size;have bE:=ae.lt;have bF:=p.lt;have bG:=Q.lt;obtain⟨⟨bH,bI,bJ,aq,bK⟩,⟨bL,aY,_⟩,_,bM⟩:=id ap;have bN:a<G.heap.size:=by obtain⟨⟨_,_,_,_,q⟩,_⟩:=id K;exact iy q Θ
 have bO:aR=G.heap.size:=aS;let L:=pc (aA n.co sc) of;have au:L.length=N:=by simp[L,pc,M]
 have aZ:=ae.W an;have aw:=p.W S;have ax:=pN (g:=am) (B0:=P.heap.size) (sv:=H) f;rw[M]at ax;refine mp.old ⟨Nat,sp,kp,#[Γ am],0,_,_,_,λq I=>af (λr=>r=a) P I/\cd I ah a H (aA n.co sc) n.k (upto L 0 q),λ_ _ _=>False,rfl,ax.s,
  ?_,λ_ _ e h=>⟨h.1.W e,h.2.1.W e,Y1 h.2.2 e.size⟩,λ_ _ _ e h=>⟨h.1.F (e.aa _),h.2.W e⟩,λ_ _ _ _ _ h=>h,⟨Q,aq.ls,o5 _⟩,⟨af.refl _ _,?_⟩,?_,?_,λ_ _ h=>h.elim,λ_ _ _ h=>h.elim⟩
 .rintro _ _ _ _ ⟨_,_,_,_,rfl,_⟩;rfl
 .rw[mK,au];exact ap
 .rintro _ aO q _ bP ⟨_,_,bQ⟩ ⟨ay,rfl,bR,gt,a1,bS,a2⟩ ⟨a6,a7⟩;cases a1;intro bT a8 _ _ az ba _ _;have U:=a8.F ba;have x:af (λr=>r=a) P az:=a6.F (U.aa _);rw[av Ψ ((aw.aa x Ω).cell rfl),av Ψ ((aZ.aa x Ω).cell rfl)];have aC:=q2 (s:=aA n.co sc) f.2 (q:=q) Ω;have aD:=a2.W U;refine ak.X (aM az aO (b1 (aA n.co sc) q) ((ao.aa _).F (x.X λr _ y=>by have y:r=a:=y;omega)) aD.ls aC) ?_;rintro _ bU _ ⟨rfl,z⟩;refine⟨.inl z,?_⟩;refine(Cq ((a7.W U).W z) (aD.W z).ls).X ?_;rintro _ bV _ ⟨_,bb,aE⟩;have bc:L[q]?=σ (of (b1 (aA n.co sc) q)):=by
   simp only[L,pc];rw[x8,List.getElem?_range Ω];rfl
  have bd:qS (aA n.co sc) (b1 (aA n.co sc) q) n.k (of (b1 (aA n.co sc) q)) (upto L 0 q)=upto L 0 (q+1):=by
   unfold qS;rw[qZ f.2 Ω Ω];simp only;rw[m5 ⟨hk,aN _ aC⟩,u7,mM bc]
  rw[bd]at aE;have B:=(x.F (z.aa _)).F bb;refine⟨⟨Q.aa B Ω,?_,Y1 (o5 _) B.size⟩,⟨B,aE⟩,λh=>by cases h⟩;exact(bl aq B λr y he=>aY ((show r=a from he)▸y)).ls
 .rintro q bW ay ⟨aG,W⟩;rw[show q=N from ay]at W;rw[av Ψ ((aw.aa aG Ω).cell rfl)];intro bX aH _;rw[<-au,mL]at W;exact⟨(ao.put aG Ω).F aH,ah,a,H,rfl,Ω,Ω,W.W aH⟩
theorem G0{co:Λ}(p:Int->Bool):∀(l:Λ),(∀v∈l,1<=co.getD v.toNat 0)->aB (aA co (l.filter p))<=aB (aA co l)/\1<=aB (aA co (l.filter p))
 |[],_=>⟨Int.le_refl _,Int.le_refl 1⟩
 |v::l,h=>by
  obtain⟨h1,q⟩:=G0 p l λu j=>h u (.tail _ j);have a:=h v (.head _);have e:aB (aA co (v::l))=co.getD v.toNat 0*aB (aA co l):=rfl;have hm:1*aB (aA co l)<=co.getD v.toNat 0*aB (aA co l):=W6 a Ω;rw[e];cases f:p v with
  |true=>
   rw[List.filter_cons_of_pos f];show co.getD v.toNat 0*aB (aA co (l.filter p))<=_/\1<=co.getD v.toNat 0*aB (aA co (l.filter p));have r:=Int.mul_le_mul_of_nonneg_left h1 (show 0<=co.getD v.toNat 0 by omega);have s:1*aB (aA co (l.filter p))<=co.getD v.toNat 0*aB (aA co (l.filter p)):=W6 a Ω;omega
  |false=>
   rw[List.filter_cons_of_neg (by simp[f])];omega
theorem Tk{i:Int}{L M:List bF}(a:a6 k co s)(j:∀f∈L,f∈M):aB (aA co (bY co i L))<=aB (aA co (bY co i M))/\(bY co i L).length<=(bY co i M).length:=by
 have e:bY co i L=(bY co i M).filter λv=>decide (v∈bY co i L):=pX mb (ly (List.Pairwise.filter _ mb.pair)) λv=>by
  rw[T2,rc];refine⟨λh=>⟨?_,h⟩,λh=>h.2⟩;obtain⟨h1,p⟩:=kk.1 h;exact kk.2 ⟨h1,p.imp id λ⟨f,q,r⟩=>⟨f,j f q,r⟩⟩
 rw[e];refine⟨(G0 _ _ λv w=>?_).1,S8 _ _⟩;have h1:=(kk.1 w).1;have:=jl (sc:=[v]) a.cF.2.2 (λu x=>by rw[b8.1 x];exact h1) _ (.head _);exact this.1
theorem G1{of:Λ->Int}(a:ez sc):pc (aA co sc) of=et (aA co sc) sc λA=>of (sc.map A):=by
 unfold pc et;refine V3 λq _=>?_;show of _=of (sc.map (fS sc _));rw[zD a (by rw[ix];simp[aA])]
theorem eh.un{i:Int}{x:br}(hm:eh n s i x)(h:a6 n.k n.co s):∃pos:Nat,(bY n.co i (bs s i))[pos]?=σ i/\(bY n.co i (bs s i)).length<=4/\aB (aA n.co (bY n.co i (bs s i)))<=4096:=by
 obtain⟨pos,a⟩:=c8.1 (kk (co:=n.co) (L:=bs s i).2 ⟨hm.has,.inl rfl⟩:i∈bY n.co i (bs s i));obtain⟨h1,f⟩:=zO h hm.has a;refine⟨pos,a,?_,?_⟩
 .have:=hm.wb;rw[f];simp;omega
 .have e:aB (aA n.co (bY n.co i (bs s i)))=n.co.getD i.toNat 0*aB (aA n.co (a1 n.co s i)):=by
   rw[f];unfold aA;rw[n9,n9,pB,pB];have j:aB ((a1 n.co s i).map λv=>n.co.getD v.toNat 0)=aB (((a1 n.co s i).take pos).map λv=>n.co.getD v.toNat 0)*aB (((a1 n.co s i).drop pos).map λv=>n.co.getD v.toNat 0):=by
    rw[<-pB,<-n9,List.take_append_drop]
   rw[j];show _*(n.co.getD i.toNat 0*1)*_=_;rw[Int.mul_one,Int.mul_comm (aB (((a1 n.co s i).take pos).map λv=>n.co.getD v.toNat 0)),Int.mul_assoc]
  rw[e];exact hm.small
theorem Tl{i:Int}{x:br}(h:be w ac ad A R n s t)(hm:eh n s i x):ak x7 I4 [Γ ac,Δ i] w λr I=>Ext w I/\∃g e sv aI aU,r= .tuple #[Γ g,aI]/\(w.heap.size<=g/\w.heap.size<=e/\w.heap.size<=aU)/\
  cd I g e sv (aA n.co (bY n.co i (bs s i))) n.k (et (aA n.co (bY n.co i (bs s i))) (bY n.co i (bs s i)) (dS n.k x.un i (bs s i)))/\an .i64 ae I aU aI (bY n.co i (bs s i)):=by
 have H:=h.2.2.2.1;have hk:=H.dy;obtain⟨c0,aK,c1⟩:=hm.size H;obtain⟨pos,c2,c3,c4⟩:=hm.un H;have bg:∀f∈bs s i,∀v∈f.sc,0<=v/\v<n.co.length:=λf X v E=>by
  have z:=(H.d7 f (jP.1 X).1).1;exact⟨(z.scope.1 v E).1,z.d6 v E⟩
 have bh:∀{l sc:Λ}{F:(Int->Int)->Int},(∀A,0<=F A/\F A<=n.k)->∀c∈et l sc F,cK c n.k:=λbZ c z=>⟨hk,Gs bZ c z⟩;refine ay func90 ?_;refine bj λg1 J c5 aK O=>?_;refine bj λbi V c6 aM am=>?_;have O:=O.W aM;have P:=aK.F aM;have c7:=aK.size;have c8:=aM.size;have c9:=O.lt;have da:=am.lt;have ao:=SI (co:=n.co) hm.has;have b0:∀I,Ext V I->zR I BJ #[Γ g1,Γ bi] (aA n.co [i]) (λtl=>x.un.getD (tl.getD 0 0).toNat 0):=λI ap bk aO tl z aN Y=>by
  have db:=ap.size;have aP:∀r,r<I.heap.size->¬(I.heap.size<=r):=λr b1 h=>Ω
  obtain⟨y,rfl⟩:∃y,tl=[y]:=by
   have:=su Y
   match tl,this with
   |[y],_=>exact⟨y,rfl⟩
  have bl:=(xP.1 Y).1;refine ay func180 ?_;intro b2 Z _ _;have aQ:be b2 ac ad A R n s t:=((h.W (P.F ap)).side z aP).W Z;rw[av Ψ ((((O.W ap).aa z Ω).W Z).cell rfl),av Ψ ((((am.W ap).aa z Ω).W Z).cell rfl),ew (i:=0) (y:=0) rfl ai.u ae.i Ψ (aN.W Z) rfl];refine(l2 (i:=i) (v:=y) aQ).X ?_;rintro _ b3 _ ⟨rfl,aR⟩;have b4:eL n i y:=⟨hm.has.1,hm.has.2,bl.1,bl.2⟩;rw[m5 b4,bn,bo];refine⟨?_,Z.F aR⟩;unfold fG;rw[hm.at_];rfl
 have b5:∀v∈[i],0<=v/\v<n.co.length:=λv E=>by rw[b8.1 E];exact hm.has
 have b7:aB (aA n.co [i])<=4096:=by
  show n.co.getD i.toNat 0*1<=4096;omega
 have b9:∀tl,cW (aA n.co [i]) tl->0<=x.un.getD (tl.getD 0 0).toNat 0/\x.un.getD (tl.getD 0 0).toNat 0<=n.k:=λtl _=>zF H hm.at_;have ca:pc (aA n.co [i]) (λtl=>x.un.getD (tl.getD 0 0).toNat 0)=et (aA n.co [i]) [i] (dS n.k x.un i []):=G1 (ly Ξ);refine jb (λu v aq=>Ext V aq/\∃g e sv aU,u=Γ g/\(V.heap.size<=g/\V.heap.size<=e/\V.heap.size<=aU)/\cd aq g e sv (aA n.co (bY n.co i [])) n.k (et (aA n.co (bY n.co i [])) (bY n.co i []) (dS n.k x.un i []))/\an .i64 ae aq aU v (bY n.co i [])) ?_ ?_
 .rintro u v aq ⟨au,g,e,sv,aU,rfl,aT,B,S⟩;rw[av Ψ ((O.W au).cell rfl),av Ψ ((am.W au).cell rfl)];refine(tj (h.W (P.F au))).X ?_;rintro dc cb _ ⟨aV,dd,bm,_⟩;rw[aS ai.u bm.ls];have aW:=au.F aV;refine mn.range (cR s i s.d7.length).length (λq u v U=>Ext cb U/\∃g e sv aU,u=Γ g/\(V.heap.size<=g/\V.heap.size<=e/\V.heap.size<=aU)/\
   cd U g e sv (aA n.co (bY n.co i ((bs s i).take q))) n.k (et (aA n.co (bY n.co i ((bs s i).take q))) (bY n.co i ((bs s i).take q)) (dS n.k x.un i ((bs s i).take q)))/\an .i64 ae U aU v (bY n.co i ((bs s i).take q)))
   (by have:=zK (s:=s) (i:=i) (j:=s.d7.length);have:=p4 h.2.1 h.2.2.1;have z:=rp s;have ce:∀(L:List bF),L.length<=(L.flatMap fQ).length:=λL=>by
            induction L with
            |nil=>exact o5 _
            |cons a L de=>rw[U3,p9,Y4];have:(fQ a).length=a.cs.length+1:=rfl;omega
       have:=ce s.d7;omega)
   ⟨Ext.refl _,g,e,sv,aU,rfl,aT,B.W aV,S.W aV⟩ ?_ ?_
  .rintro q u v U cf cg ⟨W,g,e,sv,aU,rfl,aT,B,S⟩ ch;refine bt Ω ?_;obtain⟨j,bp⟩:=aC (l:=cR s i s.d7.length) cg;obtain⟨df,f,X,bq,ci,dg⟩:=zM bp;have bx:=x5 bq;have aX:=(jP.1 bx).1;obtain⟨aw,cj,f2⟩:=H.d7 f aX;rw[ba ai.u ae.i Ψ (bm.ls.W W) bp];refine bu ae.i λck dh di cl ax=>?_;refine bw ae.i rfl rfl ax Nat.zero_lt_one λcm cn dj ax=>?_;have bz:Ext U cm:=cl.put cn Ω;intro dk aD _ _;have bA:=(aW.F W).F bz;have ab:=bA.F aD;have bB:=ax.W aD;have dm:=bA.size;have z28:=ab.size;have dn:=aD.size;have dp:=ax.lt;rw[av Ψ ((O.W ab).cell rfl),av Ψ ((O.W ab).cell rfl),av Ψ (bB.cell rfl),jX];have aY:j=((j.toNat:Nat):Int):=Ω
   rw[aY];refine(rE (h.W (P.F ab)) X).X ?_;rintro aI aZ _ ⟨af,bJ,_,cp⟩;refine⟨.inl af,?_⟩;have aE:=ab.F af;have bC:=bB.W af;have cq:zR aZ J5 #[Γ g1,Γ ck] (aA n.co f.sc) (bd f.szs f.cs):=λbk aO tl z aN Y=>by
    have z9:=af.size;have aP:∀r,r<aZ.heap.size->¬(aZ.heap.size<=r):=λr b1 h=>Ω
    refine ay func181 ?_;have aQ:be bk ac ad A R n s t:=(h.W (P.F aE)).side z aP;rw[av Ψ (((O.W aE).aa z Ω).cell rfl),av Ψ ((bC.aa z Ω).cell rfl),aY];refine(rA aQ aN).X ?_;rintro _ b3 _ ⟨rfl,aR⟩;rw[<-cj]at Y;obtain⟨m,bD⟩:=Y;have dq:=ky (l5 H aX).1 bD;have cr:cc f.szs tl 0=σ ((m.toNat:Nat):Int):=by rw[bD];congr 1;omega
    obtain⟨ct,cu⟩:=wp X ci cr;rw[m5 ct,cu,bn,bo];exact⟨rfl,aR⟩
   have a1:∀v∈f.sc,0<=v/\v<n.co.length:=bg f bx;refine(GZ (h.W (P.F aE)) cp.ls a1 aw.scope.2 aw.small cq λtl _=>(pW hk λc z=>⟨hk,aw.fP c z⟩).2).X ?_;rintro _ dr _ ⟨a2,ds,dt,du,rfl,dv,dw,bE⟩;have bG:=aE.F a2;rw[av Ψ ((O.W bG).cell rfl),av Ψ ((bC.W a2).cell rfl),aY];refine(rE (h.W (P.F bG)) X).X ?_;rintro dx dz _ ⟨bH,dA,_,cw⟩;have ag:ez f.sc:=ly aw.up;have cz:pc (aA n.co f.sc) (bd f.szs f.cs)=et (aA n.co f.sc) f.sc (gQ f):=G1 ag;rw[cz]at bE;have aG:=((bz.F aD).F af).F (a2.F bH);have bI:∀g∈(bs s i).take q,g∈bs s i:=λg N=>V4 N;have cA:∀{M:List bF},(∀g∈M,g∈bs s i)->∀A,0<=dS n.k x.un i M A/\dS n.k x.un i M A<=n.k:=λcB A=>v7 H (λg N=>(jP.1 (cB g N)).1) hm.at_;refine(EO (B.W aG) (bE.W bH) (S.W aG).ls cw.ls hk (bh (cA bI)) (bh λA=>vZ H aX)).X ?_;rintro _ dC _ ⟨cC,_,cD⟩;have bL:∀{sc:Λ}(bM:ez sc)(bN:∀v∈sc,0<=v),Fits (aA n.co sc) sc:=λbM bN=>⟨by simp[aA],EB bM bN⟩;obtain⟨d6,a6,_,cE⟩:=cD ⟨bL mb λv E=>(kk.1 E).1.1,bL ag λv E=>(a1 v E).1⟩;obtain⟨_,_,_,bO⟩:=cE (SK mb ag);have bP:=SJ a1 a6;have bQ:(bs s i).take q++[f]=(bs s i).take (q+1):=by rw[u5,bq];rfl
   rw[bQ]at bP;subst bP;have cF:∀g∈(bs s i).take (q+1),g∈bs s i:=λg N=>V4 N;obtain⟨dD,dE⟩:=Tk (i:=i) H cF;have a7:bU (aA n.co (bY n.co i ((bs s i).take (q+1)))):=zS H (λv E=>(kk.1 E).1) Ω;have cG:=GL (co:=n.co) mb ag (λv E=>by have:=a7.2 _ (o8.2 ⟨v,E,rfl⟩);omega) a6;have cH:=SL (k:=n.k) a7.2 mb ag a6 (GM (k:=n.k) (un:=x.un) hm.has λg N=>bg g (bI g N)) SM;rw[cG,cH]at bO;obtain⟨cI,cJ,cL,dF,rfl,bR,⟨dG,dH⟩,cM,dI,cN⟩:=bO rfl a7 Ω;rw[gY,gZ,ia,aL];have z5:=W.size;have dJ:=aW.size;have dK:=aG.size;have cO:(λA=>min (dS n.k x.un i ((bs s i).take q) A+gQ f A) n.k)=dS n.k x.un i ((bs s i).take (q+1)):=by
    funext A;unfold dS;rw[<-bQ,List.foldl_append];rfl
   rw[cO]at bR;exact ch _ _ _ ⟨W.F (aG.F cC),cI,cJ,cL,cM,rfl,⟨Ω,Ω,Ω⟩,bR,cN⟩
  .rintro u v U cf ⟨W,g,e,sv,aU,rfl,aT,B,S⟩;refine b6 Ω ?_;rw[SC,p8]at B S;exact⟨P.F (aW.F W),g,e,sv,v,aU,rfl,⟨Ω,Ω,Ω⟩,B,S⟩
 .intro az a8;intro bb Q _ _;have cP:=(O.W Q).Qz rfl;have bS:=(am.W Q).Qz rfl;rw[av Ψ cP,av Ψ bS,jX,av Ψ bS];have dL:=Q.size;have m1:∀{aH:x3}{bK:x1}{K:x1->x3->Prop},Ext bb aH->aF .i64 aH bK [i]->(∀g e sv ah,Ext aH ah->bb.heap.size<=g->bb.heap.size<=e->cd ah g e sv (aA n.co (bY n.co i [])) n.k (et (aA n.co (bY n.co i [])) (bY n.co i []) (dS n.k x.un i []))->K (Γ g) ah)->
    ak x7 BI [Γ ac,bK,.func (.func BJ) #[] #[Γ g1,Γ bi]] aH K:=λbc cQ cS=>by
   refine(GZ (h.W (P.F (Q.F bc))) cQ b5 Ξ b7 (b0 _ (Q.F bc)) b9).X ?_;rintro _ ah _ ⟨cT,g,e,sv,rfl,N,bf,B⟩;rw[ca]at B;have dM:=bc.size;refine cS g e sv ah cT Ω Ω ?_;rw[ao];exact B
  refine⟨?_,?_⟩
  .refine dl ai.u ae.i rfl λcU cV cX cY p aJ=>?_;refine⟨.inl p,?_,?_⟩
   .refine m1 p aJ.ls λg e sv bT G N bf B=>?_;refine⟨.inl (p.F G),?_⟩;refine dl ai.u ae.i rfl λbV aj bW bX C al=>?_;have cZ:=(p.F G).size;refine⟨.inl ((p.F G).F C),a8 _ _ _ ⟨Q.F ((p.F G).F C),g,e,sv,aj,rfl,⟨Ω,Ω,Ω⟩,B.W C,by rw[ao];exact al⟩⟩
   .refine dl ai.u ae.i rfl λbV aj bW bX C al=>?_;refine⟨.inl (p.F C),?_⟩;refine m1 (p.F C) (aJ.W C).ls λg e sv bT G N bf B=>?_;have cZ:=p.size;refine⟨.inl ((p.F C).F G),a8 _ _ _ ⟨Q.F ((p.F C).F G),g,e,sv,aj,rfl,⟨Ω,Ω,Ω⟩,B,by rw[ao];exact al.W G⟩⟩
  .refine dl ai.u ae.i rfl λbV aj bW bX C al=>?_;refine⟨.inl C,?_⟩;refine dl ai.u ae.i rfl λcU cV cX cY p aJ=>?_;refine⟨.inl (C.F p),?_⟩;refine m1 (C.F p) aJ.ls λg e sv bT G N bf B=>?_;refine⟨.inl ((C.F p).F G),a8 _ _ _ ⟨Q.F ((C.F p).F G),g,e,sv,aj,rfl,⟨Ω,Ω,Ω⟩,B,by rw[ao];exact(al.W p).W G⟩⟩
end
def qn(szs t:Λ):Int:=(cc szs t 0).getD 0
def ne(s:al)(f:bF)(pos:Nat)(v:Int):Λ:=(cQ s f.sc pos v).map (qn f.szs)
def md(s:al)(sc:Λ)(pos:Nat)(v:Int)(t:Λ):Bool:=decide (t.getD pos 0=v)&&fv s sc t
section
variable{k:Int}{co:Λ}{s:al}{f:bF}{pos:Nat}{v:Int}
theorem Tm:fv s sc t=rs↔ ∀(p:Nat)u w,sc[p]?=σ u->t[p]?=σ w->w∈dn s u:=by
 unfold fv;rw[List.all_eq_true];constructor
 .intro h p u w e hw;have:=h (u,w) (x5 (U9.2 ⟨e,hw⟩));unfold dn;cases a:s.d6[u.toNat]? with
  |none=>simp[a]at this
  |some x=>simpa[a]using this
 .rintro h ⟨u,w⟩ hm;obtain⟨p,f⟩:=c8.1 hm;obtain⟨h1,j⟩:=U9.1 f;have:=h p u w h1 j;unfold dn at this;simp only;cases a:s.d6[u.toNat]? with
  |none=>rw[a]at this;cases this
  |some x=>rw[a]at this;simpa using this
theorem Tn(r:a6 k co s)(C:f∈s.d7)(E:pos<f.sc.length)(x:∀u,f.sc[pos]?=σ u->v∈dn s u):cQ s f.sc pos v=(bk f.szs).filter (md s f.sc pos v):=by
 obtain⟨y,z,_⟩:=r.d7 f C;have q:=zj r (λu a=>⟨(y.scope.1 u a).1,y.d6 u a⟩) x;rw[<-z]at q;have h1:∀t∈bk f.szs,(p7 (qb s pos v f.sc 0) t=rs↔t∈cQ s f.sc pos v):=λt j=>by rw[q,T2];exact⟨λh=>⟨j,h⟩,λh=>h.2⟩
 rw[q];refine List.filter_congr λt j=>?_;have F:t.length=f.sc.length:=by rw[uz j,z];simp[aA]
 rw[U5,h1 t j,zm,md,V8,rc,Tm];constructor
 .rintro⟨_,h⟩;obtain⟨u,a⟩:=aC (l:=f.sc) E;obtain⟨w,hw⟩:=aC (l:=t) (i:=pos) Ω;have A:=h pos u w a hw;rw[m5 rfl]at A;refine⟨by rw[v8,hw];exact A,λp u' I B G=>?_⟩;have:=h p u' I B G;split at this
  .rename_i e;subst e;rw[this];exact x u' B
  .exact this
 .rintro⟨h1,H⟩;refine⟨F,λp u w a hw=>?_⟩;split
  .rename_i e;subst e;rw[v8,hw]at h1;exact h1
  .exact H p u w a hw
end
section
variable{w:x3}{dG:x1}{k:Int}{co:Λ}{s:al}
theorem To{j pos:Int}(h:io w dG k co s)(ac:a6 k co s)(ao:cw s):ak x7 K8 [dG,Δ j,Δ pos,Δ v] w λr I=>Ext w I/\∃u,r= .tuple #[Δ u,.bool (eX s j pos v).isSome]:=by
 have aI:=ac.d6;refine ay func289 ?_;refine bj λg1 J aJ K ap=>?_;have ad:=h.box K ap;obtain⟨d9,aL,aN,aO,aQ,aR,L,aU,_,aq,aX,aY,af,a1⟩:=id ad;refine aV (λr V=>Ext J V/\((r= .bool rs/\eX s j pos v=ν)\/(r= .bool sp/\∃f u,0<=j/\0<=pos/\s.d7[j.toNat]?=σ f/\f.live≠0/\f.sc[pos.toNat]?=σ u))) ?_ λaz G=>?_
 .rintro _ V ⟨B,⟨rfl,z⟩|⟨rfl,f,u,M,ag,e,ah,A⟩⟩
  .rw[bZ,z];exact⟨K.F B,0,rfl⟩
  .rw[aW];have al:=x5 e;have N:=x5 A;obtain⟨am,a2,_⟩:=ac.d7 f al;have O:=(am.scope.1 u N).1;have a8:=am.d6 u N;have O:=O;obtain⟨x,Q⟩:=aC (l:=s.d6) (i:=u.toNat) Ω;rw[aK aZ.p 6 (L.W B) rfl];refine nL (i:=j.toNat) Ω fq.u dF.i (bN af B) (by rw[x8,e];rfl) λb o cs R S=>?_;obtain⟨au,aw,v3,rfl,h1,ax,aA⟩:=oY S;rw[aT dF.p rfl,aT a7.p rfl,av Ψ (R 0 _ rfl),ew (y:=pos) (i:=pos.toNat) Ω ai.u ae.i Ψ (eC h1) A,aK aZ.p 3 (L.W B) rfl];refine kx (i:=u.toNat) rfl Ω dk.u ai.i Ψ (bN aq B) (by rw[x8,Q];rfl) λba aB=>?_;refine(rB (eC aB)).X ?_;rintro _ bb _ ⟨rfl,aD⟩;refine⟨(K.F B).F aD,u,?_⟩;have aE:=ao f al ah u N x Q;have U:eX s j pos v=(eF s u v).map λx=>(f,u,x):=by
    unfold eX;rw[m5 ⟨M,ag⟩,e];simp only;rw[m5 ah,A]
   have aF:eF s u v=if v∈aM x then σ x else ν:=by
    unfold eF;rw[m5 O,Q];simp only[aE,true_and]
   rw[U,aF];by_cases H:v∈aM x
   .rw[m5 H,ms H];rfl
   .rw[m6 H,pl H];rfl
 have W:∀{P:Prop},(¬∃f u,0<=j/\0<=pos/\s.d7[j.toNat]?=σ f/\f.live≠0/\f.sc[pos.toNat]?=σ u)->(eX s j pos v=ν->P)->P:=λz aG=>aG (by
  cases U:eX s j pos v with
  |none=>rfl
  |some q=>
   obtain⟨f,u,x⟩:=q;obtain⟨X,Y,a3,a4,a5,_⟩:=o0 U;exact m7 ⟨f,u,X,Y,a3,a4,a5⟩ z)
 refine ad.load λu A=>?_;refine(RG A).X ?_;rintro _ bc _ ⟨rfl,C⟩;have same:∀{f Z:bF},s.d7[j.toNat]?=σ f->s.d7[j.toNat]?=σ Z->Z=f:=λa b=>by rw[a]at b;exact(Z7 b).symm
 rw[bA,bM];refine⟨λaa=>W (λ⟨f,u,X,Y,a3,a4,a5⟩=>?_) λz=>G _ _ ⟨C,.inl ⟨rfl,z⟩⟩,λab=>?_⟩
 .unfold eA at aa;rw[a3]at aa;simp[X,a4]at aa
 have ab:0<=j/\eA s j.toNat=rs:=by simpa using ab
 obtain⟨M,E⟩:=ab;obtain⟨f,e,aH⟩:∃f,s.d7[j.toNat]?=σ f/\f.live≠0:=by
  unfold eA at E;cases e:s.d7[j.toNat]? with
  |none=>rw[e]at E;cases E
  |some f=>rw[e]at E;exact⟨f,rfl,by simpa using E⟩
 rw[aP,aj];refine⟨λbd=>W (λ⟨_,_,_,Y,_⟩=>Ω) λz=>G _ _ ⟨C,.inl ⟨rfl,z⟩⟩,λag=>?_⟩;rw[aK aZ.p 6 (L.W C) rfl];refine nL (i:=j.toNat) Ω fq.u dF.i (bN af C) (by rw[x8,e];rfl) λb o cs R S=>?_;obtain⟨au,aw,v3,rfl,h1,ax,aA⟩:=oY S;rw[aT dF.p rfl,aT a7.p rfl,av Ψ (R 0 _ rfl),aS ai.u (eC h1),cJ];by_cases an:(f.sc.length:Int)<=pos
 .refine W (λ⟨Z,u,_,_,a3,_,a5⟩=>?_) λz=>G _ _ ⟨C,.inl ⟨by rw[ms an],z⟩⟩;obtain rfl:=same e a3;have:=(x4.1 a5).1;omega
 .obtain⟨u,A⟩:=aC (l:=f.sc) (i:=pos.toNat) Ω;exact G _ _ ⟨C,.inr ⟨by rw[pl an],f,u,M,Ω,e,aH,A⟩⟩
theorem G2{f:bF}(h:io w dG k co s)(L:a6 k co s)(af:s.d7[j]?=σ f)(aJ:pos<f.sc.length)(aN:∀u,f.sc[pos]?=σ u->v∈dn s u):
  ak x7 KJ [dG,Δ (j:Int),Δ (pos:Int),Δ v] w λr I=>Ext w I/\aF .i64 I r (ne s f pos v)/\∀q,li r q->w.heap.size<=q:=by
 have bx:=L.d6;have U:=x5 af;obtain⟨M,ag,_⟩:=L.d7 f U;have N:=(l5 L U).1;have aP:f.szs.length=f.sc.length:=by rw[ag];simp[aA]
 have bz:=jz N;have bA:(bk f.szs).length<=4096:=by
  have O:=M.small;rw[<-ag]at O;omega
 refine ay func242 ?_;refine bj λg1 J bB W aQ=>?_;obtain⟨d9,bD,bE,bG,bH,bI,ah,bJ,_,aR,bK,bL,aU,bO⟩:=h.box W aQ;rw[aK aZ.p 6 ah rfl];refine nL (i:=j) rfl fq.u dF.i aU (by rw[x8,af];rfl) λb o cs E aW=>?_;obtain⟨X,Y,v3,rfl,h1,O,aX⟩:=oY aW;rw[aT dF.p rfl,bC (cs:=[X,Y,v3]) a7.p a7.i rfl (λq u a=>by
  have:q<3:=(x4.1 a).1
  match q,this,a with
  |0,_,a=>cases a;exact E 0 _ rfl
  |1,_,a=>cases a;exact E 1 _ rfl
  |2,_,a=>cases a;exact E 2 _ rfl)]
 refine bu a7.i λbP V bQ aY a1=>?_;have a2:∀u∈[X,Y,v3],u.oneCell'=rs:=λu aj=>by
  simp only[List.mem_cons,List.not_mem_nil,or_false]at aj;rcases aj with rfl|rfl|rfl
  .exact nK h1
  .exact nK O
  .exact nK aX
 refine b4 (vs:=[X,Y,v3]) a7.i rfl rfl a2 a1 λbR a8 bS al=>?_;have am:=aY.put a8 Ω;have s1:=eC h1;have s2:=eC O;rw[aK a7.p 1 al rfl];refine(CO f.szs (s2.W am) ⟨by rw[aP];exact M.scope.2,N⟩).X ?_;rintro bU P _ ⟨ao,aq⟩;have Z:=am.F ao;rw[jf dk.u aq];refine bT.range (bk f.szs).length (λi out C=>Ext P C/\(∃g,an .i64 ae C g out ((((bk f.szs).take i).filter (md s f.sc pos v)).map (qn f.szs)))/\∀r,li out r->P.heap.size<=r) Ω ⟨Ext.refl _,⟨0,an.nil _ _ _ _⟩,λr E=>by obtain⟨_,_,_,e,_⟩:=E;cases e⟩ ?_ ?_
 .rintro q out C bb a ⟨z,⟨g,hm⟩,Q⟩ bc;have G:(bk f.szs)[q]?=σ (b1 f.szs (q:Int)):=q0 N Ω;generalize b1 f.szs (q:Int)=tl at G;have bV:=xw G;have bd:=kD N G;have be:qn f.szs tl=(q:Int):=by unfold qn;rw[bd];rfl
  have R:=Z.F z;have au:((bk f.szs).take (q+1)).filter (md s f.sc pos v)=((bk f.szs).take q).filter (md s f.sc pos v)++(if md s f.sc pos v tl=rs then[tl]else[]):=by
   rw[u5,G,l7,List.filter_append];congr 1;cases ap:md s f.sc pos v tl<;>simp[ap]
  obtain⟨aa,av⟩:=aC (l:=tl) (i:=pos) Ω;refine bt Ω ?_;refine aV (λaw ax=>Ext P ax/\(∃g,an .i64 ae ax g aw ((((bk f.szs).take (q+1)).filter (md s f.sc pos v)).map (qn f.szs)))/\∀r,li aw r->P.heap.size<=r) (λ_ _ ab=>by rw[aL];exact bc _ _ ab) λaz H=>?_;refine kx rfl rfl dk.u ai.i Ψ (bN aq z) G λaO S=>?_;have S:=eC S;rw[ba ai.u ae.i Ψ S av,bi,aK a7.p 0 (al.W (ao.F z)) rfl,aS ai.u (s1.W R)];refine bT.range f.sc.length (λp ok ac=>Ext C ac/\ok= .bool (decide (aa=v)&&fv s (f.sc.take p) (tl.take p))) s1.le ⟨Ext.refl _,by simp[fv]⟩ ?_ ?_
  .rintro p _ ac bf bg ⟨A,rfl⟩ bh;obtain⟨u,ad⟩:=aC (l:=f.sc) bg;obtain⟨y,aB⟩:=aC (l:=tl) (i:=p) Ω;have aD:=x5 ad;have aE:=(M.scope.1 u aD).1;have aG:=M.d6 u aD;have aG:=aG;have aE:=aE;obtain⟨x,aH⟩:=aC (l:=s.d6) (i:=u.toNat) Ω;have aI:fv s (f.sc.take (p+1)) (tl.take (p+1))=(fv s (f.sc.take p) (tl.take p)&&decide (y∈aM x)):=by
    unfold fv;rw[u5,u5,ad,aB,l7,l7,List.zip_append Θ,List.all_append];simp[aH]
   refine bt Ω ?_;refine aV (λok bl=>Ext C bl/\ok= .bool (decide (aa=v)&&fv s (f.sc.take (p+1)) (tl.take (p+1)))) (λ_ _ ab=>by rw[aL];exact bh _ _ ab) λaz H=>?_;rw[ba ai.u ae.i Ψ (s1.W (R.F A)) ad];intro bW bm _ _;have K:=A.F bm;rw[bM];refine⟨λB=>?_,λB=>H _ _ ⟨K,by rw[aI,<-Bool.and_assoc,B];rfl⟩⟩;rw[aK aZ.p 3 (ah.W (R.F K)) rfl];refine kx (i:=u.toNat) rfl Ω dk.u ai.i Ψ (bN aR (R.F K)) (by rw[x8,aH];rfl) λbX bn=>?_;rw[ba ai.u ae.i Ψ (S.W K) aB];refine(rB (eC bn)).X ?_;rintro _ bY _ ⟨rfl,bo⟩;exact H _ _ ⟨K.F bo,by rw[aI,<-Bool.and_assoc,B,W7]⟩
  .rintro _ ac bf ⟨A,rfl⟩;rw[p8,o7 Ω];refine b6 Ω ?_;have bp:(decide (aa=v)&&fv s f.sc tl)=md s f.sc pos v tl:=by unfold md;rw[v8,av];rfl
   rw[bp,bM];refine⟨λB=>?_,λB=>H _ _ ⟨z.F A,⟨g,by rw[au,m6 (by rw[B];decide),V2];exact hm.W A⟩,Q⟩⟩;refine GI (z.F A) (hm.W A) Q ?_ λbZ I bq br bs bw=>H _ _ ⟨br,⟨bq,?_⟩,bw⟩
   .rw[r9];have h1:=S8 (md s f.sc pos v) ((bk f.szs).take q);rw[j6]at h1;omega
   .rw[au,m5 B,n9,List.map_singleton,be];exact bs
 .rintro out C bb ⟨z,⟨g,hm⟩,Q⟩;rw[p8,<-Tn L U aJ aN]at hm;refine b6 Ω ?_;exact⟨(W.F Z).F z,hm.ls,λq a=>by have:=Q q a;have:=(W.F Z).size;omega⟩
theorem Tp{j pos:Int}(h:io w dG k co s)(e:a6 k co s)(U:cw s):
  ak x7 KH [dG,Δ j,Δ pos,Δ v] w λr I=>Ext w I/\r=(match eX s j pos v with|some (f,_,_)=>.tuple #[Δ (n8 k s f pos.toNat v),.bool rs]|none=>.tuple #[Δ 0,.bool sp]):=by
 refine ay func240 ?_;refine bj λg1 J aB A W=>?_;have K:=h.box A W;refine K.load λu y=>?_;refine(To y e U).X ?_;rintro _ V _ ⟨B,e2,rfl⟩;rw[bn,bo,bA];cases X:eX s j pos v with
 |none=>
  rw[S3,X1,bZ];exact⟨A.F B,rfl⟩
 |some q=>
 obtain⟨f,u',x⟩:=q;rw[S2,Y2,aW];obtain⟨Y,Z,z,aD,C,aa⟩:=o0 X;obtain⟨aE,ab,aF,ac⟩:=l8 aa;obtain⟨j,rfl⟩:=U8 Y;obtain⟨pos,rfl⟩:=U8 Z;rw[u7]at z C;have L:=x5 z;have ad:=(x4.1 C).1;have M:∀u,f.sc[pos]?=σ u->v∈dn s u:=λu y=>by
  rw[C]at y;cases y;unfold dn;rw[ab];exact ac
 have N:=K.W B;obtain⟨d9,aG,aH,aI,aJ,aM,O,aN,_,aP,aQ,aR,af,aU⟩:=id N;rw[aK aZ.p 0 O rfl];refine N.load λaV ag=>?_;refine(G2 ag e z ad M).X ?_;rintro aO ah _ ⟨P,E,_⟩;rw[aS ai.u E];have Q:(ne s f pos v).length=(cQ s f.sc pos v).length:=by unfold ne;rw[r9]
 rw[Q];refine bT.range (cQ s f.sc pos v).length (λi aj G=>Ext ah G/\aj=Δ ((((cQ s f.sc pos v).take i).map (bd f.szs f.cs)).foldl min k)) (by rw[<-Q];exact E.le) ⟨Ext.refl _,rfl⟩ ?_ ?_
 .rintro i _ G al hi ⟨a,rfl⟩ am;obtain⟨tl,H⟩:=aC (l:=cQ s f.sc pos v) hi;obtain⟨m,hm⟩:=vV e L M (x5 H);have an:(ne s f pos v)[i]?=σ (m:Int):=by
   unfold ne;rw[x8,H];unfold qn;rw[Z0,hm];rfl
  obtain⟨ap,aX⟩:=l5 e L;have aY:=(x4.1 (oD ap hm)).1;obtain⟨c,R⟩:=aC (l:=f.cs) (i:=m) Ω;have aq:bd f.szs f.cs tl=c:=by
   unfold bd;rw[hm];simp[v8,R]
  have S:=P.F a;refine bt Ω ?_;rw[ba ai.u ae.i Ψ (E.W a) an,aK aZ.p 6 (O.W S) rfl];refine nL (i:=j) rfl fq.u dF.i (bN af S) (by rw[x8,z];rfl) λb o cs aw ax=>?_;obtain⟨a1,a2,v3,rfl,h1,a8,az⟩:=oY ax;rw[aT dF.p rfl,aT a7.p rfl,av Ψ (aw 2 _ rfl),ba au.u ao.i Ψ (eC az) R];refine FB.X ?_;rintro _ bb _ ⟨rfl,aA⟩;rw[aL];refine am _ _ ⟨a.F aA,?_⟩;rw[u5,H,l7,n9,List.foldl_append,List.map_singleton,aq];rfl
 .rintro _ G al ⟨a,rfl⟩;rw[p8];refine b6 Ω ?_;exact⟨(A.F B).F (P.F a),rfl⟩
theorem wq{a b k:Int}(h1:0<=a/\a<=4294967296)(f:0<=b/\b<=4294967296):ak x7 KK [Δ a,Δ b,Δ k] w λr I=>r=Δ (dQ k a b)/\Ext w I:=by
 refine ay func243 ?_;refine(show ak x7 La [Δ a,Δ b,Δ k] w λr I=>(∃q,r= .tuple #[Δ (dQ k a b),q])/\Ext w I from ?_).X ?_
 .refine ay func291 ?_;unfold dQ;rw[bi,aj];refine⟨λh=>⟨⟨_,by rw[m5 h]⟩,Ext.refl _⟩,λh=>?_⟩;rw[dN,lm Ω Ω,nA,m6 h];exact⟨⟨_,rfl⟩,Ext.refl _⟩
 .rintro _ J _ ⟨⟨q,rfl⟩,e⟩;rw[bn,bo];exact⟨rfl,e⟩
end
def dz(w:x3)(ac ad am:Nat)(A R:ah)(A9:Nat->ah)(aE:ah)(n:aG)(s:al)(t:aw)(h:List aw)(u:al)(I:x3):Prop:=af (λr=>(∃q,A9 q r)\/r=am) w I/\∃cq cs,cg I ac ad am A R cq aE n s u t h cs/\∀q r,cq q r->(∃a,A9 a r)\/w.heap.size<=r
section
variable{w I J V:x3}{ac ad am:Nat}{A R:ah}{A9:Nat->ah}{aE:ah}{n:aG}{s u eT e2:al}{t:aw}{h:List aw}{cs:List x1}
theorem dz.same(p:cg w ac ad am A R A9 aE n s u t h cs)(a:Ext w I):dz w ac ad am A R A9 aE n s t h u I:=⟨a.aa _,A9,cs,p.W a,by grind⟩
theorem dz.comp{cq:Nat->ah}(a:af (λr=>(∃q,A9 q r)\/r=am) w J)(x:∀q r,cq q r->(∃e,A9 e r)\/w.heap.size<=r)(d:dz J ac ad am A R cq aE n s t h e2 V):dz w ac ad am A R A9 aE n s t h e2 V:=by
 obtain⟨f,j,ci,p,y⟩:=d;have z:=a.size;refine⟨?_,j,ci,p,by grind⟩;refine((a.X (by grind)).F (f.X λr _ h=>?_):af (λr=>((∃q,A9 q r)\/r=am)\/w.heap.size<=r) w V).X (by grind)
 grind
def kW(w:x3)(ac ad am:Nat)(A R:ah)(A9:Nat->ah)(aE:ah)(n:aG)(s:al)(t:aw)(h:List aw)(u:al)(I:x3):Prop:=af (A9 2) w I/\∃cq cs,cg I ac ad am A R cq aE n s u t h cs/\(∀q r,cq q r->(∃a,A9 a r)\/w.heap.size<=r)/\∀r,cq 2 r->A9 2 r\/w.heap.size<=r
theorem kW.G3(d:kW w ac ad am A R A9 aE n s t h u I):dz w ac ad am A R A9 aE n s t h u I:=by
 obtain⟨h1,cq,cs,a,e,_⟩:=d;exact⟨h1.X (by grind),cq,cs,a,e⟩
theorem kW.same(p:cg w ac ad am A R A9 aE n s u t h cs)(a:Ext w I):kW w ac ad am A R A9 aE n s t h u I:=⟨a.aa _,A9,cs,p.W a,by grind,by grind⟩
theorem kW.comp{cq:Nat->ah}(a:af (A9 2) w J)(x:∀q r,cq q r->(∃e,A9 e r)\/w.heap.size<=r)(y:∀r,cq 2 r->A9 2 r\/w.heap.size<=r)(d:kW J ac ad am A R cq aE n s t h e2 V):kW w ac ad am A R A9 aE n s t h e2 V:=by
 obtain⟨f,j,ci,p,B,C⟩:=d;have z:=a.size;refine⟨?_,j,ci,p,by grind,by grind⟩;exact((a.X (by grind)).F (f.X (by grind)):af (λr=>A9 2 r\/w.heap.size<=r) w V).X (by grind)
theorem cg.Tq{T:ah}{v:x1}{u':al}(p:cg w ac ad am A R A9 aE n s u t h cs)(F:∀q r,A9 q r->r<w.heap.size)(G:cs[5]?=σ v)(e:af T w I)(y:∀r,r<w.heap.size->T r->A9 2 r)(z:bH (λr=>A9 2 r\/w.heap.size<=r) aE I [v] (u'.d6.map (·.un)))(H:u'.zero=u.zero)(J:u'.d6.map aM=u.d6.map aM)(K:(u'.d6.map λx=>decide (x.gone≠0))=u.d6.map λx=>decide (x.gone≠0))(L:u'.d7=u.d7)(M:u'.elims=u.elims):
  ∃cq,cg I ac ad am A R cq aE n s u' t h cs/\(∀q r,cq q r->(∃C,A9 C r)\/w.heap.size<=r)/\∀r,cq 2 r->A9 2 r\/w.heap.size<=r:=by
 have N:=cf.kP p.doc (zs e) (by grind) z (λj r E a=>?_) (λr a=>?_)
 .have f:=zt (w:=w) (B:=λr=>A9 2 r\/w.heap.size<=r) λr h=>h;refine⟨_,p.row e y ?_ f,f,λr a=>a⟩
  grind [cf.pK]
 .rcases a with a|a
  .exact p.ib.1 2 j r (Ne.symm E) a
  grind
 .rcases a with a|a
  .exact p.ib.2 2 r a
  .exact λh=>by have:=(p.read r h).2.1;omega
theorem zT(p:cg w ac ad am A R A9 aE n s u t h cs){i:Nat}{x:br}(f:u.d6[i]?=σ x):∃g cap y,cs[5]?=σ (.slice (σ ⟨g,0,ν⟩) u.d6.length cap)/\w.cell? ⟨g,i,ν⟩=σ y/\aF .i64 w y x.un/\
  ∀{I:x3}{v:Nat}{c:Int}{K:Unit->x3->Prop},Ext w I->v<x.un.length->(∀F,kW w ac ad am A R A9 aE n s t h (dD u i x (x.un.set v c)) F->K () F)->
   ab x7 (j0 au y (Δ (v:Int))) I λa=>aD x7 (o6 ao a (Δ c)) I K:=by
 have G:=p.olds;obtain⟨d9,ag,ah,ai,aj,ak,N,_,_,_,H,_,_,O⟩:=id G.doc;obtain⟨g,cap,c,al,e,P,J,an,_⟩:=vS H (by rw[x8,f];rfl) (by grind);obtain⟨y,rfl⟩:=X3.1 (aq.len J);have Q:w.cell? ⟨g,i,ν⟩=σ y:=by
  have:=P 0 y rfl;simpa[show aq.n (Λ)=1 from rfl]using this
 rw[r9]at e;refine⟨g,cap,y,by grind,Q,eC (jY J),λ{I v c K}j S U=>?_⟩;have V:=G.W j;have z:=j.size;obtain⟨ap,av,aw,ax,L,W,M,X,Y⟩:=vS (bN H j) (by rw[x8,f];rfl) (by grind);obtain⟨B,rfl⟩:=X3.1 (aq.len M);rw[r9,e]at L;cases L;have Z:B=y:=by
  have h1:=W 0 B rfl;have h1:I.cell? ⟨g,i,ν⟩=σ B:=by simpa[show aq.n (Λ)=1 from rfl]using h1
  grind [jV]
 subst Z;refine F7 rfl rfl au.u ao.i M S rfl rfl (λr _ C=>⟨λh=>h,(O rfl).2 2 r (X r C)⟩) λay E ae=>?_;have az:=Y E (λr _ h=>h) ae (by grind);obtain⟨cq,af,aA,aB⟩:=V.Tq (u':=dD u i x (x.un.set v c)) Ω (by rw[N];rfl) E (by grind) (by show bH _ _ _ _ ((u.d6.set i {x with un:=x.un.set v c}).map (·.un));grind [V5]) rfl (rH f (by unfold aM;simp)) (rH f rfl) rfl rfl;refine U _ ⟨(j.aa _).F (E.X (by grind)),cq,cs,af,λq r C=>?_,λr C=>?_⟩
 all_goals grind
theorem Tr(p:cg w ac ad am A R A9 aE n s u t h cs){f:bF}(H:u.d7[j]?=σ f):∃g cap B F y,cs[6]?=σ (.slice (σ ⟨g,0,ν⟩) u.d7.length cap)/\w.rangeAt g (j*4) [B,F,y,.bool (decide (f.live≠0))]/\aF .i64 w B f.sc/\aF .i64 w y f.cs/\
  ∀{I:x3}{m:Nat}{c:Int}{K:Unit->x3->Prop},Ext w I->m<f.cs.length->(∀J,dz w ac ad am A R A9 aE n s t h (dw u j f (f.cs.set m c)) J->K () J)->
   ab x7 (j0 au y (Δ (m:Int))) I λa=>aD x7 (o6 ao a (Δ c)) I K:=by
 have L:=p.olds;obtain⟨d9,av,aw,ax,ay,az,Q,_,_,_,_,M,_,S⟩:=id L.doc;obtain⟨g,cap,c,aA,e,C,U,aB,_⟩:=vS M (by rw[x8,H];rfl) (by grind);have V:=oY U;obtain⟨B,F,y,rfl,W,aC,X⟩:=V;rw[r9]at e;have C:=C;refine⟨g,cap,B,F,y,by grind,C,eC W,eC X,λ{I m c K}x hm Y=>?_⟩;have Z:=L.W x;have z:=x.size;obtain⟨aG,aH,aI,aJ,N,G,ae,af,ag⟩:=vS (bN M x) (by rw[x8,H];rfl) (by grind);rw[r9,e]at N;cases N;obtain⟨aK,aL,O,aM,rfl,ah,ai,aj⟩:=RO ae (by grind);have G:=G;have ak:O=y:=by
  have h1:=G 2 O rfl;rw[(px x C) 2 y rfl]at h1
  grind
 subst ak;refine F7 rfl rfl au.u ao.i ah hm rfl rfl (λr _ P=>⟨λh=>h,(S rfl).2 3 r (af r (ai r P))⟩) λaN E al=>?_;have an:=aj E (aq.X al (λr _ h=>h.elim id False.elim) λ_ _ h=>h);have aO:=ag E (by grind) an (by grind);obtain⟨cq,ap,aP⟩:=Z.RM (u':=dw u j f (f.cs.set m c)) Ω (by rw[Q];rfl) E (by grind) (by show bH _ _ _ _ ((u.d7.set j {f with cs:=f.cs.set m c}).map kR);grind [V5]) rfl rfl rfl;refine Y _ ⟨(x.aa _).F (E.X (by grind)),cq,cs,ap,λq r P=>?_⟩
 grind
theorem Ts(p:cg w ac ad am A R A9 aE n s u t h cs){K:Unit->x3->Prop}(f:∀e,dz w ac ad am A R A9 aE n s t h {u with zero:=c} e->K () e):aD x7 (o6 ao (.pointer (σ ⟨am,0+2,ν⟩)) (Δ c)) w K:=by
 refine bw (o:=0+2) ao.i rfl rfl p.box (by rw[p.doc.len.1];omega) λV a x j=>?_;refine f _ ⟨a.X Ω,A9,_,p.Gc a Ω j ?_ (by grind),by grind⟩;exact(cf.aa p.doc a λr _ h he=>h.elim (λ⟨q,h⟩=>(p.apart q r h).2.2 he) λh=>(p.read r h).2.2 he).Rz
theorem Tt(p:cg w ac ad am A R A9 aE n s u t h cs){i:Nat}{x:br}(f:u.d6[i]?=σ x):∃g cap y,cs[3]?=σ (.slice (σ ⟨g,0,ν⟩) u.d6.length cap)/\w.cell? ⟨g,i,ν⟩=σ y/\aF .i64 w y (aM x)/\(∀r,li y r->A9 0 r)/\
  ∀{I:x3}{m:Int}{z:x1}{gz:Nat}{K:Unit->x3->Prop},Ext w I->an .i64 ae I gz z (aM {x with mask:=m})->(∀r,li z r->w.heap.size<=r)->(∀G,dz w ac ad am A R A9 aE n s t h {u with d6:=u.d6.set i {x with mask:=m}} G->K () G)->
   ab x7 (j0 dk (.slice (σ ⟨g,0,ν⟩) u.d6.length cap) (Δ (i:Int))) I λa=>aD x7 (o6 ai a z) I K:=by
 have H:=p.olds;have U:=(x4.1 f).1;obtain⟨d9,V,au,av,aw,ax,W,_,X,_,_,_,_,ay⟩:=id H.doc;obtain⟨g,cap,full,Y,c,az,e,j,aA,B,J,C,aB,aC,Z⟩:=Gd X (by rw[x8,f];rfl) (by grind);obtain⟨y,rfl⟩:=X3.1 (aq.len C);rw[r9]at e;have ah:full[i]?=σ y:=by have:=J 0 y rfl;simpa[show aq.n (Λ)=1 from rfl]using this
 refine⟨g,cap,y,by grind,by have:=j.cell ah;exact this,eC (jY C),λr L=>?_,λ{I m M gz K}E N aG aj=>?_⟩
 .obtain⟨aH,aI,aJ,ak⟩:=Cd C;rcases ak with rfl|aK
  .obtain⟨_,_,_,e,_⟩:=L;cases e
  grind [bD]
 have z:=E.size;have B:i*1+1<=full.length:=B;rw[fs dk.u ai.i U λ_=>rfl];obtain⟨_,_,_,O⟩:=cE N.ls;refine bw (o:=0+i*1) ai.i (by rw[O];rfl) (by rw[O];rfl) (j.W E) Ω λP Q aL S=>?_;have S:ag P g Y (over full (i*1) [M]):=by
  have e:=Gh (o:=i*1) (q:=0) (x:=M) J B Ξ
  grind
 have aN:g<w.heap.size:=j.lt;have F:af (λr=>r=g) w P:=(E.aa _).F Q;have al:=bl N Q (by grind);have aO:=Z F Ω S (oX al) (by grind);have ao:∀r,r<w.heap.size->r=g->A9 0 r/\r<w.heap.size:=by grind
 obtain⟨cq,ap,aP⟩:=H.qi (u':={u with d6:=u.d6.set i {x with mask:=m}}) Ω (v:=V) (by rw[W];rfl) F ao (by grind [V5]) rfl (rH f rfl) (rH f rfl) rfl rfl;refine aj _ ⟨F.X (by grind),cq,cs,ap,λq r L=>?_⟩
 grind
end
end Go.Proofs.YtkcigodpbndobaaGreatDoor
