/- own texts, made small by a tool (wip/ holds them as they were written): no statement of the seat. -/
import Derived.Test.YtikkpokkcdocoaaGreatDoorYb
set_option linter.unusedVariables false
set_option linter.unusedSimpArgs false
set_option linter.unnecessarySimpa false
open Array renaming getElem?_eq_some_iff→j6
open Bool renaming not_true→Y9,not_false→X9,eq_iff_iff→V7,or_eq_false_iff→U3
open Decidable renaming not_not→X2
open Go renaming Value→x3,World→x4,TypeId→r9,IntKind→o9,Builtin→Z4,Program→W9,FuncId→R6
open Go.Addr renaming add_mid→T4
open Go.Builtin renaming append_→Z3,len_→W7
open Go.Instr renaming loadAt→u5,fieldAt→u6,storeAt→o8,indexAt→j5,extract→Y2,buildSlice→Y8,sliceAt→V8
open Go.IntKind renaming i64→X7
open Go.Proofs.Tryz renaming prog→x8
open Go.Value renaming int→V5
open Int renaming toNat_natCast→u9,le_refl→Q1
open List renaming getElem?_eq_some_iff→x5,mem_of_getElem?→x6,getElem?_eq_getElem→x7,getElem?_map→v8,getD_eq_getElem?_getD→u4,length_map→u7,take_add_one→r8,replicate→o4,take_length→o6,length_append→o7,length_take→n9,mem_append→l9,mem_map→j0,mem_singleton→j4,take_of_length_le→j9,getElem?_set_self→c9,eq_nil_of_length_eq_zero→b9,map_append→Z2,length_cons→Z5,length_set→Z9,getElem?_take_of_lt→Y0,getElem?_append_left→Y1,getElem?_append_right→Y3,getElem?_eq_none→Y4,getElem?_set_ne→Y5,ext_getElem?→Y7,getElem?_set→X1,mem_iff_getElem?→X6,drop_eq_getElem_cons→X8,range→W3,mem_or_eq_of_mem_set→W5,length_eq_one_iff→V0,mem_cons→V1,pairwise_iff_getElem→V6,map_set→U5,append_nil→U9,map_cons→T1,append_assoc→T3,foldl_cons→T7,set_append_right→T8,mem_of_mem_take→T9,getElem?_drop→S2,length_singleton→S3,map_map→R2,foldl_append→R5,length→Q0,getElem_mem→Q3
open Nat renaming le_refl→o5,le_trans→X0,zero_add→X3,zero_le→X5,mul_one→U2,sub_self→U4,lt_of_lt_of_le→T5,add_assoc→R3,eq_zero_or_pos→Q2
open Option renaming toList_some→l7,some→b8,isNone_some→Z6,map_some→Z7,map_eq_some_iff→Y6,getD_some→V2,map→V9
open Option.some renaming inj→Z0,injEq→X4
open Prod.mk renaming injEq→S1
set_option maxHeartbeats 16000000
open Option renaming some→σ,none→ν
variable{w w':x4}{B N gs j n r:Nat}{k y:Int}{clean:Bool}{S:Nat->Prop}{a8 bv sv szv v:x3}{e:r9}{a ah all l scope sizes t:Λ}{cs:List x3}{K:x3->x4->Prop}
namespace Go.Proofs.YtikkpokkcdocoaaGreatDoor
open Go Go.Vc Go.RowKit Go.Proofs Go.Proofs.Tryz
set_option maxRecDepth 100000
abbrev pm(n:Nat):af:=λr=>r<n
def qz(n:Int)(k:Nat)(s:Option aE):Option (Λ×aE):=s.bind (e8 n k)
theorem LK{g k:Nat}{A B:af}{s:Option aE}{m:Int}(h:dq w g gs A B clean s)(hk:k<=4611686018427387904)(hm:0<=m/\m<=1000000):
  ai x8 zf [Γ g,Δ (k:Int),Δ m] w λv w'=>fX w g gs A B clean ((qz m k s).map (·.2)) w'/\
   ∃gr l,aq .i64 ao w' gr v l/\(∀r,leads v r->w.heap.size<=r)/\l.length<=100001/\∀q,qz m k s=σ q->l=q.1:=by
 cases s with
 |some s=>exact Ky (s:=s) h hk hm
 |none=>
  have h:eF w g gs A B:=h;refine ay func165 ?_;refine⟨λout j J=>w=J/\out= .slice ν 0 0/\j=Δ 0,λ_ _ _=>0,⟨rfl,rfl,rfl⟩,?_⟩;rintro _ _ _ ⟨rfl,rfl,rfl⟩;refine aW (λv U=>Ext w U/\v= .bool false) ?_ ?_
  .rintro _ U ⟨e,rfl⟩;rw[aY];exact⟨fX.mk (e.aa _) (h.ext e),0,[],aq.nil _ _ _ _,λr p=>absurd p (λh=>by obtain⟨a,n,c,h,_⟩:=h;cases h),Ξ,λq x=>by cases x⟩
  .intro aw f;rw[aR,aj];refine⟨λ_=>?_,λ_=>f _ _ ⟨Ext.refl _,rfl⟩⟩;refine(nN h).mono ?_;rintro _ U _ ⟨rfl,e⟩;exact f _ _ ⟨e,rfl⟩
def sK(z:Λ)(l:List (Λ×Int))(s:aE):aE:={s with shared:=s.shared++[(z,l)]}
def B1(w:x4)(g gs:Nat):Prop:=∃(e big a f told:Int)(sv:x3),ad w g ci (fJ gs e big a f told sv)/\e≠0
def gY(w:x4)(g gs:Nat)(A:af)(B:af)(clean:Bool)(s:Option aE):Prop:=match s with
 |some s=>dk w g gs A B s clean
 |none=>B1 w g gs
theorem dq.q{g:Nat}{A:af}{B:af}{s:Option aE}(h:dq w g gs A B clean s):gY w g gs A B clean s:=by
 cases s with
 |some s=>exact h
 |none=>
  obtain⟨_,e,big,a,f,told,sv,l,j,p,_⟩:=h;exact⟨e,big,a,f,told,sv,j,p.1⟩
theorem gY.aa{g:Nat}{A:af}{B:af}{s:Option aE}(h:gY w g gs A B clean s)(a:ae S w w')(j:¬S g)(p:∀r,bG g gs A r->r<w.heap.size->¬S r)(q:∀r,cF g gs A B r->¬S r):gY w' g gs A B clean s:=by
 cases s with
 |some s=>
  have h:dk w g gs A B s clean:=h;exact dk.aa h a (λr f=>p r f (h.1.2.2.2.1 r f)) q
 |none=>
  obtain⟨e,big,x,y,told,sv,z,C⟩:=h;exact⟨e,big,x,y,told,sv,z.aa a j,C⟩
theorem gY.ext{g:Nat}{A:af}{B:af}{s:Option aE}(h:gY w g gs A B clean s)(a:Ext w w'):gY w' g gs A B clean s:=h.aa (a.aa λ_=>False) (λh=>h) (λ_ _ _ h=>h) (λ_ _ h=>h)
theorem B2{g:Nat}{A:af}{B:af}{s:Option aE}(h:gY w g gs A B clean s):ai x8 kP [Γ g] w λv w'=>v= .bool s.isSome/\Ext w w':=by
 cases s with
 |none=>
  obtain⟨e,big,p,q,told,sv,a,f⟩:=h;refine(vz a).mono ?_;rintro _ J _ ⟨rfl,j⟩;exact⟨by rw[decide_eq_false f];rfl,j⟩
 |some s=>exact pc h
theorem hy.aU{g:Nat}{R R':Nat->Prop}{toks:List (Λ)}(h:hy w g R toks clean)(f:ae S w w')(q:¬S g)(s:∀r,R r->¬S r)(x:∀r,R r->R' r):hy w' g R' toks clean:=by
 obtain⟨y,p,a,⟨h1,z,A,B,bp,C⟩,j,E⟩:=h;exact⟨y,p,a,⟨h1,z,A,B.aa f q,bp,br C f λr e=>s r (j r e)⟩,λr e=>x r (j r e),E⟩
theorem l4{α:Type}[ak α]{m:Bool}{S R:af}{l:List α}(h:ak.rep m S R w [v] l):∃a n c,v= .slice a n c:=by
 obtain⟨vs,e,F,f,he,I,hm⟩:=ie h;obtain⟨j,b,o,base,cap,rfl,_⟩:=I;exact⟨_,_,_,rfl⟩
def la(w:x4)(g gs:Nat)(A:af)(B:af)(R:af)(clean:Bool)(s:Option aE):Prop:=match s with
 |some s=>k5 w g gs A B/\hy w gs R s.toks clean/\(0<=s.told/\s.told<=av/\s.shared.length+s.toks.length<=100000)/\
  ∃big a e told sv,ad w g ci (fJ gs 0 big a e told sv)/\((s.big=true↔big≠0)/\(s.big=false->told=s.told))/\bl A R w [sv] (show List iL from s.shared)
 |none=>B1 w g gs
theorem la.aa{g:Nat}{A R:af}{B:af}{s:Option aE}(h:la w g gs A B R clean s)(a:ae S w w')(x:¬S g)(y:∀r,bG g gs A r->r<w.heap.size->¬S r)(z:∀r,R r->¬S r):la w' g gs A B R clean s:=by
 cases s with
 |some s=>
  obtain⟨h1,C,E,big,f,j,told,sv,p,q,F⟩:=h;have G:=h1.2.2.2.1;exact⟨h1.aa a,C.aa a (y gs (.inr (.inl rfl)) (G _ (.inr (.inl rfl)))) z,E,big,f,j,told,sv,p.aa a x,q,ak.aa F a λr H h=>h.elim (λh=>y r (.inr (.inr h)) H) (z r)⟩
 |none=>
  obtain⟨e,big,f,j,told,sv,p,q⟩:=h;exact⟨e,big,f,j,told,sv,p.aa a x,q⟩
theorem la.out{g:Nat}{A R B e:af}{s:Option aE}(h:la w g gs A B R clean s)(f:∀r,R r->cF g gs A e r)(j:∀r,e r->r<w.heap.size):gY w g gs A e clean s:=by
 cases s with
 |some s=>
  obtain⟨⟨q,x,y,z,O⟩,⟨C,p,a,E,F,G⟩,H,big,I,J,told,sv,K,L,M⟩:=h;exact⟨⟨q,x,y,z,j⟩,⟨C,p,a,E,λr N=>f r (F r N),G⟩,H,big,I,J,told,sv,K,L,ak.mono M (λ_ _ h=>h) λr _ h=>f r h⟩
 |none=>exact h
theorem dq.qr{g:Nat}{A R:af}{B:af}{s:Option aE}(h:dq w g gs A B clean s)(y:∀r,cF g gs A B r->R r):la w g gs A B R clean s:=by
 cases s with
 |some s=>
  obtain⟨h1,⟨z,p,a,C,E,F⟩,G,big,f,j,told,sv,q,x,H⟩:=h;exact⟨h1,⟨z,p,a,C,λr I=>y r (E r I),F⟩,G,big,f,j,told,sv,q,x,ak.mono H (λ_ _ h=>h) λr _ h=>y r h⟩
 |none=>
  obtain⟨_,e,big,f,j,told,sv,l,q,x,_⟩:=h;exact⟨e,big,f,j,told,sv,q,x.1⟩
theorem LL{g O:Nat}{A B R:af}{s:Option aE}{aL ay u:x3}{z:Λ}{l:List (Λ×Int)}{K:x4->Prop}(h:dq w g gs A B clean s)(P:∀r,cF g gs A B r->R r)(ah:∀r,R r->cF g gs A (pm w.heap.size) r)(ai:∀t,s=σ t->t.shared.length+1+t.toks.length<=100000)(aj:ad w O b6 [aL,u,ay,v])(hu:ak.rep (α:=Λ) false bx R w [u] z)(al:ak.rep (α:=List (Λ×Int)) false bx R w [v] l)(az:∀w' aI,ae (bG g gs A) w w'->(∀r,aI r->A r\/w.heap.size<=r)->la w' g gs aI (pm w.heap.size) R clean (s.map (sK z l))->K w'):
  V x8 (bP (Γ g)) w λQ=>
  V x8 (u6 ci Q 3) w λS=>
  V x8 (u5 hr S) w λam=>
  V x8 (u6 b6 (Γ O) 1) w λt76=>
  V x8 (u5 au t76) w λt77=>
  V x8 (u6 b6 (Γ O) 3) w λaA=>
  V x8 (u5 iD aA) w λaB=>
  V x8 (Instr.build jB #[(0,t77),(1,aB)]) w λaD=>
  aC x8 (Y8 hr 1 #[(0,aD)]) w λaF F=>
   (Ext w F\/bZ x8 (u5 hr S) am F/\bZ x8 (u6 ci Q 3) S F/\bZ x8 (bP (Γ g)) Q F/\True)/\
   aC x8 (Z3 #[hr,hr] hr #[am,aF]) F λaH W=>
    V x8 (bP (Γ g)) W λaJ=>
    V x8 (u6 ci aJ 3) W λaK=>
    aC x8 (o8 hr aK aH) W λ(_:Unit)aM=>K aM:=by
 obtain⟨aN,e,big,j,q,told,sv,H,y,L,a1,aO⟩:k5 w g gs A B/\∃e big j q told sv,∃H:List iL,ad w g ci (fJ gs e big j q told sv)/\bl A R w [sv] H/\H.length<=100000/\
   ∀w' aI C,k5 w' g gs aI (pm w.heap.size)->ae (λr=>A r\/r=g) w w'->ad w' g ci (fJ gs e big j q told C)->bl aI R w' [C] (H++[((z,l):iL)])->la w' g gs aI (pm w.heap.size) R clean (s.map (sK z l)):=by
  cases s with
  |none=>
   obtain⟨h1,e,big,j,q,told,sv,l',X,M,Y⟩:=h;exact⟨h1,e,big,j,q,told,sv,l',X,ak.mono Y (λ_ _ h=>h) λr _ h=>P r h,M.2,λw' aI C I _ y L=>⟨e,big,j,q,told,C,y,M.1⟩⟩
  |some s=>
   obtain⟨h1,aP,an,big,j,q,told,sv,X,M,Y⟩:=h;have ai:=ai s rfl;refine⟨h1,0,big,j,q,told,sv,s.shared,X,ak.mono Y (λ_ _ h=>h) λr _ h=>P r h,(show s.shared.length<=100000 by omega),λw' aI C I aR y L=>⟨I,?_,⟨an.1,an.2.1,?_⟩,big,j,q,told,C,y,M,L⟩⟩
   .exact hy.aU aP aR (λhe=>he.elim h1.2.2.1 λh=>h1.1 h.symm) (λr f he=>he.elim (λh=>f.1 (.inr (.inr h))) λh=>f.1 (.inl h)) P
   .show (s.shared++[(z,l)]).length+s.toks.length<=100000;simp;omega
 obtain⟨aT,Z,aV,ao,a2⟩:=id aN;rw[aQ ci.p 3 y rfl,aG b6.p 1 aj rfl,aG b6.p 3 aj rfl];rw[dn (cs:=#[u,v]) (by obtain⟨_,_,_,rfl⟩:=l4 hu;obtain⟨_,_,_,rfl⟩:=l4 al;kernel_rfl)];have aq:bl (λ_=>False) R w [u,v] ((z,l):iL):=⟨[u],[v],bx,bx,rfl,λ_ h=>h,λ_ h=>h,λ_ _ h _=>h,hu,al⟩;refine ig (α:=iL) (a:=(z,l)) (cs:=[u,v]) (A:=λ_=>False) (R:=R) hr.u jB.i Φ rfl aq λx J E _ aW=>?_;have a6:=E.size;refine⟨.inl E,?_⟩;refine my (α:=iL) (a:=(z,l)) (A:=λ_=>False) (R:=R) hr.u jB.i rfl (bi L E) aW (bi aq E) (λr _ aX G=>?_) Ω Ω λav U ab ac=>?_
 .rcases G with G|G
  .exact G
  .exact (ah r G).1 (.inr (.inr aX))
 have a7:=ac.size;have aY:=(y.ext E).aa ac Z;rw[bX,aS ci.p rfl];refine bq (g:=g) (o:=6) hr.i (kj ab) (hT ab) aY (by simp[fJ]) λN aw a8 ag=>?_;have ag:ad N g ci (fJ gs e big j q told av):=ag;have ax:ae (λr=>A r\/r=g) w N:=((E.aa _).trans (ac.mono λr _ h=>.inl h)).trans (aw.mono λr _ h=>.inr h);let aI:af:=λr=>(A r\/w.heap.size<=r)/\r<U.heap.size;have ba:g<w.heap.size:=ao g (.inl rfl);have bb:gs<w.heap.size:=ao gs (.inr (.inl rfl));have aZ:=ak.mono (S':=aI) (R':=R) ab (λr f h=>⟨h.elim .inl λh=>h.elim False.elim λh=>.inr Ω,f⟩) (λr f h=>h);refine az N aI (ax.mono λr _ h=>h.elim (λh=>.inr (.inr h)) .inl) (λr f=>f.1) (aO N aI av ⟨aT,λh=>h.1.elim Z λh=>Ω,λh=>h.1.elim aV λh=>Ω,λr f=>?_,?_⟩ ax ag (ak.aa aZ aw λr f ap he=>?_))
 .rcases f with rfl|rfl|f
  .omega
  .omega
  .have:=f.2;omega
 .intro r f;have f:r<w.heap.size:=f;omega
 .have he:r=g:=he;subst he;rcases ap with ap|ap
  .exact ap.1.elim Z λh=>Ω
  .exact (ah _ ap).1 (.inl rfl)
theorem LM{e:Nat}{aL z:x3}{M:x4->Prop}(N:ad w e b6 [aL,.slice ν 0 0,Δ 0,.slice ν 0 0])(O:aH .i64 w aL scope)(ab:∀r,leads aL r->r≠e)(ac:aH .i64 w z all)(af:∀r,leads z r->r≠e)(ah:∀v∈scope,0<=v/\v<all.length)(aK:scope.length<=100001)(ai:∀w' szv gz,ae (λr=>r=e) w w'->ad w' e b6 [aL,szv,Δ 0,.slice ν 0 0]->aq .i64 ao w' gz szv (scope.map λv=>all.getD v.toNat 0)->w.heap.size<=gz->M w'):
 b1 (Δ 0) w λF s k=>
  V x8 (aJ .lss ag false false F (Δ (scope.length:Int))) s λak=>
  Split ak (V x8 (j5 au aL F) s λal=>
  V x8 (u5 ao al) s λam=>
  eg s λf=>
  V x8 (u6 b6 (Γ e) 1) f λt39=>
  V x8 (u5 au t39) f λP=>
  V x8 (j5 au z am) f λan=>
  V x8 (u5 ao an) f λap=>
  aC x8 (Y8 au 1 #[(0,ap)]) f λt45 A=>
   (Ext f A\/bZ x8 (u5 au t39) P A/\bZ x8 (u6 b6 (Γ e) 1) t39 A/\True)/\
  aC x8 (Z3 #[au,au] au #[P,t45]) A λt46 Q=>
   V x8 (u6 b6 (Γ e) 1) Q λav=>
   aC x8 (o8 au av t46) Q λ(_:Unit)R=>
    V x8 (aJ .add ag false true F (Δ 1)) R λaw=>
  k aw R) (M s):=by
 have aN:=N.lt;refine b1.range scope.length (λi J=>ae (λr=>r=e) w J/\∃szv gz,ad J e b6 [aL,szv,Δ 0,.slice ν 0 0]/\aq .i64 ao J gz szv ((scope.take i).map λv=>all.getD v.toNat 0)/\w.heap.size<=gz) O.le ⟨ae.refl _ _,_,w.heap.size,N,aq.nil _ _ _ _,o5 _⟩ ?_ ?_
 rotate_left
 .rintro J ax ⟨j,szv,gz,B,C,S⟩;rw[o6]at C;rw[aR,aj];exact⟨λh=>Ω,λ_=>ai J szv gz j B C S⟩
 rintro i J ax hi ⟨j,szv,gz,B,C,S⟩ ay;obtain⟨v,G⟩:=aD (l:=scope) hi;have aO:=ah v (x6 G);have az:all[v.toNat]?=σ (all.getD v.toNat 0):=by
  rw[u4,x7 Ω];rfl
 have aA:aH .i64 J aL scope:=hX O j λr E a n c H I=>ab r ⟨a,n,c,H,I⟩ E;have aB:aH .i64 J z all:=hX ac j λr E a n c H I=>af r ⟨a,n,c,H,I⟩ E;refine bD Ω ?_;rw[bc au.u ao.i Ψ aA G];intro U q _ _;have aP:=j.size;have aQ:=q.size;rw[aG b6.p 1 (B.ext q) rfl];rw[fF (y:=v) (i:=v.toNat) Ω au.u ao.i Ψ (aB.ext q) az];refine eM au.u ao.i rfl λa ga aT aU x aE=>?_;refine⟨.inl x,?_⟩;have z3:=x.size;refine jg au.u ao.i rfl ((C.ext q).ext x) aE.ls Θ Θ λW X aV aW K Y=>?_;rw[aS b6.p rfl];have aF:=((B.ext q).ext x).aa Y (λhe=>by have he:e=gz:=he;omega);refine bq (g:=e) (o:=1) au.i K.ls.cells.1 K.ls.cells.2 aF Ξ λaI Z aX L=>?_;have L:ad aI e b6 [aL,W,Δ 0,.slice ν 0 0]:=L;rw[aM];refine ay _ ⟨(hx (j.trans ((q.trans x).aa _)) Y λr E he=>by have he:r=gz:=he;omega).trans Z,W,X,L,?_,Ω⟩;rw[r8,G,l7,Z2];exact K.aa Z (λ_ he=>by have he:X=e:=he;omega)
abbrev hB:Type:=Rd (Λ)×Rd (Λ)×Int×Rd (List (Λ×Int))
def gZ(f:cw):hB:=(f.scope,f.sizes,f.other,f.lines)
theorem B3{R:af}{aL cb:x3}{o:Int}{sc:Λ}{l:List (Λ×Int)}(h1:ak.rep (α:=Λ) false bx R w [aL] sc)(e:ak.rep (α:=Λ) false bx R w [szv] a)(f:ak.rep (α:=List (Λ×Int)) false bx R w [cb] l):
  Seen R w [aL,szv,Δ o,cb] ((sc,a,o,l):hB):=
 ⟨[aL],[szv,Δ o,cb],bx,bx,rfl,λ_ h=>h,λ_ h=>h,λ_ _ h _=>h,h1,[szv],[Δ o,cb],bx,bx,rfl,λ_ h=>h,λ_ h=>h,λ_ _ h _=>h,e,[Δ o],[cb],bx,bx,rfl,λ_ h=>h,λ_ h=>h,λ_ _ h _=>h,rfl,f⟩
theorem qA{R:af}{g:Nat}(h:aq .i64 e w g v l)(q:∀r,leads v r->R r):ak.rep (α:=Λ) false bx R w [v] l:=by
 have h1:bl (λr=>r=g) bx w [v] l:=kX h;obtain⟨vs,s,F,E,he,I,hm⟩:=ie h1;refine⟨v,rfl,vs,s,λ_ _=>False,⟨λ_ _ h=>h,λh=>(by cases h),λh=>by cases h⟩,⟨he.1,λi c a x y=>?_⟩,?_,λh=>by cases h⟩
 .exact he.2 i c a x y
 .obtain⟨f,b,o,base,cap,rfl,z,A,j,G,B⟩:=I;refine⟨f,b,o,base,cap,rfl,z,A,j,λp=>.inr (q b ?_),B⟩;have C:0<l.length:=by
   rw[f]at p;rcases Q2 l.length with h|h
   .rw[h,Nat.zero_mul]at p;omega
   .exact h
  exact⟨⟨b,o,ν⟩,l.length,cap,by rw[j C],rfl⟩
theorem B4{α:Type}[ak α]{R R':af}{a:α}(h:Seen R w cs a)(e:∀r,r<w.heap.size->R r->R' r):Seen R' w cs a:=ak.mono h (λ_ _ h=>h) e
theorem B5{f a:Nat}(e:cs.length=4)(h1:∀v∈cs,v.oneCell'=true)(q:ad w f b6 cs){h:List x3}(s:h.length=4)(x:ad w a b6 h)(y:∀w',ae (λr=>r=a) w w'->K (.agg cs.toArray) w'):
  V x8 (u5 b6 (Γ f)) w λz=>
  aC x8 (o8 b6 (Γ a) z) w λ(_:Unit)j=>
  V x8 (do loadVar b6 (<-asAddr (Γ a))) j λA=>K A j:=by
 rw[bF b6.p b6.i e q.range];refine bT b6.i e s h1 x λw' B _ C=>?_;rw[e6 b6.p b6.i e C.range];exact y w' B
theorem B6{s s':aE}{l:List (Λ×Int)}(h:dW sizes s=σ (l,s')):s'.shared=s.shared/\s'.toks.length<=s.toks.length:=by
 unfold dW at h;cases e:bd (-av) av s with
 |none=>rw[e]at h;cases h
 |some q=>
  obtain⟨n,s1⟩:=q;rw[e]at h;simp only at h;have h1:=dK e;obtain⟨w,x,j⟩:=h1.eqs;split at h
  .cases I:s1.shared[(-n-1).toNat]? with
   |none=>rw[I]at h;cases h
   |some q=>
    obtain⟨z,l'⟩:=q;rw[I]at h;simp only at h;split at h
    .simp only[X4,S1]at h;obtain⟨rfl,rfl⟩:=h;exact⟨j,by have:=h1.1;omega⟩
    .cases h
  .have:=ko (f:=dV sizes) (λacc t=>t.shared=s.shared/\t.toks.length<=s.toks.length) (λacc t a bn ⟨r,y⟩ g=>by
    obtain⟨A,B,C,p⟩:=pa g;obtain⟨f1,f2,f3⟩:=p.eqs;exact⟨by rw[f3,r],by have:=p.1;omega⟩) n.toNat [] (ba (decide (16384<min (s1.told+n) av)) {s1 with told:=min (s1.told+n) av}) l s' ⟨j,by have:=h1.1;show s1.toks.length<=_;omega⟩ h
   exact this.1
theorem LN{g:Nat}{A B:af}{s:aE}{aC:x3}(h:dk w g gs A B s clean)(hi:dX s)(bN:aH .i64 w aC all)(bf:∀r,leads aC r->¬bG g gs A r/\r<w.heap.size)(cm:∀z∈all,1<=z/\z<=av)(dm:all.length<=100001)(cn:eu w)(h1:cF g gs A B 1):
  ai x8 y7 [Γ g,aC] w λv w'=>∃aI V cs,∃bO:hB,v= .agg cs.toArray/\cs.length=4/\ae (bG g gs A) w w'/\(∀r,aI r->A r\/w.heap.size<=r)/\(∀r,V r->(B r\/w.heap.size<=r)/\r<w'.heap.size)/\(∀r,B r->V r)/\gY w' g gs aI V clean ((db all s).map (·.2))/\
   Seen (cF g gs aI V) w' cs bO/\∀q,db all s=σ q->bO=gZ q.1:=by
 have cp:=h.1;obtain⟨dp,dr,bg,cq,W⟩:=id cp;have ac:∀r,bG g gs A r->r<w.heap.size:=cq;have ds:av=4611686018427387904:=rfl;have du:s.shared.length+s.toks.length<=100000:=h.2.2.1.2.2;refine ay func113 ?_;refine bw b6.i λC J dv bh aP=>?_;have aP:ad J C b6 [.slice ν 0 0,.slice ν 0 0,Δ 0,.slice ν 0 0]:=aP;have dw:=bh.size;have dx:=aP.lt;have M:¬bG g gs A C:=λy=>by have:=ac _ y;omega
 refine(vA (lo:=-av) (hi:=av) (h.ext bh)).mono ?_;rintro _ U _ ⟨X,a,at_,rfl,bP,cr⟩;obtain⟨bj,bk⟩:=X.of;have dy:=bj.size;rw[bz,bA,aR,lR];have dz: -av<=a/\a<=av:=by
  cases E:bd (-av) av s with
  |none=>rw[cr E];unfold av;omega
  |some q=>rw[bP q E];exact(hY (n:=q.1) (s':=q.2) E).1
 rw[wrap_i64 Ω Ω,uY,show max a (0-a)=((a.natAbs:Nat):Int) by omega];have bQ:ae (bG g gs A) w U:=(bh.aa _).trans bj;have ct:aH .i64 U aC all:=hX bN bQ λr f a n c H bl=>(bf r ⟨a,n,c,H,bl⟩).1 f;rw[aV au.u ct];refine(LK (k:=a.natAbs) (m:=(all.length:Int)) bk Ω Ω).mono ?_;rintro aL dA _ ⟨X,gr,scope,aD,cu,dC,cz⟩;obtain⟨bm,cA⟩:=X.of;have z3:=bm.size;rw[dn (cs:=#[aL,.slice ν 0 0,Δ 0,.slice ν 0 0]) (by obtain⟨_,_,_,_,_,rfl,_⟩:=aD.ls;kernel_rfl)];refine bw b6.i λj cB dD aF aQ=>?_;have aQ:ad cB j b6 [.slice ν 0 0,.slice ν 0 0,Δ 0,.slice ν 0 0]:=aQ;have z4:=aF.size;have dE:=aQ.lt;have bn:=aD.ls.cells;refine bT (vs:=[aL,.slice ν 0 0,Δ 0,.slice ν 0 0]) b6.i rfl rfl (by intro v H;simp at H;rcases H with rfl|rfl|rfl|rfl<;>first|exact bn.2|rfl) aQ λaT aJ dF cC=>?_;have am:¬bG g gs A j:=λy=>by have:=ac _ y;omega
 have bU:dq aT g gs A B clean ((qz all.length a.natAbs ((bd (-av) av s).map (·.2))).map (·.2)):=(cA.ext aF).aa aJ (λr f he=>by have he:r=j:=he;exact am (he▸f)) (λr f he=>by have:=W r f.2;have he:r=j:=he;omega);have bV:ae (bG g gs A) w aT:=hx ((bQ.trans bm).trans (aF.aa _)) aJ λr f he=>by have he:r=j:=he;omega
 have cD:ad aT C b6 [.slice ν 0 0,.slice ν 0 0,Δ 0,.slice ν 0 0]:=(((aP.aa bj M).aa bm M).ext aF).aa aJ (λhe=>by have he:C=j:=he;omega);have cE:aq .i64 ao aT gr aL scope:=br (aD.ext aF) aJ λr f he=>by
  obtain⟨cG,bk⟩:=bR aD f;have he:r=j:=he;omega
 refine(pk bU).mono ?_;rintro _ aU _ ⟨rfl,Y⟩;have an:=bU.ext Y;have aK:=cE.ext Y;have bo:=cC.ext Y;have bW:=cD.ext Y;have dG:=Y.size;have z5:=aJ.size;have Q:∀r,leads aL r->U.heap.size<=r/\r≠j/\r≠C:=λr f=>by
  obtain⟨cG,bk⟩:=bR aD f;have:=cu r f;exact⟨this,Ω,Ω⟩
 have L:db all s=match qz all.length a.natAbs ((bd (-av) av s).map (·.2))with
   |none=>ν
   |some (sc,I)=>(iN (sc.map λv=>all.getD v.toNat 0) ((a7 0 av (σ (ba (decide (6<a.natAbs)||dt (sc.map λv=>all.getD v.toNat 0)) I))).map (·.2))).map λq=>((⟨sc,sc.map λv=>all.getD v.toNat 0,((bd 0 av (ba (decide (6<a.natAbs)||dt (sc.map λv=>all.getD v.toNat 0)) I)).map (·.1)).getD 0,q.1⟩:cw),if a<0 then sK (sc.map λv=>all.getD v.toNat 0) q.1 q.2 else q.2):=by
  unfold db;cases E:bd (-av) av s with
  |none=>rfl
  |some q=>
   obtain⟨a',s1⟩:=q;have:=bP _ E;subst this;simp only;show _=match e8 all.length a.natAbs s1 with
    |none=>ν
    |some (sc,I)=>_
   cases e8 all.length a.natAbs s1 with
   |none=>rfl
   |some q=>
    obtain⟨sc,I⟩:=q;simp only;show _=V9 _ (iN _ ((bd 0 av _).map (·.2)));cases bd 0 av (ba (decide (6<a.natAbs)||dt (sc.map λv=>all.getD v.toNat 0)) I)with
    |none=>rfl
    |some q=>
     obtain⟨o,G⟩:=q;simp only;show _=V9 _ (dW _ G);cases dW (sc.map λv=>all.getD v.toNat 0) G with
     |none=>rfl
     |some q=>rfl
 rw[bJ,cj];cases Z:qz all.length a.natAbs ((bd (-av) av s).map (·.2))with
 |none=>
  rw[Z]at an L;simp only at L;refine⟨λ_=>?_,λh=>by simp at h⟩;refine B5 rfl (by intro v H;simp at H;rcases H with rfl|rfl|rfl|rfl<;>first|exact bn.2|rfl) bo rfl bW λab N=>?_;have cH:=N.size;refine⟨A,λr=>(B r\/w.heap.size<=r)/\r<ab.heap.size,_,(scope,[],0,[]),rfl,rfl,hx (bV.trans (Y.aa _)) N λr f he=>by have he:r=C:=he;omega,λr f=>.inl f,λr f=>f,λr f=>⟨.inl f,by have:=W r f;omega⟩,?_,?_,λq E=>by rw[L]at E;cases E⟩
  .rw[L];have cI:gY ab g gs A B clean (V9 (λx=>x.2) (ν:Option (Λ×aE))):=an.q.aa N (λhe=>by have:=ac g (.inl rfl);have he:g=C:=he;omega) (λr f _ he=>by have he:r=C:=he;exact M (he▸f)) (λr f he=>by have:=W r f.2;have he:r=C:=he;omega);exact cI
  .refine B3 (qA (br aK N λr f he=>(Q r f).2.2 he) λr f=>?_) fV fV;have O:=Q r f;have ap:=(bR aK f);exact⟨λy=>by have:=ac _ y;omega,.inr Ω,Ω⟩
 |some q=>
  obtain⟨sc,I⟩:=q;have:=cz _ Z;subst this;rw[Z]at an L;simp only at L;refine⟨λh=>by simp at h,λ_=>?_⟩;have an:dk aU g gs A B I clean:=an;obtain⟨s1,cJ,cK⟩:∃s1,(bd (-av) av s).map (·.2)=σ s1/\e8 all.length a.natAbs s1=σ (scope,I):=by
   cases E:(bd (-av) av s).map (·.2)with
   |none=>rw[E]at Z;cases Z
   |some s1=>rw[E]at Z;exact⟨s1,rfl,Z⟩
  obtain⟨bX,cL,rfl⟩:=Y6.1 cJ;have bY:=dK (n:=bX.1) (s':=bX.2) cL;obtain⟨bZ,dH,dI,b0⟩:=vx cK;have bp:=bY.eqs;have bt:=bZ.eqs;have cM:dX I:=λS=>by rw[bt.1,bp.1];rw[bt.2.1,bp.2.1]at S;exact hi S
  have cN:I.shared.length+1+I.toks.length<=100000:=by rw[bt.2.2,bp.2.2];have:=bY.1;have:=bZ.1;omega
  generalize bu:(scope.map λv=>all.getD v.toNat 0)=sizes at L;have b1:∀z∈sizes,1<=z/\z<=av:=λz aW=>by
   rw[<-bu]at aW;obtain⟨v,H,rfl⟩:=j0.1 aW;have:=b0 v H;refine cm _ ?_;rw[u4,x7 Ω];exact Q3 _
  have dJ:sizes.length=scope.length:=by rw[<-bu,u7]
  have b2:ae (bG g gs A) w aU:=bV.trans (Y.aa _);have cO:aH .i64 aU aC all:=hX bN b2 λr f a n c H bl=>(bf r ⟨a,n,c,H,bl⟩).1 f;rw[aG b6.p 0 bo rfl,aV au.u aK.ls];refine LM bo aK.ls (λr f=>(Q r f).2.1) cO (λr f=>by have:=(bf r f).2;omega) b0 Ω λab szv gz N b3 aX dL=>?_;rw[bu]at aX;have cH:=N.size;have bB:∀r,cF g gs A B r->¬(λr=>r=j) r:=λr f he=>by have:=W r f.2;have he:r=j:=he;omega
  have bC:∀r,bG g gs A r->¬(λr=>r=j) r:=λr f he=>by have he:r=j:=he;exact am (he▸f)
  have b4:=an.aa N bC bB;have cP:ae (bG g gs A) w ab:=hx b2 N λr f he=>by have he:r=j:=he;omega
  refine dl (λaY=>ae (bG g gs A) ab aY/\dk aY g gs A B (ba (decide (6<a.natAbs)||dt sizes) I) clean) ?_ ?_
  rotate_left
  .intro aw aM;rw[bS,aj];refine⟨λdM=>?_,λdN=>?_⟩
   .refine (sx b4).mono ?_;rintro _ cQ _ ⟨cR,cS⟩;refine aM _ ⟨cR.mono λr _ h=>.inl h,?_⟩;rw[decide_eq_true Ω,Bool.true_or];exact cS
   .rw[aG b6.p 1 b3 rfl];refine(Bi aX.ls λz aW=>(b1 z aW).1).mono ?_;rintro _ cQ _ ⟨rfl,b5⟩;refine(sx (b4.ext b5)).mono ?_;rintro _ dO _ ⟨cT,cU⟩;refine aM _ ⟨(b5.aa _).trans (cT.mono λr _ h=>.inl h),?_⟩;rw[decide_eq_false Ω,Bool.false_or];exact cU
  rintro aY ⟨aZ,a1⟩;have dP:=aZ.size;generalize bg:ba (decide (6<a.natAbs)||dt sizes) I=G at L a1;have cV:dX G:=λS=>by
   subst bg;have S:(I.big||_)=false:=S;exact cM (U3.1 S).1
  have dQ:G.shared.length+1+G.toks.length<=100000:=by subst bg;exact cN
  have a1:dq aY g gs A B clean (σ G):=a1;refine(l3 (lo:=0) (hi:=av) a1).mono ?_;rintro _ b7 _ ⟨X,o,dR,rfl,cW,dS⟩;obtain⟨a2,cX⟩:=X.of;have dT:=a2.size;rw[bz,bA,aS b6.p rfl];have cY:=(b3.aa aZ am).aa a2 am;refine bq (g:=j) (o:=2) ao.i rfl rfl cY Ξ λa6 ax dU a8=>?_;have a8:ad a6 j b6 [aL,szv,Δ o,.slice ν 0 0]:=a8;rw[aG b6.p 1 a8 rfl];have cZ:=cX.aa ax bC bB;have bD:ae (bG g gs A) ab b7:=aZ.trans a2;have c0:ae (bG g gs A) w b7:=cP.trans bD;have b8:ae (bG g gs A) w a6:=hx c0 ax λr f he=>by have he:r=j:=he;omega
  have ag:∀r,leads szv r->aU.heap.size<=r/\r<ab.heap.size:=λr f=>by have:=bR aX f;omega
  have b9:aq .i64 ao a6 gz szv sizes:=br (br aX bD λr f y=>by have:=ac _ y;have:=ag r f;omega) ax λr f he=>by have he:r=j:=he;have:=ag r f;omega
  have c1:aq .i64 ao a6 gr aL scope:=br (br (br aK N λr f he=>(Q r f).2.1 he) bD λr f y=>by have:=ac _ y;have:=Q r f;omega) ax λr f he=>(Q r f).2.1 he;have dV:=ax.size;refine(LJ cZ (λt bE=>?_) b9.ls (λr f=>⟨λy=>by have:=ac _ y;have:=ag r f;omega,by have:=ag r f;omega⟩) b1 Ω (cn.aa b8 h1.1) h1).mono ?_
  .obtain⟨q,E,rfl⟩:=Y6.1 bE;have ca:=(dK (n:=q.1) (s':=q.2) E).eqs;intro S;rw[ca.1];rw[ca.2.1]at S;exact cV S
  rintro cb c2 _ ⟨X,l,bF,cc⟩;obtain⟨az,c3⟩:=X.of;have dY:=az.size;have bH:cb.cells= #[cb]/\cb.oneCell'=true:=⟨kj bF,hT bF⟩;rw[aS b6.p rfl];have c4:=a8.aa az am;refine bq (g:=j) (o:=3) iD.i bH.1 bH.2 c4 Ξ λK ah dZ bb=>?_;have bb:ad K j b6 [aL,szv,Δ o,cb]:=bb;have ea:=ah.size;have cd:=c3.aa ah bC bB;have c5:ae (bG g gs A) w c2:=b8.trans az;have c6:ae (bG g gs A) w K:=hx c5 ah λr f he=>by have he:r=j:=he;omega
  have ce:aq .i64 ao K gr aL scope:=br (br c1 az λr f y=>by have:=ac _ y;have:=Q r f;omega) ah λr f he=>(Q r f).2.1 he;have bc:aq .i64 ao K gz szv sizes:=br (br b9 az λr f y=>by have:=ac _ y;have:=ag r f;omega) ah λr f he=>by have he:r=j:=he;have:=ag r f;omega
  have c7:ad K C b6 [.slice ν 0 0,.slice ν 0 0,Δ 0,.slice ν 0 0]:=((((((bW.aa N (λhe=>by have he:C=j:=he;omega)).aa aZ M).aa a2 M).aa ax (λhe=>by have he:C=j:=he;omega)).aa az M).aa ah (λhe=>by have he:C=j:=he;omega));let P:af:=λr=>(B r\/w.heap.size<=r)/\r<K.heap.size;have cg:ak.rep (α:=List (Λ×Int)) false bx (λr=>cF g gs A P r/\r≠j/\r≠C) K [cb] l:=by
   refine B4 (ak.aa bF ah λr f h he=>?_) λr f h=>?_
   .have he:r=j:=he;rcases h with h|h
    .exact h
    .rcases h with h|h
     .have:=W r h.2;omega
     .omega
   .rcases h with h|h
    .have:=W r h.2;exact⟨⟨h.1,.inl h.2,f⟩,Ω,Ω⟩
    .exact⟨⟨λy=>by have:=ac _ y;omega,.inr Ω,f⟩,Ω,Ω⟩
  have c8:∀r,leads aL r->cF g gs A P r/\r≠j/\r≠C:=λr f=>by
   have O:=Q r f;have ap:=(bR ce f);exact⟨⟨λy=>by have:=ac _ y;omega,.inr Ω,Ω⟩,O.2⟩
  have ch:∀r,leads szv r->cF g gs A P r/\r≠j/\r≠C:=λr f=>by
   have O:=ag r f;have ap:=(bR bc f);exact⟨⟨λy=>by have:=ac _ y;omega,.inr Ω,Ω⟩,Ω,Ω⟩
  have c9:Seen (λr=>cF g gs A P r/\r≠j/\r≠C) K [aL,szv,Δ o,cb] ((scope,sizes,o,l):hB):=B3 (qA ce c8) (qA bc ch) cg;have da:∀q,db all s=σ q->((scope,sizes,o,l):hB)=gZ q.1:=λq E=>by
   rw[L]at E;obtain⟨eb,bI,rfl⟩:=Y6.1 E;have O:=cc _ bI;cases aA:bd 0 av G with
   |none=>have e:a7 0 av (σ G)=ν:=aA;rw[e]at bI;cases bI
   |some al=>
    have ap:=cW al aA;rw[O,ap];rfl
  have dc:∀v∈[aL,szv,V5 .i64 o,cb],v.oneCell'=true:=by
   intro v H;simp at H;rcases H with rfl|rfl|rfl|rfl
   .exact bn.2
   .exact bc.ls.cells.2
   .rfl
   .exact bH.2
  have ci:∀r,cF g gs A B r->cF g gs A P r/\r≠j/\r≠C:=λr f=>by
   have:=W r f.2;exact⟨⟨f.1,.inl f.2,Ω⟩,Ω,Ω⟩
  refine dl (λbK=>∃aI,ae (bG g gs A) K bK/\(∀r,aI r->A r\/K.heap.size<=r)/\∃V,la bK g gs aI V (λr=>cF g gs A P r/\r≠j/\r≠C) clean ((db all s).map (·.2))) ?_ ?_
  .rintro bK ⟨aI,aN,aO,V,dd⟩;have ec:=aN.size;refine B5 rfl dc (bb.aa aN am) rfl (c7.aa aN M) λbL be=>?_;have ed:=be.size;have ck:∀r,bG g gs aI r->¬(λr=>r=C) r:=λr f he=>by
    have he:r=C:=he;subst he;rcases f with f|f|f
    .exact M (.inl f)
    .exact M (.inr (.inl f))
    .rcases aO _ f with f|f
     .exact M (.inr (.inr f))
     .omega
   have cl:∀r,(cF g gs A P r/\r≠j/\r≠C)->cF g gs aI (λr=>(B r\/w.heap.size<=r)/\r<bL.heap.size/\(r<K.heap.size\/B r)) r:=λr h=>⟨λy=>h.1.1 (y.imp id (Or.imp id λy=>(aO r y).elim id λh'=>by have:=h.1.2.2;omega)),h.1.2.1,by have:=h.1.2.2;omega,.inl h.1.2.2⟩;have de:la bL g gs aI V (λr=>cF g gs A P r/\r≠j/\r≠C) clean ((db all s).map (·.2)):=dd.aa be (ck g (.inl rfl)) (λr f _=>ck r f) (λr f=>f.2.2);refine⟨aI,λr=>(B r\/w.heap.size<=r)/\r<bL.heap.size/\(r<K.heap.size\/B r),_,(scope,sizes,o,l),rfl,rfl,hx (c6.trans aN) be λr f he=>by have he:r=C:=he;omega,λr f=>(aO r f).imp id λh=>Ω,λr f=>⟨f.1,f.2.1⟩,λr f=>⟨.inl f,by have:=W r f;omega,.inr f⟩,de.out cl λr f=>f.2.1,?_,da⟩;refine B4 (ak.aa (ak.aa c9 aN λr _ h y=>?_) be λr _ h he=>?_) λr _ h=>cl r h
   .rcases h with h|h
    .exact h
    .exact h.1.1 y
   .rcases h with h|h
    .exact h
    .exact h.2.2 he
  .intro aw aM;rw[aj];refine⟨λdf=>?_,λdg=>?_⟩
   .intro bM aB _ _;have ee:=aB.size;have dh:∀r,(cF g gs A P r/\r≠j/\r≠C)->cF g gs A (pm bM.heap.size) r:=λr h=>⟨h.1.1,by have:=h.1.2.2;show r<bM.heap.size;omega⟩;refine LL (R:=λr=>cF g gs A P r/\r≠j/\r≠C) (z:=sizes) (l:=l) (cd.ext aB) ci dh (λt bE=>?_) (bb.ext aB) (qA (bc.ext aB) ch) (bi cg aB) λef aI di aO dj=>?_
    .obtain⟨q,E,rfl⟩:=Y6.1 bE;cases aA:bd 0 av G with
     |none=>have e:a7 0 av (σ G)=ν:=aA;rw[e]at E;cases E
     |some al=>
      have e:a7 0 av (σ G)=σ al:=aA;rw[e]at E;have h1:q.2.shared=al.2.shared/\q.2.toks.length<=al.2.toks.length:=B6 (l:=q.1) (s':=q.2) E;have O:=dK (n:=al.1) (s':=al.2) aA;have ap:=O.eqs.2.2;have eg:=O.1;rw[h1.1,ap];have:=h1.2;omega
    .refine aM _ ⟨aI,(aB.aa _).trans di,λr f=>(aO r f).imp id λh=>Ω,pm bM.heap.size,?_⟩;have e:(db all s).map (·.2)=((iN sizes ((a7 0 av (σ G)).map (·.2))).map (·.2)).map (sK sizes l):=by
      rw[L];cases E:iN sizes ((a7 0 av (σ G)).map (·.2))with
      |none=>rfl
      |some q=>
       have O:=cc _ E;simp only[Z7,if_pos df,O]
     rw[e];exact dj
   .refine aM _ ⟨A,ae.refl _ _,λr f=>.inl f,B,?_⟩;have e:(db all s).map (·.2)=(iN sizes ((a7 0 av (σ G)).map (·.2))).map (·.2):=by
     rw[L];cases E:iN sizes ((a7 0 av (σ G)).map (·.2))with
     |none=>rfl
     |some q=>simp only[Z7,if_neg dg]
    rw[e];exact cd.qr ci
def kt(l:Λ):Prop:=∀v∈l,0<=v/\v<64
theorem qB(h:kt l){v:Int}:v∈bo l↔v∈l:=by
 unfold bo;rw[List.mem_filter,decide_eq_true_eq];refine⟨λh=>h.2,λa=>⟨?_,a⟩⟩;obtain⟨h1,e⟩:=h v a;exact j0.2 ⟨v.toNat,List.mem_range.2 Ω,Ω⟩
theorem LO(l:Λ):kt (bo l):=λv a=>by
 obtain⟨n,e,rfl⟩:=j0.1 (List.mem_filter.1 a).1;have:=List.mem_range.1 e;omega
theorem vQ(l:Λ):(bo l).Pairwise (·< ·):=by
 unfold bo;refine List.Pairwise.filter _ ?_;rw[List.pairwise_map];exact List.pairwise_lt_range.imp λh=>Ω
theorem B7(l:Λ):(bo l).Nodup:=(vQ l).imp λh=>Ω
where
 nodup_le' {a b:Λ} (h:a.Nodup) (I:∀x∈a,x∈b):a.length<=b.length:=by
  induction a generalizing b with
  |nil=>exact X5 _
  |cons x a ih=>
   have h':=List.nodup_cons.1 h;have hx:=I x (.head _);have:=ih (b:=b.erase x) h'.2 λy hy=>(List.mem_erase_of_ne (λ(he:y=x)=>h'.1 (by rw[<-he];exact hy))).2 (I y (.tail _ hy));rw[List.length_erase_of_mem hx]at this;have:=List.length_pos_of_mem hx;rw[Z5];omega
theorem B8(n:Nat):(0:Int)<64 ^ n:=Int.pow_pos Ω
theorem sL:∀(l:Λ),kt l->0<=jm l/\jm l<64 ^ l.length
 |[],_=>by simp[jm]
 |x::l,h=>by
  have j:=sL l λy a=>h y (.tail _ a);have f:=h x (.head _);have p:=B8 l.length;simp only[jm,Z5];have e:(64:Int) ^ (l.length+1)=64*64 ^ l.length:=by rw[Int.pow_succ,Int.mul_comm]
  have h1:x*64 ^ l.length<=63*64 ^ l.length:=Int.mul_le_mul_of_nonneg_right Ω Ω;have q:0<=x*64 ^ l.length:=Int.mul_nonneg f.1 Ω;rw[e];omega
def fY:Λ->Λ->Int
 |x::a,y::b=>if x<y then-1 else if y<x then 1 else fY a b
 |[],[]=>0
 |[],_::_=>-1
 |_::_,[]=>1
theorem B9:∀(a b:Λ),a.length=b.length->kt a->kt b->(fY a b<0↔jm a<jm b)/\(fY a b=0↔a=b)/\(jm a=jm b->a=b)
 |[],[],_,_,_=>by simp[fY]
 |[],_::_,h,_,_=>by simp at h
 |_::_,[],h,_,_=>by simp at h
 |x::a,y::b,h,s,w=>by
  have p:a.length=b.length:=by simpa using h
  have q:kt a:=λz e=>s z (.tail _ e);have r:kt b:=λz e=>w z (.tail _ e);have f:=B9 a b p q r;have A:=sL a q;have C:=sL b r;have E:=B8 b.length;simp only[fY,jm];rw[p]at A ⊢;have step:∀u v:Int,u<v->u*64 ^ b.length+64 ^ b.length<=v*64 ^ b.length:=λu v F=>by
   have:=Int.mul_le_mul_of_nonneg_right (show u+1<=v by omega) (show(0:Int)<=64 ^ b.length by omega);rw[Int.add_mul,Int.one_mul]at this;exact this
  by_cases h1:x<y
  .rw[if_pos h1];have:=step x y h1;exact⟨⟨λ_=>Ω,λ_=>Ω⟩,⟨λh=>Ω,λh=>by have:=(List.cons.inj h).1;omega⟩,λh=>Ω⟩
  .rw[if_neg h1];by_cases j:y<x
   .rw[if_pos j];have:=step y x j;exact⟨⟨λh=>Ω,λh=>Ω⟩,⟨λh=>Ω,λh=>by have:=(List.cons.inj h).1;omega⟩,λh=>Ω⟩
   .rw[if_neg j];have B:x=y:=Ω
    subst B;exact⟨f.1.trans ⟨λh=>Ω,λh=>Ω⟩,f.2.1.trans ⟨λh=>by rw[h],λh=>(List.cons.inj h).2⟩,λh=>by rw[f.2.2 Ω]⟩
def jn(l:Λ):Prop:=kt l/\l.length<=6
theorem Ca(h:jn l):0<=jm l/\jm l<64 ^ 6:=by
 have:=sL l h.1;have e:(64:Int) ^ l.length<=64 ^ 6:=by
  have a:=h.2
  match l.length,a with
  |0,_=>decide
  |1,_=>decide
  |2,_=>decide
  |3,_=>decide
  |4,_=>decide
  |5,_=>decide
  |6,_=>decide
  |n+7,h=>omega
 omega
theorem vR{b:Λ}(j:jn a)(p:jn b):(dc a<dc b↔a.length<b.length\/(a.length=b.length/\fY a b<0))/\(dc a=dc b->a=b):=by
 have h1:=Ca j;have q:=Ca p;have e:(64:Int) ^ 6=68719476736:=Φ
 rw[e]at h1 q;unfold dc;rw[e];by_cases f:a.length=b.length
 .have:=B9 a b f j.1 p.1;rw[f];exact⟨⟨λh=>.inr ⟨rfl,this.1.2 Ω⟩,λh=>by
   rcases h with h|⟨_,h⟩
   .omega
   .have:=this.1.1 h;omega⟩,λh=>this.2.2 Ω⟩
 .exact⟨⟨λh=>.inl Ω,λh=>by
   rcases h with h|⟨h,_⟩
   .omega
   .exact absurd h f⟩,λh=>Ω⟩
theorem sM(g:cI):∀l:List cI,(hz g l).Perm (g::l)
 |[]=>List.Perm.refl _
 |h::l=>by
  unfold hz;split
  .exact ((sM g l).cons h).trans (List.Perm.swap g h l)
  .exact List.Perm.refl _
theorem Cb{g:cI}:∀{l:List cI},l.Pairwise (λa b=>dc a.1<dc b.1)->(∀h∈l,dc h.1≠dc g.1)->(hz g l).Pairwise (λa b=>dc a.1<dc b.1)
 |[],_,_=>by simp[hz]
 |h::l,j,p=>by
  have f:=List.pairwise_cons.1 j;unfold hz;split
  .rename_i q;refine List.pairwise_cons.2 ⟨λx e=>?_,Cb f.2 λx e=>p x (.tail _ e)⟩;rcases V1.1 ((sM g l).mem_iff.1 e)with rfl|e
   .exact q
   .exact f.1 x e
  .rename_i r;have:=p h (.head _);refine List.pairwise_cons.2 ⟨λx e=>?_,j⟩;rcases V1.1 e with rfl|e
   .omega
   .have:=f.1 x e;omega
theorem Cc:∀(l acc:List cI),acc.Pairwise (λa b=>dc a.1<dc b.1)->l.Pairwise (λa b=>dc a.1≠dc b.1)->(∀a∈acc,∀b∈l,dc a.1≠dc b.1)->
  (l.foldl (λl g=>hz g l) acc).Pairwise (λa b=>dc a.1<dc b.1)/\(l.foldl (λl g=>hz g l) acc).Perm (acc++l)
 |[],acc,h,_,_=>⟨h,Ξ⟩
 |g::l,acc,h,q,f=>by
  have j:=List.pairwise_cons.1 q;have:=Cc l (hz g acc) (Cb h λa e=>f a e g (.head _)) j.2 λa e b p=>by
   rcases V1.1 ((sM g acc).mem_iff.1 e)with rfl|e
   .exact j.1 b p
   .exact f a e b (.tail _ p)
  refine⟨this.1,this.2.trans ?_⟩;exact((sM g acc).append_right l).trans (List.perm_middle (a:=g) (l₁:=acc) (l₂:=l)).symm
theorem vS{α:Type}{f:α->Int}:∀{L M:List α},L.Pairwise (λa b=>f a<f b)->M.Pairwise (λa b=>f a<f b)->(∀x,x∈L↔x∈M)->L=M
 |[],M,_,_,h=>by
  cases M with
  |nil=>rfl
  |cons y M=>exact absurd ((h y).2 (.head _)) Ξ
 |x::L,[],_,_,h=>absurd ((h x).1 (.head _)) Ξ
 |x::L,y::M,h1,q,h=>by
  have j:=List.pairwise_cons.1 h1;have p:=List.pairwise_cons.1 q;have r:x=y:=by
   rcases V1.1 ((h x).1 (.head _))with he|hm
   .exact he
   .rcases V1.1 ((h y).2 (.head _))with he|s
    .exact he.symm
    .have a:=p.1 x hm;have b:=j.1 y s;omega
  subst r;rw[vS j.2 p.2 λz=>⟨λe=>?_,λe=>?_⟩]
  .rcases V1.1 ((h z).1 (.tail _ e))with he|hm
   .subst he;have:=j.1 z e;omega
   .exact hm
  .rcases V1.1 ((h z).2 (.tail _ e))with he|hm
   .subst he;have:=p.1 z e;omega
   .exact hm
structure ft(sizes:Λ)(k:Int)(g:cI):Prop where
 scope:jn g.1
 up:g.1.Pairwise (·< ·)
 vars:∀v∈g.1,v<sizes.length
 len:g.2.length=(aN (bI sizes g.1)).toNat
 small:aN (bI sizes g.1)<=4096
 h3:∀c∈g.2,0<=c/\c<=k
theorem nT{sc:Λ}(e:∀z∈sizes,1<=z/\z<=32)(f:∀v∈sc,0<=v/\v<sizes.length):∀z∈bI sizes sc,1<=z/\z<=32:=λz h=>by
 obtain⟨v,j,rfl⟩:=j0.1 h;obtain⟨h1,p⟩:=f v j;have a:v.toNat<sizes.length:=Ω
 rw[u4,x7 a];exact e _ (Q3 a)
theorem LP{b:Λ}(h:a.Perm b):aN a=aN b:=by
 induction h with
 |nil=>rfl
 |cons x _ e=>simp only[aN,e]
 |swap x y l=>simp only[aN];rw[<-Int.mul_assoc,<-Int.mul_assoc,Int.mul_comm y x]
 |trans _ _ h1 f=>exact h1.trans f
theorem LQ{b:Λ}(h:a.length=b.length):(ed k a b).length=b.length:=by simp[ed,h]
theorem LR{b:Λ}(hk:0<=k)(f:∀c∈a,0<=c/\c<=k)(j:∀c∈b,0<=c/\c<=k):∀c∈ed k a b,0<=c/\c<=k:=by
 induction a generalizing b with
 |nil=>intro c e;simp[ed]at e
 |cons x a p=>
  cases b with
  |nil=>intro c e;simp[ed]at e
  |cons y b=>
   intro c e;have q:=f x (.head _);have r:=j y (.head _);rcases V1.1 (show c∈min (x+y) k::ed k a b from e)with rfl|e
   .omega
   .exact p (λc h=>f c (.tail _ h)) (λc h=>j c (.tail _ h)) c e
def iO(l:List cI):Prop:=(l.map (·.1)).Nodup
theorem LS{acc:List cI}{g:cI}(hk:0<=k)(j:∀h∈acc,ft sizes k h)(p:iO acc)(a:ft sizes k g):(∀h∈il k acc g,ft sizes k h)/\iO (il k acc g)/\(il k acc g).length<=acc.length+1:=by
 unfold il;split
 .refine⟨λh ap=>?_,?_,Ξ⟩
  .obtain⟨f,hm,rfl⟩:=j0.1 ap;have h1:=j f hm;split
   .rename_i he;have r:f.2.length=g.2.length:=by rw[h1.len,a.len,he]
    exact⟨h1.scope,h1.up,h1.vars,by show(ed k f.2 g.2).length=_;rw[LQ r,a.len,he],h1.small,LR hk h1.h3 a.h3⟩
   .exact h1
  .unfold iO;rw[R2];have e:((λx:cI=>x.1)∘λh:cI=>if h.1=g.1 then(h.1,ed k h.2 g.2)else h)=λx:cI=>x.1:=by
    funext h;simp only[Function.comp];split<;>rfl
   rw[e];exact p
 .rename_i s;refine⟨λh ap=>?_,?_,Ξ⟩
  .rcases l9.1 ap with ap|ap
   .exact j h ap
   .rw[j4.1 ap];exact a
  .unfold iO;rw[Z2];exact List.nodup_append.2 ⟨p,Ξ,λx w y q he=>by
    simp only[T1,List.map_nil,j4]at q;subst q;subst he;exact s w⟩
theorem vT{sizes:Λ}{k:Int}(hk:0<=k):∀{l acc:List cI},(∀h∈acc,ft sizes k h)->iO acc->(∀g∈l,ft sizes k g)->(∀h∈l.foldl (il k) acc,ft sizes k h)/\iO (l.foldl (il k) acc)/\(l.foldl (il k) acc).length<=acc.length+l.length
 |[],acc,a,e,_=>⟨a,e,Ξ⟩
 |g::l,acc,a,e,f=>by
  obtain⟨h1,j,s⟩:=LS hk a e (f g (.head _));obtain⟨p,q,w⟩:=vT hk h1 j λx r=>f x (.tail _ r);exact⟨p,q,by simp only[T7,Z5];omega⟩
theorem Cd{α:Type}[DecidableEq α]:∀{a b:List α},a.Nodup->b.Nodup->(∀x,x∈a↔x∈b)->a.Perm b
 |[],b,_,_,h=>by
  cases b with
  |nil=>exact .refl _
  |cons y b=>exact absurd ((h y).2 (.head _)) Ξ
 |x::a,b,p,f,h=>by
  have q:=(h x).1 (.head _);have j:=List.nodup_cons.1 p;refine .trans ?_ (List.perm_cons_erase q).symm;refine .cons x (Cd j.2 (f.erase x) λy=>?_);rw[f.mem_erase_iff];refine⟨λe=>⟨λhe=>j.1 (he▸e),(h y).1 (.tail _ e)⟩,λ⟨r,e⟩=>?_⟩;rcases V1.1 ((h y).2 e)with he|hm
  .exact absurd he r
  .exact hm
theorem sN(h:kt l)(a:l.Nodup):(bo l).Perm l:=Cd (B7 l) a λ_=>qB h
theorem vU:∀{l:Λ},(∀z∈l,1<=z/\z<=32)->l.map (λz=>min z 4097)=l
 |[],_=>rfl
 |z::l,h=>by
  have e:=h z (.head _);rw[T1,vU λx a=>h x (.tail _ a)];congr 1;omega
theorem LU{x:cw}(hk:0<=k)(f:0<=x.other)(a:∀p∈x.lines,0<=p.2):0<=jM x k t/\jM x k t<=k:=by
 unfold jM;cases e:x.lines.find? (λp=>decide (p.1=t))with
 |none=>simp only;omega
 |some p=>have:=a p (List.mem_of_find?_eq_some e);simp only;omega
theorem sO{x:cw}(h:sr all N x)(e:all.length<=64):kt x.scope:=λv a=>by
 have:=h.scope.2 v a;omega
theorem pn{f:ca}{x:cw}(a:ff N f)(s:x∈f.funs):ft f.sizes f.k (hZ f.sizes f.k x):=by
 obtain⟨h1,w,h⟩:=a.funs x s;have y:=a.sizes.2.1;have j:=sO h1 y;have e:=sN j h1.scope.1;have q:∀v∈bo x.scope,0<=v/\v<f.sizes.length:=λv hm=>h1.scope.2 v ((qB j).1 hm);have A:=nT a.sizes.2.2 q;have B:aN (bI f.sizes (bo x.scope))=aN x.sizes:=by rw[h1.sizes];exact LP (e.map _)
 refine⟨⟨LO _,?_⟩,vQ _,λv hm=>(q v hm).2,?_,?_,λc C=>?_⟩
 .show (bo x.scope).length<=6;rw[e.length_eq];exact w
 .show ((bj _).map _).length=_;rw[u7,jj A];rfl
 .show aN (bI f.sizes (bo x.scope))<=4096;have E:∀z∈x.sizes,1<=z/\z<=32:=λz r=>by
   rw[h1.sizes]at r;exact nT a.sizes.2.2 (λv hm=>h1.scope.2 v hm) z r
  unfold dt at h;rw[vU E,decide_eq_false_iff_not]at h;rw[B];omega
 .obtain⟨t,_,rfl⟩:=j0.1 C;exact LU (by have:=a.k.1;omega) h1.other λp e=>(h1.lines.2 p e).2
theorem lb{f:ca}(a:ff N f):(∀g∈fq f,ft f.sizes f.k g)/\iO (fq f)/\(fq f).length<=f.funs.length:=by
 have:=vT (sizes:=f.sizes) (k:=f.k) (by have:=a.k.1;omega) (l:=f.funs.map (hZ f.sizes f.k)) (acc:=[]) (λh ap=>by cases ap) List.nodup_nil λg j=>by
  obtain⟨x,p,rfl⟩:=j0.1 j;exact pn a p
 refine⟨this.1,this.2.1,?_⟩;have e:=this.2.2;rw[List.length_nil,u7,X3]at e;exact e
theorem Ce{l:List cI}(e:∀g∈l,ft sizes k g)(f:iO l):l.Pairwise λa b=>dc a.1≠dc b.1:=by
 have h1:l.Pairwise λa b=>a.1≠b.1:=by
  unfold iO List.Nodup at f;rwa [List.pairwise_map]at f
 exact h1.imp_of_mem λ{a b}h j p he=>p ((vR (e a h).scope (e b j).scope).2 he)
theorem qC{f:ca}(h:ff N f):(fI f).Pairwise (λa b=>dc a.1<dc b.1)/\(fI f).Perm ((fq f).filter fH):=by
 obtain⟨h1,j,_⟩:=lb h;have p:∀g∈(fq f).filter fH,ft f.sizes f.k g:=λg q=>h1 g (List.mem_filter.1 q).1;have r:iO ((fq f).filter fH):=(List.Sublist.map _ List.filter_sublist).nodup j;have:=Cc ((fq f).filter fH) [] List.Pairwise.nil (Ce p r) λa s=>by cases s
 refine⟨this.1,?_⟩;have e:=this.2;rw[List.nil_append]at e;exact e
theorem sP{f:ca}(a:ff N f):∀g∈fI f,ft f.sizes f.k g:=λg e=>(lb a).1 g (List.mem_filter.1 ((qC a).2.mem_iff.1 e)).1
theorem LV{f:ca}(e:ff N f){M:List cI}(h:M.Perm ((fq f).filter fH))(I:M.Pairwise λa b=>dc a.1<=dc b.1):M=fI f:=by
 obtain⟨h1,j⟩:=qC e;have p:iO ((fq f).filter fH):=(List.Sublist.map _ List.filter_sublist).nodup (lb e).2.1;have q:iO M:=(h.map (λg:cI=>g.1)).nodup_iff.2 p;have r:∀g∈M,ft f.sizes f.k g:=λg s=>(lb e).1 g (List.mem_filter.1 (h.mem_iff.1 s)).1;have w:=Ce r q;refine vS (f:=λg:cI=>dc g.1) ?_ h1 λx=>by rw[h.mem_iff,j.mem_iff]
 exact I.imp₂ (λa b h1 j=>Int.lt_iff_le_and_ne.2 ⟨h1,j⟩) w
structure jR(n:aK):Prop where
 k:1<=n.k/\n.k<=2147483648
 sizes:1<=n.sizes.length/\n.sizes.length<=64/\∀z∈n.sizes,1<=z/\z<=32
 zero:0<=n.zero/\n.zero<=n.k
 ku:n.unary.length=n.sizes.length
 unary:∀(i:Nat)(z:Int)(u:Λ),n.sizes[i]?=σ z->n.unary[i]?=σ u->u.length=z.toNat/\∀c∈u,0<=c/\c<=n.k
 funs:∀g∈n.funs,ft n.sizes n.k g/\2<=g.1.length
theorem LW(z:Int):aN [z]=z:=by simp[aN]
theorem sQ:∀{l:List cI}{n:aK},jR n->(∀g∈l,ft n.sizes n.k g)->jR (l.foldl (λn g=>match g.1 with
 |[]=>{n with zero:=g.2.getD 0 0}
 |[v]=>{n with unary:=n.unary.set v.toNat g.2}
 |_=>{n with funs:=n.funs++[g]}) n)/\(l.foldl (λn g=>match g.1 with
 |[]=>{n with zero:=g.2.getD 0 0}
 |[v]=>{n with unary:=n.unary.set v.toNat g.2}
 |_=>{n with funs:=n.funs++[g]}) n).sizes=n.sizes
 |[],n,h,_=>⟨h,rfl⟩
 |g::l,n,h,p=>by
  have e:=p g (.head _);have j:∀x∈l,ft n.sizes n.k x:=λx f=>p x (.tail _ f);rw[T7];obtain⟨sc,cs⟩:=g
  match sc,e with
  |[],e=>
   have s:=e.len;refine sQ (n:={n with zero:=cs.getD 0 0}) ⟨h.k,h.sizes,?_,h.ku,h.unary,h.funs⟩ j;have h1:cs.length=1:=by simpa[bI,aN]using s
   have w:cs[0]?=σ (cs.getD 0 0):=by rw[u4,x7 Ω];rfl
   exact e.h3 _ (x6 w)
  |[v],e=>
   have A:=e.scope.1 v (.head _);have B:=e.vars v (.head _);refine sQ (n:={n with unary:=n.unary.set v.toNat cs}) ⟨h.k,h.sizes,h.zero,by show(n.unary.set _ _).length=_;rw[Z9];exact h.ku,λi z u q hu=>?_,h.funs⟩ j;by_cases hi:v.toNat=i
   .subst hi;have C:=h.ku;rw[c9 Ω]at hu;cases hu;have y:bI n.sizes [v]=[z]:=by
     simp only[bI,T1,List.map_nil];rw[u4,q];rfl
    refine⟨?_,e.h3⟩;have:=e.len;rw[y,LW]at this;exact this
   .rw[Y5 hi]at hu;exact h.unary i z u q hu
  |a::b::r,e=>
   refine sQ (n:={n with funs:=n.funs++[(a::b::r,cs)]}) ⟨h.k,h.sizes,h.zero,h.ku,h.unary,λx f=>?_⟩ j;rcases l9.1 f with f|f
   .exact h.funs x f
   .rw[j4.1 f];exact⟨e,Ξ⟩
theorem Cf{f:ca}(a:ff N f):jR (cg f)/\(cg f).sizes=f.sizes:=by
 unfold cg;have h:=a.sizes;refine sQ (n:=⟨f.k,f.sizes,0,f.sizes.map λz=>o4 z.toNat 0,[]⟩) ⟨a.k,h,⟨by show(0:Int)<=0;omega,by show(0:Int)<=f.k;have:=a.k.1;omega⟩,Ξ,λi z u h1 e=>?_,λg j=>by cases j⟩ (sP a);have e:(f.sizes.map λz=>o4 z.toNat (0:Int))[i]?=σ u:=e;have h1:f.sizes[i]?=σ z:=h1;rw[v8,h1]at e;cases e;refine⟨Ξ,λc p=>?_⟩;rw[(List.mem_replicate.1 p).2];have:=a.k.1;exact⟨Q1 _,by show(0:Int)<=f.k;omega⟩
def ld(x:cw)(k:Int)(i:Nat)(t:Λ):Int:=match(x.lines.take i).find? (λp=>decide (p.1=t))with
 |some p=>min p.2 k
 |none=>min x.other k
theorem Cg(x:cw)(k:Int)(t:Λ):ld x k 0 t=min x.other k:=by simp[ld]
theorem Ch(x:cw)(k:Int)(t:Λ):ld x k x.lines.length t=jM x k t:=by
 unfold ld jM;rw[o6];cases x.lines.find? (λp=>decide (p.1=t))<;>rfl
theorem Ci{x:cw}{i:Nat}{p:Λ×Int}(y:(x.lines.map (·.1)).Nodup)(hi:x.lines[i]?=σ p)(t:Λ):ld x k (i+1) t=if t=p.1 then min p.2 k else ld x k i t:=by
 unfold ld;rw[r8,hi,l7,List.find?_append];by_cases a:t=p.1
 .subst a;have z:(x.lines.take i).find? (λq=>decide (q.1=p.1))=ν:=by
   rw[List.find?_eq_none];intro q e he;have he:q.1=p.1:=by simpa using he
   obtain⟨j,f⟩:=X6.1 e;have h:j<i:=by have:=(x5.1 f).1;rw[n9]at this;omega
   rw[Y0 h]at f;have r:=x5.1 f;have s:=x5.1 hi;have w:=V6.1 y j i (by rw[u7];exact r.1) (by rw[u7];exact s.1) h;rw[List.getElem_map,List.getElem_map,r.2,s.2]at w;exact w he
  rw[z,if_pos rfl];simp
 .rw[if_neg a];have:[p].find? (λq=>decide (q.1=t))=ν:=by
   rw[List.find?_eq_none];intro q e he;rw[j4.1 e]at he;exact a (of_decide_eq_true he).symm
  rw[this,Option.or_none]
theorem po{v:Int}(h:v∈l):l[l.idxOf v]?=σ v:=by
 have:=List.idxOf_lt_length_iff.2 h;rw[x7 this,List.getElem_idxOf this]
theorem qD{i:Nat}{v:Int}(j:l.Nodup)(h:l[i]?=σ v):l.idxOf v=i:=by
 have hm:=x6 h;have h1:=po hm;have a:=x5.1 h1;have e:=x5.1 h;rcases Nat.lt_trichotomy (l.idxOf v) i with f|he|f
 .exact absurd (a.2.trans e.2.symm) (V6.1 j _ _ a.1 e.1 f)
 .exact he
 .exact absurd (e.2.trans a.2.symm) (V6.1 j _ _ e.1 a.1 f)
def fZ(scope a:Λ):Λ:=a.map λv=>((scope.idxOf v:Nat):Int)
theorem sR{f:Λ}(w:scope.Nodup)(a:f.Perm scope):Good (fZ scope f) scope.length:=by
 have r:f.Nodup:=a.nodup_iff.2 w;refine⟨by simp[fZ,a.length_eq],λi p h=>?_⟩;unfold fZ at h;rw[v8]at h;obtain⟨v,s,rfl⟩:=Y6.1 h;have hm:v∈scope:=a.mem_iff.1 (x6 s);have z:=List.idxOf_lt_length_iff.2 hm;refine⟨⟨Ω,Ω⟩,λj A q=>?_⟩;unfold fZ at q;rw[v8]at q;obtain⟨u,hu,he⟩:=Y6.1 q;have x:u∈scope:=a.mem_iff.1 (x6 hu);have e:scope.idxOf u=scope.idxOf v:=Ω
 have h1:=po x;rw[e,po hm]at h1;have y:v=u:=Z0 h1;subst y;have B:=qD r hu;have C:=qD r s;omega
theorem Cj{v:Int}(e:a[j]?=σ v):(fZ scope a)[j]?=σ ((scope.idxOf v:Nat):Int):=by
 unfold fZ;rw[v8,e];rfl
theorem LX(p:scope.Nodup)(f:a.Perm scope):et (bI sizes scope) (fZ scope a)=bI sizes a:=by
 refine Y7 λj=>?_;cases e:a[j]? with
 |none=>
  have h:=List.getElem?_eq_none_iff.1 e;rw[Y4 (by rw[sm];simp[fZ];exact h),Y4 (by simp[bI];exact h)]
 |some v=>
  have hm:v∈scope:=f.mem_iff.1 (x6 e);have q:=sR p f;rw[A0 q (by simp[bI]) (Cj e),u9];unfold bI;rw[v8,v8,po hm,e]
theorem Ck(q:scope.Nodup)(e:a.Perm scope)(r:t.length=scope.length):l1 (fZ scope a) t=pb scope a t:=by
 have s:=sR q e;refine(AZ s r (by simp[pb]) λj p f=>?_).symm;unfold fZ at f;rw[v8]at f;obtain⟨v,h,rfl⟩:=Y6.1 f;have hm:v∈scope:=e.mem_iff.1 (x6 h);have w:a.Nodup:=e.nodup_iff.2 q;have x:=(x5.1 h).1;have y:=e.length_eq;unfold pb;rw[u9,v8,po hm,Z7,qD w h,u4,x7 (show j<t.length by omega)];rfl
theorem LY{f:ca}{x:cw}{cs:Λ}(h:ff N f)(z:x∈f.funs)(H:cs.length=(aN x.sizes).toNat)(A:∀t,dp x.sizes t->bm x.sizes cs t=jM x f.k t):
  et x.sizes (fZ x.scope (bo x.scope))=bI f.sizes (bo x.scope)/\nM x.sizes cs (fZ x.scope (bo x.scope))=(hZ f.sizes f.k x).2:=by
 obtain⟨h1,I,J⟩:=h.funs x z;have p:=sO h1 h.sizes.2.1;have a:=sN p h1.scope.1;have r:x.sizes=bI f.sizes x.scope:=h1.sizes;have j:et x.sizes (fZ x.scope (bo x.scope))=bI f.sizes (bo x.scope):=by rw[r];exact LX h1.scope.1 a
 have B:=sR h1.scope.1 a;have C:∀v∈bo x.scope,0<=v/\v<f.sizes.length:=λv hm=>h1.scope.2 v ((qB p).1 hm);have e:dP (bI f.sizes (bo x.scope)):=nT h.sizes.2.2 C;refine⟨j,?_⟩;have E:x.sizes.length=x.scope.length:=by rw[r];simp[bI]
 unfold nM;rw[j];show _=(bj (bI f.sizes (bo x.scope))).map λt=>jM x f.k (pb x.scope (bo x.scope) t);refine Y7 λq=>?_;rw[v8,v8];have K:=l0 e;by_cases w:q<(aN (bI f.sizes (bo x.scope))).toNat
 .have F:=qg e (i:=q) Ω;rw[F,List.getElem?_range w];simp only[Z7];have G:=vt e w;have y:(cR (bI f.sizes (bo x.scope)) q).length=x.scope.length:=by rw[ji];simp[bI,a.length_eq]
  rw[Ck h1.scope.1 a y,A];have:=Km (s:=x.sizes) B E (by rw[j];exact G);rw[Ck h1.scope.1 a y]at this;exact this
 .rw[Y4 Θ,Y4 (by rw[jj e];omega)];rfl
theorem LZ{e:Λ}(I:dP ah)(h1:a.length=(aN ah).toNat)(f:e.length=(aN ah).toNat):
  ed k a e=(W3 (aN ah).toNat).map λ(q:Nat)=>min (bm ah a (cR ah q)+bm ah e (cR ah q)) k:=by
 conv=>lhs;rw[sk I h1,sk I f]
 unfold ed;rw[List.zipWith_map,List.zipWith_self]
theorem L0{dg m:Nat}{d:List (x3×x3)}{KS:List (Λ)}(f:ad w dg iE [.map (σ m)])(hm:c7 w m d)(j:d.map (·.1)=KS.map en)(e:pj KS)(z:KS.length<65536):
  ai x8 IA [.func (.func lP) #[] #[Γ dg],BJ] w λv w'=>Ext w w'/\∃g M,M.Perm KS/\sI gE M 0 M.length/\nP w' g v M:=by
 refine ay func243 ?_;refine(K4 f hm j (λks h=>(e ks h).1) Ω).mono ?_;rintro v J _ ⟨p,g,L,c8,a,q⟩;refine(Lh q (e.perm a) (by rw[a.length_eq];omega)).mono ?_;rintro _ U _ ⟨s,M,x,hu,y⟩;exact⟨p.then s (λr A h=>by have:=c8 r h;omega),g,M,x.trans a,hu,y⟩
theorem Cl{α β:Type}{f:α->β}:∀{M:List β}{D:List α},M.Perm (D.map f)->∃L:List α,L.Perm D/\L.map f=M
 |[],D,h=>by
  have h1:=h.length_eq;simp at h1;have:D=[]:=b9 h1.symm;exact⟨[],by rw[this],rfl⟩
 |x::M,D,h=>by
  have a:x∈D.map f:=h.mem_iff.1 (.head _);obtain⟨p,e,rfl⟩:=j0.1 a;obtain⟨A,B,rfl⟩:=List.append_of_mem e;have j:(f p::M).Perm (f p::(A++B).map f):=h.trans (by
   rw[Z2,T1,Z2];exact List.perm_middle)
  obtain⟨L,q,r⟩:=Cl (List.Perm.cons_inv j);exact⟨p::L,(q.cons p).trans List.perm_middle.symm,by rw[T1,r]⟩
theorem Cm{g:Nat}{ks:Λ}(q:ks.length=6)(r:n<=6)(e:cs=ints .i8 ks)(f:ad w g cE cs):aH .i8 w (.slice (σ (if 6=0 then⟨g,0,ν⟩else⟨g,0+0*1,ν⟩)) (n-0) (6-0)) (ks.take n):=by
 subst e;rw[if_neg Ω];unfold aH;have h:(ks.take n).length=n:=by rw[n9];omega
 rw[h];refine⟨Θ,g,0,_,6,rfl,Ω,by simp[maxLen],λ_=>rfl,λj v a=>?_⟩;have p:=(x5.1 a).1;refine f.range j v ?_;rw[ints,List.map_take,Y0 (by simp[ints]at p;omega)]at a;exact a
def L1(D L:Told):Prop:=L.Perm D/\sI (λp=>gE (pad p.1)) L 0 L.length
theorem L2{g m:Nat}{o:Int}{D:Told}(h:eO w g m ah k o D)(ba:D.length<65536):ai x8 H4 [Γ g] w λv w'=>Ext w w'/\∃L:Told,L1 D L/\bl (eo w.heap.size) bx w' [v] L:=by
 obtain⟨⟨sv,gs,Y,hm⟩,bb,I,bS,az⟩:=id h;have bd:pj (D.map λp=>pad p.1):=λks hk=>by
  obtain⟨p,be,rfl⟩:=j0.1 hk;exact qs I (az p be).1
 refine ay func192 ?_;rw[da eZ.u];simp only[Z6,aY];rw[aQ fD.p 3 Y rfl];refine K2.mono ?_;rintro _ J _ ⟨Z,dg,rfl,bU,bf⟩;refine(L0 (KS:=D.map λp=>pad p.1) bf (bb.ext Z) (by rw[R2,R2];rfl) bd (by simpa using ba)).mono ?_;rintro bV U _ ⟨aA,bW,M,bg,bh,aB⟩;obtain⟨L,ab,O⟩:=Cl bg;have aC:M.length=L.length:=by rw[<-O];simp
 have bX:=ab.length_eq;have s1:=Z.size;have bY:=aA.size;have aE:=Z.trans aA;rw[e9 je.u aB];refine b3.range L.length (λi out e=>Ext U e/\bl (eo U.heap.size) bx e [out] (L.take i)) Ω ⟨Ext.refl _,by rw[List.take_zero];exact fV⟩ ?_ ?_
 rotate_left
 .rintro out e bj ⟨C,P⟩;rw[aC];simp only[aR,aj];refine⟨λh=>Ω,λ_=>⟨aE.trans C,L,⟨ab,λp q x y h1 bk bZ bm bn=>?_⟩,?_⟩⟩
  .exact bh p q (pad x.1) (pad y.1) h1 bk Ω (by rw[<-O,v8,bm];rfl) (by rw[<-O,v8,bn];rfl)
  .rw[o6]at P;exact ak.mono P (λr _ h=>by have h:U.heap.size<=r:=h;show w.heap.size<=r;omega) λ_ _ h=>h
 rintro i out e bj hi ⟨C,P⟩ bo;obtain⟨⟨t,c⟩,ac⟩:∃p,L[i]?=σ p:=⟨_,x7 hi⟩;have af:(t,c)∈D:=ab.mem_iff.1 (x6 ac);have am:=(az _ af).1;have aF:=vE I am;have ao:t.length=ah.length:=aF.1;have aH:=I.1;have bp:k6 (pad t):=qs I am;have Q:=bp.1;have br:M[i]?=σ (pad t):=by rw[<-O,v8,ac];rfl
 rw[aC];simp only[aR,aj];refine⟨λ_=>?_,λh=>Ω⟩;rw[Lg rfl (aB.ext C) br];refine bw cE.i λal b0 b2 aI aJ=>?_;refine qq Q rfl aJ λbt bu b4 S=>?_;have b5:=aI.size;have b6:=aJ.lt;have bz:Ext e bt:=aI.put bu Ω;intro aK H _ _;have ap:=bz.trans H;have au:=(aE.trans C).trans ap;have aL:=h.ext au;obtain⟨⟨b7,b8,b9,ca⟩,cb,_⟩:=id aL;have cc:=ap.size;rw[aQ fD.p 3 (Y.ext au) rfl,nO Q (S.ext H).range];refine KV aL am (λf bA=>?_) (λbB=>absurd rfl (bB _ af));have bC:f=c:=by
  have:=Bx h.nodup bA af rfl;exact congrArg Prod.snd this
 subst bC;simp only[Bool.false_eq_true,if_false];rw[dn (cs:=#[.slice ν 0 0,Δ f]) Ψ];refine bw gn.i λE cd ce av aN=>?_;refine⟨.inl av,?_⟩;refine bT (vs:=[.slice ν 0 0,Δ f]) gn.i rfl rfl (by intro v aP;simp at aP;rcases aP with rfl|rfl<;>rfl) aN λG bD cg aT=>?_;have ch:=av.size;have ci:=aN.lt;have V:Ext aK G:=av.put bD Ω;have aU:=ap.trans V;have aW:=au.trans V;rw[aQ fD.p 0 (Y.ext aW) rfl,aV an.u (hm.ls.ext aW)];rw[r3 cE.u fU.i (l:=0) (h:=ah.length) (m:=6) jD (nw _ _ rfl) fE Ω Ω Ω];have aX:=Cm Q aH rfl ((S.ext H).ext V);rw[<-ao,Bs]at aX;rw[<-ao,aV kS.u aX];have bE:=(S.ext H).ext V;have cj:al<aK.heap.size:=(S.ext H).lt;have ck:E<G.heap.size:=aT.lt;refine b1.range t.length (λj s=>ae (λr=>r=E\/G.heap.size<=r) G s/\∃aO gt,G.heap.size<=gt/\ad s E gn [aO,Δ f]/\aq .i64 ag s gt aO (t.take j)) Ω ⟨ae.refl _ _,_,G.heap.size,o5 _,aT,aq.nil _ _ _ _⟩ ?_ ?_
 .rintro j s bG bH ⟨z,aO,gt,bI,W,X⟩ bJ;obtain⟨x,aw⟩:=aD (l:=t) bH;have cl:=aF.2 x (x6 aw);have cm:Ext e s:=aU.then z (λr aZ he=>by rcases he with rfl|he<;>omega);have a1:=Cm Q aH rfl (bE.aa z (λhe=>by rcases he with he|he<;>omega));rw[<-ao,Bs]at a1;simp only[aR,aj];refine⟨λ_=>?_,λh=>Ω⟩;rw[bc kS.u fU.i Ψ a1 aw,aG gn.p 0 W rfl,fo fU.u ag.u,wrap_i64 Ω Ω];refine eM an.u ag.i rfl λa ga bK cn B bL=>?_;refine jg an.u ag.i rfl (X.ext B) bL.ls Θ Θ λa2 a6 bM cp K N=>?_;have bN:=z.size;have bO:=B.size;have cq:=N.size;rw[aS gn.p rfl];refine bq (g:=E) (o:=0) an.i K.ls.cells.1 K.ls.cells.2 ((W.ext B).aa N (λhe=>by have he:E=gt:=he;omega)) Ξ λcr a7 ct bP=>?_;simp only[aM];refine bJ _ ⟨((z.trans (B.aa _)).trans (N.mono λr _ he=>.inr (by have he:r=gt:=he;omega))).trans (a7.mono λr _ he=>.inl he),a2,a6,Ω,bP,?_⟩;rw[r8,aw];exact K.aa a7 (λ_ he=>by have he:a6=E:=he;omega)
 .rintro s bG ⟨z,aO,gt,bI,W,X⟩;simp only[aR,aj];refine⟨λh=>Ω,λ_=>?_⟩;rw[o6]at X;rw[bF gn.p gn.i rfl W.range];have bN:=z.size;have bQ:Ext e s:=aU.then z (λr aZ he=>by rcases he with rfl|he<;>omega);have a8:bl (eo e.heap.size) bx s [aO,Δ f] (t,f):=⟨[aO],[Δ f],eo e.heap.size,bx,rfl,λ_ h=>h,λ_ h=>h.elim,λ_ _ _ h=>h,ak.mono (kX X) (λr _ h=>by subst h;show e.heap.size<=r;omega) (λ_ _ h=>h),rfl⟩;refine ig (α:=Λ×Int) (a:=(t,f)) (cs:=[aO,Δ f]) (A:=eo e.heap.size) (R:=bx) oM.u gn.i Φ rfl a8 λu bK B _ bR=>?_;have ax:=bQ.trans B;have bO:=ax.size;refine my (α:=Λ×Int) (a:=(t,f)) (A:=eo e.heap.size) oM.u gn.i rfl (bi (lV P) ax) bR (bi a8 B) (λr _ h h'=>?_) Θ Θ λa2 bM K N=>?_
  .rcases h' with h'|h'
   .have:=h.2;have:e.heap.size<=r:=h';omega
   .exact h'
  simp only[aM];have cu:=C.size;refine bo _ _ ⟨(C.trans ax).then N (λr aZ h=>by have h:=h.1;have h:U.heap.size<=r:=h;omega),?_⟩;rw[r8,ac];refine ak.mono K (λr _ h=>?_) λ_ _ h=>h;show U.heap.size<=r;rcases h with h|h|h
  .exact h.1
  .have h:e.heap.size<=r:=h;omega
  .omega
theorem Cn{s:Λ}(I:dP s):t∈bj s↔dp s t:=by
 refine⟨λh=>?_,λ⟨n,h⟩=>x6 (mE I h)⟩;obtain⟨i,hi⟩:=X6.1 h;exact⟨_,jl I hi⟩
theorem Co:∀{s:Λ},dP s->(bj s).Pairwise λa b=>gE a<gE b
 |[],_=>by simp[bj]
 |k::s,I=>by
  have z:=Co I.tail;have f:∀t∈bj s,0<=gE t/\gE t<32 ^ s.length:=λt p=>by
   have A:=(Cn I.tail).1 p;have h1:=nL.1 A;have r:=sH t λx q=>by
    obtain⟨i,hi,rfl⟩:=List.getElem_of_mem q;obtain⟨a,e⟩:=aD (l:=s) (i:=i) Ω;have C:=h1.2 i a _ e (x7 hi);have E:=(I.tail a (x6 e)).2;omega
   rw[h1.1];exact r
  have j:∀t∈bj s,t.length=s.length:=λt p=>r5 p;show((W3 k.toNat).flatMap λ(v:Nat)=>(bj s).map λt=>(v:Int)::t).Pairwise _;rw[List.pairwise_flatMap];refine⟨λv _=>?_,?_⟩
  .rw[List.pairwise_map];refine z.imp_of_mem λ{a b}e f h=>?_;simp only[gE,j a e,j b f];omega
  .refine List.pairwise_lt_range.imp λ{u v}F x q y B=>?_;obtain⟨a,e,rfl⟩:=j0.1 q;obtain⟨b,w,rfl⟩:=j0.1 B;simp only[gE,j a e,j b w];have h1:=f a e;have r:=f b w;have:=Int.mul_le_mul_of_nonneg_right (show(u:Int)+1<=v by omega) (show(0:Int)<=32 ^ s.length by have:=vI s.length;omega);rw[Int.add_mul,Int.one_mul]at this;omega
theorem L3{D L:Told}{o:Int}(f:(D.map (·.1)).Nodup)(a:L.Perm D)(t:Λ):im L o t=im D o t:=by
 have j:(L.map (·.1)).Nodup:=(a.map (·.1)).nodup_iff.2 f;by_cases he:∃p∈D,p.1=t
 .obtain⟨p,h,rfl⟩:=he;rw[qt f (c:=p.2) h,qt j (c:=p.2) (a.mem_iff.2 h)]
 .rw[qu λp h1 e=>he ⟨p,h1,e⟩,qu λp h1 e=>he ⟨p,a.mem_iff.1 h1,e⟩]
def ir(ah:Λ)(f:Λ->Int)(cs:Λ):Prop:=cs.length=(aN ah).toNat/\∀t,dp ah t->bm ah cs t=f t
theorem ir.eq{f:Λ->Int}{cs:Λ}(I:dP ah)(h1:ir ah f cs)(e:ir ah f a):cs=a:=Kc I h1.1 e.1 λt h=>by rw[h1.2 t h,e.2 t h]
theorem ir.congr{f a:Λ->Int}{cs:Λ}(h:ir ah f cs)(he:∀t,dp ah t->f t=a t):ir ah a cs:=⟨h.1,λt e=>by rw[h.2 t e,he t e]⟩
theorem vV(I:dP ah)(h:dp ah t):∃n:Nat,ck ah t 0=σ (n:Int)/\n<(aN ah).toNat:=by
 obtain⟨n,a⟩:=h;have:=kZ I a;simp only[Int.zero_mul,Int.zero_add,Int.one_mul]at this;exact⟨n.toNat,by rw[a];congr 1;omega,Ω⟩
theorem L4(I:dP ah)(c:Int):ir ah (λ_=>c) (o4 (aN ah).toNat c):=⟨Ξ,λt a=>by
 obtain⟨n,e,f⟩:=vV I a;unfold bm;rw[e];simp only[u9,u4,List.getElem?_replicate,f,if_true,V2]⟩
theorem ir.put{f:Λ->Int}{cs:Λ}{c:Int}(I:dP ah)(h:ir ah f cs)(q:dp ah t)(r:cz c k):ir ah (λs=>if s=t then c else f s) (r6 ah t k c cs):=by
 obtain⟨n,e,w⟩:=vV I q;unfold r6;rw[e];simp only[r,if_true,u9];refine⟨by simp[h.1],λs p=>?_⟩;obtain⟨m,hm,x⟩:=vV I p;have a:=h.2 s p;unfold bm at a ⊢;rw[hm]at a ⊢;simp only[u9]at a ⊢;by_cases he:s=t
 .subst he;rw[e]at hm;have j:n=m:=by have:=Z0 hm;omega
  subst j;rw[if_pos rfl,u4,c9 (by rw[h.1];exact w)];rfl
 .rw[if_neg he,u4,Y5 (λj=>he ?_),<-u4,a];subst j;rw[<-AT I hm,<-AT I e]
def L5(w:x4)(ah:Λ)(k o:Int)(D:Told)(v:x3)(w':x4):Prop:=Ext w w'/\(4096<aN ah->v= .tuple #[.pointer ν,Δ 5])/\
 (aN ah<=4096->∃g a sv cs,v= .tuple #[Γ g,Δ 0]/\w.heap.size<=g/\(w.heap.size<=a/\∀r,leads sv r->w.heap.size<=r)/\df w' g a sv ah k cs/\ir ah (im D o) cs)
theorem Cp{g m:Nat}{o:Int}{D:Told}(h:eO w g m ah k o D)(ab:D.length<65536):ai x8 Hh [Γ g] w (L5 w ah k o D):=by
 obtain⟨⟨sv,gs,ac,hm⟩,a2,I,ad,af⟩:=id h;have R:=h.nodup;refine ay func125 ?_;rw[da eZ.u];simp only[Z6,aY];intro J a _ _;have K:=ac.ext a;rw[aQ fD.p 0 K rfl,aQ fD.p 1 K rfl,aQ fD.p 2 K rfl];refine(vb (hm.ls.ext a)).mono ?_;rintro _ U _ ⟨z,_,ag,_,al⟩;by_cases C:aN ah<=4096
 rotate_left
 .have:=ag I Ω;subst this;rw[bz,bA];simp only[bK,aj];exact⟨λ_=>⟨a.trans z,λ_=>rfl,λh=>absurd h C⟩,λh=>by simp at h⟩
 obtain⟨gt,f,aO,rfl,a6,a7,am,S⟩:=al I C ad;rw[bz,bA];simp only[bK,aj];refine⟨λh=>absurd rfl h,λ_=>?_⟩;have s1:=a.size;have a8:=z.size;refine(L2 ((h.ext a).ext z) ab).mono ?_;rintro c8 an _ ⟨M,L,E,V⟩;have ba:=M.size;have bb:f<U.heap.size:=by
  obtain⟨⟨aZ,bc,_,_,ao⟩,⟨_,_,bd⟩,ap,aq⟩:=id S;have be:=l0 ap.2;obtain⟨_,⟨_,au⟩|⟨cap,cs,_,av,_⟩⟩:=ao
  .rw[aq]at au;omega
  .exact av.lt
 have bf:=E.1.length_eq;rw[fG oM.u V];refine b1.range L.length (λi q=>ae (λr=>r=f) an q/\∃cs,df q gt f aO ah k cs/\ir ah (im (L.take i) o) cs) Ω ⟨ae.refl _ _,_,S.ext M,by rw[List.take_zero];exact L4 I.2 o⟩ ?_ ?_
 .rintro i q aw hi ⟨G,cs,N,H⟩ ax;simp only[aR,aj];refine⟨λ_=>?_,λh=>Ω⟩;obtain⟨⟨t,c⟩,y⟩:∃p,L[i]?=σ p:=⟨_,x7 hi⟩;have az:(t,c)∈D:=E.1.mem_iff.1 (x6 y);obtain⟨aA,aB,aC⟩:=af _ az;have aD:=ak.aa V G λr W aE he=>by
   have he:r=f:=he;rcases aE with h|h
   .have h:U.heap.size<=r:=h;omega
   .exact h
  refine lX (α:=Λ×Int) gn.p rfl oM.u gn.i aD y λus aF=>?_;obtain⟨bg,aH,A,B,rfl,bh,bi,_,h1,aI⟩:=aF;have aJ:aH=[Δ c]:=aI;subst aJ;obtain⟨aK,rfl,_⟩:=id h1;have hu:=dD h1;refine bw gn.i λbj bk bl aL X=>?_;refine bT (vs:=[aK,Δ c]) gn.i rfl rfl (by intro v Y;simp at Y;rcases Y with rfl|rfl;exact hu.cells.2;rfl) X λaP aS bm Z=>?_;have bn:=X.lt;have O:Ext q aP:=aL.put aS Ω;rw[aG gn.p 0 Z rfl,aG gn.p 1 Z rfl];refine(Js (N.ext O) (hu.ext O)).mono ?_;rintro _ bo _ ⟨rfl,aT,aU⟩;simp only[aM];refine ax _ ⟨(G.trans (O.aa _)).trans aT,_,aU,(H.put I.2 aA aB).congr λs bp=>?_⟩;rw[r8,y];have P:(L.map (·.1)).Nodup:=(E.1.map (·.1)).nodup_iff.2 R;have aV:∀p∈L.take i,p.1≠t:=λp C he=>by
   obtain⟨j,Q⟩:=X6.1 C;have aW:j<i:=by have:=(x5.1 Q).1;rw[n9]at this;omega
   rw[Y0 aW]at Q;have:=kq P (i:=j) (j:=i) (x:=t) (by rw[v8,Q,Z7,he]) (by rw[v8,y];rfl);omega
  have aX:((L.take i).map (·.1)).Nodup:=by rw[List.map_take];exact(List.take_sublist _ _).nodup P
  have a1:((L.take i++[(t,c)]).map (·.1)).Nodup:=by
   have e:L.take i++[(t,c)]=L.take (i+1):=by rw[r8,y];rfl
   rw[e,List.map_take];exact(List.take_sublist _ _).nodup P
  exact((By aV aC).cost aX a1 s).symm
 .rintro q aw ⟨G,cs,N,H⟩;simp only[aR,aj];refine⟨λh=>Ω,λ_=>?_⟩;rw[o6]at H;exact⟨((a.trans z).trans M).put G Ω,λh=>Ω,λ_=>⟨gt,f,aO,cs,rfl,Ω,⟨Ω,λr W=>by have:=am r W;omega⟩,N,H.congr λs _=>L3 R E.1 s⟩⟩
theorem L6{s cs:Λ}(I:dP s)(a:cs.length=(aN s).toNat){i:Nat}(h:(bj s)[i]?=σ t):cs[i]?=σ (bm s cs t):=by
 have hi:=(x5.1 h).1;rw[jj I,<-a]at hi;unfold bm;rw[jl I h];simp only[u9,u4,x7 hi,V2]
theorem sS{k:o9}{g:Nat}(h:aq k e w g v l)(f:0<l.length):g<w.heap.size:=by
 obtain⟨_,⟨_,h1⟩|⟨_,_,_,a,_⟩⟩:=h
 .omega
 .exact a.lt
def fK(w:x4)(g m:Nat)(sv:x3)(gs:Nat)(ah:Λ)(k o:Int)(D:Told):Prop:=
 ad w g fD [sv,Δ k,Δ o,.map (σ m)]/\aq .i64 ag w gs sv ah/\c7 w m (D.map jN)/\cd ah/\cz o k/\∀p∈D,dp ah p.1/\cz p.2 k/\p.2≠o
theorem fK.is{g m:Nat}{o:Int}{D:Told}(h:fK w g m sv gs ah k o D):eO w g m ah k o D:=⟨⟨sv,gs,h.1,h.2.1⟩,h.2.2⟩
theorem eO.at{g m:Nat}{o:Int}{D:Told}(h:eO w g m ah k o D):∃sv gs,fK w g m sv gs ah k o D:=by
 obtain⟨⟨sv,gs,h1,a⟩,e⟩:=h;exact⟨sv,gs,h1,a,e⟩
theorem fK.ext{g m:Nat}{o:Int}{D:Told}(h:fK w g m sv gs ah k o D)(a:Ext w w'):fK w' g m sv gs ah k o D:=by
 obtain⟨h1,e,f,j⟩:=h;exact⟨h1.ext a,e.ext a,f.ext a,j⟩
theorem fK.aa{g m:Nat}{o:Int}{D:Told}(h:fK w g m sv gs ah k o D)(a:ae S w w')(e:¬S g)(hm:¬S m)(I:∀r,leads sv r->¬S r):fK w' g m sv gs ah k o D:=by
 obtain⟨h1,f,j,p⟩:=h;exact⟨h1.aa a e,br f a I,j.aa a hm,p⟩
theorem sT{g m:Nat}{d:List (x3×x3)}(h:ad w g e cs)(hm:c7 w m d):g≠m:=by
 rintro rfl;obtain⟨a,c,h1,_⟩:=hm;unfold ad at h;rw[h1]at h;cases h
theorem Cq{g m:Nat}{k:o9}{d:List (x3×x3)}(h:aq k e w g v l)(hm:c7 w m d)(f:leads v r):r≠m:=by
 obtain⟨rfl,_⟩:=bR h f;obtain⟨_,⟨rfl,_⟩|⟨_,_,_,j,_⟩⟩:=h
 .obtain⟨a,n,c,h,_⟩:=f;cases h
 .exact sT j hm
theorem fK.put{g m:Nat}{o:Int}{D D':Told}(h:fK w g m sv gs ah k o D)(a:ae (λr=>r=m) w w')(h':eO w' g m ah k o D'):fK w' g m sv gs ah k o D':=
 ⟨h.1.aa a (λhe=>sT h.1 h.2.2.1 he),br h.2.1 a (λr e he=>Cq h.2.1 h.2.2.1 e he),h'.2⟩
theorem fK.ql{g m:Nat}{o:Int}{D:Told}(h:fK w g m sv gs ah k o D):g<w.heap.size/\m<w.heap.size/\∀r,leads sv r->r<w.heap.size:=
 ⟨h.1.lt,h.2.2.1.lt,λr a=>by obtain⟨rfl,e⟩:=bR h.2.1 a;exact e⟩
instance (s t:Λ):Decidable (dp s t):=decidable_of_iff ((ck s t 0).isSome=true) ⟨λh=>by
 cases a:ck s t 0 with
 |none=>rw[a]at h;cases h
 |some n=>exact⟨n,a⟩,λ⟨n,h⟩=>by rw[h];rfl⟩
theorem sU(h:aH .i64 w sv l)(G:l.length<=1000000):ai x8 y8 [sv] w λv w'=>Ext w w'/\∃g,w.heap.size<=g/\aq .i64 ag w' g v l:=by
 refine ay func116 ?_;rw[aV au.u h];refine jG (k:=.i64) an.u ag.i Ω Ω λg J H j p=>?_;have y:aq .i64 ag J g (.slice (σ ⟨g,0,ν⟩) l.length l.length) (o4 l.length 0):=by
  have:=bW.full (k:=1) (n:=l.length) p Ξ (by simp[maxLen];omega);exact aq.of this
 rw[aV au.u (h.ext j)];have I:=p.lt;refine b1.range l.length (λi U=>ae (λr=>r=g) J U/\aq .i64 ag U g (.slice (σ ⟨g,0,ν⟩) l.length l.length) (l.take i++o4 (l.length-i) 0)) h.le ⟨ae.refl _ _,by simpa using y⟩ ?_ ?_
 rotate_left
 .rintro U z ⟨f,a⟩;rw[aR,aj];rw[o6,U4,List.replicate_zero,U9]at a;exact⟨λh=>Ω,λ_=>⟨j.put f Ω,g,Ω,a⟩⟩
 rintro i U z hi ⟨f,a⟩ A;obtain⟨x,q⟩:=aD (l:=l) hi;have B:Ext w U:=j.put f Ω;refine bD Ω ?_;rw[bc au.u ao.i Ψ (h.ext B) q];rw[hV rfl an.u ag.i a Θ];refine hW ag.i a Θ λK C L s=>?_;rw[aM];refine A _ ⟨f.trans C,?_⟩;have e:(l.take i++o4 (l.length-i) 0).set i x=l.take (i+1)++o4 (l.length-(i+1)) 0:=by
  have E:(l.take i).length=i:=by rw[n9];omega
  rw[T8 _ _ Ω,E,U4,show l.length-i=(l.length-(i+1))+1 by omega,List.replicate_succ,List.set_cons_zero,r8,q,l7,T3];rfl
 rw[e]at s;exact s
def L7(w:x4)(l:Λ)(k o:Int)(v:x3)(w':x4):Prop:=
 Ext w w'/\(¬cd l->v= .tuple #[.pointer ν,Δ 1])/\(cd l->¬cz o k->v= .tuple #[.pointer ν,Δ 3])/\
  (cd l->cz o k->∃g m sv gs,v= .tuple #[Γ g,Δ 0]/\w.heap.size<=g/\w.heap.size<=m/\(∀r,leads sv r->w.heap.size<=r)/\fK w' g m sv gs l k o [])
theorem L8{o:Int}(h:aH .i64 w sv l):ai x8 oI [sv,Δ k,Δ o] w (L7 w l k o):=by
 refine ay func171 ?_;refine aW (λv J=>Ext w J/\∃c,v= .bool c/\(c=true↔¬cd l)) ?_ ?_
 .rintro _ J ⟨e,c,rfl,f⟩;rw[cj];refine⟨λx=>⟨e,λ_=>rfl,λh=>absurd h (f.1 x),λh=>absurd h (f.1 x)⟩,λA=>?_⟩;have I:cd l:=Classical.byContradiction λh=>by have:=f.2 h;rw[A]at this;cases this
  have K:=I.1;refine jI.mono ?_;rintro _ U _ ⟨rfl,a⟩;by_cases hi:cz o k
  rotate_left
  .simp only[hi,decide_false,bJ,X9,bQ];exact⟨e.trans a,λh=>absurd I h,λ_ _=>rfl,λ_ h=>absurd h hi⟩
  simp only[hi,decide_true,bJ,Y9,aY];refine(jJ ((h.ext e).ext a) Ω).mono ?_;rintro aO L _ ⟨y,B,M,hm⟩;have N:=hm.ls.cells;refine sB λm O P j C=>?_;rw[dn (cs:=#[aO,Δ k,Δ o,.map (σ m)]) (by obtain⟨_,_,_,_,_,rfl,_⟩:=hm.ls;kernel_rfl)];refine bk λg Q R q E=>?_;have s1:=e.size;have S:=a.size;have V:=y.size;have W:=j.size;exact⟨((((e.trans a).trans y).trans j).trans q),λh=>absurd I h,λ_ h=>absurd hi h,λ_ _=>⟨g,m,aO,B,rfl,Ω,Ω,λr G=>by have:=(bR hm G).1;omega,E,(hm.ext j).ext q,C.ext q,I,hi,λp H=>by cases H⟩⟩
 .intro aw z;rw[aV an.u h];simp only[bS,aj];refine⟨λX=>z _ _ ⟨Ext.refl _,true,rfl,λ_ I=>by have:=I.1;omega,λ_=>rfl⟩,λY=>?_⟩;refine(Bt h).mono ?_;rintro _ U _ ⟨rfl,a⟩;refine z _ _ ⟨a,_,rfl,?_⟩;rw[decide_eq_true_eq];exact⟨λs I=>s I.2,λs I=>s ⟨Ω,I⟩⟩
structure Cr where
 ah:Λ
 k:Int
 o:Int
 D:Told
instance RK:ak Cr where
 n:=1
 rep _ _ R w cs a:=∃g m sv gs,cs=[Γ g]/\fK w g m sv gs a.ah a.k a.o a.D/\R g/\R m/\∀r,leads sv r->R r
 len:=by rintro _ _ _ _ _ _ ⟨_,_,_,_,rfl,_⟩;rfl
 one:=by rintro _ _ _ _ _ _ ⟨_,_,_,_,rfl,_⟩ u hu;simp at hu;subst hu;rfl
 aa:=by
  rintro _ _ R T w w' _ a ⟨g,m,sv,gs,rfl,h1,f,h,j⟩ z p;obtain⟨q,s,x⟩:=h1.ql;exact⟨g,m,sv,gs,rfl,h1.aa z (p g q (.inr f)) (p m s (.inr h)) λr e=>p r (x r e) (.inr (j r e)),f,h,j⟩
 mono:=by
  rintro _ _ _ R R' w _ a ⟨g,m,sv,gs,rfl,h1,f,h,j⟩ _ y;obtain⟨q,s,x⟩:=h1.ql;exact⟨g,m,sv,gs,rfl,h1,y g q f,y m s h,λr e=>y r (x r e) (j r e)⟩
 hK:=by
  rintro _ _ R w _ a ⟨g,m,sv,gs,rfl,h1,f,h,j⟩;exact⟨g,m,sv,gs,rfl,h1,.inr f,.inr h,λr e=>.inr (j r e)⟩
abbrev ha:Type:=Rd (Λ)×Cr
def qE(k:Int)(x:cw)(f:ha):Prop:=f.1=x.scope/\f.2.ah=x.sizes/\f.2.k=k/\f.2.o=min x.other k/\f.2.D.length<=x.lines.length/\∀t,im f.2.D f.2.o t=jM x k t
theorem L9{m:Bool}{S R:af}{x:cw}(h:ak.rep m S R w cs (gZ x)):∃aL szv cb,cs=[aL,szv,Δ x.other,cb]/\ak.rep (α:=Λ) false bx R w [aL] x.scope/\ak.rep (α:=Λ) false bx R w [szv] x.sizes/\ak.rep (α:=List (Λ×Int)) false bx R w [cb] x.lines:=by
 obtain⟨j,d1,r,s,rfl,_,_,_,h1,p,d2,z,A,rfl,_,_,_,a,q,d3,B,C,rfl,_,_,_,f,e⟩:=h;have h1:ak.rep (α:=Λ) false bx R w j x.scope:=h1;have a:ak.rep (α:=Λ) false bx R w p x.sizes:=a;have f:q=[Δ x.other]:=f;have e:ak.rep (α:=List (Λ×Int)) false bx R w d3 x.lines:=e;obtain⟨u,rfl⟩:=V0.1 (show j.length=1 from ak.len h1);obtain⟨v,rfl⟩:=V0.1 (show p.length=1 from ak.len a);obtain⟨y,rfl⟩:=V0.1 (show d3.length=1 from ak.len e);subst f;exact⟨u,v,y,rfl,h1,a,e⟩
theorem Ma{m:Bool}{S R:af}{p:Λ×Int}(h:ak.rep m S R w cs p):∃aO,cs=[aO,Δ p.2]/\aH .i64 w aO p.1:=by
 obtain⟨e,d1,f,j,rfl,_,_,_,h1,a⟩:=h;obtain⟨u,rfl⟩:=V0.1 (show e.length=1 from ak.len h1);have a:d1=[Δ p.2]:=a;subst a;exact⟨u,rfl,dD h1⟩
structure sV(k:Int)(x:cw):Prop where
 k:right k
 sizes:cd x.sizes
 other:0<=x.other
 lines:mF x.sizes x.lines
 len:x.lines.length<=60000
 scope:x.scope.length<=100001
theorem cY{k:o9}(h:aH k w v l):∃a n c,v= .slice a n c:=by
 obtain⟨_,b,o,base,cap,rfl,_⟩:=h;exact⟨_,_,_,rfl⟩
theorem Mb{am:Nat}{aN aP aR:x3}{K:Int}{R:af}{x:cw}(an:ad w am cC [aN,Δ K,aP,aR])(aS:Seen R w cs (gZ x))(aT:sV K x):
  ai x8 uN [Γ am,.agg cs.toArray] w λv w'=>Ext w w'/\∃bu,∃f:ha,v= .agg bu.toArray/\bu.length=2/\Seen (eo w.heap.size) w' bu f/\qE K x f:=by
 obtain⟨aL,szv,cb,rfl,h1,ao,Q⟩:=L9 aS;obtain⟨H,S,bo,ap,bp,bq⟩:=aT;have bt:x.sizes.length<=6:=S.1;refine ay func117 ?_;refine bk λal J bB au q=>?_;have q:ad J al b6 [aL,szv,Δ x.other,cb]:=by
  obtain⟨_,_,_,rfl⟩:=l4 h1;obtain⟨_,_,_,rfl⟩:=l4 ao;obtain⟨_,_,_,rfl⟩:=l4 Q;exact q
 refine bw cD.i λy U bC V I=>?_;have I:ad U y cD [.slice ν 0 0,.pointer ν]:=I;intro bE L _ _;have W:=(au.trans V).trans L;have X:=V.trans L;have bF:=au.size;have bG:=V.size;have z3:=L.size;have bH:=I.lt;have av:=an.ext W;rw[aG b6.p 1 (q.ext X) rfl,aQ cC.p 1 av rfl,
  aG b6.p 2 (q.ext X) rfl,aQ cC.p 1 av rfl,kU]
 refine(sU ((dD ao).ext W) Ω).mono ?_;rintro bI bJ _ ⟨z,bK,bL,aU⟩;refine⟨.inl z,?_⟩;have z4:=z.size;have aV:cz (min x.other K) K:=⟨H,by have:=H.1;omega,Ω⟩;refine(L8 aU.ls).mono ?_;rintro _ aW _ ⟨M,_,_,aX⟩;obtain⟨ac,m,sv,gs,rfl,bM,bN,aw,aY⟩:=aX S aV;rw[bz,bA];have z5:=M.size;have Y:=(W.trans z).trans M;have ax:=(X.trans z).trans M;rw[aG b6.p 3 (q.ext ax) rfl];have az:=bi Q Y;rw[fG iD.u az];refine b1.range x.lines.length (λi a=>ae (λr=>r=m) aW a/\∃D,D.length<=i/\fK a ac m sv gs x.sizes K (min x.other K) D/\∀t,im D (min x.other K) t=ld x K i t) (lW az) ⟨ae.refl _ _,[],o5 _,aY,λt=>by rw[Cg];rfl⟩ ?_ ?_
 .rintro i a aZ hi ⟨e,D,aA,A,Z⟩ a1;obtain⟨p,ab⟩:=aD (l:=x.lines) hi;have aB:=ap.2 p (x6 ab);have B:Ext w a:=Y.put e Ω;have a2:=e.size;have a6:ak.rep (α:=List (Λ×Int)) false bx R a [cb] x.lines:=bi Q B;refine bD Ω ?_;refine lX ej.p rfl iD.u ej.i a6 ab λbO a7=>?_;obtain⟨aO,rfl,aC⟩:=Ma a7;refine bw ej.i λbP bQ bS aE a8=>?_;have bU:=aE.size;refine bT (vs:=[aO,Δ p.2]) ej.i rfl rfl (by intro v C;simp at C;rcases C with rfl|rfl<;>first|exact aC.cells.2|rfl) a8 λba bb bV aF=>?_;have bc:Ext a ba:=aE.put bb Ω;intro bW ah _ _;have s:=bc.trans ah;have z9:=s.size;rw[aG ej.p 0 (aF.ext ah) rfl,aG ej.p 1 (aF.ext ah) rfl,aQ cC.p 1 ((an.ext B).ext s) rfl,kU];have bX:=vE S aB.1;refine(sU (aC.ext s) Ω).mono ?_;rintro bY bZ _ ⟨E,b0,b2,bd⟩;refine⟨.inl E,?_⟩;have b3:=E.size;refine(BB (c:=min p.2 K) ((A.ext s).ext E).is bd.ls).mono ?_;rintro _ b4 _ ⟨_,be⟩;have bf:cz (min p.2 K) K:=⟨H,by have:=H.1;omega,Ω⟩;obtain⟨rfl,aH,D',aI,aJ⟩:=be ⟨aB.1,bf⟩;rw[aM];refine a1 _ ⟨(e.trans ((s.trans E).aa _)).trans aH,D',by have:=aI.2;omega,fK.put ((A.ext s).ext E) aH aJ,λt=>?_⟩;rw[Ci ap.1 ab,aI.cost A.is.nodup aJ.nodup];by_cases N:t=p.1
  .rw[if_pos N,if_pos N]
  .rw[if_neg N,if_neg N,Z]
 .rintro a aZ ⟨e,D,aA,A,Z⟩;have B:Ext w a:=Y.put e Ω;have bg:Ext J a:=ax.put e Ω;have a2:=e.size;refine b7 Ω ?_;rw[aG b6.p 0 (q.ext bg) rfl];refine(sU ((dD h1).ext B) Ω).mono ?_;rintro O b5 _ ⟨P,bh,b8,G⟩;have z12:=P.size;rw[dn (cs:=#[O,Γ ac]) (by obtain⟨_,_,_,rfl⟩:=cY G.ls;kernel_rfl)];have bj:Ext U a:=((L.trans z).trans M).put e Ω;refine bT (vs:=[O,Γ ac]) cD.i rfl rfl (by intro v C;simp at C;rcases C with rfl|rfl<;>first|exact G.ls.cells.2|rfl) ((I.ext bj).ext P) λaK aj b9 bl=>?_;rw[e6 cD.p cD.i rfl bl.range];have bm:fK aK ac m sv gs x.sizes K (min x.other K) D:=(A.ext P).aa aj (λhe=>by have he:ac=y:=he;omega) (λhe=>by have he:m=y:=he;omega) (λr j he=>by have he:r=y:=he;have:=aw r j;omega);have bn:aq .i64 ag aK bh O x.scope:=br G aj λr j he=>by have he:r=y:=he;have:=(bR G j).1;omega
  refine⟨(B.trans P).put aj Ω,_,(x.scope,⟨x.sizes,K,min x.other K,D⟩),rfl,rfl,?_,rfl,rfl,rfl,rfl,aA,λt=>?_⟩
  .exact⟨[O],[Γ ac],bx,bx,rfl,λ_ h=>h,λ_ h=>h,λ_ _ h _=>h,qA bn λr j=>by have:=(bR G j).1;show w.heap.size<=r;omega,
    ⟨ac,m,sv,gs,rfl,bm,by show w.heap.size<=ac;omega,by show w.heap.size<=m;omega,λr j=>by have:=aw r j;show w.heap.size<=r;omega⟩⟩
  .rw[Z,Ch]
theorem Mc{S R:af}{f:ha}(h:ak.rep false S R w cs f):ak.rep (α:=ha) true bx R w cs f:=by
 obtain⟨c,d,A,B,rfl,h1,j,_,a,e⟩:=h;exact⟨c,d,bx,bx,rfl,λ_ h=>h,λ_ h=>h,λ_ _ h _=>h,a,e⟩
def sW(k:Int)(a:List cw)(e:List ha):Prop:=e.length=a.length/\∀(i:Nat)x f,a[i]?=σ x->e[i]?=σ f->qE k x f
theorem Md{e:Nat}{m:Bool}{S R:af}{W an:x3}{K:Int}{q:List cw}{aE:x4->Prop}(aF:ad w e cC [W,Δ K,szv,.slice ν 0 0])(aW:ak.rep m S R w [an] (show List hB from q.map gZ))(aX:∀r,S r\/R r->r≠e)(aY:∀x∈q,sV K x)(bR:q.length<=256)(aZ:∀w' z,∀s:List ha,ae (λr=>r=e) w w'->ad w' e cC [W,Δ K,szv,z]->Seen (λr=>w.heap.size<=r) w' [z] s->sW K q s->aE w'):
  b1 (Δ 0) w λao E a1=>
   V x8 (aJ .lss ag false false ao (Δ (q.length:Int))) E λa2=>
   Split a2 (V x8 (j5 jd an ao) E λa6=>
   V x8 (u5 b6 a6) E λa7=>
   aC x8 (Instr.alloc b6 true (.tuple #[])) E λx a8=>
   aC x8 (o8 b6 x a7) a8 λ(_:Unit)ba=>
   eg ba λC=>
   V x8 (bP (Γ e)) C λG=>
   V x8 (u6 cC G 3) C λH=>
   V x8 (u5 dN H) C λap=>
   V x8 (u5 b6 x) C λbb=>
   ai x8 uN [(Γ e),bb] C λbc I=>
    (Ext C I\/bZ x8 (u5 dN H) ap I/\bZ x8 (u6 cC G 3) H I/\bZ x8 (bP (Γ e)) G I/\True)/\
   aC x8 (Y8 dN 1 #[(0,bc)]) I λbd L=>
    (Ext C L\/bZ x8 (u5 dN H) ap L/\bZ x8 (u6 cC G 3) H L/\bZ x8 (bP (Γ e)) G L/\True)/\
    aC x8 (Z3 #[dN,dN] dN #[ap,bd]) L λbe aq=>
     V x8 (bP (Γ e)) aq λbf=>
     V x8 (u6 cC bf 3) aq λbg=>
     aC x8 (o8 dN bg be) aq λ(_:Unit)aG=>
     V x8 (aJ .add ag false true ao (Δ 1)) aG λbh=>
   a1 bh aG) (aE E):=by
 have bS:=aF.lt;have bU:(q.map gZ).length=q.length:=Ξ
 refine b1.range q.length (λi J=>ae (λr=>r=e) w J/\∃z,∃s:List ha,∃A R':af,ad J e cC [W,Δ K,szv,z]/\bl A R' J [z] s/\(∀r,A r->w.heap.size<=r/\r<J.heap.size)/\(∀r,R' r->w.heap.size<=r/\¬A r/\r<J.heap.size)/\sW K (q.take i) s) Ω
  ⟨ae.refl _ _,_,[],bx,bx,aF,fV,λ_ h=>h.elim,λ_ h=>h.elim,rfl,λi x f h=>by simp at h⟩ ?_ ?_
 rotate_left
 .rintro J bj ⟨M,z,s,A,R',N,au,B,O,X⟩;rw[o6]at X;rw[aR,aj];refine⟨λh=>Ω,λ_=>aZ J z s M N (nA au λr _ h=>?_) X⟩;exact h.elim (λh=>(B r h).1) λh=>(O r h).1
 rintro i J bj hi ⟨M,z,s,A,R',N,au,B,O,aH,X⟩ bk;obtain⟨x,av⟩:=aD (l:=q) hi;have bm:=aY x (x6 av);have bW:=M.size;rw[n9]at aH;have bn:ak.rep m S R J [an] (show List hB from q.map gZ):=ak.aa aW M λr _ h he=>aX r h he;refine bD Ω ?_;refine lX (α:=hB) (a:=gZ x) b6.p rfl jd.u b6.i bn (by show(q.map gZ)[i]?=_;rw[v8,av];rfl) λcs aw=>?_;have aI:cs.length=4:=ak.len aw;have bo:Seen (λr=>S r\/R r) J cs (gZ x):=nA aw λr _ h=>h;refine bw b6.i λal U bY aK bp=>?_;have b0:=aK.size;refine bT (vs:=cs) b6.i aI rfl (ak.one aw) bp λbr bt b2 bz=>?_;have bA:Ext J br:=aK.put bt Ω;intro Y aL _ _;have P:=bA.trans aL;have z4:=P.size;rw[aQ cC.p 3 (N.ext P) rfl,bF b6.p b6.i aI (bz.ext aL).range];refine(Mb (N.ext P) (bi bo P) bm).mono ?_;rintro _ Z _ ⟨ab,bu,f,rfl,b3,aN,bB⟩;have z5:=ab.size;refine⟨.inl ab,?_⟩;have aO:=Mc aN;have bC:=P.trans ab;refine ig (α:=ha) (a:=f) (cs:=bu) (A:=bx) (R:=eo Y.heap.size) dN.u cD.i Φ (by
  obtain⟨c,d,b4,b5,he,_,_,_,ac,bE⟩:=aN;have ac:ak.rep (α:=Λ) false bx _ Z c f.1:=ac;obtain⟨u,rfl⟩:=V0.1 (show c.length=1 from ak.len ac);obtain⟨b7,bV,b8,b9,rfl,_⟩:=bE;obtain⟨_,_,_,rfl⟩:=l4 ac;cases he;rfl) aO λu ax ah _ hu=>?_
 have ca:=ah.size;refine⟨.inl (ab.trans ah),?_⟩;have ay:=bC.trans ah;have bG:bl A (λr=>R' r\/(Y.heap.size<=r/\r<Z.heap.size)) ax [z] s:=bi (ak.mono au (λ_ _ h=>h) λ_ _ h=>.inl h) ay;have bH:bl bx (λr=>R' r\/(Y.heap.size<=r/\r<Z.heap.size)) ax bu f:=bi (ak.mono aO (λ_ _ h=>h) λr y h=>.inr ⟨h,y⟩) ah;refine my (α:=ha) (a:=f) (A:=bx) dN.u cD.i rfl bG hu bH (λr _ aP h=>?_) Ω Ω λaT bI az aA=>?_
 .rcases h with h|h|h
  .exact h
  .exact (O r h).2.1 aP
  .have:=(B r aP).2;omega
 have cb:=aA.size;rw[bX,aS cC.p rfl];have bJ:=(N.ext ay).aa aA (λhe=>by have:=(B _ he).1;omega);refine bq (g:=e) (o:=3) dN.i (kj az) (hT az) bJ Ξ λbK aU cc aB=>?_;have aB:ad bK e cC [W,Δ K,szv,aT]:=aB;rw[aM];have bL:=lV az;refine bk _ ⟨(hx (M.trans (ay.aa _)) aA λr y he=>by have:=(B _ he).1;omega).trans aU,aT,s++[f],λr=>((A r\/bx r\/ax.heap.size<=r)/\r<bI.heap.size),λr=>R' r\/(Y.heap.size<=r/\r<Z.heap.size),aB,ak.aa bL aU λr _ h he=>?_,λr y=>?_,λr y=>?_,?_,λj bM bN am Q=>?_⟩
 .have he:r=e:=he;rcases h with h|h|h
  .rcases h.1 with h1|h1|h1
   .have:=(B _ h1).1;omega
   .exact h1
   .omega
  .have:=(O r h).1;omega
  .omega
 .have cd:=y.2;rcases y.1 with h1|h1|h1
  .have:=(B _ h1).1;omega
  .exact h1.elim
  .omega
 .rcases y with y|y
  .have aV:=O r y;refine⟨aV.1,λh=>?_,Ω⟩;rcases h.1 with h1|h1|h1
   .exact aV.2.1 h1
   .exact h1
   .omega
  .refine⟨Ω,λh=>?_,Ω⟩;rcases h.1 with h1|h1|h1
   .have:=(B _ h1).2;omega
   .exact h1
   .omega
 .rw[o7,n9,aH];simp;omega
 .have bO:=(x5.1 Q).1;rw[o7,S3]at bO;rw[Y0 Ω]at am;by_cases bQ:j<s.length
  .rw[Y1 bQ]at Q;exact X j bM bN (by rw[Y0 Ω];exact am) Q
  .rw[Y3 Ω,show j-s.length=0 by omega]at Q;rw[show j=i by omega,av]at am;cases Q;cases am;exact bB
def lf(w:x4)(h:Nat)(f:ca):Prop:=∃szv a gz,∃e:List ha,ad w h cC [bU f.name,Δ f.k,szv,a]/\aq .i64 ag w gz szv f.sizes/\Seen eN w [a] e/\sW f.k f.funs e
theorem lf.ext{e:Nat}{f:ca}(h:lf w e f)(a:Ext w w'):lf w' e f:=by
 obtain⟨szv,j,gz,p,h1,q,r,s⟩:=h;exact⟨szv,j,gz,p,h1.ext a,q.ext a,bi r a,s⟩
def Cs(w:x4)(res:Option ca)(v:x3)(w':x4):Prop:=Ext w w'/\match res with
 |none=>∃n e:Int,v= .tuple #[.pointer ν,Δ n,Δ e]/\e≠0
 |some f=>∃a,∃n:Int,v= .tuple #[Γ a,Δ n,Δ 0]/\lf w' a f
structure Me(clean:Bool)(so:Option aE)(name:Λ)(k:Int)(sizes:Λ)(acc:List hB)(res:Option ca):Prop where
 pf:∀s,so=σ s->s.toks=[]->clean=true->s.big=false->∃fs,acc=fs.map gZ/\res=σ ⟨name,k,sizes,fs⟩/\(∀x∈fs,sV k x)/\fs.length<=256/\sizes.length<=1000000
 bad:res≠ν->∃s,so=σ s/\s.toks=[]/\clean=true/\s.big=false
theorem Mf{w0:x4}{g:Nat}{A B S R:af}{m:Bool}{so:Option aE}{name:Λ}{acc:List hB}{res:Option ca}{aq p:x3}{pl:Λ}{Q:x3->x4->Prop}(aB:gY w g gs A B clean so)(N:Me clean so name k sizes acc res)(bn:aH .i64 w szv sizes)(bo:∀r,leads szv r->r≠g/\r≠gs)(bp:ak.rep m S R w [aq] acc)(a2:∀r,S r\/R r->r≠g/\r≠gs/\r<w.heap.size)(cX:so=ν->True)(cZ:g<w.heap.size)(c0:gs<w.heap.size)(bq:ae (λr=>w0.heap.size<=r) w0 w)(c1:w0.heap.size<=g)(c2:w0.heap.size<=gs)(br:aH .u8 w0 p pl)(Z:∀v w',Cs w0 res v w'->Q v w'):
  cv (α:=x4->Prop) (λ(j:x4)=>
  V x8 (bP (Γ g)) j λbt=>
  V x8 (u6 ci bt 1) j λbu=>
  V x8 (u6 e5 bu 0) j λbw=>
  V x8 (u5 jA bw) j λbx=>
  V x8 (aJ .neq jA false true bx (Δ 0)) j λbz=>
  Split bz (eg j λG=>
   V x8 (bP (Γ g)) G λbA=>
   V x8 (u6 ci bA 1) G λbB=>
   V x8 (u6 e5 bB 2) G λbC=>
   V x8 (u5 ag bC) G λbD=>
   V x8 (bP (Γ g)) G λbE=>
   V x8 (u6 ci bE 1) G λbF=>
   V x8 (u6 e5 bF 0) G λbG=>
   V x8 (u5 jA bG) G λbH=>
   Q (.tuple #[(.pointer ν),bD,bH]) G)
   (V x8 (bP (Γ g)) j λbI=>
   V x8 (u6 ci bI 1) j λbJ=>
   V x8 (u6 e5 bJ 1) j λbL=>
   V x8 (u5 jA bL) j λbM=>
   V x8 (aJ .neq jA false true bM (Δ 0)) j λbN=>
   Split bN (eg j λH=>
   V x8 (bP (Γ g)) H λbO=>
   V x8 (u6 ci bO 1) H λbR=>
   V x8 (u6 e5 bR 3) H λbS=>
   V x8 (u5 ag bS) H λbT=>
   V x8 (bP (Γ g)) H λbV=>
   V x8 (u6 ci bV 1) H λbW=>
   V x8 (u6 e5 bW 1) H λbY=>
   V x8 (u5 jA bY) H λb0=>
   Q (.tuple #[(.pointer ν),bT,b0]) H)
   (ai x8 y8 [szv] j λb2 a6=>
  V x8 (Instr.build cC #[(0,bU name),(1,Δ k),(2,b2)]) a6 λb3=>
  aC x8 (Instr.box cC b3) a6 λO a7=>
  V x8 (W7 #[jd] ag #[aq]) a7 λb4=>
  b1 (Δ 0) a7 λaD P b5=>
   V x8 (aJ .lss ag false false aD b4) P λb7=>
   Split b7 (V x8 (j5 jd aq aD) P λb8=>
   V x8 (u5 b6 b8) P λb9=>
   aC x8 (Instr.alloc b6 true (.tuple #[])) P λx cb=>
   aC x8 (o8 b6 x b9) cb λ(_:Unit)cc=>
   eg cc λM=>
   V x8 (bP O) M λab=>
   V x8 (u6 cC ab 3) M λac=>
   V x8 (u5 dN ac) M λaG=>
   V x8 (u5 b6 x) M λcd=>
   ai x8 uN [O,cd] M λce ah=>
    (Ext M ah\/bZ x8 (u5 dN ac) aG ah/\bZ x8 (u6 cC ab 3) ac ah/\bZ x8 (bP O) ab ah/\True)/\
   aC x8 (Y8 dN 1 #[(0,ce)]) ah λcg al=>
    (Ext M al\/bZ x8 (u5 dN ac) aG al/\bZ x8 (u6 cC ab 3) ac al/\bZ x8 (bP O) ab al/\True)/\
    aC x8 (Z3 #[dN,dN] dN #[aG,cg]) al λch aI=>
     V x8 (bP O) aI λcj=>
     V x8 (u6 cC cj 3) aI λck=>
     aC x8 (o8 dN ck ch) aI λ(_:Unit)a8=>
     V x8 (aJ .add ag false true aD (Δ 1)) a8 λcl=>
   b5 cl a8)
    (V x8 (W7 #[cL] ag #[p]) P λcm=>
  Q (.tuple #[O,cm,(Δ 0)]) P)))) λau=>
 ai x8 kP [(Γ g)] w λcn am=>
 Split cn (V x8 (bP (Γ g)) am λcp=>
  V x8 (u6 ci cp 0) am λcq=>
  V x8 (u5 rY cq) am λcr=>
  ai x8 uM [cr] am λaK L=>
  V x8 (Y2 aK 0) L λc3=>
  V x8 (Y2 aK 1) L λba=>
  V x8 (Y2 aK 2) L λaL=>
  V x8 (aJ .eql jA false true aL (Δ 0)) L λct=>
  Split ct (ai x8 nn [(Γ g),(Δ 4),ba] L λc4 cu=>
  au cu)
  (V x8 (aJ .eql jA false true aL (Δ 11)) L λcw=>
  Split cw (ai x8 nn [(Γ g),aL,ba] L λc5 cz=>
   au cz)
   (au L)))
  (au am):=by
 refine dl (λj=>ae (λr=>r=g\/r=gs) w j/\∃(e big I K told:Int)(sv:x3),ad j g ci (fJ gs e big I K told sv)/\((e≠0/\res=ν)\/(e=0/\∃s,so=σ s/\s.toks=[]/\clean=true/\(s.big=true↔big≠0)))) ?_ ?_
 rotate_left
 .intro aw aM;refine(B2 aB).mono ?_;rintro _ J _ ⟨rfl,an⟩;cases so with
  |none=>
   rw[show(ν:Option aE).isSome=false from rfl,aY];obtain⟨e,big,I,K,told,sv,y,aN⟩:=aB.ext an;refine aM _ ⟨an.aa _,e,big,I,K,told,sv,y,.inl ⟨aN,?_⟩⟩;cases E:res with
   |none=>rfl
   |some f=>obtain⟨s,h,_⟩:=N.bad (by rw[E];simp);cases h
  |some s=>
   rw[show(σ s:Option aE).isSome=true from rfl,bQ];have cA:dk J g gs A B s clean:=aB.ext an;obtain⟨av,cB,cD,big,I,K,told,sv,y,aN,cE⟩:=id cA;rw[aQ ci.p 0 y rfl];refine(qj cB).mono ?_;rintro v U _ ⟨W,X⟩;have cF:(s.toks≠[]\/clean=false)->res=ν:=λq=>by
    cases E:res with
    |none=>rfl
    |some f=>
     obtain⟨s',h,ao,bc,_⟩:=N.bad (by rw[E];simp);cases h;rcases q with q|q
     .exact absurd ao q
     .rw[q]at bc;cases bc
   have ax:∀z,ae (λr=>r=g) U z->eF z g gs A B->(s.toks≠[]\/clean=false)->aw z:=λz ap ax q=>by
    obtain⟨_,e,big,I,K,told,sv,l,cG,cH,_⟩:=ax;exact aM _ ⟨((an.aa _).trans (W.mono λr _ h=>.inr h)).trans (ap.mono λr _ h=>.inl h),e,big,I,K,told,sv,cG,.inl ⟨cH.1,cF q⟩⟩
   have aO:=y.aa W av.1;have bd:=ak.aa cE W λr _ h ao=>by
    have ao:r=gs:=ao;subst ao;rcases h with h|h
    .exact av.2.2.1 h
    .exact h.1 (.inr (.inl rfl))
   have be:s.shared.length<=100000:=by have:=cD.2.2;omega
   cases Y:s.toks with
   |cons t l=>
    rw[Y]at X;obtain⟨c6,n,rfl⟩:=X;rw[gq,gu,gv,bb,aj];refine⟨λ_=>?_,λh=>absurd rfl h⟩;refine(su (av.aa W) aO bd Ω be).mono ?_;rintro _ z _ ⟨ap,aP⟩;exact ax z ap aP (.inl (by rw[Y];simp))
   |nil=>
    rw[Y]at X;obtain⟨n,rfl⟩:=X;rw[gq,gu,gv,bb,aj];refine⟨λh=>by cases clean<;>simp at h,λ_=>?_⟩;rw[bb,aj];cases ay:clean with
    |true=>
     subst ay;refine⟨λh=>by simp at h,λ_=>aM _ ⟨(an.aa _).trans (W.mono λr _ h=>.inr h),0,big,I,K,told,sv,aO,.inr ⟨rfl,s,rfl,Y,rfl,aN.1⟩⟩⟩
    |false=>
     subst ay;refine⟨λ_=>?_,λh=>absurd rfl h⟩;refine(su (av.aa W) aO bd Ξ be).mono ?_;rintro _ z _ ⟨ap,aP⟩;exact ax z ap aP (.inr rfl)
 .rintro J ⟨az,e,big,I,K,told,sv,y,cI⟩;have c7:=az.size;have aR:Ext w0 J:=(bq.ext λr E h=>Ω).then az (λr E h=>by rcases h with h|h<;>omega);rw[bX,aS ci.p rfl,aS e5.p rfl,aF Ψ (y.cell (o:=0+1+0) rfl),bK,aj];rcases cI with⟨he,aT⟩|⟨rfl,s,rfl,Y,ay,bf⟩
  .refine⟨λ_=>?_,λh=>absurd he h⟩;intro U C _ _;rw[bX,aS ci.p rfl,aS e5.p rfl,aF Ψ ((y.ext C).cell (o:=0+1+2) rfl),bX,aS ci.p rfl,aS e5.p rfl,aF Ψ ((y.ext C).cell (o:=0+1+0) rfl)];rw[aT]at Z;exact Z _ _ ⟨aR.trans C,I,e,rfl,he⟩
  .refine⟨λh=>absurd rfl h,λ_=>?_⟩;rw[bX,aS ci.p rfl,aS e5.p rfl,aF Ψ (y.cell (o:=0+1+1) rfl),bK,aj];refine⟨λq=>?_,λq=>?_⟩
   .have aT:res=ν:=by
     cases E:res with
     |none=>rfl
     |some f=>
      obtain⟨s',h,_,_,bg⟩:=N.bad (by rw[E];simp);cases h;rw[bf.2 q]at bg;cases bg
    intro U C _ _;rw[bX,aS ci.p rfl,aS e5.p rfl,aF Ψ ((y.ext C).cell (o:=0+1+3) rfl),bX,aS ci.p rfl,aS e5.p rfl,aF Ψ ((y.ext C).cell (o:=0+1+1) rfl)];rw[aT]at Z;exact Z _ _ ⟨aR.trans C,K,big,rfl,q⟩
   .have cJ:s.big=false:=by
     cases cK:s.big with
     |false=>rfl
     |true=>exact absurd (bf.1 cK) q
    obtain⟨aU,rfl,rfl,cM,cN,cO⟩:=N.pf s rfl Y ay cJ;have cP:aH .i64 J szv sizes:=hX bn az λr E a n c X N=>by
     have:=bo r ⟨a,n,c,X,N⟩;exact E.elim this.1 this.2
    refine(sU cP cO).mono ?_;rintro aW U _ ⟨C,gz,c8,aX⟩;have c9:=C.size;rw[dn (cs:=#[bU name,Δ k,aW,.slice ν 0 0]) (by obtain⟨_,_,_,rfl⟩:=cY aX.ls;kernel_rfl)];refine bk λaZ z da a1 aA=>?_;have aA:ad z aZ cC [bU name,Δ k,aW,.slice ν 0 0]:=by obtain⟨_,_,_,rfl⟩:=cY aX.ls;exact aA
    have bh:ak.rep m S R z [aq] (show List hB from aU.map gZ):=bi (bi (ak.aa bp az λr _ h he=>by have:=a2 r h;exact he.elim this.1 this.2.1) C) a1;have cQ:(aU.map gZ).length=aU.length:=Ξ
    rw[fG jd.u bh,cQ];refine Md aA bh (λr h=>by have:=a2 r h;omega) cM cN λbj cR cS cT cU cV cW=>?_;have db:=aA.lt;have z3:=a1.size;have bl:Ext U bj:=a1.then cT (λr E h=>by have h:r=aZ:=h;omega);have bm:Ext w0 bj:=(aR.trans C).trans bl;rw[aV cL.u (br.ext bm)];exact Z _ _ ⟨bm,aZ,_,rfl,aW,cR,gz,cS,cU,aX.ext bl,hS cV,cW⟩
theorem Ct{α:Type}{f:List α->aE->Option (α×aE)}{acc:List α}{s:aE}:fs f (n+1) acc (σ s)=match f acc s with
  |none=>ν
  |some (a,s')=>fs f n (acc++[a]) (σ s'):=by
 show cM f (n+1) acc s=_;simp only[cM];cases f acc s<;>rfl
theorem Mg{g:Nat}{A B:af}{s:Option aE}{most:Int}{O:x3->x4->Prop}(h:dq w g gs A B clean s)(ay:(N:Int)<=av)(P:∀szv w' l so gz,ae (bG g gs A) w w'->dq w' g gs A B clean so->aq .i64 ao w' gz szv l->w.heap.size<=gz->l.length<=100001->(∀q,fs (fW most) N [] s=σ q->so=σ q.2/\l=q.1)->(fs (fW most) N [] s=ν->so=ν)->O szv w'):
 b3 (.slice ν 0 0) (Δ 0) w λsizes i E k=>
  cv (α:=x3->x4->Prop) (λ(az:x3)(Q:x4)=>
   Split az (ai x8 nl [Γ g,(Δ 1),Δ most] Q λR x=>
  V x8 (Y2 R 0) x λS=>
  V x8 (Y2 R 1) x λaA=>
  V x8 (aJ .gtr ao false true S (Δ 32)) x λaB=>
  ai x8 pW [Γ g,aB,aA] x λbm aD=>
  aC x8 (Y8 au 1 #[(0,S)]) aD λaF aG=>
  aC x8 (Z3 #[au,au] au #[sizes,aF]) aG λaH W=>
  V x8 (aJ .add ao false true i (Δ 1)) W λaI=>
  k aH aI W) (O sizes Q)) λaw=>
  V x8 (aJ .lss ao false false i (Δ (N:Int))) E λaK=>
  Split aK (ai x8 kP [Γ g] E λaL aN=>
  aw aL aN)
   (aw (.bool false) E):=by
 obtain⟨bn,X,bo,aO,aP⟩:=h.side;have ac:∀r,bG g gs A r->r<w.heap.size:=aO;unfold av at ay;generalize aQ:fs (fW most) N [] s=Y at P;refine⟨λout G J=>∃(i:Nat)(l:Λ)(so:Option aE)(gz:Nat),G=Δ (i:Int)/\i<=N/\ae (bG g gs A) w J/\aq .i64 ao J gz out l/\w.heap.size<=gz/\dq J g gs A B clean so/\Y=fs (fW most) (N-i) l so/\l.length<=100001/\∀st,so=σ st->l.length+st.toks.length<=100000,
  λ_ G _=>N-(b0 G).toNat,⟨0,[],s,w.heap.size,rfl,X5 _,ae.refl _ _,aq.nil _ _ _ _,o5 _,h,aQ.symm,Ξ,λst aS=>?_⟩,?_⟩
 .subst aS;have:=h.words;simpa using this
 rintro out _ J ⟨i,l,so,gz,rfl,bp,H,Z,aT,ab,y,aU,ad⟩;refine aW (λv ag=>Ext J ag/\((v= .bool true/\i<N/\∃st,so=σ st)\/(v= .bool false/\(so=ν\/i=N)))) ?_ ?_
 rotate_left
 .intro aw I;rw[aR,aj];refine⟨λaV=>?_,λbq=>I _ _ ⟨Ext.refl _,.inr ⟨rfl,.inr Ω⟩⟩⟩;refine(pk ab).mono ?_;rintro _ ag _ ⟨rfl,ah⟩;cases so with
  |none=>exact I _ _ ⟨ah,.inr ⟨rfl,.inl rfl⟩⟩
  |some st=>exact I _ _ ⟨ah,.inl ⟨rfl,Ω,st,rfl⟩⟩
 rintro _ U ⟨p,aX⟩;have ak:=Z.ext p;have al:=ab.ext p;rcases aX with⟨rfl,aV,st,rfl⟩|⟨rfl,aZ⟩
 rotate_left
 .rw[aY];have am:Y=so.map λst=>(l,st):=by
   rcases aZ with rfl|rfl
   .exact y
   .rw[U4]at y;rw[y];cases so<;>rfl
  refine P out U l so gz (H.trans (p.aa _)) al ak aT aU (λq f=>?_) λan=>?_
  .rw[am]at f;cases so with
   |none=>cases f
   |some st=>cases f;exact⟨rfl,rfl⟩
  .rw[am]at an;cases so with
   |none=>rfl
   |some st=>cases an
 rw[bQ];have ad:=ad st rfl;refine(l3 (s:=σ st) al).mono ?_;rintro _ bt _ ⟨K,z,at_,rfl,a1,bu⟩;obtain⟨L,a2⟩:=K.of;rw[bz,bA,bS];refine(qy a2).mono ?_;rintro _ bw _ K;obtain⟨M,a6⟩:=K.of;refine eM au.u ao.i rfl λa ga a8 bx C ba=>?_;have bB:=H.size;have bC:=p.size;have z3:=L.size;have z4:=M.size;have z5:=C.size;have ap:∀r,leads out r->¬bG g gs A r:=λr j bb=>by have:=ac r bb;have:=(bR Z j).1;omega
 have bc:=br (br ak L ap) M ap;refine jg au.u ao.i rfl (bc.ext C) ba.ls Θ Θ λbD be bf bE bg ax=>?_;rw[aM,wrap_i64 Ω Ω];have bh:ae (bG g gs A) w a8:=((((H.trans (p.aa _)).trans L).trans M).trans (C.aa _));have bi:ae (bG g gs A) w bf:=hx bh ax λr j he=>by have he:r=gz:=he;omega
 have bj:∀r,bG g gs A r->¬(λr=>r=gz) r:=λr j he=>by have:=ac r j;have he:r=gz:=he;omega
 have bk:∀r,cF g gs A B r->¬(λr=>r=gz) r:=λr j he=>by have:=aP r j.2;have he:r=gz:=he;omega
 refine⟨⟨i+1,l++[z],_,be,rfl,Ω,bi,bg,Ω,(a6.ext C).aa ax bj bk,?_,Θ,λbF bl=>?_⟩,by simp only[b0];omega⟩
 .rw[y,show N-i=(N-(i+1))+1 by omega,Ct];unfold fW;cases f:bd 1 most st with
  |none=>have e:a7 1 most (σ st)=ν:=f;rw[e];rfl
  |some q=>
   have e:a7 1 most (σ st)=σ q:=f;have:=a1 q e;subst this;rw[e];rfl
 .obtain⟨bH,X,rfl⟩:=Y6.1 bl;obtain⟨q,f,rfl⟩:=Y6.1 X;have h1:=(dK (n:=q.1) (s':=q.2) f).1;simp only[o7,S3];show l.length+1+q.2.toks.length<=100000;omega
theorem Mh{acc:List (Λ×Int)}{s s':aE}{a:Λ×Int}(h:dV sizes acc s=σ (a,s')):s'.told=s.told/\s'.big=s.big:=by
 obtain⟨_,_,_,e⟩:=pa h;exact⟨e.eqs.1,e.eqs.2.1⟩
theorem Mi{s s':aE}{l:List (Λ×Int)}(hi:dX s)(h:dW sizes s=σ (l,s')):dX s'/\(s.big=true->s'.big=true):=by
 have e:=BY sizes (σ s);rw[show iN sizes (σ s)=dW sizes s from rfl,h]at e;cases r:a7 (-av) av (σ s)with
 |none=>rw[r]at e;cases e
 |some q=>
  obtain⟨n,s1⟩:=q;rw[r]at e;simp only at e;have h1:=(dK (n:=n) (s':=s1) r).eqs;have x:dX s1:=λj=>by rw[h1.1];rw[h1.2.1]at j;exact hi j
  split at e
  .cases I:s1.shared[(-n-1).toNat]? with
   |none=>rw[I]at e;cases e
   |some q=>
    obtain⟨z,l'⟩:=q;rw[I]at e;simp only at e;split at e
    .cases e;exact⟨x,λj=>by rw[h1.2.1];exact j⟩
    .cases e
  .have:=ko (f:=dV sizes) (λacc t=>t.told=(jQ n s1).told/\t.big=(jQ n s1).big) (λacc t a bn ⟨w,p⟩ g=>by
    have:=Mh g;exact⟨by rw[this.1,w],by rw[this.2,p]⟩) n.toNat [] _ l s' ⟨rfl,rfl⟩ e.symm
   obtain⟨⟨w,p⟩,_⟩:=this;refine⟨λj=>by rw[w];rw[p]at j;exact LB n s1 j,λj=>?_⟩;rw[p];show(s1.big||_)=true;rw[h1.2.1,j];rfl
theorem Mj{s s':aE}{x:cw}(hi:dX s)(h:db all s=σ (x,s')):dX s'/\s'.toks.length<s.toks.length:=by
 unfold db at h;cases p:bd (-av) av s with
 |none=>rw[p]at h;cases h
 |some q=>
 obtain⟨a,s1⟩:=q;rw[p]at h;simp only at h;have t0:=dK p;cases h1:e8 all.length a.natAbs s1 with
 |none=>rw[h1]at h;cases h
 |some q=>
 obtain⟨sc,f⟩:=q;rw[h1]at h;simp only at h;obtain⟨r,_⟩:=vx h1;generalize sc.map (λv=>all.getD v.toNat 0)=sizes at h;cases w:bd 0 av (ba (decide (6<a.natAbs)||dt sizes) f)with
 |none=>rw[w]at h;cases h
 |some q=>
 obtain⟨other,y⟩:=q;rw[w]at h;simp only at h;have z:=dK w;have E:dX y:=λe=>by
  rw[z.eqs.1];rw[z.eqs.2.1]at e;have e:(f.big||_)=false:=e;have B:=(U3.1 e).1;show f.told<=16384;rw[r.eqs.1,t0.eqs.1];rw[r.eqs.2.1,t0.eqs.2.1]at B;exact hi B
 cases j:dW sizes y with
 |none=>rw[j]at h;cases h
 |some q=>
 obtain⟨lines,A⟩:=q;rw[j]at h;simp only[X4,S1]at h;obtain⟨_,rfl⟩:=h;have F:=Mi E j;have I:=B6 j;have J:=t0.1;have K:=r.1;have L:f.toks.length=y.toks.length+1:=z.1;have C:∀t:aE,t.told=A.told/\t.big=A.big/\t.toks=A.toks->dX t/\t.toks.length<s.toks.length:=λt ⟨G,H,a3⟩=>⟨λe=>by rw[G];rw[H]at e;exact F.1 e,by rw[a3];omega⟩;split
 .exact C _ ⟨rfl,rfl,rfl⟩
 .exact C _ ⟨rfl,rfl,rfl⟩
theorem Mk{S R:af}{x:hB}(h:ak.rep false S R w cs x):ak.rep (α:=hB) true bx R w cs x/\(x3.agg cs.toArray).cells=cs.toArray:=by
 obtain⟨j,d1,r,s,rfl,_,_,_,h1,p,d2,z,A,rfl,_,_,_,a,q,d3,B,C,rfl,_,_,_,f,e⟩:=h;have h1:ak.rep (α:=Λ) false bx R w j x.1:=h1;have a:ak.rep (α:=Λ) false bx R w p x.2.1:=a;have f:q=[Δ x.2.2.1]:=f;have e:ak.rep (α:=List (Λ×Int)) false bx R w d3 x.2.2.2:=e;refine⟨⟨j,_,bx,bx,rfl,λ_ h=>h,λ_ h=>h,λ_ _ h _=>h,h1,p,_,bx,bx,rfl,λ_ h=>h,λ_ h=>h,λ_ _ h _=>h,a,q,d3,bx,bx,rfl,λ_ h=>h,λ_ h=>h,λ_ _ h _=>h,f,e⟩,?_⟩;obtain⟨u,rfl⟩:=V0.1 (show j.length=1 from ak.len h1);obtain⟨v,rfl⟩:=V0.1 (show p.length=1 from ak.len a);obtain⟨y,rfl⟩:=V0.1 (show d3.length=1 from ak.len e);obtain⟨_,_,_,rfl⟩:=l4 h1;obtain⟨_,_,_,rfl⟩:=l4 a;obtain⟨_,_,_,rfl⟩:=l4 e;subst f;rfl
theorem Ml{w0:x4}{g c:Nat}{A B:af}{o:Option aE}{M:x3}{aF:x3->x4->Prop}(aG:gY w g gs A B clean o)(hi:∀s,o=σ s->dX s)(bt:(c:Int)<=av)(bu:aH .i64 w M all)(aK:∀r,leads M r->r≠g/\r≠gs/\r<w.heap.size/\(o≠ν->¬A r))(bw:o≠ν->∀z∈all,1<=z/\z<=av)(bz:all.length<=100001)(bA:eu w)(h1:1<w0.heap.size/\(o≠ν->cF g gs A B 1))(aL:ae (λr=>w0.heap.size<=r) w0 w)(bB:w0.heap.size<=g)(bC:w0.heap.size<=gs)(cl:g<w.heap.size/\gs<w.heap.size)(bD:o≠ν->∀r,A r->w0.heap.size<=r)(aN:∀N w' acc so aI p aO aP,ae (λr=>w0.heap.size<=r) w0 w'->w.heap.size<=w'.heap.size->gY w' g gs aI p clean so->ak.rep (α:=List hB) true aO aP w' [N] acc->(∀r,aO r\/aP r->r≠g/\r≠gs/\r<w'.heap.size)->aH .i64 w' M all->
   (∀q,fs (λ_ s=>db all s) c [] o=σ q->so=σ q.2/\acc=q.1.map gZ)->(fs (λ_ s=>db all s) c [] o=ν->so=ν)->aF N w'):
 b3 (.slice ν 0 0) (Δ 0) w λfuns aQ am bE=>
  cv (α:=x3->x4->Prop) (λ(bF:x3)(aS:x4)=>
   Split bF (ai x8 y7 [Γ g,M] aS λbH bI=>
  aC x8 (Y8 jd 1 #[(0,bH)]) bI λbJ bK=>
  aC x8 (Z3 #[jd,jd] jd #[funs,bJ]) bK λbL aT=>
  V x8 (aJ .add ao false true aQ (Δ 1)) aT λbM=>
  bE bL bM aT) (aF funs aS)) λaU=>
  V x8 (aJ .lss ao false false aQ (Δ (c:Int))) am λbN=>
  Split bN (ai x8 kP [Γ g] am λbO bP=>
  aU bO bP)
   (aU (.bool false) am):=by
 unfold av at bt;generalize f:fs (λ_ s=>db all s) c [] o=aV at aN;have aX:∀s,o=σ s->o≠ν:=λs h=>by rw[h];simp
 refine⟨λN an J=>∃(i:Nat)(acc:List hB)(G:List cw)(so:Option aE)(y K C O:af),an=Δ (i:Int)/\i<=c/\ae (λr=>w0.heap.size<=r) w0 J/\w.heap.size<=J.heap.size/\gY J g gs y K clean so/\ak.rep true C O J [N] acc/\
   aH .i64 J M all/\eu J/\aV=fs (λ_ s=>db all s) (c-i) G so/\(∀r,C r->w.heap.size<=r/\r<J.heap.size)/\(∀r,O r->r≠g/\r≠gs/\¬C r)/\
   ∀s,so=σ s->acc=G.map gZ/\dX s/\G.length+s.toks.length<=100000/\o≠ν/\(∀r,y r->A r\/w.heap.size<=r)/\(∀r,y r->w0.heap.size<=r)/\(∀r,B r->K r)/\(∀r,C r->¬K r/\¬y r)/\(∀r,O r->cF g gs y K r),
  λ_ an _=>c-(b0 an).toNat,⟨0,[],[],o,A,B,bx,bx,rfl,X5 _,aL,o5 _,aG,fV,bu,bA,f.symm,λ_ h=>h.elim,λ_ h=>h.elim,λs I=>⟨rfl,hi s I,?_,aX s I,λr e=>.inl e,bD (aX s I),λr e=>e,λ_ h=>h.elim,λ_ h=>h.elim⟩⟩,?_⟩
 .subst I;have ap:dk w g gs A B s clean:=aG;have:=ap.2.1.words.1;simpa using this
 rintro N _ J ⟨i,acc,G,so,y,K,C,O,rfl,cm,bR,cn,aZ,bS,aq,a1,ab,E,bT,a2⟩;refine aW (λv a6=>Ext J a6/\((v= .bool true/\i<c/\∃st,so=σ st)\/(v= .bool false/\(so=ν\/i=c)))) ?_ ?_
 rotate_left
 .intro aw au;rw[aR,aj];refine⟨λa7=>?_,λcp=>au _ _ ⟨Ext.refl _,.inr ⟨rfl,.inr Ω⟩⟩⟩;refine(B2 aZ).mono ?_;rintro _ a6 _ ⟨rfl,a8⟩;cases so with
  |none=>exact au _ _ ⟨a8,.inr ⟨rfl,.inl rfl⟩⟩
  |some st=>exact au _ _ ⟨a8,.inl ⟨rfl,Ω,st,rfl⟩⟩
 rintro _ U ⟨L,bU⟩;have cq:=L.size;have W:=aZ.ext L;have ba:=bi bS L;have bb:ae (λr=>w0.heap.size<=r) w0 U:=bR.trans (L.aa _);rcases bU with⟨rfl,a7,st,rfl⟩|⟨rfl,bV⟩
 rotate_left
 .rw[aY];have bc:aV=so.map λst=>(G,st):=by
   rcases bV with rfl|rfl
   .exact ab
   .rw[U4]at ab;rw[ab];cases so<;>rfl
  refine aN N U acc so y K C (λr=>O r/\r<U.heap.size) bb Ω W (ak.mono ba (λ_ _ h=>h) λr e h=>⟨h,e⟩) (λr e=>?_) (aq.ext L) (λq H=>?_) λbd=>?_
  .rcases e with e|e
   .have:=E r e;exact⟨Ω,Ω,Ω⟩
   .have:=bT r e.1;exact⟨this.1,this.2.1,e.2⟩
  .rw[bc]at H;cases so with
   |none=>cases H
   |some st=>cases H;exact⟨rfl,(a2 _ rfl).1⟩
  .rw[bc]at bd;cases so with
   |none=>rfl
   |some st=>cases bd
 rw[bQ];obtain⟨rfl,be,cr,ac,bf,ax,bg,ad,bh⟩:=a2 st rfl;have W:dk U g gs y K st clean:=W;obtain⟨ct,cu,cz,cA,cB⟩:=W.1;have bW:=h1.2 ac;have bj:cF g gs y K 1:=⟨λf=>by
  rcases f with f|f|f
  .omega
  .omega
  .have:=ax 1 f;omega,bg 1 bW.2⟩
 have bk:∀r,leads M r->¬bG g gs y r/\r<U.heap.size:=λr e=>by
  obtain⟨bX,bY,bZ,b1⟩:=aK r e;refine⟨λf=>?_,Ω⟩;rcases f with f|f|f
  .exact bX f
  .exact bY f
  .rcases bf r f with h|h
   .exact b1 ac h
   .omega
 refine(LN W be (aq.ext L) bk (bw ac) bz (a1.ext L) bj).mono ?_;rintro _ b2 _ ⟨aI,p,cs,ay,rfl,cC,X,Y,az,bm,bn,b4,b5⟩;have z3:=X.size;obtain⟨bo,b7⟩:=Mk b4;refine ig (α:=hB) (a:=ay) (cs:=cs) (A:=bx) (R:=cF g gs aI p) jd.u b6.i Φ b7 bo λu ag P _ hu=>?_;have z4:=P.size;have b8:∀r,r<U.heap.size->C r\/O r->¬bG g gs y r:=λr e h f=>by
  rcases h with h|h
  .have j:=E r h;rcases f with f|f|f
   .omega
   .omega
   .exact (ad r h).2 f
  .exact (bh r h).1 f
 have b9:∀r,r<U.heap.size->cF g gs y K r->cF g gs aI p r:=λr e h=>⟨λf=>h.1 (f.imp id (Or.imp id λf=>(Y r f).elim id λh'=>Ω)),bm r h.2⟩;have ca:bl C (cF g gs aI p) ag [N] (G.map gZ):=bi (ak.aa (ak.mono (S':=C) (R':=λr=>cF g gs aI p r/\O r) ba (λ_ _ h=>h) λr e h=>⟨b9 r e (bh r h),h⟩) X λr e h=>b8 r e (h.imp id λh=>h.2) |> λh=>h) P |> λh=>ak.mono h (λ_ _ h=>h) λ_ _ h=>h.1;have ah:∀r,C r->¬p r:=λr h al=>by
  have j:=E r h;rcases(az r al).1 with Q|Q
  .exact (ad r h).1 Q
  .have aA:=(E r h).2;omega
 have cD:(G.map gZ).length=G.length:=Ξ
 refine my (α:=hB) (a:=ay) (A:=bx) jd.u b6.i rfl ca hu (bi bo P) (λr _ cb h=>?_) Ω Ω λcE S cc Z=>?_
 .rcases h with h|h
  .exact h
  .exact ah r cb h.2
 have z5:=Z.size;rw[aM,wrap_i64 Ω Ω];have cd:ae (λr=>w0.heap.size<=r) w0 ag:=(bb.trans (X.mono λr _ f=>by
  rcases f with rfl|rfl|f
  .exact bB
  .exact bC
  .exact ax r f)).trans (P.aa _)
 have z0:=aL.size;have ce:ae (λr=>w0.heap.size<=r) w0 S:=cd.trans (Z.mono λr _ h=>by have:=(E r h).1;omega);have cg:aH .i64 ag M all:=(hX (aq.ext L) X λr e a n c aB aD=>(bk r ⟨a,n,c,aB,aD⟩).1 e).ext P;have ch:aH .i64 S M all:=hX cg Z λr e a n c aB aD=>by
  have bZ:=(aK r ⟨a,n,c,aB,aD⟩).2.2.1;have:=(E r e).1;omega
 have ci:eu S:=(((a1.ext L).aa X bj.1).ext P).aa Z λh=>by have:=(E 1 h).1;omega
 have bp:gY S g gs aI p clean ((db all st).map (·.2)):=by
  refine gY.aa (bn.ext P) Z (λh=>by have:=E _ h;omega) (λr e cG h=>?_) (λr e h=>ah r h e.2);have j:=E r h;rcases e with rfl|rfl|e
  .omega
  .omega
  .rcases Y r e with Q|Q
   .exact (ad r h).2 Q
   .omega
 have cj:=lV cc;refine⟨⟨i+1,(G.map gZ)++[ay],G++((db all st).map (·.1)).toList,(db all st).map (·.2),aI,p,λr=>(C r\/bx r\/ag.heap.size<=r)/\r<S.heap.size,cF g gs aI p,rfl,Ω,ce,Ω,bp,cj,ch,ci,?_,λr e=>⟨?_,e.2⟩,λr e=>⟨λh=>e.1 (.inl h),λh=>e.1 (.inr (.inl h)),λh=>?_⟩,λs' ck=>?_⟩,by simp only[b0];omega⟩
 .rw[ab,show c-i=(c-(i+1))+1 by omega,Ct];cases H:db all st with
  |none=>rfl
  |some q=>rfl
 .rcases e.1 with h|h|h
  .exact (E r h).1
  .exact h.elim
  .omega
 .rcases h.1 with j|j|j
  .exact ah r j e.2
  .exact j
  .have:=(az r e.2).2;omega
 .obtain⟨q,H,rfl⟩:=Y6.1 ck;have j:=Mj (s':=q.2) (x:=q.1) be H;have Q:=b5 q H;refine⟨?_,j.1,?_,ac,λr e=>?_,λr e=>?_,λr e=>bm r (bg r e),λr e=>⟨λal=>?_,λbq=>?_⟩,λr e=>e⟩
  .rw[H,Q];simp
  .rw[H];simp only[Z7,l7,o7,S3];omega
  .rcases Y r e with h|h
   .exact bf r h
   .exact .inr Ω
  .rcases Y r e with h|h
   .exact ax r h
   .omega
  .rcases e.1 with j|j|j
   .exact ah r j al
   .exact j
   .have:=(az r al).2;omega
  .have cH:gY S g gs aI p clean ((db all st).map (·.2)):=bp;have br:=bn;rw[H]at br;have ap:dk b2 g gs aI p q.2 clean:=br;have a7:=ap.1.2.2.2.1 r (.inr (.inr bq));rcases e.1 with j|j|j
   .rcases Y r bq with aA|aA
    .exact (ad r j).2 aA
    .have:=(E r j).2;omega
   .exact j
   .omega
theorem dX.num{lo hi n:Int}{s s':aE}(e:dX s)(h:bd lo hi s=σ (n,s')):dX s':=λa=>by
 have h1:=(dK h).eqs;rw[h1.1];rw[h1.2.1]at a;exact e a
theorem dX.big{b:Bool}{s:aE}(h:dX s):dX (ba b s):=λa=>by
 have a:(s.big||b)=false:=a;exact h (U3.1 a).1
theorem dX.word{w:Λ}{s s':aE}(h:dX s)(hw:dU s=σ (w,s')):dX s':=λa=>by
 have h1:=(sq hw).2;rw[h1]at a ⊢;exact h a
theorem Mm{most:Int}{s s':aE}(hi:dX s)(hm:most<=av)(h:cM (fW most) N [] s=σ (l,s')):dX s'/\(∀z∈l,1<=z/\z<=av)/\l.length+s'.toks.length<=s.toks.length:=by
 have:=ko (f:=fW most) (λacc t=>dX t/\(∀z∈acc,1<=z/\z<=av)/\acc.length+t.toks.length<=s.toks.length) (λacc t a bn ⟨h1,p,y⟩ g=>by
  unfold fW at g;cases e:bd 1 most t with
  |none=>rw[e]at g;cases g
  |some q=>
   obtain⟨z,r⟩:=q;rw[e]at g;simp only[X4,S1]at g;obtain⟨rfl,rfl⟩:=g;have A:=(hY e).1;have B:=(dK e).1;refine⟨(h1.num e).big,λx j=>?_,?_⟩
   .rcases l9.1 j with j|j
    .exact p x j
    .rw[j4.1 j];omega
   .simp only[o7,S3];show acc.length+1+r.toks.length<=_;omega) N [] s l s' ⟨hi,λz w=>(by cases w),Ξ⟩ h
 exact this.1
theorem Mn{s0:aE}{name:Λ}{n most cnt:Int}{so6:Option aE}(h1:∀q,dU s0=σ q->name=q.1)(p:∀q,a7 1 av (((dU s0).map (·.2)).map (ba (decide (64<(name.length:Int)))))=σ q->n=q.1)(j:∀q,a7 1 av (((a7 1 av (((dU s0).map (·.2)).map (ba (decide (64<(name.length:Int)))))).map (·.2)).map (ba (decide (64<n))))=σ q->most=q.1)(h:∀q,a7 0 av ((a7 1 av (((a7 1 av (((dU s0).map (·.2)).map (ba (decide (64<(name.length:Int)))))).map (·.2)).map (ba (decide (64<n))))).map (·.2))=σ q->cnt=q.1)(f:∀q,a7 1 av (((a7 0 av ((a7 1 av (((a7 1 av (((dU s0).map (·.2)).map (ba (decide (64<(name.length:Int)))))).map (·.2)).map (ba (decide (64<n))))).map (·.2))).map (·.2)).map (ba (decide (256<cnt))))=σ q->k=q.1)(e:∀q,fs (fW most) n.toNat [] (((a7 1 av (((a7 0 av ((a7 1 av (((a7 1 av (((dU s0).map (·.2)).map (ba (decide (64<(name.length:Int)))))).map (·.2)).map (ba (decide (64<n))))).map (·.2))).map (·.2)).map (ba (decide (256<cnt))))).map (·.2)).map (ba (decide (2147483648<k))))=σ q->so6=σ q.2/\sizes=q.1)(a:fs (fW most) n.toNat [] (((a7 1 av (((a7 0 av ((a7 1 av (((a7 1 av (((dU s0).map (·.2)).map (ba (decide (64<(name.length:Int)))))).map (·.2)).map (ba (decide (64<n))))).map (·.2))).map (·.2)).map (ba (decide (256<cnt))))).map (·.2)).map (ba (decide (2147483648<k))))=ν->so6=ν):
  hU s0=(fs (λ_ s=>db sizes s) cnt.toNat [] so6).map λq=>((⟨name,k,sizes,q.1⟩:ca),q.2):=by
 unfold hU;cases z:dU s0 with
 |none=>
  rw[z]at a;rw[a rfl];rfl
 |some L=>
 obtain⟨Y,s1⟩:=L;rw[z]at h1 p j h f e a;have:=h1 _ rfl;subst this;have M:decide (64<(name.length:Int))=decide (64<name.length):=by rw[V7,decide_eq_true_eq,decide_eq_true_eq];omega
 rw[M]at p j h f e a;simp only[Z7]at p j h f e a ⊢;generalize ba (decide (64<name.length)) s1=w at*;cases A:bd 1 av w with
 |none=>
  rw[show a7 1 av (σ w)=ν from A]at a;rw[a rfl];rfl
 |some N=>
 obtain⟨O,B⟩:=N;rw[show a7 1 av (σ w)=σ (O,B)from A]at p j h f e a;have:=p _ rfl;subst this;simp only[Z7]at j h f e a ⊢;generalize ba (decide (64<n)) B=x at*;cases C:bd 1 av x with
 |none=>
  rw[show a7 1 av (σ x)=ν from C]at a;rw[a rfl];rfl
 |some P=>
 obtain⟨Q,r⟩:=P;rw[show a7 1 av (σ x)=σ (Q,r)from C]at j h f e a;have:=j _ rfl;subst this;simp only[Z7]at h f e a ⊢;cases E:bd 0 av r with
 |none=>
  rw[show a7 0 av (σ r)=ν from E]at a;rw[a rfl];rfl
 |some R=>
 obtain⟨S,F⟩:=R;rw[show a7 0 av (σ r)=σ (S,F)from E]at h f e a;have:=h _ rfl;subst this;simp only[Z7]at f e a ⊢;generalize ba (decide (256<cnt)) F=y at*;cases G:bd 1 av y with
 |none=>
  rw[show a7 1 av (σ y)=ν from G]at a;rw[a rfl];rfl
 |some T=>
 obtain⟨U,H⟩:=T;rw[show a7 1 av (σ y)=σ (U,H)from G]at f e a;have:=f _ rfl;subst this;simp only[Z7]at e a ⊢;generalize ba (decide (2147483648<k)) H=V at*;cases J:cM (fW most) n.toNat [] V with
 |none=>
  rw[a J];rfl
 |some W=>
 obtain⟨Z,K⟩:=W;obtain⟨I,X⟩:=e _ J;subst X;rw[I];simp only;show _=V9 _ (cM (λ_ s=>db sizes s) cnt.toNat [] K);cases cM (λ_ s=>db sizes s) cnt.toNat [] K<;>rfl
theorem Mo{f:ca}(a:ff N f)(q:N<=60000):∀x∈f.funs,sV f.k x:=λx h=>by
 obtain⟨h1,j,r⟩:=a.funs x h;refine⟨a.k,⟨?_,λz e=>?_⟩,h1.other,h1.lines,by have:=h1.len;omega,Ω⟩
 .rw[h1.sizes,u7];exact j
 .rw[h1.sizes]at e;obtain⟨v,p,rfl⟩:=j0.1 e;have:=h1.scope.2 v p;refine a.sizes.2.2 _ ?_;rw[u4,x7 Ω];exact Q3 _
theorem Mp{p:x3}{pl:Λ}(Q:aH .u8 w p pl)(aL:Bytes pl)(bM:pl.length<=60000)(ad:eu w):ai x8 GD [p] w (Cs w (gB pl)):=by
 have aM:1<w.heap.size:=by
  have:=ad 0 (.int .u64 1) rfl;obtain⟨c,e,f,aN,_⟩:=uX this;exact(j6.1 aN).1
 have bN:av=4611686018427387904:=rfl;refine ay func59 ?_;rw[aV cL.u Q,bS,aj];refine⟨λh=>Ω,λ_=>?_⟩;refine(AA Q aL Ω).mono ?_;rintro _ J _ ⟨ag,gs,rfl,bO,aO,R⟩;rw[dn (cs:=#[Γ gs,Δ 0,Δ 0,Δ 0,Δ 0,Δ 0,.slice ν 0 0]) Ψ];refine bk λg U bP S ah=>?_;have bQ:=ag.size;have bT:=S.size;have aP:=ah.lt;have bU:gs<J.heap.size:=R.2.2.2.1.lt;have bV:=p9 _ pl (o5 _);let s0:aE:=⟨(lex pl).1,0,false,[]⟩;let B0:af:=λr=>r<J.heap.size;have aQ:dk U g gs bx B0 s0 (lex pl).2:=by
  refine⟨⟨Ω,λh=>h,λh=>h,λr j=>?_,λr j=>by have j:r<J.heap.size:=j;omega⟩,⟨aO,pl,0,R.ext S,λr j=>?_,by rw[List.drop_zero]⟩,⟨by show(0:Int)<=0;omega,by show(0:Int)<=av;omega,by show(([]:List (Λ×List (Λ×Int))).length+(lex pl).1.length<=100000);simp;omega⟩,0,0,0,0,.slice ν 0 0,ah,⟨by simp[s0],λ_=>rfl⟩,fV (α:=iL)⟩
  .rcases j with rfl|rfl|j
   .exact aP
   .omega
   .exact j.elim
  .obtain⟨_,_,_,L,bp,hm⟩:=R;have G:=bR hm j;have H:=ce hm L Φ j;exact⟨λB=>by
    rcases B with B|B|B
    .omega
    .exact H B
    .exact B,by show r<J.heap.size;omega⟩
 have V:∀r,bG g gs bx r->w.heap.size<=r:=λr j=>by
  rcases j with rfl|rfl|j
  .omega
  .omega
  .exact j.elim
 refine(Bg aQ).mono ?_;rintro _ bW _ ⟨A,name,bX,rfl,bY,bZ,aR⟩;obtain⟨aS,aT⟩:=fX.of A;rw[bz,bA,nF c5.u,bS];refine(qy aT).mono ?_;rintro _ b0 _ A;obtain⟨aU,aW⟩:=A.of;refine(l3 (lo:=1) (hi:=av) aW).mono ?_;rintro _ b1 _ ⟨A,n,b2,rfl,ak,aX⟩;obtain⟨aY,aZ⟩:=A.of;rw[bz,bA,bS];refine(qy aZ).mono ?_;rintro _ b3 _ A;obtain⟨a1,a2⟩:=A.of;refine(l3 (lo:=1) (hi:=av) a2).mono ?_;rintro _ b4 _ ⟨A,most,b5,rfl,al,a6⟩;obtain⟨a8,bb⟩:=A.of;rw[bz,bA];refine(l3 (lo:=0) (hi:=av) bb).mono ?_;rintro _ b6 _ ⟨A,cnt,b7,rfl,am,bc⟩;obtain⟨bd,be⟩:=A.of;rw[bz,bA,bS];refine(qy be).mono ?_;rintro _ b8 _ A;obtain⟨bf,bg⟩:=A.of;refine(l3 (lo:=1) (hi:=av) bg).mono ?_;rintro _ b9 _ ⟨A,k,cb,rfl,hk,cc⟩;obtain⟨bh,bi⟩:=A.of;rw[bz,bA,bS];refine(qy bi).mono ?_;rintro _ an _ A;obtain⟨bj,W⟩:=A.of;have ao:ae (bG g gs bx) U an:=(((((((aS.trans aU).trans aY).trans a1).trans a8).trans bd).trans bf).trans bh).trans bj;have X:∀{lo:Int}{o:Option aE}{x:Int},0<=lo->lo<=1->(∀q,a7 lo av o=σ q->x=q.1)->(a7 lo av o=ν->x=0)->0<=x/\x<=av:=λ{lo o x}cd h1 I bl=>by
  cases a:a7 lo av o with
  |none=>rw[bl a];omega
  |some q=>
   have G:=mJ (n:=q.1) (s':=q.2) a;rw[I q a];omega
 have cg:=X Ω Ω ak aX;have ch:=X Ω Ω am bc;have ci:=X Ω Ω al a6;obtain⟨N,bm⟩:∃N:Nat,n=(N:Int):=⟨n.toNat,Ω⟩;obtain⟨C,bn⟩:∃C:Nat,cnt=(C:Int):=⟨cnt.toNat,Ω⟩;have bo:n.toNat=N:=Ω
 have bq:cnt.toNat=C:=Ω
 have br:dX s0:=λ_=>by show(0:Int)<=16384;omega
 have M:∀{o:Option aE}{b:Bool},(∀s,o=σ s->dX s)->∀s,o.map (ba b)=σ s->dX s:=λh s I=>by
  obtain⟨t,Y,rfl⟩:=Y6.1 I;exact(h t Y).big
 have O:∀{o:Option aE}{lo hi:Int},(∀s,o=σ s->dX s)->∀s,(a7 lo hi o).map (·.2)=σ s->dX s:=λ{o lo hi}h s I=>by
  obtain⟨q,a,rfl⟩:=Y6.1 I;cases o with
  |none=>cases a
  |some t=>exact(h t rfl).num (n:=q.1) (s':=q.2) a
 have bt:∀s,(dU s0).map (·.2)=σ s->dX s:=λs I=>by
  obtain⟨q,a,rfl⟩:=Y6.1 I;exact br.word (w:=q.1) (s':=q.2) a
 have ap:=M (b:=decide (2147483648<k)) (O (lo:=1) (hi:=av) (M (b:=decide (256<cnt)) (O (lo:=0) (hi:=av) (O (lo:=1) (hi:=av) (M (b:=decide (64<n)) (O (lo:=1) (hi:=av) (M (b:=decide (64<(name.length:Int))) bt)))))));have y:=λ(sizes:Λ)(so6:Option aE)=>Mn (s0:=s0) (name:=name) (sizes:=sizes) (n:=n) (most:=most) (cnt:=cnt) (k:=k) (so6:=so6) aR ak al am hk;rw[bo]at y;generalize cj:V9 (ba (decide (2147483648<k))) (V9 (λx=>x.2) (a7 1 av (V9 (ba (decide (256<cnt))) (V9 (λx=>x.2) (a7 0 av (V9 (λx=>x.2) (a7 1 av (V9 (ba (decide (64<n))) (V9 (λx=>x.2) (a7 1 av (V9 (ba (decide (64<(name.length:Int)))) (V9 (λx=>x.2) (dU s0)))))))))))))=aq at ap W y;rw[bm];refine Mg (N:=N) (most:=most) W Ω λszv Z sizes so6 gz bu au aw ck bw ax az=>?_;have y:=y sizes so6 ax az;rw[bq]at y;have ab:ae (bG g gs bx) U Z:=ao.trans bu;have z12:=ab.size;have aA:Ext w U:=ag.trans S;have bB:ae (λr=>w.heap.size<=r) w Z:=(aA.aa _).trans (ab.mono λr _ h=>V r h);have cl:=au.side;have aB:∀K,so6=σ K->dX K/\(∀z∈sizes,1<=z/\z<=av)/\sizes.length<=100000:=λK ac=>by
  cases a:fs (fW most) N [] aq with
  |none=>rw[az a]at ac;cases ac
  |some q=>
   obtain⟨G,H⟩:=ax q a;cases ac.symm.trans G;subst H;cases aq with
   |none=>cases a
   |some bC=>
    obtain⟨bD,bE,cm⟩:=Mm (l:=q.1) (s':=q.2) (ap bC rfl) Ω a;exact⟨bD,bE,by have:=W.words;omega⟩
 rw[bn];have aC:∀r,leads szv r->an.heap.size<=r/\r<Z.heap.size:=λr j=>by have:=bR aw j;omega
 have cn:=ao.size;refine Ml (w0:=w) (c:=C) (all:=sizes) au.q (λs I=>(aB s I).1) Ω aw.ls (λr j=>?_) (λP=>?_) bw ((ad.ext aA).aa ab λB=>by have:=V 1 B;omega) ⟨aM,λ_=>⟨λB=>by have:=V 1 B;omega,by show 1<J.heap.size;omega⟩⟩
  bB Ω Ω ⟨Ω,Ω⟩ (λ_ r h=>h.elim) λcp cq acc so aI cr ct cu aD cw bF bH bI bJ aF bK=>?_
 .have:=aC r j;exact⟨Ω,Ω,Ω,λ_ h=>h⟩
 .cases aG:so6 with
  |none=>exact absurd aG P
  |some K=>exact(aB K aG).2.1
 have cz:=aD.size;have E:gB pl=match hU s0 with
   |none=>ν
   |some (f,s)=>if s.toks=[]/\(lex pl).2=true/\s.big=false then σ f else ν:=by
  unfold gB;rw[if_neg Ω];have e:hU ⟨(lex pl).1,0,false,[]⟩=hU s0:=rfl;rw[e];cases hU s0<;>rfl
 refine Mf (w0:=w) (sizes:=sizes) (res:=gB pl) bF ⟨λs I Y bL L=>?_,λP=>?_⟩ bJ (λr j=>by have:=aC r j;exact⟨Ω,Ω⟩) bH bI (λ_=>trivial) Ω Ω aD Ω Ω Q λv w' h=>h
 .cases a:fs (λ_ s=>db sizes s) C [] so6 with
  |none=>rw[bK a]at I;cases I
  |some q=>
   obtain⟨G,H⟩:=aF q a;cases I.symm.trans G;rw[a]at y;have y:hU s0=σ ((⟨name,k,sizes,q.1⟩:ca),q.2):=y;have aJ:=(Bd rfl y L).1;rw[y]at E;simp only at E;rw[if_pos ⟨Y,bL,L⟩]at E;exact⟨q.1,H,E,Mo aJ (by show(lex pl).1.length<=60000;omega),aJ.k4,Ω⟩
 .cases a:fs (λ_ s=>db sizes s) C [] so6 with
  |none=>
   rw[a]at y;have y:hU s0=ν:=y;rw[y]at E;exact absurd E P
  |some q=>
   obtain⟨G,H⟩:=aF q a;rw[a]at y;have y:hU s0=σ ((⟨name,k,sizes,q.1⟩:ca),q.2):=y;rw[y]at E;simp only at E;by_cases aK:q.2.toks=[]/\(lex pl).2=true/\q.2.big=false
   .exact⟨q.2,G,aK⟩
   .rw[if_neg aK]at E;exact absurd E P
theorem vW(s t cs:Λ):∃e,oR s t cs= .tuple #[Δ (bm s cs t),Δ e]:=by
 unfold oR bm;cases ck s t 0 with
 |none=>exact⟨3,rfl⟩
 |some n=>exact⟨0,rfl⟩
theorem Mq:ai x8 zp [sv] w λr w'=>Ext w w'/\∃g,r= .func (.func oJ) #[] #[Γ g]/\w.heap.size<=g/\ad w' g an sv.cells.toList:=by
 refine ay func223 ?_;refine bk λg J f a e=>?_;rw[kV];exact⟨a,g,rfl,Ω,e⟩
theorem Mr{f:R6}{cap:Array x3}{B:Nat->List x3->x4->Prop}{e:x4->Prop}{L:Λ}(P:oC x8 f cap.toList n B e)(C:∀k vs w,B k vs w->∃x,L[k]?=σ x/\vs=[Δ x])(he:∀a b,ae (λr=>w.heap.size<=r) a b->e a->e b)(Q:e w)(R:n=L.length)(ao:L.length<=1000000):
  ai x8 GX [.slice ν 0 0,.func (.func f) #[] cap] w λv w'=>Ext w w'/\∃g,w.heap.size<=g/\aq .i64 ag w' g v L:=by
 refine iF func80 ?_;refine bk λgs J ap E p=>?_;have p:ad J gs an [.slice ν 0 0]:=p;have au:=p.lt;have G:∀{a b:x4},Ext a b->e a->e b:=λj=>he _ _ (j.aa _);refine kK.old ⟨Nat,false,f,cap,0,_,_,e,λk w'=>ae (λr=>w.heap.size<=r) w w'/\∃v g,gs<g/\ad w' gs an [v]/\aq .i64 ag w' g v (L.take k),λ_ _ _=>False,rfl,P.s,?_,λ_ _ j h=>G j h,
  λ_ _ _ j h=>⟨h.1.trans (j.aa _),by obtain⟨v,g,h1,S,V⟩:=h.2;exact⟨v,g,h1,S.ext j,V.ext j⟩⟩,λ_ _ _ _ _ h=>h,G E Q,⟨E.aa _,_,gs+1,Ω,p,aq.nil _ _ _ _⟩,?_,?_,λ_ _ h=>h.elim,λ_ _ _ h=>h.elim⟩
 .rintro k vs av w' ⟨_,_,h⟩;obtain⟨x,_,rfl⟩:=C k vs w' h;rfl
 .rintro a k _ U hW ⟨hk,rfl,X⟩ ⟨Y,v,g,Z,H,q⟩;obtain⟨x,j,ab⟩:=C k _ U X;cases ab;intro aw y _ _;have I:=H.ext y;rw[aF Ψ (I.Qz rfl)];refine eM an.u ag.i rfl λa ga ax ay z ac=>?_;have az:(L.take k).length<=1000000:=Θ
  refine jg an.u ag.i rfl ((q.ext y).ext z) ac.ls (by simp only[Z5,List.length_nil];omega) (by simp only[Z5,List.length_nil];omega) λaf ah aA aB A K=>?_;have aC:=H.lt;have aD:=y.size;have aE:=z.size;refine bq an.i A.ls.cells.1 A.ls.cells.2 (((I.ext z).aa K Ω)) Ξ λaj M aG ak=>?_;have N:ae (λr=>w.heap.size<=r) U aj:=(((y.trans z).aa _).trans (K.mono λr _ h=>by show w.heap.size<=r;omega)).trans (M.mono λr _ h=>by show w.heap.size<=r;omega);refine⟨he _ _ N hW,⟨Y.trans N,af,ah,Ω,ak,?_⟩,λh=>by cases h⟩;rw[r8,j];exact A.aa M (λ_=>Ω)
 .rintro k aH hk ⟨al,v,g,Z,am,q⟩;have hk:k=n:=hk;subst hk;rw[aF Ψ (am.Qz rfl)];intro aI O _;rw[R,o6]at q;exact⟨(al.ext λr aJ h=>by have:w.heap.size<=r:=h;omega).trans O,g,Ω,q.ext O⟩
theorem Cu{f:R6}{cap:Array x3}{j:Nat->List x3->x4->Prop}{e:x4->Prop}{L:Λ}(p:oC x8 f cap.toList n j e)(q:∀k vs w,j k vs w->∃x,L[k]?=σ x/\vs=[Δ x])(he:∀a b,ae (λr=>w.heap.size<=r) a b->e a->e b)(s:e w)(y:n=L.length)(z:L.length<=1000000):
  ai x8 yX [.func (.func f) #[] cap] w λv w'=>Ext w w'/\∃g,w.heap.size<=g/\aq .i64 ag w' g v L:=by
 refine ay func35 ?_;exact(Mr p q he s y z).mono λ_ _ _ h=>h
theorem Ms{x:Int}:ai x8 cmp_Less_int [Δ x,Δ y] w λv w'=>v= .bool (decide (x<y))/\Ext w w':=by
 refine ay func302 ?_;refine aW (λv J=>v= .bool (decide (x<y))/\Ext w J) (λ_ _ h=>h) λaw a=>?_;have e:∀{z:Int}{w:x4},ai x8 cmp_isNaN_int [Δ z] w λv w'=>v= .bool false/\Ext w w':=λ{z w}=>by
  refine ay func235 ?_;simp only[bK];exact⟨Ξ,Ext.refl _⟩
 refine e.mono ?_;rintro _ U _ ⟨rfl,f⟩;rw[aY];simp only[aR];exact a _ _ ⟨rfl,f⟩
theorem Mt{P:W9}{t:r9}{cx cy:Bool}{k:o9}{a b:Int}:bZ P (aJ .sub t cx cy (.int k a) (.int k b)) (.int k (k.wrap (a-b))) w:=λw' _=>by simp[aJ,eqGuard,binOp,Op.intArith]
theorem Mu{g:Nat}(h:aq .i64 ag w g sv l)(am:l.length<=1000000):
  ai x8 I2 [sv,Δ 0,Δ l.length] w λ_ w'=>ae (λr=>r=g) w w'/\∃m,m.Perm l/\m.Pairwise (·<= ·)/\aq .i64 ag w' g sv m:=by
 refine ay func296 ?_;simp only[aM];refine⟨λt J=>∃(i:Nat)(m:Λ),t=Δ i/\1<=i/\(i<=l.length\/i=1)/\m.Perm l/\qi m i/\ae (λr=>r=g) w J/\aq .i64 ag J g sv m,λt _=>l.length+1-(b0 t).toNat,
  ⟨1,l,by congr 1,Ω,.inr rfl,.refl _,λp q x y h1 S=>Ω,ae.refl _ _,h⟩,?_⟩
 rintro _ J ⟨i,m,rfl,ao,ap,z,I,K,hm⟩;have V:=z.length_eq;simp only[aR,aj];refine⟨λW=>?_,λau=>?_⟩
 .have W:i<l.length:=Ω
  refine⟨λt U=>∃(j:Nat)(m:Λ),t=Δ j/\j<=i/\m.Perm l/\o2 m i j/\ae (λr=>r=g) w U/\aq .i64 ag U g sv m,λt _=>(b0 t).toNat,⟨i,m,rfl,o5 _,z,Ke I,K,hm⟩,?_⟩;rintro _ U ⟨j,m,rfl,X,z,E,L,hm⟩;have V:=z.length_eq;refine aW (λv M=>Ext U M/\∃c,v= .bool c/\(c=true->0<j/\∃a b,m[j-1]?=σ a/\m[j]?=σ b/\b<a)/\(c=false->j=0\/0<j/\∃a b,m[j-1]?=σ a/\m[j]?=σ b/\a<=b)) ?_ ?_
  .rintro _ M ⟨B,c,rfl,Y,Z⟩;rw[cj];refine⟨λh=>?_,λh=>?_⟩
   .obtain⟨A,a,b,f,s,G⟩:=Y h;intro av N _ _;have C:=(hm.ext B).ext N;have e:X7.wrap ((j:Int)-1)=((j-1:Nat):Int):=by rw[wrap_i64 Ω Ω];omega
    simp only[ec,e];rw[bc an.u ag.i Ψ C.ls f,bc an.u ag.i Ψ C.ls s,hV rfl an.u ag.i C Ω];refine hW ag.i C Ω λab ac ax O=>⟨.inr ⟨by have:=Mt (P:=x8) (w:=ab) (t:=ag) (cx:=false) (cy:=true) (k:=.i64) (a:=(j:Int)) (b:=1);rwa [e]at this,trivial⟩,?_⟩;rw[hV rfl an.u ag.i O Θ];refine hW ag.i O Θ λaz ad aA af=>?_;refine⟨⟨j-1,_,rfl,Ω,(swap_perm Ω f s).trans z,Kh E A X f s G,((L.trans ((B.trans N).aa _)).trans ac).trans ad,af⟩,?_⟩;simp only[b0];omega
   .simp only[aM];rw[wrap_i64 Ω Ω];refine⟨⟨i+1,m,rfl,Ω,.inl Ω,z,?_,L.trans (B.aa _),hm.ext B⟩,?_⟩
    .rcases Z h with rfl|⟨A,a,b,f,s,G⟩
     .exact Kf E
     .exact Kg E A f s G
    .simp only[b0];omega
  .intro aw Q aB H _ _;have R:=hm.ext H;simp only[bS,aj];refine⟨λA=>?_,λA=>Q _ _ ⟨H,false,rfl,(λh=>by cases h),λ_=>.inl Ω⟩⟩;have e:X7.wrap ((j:Int)-1)=((j-1:Nat):Int):=by rw[wrap_i64 Ω Ω];omega
   obtain⟨b,s⟩:=aD (l:=m) (i:=j) Ω;obtain⟨a,f⟩:=aD (l:=m) (i:=j-1) Ω;rw[bc an.u ag.i Ψ R.ls s];simp only[ec,e];rw[bc an.u ag.i Ψ R.ls f];refine Ms.mono ?_;rintro _ aC _ ⟨rfl,ah⟩;refine Q _ _ ⟨H.trans ah,_,rfl,λh=>⟨Ω,a,b,f,s,by simpa using h⟩,λh=>.inr ⟨Ω,a,b,f,s,by simpa using h⟩⟩
 .refine⟨K,m,z,Ki λp q x y h1 S ak al=>I p q x y h1 Ω ak al,hm⟩
theorem Mv{P:W9}{t:r9}{k:o9}{s:ByteArray}{i:Nat}{K:x3->Prop}(a:P.underlying t=σ .string)(hi:i<s.size)(e:∀b:Nat,b<256->K (.int .u8 b)):
  V P (Instr.index t (.string s) (.int k (i:Int))) w K:=by
 have f:s[i]?=σ s[i]:=by simp[hi]
 have:V P (Instr.index t (.string s) (.int k (i:Int))) w K=K (.int .u8 s[i].toNat):=V.of λw' _=>by
  simp[Instr.index,asIntOf,run_underlying a,hi]
 rw[this];exact e _ (UInt8.toNat_lt _)
theorem Mw(a:n<256):ai x8 Iw [.int .u64 (n:Int)] w λv w'=>(∃r,v=Δ r)/\Ext w w':=by
 refine ay func234 ?_;refine ai.mono (K:=λv w'=>(∃r,v=Δ r)/\Ext w w') ?_ (λ_ _ _ h=>h);refine ay func270 ?_;simp only[cv,cQ,aj];refine⟨λh=>Ω,λ_=>⟨λh=>Ω,λ_=>⟨λh=>Ω,λ_=>?_⟩⟩⟩;rw[fo fA.u cH.u,wrap_u8 Ω Ω];refine Mv c5.u (by exact T5 a Φ) λb e=>?_;rw[fo cH.u ag.u];simp only[aM];exact⟨⟨_,rfl⟩,Ext.refl _⟩
theorem Mx{g:Nat}(h:aq .i64 ag w g sv l)(f:l.length<=12):
  ai x8 IJ [sv] w λ_ w'=>ae (λr=>r=g) w w'/\∃m,m.Perm l/\m.Pairwise (·<= ·)/\aq .i64 ag w' g sv m:=by
 refine ay func256 ?_;rw[aV an.u h.ls,fo ag.u oL.u,wrap_u64 Ω Ω];refine(Mw (n:=l.length) Ω).mono ?_;rintro _ J _ ⟨⟨r,rfl⟩,e⟩;refine ai.mono (K:=λ_ w'=>ae (λr=>r=g) J w'/\∃m,m.Perm l/\m.Pairwise (·<= ·)/\aq .i64 ag w' g sv m) ?_ (λ_ _ _ h=>⟨(e.aa _).trans h.1,h.2⟩);refine ay func281 ?_;refine⟨λa b _ _ _ U=>a=Δ 0/\b=Δ l.length/\J=U,λ_ _ _ _ _ _=>0,⟨rfl,rfl,rfl⟩,?_⟩;rintro _ _ _ _ _ _ ⟨rfl,rfl,rfl⟩;simp only[ec,kT,aj];rw[wrap_i64 Ω Ω];refine⟨λ_=>?_,λh=>Ω⟩;refine(Mu (h.ext e) Ω).mono ?_;exact λ_ _ _ h=>h
theorem My{f:R6}{cap:Array x3}{j:Nat->List x3->x4->Prop}{e:x4->Prop}{L:Λ}(p:oC x8 f cap.toList n j e)(q:∀k vs w,j k vs w->∃x,L[k]?=σ x/\vs=[Δ x])(he:∀a b,ae (λr=>w.heap.size<=r) a b->e a->e b)(s:e w)(y:n=L.length)(z:L.length<=12):
  ai x8 zo [.func (.func f) #[] cap] w λv w'=>Ext w w'/\∃g m,w.heap.size<=g/\m.Perm L/\m.Pairwise (·<= ·)/\aq .i64 ag w' g v m:=by
 refine ay func222 ?_;refine(Cu p q he s y Ω).mono ?_;rintro v J _ ⟨A,g,B,C⟩;refine(Mx C z).mono ?_;rintro _ U _ ⟨E,m,h1,G,H⟩;exact⟨A.then E (by rintro r I rfl;omega),g,m,B,h1,G,H⟩
theorem Cv{x:Int}(h:aH .i64 w sv l):
  ai x8 zq [sv,Δ x] w λv w'=>Ext w w'/\∃r:Int,v=Δ r/\∀i:Nat,l[i]?=σ x->(r=i↔ ∀j,j<i->l[j]? ≠σ x):=by
 refine ay func224 ?_;rw[aV an.u h];refine b3.range l.length (λi _ J=>Ext w J/\∀j,j<i->l[j]? ≠σ x) h.le ⟨Ext.refl _,λj p=>Ω⟩ ?_ ?_
 .rintro i _ J k hi ⟨a,e⟩ hk;simp only[aR,aj];refine⟨λ_=>?_,λh=>Ω⟩;obtain⟨y,f⟩:=aD (l:=l) hi;rw[bc an.u ag.i Ψ (h.ext a) f];simp only[bb,aj,aM];refine⟨λhe=>⟨a,i,rfl,λq s=>?_⟩,λhe=>hk _ _ ⟨a,λj p=>?_⟩⟩
  .subst he;refine⟨λB=>by
              have:i=q:=Ω
              subst this;exact e,λz=>?_⟩
   rcases Nat.lt_trichotomy i q with h1|h1|h1
   .exact absurd f (z i h1)
   .omega
   .exact absurd s (e q h1)
  .by_cases A:j=i
   .subst A;rw[f];intro h;exact he (Z0 h).symm
   .exact e j Ω
 .rintro _ J k ⟨a,e⟩;simp only[aR,aj];refine⟨λh=>Ω,λ_=>⟨a,-1,rfl,λi hi=>?_⟩⟩;exact absurd hi (e i (x5.1 hi).1)
theorem Mz{g:Nat}{w0:x4}(p:ad w0 g an [sv])(e:aH .i64 w0 sv l):
  oC x8 oJ [Γ g] l.length (λk vs _=>∃x,l[k]?=σ x/\vs=[Δ x]) (λw=>Ext w0 w):=by
 refine⟨oJ.enters,λy aw B w C _ q a r=>?_⟩;refine p1 func257 ?_;rw[aF Ψ ((p.ext a).Qz rfl),aV an.u (e.ext a)];refine b1.range l.length (λi U=>aw i U/\Ext w0 U) e.le ⟨r,a⟩ ?_ ?_
 .rintro i U k hi ⟨f,j⟩ hk;simp only[aR,aj];refine⟨λ_=>?_,λh=>Ω⟩;obtain⟨x,a⟩:=aD (l:=l) hi;rw[bc an.u ag.i Ψ (e.ext j) a];refine⟨rfl,(q i _ U hi j ⟨x,a,rfl⟩ f).mono ?_⟩;rintro _ E (⟨rfl,s,z⟩|⟨rfl,A⟩)
  .simp only[bJ,Y9,aY,aM];exact hk _ ⟨z.1,s⟩
  .simp only[bJ,X9,bQ];exact .inr ⟨i,hi,A⟩
 .rintro U k ⟨f,_⟩;simp only[aR,aj];exact⟨λh=>Ω,λ_=>.inl f⟩
theorem vX(h:aH .i64 w sv l)(j:l.length<=12)(p:∀v w' g m,Ext w w'->w.heap.size<=g->m.Perm l->m.Pairwise (·<= ·)->aq .i64 ag w' g v m->K v w'):
  ai x8 zp [sv] w λt J=>ai x8 zo [t] J K:=by
 refine Mq.mono ?_;rintro _ J _ ⟨f,g,rfl,B,e⟩;have e:ad J g an [sv]:=by rw[h.cells.1]at e;exact e
 refine(My (Mz e (h.ext f)) (λ_ _ _ h=>h) (λa b q s=>s.then q (λr C h=>Ω)) (Ext.refl _) rfl j).mono ?_;rintro v U _ ⟨x,y,m,E,h1,z,A⟩;have:=f.size;exact p v U y m (f.trans x) Ω h1 z A
def MA(w:x4)(ah:Λ)(k:Int)(cs a:Λ)(v:x3)(w':x4):Prop:=
 Ext w w'/\
  (¬Good a ah.length->v= .tuple #[.pointer ν,Δ 1])/\
  (Good a ah.length->∃e f h,v= .tuple #[Γ e,Δ 0]/\df w' e f h (et ah a) k (nM ah cs a))
theorem MB{g bI:Nat}{Z:x3}{cs z:Λ}(h:df w g bI sv ah k cs)(hk:right k)(Q:aH .i64 w Z z)(cr:z.length<=12)(ct:Good z ah.length->aN (et ah z)<=4096):
  ai x8 Ip [Γ g,Z] w (MA w ah k cs z):=by
 have aA:=h;have cu:=h.2.2.1;have cw:=Q.cells;refine iF func225 ?_;refine bk λg1 J dd bJ C=>?_;refine bk λbL U de a6 A=>?_;have s1:=bJ.size;have dh:=a6.size;have di:=C.lt;have dj:=A.lt;have a7:=bJ.trans a6;have C:ad U g1 e0 [Γ g]:=C.ext a6;have A:ad U bL an [Z]:=by rw[cw.1]at A;exact A
 rw[aF Ψ (C.Qz rfl),da e0.u];simp only[Z6,aY];rw[aF Ψ (A.Qz rfl)];have cz:=Q.ext a7;have sub:∀{w:x4}{g:Nat}{sv:x3}{k:Int}{aZ:x3},ad w g cX [sv,Δ k,aZ]->w.rangeAt g (0+0) [sv]:=λL=>nD L (by
  intro j v a8
  match j,a8 with
  |0,a8=>exact a8)
 refine vX cz cr λdQ cA dg m bM dk ba cB hm=>?_;have cC:=ba.length_eq;rw[aV an.u hm.ls];have cD:=a7.trans bM;refine mm.range m.length (λi _ _ bb=>Ext cA bb/\∀j,j<i->m[j]?=σ (j:Int)) Ω ⟨Ext.refl _,λj bd=>Ω⟩ ?_ ?_
 .rintro i _ _ bb ab hi ⟨ac,be⟩ af;simp only[aR,aj];refine⟨λ_=>?_,λh=>Ω⟩;obtain⟨y,ak⟩:=aD (l:=m) hi;rw[bc an.u ag.i Ψ (hm.ls.ext ac) ak];simp only[bK,aj,aM];refine⟨λal dl cE _=>⟨(cD.trans ac).trans cE,λ_=>rfl,λbf=>?_⟩,λhe=>af _ _ _ ⟨ac,λj bd=>?_⟩⟩
  .have:=AV bf ba cB i hi;rw[ak]at this;exact absurd (Z0 this).symm al
  .by_cases cF:j=i
   .subst cF;rw[ak];congr 1;omega
   .exact be j Ω
 .rintro _ _ bb ab ⟨ac,be⟩;simp only[aR,aj,eg];refine⟨λh=>Ω,λ_ dm cG _ _=>?_⟩;have E:Good z m.length:=Kj be ba;have am:=(bM.trans ac).trans cG;have aB:=a7.trans am;have C:=C.ext am;have A:=A.ext am;have cH:=Q.ext aB;have cI:=aA.ext aB;have dn:=am.size;obtain⟨⟨aZ,gs,L,aC,bN⟩,_⟩:=id cI;rw[aF Ψ (A.Qz rfl),aV an.u cH,aF Ψ (C.Qz rfl),bX,aS cX.p rfl,bF (cs:=[sv]) bE.p bE.i rfl (sub L)];refine(Bm aC.ls).mono ?_;rintro _ aE _ ⟨rfl,M⟩;refine⟨.inl M,?_⟩;simp only[bK,aj];refine⟨λal dp cJ _=>⟨(aB.trans M).trans cJ,λ_=>rfl,λbf=>absurd (by rw[bf.1]) al⟩,λdq=>?_⟩;have bg:z.length=ah.length:=Ω
  have E:Good z ah.length:=by rw[<-bg,<-cC];exact E
  have dr:=am.trans M;have bh:=aB.trans M;have C:=C.ext M;have A:=A.ext M;have bO:=Q.ext bh;rw[aF Ψ (A.Qz rfl),aV an.u bO];refine jG an.u ag.i Ω Ω λgz bP ds R bQ=>?_;have cK:aq .i64 ag bP gz (.slice (σ ⟨gz,0,ν⟩) z.length z.length) (o4 z.length 0):=aq.of (n:=z.length) (bW.full bQ Ξ (by simp[maxLen];omega));generalize (x3.slice (σ ⟨gz,0,ν⟩) z.length z.length)=cL at*;have dt:=M.size;have du:=R.size;have dv:=bQ.lt;rw[aF Ψ ((A.ext R).Qz rfl),aV an.u (bO.ext R)];have bR:=bh.trans R;have aG:(et ah z).length=z.length:=sm _ _;refine b1.range z.length (λi H=>ae (λr=>r=gz) bP H/\aq .i64 ag H gz cL (upto (et ah z) 0 i)) Ω ⟨ae.refl _ _,by rw[oZ,aG];exact cK⟩ ?_ ?_
  .rintro i H ab hi ⟨O,aI⟩ af;simp only[aR,aj];refine⟨λ_=>?_,λh=>Ω⟩;have ap:Ext w H:=bR.then O (by rintro r P rfl;omega);have aJ:Ext aE H:=R.then O (by rintro r P rfl;omega);obtain⟨p,bi⟩:=aD (l:=z) hi;obtain⟨⟨aZ,gs,L,aC,bN⟩,_⟩:=aA.ext ap;rw[bc an.u ag.i Ψ (Q.ext ap) bi,aF Ψ ((C.ext aJ).Qz rfl),bX,aS cX.p rfl,bF (cs:=[sv]) bE.p bE.i rfl (sub L)];refine(qn aC.ls).mono ?_;rintro _ dw _ ⟨rfl,bS⟩;have bT:=aI.ext bS;have cM:(upto (et ah z) 0 i).length=z.length:=by rw[nK,aG]
   rw[hV rfl an.u ag.i bT Ω];refine hW ag.i bT Ω λdx cN _ bU=>?_;simp only[aM];have h1:=(E.2 i p bi).1;have av:(et ah z)[i]?=σ (h0 ah p):=by
    unfold et h0;rw[v8,bi,if_pos h1.1];rfl
   rw[o1 av]at bU;exact af _ ⟨(O.trans (bS.aa _)).trans cN,bU⟩
  .rintro H ab ⟨O,aI⟩;simp only[aR,aj];refine⟨λh=>Ω,λ_=>?_⟩;have ap:Ext w H:=bR.then O (by rintro r P rfl;omega);have aJ:Ext aE H:=R.then O (by rintro r P rfl;omega);rw[<-aG,o0]at aI;obtain⟨⟨aZ,gs,L,aC,bN⟩,_⟩:=aA.ext ap;rw[aF Ψ ((C.ext aJ).Qz rfl),aQ cX.p 1 L rfl];have aK:cd (et ah z):=cu.Kl E rfl;have bV:=ct E;have dy:=prod_bound aK;refine(vb aI.ls).mono ?_;rintro _ bj _ ⟨bY,_,_,_,cO⟩;obtain⟨aw,I,V,rfl,dz,dA,dC,aL⟩:=cO aK bV ⟨hk,Ω,by have:=hk.1;omega⟩;obtain⟨N,aP⟩:∃N:Nat,(aN (et ah z)).toNat=N:=⟨_,rfl⟩;rw[aP]at aL;rw[bz,bA];refine bw e0.i λbZ dD dE b0 ax=>?_;refine bq e0.i rfl rfl ax (by simp[x3.cells]) λcP cQ dF ax=>?_;have dG:=O.size;have dH:=bY.size;have dI:=b0.size;have bl:Ext bj cP:=b0.then cQ (by rintro r P rfl;omega);have b2:=bY.trans bl;have cS:=aL.ext bl;have dJ:=ax.lt;obtain⟨⟨bn,b3,b4,b5,cT⟩,⟨b6,b7,_⟩,_,dK⟩:=id cS;have dL:0<N:=Ω
   have dM:aw<bj.heap.size:=by obtain⟨⟨_,_,q,_⟩,_⟩:=id aL;exact q.lt
   have dN:I<bj.heap.size:=by obtain⟨⟨_,_,_,_,q⟩,_⟩:=id aL;exact sS q Θ
   rw[aF Ψ (ax.Qz rfl),bX,aS cX.p rfl,bF (cs:=[V]) bE.p bE.i rfl (sub b4)];refine vC.mono ?_;rintro _ G _ ⟨K,aT,rfl,dO,b9⟩;have dP:=bl.size;have dR:=K.size;let S:Nat->Prop:=λr=>r=I;let W:=nM ah cs z;have bo:W.length=N:=by simp only[W];rw[A1,aP]
   let cU:x4->Prop:=λw'=>ad w' g1 e0 [Γ g]/\ad w' bL an [Z]/\ad w' bZ e0 [Γ aw]/\ad w' aw cX [V,Δ k,bn]/\
    df w' g bI sv ah k cs/\aH .i64 w' Z z/\aq .i64 ag w' b3 V (et ah z)/\ad w' aT bE [V]/\G.heap.size<=w'.heap.size
   have X:∀{a:x4},ae S G a->cU a:=by
    intro a B;have bp:Ext aE G:=(aJ.trans b2).trans K;have bt:Ext aE a:=bp.put B Ω;have ca:Ext w a:=bh.trans bt;refine⟨C.ext bt,A.ext bt,(ax.ext K).aa B (by show¬(bZ=I);omega),(b4.ext K).aa B (by show¬(aw=I);exact b6),aA.ext ca,Q.ext ca,br (b5.ext K) B (λr P he=>b7 ((show r=I from he)▸P)),
     b9.aa B (by show¬(aT=I);omega),B.size⟩
   have cb:=vB (g:=aT) (B0:=G.heap.size) (sv:=V) aK;rw[aP]at cb;refine oD.old ⟨Nat,false,lL,#[Γ aT],0,_,_,_,λq w'=>ae S G w'/\aq .i64 ao w' I bn (upto W 0 q),λ_ _ _=>False,rfl,cb.s,
    ?_,λ_ _ B h=>⟨h.1.ext B,h.2.1.ext B,X0 h.2.2 B.size⟩,λ_ _ _ B h=>⟨h.1.trans (B.aa S),h.2.ext B⟩,λ_ _ _ _ _ h=>h,⟨b9,(b5.ext K).ls,o5 _⟩,⟨ae.refl _ _,?_⟩,?_,?_,λ_ _ h=>h.elim,λ_ _ _ h=>h.elim⟩
   .rintro _ _ _ _ ⟨_,_,_,_,rfl,_⟩;rfl
   .rw[oZ,bo];exact cT.ext K
   .rintro _ aO q _ dS ⟨_,_,dT⟩ ⟨av,rfl,dU,gt,cV,dV,cW⟩ ⟨aU,cY⟩;cases cV;let x:=cR (et ah z) (q:Int);have cc:x.length=z.length:=by simp only[x];rw[ji,aG]
    intro cZ Y _ _;have ce:=cW.ext Y;rw[aV an.u ce.ls];refine jG an.u ag.i (by rw[ji];omega) (by rw[ji];omega) λgo cg dW bu ch=>?_;have c0:aq .i64 ag cg go (.slice (σ ⟨go,0,ν⟩) (cR (et ah z) (q:Int)).length (cR (et ah z) (q:Int)).length) (o4 (cR (et ah z) (q:Int)).length 0):=aq.of (n:=(cR (et ah z) (q:Int)).length) (bW.full ch Ξ (by rw[ji];simp[maxLen];omega));generalize (x3.slice (σ ⟨go,0,ν⟩) (cR (et ah z) (q:Int)).length (cR (et ah z) (q:Int)).length)=c1 at*;have dX:=aU.size;have dY:=Y.size;have dZ:=bu.size;have lo:=ch.lt;have c2:ae S G cg:=aU.trans ((Y.trans bu).aa S);have f:=X c2;rw[aF Ψ (f.2.1.Qz rfl),aV an.u f.2.2.2.2.2.1];refine b1.range z.length (λj aW=>Ext cZ aW/\∃y:Λ,y.length=z.length/\aq .i64 ag aW go c1 y/\∀(i:Nat)(p:Int),i<j->z[i]?=σ p->y[p.toNat]?=x[i]?) Ω
     ⟨bu,_,by simp[cc,x],c0,λi p hi=>Ω⟩ ?_ ?_
    .rintro j aW ab bd ⟨ay,y,bx,aX,bB⟩ af;simp only[aR,aj];refine⟨λ_=>?_,λh=>Ω⟩;have f:=X (aU.trans ((Y.trans ay).aa S));obtain⟨p,a1⟩:=aD (l:=z) bd;obtain⟨u,hu⟩:=aD (l:=x) (i:=j) Ω;have ea:=(E.2 j p a1).1;rw[bc an.u ag.i Ψ f.2.2.2.2.2.1 a1,bc an.u ag.i Ψ (ce.ext ay).ls hu,hV (i:=p.toNat) Ω an.u ag.i aX Ω];refine hW ag.i aX Ω λeb c3 ec c4=>?_;simp only[aM];refine af _ ⟨ay.then c3 (by rintro r P rfl;omega),_,by simpa using bx,c4,λi a2 hi az=>?_⟩;by_cases ci:i=j
     .subst ci;rw[a1]at az;cases az;rw[c9 Ω,hu]
     .have ed:=(E.2 i a2 az).1;have al:p.toNat≠a2.toNat:=λhe=>by
       have:p=a2:=Ω
       subst this;exact ci (E.inj az a1)
      rw[Y5 al];exact bB i a2 Ω az
    .rintro aW ab ⟨ay,y,bx,aX,bB⟩;simp only[aR,aj];refine⟨λh=>Ω,λ_ c5 cj _ _=>?_⟩;have ak:y=l1 z x:=AZ E (by rw[cc,bg]) (by rw[bx,bg]) λi p ck=>bB i p (x5.1 ck).1 ck;have cl:=ay.trans cj;have cm:ae S G c5:=aU.trans ((Y.trans cl).aa S);obtain⟨f1,f2,f3,f4,f5,f6,f7,f8,f9⟩:=X cm;rw[aF Ψ (f3.Qz rfl),aQ cX.p 2 f4 rfl,aF Ψ (f1.Qz rfl)];refine(vc f5 (aX.ls.ext cj)).mono ?_;rintro _ ee _ ⟨rfl,bC⟩;refine⟨.inl bC,?_⟩;obtain⟨e,he⟩:=vW ah y cs;rw[he,bz,bA];have c6:=cm.trans (bC.aa S);have cn:=(cY.ext ((Y.trans cl).trans bC));have cM:(upto W 0 q).length=N:=by rw[nK,bo]
     rw[hV rfl au.u ao.i cn Ω];refine hW ao.i cn Ω λc7 c8 ef cp=>?_;have cq:ae S G c7:=c6.trans (c8.mono λr _ h=>h);obtain⟨f1,f2,f3,f4,f5,f6,f7,f8,f9⟩:=X cq;have db:W[q]?=σ (bm ah cs y):=by
      simp only[W,nM];rw[v8,List.getElem?_range (by rw[aP];exact av),ak];rfl
     rw[o1 db]at cp;exact⟨⟨f8,f7.ls,f9⟩,⟨cq,cp⟩,λh=>by cases h⟩
   .rintro q eh av ⟨bD,bG⟩;rw[show q=N from av]at bG;have f:=X bD;rw[aF Ψ (f.2.2.1.Qz rfl)];intro ei bH _;obtain⟨f1,f2,f3,f4,f5,f6,f7,f8,f9⟩:=X (bD.trans (bH.aa S));rw[<-bo,o0]at bG;have bp:Ext w G:=(ap.trans b2).trans K;refine⟨(bp.put bD Ω).trans bH,λdc=>absurd E dc,λ_=>⟨aw,I,V,rfl,⟨bn,b3,f4,f7,bG.ext bH⟩,⟨b6,b7,bV⟩,aK,A1 _ _ _⟩⟩
def hb(l:Λ):Prop:=∀(i j:Nat)(x y:Int),i<j->l[i]?=σ x->l[j]?=σ y->x<y
theorem hb.inj(h:hb l){i:Nat}{x:Int}(hi:l[i]?=σ x)(a:l[j]?=σ x):i=j:=by
 rcases Nat.lt_trichotomy i j with h1|h1|h1
 .have:=h i j x x h1 hi a;omega
 .exact h1
 .have:=h j i x x h1 a hi;omega
def dedup(l:Λ):Nat->Λ
 |0=>[]
 |j+1=>if 0<j/\l[j]?=l[j-1]? then dedup l j else dedup l j++[l.getD j 0]
theorem Cw(l:Λ):∀j,(dedup l j).length<=j
 |0=>o5 _
 |j+1=>by
  have:=Cw l j;unfold dedup;split
  .omega
  .simp;omega
theorem vY(a:0<j)(h:l[j]?=l[j-1]?):dedup l (j+1)=dedup l j:=by
 rw[dedup,if_pos ⟨a,h⟩]
theorem vZ{x:Int}(e:l[j]?=σ x)(h:0<j->l[j]? ≠l[j-1]?):dedup l (j+1)=dedup l j++[x]:=by
 rw[dedup,if_neg (λa=>h a.1 a.2),u4,e];rfl
theorem sX{l:Λ}:∀{j:Nat},j<=l.length->(∀i,i<j->0<i->l[i]? ≠l[i-1]?)->dedup l j=l.take j
 |0,_,_=>by simp[dedup]
 |j+1,f,h=>by
  have a:l[j]?=σ l[j]:=x7 Ω;rw[vZ a (h j Ω),sX Ω (λi hi e=>h i Ω e),r8,a];rfl
theorem Cx{l:Λ}(I:l.Pairwise (·<= ·)):∀{j:Nat},j<=l.length->(hb (dedup l j)/\∀x,x∈dedup l j↔x∈l.take j)
 |0,_=>⟨λi j x y _ h=>by simp[dedup]at h,λx=>by simp[dedup]⟩
 |j+1,J=>by
  obtain⟨h1,q⟩:=Cx I (j:=j) Ω;have f:l[j]?=σ l[j]:=x7 Ω;by_cases p:0<j/\l[j]?=l[j-1]?
  .rw[vY p.1 p.2];refine⟨h1,λx=>?_⟩;rw[q,r8,f];simp only[l7,l9,j4];refine⟨.inl,λh=>h.elim id λhe=>?_⟩;subst he;have s:(l.take j)[j-1]?=σ l[j]:=by rw[Y0 Ω,<-p.2,f]
   exact x6 s
  .have w:0<j->l[j]? ≠l[j-1]?:=λB he=>p ⟨B,he⟩;rw[vZ f w];have C:∀x∈dedup l j,x<l[j]:=λx E=>by
    obtain⟨i,hi,he⟩:=List.getElem_of_mem ((q x).1 E);have K:i<j:=by rw[n9]at hi;omega
    rw[List.getElem_take]at he;subst he;have s:l[i]<=l[j-1]:=by
     by_cases z:i=j-1
     .subst z;exact Q1 _
     .exact V6.1 I i (j-1) Ω Ω Ω
    have z:=V6.1 I (j-1) j Ω Ω Ω;have A:=w Ω;rw[f,x7 (show j-1<l.length by omega)]at A;have L:l[j]≠l[j-1]:=λh=>A (by rw[h]);omega
   refine⟨λa b x y F r e=>?_,λx=>?_⟩
   .have G:=(x5.1 e).1;simp only[o7,Z5,List.length_nil]at G;rw[Y1 Ω]at r;by_cases H:b=(dedup l j).length
    .subst H;rw[Y3 (o5 _),U4]at e;simp at e;subst e;exact C x (x6 r)
    .rw[Y1 Ω]at e;exact h1 a b x y F r e
   .rw[r8,f];simp only[l7,l9,j4,q]
def qF(l:Λ):Prop:=∀(j:Nat)(x:Int),l[j]?=σ x->0<=x/\(0<j->∀y,l[j-1]?=σ y->y<x)
theorem qF.up(h:qF l):hb l:=by
 intro i j x y r f;induction j generalizing y with
 |zero=>omega
 |succ j p=>
  intro e;have s:=(x5.1 e).1;obtain⟨z,a⟩:∃z,l[j]?=σ z:=⟨_,x7 (show j<l.length by omega)⟩;have h1:=(h (j+1) y e).2 Ω z (by simpa using a);by_cases q:i=j
  .subst q;rw[f]at a;cases a;exact h1
  .have:=p z Ω a;omega
theorem MC(h:hb l)(e:∀x∈l,0<=x):qF l:=λj x a=>⟨e x (x6 a),λp y f=>h (j-1) j y x Ω f a⟩
theorem Cy{g H:Nat}{c8:x3}{cs:Λ}(h:df w g H sv ah k cs)(a:aH .i64 w c8 l):
  ai x8 Iq [Γ g,c8] w λv w'=>Ext w w'/\∃c,v= .bool c/\(c=true↔l.length=ah.length/\qF l):=by
 obtain⟨⟨aZ,gs,I,hm,q⟩,_⟩:=h;have sub:w.rangeAt g (0+0) [sv]:=nD I (by
  intro j v r
  match j,r with
  |0,r=>exact r)
 refine ay func226 ?_;rw[aV an.u a,bX,aS cX.p rfl,bF (cs:=[sv]) bE.p bE.i rfl sub];refine(Bm hm.ls).mono ?_;rintro _ J _ ⟨rfl,s⟩;simp only[bK,aj];refine⟨λK=>⟨s,false,rfl,(λh=>by cases h),λh=>absurd (by rw[h.1]) K⟩,λE=>?_⟩;have E:l.length=ah.length:=Ω
 rw[aV an.u (a.ext s)];refine b3.range l.length (λi _ U=>Ext w U/\∀(j:Nat)(x:Int),j<i->l[j]?=σ x->0<=x/\(0<j->∀y,l[j-1]?=σ y->y<x)) a.le ⟨s,λj x L=>Ω⟩ ?_ ?_
 .rintro i _ U M hi ⟨e,z⟩ N;simp only[aR,aj];refine⟨λ_=>?_,λh=>Ω⟩;obtain⟨x,f⟩:=aD (l:=l) hi;have V:=a.le;rw[bc an.u ag.i Ψ (a.ext e) f];refine aW (λv O=>U=O/\∃c,v= .bool c/\(c=false↔0<=x/\(0<i->∀y,l[i-1]?=σ y->y<x))) ?_ ?_
  .rintro _ _ ⟨rfl,c,rfl,q⟩;rw[cj];simp only[aM];refine⟨λP=>⟨e,false,rfl,(λh=>by cases h),λh=>?_⟩,λQ=>N _ _ ⟨e,λj R L A=>?_⟩⟩
   .have:=q.2 (h.2 i x f);rw[P]at this;cases this
   .by_cases S:j=i
    .subst S;rw[f]at A;cases A;exact q.1 Q
    .exact z j R Ω A
  .intro aw B;simp only[aR,bS,ec,aj];refine⟨λW=>B _ _ ⟨rfl,true,rfl,(λh=>by cases h),λh=>Ω⟩,λX=>⟨λY=>?_,λZ=>B _ _ ⟨rfl,false,rfl,λ_=>⟨Ω,λh=>Ω⟩,λ_=>rfl⟩⟩⟩;obtain⟨y,C⟩:∃y,l[i-1]?=σ y:=⟨_,x7 (show i-1<l.length by omega)⟩;rw[wrap_i64 Ω Ω,fF (i:=i-1) Ω an.u ag.i Ψ (a.ext e) C];simp only[cQ];refine B _ _ ⟨rfl,_,rfl,?_⟩;rw[decide_eq_false_iff_not];refine⟨λh=>⟨Ω,λ_ aa G=>by rw[C]at G;cases G;omega⟩,λh=>by have:=h.2 Ω y C;omega⟩
 .rintro _ U M ⟨e,z⟩;simp only[aR,aj];exact⟨λh=>Ω,λ_=>⟨e,true,rfl,λ_=>⟨E,λj x f=>z j x (x5.1 f).1 f⟩,λ_=>rfl⟩⟩
def hC(l:Λ)(x:Int):Int:=if x∈l then(l.idxOf x:Int)else-1
theorem Cz{i:Nat}{x:Int}(h:hb l)(hi:l[i]?=σ x):hC l x=i:=by
 have hm:x∈l:=x6 hi;have a:=List.idxOf_lt_length_of_mem hm;have e:l.idxOf x=i:=h.inj (by rw[x7 a,List.getElem_idxOf a]) hi;unfold hC;rw[if_pos hm,e]
theorem MD{x:Int}(h:x∉l):hC l x= -1:=if_neg h
theorem v7{x:Int}(h:aH .i64 w sv l)(hu:hb l):
  ai x8 zq [sv,Δ x] w λv w'=>v=Δ (hC l x)/\Ext w w':=by
 refine ay func224 ?_;rw[aV an.u h];refine b3.range l.length (λi _ J=>Ext w J/\∀j,j<i->l[j]? ≠σ x) h.le ⟨Ext.refl _,λj p=>Ω⟩ ?_ ?_
 .rintro i _ J k hi ⟨a,e⟩ hk;simp only[aR,aj];refine⟨λ_=>?_,λh=>Ω⟩;obtain⟨y,f⟩:=aD (l:=l) hi;rw[bc an.u ag.i Ψ (h.ext a) f];simp only[bb,aj,aM];refine⟨λhe=>⟨?_,a⟩,λhe=>hk _ _ ⟨a,λj p=>?_⟩⟩
  .subst he;rw[Cz hu f]
  .by_cases q:j=i
   .subst q;rw[f];intro h;exact he (Z0 h).symm
   .exact e j Ω
 .rintro _ J k ⟨a,e⟩;simp only[aR,aj];refine⟨λh=>Ω,λ_=>⟨?_,a⟩⟩;rw[MD];intro hm;obtain⟨i,hi,he⟩:=List.getElem_of_mem hm;exact e i hi (by rw[x7 hi,he])
def fb(x vars scope:Λ):Λ:=scope.map λp=>x.getD (vars.idxOf p) 0
theorem ME(x vars scope:Λ):(fb x vars scope).length=scope.length:=by simp[fb]
theorem CA{dO s:x3}{x vars:Λ}(C:aH .i64 w dO x)(E:aH .i64 w s vars)(I:aH .i64 w sv scope)(hu:hb vars)(G:∀p∈scope,p∈vars)(Q:x.length=vars.length)(R:scope.length<=1000):
  ai x8 Iv [dO,s,sv] w λv w'=>Ext w w'/\∃g,w.heap.size<=g/\aq .i64 ag w' g v (fb x vars scope):=by
 refine ay func231 ?_;rw[aV an.u I];refine jG an.u ag.i Ω Ω λgz J S y H=>?_;have K:aq .i64 ag J gz (.slice (σ ⟨gz,0,ν⟩) scope.length scope.length) (o4 scope.length 0):=aq.of (n:=scope.length) (bW.full H Ξ (by simp[maxLen];omega));generalize (x3.slice (σ ⟨gz,0,ν⟩) scope.length scope.length)=L at*;rw[aV an.u (I.ext y)];have j:=ME x vars scope;refine b1.range scope.length (λi U=>Ext w U/\aq .i64 ag U gz L (upto (fb x vars scope) 0 i)) Ω ⟨y,by rw[oZ,j];exact K⟩ ?_ ?_
 .rintro i U M hi ⟨a,hm⟩ N;simp only[aR,aj];refine⟨λ_=>?_,λh=>Ω⟩;obtain⟨p,q⟩:=aD (l:=scope) hi;have z:=G p (x6 q);have V:=List.idxOf_lt_length_of_mem z;rw[bc an.u ag.i Ψ (I.ext a) q];refine(v7 (E.ext a) hu).mono ?_;rintro _ W _ ⟨rfl,f⟩;have e:hC vars p=(vars.idxOf p:Int):=if_pos z;obtain⟨u,A⟩:∃u,x[vars.idxOf p]?=σ u:=⟨_,x7 Ω⟩;have X:(upto (fb x vars scope) 0 i).length=scope.length:=by rw[nK,j]
  rw[fF (i:=vars.idxOf p) e an.u ag.i Ψ (C.ext (a.trans f)) A,hV rfl an.u ag.i (hm.ext f) Ω];refine hW ag.i (hm.ext f) Ω λY O _ B=>?_;simp only[aM];have P:(fb x vars scope)[i]?=σ u:=by
   unfold fb;rw[v8,q,Z7,u4,A];rfl
  rw[o1 P]at B;exact N _ ⟨(a.trans f).then O (by rintro r Z rfl;omega),B⟩
 .rintro U M ⟨a,hm⟩;simp only[aR,aj];refine⟨λh=>Ω,λ_=>⟨a,gz,Ω,?_⟩⟩;rw[<-j,o0]at hm;exact hm
theorem CB(j:t≠[])(hw:∀b∈t,bO b=true):lex t=([t],true):=by
 cases t with
 |nil=>exact absurd rfl j
 |cons b q=>
  have a:q.dropWhile bO=[]:=by
   have:∀(q:Λ),(∀x∈q,bO x=true)->q.dropWhile bO=[]/\q.takeWhile bO=q:=λq a=>by
    induction q with
    |nil=>simp
    |cons x q e=>
     have:=e λy f=>a y (.tail _ f);simp[a x (.head _),this.1,this.2]
   exact(this q λx h=>hw x (.tail _ h)).1
  have p:q.takeWhile bO=q:=by
   have:∀(q:Λ),(∀x∈q,bO x=true)->q.takeWhile bO=q:=λq a=>by
    induction q with
    |nil=>simp
    |cons x q e=>simp[a x (.head _),e λy f=>a y (.tail _ f)]
   exact this q λx h=>hw x (.tail _ h)
  rw[Ar (hw b (.head _)),a,p]
theorem CC{p:x3}(h:aH .u8 w p l)(e:Bytes l)(f:l.length<=100000):ai x8 y5 [p] w λv w'=>Ext w w'/\∃g R,v=Γ g/\w.heap.size<=g/\hy w' g R (lex l).1 (lex l).2/\¬R g:=by
 refine(AA h e f).mono ?_;rintro _ J _ ⟨j,g,rfl,q,s,a⟩;obtain⟨h1,z,A,x,bp,hm⟩:=id a;exact⟨j,g,λr=>r≠g,rfl,q,⟨s,l,0,a,λr y=>ce hm x Φ y,by rw[List.drop_zero]⟩,λh=>h rfl⟩
theorem MF{p:x3}(h:aH .u8 w p t)(y:Bytes t)(z:t.length<=100000)(A:t≠[])(hw:∀b∈t,bO b=true):ai x8 IH [p] w λv w'=>Ext w w'/\∃n:Int,v= .tuple #[Δ 1,Δ n,Δ 0]:=by
 have B:=CB A hw;refine ay func253 ?_;refine(CC h y z).mono ?_;rintro _ J _ ⟨C,g,R,rfl,G,j,H⟩;rw[B]at j;refine⟨λ_ _ _ a U=>ae (λr=>r=g) J U/\((a=Δ 0/\hy U g R [t] true)\/(a=Δ 1/\hy U g R [] true)),λ_ _ _ a _=>1-(b0 a).toNat,⟨ae.refl _ _,.inl ⟨rfl,j⟩⟩,?_⟩;rintro _ _ _ _ U ⟨q,⟨rfl,e⟩|⟨rfl,e⟩⟩
 .refine (qj e).mono ?_;rintro v s _ ⟨f,E,n,rfl⟩;rw[gq,gu,gv,bb,aj];refine⟨λ_=>?_,λh=>absurd rfl h⟩;rw[aM,wrap_i64 Ω Ω];exact⟨⟨q.trans f,.inr ⟨rfl,E⟩⟩,by simp[b0]⟩
 .refine (qj e).mono ?_;rintro v s _ ⟨f,n,rfl⟩;rw[gq,gu,gv,bb,aj];refine⟨λh=>by simp at h,λ_=>?_⟩;rw[bb,aj];refine⟨λh=>by simp at h,λ_=>?_⟩;have x:Ext w s:=C.then (q.trans f) (λr I he=>by have he:r=g:=he;omega);rw[aV cL.u (h.ext x)];exact⟨x,_,rfl⟩
theorem MG(a:Bytes t)(e:t.length<=100000)(f:t≠[])(hw:∀b∈t,bO b=true):ai x8 Il [bU t] w λv w'=>v= .bool true/\Ext w w':=by
 have y:=CB f hw;refine ay func217 ?_;refine vg c5.u cL.u cH.u a Ω λbv J j z _=>?_;refine(MF z a e f hw).mono ?_;rintro _ U _ ⟨p,n,rfl⟩;rw[gq,gu,gv];refine vg c5.u cL.u cH.u a Ω λI K q A _=>?_;refine(CC A a e).mono ?_;rintro _ L _ ⟨B,g,R,rfl,M,s,N⟩;rw[y]at s;refine(qj s).mono ?_;rintro _ x _ ⟨C,_,m,rfl⟩;rw[gq,gu,gv];have E:Ext w x:=(((j.trans p).trans (q.trans B))).then C (λr O he=>by
  have he:r=g:=he;have:=j.size;have:=p.size;have:=q.size;omega)
 refine aW (λv G=>x=G/\v= .bool true) ?_ ?_
 .rintro _ _ ⟨rfl,rfl⟩;exact⟨rfl,E⟩
 .intro aw H;rw[bb,aj];refine⟨λ_=>?_,λh=>absurd rfl h⟩;rw[bb,aj];refine⟨λ_=>?_,λh=>absurd rfl h⟩;rw[An a a];exact H _ _ ⟨rfl,by rw[decide_eq_true rfl]⟩
theorem MH{x:Int}:ai x8 uS [Δ x] w λv w'=>v= .bool (decide (¬ih x))/\Ext w w':=by
 refine ay func216 ?_;refine aW (λv J=>w=J/\v= .bool (decide (¬ih x))) ?_ ?_
 .rintro _ _ ⟨rfl,rfl⟩;exact⟨rfl,Ext.refl _⟩
 .intro aw e;rw[aR,aj];refine⟨λh=>e _ _ ⟨rfl,by rw[decide_eq_true];intro a;have:=a.1;omega⟩,λh=>?_⟩;rw[bS];refine e _ _ ⟨rfl,?_⟩;congr 1;rw[V7,decide_eq_true_eq,decide_eq_true_eq];exact⟨λf a=>by have:=a.2;omega,λf=>by
   by_cases j:32<x
   .exact j
   .exact absurd ⟨Ω,Ω⟩ f⟩
theorem MI(h:aH .i64 w sv l)(f:∀x∈l,ih x):
  ai x8 uR [sv,.func (.func uS) #[] #[]] w λv w'=>v= .bool false/\Ext w w':=by
 refine ay func214 ?_;refine ai.mono (K:=λv w'=>v=Δ (-1)/\Ext w w') ?_ ?_
 .refine ay func138 ?_;rw[aV an.u h];refine b3.range l.length (λ_ _ J=>Ext w J) h.le (Ext.refl _) ?_ ?_
  .rintro i _ J k hi a hk;refine bD Ω ?_;obtain⟨x,e⟩:=aD (l:=l) hi;rw[bc an.u ag.i Ψ (h.ext a) e];show ai x8 uS [Δ x] J _;refine MH.mono ?_;rintro _ U _ ⟨rfl,j⟩;rw[aj];refine⟨λp=>absurd (f x (x6 e)) p,λ_=>?_⟩;rw[aM];exact hk _ _ (a.trans j)
  .rintro _ J k a;rw[aR,aj];exact⟨λh=>Ω,λ_=>⟨rfl,a⟩⟩
 .rintro _ J _ ⟨rfl,a⟩;rw[cQ];exact⟨rfl,a⟩
theorem sY{m:Bool}{S R:af}{d:ha}(h:ak.rep m S R w cs d):∃sv g a aO gs,cs=[sv,Γ g]/\aH .i64 w sv d.1/\fK w g a aO gs d.2.ah d.2.k d.2.o d.2.D:=by
 obtain⟨c,e,A,B,rfl,_,_,_,h1,f⟩:=h;have h1:ak.rep (α:=Λ) false bx R w c d.1:=h1;obtain⟨u,rfl⟩:=V0.1 (show c.length=1 from ak.len h1);obtain⟨g,m,sv,gs,rfl,j,_⟩:=f;exact⟨u,g,m,sv,gs,rfl,dD h1,j⟩
theorem MJ{W:Nat}{f:ca}{d:ha}{x:cw}{m:Bool}{S R:af}(ao:lf w W f)(ap:ff N f)(aq:x∈f.funs)(au:qE f.k x d)(av:ak.rep m S R w cs d):
  ai x8 II [Γ W,.agg cs.toArray] w λv w'=>v= .bool true/\Ext w w':=by
 obtain⟨szv,aK,gz,aL,X,Y,_,_⟩:=ao;obtain⟨sv,ac,aN,aO,gs,rfl,s,K⟩:=sY av;obtain⟨ax,Z,az,aP,aS,aT⟩:=au;obtain⟨G,aU,aX⟩:=ap.funs x aq;rw[ax]at s;refine ay func255 ?_;refine bk λal J aZ A H=>?_;have H:ad J al cD [sv,Γ ac]:=by obtain⟨_,_,_,rfl⟩:=cY s;exact H
 refine aW (λv U=>Ext J U/\v= .bool false) ?_ ?_
 rotate_left
 .intro aw L;intro U q _ _;have z:=H.ext q;rw[aG cD.p 1 z rfl,da eZ.u];simp only[Z6,aY];rw[aG cD.p 1 z rfl,aQ cC.p 1 (X.ext (A.trans q)) rfl];refine(KX (K.ext (A.trans q)).is).mono ?_;rintro _ B _ ⟨rfl,a⟩;refine⟨.inl a,?_⟩;rw[bK,aj];refine⟨λh=>absurd az h,λ_=>?_⟩;have C:=z.ext a;have M:=q.trans a;rw[aG cD.p 1 C rfl,aG cD.p 0 C rfl,aV an.u (s.ext (A.trans M))];refine(KY (K.ext (A.trans M)).is).mono ?_;rintro _ I _ ⟨rfl,e⟩;refine⟨.inl e,?_⟩;rw[bK];refine L _ _ ⟨M.trans e,?_⟩;rw[decide_eq_false];intro h;exact h (by rw[Z,G.sizes,u7])
 rintro _ U ⟨q,rfl⟩;rw[aY];have z:=H.ext q;have O:=A.trans q;rw[aG cD.p 0 z rfl,aV an.u (s.ext O)];refine b3.range x.scope.length (λ_ _ B=>Ext U B) Ω (Ext.refl _) ?_ ?_
 rotate_left
 .rintro _ B k a;rw[aR,aj];exact⟨λh=>Ω,λ_=>⟨rfl,O.trans a⟩⟩
 rintro i _ B k hi a hk;obtain⟨v,E⟩:=aD (l:=x.scope) hi;have a1:=G.scope.2 v (x6 E);have P:=O.trans a;have C:=z.ext a;have aa:=X.ext P;have aA:f.sizes[v.toNat]?=σ (f.sizes.getD v.toNat 0):=by
  rw[u4,x7 Ω];rfl
 refine bD Ω ?_;rw[bc an.u ag.i Ψ (s.ext P) E];refine aW (λb I=>Ext B I/\b= .bool false) ?_ ?_
 .rintro _ I ⟨e,rfl⟩;rw[aY,aM];exact hk _ _ (a.trans e)
 .intro aw L;intro I e _ _;have Q:=P.trans e;refine b7 Ω ?_;rw[aQ cC.p 2 (aa.ext e) rfl,aV an.u (Y.ls.ext Q),cQ,aj];refine⟨λh=>Ω,λ_=>?_⟩;rw[aG cD.p 0 (C.ext e) rfl];refine(Cv (s.ext Q)).mono ?_;rintro _ a2 _ ⟨ab,r,rfl,aB⟩;have aC:r=(i:Int):=(aB i E).2 λj a6 aE=>by have:=kq G.scope.1 aE E;omega
  subst aC;have ae:=Q.trans ab;have V:=e.trans ab;rw[bK,aj];refine⟨λh=>absurd rfl h,λ_=>?_⟩;rw[aG cD.p 1 (C.ext V) rfl,aQ cC.p 2 (aa.ext V) rfl];refine sf (y:=v) (i:=v.toNat) Ω an.u ag.i (Y.ls.ext ae) aA λb o aH=>?_;rw[aF Ψ aH];refine(vF (K.ext ae).is).mono ?_;rintro a7 a8 _ ⟨am,ba,bb,aI⟩;refine⟨.inl am,?_⟩;have aJ:d.2.ah[i]?=σ (f.sizes.getD v.toNat 0):=by
   rw[Z,G.sizes,v8,E];rfl
  rw[bc an.u ag.i Ψ aI.ls aJ,bK];exact L _ _ ⟨V.trans am,by rw[decide_eq_false (λh=>h rfl)]⟩
theorem MK{f:ca}{d:ha}{x:cw}{m:Bool}{S R:af}(q:lf w j f)(r:ff N f)(s:x∈f.funs)(y:qE f.k x d)(a:ak.rep m S R w cs d):
  ai x8 uT [Γ j,.agg cs.toArray] w λv w'=>v= .bool false/\Ext w w':=by
 refine ay func219 ?_;refine bk λal J C e h=>?_;have z:cs.length=2:=ak.len a;have h:ad J al cD cs:=by
  obtain⟨sv,ac,E,aO,gs,rfl,A,G⟩:=sY a;obtain⟨_,_,_,rfl⟩:=cY A;exact h
 rw[bF cD.p cD.i z h.range];refine(MJ (q.ext e) r s y (bi a e)).mono ?_;rintro _ U _ ⟨rfl,B⟩;rw[bJ];exact⟨rfl,e.trans B⟩
theorem ML{f:ca}{r:x3}{e:List ha}{m:Bool}{S R:af}(A:lf w j f)(B:ff N f)(q:ak.rep m S R w [r] e)(s:sW f.k f.funs e):
  ai x8 Im [r,.func (.func uT) #[Γ j] #[]] w λv w'=>v= .bool false/\Ext w w':=by
 refine ay func218 ?_;refine ai.mono (K:=λv w'=>v=Δ (-1)/\Ext w w') ?_ ?_
 .refine ay func254 ?_;rw[fG dN.u q];refine b3.range e.length (λ_ _ J=>Ext w J) (lW q) (Ext.refl _) ?_ ?_
  .rintro i _ J k hi a hk;refine bD Ω ?_;obtain⟨d,y⟩:=aD (l:=e) hi;obtain⟨x,z⟩:∃x,f.funs[i]?=σ x:=⟨_,x7 (by have:=s.1;omega)⟩;refine lX (α:=ha) cD.p rfl dN.u cD.i (bi q a) y λcs C=>?_;show ai x8 uT [Γ j,.agg cs.toArray] J _;refine(MK (A.ext a) B (x6 z) (s.2 i x d z y) C).mono ?_;rintro _ U _ ⟨rfl,E⟩;rw[aY,aM];exact hk _ _ (a.trans E)
  .rintro _ J k a;rw[aR,aj];exact⟨λh=>Ω,λ_=>⟨rfl,a⟩⟩
 .rintro _ J _ ⟨rfl,a⟩;rw[cQ];exact⟨rfl,a⟩
def l5(a:List cw):Nat:=(a.map λx=>x.lines.length).sum
theorem MM{ae:Nat}{f:ca}(af:lf w ae f)(r:ff N f)(bf:N<=60000)(V:f.name≠[]/\∀b∈f.name,bO b=true):
  ai x8 HT [Γ ae] w λv w'=>Ext w w'/\∃e:Int,v=Δ e/\(l5 f.funs<=16384->e=0):=by
 obtain⟨szv,bg,gz,y,A,W,X,B⟩:=id af;have bh:=r.name;have aC:Bytes f.name:=λb aE=>by
  have:=of_decide_eq_true (V.2 b aE);omega
 refine ay func175 ?_;rw[da uV.u];simp only[Z6,aY];refine aW (λv J=>Ext w J/\v= .bool false) ?_ ?_
 rotate_left
 .intro aw s;rw[aQ cC.p 0 A rfl];refine(MG aC Ω V.1 V.2).mono ?_;rintro _ J _ ⟨rfl,q⟩;rw[bJ,Y9,aY];rw[aQ cC.p 2 (A.ext q) rfl,aV an.u (W.ls.ext q),bb,aj];refine⟨λh=>by have:=r.sizes.1;omega,λ_=>?_⟩;rw[aQ cC.p 2 (A.ext q) rfl];refine(MI (W.ls.ext q) r.sizes.2.2).mono ?_;rintro _ U _ ⟨rfl,C⟩;have ak:=q.trans C;rw[aY,aQ cC.p 1 (A.ext ak) rfl];refine zQ.mono ?_;rintro _ E _ ⟨rfl,G⟩;have M:=ak.trans G;rw[decide_eq_true (show right f.k from r.k),bJ,Y9,aY,aQ cC.p 3 (A.ext M) rfl,kV];refine(ML (af.ext M) r (bi X M) B).mono ?_;rintro _ am _ ⟨rfl,aF⟩;exact s _ _ ⟨M.trans aF,rfl⟩
 rintro _ J ⟨q,rfl⟩;rw[aY];have O:=A.ext q;refine aW (λv U=>J=U/\v= .bool false) ?_ ?_
 rotate_left
 .intro aw s;rw[aQ cC.p 0 O rfl,nF c5.u,bS,aj];refine⟨λh=>Ω,λ_=>?_⟩;rw[aQ cC.p 2 O rfl,aV an.u (W.ls.ext q),bS,aj];refine⟨λh=>by have:=r.sizes.2.1;omega,λ_=>?_⟩;rw[aQ cC.p 3 O rfl,fG dN.u (bi X q),bS];exact s _ _ ⟨rfl,by rw[decide_eq_false];have:=r.k4;have:=B.1;omega⟩
 rintro _ _ ⟨rfl,rfl⟩;have ap:=bi X q;rw[aQ cC.p 3 O rfl,fG dN.u ap];refine⟨λaH aI Y U=>∃i n:Nat,Y=Δ (i:Int)/\i<=y.length/\aH=Δ (n:Int)/\aI= .bool false/\Ext J U/\n<=l5 (f.funs.take i)/\n<=i*60000,λ_ _ Y _=>y.length-(b0 Y).toNat,
  ⟨0,0,rfl,X5 _,rfl,rfl,Ext.refl _,X5 _,Ω⟩,?_⟩
 rintro _ _ _ U ⟨i,n,rfl,hi,rfl,rfl,C,aJ,bj⟩;have bk:y.length<=256:=by rw[B.1];exact r.k4
 rw[aR,aj];refine⟨λav=>?_,λbl=>?_⟩
 .have av:i<y.length:=Ω
  obtain⟨d,ax⟩:=aD (l:=y) av;obtain⟨x,Z⟩:∃x,f.funs[i]?=σ x:=⟨_,x7 (by have:=B.1;omega)⟩;have P:=B.2 i x d Z ax;obtain⟨Q,aK,aL⟩:=r.funs x (x6 Z);have bm:=Q.len;refine ib (λa b E=>Ext U E/\a=Δ ((n+d.2.D.length:Nat):Int)/\b= .bool false) ?_ ?_
  .rintro _ _ E ⟨G,rfl,rfl⟩;rw[aM,wrap_i64 Ω Ω];have aN:=P.2.2.2.2.1;refine⟨⟨i+1,n+d.2.D.length,rfl,Ω,rfl,rfl,C.trans G,?_,?_⟩,by simp only[b0];omega⟩
   .have e:l5 (f.funs.take (i+1))=l5 (f.funs.take i)+x.lines.length:=by
     unfold l5;rw[r8,Z,l7,Z2,List.sum_append,T1,List.map_nil,List.sum_cons,List.sum_nil,Nat.add_zero]
    omega
   .have:(i+1)*60000=i*60000+60000:=Ω
    have bn:d.2.D.length<=60000:=Ω
    omega
  .intro aw s;refine lX (α:=ha) cD.p rfl dN.u cD.i (bi ap C) ax λcs aP=>?_;obtain⟨sv,ac,bo,aO,gs,rfl,aS,az⟩:=sY aP;refine bw cD.i λal E bp G aT=>?_;refine bT (vs:=[sv,Γ ac]) cD.i rfl rfl (by intro v R;simp at R;rcases R with rfl|rfl<;>first|exact aS.cells.2|rfl) aT λam aU bq aA=>?_;have aa:Ext U am:=G.put aU Ω;rw[aG cD.p 1 aA rfl];refine(KW (az.ext aa).is).mono ?_;rintro _ br _ ⟨rfl,ab⟩;have aN:=P.2.2.2.2.1;rw[aM,wrap_i64 Ω Ω,aG cD.p 1 (aA.ext ab) rfl];refine(vF ((az.ext aa).ext ab).is).mono ?_;rintro bt ad _ ⟨aX,bu,bx,aB⟩;rw[aV an.u aB.ls];have bz:d.2.ah.length<=6:=by rw[P.2.1,Q.sizes,u7];exact aK
   refine b3.range d.2.ah.length (λj out S=>Ext ad S/\∃gr,ad.heap.size<=gr/\aq .i64 ao S gr out (d.2.ah.take j)) Ω ⟨Ext.refl _,ad.heap.size,o5 _,aq.nil _ _ _ _⟩ ?_ ?_
   .rintro j out S k aZ ⟨H,gr,a1,I⟩ hk;obtain⟨z,K⟩:=aD (l:=d.2.ah) aZ;refine bD Ω ?_;rw[bc an.u ag.i Ψ (aB.ls.ext H) K];refine eM au.u ao.i rfl λa ga a2 bA L a6=>?_;refine jg au.u ao.i rfl (I.ext L) a6.ls Θ Θ λbB a7 bC bE a8 ba=>?_;have bF:=H.size;have bG:=L.size;rw[aM];refine hk _ _ ⟨(H.trans L).put ba Ω,a7,Ω,?_⟩;rw[r8,K];exact a8
   .rintro out S k ⟨H,gr,a1,I⟩;rw[o6]at I;refine b7 Ω ?_;rw[aY];have bd:d.2.ah=x.sizes:=P.2.1;rw[bd]at I;refine(Bi I.ls λz K=>?_).mono ?_
    .rw[Q.sizes]at K;obtain⟨v,R,rfl⟩:=j0.1 K;have bH:=Q.scope.2 v R;refine(r.sizes.2.2 _ ?_).1;rw[u4,x7 Ω];exact Q3 _
    .rintro _ a2 _ ⟨rfl,L⟩;refine s _ _ _ ⟨(((aa.trans ab).trans aX).trans H).trans L,by congr 1,by rw[aL]⟩
 .have be:i=y.length:=Ω
  subst be;rw[B.1,o6]at aJ;refine aW (λv E=>U=E/\v= .bool (decide (16384<(n:Int)))) ?_ ?_
  .rintro _ _ ⟨rfl,rfl⟩;rw[aj];refine⟨λh=>⟨q.trans C,5,rfl,λbI=>Ω⟩,λh=>⟨q.trans C,0,rfl,λ_=>rfl⟩⟩
  .intro aw s;rw[aY,bS];exact s _ _ ⟨rfl,rfl⟩
theorem sZ:∀{a b:Λ}{i:Nat},(∀(j:Nat)(x y:Int),j<i->a[j]?=σ x->b[j]?=σ y->x=y)->i<=a.length->i<=b.length->fY a b=fY (a.drop i) (b.drop i)
 |_,_,0,_,_,_=>Ξ
 |[],_,i+1,_,h,_=>by simp at h
 |_::_,[],i+1,_,_,h=>by simp at h
 |x::a,y::b,i+1,he,h1,e=>by
  have f:=he 0 x y Ω rfl rfl;subst f;simp only[fY,Int.lt_irrefl,if_false,List.drop_succ_cons];exact sZ (λj u v q hu p=>he (j+1) u v Ω hu p) (by simpa using h1) (by simpa using e)
theorem CD{x:Int}:ai x8 cmp_isNaN_int [Δ x] w λv w'=>v= .bool false/\Ext w w':=by
 refine ay func235 ?_;simp only[bK];exact⟨Ξ,Ext.refl _⟩
theorem CE{x:Int}:ai x8 H0 [Δ x,Δ y] w λv w'=>v=Δ (if x<y then-1 else if y<x then 1 else 0)/\Ext w w':=by
 refine ay func188 ?_;refine CD.mono ?_;rintro _ J _ ⟨rfl,a⟩;refine CD.mono ?_;rintro _ U _ ⟨rfl,e⟩;simp only[aY,aR,bS,aj];exact⟨λh=>⟨by rw[if_pos h],a.trans e⟩,λh=>⟨λf=>⟨by rw[if_neg h,if_pos f],a.trans e⟩,λf=>⟨by rw[if_neg h,if_neg f],a.trans e⟩⟩⟩
theorem MN{b:Λ}(r:aH .i64 w a8 a)(z:aH .i64 w bv b):ai x8 H1 [a8,bv] w λv w'=>v=Δ (fY a b)/\Ext w w':=by
 refine ay func189 ?_;have Z:=r.le;rw[aV an.u r];refine⟨λ_ A J=>∃i:Nat,A=Δ (i:Int)/\i<=a.length/\i<=b.length/\Ext w J/\∀(j:Nat)(x y:Int),j<i->a[j]?=σ x->b[j]?=σ y->x=y,λ_ A _=>a.length-(b0 A).toNat,⟨0,rfl,X5 _,X5 _,Ext.refl _,λj x y O=>Ω⟩,?_⟩;rintro _ _ J ⟨i,rfl,P,Q,f,I⟩;have p:fY a b=fY (a.drop i) (b.drop i):=sZ I P Q;simp only[aR,aj];refine⟨λs=>?_,λaa=>?_⟩
 .have s:i<a.length:=Ω
  obtain⟨x,B⟩:=aD (l:=a) s;have K:a.drop i=x::a.drop (i+1):=by rw[X8 s,(x5.1 B).2]
  rw[bc an.u ag.i Ψ (r.ext f) B,aV an.u (z.ext f)];simp only[cQ,aj];refine⟨λh=>?_,λh=>?_⟩
  .have:b.drop i=[]:=by rw[List.drop_eq_nil_iff];omega
   rw[this,K]at p;exact⟨by rw[p];rfl,f⟩
  have C:i<b.length:=Ω
  obtain⟨y,E⟩:=aD (l:=b) C;have R:b.drop i=y::b.drop (i+1):=by rw[X8 C,(x5.1 E).2]
  rw[bc an.u ag.i Ψ (z.ext f) E];refine CE.mono ?_;rintro _ U _ ⟨rfl,L⟩;rw[K,R]at p;simp only[fY]at p;simp only[bK,aj,aM];refine⟨λM=>⟨?_,f.trans L⟩,λS=>?_⟩
  .rw[p];by_cases h1:x<y
   .rw[if_pos h1,if_pos h1]
   .by_cases q:y<x
    .rw[if_neg h1,if_pos q,if_neg h1,if_pos q]
    .rw[if_neg h1,if_neg q]at M;exact absurd rfl M
  .rw[wrap_i64 Ω Ω];refine⟨⟨i+1,rfl,s,C,f.trans L,λj V W O G H=>?_⟩,by simp only[b0];omega⟩;by_cases X:j=i
   .subst X;rw[B]at G;rw[E]at H;cases G;cases H;have N:=X2.1 S;by_cases h1:x<y
    .rw[if_pos h1]at N;omega
    .by_cases q:y<x
     .rw[if_neg h1,if_pos q]at N;omega
     .omega
   .exact I j V W Ω G H
 .have Y:i=a.length:=Ω
  subst Y;rw[List.drop_length]at p;rw[aV an.u (r.ext f),aV an.u (z.ext f)];simp only[aR,aj];refine⟨λh=>⟨?_,f⟩,λh=>⟨?_,f⟩⟩
  .obtain⟨y,l,e⟩:∃y l,b.drop a.length=y::l:=⟨_,_,X8 Ω⟩;rw[p,e];rfl
  .have:b.drop a.length=[]:=by rw[List.drop_eq_nil_iff];omega
   rw[p,this];rfl
theorem MO{x:Int}{f:x3}(h:aH .i64 w f [x,y]):ai x8 HZ [f] w λv w'=>v=Δ (if x≠0 then x else y)/\Ext w w':=by
 refine ay func187 ?_;rw[aV an.u h];refine b3.range 2 (λi _ J=>Ext w J/\(1<=i->x=0)/\(2<=i->y=0)) Ω ⟨Ext.refl _,Ω,Ω⟩ ?_ ?_
 .rintro i _ J k hi ⟨a,h1,e⟩ hk;rw[aR,aj];refine⟨λ_=>?_,λh=>by simp at h;omega⟩
  match i,hi,h1,e,hk with
  |0,_,h1,e,hk=>
   rw[bc (i:=0) an.u ag.i Ψ (h.ext a) rfl,bK,aj];refine⟨λj=>⟨by rw[if_pos j],a⟩,λhe=>?_⟩;rw[aM];exact hk _ _ ⟨a,λ_=>X2.1 he,λh=>Ω⟩
  |1,_,h1,e,hk=>
   rw[bc (i:=1) an.u ag.i Ψ (h.ext a) rfl,bK,aj];have p:=h1 (o5 _);refine⟨λj=>⟨by rw[if_neg Ω],a⟩,λhe=>?_⟩;rw[aM];exact hk _ _ ⟨a,λ_=>p,λ_=>X2.1 he⟩
 .rintro _ J k ⟨a,h1,e⟩;have p:=h1 Ω;have q:=e Ω;rw[aR,aj];exact⟨λh=>by simp at h,λ_=>⟨by rw[if_neg Ω,q],a⟩⟩
structure ct where
 sv:x3
 g:Nat
 sc:Λ
 cs:Λ
def eG(h:ct):List x3:=[h.sv,Γ h.g]
abbrev jS(h:ct):x3:=.agg (eG h).toArray
def qG(h:ct):Int:=dc h.sc
def iP(w:x4)(a:Nat)(h:ct):Prop:=(∃e,aq .i64 ag w e h.sv h.sc)/\(∀r,leads h.sv r->r≠a)/\jn h.sc
theorem iP.aa{a:Nat}{h:ct}(ap:iP w a h)(e:ae S w w')(f:∀r,leads h.sv r->¬S r):iP w' a h:=by
 obtain⟨⟨j,hm⟩,p⟩:=ap;exact⟨⟨j,br hm e f⟩,p⟩
theorem iP.one{a:Nat}{h:ct}(ap:iP w a h):∀u∈eG h,u.oneCell'=true:=by
 obtain⟨⟨e,hm⟩,_⟩:=ap;intro u hu;simp[eG]at hu;rcases hu with rfl|rfl
 .exact hm.ls.cells.2
 .rfl
def fc(w:x4)(g:Nat)(v:x3)(L:List ct):Prop:=be eG 2 cW w g v L/\∀h∈L,iP w g h
theorem fc.ext{g:Nat}{L:List ct}(h:fc w g v L)(a:Ext w w'):fc w' g v L:=⟨h.1.ext a,λx e=>(h.2 x e).aa (a.aa λ_=>False) λ_ _ h=>h⟩
theorem fc.at{g:Nat}{L:List ct}(h:fc w g v L){i:Nat}{x:ct}(hi:L[i]?=σ x):iP w g x:=h.2 x (x6 hi)
theorem s3{g:Nat}{L:List ct}{i:Nat}{x:ct}{K:x3->Prop}(a:y=(i:Int))(h:fc w g v L)(hi:L[i]?=σ x):
  V x8 (j5 gm v (Δ y)) w (λp=>V x8 (u5 cW p) w K)=K (jS x):=by
 rw[dE a gm.u cW.i h.1 (x5.1 hi).1,bF cW.p cW.i rfl (h.1.range hi)]
theorem MP{g:Nat}{L:List ct}{i:Nat}{x:ct}{K:Unit->x4->Prop}(q:y=(i:Int))(h:fc w g v L)(hi:i<L.length)(hk:iP w g x)(s:∀w',ae (λr=>leadsTo v r) w w'->fc w' g v (L.set i x)->K () w'):V x8 (j5 gm v (Δ y)) w λp=>aC x8 (o8 cW p (jS x)) w K:=by
 rw[dE q gm.u cW.i h.1 hi];refine KZ (f:=eG) cW.i h.1 rfl hk.one hi λw' e _ h'=>s w' e ⟨h',λz a=>?_⟩;rcases W5 a with a|rfl
 .exact (h.2 z a).aa e λr j he=>(h.2 z a).2.1 r j (h.1.leads he).1
 .exact hk.aa e λr j he=>hk.2.1 r j (h.1.leads he).1
abbrev MQ:x3:=.func (.func zj) #[] #[]
def s4(a b:ct):Int:=let c:Int:=if(a.sc.length:Int)<b.sc.length then-1 else if(b.sc.length:Int)<a.sc.length then 1 else 0
 if c≠0 then c else fY a.sc b.sc
theorem MR{a b:ct}(f:jn a.sc)(j:jn b.sc):s4 a b<0↔qG a<qG b:=by
 have p:=(vR f j).1;unfold qG s4;simp only;generalize q:(if(a.sc.length:Int)<b.sc.length then(-1:Int)else if(b.sc.length:Int)<a.sc.length then 1 else 0)=c;rw[p,<-q];by_cases h1:(a.sc.length:Int)<b.sc.length
 .rw[if_pos h1,if_pos Ω];exact⟨λ_=>.inl Ω,λ_=>Ω⟩
 .by_cases e:(b.sc.length:Int)<a.sc.length
  .rw[if_neg h1,if_pos e,if_pos Ω];exact⟨λh=>Ω,λh=>by rcases h with h|h<;>omega⟩
  .rw[if_neg h1,if_neg e,if_neg Ω];exact⟨λh=>.inr ⟨Ω,h⟩,λh=>by rcases h with h|h;omega;exact h.2⟩
theorem MS{y:Nat}{a b:ct}(A:iP w y a)(B:iP w y b):ai x8 zj [jS a,jS b] w λv w'=>Ext w w'/\v=Δ (s4 a b):=by
 obtain⟨⟨ga,r⟩,_,L⟩:=A;obtain⟨⟨M,s⟩,_,N⟩:=B;refine ay func186 ?_;refine bk λg1 J O C h=>?_;refine bk λE U P z j=>?_;have h:ad J g1 cW [a.sv,Γ a.g]:=by
  obtain⟨_,_,_,e⟩:=cY r.ls;simp only[jS,eG,e]at h ⊢;exact h
 have j:ad U E cW [b.sv,Γ b.g]:=by
  obtain⟨_,_,_,e⟩:=cY s.ls;simp only[jS,eG,e]at j ⊢;exact j
 intro Q x _ _;have f:=(C.trans z).trans x;have f1:=(h.ext z).ext x;have f2:=j.ext x;rw[aG cW.p 0 f1 rfl,aV an.u (r.ls.ext f),aG cW.p 0 f2 rfl,aV an.u (s.ls.ext f),
  aG cW.p 0 f1 rfl,aG cW.p 0 f2 rfl]
 refine CE.mono ?_;rintro _ R _ ⟨rfl,q⟩;refine⟨.inl q,?_⟩;refine(MN ((r.ls.ext f).ext q) ((s.ls.ext f).ext q)).mono ?_;rintro _ S _ ⟨rfl,G⟩;refine Ab (l:=[if(a.sc.length:Int)<b.sc.length then(-1:Int)else if(b.sc.length:Int)<a.sc.length then 1 else 0,fY a.sc b.sc]) an.u ag.i Ω rfl Ψ λV W X Y H I=>?_;refine(MO I.ls).mono ?_;rintro _ Z _ ⟨rfl,K⟩;exact⟨((((f.trans q).trans G).trans H).trans K),rfl⟩
theorem MT{g:Nat}{L:List ct}(h:fc w g v L)(E:L.length<65536):
  ai x8 HY [v,MQ] w λ_ w'=>ae (λr=>leadsTo v r) w w'/\∃M,M.Perm L/\sI qG M 0 M.length/\fc w' g v M:=by
 have j:∀{s:x4}{a:ct},ae (λr=>r=g) w s->iP w g a->iP s g a:=λf e=>e.aa f λr z he=>e.2.1 r z he;refine(BI K9 (G:=iP w g) (num:=qG) (cf:=s4) (cap:=#[]) Ld Le (λa e=>e.one) (λa _=>rfl) (λa b e A=>MR e.2.2 A.2.2) (Enters.of x8 Lf rfl Ψ) h.1 h.2 E λs a b f e A=>MS (j f e) (j f A)).mono ?_;rintro _ w' _ ⟨f,M,C,hu,hm⟩;have H:ae (λr=>r=g) w w':=f.mono λr _ z=>(h.1.leads z).1;exact⟨f,M,C,λp q x y _ I _ B J=>hu p q x y I B J,hm,λx B=>j H (h.2 x (C.mem_iff.1 B))⟩
theorem MU{m:Λ}(p:kt l)(q:l.Nodup)(e:m.Perm l)(I:m.Pairwise (·<= ·)):m=bo l:=by
 refine vS (f:=λx=>x) ?_ (vQ l) λx=>?_
 .have r:m.Nodup:=e.nodup_iff.2 q;exact(List.Pairwise.and I r).imp λ{a b}h=>by
   obtain⟨h1,j⟩:=h;have j:a≠b:=j;omega
 .rw[e.mem_iff,qB p]
theorem MV(h:∀z∈l,1<=z/\z<=32)(a:dt l=false):aN l<=4096:=by
 have:=of_decide_eq_false a;rw[vU h]at this;omega
theorem MW{f:ca}{d:ha}{x:cw}{m:Bool}{S R:af}(q:ff N f)(bj:N<=60000)(Q:x∈f.funs)(aB:qE f.k x d)(aC:ak.rep m S R w cs d):
  ai x8 HU [.agg cs.toArray] w λv w'=>Ext w w'/\∃sv gs G V W,v= .tuple #[sv,Γ G]/\w.heap.size<=gs/\aq .i64 ag w' gs sv (bo x.scope)/\df w' G V W (bI f.sizes (bo x.scope)) f.k (hZ f.sizes f.k x).2:=by
 obtain⟨sv,ac,bl,aO,bn,rfl,H,aE⟩:=sY aC;obtain⟨aF,aH,aI,bp,bq,aJ⟩:=aB;obtain⟨a,aK,aL⟩:=q.funs x Q;have ab:=sO a q.sizes.2.1;have br:=a.len;rw[aF]at H;have aN:∀z∈x.sizes,1<=z/\z<=32:=λz ah=>by
  rw[a.sizes]at ah;obtain⟨v,aP,rfl⟩:=j0.1 ah;have bt:=a.scope.2 v aP;refine q.sizes.2.2 _ ?_;rw[u4,x7 Ω];exact Q3 _
 have aQ:=MV aN aL;have X:=sN ab a.scope.1;have bu:(bo x.scope).length<=6:=by rw[X.length_eq];exact aK
 refine ay func176 ?_;refine bk λal J bw aj A=>?_;have A:ad J al cD [sv,Γ ac]:=by obtain⟨_,_,_,rfl⟩:=cY H;exact A
 rw[aG cD.p 1 A rfl];refine(Cp (aE.ext aj).is Ω).mono ?_;rintro _ U _ ⟨Y,_,B⟩;rw[aH]at B;obtain⟨g,bx,bB,aR,rfl,bC,bE,B,am⟩:=B aQ;rw[aI]at B;rw[bz,bA,aG cD.p 0 (A.ext Y) rfl];have C:=aj.trans Y;refine vX (H.ext C) Ω λv ao gs bF K bG aS I L=>?_;have aT:=MU ab a.scope.1 aS I;subst aT;have bH:=C.size;rw[aV an.u L.ls];refine jG (k:=.i64) an.u ag.i Ω Ω λgo ap bJ M au=>?_;have aU:aq .i64 ag ap go (.slice (σ ⟨go,0,ν⟩) (bo x.scope).length (bo x.scope).length) (o4 (bo x.scope).length 0):=aq.of (bW.full (k:=1) (n:=(bo x.scope).length) au Ξ (by simp[maxLen];omega));rw[aV an.u (L.ls.ext M)];have bK:=au.lt;have O:(fZ x.scope (bo x.scope)).length=(bo x.scope).length:=by simp[fZ]
 have aW:=K.trans M;have bL:=C.trans aW;refine b1.range (bo x.scope).length (λi h=>ae (λr=>r=go) ap h/\aq .i64 ag h go (.slice (σ ⟨go,0,ν⟩) (bo x.scope).length (bo x.scope).length) ((fZ x.scope (bo x.scope)).take i++o4 ((bo x.scope).length-i) 0)) Ω ⟨ae.refl _ _,by simpa using aU⟩ ?_ ?_
 .rintro i h k hi ⟨P,E⟩ hk;obtain⟨v,Z⟩:=aD (l:=(bo x.scope)) hi;have s:Ext ao h:=M.put P Ω;have aX:Ext w h:=(C.trans K).trans s;have aY:v∈x.scope:=X.mem_iff.1 (x6 Z);refine bD Ω ?_;rw[bc an.u ag.i Ψ (L.ls.ext s) Z];have aZ:Ext J h:=(Y.trans K).trans s;rw[aG cD.p 0 (A.ext aZ) rfl];refine(Cv (H.ext aX)).mono ?_;rintro _ a1 _ ⟨y,r,rfl,a2⟩;have av:=po aY;have a6:r=((x.scope.idxOf v:Nat):Int):=(a2 _ av).2 λj bM a7=>by have:=kq a.scope.1 a7 av;omega
  rw[hV rfl an.u ag.i (E.ext y) (by simp[O];omega)];refine hW ag.i (E.ext y) (by simp[O];omega) λbN a8 bO aw=>?_;rw[aM];refine hk _ ⟨(P.trans (y.aa _)).trans a8,?_⟩;have ba:(fZ x.scope (bo x.scope))[i]?=σ r:=by rw[a6];exact Cj Z
  have e:((fZ x.scope (bo x.scope)).take i++o4 ((bo x.scope).length-i) 0).set i r=(fZ x.scope (bo x.scope)).take (i+1)++o4 ((bo x.scope).length-(i+1)) 0:=by
   have bb:((fZ x.scope (bo x.scope)).take i).length=i:=by rw[n9,O];omega
   rw[T8 _ _ Ω,bb,U4,show(bo x.scope).length-i=((bo x.scope).length-(i+1))+1 by omega,List.replicate_succ,List.set_cons_zero,r8,ba,l7,T3];rfl
  rw[e]at aw;exact aw
 .rintro h k ⟨P,E⟩;have s:Ext ao h:=M.put P Ω;have ax:Ext U h:=K.trans s;refine b7 Ω ?_;rw[U4,List.replicate_zero,U9,j9 Ω]at E;have bd:∀t,dp x.sizes t->bm x.sizes aR t=jM x f.k t:=λt be=>by rw[am.2 t be];exact aJ t
  obtain⟨az,bf⟩:=LY q Q am.1 bd;have bg:Good (fZ x.scope (bo x.scope)) x.sizes.length:=by
   rw[a.sizes,u7];exact sR a.scope.1 X
  have bh:=(pn q Q);refine(MB (B.ext ax) q.k E.ls (by rw[O];omega) λ_=>?_).mono ?_
  .rw[az];exact bh.small
  .rintro _ a1 _ ⟨y,_,bi⟩;obtain⟨G,V,W,rfl,aA⟩:=bi bg;rw[bz,bA];rw[az,bf]at aA;exact⟨(C.trans ax).trans y,v,gs,G,V,W,rfl,Ω,(L.ext s).ext y,aA⟩
theorem MX{P:W9}{t x f:r9}{k y g o cap:Nat}{z:x3}(h:P.underlying t=σ (.slice e))(hi:aP P e k y z)(A:z.cells.size=k)(h1:∀u∈dT z.cells (n*k),u.oneCell'=true)(a:ad w g f cs)(H:o+n*k<=cs.length)(p:∀w',ae (λr=>r=g) w w'->ad w' g f (over cs o (dT z.cells (n*k)))->K (.tuple #[]) w'):aC P (Z4.clear_ #[t] x #[.slice (σ ⟨g,o,ν⟩) n cap]) w K:=by
 obtain⟨i,hi,I,rfl,B⟩:=hi;have C:∀w,(zeroValue e).run P w= .ok z w:=λw=>by simp[zeroValue,typeInfo,hi,B]
 have E:(Z4.zeroCells z.cells n).toList=dT z.cells (n*k):=by
  unfold Z4.zeroCells dT;rw[A]
 have q:=run_storeCells_cells (P:=P) g o (dT z.cells (n*k)) 0 w (λj F=>by
   rw[oO]at F;rw[Nat.add_zero,a.cell (x7 (show o+j<cs.length by omega))];rfl) (λj _=>a.frozen _ _) h1
 simp only[Nat.add_zero]at q;obtain⟨G,s⟩:=ny (dT z.cells (n*k)) cs o w a;rcases Q2 n with rfl|J
 .refine .of (v:=.tuple #[]) (w':=w) (by simp[Z4.clear_,run_underlying h]) (cJ.refl _) (p w (ae.refl _ _) ?_);rw[Nat.zero_mul,b9 (oO z.cells 0)];exact a
 .obtain⟨m,rfl⟩:∃m,n=m+1:=⟨n-1,Ω⟩;refine .of (v:=.tuple #[]) (w':=_) (by simp[Z4.clear_,run_underlying h,C,E,q]) (s.cu a) (p _ s.aa G)
theorem ee{α:Type}{f:α->List x3}{k:Nat}{g:Nat}{L:List α}(h:be f k e w g v L)(j:leadsTo v r):r=g/\∃cs,ad w g e cs:=by
 obtain⟨_,⟨rfl,_⟩|⟨cap,cs,rfl,p,_⟩⟩:=h.1
 .exact (fg j).elim
 .obtain⟨a,n,c,h1,q⟩:=j;cases h1;exact⟨q.symm,cs,p⟩
theorem MY{α:Type}{f:α->List x3}{k:Nat}{g:Nat}{L:List α}(h:be f k e w g v L)(a:L≠[]):∃cs n c,v= .slice (σ ⟨g,0,ν⟩) n c/\ad w g e cs:=by
 obtain⟨_,⟨rfl,j⟩|⟨cap,cs,rfl,p,_⟩⟩:=h.1
 .exact absurd (b9 j) a
 .exact⟨cs,_,_,rfl,p⟩
theorem fc.mk{g:Nat}{L:List ct}(h:be eG 2 cW w g v L)(e:∀x∈L,(∃f,aq .i64 ag w f x.sv x.sc)/\jn x.sc):fc w g v L:=by
 refine⟨h,λx a=>⟨(e x a).1,λr j=>?_,(e x a).2⟩⟩;obtain⟨cs,n,c,_,p⟩:=MY h (λq=>by rw[q]at a;cases a);obtain⟨⟨f,hm⟩,_⟩:=e x a;exact ce hm p Φ j
def Sem(w:x4)(k:Int)(sizes:Λ)(L:List ct):Prop:=∀x∈L,∃a e,df w x.g a e (bI sizes x.sc) k x.cs
theorem wa{g p:Nat}{q:x3}{cs:Λ}(h:df w g p q ah k cs)(e:ae S w w')(f:∀r,S r->∃c,ad w r cW c):df w' g p q ah k cs:=by
 obtain⟨⟨aZ,gs,h1,s,x⟩,y⟩:=h;refine⟨⟨aZ,gs,h1.aa e λI=>?_,br s e λr j I=>?_,br x e λr j I=>?_⟩,y⟩
 .obtain⟨c,a⟩:=f g I;unfold ad at h1 a;rw[h1]at a;have:=(Obj.cells.inj (Z0 a)).2.1;exact absurd this Φ
 .obtain⟨c,a⟩:=f r I;exact ce s a Φ j rfl
 .obtain⟨c,a⟩:=f r I;exact ce x a Φ j rfl
theorem Sem.ext{L:List ct}(h:Sem w k sizes L)(a:Ext w w'):Sem w' k sizes L:=λx e=>by
 obtain⟨f,j,p⟩:=h x e;exact⟨f,j,p.ext a⟩
theorem Sem.row{L M:List ct}{g:Nat}(h:Sem w k sizes L)(a:fc w g v M)(e:ae (λr=>leadsTo v r) w w'):Sem w' k sizes L:=λx f=>by
 obtain⟨j,p,q⟩:=h x f;exact⟨j,p,wa q e λr s=>by obtain⟨rfl,c,y⟩:=ee a.1 s;exact⟨c,y⟩⟩
def dY(h:ct):cI:=(h.sc,h.cs)
theorem MZ{c:Int}:ai x8 uP [Δ c] w λv w'=>v= .bool (decide (0<c))/\Ext w w':=by
 refine ay func183 ?_;rw[bS];exact⟨rfl,Ext.refl _⟩
theorem M0(h:aH .i64 w sv l):
  ai x8 HW [sv,.func (.func uP) #[] #[]] w λv w'=>v= .bool (l.any λc=>decide (0<c))/\Ext w w':=by
 refine ay func182 ?_;refine ai.mono (K:=λv w'=>Ext w w'/\∃r:Int,v=Δ r/\(0<=r↔ ∃c∈l,0<c)) ?_ ?_
 .refine ay func232 ?_;rw[aV au.u h];refine b3.range l.length (λi _ J=>Ext w J/\∀c∈l.take i,¬0<c) h.le ⟨Ext.refl _,λc a=>by simp at a⟩ ?_ ?_
  .rintro i _ J k hi ⟨e,j⟩ hk;refine bD Ω ?_;obtain⟨x,p⟩:=aD (l:=l) hi;rw[bc au.u ao.i Ψ (h.ext e) p];show ai x8 uP [Δ x] J _;refine MZ.mono ?_;rintro _ U _ ⟨rfl,q⟩;rw[aj];refine⟨λf=>⟨e.trans q,i,rfl,⟨λ_=>⟨x,x6 p,f⟩,λ_=>Ω⟩⟩,λs=>?_⟩;rw[aM];refine hk _ _ ⟨e.trans q,λc a=>?_⟩;rw[r8,p]at a;rcases l9.1 a with a|a
   .exact j c a
   .simp at a;subst a;exact s
  .rintro _ J k ⟨e,j⟩;rw[o6]at j;rw[aR,aj];exact⟨λh=>Ω,λ_=>⟨e,-1,rfl,⟨λh=>Ω,λ⟨c,a,f⟩=>absurd f (j c a)⟩⟩⟩
 .rintro _ J _ ⟨e,r,rfl,y⟩;rw[cQ];refine⟨?_,e⟩;congr 1;rw[V7,decide_eq_true_eq,List.any_eq_true,y];exact⟨λ⟨c,a,f⟩=>⟨c,a,decide_eq_true f⟩,λ⟨c,a,f⟩=>⟨c,a,of_decide_eq_true f⟩⟩
theorem CF{h:Nat}{x:ct}{q:x3}(r:iP w h x)(s:df w x.g j q ah k x.cs):ai x8 pX [jS x] w λv w'=>v= .bool (!fH (dY x))/\Ext w w':=by
 obtain⟨⟨B,hm⟩,_⟩:=r;refine ay func181 ?_;refine bk λal J C f a=>?_;have a:ad J al cW [x.sv,Γ x.g]:=by
  obtain⟨_,_,_,e⟩:=cY hm.ls;simp only[jS,eG,e]at a ⊢;exact a
 rw[aG cW.p 1 a rfl];refine(mG (s.ext f)).mono ?_;rintro E U _ ⟨y,G,H,z⟩;refine(M0 z.ls).mono ?_;rintro _ I _ ⟨rfl,A⟩;rw[bJ];exact⟨rfl,(f.trans y).trans A⟩
theorem M1{g:Nat}{L:List ct}(h:fc w g v L)(I:Sem w k sizes L):
  ai x8 zg [v,.func (.func pX) #[] #[]] w λr w'=>Ext w w'/\((r=Δ (-1)/\∀x∈L,fH (dY x)=true)\/∃i:Nat,r=Δ (i:Int)/\i<L.length/\(∀x∈L.take i,fH (dY x)=true)/\∀x,L[i]?=σ x->fH (dY x)=false):=by
 refine ay func177 ?_;rw[e9 gm.u h.1];refine b3.range L.length (λi _ J=>Ext w J/\∀x∈L.take i,fH (dY x)=true) h.1.le ⟨Ext.refl _,λc a=>by simp at a⟩ ?_ ?_
 .rintro i _ J k hi ⟨e,f⟩ hk;refine bD Ω ?_;obtain⟨x,j⟩:=aD (l:=L) hi;rw[s3 rfl (h.ext e) j];show ai x8 pX [jS x] J _;obtain⟨B,C,s⟩:=I x (x6 j);refine(CF ((h.ext e).at j) (s.ext e)).mono ?_;rintro _ U _ ⟨rfl,p⟩;rw[cj];refine⟨λz=>⟨e.trans p,.inr ⟨i,rfl,hi,f,λy q=>by rw[j]at q;cases q;simpa using z⟩⟩,λA=>?_⟩;rw[aM];refine hk _ _ ⟨e.trans p,λc a=>?_⟩;rw[r8,j]at a;rcases l9.1 a with a|a
  .exact f c a
  .simp at a;subst a;simpa using A
 .rintro _ J k ⟨e,f⟩;rw[o6]at f;rw[aR,aj];exact⟨λh=>Ω,λ_=>⟨e,.inl ⟨rfl,f⟩⟩⟩
def gb(x:ct):Bool:=fH (dY x)
theorem wb{L:List ct}{x:ct}(a:L[j]?=σ x):(L.take (j+1)).filter gb=if gb x=true then(L.take j).filter gb++[x]else(L.take j).filter gb:=by
 rw[r8,a,l7,List.filter_append];by_cases h:gb x=true
 .rw[if_pos h];simp[h]
 .rw[if_neg h];simp[h]
theorem CG{z:Array x3}(a:0<z.size)(h:∀u∈z.toList,u.oneCell'=true):∀u∈dT z n,u.oneCell'=true:=λu hu=>by
 unfold dT at hu;rw[Array.toList_map,j0]at hu;obtain⟨i,_,rfl⟩:=hu;have e:i % z.size<z.size:=Nat.mod_lt _ a;rw[getElem!_pos z (i % z.size) e];exact h _ Ξ
theorem M2{g:Nat}{L:List ct}(h:fc w g v L)(I:Sem w k sizes L)(ba:L.length<=100000):
  ai x8 HX [v,.func (.func pX) #[] #[]] w λf w'=>ae (λr=>leadsTo v r) w w'/\fc w' g f (L.filter gb)/\∀r,leadsTo f r->leadsTo v r:=by
 refine ay func184 ?_;refine(M1 h I).mono ?_;rintro r J _ ⟨G,q⟩;rcases q with⟨rfl,P⟩|⟨Q,rfl,ax,P,az⟩
 .rw[bb,aj];refine⟨λ_=>⟨G.aa _,?_,λr q=>q⟩,λh=>absurd rfl h⟩;rw[List.filter_eq_self.2 (show∀x∈L,gb x=true from P)];exact h.ext G
 rw[bb,aj];refine⟨λh=>Ω,λ_=>?_⟩;rw[aM,wrap_i64 Ω Ω];obtain⟨R,ac⟩:=aD (l:=L) ax;refine⟨λS W U=>∃(i j:Nat)(M:List ct),S=Δ (i:Int)/\W=Δ (j:Int)/\i<j/\j<=L.length/\M.length=L.length/\M.take i=(L.take j).filter gb/\M.drop j=L.drop j/\(∀x∈M,x∈L)/\fc U g v M/\ae (λr=>leadsTo v r) w U,
  λ_ W _=>L.length-(b0 W).toNat,⟨Q,Q+1,L,rfl,by congr 1,Ω,Ω,rfl,?_,rfl,λx s=>s,h.ext G,G.aa _⟩,?_⟩
 .have aA:¬gb R=true:=by rw[show gb R=false from az R ac];simp
  rw[wb ac,if_neg aA,List.filter_eq_self.2 (show∀x∈L.take Q,gb x=true from P)]
 rintro _ _ U ⟨i,j,M,rfl,rfl,bc,bd,ad,A,af,ag,e,H⟩;have aB:Sem U k sizes L:=I.row h H;rw[e9 gm.u e.1,aR,aj];refine⟨λX=>?_,λbe=>?_⟩
 .have X:j<L.length:=Ω
  obtain⟨x,s⟩:=aD (l:=L) X;have K:M[j]?=σ x:=by
   have h1:(M.drop j)[0]?=(L.drop j)[0]?:=by rw[af]
   rw[S2,S2,Nat.add_zero]at h1;rw[h1,s]
  have ah:M.drop (j+1)=L.drop (j+1):=by
   have h1:(M.drop j).drop 1=(L.drop j).drop 1:=by rw[af]
   rw[List.drop_drop,List.drop_drop]at h1;exact h1
  refine aW (λS N=>∃(C:Nat)(z:List ct),S=Δ (C:Int)/\C<j+1/\z.length=L.length/\z.take C=(L.take (j+1)).filter gb/\z.drop (j+1)=L.drop (j+1)/\(∀x∈z,x∈L)/\fc N g v z/\ae (λr=>leadsTo v r) w N) ?_ ?_
  .rintro _ N ⟨C,z,rfl,h1,Y,aE,aF,aG,aH,aI⟩;rw[aM,wrap_i64 Ω Ω];exact⟨⟨C,j+1,z,rfl,rfl,h1,X,Y,aE,aF,aG,aH,aI⟩,by simp only[b0];omega⟩
  .intro aw ak;rw[s3 rfl e K];refine bw cW.i λal N bf aJ aK=>?_;refine bT (vs:=eG x) cW.i rfl rfl (e.at K).one aK λam aL bg an=>?_;have Z:Ext U am:=aJ.put aL Ω;rw[bF cW.p cW.i rfl an.range];show ai x8 pX [jS x] am _;obtain⟨bh,bi,aN⟩:=aB x (x6 s);refine(CF ((e.ext Z).at K) (aN.ext Z)).mono ?_;rintro _ bj _ ⟨rfl,ao⟩;have E:=Z.trans ao;rw[bJ,Bool.not_not,cj];refine⟨λhk=>?_,λaO=>?_⟩
   .rw[bF cW.p cW.i rfl (an.ext ao).range];refine MP rfl (e.ext E) Ω ((e.ext E).at K) λbk aP aQ=>?_;rw[aM,wrap_i64 Ω Ω];refine ak _ _ ⟨i+1,M.set i x,rfl,Ω,by simp[ad],?_,?_,λy B=>?_,aQ,(H.trans (E.aa _)).trans aP⟩
    .have ab:gb x=true:=hk;rw[wb s,if_pos ab,r8,c9 Ω,l7,List.take_set_of_le (o5 _),A]
    .rw[List.drop_set_of_lt Ω,ah]
    .rcases W5 B with B|rfl
     .exact ag y B
     .exact x6 s
   .have ab:¬gb x=true:=by rw[show gb x=false from aO];simp
    exact ak _ _ ⟨i,M,rfl,Ω,ad,by rw[wb s,if_neg ab,A],ah,ag,e.ext E,H.trans (E.aa _)⟩
 .have aS:j=L.length:=Ω
  subst aS;rw[o6]at A;obtain⟨⟨bl,aT⟩,ap⟩:=e.1;rcases aT with⟨_,bm⟩|⟨cap,cs,aU,aV,bn,aX,aY,aZ⟩
  .omega
  subst aU;have a1:(V x8 (V8 gm (.slice (σ ⟨g,0,ν⟩) M.length cap) (σ (Δ (i:Int))) ν ν) U λa2=>
    aC x8 (Z4.clear_ #[gm] I3 #[a2]) U λu O=>
    V x8 (V8 gm (.slice (σ ⟨g,0,ν⟩) M.length cap) ν (σ (Δ (i:Int))) ν) O λa6=>
    (λf w'=>ae (λr=>leadsTo (.slice (σ ⟨g,0,ν⟩) M.length cap) r) w w'/\fc w' g f (L.filter gb)/\∀r,leadsTo f r->leadsTo (.slice (σ ⟨g,0,ν⟩) M.length cap) r) a6 O):=by
   rw[hR (l:=i) (h:=M.length) (m:=cap) gm.u cW.i (nv i _ rfl) jE fE Ω Ω (o5 _),if_neg Ω];simp only[Z7,T4];refine MX (g:=g) (o:=0+i*2) (n:=M.length-i) (k:=2) gm.u cW.i rfl ?_ aV Ω λO aq a7=>?_
   .exact CG Φ Φ
   rw[hR (l:=0) (h:=i) (m:=cap) gm.u cW.i jD (nw i _ rfl) fE Ω Ω (o5 _),if_neg Ω];simp only[Z7,T4,Nat.zero_mul,X3,Nat.sub_zero];have a8:(dT (x3.agg #[.slice ν 0 0,.pointer ν]).cells ((M.length-i)*2)).length=(M.length-i)*2:=oO _ _;have bo:(M.flatMap eG).length=M.length*2:=io ap;have au:(L.filter gb).length=i:=by rw[<-A,n9];omega
   have key:(λf w'=>ae (λr=>leadsTo (.slice (σ ⟨g,0,ν⟩) M.length cap) r) w w'/\fc w' g f (L.filter gb)/\∀r,leadsTo f r->leadsTo (.slice (σ ⟨g,0,ν⟩) M.length cap) r) (.slice (σ ⟨g,0,ν⟩) (L.filter gb).length cap) O:=by
    refine⟨H.trans (aq.mono λr _ he=>⟨_,_,_,rfl,he.symm⟩),⟨⟨⟨io (k:=2) (λy _=>rfl),.inr ⟨cap,_,rfl,a7,Ω,aX,by rw[lU,aY],?_⟩⟩,λy _=>rfl⟩,λy B=>?_⟩,λr q=>?_⟩
    .rw[au,<-A,<-qv i ap,<-aZ,List.take_take,mv (by rw[a8];omega),T3,List.take_append_of_le_length (by rw[n9];omega),List.take_take];congr 1;omega
    .have av:y∈M:=by rw[<-A]at B;exact T9 B
     exact(e.2 y av).aa aq λr q he=>(e.2 y av).2.1 r q he
    .obtain⟨a,n,c,h1,Y⟩:=q;cases h1;exact⟨_,_,_,rfl,Y⟩
   rw[au]at key;exact key
  exact a1
theorem qH{k:o9}{g cap:Nat}{b:Option Addr}(h:aq k e w g (.slice b n cap) l)(r:0<l.length):
  b=σ ⟨g,0,ν⟩/\n=l.length/\∃cs,ad w g e cs/\n<=cap/\cap<=maxLen/\cs.length=cap/\cs.take n=ints k l:=by
 obtain⟨_,⟨_,h1⟩|⟨s,cs,h1,a,f,j,p,q⟩⟩:=h
 .omega
 .cases h1;exact⟨rfl,rfl,cs,a,f,j,by simpa using p,by simpa using q⟩
theorem M3{g cap:Nat}(h:aq .i64 ag w g (.slice (σ ⟨g,0,ν⟩) n cap) l)(p:j<l.length):aH .i64 w (.slice (σ ⟨g,j,ν⟩) (n-j) (cap-j)) (l.drop j):=by
 obtain⟨_,q,cs,a,h1,r,s,f⟩:=qH h Ω;have:=JC (o:=j) (k:=n-j) (c:=cap-j) a Ω Ω Ω;refine aH.of (n:=n-j) ?_;have e:(cs.drop j).take (n-j)=ints .i64 (l.drop j):=by
  rw[<-List.drop_take,f,ints,ints,List.map_drop]
 rw[e]at this;exact this
theorem M4{g:Nat}(h:aq .i64 ag w g sv l)(aT:l.length<=1000):
  ai x8 Ir [sv] w λv w'=>ae (λr=>r=g) w w'/\aq .i64 ag w' g v (dedup l l.length):=by
 refine ay func227 ?_;rw[aV an.u h.ls];simp only[aR,aj];refine⟨λaU=>⟨ae.refl _ _,?_⟩,λaX=>?_⟩
 .rw[sX (o5 _) (λi hi W=>Ω),o6];exact h
 obtain⟨n,s⟩:∃n,l.length=n:=⟨_,rfl⟩;obtain⟨cap,rfl⟩:∃cap,sv= .slice (σ ⟨g,0,ν⟩) n cap:=by
  obtain⟨_,⟨_,h1⟩|⟨ap,cs,h1,_⟩⟩:=id h
  .omega
  .exact⟨ap,by rw[h1,s]⟩
 obtain⟨_,_,_,_,aY,au,_⟩:=qH h Ω;refine⟨λ_ t J=>∃j:Nat,t=Δ (j:Int)/\1<=j/\j<=n/\Ext w J/\∀i,i<j->0<i->l[i]? ≠l[i-1]?,λ_ t _=>n-(b0 t).toNat,⟨1,rfl,Ω,Ω,Ext.refl _,λi h1 X=>Ω⟩,?_⟩;rintro aZ _ J ⟨j,rfl,a1,Y,A,I⟩;rw[aV an.u (h.ls.ext A)];simp only[aR,aj,eg];refine⟨λav U ax _ _=>?_,λa2=>⟨A.aa _,?_⟩⟩
 .have av:j<n:=Ω
  have B:=A.trans ax;have Z:=h.ls.ext B;obtain⟨a,K⟩:=aD (l:=l) (i:=j) Ω;obtain⟨b,L⟩:=aD (l:=l) (i:=j-1) Ω;rw[bc an.u ag.i Ψ Z K];simp only[ec];rw[wrap_i64 Ω Ω,fF (i:=j-1) Ω an.u ag.i Ψ Z L];simp only[bb,aj,aM];refine⟨λM=>?_,λM=>?_⟩
  .subst M;rw[hR an.u ag.i (l:=j) (h:=n) (m:=cap) p4 jE fE Ω Ω Ω,if_neg Ω];have az:V9 (λx:Addr=>x.add (j*1)) (σ ⟨g,0,ν⟩)=σ ⟨g,j,ν⟩:=by simp[T4]
   rw[az];have ab:dedup l (j+1)=l.take j:=by rw[vY Ω (by rw[K,L]),sX Ω I]
   refine⟨λN t O=>∃(q e:Nat)(f:Λ),N=Δ (q:Int)/\t=Δ (e:Int)/\1<=e/\j+e<=n/\ae (λr=>r=g) w O/\aq .i64 ag O g (.slice (σ ⟨g,0,ν⟩) n cap) f/\f.length=n/\
     q=(dedup l (j+e)).length/\f.take q=dedup l (j+e)/\q<=j+e-1/\∀i,j+e-1<=i->f[i]?=l[i]?,λ_ t _=>n-(b0 t).toNat,
    ⟨j,1,l,rfl,rfl,Ω,Ω,B.aa _,h.ext B,s,by rw[ab,n9];omega,by rw[ab],Ω,λi _=>rfl⟩,?_⟩
   rintro _ _ O ⟨q,e,f,rfl,rfl,a6,a7,P,ac,ad,af,C,aA,E⟩;rw[hQ an.u];simp only[aR,aj,eg];refine⟨λah=>?_,λah=>?_⟩
   .have ah:j+e<n:=Ω
    refine aW (λN Q=>∃(q:Nat)(f:Λ),N=Δ (q:Int)/\ae (λr=>r=g) w Q/\aq .i64 ag Q g (.slice (σ ⟨g,0,ν⟩) n cap) f/\f.length=n/\
     q=(dedup l (j+(e+1))).length/\f.take q=dedup l (j+(e+1))/\q<=j+(e+1)-1/\∀i,j+(e+1)-1<=i->f[i]?=l[i]?) ?_ ?_
    .rintro _ Q ⟨q,f,rfl,h1,X,aB,aC,aE,aF,aG⟩;simp only[aM];rw[wrap_i64 Ω Ω];exact⟨⟨q,e+1,f,rfl,rfl,Ω,Ω,h1,X,aB,aC,aE,aF,aG⟩,by simp only[b0];omega⟩
    .intro aw ak a8 R _ _;have G:=ac.ext R;have S:=M3 (j:=j) G Ω;obtain⟨y,H⟩:=aD (l:=l) (i:=j+e) Ω;obtain⟨z,V⟩:=aD (l:=l) (i:=j+e-1) Ω;have al:(f.drop j)[e]?=σ y:=by rw[S2,E _ Ω,H]
     have aH:(f.drop j)[e-1]?=σ z:=by rw[S2,E _ Ω,<-V];congr 1;omega
     rw[bc an.u ag.i Ψ S al];simp only[ec];rw[wrap_i64 Ω Ω,fF (i:=e-1) Ω an.u ag.i Ψ S aH];simp only[bK,aj,aM];refine⟨λp=>?_,λp=>?_⟩
     .rw[bc an.u ag.i Ψ S al,hV rfl an.u ag.i G Ω];refine hW ag.i G Ω λba aI bd aJ=>?_;rw[wrap_i64 Ω Ω];have am:dedup l (j+e+1)=dedup l (j+e)++[y]:=vZ H (λ_=>by rw[H,V];simpa using p);refine ak _ _ ⟨q+1,_,rfl,(P.trans (R.aa _)).trans aI,aJ,by simpa using ad,?_,?_,Ω,λi hi=>?_⟩
      .rw[<-R3,am];simp;omega
      .rw[<-R3,am,r8,c9 Ω,List.take_set_of_le (o5 _),C];rfl
      .rw[Y5 Ω];exact E i Ω
     .have p:y=z:=X2.1 p;have ao:dedup l (j+e+1)=dedup l (j+e):=vY Ω (by rw[H,V,p]);exact ak _ _ ⟨q,f,rfl,P.trans (R.aa _),G,ad,by rw[<-R3,ao];exact af,by rw[<-R3,ao];exact C,Ω,λi hi=>E i Ω⟩
   .have hk:j+e=n:=Ω
    rw[hk]at af C aA;obtain⟨_,_,cs,aK,_,_,be,aL⟩:=qH ac Ω;simp only[maxLen]at au;rw[hR an.u ag.i (l:=q) (h:=n) (m:=cap) p4 jE fE Ω Ω Ω,if_neg Ω];have aN:V9 (λx:Addr=>x.add (q*1)) (σ ⟨g,0,ν⟩)=σ ⟨g,q,ν⟩:=by simp[T4]
    rw[aN];refine Ad an.u ag.i rfl rfl aK Ω Ω λbf aO bg aP=>?_;rw[hR an.u ag.i (l:=0) (h:=q) (m:=cap) jD p5 fE Ω Ω Ω,if_neg Ω];have aQ:V9 (λx:Addr=>x.add (0*1)) (σ ⟨g,0,ν⟩)=σ ⟨g,0,ν⟩:=by simp[T4]
    rw[aQ,s];refine⟨P.trans aO,?_⟩;rw[<-C];refine aq.of (n:=q) ⟨Θ,.inr ⟨cap,_,Ξ,aP,Ω,by simp only[maxLen];omega,by rw[lU];omega,?_⟩⟩;rw[U2];apply Y7;intro i;by_cases hi:i<q
    .rw[Y0 hi,nx _ _ _ Θ,if_neg Ω,ints,v8,Y0 hi];have:(cs.take n)[i]?=(ints .i64 f)[i]?:=by rw[aL]
     rw[Y0 Ω,ints,v8]at this;exact this
    .rw[Y4 Θ,Y4 Θ]
  .rw[wrap_i64 Ω Ω];refine⟨⟨j+1,rfl,Ω,Ω,B,λi hi W=>?_⟩,by simp only[b0];omega⟩;by_cases aS:i=j
   .subst aS;rw[K,L];intro he;exact M (Z0 he)
   .exact I i Ω W
 .have Y:j=n:=Ω
  rw[sX (o5 _) (by rw[s,<-Y];exact I),o6];exact h.ext A
theorem M5(z:n<=1000000):ai x8 IM [.slice ν 0 0,Δ (n:Int)] w λv w'=>Ext w w'/\∃g,w.heap.size<=g/\aq .i64 ag w' g v []:=by
 refine ay func260 ?_;refine dl (λJ=>w=J) ?_ ?_
 .rintro _ rfl;refine aW (λv w'=>Ext w w'/\∃g,w.heap.size<=g/\aq .i64 ag w' g v []) (λ_ _ h=>h) λaw a=>?_;rw[Ac an.u,hQ an.u];simp only[ec];have e:X7.wrap (((0:Nat):Int)-((0:Nat):Int))=0:=Φ
  have f:X7.wrap ((n:Int)-0)=n:=by rw[wrap_i64 Ω Ω];omega
  rw[e,f];simp only[bS,aj];refine⟨λh=>?_,λh=>a _ _ ⟨Ext.refl _,w.heap.size,o5 _,aq.nil _ _ _ _⟩⟩;rw[Ac an.u,hR an.u ag.i (l:=0) (h:=0) (m:=0) jD p5 fE Ω Ω Ω,if_pos rfl];refine JB (k:=n) (xs:=[]) rfl an.u ag.u ag.i rfl ⟨rfl,0,0,ν,0,rfl,o5 _,X5 _,λh=>absurd h (Nat.lt_irrefl _),λj v h=>by simp at h⟩ Ω Ω Ω Ω λv g w' A p hm=>?_;obtain⟨_,⟨_,B⟩|⟨cap,cs,rfl,q,h1,r,s,C⟩⟩:=hm
  .omega
  rw[hQ an.u,hR an.u ag.i (l:=0) (h:=0) (m:=cap) jD p5 fE Ω Ω Ω,if_neg Ω];have y:V9 (λx:Addr=>x.add (0*1)) (σ ⟨g,0,ν⟩)=σ ⟨g,0,ν⟩:=by simp[T4]
  rw[y];refine a _ _ ⟨p,g,Ω,aq.of (n:=0) ⟨Ξ,.inr ⟨cap,cs,Ξ,q,Ω,r,s,Ξ⟩⟩⟩
 .intro aw a;simp only[aR,aj];exact⟨λh=>Ω,λ_=>a _ rfl⟩
theorem M6{b:Λ}(N:aH .i64 w a8 a)(O:aH .i64 w bv b)(S:a.length<=1000)(V:b.length<=1000)(W:∀v w' g,Ext w w'->w.heap.size<=g->aq .i64 ag w' g v (a++b)->K v w'):
  aC x8 (Y8 b2 2 #[(0,a8),(1,bv)]) w λt J=>ai x8 Is [t] J K:=by
 obtain⟨⟨B,C,E,X⟩,⟨G,H,I,Y⟩⟩:(∃x n c,a8= .slice x n c)/\(∃x n c,bv= .slice x n c):=by
  obtain⟨_,_,_,x,c,h1,_⟩:=id N;obtain⟨_,_,_,y,d,Z,_⟩:=id O;exact⟨⟨x,_,c,h1⟩,⟨y,_,d,Z⟩⟩
 subst X;subst Y;refine jF b2.u an.i Ω (cs:=#[.slice B C E,.slice G H I]) Ψ λg J az q s=>?_;have s:ad J g an [.slice B C E,.slice G H I]:=s;have key:∀i:Nat,i<2->∃v l,[x3.slice B C E,.slice G H I][i]?=σ v/\[a,b][i]?=σ l/\aH .i64 w v l/\l.length<=1000:=λi hi=>by
  match i,hi with
  |0,_=>exact⟨_,_,rfl,rfl,N,S⟩
  |1,_=>exact⟨_,_,rfl,rfl,O,V⟩
 refine ay func228 ?_;rw[hQ b2.u];refine b3.range 2 (λi size U=>Ext J U/\∃n:Nat,n<=1000*i/\size=Δ (n:Int)) Ω ⟨Ext.refl _,0,Ω,rfl⟩ ?_ ?_
 .rintro i _ U aa hi ⟨f,n,ab,rfl⟩ ac;simp only[aR,aj];refine⟨λ_=>?_,λh=>Ω⟩;obtain⟨v,l,L,P,M,ae⟩:=key i hi;refine aW (λv Q=>U=Q/\v=Δ ((n+l.length:Nat):Int)) ?_ ?_
  .rintro _ _ ⟨rfl,rfl⟩;simp only[aM];exact ac _ _ ⟨f,_,Ω,rfl⟩
  .intro aw af;rw[eL (b:=g) (o:=0) b2.u an.i hi (λ_=>rfl),aF Ψ ((s.ext f).cell (o:=0+i*1) (by rw[<-L];congr 1;omega)),aV an.u (M.ext (q.trans f))];simp only[aM,aR,aj];rw[wrap_i64 Ω Ω];exact⟨λh=>Ω,λ_=>af _ _ ⟨rfl,by congr 1⟩⟩
 .rintro _ U aa ⟨f,n,ab,rfl⟩;simp only[aR,aj];refine⟨λh=>Ω,λ_=>?_⟩;refine(M5 (n:=n) Ω).mono ?_;rintro v0 Q _ ⟨R,ah,aA,ak⟩;have s1:=q.size;have aB:=f.size;have aD:=R.size;have al:=f.trans R;rw[hQ b2.u];refine b3.range 2 (λi v z=>Ext J z/\∃p,J.heap.size<=p/\aq .i64 ag z p v (([a,b].take i).flatten)/\(([a,b].take i).flatten).length<=1000*i) Ω ⟨al,ah,Ω,ak,Ξ⟩ ?_ ?_
  .rintro i v4 z am hi ⟨j,p,ao,A,aE⟩ ap;simp only[aR,aj];refine⟨λ_=>?_,λh=>Ω⟩;obtain⟨v,l,L,P,M,ae⟩:=key i hi;rw[eL (b:=g) (o:=0) b2.u an.i hi (λ_=>rfl),aF Ψ ((s.ext j).cell (o:=0+i*1) (by rw[<-L];congr 1;omega))];refine jg an.u ag.i rfl A (M.ext (q.trans j)) Ω Ω λaG au aI aJ av ax=>?_;simp only[aM];have aK:=j.size;have e:([a,b].take (i+1)).flatten=([a,b].take i).flatten++l:=by rw[r8,P];simp
   refine ap _ _ ⟨j.then ax (by rintro r aL rfl;omega),au,Ω,by rw[e];exact av,by rw[e,o7];omega⟩
  .rintro v4 z am ⟨j,p,ao,A,_⟩;simp only[aR,aj];refine⟨λh=>Ω,λ_=>W _ _ p (q.trans j) Ω ?_⟩;have e:([a,b].take 2).flatten=a++b:=Ξ
   rw[e]at A;exact A
def pp(s1 a f e vars:Λ):Prop:=∀p∈vars,p∈a->p∈e->h0 s1 (hC a p)=h0 f (hC e p)
def du(s1 a e f vars:Λ):Λ:=vars.map λp=>max (h0 s1 (hC a p)) (h0 e (hC f p))
theorem CH(s1 a e f vars:Λ):(du s1 a e f vars).length=vars.length:=by simp[du]
theorem s5{x:Int}:0<=hC l x↔x∈l:=by
 unfold hC;by_cases h:x∈l
 .rw[if_pos h];exact⟨λ_=>h,λ_=>Ω⟩
 .rw[if_neg h];exact⟨λh=>Ω,λa=>absurd a h⟩
theorem M7{g az Y aA:Nat}{G Z:x3}{s1 f vars e:Λ}{aB:Int}{aC aE:Λ}(h1:df w g az sv s1 k aC)(aa:df w Y aA G f aB aE)(q:aH .i64 w Z vars)(aF:aH .i64 w a8 a)(H:aH .i64 w bv e)(aG:hb a)(aI:hb e)(be:vars.length<=1000):
  ai x8 It [Z,Γ g,a8,Γ Y,bv] w λv w'=>Ext w w'/\
   (¬pp s1 a f e vars->v= .tuple #[.slice ν 0 0,.bool false])/\
   (pp s1 a f e vars->∃x al,v= .tuple #[x,.bool true]/\w.heap.size<=al/\aq .i64 ag w' al x (du s1 a f e vars)):=by
 have sub:∀{w:x4}{g:Nat}{sv:x3}{k:Int}{aZ:x3},ad w g cX [sv,Δ k,aZ]->w.rangeAt g (0+0) [sv]:=λH=>nD H (by
  intro j v q
  match j,q with
  |0,q=>exact q)
 refine ay func229 ?_;rw[aV an.u q];refine jG an.u ag.i Ω Ω λgz J bf ab aJ=>?_;have aK:aq .i64 ag J gz (.slice (σ ⟨gz,0,ν⟩) vars.length vars.length) (o4 vars.length 0):=aq.of (n:=vars.length) (bW.full aJ Ξ (by simp[maxLen];omega));generalize (x3.slice (σ ⟨gz,0,ν⟩) vars.length vars.length)=aL at*;rw[aV an.u (q.ext ab)];have I:=CH s1 a f e vars;refine mm.range vars.length (λi _ _ U=>Ext w U/\aq .i64 ag U gz aL (upto (du s1 a f e vars) 0 i)/\∀(j:Nat)(p:Int),j<i->vars[j]?=σ p->p∈a->p∈e->h0 s1 (hC a p)=h0 f (hC e p)) Ω
  ⟨ab,by rw[oZ,I];exact aK,λj p B=>Ω⟩ ?_ ?_
 .rintro i _ _ U aN hi ⟨s,hm,K⟩ aO;simp only[aR,aj];refine⟨λ_=>?_,λh=>Ω⟩;obtain⟨p,y⟩:=aD (l:=vars) hi;rw[bc an.u ag.i Ψ (q.ext s) y];refine(v7 (aF.ext s) aG).mono ?_;rintro _ bg _ ⟨rfl,L⟩;refine(v7 (H.ext (s.trans L)) aI).mono ?_;rintro _ aP _ ⟨rfl,ac⟩;have ae:=(s.trans L).trans ac;refine aW (λv af=>Ext aP af/\∃c,v= .bool c/\(c=true↔p∈a/\p∈e/\h0 s1 (hC a p)≠h0 f (hC e p))) ?_ ?_
  .rintro _ af ⟨ah,c,rfl,ak⟩;have am:=ae.trans ah;rw[cj];refine⟨λaQ=>⟨am,λ_=>by first|rfl|trivial,λB=>?_⟩,λaT=>?_⟩
   .obtain⟨z,A,aU⟩:=ak.1 aQ;exact absurd (B p (x6 y) z A) aU
   .simp only[eg];intro bh ao _ _;have M:=am.trans ao;obtain⟨⟨aZ,gs,N,O,_⟩,_⟩:=h1.ext M;obtain⟨⟨aX,aY,P,Q,_⟩,_⟩:=aa.ext M;rw[bX,aS cX.p rfl,bF (cs:=[sv]) bE.p bE.i rfl (sub N),bX,aS cX.p rfl,bF (cs:=[G]) bE.p bE.i rfl (sub P)];refine(qn O.ls).mono ?_;rintro _ bi _ ⟨rfl,C⟩;refine⟨.inl C,?_⟩;refine(qn (Q.ls.ext C)).mono ?_;rintro _ bj _ ⟨rfl,ap⟩;have a1:=(M.trans C).trans ap;have au:=hm.ext ((((L.trans ac).trans ah).trans ao).trans (C.trans ap));have bk:(upto (du s1 a f e vars) 0 i).length=vars.length:=by rw[nK,I]
    rw[uY,hV rfl an.u ag.i au Ω];refine hW ag.i au Ω λbl a2 _ av=>?_;simp only[aM];have a6:(du s1 a f e vars)[i]?=σ (max (h0 s1 (hC a p)) (h0 f (hC e p))):=by
     unfold du;rw[v8,y];rfl
    rw[o1 a6]at av;refine aO _ _ _ ⟨a1.then a2 (by rintro r bm rfl;omega),av,λj a7 B R z A=>?_⟩;by_cases ba:j=i
    .subst ba;rw[y]at R;cases R;refine Decidable.byContradiction λbb=>?_;have:=ak.2 ⟨z,A,bb⟩;rw[aT]at this;cases this
    .exact K j a7 Ω R z A
  .intro aw S;simp only[eg,cQ,aj];intro bn E _ _;refine⟨λV=>⟨λW=>?_,λW=>⟨.inl (Ext.refl _),S _ _ ⟨E,false,rfl,⟨(λh=>by cases h),λh=>absurd (s5.2 h.2.1) W⟩⟩⟩⟩,λV=>⟨.inl (Ext.refl _),S _ _ ⟨E,false,rfl,⟨(λh=>by cases h),λh=>absurd (s5.2 h.1) V⟩⟩⟩⟩;have ax:=ae.trans E;obtain⟨⟨aZ,gs,N,O,_⟩,_⟩:=h1.ext ax;obtain⟨⟨aX,aY,P,Q,_⟩,_⟩:=aa.ext ax;rw[bX,aS cX.p rfl,bF (cs:=[sv]) bE.p bE.i rfl (sub N),bX,aS cX.p rfl,bF (cs:=[G]) bE.p bE.i rfl (sub P)];refine(qn O.ls).mono ?_;rintro _ bo _ ⟨rfl,X⟩;refine⟨.inl X,?_⟩;refine(qn (Q.ls.ext X)).mono ?_;rintro _ bp _ ⟨rfl,bd⟩;simp only[bK];refine S _ _ ⟨(E.trans X).trans bd,_,rfl,?_⟩;rw[decide_eq_true_iff];exact⟨λh=>⟨s5.1 V,s5.1 W,h⟩,λh=>h.2.2⟩
 .rintro _ _ U aN ⟨s,hm,K⟩;simp only[aR,aj];refine⟨λh=>Ω,λ_=>?_⟩;have B:pp s1 a f e vars:=λp y z A=>by
   obtain⟨i,hi,he⟩:=List.getElem_of_mem y;exact K i p hi (by rw[x7 hi,he]) z A
  rw[<-I,o0]at hm;exact⟨s,λh=>absurd B h,λ_=>⟨_,gz,rfl,Ω,hm⟩⟩
def wc(a e vars:Λ):Prop:=hb vars/\∀x,x∈vars↔x∈a\/x∈e
def nU(s1 h a e j f vars:Λ)(k:Int):Λ:=
 (W3 (aN (du s1 a e f vars)).toNat).map λ(q:Nat)=>min (bm s1 h (fb (cR (du s1 a e f vars) q) vars a)+bm e j (fb (cR (du s1 a e f vars) q) vars f)) k
theorem CI(s1 h a e j f vars:Λ)(k:Int):(nU s1 h a e j f vars k).length=(aN (du s1 a e f vars)).toNat:=by simp[nU]
theorem s6{s cs:Λ}(hk:right k)(h:∀x∈cs,cz x k):cz (bm s cs t) k:=by
 have a:cz 0 k:=⟨hk,Q1 _,by have:=hk.1;omega⟩;unfold bm;split
 .rename_i n _;rw[u4];cases e:cs[n.toNat]? with
  |none=>exact a
  |some x=>exact h x (x6 e)
 .exact a
def Fits(s l:Λ):Prop:=l.length=s.length/\qF l
def qI(e:Int):x3:=.tuple #[.pointer ν,.slice ν 0 0,Δ e]
def CJ(w:x4)(s1 q a f r e:Λ)(k h:Int)(v:x3)(w':x4):Prop:=
 Ext w w'/\(¬(Fits s1 a/\Fits f e)->v=qI 1)/\
  (Fits s1 a/\Fits f e->∃vars,wc a e vars/\(¬pp s1 a f e vars->v=qI 1)/\(pp s1 a f e vars->(k≠h->v=qI 3)/\
   (k=h->¬cd (du s1 a f e vars)->v=qI 1)/\(k=h->cd (du s1 a f e vars)->4096<aN (du s1 a f e vars)->v=qI 5)/\
   (k=h->cd (du s1 a f e vars)->aN (du s1 a f e vars)<=4096->∃j s x p,v= .tuple #[Γ j,p,Δ 0]/\
    df w' j s x (du s1 a f e vars) k (nU s1 q a f r e vars k)/\aH .i64 w' p vars)))
theorem M8{g bM ga bN:Nat}{bO:x3}{s1 z f y:Λ}{aR:Int}{G H:Λ}(h1:df w g bM sv s1 k G)(ax:df w ga bN bO z aR H)(ay:aH .i64 w a8 f)(R:aH .i64 w bv y)(hk:right k)(cw:∀x∈G,cz x k)(cA:∀x∈H,cz x aR):
  ai x8 HV [Γ g,a8,Γ ga,bv] w (CJ w s1 G f z H y k aR):=by
 have cB:=ay.cells;have cC:=R.cells;have cD:=h1.2.2.1;have cE:=ax.2.2.1;have sub:∀{w:x4}{g:Nat}{sv:x3}{k:Int}{aZ:x3},ad w g cX [sv,Δ k,aZ]->w.rangeAt g (0+0) [sv]:=λR=>nD R (by
  intro j v bg
  match j,bg with
  |0,bg=>exact bg)
 refine iF func180 ?_;refine bk λg1 J dN bP K=>?_;refine bk λbR U dO bh L=>?_;refine bk λbS dP dQ aT M=>?_;refine bk λbT Z dR az O=>?_;have dS:=K.lt;have dT:=L.lt;have dU:=M.lt;have dV:=O.lt;have dW:=bP.size;have dX:=bh.size;have dY:=aT.size;have dZ:=az.size;have ab:=((bP.trans bh).trans aT).trans az;have K:ad Z g1 e0 [Γ g]:=((K.ext bh).ext aT).ext az;have L:ad Z bR an [a8]:=by rw[cB.1]at L;exact(L.ext aT).ext az
 have M:ad Z bS e0 [Γ ga]:=M.ext az;have O:ad Z bT an [bv]:=by rw[cC.1]at O;exact O
 refine aW (λv bU=>v= .bool false/\Z=bU) ?_ ?_
 rotate_left
 .intro aw aU;rw[aF Ψ (K.Qz rfl),da e0.u];simp only[Z6,aY];rw[aF Ψ (M.Qz rfl),da e0.u];exact aU _ _ ⟨rfl,rfl⟩
 rintro _ _ ⟨rfl,rfl⟩;simp only[aY];refine aW (λv bi=>Ext Z bi/\∃c,v= .bool c/\(c=true↔¬(Fits s1 f/\Fits z y))) ?_ ?_
 rotate_left
 .intro aw aU;rw[aF Ψ (K.Qz rfl),aF Ψ (L.Qz rfl)];refine(Cy (h1.ext ab) (ay.ext ab)).mono ?_;rintro _ bU _ ⟨ac,c,rfl,aA⟩;simp only[bJ,cj];refine⟨λaV=>aU _ _ ⟨ac,true,rfl,λ_ h=>?_,λ_=>rfl⟩,λbV=>?_⟩
  .have:=aA.2 h.1;rw[this]at aV;cases aV
  .have cF:c=true:=by cases c<;>simp_all
   rw[aF Ψ ((M.ext ac).Qz rfl),aF Ψ ((O.ext ac).Qz rfl)];refine(Cy ((ax.ext ab).ext ac) ((R.ext ab).ext ac)).mono ?_;rintro _ ea _ ⟨cG,d,rfl,bW⟩;simp only[bJ];refine aU _ _ ⟨ac.trans cG,_,rfl,λh ap=>?_,λh=>?_⟩
   .have:=bW.2 ap.2;rw[this]at h;cases h
   .cases d with
    |false=>rfl
    |true=>exact absurd ⟨aA.1 cF,bW.1 rfl⟩ h
 rintro _ bi ⟨aB,c,rfl,aA⟩;have bj:=ab.trans aB;rw[cj];refine⟨λaV eb cH _=>⟨bj.trans cH,λ_=>rfl,λh=>absurd h (aA.1 aV)⟩,λbV=>?_⟩;have aC:Fits s1 f/\Fits z y:=Classical.byContradiction λh=>by
  have:=aA.2 h;rw[bV]at this;cases this
 obtain⟨⟨ec,cI⟩,ed,cJ⟩:=id aC;have ee:=cD.1;have ef:=cE.1;rw[aF Ψ ((L.ext aB).Qz rfl),aF Ψ ((O.ext aB).Qz rfl)];refine M6 (ay.ext bj) (R.ext bj) Ω Ω λeg eh ei bY ej cK=>?_;refine vX cK.ls (by rw[o7];omega) λek em en m bZ eo b0 cL cM=>?_;have cN:=b0.length_eq;rw[o7]at cN;refine(M4 cM Ω).mono ?_;rintro aX b1 _ ⟨cO,bl⟩;have ep:=aB.size;have er:=bY.size;have es:=bZ.size;have b2:Ext bi b1:=(bY.trans bZ).then cO (by rintro r a2 rfl;omega);obtain⟨cP,cQ⟩:=Cx cL (j:=m.length) (o5 _);have et:=Cw m m.length;have P:wc f y (dedup m m.length):=⟨cP,λx=>by rw[cQ,o6,b0.mem_iff,l9]⟩;generalize dedup m m.length=vars at*;refine bw an.i λa1 eu ev b3 cS=>?_;refine bq an.i bl.ls.cells.1 bl.ls.cells.2 cS (by simp[x3.cells]) λb4 cT ew aD=>?_;have ey:=b2.size;have ez:=b3.size;have bn:Ext b1 b4:=b3.then cT (by rintro r a2 rfl;omega);have af:=(aB.trans b2).trans bn;have aE:=ab.trans af;have c8:=aD.lt;have b5:=bl.ls.ext bn;have aD:ad b4 a1 an [aX]:=aD;rw[aF Ψ (aD.Qz rfl),aF Ψ ((K.ext af).Qz rfl),aF Ψ ((L.ext af).Qz rfl),aF Ψ ((M.ext af).Qz rfl),aF Ψ ((O.ext af).Qz rfl)];refine(M7 (h1.ext aE) (ax.ext aE) b5 (ay.ext aE) (R.ext aE) cI.up cJ.up Ω).mono ?_;rintro eA eB _ ⟨aG,cU,cV⟩;have b6:=aE.trans aG;by_cases ah:pp s1 f z y vars
 rotate_left
 .rw[cU ah,bz,bA];simp only[bJ,X9,bQ];intro eC cW _;exact⟨b6.trans cW,λh=>absurd aC h,λ_=>⟨vars,P,λ_=>rfl,λh=>absurd h ah⟩⟩
 obtain⟨xs,al,rfl,eD,cY⟩:=cV ah;rw[bz,bA];simp only[bJ,Y9,aY];intro V ak _ _;have a6:=(af.trans aG).trans ak;have am:=b6.trans ak;have K:=K.ext a6;have L:=L.ext a6;have M:=M.ext a6;have O:=O.ext a6;have cZ:=(aD.ext aG).ext ak;obtain⟨⟨aZ,gs,b7,eE,_⟩,_⟩:=h1.ext am;obtain⟨⟨eF,eH,c0,eI,_⟩,_⟩:=ax.ext am;rw[aF Ψ (K.Qz rfl),aQ cX.p 1 b7 rfl,aF Ψ (M.Qz rfl),aQ cX.p 1 c0 rfl];simp only[bK,aj];refine⟨λW eJ c1 _=>⟨am.trans c1,λh=>absurd aC h,λ_=>⟨vars,P,λh=>absurd ah h,λ_=>⟨λ_=>rfl,λh=>absurd h W,λh=>absurd h W,λh=>absurd h W⟩⟩⟩,λW=>?_⟩;have W:k=aR:=X2.1 W;subst W;rw[aF Ψ (K.Qz rfl),aQ cX.p 1 b7 rfl];have c2:=cY.ext ak;refine(vb c2.ls).mono ?_;rintro aO aI _ ⟨b8,c3,c4,_,c5⟩;have eK:=bn.size;have eL:=aG.size;have eM:=ak.size;have eN:=b8.size;obtain⟨aJ,e,rfl,eO,a7⟩:∃(aJ:Option Addr)(e:Int),aO= .tuple #[.pointer aJ,Δ e]/\(e=0->aJ≠ν)/\((e=1/\¬cd (du s1 f z y vars))\/(e=5/\cd (du s1 f z y vars)/\4096<aN (du s1 f z y vars))\/(e=0/\cd (du s1 f z y vars)/\aN (du s1 f z y vars)<=4096/\
   ∃B A C,aJ=σ ⟨B,0,ν⟩/\V.heap.size<=B/\V.heap.size<=A/\(∀r,leads C r->V.heap.size<=r)/\df aI B A C (du s1 f z y vars) k (o4 (aN (du s1 f z y vars)).toNat 0))):=by
  by_cases I:cd (du s1 f z y vars)
  .by_cases Q:aN (du s1 f z y vars)<=4096
   .obtain⟨B,A,C,c6,c7,c9,db,dc⟩:=c5 I Q ⟨hk,Ω,by have:=hk.1;omega⟩;exact⟨_,_,c6,(λ_ h=>by cases h),.inr (.inr ⟨rfl,I,Q,B,A,C,rfl,c7,c9,db,dc⟩)⟩
   .exact⟨_,_,c4 I Ω,(λh=>Ω),.inr (.inl ⟨rfl,I,Ω⟩)⟩
  .exact⟨_,_,c3 I,(λh=>Ω),.inl ⟨rfl,I⟩⟩
 rw[bz,bA];refine bw e0.i λb9 eP eQ ca aK=>?_;refine bq e0.i rfl rfl aK (by simp[x3.cells]) λdd de eR aK=>?_;have eS:=ca.size;have bo:Ext aI dd:=ca.then de (by rintro r a2 rfl;omega);have cb:=b8.trans bo;have dg:=am.trans cb;have eU:=aK.lt;simp only[bK,aj];refine⟨λdh eV di _=>⟨dg.trans di,λh=>absurd aC h,λ_=>⟨vars,P,λh=>absurd ah h,λ_=>⟨λh=>absurd rfl h,λ_ I=>?_,λ_ I Q=>?_,λ_ I Q=>?_⟩⟩⟩,λeW=>?_⟩
 .rcases a7 with⟨rfl,_⟩|⟨_,h,_⟩|⟨_,h,_⟩
  .rfl
  .exact absurd h I
  .exact absurd h I
 .rcases a7 with⟨_,h⟩|⟨rfl,_⟩|⟨_,_,h,_⟩
  .exact absurd I h
  .rfl
  .omega
 .rcases a7 with⟨_,h⟩|⟨_,_,h⟩|⟨h,_⟩
  .exact absurd I h
  .omega
  .exact absurd h dh
 obtain⟨ba,dj,B,A,C,rfl,eX,eY,eZ,bb⟩:cd (du s1 f z y vars)/\aN (du s1 f z y vars)<=4096/\
   ∃B A C,aJ=σ ⟨B,0,ν⟩/\V.heap.size<=B/\V.heap.size<=A/\(∀r,leads C r->V.heap.size<=r)/\df aI B A C (du s1 f z y vars) k (o4 (aN (du s1 f z y vars)).toNat 0):=by
  rcases a7 with⟨h,_⟩|⟨h,_⟩|⟨_,h⟩
  .omega
  .omega
  .exact h
 obtain rfl:e=0:=Ω
 have dk:(du s1 f z y vars).length=vars.length:=CH _ _ _ _ _;have e1:=prod_bound ba;obtain⟨N,bc⟩:∃N:Nat,(aN (du s1 f z y vars)).toNat=N:=⟨_,rfl⟩;rw[bc]at bb;have e2:0<N:=Ω
 have dl:=bb.ext bo;obtain⟨⟨bp,cc,ce,cg,dm⟩,⟨ch,ci,_⟩,_,e3⟩:=id dl;have e4:B<aI.heap.size:=by obtain⟨⟨_,_,q,_⟩,_⟩:=id bb;exact q.lt
 have e5:A<aI.heap.size:=by obtain⟨⟨_,_,_,_,q⟩,_⟩:=id bb;exact sS q Θ
 rw[aF Ψ (aK.Qz rfl),bX,aS cX.p rfl,bF (cs:=[C]) bE.p bE.i rfl (sub ce)];refine vC.mono ?_;rintro _ aL _ ⟨X,bd,rfl,e6,ck⟩;have e7:=bo.size;have e8:=X.size;let S:Nat->Prop:=λr=>r=A;let av:=nU s1 G f z H y vars k;have bt:av.length=N:=by simp only[av];rw[CI,bc]
 have dn:=(b5.ext aG).ext ak;let dp:x4->Prop:=λw'=>ad w' g1 e0 [Γ g]/\ad w' bR an [a8]/\ad w' bS e0 [Γ ga]/\ad w' bT an [bv]/\ad w' a1 an [aX]/\aH .i64 w' aX vars/\
  ad w' b9 e0 [Γ B]/\ad w' B cX [C,Δ k,bp]/\df w' g bM sv s1 k G/\df w' ga bN bO z k H/\aH .i64 w' a8 f/\aH .i64 w' bv y/\aq .i64 ag w' cc C (du s1 f z y vars)/\ad w' bd bE [C]/\aL.heap.size<=w'.heap.size
 have cl:=cb.trans X;have aM:∀{a:x4},ae S aL a->dp a:=by
  intro a E;have Y:Ext V a:=cl.put E Ω;have be:=am.trans Y;exact⟨K.ext Y,L.ext Y,M.ext Y,O.ext Y,cZ.ext Y,dn.ext Y,(aK.ext X).aa E (by show¬(b9=A);omega),(ce.ext X).aa E (by show¬(B=A);exact ch),h1.ext be,ax.ext be,ay.ext be,R.ext be,
   br (cg.ext X) E (λr a2 he=>ci ((show r=A from he)▸a2)),ck.aa E (by show¬(bd=A);omega),E.size⟩
 have cm:=vB (g:=bd) (B0:=aL.heap.size) (sv:=C) ba;rw[bc]at cm;refine oD.old ⟨Nat,false,lL,#[Γ bd],0,_,_,_,λq w'=>ae S aL w'/\aq .i64 ao w' A bp (upto av 0 q),λ_ _ _=>False,rfl,cm.s,
  ?_,λ_ _ E h=>⟨h.1.ext E,h.2.1.ext E,X0 h.2.2 E.size⟩,λ_ _ _ E h=>⟨h.1.trans (E.aa S),h.2.ext E⟩,λ_ _ _ _ _ h=>h,⟨ck,(cg.ext X).ls,o5 _⟩,⟨ae.refl _ _,?_⟩,?_,?_,λ_ _ h=>h.elim,λ_ _ _ h=>h.elim⟩
 .rintro _ _ _ _ ⟨_,_,_,_,rfl,_⟩;rfl
 .rw[oZ,bt];exact dm.ext X
 .rintro _ aO q _ e9 ⟨_,_,fa⟩ ⟨bu,rfl,fc,gt,dq,fd,cn⟩ ⟨bf,dr⟩;cases dq;let x:=cR (du s1 f z y vars) (q:Int);have cp:x.length=vars.length:=by simp only[x];rw[ji,dk]
  intro fe ds _ _;intro ff dt _ _;have bx:=ds.trans dt;obtain⟨f1,f2,f3,f4,f5,f6,f7,f8,f9,f10,f11,f12,f13,f14,f15⟩:=aM (bf.trans (bx.aa S));rw[aF Ψ (f1.Qz rfl),aF Ψ (f5.Qz rfl),aF Ψ (f2.Qz rfl)];refine(CA (cn.ls.ext bx) f6 f11 P.1 (λp Q=>(P.2 p).2 (.inl Q)) cp Ω).mono ?_;rintro fg fh _ ⟨bB,fi,fj,dv⟩;refine⟨.inl bB,?_⟩;refine(vc (f9.ext bB) dv.ls).mono ?_;rintro _ fk _ ⟨rfl,dw⟩;obtain⟨dx,dy⟩:=vW s1 (fb x vars f) G;have dz:oR s1 (fb (cR (du s1 f z y vars) (q:Int)) vars f) G= .tuple #[Δ (bm s1 G (fb x vars f)),Δ dx]:=dy;rw[dz,bz,bA];intro fm dA _ _;have bC:=((bx.trans bB).trans dw).trans dA;obtain⟨f1,f2,f3,f4,f5,f6,f7,f8,f9,f10,f11,f12,f13,f14,f15⟩:=aM (bf.trans (bC.aa S));rw[aF Ψ (f3.Qz rfl),aF Ψ (f5.Qz rfl),aF Ψ (f4.Qz rfl)];refine(CA (cn.ls.ext bC) f6 f12 P.1 (λp Q=>(P.2 p).2 (.inr Q)) cp Ω).mono ?_;rintro fo fp _ ⟨bD,fq,fs,dC⟩;refine⟨.inl bD,?_⟩;refine(vc (f10.ext bD) dC.ls).mono ?_;rintro _ ft _ ⟨rfl,dD⟩;obtain⟨dE,dF⟩:=vW z (fb x vars y) H;have dG:oR z (fb (cR (du s1 f z y vars) (q:Int)) vars y) H= .tuple #[Δ (bm z H (fb x vars y)),Δ dE]:=dF;rw[dG,bz,bA];intro fu dH _ _;have bG:=((bC.trans bD).trans dD).trans dH;obtain⟨f1,f2,f3,f4,f5,f6,f7,f8,f9,f10,f11,f12,f13,f14,f15⟩:=aM (bf.trans (bG.aa S));rw[aF Ψ (f7.Qz rfl),aQ cX.p 2 f8 rfl,aF Ψ (f7.Qz rfl),aQ cX.p 1 f8 rfl];refine Bj.mono ?_;rintro _ fv _ ⟨rfl,bH⟩;refine⟨.inl bH,?_⟩;have dI:qm (bm s1 G (fb x vars f)) (bm z H (fb x vars y)) k= .tuple #[Δ (min (bm s1 G (fb x vars f)+bm z H (fb x vars y)) k),Δ 0]:=if_pos ⟨s6 hk cw,s6 hk cA⟩;rw[dI,iH (v:=Δ (min (bm s1 G (fb x vars f)+bm z H (fb x vars y)) k)) rfl,iH (v:=Δ 0) rfl];have cq:=dr.ext (bG.trans bH);have fw:(upto av 0 q).length=N:=by rw[nK,bt]
  rw[hV rfl au.u ao.i cq Ω];refine hW ao.i cq Ω λdJ dK fx cr=>?_;have ct:ae S aL dJ:=(bf.trans ((bG.trans bH).aa S)).trans (dK.mono λr _ h=>h);obtain⟨f1,f2,f3,f4,f5,f6,f7,f8,f9,f10,f11,f12,f13,f14,f15⟩:=aM ct;have dL:av[q]?=σ (min (bm s1 G (fb x vars f)+bm z H (fb x vars y)) k):=by
   simp only[av,nU];rw[v8,List.getElem?_range (by rw[bc];exact bu)];rfl
  rw[o1 dL]at cr;exact⟨⟨f14,f13.ls,f15⟩,⟨ct,cr⟩,λh=>by cases h⟩
 .rintro q fy bu ⟨cu,bI⟩;rw[show q=N from bu]at bI;intro fz bL _ _;obtain⟨f1,f2,f3,f4,f5,f6,f7,f8,f9,f10,f11,f12,f13,f14,f15⟩:=aM (cu.trans (bL.aa S));rw[aF Ψ (f7.Qz rfl),aF Ψ (f5.Qz rfl)];intro fA aP _;rw[<-bt,o0]at bI;have dM:=am.trans cl;refine⟨((dM.put cu Ω).trans bL).trans aP,λh=>absurd aC h,λ_=>⟨vars,P,λh=>absurd ah h,λ_=>⟨λh=>absurd rfl h,λ_ h=>absurd ba h,λ_ _ h=>Ω,λ_ _ _=>⟨B,A,C,aX,rfl,⟨⟨bp,cc,f8.ext aP,f13.ext aP,(bI.ext bL).ext aP⟩,⟨ch,ci,dj⟩,ba,CI _ _ _ _ _ _ _ _⟩,f6.ext aP⟩⟩⟩⟩
theorem hb.pair(h:hb l):l.Pairwise (·< ·):=V6.2 λi j hi a e=>h i j _ _ e (x7 hi) (x7 a)
theorem M9{m:Λ}(e:hb l)(hm:hb m)(h:∀x,x∈l↔x∈m):l=m:=by
 have f:l.Nodup:=e.pair.imp λh=>Ω
 have j:m.Nodup:=hm.pair.imp λh=>Ω
 exact List.Perm.eq_of_pairwise (le:=(·<= ·)) (λa b _ _ h1 p=>Int.le_antisymm h1 p) (e.pair.imp λh=>Int.le_of_lt h) (hm.pair.imp λh=>Int.le_of_lt h) ((List.perm_ext_iff_of_nodup f j).2 h)
theorem Na{vars:Λ}(h:wc l l vars)(hu:hb l):vars=l:=M9 h.1 hu λx=>by rw[h.2];simp
theorem CK(h:l.Pairwise (·< ·)):hb l:=λi j x y e f p=>by
 have h1:=x5.1 f;have a:=x5.1 p;have:=V6.1 h i j h1.1 a.1 e;rw[h1.2,a.2]at this;exact this
theorem Nb{x:Λ}(hu:l.Nodup)(h:x.length=l.length):fb x l l=x:=by
 refine Y7 λi=>?_;unfold fb;cases a:l[i]? with
 |none=>rw[v8,a,Y4 (by have:=List.getElem?_eq_none_iff.1 a;omega)];rfl
 |some v=>
  have hi:=(x5.1 a).1;rw[v8,a,Z7,qD hu a,u4,x7 (show i<x.length by omega)];rfl
theorem CL{s:Λ}(hu:hb l)(h:s.length=l.length):du s l s l l=s:=by
 refine Y7 λi=>?_;unfold du;cases a:l[i]? with
 |none=>rw[v8,a,Y4 (by have:=List.getElem?_eq_none_iff.1 a;omega)];rfl
 |some v=>
  have hi:=(x5.1 a).1;rw[v8,a,Z7,Cz hu a,Int.max_self,x7 (show i<s.length by omega)];unfold h0;rw[if_pos Ω,u4,u9,x7 (show i<s.length by omega)];rfl
theorem Nc{s b:Λ}(hu:l.Pairwise (·< ·))(h:s.length=l.length)(I:dP s)(e:a.length=(aN s).toNat)(f:b.length=(aN s).toNat):nU s a l s b l l k=ed k a b:=by
 have j:l.Nodup:=hu.imp λh=>Ω
 unfold nU;rw[CL (CK hu) h,LZ I e f];apply List.map_congr_left;intro q _;rw[Nb j (by rw[ji,h])]
theorem Nd{s b:Λ}(hu:l.Pairwise (·< ·))(B:∀x∈l,0<=x)(h:s.length=l.length)(I:cd s)(C:aN s<=4096)(E:a.length=(aN s).toNat)(F:b.length=(aN s).toNat)(f:CJ w s a l s b l k k v w'):
  Ext w w'/\∃e j q r,v= .tuple #[Γ e,r,Δ 0]/\df w' e j q s k (ed k a b):=by
 obtain⟨G,_,f⟩:=f;have y:=CK hu;have z:Fits s l:=⟨h.symm,MC y B⟩;obtain⟨vars,H,_,J⟩:=f ⟨z,z⟩;have K:=Na H y;subst K;obtain⟨_,_,_,A⟩:=J λp M N O=>rfl;rw[CL y h,Nc hu h I.2 E F]at A;obtain⟨e,j,q,r,rfl,L,_⟩:=A rfl I C;exact⟨G,e,j,q,r,rfl,L⟩
theorem Nf{s:Λ}(I:dP s):(bj s).Nodup:=(Co I).imp λ{a b}h he=>by subst he;omega
theorem Ng{s:Λ}{i:Nat}(I:dP s)(hi:(bj s)[i]?=σ t)(a:(bj s)[j]?=σ t):i=j:=kq (Nf I) hi a
theorem Nh{s:Λ}(I:dP s)(h:dp s t):∃j:Nat,(bj s)[j]?=σ t:=X6.1 ((Cn I).2 h)
theorem s7{g m:Nat}{d:List (x3×x3)}(h:ad w g e cs)(hm:c7 w m d)(a:ae (λr=>r=m) w w'):ad w' g e cs:=h.aa a (λhe=>sT h hm he)
theorem CM{g m:Nat}{k:o9}{d:List (x3×x3)}(h:aq k e w g v l)(hm:c7 w m d)(a:ae (λr=>r=m) w w'):aq k e w' g v l:=br h a (λ_ f he=>Cq h hm f he)
def s8(cs:Λ)(o:Int):Prop:=o∈cs/\∀d∈cs,cs.count d<cs.count o\/(cs.count d=cs.count o/\o<=d)
theorem Ni{i:Nat}{x:Int}(h:l[i]?=σ x)(y:Int):(l.take (i+1)).count y=(l.take i).count y+if y=x then 1 else 0:=by
 rw[r8,h,List.count_append];congr 1;simp only[l7,List.count_singleton];by_cases a:y=x
 .subst a;simp
 .rw[if_neg a,if_neg (by simpa using λh=>a h.symm)]
def gO(p:Int×Int):x3×x3:=(Δ p.1,Δ p.2)
theorem qJ:Keys x8 ao λv=>∃n,v=Δ n:=Keys.int ao.u
theorem qK(E:List (Int×Int)):∀p∈E.map gO,∃n,p.1=Δ n:=λp a=>by
 obtain⟨q,_,rfl⟩:=j0.1 a;exact⟨_,rfl⟩
def we(cs:Λ)(E:List (Int×Int)):Prop:=(∀x,x∈E.map (·.1)↔x∈cs)/\∀p∈E,p.2=(cs.count p.1:Nat)
theorem CN{cs:Λ}{E:List (Int×Int)}(h:we cs E){x:Int}(e:x∈cs):∃j:Nat,E[j]?=σ (x,((cs.count x:Nat):Int)):=by
 obtain⟨p,a,rfl⟩:=j0.1 ((h.1 x).2 e);obtain⟨j,f⟩:=X6.1 a;exact⟨j,by rw[f,<-h.2 p a]⟩
theorem CO{c8:x3}{cs:Λ}(h:aH .i64 w c8 cs)(av:cs≠[])(bg:cs.length<=1000000):ai x8 rV [c8] w λv w'=>Ext w w'/\∃o,v=Δ o/\s8 cs o:=by
 refine ay func238 ?_;refine aC.cu (sB λm J hm X aL bh=>?_);rw[aV au.u (h.ext X)];refine b1.range cs.length (λi U=>ae (λr=>r=m) J U/\∃E,c7 U m (E.map gO)/\we (cs.take i) E) Ω ⟨ae.refl _ _,[],aL,by simp[we]⟩ ?_ ?_
 .rintro i U aN hi ⟨G,E,A,f⟩ ax;obtain⟨x,Y⟩:=aD (l:=cs) hi;have H:Ext w U:=X.put G Ω;have aO:∀y,(cs.take i).count y<=1000000:=λy=>by
   have:=List.count_le_length (a:=y) (l:=cs.take i);rw[n9]at this;omega
  refine bD Ω ?_;rw[bc au.u ao.i Ψ (h.ext H) Y];have P:=Ni Y;have az:∀y,y∈cs.take (i+1)↔y∈cs.take i\/y=x:=λy=>by
   rw[r8,Y];simp
  by_cases I:x∈cs.take i
  .obtain⟨j,Z⟩:=CN f I;have Q:(E.map gO)[j]?=σ (Δ x,Δ (((cs.take i).count x:Nat):Int)):=by rw[v8,Z];rfl
   rw[qo lQ.u qJ A (qK E) ⟨_,rfl⟩ Q];simp only[Bool.false_eq_true,if_false];have:=aO x;rw[aM,wrap_i64 Ω Ω];refine aC.cu (qp lQ.u qJ A (qK E) ⟨_,rfl⟩ (λL v0 aa ab M ac aP=>?_) (λaa R=>absurd rfl (R _ (x6 Q))));have aQ:L=j:=A.uniq ab Q rfl;subst aQ;rw[aM];have ad:(E.map gO).set L (Δ x,Δ ((((cs.take i).count x:Nat):Int)+1))=(E.set L (x,(((cs.take i).count x:Nat):Int)+1)).map gO:=by rw[U5];rfl
   rw[ad]at M;have aS:=(x5.1 Z).1;refine ax _ ⟨G.trans ac,_,M,λy=>?_,λp e=>?_⟩
   .rw[U5,qh (by rw[v8,Z];rfl),f.1,az];exact⟨.inl,λh=>h.elim id (λh=>h▸I)⟩
   .obtain⟨q,s⟩:=X6.1 e;by_cases af:L=q
    .subst af;rw[c9 aS]at s;cases s;show _=(((cs.take (i+1)).count x:Nat):Int);rw[P,if_pos rfl];omega
    .rw[Y5 af]at s;have ah:p.1≠x:=λhe=>af (A.uniq Q (show(E.map gO)[q]?=σ (gO p) by rw[v8,s];rfl) (by rw[gO,he]));rw[f.2 p (x6 s),P,if_neg ah,Nat.add_zero]
  .have R:∀p∈E.map gO,p.1≠V5 .i64 x:=λp e he=>by
    obtain⟨q,s,rfl⟩:=j0.1 e;have:q.1=x:=by simpa[gO]using he
    exact I ((f.1 x).1 (j0.2 ⟨q,s,this⟩))
   rw[sC lQ.u qJ ⟨_,_,ag.i⟩ A (qK E) ⟨_,rfl⟩ R];simp only[Bool.false_eq_true,if_false];rw[aM,wrap_i64 Ω Ω];refine aC.cu (qp lQ.u qJ A (qK E) ⟨_,rfl⟩ (λL v0 aa ab=>absurd rfl (R _ (x6 ab))) (λaa _ M ac aP=>?_));rw[aM];have ad:E.map gO++[(V5 .i64 x,V5 .i64 (0+1))]=(E++[(x,1)]).map gO:=by rw[Z2];rfl
   rw[ad]at M;have aT:(cs.take i).count x=0:=List.count_eq_zero.2 I;refine ax _ ⟨G.trans ac,_,M,λy=>?_,λp e=>?_⟩
   .rw[Z2,l9,f.1,az];simp
   .rcases l9.1 e with e|e
    .have ah:p.1≠x:=λhe=>I ((f.1 x).1 (j0.2 ⟨p,e,he⟩));rw[f.2 p e,P,if_neg ah,Nat.add_zero]
    .rw[j4.1 e];show(1:Int)=(((cs.take (i+1)).count x:Nat):Int);rw[P,if_pos rfl,aT];rfl
 rintro U aN ⟨G,E,A,f⟩;rw[o6]at f;have H:Ext w U:=X.put G Ω;refine b7 Ω ?_;refine(Kz (h.ext H) av).mono ?_;rintro _ aU bi ⟨rfl,ak⟩;have bj:=H.size;have bk:=ak.size;refine aC.cu (Bn lQ.u (A.ext ak) λN bl bm aX bn aZ bo=>?_);refine⟨λlg C=>∃b B z left aA,lg=Δ b/\b∈cs/\Ext aU C/\hA C N m (E.map gO) left aA/\left=z.map gO/\(B++z).Perm E/\∀p∈B,cs.count p.1<cs.count b\/(cs.count p.1=cs.count b/\b<=p.1),λ_ C=>pi C N,
  ⟨vr cs,[],E,E.map gO,ν,rfl,(Kd av).1,aX,aZ,rfl,List.Perm.refl _,λp e=>by cases e⟩,?_⟩
 rintro _ C ⟨b,B,z,left,aA,rfl,al,am,aB,rfl,S,an⟩;refine Bp aB (λ_=>by show w.heap.size<=N;omega) (λa1=>?_) (λj p ap e aE bp O=>?_)
 .rw[iH (v:=.bool false) rfl,aY];have:z=[]:=List.map_eq_nil_iff.1 a1;subst this;rw[U9]at S;refine⟨(H.trans ak).trans am,b,rfl,al,λd a2=>?_⟩;obtain⟨q,s,rfl⟩:=j0.1 ((f.1 d).2 a2);exact an q (S.mem_iff.2 s)
 .rw[iH (v:=.bool true) rfl,bQ];refine Bq O ?_;obtain⟨q,s,rfl⟩:∃q,z[j]?=σ q/\gO q=p:=by
   rw[v8]at e;exact Y6.1 e
  have aF:q∈E:=S.mem_iff.1 (l9.2 (.inr (x6 s)));have bq:=f.2 q aF;have a6:q.1∈cs:=(f.1 q.1).1 (j0.2 ⟨q,aF,rfl⟩);obtain⟨a7,a8⟩:=CN f al;have ba:(E.map gO)[a7]?=σ (Δ b,Δ ((cs.count b:Nat):Int)):=by rw[v8,a8];rfl
  rw[iH (v:=Δ q.1) rfl,iH (v:=Δ q.2) rfl];have aG:(B++[q]++z.eraseIdx j).Perm E:=by
   refine List.Perm.trans ?_ S;rw[T3];exact List.Perm.append_left B (vH s)
  have aI:pi ap N<pi C N:=by
   rw[sG O,sG aB];have:=BC (x5.1 e).1;omega
  refine aW (λv bd=>ap=bd/\∃r:Bool,v= .bool r/\(r=true↔(cs.count b<cs.count q.1\/(cs.count q.1=cs.count b/\q.1<b)))) ?_ ?_
  .rintro _ _ ⟨rfl,r,rfl,W⟩;rw[cj];refine⟨λbe=>?_,λaJ=>?_⟩
   .have W:=W.1 be;refine⟨⟨q.1,B++[q],z.eraseIdx j,_,_,rfl,a6,am.trans aE,O,(mH gO z j),aG,λp e=>?_⟩,aI⟩;rcases l9.1 e with e|e
    .have:=an p e;omega
    .rw[j4.1 e];exact .inr ⟨rfl,Q1 _⟩
   .have W:¬(cs.count b<cs.count q.1\/(cs.count q.1=cs.count b/\q.1<b)):=λh=>by rw[W.2 h]at aJ;cases aJ
    refine⟨⟨b,B++[q],z.eraseIdx j,_,_,rfl,al,am.trans aE,O,(mH gO z j),aG,λp e=>?_⟩,aI⟩;rcases l9.1 e with e|e
    .exact an p e
    .rw[j4.1 e];omega
  .intro aw aq;have aK:∀K:x3->Prop,V x8 (Instr.lookup lQ (.map (σ m)) (Δ b) false) ap K=K (Δ ((cs.count b:Nat):Int)):=λK=>by
    rw[qo lQ.u qJ O.map (qK E) ⟨_,rfl⟩ ba];simp
   rw[aK,bS,aj];refine⟨λh1=>aq _ _ ⟨rfl,true,rfl,⟨λ_=>.inl Ω,λ_=>rfl⟩⟩,λh1=>?_⟩;rw[aK,bb,aj];refine⟨λbf=>?_,λbf=>aq _ _ ⟨rfl,false,rfl,⟨λh=>(by cases h),λh=>Ω⟩⟩⟩;rw[aR];refine aq _ _ ⟨rfl,_,rfl,?_⟩;rw[decide_eq_true_eq];omega
theorem Nj{g:Nat}{k:o9}{p:r9}(h:aq k e w g v l)(q:ad w j p cs)(x:e≠p)(s:leads v r):r≠j:=by
 obtain⟨rfl,_⟩:=bR h s;obtain⟨_,⟨rfl,_⟩|⟨_,_,_,f,_⟩⟩:=h
 .obtain⟨a,n,c,h,_⟩:=s;cases h
 .rintro rfl;unfold ad at q f;rw[q]at f;injection f with h1;injection h1 with z y;exact x y.symm
def Nk(w:x4)(ah:Λ)(k:Int)(cs:Λ)(v:x3)(w':x4):Prop:=Ext w w'/\∃g m o D,v=Γ g/\eO w' g m ah k o D/\D.length<=(aN ah).toNat/\ir ah (im D o) cs/\s8 cs o
theorem Nl{g bN:Nat}{cs:Λ}(h:df w g bN sv ah k cs)(aD:∀c∈cs,cz c k):ai x8 H2 [Γ g] w (Nk w ah k cs):=by
 obtain⟨⟨aZ,gs,a8,hm,cl⟩,⟨_,_,ba⟩,I,al⟩:=id h;have cm:=prod_bound I;have cn:=I.1;have bb:cs≠[]:=λhe=>by rw[he]at al;simp at al;omega
 refine iF func190 ?_;rw[da e0.u];simp only[Z6,aY];refine(mG h).mono ?_;rintro c8 U _ ⟨O,cp,cq,aE⟩;refine bw au.i λam cr ct bd be=>?_;have cu:=be.lt;refine bq au.i aE.ls.cells.1 aE.ls.cells.2 be (by simp[x3.cells]) λan bO cw ap=>?_;have ap:ad an am au [c8]:=ap;have cA:=O.size;have cB:=bd.size;have bf:Ext U an:=bd.put bO Ω;have bg:=aE.ext bf;have Z:=O.trans bf;refine aW (λu aq=>∃a A m o K L,u=Γ a/\Ext an aq/\ad aq a eZ [Γ A]/\an.heap.size<=m/\fK aq A m K L ah k o []/\s8 cs o) ?_ ?_
 .rintro _ aq ⟨a,A,m,o,K,L,rfl,ab,e,cC,B,E⟩;have bP:=h.ext (Z.trans ab);have bQ:=ap.ext ab;have bR:=bg.ext ab;refine(pe bP).mono ?_;rintro _ cD _ ⟨rfl,bS⟩;refine vC.mono ?_;rintro _ aG _ ⟨bT,bh,rfl,cE,bi⟩;have P:=bS.trans bT;have bk:=B.ext P;have bU:=bQ.ext P;have bl:=e.ext P;have bV:=bR.ext P;have bn:=hm.ext ((Z.trans ab).trans P);have Q:=bk.2.2.1;have bW:=(Z.trans ab).trans P;have cF:=Z.size;have bX:=vB (g:=bh) (B0:=aG.heap.size) (sv:=sv) I;refine oD.old ⟨Nat,false,lL,#[Γ bh],_,_,_,_,λi w'=>ae (λr=>r=m) aG w'/\∃D,D.length<=i/\fK w' A m K L ah k o D/\∀(j:Nat)t,(bj ah)[j]?=σ t->im D o t=if j<i then bm ah cs t else o,λ_ _ _=>False,rfl,bX.s,
   ?_,λ_ _ S h=>⟨h.1.ext S,h.2.1.ext S,X0 h.2.2 S.size⟩,λ_ _ _ S ⟨h1,D,bY,b0,ba⟩=>⟨h1.trans (S.aa _),D,bY,b0.ext S,ba⟩,λ_ _ _ _ _ h=>h,⟨bi,bn.ls,o5 _⟩,⟨ae.refl _ _,[],o5 _,bk,λj t _=>by rw[if_neg Ω];rfl⟩,?_,?_,λ_ _ h=>h.elim,λ_ _ _ h=>h.elim⟩
  .rintro _ _ _ _ ⟨_,_,_,_,rfl,_⟩;rfl
  .rintro _ aO i _ b1 ⟨cG,cH,b2⟩ ⟨hi,rfl,cI,gt,b3,cJ,y⟩ ⟨av,D,bo,aI,aJ⟩;cases b3;have aK:(bj ah)[i]?=σ (cR ah (i:Int)):=qg I.2 Ω;have b4:dp ah (cR ah (i:Int)):=vt I.2 hi;generalize cR ah (i:Int)=t at*;have bp:=L6 I.2 al aK;intro b5 ax _ _;intro b6 b7 _ _;have ay:=ax.trans b7;have az:ae (λr=>r=m) aG b6:=av.trans (ay.aa _);rw[aF Ψ ((s7 bl Q az).Qz rfl),aF Ψ ((s7 bU Q az).Qz rfl),bc au.u ao.i Ψ (CM bV Q az).ls bp];have aL:=aI.ext ay;refine(BB aL.is (y.ext ay).ls (c:=bm ah cs t)).mono ?_;rintro _ cK _ ⟨_,b8⟩;obtain⟨rfl,aM,D',br,bt⟩:=b8 ⟨b4,aD _ (x6 bp)⟩;have aN:=az.trans aM;have cL:=br.2;refine⟨⟨s7 bi Q aN,(CM bn Q aN).ls,X0 b2 (X0 ay.size aM.size)⟩,⟨aN,D',Ω,aL.put aM bt,λj s M=>?_⟩,λh=>by cases h⟩;rw[br.cost aL.is.nodup bt.nodup];by_cases bu:j=i
   .subst bu;rw[aK]at M;cases M;rw[if_pos rfl,if_pos Ω]
   .rw[if_neg (λ(he:s=t)=>bu (Ng I.2 (by rw[<-he];exact M) aK)),aJ j s M];by_cases h1:j<i
    .rw[if_pos h1,if_pos Ω]
    .rw[if_neg h1,if_neg Ω]
  .rintro i b1 rfl ⟨av,D,bo,aI,aJ⟩;rw[aF Ψ ((s7 bl Q av).Qz rfl)];intro b5 ax _;refine⟨(bW.put av Ω).trans ax,A,m,o,D,rfl,aI.is.ext ax,bo,⟨al,λt b9=>?_⟩,E⟩;obtain⟨j,M⟩:=Nh I.2 b9;have:=(x5.1 M).1;rw[jj I.2]at this;rw[aJ j t M,if_pos this]
 intro aw bx;intro z ac _ _;have aP:=Z.trans ac;have bB:=ac;have aA:=h.ext aP;have bC:=bg.ext ac;have cM:=ac.size;rw[aF Ψ ((ap.ext ac).Qz rfl)];have bD:∀{a:Nat}{w':x4}{aO:x3}{o:Int},Ext z w'->z.heap.size<=a->(∃f,ad w' a eZ [f])->aH .i64 w' aO ah->s8 cs o->
   ai x8 oI [aO,Δ k,Δ o] w' λC q=>V x8 (Y2 C 0) q λN=>V x8 (Y2 C 1) q λ_=>aC x8 (o8 eZ (Γ a) N) q λ(_:Unit)G=>aw (Γ a) G:=by
  rintro a w' aO o x p ⟨f,e⟩ y E;refine(Bv y).mono ?_;rintro _ q _ ⟨aQ,_,_,aR⟩;obtain⟨A,m,rfl,ca,cb,B⟩:=aR I (aD _ E.1);obtain⟨K,L,B⟩:=B.at;rw[bz,bA];have cc:=e.lt;have s':=x.size;refine bq eZ.i rfl rfl (e.ext aQ) Ξ λG bE cN cd=>?_;refine bx _ _ ⟨a,A,m,o,K,L,rfl,((bB.trans x).trans aQ).put bE Ω,cd,Ω,B.aa bE (λhe=>by have he:A=a:=he;omega) (λhe=>by have he:m=a:=he;omega) (λr aS he=>?_),E⟩;exact Nj B.2.1 (e.ext aQ) Φ aS he
 have bF:∀{a:Nat}{w':x4}{aO:x3},Ext z w'->z.heap.size<=a->(∃f,ad w' a eZ [f])->aH .i64 w' aO ah->
   ai x8 rV [c8] w' λaf U=>ai x8 oI [aO,Δ k,af] U λC q=>V x8 (Y2 C 0) q λN=>V x8 (Y2 C 1) q λ_=>aC x8 (o8 eZ (Γ a) N) q λ(_:Unit)G=>aw (Γ a) G:=by
  rintro a w' aO x p ⟨f,e⟩ y;refine(CO (bC.ext x).ls bb Ω).mono ?_;rintro _ U _ ⟨O,o,rfl,E⟩;exact bD (x.trans O) p ⟨f,e.ext O⟩ (y.ext O) E
 have bG:∀{a:Nat}{w':x4}{aO:x3},Ext z w'->z.heap.size<=a->(∃f,ad w' a eZ [f])->aH .i64 w' aO ah->
   ai x8 uU [Γ g] w' λaT J=>(Ext z J\/bZ x8 (u5 au (Γ am)) c8 J/\True)/\
    ai x8 rV [c8] J λaf U=>ai x8 oI [aO,aT,af] U λC q=>V x8 (Y2 C 0) q λN=>V x8 (Y2 C 1) q λ_=>aC x8 (o8 eZ (Γ a) N) q λ(_:Unit)G=>aw (Γ a) G:=by
  rintro a w' aO x p ⟨f,e⟩ y;refine(Bk (aA.ext x)).mono ?_;rintro _ J _ ⟨rfl,H⟩;exact⟨.inl (x.trans H),bF (x.trans H) p ⟨f,e.ext H⟩ (y.ext H)⟩
 have bH:ah.length<=1000:=Ω
 have bI:∀{a:Nat}{w':x4},Ext z w'->z.heap.size<=a->(∃f,ad w' a eZ [f])->
   ai x8 zr [.agg #[sv]] w' λce w0=>(Ext z w0\/bZ x8 (u5 au (Γ am)) c8 w0/\True)/\
    ai x8 uU [Γ g] w0 λaT J=>(Ext z J\/bZ x8 (u5 au (Γ am)) c8 J/\True)/\
    ai x8 rV [c8] J λaf U=>ai x8 oI [ce,aT,af] U λC q=>V x8 (Y2 C 0) q λN=>V x8 (Y2 C 1) q λ_=>aC x8 (o8 eZ (Γ a) N) q λ(_:Unit)G=>aw (Γ a) G:=by
  rintro a w' x p ⟨f,e⟩;refine(Bl (hm.ext (aP.trans x)).ls bH).mono ?_;rintro aO J _ ⟨H,_,_,y⟩;exact⟨.inl (x.trans H),bG (x.trans H) p ⟨f,e.ext H⟩ y.ls⟩
 have ag:∀{w':x4}{R:x3->x4->Prop},Ext z w'->(∀a aj,z.heap.size<=a->Ext w' aj->(∃f,ad aj a eZ [f])->R (Γ a) aj)->aC x8 (Instr.alloc eZ true (.tuple #[])) w' R:=λ{w'}{R}x cg=>by
  have:=x.size;exact bw eZ.i λa aj p ch a8=>cg a aj Ω ch ⟨_,a8⟩
 refine⟨?_,ag (Ext.refl _) λa cO p aB e=>⟨.inl aB,?_⟩⟩
 rotate_left
 .refine (pe (aA.ext aB)).mono ?_;rintro _ cP _ ⟨rfl,aU⟩;obtain⟨f,e⟩:=e;exact⟨.inl (aB.trans aU),bI (aB.trans aU) p ⟨f,e.ext aU⟩⟩
 refine(pe aA).mono ?_;rintro _ cQ _ ⟨rfl,W⟩;refine⟨.inl W,?_,ag W λa cS p bJ e=>⟨.inl (W.trans bJ),bI (W.trans bJ) p e⟩⟩;refine(Bl (hm.ext (aP.trans W)).ls bH).mono ?_;rintro aO cT _ ⟨ci,_,_,y⟩;have X:=W.trans ci;refine⟨.inl X,?_,ag X λa cU p aV e=>⟨.inl (X.trans aV),bG (X.trans aV) p e (y.ext aV).ls⟩⟩;refine(Bk (aA.ext X)).mono ?_;rintro _ cV _ ⟨rfl,aX⟩;have Y:=X.trans aX;refine⟨.inl Y,?_,ag Y λa cW p a1 e=>⟨.inl (Y.trans a1),bF (Y.trans a1) p e ((y.ext aX).ext a1).ls⟩⟩;refine(CO (bC.ext Y).ls bb Ω).mono ?_;rintro _ cX _ ⟨bK,o,rfl,E⟩;have ak:=Y.trans bK;have bL:=(y.ext aX).ext bK;refine⟨?_,ag ak λa cY p a2 e=>⟨.inl (ak.trans a2),bD (ak.trans a2) p e (bL.ext a2).ls E⟩⟩;refine(Bv bL.ls).mono ?_;rintro _ cZ _ ⟨cj,_,_,aR⟩;obtain⟨A,m,rfl,ca,cb,B⟩:=aR I (aD _ E.1);obtain⟨K,L,B⟩:=B.at;rw[bz,bA];have a6:=ak.trans cj;refine bw eZ.i λa c0 p a7 e=>?_;refine⟨.inl (a6.trans a7),?_⟩;have cc:=e.lt;obtain⟨c1,c2,t3⟩:=B.ql;have c3:=ak.size;have c4:=a6.size;refine bq eZ.i rfl rfl e (by simp[x3.cells]) λc5 bM c6 ck=>?_;exact bx _ _ ⟨a,A,m,o,K,L,rfl,((bB.trans a6).trans a7).put bM Ω,ck,Ω,(B.ext a7).aa bM (λhe=>by have he:A=a:=he;omega) (λhe=>by have he:m=a:=he;omega) (λr aS he=>by have he:r=a:=he;have:=t3 r aS;omega),E⟩
theorem CP{acc:List cI}{g:cI}(h:∀x∈acc,x.1≠g.1):il k acc g=acc++[g]:=by
 unfold il;rw[if_neg];intro hm;obtain⟨x,a,he⟩:=j0.1 hm;exact h x a he
theorem Nn{acc:List cI}{g h:cI}{i:Nat}(e:iO acc)(hi:acc[i]?=σ h)(he:h.1=g.1):il k acc g=acc.set i (h.1,ed k h.2 g.2):=by
 have f:=(x5.1 hi).1;unfold il;rw[if_pos (j0.2 ⟨h,x6 hi,he⟩)];refine Y7 λj=>?_;rw[v8,X1];by_cases a:i=j
 .subst a;rw[hi,Z7,if_pos he,if_pos rfl,if_pos f]
 .rw[if_neg a];cases p:acc[j]? with
  |none=>rfl
  |some y=>
   have:y.1≠g.1:=λq=>a (by
    have h1:(acc.map (·.1))[i]?=σ g.1:=by rw[v8,hi,Z7,he]
    have r:(acc.map (·.1))[j]?=σ g.1:=by rw[v8,p,Z7,q]
    exact kq e h1 r)
   rw[Z7,if_neg this]
theorem No{α β:Type}{f:β->α->β}{b:β}{l:List α}{i:Nat}{x:α}(h:l[i]?=σ x):(l.take (i+1)).foldl f b=f ((l.take i).foldl f b) x:=by
 rw[r8,h,l7,R5];rfl
def mK(w:x4)(k:Int)(sizes:Λ)(x:ct):Prop:=(∃a,aq .i64 ag w a x.sv x.sc)/\∃m o D,eO w x.g m (bI sizes x.sc) k o D/\D.length<=4096/\ir (bI sizes x.sc) (im D o) x.cs
theorem mK.ext{x:ct}(h:mK w k sizes x)(a:Ext w w'):mK w' k sizes x:=by
 obtain⟨⟨e,h1⟩,m,o,D,f,j⟩:=h;exact⟨⟨e,h1.ext a⟩,m,o,D,f.ext a,j⟩
theorem mK.aa{x:ct}(h:mK w k sizes x)(q:ae S w w')(j:∀r,S r->∃e c,ad w r e c/\e≠fD/\e≠ag):mK w' k sizes x:=by
 obtain⟨⟨z,h1⟩,m,o,D,A,B⟩:=h;obtain⟨sv,gs,f⟩:=A.at;have s:∀{g:Nat}{v:x3}{l:Λ},aq .i64 ag w g v l->∀r,leads v r->¬S r:=λhm r C I=>by
  obtain⟨e,c,a,_,p⟩:=j r I;exact ce hm a (λhe=>p he.symm) C rfl
 refine⟨⟨z,br h1 q (s h1)⟩,m,o,D,(f.aa q (λI=>?_) (λI=>?_) (s f.2.1)).is,B⟩
 .obtain⟨e,c,a,p,_⟩:=j _ I;have y:=f.1;unfold ad at y a;rw[y]at a;exact p (Obj.cells.inj (Z0 a)).2.1.symm
 .obtain⟨e,c,a,_,_⟩:=j _ I;exact sT a f.2.2.1 rfl
def qL(w:x4)(g:Nat)(v:x3)(k:Int)(sizes:Λ)(L:List ct):Prop:=be eG 2 cD w g v L/\∀x∈L,mK w k sizes x
theorem qL.ext{g:Nat}{L:List ct}(h:qL w g v k sizes L)(a:Ext w w'):qL w' g v k sizes L:=⟨h.1.ext a,λx e=>(h.2 x e).ext a⟩
def Np(w:x4)(B a:Nat)(f:ca):Prop:=∃szv e gz g L,ad w a cC [bU f.name,Δ f.k,szv,e]/\aq .i64 ag w gz szv f.sizes/\qL w g e f.k f.sizes L/\L.map dY=fI f/\B<=a/\(∀r,leads szv r->B<=r)/\∀x∈L,∀r,leads x.sv r->B<=r
theorem Nq{g bp:Nat}{L:List ct}{q:Λ}(h:fc w g v L)(B:ad w bp an [sv])(I:aH .i64 w sv q):
  ai x8 zg [v,.func (.func zh) #[] #[Γ bp]] w λr w'=>Ext w w'/\((r=Δ (-1)/\∀x∈L,x.sc≠q)\/∃i:Nat,r=Δ (i:Int)/\∃x,L[i]?=σ x/\x.sc=q):=by
 refine ay func177 ?_;rw[e9 gm.u h.1];refine b3.range L.length (λi _ J=>Ext w J/\∀x∈L.take i,x.sc≠q) h.1.le ⟨Ext.refl _,λc a=>by simp at a⟩ ?_ ?_
 .rintro i _ J k hi ⟨f,s⟩ hk;refine bD Ω ?_;obtain⟨x,y⟩:=aD (l:=L) hi;rw[s3 rfl (h.ext f) y];show ai x8 zh [jS x,Γ bp] J _;obtain⟨⟨E,hm⟩,_⟩:=(h.ext f).at y;refine ay func178 ?_;refine bk λal U G j z=>?_;have z:ad U al cW [x.sv,Γ x.g]:=by
   obtain⟨_,_,_,e⟩:=cY hm.ls;simp only[jS,eG,e]at z ⊢;exact z
  rw[aG cW.p 0 z rfl,aF Ψ ((B.ext (f.trans j)).Qz rfl)];refine(Jj (hm.ls.ext j) (I.ext (f.trans j))).mono ?_;rintro _ H _ ⟨rfl,A⟩;rw[aj];refine⟨λhe=>⟨(f.trans j).trans A,.inr ⟨i,rfl,x,y,he⟩⟩,λC=>?_⟩;rw[aM];refine hk _ _ ⟨(f.trans j).trans A,λc a=>?_⟩;rw[r8,y]at a;rcases l9.1 a with a|a
  .exact s c a
  .simp at a;subst a;exact C
 .rintro _ J k ⟨f,s⟩;rw[o6]at s;rw[aR,aj];exact⟨λh=>Ω,λ_=>⟨f,.inl ⟨rfl,s⟩⟩⟩
def eR(f:ca)(i:Nat):List cI:=((f.funs.take i).map (hZ f.sizes f.k)).foldl (il f.k) []
theorem CQ{f:ca}(a:ff N f)(i:Nat):(∀g∈eR f i,ft f.sizes f.k g)/\iO (eR f i)/\(eR f i).length<=i:=by
 have:=vT (sizes:=f.sizes) (k:=f.k) (by have:=a.k.1;omega) (l:=(f.funs.take i).map (hZ f.sizes f.k)) (acc:=[]) (λh ap=>by cases ap) List.nodup_nil λg j=>by
  obtain⟨x,p,rfl⟩:=j0.1 j;exact pn a (T9 p)
 refine⟨this.1,this.2.1,?_⟩;have e:=this.2.2;rw[List.length_nil,u7,X3,n9]at e;exact X0 e (Nat.min_le_left _ _)
theorem wg{f:ca}{i:Nat}{x:cw}(h:f.funs[i]?=σ x):eR f (i+1)=il f.k (eR f i) (hZ f.sizes f.k x):=by
 unfold eR;rw[r8,h,l7,Z2,R5];rfl
theorem CR(f:ca):eR f f.funs.length=fq f:=by unfold eR fq;rw[o6]
theorem wh{L:List ct}{i:Nat}{x:ct}{D:List cI}(h:L.map dY=D)(a:L[i]?=σ x):dY x∈D:=by rw[<-h];exact j0.2 ⟨x,x6 a,rfl⟩
def Nr(w:x4)(f:ca)(v:x3)(w':x4):Prop:=Ext w w'/\((¬l5 f.funs<=16384/\∃e:Int,e≠0/\v= .tuple #[.pointer ν,Δ e])\/∃a,v= .tuple #[Γ a,Δ 0]/\Np w' w.heap.size a f)
theorem s9{g a:Nat}{sc cs:Λ}(hm:aq .i64 ag w g sv sc):∀u∈eG ⟨sv,a,sc,cs⟩,u.oneCell'=true:=λu hu=>by
 simp[eG]at hu;rcases hu with rfl|rfl
 .exact hm.ls.cells.2
 .rfl
theorem Ns{bP:Nat}{f:ca}(bQ:lf w bP f)(G:ff N f)(bS:N<=60000)(c2:f.name≠[]/\∀b∈f.name,bO b=true):
  ai x8 Hg [Γ bP] w (Nr w f):=by
 have hk:=G.k;refine ay func124 ?_;refine(MM bQ G bS c2).mono ?_;rintro _ J _ ⟨aJ,e,rfl,he⟩;rw[bK,aj];refine⟨λbV=>⟨aJ,.inl ⟨λh=>bV (he h),e,bV,rfl⟩⟩,λer=>?_⟩;have bW:=bQ.ext aJ;obtain⟨szv,aK,gz,bb,bY,c3,bc,aL⟩:=id bW;have es:bb.length<=256:=by rw[aL.1];exact G.k4
 rw[aQ cC.p 3 bY rfl,fG dN.u bc];refine b3.range bb.length (λi l U=>∃g L,Ext J U/\fc U g l L/\Sem U f.k f.sizes L/\L.map dY=eR f i/\(∀r,leadsTo l r->J.heap.size<=r)/\∀x∈L,∀r,leads x.sv r->J.heap.size<=r) (lW bc)
  ⟨0,[],Ext.refl _,⟨be.nil _ _ _ _ _,λx E=>(by cases E)⟩,λx E=>(by cases E),rfl,λr A=>(fg A).elim,λx E=>(by cases E)⟩ ?_ ?_
 .rintro i l U c4 hi ⟨g,L,X,az,aO,H,P,aA⟩ c5;obtain⟨d,bZ⟩:=aD (l:=bb) hi;obtain⟨x,aP⟩:∃x,f.funs[i]?=σ x:=⟨_,x7 (by have:=aL.1;omega)⟩;have b0:=x6 aP;have c6:=aL.2 i x d aP bZ;have Y:=pn G b0;obtain⟨c7,c8,et⟩:=CQ G i;have c9:L.length<=i:=by have b2:=congrArg Q0 H;rw[u7]at b2;omega
  refine bD Ω ?_;refine aW (λl' aR=>∃Q Z,Ext J aR/\fc aR Q l' Z/\Sem aR f.k f.sizes Z/\Z.map dY=eR f (i+1)/\(∀r,leadsTo l' r->J.heap.size<=r)/\∀x∈Z,∀r,leads x.sv r->J.heap.size<=r) ?_ ?_
  .rintro l' aR ⟨Q,Z,h1,da,db,dc,dd⟩;rw[aM];exact c5 _ _ ⟨Q,Z,h1,da,db,dc,dd⟩
  intro aw b4;refine lX (α:=ha) cD.p rfl dN.u cD.i (bi bc X) bZ λcs bd=>?_;have b5:cs.length=2:=ak.len bd;refine bw cD.i λal eu ev de dg=>?_;refine bT (vs:=cs) cD.i b5 rfl (ak.one bd) dg λdh di ew dj=>?_;have K:Ext U dh:=de.put di Ω;rw[bF cD.p cD.i b5 dj.range];refine(MW G bS b0 c6 (bi bd K)).mono ?_;rintro _ dk _ ⟨dl,sv,gs,b6,dm,dp,rfl,ey,ab,b9⟩;rw[bz,bA];refine bw an.i λbp ez eA dq dr=>?_;refine bq an.i ab.ls.cells.1 ab.ls.cells.2 dr (by simp[x3.cells]) λcb ds eB aT=>?_;have bf:Ext dk cb:=dq.put ds Ω;have aT:ad cb bp an [sv]:=aT;rw[kV];have bg:=(K.trans dl).trans bf;have eC:=bg.size;have eD:=X.size;refine(Nq (az.ext bg) aT (ab.ls.ext bf)).mono ?_;rintro _ eE _ ⟨aU,A⟩;have aV:=bg.trans aU;have cc:=bf.trans aU;have bh:=ab.ext cc;have cg:=b9.ext cc;have ch:=aT.ext aU;have ci:=az.ext aV;have bj:=aO.ext aV;rcases A with⟨rfl,dt⟩|⟨cj,rfl,y,B,aX⟩
  .refine bD Ω ?_;rw[aF Ψ (ch.Qz rfl),dn (cs:=#[sv,Γ b6]) (by obtain⟨_,_,_,rfl⟩:=cY ab.ls;kernel_rfl)];let a:ct:=⟨sv,b6,bo x.scope,(hZ f.sizes f.k x).2⟩;have bl:∀u∈eG a,u.oneCell'=true:=s9 bh;refine h2 (f:=eG) (a:=a) gm.u cW.i Ω rfl rfl λeF eH du eI af dv=>?_;have ah:=ci.ext af;refine ip (f:=eG) (a:=a) gm.u cW.i rfl ah.1 (by simpa using dv.sl) bl Ω Ω λaB Q eJ aC bm aE=>?_;have ck:=bh.ext af;have aY:∀{r:Nat},leadsTo l r->∃c,ad du r cW c:=λA=>by
    obtain⟨rfl,c,C⟩:=ee ah.1 A;exact⟨c,C⟩
   refine b4 _ _ ⟨Q,L++[a],((X.trans aV).trans af).then aE (λr A he=>by have:=P r he;omega),fc.mk aC λz s=>?_,λz s=>?_,?_,λr A=>?_,λz s r A=>?_⟩
   .rcases l9.1 s with s|s
    .have:=(ah.2 z s).aa aE λr A he=>(ah.2 z s).2.1 r A (ah.1.leads he).1;exact⟨this.1,this.2.2⟩
    .rw[j4.1 s];exact⟨⟨gs,br ck aE λr A he=>by obtain⟨c,C⟩:=aY he;exact ce ck C Φ A rfl⟩,Y.scope⟩
   .rcases l9.1 s with s|s
    .exact (bj.ext af).row ah aE z s
    .rw[j4.1 s];exact⟨dm,dp,wa (cg.ext af) aE λr A=>aY A⟩
   .rw[Z2,H,wg aP,CP]
    .rfl
    .intro c I dw;rw[<-H]at I;obtain⟨z,s,rfl⟩:=j0.1 I;exact dt z s dw
   .rcases bm r A with h|h
    .exact P r h
    .have:=af.size;have:=aU.size;omega
   .rcases l9.1 s with s|s
    .exact aA z s r A
    .rw[j4.1 s]at A;have b2:=(bR ab A).1;have:=K.size;omega
  .refine b7 Ω ?_;intro eK R _ _;have bn:=ci.ext R;have cl:=(x5.1 B).1;obtain⟨dx,dy,aZ⟩:=(bj.ext R) y (x6 B);have cm:=ch.ext R;have cn:=bh.ext R;have dz:=cg.ext R;rw[dE rfl gm.u cW.i bn.1 cl,aS cW.p rfl,aF Ψ (bn.1.range B 1 _ rfl),aF Ψ (cm.Qz rfl),aF Ψ (cm.Qz rfl)];have am:ft f.sizes f.k (dY y):=c7 _ (wh H B);rw[aX]at aZ;have cp:∀{c:Int},0<=c/\c<=f.k->cz c f.k:=λh=>⟨hk,h.1,h.2⟩;refine(M8 aZ dz cn.ls cn.ls hk (λc I=>cp (am.h3 c I)) (λc I=>cp (Y.h3 c I))).mono ?_;intro eL cq _ dA;have dC:y.cs.length=(aN (bI f.sizes (bo x.scope))).toNat:=by have:=am.len;rw[show(dY y).1=y.sc from rfl,aX]at this;exact this
   have dD:cd (bI f.sizes (bo x.scope)):=b9.2.2.1;obtain⟨bt,cr,cu,cw,eM,rfl,dF⟩:=Nd Y.up (λv dG=>(Y.scope.1 v dG).1) (by simp[bI];rfl) dD Y.small dC Y.len dA;rw[gq,gu,gv];have S:=bn.ext bt;rw[dE rfl gm.u cW.i S.1 cl,aS cW.p rfl];let a:ct:=⟨y.sv,cr,y.sc,ed f.k y.cs (hZ f.sizes f.k x).2⟩;refine ph (f:=eG) (j:=1) (a:=y) (a':=a) e0.i rfl rfl S.1 B rfl Ω λdH a1 eN dI=>?_;have aY:∀{r:Nat},leadsTo l r->∃c,ad cq r cW c:=λA=>by
    obtain⟨rfl,c,C⟩:=ee S.1 A;exact⟨c,C⟩
   refine b4 _ _ ⟨g,L.set cj a,((X.trans aV).trans (R.trans bt)).then a1 (λr A he=>by have:=P r he;omega),fc.mk dI λz s=>?_,λz s=>?_,?_,P,λz s=>?_⟩
   .have cA:∀z∈L,(∃bu,aq .i64 ag dH bu z.sv z.sc)/\jn z.sc:=λz s=>by
     have:=(S.2 z s).aa a1 λr A he=>(S.2 z s).2.1 r A (S.1.leads he).1;exact⟨this.1,this.2.2⟩
    rcases W5 s with s|rfl
    .exact cA z s
    .exact cA y (x6 B)
   .rcases W5 s with s|rfl
    .exact ((bj.ext R).ext bt).row S a1 z s
    .refine⟨cu,cw,wa ?_ a1 λr A=>aY A⟩;show df cq cr cu cw (bI f.sizes y.sc) f.k _;rw[aX];exact dF
   .rw[U5,H,wg aP,Nn (g:=hZ f.sizes f.k x) c8 (i:=cj) (h:=dY y) (by rw[<-H,v8,B];rfl) aX];rfl
   .rcases W5 s with s|rfl
    .exact aA z s
    .exact aA y (x6 B)
 .rintro l U c4 ⟨g,L,X,az,aO,H,P,aA⟩;refine b7 Ω ?_;rw[aL.1,CR]at H;have c9:L.length<=256:=by
   have:=(lb G).2.2;rw[<-H,u7]at this;have:=G.k4;omega
  refine(M2 az aO Ω).mono ?_;rintro eO cB _ ⟨cE,cF,dJ⟩;have dK:Ext J cB:=X.then cE λr A he=>by have:=P r he;omega
  have dL:Sem cB f.k f.sizes (L.filter gb):=λz s=>(aO.row az cE) z (List.mem_filter.1 s).1;have eP:(L.filter gb).length<=L.length:=List.length_filter_le _ _;refine(MT cF Ω).mono ?_;rintro _ cG _ ⟨cH,M,a2,dM,cI⟩;have dO:Ext J cG:=dK.then cH λr A he=>by have:=P r (dJ r he);omega
  have cJ:Sem cG f.k f.sizes M:=λz s=>(dL.row cF cH) z (a2.mem_iff.1 s);have eQ:M.length<=256:=by rw[a2.length_eq];omega
  have dP:∀x∈M,∀r,leads x.sv r->J.heap.size<=r:=λx E=>aA x (List.mem_filter.1 (a2.mem_iff.1 E)).1;have cK:M.map dY=fI f:=by
   refine LV G ?_ ?_
   .refine (a2.map dY).trans ?_;rw[<-H,List.filter_map];exact .refl _
   .rw[List.pairwise_map];refine V6.2 λp q dQ cL dR=>?_;exact dM p q _ _ (X5 _) dR cL (x7 dQ) (x7 cL)
  intro eS a6 _ _;have ao:=dO.trans a6;have eU:=bW.ext ao;have bx:=bY.ext ao;rw[aQ cC.p 0 bx rfl,aQ cC.p 1 bx rfl,aQ cC.p 2 bx rfl];refine(jJ (c3.ls.ext ao) (by have:=G.sizes.2.1;omega)).mono ?_;rintro aH cM _ ⟨V,dS,eV,bB⟩;refine⟨.inl V,?_⟩;rw[dn (cs:=#[bU f.name,Δ f.k,aH,.slice ν 0 0]) (by obtain⟨_,_,_,rfl⟩:=cY bB.ls;kernel_rfl)];refine bk λW dT eW a7 bC=>?_;have bC:ad dT W cC [bU f.name,Δ f.k,aH,.slice ν 0 0]:=bC;have eX:=(ao.trans V).trans a7;have dU:=((cI.ext a6).ext V).ext a7;have eY:=((cJ.ext a6).ext V).ext a7;rw[e9 gm.u dU.1];refine b1.range M.length (λi ap=>∃aK gr O,Ext cM ap/\ad ap W cC [bU f.name,Δ f.k,aH,aK]/\qL ap gr aK f.k f.sizes O/\O.map dY=(M.take i).map dY/\O.length=i/\(∀r,leadsTo aK r->cM.heap.size<=r)/\∀x∈O,∀r,leads x.sv r->J.heap.size<=r) Ω
   ⟨_,0,[],a7,bC,⟨be.nil _ _ _ _ _,λx E=>(by cases E)⟩,rfl,rfl,λr A=>(fg A).elim,λx E=>(by cases E)⟩ ?_ ?_
  rotate_left
  .rintro ap dV ⟨aI,gr,O,au,av,bE,a8,_,_,bG⟩;rw[o6,cK]at a8;refine b7 Ω ?_;have eZ:=aJ.size;have e1:=ao.size;have e2:=V.size;exact⟨(aJ.trans (ao.trans V)).trans au,.inr ⟨W,rfl,aH,aI,dS,gr,O,av,bB.ext au,bE,a8,Ω,λr A=>by have:=(bR bB A).1;omega,λx E r A=>by have:=bG x E r A;omega⟩⟩
  rintro i ap dV hi ⟨aI,gr,O,au,av,bE,a8,dW,cN,bG⟩ dX;obtain⟨y,B⟩:=aD (l:=M) hi;have cO:=(a6.trans V).trans au;have cP:=cI.ext cO;have cQ:=cP.at B;obtain⟨dx,dy,aZ⟩:=(cJ.ext cO) y (x6 B);have am:ft f.sizes f.k (dY y):=sP G _ (wh cK B);refine bD Ω ?_;rw[s3 rfl cP B];refine bw cW.i λgy e3 e4 dZ ea=>?_;refine bT (vs:=eG y) cW.i rfl rfl cQ.one ea λeb ec e5 ef=>?_;have eg:Ext ap eb:=dZ.put ec Ω;intro e6 cR _ _;have bH:=eg.trans cR;have cS:=ef.ext cR;have eh:=av.ext bH;rw[aQ cC.p 3 eh rfl,aG cW.p 0 cS rfl,aG cW.p 1 cS rfl];refine(Nl (aZ.ext bH) λc I=>⟨hk,(am.h3 c I).1,(am.h3 c I).2⟩).mono ?_;rintro _ e7 _ ⟨bJ,ac,m,o,D,rfl,ei,ej,ek,_⟩;refine⟨.inl bJ,?_⟩;have cT:=bH.trans bJ;obtain⟨⟨bu,cU⟩,_,e8⟩:=cQ;have cV:=cU.ext cT;rw[dn (cs:=#[y.sv,Γ ac]) (by obtain⟨_,_,_,e⟩:=cY cU.ls;rw[e];kernel_rfl)];let a:ct:=⟨y.sv,ac,y.sc,y.cs⟩;have bl:∀u∈eG a,u.oneCell'=true:=s9 cV;refine h2 (f:=eG) (a:=a) dN.u cD.i Ω rfl rfl λv25 fa bL fb K em=>?_;refine⟨.inl (bJ.trans K),?_⟩;have ax:=cT.trans K;have ba:=bE.ext ax;refine ip (f:=eG) (a:=a) dN.u cD.i rfl ba.1 (by simpa using em.sl) bl Ω Ω λaB Q en aC bm cX=>?_;have fd:=au.size;have fe:=ax.size;have bM:ad en W cC [bU f.name,Δ f.k,aH,aI]:=(av.ext ax).aa cX λhe=>by
   obtain⟨rfl,c,C⟩:=ee ba.1 he;have h1:=av.ext ax;unfold ad at C h1;rw[h1]at C;exact absurd (Obj.cells.inj (Z0 C)).2.1 Φ
  rw[bX,aS cC.p rfl];have cZ:aB.cells= #[aB]/\aB.oneCell'=true:=by
   obtain⟨_,_,_,_,_,rfl,_⟩:=aC.sl;exact⟨rfl,rfl⟩
  refine bq dN.i cZ.1 cZ.2 bM Ξ λeo c0 fh ep=>?_;rw[aM];have bN:ae (λr=>r=W\/leadsTo aI r) bL eo:=(cX.mono λr _ h=>.inr h).trans (c0.mono λr _ h=>.inl h);have c1:∀r,(r=W\/leadsTo aI r)->∃e c,ad bL r e c/\e≠fD/\e≠ag:=λr A=>by
   rcases A with rfl|A
   .exact⟨_,_,av.ext ax,Φ,Φ⟩
   .obtain⟨rfl,c,C⟩:=ee ba.1 A;exact⟨_,c,C,Φ,Φ⟩
  refine dX _ ⟨aB,Q,O++[a],?_,ep,⟨aC.aa c0 λr A he=>?_,λz s=>?_⟩,?_,by rw[o7,dW];rfl,λr A=>?_,λz s=>?_⟩
  .exact (au.trans ax).then bN λr A he=>by
    rcases he with rfl|he
    .omega
    .have:=cN r he;omega
  .have he:r=W:=he;subst he;obtain⟨rfl,c,C⟩:=ee aC A;unfold ad at C bM;rw[bM]at C;exact absurd (Obj.cells.inj (Z0 C)).2.1 Φ
  .rcases l9.1 s with s|s
   .exact (ba.2 z s).aa bN c1
   .rw[j4.1 s];refine mK.aa (w:=bL) ⟨⟨bu,cV.ext K⟩,m,o,D,ei.ext K,?_,ek⟩ bN c1;have:=am.small;exact X0 ej (by show(aN (bI f.sizes (dY y).1)).toNat<=4096;omega)
  .rw[Z2,a8,r8,B,Z2];rfl
  .rcases bm r A with h|h
   .exact cN r h
   .omega
  .rcases l9.1 s with s|s
   .exact bG z s
   .rw[j4.1 s];exact dP y (x6 B)
theorem fh{a:r9}{c f:List x3}(h:ad w r e c)(h':ad w r a f):e=a:=by
 unfold ad at h h';rw[h]at h';exact(Obj.cells.inj (Z0 h')).2.1
theorem cO{α:Type}{f:α->List x3}{k:Nat}{a:r9}{g:Nat}{L:List α}(h:be f k e w g v L)(p:ad w j a cs)(q:e≠a):¬leadsTo v j:=λr=>by
 obtain⟨rfl,c,s⟩:=ee h r;exact q (fh s p)
structure lh where
 v:x3
 l:Λ
def nV(h:lh):List x3:=[h.v]
def hD(w:x4)(g:Nat)(v:x3)(aT:List lh):Prop:=be nV 1 au w g v aT/\∀h∈aT,∃a,aq .i64 ao w a h.v h.l
theorem hD.ext{g:Nat}{aT:List lh}(h:hD w g v aT)(a:Ext w w'):hD w' g v aT:=⟨h.1.ext a,λx e=>by
 obtain⟨f,hm⟩:=h.2 x e;exact⟨f,hm.ext a⟩⟩
theorem hD.qM{g:Nat}{aT:List lh}(h:hD w g v aT)(f:ae S w w')(j:∀r,S r->∃e c,ad w r e c/\e≠ao):∀h∈aT,∃a,aq .i64 ao w' a h.v h.l:=λx p=>by
 obtain⟨a,hm⟩:=h.2 x p;exact⟨a,br hm f λr q I=>by
  obtain⟨e,c,s,y⟩:=j r I;exact ce hm s (λhe=>y he.symm) q rfl⟩
theorem hD.aa{g:Nat}{aT:List lh}(h:hD w g v aT)(p:ae S w w')(q:∀r,S r->∃e c,ad w r e c/\e≠ao/\e≠au):hD w' g v aT:=
 ⟨h.1.aa p λr a I=>by
  obtain⟨e,c,f,_,j⟩:=q r I;exact cO h.1 f (λhe=>j he.symm) a,h.qM p λr a=>by
  obtain⟨e,c,f,j,_⟩:=q r a;exact⟨e,c,f,j⟩⟩
def nW(w:x4)(k:Int)(sizes:Λ)(x:ct):Prop:=(∃a,aq .i64 ag w a x.sv x.sc)/\∃e f,df w x.g e f (bI sizes x.sc) k x.cs
theorem nW.ext{x:ct}(h:nW w k sizes x)(a:Ext w w'):nW w' k sizes x:=by
 obtain⟨⟨e,h1⟩,f,j,p⟩:=h;exact⟨⟨e,h1.ext a⟩,f,j,p.ext a⟩
theorem CS{g s:Nat}{x:x3}{cs:Λ}(h:df w g s x ah k cs)(j:ae S w w')(p:∀r,S r->∃e c,ad w r e c/\e≠cX/\e≠ag/\e≠ao):df w' g s x ah k cs:=by
 obtain⟨⟨aZ,gs,h1,y,z⟩,A⟩:=h;refine⟨⟨aZ,gs,h1.aa j λI=>?_,br y j λr q I=>?_,br z j λr q I=>?_⟩,A⟩
 .obtain⟨e,c,a,f,_⟩:=p g I;exact f (fh a h1)
 .obtain⟨e,c,a,_,f,_⟩:=p r I;exact ce y a (λhe=>f he.symm) q rfl
 .obtain⟨e,c,a,_,_,f⟩:=p r I;exact ce z a (λhe=>f he.symm) q rfl
theorem nW.aa{x:ct}(h:nW w k sizes x)(a:ae S w w')(f:∀r,S r->∃e c,ad w r e c/\e≠cX/\e≠ag/\e≠ao):nW w' k sizes x:=by
 obtain⟨⟨j,h1⟩,p,q,s⟩:=h;refine⟨⟨j,br h1 a λr y I=>?_⟩,p,q,CS s a f⟩;obtain⟨e,c,z,_,A,_⟩:=f r I;exact ce h1 z (λhe=>A he.symm) y rfl
def nX(w:x4)(g:Nat)(v:x3)(k:Int)(sizes:Λ)(L:List ct):Prop:=be eG 2 hs w g v L/\∀x∈L,nW w k sizes x
theorem nX.ext{g:Nat}{L:List ct}(h:nX w g v k sizes L)(a:Ext w w'):nX w' g v k sizes L:=⟨h.1.ext a,λx e=>(h.2 x e).ext a⟩
theorem nX.aa{g:Nat}{L:List ct}(h:nX w g v k sizes L)(p:ae S w w')(q:∀r,S r->∃e c,ad w r e c/\e≠hs/\e≠cX/\e≠ag/\e≠ao):nX w' g v k sizes L:=
 ⟨h.1.aa p λr a I=>by
  obtain⟨e,c,f,j,_⟩:=q r I;exact cO h.1 f (λhe=>j he.symm) a,λx s=>(h.2 x s).aa p λr a=>by
  obtain⟨e,c,f,_,j⟩:=q r a;exact⟨e,c,f,j⟩⟩
def gd(w:x4)(h:Nat)(n:aK):Prop:=∃a e f j gr aT L nm szv gz fv2,ad w h fC [Γ a,Δ n.zero,e,f]/\ad w a cC [nm,Δ n.k,szv,fv2]/\aq .i64 ag w gz szv n.sizes/\
 hD w j e aT/\aT.map (·.l)=n.unary/\nX w gr f n.k n.sizes L/\L.map dY=n.funs
theorem gd.ext{e:Nat}{n:aK}(h:gd w e n)(a:Ext w w'):gd w' e n:=by
 obtain⟨f,j,p,q,gr,aT,L,nm,szv,gz,fv2,h1,r,s,x,y,z,A⟩:=h;exact⟨f,j,p,q,gr,aT,L,nm,szv,gz,fv2,h1.ext a,r.ext a,s.ext a,x.ext a,y,z.ext a,A⟩
def qN(w:x4)(B:Nat)(k:Int)(sizes:Λ)(x:ct):Prop:=(∃f,aq .i64 ag w f x.sv x.sc)/\(∃a e,df w x.g a e (bI sizes x.sc) k x.cs/\B<=a/\∀r,leads e r->B<=r)/\B<=x.g/\∀r,leads x.sv r->B<=r
theorem qN.aa{x:ct}(h:qN w B k sizes x)(a:ae S w w')(f:∀r,S r->∃e c,ad w r e c/\e≠cX/\e≠ag/\e≠ao):qN w' B k sizes x:=by
 obtain⟨⟨j,h1⟩,⟨p,q,s,y⟩,z⟩:=h;refine⟨⟨j,br h1 a λr A I=>?_⟩,⟨p,q,CS s a f,y⟩,z⟩;obtain⟨e,c,C,_,E,_⟩:=f r I;exact ce h1 C (λhe=>E he.symm) A rfl
def l6(w:x4)(B g:Nat)(v:x3)(k:Int)(sizes:Λ)(L:List ct):Prop:=be eG 2 hs w g v L/\∀x∈L,qN w B k sizes x
theorem l6.ext{g:Nat}{L:List ct}(h:l6 w B g v k sizes L)(a:Ext w w'):l6 w' B g v k sizes L:=⟨h.1.ext a,λx e=>(h.2 x e).aa (a.aa λ_=>False) λ_ h=>h.elim⟩
theorem l6.aa{g:Nat}{L:List ct}(h:l6 w B g v k sizes L)(p:ae S w w')(q:∀r,S r->∃e c,ad w r e c/\e≠hs/\e≠cX/\e≠ag/\e≠ao):l6 w' B g v k sizes L:=
 ⟨h.1.aa p λr a I=>by
  obtain⟨e,c,f,j,_⟩:=q r I;exact cO h.1 f (λhe=>j he.symm) a,λx s=>(h.2 x s).aa p λr a=>by
  obtain⟨e,c,f,_,j⟩:=q r a;exact⟨e,c,f,j⟩⟩
theorem CT:∃o:Obj,fx o=false:=⟨.deferred ν,rfl⟩
theorem ghost(w:x4)(B:Nat):∃w0,Ext w0 w/\ae (λr=>r<B) w w0/\∀r o,w0.heap[r]?=σ o->fx o=true->B<=r:=by
 obtain⟨cu,f⟩:=CT;have e:∀r,(w.heap.mapIdx λr o=>if r<B then cu else o)[r]?=(w.heap[r]?).map λo=>if r<B then cu else o:=λr=>Ξ
 refine⟨{w with heap:=w.heap.mapIdx λr o=>if r<B then cu else o},⟨Ξ,λr o a I=>?_⟩,⟨Ξ,λr o a I j=>?_⟩,λr o a I=>?_⟩
 .have a:(w.heap.mapIdx λr o=>if r<B then cu else o)[r]?=σ o:=a;rw[e]at a;cases h:w.heap[r]? with
  |none=>rw[h]at a;cases a
  |some o'=>
   rw[h]at a;simp only[Z7,X4]at a;split at a
   .subst a;rw[f]at I;cases I
   .rw[a]
 .show (w.heap.mapIdx λr o=>if r<B then cu else o)[r]?=σ o;rw[e,a,Z7,if_neg j]
 .have a:(w.heap.mapIdx λr o=>if r<B then cu else o)[r]?=σ o:=a;rw[e]at a;cases h:w.heap[r]? with
  |none=>rw[h]at a;cases a
  |some o'=>
   rw[h]at a;simp only[Z7,X4]at a;split at a
   .subst a;rw[f]at I;cases I
   .omega
def CU(B:Nat)(w:x4)(a:Nat)(n:aK):Prop:=∃w0,gd w0 a n/\Ext w0 w/\∀r o,w0.heap[r]?=σ o->fx o=true->B<=r
theorem Nt{y C gr gz:Nat}{n:aK}{p q nm fv2:x3}{aT:List lh}{L:List ct}(h1:ad w y fC [Γ j,Δ n.zero,p,q])(E:ad w j cC [nm,Δ n.k,szv,fv2])(I:aq .i64 ag w gz szv n.sizes)(F:hD w C p aT)(J:aT.map (·.l)=n.unary)(G:l6 w B gr q n.k n.sizes L)(K:L.map dY=n.funs)(M:B<=y)(N:B<=j)(O:∀r,leads szv r->B<=r)(H:∀r,leadsTo p r\/leadsTo q r->B<=r)(P:∀h∈aT,∀r,leads h.v r->B<=r):CU B w y n:=by
 obtain⟨w0,z,a,Q⟩:=ghost w B;have no:∀{r:Nat},B<=r->¬r<B:=λh E=>Ω
 have s:∀{e:r9}{g:Nat}{v:x3}{l:Λ},aq .i64 e w g v l->(∀r,leads v r->B<=r)->aq .i64 e w0 g v l:=λh R=>br h a λr f=>no (R r f);refine⟨w0,⟨j,p,q,C,gr,aT,L,nm,szv,gz,fv2,h1.aa a (no M),E.aa a (no N),s I O,⟨F.1.aa a λr f=>no (H r (.inl f)),λh ap=>?_⟩,J,⟨G.1.aa a λr f=>no (H r (.inr f)),λx z=>?_⟩,K⟩,z,Q⟩
 .obtain⟨A,hm⟩:=F.2 h ap;exact⟨A,s hm (P h ap)⟩
 .obtain⟨⟨A,S⟩,⟨U,V,⟨⟨aZ,gs,W,X,t3⟩,t4⟩,ac,Y⟩,Z,ab⟩:=G.2 x z;exact⟨⟨A,s S ab⟩,U,V,⟨aZ,gs,W.aa a (no Z),s X Y,br t3 a λr f=>no (by have:=(bR t3 f).1;omega)⟩,t4⟩
def iQ(n:aK)(g:cI):aK:=match g.1 with
 |[]=>{n with zero:=g.2.getD 0 0}
 |[v]=>{n with unary:=n.unary.set v.toNat g.2}
 |_=>{n with funs:=n.funs++[g]}
def CV(f:ca):aK:=⟨f.k,f.sizes,0,f.sizes.map λz=>o4 z.toNat 0,[]⟩
theorem Nu(f:ca):cg f=(fI f).foldl iQ (CV f):=rfl
def dL(f:ca)(i:Nat):aK:=((fI f).take i).foldl iQ (CV f)
theorem wi{f:ca}{i:Nat}{g:cI}(h:(fI f)[i]?=σ g):dL f (i+1)=iQ (dL f i) g:=No h
theorem ta(f:ca):dL f (fI f).length=cg f:=by unfold dL;rw[o6,Nu]
theorem Nv(n:aK)(g:cI):(iQ n g).k=n.k/\(iQ n g).sizes=n.sizes/\(iQ n g).unary.length=n.unary.length/\(iQ n g).funs.length<=n.funs.length+1:=by
 unfold iQ;split
 .exact⟨rfl,rfl,rfl,Nat.le_succ _⟩
 .exact⟨rfl,rfl,Ξ,Nat.le_succ _⟩
 .exact⟨rfl,rfl,rfl,Ξ⟩
theorem pq(f:ca):∀i,(dL f i).k=f.k/\(dL f i).sizes=f.sizes/\(dL f i).unary.length=f.sizes.length/\(dL f i).funs.length<=i
 |0=>⟨rfl,rfl,by show(f.sizes.map _).length=_;simp,X5 _⟩
 |i+1=>by
  have a:=pq f i;cases h:(fI f)[i]? with
  |none=>
   have j:=List.getElem?_eq_none_iff.1 h;have e:dL f (i+1)=dL f i:=by unfold dL;rw[j9 Ω,j9 j]
   rw[e];exact⟨a.1,a.2.1,a.2.2.1,Ω⟩
  |some g=>
   rw[wi h];obtain⟨h1,p,q,r⟩:=Nv (dL f i) g;exact⟨h1.trans a.1,p.trans a.2.1,q.trans a.2.2.1,Ω⟩
end Go.Proofs.YtikkpokkcdocoaaGreatDoor
