/- own texts, made small by a tool (wip/ holds them as they were written): no statement of the seat. -/
import Derived.Test.YtmgflbkdggdhoaaGreatDoorZb
set_option linter.unusedVariables false
set_option linter.unusedSimpArgs false
set_option linter.unnecessarySimpa false
open Array renaming getElem?_eq_some_iff→o8
open Bool renaming not_true→Y7,not_false→W5,eq_iff_iff→V5,or_eq_false_iff→T4
open Decidable renaming not_not→Z9
open Go renaming Value→x1,World→x3,TypeId→r8,IntKind→o4,Builtin→Z0,Program→W0,FuncId→R4
open Go.Addr renaming add_mid→T1
open Go.Builtin renaming append_→b8,len_→W6
open Go.Instr renaming loadAt→u4,fieldAt→u5,storeAt→o6,indexAt→j5,extract→Z4,buildSlice→Y0,sliceAt→V3,alloc→R7
open Go.IntKind renaming i64→X2
open Go.Proofs.Tryz renaming prog→x7
open Go.Value renaming int→W8
open Int renaming toNat_natCast→u6,le_refl→T2
open List renaming getElem?_eq_some_iff→x4,mem_of_getElem?→x5,getElem?_eq_getElem→x6,getElem?_map→x8,getD_eq_getElem?_getD→v8,length_map→u7,take_add_one→u9,replicate→r9,length_append→p9,take_length→o5,mem_append→o7,mem_singleton→o9,mem_map→n9,length_take→l9,take_of_length_le→j9,length_cons→c7,eq_nil_of_length_eq_zero→c8,getElem?_set_self→c9,map_append→b6,length_set→Z2,getElem?_eq_none→Z6,getElem?_take_of_lt→Z7,range→Z8,getElem?_append_left→Y1,getElem?_set_ne→Y2,getElem?_set→Y3,getElem?_append_right→Y4,ext_getElem?→Y6,mem_iff_getElem?→X1,mem_or_eq_of_mem_set→X6,drop_eq_getElem_cons→X7,length_eq_one_iff→W3,mem_cons→W9,pairwise_iff_getElem→V2,map_set→V7,append_nil→U2,map_cons→U6,foldl_cons→U7,foldl_append→U9,append_assoc→T0,set_append_right→T3,mem_filter→T6,getElem_mem→T9,mem_of_mem_take→S3,length→S7,map_map→S8,length_singleton→R2
open Nat renaming le_refl→p8,le_trans→Y9,zero_add→X0,zero_le→X3,sub_self→V6,mul_one→V8,add_assoc→S9,lt_of_lt_of_le→R8,eq_zero_or_pos→Q0
open Option renaming toList_some→l7,isNone_some→b9,map_some→Z3,map_eq_some_iff→Y5,getD_some→V1,map→V4
open Option.some renaming inj→j6,injEq→Y8
open Prod.mk renaming injEq→S0
set_option maxHeartbeats 16000000
open Option renaming some→σ,none→ν
variable {w w':x3}{B N gs j m n r:Nat}{k y:Int}{clean:Bool}{S:Nat->Prop}{ba bv sv szv v:x1}{a aj all l scope sizes t:Λ}{e:r8}{cs:List x1}{K:x1->x3->Prop}
namespace Go.Proofs.YtmgflbkdggdhoaaGreatDoor
open Go Go.Vc Go.RowKit Go.Proofs Go.Proofs.Tryz
set_option maxRecDepth 100000
abbrev pa (n:Nat):ak:=λr=>r<n
def qs (n:Int) (k:Nat) (s:Option aD):Option (Λ×aD):=s.bind (eZ n k)
theorem Lo {g k:Nat} {A B:ak} {s:Option aD} {m:Int} (h:dj w g gs A B clean s) (hk:k<=4611686018427387904) (hm:0<=m/\m<=1000000):
  am x7 zh [Γ g,Δ (k:Int),Δ m] w λv w'=>fQ w g gs A B clean ((qs m k s).map (·.2)) w'/\
   ∃gr l,au .i64 ap w' gr v l/\(∀r,leads v r->w.heap.size<=r)/\l.length<=100001/\ ∀q,qs m k s=σ q->l=q.1:=by
 cases s with
 |some s=>exact Kd (s:=s) h hk hm
 |none=>
  have h:et w g gs A B:=h;refine az func138 ?_;refine⟨λout j U=>w=U/\out= .slice ν 0 0/\j=Δ 0,λ_ _ _=>0,⟨rfl,rfl,rfl⟩,?_⟩;rintro _ _ _ ⟨rfl,rfl,rfl⟩;refine aV (λv V=>Ext w V/\v= .bool false) ?_ ?_
  .rintro _ V ⟨e,rfl⟩;rw[aY];exact⟨fQ.mk (e.ab _) (h.ext e),0,[],au.nil _ _ _ _,λr p=>absurd p (λh=>by obtain⟨a,n,c,h,_⟩:=h;cases h),Ξ,λq x=>by cases x⟩
  .intro ay f;rw[aN,al];refine⟨λ_=>?_,λ_=>f _ _ ⟨Ext.refl _,rfl⟩⟩;refine (nz h).mono ?_;rintro _ V _ ⟨rfl,e⟩;exact f _ _ ⟨e,rfl⟩
def sD (z:Λ) (l:List (Λ×Int)) (s:aD):aD:={s with shared:=s.shared++[(z,l)]}
def BX (w:x3) (g gs:Nat):Prop:=∃ (e big a f told:Int) (sv:x1),af w g b7 (fD gs e big a f told sv)/\e≠0
def gT (w:x3) (g gs:Nat) (A:ak) (B:ak) (clean:Bool) (s:Option aD):Prop:=match s with
 |some s=>df w g gs A B s clean
 |none=>BX w g gs
theorem dj.q {g:Nat} {A:ak} {B:ak} {s:Option aD} (h:dj w g gs A B clean s):gT w g gs A B clean s:=by
 cases s with
 |some s=>exact h
 |none=>
  obtain⟨_,e,big,a,f,told,sv,l,j,m,_⟩:=h;exact⟨e,big,a,f,told,sv,j,m.1⟩
theorem gT.ab {g:Nat} {A:ak} {B:ak} {s:Option aD} (h:gT w g gs A B clean s) (I:ah S w w') (f:¬S g) (j:∀r,bD g gs A r->r<w.heap.size->¬S r) (m:∀r,cI g gs A B r->¬S r):gT w' g gs A B clean s:=by
 cases s with
 |some s=>
  have h:df w g gs A B s clean:=h;exact df.ab h I (λr a=>j r a (h.1.2.2.2.1 r a)) m
 |none=>
  obtain⟨e,big,p,q,told,sv,x,y⟩:=h;exact⟨e,big,p,q,told,sv,x.ab I f,y⟩
theorem gT.ext {g:Nat} {A:ak} {B:ak} {s:Option aD} (h:gT w g gs A B clean s) (I:Ext w w'):gT w' g gs A B clean s:=h.ab (I.ab λ_=>False) (λh=>h) (λ_ _ _ h=>h) (λ_ _ h=>h)
theorem BY {g:Nat} {A:ak} {B:ak} {s:Option aD} (h:gT w g gs A B clean s):am x7 kG [Γ g] w λv w'=>v= .bool s.isSome/\Ext w w':=by
 cases s with
 |none=>
  obtain⟨e,big,j,m,told,sv,a,f⟩:=h;refine (vA a).mono ?_;rintro _ U _ ⟨rfl,I⟩;exact⟨by rw[decide_eq_false f];rfl,I⟩
 |some s=>exact oV h
theorem hq.aZ {g:Nat} {R R':Nat->Prop} {toks:List (Λ)} (h:hq w g R toks clean) (I:ah S w w') (j:¬S g) (m:∀r,R r->¬S r) (q:∀r,R r->R' r):hq w' g R' toks clean:=by
 obtain⟨s,p,a,⟨h1,x,y,z,bm,A⟩,f,B⟩:=h;exact⟨s,p,a,⟨h1,x,y,z.ab I j,bm,bp A I λr e=>m r (f r e)⟩,λr e=>q r (f r e),B⟩
theorem lQ {α:Type} [ao α] {m:Bool} {S R:ak} {l:List α} (h:ao.rep m S R w [v] l):∃a n c,v= .slice a n c:=by
 obtain⟨vs,e,F,f,he,J,hm⟩:=iX h;obtain⟨j,b,o,base,cap,rfl,_⟩:=J;exact⟨_,_,_,rfl⟩
def kY (w:x3) (g gs:Nat) (A:ak) (B:ak) (R:ak) (clean:Bool) (s:Option aD):Prop:=match s with
 |some s=>kT w g gs A B/\hq w gs R s.toks clean/\(0<=s.told/\s.told<=aw/\s.shared.length+s.toks.length<=100000)/\
  ∃big a e told sv,af w g b7 (fD gs 0 big a e told sv)/\((s.big=true↔big≠0)/\(s.big=false->told=s.told))/\bC A R w [sv] (show List iu from s.shared)
 |none=>BX w g gs
theorem kY.ab {g:Nat} {A R:ak} {B:ak} {s:Option aD} (h:kY w g gs A B R clean s) (I:ah S w w') (p:¬S g) (q:∀r,bD g gs A r->r<w.heap.size->¬S r) (x:∀r,R r->¬S r):kY w' g gs A B R clean s:=by
 cases s with
 |some s=>
  obtain⟨h1,y,z,big,a,f,told,sv,j,m,C⟩:=h;have E:=h1.2.2.2.1;exact⟨h1.ab I,y.ab I (q gs (.inr (.inl rfl)) (E _ (.inr (.inl rfl)))) x,z,big,a,f,told,sv,j.ab I p,m,ao.ab C I λr F h=>h.elim (λh=>q r (.inr (.inr h)) F) (x r)⟩
 |none=>
  obtain⟨e,big,a,f,told,sv,j,m⟩:=h;exact⟨e,big,a,f,told,sv,j.ab I p,m⟩
theorem kY.out {g:Nat} {A R B e:ak} {s:Option aD} (h:kY w g gs A B R clean s) (f:∀r,R r->cI g gs A e r) (j:∀r,e r->r<w.heap.size):gT w g gs A e clean s:=by
 cases s with
 |some s=>
  obtain⟨⟨m,q,x,y,N⟩,⟨z,p,a,C,E,F⟩,G,big,H,I,told,sv,J,K,L⟩:=h;exact⟨⟨m,q,x,y,j⟩,⟨z,p,a,C,λr M=>f r (E r M),F⟩,G,big,H,I,told,sv,J,K,ao.mono L (λ_ _ h=>h) λr _ h=>f r h⟩
 |none=>exact h
theorem dj.qr {g:Nat} {A R:ak} {B:ak} {s:Option aD} (h:dj w g gs A B clean s) (x:∀r,cI g gs A B r->R r):kY w g gs A B R clean s:=by
 cases s with
 |some s=>
  obtain⟨h1,⟨y,p,a,z,C,E⟩,F,big,f,j,told,sv,m,q,G⟩:=h;exact⟨h1,⟨y,p,a,z,λr H=>x r (C r H),E⟩,F,big,f,j,told,sv,m,q,ao.mono G (λ_ _ h=>h) λr _ h=>x r h⟩
 |none=>
  obtain⟨_,e,big,f,j,told,sv,l,m,q,_⟩:=h;exact⟨e,big,f,j,told,sv,m,q.1⟩
theorem Lp {g:Nat} {A B R:ak} {s:Option aD} {aP aw u:x1} {z:Λ} {l:List (Λ×Int)} {K:x3->Prop} (h:dj w g gs A B clean s) (O:∀r,cI g gs A B r->R r) (ag:∀r,R r->cI g gs A (pa w.heap.size) r)
  (ai:∀t,s=σ t->t.shared.length+1+t.toks.length<=100000) (aj:af w N bY [aP,u,aw,v])
  (hu:ao.rep (α:=Λ) false bu R w [u] z) (ac:ao.rep (α:=List (Λ×Int)) false bu R w [v] l)
  (ay:∀w' aQ,ah (bD g gs A) w w'->(∀r,aQ r->A r\/w.heap.size<=r)->kY w' g gs aQ (pa w.heap.size) R clean (s.map (sD z l))->K w'):
  aa x7 (bK (Γ g)) w λP=>
  aa x7 (u5 b7 P 3) w λQ=>
  aa x7 (u4 hh Q) w λal=>
  aa x7 (u5 bY (Γ N) 1) w λt76=>
  aa x7 (u4 ax t76) w λt77=>
  aa x7 (u5 bY (Γ N) 3) w λaz=>
  aa x7 (u4 ij az) w λaA=>
  aa x7 (Instr.build jr #[(0,t77),(1,aA)]) w λaB=>
  aC x7 (Y0 hh 1 #[(0,aB)]) w λaE E=>
   (Ext w E\/cC x7 (u4 hh Q) al E/\cC x7 (u5 b7 P 3) Q E/\cC x7 (bK (Γ g)) P E/\True)/\
   aC x7 (b8 #[hh,hh] hh #[al,aE]) E λaF S=>
    aa x7 (bK (Γ g)) S λaH=>
    aa x7 (u5 b7 aH 3) S λaI=>
    aC x7 (o6 hh aI aF) S λ(_:Unit) aJ=>K aJ:=by
 obtain⟨aK,e,big,j,m,told,sv,G,q,H,aY,aL⟩:kT w g gs A B/\ ∃e big j m told sv,∃G:List iu,af w g b7 (fD gs e big j m told sv)/\bC A R w [sv] G/\G.length<=100000/\
   ∀w' aQ y,kT w' g gs aQ (pa w.heap.size)->ah (λr=>A r\/r=g) w w'->af w' g b7 (fD gs e big j m told y)->bC aQ R w' [y] (G++[((z,l):iu)])->kY w' g gs aQ (pa w.heap.size) R clean (s.map (sD z l)):=by
  cases s with
  |none=>
   obtain⟨h1,e,big,j,m,told,sv,l',W,L,X⟩:=h;exact⟨h1,e,big,j,m,told,sv,l',W,ao.mono X (λ_ _ h=>h) λr _ h=>O r h,L.2,λw' aQ y J _ q H=>⟨e,big,j,m,told,y,q,L.1⟩⟩
  |some s=>
   obtain⟨h1,aM,am,big,j,m,told,sv,W,L,X⟩:=h;have ai:=ai s rfl;refine⟨h1,0,big,j,m,told,sv,s.shared,W,ao.mono X (λ_ _ h=>h) λr _ h=>O r h,(show s.shared.length<=100000 by omega),λw' aQ y J aN q H=>⟨J,?_,⟨am.1,am.2.1,?_⟩,big,j,m,told,y,q,L,H⟩⟩
   .exact hq.aZ aM aN (λhe=>he.elim h1.2.2.1 λh=>h1.1 h.symm) (λr f he=>he.elim (λh=>f.1 (.inr (.inr h))) λh=>f.1 (.inl h)) O
   .show (s.shared++[(z,l)]).length+s.toks.length<=100000;simp;omega
 obtain⟨aR,Y,aS,an,a1⟩:=id aK;rw[aO b7.p 3 q rfl,aT bY.p 1 aj rfl,aT bY.p 3 aj rfl];rw[dn (cs:=#[u,v]) (by obtain⟨_,_,_,rfl⟩:=lQ hu;obtain⟨_,_,_,rfl⟩:=lQ ac;kernel_rfl)];have ap:bC (λ_=>False) R w [u,v] ((z,l):iu):=⟨[u],[v],bu,bu,rfl,λ_ h=>h,λ_ h=>h,λ_ _ h _=>h,hu,ac⟩;refine jw (α:=iu) (a:=(z,l)) (cs:=[u,v]) (A:=λ_=>False) (R:=R) hh.u jr.i Φ rfl ap λx U C _ I=>?_;have a2:=C.size;refine⟨.inl C,?_⟩;refine mi (α:=iu) (a:=(z,l)) (A:=λ_=>False) (R:=R) hh.u jr.i rfl (bW H C) I (bW ap C) (λr _ aU F=>?_) Ω Ω λaq V Z ad=>?_
 .rcases F with F|F
  .exact F
  .exact (ag r F).1 (.inr (.inr aU))
 have a6:=ad.size;have aV:=(q.ext C).ab ad Y;rw[bS,aW b7.p rfl];refine bt (g:=g) (o:=6) hh.i (oC Z) (iY Z) aV (by simp[fD]) λM au a7 ae=>?_;have ae:af M g b7 (fD gs e big j m told aq):=ae;have av:ah (λr=>A r\/r=g) w M:=((C.ab _).trans (ad.mono λr _ h=>.inl h)).trans (au.mono λr _ h=>.inr h);let aQ:ak:=λr=>(A r\/w.heap.size<=r)/\r<V.heap.size;have a8:g<w.heap.size:=an g (.inl rfl);have ba:gs<w.heap.size:=an gs (.inr (.inl rfl));have aX:=ao.mono (S':=aQ) (R':=R) Z (λr f h=>⟨h.elim .inl λh=>h.elim False.elim λh=>.inr Ω,f⟩) (λr f h=>h);refine ay M aQ (av.mono λr _ h=>h.elim (λh=>.inr (.inr h)) .inl) (λr f=>f.1) (aL M aQ aq ⟨aR,λh=>h.1.elim Y λh=>Ω,λh=>h.1.elim aS λh=>Ω,λr f=>?_,?_⟩ av ae (ao.ab aX au λr f aG he=>?_))
 .rcases f with rfl|rfl|f
  .omega
  .omega
  .have:=f.2;omega
 .intro r f;have f:r<w.heap.size:=f;omega
 .have he:r=g:=he;subst he;rcases aG with aG|aG
  .exact aG.1.elim Y λh=>Ω
  .exact (ag _ aG).1 (.inl rfl)
theorem Lq {e:Nat} {aP x:x1} {K:x3->Prop} (L:af w e bY [aP,.slice ν 0 0,Δ 0,.slice ν 0 0]) (M:aF .i64 w aP scope) (Y:∀r,leads aP r->r≠e)
  (Z:aF .i64 w x all) (ad:∀r,leads x r->r≠e) (ac:∀v∈scope,0<=v/\v<all.length) (aG:scope.length<=100001)
  (ae:∀w' szv gz,ah (λr=>r=e) w w'->af w' e bY [aP,szv,Δ 0,.slice ν 0 0]->au .i64 ap w' gz szv (scope.map λv=>all.getD v.toNat 0)->w.heap.size<=gz->K w'):
 ch (Δ 0) w λE q k=>
  aa x7 (aJ .lss ai false false E (Δ (scope.length:Int))) q λag=>
  Split ag (aa x7 (j5 ax aP E) q λaj=>
  aa x7 (u4 ap aj) q λak=>
  en q λf=>
  aa x7 (u5 bY (Γ e) 1) f λt39=>
  aa x7 (u4 ax t39) f λN=>
  aa x7 (j5 ax x ak) f λam=>
  aa x7 (u4 ap am) f λan=>
  aC x7 (Y0 ax 1 #[(0,an)]) f λt45 z=>
   (Ext f z\/cC x7 (u4 ax t39) N z/\cC x7 (u5 bY (Γ e) 1) t39 z/\True)/\
  aC x7 (b8 #[ax,ax] ax #[N,t45]) z λt46 O=>
   aa x7 (u5 bY (Γ e) 1) O λao=>
   aC x7 (o6 ax ao t46) O λ(_:Unit) P=>
    aa x7 (aJ .add ai false true E (Δ 1)) P λaq=>
  k aq P) (K q):=by
 have aI:=L.lt;refine ch.range scope.length (λi U=>ah (λr=>r=e) w U/\ ∃szv gz,af U e bY [aP,szv,Δ 0,.slice ν 0 0]/\au .i64 ap U gz szv ((scope.take i).map λv=>all.getD v.toNat 0)/\w.heap.size<=gz) M.le ⟨ah.refl _ _,_,w.heap.size,L,au.nil _ _ _ _,p8 _⟩ ?_ ?_
 rotate_left
 .rintro U av ⟨j,szv,gz,A,B,Q⟩;rw[o5] at B;rw[aN,al];exact⟨λh=>Ω,λ_=>ae U szv gz j A B Q⟩
 rintro i U av hi ⟨j,szv,gz,A,B,Q⟩ aw;obtain⟨v,F⟩:=aH (l:=scope) hi;have aK:=ac v (x5 F);have ay:all[v.toNat]? =σ (all.getD v.toNat 0):=by
  rw[v8,x6 Ω];rfl
 have az:aF .i64 U aP scope:=hI M j λr C a n c G H=>Y r ⟨a,n,c,G,H⟩ C;have aA:aF .i64 U x all:=hI Z j λr C a n c G H=>ad r ⟨a,n,c,G,H⟩ C;refine bE Ω ?_;rw[be ax.u ap.i Ψ az F];intro V m _ _;have aL:=j.size;have aO:=m.size;rw[aT bY.p 1 (A.ext m) rfl];rw[fx (y:=v) (i:=v.toNat) Ω ax.u ap.i Ψ (aA.ext m) ay];refine eo ax.u ap.i rfl λa ga aQ aR s aB=>?_;refine⟨.inl s,?_⟩;have z3:=s.size;refine iT ax.u ap.i rfl ((B.ext m).ext s) aB.ls Θ Θ λR S aS aU I W=>?_;rw[aW bY.p rfl];have aD:=((A.ext m).ext s).ab W (λhe=>by have he:e=gz:=he;omega);refine bt (g:=e) (o:=1) ax.i I.ls.cells.1 I.ls.cells.2 aD Ξ λaE X aV J=>?_;have J:af aE e bY [aP,R,Δ 0,.slice ν 0 0]:=J;rw[aM];refine aw _ ⟨(hp (j.trans ((m.trans s).ab _)) W λr C he=>by have he:r=gz:=he;omega).trans X,R,S,J,?_,Ω⟩;rw[u9,F,l7,b6];exact I.ab X (λ_ he=>by have he:S=e:=he;omega)
abbrev ht:Type:=Rd (Λ)×Rd (Λ)×Int×Rd (List (Λ×Int))
def gU (f:cv):ht:=(f.scope,f.sizes,f.other,f.lines)
theorem BZ {R:ak} {aP b0:x1} {o:Int} {sc:Λ} {l:List (Λ×Int)} (h1:ao.rep (α:=Λ) false bu R w [aP] sc) (e:ao.rep (α:=Λ) false bu R w [szv] a) (f:ao.rep (α:=List (Λ×Int)) false bu R w [b0] l):
  Seen R w [aP,szv,Δ o,b0] ((sc,a,o,l):ht):=
 ⟨[aP],[szv,Δ o,b0],bu,bu,rfl,λ_ h=>h,λ_ h=>h,λ_ _ h _=>h,h1,[szv],[Δ o,b0],bu,bu,rfl,λ_ h=>h,λ_ h=>h,λ_ _ h _=>h,e,[Δ o],[b0],bu,bu,rfl,λ_ h=>h,λ_ h=>h,λ_ _ h _=>h,rfl,f⟩
theorem qt {R:ak} {g:Nat} (h:au .i64 e w g v l) (p:∀r,leads v r->R r):ao.rep (α:=Λ) false bu R w [v] l:=by
 have h1:bC (λr=>r=g) bu w [v] l:=kM h;obtain⟨vs,q,F,C,he,J,hm⟩:=iX h1;refine⟨v,rfl,vs,q,λ_ _=>False,⟨λ_ _ h=>h,λh=>(by cases h),λh=>by cases h⟩,⟨he.1,λi c a s x=>?_⟩,?_,λh=>by cases h⟩
 .exact he.2 i c a s x
 .obtain⟨f,b,o,base,cap,rfl,y,z,j,E,A⟩:=J;refine⟨f,b,o,base,cap,rfl,y,z,j,λm=>.inr (p b ?_),A⟩;have B:0<l.length:=by
   rw[f] at m;rcases Q0 l.length with h|h
   .rw[h,Nat.zero_mul] at m;omega
   .exact h
  exact⟨⟨b,o,ν⟩,l.length,cap,by rw[j B],rfl⟩
theorem B1 {α:Type} [ao α] {R R':ak} {a:α} (h:Seen R w cs a) (e:∀r,r<w.heap.size->R r->R' r):Seen R' w cs a:=ao.mono h (λ_ _ h=>h) e
theorem B2 {f a:Nat} (e:cs.length=4) (h1:∀v∈cs,v.oneCell'=true) (m:af w f bY cs) {h:List x1} (q:h.length=4) (s:af w a bY h)
  (x:∀w',ah (λr=>r=a) w w'->K (.agg cs.toArray) w'):
  aa x7 (u4 bY (Γ f)) w λy=>
  aC x7 (o6 bY (Γ a) y) w λ(_:Unit) j=>
  aa x7 (do loadVar bY (<-asAddr (Γ a))) j λz=>K z j:=by
 rw[bO bY.p bY.i e m.range];refine ck bY.i e q h1 s λw' A _ B=>?_;rw[fO bY.p bY.i e B.range];exact x w' A
theorem B3 {s s':aD} {l:List (Λ×Int)} (h:dN sizes s=σ (l,s')):s'.shared=s.shared/\s'.toks.length<=s.toks.length:=by
 unfold dN at h;cases j:bf (-aw) aw s with
 |none=>rw[j] at h;cases h
 |some q=>
  obtain⟨n,e⟩:=q;rw[j] at h;simp only at h;have h1:=dB j;obtain⟨w,x,m⟩:=h1.eqs;split at h
  .cases J:e.shared[(-n-1).toNat]? with
   |none=>rw[J] at h;cases h
   |some q=>
    obtain⟨z,l'⟩:=q;rw[J] at h;simp only at h;split at h
    .simp only[Y8,S0] at h;obtain⟨rfl,rfl⟩:=h;exact⟨m,by have:=h1.1;omega⟩
    .cases h
  .have:=ka (f:=dM sizes) (λacc t=>t.shared=s.shared/\t.toks.length<=s.toks.length) (λacc t a bw ⟨r,y⟩ g=>by
    obtain⟨A,B,C,p⟩:=oT g;obtain⟨f1,f2,f3⟩:=p.eqs;exact⟨by rw[f3,r],by have:=p.1;omega⟩) n.toNat [] (bd (decide (16384<min (e.told+n) aw)) {e with told:=min (e.told+n) aw}) l s' ⟨m,by have:=h1.1;show e.toks.length<=_;omega⟩ h
   exact this.1
theorem Lr {g:Nat} {A B:ak} {s:aD} {aE:x1} (h:df w g gs A B s clean) (hi:dP s) (bO:aF .i64 w aE all) (bg:∀r,leads aE r->¬bD g gs A r/\r<w.heap.size)
  (cn:∀z∈all,1<=z/\z<=aw) (dp:all.length<=100001) (cp:eg w) (h1:cI g gs A B 1):
  am x7 zc [Γ g,aE] w λv w'=>∃aQ Q cs,∃bP:ht,v= .agg cs.toArray/\cs.length=4/\ah (bD g gs A) w w'/\(∀r,aQ r->A r\/w.heap.size<=r)/\(∀r,Q r->(B r\/w.heap.size<=r)/\r<w'.heap.size)/\(∀r,B r->Q r)/\gT w' g gs aQ Q clean ((c6 all s).map (·.2))/\
   Seen (cI g gs aQ Q) w' cs bP/\ ∀q,c6 all s=σ q->bP=gU q.1:=by
 have cq:=h.1;obtain⟨dr,ds,bh,cr,S⟩:=id cq;have ag:∀r,bD g gs A r->r<w.heap.size:=cr;have dt:aw=4611686018427387904:=rfl;have du:s.shared.length+s.toks.length<=100000:=h.2.2.1.2.2;refine az func78 ?_;refine bG bY.i λC U dv bk aO=>?_;have aO:af U C bY [.slice ν 0 0,.slice ν 0 0,Δ 0,.slice ν 0 0]:=aO;have dw:=bk.size;have dx:=aO.lt;have K:¬bD g gs A C:=λy=>by have:=ag _ y;omega
 refine (vB (lo:=-aw) (hi:=aw) (h.ext bk)).mono ?_;rintro _ V _ ⟨X,a,at_,rfl,bQ,ct⟩;obtain⟨bl,bm⟩:=X.of;have dy:=bl.size;rw[bi,bj,aN,lD];have dz: -aw<=a/\a<=aw:=by
  cases E:bf (-aw) aw s with
  |none=>rw[ct E];unfold aw;omega
  |some q=>rw[bQ q E];exact (hJ (n:=q.1) (s':=q.2) E).1
 rw[wrap_i64 Ω Ω,uZ,show max a (0-a)=((a.natAbs:Nat):Int) by omega];have bS:ah (bD g gs A) w V:=(bk.ab _).trans bl;have cu:aF .i64 V aE all:=hI bO bS λr f a n c ac bn=>(bg r ⟨a,n,c,ac,bn⟩).1 f;rw[aU ax.u cu];refine (Lo (k:=a.natAbs) (m:=(all.length:Int)) bm Ω Ω).mono ?_;rintro aP dA _ ⟨X,gr,scope,aG,cw,dC,cz⟩;obtain⟨bo,cA⟩:=X.of;have z3:=bo.size;rw[dn (cs:=#[aP,.slice ν 0 0,Δ 0,.slice ν 0 0]) (by obtain⟨_,_,_,_,_,rfl,_⟩:=aG.ls;kernel_rfl)];refine bG bY.i λj cB dD aH aR=>?_;have aR:af cB j bY [.slice ν 0 0,.slice ν 0 0,Δ 0,.slice ν 0 0]:=aR;have z4:=aH.size;have dE:=aR.lt;have bq:=aG.ls.cells;refine ck (vs:=[aP,.slice ν 0 0,Δ 0,.slice ν 0 0]) bY.i rfl rfl (by intro v ac;simp at ac;rcases ac with rfl|rfl|rfl|rfl<;>first|exact bq.2|rfl) aR λaS aI dF cC=>?_;have aj:¬bD g gs A j:=λy=>by have:=ag _ y;omega
 have bT:dj aS g gs A B clean ((qs all.length a.natAbs ((bf (-aw) aw s).map (·.2))).map (·.2)):=(cA.ext aH).ab aI (λr f he=>by have he:r=j:=he;exact aj (he▸f)) (λr f he=>by have:=S r f.2;have he:r=j:=he;omega);have bU:ah (bD g gs A) w aS:=hp ((bS.trans bo).trans (aH.ab _)) aI λr f he=>by have he:r=j:=he;omega
 have cD:af aS C bY [.slice ν 0 0,.slice ν 0 0,Δ 0,.slice ν 0 0]:=(((aO.ab bl K).ab bo K).ext aH).ab aI (λhe=>by have he:C=j:=he;omega);have cE:au .i64 ap aS gr aP scope:=bp (aG.ext aH) aI λr f he=>by
  obtain⟨cF,bm⟩:=bM aG f;have he:r=j:=he;omega
 refine (o3 bT).mono ?_;rintro _ aV _ ⟨rfl,Y⟩;have an:=bT.ext Y;have aJ:=cE.ext Y;have br:=cC.ext Y;have bV:=cD.ext Y;have dG:=Y.size;have z5:=aI.size;have O:∀r,leads aP r->V.heap.size<=r/\r≠j/\r≠C:=λr f=>by
  obtain⟨cF,bm⟩:=bM aG f;have:=cw r f;exact⟨this,Ω,Ω⟩
 have J:c6 all s=match qs all.length a.natAbs ((bf (-aw) aw s).map (·.2)) with
   |none=>ν
   |some (sc,H)=>(ix (sc.map λv=>all.getD v.toNat 0) ((bb 0 aw (σ (bd (decide (6<a.natAbs)||dq (sc.map λv=>all.getD v.toNat 0)) H))).map (·.2))).map λq=>((⟨sc,sc.map λv=>all.getD v.toNat 0,((bf 0 aw (bd (decide (6<a.natAbs)||dq (sc.map λv=>all.getD v.toNat 0)) H)).map (·.1)).getD 0,q.1⟩:cv),if a<0 then sD (sc.map λv=>all.getD v.toNat 0) q.1 q.2 else q.2):=by
  unfold c6;cases E:bf (-aw) aw s with
  |none=>rfl
  |some q=>
   obtain⟨a',W⟩:=q;have:=bQ _ E;subst this;simp only;show _=match eZ all.length a.natAbs W with
    |none=>ν
    |some (sc,H)=>_
   cases eZ all.length a.natAbs W with
   |none=>rfl
   |some q=>
    obtain⟨sc,H⟩:=q;simp only;show _=V4 _ (ix _ ((bf 0 aw _).map (·.2)));cases bf 0 aw (bd (decide (6<a.natAbs)||dq (sc.map λv=>all.getD v.toNat 0)) H) with
    |none=>rfl
    |some q=>
     obtain⟨o,G⟩:=q;simp only;show _=V4 _ (dN _ G);cases dN (sc.map λv=>all.getD v.toNat 0) G with
     |none=>rfl
     |some q=>rfl
 rw[bI,cb];cases Z:qs all.length a.natAbs ((bf (-aw) aw s).map (·.2)) with
 |none=>
  rw[Z] at an J;simp only at J;refine⟨λ_=>?_,λh=>by simp at h⟩;refine B2 rfl (by intro v ac;simp at ac;rcases ac with rfl|rfl|rfl|rfl<;>first|exact bq.2|rfl) br rfl bV λaa L=>?_;have cG:=L.size;refine⟨A,λr=>(B r\/w.heap.size<=r)/\r<aa.heap.size,_,(scope,[],0,[]),rfl,rfl,hp (bU.trans (Y.ab _)) L λr f he=>by have he:r=C:=he;omega,λr f=>.inl f,λr f=>f,λr f=>⟨.inl f,by have:=S r f;omega⟩,?_,?_,λq E=>by rw[J] at E;cases E⟩
  .rw[J];have cH:gT aa g gs A B clean (V4 (λx=>x.2) (ν:Option (Λ×aD))):=an.q.ab L (λhe=>by have:=ag g (.inl rfl);have he:g=C:=he;omega) (λr f _ he=>by have he:r=C:=he;exact K (he▸f)) (λr f he=>by have:=S r f.2;have he:r=C:=he;omega);exact cH
  .refine BZ (qt (bp aJ L λr f he=>(O r f).2.2 he) λr f=>?_) gS gS;have M:=O r f;have aq:=(bM aJ f);exact⟨λy=>by have:=ag _ y;omega,.inr Ω,Ω⟩
 |some q=>
  obtain⟨sc,H⟩:=q;have:=cz _ Z;subst this;rw[Z] at an J;simp only at J;refine⟨λh=>by simp at h,λ_=>?_⟩;have an:df aV g gs A B H clean:=an;obtain⟨W,cJ,cK⟩:∃W,(bf (-aw) aw s).map (·.2)=σ W/\eZ all.length a.natAbs W=σ (scope,H):=by
   cases E:(bf (-aw) aw s).map (·.2) with
   |none=>rw[E] at Z;cases Z
   |some W=>rw[E] at Z;exact⟨W,rfl,Z⟩
  obtain⟨bX,cL,rfl⟩:=Y5.1 cJ;have bZ:=dB (n:=bX.1) (s':=bX.2) cL;obtain⟨b1,dH,dI,b2⟩:=vy cK;have bw:=bZ.eqs;have bx:=b1.eqs;have cM:dP H:=λP=>by rw[bx.1,bw.1];rw[bx.2.1,bw.2.1] at P;exact hi P
  have cN:H.shared.length+1+H.toks.length<=100000:=by rw[bx.2.2,bw.2.2];have:=bZ.1;have:=b1.1;omega
  generalize bz:(scope.map λv=>all.getD v.toNat 0)=sizes at J;have b3:∀z∈sizes,1<=z/\z<=aw:=λz aX=>by
   rw[<-bz] at aX;obtain⟨v,ac,rfl⟩:=n9.1 aX;have:=b2 v ac;refine cn _ ?_;rw[v8,x6 Ω];exact T9 _
  have dJ:sizes.length=scope.length:=by rw[<-bz,u7]
  have b4:ah (bD g gs A) w aV:=bU.trans (Y.ab _);have cO:aF .i64 aV aE all:=hI bO b4 λr f a n c ac bn=>(bg r ⟨a,n,c,ac,bn⟩).1 f;rw[aT bY.p 0 br rfl,aU ax.u aJ.ls];refine Lq br aJ.ls (λr f=>(O r f).2.1) cO (λr f=>by have:=(bg r f).2;omega) b2 Ω λaa szv gz L b5 aY dK=>?_;rw[bz] at aY;have cG:=L.size;have bA:∀r,cI g gs A B r->¬(λr=>r=j) r:=λr f he=>by have:=S r f.2;have he:r=j:=he;omega
  have bB:∀r,bD g gs A r->¬(λr=>r=j) r:=λr f he=>by have he:r=j:=he;exact aj (he▸f)
  have b6:=an.ab L bB bA;have cP:ah (bD g gs A) w aa:=hp b4 L λr f he=>by have he:r=j:=he;omega
  refine dh (λaZ=>ah (bD g gs A) aa aZ/\df aZ g gs A B (bd (decide (6<a.natAbs)||dq sizes) H) clean) ?_ ?_
  rotate_left
  .intro ay aK;rw[bR,al];refine⟨λdL=>?_,λdM=>?_⟩
   .refine (sm b6).mono ?_;rintro _ cQ _ ⟨cR,cS⟩;refine aK _ ⟨cR.mono λr _ h=>.inl h,?_⟩;rw[decide_eq_true Ω,Bool.true_or];exact cS
   .rw[aT bY.p 1 b5 rfl];refine (Bg aY.ls λz aX=>(b3 z aX).1).mono ?_;rintro _ cQ _ ⟨rfl,b7⟩;refine (sm (b6.ext b7)).mono ?_;rintro _ dO _ ⟨cT,cU⟩;refine aK _ ⟨(b7.ab _).trans (cT.mono λr _ h=>.inl h),?_⟩;rw[decide_eq_false Ω,Bool.false_or];exact cU
  rintro aZ ⟨a1,a2⟩;have dQ:=a1.size;generalize bh:bd (decide (6<a.natAbs)||dq sizes) H=G at J a2;have cV:dP G:=λP=>by
   subst bh;have P:(H.big||_)=false:=P;exact cM (T4.1 P).1
  have dR:G.shared.length+1+G.toks.length<=100000:=by subst bh;exact cN
  have a2:dj aZ g gs A B clean (σ G):=a2;refine (lP (lo:=0) (hi:=aw) a2).mono ?_;rintro _ b8 _ ⟨X,o,dS,rfl,cW,dT⟩;obtain⟨a6,cX⟩:=X.of;have dU:=a6.size;rw[bi,bj,aW bY.p rfl];have cY:=(b5.ab a1 aj).ab a6 aj;refine bt (g:=j) (o:=2) ap.i rfl rfl cY Ξ λa7 av dV a8=>?_;have a8:af a7 j bY [aP,szv,Δ o,.slice ν 0 0]:=a8;rw[aT bY.p 1 a8 rfl];have cZ:=cX.ab av bB bA;have bC:ah (bD g gs A) aa b8:=a1.trans a6;have c0:ah (bD g gs A) w b8:=cP.trans bC;have b9:ah (bD g gs A) w a7:=hp c0 av λr f he=>by have he:r=j:=he;omega
  have ad:∀r,leads szv r->aV.heap.size<=r/\r<aa.heap.size:=λr f=>by have:=bM aY f;omega
  have ca:au .i64 ap a7 gz szv sizes:=bp (bp aY bC λr f y=>by have:=ag _ y;have:=ad r f;omega) av λr f he=>by have he:r=j:=he;have:=ad r f;omega
  have c1:au .i64 ap a7 gr aP scope:=bp (bp (bp aJ L λr f he=>(O r f).2.1 he) bC λr f y=>by have:=ag _ y;have:=O r f;omega) av λr f he=>(O r f).2.1 he;have dW:=av.size;refine (Ln cZ (λt bE=>?_) ca.ls (λr f=>⟨λy=>by have:=ag _ y;have:=ad r f;omega,by have:=ad r f;omega⟩) b3 Ω (cp.ab b9 h1.1) h1).mono ?_
  .obtain⟨q,E,rfl⟩:=Y5.1 bE;have cc:=(dB (n:=q.1) (s':=q.2) E).eqs;intro P;rw[cc.1];rw[cc.2.1] at P;exact cV P
  rintro b0 c2 _ ⟨X,l,bF,cd⟩;obtain⟨aA,c3⟩:=X.of;have dX:=aA.size;have bH:b0.cells= #[b0]/\b0.oneCell'=true:=⟨oC bF,iY bF⟩;rw[aW bY.p rfl];have c4:=a8.ab aA aj;refine bt (g:=j) (o:=3) ij.i bH.1 bH.2 c4 Ξ λI ae dY ba=>?_;have ba:af I j bY [aP,szv,Δ o,b0]:=ba;have dZ:=ae.size;have ce:=c3.ab ae bB bA;have c5:ah (bD g gs A) w c2:=b9.trans aA;have c7:ah (bD g gs A) w I:=hp c5 ae λr f he=>by have he:r=j:=he;omega
  have cg:au .i64 ap I gr aP scope:=bp (bp c1 aA λr f y=>by have:=ag _ y;have:=O r f;omega) ae λr f he=>(O r f).2.1 he;have bc:au .i64 ap I gz szv sizes:=bp (bp ca aA λr f y=>by have:=ag _ y;have:=ad r f;omega) ae λr f he=>by have he:r=j:=he;have:=ad r f;omega
  have c8:af I C bY [.slice ν 0 0,.slice ν 0 0,Δ 0,.slice ν 0 0]:=((((((bV.ab L (λhe=>by have he:C=j:=he;omega)).ab a1 K).ab a6 K).ab av (λhe=>by have he:C=j:=he;omega)).ab aA K).ab ae (λhe=>by have he:C=j:=he;omega));let N:ak:=λr=>(B r\/w.heap.size<=r)/\r<I.heap.size;have ch:ao.rep (α:=List (Λ×Int)) false bu (λr=>cI g gs A N r/\r≠j/\r≠C) I [b0] l:=by
   refine B1 (ao.ab bF ae λr f h he=>?_) λr f h=>?_
   .have he:r=j:=he;rcases h with h|h
    .exact h
    .rcases h with h|h
     .have:=S r h.2;omega
     .omega
   .rcases h with h|h
    .have:=S r h.2;exact⟨⟨h.1,.inl h.2,f⟩,Ω,Ω⟩
    .exact⟨⟨λy=>by have:=ag _ y;omega,.inr Ω,f⟩,Ω,Ω⟩
  have c9:∀r,leads aP r->cI g gs A N r/\r≠j/\r≠C:=λr f=>by
   have M:=O r f;have aq:=(bM cg f);exact⟨⟨λy=>by have:=ag _ y;omega,.inr Ω,Ω⟩,M.2⟩
  have ci:∀r,leads szv r->cI g gs A N r/\r≠j/\r≠C:=λr f=>by
   have M:=ad r f;have aq:=(bM bc f);exact⟨⟨λy=>by have:=ag _ y;omega,.inr Ω,Ω⟩,Ω,Ω⟩
  have da:Seen (λr=>cI g gs A N r/\r≠j/\r≠C) I [aP,szv,Δ o,b0] ((scope,sizes,o,l):ht):=BZ (qt cg c9) (qt bc ci) ch;have db:∀q,c6 all s=σ q->((scope,sizes,o,l):ht)=gU q.1:=λq E=>by
   rw[J] at E;obtain⟨ea,bJ,rfl⟩:=Y5.1 E;have M:=cd _ bJ;cases aB:bf 0 aw G with
   |none=>have e:bb 0 aw (σ G)=ν:=aB;rw[e] at bJ;cases bJ
   |some ai=>
    have aq:=cW ai aB;rw[M,aq];rfl
  have dc:∀v∈[aP,szv,W8 .i64 o,b0],v.oneCell'=true:=by
   intro v ac;simp at ac;rcases ac with rfl|rfl|rfl|rfl
   .exact bq.2
   .exact bc.ls.cells.2
   .rfl
   .exact bH.2
  have cj:∀r,cI g gs A B r->cI g gs A N r/\r≠j/\r≠C:=λr f=>by
   have:=S r f.2;exact⟨⟨f.1,.inl f.2,Ω⟩,Ω,Ω⟩
  refine dh (λbK=>∃aQ,ah (bD g gs A) I bK/\(∀r,aQ r->A r\/I.heap.size<=r)/\ ∃Q,kY bK g gs aQ Q (λr=>cI g gs A N r/\r≠j/\r≠C) clean ((c6 all s).map (·.2))) ?_ ?_
  .rintro bK ⟨aQ,aL,aM,Q,dd⟩;have eb:=aL.size;refine B2 rfl dc (ba.ab aL aj) rfl (c8.ab aL K) λbL be=>?_;have ec:=be.size;have cl:∀r,bD g gs aQ r->¬(λr=>r=C) r:=λr f he=>by
    have he:r=C:=he;subst he;rcases f with f|f|f
    .exact K (.inl f)
    .exact K (.inr (.inl f))
    .rcases aM _ f with f|f
     .exact K (.inr (.inr f))
     .omega
   have cm:∀r,(cI g gs A N r/\r≠j/\r≠C)->cI g gs aQ (λr=>(B r\/w.heap.size<=r)/\r<bL.heap.size/\(r<I.heap.size\/B r)) r:=λr h=>⟨λy=>h.1.1 (y.imp id (Or.imp id λy=>(aM r y).elim id λh'=>by have:=h.1.2.2;omega)),h.1.2.1,by have:=h.1.2.2;omega,.inl h.1.2.2⟩;have de:kY bL g gs aQ Q (λr=>cI g gs A N r/\r≠j/\r≠C) clean ((c6 all s).map (·.2)):=dd.ab be (cl g (.inl rfl)) (λr f _=>cl r f) (λr f=>f.2.2);refine⟨aQ,λr=>(B r\/w.heap.size<=r)/\r<bL.heap.size/\(r<I.heap.size\/B r),_,(scope,sizes,o,l),rfl,rfl,hp (c7.trans aL) be λr f he=>by have he:r=C:=he;omega,λr f=>(aM r f).imp id λh=>Ω,λr f=>⟨f.1,f.2.1⟩,λr f=>⟨.inl f,by have:=S r f;omega,.inr f⟩,de.out cm λr f=>f.2.1,?_,db⟩;refine B1 (ao.ab (ao.ab da aL λr _ h y=>?_) be λr _ h he=>?_) λr _ h=>cm r h
   .rcases h with h|h
    .exact h
    .exact h.1.1 y
   .rcases h with h|h
    .exact h
    .exact h.2.2 he
  .intro ay aK;rw[al];refine⟨λdg=>?_,λdi=>?_⟩
   .intro bN aC _ _;have ed:=aC.size;have dk:∀r,(cI g gs A N r/\r≠j/\r≠C)->cI g gs A (pa bN.heap.size) r:=λr h=>⟨h.1.1,by have:=h.1.2.2;show r<bN.heap.size;omega⟩;refine Lp (R:=λr=>cI g gs A N r/\r≠j/\r≠C) (z:=sizes) (l:=l) (ce.ext aC) cj dk (λt bE=>?_) (ba.ext aC) (qt (bc.ext aC) ci) (bW ch aC) λee aQ dl aM dm=>?_
    .obtain⟨q,E,rfl⟩:=Y5.1 bE;cases aB:bf 0 aw G with
     |none=>have e:bb 0 aw (σ G)=ν:=aB;rw[e] at E;cases E
     |some ai=>
      have e:bb 0 aw (σ G)=σ ai:=aB;rw[e] at E;have h1:q.2.shared=ai.2.shared/\q.2.toks.length<=ai.2.toks.length:=B3 (l:=q.1) (s':=q.2) E;have M:=dB (n:=ai.1) (s':=ai.2) aB;have aq:=M.eqs.2.2;have ef:=M.1;rw[h1.1,aq];have:=h1.2;omega
    .refine aK _ ⟨aQ,(aC.ab _).trans dl,λr f=>(aM r f).imp id λh=>Ω,pa bN.heap.size,?_⟩;have e:(c6 all s).map (·.2)=((ix sizes ((bb 0 aw (σ G)).map (·.2))).map (·.2)).map (sD sizes l):=by
      rw[J];cases E:ix sizes ((bb 0 aw (σ G)).map (·.2)) with
      |none=>rfl
      |some q=>
       have M:=cd _ E;simp only[Z3,if_pos dg,M]
     rw[e];exact dm
   .refine aK _ ⟨A,ah.refl _ _,λr f=>.inl f,B,?_⟩;have e:(c6 all s).map (·.2)=(ix sizes ((bb 0 aw (σ G)).map (·.2))).map (·.2):=by
     rw[J];cases E:ix sizes ((bb 0 aw (σ G)).map (·.2)) with
     |none=>rfl
     |some q=>simp only[Z3,if_neg di]
    rw[e];exact ce.qr cj
def ke (l:Λ):Prop:=∀v∈l,0<=v/\v<64
theorem qu (h:ke l) {v:Int}:v∈bl l↔v∈l:=by
 unfold bl;rw[T6,decide_eq_true_eq];refine⟨λh=>h.2,λac=>⟨?_,ac⟩⟩;obtain⟨h1,a⟩:=h v ac;exact n9.2 ⟨v.toNat,List.mem_range.2 Ω,Ω⟩
theorem Ls (l:Λ):ke (bl l):=λv ac=>by
 obtain⟨n,a,rfl⟩:=n9.1 (T6.1 ac).1;have:=List.mem_range.1 a;omega
theorem vS (l:Λ):(bl l).Pairwise (·< ·):=by
 unfold bl;refine List.Pairwise.filter _ ?_;rw[List.pairwise_map];exact List.pairwise_lt_range.imp λh=>Ω
theorem B4 (l:Λ):(bl l).Nodup:=(vS l).imp λh=>Ω
where
 nodup_le' {a b:Λ} (h:a.Nodup) (J:∀x∈a,x∈b):a.length<=b.length:=by
  induction a generalizing b with
  |nil=>exact X3 _
  |cons x a ih=>
   have h':=List.nodup_cons.1 h;have I:=J x (.head _);have:=ih (b:=b.erase x) h'.2 λy hy=>(List.mem_erase_of_ne (λ(he:y=x)=>h'.1 (by rw[<-he];exact hy))).2 (J y (.tail _ hy));rw[List.length_erase_of_mem I] at this;have:=List.length_pos_of_mem I;rw[c7];omega
theorem B5 (n:Nat):(0:Int)<64 ^ n:=Int.pow_pos Ω
theorem sE:∀ (l:Λ),ke l->0<=jb l/\jb l<64 ^ l.length
 |[],_=>by simp[jb]
 |x::l,h=>by
  have f:=sE l λy a=>h y (.tail _ a);have I:=h x (.head _);have j:=B5 l.length;simp only[jb,c7];have e:(64:Int) ^ (l.length+1)=64*64 ^ l.length:=by rw[Int.pow_succ,Int.mul_comm]
  have h1:x*64 ^ l.length<=63*64 ^ l.length:=Int.mul_le_mul_of_nonneg_right Ω Ω;have m:0<=x*64 ^ l.length:=Int.mul_nonneg I.1 Ω;rw[e];omega
def fR:Λ->Λ->Int
 |x::a,y::b=>if x<y then-1 else if y<x then 1 else fR a b
 |[],[]=>0
 |[],_::_=>-1
 |_::_,[]=>1
theorem B6:∀ (a b:Λ),a.length=b.length->ke a->ke b->(fR a b<0↔jb a<jb b)/\(fR a b=0↔a=b)/\(jb a=jb b->a=b)
 |[],[],_,_,_=>by simp[fR]
 |[],_::_,h,_,_=>by simp at h
 |_::_,[],h,_,_=>by simp at h
 |x::a,y::b,h,r,s=>by
  have m:a.length=b.length:=by simpa using h
  have p:ke a:=λz e=>r z (.tail _ e);have q:ke b:=λz e=>s z (.tail _ e);have f:=B6 a b m p q;have w:=sE a p;have B:=sE b q;have C:=B5 b.length;simp only[fR,jb];rw[m] at w ⊢;have step:∀u v:Int,u<v->u*64 ^ b.length+64 ^ b.length<=v*64 ^ b.length:=λu v E=>by
   have:=Int.mul_le_mul_of_nonneg_right (show u+1<=v by omega) (show (0:Int)<=64 ^ b.length by omega);rw[Int.add_mul,Int.one_mul] at this;exact this
  by_cases h1:x<y
  .rw[if_pos h1];have:=step x y h1;exact⟨⟨λ_=>Ω,λ_=>Ω⟩,⟨λh=>Ω,λh=>by have:=(List.cons.inj h).1;omega⟩,λh=>Ω⟩
  .rw[if_neg h1];by_cases j:y<x
   .rw[if_pos j];have:=step y x j;exact⟨⟨λh=>Ω,λh=>Ω⟩,⟨λh=>Ω,λh=>by have:=(List.cons.inj h).1;omega⟩,λh=>Ω⟩
   .rw[if_neg j];have A:x=y:=Ω
    subst A;exact⟨f.1.trans ⟨λh=>Ω,λh=>Ω⟩,f.2.1.trans ⟨λh=>by rw[h],λh=>(List.cons.inj h).2⟩,λh=>by rw[f.2.2 Ω]⟩
def jc (l:Λ):Prop:=ke l/\l.length<=6
theorem B7 (h:jc l):0<=jb l/\jb l<64 ^ 6:=by
 have:=sE l h.1;have e:(64:Int) ^ l.length<=64 ^ 6:=by
  have a:=h.2
  match l.length,a with
  |0,_=>decide
  |1,_=>decide
  |2,_=>decide
  |3,_=>decide
  |4,_=>decide
  |5,_=>decide
  |6,_=>decide
  |n+7,h=>omega
 omega
theorem vT {b:Λ} (j:jc a) (m:jc b):(da a<da b↔a.length<b.length\/(a.length=b.length/\fR a b<0))/\(da a=da b->a=b):=by
 have h1:=B7 j;have p:=B7 m;have e:(64:Int) ^ 6=68719476736:=Φ
 rw[e] at h1 p;unfold da;rw[e];by_cases f:a.length=b.length
 .have:=B6 a b f j.1 m.1;rw[f];exact⟨⟨λh=>.inr ⟨rfl,this.1.2 Ω⟩,λh=>by
   rcases h with h|⟨_,h⟩
   .omega
   .have:=this.1.1 h;omega⟩,λh=>this.2.2 Ω⟩
 .exact⟨⟨λh=>.inl Ω,λh=>by
   rcases h with h|⟨h,_⟩
   .omega
   .exact absurd h f⟩,λh=>Ω⟩
theorem sF (g:cK):∀l:List cK,(hr g l).Perm (g::l)
 |[]=>List.Perm.refl _
 |h::l=>by
  unfold hr;split
  .exact ((sF g l).cons h).trans (List.Perm.swap g h l)
  .exact List.Perm.refl _
theorem B8 {g:cK}:∀ {l:List cK},l.Pairwise (λa b=>da a.1<da b.1)->(∀h∈l,da h.1≠da g.1)->(hr g l).Pairwise (λa b=>da a.1<da b.1)
 |[],_,_=>by simp[hr]
 |h::l,f,j=>by
  have e:=List.pairwise_cons.1 f;unfold hr;split
  .rename_i m;refine List.pairwise_cons.2 ⟨λx I=>?_,B8 e.2 λx I=>j x (.tail _ I)⟩;rcases W9.1 ((sF g l).mem_iff.1 I) with rfl|I
   .exact m
   .exact e.1 x I
  .rename_i p;have:=j h (.head _);refine List.pairwise_cons.2 ⟨λx I=>?_,f⟩;rcases W9.1 I with rfl|I
   .omega
   .have:=e.1 x I;omega
theorem B9:∀ (l acc:List cK),acc.Pairwise (λa b=>da a.1<da b.1)->l.Pairwise (λa b=>da a.1≠da b.1)->(∀a∈acc,∀b∈l,da a.1≠da b.1)->
  (l.foldl (λl g=>hr g l) acc).Pairwise (λa b=>da a.1<da b.1)/\(l.foldl (λl g=>hr g l) acc).Perm (acc++l)
 |[],acc,h,_,_=>⟨h,Ξ⟩
 |g::l,acc,h,p,f=>by
  have j:=List.pairwise_cons.1 p;have:=B9 l (hr g acc) (B8 h λa e=>f a e g (.head _)) j.2 λa e b m=>by
   rcases W9.1 ((sF g acc).mem_iff.1 e) with rfl|e
   .exact j.1 b m
   .exact f a e b (.tail _ m)
  refine⟨this.1,this.2.trans ?_⟩;exact ((sF g acc).append_right l).trans (List.perm_middle (a:=g) (l₁:=acc) (l₂:=l)).symm
theorem vU {α:Type} {f:α->Int}:∀ {L M:List α},L.Pairwise (λa b=>f a<f b)->M.Pairwise (λa b=>f a<f b)->(∀x,x∈L↔x∈M)->L=M
 |[],M,_,_,h=>by
  cases M with
  |nil=>rfl
  |cons y M=>exact absurd ((h y).2 (.head _)) Ξ
 |x::L,[],_,_,h=>absurd ((h x).1 (.head _)) Ξ
 |x::L,y::M,h1,p,h=>by
  have j:=List.pairwise_cons.1 h1;have m:=List.pairwise_cons.1 p;have q:x=y:=by
   rcases W9.1 ((h x).1 (.head _)) with he|hm
   .exact he
   .rcases W9.1 ((h y).2 (.head _)) with he|r
    .exact he.symm
    .have a:=m.1 x hm;have b:=j.1 y r;omega
  subst q;rw[vU j.2 m.2 λz=>⟨λe=>?_,λe=>?_⟩]
  .rcases W9.1 ((h z).1 (.tail _ e)) with he|hm
   .subst he;have:=j.1 z e;omega
   .exact hm
  .rcases W9.1 ((h z).2 (.tail _ e)) with he|hm
   .subst he;have:=m.1 z e;omega
   .exact hm
structure fE (sizes:Λ) (k:Int) (g:cK):Prop where
 scope:jc g.1
 up:g.1.Pairwise (·< ·)
 vars:∀v∈g.1,v<sizes.length
 len:g.2.length=(aK (bV sizes g.1)).toNat
 small:aK (bV sizes g.1)<=4096
 hv:∀c∈g.2,0<=c/\c<=k
theorem pb {sc:Λ} (e:∀z∈sizes,1<=z/\z<=32) (ac:∀v∈sc,0<=v/\v<sizes.length):∀z∈bV sizes sc,1<=z/\z<=32:=λz h=>by
 obtain⟨v,f,rfl⟩:=n9.1 h;obtain⟨h1,j⟩:=ac v f;have a:v.toNat<sizes.length:=Ω
 rw[v8,x6 a];exact e _ (T9 a)
theorem Lt {b:Λ} (h:a.Perm b):aK a=aK b:=by
 induction h with
 |nil=>rfl
 |cons x _ e=>simp only[aK,e]
 |swap x y l=>simp only[aK];rw[<-Int.mul_assoc,<-Int.mul_assoc,Int.mul_comm y x]
 |trans _ _ h1 f=>exact h1.trans f
theorem Lu {b:Λ} (h:a.length=b.length):(dS k a b).length=b.length:=by simp[dS,h]
theorem Lv {b:Λ} (hk:0<=k) (f:∀c∈a,0<=c/\c<=k) (j:∀c∈b,0<=c/\c<=k):∀c∈dS k a b,0<=c/\c<=k:=by
 induction a generalizing b with
 |nil=>intro c e;simp[dS] at e
 |cons x a m=>
  cases b with
  |nil=>intro c e;simp[dS] at e
  |cons y b=>
   intro c e;have I:=f x (.head _);have p:=j y (.head _);rcases W9.1 (show c∈min (x+y) k::dS k a b from e) with rfl|e
   .omega
   .exact m (λc h=>f c (.tail _ h)) (λc h=>j c (.tail _ h)) c e
def iy (l:List cK):Prop:=(l.map (·.1)).Nodup
theorem Lw {acc:List cK} {g:cK} (hk:0<=k) (j:∀h∈acc,fE sizes k h) (m:iy acc) (a:fE sizes k g):(∀h∈hY k acc g,fE sizes k h)/\iy (hY k acc g)/\(hY k acc g).length<=acc.length+1:=by
 unfold hY;split
 .refine⟨λh aG=>?_,?_,Ξ⟩
  .obtain⟨f,hm,rfl⟩:=n9.1 aG;have h1:=j f hm;split
   .rename_i he;have q:f.2.length=g.2.length:=by rw[h1.len,a.len,he]
    exact⟨h1.scope,h1.up,h1.vars,by show (dS k f.2 g.2).length=_;rw[Lu q,a.len,he],h1.small,Lv hk h1.hv a.hv⟩
   .exact h1
  .unfold iy;rw[S8];have e:((λx:cK=>x.1)∘λh:cK=>if h.1=g.1 then (h.1,dS k h.2 g.2) else h)=λx:cK=>x.1:=by
    funext h;simp only[Function.comp];split<;>rfl
   rw[e];exact m
 .rename_i r;refine⟨λh aG=>?_,?_,Ξ⟩
  .rcases o7.1 aG with aG|aG
   .exact j h aG
   .rw[o9.1 aG];exact a
  .unfold iy;rw[b6];exact List.nodup_append.2 ⟨m,Ξ,λx I y p he=>by
    simp only[U6,List.map_nil,o9] at p;subst p;subst he;exact r I⟩
theorem vV {sizes:Λ} {k:Int} (hk:0<=k):∀ {l acc:List cK},(∀h∈acc,fE sizes k h)->iy acc->(∀g∈l,fE sizes k g)->(∀h∈l.foldl (hY k) acc,fE sizes k h)/\iy (l.foldl (hY k) acc)/\(l.foldl (hY k) acc).length<=acc.length+l.length
 |[],acc,a,e,_=>⟨a,e,Ξ⟩
 |g::l,acc,a,e,f=>by
  obtain⟨h1,j,q⟩:=Lw hk a e (f g (.head _));obtain⟨m,p,r⟩:=vV hk h1 j λx I=>f x (.tail _ I);exact⟨m,p,by simp only[U7,c7];omega⟩
theorem Ca {α:Type} [DecidableEq α]:∀ {a b:List α},a.Nodup->b.Nodup->(∀x,x∈a↔x∈b)->a.Perm b
 |[],b,_,_,h=>by
  cases b with
  |nil=>exact .refl _
  |cons y b=>exact absurd ((h y).2 (.head _)) Ξ
 |x::a,b,m,f,h=>by
  have I:=(h x).1 (.head _);have j:=List.nodup_cons.1 m;refine .trans ?_ (List.perm_cons_erase I).symm;refine .cons x (Ca j.2 (f.erase x) λy=>?_);rw[f.mem_erase_iff];refine⟨λe=>⟨λhe=>j.1 (he▸e),(h y).1 (.tail _ e)⟩,λ⟨p,e⟩=>?_⟩;rcases W9.1 ((h y).2 e) with he|hm
  .exact absurd he p
  .exact hm
theorem sG (h:ke l) (a:l.Nodup):(bl l).Perm l:=Ca (B4 l) a λ_=>qu h
theorem vW:∀ {l:Λ},(∀z∈l,1<=z/\z<=32)->l.map (λz=>min z 4097)=l
 |[],_=>rfl
 |z::l,h=>by
  have a:=h z (.head _);rw[U6,vW λx I=>h x (.tail _ I)];congr 1;omega
theorem Lx {x:cv} (hk:0<=k) (e:0<=x.other) (a:∀p∈x.lines,0<=p.2):0<=jB x k t/\jB x k t<=k:=by
 unfold jB;cases ae:x.lines.find? (λp=>decide (p.1=t)) with
 |none=>simp only;omega
 |some p=>have:=a p (List.mem_of_find?_eq_some ae);simp only;omega
theorem sH {x:cv} (h:sh all N x) (a:all.length<=64):ke x.scope:=λv ac=>by
 have:=h.scope.2 v ac;omega
theorem pc {f:bZ} {x:cv} (ae:e8 N f) (I:x∈f.funs):fE f.sizes f.k (hK f.sizes f.k x):=by
 obtain⟨h1,m,e⟩:=ae.funs x I;have q:=ae.sizes.2.1;have ac:=sH h1 q;have a:=sG ac h1.scope.1;have h:∀v∈bl x.scope,0<=v/\v<f.sizes.length:=λv hm=>h1.scope.2 v ((qu ac).1 hm);have r:=pb ae.sizes.2.2 h;have s:aK (bV f.sizes (bl x.scope))=aK x.sizes:=by rw[h1.sizes];exact Lt (a.map _)
 refine⟨⟨Ls _,?_⟩,vS _,λv hm=>(h v hm).2,?_,?_,λc w=>?_⟩
 .show (bl x.scope).length<=6;rw[a.length_eq];exact m
 .show ((bk _).map _).length=_;rw[u7,i7 r];rfl
 .show aK (bV f.sizes (bl x.scope))<=4096;have y:∀z∈x.sizes,1<=z/\z<=32:=λz j=>by
   rw[h1.sizes] at j;exact pb ae.sizes.2.2 (λv hm=>h1.scope.2 v hm) z j
  unfold dq at e;rw[vW y,decide_eq_false_iff_not] at e;rw[s];omega
 .obtain⟨t,_,rfl⟩:=n9.1 w;exact Lx (by have:=ae.k.1;omega) h1.other λp a=>(h1.lines.2 p a).2
theorem kZ {f:bZ} (ae:e8 N f):(∀g∈ff f,fE f.sizes f.k g)/\iy (ff f)/\(ff f).length<=f.funs.length:=by
 have:=vV (sizes:=f.sizes) (k:=f.k) (by have:=ae.k.1;omega) (l:=f.funs.map (hK f.sizes f.k)) (acc:=[]) (λh aG=>by cases aG) List.nodup_nil λg e=>by
  obtain⟨x,I,rfl⟩:=n9.1 e;exact pc ae I
 refine⟨this.1,this.2.1,?_⟩;have a:=this.2.2;rw[List.length_nil,u7,X0] at a;exact a
theorem Cb {l:List cK} (e:∀g∈l,fE sizes k g) (f:iy l):l.Pairwise λa b=>da a.1≠da b.1:=by
 have h1:l.Pairwise λa b=>a.1≠b.1:=by
  unfold iy List.Nodup at f;rwa [List.pairwise_map] at f
 exact h1.imp_of_mem λ{a b} h j m he=>m ((vT (e a h).scope (e b j).scope).2 he)
theorem qv {f:bZ} (ae:e8 N f):(fC f).Pairwise (λa b=>da a.1<da b.1)/\(fC f).Perm ((ff f).filter fB):=by
 obtain⟨h1,h,_⟩:=kZ ae;have j:∀g∈(ff f).filter fB,fE f.sizes f.k g:=λg m=>h1 g (T6.1 m).1;have p:iy ((ff f).filter fB):=(List.Sublist.map _ List.filter_sublist).nodup h;have:=B9 ((ff f).filter fB) [] List.Pairwise.nil (Cb j p) λa q=>by cases q
 refine⟨this.1,?_⟩;have e:=this.2;rw[List.nil_append] at e;exact e
theorem sI {f:bZ} (ae:e8 N f):∀g∈fC f,fE f.sizes f.k g:=λg a=>(kZ ae).1 g (T6.1 ((qv ae).2.mem_iff.1 a)).1
theorem Ly {f:bZ} (ae:e8 N f) {M:List cK} (e:M.Perm ((ff f).filter fB)) (J:M.Pairwise λa b=>da a.1<=da b.1):M=fC f:=by
 obtain⟨h1,h⟩:=qv ae;have j:iy ((ff f).filter fB):=(List.Sublist.map _ List.filter_sublist).nodup (kZ ae).2.1;have m:iy M:=(e.map (λg:cK=>g.1)).nodup_iff.2 j;have p:∀g∈M,fE f.sizes f.k g:=λg q=>(kZ ae).1 g (T6.1 (e.mem_iff.1 q)).1;have r:=Cb p m;refine vU (f:=λg:cK=>da g.1) ?_ h1 λx=>by rw[e.mem_iff,h.mem_iff]
 exact J.imp₂ (λa b h1 h=>Int.lt_iff_le_and_ne.2 ⟨h1,h⟩) r
structure jG (n:aR):Prop where
 k:1<=n.k/\n.k<=2147483648
 sizes:1<=n.sizes.length/\n.sizes.length<=64/\ ∀z∈n.sizes,1<=z/\z<=32
 zero:0<=n.zero/\n.zero<=n.k
 kf:n.unary.length=n.sizes.length
 unary:∀ (i:Nat) (z:Int) (u:Λ),n.sizes[i]? =σ z->n.unary[i]? =σ u->u.length=z.toNat/\ ∀c∈u,0<=c/\c<=n.k
 funs:∀g∈n.funs,fE n.sizes n.k g/\2<=g.1.length
theorem Lz (z:Int):aK [z]=z:=by simp[aK]
theorem sJ:∀ {l:List cK} {n:aR},jG n->(∀g∈l,fE n.sizes n.k g)->jG (l.foldl (λn g=>match g.1 with
 |[]=>{n with zero:=g.2.getD 0 0}
 |[v]=>{n with unary:=n.unary.set v.toNat g.2}
 |_=>{n with funs:=n.funs++[g]}) n)/\(l.foldl (λn g=>match g.1 with
 |[]=>{n with zero:=g.2.getD 0 0}
 |[v]=>{n with unary:=n.unary.set v.toNat g.2}
 |_=>{n with funs:=n.funs++[g]}) n).sizes=n.sizes
 |[],n,h,_=>⟨h,rfl⟩
 |g::l,n,h,j=>by
  have e:=j g (.head _);have f:∀x∈l,fE n.sizes n.k x:=λx I=>j x (.tail _ I);rw[U7];obtain⟨sc,cs⟩:=g
  match sc,e with
  |[],e=>
   have p:=e.len;refine sJ (n:={n with zero:=cs.getD 0 0}) ⟨h.k,h.sizes,?_,h.kf,h.unary,h.funs⟩ f;have h1:cs.length=1:=by simpa[bV,aK] using p
   have q:cs[0]? =σ (cs.getD 0 0):=by rw[v8,x6 Ω];rfl
   exact e.hv _ (x5 q)
  |[v],e=>
   have ac:=e.scope.1 v (.head _);have w:=e.vars v (.head _);refine sJ (n:={n with unary:=n.unary.set v.toNat cs}) ⟨h.k,h.sizes,h.zero,by show (n.unary.set _ _).length=_;rw[Z2];exact h.kf,λi z u m hu=>?_,h.funs⟩ f;by_cases hi:v.toNat=i
   .subst hi;have y:=h.kf;rw[c9 Ω] at hu;cases hu;have s:bV n.sizes [v]=[z]:=by
     simp only[bV,U6,List.map_nil];rw[v8,m];rfl
    refine⟨?_,e.hv⟩;have:=e.len;rw[s,Lz] at this;exact this
   .rw[Y2 hi] at hu;exact h.unary i z u m hu
  |a::b::r,e=>
   refine sJ (n:={n with funs:=n.funs++[(a::b::r,cs)]}) ⟨h.k,h.sizes,h.zero,h.kf,h.unary,λx I=>?_⟩ f;rcases o7.1 I with I|I
   .exact h.funs x I
   .rw[o9.1 I];exact⟨e,Ξ⟩
theorem Cc {f:bZ} (ae:e8 N f):jG (cP f)/\(cP f).sizes=f.sizes:=by
 unfold cP;have e:=ae.sizes;refine sJ (n:=⟨f.k,f.sizes,0,f.sizes.map λz=>r9 z.toNat 0,[]⟩) ⟨ae.k,e,⟨by show (0:Int)<=0;omega,by show (0:Int)<=f.k;have:=ae.k.1;omega⟩,Ξ,λi z u h1 a=>?_,λg h=>by cases h⟩ (sI ae);have a:(f.sizes.map λz=>r9 z.toNat (0:Int))[i]? =σ u:=a;have h1:f.sizes[i]? =σ z:=h1;rw[x8,h1] at a;cases a;refine⟨Ξ,λc j=>?_⟩;rw[(List.mem_replicate.1 j).2];have:=ae.k.1;exact⟨T2 _,by show (0:Int)<=f.k;omega⟩
def k0 (x:cv) (k:Int) (i:Nat) (t:Λ):Int:=match (x.lines.take i).find? (λp=>decide (p.1=t)) with
 |some p=>min p.2 k
 |none=>min x.other k
theorem Cd (x:cv) (k:Int) (t:Λ):k0 x k 0 t=min x.other k:=by simp[k0]
theorem Ce (x:cv) (k:Int) (t:Λ):k0 x k x.lines.length t=jB x k t:=by
 unfold k0 jB;rw[o5];cases x.lines.find? (λp=>decide (p.1=t))<;>rfl
theorem Cf {x:cv} {i:Nat} {p:Λ×Int} (w:(x.lines.map (·.1)).Nodup) (hi:x.lines[i]? =σ p) (t:Λ):k0 x k (i+1) t=if t=p.1 then min p.2 k else k0 x k i t:=by
 unfold k0;rw[u9,hi,l7,List.find?_append];by_cases a:t=p.1
 .subst a;have y:(x.lines.take i).find? (λq=>decide (q.1=p.1))=ν:=by
   rw[List.find?_eq_none];intro q e he;have he:q.1=p.1:=by simpa using he
   obtain⟨j,f⟩:=X1.1 e;have h:j<i:=by have:=(x4.1 f).1;rw[l9] at this;omega
   rw[Z7 h] at f;have m:=x4.1 f;have r:=x4.1 hi;have s:=V2.1 w j i (by rw[u7];exact m.1) (by rw[u7];exact r.1) h;rw[List.getElem_map,List.getElem_map,m.2,r.2] at s;exact s he
  rw[y,if_pos rfl];simp
 .rw[if_neg a];have:[p].find? (λq=>decide (q.1=t))=ν:=by
   rw[List.find?_eq_none];intro q e he;rw[o9.1 e] at he;exact a (of_decide_eq_true he).symm
  rw[this,Option.or_none]
theorem pd {v:Int} (h:v∈l):l[l.idxOf v]? =σ v:=by
 have:=List.idxOf_lt_length_iff.2 h;rw[x6 this,List.getElem_idxOf this]
theorem qw {i:Nat} {v:Int} (j:l.Nodup) (h:l[i]? =σ v):l.idxOf v=i:=by
 have hm:=x5 h;have h1:=pd hm;have a:=x4.1 h1;have e:=x4.1 h;rcases Nat.lt_trichotomy (l.idxOf v) i with f|he|f
 .exact absurd (a.2.trans e.2.symm) (V2.1 j _ _ a.1 e.1 f)
 .exact he
 .exact absurd (e.2.trans a.2.symm) (V2.1 j _ _ e.1 a.1 f)
def fS (scope a:Λ):Λ:=a.map λv=>((scope.idxOf v:Nat):Int)
theorem sK {f:Λ} (r:scope.Nodup) (a:f.Perm scope):Good (fS scope f) scope.length:=by
 have q:f.Nodup:=a.nodup_iff.2 r;refine⟨by simp[fS,a.length_eq],λi p h=>?_⟩;unfold fS at h;rw[x8] at h;obtain⟨v,ac,rfl⟩:=Y5.1 h;have hm:v∈scope:=a.mem_iff.1 (x5 ac);have x:=List.idxOf_lt_length_iff.2 hm;refine⟨⟨Ω,Ω⟩,λj y m=>?_⟩;unfold fS at m;rw[x8] at m;obtain⟨u,hu,he⟩:=Y5.1 m;have s:u∈scope:=a.mem_iff.1 (x5 hu);have e:scope.idxOf u=scope.idxOf v:=Ω
 have h1:=pd s;rw[e,pd hm] at h1;have w:v=u:=j6 h1;subst w;have z:=qw q hu;have A:=qw q ac;omega
theorem Cg {v:Int} (ac:a[j]? =σ v):(fS scope a)[j]? =σ ((scope.idxOf v:Nat):Int):=by
 unfold fS;rw[x8,ac];rfl
theorem LA (h:scope.Nodup) (e:a.Perm scope):ef (bV sizes scope) (fS scope a)=bV sizes a:=by
 refine Y6 λj=>?_;cases ac:a[j]? with
 |none=>
  have f:=List.getElem?_eq_none_iff.1 ac;rw[Z6 (by rw[se];simp[fS];exact f),Z6 (by simp[bV];exact f)]
 |some v=>
  have hm:v∈scope:=e.mem_iff.1 (x5 ac);have m:=sK h e;rw[AY m (by simp[bV]) (Cg ac),u6];unfold bV;rw[x8,x8,pd hm,ac]
theorem Ch (h:scope.Nodup) (e:a.Perm scope) (m:t.length=scope.length):lO (fS scope a) t=oU scope a t:=by
 have q:=sK h e;refine (AX q m (by simp[oU]) λj p f=>?_).symm;unfold fS at f;rw[x8] at f;obtain⟨v,ac,rfl⟩:=Y5.1 f;have hm:v∈scope:=e.mem_iff.1 (x5 ac);have r:a.Nodup:=e.nodup_iff.2 h;have s:=(x4.1 ac).1;have w:=e.length_eq;unfold oU;rw[u6,x8,pd hm,Z3,qw r ac,v8,x6 (show j<t.length by omega)];rfl
theorem LB {f:bZ} {x:cv} {cs:Λ} (ae:e8 N f) (I:x∈f.funs) (C:cs.length=(aK x.sizes).toNat) (r:∀t,di x.sizes t->bn x.sizes cs t=jB x f.k t):
  ef x.sizes (fS x.scope (bl x.scope))=bV f.sizes (bl x.scope)/\ny x.sizes cs (fS x.scope (bl x.scope))=(hK f.sizes f.k x).2:=by
 obtain⟨h1,E,F⟩:=ae.funs x I;have ac:=sH h1 ae.sizes.2.1;have a:=sG ac h1.scope.1;have j:x.sizes=bV f.sizes x.scope:=h1.sizes;have h:ef x.sizes (fS x.scope (bl x.scope))=bV f.sizes (bl x.scope):=by rw[j];exact LA h1.scope.1 a
 have w:=sK h1.scope.1 a;have y:∀v∈bl x.scope,0<=v/\v<f.sizes.length:=λv hm=>h1.scope.2 v ((qu ac).1 hm);have e:dO (bV f.sizes (bl x.scope)):=pb ae.sizes.2.2 y;refine⟨h,?_⟩;have z:x.sizes.length=x.scope.length:=by rw[j];simp[bV]
 unfold ny;rw[h];show _=(bk (bV f.sizes (bl x.scope))).map λt=>jB x f.k (oU x.scope (bl x.scope) t);refine Y6 λq=>?_;rw[x8,x8];have G:=lN e;by_cases m:q<(aK (bV f.sizes (bl x.scope))).toNat
 .have A:=qa e (i:=q) Ω;rw[A,List.getElem?_range m];simp only[Z3];have B:=vu e m;have p:(cR (bV f.sizes (bl x.scope)) q).length=x.scope.length:=by rw[iZ];simp[bV,a.length_eq]
  rw[Ch h1.scope.1 a p,r];have:=J1 (s:=x.sizes) w z (by rw[h];exact B);rw[Ch h1.scope.1 a p] at this;exact this
 .rw[Z6 Θ,Z6 (by rw[i7 e];omega)];rfl
theorem LC {e:Λ} (J:dO aj) (h1:a.length=(aK aj).toNat) (f:e.length=(aK aj).toNat):
  dS k a e=(Z8 (aK aj).toNat).map λ(q:Nat)=>min (bn aj a (cR aj q)+bn aj e (cR aj q)) k:=by
 conv=>lhs;rw[sd J h1,sd J f]
 unfold dS;rw[List.zipWith_map,List.zipWith_self]
theorem LD {dc:Nat} {d:List (x1×x1)} {KS:List (Λ)} (f:af w dc ik [.map (σ m)]) (hm:c4 w m d) (j:d.map (·.1)=KS.map dX) (e:o2 KS) (A:KS.length<65536):
  am x7 H8 [.func (.func lA) #[] #[Γ dc],BG] w λv w'=>Ext w w'/\ ∃g M,M.Perm KS/\sB gq M 0 M.length/\nD w' g v M:=by
 refine az func221 ?_;refine (KI f hm j (λks h=>(e ks h).1) Ω).mono ?_;rintro v U _ ⟨p,g,L,q,a,s⟩;refine (KW s (e.perm a) (by rw[a.length_eq];omega)).mono ?_;rintro _ V _ ⟨x,M,y,hu,z⟩;exact⟨p.then x (λr B h=>by have:=q r h;omega),g,M,y.trans a,hu,z⟩
theorem Ci {α β:Type} {f:α->β}:∀ {M:List β} {D:List α},M.Perm (D.map f)-> ∃L:List α,L.Perm D/\L.map f=M
 |[],D,h=>by
  have h1:=h.length_eq;simp at h1;have:D=[]:=c8 h1.symm;exact⟨[],by rw[this],rfl⟩
 |x::M,D,h=>by
  have I:x∈D.map f:=h.mem_iff.1 (.head _);obtain⟨p,a,rfl⟩:=n9.1 I;obtain⟨A,B,rfl⟩:=List.append_of_mem a;have e:(f p::M).Perm (f p::(A++B).map f):=h.trans (by
   rw[b6,U6,b6];exact List.perm_middle)
  obtain⟨L,j,m⟩:=Ci (List.Perm.cons_inv e);exact⟨p::L,(j.cons p).trans List.perm_middle.symm,by rw[U6,m]⟩
theorem Cj {g:Nat} {ks:Λ} (m:ks.length=6) (p:n<=6) (a:cs=ints .i8 ks) (e:af w g cH cs):aF .i8 w (.slice (σ (if 6=0 then⟨g,0,ν⟩ else⟨g,0+0*1,ν⟩)) (n-0) (6-0)) (ks.take n):=by
 subst a;rw[if_neg Ω];unfold aF;have f:(ks.take n).length=n:=by rw[l9];omega
 rw[f];refine⟨Θ,g,0,_,6,rfl,Ω,by simp[maxLen],λ_=>rfl,λj v ac=>?_⟩;have h:=(x4.1 ac).1;refine e.range j v ?_;rw[ints,List.map_take,Z7 (by simp[ints] at h;omega)] at ac;exact ac
def LF (D L:Told):Prop:=L.Perm D/\sB (λp=>gq (pad p.1)) L 0 L.length
theorem LG {g:Nat} {o:Int} {D:Told} (h:eF w g m aj k o D) (bb:D.length<65536):am x7 Hw [Γ g] w λv w'=>Ext w w'/\ ∃L:Told,LF D L/\bC (ea w.heap.size) bu w' [v] L:=by
 obtain⟨⟨sv,gs,Z,hm⟩,bc,J,bR,aB⟩:=id h;have bd:o2 (D.map λp=>pad p.1):=λks hk=>by
  obtain⟨p,bf,rfl⟩:=n9.1 hk;exact qk J (aB p bf).1
 refine az func164 ?_;rw[c5 eO.u];simp only[b9,aY];rw[aO fv.p 3 Z rfl];refine KG.mono ?_;rintro _ U _ ⟨aa,dc,rfl,bS,bg⟩;refine (LD (KS:=D.map λp=>pad p.1) bg (bc.ext aa) (by rw[S8,S8];rfl) bd (by simpa using bb)).mono ?_;rintro bT V _ ⟨aC,bU,M,bh,bi,aD⟩;obtain⟨L,ad,O⟩:=Ci bh;have aE:M.length=L.length:=by rw[<-O];simp
 have bV:=ad.length_eq;have bY:=aa.size;have bZ:=aC.size;have aF:=aa.trans aC;rw[e9 iP.u aD];refine bX.range L.length (λi out e=>Ext V e/\bC (ea V.heap.size) bu e [out] (L.take i)) Ω ⟨Ext.refl _,by rw[List.take_zero];exact gS⟩ ?_ ?_
 rotate_left
 .rintro out e bj ⟨C,P⟩;rw[aE];simp only[aN,al];refine⟨λh=>Ω,λ_=>⟨aF.trans C,L,⟨ad,λp q x y h1 bk b0 I bl=>?_⟩,?_⟩⟩
  .exact bi p q (pad x.1) (pad y.1) h1 bk Ω (by rw[<-O,x8,I];rfl) (by rw[<-O,x8,bl];rfl)
  .rw[o5] at P;exact ao.mono P (λr _ h=>by have h:V.heap.size<=r:=h;show w.heap.size<=r;omega) λ_ _ h=>h
 rintro i out e bj hi ⟨C,P⟩ bm;obtain⟨⟨t,c⟩,ae⟩:∃p,L[i]? =σ p:=⟨_,x6 hi⟩;have ag:(t,c)∈D:=ad.mem_iff.1 (x5 ae);have ak:=(aB _ ag).1;have aG:=vG J ak;have ap:t.length=aj.length:=aG.1;have aI:=J.1;have bn:kU (pad t):=qk J ak;have Q:=bn.1;have bo:M[i]? =σ (pad t):=by rw[<-O,x8,ae];rfl
 rw[aE];simp only[aN,al];refine⟨λ_=>?_,λh=>Ω⟩;rw[KV rfl (aD.ext C) bo];refine bG cH.i λaq b1 b2 aJ aK=>?_;refine qj Q rfl aK λbp bq b3 S=>?_;have b4:=aJ.size;have b5:=aK.lt;have br:Ext e bp:=aJ.put bq Ω;intro aP H _ _;have av:=br.trans H;have aw:=(aF.trans C).trans av;have aQ:=h.ext aw;obtain⟨⟨b6,b7,b8,ca⟩,cb,_⟩:=id aQ;have cc:=av.size;rw[aO fv.p 3 (Z.ext aw) rfl,nC Q (S.ext H).range];refine Kz aQ ak (λf bw=>?_) (λbx=>absurd rfl (bx _ ag));have bz:f=c:=by
  have:=Bu h.nodup bw ag rfl;exact congrArg Prod.snd this
 subst bz;simp only[Bool.false_eq_true,if_false];rw[dn (cs:=#[.slice ν 0 0,Δ f]) Ψ];refine bG gj.i λE cd ce ax aR=>?_;refine⟨.inl ax,?_⟩;refine ck (vs:=[.slice ν 0 0,Δ f]) gj.i rfl rfl (by intro v ac;simp at ac;rcases ac with rfl|rfl<;>rfl) aR λG bA cg aS=>?_;have ci:=ax.size;have cj:=aR.lt;have W:Ext aP G:=ax.put bA Ω;have aV:=av.trans W;have aX:=aw.trans W;rw[aO fv.p 0 (Z.ext aX) rfl,aU an.u (hm.ls.ext aX)];rw[rV cH.u fN.i (l:=0) (h:=aj.length) (m:=6) ju (nh _ _ rfl) fw Ω Ω Ω];have aZ:=Cj Q aI rfl ((S.ext H).ext W);rw[<-ap,Bp] at aZ;rw[<-ap,aU kJ.u aZ];have bB:=(S.ext H).ext W;have cl:aq<aP.heap.size:=(S.ext H).lt;have cm:E<G.heap.size:=aS.lt;refine ch.range t.length (λj s=>ah (λr=>r=E\/G.heap.size<=r) G s/\ ∃aL gt,G.heap.size<=gt/\af s E gj [aL,Δ f]/\au .i64 ai s gt aL (t.take j)) Ω ⟨ah.refl _ _,_,G.heap.size,p8 _,aS,au.nil _ _ _ _⟩ ?_ ?_
 .rintro j s bD bE ⟨z,aL,gt,bF,X,Y⟩ bH;obtain⟨x,ay⟩:=aH (l:=t) bE;have cn:=aG.2 x (x5 ay);have cp:Ext e s:=aV.then z (λr a1 he=>by rcases he with rfl|he<;>omega);have a2:=Cj Q aI rfl (bB.ab z (λhe=>by rcases he with he|he<;>omega));rw[<-ap,Bp] at a2;simp only[aN,al];refine⟨λ_=>?_,λh=>Ω⟩;rw[be kJ.u fN.i Ψ a2 ay,aT gj.p 0 X rfl,eW fN.u ai.u,wrap_i64 Ω Ω];refine eo an.u ai.i rfl λa ga bI cq B bJ=>?_;refine iT an.u ai.i rfl (Y.ext B) bJ.ls Θ Θ λa6 a7 bK cr K N=>?_;have bL:=z.size;have bM:=B.size;have ct:=N.size;rw[aW gj.p rfl];refine bt (g:=E) (o:=0) an.i K.ls.cells.1 K.ls.cells.2 ((X.ext B).ab N (λhe=>by have he:E=gt:=he;omega)) Ξ λcu a8 cw bN=>?_;simp only[aM];refine bH _ ⟨((z.trans (B.ab _)).trans (N.mono λr _ he=>.inr (by have he:r=gt:=he;omega))).trans (a8.mono λr _ he=>.inl he),a6,a7,Ω,bN,?_⟩;rw[u9,ay];exact K.ab a8 (λ_ he=>by have he:a7=E:=he;omega)
 .rintro s bD ⟨z,aL,gt,bF,X,Y⟩;simp only[aN,al];refine⟨λh=>Ω,λ_=>?_⟩;rw[o5] at Y;rw[bO gj.p gj.i rfl X.range];have bL:=z.size;have bP:Ext e s:=aV.then z (λr a1 he=>by rcases he with rfl|he<;>omega);have ba:bC (ea e.heap.size) bu s [aL,Δ f] (t,f):=⟨[aL],[Δ f],ea e.heap.size,bu,rfl,λ_ h=>h,λ_ h=>h.elim,λ_ _ _ h=>h,ao.mono (kM Y) (λr _ h=>by subst h;show e.heap.size<=r;omega) (λ_ _ h=>h),rfl⟩;refine jw (α:=Λ×Int) (a:=(t,f)) (cs:=[aL,Δ f]) (A:=ea e.heap.size) (R:=bu) oy.u gj.i Φ rfl ba λu bI B _ bQ=>?_;have aA:=bP.trans B;have bM:=aA.size;refine mi (α:=Λ×Int) (a:=(t,f)) (A:=ea e.heap.size) oy.u gj.i rfl (bW (lI P) aA) bQ (bW ba B) (λr _ h h'=>?_) Θ Θ λa6 bK K N=>?_
  .rcases h' with h'|h'
   .have:=h.2;have:e.heap.size<=r:=h';omega
   .exact h'
  simp only[aM];have cz:=C.size;refine bm _ _ ⟨(C.trans aA).then N (λr a1 h=>by have h:=h.1;have h:V.heap.size<=r:=h;omega),?_⟩;rw[u9,ae];refine ao.mono K (λr _ h=>?_) λ_ _ h=>h;show V.heap.size<=r;rcases h with h|h|h
  .exact h.1
  .have h:e.heap.size<=r:=h;omega
  .omega
theorem Ck {s:Λ} (J:dO s):t∈bk s↔di s t:=by
 refine⟨λh=>?_,λ⟨n,h⟩=>x5 (mp J h)⟩;obtain⟨i,hi⟩:=X1.1 h;exact⟨_,jA J hi⟩
theorem Cl:∀ {s:Λ},dO s->(bk s).Pairwise λa b=>gq a<gq b
 |[],_=>by simp[bk]
 |k::s,J=>by
  have r:=Cl J.tail;have f:∀t∈bk s,0<=gq t/\gq t<32 ^ s.length:=λt m=>by
   have ac:=(Ck J.tail).1 m;have h1:=nx.1 ac;have p:=sA t λx I=>by
    obtain⟨i,hi,rfl⟩:=List.getElem_of_mem I;obtain⟨a,e⟩:=aH (l:=s) (i:=i) Ω;have z:=h1.2 i a _ e (x6 hi);have A:=(J.tail a (x5 e)).2;omega
   rw[h1.1];exact p
  have j:∀t∈bk s,t.length=s.length:=λt m=>rY m;show ((Z8 k.toNat).flatMap λ(v:Nat)=>(bk s).map λt=>(v:Int)::t).Pairwise _;rw[List.pairwise_flatMap];refine⟨λv _=>?_,?_⟩
  .rw[List.pairwise_map];refine r.imp_of_mem λ{a b} e f h=>?_;simp only[gq,j a e,j b f];omega
  .refine List.pairwise_lt_range.imp λ{u v} B x I y w=>?_;obtain⟨a,e,rfl⟩:=n9.1 I;obtain⟨b,q,rfl⟩:=n9.1 w;simp only[gq,j a e,j b q];have h1:=f a e;have p:=f b q;have:=Int.mul_le_mul_of_nonneg_right (show (u:Int)+1<=v by omega) (show (0:Int)<=32 ^ s.length by have:=vK s.length;omega);rw[Int.add_mul,Int.one_mul] at this;omega
theorem LH {D L:Told} {o:Int} (f:(D.map (·.1)).Nodup) (a:L.Perm D) (t:Λ):hZ L o t=hZ D o t:=by
 have j:(L.map (·.1)).Nodup:=(a.map (·.1)).nodup_iff.2 f;by_cases he:∃p∈D,p.1=t
 .obtain⟨p,h,rfl⟩:=he;rw[ql f (c:=p.2) h,ql j (c:=p.2) (a.mem_iff.2 h)]
 .rw[qm λp h1 e=>he ⟨p,h1,e⟩,qm λp h1 e=>he ⟨p,a.mem_iff.1 h1,e⟩]
def h4 (aj:Λ) (f:Λ->Int) (cs:Λ):Prop:=cs.length=(aK aj).toNat/\ ∀t,di aj t->bn aj cs t=f t
theorem h4.eq {f:Λ->Int} {cs:Λ} (J:dO aj) (h1:h4 aj f cs) (e:h4 aj f a):cs=a:=JR J h1.1 e.1 λt h=>by rw[h1.2 t h,e.2 t h]
theorem h4.congr {f a:Λ->Int} {cs:Λ} (h:h4 aj f cs) (he:∀t,di aj t->f t=a t):h4 aj a cs:=⟨h.1,λt e=>by rw[h.2 t e,he t e]⟩
theorem vX (J:dO aj) (h:di aj t):∃n:Nat,cJ aj t 0=σ (n:Int)/\n<(aK aj).toNat:=by
 obtain⟨n,a⟩:=h;have:=nq J a;simp only[Int.zero_mul,Int.zero_add,Int.one_mul] at this;exact⟨n.toNat,by rw[a];congr 1;omega,Ω⟩
theorem LI (J:dO aj) (c:Int):h4 aj (λ_=>c) (r9 (aK aj).toNat c):=⟨Ξ,λt a=>by
 obtain⟨n,e,f⟩:=vX J a;unfold bn;rw[e];simp only[u6,v8,List.getElem?_replicate,f,if_true,V1]⟩
theorem h4.put {f:Λ->Int} {cs:Λ} {c:Int} (J:dO aj) (h:h4 aj f cs) (ac:di aj t) (q:cn c k):h4 aj (λs=>if s=t then c else f s) (rZ aj t k c cs):=by
 obtain⟨n,e,r⟩:=vX J ac;unfold rZ;rw[e];simp only[q,if_true,u6];refine⟨by simp[h.1],λs p=>?_⟩;obtain⟨m,hm,w⟩:=vX J p;have a:=h.2 s p;unfold bn at a ⊢;rw[hm] at a ⊢;simp only[u6] at a ⊢;by_cases he:s=t
 .subst he;rw[e] at hm;have j:n=m:=by have:=j6 hm;omega
  subst j;rw[if_pos rfl,v8,c9 (by rw[h.1];exact r)];rfl
 .rw[if_neg he,v8,Y2 (λj=>he ?_),<-v8,a];subst j;rw[<-AR J hm,<-AR J e]
def LJ (w:x3) (aj:Λ) (k o:Int) (D:Told) (v:x1) (w':x3):Prop:=Ext w w'/\(4096<aK aj->v= .tuple #[.pointer ν,Δ 5])/\
 (aK aj<=4096-> ∃g a sv cs,v= .tuple #[Γ g,Δ 0]/\w.heap.size<=g/\(w.heap.size<=a/\ ∀r,leads sv r->w.heap.size<=r)/\db w' g a sv aj k cs/\h4 aj (hZ D o) cs)
theorem Cm {g:Nat} {o:Int} {D:Told} (h:eF w g m aj k o D) (Z:D.length<65536):am x7 Gw [Γ g] w (LJ w aj k o D):=by
 obtain⟨⟨sv,gs,aa,hm⟩,a1,J,ad,ae⟩:=id h;have Q:=h.nodup;refine az func90 ?_;rw[c5 eO.u];simp only[b9,aY];intro U a _ _;have I:=aa.ext a;rw[aO fv.p 0 I rfl,aO fv.p 1 I rfl,aO fv.p 2 I rfl];refine (vc (hm.ls.ext a)).mono ?_;rintro _ V _ ⟨z,_,af,_,ag⟩;by_cases C:aK aj<=4096
 rotate_left
 .have:=af J Ω;subst this;rw[bi,bj];simp only[bz,al];exact⟨λ_=>⟨a.trans z,λ_=>rfl,λh=>absurd h C⟩,λh=>by simp at h⟩
 obtain⟨gt,f,aL,rfl,a2,a6,ai,R⟩:=ag J C ad;rw[bi,bj];simp only[bz,al];refine⟨λh=>absurd rfl h,λ_=>?_⟩;have a8:=a.size;have ba:=z.size;refine (LG ((h.ext a).ext z) Z).mono ?_;rintro bb ak _ ⟨K,L,E,S⟩;have bc:=K.size;have bd:f<V.heap.size:=by
  obtain⟨⟨a7,be,_,_,an⟩,⟨_,_,bf⟩,ap,aq⟩:=id R;have bg:=lN ap.2;obtain⟨_,⟨_,au⟩|⟨cap,cs,_,av,_⟩⟩:=an
  .rw[aq] at au;omega
  .exact av.lt
 have bh:=E.1.length_eq;rw[io oy.u S];refine ch.range L.length (λi q=>ah (λr=>r=f) ak q/\ ∃cs,db q gt f aL aj k cs/\h4 aj (hZ (L.take i) o) cs) Ω ⟨ah.refl _ _,_,R.ext K,by rw[List.take_zero];exact LI J.2 o⟩ ?_ ?_
 .rintro i q aw hi ⟨G,cs,M,H⟩ ax;simp only[aN,al];refine⟨λ_=>?_,λh=>Ω⟩;obtain⟨⟨t,c⟩,y⟩:∃p,L[i]? =σ p:=⟨_,x6 hi⟩;have ay:(t,c)∈D:=E.1.mem_iff.1 (x5 y);obtain⟨aA,aB,aC⟩:=ae _ ay;have aD:=ao.ab S G λr W aE he=>by
   have he:r=f:=he;rcases aE with h|h
   .have h:V.heap.size<=r:=h;omega
   .exact h
  refine np (α:=Λ×Int) gj.p rfl oy.u gj.i aD y λus aF=>?_;obtain⟨bk,aG,A,B,rfl,bl,bm,_,h1,aH⟩:=aF;have aI:aG=[Δ c]:=aH;subst aI;obtain⟨aJ,rfl,_⟩:=id h1;have hu:=eE h1;refine bG gj.i λbn bo bp aP X=>?_;refine ck (vs:=[aJ,Δ c]) gj.i rfl rfl (by intro v ac;simp at ac;rcases ac with rfl|rfl;exact hu.cells.2;rfl) X λaQ aR bq Y=>?_;have br:=X.lt;have N:Ext q aQ:=aP.put aR Ω;rw[aT gj.p 0 Y rfl,aT gj.p 1 Y rfl];refine (I6 (M.ext N) (hu.ext N)).mono ?_;rintro _ bt _ ⟨rfl,aS,aU⟩;simp only[aM];refine ax _ ⟨(G.trans (N.ab _)).trans aS,_,aU,(H.put J.2 aA aB).congr λs bu=>?_⟩;rw[u9,y];have O:(L.map (·.1)).Nodup:=(E.1.map (·.1)).nodup_iff.2 Q;have aV:∀p∈L.take i,p.1≠t:=λp C he=>by
   obtain⟨j,P⟩:=X1.1 C;have aW:j<i:=by have:=(x4.1 P).1;rw[l9] at this;omega
   rw[Z7 aW] at P;have:=kc O (i:=j) (j:=i) (x:=t) (by rw[x8,P,Z3,he]) (by rw[x8,y];rfl);omega
  have aX:((L.take i).map (·.1)).Nodup:=by rw[List.map_take];exact (List.take_sublist _ _).nodup O
  have aZ:((L.take i++[(t,c)]).map (·.1)).Nodup:=by
   have e:L.take i++[(t,c)]=L.take (i+1):=by rw[u9,y];rfl
   rw[e,List.map_take];exact (List.take_sublist _ _).nodup O
  exact ((Bv aV aC).cost aX aZ s).symm
 .rintro q aw ⟨G,cs,M,H⟩;simp only[aN,al];refine⟨λh=>Ω,λ_=>?_⟩;rw[o5] at H;exact⟨((a.trans z).trans K).put G Ω,λh=>Ω,λ_=>⟨gt,f,aL,cs,rfl,Ω,⟨Ω,λr W=>by have:=ai r W;omega⟩,M,H.congr λs _=>LH Q E.1 s⟩⟩
theorem LK {s cs:Λ} (J:dO s) (a:cs.length=(aK s).toNat) {i:Nat} (h:(bk s)[i]? =σ t):cs[i]? =σ (bn s cs t):=by
 have hi:=(x4.1 h).1;rw[i7 J,<-a] at hi;unfold bn;rw[jA J h];simp only[u6,v8,x6 hi,V1]
theorem sL {k:o4} {g:Nat} (h:au k e w g v l) (f:0<l.length):g<w.heap.size:=by
 obtain⟨_,⟨_,h1⟩|⟨_,_,_,a,_⟩⟩:=h
 .omega
 .exact a.lt
def fF (w:x3) (g m:Nat) (sv:x1) (gs:Nat) (aj:Λ) (k o:Int) (D:Told):Prop:=
 af w g fv [sv,Δ k,Δ o,.map (σ m)]/\au .i64 ai w gs sv aj/\c4 w m (D.map jC)/\b1 aj/\cn o k/\ ∀p∈D,di aj p.1/\cn p.2 k/\p.2≠o
theorem fF.is {g:Nat} {o:Int} {D:Told} (h:fF w g m sv gs aj k o D):eF w g m aj k o D:=⟨⟨sv,gs,h.1,h.2.1⟩,h.2.2⟩
theorem eF.at {g:Nat} {o:Int} {D:Told} (h:eF w g m aj k o D):∃sv gs,fF w g m sv gs aj k o D:=by
 obtain⟨⟨sv,gs,h1,a⟩,e⟩:=h;exact⟨sv,gs,h1,a,e⟩
theorem fF.ext {g:Nat} {o:Int} {D:Told} (h:fF w g m sv gs aj k o D) (I:Ext w w'):fF w' g m sv gs aj k o D:=by
 obtain⟨h1,a,e,f⟩:=h;exact⟨h1.ext I,a.ext I,e.ext I,f⟩
theorem fF.ab {g:Nat} {o:Int} {D:Told} (h:fF w g m sv gs aj k o D) (I:ah S w w') (a:¬S g) (hm:¬S m) (J:∀r,leads sv r->¬S r):fF w' g m sv gs aj k o D:=by
 obtain⟨h1,e,f,j⟩:=h;exact⟨h1.ab I a,bp e I J,f.ab I hm,j⟩
theorem sM {g:Nat} {d:List (x1×x1)} (h:af w g e cs) (hm:c4 w m d):g≠m:=by
 rintro rfl;obtain⟨a,c,h1,_⟩:=hm;unfold af at h;rw[h1] at h;cases h
theorem Cn {g:Nat} {k:o4} {d:List (x1×x1)} (h:au k e w g v l) (hm:c4 w m d) (f:leads v r):r≠m:=by
 obtain⟨rfl,_⟩:=bM h f;obtain⟨_,⟨rfl,_⟩|⟨_,_,_,j,_⟩⟩:=h
 .obtain⟨a,n,c,h,_⟩:=f;cases h
 .exact sM j hm
theorem fF.put {g:Nat} {o:Int} {D D':Told} (h:fF w g m sv gs aj k o D) (a:ah (λr=>r=m) w w') (h':eF w' g m aj k o D'):fF w' g m sv gs aj k o D':=
 ⟨h.1.ab a (λhe=>sM h.1 h.2.2.1 he),bp h.2.1 a (λr e he=>Cn h.2.1 h.2.2.1 e he),h'.2⟩
theorem fF.qf {g:Nat} {o:Int} {D:Told} (h:fF w g m sv gs aj k o D):g<w.heap.size/\m<w.heap.size/\ ∀r,leads sv r->r<w.heap.size:=
 ⟨h.1.lt,h.2.2.1.lt,λr a=>by obtain⟨rfl,e⟩:=bM h.2.1 a;exact e⟩
instance (s t:Λ):Decidable (di s t):=decidable_of_iff ((cJ s t 0).isSome=true) ⟨λh=>by
 cases a:cJ s t 0 with
 |none=>rw[a] at h;cases h
 |some n=>exact⟨n,a⟩,λ⟨n,h⟩=>by rw[h];rfl⟩
theorem sN (h:aF .i64 w sv l) (E:l.length<=1000000):am x7 zd [sv] w λv w'=>Ext w w'/\ ∃g,w.heap.size<=g/\au .i64 ai w' g v l:=by
 refine az func81 ?_;rw[aU ax.u h];refine iU (k:=.i64) an.u ai.i Ω Ω λg U G j m=>?_;have s:au .i64 ai U g (.slice (σ ⟨g,0,ν⟩) l.length l.length) (r9 l.length 0):=by
  have:=bT.full (k:=1) (n:=l.length) m Ξ (by simp[maxLen];omega);exact au.of this
 rw[aU ax.u (h.ext j)];have H:=m.lt;refine ch.range l.length (λi V=>ah (λr=>r=g) U V/\au .i64 ai V g (.slice (σ ⟨g,0,ν⟩) l.length l.length) (l.take i++r9 (l.length-i) 0)) h.le ⟨ah.refl _ _,by simpa using s⟩ ?_ ?_
 rotate_left
 .rintro V y ⟨f,a⟩;rw[aN,al];rw[o5,V6,List.replicate_zero,U2] at a;exact⟨λh=>Ω,λ_=>⟨j.put f Ω,g,Ω,a⟩⟩
 rintro i V y hi ⟨f,a⟩ z;obtain⟨x,p⟩:=aH (l:=l) hi;have A:Ext w V:=j.put f Ω;refine bE Ω ?_;rw[be ax.u ap.i Ψ (h.ext A) p];rw[hn rfl an.u ai.i a Θ];refine ho ai.i a Θ λI B J q=>?_;rw[aM];refine z _ ⟨f.trans B,?_⟩;have e:(l.take i++r9 (l.length-i) 0).set i x=l.take (i+1)++r9 (l.length-(i+1)) 0:=by
  have C:(l.take i).length=i:=by rw[l9];omega
  rw[T3 _ _ Ω,C,V6,show l.length-i=(l.length-(i+1))+1 by omega,List.replicate_succ,List.set_cons_zero,u9,p,l7,T0];rfl
 rw[e] at q;exact q
def LL (w:x3) (l:Λ) (k o:Int) (v:x1) (w':x3):Prop:=
 Ext w w'/\(¬b1 l->v= .tuple #[.pointer ν,Δ 1])/\(b1 l->¬cn o k->v= .tuple #[.pointer ν,Δ 3])/\
  (b1 l->cn o k-> ∃g m sv gs,v= .tuple #[Γ g,Δ 0]/\w.heap.size<=g/\w.heap.size<=m/\(∀r,leads sv r->w.heap.size<=r)/\fF w' g m sv gs l k o [])
theorem LM {o:Int} (h:aF .i64 w sv l):am x7 ou [sv,Δ k,Δ o] w (LL w l k o):=by
 refine az func144 ?_;refine aV (λv U=>Ext w U/\ ∃c,v= .bool c/\(c=true↔¬b1 l)) ?_ ?_
 .rintro _ U ⟨e,c,rfl,f⟩;rw[cb];refine⟨λx=>⟨e,λ_=>rfl,λh=>absurd h (f.1 x),λh=>absurd h (f.1 x)⟩,λae=>?_⟩;have J:b1 l:=Classical.byContradiction λh=>by have:=f.2 h;rw[ae] at this;cases this
  have H:=J.1;refine jx.mono ?_;rintro _ V _ ⟨rfl,a⟩;by_cases hi:cn o k
  rotate_left
  .simp only[hi,decide_false,bI,W5,bQ];exact⟨e.trans a,λh=>absurd J h,λ_ _=>rfl,λ_ h=>absurd h hi⟩
  simp only[hi,decide_true,bI,Y7,aY];refine (kP ((h.ext e).ext a) Ω).mono ?_;rintro aL I _ ⟨y,A,K,hm⟩;have L:=hm.ls.cells;refine ss λm M N j B=>?_;rw[dn (cs:=#[aL,Δ k,Δ o,.map (σ m)]) (by obtain⟨_,_,_,_,_,rfl,_⟩:=hm.ls;kernel_rfl)];refine bo λg O P q C=>?_;have Q:=e.size;have R:=a.size;have S:=y.size;have W:=j.size;exact⟨((((e.trans a).trans y).trans j).trans q),λh=>absurd J h,λ_ h=>absurd hi h,λ_ _=>⟨g,m,aL,A,rfl,Ω,Ω,λr E=>by have:=(bM hm E).1;omega,C,(hm.ext j).ext q,B.ext q,J,hi,λp G=>by cases G⟩⟩
 .intro ay z;rw[aU an.u h];simp only[bR,al];refine⟨λX=>z _ _ ⟨Ext.refl _,true,rfl,λ_ J=>by have:=J.1;omega,λ_=>rfl⟩,λY=>?_⟩;refine (Bq h).mono ?_;rintro _ V _ ⟨rfl,a⟩;refine z _ _ ⟨a,_,rfl,?_⟩;rw[decide_eq_true_eq];exact⟨λs J=>s J.2,λs J=>s ⟨Ω,J⟩⟩
structure Co where
 aj:Λ
 k:Int
 o:Int
 D:Told
instance Q1:ao Co where
 n:=1
 rep _ _ R w cs a:=∃g m sv gs,cs=[Γ g]/\fF w g m sv gs a.aj a.k a.o a.D/\R g/\R m/\ ∀r,leads sv r->R r
 len:=by rintro _ _ _ _ _ _ ⟨_,_,_,_,rfl,_⟩;rfl
 one:=by rintro _ _ _ _ _ _ ⟨_,_,_,_,rfl,_⟩ u hu;simp at hu;subst hu;rfl
 ab:=by
  rintro _ _ R T w w' _ a ⟨g,m,sv,gs,rfl,h1,f,h,j⟩ I p;obtain⟨q,s,x⟩:=h1.qf;exact⟨g,m,sv,gs,rfl,h1.ab I (p g q (.inr f)) (p m s (.inr h)) λr e=>p r (x r e) (.inr (j r e)),f,h,j⟩
 mono:=by
  rintro _ _ _ R R' w _ a ⟨g,m,sv,gs,rfl,h1,f,h,j⟩ _ y;obtain⟨q,s,x⟩:=h1.qf;exact⟨g,m,sv,gs,rfl,h1,y g q f,y m s h,λr e=>y r (x r e) (j r e)⟩
 hB:=by
  rintro _ _ R w _ a ⟨g,m,sv,gs,rfl,h1,f,h,j⟩;exact⟨g,m,sv,gs,rfl,h1,.inr f,.inr h,λr e=>.inr (j r e)⟩
abbrev gV:Type:=Rd (Λ)×Co
def qx (k:Int) (x:cv) (f:gV):Prop:=f.1=x.scope/\f.2.aj=x.sizes/\f.2.k=k/\f.2.o=min x.other k/\f.2.D.length<=x.lines.length/\ ∀t,hZ f.2.D f.2.o t=jB x k t
theorem LN {m:Bool} {S R:ak} {x:cv} (h:ao.rep m S R w cs (gU x)):∃aP szv b0,cs=[aP,szv,Δ x.other,b0]/\ao.rep (α:=Λ) false bu R w [aP] x.scope/\ao.rep (α:=Λ) false bu R w [szv] x.sizes/\ao.rep (α:=List (Λ×Int)) false bu R w [b0] x.lines:=by
 obtain⟨j,d1,r,s,rfl,_,_,_,h1,p,d2,z,A,rfl,_,_,_,a,q,d3,B,C,rfl,_,_,_,f,e⟩:=h;have h1:ao.rep (α:=Λ) false bu R w j x.scope:=h1;have a:ao.rep (α:=Λ) false bu R w p x.sizes:=a;have f:q=[Δ x.other]:=f;have e:ao.rep (α:=List (Λ×Int)) false bu R w d3 x.lines:=e;obtain⟨u,rfl⟩:=W3.1 (show j.length=1 from ao.len h1);obtain⟨v,rfl⟩:=W3.1 (show p.length=1 from ao.len a);obtain⟨y,rfl⟩:=W3.1 (show d3.length=1 from ao.len e);subst f;exact⟨u,v,y,rfl,h1,a,e⟩
theorem LO {m:Bool} {S R:ak} {p:Λ×Int} (h:ao.rep m S R w cs p):∃aL,cs=[aL,Δ p.2]/\aF .i64 w aL p.1:=by
 obtain⟨e,d1,f,j,rfl,_,_,_,h1,a⟩:=h;obtain⟨u,rfl⟩:=W3.1 (show e.length=1 from ao.len h1);have a:d1=[Δ p.2]:=a;subst a;exact⟨u,rfl,eE h1⟩
structure sO (k:Int) (x:cv):Prop where
 k:right k
 sizes:b1 x.sizes
 other:0<=x.other
 lines:mq x.sizes x.lines
 len:x.lines.length<=60000
 scope:x.scope.length<=100001
theorem dg {k:o4} (h:aF k w v l):∃a n c,v= .slice a n c:=by
 obtain⟨_,b,o,base,cap,rfl,_⟩:=h;exact⟨_,_,_,rfl⟩
theorem LP {aj:Nat} {aN aQ aR:x1} {K:Int} {R:ak} {x:cv} (al:af w aj cF [aN,Δ K,aQ,aR]) (I:Seen R w cs (gU x)) (aS:sO K x):
  am x7 uN [Γ aj,.agg cs.toArray] w λv w'=>Ext w w'/\ ∃b5,∃f:gV,v= .agg b5.toArray/\b5.length=2/\Seen (ea w.heap.size) w' b5 f/\qx K x f:=by
 obtain⟨aP,szv,b0,rfl,h1,an,P⟩:=LN I;obtain⟨G,Q,bq,ap,br,bt⟩:=aS;have bw:x.sizes.length<=6:=Q.1;refine az func82 ?_;refine bo λaq U bx av q=>?_;have q:af U aq bY [aP,szv,Δ x.other,b0]:=by
  obtain⟨_,_,_,rfl⟩:=lQ h1;obtain⟨_,_,_,rfl⟩:=lQ an;obtain⟨_,_,_,rfl⟩:=lQ P;exact q
 refine bG cG.i λy V bz S H=>?_;have H:af V y cG [.slice ν 0 0,.pointer ν]:=H;intro bA J _ _;have W:=(av.trans S).trans J;have X:=S.trans J;have bB:=av.size;have bC:=S.size;have z3:=J.size;have bD:=H.lt;have aw:=al.ext W;rw[aT bY.p 1 (q.ext X) rfl,aO cF.p 1 aw rfl,
  aT bY.p 2 (q.ext X) rfl,aO cF.p 1 aw rfl,lE]
 refine (sN ((eE an).ext W) Ω).mono ?_;rintro bF bH _ ⟨z,bI,bJ,aU⟩;refine⟨.inl z,?_⟩;have z4:=z.size;have aV:cn (min x.other K) K:=⟨G,by have:=G.1;omega,Ω⟩;refine (LM aU.ls).mono ?_;rintro _ aW _ ⟨L,_,_,aX⟩;obtain⟨ag,m,sv,gs,rfl,bK,bL,ax,aY⟩:=aX Q aV;rw[bi,bj];have z5:=L.size;have Y:=(W.trans z).trans L;have ay:=(X.trans z).trans L;rw[aT bY.p 3 (q.ext ay) rfl];have aA:=bW P Y;rw[io ij.u aA];refine ch.range x.lines.length (λi a=>ah (λr=>r=m) aW a/\ ∃D,D.length<=i/\fF a ag m sv gs x.sizes K (min x.other K) D/\ ∀t,hZ D (min x.other K) t=k0 x K i t) (rX aA) ⟨ah.refl _ _,[],p8 _,aY,λt=>by rw[Cd];rfl⟩ ?_ ?_
 .rintro i a aZ hi ⟨e,D,aB,A,Z⟩ a1;obtain⟨p,aa⟩:=aH (l:=x.lines) hi;have aC:=ap.2 p (x5 aa);have B:Ext w a:=Y.put e Ω;have a2:=e.size;have a6:ao.rep (α:=List (Λ×Int)) false bu R a [b0] x.lines:=bW P B;refine bE Ω ?_;refine np dV.p rfl ij.u dV.i a6 aa λbN a7=>?_;obtain⟨aL,rfl,aD⟩:=LO a7;refine bG dV.i λbO bP bQ aE a8=>?_;have bR:=aE.size;refine ck (vs:=[aL,Δ p.2]) dV.i rfl rfl (by intro v ac;simp at ac;rcases ac with rfl|rfl<;>first|exact aD.cells.2|rfl) a8 λba bb bS aF=>?_;have bc:Ext a ba:=aE.put bb Ω;intro bT ad _ _;have s:=bc.trans ad;have z9:=s.size;rw[aT dV.p 0 (aF.ext ad) rfl,aT dV.p 1 (aF.ext ad) rfl,aO cF.p 1 ((al.ext B).ext s) rfl,lE];have bU:=vG Q aC.1;refine (sN (aD.ext s) Ω).mono ?_;rintro bV bX _ ⟨C,bZ,b1,bd⟩;refine⟨.inl C,?_⟩;have b2:=C.size;refine (By (c:=min p.2 K) ((A.ext s).ext C).is bd.ls).mono ?_;rintro _ b3 _ ⟨_,be⟩;have bf:cn (min p.2 K) K:=⟨G,by have:=G.1;omega,Ω⟩;obtain⟨rfl,aG,D',aI,aJ⟩:=be ⟨aC.1,bf⟩;rw[aM];refine a1 _ ⟨(e.trans ((s.trans C).ab _)).trans aG,D',by have:=aI.2;omega,fF.put ((A.ext s).ext C) aG aJ,λt=>?_⟩;rw[Cf ap.1 aa,aI.cost A.is.nodup aJ.nodup];by_cases M:t=p.1
  .rw[if_pos M,if_pos M]
  .rw[if_neg M,if_neg M,Z]
 .rintro a aZ ⟨e,D,aB,A,Z⟩;have B:Ext w a:=Y.put e Ω;have bg:Ext U a:=ay.put e Ω;have a2:=e.size;refine cm Ω ?_;rw[aT bY.p 0 (q.ext bg) rfl];refine (sN ((eE h1).ext B) Ω).mono ?_;rintro N b4 _ ⟨O,bh,b6,E⟩;have z12:=O.size;rw[dn (cs:=#[N,Γ ag]) (by obtain⟨_,_,_,rfl⟩:=dg E.ls;kernel_rfl)];have bk:Ext V a:=((J.trans z).trans L).put e Ω;refine ck (vs:=[N,Γ ag]) cG.i rfl rfl (by intro v ac;simp at ac;rcases ac with rfl|rfl<;>first|exact E.ls.cells.2|rfl) ((H.ext bk).ext O) λaK ae b7 bl=>?_;rw[fO cG.p cG.i rfl bl.range];have bm:fF aK ag m sv gs x.sizes K (min x.other K) D:=(A.ext O).ab ae (λhe=>by have he:ag=y:=he;omega) (λhe=>by have he:m=y:=he;omega) (λr j he=>by have he:r=y:=he;have:=ax r j;omega);have bn:au .i64 ai aK bh N x.scope:=bp E ae λr j he=>by have he:r=y:=he;have:=(bM E j).1;omega
  refine⟨(B.trans O).put ae Ω,_,(x.scope,⟨x.sizes,K,min x.other K,D⟩),rfl,rfl,?_,rfl,rfl,rfl,rfl,aB,λt=>?_⟩
  .exact⟨[N],[Γ ag],bu,bu,rfl,λ_ h=>h,λ_ h=>h,λ_ _ h _=>h,qt bn λr j=>by have:=(bM E j).1;show w.heap.size<=r;omega,
    ⟨ag,m,sv,gs,rfl,bm,by show w.heap.size<=ag;omega,by show w.heap.size<=m;omega,λr j=>by have:=ax r j;show w.heap.size<=r;omega⟩⟩
  .rw[Z,Ce]
theorem LQ {S R:ak} {f:gV} (h:ao.rep false S R w cs f):ao.rep (α:=gV) true bu R w cs f:=by
 obtain⟨c,d,A,B,rfl,h1,j,_,a,e⟩:=h;exact⟨c,d,bu,bu,rfl,λ_ h=>h,λ_ h=>h,λ_ _ h _=>h,a,e⟩
def sP (k:Int) (a:List cv) (e:List gV):Prop:=e.length=a.length/\ ∀ (i:Nat) x f,a[i]? =σ x->e[i]? =σ f->qx k x f
theorem LR {e:Nat} {m:Bool} {S R:ak} {Q aj:x1} {K:Int} {q:List cv} {aE:x3->Prop} (aF:af w e cF [Q,Δ K,szv,.slice ν 0 0])
  (aV:ao.rep m S R w [aj] (show List ht from q.map gU)) (aX:∀r,S r\/R r->r≠e) (aY:∀x∈q,sO K x) (bP:q.length<=256)
  (aZ:∀w' z,∀s:List gV,ah (λr=>r=e) w w'->af w' e cF [Q,Δ K,szv,z]->Seen (λr=>w.heap.size<=r) w' [z] s->sP K q s->aE w'):
  ch (Δ 0) w λan E a1=>
   aa x7 (aJ .lss ai false false an (Δ (q.length:Int))) E λa2=>
   Split a2 (aa x7 (j5 iO aj an) E λa6=>
   aa x7 (u4 bY a6) E λa7=>
   aC x7 (R7 bY true (.tuple #[])) E λx a8=>
   aC x7 (o6 bY x a7) a8 λ(_:Unit) ba=>
   en ba λC=>
   aa x7 (bK (Γ e)) C λG=>
   aa x7 (u5 cF G 3) C λH=>
   aa x7 (u4 dD H) C λap=>
   aa x7 (u4 bY x) C λbb=>
   am x7 uN [(Γ e),bb] C λbc I=>
    (Ext C I\/cC x7 (u4 dD H) ap I/\cC x7 (u5 cF G 3) H I/\cC x7 (bK (Γ e)) G I/\True)/\
   aC x7 (Y0 dD 1 #[(0,bc)]) I λbd J=>
    (Ext C J\/cC x7 (u4 dD H) ap J/\cC x7 (u5 cF G 3) H J/\cC x7 (bK (Γ e)) G J/\True)/\
    aC x7 (b8 #[dD,dD] dD #[ap,bd]) J λbe au=>
     aa x7 (bK (Γ e)) au λbf=>
     aa x7 (u5 cF bf 3) au λbg=>
     aC x7 (o6 dD bg be) au λ(_:Unit) aG=>
     aa x7 (aJ .add ai false true an (Δ 1)) aG λbh=>
   a1 bh aG) (aE E):=by
 have bQ:=aF.lt;have bR:(q.map gU).length=q.length:=Ξ
 refine ch.range q.length (λi U=>ah (λr=>r=e) w U/\ ∃z,∃s:List gV,∃A R':ak,af U e cF [Q,Δ K,szv,z]/\bC A R' U [z] s/\(∀r,A r->w.heap.size<=r/\r<U.heap.size)/\(∀r,R' r->w.heap.size<=r/\¬A r/\r<U.heap.size)/\sP K (q.take i) s) Ω
  ⟨ah.refl _ _,_,[],bu,bu,aF,gS,λ_ h=>h.elim,λ_ h=>h.elim,rfl,λi x f h=>by simp at h⟩ ?_ ?_
 rotate_left
 .rintro U bi ⟨L,z,s,A,R',M,av,B,N,W⟩;rw[o5] at W;rw[aN,al];refine⟨λh=>Ω,λ_=>aZ U z s L M (pV av λr _ h=>?_) W⟩;exact h.elim (λh=>(B r h).1) λh=>(N r h).1
 rintro i U bi hi ⟨L,z,s,A,R',M,av,B,N,aI,W⟩ bj;obtain⟨x,aw⟩:=aH (l:=q) hi;have bk:=aY x (x5 aw);have bT:=L.size;rw[l9] at aI;have bl:ao.rep m S R U [aj] (show List ht from q.map gU):=ao.ab aV L λr _ h he=>aX r h he;refine bE Ω ?_;refine np (α:=ht) (a:=gU x) bY.p rfl iO.u bY.i bl (by show (q.map gU)[i]? =_;rw[x8,aw];rfl) λcs ax=>?_;have aK:cs.length=4:=ao.len ax;have bm:Seen (λr=>S r\/R r) U cs (gU x):=pV ax λr _ h=>h;refine bG bY.i λaq V bU aL bn=>?_;have bV:=aL.size;refine ck (vs:=cs) bY.i aK rfl (ao.one ax) bn λbo bp bX bq=>?_;have br:Ext U bo:=aL.put bp Ω;intro X aP _ _;have O:=br.trans aP;have z4:=O.size;rw[aO cF.p 3 (M.ext O) rfl,bO bY.p bY.i aK (bq.ext aP).range];refine (LP (M.ext O) (bW bm O) bk).mono ?_;rintro _ Y _ ⟨Z,b5,f,rfl,bZ,ae,bw⟩;have z5:=Z.size;refine⟨.inl Z,?_⟩;have aQ:=LQ ae;have bx:=O.trans Z;refine jw (α:=gV) (a:=f) (cs:=b5) (A:=bu) (R:=ea X.heap.size) dD.u cG.i Φ (by
  obtain⟨c,d,b0,b1,he,_,_,_,ac,bz⟩:=ae;have ac:ao.rep (α:=Λ) false bu _ Y c f.1:=ac;obtain⟨u,rfl⟩:=W3.1 (show c.length=1 from ao.len ac);obtain⟨b2,ci,b3,b4,rfl,_⟩:=bz;obtain⟨_,_,_,rfl⟩:=lQ ac;cases he;rfl) aQ λu ay ad _ hu=>?_
 have b6:=ad.size;refine⟨.inl (Z.trans ad),?_⟩;have az:=bx.trans ad;have bA:bC A (λr=>R' r\/(X.heap.size<=r/\r<Y.heap.size)) ay [z] s:=bW (ao.mono av (λ_ _ h=>h) λ_ _ h=>.inl h) az;have bB:bC bu (λr=>R' r\/(X.heap.size<=r/\r<Y.heap.size)) ay b5 f:=bW (ao.mono aQ (λ_ _ h=>h) λr y h=>.inr ⟨h,y⟩) ad;refine mi (α:=gV) (a:=f) (A:=bu) dD.u cG.i rfl bA hu bB (λr _ aR h=>?_) Ω Ω λaS bD aA aB=>?_
 .rcases h with h|h|h
  .exact h
  .exact (N r h).2.1 aR
  .have:=(B r aR).2;omega
 have b7:=aB.size;rw[bS,aW cF.p rfl];have bF:=(M.ext az).ab aB (λhe=>by have:=(B _ he).1;omega);refine bt (g:=e) (o:=3) dD.i (oC aA) (iY aA) bF Ξ λbH aT b9 aD=>?_;have aD:af bH e cF [Q,Δ K,szv,aS]:=aD;rw[aM];have bI:=lI aA;refine bj _ ⟨(hp (L.trans (az.ab _)) aB λr y he=>by have:=(B _ he).1;omega).trans aT,aS,s++[f],λr=>((A r\/bu r\/ay.heap.size<=r)/\r<bD.heap.size),λr=>R' r\/(X.heap.size<=r/\r<Y.heap.size),aD,ao.ab bI aT λr _ h he=>?_,λr y=>?_,λr y=>?_,?_,λj bJ bL ag P=>?_⟩
 .have he:r=e:=he;rcases h with h|h|h
  .rcases h.1 with h1|h1|h1
   .have:=(B _ h1).1;omega
   .exact h1
   .omega
  .have:=(N r h).1;omega
  .omega
 .have ca:=y.2;rcases y.1 with h1|h1|h1
  .have:=(B _ h1).1;omega
  .exact h1.elim
  .omega
 .rcases y with y|y
  .have aU:=N r y;refine⟨aU.1,λh=>?_,Ω⟩;rcases h.1 with h1|h1|h1
   .exact aU.2.1 h1
   .exact h1
   .omega
  .refine⟨Ω,λh=>?_,Ω⟩;rcases h.1 with h1|h1|h1
   .have:=(B _ h1).2;omega
   .exact h1
   .omega
 .rw[p9,l9,aI];simp;omega
 .have bM:=(x4.1 P).1;rw[p9,R2] at bM;rw[Z7 Ω] at ag;by_cases bN:j<s.length
  .rw[Y1 bN] at P;exact W j bJ bL (by rw[Z7 Ω];exact ag) P
  .rw[Y4 Ω,show j-s.length=0 by omega] at P;rw[show j=i by omega,aw] at ag;cases P;cases ag;exact bw
def k1 (w:x3) (h:Nat) (f:bZ):Prop:=∃szv a gz,∃e:List gV,af w h cF [bN f.name,Δ f.k,szv,a]/\au .i64 ai w gz szv f.sizes/\Seen eX w [a] e/\sP f.k f.funs e
theorem k1.ext {a:Nat} {f:bZ} (h:k1 w a f) (I:Ext w w'):k1 w' a f:=by
 obtain⟨szv,e,gz,j,h1,m,p,q⟩:=h;exact⟨szv,e,gz,j,h1.ext I,m.ext I,bW p I,q⟩
def Cp (w:x3) (res:Option bZ) (v:x1) (w':x3):Prop:=Ext w w'/\match res with
 |none=>∃n e:Int,v= .tuple #[.pointer ν,Δ n,Δ e]/\e≠0
 |some f=>∃a,∃n:Int,v= .tuple #[Γ a,Δ n,Δ 0]/\k1 w' a f
structure LS (clean:Bool) (so:Option aD) (name:Λ) (k:Int) (sizes:Λ) (acc:List ht) (res:Option bZ):Prop where
 oY:∀s,so=σ s->s.toks=[]->clean=true->s.big=false-> ∃fs,acc=fs.map gU/\res=σ ⟨name,k,sizes,fs⟩/\(∀x∈fs,sO k x)/\fs.length<=256/\sizes.length<=1000000
 bad:res≠ν-> ∃s,so=σ s/\s.toks=[]/\clean=true/\s.big=false
theorem LU {w0:x3} {g:Nat} {A B S R:ak} {m:Bool} {so:Option aD} {name:Λ} {acc:List ht} {res:Option bZ} {aq p:x1} {pl:Λ} {Q:x1->x3->Prop}
  (aE:gT w g gs A B clean so) (M:LS clean so name k sizes acc res) (bl:aF .i64 w szv sizes) (bm:∀r,leads szv r->r≠g/\r≠gs) (bn:ao.rep m S R w [aq] acc) (a2:∀r,S r\/R r->r≠g/\r≠gs/\r<w.heap.size)
  (cZ:so=ν->True) (c0:g<w.heap.size) (c1:gs<w.heap.size) (bp:ah (λr=>w0.heap.size<=r) w0 w) (c2:w0.heap.size<=g) (c3:w0.heap.size<=gs) (bq:aF .u8 w0 p pl)
  (X:∀v w',Cp w0 res v w'->Q v w'):
  cu (α:=x3->Prop) (λ(j:x3)=>
  aa x7 (bK (Γ g)) j λbr=>
  aa x7 (u5 b7 br 1) j λbt=>
  aa x7 (u5 eV bt 0) j λbu=>
  aa x7 (u4 jq bu) j λbw=>
  aa x7 (aJ .neq jq false true bw (Δ 0)) j λbx=>
  Split bx (en j λG=>
   aa x7 (bK (Γ g)) G λbA=>
   aa x7 (u5 b7 bA 1) G λbB=>
   aa x7 (u5 eV bB 2) G λbC=>
   aa x7 (u4 ai bC) G λbD=>
   aa x7 (bK (Γ g)) G λbE=>
   aa x7 (u5 b7 bE 1) G λbF=>
   aa x7 (u5 eV bF 0) G λbG=>
   aa x7 (u4 jq bG) G λbH=>
   Q (.tuple #[(.pointer ν),bD,bH]) G)
   (aa x7 (bK (Γ g)) j λbI=>
   aa x7 (u5 b7 bI 1) j λbJ=>
   aa x7 (u5 eV bJ 1) j λbL=>
   aa x7 (u4 jq bL) j λbM=>
   aa x7 (aJ .neq jq false true bM (Δ 0)) j λbO=>
   Split bO (en j λH=>
   aa x7 (bK (Γ g)) H λbP=>
   aa x7 (u5 b7 bP 1) H λbR=>
   aa x7 (u5 eV bR 3) H λbT=>
   aa x7 (u4 ai bT) H λbU=>
   aa x7 (bK (Γ g)) H λbV=>
   aa x7 (u5 b7 bV 1) H λbX=>
   aa x7 (u5 eV bX 1) H λb0=>
   aa x7 (u4 jq b0) H λb1=>
   Q (.tuple #[(.pointer ν),bU,b1]) H)
   (am x7 zd [szv] j λb2 a6=>
  aa x7 (Instr.build cF #[(0,bN name),(1,Δ k),(2,b2)]) a6 λb3=>
  aC x7 (Instr.box cF b3) a6 λN a7=>
  aa x7 (W6 #[iO] ai #[aq]) a7 λb4=>
  ch (Δ 0) a7 λaG O b5=>
   aa x7 (aJ .lss ai false false aG b4) O λb6=>
   Split b6 (aa x7 (j5 iO aq aG) O λb9=>
   aa x7 (u4 bY b9) O λca=>
   aC x7 (R7 bY true (.tuple #[])) O λx cb=>
   aC x7 (o6 bY x ca) cb λ(_:Unit) cc=>
   en cc λL=>
   aa x7 (bK N) L λY=>
   aa x7 (u5 cF Y 3) L λZ=>
   aa x7 (u4 dD Z) L λaH=>
   aa x7 (u4 bY x) L λcd=>
   am x7 uN [N,cd] L λce ad=>
    (Ext L ad\/cC x7 (u4 dD Z) aH ad/\cC x7 (u5 cF Y 3) Z ad/\cC x7 (bK N) Y ad/\True)/\
   aC x7 (Y0 dD 1 #[(0,ce)]) ad λcg ae=>
    (Ext L ae\/cC x7 (u4 dD Z) aH ae/\cC x7 (u5 cF Y 3) Z ae/\cC x7 (bK N) Y ae/\True)/\
    aC x7 (b8 #[dD,dD] dD #[aH,cg]) ae λci aI=>
     aa x7 (bK N) aI λcj=>
     aa x7 (u5 cF cj 3) aI λck=>
     aC x7 (o6 dD ck ci) aI λ(_:Unit) a8=>
     aa x7 (aJ .add ai false true aG (Δ 1)) a8 λcl=>
   b5 cl a8)
    (aa x7 (W6 #[cM] ai #[p]) O λcm=>
  Q (.tuple #[N,cm,(Δ 0)]) O)))) λau=>
 am x7 kG [(Γ g)] w λcn ag=>
 Split cn (aa x7 (bK (Γ g)) ag λcp=>
  aa x7 (u5 b7 cp 0) ag λcq=>
  aa x7 (u4 rP cq) ag λcr=>
  am x7 uM [cr] ag λaK K=>
  aa x7 (Z4 aK 0) K λc4=>
  aa x7 (Z4 aK 1) K λba=>
  aa x7 (Z4 aK 2) K λaL=>
  aa x7 (aJ .eql jq false true aL (Δ 0)) K λct=>
  Split ct (am x7 m7 [(Γ g),(Δ 4),ba] K λc5 cw=>
  au cw)
  (aa x7 (aJ .eql jq false true aL (Δ 11)) K λcz=>
  Split cz (am x7 m7 [(Γ g),aL,ba] K λc6 cA=>
   au cA)
   (au K)))
  (au ag):=by
 refine dh (λj=>ah (λr=>r=g\/r=gs) w j/\ ∃ (e big I J told:Int) (sv:x1),af j g b7 (fD gs e big I J told sv)/\((e≠0/\res=ν)\/(e=0/\ ∃s,so=σ s/\s.toks=[]/\clean=true/\(s.big=true↔big≠0)))) ?_ ?_
 rotate_left
 .intro ay aM;refine (BY aE).mono ?_;rintro _ U _ ⟨rfl,aj⟩;cases so with
  |none=>
   rw[show (ν:Option aD).isSome=false from rfl,aY];obtain⟨e,big,I,J,told,sv,y,aN⟩:=aE.ext aj;refine aM _ ⟨aj.ab _,e,big,I,J,told,sv,y,.inl ⟨aN,?_⟩⟩;cases E:res with
   |none=>rfl
   |some f=>obtain⟨s,h,_⟩:=M.bad (by rw[E];simp);cases h
  |some s=>
   rw[show (σ s:Option aD).isSome=true from rfl,bQ];have cB:df U g gs A B s clean:=aE.ext aj;obtain⟨av,cD,cE,big,I,J,told,sv,y,aN,cG⟩:=id cB;rw[aO b7.p 0 y rfl];refine (qd cD).mono ?_;rintro v V _ ⟨P,ac⟩;have cH:(s.toks≠[]\/clean=false)->res=ν:=λq=>by
    cases E:res with
    |none=>rfl
    |some f=>
     obtain⟨s',h,an,bb,_⟩:=M.bad (by rw[E];simp);cases h;rcases q with q|q
     .exact absurd an q
     .rw[q] at bb;cases bb
   have aw:∀z,ah (λr=>r=g) V z->et z g gs A B->(s.toks≠[]\/clean=false)->ay z:=λz ap aw q=>by
    obtain⟨_,e,big,I,J,told,sv,l,cI,cJ,_⟩:=aw;exact aM _ ⟨((aj.ab _).trans (P.mono λr _ h=>.inr h)).trans (ap.mono λr _ h=>.inl h),e,big,I,J,told,sv,cI,.inl ⟨cJ.1,cH q⟩⟩
   have aP:=y.ab P av.1;have bc:=ao.ab cG P λr _ h an=>by
    have an:r=gs:=an;subst an;rcases h with h|h
    .exact av.2.2.1 h
    .exact h.1 (.inr (.inl rfl))
   have bd:s.shared.length<=100000:=by have:=cE.2.2;omega
   cases W:s.toks with
   |cons t l=>
    rw[W] at ac;obtain⟨c7,n,rfl⟩:=ac;rw[fy,fz,fA,bh,al];refine⟨λ_=>?_,λh=>absurd rfl h⟩;refine (sj (av.ab P) aP bc Ω bd).mono ?_;rintro _ z _ ⟨ap,aQ⟩;exact aw z ap aQ (.inl (by rw[W];simp))
   |nil=>
    rw[W] at ac;obtain⟨n,rfl⟩:=ac;rw[fy,fz,fA,bh,al];refine⟨λh=>by cases clean<;>simp at h,λ_=>?_⟩;rw[bh,al];cases ax:clean with
    |true=>
     subst ax;refine⟨λh=>by simp at h,λ_=>aM _ ⟨(aj.ab _).trans (P.mono λr _ h=>.inr h),0,big,I,J,told,sv,aP,.inr ⟨rfl,s,rfl,W,rfl,aN.1⟩⟩⟩
    |false=>
     subst ax;refine⟨λ_=>?_,λh=>absurd rfl h⟩;refine (sj (av.ab P) aP bc Ξ bd).mono ?_;rintro _ z _ ⟨ap,aQ⟩;exact aw z ap aQ (.inr rfl)
 .rintro U ⟨az,e,big,I,J,told,sv,y,cK⟩;have c8:=az.size;have aR:Ext w0 U:=(bp.ext λr E h=>Ω).then az (λr E h=>by rcases h with h|h<;>omega);rw[bS,aW b7.p rfl,aW eV.p rfl,aA Ψ (y.cell (o:=0+1+0) rfl),bz,al];rcases cK with⟨he,aS⟩|⟨rfl,s,rfl,W,ax,be⟩
  .refine⟨λ_=>?_,λh=>absurd he h⟩;intro V C _ _;rw[bS,aW b7.p rfl,aW eV.p rfl,aA Ψ ((y.ext C).cell (o:=0+1+2) rfl),bS,aW b7.p rfl,aW eV.p rfl,aA Ψ ((y.ext C).cell (o:=0+1+0) rfl)];rw[aS] at X;exact X _ _ ⟨aR.trans C,I,e,rfl,he⟩
  .refine⟨λh=>absurd rfl h,λ_=>?_⟩;rw[bS,aW b7.p rfl,aW eV.p rfl,aA Ψ (y.cell (o:=0+1+1) rfl),bz,al];refine⟨λq=>?_,λq=>?_⟩
   .have aS:res=ν:=by
     cases E:res with
     |none=>rfl
     |some f=>
      obtain⟨s',h,_,_,bf⟩:=M.bad (by rw[E];simp);cases h;rw[be.2 q] at bf;cases bf
    intro V C _ _;rw[bS,aW b7.p rfl,aW eV.p rfl,aA Ψ ((y.ext C).cell (o:=0+1+3) rfl),bS,aW b7.p rfl,aW eV.p rfl,aA Ψ ((y.ext C).cell (o:=0+1+1) rfl)];rw[aS] at X;exact X _ _ ⟨aR.trans C,J,big,rfl,q⟩
   .have cL:s.big=false:=by
     cases cN:s.big with
     |false=>rfl
     |true=>exact absurd (be.1 cN) q
    obtain⟨aT,rfl,rfl,cO,cP,cQ⟩:=M.oY s rfl W ax cL;have cR:aF .i64 U szv sizes:=hI bl az λr E a n c ac M=>by
     have:=bm r ⟨a,n,c,ac,M⟩;exact E.elim this.1 this.2
    refine (sN cR cQ).mono ?_;rintro aV V _ ⟨C,gz,c9,aX⟩;have da:=C.size;rw[dn (cs:=#[bN name,Δ k,aV,.slice ν 0 0]) (by obtain⟨_,_,_,rfl⟩:=dg aX.ls;kernel_rfl)];refine bo λaZ z db a1 aB=>?_;have aB:af z aZ cF [bN name,Δ k,aV,.slice ν 0 0]:=by obtain⟨_,_,_,rfl⟩:=dg aX.ls;exact aB
    have bg:ao.rep m S R z [aq] (show List ht from aT.map gU):=bW (bW (ao.ab bn az λr _ h he=>by have:=a2 r h;exact he.elim this.1 this.2.1) C) a1;have cS:(aT.map gU).length=aT.length:=Ξ
    rw[io iO.u bg,cS];refine LR aB bg (λr h=>by have:=a2 r h;omega) cO cP λbi cT cU cV cW cX cY=>?_;have dc:=aB.lt;have z3:=a1.size;have bj:Ext V bi:=a1.then cV (λr E h=>by have h:r=aZ:=h;omega);have bk:Ext w0 bi:=(aR.trans C).trans bj;rw[aU cM.u (bq.ext bk)];exact X _ _ ⟨bk,aZ,_,rfl,aV,cT,gz,cU,cW,aX.ext bj,iV cX,cY⟩
theorem Cq {α:Type} {f:List α->aD->Option (α×aD)} {acc:List α} {s:aD}:fh f (n+1) acc (σ s)=match f acc s with
  |none=>ν
  |some (a,s')=>fh f n (acc++[a]) (σ s'):=by
 show cN f (n+1) acc s=_;simp only[cN];cases f acc s<;>rfl
theorem LV {g:Nat} {A B:ak} {s:Option aD} {most:Int} {L:x1->x3->Prop} (h:dj w g gs A B clean s) (aq:(N:Int)<=aw)
  (M:∀szv w' l so gz,ah (bD g gs A) w w'->dj w' g gs A B clean so->au .i64 ap w' gz szv l->w.heap.size<=gz->l.length<=100001->(∀q,fh (fP most) N [] s=σ q->so=σ q.2/\l=q.1)->(fh (fP most) N [] s=ν->so=ν)->L szv w'):
 bX (.slice ν 0 0) (Δ 0) w λsizes i C k=>
  cu (α:=x1->x3->Prop) (λ(av:x1) (O:x3)=>
   Split av (am x7 m4 [Γ g,(Δ 1),Δ most] O λP p=>
  aa x7 (Z4 P 0) p λQ=>
  aa x7 (Z4 P 1) p λaz=>
  aa x7 (aJ .gtr ap false true Q (Δ 32)) p λaA=>
  am x7 pM [Γ g,aA,az] p λbn aB=>
  aC x7 (Y0 ax 1 #[(0,Q)]) aB λaE aF=>
  aC x7 (b8 #[ax,ax] ax #[sizes,aE]) aF λaG R=>
  aa x7 (aJ .add ap false true i (Δ 1)) R λaH=>
  k aG aH R) (L sizes O)) λay=>
  aa x7 (aJ .lss ap false false i (Δ (N:Int))) C λaI=>
  Split aI (am x7 kG [Γ g] C λaK aL=>
  ay aK aL)
   (ay (.bool false) C):=by
 obtain⟨bo,S,bq,aO,aP⟩:=h.side;have ag:∀r,bD g gs A r->r<w.heap.size:=aO;unfold aw at aq;generalize aQ:fh (fP most) N [] s=W at M;refine⟨λout E U=>∃ (i:Nat) (l:Λ) (so:Option aD) (gz:Nat),E=Δ (i:Int)/\i<=N/\ah (bD g gs A) w U/\au .i64 ap U gz out l/\w.heap.size<=gz/\dj U g gs A B clean so/\W=fh (fP most) (N-i) l so/\l.length<=100001/\ ∀st,so=σ st->l.length+st.toks.length<=100000,
  λ_ E _=>N-(bU E).toNat,⟨0,[],s,w.heap.size,rfl,X3 _,ah.refl _ _,au.nil _ _ _ _,p8 _,h,aQ.symm,Ξ,λst aR=>?_⟩,?_⟩
 .subst aR;have:=h.words;simpa using this
 rintro out _ U ⟨i,l,so,gz,rfl,br,G,X,aS,Y,x,aT,Z⟩;refine aV (λv ac=>Ext U ac/\((v= .bool true/\i<N/\ ∃st,so=σ st)\/(v= .bool false/\(so=ν\/i=N)))) ?_ ?_
 rotate_left
 .intro ay H;rw[aN,al];refine⟨λaU=>?_,λbt=>H _ _ ⟨Ext.refl _,.inr ⟨rfl,.inr Ω⟩⟩⟩;refine (o3 Y).mono ?_;rintro _ ac _ ⟨rfl,ad⟩;cases so with
  |none=>exact H _ _ ⟨ad,.inr ⟨rfl,.inl rfl⟩⟩
  |some st=>exact H _ _ ⟨ad,.inl ⟨rfl,Ω,st,rfl⟩⟩
 rintro _ V ⟨m,aW⟩;have ae:=X.ext m;have af:=Y.ext m;rcases aW with⟨rfl,aU,st,rfl⟩|⟨rfl,aX⟩
 rotate_left
 .rw[aY];have ai:W=so.map λst=>(l,st):=by
   rcases aX with rfl|rfl
   .exact x
   .rw[V6] at x;rw[x];cases so<;>rfl
  refine M out V l so gz (G.trans (m.ab _)) af ae aS aT (λq f=>?_) λaj=>?_
  .rw[ai] at f;cases so with
   |none=>cases f
   |some st=>cases f;exact⟨rfl,rfl⟩
  .rw[ai] at aj;cases so with
   |none=>rfl
   |some st=>cases aj
 rw[bQ];have Z:=Z st rfl;refine (lP (s:=σ st) af).mono ?_;rintro _ bu _ ⟨I,z,at_,rfl,aZ,bw⟩;obtain⟨J,a1⟩:=I.of;rw[bi,bj,bR];refine (qq a1).mono ?_;rintro _ bx _ I;obtain⟨K,a2⟩:=I.of;refine eo ax.u ap.i rfl λa ga a6 bz y a7=>?_;have bA:=G.size;have bB:=m.size;have z3:=J.size;have z4:=K.size;have z5:=y.size;have an:∀r,leads out r->¬bD g gs A r:=λr j a8=>by have:=ag r a8;have:=(bM X j).1;omega
 have ba:=bp (bp ae J an) K an;refine iT ax.u ap.i rfl (ba.ext y) a7.ls Θ Θ λbC bc bd bE be ao=>?_;rw[aM,wrap_i64 Ω Ω];have bg:ah (bD g gs A) w a6:=((((G.trans (m.ab _)).trans J).trans K).trans (y.ab _));have bh:ah (bD g gs A) w bd:=hp bg ao λr j he=>by have he:r=gz:=he;omega
 have bk:∀r,bD g gs A r->¬(λr=>r=gz) r:=λr j he=>by have:=ag r j;have he:r=gz:=he;omega
 have bl:∀r,cI g gs A B r->¬(λr=>r=gz) r:=λr j he=>by have:=aP r j.2;have he:r=gz:=he;omega
 refine⟨⟨i+1,l++[z],_,bc,rfl,Ω,bh,be,Ω,(a2.ext y).ab ao bk bl,?_,Θ,λbF bm=>?_⟩,by simp only[bU];omega⟩
 .rw[x,show N-i=(N-(i+1))+1 by omega,Cq];unfold fP;cases f:bf 1 most st with
  |none=>have e:bb 1 most (σ st)=ν:=f;rw[e];rfl
  |some q=>
   have e:bb 1 most (σ st)=σ q:=f;have:=aZ q e;subst this;rw[e];rfl
 .obtain⟨bG,S,rfl⟩:=Y5.1 bm;obtain⟨q,f,rfl⟩:=Y5.1 S;have h1:=(dB (n:=q.1) (s':=q.2) f).1;simp only[p9,R2];show l.length+1+q.2.toks.length<=100000;omega
theorem LW {acc:List (Λ×Int)} {s s':aD} {a:Λ×Int} (h:dM sizes acc s=σ (a,s')):s'.told=s.told/\s'.big=s.big:=by
 obtain⟨_,_,_,e⟩:=oT h;exact⟨e.eqs.1,e.eqs.2.1⟩
theorem LX {s s':aD} {l:List (Λ×Int)} (hi:dP s) (h:dN sizes s=σ (l,s')):dP s'/\(s.big=true->s'.big=true):=by
 have e:=BV sizes (σ s);rw[show ix sizes (σ s)=dN sizes s from rfl,h] at e;cases r:bb (-aw) aw (σ s) with
 |none=>rw[r] at e;cases e
 |some q=>
  obtain⟨n,m⟩:=q;rw[r] at e;simp only at e;have h1:=(dB (n:=n) (s':=m) r).eqs;have x:dP m:=λj=>by rw[h1.1];rw[h1.2.1] at j;exact hi j
  split at e
  .cases J:m.shared[(-n-1).toNat]? with
   |none=>rw[J] at e;cases e
   |some q=>
    obtain⟨z,l'⟩:=q;rw[J] at e;simp only at e;split at e
    .cases e;exact⟨x,λj=>by rw[h1.2.1];exact j⟩
    .cases e
  .have:=ka (f:=dM sizes) (λacc t=>t.told=(jF n m).told/\t.big=(jF n m).big) (λacc t a bw ⟨w,p⟩ g=>by
    have:=LW g;exact⟨by rw[this.1,w],by rw[this.2,p]⟩) n.toNat [] _ l s' ⟨rfl,rfl⟩ e.symm
   obtain⟨⟨w,p⟩,_⟩:=this;refine⟨λj=>by rw[w];rw[p] at j;exact Lg n m j,λj=>?_⟩;rw[p];show (m.big||_)=true;rw[h1.2.1,j];rfl
theorem LY {s s':aD} {x:cv} (hi:dP s) (h:c6 all s=σ (x,s')):dP s'/\s'.toks.length<s.toks.length:=by
 unfold c6 at h;cases m:bf (-aw) aw s with
 |none=>rw[m] at h;cases h
 |some q=>
 obtain⟨a,C⟩:=q;rw[m] at h;simp only at h;have t0:=dB m;cases h1:eZ all.length a.natAbs C with
 |none=>rw[h1] at h;cases h
 |some q=>
 obtain⟨sc,f⟩:=q;rw[h1] at h;simp only at h;obtain⟨p,_⟩:=vy h1;generalize sc.map (λv=>all.getD v.toNat 0)=sizes at h;cases r:bf 0 aw (bd (decide (6<a.natAbs)||dq sizes) f) with
 |none=>rw[r] at h;cases h
 |some q=>
 obtain⟨other,w⟩:=q;rw[r] at h;simp only at h;have y:=dB r;have E:dP w:=λe=>by
  rw[y.eqs.1];rw[y.eqs.2.1] at e;have e:(f.big||_)=false:=e;have A:=(T4.1 e).1;show f.told<=16384;rw[p.eqs.1,t0.eqs.1];rw[p.eqs.2.1,t0.eqs.2.1] at A;exact hi A
 cases j:dN sizes w with
 |none=>rw[j] at h;cases h
 |some q=>
 obtain⟨lines,z⟩:=q;rw[j] at h;simp only[Y8,S0] at h;obtain⟨_,rfl⟩:=h;have F:=LX E j;have I:=B3 j;have J:=t0.1;have K:=p.1;have L:f.toks.length=w.toks.length+1:=y.1;have B:∀t:aD,t.told=z.told/\t.big=z.big/\t.toks=z.toks->dP t/\t.toks.length<s.toks.length:=λt ⟨G,H,a3⟩=>⟨λe=>by rw[G];rw[H] at e;exact F.1 e,by rw[a3];omega⟩;split
 .exact B _ ⟨rfl,rfl,rfl⟩
 .exact B _ ⟨rfl,rfl,rfl⟩
theorem LZ {S R:ak} {x:ht} (h:ao.rep false S R w cs x):ao.rep (α:=ht) true bu R w cs x/\(x1.agg cs.toArray).cells=cs.toArray:=by
 obtain⟨j,d1,q,r,rfl,_,_,_,h1,m,d2,s,z,rfl,_,_,_,a,p,d3,A,B,rfl,_,_,_,f,e⟩:=h;have h1:ao.rep (α:=Λ) false bu R w j x.1:=h1;have a:ao.rep (α:=Λ) false bu R w m x.2.1:=a;have f:p=[Δ x.2.2.1]:=f;have e:ao.rep (α:=List (Λ×Int)) false bu R w d3 x.2.2.2:=e;refine⟨⟨j,_,bu,bu,rfl,λ_ h=>h,λ_ h=>h,λ_ _ h _=>h,h1,m,_,bu,bu,rfl,λ_ h=>h,λ_ h=>h,λ_ _ h _=>h,a,p,d3,bu,bu,rfl,λ_ h=>h,λ_ h=>h,λ_ _ h _=>h,f,e⟩,?_⟩;obtain⟨u,rfl⟩:=W3.1 (show j.length=1 from ao.len h1);obtain⟨v,rfl⟩:=W3.1 (show m.length=1 from ao.len a);obtain⟨y,rfl⟩:=W3.1 (show d3.length=1 from ao.len e);obtain⟨_,_,_,rfl⟩:=lQ h1;obtain⟨_,_,_,rfl⟩:=lQ a;obtain⟨_,_,_,rfl⟩:=lQ e;subst f;rfl
theorem L0 {w0:x3} {g c:Nat} {A B:ak} {o:Option aD} {K:x1} {aE:x1->x3->Prop} (aG:gT w g gs A B clean o) (hi:∀s,o=σ s->dP s) (bp:(c:Int)<=aw)
  (bq:aF .i64 w K all) (aH:∀r,leads K r->r≠g/\r≠gs/\r<w.heap.size/\(o≠ν->¬A r)) (br:o≠ν-> ∀z∈all,1<=z/\z<=aw) (bt:all.length<=100001) (bw:eg w) (h1:1<w0.heap.size/\(o≠ν->cI g gs A B 1))
  (aI:ah (λr=>w0.heap.size<=r) w0 w) (bx:w0.heap.size<=g) (bz:w0.heap.size<=gs) (cl:g<w.heap.size/\gs<w.heap.size) (bA:o≠ν-> ∀r,A r->w0.heap.size<=r)
  (aK:∀L w' acc so aQ m aL aO,ah (λr=>w0.heap.size<=r) w0 w'->w.heap.size<=w'.heap.size->gT w' g gs aQ m clean so->ao.rep (α:=List ht) true aL aO w' [L] acc->(∀r,aL r\/aO r->r≠g/\r≠gs/\r<w'.heap.size)->aF .i64 w' K all->
   (∀q,fh (λ_ s=>c6 all s) c [] o=σ q->so=σ q.2/\acc=q.1.map gU)->(fh (λ_ s=>c6 all s) c [] o=ν->so=ν)->aE L w'):
 bX (.slice ν 0 0) (Δ 0) w λfuns aP ai bB=>
  cu (α:=x1->x3->Prop) (λ(bE:x1) (aR:x3)=>
   Split bE (am x7 zc [Γ g,K] aR λbF bG=>
  aC x7 (Y0 iO 1 #[(0,bF)]) bG λbH bI=>
  aC x7 (b8 #[iO,iO] iO #[funs,bH]) bI λbJ aS=>
  aa x7 (aJ .add ap false true aP (Δ 1)) aS λbK=>
  bB bJ bK aS) (aE funs aR)) λaT=>
  aa x7 (aJ .lss ap false false aP (Δ (c:Int))) ai λbL=>
  Split bL (am x7 kG [Γ g] ai λbM bN=>
  aT bM bN)
   (aT (.bool false) ai):=by
 unfold aw at bp;generalize f:fh (λ_ s=>c6 all s) c [] o=aU at aK;have aW:∀s,o=σ s->o≠ν:=λs h=>by rw[h];simp
 refine⟨λL aj U=>∃ (i:Nat) (acc:List ht) (E:List cv) (so:Option aD) (p H y M:ak),aj=Δ (i:Int)/\i<=c/\ah (λr=>w0.heap.size<=r) w0 U/\w.heap.size<=U.heap.size/\gT U g gs p H clean so/\ao.rep true y M U [L] acc/\
   aF .i64 U K all/\eg U/\aU=fh (λ_ s=>c6 all s) (c-i) E so/\(∀r,y r->w.heap.size<=r/\r<U.heap.size)/\(∀r,M r->r≠g/\r≠gs/\¬y r)/\
   ∀s,so=σ s->acc=E.map gU/\dP s/\E.length+s.toks.length<=100000/\o≠ν/\(∀r,p r->A r\/w.heap.size<=r)/\(∀r,p r->w0.heap.size<=r)/\(∀r,B r->H r)/\(∀r,y r->¬H r/\¬p r)/\(∀r,M r->cI g gs p H r),
  λ_ aj _=>c-(bU aj).toNat,⟨0,[],[],o,A,B,bu,bu,rfl,X3 _,aI,p8 _,aG,gS,bq,bw,f.symm,λ_ h=>h.elim,λ_ h=>h.elim,λs J=>⟨rfl,hi s J,?_,aW s J,λr e=>.inl e,bA (aW s J),λr e=>e,λ_ h=>h.elim,λ_ h=>h.elim⟩⟩,?_⟩
 .subst J;have an:df w g gs A B s clean:=aG;have:=an.2.1.words.1;simpa using this
 rintro L _ U ⟨i,acc,E,so,p,H,y,M,rfl,cm,bO,cn,aX,bP,aq,aZ,Y,C,bR,a1⟩;refine aV (λv a2=>Ext U a2/\((v= .bool true/\i<c/\ ∃st,so=σ st)\/(v= .bool false/\(so=ν\/i=c)))) ?_ ?_
 rotate_left
 .intro ay au;rw[aN,al];refine⟨λa6=>?_,λcp=>au _ _ ⟨Ext.refl _,.inr ⟨rfl,.inr Ω⟩⟩⟩;refine (BY aX).mono ?_;rintro _ a2 _ ⟨rfl,a7⟩;cases so with
  |none=>exact au _ _ ⟨a7,.inr ⟨rfl,.inl rfl⟩⟩
  |some st=>exact au _ _ ⟨a7,.inl ⟨rfl,Ω,st,rfl⟩⟩
 rintro _ V ⟨I,bS⟩;have cq:=I.size;have Q:=aX.ext I;have a8:=bW bP I;have ba:ah (λr=>w0.heap.size<=r) w0 V:=bO.trans (I.ab _);rcases bS with⟨rfl,a6,st,rfl⟩|⟨rfl,bT⟩
 rotate_left
 .rw[aY];have bb:aU=so.map λst=>(E,st):=by
   rcases bT with rfl|rfl
   .exact Y
   .rw[V6] at Y;rw[Y];cases so<;>rfl
  refine aK L V acc so p H y (λr=>M r/\r<V.heap.size) ba Ω Q (ao.mono a8 (λ_ _ h=>h) λr e h=>⟨h,e⟩) (λr e=>?_) (aq.ext I) (λq G=>?_) λbc=>?_
  .rcases e with e|e
   .have:=C r e;exact⟨Ω,Ω,Ω⟩
   .have:=bR r e.1;exact⟨this.1,this.2.1,e.2⟩
  .rw[bb] at G;cases so with
   |none=>cases G
   |some st=>cases G;exact⟨rfl,(a1 _ rfl).1⟩
  .rw[bb] at bc;cases so with
   |none=>rfl
   |some st=>cases bc
 rw[bQ];obtain⟨rfl,bd,cr,Z,be,av,bf,ad,bg⟩:=a1 st rfl;have Q:df V g gs p H st clean:=Q;obtain⟨ct,cw,cz,cA,cB⟩:=Q.1;have bV:=h1.2 Z;have bh:cI g gs p H 1:=⟨λf=>by
  rcases f with f|f|f
  .omega
  .omega
  .have:=av 1 f;omega,bf 1 bV.2⟩
 have bi:∀r,leads K r->¬bD g gs p r/\r<V.heap.size:=λr e=>by
  obtain⟨bZ,b0,b1,b2⟩:=aH r e;refine⟨λf=>?_,Ω⟩;rcases f with f|f|f
  .exact bZ f
  .exact b0 f
  .rcases be r f with h|h
   .exact b2 Z h
   .omega
 refine (Lr Q bd (aq.ext I) bi (br Z) bt (aZ.ext I) bh).mono ?_;rintro _ b3 _ ⟨aQ,m,cs,ax,rfl,cC,S,W,az,bj,bk,b4,b5⟩;have z3:=S.size;obtain⟨bl,b6⟩:=LZ b4;refine jw (α:=ht) (a:=ax) (cs:=cs) (A:=bu) (R:=cI g gs aQ m) iO.u bY.i Φ b6 bl λu ae N _ hu=>?_;have z4:=N.size;have b7:∀r,r<V.heap.size->y r\/M r->¬bD g gs p r:=λr e h f=>by
  rcases h with h|h
  .have j:=C r h;rcases f with f|f|f
   .omega
   .omega
   .exact (ad r h).2 f
  .exact (bg r h).1 f
 have b9:∀r,r<V.heap.size->cI g gs p H r->cI g gs aQ m r:=λr e h=>⟨λf=>h.1 (f.imp id (Or.imp id λf=>(W r f).elim id λh'=>Ω)),bj r h.2⟩;have ca:bC y (cI g gs aQ m) ae [L] (E.map gU):=bW (ao.ab (ao.mono (S':=y) (R':=λr=>cI g gs aQ m r/\M r) a8 (λ_ _ h=>h) λr e h=>⟨b9 r e (bg r h),h⟩) S λr e h=>b7 r e (h.imp id λh=>h.2) |> λh=>h) N |> λh=>ao.mono h (λ_ _ h=>h) λ_ _ h=>h.1;have af:∀r,y r->¬m r:=λr h ag=>by
  have j:=C r h;rcases (az r ag).1 with O|O
  .exact (ad r h).1 O
  .have aA:=(C r h).2;omega
 have cD:(E.map gU).length=E.length:=Ξ
 refine mi (α:=ht) (a:=ax) (A:=bu) iO.u bY.i rfl ca hu (bW bl N) (λr _ cb h=>?_) Ω Ω λcE P cc X=>?_
 .rcases h with h|h
  .exact h
  .exact af r cb h.2
 have z5:=X.size;rw[aM,wrap_i64 Ω Ω];have cd:ah (λr=>w0.heap.size<=r) w0 ae:=(ba.trans (S.mono λr _ f=>by
  rcases f with rfl|rfl|f
  .exact bx
  .exact bz
  .exact av r f)).trans (N.ab _)
 have z0:=aI.size;have ce:ah (λr=>w0.heap.size<=r) w0 P:=cd.trans (X.mono λr _ h=>by have:=(C r h).1;omega);have cg:aF .i64 ae K all:=(hI (aq.ext I) S λr e a n c ac aB=>(bi r ⟨a,n,c,ac,aB⟩).1 e).ext N;have ch:aF .i64 P K all:=hI cg X λr e a n c ac aB=>by
  have b1:=(aH r ⟨a,n,c,ac,aB⟩).2.2.1;have:=(C r e).1;omega
 have ci:eg P:=(((aZ.ext I).ab S bh.1).ext N).ab X λh=>by have:=(C 1 h).1;omega
 have bm:gT P g gs aQ m clean ((c6 all st).map (·.2)):=by
  refine gT.ab (bk.ext N) X (λh=>by have:=C _ h;omega) (λr e cF h=>?_) (λr e h=>af r h e.2);have j:=C r h;rcases e with rfl|rfl|e
  .omega
  .omega
  .rcases W r e with O|O
   .exact (ad r h).2 O
   .omega
 have cj:=lI cc;refine⟨⟨i+1,(E.map gU)++[ax],E++((c6 all st).map (·.1)).toList,(c6 all st).map (·.2),aQ,m,λr=>(y r\/bu r\/ae.heap.size<=r)/\r<P.heap.size,cI g gs aQ m,rfl,Ω,ce,Ω,bm,cj,ch,ci,?_,λr e=>⟨?_,e.2⟩,λr e=>⟨λh=>e.1 (.inl h),λh=>e.1 (.inr (.inl h)),λh=>?_⟩,λs' ck=>?_⟩,by simp only[bU];omega⟩
 .rw[Y,show c-i=(c-(i+1))+1 by omega,Cq];cases G:c6 all st with
  |none=>rfl
  |some q=>rfl
 .rcases e.1 with h|h|h
  .exact (C r h).1
  .exact h.elim
  .omega
 .rcases h.1 with j|j|j
  .exact af r j e.2
  .exact j
  .have:=(az r e.2).2;omega
 .obtain⟨q,G,rfl⟩:=Y5.1 ck;have j:=LY (s':=q.2) (x:=q.1) bd G;have O:=b5 q G;refine⟨?_,j.1,?_,Z,λr e=>?_,λr e=>?_,λr e=>bj r (bf r e),λr e=>⟨λag=>?_,λbn=>?_⟩,λr e=>e⟩
  .rw[G,O];simp
  .rw[G];simp only[Z3,l7,p9,R2];omega
  .rcases W r e with h|h
   .exact be r h
   .exact .inr Ω
  .rcases W r e with h|h
   .exact av r h
   .omega
  .rcases e.1 with j|j|j
   .exact af r j ag
   .exact j
   .have:=(az r ag).2;omega
  .have cG:gT P g gs aQ m clean ((c6 all st).map (·.2)):=bm;have bo:=bk;rw[G] at bo;have an:df b3 g gs aQ m q.2 clean:=bo;have a6:=an.1.2.2.2.1 r (.inr (.inr bn));rcases e.1 with j|j|j
   .rcases W r bn with aA|aA
    .exact (ad r j).2 aA
    .have:=(C r j).2;omega
   .exact j
   .omega
theorem dP.num {lo hi n:Int} {s s':aD} (e:dP s) (h:bf lo hi s=σ (n,s')):dP s':=λa=>by
 have h1:=(dB h).eqs;rw[h1.1];rw[h1.2.1] at a;exact e a
theorem dP.big {b:Bool} {s:aD} (h:dP s):dP (bd b s):=λa=>by
 have a:(s.big||b)=false:=a;exact h (T4.1 a).1
theorem dP.word {w:Λ} {s s':aD} (h:dP s) (hw:dL s=σ (w,s')):dP s':=λa=>by
 have h1:=(sg hw).2;rw[h1] at a ⊢;exact h a
theorem L1 {most:Int} {s s':aD} (hi:dP s) (hm:most<=aw) (h:cN (fP most) N [] s=σ (l,s')):dP s'/\(∀z∈l,1<=z/\z<=aw)/\l.length+s'.toks.length<=s.toks.length:=by
 have:=ka (f:=fP most) (λacc t=>dP t/\(∀z∈acc,1<=z/\z<=aw)/\acc.length+t.toks.length<=s.toks.length) (λacc t a bw ⟨h1,j,r⟩ g=>by
  unfold fP at g;cases e:bf 1 most t with
  |none=>rw[e] at g;cases g
  |some q=>
   obtain⟨z,m⟩:=q;rw[e] at g;simp only[Y8,S0] at g;obtain⟨rfl,rfl⟩:=g;have w:=(hJ e).1;have y:=(dB e).1;refine⟨(h1.num e).big,λx I=>?_,?_⟩
   .rcases o7.1 I with I|I
    .exact j x I
    .rw[o9.1 I];omega
   .simp only[p9,R2];show acc.length+1+m.toks.length<=_;omega) N [] s l s' ⟨hi,λz p=>(by cases p),Ξ⟩ h
 exact this.1
theorem L2 {s0:aD} {name:Λ} {n most cnt:Int} {so6:Option aD}
  (h1:∀q,dL s0=σ q->name=q.1)
  (m:∀q,bb 1 aw (((dL s0).map (·.2)).map (bd (decide (64<(name.length:Int)))))=σ q->n=q.1)
  (j:∀q,bb 1 aw (((bb 1 aw (((dL s0).map (·.2)).map (bd (decide (64<(name.length:Int)))))).map (·.2)).map (bd (decide (64<n))))=σ q->most=q.1)
  (h:∀q,bb 0 aw ((bb 1 aw (((bb 1 aw (((dL s0).map (·.2)).map (bd (decide (64<(name.length:Int)))))).map (·.2)).map (bd (decide (64<n))))).map (·.2))=σ q->cnt=q.1)
  (f:∀q,bb 1 aw (((bb 0 aw ((bb 1 aw (((bb 1 aw (((dL s0).map (·.2)).map (bd (decide (64<(name.length:Int)))))).map (·.2)).map (bd (decide (64<n))))).map (·.2))).map (·.2)).map (bd (decide (256<cnt))))=σ q->k=q.1)
  (e:∀q,fh (fP most) n.toNat [] (((bb 1 aw (((bb 0 aw ((bb 1 aw (((bb 1 aw (((dL s0).map (·.2)).map (bd (decide (64<(name.length:Int)))))).map (·.2)).map (bd (decide (64<n))))).map (·.2))).map (·.2)).map (bd (decide (256<cnt))))).map (·.2)).map (bd (decide (2147483648<k))))=σ q->so6=σ q.2/\sizes=q.1)
  (a:fh (fP most) n.toNat [] (((bb 1 aw (((bb 0 aw ((bb 1 aw (((bb 1 aw (((dL s0).map (·.2)).map (bd (decide (64<(name.length:Int)))))).map (·.2)).map (bd (decide (64<n))))).map (·.2))).map (·.2)).map (bd (decide (256<cnt))))).map (·.2)).map (bd (decide (2147483648<k))))=ν->so6=ν):
  hG s0=(fh (λ_ s=>c6 sizes s) cnt.toNat [] so6).map λq=>((⟨name,k,sizes,q.1⟩:bZ),q.2):=by
 unfold hG;cases y:dL s0 with
 |none=>
  rw[y] at a;rw[a rfl];rfl
 |some K=>
 obtain⟨Y,L⟩:=K;rw[y] at h1 m j h f e a;have:=h1 _ rfl;subst this;have M:decide (64<(name.length:Int))=decide (64<name.length):=by rw[V5,decide_eq_true_eq,decide_eq_true_eq];omega
 rw[M] at m j h f e a;simp only[Z3] at m j h f e a ⊢;generalize bd (decide (64<name.length)) L=r at*;cases z:bf 1 aw r with
 |none=>
  rw[show bb 1 aw (σ r)=ν from z] at a;rw[a rfl];rfl
 |some N=>
 obtain⟨O,A⟩:=N;rw[show bb 1 aw (σ r)=σ (O,A) from z] at m j h f e a;have:=m _ rfl;subst this;simp only[Z3] at j h f e a ⊢;generalize bd (decide (64<n)) A=w at*;cases B:bf 1 aw w with
 |none=>
  rw[show bb 1 aw (σ w)=ν from B] at a;rw[a rfl];rfl
 |some P=>
 obtain⟨Q,p⟩:=P;rw[show bb 1 aw (σ w)=σ (Q,p) from B] at j h f e a;have:=j _ rfl;subst this;simp only[Z3] at h f e a ⊢;cases C:bf 0 aw p with
 |none=>
  rw[show bb 0 aw (σ p)=ν from C] at a;rw[a rfl];rfl
 |some R=>
 obtain⟨S,E⟩:=R;rw[show bb 0 aw (σ p)=σ (S,E) from C] at h f e a;have:=h _ rfl;subst this;simp only[Z3] at f e a ⊢;generalize bd (decide (256<cnt)) E=x at*;cases F:bf 1 aw x with
 |none=>
  rw[show bb 1 aw (σ x)=ν from F] at a;rw[a rfl];rfl
 |some T=>
 obtain⟨U,G⟩:=T;rw[show bb 1 aw (σ x)=σ (U,G) from F] at f e a;have:=f _ rfl;subst this;simp only[Z3] at e a ⊢;generalize bd (decide (2147483648<k)) G=V at*;cases H:cN (fP most) n.toNat [] V with
 |none=>
  rw[a H];rfl
 |some W=>
 obtain⟨Z,I⟩:=W;obtain⟨J,X⟩:=e _ H;subst X;rw[J];simp only;show _=V4 _ (cN (λ_ s=>c6 sizes s) cnt.toNat [] I);cases cN (λ_ s=>c6 sizes s) cnt.toNat [] I<;>rfl
theorem L3 {f:bZ} (ae:e8 N f) (h:N<=60000):∀x∈f.funs,sO f.k x:=λx I=>by
 obtain⟨h1,e,j⟩:=ae.funs x I;refine⟨ae.k,⟨?_,λz a=>?_⟩,h1.other,h1.lines,by have:=h1.len;omega,Ω⟩
 .rw[h1.sizes,u7];exact e
 .rw[h1.sizes] at a;obtain⟨v,ac,rfl⟩:=n9.1 a;have:=h1.scope.2 v ac;refine ae.sizes.2.2 _ ?_;rw[v8,x6 Ω];exact T9 _
theorem L4 {p:x1} {pl:Λ} (O:aF .u8 w p pl) (aJ:Bytes pl) (bL:pl.length<=60000) (ac:eg w):am x7 FW [p] w (Cp w (gm pl)):=by
 have aK:1<w.heap.size:=by
  have:=ac 0 (.int .u64 1) rfl;obtain⟨c,e,f,aL,_⟩:=uY this;exact (o8.1 aL).1
 have bN:aw=4611686018427387904:=rfl;refine az func26 ?_;rw[aU cM.u O,bR,al];refine⟨λh=>Ω,λ_=>?_⟩;refine (Ax O aJ Ω).mono ?_;rintro _ U _ ⟨ad,gs,rfl,bO,aM,P⟩;rw[dn (cs:=#[Γ gs,Δ 0,Δ 0,Δ 0,Δ 0,Δ 0,.slice ν 0 0]) Ψ];refine bo λg V bP Q ae=>?_;have bQ:=ad.size;have bS:=Q.size;have aN:=ae.lt;have bT:gs<U.heap.size:=P.2.2.2.1.lt;have bU:=pY _ pl (p8 _);let s0:aD:=⟨(lex pl).1,0,false,[]⟩;let B0:ak:=λr=>r<U.heap.size;have aO:df V g gs bu B0 s0 (lex pl).2:=by
  refine⟨⟨Ω,λh=>h,λh=>h,λr j=>?_,λr j=>by have j:r<U.heap.size:=j;omega⟩,⟨aM,pl,0,P.ext Q,λr j=>?_,by rw[List.drop_zero]⟩,⟨by show (0:Int)<=0;omega,by show (0:Int)<=aw;omega,by show (([]:List (Λ×List (Λ×Int))).length+(lex pl).1.length<=100000);simp;omega⟩,0,0,0,0,.slice ν 0 0,ae,⟨by simp[s0],λ_=>rfl⟩,gS (α:=iu)⟩
  .rcases j with rfl|rfl|j
   .exact aN
   .omega
   .exact j.elim
  .obtain⟨_,_,_,I,bm,hm⟩:=P;have E:=bM hm j;have G:=b4 hm I Φ j;exact⟨λA=>by
    rcases A with A|A|A
    .omega
    .exact G A
    .exact A,by show r<U.heap.size;omega⟩
 have R:∀r,bD g gs bu r->w.heap.size<=r:=λr j=>by
  rcases j with rfl|rfl|j
  .omega
  .omega
  .exact j.elim
 refine (Be aO).mono ?_;rintro _ bV _ ⟨y,name,bW,rfl,bX,bY,aP⟩;obtain⟨aR,aS⟩:=fQ.of y;rw[bi,bj,nt c0.u,bR];refine (qq aS).mono ?_;rintro _ b0 _ y;obtain⟨aT,aV⟩:=y.of;refine (lP (lo:=1) (hi:=aw) aV).mono ?_;rintro _ b1 _ ⟨y,n,b2,rfl,af,aW⟩;obtain⟨aX,aY⟩:=y.of;rw[bi,bj,bR];refine (qq aY).mono ?_;rintro _ b3 _ y;obtain⟨aZ,a1⟩:=y.of;refine (lP (lo:=1) (hi:=aw) a1).mono ?_;rintro _ b5 _ ⟨y,most,b6,rfl,ag,a2⟩;obtain⟨a6,a7⟩:=y.of;rw[bi,bj];refine (lP (lo:=0) (hi:=aw) a7).mono ?_;rintro _ b7 _ ⟨y,cnt,b8,rfl,ai,a8⟩;obtain⟨ba,bc⟩:=y.of;rw[bi,bj,bR];refine (qq bc).mono ?_;rintro _ b9 _ y;obtain⟨be,bf⟩:=y.of;refine (lP (lo:=1) (hi:=aw) bf).mono ?_;rintro _ ca _ ⟨y,k,cb,rfl,hk,cc⟩;obtain⟨bg,bh⟩:=y.of;rw[bi,bj,bR];refine (qq bh).mono ?_;rintro _ aj _ y;obtain⟨bk,S⟩:=y.of;have an:ah (bD g gs bu) V aj:=(((((((aR.trans aT).trans aX).trans aZ).trans a6).trans ba).trans be).trans bg).trans bk;have W:∀ {lo:Int} {o:Option aD} {x:Int},0<=lo->lo<=1->(∀q,bb lo aw o=σ q->x=q.1)->(bb lo aw o=ν->x=0)->0<=x/\x<=aw:=λ{lo o x} cd h1 J bl=>by
  cases a:bb lo aw o with
  |none=>rw[bl a];omega
  |some q=>
   have E:=mw (n:=q.1) (s':=q.2) a;rw[J q a];omega
 have ce:=W Ω Ω af aW;have cg:=W Ω Ω ai a8;have ch:=W Ω Ω ag a2;obtain⟨N,bn⟩:∃N:Nat,n=(N:Int):=⟨n.toNat,Ω⟩;obtain⟨C,bp⟩:∃C:Nat,cnt=(C:Int):=⟨cnt.toNat,Ω⟩;have bq:n.toNat=N:=Ω
 have br:cnt.toNat=C:=Ω
 have bt:dP s0:=λ_=>by show (0:Int)<=16384;omega
 have K:∀ {o:Option aD} {b:Bool},(∀s,o=σ s->dP s)-> ∀s,o.map (bd b)=σ s->dP s:=λh s J=>by
  obtain⟨t,X,rfl⟩:=Y5.1 J;exact (h t X).big
 have L:∀ {o:Option aD} {lo hi:Int},(∀s,o=σ s->dP s)-> ∀s,(bb lo hi o).map (·.2)=σ s->dP s:=λ{o lo hi} h s J=>by
  obtain⟨q,a,rfl⟩:=Y5.1 J;cases o with
  |none=>cases a
  |some t=>exact (h t rfl).num (n:=q.1) (s':=q.2) a
 have bw:∀s,(dL s0).map (·.2)=σ s->dP s:=λs J=>by
  obtain⟨q,a,rfl⟩:=Y5.1 J;exact bt.word (w:=q.1) (s':=q.2) a
 have ao:=K (b:=decide (2147483648<k)) (L (lo:=1) (hi:=aw) (K (b:=decide (256<cnt)) (L (lo:=0) (hi:=aw) (L (lo:=1) (hi:=aw) (K (b:=decide (64<n)) (L (lo:=1) (hi:=aw) (K (b:=decide (64<(name.length:Int))) bw)))))));have m:=λ(sizes:Λ) (so6:Option aD)=>L2 (s0:=s0) (name:=name) (sizes:=sizes) (n:=n) (most:=most) (cnt:=cnt) (k:=k) (so6:=so6) aP af ag ai hk;rw[bq] at m;generalize ci:V4 (bd (decide (2147483648<k))) (V4 (λx=>x.2) (bb 1 aw (V4 (bd (decide (256<cnt))) (V4 (λx=>x.2) (bb 0 aw (V4 (λx=>x.2) (bb 1 aw (V4 (bd (decide (64<n))) (V4 (λx=>x.2) (bb 1 aw (V4 (bd (decide (64<(name.length:Int)))) (V4 (λx=>x.2) (dL s0)))))))))))))=ap at ao S m;rw[bn];refine LV (N:=N) (most:=most) S Ω λszv Y sizes so6 gz bx aq au cj bz av ax=>?_;have m:=m sizes so6 av ax;rw[br] at m;have Z:ah (bD g gs bu) V Y:=an.trans bx;have z12:=Z.size;have ay:Ext w V:=ad.trans Q;have bA:ah (λr=>w.heap.size<=r) w Y:=(ay.ab _).trans (Z.mono λr _ h=>R r h);have ck:=aq.side;have aA:∀H,so6=σ H->dP H/\(∀z∈sizes,1<=z/\z<=aw)/\sizes.length<=100000:=λH aa=>by
  cases a:fh (fP most) N [] ap with
  |none=>rw[ax a] at aa;cases aa
  |some q=>
   obtain⟨E,G⟩:=av q a;cases aa.symm.trans E;subst G;cases ap with
   |none=>cases a
   |some bB=>
    obtain⟨bC,bE,cl⟩:=L1 (l:=q.1) (s':=q.2) (ao bB rfl) Ω a;exact⟨bC,bE,by have:=S.words;omega⟩
 rw[bp];have aB:∀r,leads szv r->aj.heap.size<=r/\r<Y.heap.size:=λr j=>by have:=bM au j;omega
 have cm:=an.size;refine L0 (w0:=w) (c:=C) (all:=sizes) aq.q (λs J=>(aA s J).1) Ω au.ls (λr j=>?_) (λM=>?_) bz ((ac.ext ay).ab Z λA=>by have:=R 1 A;omega) ⟨aK,λ_=>⟨λA=>by have:=R 1 A;omega,by show 1<U.heap.size;omega⟩⟩
  bA Ω Ω ⟨Ω,Ω⟩ (λ_ r h=>h.elim) λcn cp acc so aQ cq cr ct aC cu bF bG bH bI aE bJ=>?_
 .have:=aB r j;exact⟨Ω,Ω,Ω,λ_ h=>h⟩
 .cases aG:so6 with
  |none=>exact absurd aG M
  |some H=>exact (aA H aG).2.1
 have cw:=aC.size;have B:gm pl=match hG s0 with
   |none=>ν
   |some (f,s)=>if s.toks=[]/\(lex pl).2=true/\s.big=false then σ f else ν:=by
  unfold gm;rw[if_neg Ω];have e:hG ⟨(lex pl).1,0,false,[]⟩=hG s0:=rfl;rw[e];cases hG s0<;>rfl
 refine LU (w0:=w) (sizes:=sizes) (res:=gm pl) bF ⟨λs J X bK I=>?_,λM=>?_⟩ bI (λr j=>by have:=aB r j;exact⟨Ω,Ω⟩) bG bH (λ_=>trivial) Ω Ω aC Ω Ω O λv w' h=>h
 .cases a:fh (λ_ s=>c6 sizes s) C [] so6 with
  |none=>rw[bJ a] at J;cases J
  |some q=>
   obtain⟨E,G⟩:=aE q a;cases J.symm.trans E;rw[a] at m;have m:hG s0=σ ((⟨name,k,sizes,q.1⟩:bZ),q.2):=m;have aH:=(Bb rfl m I).1;rw[m] at B;simp only at B;rw[if_pos ⟨X,bK,I⟩] at B;exact⟨q.1,G,B,L3 aH (by show (lex pl).1.length<=60000;omega),aH.kS,Ω⟩
 .cases a:fh (λ_ s=>c6 sizes s) C [] so6 with
  |none=>
   rw[a] at m;have m:hG s0=ν:=m;rw[m] at B;exact absurd B M
  |some q=>
   obtain⟨E,G⟩:=aE q a;rw[a] at m;have m:hG s0=σ ((⟨name,k,sizes,q.1⟩:bZ),q.2):=m;rw[m] at B;simp only at B;by_cases aI:q.2.toks=[]/\(lex pl).2=true/\q.2.big=false
   .exact⟨q.2,E,aI⟩
   .rw[if_neg aI] at B;exact absurd B M
theorem vY (s t cs:Λ):∃e,oG s t cs= .tuple #[Δ (bn s cs t),Δ e]:=by
 unfold oG bn;cases cJ s t 0 with
 |none=>exact⟨3,rfl⟩
 |some n=>exact⟨0,rfl⟩
theorem L5:am x7 zq [sv] w λr w'=>Ext w w'/\ ∃g,r= .func (.func ov) #[] #[Γ g]/\w.heap.size<=g/\af w' g an sv.cells.toList:=by
 refine az func200 ?_;refine bo λg U f a e=>?_;rw[iR];exact⟨a,g,rfl,Ω,e⟩
theorem L6 {f:R4} {cap:Array x1} {y:Nat->List x1->x3->Prop} {e:x3->Prop} {L:Λ} (M:oj x7 f cap.toList n y e) (z:∀k vs w,y k vs w-> ∃x,L[k]? =σ x/\vs=[Δ x])
  (he:∀a b,ah (λr=>w.heap.size<=r) a b->e a->e b) (N:e w) (O:n=L.length) (al:L.length<=1000000):
  am x7 Iy [.slice ν 0 0,.func (.func f) #[] cap] w λv w'=>Ext w w'/\ ∃g,w.heap.size<=g/\au .i64 ai w' g v L:=by
 refine iQ func264 ?_;refine bo λgs U ao A j=>?_;have j:af U gs an [.slice ν 0 0]:=j;have ap:=j.lt;have B:∀ {a b:x3},Ext a b->e a->e b:=λI=>he _ _ (I.ab _);refine ln.old ⟨Nat,false,f,cap,0,_,_,e,λk w'=>ah (λr=>w.heap.size<=r) w w'/\ ∃v g,gs<g/\af w' gs an [v]/\au .i64 ai w' g v (L.take k),λ_ _ _=>False,rfl,M.s,?_,λ_ _ I h=>B I h,
  λ_ _ _ I h=>⟨h.1.trans (I.ab _),by obtain⟨v,g,h1,P,Q⟩:=h.2;exact⟨v,g,h1,P.ext I,Q.ext I⟩⟩,λ_ _ _ _ _ h=>h,B A N,⟨A.ab _,_,gs+1,Ω,j,au.nil _ _ _ _⟩,?_,?_,λ_ _ h=>h.elim,λ_ _ _ h=>h.elim⟩
 .rintro k vs aq w' ⟨_,_,h⟩;obtain⟨x,_,rfl⟩:=z k vs w' h;rfl
 .rintro a k _ V hR ⟨hk,rfl,S⟩ ⟨W,v,g,X,C,ac⟩;obtain⟨x,I,Y⟩:=z k _ V S;cases Y;intro av m _ _;have E:=C.ext m;rw[aA Ψ (E.Qz rfl)];refine eo an.u ai.i rfl λa ga aw ax p Z=>?_;have ay:(L.take k).length<=1000000:=Θ
  refine iT an.u ai.i rfl ((ac.ext m).ext p) Z.ls (by simp only[c7,List.length_nil];omega) (by simp only[c7,List.length_nil];omega) λaa ad az aB q G=>?_;have aC:=C.lt;have aD:=m.size;have aE:=p.size;refine bt an.i q.ls.cells.1 q.ls.cells.2 (((E.ext p).ab G Ω)) Ξ λae H aF ag=>?_;have J:ah (λr=>w.heap.size<=r) V ae:=(((m.trans p).ab _).trans (G.mono λr _ h=>by show w.heap.size<=r;omega)).trans (H.mono λr _ h=>by show w.heap.size<=r;omega);refine⟨he _ _ J hR,⟨W.trans J,aa,ad,Ω,ag,?_⟩,λh=>by cases h⟩;rw[u9,I];exact q.ab H (λ_=>Ω)
 .rintro k aG hk ⟨aj,v,g,X,ak,ac⟩;have hk:k=n:=hk;subst hk;rw[aA Ψ (ak.Qz rfl)];intro aH K _;rw[O,o5] at ac;exact⟨(aj.ext λr aI h=>by have:w.heap.size<=r:=h;omega).trans K,g,Ω,ac.ext K⟩
theorem L7 {f:R4} {cap:Array x1} {j:Nat->List x1->x3->Prop} {e:x3->Prop} {L:Λ} (m:oj x7 f cap.toList n j e) (p:∀k vs w,j k vs w-> ∃x,L[k]? =σ x/\vs=[Δ x])
  (he:∀a b,ah (λr=>w.heap.size<=r) a b->e a->e b) (q:e w) (s:n=L.length) (y:L.length<=1000000):
  am x7 Ij [.func (.func f) #[] cap] w λv w'=>Ext w w'/\ ∃g,w.heap.size<=g/\au .i64 ai w' g v L:=by
 refine az func236 ?_;exact (L6 m p he q s y).mono λ_ _ _ h=>h
theorem L8 {x:Int}:am x7 cmp_Less_int [Δ x,Δ y] w λv w'=>v= .bool (decide (x<y))/\Ext w w':=by
 refine az func287 ?_;refine aV (λv U=>v= .bool (decide (x<y))/\Ext w U) (λ_ _ h=>h) λay a=>?_;have e:∀ {z:Int} {w:x3},am x7 cmp_isNaN_int [Δ z] w λv w'=>v= .bool false/\Ext w w':=λ{z w}=>by
  refine az func212 ?_;simp only[bz];exact⟨Ξ,Ext.refl _⟩
 refine e.mono ?_;rintro _ V _ ⟨rfl,f⟩;rw[aY];simp only[aN];exact a _ _ ⟨rfl,f⟩
theorem L9 {P:W0} {t:r8} {cx cy:Bool} {k:o4} {a b:Int}:cC P (aJ .sub t cx cy (.int k a) (.int k b)) (.int k (k.wrap (a-b))) w:=λw' _=>by simp[aJ,eqGuard,binOp,Op.intArith]
theorem Ma {g:Nat} (h:au .i64 ai w g sv l) (ak:l.length<=1000000):
  am x7 IF [sv,Δ 0,Δ l.length] w λ_ w'=>ah (λr=>r=g) w w'/\ ∃m,m.Perm l/\m.Pairwise (·<= ·)/\au .i64 ai w' g sv m:=by
 refine az func281 ?_;simp only[aM];refine⟨λt U=>∃ (i:Nat) (m:Λ),t=Δ i/\1<=i/\(i<=l.length\/i=1)/\m.Perm l/\qc m i/\ah (λr=>r=g) w U/\au .i64 ai U g sv m,λt _=>l.length+1-(bU t).toNat,
  ⟨1,l,by congr 1,Ω,.inr rfl,.refl _,λp q x y h1 R=>Ω,ah.refl _ _,h⟩,?_⟩
 rintro _ U ⟨i,m,rfl,ao,ap,z,I,J,hm⟩;have S:=z.length_eq;simp only[aN,al];refine⟨λW=>?_,λaq=>?_⟩
 .have W:i<l.length:=Ω
  refine⟨λt V=>∃ (j:Nat) (m:Λ),t=Δ j/\j<=i/\m.Perm l/\oR m i j/\ah (λr=>r=g) w V/\au .i64 ai V g sv m,λt _=>(bU t).toNat,⟨i,m,rfl,p8 _,z,JT I,J,hm⟩,?_⟩;rintro _ V ⟨j,m,rfl,X,z,E,K,hm⟩;have S:=z.length_eq;refine aV (λv L=>Ext V L/\ ∃c,v= .bool c/\(c=true->0<j/\ ∃a b,m[j-1]? =σ a/\m[j]? =σ b/\b<a)/\(c=false->j=0\/0<j/\ ∃a b,m[j-1]? =σ a/\m[j]? =σ b/\a<=b)) ?_ ?_
  .rintro _ L ⟨B,c,rfl,Y,Z⟩;rw[cb];refine⟨λh=>?_,λh=>?_⟩
   .obtain⟨A,a,b,f,s,G⟩:=Y h;intro av M _ _;have C:=(hm.ext B).ext M;have e:X2.wrap ((j:Int)-1)=((j-1:Nat):Int):=by rw[wrap_i64 Ω Ω];omega
    simp only[dJ,e];rw[be an.u ai.i Ψ C.ls f,be an.u ai.i Ψ C.ls s,hn rfl an.u ai.i C Ω];refine ho ai.i C Ω λaa ac aw N=>⟨.inr ⟨by have:=L9 (P:=x7) (w:=aa) (t:=ai) (cx:=false) (cy:=true) (k:=.i64) (a:=(j:Int)) (b:=1);rwa [e] at this,trivial⟩,?_⟩;rw[hn rfl an.u ai.i N Θ];refine ho ai.i N Θ λax ad aA ae=>?_;refine⟨⟨j-1,_,rfl,Ω,(swap_perm Ω f s).trans z,JW E A X f s G,((K.trans ((B.trans M).ab _)).trans ac).trans ad,ae⟩,?_⟩;simp only[bU];omega
   .simp only[aM];rw[wrap_i64 Ω Ω];refine⟨⟨i+1,m,rfl,Ω,.inl Ω,z,?_,K.trans (B.ab _),hm.ext B⟩,?_⟩
    .rcases Z h with rfl|⟨A,a,b,f,s,G⟩
     .exact JU E
     .exact JV E A f s G
    .simp only[bU];omega
  .intro ay O aB H _ _;have Q:=hm.ext H;simp only[bR,al];refine⟨λA=>?_,λA=>O _ _ ⟨H,false,rfl,(λh=>by cases h),λ_=>.inl Ω⟩⟩;have e:X2.wrap ((j:Int)-1)=((j-1:Nat):Int):=by rw[wrap_i64 Ω Ω];omega
   obtain⟨b,s⟩:=aH (l:=m) (i:=j) Ω;obtain⟨a,f⟩:=aH (l:=m) (i:=j-1) Ω;rw[be an.u ai.i Ψ Q.ls s];simp only[dJ,e];rw[be an.u ai.i Ψ Q.ls f];refine L8.mono ?_;rintro _ aC _ ⟨rfl,af⟩;refine O _ _ ⟨H.trans af,_,rfl,λh=>⟨Ω,a,b,f,s,by simpa using h⟩,λh=>.inr ⟨Ω,a,b,f,s,by simpa using h⟩⟩
 .refine⟨J,m,z,JX λp q x y h1 R ag aj=>I p q x y h1 Ω ag aj,hm⟩
theorem Mb {P:W0} {t:r8} {k:o4} {s:ByteArray} {i:Nat} {K:x1->Prop} (a:P.underlying t=σ .string) (hi:i<s.size) (e:∀b:Nat,b<256->K (.int .u8 b)):
  aa P (Instr.index t (.string s) (.int k (i:Int))) w K:=by
 have f:s[i]? =σ s[i]:=by simp[hi]
 have:aa P (Instr.index t (.string s) (.int k (i:Int))) w K=K (.int .u8 s[i].toNat):=aa.of λw' _=>by
  simp[Instr.index,asIntOf,run_underlying a,hi]
 rw[this];exact e _ (UInt8.toNat_lt _)
theorem Mc (a:n<256):am x7 H3 [.int .u64 (n:Int)] w λv w'=>(∃r,v=Δ r)/\Ext w w':=by
 refine az func211 ?_;refine am.mono (K:=λv w'=>(∃r,v=Δ r)/\Ext w w') ?_ (λ_ _ _ h=>h);refine az func253 ?_;simp only[cu,cO,al];refine⟨λh=>Ω,λ_=>⟨λh=>Ω,λ_=>⟨λh=>Ω,λ_=>?_⟩⟩⟩;rw[eW fs.u cD.u,wrap_u8 Ω Ω];refine Mb c0.u (by exact R8 a Φ) λb e=>?_;rw[eW cD.u ai.u];simp only[aM];exact⟨⟨_,rfl⟩,Ext.refl _⟩
theorem Md {g:Nat} (h:au .i64 ai w g sv l) (f:l.length<=12):
  am x7 Ik [sv] w λ_ w'=>ah (λr=>r=g) w w'/\ ∃m,m.Perm l/\m.Pairwise (·<= ·)/\au .i64 ai w' g sv m:=by
 refine az func237 ?_;rw[aU an.u h.ls,eW ai.u oz.u,wrap_u64 Ω Ω];refine (Mc (n:=l.length) Ω).mono ?_;rintro _ U _ ⟨⟨r,rfl⟩,e⟩;refine am.mono (K:=λ_ w'=>ah (λr=>r=g) U w'/\ ∃m,m.Perm l/\m.Pairwise (·<= ·)/\au .i64 ai w' g sv m) ?_ (λ_ _ _ h=>⟨(e.ab _).trans h.1,h.2⟩);refine az func265 ?_;refine⟨λa b _ _ _ V=>a=Δ 0/\b=Δ l.length/\U=V,λ_ _ _ _ _ _=>0,⟨rfl,rfl,rfl⟩,?_⟩;rintro _ _ _ _ _ _ ⟨rfl,rfl,rfl⟩;simp only[dJ,lC,al];rw[wrap_i64 Ω Ω];refine⟨λ_=>?_,λh=>Ω⟩;refine (Ma (h.ext e) Ω).mono ?_;exact λ_ _ _ h=>h
theorem Me {f:R4} {cap:Array x1} {j:Nat->List x1->x3->Prop} {e:x3->Prop} {L:Λ} (p:oj x7 f cap.toList n j e) (q:∀k vs w,j k vs w-> ∃x,L[k]? =σ x/\vs=[Δ x])
  (he:∀a b,ah (λr=>w.heap.size<=r) a b->e a->e b) (s:e w) (y:n=L.length) (z:L.length<=12):
  am x7 zp [.func (.func f) #[] cap] w λv w'=>Ext w w'/\ ∃g m,w.heap.size<=g/\m.Perm L/\m.Pairwise (·<= ·)/\au .i64 ai w' g v m:=by
 refine az func199 ?_;refine (L7 p q he s y Ω).mono ?_;rintro v U _ ⟨A,g,B,ac⟩;refine (Md ac z).mono ?_;rintro _ V _ ⟨C,m,h1,E,G⟩;exact⟨A.then C (by rintro r H rfl;omega),g,m,B,h1,E,G⟩
theorem Cr {x:Int} (h:aF .i64 w sv l):
  am x7 uK [sv,Δ x] w λv w'=>Ext w w'/\ ∃r:Int,v=Δ r/\ ∀i:Nat,l[i]? =σ x->(r=i↔ ∀j,j<i->l[j]? ≠σ x):=by
 refine az func58 ?_;rw[aU an.u h];refine bX.range l.length (λi _ U=>Ext w U/\ ∀j,j<i->l[j]? ≠σ x) h.le ⟨Ext.refl _,λj m=>Ω⟩ ?_ ?_
 .rintro i _ U k hi ⟨a,e⟩ hk;simp only[aN,al];refine⟨λ_=>?_,λh=>Ω⟩;obtain⟨y,f⟩:=aH (l:=l) hi;rw[be an.u ai.i Ψ (h.ext a) f];simp only[bh,al,aM];refine⟨λhe=>⟨a,i,rfl,λq p=>?_⟩,λhe=>hk _ _ ⟨a,λj m=>?_⟩⟩
  .subst he;refine⟨λA=>by
              have:i=q:=Ω
              subst this;exact e,λs=>?_⟩
   rcases Nat.lt_trichotomy i q with h1|h1|h1
   .exact absurd f (s i h1)
   .omega
   .exact absurd p (e q h1)
  .by_cases z:j=i
   .subst z;rw[f];intro h;exact he (j6 h).symm
   .exact e j Ω
 .rintro _ U k ⟨a,e⟩;simp only[aN,al];refine⟨λh=>Ω,λ_=>⟨a,-1,rfl,λi hi=>?_⟩⟩;exact absurd hi (e i (x4.1 hi).1)
theorem Mf {g:Nat} {w0:x3} (j:af w0 g an [sv]) (a:aF .i64 w0 sv l):
  oj x7 ov [Γ g] l.length (λk vs _=>∃x,l[k]? =σ x/\vs=[Δ x]) (λw=>Ext w0 w):=by
 refine⟨ov.enters,λy ay z w A _ m I p=>?_⟩;refine pQ func238 ?_;rw[aA Ψ ((j.ext I).Qz rfl),aU an.u (a.ext I)];refine ch.range l.length (λi V=>ay i V/\Ext w0 V) a.le ⟨p,I⟩ ?_ ?_
 .rintro i V k hi ⟨e,f⟩ hk;simp only[aN,al];refine⟨λ_=>?_,λh=>Ω⟩;obtain⟨x,I⟩:=aH (l:=l) hi;rw[be an.u ai.i Ψ (a.ext f) I];refine⟨rfl,(m i _ V hi f ⟨x,I,rfl⟩ e).mono ?_⟩;rintro _ B (⟨rfl,q,r⟩|⟨rfl,s⟩)
  .simp only[bI,Y7,aY,aM];exact hk _ ⟨r.1,q⟩
  .simp only[bI,W5,bQ];exact .inr ⟨i,hi,s⟩
 .rintro V k ⟨e,_⟩;simp only[aN,al];exact⟨λh=>Ω,λ_=>.inl e⟩
theorem vZ (h:aF .i64 w sv l) (j:l.length<=12)
  (p:∀v w' g m,Ext w w'->w.heap.size<=g->m.Perm l->m.Pairwise (·<= ·)->au .i64 ai w' g v m->K v w'):
  am x7 zq [sv] w λt U=>am x7 zp [t] U K:=by
 refine L5.mono ?_;rintro _ U _ ⟨f,g,rfl,A,e⟩;have e:af U g an [sv]:=by rw[h.cells.1] at e;exact e
 refine (Me (Mf e (h.ext f)) (λ_ _ _ h=>h) (λa b q I=>I.then q (λr B h=>Ω)) (Ext.refl _) rfl j).mono ?_;rintro v V _ ⟨s,x,m,C,h1,y,z⟩;have:=f.size;exact p v V x m (f.trans s) Ω h1 y z
def Mg (w:x3) (aj:Λ) (k:Int) (cs a:Λ) (v:x1) (w':x3):Prop:=
 Ext w w'/\
  (¬Good a aj.length->v= .tuple #[.pointer ν,Δ 1])/\
  (Good a aj.length-> ∃e f h,v= .tuple #[Γ e,Δ 0]/\db w' e f h (ef aj a) k (ny aj cs a))
theorem Mh {g bI:Nat} {Z:x1} {cs z:Λ} (h:db w g bI sv aj k cs) (hk:right k) (P:aF .i64 w Z z) (cr:z.length<=12) (ct:Good z aj.length->aK (ef aj z)<=4096):
  am x7 HV [Γ g,Z] w (Mg w aj k cs z):=by
 have aC:=h;have cu:=h.2.2.1;have cw:=P.cells;refine iQ func201 ?_;refine bo λg1 U df bJ B=>?_;refine bo λbK V dg a6 A=>?_;have dh:=bJ.size;have di:=a6.size;have dj:=B.lt;have dk:=A.lt;have a8:=bJ.trans a6;have B:af V g1 eP [Γ g]:=B.ext a6;have A:af V bK an [Z]:=by rw[cw.1] at A;exact A
 rw[aA Ψ (B.Qz rfl),c5 eP.u];simp only[b9,aY];rw[aA Ψ (A.Qz rfl)];have cz:=P.ext a8;have sub:∀ {w:x3} {g:Nat} {sv:x1} {k:Int} {a7:x1},af w g cX [sv,Δ k,a7]->w.rangeAt g (0+0) [sv]:=λK=>nr K (by
  intro j v ac
  match j,ac with
  |0,ac=>exact ac)
 refine vZ cz cr λdE cA dc m bL dl ba cB hm=>?_;have cC:=ba.length_eq;rw[aU an.u hm.ls];have cD:=a8.trans bL;refine l8.range m.length (λi _ _ bb=>Ext cA bb/\ ∀j,j<i->m[j]? =σ (j:Int)) Ω ⟨Ext.refl _,λj bc=>Ω⟩ ?_ ?_
 .rintro i _ _ bb aa hi ⟨ad,bd⟩ ae;simp only[aN,al];refine⟨λ_=>?_,λh=>Ω⟩;obtain⟨y,ag⟩:=aH (l:=m) hi;rw[be an.u ai.i Ψ (hm.ls.ext ad) ag];simp only[bz,al,aM];refine⟨λak dm cE _=>⟨(cD.trans ad).trans cE,λ_=>rfl,λbf=>?_⟩,λhe=>ae _ _ _ ⟨ad,λj bc=>?_⟩⟩
  .have:=AT bf ba cB i hi;rw[ag] at this;exact absurd (j6 this).symm ak
  .by_cases cF:j=i
   .subst cF;rw[ag];congr 1;omega
   .exact bd j Ω
 .rintro _ _ bb aa ⟨ad,bd⟩;simp only[aN,al,en];refine⟨λh=>Ω,λ_ dn cG _ _=>?_⟩;have C:Good z m.length:=JY bd ba;have ao:=(bL.trans ad).trans cG;have aD:=a8.trans ao;have B:=B.ext ao;have A:=A.ext ao;have cH:=P.ext aD;have cI:=aC.ext aD;have dp:=ao.size;obtain⟨⟨a7,gs,K,aE,bM⟩,_⟩:=id cI;rw[aA Ψ (A.Qz rfl),aU an.u cH,aA Ψ (B.Qz rfl),bS,aW cX.p rfl,bO (cs:=[sv]) bB.p bB.i rfl (sub K)];refine (Bj aE.ls).mono ?_;rintro _ aG _ ⟨rfl,L⟩;refine⟨.inl L,?_⟩;simp only[bz,al];refine⟨λak dq cJ _=>⟨(aD.trans L).trans cJ,λ_=>rfl,λbf=>absurd (by rw[bf.1]) ak⟩,λdr=>?_⟩;have bg:z.length=aj.length:=Ω
  have C:Good z aj.length:=by rw[<-bg,<-cC];exact C
  have ds:=ao.trans L;have bh:=aD.trans L;have B:=B.ext L;have A:=A.ext L;have bN:=P.ext bh;rw[aA Ψ (A.Qz rfl),aU an.u bN];refine iU an.u ai.i Ω Ω λgz bP dt Q bQ=>?_;have cK:au .i64 ai bP gz (.slice (σ ⟨gz,0,ν⟩) z.length z.length) (r9 z.length 0):=au.of (n:=z.length) (bT.full bQ Ξ (by simp[maxLen];omega));generalize (x1.slice (σ ⟨gz,0,ν⟩) z.length z.length)=cL at*;have du:=L.size;have dv:=Q.size;have dw:=bQ.lt;rw[aA Ψ ((A.ext Q).Qz rfl),aU an.u (bN.ext Q)];have bR:=bh.trans Q;have aI:(ef aj z).length=z.length:=se _ _;refine ch.range z.length (λi G=>ah (λr=>r=gz) bP G/\au .i64 ai G gz cL (upto (ef aj z) 0 i)) Ω ⟨ah.refl _ _,by rw[oO,aI];exact cK⟩ ?_ ?_
  .rintro i G aa hi ⟨M,aJ⟩ ae;simp only[aN,al];refine⟨λ_=>?_,λh=>Ω⟩;have aq:Ext w G:=bR.then M (by rintro r O rfl;omega);have aP:Ext aG G:=Q.then M (by rintro r O rfl;omega);obtain⟨p,bk⟩:=aH (l:=z) hi;obtain⟨⟨a7,gs,K,aE,bM⟩,_⟩:=aC.ext aq;rw[be an.u ai.i Ψ (P.ext aq) bk,aA Ψ ((B.ext aP).Qz rfl),bS,aW cX.p rfl,bO (cs:=[sv]) bB.p bB.i rfl (sub K)];refine (qg aE.ls).mono ?_;rintro _ dx _ ⟨rfl,bU⟩;have bV:=aJ.ext bU;have cM:(upto (ef aj z) 0 i).length=z.length:=by rw[nw,aI]
   rw[hn rfl an.u ai.i bV Ω];refine ho ai.i bV Ω λdy cN _ bW=>?_;simp only[aM];have h1:=(C.2 i p bk).1;have av:(ef aj z)[i]? =σ (hL aj p):=by
    unfold ef hL;rw[x8,bk,if_pos h1.1];rfl
   rw[oQ av] at bW;exact ae _ ⟨(M.trans (bU.ab _)).trans cN,bW⟩
  .rintro G aa ⟨M,aJ⟩;simp only[aN,al];refine⟨λh=>Ω,λ_=>?_⟩;have aq:Ext w G:=bR.then M (by rintro r O rfl;omega);have aP:Ext aG G:=Q.then M (by rintro r O rfl;omega);rw[<-aI,oP] at aJ;obtain⟨⟨a7,gs,K,aE,bM⟩,_⟩:=aC.ext aq;rw[aA Ψ ((B.ext aP).Qz rfl),aO cX.p 1 K rfl];have aQ:b1 (ef aj z):=cu.J0 C rfl;have bX:=ct C;have dz:=prod_bound aQ;refine (vc aJ.ls).mono ?_;rintro _ bl _ ⟨bY,_,_,_,cO⟩;obtain⟨aw,H,R,rfl,dA,dC,dD,aR⟩:=cO aQ bX ⟨hk,Ω,by have:=hk.1;omega⟩;obtain⟨N,aS⟩:∃N:Nat,(aK (ef aj z)).toNat=N:=⟨_,rfl⟩;rw[aS] at aR;rw[bi,bj];refine bG eP.i λbZ dF dG b0 ay=>?_;refine bt eP.i rfl rfl ay (by simp[x1.cells]) λcP cQ dH ay=>?_;have dI:=M.size;have dJ:=bY.size;have dK:=b0.size;have bm:Ext bl cP:=b0.then cQ (by rintro r O rfl;omega);have b2:=bY.trans bm;have cS:=aR.ext bm;have dL:=ay.lt;obtain⟨⟨bq,b3,b4,b5,cT⟩,⟨b6,b7,_⟩,_,dM⟩:=id cS;have dN:0<N:=Ω
   have dO:aw<bl.heap.size:=by obtain⟨⟨_,_,q,_⟩,_⟩:=id aR;exact q.lt
   have dP:H<bl.heap.size:=by obtain⟨⟨_,_,_,_,q⟩,_⟩:=id aR;exact sL q Θ
   rw[aA Ψ (ay.Qz rfl),bS,aW cX.p rfl,bO (cs:=[R]) bB.p bB.i rfl (sub b4)];refine vE.mono ?_;rintro _ E _ ⟨J,aT,rfl,dQ,b8⟩;have dR:=bm.size;have dS:=J.size;let S:Nat->Prop:=λr=>r=H;let W:=ny aj cs z;have br:W.length=N:=by simp only[W];rw[AZ,aS]
   let cU:x3->Prop:=λw'=>af w' g1 eP [Γ g]/\af w' bK an [Z]/\af w' bZ eP [Γ aw]/\af w' aw cX [R,Δ k,bq]/\
    db w' g bI sv aj k cs/\aF .i64 w' Z z/\au .i64 ai w' b3 R (ef aj z)/\af w' aT bB [R]/\E.heap.size<=w'.heap.size
   have X:∀ {a:x3},ah S E a->cU a:=by
    intro a I;have bu:Ext aG E:=(aP.trans b2).trans J;have bw:Ext aG a:=bu.put I Ω;have ca:Ext w a:=bh.trans bw;refine⟨B.ext bw,A.ext bw,(ay.ext J).ab I (by show ¬(bZ=H);omega),(b4.ext J).ab I (by show ¬(aw=H);exact b6),aC.ext ca,P.ext ca,bp (b5.ext J) I (λr O he=>b7 ((show r=H from he)▸O)),
     b8.ab I (by show ¬(aT=H);omega),I.size⟩
   have cb:=vD (g:=aT) (B0:=E.heap.size) (sv:=R) aQ;rw[aS] at cb;refine ol.old ⟨Nat,false,lz,#[Γ aT],0,_,_,_,λq w'=>ah S E w'/\au .i64 ap w' H bq (upto W 0 q),λ_ _ _=>False,rfl,cb.s,
    ?_,λ_ _ I h=>⟨h.1.ext I,h.2.1.ext I,Y9 h.2.2 I.size⟩,λ_ _ _ I h=>⟨h.1.trans (I.ab S),h.2.ext I⟩,λ_ _ _ _ _ h=>h,⟨b8,(b5.ext J).ls,p8 _⟩,⟨ah.refl _ _,?_⟩,?_,?_,λ_ _ h=>h.elim,λ_ _ _ h=>h.elim⟩
   .rintro _ _ _ _ ⟨_,_,_,_,rfl,_⟩;rfl
   .rw[oO,br];exact cT.ext J
   .rintro _ aL q _ dT ⟨_,_,dU⟩ ⟨av,rfl,dV,gt,cV,dW,cW⟩ ⟨aV,cY⟩;cases cV;let x:=cR (ef aj z) (q:Int);have cc:x.length=z.length:=by simp only[x];rw[iZ,aI]
    intro cZ Y _ _;have cd:=cW.ext Y;rw[aU an.u cd.ls];refine iU an.u ai.i (by rw[iZ];omega) (by rw[iZ];omega) λgo ce dX bx cg=>?_;have c0:au .i64 ai ce go (.slice (σ ⟨go,0,ν⟩) (cR (ef aj z) (q:Int)).length (cR (ef aj z) (q:Int)).length) (r9 (cR (ef aj z) (q:Int)).length 0):=au.of (n:=(cR (ef aj z) (q:Int)).length) (bT.full cg Ξ (by rw[iZ];simp[maxLen];omega));generalize (x1.slice (σ ⟨go,0,ν⟩) (cR (ef aj z) (q:Int)).length (cR (ef aj z) (q:Int)).length)=c1 at*;have dY:=aV.size;have dZ:=Y.size;have ea:=bx.size;have lo:=cg.lt;have c2:ah S E ce:=aV.trans ((Y.trans bx).ab S);have f:=X c2;rw[aA Ψ (f.2.1.Qz rfl),aU an.u f.2.2.2.2.2.1];refine ch.range z.length (λj aX=>Ext cZ aX/\ ∃y:Λ,y.length=z.length/\au .i64 ai aX go c1 y/\ ∀ (i:Nat) (p:Int),i<j->z[i]? =σ p->y[p.toNat]? =x[i]?) Ω
     ⟨bx,_,by simp[cc,x],c0,λi p hi=>Ω⟩ ?_ ?_
    .rintro j aX aa bc ⟨az,y,bA,aZ,bC⟩ ae;simp only[aN,al];refine⟨λ_=>?_,λh=>Ω⟩;have f:=X (aV.trans ((Y.trans az).ab S));obtain⟨p,a1⟩:=aH (l:=z) bc;obtain⟨u,hu⟩:=aH (l:=x) (i:=j) Ω;have eb:=(C.2 j p a1).1;rw[be an.u ai.i Ψ f.2.2.2.2.2.1 a1,be an.u ai.i Ψ (cd.ext az).ls hu,hn (i:=p.toNat) Ω an.u ai.i aZ Ω];refine ho ai.i aZ Ω λec c3 ed c4=>?_;simp only[aM];refine ae _ ⟨az.then c3 (by rintro r O rfl;omega),_,by simpa using bA,c4,λi a2 hi aB=>?_⟩;by_cases ci:i=j
     .subst ci;rw[a1] at aB;cases aB;rw[c9 Ω,hu]
     .have ee:=(C.2 i a2 aB).1;have ak:p.toNat≠a2.toNat:=λhe=>by
       have:p=a2:=Ω
       subst this;exact ci (C.inj aB a1)
      rw[Y2 ak];exact bC i a2 Ω aB
    .rintro aX aa ⟨az,y,bA,aZ,bC⟩;simp only[aN,al];refine⟨λh=>Ω,λ_ c6 cj _ _=>?_⟩;have ag:y=lO z x:=AX C (by rw[cc,bg]) (by rw[bA,bg]) λi p ck=>bC i p (x4.1 ck).1 ck;have cl:=az.trans cj;have cm:ah S E c6:=aV.trans ((Y.trans cl).ab S);obtain⟨f1,f2,f3,f4,f5,f6,f7,f8,f9⟩:=X cm;rw[aA Ψ (f3.Qz rfl),aO cX.p 2 f4 rfl,aA Ψ (f1.Qz rfl)];refine (vd f5 (aZ.ls.ext cj)).mono ?_;rintro _ eg _ ⟨rfl,bD⟩;refine⟨.inl bD,?_⟩;obtain⟨e,he⟩:=vY aj y cs;rw[he,bi,bj];have c7:=cm.trans (bD.ab S);have cn:=(cY.ext ((Y.trans cl).trans bD));have cM:(upto W 0 q).length=N:=by rw[nw,br]
     rw[hn rfl ax.u ap.i cn Ω];refine ho ap.i cn Ω λc8 da eh cp=>?_;have cq:ah S E c8:=c7.trans (da.mono λr _ h=>h);obtain⟨f1,f2,f3,f4,f5,f6,f7,f8,f9⟩:=X cq;have dd:W[q]? =σ (bn aj cs y):=by
      simp only[W,ny];rw[x8,List.getElem?_range (by rw[aS];exact av),ag];rfl
     rw[oQ dd] at cp;exact⟨⟨f8,f7.ls,f9⟩,⟨cq,cp⟩,λh=>by cases h⟩
   .rintro q ei av ⟨bE,bF⟩;rw[show q=N from av] at bF;have f:=X bE;rw[aA Ψ (f.2.2.1.Qz rfl)];intro ej bH _;obtain⟨f1,f2,f3,f4,f5,f6,f7,f8,f9⟩:=X (bE.trans (bH.ab S));rw[<-br,oP] at bF;have bu:Ext w E:=(aq.trans b2).trans J;refine⟨(bu.put bE Ω).trans bH,λde=>absurd C de,λ_=>⟨aw,H,R,rfl,⟨bq,b3,f4,f7,bF.ext bH⟩,⟨b6,b7,bX⟩,aQ,AZ _ _ _⟩⟩
def gI (l:Λ):Prop:=∀ (i j:Nat) (x y:Int),i<j->l[i]? =σ x->l[j]? =σ y->x<y
theorem gI.inj (h:gI l) {i:Nat} {x:Int} (hi:l[i]? =σ x) (a:l[j]? =σ x):i=j:=by
 rcases Nat.lt_trichotomy i j with h1|h1|h1
 .have:=h i j x x h1 hi a;omega
 .exact h1
 .have:=h j i x x h1 a hi;omega
def dedup (l:Λ):Nat->Λ
 |0=>[]
 |j+1=>if 0<j/\l[j]? =l[j-1]? then dedup l j else dedup l j++[l.getD j 0]
theorem Cs (l:Λ):∀j,(dedup l j).length<=j
 |0=>p8 _
 |j+1=>by
  have:=Cs l j;unfold dedup;split
  .omega
  .simp;omega
theorem v7 (a:0<j) (h:l[j]? =l[j-1]?):dedup l (j+1)=dedup l j:=by
 rw[dedup,if_pos ⟨a,h⟩]
theorem wa {x:Int} (I:l[j]? =σ x) (h:0<j->l[j]? ≠l[j-1]?):dedup l (j+1)=dedup l j++[x]:=by
 rw[dedup,if_neg (λa=>h a.1 a.2),v8,I];rfl
theorem sQ {l:Λ}:∀ {j:Nat},j<=l.length->(∀i,i<j->0<i->l[i]? ≠l[i-1]?)->dedup l j=l.take j
 |0,_,_=>by simp[dedup]
 |j+1,e,h=>by
  have I:l[j]? =σ l[j]:=x6 Ω;rw[wa I (h j Ω),sQ Ω (λi hi a=>h i Ω a),u9,I];rfl
theorem Ct {l:Λ} (J:l.Pairwise (·<= ·)):∀ {j:Nat},j<=l.length->(gI (dedup l j)/\ ∀x,x∈dedup l j↔x∈l.take j)
 |0,_=>⟨λi j x y _ h=>by simp[dedup] at h,λx=>by simp[dedup]⟩
 |j+1,G=>by
  obtain⟨h1,m⟩:=Ct J (j:=j) Ω;have I:l[j]? =σ l[j]:=x6 Ω;by_cases f:0<j/\l[j]? =l[j-1]?
  .rw[v7 f.1 f.2];refine⟨h1,λx=>?_⟩;rw[m,u9,I];simp only[l7,o7,o9];refine⟨.inl,λh=>h.elim id λhe=>?_⟩;subst he;have q:(l.take j)[j-1]? =σ l[j]:=by rw[Z7 Ω,<-f.2,I]
   exact x5 q
  .have r:0<j->l[j]? ≠l[j-1]?:=λz he=>f ⟨z,he⟩;rw[wa I r];have A:∀x∈dedup l j,x<l[j]:=λx B=>by
    obtain⟨i,hi,he⟩:=List.getElem_of_mem ((m x).1 B);have H:i<j:=by rw[l9] at hi;omega
    rw[List.getElem_take] at he;subst he;have q:l[i]<=l[j-1]:=by
     by_cases s:i=j-1
     .subst s;exact T2 _
     .exact V2.1 J i (j-1) Ω Ω Ω
    have s:=V2.1 J (j-1) j Ω Ω Ω;have w:=r Ω;rw[I,x6 (show j-1<l.length by omega)] at w;have K:l[j]≠l[j-1]:=λh=>w (by rw[h]);omega
   refine⟨λa b x y C p e=>?_,λx=>?_⟩
   .have E:=(x4.1 e).1;simp only[p9,c7,List.length_nil] at E;rw[Y1 Ω] at p;by_cases F:b=(dedup l j).length
    .subst F;rw[Y4 (p8 _),V6] at e;simp at e;subst e;exact A x (x5 p)
    .rw[Y1 Ω] at e;exact h1 a b x y C p e
   .rw[u9,I];simp only[l7,o7,o9,m]
def qy (l:Λ):Prop:=∀ (j:Nat) (x:Int),l[j]? =σ x->0<=x/\(0<j-> ∀y,l[j-1]? =σ y->y<x)
theorem qy.up (h:qy l):gI l:=by
 intro i j x y p I;induction j generalizing y with
 |zero=>omega
 |succ j f=>
  intro e;have q:=(x4.1 e).1;obtain⟨z,a⟩:∃z,l[j]? =σ z:=⟨_,x6 (show j<l.length by omega)⟩;have h1:=(h (j+1) y e).2 Ω z (by simpa using a);by_cases m:i=j
  .subst m;rw[I] at a;cases a;exact h1
  .have:=f z Ω a;omega
theorem Mi (h:gI l) (a:∀x∈l,0<=x):qy l:=λj x I=>⟨a x (x5 I),λf y e=>h (j-1) j y x Ω e I⟩
theorem Cu {g E:Nat} {A:x1} {cs:Λ} (h:db w g E sv aj k cs) (a:aF .i64 w A l):
  am x7 HW [Γ g,A] w λv w'=>Ext w w'/\ ∃c,v= .bool c/\(c=true↔l.length=aj.length/\qy l):=by
 obtain⟨⟨a7,gs,G,hm,f⟩,_⟩:=h;have sub:w.rangeAt g (0+0) [sv]:=nr G (by
  intro j v ac
  match j,ac with
  |0,ac=>exact ac)
 refine az func202 ?_;rw[aU an.u a,bS,aW cX.p rfl,bO (cs:=[sv]) bB.p bB.i rfl sub];refine (Bj hm.ls).mono ?_;rintro _ U _ ⟨rfl,m⟩;simp only[bz,al];refine⟨λH=>⟨m,false,rfl,(λh=>by cases h),λh=>absurd (by rw[h.1]) H⟩,λB=>?_⟩;have B:l.length=aj.length:=Ω
 rw[aU an.u (a.ext m)];refine bX.range l.length (λi _ V=>Ext w V/\ ∀ (j:Nat) (x:Int),j<i->l[j]? =σ x->0<=x/\(0<j-> ∀y,l[j-1]? =σ y->y<x)) a.le ⟨m,λj x J=>Ω⟩ ?_ ?_
 .rintro i _ V K hi ⟨e,q⟩ L;simp only[aN,al];refine⟨λ_=>?_,λh=>Ω⟩;obtain⟨x,I⟩:=aH (l:=l) hi;have Q:=a.le;rw[be an.u ai.i Ψ (a.ext e) I];refine aV (λv M=>V=M/\ ∃c,v= .bool c/\(c=false↔0<=x/\(0<i-> ∀y,l[i-1]? =σ y->y<x))) ?_ ?_
  .rintro _ _ ⟨rfl,c,rfl,f⟩;rw[cb];simp only[aM];refine⟨λN=>⟨e,false,rfl,(λh=>by cases h),λh=>?_⟩,λae=>L _ _ ⟨e,λj O J r=>?_⟩⟩
   .have:=f.2 (h.2 i x I);rw[N] at this;cases this
   .by_cases P:j=i
    .subst P;rw[I] at r;cases r;exact f.1 ae
    .exact q j O Ω r
  .intro ay s;simp only[aN,bR,dJ,al];refine⟨λR=>s _ _ ⟨rfl,true,rfl,(λh=>by cases h),λh=>Ω⟩,λS=>⟨λW=>?_,λX=>s _ _ ⟨rfl,false,rfl,λ_=>⟨Ω,λh=>Ω⟩,λ_=>rfl⟩⟩⟩;obtain⟨y,z⟩:∃y,l[i-1]? =σ y:=⟨_,x6 (show i-1<l.length by omega)⟩;rw[wrap_i64 Ω Ω,fx (i:=i-1) Ω an.u ai.i Ψ (a.ext e) z];simp only[cO];refine s _ _ ⟨rfl,_,rfl,?_⟩;rw[decide_eq_false_iff_not];refine⟨λh=>⟨Ω,λ_ Y C=>by rw[z] at C;cases C;omega⟩,λh=>by have:=h.2 Ω y z;omega⟩
 .rintro _ V K ⟨e,q⟩;simp only[aN,al];exact⟨λh=>Ω,λ_=>⟨e,true,rfl,λ_=>⟨B,λj x I=>q j x (x4.1 I).1 I⟩,λ_=>rfl⟩⟩
def gv (l:Λ) (x:Int):Int:=if x∈l then (l.idxOf x:Int) else-1
theorem wb {i:Nat} {x:Int} (h:gI l) (hi:l[i]? =σ x):gv l x=i:=by
 have hm:x∈l:=x5 hi;have a:=List.idxOf_lt_length_of_mem hm;have e:l.idxOf x=i:=h.inj (by rw[x6 a,List.getElem_idxOf a]) hi;unfold gv;rw[if_pos hm,e]
theorem Mj {x:Int} (h:x∉l):gv l x= -1:=if_neg h
theorem sR {x:Int} (h:aF .i64 w sv l) (hu:gI l):
  am x7 uK [sv,Δ x] w λv w'=>v=Δ (gv l x)/\Ext w w':=by
 refine az func58 ?_;rw[aU an.u h];refine bX.range l.length (λi _ U=>Ext w U/\ ∀j,j<i->l[j]? ≠σ x) h.le ⟨Ext.refl _,λj m=>Ω⟩ ?_ ?_
 .rintro i _ U k hi ⟨a,e⟩ hk;simp only[aN,al];refine⟨λ_=>?_,λh=>Ω⟩;obtain⟨y,f⟩:=aH (l:=l) hi;rw[be an.u ai.i Ψ (h.ext a) f];simp only[bh,al,aM];refine⟨λhe=>⟨?_,a⟩,λhe=>hk _ _ ⟨a,λj m=>?_⟩⟩
  .subst he;rw[wb hu f]
  .by_cases p:j=i
   .subst p;rw[f];intro h;exact he (j6 h).symm
   .exact e j Ω
 .rintro _ U k ⟨a,e⟩;simp only[aN,al];refine⟨λh=>Ω,λ_=>⟨?_,a⟩⟩;rw[Mj];intro hm;obtain⟨i,hi,he⟩:=List.getElem_of_mem hm;exact e i hi (by rw[x6 hi,he])
def e1 (x vars scope:Λ):Λ:=scope.map λp=>x.getD (vars.idxOf p) 0
theorem Mk (x vars scope:Λ):(e1 x vars scope).length=scope.length:=by simp[e1]
theorem Cv {e7 q:x1} {x vars:Λ} (I:aF .i64 w e7 x) (ac:aF .i64 w q vars) (J:aF .i64 w sv scope) (hu:gI vars) (B:∀p∈scope,p∈vars) (N:x.length=vars.length) (O:scope.length<=1000):
  am x7 H2 [e7,q,sv] w λv w'=>Ext w w'/\ ∃g,w.heap.size<=g/\au .i64 ai w' g v (e1 x vars scope):=by
 refine az func208 ?_;rw[aU an.u J];refine iU an.u ai.i Ω Ω λgz U P s C=>?_;have E:au .i64 ai U gz (.slice (σ ⟨gz,0,ν⟩) scope.length scope.length) (r9 scope.length 0):=au.of (n:=scope.length) (bT.full C Ξ (by simp[maxLen];omega));generalize (x1.slice (σ ⟨gz,0,ν⟩) scope.length scope.length)=G at*;rw[aU an.u (J.ext s)];have j:=Mk x vars scope;refine ch.range scope.length (λi V=>Ext w V/\au .i64 ai V gz G (upto (e1 x vars scope) 0 i)) Ω ⟨s,by rw[oO,j];exact E⟩ ?_ ?_
 .rintro i V H hi ⟨a,hm⟩ K;simp only[aN,al];refine⟨λ_=>?_,λh=>Ω⟩;obtain⟨p,m⟩:=aH (l:=scope) hi;have y:=B p (x5 m);have Q:=List.idxOf_lt_length_of_mem y;rw[be an.u ai.i Ψ (J.ext a) m];refine (sR (ac.ext a) hu).mono ?_;rintro _ R _ ⟨rfl,f⟩;have e:gv vars p=(vars.idxOf p:Int):=if_pos y;obtain⟨u,z⟩:∃u,x[vars.idxOf p]? =σ u:=⟨_,x6 Ω⟩;have S:(upto (e1 x vars scope) 0 i).length=scope.length:=by rw[nw,j]
  rw[fx (i:=vars.idxOf p) e an.u ai.i Ψ (I.ext (a.trans f)) z,hn rfl an.u ai.i (hm.ext f) Ω];refine ho ai.i (hm.ext f) Ω λW L _ A=>?_;simp only[aM];have M:(e1 x vars scope)[i]? =σ u:=by
   unfold e1;rw[x8,m,Z3,v8,z];rfl
  rw[oQ M] at A;exact K _ ⟨(a.trans f).then L (by rintro r X rfl;omega),A⟩
 .rintro V H ⟨a,hm⟩;simp only[aN,al];refine⟨λh=>Ω,λ_=>⟨a,gz,Ω,?_⟩⟩;rw[<-j,oP] at hm;exact hm
theorem Cw (h:t≠[]) (hw:∀b∈t,bJ b=true):lex t=([t],true):=by
 cases t with
 |nil=>exact absurd rfl h
 |cons b q=>
  have a:q.dropWhile bJ=[]:=by
   have:∀ (q:Λ),(∀x∈q,bJ x=true)->q.dropWhile bJ=[]/\q.takeWhile bJ=q:=λq a=>by
    induction q with
    |nil=>simp
    |cons x q e=>
     have:=e λy f=>a y (.tail _ f);simp[a x (.head _),this.1,this.2]
   exact (this q λx I=>hw x (.tail _ I)).1
  have j:q.takeWhile bJ=q:=by
   have:∀ (q:Λ),(∀x∈q,bJ x=true)->q.takeWhile bJ=q:=λq a=>by
    induction q with
    |nil=>simp
    |cons x q e=>simp[a x (.head _),e λy f=>a y (.tail _ f)]
   exact this q λx I=>hw x (.tail _ I)
  rw[Ao (hw b (.head _)),a,j]
theorem Cx {p:x1} (h:aF .u8 w p l) (e:Bytes l) (f:l.length<=100000):am x7 za [p] w λv w'=>Ext w w'/\ ∃g R,v=Γ g/\w.heap.size<=g/\hq w' g R (lex l).1 (lex l).2/\¬R g:=by
 refine (Ax h e f).mono ?_;rintro _ U _ ⟨j,g,rfl,m,q,a⟩;obtain⟨h1,y,z,s,bm,hm⟩:=id a;exact⟨j,g,λr=>r≠g,rfl,m,⟨q,l,0,a,λr x=>b4 hm s Φ x,by rw[List.drop_zero]⟩,λh=>h rfl⟩
theorem Ml {p:x1} (h:aF .u8 w p t) (x:Bytes t) (y:t.length<=100000) (z:t≠[]) (hw:∀b∈t,bJ b=true):am x7 Ih [p] w λv w'=>Ext w w'/\ ∃n:Int,v= .tuple #[Δ 1,Δ n,Δ 0]:=by
 have A:=Cw z hw;refine az func233 ?_;refine (Cx h x y).mono ?_;rintro _ U _ ⟨B,g,R,rfl,E,j,G⟩;rw[A] at j;refine⟨λ_ _ _ a V=>ah (λr=>r=g) U V/\((a=Δ 0/\hq V g R [t] true)\/(a=Δ 1/\hq V g R [] true)),λ_ _ _ a _=>1-(bU a).toNat,⟨ah.refl _ _,.inl ⟨rfl,j⟩⟩,?_⟩;rintro _ _ _ _ V ⟨m,⟨rfl,e⟩|⟨rfl,e⟩⟩
 .refine (qd e).mono ?_;rintro v q _ ⟨f,C,n,rfl⟩;rw[fy,fz,fA,bh,al];refine⟨λ_=>?_,λh=>absurd rfl h⟩;rw[aM,wrap_i64 Ω Ω];exact⟨⟨m.trans f,.inr ⟨rfl,C⟩⟩,by simp[bU]⟩
 .refine (qd e).mono ?_;rintro v q _ ⟨f,n,rfl⟩;rw[fy,fz,fA,bh,al];refine⟨λh=>by simp at h,λ_=>?_⟩;rw[bh,al];refine⟨λh=>by simp at h,λ_=>?_⟩;have s:Ext w q:=B.then (m.trans f) (λr H he=>by have he:r=g:=he;omega);rw[aU cM.u (h.ext s)];exact⟨s,_,rfl⟩
theorem Mm (a:Bytes t) (e:t.length<=100000) (f:t≠[]) (hw:∀b∈t,bJ b=true):am x7 HR [bN t] w λv w'=>v= .bool true/\Ext w w':=by
 have y:=Cw f hw;refine az func194 ?_;refine vi c0.u cM.u cD.u a Ω λbv U j z _=>?_;refine (Ml z a e f hw).mono ?_;rintro _ V _ ⟨p,n,rfl⟩;rw[fy,fz,fA];refine vi c0.u cM.u cD.u a Ω λI J q A _=>?_;refine (Cx A a e).mono ?_;rintro _ K _ ⟨B,g,R,rfl,L,s,M⟩;rw[y] at s;refine (qd s).mono ?_;rintro _ x _ ⟨C,_,m,rfl⟩;rw[fy,fz,fA];have E:Ext w x:=(((j.trans p).trans (q.trans B))).then C (λr N he=>by
  have he:r=g:=he;have:=j.size;have:=p.size;have:=q.size;omega)
 refine aV (λv G=>x=G/\v= .bool true) ?_ ?_
 .rintro _ _ ⟨rfl,rfl⟩;exact⟨rfl,E⟩
 .intro ay H;rw[bh,al];refine⟨λ_=>?_,λh=>absurd rfl h⟩;rw[bh,al];refine⟨λ_=>?_,λh=>absurd rfl h⟩;rw[Ak a a];exact H _ _ ⟨rfl,by rw[decide_eq_true rfl]⟩
theorem Mn {x:Int}:am x7 uS [Δ x] w λv w'=>v= .bool (decide (¬hV x))/\Ext w w':=by
 refine az func193 ?_;refine aV (λv U=>w=U/\v= .bool (decide (¬hV x))) ?_ ?_
 .rintro _ _ ⟨rfl,rfl⟩;exact⟨rfl,Ext.refl _⟩
 .intro ay e;rw[aN,al];refine⟨λh=>e _ _ ⟨rfl,by rw[decide_eq_true];intro a;have:=a.1;omega⟩,λh=>?_⟩;rw[bR];refine e _ _ ⟨rfl,?_⟩;congr 1;rw[V5,decide_eq_true_eq,decide_eq_true_eq];exact⟨λf a=>by have:=a.2;omega,λf=>by
   by_cases j:32<x
   .exact j
   .exact absurd ⟨Ω,Ω⟩ f⟩
theorem Mo (h:aF .i64 w sv l) (e:∀x∈l,hV x):
  am x7 uR [sv,.func (.func uS) #[] #[]] w λv w'=>v= .bool false/\Ext w w':=by
 refine az func191 ?_;refine am.mono (K:=λv w'=>v=Δ (-1)/\Ext w w') ?_ ?_
 .refine az func102 ?_;rw[aU an.u h];refine bX.range l.length (λ_ _ U=>Ext w U) h.le (Ext.refl _) ?_ ?_
  .rintro i _ U k hi I hk;refine bE Ω ?_;obtain⟨x,a⟩:=aH (l:=l) hi;rw[be an.u ai.i Ψ (h.ext I) a];show am x7 uS [Δ x] U _;refine Mn.mono ?_;rintro _ V _ ⟨rfl,f⟩;rw[al];refine⟨λj=>absurd (e x (x5 a)) j,λ_=>?_⟩;rw[aM];exact hk _ _ (I.trans f)
  .rintro _ U k I;rw[aN,al];exact⟨λh=>Ω,λ_=>⟨rfl,I⟩⟩
 .rintro _ U _ ⟨rfl,I⟩;rw[cO];exact⟨rfl,I⟩
theorem sS {m:Bool} {S R:ak} {d:gV} (h:ao.rep m S R w cs d):∃sv g a aL gs,cs=[sv,Γ g]/\aF .i64 w sv d.1/\fF w g a aL gs d.2.aj d.2.k d.2.o d.2.D:=by
 obtain⟨c,e,A,B,rfl,_,_,_,h1,f⟩:=h;have h1:ao.rep (α:=Λ) false bu R w c d.1:=h1;obtain⟨u,rfl⟩:=W3.1 (show c.length=1 from ao.len h1);obtain⟨g,m,sv,gs,rfl,j,_⟩:=f;exact⟨u,g,m,sv,gs,rfl,eE h1,j⟩
theorem Mp {Q:Nat} {f:bZ} {d:gV} {x:cv} {m:Bool} {S R:ak} (ae:k1 w Q f) (ah:e8 N f) (ap:x∈f.funs) (au:qx f.k x d) (av:ao.rep m S R w cs d):
  am x7 Ii [Γ Q,.agg cs.toArray] w λv w'=>v= .bool true/\Ext w w':=by
 obtain⟨szv,aJ,gz,aK,W,X,_,_⟩:=ae;obtain⟨sv,ag,aP,aL,gs,rfl,s,I⟩:=sS av;obtain⟨aw,Y,ax,aQ,aR,aS⟩:=au;obtain⟨E,aW,aX⟩:=ah.funs x ap;rw[aw] at s;refine az func235 ?_;refine bo λaq U aZ A G=>?_;have G:af U aq cG [sv,Γ ag]:=by obtain⟨_,_,_,rfl⟩:=dg s;exact G
 refine aV (λv V=>Ext U V/\v= .bool false) ?_ ?_
 rotate_left
 .intro ay J;intro V q _ _;have z:=G.ext q;rw[aT cG.p 1 z rfl,c5 eO.u];simp only[b9,aY];rw[aT cG.p 1 z rfl,aO cF.p 1 (W.ext (A.trans q)) rfl];refine (KB (I.ext (A.trans q)).is).mono ?_;rintro _ B _ ⟨rfl,a⟩;refine⟨.inl a,?_⟩;rw[bz,al];refine⟨λh=>absurd ax h,λ_=>?_⟩;have C:=z.ext a;have K:=q.trans a;rw[aT cG.p 1 C rfl,aT cG.p 0 C rfl,aU an.u (s.ext (A.trans K))];refine (KC (I.ext (A.trans K)).is).mono ?_;rintro _ H _ ⟨rfl,e⟩;refine⟨.inl e,?_⟩;rw[bz];refine J _ _ ⟨K.trans e,?_⟩;rw[decide_eq_false];intro h;exact h (by rw[Y,E.sizes,u7])
 rintro _ V ⟨q,rfl⟩;rw[aY];have z:=G.ext q;have L:=A.trans q;rw[aT cG.p 0 z rfl,aU an.u (s.ext L)];refine bX.range x.scope.length (λ_ _ B=>Ext V B) Ω (Ext.refl _) ?_ ?_
 rotate_left
 .rintro _ B k a;rw[aN,al];exact⟨λh=>Ω,λ_=>⟨rfl,L.trans a⟩⟩
 rintro i _ B k hi a hk;obtain⟨v,ac⟩:=aH (l:=x.scope) hi;have a1:=E.scope.2 v (x5 ac);have M:=L.trans a;have C:=z.ext a;have Z:=W.ext M;have aB:f.sizes[v.toNat]? =σ (f.sizes.getD v.toNat 0):=by
  rw[v8,x6 Ω];rfl
 refine bE Ω ?_;rw[be an.u ai.i Ψ (s.ext M) ac];refine aV (λb H=>Ext B H/\b= .bool false) ?_ ?_
 .rintro _ H ⟨e,rfl⟩;rw[aY,aM];exact hk _ _ (a.trans e)
 .intro ay J;intro H e _ _;have O:=M.trans e;refine cm Ω ?_;rw[aO cF.p 2 (Z.ext e) rfl,aU an.u (X.ls.ext O),cO,al];refine⟨λh=>Ω,λ_=>?_⟩;rw[aT cG.p 0 (C.ext e) rfl];refine (Cr (s.ext O)).mono ?_;rintro _ a2 _ ⟨aa,r,rfl,aC⟩;have aD:r=(i:Int):=(aC i ac).2 λj a6 aE=>by have:=kc E.scope.1 aE ac;omega
  subst aD;have ab:=O.trans aa;have P:=e.trans aa;rw[bz,al];refine⟨λh=>absurd rfl h,λ_=>?_⟩;rw[aT cG.p 1 (C.ext P) rfl,aO cF.p 2 (Z.ext P) rfl];refine p1 (y:=v) (i:=v.toNat) Ω an.u ai.i (X.ls.ext ab) aB λb o aF=>?_;rw[aA Ψ aF];refine (vH (I.ext ab).is).mono ?_;rintro a7 a8 _ ⟨ad,ba,bb,aG⟩;refine⟨.inl ad,?_⟩;have aI:d.2.aj[i]? =σ (f.sizes.getD v.toNat 0):=by
   rw[Y,E.sizes,x8,ac];rfl
  rw[be an.u ai.i Ψ aG.ls aI,bz];exact J _ _ ⟨P.trans ad,by rw[decide_eq_false (λh=>h rfl)]⟩
theorem Mq {f:bZ} {d:gV} {x:cv} {m:Bool} {S R:ak} (q:k1 w j f) (r:e8 N f) (s:x∈f.funs) (y:qx f.k x d) (a:ao.rep m S R w cs d):
  am x7 uT [Γ j,.agg cs.toArray] w λv w'=>v= .bool false/\Ext w w':=by
 refine az func196 ?_;refine bo λaq U C e h=>?_;have z:cs.length=2:=ao.len a;have h:af U aq cG cs:=by
  obtain⟨sv,ag,E,aL,gs,rfl,A,G⟩:=sS a;obtain⟨_,_,_,rfl⟩:=dg A;exact h
 rw[bO cG.p cG.i z h.range];refine (Mp (q.ext e) r s y (bW a e)).mono ?_;rintro _ V _ ⟨rfl,B⟩;rw[bI];exact⟨rfl,e.trans B⟩
theorem Mr {e:Nat} {f:bZ} {q:x1} {a:List gV} {m:Bool} {S R:ak} (z:k1 w e f) (A:e8 N f) (j:ao.rep m S R w [q] a) (r:sP f.k f.funs a):
  am x7 HS [q,.func (.func uT) #[Γ e] #[]] w λv w'=>v= .bool false/\Ext w w':=by
 refine az func195 ?_;refine am.mono (K:=λv w'=>v=Δ (-1)/\Ext w w') ?_ ?_
 .refine az func234 ?_;rw[io dD.u j];refine bX.range a.length (λ_ _ U=>Ext w U) (rX j) (Ext.refl _) ?_ ?_
  .rintro i _ U k hi I hk;refine bE Ω ?_;obtain⟨d,s⟩:=aH (l:=a) hi;obtain⟨x,y⟩:∃x,f.funs[i]? =σ x:=⟨_,x6 (by have:=r.1;omega)⟩;refine np (α:=gV) cG.p rfl dD.u cG.i (bW j I) s λcs B=>?_;show am x7 uT [Γ e,.agg cs.toArray] U _;refine (Mq (z.ext I) A (x5 y) (r.2 i x d y s) B).mono ?_;rintro _ V _ ⟨rfl,C⟩;rw[aY,aM];exact hk _ _ (I.trans C)
  .rintro _ U k I;rw[aN,al];exact⟨λh=>Ω,λ_=>⟨rfl,I⟩⟩
 .rintro _ U _ ⟨rfl,I⟩;rw[cO];exact⟨rfl,I⟩
def lR (a:List cv):Nat:=(a.map λx=>x.lines.length).sum
theorem Ms {ab:Nat} {f:bZ} (ad:k1 w ab f) (q:e8 N f) (bc:N<=60000) (Q:f.name≠[]/\ ∀b∈f.name,bJ b=true):
  am x7 Hl [Γ ab] w λv w'=>Ext w w'/\ ∃e:Int,v=Δ e/\(lR f.funs<=16384->e=0):=by
 obtain⟨szv,bd,gz,s,y,R,S,A⟩:=id ad;have bf:=q.name;have aB:Bytes f.name:=λb aC=>by
  have:=of_decide_eq_true (Q.2 b aC);omega
 refine az func148 ?_;rw[c5 uV.u];simp only[b9,aY];refine aV (λv U=>Ext w U/\v= .bool false) ?_ ?_
 rotate_left
 .intro ay r;rw[aO cF.p 0 y rfl];refine (Mm aB Ω Q.1 Q.2).mono ?_;rintro _ U _ ⟨rfl,m⟩;rw[bI,Y7,aY];rw[aO cF.p 2 (y.ext m) rfl,aU an.u (R.ls.ext m),bh,al];refine⟨λh=>by have:=q.sizes.1;omega,λ_=>?_⟩;rw[aO cF.p 2 (y.ext m) rfl];refine (Mo (R.ls.ext m) q.sizes.2.2).mono ?_;rintro _ V _ ⟨rfl,B⟩;have ae:=m.trans B;rw[aY,aO cF.p 1 (y.ext ae) rfl];refine zQ.mono ?_;rintro _ C _ ⟨rfl,E⟩;have K:=ae.trans E;rw[decide_eq_true (show right f.k from q.k),bI,Y7,aY,aO cF.p 3 (y.ext K) rfl,iR];refine (Mr (ad.ext K) q (bW S K) A).mono ?_;rintro _ af _ ⟨rfl,aD⟩;exact r _ _ ⟨K.trans aD,rfl⟩
 rintro _ U ⟨m,rfl⟩;rw[aY];have L:=y.ext m;refine aV (λv V=>U=V/\v= .bool false) ?_ ?_
 rotate_left
 .intro ay r;rw[aO cF.p 0 L rfl,nt c0.u,bR,al];refine⟨λh=>Ω,λ_=>?_⟩;rw[aO cF.p 2 L rfl,aU an.u (R.ls.ext m),bR,al];refine⟨λh=>by have:=q.sizes.2.1;omega,λ_=>?_⟩;rw[aO cF.p 3 L rfl,io dD.u (bW S m),bR];exact r _ _ ⟨rfl,by rw[decide_eq_false];have:=q.kS;have:=A.1;omega⟩
 rintro _ _ ⟨rfl,rfl⟩;have ah:=bW S m;rw[aO cF.p 3 L rfl,io dD.u ah];refine⟨λaE aF W V=>∃i n:Nat,W=Δ (i:Int)/\i<=s.length/\aE=Δ (n:Int)/\aF= .bool false/\Ext U V/\n<=lR (f.funs.take i)/\n<=i*60000,λ_ _ W _=>s.length-(bU W).toNat,
  ⟨0,0,rfl,X3 _,rfl,rfl,Ext.refl _,X3 _,Ω⟩,?_⟩
 rintro _ _ _ V ⟨i,n,rfl,hi,rfl,rfl,B,aG,bg⟩;have bi:s.length<=256:=by rw[A.1];exact q.kS
 rw[aN,al];refine⟨λak=>?_,λbj=>?_⟩
 .have ak:i<s.length:=Ω
  obtain⟨d,ao⟩:=aH (l:=s) ak;obtain⟨x,X⟩:∃x,f.funs[i]? =σ x:=⟨_,x6 (by have:=A.1;omega)⟩;have M:=A.2 i x d X ao;obtain⟨O,aI,aJ⟩:=q.funs x (x5 X);have bk:=O.len;refine ii (λa b C=>Ext V C/\a=Δ ((n+d.2.D.length:Nat):Int)/\b= .bool false) ?_ ?_
  .rintro _ _ C ⟨E,rfl,rfl⟩;rw[aM,wrap_i64 Ω Ω];have aK:=M.2.2.2.2.1;refine⟨⟨i+1,n+d.2.D.length,rfl,Ω,rfl,rfl,B.trans E,?_,?_⟩,by simp only[bU];omega⟩
   .have e:lR (f.funs.take (i+1))=lR (f.funs.take i)+x.lines.length:=by
     unfold lR;rw[u9,X,l7,b6,List.sum_append,U6,List.map_nil,List.sum_cons,List.sum_nil,Nat.add_zero]
    omega
   .have:(i+1)*60000=i*60000+60000:=Ω
    have bl:d.2.D.length<=60000:=Ω
    omega
  .intro ay r;refine np (α:=gV) cG.p rfl dD.u cG.i (bW ah B) ao λcs aP=>?_;obtain⟨sv,ag,bm,aL,gs,rfl,aQ,av⟩:=sS aP;refine bG cG.i λaq C bn E aR=>?_;refine ck (vs:=[sv,Γ ag]) cG.i rfl rfl (by intro v ac;simp at ac;rcases ac with rfl|rfl<;>first|exact aQ.cells.2|rfl) aR λaf aS bo aw=>?_;have Y:Ext V af:=E.put aS Ω;rw[aT cG.p 1 aw rfl];refine (KA (av.ext Y).is).mono ?_;rintro _ bp _ ⟨rfl,Z⟩;have aK:=M.2.2.2.2.1;rw[aM,wrap_i64 Ω Ω,aT cG.p 1 (aw.ext Z) rfl];refine (vH ((av.ext Y).ext Z).is).mono ?_;rintro bq aa _ ⟨aW,br,bt,aA⟩;rw[aU an.u aA.ls];have bu:d.2.aj.length<=6:=by rw[M.2.1,O.sizes,u7];exact aI
   refine bX.range d.2.aj.length (λj out P=>Ext aa P/\ ∃gr,aa.heap.size<=gr/\au .i64 ap P gr out (d.2.aj.take j)) Ω ⟨Ext.refl _,aa.heap.size,p8 _,au.nil _ _ _ _⟩ ?_ ?_
   .rintro j out P k aX ⟨G,gr,aZ,H⟩ hk;obtain⟨z,I⟩:=aH (l:=d.2.aj) aX;refine bE Ω ?_;rw[be an.u ai.i Ψ (aA.ls.ext G) I];refine eo ax.u ap.i rfl λa ga a1 bw J a2=>?_;refine iT ax.u ap.i rfl (H.ext J) a2.ls Θ Θ λbx a6 bz bA a7 a8=>?_;have bB:=G.size;have bC:=J.size;rw[aM];refine hk _ _ ⟨(G.trans J).put a8 Ω,a6,Ω,?_⟩;rw[u9,I];exact a7
   .rintro out P k ⟨G,gr,aZ,H⟩;rw[o5] at H;refine cm Ω ?_;rw[aY];have ba:d.2.aj=x.sizes:=M.2.1;rw[ba] at H;refine (Bg H.ls λz I=>?_).mono ?_
    .rw[O.sizes] at I;obtain⟨v,ac,rfl⟩:=n9.1 I;have bD:=O.scope.2 v ac;refine (q.sizes.2.2 _ ?_).1;rw[v8,x6 Ω];exact T9 _
    .rintro _ a1 _ ⟨rfl,J⟩;refine r _ _ _ ⟨(((Y.trans Z).trans aW).trans G).trans J,by congr 1,by rw[aJ]⟩
 .have bb:i=s.length:=Ω
  subst bb;rw[A.1,o5] at aG;refine aV (λv C=>V=C/\v= .bool (decide (16384<(n:Int)))) ?_ ?_
  .rintro _ _ ⟨rfl,rfl⟩;rw[al];refine⟨λh=>⟨m.trans B,5,rfl,λbF=>Ω⟩,λh=>⟨m.trans B,0,rfl,λ_=>rfl⟩⟩
  .intro ay r;rw[aY,bR];exact r _ _ ⟨rfl,rfl⟩
theorem sT:∀ {a b:Λ} {i:Nat},(∀ (j:Nat) (x y:Int),j<i->a[j]? =σ x->b[j]? =σ y->x=y)->i<=a.length->i<=b.length->fR a b=fR (a.drop i) (b.drop i)
 |_,_,0,_,_,_=>Ξ
 |[],_,i+1,_,h,_=>by simp at h
 |_::_,[],i+1,_,_,h=>by simp at h
 |x::a,y::b,i+1,he,h1,e=>by
  have f:=he 0 x y Ω rfl rfl;subst f;simp only[fR,Int.lt_irrefl,if_false,List.drop_succ_cons];exact sT (λj u v m hu ac=>he (j+1) u v Ω hu ac) (by simpa using h1) (by simpa using e)
theorem Cy {x:Int}:am x7 cmp_isNaN_int [Δ x] w λv w'=>v= .bool false/\Ext w w':=by
 refine az func212 ?_;simp only[bz];exact⟨Ξ,Ext.refl _⟩
theorem Cz {x:Int}:am x7 Hs [Δ x,Δ y] w λv w'=>v=Δ (if x<y then-1 else if y<x then 1 else 0)/\Ext w w':=by
 refine az func160 ?_;refine Cy.mono ?_;rintro _ U _ ⟨rfl,a⟩;refine Cy.mono ?_;rintro _ V _ ⟨rfl,e⟩;simp only[aY,aN,bR,al];exact⟨λh=>⟨by rw[if_pos h],a.trans e⟩,λh=>⟨λf=>⟨by rw[if_neg h,if_pos f],a.trans e⟩,λf=>⟨by rw[if_neg h,if_neg f],a.trans e⟩⟩⟩
theorem Mt {b:Λ} (q:aF .i64 w ba a) (s:aF .i64 w bv b):am x7 Ht [ba,bv] w λv w'=>v=Δ (fR a b)/\Ext w w':=by
 refine az func161 ?_;have Y:=q.le;rw[aU an.u q];refine⟨λ_ z U=>∃i:Nat,z=Δ (i:Int)/\i<=a.length/\i<=b.length/\Ext w U/\ ∀ (j:Nat) (x y:Int),j<i->a[j]? =σ x->b[j]? =σ y->x=y,λ_ z _=>a.length-(bU z).toNat,⟨0,rfl,X3 _,X3 _,Ext.refl _,λj x y M=>Ω⟩,?_⟩;rintro _ _ U ⟨i,rfl,N,O,f,G⟩;have m:fR a b=fR (a.drop i) (b.drop i):=sT G N O;simp only[aN,al];refine⟨λr=>?_,λZ=>?_⟩
 .have r:i<a.length:=Ω
  obtain⟨x,I⟩:=aH (l:=a) r;have H:a.drop i=x::a.drop (i+1):=by rw[X7 r,(x4.1 I).2]
  rw[be an.u ai.i Ψ (q.ext f) I,aU an.u (s.ext f)];simp only[cO,al];refine⟨λh=>?_,λh=>?_⟩
  .have:b.drop i=[]:=by rw[List.drop_eq_nil_iff];omega
   rw[this,H] at m;exact⟨by rw[m];rfl,f⟩
  have A:i<b.length:=Ω
  obtain⟨y,B⟩:=aH (l:=b) A;have P:b.drop i=y::b.drop (i+1):=by rw[X7 A,(x4.1 B).2]
  rw[be an.u ai.i Ψ (s.ext f) B];refine Cz.mono ?_;rintro _ V _ ⟨rfl,J⟩;rw[H,P] at m;simp only[fR] at m;simp only[bz,al,aM];refine⟨λK=>⟨?_,f.trans J⟩,λQ=>?_⟩
  .rw[m];by_cases h1:x<y
   .rw[if_pos h1,if_pos h1]
   .by_cases p:y<x
    .rw[if_neg h1,if_pos p,if_neg h1,if_pos p]
    .rw[if_neg h1,if_neg p] at K;exact absurd rfl K
  .rw[wrap_i64 Ω Ω];refine⟨⟨i+1,rfl,r,A,f.trans J,λj R S M C E=>?_⟩,by simp only[bU];omega⟩;by_cases W:j=i
   .subst W;rw[I] at C;rw[B] at E;cases C;cases E;have L:=Z9.1 Q;by_cases h1:x<y
    .rw[if_pos h1] at L;omega
    .by_cases p:y<x
     .rw[if_neg h1,if_pos p] at L;omega
     .omega
   .exact G j R S Ω C E
 .have X:i=a.length:=Ω
  subst X;rw[List.drop_length] at m;rw[aU an.u (q.ext f),aU an.u (s.ext f)];simp only[aN,al];refine⟨λh=>⟨?_,f⟩,λh=>⟨?_,f⟩⟩
  .obtain⟨y,l,e⟩:∃y l,b.drop a.length=y::l:=⟨_,_,X7 Ω⟩;rw[m,e];rfl
  .have:b.drop a.length=[]:=by rw[List.drop_eq_nil_iff];omega
   rw[m,this];rfl
theorem Mu {x:Int} {f:x1} (h:aF .i64 w f [x,y]):am x7 Hr [f] w λv w'=>v=Δ (if x≠0 then x else y)/\Ext w w':=by
 refine az func159 ?_;rw[aU an.u h];refine bX.range 2 (λi _ U=>Ext w U/\(1<=i->x=0)/\(2<=i->y=0)) Ω ⟨Ext.refl _,Ω,Ω⟩ ?_ ?_
 .rintro i _ U k hi ⟨a,h1,e⟩ hk;rw[aN,al];refine⟨λ_=>?_,λh=>by simp at h;omega⟩
  match i,hi,h1,e,hk with
  |0,_,h1,e,hk=>
   rw[be (i:=0) an.u ai.i Ψ (h.ext a) rfl,bz,al];refine⟨λj=>⟨by rw[if_pos j],a⟩,λhe=>?_⟩;rw[aM];exact hk _ _ ⟨a,λ_=>Z9.1 he,λh=>Ω⟩
  |1,_,h1,e,hk=>
   rw[be (i:=1) an.u ai.i Ψ (h.ext a) rfl,bz,al];have m:=h1 (p8 _);refine⟨λj=>⟨by rw[if_neg Ω],a⟩,λhe=>?_⟩;rw[aM];exact hk _ _ ⟨a,λ_=>m,λ_=>Z9.1 he⟩
 .rintro _ U k ⟨a,h1,e⟩;have m:=h1 Ω;have p:=e Ω;rw[aN,al];exact⟨λh=>by simp at h,λ_=>⟨by rw[if_neg Ω,p],a⟩⟩
structure cp where
 sv:x1
 g:Nat
 sc:Λ
 cs:Λ
def eu (h:cp):List x1:=[h.sv,Γ h.g]
abbrev jH (h:cp):x1:=.agg (eu h).toArray
def qz (h:cp):Int:=da h.sc
def iz (w:x3) (a:Nat) (h:cp):Prop:=(∃e,au .i64 ai w e h.sv h.sc)/\(∀r,leads h.sv r->r≠a)/\jc h.sc
theorem iz.ab {a:Nat} {h:cp} (aG:iz w a h) (I:ah S w w') (e:∀r,leads h.sv r->¬S r):iz w' a h:=by
 obtain⟨⟨f,hm⟩,j⟩:=aG;exact⟨⟨f,bp hm I e⟩,j⟩
theorem iz.one {a:Nat} {h:cp} (aG:iz w a h):∀u∈eu h,u.oneCell'=true:=by
 obtain⟨⟨e,hm⟩,_⟩:=aG;intro u hu;simp[eu] at hu;rcases hu with rfl|rfl
 .exact hm.ls.cells.2
 .rfl
def e2 (w:x3) (g:Nat) (v:x1) (L:List cp):Prop:=bg eu 2 cW w g v L/\ ∀h∈L,iz w g h
theorem e2.ext {g:Nat} {L:List cp} (h:e2 w g v L) (I:Ext w w'):e2 w' g v L:=⟨h.1.ext I,λx a=>(h.2 x a).ab (I.ab λ_=>False) λ_ _ h=>h⟩
theorem e2.at {g:Nat} {L:List cp} (h:e2 w g v L) {i:Nat} {x:cp} (hi:L[i]? =σ x):iz w g x:=h.2 x (x5 hi)
theorem sU {g:Nat} {L:List cp} {i:Nat} {x:cp} {K:x1->Prop} (a:y=(i:Int)) (h:e2 w g v L) (hi:L[i]? =σ x):
  aa x7 (j5 gi v (Δ y)) w (λp=>aa x7 (u4 cW p) w K)=K (jH x):=by
 rw[dr a gi.u cW.i h.1 (x4.1 hi).1,bO cW.p cW.i rfl (h.1.range hi)]
theorem Mv {g:Nat} {L:List cp} {i:Nat} {x:cp} {K:Unit->x3->Prop} (m:y=(i:Int)) (h:e2 w g v L) (hi:i<L.length) (hk:iz w g x)
  (q:∀w',ah (λr=>leadsTo v r) w w'->e2 w' g v (L.set i x)->K () w'):aa x7 (j5 gi v (Δ y)) w λp=>aC x7 (o6 cW p (jH x)) w K:=by
 rw[dr m gi.u cW.i h.1 hi];refine KD (f:=eu) cW.i h.1 rfl hk.one hi λw' e _ h'=>q w' e ⟨h',λz a=>?_⟩;rcases X6 a with a|rfl
 .exact (h.2 z a).ab e λr j he=>(h.2 z a).2.1 r j (h.1.leads he).1
 .exact hk.ab e λr j he=>hk.2.1 r j (h.1.leads he).1
abbrev Mw:x1:=.func (.func zk) #[] #[]
def sV (a b:cp):Int:=let c:Int:=if (a.sc.length:Int)<b.sc.length then-1 else if (b.sc.length:Int)<a.sc.length then 1 else 0
 if c≠0 then c else fR a.sc b.sc
theorem Mx {a b:cp} (f:jc a.sc) (j:jc b.sc):sV a b<0↔qz a<qz b:=by
 have m:=(vT f j).1;unfold qz sV;simp only;generalize p:(if (a.sc.length:Int)<b.sc.length then (-1:Int) else if (b.sc.length:Int)<a.sc.length then 1 else 0)=c;rw[m,<-p];by_cases h1:(a.sc.length:Int)<b.sc.length
 .rw[if_pos h1,if_pos Ω];exact⟨λ_=>.inl Ω,λ_=>Ω⟩
 .by_cases e:(b.sc.length:Int)<a.sc.length
  .rw[if_neg h1,if_pos e,if_pos Ω];exact⟨λh=>Ω,λh=>by rcases h with h|h<;>omega⟩
  .rw[if_neg h1,if_neg e,if_neg Ω];exact⟨λh=>.inr ⟨Ω,h⟩,λh=>by rcases h with h|h;omega;exact h.2⟩
theorem My {x:Nat} {a b:cp} (z:iz w x a) (A:iz w x b):am x7 zk [jH a,jH b] w λv w'=>Ext w w'/\v=Δ (sV a b):=by
 obtain⟨⟨ga,q⟩,_,J⟩:=z;obtain⟨⟨K,r⟩,_,L⟩:=A;refine az func158 ?_;refine bo λg1 U M B h=>?_;refine bo λC V N y j=>?_;have h:af U g1 cW [a.sv,Γ a.g]:=by
  obtain⟨_,_,_,e⟩:=dg q.ls;simp only[jH,eu,e] at h ⊢;exact h
 have j:af V C cW [b.sv,Γ b.g]:=by
  obtain⟨_,_,_,e⟩:=dg r.ls;simp only[jH,eu,e] at j ⊢;exact j
 intro O s _ _;have f:=(B.trans y).trans s;have f1:=(h.ext y).ext s;have f2:=j.ext s;rw[aT cW.p 0 f1 rfl,aU an.u (q.ls.ext f),aT cW.p 0 f2 rfl,aU an.u (r.ls.ext f),
  aT cW.p 0 f1 rfl,aT cW.p 0 f2 rfl]
 refine Cz.mono ?_;rintro _ P _ ⟨rfl,m⟩;refine⟨.inl m,?_⟩;refine (Mt ((q.ls.ext f).ext m) ((r.ls.ext f).ext m)).mono ?_;rintro _ Q _ ⟨rfl,E⟩;refine r5 (l:=[if (a.sc.length:Int)<b.sc.length then (-1:Int) else if (b.sc.length:Int)<a.sc.length then 1 else 0,fR a.sc b.sc]) an.u ai.i Ω rfl Ψ λR S W X G H=>?_;refine (Mu H.ls).mono ?_;rintro _ Y _ ⟨rfl,I⟩;exact⟨((((f.trans m).trans E).trans G).trans I),rfl⟩
theorem Mz {g:Nat} {L:List cp} (h:e2 w g v L) (B:L.length<65536):
  am x7 Hq [v,Mw] w λ_ w'=>ah (λr=>leadsTo v r) w w'/\ ∃M,M.Perm L/\sB qz M 0 M.length/\e2 w' g v M:=by
 have j:∀ {m:x3} {a:cp},ah (λr=>r=g) w m->iz w g a->iz m g a:=λf e=>e.ab f λr s he=>e.2.1 r s he;refine (BF KN (G:=iz w g) (num:=qz) (cf:=sV) (cap:=#[]) KR KT (λa e=>e.one) (λa _=>rfl) (λa b e z=>Mx e.2.2 z.2.2) (Enters.of x7 KU rfl Ψ) h.1 h.2 B λm a b f e z=>My (j f e) (j f z)).mono ?_;rintro _ w' _ ⟨f,M,A,hu,hm⟩;have C:ah (λr=>r=g) w w':=f.mono λr _ s=>(h.1.leads s).1;exact⟨f,M,A,λp q x y _ E _ I H=>hu p q x y E I H,hm,λx I=>j C (h.2 x (A.mem_iff.1 I))⟩
theorem MA {m:Λ} (ac:ke l) (p:l.Nodup) (e:m.Perm l) (J:m.Pairwise (·<= ·)):m=bl l:=by
 refine vU (f:=λx=>x) ?_ (vS l) λx=>?_
 .have q:m.Nodup:=e.nodup_iff.2 p;exact (List.Pairwise.and J q).imp λ{a b} h=>by
   obtain⟨h1,j⟩:=h;have j:a≠b:=j;omega
 .rw[e.mem_iff,qu ac]
theorem MB (h:∀z∈l,1<=z/\z<=32) (a:dq l=false):aK l<=4096:=by
 have:=of_decide_eq_false a;rw[vW h] at this;omega
theorem MC {f:bZ} {d:gV} {x:cv} {m:Bool} {S R:ak} (q:e8 N f) (bm:N<=60000) (P:x∈f.funs) (aB:qx f.k x d) (aC:ao.rep m S R w cs d):
  am x7 Hm [.agg cs.toArray] w λv w'=>Ext w w'/\ ∃sv gs G Q W,v= .tuple #[sv,Γ G]/\w.heap.size<=gs/\au .i64 ai w' gs sv (bl x.scope)/\db w' G Q W (bV f.sizes (bl x.scope)) f.k (hK f.sizes f.k x).2:=by
 obtain⟨sv,ag,bp,aL,bq,rfl,H,aD⟩:=sS aC;obtain⟨aE,aF,aG,br,bt,aI⟩:=aB;obtain⟨a,aJ,aK⟩:=q.funs x P;have ac:=sH a q.sizes.2.1;have bu:=a.len;rw[aE] at H;have aN:∀z∈x.sizes,1<=z/\z<=32:=λz aa=>by
  rw[a.sizes] at aa;obtain⟨v,aO,rfl⟩:=n9.1 aa;have bw:=a.scope.2 v aO;refine q.sizes.2.2 _ ?_;rw[v8,x6 Ω];exact T9 _
 have aP:=MB aN aK;have X:=sG ac a.scope.1;have bx:(bl x.scope).length<=6:=by rw[X.length_eq];exact aJ
 refine az func149 ?_;refine bo λaq U bz ad A=>?_;have A:af U aq cG [sv,Γ ag]:=by obtain⟨_,_,_,rfl⟩:=dg H;exact A
 rw[aT cG.p 1 A rfl];refine (Cm (aD.ext ad).is Ω).mono ?_;rintro _ V _ ⟨Y,_,B⟩;rw[aF] at B;obtain⟨g,bA,bB,aQ,rfl,bC,bD,B,ae⟩:=B aP;rw[aG] at B;rw[bi,bj,aT cG.p 0 (A.ext Y) rfl];have C:=ad.trans Y;refine vZ (H.ext C) Ω λv aj gs bF I bG aR J K=>?_;have aS:=MA ac a.scope.1 aR J;subst aS;have bH:=C.size;rw[aU an.u K.ls];refine iU (k:=.i64) an.u ai.i Ω Ω λgo al bI L ap=>?_;have aV:au .i64 ai al go (.slice (σ ⟨go,0,ν⟩) (bl x.scope).length (bl x.scope).length) (r9 (bl x.scope).length 0):=au.of (bT.full (k:=1) (n:=(bl x.scope).length) ap Ξ (by simp[maxLen];omega));rw[aU an.u (K.ls.ext L)];have bJ:=ap.lt;have M:(fS x.scope (bl x.scope)).length=(bl x.scope).length:=by simp[fS]
 have aW:=I.trans L;have bK:=C.trans aW;refine ch.range (bl x.scope).length (λi h=>ah (λr=>r=go) al h/\au .i64 ai h go (.slice (σ ⟨go,0,ν⟩) (bl x.scope).length (bl x.scope).length) ((fS x.scope (bl x.scope)).take i++r9 ((bl x.scope).length-i) 0)) Ω ⟨ah.refl _ _,by simpa using aV⟩ ?_ ?_
 .rintro i h k hi ⟨O,E⟩ hk;obtain⟨v,Z⟩:=aH (l:=(bl x.scope)) hi;have s:Ext aj h:=L.put O Ω;have aX:Ext w h:=(C.trans I).trans s;have aY:v∈x.scope:=X.mem_iff.1 (x5 Z);refine bE Ω ?_;rw[be an.u ai.i Ψ (K.ls.ext s) Z];have aZ:Ext U h:=(Y.trans I).trans s;rw[aT cG.p 0 (A.ext aZ) rfl];refine (Cr (H.ext aX)).mono ?_;rintro _ a1 _ ⟨y,r,rfl,a2⟩;have av:=pd aY;have a6:r=((x.scope.idxOf v:Nat):Int):=(a2 _ av).2 λj bL a7=>by have:=kc a.scope.1 a7 av;omega
  rw[hn rfl an.u ai.i (E.ext y) (by simp[M];omega)];refine ho ai.i (E.ext y) (by simp[M];omega) λbM a8 bN aw=>?_;rw[aM];refine hk _ ⟨(O.trans (y.ab _)).trans a8,?_⟩;have ba:(fS x.scope (bl x.scope))[i]? =σ r:=by rw[a6];exact Cg Z
  have e:((fS x.scope (bl x.scope)).take i++r9 ((bl x.scope).length-i) 0).set i r=(fS x.scope (bl x.scope)).take (i+1)++r9 ((bl x.scope).length-(i+1)) 0:=by
   have bb:((fS x.scope (bl x.scope)).take i).length=i:=by rw[l9,M];omega
   rw[T3 _ _ Ω,bb,V6,show (bl x.scope).length-i=((bl x.scope).length-(i+1))+1 by omega,List.replicate_succ,List.set_cons_zero,u9,ba,l7,T0];rfl
  rw[e] at aw;exact aw
 .rintro h k ⟨O,E⟩;have s:Ext aj h:=L.put O Ω;have ax:Ext V h:=I.trans s;refine cm Ω ?_;rw[V6,List.replicate_zero,U2,j9 Ω] at E;have bc:∀t,di x.sizes t->bn x.sizes aQ t=jB x f.k t:=λt bd=>by rw[ae.2 t bd];exact aI t
  obtain⟨ay,bf⟩:=LB q P ae.1 bc;have bg:Good (fS x.scope (bl x.scope)) x.sizes.length:=by
   rw[a.sizes,u7];exact sK a.scope.1 X
  have bh:=(pc q P);refine (Mh (B.ext ax) q.k E.ls (by rw[M];omega) λ_=>?_).mono ?_
  .rw[ay];exact bh.small
  .rintro _ a1 _ ⟨y,_,bk⟩;obtain⟨G,Q,W,rfl,aA⟩:=bk bg;rw[bi,bj];rw[ay,bf] at aA;exact⟨(C.trans ax).trans y,v,gs,G,Q,W,rfl,Ω,(K.ext s).ext y,aA⟩
theorem MD {P:W0} {t x f:r8} {k y g o cap:Nat} {z:x1} (h:P.underlying t=σ (.slice e)) (hi:aS P e k y z) (A:z.cells.size=k) (h1:∀u∈dK z.cells (n*k),u.oneCell'=true)
  (a:af w g f cs) (H:o+n*k<=cs.length) (p:∀w',ah (λr=>r=g) w w'->af w' g f (over cs o (dK z.cells (n*k)))->K (.tuple #[]) w'):aC P (Z0.clear_ #[t] x #[.slice (σ ⟨g,o,ν⟩) n cap]) w K:=by
 obtain⟨i,hi,I,rfl,B⟩:=hi;have C:∀w,(zeroValue e).run P w= .ok z w:=λw=>by simp[zeroValue,typeInfo,hi,B]
 have E:(Z0.zeroCells z.cells n).toList=dK z.cells (n*k):=by
  unfold Z0.zeroCells dK;rw[A]
 have q:=run_storeCells_cells (P:=P) g o (dK z.cells (n*k)) 0 w (λj F=>by
   rw[oB] at F;rw[Nat.add_zero,a.cell (x6 (show o+j<cs.length by omega))];rfl) (λj _=>a.frozen _ _) h1
 simp only[Nat.add_zero] at q;obtain⟨G,s⟩:=nj (dK z.cells (n*k)) cs o w a;rcases Q0 n with rfl|J
 .refine .of (v:=.tuple #[]) (w':=w) (by simp[Z0.clear_,run_underlying h]) (cL.refl _) (p w (ah.refl _ _) ?_);rw[Nat.zero_mul,c8 (oB z.cells 0)];exact a
 .obtain⟨m,rfl⟩:∃m,n=m+1:=⟨n-1,Ω⟩;refine .of (v:=.tuple #[]) (w':=_) (by simp[Z0.clear_,run_underlying h,C,E,q]) (s.ct a) (p _ s.ab G)
theorem dY {α:Type} {f:α->List x1} {k:Nat} {g:Nat} {L:List α} (h:bg f k e w g v L) (j:leadsTo v r):r=g/\ ∃cs,af w g e cs:=by
 obtain⟨_,⟨rfl,_⟩|⟨cap,cs,rfl,m,_⟩⟩:=h.1
 .exact (fg j).elim
 .obtain⟨a,n,c,h1,p⟩:=j;cases h1;exact⟨p.symm,cs,m⟩
theorem ME {α:Type} {f:α->List x1} {k:Nat} {g:Nat} {L:List α} (h:bg f k e w g v L) (a:L≠[]):∃cs n c,v= .slice (σ ⟨g,0,ν⟩) n c/\af w g e cs:=by
 obtain⟨_,⟨rfl,j⟩|⟨cap,cs,rfl,m,_⟩⟩:=h.1
 .exact absurd (c8 j) a
 .exact⟨cs,_,_,rfl,m⟩
theorem e2.mk {g:Nat} {L:List cp} (h:bg eu 2 cW w g v L) (a:∀x∈L,(∃e,au .i64 ai w e x.sv x.sc)/\jc x.sc):e2 w g v L:=by
 refine⟨h,λx I=>⟨(a x I).1,λr f=>?_,(a x I).2⟩⟩;obtain⟨cs,n,c,_,j⟩:=ME h (λm=>by rw[m] at I;cases I);obtain⟨⟨e,hm⟩,_⟩:=a x I;exact b4 hm j Φ f
def Sem (w:x3) (k:Int) (sizes:Λ) (L:List cp):Prop:=∀x∈L,∃a e,db w x.g a e (bV sizes x.sc) k x.cs
theorem wc {g:Nat} {p:x1} {cs:Λ} (h:db w g m p aj k cs) (e:ah S w w') (f:∀r,S r-> ∃c,af w r cW c):db w' g m p aj k cs:=by
 obtain⟨⟨a7,gs,h1,q,s⟩,x⟩:=h;refine⟨⟨a7,gs,h1.ab e λJ=>?_,bp q e λr j J=>?_,bp s e λr j J=>?_⟩,x⟩
 .obtain⟨c,a⟩:=f g J;unfold af at h1 a;rw[h1] at a;have:=(Obj.cells.inj (j6 a)).2.1;exact absurd this Φ
 .obtain⟨c,a⟩:=f r J;exact b4 q a Φ j rfl
 .obtain⟨c,a⟩:=f r J;exact b4 s a Φ j rfl
theorem Sem.ext {L:List cp} (h:Sem w k sizes L) (I:Ext w w'):Sem w' k sizes L:=λx a=>by
 obtain⟨e,f,j⟩:=h x a;exact⟨e,f,j.ext I⟩
theorem Sem.row {L M:List cp} {g:Nat} (h:Sem w k sizes L) (a:e2 w g v M) (e:ah (λr=>leadsTo v r) w w'):Sem w' k sizes L:=λx f=>by
 obtain⟨j,m,p⟩:=h x f;exact⟨j,m,wc p e λr q=>by obtain⟨rfl,c,s⟩:=dY a.1 q;exact⟨c,s⟩⟩
def dQ (h:cp):cK:=(h.sc,h.cs)
theorem MF {c:Int}:am x7 uP [Δ c] w λv w'=>v= .bool (decide (0<c))/\Ext w w':=by
 refine az func155 ?_;rw[bR];exact⟨rfl,Ext.refl _⟩
theorem MG (h:aF .i64 w sv l):
  am x7 Ho [sv,.func (.func uP) #[] #[]] w λv w'=>v= .bool (l.any λc=>decide (0<c))/\Ext w w':=by
 refine az func154 ?_;refine am.mono (K:=λv w'=>Ext w w'/\ ∃r:Int,v=Δ r/\(0<=r↔ ∃c∈l,0<c)) ?_ ?_
 .refine az func209 ?_;rw[aU ax.u h];refine bX.range l.length (λi _ U=>Ext w U/\ ∀c∈l.take i,¬0<c) h.le ⟨Ext.refl _,λc a=>by simp at a⟩ ?_ ?_
  .rintro i _ U k hi ⟨I,f⟩ hk;refine bE Ω ?_;obtain⟨x,j⟩:=aH (l:=l) hi;rw[be ax.u ap.i Ψ (h.ext I) j];show am x7 uP [Δ x] U _;refine MF.mono ?_;rintro _ V _ ⟨rfl,m⟩;rw[al];refine⟨λe=>⟨I.trans m,i,rfl,⟨λ_=>⟨x,x5 j,e⟩,λ_=>Ω⟩⟩,λp=>?_⟩;rw[aM];refine hk _ _ ⟨I.trans m,λc a=>?_⟩;rw[u9,j] at a;rcases o7.1 a with a|a
   .exact f c a
   .simp at a;subst a;exact p
  .rintro _ U k ⟨I,f⟩;rw[o5] at f;rw[aN,al];exact⟨λh=>Ω,λ_=>⟨I,-1,rfl,⟨λh=>Ω,λ⟨c,a,e⟩=>absurd e (f c a)⟩⟩⟩
 .rintro _ U _ ⟨I,r,rfl,q⟩;rw[cO];refine⟨?_,I⟩;congr 1;rw[V5,decide_eq_true_eq,List.any_eq_true,q];exact⟨λ⟨c,a,e⟩=>⟨c,a,decide_eq_true e⟩,λ⟨c,a,e⟩=>⟨c,a,of_decide_eq_true e⟩⟩
theorem CA {h:Nat} {x:cp} {m:x1} (I:iz w h x) (q:db w x.g j m aj k x.cs):am x7 pN [jH x] w λv w'=>v= .bool (!fB (dQ x))/\Ext w w':=by
 obtain⟨⟨z,hm⟩,_⟩:=I;refine az func153 ?_;refine bo λaq U A f a=>?_;have a:af U aq cW [x.sv,Γ x.g]:=by
  obtain⟨_,_,_,e⟩:=dg hm.ls;simp only[jH,eu,e] at a ⊢;exact a
 rw[aT cW.p 1 a rfl];refine (mr (q.ext f)).mono ?_;rintro B V _ ⟨r,C,E,s⟩;refine (MG s.ls).mono ?_;rintro _ G _ ⟨rfl,y⟩;rw[bI];exact⟨rfl,(f.trans r).trans y⟩
theorem MH {g:Nat} {L:List cp} (h:e2 w g v L) (J:Sem w k sizes L):
  am x7 zi [v,.func (.func pN) #[] #[]] w λr w'=>Ext w w'/\((r=Δ (-1)/\ ∀x∈L,fB (dQ x)=true)\/ ∃i:Nat,r=Δ (i:Int)/\i<L.length/\(∀x∈L.take i,fB (dQ x)=true)/\ ∀x,L[i]? =σ x->fB (dQ x)=false):=by
 refine az func150 ?_;rw[e9 gi.u h.1];refine bX.range L.length (λi _ U=>Ext w U/\ ∀x∈L.take i,fB (dQ x)=true) h.1.le ⟨Ext.refl _,λc a=>by simp at a⟩ ?_ ?_
 .rintro i _ U k hi ⟨I,e⟩ hk;refine bE Ω ?_;obtain⟨x,f⟩:=aH (l:=L) hi;rw[sU rfl (h.ext I) f];show am x7 pN [jH x] U _;obtain⟨z,A,p⟩:=J x (x5 f);refine (CA ((h.ext I).at f) (p.ext I)).mono ?_;rintro _ V _ ⟨rfl,j⟩;rw[cb];refine⟨λq=>⟨I.trans j,.inr ⟨i,rfl,hi,e,λy m=>by rw[f] at m;cases m;simpa using q⟩⟩,λs=>?_⟩;rw[aM];refine hk _ _ ⟨I.trans j,λc a=>?_⟩;rw[u9,f] at a;rcases o7.1 a with a|a
  .exact e c a
  .simp at a;subst a;simpa using s
 .rintro _ U k ⟨I,e⟩;rw[o5] at e;rw[aN,al];exact⟨λh=>Ω,λ_=>⟨I,.inl ⟨rfl,e⟩⟩⟩
def fT (x:cp):Bool:=fB (dQ x)
theorem we {L:List cp} {x:cp} (I:L[j]? =σ x):(L.take (j+1)).filter fT=if fT x=true then (L.take j).filter fT++[x] else (L.take j).filter fT:=by
 rw[u9,I,l7,List.filter_append];by_cases h:fT x=true
 .rw[if_pos h];simp[h]
 .rw[if_neg h];simp[h]
theorem CB {z:Array x1} (a:0<z.size) (h:∀u∈z.toList,u.oneCell'=true):∀u∈dK z n,u.oneCell'=true:=λu hu=>by
 unfold dK at hu;rw[Array.toList_map,n9] at hu;obtain⟨i,_,rfl⟩:=hu;have e:i % z.size<z.size:=Nat.mod_lt _ a;rw[getElem!_pos z (i % z.size) e];exact h _ Ξ
theorem MI {g:Nat} {L:List cp} (h:e2 w g v L) (J:Sem w k sizes L) (ba:L.length<=100000):
  am x7 Hp [v,.func (.func pN) #[] #[]] w λf w'=>ah (λr=>leadsTo v r) w w'/\e2 w' g f (L.filter fT)/\ ∀r,leadsTo f r->leadsTo v r:=by
 refine az func156 ?_;refine (MH h J).mono ?_;rintro r U _ ⟨E,q⟩;rcases q with⟨rfl,O⟩|⟨P,rfl,ax,O,aA⟩
 .rw[bh,al];refine⟨λ_=>⟨E.ab _,?_,λr q=>q⟩,λh=>absurd rfl h⟩;rw[List.filter_eq_self.2 (show ∀x∈L,fT x=true from O)];exact h.ext E
 rw[bh,al];refine⟨λh=>Ω,λ_=>?_⟩;rw[aM,wrap_i64 Ω Ω];obtain⟨Q,ad⟩:=aH (l:=L) ax;refine⟨λR S V=>∃ (i j:Nat) (M:List cp),R=Δ (i:Int)/\S=Δ (j:Int)/\i<j/\j<=L.length/\M.length=L.length/\M.take i=(L.take j).filter fT/\M.drop j=L.drop j/\(∀x∈M,x∈L)/\e2 V g v M/\ah (λr=>leadsTo v r) w V,
  λ_ S _=>L.length-(bU S).toNat,⟨P,P+1,L,rfl,by congr 1,Ω,Ω,rfl,?_,rfl,λx I=>I,h.ext E,E.ab _⟩,?_⟩
 .have aB:¬fT Q=true:=by rw[show fT Q=false from aA Q ad];simp
  rw[we ad,if_neg aB,List.filter_eq_self.2 (show ∀x∈L.take P,fT x=true from O)]
 rintro _ _ V ⟨i,j,M,rfl,rfl,bb,bc,ae,z,af,ag,e,G⟩;have aD:Sem V k sizes L:=J.row h G;rw[e9 gi.u e.1,aN,al];refine⟨λW=>?_,λbd=>?_⟩
 .have W:j<L.length:=Ω
  obtain⟨x,I⟩:=aH (l:=L) W;have H:M[j]? =σ x:=by
   have h1:(M.drop j)[0]? =(L.drop j)[0]?:=by rw[af]
   rw[List.getElem?_drop,List.getElem?_drop,Nat.add_zero] at h1;rw[h1,I]
  have ai:M.drop (j+1)=L.drop (j+1):=by
   have h1:(M.drop j).drop 1=(L.drop j).drop 1:=by rw[af]
   rw[List.drop_drop,List.drop_drop] at h1;exact h1
  refine aV (λR K=>∃ (B:Nat) (s:List cp),R=Δ (B:Int)/\B<j+1/\s.length=L.length/\s.take B=(L.take (j+1)).filter fT/\s.drop (j+1)=L.drop (j+1)/\(∀x∈s,x∈L)/\e2 K g v s/\ah (λr=>leadsTo v r) w K) ?_ ?_
  .rintro _ K ⟨B,s,rfl,h1,X,aE,aF,aG,aI,aJ⟩;rw[aM,wrap_i64 Ω Ω];exact⟨⟨B,j+1,s,rfl,rfl,h1,W,X,aE,aF,aG,aI,aJ⟩,by simp only[bU];omega⟩
  .intro ay aj;rw[sU rfl e H];refine bG cW.i λaq K be aK aL=>?_;refine ck (vs:=eu x) cW.i rfl rfl (e.at H).one aL λak aO bf an=>?_;have Y:Ext V ak:=aK.put aO Ω;rw[bO cW.p cW.i rfl an.range];show am x7 pN [jH x] ak _;obtain⟨bg,bi,aP⟩:=aD x (x5 I);refine (CA ((e.ext Y).at H) (aP.ext Y)).mono ?_;rintro _ bj _ ⟨rfl,ao⟩;have C:=Y.trans ao;rw[bI,Bool.not_not,cb];refine⟨λhk=>?_,λaQ=>?_⟩
   .rw[bO cW.p cW.i rfl (an.ext ao).range];refine Mv rfl (e.ext C) Ω ((e.ext C).at H) λbk aR aS=>?_;rw[aM,wrap_i64 Ω Ω];refine aj _ _ ⟨i+1,M.set i x,rfl,Ω,by simp[ae],?_,?_,λy A=>?_,aS,(G.trans (C.ab _)).trans aR⟩
    .have Z:fT x=true:=hk;rw[we I,if_pos Z,u9,c9 Ω,l7,List.take_set_of_le (p8 _),z]
    .rw[List.drop_set_of_lt Ω,ai]
    .rcases X6 A with A|rfl
     .exact ag y A
     .exact x5 I
   .have Z:¬fT x=true:=by rw[show fT x=false from aQ];simp
    exact aj _ _ ⟨i,M,rfl,Ω,ae,by rw[we I,if_neg Z,z],ai,ag,e.ext C,G.trans (C.ab _)⟩
 .have aT:j=L.length:=Ω
  subst aT;rw[o5] at z;obtain⟨⟨bl,aU⟩,ap⟩:=e.1;rcases aU with⟨_,bm⟩|⟨cap,cs,ac,aW,bn,aX,aY,aZ⟩
  .omega
  subst ac;have a1:(aa x7 (V3 gi (.slice (σ ⟨g,0,ν⟩) M.length cap) (σ (Δ (i:Int))) ν ν) V λa2=>
    aC x7 (Z0.clear_ #[gi] IG #[a2]) V λu N=>
    aa x7 (V3 gi (.slice (σ ⟨g,0,ν⟩) M.length cap) ν (σ (Δ (i:Int))) ν) N λa6=>
    (λf w'=>ah (λr=>leadsTo (.slice (σ ⟨g,0,ν⟩) M.length cap) r) w w'/\e2 w' g f (L.filter fT)/\ ∀r,leadsTo f r->leadsTo (.slice (σ ⟨g,0,ν⟩) M.length cap) r) a6 N):=by
   rw[hF (l:=i) (h:=M.length) (m:=cap) gi.u cW.i (ng i _ rfl) jv fw Ω Ω (p8 _),if_neg Ω];simp only[Z3,T1];refine MD (g:=g) (o:=0+i*2) (n:=M.length-i) (k:=2) gi.u cW.i rfl ?_ aW Ω λN au a7=>?_
   .exact CB Φ Φ
   rw[hF (l:=0) (h:=i) (m:=cap) gi.u cW.i ju (nh i _ rfl) fw Ω Ω (p8 _),if_neg Ω];simp only[Z3,T1,Nat.zero_mul,X0,Nat.sub_zero];have a8:(dK (x1.agg #[.slice ν 0 0,.pointer ν]).cells ((M.length-i)*2)).length=(M.length-i)*2:=oB _ _;have bo:(M.flatMap eu).length=M.length*2:=h0 ap;have av:(L.filter fT).length=i:=by rw[<-z,l9];omega
   have key:(λf w'=>ah (λr=>leadsTo (.slice (σ ⟨g,0,ν⟩) M.length cap) r) w w'/\e2 w' g f (L.filter fT)/\ ∀r,leadsTo f r->leadsTo (.slice (σ ⟨g,0,ν⟩) M.length cap) r) (.slice (σ ⟨g,0,ν⟩) (L.filter fT).length cap) N:=by
    refine⟨G.trans (au.mono λr _ he=>⟨_,_,_,rfl,he.symm⟩),⟨⟨⟨h0 (k:=2) (λy _=>rfl),.inr ⟨cap,_,rfl,a7,Ω,aX,by rw[lH,aY],?_⟩⟩,λy _=>rfl⟩,λy A=>?_⟩,λr q=>?_⟩
    .rw[av,<-z,<-qn i ap,<-aZ,List.take_take,mg (by rw[a8];omega),T0,List.take_append_of_le_length (by rw[l9];omega),List.take_take];congr 1;omega
    .have aw:y∈M:=by rw[<-z] at A;exact S3 A
     exact (e.2 y aw).ab au λr q he=>(e.2 y aw).2.1 r q he
    .obtain⟨a,n,c,h1,X⟩:=q;cases h1;exact⟨_,_,_,rfl,X⟩
   rw[av] at key;exact key
  exact a1
theorem qA {k:o4} {g cap:Nat} {b:Option Addr} (h:au k e w g (.slice b n cap) l) (q:0<l.length):
  b=σ ⟨g,0,ν⟩/\n=l.length/\ ∃cs,af w g e cs/\n<=cap/\cap<=maxLen/\cs.length=cap/\cs.take n=ints k l:=by
 obtain⟨_,⟨_,h1⟩|⟨r,cs,h1,a,f,j,m,p⟩⟩:=h
 .omega
 .cases h1;exact⟨rfl,rfl,cs,a,f,j,by simpa using m,by simpa using p⟩
theorem MJ {g cap:Nat} (h:au .i64 ai w g (.slice (σ ⟨g,0,ν⟩) n cap) l) (m:j<l.length):aF .i64 w (.slice (σ ⟨g,j,ν⟩) (n-j) (cap-j)) (l.drop j):=by
 obtain⟨_,p,cs,a,h1,q,r,f⟩:=qA h Ω;have:=Jg (o:=j) (k:=n-j) (c:=cap-j) a Ω Ω Ω;refine aF.of (n:=n-j) ?_;have e:(cs.drop j).take (n-j)=ints .i64 (l.drop j):=by
  rw[<-List.drop_take,f,ints,ints,List.map_drop]
 rw[e] at this;exact this
theorem MK {g:Nat} (h:au .i64 ai w g sv l) (aT:l.length<=1000):
  am x7 HX [sv] w λv w'=>ah (λr=>r=g) w w'/\au .i64 ai w' g v (dedup l l.length):=by
 refine az func203 ?_;rw[aU an.u h.ls];simp only[aN,al];refine⟨λaW=>⟨ah.refl _ _,?_⟩,λaX=>?_⟩
 .rw[sQ (p8 _) (λi hi W=>Ω),o5];exact h
 obtain⟨n,s⟩:∃n,l.length=n:=⟨_,rfl⟩;obtain⟨cap,rfl⟩:∃cap,sv= .slice (σ ⟨g,0,ν⟩) n cap:=by
  obtain⟨_,⟨_,h1⟩|⟨ap,cs,h1,_⟩⟩:=id h
  .omega
  .exact⟨ap,by rw[h1,s]⟩
 obtain⟨_,_,_,_,aY,aq,_⟩:=qA h Ω;refine⟨λ_ t U=>∃j:Nat,t=Δ (j:Int)/\1<=j/\j<=n/\Ext w U/\ ∀i,i<j->0<i->l[i]? ≠l[i-1]?,λ_ t _=>n-(bU t).toNat,⟨1,rfl,Ω,Ω,Ext.refl _,λi h1 X=>Ω⟩,?_⟩;rintro aZ _ U ⟨j,rfl,a1,Y,A,I⟩;rw[aU an.u (h.ls.ext A)];simp only[aN,al,en];refine⟨λav V aw _ _=>?_,λa2=>⟨A.ab _,?_⟩⟩
 .have av:j<n:=Ω
  have B:=A.trans aw;have Z:=h.ls.ext B;obtain⟨a,J⟩:=aH (l:=l) (i:=j) Ω;obtain⟨b,K⟩:=aH (l:=l) (i:=j-1) Ω;rw[be an.u ai.i Ψ Z J];simp only[dJ];rw[wrap_i64 Ω Ω,fx (i:=j-1) Ω an.u ai.i Ψ Z K];simp only[bh,al,aM];refine⟨λL=>?_,λL=>?_⟩
  .subst L;rw[hF an.u ai.i (l:=j) (h:=n) (m:=cap) pS jv fw Ω Ω Ω,if_neg Ω];have ax:V4 (λx:Addr=>x.add (j*1)) (σ ⟨g,0,ν⟩)=σ ⟨g,j,ν⟩:=by simp[T1]
   rw[ax];have aa:dedup l (j+1)=l.take j:=by rw[v7 Ω (by rw[J,K]),sQ Ω I]
   refine⟨λM t N=>∃ (q e:Nat) (f:Λ),M=Δ (q:Int)/\t=Δ (e:Int)/\1<=e/\j+e<=n/\ah (λr=>r=g) w N/\au .i64 ai N g (.slice (σ ⟨g,0,ν⟩) n cap) f/\f.length=n/\
     q=(dedup l (j+e)).length/\f.take q=dedup l (j+e)/\q<=j+e-1/\ ∀i,j+e-1<=i->f[i]? =l[i]?,λ_ t _=>n-(bU t).toNat,
    ⟨j,1,l,rfl,rfl,Ω,Ω,B.ab _,h.ext B,s,by rw[aa,l9];omega,by rw[aa],Ω,λi _=>rfl⟩,?_⟩
   rintro _ _ N ⟨q,e,f,rfl,rfl,a6,a7,O,ac,ad,ae,C,aA,E⟩;rw[hE an.u];simp only[aN,al,en];refine⟨λaf=>?_,λaf=>?_⟩
   .have af:j+e<n:=Ω
    refine aV (λM P=>∃ (q:Nat) (f:Λ),M=Δ (q:Int)/\ah (λr=>r=g) w P/\au .i64 ai P g (.slice (σ ⟨g,0,ν⟩) n cap) f/\f.length=n/\
     q=(dedup l (j+(e+1))).length/\f.take q=dedup l (j+(e+1))/\q<=j+(e+1)-1/\ ∀i,j+(e+1)-1<=i->f[i]? =l[i]?) ?_ ?_
    .rintro _ P ⟨q,f,rfl,h1,X,aB,aC,aD,aE,aF⟩;simp only[aM];rw[wrap_i64 Ω Ω];exact⟨⟨q,e+1,f,rfl,rfl,Ω,Ω,h1,X,aB,aC,aD,aE,aF⟩,by simp only[bU];omega⟩
    .intro ay ag a8 Q _ _;have G:=ac.ext Q;have R:=MJ (j:=j) G Ω;obtain⟨y,H⟩:=aH (l:=l) (i:=j+e) Ω;obtain⟨z,S⟩:=aH (l:=l) (i:=j+e-1) Ω;have aj:(f.drop j)[e]? =σ y:=by rw[List.getElem?_drop,E _ Ω,H]
     have aG:(f.drop j)[e-1]? =σ z:=by rw[List.getElem?_drop,E _ Ω,<-S];congr 1;omega
     rw[be an.u ai.i Ψ R aj];simp only[dJ];rw[wrap_i64 Ω Ω,fx (i:=e-1) Ω an.u ai.i Ψ R aG];simp only[bz,al,aM];refine⟨λp=>?_,λp=>?_⟩
     .rw[be an.u ai.i Ψ R aj,hn rfl an.u ai.i G Ω];refine ho ai.i G Ω λba aI bb aJ=>?_;rw[wrap_i64 Ω Ω];have ak:dedup l (j+e+1)=dedup l (j+e)++[y]:=wa H (λ_=>by rw[H,S];simpa using p);refine ag _ _ ⟨q+1,_,rfl,(O.trans (Q.ab _)).trans aI,aJ,by simpa using ad,?_,?_,Ω,λi hi=>?_⟩
      .rw[<-S9,ak];simp;omega
      .rw[<-S9,ak,u9,c9 Ω,List.take_set_of_le (p8 _),C];rfl
      .rw[Y2 Ω];exact E i Ω
     .have p:y=z:=Z9.1 p;have ao:dedup l (j+e+1)=dedup l (j+e):=v7 Ω (by rw[H,S,p]);exact ag _ _ ⟨q,f,rfl,O.trans (Q.ab _),G,ad,by rw[<-S9,ao];exact ae,by rw[<-S9,ao];exact C,Ω,λi hi=>E i Ω⟩
   .have hk:j+e=n:=Ω
    rw[hk] at ae C aA;obtain⟨_,_,cs,aK,_,_,bc,aL⟩:=qA ac Ω;simp only[maxLen] at aq;rw[hF an.u ai.i (l:=q) (h:=n) (m:=cap) pS jv fw Ω Ω Ω,if_neg Ω];have aO:V4 (λx:Addr=>x.add (q*1)) (σ ⟨g,0,ν⟩)=σ ⟨g,q,ν⟩:=by simp[T1]
    rw[aO];refine Ac an.u ai.i rfl rfl aK Ω Ω λbd aP bf aQ=>?_;rw[hF an.u ai.i (l:=0) (h:=q) (m:=cap) ju pT fw Ω Ω Ω,if_neg Ω];have aR:V4 (λx:Addr=>x.add (0*1)) (σ ⟨g,0,ν⟩)=σ ⟨g,0,ν⟩:=by simp[T1]
    rw[aR,s];refine⟨O.trans aP,?_⟩;rw[<-C];refine au.of (n:=q) ⟨Θ,.inr ⟨cap,_,Ξ,aQ,Ω,by simp only[maxLen];omega,by rw[lH];omega,?_⟩⟩;rw[V8];apply Y6;intro i;by_cases hi:i<q
    .rw[Z7 hi,ni _ _ _ Θ,if_neg Ω,ints,x8,Z7 hi];have:(cs.take n)[i]? =(ints .i64 f)[i]?:=by rw[aL]
     rw[Z7 Ω,ints,x8] at this;exact this
    .rw[Z6 Θ,Z6 Θ]
  .rw[wrap_i64 Ω Ω];refine⟨⟨j+1,rfl,Ω,Ω,B,λi hi W=>?_⟩,by simp only[bU];omega⟩;by_cases aS:i=j
   .subst aS;rw[J,K];intro he;exact L (j6 he)
   .exact I i Ω W
 .have Y:j=n:=Ω
  rw[sQ (p8 _) (by rw[s,<-Y];exact I),o5];exact h.ext A
theorem ML (y:n<=1000000):am x7 In [.slice ν 0 0,Δ (n:Int)] w λv w'=>Ext w w'/\ ∃g,w.heap.size<=g/\au .i64 ai w' g v []:=by
 refine az func241 ?_;refine dh (λU=>w=U) ?_ ?_
 .rintro _ rfl;refine aV (λv w'=>Ext w w'/\ ∃g,w.heap.size<=g/\au .i64 ai w' g v []) (λ_ _ h=>h) λay a=>?_;rw[Ab an.u,hE an.u];simp only[dJ];have e:X2.wrap (((0:Nat):Int)-((0:Nat):Int))=0:=Φ
  have f:X2.wrap ((n:Int)-0)=n:=by rw[wrap_i64 Ω Ω];omega
  rw[e,f];simp only[bR,al];refine⟨λh=>?_,λh=>a _ _ ⟨Ext.refl _,w.heap.size,p8 _,au.nil _ _ _ _⟩⟩;rw[Ab an.u,hF an.u ai.i (l:=0) (h:=0) (m:=0) ju pT fw Ω Ω Ω,if_pos rfl];refine Jf (k:=n) (xs:=[]) rfl an.u ai.u ai.i rfl ⟨rfl,0,0,ν,0,rfl,p8 _,X3 _,λh=>absurd h (Nat.lt_irrefl _),λj v h=>by simp at h⟩ Ω Ω Ω Ω λv g w' z I hm=>?_;obtain⟨_,⟨_,A⟩|⟨cap,cs,rfl,p,h1,q,r,B⟩⟩:=hm
  .omega
  rw[hE an.u,hF an.u ai.i (l:=0) (h:=0) (m:=cap) ju pT fw Ω Ω Ω,if_neg Ω];have s:V4 (λx:Addr=>x.add (0*1)) (σ ⟨g,0,ν⟩)=σ ⟨g,0,ν⟩:=by simp[T1]
  rw[s];refine a _ _ ⟨I,g,Ω,au.of (n:=0) ⟨Ξ,.inr ⟨cap,cs,Ξ,p,Ω,q,r,Ξ⟩⟩⟩
 .intro ay a;simp only[aN,al];exact⟨λh=>Ω,λ_=>a _ rfl⟩
theorem MM {b:Λ} (J:aF .i64 w ba a) (L:aF .i64 w bv b) (P:a.length<=1000) (Q:b.length<=1000)
  (R:∀v w' g,Ext w w'->w.heap.size<=g->au .i64 ai w' g v (a++b)->K v w'):
  aC x7 (Y0 de 2 #[(0,ba),(1,bv)]) w λt U=>am x7 HY [t] U K:=by
 obtain⟨⟨A,B,C,S⟩,⟨E,G,H,W⟩⟩:(∃x n c,ba= .slice x n c)/\(∃x n c,bv= .slice x n c):=by
  obtain⟨_,_,_,x,c,h1,_⟩:=id J;obtain⟨_,_,_,y,d,X,_⟩:=id L;exact⟨⟨x,_,c,h1⟩,⟨y,_,d,X⟩⟩
 subst S;subst W;refine j1 de.u an.i Ω (cs:=#[.slice A B C,.slice E G H]) Ψ λg U aw p q=>?_;have q:af U g an [.slice A B C,.slice E G H]:=q;have key:∀i:Nat,i<2-> ∃v l,[x1.slice A B C,.slice E G H][i]? =σ v/\[a,b][i]? =σ l/\aF .i64 w v l/\l.length<=1000:=λi hi=>by
  match i,hi with
  |0,_=>exact⟨_,_,rfl,rfl,J,P⟩
  |1,_=>exact⟨_,_,rfl,rfl,L,Q⟩
 refine az func204 ?_;rw[hE de.u];refine bX.range 2 (λi size V=>Ext U V/\ ∃n:Nat,n<=1000*i/\size=Δ (n:Int)) Ω ⟨Ext.refl _,0,Ω,rfl⟩ ?_ ?_
 .rintro i _ V Y hi ⟨f,n,Z,rfl⟩ aa;simp only[aN,al];refine⟨λ_=>?_,λh=>Ω⟩;obtain⟨v,l,ac,M,I,ab⟩:=key i hi;refine aV (λv N=>V=N/\v=Δ ((n+l.length:Nat):Int)) ?_ ?_
  .rintro _ _ ⟨rfl,rfl⟩;simp only[aM];exact aa _ _ ⟨f,_,Ω,rfl⟩
  .intro ay ad;rw[e6 (b:=g) (o:=0) de.u an.i hi (λ_=>rfl),aA Ψ ((q.ext f).cell (o:=0+i*1) (by rw[<-ac];congr 1;omega)),aU an.u (I.ext (p.trans f))];simp only[aM,aN,al];rw[wrap_i64 Ω Ω];exact⟨λh=>Ω,λ_=>ad _ _ ⟨rfl,by congr 1⟩⟩
 .rintro _ V Y ⟨f,n,Z,rfl⟩;simp only[aN,al];refine⟨λh=>Ω,λ_=>?_⟩;refine (ML (n:=n) Ω).mono ?_;rintro v0 N _ ⟨O,ae,ax,ag⟩;have aB:=p.size;have aD:=f.size;have aE:=O.size;have ah:=f.trans O;rw[hE de.u];refine bX.range 2 (λi v s=>Ext U s/\ ∃m,U.heap.size<=m/\au .i64 ai s m v (([a,b].take i).flatten)/\(([a,b].take i).flatten).length<=1000*i) Ω ⟨ah,ae,Ω,ag,Ξ⟩ ?_ ?_
  .rintro i v4 s aj hi ⟨j,m,ak,z,aG⟩ ao;simp only[aN,al];refine⟨λ_=>?_,λh=>Ω⟩;obtain⟨v,l,ac,M,I,ab⟩:=key i hi;rw[e6 (b:=g) (o:=0) de.u an.i hi (λ_=>rfl),aA Ψ ((q.ext j).cell (o:=0+i*1) (by rw[<-ac];congr 1;omega))];refine iT an.u ai.i rfl z (I.ext (p.trans j)) Ω Ω λaH ap aI aJ aq av=>?_;simp only[aM];have aK:=j.size;have e:([a,b].take (i+1)).flatten=([a,b].take i).flatten++l:=by rw[u9,M];simp
   refine ao _ _ ⟨j.then av (by rintro r aL rfl;omega),ap,Ω,by rw[e];exact aq,by rw[e,p9];omega⟩
  .rintro v4 s aj ⟨j,m,ak,z,_⟩;simp only[aN,al];refine⟨λh=>Ω,λ_=>R _ _ m (p.trans j) Ω ?_⟩;have e:([a,b].take 2).flatten=a++b:=Ξ
   rw[e] at z;exact z
def pe (f a h e vars:Λ):Prop:=∀p∈vars,p∈a->p∈e->hL f (gv a p)=hL h (gv e p)
def ds (a e f h vars:Λ):Λ:=vars.map λp=>max (hL a (gv e p)) (hL f (gv h p))
theorem CC (a e f h vars:Λ):(ds a e f h vars).length=vars.length:=by simp[ds]
theorem sW {x:Int}:0<=gv l x↔x∈l:=by
 unfold gv;by_cases h:x∈l
 .rw[if_pos h];exact⟨λ_=>h,λ_=>Ω⟩
 .rw[if_neg h];exact⟨λh=>Ω,λa=>absurd a h⟩
theorem MN {g aA X aB:Nat} {E Y:x1} {f m vars e:Λ} {aC:Int} {aD aE:Λ} (h1:db w g aA sv f k aD) (Z:db w X aB E m aC aE) (ac:aF .i64 w Y vars) (aG:aF .i64 w ba a) (G:aF .i64 w bv e) (aI:gI a) (aJ:gI e) (bd:vars.length<=1000):
  am x7 HZ [Y,Γ g,ba,Γ X,bv] w λv w'=>Ext w w'/\
   (¬pe f a m e vars->v= .tuple #[.slice ν 0 0,.bool false])/\
   (pe f a m e vars-> ∃x aq,v= .tuple #[x,.bool true]/\w.heap.size<=aq/\au .i64 ai w' aq x (ds f a m e vars)):=by
 have sub:∀ {w:x3} {g:Nat} {sv:x1} {k:Int} {a7:x1},af w g cX [sv,Δ k,a7]->w.rangeAt g (0+0) [sv]:=λG=>nr G (by
  intro j v ac
  match j,ac with
  |0,ac=>exact ac)
 refine az func205 ?_;rw[aU an.u ac];refine iU an.u ai.i Ω Ω λgz U bf aa aK=>?_;have aL:au .i64 ai U gz (.slice (σ ⟨gz,0,ν⟩) vars.length vars.length) (r9 vars.length 0):=au.of (n:=vars.length) (bT.full aK Ξ (by simp[maxLen];omega));generalize (x1.slice (σ ⟨gz,0,ν⟩) vars.length vars.length)=aO at*;rw[aU an.u (ac.ext aa)];have H:=CC f a m e vars;refine l8.range vars.length (λi _ _ V=>Ext w V/\au .i64 ai V gz aO (upto (ds f a m e vars) 0 i)/\ ∀ (j:Nat) (p:Int),j<i->vars[j]? =σ p->p∈a->p∈e->hL f (gv a p)=hL m (gv e p)) Ω
  ⟨aa,by rw[oO,H];exact aL,λj p A=>Ω⟩ ?_ ?_
 .rintro i _ _ V aP hi ⟨q,hm,I⟩ aQ;simp only[aN,al];refine⟨λ_=>?_,λh=>Ω⟩;obtain⟨p,s⟩:=aH (l:=vars) hi;rw[be an.u ai.i Ψ (ac.ext q) s];refine (sR (aG.ext q) aI).mono ?_;rintro _ bg _ ⟨rfl,J⟩;refine (sR (G.ext (q.trans J)) aJ).mono ?_;rintro _ aR _ ⟨rfl,ab⟩;have ad:=(q.trans J).trans ab;refine aV (λv ag=>Ext aR ag/\ ∃c,v= .bool c/\(c=true↔p∈a/\p∈e/\hL f (gv a p)≠hL m (gv e p))) ?_ ?_
  .rintro _ ag ⟨ah,c,rfl,aj⟩;have ak:=ad.trans ah;rw[cb];refine⟨λaS=>⟨ak,λ_=>by first|rfl|trivial,λA=>?_⟩,λae=>?_⟩
   .obtain⟨y,z,aT⟩:=aj.1 aS;exact absurd (A p (x5 s) y z) aT
   .simp only[en];intro bh ao _ _;have K:=ak.trans ao;obtain⟨⟨a7,gs,L,M,_⟩,_⟩:=h1.ext K;obtain⟨⟨aX,aY,N,O,_⟩,_⟩:=Z.ext K;rw[bS,aW cX.p rfl,bO (cs:=[sv]) bB.p bB.i rfl (sub L),bS,aW cX.p rfl,bO (cs:=[E]) bB.p bB.i rfl (sub N)];refine (qg M.ls).mono ?_;rintro _ bi _ ⟨rfl,B⟩;refine⟨.inl B,?_⟩;refine (qg (O.ls.ext B)).mono ?_;rintro _ bj _ ⟨rfl,ap⟩;have aZ:=(K.trans B).trans ap;have av:=hm.ext ((((J.trans ab).trans ah).trans ao).trans (B.trans ap));have bk:(upto (ds f a m e vars) 0 i).length=vars.length:=by rw[nw,H]
    rw[uZ,hn rfl an.u ai.i av Ω];refine ho ai.i av Ω λbl a1 _ aw=>?_;simp only[aM];have a2:(ds f a m e vars)[i]? =σ (max (hL f (gv a p)) (hL m (gv e p))):=by
     unfold ds;rw[x8,s];rfl
    rw[oQ a2] at aw;refine aQ _ _ _ ⟨aZ.then a1 (by rintro r bm rfl;omega),aw,λj a6 A P y z=>?_⟩;by_cases a8:j=i
    .subst a8;rw[s] at P;cases P;refine Decidable.byContradiction λbb=>?_;have:=aj.2 ⟨y,z,bb⟩;rw[ae] at this;cases this
    .exact I j a6 Ω P y z
  .intro ay Q;simp only[en,cO,al];intro bn C _ _;refine⟨λR=>⟨λS=>?_,λS=>⟨.inl (Ext.refl _),Q _ _ ⟨C,false,rfl,⟨(λh=>by cases h),λh=>absurd (sW.2 h.2.1) S⟩⟩⟩⟩,λR=>⟨.inl (Ext.refl _),Q _ _ ⟨C,false,rfl,⟨(λh=>by cases h),λh=>absurd (sW.2 h.1) R⟩⟩⟩⟩;have ax:=ad.trans C;obtain⟨⟨a7,gs,L,M,_⟩,_⟩:=h1.ext ax;obtain⟨⟨aX,aY,N,O,_⟩,_⟩:=Z.ext ax;rw[bS,aW cX.p rfl,bO (cs:=[sv]) bB.p bB.i rfl (sub L),bS,aW cX.p rfl,bO (cs:=[E]) bB.p bB.i rfl (sub N)];refine (qg M.ls).mono ?_;rintro _ bo _ ⟨rfl,W⟩;refine⟨.inl W,?_⟩;refine (qg (O.ls.ext W)).mono ?_;rintro _ bp _ ⟨rfl,bc⟩;simp only[bz];refine Q _ _ ⟨(C.trans W).trans bc,_,rfl,?_⟩;rw[decide_eq_true_iff];exact⟨λh=>⟨sW.1 R,sW.1 S,h⟩,λh=>h.2.2⟩
 .rintro _ _ V aP ⟨q,hm,I⟩;simp only[aN,al];refine⟨λh=>Ω,λ_=>?_⟩;have A:pe f a m e vars:=λp s y z=>by
   obtain⟨i,hi,he⟩:=List.getElem_of_mem s;exact I i p hi (by rw[x6 hi,he]) y z
  rw[<-H,oP] at hm;exact⟨q,λh=>absurd A h,λ_=>⟨_,gz,rfl,Ω,hm⟩⟩
def wg (a e vars:Λ):Prop:=gI vars/\ ∀x,x∈vars↔x∈a\/x∈e
def nH (a j e f m h vars:Λ) (k:Int):Λ:=
 (Z8 (aK (ds a e f h vars)).toNat).map λ(q:Nat)=>min (bn a j (e1 (cR (ds a e f h vars) q) vars e)+bn f m (e1 (cR (ds a e f h vars) q) vars h)) k
theorem CD (a j e f m h vars:Λ) (k:Int):(nH a j e f m h vars k).length=(aK (ds a e f h vars)).toNat:=by simp[nH]
theorem sX {s cs:Λ} (hk:right k) (h:∀x∈cs,cn x k):cn (bn s cs t) k:=by
 have a:cn 0 k:=⟨hk,T2 _,by have:=hk.1;omega⟩;unfold bn;split
 .rename_i n _;rw[v8];cases e:cs[n.toNat]? with
  |none=>exact a
  |some x=>exact h x (x5 e)
 .exact a
def Fits (s l:Λ):Prop:=l.length=s.length/\qy l
def qB (e:Int):x1:=.tuple #[.pointer ν,.slice ν 0 0,Δ e]
def CE (w:x3) (f q a h r e:Λ) (k j:Int) (v:x1) (w':x3):Prop:=
 Ext w w'/\(¬(Fits f a/\Fits h e)->v=qB 1)/\
  (Fits f a/\Fits h e-> ∃vars,wg a e vars/\(¬pe f a h e vars->v=qB 1)/\(pe f a h e vars->(k≠j->v=qB 3)/\
   (k=j->¬b1 (ds f a h e vars)->v=qB 1)/\(k=j->b1 (ds f a h e vars)->4096<aK (ds f a h e vars)->v=qB 5)/\
   (k=j->b1 (ds f a h e vars)->aK (ds f a h e vars)<=4096-> ∃m s x p,v= .tuple #[Γ m,p,Δ 0]/\
    db w' m s x (ds f a h e vars) k (nH f q a h r e vars k)/\aF .i64 w' p vars)))
theorem MO {g bN ga bP:Nat} {bR:x1} {z A f y:Λ} {aU:Int} {G H:Λ} (h1:db w g bN sv z k G) (az:db w ga bP bR A aU H) (aB:aF .i64 w ba f) (R:aF .i64 w bv y)
  (hk:right k) (cB:∀x∈G,cn x k) (cC:∀x∈H,cn x aU):
  am x7 Hn [Γ g,ba,Γ ga,bv] w (CE w z G f A H y k aU):=by
 have cD:=aB.cells;have cE:=R.cells;have cF:=h1.2.2.1;have cG:=az.2.2.1;have sub:∀ {w:x3} {g:Nat} {sv:x1} {k:Int} {a7:x1},af w g cX [sv,Δ k,a7]->w.rangeAt g (0+0) [sv]:=λR=>nr R (by
  intro j v ac
  match j,ac with
  |0,ac=>exact ac)
 refine iQ func152 ?_;refine bo λg1 U dO bT K=>?_;refine bo λbU V dP bl L=>?_;refine bo λbV dQ dR aX M=>?_;refine bo λbW aa dS aC O=>?_;have dT:=K.lt;have dU:=L.lt;have dV:=M.lt;have dW:=O.lt;have dX:=bT.size;have dY:=bl.size;have dZ:=aX.size;have ea:=aC.size;have ad:=((bT.trans bl).trans aX).trans aC;have K:af aa g1 eP [Γ g]:=((K.ext bl).ext aX).ext aC;have L:af aa bU an [ba]:=by rw[cD.1] at L;exact (L.ext aX).ext aC
 have M:af aa bV eP [Γ ga]:=M.ext aC;have O:af aa bW an [bv]:=by rw[cE.1] at O;exact O
 refine aV (λv bX=>v= .bool false/\aa=bX) ?_ ?_
 rotate_left
 .intro ay aZ;rw[aA Ψ (K.Qz rfl),c5 eP.u];simp only[b9,aY];rw[aA Ψ (M.Qz rfl),c5 eP.u];exact aZ _ _ ⟨rfl,rfl⟩
 rintro _ _ ⟨rfl,rfl⟩;simp only[aY];refine aV (λv bm=>Ext aa bm/\ ∃c,v= .bool c/\(c=true↔¬(Fits z f/\Fits A y))) ?_ ?_
 rotate_left
 .intro ay aZ;rw[aA Ψ (K.Qz rfl),aA Ψ (L.Qz rfl)];refine (Cu (h1.ext ad) (aB.ext ad)).mono ?_;rintro _ bX _ ⟨ag,c,rfl,aD⟩;simp only[bI,cb];refine⟨λa1=>aZ _ _ ⟨ag,true,rfl,λ_ h=>?_,λ_=>rfl⟩,λae=>?_⟩
  .have:=aD.2 h.1;rw[this] at a1;cases a1
  .have cH:c=true:=by cases c<;>simp_all
   rw[aA Ψ ((M.ext ag).Qz rfl),aA Ψ ((O.ext ag).Qz rfl)];refine (Cu ((az.ext ad).ext ag) ((R.ext ad).ext ag)).mono ?_;rintro _ eb _ ⟨cI,d,rfl,bY⟩;simp only[bI];refine aZ _ _ ⟨ag.trans cI,_,rfl,λh aG=>?_,λh=>?_⟩
   .have:=bY.2 aG.2;rw[this] at h;cases h
   .cases d with
    |false=>rfl
    |true=>exact absurd ⟨aD.1 cH,bY.1 rfl⟩ h
 rintro _ bm ⟨aE,c,rfl,aD⟩;have bq:=ad.trans aE;rw[cb];refine⟨λa1 ec cJ _=>⟨bq.trans cJ,λ_=>rfl,λh=>absurd h (aD.1 a1)⟩,λae=>?_⟩;have aH:Fits z f/\Fits A y:=Classical.byContradiction λh=>by
  have:=aD.2 h;rw[ae] at this;cases this
 obtain⟨⟨ed,cK⟩,ee,cL⟩:=id aH;have ef:=cF.1;have eg:=cG.1;rw[aA Ψ ((L.ext aE).Qz rfl),aA Ψ ((O.ext aE).Qz rfl)];refine MM (aB.ext bq) (R.ext bq) Ω Ω λeh ei ej bZ ek cM=>?_;refine vZ cM.ls (by rw[p9];omega) λem en eo m b0 ep b2 cN cO=>?_;have cP:=b2.length_eq;rw[p9] at cP;refine (MK cO Ω).mono ?_;rintro a2 b3 _ ⟨cQ,br⟩;have er:=aE.size;have es:=bZ.size;have et:=b0.size;have b4:Ext bm b3:=(bZ.trans b0).then cQ (by rintro r a8 rfl;omega);obtain⟨cS,cT⟩:=Ct cN (j:=m.length) (p8 _);have eu:=Cs m m.length;have P:wg f y (dedup m m.length):=⟨cS,λx=>by rw[cT,o5,b2.mem_iff,o7]⟩;generalize dedup m m.length=vars at*;refine bG an.i λa6 ev ew b5 cU=>?_;refine bt an.i br.ls.cells.1 br.ls.cells.2 cU (by simp[x1.cells]) λb6 cV ey aI=>?_;have ez:=b4.size;have eA:=b5.size;have bu:Ext b3 b6:=b5.then cV (by rintro r a8 rfl;omega);have aj:=(aE.trans b4).trans bu;have aJ:=ad.trans aj;have eB:=aI.lt;have b7:=br.ls.ext bu;have aI:af b6 a6 an [a2]:=aI;rw[aA Ψ (aI.Qz rfl),aA Ψ ((K.ext aj).Qz rfl),aA Ψ ((L.ext aj).Qz rfl),aA Ψ ((M.ext aj).Qz rfl),aA Ψ ((O.ext aj).Qz rfl)];refine (MN (h1.ext aJ) (az.ext aJ) b7 (aB.ext aJ) (R.ext aJ) cK.up cL.up Ω).mono ?_;rintro eC eD _ ⟨aM,cW,cY⟩;have b8:=aJ.trans aM;by_cases ak:pe z f A y vars
 rotate_left
 .rw[cW ak,bi,bj];simp only[bI,W5,bQ];intro eE cZ _;exact⟨b8.trans cZ,λh=>absurd aH h,λ_=>⟨vars,P,λ_=>rfl,λh=>absurd h ak⟩⟩
 obtain⟨xs,aq,rfl,eF,c0⟩:=cY ak;rw[bi,bj];simp only[bI,Y7,aY];intro W ao _ _;have bb:=(aj.trans aM).trans ao;have av:=b8.trans ao;have K:=K.ext bb;have L:=L.ext bb;have M:=M.ext bb;have O:=O.ext bb;have c1:=(aI.ext aM).ext ao;obtain⟨⟨a7,gs,ca,eH,_⟩,_⟩:=h1.ext av;obtain⟨⟨eI,eJ,c2,eK,_⟩,_⟩:=az.ext av;rw[aA Ψ (K.Qz rfl),aO cX.p 1 ca rfl,aA Ψ (M.Qz rfl),aO cX.p 1 c2 rfl];simp only[bz,al];refine⟨λX eL c3 _=>⟨av.trans c3,λh=>absurd aH h,λ_=>⟨vars,P,λh=>absurd ak h,λ_=>⟨λ_=>rfl,λh=>absurd h X,λh=>absurd h X,λh=>absurd h X⟩⟩⟩,λX=>?_⟩;have X:k=aU:=Z9.1 X;subst X;rw[aA Ψ (K.Qz rfl),aO cX.p 1 ca rfl];have c4:=c0.ext ao;refine (vc c4.ls).mono ?_;rintro aL aN _ ⟨cc,c6,c7,_,c8⟩;have eM:=bu.size;have eN:=aM.size;have eO:=ao.size;have eQ:=cc.size;obtain⟨aP,e,rfl,eR,bc⟩:∃ (aP:Option Addr) (e:Int),aL= .tuple #[.pointer aP,Δ e]/\(e=0->aP≠ν)/\((e=1/\¬b1 (ds z f A y vars))\/(e=5/\b1 (ds z f A y vars)/\4096<aK (ds z f A y vars))\/(e=0/\b1 (ds z f A y vars)/\aK (ds z f A y vars)<=4096/\
   ∃C B E,aP=σ ⟨C,0,ν⟩/\W.heap.size<=C/\W.heap.size<=B/\(∀r,leads E r->W.heap.size<=r)/\db aN C B E (ds z f A y vars) k (r9 (aK (ds z f A y vars)).toNat 0))):=by
  by_cases J:b1 (ds z f A y vars)
  .by_cases Q:aK (ds z f A y vars)<=4096
   .obtain⟨C,B,E,c9,da,dc,dd,de⟩:=c8 J Q ⟨hk,Ω,by have:=hk.1;omega⟩;exact⟨_,_,c9,(λ_ h=>by cases h),.inr (.inr ⟨rfl,J,Q,C,B,E,rfl,da,dc,dd,de⟩)⟩
   .exact⟨_,_,c7 J Ω,(λh=>Ω),.inr (.inl ⟨rfl,J,Ω⟩)⟩
  .exact⟨_,_,c6 J,(λh=>Ω),.inl ⟨rfl,J⟩⟩
 rw[bi,bj];refine bG eP.i λcd eS eU ce aQ=>?_;refine bt eP.i rfl rfl aQ (by simp[x1.cells]) λdf dg eV aQ=>?_;have eW:=ce.size;have bw:Ext aN df:=ce.then dg (by rintro r a8 rfl;omega);have cg:=cc.trans bw;have dh:=av.trans cg;have eX:=aQ.lt;simp only[bz,al];refine⟨λdi eY dj _=>⟨dh.trans dj,λh=>absurd aH h,λ_=>⟨vars,P,λh=>absurd ak h,λ_=>⟨λh=>absurd rfl h,λ_ J=>?_,λ_ J Q=>?_,λ_ J Q=>?_⟩⟩⟩,λeZ=>?_⟩
 .rcases bc with⟨rfl,_⟩|⟨_,h,_⟩|⟨_,h,_⟩
  .rfl
  .exact absurd h J
  .exact absurd h J
 .rcases bc with⟨_,h⟩|⟨rfl,_⟩|⟨_,_,h,_⟩
  .exact absurd J h
  .rfl
  .omega
 .rcases bc with⟨_,h⟩|⟨_,_,h⟩|⟨h,_⟩
  .exact absurd J h
  .omega
  .exact absurd h di
 obtain⟨bd,dk,C,B,E,rfl,e0,e2,e3,be⟩:b1 (ds z f A y vars)/\aK (ds z f A y vars)<=4096/\
   ∃C B E,aP=σ ⟨C,0,ν⟩/\W.heap.size<=C/\W.heap.size<=B/\(∀r,leads E r->W.heap.size<=r)/\db aN C B E (ds z f A y vars) k (r9 (aK (ds z f A y vars)).toNat 0):=by
  rcases bc with⟨h,_⟩|⟨h,_⟩|⟨_,h⟩
  .omega
  .omega
  .exact h
 obtain rfl:e=0:=Ω
 have dl:(ds z f A y vars).length=vars.length:=CC _ _ _ _ _;have e4:=prod_bound bd;obtain⟨N,bf⟩:∃N:Nat,(aK (ds z f A y vars)).toNat=N:=⟨_,rfl⟩;rw[bf] at be;have e5:0<N:=Ω
 have dm:=be.ext bw;obtain⟨⟨bx,ch,ci,cj,dn⟩,⟨ck,cl,_⟩,_,e6⟩:=id dm;have e7:C<aN.heap.size:=by obtain⟨⟨_,_,q,_⟩,_⟩:=id be;exact q.lt
 have e8:B<aN.heap.size:=by obtain⟨⟨_,_,_,_,q⟩,_⟩:=id be;exact sL q Θ
 rw[aA Ψ (aQ.Qz rfl),bS,aW cX.p rfl,bO (cs:=[E]) bB.p bB.i rfl (sub ci)];refine vE.mono ?_;rintro _ aR _ ⟨Y,bg,rfl,e9,cm⟩;have fa:=bw.size;have fb:=Y.size;let S:Nat->Prop:=λr=>r=B;let aw:=nH z G f A H y vars k;have bA:aw.length=N:=by simp only[aw];rw[CD,bf]
 have dp:=(b7.ext aM).ext ao;let dq:x3->Prop:=λw'=>af w' g1 eP [Γ g]/\af w' bU an [ba]/\af w' bV eP [Γ ga]/\af w' bW an [bv]/\af w' a6 an [a2]/\aF .i64 w' a2 vars/\
  af w' cd eP [Γ C]/\af w' C cX [E,Δ k,bx]/\db w' g bN sv z k G/\db w' ga bP bR A k H/\aF .i64 w' ba f/\aF .i64 w' bv y/\au .i64 ai w' ch E (ds z f A y vars)/\af w' bg bB [E]/\aR.heap.size<=w'.heap.size
 have cp:=cg.trans Y;have aS:∀ {a:x3},ah S aR a->dq a:=by
  intro a I;have Z:Ext W a:=cp.put I Ω;have bh:=av.trans Z;exact⟨K.ext Z,L.ext Z,M.ext Z,O.ext Z,c1.ext Z,dp.ext Z,(aQ.ext Y).ab I (by show ¬(cd=B);omega),(ci.ext Y).ab I (by show ¬(C=B);exact ck),h1.ext bh,az.ext bh,aB.ext bh,R.ext bh,
   bp (cj.ext Y) I (λr a8 he=>cl ((show r=B from he)▸a8)),cm.ab I (by show ¬(bg=B);omega),I.size⟩
 have cq:=vD (g:=bg) (B0:=aR.heap.size) (sv:=E) bd;rw[bf] at cq;refine ol.old ⟨Nat,false,lz,#[Γ bg],0,_,_,_,λq w'=>ah S aR w'/\au .i64 ap w' B bx (upto aw 0 q),λ_ _ _=>False,rfl,cq.s,
  ?_,λ_ _ I h=>⟨h.1.ext I,h.2.1.ext I,Y9 h.2.2 I.size⟩,λ_ _ _ I h=>⟨h.1.trans (I.ab S),h.2.ext I⟩,λ_ _ _ _ _ h=>h,⟨cm,(cj.ext Y).ls,p8 _⟩,⟨ah.refl _ _,?_⟩,?_,?_,λ_ _ h=>h.elim,λ_ _ _ h=>h.elim⟩
 .rintro _ _ _ _ ⟨_,_,_,_,rfl,_⟩;rfl
 .rw[oO,bA];exact dn.ext Y
 .rintro _ aL q _ fc ⟨_,_,fd⟩ ⟨bC,rfl,fe,gt,dr,ff,cr⟩ ⟨bk,dt⟩;cases dr;let x:=cR (ds z f A y vars) (q:Int);have ct:x.length=vars.length:=by simp only[x];rw[iZ,dl]
  intro fg du _ _;intro fh dv _ _;have bD:=du.trans dv;obtain⟨f1,f2,f3,f4,f5,f6,f7,f8,f9,f10,f11,f12,f13,f14,f15⟩:=aS (bk.trans (bD.ab S));rw[aA Ψ (f1.Qz rfl),aA Ψ (f5.Qz rfl),aA Ψ (f2.Qz rfl)];refine (Cv (cr.ls.ext bD) f6 f11 P.1 (λp Q=>(P.2 p).2 (.inl Q)) ct Ω).mono ?_;rintro fi fj _ ⟨bE,fk,fm,dw⟩;refine⟨.inl bE,?_⟩;refine (vd (f9.ext bE) dw.ls).mono ?_;rintro _ fo _ ⟨rfl,dx⟩;obtain⟨dy,dz⟩:=vY z (e1 x vars f) G;have dA:oG z (e1 (cR (ds z f A y vars) (q:Int)) vars f) G= .tuple #[Δ (bn z G (e1 x vars f)),Δ dy]:=dz;rw[dA,bi,bj];intro fp dC _ _;have bF:=((bD.trans bE).trans dx).trans dC;obtain⟨f1,f2,f3,f4,f5,f6,f7,f8,f9,f10,f11,f12,f13,f14,f15⟩:=aS (bk.trans (bF.ab S));rw[aA Ψ (f3.Qz rfl),aA Ψ (f5.Qz rfl),aA Ψ (f4.Qz rfl)];refine (Cv (cr.ls.ext bF) f6 f12 P.1 (λp Q=>(P.2 p).2 (.inr Q)) ct Ω).mono ?_;rintro fq fs _ ⟨bH,ft,fu,dD⟩;refine⟨.inl bH,?_⟩;refine (vd (f10.ext bH) dD.ls).mono ?_;rintro _ fv _ ⟨rfl,dE⟩;obtain⟨dF,dG⟩:=vY A (e1 x vars y) H;have dH:oG A (e1 (cR (ds z f A y vars) (q:Int)) vars y) H= .tuple #[Δ (bn A H (e1 x vars y)),Δ dF]:=dG;rw[dH,bi,bj];intro fw dI _ _;have bJ:=((bF.trans bH).trans dE).trans dI;obtain⟨f1,f2,f3,f4,f5,f6,f7,f8,f9,f10,f11,f12,f13,f14,f15⟩:=aS (bk.trans (bJ.ab S));rw[aA Ψ (f7.Qz rfl),aO cX.p 2 f8 rfl,aA Ψ (f7.Qz rfl),aO cX.p 1 f8 rfl];refine vC.mono ?_;rintro _ fx _ ⟨rfl,bK⟩;refine⟨.inl bK,?_⟩;have dJ:nB (bn z G (e1 x vars f)) (bn A H (e1 x vars y)) k= .tuple #[Δ (min (bn z G (e1 x vars f)+bn A H (e1 x vars y)) k),Δ 0]:=if_pos ⟨sX hk cB,sX hk cC⟩;rw[dJ,im (v:=Δ (min (bn z G (e1 x vars f)+bn A H (e1 x vars y)) k)) rfl,im (v:=Δ 0) rfl];have cu:=dt.ext (bJ.trans bK);have fy:(upto aw 0 q).length=N:=by rw[nw,bA]
  rw[hn rfl ax.u ap.i cu Ω];refine ho ap.i cu Ω λdK dL fz cw=>?_;have cz:ah S aR dK:=(bk.trans ((bJ.trans bK).ab S)).trans (dL.mono λr _ h=>h);obtain⟨f1,f2,f3,f4,f5,f6,f7,f8,f9,f10,f11,f12,f13,f14,f15⟩:=aS cz;have dM:aw[q]? =σ (min (bn z G (e1 x vars f)+bn A H (e1 x vars y)) k):=by
   simp only[aw,nH];rw[x8,List.getElem?_range (by rw[bf];exact bC)];rfl
  rw[oQ dM] at cw;exact⟨⟨f14,f13.ls,f15⟩,⟨cz,cw⟩,λh=>by cases h⟩
 .rintro q fA bC ⟨cA,bL⟩;rw[show q=N from bC] at bL;intro fB bM _ _;obtain⟨f1,f2,f3,f4,f5,f6,f7,f8,f9,f10,f11,f12,f13,f14,f15⟩:=aS (cA.trans (bM.ab S));rw[aA Ψ (f7.Qz rfl),aA Ψ (f5.Qz rfl)];intro fD aT _;rw[<-bA,oP] at bL;have dN:=av.trans cp;refine⟨((dN.put cA Ω).trans bM).trans aT,λh=>absurd aH h,λ_=>⟨vars,P,λh=>absurd ak h,λ_=>⟨λh=>absurd rfl h,λ_ h=>absurd bd h,λ_ _ h=>Ω,λ_ _ _=>⟨C,B,E,a2,rfl,⟨⟨bx,ch,f8.ext aT,f13.ext aT,(bL.ext bM).ext aT⟩,⟨ck,cl,dk⟩,bd,CD _ _ _ _ _ _ _ _⟩,f6.ext aT⟩⟩⟩⟩
theorem gI.pair (h:gI l):l.Pairwise (·< ·):=V2.2 λi j hi a e=>h i j _ _ e (x6 hi) (x6 a)
theorem MP {m:Λ} (e:gI l) (hm:gI m) (h:∀x,x∈l↔x∈m):l=m:=by
 have f:l.Nodup:=e.pair.imp λh=>Ω
 have j:m.Nodup:=hm.pair.imp λh=>Ω
 exact List.Perm.eq_of_pairwise (le:=(·<= ·)) (λa b _ _ h1 p=>Int.le_antisymm h1 p) (e.pair.imp λh=>Int.le_of_lt h) (hm.pair.imp λh=>Int.le_of_lt h) ((List.perm_ext_iff_of_nodup f j).2 h)
theorem MQ {vars:Λ} (h:wg l l vars) (hu:gI l):vars=l:=MP h.1 hu λx=>by rw[h.2];simp
theorem wh (h:l.Pairwise (·< ·)):gI l:=λi j x y e I f=>by
 have h1:=x4.1 I;have a:=x4.1 f;have:=V2.1 h i j h1.1 a.1 e;rw[h1.2,a.2] at this;exact this
theorem MR {x:Λ} (hu:l.Nodup) (h:x.length=l.length):e1 x l l=x:=by
 refine Y6 λi=>?_;unfold e1;cases a:l[i]? with
 |none=>rw[x8,a,Z6 (by have:=List.getElem?_eq_none_iff.1 a;omega)];rfl
 |some v=>
  have hi:=(x4.1 a).1;rw[x8,a,Z3,qw hu a,v8,x6 (show i<x.length by omega)];rfl
theorem CF {s:Λ} (hu:gI l) (h:s.length=l.length):ds s l s l l=s:=by
 refine Y6 λi=>?_;unfold ds;cases a:l[i]? with
 |none=>rw[x8,a,Z6 (by have:=List.getElem?_eq_none_iff.1 a;omega)];rfl
 |some v=>
  have hi:=(x4.1 a).1;rw[x8,a,Z3,wb hu a,Int.max_self,x6 (show i<s.length by omega)];unfold hL;rw[if_pos Ω,v8,u6,x6 (show i<s.length by omega)];rfl
theorem MS {s b:Λ} (hu:l.Pairwise (·< ·)) (h:s.length=l.length) (J:dO s) (e:a.length=(aK s).toNat) (f:b.length=(aK s).toNat):nH s a l s b l l k=dS k a b:=by
 have j:l.Nodup:=hu.imp λh=>Ω
 unfold nH;rw[CF (wh hu) h,LC J e f];apply List.map_congr_left;intro q _;rw[MR j (by rw[iZ,h])]
theorem MT {s b:Λ} (hu:l.Pairwise (·< ·)) (A:∀x∈l,0<=x) (h:s.length=l.length) (J:b1 s) (B:aK s<=4096) (C:a.length=(aK s).toNat) (E:b.length=(aK s).toNat) (f:CE w s a l s b l k k v w'):
  Ext w w'/\ ∃e j m q,v= .tuple #[Γ e,q,Δ 0]/\db w' e j m s k (dS k a b):=by
 obtain⟨I,_,f⟩:=f;have r:=wh hu;have y:Fits s l:=⟨h.symm,Mi r A⟩;obtain⟨vars,ac,_,F⟩:=f ⟨y,y⟩;have G:=MQ ac r;subst G;obtain⟨_,_,_,z⟩:=F λp K L M=>rfl;rw[CF r h,MS hu h J.2 C E] at z;obtain⟨e,j,m,q,rfl,H,_⟩:=z rfl J B;exact⟨I,e,j,m,q,rfl,H⟩
theorem MU {s:Λ} (J:dO s):(bk s).Nodup:=(Cl J).imp λ{a b} h he=>by subst he;omega
theorem MV {s:Λ} {i:Nat} (J:dO s) (hi:(bk s)[i]? =σ t) (a:(bk s)[j]? =σ t):i=j:=kc (MU J) hi a
theorem MW {s:Λ} (J:dO s) (h:di s t):∃j:Nat,(bk s)[j]? =σ t:=X1.1 ((Ck J).2 h)
theorem sY {g:Nat} {d:List (x1×x1)} (h:af w g e cs) (hm:c4 w m d) (a:ah (λr=>r=m) w w'):af w' g e cs:=h.ab a (λhe=>sM h hm he)
theorem CG {g:Nat} {k:o4} {d:List (x1×x1)} (h:au k e w g v l) (hm:c4 w m d) (a:ah (λr=>r=m) w w'):au k e w' g v l:=bp h a (λ_ f he=>Cn h hm f he)
def sZ (cs:Λ) (o:Int):Prop:=o∈cs/\ ∀d∈cs,cs.count d<cs.count o\/(cs.count d=cs.count o/\o<=d)
theorem MX {i:Nat} {x:Int} (h:l[i]? =σ x) (y:Int):(l.take (i+1)).count y=(l.take i).count y+if y=x then 1 else 0:=by
 rw[u9,h,List.count_append];congr 1;simp only[l7,List.count_singleton];by_cases a:y=x
 .subst a;simp
 .rw[if_neg a,if_neg (by simpa using λh=>a h.symm)]
def gJ (p:Int×Int):x1×x1:=(Δ p.1,Δ p.2)
theorem qC:Keys x7 ap λv=>∃n,v=Δ n:=Keys.int ap.u
theorem qD (E:List (Int×Int)):∀p∈E.map gJ,∃n,p.1=Δ n:=λp a=>by
 obtain⟨q,_,rfl⟩:=n9.1 a;exact⟨_,rfl⟩
def wi (cs:Λ) (E:List (Int×Int)):Prop:=(∀x,x∈E.map (·.1)↔x∈cs)/\ ∀p∈E,p.2=(cs.count p.1:Nat)
theorem CH {cs:Λ} {E:List (Int×Int)} (h:wi cs E) {x:Int} (I:x∈cs):∃j:Nat,E[j]? =σ (x,((cs.count x:Nat):Int)):=by
 obtain⟨p,a,rfl⟩:=n9.1 ((h.1 x).2 I);obtain⟨j,e⟩:=X1.1 a;exact⟨j,by rw[e,<-h.2 p a]⟩
theorem CI {au:x1} {cs:Λ} (h:aF .i64 w au cs) (av:cs≠[]) (bg:cs.length<=1000000):am x7 rN [au] w λv w'=>Ext w w'/\ ∃o,v=Δ o/\sZ cs o:=by
 refine az func215 ?_;refine aC.ct (ss λm U hm W aO bi=>?_);rw[aU ax.u (h.ext W)];refine ch.range cs.length (λi V=>ah (λr=>r=m) U V/\ ∃E,c4 V m (E.map gJ)/\wi (cs.take i) E) Ω ⟨ah.refl _ _,[],aO,by simp[wi]⟩ ?_ ?_
 .rintro i V aP hi ⟨G,E,A,f⟩ aw;obtain⟨x,X⟩:=aH (l:=cs) hi;have H:Ext w V:=W.put G Ω;have aQ:∀y,(cs.take i).count y<=1000000:=λy=>by
   have:=List.count_le_length (a:=y) (l:=cs.take i);rw[l9] at this;omega
  refine bE Ω ?_;rw[be ax.u ap.i Ψ (h.ext H) X];have O:=MX X;have aA:∀y,y∈cs.take (i+1)↔y∈cs.take i\/y=x:=λy=>by
   rw[u9,X];simp
  by_cases I:x∈cs.take i
  .obtain⟨j,Y⟩:=CH f I;have P:(E.map gJ)[j]? =σ (Δ x,Δ (((cs.take i).count x:Nat):Int)):=by rw[x8,Y];rfl
   rw[qh lB.u qC A (qD E) ⟨_,rfl⟩ P];simp only[Bool.false_eq_true,if_false];have:=aQ x;rw[aM,wrap_i64 Ω Ω];refine aC.ct (qi lB.u qC A (qD E) ⟨_,rfl⟩ (λJ v0 Z ab L ac aR=>?_) (λZ Q=>absurd rfl (Q _ (x5 P))));have aS:J=j:=A.uniq ab P rfl;subst aS;rw[aM];have ad:(E.map gJ).set J (Δ x,Δ ((((cs.take i).count x:Nat):Int)+1))=(E.set J (x,(((cs.take i).count x:Nat):Int)+1)).map gJ:=by rw[V7];rfl
   rw[ad] at L;have aT:=(x4.1 Y).1;refine aw _ ⟨G.trans ac,_,L,λy=>?_,λp e=>?_⟩
   .rw[V7,qb (by rw[x8,Y];rfl),f.1,aA];exact⟨.inl,λh=>h.elim id (λh=>h▸I)⟩
   .obtain⟨q,s⟩:=X1.1 e;by_cases ae:J=q
    .subst ae;rw[c9 aT] at s;cases s;show _=(((cs.take (i+1)).count x:Nat):Int);rw[O,if_pos rfl];omega
    .rw[Y2 ae] at s;have af:p.1≠x:=λhe=>ae (A.uniq P (show (E.map gJ)[q]? =σ (gJ p) by rw[x8,s];rfl) (by rw[gJ,he]));rw[f.2 p (x5 s),O,if_neg af,Nat.add_zero]
  .have Q:∀p∈E.map gJ,p.1≠W8 .i64 x:=λp e he=>by
    obtain⟨q,s,rfl⟩:=n9.1 e;have:q.1=x:=by simpa[gJ] using he
    exact I ((f.1 x).1 (n9.2 ⟨q,s,this⟩))
   rw[su lB.u qC ⟨_,_,ai.i⟩ A (qD E) ⟨_,rfl⟩ Q];simp only[Bool.false_eq_true,if_false];rw[aM,wrap_i64 Ω Ω];refine aC.ct (qi lB.u qC A (qD E) ⟨_,rfl⟩ (λJ v0 Z ab=>absurd rfl (Q _ (x5 ab))) (λZ _ L ac aR=>?_));rw[aM];have ad:E.map gJ++[(W8 .i64 x,W8 .i64 (0+1))]=(E++[(x,1)]).map gJ:=by rw[b6];rfl
   rw[ad] at L;have aW:(cs.take i).count x=0:=List.count_eq_zero.2 I;refine aw _ ⟨G.trans ac,_,L,λy=>?_,λp e=>?_⟩
   .rw[b6,o7,f.1,aA];simp
   .rcases o7.1 e with e|e
    .have af:p.1≠x:=λhe=>I ((f.1 x).1 (n9.2 ⟨p,e,he⟩));rw[f.2 p e,O,if_neg af,Nat.add_zero]
    .rw[o9.1 e];show (1:Int)=(((cs.take (i+1)).count x:Nat):Int);rw[O,if_pos rfl,aW];rfl
 rintro V aP ⟨G,E,A,f⟩;rw[o5] at f;have H:Ext w V:=W.put G Ω;refine cm Ω ?_;refine (Ke (h.ext H) av).mono ?_;rintro _ aX bj ⟨rfl,ag⟩;have bk:=H.size;have bl:=ag.size;refine aC.ct (Bk lB.u (A.ext ag) λM bm bn aZ bo a1 bp=>?_);refine⟨λs3 C=>∃b B z left aB,s3=Δ b/\b∈cs/\Ext aX C/\hs C M m (E.map gJ) left aB/\left=z.map gJ/\(B++z).Perm E/\ ∀p∈B,cs.count p.1<cs.count b\/(cs.count p.1=cs.count b/\b<=p.1),λ_ C=>o1 C M,
  ⟨vt cs,[],E,E.map gJ,ν,rfl,(JS av).1,aZ,a1,rfl,List.Perm.refl _,λp e=>by cases e⟩,?_⟩
 rintro _ C ⟨b,B,z,left,aB,rfl,aj,ak,aD,rfl,R,an⟩;refine Bm aD (λ_=>by show w.heap.size<=M;omega) (λa2=>?_) (λj p ao e aE bq N=>?_)
 .rw[im (v:=.bool false) rfl,aY];have:z=[]:=List.map_eq_nil_iff.1 a2;subst this;rw[U2] at R;refine⟨(H.trans ag).trans ak,b,rfl,aj,λd a6=>?_⟩;obtain⟨q,s,rfl⟩:=n9.1 ((f.1 d).2 a6);exact an q (R.mem_iff.2 s)
 .rw[im (v:=.bool true) rfl,bQ];refine Bn N ?_;obtain⟨q,s,rfl⟩:∃q,z[j]? =σ q/\gJ q=p:=by
   rw[x8] at e;exact Y5.1 e
  have aG:q∈E:=R.mem_iff.1 (o7.2 (.inr (x5 s)));have br:=f.2 q aG;have a7:q.1∈cs:=(f.1 q.1).1 (n9.2 ⟨q,aG,rfl⟩);obtain⟨a8,ba⟩:=CH f aj;have bb:(E.map gJ)[a8]? =σ (Δ b,Δ ((cs.count b:Nat):Int)):=by rw[x8,ba];rfl
  rw[im (v:=Δ q.1) rfl,im (v:=Δ q.2) rfl];have aI:(B++[q]++z.eraseIdx j).Perm E:=by
   refine List.Perm.trans ?_ R;rw[T0];exact List.Perm.append_left B (vJ s)
  have aJ:o1 ao M<o1 C M:=by
   rw[sz N,sz aD];have:=Bz (x4.1 e).1;omega
  refine aV (λv bc=>ao=bc/\ ∃r:Bool,v= .bool r/\(r=true↔(cs.count b<cs.count q.1\/(cs.count q.1=cs.count b/\q.1<b)))) ?_ ?_
  .rintro _ _ ⟨rfl,r,rfl,S⟩;rw[cb];refine⟨λbd=>?_,λaK=>?_⟩
   .have S:=S.1 bd;refine⟨⟨q.1,B++[q],z.eraseIdx j,_,_,rfl,a7,ak.trans aE,N,(mu gJ z j),aI,λp e=>?_⟩,aJ⟩;rcases o7.1 e with e|e
    .have:=an p e;omega
    .rw[o9.1 e];exact .inr ⟨rfl,T2 _⟩
   .have S:¬(cs.count b<cs.count q.1\/(cs.count q.1=cs.count b/\q.1<b)):=λh=>by rw[S.2 h] at aK;cases aK
    refine⟨⟨b,B++[q],z.eraseIdx j,_,_,rfl,aj,ak.trans aE,N,(mu gJ z j),aI,λp e=>?_⟩,aJ⟩;rcases o7.1 e with e|e
    .exact an p e
    .rw[o9.1 e];omega
  .intro ay aq;have aL:∀K:x1->Prop,aa x7 (Instr.lookup lB (.map (σ m)) (Δ b) false) ao K=K (Δ ((cs.count b:Nat):Int)):=λK=>by
    rw[qh lB.u qC N.map (qD E) ⟨_,rfl⟩ bb];simp
   rw[aL,bR,al];refine⟨λh1=>aq _ _ ⟨rfl,true,rfl,⟨λ_=>.inl Ω,λ_=>rfl⟩⟩,λh1=>?_⟩;rw[aL,bh,al];refine⟨λbf=>?_,λbf=>aq _ _ ⟨rfl,false,rfl,⟨λh=>(by cases h),λh=>Ω⟩⟩⟩;rw[aN];refine aq _ _ ⟨rfl,_,rfl,?_⟩;rw[decide_eq_true_eq];omega
theorem MY {g:Nat} {k:o4} {m:r8} (h:au k e w g v l) (p:af w j m cs) (s:e≠m) (q:leads v r):r≠j:=by
 obtain⟨rfl,_⟩:=bM h q;obtain⟨_,⟨rfl,_⟩|⟨_,_,_,f,_⟩⟩:=h
 .obtain⟨a,n,c,h,_⟩:=q;cases h
 .rintro rfl;unfold af at p f;rw[p] at f;injection f with h1;injection h1 with y x;exact s x.symm
def MZ (w:x3) (aj:Λ) (k:Int) (cs:Λ) (v:x1) (w':x3):Prop:=Ext w w'/\ ∃g m o D,v=Γ g/\eF w' g m aj k o D/\D.length<=(aK aj).toNat/\h4 aj (hZ D o) cs/\sZ cs o
theorem M0 {g bO:Nat} {cs:Λ} (h:db w g bO sv aj k cs) (aG:∀c∈cs,cn c k):am x7 Hu [Γ g] w (MZ w aj k cs):=by
 obtain⟨⟨a7,gs,ba,hm,cm⟩,⟨_,_,bb⟩,J,al⟩:=id h;have cp:=prod_bound J;have cq:=J.1;have bc:cs≠[]:=λhe=>by rw[he] at al;simp at al;omega
 refine iQ func162 ?_;rw[c5 eP.u];simp only[b9,aY];refine (mr h).mono ?_;rintro K V _ ⟨P,cr,ct,aH⟩;refine bG ax.i λan cu cw bd bf=>?_;have cz:=bf.lt;refine bt ax.i aH.ls.cells.1 aH.ls.cells.2 bf (by simp[x1.cells]) λao bP cA aq=>?_;have aq:af ao an ax [K]:=aq;have cB:=P.size;have cD:=bd.size;have bg:Ext V ao:=bd.put bP Ω;have bh:=aH.ext bg;have Z:=P.trans bg;refine aV (λu au=>∃a A m o L M,u=Γ a/\Ext ao au/\af au a eO [Γ A]/\ao.heap.size<=m/\fF au A m L M aj k o []/\sZ cs o) ?_ ?_
 .rintro _ au ⟨a,A,m,o,L,M,rfl,ac,e,cE,B,E⟩;have bQ:=h.ext (Z.trans ac);have bR:=aq.ext ac;have bS:=bh.ext ac;refine (oX bQ).mono ?_;rintro _ cF _ ⟨rfl,bT⟩;refine vE.mono ?_;rintro _ aI _ ⟨bU,bl,rfl,cG,bm⟩;have Q:=bT.trans bU;have bo:=B.ext Q;have bV:=bR.ext Q;have bp:=e.ext Q;have bW:=bS.ext Q;have bq:=hm.ext ((Z.trans ac).trans Q);have S:=bo.2.2.1;have bX:=(Z.trans ac).trans Q;have cH:=Z.size;have bY:=vD (g:=bl) (B0:=aI.heap.size) (sv:=sv) J;refine ol.old ⟨Nat,false,lz,#[Γ bl],_,_,_,_,λi w'=>ah (λr=>r=m) aI w'/\ ∃D,D.length<=i/\fF w' A m L M aj k o D/\ ∀ (j:Nat) t,(bk aj)[j]? =σ t->hZ D o t=if j<i then bn aj cs t else o,λ_ _ _=>False,rfl,bY.s,
   ?_,λ_ _ I h=>⟨h.1.ext I,h.2.1.ext I,Y9 h.2.2 I.size⟩,λ_ _ _ I ⟨h1,D,bZ,b0,bb⟩=>⟨h1.trans (I.ab _),D,bZ,b0.ext I,bb⟩,λ_ _ _ _ _ h=>h,⟨bm,bq.ls,p8 _⟩,⟨ah.refl _ _,[],p8 _,bo,λj t _=>by rw[if_neg Ω];rfl⟩,?_,?_,λ_ _ h=>h.elim,λ_ _ _ h=>h.elim⟩
  .rintro _ _ _ _ ⟨_,_,_,_,rfl,_⟩;rfl
  .rintro _ aL i _ b1 ⟨cI,cJ,b2⟩ ⟨hi,rfl,cK,gt,b3,cL,y⟩ ⟨av,D,br,aJ,aK⟩;cases b3;have aM:(bk aj)[i]? =σ (cR aj (i:Int)):=qa J.2 Ω;have b4:di aj (cR aj (i:Int)):=vu J.2 hi;generalize cR aj (i:Int)=t at*;have bu:=LK J.2 al aM;intro b5 aw _ _;intro b6 b7 _ _;have az:=aw.trans b7;have aB:ah (λr=>r=m) aI b6:=av.trans (az.ab _);rw[aA Ψ ((sY bp S aB).Qz rfl),aA Ψ ((sY bV S aB).Qz rfl),be ax.u ap.i Ψ (CG bW S aB).ls bu];have aN:=aJ.ext az;refine (By aN.is (y.ext az).ls (c:=bn aj cs t)).mono ?_;rintro _ cM _ ⟨_,b8⟩;obtain⟨rfl,aO,D',bw,bx⟩:=b8 ⟨b4,aG _ (x5 bu)⟩;have aP:=aB.trans aO;have cN:=bw.2;refine⟨⟨sY bm S aP,(CG bq S aP).ls,Y9 b2 (Y9 az.size aO.size)⟩,⟨aP,D',Ω,aN.put aO bx,λj s N=>?_⟩,λh=>by cases h⟩;rw[bw.cost aN.is.nodup bx.nodup];by_cases bz:j=i
   .subst bz;rw[aM] at N;cases N;rw[if_pos rfl,if_pos Ω]
   .rw[if_neg (λ(he:s=t)=>bz (MV J.2 (by rw[<-he];exact N) aM)),aK j s N];by_cases h1:j<i
    .rw[if_pos h1,if_pos Ω]
    .rw[if_neg h1,if_neg Ω]
  .rintro i b1 rfl ⟨av,D,br,aJ,aK⟩;rw[aA Ψ ((sY bp S av).Qz rfl)];intro b5 aw _;refine⟨(bX.put av Ω).trans aw,A,m,o,D,rfl,aJ.is.ext aw,br,⟨al,λt ca=>?_⟩,E⟩;obtain⟨j,N⟩:=MW J.2 ca;have:=(x4.1 N).1;rw[i7 J.2] at this;rw[aK j t N,if_pos this]
 intro ay bA;intro z ad _ _;have aQ:=Z.trans ad;have bB:=ad;have aD:=h.ext aQ;have bC:=bh.ext ad;have cO:=ad.size;rw[aA Ψ ((aq.ext ad).Qz rfl)];have bD:∀ {a:Nat} {w':x3} {aL:x1} {o:Int},Ext z w'->z.heap.size<=a->(∃f,af w' a eO [f])->aF .i64 w' aL aj->sZ cs o->
   am x7 ou [aL,Δ k,Δ o] w' λC q=>aa x7 (Z4 C 0) q λO=>aa x7 (Z4 C 1) q λ_=>aC x7 (o6 eO (Γ a) O) q λ(_:Unit) G=>ay (Γ a) G:=by
  rintro a w' aL o x p ⟨f,e⟩ y E;refine (Bs y).mono ?_;rintro _ q _ ⟨aR,_,_,aS⟩;obtain⟨A,m,rfl,cb,cc,B⟩:=aS J (aG _ E.1);obtain⟨L,M,B⟩:=B.at;rw[bi,bj];have cd:=e.lt;have s':=x.size;refine bt eO.i rfl rfl (e.ext aR) Ξ λG bE cP ce=>?_;refine bA _ _ ⟨a,A,m,o,L,M,rfl,((bB.trans x).trans aR).put bE Ω,ce,Ω,B.ab bE (λhe=>by have he:A=a:=he;omega) (λhe=>by have he:m=a:=he;omega) (λr aT he=>?_),E⟩;exact MY B.2.1 (e.ext aR) Φ aT he
 have bF:∀ {a:Nat} {w':x3} {aL:x1},Ext z w'->z.heap.size<=a->(∃f,af w' a eO [f])->aF .i64 w' aL aj->
   am x7 rN [K] w' λae V=>am x7 ou [aL,Δ k,ae] V λC q=>aa x7 (Z4 C 0) q λO=>aa x7 (Z4 C 1) q λ_=>aC x7 (o6 eO (Γ a) O) q λ(_:Unit) G=>ay (Γ a) G:=by
  rintro a w' aL x p ⟨f,e⟩ y;refine (CI (bC.ext x).ls bc Ω).mono ?_;rintro _ V _ ⟨P,o,rfl,E⟩;exact bD (x.trans P) p ⟨f,e.ext P⟩ (y.ext P) E
 have bH:∀ {a:Nat} {w':x3} {aL:x1},Ext z w'->z.heap.size<=a->(∃f,af w' a eO [f])->aF .i64 w' aL aj->
   am x7 uU [Γ g] w' λaU U=>(Ext z U\/cC x7 (u4 ax (Γ an)) K U/\True)/\
    am x7 rN [K] U λae V=>am x7 ou [aL,aU,ae] V λC q=>aa x7 (Z4 C 0) q λO=>aa x7 (Z4 C 1) q λ_=>aC x7 (o6 eO (Γ a) O) q λ(_:Unit) G=>ay (Γ a) G:=by
  rintro a w' aL x p ⟨f,e⟩ y;refine (Bh (aD.ext x)).mono ?_;rintro _ U _ ⟨rfl,H⟩;exact⟨.inl (x.trans H),bF (x.trans H) p ⟨f,e.ext H⟩ (y.ext H)⟩
 have bI:aj.length<=1000:=Ω
 have bJ:∀ {a:Nat} {w':x3},Ext z w'->z.heap.size<=a->(∃f,af w' a eO [f])->
   am x7 zr [.agg #[sv]] w' λcg w0=>(Ext z w0\/cC x7 (u4 ax (Γ an)) K w0/\True)/\
    am x7 uU [Γ g] w0 λaU U=>(Ext z U\/cC x7 (u4 ax (Γ an)) K U/\True)/\
    am x7 rN [K] U λae V=>am x7 ou [cg,aU,ae] V λC q=>aa x7 (Z4 C 0) q λO=>aa x7 (Z4 C 1) q λ_=>aC x7 (o6 eO (Γ a) O) q λ(_:Unit) G=>ay (Γ a) G:=by
  rintro a w' x p ⟨f,e⟩;refine (Bi (hm.ext (aQ.trans x)).ls bI).mono ?_;rintro aL U _ ⟨H,_,_,y⟩;exact⟨.inl (x.trans H),bH (x.trans H) p ⟨f,e.ext H⟩ y.ls⟩
 have ag:∀ {w':x3} {R:x1->x3->Prop},Ext z w'->(∀a ai,z.heap.size<=a->Ext w' ai->(∃f,af ai a eO [f])->R (Γ a) ai)->aC x7 (R7 eO true (.tuple #[])) w' R:=λ{w'} {R} x ch=>by
  have:=x.size;exact bG eO.i λa ai p ci ba=>ch a ai Ω ci ⟨_,ba⟩
 refine⟨?_,ag (Ext.refl _) λa cQ p aE e=>⟨.inl aE,?_⟩⟩
 rotate_left
 .refine (oX (aD.ext aE)).mono ?_;rintro _ cS _ ⟨rfl,aW⟩;obtain⟨f,e⟩:=e;exact⟨.inl (aE.trans aW),bJ (aE.trans aW) p ⟨f,e.ext aW⟩⟩
 refine (oX aD).mono ?_;rintro _ cT _ ⟨rfl,W⟩;refine⟨.inl W,?_,ag W λa cU p bK e=>⟨.inl (W.trans bK),bJ (W.trans bK) p e⟩⟩;refine (Bi (hm.ext (aQ.trans W)).ls bI).mono ?_;rintro aL cV _ ⟨cj,_,_,y⟩;have X:=W.trans cj;refine⟨.inl X,?_,ag X λa cW p aX e=>⟨.inl (X.trans aX),bH (X.trans aX) p e (y.ext aX).ls⟩⟩;refine (Bh (aD.ext X)).mono ?_;rintro _ cX _ ⟨rfl,aZ⟩;have Y:=X.trans aZ;refine⟨.inl Y,?_,ag Y λa cY p a1 e=>⟨.inl (Y.trans a1),bF (Y.trans a1) p e ((y.ext aZ).ext a1).ls⟩⟩;refine (CI (bC.ext Y).ls bc Ω).mono ?_;rintro _ cZ _ ⟨bL,o,rfl,E⟩;have ak:=Y.trans bL;have bM:=(y.ext aZ).ext bL;refine⟨?_,ag ak λa c0 p a2 e=>⟨.inl (ak.trans a2),bD (ak.trans a2) p e (bM.ext a2).ls E⟩⟩;refine (Bs bM.ls).mono ?_;rintro _ c1 _ ⟨ck,_,_,aS⟩;obtain⟨A,m,rfl,cb,cc,B⟩:=aS J (aG _ E.1);obtain⟨L,M,B⟩:=B.at;rw[bi,bj];have a6:=ak.trans ck;refine bG eO.i λa c2 p a8 e=>?_;refine⟨.inl (a6.trans a8),?_⟩;have cd:=e.lt;obtain⟨c3,c4,t3⟩:=B.qf;have c6:=ak.size;have c7:=a6.size;refine bt eO.i rfl rfl e (by simp[x1.cells]) λc8 bN c9 cl=>?_;exact bA _ _ ⟨a,A,m,o,L,M,rfl,((bB.trans a6).trans a8).put bN Ω,cl,Ω,(B.ext a8).ab bN (λhe=>by have he:A=a:=he;omega) (λhe=>by have he:m=a:=he;omega) (λr aT he=>by have he:r=a:=he;have:=t3 r aT;omega),E⟩
theorem CJ {acc:List cK} {g:cK} (h:∀x∈acc,x.1≠g.1):hY k acc g=acc++[g]:=by
 unfold hY;rw[if_neg];intro hm;obtain⟨x,I,he⟩:=n9.1 hm;exact h x I he
theorem M1 {acc:List cK} {g h:cK} {i:Nat} (e:iy acc) (hi:acc[i]? =σ h) (he:h.1=g.1):hY k acc g=acc.set i (h.1,dS k h.2 g.2):=by
 have f:=(x4.1 hi).1;unfold hY;rw[if_pos (n9.2 ⟨h,x5 hi,he⟩)];refine Y6 λj=>?_;rw[x8,Y3];by_cases a:i=j
 .subst a;rw[hi,Z3,if_pos he,if_pos rfl,if_pos f]
 .rw[if_neg a];cases m:acc[j]? with
  |none=>rfl
  |some y=>
   have:y.1≠g.1:=λp=>a (by
    have h1:(acc.map (·.1))[i]? =σ g.1:=by rw[x8,hi,Z3,he]
    have q:(acc.map (·.1))[j]? =σ g.1:=by rw[x8,m,Z3,p]
    exact kc e h1 q)
   rw[Z3,if_neg this]
theorem M2 {α β:Type} {f:β->α->β} {b:β} {l:List α} {i:Nat} {x:α} (h:l[i]? =σ x):(l.take (i+1)).foldl f b=f ((l.take i).foldl f b) x:=by
 rw[u9,h,l7,U9];rfl
def my (w:x3) (k:Int) (sizes:Λ) (x:cp):Prop:=(∃a,au .i64 ai w a x.sv x.sc)/\ ∃m o D,eF w x.g m (bV sizes x.sc) k o D/\D.length<=4096/\h4 (bV sizes x.sc) (hZ D o) x.cs
theorem my.ext {x:cp} (h:my w k sizes x) (I:Ext w w'):my w' k sizes x:=by
 obtain⟨⟨a,h1⟩,m,o,D,e,f⟩:=h;exact⟨⟨a,h1.ext I⟩,m,o,D,e.ext I,f⟩
theorem my.ab {x:cp} (h:my w k sizes x) (I:ah S w w') (j:∀r,S r-> ∃e c,af w r e c/\e≠fv/\e≠ai):my w' k sizes x:=by
 obtain⟨⟨y,h1⟩,m,o,D,z,A⟩:=h;obtain⟨sv,gs,f⟩:=z.at;have q:∀ {g:Nat} {v:x1} {l:Λ},au .i64 ai w g v l-> ∀r,leads v r->¬S r:=λhm r B J=>by
  obtain⟨e,c,a,_,p⟩:=j r J;exact b4 hm a (λhe=>p he.symm) B rfl
 refine⟨⟨y,bp h1 I (q h1)⟩,m,o,D,(f.ab I (λJ=>?_) (λJ=>?_) (q f.2.1)).is,A⟩
 .obtain⟨e,c,a,p,_⟩:=j _ J;have s:=f.1;unfold af at s a;rw[s] at a;exact p (Obj.cells.inj (j6 a)).2.1.symm
 .obtain⟨e,c,a,_,_⟩:=j _ J;exact sM a f.2.2.1 rfl
def qE (w:x3) (g:Nat) (v:x1) (k:Int) (sizes:Λ) (L:List cp):Prop:=bg eu 2 cG w g v L/\ ∀x∈L,my w k sizes x
theorem qE.ext {g:Nat} {L:List cp} (h:qE w g v k sizes L) (I:Ext w w'):qE w' g v k sizes L:=⟨h.1.ext I,λx a=>(h.2 x a).ext I⟩
def M3 (w:x3) (B a:Nat) (f:bZ):Prop:=∃szv e gz g L,af w a cF [bN f.name,Δ f.k,szv,e]/\au .i64 ai w gz szv f.sizes/\qE w g e f.k f.sizes L/\L.map dQ=fC f/\B<=a/\(∀r,leads szv r->B<=r)/\ ∀x∈L,∀r,leads x.sv r->B<=r
theorem M4 {g bm:Nat} {L:List cp} {j:Λ} (h:e2 w g v L) (z:af w bm an [sv]) (J:aF .i64 w sv j):
  am x7 zi [v,.func (.func zj) #[] #[Γ bm]] w λr w'=>Ext w w'/\((r=Δ (-1)/\ ∀x∈L,x.sc≠j)\/ ∃i:Nat,r=Δ (i:Int)/\ ∃x,L[i]? =σ x/\x.sc=j):=by
 refine az func150 ?_;rw[e9 gi.u h.1];refine bX.range L.length (λi _ U=>Ext w U/\ ∀x∈L.take i,x.sc≠j) h.1.le ⟨Ext.refl _,λc a=>by simp at a⟩ ?_ ?_
 .rintro i _ U k hi ⟨I,m⟩ hk;refine bE Ω ?_;obtain⟨x,q⟩:=aH (l:=L) hi;rw[sU rfl (h.ext I) q];show am x7 zj [jH x,Γ bm] U _;obtain⟨⟨B,hm⟩,_⟩:=(h.ext I).at q;refine az func151 ?_;refine bo λaq V C f s=>?_;have s:af V aq cW [x.sv,Γ x.g]:=by
   obtain⟨_,_,_,e⟩:=dg hm.ls;simp only[jH,eu,e] at s ⊢;exact s
  rw[aT cW.p 0 s rfl,aA Ψ ((z.ext (I.trans f)).Qz rfl)];refine (IX (hm.ls.ext f) (J.ext (I.trans f))).mono ?_;rintro _ E _ ⟨rfl,y⟩;rw[al];refine⟨λhe=>⟨(I.trans f).trans y,.inr ⟨i,rfl,x,q,he⟩⟩,λA=>?_⟩;rw[aM];refine hk _ _ ⟨(I.trans f).trans y,λc a=>?_⟩;rw[u9,q] at a;rcases o7.1 a with a|a
  .exact m c a
  .simp at a;subst a;exact A
 .rintro _ U k ⟨I,m⟩;rw[o5] at m;rw[aN,al];exact⟨λh=>Ω,λ_=>⟨I,.inl ⟨rfl,m⟩⟩⟩
def eG (f:bZ) (i:Nat):List cK:=((f.funs.take i).map (hK f.sizes f.k)).foldl (hY f.k) []
theorem CK {f:bZ} (ae:e8 N f) (i:Nat):(∀g∈eG f i,fE f.sizes f.k g)/\iy (eG f i)/\(eG f i).length<=i:=by
 have:=vV (sizes:=f.sizes) (k:=f.k) (by have:=ae.k.1;omega) (l:=(f.funs.take i).map (hK f.sizes f.k)) (acc:=[]) (λh aG=>by cases aG) List.nodup_nil λg e=>by
  obtain⟨x,I,rfl⟩:=n9.1 e;exact pc ae (S3 I)
 refine⟨this.1,this.2.1,?_⟩;have a:=this.2.2;rw[List.length_nil,u7,X0,l9] at a;exact Y9 a (Nat.min_le_left _ _)
theorem wj {f:bZ} {i:Nat} {x:cv} (h:f.funs[i]? =σ x):eG f (i+1)=hY f.k (eG f i) (hK f.sizes f.k x):=by
 unfold eG;rw[u9,h,l7,b6,U9];rfl
theorem CL (f:bZ):eG f f.funs.length=ff f:=by unfold eG ff;rw[o5]
theorem wk {L:List cp} {i:Nat} {x:cp} {D:List cK} (h:L.map dQ=D) (I:L[i]? =σ x):dQ x∈D:=by rw[<-h];exact n9.2 ⟨x,x5 I,rfl⟩
def M5 (w:x3) (f:bZ) (v:x1) (w':x3):Prop:=Ext w w'/\((¬lR f.funs<=16384/\ ∃e:Int,e≠0/\v= .tuple #[.pointer ν,Δ e])\/ ∃a,v= .tuple #[Γ a,Δ 0]/\M3 w' w.heap.size a f)
theorem s4 {g a:Nat} {sc cs:Λ} (hm:au .i64 ai w g sv sc):∀u∈eu ⟨sv,a,sc,cs⟩,u.oneCell'=true:=λu hu=>by
 simp[eu] at hu;rcases hu with rfl|rfl
 .exact hm.ls.cells.2
 .rfl
theorem M6 {bQ:Nat} {f:bZ} (bR:k1 w bQ f) (E:e8 N f) (bT:N<=60000) (c2:f.name≠[]/\ ∀b∈f.name,bJ b=true):
  am x7 Gv [Γ bQ] w (M5 w f):=by
 have hk:=E.k;refine az func89 ?_;refine (Ms bR E bT c2).mono ?_;rintro _ U _ ⟨aJ,e,rfl,he⟩;rw[bz,al];refine⟨λbU=>⟨aJ,.inl ⟨λh=>bU (he h),e,bU,rfl⟩⟩,λer=>?_⟩;have bY:=bR.ext aJ;obtain⟨szv,aL,gz,bc,b0,c3,bd,aN⟩:=id bY;have es:bc.length<=256:=by rw[aN.1];exact E.kS
 rw[aO cF.p 3 b0 rfl,io dD.u bd];refine bX.range bc.length (λi l V=>∃g L,Ext U V/\e2 V g l L/\Sem V f.k f.sizes L/\L.map dQ=eG f i/\(∀r,leadsTo l r->U.heap.size<=r)/\ ∀x∈L,∀r,leads x.sv r->U.heap.size<=r) (rX bd)
  ⟨0,[],Ext.refl _,⟨bg.nil _ _ _ _ _,λx I=>(by cases I)⟩,λx I=>(by cases I),rfl,λr A=>(fg A).elim,λx I=>(by cases I)⟩ ?_ ?_
 .rintro i l V c4 hi ⟨g,L,X,aB,aP,G,O,aC⟩ c5;obtain⟨d,b2⟩:=aH (l:=bc) hi;obtain⟨x,aQ⟩:∃x,f.funs[i]? =σ x:=⟨_,x6 (by have:=aN.1;omega)⟩;have b3:=x5 aQ;have c6:=aN.2 i x d aQ b2;have Y:=pc E b3;obtain⟨c7,c8,et⟩:=CK E i;have c9:L.length<=i:=by have b5:=congrArg S7 G;rw[u7] at b5;omega
  refine bE Ω ?_;refine aV (λl' aR=>∃P Z,Ext U aR/\e2 aR P l' Z/\Sem aR f.k f.sizes Z/\Z.map dQ=eG f (i+1)/\(∀r,leadsTo l' r->U.heap.size<=r)/\ ∀x∈Z,∀r,leads x.sv r->U.heap.size<=r) ?_ ?_
  .rintro l' aR ⟨P,Z,h1,da,dc,dd,de⟩;rw[aM];exact c5 _ _ ⟨P,Z,h1,da,dc,dd,de⟩
  intro ay b7;refine np (α:=gV) cG.p rfl dD.u cG.i (bW bd X) b2 λcs be=>?_;have b8:cs.length=2:=ao.len be;refine bG cG.i λaq ev ew df dh=>?_;refine ck (vs:=cs) cG.i b8 rfl (ao.one be) dh λdi dj ey dk=>?_;have J:Ext V di:=df.put dj Ω;rw[bO cG.p cG.i b8 dk.range];refine (MC E bT b3 c6 (bW be J)).mono ?_;rintro _ dl _ ⟨dm,sv,gs,b9,dp,dq,rfl,ez,aa,ca⟩;rw[bi,bj];refine bG an.i λbm eA eB ds dt=>?_;refine bt an.i aa.ls.cells.1 aa.ls.cells.2 dt (by simp[x1.cells]) λcb du eC aS=>?_;have bf:Ext dl cb:=ds.put du Ω;have aS:af cb bm an [sv]:=aS;rw[iR];have bh:=(J.trans dm).trans bf;have eD:=bh.size;have eE:=X.size;refine (M4 (aB.ext bh) aS (aa.ls.ext bf)).mono ?_;rintro _ eF _ ⟨aU,A⟩;have aX:=bh.trans aU;have cc:=bf.trans aU;have bk:=aa.ext cc;have cd:=ca.ext cc;have ce:=aS.ext aU;have cg:=aB.ext aX;have bn:=aP.ext aX;rcases A with⟨rfl,dv⟩|⟨ci,rfl,y,B,aY⟩
  .refine bE Ω ?_;rw[aA Ψ (ce.Qz rfl),dn (cs:=#[sv,Γ b9]) (by obtain⟨_,_,_,rfl⟩:=dg aa.ls;kernel_rfl)];let a:cp:=⟨sv,b9,bl x.scope,(hK f.sizes f.k x).2⟩;have bq:∀u∈eu a,u.oneCell'=true:=s4 bk;refine h2 (f:=eu) (a:=a) gi.u cW.i Ω rfl rfl λeH eI dw eJ ad dx=>?_;have ae:=cg.ext ad;refine iw (f:=eu) (a:=a) gi.u cW.i rfl ae.1 (by simpa using dx.sl) bq Ω Ω λaD P eK aE br aF=>?_;have cj:=bk.ext ad;have aZ:∀ {r:Nat},leadsTo l r-> ∃c,af dw r cW c:=λA=>by
    obtain⟨rfl,c,C⟩:=dY ae.1 A;exact⟨c,C⟩
   refine b7 _ _ ⟨P,L++[a],((X.trans aX).trans ad).then aF (λr A he=>by have:=O r he;omega),e2.mk aE λz s=>?_,λz s=>?_,?_,λr A=>?_,λz s r A=>?_⟩
   .rcases o7.1 s with s|s
    .have:=(ae.2 z s).ab aF λr A he=>(ae.2 z s).2.1 r A (ae.1.leads he).1;exact⟨this.1,this.2.2⟩
    .rw[o9.1 s];exact⟨⟨gs,bp cj aF λr A he=>by obtain⟨c,C⟩:=aZ he;exact b4 cj C Φ A rfl⟩,Y.scope⟩
   .rcases o7.1 s with s|s
    .exact (bn.ext ad).row ae aF z s
    .rw[o9.1 s];exact⟨dp,dq,wc (cd.ext ad) aF λr A=>aZ A⟩
   .rw[b6,G,wj aQ,CJ]
    .rfl
    .intro c H dy;rw[<-G] at H;obtain⟨z,s,rfl⟩:=n9.1 H;exact dv z s dy
   .rcases br r A with h|h
    .exact O r h
    .have:=ad.size;have:=aU.size;omega
   .rcases o7.1 s with s|s
    .exact aC z s r A
    .rw[o9.1 s] at A;have b5:=(bM aa A).1;have:=J.size;omega
  .refine cm Ω ?_;intro eL Q _ _;have bu:=cg.ext Q;have cl:=(x4.1 B).1;obtain⟨dz,dA,a1⟩:=(bn.ext Q) y (x5 B);have cq:=ce.ext Q;have cr:=bk.ext Q;have dC:=cd.ext Q;rw[dr rfl gi.u cW.i bu.1 cl,aW cW.p rfl,aA Ψ (bu.1.range B 1 _ rfl),aA Ψ (cq.Qz rfl),aA Ψ (cq.Qz rfl)];have aj:fE f.sizes f.k (dQ y):=c7 _ (wk G B);rw[aY] at a1;have ct:∀ {c:Int},0<=c/\c<=f.k->cn c f.k:=λh=>⟨hk,h.1,h.2⟩;refine (MO a1 dC cr.ls cr.ls hk (λc H=>ct (aj.hv c H)) (λc H=>ct (Y.hv c H))).mono ?_;intro eM cu _ dE;have dF:y.cs.length=(aK (bV f.sizes (bl x.scope))).toNat:=by have:=aj.len;rw[show (dQ y).1=y.sc from rfl,aY] at this;exact this
   have dG:b1 (bV f.sizes (bl x.scope)):=ca.2.2.1;obtain⟨bw,cw,cz,cA,eN,rfl,dH⟩:=MT Y.up (λv ac=>(Y.scope.1 v ac).1) (by simp[bV];rfl) dG Y.small dF Y.len dE;rw[fy,fz,fA];have R:=bu.ext bw;rw[dr rfl gi.u cW.i R.1 cl,aW cW.p rfl];let a:cp:=⟨y.sv,cw,y.sc,dS f.k y.cs (hK f.sizes f.k x).2⟩;refine o0 (f:=eu) (j:=1) (a:=y) (a':=a) eP.i rfl rfl R.1 B rfl Ω λdI a2 eO dJ=>?_;have aZ:∀ {r:Nat},leadsTo l r-> ∃c,af cu r cW c:=λA=>by
    obtain⟨rfl,c,C⟩:=dY R.1 A;exact⟨c,C⟩
   refine b7 _ _ ⟨g,L.set ci a,((X.trans aX).trans (Q.trans bw)).then a2 (λr A he=>by have:=O r he;omega),e2.mk dJ λz s=>?_,λz s=>?_,?_,O,λz s=>?_⟩
   .have cB:∀z∈L,(∃bx,au .i64 ai dI bx z.sv z.sc)/\jc z.sc:=λz s=>by
     have:=(R.2 z s).ab a2 λr A he=>(R.2 z s).2.1 r A (R.1.leads he).1;exact⟨this.1,this.2.2⟩
    rcases X6 s with s|rfl
    .exact cB z s
    .exact cB y (x5 B)
   .rcases X6 s with s|rfl
    .exact ((bn.ext Q).ext bw).row R a2 z s
    .refine⟨cz,cA,wc ?_ a2 λr A=>aZ A⟩;show db cu cw cz cA (bV f.sizes y.sc) f.k _;rw[aY];exact dH
   .rw[V7,G,wj aQ,M1 (g:=hK f.sizes f.k x) c8 (i:=ci) (h:=dQ y) (by rw[<-G,x8,B];rfl) aY];rfl
   .rcases X6 s with s|rfl
    .exact aC z s
    .exact aC y (x5 B)
 .rintro l V c4 ⟨g,L,X,aB,aP,G,O,aC⟩;refine cm Ω ?_;rw[aN.1,CL] at G;have c9:L.length<=256:=by
   have:=(kZ E).2.2;rw[<-G,u7] at this;have:=E.kS;omega
  refine (MI aB aP Ω).mono ?_;rintro eQ cC _ ⟨cD,cE,dK⟩;have dL:Ext U cC:=X.then cD λr A he=>by have:=O r he;omega
  have dM:Sem cC f.k f.sizes (L.filter fT):=λz s=>(aP.row aB cD) z (T6.1 s).1;have eR:(L.filter fT).length<=L.length:=List.length_filter_le _ _;refine (Mz cE Ω).mono ?_;rintro _ cH _ ⟨cI,M,a6,dN,cJ⟩;have dO:Ext U cH:=dL.then cI λr A he=>by have:=O r (dK r he);omega
  have cK:Sem cH f.k f.sizes M:=λz s=>(dM.row cE cI) z (a6.mem_iff.1 s);have eS:M.length<=256:=by rw[a6.length_eq];omega
  have dP:∀x∈M,∀r,leads x.sv r->U.heap.size<=r:=λx I=>aC x (T6.1 (a6.mem_iff.1 I)).1;have cL:M.map dQ=fC f:=by
   refine Ly E ?_ ?_
   .refine (a6.map dQ).trans ?_;rw[<-G,List.filter_map];exact .refl _
   .rw[List.pairwise_map];refine V2.2 λp q dR cM dT=>?_;exact dN p q _ _ (X3 _) dT cM (x6 dR) (x6 cM)
  intro eU a7 _ _;have ak:=dO.trans a7;have eV:=bY.ext ak;have bA:=b0.ext ak;rw[aO cF.p 0 bA rfl,aO cF.p 1 bA rfl,aO cF.p 2 bA rfl];refine (kP (c3.ls.ext ak) (by have:=E.sizes.2.1;omega)).mono ?_;rintro aG cN _ ⟨S,dU,eW,bB⟩;refine⟨.inl S,?_⟩;rw[dn (cs:=#[bN f.name,Δ f.k,aG,.slice ν 0 0]) (by obtain⟨_,_,_,rfl⟩:=dg bB.ls;kernel_rfl)];refine bo λW dV eX a8 bC=>?_;have bC:af dV W cF [bN f.name,Δ f.k,aG,.slice ν 0 0]:=bC;have eY:=(ak.trans S).trans a8;have dW:=((cJ.ext a7).ext S).ext a8;have eZ:=((cK.ext a7).ext S).ext a8;rw[e9 gi.u dW.1];refine ch.range M.length (λi ap=>∃aL gr K,Ext cN ap/\af ap W cF [bN f.name,Δ f.k,aG,aL]/\qE ap gr aL f.k f.sizes K/\K.map dQ=(M.take i).map dQ/\K.length=i/\(∀r,leadsTo aL r->cN.heap.size<=r)/\ ∀x∈K,∀r,leads x.sv r->U.heap.size<=r) Ω
   ⟨_,0,[],a8,bC,⟨bg.nil _ _ _ _ _,λx I=>(by cases I)⟩,rfl,rfl,λr A=>(fg A).elim,λx I=>(by cases I)⟩ ?_ ?_
  rotate_left
  .rintro ap dX ⟨aI,gr,K,av,aw,bD,ba,_,_,bF⟩;rw[o5,cL] at ba;refine cm Ω ?_;have e0:=aJ.size;have e1:=ak.size;have e3:=S.size;exact⟨(aJ.trans (ak.trans S)).trans av,.inr ⟨W,rfl,aG,aI,dU,gr,K,aw,bB.ext av,bD,ba,Ω,λr A=>by have:=(bM bB A).1;omega,λx I r A=>by have:=bF x I r A;omega⟩⟩
  rintro i ap dX hi ⟨aI,gr,K,av,aw,bD,ba,dZ,cO,bF⟩ ea;obtain⟨y,B⟩:=aH (l:=M) hi;have cP:=(a7.trans S).trans av;have cQ:=cJ.ext cP;have cR:=cQ.at B;obtain⟨dz,dA,a1⟩:=(cK.ext cP) y (x5 B);have aj:fE f.sizes f.k (dQ y):=sI E _ (wk cL B);refine bE Ω ?_;rw[sU rfl cQ B];refine bG cW.i λgy e4 e5 eb ec=>?_;refine ck (vs:=eu y) cW.i rfl rfl cR.one ec λed ee e6 ef=>?_;have eg:Ext ap ed:=eb.put ee Ω;intro e7 cS _ _;have bH:=eg.trans cS;have cT:=ef.ext cS;have eh:=aw.ext bH;rw[aO cF.p 3 eh rfl,aT cW.p 0 cT rfl,aT cW.p 1 cT rfl];refine (M0 (a1.ext bH) λc H=>⟨hk,(aj.hv c H).1,(aj.hv c H).2⟩).mono ?_;rintro _ fa _ ⟨bI,ag,m,o,D,rfl,ei,ej,ek,_⟩;refine⟨.inl bI,?_⟩;have cU:=bH.trans bI;obtain⟨⟨bx,cV⟩,_,fb⟩:=cR;have cX:=cV.ext cU;rw[dn (cs:=#[y.sv,Γ ag]) (by obtain⟨_,_,_,e⟩:=dg cV.ls;rw[e];kernel_rfl)];let a:cp:=⟨y.sv,ag,y.sc,y.cs⟩;have bq:∀u∈eu a,u.oneCell'=true:=s4 cX;refine h2 (f:=eu) (a:=a) dD.u cG.i Ω rfl rfl λv25 fc bK fd J em=>?_;refine⟨.inl (bI.trans J),?_⟩;have ax:=cU.trans J;have bb:=bD.ext ax;refine iw (f:=eu) (a:=a) dD.u cG.i rfl bb.1 (by simpa using em.sl) bq Ω Ω λaD P en aE br cY=>?_;have fe:=av.size;have ff:=ax.size;have bL:af en W cF [bN f.name,Δ f.k,aG,aI]:=(aw.ext ax).ab cY λhe=>by
   obtain⟨rfl,c,C⟩:=dY bb.1 he;have h1:=aw.ext ax;unfold af at C h1;rw[h1] at C;exact absurd (Obj.cells.inj (j6 C)).2.1 Φ
  rw[bS,aW cF.p rfl];have cZ:aD.cells= #[aD]/\aD.oneCell'=true:=by
   obtain⟨_,_,_,_,_,rfl,_⟩:=aE.sl;exact⟨rfl,rfl⟩
  refine bt dD.i cZ.1 cZ.2 bL Ξ λeo c0 fh ep=>?_;rw[aM];have bP:ah (λr=>r=W\/leadsTo aI r) bK eo:=(cY.mono λr _ h=>.inr h).trans (c0.mono λr _ h=>.inl h);have c1:∀r,(r=W\/leadsTo aI r)-> ∃e c,af bK r e c/\e≠fv/\e≠ai:=λr A=>by
   rcases A with rfl|A
   .exact⟨_,_,aw.ext ax,Φ,Φ⟩
   .obtain⟨rfl,c,C⟩:=dY bb.1 A;exact⟨_,c,C,Φ,Φ⟩
  refine ea _ ⟨aD,P,K++[a],?_,ep,⟨aE.ab c0 λr A he=>?_,λz s=>?_⟩,?_,by rw[p9,dZ];rfl,λr A=>?_,λz s=>?_⟩
  .exact (av.trans ax).then bP λr A he=>by
    rcases he with rfl|he
    .omega
    .have:=cO r he;omega
  .have he:r=W:=he;subst he;obtain⟨rfl,c,C⟩:=dY aE A;unfold af at C bL;rw[bL] at C;exact absurd (Obj.cells.inj (j6 C)).2.1 Φ
  .rcases o7.1 s with s|s
   .exact (bb.2 z s).ab bP c1
   .rw[o9.1 s];refine my.ab (w:=bK) ⟨⟨bx,cX.ext J⟩,m,o,D,ei.ext J,?_,ek⟩ bP c1;have:=aj.small;exact Y9 ej (by show (aK (bV f.sizes (dQ y).1)).toNat<=4096;omega)
  .rw[b6,ba,u9,B,b6];rfl
  .rcases br r A with h|h
   .exact cO r h
   .omega
  .rcases o7.1 s with s|s
   .exact bF z s
   .rw[o9.1 s];exact dP y (x5 B)
theorem fa {a:r8} {c f:List x1} (h:af w r e c) (h':af w r a f):e=a:=by
 unfold af at h h';rw[h] at h';exact (Obj.cells.inj (j6 h')).2.1
theorem cQ {α:Type} {f:α->List x1} {k:Nat} {a:r8} {g:Nat} {L:List α} (h:bg f k e w g v L) (m:af w j a cs) (p:e≠a):¬leadsTo v j:=λq=>by
 obtain⟨rfl,c,r⟩:=dY h q;exact p (fa r m)
structure k2 where
 v:x1
 l:Λ
def nI (h:k2):List x1:=[h.v]
def hx (w:x3) (g:Nat) (v:x1) (aX:List k2):Prop:=bg nI 1 ax w g v aX/\ ∀h∈aX,∃a,au .i64 ap w a h.v h.l
theorem hx.ext {g:Nat} {aX:List k2} (h:hx w g v aX) (I:Ext w w'):hx w' g v aX:=⟨h.1.ext I,λx a=>by
 obtain⟨e,hm⟩:=h.2 x a;exact⟨e,hm.ext I⟩⟩
theorem hx.qF {g:Nat} {aX:List k2} (h:hx w g v aX) (f:ah S w w') (j:∀r,S r-> ∃e c,af w r e c/\e≠ap):∀h∈aX,∃a,au .i64 ap w' a h.v h.l:=λx m=>by
 obtain⟨a,hm⟩:=h.2 x m;exact⟨a,bp hm f λr p J=>by
  obtain⟨e,c,q,s⟩:=j r J;exact b4 hm q (λhe=>s he.symm) p rfl⟩
theorem hx.ab {g:Nat} {aX:List k2} (h:hx w g v aX) (m:ah S w w') (p:∀r,S r-> ∃e c,af w r e c/\e≠ap/\e≠ax):hx w' g v aX:=
 ⟨h.1.ab m λr a J=>by
  obtain⟨e,c,f,_,j⟩:=p r J;exact cQ h.1 f (λhe=>j he.symm) a,h.qF m λr a=>by
  obtain⟨e,c,f,j,_⟩:=p r a;exact⟨e,c,f,j⟩⟩
def nJ (w:x3) (k:Int) (sizes:Λ) (x:cp):Prop:=(∃a,au .i64 ai w a x.sv x.sc)/\ ∃e f,db w x.g e f (bV sizes x.sc) k x.cs
theorem nJ.ext {x:cp} (h:nJ w k sizes x) (I:Ext w w'):nJ w' k sizes x:=by
 obtain⟨⟨a,h1⟩,e,f,j⟩:=h;exact⟨⟨a,h1.ext I⟩,e,f,j.ext I⟩
theorem CM {g q:Nat} {s:x1} {cs:Λ} (h:db w g q s aj k cs) (j:ah S w w') (m:∀r,S r-> ∃e c,af w r e c/\e≠cX/\e≠ai/\e≠ap):db w' g q s aj k cs:=by
 obtain⟨⟨a7,gs,h1,x,y⟩,z⟩:=h;refine⟨⟨a7,gs,h1.ab j λJ=>?_,bp x j λr p J=>?_,bp y j λr p J=>?_⟩,z⟩
 .obtain⟨e,c,a,f,_⟩:=m g J;exact f (fa a h1)
 .obtain⟨e,c,a,_,f,_⟩:=m r J;exact b4 x a (λhe=>f he.symm) p rfl
 .obtain⟨e,c,a,_,_,f⟩:=m r J;exact b4 y a (λhe=>f he.symm) p rfl
theorem nJ.ab {x:cp} (h:nJ w k sizes x) (a:ah S w w') (f:∀r,S r-> ∃e c,af w r e c/\e≠cX/\e≠ai/\e≠ap):nJ w' k sizes x:=by
 obtain⟨⟨j,h1⟩,m,p,q⟩:=h;refine⟨⟨j,bp h1 a λr s J=>?_⟩,m,p,CM q a f⟩;obtain⟨e,c,y,_,z,_⟩:=f r J;exact b4 h1 y (λhe=>z he.symm) s rfl
def nK (w:x3) (g:Nat) (v:x1) (k:Int) (sizes:Λ) (L:List cp):Prop:=bg eu 2 hj w g v L/\ ∀x∈L,nJ w k sizes x
theorem nK.ext {g:Nat} {L:List cp} (h:nK w g v k sizes L) (I:Ext w w'):nK w' g v k sizes L:=⟨h.1.ext I,λx a=>(h.2 x a).ext I⟩
theorem nK.ab {g:Nat} {L:List cp} (h:nK w g v k sizes L) (m:ah S w w') (p:∀r,S r-> ∃e c,af w r e c/\e≠hj/\e≠cX/\e≠ai/\e≠ap):nK w' g v k sizes L:=
 ⟨h.1.ab m λr a J=>by
  obtain⟨e,c,f,j,_⟩:=p r J;exact cQ h.1 f (λhe=>j he.symm) a,λx I=>(h.2 x I).ab m λr a=>by
  obtain⟨e,c,f,_,j⟩:=p r a;exact⟨e,c,f,j⟩⟩
def fU (w:x3) (h:Nat) (n:aR):Prop:=∃a e f j gr aX L nm szv gz fv2,af w h ft [Γ a,Δ n.zero,e,f]/\af w a cF [nm,Δ n.k,szv,fv2]/\au .i64 ai w gz szv n.sizes/\
 hx w j e aX/\aX.map (·.l)=n.unary/\nK w gr f n.k n.sizes L/\L.map dQ=n.funs
theorem fU.ext {a:Nat} {n:aR} (h:fU w a n) (I:Ext w w'):fU w' a n:=by
 obtain⟨e,f,j,m,gr,aX,L,nm,szv,gz,fv2,h1,p,q,r,s,x,y⟩:=h;exact⟨e,f,j,m,gr,aX,L,nm,szv,gz,fv2,h1.ext I,p.ext I,q.ext I,r.ext I,s,x.ext I,y⟩
def qG (w:x3) (B:Nat) (k:Int) (sizes:Λ) (x:cp):Prop:=(∃f,au .i64 ai w f x.sv x.sc)/\(∃a e,db w x.g a e (bV sizes x.sc) k x.cs/\B<=a/\ ∀r,leads e r->B<=r)/\B<=x.g/\ ∀r,leads x.sv r->B<=r
theorem qG.ab {x:cp} (h:qG w B k sizes x) (a:ah S w w') (f:∀r,S r-> ∃e c,af w r e c/\e≠cX/\e≠ai/\e≠ap):qG w' B k sizes x:=by
 obtain⟨⟨j,h1⟩,⟨m,p,q,s⟩,y⟩:=h;refine⟨⟨j,bp h1 a λr z J=>?_⟩,⟨m,p,CM q a f,s⟩,y⟩;obtain⟨e,c,A,_,C,_⟩:=f r J;exact b4 h1 A (λhe=>C he.symm) z rfl
def lS (w:x3) (B g:Nat) (v:x1) (k:Int) (sizes:Λ) (L:List cp):Prop:=bg eu 2 hj w g v L/\ ∀x∈L,qG w B k sizes x
theorem lS.ext {g:Nat} {L:List cp} (h:lS w B g v k sizes L) (I:Ext w w'):lS w' B g v k sizes L:=⟨h.1.ext I,λx a=>(h.2 x a).ab (I.ab λ_=>False) λ_ h=>h.elim⟩
theorem lS.ab {g:Nat} {L:List cp} (h:lS w B g v k sizes L) (m:ah S w w') (p:∀r,S r-> ∃e c,af w r e c/\e≠hj/\e≠cX/\e≠ai/\e≠ap):lS w' B g v k sizes L:=
 ⟨h.1.ab m λr a J=>by
  obtain⟨e,c,f,j,_⟩:=p r J;exact cQ h.1 f (λhe=>j he.symm) a,λx I=>(h.2 x I).ab m λr a=>by
  obtain⟨e,c,f,_,j⟩:=p r a;exact⟨e,c,f,j⟩⟩
theorem CN:∃o:Obj,fm o=false:=⟨.deferred ν,rfl⟩
theorem ghost (w:x3) (B:Nat):∃w0,Ext w0 w/\ah (λr=>r<B) w w0/\ ∀r o,w0.heap[r]? =σ o->fm o=true->B<=r:=by
 obtain⟨ct,f⟩:=CN;have e:∀r,(w.heap.mapIdx λr o=>if r<B then ct else o)[r]? =(w.heap[r]?).map λo=>if r<B then ct else o:=λr=>Ξ
 refine⟨{w with heap:=w.heap.mapIdx λr o=>if r<B then ct else o},⟨Ξ,λr o a J=>?_⟩,⟨Ξ,λr o a J j=>?_⟩,λr o a J=>?_⟩
 .have a:(w.heap.mapIdx λr o=>if r<B then ct else o)[r]? =σ o:=a;rw[e] at a;cases h:w.heap[r]? with
  |none=>rw[h] at a;cases a
  |some o'=>
   rw[h] at a;simp only[Z3,Y8] at a;split at a
   .subst a;rw[f] at J;cases J
   .rw[a]
 .show (w.heap.mapIdx λr o=>if r<B then ct else o)[r]? =σ o;rw[e,a,Z3,if_neg j]
 .have a:(w.heap.mapIdx λr o=>if r<B then ct else o)[r]? =σ o:=a;rw[e] at a;cases h:w.heap[r]? with
  |none=>rw[h] at a;cases a
  |some o'=>
   rw[h] at a;simp only[Z3,Y8] at a;split at a
   .subst a;rw[f] at J;cases J
   .omega
def CO (B:Nat) (w:x3) (a:Nat) (n:aR):Prop:=∃w0,fU w0 a n/\Ext w0 w/\ ∀r o,w0.heap[r]? =σ o->fm o=true->B<=r
theorem M7 {s z gr gz:Nat} {n:aR} {m p nm fv2:x1} {aX:List k2} {L:List cp} (h1:af w s ft [Γ j,Δ n.zero,m,p]) (A:af w j cF [nm,Δ n.k,szv,fv2]) (G:au .i64 ai w gz szv n.sizes)
  (C:hx w z m aX) (H:aX.map (·.l)=n.unary) (E:lS w B gr p n.k n.sizes L) (J:L.map dQ=n.funs) (K:B<=s) (M:B<=j) (N:∀r,leads szv r->B<=r) (F:∀r,leadsTo m r\/leadsTo p r->B<=r) (O:∀h∈aX,∀r,leads h.v r->B<=r):CO B w s n:=by
 obtain⟨w0,I,a,P⟩:=ghost w B;have no:∀ {r:Nat},B<=r->¬r<B:=λh A=>Ω
 have q:∀ {e:r8} {g:Nat} {v:x1} {l:Λ},au .i64 e w g v l->(∀r,leads v r->B<=r)->au .i64 e w0 g v l:=λh Q=>bp h a λr f=>no (Q r f);refine⟨w0,⟨j,m,p,z,gr,aX,L,nm,szv,gz,fv2,h1.ab a (no K),A.ab a (no M),q G N,⟨C.1.ab a λr f=>no (F r (.inl f)),λh aG=>?_⟩,H,⟨E.1.ab a λr f=>no (F r (.inr f)),λx I=>?_⟩,J⟩,I,P⟩
 .obtain⟨y,hm⟩:=C.2 h aG;exact⟨y,q hm (O h aG)⟩
 .obtain⟨⟨y,R⟩,⟨S,U,⟨⟨a7,gs,V,W,t3⟩,t4⟩,aa,X⟩,Y,Z⟩:=E.2 x I;exact⟨⟨y,q R Z⟩,S,U,⟨a7,gs,V.ab a (no Y),q W X,bp t3 a λr f=>no (by have:=(bM t3 f).1;omega)⟩,t4⟩
def iA (n:aR) (g:cK):aR:=match g.1 with
 |[]=>{n with zero:=g.2.getD 0 0}
 |[v]=>{n with unary:=n.unary.set v.toNat g.2}
 |_=>{n with funs:=n.funs++[g]}
def CP (f:bZ):aR:=⟨f.k,f.sizes,0,f.sizes.map λz=>r9 z.toNat 0,[]⟩
theorem M8 (f:bZ):cP f=(fC f).foldl iA (CP f):=rfl
def dC (f:bZ) (i:Nat):aR:=((fC f).take i).foldl iA (CP f)
theorem wm {f:bZ} {i:Nat} {g:cK} (h:(fC f)[i]? =σ g):dC f (i+1)=iA (dC f i) g:=M2 h
theorem s5 (f:bZ):dC f (fC f).length=cP f:=by unfold dC;rw[o5,M8]
theorem M9 (n:aR) (g:cK):(iA n g).k=n.k/\(iA n g).sizes=n.sizes/\(iA n g).unary.length=n.unary.length/\(iA n g).funs.length<=n.funs.length+1:=by
 unfold iA;split
 .exact⟨rfl,rfl,rfl,Nat.le_succ _⟩
 .exact⟨rfl,rfl,Ξ,Nat.le_succ _⟩
 .exact⟨rfl,rfl,rfl,Ξ⟩
theorem pf (f:bZ):∀i,(dC f i).k=f.k/\(dC f i).sizes=f.sizes/\(dC f i).unary.length=f.sizes.length/\(dC f i).funs.length<=i
 |0=>⟨rfl,rfl,by show (f.sizes.map _).length=_;simp,X3 _⟩
 |i+1=>by
  have a:=pf f i;cases h:(fC f)[i]? with
  |none=>
   have j:=List.getElem?_eq_none_iff.1 h;have e:dC f (i+1)=dC f i:=by unfold dC;rw[j9 Ω,j9 j]
   rw[e];exact⟨a.1,a.2.1,a.2.2.1,Ω⟩
  |some g=>
   rw[wm h];obtain⟨h1,m,p,q⟩:=M9 (dC f i) g;exact⟨h1.trans a.1,m.trans a.2.1,p.trans a.2.2.1,Ω⟩
end Go.Proofs.YtmgflbkdggdhoaaGreatDoor
