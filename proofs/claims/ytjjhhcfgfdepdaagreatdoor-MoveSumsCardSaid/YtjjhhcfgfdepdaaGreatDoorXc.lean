/- own texts, made small by a tool (wip/ holds them as they were written): no statement of the seat. -/
import Derived.Test.YtjjhhcfgfdepdaaGreatDoorXb
set_option linter.unusedVariables false
set_option linter.unusedSimpArgs false
set_option linter.unnecessarySimpa false
open Array renaming getElem?_eq_some_iff→j0
open Bool renaming not_true→Y5,not_false→V0,eq_iff_iff→U1,or_eq_false_iff→S7
open Decidable renaming not_not→Y7
open Go renaming Value→x1,World→x3,TypeId→r9,IntKind→o6,Builtin→Z3,Program→W9,FuncId→Q0
open Go.Addr renaming add_mid→S2
open Go.Builtin renaming append_→b9,len_→V3
open Go.Instr renaming loadAt→u5,fieldAt→u6,storeAt→o5,indexAt→c8,extract→Z8,buildSlice→Y4,sliceAt→U2,alloc→S0
open Go.IntKind renaming i64→X7
open Go.Proofs.Tryz renaming prog→x7
open Go.Value renaming int→V5
open Int renaming toNat_natCast→r8
open List renaming getElem?_eq_some_iff→x4,mem_of_getElem?→x5,getElem?_eq_getElem→x6,getElem?_map→x8,getD_eq_getElem?_getD→u4,length_map→u7,take_add_one→u9,length_append→p8,replicate→p9,take_length→o7,take_of_length_le→o9,mem_singleton→n9,mem_map→l7,mem_append→l9,length_take→j5,map_append→j6,getElem?_set_self→j9,append_assoc→c9,length_cons→b8,eq_nil_of_length_eq_zero→Z0,getElem?_eq_none→Z4,length_set→Z5,getElem?_set_ne→Y0,ext_getElem?→Y6,getElem?_append_left→Y8,getElem?_append_right→X1,getElem?_take_of_lt→X4,getElem?_set→X6,mem_iff_getElem?→X9,mem_or_eq_of_mem_set→W3,drop_eq_getElem_cons→W5,append_nil→W7,mem_cons→V1,length_eq_one_iff→V2,range→V6,map_cons→V7,pairwise_iff_getElem→V9,length_singleton→U3,map_set→U9,mem_filter→T4,length→T7,set_append_right→T8,mem_of_mem_take→T9,getElem?_eq_none_iff→S4,map_map→R6,getElem_mem→Q4
open Nat renaming le_refl→o4,le_trans→X0,zero_le→X8,zero_add→W0,sub_self→U7,mul_one→T5,add_assoc→R7,lt_of_lt_of_le→Q2,eq_zero_or_pos→Q3
open Option renaming toList_some→o8,map_some→Z6,isNone_some→Z7,map_eq_some_iff→X3,getD_some→V8,map→U6
open Option.some renaming inj→c7,injEq→Y3
open Prod.mk renaming injEq→T2
set_option maxHeartbeats 16000000
open Option renaming some→σ,none→ν
variable {w w':x3}{B N gs j m n r:Nat}{k y:Int}{clean:Bool}{S:Nat->Prop}{bf bv sv szv v:x1}{e:r9}{a ac all l scope sizes t:Λ}{cs:List x1}{K:x1->x3->Prop}
namespace Go.Proofs.YtjjhhcfgfdepdaaGreatDoor
open Go Go.Vc Go.RowKit Go.Proofs Go.Proofs.Tryz
set_option maxRecDepth 100000
abbrev pa (n:Nat):af:=λr=>r<n
def qv (n:Int) (k:Nat) (s:Option aA):Option (Λ×aA):=s.bind (eR n k)
theorem Ll {g k:Nat} {A B:af} {s:Option aA} {m:Int} (h:dt w g gs A B clean s) (hk:k<=4611686018427387904) (hm:0<=m/\m<=1000000):
  ai x7 y9 [Γ g,Δ (k:Int),Δ m] w λv w'=>fQ w g gs A B clean ((qv m k s).map (·.2)) w'/\
   ∃gr l,ap .i64 ak w' gr v l/\(∀r,leads v r->w.heap.size<=r)/\l.length<=100001/\ ∀q,qv m k s=σ q->l=q.1:=by
 cases s with
 |some s=>exact Ka (s:=s) h hk hm
 |none=>
  have h:ez w g gs A B:=h;refine aw func140 ?_;refine⟨λout j J=>w=J/\out= .slice ν 0 0/\j=Δ 0,λ_ _ _=>0,⟨rfl,rfl,rfl⟩,?_⟩;rintro _ _ _ ⟨rfl,rfl,rfl⟩;refine aT (λv w2=>Ext w w2/\v= .bool false) ?_ ?_
  .rintro _ w2 ⟨e,rfl⟩;rw[aW];exact⟨fQ.mk (e.U _) (h.ext e),0,[],ap.nil _ _ _ _,λr p=>absurd p (λh=>by obtain⟨a,n,c,h,_⟩:=h;cases h),Ξ,λq x=>by cases x⟩
  .intro au f;rw[aQ,ah];refine⟨λ_=>?_,λ_=>f _ _ ⟨Ext.refl _,rfl⟩⟩;refine (nO h).mono ?_;rintro _ w2 _ ⟨rfl,e⟩;exact f _ _ ⟨e,rfl⟩
def sS (z:Λ) (l:List (Λ×Int)) (s:aA):aA:={s with shared:=s.shared++[(z,l)]}
def BS (w:x3) (g gs:Nat):Prop:=∃ (e big a f told:Int) (sv:x1),aa w g cg (fF gs e big a f told sv)/\e≠0
def gZ (w:x3) (g gs:Nat) (A:af) (B:af) (clean:Bool) (s:Option aA):Prop:=match s with
 |some s=>di w g gs A B s clean
 |none=>BS w g gs
theorem dt.q {g:Nat} {A:af} {B:af} {s:Option aA} (h:dt w g gs A B clean s):gZ w g gs A B clean s:=by
 cases s with
 |some s=>exact h
 |none=>
  obtain⟨_,e,big,a,f,told,sv,l,j,p,_⟩:=h;exact⟨e,big,a,f,told,sv,j,p.1⟩
theorem gZ.U {g:Nat} {A:af} {B:af} {s:Option aA} (h:gZ w g gs A B clean s) (a:ae S w w') (j:¬S g) (p:∀r,bG g gs A r->r<w.heap.size->¬S r) (q:∀r,cG g gs A B r->¬S r):gZ w' g gs A B clean s:=by
 cases s with
 |some s=>
  have h:di w g gs A B s clean:=h;exact di.U h a (λr f=>p r f (h.1.2.2.2.1 r f)) q
 |none=>
  obtain⟨e,big,x,y,told,sv,z,C⟩:=h;exact⟨e,big,x,y,told,sv,z.U a j,C⟩
theorem gZ.ext {g:Nat} {A:af} {B:af} {s:Option aA} (h:gZ w g gs A B clean s) (a:Ext w w'):gZ w' g gs A B clean s:=h.U (a.U λ_=>False) (λh=>h) (λ_ _ _ h=>h) (λ_ _ h=>h)
theorem BT {g:Nat} {A:af} {B:af} {s:Option aA} (h:gZ w g gs A B clean s):ai x7 kP [Γ g] w λv w'=>v= .bool s.isSome/\Ext w w':=by
 cases s with
 |none=>
  obtain⟨e,big,p,q,told,sv,a,f⟩:=h;refine (vD a).mono ?_;rintro _ J _ ⟨rfl,j⟩;exact⟨by rw[decide_eq_false f];rfl,j⟩
 |some s=>exact oU h
theorem hz.aV {g:Nat} {R R':Nat->Prop} {toks:List (Λ)} (h:hz w g R toks clean) (f:ae S w w') (q:¬S g) (s:∀r,R r->¬S r) (x:∀r,R r->R' r):hz w' g R' toks clean:=by
 obtain⟨y,p,a,⟨h1,z,A,B,bm,C⟩,j,E⟩:=h;exact⟨y,p,a,⟨h1,z,A,B.U f q,bm,bq C f λr e=>s r (j r e)⟩,λr e=>x r (j r e),E⟩
theorem lW {α:Type} [aj α] {m:Bool} {S R:af} {l:List α} (h:aj.rep m S R w [v] l):∃a n c,v= .slice a n c:=by
 obtain⟨vs,e,F,f,he,I,hm⟩:=ia h;obtain⟨j,b,o,base,cap,rfl,_⟩:=I;exact⟨_,_,_,rfl⟩
def k9 (w:x3) (g gs:Nat) (A:af) (B:af) (R:af) (clean:Bool) (s:Option aA):Prop:=match s with
 |some s=>k4 w g gs A B/\hz w gs R s.toks clean/\(0<=s.told/\s.told<=ao/\s.shared.length+s.toks.length<=100000)/\
  ∃big a e told sv,aa w g cg (fF gs 0 big a e told sv)/\((s.big=true↔big≠0)/\(s.big=false->told=s.told))/\bj A R w [sv] (show List iO from s.shared)
 |none=>BS w g gs
theorem k9.U {g:Nat} {A R:af} {B:af} {s:Option aA} (h:k9 w g gs A B R clean s) (a:ae S w w') (x:¬S g) (y:∀r,bG g gs A r->r<w.heap.size->¬S r) (z:∀r,R r->¬S r):k9 w' g gs A B R clean s:=by
 cases s with
 |some s=>
  obtain⟨h1,C,E,big,f,j,told,sv,p,q,F⟩:=h;have G:=h1.2.2.2.1;exact⟨h1.U a,C.U a (y gs (.inr (.inl rfl)) (G _ (.inr (.inl rfl)))) z,E,big,f,j,told,sv,p.U a x,q,aj.U F a λr H h=>h.elim (λh=>y r (.inr (.inr h)) H) (z r)⟩
 |none=>
  obtain⟨e,big,f,j,told,sv,p,q⟩:=h;exact⟨e,big,f,j,told,sv,p.U a x,q⟩
theorem k9.out {g:Nat} {A R B e:af} {s:Option aA} (h:k9 w g gs A B R clean s) (f:∀r,R r->cG g gs A e r) (j:∀r,e r->r<w.heap.size):gZ w g gs A e clean s:=by
 cases s with
 |some s=>
  obtain⟨⟨q,x,y,z,O⟩,⟨C,p,a,E,F,G⟩,H,big,I,J,told,sv,K,L,M⟩:=h;exact⟨⟨q,x,y,z,j⟩,⟨C,p,a,E,λr N=>f r (F r N),G⟩,H,big,I,J,told,sv,K,L,aj.mono M (λ_ _ h=>h) λr _ h=>f r h⟩
 |none=>exact h
theorem dt.qr {g:Nat} {A R:af} {B:af} {s:Option aA} (h:dt w g gs A B clean s) (y:∀r,cG g gs A B r->R r):k9 w g gs A B R clean s:=by
 cases s with
 |some s=>
  obtain⟨h1,⟨z,p,a,C,E,F⟩,G,big,f,j,told,sv,q,x,H⟩:=h;exact⟨h1,⟨z,p,a,C,λr I=>y r (E r I),F⟩,G,big,f,j,told,sv,q,x,aj.mono H (λ_ _ h=>h) λr _ h=>y r h⟩
 |none=>
  obtain⟨_,e,big,f,j,told,sv,l,q,x,_⟩:=h;exact⟨e,big,f,j,told,sv,q,x.1⟩
theorem Lm {g O:Nat} {A B R:af} {s:Option aA} {aD ax u:x1} {z:Λ} {l:List (Λ×Int)} {K:x3->Prop} (h:dt w g gs A B clean s) (P:∀r,cG g gs A B r->R r) (ag:∀r,R r->cG g gs A (pa w.heap.size) r)
  (ah:∀t,s=σ t->t.shared.length+1+t.toks.length<=100000) (ai:aa w O b5 [aD,u,ax,v])
  (hu:aj.rep (α:=Λ) false bC R w [u] z) (ak:aj.rep (α:=List (Λ×Int)) false bC R w [v] l)
  (aB:∀w' aI,ae (bG g gs A) w w'->(∀r,aI r->A r\/w.heap.size<=r)->k9 w' g gs aI (pa w.heap.size) R clean (s.map (sS z l))->K w'):
  V x7 (bN (Γ g)) w λQ=>
  V x7 (u6 cg Q 3) w λS=>
  V x7 (u5 ht S) w λal=>
  V x7 (u6 b5 (Γ O) 1) w λt76=>
  V x7 (u5 an t76) w λt77=>
  V x7 (u6 b5 (Γ O) 3) w λaC=>
  V x7 (u5 iC aC) w λaE=>
  V x7 (Instr.build jE #[(0,t77),(1,aE)]) w λaF=>
  av x7 (Y4 ht 1 #[(0,aF)]) w λaG F=>
   (Ext w F\/b4 x7 (u5 ht S) al F/\b4 x7 (u6 cg Q 3) S F/\b4 x7 (bN (Γ g)) Q F/\True)/\
   av x7 (b9 #[ht,ht] ht #[al,aG]) F λaH W=>
    V x7 (bN (Γ g)) W λaJ=>
    V x7 (u6 cg aJ 3) W λaK=>
    av x7 (o5 ht aK aH) W λ(_:Unit) aL=>K aL:=by
 obtain⟨aM,e,big,j,q,told,sv,H,y,L,aZ,aN⟩:k4 w g gs A B/\ ∃e big j q told sv,∃H:List iO,aa w g cg (fF gs e big j q told sv)/\bj A R w [sv] H/\H.length<=100000/\
   ∀w' aI C,k4 w' g gs aI (pa w.heap.size)->ae (λr=>A r\/r=g) w w'->aa w' g cg (fF gs e big j q told C)->bj aI R w' [C] (H++[((z,l):iO)])->k9 w' g gs aI (pa w.heap.size) R clean (s.map (sS z l)):=by
  cases s with
  |none=>
   obtain⟨h1,e,big,j,q,told,sv,l',X,M,Y⟩:=h;exact⟨h1,e,big,j,q,told,sv,l',X,aj.mono Y (λ_ _ h=>h) λr _ h=>P r h,M.2,λw' aI C I _ y L=>⟨e,big,j,q,told,C,y,M.1⟩⟩
  |some s=>
   obtain⟨h1,aQ,am,big,j,q,told,sv,X,M,Y⟩:=h;have ah:=ah s rfl;refine⟨h1,0,big,j,q,told,sv,s.shared,X,aj.mono Y (λ_ _ h=>h) λr _ h=>P r h,(show s.shared.length<=100000 by omega),λw' aI C I aR y L=>⟨I,?_,⟨am.1,am.2.1,?_⟩,big,j,q,told,C,y,M,L⟩⟩
   .exact hz.aV aQ aR (λhe=>he.elim h1.2.2.1 λh=>h1.1 h.symm) (λr f he=>he.elim (λh=>f.1 (.inr (.inr h))) λh=>f.1 (.inl h)) P
   .show (s.shared++[(z,l)]).length+s.toks.length<=100000;simp;omega
 obtain⟨aS,Z,aT,ao,a1⟩:=id aM;rw[aO cg.p 3 y rfl,az b5.p 1 ai rfl,az b5.p 3 ai rfl];rw[dq (cs:=#[u,v]) (by obtain⟨_,_,_,rfl⟩:=lW hu;obtain⟨_,_,_,rfl⟩:=lW ak;kernel_rfl)];have ap:bj (λ_=>False) R w [u,v] ((z,l):iO):=⟨[u],[v],bC,bC,rfl,λ_ h=>h,λ_ h=>h,λ_ _ h _=>h,hu,ak⟩;refine iH (α:=iO) (a:=(z,l)) (cs:=[u,v]) (A:=λ_=>False) (R:=R) ht.u jE.i Φ rfl ap λx J E _ aU=>?_;have a2:=E.size;refine⟨.inl E,?_⟩;refine nz (α:=iO) (a:=(z,l)) (A:=λ_=>False) (R:=R) ht.u jE.i rfl (bd L E) aU (bd ap E) (λr _ aW G=>?_) Ω Ω λaq w2 ab ac=>?_
 .rcases G with G|G
  .exact G
  .exact (ag r G).1 (.inr (.inr aW))
 have a6:=ac.size;have aX:=(y.ext E).U ac Z;rw[bW,aP cg.p rfl];refine bo (g:=g) (o:=6) ht.i (kW ab) (e4 ab) aX (by simp[fF]) λN au a7 ad=>?_;have ad:aa N g cg (fF gs e big j q told aq):=ad;have aw:ae (λr=>A r\/r=g) w N:=((E.U _).trans (ac.mono λr _ h=>.inl h)).trans (au.mono λr _ h=>.inr h);let aI:af:=λr=>(A r\/w.heap.size<=r)/\r<w2.heap.size;have a8:g<w.heap.size:=ao g (.inl rfl);have ba:gs<w.heap.size:=ao gs (.inr (.inl rfl));have aY:=aj.mono (S':=aI) (R':=R) ab (λr f h=>⟨h.elim .inl λh=>h.elim False.elim λh=>.inr Ω,f⟩) (λr f h=>h);refine aB N aI (aw.mono λr _ h=>h.elim (λh=>.inr (.inr h)) .inl) (λr f=>f.1) (aN N aI aq ⟨aS,λh=>h.1.elim Z λh=>Ω,λh=>h.1.elim aT λh=>Ω,λr f=>?_,?_⟩ aw ad (aj.U aY au λr f ay he=>?_))
 .rcases f with rfl|rfl|f
  .omega
  .omega
  .have:=f.2;omega
 .intro r f;have f:r<w.heap.size:=f;omega
 .have he:r=g:=he;subst he;rcases ay with ay|ay
  .exact ay.1.elim Z λh=>Ω
  .exact (ag _ ay).1 (.inl rfl)
theorem Ln {e:Nat} {aD z:x1} {M:x3->Prop} (N:aa w e b5 [aD,.slice ν 0 0,Δ 0,.slice ν 0 0]) (O:aF .i64 w aD scope) (ab:∀r,leads aD r->r≠e)
  (ac:aF .i64 w z all) (ad:∀r,leads z r->r≠e) (af:∀v∈scope,0<=v/\v<all.length) (aK:scope.length<=100001)
  (ai:∀w' szv gz,ae (λr=>r=e) w w'->aa w' e b5 [aD,szv,Δ 0,.slice ν 0 0]->ap .i64 ak w' gz szv (scope.map λv=>all.getD v.toNat 0)->w.heap.size<=gz->M w'):
 ci (Δ 0) w λF s k=>
  V x7 (aJ .lss ag false false F (Δ (scope.length:Int))) s λaj=>
  Split aj (V x7 (c8 an aD F) s λal=>
  V x7 (u5 ak al) s λam=>
  ei s λf=>
  V x7 (u6 b5 (Γ e) 1) f λt39=>
  V x7 (u5 an t39) f λP=>
  V x7 (c8 an z am) f λao=>
  V x7 (u5 ak ao) f λaq=>
  av x7 (Y4 an 1 #[(0,aq)]) f λt45 A=>
   (Ext f A\/b4 x7 (u5 an t39) P A/\b4 x7 (u6 b5 (Γ e) 1) t39 A/\True)/\
  av x7 (b9 #[an,an] an #[P,t45]) A λt46 Q=>
   V x7 (u6 b5 (Γ e) 1) Q λau=>
   av x7 (o5 an au t46) Q λ(_:Unit) R=>
    V x7 (aJ .add ag false true F (Δ 1)) R λaw=>
  k aw R) (M s):=by
 have aL:=N.lt;refine ci.range scope.length (λi J=>ae (λr=>r=e) w J/\ ∃szv gz,aa J e b5 [aD,szv,Δ 0,.slice ν 0 0]/\ap .i64 ak J gz szv ((scope.take i).map λv=>all.getD v.toNat 0)/\w.heap.size<=gz) O.le ⟨ae.refl _ _,_,w.heap.size,N,ap.nil _ _ _ _,o4 _⟩ ?_ ?_
 rotate_left
 .rintro J ax ⟨j,szv,gz,B,C,S⟩;rw[o7] at C;rw[aQ,ah];exact⟨λh=>Ω,λ_=>ai J szv gz j B C S⟩
 rintro i J ax hi ⟨j,szv,gz,B,C,S⟩ ay;obtain⟨v,G⟩:=aE (l:=scope) hi;have aN:=af v (x5 G);have aA:all[v.toNat]? =σ (all.getD v.toNat 0):=by
  rw[u4,x6 Ω];rfl
 have aB:aF .i64 J aD scope:=hV O j λr E a n c H I=>ab r ⟨a,n,c,H,I⟩ E;have aC:aF .i64 J z all:=hV ac j λr E a n c H I=>ad r ⟨a,n,c,H,I⟩ E;refine bH Ω ?_;rw[be an.u ak.i Ψ aB G];intro w2 q _ _;have aO:=j.size;have aR:=q.size;rw[az b5.p 1 (B.ext q) rfl];rw[fA (y:=v) (i:=v.toNat) Ω an.u ak.i Ψ (aC.ext q) aA];refine ej an.u ak.i rfl λa ga aS aT x aG=>?_;refine⟨.inl x,?_⟩;have z3:=x.size;refine jj an.u ak.i rfl ((C.ext q).ext x) aG.ls Θ Θ λW X aU aV K Y=>?_;rw[aP b5.p rfl];have aH:=((B.ext q).ext x).U Y (λhe=>by have he:e=gz:=he;omega);refine bo (g:=e) (o:=1) an.i K.ls.cells.1 K.ls.cells.2 aH Ξ λaI Z aW L=>?_;have L:aa aI e b5 [aD,W,Δ 0,.slice ν 0 0]:=L;rw[aM];refine ay _ ⟨(hy (j.trans ((q.trans x).U _)) Y λr E he=>by have he:r=gz:=he;omega).trans Z,W,X,L,?_,Ω⟩;rw[u9,G,o8,j6];exact K.U Z (λ_ he=>by have he:X=e:=he;omega)
abbrev hC:Type:=Rd (Λ)×Rd (Λ)×Int×Rd (List (Λ×Int))
def ha (f:ch):hC:=(f.scope,f.sizes,f.other,f.lines)
theorem BU {R:af} {aD b6:x1} {o:Int} {sc:Λ} {l:List (Λ×Int)} (h1:aj.rep (α:=Λ) false bC R w [aD] sc) (e:aj.rep (α:=Λ) false bC R w [szv] a) (f:aj.rep (α:=List (Λ×Int)) false bC R w [b6] l):
  Seen R w [aD,szv,Δ o,b6] ((sc,a,o,l):hC):=
 ⟨[aD],[szv,Δ o,b6],bC,bC,rfl,λ_ h=>h,λ_ h=>h,λ_ _ h _=>h,h1,[szv],[Δ o,b6],bC,bC,rfl,λ_ h=>h,λ_ h=>h,λ_ _ h _=>h,e,[Δ o],[b6],bC,bC,rfl,λ_ h=>h,λ_ h=>h,λ_ _ h _=>h,rfl,f⟩
theorem qw {R:af} {g:Nat} (h:ap .i64 e w g v l) (q:∀r,leads v r->R r):aj.rep (α:=Λ) false bC R w [v] l:=by
 have h1:bj (λr=>r=g) bC w [v] l:=nA h;obtain⟨vs,s,F,E,he,I,hm⟩:=ia h1;refine⟨v,rfl,vs,s,λ_ _=>False,⟨λ_ _ h=>h,λh=>(by cases h),λh=>by cases h⟩,⟨he.1,λi c a x y=>?_⟩,?_,λh=>by cases h⟩
 .exact he.2 i c a x y
 .obtain⟨f,b,o,base,cap,rfl,z,A,j,G,B⟩:=I;refine⟨f,b,o,base,cap,rfl,z,A,j,λp=>.inr (q b ?_),B⟩;have C:0<l.length:=by
   rw[f] at p;rcases Q3 l.length with h|h
   .rw[h,Nat.zero_mul] at p;omega
   .exact h
  exact⟨⟨b,o,ν⟩,l.length,cap,by rw[j C],rfl⟩
theorem BV {α:Type} [aj α] {R R':af} {a:α} (h:Seen R w cs a) (e:∀r,r<w.heap.size->R r->R' r):Seen R' w cs a:=aj.mono h (λ_ _ h=>h) e
theorem BW {f a:Nat} (e:cs.length=4) (h1:∀v∈cs,v.oneCell'=true) (q:aa w f b5 cs) {h:List x1} (s:h.length=4) (x:aa w a b5 h)
  (y:∀w',ae (λr=>r=a) w w'->K (.agg cs.toArray) w'):
  V x7 (u5 b5 (Γ f)) w λz=>
  av x7 (o5 b5 (Γ a) z) w λ(_:Unit) j=>
  V x7 (do loadVar b5 (<-asAddr (Γ a))) j λA=>K A j:=by
 rw[bx b5.p b5.i e q.range];refine bT b5.i e s h1 x λw' B _ C=>?_;rw[fB b5.p b5.i e C.range];exact y w' B
theorem BX {s s':aA} {l:List (Λ×Int)} (h:dB sizes s=σ (l,s')):s'.shared=s.shared/\s'.toks.length<=s.toks.length:=by
 unfold dB at h;cases j:bc (-ao) ao s with
 |none=>rw[j] at h;cases h
 |some q=>
  obtain⟨n,e⟩:=q;rw[j] at h;simp only at h;have h1:=de j;obtain⟨x,y,p⟩:=h1.eqs;split at h
  .cases I:e.shared[(-n-1).toNat]? with
   |none=>rw[I] at h;cases h
   |some q=>
    obtain⟨z,l'⟩:=q;rw[I] at h;simp only at h;split at h
    .simp only[Y3,T2] at h;obtain⟨rfl,rfl⟩:=h;exact⟨p,by have:=h1.1;omega⟩
    .cases h
  .have:=iN (f:=dT sizes) (λacc t=>t.shared=s.shared/\t.toks.length<=s.toks.length) (λacc t a bp ⟨w,A⟩ g=>by
    obtain⟨B,C,E,r⟩:=nN g;obtain⟨f1,f2,f3⟩:=r.eqs;exact⟨by rw[f3,w],by have:=r.1;omega⟩) n.toNat [] (a6 (decide (16384<min (e.told+n) ao)) {e with told:=min (e.told+n) ao}) l s' ⟨p,by have:=h1.1;show e.toks.length<=_;omega⟩ h
   exact this.1
theorem Lo {g:Nat} {A B:af} {s:aA} {aG:x1} (h:di w g gs A B s clean) (hi:dU s) (bN:aF .i64 w aG all) (bg:∀r,leads aG r->¬bG g gs A r/\r<w.heap.size)
  (cn:∀z∈all,1<=z/\z<=ao) (ds:all.length<=100001) (cp:eX w) (h1:cG g gs A B 1):
  ai x7 y2 [Γ g,aG] w λv w'=>∃aI V cs,∃bO:hC,v= .agg cs.toArray/\cs.length=4/\ae (bG g gs A) w w'/\(∀r,aI r->A r\/w.heap.size<=r)/\(∀r,V r->(B r\/w.heap.size<=r)/\r<w'.heap.size)/\(∀r,B r->V r)/\gZ w' g gs aI V clean ((cY all s).map (·.2))/\
   Seen (cG g gs aI V) w' cs bO/\ ∀q,cY all s=σ q->bO=ha q.1:=by
 have cq:=h.1;obtain⟨du,dv,bh,cr,W⟩:=id cq;have ad:∀r,bG g gs A r->r<w.heap.size:=cr;have dw:ao=4611686018427387904:=rfl;have dx:s.shared.length+s.toks.length<=100000:=h.2.2.1.2.2;refine aw func82 ?_;refine bt b5.i λC J dy bi aR=>?_;have aR:aa J C b5 [.slice ν 0 0,.slice ν 0 0,Δ 0,.slice ν 0 0]:=aR;have dz:=bi.size;have dA:=aR.lt;have M:¬bG g gs A C:=λy=>by have:=ad _ y;omega
 refine (vE (lo:=-ao) (hi:=ao) (h.ext bi)).mono ?_;rintro _ w2 _ ⟨Y,a,at_,rfl,bP,ct⟩;obtain⟨bj,bk⟩:=Y.of;have dC:=bj.size;rw[bu,bw,aQ,lO];have dD: -ao<=a/\a<=ao:=by
  cases E:bc (-ao) ao s with
  |none=>rw[ct E];unfold ao;omega
  |some q=>rw[bP q E];exact (hX (n:=q.1) (s':=q.2) E).1
 rw[wrap_i64 Ω Ω,vc,show max a (0-a)=((a.natAbs:Nat):Int) by omega];have bQ:ae (bG g gs A) w w2:=(bi.U _).trans bj;have cu:aF .i64 w2 aG all:=hV bN bQ λr f a n c H bl=>(bg r ⟨a,n,c,H,bl⟩).1 f;rw[aX an.u cu];refine (Ll (k:=a.natAbs) (m:=(all.length:Int)) bk Ω Ω).mono ?_;rintro aD dE _ ⟨Y,gr,scope,aH,cw,dF,cz⟩;obtain⟨bm,cA⟩:=Y.of;have z3:=bm.size;rw[dq (cs:=#[aD,.slice ν 0 0,Δ 0,.slice ν 0 0]) (by obtain⟨_,_,_,_,_,rfl,_⟩:=aH.ls;kernel_rfl)];refine bt b5.i λj cB dG aJ aS=>?_;have aS:aa cB j b5 [.slice ν 0 0,.slice ν 0 0,Δ 0,.slice ν 0 0]:=aS;have z4:=aJ.size;have dH:=aS.lt;have bn:=aH.ls.cells;refine bT (vs:=[aD,.slice ν 0 0,Δ 0,.slice ν 0 0]) b5.i rfl rfl (by intro v H;simp at H;rcases H with rfl|rfl|rfl|rfl<;>first|exact bn.2|rfl) aS λaT aK dI cC=>?_;have aq:¬bG g gs A j:=λy=>by have:=ad _ y;omega
 have bR:dt aT g gs A B clean ((qv all.length a.natAbs ((bc (-ao) ao s).map (·.2))).map (·.2)):=(cA.ext aJ).U aK (λr f he=>by have he:r=j:=he;exact aq (he▸f)) (λr f he=>by have:=W r f.2;have he:r=j:=he;omega);have bV:ae (bG g gs A) w aT:=hy ((bQ.trans bm).trans (aJ.U _)) aK λr f he=>by have he:r=j:=he;omega
 have cD:aa aT C b5 [.slice ν 0 0,.slice ν 0 0,Δ 0,.slice ν 0 0]:=(((aR.U bj M).U bm M).ext aJ).U aK (λhe=>by have he:C=j:=he;omega);have cE:ap .i64 ak aT gr aD scope:=bq (aH.ext aJ) aK λr f he=>by
  obtain⟨cF,bk⟩:=bU aH f;have he:r=j:=he;omega
 refine (o3 bR).mono ?_;rintro _ aU _ ⟨rfl,Z⟩;have av:=bR.ext Z;have aL:=cE.ext Z;have bp:=cC.ext Z;have bW:=cD.ext Z;have dJ:=Z.size;have z5:=aK.size;have Q:∀r,leads aD r->w2.heap.size<=r/\r≠j/\r≠C:=λr f=>by
  obtain⟨cF,bk⟩:=bU aH f;have:=cw r f;exact⟨this,Ω,Ω⟩
 have L:cY all s=match qv all.length a.natAbs ((bc (-ao) ao s).map (·.2)) with
   |none=>ν
   |some (sc,I)=>(iQ (sc.map λv=>all.getD v.toNat 0) ((bb 0 ao (σ (a6 (decide (6<a.natAbs)||dr (sc.map λv=>all.getD v.toNat 0)) I))).map (·.2))).map λq=>((⟨sc,sc.map λv=>all.getD v.toNat 0,((bc 0 ao (a6 (decide (6<a.natAbs)||dr (sc.map λv=>all.getD v.toNat 0)) I)).map (·.1)).getD 0,q.1⟩:ch),if a<0 then sS (sc.map λv=>all.getD v.toNat 0) q.1 q.2 else q.2):=by
  unfold cY;cases E:bc (-ao) ao s with
  |none=>rfl
  |some q=>
   obtain⟨a',X⟩:=q;have:=bP _ E;subst this;simp only;show _=match eR all.length a.natAbs X with
    |none=>ν
    |some (sc,I)=>_
   cases eR all.length a.natAbs X with
   |none=>rfl
   |some q=>
    obtain⟨sc,I⟩:=q;simp only;show _=U6 _ (iQ _ ((bc 0 ao _).map (·.2)));cases bc 0 ao (a6 (decide (6<a.natAbs)||dr (sc.map λv=>all.getD v.toNat 0)) I) with
    |none=>rfl
    |some q=>
     obtain⟨o,G⟩:=q;simp only;show _=U6 _ (dB _ G);cases dB (sc.map λv=>all.getD v.toNat 0) G with
     |none=>rfl
     |some q=>rfl
 rw[bF,b0];cases ab:qv all.length a.natAbs ((bc (-ao) ao s).map (·.2)) with
 |none=>
  rw[ab] at av L;simp only at L;refine⟨λ_=>?_,λh=>by simp at h⟩;refine BW rfl (by intro v H;simp at H;rcases H with rfl|rfl|rfl|rfl<;>first|exact bn.2|rfl) bp rfl bW λac N=>?_;have cH:=N.size;refine⟨A,λr=>(B r\/w.heap.size<=r)/\r<ac.heap.size,_,(scope,[],0,[]),rfl,rfl,hy (bV.trans (Z.U _)) N λr f he=>by have he:r=C:=he;omega,λr f=>.inl f,λr f=>f,λr f=>⟨.inl f,by have:=W r f;omega⟩,?_,?_,λq E=>by rw[L] at E;cases E⟩
  .rw[L];have cI:gZ ac g gs A B clean (U6 (λx=>x.2) (ν:Option (Λ×aA))):=av.q.U N (λhe=>by have:=ad g (.inl rfl);have he:g=C:=he;omega) (λr f _ he=>by have he:r=C:=he;exact M (he▸f)) (λr f he=>by have:=W r f.2;have he:r=C:=he;omega);exact cI
  .refine BU (qw (bq aL N λr f he=>(Q r f).2.2 he) λr f=>?_) gk gk;have O:=Q r f;have ax:=(bU aL f);exact⟨λy=>by have:=ad _ y;omega,.inr Ω,Ω⟩
 |some q=>
  obtain⟨sc,I⟩:=q;have:=cz _ ab;subst this;rw[ab] at av L;simp only at L;refine⟨λh=>by simp at h,λ_=>?_⟩;have av:di aU g gs A B I clean:=av;obtain⟨X,cJ,cK⟩:∃X,(bc (-ao) ao s).map (·.2)=σ X/\eR all.length a.natAbs X=σ (scope,I):=by
   cases E:(bc (-ao) ao s).map (·.2) with
   |none=>rw[E] at ab;cases ab
   |some X=>rw[E] at ab;exact⟨X,rfl,ab⟩
  obtain⟨bX,cL,rfl⟩:=X3.1 cJ;have bY:=de (n:=bX.1) (s':=bX.2) cL;obtain⟨bZ,dK,dL,b1⟩:=sy cK;have br:=bY.eqs;have bx:=bZ.eqs;have cM:dU I:=λS=>by rw[bx.1,br.1];rw[bx.2.1,br.2.1] at S;exact hi S
  have cN:I.shared.length+1+I.toks.length<=100000:=by rw[bx.2.2,br.2.2];have:=bY.1;have:=bZ.1;omega
  generalize bz:(scope.map λv=>all.getD v.toNat 0)=sizes at L;have b2:∀z∈sizes,1<=z/\z<=ao:=λz aV=>by
   rw[<-bz] at aV;obtain⟨v,H,rfl⟩:=l7.1 aV;have:=b1 v H;refine cn _ ?_;rw[u4,x6 Ω];exact Q4 _
  have dM:sizes.length=scope.length:=by rw[<-bz,u7]
  have b3:ae (bG g gs A) w aU:=bV.trans (Z.U _);have cO:aF .i64 aU aG all:=hV bN b3 λr f a n c H bl=>(bg r ⟨a,n,c,H,bl⟩).1 f;rw[az b5.p 0 bp rfl,aX an.u aL.ls];refine Ln bp aL.ls (λr f=>(Q r f).2.1) cO (λr f=>by have:=(bg r f).2;omega) b1 Ω λac szv gz N b4 aW dN=>?_;rw[bz] at aW;have cH:=N.size;have bA:∀r,cG g gs A B r->¬(λr=>r=j) r:=λr f he=>by have:=W r f.2;have he:r=j:=he;omega
  have bB:∀r,bG g gs A r->¬(λr=>r=j) r:=λr f he=>by have he:r=j:=he;exact aq (he▸f)
  have b7:=av.U N bB bA;have cP:ae (bG g gs A) w ac:=hy b3 N λr f he=>by have he:r=j:=he;omega
  refine dm (λaY=>ae (bG g gs A) ac aY/\di aY g gs A B (a6 (decide (6<a.natAbs)||dr sizes) I) clean) ?_ ?_
  rotate_left
  .intro au aM;rw[bS,ah];refine⟨λdO=>?_,λdP=>?_⟩
   .refine (sD b7).mono ?_;rintro _ cQ _ ⟨cR,cS⟩;refine aM _ ⟨cR.mono λr _ h=>.inl h,?_⟩;rw[decide_eq_true Ω,Bool.true_or];exact cS
   .rw[az b5.p 1 b4 rfl];refine (Ba aW.ls λz aV=>(b2 z aV).1).mono ?_;rintro _ cQ _ ⟨rfl,b8⟩;refine (sD (b7.ext b8)).mono ?_;rintro _ dQ _ ⟨cT,cU⟩;refine aM _ ⟨(b8.U _).trans (cT.mono λr _ h=>.inl h),?_⟩;rw[decide_eq_false Ω,Bool.false_or];exact cU
  rintro aY ⟨aZ,a1⟩;have dR:=aZ.size;generalize bh:a6 (decide (6<a.natAbs)||dr sizes) I=G at L a1;have cV:dU G:=λS=>by
   subst bh;have S:(I.big||_)=false:=S;exact cM (S7.1 S).1
  have dS:G.shared.length+1+G.toks.length<=100000:=by subst bh;exact cN
  have a1:dt aY g gs A B clean (σ G):=a1;refine (lV (lo:=0) (hi:=ao) a1).mono ?_;rintro _ b9 _ ⟨Y,o,dT,rfl,cW,dV⟩;obtain⟨a2,cX⟩:=Y.of;have dW:=a2.size;rw[bu,bw,aP b5.p rfl];have cZ:=(b4.U aZ aq).U a2 aq;refine bo (g:=j) (o:=2) ak.i rfl rfl cZ Ξ λa7 ay dX a8=>?_;have a8:aa a7 j b5 [aD,szv,Δ o,.slice ν 0 0]:=a8;rw[az b5.p 1 a8 rfl];have c0:=cX.U ay bB bA;have bD:ae (bG g gs A) ac b9:=aZ.trans a2;have c3:ae (bG g gs A) w b9:=cP.trans bD;have ca:ae (bG g gs A) w a7:=hy c3 ay λr f he=>by have he:r=j:=he;omega
  have ag:∀r,leads szv r->aU.heap.size<=r/\r<ac.heap.size:=λr f=>by have:=bU aW f;omega
  have cb:ap .i64 ak a7 gz szv sizes:=bq (bq aW bD λr f y=>by have:=ad _ y;have:=ag r f;omega) ay λr f he=>by have he:r=j:=he;have:=ag r f;omega
  have c4:ap .i64 ak a7 gr aD scope:=bq (bq (bq aL N λr f he=>(Q r f).2.1 he) bD λr f y=>by have:=ad _ y;have:=Q r f;omega) ay λr f he=>(Q r f).2.1 he;have dY:=ay.size;refine (Lk c0 (λt bE=>?_) cb.ls (λr f=>⟨λy=>by have:=ad _ y;have:=ag r f;omega,by have:=ag r f;omega⟩) b2 Ω (cp.U ca h1.1) h1).mono ?_
  .obtain⟨q,E,rfl⟩:=X3.1 bE;have cc:=(de (n:=q.1) (s':=q.2) E).eqs;intro S;rw[cc.1];rw[cc.2.1] at S;exact cV S
  rintro b6 c5 _ ⟨Y,l,bH,cd⟩;obtain⟨aB,c6⟩:=Y.of;have dZ:=aB.size;have bI:b6.cells= #[b6]/\b6.oneCell'=true:=⟨kW bH,e4 bH⟩;rw[aP b5.p rfl];have c7:=a8.U aB aq;refine bo (g:=j) (o:=3) iC.i bI.1 bI.2 c7 Ξ λK al ea ba=>?_;have ba:aa K j b5 [aD,szv,Δ o,b6]:=ba;have eb:=al.size;have ce:=c6.U al bB bA;have c8:ae (bG g gs A) w c5:=ca.trans aB;have c9:ae (bG g gs A) w K:=hy c8 al λr f he=>by have he:r=j:=he;omega
  have cg:ap .i64 ak K gr aD scope:=bq (bq c4 aB λr f y=>by have:=ad _ y;have:=Q r f;omega) al λr f he=>(Q r f).2.1 he;have be:ap .i64 ak K gz szv sizes:=bq (bq cb aB λr f y=>by have:=ad _ y;have:=ag r f;omega) al λr f he=>by have he:r=j:=he;have:=ag r f;omega
  have da:aa K C b5 [.slice ν 0 0,.slice ν 0 0,Δ 0,.slice ν 0 0]:=((((((bW.U N (λhe=>by have he:C=j:=he;omega)).U aZ M).U a2 M).U ay (λhe=>by have he:C=j:=he;omega)).U aB M).U al (λhe=>by have he:C=j:=he;omega));let P:af:=λr=>(B r\/w.heap.size<=r)/\r<K.heap.size;have ci:aj.rep (α:=List (Λ×Int)) false bC (λr=>cG g gs A P r/\r≠j/\r≠C) K [b6] l:=by
   refine BV (aj.U bH al λr f h he=>?_) λr f h=>?_
   .have he:r=j:=he;rcases h with h|h
    .exact h
    .rcases h with h|h
     .have:=W r h.2;omega
     .omega
   .rcases h with h|h
    .have:=W r h.2;exact⟨⟨h.1,.inl h.2,f⟩,Ω,Ω⟩
    .exact⟨⟨λy=>by have:=ad _ y;omega,.inr Ω,f⟩,Ω,Ω⟩
  have db:∀r,leads aD r->cG g gs A P r/\r≠j/\r≠C:=λr f=>by
   have O:=Q r f;have ax:=(bU cg f);exact⟨⟨λy=>by have:=ad _ y;omega,.inr Ω,Ω⟩,O.2⟩
  have cj:∀r,leads szv r->cG g gs A P r/\r≠j/\r≠C:=λr f=>by
   have O:=ag r f;have ax:=(bU be f);exact⟨⟨λy=>by have:=ad _ y;omega,.inr Ω,Ω⟩,Ω,Ω⟩
  have dc:Seen (λr=>cG g gs A P r/\r≠j/\r≠C) K [aD,szv,Δ o,b6] ((scope,sizes,o,l):hC):=BU (qw cg db) (qw be cj) ci;have dd:∀q,cY all s=σ q->((scope,sizes,o,l):hC)=ha q.1:=λq E=>by
   rw[L] at E;obtain⟨ec,bJ,rfl⟩:=X3.1 E;have O:=cd _ bJ;cases aC:bc 0 ao G with
   |none=>have e:bb 0 ao (σ G)=ν:=aC;rw[e] at bJ;cases bJ
   |some am=>
    have ax:=cW am aC;rw[O,ax];rfl
  have df:∀v∈[aD,szv,V5 .i64 o,b6],v.oneCell'=true:=by
   intro v H;simp at H;rcases H with rfl|rfl|rfl|rfl
   .exact bn.2
   .exact be.ls.cells.2
   .rfl
   .exact bI.2
  have ck:∀r,cG g gs A B r->cG g gs A P r/\r≠j/\r≠C:=λr f=>by
   have:=W r f.2;exact⟨⟨f.1,.inl f.2,Ω⟩,Ω,Ω⟩
  refine dm (λbK=>∃aI,ae (bG g gs A) K bK/\(∀r,aI r->A r\/K.heap.size<=r)/\ ∃V,k9 bK g gs aI V (λr=>cG g gs A P r/\r≠j/\r≠C) clean ((cY all s).map (·.2))) ?_ ?_
  .rintro bK ⟨aI,aN,aO,V,dg⟩;have ed:=aN.size;refine BW rfl df (ba.U aN aq) rfl (da.U aN M) λbL bf=>?_;have ee:=bf.size;have cl:∀r,bG g gs aI r->¬(λr=>r=C) r:=λr f he=>by
    have he:r=C:=he;subst he;rcases f with f|f|f
    .exact M (.inl f)
    .exact M (.inr (.inl f))
    .rcases aO _ f with f|f
     .exact M (.inr (.inr f))
     .omega
   have cm:∀r,(cG g gs A P r/\r≠j/\r≠C)->cG g gs aI (λr=>(B r\/w.heap.size<=r)/\r<bL.heap.size/\(r<K.heap.size\/B r)) r:=λr h=>⟨λy=>h.1.1 (y.imp id (Or.imp id λy=>(aO r y).elim id λh'=>by have:=h.1.2.2;omega)),h.1.2.1,by have:=h.1.2.2;omega,.inl h.1.2.2⟩;have dh:k9 bL g gs aI V (λr=>cG g gs A P r/\r≠j/\r≠C) clean ((cY all s).map (·.2)):=dg.U bf (cl g (.inl rfl)) (λr f _=>cl r f) (λr f=>f.2.2);refine⟨aI,λr=>(B r\/w.heap.size<=r)/\r<bL.heap.size/\(r<K.heap.size\/B r),_,(scope,sizes,o,l),rfl,rfl,hy (c9.trans aN) bf λr f he=>by have he:r=C:=he;omega,λr f=>(aO r f).imp id λh=>Ω,λr f=>⟨f.1,f.2.1⟩,λr f=>⟨.inl f,by have:=W r f;omega,.inr f⟩,dh.out cm λr f=>f.2.1,?_,dd⟩;refine BV (aj.U (aj.U dc aN λr _ h y=>?_) bf λr _ h he=>?_) λr _ h=>cm r h
   .rcases h with h|h
    .exact h
    .exact h.1.1 y
   .rcases h with h|h
    .exact h
    .exact h.2.2 he
  .intro au aM;rw[ah];refine⟨λdj=>?_,λdk=>?_⟩
   .intro bM aE _ _;have ef:=aE.size;have dl:∀r,(cG g gs A P r/\r≠j/\r≠C)->cG g gs A (pa bM.heap.size) r:=λr h=>⟨h.1.1,by have:=h.1.2.2;show r<bM.heap.size;omega⟩;refine Lm (R:=λr=>cG g gs A P r/\r≠j/\r≠C) (z:=sizes) (l:=l) (ce.ext aE) ck dl (λt bE=>?_) (ba.ext aE) (qw (be.ext aE) cj) (bd ci aE) λeg aI dn aO dp=>?_
    .obtain⟨q,E,rfl⟩:=X3.1 bE;cases aC:bc 0 ao G with
     |none=>have e:bb 0 ao (σ G)=ν:=aC;rw[e] at E;cases E
     |some am=>
      have e:bb 0 ao (σ G)=σ am:=aC;rw[e] at E;have h1:q.2.shared=am.2.shared/\q.2.toks.length<=am.2.toks.length:=BX (l:=q.1) (s':=q.2) E;have O:=de (n:=am.1) (s':=am.2) aC;have ax:=O.eqs.2.2;have eh:=O.1;rw[h1.1,ax];have:=h1.2;omega
    .refine aM _ ⟨aI,(aE.U _).trans dn,λr f=>(aO r f).imp id λh=>Ω,pa bM.heap.size,?_⟩;have e:(cY all s).map (·.2)=((iQ sizes ((bb 0 ao (σ G)).map (·.2))).map (·.2)).map (sS sizes l):=by
      rw[L];cases E:iQ sizes ((bb 0 ao (σ G)).map (·.2)) with
      |none=>rfl
      |some q=>
       have O:=cd _ E;simp only[Z6,if_pos dj,O]
     rw[e];exact dp
   .refine aM _ ⟨A,ae.refl _ _,λr f=>.inl f,B,?_⟩;have e:(cY all s).map (·.2)=(iQ sizes ((bb 0 ao (σ G)).map (·.2))).map (·.2):=by
     rw[L];cases E:iQ sizes ((bb 0 ao (σ G)).map (·.2)) with
     |none=>rfl
     |some q=>simp only[Z6,if_neg dk]
    rw[e];exact ce.qr ck
def kv (l:Λ):Prop:=∀v∈l,0<=v/\v<64
theorem qx (h:kv l) {v:Int}:v∈bk l↔v∈l:=by
 unfold bk;rw[T4,decide_eq_true_eq];refine⟨λh=>h.2,λa=>⟨?_,a⟩⟩;obtain⟨h1,e⟩:=h v a;exact l7.2 ⟨v.toNat,List.mem_range.2 Ω,Ω⟩
theorem Lp (l:Λ):kv (bk l):=λv a=>by
 obtain⟨n,e,rfl⟩:=l7.1 (T4.1 a).1;have:=List.mem_range.1 e;omega
theorem vS (l:Λ):(bk l).Pairwise (·< ·):=by
 unfold bk;refine List.Pairwise.filter _ ?_;rw[List.pairwise_map];exact List.pairwise_lt_range.imp λh=>Ω
theorem BY (l:Λ):(bk l).Nodup:=(vS l).imp λh=>Ω
where
 nodup_le' {a b:Λ} (h:a.Nodup) (I:∀x∈a,x∈b):a.length<=b.length:=by
  induction a generalizing b with
  |nil=>exact X8 _
  |cons x a ih=>
   have h':=List.nodup_cons.1 h;have hx:=I x (.head _);have:=ih (b:=b.erase x) h'.2 λy hy=>(List.mem_erase_of_ne (λ(he:y=x)=>h'.1 (by rw[<-he];exact hy))).2 (I y (.tail _ hy));rw[List.length_erase_of_mem hx] at this;have:=List.length_pos_of_mem hx;rw[b8];omega
theorem BZ (n:Nat):(0:Int)<64 ^ n:=Int.pow_pos Ω
theorem sT:∀ (l:Λ),kv l->0<=jn l/\jn l<64 ^ l.length
 |[],_=>by simp[jn]
 |x::l,h=>by
  have j:=sT l λy a=>h y (.tail _ a);have f:=h x (.head _);have p:=BZ l.length;simp only[jn,b8];have e:(64:Int) ^ (l.length+1)=64*64 ^ l.length:=by rw[Int.pow_succ,Int.mul_comm]
  have h1:x*64 ^ l.length<=63*64 ^ l.length:=Int.mul_le_mul_of_nonneg_right Ω Ω;have q:0<=x*64 ^ l.length:=Int.mul_nonneg f.1 Ω;rw[e];omega
def fR:Λ->Λ->Int
 |x::a,y::b=>if x<y then-1 else if y<x then 1 else fR a b
 |[],[]=>0
 |[],_::_=>-1
 |_::_,[]=>1
theorem B1:∀ (a b:Λ),a.length=b.length->kv a->kv b->(fR a b<0↔jn a<jn b)/\(fR a b=0↔a=b)/\(jn a=jn b->a=b)
 |[],[],_,_,_=>by simp[fR]
 |[],_::_,h,_,_=>by simp at h
 |_::_,[],h,_,_=>by simp at h
 |x::a,y::b,h,s,w=>by
  have p:a.length=b.length:=by simpa using h
  have q:kv a:=λz e=>s z (.tail _ e);have r:kv b:=λz e=>w z (.tail _ e);have f:=B1 a b p q r;have A:=sT a q;have C:=sT b r;have E:=BZ b.length;simp only[fR,jn];rw[p] at A ⊢;have step:∀u v:Int,u<v->u*64 ^ b.length+64 ^ b.length<=v*64 ^ b.length:=λu v F=>by
   have:=Int.mul_le_mul_of_nonneg_right (show u+1<=v by omega) (show (0:Int)<=64 ^ b.length by omega);rw[Int.add_mul,Int.one_mul] at this;exact this
  by_cases h1:x<y
  .rw[if_pos h1];have:=step x y h1;exact⟨⟨λ_=>Ω,λ_=>Ω⟩,⟨λh=>Ω,λh=>by have:=(List.cons.inj h).1;omega⟩,λh=>Ω⟩
  .rw[if_neg h1];by_cases j:y<x
   .rw[if_pos j];have:=step y x j;exact⟨⟨λh=>Ω,λh=>Ω⟩,⟨λh=>Ω,λh=>by have:=(List.cons.inj h).1;omega⟩,λh=>Ω⟩
   .rw[if_neg j];have B:x=y:=Ω
    subst B;exact⟨f.1.trans ⟨λh=>Ω,λh=>Ω⟩,f.2.1.trans ⟨λh=>by rw[h],λh=>(List.cons.inj h).2⟩,λh=>by rw[f.2.2 Ω]⟩
def jo (l:Λ):Prop:=kv l/\l.length<=6
theorem B2 (h:jo l):0<=jn l/\jn l<64 ^ 6:=by
 have:=sT l h.1;have e:(64:Int) ^ l.length<=64 ^ 6:=by
  have a:=h.2
  match l.length,a with
  |0,_=>decide
  |1,_=>decide
  |2,_=>decide
  |3,_=>decide
  |4,_=>decide
  |5,_=>decide
  |6,_=>decide
  |n+7,h=>omega
 omega
theorem vT {b:Λ} (j:jo a) (p:jo b):(da a<da b↔a.length<b.length\/(a.length=b.length/\fR a b<0))/\(da a=da b->a=b):=by
 have h1:=B2 j;have q:=B2 p;have e:(64:Int) ^ 6=68719476736:=Φ
 rw[e] at h1 q;unfold da;rw[e];by_cases f:a.length=b.length
 .have:=B1 a b f j.1 p.1;rw[f];exact⟨⟨λh=>.inr ⟨rfl,this.1.2 Ω⟩,λh=>by
   rcases h with h|⟨_,h⟩
   .omega
   .have:=this.1.1 h;omega⟩,λh=>this.2.2 Ω⟩
 .exact⟨⟨λh=>.inl Ω,λh=>by
   rcases h with h|⟨h,_⟩
   .omega
   .exact absurd h f⟩,λh=>Ω⟩
theorem sU (g:cz):∀l:List cz,(hA g l).Perm (g::l)
 |[]=>List.Perm.refl _
 |h::l=>by
  unfold hA;split
  .exact ((sU g l).cons h).trans (List.Perm.swap g h l)
  .exact List.Perm.refl _
theorem B3 {g:cz}:∀ {l:List cz},l.Pairwise (λa b=>da a.1<da b.1)->(∀h∈l,da h.1≠da g.1)->(hA g l).Pairwise (λa b=>da a.1<da b.1)
 |[],_,_=>by simp[hA]
 |h::l,j,p=>by
  have f:=List.pairwise_cons.1 j;unfold hA;split
  .rename_i q;refine List.pairwise_cons.2 ⟨λx e=>?_,B3 f.2 λx e=>p x (.tail _ e)⟩;rcases V1.1 ((sU g l).mem_iff.1 e) with rfl|e
   .exact q
   .exact f.1 x e
  .rename_i r;have:=p h (.head _);refine List.pairwise_cons.2 ⟨λx e=>?_,j⟩;rcases V1.1 e with rfl|e
   .omega
   .have:=f.1 x e;omega
theorem B4:∀ (l acc:List cz),acc.Pairwise (λa b=>da a.1<da b.1)->l.Pairwise (λa b=>da a.1≠da b.1)->(∀a∈acc,∀b∈l,da a.1≠da b.1)->
  (l.foldl (λl g=>hA g l) acc).Pairwise (λa b=>da a.1<da b.1)/\(l.foldl (λl g=>hA g l) acc).Perm (acc++l)
 |[],acc,h,_,_=>⟨h,Ξ⟩
 |g::l,acc,h,q,f=>by
  have j:=List.pairwise_cons.1 q;have:=B4 l (hA g acc) (B3 h λa e=>f a e g (.head _)) j.2 λa e b p=>by
   rcases V1.1 ((sU g acc).mem_iff.1 e) with rfl|e
   .exact j.1 b p
   .exact f a e b (.tail _ p)
  refine⟨this.1,this.2.trans ?_⟩;exact ((sU g acc).append_right l).trans (List.perm_middle (a:=g) (l₁:=acc) (l₂:=l)).symm
theorem vU {α:Type} {f:α->Int}:∀ {L M:List α},L.Pairwise (λa b=>f a<f b)->M.Pairwise (λa b=>f a<f b)->(∀x,x∈L↔x∈M)->L=M
 |[],M,_,_,h=>by
  cases M with
  |nil=>rfl
  |cons y M=>exact absurd ((h y).2 (.head _)) Ξ
 |x::L,[],_,_,h=>absurd ((h x).1 (.head _)) Ξ
 |x::L,y::M,h1,q,h=>by
  have j:=List.pairwise_cons.1 h1;have p:=List.pairwise_cons.1 q;have r:x=y:=by
   rcases V1.1 ((h x).1 (.head _)) with he|hm
   .exact he
   .rcases V1.1 ((h y).2 (.head _)) with he|s
    .exact he.symm
    .have a:=p.1 x hm;have b:=j.1 y s;omega
  subst r;rw[vU j.2 p.2 λz=>⟨λe=>?_,λe=>?_⟩]
  .rcases V1.1 ((h z).1 (.tail _ e)) with he|hm
   .subst he;have:=j.1 z e;omega
   .exact hm
  .rcases V1.1 ((h z).2 (.tail _ e)) with he|hm
   .subst he;have:=p.1 z e;omega
   .exact hm
structure fG (sizes:Λ) (k:Int) (g:cz):Prop where
 scope:jo g.1
 up:g.1.Pairwise (·< ·)
 vars:∀v∈g.1,v<sizes.length
 len:g.2.length=(aK (bP sizes g.1)).toNat
 small:aK (bP sizes g.1)<=4096
 im:∀c∈g.2,0<=c/\c<=k
theorem la {sc:Λ} (e:∀z∈sizes,1<=z/\z<=32) (f:∀v∈sc,0<=v/\v<sizes.length):∀z∈bP sizes sc,1<=z/\z<=32:=λz h=>by
 obtain⟨v,j,rfl⟩:=l7.1 h;obtain⟨h1,p⟩:=f v j;have a:v.toNat<sizes.length:=Ω
 rw[u4,x6 a];exact e _ (Q4 a)
theorem Lq {b:Λ} (h:a.Perm b):aK a=aK b:=by
 induction h with
 |nil=>rfl
 |cons x _ e=>simp only[aK,e]
 |swap x y l=>simp only[aK];rw[<-Int.mul_assoc,<-Int.mul_assoc,Int.mul_comm y x]
 |trans _ _ h1 f=>exact h1.trans f
theorem Lr {b:Λ} (h:a.length=b.length):(dX k a b).length=b.length:=by simp[dX,h]
theorem Ls {b:Λ} (hk:0<=k) (f:∀c∈a,0<=c/\c<=k) (j:∀c∈b,0<=c/\c<=k):∀c∈dX k a b,0<=c/\c<=k:=by
 induction a generalizing b with
 |nil=>intro c e;simp[dX] at e
 |cons x a p=>
  cases b with
  |nil=>intro c e;simp[dX] at e
  |cons y b=>
   intro c e;have q:=f x (.head _);have r:=j y (.head _);rcases V1.1 (show c∈min (x+y) k::dX k a b from e) with rfl|e
   .omega
   .exact p (λc h=>f c (.tail _ h)) (λc h=>j c (.tail _ h)) c e
def iR (l:List cz):Prop:=(l.map (·.1)).Nodup
theorem Lt {acc:List cz} {g:cz} (hk:0<=k) (j:∀h∈acc,fG sizes k h) (p:iR acc) (a:fG sizes k g):(∀h∈ih k acc g,fG sizes k h)/\iR (ih k acc g)/\(ih k acc g).length<=acc.length+1:=by
 unfold ih;split
 .refine⟨λh ay=>?_,?_,Ξ⟩
  .obtain⟨f,hm,rfl⟩:=l7.1 ay;have h1:=j f hm;split
   .rename_i he;have r:f.2.length=g.2.length:=by rw[h1.len,a.len,he]
    exact⟨h1.scope,h1.up,h1.vars,by show (dX k f.2 g.2).length=_;rw[Lr r,a.len,he],h1.small,Ls hk h1.im a.im⟩
   .exact h1
  .unfold iR;rw[R6];have e:((λx:cz=>x.1)∘λh:cz=>if h.1=g.1 then (h.1,dX k h.2 g.2) else h)=λx:cz=>x.1:=by
    funext h;simp only[Function.comp];split<;>rfl
   rw[e];exact p
 .rename_i s;refine⟨λh ay=>?_,?_,Ξ⟩
  .rcases l9.1 ay with ay|ay
   .exact j h ay
   .rw[n9.1 ay];exact a
  .unfold iR;rw[j6];exact List.nodup_append.2 ⟨p,Ξ,λx w y q he=>by
    simp only[V7,List.map_nil,n9] at q;subst q;subst he;exact s w⟩
theorem vV {sizes:Λ} {k:Int} (hk:0<=k):∀ {l acc:List cz},(∀h∈acc,fG sizes k h)->iR acc->(∀g∈l,fG sizes k g)->(∀h∈l.foldl (ih k) acc,fG sizes k h)/\iR (l.foldl (ih k) acc)/\(l.foldl (ih k) acc).length<=acc.length+l.length
 |[],acc,a,e,_=>⟨a,e,Ξ⟩
 |g::l,acc,a,e,f=>by
  obtain⟨h1,j,s⟩:=Lt hk a e (f g (.head _));obtain⟨p,q,w⟩:=vV hk h1 j λx r=>f x (.tail _ r);exact⟨p,q,by simp only[List.foldl_cons,b8];omega⟩
theorem B5 {α:Type} [DecidableEq α]:∀ {a b:List α},a.Nodup->b.Nodup->(∀x,x∈a↔x∈b)->a.Perm b
 |[],b,_,_,h=>by
  cases b with
  |nil=>exact .refl _
  |cons y b=>exact absurd ((h y).2 (.head _)) Ξ
 |x::a,b,p,f,h=>by
  have q:=(h x).1 (.head _);have j:=List.nodup_cons.1 p;refine .trans ?_ (List.perm_cons_erase q).symm;refine .cons x (B5 j.2 (f.erase x) λy=>?_);rw[f.mem_erase_iff];refine⟨λe=>⟨λhe=>j.1 (he▸e),(h y).1 (.tail _ e)⟩,λ⟨r,e⟩=>?_⟩;rcases V1.1 ((h y).2 e) with he|hm
  .exact absurd he r
  .exact hm
theorem sV (h:kv l) (a:l.Nodup):(bk l).Perm l:=B5 (BY l) a λ_=>qx h
theorem vW:∀ {l:Λ},(∀z∈l,1<=z/\z<=32)->l.map (λz=>min z 4097)=l
 |[],_=>rfl
 |z::l,h=>by
  have e:=h z (.head _);rw[V7,vW λx a=>h x (.tail _ a)];congr 1;omega
theorem Lu {x:ch} (hk:0<=k) (f:0<=x.other) (a:∀p∈x.lines,0<=p.2):0<=jM x k t/\jM x k t<=k:=by
 unfold jM;cases e:x.lines.find? (λp=>decide (p.1=t)) with
 |none=>simp only;omega
 |some p=>have:=a p (List.mem_of_find?_eq_some e);simp only;omega
theorem sW {x:ch} (h:sz all N x) (e:all.length<=64):kv x.scope:=λv a=>by
 have:=h.scope.2 v a;omega
theorem pb {f:bZ} {x:ch} (a:e6 N f) (s:x∈f.funs):fG f.sizes f.k (hY f.sizes f.k x):=by
 obtain⟨h1,w,h⟩:=a.funs x s;have y:=a.sizes.2.1;have j:=sW h1 y;have e:=sV j h1.scope.1;have q:∀v∈bk x.scope,0<=v/\v<f.sizes.length:=λv hm=>h1.scope.2 v ((qx j).1 hm);have A:=la a.sizes.2.2 q;have B:aK (bP f.sizes (bk x.scope))=aK x.sizes:=by rw[h1.sizes];exact Lq (e.map _)
 refine⟨⟨Lp _,?_⟩,vS _,λv hm=>(q v hm).2,?_,?_,λc C=>?_⟩
 .show (bk x.scope).length<=6;rw[e.length_eq];exact w
 .show ((a8 _).map _).length=_;rw[u7,hU A];rfl
 .show aK (bP f.sizes (bk x.scope))<=4096;have E:∀z∈x.sizes,1<=z/\z<=32:=λz r=>by
   rw[h1.sizes] at r;exact la a.sizes.2.2 (λv hm=>h1.scope.2 v hm) z r
  unfold dr at h;rw[vW E,decide_eq_false_iff_not] at h;rw[B];omega
 .obtain⟨t,_,rfl⟩:=l7.1 C;exact Lu (by have:=a.k.1;omega) h1.other λp e=>(h1.lines.2 p e).2
theorem lb {f:bZ} (a:e6 N f):(∀g∈fl f,fG f.sizes f.k g)/\iR (fl f)/\(fl f).length<=f.funs.length:=by
 have:=vV (sizes:=f.sizes) (k:=f.k) (by have:=a.k.1;omega) (l:=f.funs.map (hY f.sizes f.k)) (acc:=[]) (λh ay=>by cases ay) List.nodup_nil λg j=>by
  obtain⟨x,p,rfl⟩:=l7.1 j;exact pb a p
 refine⟨this.1,this.2.1,?_⟩;have e:=this.2.2;rw[List.length_nil,u7,W0] at e;exact e
theorem B6 {l:List cz} (e:∀g∈l,fG sizes k g) (f:iR l):l.Pairwise λa b=>da a.1≠da b.1:=by
 have h1:l.Pairwise λa b=>a.1≠b.1:=by
  unfold iR List.Nodup at f;rwa [List.pairwise_map] at f
 exact h1.imp_of_mem λ{a b} h j p he=>p ((vT (e a h).scope (e b j).scope).2 he)
theorem qy {f:bZ} (h:e6 N f):(fE f).Pairwise (λa b=>da a.1<da b.1)/\(fE f).Perm ((fl f).filter fD):=by
 obtain⟨h1,j,_⟩:=lb h;have p:∀g∈(fl f).filter fD,fG f.sizes f.k g:=λg q=>h1 g (T4.1 q).1;have r:iR ((fl f).filter fD):=(List.Sublist.map _ List.filter_sublist).nodup j;have:=B4 ((fl f).filter fD) [] List.Pairwise.nil (B6 p r) λa s=>by cases s
 refine⟨this.1,?_⟩;have e:=this.2;rw[List.nil_append] at e;exact e
theorem sX {f:bZ} (a:e6 N f):∀g∈fE f,fG f.sizes f.k g:=λg e=>(lb a).1 g (T4.1 ((qy a).2.mem_iff.1 e)).1
theorem Lv {f:bZ} (e:e6 N f) {M:List cz} (h:M.Perm ((fl f).filter fD)) (I:M.Pairwise λa b=>da a.1<=da b.1):M=fE f:=by
 obtain⟨h1,j⟩:=qy e;have p:iR ((fl f).filter fD):=(List.Sublist.map _ List.filter_sublist).nodup (lb e).2.1;have q:iR M:=(h.map (λg:cz=>g.1)).nodup_iff.2 p;have r:∀g∈M,fG f.sizes f.k g:=λg s=>(lb e).1 g (T4.1 (h.mem_iff.1 s)).1;have w:=B6 r q;refine vU (f:=λg:cz=>da g.1) ?_ h1 λx=>by rw[h.mem_iff,j.mem_iff]
 exact I.imp₂ (λa b h1 j=>Int.lt_iff_le_and_ne.2 ⟨h1,j⟩) w
structure jR (n:aS):Prop where
 k:1<=n.k/\n.k<=2147483648
 sizes:1<=n.sizes.length/\n.sizes.length<=64/\ ∀z∈n.sizes,1<=z/\z<=32
 zero:0<=n.zero/\n.zero<=n.k
 kw:n.unary.length=n.sizes.length
 unary:∀ (i:Nat) (z:Int) (u:Λ),n.sizes[i]? =σ z->n.unary[i]? =σ u->u.length=z.toNat/\ ∀c∈u,0<=c/\c<=n.k
 funs:∀g∈n.funs,fG n.sizes n.k g/\2<=g.1.length
theorem Lw (z:Int):aK [z]=z:=by simp[aK]
theorem sY:∀ {l:List cz} {n:aS},jR n->(∀g∈l,fG n.sizes n.k g)->jR (l.foldl (λn g=>match g.1 with
 |[]=>{n with zero:=g.2.getD 0 0}
 |[v]=>{n with unary:=n.unary.set v.toNat g.2}
 |_=>{n with funs:=n.funs++[g]}) n)/\(l.foldl (λn g=>match g.1 with
 |[]=>{n with zero:=g.2.getD 0 0}
 |[v]=>{n with unary:=n.unary.set v.toNat g.2}
 |_=>{n with funs:=n.funs++[g]}) n).sizes=n.sizes
 |[],n,h,_=>⟨h,rfl⟩
 |g::l,n,h,p=>by
  have e:=p g (.head _);have j:∀x∈l,fG n.sizes n.k x:=λx f=>p x (.tail _ f);rw[List.foldl_cons];obtain⟨sc,cs⟩:=g
  match sc,e with
  |[],e=>
   have s:=e.len;refine sY (n:={n with zero:=cs.getD 0 0}) ⟨h.k,h.sizes,?_,h.kw,h.unary,h.funs⟩ j;have h1:cs.length=1:=by simpa[bP,aK] using s
   have w:cs[0]? =σ (cs.getD 0 0):=by rw[u4,x6 Ω];rfl
   exact e.im _ (x5 w)
  |[v],e=>
   have A:=e.scope.1 v (.head _);have B:=e.vars v (.head _);refine sY (n:={n with unary:=n.unary.set v.toNat cs}) ⟨h.k,h.sizes,h.zero,by show (n.unary.set _ _).length=_;rw[Z5];exact h.kw,λi z u q hu=>?_,h.funs⟩ j;by_cases hi:v.toNat=i
   .subst hi;have C:=h.kw;rw[j9 Ω] at hu;cases hu;have y:bP n.sizes [v]=[z]:=by
     simp only[bP,V7,List.map_nil];rw[u4,q];rfl
    refine⟨?_,e.im⟩;have:=e.len;rw[y,Lw] at this;exact this
   .rw[Y0 hi] at hu;exact h.unary i z u q hu
  |a::b::r,e=>
   refine sY (n:={n with funs:=n.funs++[(a::b::r,cs)]}) ⟨h.k,h.sizes,h.zero,h.kw,h.unary,λx f=>?_⟩ j;rcases l9.1 f with f|f
   .exact h.funs x f
   .rw[n9.1 f];exact⟨e,Ξ⟩
theorem B7 {f:bZ} (a:e6 N f):jR (df f)/\(df f).sizes=f.sizes:=by
 unfold df;have h:=a.sizes;refine sY (n:=⟨f.k,f.sizes,0,f.sizes.map λz=>p9 z.toNat 0,[]⟩) ⟨a.k,h,⟨by show (0:Int)<=0;omega,by show (0:Int)<=f.k;have:=a.k.1;omega⟩,Ξ,λi z u h1 e=>?_,λg j=>by cases j⟩ (sX a);have e:(f.sizes.map λz=>p9 z.toNat (0:Int))[i]? =σ u:=e;have h1:f.sizes[i]? =σ z:=h1;rw[x8,h1] at e;cases e;refine⟨Ξ,λc p=>?_⟩;rw[(List.mem_replicate.1 p).2];have:=a.k.1;exact⟨Int.le_refl _,by show (0:Int)<=f.k;omega⟩
def ld (x:ch) (k:Int) (i:Nat) (t:Λ):Int:=match (x.lines.take i).find? (λp=>decide (p.1=t)) with
 |some p=>min p.2 k
 |none=>min x.other k
theorem B8 (x:ch) (k:Int) (t:Λ):ld x k 0 t=min x.other k:=by simp[ld]
theorem B9 (x:ch) (k:Int) (t:Λ):ld x k x.lines.length t=jM x k t:=by
 unfold ld jM;rw[o7];cases x.lines.find? (λp=>decide (p.1=t))<;>rfl
theorem Ca {x:ch} {i:Nat} {p:Λ×Int} (y:(x.lines.map (·.1)).Nodup) (hi:x.lines[i]? =σ p) (t:Λ):ld x k (i+1) t=if t=p.1 then min p.2 k else ld x k i t:=by
 unfold ld;rw[u9,hi,o8,List.find?_append];by_cases a:t=p.1
 .subst a;have z:(x.lines.take i).find? (λq=>decide (q.1=p.1))=ν:=by
   rw[List.find?_eq_none];intro q e he;have he:q.1=p.1:=by simpa using he
   obtain⟨j,f⟩:=X9.1 e;have h:j<i:=by have:=(x4.1 f).1;rw[j5] at this;omega
   rw[X4 h] at f;have r:=x4.1 f;have s:=x4.1 hi;have w:=V9.1 y j i (by rw[u7];exact r.1) (by rw[u7];exact s.1) h;rw[List.getElem_map,List.getElem_map,r.2,s.2] at w;exact w he
  rw[z,if_pos rfl];simp
 .rw[if_neg a];have:[p].find? (λq=>decide (q.1=t))=ν:=by
   rw[List.find?_eq_none];intro q e he;rw[n9.1 e] at he;exact a (of_decide_eq_true he).symm
  rw[this,Option.or_none]
theorem pc {v:Int} (h:v∈l):l[l.idxOf v]? =σ v:=by
 have:=List.idxOf_lt_length_iff.2 h;rw[x6 this,List.getElem_idxOf this]
theorem qz {i:Nat} {v:Int} (j:l.Nodup) (h:l[i]? =σ v):l.idxOf v=i:=by
 have hm:=x5 h;have h1:=pc hm;have a:=x4.1 h1;have e:=x4.1 h;rcases Nat.lt_trichotomy (l.idxOf v) i with f|he|f
 .exact absurd (a.2.trans e.2.symm) (V9.1 j _ _ a.1 e.1 f)
 .exact he
 .exact absurd (e.2.trans a.2.symm) (V9.1 j _ _ e.1 a.1 f)
def fS (scope a:Λ):Λ:=a.map λv=>((scope.idxOf v:Nat):Int)
theorem sZ {f:Λ} (w:scope.Nodup) (a:f.Perm scope):Good (fS scope f) scope.length:=by
 have r:f.Nodup:=a.nodup_iff.2 w;refine⟨by simp[fS,a.length_eq],λi p h=>?_⟩;unfold fS at h;rw[x8] at h;obtain⟨v,s,rfl⟩:=X3.1 h;have hm:v∈scope:=a.mem_iff.1 (x5 s);have z:=List.idxOf_lt_length_iff.2 hm;refine⟨⟨Ω,Ω⟩,λj A q=>?_⟩;unfold fS at q;rw[x8] at q;obtain⟨u,hu,he⟩:=X3.1 q;have x:u∈scope:=a.mem_iff.1 (x5 hu);have e:scope.idxOf u=scope.idxOf v:=Ω
 have h1:=pc x;rw[e,pc hm] at h1;have y:v=u:=c7 h1;subst y;have B:=qz r hu;have C:=qz r s;omega
theorem Cb {v:Int} (e:a[j]? =σ v):(fS scope a)[j]? =σ ((scope.idxOf v:Nat):Int):=by
 unfold fS;rw[x8,e];rfl
theorem Lx (p:scope.Nodup) (f:a.Perm scope):eo (bP sizes scope) (fS scope a)=bP sizes a:=by
 refine Y6 λj=>?_;cases e:a[j]? with
 |none=>
  have h:=S4.1 e;rw[Z4 (by rw[sw];simp[fS];exact h),Z4 (by simp[bP];exact h)]
 |some v=>
  have hm:v∈scope:=f.mem_iff.1 (x5 e);have q:=sZ p f;rw[AS q (by simp[bP]) (Cb e),r8];unfold bP;rw[x8,x8,pc hm,e]
theorem Cc (q:scope.Nodup) (e:a.Perm scope) (r:t.length=scope.length):lU (fS scope a) t=oT scope a t:=by
 have s:=sZ q e;refine (AR s r (by simp[oT]) λj p f=>?_).symm;unfold fS at f;rw[x8] at f;obtain⟨v,h,rfl⟩:=X3.1 f;have hm:v∈scope:=e.mem_iff.1 (x5 h);have w:a.Nodup:=e.nodup_iff.2 q;have x:=(x4.1 h).1;have y:=e.length_eq;unfold oT;rw[r8,x8,pc hm,Z6,qz w h,u4,x6 (show j<t.length by omega)];rfl
theorem Ly {f:bZ} {x:ch} {cs:Λ} (h:e6 N f) (z:x∈f.funs) (H:cs.length=(aK x.sizes).toNat) (A:∀t,ds x.sizes t->ba x.sizes cs t=jM x f.k t):
  eo x.sizes (fS x.scope (bk x.scope))=bP f.sizes (bk x.scope)/\nM x.sizes cs (fS x.scope (bk x.scope))=(hY f.sizes f.k x).2:=by
 obtain⟨h1,I,J⟩:=h.funs x z;have p:=sW h1 h.sizes.2.1;have a:=sV p h1.scope.1;have r:x.sizes=bP f.sizes x.scope:=h1.sizes;have j:eo x.sizes (fS x.scope (bk x.scope))=bP f.sizes (bk x.scope):=by rw[r];exact Lx h1.scope.1 a
 have B:=sZ h1.scope.1 a;have C:∀v∈bk x.scope,0<=v/\v<f.sizes.length:=λv hm=>h1.scope.2 v ((qx p).1 hm);have e:dv (bP f.sizes (bk x.scope)):=la h.sizes.2.2 C;refine⟨j,?_⟩;have E:x.sizes.length=x.scope.length:=by rw[r];simp[bP]
 unfold nM;rw[j];show _=(a8 (bP f.sizes (bk x.scope))).map λt=>jM x f.k (oT x.scope (bk x.scope) t);refine Y6 λq=>?_;rw[x8,x8];have K:=lT e;by_cases w:q<(aK (bP f.sizes (bk x.scope))).toNat
 .have F:=nK e (i:=q) Ω;rw[F,List.getElem?_range w];simp only[Z6];have G:=vy e w;have y:(cJ (bP f.sizes (bk x.scope)) q).length=x.scope.length:=by rw[jk];simp[bP,a.length_eq]
  rw[Cc h1.scope.1 a y,A];have:=JY (s:=x.sizes) B E (by rw[j];exact G);rw[Cc h1.scope.1 a y] at this;exact this
 .rw[Z4 Θ,Z4 (by rw[hU e];omega)];rfl
theorem Lz {c1 c2:Λ} (I:dv ac) (h1:c1.length=(aK ac).toNat) (a:c2.length=(aK ac).toNat):
  dX k c1 c2=(V6 (aK ac).toNat).map λ(q:Nat)=>min (ba ac c1 (cJ ac q)+ba ac c2 (cJ ac q)) k:=by
 conv=>lhs;rw[su I h1,su I a]
 unfold dX;rw[List.zipWith_map,List.zipWith_self]
theorem LA {dg:Nat} {d:List (x1×x1)} {KS:List (Λ)} (f:aa w dg iD [.map (σ m)]) (hm:c5 w m d) (j:d.map (·.1)=KS.map ee) (e:o2 KS) (A:KS.length<65536):
  ai x7 Ic [.func (.func lM) #[] #[Γ dg],BB] w λv w'=>Ext w w'/\ ∃g M,M.Perm KS/\sQ gu M 0 M.length/\nQ w' g v M:=by
 refine aw func215 ?_;refine (KF f hm j (λks h=>(e ks h).1) Ω).mono ?_;rintro v J _ ⟨p,g,L,q,a,s⟩;refine (KT s (e.perm a) (by rw[a.length_eq];omega)).mono ?_;rintro _ w2 _ ⟨x,M,y,hu,z⟩;exact⟨p.then x (λr B h=>by have:=q r h;omega),g,M,y.trans a,hu,z⟩
theorem Cd {α β:Type} {f:α->β}:∀ {M:List β} {D:List α},M.Perm (D.map f)-> ∃L:List α,L.Perm D/\L.map f=M
 |[],D,h=>by
  have h1:=h.length_eq;simp at h1;have:D=[]:=Z0 h1.symm;exact⟨[],by rw[this],rfl⟩
 |x::M,D,h=>by
  have a:x∈D.map f:=h.mem_iff.1 (.head _);obtain⟨p,e,rfl⟩:=l7.1 a;obtain⟨A,B,rfl⟩:=List.append_of_mem e;have j:(f p::M).Perm (f p::(A++B).map f):=h.trans (by
   rw[j6,V7,j6];exact List.perm_middle)
  obtain⟨L,q,r⟩:=Cd (List.Perm.cons_inv j);exact⟨p::L,(q.cons p).trans List.perm_middle.symm,by rw[V7,r]⟩
theorem Ce {g:Nat} {ks:Λ} (q:ks.length=6) (r:n<=6) (e:cs=ints .i8 ks) (f:aa w g cF cs):aF .i8 w (.slice (σ (if 6=0 then⟨g,0,ν⟩ else⟨g,0+0*1,ν⟩)) (n-0) (6-0)) (ks.take n):=by
 subst e;rw[if_neg Ω];unfold aF;have h:(ks.take n).length=n:=by rw[j5];omega
 rw[h];refine⟨Θ,g,0,_,6,rfl,Ω,by simp[maxLen],λ_=>rfl,λj v a=>?_⟩;have p:=(x4.1 a).1;refine f.range j v ?_;rw[ints,List.map_take,X4 (by simp[ints] at p;omega)] at a;exact a
def LB (D L:Told):Prop:=L.Perm D/\sQ (λp=>gu (pad p.1)) L 0 L.length
theorem LC {g:Nat} {o:Int} {D:Told} (h:eJ w g m ac k o D) (a8:D.length<65536):ai x7 HK [Γ g] w λv w'=>Ext w w'/\ ∃L:Told,LB D L/\bj (eI w.heap.size) bC w' [v] L:=by
 obtain⟨⟨sv,gs,Y,hm⟩,ba,I,bR,ay⟩:=id h;have bb:o2 (D.map λp=>pad p.1):=λks hk=>by
  obtain⟨p,bc,rfl⟩:=l7.1 hk;exact qm I (ay p bc).1
 refine aw func167 ?_;rw[dp eP.u];simp only[Z7,aW];rw[aO fy.p 3 Y rfl];refine KD.mono ?_;rintro _ J _ ⟨Z,dg,rfl,bS,bf⟩;refine (LA (KS:=D.map λp=>pad p.1) bf (ba.ext Z) (by rw[R6,R6];rfl) bb (by simpa using a8)).mono ?_;rintro bU w2 _ ⟨aA,bV,M,bg,bh,aB⟩;obtain⟨L,ab,O⟩:=Cd bg;have aC:M.length=L.length:=by rw[<-O];simp
 have bW:=ab.length_eq;have bX:=Z.size;have bZ:=aA.size;have aD:=Z.trans aA;rw[eA jf.u aB];refine bY.range L.length (λi out e=>Ext w2 e/\bj (eI w2.heap.size) bC e [out] (L.take i)) Ω ⟨Ext.refl _,by rw[List.take_zero];exact gk⟩ ?_ ?_
 rotate_left
 .rintro out e bi ⟨C,P⟩;rw[aC];simp only[aQ,ah];refine⟨λh=>Ω,λ_=>⟨aD.trans C,L,⟨ab,λp q x y h1 bk b0 bl bm=>?_⟩,?_⟩⟩
  .exact bh p q (pad x.1) (pad y.1) h1 bk Ω (by rw[<-O,x8,bl];rfl) (by rw[<-O,x8,bm];rfl)
  .rw[o7] at P;exact aj.mono P (λr _ h=>by have h:w2.heap.size<=r:=h;show w.heap.size<=r;omega) λ_ _ h=>h
 rintro i out e bi hi ⟨C,P⟩ bn;obtain⟨⟨t,c⟩,ad⟩:∃p,L[i]? =σ p:=⟨_,x6 hi⟩;have af:(t,c)∈D:=ab.mem_iff.1 (x5 ad);have ak:=(ay _ af).1;have aF:=vG I ak;have an:t.length=ac.length:=aF.1;have aG:=I.1;have bp:k5 (pad t):=qm I ak;have Q:=bp.1;have bq:M[i]? =σ (pad t):=by rw[<-O,x8,ad];rfl
 rw[aC];simp only[aQ,ah];refine⟨λ_=>?_,λh=>Ω⟩;rw[KR rfl (aB.ext C) bq];refine bt cF.i λam b1 b2 aH aI=>?_;refine ql Q rfl aI λbr bu b3 S=>?_;have b4:=aH.size;have b5:=aI.lt;have bw:Ext e br:=aH.put bu Ω;intro aJ H _ _;have ao:=bw.trans H;have aq:=(aD.trans C).trans ao;have aK:=h.ext aq;obtain⟨⟨b6,b7,b8,b9⟩,ca,_⟩:=id aK;have cb:=ao.size;rw[aO fy.p 3 (Y.ext aq) rfl,nP Q (S.ext H).range];refine Kw aK ak (λf bz=>?_) (λbA=>absurd rfl (bA _ af));have bB:f=c:=by
  have:=Bp h.nodup bz af rfl;exact congrArg Prod.snd this
 subst bB;simp only[Bool.false_eq_true,if_false];rw[dq (cs:=#[.slice ν 0 0,Δ f]) Ψ];refine bt gh.i λE cc cd au aN=>?_;refine⟨.inl au,?_⟩;refine bT (vs:=[.slice ν 0 0,Δ f]) gh.i rfl rfl (by intro v aR;simp at aR;rcases aR with rfl|rfl<;>rfl) aN λG bD ce aS=>?_;have cg:=au.size;have ch:=aN.lt;have V:Ext aJ G:=au.put bD Ω;have aT:=ao.trans V;have aU:=aq.trans V;rw[aO fy.p 0 (Y.ext aU) rfl,aX al.u (hm.ls.ext aU)];rw[r6 cF.u fP.i (l:=0) (h:=ac.length) (m:=6) ki (ns _ _ rfl) gj Ω Ω Ω];have aV:=Ce Q aG rfl ((S.ext H).ext V);rw[<-an,Bk] at aV;rw[<-an,aX kT.u aV];have bE:=(S.ext H).ext V;have cj:am<aJ.heap.size:=(S.ext H).lt;have ck:E<G.heap.size:=aS.lt;refine ci.range t.length (λj s=>ae (λr=>r=E\/G.heap.size<=r) G s/\ ∃aL gt,G.heap.size<=gt/\aa s E gh [aL,Δ f]/\ap .i64 ag s gt aL (t.take j)) Ω ⟨ae.refl _ _,_,G.heap.size,o4 _,aS,ap.nil _ _ _ _⟩ ?_ ?_
 .rintro j s bF bG ⟨z,aL,gt,bH,W,X⟩ bI;obtain⟨x,av⟩:=aE (l:=t) bG;have cl:=aF.2 x (x5 av);have cm:Ext e s:=aT.then z (λr aY he=>by rcases he with rfl|he<;>omega);have aZ:=Ce Q aG rfl (bE.U z (λhe=>by rcases he with he|he<;>omega));rw[<-an,Bk] at aZ;simp only[aQ,ah];refine⟨λ_=>?_,λh=>Ω⟩;rw[be kT.u fP.i Ψ aZ av,az gh.p 0 W rfl,e3 fP.u ag.u,wrap_i64 Ω Ω];refine ej al.u ag.i rfl λa ga bJ cn B bK=>?_;refine jj al.u ag.i rfl (X.ext B) bK.ls Θ Θ λa1 a2 bL cp K N=>?_;have bM:=z.size;have bN:=B.size;have cq:=N.size;rw[aP gh.p rfl];refine bo (g:=E) (o:=0) al.i K.ls.cells.1 K.ls.cells.2 ((W.ext B).U N (λhe=>by have he:E=gt:=he;omega)) Ξ λcr a6 ct bO=>?_;simp only[aM];refine bI _ ⟨((z.trans (B.U _)).trans (N.mono λr _ he=>.inr (by have he:r=gt:=he;omega))).trans (a6.mono λr _ he=>.inl he),a1,a2,Ω,bO,?_⟩;rw[u9,av];exact K.U a6 (λ_ he=>by have he:a2=E:=he;omega)
 .rintro s bF ⟨z,aL,gt,bH,W,X⟩;simp only[aQ,ah];refine⟨λh=>Ω,λ_=>?_⟩;rw[o7] at X;rw[bx gh.p gh.i rfl W.range];have bM:=z.size;have bP:Ext e s:=aT.then z (λr aY he=>by rcases he with rfl|he<;>omega);have a7:bj (eI e.heap.size) bC s [aL,Δ f] (t,f):=⟨[aL],[Δ f],eI e.heap.size,bC,rfl,λ_ h=>h,λ_ h=>h.elim,λ_ _ _ h=>h,aj.mono (nA X) (λr _ h=>by subst h;show e.heap.size<=r;omega) (λ_ _ h=>h),rfl⟩;refine iH (α:=Λ×Int) (a:=(t,f)) (cs:=[aL,Δ f]) (A:=eI e.heap.size) (R:=bC) oD.u gh.i Φ rfl a7 λu bJ B _ bQ=>?_;have ax:=bP.trans B;have bN:=ax.size;refine nz (α:=Λ×Int) (a:=(t,f)) (A:=eI e.heap.size) oD.u gh.i rfl (bd (mp P) ax) bQ (bd a7 B) (λr _ h h'=>?_) Θ Θ λa1 bL K N=>?_
  .rcases h' with h'|h'
   .have:=h.2;have:e.heap.size<=r:=h';omega
   .exact h'
  simp only[aM];have cu:=C.size;refine bn _ _ ⟨(C.trans ax).then N (λr aY h=>by have h:=h.1;have h:w2.heap.size<=r:=h;omega),?_⟩;rw[u9,ad];refine aj.mono K (λr _ h=>?_) λ_ _ h=>h;show w2.heap.size<=r;rcases h with h|h|h
  .exact h.1
  .have h:e.heap.size<=r:=h;omega
  .omega
theorem Cf {s:Λ} (I:dv s):t∈a8 s↔ds s t:=by
 refine⟨λh=>?_,λ⟨n,h⟩=>x5 (mz I h)⟩;obtain⟨i,hi⟩:=X9.1 h;exact⟨_,hW I hi⟩
theorem Cg:∀ {s:Λ},dv s->(a8 s).Pairwise λa b=>gu a<gu b
 |[],_=>by simp[a8]
 |k::s,I=>by
  have z:=Cg I.tail;have f:∀t∈a8 s,0<=gu t/\gu t<32 ^ s.length:=λt p=>by
   have A:=(Cf I.tail).1 p;have h1:=nL.1 A;have r:=sP t λx q=>by
    obtain⟨i,hi,rfl⟩:=List.getElem_of_mem q;obtain⟨a,e⟩:=aE (l:=s) (i:=i) Ω;have C:=h1.2 i a _ e (x6 hi);have E:=(I.tail a (x5 e)).2;omega
   rw[h1.1];exact r
  have j:∀t∈a8 s,t.length=s.length:=λt p=>sb p;show ((V6 k.toNat).flatMap λ(v:Nat)=>(a8 s).map λt=>(v:Int)::t).Pairwise _;rw[List.pairwise_flatMap];refine⟨λv _=>?_,?_⟩
  .rw[List.pairwise_map];refine z.imp_of_mem λ{a b} e f h=>?_;simp only[gu,j a e,j b f];omega
  .refine List.pairwise_lt_range.imp λ{u v} F x q y B=>?_;obtain⟨a,e,rfl⟩:=l7.1 q;obtain⟨b,w,rfl⟩:=l7.1 B;simp only[gu,j a e,j b w];have h1:=f a e;have r:=f b w;have:=Int.mul_le_mul_of_nonneg_right (show (u:Int)+1<=v by omega) (show (0:Int)<=32 ^ s.length by have:=vK s.length;omega);rw[Int.add_mul,Int.one_mul] at this;omega
theorem LD {D L:Told} {o:Int} (f:(D.map (·.1)).Nodup) (a:L.Perm D) (t:Λ):ii L o t=ii D o t:=by
 have j:(L.map (·.1)).Nodup:=(a.map (·.1)).nodup_iff.2 f;by_cases he:∃p∈D,p.1=t
 .obtain⟨p,h,rfl⟩:=he;rw[qn f (c:=p.2) h,qn j (c:=p.2) (a.mem_iff.2 h)]
 .rw[qo λp h1 e=>he ⟨p,h1,e⟩,qo λp h1 e=>he ⟨p,a.mem_iff.1 h1,e⟩]
def io (ac:Λ) (f:Λ->Int) (cs:Λ):Prop:=cs.length=(aK ac).toNat/\ ∀t,ds ac t->ba ac cs t=f t
theorem io.eq {f:Λ->Int} {cs:Λ} (I:dv ac) (h1:io ac f cs) (e:io ac f a):cs=a:=JO I h1.1 e.1 λt h=>by rw[h1.2 t h,e.2 t h]
theorem io.congr {f a:Λ->Int} {cs:Λ} (h:io ac f cs) (he:∀t,ds ac t->f t=a t):io ac a cs:=⟨h.1,λt e=>by rw[h.2 t e,he t e]⟩
theorem vX (I:dv ac) (h:ds ac t):∃n:Nat,cH ac t 0=σ (n:Int)/\n<(aK ac).toNat:=by
 obtain⟨n,a⟩:=h;have:=nB I a;simp only[Int.zero_mul,Int.zero_add,Int.one_mul] at this;exact⟨n.toNat,by rw[a];congr 1;omega,Ω⟩
theorem LF (I:dv ac) (c:Int):io ac (λ_=>c) (p9 (aK ac).toNat c):=⟨Ξ,λt a=>by
 obtain⟨n,e,f⟩:=vX I a;unfold ba;rw[e];simp only[r8,u4,List.getElem?_replicate,f,if_true,V8]⟩
theorem io.put {f:Λ->Int} {cs:Λ} {c:Int} (I:dv ac) (h:io ac f cs) (q:ds ac t) (r:cv c k):io ac (λs=>if s=t then c else f s) (sf ac t k c cs):=by
 obtain⟨n,e,w⟩:=vX I q;unfold sf;rw[e];simp only[r,if_true,r8];refine⟨by simp[h.1],λs p=>?_⟩;obtain⟨m,hm,x⟩:=vX I p;have a:=h.2 s p;unfold ba at a ⊢;rw[hm] at a ⊢;simp only[r8] at a ⊢;by_cases he:s=t
 .subst he;rw[e] at hm;have j:n=m:=by have:=c7 hm;omega
  subst j;rw[if_pos rfl,u4,j9 (by rw[h.1];exact w)];rfl
 .rw[if_neg he,u4,Y0 (λj=>he ?_),<-u4,a];subst j;rw[<-AL I hm,<-AL I e]
def LG (w:x3) (ac:Λ) (k o:Int) (D:Told) (v:x1) (w':x3):Prop:=Ext w w'/\(4096<aK ac->v= .tuple #[.pointer ν,Δ 5])/\
 (aK ac<=4096-> ∃g a sv cs,v= .tuple #[Γ g,Δ 0]/\w.heap.size<=g/\(w.heap.size<=a/\ ∀r,leads sv r->w.heap.size<=r)/\dd w' g a sv ac k cs/\io ac (ii D o) cs)
theorem Ch {g:Nat} {o:Int} {D:Told} (h:eJ w g m ac k o D) (aa:D.length<65536):ai x7 GO [Γ g] w (LG w ac k o D):=by
 obtain⟨⟨sv,gs,ab,hm⟩,aZ,I,ad,af⟩:=id h;have R:=h.nodup;refine aw func94 ?_;rw[dp eP.u];simp only[Z7,aW];intro J a _ _;have K:=ab.ext a;rw[aO fy.p 0 K rfl,aO fy.p 1 K rfl,aO fy.p 2 K rfl];refine (vj (hm.ls.ext a)).mono ?_;rintro _ w2 _ ⟨z,_,ag,_,ak⟩;by_cases C:aK ac<=4096
 rotate_left
 .have:=ag I Ω;subst this;rw[bu,bw];simp only[bE,ah];exact⟨λ_=>⟨a.trans z,λ_=>rfl,λh=>absurd h C⟩,λh=>by simp at h⟩
 obtain⟨gt,f,aL,rfl,a1,a2,al,S⟩:=ak I C ad;rw[bu,bw];simp only[bE,ah];refine⟨λh=>absurd rfl h,λ_=>?_⟩;have a6:=a.size;have a7:=z.size;refine (LC ((h.ext a).ext z) aa).mono ?_;rintro a8 am _ ⟨M,L,E,V⟩;have ba:=M.size;have bb:f<w2.heap.size:=by
  obtain⟨⟨aY,bc,_,_,an⟩,⟨_,_,bd⟩,ao,ap⟩:=id S;have be:=lT ao.2;obtain⟨_,⟨_,aq⟩|⟨cap,cs,_,au,_⟩⟩:=an
  .rw[ap] at aq;omega
  .exact au.lt
 have bf:=E.1.length_eq;rw[fC oD.u V];refine ci.range L.length (λi q=>ae (λr=>r=f) am q/\ ∃cs,dd q gt f aL ac k cs/\io ac (ii (L.take i) o) cs) Ω ⟨ae.refl _ _,_,S.ext M,by rw[List.take_zero];exact LF I.2 o⟩ ?_ ?_
 .rintro i q av hi ⟨G,cs,N,H⟩ ax;simp only[aQ,ah];refine⟨λ_=>?_,λh=>Ω⟩;obtain⟨⟨t,c⟩,y⟩:∃p,L[i]? =σ p:=⟨_,x6 hi⟩;have ay:(t,c)∈D:=E.1.mem_iff.1 (x5 y);obtain⟨aA,aB,aC⟩:=af _ ay;have aD:=aj.U V G λr W aE he=>by
   have he:r=f:=he;rcases aE with h|h
   .have h:w2.heap.size<=r:=h;omega
   .exact h
  refine jI (α:=Λ×Int) gh.p rfl oD.u gh.i aD y λus aF=>?_;obtain⟨c1,c2,A,B,rfl,bg,bh,_,h1,aG⟩:=aF;have aH:c2=[Δ c]:=aG;subst aH;obtain⟨aI,rfl,_⟩:=id h1;have hu:=cN h1;refine bt gh.i λbi bj bk aJ X=>?_;refine bT (vs:=[aI,Δ c]) gh.i rfl rfl (by intro v Y;simp at Y;rcases Y with rfl|rfl;exact hu.cells.2;rfl) X λaN aP bl Z=>?_;have bm:=X.lt;have O:Ext q aN:=aJ.put aP Ω;rw[az gh.p 0 Z rfl,az gh.p 1 Z rfl];refine (I2 (N.ext O) (hu.ext O)).mono ?_;rintro _ bn _ ⟨rfl,aR,aS⟩;simp only[aM];refine ax _ ⟨(G.trans (O.U _)).trans aR,_,aS,(H.put I.2 aA aB).congr λs bo=>?_⟩;rw[u9,y];have P:(L.map (·.1)).Nodup:=(E.1.map (·.1)).nodup_iff.2 R;have aT:∀p∈L.take i,p.1≠t:=λp C he=>by
   obtain⟨j,Q⟩:=X9.1 C;have aU:j<i:=by have:=(x4.1 Q).1;rw[j5] at this;omega
   rw[X4 aU] at Q;have:=kt P (i:=j) (j:=i) (x:=t) (by rw[x8,Q,Z6,he]) (by rw[x8,y];rfl);omega
  have aV:((L.take i).map (·.1)).Nodup:=by rw[List.map_take];exact (List.take_sublist _ _).nodup P
  have aX:((L.take i++[(t,c)]).map (·.1)).Nodup:=by
   have e:L.take i++[(t,c)]=L.take (i+1):=by rw[u9,y];rfl
   rw[e,List.map_take];exact (List.take_sublist _ _).nodup P
  exact ((Bq aT aC).cost aV aX s).symm
 .rintro q av ⟨G,cs,N,H⟩;simp only[aQ,ah];refine⟨λh=>Ω,λ_=>?_⟩;rw[o7] at H;exact⟨((a.trans z).trans M).put G Ω,λh=>Ω,λ_=>⟨gt,f,aL,cs,rfl,Ω,⟨Ω,λr W=>by have:=al r W;omega⟩,N,H.congr λs _=>LD R E.1 s⟩⟩
theorem LH {s cs:Λ} (I:dv s) (a:cs.length=(aK s).toNat) {i:Nat} (h:(a8 s)[i]? =σ t):cs[i]? =σ (ba s cs t):=by
 have hi:=(x4.1 h).1;rw[hU I,<-a] at hi;unfold ba;rw[hW I h];simp only[r8,u4,x6 hi,V8]
theorem s3 {k:o6} {g:Nat} (h:ap k e w g v l) (f:0<l.length):g<w.heap.size:=by
 obtain⟨_,⟨_,h1⟩|⟨_,_,_,a,_⟩⟩:=h
 .omega
 .exact a.lt
def fH (w:x3) (g m:Nat) (sv:x1) (gs:Nat) (ac:Λ) (k o:Int) (D:Told):Prop:=
 aa w g fy [sv,Δ k,Δ o,.map (σ m)]/\ap .i64 ag w gs sv ac/\c5 w m (D.map jN)/\b2 ac/\cv o k/\ ∀p∈D,ds ac p.1/\cv p.2 k/\p.2≠o
theorem fH.is {g:Nat} {o:Int} {D:Told} (h:fH w g m sv gs ac k o D):eJ w g m ac k o D:=⟨⟨sv,gs,h.1,h.2.1⟩,h.2.2⟩
theorem eJ.at {g:Nat} {o:Int} {D:Told} (h:eJ w g m ac k o D):∃sv gs,fH w g m sv gs ac k o D:=by
 obtain⟨⟨sv,gs,h1,a⟩,e⟩:=h;exact⟨sv,gs,h1,a,e⟩
theorem fH.ext {g:Nat} {o:Int} {D:Told} (h:fH w g m sv gs ac k o D) (a:Ext w w'):fH w' g m sv gs ac k o D:=by
 obtain⟨h1,e,f,j⟩:=h;exact⟨h1.ext a,e.ext a,f.ext a,j⟩
theorem fH.U {g:Nat} {o:Int} {D:Told} (h:fH w g m sv gs ac k o D) (a:ae S w w') (e:¬S g) (hm:¬S m) (I:∀r,leads sv r->¬S r):fH w' g m sv gs ac k o D:=by
 obtain⟨h1,f,j,p⟩:=h;exact⟨h1.U a e,bq f a I,j.U a hm,p⟩
theorem s4 {g:Nat} {d:List (x1×x1)} (h:aa w g e cs) (hm:c5 w m d):g≠m:=by
 rintro rfl;obtain⟨a,c,h1,_⟩:=hm;unfold aa at h;rw[h1] at h;cases h
theorem Ci {g:Nat} {k:o6} {d:List (x1×x1)} (h:ap k e w g v l) (hm:c5 w m d) (f:leads v r):r≠m:=by
 obtain⟨rfl,_⟩:=bU h f;obtain⟨_,⟨rfl,_⟩|⟨_,_,_,j,_⟩⟩:=h
 .obtain⟨a,n,c,h,_⟩:=f;cases h
 .exact s4 j hm
theorem fH.put {g:Nat} {o:Int} {D D':Told} (h:fH w g m sv gs ac k o D) (a:ae (λr=>r=m) w w') (h':eJ w' g m ac k o D'):fH w' g m sv gs ac k o D':=
 ⟨h.1.U a (λhe=>s4 h.1 h.2.2.1 he),bq h.2.1 a (λr e he=>Ci h.2.1 h.2.2.1 e he),h'.2⟩
theorem fH.qg {g:Nat} {o:Int} {D:Told} (h:fH w g m sv gs ac k o D):g<w.heap.size/\m<w.heap.size/\ ∀r,leads sv r->r<w.heap.size:=
 ⟨h.1.lt,h.2.2.1.lt,λr a=>by obtain⟨rfl,e⟩:=bU h.2.1 a;exact e⟩
instance (s t:Λ):Decidable (ds s t):=decidable_of_iff ((cH s t 0).isSome=true) ⟨λh=>by
 cases a:cH s t 0 with
 |none=>rw[a] at h;cases h
 |some n=>exact⟨n,a⟩,λ⟨n,h⟩=>by rw[h];rfl⟩
theorem s5 (h:aF .i64 w sv l) (G:l.length<=1000000):ai x7 y3 [sv] w λv w'=>Ext w w'/\ ∃g,w.heap.size<=g/\ap .i64 ag w' g v l:=by
 refine aw func85 ?_;rw[aX an.u h];refine kk (k:=.i64) al.u ag.i Ω Ω λg J H j p=>?_;have y:ap .i64 ag J g (.slice (σ ⟨g,0,ν⟩) l.length l.length) (p9 l.length 0):=by
  have:=bV.full (k:=1) (n:=l.length) p Ξ (by simp[maxLen];omega);exact ap.of this
 rw[aX an.u (h.ext j)];have I:=p.lt;refine ci.range l.length (λi w2=>ae (λr=>r=g) J w2/\ap .i64 ag w2 g (.slice (σ ⟨g,0,ν⟩) l.length l.length) (l.take i++p9 (l.length-i) 0)) h.le ⟨ae.refl _ _,by simpa using y⟩ ?_ ?_
 rotate_left
 .rintro w2 z ⟨f,a⟩;rw[aQ,ah];rw[o7,U7,List.replicate_zero,W7] at a;exact⟨λh=>Ω,λ_=>⟨j.put f Ω,g,Ω,a⟩⟩
 rintro i w2 z hi ⟨f,a⟩ A;obtain⟨x,q⟩:=aE (l:=l) hi;have B:Ext w w2:=j.put f Ω;refine bH Ω ?_;rw[be an.u ak.i Ψ (h.ext B) q];rw[iK rfl al.u ag.i a Θ];refine iL ag.i a Θ λK C L s=>?_;rw[aM];refine A _ ⟨f.trans C,?_⟩;have e:(l.take i++p9 (l.length-i) 0).set i x=l.take (i+1)++p9 (l.length-(i+1)) 0:=by
  have E:(l.take i).length=i:=by rw[j5];omega
  rw[T8 _ _ Ω,E,U7,show l.length-i=(l.length-(i+1))+1 by omega,List.replicate_succ,List.set_cons_zero,u9,q,o8,c9];rfl
 rw[e] at s;exact s
def LI (w:x3) (l:Λ) (k o:Int) (v:x1) (w':x3):Prop:=
 Ext w w'/\(¬b2 l->v= .tuple #[.pointer ν,Δ 1])/\(b2 l->¬cv o k->v= .tuple #[.pointer ν,Δ 3])/\
  (b2 l->cv o k-> ∃g m sv gs,v= .tuple #[Γ g,Δ 0]/\w.heap.size<=g/\w.heap.size<=m/\(∀r,leads sv r->w.heap.size<=r)/\fH w' g m sv gs l k o [])
theorem LJ {o:Int} (h:aF .i64 w sv l):ai x7 oA [sv,Δ k,Δ o] w (LI w l k o):=by
 refine aw func146 ?_;refine aT (λv J=>Ext w J/\ ∃c,v= .bool c/\(c=true↔¬b2 l)) ?_ ?_
 .rintro _ J ⟨e,c,rfl,f⟩;rw[b0];refine⟨λx=>⟨e,λ_=>rfl,λh=>absurd h (f.1 x),λh=>absurd h (f.1 x)⟩,λA=>?_⟩;have I:b2 l:=Classical.byContradiction λh=>by have:=f.2 h;rw[A] at this;cases this
  have K:=I.1;refine jJ.mono ?_;rintro _ w2 _ ⟨rfl,a⟩;by_cases hi:cv o k
  rotate_left
  .simp only[hi,decide_false,bF,V0,bO];exact⟨e.trans a,λh=>absurd I h,λ_ _=>rfl,λ_ h=>absurd h hi⟩
  simp only[hi,decide_true,bF,Y5,aW];refine (kY ((h.ext e).ext a) Ω).mono ?_;rintro aL L _ ⟨y,B,M,hm⟩;have N:=hm.ls.cells;refine sJ λm O P j C=>?_;rw[dq (cs:=#[aL,Δ k,Δ o,.map (σ m)]) (by obtain⟨_,_,_,_,_,rfl,_⟩:=hm.ls;kernel_rfl)];refine bn λg Q R q E=>?_;have S:=e.size;have U:=a.size;have V:=y.size;have W:=j.size;exact⟨((((e.trans a).trans y).trans j).trans q),λh=>absurd I h,λ_ h=>absurd hi h,λ_ _=>⟨g,m,aL,B,rfl,Ω,Ω,λr G=>by have:=(bU hm G).1;omega,E,(hm.ext j).ext q,C.ext q,I,hi,λp H=>by cases H⟩⟩
 .intro au z;rw[aX al.u h];simp only[bS,ah];refine⟨λX=>z _ _ ⟨Ext.refl _,true,rfl,λ_ I=>by have:=I.1;omega,λ_=>rfl⟩,λY=>?_⟩;refine (Bl h).mono ?_;rintro _ w2 _ ⟨rfl,a⟩;refine z _ _ ⟨a,_,rfl,?_⟩;rw[decide_eq_true_eq];exact⟨λs I=>s I.2,λs I=>s ⟨Ω,I⟩⟩
structure Cj where
 ac:Λ
 k:Int
 o:Int
 D:Told
instance Q7:aj Cj where
 n:=1
 rep _ _ R w cs a:=∃g m sv gs,cs=[Γ g]/\fH w g m sv gs a.ac a.k a.o a.D/\R g/\R m/\ ∀r,leads sv r->R r
 len:=by rintro _ _ _ _ _ _ ⟨_,_,_,_,rfl,_⟩;rfl
 one:=by rintro _ _ _ _ _ _ ⟨_,_,_,_,rfl,_⟩ u hu;simp at hu;subst hu;rfl
 U:=by
  rintro _ _ R T w w' _ a ⟨g,m,sv,gs,rfl,h1,f,h,j⟩ z p;obtain⟨q,s,x⟩:=h1.qg;exact⟨g,m,sv,gs,rfl,h1.U z (p g q (.inr f)) (p m s (.inr h)) λr e=>p r (x r e) (.inr (j r e)),f,h,j⟩
 mono:=by
  rintro _ _ _ R R' w _ a ⟨g,m,sv,gs,rfl,h1,f,h,j⟩ _ y;obtain⟨q,s,x⟩:=h1.qg;exact⟨g,m,sv,gs,rfl,h1,y g q f,y m s h,λr e=>y r (x r e) (j r e)⟩
 hM:=by
  rintro _ _ R w _ a ⟨g,m,sv,gs,rfl,h1,f,h,j⟩;exact⟨g,m,sv,gs,rfl,h1,.inr f,.inr h,λr e=>.inr (j r e)⟩
abbrev hb:Type:=Rd (Λ)×Cj
def qA (k:Int) (x:ch) (f:hb):Prop:=f.1=x.scope/\f.2.ac=x.sizes/\f.2.k=k/\f.2.o=min x.other k/\f.2.D.length<=x.lines.length/\ ∀t,ii f.2.D f.2.o t=jM x k t
theorem LK {m:Bool} {S R:af} {x:ch} (h:aj.rep m S R w cs (ha x)):∃aD szv b6,cs=[aD,szv,Δ x.other,b6]/\aj.rep (α:=Λ) false bC R w [aD] x.scope/\aj.rep (α:=Λ) false bC R w [szv] x.sizes/\aj.rep (α:=List (Λ×Int)) false bC R w [b6] x.lines:=by
 obtain⟨c1,d1,p,fo,rfl,_,_,_,h1,c2,d2,q,gw,rfl,_,_,_,a,j,d3,r,s,rfl,_,_,_,f,e⟩:=h;have h1:aj.rep (α:=Λ) false bC R w c1 x.scope:=h1;have a:aj.rep (α:=Λ) false bC R w c2 x.sizes:=a;have f:j=[Δ x.other]:=f;have e:aj.rep (α:=List (Λ×Int)) false bC R w d3 x.lines:=e;obtain⟨u,rfl⟩:=V2.1 (show c1.length=1 from aj.len h1);obtain⟨v,rfl⟩:=V2.1 (show c2.length=1 from aj.len a);obtain⟨y,rfl⟩:=V2.1 (show d3.length=1 from aj.len e);subst f;exact⟨u,v,y,rfl,h1,a,e⟩
theorem LL {m:Bool} {S R:af} {p:Λ×Int} (h:aj.rep m S R w cs p):∃aL,cs=[aL,Δ p.2]/\aF .i64 w aL p.1:=by
 obtain⟨c1,d1,e,fo,rfl,_,_,_,h1,a⟩:=h;obtain⟨u,rfl⟩:=V2.1 (show c1.length=1 from aj.len h1);have a:d1=[Δ p.2]:=a;subst a;exact⟨u,rfl,cN h1⟩
structure s6 (k:Int) (x:ch):Prop where
 k:right k
 sizes:b2 x.sizes
 other:0<=x.other
 lines:mA x.sizes x.lines
 len:x.lines.length<=60000
 scope:x.scope.length<=100001
theorem du {k:o6} (h:aF k w v l):∃a n c,v= .slice a n c:=by
 obtain⟨_,b,o,base,cap,rfl,_⟩:=h;exact⟨_,_,_,rfl⟩
theorem LM {ak:Nat} {aN aP aQ:x1} {K:Int} {R:af} {x:ch} (al:aa w ak cD [aN,Δ K,aP,aQ]) (aR:Seen R w cs (ha x)) (aS:s6 K x):
  ai x7 uV [Γ ak,.agg cs.toArray] w λv w'=>Ext w w'/\ ∃bI,∃f:hb,v= .agg bI.toArray/\bI.length=2/\Seen (eI w.heap.size) w' bI f/\qA K x f:=by
 obtain⟨aD,szv,b6,rfl,h1,an,Q⟩:=LK aR;obtain⟨H,S,bm,ao,bo,bp⟩:=aS;have br:x.sizes.length<=6:=S.1;refine aw func86 ?_;refine bn λam J bx aq q=>?_;have q:aa J am b5 [aD,szv,Δ x.other,b6]:=by
  obtain⟨_,_,_,rfl⟩:=lW h1;obtain⟨_,_,_,rfl⟩:=lW an;obtain⟨_,_,_,rfl⟩:=lW Q;exact q
 refine bt cE.i λy w2 bz V I=>?_;have I:aa w2 y cE [.slice ν 0 0,.pointer ν]:=I;intro bA L _ _;have W:=(aq.trans V).trans L;have X:=V.trans L;have bB:=aq.size;have bD:=V.size;have z3:=L.size;have bE:=I.lt;have au:=al.ext W;rw[az b5.p 1 (q.ext X) rfl,aO cD.p 1 au rfl,
  az b5.p 2 (q.ext X) rfl,aO cD.p 1 au rfl,kU]
 refine (s5 ((cN an).ext W) Ω).mono ?_;rintro bF bG _ ⟨z,bJ,bK,aT⟩;refine⟨.inl z,?_⟩;have z4:=z.size;have aU:cv (min x.other K) K:=⟨H,by have:=H.1;omega,Ω⟩;refine (LJ aT.ls).mono ?_;rintro _ aV _ ⟨M,_,_,aW⟩;obtain⟨ad,m,sv,gs,rfl,bL,bM,av,aX⟩:=aW S aU;rw[bu,bw];have z5:=M.size;have Y:=(W.trans z).trans M;have ax:=(X.trans z).trans M;rw[az b5.p 3 (q.ext ax) rfl];have ay:=bd Q Y;rw[fC iC.u ay];refine ci.range x.lines.length (λi a=>ae (λr=>r=m) aV a/\ ∃D,D.length<=i/\fH a ad m sv gs x.sizes K (min x.other K) D/\ ∀t,ii D (min x.other K) t=ld x K i t) (nx ay) ⟨ae.refl _ _,[],o4 _,aX,λt=>by rw[B8];rfl⟩ ?_ ?_
 .rintro i a aY hi ⟨e,D,aA,A,Z⟩ aZ;obtain⟨p,ab⟩:=aE (l:=x.lines) hi;have aB:=ao.2 p (x5 ab);have B:Ext w a:=Y.put e Ω;have a1:=e.size;have a2:aj.rep (α:=List (Λ×Int)) false bC R a [b6] x.lines:=bd Q B;refine bH Ω ?_;refine jI ec.p rfl iC.u ec.i a2 ab λbN a6=>?_;obtain⟨aL,rfl,aC⟩:=LL a6;refine bt ec.i λbO bP bQ aF a7=>?_;have bR:=aF.size;refine bT (vs:=[aL,Δ p.2]) ec.i rfl rfl (by intro v C;simp at C;rcases C with rfl|rfl<;>first|exact aC.cells.2|rfl) a7 λa8 ba bS aG=>?_;have bb:Ext a a8:=aF.put ba Ω;intro bV ac _ _;have s:=bb.trans ac;have z9:=s.size;rw[az ec.p 0 (aG.ext ac) rfl,az ec.p 1 (aG.ext ac) rfl,aO cD.p 1 ((al.ext B).ext s) rfl,kU];have bW:=vG S aB.1;refine (s5 (aC.ext s) Ω).mono ?_;rintro bX bY _ ⟨E,bZ,b0,bc⟩;refine⟨.inl E,?_⟩;have b1:=E.size;refine (Bt (c:=min p.2 K) ((A.ext s).ext E).is bc.ls).mono ?_;rintro _ b2 _ ⟨_,be⟩;have bf:cv (min p.2 K) K:=⟨H,by have:=H.1;omega,Ω⟩;obtain⟨rfl,aH,D',aI,aJ⟩:=be ⟨aB.1,bf⟩;rw[aM];refine aZ _ ⟨(e.trans ((s.trans E).U _)).trans aH,D',by have:=aI.2;omega,fH.put ((A.ext s).ext E) aH aJ,λt=>?_⟩;rw[Ca ao.1 ab,aI.cost A.is.nodup aJ.nodup];by_cases N:t=p.1
  .rw[if_pos N,if_pos N]
  .rw[if_neg N,if_neg N,Z]
 .rintro a aY ⟨e,D,aA,A,Z⟩;have B:Ext w a:=Y.put e Ω;have bg:Ext J a:=ax.put e Ω;have a1:=e.size;refine ca Ω ?_;rw[az b5.p 0 (q.ext bg) rfl];refine (s5 ((cN h1).ext B) Ω).mono ?_;rintro O b3 _ ⟨P,bh,b4,G⟩;have z12:=P.size;rw[dq (cs:=#[O,Γ ad]) (by obtain⟨_,_,_,rfl⟩:=du G.ls;kernel_rfl)];have bi:Ext w2 a:=((L.trans z).trans M).put e Ω;refine bT (vs:=[O,Γ ad]) cE.i rfl rfl (by intro v C;simp at C;rcases C with rfl|rfl<;>first|exact G.ls.cells.2|rfl) ((I.ext bi).ext P) λaK ah b7 bj=>?_;rw[fB cE.p cE.i rfl bj.range];have bk:fH aK ad m sv gs x.sizes K (min x.other K) D:=(A.ext P).U ah (λhe=>by have he:ad=y:=he;omega) (λhe=>by have he:m=y:=he;omega) (λr j he=>by have he:r=y:=he;have:=av r j;omega);have bl:ap .i64 ag aK bh O x.scope:=bq G ah λr j he=>by have he:r=y:=he;have:=(bU G j).1;omega
  refine⟨(B.trans P).put ah Ω,_,(x.scope,⟨x.sizes,K,min x.other K,D⟩),rfl,rfl,?_,rfl,rfl,rfl,rfl,aA,λt=>?_⟩
  .exact⟨[O],[Γ ad],bC,bC,rfl,λ_ h=>h,λ_ h=>h,λ_ _ h _=>h,qw bl λr j=>by have:=(bU G j).1;show w.heap.size<=r;omega,
    ⟨ad,m,sv,gs,rfl,bk,by show w.heap.size<=ad;omega,by show w.heap.size<=m;omega,λr j=>by have:=av r j;show w.heap.size<=r;omega⟩⟩
  .rw[Z,B9]
theorem LN {S R:af} {f:hb} (h:aj.rep false S R w cs f):aj.rep (α:=hb) true bC R w cs f:=by
 obtain⟨c,d,A,B,rfl,h1,j,_,a,e⟩:=h;exact⟨c,d,bC,bC,rfl,λ_ h=>h,λ_ h=>h,λ_ _ h _=>h,a,e⟩
def s7 (k:Int) (a:List ch) (e:List hb):Prop:=e.length=a.length/\ ∀ (i:Nat) x f,a[i]? =σ x->e[i]? =σ f->qA k x f
theorem LO {e:Nat} {m:Bool} {S R:af} {W al:x1} {K:Int} {q:List ch} {aC:x3->Prop} (aD:aa w e cD [W,Δ K,szv,.slice ν 0 0])
  (aV:aj.rep m S R w [al] (show List hC from q.map ha)) (aW:∀r,S r\/R r->r≠e) (aX:∀x∈q,s6 K x) (bQ:q.length<=256)
  (aY:∀w' z,∀s:List hb,ae (λr=>r=e) w w'->aa w' e cD [W,Δ K,szv,z]->Seen (λr=>w.heap.size<=r) w' [z] s->s7 K q s->aC w'):
  ci (Δ 0) w λan E aZ=>
   V x7 (aJ .lss ag false false an (Δ (q.length:Int))) E λa1=>
   Split a1 (V x7 (c8 je al an) E λa2=>
   V x7 (u5 b5 a2) E λa6=>
   av x7 (S0 b5 true (.tuple #[])) E λx a7=>
   av x7 (o5 b5 x a6) a7 λ(_:Unit) a8=>
   ei a8 λC=>
   V x7 (bN (Γ e)) C λG=>
   V x7 (u6 cD G 3) C λH=>
   V x7 (u5 dJ H) C λao=>
   V x7 (u5 b5 x) C λba=>
   ai x7 uV [(Γ e),ba] C λbb I=>
    (Ext C I\/b4 x7 (u5 dJ H) ao I/\b4 x7 (u6 cD G 3) H I/\b4 x7 (bN (Γ e)) G I/\True)/\
   av x7 (Y4 dJ 1 #[(0,bb)]) I λbc L=>
    (Ext C L\/b4 x7 (u5 dJ H) ao L/\b4 x7 (u6 cD G 3) H L/\b4 x7 (bN (Γ e)) G L/\True)/\
    av x7 (b9 #[dJ,dJ] dJ #[ao,bc]) L λbe ap=>
     V x7 (bN (Γ e)) ap λbf=>
     V x7 (u6 cD bf 3) ap λbg=>
     av x7 (o5 dJ bg be) ap λ(_:Unit) aF=>
     V x7 (aJ .add ag false true an (Δ 1)) aF λbh=>
   aZ bh aF) (aC E):=by
 have bR:=aD.lt;have bS:(q.map ha).length=q.length:=Ξ
 refine ci.range q.length (λi J=>ae (λr=>r=e) w J/\ ∃z,∃s:List hb,∃A R':af,aa J e cD [W,Δ K,szv,z]/\bj A R' J [z] s/\(∀r,A r->w.heap.size<=r/\r<J.heap.size)/\(∀r,R' r->w.heap.size<=r/\¬A r/\r<J.heap.size)/\s7 K (q.take i) s) Ω
  ⟨ae.refl _ _,_,[],bC,bC,aD,gk,λ_ h=>h.elim,λ_ h=>h.elim,rfl,λi x f h=>by simp at h⟩ ?_ ?_
 rotate_left
 .rintro J bi ⟨M,z,s,A,R',N,aq,B,O,X⟩;rw[o7] at X;rw[aQ,ah];refine⟨λh=>Ω,λ_=>aY J z s M N (nv aq λr _ h=>?_) X⟩;exact h.elim (λh=>(B r h).1) λh=>(O r h).1
 rintro i J bi hi ⟨M,z,s,A,R',N,aq,B,O,aG,X⟩ bk;obtain⟨x,au⟩:=aE (l:=q) hi;have bl:=aX x (x5 au);have bU:=M.size;rw[j5] at aG;have bm:aj.rep m S R J [al] (show List hC from q.map ha):=aj.U aV M λr _ h he=>aW r h he;refine bH Ω ?_;refine jI (α:=hC) (a:=ha x) b5.p rfl je.u b5.i bm (by show (q.map ha)[i]? =_;rw[x8,au];rfl) λcs aw=>?_;have aH:cs.length=4:=aj.len aw;have bn:Seen (λr=>S r\/R r) J cs (ha x):=nv aw λr _ h=>h;refine bt b5.i λam w2 bV aI bp=>?_;have bX:=aI.size;refine bT (vs:=cs) b5.i aH rfl (aj.one aw) bp λbq br bY bu=>?_;have bw:Ext J bq:=aI.put br Ω;intro Y aK _ _;have P:=bw.trans aK;have z4:=P.size;rw[aO cD.p 3 (N.ext P) rfl,bx b5.p b5.i aH (bu.ext aK).range];refine (LM (N.ext P) (bd bn P) bl).mono ?_;rintro _ Z _ ⟨ab,bI,f,rfl,bZ,aL,bz⟩;have z5:=ab.size;refine⟨.inl ab,?_⟩;have aN:=LN aL;have bA:=P.trans ab;refine iH (α:=hb) (a:=f) (cs:=bI) (A:=bC) (R:=eI Y.heap.size) dJ.u cE.i Φ (by
  obtain⟨c,d,b0,gw,he,_,_,_,ac,bB⟩:=aL;have ac:aj.rep (α:=Λ) false bC _ Z c f.1:=ac;obtain⟨u,rfl⟩:=V2.1 (show c.length=1 from aj.len ac);obtain⟨b1,cm,b2,b3,rfl,_⟩:=bB;obtain⟨_,_,_,rfl⟩:=lW ac;cases he;rfl) aN λu ax ad _ hu=>?_
 have b6:=ad.size;refine⟨.inl (ab.trans ad),?_⟩;have ay:=bA.trans ad;have bD:bj A (λr=>R' r\/(Y.heap.size<=r/\r<Z.heap.size)) ax [z] s:=bd (aj.mono aq (λ_ _ h=>h) λ_ _ h=>.inl h) ay;have bE:bj bC (λr=>R' r\/(Y.heap.size<=r/\r<Z.heap.size)) ax bI f:=bd (aj.mono aN (λ_ _ h=>h) λr y h=>.inr ⟨h,y⟩) ad;refine nz (α:=hb) (a:=f) (A:=bC) dJ.u cE.i rfl bD hu bE (λr _ aR h=>?_) Ω Ω λaS bF az aA=>?_
 .rcases h with h|h|h
  .exact h
  .exact (O r h).2.1 aR
  .have:=(B r aR).2;omega
 have b7:=aA.size;rw[bW,aP cD.p rfl];have bG:=(N.ext ay).U aA (λhe=>by have:=(B _ he).1;omega);refine bo (g:=e) (o:=3) dJ.i (kW az) (e4 az) bG Ξ λbJ aT b8 aB=>?_;have aB:aa bJ e cD [W,Δ K,szv,aS]:=aB;rw[aM];have bK:=mp az;refine bk _ ⟨(hy (M.trans (ay.U _)) aA λr y he=>by have:=(B _ he).1;omega).trans aT,aS,s++[f],λr=>((A r\/bC r\/ax.heap.size<=r)/\r<bF.heap.size),λr=>R' r\/(Y.heap.size<=r/\r<Z.heap.size),aB,aj.U bK aT λr _ h he=>?_,λr y=>?_,λr y=>?_,?_,λj bL bM ak Q=>?_⟩
 .have he:r=e:=he;rcases h with h|h|h
  .rcases h.1 with h1|h1|h1
   .have:=(B _ h1).1;omega
   .exact h1
   .omega
  .have:=(O r h).1;omega
  .omega
 .have ca:=y.2;rcases y.1 with h1|h1|h1
  .have:=(B _ h1).1;omega
  .exact h1.elim
  .omega
 .rcases y with y|y
  .have aU:=O r y;refine⟨aU.1,λh=>?_,Ω⟩;rcases h.1 with h1|h1|h1
   .exact aU.2.1 h1
   .exact h1
   .omega
  .refine⟨Ω,λh=>?_,Ω⟩;rcases h.1 with h1|h1|h1
   .have:=(B _ h1).2;omega
   .exact h1
   .omega
 .rw[p8,j5,aG];simp;omega
 .have bO:=(x4.1 Q).1;rw[p8,U3] at bO;rw[X4 Ω] at ak;by_cases bP:j<s.length
  .rw[Y8 bP] at Q;exact X j bL bM (by rw[X4 Ω];exact ak) Q
  .rw[X1 Ω,show j-s.length=0 by omega] at Q;rw[show j=i by omega,au] at ak;cases Q;cases ak;exact bz
def lf (w:x3) (h:Nat) (f:bZ):Prop:=∃szv a gz,∃e:List hb,aa w h cD [bR f.name,Δ f.k,szv,a]/\ap .i64 ag w gz szv f.sizes/\Seen ek w [a] e/\s7 f.k f.funs e
theorem lf.ext {e:Nat} {f:bZ} (h:lf w e f) (a:Ext w w'):lf w' e f:=by
 obtain⟨szv,j,gz,p,h1,q,r,s⟩:=h;exact⟨szv,j,gz,p,h1.ext a,q.ext a,bd r a,s⟩
def Ck (w:x3) (res:Option bZ) (v:x1) (w':x3):Prop:=Ext w w'/\match res with
 |none=>∃n e:Int,v= .tuple #[.pointer ν,Δ n,Δ e]/\e≠0
 |some f=>∃a,∃n:Int,v= .tuple #[Γ a,Δ n,Δ 0]/\lf w' a f
structure LP (clean:Bool) (so:Option aA) (name:Λ) (k:Int) (sizes:Λ) (acc:List hC) (res:Option bZ):Prop where
 oY:∀s,so=σ s->s.toks=[]->clean=true->s.big=false-> ∃fs,acc=fs.map ha/\res=σ ⟨name,k,sizes,fs⟩/\(∀x∈fs,s6 k x)/\fs.length<=256/\sizes.length<=1000000
 bad:res≠ν-> ∃s,so=σ s/\s.toks=[]/\clean=true/\s.big=false
theorem LQ {w0:x3} {g:Nat} {A B S R:af} {m:Bool} {so:Option aA} {name:Λ} {acc:List hC} {res:Option bZ} {ap p:x1} {pl:Λ} {Q:x1->x3->Prop}
  (aD:gZ w g gs A B clean so) (N:LP clean so name k sizes acc res) (bl:aF .i64 w szv sizes) (bm:∀r,leads szv r->r≠g/\r≠gs) (bo:aj.rep m S R w [ap] acc) (a1:∀r,S r\/R r->r≠g/\r≠gs/\r<w.heap.size)
  (cY:so=ν->True) (cZ:g<w.heap.size) (c0:gs<w.heap.size) (bp:ae (λr=>w0.heap.size<=r) w0 w) (c3:w0.heap.size<=g) (c4:w0.heap.size<=gs) (bq:aF .u8 w0 p pl)
  (Z:∀v w',Ck w0 res v w'->Q v w'):
  cr (α:=x3->Prop) (λ(j:x3)=>
  V x7 (bN (Γ g)) j λbr=>
  V x7 (u6 cg br 1) j λbt=>
  V x7 (u6 eV bt 0) j λbu=>
  V x7 (u5 jD bu) j λbw=>
  V x7 (aJ .neq jD false true bw (Δ 0)) j λbx=>
  Split bx (ei j λG=>
   V x7 (bN (Γ g)) G λbz=>
   V x7 (u6 cg bz 1) G λbA=>
   V x7 (u6 eV bA 2) G λbB=>
   V x7 (u5 ag bB) G λbC=>
   V x7 (bN (Γ g)) G λbD=>
   V x7 (u6 cg bD 1) G λbF=>
   V x7 (u6 eV bF 0) G λbG=>
   V x7 (u5 jD bG) G λbH=>
   Q (.tuple #[(.pointer ν),bC,bH]) G)
   (V x7 (bN (Γ g)) j λbI=>
   V x7 (u6 cg bI 1) j λbJ=>
   V x7 (u6 eV bJ 1) j λbK=>
   V x7 (u5 jD bK) j λbL=>
   V x7 (aJ .neq jD false true bL (Δ 0)) j λbM=>
   Split bM (ei j λH=>
   V x7 (bN (Γ g)) H λbP=>
   V x7 (u6 cg bP 1) H λbQ=>
   V x7 (u6 eV bQ 3) H λbS=>
   V x7 (u5 ag bS) H λbT=>
   V x7 (bN (Γ g)) H λbU=>
   V x7 (u6 cg bU 1) H λbV=>
   V x7 (u6 eV bV 1) H λbX=>
   V x7 (u5 jD bX) H λbY=>
   Q (.tuple #[(.pointer ν),bT,bY]) H)
   (ai x7 y3 [szv] j λb0 a2=>
  V x7 (Instr.build cD #[(0,bR name),(1,Δ k),(2,b0)]) a2 λb1=>
  av x7 (Instr.box cD b1) a2 λO a6=>
  V x7 (V3 #[je] ag #[ap]) a6 λb2=>
  ci (Δ 0) a6 λaE P b3=>
   V x7 (aJ .lss ag false false aE b2) P λb6=>
   Split b6 (V x7 (c8 je ap aE) P λb7=>
   V x7 (u5 b5 b7) P λb8=>
   av x7 (S0 b5 true (.tuple #[])) P λx ca=>
   av x7 (o5 b5 x b8) ca λ(_:Unit) cb=>
   ei cb λM=>
   V x7 (bN O) M λab=>
   V x7 (u6 cD ab 3) M λac=>
   V x7 (u5 dJ ac) M λaG=>
   V x7 (u5 b5 x) M λcc=>
   ai x7 uV [O,cc] M λcd ad=>
    (Ext M ad\/b4 x7 (u5 dJ ac) aG ad/\b4 x7 (u6 cD ab 3) ac ad/\b4 x7 (bN O) ab ad/\True)/\
   av x7 (Y4 dJ 1 #[(0,cd)]) ad λce ak=>
    (Ext M ak\/b4 x7 (u5 dJ ac) aG ak/\b4 x7 (u6 cD ab 3) ac ak/\b4 x7 (bN O) ab ak/\True)/\
    av x7 (b9 #[dJ,dJ] dJ #[aG,ce]) ak λch aH=>
     V x7 (bN O) aH λcj=>
     V x7 (u6 cD cj 3) aH λck=>
     av x7 (o5 dJ ck ch) aH λ(_:Unit) a7=>
     V x7 (aJ .add ag false true aE (Δ 1)) a7 λcl=>
   b3 cl a7)
    (V x7 (V3 #[cP] ag #[p]) P λcm=>
  Q (.tuple #[O,cm,(Δ 0)]) P)))) λaq=>
 ai x7 kP [(Γ g)] w λcn al=>
 Split cn (V x7 (bN (Γ g)) al λcp=>
  V x7 (u6 cg cp 0) al λcq=>
  V x7 (u5 rX cq) al λct=>
  ai x7 uU [ct] al λaI L=>
  V x7 (Z8 aI 0) L λc5=>
  V x7 (Z8 aI 1) L λa8=>
  V x7 (Z8 aI 2) L λaK=>
  V x7 (aJ .eql jD false true aK (Δ 0)) L λcu=>
  Split cu (ai x7 nk [(Γ g),(Δ 4),a8] L λc6 cw=>
  aq cw)
  (V x7 (aJ .eql jD false true aK (Δ 11)) L λcz=>
  Split cz (ai x7 nk [(Γ g),aK,a8] L λc7 cA=>
   aq cA)
   (aq L)))
  (aq al):=by
 refine dm (λj=>ae (λr=>r=g\/r=gs) w j/\ ∃ (e big I K told:Int) (sv:x1),aa j g cg (fF gs e big I K told sv)/\((e≠0/\res=ν)\/(e=0/\ ∃s,so=σ s/\s.toks=[]/\clean=true/\(s.big=true↔big≠0)))) ?_ ?_
 rotate_left
 .intro au aL;refine (BT aD).mono ?_;rintro _ J _ ⟨rfl,am⟩;cases so with
  |none=>
   rw[show (ν:Option aA).isSome=false from rfl,aW];obtain⟨e,big,I,K,told,sv,y,aM⟩:=aD.ext am;refine aL _ ⟨am.U _,e,big,I,K,told,sv,y,.inl ⟨aM,?_⟩⟩;cases E:res with
   |none=>rfl
   |some f=>obtain⟨s,h,_⟩:=N.bad (by rw[E];simp);cases h
  |some s=>
   rw[show (σ s:Option aA).isSome=true from rfl,bO];have cB:di J g gs A B s clean:=aD.ext am;obtain⟨aw,cC,cE,big,I,K,told,sv,y,aM,cF⟩:=id cB;rw[aO cg.p 0 y rfl];refine (qd cC).mono ?_;rintro v w2 _ ⟨W,X⟩;have cG:(s.toks≠[]\/clean=false)->res=ν:=λq=>by
    cases E:res with
    |none=>rfl
    |some f=>
     obtain⟨s',h,an,ba,_⟩:=N.bad (by rw[E];simp);cases h;rcases q with q|q
     .exact absurd an q
     .rw[q] at ba;cases ba
   have ax:∀z,ae (λr=>r=g) w2 z->ez z g gs A B->(s.toks≠[]\/clean=false)->au z:=λz ao ax q=>by
    obtain⟨_,e,big,I,K,told,sv,l,cH,cI,_⟩:=ax;exact aL _ ⟨((am.U _).trans (W.mono λr _ h=>.inr h)).trans (ao.mono λr _ h=>.inl h),e,big,I,K,told,sv,cH,.inl ⟨cI.1,cG q⟩⟩
   have aN:=y.U W aw.1;have bb:=aj.U cF W λr _ h an=>by
    have an:r=gs:=an;subst an;rcases h with h|h
    .exact aw.2.2.1 h
    .exact h.1 (.inr (.inl rfl))
   have bc:s.shared.length<=100000:=by have:=cE.2.2;omega
   cases Y:s.toks with
   |cons t l=>
    rw[Y] at X;obtain⟨c9,n,rfl⟩:=X;rw[hR,hS,hT,bi,ah];refine⟨λ_=>?_,λh=>absurd rfl h⟩;refine (sB (aw.U W) aN bb Ω bc).mono ?_;rintro _ z _ ⟨ao,aQ⟩;exact ax z ao aQ (.inl (by rw[Y];simp))
   |nil=>
    rw[Y] at X;obtain⟨n,rfl⟩:=X;rw[hR,hS,hT,bi,ah];refine⟨λh=>by cases clean<;>simp at h,λ_=>?_⟩;rw[bi,ah];cases ay:clean with
    |true=>
     subst ay;refine⟨λh=>by simp at h,λ_=>aL _ ⟨(am.U _).trans (W.mono λr _ h=>.inr h),0,big,I,K,told,sv,aN,.inr ⟨rfl,s,rfl,Y,rfl,aM.1⟩⟩⟩
    |false=>
     subst ay;refine⟨λ_=>?_,λh=>absurd rfl h⟩;refine (sB (aw.U W) aN bb Ξ bc).mono ?_;rintro _ z _ ⟨ao,aQ⟩;exact ax z ao aQ (.inr rfl)
 .rintro J ⟨az,e,big,I,K,told,sv,y,cJ⟩;have da:=az.size;have aR:Ext w0 J:=(bp.ext λr E h=>Ω).then az (λr E h=>by rcases h with h|h<;>omega);rw[bW,aP cg.p rfl,aP eV.p rfl,aB Ψ (y.cell (o:=0+1+0) rfl),bE,ah];rcases cJ with⟨he,aS⟩|⟨rfl,s,rfl,Y,ay,be⟩
  .refine⟨λ_=>?_,λh=>absurd he h⟩;intro w2 C _ _;rw[bW,aP cg.p rfl,aP eV.p rfl,aB Ψ ((y.ext C).cell (o:=0+1+2) rfl),bW,aP cg.p rfl,aP eV.p rfl,aB Ψ ((y.ext C).cell (o:=0+1+0) rfl)];rw[aS] at Z;exact Z _ _ ⟨aR.trans C,I,e,rfl,he⟩
  .refine⟨λh=>absurd rfl h,λ_=>?_⟩;rw[bW,aP cg.p rfl,aP eV.p rfl,aB Ψ (y.cell (o:=0+1+1) rfl),bE,ah];refine⟨λq=>?_,λq=>?_⟩
   .have aS:res=ν:=by
     cases E:res with
     |none=>rfl
     |some f=>
      obtain⟨s',h,_,_,bf⟩:=N.bad (by rw[E];simp);cases h;rw[be.2 q] at bf;cases bf
    intro w2 C _ _;rw[bW,aP cg.p rfl,aP eV.p rfl,aB Ψ ((y.ext C).cell (o:=0+1+3) rfl),bW,aP cg.p rfl,aP eV.p rfl,aB Ψ ((y.ext C).cell (o:=0+1+1) rfl)];rw[aS] at Z;exact Z _ _ ⟨aR.trans C,K,big,rfl,q⟩
   .have cK:s.big=false:=by
     cases cL:s.big with
     |false=>rfl
     |true=>exact absurd (be.1 cL) q
    obtain⟨aT,rfl,rfl,cM,cN,cO⟩:=N.oY s rfl Y ay cK;have cQ:aF .i64 J szv sizes:=hV bl az λr E a n c X N=>by
     have:=bm r ⟨a,n,c,X,N⟩;exact E.elim this.1 this.2
    refine (s5 cQ cO).mono ?_;rintro aU w2 _ ⟨C,gz,db,aV⟩;have dc:=C.size;rw[dq (cs:=#[bR name,Δ k,aU,.slice ν 0 0]) (by obtain⟨_,_,_,rfl⟩:=du aV.ls;kernel_rfl)];refine bn λaY z dd aZ aC=>?_;have aC:aa z aY cD [bR name,Δ k,aU,.slice ν 0 0]:=by obtain⟨_,_,_,rfl⟩:=du aV.ls;exact aC
    have bg:aj.rep m S R z [ap] (show List hC from aT.map ha):=bd (bd (aj.U bo az λr _ h he=>by have:=a1 r h;exact he.elim this.1 this.2.1) C) aZ;have cR:(aT.map ha).length=aT.length:=Ξ
    rw[fC je.u bg,cR];refine LO aC bg (λr h=>by have:=a1 r h;omega) cM cN λbh cS cT cU cV cW cX=>?_;have de:=aC.lt;have z3:=aZ.size;have bj:Ext w2 bh:=aZ.then cU (λr E h=>by have h:r=aY:=h;omega);have bk:Ext w0 bh:=(aR.trans C).trans bj;rw[aX cP.u (bq.ext bk)];exact Z _ _ ⟨bk,aY,_,rfl,aU,cS,gz,cT,cV,aV.ext bj,gK cW,cX⟩
theorem Cl {α:Type} {f:List α->aA->Option (α×aA)} {acc:List α} {s:aA}:fm f (n+1) acc (σ s)=match f acc s with
  |none=>ν
  |some (a,s')=>fm f n (acc++[a]) (σ s'):=by
 show cK f (n+1) acc s=_;simp only[cK];cases f acc s<;>rfl
theorem LR {g:Nat} {A B:af} {s:Option aA} {most:Int} {O:x1->x3->Prop} (h:dt w g gs A B clean s) (ay:(N:Int)<=ao)
  (P:∀szv w' l so gz,ae (bG g gs A) w w'->dt w' g gs A B clean so->ap .i64 ak w' gz szv l->w.heap.size<=gz->l.length<=100001->(∀q,fm (e5 most) N [] s=σ q->so=σ q.2/\l=q.1)->(fm (e5 most) N [] s=ν->so=ν)->O szv w'):
 bY (.slice ν 0 0) (Δ 0) w λsizes i E k=>
  cr (α:=x1->x3->Prop) (λ(az:x1) (Q:x3)=>
   Split az (ai x7 nj [Γ g,(Δ 1),Δ most] Q λR x=>
  V x7 (Z8 R 0) x λS=>
  V x7 (Z8 R 1) x λaB=>
  V x7 (aJ .gtr ak false true S (Δ 32)) x λaC=>
  ai x7 pO [Γ g,aC,aB] x λbl aD=>
  av x7 (Y4 an 1 #[(0,S)]) aD λaE aF=>
  av x7 (b9 #[an,an] an #[sizes,aE]) aF λaG W=>
  V x7 (aJ .add ak false true i (Δ 1)) W λaH=>
  k aG aH W) (O sizes Q)) λau=>
  V x7 (aJ .lss ak false false i (Δ (N:Int))) E λaI=>
  Split aI (ai x7 kP [Γ g] E λaK aL=>
  au aK aL)
   (au (.bool false) E):=by
 obtain⟨bm,X,bn,aN,aO⟩:=h.side;have ad:∀r,bG g gs A r->r<w.heap.size:=aN;unfold ao at ay;generalize aP:fm (e5 most) N [] s=Y at P;refine⟨λout G J=>∃ (i:Nat) (l:Λ) (so:Option aA) (gz:Nat),G=Δ (i:Int)/\i<=N/\ae (bG g gs A) w J/\ap .i64 ak J gz out l/\w.heap.size<=gz/\dt J g gs A B clean so/\Y=fm (e5 most) (N-i) l so/\l.length<=100001/\ ∀st,so=σ st->l.length+st.toks.length<=100000,
  λ_ G _=>N-(b1 G).toNat,⟨0,[],s,w.heap.size,rfl,X8 _,ae.refl _ _,ap.nil _ _ _ _,o4 _,h,aP.symm,Ξ,λst aR=>?_⟩,?_⟩
 .subst aR;have:=h.words;simpa using this
 rintro out _ J ⟨i,l,so,gz,rfl,bo,H,Z,aS,aa,y,aU,ab⟩;refine aT (λv ac=>Ext J ac/\((v= .bool true/\i<N/\ ∃st,so=σ st)\/(v= .bool false/\(so=ν\/i=N)))) ?_ ?_
 rotate_left
 .intro au I;rw[aQ,ah];refine⟨λaV=>?_,λbp=>I _ _ ⟨Ext.refl _,.inr ⟨rfl,.inr Ω⟩⟩⟩;refine (o3 aa).mono ?_;rintro _ ac _ ⟨rfl,ag⟩;cases so with
  |none=>exact I _ _ ⟨ag,.inr ⟨rfl,.inl rfl⟩⟩
  |some st=>exact I _ _ ⟨ag,.inl ⟨rfl,Ω,st,rfl⟩⟩
 rintro _ w2 ⟨p,aX⟩;have aj:=Z.ext p;have al:=aa.ext p;rcases aX with⟨rfl,aV,st,rfl⟩|⟨rfl,aY⟩
 rotate_left
 .rw[aW];have am:Y=so.map λst=>(l,st):=by
   rcases aY with rfl|rfl
   .exact y
   .rw[U7] at y;rw[y];cases so<;>rfl
  refine P out w2 l so gz (H.trans (p.U _)) al aj aS aU (λq f=>?_) λaq=>?_
  .rw[am] at f;cases so with
   |none=>cases f
   |some st=>cases f;exact⟨rfl,rfl⟩
  .rw[am] at aq;cases so with
   |none=>rfl
   |some st=>cases aq
 rw[bO];have ab:=ab st rfl;refine (lV (s:=σ st) al).mono ?_;rintro _ br _ ⟨K,z,at_,rfl,aZ,bt⟩;obtain⟨L,a1⟩:=K.of;rw[bu,bw,bS];refine (qu a1).mono ?_;rintro _ bx _ K;obtain⟨M,a2⟩:=K.of;refine ej an.u ak.i rfl λa ga a6 bz C a7=>?_;have bA:=H.size;have bB:=p.size;have z3:=L.size;have z4:=M.size;have z5:=C.size;have aw:∀r,leads out r->¬bG g gs A r:=λr j a8=>by have:=ad r a8;have:=(bU Z j).1;omega
 have ba:=bq (bq aj L aw) M aw;refine jj an.u ak.i rfl (ba.ext C) a7.ls Θ Θ λbC bd be bD bf ax=>?_;rw[aM,wrap_i64 Ω Ω];have bg:ae (bG g gs A) w a6:=((((H.trans (p.U _)).trans L).trans M).trans (C.U _));have bh:ae (bG g gs A) w be:=hy bg ax λr j he=>by have he:r=gz:=he;omega
 have bi:∀r,bG g gs A r->¬(λr=>r=gz) r:=λr j he=>by have:=ad r j;have he:r=gz:=he;omega
 have bj:∀r,cG g gs A B r->¬(λr=>r=gz) r:=λr j he=>by have:=aO r j.2;have he:r=gz:=he;omega
 refine⟨⟨i+1,l++[z],_,bd,rfl,Ω,bh,bf,Ω,(a2.ext C).U ax bi bj,?_,Θ,λbE bk=>?_⟩,by simp only[b1];omega⟩
 .rw[y,show N-i=(N-(i+1))+1 by omega,Cl];unfold e5;cases f:bc 1 most st with
  |none=>have e:bb 1 most (σ st)=ν:=f;rw[e];rfl
  |some q=>
   have e:bb 1 most (σ st)=σ q:=f;have:=aZ q e;subst this;rw[e];rfl
 .obtain⟨bF,X,rfl⟩:=X3.1 bk;obtain⟨q,f,rfl⟩:=X3.1 X;have h1:=(de (n:=q.1) (s':=q.2) f).1;simp only[p8,U3];show l.length+1+q.2.toks.length<=100000;omega
theorem LS {acc:List (Λ×Int)} {s s':aA} {a:Λ×Int} (h:dT sizes acc s=σ (a,s')):s'.told=s.told/\s'.big=s.big:=by
 obtain⟨_,_,_,e⟩:=nN h;exact⟨e.eqs.1,e.eqs.2.1⟩
theorem LU {s s':aA} {l:List (Λ×Int)} (hi:dU s) (h:dB sizes s=σ (l,s')):dU s'/\(s.big=true->s'.big=true):=by
 have e:=BQ sizes (σ s);rw[show iQ sizes (σ s)=dB sizes s from rfl,h] at e;cases w:bb (-ao) ao (σ s) with
 |none=>rw[w] at e;cases e
 |some q=>
  obtain⟨n,p⟩:=q;rw[w] at e;simp only at e;have h1:=(de (n:=n) (s':=p) w).eqs;have y:dU p:=λj=>by rw[h1.1];rw[h1.2.1] at j;exact hi j
  split at e
  .cases I:p.shared[(-n-1).toNat]? with
   |none=>rw[I] at e;cases e
   |some q=>
    obtain⟨z,l'⟩:=q;rw[I] at e;simp only at e;split at e
    .cases e;exact⟨y,λj=>by rw[h1.2.1];exact j⟩
    .cases e
  .have:=iN (f:=dT sizes) (λacc t=>t.told=(jQ n p).told/\t.big=(jQ n p).big) (λacc t a bp ⟨x,r⟩ g=>by
    have:=LS g;exact⟨by rw[this.1,x],by rw[this.2,r]⟩) n.toNat [] _ l s' ⟨rfl,rfl⟩ e.symm
   obtain⟨⟨x,r⟩,_⟩:=this;refine⟨λj=>by rw[x];rw[r] at j;exact Ld n p j,λj=>?_⟩;rw[r];show (p.big||_)=true;rw[h1.2.1,j];rfl
theorem LV {s s':aA} {x:ch} (hi:dU s) (h:cY all s=σ (x,s')):dU s'/\s'.toks.length<s.toks.length:=by
 unfold cY at h;cases p:bc (-ao) ao s with
 |none=>rw[p] at h;cases h
 |some q=>
 obtain⟨a,E⟩:=q;rw[p] at h;simp only at h;have t0:=de p;cases h1:eR all.length a.natAbs E with
 |none=>rw[h1] at h;cases h
 |some q=>
 obtain⟨sc,f⟩:=q;rw[h1] at h;simp only at h;obtain⟨r,_⟩:=sy h1;generalize sc.map (λv=>all.getD v.toNat 0)=sizes at h;cases w:bc 0 ao (a6 (decide (6<a.natAbs)||dr sizes) f) with
 |none=>rw[w] at h;cases h
 |some q=>
 obtain⟨other,y⟩:=q;rw[w] at h;simp only at h;have z:=de w;have F:dU y:=λe=>by
  rw[z.eqs.1];rw[z.eqs.2.1] at e;have e:(f.big||_)=false:=e;have B:=(S7.1 e).1;show f.told<=16384;rw[r.eqs.1,t0.eqs.1];rw[r.eqs.2.1,t0.eqs.2.1] at B;exact hi B
 cases j:dB sizes y with
 |none=>rw[j] at h;cases h
 |some q=>
 obtain⟨lines,A⟩:=q;rw[j] at h;simp only[Y3,T2] at h;obtain⟨_,rfl⟩:=h;have G:=LU F j;have J:=BX j;have K:=t0.1;have L:=r.1;have M:f.toks.length=y.toks.length+1:=z.1;have C:∀t:aA,t.told=A.told/\t.big=A.big/\t.toks=A.toks->dU t/\t.toks.length<s.toks.length:=λt ⟨H,I,a3⟩=>⟨λe=>by rw[H];rw[I] at e;exact G.1 e,by rw[a3];omega⟩;split
 .exact C _ ⟨rfl,rfl,rfl⟩
 .exact C _ ⟨rfl,rfl,rfl⟩
theorem LW {S R:af} {x:hC} (h:aj.rep false S R w cs x):aj.rep (α:=hC) true bC R w cs x/\(x1.agg cs.toArray).cells=cs.toArray:=by
 obtain⟨c1,d1,p,fo,rfl,_,_,_,h1,c2,d2,q,gw,rfl,_,_,_,a,j,d3,r,s,rfl,_,_,_,f,e⟩:=h;have h1:aj.rep (α:=Λ) false bC R w c1 x.1:=h1;have a:aj.rep (α:=Λ) false bC R w c2 x.2.1:=a;have f:j=[Δ x.2.2.1]:=f;have e:aj.rep (α:=List (Λ×Int)) false bC R w d3 x.2.2.2:=e;refine⟨⟨c1,_,bC,bC,rfl,λ_ h=>h,λ_ h=>h,λ_ _ h _=>h,h1,c2,_,bC,bC,rfl,λ_ h=>h,λ_ h=>h,λ_ _ h _=>h,a,j,d3,bC,bC,rfl,λ_ h=>h,λ_ h=>h,λ_ _ h _=>h,f,e⟩,?_⟩;obtain⟨u,rfl⟩:=V2.1 (show c1.length=1 from aj.len h1);obtain⟨v,rfl⟩:=V2.1 (show c2.length=1 from aj.len a);obtain⟨y,rfl⟩:=V2.1 (show d3.length=1 from aj.len e);obtain⟨_,_,_,rfl⟩:=lW h1;obtain⟨_,_,_,rfl⟩:=lW a;obtain⟨_,_,_,rfl⟩:=lW e;subst f;rfl
theorem LX {w0:x3} {g c:Nat} {A B:af} {o:Option aA} {L:x1} {aD:x1->x3->Prop} (aE:gZ w g gs A B clean o) (hi:∀s,o=σ s->dU s) (bq:(c:Int)<=ao)
  (br:aF .i64 w L all) (aG:∀r,leads L r->r≠g/\r≠gs/\r<w.heap.size/\(o≠ν->¬A r)) (bt:o≠ν-> ∀z∈all,1<=z/\z<=ao) (bu:all.length<=100001) (bw:eX w) (h1:1<w0.heap.size/\(o≠ν->cG g gs A B 1))
  (aH:ae (λr=>w0.heap.size<=r) w0 w) (bx:w0.heap.size<=g) (bz:w0.heap.size<=gs) (cl:g<w.heap.size/\gs<w.heap.size) (bA:o≠ν-> ∀r,A r->w0.heap.size<=r)
  (aK:∀M w' acc so aI p aL aN,ae (λr=>w0.heap.size<=r) w0 w'->w.heap.size<=w'.heap.size->gZ w' g gs aI p clean so->aj.rep (α:=List hC) true aL aN w' [M] acc->(∀r,aL r\/aN r->r≠g/\r≠gs/\r<w'.heap.size)->aF .i64 w' L all->
   (∀q,fm (λ_ s=>cY all s) c [] o=σ q->so=σ q.2/\acc=q.1.map ha)->(fm (λ_ s=>cY all s) c [] o=ν->so=ν)->aD M w'):
 bY (.slice ν 0 0) (Δ 0) w λfuns aO al bB=>
  cr (α:=x1->x3->Prop) (λ(bD:x1) (aP:x3)=>
   Split bD (ai x7 y2 [Γ g,L] aP λbE bF=>
  av x7 (Y4 je 1 #[(0,bE)]) bF λbH bI=>
  av x7 (b9 #[je,je] je #[funs,bH]) bI λbJ aR=>
  V x7 (aJ .add ak false true aO (Δ 1)) aR λbK=>
  bB bJ bK aR) (aD funs aP)) λaS=>
  V x7 (aJ .lss ak false false aO (Δ (c:Int))) al λbL=>
  Split bL (ai x7 kP [Γ g] al λbM bN=>
  aS bM bN)
   (aS (.bool false) al):=by
 unfold ao at bq;generalize f:fm (λ_ s=>cY all s) c [] o=aU at aK;have aV:∀s,o=σ s->o≠ν:=λs h=>by rw[h];simp
 refine⟨λM am J=>∃ (i:Nat) (acc:List hC) (G:List ch) (so:Option aA) (y fo C N:af),am=Δ (i:Int)/\i<=c/\ae (λr=>w0.heap.size<=r) w0 J/\w.heap.size<=J.heap.size/\gZ J g gs y fo clean so/\aj.rep true C N J [M] acc/\
   aF .i64 J L all/\eX J/\aU=fm (λ_ s=>cY all s) (c-i) G so/\(∀r,C r->w.heap.size<=r/\r<J.heap.size)/\(∀r,N r->r≠g/\r≠gs/\¬C r)/\
   ∀s,so=σ s->acc=G.map ha/\dU s/\G.length+s.toks.length<=100000/\o≠ν/\(∀r,y r->A r\/w.heap.size<=r)/\(∀r,y r->w0.heap.size<=r)/\(∀r,B r->fo r)/\(∀r,C r->¬fo r/\¬y r)/\(∀r,N r->cG g gs y fo r),
  λ_ am _=>c-(b1 am).toNat,⟨0,[],[],o,A,B,bC,bC,rfl,X8 _,aH,o4 _,aE,gk,br,bw,f.symm,λ_ h=>h.elim,λ_ h=>h.elim,λs I=>⟨rfl,hi s I,?_,aV s I,λr e=>.inl e,bA (aV s I),λr e=>e,λ_ h=>h.elim,λ_ h=>h.elim⟩⟩,?_⟩
 .subst I;have an:di w g gs A B s clean:=aE;have:=an.2.1.words.1;simpa using this
 rintro M _ J ⟨i,acc,G,so,y,fo,C,N,rfl,cm,bP,cn,aX,bQ,ap,aY,Z,E,bR,aZ⟩;refine aT (λv a1=>Ext J a1/\((v= .bool true/\i<c/\ ∃st,so=σ st)\/(v= .bool false/\(so=ν\/i=c)))) ?_ ?_
 rotate_left
 .intro au aq;rw[aQ,ah];refine⟨λa2=>?_,λcp=>aq _ _ ⟨Ext.refl _,.inr ⟨rfl,.inr Ω⟩⟩⟩;refine (BT aX).mono ?_;rintro _ a1 _ ⟨rfl,a6⟩;cases so with
  |none=>exact aq _ _ ⟨a6,.inr ⟨rfl,.inl rfl⟩⟩
  |some st=>exact aq _ _ ⟨a6,.inl ⟨rfl,Ω,st,rfl⟩⟩
 rintro _ w2 ⟨K,bS⟩;have cq:=K.size;have S:=aX.ext K;have a7:=bd bQ K;have a8:ae (λr=>w0.heap.size<=r) w0 w2:=bP.trans (K.U _);rcases bS with⟨rfl,a2,st,rfl⟩|⟨rfl,bT⟩
 rotate_left
 .rw[aW];have ba:aU=so.map λst=>(G,st):=by
   rcases bT with rfl|rfl
   .exact Z
   .rw[U7] at Z;rw[Z];cases so<;>rfl
  refine aK M w2 acc so y fo C (λr=>N r/\r<w2.heap.size) a8 Ω S (aj.mono a7 (λ_ _ h=>h) λr e h=>⟨h,e⟩) (λr e=>?_) (ap.ext K) (λq H=>?_) λbb=>?_
  .rcases e with e|e
   .have:=E r e;exact⟨Ω,Ω,Ω⟩
   .have:=bR r e.1;exact⟨this.1,this.2.1,e.2⟩
  .rw[ba] at H;cases so with
   |none=>cases H
   |some st=>cases H;exact⟨rfl,(aZ _ rfl).1⟩
  .rw[ba] at bb;cases so with
   |none=>rfl
   |some st=>cases bb
 rw[bO];obtain⟨rfl,bc,ct,aa,be,aw,bf,ab,bg⟩:=aZ st rfl;have S:di w2 g gs y fo st clean:=S;obtain⟨cu,cw,cz,cA,cB⟩:=S.1;have bU:=h1.2 aa;have bh:cG g gs y fo 1:=⟨λf=>by
  rcases f with f|f|f
  .omega
  .omega
  .have:=aw 1 f;omega,bf 1 bU.2⟩
 have bi:∀r,leads L r->¬bG g gs y r/\r<w2.heap.size:=λr e=>by
  obtain⟨bV,bW,bX,bZ⟩:=aG r e;refine⟨λf=>?_,Ω⟩;rcases f with f|f|f
  .exact bV f
  .exact bW f
  .rcases be r f with h|h
   .exact bZ aa h
   .omega
 refine (Lo S bc (ap.ext K) bi (bt aa) bu (aY.ext K) bh).mono ?_;rintro _ b0 _ ⟨aI,p,cs,ax,rfl,cC,W,X,ay,bk,bl,b2,b3⟩;have z3:=W.size;obtain⟨bm,b4⟩:=LW b2;refine iH (α:=hC) (a:=ax) (cs:=cs) (A:=bC) (R:=cG g gs aI p) je.u b5.i Φ b4 bm λu ac O _ hu=>?_;have z4:=O.size;have b6:∀r,r<w2.heap.size->C r\/N r->¬bG g gs y r:=λr e h f=>by
  rcases h with h|h
  .have j:=E r h;rcases f with f|f|f
   .omega
   .omega
   .exact (ab r h).2 f
  .exact (bg r h).1 f
 have b7:∀r,r<w2.heap.size->cG g gs y fo r->cG g gs aI p r:=λr e h=>⟨λf=>h.1 (f.imp id (Or.imp id λf=>(X r f).elim id λh'=>Ω)),bk r h.2⟩;have b8:bj C (cG g gs aI p) ac [M] (G.map ha):=bd (aj.U (aj.mono (S':=C) (R':=λr=>cG g gs aI p r/\N r) a7 (λ_ _ h=>h) λr e h=>⟨b7 r e (bg r h),h⟩) W λr e h=>b6 r e (h.imp id λh=>h.2) |> λh=>h) O |> λh=>aj.mono h (λ_ _ h=>h) λ_ _ h=>h.1;have ad:∀r,C r->¬p r:=λr h ag=>by
  have j:=E r h;rcases (ay r ag).1 with P|P
  .exact (ab r h).1 P
  .have az:=(E r h).2;omega
 have cD:(G.map ha).length=G.length:=Ξ
 refine nz (α:=hC) (a:=ax) (A:=bC) je.u b5.i rfl b8 hu (bd bm O) (λr _ ca h=>?_) Ω Ω λcE Q cb Y=>?_
 .rcases h with h|h
  .exact h
  .exact ad r ca h.2
 have z5:=Y.size;rw[aM,wrap_i64 Ω Ω];have cc:ae (λr=>w0.heap.size<=r) w0 ac:=(a8.trans (W.mono λr _ f=>by
  rcases f with rfl|rfl|f
  .exact bx
  .exact bz
  .exact aw r f)).trans (O.U _)
 have z0:=aH.size;have cd:ae (λr=>w0.heap.size<=r) w0 Q:=cc.trans (Y.mono λr _ h=>by have:=(E r h).1;omega);have ce:aF .i64 ac L all:=(hV (ap.ext K) W λr e a n c aB aC=>(bi r ⟨a,n,c,aB,aC⟩).1 e).ext O;have cg:aF .i64 Q L all:=hV ce Y λr e a n c aB aC=>by
  have bX:=(aG r ⟨a,n,c,aB,aC⟩).2.2.1;have:=(E r e).1;omega
 have ci:eX Q:=(((aY.ext K).U W bh.1).ext O).U Y λh=>by have:=(E 1 h).1;omega
 have bn:gZ Q g gs aI p clean ((cY all st).map (·.2)):=by
  refine gZ.U (bl.ext O) Y (λh=>by have:=E _ h;omega) (λr e cF h=>?_) (λr e h=>ad r h e.2);have j:=E r h;rcases e with rfl|rfl|e
  .omega
  .omega
  .rcases X r e with P|P
   .exact (ab r h).2 P
   .omega
 have cj:=mp cb;refine⟨⟨i+1,(G.map ha)++[ax],G++((cY all st).map (·.1)).toList,(cY all st).map (·.2),aI,p,λr=>(C r\/bC r\/ac.heap.size<=r)/\r<Q.heap.size,cG g gs aI p,rfl,Ω,cd,Ω,bn,cj,cg,ci,?_,λr e=>⟨?_,e.2⟩,λr e=>⟨λh=>e.1 (.inl h),λh=>e.1 (.inr (.inl h)),λh=>?_⟩,λs' ck=>?_⟩,by simp only[b1];omega⟩
 .rw[Z,show c-i=(c-(i+1))+1 by omega,Cl];cases H:cY all st with
  |none=>rfl
  |some q=>rfl
 .rcases e.1 with h|h|h
  .exact (E r h).1
  .exact h.elim
  .omega
 .rcases h.1 with j|j|j
  .exact ad r j e.2
  .exact j
  .have:=(ay r e.2).2;omega
 .obtain⟨q,H,rfl⟩:=X3.1 ck;have j:=LV (s':=q.2) (x:=q.1) bc H;have P:=b3 q H;refine⟨?_,j.1,?_,aa,λr e=>?_,λr e=>?_,λr e=>bk r (bf r e),λr e=>⟨λag=>?_,λbo=>?_⟩,λr e=>e⟩
  .rw[H,P];simp
  .rw[H];simp only[Z6,o8,p8,U3];omega
  .rcases X r e with h|h
   .exact be r h
   .exact .inr Ω
  .rcases X r e with h|h
   .exact aw r h
   .omega
  .rcases e.1 with j|j|j
   .exact ad r j ag
   .exact j
   .have:=(ay r ag).2;omega
  .have cH:gZ Q g gs aI p clean ((cY all st).map (·.2)):=bn;have bp:=bl;rw[H] at bp;have an:di b0 g gs aI p q.2 clean:=bp;have a2:=an.1.2.2.2.1 r (.inr (.inr bo));rcases e.1 with j|j|j
   .rcases X r bo with az|az
    .exact (ab r j).2 az
    .have:=(E r j).2;omega
   .exact j
   .omega
theorem dU.num {lo hi n:Int} {s s':aA} (e:dU s) (h:bc lo hi s=σ (n,s')):dU s':=λa=>by
 have h1:=(de h).eqs;rw[h1.1];rw[h1.2.1] at a;exact e a
theorem dU.big {b:Bool} {s:aA} (h:dU s):dU (a6 b s):=λa=>by
 have a:(s.big||b)=false:=a;exact h (S7.1 a).1
theorem dU.word {w:Λ} {s s':aA} (h:dU s) (hw:dK s=σ (w,s')):dU s':=λa=>by
 have h1:=(qe hw).2;rw[h1] at a ⊢;exact h a
theorem LY {most:Int} {s s':aA} (hi:dU s) (hm:most<=ao) (h:cK (e5 most) N [] s=σ (l,s')):dU s'/\(∀z∈l,1<=z/\z<=ao)/\l.length+s'.toks.length<=s.toks.length:=by
 have:=iN (f:=e5 most) (λacc t=>dU t/\(∀z∈acc,1<=z/\z<=ao)/\acc.length+t.toks.length<=s.toks.length) (λacc t a bp ⟨h1,p,y⟩ g=>by
  unfold e5 at g;cases e:bc 1 most t with
  |none=>rw[e] at g;cases g
  |some q=>
   obtain⟨z,r⟩:=q;rw[e] at g;simp only[Y3,T2] at g;obtain⟨rfl,rfl⟩:=g;have A:=(hX e).1;have B:=(de e).1;refine⟨(h1.num e).big,λx j=>?_,?_⟩
   .rcases l9.1 j with j|j
    .exact p x j
    .rw[n9.1 j];omega
   .simp only[p8,U3];show acc.length+1+r.toks.length<=_;omega) N [] s l s' ⟨hi,λz w=>(by cases w),Ξ⟩ h
 exact this.1
theorem LZ {s0:aA} {name:Λ} {n most cnt:Int} {so6:Option aA}
  (h1:∀q,dK s0=σ q->name=q.1)
  (p:∀q,bb 1 ao (((dK s0).map (·.2)).map (a6 (decide (64<(name.length:Int)))))=σ q->n=q.1)
  (j:∀q,bb 1 ao (((bb 1 ao (((dK s0).map (·.2)).map (a6 (decide (64<(name.length:Int)))))).map (·.2)).map (a6 (decide (64<n))))=σ q->most=q.1)
  (h:∀q,bb 0 ao ((bb 1 ao (((bb 1 ao (((dK s0).map (·.2)).map (a6 (decide (64<(name.length:Int)))))).map (·.2)).map (a6 (decide (64<n))))).map (·.2))=σ q->cnt=q.1)
  (f:∀q,bb 1 ao (((bb 0 ao ((bb 1 ao (((bb 1 ao (((dK s0).map (·.2)).map (a6 (decide (64<(name.length:Int)))))).map (·.2)).map (a6 (decide (64<n))))).map (·.2))).map (·.2)).map (a6 (decide (256<cnt))))=σ q->k=q.1)
  (e:∀q,fm (e5 most) n.toNat [] (((bb 1 ao (((bb 0 ao ((bb 1 ao (((bb 1 ao (((dK s0).map (·.2)).map (a6 (decide (64<(name.length:Int)))))).map (·.2)).map (a6 (decide (64<n))))).map (·.2))).map (·.2)).map (a6 (decide (256<cnt))))).map (·.2)).map (a6 (decide (2147483648<k))))=σ q->so6=σ q.2/\sizes=q.1)
  (a:fm (e5 most) n.toNat [] (((bb 1 ao (((bb 0 ao ((bb 1 ao (((bb 1 ao (((dK s0).map (·.2)).map (a6 (decide (64<(name.length:Int)))))).map (·.2)).map (a6 (decide (64<n))))).map (·.2))).map (·.2)).map (a6 (decide (256<cnt))))).map (·.2)).map (a6 (decide (2147483648<k))))=ν->so6=ν):
  gY s0=(fm (λ_ s=>cY sizes s) cnt.toNat [] so6).map λq=>((⟨name,k,sizes,q.1⟩:bZ),q.2):=by
 unfold gY;cases z:dK s0 with
 |none=>
  rw[z] at a;rw[a rfl];rfl
 |some L=>
 obtain⟨Z,M⟩:=L;rw[z] at h1 p j h f e a;have:=h1 _ rfl;subst this;have N:decide (64<(name.length:Int))=decide (64<name.length):=by rw[U1,decide_eq_true_eq,decide_eq_true_eq];omega
 rw[N] at p j h f e a;simp only[Z6] at p j h f e a ⊢;generalize a6 (decide (64<name.length)) M=w at*;cases A:bc 1 ao w with
 |none=>
  rw[show bb 1 ao (σ w)=ν from A] at a;rw[a rfl];rfl
 |some O=>
 obtain⟨P,B⟩:=O;rw[show bb 1 ao (σ w)=σ (P,B) from A] at p j h f e a;have:=p _ rfl;subst this;simp only[Z6] at j h f e a ⊢;generalize a6 (decide (64<n)) B=x at*;cases C:bc 1 ao x with
 |none=>
  rw[show bb 1 ao (σ x)=ν from C] at a;rw[a rfl];rfl
 |some Q=>
 obtain⟨R,r⟩:=Q;rw[show bb 1 ao (σ x)=σ (R,r) from C] at j h f e a;have:=j _ rfl;subst this;simp only[Z6] at h f e a ⊢;cases E:bc 0 ao r with
 |none=>
  rw[show bb 0 ao (σ r)=ν from E] at a;rw[a rfl];rfl
 |some S=>
 obtain⟨T,F⟩:=S;rw[show bb 0 ao (σ r)=σ (T,F) from E] at h f e a;have:=h _ rfl;subst this;simp only[Z6] at f e a ⊢;generalize a6 (decide (256<cnt)) F=y at*;cases G:bc 1 ao y with
 |none=>
  rw[show bb 1 ao (σ y)=ν from G] at a;rw[a rfl];rfl
 |some U=>
 obtain⟨V,H⟩:=U;rw[show bb 1 ao (σ y)=σ (V,H) from G] at f e a;have:=f _ rfl;subst this;simp only[Z6] at e a ⊢;generalize a6 (decide (2147483648<k)) H=W at*;cases J:cK (e5 most) n.toNat [] W with
 |none=>
  rw[a J];rfl
 |some X=>
 obtain⟨aa,K⟩:=X;obtain⟨I,Y⟩:=e _ J;subst Y;rw[I];simp only;show _=U6 _ (cK (λ_ s=>cY sizes s) cnt.toNat [] K);cases cK (λ_ s=>cY sizes s) cnt.toNat [] K<;>rfl
theorem L0 {f:bZ} (a:e6 N f) (q:N<=60000):∀x∈f.funs,s6 f.k x:=λx h=>by
 obtain⟨h1,j,r⟩:=a.funs x h;refine⟨a.k,⟨?_,λz e=>?_⟩,h1.other,h1.lines,by have:=h1.len;omega,Ω⟩
 .rw[h1.sizes,u7];exact j
 .rw[h1.sizes] at e;obtain⟨v,p,rfl⟩:=l7.1 e;have:=h1.scope.2 v p;refine a.sizes.2.2 _ ?_;rw[u4,x6 Ω];exact Q4 _
theorem L1 {p:x1} {pl:Λ} (Q:aF .u8 w p pl) (aJ:Bytes pl) (bK:pl.length<=60000) (ac:eX w):ai x7 Gb [p] w (Ck w (fh pl)):=by
 have aK:1<w.heap.size:=by
  have:=ac 0 (.int .u64 1) rfl;obtain⟨c,e,f,aL,_⟩:=vb this;exact (j0.1 aL).1
 have bL:ao=4611686018427387904:=rfl;refine aw func34 ?_;rw[aX cP.u Q,bS,ah];refine⟨λh=>Ω,λ_=>?_⟩;refine (Ap Q aJ Ω).mono ?_;rintro _ J _ ⟨ad,gs,rfl,bM,aM,R⟩;rw[dq (cs:=#[Γ gs,Δ 0,Δ 0,Δ 0,Δ 0,Δ 0,.slice ν 0 0]) Ψ];refine bn λg w2 bN S ag=>?_;have bO:=ad.size;have bP:=S.size;have aN:=ag.lt;have bQ:gs<J.heap.size:=R.2.2.2.1.lt;have bR:=oL _ pl (o4 _);let s0:aA:=⟨(lex pl).1,0,false,[]⟩;let B0:af:=λr=>r<J.heap.size;have aO:di w2 g gs bC B0 s0 (lex pl).2:=by
  refine⟨⟨Ω,λh=>h,λh=>h,λr j=>?_,λr j=>by have j:r<J.heap.size:=j;omega⟩,⟨aM,pl,0,R.ext S,λr j=>?_,by rw[List.drop_zero]⟩,⟨by show (0:Int)<=0;omega,by show (0:Int)<=ao;omega,by show (([]:List (Λ×List (Λ×Int))).length+(lex pl).1.length<=100000);simp;omega⟩,0,0,0,0,.slice ν 0 0,ag,⟨by simp[s0],λ_=>rfl⟩,gk (α:=iO)⟩
  .rcases j with rfl|rfl|j
   .exact aN
   .omega
   .exact j.elim
  .obtain⟨_,_,_,L,bm,hm⟩:=R;have G:=bU hm j;have H:=cd hm L Φ j;exact⟨λB=>by
    rcases B with B|B|B
    .omega
    .exact H B
    .exact B,by show r<J.heap.size;omega⟩
 have V:∀r,bG g gs bC r->w.heap.size<=r:=λr j=>by
  rcases j with rfl|rfl|j
  .omega
  .omega
  .exact j.elim
 refine (A7 aO).mono ?_;rintro _ bT _ ⟨A,name,bV,rfl,bW,bX,aP⟩;obtain⟨aQ,aR⟩:=fQ.of A;rw[bu,bw,nF c4.u,bS];refine (qu aR).mono ?_;rintro _ bY _ A;obtain⟨aS,aT⟩:=A.of;refine (lV (lo:=1) (hi:=ao) aT).mono ?_;rintro _ b0 _ ⟨A,n,b1,rfl,aj,aU⟩;obtain⟨aV,aW⟩:=A.of;rw[bu,bw,bS];refine (qu aW).mono ?_;rintro _ b2 _ A;obtain⟨aY,aZ⟩:=A.of;refine (lV (lo:=1) (hi:=ao) aZ).mono ?_;rintro _ b3 _ ⟨A,most,b4,rfl,ak,a1⟩;obtain⟨a2,a7⟩:=A.of;rw[bu,bw];refine (lV (lo:=0) (hi:=ao) a7).mono ?_;rintro _ b5 _ ⟨A,cnt,b6,rfl,al,a8⟩;obtain⟨ba,bc⟩:=A.of;rw[bu,bw,bS];refine (qu bc).mono ?_;rintro _ b7 _ A;obtain⟨bd,be⟩:=A.of;refine (lV (lo:=1) (hi:=ao) be).mono ?_;rintro _ b8 _ ⟨A,k,b9,rfl,hk,ca⟩;obtain⟨bf,bg⟩:=A.of;rw[bu,bw,bS];refine (qu bg).mono ?_;rintro _ am _ A;obtain⟨bh,W⟩:=A.of;have an:ae (bG g gs bC) w2 am:=(((((((aQ.trans aS).trans aV).trans aY).trans a2).trans ba).trans bd).trans bf).trans bh;have X:∀ {lo:Int} {o:Option aA} {x:Int},0<=lo->lo<=1->(∀q,bb lo ao o=σ q->x=q.1)->(bb lo ao o=ν->x=0)->0<=x/\x<=ao:=λ{lo o x} cb h1 I bi=>by
  cases a:bb lo ao o with
  |none=>rw[bi a];omega
  |some q=>
   have G:=mD (n:=q.1) (s':=q.2) a;rw[I q a];omega
 have cc:=X Ω Ω aj aU;have ce:=X Ω Ω al a8;have cg:=X Ω Ω ak a1;obtain⟨N,bj⟩:∃N:Nat,n=(N:Int):=⟨n.toNat,Ω⟩;obtain⟨C,bk⟩:∃C:Nat,cnt=(C:Int):=⟨cnt.toNat,Ω⟩;have bl:n.toNat=N:=Ω
 have bo:cnt.toNat=C:=Ω
 have bp:dU s0:=λ_=>by show (0:Int)<=16384;omega
 have M:∀ {o:Option aA} {b:Bool},(∀s,o=σ s->dU s)-> ∀s,o.map (a6 b)=σ s->dU s:=λh s I=>by
  obtain⟨t,Y,rfl⟩:=X3.1 I;exact (h t Y).big
 have O:∀ {o:Option aA} {lo hi:Int},(∀s,o=σ s->dU s)-> ∀s,(bb lo hi o).map (·.2)=σ s->dU s:=λ{o lo hi} h s I=>by
  obtain⟨q,a,rfl⟩:=X3.1 I;cases o with
  |none=>cases a
  |some t=>exact (h t rfl).num (n:=q.1) (s':=q.2) a
 have bq:∀s,(dK s0).map (·.2)=σ s->dU s:=λs I=>by
  obtain⟨q,a,rfl⟩:=X3.1 I;exact bp.word (w:=q.1) (s':=q.2) a
 have ap:=M (b:=decide (2147483648<k)) (O (lo:=1) (hi:=ao) (M (b:=decide (256<cnt)) (O (lo:=0) (hi:=ao) (O (lo:=1) (hi:=ao) (M (b:=decide (64<n)) (O (lo:=1) (hi:=ao) (M (b:=decide (64<(name.length:Int))) bq)))))));have y:=λ(sizes:Λ) (so6:Option aA)=>LZ (s0:=s0) (name:=name) (sizes:=sizes) (n:=n) (most:=most) (cnt:=cnt) (k:=k) (so6:=so6) aP aj ak al hk;rw[bl] at y;generalize ch:U6 (a6 (decide (2147483648<k))) (U6 (λx=>x.2) (bb 1 ao (U6 (a6 (decide (256<cnt))) (U6 (λx=>x.2) (bb 0 ao (U6 (λx=>x.2) (bb 1 ao (U6 (a6 (decide (64<n))) (U6 (λx=>x.2) (bb 1 ao (U6 (a6 (decide (64<(name.length:Int)))) (U6 (λx=>x.2) (dK s0)))))))))))))=aq at ap W y;rw[bj];refine LR (N:=N) (most:=most) W Ω λszv Z sizes so6 gz br au av ci bt ax ay=>?_;have y:=y sizes so6 ax ay;rw[bo] at y;have aa:ae (bG g gs bC) w2 Z:=an.trans br;have z12:=aa.size;have az:Ext w w2:=ad.trans S;have bx:ae (λr=>w.heap.size<=r) w Z:=(az.U _).trans (aa.mono λr _ h=>V r h);have cj:=au.side;have facts:∀K,so6=σ K->dU K/\(∀z∈sizes,1<=z/\z<=ao)/\sizes.length<=100000:=λK ab=>by
  cases a:fm (e5 most) N [] aq with
  |none=>rw[ay a] at ab;cases ab
  |some q=>
   obtain⟨G,H⟩:=ax q a;cases ab.symm.trans G;subst H;cases aq with
   |none=>cases a
   |some bz=>
    obtain⟨bA,bB,ck⟩:=LY (l:=q.1) (s':=q.2) (ap bz rfl) Ω a;exact⟨bA,bB,by have:=W.words;omega⟩
 rw[bk];have aB:∀r,leads szv r->am.heap.size<=r/\r<Z.heap.size:=λr j=>by have:=bU av j;omega
 have cl:=an.size;refine LX (w0:=w) (c:=C) (all:=sizes) au.q (λs I=>(facts s I).1) Ω av.ls (λr j=>?_) (λP=>?_) bt ((ac.ext az).U aa λB=>by have:=V 1 B;omega) ⟨aK,λ_=>⟨λB=>by have:=V 1 B;omega,by show 1<J.heap.size;omega⟩⟩
  bx Ω Ω ⟨Ω,Ω⟩ (λ_ r h=>h.elim) λcm cn acc so aI cp cq cr aC ct bD bE bF bH aD bI=>?_
 .have:=aB r j;exact⟨Ω,Ω,Ω,λ_ h=>h⟩
 .cases aE:so6 with
  |none=>exact absurd aE P
  |some K=>exact (facts K aE).2.1
 have cu:=aC.size;have E:fh pl=match gY s0 with
   |none=>ν
   |some (f,s)=>if s.toks=[]/\(lex pl).2=true/\s.big=false then σ f else ν:=by
  unfold fh;rw[if_neg Ω];have e:gY ⟨(lex pl).1,0,false,[]⟩=gY s0:=rfl;rw[e];cases gY s0<;>rfl
 refine LQ (w0:=w) (sizes:=sizes) (res:=fh pl) bD ⟨λs I Y bJ L=>?_,λP=>?_⟩ bH (λr j=>by have:=aB r j;exact⟨Ω,Ω⟩) bE bF (λ_=>trivial) Ω Ω aC Ω Ω Q λv w' h=>h
 .cases a:fm (λ_ s=>cY sizes s) C [] so6 with
  |none=>rw[bI a] at I;cases I
  |some q=>
   obtain⟨G,H⟩:=aD q a;cases I.symm.trans G;rw[a] at y;have y:gY s0=σ ((⟨name,k,sizes,q.1⟩:bZ),q.2):=y;have aG:=(A4 rfl y L).1;rw[y] at E;simp only at E;rw[if_pos ⟨Y,bJ,L⟩] at E;exact⟨q.1,H,E,L0 aG (by show (lex pl).1.length<=60000;omega),aG.k3,Ω⟩
 .cases a:fm (λ_ s=>cY sizes s) C [] so6 with
  |none=>
   rw[a] at y;have y:gY s0=ν:=y;rw[y] at E;exact absurd E P
  |some q=>
   obtain⟨G,H⟩:=aD q a;rw[a] at y;have y:gY s0=σ ((⟨name,k,sizes,q.1⟩:bZ),q.2):=y;rw[y] at E;simp only at E;by_cases aH:q.2.toks=[]/\(lex pl).2=true/\q.2.big=false
   .exact⟨q.2,G,aH⟩
   .rw[if_neg aH] at E;exact absurd E P
theorem vY (s t cs:Λ):∃e,oJ s t cs= .tuple #[Δ (ba s cs t),Δ e]:=by
 unfold oJ ba;cases cH s t 0 with
 |none=>exact⟨3,rfl⟩
 |some n=>exact⟨0,rfl⟩
theorem L2:ai x7 zi [sv] w λr w'=>Ext w w'/\ ∃g,r= .func (.func oB) #[] #[Γ g]/\w.heap.size<=g/\aa w' g al sv.cells.toList:=by
 refine aw func195 ?_;refine bn λg J f a e=>?_;rw[mm];exact⟨a,g,rfl,Ω,e⟩
theorem L3 {f:Q0} {cap:Array x1} {B:Nat->List x1->x3->Prop} {e:x3->Prop} {L:Λ} (P:ov x7 f cap.toList n B e) (C:∀k vs w,B k vs w-> ∃x,L[k]? =σ x/\vs=[Δ x])
  (he:∀a b,ae (λr=>w.heap.size<=r) a b->e a->e b) (Q:e w) (R:n=L.length) (an:L.length<=1000000):
  ai x7 G3 [.slice ν 0 0,.func (.func f) #[] cap] w λv w'=>Ext w w'/\ ∃g,w.heap.size<=g/\ap .i64 ag w' g v L:=by
 refine jg func111 ?_;refine bn λgs J ao E p=>?_;have p:aa J gs al [.slice ν 0 0]:=p;have aq:=p.lt;have G:∀ {a b:x3},Ext a b->e a->e b:=λj=>he _ _ (j.U _);refine lE.old ⟨Nat,false,f,cap,0,_,_,e,λk w'=>ae (λr=>w.heap.size<=r) w w'/\ ∃v g,gs<g/\aa w' gs al [v]/\ap .i64 ag w' g v (L.take k),λ_ _ _=>False,rfl,P.s,?_,λ_ _ j h=>G j h,
  λ_ _ _ j h=>⟨h.1.trans (j.U _),by obtain⟨v,g,h1,S,V⟩:=h.2;exact⟨v,g,h1,S.ext j,V.ext j⟩⟩,λ_ _ _ _ _ h=>h,G E Q,⟨E.U _,_,gs+1,Ω,p,ap.nil _ _ _ _⟩,?_,?_,λ_ _ h=>h.elim,λ_ _ _ h=>h.elim⟩
 .rintro k vs au w' ⟨_,_,h⟩;obtain⟨x,_,rfl⟩:=C k vs w' h;rfl
 .rintro a k _ w2 hW ⟨hk,rfl,X⟩ ⟨Y,v,g,Z,H,q⟩;obtain⟨x,j,ab⟩:=C k _ w2 X;cases ab;intro av y _ _;have I:=H.ext y;rw[aB Ψ (I.Qz rfl)];refine ej al.u ag.i rfl λa ga aw ax z ac=>?_;have ay:(L.take k).length<=1000000:=Θ
  refine jj al.u ag.i rfl ((q.ext y).ext z) ac.ls (by simp only[b8,List.length_nil];omega) (by simp only[b8,List.length_nil];omega) λad af az aA A K=>?_;have aC:=H.lt;have aD:=y.size;have aE:=z.size;refine bo al.i A.ls.cells.1 A.ls.cells.2 (((I.ext z).U K Ω)) Ξ λah M aF aj=>?_;have N:ae (λr=>w.heap.size<=r) w2 ah:=(((y.trans z).U _).trans (K.mono λr _ h=>by show w.heap.size<=r;omega)).trans (M.mono λr _ h=>by show w.heap.size<=r;omega);refine⟨he _ _ N hW,⟨Y.trans N,ad,af,Ω,aj,?_⟩,λh=>by cases h⟩;rw[u9,j];exact A.U M (λ_=>Ω)
 .rintro k aG hk ⟨ak,v,g,Z,am,q⟩;have hk:k=n:=hk;subst hk;rw[aB Ψ (am.Qz rfl)];intro aH O _;rw[R,o7] at q;exact⟨(ak.ext λr aI h=>by have:w.heap.size<=r:=h;omega).trans O,g,Ω,q.ext O⟩
theorem vZ {f:Q0} {cap:Array x1} {j:Nat->List x1->x3->Prop} {e:x3->Prop} {L:Λ} (p:ov x7 f cap.toList n j e) (q:∀k vs w,j k vs w-> ∃x,L[k]? =σ x/\vs=[Δ x])
  (he:∀a b,ae (λr=>w.heap.size<=r) a b->e a->e b) (s:e w) (y:n=L.length) (z:L.length<=1000000):
  ai x7 Gh [.func (.func f) #[] cap] w λv w'=>Ext w w'/\ ∃g,w.heap.size<=g/\ap .i64 ag w' g v L:=by
 refine aw func43 ?_;exact (L3 p q he s y z).mono λ_ _ _ h=>h
theorem L4 {x:Int}:ai x7 cmp_Less_int [Δ x,Δ y] w λv w'=>v= .bool (decide (x<y))/\Ext w w':=by
 refine aw func271 ?_;refine aT (λv J=>v= .bool (decide (x<y))/\Ext w J) (λ_ _ h=>h) λau a=>?_;have e:∀ {z:Int} {w:x3},ai x7 cmp_isNaN_int [Δ z] w λv w'=>v= .bool false/\Ext w w':=λ{z w}=>by
  refine aw func207 ?_;simp only[bE];exact⟨Ξ,Ext.refl _⟩
 refine e.mono ?_;rintro _ w2 _ ⟨rfl,f⟩;rw[aW];simp only[aQ];exact a _ _ ⟨rfl,f⟩
theorem L5 {P:W9} {t:r9} {cx cy:Bool} {k:o6} {a b:Int}:b4 P (aJ .sub t cx cy (.int k a) (.int k b)) (.int k (k.wrap (a-b))) w:=λw' _=>by simp[aJ,eqGuard,binOp,Op.intArith]
theorem L6 {g:Nat} (h:ap .i64 ag w g sv l) (am:l.length<=1000000):
  ai x7 IC [sv,Δ 0,Δ l.length] w λ_ w'=>ae (λr=>r=g) w w'/\ ∃m,m.Perm l/\m.Pairwise (·<= ·)/\ap .i64 ag w' g sv m:=by
 refine aw func265 ?_;simp only[aM];refine⟨λt J=>∃ (i:Nat) (m:Λ),t=Δ i/\1<=i/\(i<=l.length\/i=1)/\m.Perm l/\qc m i/\ae (λr=>r=g) w J/\ap .i64 ag J g sv m,λt _=>l.length+1-(b1 t).toNat,
  ⟨1,l,by congr 1,Ω,.inr rfl,.refl _,λp q x y h1 S=>Ω,ae.refl _ _,h⟩,?_⟩
 rintro _ J ⟨i,m,rfl,an,ao,z,I,K,hm⟩;have V:=z.length_eq;simp only[aQ,ah];refine⟨λW=>?_,λaq=>?_⟩
 .have W:i<l.length:=Ω
  refine⟨λt w2=>∃ (j:Nat) (m:Λ),t=Δ j/\j<=i/\m.Perm l/\oR m i j/\ae (λr=>r=g) w w2/\ap .i64 ag w2 g sv m,λt _=>(b1 t).toNat,⟨i,m,rfl,o4 _,z,JQ I,K,hm⟩,?_⟩;rintro _ w2 ⟨j,m,rfl,X,z,E,L,hm⟩;have V:=z.length_eq;refine aT (λv M=>Ext w2 M/\ ∃c,v= .bool c/\(c=true->0<j/\ ∃a b,m[j-1]? =σ a/\m[j]? =σ b/\b<a)/\(c=false->j=0\/0<j/\ ∃a b,m[j-1]? =σ a/\m[j]? =σ b/\a<=b)) ?_ ?_
  .rintro _ M ⟨B,c,rfl,Y,Z⟩;rw[b0];refine⟨λh=>?_,λh=>?_⟩
   .obtain⟨A,a,b,f,s,G⟩:=Y h;intro av N _ _;have C:=(hm.ext B).ext N;have e:X7.wrap ((j:Int)-1)=((j-1:Nat):Int):=by rw[wrap_i64 Ω Ω];omega
    simp only[dR,e];rw[be al.u ag.i Ψ C.ls f,be al.u ag.i Ψ C.ls s,iK rfl al.u ag.i C Ω];refine iL ag.i C Ω λaa ab ax O=>⟨.inr ⟨by have:=L5 (P:=x7) (w:=aa) (t:=ag) (cx:=false) (cy:=true) (k:=.i64) (a:=(j:Int)) (b:=1);rwa [e] at this,trivial⟩,?_⟩;rw[iK rfl al.u ag.i O Θ];refine iL ag.i O Θ λay ac az ad=>?_;refine⟨⟨j-1,_,rfl,Ω,(swap_perm Ω f s).trans z,JT E A X f s G,((L.trans ((B.trans N).U _)).trans ab).trans ac,ad⟩,?_⟩;simp only[b1];omega
   .simp only[aM];rw[wrap_i64 Ω Ω];refine⟨⟨i+1,m,rfl,Ω,.inl Ω,z,?_,L.trans (B.U _),hm.ext B⟩,?_⟩
    .rcases Z h with rfl|⟨A,a,b,f,s,G⟩
     .exact JR E
     .exact JS E A f s G
    .simp only[b1];omega
  .intro au Q aA H _ _;have R:=hm.ext H;simp only[bS,ah];refine⟨λA=>?_,λA=>Q _ _ ⟨H,false,rfl,(λh=>by cases h),λ_=>.inl Ω⟩⟩;have e:X7.wrap ((j:Int)-1)=((j-1:Nat):Int):=by rw[wrap_i64 Ω Ω];omega
   obtain⟨b,s⟩:=aE (l:=m) (i:=j) Ω;obtain⟨a,f⟩:=aE (l:=m) (i:=j-1) Ω;rw[be al.u ag.i Ψ R.ls s];simp only[dR,e];rw[be al.u ag.i Ψ R.ls f];refine L4.mono ?_;rintro _ aB _ ⟨rfl,af⟩;refine Q _ _ ⟨H.trans af,_,rfl,λh=>⟨Ω,a,b,f,s,by simpa using h⟩,λh=>.inr ⟨Ω,a,b,f,s,by simpa using h⟩⟩
 .refine⟨K,m,z,JU λp q x y h1 S aj ak=>I p q x y h1 Ω aj ak,hm⟩
theorem L7 {P:W9} {t:r9} {k:o6} {s:ByteArray} {i:Nat} {K:x1->Prop} (a:P.underlying t=σ .string) (hi:i<s.size) (e:∀b:Nat,b<256->K (.int .u8 b)):
  V P (Instr.index t (.string s) (.int k (i:Int))) w K:=by
 have f:s[i]? =σ s[i]:=by simp[hi]
 have:V P (Instr.index t (.string s) (.int k (i:Int))) w K=K (.int .u8 s[i].toNat):=V.of λw' _=>by
  simp[Instr.index,asIntOf,run_underlying a,hi]
 rw[this];exact e _ (UInt8.toNat_lt _)
theorem L8 (a:n<256):ai x7 H8 [.int .u64 (n:Int)] w λv w'=>(∃r,v=Δ r)/\Ext w w':=by
 refine aw func206 ?_;refine ai.mono (K:=λv w'=>(∃r,v=Δ r)/\Ext w w') ?_ (λ_ _ _ h=>h);refine aw func239 ?_;simp only[cr,cU,ah];refine⟨λh=>Ω,λ_=>⟨λh=>Ω,λ_=>⟨λh=>Ω,λ_=>?_⟩⟩⟩;rw[e3 fv.u cC.u,wrap_u8 Ω Ω];refine L7 c4.u (by exact Q2 a Φ) λb e=>?_;rw[e3 cC.u ag.u];simp only[aM];exact⟨⟨_,rfl⟩,Ext.refl _⟩
theorem L9 {g:Nat} (h:ap .i64 ag w g sv l) (f:l.length<=12):
  ai x7 Ik [sv] w λ_ w'=>ae (λr=>r=g) w w'/\ ∃m,m.Perm l/\m.Pairwise (·<= ·)/\ap .i64 ag w' g sv m:=by
 refine aw func225 ?_;rw[aX al.u h.ls,e3 ag.u oE.u,wrap_u64 Ω Ω];refine (L8 (n:=l.length) Ω).mono ?_;rintro _ J _ ⟨⟨r,rfl⟩,e⟩;refine ai.mono (K:=λ_ w'=>ae (λr=>r=g) J w'/\ ∃m,m.Perm l/\m.Pairwise (·<= ·)/\ap .i64 ag w' g sv m) ?_ (λ_ _ _ h=>⟨(e.U _).trans h.1,h.2⟩);refine aw func250 ?_;refine⟨λa b _ _ _ w2=>a=Δ 0/\b=Δ l.length/\J=w2,λ_ _ _ _ _ _=>0,⟨rfl,rfl,rfl⟩,?_⟩;rintro _ _ _ _ _ _ ⟨rfl,rfl,rfl⟩;simp only[dR,ml,ah];rw[wrap_i64 Ω Ω];refine⟨λ_=>?_,λh=>Ω⟩;refine (L6 (h.ext e) Ω).mono ?_;exact λ_ _ _ h=>h
theorem Ma {f:Q0} {cap:Array x1} {j:Nat->List x1->x3->Prop} {e:x3->Prop} {L:Λ} (p:ov x7 f cap.toList n j e) (q:∀k vs w,j k vs w-> ∃x,L[k]? =σ x/\vs=[Δ x])
  (he:∀a b,ae (λr=>w.heap.size<=r) a b->e a->e b) (s:e w) (y:n=L.length) (z:L.length<=12):
  ai x7 zh [.func (.func f) #[] cap] w λv w'=>Ext w w'/\ ∃g m,w.heap.size<=g/\m.Perm L/\m.Pairwise (·<= ·)/\ap .i64 ag w' g v m:=by
 refine aw func194 ?_;refine (vZ p q he s y Ω).mono ?_;rintro v J _ ⟨A,g,B,C⟩;refine (L9 C z).mono ?_;rintro _ w2 _ ⟨E,m,h1,G,H⟩;exact⟨A.then E (by rintro r I rfl;omega),g,m,B,h1,G,H⟩
theorem Cm {x:Int} (h:aF .i64 w sv l):
  ai x7 zj [sv,Δ x] w λv w'=>Ext w w'/\ ∃r:Int,v=Δ r/\ ∀i:Nat,l[i]? =σ x->(r=i↔ ∀j,j<i->l[j]? ≠σ x):=by
 refine aw func196 ?_;rw[aX al.u h];refine bY.range l.length (λi _ J=>Ext w J/\ ∀j,j<i->l[j]? ≠σ x) h.le ⟨Ext.refl _,λj p=>Ω⟩ ?_ ?_
 .rintro i _ J k hi ⟨a,e⟩ hk;simp only[aQ,ah];refine⟨λ_=>?_,λh=>Ω⟩;obtain⟨y,f⟩:=aE (l:=l) hi;rw[be al.u ag.i Ψ (h.ext a) f];simp only[bi,ah,aM];refine⟨λhe=>⟨a,i,rfl,λq s=>?_⟩,λhe=>hk _ _ ⟨a,λj p=>?_⟩⟩
  .subst he;refine⟨λB=>by
              have:i=q:=Ω
              subst this;exact e,λz=>?_⟩
   rcases Nat.lt_trichotomy i q with h1|h1|h1
   .exact absurd f (z i h1)
   .omega
   .exact absurd s (e q h1)
  .by_cases A:j=i
   .subst A;rw[f];intro h;exact he (c7 h).symm
   .exact e j Ω
 .rintro _ J k ⟨a,e⟩;simp only[aQ,ah];refine⟨λh=>Ω,λ_=>⟨a,-1,rfl,λi hi=>?_⟩⟩;exact absurd hi (e i (x4.1 hi).1)
theorem Mb {g:Nat} {w0:x3} (p:aa w0 g al [sv]) (e:aF .i64 w0 sv l):
  ov x7 oB [Γ g] l.length (λk vs _=>∃x,l[k]? =σ x/\vs=[Δ x]) (λw=>Ext w0 w):=by
 refine⟨oB.enters,λy au B w C _ q a r=>?_⟩;refine pT func226 ?_;rw[aB Ψ ((p.ext a).Qz rfl),aX al.u (e.ext a)];refine ci.range l.length (λi w2=>au i w2/\Ext w0 w2) e.le ⟨r,a⟩ ?_ ?_
 .rintro i w2 k hi ⟨f,j⟩ hk;simp only[aQ,ah];refine⟨λ_=>?_,λh=>Ω⟩;obtain⟨x,a⟩:=aE (l:=l) hi;rw[be al.u ag.i Ψ (e.ext j) a];refine⟨rfl,(q i _ w2 hi j ⟨x,a,rfl⟩ f).mono ?_⟩;rintro _ E (⟨rfl,s,z⟩|⟨rfl,A⟩)
  .simp only[bF,Y5,aW,aM];exact hk _ ⟨z.1,s⟩
  .simp only[bF,V0,bO];exact .inr ⟨i,hi,A⟩
 .rintro w2 k ⟨f,_⟩;simp only[aQ,ah];exact⟨λh=>Ω,λ_=>.inl f⟩
theorem v7 (h:aF .i64 w sv l) (j:l.length<=12)
  (p:∀v w' g m,Ext w w'->w.heap.size<=g->m.Perm l->m.Pairwise (·<= ·)->ap .i64 ag w' g v m->K v w'):
  ai x7 zi [sv] w λt J=>ai x7 zh [t] J K:=by
 refine L2.mono ?_;rintro _ J _ ⟨f,g,rfl,B,e⟩;have e:aa J g al [sv]:=by rw[h.cells.1] at e;exact e
 refine (Ma (Mb e (h.ext f)) (λ_ _ _ h=>h) (λa b q s=>s.then q (λr C h=>Ω)) (Ext.refl _) rfl j).mono ?_;rintro v w2 _ ⟨x,y,m,E,h1,z,A⟩;have:=f.size;exact p v w2 y m (f.trans x) Ω h1 z A
def Mc (w:x3) (ac:Λ) (k:Int) (cs a:Λ) (v:x1) (w':x3):Prop:=
 Ext w w'/\
  (¬Good a ac.length->v= .tuple #[.pointer ν,Δ 1])/\
  (Good a ac.length-> ∃e f h,v= .tuple #[Γ e,Δ 0]/\dd w' e f h (eo ac a) k (nM ac cs a))
theorem Md {g bH:Nat} {Y:x1} {cs z:Λ} (h:dd w g bH sv ac k cs) (hk:right k) (Q:aF .i64 w Y z) (cn:z.length<=12) (cp:Good z ac.length->aK (eo ac z)<=4096):
  ai x7 H1 [Γ g,Y] w (Mc w ac k cs z):=by
 have ay:=h;have cq:=h.2.2.1;have cr:=Q.cells;refine jg func197 ?_;refine bn λg1 J db bI C=>?_;refine bn λbJ w2 dc a1 A=>?_;have de:=bI.size;have df:=a1.size;have dh:=C.lt;have di:=A.lt;have a2:=bI.trans a1;have C:aa w2 g1 eQ [Γ g]:=C.ext a1;have A:aa w2 bJ al [Y]:=by rw[cr.1] at A;exact A
 rw[aB Ψ (C.Qz rfl),dp eQ.u];simp only[Z7,aW];rw[aB Ψ (A.Qz rfl)];have ct:=Q.ext a2;have sub:∀ {w:x3} {g:Nat} {sv:x1} {k:Int} {aY:x1},aa w g cX [sv,Δ k,aY]->w.rangeAt g (0+0) [sv]:=λL=>nC L (by
  intro j v a6
  match j,a6 with
  |0,a6=>exact a6)
 refine v7 ct cn λdL cu dg m bK dj a7 cw hm=>?_;have cz:=a7.length_eq;rw[aX al.u hm.ls];have cA:=a2.trans bK;refine ot.range m.length (λi _ _ a8=>Ext cu a8/\ ∀j,j<i->m[j]? =σ (j:Int)) Ω ⟨Ext.refl _,λj bb=>Ω⟩ ?_ ?_
 .rintro i _ _ a8 Z hi ⟨ab,bc⟩ ad;simp only[aQ,ah];refine⟨λ_=>?_,λh=>Ω⟩;obtain⟨y,af⟩:=aE (l:=m) hi;rw[be al.u ag.i Ψ (hm.ls.ext ab) af];simp only[bE,ah,aM];refine⟨λaj dk cB _=>⟨(cA.trans ab).trans cB,λ_=>rfl,λbd=>?_⟩,λhe=>ad _ _ _ ⟨ab,λj bb=>?_⟩⟩
  .have:=AN bd a7 cw i hi;rw[af] at this;exact absurd (c7 this).symm aj
  .by_cases cC:j=i
   .subst cC;rw[af];congr 1;omega
   .exact bc j Ω
 .rintro _ _ a8 Z ⟨ab,bc⟩;simp only[aQ,ah,ei];refine⟨λh=>Ω,λ_ dl cD _ _=>?_⟩;have E:Good z m.length:=JV bc a7;have am:=(bK.trans ab).trans cD;have az:=a2.trans am;have C:=C.ext am;have A:=A.ext am;have cE:=Q.ext az;have cF:=ay.ext az;have dm:=am.size;obtain⟨⟨aY,gs,L,aA,bL⟩,_⟩:=id cF;rw[aB Ψ (A.Qz rfl),aX al.u cE,aB Ψ (C.Qz rfl),bW,aP cX.p rfl,bx (cs:=[sv]) bA.p bA.i rfl (sub L)];refine (Be aA.ls).mono ?_;rintro _ aC _ ⟨rfl,M⟩;refine⟨.inl M,?_⟩;simp only[bE,ah];refine⟨λaj dn cG _=>⟨(az.trans M).trans cG,λ_=>rfl,λbd=>absurd (by rw[bd.1]) aj⟩,λdq=>?_⟩;have bf:z.length=ac.length:=Ω
  have E:Good z ac.length:=by rw[<-bf,<-cz];exact E
  have dr:=am.trans M;have bg:=az.trans M;have C:=C.ext M;have A:=A.ext M;have bM:=Q.ext bg;rw[aB Ψ (A.Qz rfl),aX al.u bM];refine kk al.u ag.i Ω Ω λgz bN ds R bO=>?_;have cH:ap .i64 ag bN gz (.slice (σ ⟨gz,0,ν⟩) z.length z.length) (p9 z.length 0):=ap.of (n:=z.length) (bV.full bO Ξ (by simp[maxLen];omega));generalize (x1.slice (σ ⟨gz,0,ν⟩) z.length z.length)=cI at*;have dt:=M.size;have du:=R.size;have dv:=bO.lt;rw[aB Ψ ((A.ext R).Qz rfl),aX al.u (bM.ext R)];have bP:=bg.trans R;have aD:(eo ac z).length=z.length:=sw _ _;refine ci.range z.length (λi H=>ae (λr=>r=gz) bN H/\ap .i64 ag H gz cI (upto (eo ac z) 0 i)) Ω ⟨ae.refl _ _,by rw[p6,aD];exact cH⟩ ?_ ?_
  .rintro i H Z hi ⟨O,aG⟩ ad;simp only[aQ,ah];refine⟨λ_=>?_,λh=>Ω⟩;have ao:Ext w H:=bP.then O (by rintro r P rfl;omega);have aH:Ext aC H:=R.then O (by rintro r P rfl;omega);obtain⟨p,bh⟩:=aE (l:=z) hi;obtain⟨⟨aY,gs,L,aA,bL⟩,_⟩:=ay.ext ao;rw[be al.u ag.i Ψ (Q.ext ao) bh,aB Ψ ((C.ext aH).Qz rfl),bW,aP cX.p rfl,bx (cs:=[sv]) bA.p bA.i rfl (sub L)];refine (qi aA.ls).mono ?_;rintro _ dw _ ⟨rfl,bQ⟩;have bR:=aG.ext bQ;have cK:(upto (eo ac z) 0 i).length=z.length:=by rw[p5,aD]
   rw[iK rfl al.u ag.i bR Ω];refine iL ag.i bR Ω λdx cL _ bS=>?_;simp only[aM];have h1:=(E.2 i p bh).1;have aq:(eo ac z)[i]? =σ (hZ ac p):=by
    unfold eo hZ;rw[x8,bh,if_pos h1.1];rfl
   rw[qa aq] at bS;exact ad _ ⟨(O.trans (bQ.U _)).trans cL,bS⟩
  .rintro H Z ⟨O,aG⟩;simp only[aQ,ah];refine⟨λh=>Ω,λ_=>?_⟩;have ao:Ext w H:=bP.then O (by rintro r P rfl;omega);have aH:Ext aC H:=R.then O (by rintro r P rfl;omega);rw[<-aD,p7] at aG;obtain⟨⟨aY,gs,L,aA,bL⟩,_⟩:=ay.ext ao;rw[aB Ψ ((C.ext aH).Qz rfl),aO cX.p 1 L rfl];have aI:b2 (eo ac z):=cq.JX E rfl;have bT:=cp E;have dy:=prod_bound aI;refine (vj aG.ls).mono ?_;rintro _ bi _ ⟨bU,_,_,_,cM⟩;obtain⟨au,I,V,rfl,dz,dA,dC,aJ⟩:=cM aI bT ⟨hk,Ω,by have:=hk.1;omega⟩;obtain⟨N,aN⟩:∃N:Nat,(aK (eo ac z)).toNat=N:=⟨_,rfl⟩;rw[aN] at aJ;rw[bu,bw];refine bt eQ.i λbX dD dE bY av=>?_;refine bo eQ.i rfl rfl av (by simp[x1.cells]) λcN cO dF av=>?_;have dG:=O.size;have dH:=bU.size;have dI:=bY.size;have bj:Ext bi cN:=bY.then cO (by rintro r P rfl;omega);have bZ:=bU.trans bj;have cP:=aJ.ext bj;have dJ:=av.lt;obtain⟨⟨bk,b0,b1,b3,cQ⟩,⟨b4,b5,_⟩,_,dK⟩:=id cP;have dM:0<N:=Ω
   have dN:au<bi.heap.size:=by obtain⟨⟨_,_,q,_⟩,_⟩:=id aJ;exact q.lt
   have dO:I<bi.heap.size:=by obtain⟨⟨_,_,_,_,q⟩,_⟩:=id aJ;exact s3 q Θ
   rw[aB Ψ (av.Qz rfl),bW,aP cX.p rfl,bx (cs:=[V]) bA.p bA.i rfl (sub b1)];refine sH.mono ?_;rintro _ G _ ⟨K,aR,rfl,dP,b6⟩;have dQ:=bj.size;have dR:=K.size;let S:Nat->Prop:=λr=>r=I;let W:=nM ac cs z;have bl:W.length=N:=by simp only[W];rw[AT,aN]
   let cR:x3->Prop:=λw'=>aa w' g1 eQ [Γ g]/\aa w' bJ al [Y]/\aa w' bX eQ [Γ au]/\aa w' au cX [V,Δ k,bk]/\
    dd w' g bH sv ac k cs/\aF .i64 w' Y z/\ap .i64 ag w' b0 V (eo ac z)/\aa w' aR bA [V]/\G.heap.size<=w'.heap.size
   have facts:∀ {a:x3},ae S G a->cR a:=by
    intro a B;have bm:Ext aC G:=(aH.trans bZ).trans K;have bp:Ext aC a:=bm.put B Ω;have b7:Ext w a:=bg.trans bp;refine⟨C.ext bp,A.ext bp,(av.ext K).U B (by show ¬(bX=I);omega),(b1.ext K).U B (by show ¬(au=I);exact b4),ay.ext b7,Q.ext b7,bq (b3.ext K) B (λr P he=>b5 ((show r=I from he)▸P)),
     b6.U B (by show ¬(aR=I);omega),B.size⟩
   have b8:=sG (g:=aR) (B0:=G.heap.size) (sv:=V) aI;rw[aN] at b8;refine nb.old ⟨Nat,false,kQ,#[Γ aR],0,_,_,_,λq w'=>ae S G w'/\ap .i64 ak w' I bk (upto W 0 q),λ_ _ _=>False,rfl,b8.s,
    ?_,λ_ _ B h=>⟨h.1.ext B,h.2.1.ext B,X0 h.2.2 B.size⟩,λ_ _ _ B h=>⟨h.1.trans (B.U S),h.2.ext B⟩,λ_ _ _ _ _ h=>h,⟨b6,(b3.ext K).ls,o4 _⟩,⟨ae.refl _ _,?_⟩,?_,?_,λ_ _ h=>h.elim,λ_ _ _ h=>h.elim⟩
   .rintro _ _ _ _ ⟨_,_,_,_,rfl,_⟩;rfl
   .rw[p6,bl];exact cQ.ext K
   .rintro _ aL q _ dS ⟨_,_,dT⟩ ⟨aq,rfl,dU,gt,cS,dV,cT⟩ ⟨aS,cU⟩;cases cS;let x:=cJ (eo ac z) (q:Int);have b9:x.length=z.length:=by simp only[x];rw[jk,aD]
    intro cV X _ _;have ca:=cT.ext X;rw[aX al.u ca.ls];refine kk al.u ag.i (by rw[jk];omega) (by rw[jk];omega) λgo cb dW br cc=>?_;have cW:ap .i64 ag cb go (.slice (σ ⟨go,0,ν⟩) (cJ (eo ac z) (q:Int)).length (cJ (eo ac z) (q:Int)).length) (p9 (cJ (eo ac z) (q:Int)).length 0):=ap.of (n:=(cJ (eo ac z) (q:Int)).length) (bV.full cc Ξ (by rw[jk];simp[maxLen];omega));generalize (x1.slice (σ ⟨go,0,ν⟩) (cJ (eo ac z) (q:Int)).length (cJ (eo ac z) (q:Int)).length)=cY at*;have dX:=aS.size;have dY:=X.size;have dZ:=br.size;have lo:=cc.lt;have cZ:ae S G cb:=aS.trans ((X.trans br).U S);have f:=facts cZ;rw[aB Ψ (f.2.1.Qz rfl),aX al.u f.2.2.2.2.2.1];refine ci.range z.length (λj aT=>Ext cV aT/\ ∃y:Λ,y.length=z.length/\ap .i64 ag aT go cY y/\ ∀ (i:Nat) (p:Int),i<j->z[i]? =σ p->y[p.toNat]? =x[i]?) Ω
     ⟨br,_,by simp[b9,x],cW,λi p hi=>Ω⟩ ?_ ?_
    .rintro j aT Z bb ⟨aw,y,bz,aU,bB⟩ ad;simp only[aQ,ah];refine⟨λ_=>?_,λh=>Ω⟩;have f:=facts (aS.trans ((X.trans aw).U S));obtain⟨p,aV⟩:=aE (l:=z) bb;obtain⟨u,hu⟩:=aE (l:=x) (i:=j) Ω;have ea:=(E.2 j p aV).1;rw[be al.u ag.i Ψ f.2.2.2.2.2.1 aV,be al.u ag.i Ψ (ca.ext aw).ls hu,iK (i:=p.toNat) Ω al.u ag.i aU Ω];refine iL ag.i aU Ω λeb c0 ec c3=>?_;simp only[aM];refine ad _ ⟨aw.then c0 (by rintro r P rfl;omega),_,by simpa using bz,c3,λi aZ hi ax=>?_⟩;by_cases cd:i=j
     .subst cd;rw[aV] at ax;cases ax;rw[j9 Ω,hu]
     .have ed:=(E.2 i aZ ax).1;have aj:p.toNat≠aZ.toNat:=λhe=>by
       have:p=aZ:=Ω
       subst this;exact cd (E.inj ax aV)
      rw[Y0 aj];exact bB i aZ Ω ax
    .rintro aT Z ⟨aw,y,bz,aU,bB⟩;simp only[aQ,ah];refine⟨λh=>Ω,λ_ c4 ce _ _=>?_⟩;have af:y=lU z x:=AR E (by rw[b9,bf]) (by rw[bz,bf]) λi p cg=>bB i p (x4.1 cg).1 cg;have ch:=aw.trans ce;have cj:ae S G c4:=aS.trans ((X.trans ch).U S);obtain⟨f1,f2,f3,f4,f5,f6,f7,f8,f9⟩:=facts cj;rw[aB Ψ (f3.Qz rfl),aO cX.p 2 f4 rfl,aB Ψ (f1.Qz rfl)];refine (vk f5 (aU.ls.ext ce)).mono ?_;rintro _ ee _ ⟨rfl,bC⟩;refine⟨.inl bC,?_⟩;obtain⟨e,he⟩:=vY ac y cs;rw[he,bu,bw];have c5:=cj.trans (bC.U S);have ck:=(cU.ext ((X.trans ch).trans bC));have cK:(upto W 0 q).length=N:=by rw[p5,bl]
     rw[iK rfl an.u ak.i ck Ω];refine iL ak.i ck Ω λc6 c8 ef cl=>?_;have cm:ae S G c6:=c5.trans (c8.mono λr _ h=>h);obtain⟨f1,f2,f3,f4,f5,f6,f7,f8,f9⟩:=facts cm;have c9:W[q]? =σ (ba ac cs y):=by
      simp only[W,nM];rw[x8,List.getElem?_range (by rw[aN];exact aq),af];rfl
     rw[qa c9] at cl;exact⟨⟨f8,f7.ls,f9⟩,⟨cm,cl⟩,λh=>by cases h⟩
   .rintro q eg aq ⟨bD,bF⟩;rw[show q=N from aq] at bF;have f:=facts bD;rw[aB Ψ (f.2.2.1.Qz rfl)];intro eh bG _;obtain⟨f1,f2,f3,f4,f5,f6,f7,f8,f9⟩:=facts (bD.trans (bG.U S));rw[<-bl,p7] at bF;have bm:Ext w G:=(ao.trans bZ).trans K;refine⟨(bm.put bD Ω).trans bG,λda=>absurd E da,λ_=>⟨au,I,V,rfl,⟨bk,b0,f4,f7,bF.ext bG⟩,⟨b4,b5,bT⟩,aI,AT _ _ _⟩⟩
def hc (l:Λ):Prop:=∀ (i j:Nat) (x y:Int),i<j->l[i]? =σ x->l[j]? =σ y->x<y
theorem hc.inj (h:hc l) {i:Nat} {x:Int} (hi:l[i]? =σ x) (a:l[j]? =σ x):i=j:=by
 rcases Nat.lt_trichotomy i j with h1|h1|h1
 .have:=h i j x x h1 hi a;omega
 .exact h1
 .have:=h j i x x h1 a hi;omega
def dedup (l:Λ):Nat->Λ
 |0=>[]
 |j+1=>if 0<j/\l[j]? =l[j-1]? then dedup l j else dedup l j++[l.getD j 0]
theorem Cn (l:Λ):∀j,(dedup l j).length<=j
 |0=>o4 _
 |j+1=>by
  have:=Cn l j;unfold dedup;split
  .omega
  .simp;omega
theorem v8 (a:0<j) (h:l[j]? =l[j-1]?):dedup l (j+1)=dedup l j:=by
 rw[dedup,if_pos ⟨a,h⟩]
theorem wa {x:Int} (e:l[j]? =σ x) (h:0<j->l[j]? ≠l[j-1]?):dedup l (j+1)=dedup l j++[x]:=by
 rw[dedup,if_neg (λa=>h a.1 a.2),u4,e];rfl
theorem s8 {l:Λ}:∀ {j:Nat},j<=l.length->(∀i,i<j->0<i->l[i]? ≠l[i-1]?)->dedup l j=l.take j
 |0,_,_=>by simp[dedup]
 |j+1,f,h=>by
  have a:l[j]? =σ l[j]:=x6 Ω;rw[wa a (h j Ω),s8 Ω (λi hi e=>h i Ω e),u9,a];rfl
theorem Co {l:Λ} (I:l.Pairwise (·<= ·)):∀ {j:Nat},j<=l.length->(hc (dedup l j)/\ ∀x,x∈dedup l j↔x∈l.take j)
 |0,_=>⟨λi j x y _ h=>by simp[dedup] at h,λx=>by simp[dedup]⟩
 |j+1,J=>by
  obtain⟨h1,q⟩:=Co I (j:=j) Ω;have f:l[j]? =σ l[j]:=x6 Ω;by_cases p:0<j/\l[j]? =l[j-1]?
  .rw[v8 p.1 p.2];refine⟨h1,λx=>?_⟩;rw[q,u9,f];simp only[o8,l9,n9];refine⟨.inl,λh=>h.elim id λhe=>?_⟩;subst he;have s:(l.take j)[j-1]? =σ l[j]:=by rw[X4 Ω,<-p.2,f]
   exact x5 s
  .have w:0<j->l[j]? ≠l[j-1]?:=λB he=>p ⟨B,he⟩;rw[wa f w];have C:∀x∈dedup l j,x<l[j]:=λx E=>by
    obtain⟨i,hi,he⟩:=List.getElem_of_mem ((q x).1 E);have K:i<j:=by rw[j5] at hi;omega
    rw[List.getElem_take] at he;subst he;have s:l[i]<=l[j-1]:=by
     by_cases z:i=j-1
     .subst z;exact Int.le_refl _
     .exact V9.1 I i (j-1) Ω Ω Ω
    have z:=V9.1 I (j-1) j Ω Ω Ω;have A:=w Ω;rw[f,x6 (show j-1<l.length by omega)] at A;have L:l[j]≠l[j-1]:=λh=>A (by rw[h]);omega
   refine⟨λa b x y F r e=>?_,λx=>?_⟩
   .have G:=(x4.1 e).1;simp only[p8,b8,List.length_nil] at G;rw[Y8 Ω] at r;by_cases H:b=(dedup l j).length
    .subst H;rw[X1 (o4 _),U7] at e;simp at e;subst e;exact C x (x5 r)
    .rw[Y8 Ω] at e;exact h1 a b x y F r e
   .rw[u9,f];simp only[o8,l9,n9,q]
def qB (l:Λ):Prop:=∀ (j:Nat) (x:Int),l[j]? =σ x->0<=x/\(0<j-> ∀y,l[j-1]? =σ y->y<x)
theorem qB.up (h:qB l):hc l:=by
 intro i j x y r f;induction j generalizing y with
 |zero=>omega
 |succ j p=>
  intro e;have s:=(x4.1 e).1;obtain⟨z,a⟩:∃z,l[j]? =σ z:=⟨_,x6 (show j<l.length by omega)⟩;have h1:=(h (j+1) y e).2 Ω z (by simpa using a);by_cases q:i=j
  .subst q;rw[f] at a;cases a;exact h1
  .have:=p z Ω a;omega
theorem Me (h:hc l) (e:∀x∈l,0<=x):qB l:=λj x a=>⟨e x (x5 a),λp y f=>h (j-1) j y x Ω f a⟩
theorem Cp {g I:Nat} {E:x1} {cs:Λ} (h:dd w g I sv ac k cs) (a:aF .i64 w E l):
  ai x7 H2 [Γ g,E] w λv w'=>Ext w w'/\ ∃c,v= .bool c/\(c=true↔l.length=ac.length/\qB l):=by
 obtain⟨⟨aY,gs,K,hm,q⟩,_⟩:=h;have sub:w.rangeAt g (0+0) [sv]:=nC K (by
  intro j v r
  match j,r with
  |0,r=>exact r)
 refine aw func198 ?_;rw[aX al.u a,bW,aP cX.p rfl,bx (cs:=[sv]) bA.p bA.i rfl sub];refine (Be hm.ls).mono ?_;rintro _ J _ ⟨rfl,s⟩;simp only[bE,ah];refine⟨λL=>⟨s,false,rfl,(λh=>by cases h),λh=>absurd (by rw[h.1]) L⟩,λG=>?_⟩;have G:l.length=ac.length:=Ω
 rw[aX al.u (a.ext s)];refine bY.range l.length (λi _ w2=>Ext w w2/\ ∀ (j:Nat) (x:Int),j<i->l[j]? =σ x->0<=x/\(0<j-> ∀y,l[j-1]? =σ y->y<x)) a.le ⟨s,λj x M=>Ω⟩ ?_ ?_
 .rintro i _ w2 N hi ⟨e,z⟩ O;simp only[aQ,ah];refine⟨λ_=>?_,λh=>Ω⟩;obtain⟨x,f⟩:=aE (l:=l) hi;have V:=a.le;rw[be al.u ag.i Ψ (a.ext e) f];refine aT (λv P=>w2=P/\ ∃c,v= .bool c/\(c=false↔0<=x/\(0<i-> ∀y,l[i-1]? =σ y->y<x))) ?_ ?_
  .rintro _ _ ⟨rfl,c,rfl,q⟩;rw[b0];simp only[aM];refine⟨λQ=>⟨e,false,rfl,(λh=>by cases h),λh=>?_⟩,λR=>O _ _ ⟨e,λj S M A=>?_⟩⟩
   .have:=q.2 (h.2 i x f);rw[Q] at this;cases this
   .by_cases U:j=i
    .subst U;rw[f] at A;cases A;exact q.1 R
    .exact z j S Ω A
  .intro au B;simp only[aQ,bS,dR,ah];refine⟨λW=>B _ _ ⟨rfl,true,rfl,(λh=>by cases h),λh=>Ω⟩,λX=>⟨λY=>?_,λZ=>B _ _ ⟨rfl,false,rfl,λ_=>⟨Ω,λh=>Ω⟩,λ_=>rfl⟩⟩⟩;obtain⟨y,C⟩:∃y,l[i-1]? =σ y:=⟨_,x6 (show i-1<l.length by omega)⟩;rw[wrap_i64 Ω Ω,fA (i:=i-1) Ω al.u ag.i Ψ (a.ext e) C];simp only[cU];refine B _ _ ⟨rfl,_,rfl,?_⟩;rw[decide_eq_false_iff_not];refine⟨λh=>⟨Ω,λ_ aa H=>by rw[C] at H;cases H;omega⟩,λh=>by have:=h.2 Ω y C;omega⟩
 .rintro _ w2 N ⟨e,z⟩;simp only[aQ,ah];exact⟨λh=>Ω,λ_=>⟨e,true,rfl,λ_=>⟨G,λj x f=>z j x (x4.1 f).1 f⟩,λ_=>rfl⟩⟩
def hD (l:Λ) (x:Int):Int:=if x∈l then (l.idxOf x:Int) else-1
theorem Cq {i:Nat} {x:Int} (h:hc l) (hi:l[i]? =σ x):hD l x=i:=by
 have hm:x∈l:=x5 hi;have a:=List.idxOf_lt_length_of_mem hm;have e:l.idxOf x=i:=h.inj (by rw[x6 a,List.getElem_idxOf a]) hi;unfold hD;rw[if_pos hm,e]
theorem Mf {x:Int} (h:x∉l):hD l x= -1:=if_neg h
theorem wb {x:Int} (h:aF .i64 w sv l) (hu:hc l):
  ai x7 zj [sv,Δ x] w λv w'=>v=Δ (hD l x)/\Ext w w':=by
 refine aw func196 ?_;rw[aX al.u h];refine bY.range l.length (λi _ J=>Ext w J/\ ∀j,j<i->l[j]? ≠σ x) h.le ⟨Ext.refl _,λj p=>Ω⟩ ?_ ?_
 .rintro i _ J k hi ⟨a,e⟩ hk;simp only[aQ,ah];refine⟨λ_=>?_,λh=>Ω⟩;obtain⟨y,f⟩:=aE (l:=l) hi;rw[be al.u ag.i Ψ (h.ext a) f];simp only[bi,ah,aM];refine⟨λhe=>⟨?_,a⟩,λhe=>hk _ _ ⟨a,λj p=>?_⟩⟩
  .subst he;rw[Cq hu f]
  .by_cases q:j=i
   .subst q;rw[f];intro h;exact he (c7 h).symm
   .exact e j Ω
 .rintro _ J k ⟨a,e⟩;simp only[aQ,ah];refine⟨λh=>Ω,λ_=>⟨?_,a⟩⟩;rw[Mf];intro hm;obtain⟨i,hi,he⟩:=List.getElem_of_mem hm;exact e i hi (by rw[x6 hi,he])
def eZ (x vars scope:Λ):Λ:=scope.map λp=>x.getD (vars.idxOf p) 0
theorem Mg (x vars scope:Λ):(eZ x vars scope).length=scope.length:=by simp[eZ]
theorem Cr {eH s:x1} {x vars:Λ} (C:aF .i64 w eH x) (E:aF .i64 w s vars) (I:aF .i64 w sv scope) (hu:hc vars) (G:∀p∈scope,p∈vars) (Q:x.length=vars.length) (R:scope.length<=1000):
  ai x7 H7 [eH,s,sv] w λv w'=>Ext w w'/\ ∃g,w.heap.size<=g/\ap .i64 ag w' g v (eZ x vars scope):=by
 refine aw func203 ?_;rw[aX al.u I];refine kk al.u ag.i Ω Ω λgz J S y H=>?_;have K:ap .i64 ag J gz (.slice (σ ⟨gz,0,ν⟩) scope.length scope.length) (p9 scope.length 0):=ap.of (n:=scope.length) (bV.full H Ξ (by simp[maxLen];omega));generalize (x1.slice (σ ⟨gz,0,ν⟩) scope.length scope.length)=L at*;rw[aX al.u (I.ext y)];have j:=Mg x vars scope;refine ci.range scope.length (λi w2=>Ext w w2/\ap .i64 ag w2 gz L (upto (eZ x vars scope) 0 i)) Ω ⟨y,by rw[p6,j];exact K⟩ ?_ ?_
 .rintro i w2 M hi ⟨a,hm⟩ N;simp only[aQ,ah];refine⟨λ_=>?_,λh=>Ω⟩;obtain⟨p,q⟩:=aE (l:=scope) hi;have z:=G p (x5 q);have U:=List.idxOf_lt_length_of_mem z;rw[be al.u ag.i Ψ (I.ext a) q];refine (wb (E.ext a) hu).mono ?_;rintro _ V _ ⟨rfl,f⟩;have e:hD vars p=(vars.idxOf p:Int):=if_pos z;obtain⟨u,A⟩:∃u,x[vars.idxOf p]? =σ u:=⟨_,x6 Ω⟩;have W:(upto (eZ x vars scope) 0 i).length=scope.length:=by rw[p5,j]
  rw[fA (i:=vars.idxOf p) e al.u ag.i Ψ (C.ext (a.trans f)) A,iK rfl al.u ag.i (hm.ext f) Ω];refine iL ag.i (hm.ext f) Ω λX O _ B=>?_;simp only[aM];have P:(eZ x vars scope)[i]? =σ u:=by
   unfold eZ;rw[x8,q,Z6,u4,A];rfl
  rw[qa P] at B;exact N _ ⟨(a.trans f).then O (by rintro r Y rfl;omega),B⟩
 .rintro w2 M ⟨a,hm⟩;simp only[aQ,ah];refine⟨λh=>Ω,λ_=>⟨a,gz,Ω,?_⟩⟩;rw[<-j,p7] at hm;exact hm
theorem Cs (j:t≠[]) (hw:∀b∈t,bM b=true):lex t=([t],true):=by
 cases t with
 |nil=>exact absurd rfl j
 |cons b q=>
  have a:q.dropWhile bM=[]:=by
   have:∀ (q:Λ),(∀x∈q,bM x=true)->q.dropWhile bM=[]/\q.takeWhile bM=q:=λq a=>by
    induction q with
    |nil=>simp
    |cons x q e=>
     have:=e λy f=>a y (.tail _ f);simp[a x (.head _),this.1,this.2]
   exact (this q λx h=>hw x (.tail _ h)).1
  have p:q.takeWhile bM=q:=by
   have:∀ (q:Λ),(∀x∈q,bM x=true)->q.takeWhile bM=q:=λq a=>by
    induction q with
    |nil=>simp
    |cons x q e=>simp[a x (.head _),e λy f=>a y (.tail _ f)]
   exact this q λx h=>hw x (.tail _ h)
  rw[Ah (hw b (.head _)),a,p]
theorem Ct {p:x1} (h:aF .u8 w p l) (e:Bytes l) (f:l.length<=100000):ai x7 y0 [p] w λv w'=>Ext w w'/\ ∃g R,v=Γ g/\w.heap.size<=g/\hz w' g R (lex l).1 (lex l).2/\¬R g:=by
 refine (Ap h e f).mono ?_;rintro _ J _ ⟨j,g,rfl,q,s,a⟩;obtain⟨h1,z,A,x,bm,hm⟩:=id a;exact⟨j,g,λr=>r≠g,rfl,q,⟨s,l,0,a,λr y=>cd hm x Φ y,by rw[List.drop_zero]⟩,λh=>h rfl⟩
theorem Mh {p:x1} (h:aF .u8 w p t) (y:Bytes t) (z:t.length<=100000) (A:t≠[]) (hw:∀b∈t,bM b=true):ai x7 Ii [p] w λv w'=>Ext w w'/\ ∃n:Int,v= .tuple #[Δ 1,Δ n,Δ 0]:=by
 have B:=Cs A hw;refine aw func222 ?_;refine (Ct h y z).mono ?_;rintro _ J _ ⟨C,g,R,rfl,G,j,H⟩;rw[B] at j;refine⟨λ_ _ _ a w2=>ae (λr=>r=g) J w2/\((a=Δ 0/\hz w2 g R [t] true)\/(a=Δ 1/\hz w2 g R [] true)),λ_ _ _ a _=>1-(b1 a).toNat,⟨ae.refl _ _,.inl ⟨rfl,j⟩⟩,?_⟩;rintro _ _ _ _ w2 ⟨q,⟨rfl,e⟩|⟨rfl,e⟩⟩
 .refine (qd e).mono ?_;rintro v s _ ⟨f,E,n,rfl⟩;rw[hR,hS,hT,bi,ah];refine⟨λ_=>?_,λh=>absurd rfl h⟩;rw[aM,wrap_i64 Ω Ω];exact⟨⟨q.trans f,.inr ⟨rfl,E⟩⟩,by simp[b1]⟩
 .refine (qd e).mono ?_;rintro v s _ ⟨f,n,rfl⟩;rw[hR,hS,hT,bi,ah];refine⟨λh=>by simp at h,λ_=>?_⟩;rw[bi,ah];refine⟨λh=>by simp at h,λ_=>?_⟩;have x:Ext w s:=C.then (q.trans f) (λr I he=>by have he:r=g:=he;omega);rw[aX cP.u (h.ext x)];exact⟨x,_,rfl⟩
theorem Mi (a:Bytes t) (e:t.length<=100000) (f:t≠[]) (hw:∀b∈t,bM b=true):ai x7 HX [bR t] w λv w'=>v= .bool true/\Ext w w':=by
 have y:=Cs f hw;refine aw func189 ?_;refine vo c4.u cP.u cC.u a Ω λbv J j z _=>?_;refine (Mh z a e f hw).mono ?_;rintro _ w2 _ ⟨p,n,rfl⟩;rw[hR,hS,hT];refine vo c4.u cP.u cC.u a Ω λI K q A _=>?_;refine (Ct A a e).mono ?_;rintro _ L _ ⟨B,g,R,rfl,M,s,N⟩;rw[y] at s;refine (qd s).mono ?_;rintro _ x _ ⟨C,_,m,rfl⟩;rw[hR,hS,hT];have E:Ext w x:=(((j.trans p).trans (q.trans B))).then C (λr O he=>by
  have he:r=g:=he;have:=j.size;have:=p.size;have:=q.size;omega)
 refine aT (λv G=>x=G/\v= .bool true) ?_ ?_
 .rintro _ _ ⟨rfl,rfl⟩;exact⟨rfl,E⟩
 .intro au H;rw[bi,ah];refine⟨λ_=>?_,λh=>absurd rfl h⟩;rw[bi,ah];refine⟨λ_=>?_,λh=>absurd rfl h⟩;rw[Ad a a];exact H _ _ ⟨rfl,by rw[decide_eq_true rfl]⟩
theorem Mj {x:Int}:ai x7 uZ [Δ x] w λv w'=>v= .bool (decide (¬ic x))/\Ext w w':=by
 refine aw func188 ?_;refine aT (λv J=>w=J/\v= .bool (decide (¬ic x))) ?_ ?_
 .rintro _ _ ⟨rfl,rfl⟩;exact⟨rfl,Ext.refl _⟩
 .intro au e;rw[aQ,ah];refine⟨λh=>e _ _ ⟨rfl,by rw[decide_eq_true];intro a;have:=a.1;omega⟩,λh=>?_⟩;rw[bS];refine e _ _ ⟨rfl,?_⟩;congr 1;rw[U1,decide_eq_true_eq,decide_eq_true_eq];exact⟨λf a=>by have:=a.2;omega,λf=>by
   by_cases j:32<x
   .exact j
   .exact absurd ⟨Ω,Ω⟩ f⟩
theorem Mk (h:aF .i64 w sv l) (f:∀x∈l,ic x):
  ai x7 uY [sv,.func (.func uZ) #[] #[]] w λv w'=>v= .bool false/\Ext w w':=by
 refine aw func186 ?_;refine ai.mono (K:=λv w'=>v=Δ (-1)/\Ext w w') ?_ ?_
 .refine aw func221 ?_;rw[aX al.u h];refine bY.range l.length (λ_ _ J=>Ext w J) h.le (Ext.refl _) ?_ ?_
  .rintro i _ J k hi a hk;refine bH Ω ?_;obtain⟨x,e⟩:=aE (l:=l) hi;rw[be al.u ag.i Ψ (h.ext a) e];show ai x7 uZ [Δ x] J _;refine Mj.mono ?_;rintro _ w2 _ ⟨rfl,j⟩;rw[ah];refine⟨λp=>absurd (f x (x5 e)) p,λ_=>?_⟩;rw[aM];exact hk _ _ (a.trans j)
  .rintro _ J k a;rw[aQ,ah];exact⟨λh=>Ω,λ_=>⟨rfl,a⟩⟩
 .rintro _ J _ ⟨rfl,a⟩;rw[cU];exact⟨rfl,a⟩
theorem s9 {m:Bool} {S R:af} {d:hb} (h:aj.rep m S R w cs d):∃sv g a aL gs,cs=[sv,Γ g]/\aF .i64 w sv d.1/\fH w g a aL gs d.2.ac d.2.k d.2.o d.2.D:=by
 obtain⟨c,e,A,B,rfl,_,_,_,h1,f⟩:=h;have h1:aj.rep (α:=Λ) false bC R w c d.1:=h1;obtain⟨u,rfl⟩:=V2.1 (show c.length=1 from aj.len h1);obtain⟨g,m,sv,gs,rfl,j,_⟩:=f;exact⟨u,g,m,sv,gs,rfl,cN h1,j⟩
theorem Ml {V:Nat} {f:bZ} {d:hb} {x:ch} {m:Bool} {S R:af} (an:lf w V f) (ao:e6 N f) (ap:x∈f.funs) (aq:qA f.k x d) (av:aj.rep m S R w cs d):
  ai x7 Ij [Γ V,.agg cs.toArray] w λv w'=>v= .bool true/\Ext w w':=by
 obtain⟨szv,aJ,gz,aK,W,X,_,_⟩:=an;obtain⟨sv,ad,aN,aL,gs,rfl,s,K⟩:=s9 av;obtain⟨ax,Y,ay,aP,aR,aS⟩:=aq;obtain⟨G,aU,aV⟩:=ao.funs x ap;rw[ax] at s;refine aw func224 ?_;refine bn λam J aY A H=>?_;have H:aa J am cE [sv,Γ ad]:=by obtain⟨_,_,_,rfl⟩:=du s;exact H
 refine aT (λv w2=>Ext J w2/\v= .bool false) ?_ ?_
 rotate_left
 .intro au L;intro w2 q _ _;have z:=H.ext q;rw[az cE.p 1 z rfl,dp eP.u];simp only[Z7,aW];rw[az cE.p 1 z rfl,aO cD.p 1 (W.ext (A.trans q)) rfl];refine (Ky (K.ext (A.trans q)).is).mono ?_;rintro _ B _ ⟨rfl,a⟩;refine⟨.inl a,?_⟩;rw[bE,ah];refine⟨λh=>absurd ay h,λ_=>?_⟩;have C:=z.ext a;have M:=q.trans a;rw[az cE.p 1 C rfl,az cE.p 0 C rfl,aX al.u (s.ext (A.trans M))];refine (Kz (K.ext (A.trans M)).is).mono ?_;rintro _ I _ ⟨rfl,e⟩;refine⟨.inl e,?_⟩;rw[bE];refine L _ _ ⟨M.trans e,?_⟩;rw[decide_eq_false];intro h;exact h (by rw[Y,G.sizes,u7])
 rintro _ w2 ⟨q,rfl⟩;rw[aW];have z:=H.ext q;have O:=A.trans q;rw[az cE.p 0 z rfl,aX al.u (s.ext O)];refine bY.range x.scope.length (λ_ _ B=>Ext w2 B) Ω (Ext.refl _) ?_ ?_
 rotate_left
 .rintro _ B k a;rw[aQ,ah];exact⟨λh=>Ω,λ_=>⟨rfl,O.trans a⟩⟩
 rintro i _ B k hi a hk;obtain⟨v,E⟩:=aE (l:=x.scope) hi;have aZ:=G.scope.2 v (x5 E);have P:=O.trans a;have C:=z.ext a;have Z:=W.ext P;have aA:f.sizes[v.toNat]? =σ (f.sizes.getD v.toNat 0):=by
  rw[u4,x6 Ω];rfl
 refine bH Ω ?_;rw[be al.u ag.i Ψ (s.ext P) E];refine aT (λb I=>Ext B I/\b= .bool false) ?_ ?_
 .rintro _ I ⟨e,rfl⟩;rw[aW,aM];exact hk _ _ (a.trans e)
 .intro au L;intro I e _ _;have Q:=P.trans e;refine ca Ω ?_;rw[aO cD.p 2 (Z.ext e) rfl,aX al.u (X.ls.ext Q),cU,ah];refine⟨λh=>Ω,λ_=>?_⟩;rw[az cE.p 0 (C.ext e) rfl];refine (Cm (s.ext Q)).mono ?_;rintro _ a1 _ ⟨ab,r,rfl,aC⟩;have aD:r=(i:Int):=(aC i E).2 λj a2 aF=>by have:=kt G.scope.1 aF E;omega
  subst aD;have ae:=Q.trans ab;have U:=e.trans ab;rw[bE,ah];refine⟨λh=>absurd rfl h,λ_=>?_⟩;rw[az cE.p 1 (C.ext U) rfl,aO cD.p 2 (Z.ext U) rfl];refine pZ (y:=v) (i:=v.toNat) Ω al.u ag.i (X.ls.ext ae) aA λb o aG=>?_;rw[aB Ψ aG];refine (vH (K.ext ae).is).mono ?_;rintro a6 a7 _ ⟨ak,a8,ba,aH⟩;refine⟨.inl ak,?_⟩;have aI:d.2.ac[i]? =σ (f.sizes.getD v.toNat 0):=by
   rw[Y,G.sizes,x8,E];rfl
  rw[be al.u ag.i Ψ aH.ls aI,bE];exact L _ _ ⟨U.trans ak,by rw[decide_eq_false (λh=>h rfl)]⟩
theorem Mm {f:bZ} {d:hb} {x:ch} {m:Bool} {S R:af} (q:lf w j f) (r:e6 N f) (s:x∈f.funs) (y:qA f.k x d) (a:aj.rep m S R w cs d):
  ai x7 u0 [Γ j,.agg cs.toArray] w λv w'=>v= .bool false/\Ext w w':=by
 refine aw func191 ?_;refine bn λam J C e h=>?_;have z:cs.length=2:=aj.len a;have h:aa J am cE cs:=by
  obtain⟨sv,ad,E,aL,gs,rfl,A,G⟩:=s9 a;obtain⟨_,_,_,rfl⟩:=du A;exact h
 rw[bx cE.p cE.i z h.range];refine (Ml (q.ext e) r s y (bd a e)).mono ?_;rintro _ w2 _ ⟨rfl,B⟩;rw[bF];exact⟨rfl,e.trans B⟩
theorem Mn {f:bZ} {r:x1} {e:List hb} {m:Bool} {S R:af} (A:lf w j f) (B:e6 N f) (q:aj.rep m S R w [r] e) (s:s7 f.k f.funs e):
  ai x7 HY [r,.func (.func u0) #[Γ j] #[]] w λv w'=>v= .bool false/\Ext w w':=by
 refine aw func190 ?_;refine ai.mono (K:=λv w'=>v=Δ (-1)/\Ext w w') ?_ ?_
 .refine aw func223 ?_;rw[fC dJ.u q];refine bY.range e.length (λ_ _ J=>Ext w J) (nx q) (Ext.refl _) ?_ ?_
  .rintro i _ J k hi a hk;refine bH Ω ?_;obtain⟨d,y⟩:=aE (l:=e) hi;obtain⟨x,z⟩:∃x,f.funs[i]? =σ x:=⟨_,x6 (by have:=s.1;omega)⟩;refine jI (α:=hb) cE.p rfl dJ.u cE.i (bd q a) y λcs C=>?_;show ai x7 u0 [Γ j,.agg cs.toArray] J _;refine (Mm (A.ext a) B (x5 z) (s.2 i x d z y) C).mono ?_;rintro _ w2 _ ⟨rfl,E⟩;rw[aW,aM];exact hk _ _ (a.trans E)
  .rintro _ J k a;rw[aQ,ah];exact⟨λh=>Ω,λ_=>⟨rfl,a⟩⟩
 .rintro _ J _ ⟨rfl,a⟩;rw[cU];exact⟨rfl,a⟩
def ip (a:List ch):Nat:=(a.map λx=>x.lines.length).sum
theorem Mo {ae:Nat} {f:bZ} (af:lf w ae f) (r:e6 N f) (bc:N<=60000) (U:f.name≠[]/\ ∀b∈f.name,bM b=true):
  ai x7 Hz [Γ ae] w λv w'=>Ext w w'/\ ∃e:Int,v=Δ e/\(ip f.funs<=16384->e=0):=by
 obtain⟨szv,bf,gz,y,A,V,W,B⟩:=id af;have bg:=r.name;have aC:Bytes f.name:=λb aD=>by
  have:=of_decide_eq_true (U.2 b aD);omega
 refine aw func150 ?_;rw[dp u3.u];simp only[Z7,aW];refine aT (λv J=>Ext w J/\v= .bool false) ?_ ?_
 rotate_left
 .intro au s;rw[aO cD.p 0 A rfl];refine (Mi aC Ω U.1 U.2).mono ?_;rintro _ J _ ⟨rfl,q⟩;rw[bF,Y5,aW];rw[aO cD.p 2 (A.ext q) rfl,aX al.u (V.ls.ext q),bi,ah];refine⟨λh=>by have:=r.sizes.1;omega,λ_=>?_⟩;rw[aO cD.p 2 (A.ext q) rfl];refine (Mk (V.ls.ext q) r.sizes.2.2).mono ?_;rintro _ w2 _ ⟨rfl,C⟩;have aj:=q.trans C;rw[aW,aO cD.p 1 (A.ext aj) rfl];refine zI.mono ?_;rintro _ E _ ⟨rfl,G⟩;have M:=aj.trans G;rw[decide_eq_true (show right f.k from r.k),bF,Y5,aW,aO cD.p 3 (A.ext M) rfl,mm];refine (Mn (af.ext M) r (bd W M) B).mono ?_;rintro _ ao _ ⟨rfl,aF⟩;exact s _ _ ⟨M.trans aF,rfl⟩
 rintro _ J ⟨q,rfl⟩;rw[aW];have O:=A.ext q;refine aT (λv w2=>J=w2/\v= .bool false) ?_ ?_
 rotate_left
 .intro au s;rw[aO cD.p 0 O rfl,nF c4.u,bS,ah];refine⟨λh=>Ω,λ_=>?_⟩;rw[aO cD.p 2 O rfl,aX al.u (V.ls.ext q),bS,ah];refine⟨λh=>by have:=r.sizes.2.1;omega,λ_=>?_⟩;rw[aO cD.p 3 O rfl,fC dJ.u (bd W q),bS];exact s _ _ ⟨rfl,by rw[decide_eq_false];have:=r.k3;have:=B.1;omega⟩
 rintro _ _ ⟨rfl,rfl⟩;have aq:=bd W q;rw[aO cD.p 3 O rfl,fC dJ.u aq];refine⟨λaG aH X w2=>∃i n:Nat,X=Δ (i:Int)/\i<=y.length/\aG=Δ (n:Int)/\aH= .bool false/\Ext J w2/\n<=ip (f.funs.take i)/\n<=i*60000,λ_ _ X _=>y.length-(b1 X).toNat,
  ⟨0,0,rfl,X8 _,rfl,rfl,Ext.refl _,X8 _,Ω⟩,?_⟩
 rintro _ _ _ w2 ⟨i,n,rfl,hi,rfl,rfl,C,aI,bh⟩;have bj:y.length<=256:=by rw[B.1];exact r.k3
 rw[aQ,ah];refine⟨λav=>?_,λbk=>?_⟩
 .have av:i<y.length:=Ω
  obtain⟨d,ax⟩:=aE (l:=y) av;obtain⟨x,Y⟩:∃x,f.funs[i]? =σ x:=⟨_,x6 (by have:=B.1;omega)⟩;have P:=B.2 i x d Y ax;obtain⟨Q,aJ,aK⟩:=r.funs x (x5 Y);have bl:=Q.len;refine iB (λa b E=>Ext w2 E/\a=Δ ((n+d.2.D.length:Nat):Int)/\b= .bool false) ?_ ?_
  .rintro _ _ E ⟨G,rfl,rfl⟩;rw[aM,wrap_i64 Ω Ω];have aN:=P.2.2.2.2.1;refine⟨⟨i+1,n+d.2.D.length,rfl,Ω,rfl,rfl,C.trans G,?_,?_⟩,by simp only[b1];omega⟩
   .have e:ip (f.funs.take (i+1))=ip (f.funs.take i)+x.lines.length:=by
     unfold ip;rw[u9,Y,o8,j6,List.sum_append,V7,List.map_nil,List.sum_cons,List.sum_nil,Nat.add_zero]
    omega
   .have:(i+1)*60000=i*60000+60000:=Ω
    have bm:d.2.D.length<=60000:=Ω
    omega
  .intro au s;refine jI (α:=hb) cE.p rfl dJ.u cE.i (bd aq C) ax λcs aP=>?_;obtain⟨sv,ad,bn,aL,gs,rfl,aR,ay⟩:=s9 aP;refine bt cE.i λam E bo G aS=>?_;refine bT (vs:=[sv,Γ ad]) cE.i rfl rfl (by intro v R;simp at R;rcases R with rfl|rfl<;>first|exact aR.cells.2|rfl) aS λao aU bp aA=>?_;have Z:Ext w2 ao:=G.put aU Ω;rw[az cE.p 1 aA rfl];refine (Kx (ay.ext Z).is).mono ?_;rintro _ bq _ ⟨rfl,aa⟩;have aN:=P.2.2.2.2.1;rw[aM,wrap_i64 Ω Ω,az cE.p 1 (aA.ext aa) rfl];refine (vH ((ay.ext Z).ext aa).is).mono ?_;rintro br ab _ ⟨aV,bu,bw,aB⟩;rw[aX al.u aB.ls];have bx:d.2.ac.length<=6:=by rw[P.2.1,Q.sizes,u7];exact aJ
   refine bY.range d.2.ac.length (λj out S=>Ext ab S/\ ∃gr,ab.heap.size<=gr/\ap .i64 ak S gr out (d.2.ac.take j)) Ω ⟨Ext.refl _,ab.heap.size,o4 _,ap.nil _ _ _ _⟩ ?_ ?_
   .rintro j out S k aY ⟨H,gr,aZ,I⟩ hk;obtain⟨z,K⟩:=aE (l:=d.2.ac) aY;refine bH Ω ?_;rw[be al.u ag.i Ψ (aB.ls.ext H) K];refine ej an.u ak.i rfl λa ga a1 bz L a2=>?_;refine jj an.u ak.i rfl (I.ext L) a2.ls Θ Θ λbA a6 bB bC a7 a8=>?_;have bD:=H.size;have bE:=L.size;rw[aM];refine hk _ _ ⟨(H.trans L).put a8 Ω,a6,Ω,?_⟩;rw[u9,K];exact a7
   .rintro out S k ⟨H,gr,aZ,I⟩;rw[o7] at I;refine ca Ω ?_;rw[aW];have ba:d.2.ac=x.sizes:=P.2.1;rw[ba] at I;refine (Ba I.ls λz K=>?_).mono ?_
    .rw[Q.sizes] at K;obtain⟨v,R,rfl⟩:=l7.1 K;have bG:=Q.scope.2 v R;refine (r.sizes.2.2 _ ?_).1;rw[u4,x6 Ω];exact Q4 _
    .rintro _ a1 _ ⟨rfl,L⟩;refine s _ _ _ ⟨(((Z.trans aa).trans aV).trans H).trans L,by congr 1,by rw[aK]⟩
 .have bb:i=y.length:=Ω
  subst bb;rw[B.1,o7] at aI;refine aT (λv E=>w2=E/\v= .bool (decide (16384<(n:Int)))) ?_ ?_
  .rintro _ _ ⟨rfl,rfl⟩;rw[ah];refine⟨λh=>⟨q.trans C,5,rfl,λbI=>Ω⟩,λh=>⟨q.trans C,0,rfl,λ_=>rfl⟩⟩
  .intro au s;rw[aW,bS];exact s _ _ ⟨rfl,rfl⟩
theorem ta:∀ {a b:Λ} {i:Nat},(∀ (j:Nat) (x y:Int),j<i->a[j]? =σ x->b[j]? =σ y->x=y)->i<=a.length->i<=b.length->fR a b=fR (a.drop i) (b.drop i)
 |_,_,0,_,_,_=>Ξ
 |[],_,i+1,_,h,_=>by simp at h
 |_::_,[],i+1,_,_,h=>by simp at h
 |x::a,y::b,i+1,he,h1,e=>by
  have f:=he 0 x y Ω rfl rfl;subst f;simp only[fR,Int.lt_irrefl,if_false,List.drop_succ_cons];exact ta (λj u v q hu p=>he (j+1) u v Ω hu p) (by simpa using h1) (by simpa using e)
theorem Cu {x:Int}:ai x7 cmp_isNaN_int [Δ x] w λv w'=>v= .bool false/\Ext w w':=by
 refine aw func207 ?_;simp only[bE];exact⟨Ξ,Ext.refl _⟩
theorem Cv {x:Int}:ai x7 HG [Δ x,Δ y] w λv w'=>v=Δ (if x<y then-1 else if y<x then 1 else 0)/\Ext w w':=by
 refine aw func162 ?_;refine Cu.mono ?_;rintro _ J _ ⟨rfl,a⟩;refine Cu.mono ?_;rintro _ w2 _ ⟨rfl,e⟩;simp only[aW,aQ,bS,ah];exact⟨λh=>⟨by rw[if_pos h],a.trans e⟩,λh=>⟨λf=>⟨by rw[if_neg h,if_pos f],a.trans e⟩,λf=>⟨by rw[if_neg h,if_neg f],a.trans e⟩⟩⟩
theorem Mp {b:Λ} (r:aF .i64 w bf a) (z:aF .i64 w bv b):ai x7 HH [bf,bv] w λv w'=>v=Δ (fR a b)/\Ext w w':=by
 refine aw func163 ?_;have Y:=r.le;rw[aX al.u r];refine⟨λ_ A J=>∃i:Nat,A=Δ (i:Int)/\i<=a.length/\i<=b.length/\Ext w J/\ ∀ (j:Nat) (x y:Int),j<i->a[j]? =σ x->b[j]? =σ y->x=y,λ_ A _=>a.length-(b1 A).toNat,⟨0,rfl,X8 _,X8 _,Ext.refl _,λj x y O=>Ω⟩,?_⟩;rintro _ _ J ⟨i,rfl,P,Q,f,I⟩;have p:fR a b=fR (a.drop i) (b.drop i):=ta I P Q;simp only[aQ,ah];refine⟨λs=>?_,λZ=>?_⟩
 .have s:i<a.length:=Ω
  obtain⟨x,B⟩:=aE (l:=a) s;have K:a.drop i=x::a.drop (i+1):=by rw[W5 s,(x4.1 B).2]
  rw[be al.u ag.i Ψ (r.ext f) B,aX al.u (z.ext f)];simp only[cU,ah];refine⟨λh=>?_,λh=>?_⟩
  .have:b.drop i=[]:=by rw[List.drop_eq_nil_iff];omega
   rw[this,K] at p;exact⟨by rw[p];rfl,f⟩
  have C:i<b.length:=Ω
  obtain⟨y,E⟩:=aE (l:=b) C;have R:b.drop i=y::b.drop (i+1):=by rw[W5 C,(x4.1 E).2]
  rw[be al.u ag.i Ψ (z.ext f) E];refine Cv.mono ?_;rintro _ w2 _ ⟨rfl,L⟩;rw[K,R] at p;simp only[fR] at p;simp only[bE,ah,aM];refine⟨λM=>⟨?_,f.trans L⟩,λS=>?_⟩
  .rw[p];by_cases h1:x<y
   .rw[if_pos h1,if_pos h1]
   .by_cases q:y<x
    .rw[if_neg h1,if_pos q,if_neg h1,if_pos q]
    .rw[if_neg h1,if_neg q] at M;exact absurd rfl M
  .rw[wrap_i64 Ω Ω];refine⟨⟨i+1,rfl,s,C,f.trans L,λj U V O G H=>?_⟩,by simp only[b1];omega⟩;by_cases W:j=i
   .subst W;rw[B] at G;rw[E] at H;cases G;cases H;have N:=Y7.1 S;by_cases h1:x<y
    .rw[if_pos h1] at N;omega
    .by_cases q:y<x
     .rw[if_neg h1,if_pos q] at N;omega
     .omega
   .exact I j U V Ω G H
 .have X:i=a.length:=Ω
  subst X;rw[List.drop_length] at p;rw[aX al.u (r.ext f),aX al.u (z.ext f)];simp only[aQ,ah];refine⟨λh=>⟨?_,f⟩,λh=>⟨?_,f⟩⟩
  .obtain⟨y,l,e⟩:∃y l,b.drop a.length=y::l:=⟨_,_,W5 Ω⟩;rw[p,e];rfl
  .have:b.drop a.length=[]:=by rw[List.drop_eq_nil_iff];omega
   rw[p,this];rfl
theorem Mq {x:Int} {f:x1} (h:aF .i64 w f [x,y]):ai x7 HF [f] w λv w'=>v=Δ (if x≠0 then x else y)/\Ext w w':=by
 refine aw func161 ?_;rw[aX al.u h];refine bY.range 2 (λi _ J=>Ext w J/\(1<=i->x=0)/\(2<=i->y=0)) Ω ⟨Ext.refl _,Ω,Ω⟩ ?_ ?_
 .rintro i _ J k hi ⟨a,h1,e⟩ hk;rw[aQ,ah];refine⟨λ_=>?_,λh=>by simp at h;omega⟩
  match i,hi,h1,e,hk with
  |0,_,h1,e,hk=>
   rw[be (i:=0) al.u ag.i Ψ (h.ext a) rfl,bE,ah];refine⟨λj=>⟨by rw[if_pos j],a⟩,λhe=>?_⟩;rw[aM];exact hk _ _ ⟨a,λ_=>Y7.1 he,λh=>Ω⟩
  |1,_,h1,e,hk=>
   rw[be (i:=1) al.u ag.i Ψ (h.ext a) rfl,bE,ah];have p:=h1 (o4 _);refine⟨λj=>⟨by rw[if_neg Ω],a⟩,λhe=>?_⟩;rw[aM];exact hk _ _ ⟨a,λ_=>p,λ_=>Y7.1 he⟩
 .rintro _ J k ⟨a,h1,e⟩;have p:=h1 Ω;have q:=e Ω;rw[aQ,ah];exact⟨λh=>by simp at h,λ_=>⟨by rw[if_neg Ω,q],a⟩⟩
structure cp where
 sv:x1
 g:Nat
 sc:Λ
 cs:Λ
def eB (h:cp):List x1:=[h.sv,Γ h.g]
abbrev jS (h:cp):x1:=.agg (eB h).toArray
def qC (h:cp):Int:=da h.sc
def iS (w:x3) (a:Nat) (h:cp):Prop:=(∃e,ap .i64 ag w e h.sv h.sc)/\(∀r,leads h.sv r->r≠a)/\jo h.sc
theorem iS.U {a:Nat} {h:cp} (ay:iS w a h) (e:ae S w w') (f:∀r,leads h.sv r->¬S r):iS w' a h:=by
 obtain⟨⟨j,hm⟩,p⟩:=ay;exact⟨⟨j,bq hm e f⟩,p⟩
theorem iS.one {a:Nat} {h:cp} (ay:iS w a h):∀u∈eB h,u.oneCell'=true:=by
 obtain⟨⟨e,hm⟩,_⟩:=ay;intro u hu;simp[eB] at hu;rcases hu with rfl|rfl
 .exact hm.ls.cells.2
 .rfl
def e0 (w:x3) (g:Nat) (v:x1) (L:List cp):Prop:=bg eB 2 cW w g v L/\ ∀h∈L,iS w g h
theorem e0.ext {g:Nat} {L:List cp} (h:e0 w g v L) (a:Ext w w'):e0 w' g v L:=⟨h.1.ext a,λx e=>(h.2 x e).U (a.U λ_=>False) λ_ _ h=>h⟩
theorem e0.at {g:Nat} {L:List cp} (h:e0 w g v L) {i:Nat} {x:cp} (hi:L[i]? =σ x):iS w g x:=h.2 x (x5 hi)
theorem tb {g:Nat} {L:List cp} {i:Nat} {x:cp} {K:x1->Prop} (a:y=(i:Int)) (h:e0 w g v L) (hi:L[i]? =σ x):
  V x7 (c8 gg v (Δ y)) w (λp=>V x7 (u5 cW p) w K)=K (jS x):=by
 rw[db a gg.u cW.i h.1 (x4.1 hi).1,bx cW.p cW.i rfl (h.1.range hi)]
theorem Mr {g:Nat} {L:List cp} {i:Nat} {x:cp} {K:Unit->x3->Prop} (q:y=(i:Int)) (h:e0 w g v L) (hi:i<L.length) (hk:iS w g x)
  (s:∀w',ae (λr=>leadsTo v r) w w'->e0 w' g v (L.set i x)->K () w'):V x7 (c8 gg v (Δ y)) w λp=>av x7 (o5 cW p (jS x)) w K:=by
 rw[db q gg.u cW.i h.1 hi];refine KA (f:=eB) cW.i h.1 rfl hk.one hi λw' e _ h'=>s w' e ⟨h',λz a=>?_⟩;rcases W3 a with a|rfl
 .exact (h.2 z a).U e λr j he=>(h.2 z a).2.1 r j (h.1.leads he).1
 .exact hk.U e λr j he=>hk.2.1 r j (h.1.leads he).1
abbrev Ms:x1:=.func (.func zc) #[] #[]
def tc (a b:cp):Int:=let c:Int:=if (a.sc.length:Int)<b.sc.length then-1 else if (b.sc.length:Int)<a.sc.length then 1 else 0
 if c≠0 then c else fR a.sc b.sc
theorem Mt {a b:cp} (f:jo a.sc) (j:jo b.sc):tc a b<0↔qC a<qC b:=by
 have p:=(vT f j).1;unfold qC tc;simp only;generalize q:(if (a.sc.length:Int)<b.sc.length then (-1:Int) else if (b.sc.length:Int)<a.sc.length then 1 else 0)=c;rw[p,<-q];by_cases h1:(a.sc.length:Int)<b.sc.length
 .rw[if_pos h1,if_pos Ω];exact⟨λ_=>.inl Ω,λ_=>Ω⟩
 .by_cases e:(b.sc.length:Int)<a.sc.length
  .rw[if_neg h1,if_pos e,if_pos Ω];exact⟨λh=>Ω,λh=>by rcases h with h|h<;>omega⟩
  .rw[if_neg h1,if_neg e,if_neg Ω];exact⟨λh=>.inr ⟨Ω,h⟩,λh=>by rcases h with h|h;omega;exact h.2⟩
theorem Mu {y:Nat} {a b:cp} (A:iS w y a) (B:iS w y b):ai x7 zc [jS a,jS b] w λv w'=>Ext w w'/\v=Δ (tc a b):=by
 obtain⟨⟨ga,r⟩,_,L⟩:=A;obtain⟨⟨fk,s⟩,_,M⟩:=B;refine aw func160 ?_;refine bn λg1 J N C h=>?_;refine bn λE w2 O z j=>?_;have h:aa J g1 cW [a.sv,Γ a.g]:=by
  obtain⟨_,_,_,e⟩:=du r.ls;simp only[jS,eB,e] at h ⊢;exact h
 have j:aa w2 E cW [b.sv,Γ b.g]:=by
  obtain⟨_,_,_,e⟩:=du s.ls;simp only[jS,eB,e] at j ⊢;exact j
 intro P x _ _;have f:=(C.trans z).trans x;have f1:=(h.ext z).ext x;have f2:=j.ext x;rw[az cW.p 0 f1 rfl,aX al.u (r.ls.ext f),az cW.p 0 f2 rfl,aX al.u (s.ls.ext f),
  az cW.p 0 f1 rfl,az cW.p 0 f2 rfl]
 refine Cv.mono ?_;rintro _ Q _ ⟨rfl,q⟩;refine⟨.inl q,?_⟩;refine (Mp ((r.ls.ext f).ext q) ((s.ls.ext f).ext q)).mono ?_;rintro _ R _ ⟨rfl,G⟩;refine pY (l:=[if (a.sc.length:Int)<b.sc.length then (-1:Int) else if (b.sc.length:Int)<a.sc.length then 1 else 0,fR a.sc b.sc]) al.u ag.i Ω rfl Ψ λS U V W H I=>?_;refine (Mq I.ls).mono ?_;rintro _ X _ ⟨rfl,K⟩;exact⟨((((f.trans q).trans G).trans H).trans K),rfl⟩
theorem Mv {g:Nat} {L:List cp} (h:e0 w g v L) (E:L.length<65536):
  ai x7 HE [v,Ms] w λ_ w'=>ae (λr=>leadsTo v r) w w'/\ ∃M,M.Perm L/\sQ qC M 0 M.length/\e0 w' g v M:=by
 have j:∀ {s:x3} {a:cp},ae (λr=>r=g) w s->iS w g a->iS s g a:=λf e=>e.U f λr z he=>e.2.1 r z he;refine (BA KK (G:=iS w g) (num:=qC) (cf:=tc) (cap:=#[]) KO KP (λa e=>e.one) (λa _=>rfl) (λa b e A=>Mt e.2.2 A.2.2) (Enters.of x7 KQ rfl Ψ) h.1 h.2 E λs a b f e A=>Mu (j f e) (j f A)).mono ?_;rintro _ w' _ ⟨f,M,C,hu,hm⟩;have H:ae (λr=>r=g) w w':=f.mono λr _ z=>(h.1.leads z).1;exact⟨f,M,C,λp q x y _ I _ B J=>hu p q x y I B J,hm,λx B=>j H (h.2 x (C.mem_iff.1 B))⟩
theorem Mw {m:Λ} (p:kv l) (q:l.Nodup) (e:m.Perm l) (I:m.Pairwise (·<= ·)):m=bk l:=by
 refine vU (f:=λx=>x) ?_ (vS l) λx=>?_
 .have r:m.Nodup:=e.nodup_iff.2 q;exact (List.Pairwise.and I r).imp λ{a b} h=>by
   obtain⟨h1,j⟩:=h;have j:a≠b:=j;omega
 .rw[e.mem_iff,qx p]
theorem Mx (h:∀z∈l,1<=z/\z<=32) (a:dr l=false):aK l<=4096:=by
 have:=of_decide_eq_false a;rw[vW h] at this;omega
theorem My {f:bZ} {d:hb} {x:ch} {m:Bool} {S R:af} (q:e6 N f) (bj:N<=60000) (Q:x∈f.funs) (aB:qA f.k x d) (aC:aj.rep m S R w cs d):
  ai x7 HA [.agg cs.toArray] w λv w'=>Ext w w'/\ ∃sv gs G V W,v= .tuple #[sv,Γ G]/\w.heap.size<=gs/\ap .i64 ag w' gs sv (bk x.scope)/\dd w' G V W (bP f.sizes (bk x.scope)) f.k (hY f.sizes f.k x).2:=by
 obtain⟨sv,ad,bl,aL,bm,rfl,H,aD⟩:=s9 aC;obtain⟨aF,aG,aH,bo,bp,aI⟩:=aB;obtain⟨a,aJ,aK⟩:=q.funs x Q;have ab:=sW a q.sizes.2.1;have bq:=a.len;rw[aF] at H;have aN:∀z∈x.sizes,1<=z/\z<=32:=λz ac=>by
  rw[a.sizes] at ac;obtain⟨v,aO,rfl⟩:=l7.1 ac;have br:=a.scope.2 v aO;refine q.sizes.2.2 _ ?_;rw[u4,x6 Ω];exact Q4 _
 have aP:=Mx aN aK;have X:=sV ab a.scope.1;have bt:(bk x.scope).length<=6:=by rw[X.length_eq];exact aJ
 refine aw func151 ?_;refine bn λam J bx ah A=>?_;have A:aa J am cE [sv,Γ ad]:=by obtain⟨_,_,_,rfl⟩:=du H;exact A
 rw[az cE.p 1 A rfl];refine (Ch (aD.ext ah).is Ω).mono ?_;rintro _ w2 _ ⟨Y,_,B⟩;rw[aG] at B;obtain⟨g,bz,bA,aQ,rfl,bB,bC,B,ak⟩:=B aP;rw[aH] at B;rw[bu,bw,az cE.p 0 (A.ext Y) rfl];have C:=ah.trans Y;refine v7 (H.ext C) Ω λv an gs bD K bE aR I L=>?_;have aS:=Mw ab a.scope.1 aR I;subst aS;have bF:=C.size;rw[aX al.u L.ls];refine kk (k:=.i64) al.u ag.i Ω Ω λgo ao bG M aq=>?_;have aT:ap .i64 ag ao go (.slice (σ ⟨go,0,ν⟩) (bk x.scope).length (bk x.scope).length) (p9 (bk x.scope).length 0):=ap.of (bV.full (k:=1) (n:=(bk x.scope).length) aq Ξ (by simp[maxLen];omega));rw[aX al.u (L.ls.ext M)];have bI:=aq.lt;have O:(fS x.scope (bk x.scope)).length=(bk x.scope).length:=by simp[fS]
 have aU:=K.trans M;have bJ:=C.trans aU;refine ci.range (bk x.scope).length (λi h=>ae (λr=>r=go) ao h/\ap .i64 ag h go (.slice (σ ⟨go,0,ν⟩) (bk x.scope).length (bk x.scope).length) ((fS x.scope (bk x.scope)).take i++p9 ((bk x.scope).length-i) 0)) Ω ⟨ae.refl _ _,by simpa using aT⟩ ?_ ?_
 .rintro i h k hi ⟨P,E⟩ hk;obtain⟨v,Z⟩:=aE (l:=(bk x.scope)) hi;have s:Ext an h:=M.put P Ω;have aV:Ext w h:=(C.trans K).trans s;have aW:v∈x.scope:=X.mem_iff.1 (x5 Z);refine bH Ω ?_;rw[be al.u ag.i Ψ (L.ls.ext s) Z];have aY:Ext J h:=(Y.trans K).trans s;rw[az cE.p 0 (A.ext aY) rfl];refine (Cm (H.ext aV)).mono ?_;rintro _ aZ _ ⟨y,r,rfl,a1⟩;have au:=pc aW;have a2:r=((x.scope.idxOf v:Nat):Int):=(a1 _ au).2 λj bK a6=>by have:=kt a.scope.1 a6 au;omega
  rw[iK rfl al.u ag.i (E.ext y) (by simp[O];omega)];refine iL ag.i (E.ext y) (by simp[O];omega) λbL a7 bM av=>?_;rw[aM];refine hk _ ⟨(P.trans (y.U _)).trans a7,?_⟩;have a8:(fS x.scope (bk x.scope))[i]? =σ r:=by rw[a2];exact Cb Z
  have e:((fS x.scope (bk x.scope)).take i++p9 ((bk x.scope).length-i) 0).set i r=(fS x.scope (bk x.scope)).take (i+1)++p9 ((bk x.scope).length-(i+1)) 0:=by
   have bb:((fS x.scope (bk x.scope)).take i).length=i:=by rw[j5,O];omega
   rw[T8 _ _ Ω,bb,U7,show (bk x.scope).length-i=((bk x.scope).length-(i+1))+1 by omega,List.replicate_succ,List.set_cons_zero,u9,a8,o8,c9];rfl
  rw[e] at av;exact av
 .rintro h k ⟨P,E⟩;have s:Ext an h:=M.put P Ω;have ax:Ext w2 h:=K.trans s;refine ca Ω ?_;rw[U7,List.replicate_zero,W7,o9 Ω] at E;have bc:∀t,ds x.sizes t->ba x.sizes aQ t=jM x f.k t:=λt bd=>by rw[ak.2 t bd];exact aI t
  obtain⟨ay,bf⟩:=Ly q Q ak.1 bc;have bg:Good (fS x.scope (bk x.scope)) x.sizes.length:=by
   rw[a.sizes,u7];exact sZ a.scope.1 X
  have bh:=(pb q Q);refine (Md (B.ext ax) q.k E.ls (by rw[O];omega) λ_=>?_).mono ?_
  .rw[ay];exact bh.small
  .rintro _ aZ _ ⟨y,_,bi⟩;obtain⟨G,V,W,rfl,aA⟩:=bi bg;rw[bu,bw];rw[ay,bf] at aA;exact⟨(C.trans ax).trans y,v,gs,G,V,W,rfl,Ω,(L.ext s).ext y,aA⟩
theorem Mz {P:W9} {t x f:r9} {k y g o cap:Nat} {z:x1} (h:P.underlying t=σ (.slice e)) (hi:aN P e k y z) (A:z.cells.size=k) (h1:∀u∈dS z.cells (n*k),u.oneCell'=true)
  (a:aa w g f cs) (H:o+n*k<=cs.length) (p:∀w',ae (λr=>r=g) w w'->aa w' g f (over cs o (dS z.cells (n*k)))->K (.tuple #[]) w'):av P (Z3.clear_ #[t] x #[.slice (σ ⟨g,o,ν⟩) n cap]) w K:=by
 obtain⟨i,hi,I,rfl,B⟩:=hi;have C:∀w,(zeroValue e).run P w= .ok z w:=λw=>by simp[zeroValue,typeInfo,hi,B]
 have E:(Z3.zeroCells z.cells n).toList=dS z.cells (n*k):=by
  unfold Z3.zeroCells dS;rw[A]
 have q:=run_storeCells_cells (P:=P) g o (dS z.cells (n*k)) 0 w (λj F=>by
   rw[oH] at F;rw[Nat.add_zero,a.cell (x6 (show o+j<cs.length by omega))];rfl) (λj _=>a.frozen _ _) h1
 simp only[Nat.add_zero] at q;obtain⟨G,s⟩:=nt (dS z.cells (n*k)) cs o w a;rcases Q3 n with rfl|J
 .refine .of (v:=.tuple #[]) (w':=w) (by simp[Z3.clear_,run_underlying h]) (cM.refl _) (p w (ae.refl _ _) ?_);rw[Nat.zero_mul,Z0 (oH z.cells 0)];exact a
 .obtain⟨m,rfl⟩:∃m,n=m+1:=⟨n-1,Ω⟩;refine .of (v:=.tuple #[]) (w':=_) (by simp[Z3.clear_,run_underlying h,C,E,q]) (s.cq a) (p _ s.U G)
theorem ef {α:Type} {f:α->List x1} {k:Nat} {g:Nat} {L:List α} (h:bg f k e w g v L) (j:leadsTo v r):r=g/\ ∃cs,aa w g e cs:=by
 obtain⟨_,⟨rfl,_⟩|⟨cap,cs,rfl,p,_⟩⟩:=h.1
 .exact (e7 j).elim
 .obtain⟨a,n,c,h1,q⟩:=j;cases h1;exact⟨q.symm,cs,p⟩
theorem MA {α:Type} {f:α->List x1} {k:Nat} {g:Nat} {L:List α} (h:bg f k e w g v L) (a:L≠[]):∃cs n c,v= .slice (σ ⟨g,0,ν⟩) n c/\aa w g e cs:=by
 obtain⟨_,⟨rfl,j⟩|⟨cap,cs,rfl,p,_⟩⟩:=h.1
 .exact absurd (Z0 j) a
 .exact⟨cs,_,_,rfl,p⟩
theorem e0.mk {g:Nat} {L:List cp} (h:bg eB 2 cW w g v L) (e:∀x∈L,(∃f,ap .i64 ag w f x.sv x.sc)/\jo x.sc):e0 w g v L:=by
 refine⟨h,λx a=>⟨(e x a).1,λr j=>?_,(e x a).2⟩⟩;obtain⟨cs,n,c,_,p⟩:=MA h (λq=>by rw[q] at a;cases a);obtain⟨⟨f,hm⟩,_⟩:=e x a;exact cd hm p Φ j
def Sem (w:x3) (k:Int) (sizes:Λ) (L:List cp):Prop:=∀x∈L,∃a e,dd w x.g a e (bP sizes x.sc) k x.cs
theorem wc {g p:Nat} {q:x1} {cs:Λ} (h:dd w g p q ac k cs) (e:ae S w w') (f:∀r,S r-> ∃c,aa w r cW c):dd w' g p q ac k cs:=by
 obtain⟨⟨aY,gs,h1,s,x⟩,y⟩:=h;refine⟨⟨aY,gs,h1.U e λI=>?_,bq s e λr j I=>?_,bq x e λr j I=>?_⟩,y⟩
 .obtain⟨c,a⟩:=f g I;unfold aa at h1 a;rw[h1] at a;have:=(Obj.cells.inj (c7 a)).2.1;exact absurd this Φ
 .obtain⟨c,a⟩:=f r I;exact cd s a Φ j rfl
 .obtain⟨c,a⟩:=f r I;exact cd x a Φ j rfl
theorem Sem.ext {L:List cp} (h:Sem w k sizes L) (a:Ext w w'):Sem w' k sizes L:=λx e=>by
 obtain⟨f,j,p⟩:=h x e;exact⟨f,j,p.ext a⟩
theorem Sem.row {L M:List cp} {g:Nat} (h:Sem w k sizes L) (a:e0 w g v M) (e:ae (λr=>leadsTo v r) w w'):Sem w' k sizes L:=λx f=>by
 obtain⟨j,p,q⟩:=h x f;exact⟨j,p,wc q e λr s=>by obtain⟨rfl,c,y⟩:=ef a.1 s;exact⟨c,y⟩⟩
def dV (h:cp):cz:=(h.sc,h.cs)
theorem MB {c:Int}:ai x7 uW [Δ c] w λv w'=>v= .bool (decide (0<c))/\Ext w w':=by
 refine aw func157 ?_;rw[bS];exact⟨rfl,Ext.refl _⟩
theorem MC (h:aF .i64 w sv l):
  ai x7 HC [sv,.func (.func uW) #[] #[]] w λv w'=>v= .bool (l.any λc=>decide (0<c))/\Ext w w':=by
 refine aw func156 ?_;refine ai.mono (K:=λv w'=>Ext w w'/\ ∃r:Int,v=Δ r/\(0<=r↔ ∃c∈l,0<c)) ?_ ?_
 .refine aw func204 ?_;rw[aX an.u h];refine bY.range l.length (λi _ J=>Ext w J/\ ∀c∈l.take i,¬0<c) h.le ⟨Ext.refl _,λc a=>by simp at a⟩ ?_ ?_
  .rintro i _ J k hi ⟨e,j⟩ hk;refine bH Ω ?_;obtain⟨x,p⟩:=aE (l:=l) hi;rw[be an.u ak.i Ψ (h.ext e) p];show ai x7 uW [Δ x] J _;refine MB.mono ?_;rintro _ w2 _ ⟨rfl,q⟩;rw[ah];refine⟨λf=>⟨e.trans q,i,rfl,⟨λ_=>⟨x,x5 p,f⟩,λ_=>Ω⟩⟩,λs=>?_⟩;rw[aM];refine hk _ _ ⟨e.trans q,λc a=>?_⟩;rw[u9,p] at a;rcases l9.1 a with a|a
   .exact j c a
   .simp at a;subst a;exact s
  .rintro _ J k ⟨e,j⟩;rw[o7] at j;rw[aQ,ah];exact⟨λh=>Ω,λ_=>⟨e,-1,rfl,⟨λh=>Ω,λ⟨c,a,f⟩=>absurd f (j c a)⟩⟩⟩
 .rintro _ J _ ⟨e,r,rfl,y⟩;rw[cU];refine⟨?_,e⟩;congr 1;rw[U1,decide_eq_true_eq,List.any_eq_true,y];exact⟨λ⟨c,a,f⟩=>⟨c,a,decide_eq_true f⟩,λ⟨c,a,f⟩=>⟨c,a,of_decide_eq_true f⟩⟩
theorem Cw {h:Nat} {x:cp} {q:x1} (r:iS w h x) (s:dd w x.g j q ac k x.cs):ai x7 pP [jS x] w λv w'=>v= .bool (!fD (dV x))/\Ext w w':=by
 obtain⟨⟨B,hm⟩,_⟩:=r;refine aw func155 ?_;refine bn λam J C f a=>?_;have a:aa J am cW [x.sv,Γ x.g]:=by
  obtain⟨_,_,_,e⟩:=du hm.ls;simp only[jS,eB,e] at a ⊢;exact a
 rw[az cW.p 1 a rfl];refine (mB (s.ext f)).mono ?_;rintro E w2 _ ⟨y,G,H,z⟩;refine (MC z.ls).mono ?_;rintro _ I _ ⟨rfl,A⟩;rw[bF];exact⟨rfl,(f.trans y).trans A⟩
theorem MD {g:Nat} {L:List cp} (h:e0 w g v L) (I:Sem w k sizes L):
  ai x7 za [v,.func (.func pP) #[] #[]] w λr w'=>Ext w w'/\((r=Δ (-1)/\ ∀x∈L,fD (dV x)=true)\/ ∃i:Nat,r=Δ (i:Int)/\i<L.length/\(∀x∈L.take i,fD (dV x)=true)/\ ∀x,L[i]? =σ x->fD (dV x)=false):=by
 refine aw func152 ?_;rw[eA gg.u h.1];refine bY.range L.length (λi _ J=>Ext w J/\ ∀x∈L.take i,fD (dV x)=true) h.1.le ⟨Ext.refl _,λc a=>by simp at a⟩ ?_ ?_
 .rintro i _ J k hi ⟨e,f⟩ hk;refine bH Ω ?_;obtain⟨x,j⟩:=aE (l:=L) hi;rw[tb rfl (h.ext e) j];show ai x7 pP [jS x] J _;obtain⟨B,C,s⟩:=I x (x5 j);refine (Cw ((h.ext e).at j) (s.ext e)).mono ?_;rintro _ w2 _ ⟨rfl,p⟩;rw[b0];refine⟨λz=>⟨e.trans p,.inr ⟨i,rfl,hi,f,λy q=>by rw[j] at q;cases q;simpa using z⟩⟩,λA=>?_⟩;rw[aM];refine hk _ _ ⟨e.trans p,λc a=>?_⟩;rw[u9,j] at a;rcases l9.1 a with a|a
  .exact f c a
  .simp at a;subst a;simpa using A
 .rintro _ J k ⟨e,f⟩;rw[o7] at f;rw[aQ,ah];exact⟨λh=>Ω,λ_=>⟨e,.inl ⟨rfl,f⟩⟩⟩
def fT (x:cp):Bool:=fD (dV x)
theorem we {L:List cp} {x:cp} (a:L[j]? =σ x):(L.take (j+1)).filter fT=if fT x=true then (L.take j).filter fT++[x] else (L.take j).filter fT:=by
 rw[u9,a,o8,List.filter_append];by_cases h:fT x=true
 .rw[if_pos h];simp[h]
 .rw[if_neg h];simp[h]
theorem Cx {z:Array x1} (a:0<z.size) (h:∀u∈z.toList,u.oneCell'=true):∀u∈dS z n,u.oneCell'=true:=λu hu=>by
 unfold dS at hu;rw[Array.toList_map,l7] at hu;obtain⟨i,_,rfl⟩:=hu;have e:i % z.size<z.size:=Nat.mod_lt _ a;rw[getElem!_pos z (i % z.size) e];exact h _ Ξ
theorem ME {g:Nat} {L:List cp} (h:e0 w g v L) (I:Sem w k sizes L) (a8:L.length<=100000):
  ai x7 HD [v,.func (.func pP) #[] #[]] w λf w'=>ae (λr=>leadsTo v r) w w'/\e0 w' g f (L.filter fT)/\ ∀r,leadsTo f r->leadsTo v r:=by
 refine aw func158 ?_;refine (MD h I).mono ?_;rintro r J _ ⟨G,q⟩;rcases q with⟨rfl,P⟩|⟨Q,rfl,ay,P,az⟩
 .rw[bi,ah];refine⟨λ_=>⟨G.U _,?_,λr q=>q⟩,λh=>absurd rfl h⟩;rw[List.filter_eq_self.2 (show ∀x∈L,fT x=true from P)];exact h.ext G
 rw[bi,ah];refine⟨λh=>Ω,λ_=>?_⟩;rw[aM,wrap_i64 Ω Ω];obtain⟨R,ab⟩:=aE (l:=L) ay;refine⟨λS W w2=>∃ (i j:Nat) (M:List cp),S=Δ (i:Int)/\W=Δ (j:Int)/\i<j/\j<=L.length/\M.length=L.length/\M.take i=(L.take j).filter fT/\M.drop j=L.drop j/\(∀x∈M,x∈L)/\e0 w2 g v M/\ae (λr=>leadsTo v r) w w2,
  λ_ W _=>L.length-(b1 W).toNat,⟨Q,Q+1,L,rfl,by congr 1,Ω,Ω,rfl,?_,rfl,λx s=>s,h.ext G,G.U _⟩,?_⟩
 .have aA:¬fT R=true:=by rw[show fT R=false from az R ab];simp
  rw[we ab,if_neg aA,List.filter_eq_self.2 (show ∀x∈L.take Q,fT x=true from P)]
 rintro _ _ w2 ⟨i,j,M,rfl,rfl,ba,bb,ac,A,ad,af,e,H⟩;have aB:Sem w2 k sizes L:=I.row h H;rw[eA gg.u e.1,aQ,ah];refine⟨λX=>?_,λbc=>?_⟩
 .have X:j<L.length:=Ω
  obtain⟨x,s⟩:=aE (l:=L) X;have K:M[j]? =σ x:=by
   have h1:(M.drop j)[0]? =(L.drop j)[0]?:=by rw[ad]
   rw[List.getElem?_drop,List.getElem?_drop,Nat.add_zero] at h1;rw[h1,s]
  have ag:M.drop (j+1)=L.drop (j+1):=by
   have h1:(M.drop j).drop 1=(L.drop j).drop 1:=by rw[ad]
   rw[List.drop_drop,List.drop_drop] at h1;exact h1
  refine aT (λS N=>∃ (C:Nat) (z:List cp),S=Δ (C:Int)/\C<j+1/\z.length=L.length/\z.take C=(L.take (j+1)).filter fT/\z.drop (j+1)=L.drop (j+1)/\(∀x∈z,x∈L)/\e0 N g v z/\ae (λr=>leadsTo v r) w N) ?_ ?_
  .rintro _ N ⟨C,z,rfl,h1,Y,aC,aD,aF,aG,aH⟩;rw[aM,wrap_i64 Ω Ω];exact⟨⟨C,j+1,z,rfl,rfl,h1,X,Y,aC,aD,aF,aG,aH⟩,by simp only[b1];omega⟩
  .intro au aj;rw[tb rfl e K];refine bt cW.i λam N bd aI aJ=>?_;refine bT (vs:=eB x) cW.i rfl rfl (e.at K).one aJ λak aK be al=>?_;have Z:Ext w2 ak:=aI.put aK Ω;rw[bx cW.p cW.i rfl al.range];show ai x7 pP [jS x] ak _;obtain⟨bf,bg,aL⟩:=aB x (x5 s);refine (Cw ((e.ext Z).at K) (aL.ext Z)).mono ?_;rintro _ bh _ ⟨rfl,an⟩;have E:=Z.trans an;rw[bF,Bool.not_not,b0];refine⟨λhk=>?_,λaN=>?_⟩
   .rw[bx cW.p cW.i rfl (al.ext an).range];refine Mr rfl (e.ext E) Ω ((e.ext E).at K) λbj aO aP=>?_;rw[aM,wrap_i64 Ω Ω];refine aj _ _ ⟨i+1,M.set i x,rfl,Ω,by simp[ac],?_,?_,λy B=>?_,aP,(H.trans (E.U _)).trans aO⟩
    .have aa:fT x=true:=hk;rw[we s,if_pos aa,u9,j9 Ω,o8,List.take_set_of_le (o4 _),A]
    .rw[List.drop_set_of_lt Ω,ag]
    .rcases W3 B with B|rfl
     .exact af y B
     .exact x5 s
   .have aa:¬fT x=true:=by rw[show fT x=false from aN];simp
    exact aj _ _ ⟨i,M,rfl,Ω,ac,by rw[we s,if_neg aa,A],ag,af,e.ext E,H.trans (E.U _)⟩
 .have aR:j=L.length:=Ω
  subst aR;rw[o7] at A;obtain⟨⟨bk,aS⟩,ao⟩:=e.1;rcases aS with⟨_,bl⟩|⟨cap,cs,aU,aV,bm,aW,aX,aY⟩
  .omega
  subst aU;have aZ:(V x7 (U2 gg (.slice (σ ⟨g,0,ν⟩) M.length cap) (σ (Δ (i:Int))) ν ν) w2 λa1=>
    av x7 (Z3.clear_ #[gg] ID #[a1]) w2 λu O=>
    V x7 (U2 gg (.slice (σ ⟨g,0,ν⟩) M.length cap) ν (σ (Δ (i:Int))) ν) O λa2=>
    (λf w'=>ae (λr=>leadsTo (.slice (σ ⟨g,0,ν⟩) M.length cap) r) w w'/\e0 w' g f (L.filter fT)/\ ∀r,leadsTo f r->leadsTo (.slice (σ ⟨g,0,ν⟩) M.length cap) r) a2 O):=by
   rw[iG (l:=i) (h:=M.length) (m:=cap) gg.u cW.i (nr i _ rfl) kj gj Ω Ω (o4 _),if_neg Ω];simp only[Z6,S2];refine Mz (g:=g) (o:=0+i*2) (n:=M.length-i) (k:=2) gg.u cW.i rfl ?_ aV Ω λO ap a6=>?_
   .exact Cx Φ Φ
   rw[iG (l:=0) (h:=i) (m:=cap) gg.u cW.i ki (ns i _ rfl) gj Ω Ω (o4 _),if_neg Ω];simp only[Z6,S2,Nat.zero_mul,W0,Nat.sub_zero];have a7:(dS (x1.agg #[.slice ν 0 0,.pointer ν]).cells ((M.length-i)*2)).length=(M.length-i)*2:=oH _ _;have bn:(M.flatMap eB).length=M.length*2:=ij ao;have aq:(L.filter fT).length=i:=by rw[<-A,j5];omega
   have key:(λf w'=>ae (λr=>leadsTo (.slice (σ ⟨g,0,ν⟩) M.length cap) r) w w'/\e0 w' g f (L.filter fT)/\ ∀r,leadsTo f r->leadsTo (.slice (σ ⟨g,0,ν⟩) M.length cap) r) (.slice (σ ⟨g,0,ν⟩) (L.filter fT).length cap) O:=by
    refine⟨H.trans (ap.mono λr _ he=>⟨_,_,_,rfl,he.symm⟩),⟨⟨⟨ij (k:=2) (λy _=>rfl),.inr ⟨cap,_,rfl,a6,Ω,aW,by rw[mn,aX],?_⟩⟩,λy _=>rfl⟩,λy B=>?_⟩,λr q=>?_⟩
    .rw[aq,<-A,<-qp i ao,<-aY,List.take_take,mo (by rw[a7];omega),c9,List.take_append_of_le_length (by rw[j5];omega),List.take_take];congr 1;omega
    .have ax:y∈M:=by rw[<-A] at B;exact T9 B
     exact (e.2 y ax).U ap λr q he=>(e.2 y ax).2.1 r q he
    .obtain⟨a,n,c,h1,Y⟩:=q;cases h1;exact⟨_,_,_,rfl,Y⟩
   rw[aq] at key;exact key
  exact aZ
theorem wg {k:o6} {g cap:Nat} {b:Option Addr} (h:ap k e w g (.slice b n cap) l) (r:0<l.length):
  b=σ ⟨g,0,ν⟩/\n=l.length/\ ∃cs,aa w g e cs/\n<=cap/\cap<=maxLen/\cs.length=cap/\cs.take n=ints k l:=by
 obtain⟨_,⟨_,h1⟩|⟨s,cs,h1,a,f,j,p,q⟩⟩:=h
 .omega
 .cases h1;exact⟨rfl,rfl,cs,a,f,j,by simpa using p,by simpa using q⟩
theorem MF {g cap:Nat} (h:ap .i64 ag w g (.slice (σ ⟨g,0,ν⟩) n cap) l) (p:j<l.length):aF .i64 w (.slice (σ ⟨g,j,ν⟩) (n-j) (cap-j)) (l.drop j):=by
 obtain⟨_,q,cs,a,h1,r,s,f⟩:=wg h Ω;have:=Jc (o:=j) (k:=n-j) (c:=cap-j) a Ω Ω Ω;refine aF.of (n:=n-j) ?_;have e:(cs.drop j).take (n-j)=ints .i64 (l.drop j):=by
  rw[<-List.drop_take,f,ints,ints,List.map_drop]
 rw[e] at this;exact this
theorem MG {g:Nat} (h:ap .i64 ag w g sv l) (aS:l.length<=1000):
  ai x7 H3 [sv] w λv w'=>ae (λr=>r=g) w w'/\ap .i64 ag w' g v (dedup l l.length):=by
 refine aw func199 ?_;rw[aX al.u h.ls];simp only[aQ,ah];refine⟨λaU=>⟨ae.refl _ _,?_⟩,λaV=>?_⟩
 .rw[s8 (o4 _) (λi hi W=>Ω),o7];exact h
 obtain⟨n,s⟩:∃n,l.length=n:=⟨_,rfl⟩;obtain⟨cap,rfl⟩:∃cap,sv= .slice (σ ⟨g,0,ν⟩) n cap:=by
  obtain⟨_,⟨_,h1⟩|⟨ao,cs,h1,_⟩⟩:=id h
  .omega
  .exact⟨ao,by rw[h1,s]⟩
 obtain⟨_,_,_,_,aW,aq,_⟩:=wg h Ω;refine⟨λ_ t J=>∃j:Nat,t=Δ (j:Int)/\1<=j/\j<=n/\Ext w J/\ ∀i,i<j->0<i->l[i]? ≠l[i-1]?,λ_ t _=>n-(b1 t).toNat,⟨1,rfl,Ω,Ω,Ext.refl _,λi h1 X=>Ω⟩,?_⟩;rintro aY _ J ⟨j,rfl,aZ,Y,A,I⟩;rw[aX al.u (h.ls.ext A)];simp only[aQ,ah,ei];refine⟨λav w2 ax _ _=>?_,λa1=>⟨A.U _,?_⟩⟩
 .have av:j<n:=Ω
  have B:=A.trans ax;have Z:=h.ls.ext B;obtain⟨a,K⟩:=aE (l:=l) (i:=j) Ω;obtain⟨b,L⟩:=aE (l:=l) (i:=j-1) Ω;rw[be al.u ag.i Ψ Z K];simp only[dR];rw[wrap_i64 Ω Ω,fA (i:=j-1) Ω al.u ag.i Ψ Z L];simp only[bi,ah,aM];refine⟨λM=>?_,λM=>?_⟩
  .subst M;rw[iG al.u ag.i (l:=j) (h:=n) (m:=cap) r3 kj gj Ω Ω Ω,if_neg Ω];have ay:U6 (λx:Addr=>x.add (j*1)) (σ ⟨g,0,ν⟩)=σ ⟨g,j,ν⟩:=by simp[S2]
   rw[ay];have aa:dedup l (j+1)=l.take j:=by rw[v8 Ω (by rw[K,L]),s8 Ω I]
   refine⟨λN t O=>∃ (q e:Nat) (f:Λ),N=Δ (q:Int)/\t=Δ (e:Int)/\1<=e/\j+e<=n/\ae (λr=>r=g) w O/\ap .i64 ag O g (.slice (σ ⟨g,0,ν⟩) n cap) f/\f.length=n/\
     q=(dedup l (j+e)).length/\f.take q=dedup l (j+e)/\q<=j+e-1/\ ∀i,j+e-1<=i->f[i]? =l[i]?,λ_ t _=>n-(b1 t).toNat,
    ⟨j,1,l,rfl,rfl,Ω,Ω,B.U _,h.ext B,s,by rw[aa,j5];omega,by rw[aa],Ω,λi _=>rfl⟩,?_⟩
   rintro _ _ O ⟨q,e,f,rfl,rfl,a2,a6,P,ab,ac,ad,C,az,E⟩;rw[h9 al.u];simp only[aQ,ah,ei];refine⟨λaf=>?_,λaf=>?_⟩
   .have af:j+e<n:=Ω
    refine aT (λN Q=>∃ (q:Nat) (f:Λ),N=Δ (q:Int)/\ae (λr=>r=g) w Q/\ap .i64 ag Q g (.slice (σ ⟨g,0,ν⟩) n cap) f/\f.length=n/\
     q=(dedup l (j+(e+1))).length/\f.take q=dedup l (j+(e+1))/\q<=j+(e+1)-1/\ ∀i,j+(e+1)-1<=i->f[i]? =l[i]?) ?_ ?_
    .rintro _ Q ⟨q,f,rfl,h1,X,aA,aB,aC,aD,aF⟩;simp only[aM];rw[wrap_i64 Ω Ω];exact⟨⟨q,e+1,f,rfl,rfl,Ω,Ω,h1,X,aA,aB,aC,aD,aF⟩,by simp only[b1];omega⟩
    .intro au aj a7 R _ _;have G:=ab.ext R;have S:=MF (j:=j) G Ω;obtain⟨y,H⟩:=aE (l:=l) (i:=j+e) Ω;obtain⟨z,V⟩:=aE (l:=l) (i:=j+e-1) Ω;have ak:(f.drop j)[e]? =σ y:=by rw[List.getElem?_drop,E _ Ω,H]
     have aG:(f.drop j)[e-1]? =σ z:=by rw[List.getElem?_drop,E _ Ω,<-V];congr 1;omega
     rw[be al.u ag.i Ψ S ak];simp only[dR];rw[wrap_i64 Ω Ω,fA (i:=e-1) Ω al.u ag.i Ψ S aG];simp only[bE,ah,aM];refine⟨λp=>?_,λp=>?_⟩
     .rw[be al.u ag.i Ψ S ak,iK rfl al.u ag.i G Ω];refine iL ag.i G Ω λa8 aH ba aI=>?_;rw[wrap_i64 Ω Ω];have am:dedup l (j+e+1)=dedup l (j+e)++[y]:=wa H (λ_=>by rw[H,V];simpa using p);refine aj _ _ ⟨q+1,_,rfl,(P.trans (R.U _)).trans aH,aI,by simpa using ac,?_,?_,Ω,λi hi=>?_⟩
      .rw[<-R7,am];simp;omega
      .rw[<-R7,am,u9,j9 Ω,List.take_set_of_le (o4 _),C];rfl
      .rw[Y0 Ω];exact E i Ω
     .have p:y=z:=Y7.1 p;have an:dedup l (j+e+1)=dedup l (j+e):=v8 Ω (by rw[H,V,p]);exact aj _ _ ⟨q,f,rfl,P.trans (R.U _),G,ac,by rw[<-R7,an];exact ad,by rw[<-R7,an];exact C,Ω,λi hi=>E i Ω⟩
   .have hk:j+e=n:=Ω
    rw[hk] at ad C az;obtain⟨_,_,cs,aJ,_,_,bb,aK⟩:=wg ab Ω;simp only[maxLen] at aq;rw[iG al.u ag.i (l:=q) (h:=n) (m:=cap) r3 kj gj Ω Ω Ω,if_neg Ω];have aL:U6 (λx:Addr=>x.add (q*1)) (σ ⟨g,0,ν⟩)=σ ⟨g,q,ν⟩:=by simp[S2]
    rw[aL];refine Jd al.u ag.i rfl rfl aJ Ω Ω λbc aN bd aO=>?_;rw[iG al.u ag.i (l:=0) (h:=q) (m:=cap) ki r4 gj Ω Ω Ω,if_neg Ω];have aP:U6 (λx:Addr=>x.add (0*1)) (σ ⟨g,0,ν⟩)=σ ⟨g,0,ν⟩:=by simp[S2]
    rw[aP,s];refine⟨P.trans aN,?_⟩;rw[<-C];refine ap.of (n:=q) ⟨Θ,.inr ⟨cap,_,Ξ,aO,Ω,by simp only[maxLen];omega,by rw[mn];omega,?_⟩⟩;rw[T5];apply Y6;intro i;by_cases hi:i<q
    .rw[X4 hi,oG _ _ _ Θ,if_neg Ω,ints,x8,X4 hi];have:(cs.take n)[i]? =(ints .i64 f)[i]?:=by rw[aK]
     rw[X4 Ω,ints,x8] at this;exact this
    .rw[Z4 Θ,Z4 Θ]
  .rw[wrap_i64 Ω Ω];refine⟨⟨j+1,rfl,Ω,Ω,B,λi hi W=>?_⟩,by simp only[b1];omega⟩;by_cases aR:i=j
   .subst aR;rw[K,L];intro he;exact M (c7 he)
   .exact I i Ω W
 .have Y:j=n:=Ω
  rw[s8 (o4 _) (by rw[s,<-Y];exact I),o7];exact h.ext A
theorem MH (z:n<=1000000):ai x7 In [.slice ν 0 0,Δ (n:Int)] w λv w'=>Ext w w'/\ ∃g,w.heap.size<=g/\ap .i64 ag w' g v []:=by
 refine aw func229 ?_;refine dm (λJ=>w=J) ?_ ?_
 .rintro _ rfl;refine aT (λv w'=>Ext w w'/\ ∃g,w.heap.size<=g/\ap .i64 ag w' g v []) (λ_ _ h=>h) λau a=>?_;rw[zY al.u,h9 al.u];simp only[dR];have e:X7.wrap (((0:Nat):Int)-((0:Nat):Int))=0:=Φ
  have f:X7.wrap ((n:Int)-0)=n:=by rw[wrap_i64 Ω Ω];omega
  rw[e,f];simp only[bS,ah];refine⟨λh=>?_,λh=>a _ _ ⟨Ext.refl _,w.heap.size,o4 _,ap.nil _ _ _ _⟩⟩;rw[zY al.u,iG al.u ag.i (l:=0) (h:=0) (m:=0) ki r4 gj Ω Ω Ω,if_pos rfl];refine Jb (k:=n) (xs:=[]) rfl al.u ag.u ag.i rfl ⟨rfl,0,0,ν,0,rfl,o4 _,X8 _,λh=>absurd h (Nat.lt_irrefl _),λj v h=>by simp at h⟩ Ω Ω Ω Ω λv g w' A p hm=>?_;obtain⟨_,⟨_,B⟩|⟨cap,cs,rfl,q,h1,r,s,C⟩⟩:=hm
  .omega
  rw[h9 al.u,iG al.u ag.i (l:=0) (h:=0) (m:=cap) ki r4 gj Ω Ω Ω,if_neg Ω];have y:U6 (λx:Addr=>x.add (0*1)) (σ ⟨g,0,ν⟩)=σ ⟨g,0,ν⟩:=by simp[S2]
  rw[y];refine a _ _ ⟨p,g,Ω,ap.of (n:=0) ⟨Ξ,.inr ⟨cap,cs,Ξ,q,Ω,r,s,Ξ⟩⟩⟩
 .intro au a;simp only[aQ,ah];exact⟨λh=>Ω,λ_=>a _ rfl⟩
theorem MI {b:Λ} (N:aF .i64 w bf a) (O:aF .i64 w bv b) (S:a.length<=1000) (U:b.length<=1000)
  (V:∀v w' g,Ext w w'->w.heap.size<=g->ap .i64 ag w' g v (a++b)->K v w'):
  av x7 (Y4 cu 2 #[(0,bf),(1,bv)]) w λt J=>ai x7 H4 [t] J K:=by
 obtain⟨⟨B,C,E,W⟩,⟨G,H,I,X⟩⟩:(∃x n c,bf= .slice x n c)/\(∃x n c,bv= .slice x n c):=by
  obtain⟨_,_,_,x,c,h1,_⟩:=id N;obtain⟨_,_,_,y,d,Y,_⟩:=id O;exact⟨⟨x,_,c,h1⟩,⟨y,_,d,Y⟩⟩
 subst W;subst X;refine jG cu.u al.i Ω (cs:=#[.slice B C E,.slice G H I]) Ψ λg J az q s=>?_;have s:aa J g al [.slice B C E,.slice G H I]:=s;have key:∀i:Nat,i<2-> ∃v l,[x1.slice B C E,.slice G H I][i]? =σ v/\[a,b][i]? =σ l/\aF .i64 w v l/\l.length<=1000:=λi hi=>by
  match i,hi with
  |0,_=>exact⟨_,_,rfl,rfl,N,S⟩
  |1,_=>exact⟨_,_,rfl,rfl,O,U⟩
 refine aw func200 ?_;rw[h9 cu.u];refine bY.range 2 (λi size w2=>Ext J w2/\ ∃n:Nat,n<=1000*i/\size=Δ (n:Int)) Ω ⟨Ext.refl _,0,Ω,rfl⟩ ?_ ?_
 .rintro i _ w2 Z hi ⟨f,n,ab,rfl⟩ ac;simp only[aQ,ah];refine⟨λ_=>?_,λh=>Ω⟩;obtain⟨v,l,L,P,M,ad⟩:=key i hi;refine aT (λv Q=>w2=Q/\v=Δ ((n+l.length:Nat):Int)) ?_ ?_
  .rintro _ _ ⟨rfl,rfl⟩;simp only[aM];exact ac _ _ ⟨f,_,Ω,rfl⟩
  .intro au ae;rw[fz (b:=g) (o:=0) cu.u al.i hi (λ_=>rfl),aB Ψ ((s.ext f).cell (o:=0+i*1) (by rw[<-L];congr 1;omega)),aX al.u (M.ext (q.trans f))];simp only[aM,aQ,ah];rw[wrap_i64 Ω Ω];exact⟨λh=>Ω,λ_=>ae _ _ ⟨rfl,by congr 1⟩⟩
 .rintro _ w2 Z ⟨f,n,ab,rfl⟩;simp only[aQ,ah];refine⟨λh=>Ω,λ_=>?_⟩;refine (MH (n:=n) Ω).mono ?_;rintro v0 Q _ ⟨R,af,aA,aj⟩;have aC:=q.size;have aD:=f.size;have aE:=R.size;have ak:=f.trans R;rw[h9 cu.u];refine bY.range 2 (λi v z=>Ext J z/\ ∃p,J.heap.size<=p/\ap .i64 ag z p v (([a,b].take i).flatten)/\(([a,b].take i).flatten).length<=1000*i) Ω ⟨ak,af,Ω,aj,Ξ⟩ ?_ ?_
  .rintro i v4 z am hi ⟨j,p,an,A,aG⟩ ao;simp only[aQ,ah];refine⟨λ_=>?_,λh=>Ω⟩;obtain⟨v,l,L,P,M,ad⟩:=key i hi;rw[fz (b:=g) (o:=0) cu.u al.i hi (λ_=>rfl),aB Ψ ((s.ext j).cell (o:=0+i*1) (by rw[<-L];congr 1;omega))];refine jj al.u ag.i rfl A (M.ext (q.trans j)) Ω Ω λaH aq aI aJ ax ay=>?_;simp only[aM];have aK:=j.size;have e:([a,b].take (i+1)).flatten=([a,b].take i).flatten++l:=by rw[u9,P];simp
   refine ao _ _ ⟨j.then ay (by rintro r aL rfl;omega),aq,Ω,by rw[e];exact ax,by rw[e,p8];omega⟩
  .rintro v4 z am ⟨j,p,an,A,_⟩;simp only[aQ,ah];refine⟨λh=>Ω,λ_=>V _ _ p (q.trans j) Ω ?_⟩;have e:([a,b].take 2).flatten=a++b:=Ξ
   rw[e] at A;exact A
def pd (f a h e vars:Λ):Prop:=∀p∈vars,p∈a->p∈e->hZ f (hD a p)=hZ h (hD e p)
def dw (a e f h vars:Λ):Λ:=vars.map λp=>max (hZ a (hD e p)) (hZ f (hD h p))
theorem Cy (a e f h vars:Λ):(dw a e f h vars).length=vars.length:=by simp[dw]
theorem td {x:Int}:0<=hD l x↔x∈l:=by
 unfold hD;by_cases h:x∈l
 .rw[if_pos h];exact⟨λ_=>h,λ_=>Ω⟩
 .rw[if_neg h];exact⟨λh=>Ω,λa=>absurd a h⟩
theorem MJ {g az Y aA:Nat} {H Z:x1} {f q vars e:Λ} {aB:Int} {c1 c2:Λ} (h1:dd w g az sv f k c1) (ab:dd w Y aA H q aB c2) (s:aF .i64 w Z vars) (aC:aF .i64 w bf a) (I:aF .i64 w bv e) (aD:hc a) (aG:hc e) (ba:vars.length<=1000):
  ai x7 H5 [Z,Γ g,bf,Γ Y,bv] w λv w'=>Ext w w'/\
   (¬pd f a q e vars->v= .tuple #[.slice ν 0 0,.bool false])/\
   (pd f a q e vars-> ∃x am,v= .tuple #[x,.bool true]/\w.heap.size<=am/\ap .i64 ag w' am x (dw f a q e vars)):=by
 have sub:∀ {w:x3} {g:Nat} {sv:x1} {k:Int} {aY:x1},aa w g cX [sv,Δ k,aY]->w.rangeAt g (0+0) [sv]:=λI=>nC I (by
  intro j v s
  match j,s with
  |0,s=>exact s)
 refine aw func201 ?_;rw[aX al.u s];refine kk al.u ag.i Ω Ω λgz J bb ac aH=>?_;have aI:ap .i64 ag J gz (.slice (σ ⟨gz,0,ν⟩) vars.length vars.length) (p9 vars.length 0):=ap.of (n:=vars.length) (bV.full aH Ξ (by simp[maxLen];omega));generalize (x1.slice (σ ⟨gz,0,ν⟩) vars.length vars.length)=aJ at*;rw[aX al.u (s.ext ac)];have K:=Cy f a q e vars;refine ot.range vars.length (λi _ _ w2=>Ext w w2/\ap .i64 ag w2 gz aJ (upto (dw f a q e vars) 0 i)/\ ∀ (j:Nat) (p:Int),j<i->vars[j]? =σ p->p∈a->p∈e->hZ f (hD a p)=hZ q (hD e p)) Ω
  ⟨ac,by rw[p6,K];exact aI,λj p C=>Ω⟩ ?_ ?_
 .rintro i _ _ w2 aK hi ⟨y,hm,L⟩ aL;simp only[aQ,ah];refine⟨λ_=>?_,λh=>Ω⟩;obtain⟨p,z⟩:=aE (l:=vars) hi;rw[be al.u ag.i Ψ (s.ext y) z];refine (wb (aC.ext y) aD).mono ?_;rintro _ bc _ ⟨rfl,M⟩;refine (wb (I.ext (y.trans M)) aG).mono ?_;rintro _ aN _ ⟨rfl,ad⟩;have ae:=(y.trans M).trans ad;refine aT (λv af=>Ext aN af/\ ∃c,v= .bool c/\(c=true↔p∈a/\p∈e/\hZ f (hD a p)≠hZ q (hD e p))) ?_ ?_
  .rintro _ af ⟨aj,c,rfl,ak⟩;have an:=ae.trans aj;rw[b0];refine⟨λaO=>⟨an,λ_=>by first|rfl|trivial,λC=>?_⟩,λaR=>?_⟩
   .obtain⟨A,B,aS⟩:=ak.1 aO;exact absurd (C p (x5 z) A B) aS
   .simp only[ei];intro bd ao _ _;have N:=an.trans ao;obtain⟨⟨aY,gs,O,P,_⟩,_⟩:=h1.ext N;obtain⟨⟨aU,aV,Q,R,_⟩,_⟩:=ab.ext N;rw[bW,aP cX.p rfl,bx (cs:=[sv]) bA.p bA.i rfl (sub O),bW,aP cX.p rfl,bx (cs:=[H]) bA.p bA.i rfl (sub Q)];refine (qi P.ls).mono ?_;rintro _ bg _ ⟨rfl,E⟩;refine⟨.inl E,?_⟩;refine (qi (R.ls.ext E)).mono ?_;rintro _ bh _ ⟨rfl,aq⟩;have aW:=(N.trans E).trans aq;have av:=hm.ext ((((M.trans ad).trans aj).trans ao).trans (E.trans aq));have bi:(upto (dw f a q e vars) 0 i).length=vars.length:=by rw[p5,K]
    rw[vc,iK rfl al.u ag.i av Ω];refine iL ag.i av Ω λbj aZ _ ax=>?_;simp only[aM];have a1:(dw f a q e vars)[i]? =σ (max (hZ f (hD a p)) (hZ q (hD e p))):=by
     unfold dw;rw[x8,z];rfl
    rw[qa a1] at ax;refine aL _ _ _ ⟨aW.then aZ (by rintro r bk rfl;omega),ax,λj a2 C S A B=>?_⟩;by_cases a6:j=i
    .subst a6;rw[z] at S;cases S;refine Decidable.byContradiction λa7=>?_;have:=ak.2 ⟨A,B,a7⟩;rw[aR] at this;cases this
    .exact L j a2 Ω S A B
  .intro au U;simp only[ei,cU,ah];intro bl G _ _;refine⟨λV=>⟨λW=>?_,λW=>⟨.inl (Ext.refl _),U _ _ ⟨G,false,rfl,⟨(λh=>by cases h),λh=>absurd (td.2 h.2.1) W⟩⟩⟩⟩,λV=>⟨.inl (Ext.refl _),U _ _ ⟨G,false,rfl,⟨(λh=>by cases h),λh=>absurd (td.2 h.1) V⟩⟩⟩⟩;have ay:=ae.trans G;obtain⟨⟨aY,gs,O,P,_⟩,_⟩:=h1.ext ay;obtain⟨⟨aU,aV,Q,R,_⟩,_⟩:=ab.ext ay;rw[bW,aP cX.p rfl,bx (cs:=[sv]) bA.p bA.i rfl (sub O),bW,aP cX.p rfl,bx (cs:=[H]) bA.p bA.i rfl (sub Q)];refine (qi P.ls).mono ?_;rintro _ bm _ ⟨rfl,X⟩;refine⟨.inl X,?_⟩;refine (qi (R.ls.ext X)).mono ?_;rintro _ bn _ ⟨rfl,a8⟩;simp only[bE];refine U _ _ ⟨(G.trans X).trans a8,_,rfl,?_⟩;rw[decide_eq_true_iff];exact⟨λh=>⟨td.1 V,td.1 W,h⟩,λh=>h.2.2⟩
 .rintro _ _ w2 aK ⟨y,hm,L⟩;simp only[aQ,ah];refine⟨λh=>Ω,λ_=>?_⟩;have C:pd f a q e vars:=λp z A B=>by
   obtain⟨i,hi,he⟩:=List.getElem_of_mem z;exact L i p hi (by rw[x6 hi,he]) A B
  rw[<-K,p7] at hm;exact⟨y,λh=>absurd C h,λ_=>⟨_,gz,rfl,Ω,hm⟩⟩
def wh (a e vars:Λ):Prop:=hc vars/\ ∀x,x∈vars↔x∈a\/x∈e
def nU (a c1 e f c2 h vars:Λ) (k:Int):Λ:=
 (V6 (aK (dw a e f h vars)).toNat).map λ(q:Nat)=>min (ba a c1 (eZ (cJ (dw a e f h vars) q) vars e)+ba f c2 (eZ (cJ (dw a e f h vars) q) vars h)) k
theorem Cz (a c1 e f c2 h vars:Λ) (k:Int):(nU a c1 e f c2 h vars k).length=(aK (dw a e f h vars)).toNat:=by simp[nU]
theorem te {s cs:Λ} (hk:right k) (h:∀x∈cs,cv x k):cv (ba s cs t) k:=by
 have a:cv 0 k:=⟨hk,Int.le_refl _,by have:=hk.1;omega⟩;unfold ba;split
 .rename_i n _;rw[u4];cases e:cs[n.toNat]? with
  |none=>exact a
  |some x=>exact h x (x5 e)
 .exact a
def Fits (s l:Λ):Prop:=l.length=s.length/\qB l
def qD (e:Int):x1:=.tuple #[.pointer ν,.slice ν 0 0,Δ e]
def CA (w:x3) (f c1 a h c2 e:Λ) (k j:Int) (v:x1) (w':x3):Prop:=
 Ext w w'/\(¬(Fits f a/\Fits h e)->v=qD 1)/\
  (Fits f a/\Fits h e-> ∃vars,wh a e vars/\(¬pd f a h e vars->v=qD 1)/\(pd f a h e vars->(k≠j->v=qD 3)/\
   (k=j->¬b2 (dw f a h e vars)->v=qD 1)/\(k=j->b2 (dw f a h e vars)->4096<aK (dw f a h e vars)->v=qD 5)/\
   (k=j->b2 (dw f a h e vars)->aK (dw f a h e vars)<=4096-> ∃p r s q,v= .tuple #[Γ p,q,Δ 0]/\
    dd w' p r s (dw f a h e vars) k (nU f c1 a h c2 e vars k)/\aF .i64 w' q vars)))
theorem MK {g bJ ga bK:Nat} {bL:x1} {z A f y:Λ} {aN:Int} {c1 c2:Λ} (h1:dd w g bJ sv z k c1) (aq:dd w ga bK bL A aN c2) (av:aF .i64 w bf f) (Q:aF .i64 w bv y)
  (hk:right k) (cr:∀x∈c1,cv x k) (ct:∀x∈c2,cv x aN):
  ai x7 HB [Γ g,bf,Γ ga,bv] w (CA w z c1 f A c2 y k aN):=by
 have cu:=av.cells;have cw:=Q.cells;have cz:=h1.2.2.1;have cA:=aq.2.2.1;have sub:∀ {w:x3} {g:Nat} {sv:x1} {k:Int} {aY:x1},aa w g cX [sv,Δ k,aY]->w.rangeAt g (0+0) [sv]:=λQ=>nC Q (by
  intro j v bd
  match j,bd with
  |0,bd=>exact bd)
 refine jg func154 ?_;refine bn λg1 J dK bM H=>?_;refine bn λbN w2 dL be K=>?_;refine bn λbP dM dN aQ L=>?_;refine bn λbQ Y dO aw M=>?_;have dP:=H.lt;have dQ:=K.lt;have dR:=L.lt;have dS:=M.lt;have dT:=bM.size;have dU:=be.size;have dV:=aQ.size;have dW:=aw.size;have Z:=((bM.trans be).trans aQ).trans aw;have H:aa Y g1 eQ [Γ g]:=((H.ext be).ext aQ).ext aw;have K:aa Y bN al [bf]:=by rw[cu.1] at K;exact (K.ext aQ).ext aw
 have L:aa Y bP eQ [Γ ga]:=L.ext aw;have M:aa Y bQ al [bv]:=by rw[cw.1] at M;exact M
 refine aT (λv bR=>v= .bool false/\Y=bR) ?_ ?_
 rotate_left
 .intro au aR;rw[aB Ψ (H.Qz rfl),dp eQ.u];simp only[Z7,aW];rw[aB Ψ (L.Qz rfl),dp eQ.u];exact aR _ _ ⟨rfl,rfl⟩
 rintro _ _ ⟨rfl,rfl⟩;simp only[aW];refine aT (λv bg=>Ext Y bg/\ ∃c,v= .bool c/\(c=true↔¬(Fits z f/\Fits A y))) ?_ ?_
 rotate_left
 .intro au aR;rw[aB Ψ (H.Qz rfl),aB Ψ (K.Qz rfl)];refine (Cp (h1.ext Z) (av.ext Z)).mono ?_;rintro _ bR _ ⟨ab,c,rfl,ax⟩;simp only[bF,b0];refine⟨λaS=>aR _ _ ⟨ab,true,rfl,λ_ h=>?_,λ_=>rfl⟩,λbS=>?_⟩
  .have:=ax.2 h.1;rw[this] at aS;cases aS
  .have cB:c=true:=by cases c<;>simp_all
   rw[aB Ψ ((L.ext ab).Qz rfl),aB Ψ ((M.ext ab).Qz rfl)];refine (Cp ((aq.ext Z).ext ab) ((Q.ext Z).ext ab)).mono ?_;rintro _ dX _ ⟨cC,d,rfl,bT⟩;simp only[bF];refine aR _ _ ⟨ab.trans cC,_,rfl,λh ay=>?_,λh=>?_⟩
   .have:=bT.2 ay.2;rw[this] at h;cases h
   .cases d with
    |false=>rfl
    |true=>exact absurd ⟨ax.1 cB,bT.1 rfl⟩ h
 rintro _ bg ⟨az,c,rfl,ax⟩;have bh:=Z.trans az;rw[b0];refine⟨λaS dY cD _=>⟨bh.trans cD,λ_=>rfl,λh=>absurd h (ax.1 aS)⟩,λbS=>?_⟩;have aA:Fits z f/\Fits A y:=Classical.byContradiction λh=>by
  have:=ax.2 h;rw[bS] at this;cases this
 obtain⟨⟨dZ,cE⟩,ea,cF⟩:=id aA;have eb:=cz.1;have ec:=cA.1;rw[aB Ψ ((K.ext az).Qz rfl),aB Ψ ((M.ext az).Qz rfl)];refine MI (av.ext bh) (Q.ext bh) Ω Ω λed ee ef bU eg cG=>?_;refine v7 cG.ls (by rw[p8];omega) λeh ei ej m bV ek bX cH cI=>?_;have cK:=bX.length_eq;rw[p8] at cK;refine (MG cI Ω).mono ?_;rintro aU bY _ ⟨cL,bi⟩;have em:=az.size;have en:=bU.size;have eo:=bV.size;have bZ:Ext bg bY:=(bU.trans bV).then cL (by rintro r aV rfl;omega);obtain⟨cM,cN⟩:=Co cH (j:=m.length) (o4 _);have ep:=Cn m m.length;have O:wh f y (dedup m m.length):=⟨cM,λx=>by rw[cN,o7,bX.mem_iff,l9]⟩;generalize dedup m m.length=vars at*;refine bt al.i λa7 er es b1 cO=>?_;refine bo al.i bi.ls.cells.1 bi.ls.cells.2 cO (by simp[x1.cells]) λb3 cP et aC=>?_;have eu:=bZ.size;have ev:=b1.size;have bj:Ext bY b3:=b1.then cP (by rintro r aV rfl;omega);have ac:=(az.trans bZ).trans bj;have aD:=Z.trans ac;have ew:=aC.lt;have b4:=bi.ls.ext bj;have aC:aa b3 a7 al [aU]:=aC;rw[aB Ψ (aC.Qz rfl),aB Ψ ((H.ext ac).Qz rfl),aB Ψ ((K.ext ac).Qz rfl),aB Ψ ((L.ext ac).Qz rfl),aB Ψ ((M.ext ac).Qz rfl)];refine (MJ (h1.ext aD) (aq.ext aD) b4 (av.ext aD) (Q.ext aD) cE.up cF.up Ω).mono ?_;rintro ey ez _ ⟨aE,cQ,cR⟩;have b5:=aD.trans aE;by_cases ad:pd z f A y vars
 rotate_left
 .rw[cQ ad,bu,bw];simp only[bF,V0,bO];intro eA cS _;exact⟨b5.trans cS,λh=>absurd aA h,λ_=>⟨vars,O,λ_=>rfl,λh=>absurd h ad⟩⟩
 obtain⟨xs,am,rfl,eB,cT⟩:=cR ad;rw[bu,bw];simp only[bF,Y5,aW];intro R af _ _;have aX:=(ac.trans aE).trans af;have aj:=b5.trans af;have H:=H.ext aX;have K:=K.ext aX;have L:=L.ext aX;have M:=M.ext aX;have cU:=(aC.ext aE).ext af;obtain⟨⟨aY,gs,b6,eC,_⟩,_⟩:=h1.ext aj;obtain⟨⟨eD,eE,cV,eF,_⟩,_⟩:=aq.ext aj;rw[aB Ψ (H.Qz rfl),aO cX.p 1 b6 rfl,aB Ψ (L.Qz rfl),aO cX.p 1 cV rfl];simp only[bE,ah];refine⟨λV eH cW _=>⟨aj.trans cW,λh=>absurd aA h,λ_=>⟨vars,O,λh=>absurd ad h,λ_=>⟨λ_=>rfl,λh=>absurd h V,λh=>absurd h V,λh=>absurd h V⟩⟩⟩,λV=>?_⟩;have V:k=aN:=Y7.1 V;subst V;rw[aB Ψ (H.Qz rfl),aO cX.p 1 b6 rfl];have cY:=cT.ext af;refine (vj cY.ls).mono ?_;rintro aL aG _ ⟨b7,cZ,c0,_,c3⟩;have eI:=bj.size;have eJ:=aE.size;have eK:=af.size;have eL:=b7.size;obtain⟨aH,e,rfl,eM,aZ⟩:∃ (aH:Option Addr) (e:Int),aL= .tuple #[.pointer aH,Δ e]/\(e=0->aH≠ν)/\((e=1/\¬b2 (dw z f A y vars))\/(e=5/\b2 (dw z f A y vars)/\4096<aK (dw z f A y vars))\/(e=0/\b2 (dw z f A y vars)/\aK (dw z f A y vars)<=4096/\
   ∃C B E,aH=σ ⟨C,0,ν⟩/\R.heap.size<=C/\R.heap.size<=B/\(∀r,leads E r->R.heap.size<=r)/\dd aG C B E (dw z f A y vars) k (p9 (aK (dw z f A y vars)).toNat 0))):=by
  by_cases I:b2 (dw z f A y vars)
  .by_cases P:aK (dw z f A y vars)<=4096
   .obtain⟨C,B,E,c4,c5,c6,c7,c8⟩:=c3 I P ⟨hk,Ω,by have:=hk.1;omega⟩;exact⟨_,_,c4,(λ_ h=>by cases h),.inr (.inr ⟨rfl,I,P,C,B,E,rfl,c5,c6,c7,c8⟩)⟩
   .exact⟨_,_,c0 I Ω,(λh=>Ω),.inr (.inl ⟨rfl,I,Ω⟩)⟩
  .exact⟨_,_,cZ I,(λh=>Ω),.inl ⟨rfl,I⟩⟩
 rw[bu,bw];refine bt eQ.i λb8 eN eO b9 aI=>?_;refine bo eQ.i rfl rfl aI (by simp[x1.cells]) λc9 da eP aI=>?_;have eR:=b9.size;have bk:Ext aG c9:=b9.then da (by rintro r aV rfl;omega);have ca:=b7.trans bk;have db:=aj.trans ca;have eS:=aI.lt;simp only[bE,ah];refine⟨λdc eU de _=>⟨db.trans de,λh=>absurd aA h,λ_=>⟨vars,O,λh=>absurd ad h,λ_=>⟨λh=>absurd rfl h,λ_ I=>?_,λ_ I P=>?_,λ_ I P=>?_⟩⟩⟩,λeV=>?_⟩
 .rcases aZ with⟨rfl,_⟩|⟨_,h,_⟩|⟨_,h,_⟩
  .rfl
  .exact absurd h I
  .exact absurd h I
 .rcases aZ with⟨_,h⟩|⟨rfl,_⟩|⟨_,_,h,_⟩
  .exact absurd I h
  .rfl
  .omega
 .rcases aZ with⟨_,h⟩|⟨_,_,h⟩|⟨h,_⟩
  .exact absurd I h
  .omega
  .exact absurd h dc
 obtain⟨a1,df,C,B,E,rfl,eW,eX,eY,a2⟩:b2 (dw z f A y vars)/\aK (dw z f A y vars)<=4096/\
   ∃C B E,aH=σ ⟨C,0,ν⟩/\R.heap.size<=C/\R.heap.size<=B/\(∀r,leads E r->R.heap.size<=r)/\dd aG C B E (dw z f A y vars) k (p9 (aK (dw z f A y vars)).toNat 0):=by
  rcases aZ with⟨h,_⟩|⟨h,_⟩|⟨_,h⟩
  .omega
  .omega
  .exact h
 obtain rfl:e=0:=Ω
 have dg:(dw z f A y vars).length=vars.length:=Cy _ _ _ _ _;have e0:=prod_bound a1;obtain⟨N,a6⟩:∃N:Nat,(aK (dw z f A y vars)).toNat=N:=⟨_,rfl⟩;rw[a6] at a2;have e1:0<N:=Ω
 have dh:=a2.ext bk;obtain⟨⟨bl,cb,cc,cd,di⟩,⟨ce,cg,_⟩,_,e2⟩:=id dh;have e3:C<aG.heap.size:=by obtain⟨⟨_,_,q,_⟩,_⟩:=id a2;exact q.lt
 have e4:B<aG.heap.size:=by obtain⟨⟨_,_,_,_,q⟩,_⟩:=id a2;exact s3 q Θ
 rw[aB Ψ (aI.Qz rfl),bW,aP cX.p rfl,bx (cs:=[E]) bA.p bA.i rfl (sub cc)];refine sH.mono ?_;rintro _ aJ _ ⟨W,a8,rfl,e5,ch⟩;have e6:=bk.size;have e7:=W.size;let S:Nat->Prop:=λr=>r=B;let ao:=nU z c1 f A c2 y vars k;have bm:ao.length=N:=by simp only[ao];rw[Cz,a6]
 have dj:=(b4.ext aE).ext af;let dk:x3->Prop:=λw'=>aa w' g1 eQ [Γ g]/\aa w' bN al [bf]/\aa w' bP eQ [Γ ga]/\aa w' bQ al [bv]/\aa w' a7 al [aU]/\aF .i64 w' aU vars/\
  aa w' b8 eQ [Γ C]/\aa w' C cX [E,Δ k,bl]/\dd w' g bJ sv z k c1/\dd w' ga bK bL A k c2/\aF .i64 w' bf f/\aF .i64 w' bv y/\ap .i64 ag w' cb E (dw z f A y vars)/\aa w' a8 bA [E]/\aJ.heap.size<=w'.heap.size
 have ci:=ca.trans W;have facts:∀ {a:x3},ae S aJ a->dk a:=by
  intro a G;have X:Ext R a:=ci.put G Ω;have bb:=aj.trans X;exact⟨H.ext X,K.ext X,L.ext X,M.ext X,cU.ext X,dj.ext X,(aI.ext W).U G (by show ¬(b8=B);omega),(cc.ext W).U G (by show ¬(C=B);exact ce),h1.ext bb,aq.ext bb,av.ext bb,Q.ext bb,
   bq (cd.ext W) G (λr aV he=>cg ((show r=B from he)▸aV)),ch.U G (by show ¬(a8=B);omega),G.size⟩
 have cj:=sG (g:=a8) (B0:=aJ.heap.size) (sv:=E) a1;rw[a6] at cj;refine nb.old ⟨Nat,false,kQ,#[Γ a8],0,_,_,_,λq w'=>ae S aJ w'/\ap .i64 ak w' B bl (upto ao 0 q),λ_ _ _=>False,rfl,cj.s,
  ?_,λ_ _ G h=>⟨h.1.ext G,h.2.1.ext G,X0 h.2.2 G.size⟩,λ_ _ _ G h=>⟨h.1.trans (G.U S),h.2.ext G⟩,λ_ _ _ _ _ h=>h,⟨ch,(cd.ext W).ls,o4 _⟩,⟨ae.refl _ _,?_⟩,?_,?_,λ_ _ h=>h.elim,λ_ _ _ h=>h.elim⟩
 .rintro _ _ _ _ ⟨_,_,_,_,rfl,_⟩;rfl
 .rw[p6,bm];exact di.ext W
 .rintro _ aL q _ e8 ⟨_,_,e9⟩ ⟨bp,rfl,fa,gt,dl,fb,ck⟩ ⟨bc,dm⟩;cases dl;let x:=cJ (dw z f A y vars) (q:Int);have cl:x.length=vars.length:=by simp only[x];rw[jk,dg]
  intro fc dn _ _;intro fd dq _ _;have br:=dn.trans dq;obtain⟨f1,f2,f3,f4,f5,f6,f7,f8,f9,f10,f11,f12,f13,f14,f15⟩:=facts (bc.trans (br.U S));rw[aB Ψ (f1.Qz rfl),aB Ψ (f5.Qz rfl),aB Ψ (f2.Qz rfl)];refine (Cr (ck.ls.ext br) f6 f11 O.1 (λp P=>(O.2 p).2 (.inl P)) cl Ω).mono ?_;rintro fe ff _ ⟨bz,fg,fh,dr⟩;refine⟨.inl bz,?_⟩;refine (vk (f9.ext bz) dr.ls).mono ?_;rintro _ fj _ ⟨rfl,ds⟩;obtain⟨dt,du⟩:=vY z (eZ x vars f) c1;have dv:oJ z (eZ (cJ (dw z f A y vars) (q:Int)) vars f) c1= .tuple #[Δ (ba z c1 (eZ x vars f)),Δ dt]:=du;rw[dv,bu,bw];intro fk dx _ _;have bB:=((br.trans bz).trans ds).trans dx;obtain⟨f1,f2,f3,f4,f5,f6,f7,f8,f9,f10,f11,f12,f13,f14,f15⟩:=facts (bc.trans (bB.U S));rw[aB Ψ (f3.Qz rfl),aB Ψ (f5.Qz rfl),aB Ψ (f4.Qz rfl)];refine (Cr (ck.ls.ext bB) f6 f12 O.1 (λp P=>(O.2 p).2 (.inr P)) cl Ω).mono ?_;rintro fm fo _ ⟨bC,fp,fq,dy⟩;refine⟨.inl bC,?_⟩;refine (vk (f10.ext bC) dy.ls).mono ?_;rintro _ fs _ ⟨rfl,dz⟩;obtain⟨dA,dC⟩:=vY A (eZ x vars y) c2;have dD:oJ A (eZ (cJ (dw z f A y vars) (q:Int)) vars y) c2= .tuple #[Δ (ba A c2 (eZ x vars y)),Δ dA]:=dC;rw[dD,bu,bw];intro ft dE _ _;have bD:=((bB.trans bC).trans dz).trans dE;obtain⟨f1,f2,f3,f4,f5,f6,f7,f8,f9,f10,f11,f12,f13,f14,f15⟩:=facts (bc.trans (bD.U S));rw[aB Ψ (f7.Qz rfl),aO cX.p 2 f8 rfl,aB Ψ (f7.Qz rfl),aO cX.p 1 f8 rfl];refine Bb.mono ?_;rintro _ fu _ ⟨rfl,bG⟩;refine⟨.inl bG,?_⟩;have dF:qh (ba z c1 (eZ x vars f)) (ba A c2 (eZ x vars y)) k= .tuple #[Δ (min (ba z c1 (eZ x vars f)+ba A c2 (eZ x vars y)) k),Δ 0]:=if_pos ⟨te hk cr,te hk ct⟩;rw[dF,iF (v:=Δ (min (ba z c1 (eZ x vars f)+ba A c2 (eZ x vars y)) k)) rfl,iF (v:=Δ 0) rfl];have cm:=dm.ext (bD.trans bG);have fv:(upto ao 0 q).length=N:=by rw[p5,bm]
  rw[iK rfl an.u ak.i cm Ω];refine iL ak.i cm Ω λdG dH fw cn=>?_;have cp:ae S aJ dG:=(bc.trans ((bD.trans bG).U S)).trans (dH.mono λr _ h=>h);obtain⟨f1,f2,f3,f4,f5,f6,f7,f8,f9,f10,f11,f12,f13,f14,f15⟩:=facts cp;have dI:ao[q]? =σ (min (ba z c1 (eZ x vars f)+ba A c2 (eZ x vars y)) k):=by
   simp only[ao,nU];rw[x8,List.getElem?_range (by rw[a6];exact bp)];rfl
  rw[qa dI] at cn;exact⟨⟨f14,f13.ls,f15⟩,⟨cp,cn⟩,λh=>by cases h⟩
 .rintro q fx bp ⟨cq,bH⟩;rw[show q=N from bp] at bH;intro fy bI _ _;obtain⟨f1,f2,f3,f4,f5,f6,f7,f8,f9,f10,f11,f12,f13,f14,f15⟩:=facts (cq.trans (bI.U S));rw[aB Ψ (f7.Qz rfl),aB Ψ (f5.Qz rfl)];intro fz aM _;rw[<-bm,p7] at bH;have dJ:=aj.trans ci;refine⟨((dJ.put cq Ω).trans bI).trans aM,λh=>absurd aA h,λ_=>⟨vars,O,λh=>absurd ad h,λ_=>⟨λh=>absurd rfl h,λ_ h=>absurd a1 h,λ_ _ h=>Ω,λ_ _ _=>⟨C,B,E,aU,rfl,⟨⟨bl,cb,f8.ext aM,f13.ext aM,(bH.ext bI).ext aM⟩,⟨ce,cg,df⟩,a1,Cz _ _ _ _ _ _ _ _⟩,f6.ext aM⟩⟩⟩⟩
theorem hc.pair (h:hc l):l.Pairwise (·< ·):=V9.2 λi j hi a e=>h i j _ _ e (x6 hi) (x6 a)
theorem ML {m:Λ} (e:hc l) (hm:hc m) (h:∀x,x∈l↔x∈m):l=m:=by
 have f:l.Nodup:=e.pair.imp λh=>Ω
 have j:m.Nodup:=hm.pair.imp λh=>Ω
 exact List.Perm.eq_of_pairwise (le:=(·<= ·)) (λa b _ _ h1 p=>Int.le_antisymm h1 p) (e.pair.imp λh=>Int.le_of_lt h) (hm.pair.imp λh=>Int.le_of_lt h) ((List.perm_ext_iff_of_nodup f j).2 h)
theorem MM {vars:Λ} (h:wh l l vars) (hu:hc l):vars=l:=ML h.1 hu λx=>by rw[h.2];simp
theorem CB (h:l.Pairwise (·< ·)):hc l:=λi j x y e f p=>by
 have h1:=x4.1 f;have a:=x4.1 p;have:=V9.1 h i j h1.1 a.1 e;rw[h1.2,a.2] at this;exact this
theorem MN {x:Λ} (hu:l.Nodup) (h:x.length=l.length):eZ x l l=x:=by
 refine Y6 λi=>?_;unfold eZ;cases a:l[i]? with
 |none=>rw[x8,a,Z4 (by have:=S4.1 a;omega)];rfl
 |some v=>
  have hi:=(x4.1 a).1;rw[x8,a,Z6,qz hu a,u4,x6 (show i<x.length by omega)];rfl
theorem CC {s:Λ} (hu:hc l) (h:s.length=l.length):dw s l s l l=s:=by
 refine Y6 λi=>?_;unfold dw;cases a:l[i]? with
 |none=>rw[x8,a,Z4 (by have:=S4.1 a;omega)];rfl
 |some v=>
  have hi:=(x4.1 a).1;rw[x8,a,Z6,Cq hu a,Int.max_self,x6 (show i<s.length by omega)];unfold hZ;rw[if_pos Ω,u4,r8,x6 (show i<s.length by omega)];rfl
theorem MO {s b:Λ} (hu:l.Pairwise (·< ·)) (h:s.length=l.length) (I:dv s) (e:a.length=(aK s).toNat) (f:b.length=(aK s).toNat):nU s a l s b l l k=dX k a b:=by
 have j:l.Nodup:=hu.imp λh=>Ω
 unfold nU;rw[CC (CB hu) h,Lz I e f];apply List.map_congr_left;intro q _;rw[MN j (by rw[jk,h])]
theorem MP {s b:Λ} (hu:l.Pairwise (·< ·)) (B:∀x∈l,0<=x) (h:s.length=l.length) (I:b2 s) (C:aK s<=4096) (E:a.length=(aK s).toNat) (F:b.length=(aK s).toNat) (f:CA w s a l s b l k k v w'):
  Ext w w'/\ ∃e j q r,v= .tuple #[Γ e,r,Δ 0]/\dd w' e j q s k (dX k a b):=by
 obtain⟨G,_,f⟩:=f;have y:=CB hu;have z:Fits s l:=⟨h.symm,Me y B⟩;obtain⟨vars,H,_,J⟩:=f ⟨z,z⟩;have K:=MM H y;subst K;obtain⟨_,_,_,A⟩:=J λp M N O=>rfl;rw[CC y h,MO hu h I.2 E F] at A;obtain⟨e,j,q,r,rfl,L,_⟩:=A rfl I C;exact⟨G,e,j,q,r,rfl,L⟩
theorem MQ {s:Λ} (I:dv s):(a8 s).Nodup:=(Cg I).imp λ{a b} h he=>by subst he;omega
theorem MR {s:Λ} {i:Nat} (I:dv s) (hi:(a8 s)[i]? =σ t) (a:(a8 s)[j]? =σ t):i=j:=kt (MQ I) hi a
theorem MS {s:Λ} (I:dv s) (h:ds s t):∃j:Nat,(a8 s)[j]? =σ t:=X9.1 ((Cf I).2 h)
theorem tf {g:Nat} {d:List (x1×x1)} (h:aa w g e cs) (hm:c5 w m d) (a:ae (λr=>r=m) w w'):aa w' g e cs:=h.U a (λhe=>s4 h hm he)
theorem CD {g:Nat} {k:o6} {d:List (x1×x1)} (h:ap k e w g v l) (hm:c5 w m d) (a:ae (λr=>r=m) w w'):ap k e w' g v l:=bq h a (λ_ f he=>Ci h hm f he)
def tg (cs:Λ) (o:Int):Prop:=o∈cs/\ ∀d∈cs,cs.count d<cs.count o\/(cs.count d=cs.count o/\o<=d)
theorem MT {i:Nat} {x:Int} (h:l[i]? =σ x) (y:Int):(l.take (i+1)).count y=(l.take i).count y+if y=x then 1 else 0:=by
 rw[u9,h,List.count_append];congr 1;simp only[o8,List.count_singleton];by_cases a:y=x
 .subst a;simp
 .rw[if_neg a,if_neg (by simpa using λh=>a h.symm)]
def gO (p:Int×Int):x1×x1:=(Δ p.1,Δ p.2)
theorem qE:Keys x7 ak λv=>∃n,v=Δ n:=Keys.int ak.u
theorem qF (E:List (Int×Int)):∀p∈E.map gO,∃n,p.1=Δ n:=λp a=>by
 obtain⟨q,_,rfl⟩:=l7.1 a;exact⟨_,rfl⟩
def wi (cs:Λ) (E:List (Int×Int)):Prop:=(∀x,x∈E.map (·.1)↔x∈cs)/\ ∀p∈E,p.2=(cs.count p.1:Nat)
theorem CE {cs:Λ} {E:List (Int×Int)} (h:wi cs E) {x:Int} (e:x∈cs):∃j:Nat,E[j]? =σ (x,((cs.count x:Nat):Int)):=by
 obtain⟨p,a,rfl⟩:=l7.1 ((h.1 x).2 e);obtain⟨j,f⟩:=X9.1 a;exact⟨j,by rw[f,<-h.2 p a]⟩
theorem CF {ax:x1} {cs:Λ} (h:aF .i64 w ax cs) (ay:cs≠[]) (bf:cs.length<=1000000):ai x7 rU [ax] w λv w'=>Ext w w'/\ ∃o,v=Δ o/\tg cs o:=by
 refine aw func210 ?_;refine av.cq (sJ λm J hm W aL bg=>?_);rw[aX an.u (h.ext W)];refine ci.range cs.length (λi w2=>ae (λr=>r=m) J w2/\ ∃E,c5 w2 m (E.map gO)/\wi (cs.take i) E) Ω ⟨ae.refl _ _,[],aL,by simp[wi]⟩ ?_ ?_
 .rintro i w2 aN hi ⟨G,E,A,f⟩ az;obtain⟨x,X⟩:=aE (l:=cs) hi;have H:Ext w w2:=W.put G Ω;have aO:∀y,(cs.take i).count y<=1000000:=λy=>by
   have:=List.count_le_length (a:=y) (l:=cs.take i);rw[j5] at this;omega
  refine bH Ω ?_;rw[be an.u ak.i Ψ (h.ext H) X];have P:=MT X;have aA:∀y,y∈cs.take (i+1)↔y∈cs.take i\/y=x:=λy=>by
   rw[u9,X];simp
  by_cases I:x∈cs.take i
  .obtain⟨j,Y⟩:=CE f I;have Q:(E.map gO)[j]? =σ (Δ x,Δ (((cs.take i).count x:Nat):Int)):=by rw[x8,Y];rfl
   rw[qj lN.u qE A (qF E) ⟨_,rfl⟩ Q];simp only[Bool.false_eq_true,if_false];have:=aO x;rw[aM,wrap_i64 Ω Ω];refine av.cq (qk lN.u qE A (qF E) ⟨_,rfl⟩ (λL v0 Z aa M ab aP=>?_) (λZ R=>absurd rfl (R _ (x5 Q))));have aR:L=j:=A.uniq aa Q rfl;subst aR;rw[aM];have ac:(E.map gO).set L (Δ x,Δ ((((cs.take i).count x:Nat):Int)+1))=(E.set L (x,(((cs.take i).count x:Nat):Int)+1)).map gO:=by rw[U9];rfl
   rw[ac] at M;have aS:=(x4.1 Y).1;refine az _ ⟨G.trans ab,_,M,λy=>?_,λp e=>?_⟩
   .rw[U9,qb (by rw[x8,Y];rfl),f.1,aA];exact⟨.inl,λh=>h.elim id (λh=>h▸I)⟩
   .obtain⟨q,s⟩:=X9.1 e;by_cases ad:L=q
    .subst ad;rw[j9 aS] at s;cases s;show _=(((cs.take (i+1)).count x:Nat):Int);rw[P,if_pos rfl];omega
    .rw[Y0 ad] at s;have af:p.1≠x:=λhe=>ad (A.uniq Q (show (E.map gO)[q]? =σ (gO p) by rw[x8,s];rfl) (by rw[gO,he]));rw[f.2 p (x5 s),P,if_neg af,Nat.add_zero]
  .have R:∀p∈E.map gO,p.1≠V5 .i64 x:=λp e he=>by
    obtain⟨q,s,rfl⟩:=l7.1 e;have:q.1=x:=by simpa[gO] using he
    exact I ((f.1 x).1 (l7.2 ⟨q,s,this⟩))
   rw[sK lN.u qE ⟨_,_,ag.i⟩ A (qF E) ⟨_,rfl⟩ R];simp only[Bool.false_eq_true,if_false];rw[aM,wrap_i64 Ω Ω];refine av.cq (qk lN.u qE A (qF E) ⟨_,rfl⟩ (λL v0 Z aa=>absurd rfl (R _ (x5 aa))) (λZ _ M ab aP=>?_));rw[aM];have ac:E.map gO++[(V5 .i64 x,V5 .i64 (0+1))]=(E++[(x,1)]).map gO:=by rw[j6];rfl
   rw[ac] at M;have aU:(cs.take i).count x=0:=List.count_eq_zero.2 I;refine az _ ⟨G.trans ab,_,M,λy=>?_,λp e=>?_⟩
   .rw[j6,l9,f.1,aA];simp
   .rcases l9.1 e with e|e
    .have af:p.1≠x:=λhe=>I ((f.1 x).1 (l7.2 ⟨p,e,he⟩));rw[f.2 p e,P,if_neg af,Nat.add_zero]
    .rw[n9.1 e];show (1:Int)=(((cs.take (i+1)).count x:Nat):Int);rw[P,if_pos rfl,aU];rfl
 rintro w2 aN ⟨G,E,A,f⟩;rw[o7] at f;have H:Ext w w2:=W.put G Ω;refine ca Ω ?_;refine (Kb (h.ext H) ay).mono ?_;rintro _ aV bh ⟨rfl,aj⟩;have bj:=H.size;have bk:=aj.size;refine av.cq (Bf lN.u (A.ext aj) λN bl bm aY bn aZ bo=>?_);refine⟨λhd C=>∃b B z left aB,hd=Δ b/\b∈cs/\Ext aV C/\hB C N m (E.map gO) left aB/\left=z.map gO/\(B++z).Perm E/\ ∀p∈B,cs.count p.1<cs.count b\/(cs.count p.1=cs.count b/\b<=p.1),λ_ C=>o1 C N,
  ⟨vx cs,[],E,E.map gO,ν,rfl,(JP ay).1,aY,aZ,rfl,List.Perm.refl _,λp e=>by cases e⟩,?_⟩
 rintro _ C ⟨b,B,z,left,aB,rfl,al,am,aC,rfl,S,ao⟩;refine Bh aC (λ_=>by show w.heap.size<=N;omega) (λa1=>?_) (λj p ap e aD bp O=>?_)
 .rw[iF (v:=.bool false) rfl,aW];have:z=[]:=List.map_eq_nil_iff.1 a1;subst this;rw[W7] at S;refine⟨(H.trans aj).trans am,b,rfl,al,λd a2=>?_⟩;obtain⟨q,s,rfl⟩:=l7.1 ((f.1 d).2 a2);exact ao q (S.mem_iff.2 s)
 .rw[iF (v:=.bool true) rfl,bO];refine Bi O ?_;obtain⟨q,s,rfl⟩:∃q,z[j]? =σ q/\gO q=p:=by
   rw[x8] at e;exact X3.1 e
  have aG:q∈E:=S.mem_iff.1 (l9.2 (.inr (x5 s)));have bq:=f.2 q aG;have a6:q.1∈cs:=(f.1 q.1).1 (l7.2 ⟨q,aG,rfl⟩);obtain⟨a7,a8⟩:=CE f al;have ba:(E.map gO)[a7]? =σ (Δ b,Δ ((cs.count b:Nat):Int)):=by rw[x8,a8];rfl
  rw[iF (v:=Δ q.1) rfl,iF (v:=Δ q.2) rfl];have aH:(B++[q]++z.eraseIdx j).Perm E:=by
   refine List.Perm.trans ?_ S;rw[c9];exact List.Perm.append_left B (vJ s)
  have aI:o1 ap N<o1 C N:=by
   rw[sO O,sO aC];have:=Bu (x4.1 e).1;omega
  refine aT (λv bb=>ap=bb/\ ∃r:Bool,v= .bool r/\(r=true↔(cs.count b<cs.count q.1\/(cs.count q.1=cs.count b/\q.1<b)))) ?_ ?_
  .rintro _ _ ⟨rfl,r,rfl,U⟩;rw[b0];refine⟨λbc=>?_,λaJ=>?_⟩
   .have U:=U.1 bc;refine⟨⟨q.1,B++[q],z.eraseIdx j,_,_,rfl,a6,am.trans aD,O,(mC gO z j),aH,λp e=>?_⟩,aI⟩;rcases l9.1 e with e|e
    .have:=ao p e;omega
    .rw[n9.1 e];exact .inr ⟨rfl,Int.le_refl _⟩
   .have U:¬(cs.count b<cs.count q.1\/(cs.count q.1=cs.count b/\q.1<b)):=λh=>by rw[U.2 h] at aJ;cases aJ
    refine⟨⟨b,B++[q],z.eraseIdx j,_,_,rfl,al,am.trans aD,O,(mC gO z j),aH,λp e=>?_⟩,aI⟩;rcases l9.1 e with e|e
    .exact ao p e
    .rw[n9.1 e];omega
  .intro au aq;have aK:∀K:x1->Prop,V x7 (Instr.lookup lN (.map (σ m)) (Δ b) false) ap K=K (Δ ((cs.count b:Nat):Int)):=λK=>by
    rw[qj lN.u qE O.map (qF E) ⟨_,rfl⟩ ba];simp
   rw[aK,bS,ah];refine⟨λh1=>aq _ _ ⟨rfl,true,rfl,⟨λ_=>.inl Ω,λ_=>rfl⟩⟩,λh1=>?_⟩;rw[aK,bi,ah];refine⟨λbd=>?_,λbd=>aq _ _ ⟨rfl,false,rfl,⟨λh=>(by cases h),λh=>Ω⟩⟩⟩;rw[aQ];refine aq _ _ ⟨rfl,_,rfl,?_⟩;rw[decide_eq_true_eq];omega
theorem MU {g:Nat} {k:o6} {p:r9} (h:ap k e w g v l) (q:aa w j p cs) (x:e≠p) (s:leads v r):r≠j:=by
 obtain⟨rfl,_⟩:=bU h s;obtain⟨_,⟨rfl,_⟩|⟨_,_,_,f,_⟩⟩:=h
 .obtain⟨a,n,c,h,_⟩:=s;cases h
 .rintro rfl;unfold aa at q f;rw[q] at f;injection f with h1;injection h1 with z y;exact x y.symm
def MV (w:x3) (ac:Λ) (k:Int) (cs:Λ) (v:x1) (w':x3):Prop:=Ext w w'/\ ∃g m o D,v=Γ g/\eJ w' g m ac k o D/\D.length<=(aK ac).toNat/\io ac (ii D o) cs/\tg cs o
theorem MW {g bN:Nat} {cs:Λ} (h:dd w g bN sv ac k cs) (aE:∀c∈cs,cv c k):ai x7 HI [Γ g] w (MV w ac k cs):=by
 obtain⟨⟨aY,gs,bb,hm,cl⟩,⟨_,_,bc⟩,I,am⟩:=id h;have cm:=prod_bound I;have cn:=I.1;have bd:cs≠[]:=λhe=>by rw[he] at am;simp at am;omega
 refine jg func165 ?_;rw[dp eQ.u];simp only[Z7,aW];refine (mB h).mono ?_;rintro K w2 _ ⟨P,cp,cq,aG⟩;refine bt an.i λao cr ct bf bg=>?_;have cu:=bg.lt;refine bo an.i aG.ls.cells.1 aG.ls.cells.2 bg (by simp[x1.cells]) λap bO cw aq=>?_;have aq:aa ap ao an [K]:=aq;have cz:=P.size;have cA:=bf.size;have bh:Ext w2 ap:=bf.put bO Ω;have bi:=aG.ext bh;have ab:=P.trans bh;refine aT (λu aw=>∃a A m o L M,u=Γ a/\Ext ap aw/\aa aw a eP [Γ A]/\ap.heap.size<=m/\fH aw A m L M ac k o []/\tg cs o) ?_ ?_
 .rintro _ aw ⟨a,A,m,o,L,M,rfl,ad,e,cB,B,E⟩;have bP:=h.ext (ab.trans ad);have bQ:=aq.ext ad;have bR:=bi.ext ad;refine (oX bP).mono ?_;rintro _ cC _ ⟨rfl,bS⟩;refine sH.mono ?_;rintro _ aH _ ⟨bT,bj,rfl,cD,bk⟩;have Q:=bS.trans bT;have bl:=B.ext Q;have bU:=bQ.ext Q;have bm:=e.ext Q;have bV:=bR.ext Q;have bn:=hm.ext ((ab.trans ad).trans Q);have S:=bl.2.2.1;have bW:=(ab.trans ad).trans Q;have cE:=ab.size;have bX:=sG (g:=bj) (B0:=aH.heap.size) (sv:=sv) I;refine nb.old ⟨Nat,false,kQ,#[Γ bj],_,_,_,_,λi w'=>ae (λr=>r=m) aH w'/\ ∃D,D.length<=i/\fH w' A m L M ac k o D/\ ∀ (j:Nat) t,(a8 ac)[j]? =σ t->ii D o t=if j<i then ba ac cs t else o,λ_ _ _=>False,rfl,bX.s,
   ?_,λ_ _ W h=>⟨h.1.ext W,h.2.1.ext W,X0 h.2.2 W.size⟩,λ_ _ _ W ⟨h1,D,bY,bZ,bc⟩=>⟨h1.trans (W.U _),D,bY,bZ.ext W,bc⟩,λ_ _ _ _ _ h=>h,⟨bk,bn.ls,o4 _⟩,⟨ae.refl _ _,[],o4 _,bl,λj t _=>by rw[if_neg Ω];rfl⟩,?_,?_,λ_ _ h=>h.elim,λ_ _ _ h=>h.elim⟩
  .rintro _ _ _ _ ⟨_,_,_,_,rfl,_⟩;rfl
  .rintro _ aL i _ b0 ⟨cF,cG,b1⟩ ⟨hi,rfl,cH,gt,b2,cI,y⟩ ⟨ax,D,bp,aI,aJ⟩;cases b2;have aK:(a8 ac)[i]? =σ (cJ ac (i:Int)):=nK I.2 Ω;have b3:ds ac (cJ ac (i:Int)):=vy I.2 hi;generalize cJ ac (i:Int)=t at*;have bq:=LH I.2 am aK;intro b5 ay _ _;intro b6 b7 _ _;have az:=ay.trans b7;have aA:ae (λr=>r=m) aH b6:=ax.trans (az.U _);rw[aB Ψ ((tf bm S aA).Qz rfl),aB Ψ ((tf bU S aA).Qz rfl),be an.u ak.i Ψ (CD bV S aA).ls bq];have aM:=aI.ext az;refine (Bt aM.is (y.ext az).ls (c:=ba ac cs t)).mono ?_;rintro _ cK _ ⟨_,b8⟩;obtain⟨rfl,aN,D',br,bx⟩:=b8 ⟨b3,aE _ (x5 bq)⟩;have aO:=aA.trans aN;have cL:=br.2;refine⟨⟨tf bk S aO,(CD bn S aO).ls,X0 b1 (X0 az.size aN.size)⟩,⟨aO,D',Ω,aM.put aN bx,λj s N=>?_⟩,λh=>by cases h⟩;rw[br.cost aM.is.nodup bx.nodup];by_cases bz:j=i
   .subst bz;rw[aK] at N;cases N;rw[if_pos rfl,if_pos Ω]
   .rw[if_neg (λ(he:s=t)=>bz (MR I.2 (by rw[<-he];exact N) aK)),aJ j s N];by_cases h1:j<i
    .rw[if_pos h1,if_pos Ω]
    .rw[if_neg h1,if_neg Ω]
  .rintro i b0 rfl ⟨ax,D,bp,aI,aJ⟩;rw[aB Ψ ((tf bm S ax).Qz rfl)];intro b5 ay _;refine⟨(bW.put ax Ω).trans ay,A,m,o,D,rfl,aI.is.ext ay,bp,⟨am,λt b9=>?_⟩,E⟩;obtain⟨j,N⟩:=MS I.2 b9;have:=(x4.1 N).1;rw[hU I.2] at this;rw[aJ j t N,if_pos this]
 intro au bA;intro z af _ _;have aP:=ab.trans af;have bB:=af;have aC:=h.ext aP;have bC:=bi.ext af;have cM:=af.size;rw[aB Ψ ((aq.ext af).Qz rfl)];have bD:∀ {a:Nat} {w':x3} {aL:x1} {o:Int},Ext z w'->z.heap.size<=a->(∃f,aa w' a eP [f])->aF .i64 w' aL ac->tg cs o->
   ai x7 oA [aL,Δ k,Δ o] w' λC q=>V x7 (Z8 C 0) q λO=>V x7 (Z8 C 1) q λ_=>av x7 (o5 eP (Γ a) O) q λ(_:Unit) G=>au (Γ a) G:=by
  rintro a w' aL o x p ⟨f,e⟩ y E;refine (Bn y).mono ?_;rintro _ q _ ⟨aQ,_,_,aR⟩;obtain⟨A,m,rfl,ca,cb,B⟩:=aR I (aE _ E.1);obtain⟨L,M,B⟩:=B.at;rw[bu,bw];have cc:=e.lt;have s':=x.size;refine bo eP.i rfl rfl (e.ext aQ) Ξ λG bE cN cd=>?_;refine bA _ _ ⟨a,A,m,o,L,M,rfl,((bB.trans x).trans aQ).put bE Ω,cd,Ω,B.U bE (λhe=>by have he:A=a:=he;omega) (λhe=>by have he:m=a:=he;omega) (λr aS he=>?_),E⟩;exact MU B.2.1 (e.ext aQ) Φ aS he
 have bF:∀ {a:Nat} {w':x3} {aL:x1},Ext z w'->z.heap.size<=a->(∃f,aa w' a eP [f])->aF .i64 w' aL ac->
   ai x7 rU [K] w' λag w2=>ai x7 oA [aL,Δ k,ag] w2 λC q=>V x7 (Z8 C 0) q λO=>V x7 (Z8 C 1) q λ_=>av x7 (o5 eP (Γ a) O) q λ(_:Unit) G=>au (Γ a) G:=by
  rintro a w' aL x p ⟨f,e⟩ y;refine (CF (bC.ext x).ls bd Ω).mono ?_;rintro _ w2 _ ⟨P,o,rfl,E⟩;exact bD (x.trans P) p ⟨f,e.ext P⟩ (y.ext P) E
 have bG:∀ {a:Nat} {w':x3} {aL:x1},Ext z w'->z.heap.size<=a->(∃f,aa w' a eP [f])->aF .i64 w' aL ac->
   ai x7 u1 [Γ g] w' λaU J=>(Ext z J\/b4 x7 (u5 an (Γ ao)) K J/\True)/\
    ai x7 rU [K] J λag w2=>ai x7 oA [aL,aU,ag] w2 λC q=>V x7 (Z8 C 0) q λO=>V x7 (Z8 C 1) q λ_=>av x7 (o5 eP (Γ a) O) q λ(_:Unit) G=>au (Γ a) G:=by
  rintro a w' aL x p ⟨f,e⟩ y;refine (Bc (aC.ext x)).mono ?_;rintro _ J _ ⟨rfl,H⟩;exact⟨.inl (x.trans H),bF (x.trans H) p ⟨f,e.ext H⟩ (y.ext H)⟩
 have bH:ac.length<=1000:=Ω
 have bI:∀ {a:Nat} {w':x3},Ext z w'->z.heap.size<=a->(∃f,aa w' a eP [f])->
   ai x7 zk [.agg #[sv]] w' λce w0=>(Ext z w0\/b4 x7 (u5 an (Γ ao)) K w0/\True)/\
    ai x7 u1 [Γ g] w0 λaU J=>(Ext z J\/b4 x7 (u5 an (Γ ao)) K J/\True)/\
    ai x7 rU [K] J λag w2=>ai x7 oA [ce,aU,ag] w2 λC q=>V x7 (Z8 C 0) q λO=>V x7 (Z8 C 1) q λ_=>av x7 (o5 eP (Γ a) O) q λ(_:Unit) G=>au (Γ a) G:=by
  rintro a w' x p ⟨f,e⟩;refine (Bd (hm.ext (aP.trans x)).ls bH).mono ?_;rintro aL J _ ⟨H,_,_,y⟩;exact⟨.inl (x.trans H),bG (x.trans H) p ⟨f,e.ext H⟩ y.ls⟩
 have ah:∀ {w':x3} {R:x1->x3->Prop},Ext z w'->(∀a aj,z.heap.size<=a->Ext w' aj->(∃f,aa aj a eP [f])->R (Γ a) aj)->av x7 (S0 eP true (.tuple #[])) w' R:=λ{w'} {R} x cg=>by
  have:=x.size;exact bt eP.i λa aj p ch bb=>cg a aj Ω ch ⟨_,bb⟩
 refine⟨?_,ah (Ext.refl _) λa cO p aD e=>⟨.inl aD,?_⟩⟩
 rotate_left
 .refine (oX (aC.ext aD)).mono ?_;rintro _ cP _ ⟨rfl,aV⟩;obtain⟨f,e⟩:=e;exact⟨.inl (aD.trans aV),bI (aD.trans aV) p ⟨f,e.ext aV⟩⟩
 refine (oX aC).mono ?_;rintro _ cQ _ ⟨rfl,X⟩;refine⟨.inl X,?_,ah X λa cR p bJ e=>⟨.inl (X.trans bJ),bI (X.trans bJ) p e⟩⟩;refine (Bd (hm.ext (aP.trans X)).ls bH).mono ?_;rintro aL cS _ ⟨ci,_,_,y⟩;have Y:=X.trans ci;refine⟨.inl Y,?_,ah Y λa cT p aX e=>⟨.inl (Y.trans aX),bG (Y.trans aX) p e (y.ext aX).ls⟩⟩;refine (Bc (aC.ext Y)).mono ?_;rintro _ cU _ ⟨rfl,aZ⟩;have Z:=Y.trans aZ;refine⟨.inl Z,?_,ah Z λa cV p a1 e=>⟨.inl (Z.trans a1),bF (Z.trans a1) p e ((y.ext aZ).ext a1).ls⟩⟩;refine (CF (bC.ext Z).ls bd Ω).mono ?_;rintro _ cW _ ⟨bK,o,rfl,E⟩;have al:=Z.trans bK;have bL:=(y.ext aZ).ext bK;refine⟨?_,ah al λa cX p a2 e=>⟨.inl (al.trans a2),bD (al.trans a2) p e (bL.ext a2).ls E⟩⟩;refine (Bn bL.ls).mono ?_;rintro _ cY _ ⟨cj,_,_,aR⟩;obtain⟨A,m,rfl,ca,cb,B⟩:=aR I (aE _ E.1);obtain⟨L,M,B⟩:=B.at;rw[bu,bw];have a6:=al.trans cj;refine bt eP.i λa cZ p a7 e=>?_;refine⟨.inl (a6.trans a7),?_⟩;have cc:=e.lt;obtain⟨c0,c3,t3⟩:=B.qg;have c4:=al.size;have c5:=a6.size;refine bo eP.i rfl rfl e (by simp[x1.cells]) λc6 bM c7 ck=>?_;exact bA _ _ ⟨a,A,m,o,L,M,rfl,((bB.trans a6).trans a7).put bM Ω,ck,Ω,(B.ext a7).U bM (λhe=>by have he:A=a:=he;omega) (λhe=>by have he:m=a:=he;omega) (λr aS he=>by have he:r=a:=he;have:=t3 r aS;omega),E⟩
theorem CG {acc:List cz} {g:cz} (h:∀x∈acc,x.1≠g.1):ih k acc g=acc++[g]:=by
 unfold ih;rw[if_neg];intro hm;obtain⟨x,a,he⟩:=l7.1 hm;exact h x a he
theorem MX {acc:List cz} {g h:cz} {i:Nat} (e:iR acc) (hi:acc[i]? =σ h) (he:h.1=g.1):ih k acc g=acc.set i (h.1,dX k h.2 g.2):=by
 have f:=(x4.1 hi).1;unfold ih;rw[if_pos (l7.2 ⟨h,x5 hi,he⟩)];refine Y6 λj=>?_;rw[x8,X6];by_cases a:i=j
 .subst a;rw[hi,Z6,if_pos he,if_pos rfl,if_pos f]
 .rw[if_neg a];cases p:acc[j]? with
  |none=>rfl
  |some y=>
   have:y.1≠g.1:=λq=>a (by
    have h1:(acc.map (·.1))[i]? =σ g.1:=by rw[x8,hi,Z6,he]
    have r:(acc.map (·.1))[j]? =σ g.1:=by rw[x8,p,Z6,q]
    exact kt e h1 r)
   rw[Z6,if_neg this]
theorem MY {α β:Type} {f:β->α->β} {b:β} {l:List α} {i:Nat} {x:α} (h:l[i]? =σ x):(l.take (i+1)).foldl f b=f ((l.take i).foldl f b) x:=by
 rw[u9,h,o8,List.foldl_append];rfl
def mE (w:x3) (k:Int) (sizes:Λ) (x:cp):Prop:=(∃a,ap .i64 ag w a x.sv x.sc)/\ ∃m o D,eJ w x.g m (bP sizes x.sc) k o D/\D.length<=4096/\io (bP sizes x.sc) (ii D o) x.cs
theorem mE.ext {x:cp} (h:mE w k sizes x) (a:Ext w w'):mE w' k sizes x:=by
 obtain⟨⟨e,h1⟩,m,o,D,f,j⟩:=h;exact⟨⟨e,h1.ext a⟩,m,o,D,f.ext a,j⟩
theorem mE.U {x:cp} (h:mE w k sizes x) (q:ae S w w') (j:∀r,S r-> ∃e c,aa w r e c/\e≠fy/\e≠ag):mE w' k sizes x:=by
 obtain⟨⟨z,h1⟩,m,o,D,A,B⟩:=h;obtain⟨sv,gs,f⟩:=A.at;have s:∀ {g:Nat} {v:x1} {l:Λ},ap .i64 ag w g v l-> ∀r,leads v r->¬S r:=λhm r C I=>by
  obtain⟨e,c,a,_,p⟩:=j r I;exact cd hm a (λhe=>p he.symm) C rfl
 refine⟨⟨z,bq h1 q (s h1)⟩,m,o,D,(f.U q (λI=>?_) (λI=>?_) (s f.2.1)).is,B⟩
 .obtain⟨e,c,a,p,_⟩:=j _ I;have y:=f.1;unfold aa at y a;rw[y] at a;exact p (Obj.cells.inj (c7 a)).2.1.symm
 .obtain⟨e,c,a,_,_⟩:=j _ I;exact s4 a f.2.2.1 rfl
def qG (w:x3) (g:Nat) (v:x1) (k:Int) (sizes:Λ) (L:List cp):Prop:=bg eB 2 cE w g v L/\ ∀x∈L,mE w k sizes x
theorem qG.ext {g:Nat} {L:List cp} (h:qG w g v k sizes L) (a:Ext w w'):qG w' g v k sizes L:=⟨h.1.ext a,λx e=>(h.2 x e).ext a⟩
def MZ (w:x3) (B a:Nat) (f:bZ):Prop:=∃szv e gz g L,aa w a cD [bR f.name,Δ f.k,szv,e]/\ap .i64 ag w gz szv f.sizes/\qG w g e f.k f.sizes L/\L.map dV=fE f/\B<=a/\(∀r,leads szv r->B<=r)/\ ∀x∈L,∀r,leads x.sv r->B<=r
theorem M0 {g bm:Nat} {L:List cp} {q:Λ} (h:e0 w g v L) (B:aa w bm al [sv]) (I:aF .i64 w sv q):
  ai x7 za [v,.func (.func zb) #[] #[Γ bm]] w λr w'=>Ext w w'/\((r=Δ (-1)/\ ∀x∈L,x.sc≠q)\/ ∃i:Nat,r=Δ (i:Int)/\ ∃x,L[i]? =σ x/\x.sc=q):=by
 refine aw func152 ?_;rw[eA gg.u h.1];refine bY.range L.length (λi _ J=>Ext w J/\ ∀x∈L.take i,x.sc≠q) h.1.le ⟨Ext.refl _,λc a=>by simp at a⟩ ?_ ?_
 .rintro i _ J k hi ⟨f,s⟩ hk;refine bH Ω ?_;obtain⟨x,y⟩:=aE (l:=L) hi;rw[tb rfl (h.ext f) y];show ai x7 zb [jS x,Γ bm] J _;obtain⟨⟨E,hm⟩,_⟩:=(h.ext f).at y;refine aw func153 ?_;refine bn λam w2 G j z=>?_;have z:aa w2 am cW [x.sv,Γ x.g]:=by
   obtain⟨_,_,_,e⟩:=du hm.ls;simp only[jS,eB,e] at z ⊢;exact z
  rw[az cW.p 0 z rfl,aB Ψ ((B.ext (f.trans j)).Qz rfl)];refine (zN (hm.ls.ext j) (I.ext (f.trans j))).mono ?_;rintro _ H _ ⟨rfl,A⟩;rw[ah];refine⟨λhe=>⟨(f.trans j).trans A,.inr ⟨i,rfl,x,y,he⟩⟩,λC=>?_⟩;rw[aM];refine hk _ _ ⟨(f.trans j).trans A,λc a=>?_⟩;rw[u9,y] at a;rcases l9.1 a with a|a
  .exact s c a
  .simp at a;subst a;exact C
 .rintro _ J k ⟨f,s⟩;rw[o7] at s;rw[aQ,ah];exact⟨λh=>Ω,λ_=>⟨f,.inl ⟨rfl,s⟩⟩⟩
def eK (f:bZ) (i:Nat):List cz:=((f.funs.take i).map (hY f.sizes f.k)).foldl (ih f.k) []
theorem CH {f:bZ} (a:e6 N f) (i:Nat):(∀g∈eK f i,fG f.sizes f.k g)/\iR (eK f i)/\(eK f i).length<=i:=by
 have:=vV (sizes:=f.sizes) (k:=f.k) (by have:=a.k.1;omega) (l:=(f.funs.take i).map (hY f.sizes f.k)) (acc:=[]) (λh ay=>by cases ay) List.nodup_nil λg j=>by
  obtain⟨x,p,rfl⟩:=l7.1 j;exact pb a (T9 p)
 refine⟨this.1,this.2.1,?_⟩;have e:=this.2.2;rw[List.length_nil,u7,W0,j5] at e;exact X0 e (Nat.min_le_left _ _)
theorem wj {f:bZ} {i:Nat} {x:ch} (h:f.funs[i]? =σ x):eK f (i+1)=ih f.k (eK f i) (hY f.sizes f.k x):=by
 unfold eK;rw[u9,h,o8,j6,List.foldl_append];rfl
theorem CI (f:bZ):eK f f.funs.length=fl f:=by unfold eK fl;rw[o7]
theorem wk {L:List cp} {i:Nat} {x:cp} {D:List cz} (h:L.map dV=D) (a:L[i]? =σ x):dV x∈D:=by rw[<-h];exact l7.2 ⟨x,x5 a,rfl⟩
def M1 (w:x3) (f:bZ) (v:x1) (w':x3):Prop:=Ext w w'/\((¬ip f.funs<=16384/\ ∃e:Int,e≠0/\v= .tuple #[.pointer ν,Δ e])\/ ∃a,v= .tuple #[Γ a,Δ 0]/\MZ w' w.heap.size a f)
theorem th {g a:Nat} {sc cs:Λ} (hm:ap .i64 ag w g sv sc):∀u∈eB ⟨sv,a,sc,cs⟩,u.oneCell'=true:=λu hu=>by
 simp[eB] at hu;rcases hu with rfl|rfl
 .exact hm.ls.cells.2
 .rfl
theorem M2 {bN:Nat} {f:bZ} (bO:lf w bN f) (G:e6 N f) (bQ:N<=60000) (cY:f.name≠[]/\ ∀b∈f.name,bM b=true):
  ai x7 GN [Γ bN] w (M1 w f):=by
 have hk:=G.k;refine aw func93 ?_;refine (Mo bO G bQ cY).mono ?_;rintro _ J _ ⟨aI,e,rfl,he⟩;rw[bE,ah];refine⟨λbS=>⟨aI,.inl ⟨λh=>bS (he h),e,bS,rfl⟩⟩,λer=>?_⟩;have bV:=bO.ext aI;obtain⟨szv,aJ,gz,ba,bX,cZ,bb,aL⟩:=id bV;have es:ba.length<=256:=by rw[aL.1];exact G.k3
 rw[aO cD.p 3 bX rfl,fC dJ.u bb];refine bY.range ba.length (λi l w2=>∃g L,Ext J w2/\e0 w2 g l L/\Sem w2 f.k f.sizes L/\L.map dV=eK f i/\(∀r,leadsTo l r->J.heap.size<=r)/\ ∀x∈L,∀r,leads x.sv r->J.heap.size<=r) (nx bb)
  ⟨0,[],Ext.refl _,⟨bg.nil _ _ _ _ _,λx E=>(by cases E)⟩,λx E=>(by cases E),rfl,λr A=>(e7 A).elim,λx E=>(by cases E)⟩ ?_ ?_
 .rintro i l w2 c0 hi ⟨g,L,X,ay,aN,H,P,aA⟩ c3;obtain⟨d,b0⟩:=aE (l:=ba) hi;obtain⟨x,aQ⟩:∃x,f.funs[i]? =σ x:=⟨_,x6 (by have:=aL.1;omega)⟩;have b1:=x5 aQ;have c4:=aL.2 i x d aQ b0;have Y:=pb G b1;obtain⟨c5,c6,et⟩:=CH G i;have c8:L.length<=i:=by have b3:=congrArg T7 H;rw[u7] at b3;omega
  refine bH Ω ?_;refine aT (λl' aR=>∃Q Z,Ext J aR/\e0 aR Q l' Z/\Sem aR f.k f.sizes Z/\Z.map dV=eK f (i+1)/\(∀r,leadsTo l' r->J.heap.size<=r)/\ ∀x∈Z,∀r,leads x.sv r->J.heap.size<=r) ?_ ?_
  .rintro l' aR ⟨Q,Z,h1,c9,da,dc,de⟩;rw[aM];exact c3 _ _ ⟨Q,Z,h1,c9,da,dc,de⟩
  intro au b4;refine jI (α:=hb) cE.p rfl dJ.u cE.i (bd bb X) b0 λcs bc=>?_;have b5:cs.length=2:=aj.len bc;refine bt cE.i λam eu ev df dg=>?_;refine bT (vs:=cs) cE.i b5 rfl (aj.one bc) dg λdh di ew dj=>?_;have K:Ext w2 dh:=df.put di Ω;rw[bx cE.p cE.i b5 dj.range];refine (My G bQ b1 c4 (bd bc K)).mono ?_;rintro _ dk _ ⟨dl,sv,gs,b6,dm,dn,rfl,ey,ab,b7⟩;rw[bu,bw];refine bt al.i λbm ez eC dp dr=>?_;refine bo al.i ab.ls.cells.1 ab.ls.cells.2 dr (by simp[x1.cells]) λb8 ds eD aS=>?_;have be:Ext dk b8:=dp.put ds Ω;have aS:aa b8 bm al [sv]:=aS;rw[mm];have bf:=(K.trans dl).trans be;have eE:=bf.size;have eF:=X.size;refine (M0 (ay.ext bf) aS (ab.ls.ext be)).mono ?_;rintro _ eH _ ⟨aU,A⟩;have aV:=bf.trans aU;have b9:=be.trans aU;have bh:=ab.ext b9;have cb:=b7.ext b9;have cc:=aS.ext aU;have ce:=ay.ext aV;have bi:=aN.ext aV;rcases A with⟨rfl,dt⟩|⟨cg,rfl,y,B,aW⟩
  .refine bH Ω ?_;rw[aB Ψ (cc.Qz rfl),dq (cs:=#[sv,Γ b6]) (by obtain⟨_,_,_,rfl⟩:=du ab.ls;kernel_rfl)];let a:cp:=⟨sv,b6,bk x.scope,(hY f.sizes f.k x).2⟩;have bj:∀u∈eB a,u.oneCell'=true:=th bh;refine h0 (f:=eB) (a:=a) gg.u cW.i Ω rfl rfl λeI eJ dv eL ac dw=>?_;have af:=ce.ext ac;refine ik (f:=eB) (a:=a) gg.u cW.i rfl af.1 (by simpa using dw.sl) bj Ω Ω λaC Q eM aD bl aF=>?_;have ch:=bh.ext ac;have aX:∀ {r:Nat},leadsTo l r-> ∃c,aa dv r cW c:=λA=>by
    obtain⟨rfl,c,C⟩:=ef af.1 A;exact⟨c,C⟩
   refine b4 _ _ ⟨Q,L++[a],((X.trans aV).trans ac).then aF (λr A he=>by have:=P r he;omega),e0.mk aD λz s=>?_,λz s=>?_,?_,λr A=>?_,λz s r A=>?_⟩
   .rcases l9.1 s with s|s
    .have:=(af.2 z s).U aF λr A he=>(af.2 z s).2.1 r A (af.1.leads he).1;exact⟨this.1,this.2.2⟩
    .rw[n9.1 s];exact⟨⟨gs,bq ch aF λr A he=>by obtain⟨c,C⟩:=aX he;exact cd ch C Φ A rfl⟩,Y.scope⟩
   .rcases l9.1 s with s|s
    .exact (bi.ext ac).row af aF z s
    .rw[n9.1 s];exact⟨dm,dn,wc (cb.ext ac) aF λr A=>aX A⟩
   .rw[j6,H,wj aQ,CG]
    .rfl
    .intro c I dx;rw[<-H] at I;obtain⟨z,s,rfl⟩:=l7.1 I;exact dt z s dx
   .rcases bl r A with h|h
    .exact P r h
    .have:=ac.size;have:=aU.size;omega
   .rcases l9.1 s with s|s
    .exact aA z s r A
    .rw[n9.1 s] at A;have b3:=(bU ab A).1;have:=K.size;omega
  .refine ca Ω ?_;intro eN R _ _;have bp:=ce.ext R;have cj:=(x4.1 B).1;obtain⟨dy,dz,aY⟩:=(bi.ext R) y (x5 B);have ck:=cc.ext R;have cl:=bh.ext R;have dA:=cb.ext R;rw[db rfl gg.u cW.i bp.1 cj,aP cW.p rfl,aB Ψ (bp.1.range B 1 _ rfl),aB Ψ (ck.Qz rfl),aB Ψ (ck.Qz rfl)];have ak:fG f.sizes f.k (dV y):=c5 _ (wk H B);rw[aW] at aY;have cm:∀ {c:Int},0<=c/\c<=f.k->cv c f.k:=λh=>⟨hk,h.1,h.2⟩;refine (MK aY dA cl.ls cl.ls hk (λc I=>cm (ak.im c I)) (λc I=>cm (Y.im c I))).mono ?_;intro eO cn _ dC;have dD:y.cs.length=(aK (bP f.sizes (bk x.scope))).toNat:=by have:=ak.len;rw[show (dV y).1=y.sc from rfl,aW] at this;exact this
   have dE:b2 (bP f.sizes (bk x.scope)):=b7.2.2.1;obtain⟨br,cq,cr,ct,eP,rfl,dF⟩:=MP Y.up (λv dG=>(Y.scope.1 v dG).1) (by simp[bP];rfl) dE Y.small dD Y.len dC;rw[hR,hS,hT];have S:=bp.ext br;rw[db rfl gg.u cW.i S.1 cj,aP cW.p rfl];let a:cp:=⟨y.sv,cq,y.sc,dX f.k y.cs (hY f.sizes f.k x).2⟩;refine o0 (f:=eB) (j:=1) (a:=y) (a':=a) eQ.i rfl rfl S.1 B rfl Ω λdH aZ eR dI=>?_;have aX:∀ {r:Nat},leadsTo l r-> ∃c,aa cn r cW c:=λA=>by
    obtain⟨rfl,c,C⟩:=ef S.1 A;exact⟨c,C⟩
   refine b4 _ _ ⟨g,L.set cg a,((X.trans aV).trans (R.trans br)).then aZ (λr A he=>by have:=P r he;omega),e0.mk dI λz s=>?_,λz s=>?_,?_,P,λz s=>?_⟩
   .have cu:∀z∈L,(∃bz,ap .i64 ag dH bz z.sv z.sc)/\jo z.sc:=λz s=>by
     have:=(S.2 z s).U aZ λr A he=>(S.2 z s).2.1 r A (S.1.leads he).1;exact⟨this.1,this.2.2⟩
    rcases W3 s with s|rfl
    .exact cu z s
    .exact cu y (x5 B)
   .rcases W3 s with s|rfl
    .exact ((bi.ext R).ext br).row S aZ z s
    .refine⟨cr,ct,wc ?_ aZ λr A=>aX A⟩;show dd cn cq cr ct (bP f.sizes y.sc) f.k _;rw[aW];exact dF
   .rw[U9,H,wj aQ,MX (g:=hY f.sizes f.k x) c6 (i:=cg) (h:=dV y) (by rw[<-H,x8,B];rfl) aW];rfl
   .rcases W3 s with s|rfl
    .exact aA z s
    .exact aA y (x5 B)
 .rintro l w2 c0 ⟨g,L,X,ay,aN,H,P,aA⟩;refine ca Ω ?_;rw[aL.1,CI] at H;have c8:L.length<=256:=by
   have:=(lb G).2.2;rw[<-H,u7] at this;have:=G.k3;omega
  refine (ME ay aN Ω).mono ?_;rintro eS cw _ ⟨cz,cA,dK⟩;have dL:Ext J cw:=X.then cz λr A he=>by have:=P r he;omega
  have dM:Sem cw f.k f.sizes (L.filter fT):=λz s=>(aN.row ay cz) z (T4.1 s).1;have eU:(L.filter fT).length<=L.length:=List.length_filter_le _ _;refine (Mv cA Ω).mono ?_;rintro _ cB _ ⟨cC,M,a1,dN,cF⟩;have dO:Ext J cB:=dL.then cC λr A he=>by have:=P r (dK r he);omega
  have cG:Sem cB f.k f.sizes M:=λz s=>(dM.row cA cC) z (a1.mem_iff.1 s);have eV:M.length<=256:=by rw[a1.length_eq];omega
  have dP:∀x∈M,∀r,leads x.sv r->J.heap.size<=r:=λx E=>aA x (T4.1 (a1.mem_iff.1 E)).1;have cH:M.map dV=fE f:=by
   refine Lv G ?_ ?_
   .refine (a1.map dV).trans ?_;rw[<-H,List.filter_map];exact .refl _
   .rw[List.pairwise_map];refine V9.2 λp q dQ cI dR=>?_;exact dN p q _ _ (X8 _) dR cI (x6 dQ) (x6 cI)
  intro eW a2 _ _;have an:=dO.trans a2;have eX:=bV.ext an;have bA:=bX.ext an;rw[aO cD.p 0 bA rfl,aO cD.p 1 bA rfl,aO cD.p 2 bA rfl];refine (kY (cZ.ls.ext an) (by have:=G.sizes.2.1;omega)).mono ?_;rintro aG cJ _ ⟨V,dS,eY,bB⟩;refine⟨.inl V,?_⟩;rw[dq (cs:=#[bR f.name,Δ f.k,aG,.slice ν 0 0]) (by obtain⟨_,_,_,rfl⟩:=du bB.ls;kernel_rfl)];refine bn λW dT eZ a6 bC=>?_;have bC:aa dT W cD [bR f.name,Δ f.k,aG,.slice ν 0 0]:=bC;have e1:=(an.trans V).trans a6;have dU:=((cF.ext a2).ext V).ext a6;have e2:=((cG.ext a2).ext V).ext a6;rw[eA gg.u dU.1];refine ci.range M.length (λi ao=>∃aJ gr O,Ext cJ ao/\aa ao W cD [bR f.name,Δ f.k,aG,aJ]/\qG ao gr aJ f.k f.sizes O/\O.map dV=(M.take i).map dV/\O.length=i/\(∀r,leadsTo aJ r->cJ.heap.size<=r)/\ ∀x∈O,∀r,leads x.sv r->J.heap.size<=r) Ω
   ⟨_,0,[],a6,bC,⟨bg.nil _ _ _ _ _,λx E=>(by cases E)⟩,rfl,rfl,λr A=>(e7 A).elim,λx E=>(by cases E)⟩ ?_ ?_
  rotate_left
  .rintro ao dW ⟨aH,gr,O,aq,av,bD,a7,_,_,bF⟩;rw[o7,cH] at a7;refine ca Ω ?_;have e3:=aI.size;have e4:=an.size;have e5:=V.size;exact⟨(aI.trans (an.trans V)).trans aq,.inr ⟨W,rfl,aG,aH,dS,gr,O,av,bB.ext aq,bD,a7,Ω,λr A=>by have:=(bU bB A).1;omega,λx E r A=>by have:=bF x E r A;omega⟩⟩
  rintro i ao dW hi ⟨aH,gr,O,aq,av,bD,a7,dY,cK,bF⟩ dZ;obtain⟨y,B⟩:=aE (l:=M) hi;have cL:=(a2.trans V).trans aq;have cM:=cF.ext cL;have cN:=cM.at B;obtain⟨dy,dz,aY⟩:=(cG.ext cL) y (x5 B);have ak:fG f.sizes f.k (dV y):=sX G _ (wk cH B);refine bH Ω ?_;rw[tb rfl cM B];refine bt cW.i λgy e8 e9 ea eb=>?_;refine bT (vs:=eB y) cW.i rfl rfl cN.one eb λec ed fa ee=>?_;have eg:Ext ao ec:=ea.put ed Ω;intro fb cO _ _;have bG:=eg.trans cO;have cP:=ee.ext cO;have eh:=av.ext bG;rw[aO cD.p 3 eh rfl,az cW.p 0 cP rfl,az cW.p 1 cP rfl];refine (MW (aY.ext bG) λc I=>⟨hk,(ak.im c I).1,(ak.im c I).2⟩).mono ?_;rintro _ fc _ ⟨bI,ad,m,o,D,rfl,ei,ej,ek,_⟩;refine⟨.inl bI,?_⟩;have cQ:=bG.trans bI;obtain⟨⟨bz,cR⟩,_,fd⟩:=cN;have cS:=cR.ext cQ;rw[dq (cs:=#[y.sv,Γ ad]) (by obtain⟨_,_,_,e⟩:=du cR.ls;rw[e];kernel_rfl)];let a:cp:=⟨y.sv,ad,y.sc,y.cs⟩;have bj:∀u∈eB a,u.oneCell'=true:=th cS;refine h0 (f:=eB) (a:=a) dJ.u cE.i Ω rfl rfl λv25 fe bJ ff K em=>?_;refine⟨.inl (bI.trans K),?_⟩;have ax:=cQ.trans K;have a8:=bD.ext ax;refine ik (f:=eB) (a:=a) dJ.u cE.i rfl a8.1 (by simpa using em.sl) bj Ω Ω λaC Q en aD bl cT=>?_;have fg:=aq.size;have fh:=ax.size;have bK:aa en W cD [bR f.name,Δ f.k,aG,aH]:=(av.ext ax).U cT λhe=>by
   obtain⟨rfl,c,C⟩:=ef a8.1 he;have h1:=av.ext ax;unfold aa at C h1;rw[h1] at C;exact absurd (Obj.cells.inj (c7 C)).2.1 Φ
  rw[bW,aP cD.p rfl];have cU:aC.cells= #[aC]/\aC.oneCell'=true:=by
   obtain⟨_,_,_,_,_,rfl,_⟩:=aD.sl;exact⟨rfl,rfl⟩
  refine bo dJ.i cU.1 cU.2 bK Ξ λeo cV fj ep=>?_;rw[aM];have bL:ae (λr=>r=W\/leadsTo aH r) bJ eo:=(cT.mono λr _ h=>.inr h).trans (cV.mono λr _ h=>.inl h);have cX:∀r,(r=W\/leadsTo aH r)-> ∃e c,aa bJ r e c/\e≠fy/\e≠ag:=λr A=>by
   rcases A with rfl|A
   .exact⟨_,_,av.ext ax,Φ,Φ⟩
   .obtain⟨rfl,c,C⟩:=ef a8.1 A;exact⟨_,c,C,Φ,Φ⟩
  refine dZ _ ⟨aC,Q,O++[a],?_,ep,⟨aD.U cV λr A he=>?_,λz s=>?_⟩,?_,by rw[p8,dY];rfl,λr A=>?_,λz s=>?_⟩
  .exact (aq.trans ax).then bL λr A he=>by
    rcases he with rfl|he
    .omega
    .have:=cK r he;omega
  .have he:r=W:=he;subst he;obtain⟨rfl,c,C⟩:=ef aD A;unfold aa at C bK;rw[bK] at C;exact absurd (Obj.cells.inj (c7 C)).2.1 Φ
  .rcases l9.1 s with s|s
   .exact (a8.2 z s).U bL cX
   .rw[n9.1 s];refine mE.U (w:=bJ) ⟨⟨bz,cS.ext K⟩,m,o,D,ei.ext K,?_,ek⟩ bL cX;have:=ak.small;exact X0 ej (by show (aK (bP f.sizes (dV y).1)).toNat<=4096;omega)
  .rw[j6,a7,u9,B,j6];rfl
  .rcases bl r A with h|h
   .exact cK r h
   .omega
  .rcases l9.1 s with s|s
   .exact bF z s
   .rw[n9.1 s];exact dP y (x5 B)
theorem eu {a:r9} {c f:List x1} (h:aa w r e c) (h':aa w r a f):e=a:=by
 unfold aa at h h';rw[h] at h';exact (Obj.cells.inj (c7 h')).2.1
theorem cQ {α:Type} {f:α->List x1} {k:Nat} {a:r9} {g:Nat} {L:List α} (h:bg f k e w g v L) (p:aa w j a cs) (q:e≠a):¬leadsTo v j:=λr=>by
 obtain⟨rfl,c,s⟩:=ef h r;exact q (eu s p)
structure lg where
 v:x1
 l:Λ
def nV (h:lg):List x1:=[h.v]
def hE (w:x3) (g:Nat) (v:x1) (aR:List lg):Prop:=bg nV 1 an w g v aR/\ ∀h∈aR,∃a,ap .i64 ak w a h.v h.l
theorem hE.ext {g:Nat} {aR:List lg} (h:hE w g v aR) (a:Ext w w'):hE w' g v aR:=⟨h.1.ext a,λx e=>by
 obtain⟨f,hm⟩:=h.2 x e;exact⟨f,hm.ext a⟩⟩
theorem hE.qH {g:Nat} {aR:List lg} (h:hE w g v aR) (f:ae S w w') (j:∀r,S r-> ∃e c,aa w r e c/\e≠ak):∀h∈aR,∃a,ap .i64 ak w' a h.v h.l:=λx p=>by
 obtain⟨a,hm⟩:=h.2 x p;exact⟨a,bq hm f λr q I=>by
  obtain⟨e,c,s,y⟩:=j r I;exact cd hm s (λhe=>y he.symm) q rfl⟩
theorem hE.U {g:Nat} {aR:List lg} (h:hE w g v aR) (p:ae S w w') (q:∀r,S r-> ∃e c,aa w r e c/\e≠ak/\e≠an):hE w' g v aR:=
 ⟨h.1.U p λr a I=>by
  obtain⟨e,c,f,_,j⟩:=q r I;exact cQ h.1 f (λhe=>j he.symm) a,h.qH p λr a=>by
  obtain⟨e,c,f,j,_⟩:=q r a;exact⟨e,c,f,j⟩⟩
def nW (w:x3) (k:Int) (sizes:Λ) (x:cp):Prop:=(∃a,ap .i64 ag w a x.sv x.sc)/\ ∃e f,dd w x.g e f (bP sizes x.sc) k x.cs
theorem nW.ext {x:cp} (h:nW w k sizes x) (a:Ext w w'):nW w' k sizes x:=by
 obtain⟨⟨e,h1⟩,f,j,p⟩:=h;exact⟨⟨e,h1.ext a⟩,f,j,p.ext a⟩
theorem CJ {g s:Nat} {x:x1} {cs:Λ} (h:dd w g s x ac k cs) (j:ae S w w') (p:∀r,S r-> ∃e c,aa w r e c/\e≠cX/\e≠ag/\e≠ak):dd w' g s x ac k cs:=by
 obtain⟨⟨aY,gs,h1,y,z⟩,A⟩:=h;refine⟨⟨aY,gs,h1.U j λI=>?_,bq y j λr q I=>?_,bq z j λr q I=>?_⟩,A⟩
 .obtain⟨e,c,a,f,_⟩:=p g I;exact f (eu a h1)
 .obtain⟨e,c,a,_,f,_⟩:=p r I;exact cd y a (λhe=>f he.symm) q rfl
 .obtain⟨e,c,a,_,_,f⟩:=p r I;exact cd z a (λhe=>f he.symm) q rfl
theorem nW.U {x:cp} (h:nW w k sizes x) (a:ae S w w') (f:∀r,S r-> ∃e c,aa w r e c/\e≠cX/\e≠ag/\e≠ak):nW w' k sizes x:=by
 obtain⟨⟨j,h1⟩,p,q,s⟩:=h;refine⟨⟨j,bq h1 a λr y I=>?_⟩,p,q,CJ s a f⟩;obtain⟨e,c,z,_,A,_⟩:=f r I;exact cd h1 z (λhe=>A he.symm) y rfl
def nX (w:x3) (g:Nat) (v:x1) (k:Int) (sizes:Λ) (L:List cp):Prop:=bg eB 2 hv w g v L/\ ∀x∈L,nW w k sizes x
theorem nX.ext {g:Nat} {L:List cp} (h:nX w g v k sizes L) (a:Ext w w'):nX w' g v k sizes L:=⟨h.1.ext a,λx e=>(h.2 x e).ext a⟩
theorem nX.U {g:Nat} {L:List cp} (h:nX w g v k sizes L) (p:ae S w w') (q:∀r,S r-> ∃e c,aa w r e c/\e≠hv/\e≠cX/\e≠ag/\e≠ak):nX w' g v k sizes L:=
 ⟨h.1.U p λr a I=>by
  obtain⟨e,c,f,j,_⟩:=q r I;exact cQ h.1 f (λhe=>j he.symm) a,λx s=>(h.2 x s).U p λr a=>by
  obtain⟨e,c,f,_,j⟩:=q r a;exact⟨e,c,f,j⟩⟩
def fU (w:x3) (h:Nat) (n:aS):Prop:=∃a e f j gr aR L nm szv gz fv2,aa w h fw [Γ a,Δ n.zero,e,f]/\aa w a cD [nm,Δ n.k,szv,fv2]/\ap .i64 ag w gz szv n.sizes/\
 hE w j e aR/\aR.map (·.l)=n.unary/\nX w gr f n.k n.sizes L/\L.map dV=n.funs
theorem fU.ext {e:Nat} {n:aS} (h:fU w e n) (a:Ext w w'):fU w' e n:=by
 obtain⟨f,j,p,q,gr,aR,L,nm,szv,gz,fv2,h1,r,s,x,y,z,A⟩:=h;exact⟨f,j,p,q,gr,aR,L,nm,szv,gz,fv2,h1.ext a,r.ext a,s.ext a,x.ext a,y,z.ext a,A⟩
def qI (w:x3) (B:Nat) (k:Int) (sizes:Λ) (x:cp):Prop:=(∃f,ap .i64 ag w f x.sv x.sc)/\(∃a e,dd w x.g a e (bP sizes x.sc) k x.cs/\B<=a/\ ∀r,leads e r->B<=r)/\B<=x.g/\ ∀r,leads x.sv r->B<=r
theorem qI.U {x:cp} (h:qI w B k sizes x) (a:ae S w w') (f:∀r,S r-> ∃e c,aa w r e c/\e≠cX/\e≠ag/\e≠ak):qI w' B k sizes x:=by
 obtain⟨⟨j,h1⟩,⟨p,q,s,y⟩,z⟩:=h;refine⟨⟨j,bq h1 a λr A I=>?_⟩,⟨p,q,CJ s a f,y⟩,z⟩;obtain⟨e,c,C,_,E,_⟩:=f r I;exact cd h1 C (λhe=>E he.symm) A rfl
def lX (w:x3) (B g:Nat) (v:x1) (k:Int) (sizes:Λ) (L:List cp):Prop:=bg eB 2 hv w g v L/\ ∀x∈L,qI w B k sizes x
theorem lX.ext {g:Nat} {L:List cp} (h:lX w B g v k sizes L) (a:Ext w w'):lX w' B g v k sizes L:=⟨h.1.ext a,λx e=>(h.2 x e).U (a.U λ_=>False) λ_ h=>h.elim⟩
theorem lX.U {g:Nat} {L:List cp} (h:lX w B g v k sizes L) (p:ae S w w') (q:∀r,S r-> ∃e c,aa w r e c/\e≠hv/\e≠cX/\e≠ag/\e≠ak):lX w' B g v k sizes L:=
 ⟨h.1.U p λr a I=>by
  obtain⟨e,c,f,j,_⟩:=q r I;exact cQ h.1 f (λhe=>j he.symm) a,λx s=>(h.2 x s).U p λr a=>by
  obtain⟨e,c,f,_,j⟩:=q r a;exact⟨e,c,f,j⟩⟩
theorem CK:∃o:Obj,fs o=false:=⟨.deferred ν,rfl⟩
theorem ghost (w:x3) (B:Nat):∃w0,Ext w0 w/\ae (λr=>r<B) w w0/\ ∀r o,w0.heap[r]? =σ o->fs o=true->B<=r:=by
 obtain⟨cq,f⟩:=CK;have e:∀r,(w.heap.mapIdx λr o=>if r<B then cq else o)[r]? =(w.heap[r]?).map λo=>if r<B then cq else o:=λr=>Ξ
 refine⟨{w with heap:=w.heap.mapIdx λr o=>if r<B then cq else o},⟨Ξ,λr o a I=>?_⟩,⟨Ξ,λr o a I j=>?_⟩,λr o a I=>?_⟩
 .have a:(w.heap.mapIdx λr o=>if r<B then cq else o)[r]? =σ o:=a;rw[e] at a;cases h:w.heap[r]? with
  |none=>rw[h] at a;cases a
  |some o'=>
   rw[h] at a;simp only[Z6,Y3] at a;split at a
   .subst a;rw[f] at I;cases I
   .rw[a]
 .show (w.heap.mapIdx λr o=>if r<B then cq else o)[r]? =σ o;rw[e,a,Z6,if_neg j]
 .have a:(w.heap.mapIdx λr o=>if r<B then cq else o)[r]? =σ o:=a;rw[e] at a;cases h:w.heap[r]? with
  |none=>rw[h] at a;cases a
  |some o'=>
   rw[h] at a;simp only[Z6,Y3] at a;split at a
   .subst a;rw[f] at I;cases I
   .omega
def CL (B:Nat) (w:x3) (a:Nat) (n:aS):Prop:=∃w0,fU w0 a n/\Ext w0 w/\ ∀r o,w0.heap[r]? =σ o->fs o=true->B<=r
theorem M3 {y C gr gz:Nat} {n:aS} {p q nm fv2:x1} {aR:List lg} {L:List cp} (h1:aa w y fw [Γ j,Δ n.zero,p,q]) (E:aa w j cD [nm,Δ n.k,szv,fv2]) (I:ap .i64 ag w gz szv n.sizes)
  (F:hE w C p aR) (J:aR.map (·.l)=n.unary) (G:lX w B gr q n.k n.sizes L) (K:L.map dV=n.funs) (M:B<=y) (N:B<=j) (O:∀r,leads szv r->B<=r) (H:∀r,leadsTo p r\/leadsTo q r->B<=r) (P:∀h∈aR,∀r,leads h.v r->B<=r):CL B w y n:=by
 obtain⟨w0,z,a,Q⟩:=ghost w B;have no:∀ {r:Nat},B<=r->¬r<B:=λh E=>Ω
 have s:∀ {e:r9} {g:Nat} {v:x1} {l:Λ},ap .i64 e w g v l->(∀r,leads v r->B<=r)->ap .i64 e w0 g v l:=λh R=>bq h a λr f=>no (R r f);refine⟨w0,⟨j,p,q,C,gr,aR,L,nm,szv,gz,fv2,h1.U a (no M),E.U a (no N),s I O,⟨F.1.U a λr f=>no (H r (.inl f)),λh ay=>?_⟩,J,⟨G.1.U a λr f=>no (H r (.inr f)),λx z=>?_⟩,K⟩,z,Q⟩
 .obtain⟨A,hm⟩:=F.2 h ay;exact⟨A,s hm (P h ay)⟩
 .obtain⟨⟨A,S⟩,⟨V,W,⟨⟨aY,gs,X,Y,t3⟩,t4⟩,ad,Z⟩,ab,ac⟩:=G.2 x z;exact⟨⟨A,s S ac⟩,V,W,⟨aY,gs,X.U a (no ab),s Y Z,bq t3 a λr f=>no (by have:=(bU t3 f).1;omega)⟩,t4⟩
def iT (n:aS) (g:cz):aS:=match g.1 with
 |[]=>{n with zero:=g.2.getD 0 0}
 |[v]=>{n with unary:=n.unary.set v.toNat g.2}
 |_=>{n with funs:=n.funs++[g]}
def CM (f:bZ):aS:=⟨f.k,f.sizes,0,f.sizes.map λz=>p9 z.toNat 0,[]⟩
theorem M4 (f:bZ):df f=(fE f).foldl iT (CM f):=rfl
def dG (f:bZ) (i:Nat):aS:=((fE f).take i).foldl iT (CM f)
theorem wm {f:bZ} {i:Nat} {g:cz} (h:(fE f)[i]? =σ g):dG f (i+1)=iT (dG f i) g:=MY h
theorem ti (f:bZ):dG f (fE f).length=df f:=by unfold dG;rw[o7,M4]
theorem M5 (n:aS) (g:cz):(iT n g).k=n.k/\(iT n g).sizes=n.sizes/\(iT n g).unary.length=n.unary.length/\(iT n g).funs.length<=n.funs.length+1:=by
 unfold iT;split
 .exact⟨rfl,rfl,rfl,Nat.le_succ _⟩
 .exact⟨rfl,rfl,Ξ,Nat.le_succ _⟩
 .exact⟨rfl,rfl,rfl,Ξ⟩
theorem pe (f:bZ):∀i,(dG f i).k=f.k/\(dG f i).sizes=f.sizes/\(dG f i).unary.length=f.sizes.length/\(dG f i).funs.length<=i
 |0=>⟨rfl,rfl,by show (f.sizes.map _).length=_;simp,X8 _⟩
 |i+1=>by
  have a:=pe f i;cases h:(fE f)[i]? with
  |none=>
   have j:=S4.1 h;have e:dG f (i+1)=dG f i:=by unfold dG;rw[o9 Ω,o9 j]
   rw[e];exact⟨a.1,a.2.1,a.2.2.1,Ω⟩
  |some g=>
   rw[wm h];obtain⟨h1,p,q,r⟩:=M5 (dG f i) g;exact⟨h1.trans a.1,p.trans a.2.1,q.trans a.2.2.1,Ω⟩
end Go.Proofs.YtjjhhcfgfdepdaaGreatDoor
