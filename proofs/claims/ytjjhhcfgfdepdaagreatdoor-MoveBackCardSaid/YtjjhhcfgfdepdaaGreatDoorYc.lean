/- own texts, made small by a tool (wip/ holds them as they were written): no statement of the seat. -/
import Derived.Test.YtjjhhcfgfdepdaaGreatDoorYb
set_option linter.unusedVariables false
set_option linter.unusedSimpArgs false
set_option linter.unnecessarySimpa false
open Array renaming getElem?_eq_some_iff→j0
open Bool renaming not_true→Y4,not_false→W5,eq_iff_iff→V3,or_eq_false_iff→S2
open Decidable renaming not_not→Y3
open Go renaming Value→x1,World→x3,TypeId→r9,IntKind→o6,Builtin→Z1,Program→W3,FuncId→R3
open Go.Addr renaming add_mid→T5
open Go.Builtin renaming append_→b8,len_→W7
open Go.Instr renaming loadAt→u5,fieldAt→u6,storeAt→o8,indexAt→c7,extract→Z7,buildSlice→Y1,sliceAt→V5,alloc→T7
open Go.IntKind renaming i64→X2
open Go.Proofs.Tryz renaming prog→x7
open Go.Value renaming int→V0
open Int renaming toNat_natCast→r8
open List renaming getElem?_eq_some_iff→x4,mem_of_getElem?→x5,getElem?_eq_getElem→x6,getElem?_map→x8,getD_eq_getElem?_getD→u4,length_map→u7,take_add_one→u9,length_append→p8,replicate→p9,take_length→o5,take_of_length_le→o9,mem_map→n9,mem_append→l7,mem_singleton→l9,getElem?_set_self→j4,length_take→j5,map_append→j6,append_assoc→c9,eq_nil_of_length_eq_zero→b9,length_cons→Z0,length_set→Z2,getElem?_eq_none→Z3,getElem?_append_left→Z8,getElem?_append_right→Z9,getElem?_set_ne→Y0,ext_getElem?→Y2,getElem?_take_of_lt→Y8,getElem?_set→X1,mem_iff_getElem?→X4,mem_or_eq_of_mem_set→X6,drop_eq_getElem_cons→X7,append_nil→X9,mem_cons→W6,length_eq_one_iff→W8,range→V1,pairwise_iff_getElem→V2,map_cons→V4,map_set→U3,length_singleton→U6,mem_filter→U8,length→T1,set_append_right→T2,mem_of_mem_take→T3,getElem_mem→T8,map_map→S8
open Nat renaming le_refl→o4,le_trans→Y5,zero_le→X3,zero_add→X5,sub_self→U1,mul_one→U9,eq_zero_or_pos→S4,add_assoc→S9,lt_of_lt_of_le→R5
open Option renaming toList_some→o7,map_some→Z4,isNone_some→Z5,map_eq_some_iff→Y7,getD_some→V6,map→V8
open Option.some renaming inj→c8,injEq→X0
open Prod.mk renaming injEq→T9
set_option maxHeartbeats 16000000
open Option renaming some→σ,none→ν
variable {w w':x3}{B N gs j m n r:Nat}{k y:Int}{clean:Bool}{S:Nat->Prop}{be bv sv szv v:x1}{e:r9}{a ad all l scope sizes t:Λ}{cs:List x1}{K:x1->x3->Prop}
namespace Go.Proofs.YtjjhhcfgfdepdaaGreatDoor
open Go Go.Vc Go.RowKit Go.Proofs Go.Proofs.Tryz
set_option maxRecDepth 100000
abbrev o3 (n:Nat):ag:=λr=>r<n
def qu (n:Int) (k:Nat) (s:Option aD):Option (Λ×aD):=s.bind (e0 n k)
theorem Lq {g k:Nat} {A B:ag} {s:Option aD} {m:Int} (h:dr w g gs A B clean s) (hk:k<=4611686018427387904) (hm:0<=m/\m<=1000000):
  ai x7 y8 [Γ g,Δ (k:Int),Δ m] w λv w'=>fP w g gs A B clean ((qu m k s).map (·.2)) w'/\
   ∃gr l,ap .i64 al w' gr v l/\(∀r,leads v r->w.heap.size<=r)/\l.length<=100001/\ ∀q,qu m k s=σ q->l=q.1:=by
 cases s with
 |some s=>exact Kf (s:=s) h hk hm
 |none=>
  have h:eC w g gs A B:=h;refine aw func140 ?_;refine⟨λout j J=>w=J/\out= .slice ν 0 0/\j=Δ 0,λ_ _ _=>0,⟨rfl,rfl,rfl⟩,?_⟩;rintro _ _ _ ⟨rfl,rfl,rfl⟩;refine aU (λv U=>Ext w U/\v= .bool false) ?_ ?_
  .rintro _ U ⟨e,rfl⟩;rw[aY];exact⟨fP.mk (e.V _) (h.ext e),0,[],ap.nil _ _ _ _,λr p=>absurd p (λh=>by obtain⟨a,n,c,h,_⟩:=h;cases h),Ξ,λq x=>by cases x⟩
  .intro av f;rw[aR,aj];refine⟨λ_=>?_,λ_=>f _ _ ⟨Ext.refl _,rfl⟩⟩;refine (nJ h).mono ?_;rintro _ U _ ⟨rfl,e⟩;exact f _ _ ⟨e,rfl⟩
def sN (z:Λ) (l:List (Λ×Int)) (s:aD):aD:={s with shared:=s.shared++[(z,l)]}
def BP (w:x3) (g gs:Nat):Prop:=∃ (e big a f told:Int) (sv:x1),ab w g cg (fD gs e big a f told sv)/\e≠0
def gW (w:x3) (g gs:Nat) (A:ag) (B:ag) (clean:Bool) (s:Option aD):Prop:=match s with
 |some s=>dl w g gs A B s clean
 |none=>BP w g gs
theorem dr.q {g:Nat} {A:ag} {B:ag} {s:Option aD} (h:dr w g gs A B clean s):gW w g gs A B clean s:=by
 cases s with
 |some s=>exact h
 |none=>
  obtain⟨_,e,big,a,f,told,sv,l,j,p,_⟩:=h;exact⟨e,big,a,f,told,sv,j,p.1⟩
theorem gW.V {g:Nat} {A:ag} {B:ag} {s:Option aD} (h:gW w g gs A B clean s) (a:ae S w w') (j:¬S g) (p:∀r,bE g gs A r->r<w.heap.size->¬S r) (q:∀r,cG g gs A B r->¬S r):gW w' g gs A B clean s:=by
 cases s with
 |some s=>
  have h:dl w g gs A B s clean:=h;exact dl.V h a (λr f=>p r f (h.1.2.2.2.1 r f)) q
 |none=>
  obtain⟨e,big,x,y,told,sv,z,C⟩:=h;exact⟨e,big,x,y,told,sv,z.V a j,C⟩
theorem gW.ext {g:Nat} {A:ag} {B:ag} {s:Option aD} (h:gW w g gs A B clean s) (a:Ext w w'):gW w' g gs A B clean s:=h.V (a.V λ_=>False) (λh=>h) (λ_ _ _ h=>h) (λ_ _ h=>h)
theorem BQ {g:Nat} {A:ag} {B:ag} {s:Option aD} (h:gW w g gs A B clean s):ai x7 kM [Γ g] w λv w'=>v= .bool s.isSome/\Ext w w':=by
 cases s with
 |none=>
  obtain⟨e,big,p,q,told,sv,a,f⟩:=h;refine (vE a).mono ?_;rintro _ J _ ⟨rfl,j⟩;exact⟨by rw[decide_eq_false f];rfl,j⟩
 |some s=>exact oT h
theorem hs.aW {g:Nat} {R R':Nat->Prop} {toks:List (Λ)} (h:hs w g R toks clean) (f:ae S w w') (q:¬S g) (s:∀r,R r->¬S r) (x:∀r,R r->R' r):hs w' g R' toks clean:=by
 obtain⟨y,p,a,⟨h1,z,A,B,bl,C⟩,j,E⟩:=h;exact⟨y,p,a,⟨h1,z,A,B.V f q,bl,bn C f λr e=>s r (j r e)⟩,λr e=>x r (j r e),E⟩
theorem lY {α:Type} [ak α] {m:Bool} {S R:ag} {l:List α} (h:ak.rep m S R w [v] l):∃a n c,v= .slice a n c:=by
 obtain⟨vs,e,F,f,he,I,hm⟩:=hQ h;obtain⟨j,b,o,base,cap,rfl,_⟩:=I;exact⟨_,_,_,rfl⟩
def k6 (w:x3) (g gs:Nat) (A:ag) (B:ag) (R:ag) (clean:Bool) (s:Option aD):Prop:=match s with
 |some s=>k1 w g gs A B/\hs w gs R s.toks clean/\(0<=s.told/\s.told<=aq/\s.shared.length+s.toks.length<=100000)/\
  ∃big a e told sv,ab w g cg (fD gs 0 big a e told sv)/\((s.big=true↔big≠0)/\(s.big=false->told=s.told))/\bj A R w [sv] (show List iO from s.shared)
 |none=>BP w g gs
theorem k6.V {g:Nat} {A R:ag} {B:ag} {s:Option aD} (h:k6 w g gs A B R clean s) (a:ae S w w') (x:¬S g) (y:∀r,bE g gs A r->r<w.heap.size->¬S r) (z:∀r,R r->¬S r):k6 w' g gs A B R clean s:=by
 cases s with
 |some s=>
  obtain⟨h1,C,E,big,f,j,told,sv,p,q,F⟩:=h;have G:=h1.2.2.2.1;exact⟨h1.V a,C.V a (y gs (.inr (.inl rfl)) (G _ (.inr (.inl rfl)))) z,E,big,f,j,told,sv,p.V a x,q,ak.V F a λr H h=>h.elim (λh=>y r (.inr (.inr h)) H) (z r)⟩
 |none=>
  obtain⟨e,big,f,j,told,sv,p,q⟩:=h;exact⟨e,big,f,j,told,sv,p.V a x,q⟩
theorem k6.out {g:Nat} {A R B e:ag} {s:Option aD} (h:k6 w g gs A B R clean s) (f:∀r,R r->cG g gs A e r) (j:∀r,e r->r<w.heap.size):gW w g gs A e clean s:=by
 cases s with
 |some s=>
  obtain⟨⟨q,x,y,z,O⟩,⟨C,p,a,E,F,G⟩,H,big,I,J,told,sv,K,L,M⟩:=h;exact⟨⟨q,x,y,z,j⟩,⟨C,p,a,E,λr N=>f r (F r N),G⟩,H,big,I,J,told,sv,K,L,ak.mono M (λ_ _ h=>h) λr _ h=>f r h⟩
 |none=>exact h
theorem dr.qr {g:Nat} {A R:ag} {B:ag} {s:Option aD} (h:dr w g gs A B clean s) (y:∀r,cG g gs A B r->R r):k6 w g gs A B R clean s:=by
 cases s with
 |some s=>
  obtain⟨h1,⟨z,p,a,C,E,F⟩,G,big,f,j,told,sv,q,x,H⟩:=h;exact⟨h1,⟨z,p,a,C,λr I=>y r (E r I),F⟩,G,big,f,j,told,sv,q,x,ak.mono H (λ_ _ h=>h) λr _ h=>y r h⟩
 |none=>
  obtain⟨_,e,big,f,j,told,sv,l,q,x,_⟩:=h;exact⟨e,big,f,j,told,sv,q,x.1⟩
theorem Lr {g O:Nat} {A B R:ag} {s:Option aD} {aF ay u:x1} {z:Λ} {l:List (Λ×Int)} {K:x3->Prop} (h:dr w g gs A B clean s) (P:∀r,cG g gs A B r->R r) (ah:∀r,R r->cG g gs A (o3 w.heap.size) r)
  (ai:∀t,s=σ t->t.shared.length+1+t.toks.length<=100000) (aj:ab w O b4 [aF,u,ay,v])
  (hu:ak.rep (α:=Λ) false bC R w [u] z) (al:ak.rep (α:=List (Λ×Int)) false bC R w [v] l)
  (aB:∀w' aK,ae (bE g gs A) w w'->(∀r,aK r->A r\/w.heap.size<=r)->k6 w' g gs aK (o3 w.heap.size) R clean (s.map (sN z l))->K w'):
  aa x7 (bO (Γ g)) w λQ=>
  aa x7 (u6 cg Q 3) w λS=>
  aa x7 (u5 ho S) w λam=>
  aa x7 (u6 b4 (Γ O) 1) w λt76=>
  aa x7 (u5 ao t76) w λt77=>
  aa x7 (u6 b4 (Γ O) 3) w λaC=>
  aa x7 (u5 iC aC) w λaE=>
  aa x7 (Instr.build jB #[(0,t77),(1,aE)]) w λaG=>
  ax x7 (Y1 ho 1 #[(0,aG)]) w λaH F=>
   (Ext w F\/ci x7 (u5 ho S) am F/\ci x7 (u6 cg Q 3) S F/\ci x7 (bO (Γ g)) Q F/\True)/\
   ax x7 (b8 #[ho,ho] ho #[am,aH]) F λaI W=>
    aa x7 (bO (Γ g)) W λaJ=>
    aa x7 (u6 cg aJ 3) W λaL=>
    ax x7 (o8 ho aL aI) W λ(_:Unit) aM=>K aM:=by
 obtain⟨aN,e,big,j,q,told,sv,H,y,L,a1,aP⟩:k1 w g gs A B/\ ∃e big j q told sv,∃H:List iO,ab w g cg (fD gs e big j q told sv)/\bj A R w [sv] H/\H.length<=100000/\
   ∀w' aK C,k1 w' g gs aK (o3 w.heap.size)->ae (λr=>A r\/r=g) w w'->ab w' g cg (fD gs e big j q told C)->bj aK R w' [C] (H++[((z,l):iO)])->k6 w' g gs aK (o3 w.heap.size) R clean (s.map (sN z l)):=by
  cases s with
  |none=>
   obtain⟨h1,e,big,j,q,told,sv,l',X,M,Y⟩:=h;exact⟨h1,e,big,j,q,told,sv,l',X,ak.mono Y (λ_ _ h=>h) λr _ h=>P r h,M.2,λw' aK C I _ y L=>⟨e,big,j,q,told,C,y,M.1⟩⟩
  |some s=>
   obtain⟨h1,aR,an,big,j,q,told,sv,X,M,Y⟩:=h;have ai:=ai s rfl;refine⟨h1,0,big,j,q,told,sv,s.shared,X,ak.mono Y (λ_ _ h=>h) λr _ h=>P r h,(show s.shared.length<=100000 by omega),λw' aK C I aS y L=>⟨I,?_,⟨an.1,an.2.1,?_⟩,big,j,q,told,C,y,M,L⟩⟩
   .exact hs.aW aR aS (λhe=>he.elim h1.2.2.1 λh=>h1.1 h.symm) (λr f he=>he.elim (λh=>f.1 (.inr (.inr h))) λh=>f.1 (.inl h)) P
   .show (s.shared++[(z,l)]).length+s.toks.length<=100000;simp;omega
 obtain⟨aT,Z,aU,ap,a2⟩:=id aN;rw[aO cg.p 3 y rfl,aA b4.p 1 aj rfl,aA b4.p 3 aj rfl];rw[dp (cs:=#[u,v]) (by obtain⟨_,_,_,rfl⟩:=lY hu;obtain⟨_,_,_,rfl⟩:=lY al;kernel_rfl)];have aq:bj (λ_=>False) R w [u,v] ((z,l):iO):=⟨[u],[v],bC,bC,rfl,λ_ h=>h,λ_ h=>h,λ_ _ h _=>h,hu,al⟩;refine iH (α:=iO) (a:=(z,l)) (cs:=[u,v]) (A:=λ_=>False) (R:=R) ho.u jB.i Φ rfl aq λx J E _ aV=>?_;have a6:=E.size;refine⟨.inl E,?_⟩;refine nx (α:=iO) (a:=(z,l)) (A:=λ_=>False) (R:=R) ho.u jB.i rfl (bc L E) aV (bc aq E) (λr _ aX G=>?_) Ω Ω λau U ac ad=>?_
 .rcases G with G|G
  .exact G
  .exact (ah r G).1 (.inr (.inr aX))
 have a7:=ad.size;have aY:=(y.ext E).V ad Z;rw[bZ,aQ cg.p rfl];refine bo (g:=g) (o:=6) ho.i (kT ac) (e6 ac) aY (by simp[fD]) λN av a8 af=>?_;have af:ab N g cg (fD gs e big j q told au):=af;have aw:ae (λr=>A r\/r=g) w N:=((E.V _).trans (ad.mono λr _ h=>.inl h)).trans (av.mono λr _ h=>.inr h);let aK:ag:=λr=>(A r\/w.heap.size<=r)/\r<U.heap.size;have ba:g<w.heap.size:=ap g (.inl rfl);have bb:gs<w.heap.size:=ap gs (.inr (.inl rfl));have aZ:=ak.mono (S':=aK) (R':=R) ac (λr f h=>⟨h.elim .inl λh=>h.elim False.elim λh=>.inr Ω,f⟩) (λr f h=>h);refine aB N aK (aw.mono λr _ h=>h.elim (λh=>.inr (.inr h)) .inl) (λr f=>f.1) (aP N aK au ⟨aT,λh=>h.1.elim Z λh=>Ω,λh=>h.1.elim aU λh=>Ω,λr f=>?_,?_⟩ aw af (ak.V aZ av λr f az he=>?_))
 .rcases f with rfl|rfl|f
  .omega
  .omega
  .have:=f.2;omega
 .intro r f;have f:r<w.heap.size:=f;omega
 .have he:r=g:=he;subst he;rcases az with az|az
  .exact az.1.elim Z λh=>Ω
  .exact (ah _ az).1 (.inl rfl)
theorem Ls {e:Nat} {aF z:x1} {M:x3->Prop} (N:ab w e b4 [aF,.slice ν 0 0,Δ 0,.slice ν 0 0]) (O:aH .i64 w aF scope) (ac:∀r,leads aF r->r≠e)
  (ad:aH .i64 w z all) (af:∀r,leads z r->r≠e) (ag:∀v∈scope,0<=v/\v<all.length) (aL:scope.length<=100001)
  (ai:∀w' szv gz,ae (λr=>r=e) w w'->ab w' e b4 [aF,szv,Δ 0,.slice ν 0 0]->ap .i64 al w' gz szv (scope.map λv=>all.getD v.toNat 0)->w.heap.size<=gz->M w'):
 ch (Δ 0) w λF s k=>
  aa x7 (aJ .lss ah false false F (Δ (scope.length:Int))) s λak=>
  Split ak (aa x7 (c7 ao aF F) s λam=>
  aa x7 (u5 al am) s λan=>
  eo s λf=>
  aa x7 (u6 b4 (Γ e) 1) f λt39=>
  aa x7 (u5 ao t39) f λP=>
  aa x7 (c7 ao z an) f λaq=>
  aa x7 (u5 al aq) f λau=>
  ax x7 (Y1 ao 1 #[(0,au)]) f λt45 A=>
   (Ext f A\/ci x7 (u5 ao t39) P A/\ci x7 (u6 b4 (Γ e) 1) t39 A/\True)/\
  ax x7 (b8 #[ao,ao] ao #[P,t45]) A λt46 Q=>
   aa x7 (u6 b4 (Γ e) 1) Q λav=>
   ax x7 (o8 ao av t46) Q λ(_:Unit) R=>
    aa x7 (aJ .add ah false true F (Δ 1)) R λaw=>
  k aw R) (M s):=by
 have aM:=N.lt;refine ch.range scope.length (λi J=>ae (λr=>r=e) w J/\ ∃szv gz,ab J e b4 [aF,szv,Δ 0,.slice ν 0 0]/\ap .i64 al J gz szv ((scope.take i).map λv=>all.getD v.toNat 0)/\w.heap.size<=gz) O.le ⟨ae.refl _ _,_,w.heap.size,N,ap.nil _ _ _ _,o4 _⟩ ?_ ?_
 rotate_left
 .rintro J ay ⟨j,szv,gz,B,C,S⟩;rw[o5] at C;rw[aR,aj];exact⟨λh=>Ω,λ_=>ai J szv gz j B C S⟩
 rintro i J ay hi ⟨j,szv,gz,B,C,S⟩ az;obtain⟨v,G⟩:=aI (l:=scope) hi;have aN:=ag v (x5 G);have aB:all[v.toNat]? =σ (all.getD v.toNat 0):=by
  rw[u4,x6 Ω];rfl
 have aC:aH .i64 J aF scope:=hS O j λr E a n c H I=>ac r ⟨a,n,c,H,I⟩ E;have aD:aH .i64 J z all:=hS ad j λr E a n c H I=>af r ⟨a,n,c,H,I⟩ E;refine bH Ω ?_;rw[bd ao.u al.i Ψ aC G];intro U q _ _;have aO:=j.size;have aS:=q.size;rw[aA b4.p 1 (B.ext q) rfl];rw[fy (y:=v) (i:=v.toNat) Ω ao.u al.i Ψ (aD.ext q) aB];refine ep ao.u al.i rfl λa ga aT aU x aE=>?_;refine⟨.inl x,?_⟩;have z3:=x.size;refine jk ao.u al.i rfl ((C.ext q).ext x) aE.ls Θ Θ λW X aV aW K Y=>?_;rw[aQ b4.p rfl];have aG:=((B.ext q).ext x).V Y (λhe=>by have he:e=gz:=he;omega);refine bo (g:=e) (o:=1) ao.i K.ls.cells.1 K.ls.cells.2 aG Ξ λaK Z aX L=>?_;have L:ab aK e b4 [aF,W,Δ 0,.slice ν 0 0]:=L;rw[aP];refine az _ ⟨(hr (j.trans ((q.trans x).V _)) Y λr E he=>by have he:r=gz:=he;omega).trans Z,W,X,L,?_,Ω⟩;rw[u9,G,o7,j6];exact K.V Z (λ_ he=>by have he:X=e:=he;omega)
abbrev hx:Type:=Rd (Λ)×Rd (Λ)×Int×Rd (List (Λ×Int))
def gX (f:cv):hx:=(f.scope,f.sizes,f.other,f.lines)
theorem BR {R:ag} {aF b7:x1} {o:Int} {sc:Λ} {l:List (Λ×Int)} (h1:ak.rep (α:=Λ) false bC R w [aF] sc) (e:ak.rep (α:=Λ) false bC R w [szv] a) (f:ak.rep (α:=List (Λ×Int)) false bC R w [b7] l):
  Seen R w [aF,szv,Δ o,b7] ((sc,a,o,l):hx):=
 ⟨[aF],[szv,Δ o,b7],bC,bC,rfl,λ_ h=>h,λ_ h=>h,λ_ _ h _=>h,h1,[szv],[Δ o,b7],bC,bC,rfl,λ_ h=>h,λ_ h=>h,λ_ _ h _=>h,e,[Δ o],[b7],bC,bC,rfl,λ_ h=>h,λ_ h=>h,λ_ _ h _=>h,rfl,f⟩
theorem qv {R:ag} {g:Nat} (h:ap .i64 e w g v l) (q:∀r,leads v r->R r):ak.rep (α:=Λ) false bC R w [v] l:=by
 have h1:bj (λr=>r=g) bC w [v] l:=ny h;obtain⟨vs,s,F,E,he,I,hm⟩:=hQ h1;refine⟨v,rfl,vs,s,λ_ _=>False,⟨λ_ _ h=>h,λh=>(by cases h),λh=>by cases h⟩,⟨he.1,λi c a x y=>?_⟩,?_,λh=>by cases h⟩
 .exact he.2 i c a x y
 .obtain⟨f,b,o,base,cap,rfl,z,A,j,G,B⟩:=I;refine⟨f,b,o,base,cap,rfl,z,A,j,λp=>.inr (q b ?_),B⟩;have C:0<l.length:=by
   rw[f] at p;rcases S4 l.length with h|h
   .rw[h,Nat.zero_mul] at p;omega
   .exact h
  exact⟨⟨b,o,ν⟩,l.length,cap,by rw[j C],rfl⟩
theorem BS {α:Type} [ak α] {R R':ag} {a:α} (h:Seen R w cs a) (e:∀r,r<w.heap.size->R r->R' r):Seen R' w cs a:=ak.mono h (λ_ _ h=>h) e
theorem BT {f a:Nat} (e:cs.length=4) (h1:∀v∈cs,v.oneCell'=true) (q:ab w f b4 cs) {h:List x1} (s:h.length=4) (x:ab w a b4 h)
  (y:∀w',ae (λr=>r=a) w w'->K (.agg cs.toArray) w'):
  aa x7 (u5 b4 (Γ f)) w λz=>
  ax x7 (o8 b4 (Γ a) z) w λ(_:Unit) j=>
  aa x7 (do loadVar b4 (<-asAddr (Γ a))) j λA=>K A j:=by
 rw[bD b4.p b4.i e q.range];refine b3 b4.i e s h1 x λw' B _ C=>?_;rw[fz b4.p b4.i e C.range];exact y w' B
theorem BU {s s':aD} {l:List (Λ×Int)} (h:dU sizes s=σ (l,s')):s'.shared=s.shared/\s'.toks.length<=s.toks.length:=by
 unfold dU at h;cases j:bf (-aq) aq s with
 |none=>rw[j] at h;cases h
 |some q=>
  obtain⟨n,e⟩:=q;rw[j] at h;simp only at h;have h1:=dH j;obtain⟨x,y,p⟩:=h1.eqs;split at h
  .cases I:e.shared[(-n-1).toNat]? with
   |none=>rw[I] at h;cases h
   |some q=>
    obtain⟨z,l'⟩:=q;rw[I] at h;simp only at h;split at h
    .simp only[X0,T9] at h;obtain⟨rfl,rfl⟩:=h;exact⟨p,by have:=h1.1;omega⟩
    .cases h
  .have:=ko (f:=dT sizes) (λacc t=>t.shared=s.shared/\t.toks.length<=s.toks.length) (λacc t a br ⟨w,A⟩ g=>by
    obtain⟨B,C,E,r⟩:=oR g;obtain⟨f1,f2,f3⟩:=r.eqs;exact⟨by rw[f3,w],by have:=r.1;omega⟩) n.toNat [] (bb (decide (16384<min (e.told+n) aq)) {e with told:=min (e.told+n) aq}) l s' ⟨p,by have:=h1.1;show e.toks.length<=_;omega⟩ h
   exact this.1
theorem Lt {g:Nat} {A B:ag} {s:aD} {aG:x1} (h:dl w g gs A B s clean) (hi:dV s) (bO:aH .i64 w aG all) (bh:∀r,leads aG r->¬bE g gs A r/\r<w.heap.size)
  (cn:∀z∈all,1<=z/\z<=aq) (dk:all.length<=100001) (cp:e1 w) (h1:cG g gs A B 1):
  ai x7 y1 [Γ g,aG] w λv w'=>∃aK W cs,∃bQ:hx,v= .agg cs.toArray/\cs.length=4/\ae (bE g gs A) w w'/\(∀r,aK r->A r\/w.heap.size<=r)/\(∀r,W r->(B r\/w.heap.size<=r)/\r<w'.heap.size)/\(∀r,B r->W r)/\gW w' g gs aK W clean ((dc all s).map (·.2))/\
   Seen (cG g gs aK W) w' cs bQ/\ ∀q,dc all s=σ q->bQ=gX q.1:=by
 have cq:=h.1;obtain⟨dn,dq,bi,cr,X⟩:=id cq;have af:∀r,bE g gs A r->r<w.heap.size:=cr;have ds:aq=4611686018427387904:=rfl;have dt:s.shared.length+s.toks.length<=100000:=h.2.2.1.2.2;refine aw func82 ?_;refine bB b4.i λC J du bj aS=>?_;have aS:ab J C b4 [.slice ν 0 0,.slice ν 0 0,Δ 0,.slice ν 0 0]:=aS;have dw:=bj.size;have dx:=aS.lt;have M:¬bE g gs A C:=λy=>by have:=af _ y;omega
 refine (vF (lo:=-aq) (hi:=aq) (h.ext bj)).mono ?_;rintro _ U _ ⟨Z,a,at_,rfl,bR,ct⟩;obtain⟨bk,bl⟩:=Z.of;have dy:=bk.size;rw[bx,bz,aR,lO];have dz: -aq<=a/\a<=aq:=by
  cases E:bf (-aq) aq s with
  |none=>rw[ct E];unfold aq;omega
  |some q=>rw[bR q E];exact (hT (n:=q.1) (s':=q.2) E).1
 rw[wrap_i64 Ω Ω,va,show max a (0-a)=((a.natAbs:Nat):Int) by omega];have bS:ae (bE g gs A) w U:=(bj.V _).trans bk;have cu:aH .i64 U aG all:=hS bO bS λr f a n c H bm=>(bh r ⟨a,n,c,H,bm⟩).1 f;rw[aX ao.u cu];refine (Lq (k:=a.natAbs) (m:=(all.length:Int)) bl Ω Ω).mono ?_;rintro aF dA _ ⟨Z,gr,scope,aI,cw,dC,cz⟩;obtain⟨bp,cA⟩:=Z.of;have z3:=bp.size;rw[dp (cs:=#[aF,.slice ν 0 0,Δ 0,.slice ν 0 0]) (by obtain⟨_,_,_,_,_,rfl,_⟩:=aI.ls;kernel_rfl)];refine bB b4.i λj cB dD aJ aT=>?_;have aT:ab cB j b4 [.slice ν 0 0,.slice ν 0 0,Δ 0,.slice ν 0 0]:=aT;have z4:=aJ.size;have dE:=aT.lt;have bq:=aI.ls.cells;refine b3 (vs:=[aF,.slice ν 0 0,Δ 0,.slice ν 0 0]) b4.i rfl rfl (by intro v H;simp at H;rcases H with rfl|rfl|rfl|rfl<;>first|exact bq.2|rfl) aT λaU aL dF cC=>?_;have au:¬bE g gs A j:=λy=>by have:=af _ y;omega
 have bU:dr aU g gs A B clean ((qu all.length a.natAbs ((bf (-aq) aq s).map (·.2))).map (·.2)):=(cA.ext aJ).V aL (λr f he=>by have he:r=j:=he;exact au (he▸f)) (λr f he=>by have:=X r f.2;have he:r=j:=he;omega);have bV:ae (bE g gs A) w aU:=hr ((bS.trans bp).trans (aJ.V _)) aL λr f he=>by have he:r=j:=he;omega
 have cD:ab aU C b4 [.slice ν 0 0,.slice ν 0 0,Δ 0,.slice ν 0 0]:=(((aS.V bk M).V bp M).ext aJ).V aL (λhe=>by have he:C=j:=he;omega);have cE:ap .i64 al aU gr aF scope:=bn (aI.ext aJ) aL λr f he=>by
  obtain⟨cF,bl⟩:=bP aI f;have he:r=j:=he;omega
 refine (o2 bU).mono ?_;rintro _ aV _ ⟨rfl,aa⟩;have ax:=bU.ext aa;have aM:=cE.ext aa;have br:=cC.ext aa;have bW:=cD.ext aa;have dG:=aa.size;have z5:=aL.size;have Q:∀r,leads aF r->U.heap.size<=r/\r≠j/\r≠C:=λr f=>by
  obtain⟨cF,bl⟩:=bP aI f;have:=cw r f;exact⟨this,Ω,Ω⟩
 have L:dc all s=match qu all.length a.natAbs ((bf (-aq) aq s).map (·.2)) with
   |none=>ν
   |some (sc,I)=>(iQ (sc.map λv=>all.getD v.toNat 0) ((a8 0 aq (σ (bb (decide (6<a.natAbs)||dv (sc.map λv=>all.getD v.toNat 0)) I))).map (·.2))).map λq=>((⟨sc,sc.map λv=>all.getD v.toNat 0,((bf 0 aq (bb (decide (6<a.natAbs)||dv (sc.map λv=>all.getD v.toNat 0)) I)).map (·.1)).getD 0,q.1⟩:cv),if a<0 then sN (sc.map λv=>all.getD v.toNat 0) q.1 q.2 else q.2):=by
  unfold dc;cases E:bf (-aq) aq s with
  |none=>rfl
  |some q=>
   obtain⟨a',Y⟩:=q;have:=bR _ E;subst this;simp only;show _=match e0 all.length a.natAbs Y with
    |none=>ν
    |some (sc,I)=>_
   cases e0 all.length a.natAbs Y with
   |none=>rfl
   |some q=>
    obtain⟨sc,I⟩:=q;simp only;show _=V8 _ (iQ _ ((bf 0 aq _).map (·.2)));cases bf 0 aq (bb (decide (6<a.natAbs)||dv (sc.map λv=>all.getD v.toNat 0)) I) with
    |none=>rfl
    |some q=>
     obtain⟨o,G⟩:=q;simp only;show _=V8 _ (dU _ G);cases dU (sc.map λv=>all.getD v.toNat 0) G with
     |none=>rfl
     |some q=>rfl
 rw[bG,bY];cases ac:qu all.length a.natAbs ((bf (-aq) aq s).map (·.2)) with
 |none=>
  rw[ac] at ax L;simp only at L;refine⟨λ_=>?_,λh=>by simp at h⟩;refine BT rfl (by intro v H;simp at H;rcases H with rfl|rfl|rfl|rfl<;>first|exact bq.2|rfl) br rfl bW λad N=>?_;have cH:=N.size;refine⟨A,λr=>(B r\/w.heap.size<=r)/\r<ad.heap.size,_,(scope,[],0,[]),rfl,rfl,hr (bV.trans (aa.V _)) N λr f he=>by have he:r=C:=he;omega,λr f=>.inl f,λr f=>f,λr f=>⟨.inl f,by have:=X r f;omega⟩,?_,?_,λq E=>by rw[L] at E;cases E⟩
  .rw[L];have cI:gW ad g gs A B clean (V8 (λx=>x.2) (ν:Option (Λ×aD))):=ax.q.V N (λhe=>by have:=af g (.inl rfl);have he:g=C:=he;omega) (λr f _ he=>by have he:r=C:=he;exact M (he▸f)) (λr f he=>by have:=X r f.2;have he:r=C:=he;omega);exact cI
  .refine BR (qv (bn aM N λr f he=>(Q r f).2.2 he) λr f=>?_) gh gh;have O:=Q r f;have ay:=(bP aM f);exact⟨λy=>by have:=af _ y;omega,.inr Ω,Ω⟩
 |some q=>
  obtain⟨sc,I⟩:=q;have:=cz _ ac;subst this;rw[ac] at ax L;simp only at L;refine⟨λh=>by simp at h,λ_=>?_⟩;have ax:dl aV g gs A B I clean:=ax;obtain⟨Y,cJ,cK⟩:∃Y,(bf (-aq) aq s).map (·.2)=σ Y/\e0 all.length a.natAbs Y=σ (scope,I):=by
   cases E:(bf (-aq) aq s).map (·.2) with
   |none=>rw[E] at ac;cases ac
   |some Y=>rw[E] at ac;exact⟨Y,rfl,ac⟩
  obtain⟨bX,cL,rfl⟩:=Y7.1 cJ;have bZ:=dH (n:=bX.1) (s':=bX.2) cL;obtain⟨b0,dI,dJ,b1⟩:=vC cK;have bt:=bZ.eqs;have bu:=b0.eqs;have cM:dV I:=λS=>by rw[bu.1,bt.1];rw[bu.2.1,bt.2.1] at S;exact hi S
  have cN:I.shared.length+1+I.toks.length<=100000:=by rw[bu.2.2,bt.2.2];have:=bZ.1;have:=b0.1;omega
  generalize bw:(scope.map λv=>all.getD v.toNat 0)=sizes at L;have b2:∀z∈sizes,1<=z/\z<=aq:=λz aW=>by
   rw[<-bw] at aW;obtain⟨v,H,rfl⟩:=n9.1 aW;have:=b1 v H;refine cn _ ?_;rw[u4,x6 Ω];exact T8 _
  have dK:sizes.length=scope.length:=by rw[<-bw,u7]
  have b5:ae (bE g gs A) w aV:=bV.trans (aa.V _);have cO:aH .i64 aV aG all:=hS bO b5 λr f a n c H bm=>(bh r ⟨a,n,c,H,bm⟩).1 f;rw[aA b4.p 0 br rfl,aX ao.u aM.ls];refine Ls br aM.ls (λr f=>(Q r f).2.1) cO (λr f=>by have:=(bh r f).2;omega) b1 Ω λad szv gz N b6 aY dL=>?_;rw[bw] at aY;have cH:=N.size;have bA:∀r,cG g gs A B r->¬(λr=>r=j) r:=λr f he=>by have:=X r f.2;have he:r=j:=he;omega
  have bD:∀r,bE g gs A r->¬(λr=>r=j) r:=λr f he=>by have he:r=j:=he;exact au (he▸f)
  have b8:=ax.V N bD bA;have cP:ae (bE g gs A) w ad:=hr b5 N λr f he=>by have he:r=j:=he;omega
  refine dm (λaZ=>ae (bE g gs A) ad aZ/\dl aZ g gs A B (bb (decide (6<a.natAbs)||dv sizes) I) clean) ?_ ?_
  rotate_left
  .intro av aN;rw[bT,aj];refine⟨λdM=>?_,λdN=>?_⟩
   .refine (sy b8).mono ?_;rintro _ cQ _ ⟨cR,cS⟩;refine aN _ ⟨cR.mono λr _ h=>.inl h,?_⟩;rw[decide_eq_true Ω,Bool.true_or];exact cS
   .rw[aA b4.p 1 b6 rfl];refine (A6 aY.ls λz aW=>(b2 z aW).1).mono ?_;rintro _ cQ _ ⟨rfl,b9⟩;refine (sy (b8.ext b9)).mono ?_;rintro _ dO _ ⟨cT,cU⟩;refine aN _ ⟨(b9.V _).trans (cT.mono λr _ h=>.inl h),?_⟩;rw[decide_eq_false Ω,Bool.false_or];exact cU
  rintro aZ ⟨a1,a2⟩;have dP:=a1.size;generalize bi:bb (decide (6<a.natAbs)||dv sizes) I=G at L a2;have cV:dV G:=λS=>by
   subst bi;have S:(I.big||_)=false:=S;exact cM (S2.1 S).1
  have dQ:G.shared.length+1+G.toks.length<=100000:=by subst bi;exact cN
  have a2:dr aZ g gs A B clean (σ G):=a2;refine (lX (lo:=0) (hi:=aq) a2).mono ?_;rintro _ ca _ ⟨Z,o,dR,rfl,cW,dS⟩;obtain⟨a6,cX⟩:=Z.of;have dT:=a6.size;rw[bx,bz,aQ b4.p rfl];have cY:=(b6.V a1 au).V a6 au;refine bo (g:=j) (o:=2) al.i rfl rfl cY Ξ λa7 az dW ba=>?_;have ba:ab a7 j b4 [aF,szv,Δ o,.slice ν 0 0]:=ba;rw[aA b4.p 1 ba rfl];have cZ:=cX.V az bD bA;have bF:ae (bE g gs A) ad ca:=a1.trans a6;have c0:ae (bE g gs A) w ca:=cP.trans bF;have cb:ae (bE g gs A) w a7:=hr c0 az λr f he=>by have he:r=j:=he;omega
  have ah:∀r,leads szv r->aV.heap.size<=r/\r<ad.heap.size:=λr f=>by have:=bP aY f;omega
  have cc:ap .i64 al a7 gz szv sizes:=bn (bn aY bF λr f y=>by have:=af _ y;have:=ah r f;omega) az λr f he=>by have he:r=j:=he;have:=ah r f;omega
  have c1:ap .i64 al a7 gr aF scope:=bn (bn (bn aM N λr f he=>(Q r f).2.1 he) bF λr f y=>by have:=af _ y;have:=Q r f;omega) az λr f he=>(Q r f).2.1 he;have dX:=az.size;refine (Lp cZ (λt bH=>?_) cc.ls (λr f=>⟨λy=>by have:=af _ y;have:=ah r f;omega,by have:=ah r f;omega⟩) b2 Ω (cp.V cb h1.1) h1).mono ?_
  .obtain⟨q,E,rfl⟩:=Y7.1 bH;have cd:=(dH (n:=q.1) (s':=q.2) E).eqs;intro S;rw[cd.1];rw[cd.2.1] at S;exact cV S
  rintro b7 c2 _ ⟨Z,l,bI,ce⟩;obtain⟨aB,c3⟩:=Z.of;have dY:=aB.size;have bJ:b7.cells= #[b7]/\b7.oneCell'=true:=⟨kT bI,e6 bI⟩;rw[aQ b4.p rfl];have c4:=ba.V aB au;refine bo (g:=j) (o:=3) iC.i bJ.1 bJ.2 c4 Ξ λK am dZ bd=>?_;have bd:ab K j b4 [aF,szv,Δ o,b7]:=bd;have ea:=am.size;have cg:=c3.V am bD bA;have c5:ae (bE g gs A) w c2:=cb.trans aB;have c6:ae (bE g gs A) w K:=hr c5 am λr f he=>by have he:r=j:=he;omega
  have ch:ap .i64 al K gr aF scope:=bn (bn c1 aB λr f y=>by have:=af _ y;have:=Q r f;omega) am λr f he=>(Q r f).2.1 he;have be:ap .i64 al K gz szv sizes:=bn (bn cc aB λr f y=>by have:=af _ y;have:=ah r f;omega) am λr f he=>by have he:r=j:=he;have:=ah r f;omega
  have c7:ab K C b4 [.slice ν 0 0,.slice ν 0 0,Δ 0,.slice ν 0 0]:=((((((bW.V N (λhe=>by have he:C=j:=he;omega)).V a1 M).V a6 M).V az (λhe=>by have he:C=j:=he;omega)).V aB M).V am (λhe=>by have he:C=j:=he;omega));let P:ag:=λr=>(B r\/w.heap.size<=r)/\r<K.heap.size;have ci:ak.rep (α:=List (Λ×Int)) false bC (λr=>cG g gs A P r/\r≠j/\r≠C) K [b7] l:=by
   refine BS (ak.V bI am λr f h he=>?_) λr f h=>?_
   .have he:r=j:=he;rcases h with h|h
    .exact h
    .rcases h with h|h
     .have:=X r h.2;omega
     .omega
   .rcases h with h|h
    .have:=X r h.2;exact⟨⟨h.1,.inl h.2,f⟩,Ω,Ω⟩
    .exact⟨⟨λy=>by have:=af _ y;omega,.inr Ω,f⟩,Ω,Ω⟩
  have c8:∀r,leads aF r->cG g gs A P r/\r≠j/\r≠C:=λr f=>by
   have O:=Q r f;have ay:=(bP ch f);exact⟨⟨λy=>by have:=af _ y;omega,.inr Ω,Ω⟩,O.2⟩
  have cj:∀r,leads szv r->cG g gs A P r/\r≠j/\r≠C:=λr f=>by
   have O:=ah r f;have ay:=(bP be f);exact⟨⟨λy=>by have:=af _ y;omega,.inr Ω,Ω⟩,Ω,Ω⟩
  have c9:Seen (λr=>cG g gs A P r/\r≠j/\r≠C) K [aF,szv,Δ o,b7] ((scope,sizes,o,l):hx):=BR (qv ch c8) (qv be cj) ci;have da:∀q,dc all s=σ q->((scope,sizes,o,l):hx)=gX q.1:=λq E=>by
   rw[L] at E;obtain⟨eb,bK,rfl⟩:=Y7.1 E;have O:=ce _ bK;cases aC:bf 0 aq G with
   |none=>have e:a8 0 aq (σ G)=ν:=aC;rw[e] at bK;cases bK
   |some an=>
    have ay:=cW an aC;rw[O,ay];rfl
  have db:∀v∈[aF,szv,V0 .i64 o,b7],v.oneCell'=true:=by
   intro v H;simp at H;rcases H with rfl|rfl|rfl|rfl
   .exact bq.2
   .exact be.ls.cells.2
   .rfl
   .exact bJ.2
  have ck:∀r,cG g gs A B r->cG g gs A P r/\r≠j/\r≠C:=λr f=>by
   have:=X r f.2;exact⟨⟨f.1,.inl f.2,Ω⟩,Ω,Ω⟩
  refine dm (λbL=>∃aK,ae (bE g gs A) K bL/\(∀r,aK r->A r\/K.heap.size<=r)/\ ∃W,k6 bL g gs aK W (λr=>cG g gs A P r/\r≠j/\r≠C) clean ((dc all s).map (·.2))) ?_ ?_
  .rintro bL ⟨aK,aO,aP,W,dd⟩;have ec:=aO.size;refine BT rfl db (bd.V aO au) rfl (c7.V aO M) λbM bg=>?_;have ed:=bg.size;have cl:∀r,bE g gs aK r->¬(λr=>r=C) r:=λr f he=>by
    have he:r=C:=he;subst he;rcases f with f|f|f
    .exact M (.inl f)
    .exact M (.inr (.inl f))
    .rcases aP _ f with f|f
     .exact M (.inr (.inr f))
     .omega
   have cm:∀r,(cG g gs A P r/\r≠j/\r≠C)->cG g gs aK (λr=>(B r\/w.heap.size<=r)/\r<bM.heap.size/\(r<K.heap.size\/B r)) r:=λr h=>⟨λy=>h.1.1 (y.imp id (Or.imp id λy=>(aP r y).elim id λh'=>by have:=h.1.2.2;omega)),h.1.2.1,by have:=h.1.2.2;omega,.inl h.1.2.2⟩;have de:k6 bM g gs aK W (λr=>cG g gs A P r/\r≠j/\r≠C) clean ((dc all s).map (·.2)):=dd.V bg (cl g (.inl rfl)) (λr f _=>cl r f) (λr f=>f.2.2);refine⟨aK,λr=>(B r\/w.heap.size<=r)/\r<bM.heap.size/\(r<K.heap.size\/B r),_,(scope,sizes,o,l),rfl,rfl,hr (c6.trans aO) bg λr f he=>by have he:r=C:=he;omega,λr f=>(aP r f).imp id λh=>Ω,λr f=>⟨f.1,f.2.1⟩,λr f=>⟨.inl f,by have:=X r f;omega,.inr f⟩,de.out cm λr f=>f.2.1,?_,da⟩;refine BS (ak.V (ak.V c9 aO λr _ h y=>?_) bg λr _ h he=>?_) λr _ h=>cm r h
   .rcases h with h|h
    .exact h
    .exact h.1.1 y
   .rcases h with h|h
    .exact h
    .exact h.2.2 he
  .intro av aN;rw[aj];refine⟨λdf=>?_,λdg=>?_⟩
   .intro bN aE _ _;have ee:=aE.size;have dh:∀r,(cG g gs A P r/\r≠j/\r≠C)->cG g gs A (o3 bN.heap.size) r:=λr h=>⟨h.1.1,by have:=h.1.2.2;show r<bN.heap.size;omega⟩;refine Lr (R:=λr=>cG g gs A P r/\r≠j/\r≠C) (z:=sizes) (l:=l) (cg.ext aE) ck dh (λt bH=>?_) (bd.ext aE) (qv (be.ext aE) cj) (bc ci aE) λef aK di aP dj=>?_
    .obtain⟨q,E,rfl⟩:=Y7.1 bH;cases aC:bf 0 aq G with
     |none=>have e:a8 0 aq (σ G)=ν:=aC;rw[e] at E;cases E
     |some an=>
      have e:a8 0 aq (σ G)=σ an:=aC;rw[e] at E;have h1:q.2.shared=an.2.shared/\q.2.toks.length<=an.2.toks.length:=BU (l:=q.1) (s':=q.2) E;have O:=dH (n:=an.1) (s':=an.2) aC;have ay:=O.eqs.2.2;have eg:=O.1;rw[h1.1,ay];have:=h1.2;omega
    .refine aN _ ⟨aK,(aE.V _).trans di,λr f=>(aP r f).imp id λh=>Ω,o3 bN.heap.size,?_⟩;have e:(dc all s).map (·.2)=((iQ sizes ((a8 0 aq (σ G)).map (·.2))).map (·.2)).map (sN sizes l):=by
      rw[L];cases E:iQ sizes ((a8 0 aq (σ G)).map (·.2)) with
      |none=>rfl
      |some q=>
       have O:=ce _ E;simp only[Z4,if_pos df,O]
     rw[e];exact dj
   .refine aN _ ⟨A,ae.refl _ _,λr f=>.inl f,B,?_⟩;have e:(dc all s).map (·.2)=(iQ sizes ((a8 0 aq (σ G)).map (·.2))).map (·.2):=by
     rw[L];cases E:iQ sizes ((a8 0 aq (σ G)).map (·.2)) with
     |none=>rfl
     |some q=>simp only[Z4,if_neg dg]
    rw[e];exact cg.qr ck
def kt (l:Λ):Prop:=∀v∈l,0<=v/\v<64
theorem qw (h:kt l) {v:Int}:v∈bk l↔v∈l:=by
 unfold bk;rw[U8,decide_eq_true_eq];refine⟨λh=>h.2,λa=>⟨?_,a⟩⟩;obtain⟨h1,e⟩:=h v a;exact n9.2 ⟨v.toNat,List.mem_range.2 Ω,Ω⟩
theorem Lu (l:Λ):kt (bk l):=λv a=>by
 obtain⟨n,e,rfl⟩:=n9.1 (U8.1 a).1;have:=List.mem_range.1 e;omega
theorem vU (l:Λ):(bk l).Pairwise (·< ·):=by
 unfold bk;refine List.Pairwise.filter _ ?_;rw[List.pairwise_map];exact List.pairwise_lt_range.imp λh=>Ω
theorem BV (l:Λ):(bk l).Nodup:=(vU l).imp λh=>Ω
where
 nodup_le' {a b:Λ} (h:a.Nodup) (I:∀x∈a,x∈b):a.length<=b.length:=by
  induction a generalizing b with
  |nil=>exact X3 _
  |cons x a ih=>
   have h':=List.nodup_cons.1 h;have hx:=I x (.head _);have:=ih (b:=b.erase x) h'.2 λy hy=>(List.mem_erase_of_ne (λ(he:y=x)=>h'.1 (by rw[<-he];exact hy))).2 (I y (.tail _ hy));rw[List.length_erase_of_mem hx] at this;have:=List.length_pos_of_mem hx;rw[Z0];omega
theorem BW (n:Nat):(0:Int)<64 ^ n:=Int.pow_pos Ω
theorem sO:∀ (l:Λ),kt l->0<=jo l/\jo l<64 ^ l.length
 |[],_=>by simp[jo]
 |x::l,h=>by
  have j:=sO l λy a=>h y (.tail _ a);have f:=h x (.head _);have p:=BW l.length;simp only[jo,Z0];have e:(64:Int) ^ (l.length+1)=64*64 ^ l.length:=by rw[Int.pow_succ,Int.mul_comm]
  have h1:x*64 ^ l.length<=63*64 ^ l.length:=Int.mul_le_mul_of_nonneg_right Ω Ω;have q:0<=x*64 ^ l.length:=Int.mul_nonneg f.1 Ω;rw[e];omega
def fQ:Λ->Λ->Int
 |x::a,y::b=>if x<y then-1 else if y<x then 1 else fQ a b
 |[],[]=>0
 |[],_::_=>-1
 |_::_,[]=>1
theorem BX:∀ (a b:Λ),a.length=b.length->kt a->kt b->(fQ a b<0↔jo a<jo b)/\(fQ a b=0↔a=b)/\(jo a=jo b->a=b)
 |[],[],_,_,_=>by simp[fQ]
 |[],_::_,h,_,_=>by simp at h
 |_::_,[],h,_,_=>by simp at h
 |x::a,y::b,h,s,w=>by
  have p:a.length=b.length:=by simpa using h
  have q:kt a:=λz e=>s z (.tail _ e);have r:kt b:=λz e=>w z (.tail _ e);have f:=BX a b p q r;have A:=sO a q;have C:=sO b r;have E:=BW b.length;simp only[fQ,jo];rw[p] at A ⊢;have step:∀u v:Int,u<v->u*64 ^ b.length+64 ^ b.length<=v*64 ^ b.length:=λu v F=>by
   have:=Int.mul_le_mul_of_nonneg_right (show u+1<=v by omega) (show (0:Int)<=64 ^ b.length by omega);rw[Int.add_mul,Int.one_mul] at this;exact this
  by_cases h1:x<y
  .rw[if_pos h1];have:=step x y h1;exact⟨⟨λ_=>Ω,λ_=>Ω⟩,⟨λh=>Ω,λh=>by have:=(List.cons.inj h).1;omega⟩,λh=>Ω⟩
  .rw[if_neg h1];by_cases j:y<x
   .rw[if_pos j];have:=step y x j;exact⟨⟨λh=>Ω,λh=>Ω⟩,⟨λh=>Ω,λh=>by have:=(List.cons.inj h).1;omega⟩,λh=>Ω⟩
   .rw[if_neg j];have B:x=y:=Ω
    subst B;exact⟨f.1.trans ⟨λh=>Ω,λh=>Ω⟩,f.2.1.trans ⟨λh=>by rw[h],λh=>(List.cons.inj h).2⟩,λh=>by rw[f.2.2 Ω]⟩
def jp (l:Λ):Prop:=kt l/\l.length<=6
theorem BY (h:jp l):0<=jo l/\jo l<64 ^ 6:=by
 have:=sO l h.1;have e:(64:Int) ^ l.length<=64 ^ 6:=by
  have a:=h.2
  match l.length,a with
  |0,_=>decide
  |1,_=>decide
  |2,_=>decide
  |3,_=>decide
  |4,_=>decide
  |5,_=>decide
  |6,_=>decide
  |n+7,h=>omega
 omega
theorem vV {b:Λ} (j:jp a) (p:jp b):(dd a<dd b↔a.length<b.length\/(a.length=b.length/\fQ a b<0))/\(dd a=dd b->a=b):=by
 have h1:=BY j;have q:=BY p;have e:(64:Int) ^ 6=68719476736:=Φ
 rw[e] at h1 q;unfold dd;rw[e];by_cases f:a.length=b.length
 .have:=BX a b f j.1 p.1;rw[f];exact⟨⟨λh=>.inr ⟨rfl,this.1.2 Ω⟩,λh=>by
   rcases h with h|⟨_,h⟩
   .omega
   .have:=this.1.1 h;omega⟩,λh=>this.2.2 Ω⟩
 .exact⟨⟨λh=>.inl Ω,λh=>by
   rcases h with h|⟨h,_⟩
   .omega
   .exact absurd h f⟩,λh=>Ω⟩
theorem sP (g:cA):∀l:List cA,(ht g l).Perm (g::l)
 |[]=>List.Perm.refl _
 |h::l=>by
  unfold ht;split
  .exact ((sP g l).cons h).trans (List.Perm.swap g h l)
  .exact List.Perm.refl _
theorem BZ {g:cA}:∀ {l:List cA},l.Pairwise (λa b=>dd a.1<dd b.1)->(∀h∈l,dd h.1≠dd g.1)->(ht g l).Pairwise (λa b=>dd a.1<dd b.1)
 |[],_,_=>by simp[ht]
 |h::l,j,p=>by
  have f:=List.pairwise_cons.1 j;unfold ht;split
  .rename_i q;refine List.pairwise_cons.2 ⟨λx e=>?_,BZ f.2 λx e=>p x (.tail _ e)⟩;rcases W6.1 ((sP g l).mem_iff.1 e) with rfl|e
   .exact q
   .exact f.1 x e
  .rename_i r;have:=p h (.head _);refine List.pairwise_cons.2 ⟨λx e=>?_,j⟩;rcases W6.1 e with rfl|e
   .omega
   .have:=f.1 x e;omega
theorem B1:∀ (l acc:List cA),acc.Pairwise (λa b=>dd a.1<dd b.1)->l.Pairwise (λa b=>dd a.1≠dd b.1)->(∀a∈acc,∀b∈l,dd a.1≠dd b.1)->
  (l.foldl (λl g=>ht g l) acc).Pairwise (λa b=>dd a.1<dd b.1)/\(l.foldl (λl g=>ht g l) acc).Perm (acc++l)
 |[],acc,h,_,_=>⟨h,Ξ⟩
 |g::l,acc,h,q,f=>by
  have j:=List.pairwise_cons.1 q;have:=B1 l (ht g acc) (BZ h λa e=>f a e g (.head _)) j.2 λa e b p=>by
   rcases W6.1 ((sP g acc).mem_iff.1 e) with rfl|e
   .exact j.1 b p
   .exact f a e b (.tail _ p)
  refine⟨this.1,this.2.trans ?_⟩;exact ((sP g acc).append_right l).trans (List.perm_middle (a:=g) (l₁:=acc) (l₂:=l)).symm
theorem vW {α:Type} {f:α->Int}:∀ {L M:List α},L.Pairwise (λa b=>f a<f b)->M.Pairwise (λa b=>f a<f b)->(∀x,x∈L↔x∈M)->L=M
 |[],M,_,_,h=>by
  cases M with
  |nil=>rfl
  |cons y M=>exact absurd ((h y).2 (.head _)) Ξ
 |x::L,[],_,_,h=>absurd ((h x).1 (.head _)) Ξ
 |x::L,y::M,h1,q,h=>by
  have j:=List.pairwise_cons.1 h1;have p:=List.pairwise_cons.1 q;have r:x=y:=by
   rcases W6.1 ((h x).1 (.head _)) with he|hm
   .exact he
   .rcases W6.1 ((h y).2 (.head _)) with he|s
    .exact he.symm
    .have a:=p.1 x hm;have b:=j.1 y s;omega
  subst r;rw[vW j.2 p.2 λz=>⟨λe=>?_,λe=>?_⟩]
  .rcases W6.1 ((h z).1 (.tail _ e)) with he|hm
   .subst he;have:=j.1 z e;omega
   .exact hm
  .rcases W6.1 ((h z).2 (.tail _ e)) with he|hm
   .subst he;have:=p.1 z e;omega
   .exact hm
structure fE (sizes:Λ) (k:Int) (g:cA):Prop where
 scope:jp g.1
 up:g.1.Pairwise (·< ·)
 vars:∀v∈g.1,v<sizes.length
 len:g.2.length=(aL (bR sizes g.1)).toNat
 small:aL (bR sizes g.1)<=4096
 im:∀c∈g.2,0<=c/\c<=k
theorem lZ {sc:Λ} (e:∀z∈sizes,1<=z/\z<=32) (f:∀v∈sc,0<=v/\v<sizes.length):∀z∈bR sizes sc,1<=z/\z<=32:=λz h=>by
 obtain⟨v,j,rfl⟩:=n9.1 h;obtain⟨h1,p⟩:=f v j;have a:v.toNat<sizes.length:=Ω
 rw[u4,x6 a];exact e _ (T8 a)
theorem Lv {b:Λ} (h:a.Perm b):aL a=aL b:=by
 induction h with
 |nil=>rfl
 |cons x _ e=>simp only[aL,e]
 |swap x y l=>simp only[aL];rw[<-Int.mul_assoc,<-Int.mul_assoc,Int.mul_comm y x]
 |trans _ _ h1 f=>exact h1.trans f
theorem Lw {b:Λ} (h:a.length=b.length):(ea k a b).length=b.length:=by simp[ea,h]
theorem Lx {b:Λ} (hk:0<=k) (f:∀c∈a,0<=c/\c<=k) (j:∀c∈b,0<=c/\c<=k):∀c∈ea k a b,0<=c/\c<=k:=by
 induction a generalizing b with
 |nil=>intro c e;simp[ea] at e
 |cons x a p=>
  cases b with
  |nil=>intro c e;simp[ea] at e
  |cons y b=>
   intro c e;have q:=f x (.head _);have r:=j y (.head _);rcases W6.1 (show c∈min (x+y) k::ea k a b from e) with rfl|e
   .omega
   .exact p (λc h=>f c (.tail _ h)) (λc h=>j c (.tail _ h)) c e
def iR (l:List cA):Prop:=(l.map (·.1)).Nodup
theorem Ly {acc:List cA} {g:cA} (hk:0<=k) (j:∀h∈acc,fE sizes k h) (p:iR acc) (a:fE sizes k g):(∀h∈ih k acc g,fE sizes k h)/\iR (ih k acc g)/\(ih k acc g).length<=acc.length+1:=by
 unfold ih;split
 .refine⟨λh az=>?_,?_,Ξ⟩
  .obtain⟨f,hm,rfl⟩:=n9.1 az;have h1:=j f hm;split
   .rename_i he;have r:f.2.length=g.2.length:=by rw[h1.len,a.len,he]
    exact⟨h1.scope,h1.up,h1.vars,by show (ea k f.2 g.2).length=_;rw[Lw r,a.len,he],h1.small,Lx hk h1.im a.im⟩
   .exact h1
  .unfold iR;rw[S8];have e:((λx:cA=>x.1)∘λh:cA=>if h.1=g.1 then (h.1,ea k h.2 g.2) else h)=λx:cA=>x.1:=by
    funext h;simp only[Function.comp];split<;>rfl
   rw[e];exact p
 .rename_i s;refine⟨λh az=>?_,?_,Ξ⟩
  .rcases l7.1 az with az|az
   .exact j h az
   .rw[l9.1 az];exact a
  .unfold iR;rw[j6];exact List.nodup_append.2 ⟨p,Ξ,λx w y q he=>by
    simp only[V4,List.map_nil,l9] at q;subst q;subst he;exact s w⟩
theorem vX {sizes:Λ} {k:Int} (hk:0<=k):∀ {l acc:List cA},(∀h∈acc,fE sizes k h)->iR acc->(∀g∈l,fE sizes k g)->(∀h∈l.foldl (ih k) acc,fE sizes k h)/\iR (l.foldl (ih k) acc)/\(l.foldl (ih k) acc).length<=acc.length+l.length
 |[],acc,a,e,_=>⟨a,e,Ξ⟩
 |g::l,acc,a,e,f=>by
  obtain⟨h1,j,s⟩:=Ly hk a e (f g (.head _));obtain⟨p,q,w⟩:=vX hk h1 j λx r=>f x (.tail _ r);exact⟨p,q,by simp only[List.foldl_cons,Z0];omega⟩
theorem B2 {α:Type} [DecidableEq α]:∀ {a b:List α},a.Nodup->b.Nodup->(∀x,x∈a↔x∈b)->a.Perm b
 |[],b,_,_,h=>by
  cases b with
  |nil=>exact .refl _
  |cons y b=>exact absurd ((h y).2 (.head _)) Ξ
 |x::a,b,p,f,h=>by
  have q:=(h x).1 (.head _);have j:=List.nodup_cons.1 p;refine .trans ?_ (List.perm_cons_erase q).symm;refine .cons x (B2 j.2 (f.erase x) λy=>?_);rw[f.mem_erase_iff];refine⟨λe=>⟨λhe=>j.1 (he▸e),(h y).1 (.tail _ e)⟩,λ⟨r,e⟩=>?_⟩;rcases W6.1 ((h y).2 e) with he|hm
  .exact absurd he r
  .exact hm
theorem sQ (h:kt l) (a:l.Nodup):(bk l).Perm l:=B2 (BV l) a λ_=>qw h
theorem vY:∀ {l:Λ},(∀z∈l,1<=z/\z<=32)->l.map (λz=>min z 4097)=l
 |[],_=>rfl
 |z::l,h=>by
  have e:=h z (.head _);rw[V4,vY λx a=>h x (.tail _ a)];congr 1;omega
theorem Lz {x:cv} (hk:0<=k) (f:0<=x.other) (a:∀p∈x.lines,0<=p.2):0<=jJ x k t/\jJ x k t<=k:=by
 unfold jJ;cases e:x.lines.find? (λp=>decide (p.1=t)) with
 |none=>simp only;omega
 |some p=>have:=a p (List.mem_of_find?_eq_some e);simp only;omega
theorem sR {x:cv} (h:ss all N x) (e:all.length<=64):kt x.scope:=λv a=>by
 have:=h.scope.2 v a;omega
theorem pa {f:b6} {x:cv} (a:e7 N f) (s:x∈f.funs):fE f.sizes f.k (hU f.sizes f.k x):=by
 obtain⟨h1,w,h⟩:=a.funs x s;have y:=a.sizes.2.1;have j:=sR h1 y;have e:=sQ j h1.scope.1;have q:∀v∈bk x.scope,0<=v/\v<f.sizes.length:=λv hm=>h1.scope.2 v ((qw j).1 hm);have A:=lZ a.sizes.2.2 q;have B:aL (bR f.sizes (bk x.scope))=aL x.sizes:=by rw[h1.sizes];exact Lv (e.map _)
 refine⟨⟨Lu _,?_⟩,vU _,λv hm=>(q v hm).2,?_,?_,λc C=>?_⟩
 .show (bk x.scope).length<=6;rw[e.length_eq];exact w
 .show ((ba _).map _).length=_;rw[u7,ib A];rfl
 .show aL (bR f.sizes (bk x.scope))<=4096;have E:∀z∈x.sizes,1<=z/\z<=32:=λz r=>by
   rw[h1.sizes] at r;exact lZ a.sizes.2.2 (λv hm=>h1.scope.2 v hm) z r
  unfold dv at h;rw[vY E,decide_eq_false_iff_not] at h;rw[B];omega
 .obtain⟨t,_,rfl⟩:=n9.1 C;exact Lz (by have:=a.k.1;omega) h1.other λp e=>(h1.lines.2 p e).2
theorem k7 {f:b6} (a:e7 N f):(∀g∈fl f,fE f.sizes f.k g)/\iR (fl f)/\(fl f).length<=f.funs.length:=by
 have:=vX (sizes:=f.sizes) (k:=f.k) (by have:=a.k.1;omega) (l:=f.funs.map (hU f.sizes f.k)) (acc:=[]) (λh az=>by cases az) List.nodup_nil λg j=>by
  obtain⟨x,p,rfl⟩:=n9.1 j;exact pa a p
 refine⟨this.1,this.2.1,?_⟩;have e:=this.2.2;rw[List.length_nil,u7,X5] at e;exact e
theorem B3 {l:List cA} (e:∀g∈l,fE sizes k g) (f:iR l):l.Pairwise λa b=>dd a.1≠dd b.1:=by
 have h1:l.Pairwise λa b=>a.1≠b.1:=by
  unfold iR List.Nodup at f;rwa [List.pairwise_map] at f
 exact h1.imp_of_mem λ{a b} h j p he=>p ((vV (e a h).scope (e b j).scope).2 he)
theorem qx {f:b6} (h:e7 N f):(fC f).Pairwise (λa b=>dd a.1<dd b.1)/\(fC f).Perm ((fl f).filter fB):=by
 obtain⟨h1,j,_⟩:=k7 h;have p:∀g∈(fl f).filter fB,fE f.sizes f.k g:=λg q=>h1 g (U8.1 q).1;have r:iR ((fl f).filter fB):=(List.Sublist.map _ List.filter_sublist).nodup j;have:=B1 ((fl f).filter fB) [] List.Pairwise.nil (B3 p r) λa s=>by cases s
 refine⟨this.1,?_⟩;have e:=this.2;rw[List.nil_append] at e;exact e
theorem sS {f:b6} (a:e7 N f):∀g∈fC f,fE f.sizes f.k g:=λg e=>(k7 a).1 g (U8.1 ((qx a).2.mem_iff.1 e)).1
theorem LA {f:b6} (e:e7 N f) {M:List cA} (h:M.Perm ((fl f).filter fB)) (I:M.Pairwise λa b=>dd a.1<=dd b.1):M=fC f:=by
 obtain⟨h1,j⟩:=qx e;have p:iR ((fl f).filter fB):=(List.Sublist.map _ List.filter_sublist).nodup (k7 e).2.1;have q:iR M:=(h.map (λg:cA=>g.1)).nodup_iff.2 p;have r:∀g∈M,fE f.sizes f.k g:=λg s=>(k7 e).1 g (U8.1 (h.mem_iff.1 s)).1;have w:=B3 r q;refine vW (f:=λg:cA=>dd g.1) ?_ h1 λx=>by rw[h.mem_iff,j.mem_iff]
 exact I.imp₂ (λa b h1 j=>Int.lt_iff_le_and_ne.2 ⟨h1,j⟩) w
structure jO (n:aT):Prop where
 k:1<=n.k/\n.k<=2147483648
 sizes:1<=n.sizes.length/\n.sizes.length<=64/\ ∀z∈n.sizes,1<=z/\z<=32
 zero:0<=n.zero/\n.zero<=n.k
 ku:n.unary.length=n.sizes.length
 unary:∀ (i:Nat) (z:Int) (u:Λ),n.sizes[i]? =σ z->n.unary[i]? =σ u->u.length=z.toNat/\ ∀c∈u,0<=c/\c<=n.k
 funs:∀g∈n.funs,fE n.sizes n.k g/\2<=g.1.length
theorem LB (z:Int):aL [z]=z:=by simp[aL]
theorem sT:∀ {l:List cA} {n:aT},jO n->(∀g∈l,fE n.sizes n.k g)->jO (l.foldl (λn g=>match g.1 with
 |[]=>{n with zero:=g.2.getD 0 0}
 |[v]=>{n with unary:=n.unary.set v.toNat g.2}
 |_=>{n with funs:=n.funs++[g]}) n)/\(l.foldl (λn g=>match g.1 with
 |[]=>{n with zero:=g.2.getD 0 0}
 |[v]=>{n with unary:=n.unary.set v.toNat g.2}
 |_=>{n with funs:=n.funs++[g]}) n).sizes=n.sizes
 |[],n,h,_=>⟨h,rfl⟩
 |g::l,n,h,p=>by
  have e:=p g (.head _);have j:∀x∈l,fE n.sizes n.k x:=λx f=>p x (.tail _ f);rw[List.foldl_cons];obtain⟨sc,cs⟩:=g
  match sc,e with
  |[],e=>
   have s:=e.len;refine sT (n:={n with zero:=cs.getD 0 0}) ⟨h.k,h.sizes,?_,h.ku,h.unary,h.funs⟩ j;have h1:cs.length=1:=by simpa[bR,aL] using s
   have w:cs[0]? =σ (cs.getD 0 0):=by rw[u4,x6 Ω];rfl
   exact e.im _ (x5 w)
  |[v],e=>
   have A:=e.scope.1 v (.head _);have B:=e.vars v (.head _);refine sT (n:={n with unary:=n.unary.set v.toNat cs}) ⟨h.k,h.sizes,h.zero,by show (n.unary.set _ _).length=_;rw[Z2];exact h.ku,λi z u q hu=>?_,h.funs⟩ j;by_cases hi:v.toNat=i
   .subst hi;have C:=h.ku;rw[j4 Ω] at hu;cases hu;have y:bR n.sizes [v]=[z]:=by
     simp only[bR,V4,List.map_nil];rw[u4,q];rfl
    refine⟨?_,e.im⟩;have:=e.len;rw[y,LB] at this;exact this
   .rw[Y0 hi] at hu;exact h.unary i z u q hu
  |a::b::r,e=>
   refine sT (n:={n with funs:=n.funs++[(a::b::r,cs)]}) ⟨h.k,h.sizes,h.zero,h.ku,h.unary,λx f=>?_⟩ j;rcases l7.1 f with f|f
   .exact h.funs x f
   .rw[l9.1 f];exact⟨e,Ξ⟩
theorem B4 {f:b6} (a:e7 N f):jO (dt f)/\(dt f).sizes=f.sizes:=by
 unfold dt;have h:=a.sizes;refine sT (n:=⟨f.k,f.sizes,0,f.sizes.map λz=>p9 z.toNat 0,[]⟩) ⟨a.k,h,⟨by show (0:Int)<=0;omega,by show (0:Int)<=f.k;have:=a.k.1;omega⟩,Ξ,λi z u h1 e=>?_,λg j=>by cases j⟩ (sS a);have e:(f.sizes.map λz=>p9 z.toNat (0:Int))[i]? =σ u:=e;have h1:f.sizes[i]? =σ z:=h1;rw[x8,h1] at e;cases e;refine⟨Ξ,λc p=>?_⟩;rw[(List.mem_replicate.1 p).2];have:=a.k.1;exact⟨Int.le_refl _,by show (0:Int)<=f.k;omega⟩
def k8 (x:cv) (k:Int) (i:Nat) (t:Λ):Int:=match (x.lines.take i).find? (λp=>decide (p.1=t)) with
 |some p=>min p.2 k
 |none=>min x.other k
theorem B5 (x:cv) (k:Int) (t:Λ):k8 x k 0 t=min x.other k:=by simp[k8]
theorem B6 (x:cv) (k:Int) (t:Λ):k8 x k x.lines.length t=jJ x k t:=by
 unfold k8 jJ;rw[o5];cases x.lines.find? (λp=>decide (p.1=t))<;>rfl
theorem B7 {x:cv} {i:Nat} {p:Λ×Int} (y:(x.lines.map (·.1)).Nodup) (hi:x.lines[i]? =σ p) (t:Λ):k8 x k (i+1) t=if t=p.1 then min p.2 k else k8 x k i t:=by
 unfold k8;rw[u9,hi,o7,List.find?_append];by_cases a:t=p.1
 .subst a;have z:(x.lines.take i).find? (λq=>decide (q.1=p.1))=ν:=by
   rw[List.find?_eq_none];intro q e he;have he:q.1=p.1:=by simpa using he
   obtain⟨j,f⟩:=X4.1 e;have h:j<i:=by have:=(x4.1 f).1;rw[j5] at this;omega
   rw[Y8 h] at f;have r:=x4.1 f;have s:=x4.1 hi;have w:=V2.1 y j i (by rw[u7];exact r.1) (by rw[u7];exact s.1) h;rw[List.getElem_map,List.getElem_map,r.2,s.2] at w;exact w he
  rw[z,if_pos rfl];simp
 .rw[if_neg a];have:[p].find? (λq=>decide (q.1=t))=ν:=by
   rw[List.find?_eq_none];intro q e he;rw[l9.1 e] at he;exact a (of_decide_eq_true he).symm
  rw[this,Option.or_none]
theorem pb {v:Int} (h:v∈l):l[l.idxOf v]? =σ v:=by
 have:=List.idxOf_lt_length_iff.2 h;rw[x6 this,List.getElem_idxOf this]
theorem qy {i:Nat} {v:Int} (j:l.Nodup) (h:l[i]? =σ v):l.idxOf v=i:=by
 have hm:=x5 h;have h1:=pb hm;have a:=x4.1 h1;have e:=x4.1 h;rcases Nat.lt_trichotomy (l.idxOf v) i with f|he|f
 .exact absurd (a.2.trans e.2.symm) (V2.1 j _ _ a.1 e.1 f)
 .exact he
 .exact absurd (e.2.trans a.2.symm) (V2.1 j _ _ e.1 a.1 f)
def fR (scope a:Λ):Λ:=a.map λv=>((scope.idxOf v:Nat):Int)
theorem sU {f:Λ} (w:scope.Nodup) (a:f.Perm scope):Good (fR scope f) scope.length:=by
 have r:f.Nodup:=a.nodup_iff.2 w;refine⟨by simp[fR,a.length_eq],λi p h=>?_⟩;unfold fR at h;rw[x8] at h;obtain⟨v,s,rfl⟩:=Y7.1 h;have hm:v∈scope:=a.mem_iff.1 (x5 s);have z:=List.idxOf_lt_length_iff.2 hm;refine⟨⟨Ω,Ω⟩,λj A q=>?_⟩;unfold fR at q;rw[x8] at q;obtain⟨u,hu,he⟩:=Y7.1 q;have x:u∈scope:=a.mem_iff.1 (x5 hu);have e:scope.idxOf u=scope.idxOf v:=Ω
 have h1:=pb x;rw[e,pb hm] at h1;have y:v=u:=c8 h1;subst y;have B:=qy r hu;have C:=qy r s;omega
theorem B8 {v:Int} (e:a[j]? =σ v):(fR scope a)[j]? =σ ((scope.idxOf v:Nat):Int):=by
 unfold fR;rw[x8,e];rfl
theorem LC (p:scope.Nodup) (f:a.Perm scope):et (bR sizes scope) (fR scope a)=bR sizes a:=by
 refine Y2 λj=>?_;cases e:a[j]? with
 |none=>
  have h:=List.getElem?_eq_none_iff.1 e;rw[Z3 (by rw[sn];simp[fR];exact h),Z3 (by simp[bR];exact h)]
 |some v=>
  have hm:v∈scope:=f.mem_iff.1 (x5 e);have q:=sU p f;rw[AP q (by simp[bR]) (B8 e),r8];unfold bR;rw[x8,x8,pb hm,e]
theorem B9 (q:scope.Nodup) (e:a.Perm scope) (r:t.length=scope.length):lW (fR scope a) t=oS scope a t:=by
 have s:=sU q e;refine (AO s r (by simp[oS]) λj p f=>?_).symm;unfold fR at f;rw[x8] at f;obtain⟨v,h,rfl⟩:=Y7.1 f;have hm:v∈scope:=e.mem_iff.1 (x5 h);have w:a.Nodup:=e.nodup_iff.2 q;have x:=(x4.1 h).1;have y:=e.length_eq;unfold oS;rw[r8,x8,pb hm,Z4,qy w h,u4,x6 (show j<t.length by omega)];rfl
theorem LD {f:b6} {x:cv} {cs:Λ} (h:e7 N f) (z:x∈f.funs) (H:cs.length=(aL x.sizes).toNat) (A:∀t,dq x.sizes t->a7 x.sizes cs t=jJ x f.k t):
  et x.sizes (fR x.scope (bk x.scope))=bR f.sizes (bk x.scope)/\nI x.sizes cs (fR x.scope (bk x.scope))=(hU f.sizes f.k x).2:=by
 obtain⟨h1,I,J⟩:=h.funs x z;have p:=sR h1 h.sizes.2.1;have a:=sQ p h1.scope.1;have r:x.sizes=bR f.sizes x.scope:=h1.sizes;have j:et x.sizes (fR x.scope (bk x.scope))=bR f.sizes (bk x.scope):=by rw[r];exact LC h1.scope.1 a
 have B:=sU h1.scope.1 a;have C:∀v∈bk x.scope,0<=v/\v<f.sizes.length:=λv hm=>h1.scope.2 v ((qw p).1 hm);have e:dB (bR f.sizes (bk x.scope)):=lZ h.sizes.2.2 C;refine⟨j,?_⟩;have E:x.sizes.length=x.scope.length:=by rw[r];simp[bR]
 unfold nI;rw[j];show _=(ba (bR f.sizes (bk x.scope))).map λt=>jJ x f.k (oS x.scope (bk x.scope) t);refine Y2 λq=>?_;rw[x8,x8];have K:=lU e;by_cases w:q<(aL (bR f.sizes (bk x.scope))).toNat
 .have F:=nG e (i:=q) Ω;rw[F,List.getElem?_range w];simp only[Z4];have G:=vy e w;have y:(cL (bR f.sizes (bk x.scope)) q).length=x.scope.length:=by rw[jl];simp[bR,a.length_eq]
  rw[B9 h1.scope.1 a y,A];have:=J4 (s:=x.sizes) B E (by rw[j];exact G);rw[B9 h1.scope.1 a y] at this;exact this
 .rw[Z3 Θ,Z3 (by rw[ib e];omega)];rfl
theorem LF {e:Λ} (I:dB ad) (h1:a.length=(aL ad).toNat) (f:e.length=(aL ad).toNat):
  ea k a e=(V1 (aL ad).toNat).map λ(q:Nat)=>min (a7 ad a (cL ad q)+a7 ad e (cL ad q)) k:=by
 conv=>lhs;rw[sm I h1,sm I f]
 unfold ea;rw[List.zipWith_map,List.zipWith_self]
theorem LG {di:Nat} {d:List (x1×x1)} {KS:List (Λ)} (f:ab w di iD [.map (σ m)]) (hm:c5 w m d) (j:d.map (·.1)=KS.map eg) (e:o1 KS) (A:KS.length<65536):
  ai x7 Ih [.func (.func lM) #[] #[Γ di],By] w λv w'=>Ext w w'/\ ∃g M,M.Perm KS/\sL gn M 0 M.length/\nL w' g v M:=by
 refine aw func215 ?_;refine (KK f hm j (λks h=>(e ks h).1) Ω).mono ?_;rintro v J _ ⟨p,g,L,q,a,s⟩;refine (KY s (e.perm a) (by rw[a.length_eq];omega)).mono ?_;rintro _ U _ ⟨x,M,y,hu,z⟩;exact⟨p.then x (λr B h=>by have:=q r h;omega),g,M,y.trans a,hu,z⟩
theorem Ca {α β:Type} {f:α->β}:∀ {M:List β} {D:List α},M.Perm (D.map f)-> ∃L:List α,L.Perm D/\L.map f=M
 |[],D,h=>by
  have h1:=h.length_eq;simp at h1;have:D=[]:=b9 h1.symm;exact⟨[],by rw[this],rfl⟩
 |x::M,D,h=>by
  have a:x∈D.map f:=h.mem_iff.1 (.head _);obtain⟨p,e,rfl⟩:=n9.1 a;obtain⟨A,B,rfl⟩:=List.append_of_mem e;have j:(f p::M).Perm (f p::(A++B).map f):=h.trans (by
   rw[j6,V4,j6];exact List.perm_middle)
  obtain⟨L,q,r⟩:=Ca (List.Perm.cons_inv j);exact⟨p::L,(q.cons p).trans List.perm_middle.symm,by rw[V4,r]⟩
theorem Cb {g:Nat} {ks:Λ} (q:ks.length=6) (r:n<=6) (e:cs=ints .i8 ks) (f:ab w g cE cs):aH .i8 w (.slice (σ (if 6=0 then⟨g,0,ν⟩ else⟨g,0+0*1,ν⟩)) (n-0) (6-0)) (ks.take n):=by
 subst e;rw[if_neg Ω];unfold aH;have h:(ks.take n).length=n:=by rw[j5];omega
 rw[h];refine⟨Θ,g,0,_,6,rfl,Ω,by simp[maxLen],λ_=>rfl,λj v a=>?_⟩;have p:=(x4.1 a).1;refine f.range j v ?_;rw[ints,List.map_take,Y8 (by simp[ints] at p;omega)] at a;exact a
def LH (D L:Told):Prop:=L.Perm D/\sL (λp=>gn (pad p.1)) L 0 L.length
theorem LI {g:Nat} {o:Int} {D:Told} (h:eM w g m ad k o D) (ba:D.length<65536):ai x7 HO [Γ g] w λv w'=>Ext w w'/\ ∃L:Told,LH D L/\bj (eL w.heap.size) bC w' [v] L:=by
 obtain⟨⟨sv,gs,Z,hm⟩,bb,I,bS,az⟩:=id h;have be:o1 (D.map λp=>pad p.1):=λks hk=>by
  obtain⟨p,bf,rfl⟩:=n9.1 hk;exact ql I (az p bf).1
 refine aw func167 ?_;rw[dn eR.u];simp only[Z5,aY];rw[aO fw.p 3 Z rfl];refine KI.mono ?_;rintro _ J _ ⟨aa,di,rfl,bT,bg⟩;refine (LG (KS:=D.map λp=>pad p.1) bg (bb.ext aa) (by rw[S8,S8];rfl) be (by simpa using ba)).mono ?_;rintro bU U _ ⟨aB,bV,M,bh,bi,aC⟩;obtain⟨L,ac,O⟩:=Ca bh;have aD:M.length=L.length:=by rw[<-O];simp
 have bW:=ac.length_eq;have bX:=aa.size;have bY:=aB.size;have aE:=aa.trans aB;rw[eD jg.u aC];refine b1.range L.length (λi out e=>Ext U e/\bj (eL U.heap.size) bC e [out] (L.take i)) Ω ⟨Ext.refl _,by rw[List.take_zero];exact gh⟩ ?_ ?_
 rotate_left
 .rintro out e bk ⟨C,P⟩;rw[aD];simp only[aR,aj];refine⟨λh=>Ω,λ_=>⟨aE.trans C,L,⟨ac,λp q x y h1 bl bZ bm bn=>?_⟩,?_⟩⟩
  .exact bi p q (pad x.1) (pad y.1) h1 bl Ω (by rw[<-O,x8,bm];rfl) (by rw[<-O,x8,bn];rfl)
  .rw[o5] at P;exact ak.mono P (λr _ h=>by have h:U.heap.size<=r:=h;show w.heap.size<=r;omega) λ_ _ h=>h
 rintro i out e bk hi ⟨C,P⟩ bp;obtain⟨⟨t,c⟩,af⟩:∃p,L[i]? =σ p:=⟨_,x6 hi⟩;have ag:(t,c)∈D:=ac.mem_iff.1 (x5 af);have al:=(az _ ag).1;have aF:=vI I al;have ao:t.length=ad.length:=aF.1;have aG:=I.1;have bq:k2 (pad t):=ql I al;have Q:=bq.1;have br:M[i]? =σ (pad t):=by rw[<-O,x8,af];rfl
 rw[aD];simp only[aR,aj];refine⟨λ_=>?_,λh=>Ω⟩;rw[KX rfl (aC.ext C) br];refine bB cE.i λan b0 b2 aH aJ=>?_;refine qk Q rfl aJ λbt bu b4 S=>?_;have b5:=aH.size;have b6:=aJ.lt;have bw:Ext e bt:=aH.put bu Ω;intro aK H _ _;have aq:=bw.trans H;have au:=(aE.trans C).trans aq;have aL:=h.ext au;obtain⟨⟨b7,b8,b9,ca⟩,cb,_⟩:=id aL;have cc:=aq.size;rw[aO fw.p 3 (Z.ext au) rfl,nK Q (S.ext H).range];refine KB aL al (λf bx=>?_) (λbz=>absurd rfl (bz _ ag));have bA:f=c:=by
  have:=Bm h.nodup bx ag rfl;exact congrArg Prod.snd this
 subst bA;simp only[Bool.false_eq_true,if_false];rw[dp (cs:=#[.slice ν 0 0,Δ f]) Ψ];refine bB gd.i λE cd ce av aN=>?_;refine⟨.inl av,?_⟩;refine b3 (vs:=[.slice ν 0 0,Δ f]) gd.i rfl rfl (by intro v aS;simp at aS;rcases aS with rfl|rfl<;>rfl) aN λG bE cg aT=>?_;have ci:=av.size;have cj:=aN.lt;have W:Ext aK G:=av.put bE Ω;have aU:=aq.trans W;have aV:=au.trans W;rw[aO fw.p 0 (Z.ext aV) rfl,aX am.u (hm.ls.ext aV)];rw[r3 cE.u fN.i (l:=0) (h:=ad.length) (m:=6) kf (nr _ _ rfl) gg Ω Ω Ω];have aW:=Cb Q aG rfl ((S.ext H).ext W);rw[<-ao,Bh] at aW;rw[<-ao,aX kQ.u aW];have bF:=(S.ext H).ext W;have ck:an<aK.heap.size:=(S.ext H).lt;have cl:E<G.heap.size:=aT.lt;refine ch.range t.length (λj s=>ae (λr=>r=E\/G.heap.size<=r) G s/\ ∃aM gt,G.heap.size<=gt/\ab s E gd [aM,Δ f]/\ap .i64 ah s gt aM (t.take j)) Ω ⟨ae.refl _ _,_,G.heap.size,o4 _,aT,ap.nil _ _ _ _⟩ ?_ ?_
 .rintro j s bG bH ⟨z,aM,gt,bI,X,Y⟩ bJ;obtain⟨x,ax⟩:=aI (l:=t) bH;have cm:=aF.2 x (x5 ax);have cn:Ext e s:=aU.then z (λr aZ he=>by rcases he with rfl|he<;>omega);have a1:=Cb Q aG rfl (bF.V z (λhe=>by rcases he with he|he<;>omega));rw[<-ao,Bh] at a1;simp only[aR,aj];refine⟨λ_=>?_,λh=>Ω⟩;rw[bd kQ.u fN.i Ψ a1 ax,aA gd.p 0 X rfl,fj fN.u ah.u,wrap_i64 Ω Ω];refine ep am.u ah.i rfl λa ga bK cp B bL=>?_;refine jk am.u ah.i rfl (Y.ext B) bL.ls Θ Θ λa2 a6 bM cq K N=>?_;have bN:=z.size;have bO:=B.size;have cr:=N.size;rw[aQ gd.p rfl];refine bo (g:=E) (o:=0) am.i K.ls.cells.1 K.ls.cells.2 ((X.ext B).V N (λhe=>by have he:E=gt:=he;omega)) Ξ λct a7 cu bP=>?_;simp only[aP];refine bJ _ ⟨((z.trans (B.V _)).trans (N.mono λr _ he=>.inr (by have he:r=gt:=he;omega))).trans (a7.mono λr _ he=>.inl he),a2,a6,Ω,bP,?_⟩;rw[u9,ax];exact K.V a7 (λ_ he=>by have he:a6=E:=he;omega)
 .rintro s bG ⟨z,aM,gt,bI,X,Y⟩;simp only[aR,aj];refine⟨λh=>Ω,λ_=>?_⟩;rw[o5] at Y;rw[bD gd.p gd.i rfl X.range];have bN:=z.size;have bQ:Ext e s:=aU.then z (λr aZ he=>by rcases he with rfl|he<;>omega);have a8:bj (eL e.heap.size) bC s [aM,Δ f] (t,f):=⟨[aM],[Δ f],eL e.heap.size,bC,rfl,λ_ h=>h,λ_ h=>h.elim,λ_ _ _ h=>h,ak.mono (ny Y) (λr _ h=>by subst h;show e.heap.size<=r;omega) (λ_ _ h=>h),rfl⟩;refine iH (α:=Λ×Int) (a:=(t,f)) (cs:=[aM,Δ f]) (A:=eL e.heap.size) (R:=bC) oA.u gd.i Φ rfl a8 λu bK B _ bR=>?_;have ay:=bQ.trans B;have bO:=ay.size;refine nx (α:=Λ×Int) (a:=(t,f)) (A:=eL e.heap.size) oA.u gd.i rfl (bc (mv P) ay) bR (bc a8 B) (λr _ h h'=>?_) Θ Θ λa2 bM K N=>?_
  .rcases h' with h'|h'
   .have:=h.2;have:e.heap.size<=r:=h';omega
   .exact h'
  simp only[aP];have cw:=C.size;refine bp _ _ ⟨(C.trans ay).then N (λr aZ h=>by have h:=h.1;have h:U.heap.size<=r:=h;omega),?_⟩;rw[u9,af];refine ak.mono K (λr _ h=>?_) λ_ _ h=>h;show U.heap.size<=r;rcases h with h|h|h
  .exact h.1
  .have h:e.heap.size<=r:=h;omega
  .omega
theorem Cc {s:Λ} (I:dB s):t∈ba s↔dq s t:=by
 refine⟨λh=>?_,λ⟨n,h⟩=>x5 (lV I h)⟩;obtain⟨i,hi⟩:=X4.1 h;exact⟨_,iN I hi⟩
theorem Cd:∀ {s:Λ},dB s->(ba s).Pairwise λa b=>gn a<gn b
 |[],_=>by simp[ba]
 |k::s,I=>by
  have z:=Cd I.tail;have f:∀t∈ba s,0<=gn t/\gn t<32 ^ s.length:=λt p=>by
   have A:=(Cc I.tail).1 p;have h1:=nH.1 A;have r:=sK t λx q=>by
    obtain⟨i,hi,rfl⟩:=List.getElem_of_mem q;obtain⟨a,e⟩:=aI (l:=s) (i:=i) Ω;have C:=h1.2 i a _ e (x6 hi);have E:=(I.tail a (x5 e)).2;omega
   rw[h1.1];exact r
  have j:∀t∈ba s,t.length=s.length:=λt p=>r6 p;show ((V1 k.toNat).flatMap λ(v:Nat)=>(ba s).map λt=>(v:Int)::t).Pairwise _;rw[List.pairwise_flatMap];refine⟨λv _=>?_,?_⟩
  .rw[List.pairwise_map];refine z.imp_of_mem λ{a b} e f h=>?_;simp only[gn,j a e,j b f];omega
  .refine List.pairwise_lt_range.imp λ{u v} F x q y B=>?_;obtain⟨a,e,rfl⟩:=n9.1 q;obtain⟨b,w,rfl⟩:=n9.1 B;simp only[gn,j a e,j b w];have h1:=f a e;have r:=f b w;have:=Int.mul_le_mul_of_nonneg_right (show (u:Int)+1<=v by omega) (show (0:Int)<=32 ^ s.length by have:=vM s.length;omega);rw[Int.add_mul,Int.one_mul] at this;omega
theorem LJ {D L:Told} {o:Int} (f:(D.map (·.1)).Nodup) (a:L.Perm D) (t:Λ):ii L o t=ii D o t:=by
 have j:(L.map (·.1)).Nodup:=(a.map (·.1)).nodup_iff.2 f;by_cases he:∃p∈D,p.1=t
 .obtain⟨p,h,rfl⟩:=he;rw[qm f (c:=p.2) h,qm j (c:=p.2) (a.mem_iff.2 h)]
 .rw[qn λp h1 e=>he ⟨p,h1,e⟩,qn λp h1 e=>he ⟨p,a.mem_iff.1 h1,e⟩]
def io (ad:Λ) (f:Λ->Int) (cs:Λ):Prop:=cs.length=(aL ad).toNat/\ ∀t,dq ad t->a7 ad cs t=f t
theorem io.eq {f:Λ->Int} {cs:Λ} (I:dB ad) (h1:io ad f cs) (e:io ad f a):cs=a:=JU I h1.1 e.1 λt h=>by rw[h1.2 t h,e.2 t h]
theorem io.congr {f a:Λ->Int} {cs:Λ} (h:io ad f cs) (he:∀t,dq ad t->f t=a t):io ad a cs:=⟨h.1,λt e=>by rw[h.2 t e,he t e]⟩
theorem vZ (I:dB ad) (h:dq ad t):∃n:Nat,cF ad t 0=σ (n:Int)/\n<(aL ad).toNat:=by
 obtain⟨n,a⟩:=h;have:=nz I a;simp only[Int.zero_mul,Int.zero_add,Int.one_mul] at this;exact⟨n.toNat,by rw[a];congr 1;omega,Ω⟩
theorem LK (I:dB ad) (c:Int):io ad (λ_=>c) (p9 (aL ad).toNat c):=⟨Ξ,λt a=>by
 obtain⟨n,e,f⟩:=vZ I a;unfold a7;rw[e];simp only[r8,u4,List.getElem?_replicate,f,if_true,V6]⟩
theorem io.put {f:Λ->Int} {cs:Λ} {c:Int} (I:dB ad) (h:io ad f cs) (q:dq ad t) (r:cw c k):io ad (λs=>if s=t then c else f s) (sa ad t k c cs):=by
 obtain⟨n,e,w⟩:=vZ I q;unfold sa;rw[e];simp only[r,if_true,r8];refine⟨by simp[h.1],λs p=>?_⟩;obtain⟨m,hm,x⟩:=vZ I p;have a:=h.2 s p;unfold a7 at a ⊢;rw[hm] at a ⊢;simp only[r8] at a ⊢;by_cases he:s=t
 .subst he;rw[e] at hm;have j:n=m:=by have:=c8 hm;omega
  subst j;rw[if_pos rfl,u4,j4 (by rw[h.1];exact w)];rfl
 .rw[if_neg he,u4,Y0 (λj=>he ?_),<-u4,a];subst j;rw[<-AI I hm,<-AI I e]
def LL (w:x3) (ad:Λ) (k o:Int) (D:Told) (v:x1) (w':x3):Prop:=Ext w w'/\(4096<aL ad->v= .tuple #[.pointer ν,Δ 5])/\
 (aL ad<=4096-> ∃g a sv cs,v= .tuple #[Γ g,Δ 0]/\w.heap.size<=g/\(w.heap.size<=a/\ ∀r,leads sv r->w.heap.size<=r)/\dh w' g a sv ad k cs/\io ad (ii D o) cs)
theorem Ce {g:Nat} {o:Int} {D:Told} (h:eM w g m ad k o D) (ab:D.length<65536):ai x7 GS [Γ g] w (LL w ad k o D):=by
 obtain⟨⟨sv,gs,ac,hm⟩,a2,I,af,ag⟩:=id h;have R:=h.nodup;refine aw func94 ?_;rw[dn eR.u];simp only[Z5,aY];intro J a _ _;have K:=ac.ext a;rw[aO fw.p 0 K rfl,aO fw.p 1 K rfl,aO fw.p 2 K rfl];refine (vi (hm.ls.ext a)).mono ?_;rintro _ U _ ⟨z,_,ah,_,al⟩;by_cases C:aL ad<=4096
 rotate_left
 .have:=ah I Ω;subst this;rw[bx,bz];simp only[bL,aj];exact⟨λ_=>⟨a.trans z,λ_=>rfl,λh=>absurd h C⟩,λh=>by simp at h⟩
 obtain⟨gt,f,aM,rfl,a6,a7,am,S⟩:=al I C af;rw[bx,bz];simp only[bL,aj];refine⟨λh=>absurd rfl h,λ_=>?_⟩;have a8:=a.size;have ba:=z.size;refine (LI ((h.ext a).ext z) ab).mono ?_;rintro bb an _ ⟨M,L,E,W⟩;have bc:=M.size;have bd:f<U.heap.size:=by
  obtain⟨⟨aZ,be,_,_,ao⟩,⟨_,_,bf⟩,ap,aq⟩:=id S;have bg:=lU ap.2;obtain⟨_,⟨_,au⟩|⟨cap,cs,_,av,_⟩⟩:=ao
  .rw[aq] at au;omega
  .exact av.lt
 have bh:=E.1.length_eq;rw[fA oA.u W];refine ch.range L.length (λi q=>ae (λr=>r=f) an q/\ ∃cs,dh q gt f aM ad k cs/\io ad (ii (L.take i) o) cs) Ω ⟨ae.refl _ _,_,S.ext M,by rw[List.take_zero];exact LK I.2 o⟩ ?_ ?_
 .rintro i q ax hi ⟨G,cs,N,H⟩ ay;simp only[aR,aj];refine⟨λ_=>?_,λh=>Ω⟩;obtain⟨⟨t,c⟩,y⟩:∃p,L[i]? =σ p:=⟨_,x6 hi⟩;have az:(t,c)∈D:=E.1.mem_iff.1 (x5 y);obtain⟨aB,aC,aD⟩:=ag _ az;have aE:=ak.V W G λr X aF he=>by
   have he:r=f:=he;rcases aF with h|h
   .have h:U.heap.size<=r:=h;omega
   .exact h
  refine kj (α:=Λ×Int) gd.p rfl oA.u gd.i aE y λus aG=>?_;obtain⟨bi,aH,A,B,rfl,bj,bk,_,h1,aI⟩:=aG;have aJ:aH=[Δ c]:=aI;subst aJ;obtain⟨aK,rfl,_⟩:=id h1;have hu:=cU h1;refine bB gd.i λbl bm bn aN Y=>?_;refine b3 (vs:=[aK,Δ c]) gd.i rfl rfl (by intro v Z;simp at Z;rcases Z with rfl|rfl;exact hu.cells.2;rfl) Y λaQ aS bo aa=>?_;have bp:=Y.lt;have O:Ext q aQ:=aN.put aS Ω;rw[aA gd.p 0 aa rfl,aA gd.p 1 aa rfl];refine (I8 (N.ext O) (hu.ext O)).mono ?_;rintro _ bq _ ⟨rfl,aT,aU⟩;simp only[aP];refine ay _ ⟨(G.trans (O.V _)).trans aT,_,aU,(H.put I.2 aB aC).congr λs br=>?_⟩;rw[u9,y];have P:(L.map (·.1)).Nodup:=(E.1.map (·.1)).nodup_iff.2 R;have aV:∀p∈L.take i,p.1≠t:=λp C he=>by
   obtain⟨j,Q⟩:=X4.1 C;have aW:j<i:=by have:=(x4.1 Q).1;rw[j5] at this;omega
   rw[Y8 aW] at Q;have:=kq P (i:=j) (j:=i) (x:=t) (by rw[x8,Q,Z4,he]) (by rw[x8,y];rfl);omega
  have aX:((L.take i).map (·.1)).Nodup:=by rw[List.map_take];exact (List.take_sublist _ _).nodup P
  have a1:((L.take i++[(t,c)]).map (·.1)).Nodup:=by
   have e:L.take i++[(t,c)]=L.take (i+1):=by rw[u9,y];rfl
   rw[e,List.map_take];exact (List.take_sublist _ _).nodup P
  exact ((Bn aV aD).cost aX a1 s).symm
 .rintro q ax ⟨G,cs,N,H⟩;simp only[aR,aj];refine⟨λh=>Ω,λ_=>?_⟩;rw[o5] at H;exact⟨((a.trans z).trans M).put G Ω,λh=>Ω,λ_=>⟨gt,f,aM,cs,rfl,Ω,⟨Ω,λr X=>by have:=am r X;omega⟩,N,H.congr λs _=>LJ R E.1 s⟩⟩
theorem LM {s cs:Λ} (I:dB s) (a:cs.length=(aL s).toNat) {i:Nat} (h:(ba s)[i]? =σ t):cs[i]? =σ (a7 s cs t):=by
 have hi:=(x4.1 h).1;rw[ib I,<-a] at hi;unfold a7;rw[iN I h];simp only[r8,u4,x6 hi,V6]
theorem sV {k:o6} {g:Nat} (h:ap k e w g v l) (f:0<l.length):g<w.heap.size:=by
 obtain⟨_,⟨_,h1⟩|⟨_,_,_,a,_⟩⟩:=h
 .omega
 .exact a.lt
def fF (w:x3) (g m:Nat) (sv:x1) (gs:Nat) (ad:Λ) (k o:Int) (D:Told):Prop:=
 ab w g fw [sv,Δ k,Δ o,.map (σ m)]/\ap .i64 ah w gs sv ad/\c5 w m (D.map jK)/\b5 ad/\cw o k/\ ∀p∈D,dq ad p.1/\cw p.2 k/\p.2≠o
theorem fF.is {g:Nat} {o:Int} {D:Told} (h:fF w g m sv gs ad k o D):eM w g m ad k o D:=⟨⟨sv,gs,h.1,h.2.1⟩,h.2.2⟩
theorem eM.at {g:Nat} {o:Int} {D:Told} (h:eM w g m ad k o D):∃sv gs,fF w g m sv gs ad k o D:=by
 obtain⟨⟨sv,gs,h1,a⟩,e⟩:=h;exact⟨sv,gs,h1,a,e⟩
theorem fF.ext {g:Nat} {o:Int} {D:Told} (h:fF w g m sv gs ad k o D) (a:Ext w w'):fF w' g m sv gs ad k o D:=by
 obtain⟨h1,e,f,j⟩:=h;exact⟨h1.ext a,e.ext a,f.ext a,j⟩
theorem fF.V {g:Nat} {o:Int} {D:Told} (h:fF w g m sv gs ad k o D) (a:ae S w w') (e:¬S g) (hm:¬S m) (I:∀r,leads sv r->¬S r):fF w' g m sv gs ad k o D:=by
 obtain⟨h1,f,j,p⟩:=h;exact⟨h1.V a e,bn f a I,j.V a hm,p⟩
theorem sW {g:Nat} {d:List (x1×x1)} (h:ab w g e cs) (hm:c5 w m d):g≠m:=by
 rintro rfl;obtain⟨a,c,h1,_⟩:=hm;unfold ab at h;rw[h1] at h;cases h
theorem Cf {g:Nat} {k:o6} {d:List (x1×x1)} (h:ap k e w g v l) (hm:c5 w m d) (f:leads v r):r≠m:=by
 obtain⟨rfl,_⟩:=bP h f;obtain⟨_,⟨rfl,_⟩|⟨_,_,_,j,_⟩⟩:=h
 .obtain⟨a,n,c,h,_⟩:=f;cases h
 .exact sW j hm
theorem fF.put {g:Nat} {o:Int} {D D':Told} (h:fF w g m sv gs ad k o D) (a:ae (λr=>r=m) w w') (h':eM w' g m ad k o D'):fF w' g m sv gs ad k o D':=
 ⟨h.1.V a (λhe=>sW h.1 h.2.2.1 he),bn h.2.1 a (λr e he=>Cf h.2.1 h.2.2.1 e he),h'.2⟩
theorem fF.qf {g:Nat} {o:Int} {D:Told} (h:fF w g m sv gs ad k o D):g<w.heap.size/\m<w.heap.size/\ ∀r,leads sv r->r<w.heap.size:=
 ⟨h.1.lt,h.2.2.1.lt,λr a=>by obtain⟨rfl,e⟩:=bP h.2.1 a;exact e⟩
instance (s t:Λ):Decidable (dq s t):=decidable_of_iff ((cF s t 0).isSome=true) ⟨λh=>by
 cases a:cF s t 0 with
 |none=>rw[a] at h;cases h
 |some n=>exact⟨n,a⟩,λ⟨n,h⟩=>by rw[h];rfl⟩
theorem sX (h:aH .i64 w sv l) (G:l.length<=1000000):ai x7 y2 [sv] w λv w'=>Ext w w'/\ ∃g,w.heap.size<=g/\ap .i64 ah w' g v l:=by
 refine aw func85 ?_;rw[aX ao.u h];refine kh (k:=.i64) am.u ah.i Ω Ω λg J H j p=>?_;have y:ap .i64 ah J g (.slice (σ ⟨g,0,ν⟩) l.length l.length) (p9 l.length 0):=by
  have:=bQ.full (k:=1) (n:=l.length) p Ξ (by simp[maxLen];omega);exact ap.of this
 rw[aX ao.u (h.ext j)];have I:=p.lt;refine ch.range l.length (λi U=>ae (λr=>r=g) J U/\ap .i64 ah U g (.slice (σ ⟨g,0,ν⟩) l.length l.length) (l.take i++p9 (l.length-i) 0)) h.le ⟨ae.refl _ _,by simpa using y⟩ ?_ ?_
 rotate_left
 .rintro U z ⟨f,a⟩;rw[aR,aj];rw[o5,U1,List.replicate_zero,X9] at a;exact⟨λh=>Ω,λ_=>⟨j.put f Ω,g,Ω,a⟩⟩
 rintro i U z hi ⟨f,a⟩ A;obtain⟨x,q⟩:=aI (l:=l) hi;have B:Ext w U:=j.put f Ω;refine bH Ω ?_;rw[bd ao.u al.i Ψ (h.ext B) q];rw[iK rfl am.u ah.i a Θ];refine iL ah.i a Θ λK C L s=>?_;rw[aP];refine A _ ⟨f.trans C,?_⟩;have e:(l.take i++p9 (l.length-i) 0).set i x=l.take (i+1)++p9 (l.length-(i+1)) 0:=by
  have E:(l.take i).length=i:=by rw[j5];omega
  rw[T2 _ _ Ω,E,U1,show l.length-i=(l.length-(i+1))+1 by omega,List.replicate_succ,List.set_cons_zero,u9,q,o7,c9];rfl
 rw[e] at s;exact s
def LN (w:x3) (l:Λ) (k o:Int) (v:x1) (w':x3):Prop:=
 Ext w w'/\(¬b5 l->v= .tuple #[.pointer ν,Δ 1])/\(b5 l->¬cw o k->v= .tuple #[.pointer ν,Δ 3])/\
  (b5 l->cw o k-> ∃g m sv gs,v= .tuple #[Γ g,Δ 0]/\w.heap.size<=g/\w.heap.size<=m/\(∀r,leads sv r->w.heap.size<=r)/\fF w' g m sv gs l k o [])
theorem LO {o:Int} (h:aH .i64 w sv l):ai x7 ox [sv,Δ k,Δ o] w (LN w l k o):=by
 refine aw func146 ?_;refine aU (λv J=>Ext w J/\ ∃c,v= .bool c/\(c=true↔¬b5 l)) ?_ ?_
 .rintro _ J ⟨e,c,rfl,f⟩;rw[bY];refine⟨λx=>⟨e,λ_=>rfl,λh=>absurd h (f.1 x),λh=>absurd h (f.1 x)⟩,λA=>?_⟩;have I:b5 l:=Classical.byContradiction λh=>by have:=f.2 h;rw[A] at this;cases this
  have K:=I.1;refine jG.mono ?_;rintro _ U _ ⟨rfl,a⟩;by_cases hi:cw o k
  rotate_left
  .simp only[hi,decide_false,bG,W5,bS];exact⟨e.trans a,λh=>absurd I h,λ_ _=>rfl,λ_ h=>absurd h hi⟩
  simp only[hi,decide_true,bG,Y4,aY];refine (kV ((h.ext e).ext a) Ω).mono ?_;rintro aM L _ ⟨y,B,M,hm⟩;have N:=hm.ls.cells;refine sE λm O P j C=>?_;rw[dp (cs:=#[aM,Δ k,Δ o,.map (σ m)]) (by obtain⟨_,_,_,_,_,rfl,_⟩:=hm.ls;kernel_rfl)];refine bm λg Q R q E=>?_;have S:=e.size;have V:=a.size;have W:=y.size;have X:=j.size;exact⟨((((e.trans a).trans y).trans j).trans q),λh=>absurd I h,λ_ h=>absurd hi h,λ_ _=>⟨g,m,aM,B,rfl,Ω,Ω,λr G=>by have:=(bP hm G).1;omega,E,(hm.ext j).ext q,C.ext q,I,hi,λp H=>by cases H⟩⟩
 .intro av z;rw[aX am.u h];simp only[bT,aj];refine⟨λY=>z _ _ ⟨Ext.refl _,true,rfl,λ_ I=>by have:=I.1;omega,λ_=>rfl⟩,λZ=>?_⟩;refine (Bi h).mono ?_;rintro _ U _ ⟨rfl,a⟩;refine z _ _ ⟨a,_,rfl,?_⟩;rw[decide_eq_true_eq];exact⟨λs I=>s I.2,λs I=>s ⟨Ω,I⟩⟩
structure Cg where
 ad:Λ
 k:Int
 o:Int
 D:Told
instance Q4:ak Cg where
 n:=1
 rep _ _ R w cs a:=∃g m sv gs,cs=[Γ g]/\fF w g m sv gs a.ad a.k a.o a.D/\R g/\R m/\ ∀r,leads sv r->R r
 len:=by rintro _ _ _ _ _ _ ⟨_,_,_,_,rfl,_⟩;rfl
 one:=by rintro _ _ _ _ _ _ ⟨_,_,_,_,rfl,_⟩ u hu;simp at hu;subst hu;rfl
 V:=by
  rintro _ _ R T w w' _ a ⟨g,m,sv,gs,rfl,h1,f,h,j⟩ z p;obtain⟨q,s,x⟩:=h1.qf;exact⟨g,m,sv,gs,rfl,h1.V z (p g q (.inr f)) (p m s (.inr h)) λr e=>p r (x r e) (.inr (j r e)),f,h,j⟩
 mono:=by
  rintro _ _ _ R R' w _ a ⟨g,m,sv,gs,rfl,h1,f,h,j⟩ _ y;obtain⟨q,s,x⟩:=h1.qf;exact⟨g,m,sv,gs,rfl,h1,y g q f,y m s h,λr e=>y r (x r e) (j r e)⟩
 hL:=by
  rintro _ _ R w _ a ⟨g,m,sv,gs,rfl,h1,f,h,j⟩;exact⟨g,m,sv,gs,rfl,h1,.inr f,.inr h,λr e=>.inr (j r e)⟩
abbrev gY:Type:=Rd (Λ)×Cg
def qz (k:Int) (x:cv) (f:gY):Prop:=f.1=x.scope/\f.2.ad=x.sizes/\f.2.k=k/\f.2.o=min x.other k/\f.2.D.length<=x.lines.length/\ ∀t,ii f.2.D f.2.o t=jJ x k t
theorem LP {m:Bool} {S R:ag} {x:cv} (h:ak.rep m S R w cs (gX x)):∃aF szv b7,cs=[aF,szv,Δ x.other,b7]/\ak.rep (α:=Λ) false bC R w [aF] x.scope/\ak.rep (α:=Λ) false bC R w [szv] x.sizes/\ak.rep (α:=List (Λ×Int)) false bC R w [b7] x.lines:=by
 obtain⟨j,d1,r,eh,rfl,_,_,_,h1,p,d2,s,ew,rfl,_,_,_,a,q,d3,z,A,rfl,_,_,_,f,e⟩:=h;have h1:ak.rep (α:=Λ) false bC R w j x.scope:=h1;have a:ak.rep (α:=Λ) false bC R w p x.sizes:=a;have f:q=[Δ x.other]:=f;have e:ak.rep (α:=List (Λ×Int)) false bC R w d3 x.lines:=e;obtain⟨u,rfl⟩:=W8.1 (show j.length=1 from ak.len h1);obtain⟨v,rfl⟩:=W8.1 (show p.length=1 from ak.len a);obtain⟨y,rfl⟩:=W8.1 (show d3.length=1 from ak.len e);subst f;exact⟨u,v,y,rfl,h1,a,e⟩
theorem LQ {m:Bool} {S R:ag} {p:Λ×Int} (h:ak.rep m S R w cs p):∃aM,cs=[aM,Δ p.2]/\aH .i64 w aM p.1:=by
 obtain⟨e,d1,f,eh,rfl,_,_,_,h1,a⟩:=h;obtain⟨u,rfl⟩:=W8.1 (show e.length=1 from ak.len h1);have a:d1=[Δ p.2]:=a;subst a;exact⟨u,rfl,cU h1⟩
structure sY (k:Int) (x:cv):Prop where
 k:right k
 sizes:b5 x.sizes
 other:0<=x.other
 lines:mC x.sizes x.lines
 len:x.lines.length<=60000
 scope:x.scope.length<=100001
theorem ds {k:o6} (h:aH k w v l):∃a n c,v= .slice a n c:=by
 obtain⟨_,b,o,base,cap,rfl,_⟩:=h;exact⟨_,_,_,rfl⟩
theorem LR {al:Nat} {aN aQ aR:x1} {K:Int} {R:ag} {x:cv} (am:ab w al cC [aN,Δ K,aQ,aR]) (aS:Seen R w cs (gX x)) (aT:sY K x):
  ai x7 uU [Γ al,.agg cs.toArray] w λv w'=>Ext w w'/\ ∃bt,∃f:gY,v= .agg bt.toArray/\bt.length=2/\Seen (eL w.heap.size) w' bt f/\qz K x f:=by
 obtain⟨aF,szv,b7,rfl,h1,ao,Q⟩:=LP aS;obtain⟨H,S,bp,aq,bq,br⟩:=aT;have bu:x.sizes.length<=6:=S.1;refine aw func86 ?_;refine bm λan J bw au q=>?_;have q:ab J an b4 [aF,szv,Δ x.other,b7]:=by
  obtain⟨_,_,_,rfl⟩:=lY h1;obtain⟨_,_,_,rfl⟩:=lY ao;obtain⟨_,_,_,rfl⟩:=lY Q;exact q
 refine bB cD.i λy U bA W I=>?_;have I:ab U y cD [.slice ν 0 0,.pointer ν]:=I;intro bD L _ _;have X:=(au.trans W).trans L;have Y:=W.trans L;have bE:=au.size;have bF:=W.size;have z3:=L.size;have bG:=I.lt;have av:=am.ext X;rw[aA b4.p 1 (q.ext Y) rfl,aO cC.p 1 av rfl,
  aA b4.p 2 (q.ext Y) rfl,aO cC.p 1 av rfl,kR]
 refine (sX ((cU ao).ext X) Ω).mono ?_;rintro bI bJ _ ⟨z,bK,bL,aU⟩;refine⟨.inl z,?_⟩;have z4:=z.size;have aV:cw (min x.other K) K:=⟨H,by have:=H.1;omega,Ω⟩;refine (LO aU.ls).mono ?_;rintro _ aW _ ⟨M,_,_,aX⟩;obtain⟨af,m,sv,gs,rfl,bM,bN,ax,aY⟩:=aX S aV;rw[bx,bz];have z5:=M.size;have Z:=(X.trans z).trans M;have ay:=(Y.trans z).trans M;rw[aA b4.p 3 (q.ext ay) rfl];have az:=bc Q Z;rw[fA iC.u az];refine ch.range x.lines.length (λi a=>ae (λr=>r=m) aW a/\ ∃D,D.length<=i/\fF a af m sv gs x.sizes K (min x.other K) D/\ ∀t,ii D (min x.other K) t=k8 x K i t) (nv az) ⟨ae.refl _ _,[],o4 _,aY,λt=>by rw[B5];rfl⟩ ?_ ?_
 .rintro i a aZ hi ⟨e,D,aB,A,aa⟩ a1;obtain⟨p,ac⟩:=aI (l:=x.lines) hi;have aC:=aq.2 p (x5 ac);have B:Ext w a:=Z.put e Ω;have a2:=e.size;have a6:ak.rep (α:=List (Λ×Int)) false bC R a [b7] x.lines:=bc Q B;refine bH Ω ?_;refine kj ee.p rfl iC.u ee.i a6 ac λbO a7=>?_;obtain⟨aM,rfl,aD⟩:=LQ a7;refine bB ee.i λbQ bR bS aE a8=>?_;have bT:=aE.size;refine b3 (vs:=[aM,Δ p.2]) ee.i rfl rfl (by intro v C;simp at C;rcases C with rfl|rfl<;>first|exact aD.cells.2|rfl) a8 λba bb bU aG=>?_;have bd:Ext a ba:=aE.put bb Ω;intro bV ad _ _;have s:=bd.trans ad;have z9:=s.size;rw[aA ee.p 0 (aG.ext ad) rfl,aA ee.p 1 (aG.ext ad) rfl,aO cC.p 1 ((am.ext B).ext s) rfl,kR];have bW:=vI S aC.1;refine (sX (aD.ext s) Ω).mono ?_;rintro bX bY _ ⟨E,bZ,b0,be⟩;refine⟨.inl E,?_⟩;have b1:=E.size;refine (Bq (c:=min p.2 K) ((A.ext s).ext E).is be.ls).mono ?_;rintro _ b2 _ ⟨_,bf⟩;have bg:cw (min p.2 K) K:=⟨H,by have:=H.1;omega,Ω⟩;obtain⟨rfl,aH,D',aJ,aK⟩:=bf ⟨aC.1,bg⟩;rw[aP];refine a1 _ ⟨(e.trans ((s.trans E).V _)).trans aH,D',by have:=aJ.2;omega,fF.put ((A.ext s).ext E) aH aK,λt=>?_⟩;rw[B7 aq.1 ac,aJ.cost A.is.nodup aK.nodup];by_cases N:t=p.1
  .rw[if_pos N,if_pos N]
  .rw[if_neg N,if_neg N,aa]
 .rintro a aZ ⟨e,D,aB,A,aa⟩;have B:Ext w a:=Z.put e Ω;have bh:Ext J a:=ay.put e Ω;have a2:=e.size;refine cd Ω ?_;rw[aA b4.p 0 (q.ext bh) rfl];refine (sX ((cU h1).ext B) Ω).mono ?_;rintro O b5 _ ⟨P,bi,b6,G⟩;have z12:=P.size;rw[dp (cs:=#[O,Γ af]) (by obtain⟨_,_,_,rfl⟩:=ds G.ls;kernel_rfl)];have bj:Ext U a:=((L.trans z).trans M).put e Ω;refine b3 (vs:=[O,Γ af]) cD.i rfl rfl (by intro v C;simp at C;rcases C with rfl|rfl<;>first|exact G.ls.cells.2|rfl) ((I.ext bj).ext P) λaL aj b8 bk=>?_;rw[fz cD.p cD.i rfl bk.range];have bl:fF aL af m sv gs x.sizes K (min x.other K) D:=(A.ext P).V aj (λhe=>by have he:af=y:=he;omega) (λhe=>by have he:m=y:=he;omega) (λr j he=>by have he:r=y:=he;have:=ax r j;omega);have bo:ap .i64 ah aL bi O x.scope:=bn G aj λr j he=>by have he:r=y:=he;have:=(bP G j).1;omega
  refine⟨(B.trans P).put aj Ω,_,(x.scope,⟨x.sizes,K,min x.other K,D⟩),rfl,rfl,?_,rfl,rfl,rfl,rfl,aB,λt=>?_⟩
  .exact⟨[O],[Γ af],bC,bC,rfl,λ_ h=>h,λ_ h=>h,λ_ _ h _=>h,qv bo λr j=>by have:=(bP G j).1;show w.heap.size<=r;omega,
    ⟨af,m,sv,gs,rfl,bl,by show w.heap.size<=af;omega,by show w.heap.size<=m;omega,λr j=>by have:=ax r j;show w.heap.size<=r;omega⟩⟩
  .rw[aa,B6]
theorem LS {S R:ag} {f:gY} (h:ak.rep false S R w cs f):ak.rep (α:=gY) true bC R w cs f:=by
 obtain⟨c,d,A,B,rfl,h1,j,_,a,e⟩:=h;exact⟨c,d,bC,bC,rfl,λ_ h=>h,λ_ h=>h,λ_ _ h _=>h,a,e⟩
def sZ (k:Int) (a:List cv) (e:List gY):Prop:=e.length=a.length/\ ∀ (i:Nat) x f,a[i]? =σ x->e[i]? =σ f->qz k x f
theorem LU {e:Nat} {m:Bool} {S R:ag} {W am:x1} {K:Int} {q:List cv} {aD:x3->Prop} (aE:ab w e cC [W,Δ K,szv,.slice ν 0 0])
  (aW:ak.rep m S R w [am] (show List hx from q.map gX)) (aX:∀r,S r\/R r->r≠e) (aY:∀x∈q,sY K x) (bR:q.length<=256)
  (aZ:∀w' z,∀s:List gY,ae (λr=>r=e) w w'->ab w' e cC [W,Δ K,szv,z]->Seen (λr=>w.heap.size<=r) w' [z] s->sZ K q s->aD w'):
  ch (Δ 0) w λao E a1=>
   aa x7 (aJ .lss ah false false ao (Δ (q.length:Int))) E λa2=>
   Split a2 (aa x7 (c7 jf am ao) E λa6=>
   aa x7 (u5 b4 a6) E λa7=>
   ax x7 (T7 b4 true (.tuple #[])) E λx a8=>
   ax x7 (o8 b4 x a7) a8 λ(_:Unit) ba=>
   eo ba λC=>
   aa x7 (bO (Γ e)) C λG=>
   aa x7 (u6 cC G 3) C λH=>
   aa x7 (u5 dK H) C λap=>
   aa x7 (u5 b4 x) C λbb=>
   ai x7 uU [(Γ e),bb] C λbd I=>
    (Ext C I\/ci x7 (u5 dK H) ap I/\ci x7 (u6 cC G 3) H I/\ci x7 (bO (Γ e)) G I/\True)/\
   ax x7 (Y1 dK 1 #[(0,bd)]) I λbe L=>
    (Ext C L\/ci x7 (u5 dK H) ap L/\ci x7 (u6 cC G 3) H L/\ci x7 (bO (Γ e)) G L/\True)/\
    ax x7 (b8 #[dK,dK] dK #[ap,be]) L λbf aq=>
     aa x7 (bO (Γ e)) aq λbg=>
     aa x7 (u6 cC bg 3) aq λbh=>
     ax x7 (o8 dK bh bf) aq λ(_:Unit) aF=>
     aa x7 (aJ .add ah false true ao (Δ 1)) aF λbi=>
   a1 bi aF) (aD E):=by
 have bS:=aE.lt;have bT:(q.map gX).length=q.length:=Ξ
 refine ch.range q.length (λi J=>ae (λr=>r=e) w J/\ ∃z,∃s:List gY,∃A R':ag,ab J e cC [W,Δ K,szv,z]/\bj A R' J [z] s/\(∀r,A r->w.heap.size<=r/\r<J.heap.size)/\(∀r,R' r->w.heap.size<=r/\¬A r/\r<J.heap.size)/\sZ K (q.take i) s) Ω
  ⟨ae.refl _ _,_,[],bC,bC,aE,gh,λ_ h=>h.elim,λ_ h=>h.elim,rfl,λi x f h=>by simp at h⟩ ?_ ?_
 rotate_left
 .rintro J bk ⟨M,z,s,A,R',N,au,B,O,X⟩;rw[o5] at X;rw[aR,aj];refine⟨λh=>Ω,λ_=>aZ J z s M N (nt au λr _ h=>?_) X⟩;exact h.elim (λh=>(B r h).1) λh=>(O r h).1
 rintro i J bk hi ⟨M,z,s,A,R',N,au,B,O,aG,X⟩ bl;obtain⟨x,av⟩:=aI (l:=q) hi;have bm:=aY x (x5 av);have bU:=M.size;rw[j5] at aG;have bn:ak.rep m S R J [am] (show List hx from q.map gX):=ak.V aW M λr _ h he=>aX r h he;refine bH Ω ?_;refine kj (α:=hx) (a:=gX x) b4.p rfl jf.u b4.i bn (by show (q.map gX)[i]? =_;rw[x8,av];rfl) λcs aw=>?_;have aH:cs.length=4:=ak.len aw;have bp:Seen (λr=>S r\/R r) J cs (gX x):=nt aw λr _ h=>h;refine bB b4.i λan U bV aK bq=>?_;have bW:=aK.size;refine b3 (vs:=cs) b4.i aH rfl (ak.one aw) bq λbr bu bX bw=>?_;have bx:Ext J br:=aK.put bu Ω;intro Y aL _ _;have P:=bx.trans aL;have z4:=P.size;rw[aO cC.p 3 (N.ext P) rfl,bD b4.p b4.i aH (bw.ext aL).range];refine (LR (N.ext P) (bc bp P) bm).mono ?_;rintro _ Z _ ⟨ac,bt,f,rfl,bY,aM,bz⟩;have z5:=ac.size;refine⟨.inl ac,?_⟩;have aN:=LS aM;have bA:=P.trans ac;refine iH (α:=gY) (a:=f) (cs:=bt) (A:=bC) (R:=eL Y.heap.size) dK.u cD.i Φ (by
  obtain⟨c,d,b0,ew,he,_,_,_,ad,bE⟩:=aM;have ad:ak.rep (α:=Λ) false bC _ Z c f.1:=ad;obtain⟨u,rfl⟩:=W8.1 (show c.length=1 from ak.len ad);obtain⟨b1,cn,b2,b5,rfl,_⟩:=bE;obtain⟨_,_,_,rfl⟩:=lY ad;cases he;rfl) aN λu ay af _ hu=>?_
 have b6:=af.size;refine⟨.inl (ac.trans af),?_⟩;have az:=bA.trans af;have bF:bj A (λr=>R' r\/(Y.heap.size<=r/\r<Z.heap.size)) ay [z] s:=bc (ak.mono au (λ_ _ h=>h) λ_ _ h=>.inl h) az;have bG:bj bC (λr=>R' r\/(Y.heap.size<=r/\r<Z.heap.size)) ay bt f:=bc (ak.mono aN (λ_ _ h=>h) λr y h=>.inr ⟨h,y⟩) af;refine nx (α:=gY) (a:=f) (A:=bC) dK.u cD.i rfl bF hu bG (λr _ aS h=>?_) Ω Ω λaT bI aA aB=>?_
 .rcases h with h|h|h
  .exact h
  .exact (O r h).2.1 aS
  .have:=(B r aS).2;omega
 have b7:=aB.size;rw[bZ,aQ cC.p rfl];have bJ:=(N.ext az).V aB (λhe=>by have:=(B _ he).1;omega);refine bo (g:=e) (o:=3) dK.i (kT aA) (e6 aA) bJ Ξ λbK aU b9 aC=>?_;have aC:ab bK e cC [W,Δ K,szv,aT]:=aC;rw[aP];have bL:=mv aA;refine bl _ ⟨(hr (M.trans (az.V _)) aB λr y he=>by have:=(B _ he).1;omega).trans aU,aT,s++[f],λr=>((A r\/bC r\/ay.heap.size<=r)/\r<bI.heap.size),λr=>R' r\/(Y.heap.size<=r/\r<Z.heap.size),aC,ak.V bL aU λr _ h he=>?_,λr y=>?_,λr y=>?_,?_,λj bM bN al Q=>?_⟩
 .have he:r=e:=he;rcases h with h|h|h
  .rcases h.1 with h1|h1|h1
   .have:=(B _ h1).1;omega
   .exact h1
   .omega
  .have:=(O r h).1;omega
  .omega
 .have ca:=y.2;rcases y.1 with h1|h1|h1
  .have:=(B _ h1).1;omega
  .exact h1.elim
  .omega
 .rcases y with y|y
  .have aV:=O r y;refine⟨aV.1,λh=>?_,Ω⟩;rcases h.1 with h1|h1|h1
   .exact aV.2.1 h1
   .exact h1
   .omega
  .refine⟨Ω,λh=>?_,Ω⟩;rcases h.1 with h1|h1|h1
   .have:=(B _ h1).2;omega
   .exact h1
   .omega
 .rw[p8,j5,aG];simp;omega
 .have bP:=(x4.1 Q).1;rw[p8,U6] at bP;rw[Y8 Ω] at al;by_cases bQ:j<s.length
  .rw[Z8 bQ] at Q;exact X j bM bN (by rw[Y8 Ω];exact al) Q
  .rw[Z9 Ω,show j-s.length=0 by omega] at Q;rw[show j=i by omega,av] at al;cases Q;cases al;exact bz
def k9 (w:x3) (h:Nat) (f:b6):Prop:=∃szv a gz,∃e:List gY,ab w h cC [bU f.name,Δ f.k,szv,a]/\ap .i64 ah w gz szv f.sizes/\Seen dg w [a] e/\sZ f.k f.funs e
theorem k9.ext {e:Nat} {f:b6} (h:k9 w e f) (a:Ext w w'):k9 w' e f:=by
 obtain⟨szv,j,gz,p,h1,q,r,s⟩:=h;exact⟨szv,j,gz,p,h1.ext a,q.ext a,bc r a,s⟩
def Ch (w:x3) (res:Option b6) (v:x1) (w':x3):Prop:=Ext w w'/\match res with
 |none=>∃n e:Int,v= .tuple #[.pointer ν,Δ n,Δ e]/\e≠0
 |some f=>∃a,∃n:Int,v= .tuple #[Γ a,Δ n,Δ 0]/\k9 w' a f
structure LV (clean:Bool) (so:Option aD) (name:Λ) (k:Int) (sizes:Λ) (acc:List hx) (res:Option b6):Prop where
 oX:∀s,so=σ s->s.toks=[]->clean=true->s.big=false-> ∃fs,acc=fs.map gX/\res=σ ⟨name,k,sizes,fs⟩/\(∀x∈fs,sY k x)/\fs.length<=256/\sizes.length<=1000000
 bad:res≠ν-> ∃s,so=σ s/\s.toks=[]/\clean=true/\s.big=false
theorem LW {w0:x3} {g:Nat} {A B S R:ag} {m:Bool} {so:Option aD} {name:Λ} {acc:List hx} {res:Option b6} {aq p:x1} {pl:Λ} {Q:x1->x3->Prop}
  (aE:gW w g gs A B clean so) (N:LV clean so name k sizes acc res) (bn:aH .i64 w szv sizes) (bo:∀r,leads szv r->r≠g/\r≠gs) (bp:ak.rep m S R w [aq] acc) (a2:∀r,S r\/R r->r≠g/\r≠gs/\r<w.heap.size)
  (cZ:so=ν->True) (c0:g<w.heap.size) (c1:gs<w.heap.size) (bq:ae (λr=>w0.heap.size<=r) w0 w) (c2:w0.heap.size<=g) (c3:w0.heap.size<=gs) (br:aH .u8 w0 p pl)
  (Z:∀v w',Ch w0 res v w'->Q v w'):
  cm (α:=x3->Prop) (λ(j:x3)=>
  aa x7 (bO (Γ g)) j λbt=>
  aa x7 (u6 cg bt 1) j λbu=>
  aa x7 (u6 eX bu 0) j λbw=>
  aa x7 (u5 jA bw) j λbx=>
  aa x7 (aJ .neq jA false true bx (Δ 0)) j λbz=>
  Split bz (eo j λG=>
   aa x7 (bO (Γ g)) G λbA=>
   aa x7 (u6 cg bA 1) G λbB=>
   aa x7 (u6 eX bB 2) G λbC=>
   aa x7 (u5 ah bC) G λbD=>
   aa x7 (bO (Γ g)) G λbE=>
   aa x7 (u6 cg bE 1) G λbF=>
   aa x7 (u6 eX bF 0) G λbG=>
   aa x7 (u5 jA bG) G λbH=>
   Q (.tuple #[(.pointer ν),bD,bH]) G)
   (aa x7 (bO (Γ g)) j λbI=>
   aa x7 (u6 cg bI 1) j λbJ=>
   aa x7 (u6 eX bJ 1) j λbK=>
   aa x7 (u5 jA bK) j λbM=>
   aa x7 (aJ .neq jA false true bM (Δ 0)) j λbN=>
   Split bN (eo j λH=>
   aa x7 (bO (Γ g)) H λbP=>
   aa x7 (u6 cg bP 1) H λbQ=>
   aa x7 (u6 eX bQ 3) H λbR=>
   aa x7 (u5 ah bR) H λbT=>
   aa x7 (bO (Γ g)) H λbV=>
   aa x7 (u6 cg bV 1) H λbW=>
   aa x7 (u6 eX bW 1) H λbX=>
   aa x7 (u5 jA bX) H λbY=>
   Q (.tuple #[(.pointer ν),bT,bY]) H)
   (ai x7 y2 [szv] j λb0 a6=>
  aa x7 (Instr.build cC #[(0,bU name),(1,Δ k),(2,b0)]) a6 λb1=>
  ax x7 (Instr.box cC b1) a6 λO a7=>
  aa x7 (W7 #[jf] ah #[aq]) a7 λb2=>
  ch (Δ 0) a7 λaF P b3=>
   aa x7 (aJ .lss ah false false aF b2) P λb5=>
   Split b5 (aa x7 (c7 jf aq aF) P λb7=>
   aa x7 (u5 b4 b7) P λb9=>
   ax x7 (T7 b4 true (.tuple #[])) P λx ca=>
   ax x7 (o8 b4 x b9) ca λ(_:Unit) cb=>
   eo cb λM=>
   aa x7 (bO O) M λac=>
   aa x7 (u6 cC ac 3) M λad=>
   aa x7 (u5 dK ad) M λaG=>
   aa x7 (u5 b4 x) M λcc=>
   ai x7 uU [O,cc] M λcd af=>
    (Ext M af\/ci x7 (u5 dK ad) aG af/\ci x7 (u6 cC ac 3) ad af/\ci x7 (bO O) ac af/\True)/\
   ax x7 (Y1 dK 1 #[(0,cd)]) af λce al=>
    (Ext M al\/ci x7 (u5 dK ad) aG al/\ci x7 (u6 cC ac 3) ad al/\ci x7 (bO O) ac al/\True)/\
    ax x7 (b8 #[dK,dK] dK #[aG,ce]) al λcj aI=>
     aa x7 (bO O) aI λck=>
     aa x7 (u6 cC ck 3) aI λcl=>
     ax x7 (o8 dK cl cj) aI λ(_:Unit) a8=>
     aa x7 (aJ .add ah false true aF (Δ 1)) a8 λcn=>
   b3 cn a8)
    (aa x7 (W7 #[cP] ah #[p]) P λcp=>
  Q (.tuple #[O,cp,(Δ 0)]) P)))) λau=>
 ai x7 kM [(Γ g)] w λcq am=>
 Split cq (aa x7 (bO (Γ g)) am λcr=>
  aa x7 (u6 cg cr 0) am λct=>
  aa x7 (u5 rV ct) am λcu=>
  ai x7 uT [cu] am λaK L=>
  aa x7 (Z7 aK 0) L λc4=>
  aa x7 (Z7 aK 1) L λba=>
  aa x7 (Z7 aK 2) L λaL=>
  aa x7 (aJ .eql jA false true aL (Δ 0)) L λcw=>
  Split cw (ai x7 nj [(Γ g),(Δ 4),ba] L λc5 cz=>
  au cz)
  (aa x7 (aJ .eql jA false true aL (Δ 11)) L λcA=>
  Split cA (ai x7 nj [(Γ g),aL,ba] L λc6 cB=>
   au cB)
   (au L)))
  (au am):=by
 refine dm (λj=>ae (λr=>r=g\/r=gs) w j/\ ∃ (e big I K told:Int) (sv:x1),ab j g cg (fD gs e big I K told sv)/\((e≠0/\res=ν)\/(e=0/\ ∃s,so=σ s/\s.toks=[]/\clean=true/\(s.big=true↔big≠0)))) ?_ ?_
 rotate_left
 .intro av aM;refine (BQ aE).mono ?_;rintro _ J _ ⟨rfl,an⟩;cases so with
  |none=>
   rw[show (ν:Option aD).isSome=false from rfl,aY];obtain⟨e,big,I,K,told,sv,y,aN⟩:=aE.ext an;refine aM _ ⟨an.V _,e,big,I,K,told,sv,y,.inl ⟨aN,?_⟩⟩;cases E:res with
   |none=>rfl
   |some f=>obtain⟨s,h,_⟩:=N.bad (by rw[E];simp);cases h
  |some s=>
   rw[show (σ s:Option aD).isSome=true from rfl,bS];have cD:dl J g gs A B s clean:=aE.ext an;obtain⟨aw,cE,cF,big,I,K,told,sv,y,aN,cG⟩:=id cD;rw[aO cg.p 0 y rfl];refine (qd cE).mono ?_;rintro v U _ ⟨W,X⟩;have cH:(s.toks≠[]\/clean=false)->res=ν:=λq=>by
    cases E:res with
    |none=>rfl
    |some f=>
     obtain⟨s',h,ao,bb,_⟩:=N.bad (by rw[E];simp);cases h;rcases q with q|q
     .exact absurd ao q
     .rw[q] at bb;cases bb
   have ay:∀z,ae (λr=>r=g) U z->eC z g gs A B->(s.toks≠[]\/clean=false)->av z:=λz ap ay q=>by
    obtain⟨_,e,big,I,K,told,sv,l,cI,cJ,_⟩:=ay;exact aM _ ⟨((an.V _).trans (W.mono λr _ h=>.inr h)).trans (ap.mono λr _ h=>.inl h),e,big,I,K,told,sv,cI,.inl ⟨cJ.1,cH q⟩⟩
   have aP:=y.V W aw.1;have bd:=ak.V cG W λr _ h ao=>by
    have ao:r=gs:=ao;subst ao;rcases h with h|h
    .exact aw.2.2.1 h
    .exact h.1 (.inr (.inl rfl))
   have be:s.shared.length<=100000:=by have:=cF.2.2;omega
   cases Y:s.toks with
   |cons t l=>
    rw[Y] at X;obtain⟨c8,n,rfl⟩:=X;rw[h6,h7,h8,bh,aj];refine⟨λ_=>?_,λh=>absurd rfl h⟩;refine (sw (aw.V W) aP bd Ω be).mono ?_;rintro _ z _ ⟨ap,aR⟩;exact ay z ap aR (.inl (by rw[Y];simp))
   |nil=>
    rw[Y] at X;obtain⟨n,rfl⟩:=X;rw[h6,h7,h8,bh,aj];refine⟨λh=>by cases clean<;>simp at h,λ_=>?_⟩;rw[bh,aj];cases az:clean with
    |true=>
     subst az;refine⟨λh=>by simp at h,λ_=>aM _ ⟨(an.V _).trans (W.mono λr _ h=>.inr h),0,big,I,K,told,sv,aP,.inr ⟨rfl,s,rfl,Y,rfl,aN.1⟩⟩⟩
    |false=>
     subst az;refine⟨λ_=>?_,λh=>absurd rfl h⟩;refine (sw (aw.V W) aP bd Ξ be).mono ?_;rintro _ z _ ⟨ap,aR⟩;exact ay z ap aR (.inr rfl)
 .rintro J ⟨aA,e,big,I,K,told,sv,y,cK⟩;have c9:=aA.size;have aS:Ext w0 J:=(bq.ext λr E h=>Ω).then aA (λr E h=>by rcases h with h|h<;>omega);rw[bZ,aQ cg.p rfl,aQ eX.p rfl,aB Ψ (y.cell (o:=0+1+0) rfl),bL,aj];rcases cK with⟨he,aT⟩|⟨rfl,s,rfl,Y,az,bf⟩
  .refine⟨λ_=>?_,λh=>absurd he h⟩;intro U C _ _;rw[bZ,aQ cg.p rfl,aQ eX.p rfl,aB Ψ ((y.ext C).cell (o:=0+1+2) rfl),bZ,aQ cg.p rfl,aQ eX.p rfl,aB Ψ ((y.ext C).cell (o:=0+1+0) rfl)];rw[aT] at Z;exact Z _ _ ⟨aS.trans C,I,e,rfl,he⟩
  .refine⟨λh=>absurd rfl h,λ_=>?_⟩;rw[bZ,aQ cg.p rfl,aQ eX.p rfl,aB Ψ (y.cell (o:=0+1+1) rfl),bL,aj];refine⟨λq=>?_,λq=>?_⟩
   .have aT:res=ν:=by
     cases E:res with
     |none=>rfl
     |some f=>
      obtain⟨s',h,_,_,bg⟩:=N.bad (by rw[E];simp);cases h;rw[bf.2 q] at bg;cases bg
    intro U C _ _;rw[bZ,aQ cg.p rfl,aQ eX.p rfl,aB Ψ ((y.ext C).cell (o:=0+1+3) rfl),bZ,aQ cg.p rfl,aQ eX.p rfl,aB Ψ ((y.ext C).cell (o:=0+1+1) rfl)];rw[aT] at Z;exact Z _ _ ⟨aS.trans C,K,big,rfl,q⟩
   .have cL:s.big=false:=by
     cases cM:s.big with
     |false=>rfl
     |true=>exact absurd (bf.1 cM) q
    obtain⟨aU,rfl,rfl,cN,cO,cQ⟩:=N.oX s rfl Y az cL;have cR:aH .i64 J szv sizes:=hS bn aA λr E a n c X N=>by
     have:=bo r ⟨a,n,c,X,N⟩;exact E.elim this.1 this.2
    refine (sX cR cQ).mono ?_;rintro aV U _ ⟨C,gz,da,aW⟩;have db:=C.size;rw[dp (cs:=#[bU name,Δ k,aV,.slice ν 0 0]) (by obtain⟨_,_,_,rfl⟩:=ds aW.ls;kernel_rfl)];refine bm λaZ z dc a1 aC=>?_;have aC:ab z aZ cC [bU name,Δ k,aV,.slice ν 0 0]:=by obtain⟨_,_,_,rfl⟩:=ds aW.ls;exact aC
    have bi:ak.rep m S R z [aq] (show List hx from aU.map gX):=bc (bc (ak.V bp aA λr _ h he=>by have:=a2 r h;exact he.elim this.1 this.2.1) C) a1;have cS:(aU.map gX).length=aU.length:=Ξ
    rw[fA jf.u bi,cS];refine LU aC bi (λr h=>by have:=a2 r h;omega) cN cO λbj cT cU cV cW cX cY=>?_;have dd:=aC.lt;have z3:=a1.size;have bk:Ext U bj:=a1.then cV (λr E h=>by have h:r=aZ:=h;omega);have bl:Ext w0 bj:=(aS.trans C).trans bk;rw[aX cP.u (br.ext bl)];exact Z _ _ ⟨bl,aZ,_,rfl,aV,cT,gz,cU,cW,aW.ext bk,gU cX,cY⟩
theorem Ci {α:Type} {f:List α->aD->Option (α×aD)} {acc:List α} {s:aD}:fm f (n+1) acc (σ s)=match f acc s with
  |none=>ν
  |some (a,s')=>fm f n (acc++[a]) (σ s'):=by
 show cQ f (n+1) acc s=_;simp only[cQ];cases f acc s<;>rfl
theorem LX {g:Nat} {A B:ag} {s:Option aD} {most:Int} {O:x1->x3->Prop} (h:dr w g gs A B clean s) (az:(N:Int)<=aq)
  (P:∀szv w' l so gz,ae (bE g gs A) w w'->dr w' g gs A B clean so->ap .i64 al w' gz szv l->w.heap.size<=gz->l.length<=100001->(∀q,fm (fO most) N [] s=σ q->so=σ q.2/\l=q.1)->(fm (fO most) N [] s=ν->so=ν)->O szv w'):
 b1 (.slice ν 0 0) (Δ 0) w λsizes i E k=>
  cm (α:=x1->x3->Prop) (λ(aA:x1) (Q:x3)=>
   Split aA (ai x7 ni [Γ g,(Δ 1),Δ most] Q λR x=>
  aa x7 (Z7 R 0) x λS=>
  aa x7 (Z7 R 1) x λaB=>
  aa x7 (aJ .gtr al false true S (Δ 32)) x λaC=>
  ai x7 pM [Γ g,aC,aB] x λbm aE=>
  ax x7 (Y1 ao 1 #[(0,S)]) aE λaF aG=>
  ax x7 (b8 #[ao,ao] ao #[sizes,aF]) aG λaH W=>
  aa x7 (aJ .add al false true i (Δ 1)) W λaI=>
  k aH aI W) (O sizes Q)) λav=>
  aa x7 (aJ .lss al false false i (Δ (N:Int))) E λaK=>
  Split aK (ai x7 kM [Γ g] E λaL aM=>
  av aL aM)
   (av (.bool false) E):=by
 obtain⟨bo,X,bp,aN,aO⟩:=h.side;have af:∀r,bE g gs A r->r<w.heap.size:=aN;unfold aq at az;generalize aQ:fm (fO most) N [] s=Y at P;refine⟨λout G J=>∃ (i:Nat) (l:Λ) (so:Option aD) (gz:Nat),G=Δ (i:Int)/\i<=N/\ae (bE g gs A) w J/\ap .i64 al J gz out l/\w.heap.size<=gz/\dr J g gs A B clean so/\Y=fm (fO most) (N-i) l so/\l.length<=100001/\ ∀st,so=σ st->l.length+st.toks.length<=100000,
  λ_ G _=>N-(b2 G).toNat,⟨0,[],s,w.heap.size,rfl,X3 _,ae.refl _ _,ap.nil _ _ _ _,o4 _,h,aQ.symm,Ξ,λst aS=>?_⟩,?_⟩
 .subst aS;have:=h.words;simpa using this
 rintro out _ J ⟨i,l,so,gz,rfl,bq,H,Z,aT,ab,y,aV,ac⟩;refine aU (λv ad=>Ext J ad/\((v= .bool true/\i<N/\ ∃st,so=σ st)\/(v= .bool false/\(so=ν\/i=N)))) ?_ ?_
 rotate_left
 .intro av I;rw[aR,aj];refine⟨λaW=>?_,λbr=>I _ _ ⟨Ext.refl _,.inr ⟨rfl,.inr Ω⟩⟩⟩;refine (o2 ab).mono ?_;rintro _ ad _ ⟨rfl,ah⟩;cases so with
  |none=>exact I _ _ ⟨ah,.inr ⟨rfl,.inl rfl⟩⟩
  |some st=>exact I _ _ ⟨ah,.inl ⟨rfl,Ω,st,rfl⟩⟩
 rintro _ U ⟨p,aX⟩;have ak:=Z.ext p;have am:=ab.ext p;rcases aX with⟨rfl,aW,st,rfl⟩|⟨rfl,aZ⟩
 rotate_left
 .rw[aY];have an:Y=so.map λst=>(l,st):=by
   rcases aZ with rfl|rfl
   .exact y
   .rw[U1] at y;rw[y];cases so<;>rfl
  refine P out U l so gz (H.trans (p.V _)) am ak aT aV (λq f=>?_) λau=>?_
  .rw[an] at f;cases so with
   |none=>cases f
   |some st=>cases f;exact⟨rfl,rfl⟩
  .rw[an] at au;cases so with
   |none=>rfl
   |some st=>cases au
 rw[bS];have ac:=ac st rfl;refine (lX (s:=σ st) am).mono ?_;rintro _ bt _ ⟨K,z,at_,rfl,a1,bu⟩;obtain⟨L,a2⟩:=K.of;rw[bx,bz,bT];refine (qt a2).mono ?_;rintro _ bw _ K;obtain⟨M,a6⟩:=K.of;refine ep ao.u al.i rfl λa ga a7 bA C ba=>?_;have bB:=H.size;have bC:=p.size;have z3:=L.size;have z4:=M.size;have z5:=C.size;have aw:∀r,leads out r->¬bE g gs A r:=λr j bb=>by have:=af r bb;have:=(bP Z j).1;omega
 have bc:=bn (bn ak L aw) M aw;refine jk ao.u al.i rfl (bc.ext C) ba.ls Θ Θ λbD bd be bF bg ay=>?_;rw[aP,wrap_i64 Ω Ω];have bh:ae (bE g gs A) w a7:=((((H.trans (p.V _)).trans L).trans M).trans (C.V _));have bi:ae (bE g gs A) w be:=hr bh ay λr j he=>by have he:r=gz:=he;omega
 have bj:∀r,bE g gs A r->¬(λr=>r=gz) r:=λr j he=>by have:=af r j;have he:r=gz:=he;omega
 have bk:∀r,cG g gs A B r->¬(λr=>r=gz) r:=λr j he=>by have:=aO r j.2;have he:r=gz:=he;omega
 refine⟨⟨i+1,l++[z],_,bd,rfl,Ω,bi,bg,Ω,(a6.ext C).V ay bj bk,?_,Θ,λbG bl=>?_⟩,by simp only[b2];omega⟩
 .rw[y,show N-i=(N-(i+1))+1 by omega,Ci];unfold fO;cases f:bf 1 most st with
  |none=>have e:a8 1 most (σ st)=ν:=f;rw[e];rfl
  |some q=>
   have e:a8 1 most (σ st)=σ q:=f;have:=a1 q e;subst this;rw[e];rfl
 .obtain⟨bH,X,rfl⟩:=Y7.1 bl;obtain⟨q,f,rfl⟩:=Y7.1 X;have h1:=(dH (n:=q.1) (s':=q.2) f).1;simp only[p8,U6];show l.length+1+q.2.toks.length<=100000;omega
theorem LY {acc:List (Λ×Int)} {s s':aD} {a:Λ×Int} (h:dT sizes acc s=σ (a,s')):s'.told=s.told/\s'.big=s.big:=by
 obtain⟨_,_,_,e⟩:=oR h;exact⟨e.eqs.1,e.eqs.2.1⟩
theorem LZ {s s':aD} {l:List (Λ×Int)} (hi:dV s) (h:dU sizes s=σ (l,s')):dV s'/\(s.big=true->s'.big=true):=by
 have e:=BN sizes (σ s);rw[show iQ sizes (σ s)=dU sizes s from rfl,h] at e;cases w:a8 (-aq) aq (σ s) with
 |none=>rw[w] at e;cases e
 |some q=>
  obtain⟨n,p⟩:=q;rw[w] at e;simp only at e;have h1:=(dH (n:=n) (s':=p) w).eqs;have y:dV p:=λj=>by rw[h1.1];rw[h1.2.1] at j;exact hi j
  split at e
  .cases I:p.shared[(-n-1).toNat]? with
   |none=>rw[I] at e;cases e
   |some q=>
    obtain⟨z,l'⟩:=q;rw[I] at e;simp only at e;split at e
    .cases e;exact⟨y,λj=>by rw[h1.2.1];exact j⟩
    .cases e
  .have:=ko (f:=dT sizes) (λacc t=>t.told=(jN n p).told/\t.big=(jN n p).big) (λacc t a br ⟨x,r⟩ g=>by
    have:=LY g;exact⟨by rw[this.1,x],by rw[this.2,r]⟩) n.toNat [] _ l s' ⟨rfl,rfl⟩ e.symm
   obtain⟨⟨x,r⟩,_⟩:=this;refine⟨λj=>by rw[x];rw[r] at j;exact Li n p j,λj=>?_⟩;rw[r];show (p.big||_)=true;rw[h1.2.1,j];rfl
theorem L0 {s s':aD} {x:cv} (hi:dV s) (h:dc all s=σ (x,s')):dV s'/\s'.toks.length<s.toks.length:=by
 unfold dc at h;cases p:bf (-aq) aq s with
 |none=>rw[p] at h;cases h
 |some q=>
 obtain⟨a,E⟩:=q;rw[p] at h;simp only at h;have t0:=dH p;cases h1:e0 all.length a.natAbs E with
 |none=>rw[h1] at h;cases h
 |some q=>
 obtain⟨sc,f⟩:=q;rw[h1] at h;simp only at h;obtain⟨r,_⟩:=vC h1;generalize sc.map (λv=>all.getD v.toNat 0)=sizes at h;cases w:bf 0 aq (bb (decide (6<a.natAbs)||dv sizes) f) with
 |none=>rw[w] at h;cases h
 |some q=>
 obtain⟨other,y⟩:=q;rw[w] at h;simp only at h;have z:=dH w;have F:dV y:=λe=>by
  rw[z.eqs.1];rw[z.eqs.2.1] at e;have e:(f.big||_)=false:=e;have B:=(S2.1 e).1;show f.told<=16384;rw[r.eqs.1,t0.eqs.1];rw[r.eqs.2.1,t0.eqs.2.1] at B;exact hi B
 cases j:dU sizes y with
 |none=>rw[j] at h;cases h
 |some q=>
 obtain⟨lines,A⟩:=q;rw[j] at h;simp only[X0,T9] at h;obtain⟨_,rfl⟩:=h;have G:=LZ F j;have J:=BU j;have K:=t0.1;have L:=r.1;have M:f.toks.length=y.toks.length+1:=z.1;have C:∀t:aD,t.told=A.told/\t.big=A.big/\t.toks=A.toks->dV t/\t.toks.length<s.toks.length:=λt ⟨H,I,a3⟩=>⟨λe=>by rw[H];rw[I] at e;exact G.1 e,by rw[a3];omega⟩;split
 .exact C _ ⟨rfl,rfl,rfl⟩
 .exact C _ ⟨rfl,rfl,rfl⟩
theorem L1 {S R:ag} {x:hx} (h:ak.rep false S R w cs x):ak.rep (α:=hx) true bC R w cs x/\(x1.agg cs.toArray).cells=cs.toArray:=by
 obtain⟨j,d1,r,eh,rfl,_,_,_,h1,p,d2,s,ew,rfl,_,_,_,a,q,d3,z,A,rfl,_,_,_,f,e⟩:=h;have h1:ak.rep (α:=Λ) false bC R w j x.1:=h1;have a:ak.rep (α:=Λ) false bC R w p x.2.1:=a;have f:q=[Δ x.2.2.1]:=f;have e:ak.rep (α:=List (Λ×Int)) false bC R w d3 x.2.2.2:=e;refine⟨⟨j,_,bC,bC,rfl,λ_ h=>h,λ_ h=>h,λ_ _ h _=>h,h1,p,_,bC,bC,rfl,λ_ h=>h,λ_ h=>h,λ_ _ h _=>h,a,q,d3,bC,bC,rfl,λ_ h=>h,λ_ h=>h,λ_ _ h _=>h,f,e⟩,?_⟩;obtain⟨u,rfl⟩:=W8.1 (show j.length=1 from ak.len h1);obtain⟨v,rfl⟩:=W8.1 (show p.length=1 from ak.len a);obtain⟨y,rfl⟩:=W8.1 (show d3.length=1 from ak.len e);obtain⟨_,_,_,rfl⟩:=lY h1;obtain⟨_,_,_,rfl⟩:=lY a;obtain⟨_,_,_,rfl⟩:=lY e;subst f;rfl
theorem L2 {w0:x3} {g c:Nat} {A B:ag} {o:Option aD} {L:x1} {aE:x1->x3->Prop} (aF:gW w g gs A B clean o) (hi:∀s,o=σ s->dV s) (br:(c:Int)<=aq)
  (bt:aH .i64 w L all) (aG:∀r,leads L r->r≠g/\r≠gs/\r<w.heap.size/\(o≠ν->¬A r)) (bu:o≠ν-> ∀z∈all,1<=z/\z<=aq) (bw:all.length<=100001) (bx:e1 w) (h1:1<w0.heap.size/\(o≠ν->cG g gs A B 1))
  (aI:ae (λr=>w0.heap.size<=r) w0 w) (bz:w0.heap.size<=g) (bA:w0.heap.size<=gs) (cl:g<w.heap.size/\gs<w.heap.size) (bB:o≠ν-> ∀r,A r->w0.heap.size<=r)
  (aL:∀M w' acc so aK p aM aN,ae (λr=>w0.heap.size<=r) w0 w'->w.heap.size<=w'.heap.size->gW w' g gs aK p clean so->ak.rep (α:=List hx) true aM aN w' [M] acc->(∀r,aM r\/aN r->r≠g/\r≠gs/\r<w'.heap.size)->aH .i64 w' L all->
   (∀q,fm (λ_ s=>dc all s) c [] o=σ q->so=σ q.2/\acc=q.1.map gX)->(fm (λ_ s=>dc all s) c [] o=ν->so=ν)->aE M w'):
 b1 (.slice ν 0 0) (Δ 0) w λfuns aO am bD=>
  cm (α:=x1->x3->Prop) (λ(bF:x1) (aQ:x3)=>
   Split bF (ai x7 y1 [Γ g,L] aQ λbG bH=>
  ax x7 (Y1 jf 1 #[(0,bG)]) bH λbI bJ=>
  ax x7 (b8 #[jf,jf] jf #[funs,bI]) bJ λbK aS=>
  aa x7 (aJ .add al false true aO (Δ 1)) aS λbL=>
  bD bK bL aS) (aE funs aQ)) λaT=>
  aa x7 (aJ .lss al false false aO (Δ (c:Int))) am λbM=>
  Split bM (ai x7 kM [Γ g] am λbN bO=>
  aT bN bO)
   (aT (.bool false) am):=by
 unfold aq at br;generalize f:fm (λ_ s=>dc all s) c [] o=aV at aL;have aW:∀s,o=σ s->o≠ν:=λs h=>by rw[h];simp
 refine⟨λM an J=>∃ (i:Nat) (acc:List hx) (G:List cv) (so:Option aD) (y eh C N:ag),an=Δ (i:Int)/\i<=c/\ae (λr=>w0.heap.size<=r) w0 J/\w.heap.size<=J.heap.size/\gW J g gs y eh clean so/\ak.rep true C N J [M] acc/\
   aH .i64 J L all/\e1 J/\aV=fm (λ_ s=>dc all s) (c-i) G so/\(∀r,C r->w.heap.size<=r/\r<J.heap.size)/\(∀r,N r->r≠g/\r≠gs/\¬C r)/\
   ∀s,so=σ s->acc=G.map gX/\dV s/\G.length+s.toks.length<=100000/\o≠ν/\(∀r,y r->A r\/w.heap.size<=r)/\(∀r,y r->w0.heap.size<=r)/\(∀r,B r->eh r)/\(∀r,C r->¬eh r/\¬y r)/\(∀r,N r->cG g gs y eh r),
  λ_ an _=>c-(b2 an).toNat,⟨0,[],[],o,A,B,bC,bC,rfl,X3 _,aI,o4 _,aF,gh,bt,bx,f.symm,λ_ h=>h.elim,λ_ h=>h.elim,λs I=>⟨rfl,hi s I,?_,aW s I,λr e=>.inl e,bB (aW s I),λr e=>e,λ_ h=>h.elim,λ_ h=>h.elim⟩⟩,?_⟩
 .subst I;have ao:dl w g gs A B s clean:=aF;have:=ao.2.1.words.1;simpa using this
 rintro M _ J ⟨i,acc,G,so,y,eh,C,N,rfl,cn,bP,cp,aX,bQ,ap,aZ,Z,E,bR,a1⟩;refine aU (λv a2=>Ext J a2/\((v= .bool true/\i<c/\ ∃st,so=σ st)\/(v= .bool false/\(so=ν\/i=c)))) ?_ ?_
 rotate_left
 .intro av au;rw[aR,aj];refine⟨λa6=>?_,λcq=>au _ _ ⟨Ext.refl _,.inr ⟨rfl,.inr Ω⟩⟩⟩;refine (BQ aX).mono ?_;rintro _ a2 _ ⟨rfl,a7⟩;cases so with
  |none=>exact au _ _ ⟨a7,.inr ⟨rfl,.inl rfl⟩⟩
  |some st=>exact au _ _ ⟨a7,.inl ⟨rfl,Ω,st,rfl⟩⟩
 rintro _ U ⟨K,bT⟩;have cr:=K.size;have S:=aX.ext K;have a8:=bc bQ K;have ba:ae (λr=>w0.heap.size<=r) w0 U:=bP.trans (K.V _);rcases bT with⟨rfl,a6,st,rfl⟩|⟨rfl,bU⟩
 rotate_left
 .rw[aY];have bb:aV=so.map λst=>(G,st):=by
   rcases bU with rfl|rfl
   .exact Z
   .rw[U1] at Z;rw[Z];cases so<;>rfl
  refine aL M U acc so y eh C (λr=>N r/\r<U.heap.size) ba Ω S (ak.mono a8 (λ_ _ h=>h) λr e h=>⟨h,e⟩) (λr e=>?_) (ap.ext K) (λq H=>?_) λbd=>?_
  .rcases e with e|e
   .have:=E r e;exact⟨Ω,Ω,Ω⟩
   .have:=bR r e.1;exact⟨this.1,this.2.1,e.2⟩
  .rw[bb] at H;cases so with
   |none=>cases H
   |some st=>cases H;exact⟨rfl,(a1 _ rfl).1⟩
  .rw[bb] at bd;cases so with
   |none=>rfl
   |some st=>cases bd
 rw[bS];obtain⟨rfl,be,ct,ab,bf,aw,bg,ac,bh⟩:=a1 st rfl;have S:dl U g gs y eh st clean:=S;obtain⟨cu,cw,cz,cA,cB⟩:=S.1;have bV:=h1.2 ab;have bi:cG g gs y eh 1:=⟨λf=>by
  rcases f with f|f|f
  .omega
  .omega
  .have:=aw 1 f;omega,bg 1 bV.2⟩
 have bk:∀r,leads L r->¬bE g gs y r/\r<U.heap.size:=λr e=>by
  obtain⟨bW,bX,bY,bZ⟩:=aG r e;refine⟨λf=>?_,Ω⟩;rcases f with f|f|f
  .exact bW f
  .exact bX f
  .rcases bf r f with h|h
   .exact bZ ab h
   .omega
 refine (Lt S be (ap.ext K) bk (bu ab) bw (aZ.ext K) bi).mono ?_;rintro _ b0 _ ⟨aK,p,cs,ay,rfl,cC,W,X,az,bl,bm,b3,b5⟩;have z3:=W.size;obtain⟨bn,b6⟩:=L1 b3;refine iH (α:=hx) (a:=ay) (cs:=cs) (A:=bC) (R:=cG g gs aK p) jf.u b4.i Φ b6 bn λu ad O _ hu=>?_;have z4:=O.size;have b7:∀r,r<U.heap.size->C r\/N r->¬bE g gs y r:=λr e h f=>by
  rcases h with h|h
  .have j:=E r h;rcases f with f|f|f
   .omega
   .omega
   .exact (ac r h).2 f
  .exact (bh r h).1 f
 have b9:∀r,r<U.heap.size->cG g gs y eh r->cG g gs aK p r:=λr e h=>⟨λf=>h.1 (f.imp id (Or.imp id λf=>(X r f).elim id λh'=>Ω)),bl r h.2⟩;have ca:bj C (cG g gs aK p) ad [M] (G.map gX):=bc (ak.V (ak.mono (S':=C) (R':=λr=>cG g gs aK p r/\N r) a8 (λ_ _ h=>h) λr e h=>⟨b9 r e (bh r h),h⟩) W λr e h=>b7 r e (h.imp id λh=>h.2) |> λh=>h) O |> λh=>ak.mono h (λ_ _ h=>h) λ_ _ h=>h.1;have af:∀r,C r->¬p r:=λr h ah=>by
  have j:=E r h;rcases (az r ah).1 with P|P
  .exact (ac r h).1 P
  .have aA:=(E r h).2;omega
 have cD:(G.map gX).length=G.length:=Ξ
 refine nx (α:=hx) (a:=ay) (A:=bC) jf.u b4.i rfl ca hu (bc bn O) (λr _ cb h=>?_) Ω Ω λcE Q cc Y=>?_
 .rcases h with h|h
  .exact h
  .exact af r cb h.2
 have z5:=Y.size;rw[aP,wrap_i64 Ω Ω];have cd:ae (λr=>w0.heap.size<=r) w0 ad:=(ba.trans (W.mono λr _ f=>by
  rcases f with rfl|rfl|f
  .exact bz
  .exact bA
  .exact aw r f)).trans (O.V _)
 have z0:=aI.size;have ce:ae (λr=>w0.heap.size<=r) w0 Q:=cd.trans (Y.mono λr _ h=>by have:=(E r h).1;omega);have cg:aH .i64 ad L all:=(hS (ap.ext K) W λr e a n c aB aC=>(bk r ⟨a,n,c,aB,aC⟩).1 e).ext O;have ch:aH .i64 Q L all:=hS cg Y λr e a n c aB aC=>by
  have bY:=(aG r ⟨a,n,c,aB,aC⟩).2.2.1;have:=(E r e).1;omega
 have ci:e1 Q:=(((aZ.ext K).V W bi.1).ext O).V Y λh=>by have:=(E 1 h).1;omega
 have bo:gW Q g gs aK p clean ((dc all st).map (·.2)):=by
  refine gW.V (bm.ext O) Y (λh=>by have:=E _ h;omega) (λr e cF h=>?_) (λr e h=>af r h e.2);have j:=E r h;rcases e with rfl|rfl|e
  .omega
  .omega
  .rcases X r e with P|P
   .exact (ac r h).2 P
   .omega
 have cj:=mv cc;refine⟨⟨i+1,(G.map gX)++[ay],G++((dc all st).map (·.1)).toList,(dc all st).map (·.2),aK,p,λr=>(C r\/bC r\/ad.heap.size<=r)/\r<Q.heap.size,cG g gs aK p,rfl,Ω,ce,Ω,bo,cj,ch,ci,?_,λr e=>⟨?_,e.2⟩,λr e=>⟨λh=>e.1 (.inl h),λh=>e.1 (.inr (.inl h)),λh=>?_⟩,λs' ck=>?_⟩,by simp only[b2];omega⟩
 .rw[Z,show c-i=(c-(i+1))+1 by omega,Ci];cases H:dc all st with
  |none=>rfl
  |some q=>rfl
 .rcases e.1 with h|h|h
  .exact (E r h).1
  .exact h.elim
  .omega
 .rcases h.1 with j|j|j
  .exact af r j e.2
  .exact j
  .have:=(az r e.2).2;omega
 .obtain⟨q,H,rfl⟩:=Y7.1 ck;have j:=L0 (s':=q.2) (x:=q.1) be H;have P:=b5 q H;refine⟨?_,j.1,?_,ab,λr e=>?_,λr e=>?_,λr e=>bl r (bg r e),λr e=>⟨λah=>?_,λbp=>?_⟩,λr e=>e⟩
  .rw[H,P];simp
  .rw[H];simp only[Z4,o7,p8,U6];omega
  .rcases X r e with h|h
   .exact bf r h
   .exact .inr Ω
  .rcases X r e with h|h
   .exact aw r h
   .omega
  .rcases e.1 with j|j|j
   .exact af r j ah
   .exact j
   .have:=(az r ah).2;omega
  .have cH:gW Q g gs aK p clean ((dc all st).map (·.2)):=bo;have bq:=bm;rw[H] at bq;have ao:dl b0 g gs aK p q.2 clean:=bq;have a6:=ao.1.2.2.2.1 r (.inr (.inr bp));rcases e.1 with j|j|j
   .rcases X r bp with aA|aA
    .exact (ac r j).2 aA
    .have:=(E r j).2;omega
   .exact j
   .omega
theorem dV.num {lo hi n:Int} {s s':aD} (e:dV s) (h:bf lo hi s=σ (n,s')):dV s':=λa=>by
 have h1:=(dH h).eqs;rw[h1.1];rw[h1.2.1] at a;exact e a
theorem dV.big {b:Bool} {s:aD} (h:dV s):dV (bb b s):=λa=>by
 have a:(s.big||b)=false:=a;exact h (S2.1 a).1
theorem dV.word {w:Λ} {s s':aD} (h:dV s) (hw:dS s=σ (w,s')):dV s':=λa=>by
 have h1:=(sr hw).2;rw[h1] at a ⊢;exact h a
theorem L3 {most:Int} {s s':aD} (hi:dV s) (hm:most<=aq) (h:cQ (fO most) N [] s=σ (l,s')):dV s'/\(∀z∈l,1<=z/\z<=aq)/\l.length+s'.toks.length<=s.toks.length:=by
 have:=ko (f:=fO most) (λacc t=>dV t/\(∀z∈acc,1<=z/\z<=aq)/\acc.length+t.toks.length<=s.toks.length) (λacc t a br ⟨h1,p,y⟩ g=>by
  unfold fO at g;cases e:bf 1 most t with
  |none=>rw[e] at g;cases g
  |some q=>
   obtain⟨z,r⟩:=q;rw[e] at g;simp only[X0,T9] at g;obtain⟨rfl,rfl⟩:=g;have A:=(hT e).1;have B:=(dH e).1;refine⟨(h1.num e).big,λx j=>?_,?_⟩
   .rcases l7.1 j with j|j
    .exact p x j
    .rw[l9.1 j];omega
   .simp only[p8,U6];show acc.length+1+r.toks.length<=_;omega) N [] s l s' ⟨hi,λz w=>(by cases w),Ξ⟩ h
 exact this.1
theorem L4 {s0:aD} {name:Λ} {n most cnt:Int} {so6:Option aD}
  (h1:∀q,dS s0=σ q->name=q.1)
  (p:∀q,a8 1 aq (((dS s0).map (·.2)).map (bb (decide (64<(name.length:Int)))))=σ q->n=q.1)
  (j:∀q,a8 1 aq (((a8 1 aq (((dS s0).map (·.2)).map (bb (decide (64<(name.length:Int)))))).map (·.2)).map (bb (decide (64<n))))=σ q->most=q.1)
  (h:∀q,a8 0 aq ((a8 1 aq (((a8 1 aq (((dS s0).map (·.2)).map (bb (decide (64<(name.length:Int)))))).map (·.2)).map (bb (decide (64<n))))).map (·.2))=σ q->cnt=q.1)
  (f:∀q,a8 1 aq (((a8 0 aq ((a8 1 aq (((a8 1 aq (((dS s0).map (·.2)).map (bb (decide (64<(name.length:Int)))))).map (·.2)).map (bb (decide (64<n))))).map (·.2))).map (·.2)).map (bb (decide (256<cnt))))=σ q->k=q.1)
  (e:∀q,fm (fO most) n.toNat [] (((a8 1 aq (((a8 0 aq ((a8 1 aq (((a8 1 aq (((dS s0).map (·.2)).map (bb (decide (64<(name.length:Int)))))).map (·.2)).map (bb (decide (64<n))))).map (·.2))).map (·.2)).map (bb (decide (256<cnt))))).map (·.2)).map (bb (decide (2147483648<k))))=σ q->so6=σ q.2/\sizes=q.1)
  (a:fm (fO most) n.toNat [] (((a8 1 aq (((a8 0 aq ((a8 1 aq (((a8 1 aq (((dS s0).map (·.2)).map (bb (decide (64<(name.length:Int)))))).map (·.2)).map (bb (decide (64<n))))).map (·.2))).map (·.2)).map (bb (decide (256<cnt))))).map (·.2)).map (bb (decide (2147483648<k))))=ν->so6=ν):
  hR s0=(fm (λ_ s=>dc sizes s) cnt.toNat [] so6).map λq=>((⟨name,k,sizes,q.1⟩:b6),q.2):=by
 unfold hR;cases z:dS s0 with
 |none=>
  rw[z] at a;rw[a rfl];rfl
 |some L=>
 obtain⟨Z,M⟩:=L;rw[z] at h1 p j h f e a;have:=h1 _ rfl;subst this;have N:decide (64<(name.length:Int))=decide (64<name.length):=by rw[V3,decide_eq_true_eq,decide_eq_true_eq];omega
 rw[N] at p j h f e a;simp only[Z4] at p j h f e a ⊢;generalize bb (decide (64<name.length)) M=w at*;cases A:bf 1 aq w with
 |none=>
  rw[show a8 1 aq (σ w)=ν from A] at a;rw[a rfl];rfl
 |some O=>
 obtain⟨P,B⟩:=O;rw[show a8 1 aq (σ w)=σ (P,B) from A] at p j h f e a;have:=p _ rfl;subst this;simp only[Z4] at j h f e a ⊢;generalize bb (decide (64<n)) B=x at*;cases C:bf 1 aq x with
 |none=>
  rw[show a8 1 aq (σ x)=ν from C] at a;rw[a rfl];rfl
 |some Q=>
 obtain⟨R,r⟩:=Q;rw[show a8 1 aq (σ x)=σ (R,r) from C] at j h f e a;have:=j _ rfl;subst this;simp only[Z4] at h f e a ⊢;cases E:bf 0 aq r with
 |none=>
  rw[show a8 0 aq (σ r)=ν from E] at a;rw[a rfl];rfl
 |some S=>
 obtain⟨T,F⟩:=S;rw[show a8 0 aq (σ r)=σ (T,F) from E] at h f e a;have:=h _ rfl;subst this;simp only[Z4] at f e a ⊢;generalize bb (decide (256<cnt)) F=y at*;cases G:bf 1 aq y with
 |none=>
  rw[show a8 1 aq (σ y)=ν from G] at a;rw[a rfl];rfl
 |some U=>
 obtain⟨V,H⟩:=U;rw[show a8 1 aq (σ y)=σ (V,H) from G] at f e a;have:=f _ rfl;subst this;simp only[Z4] at e a ⊢;generalize bb (decide (2147483648<k)) H=W at*;cases J:cQ (fO most) n.toNat [] W with
 |none=>
  rw[a J];rfl
 |some X=>
 obtain⟨aa,K⟩:=X;obtain⟨I,Y⟩:=e _ J;subst Y;rw[I];simp only;show _=V8 _ (cQ (λ_ s=>dc sizes s) cnt.toNat [] K);cases cQ (λ_ s=>dc sizes s) cnt.toNat [] K<;>rfl
theorem L5 {f:b6} (a:e7 N f) (q:N<=60000):∀x∈f.funs,sY f.k x:=λx h=>by
 obtain⟨h1,j,r⟩:=a.funs x h;refine⟨a.k,⟨?_,λz e=>?_⟩,h1.other,h1.lines,by have:=h1.len;omega,Ω⟩
 .rw[h1.sizes,u7];exact j
 .rw[h1.sizes] at e;obtain⟨v,p,rfl⟩:=n9.1 e;have:=h1.scope.2 v p;refine a.sizes.2.2 _ ?_;rw[u4,x6 Ω];exact T8 _
theorem L6 {p:x1} {pl:Λ} (Q:aH .u8 w p pl) (aJ:Bytes pl) (bL:pl.length<=60000) (ad:e1 w):ai x7 Gf [p] w (Ch w (gk pl)):=by
 have aL:1<w.heap.size:=by
  have:=ad 0 (.int .u64 1) rfl;obtain⟨c,e,f,aM,_⟩:=u3 this;exact (j0.1 aM).1
 have bM:aq=4611686018427387904:=rfl;refine aw func34 ?_;rw[aX cP.u Q,bT,aj];refine⟨λh=>Ω,λ_=>?_⟩;refine (Am Q aJ Ω).mono ?_;rintro _ J _ ⟨af,gs,rfl,bN,aN,R⟩;rw[dp (cs:=#[Γ gs,Δ 0,Δ 0,Δ 0,Δ 0,Δ 0,.slice ν 0 0]) Ψ];refine bm λg U bO S ah=>?_;have bQ:=af.size;have bR:=S.size;have aO:=ah.lt;have bS:gs<J.heap.size:=R.2.2.2.1.lt;have bU:=pV _ pl (o4 _);let s0:aD:=⟨(lex pl).1,0,false,[]⟩;let B0:ag:=λr=>r<J.heap.size;have aP:dl U g gs bC B0 s0 (lex pl).2:=by
  refine⟨⟨Ω,λh=>h,λh=>h,λr j=>?_,λr j=>by have j:r<J.heap.size:=j;omega⟩,⟨aN,pl,0,R.ext S,λr j=>?_,by rw[List.drop_zero]⟩,⟨by show (0:Int)<=0;omega,by show (0:Int)<=aq;omega,by show (([]:List (Λ×List (Λ×Int))).length+(lex pl).1.length<=100000);simp;omega⟩,0,0,0,0,.slice ν 0 0,ah,⟨by simp[s0],λ_=>rfl⟩,gh (α:=iO)⟩
  .rcases j with rfl|rfl|j
   .exact aO
   .omega
   .exact j.elim
  .obtain⟨_,_,_,L,bl,hm⟩:=R;have G:=bP hm j;have H:=cc hm L Φ j;exact⟨λB=>by
    rcases B with B|B|B
    .omega
    .exact H B
    .exact B,by show r<J.heap.size;omega⟩
 have W:∀r,bE g gs bC r->w.heap.size<=r:=λr j=>by
  rcases j with rfl|rfl|j
  .omega
  .omega
  .exact j.elim
 refine (A4 aP).mono ?_;rintro _ bV _ ⟨A,name,bW,rfl,bX,bY,aQ⟩;obtain⟨aR,aS⟩:=fP.of A;rw[bx,bz,nD c3.u,bT];refine (qt aS).mono ?_;rintro _ bZ _ A;obtain⟨aT,aU⟩:=A.of;refine (lX (lo:=1) (hi:=aq) aU).mono ?_;rintro _ b0 _ ⟨A,n,b1,rfl,ak,aV⟩;obtain⟨aW,aY⟩:=A.of;rw[bx,bz,bT];refine (qt aY).mono ?_;rintro _ b2 _ A;obtain⟨aZ,a1⟩:=A.of;refine (lX (lo:=1) (hi:=aq) a1).mono ?_;rintro _ b3 _ ⟨A,most,b4,rfl,al,a2⟩;obtain⟨a6,a7⟩:=A.of;rw[bx,bz];refine (lX (lo:=0) (hi:=aq) a7).mono ?_;rintro _ b5 _ ⟨A,cnt,b7,rfl,am,ba⟩;obtain⟨bc,bd⟩:=A.of;rw[bx,bz,bT];refine (qt bd).mono ?_;rintro _ b8 _ A;obtain⟨be,bf⟩:=A.of;refine (lX (lo:=1) (hi:=aq) bf).mono ?_;rintro _ b9 _ ⟨A,k,ca,rfl,hk,cb⟩;obtain⟨bg,bh⟩:=A.of;rw[bx,bz,bT];refine (qt bh).mono ?_;rintro _ an _ A;obtain⟨bi,X⟩:=A.of;have ao:ae (bE g gs bC) U an:=(((((((aR.trans aT).trans aW).trans aZ).trans a6).trans bc).trans be).trans bg).trans bi;have Y:∀ {lo:Int} {o:Option aD} {x:Int},0<=lo->lo<=1->(∀q,a8 lo aq o=σ q->x=q.1)->(a8 lo aq o=ν->x=0)->0<=x/\x<=aq:=λ{lo o x} cd h1 I bj=>by
  cases a:a8 lo aq o with
  |none=>rw[bj a];omega
  |some q=>
   have G:=mF (n:=q.1) (s':=q.2) a;rw[I q a];omega
 have ce:=Y Ω Ω ak aV;have cg:=Y Ω Ω am ba;have ch:=Y Ω Ω al a2;obtain⟨N,bk⟩:∃N:Nat,n=(N:Int):=⟨n.toNat,Ω⟩;obtain⟨C,bn⟩:∃C:Nat,cnt=(C:Int):=⟨cnt.toNat,Ω⟩;have bo:n.toNat=N:=Ω
 have bp:cnt.toNat=C:=Ω
 have bq:dV s0:=λ_=>by show (0:Int)<=16384;omega
 have M:∀ {o:Option aD} {b:Bool},(∀s,o=σ s->dV s)-> ∀s,o.map (bb b)=σ s->dV s:=λh s I=>by
  obtain⟨t,Z,rfl⟩:=Y7.1 I;exact (h t Z).big
 have O:∀ {o:Option aD} {lo hi:Int},(∀s,o=σ s->dV s)-> ∀s,(a8 lo hi o).map (·.2)=σ s->dV s:=λ{o lo hi} h s I=>by
  obtain⟨q,a,rfl⟩:=Y7.1 I;cases o with
  |none=>cases a
  |some t=>exact (h t rfl).num (n:=q.1) (s':=q.2) a
 have br:∀s,(dS s0).map (·.2)=σ s->dV s:=λs I=>by
  obtain⟨q,a,rfl⟩:=Y7.1 I;exact bq.word (w:=q.1) (s':=q.2) a
 have ap:=M (b:=decide (2147483648<k)) (O (lo:=1) (hi:=aq) (M (b:=decide (256<cnt)) (O (lo:=0) (hi:=aq) (O (lo:=1) (hi:=aq) (M (b:=decide (64<n)) (O (lo:=1) (hi:=aq) (M (b:=decide (64<(name.length:Int))) br)))))));have y:=λ(sizes:Λ) (so6:Option aD)=>L4 (s0:=s0) (name:=name) (sizes:=sizes) (n:=n) (most:=most) (cnt:=cnt) (k:=k) (so6:=so6) aQ ak al am hk;rw[bo] at y;generalize ci:V8 (bb (decide (2147483648<k))) (V8 (λx=>x.2) (a8 1 aq (V8 (bb (decide (256<cnt))) (V8 (λx=>x.2) (a8 0 aq (V8 (λx=>x.2) (a8 1 aq (V8 (bb (decide (64<n))) (V8 (λx=>x.2) (a8 1 aq (V8 (bb (decide (64<(name.length:Int)))) (V8 (λx=>x.2) (dS s0)))))))))))))=au at ap X y;rw[bk];refine LX (N:=N) (most:=most) X Ω λszv aa sizes so6 gz bt av ax cj bu ay az=>?_;have y:=y sizes so6 ay az;rw[bp] at y;have ab:ae (bE g gs bC) U aa:=ao.trans bt;have z12:=ab.size;have aA:Ext w U:=af.trans S;have bw:ae (λr=>w.heap.size<=r) w aa:=(aA.V _).trans (ab.mono λr _ h=>W r h);have ck:=av.side;have facts:∀K,so6=σ K->dV K/\(∀z∈sizes,1<=z/\z<=aq)/\sizes.length<=100000:=λK ac=>by
  cases a:fm (fO most) N [] au with
  |none=>rw[az a] at ac;cases ac
  |some q=>
   obtain⟨G,H⟩:=ay q a;cases ac.symm.trans G;subst H;cases au with
   |none=>cases a
   |some bA=>
    obtain⟨bB,bD,cl⟩:=L3 (l:=q.1) (s':=q.2) (ap bA rfl) Ω a;exact⟨bB,bD,by have:=X.words;omega⟩
 rw[bn];have aB:∀r,leads szv r->an.heap.size<=r/\r<aa.heap.size:=λr j=>by have:=bP ax j;omega
 have cm:=ao.size;refine L2 (w0:=w) (c:=C) (all:=sizes) av.q (λs I=>(facts s I).1) Ω ax.ls (λr j=>?_) (λP=>?_) bu ((ad.ext aA).V ab λB=>by have:=W 1 B;omega) ⟨aL,λ_=>⟨λB=>by have:=W 1 B;omega,by show 1<J.heap.size;omega⟩⟩
  bw Ω Ω ⟨Ω,Ω⟩ (λ_ r h=>h.elim) λcn cp acc so aK cq cr ct aC cu bF bG bH bI aE bJ=>?_
 .have:=aB r j;exact⟨Ω,Ω,Ω,λ_ h=>h⟩
 .cases aF:so6 with
  |none=>exact absurd aF P
  |some K=>exact (facts K aF).2.1
 have cw:=aC.size;have E:gk pl=match hR s0 with
   |none=>ν
   |some (f,s)=>if s.toks=[]/\(lex pl).2=true/\s.big=false then σ f else ν:=by
  unfold gk;rw[if_neg Ω];have e:hR ⟨(lex pl).1,0,false,[]⟩=hR s0:=rfl;rw[e];cases hR s0<;>rfl
 refine LW (w0:=w) (sizes:=sizes) (res:=gk pl) bF ⟨λs I Z bK L=>?_,λP=>?_⟩ bI (λr j=>by have:=aB r j;exact⟨Ω,Ω⟩) bG bH (λ_=>trivial) Ω Ω aC Ω Ω Q λv w' h=>h
 .cases a:fm (λ_ s=>dc sizes s) C [] so6 with
  |none=>rw[bJ a] at I;cases I
  |some q=>
   obtain⟨G,H⟩:=aE q a;cases I.symm.trans G;rw[a] at y;have y:hR s0=σ ((⟨name,k,sizes,q.1⟩:b6),q.2):=y;have aG:=(A1 rfl y L).1;rw[y] at E;simp only at E;rw[if_pos ⟨Z,bK,L⟩] at E;exact⟨q.1,H,E,L5 aG (by show (lex pl).1.length<=60000;omega),aG.k0,Ω⟩
 .cases a:fm (λ_ s=>dc sizes s) C [] so6 with
  |none=>
   rw[a] at y;have y:hR s0=ν:=y;rw[y] at E;exact absurd E P
  |some q=>
   obtain⟨G,H⟩:=aE q a;rw[a] at y;have y:hR s0=σ ((⟨name,k,sizes,q.1⟩:b6),q.2):=y;rw[y] at E;simp only at E;by_cases aI:q.2.toks=[]/\(lex pl).2=true/\q.2.big=false
   .exact⟨q.2,G,aI⟩
   .rw[if_neg aI] at E;exact absurd E P
theorem v7 (s t cs:Λ):∃e,oG s t cs= .tuple #[Δ (a7 s cs t),Δ e]:=by
 unfold oG a7;cases cF s t 0 with
 |none=>exact⟨3,rfl⟩
 |some n=>exact⟨0,rfl⟩
theorem L7:ai x7 zh [sv] w λr w'=>Ext w w'/\ ∃g,r= .func (.func oy) #[] #[Γ g]/\w.heap.size<=g/\ab w' g am sv.cells.toList:=by
 refine aw func195 ?_;refine bm λg J f a e=>?_;rw[mq];exact⟨a,g,rfl,Ω,e⟩
theorem L8 {f:R3} {cap:Array x1} {B:Nat->List x1->x3->Prop} {e:x3->Prop} {L:Λ} (P:oq x7 f cap.toList n B e) (C:∀k vs w,B k vs w-> ∃x,L[k]? =σ x/\vs=[Δ x])
  (he:∀a b,ae (λr=>w.heap.size<=r) a b->e a->e b) (Q:e w) (R:n=L.length) (ao:L.length<=1000000):
  ai x7 G7 [.slice ν 0 0,.func (.func f) #[] cap] w λv w'=>Ext w w'/\ ∃g,w.heap.size<=g/\ap .i64 ah w' g v L:=by
 refine jh func111 ?_;refine bm λgs J aq E p=>?_;have p:ab J gs am [.slice ν 0 0]:=p;have au:=p.lt;have G:∀ {a b:x3},Ext a b->e a->e b:=λj=>he _ _ (j.V _);refine lE.old ⟨Nat,false,f,cap,0,_,_,e,λk w'=>ae (λr=>w.heap.size<=r) w w'/\ ∃v g,gs<g/\ab w' gs am [v]/\ap .i64 ah w' g v (L.take k),λ_ _ _=>False,rfl,P.s,?_,λ_ _ j h=>G j h,
  λ_ _ _ j h=>⟨h.1.trans (j.V _),by obtain⟨v,g,h1,S,W⟩:=h.2;exact⟨v,g,h1,S.ext j,W.ext j⟩⟩,λ_ _ _ _ _ h=>h,G E Q,⟨E.V _,_,gs+1,Ω,p,ap.nil _ _ _ _⟩,?_,?_,λ_ _ h=>h.elim,λ_ _ _ h=>h.elim⟩
 .rintro k vs av w' ⟨_,_,h⟩;obtain⟨x,_,rfl⟩:=C k vs w' h;rfl
 .rintro a k _ U hX ⟨hk,rfl,Y⟩ ⟨Z,v,g,aa,H,q⟩;obtain⟨x,j,ac⟩:=C k _ U Y;cases ac;intro aw y _ _;have I:=H.ext y;rw[aB Ψ (I.Qz rfl)];refine ep am.u ah.i rfl λa ga ax ay z ad=>?_;have az:(L.take k).length<=1000000:=Θ
  refine jk am.u ah.i rfl ((q.ext y).ext z) ad.ls (by simp only[Z0,List.length_nil];omega) (by simp only[Z0,List.length_nil];omega) λaf ag aA aC A K=>?_;have aD:=H.lt;have aE:=y.size;have aF:=z.size;refine bo am.i A.ls.cells.1 A.ls.cells.2 (((I.ext z).V K Ω)) Ξ λaj M aG ak=>?_;have N:ae (λr=>w.heap.size<=r) U aj:=(((y.trans z).V _).trans (K.mono λr _ h=>by show w.heap.size<=r;omega)).trans (M.mono λr _ h=>by show w.heap.size<=r;omega);refine⟨he _ _ N hX,⟨Z.trans N,af,ag,Ω,ak,?_⟩,λh=>by cases h⟩;rw[u9,j];exact A.V M (λ_=>Ω)
 .rintro k aH hk ⟨al,v,g,aa,an,q⟩;have hk:k=n:=hk;subst hk;rw[aB Ψ (an.Qz rfl)];intro aI O _;rw[R,o5] at q;exact⟨(al.ext λr aJ h=>by have:w.heap.size<=r:=h;omega).trans O,g,Ω,q.ext O⟩
theorem Cj {f:R3} {cap:Array x1} {j:Nat->List x1->x3->Prop} {e:x3->Prop} {L:Λ} (p:oq x7 f cap.toList n j e) (q:∀k vs w,j k vs w-> ∃x,L[k]? =σ x/\vs=[Δ x])
  (he:∀a b,ae (λr=>w.heap.size<=r) a b->e a->e b) (s:e w) (y:n=L.length) (z:L.length<=1000000):
  ai x7 Gl [.func (.func f) #[] cap] w λv w'=>Ext w w'/\ ∃g,w.heap.size<=g/\ap .i64 ah w' g v L:=by
 refine aw func43 ?_;exact (L8 p q he s y z).mono λ_ _ _ h=>h
theorem L9 {x:Int}:ai x7 cmp_Less_int [Δ x,Δ y] w λv w'=>v= .bool (decide (x<y))/\Ext w w':=by
 refine aw func271 ?_;refine aU (λv J=>v= .bool (decide (x<y))/\Ext w J) (λ_ _ h=>h) λav a=>?_;have e:∀ {z:Int} {w:x3},ai x7 cmp_isNaN_int [Δ z] w λv w'=>v= .bool false/\Ext w w':=λ{z w}=>by
  refine aw func207 ?_;simp only[bL];exact⟨Ξ,Ext.refl _⟩
 refine e.mono ?_;rintro _ U _ ⟨rfl,f⟩;rw[aY];simp only[aR];exact a _ _ ⟨rfl,f⟩
theorem Ma {P:W3} {t:r9} {cx cy:Bool} {k:o6} {a b:Int}:ci P (aJ .sub t cx cy (.int k a) (.int k b)) (.int k (k.wrap (a-b))) w:=λw' _=>by simp[aJ,eqGuard,binOp,Op.intArith]
theorem Mb {g:Nat} (h:ap .i64 ah w g sv l) (an:l.length<=1000000):
  ai x7 IG [sv,Δ 0,Δ l.length] w λ_ w'=>ae (λr=>r=g) w w'/\ ∃m,m.Perm l/\m.Pairwise (·<= ·)/\ap .i64 ah w' g sv m:=by
 refine aw func265 ?_;simp only[aP];refine⟨λt J=>∃ (i:Nat) (m:Λ),t=Δ i/\1<=i/\(i<=l.length\/i=1)/\m.Perm l/\qc m i/\ae (λr=>r=g) w J/\ap .i64 ah J g sv m,λt _=>l.length+1-(b2 t).toNat,
  ⟨1,l,by congr 1,Ω,.inr rfl,.refl _,λp q x y h1 S=>Ω,ae.refl _ _,h⟩,?_⟩
 rintro _ J ⟨i,m,rfl,ao,aq,z,I,K,hm⟩;have W:=z.length_eq;simp only[aR,aj];refine⟨λX=>?_,λau=>?_⟩
 .have X:i<l.length:=Ω
  refine⟨λt U=>∃ (j:Nat) (m:Λ),t=Δ j/\j<=i/\m.Perm l/\oP m i j/\ae (λr=>r=g) w U/\ap .i64 ah U g sv m,λt _=>(b2 t).toNat,⟨i,m,rfl,o4 _,z,JW I,K,hm⟩,?_⟩;rintro _ U ⟨j,m,rfl,Y,z,E,L,hm⟩;have W:=z.length_eq;refine aU (λv M=>Ext U M/\ ∃c,v= .bool c/\(c=true->0<j/\ ∃a b,m[j-1]? =σ a/\m[j]? =σ b/\b<a)/\(c=false->j=0\/0<j/\ ∃a b,m[j-1]? =σ a/\m[j]? =σ b/\a<=b)) ?_ ?_
  .rintro _ M ⟨B,c,rfl,Z,aa⟩;rw[bY];refine⟨λh=>?_,λh=>?_⟩
   .obtain⟨A,a,b,f,s,G⟩:=Z h;intro ax N _ _;have C:=(hm.ext B).ext N;have e:X2.wrap ((j:Int)-1)=((j-1:Nat):Int):=by rw[wrap_i64 Ω Ω];omega
    simp only[dZ,e];rw[bd am.u ah.i Ψ C.ls f,bd am.u ah.i Ψ C.ls s,iK rfl am.u ah.i C Ω];refine iL ah.i C Ω λab ac ay O=>⟨.inr ⟨by have:=Ma (P:=x7) (w:=ab) (t:=ah) (cx:=false) (cy:=true) (k:=.i64) (a:=(j:Int)) (b:=1);rwa [e] at this,trivial⟩,?_⟩;rw[iK rfl am.u ah.i O Θ];refine iL ah.i O Θ λaz ad aA af=>?_;refine⟨⟨j-1,_,rfl,Ω,(swap_perm Ω f s).trans z,JZ E A Y f s G,((L.trans ((B.trans N).V _)).trans ac).trans ad,af⟩,?_⟩;simp only[b2];omega
   .simp only[aP];rw[wrap_i64 Ω Ω];refine⟨⟨i+1,m,rfl,Ω,.inl Ω,z,?_,L.trans (B.V _),hm.ext B⟩,?_⟩
    .rcases aa h with rfl|⟨A,a,b,f,s,G⟩
     .exact JX E
     .exact JY E A f s G
    .simp only[b2];omega
  .intro av Q aB H _ _;have R:=hm.ext H;simp only[bT,aj];refine⟨λA=>?_,λA=>Q _ _ ⟨H,false,rfl,(λh=>by cases h),λ_=>.inl Ω⟩⟩;have e:X2.wrap ((j:Int)-1)=((j-1:Nat):Int):=by rw[wrap_i64 Ω Ω];omega
   obtain⟨b,s⟩:=aI (l:=m) (i:=j) Ω;obtain⟨a,f⟩:=aI (l:=m) (i:=j-1) Ω;rw[bd am.u ah.i Ψ R.ls s];simp only[dZ,e];rw[bd am.u ah.i Ψ R.ls f];refine L9.mono ?_;rintro _ aC _ ⟨rfl,ag⟩;refine Q _ _ ⟨H.trans ag,_,rfl,λh=>⟨Ω,a,b,f,s,by simpa using h⟩,λh=>.inr ⟨Ω,a,b,f,s,by simpa using h⟩⟩
 .refine⟨K,m,z,J0 λp q x y h1 S ak al=>I p q x y h1 Ω ak al,hm⟩
theorem Mc {P:W3} {t:r9} {k:o6} {s:ByteArray} {i:Nat} {K:x1->Prop} (a:P.underlying t=σ .string) (hi:i<s.size) (e:∀b:Nat,b<256->K (.int .u8 b)):
  aa P (Instr.index t (.string s) (.int k (i:Int))) w K:=by
 have f:s[i]? =σ s[i]:=by simp[hi]
 have:aa P (Instr.index t (.string s) (.int k (i:Int))) w K=K (.int .u8 s[i].toNat):=aa.of λw' _=>by
  simp[Instr.index,asIntOf,run_underlying a,hi]
 rw[this];exact e _ (UInt8.toNat_lt _)
theorem Md (a:n<256):ai x7 Ic [.int .u64 (n:Int)] w λv w'=>(∃r,v=Δ r)/\Ext w w':=by
 refine aw func206 ?_;refine ai.mono (K:=λv w'=>(∃r,v=Δ r)/\Ext w w') ?_ (λ_ _ _ h=>h);refine aw func239 ?_;simp only[cm,cY,aj];refine⟨λh=>Ω,λ_=>⟨λh=>Ω,λ_=>⟨λh=>Ω,λ_=>?_⟩⟩⟩;rw[fj ft.u cI.u,wrap_u8 Ω Ω];refine Mc c3.u (by exact R5 a Φ) λb e=>?_;rw[fj cI.u ah.u];simp only[aP];exact⟨⟨_,rfl⟩,Ext.refl _⟩
theorem Me {g:Nat} (h:ap .i64 ah w g sv l) (f:l.length<=12):
  ai x7 Io [sv] w λ_ w'=>ae (λr=>r=g) w w'/\ ∃m,m.Perm l/\m.Pairwise (·<= ·)/\ap .i64 ah w' g sv m:=by
 refine aw func225 ?_;rw[aX am.u h.ls,fj ah.u oB.u,wrap_u64 Ω Ω];refine (Md (n:=l.length) Ω).mono ?_;rintro _ J _ ⟨⟨r,rfl⟩,e⟩;refine ai.mono (K:=λ_ w'=>ae (λr=>r=g) J w'/\ ∃m,m.Perm l/\m.Pairwise (·<= ·)/\ap .i64 ah w' g sv m) ?_ (λ_ _ _ h=>⟨(e.V _).trans h.1,h.2⟩);refine aw func250 ?_;refine⟨λa b _ _ _ U=>a=Δ 0/\b=Δ l.length/\J=U,λ_ _ _ _ _ _=>0,⟨rfl,rfl,rfl⟩,?_⟩;rintro _ _ _ _ _ _ ⟨rfl,rfl,rfl⟩;simp only[dZ,mp,aj];rw[wrap_i64 Ω Ω];refine⟨λ_=>?_,λh=>Ω⟩;refine (Mb (h.ext e) Ω).mono ?_;exact λ_ _ _ h=>h
theorem Mf {f:R3} {cap:Array x1} {j:Nat->List x1->x3->Prop} {e:x3->Prop} {L:Λ} (p:oq x7 f cap.toList n j e) (q:∀k vs w,j k vs w-> ∃x,L[k]? =σ x/\vs=[Δ x])
  (he:∀a b,ae (λr=>w.heap.size<=r) a b->e a->e b) (s:e w) (y:n=L.length) (z:L.length<=12):
  ai x7 zg [.func (.func f) #[] cap] w λv w'=>Ext w w'/\ ∃g m,w.heap.size<=g/\m.Perm L/\m.Pairwise (·<= ·)/\ap .i64 ah w' g v m:=by
 refine aw func194 ?_;refine (Cj p q he s y Ω).mono ?_;rintro v J _ ⟨A,g,B,C⟩;refine (Me C z).mono ?_;rintro _ U _ ⟨E,m,h1,G,H⟩;exact⟨A.then E (by rintro r I rfl;omega),g,m,B,h1,G,H⟩
theorem Ck {x:Int} (h:aH .i64 w sv l):
  ai x7 zi [sv,Δ x] w λv w'=>Ext w w'/\ ∃r:Int,v=Δ r/\ ∀i:Nat,l[i]? =σ x->(r=i↔ ∀j,j<i->l[j]? ≠σ x):=by
 refine aw func196 ?_;rw[aX am.u h];refine b1.range l.length (λi _ J=>Ext w J/\ ∀j,j<i->l[j]? ≠σ x) h.le ⟨Ext.refl _,λj p=>Ω⟩ ?_ ?_
 .rintro i _ J k hi ⟨a,e⟩ hk;simp only[aR,aj];refine⟨λ_=>?_,λh=>Ω⟩;obtain⟨y,f⟩:=aI (l:=l) hi;rw[bd am.u ah.i Ψ (h.ext a) f];simp only[bh,aj,aP];refine⟨λhe=>⟨a,i,rfl,λq s=>?_⟩,λhe=>hk _ _ ⟨a,λj p=>?_⟩⟩
  .subst he;refine⟨λB=>by
              have:i=q:=Ω
              subst this;exact e,λz=>?_⟩
   rcases Nat.lt_trichotomy i q with h1|h1|h1
   .exact absurd f (z i h1)
   .omega
   .exact absurd s (e q h1)
  .by_cases A:j=i
   .subst A;rw[f];intro h;exact he (c8 h).symm
   .exact e j Ω
 .rintro _ J k ⟨a,e⟩;simp only[aR,aj];refine⟨λh=>Ω,λ_=>⟨a,-1,rfl,λi hi=>?_⟩⟩;exact absurd hi (e i (x4.1 hi).1)
theorem Mg {g:Nat} {w0:x3} (p:ab w0 g am [sv]) (e:aH .i64 w0 sv l):
  oq x7 oy [Γ g] l.length (λk vs _=>∃x,l[k]? =σ x/\vs=[Δ x]) (λw=>Ext w0 w):=by
 refine⟨oy.enters,λy av B w C _ q a r=>?_⟩;refine pQ func226 ?_;rw[aB Ψ ((p.ext a).Qz rfl),aX am.u (e.ext a)];refine ch.range l.length (λi U=>av i U/\Ext w0 U) e.le ⟨r,a⟩ ?_ ?_
 .rintro i U k hi ⟨f,j⟩ hk;simp only[aR,aj];refine⟨λ_=>?_,λh=>Ω⟩;obtain⟨x,a⟩:=aI (l:=l) hi;rw[bd am.u ah.i Ψ (e.ext j) a];refine⟨rfl,(q i _ U hi j ⟨x,a,rfl⟩ f).mono ?_⟩;rintro _ E (⟨rfl,s,z⟩|⟨rfl,A⟩)
  .simp only[bG,Y4,aY,aP];exact hk _ ⟨z.1,s⟩
  .simp only[bG,W5,bS];exact .inr ⟨i,hi,A⟩
 .rintro U k ⟨f,_⟩;simp only[aR,aj];exact⟨λh=>Ω,λ_=>.inl f⟩
theorem v8 (h:aH .i64 w sv l) (j:l.length<=12)
  (p:∀v w' g m,Ext w w'->w.heap.size<=g->m.Perm l->m.Pairwise (·<= ·)->ap .i64 ah w' g v m->K v w'):
  ai x7 zh [sv] w λt J=>ai x7 zg [t] J K:=by
 refine L7.mono ?_;rintro _ J _ ⟨f,g,rfl,B,e⟩;have e:ab J g am [sv]:=by rw[h.cells.1] at e;exact e
 refine (Mf (Mg e (h.ext f)) (λ_ _ _ h=>h) (λa b q s=>s.then q (λr C h=>Ω)) (Ext.refl _) rfl j).mono ?_;rintro v U _ ⟨x,y,m,E,h1,z,A⟩;have:=f.size;exact p v U y m (f.trans x) Ω h1 z A
def Mh (w:x3) (ad:Λ) (k:Int) (cs a:Λ) (v:x1) (w':x3):Prop:=
 Ext w w'/\
  (¬Good a ad.length->v= .tuple #[.pointer ν,Δ 1])/\
  (Good a ad.length-> ∃e f h,v= .tuple #[Γ e,Δ 0]/\dh w' e f h (et ad a) k (nI ad cs a))
theorem Mi {g bH:Nat} {Z:x1} {cs z:Λ} (h:dh w g bH sv ad k cs) (hk:right k) (Q:aH .i64 w Z z) (cp:z.length<=12) (cq:Good z ad.length->aL (et ad z)<=4096):
  ai x7 H5 [Γ g,Z] w (Mh w ad k cs z):=by
 have az:=h;have cr:=h.2.2.1;have ct:=Q.cells;refine jh func197 ?_;refine bm λg1 J da bI C=>?_;refine bm λbJ U db a2 A=>?_;have dc:=bI.size;have dd:=a2.size;have de:=C.lt;have df:=A.lt;have a6:=bI.trans a2;have C:ab U g1 eS [Γ g]:=C.ext a2;have A:ab U bJ am [Z]:=by rw[ct.1] at A;exact A
 rw[aB Ψ (C.Qz rfl),dn eS.u];simp only[Z5,aY];rw[aB Ψ (A.Qz rfl)];have cu:=Q.ext a6;have sub:∀ {w:x3} {g:Nat} {sv:x1} {k:Int} {aZ:x1},ab w g cX [sv,Δ k,aZ]->w.rangeAt g (0+0) [sv]:=λL=>nA L (by
  intro j v a8
  match j,a8 with
  |0,a8=>exact a8)
 refine v8 cu cp λdL cw di m bK dg ba cz hm=>?_;have cA:=ba.length_eq;rw[aX am.u hm.ls];have cB:=a6.trans bK;refine om.range m.length (λi _ _ bb=>Ext cw bb/\ ∀j,j<i->m[j]? =σ (j:Int)) Ω ⟨Ext.refl _,λj bc=>Ω⟩ ?_ ?_
 .rintro i _ _ bb aa hi ⟨ac,be⟩ af;simp only[aR,aj];refine⟨λ_=>?_,λh=>Ω⟩;obtain⟨y,ag⟩:=aI (l:=m) hi;rw[bd am.u ah.i Ψ (hm.ls.ext ac) ag];simp only[bL,aj,aP];refine⟨λak dj cC _=>⟨(cB.trans ac).trans cC,λ_=>rfl,λbf=>?_⟩,λhe=>af _ _ _ ⟨ac,λj bc=>?_⟩⟩
  .have:=AK bf ba cz i hi;rw[ag] at this;exact absurd (c8 this).symm ak
  .by_cases cD:j=i
   .subst cD;rw[ag];congr 1;omega
   .exact be j Ω
 .rintro _ _ bb aa ⟨ac,be⟩;simp only[aR,aj,eo];refine⟨λh=>Ω,λ_ dk cE _ _=>?_⟩;have E:Good z m.length:=J1 be ba;have an:=(bK.trans ac).trans cE;have aA:=a6.trans an;have C:=C.ext an;have A:=A.ext an;have cF:=Q.ext aA;have cG:=az.ext aA;have dl:=an.size;obtain⟨⟨aZ,gs,L,aC,bM⟩,_⟩:=id cG;rw[aB Ψ (A.Qz rfl),aX am.u cF,aB Ψ (C.Qz rfl),bZ,aQ cX.p rfl,bD (cs:=[sv]) bw.p bw.i rfl (sub L)];refine (Bb aC.ls).mono ?_;rintro _ aD _ ⟨rfl,M⟩;refine⟨.inl M,?_⟩;simp only[bL,aj];refine⟨λak dm cH _=>⟨(aA.trans M).trans cH,λ_=>rfl,λbf=>absurd (by rw[bf.1]) ak⟩,λdp=>?_⟩;have bg:z.length=ad.length:=Ω
  have E:Good z ad.length:=by rw[<-bg,<-cA];exact E
  have dq:=an.trans M;have bh:=aA.trans M;have C:=C.ext M;have A:=A.ext M;have bN:=Q.ext bh;rw[aB Ψ (A.Qz rfl),aX am.u bN];refine kh am.u ah.i Ω Ω λgz bO dr R bP=>?_;have cI:ap .i64 ah bO gz (.slice (σ ⟨gz,0,ν⟩) z.length z.length) (p9 z.length 0):=ap.of (n:=z.length) (bQ.full bP Ξ (by simp[maxLen];omega));generalize (x1.slice (σ ⟨gz,0,ν⟩) z.length z.length)=cJ at*;have ds:=M.size;have dt:=R.size;have du:=bP.lt;rw[aB Ψ ((A.ext R).Qz rfl),aX am.u (bN.ext R)];have bR:=bh.trans R;have aE:(et ad z).length=z.length:=sn _ _;refine ch.range z.length (λi H=>ae (λr=>r=gz) bO H/\ap .i64 ah H gz cJ (upto (et ad z) 0 i)) Ω ⟨ae.refl _ _,by rw[p6,aE];exact cI⟩ ?_ ?_
  .rintro i H aa hi ⟨O,aF⟩ af;simp only[aR,aj];refine⟨λ_=>?_,λh=>Ω⟩;have aq:Ext w H:=bR.then O (by rintro r P rfl;omega);have aG:Ext aD H:=R.then O (by rintro r P rfl;omega);obtain⟨p,bi⟩:=aI (l:=z) hi;obtain⟨⟨aZ,gs,L,aC,bM⟩,_⟩:=az.ext aq;rw[bd am.u ah.i Ψ (Q.ext aq) bi,aB Ψ ((C.ext aG).Qz rfl),bZ,aQ cX.p rfl,bD (cs:=[sv]) bw.p bw.i rfl (sub L)];refine (qh aC.ls).mono ?_;rintro _ dv _ ⟨rfl,bS⟩;have bT:=aF.ext bS;have cK:(upto (et ad z) 0 i).length=z.length:=by rw[p5,aE]
   rw[iK rfl am.u ah.i bT Ω];refine iL ah.i bT Ω λdw cM _ bU=>?_;simp only[aP];have h1:=(E.2 i p bi).1;have au:(et ad z)[i]? =σ (hV ad p):=by
    unfold et hV;rw[x8,bi,if_pos h1.1];rfl
   rw[qa au] at bU;exact af _ ⟨(O.trans (bS.V _)).trans cM,bU⟩
  .rintro H aa ⟨O,aF⟩;simp only[aR,aj];refine⟨λh=>Ω,λ_=>?_⟩;have aq:Ext w H:=bR.then O (by rintro r P rfl;omega);have aG:Ext aD H:=R.then O (by rintro r P rfl;omega);rw[<-aE,p7] at aF;obtain⟨⟨aZ,gs,L,aC,bM⟩,_⟩:=az.ext aq;rw[aB Ψ ((C.ext aG).Qz rfl),aO cX.p 1 L rfl];have aJ:b5 (et ad z):=cr.J3 E rfl;have bV:=cq E;have dx:=prod_bound aJ;refine (vi aF.ls).mono ?_;rintro _ bj _ ⟨bW,_,_,_,cN⟩;obtain⟨av,I,W,rfl,dy,dz,dA,aK⟩:=cN aJ bV ⟨hk,Ω,by have:=hk.1;omega⟩;obtain⟨N,aN⟩:∃N:Nat,(aL (et ad z)).toNat=N:=⟨_,rfl⟩;rw[aN] at aK;rw[bx,bz];refine bB eS.i λbX dC dD bY aw=>?_;refine bo eS.i rfl rfl aw (by simp[x1.cells]) λcO cP dE aw=>?_;have dF:=O.size;have dG:=bW.size;have dH:=bY.size;have bk:Ext bj cO:=bY.then cP (by rintro r P rfl;omega);have b0:=bW.trans bk;have cQ:=aK.ext bk;have dI:=aw.lt;obtain⟨⟨bl,b1,b2,b3,cR⟩,⟨b4,b6,_⟩,_,dJ⟩:=id cQ;have dK:0<N:=Ω
   have dM:av<bj.heap.size:=by obtain⟨⟨_,_,q,_⟩,_⟩:=id aK;exact q.lt
   have dN:I<bj.heap.size:=by obtain⟨⟨_,_,_,_,q⟩,_⟩:=id aK;exact sV q Θ
   rw[aB Ψ (aw.Qz rfl),bZ,aQ cX.p rfl,bD (cs:=[W]) bw.p bw.i rfl (sub b2)];refine sC.mono ?_;rintro _ G _ ⟨K,aS,rfl,dO,b7⟩;have dP:=bk.size;have dQ:=K.size;let S:Nat->Prop:=λr=>r=I;let X:=nI ad cs z;have bp:X.length=N:=by simp only[X];rw[AQ,aN]
   let cS:x3->Prop:=λw'=>ab w' g1 eS [Γ g]/\ab w' bJ am [Z]/\ab w' bX eS [Γ av]/\ab w' av cX [W,Δ k,bl]/\
    dh w' g bH sv ad k cs/\aH .i64 w' Z z/\ap .i64 ah w' b1 W (et ad z)/\ab w' aS bw [W]/\G.heap.size<=w'.heap.size
   have facts:∀ {a:x3},ae S G a->cS a:=by
    intro a B;have bq:Ext aD G:=(aG.trans b0).trans K;have br:Ext aD a:=bq.put B Ω;have b8:Ext w a:=bh.trans br;refine⟨C.ext br,A.ext br,(aw.ext K).V B (by show ¬(bX=I);omega),(b2.ext K).V B (by show ¬(av=I);exact b4),az.ext b8,Q.ext b8,bn (b3.ext K) B (λr P he=>b6 ((show r=I from he)▸P)),
     b7.V B (by show ¬(aS=I);omega),B.size⟩
   have b9:=sB (g:=aS) (B0:=G.heap.size) (sv:=W) aJ;rw[aN] at b9;refine na.old ⟨Nat,false,kN,#[Γ aS],0,_,_,_,λq w'=>ae S G w'/\ap .i64 al w' I bl (upto X 0 q),λ_ _ _=>False,rfl,b9.s,
    ?_,λ_ _ B h=>⟨h.1.ext B,h.2.1.ext B,Y5 h.2.2 B.size⟩,λ_ _ _ B h=>⟨h.1.trans (B.V S),h.2.ext B⟩,λ_ _ _ _ _ h=>h,⟨b7,(b3.ext K).ls,o4 _⟩,⟨ae.refl _ _,?_⟩,?_,?_,λ_ _ h=>h.elim,λ_ _ _ h=>h.elim⟩
   .rintro _ _ _ _ ⟨_,_,_,_,rfl,_⟩;rfl
   .rw[p6,bp];exact cR.ext K
   .rintro _ aM q _ dR ⟨_,_,dS⟩ ⟨au,rfl,dT,gt,cT,dU,cU⟩ ⟨aT,cV⟩;cases cT;let x:=cL (et ad z) (q:Int);have ca:x.length=z.length:=by simp only[x];rw[jl,aE]
    intro cW Y _ _;have cb:=cU.ext Y;rw[aX am.u cb.ls];refine kh am.u ah.i (by rw[jl];omega) (by rw[jl];omega) λgo cc dV bt cd=>?_;have cY:ap .i64 ah cc go (.slice (σ ⟨go,0,ν⟩) (cL (et ad z) (q:Int)).length (cL (et ad z) (q:Int)).length) (p9 (cL (et ad z) (q:Int)).length 0):=ap.of (n:=(cL (et ad z) (q:Int)).length) (bQ.full cd Ξ (by rw[jl];simp[maxLen];omega));generalize (x1.slice (σ ⟨go,0,ν⟩) (cL (et ad z) (q:Int)).length (cL (et ad z) (q:Int)).length)=cZ at*;have dW:=aT.size;have dX:=Y.size;have dY:=bt.size;have lo:=cd.lt;have c0:ae S G cc:=aT.trans ((Y.trans bt).V S);have f:=facts c0;rw[aB Ψ (f.2.1.Qz rfl),aX am.u f.2.2.2.2.2.1];refine ch.range z.length (λj aU=>Ext cW aU/\ ∃y:Λ,y.length=z.length/\ap .i64 ah aU go cZ y/\ ∀ (i:Nat) (p:Int),i<j->z[i]? =σ p->y[p.toNat]? =x[i]?) Ω
     ⟨bt,_,by simp[ca,x],cY,λi p hi=>Ω⟩ ?_ ?_
    .rintro j aU aa bc ⟨ax,y,bu,aV,bA⟩ af;simp only[aR,aj];refine⟨λ_=>?_,λh=>Ω⟩;have f:=facts (aT.trans ((Y.trans ax).V S));obtain⟨p,aW⟩:=aI (l:=z) bc;obtain⟨u,hu⟩:=aI (l:=x) (i:=j) Ω;have dZ:=(E.2 j p aW).1;rw[bd am.u ah.i Ψ f.2.2.2.2.2.1 aW,bd am.u ah.i Ψ (cb.ext ax).ls hu,iK (i:=p.toNat) Ω am.u ah.i aV Ω];refine iL ah.i aV Ω λea c1 eb c2=>?_;simp only[aP];refine af _ ⟨ax.then c1 (by rintro r P rfl;omega),_,by simpa using bu,c2,λi a1 hi ay=>?_⟩;by_cases ce:i=j
     .subst ce;rw[aW] at ay;cases ay;rw[j4 Ω,hu]
     .have ec:=(E.2 i a1 ay).1;have ak:p.toNat≠a1.toNat:=λhe=>by
       have:p=a1:=Ω
       subst this;exact ce (E.inj ay aW)
      rw[Y0 ak];exact bA i a1 Ω ay
    .rintro aU aa ⟨ax,y,bu,aV,bA⟩;simp only[aR,aj];refine⟨λh=>Ω,λ_ c3 cg _ _=>?_⟩;have ag:y=lW z x:=AO E (by rw[ca,bg]) (by rw[bu,bg]) λi p ci=>bA i p (x4.1 ci).1 ci;have cj:=ax.trans cg;have ck:ae S G c3:=aT.trans ((Y.trans cj).V S);obtain⟨f1,f2,f3,f4,f5,f6,f7,f8,f9⟩:=facts ck;rw[aB Ψ (f3.Qz rfl),aO cX.p 2 f4 rfl,aB Ψ (f1.Qz rfl)];refine (vj f5 (aV.ls.ext cg)).mono ?_;rintro _ ed _ ⟨rfl,bC⟩;refine⟨.inl bC,?_⟩;obtain⟨e,he⟩:=v7 ad y cs;rw[he,bx,bz];have c4:=ck.trans (bC.V S);have cl:=(cV.ext ((Y.trans cj).trans bC));have cK:(upto X 0 q).length=N:=by rw[p5,bp]
     rw[iK rfl ao.u al.i cl Ω];refine iL al.i cl Ω λc5 c6 ee cm=>?_;have cn:ae S G c5:=c4.trans (c6.mono λr _ h=>h);obtain⟨f1,f2,f3,f4,f5,f6,f7,f8,f9⟩:=facts cn;have c7:X[q]? =σ (a7 ad cs y):=by
      simp only[X,nI];rw[x8,List.getElem?_range (by rw[aN];exact au),ag];rfl
     rw[qa c7] at cm;exact⟨⟨f8,f7.ls,f9⟩,⟨cn,cm⟩,λh=>by cases h⟩
   .rintro q ef au ⟨bE,bF⟩;rw[show q=N from au] at bF;have f:=facts bE;rw[aB Ψ (f.2.2.1.Qz rfl)];intro eg bG _;obtain⟨f1,f2,f3,f4,f5,f6,f7,f8,f9⟩:=facts (bE.trans (bG.V S));rw[<-bp,p7] at bF;have bq:Ext w G:=(aq.trans b0).trans K;refine⟨(bq.put bE Ω).trans bG,λc9=>absurd E c9,λ_=>⟨av,I,W,rfl,⟨bl,b1,f4,f7,bF.ext bG⟩,⟨b4,b6,bV⟩,aJ,AQ _ _ _⟩⟩
def gZ (l:Λ):Prop:=∀ (i j:Nat) (x y:Int),i<j->l[i]? =σ x->l[j]? =σ y->x<y
theorem gZ.inj (h:gZ l) {i:Nat} {x:Int} (hi:l[i]? =σ x) (a:l[j]? =σ x):i=j:=by
 rcases Nat.lt_trichotomy i j with h1|h1|h1
 .have:=h i j x x h1 hi a;omega
 .exact h1
 .have:=h j i x x h1 a hi;omega
def dedup (l:Λ):Nat->Λ
 |0=>[]
 |j+1=>if 0<j/\l[j]? =l[j-1]? then dedup l j else dedup l j++[l.getD j 0]
theorem Cl (l:Λ):∀j,(dedup l j).length<=j
 |0=>o4 _
 |j+1=>by
  have:=Cl l j;unfold dedup;split
  .omega
  .simp;omega
theorem wa (a:0<j) (h:l[j]? =l[j-1]?):dedup l (j+1)=dedup l j:=by
 rw[dedup,if_pos ⟨a,h⟩]
theorem wb {x:Int} (e:l[j]? =σ x) (h:0<j->l[j]? ≠l[j-1]?):dedup l (j+1)=dedup l j++[x]:=by
 rw[dedup,if_neg (λa=>h a.1 a.2),u4,e];rfl
theorem s3 {l:Λ}:∀ {j:Nat},j<=l.length->(∀i,i<j->0<i->l[i]? ≠l[i-1]?)->dedup l j=l.take j
 |0,_,_=>by simp[dedup]
 |j+1,f,h=>by
  have a:l[j]? =σ l[j]:=x6 Ω;rw[wb a (h j Ω),s3 Ω (λi hi e=>h i Ω e),u9,a];rfl
theorem Cm {l:Λ} (I:l.Pairwise (·<= ·)):∀ {j:Nat},j<=l.length->(gZ (dedup l j)/\ ∀x,x∈dedup l j↔x∈l.take j)
 |0,_=>⟨λi j x y _ h=>by simp[dedup] at h,λx=>by simp[dedup]⟩
 |j+1,J=>by
  obtain⟨h1,q⟩:=Cm I (j:=j) Ω;have f:l[j]? =σ l[j]:=x6 Ω;by_cases p:0<j/\l[j]? =l[j-1]?
  .rw[wa p.1 p.2];refine⟨h1,λx=>?_⟩;rw[q,u9,f];simp only[o7,l7,l9];refine⟨.inl,λh=>h.elim id λhe=>?_⟩;subst he;have s:(l.take j)[j-1]? =σ l[j]:=by rw[Y8 Ω,<-p.2,f]
   exact x5 s
  .have w:0<j->l[j]? ≠l[j-1]?:=λB he=>p ⟨B,he⟩;rw[wb f w];have C:∀x∈dedup l j,x<l[j]:=λx E=>by
    obtain⟨i,hi,he⟩:=List.getElem_of_mem ((q x).1 E);have K:i<j:=by rw[j5] at hi;omega
    rw[List.getElem_take] at he;subst he;have s:l[i]<=l[j-1]:=by
     by_cases z:i=j-1
     .subst z;exact Int.le_refl _
     .exact V2.1 I i (j-1) Ω Ω Ω
    have z:=V2.1 I (j-1) j Ω Ω Ω;have A:=w Ω;rw[f,x6 (show j-1<l.length by omega)] at A;have L:l[j]≠l[j-1]:=λh=>A (by rw[h]);omega
   refine⟨λa b x y F r e=>?_,λx=>?_⟩
   .have G:=(x4.1 e).1;simp only[p8,Z0,List.length_nil] at G;rw[Z8 Ω] at r;by_cases H:b=(dedup l j).length
    .subst H;rw[Z9 (o4 _),U1] at e;simp at e;subst e;exact C x (x5 r)
    .rw[Z8 Ω] at e;exact h1 a b x y F r e
   .rw[u9,f];simp only[o7,l7,l9,q]
def qA (l:Λ):Prop:=∀ (j:Nat) (x:Int),l[j]? =σ x->0<=x/\(0<j-> ∀y,l[j-1]? =σ y->y<x)
theorem qA.up (h:qA l):gZ l:=by
 intro i j x y r f;induction j generalizing y with
 |zero=>omega
 |succ j p=>
  intro e;have s:=(x4.1 e).1;obtain⟨z,a⟩:∃z,l[j]? =σ z:=⟨_,x6 (show j<l.length by omega)⟩;have h1:=(h (j+1) y e).2 Ω z (by simpa using a);by_cases q:i=j
  .subst q;rw[f] at a;cases a;exact h1
  .have:=p z Ω a;omega
theorem Mj (h:gZ l) (e:∀x∈l,0<=x):qA l:=λj x a=>⟨e x (x5 a),λp y f=>h (j-1) j y x Ω f a⟩
theorem Cn {g I:Nat} {E:x1} {cs:Λ} (h:dh w g I sv ad k cs) (a:aH .i64 w E l):
  ai x7 H6 [Γ g,E] w λv w'=>Ext w w'/\ ∃c,v= .bool c/\(c=true↔l.length=ad.length/\qA l):=by
 obtain⟨⟨aZ,gs,K,hm,q⟩,_⟩:=h;have sub:w.rangeAt g (0+0) [sv]:=nA K (by
  intro j v r
  match j,r with
  |0,r=>exact r)
 refine aw func198 ?_;rw[aX am.u a,bZ,aQ cX.p rfl,bD (cs:=[sv]) bw.p bw.i rfl sub];refine (Bb hm.ls).mono ?_;rintro _ J _ ⟨rfl,s⟩;simp only[bL,aj];refine⟨λL=>⟨s,false,rfl,(λh=>by cases h),λh=>absurd (by rw[h.1]) L⟩,λG=>?_⟩;have G:l.length=ad.length:=Ω
 rw[aX am.u (a.ext s)];refine b1.range l.length (λi _ U=>Ext w U/\ ∀ (j:Nat) (x:Int),j<i->l[j]? =σ x->0<=x/\(0<j-> ∀y,l[j-1]? =σ y->y<x)) a.le ⟨s,λj x M=>Ω⟩ ?_ ?_
 .rintro i _ U N hi ⟨e,z⟩ O;simp only[aR,aj];refine⟨λ_=>?_,λh=>Ω⟩;obtain⟨x,f⟩:=aI (l:=l) hi;have W:=a.le;rw[bd am.u ah.i Ψ (a.ext e) f];refine aU (λv P=>U=P/\ ∃c,v= .bool c/\(c=false↔0<=x/\(0<i-> ∀y,l[i-1]? =σ y->y<x))) ?_ ?_
  .rintro _ _ ⟨rfl,c,rfl,q⟩;rw[bY];simp only[aP];refine⟨λQ=>⟨e,false,rfl,(λh=>by cases h),λh=>?_⟩,λR=>O _ _ ⟨e,λj S M A=>?_⟩⟩
   .have:=q.2 (h.2 i x f);rw[Q] at this;cases this
   .by_cases V:j=i
    .subst V;rw[f] at A;cases A;exact q.1 R
    .exact z j S Ω A
  .intro av B;simp only[aR,bT,dZ,aj];refine⟨λX=>B _ _ ⟨rfl,true,rfl,(λh=>by cases h),λh=>Ω⟩,λY=>⟨λZ=>?_,λaa=>B _ _ ⟨rfl,false,rfl,λ_=>⟨Ω,λh=>Ω⟩,λ_=>rfl⟩⟩⟩;obtain⟨y,C⟩:∃y,l[i-1]? =σ y:=⟨_,x6 (show i-1<l.length by omega)⟩;rw[wrap_i64 Ω Ω,fy (i:=i-1) Ω am.u ah.i Ψ (a.ext e) C];simp only[cY];refine B _ _ ⟨rfl,_,rfl,?_⟩;rw[decide_eq_false_iff_not];refine⟨λh=>⟨Ω,λ_ ab H=>by rw[C] at H;cases H;omega⟩,λh=>by have:=h.2 Ω y C;omega⟩
 .rintro _ U N ⟨e,z⟩;simp only[aR,aj];exact⟨λh=>Ω,λ_=>⟨e,true,rfl,λ_=>⟨G,λj x f=>z j x (x4.1 f).1 f⟩,λ_=>rfl⟩⟩
def hy (l:Λ) (x:Int):Int:=if x∈l then (l.idxOf x:Int) else-1
theorem Co {i:Nat} {x:Int} (h:gZ l) (hi:l[i]? =σ x):hy l x=i:=by
 have hm:x∈l:=x5 hi;have a:=List.idxOf_lt_length_of_mem hm;have e:l.idxOf x=i:=h.inj (by rw[x6 a,List.getElem_idxOf a]) hi;unfold hy;rw[if_pos hm,e]
theorem Mk {x:Int} (h:x∉l):hy l x= -1:=if_neg h
theorem wc {x:Int} (h:aH .i64 w sv l) (hu:gZ l):
  ai x7 zi [sv,Δ x] w λv w'=>v=Δ (hy l x)/\Ext w w':=by
 refine aw func196 ?_;rw[aX am.u h];refine b1.range l.length (λi _ J=>Ext w J/\ ∀j,j<i->l[j]? ≠σ x) h.le ⟨Ext.refl _,λj p=>Ω⟩ ?_ ?_
 .rintro i _ J k hi ⟨a,e⟩ hk;simp only[aR,aj];refine⟨λ_=>?_,λh=>Ω⟩;obtain⟨y,f⟩:=aI (l:=l) hi;rw[bd am.u ah.i Ψ (h.ext a) f];simp only[bh,aj,aP];refine⟨λhe=>⟨?_,a⟩,λhe=>hk _ _ ⟨a,λj p=>?_⟩⟩
  .subst he;rw[Co hu f]
  .by_cases q:j=i
   .subst q;rw[f];intro h;exact he (c8 h).symm
   .exact e j Ω
 .rintro _ J k ⟨a,e⟩;simp only[aR,aj];refine⟨λh=>Ω,λ_=>⟨?_,a⟩⟩;rw[Mk];intro hm;obtain⟨i,hi,he⟩:=List.getElem_of_mem hm;exact e i hi (by rw[x6 hi,he])
def e3 (x vars scope:Λ):Λ:=scope.map λp=>x.getD (vars.idxOf p) 0
theorem Ml (x vars scope:Λ):(e3 x vars scope).length=scope.length:=by simp[e3]
theorem Cp {eY s:x1} {x vars:Λ} (C:aH .i64 w eY x) (E:aH .i64 w s vars) (I:aH .i64 w sv scope) (hu:gZ vars) (G:∀p∈scope,p∈vars) (Q:x.length=vars.length) (R:scope.length<=1000):
  ai x7 Ib [eY,s,sv] w λv w'=>Ext w w'/\ ∃g,w.heap.size<=g/\ap .i64 ah w' g v (e3 x vars scope):=by
 refine aw func203 ?_;rw[aX am.u I];refine kh am.u ah.i Ω Ω λgz J S y H=>?_;have K:ap .i64 ah J gz (.slice (σ ⟨gz,0,ν⟩) scope.length scope.length) (p9 scope.length 0):=ap.of (n:=scope.length) (bQ.full H Ξ (by simp[maxLen];omega));generalize (x1.slice (σ ⟨gz,0,ν⟩) scope.length scope.length)=L at*;rw[aX am.u (I.ext y)];have j:=Ml x vars scope;refine ch.range scope.length (λi U=>Ext w U/\ap .i64 ah U gz L (upto (e3 x vars scope) 0 i)) Ω ⟨y,by rw[p6,j];exact K⟩ ?_ ?_
 .rintro i U M hi ⟨a,hm⟩ N;simp only[aR,aj];refine⟨λ_=>?_,λh=>Ω⟩;obtain⟨p,q⟩:=aI (l:=scope) hi;have z:=G p (x5 q);have V:=List.idxOf_lt_length_of_mem z;rw[bd am.u ah.i Ψ (I.ext a) q];refine (wc (E.ext a) hu).mono ?_;rintro _ W _ ⟨rfl,f⟩;have e:hy vars p=(vars.idxOf p:Int):=if_pos z;obtain⟨u,A⟩:∃u,x[vars.idxOf p]? =σ u:=⟨_,x6 Ω⟩;have X:(upto (e3 x vars scope) 0 i).length=scope.length:=by rw[p5,j]
  rw[fy (i:=vars.idxOf p) e am.u ah.i Ψ (C.ext (a.trans f)) A,iK rfl am.u ah.i (hm.ext f) Ω];refine iL ah.i (hm.ext f) Ω λY O _ B=>?_;simp only[aP];have P:(e3 x vars scope)[i]? =σ u:=by
   unfold e3;rw[x8,q,Z4,u4,A];rfl
  rw[qa P] at B;exact N _ ⟨(a.trans f).then O (by rintro r Z rfl;omega),B⟩
 .rintro U M ⟨a,hm⟩;simp only[aR,aj];refine⟨λh=>Ω,λ_=>⟨a,gz,Ω,?_⟩⟩;rw[<-j,p7] at hm;exact hm
theorem Cq (j:t≠[]) (hw:∀b∈t,bN b=true):lex t=([t],true):=by
 cases t with
 |nil=>exact absurd rfl j
 |cons b q=>
  have a:q.dropWhile bN=[]:=by
   have:∀ (q:Λ),(∀x∈q,bN x=true)->q.dropWhile bN=[]/\q.takeWhile bN=q:=λq a=>by
    induction q with
    |nil=>simp
    |cons x q e=>
     have:=e λy f=>a y (.tail _ f);simp[a x (.head _),this.1,this.2]
   exact (this q λx h=>hw x (.tail _ h)).1
  have p:q.takeWhile bN=q:=by
   have:∀ (q:Λ),(∀x∈q,bN x=true)->q.takeWhile bN=q:=λq a=>by
    induction q with
    |nil=>simp
    |cons x q e=>simp[a x (.head _),e λy f=>a y (.tail _ f)]
   exact this q λx h=>hw x (.tail _ h)
  rw[Ae (hw b (.head _)),a,p]
theorem Cr {p:x1} (h:aH .u8 w p l) (e:Bytes l) (f:l.length<=100000):ai x7 yZ [p] w λv w'=>Ext w w'/\ ∃g R,v=Γ g/\w.heap.size<=g/\hs w' g R (lex l).1 (lex l).2/\¬R g:=by
 refine (Am h e f).mono ?_;rintro _ J _ ⟨j,g,rfl,q,s,a⟩;obtain⟨h1,z,A,x,bl,hm⟩:=id a;exact⟨j,g,λr=>r≠g,rfl,q,⟨s,l,0,a,λr y=>cc hm x Φ y,by rw[List.drop_zero]⟩,λh=>h rfl⟩
theorem Mm {p:x1} (h:aH .u8 w p t) (y:Bytes t) (z:t.length<=100000) (A:t≠[]) (hw:∀b∈t,bN b=true):ai x7 Im [p] w λv w'=>Ext w w'/\ ∃n:Int,v= .tuple #[Δ 1,Δ n,Δ 0]:=by
 have B:=Cq A hw;refine aw func222 ?_;refine (Cr h y z).mono ?_;rintro _ J _ ⟨C,g,R,rfl,G,j,H⟩;rw[B] at j;refine⟨λ_ _ _ a U=>ae (λr=>r=g) J U/\((a=Δ 0/\hs U g R [t] true)\/(a=Δ 1/\hs U g R [] true)),λ_ _ _ a _=>1-(b2 a).toNat,⟨ae.refl _ _,.inl ⟨rfl,j⟩⟩,?_⟩;rintro _ _ _ _ U ⟨q,⟨rfl,e⟩|⟨rfl,e⟩⟩
 .refine (qd e).mono ?_;rintro v s _ ⟨f,E,n,rfl⟩;rw[h6,h7,h8,bh,aj];refine⟨λ_=>?_,λh=>absurd rfl h⟩;rw[aP,wrap_i64 Ω Ω];exact⟨⟨q.trans f,.inr ⟨rfl,E⟩⟩,by simp[b2]⟩
 .refine (qd e).mono ?_;rintro v s _ ⟨f,n,rfl⟩;rw[h6,h7,h8,bh,aj];refine⟨λh=>by simp at h,λ_=>?_⟩;rw[bh,aj];refine⟨λh=>by simp at h,λ_=>?_⟩;have x:Ext w s:=C.then (q.trans f) (λr I he=>by have he:r=g:=he;omega);rw[aX cP.u (h.ext x)];exact⟨x,_,rfl⟩
theorem Mn (a:Bytes t) (e:t.length<=100000) (f:t≠[]) (hw:∀b∈t,bN b=true):ai x7 H1 [bU t] w λv w'=>v= .bool true/\Ext w w':=by
 have y:=Cq f hw;refine aw func189 ?_;refine vn c3.u cP.u cI.u a Ω λbv J j z _=>?_;refine (Mm z a e f hw).mono ?_;rintro _ U _ ⟨p,n,rfl⟩;rw[h6,h7,h8];refine vn c3.u cP.u cI.u a Ω λI K q A _=>?_;refine (Cr A a e).mono ?_;rintro _ L _ ⟨B,g,R,rfl,M,s,N⟩;rw[y] at s;refine (qd s).mono ?_;rintro _ x _ ⟨C,_,m,rfl⟩;rw[h6,h7,h8];have E:Ext w x:=(((j.trans p).trans (q.trans B))).then C (λr O he=>by
  have he:r=g:=he;have:=j.size;have:=p.size;have:=q.size;omega)
 refine aU (λv G=>x=G/\v= .bool true) ?_ ?_
 .rintro _ _ ⟨rfl,rfl⟩;exact⟨rfl,E⟩
 .intro av H;rw[bh,aj];refine⟨λ_=>?_,λh=>absurd rfl h⟩;rw[bh,aj];refine⟨λ_=>?_,λh=>absurd rfl h⟩;rw[Aa a a];exact H _ _ ⟨rfl,by rw[decide_eq_true rfl]⟩
theorem Mo {x:Int}:ai x7 uY [Δ x] w λv w'=>v= .bool (decide (¬ic x))/\Ext w w':=by
 refine aw func188 ?_;refine aU (λv J=>w=J/\v= .bool (decide (¬ic x))) ?_ ?_
 .rintro _ _ ⟨rfl,rfl⟩;exact⟨rfl,Ext.refl _⟩
 .intro av e;rw[aR,aj];refine⟨λh=>e _ _ ⟨rfl,by rw[decide_eq_true];intro a;have:=a.1;omega⟩,λh=>?_⟩;rw[bT];refine e _ _ ⟨rfl,?_⟩;congr 1;rw[V3,decide_eq_true_eq,decide_eq_true_eq];exact⟨λf a=>by have:=a.2;omega,λf=>by
   by_cases j:32<x
   .exact j
   .exact absurd ⟨Ω,Ω⟩ f⟩
theorem Mp (h:aH .i64 w sv l) (f:∀x∈l,ic x):
  ai x7 uX [sv,.func (.func uY) #[] #[]] w λv w'=>v= .bool false/\Ext w w':=by
 refine aw func186 ?_;refine ai.mono (K:=λv w'=>v=Δ (-1)/\Ext w w') ?_ ?_
 .refine aw func221 ?_;rw[aX am.u h];refine b1.range l.length (λ_ _ J=>Ext w J) h.le (Ext.refl _) ?_ ?_
  .rintro i _ J k hi a hk;refine bH Ω ?_;obtain⟨x,e⟩:=aI (l:=l) hi;rw[bd am.u ah.i Ψ (h.ext a) e];show ai x7 uY [Δ x] J _;refine Mo.mono ?_;rintro _ U _ ⟨rfl,j⟩;rw[aj];refine⟨λp=>absurd (f x (x5 e)) p,λ_=>?_⟩;rw[aP];exact hk _ _ (a.trans j)
  .rintro _ J k a;rw[aR,aj];exact⟨λh=>Ω,λ_=>⟨rfl,a⟩⟩
 .rintro _ J _ ⟨rfl,a⟩;rw[cY];exact⟨rfl,a⟩
theorem s4 {m:Bool} {S R:ag} {d:gY} (h:ak.rep m S R w cs d):∃sv g a aM gs,cs=[sv,Γ g]/\aH .i64 w sv d.1/\fF w g a aM gs d.2.ad d.2.k d.2.o d.2.D:=by
 obtain⟨c,e,A,B,rfl,_,_,_,h1,f⟩:=h;have h1:ak.rep (α:=Λ) false bC R w c d.1:=h1;obtain⟨u,rfl⟩:=W8.1 (show c.length=1 from ak.len h1);obtain⟨g,m,sv,gs,rfl,j,_⟩:=f;exact⟨u,g,m,sv,gs,rfl,cU h1,j⟩
theorem Mq {W:Nat} {f:b6} {d:gY} {x:cv} {m:Bool} {S R:ag} (ao:k9 w W f) (ap:e7 N f) (aq:x∈f.funs) (au:qz f.k x d) (ax:ak.rep m S R w cs d):
  ai x7 In [Γ W,.agg cs.toArray] w λv w'=>v= .bool true/\Ext w w':=by
 obtain⟨szv,aK,gz,aL,X,Y,_,_⟩:=ao;obtain⟨sv,af,aN,aM,gs,rfl,s,K⟩:=s4 ax;obtain⟨ay,Z,az,aQ,aS,aT⟩:=au;obtain⟨G,aV,aW⟩:=ap.funs x aq;rw[ay] at s;refine aw func224 ?_;refine bm λan J aZ A H=>?_;have H:ab J an cD [sv,Γ af]:=by obtain⟨_,_,_,rfl⟩:=ds s;exact H
 refine aU (λv U=>Ext J U/\v= .bool false) ?_ ?_
 rotate_left
 .intro av L;intro U q _ _;have z:=H.ext q;rw[aA cD.p 1 z rfl,dn eR.u];simp only[Z5,aY];rw[aA cD.p 1 z rfl,aO cC.p 1 (X.ext (A.trans q)) rfl];refine (KD (K.ext (A.trans q)).is).mono ?_;rintro _ B _ ⟨rfl,a⟩;refine⟨.inl a,?_⟩;rw[bL,aj];refine⟨λh=>absurd az h,λ_=>?_⟩;have C:=z.ext a;have M:=q.trans a;rw[aA cD.p 1 C rfl,aA cD.p 0 C rfl,aX am.u (s.ext (A.trans M))];refine (KE (K.ext (A.trans M)).is).mono ?_;rintro _ I _ ⟨rfl,e⟩;refine⟨.inl e,?_⟩;rw[bL];refine L _ _ ⟨M.trans e,?_⟩;rw[decide_eq_false];intro h;exact h (by rw[Z,G.sizes,u7])
 rintro _ U ⟨q,rfl⟩;rw[aY];have z:=H.ext q;have O:=A.trans q;rw[aA cD.p 0 z rfl,aX am.u (s.ext O)];refine b1.range x.scope.length (λ_ _ B=>Ext U B) Ω (Ext.refl _) ?_ ?_
 rotate_left
 .rintro _ B k a;rw[aR,aj];exact⟨λh=>Ω,λ_=>⟨rfl,O.trans a⟩⟩
 rintro i _ B k hi a hk;obtain⟨v,E⟩:=aI (l:=x.scope) hi;have a1:=G.scope.2 v (x5 E);have P:=O.trans a;have C:=z.ext a;have aa:=X.ext P;have aC:f.sizes[v.toNat]? =σ (f.sizes.getD v.toNat 0):=by
  rw[u4,x6 Ω];rfl
 refine bH Ω ?_;rw[bd am.u ah.i Ψ (s.ext P) E];refine aU (λb I=>Ext B I/\b= .bool false) ?_ ?_
 .rintro _ I ⟨e,rfl⟩;rw[aY,aP];exact hk _ _ (a.trans e)
 .intro av L;intro I e _ _;have Q:=P.trans e;refine cd Ω ?_;rw[aO cC.p 2 (aa.ext e) rfl,aX am.u (Y.ls.ext Q),cY,aj];refine⟨λh=>Ω,λ_=>?_⟩;rw[aA cD.p 0 (C.ext e) rfl];refine (Ck (s.ext Q)).mono ?_;rintro _ a2 _ ⟨ac,r,rfl,aD⟩;have aE:r=(i:Int):=(aD i E).2 λj a6 aF=>by have:=kq G.scope.1 aF E;omega
  subst aE;have ae:=Q.trans ac;have V:=e.trans ac;rw[bL,aj];refine⟨λh=>absurd rfl h,λ_=>?_⟩;rw[aA cD.p 1 (C.ext V) rfl,aO cC.p 2 (aa.ext V) rfl];refine pZ (y:=v) (i:=v.toNat) Ω am.u ah.i (Y.ls.ext ae) aC λb o aG=>?_;rw[aB Ψ aG];refine (vJ (K.ext ae).is).mono ?_;rintro a7 a8 _ ⟨al,ba,bb,aH⟩;refine⟨.inl al,?_⟩;have aJ:d.2.ad[i]? =σ (f.sizes.getD v.toNat 0):=by
   rw[Z,G.sizes,x8,E];rfl
  rw[bd am.u ah.i Ψ aH.ls aJ,bL];exact L _ _ ⟨V.trans al,by rw[decide_eq_false (λh=>h rfl)]⟩
theorem Mr {f:b6} {d:gY} {x:cv} {m:Bool} {S R:ag} (q:k9 w j f) (r:e7 N f) (s:x∈f.funs) (y:qz f.k x d) (a:ak.rep m S R w cs d):
  ai x7 uZ [Γ j,.agg cs.toArray] w λv w'=>v= .bool false/\Ext w w':=by
 refine aw func191 ?_;refine bm λan J C e h=>?_;have z:cs.length=2:=ak.len a;have h:ab J an cD cs:=by
  obtain⟨sv,af,E,aM,gs,rfl,A,G⟩:=s4 a;obtain⟨_,_,_,rfl⟩:=ds A;exact h
 rw[bD cD.p cD.i z h.range];refine (Mq (q.ext e) r s y (bc a e)).mono ?_;rintro _ U _ ⟨rfl,B⟩;rw[bG];exact⟨rfl,e.trans B⟩
theorem Ms {f:b6} {r:x1} {e:List gY} {m:Bool} {S R:ag} (A:k9 w j f) (B:e7 N f) (q:ak.rep m S R w [r] e) (s:sZ f.k f.funs e):
  ai x7 H2 [r,.func (.func uZ) #[Γ j] #[]] w λv w'=>v= .bool false/\Ext w w':=by
 refine aw func190 ?_;refine ai.mono (K:=λv w'=>v=Δ (-1)/\Ext w w') ?_ ?_
 .refine aw func223 ?_;rw[fA dK.u q];refine b1.range e.length (λ_ _ J=>Ext w J) (nv q) (Ext.refl _) ?_ ?_
  .rintro i _ J k hi a hk;refine bH Ω ?_;obtain⟨d,y⟩:=aI (l:=e) hi;obtain⟨x,z⟩:∃x,f.funs[i]? =σ x:=⟨_,x6 (by have:=s.1;omega)⟩;refine kj (α:=gY) cD.p rfl dK.u cD.i (bc q a) y λcs C=>?_;show ai x7 uZ [Γ j,.agg cs.toArray] J _;refine (Mr (A.ext a) B (x5 z) (s.2 i x d z y) C).mono ?_;rintro _ U _ ⟨rfl,E⟩;rw[aY,aP];exact hk _ _ (a.trans E)
  .rintro _ J k a;rw[aR,aj];exact⟨λh=>Ω,λ_=>⟨rfl,a⟩⟩
 .rintro _ J _ ⟨rfl,a⟩;rw[cY];exact⟨rfl,a⟩
def l0 (a:List cv):Nat:=(a.map λx=>x.lines.length).sum
theorem Mt {ae:Nat} {f:b6} (ag:k9 w ae f) (r:e7 N f) (bf:N<=60000) (V:f.name≠[]/\ ∀b∈f.name,bN b=true):
  ai x7 HD [Γ ae] w λv w'=>Ext w w'/\ ∃e:Int,v=Δ e/\(l0 f.funs<=16384->e=0):=by
 obtain⟨szv,bg,gz,y,A,W,X,B⟩:=id ag;have bi:=r.name;have aD:Bytes f.name:=λb aE=>by
  have:=of_decide_eq_true (V.2 b aE);omega
 refine aw func150 ?_;rw[dn u1.u];simp only[Z5,aY];refine aU (λv J=>Ext w J/\v= .bool false) ?_ ?_
 rotate_left
 .intro av s;rw[aO cC.p 0 A rfl];refine (Mn aD Ω V.1 V.2).mono ?_;rintro _ J _ ⟨rfl,q⟩;rw[bG,Y4,aY];rw[aO cC.p 2 (A.ext q) rfl,aX am.u (W.ls.ext q),bh,aj];refine⟨λh=>by have:=r.sizes.1;omega,λ_=>?_⟩;rw[aO cC.p 2 (A.ext q) rfl];refine (Mp (W.ls.ext q) r.sizes.2.2).mono ?_;rintro _ U _ ⟨rfl,C⟩;have ak:=q.trans C;rw[aY,aO cC.p 1 (A.ext ak) rfl];refine zH.mono ?_;rintro _ E _ ⟨rfl,G⟩;have M:=ak.trans G;rw[decide_eq_true (show right f.k from r.k),bG,Y4,aY,aO cC.p 3 (A.ext M) rfl,mq];refine (Ms (ag.ext M) r (bc X M) B).mono ?_;rintro _ aq _ ⟨rfl,aF⟩;exact s _ _ ⟨M.trans aF,rfl⟩
 rintro _ J ⟨q,rfl⟩;rw[aY];have O:=A.ext q;refine aU (λv U=>J=U/\v= .bool false) ?_ ?_
 rotate_left
 .intro av s;rw[aO cC.p 0 O rfl,nD c3.u,bT,aj];refine⟨λh=>Ω,λ_=>?_⟩;rw[aO cC.p 2 O rfl,aX am.u (W.ls.ext q),bT,aj];refine⟨λh=>by have:=r.sizes.2.1;omega,λ_=>?_⟩;rw[aO cC.p 3 O rfl,fA dK.u (bc X q),bT];exact s _ _ ⟨rfl,by rw[decide_eq_false];have:=r.k0;have:=B.1;omega⟩
 rintro _ _ ⟨rfl,rfl⟩;have au:=bc X q;rw[aO cC.p 3 O rfl,fA dK.u au];refine⟨λaG aH Y U=>∃i n:Nat,Y=Δ (i:Int)/\i<=y.length/\aG=Δ (n:Int)/\aH= .bool false/\Ext J U/\n<=l0 (f.funs.take i)/\n<=i*60000,λ_ _ Y _=>y.length-(b2 Y).toNat,
  ⟨0,0,rfl,X3 _,rfl,rfl,Ext.refl _,X3 _,Ω⟩,?_⟩
 rintro _ _ _ U ⟨i,n,rfl,hi,rfl,rfl,C,aJ,bj⟩;have bk:y.length<=256:=by rw[B.1];exact r.k0
 rw[aR,aj];refine⟨λax=>?_,λbl=>?_⟩
 .have ax:i<y.length:=Ω
  obtain⟨d,ay⟩:=aI (l:=y) ax;obtain⟨x,Z⟩:∃x,f.funs[i]? =σ x:=⟨_,x6 (by have:=B.1;omega)⟩;have P:=B.2 i x d Z ay;obtain⟨Q,aK,aL⟩:=r.funs x (x5 Z);have bm:=Q.len;refine iB (λa b E=>Ext U E/\a=Δ ((n+d.2.D.length:Nat):Int)/\b= .bool false) ?_ ?_
  .rintro _ _ E ⟨G,rfl,rfl⟩;rw[aP,wrap_i64 Ω Ω];have aN:=P.2.2.2.2.1;refine⟨⟨i+1,n+d.2.D.length,rfl,Ω,rfl,rfl,C.trans G,?_,?_⟩,by simp only[b2];omega⟩
   .have e:l0 (f.funs.take (i+1))=l0 (f.funs.take i)+x.lines.length:=by
     unfold l0;rw[u9,Z,o7,j6,List.sum_append,V4,List.map_nil,List.sum_cons,List.sum_nil,Nat.add_zero]
    omega
   .have:(i+1)*60000=i*60000+60000:=Ω
    have bn:d.2.D.length<=60000:=Ω
    omega
  .intro av s;refine kj (α:=gY) cD.p rfl dK.u cD.i (bc au C) ay λcs aQ=>?_;obtain⟨sv,af,bo,aM,gs,rfl,aS,az⟩:=s4 aQ;refine bB cD.i λan E bp G aT=>?_;refine b3 (vs:=[sv,Γ af]) cD.i rfl rfl (by intro v R;simp at R;rcases R with rfl|rfl<;>first|exact aS.cells.2|rfl) aT λaq aV bq aB=>?_;have aa:Ext U aq:=G.put aV Ω;rw[aA cD.p 1 aB rfl];refine (KC (az.ext aa).is).mono ?_;rintro _ br _ ⟨rfl,ab⟩;have aN:=P.2.2.2.2.1;rw[aP,wrap_i64 Ω Ω,aA cD.p 1 (aB.ext ab) rfl];refine (vJ ((az.ext aa).ext ab).is).mono ?_;rintro bt ac _ ⟨aW,bu,bw,aC⟩;rw[aX am.u aC.ls];have bx:d.2.ad.length<=6:=by rw[P.2.1,Q.sizes,u7];exact aK
   refine b1.range d.2.ad.length (λj out S=>Ext ac S/\ ∃gr,ac.heap.size<=gr/\ap .i64 al S gr out (d.2.ad.take j)) Ω ⟨Ext.refl _,ac.heap.size,o4 _,ap.nil _ _ _ _⟩ ?_ ?_
   .rintro j out S k aZ ⟨H,gr,a1,I⟩ hk;obtain⟨z,K⟩:=aI (l:=d.2.ad) aZ;refine bH Ω ?_;rw[bd am.u ah.i Ψ (aC.ls.ext H) K];refine ep ao.u al.i rfl λa ga a2 bz L a6=>?_;refine jk ao.u al.i rfl (I.ext L) a6.ls Θ Θ λbA a7 bC bD a8 ba=>?_;have bE:=H.size;have bF:=L.size;rw[aP];refine hk _ _ ⟨(H.trans L).put ba Ω,a7,Ω,?_⟩;rw[u9,K];exact a8
   .rintro out S k ⟨H,gr,a1,I⟩;rw[o5] at I;refine cd Ω ?_;rw[aY];have bb:d.2.ad=x.sizes:=P.2.1;rw[bb] at I;refine (A6 I.ls λz K=>?_).mono ?_
    .rw[Q.sizes] at K;obtain⟨v,R,rfl⟩:=n9.1 K;have bI:=Q.scope.2 v R;refine (r.sizes.2.2 _ ?_).1;rw[u4,x6 Ω];exact T8 _
    .rintro _ a2 _ ⟨rfl,L⟩;refine s _ _ _ ⟨(((aa.trans ab).trans aW).trans H).trans L,by congr 1,by rw[aL]⟩
 .have be:i=y.length:=Ω
  subst be;rw[B.1,o5] at aJ;refine aU (λv E=>U=E/\v= .bool (decide (16384<(n:Int)))) ?_ ?_
  .rintro _ _ ⟨rfl,rfl⟩;rw[aj];refine⟨λh=>⟨q.trans C,5,rfl,λbJ=>Ω⟩,λh=>⟨q.trans C,0,rfl,λ_=>rfl⟩⟩
  .intro av s;rw[aY,bT];exact s _ _ ⟨rfl,rfl⟩
theorem s5:∀ {a b:Λ} {i:Nat},(∀ (j:Nat) (x y:Int),j<i->a[j]? =σ x->b[j]? =σ y->x=y)->i<=a.length->i<=b.length->fQ a b=fQ (a.drop i) (b.drop i)
 |_,_,0,_,_,_=>Ξ
 |[],_,i+1,_,h,_=>by simp at h
 |_::_,[],i+1,_,_,h=>by simp at h
 |x::a,y::b,i+1,he,h1,e=>by
  have f:=he 0 x y Ω rfl rfl;subst f;simp only[fQ,Int.lt_irrefl,if_false,List.drop_succ_cons];exact s5 (λj u v q hu p=>he (j+1) u v Ω hu p) (by simpa using h1) (by simpa using e)
theorem Cs {x:Int}:ai x7 cmp_isNaN_int [Δ x] w λv w'=>v= .bool false/\Ext w w':=by
 refine aw func207 ?_;simp only[bL];exact⟨Ξ,Ext.refl _⟩
theorem Ct {x:Int}:ai x7 HK [Δ x,Δ y] w λv w'=>v=Δ (if x<y then-1 else if y<x then 1 else 0)/\Ext w w':=by
 refine aw func162 ?_;refine Cs.mono ?_;rintro _ J _ ⟨rfl,a⟩;refine Cs.mono ?_;rintro _ U _ ⟨rfl,e⟩;simp only[aY,aR,bT,aj];exact⟨λh=>⟨by rw[if_pos h],a.trans e⟩,λh=>⟨λf=>⟨by rw[if_neg h,if_pos f],a.trans e⟩,λf=>⟨by rw[if_neg h,if_neg f],a.trans e⟩⟩⟩
theorem Mu {b:Λ} (r:aH .i64 w be a) (z:aH .i64 w bv b):ai x7 HL [be,bv] w λv w'=>v=Δ (fQ a b)/\Ext w w':=by
 refine aw func163 ?_;have Z:=r.le;rw[aX am.u r];refine⟨λ_ A J=>∃i:Nat,A=Δ (i:Int)/\i<=a.length/\i<=b.length/\Ext w J/\ ∀ (j:Nat) (x y:Int),j<i->a[j]? =σ x->b[j]? =σ y->x=y,λ_ A _=>a.length-(b2 A).toNat,⟨0,rfl,X3 _,X3 _,Ext.refl _,λj x y O=>Ω⟩,?_⟩;rintro _ _ J ⟨i,rfl,P,Q,f,I⟩;have p:fQ a b=fQ (a.drop i) (b.drop i):=s5 I P Q;simp only[aR,aj];refine⟨λs=>?_,λaa=>?_⟩
 .have s:i<a.length:=Ω
  obtain⟨x,B⟩:=aI (l:=a) s;have K:a.drop i=x::a.drop (i+1):=by rw[X7 s,(x4.1 B).2]
  rw[bd am.u ah.i Ψ (r.ext f) B,aX am.u (z.ext f)];simp only[cY,aj];refine⟨λh=>?_,λh=>?_⟩
  .have:b.drop i=[]:=by rw[List.drop_eq_nil_iff];omega
   rw[this,K] at p;exact⟨by rw[p];rfl,f⟩
  have C:i<b.length:=Ω
  obtain⟨y,E⟩:=aI (l:=b) C;have R:b.drop i=y::b.drop (i+1):=by rw[X7 C,(x4.1 E).2]
  rw[bd am.u ah.i Ψ (z.ext f) E];refine Ct.mono ?_;rintro _ U _ ⟨rfl,L⟩;rw[K,R] at p;simp only[fQ] at p;simp only[bL,aj,aP];refine⟨λM=>⟨?_,f.trans L⟩,λS=>?_⟩
  .rw[p];by_cases h1:x<y
   .rw[if_pos h1,if_pos h1]
   .by_cases q:y<x
    .rw[if_neg h1,if_pos q,if_neg h1,if_pos q]
    .rw[if_neg h1,if_neg q] at M;exact absurd rfl M
  .rw[wrap_i64 Ω Ω];refine⟨⟨i+1,rfl,s,C,f.trans L,λj V W O G H=>?_⟩,by simp only[b2];omega⟩;by_cases X:j=i
   .subst X;rw[B] at G;rw[E] at H;cases G;cases H;have N:=Y3.1 S;by_cases h1:x<y
    .rw[if_pos h1] at N;omega
    .by_cases q:y<x
     .rw[if_neg h1,if_pos q] at N;omega
     .omega
   .exact I j V W Ω G H
 .have Y:i=a.length:=Ω
  subst Y;rw[List.drop_length] at p;rw[aX am.u (r.ext f),aX am.u (z.ext f)];simp only[aR,aj];refine⟨λh=>⟨?_,f⟩,λh=>⟨?_,f⟩⟩
  .obtain⟨y,l,e⟩:∃y l,b.drop a.length=y::l:=⟨_,_,X7 Ω⟩;rw[p,e];rfl
  .have:b.drop a.length=[]:=by rw[List.drop_eq_nil_iff];omega
   rw[p,this];rfl
theorem Mv {x:Int} {f:x1} (h:aH .i64 w f [x,y]):ai x7 HJ [f] w λv w'=>v=Δ (if x≠0 then x else y)/\Ext w w':=by
 refine aw func161 ?_;rw[aX am.u h];refine b1.range 2 (λi _ J=>Ext w J/\(1<=i->x=0)/\(2<=i->y=0)) Ω ⟨Ext.refl _,Ω,Ω⟩ ?_ ?_
 .rintro i _ J k hi ⟨a,h1,e⟩ hk;rw[aR,aj];refine⟨λ_=>?_,λh=>by simp at h;omega⟩
  match i,hi,h1,e,hk with
  |0,_,h1,e,hk=>
   rw[bd (i:=0) am.u ah.i Ψ (h.ext a) rfl,bL,aj];refine⟨λj=>⟨by rw[if_pos j],a⟩,λhe=>?_⟩;rw[aP];exact hk _ _ ⟨a,λ_=>Y3.1 he,λh=>Ω⟩
  |1,_,h1,e,hk=>
   rw[bd (i:=1) am.u ah.i Ψ (h.ext a) rfl,bL,aj];have p:=h1 (o4 _);refine⟨λj=>⟨by rw[if_neg Ω],a⟩,λhe=>?_⟩;rw[aP];exact hk _ _ ⟨a,λ_=>p,λ_=>Y3.1 he⟩
 .rintro _ J k ⟨a,h1,e⟩;have p:=h1 Ω;have q:=e Ω;rw[aR,aj];exact⟨λh=>by simp at h,λ_=>⟨by rw[if_neg Ω,q],a⟩⟩
structure cq where
 sv:x1
 g:Nat
 sc:Λ
 cs:Λ
def eE (h:cq):List x1:=[h.sv,Γ h.g]
abbrev jP (h:cq):x1:=.agg (eE h).toArray
def qB (h:cq):Int:=dd h.sc
def iS (w:x3) (a:Nat) (h:cq):Prop:=(∃e,ap .i64 ah w e h.sv h.sc)/\(∀r,leads h.sv r->r≠a)/\jp h.sc
theorem iS.V {a:Nat} {h:cq} (az:iS w a h) (e:ae S w w') (f:∀r,leads h.sv r->¬S r):iS w' a h:=by
 obtain⟨⟨j,hm⟩,p⟩:=az;exact⟨⟨j,bn hm e f⟩,p⟩
theorem iS.one {a:Nat} {h:cq} (az:iS w a h):∀u∈eE h,u.oneCell'=true:=by
 obtain⟨⟨e,hm⟩,_⟩:=az;intro u hu;simp[eE] at hu;rcases hu with rfl|rfl
 .exact hm.ls.cells.2
 .rfl
def e4 (w:x3) (g:Nat) (v:x1) (L:List cq):Prop:=bg eE 2 cW w g v L/\ ∀h∈L,iS w g h
theorem e4.ext {g:Nat} {L:List cq} (h:e4 w g v L) (a:Ext w w'):e4 w' g v L:=⟨h.1.ext a,λx e=>(h.2 x e).V (a.V λ_=>False) λ_ _ h=>h⟩
theorem e4.at {g:Nat} {L:List cq} (h:e4 w g v L) {i:Nat} {x:cq} (hi:L[i]? =σ x):iS w g x:=h.2 x (x5 hi)
theorem s6 {g:Nat} {L:List cq} {i:Nat} {x:cq} {K:x1->Prop} (a:y=(i:Int)) (h:e4 w g v L) (hi:L[i]? =σ x):
  aa x7 (c7 gb v (Δ y)) w (λp=>aa x7 (u5 cW p) w K)=K (jP x):=by
 rw[de a gb.u cW.i h.1 (x4.1 hi).1,bD cW.p cW.i rfl (h.1.range hi)]
theorem Mw {g:Nat} {L:List cq} {i:Nat} {x:cq} {K:Unit->x3->Prop} (q:y=(i:Int)) (h:e4 w g v L) (hi:i<L.length) (hk:iS w g x)
  (s:∀w',ae (λr=>leadsTo v r) w w'->e4 w' g v (L.set i x)->K () w'):aa x7 (c7 gb v (Δ y)) w λp=>ax x7 (o8 cW p (jP x)) w K:=by
 rw[de q gb.u cW.i h.1 hi];refine KF (f:=eE) cW.i h.1 rfl hk.one hi λw' e _ h'=>s w' e ⟨h',λz a=>?_⟩;rcases X6 a with a|rfl
 .exact (h.2 z a).V e λr j he=>(h.2 z a).2.1 r j (h.1.leads he).1
 .exact hk.V e λr j he=>hk.2.1 r j (h.1.leads he).1
abbrev Mx:x1:=.func (.func zb) #[] #[]
def s7 (a b:cq):Int:=let c:Int:=if (a.sc.length:Int)<b.sc.length then-1 else if (b.sc.length:Int)<a.sc.length then 1 else 0
 if c≠0 then c else fQ a.sc b.sc
theorem My {a b:cq} (f:jp a.sc) (j:jp b.sc):s7 a b<0↔qB a<qB b:=by
 have p:=(vV f j).1;unfold qB s7;simp only;generalize q:(if (a.sc.length:Int)<b.sc.length then (-1:Int) else if (b.sc.length:Int)<a.sc.length then 1 else 0)=c;rw[p,<-q];by_cases h1:(a.sc.length:Int)<b.sc.length
 .rw[if_pos h1,if_pos Ω];exact⟨λ_=>.inl Ω,λ_=>Ω⟩
 .by_cases e:(b.sc.length:Int)<a.sc.length
  .rw[if_neg h1,if_pos e,if_pos Ω];exact⟨λh=>Ω,λh=>by rcases h with h|h<;>omega⟩
  .rw[if_neg h1,if_neg e,if_neg Ω];exact⟨λh=>.inr ⟨Ω,h⟩,λh=>by rcases h with h|h;omega;exact h.2⟩
theorem Mz {y:Nat} {a b:cq} (A:iS w y a) (B:iS w y b):ai x7 zb [jP a,jP b] w λv w'=>Ext w w'/\v=Δ (s7 a b):=by
 obtain⟨⟨ga,r⟩,_,L⟩:=A;obtain⟨⟨c4,s⟩,_,M⟩:=B;refine aw func160 ?_;refine bm λg1 J N C h=>?_;refine bm λE U O z j=>?_;have h:ab J g1 cW [a.sv,Γ a.g]:=by
  obtain⟨_,_,_,e⟩:=ds r.ls;simp only[jP,eE,e] at h ⊢;exact h
 have j:ab U E cW [b.sv,Γ b.g]:=by
  obtain⟨_,_,_,e⟩:=ds s.ls;simp only[jP,eE,e] at j ⊢;exact j
 intro P x _ _;have f:=(C.trans z).trans x;have f1:=(h.ext z).ext x;have f2:=j.ext x;rw[aA cW.p 0 f1 rfl,aX am.u (r.ls.ext f),aA cW.p 0 f2 rfl,aX am.u (s.ls.ext f),
  aA cW.p 0 f1 rfl,aA cW.p 0 f2 rfl]
 refine Ct.mono ?_;rintro _ Q _ ⟨rfl,q⟩;refine⟨.inl q,?_⟩;refine (Mu ((r.ls.ext f).ext q) ((s.ls.ext f).ext q)).mono ?_;rintro _ R _ ⟨rfl,G⟩;refine pY (l:=[if (a.sc.length:Int)<b.sc.length then (-1:Int) else if (b.sc.length:Int)<a.sc.length then 1 else 0,fQ a.sc b.sc]) am.u ah.i Ω rfl Ψ λS V W X H I=>?_;refine (Mv I.ls).mono ?_;rintro _ Y _ ⟨rfl,K⟩;exact⟨((((f.trans q).trans G).trans H).trans K),rfl⟩
theorem MA {g:Nat} {L:List cq} (h:e4 w g v L) (E:L.length<65536):
  ai x7 HI [v,Mx] w λ_ w'=>ae (λr=>leadsTo v r) w w'/\ ∃M,M.Perm L/\sL qB M 0 M.length/\e4 w' g v M:=by
 have j:∀ {s:x3} {a:cq},ae (λr=>r=g) w s->iS w g a->iS s g a:=λf e=>e.V f λr z he=>e.2.1 r z he;refine (Bx KP (G:=iS w g) (num:=qB) (cf:=s7) (cap:=#[]) KU KV (λa e=>e.one) (λa _=>rfl) (λa b e A=>My e.2.2 A.2.2) (Enters.of x7 KW rfl Ψ) h.1 h.2 E λs a b f e A=>Mz (j f e) (j f A)).mono ?_;rintro _ w' _ ⟨f,M,C,hu,hm⟩;have H:ae (λr=>r=g) w w':=f.mono λr _ z=>(h.1.leads z).1;exact⟨f,M,C,λp q x y _ I _ B J=>hu p q x y I B J,hm,λx B=>j H (h.2 x (C.mem_iff.1 B))⟩
theorem MB {m:Λ} (p:kt l) (q:l.Nodup) (e:m.Perm l) (I:m.Pairwise (·<= ·)):m=bk l:=by
 refine vW (f:=λx=>x) ?_ (vU l) λx=>?_
 .have r:m.Nodup:=e.nodup_iff.2 q;exact (List.Pairwise.and I r).imp λ{a b} h=>by
   obtain⟨h1,j⟩:=h;have j:a≠b:=j;omega
 .rw[e.mem_iff,qw p]
theorem MC (h:∀z∈l,1<=z/\z<=32) (a:dv l=false):aL l<=4096:=by
 have:=of_decide_eq_false a;rw[vY h] at this;omega
theorem MD {f:b6} {d:gY} {x:cv} {m:Bool} {S R:ag} (q:e7 N f) (bl:N<=60000) (Q:x∈f.funs) (aC:qz f.k x d) (aD:ak.rep m S R w cs d):
  ai x7 HE [.agg cs.toArray] w λv w'=>Ext w w'/\ ∃sv gs G W X,v= .tuple #[sv,Γ G]/\w.heap.size<=gs/\ap .i64 ah w' gs sv (bk x.scope)/\dh w' G W X (bR f.sizes (bk x.scope)) f.k (hU f.sizes f.k x).2:=by
 obtain⟨sv,af,bn,aM,bo,rfl,H,aE⟩:=s4 aD;obtain⟨aF,aG,aH,bp,bq,aJ⟩:=aC;obtain⟨a,aK,aL⟩:=q.funs x Q;have ac:=sR a q.sizes.2.1;have br:=a.len;rw[aF] at H;have aN:∀z∈x.sizes,1<=z/\z<=32:=λz ad=>by
  rw[a.sizes] at ad;obtain⟨v,aO,rfl⟩:=n9.1 ad;have bt:=a.scope.2 v aO;refine q.sizes.2.2 _ ?_;rw[u4,x6 Ω];exact T8 _
 have aQ:=MC aN aL;have Y:=sQ ac a.scope.1;have bu:(bk x.scope).length<=6:=by rw[Y.length_eq];exact aK
 refine aw func151 ?_;refine bm λan J bw aj A=>?_;have A:ab J an cD [sv,Γ af]:=by obtain⟨_,_,_,rfl⟩:=ds H;exact A
 rw[aA cD.p 1 A rfl];refine (Ce (aE.ext aj).is Ω).mono ?_;rintro _ U _ ⟨Z,_,B⟩;rw[aG] at B;obtain⟨g,bA,bB,aR,rfl,bC,bD,B,al⟩:=B aQ;rw[aH] at B;rw[bx,bz,aA cD.p 0 (A.ext Z) rfl];have C:=aj.trans Z;refine v8 (H.ext C) Ω λv ao gs bE K bF aS I L=>?_;have aT:=MB ac a.scope.1 aS I;subst aT;have bG:=C.size;rw[aX am.u L.ls];refine kh (k:=.i64) am.u ah.i Ω Ω λgo aq bI M au=>?_;have aU:ap .i64 ah aq go (.slice (σ ⟨go,0,ν⟩) (bk x.scope).length (bk x.scope).length) (p9 (bk x.scope).length 0):=ap.of (bQ.full (k:=1) (n:=(bk x.scope).length) au Ξ (by simp[maxLen];omega));rw[aX am.u (L.ls.ext M)];have bJ:=au.lt;have O:(fR x.scope (bk x.scope)).length=(bk x.scope).length:=by simp[fR]
 have aV:=K.trans M;have bK:=C.trans aV;refine ch.range (bk x.scope).length (λi h=>ae (λr=>r=go) aq h/\ap .i64 ah h go (.slice (σ ⟨go,0,ν⟩) (bk x.scope).length (bk x.scope).length) ((fR x.scope (bk x.scope)).take i++p9 ((bk x.scope).length-i) 0)) Ω ⟨ae.refl _ _,by simpa using aU⟩ ?_ ?_
 .rintro i h k hi ⟨P,E⟩ hk;obtain⟨v,aa⟩:=aI (l:=(bk x.scope)) hi;have s:Ext ao h:=M.put P Ω;have aW:Ext w h:=(C.trans K).trans s;have aY:v∈x.scope:=Y.mem_iff.1 (x5 aa);refine bH Ω ?_;rw[bd am.u ah.i Ψ (L.ls.ext s) aa];have aZ:Ext J h:=(Z.trans K).trans s;rw[aA cD.p 0 (A.ext aZ) rfl];refine (Ck (H.ext aW)).mono ?_;rintro _ a1 _ ⟨y,r,rfl,a2⟩;have av:=pb aY;have a6:r=((x.scope.idxOf v:Nat):Int):=(a2 _ av).2 λj bL a8=>by have:=kq a.scope.1 a8 av;omega
  rw[iK rfl am.u ah.i (E.ext y) (by simp[O];omega)];refine iL ah.i (E.ext y) (by simp[O];omega) λbM ba bN ax=>?_;rw[aP];refine hk _ ⟨(P.trans (y.V _)).trans ba,?_⟩;have bb:(fR x.scope (bk x.scope))[i]? =σ r:=by rw[a6];exact B8 aa
  have e:((fR x.scope (bk x.scope)).take i++p9 ((bk x.scope).length-i) 0).set i r=(fR x.scope (bk x.scope)).take (i+1)++p9 ((bk x.scope).length-(i+1)) 0:=by
   have bc:((fR x.scope (bk x.scope)).take i).length=i:=by rw[j5,O];omega
   rw[T2 _ _ Ω,bc,U1,show (bk x.scope).length-i=((bk x.scope).length-(i+1))+1 by omega,List.replicate_succ,List.set_cons_zero,u9,bb,o7,c9];rfl
  rw[e] at ax;exact ax
 .rintro h k ⟨P,E⟩;have s:Ext ao h:=M.put P Ω;have ay:Ext U h:=K.trans s;refine cd Ω ?_;rw[U1,List.replicate_zero,X9,o9 Ω] at E;have be:∀t,dq x.sizes t->a7 x.sizes aR t=jJ x f.k t:=λt bf=>by rw[al.2 t bf];exact aJ t
  obtain⟨az,bg⟩:=LD q Q al.1 be;have bh:Good (fR x.scope (bk x.scope)) x.sizes.length:=by
   rw[a.sizes,u7];exact sU a.scope.1 Y
  have bi:=(pa q Q);refine (Mi (B.ext ay) q.k E.ls (by rw[O];omega) λ_=>?_).mono ?_
  .rw[az];exact bi.small
  .rintro _ a1 _ ⟨y,_,bj⟩;obtain⟨G,W,X,rfl,aB⟩:=bj bh;rw[bx,bz];rw[az,bg] at aB;exact⟨(C.trans ay).trans y,v,gs,G,W,X,rfl,Ω,(L.ext s).ext y,aB⟩
theorem ME {P:W3} {t x f:r9} {k y g o cap:Nat} {z:x1} (h:P.underlying t=σ (.slice e)) (hi:aN P e k y z) (A:z.cells.size=k) (h1:∀u∈dR z.cells (n*k),u.oneCell'=true)
  (a:ab w g f cs) (H:o+n*k<=cs.length) (p:∀w',ae (λr=>r=g) w w'->ab w' g f (over cs o (dR z.cells (n*k)))->K (.tuple #[]) w'):ax P (Z1.clear_ #[t] x #[.slice (σ ⟨g,o,ν⟩) n cap]) w K:=by
 obtain⟨i,hi,I,rfl,B⟩:=hi;have C:∀w,(zeroValue e).run P w= .ok z w:=λw=>by simp[zeroValue,typeInfo,hi,B]
 have E:(Z1.zeroCells z.cells n).toList=dR z.cells (n*k):=by
  unfold Z1.zeroCells dR;rw[A]
 have q:=run_storeCells_cells (P:=P) g o (dR z.cells (n*k)) 0 w (λj F=>by
   rw[oE] at F;rw[Nat.add_zero,a.cell (x6 (show o+j<cs.length by omega))];rfl) (λj _=>a.frozen _ _) h1
 simp only[Nat.add_zero] at q;obtain⟨G,s⟩:=ns (dR z.cells (n*k)) cs o w a;rcases S4 n with rfl|J
 .refine .of (v:=.tuple #[]) (w':=w) (by simp[Z1.clear_,run_underlying h]) (cM.refl _) (p w (ae.refl _ _) ?_);rw[Nat.zero_mul,b9 (oE z.cells 0)];exact a
 .obtain⟨m,rfl⟩:∃m,n=m+1:=⟨n-1,Ω⟩;refine .of (v:=.tuple #[]) (w':=_) (by simp[Z1.clear_,run_underlying h,C,E,q]) (s.ct a) (p _ s.V G)
theorem ei {α:Type} {f:α->List x1} {k:Nat} {g:Nat} {L:List α} (h:bg f k e w g v L) (j:leadsTo v r):r=g/\ ∃cs,ab w g e cs:=by
 obtain⟨_,⟨rfl,_⟩|⟨cap,cs,rfl,p,_⟩⟩:=h.1
 .exact (e8 j).elim
 .obtain⟨a,n,c,h1,q⟩:=j;cases h1;exact⟨q.symm,cs,p⟩
theorem MF {α:Type} {f:α->List x1} {k:Nat} {g:Nat} {L:List α} (h:bg f k e w g v L) (a:L≠[]):∃cs n c,v= .slice (σ ⟨g,0,ν⟩) n c/\ab w g e cs:=by
 obtain⟨_,⟨rfl,j⟩|⟨cap,cs,rfl,p,_⟩⟩:=h.1
 .exact absurd (b9 j) a
 .exact⟨cs,_,_,rfl,p⟩
theorem e4.mk {g:Nat} {L:List cq} (h:bg eE 2 cW w g v L) (e:∀x∈L,(∃f,ap .i64 ah w f x.sv x.sc)/\jp x.sc):e4 w g v L:=by
 refine⟨h,λx a=>⟨(e x a).1,λr j=>?_,(e x a).2⟩⟩;obtain⟨cs,n,c,_,p⟩:=MF h (λq=>by rw[q] at a;cases a);obtain⟨⟨f,hm⟩,_⟩:=e x a;exact cc hm p Φ j
def Sem (w:x3) (k:Int) (sizes:Λ) (L:List cq):Prop:=∀x∈L,∃a e,dh w x.g a e (bR sizes x.sc) k x.cs
theorem we {g p:Nat} {q:x1} {cs:Λ} (h:dh w g p q ad k cs) (e:ae S w w') (f:∀r,S r-> ∃c,ab w r cW c):dh w' g p q ad k cs:=by
 obtain⟨⟨aZ,gs,h1,s,x⟩,y⟩:=h;refine⟨⟨aZ,gs,h1.V e λI=>?_,bn s e λr j I=>?_,bn x e λr j I=>?_⟩,y⟩
 .obtain⟨c,a⟩:=f g I;unfold ab at h1 a;rw[h1] at a;have:=(Obj.cells.inj (c8 a)).2.1;exact absurd this Φ
 .obtain⟨c,a⟩:=f r I;exact cc s a Φ j rfl
 .obtain⟨c,a⟩:=f r I;exact cc x a Φ j rfl
theorem Sem.ext {L:List cq} (h:Sem w k sizes L) (a:Ext w w'):Sem w' k sizes L:=λx e=>by
 obtain⟨f,j,p⟩:=h x e;exact⟨f,j,p.ext a⟩
theorem Sem.row {L M:List cq} {g:Nat} (h:Sem w k sizes L) (a:e4 w g v M) (e:ae (λr=>leadsTo v r) w w'):Sem w' k sizes L:=λx f=>by
 obtain⟨j,p,q⟩:=h x f;exact⟨j,p,we q e λr s=>by obtain⟨rfl,c,y⟩:=ei a.1 s;exact⟨c,y⟩⟩
def dW (h:cq):cA:=(h.sc,h.cs)
theorem MG {c:Int}:ai x7 uV [Δ c] w λv w'=>v= .bool (decide (0<c))/\Ext w w':=by
 refine aw func157 ?_;rw[bT];exact⟨rfl,Ext.refl _⟩
theorem MH (h:aH .i64 w sv l):
  ai x7 HG [sv,.func (.func uV) #[] #[]] w λv w'=>v= .bool (l.any λc=>decide (0<c))/\Ext w w':=by
 refine aw func156 ?_;refine ai.mono (K:=λv w'=>Ext w w'/\ ∃r:Int,v=Δ r/\(0<=r↔ ∃c∈l,0<c)) ?_ ?_
 .refine aw func204 ?_;rw[aX ao.u h];refine b1.range l.length (λi _ J=>Ext w J/\ ∀c∈l.take i,¬0<c) h.le ⟨Ext.refl _,λc a=>by simp at a⟩ ?_ ?_
  .rintro i _ J k hi ⟨e,j⟩ hk;refine bH Ω ?_;obtain⟨x,p⟩:=aI (l:=l) hi;rw[bd ao.u al.i Ψ (h.ext e) p];show ai x7 uV [Δ x] J _;refine MG.mono ?_;rintro _ U _ ⟨rfl,q⟩;rw[aj];refine⟨λf=>⟨e.trans q,i,rfl,⟨λ_=>⟨x,x5 p,f⟩,λ_=>Ω⟩⟩,λs=>?_⟩;rw[aP];refine hk _ _ ⟨e.trans q,λc a=>?_⟩;rw[u9,p] at a;rcases l7.1 a with a|a
   .exact j c a
   .simp at a;subst a;exact s
  .rintro _ J k ⟨e,j⟩;rw[o5] at j;rw[aR,aj];exact⟨λh=>Ω,λ_=>⟨e,-1,rfl,⟨λh=>Ω,λ⟨c,a,f⟩=>absurd f (j c a)⟩⟩⟩
 .rintro _ J _ ⟨e,r,rfl,y⟩;rw[cY];refine⟨?_,e⟩;congr 1;rw[V3,decide_eq_true_eq,List.any_eq_true,y];exact⟨λ⟨c,a,f⟩=>⟨c,a,decide_eq_true f⟩,λ⟨c,a,f⟩=>⟨c,a,of_decide_eq_true f⟩⟩
theorem Cu {h:Nat} {x:cq} {q:x1} (r:iS w h x) (s:dh w x.g j q ad k x.cs):ai x7 pN [jP x] w λv w'=>v= .bool (!fB (dW x))/\Ext w w':=by
 obtain⟨⟨B,hm⟩,_⟩:=r;refine aw func155 ?_;refine bm λan J C f a=>?_;have a:ab J an cW [x.sv,Γ x.g]:=by
  obtain⟨_,_,_,e⟩:=ds hm.ls;simp only[jP,eE,e] at a ⊢;exact a
 rw[aA cW.p 1 a rfl];refine (mD (s.ext f)).mono ?_;rintro E U _ ⟨y,G,H,z⟩;refine (MH z.ls).mono ?_;rintro _ I _ ⟨rfl,A⟩;rw[bG];exact⟨rfl,(f.trans y).trans A⟩
theorem MI {g:Nat} {L:List cq} (h:e4 w g v L) (I:Sem w k sizes L):
  ai x7 y9 [v,.func (.func pN) #[] #[]] w λr w'=>Ext w w'/\((r=Δ (-1)/\ ∀x∈L,fB (dW x)=true)\/ ∃i:Nat,r=Δ (i:Int)/\i<L.length/\(∀x∈L.take i,fB (dW x)=true)/\ ∀x,L[i]? =σ x->fB (dW x)=false):=by
 refine aw func152 ?_;rw[eD gb.u h.1];refine b1.range L.length (λi _ J=>Ext w J/\ ∀x∈L.take i,fB (dW x)=true) h.1.le ⟨Ext.refl _,λc a=>by simp at a⟩ ?_ ?_
 .rintro i _ J k hi ⟨e,f⟩ hk;refine bH Ω ?_;obtain⟨x,j⟩:=aI (l:=L) hi;rw[s6 rfl (h.ext e) j];show ai x7 pN [jP x] J _;obtain⟨B,C,s⟩:=I x (x5 j);refine (Cu ((h.ext e).at j) (s.ext e)).mono ?_;rintro _ U _ ⟨rfl,p⟩;rw[bY];refine⟨λz=>⟨e.trans p,.inr ⟨i,rfl,hi,f,λy q=>by rw[j] at q;cases q;simpa using z⟩⟩,λA=>?_⟩;rw[aP];refine hk _ _ ⟨e.trans p,λc a=>?_⟩;rw[u9,j] at a;rcases l7.1 a with a|a
  .exact f c a
  .simp at a;subst a;simpa using A
 .rintro _ J k ⟨e,f⟩;rw[o5] at f;rw[aR,aj];exact⟨λh=>Ω,λ_=>⟨e,.inl ⟨rfl,f⟩⟩⟩
def fS (x:cq):Bool:=fB (dW x)
theorem wg {L:List cq} {x:cq} (a:L[j]? =σ x):(L.take (j+1)).filter fS=if fS x=true then (L.take j).filter fS++[x] else (L.take j).filter fS:=by
 rw[u9,a,o7,List.filter_append];by_cases h:fS x=true
 .rw[if_pos h];simp[h]
 .rw[if_neg h];simp[h]
theorem Cv {z:Array x1} (a:0<z.size) (h:∀u∈z.toList,u.oneCell'=true):∀u∈dR z n,u.oneCell'=true:=λu hu=>by
 unfold dR at hu;rw[Array.toList_map,n9] at hu;obtain⟨i,_,rfl⟩:=hu;have e:i % z.size<z.size:=Nat.mod_lt _ a;rw[getElem!_pos z (i % z.size) e];exact h _ Ξ
theorem MJ {g:Nat} {L:List cq} (h:e4 w g v L) (I:Sem w k sizes L) (ba:L.length<=100000):
  ai x7 HH [v,.func (.func pN) #[] #[]] w λf w'=>ae (λr=>leadsTo v r) w w'/\e4 w' g f (L.filter fS)/\ ∀r,leadsTo f r->leadsTo v r:=by
 refine aw func158 ?_;refine (MI h I).mono ?_;rintro r J _ ⟨G,q⟩;rcases q with⟨rfl,P⟩|⟨Q,rfl,az,P,aA⟩
 .rw[bh,aj];refine⟨λ_=>⟨G.V _,?_,λr q=>q⟩,λh=>absurd rfl h⟩;rw[List.filter_eq_self.2 (show ∀x∈L,fS x=true from P)];exact h.ext G
 rw[bh,aj];refine⟨λh=>Ω,λ_=>?_⟩;rw[aP,wrap_i64 Ω Ω];obtain⟨R,ac⟩:=aI (l:=L) az;refine⟨λS W U=>∃ (i j:Nat) (M:List cq),S=Δ (i:Int)/\W=Δ (j:Int)/\i<j/\j<=L.length/\M.length=L.length/\M.take i=(L.take j).filter fS/\M.drop j=L.drop j/\(∀x∈M,x∈L)/\e4 U g v M/\ae (λr=>leadsTo v r) w U,
  λ_ W _=>L.length-(b2 W).toNat,⟨Q,Q+1,L,rfl,by congr 1,Ω,Ω,rfl,?_,rfl,λx s=>s,h.ext G,G.V _⟩,?_⟩
 .have aB:¬fS R=true:=by rw[show fS R=false from aA R ac];simp
  rw[wg ac,if_neg aB,List.filter_eq_self.2 (show ∀x∈L.take Q,fS x=true from P)]
 rintro _ _ U ⟨i,j,M,rfl,rfl,bb,bc,ad,A,af,ag,e,H⟩;have aC:Sem U k sizes L:=I.row h H;rw[eD gb.u e.1,aR,aj];refine⟨λX=>?_,λbd=>?_⟩
 .have X:j<L.length:=Ω
  obtain⟨x,s⟩:=aI (l:=L) X;have K:M[j]? =σ x:=by
   have h1:(M.drop j)[0]? =(L.drop j)[0]?:=by rw[af]
   rw[List.getElem?_drop,List.getElem?_drop,Nat.add_zero] at h1;rw[h1,s]
  have ah:M.drop (j+1)=L.drop (j+1):=by
   have h1:(M.drop j).drop 1=(L.drop j).drop 1:=by rw[af]
   rw[List.drop_drop,List.drop_drop] at h1;exact h1
  refine aU (λS N=>∃ (C:Nat) (z:List cq),S=Δ (C:Int)/\C<j+1/\z.length=L.length/\z.take C=(L.take (j+1)).filter fS/\z.drop (j+1)=L.drop (j+1)/\(∀x∈z,x∈L)/\e4 N g v z/\ae (λr=>leadsTo v r) w N) ?_ ?_
  .rintro _ N ⟨C,z,rfl,h1,Y,aD,aE,aF,aG,aH⟩;rw[aP,wrap_i64 Ω Ω];exact⟨⟨C,j+1,z,rfl,rfl,h1,X,Y,aD,aE,aF,aG,aH⟩,by simp only[b2];omega⟩
  .intro av ak;rw[s6 rfl e K];refine bB cW.i λan N be aJ aK=>?_;refine b3 (vs:=eE x) cW.i rfl rfl (e.at K).one aK λal aL bf am=>?_;have Z:Ext U al:=aJ.put aL Ω;rw[bD cW.p cW.i rfl am.range];show ai x7 pN [jP x] al _;obtain⟨bg,bi,aM⟩:=aC x (x5 s);refine (Cu ((e.ext Z).at K) (aM.ext Z)).mono ?_;rintro _ bj _ ⟨rfl,ao⟩;have E:=Z.trans ao;rw[bG,Bool.not_not,bY];refine⟨λhk=>?_,λaN=>?_⟩
   .rw[bD cW.p cW.i rfl (am.ext ao).range];refine Mw rfl (e.ext E) Ω ((e.ext E).at K) λbk aO aQ=>?_;rw[aP,wrap_i64 Ω Ω];refine ak _ _ ⟨i+1,M.set i x,rfl,Ω,by simp[ad],?_,?_,λy B=>?_,aQ,(H.trans (E.V _)).trans aO⟩
    .have ab:fS x=true:=hk;rw[wg s,if_pos ab,u9,j4 Ω,o7,List.take_set_of_le (o4 _),A]
    .rw[List.drop_set_of_lt Ω,ah]
    .rcases X6 B with B|rfl
     .exact ag y B
     .exact x5 s
   .have ab:¬fS x=true:=by rw[show fS x=false from aN];simp
    exact ak _ _ ⟨i,M,rfl,Ω,ad,by rw[wg s,if_neg ab,A],ah,ag,e.ext E,H.trans (E.V _)⟩
 .have aS:j=L.length:=Ω
  subst aS;rw[o5] at A;obtain⟨⟨bl,aT⟩,ap⟩:=e.1;rcases aT with⟨_,bm⟩|⟨cap,cs,aV,aW,bn,aX,aY,aZ⟩
  .omega
  subst aV;have a1:(aa x7 (V5 gb (.slice (σ ⟨g,0,ν⟩) M.length cap) (σ (Δ (i:Int))) ν ν) U λa2=>
    ax x7 (Z1.clear_ #[gb] IH #[a2]) U λu O=>
    aa x7 (V5 gb (.slice (σ ⟨g,0,ν⟩) M.length cap) ν (σ (Δ (i:Int))) ν) O λa6=>
    (λf w'=>ae (λr=>leadsTo (.slice (σ ⟨g,0,ν⟩) M.length cap) r) w w'/\e4 w' g f (L.filter fS)/\ ∀r,leadsTo f r->leadsTo (.slice (σ ⟨g,0,ν⟩) M.length cap) r) a6 O):=by
   rw[iG (l:=i) (h:=M.length) (m:=cap) gb.u cW.i (nq i _ rfl) kg gg Ω Ω (o4 _),if_neg Ω];simp only[Z4,T5];refine ME (g:=g) (o:=0+i*2) (n:=M.length-i) (k:=2) gb.u cW.i rfl ?_ aW Ω λO aq a7=>?_
   .exact Cv Φ Φ
   rw[iG (l:=0) (h:=i) (m:=cap) gb.u cW.i kf (nr i _ rfl) gg Ω Ω (o4 _),if_neg Ω];simp only[Z4,T5,Nat.zero_mul,X5,Nat.sub_zero];have a8:(dR (x1.agg #[.slice ν 0 0,.pointer ν]).cells ((M.length-i)*2)).length=(M.length-i)*2:=oE _ _;have bo:(M.flatMap eE).length=M.length*2:=ij ap;have au:(L.filter fS).length=i:=by rw[<-A,j5];omega
   have key:(λf w'=>ae (λr=>leadsTo (.slice (σ ⟨g,0,ν⟩) M.length cap) r) w w'/\e4 w' g f (L.filter fS)/\ ∀r,leadsTo f r->leadsTo (.slice (σ ⟨g,0,ν⟩) M.length cap) r) (.slice (σ ⟨g,0,ν⟩) (L.filter fS).length cap) O:=by
    refine⟨H.trans (aq.mono λr _ he=>⟨_,_,_,rfl,he.symm⟩),⟨⟨⟨ij (k:=2) (λy _=>rfl),.inr ⟨cap,_,rfl,a7,Ω,aX,by rw[mr,aY],?_⟩⟩,λy _=>rfl⟩,λy B=>?_⟩,λr q=>?_⟩
    .rw[au,<-A,<-qo i ap,<-aZ,List.take_take,mu (by rw[a8];omega),c9,List.take_append_of_le_length (by rw[j5];omega),List.take_take];congr 1;omega
    .have ay:y∈M:=by rw[<-A] at B;exact T3 B
     exact (e.2 y ay).V aq λr q he=>(e.2 y ay).2.1 r q he
    .obtain⟨a,n,c,h1,Y⟩:=q;cases h1;exact⟨_,_,_,rfl,Y⟩
   rw[au] at key;exact key
  exact a1
theorem wh {k:o6} {g cap:Nat} {b:Option Addr} (h:ap k e w g (.slice b n cap) l) (r:0<l.length):
  b=σ ⟨g,0,ν⟩/\n=l.length/\ ∃cs,ab w g e cs/\n<=cap/\cap<=maxLen/\cs.length=cap/\cs.take n=ints k l:=by
 obtain⟨_,⟨_,h1⟩|⟨s,cs,h1,a,f,j,p,q⟩⟩:=h
 .omega
 .cases h1;exact⟨rfl,rfl,cs,a,f,j,by simpa using p,by simpa using q⟩
theorem MK {g cap:Nat} (h:ap .i64 ah w g (.slice (σ ⟨g,0,ν⟩) n cap) l) (p:j<l.length):aH .i64 w (.slice (σ ⟨g,j,ν⟩) (n-j) (cap-j)) (l.drop j):=by
 obtain⟨_,q,cs,a,h1,r,s,f⟩:=wh h Ω;have:=Ji (o:=j) (k:=n-j) (c:=cap-j) a Ω Ω Ω;refine aH.of (n:=n-j) ?_;have e:(cs.drop j).take (n-j)=ints .i64 (l.drop j):=by
  rw[<-List.drop_take,f,ints,ints,List.map_drop]
 rw[e] at this;exact this
theorem ML {g:Nat} (h:ap .i64 ah w g sv l) (aT:l.length<=1000):
  ai x7 H7 [sv] w λv w'=>ae (λr=>r=g) w w'/\ap .i64 ah w' g v (dedup l l.length):=by
 refine aw func199 ?_;rw[aX am.u h.ls];simp only[aR,aj];refine⟨λaV=>⟨ae.refl _ _,?_⟩,λaW=>?_⟩
 .rw[s3 (o4 _) (λi hi X=>Ω),o5];exact h
 obtain⟨n,s⟩:∃n,l.length=n:=⟨_,rfl⟩;obtain⟨cap,rfl⟩:∃cap,sv= .slice (σ ⟨g,0,ν⟩) n cap:=by
  obtain⟨_,⟨_,h1⟩|⟨aq,cs,h1,_⟩⟩:=id h
  .omega
  .exact⟨aq,by rw[h1,s]⟩
 obtain⟨_,_,_,_,aY,au,_⟩:=wh h Ω;refine⟨λ_ t J=>∃j:Nat,t=Δ (j:Int)/\1<=j/\j<=n/\Ext w J/\ ∀i,i<j->0<i->l[i]? ≠l[i-1]?,λ_ t _=>n-(b2 t).toNat,⟨1,rfl,Ω,Ω,Ext.refl _,λi h1 Y=>Ω⟩,?_⟩;rintro aZ _ J ⟨j,rfl,a1,Z,A,I⟩;rw[aX am.u (h.ls.ext A)];simp only[aR,aj,eo];refine⟨λax U ay _ _=>?_,λa2=>⟨A.V _,?_⟩⟩
 .have ax:j<n:=Ω
  have B:=A.trans ay;have aa:=h.ls.ext B;obtain⟨a,K⟩:=aI (l:=l) (i:=j) Ω;obtain⟨b,L⟩:=aI (l:=l) (i:=j-1) Ω;rw[bd am.u ah.i Ψ aa K];simp only[dZ];rw[wrap_i64 Ω Ω,fy (i:=j-1) Ω am.u ah.i Ψ aa L];simp only[bh,aj,aP];refine⟨λM=>?_,λM=>?_⟩
  .subst M;rw[iG am.u ah.i (l:=j) (h:=n) (m:=cap) r0 kg gg Ω Ω Ω,if_neg Ω];have az:V8 (λx:Addr=>x.add (j*1)) (σ ⟨g,0,ν⟩)=σ ⟨g,j,ν⟩:=by simp[T5]
   rw[az];have ab:dedup l (j+1)=l.take j:=by rw[wa Ω (by rw[K,L]),s3 Ω I]
   refine⟨λN t O=>∃ (q e:Nat) (f:Λ),N=Δ (q:Int)/\t=Δ (e:Int)/\1<=e/\j+e<=n/\ae (λr=>r=g) w O/\ap .i64 ah O g (.slice (σ ⟨g,0,ν⟩) n cap) f/\f.length=n/\
     q=(dedup l (j+e)).length/\f.take q=dedup l (j+e)/\q<=j+e-1/\ ∀i,j+e-1<=i->f[i]? =l[i]?,λ_ t _=>n-(b2 t).toNat,
    ⟨j,1,l,rfl,rfl,Ω,Ω,B.V _,h.ext B,s,by rw[ab,j5];omega,by rw[ab],Ω,λi _=>rfl⟩,?_⟩
   rintro _ _ O ⟨q,e,f,rfl,rfl,a6,a7,P,ac,ad,af,C,aA,E⟩;rw[h5 am.u];simp only[aR,aj,eo];refine⟨λag=>?_,λag=>?_⟩
   .have ag:j+e<n:=Ω
    refine aU (λN Q=>∃ (q:Nat) (f:Λ),N=Δ (q:Int)/\ae (λr=>r=g) w Q/\ap .i64 ah Q g (.slice (σ ⟨g,0,ν⟩) n cap) f/\f.length=n/\
     q=(dedup l (j+(e+1))).length/\f.take q=dedup l (j+(e+1))/\q<=j+(e+1)-1/\ ∀i,j+(e+1)-1<=i->f[i]? =l[i]?) ?_ ?_
    .rintro _ Q ⟨q,f,rfl,h1,Y,aB,aC,aD,aE,aF⟩;simp only[aP];rw[wrap_i64 Ω Ω];exact⟨⟨q,e+1,f,rfl,rfl,Ω,Ω,h1,Y,aB,aC,aD,aE,aF⟩,by simp only[b2];omega⟩
    .intro av ak a8 R _ _;have G:=ac.ext R;have S:=MK (j:=j) G Ω;obtain⟨y,H⟩:=aI (l:=l) (i:=j+e) Ω;obtain⟨z,W⟩:=aI (l:=l) (i:=j+e-1) Ω;have al:(f.drop j)[e]? =σ y:=by rw[List.getElem?_drop,E _ Ω,H]
     have aG:(f.drop j)[e-1]? =σ z:=by rw[List.getElem?_drop,E _ Ω,<-W];congr 1;omega
     rw[bd am.u ah.i Ψ S al];simp only[dZ];rw[wrap_i64 Ω Ω,fy (i:=e-1) Ω am.u ah.i Ψ S aG];simp only[bL,aj,aP];refine⟨λp=>?_,λp=>?_⟩
     .rw[bd am.u ah.i Ψ S al,iK rfl am.u ah.i G Ω];refine iL ah.i G Ω λba aH bb aJ=>?_;rw[wrap_i64 Ω Ω];have an:dedup l (j+e+1)=dedup l (j+e)++[y]:=wb H (λ_=>by rw[H,W];simpa using p);refine ak _ _ ⟨q+1,_,rfl,(P.trans (R.V _)).trans aH,aJ,by simpa using ad,?_,?_,Ω,λi hi=>?_⟩
      .rw[<-S9,an];simp;omega
      .rw[<-S9,an,u9,j4 Ω,List.take_set_of_le (o4 _),C];rfl
      .rw[Y0 Ω];exact E i Ω
     .have p:y=z:=Y3.1 p;have ao:dedup l (j+e+1)=dedup l (j+e):=wa Ω (by rw[H,W,p]);exact ak _ _ ⟨q,f,rfl,P.trans (R.V _),G,ad,by rw[<-S9,ao];exact af,by rw[<-S9,ao];exact C,Ω,λi hi=>E i Ω⟩
   .have hk:j+e=n:=Ω
    rw[hk] at af C aA;obtain⟨_,_,cs,aK,_,_,bc,aL⟩:=wh ac Ω;simp only[maxLen] at au;rw[iG am.u ah.i (l:=q) (h:=n) (m:=cap) r0 kg gg Ω Ω Ω,if_neg Ω];have aM:V8 (λx:Addr=>x.add (q*1)) (σ ⟨g,0,ν⟩)=σ ⟨g,q,ν⟩:=by simp[T5]
    rw[aM];refine Jj am.u ah.i rfl rfl aK Ω Ω λbe aN bf aO=>?_;rw[iG am.u ah.i (l:=0) (h:=q) (m:=cap) kf r1 gg Ω Ω Ω,if_neg Ω];have aQ:V8 (λx:Addr=>x.add (0*1)) (σ ⟨g,0,ν⟩)=σ ⟨g,0,ν⟩:=by simp[T5]
    rw[aQ,s];refine⟨P.trans aN,?_⟩;rw[<-C];refine ap.of (n:=q) ⟨Θ,.inr ⟨cap,_,Ξ,aO,Ω,by simp only[maxLen];omega,by rw[mr];omega,?_⟩⟩;rw[U9];apply Y2;intro i;by_cases hi:i<q
    .rw[Y8 hi,oD _ _ _ Θ,if_neg Ω,ints,x8,Y8 hi];have:(cs.take n)[i]? =(ints .i64 f)[i]?:=by rw[aL]
     rw[Y8 Ω,ints,x8] at this;exact this
    .rw[Z3 Θ,Z3 Θ]
  .rw[wrap_i64 Ω Ω];refine⟨⟨j+1,rfl,Ω,Ω,B,λi hi X=>?_⟩,by simp only[b2];omega⟩;by_cases aS:i=j
   .subst aS;rw[K,L];intro he;exact M (c8 he)
   .exact I i Ω X
 .have Z:j=n:=Ω
  rw[s3 (o4 _) (by rw[s,<-Z];exact I),o5];exact h.ext A
theorem MM (z:n<=1000000):ai x7 Ir [.slice ν 0 0,Δ (n:Int)] w λv w'=>Ext w w'/\ ∃g,w.heap.size<=g/\ap .i64 ah w' g v []:=by
 refine aw func229 ?_;refine dm (λJ=>w=J) ?_ ?_
 .rintro _ rfl;refine aU (λv w'=>Ext w w'/\ ∃g,w.heap.size<=g/\ap .i64 ah w' g v []) (λ_ _ h=>h) λav a=>?_;rw[zV am.u,h5 am.u];simp only[dZ];have e:X2.wrap (((0:Nat):Int)-((0:Nat):Int))=0:=Φ
  have f:X2.wrap ((n:Int)-0)=n:=by rw[wrap_i64 Ω Ω];omega
  rw[e,f];simp only[bT,aj];refine⟨λh=>?_,λh=>a _ _ ⟨Ext.refl _,w.heap.size,o4 _,ap.nil _ _ _ _⟩⟩;rw[zV am.u,iG am.u ah.i (l:=0) (h:=0) (m:=0) kf r1 gg Ω Ω Ω,if_pos rfl];refine Jh (k:=n) (xs:=[]) rfl am.u ah.u ah.i rfl ⟨rfl,0,0,ν,0,rfl,o4 _,X3 _,λh=>absurd h (Nat.lt_irrefl _),λj v h=>by simp at h⟩ Ω Ω Ω Ω λv g w' A p hm=>?_;obtain⟨_,⟨_,B⟩|⟨cap,cs,rfl,q,h1,r,s,C⟩⟩:=hm
  .omega
  rw[h5 am.u,iG am.u ah.i (l:=0) (h:=0) (m:=cap) kf r1 gg Ω Ω Ω,if_neg Ω];have y:V8 (λx:Addr=>x.add (0*1)) (σ ⟨g,0,ν⟩)=σ ⟨g,0,ν⟩:=by simp[T5]
  rw[y];refine a _ _ ⟨p,g,Ω,ap.of (n:=0) ⟨Ξ,.inr ⟨cap,cs,Ξ,q,Ω,r,s,Ξ⟩⟩⟩
 .intro av a;simp only[aR,aj];exact⟨λh=>Ω,λ_=>a _ rfl⟩
theorem MN {b:Λ} (N:aH .i64 w be a) (O:aH .i64 w bv b) (S:a.length<=1000) (V:b.length<=1000)
  (W:∀v w' g,Ext w w'->w.heap.size<=g->ap .i64 ah w' g v (a++b)->K v w'):
  ax x7 (Y1 cK 2 #[(0,be),(1,bv)]) w λt J=>ai x7 H8 [t] J K:=by
 obtain⟨⟨B,C,E,X⟩,⟨G,H,I,Y⟩⟩:(∃x n c,be= .slice x n c)/\(∃x n c,bv= .slice x n c):=by
  obtain⟨_,_,_,x,c,h1,_⟩:=id N;obtain⟨_,_,_,y,d,Z,_⟩:=id O;exact⟨⟨x,_,c,h1⟩,⟨y,_,d,Z⟩⟩
 subst X;subst Y;refine jj cK.u am.i Ω (cs:=#[.slice B C E,.slice G H I]) Ψ λg J aA q s=>?_;have s:ab J g am [.slice B C E,.slice G H I]:=s;have key:∀i:Nat,i<2-> ∃v l,[x1.slice B C E,.slice G H I][i]? =σ v/\[a,b][i]? =σ l/\aH .i64 w v l/\l.length<=1000:=λi hi=>by
  match i,hi with
  |0,_=>exact⟨_,_,rfl,rfl,N,S⟩
  |1,_=>exact⟨_,_,rfl,rfl,O,V⟩
 refine aw func200 ?_;rw[h5 cK.u];refine b1.range 2 (λi size U=>Ext J U/\ ∃n:Nat,n<=1000*i/\size=Δ (n:Int)) Ω ⟨Ext.refl _,0,Ω,rfl⟩ ?_ ?_
 .rintro i _ U aa hi ⟨f,n,ac,rfl⟩ ad;simp only[aR,aj];refine⟨λ_=>?_,λh=>Ω⟩;obtain⟨v,l,L,P,M,ae⟩:=key i hi;refine aU (λv Q=>U=Q/\v=Δ ((n+l.length:Nat):Int)) ?_ ?_
  .rintro _ _ ⟨rfl,rfl⟩;simp only[aP];exact ad _ _ ⟨f,_,Ω,rfl⟩
  .intro av af;rw[fx (b:=g) (o:=0) cK.u am.i hi (λ_=>rfl),aB Ψ ((s.ext f).cell (o:=0+i*1) (by rw[<-L];congr 1;omega)),aX am.u (M.ext (q.trans f))];simp only[aP,aR,aj];rw[wrap_i64 Ω Ω];exact⟨λh=>Ω,λ_=>af _ _ ⟨rfl,by congr 1⟩⟩
 .rintro _ U aa ⟨f,n,ac,rfl⟩;simp only[aR,aj];refine⟨λh=>Ω,λ_=>?_⟩;refine (MM (n:=n) Ω).mono ?_;rintro v0 Q _ ⟨R,ag,aC,ak⟩;have aD:=q.size;have aE:=f.size;have aF:=R.size;have al:=f.trans R;rw[h5 cK.u];refine b1.range 2 (λi v z=>Ext J z/\ ∃p,J.heap.size<=p/\ap .i64 ah z p v (([a,b].take i).flatten)/\(([a,b].take i).flatten).length<=1000*i) Ω ⟨al,ag,Ω,ak,Ξ⟩ ?_ ?_
  .rintro i v4 z an hi ⟨j,p,ao,A,aG⟩ aq;simp only[aR,aj];refine⟨λ_=>?_,λh=>Ω⟩;obtain⟨v,l,L,P,M,ae⟩:=key i hi;rw[fx (b:=g) (o:=0) cK.u am.i hi (λ_=>rfl),aB Ψ ((s.ext j).cell (o:=0+i*1) (by rw[<-L];congr 1;omega))];refine jk am.u ah.i rfl A (M.ext (q.trans j)) Ω Ω λaI au aJ aK ay az=>?_;simp only[aP];have aL:=j.size;have e:([a,b].take (i+1)).flatten=([a,b].take i).flatten++l:=by rw[u9,P];simp
   refine aq _ _ ⟨j.then az (by rintro r aM rfl;omega),au,Ω,by rw[e];exact ay,by rw[e,p8];omega⟩
  .rintro v4 z an ⟨j,p,ao,A,_⟩;simp only[aR,aj];refine⟨λh=>Ω,λ_=>W _ _ p (q.trans j) Ω ?_⟩;have e:([a,b].take 2).flatten=a++b:=Ξ
   rw[e] at A;exact A
def pc (f a h e vars:Λ):Prop:=∀p∈vars,p∈a->p∈e->hV f (hy a p)=hV h (hy e p)
def dw (a e f h vars:Λ):Λ:=vars.map λp=>max (hV a (hy e p)) (hV f (hy h p))
theorem Cw (a e f h vars:Λ):(dw a e f h vars).length=vars.length:=by simp[dw]
theorem s8 {x:Int}:0<=hy l x↔x∈l:=by
 unfold hy;by_cases h:x∈l
 .rw[if_pos h];exact⟨λ_=>h,λ_=>Ω⟩
 .rw[if_neg h];exact⟨λh=>Ω,λa=>absurd a h⟩
theorem MO {g aA Z aB:Nat} {H aa:x1} {f q vars e:Λ} {aC:Int} {aD aE:Λ} (h1:dh w g aA sv f k aD) (ac:dh w Z aB H q aC aE) (s:aH .i64 w aa vars) (aF:aH .i64 w be a) (I:aH .i64 w bv e) (aG:gZ a) (aJ:gZ e) (bf:vars.length<=1000):
  ai x7 H9 [aa,Γ g,be,Γ Z,bv] w λv w'=>Ext w w'/\
   (¬pc f a q e vars->v= .tuple #[.slice ν 0 0,.bool false])/\
   (pc f a q e vars-> ∃x an,v= .tuple #[x,.bool true]/\w.heap.size<=an/\ap .i64 ah w' an x (dw f a q e vars)):=by
 have sub:∀ {w:x3} {g:Nat} {sv:x1} {k:Int} {aZ:x1},ab w g cX [sv,Δ k,aZ]->w.rangeAt g (0+0) [sv]:=λI=>nA I (by
  intro j v s
  match j,s with
  |0,s=>exact s)
 refine aw func201 ?_;rw[aX am.u s];refine kh am.u ah.i Ω Ω λgz J bg ad aK=>?_;have aL:ap .i64 ah J gz (.slice (σ ⟨gz,0,ν⟩) vars.length vars.length) (p9 vars.length 0):=ap.of (n:=vars.length) (bQ.full aK Ξ (by simp[maxLen];omega));generalize (x1.slice (σ ⟨gz,0,ν⟩) vars.length vars.length)=aM at*;rw[aX am.u (s.ext ad)];have K:=Cw f a q e vars;refine om.range vars.length (λi _ _ U=>Ext w U/\ap .i64 ah U gz aM (upto (dw f a q e vars) 0 i)/\ ∀ (j:Nat) (p:Int),j<i->vars[j]? =σ p->p∈a->p∈e->hV f (hy a p)=hV q (hy e p)) Ω
  ⟨ad,by rw[p6,K];exact aL,λj p C=>Ω⟩ ?_ ?_
 .rintro i _ _ U aN hi ⟨y,hm,L⟩ aO;simp only[aR,aj];refine⟨λ_=>?_,λh=>Ω⟩;obtain⟨p,z⟩:=aI (l:=vars) hi;rw[bd am.u ah.i Ψ (s.ext y) z];refine (wc (aF.ext y) aG).mono ?_;rintro _ bh _ ⟨rfl,M⟩;refine (wc (I.ext (y.trans M)) aJ).mono ?_;rintro _ aS _ ⟨rfl,ae⟩;have af:=(y.trans M).trans ae;refine aU (λv ag=>Ext aS ag/\ ∃c,v= .bool c/\(c=true↔p∈a/\p∈e/\hV f (hy a p)≠hV q (hy e p))) ?_ ?_
  .rintro _ ag ⟨ak,c,rfl,al⟩;have ao:=af.trans ak;rw[bY];refine⟨λaT=>⟨ao,λ_=>by first|rfl|trivial,λC=>?_⟩,λaV=>?_⟩
   .obtain⟨A,B,aW⟩:=al.1 aT;exact absurd (C p (x5 z) A B) aW
   .simp only[eo];intro bi aq _ _;have N:=ao.trans aq;obtain⟨⟨aZ,gs,O,P,_⟩,_⟩:=h1.ext N;obtain⟨⟨aY,a1,Q,R,_⟩,_⟩:=ac.ext N;rw[bZ,aQ cX.p rfl,bD (cs:=[sv]) bw.p bw.i rfl (sub O),bZ,aQ cX.p rfl,bD (cs:=[H]) bw.p bw.i rfl (sub Q)];refine (qh P.ls).mono ?_;rintro _ bj _ ⟨rfl,E⟩;refine⟨.inl E,?_⟩;refine (qh (R.ls.ext E)).mono ?_;rintro _ bk _ ⟨rfl,au⟩;have a2:=(N.trans E).trans au;have ax:=hm.ext ((((M.trans ae).trans ak).trans aq).trans (E.trans au));have bl:(upto (dw f a q e vars) 0 i).length=vars.length:=by rw[p5,K]
    rw[va,iK rfl am.u ah.i ax Ω];refine iL ah.i ax Ω λbm a6 _ ay=>?_;simp only[aP];have a7:(dw f a q e vars)[i]? =σ (max (hV f (hy a p)) (hV q (hy e p))):=by
     unfold dw;rw[x8,z];rfl
    rw[qa a7] at ay;refine aO _ _ _ ⟨a2.then a6 (by rintro r bn rfl;omega),ay,λj a8 C S A B=>?_⟩;by_cases ba:j=i
    .subst ba;rw[z] at S;cases S;refine Decidable.byContradiction λbb=>?_;have:=al.2 ⟨A,B,bb⟩;rw[aV] at this;cases this
    .exact L j a8 Ω S A B
  .intro av V;simp only[eo,cY,aj];intro bo G _ _;refine⟨λW=>⟨λX=>?_,λX=>⟨.inl (Ext.refl _),V _ _ ⟨G,false,rfl,⟨(λh=>by cases h),λh=>absurd (s8.2 h.2.1) X⟩⟩⟩⟩,λW=>⟨.inl (Ext.refl _),V _ _ ⟨G,false,rfl,⟨(λh=>by cases h),λh=>absurd (s8.2 h.1) W⟩⟩⟩⟩;have az:=af.trans G;obtain⟨⟨aZ,gs,O,P,_⟩,_⟩:=h1.ext az;obtain⟨⟨aY,a1,Q,R,_⟩,_⟩:=ac.ext az;rw[bZ,aQ cX.p rfl,bD (cs:=[sv]) bw.p bw.i rfl (sub O),bZ,aQ cX.p rfl,bD (cs:=[H]) bw.p bw.i rfl (sub Q)];refine (qh P.ls).mono ?_;rintro _ bp _ ⟨rfl,Y⟩;refine⟨.inl Y,?_⟩;refine (qh (R.ls.ext Y)).mono ?_;rintro _ bq _ ⟨rfl,bc⟩;simp only[bL];refine V _ _ ⟨(G.trans Y).trans bc,_,rfl,?_⟩;rw[decide_eq_true_iff];exact⟨λh=>⟨s8.1 W,s8.1 X,h⟩,λh=>h.2.2⟩
 .rintro _ _ U aN ⟨y,hm,L⟩;simp only[aR,aj];refine⟨λh=>Ω,λ_=>?_⟩;have C:pc f a q e vars:=λp z A B=>by
   obtain⟨i,hi,he⟩:=List.getElem_of_mem z;exact L i p hi (by rw[x6 hi,he]) A B
  rw[<-K,p7] at hm;exact⟨y,λh=>absurd C h,λ_=>⟨_,gz,rfl,Ω,hm⟩⟩
def wi (a e vars:Λ):Prop:=gZ vars/\ ∀x,x∈vars↔x∈a\/x∈e
def nP (a j e f p h vars:Λ) (k:Int):Λ:=
 (V1 (aL (dw a e f h vars)).toNat).map λ(q:Nat)=>min (a7 a j (e3 (cL (dw a e f h vars) q) vars e)+a7 f p (e3 (cL (dw a e f h vars) q) vars h)) k
theorem Cx (a j e f p h vars:Λ) (k:Int):(nP a j e f p h vars k).length=(aL (dw a e f h vars)).toNat:=by simp[nP]
theorem s9 {s cs:Λ} (hk:right k) (h:∀x∈cs,cw x k):cw (a7 s cs t) k:=by
 have a:cw 0 k:=⟨hk,Int.le_refl _,by have:=hk.1;omega⟩;unfold a7;split
 .rename_i n _;rw[u4];cases e:cs[n.toNat]? with
  |none=>exact a
  |some x=>exact h x (x5 e)
 .exact a
def Fits (s l:Λ):Prop:=l.length=s.length/\qA l
def qC (e:Int):x1:=.tuple #[.pointer ν,.slice ν 0 0,Δ e]
def Cy (w:x3) (f r a h s e:Λ) (k j:Int) (v:x1) (w':x3):Prop:=
 Ext w w'/\(¬(Fits f a/\Fits h e)->v=qC 1)/\
  (Fits f a/\Fits h e-> ∃vars,wi a e vars/\(¬pc f a h e vars->v=qC 1)/\(pc f a h e vars->(k≠j->v=qC 3)/\
   (k=j->¬b5 (dw f a h e vars)->v=qC 1)/\(k=j->b5 (dw f a h e vars)->4096<aL (dw f a h e vars)->v=qC 5)/\
   (k=j->b5 (dw f a h e vars)->aL (dw f a h e vars)<=4096-> ∃p x y q,v= .tuple #[Γ p,q,Δ 0]/\
    dh w' p x y (dw f a h e vars) k (nP f r a h s e vars k)/\aH .i64 w' q vars)))
theorem MP {g bM ga bN:Nat} {bO:x1} {z A f y:Λ} {aS:Int} {H K:Λ} (h1:dh w g bM sv z k H) (ax:dh w ga bN bO A aS K) (ay:aH .i64 w be f) (W:aH .i64 w bv y)
  (hk:right k) (cz:∀x∈H,cw x k) (cA:∀x∈K,cw x aS):
  ai x7 HF [Γ g,be,Γ ga,bv] w (Cy w z H f A K y k aS):=by
 have cB:=ay.cells;have cC:=W.cells;have cD:=h1.2.2.1;have cE:=ax.2.2.1;have sub:∀ {w:x3} {g:Nat} {sv:x1} {k:Int} {aZ:x1},ab w g cX [sv,Δ k,aZ]->w.rangeAt g (0+0) [sv]:=λW=>nA W (by
  intro j v bh
  match j,bh with
  |0,bh=>exact bh)
 refine jh func154 ?_;refine bm λg1 J dM bP L=>?_;refine bm λbQ U dN bi M=>?_;refine bm λbR dO dP aT O=>?_;refine bm λbT ac dQ aA P=>?_;have dR:=L.lt;have dS:=M.lt;have dT:=O.lt;have dU:=P.lt;have dV:=bP.size;have dW:=bi.size;have dX:=aT.size;have dY:=aA.size;have ad:=((bP.trans bi).trans aT).trans aA;have L:ab ac g1 eS [Γ g]:=((L.ext bi).ext aT).ext aA;have M:ab ac bQ am [be]:=by rw[cB.1] at M;exact (M.ext aT).ext aA
 have O:ab ac bR eS [Γ ga]:=O.ext aA;have P:ab ac bT am [bv]:=by rw[cC.1] at P;exact P
 refine aU (λv bU=>v= .bool false/\ac=bU) ?_ ?_
 rotate_left
 .intro av aV;rw[aB Ψ (L.Qz rfl),dn eS.u];simp only[Z5,aY];rw[aB Ψ (O.Qz rfl),dn eS.u];exact aV _ _ ⟨rfl,rfl⟩
 rintro _ _ ⟨rfl,rfl⟩;simp only[aY];refine aU (λv bj=>Ext ac bj/\ ∃c,v= .bool c/\(c=true↔¬(Fits z f/\Fits A y))) ?_ ?_
 rotate_left
 .intro av aV;rw[aB Ψ (L.Qz rfl),aB Ψ (M.Qz rfl)];refine (Cn (h1.ext ad) (ay.ext ad)).mono ?_;rintro _ bU _ ⟨af,c,rfl,aC⟩;simp only[bG,bY];refine⟨λaW=>aV _ _ ⟨af,true,rfl,λ_ h=>?_,λ_=>rfl⟩,λbV=>?_⟩
  .have:=aC.2 h.1;rw[this] at aW;cases aW
  .have cF:c=true:=by cases c<;>simp_all
   rw[aB Ψ ((O.ext af).Qz rfl),aB Ψ ((P.ext af).Qz rfl)];refine (Cn ((ax.ext ad).ext af) ((W.ext ad).ext af)).mono ?_;rintro _ dZ _ ⟨cG,d,rfl,bW⟩;simp only[bG];refine aV _ _ ⟨af.trans cG,_,rfl,λh az=>?_,λh=>?_⟩
   .have:=bW.2 az.2;rw[this] at h;cases h
   .cases d with
    |false=>rfl
    |true=>exact absurd ⟨aC.1 cF,bW.1 rfl⟩ h
 rintro _ bj ⟨aD,c,rfl,aC⟩;have bk:=ad.trans aD;rw[bY];refine⟨λaW ea cH _=>⟨bk.trans cH,λ_=>rfl,λh=>absurd h (aC.1 aW)⟩,λbV=>?_⟩;have aE:Fits z f/\Fits A y:=Classical.byContradiction λh=>by
  have:=aC.2 h;rw[bV] at this;cases this
 obtain⟨⟨eb,cI⟩,ec,cJ⟩:=id aE;have ed:=cD.1;have ee:=cE.1;rw[aB Ψ ((M.ext aD).Qz rfl),aB Ψ ((P.ext aD).Qz rfl)];refine MN (ay.ext bk) (W.ext bk) Ω Ω λef eg eh bX ei cK=>?_;refine v8 cK.ls (by rw[p8];omega) λej ek em m b0 en b1 cM cN=>?_;have cO:=b1.length_eq;rw[p8] at cO;refine (ML cN Ω).mono ?_;rintro aX b2 _ ⟨cP,bl⟩;have eo:=aD.size;have ep:=bX.size;have er:=b0.size;have b3:Ext bj b2:=(bX.trans b0).then cP (by rintro r a1 rfl;omega);obtain⟨cQ,cR⟩:=Cm cM (j:=m.length) (o4 _);have es:=Cl m m.length;have Q:wi f y (dedup m m.length):=⟨cQ,λx=>by rw[cR,o5,b1.mem_iff,l7]⟩;generalize dedup m m.length=vars at*;refine bB am.i λa6 et eu b4 cS=>?_;refine bo am.i bl.ls.cells.1 bl.ls.cells.2 cS (by simp[x1.cells]) λb6 cT ev aF=>?_;have ew:=b3.size;have ey:=b4.size;have bp:Ext b2 b6:=b4.then cT (by rintro r a1 rfl;omega);have ag:=(aD.trans b3).trans bp;have aG:=ad.trans ag;have ez:=aF.lt;have b7:=bl.ls.ext bp;have aF:ab b6 a6 am [aX]:=aF;rw[aB Ψ (aF.Qz rfl),aB Ψ ((L.ext ag).Qz rfl),aB Ψ ((M.ext ag).Qz rfl),aB Ψ ((O.ext ag).Qz rfl),aB Ψ ((P.ext ag).Qz rfl)];refine (MO (h1.ext aG) (ax.ext aG) b7 (ay.ext aG) (W.ext aG) cI.up cJ.up Ω).mono ?_;rintro eA eB _ ⟨aI,cU,cV⟩;have b8:=aG.trans aI;by_cases ak:pc z f A y vars
 rotate_left
 .rw[cU ak,bx,bz];simp only[bG,W5,bS];intro eC cW _;exact⟨b8.trans cW,λh=>absurd aE h,λ_=>⟨vars,Q,λ_=>rfl,λh=>absurd h ak⟩⟩
 obtain⟨xs,an,rfl,eD,cY⟩:=cV ak;rw[bx,bz];simp only[bG,Y4,aY];intro X aq _ _;have a2:=(ag.trans aI).trans aq;have au:=b8.trans aq;have L:=L.ext a2;have M:=M.ext a2;have O:=O.ext a2;have P:=P.ext a2;have cZ:=(aF.ext aI).ext aq;obtain⟨⟨aZ,gs,b9,eE,_⟩,_⟩:=h1.ext au;obtain⟨⟨eF,eH,c0,eI,_⟩,_⟩:=ax.ext au;rw[aB Ψ (L.Qz rfl),aO cX.p 1 b9 rfl,aB Ψ (O.Qz rfl),aO cX.p 1 c0 rfl];simp only[bL,aj];refine⟨λY eJ c1 _=>⟨au.trans c1,λh=>absurd aE h,λ_=>⟨vars,Q,λh=>absurd ak h,λ_=>⟨λ_=>rfl,λh=>absurd h Y,λh=>absurd h Y,λh=>absurd h Y⟩⟩⟩,λY=>?_⟩;have Y:k=aS:=Y3.1 Y;subst Y;rw[aB Ψ (L.Qz rfl),aO cX.p 1 b9 rfl];have c2:=cY.ext aq;refine (vi c2.ls).mono ?_;rintro aM aJ _ ⟨ca,c3,c4,_,c5⟩;have eK:=bp.size;have eL:=aI.size;have eM:=aq.size;have eN:=ca.size;obtain⟨aK,e,rfl,eO,a8⟩:∃ (aK:Option Addr) (e:Int),aM= .tuple #[.pointer aK,Δ e]/\(e=0->aK≠ν)/\((e=1/\¬b5 (dw z f A y vars))\/(e=5/\b5 (dw z f A y vars)/\4096<aL (dw z f A y vars))\/(e=0/\b5 (dw z f A y vars)/\aL (dw z f A y vars)<=4096/\
   ∃C B E,aK=σ ⟨C,0,ν⟩/\X.heap.size<=C/\X.heap.size<=B/\(∀r,leads E r->X.heap.size<=r)/\dh aJ C B E (dw z f A y vars) k (p9 (aL (dw z f A y vars)).toNat 0))):=by
  by_cases I:b5 (dw z f A y vars)
  .by_cases R:aL (dw z f A y vars)<=4096
   .obtain⟨C,B,E,c6,c7,c8,c9,da⟩:=c5 I R ⟨hk,Ω,by have:=hk.1;omega⟩;exact⟨_,_,c6,(λ_ h=>by cases h),.inr (.inr ⟨rfl,I,R,C,B,E,rfl,c7,c8,c9,da⟩)⟩
   .exact⟨_,_,c4 I Ω,(λh=>Ω),.inr (.inl ⟨rfl,I,Ω⟩)⟩
  .exact⟨_,_,c3 I,(λh=>Ω),.inl ⟨rfl,I⟩⟩
 rw[bx,bz];refine bB eS.i λcb eP eQ cc aN=>?_;refine bo eS.i rfl rfl aN (by simp[x1.cells]) λdb dc eR aN=>?_;have eU:=cc.size;have bq:Ext aJ db:=cc.then dc (by rintro r a1 rfl;omega);have cd:=ca.trans bq;have dd:=au.trans cd;have eV:=aN.lt;simp only[bL,aj];refine⟨λde eW df _=>⟨dd.trans df,λh=>absurd aE h,λ_=>⟨vars,Q,λh=>absurd ak h,λ_=>⟨λh=>absurd rfl h,λ_ I=>?_,λ_ I R=>?_,λ_ I R=>?_⟩⟩⟩,λeX=>?_⟩
 .rcases a8 with⟨rfl,_⟩|⟨_,h,_⟩|⟨_,h,_⟩
  .rfl
  .exact absurd h I
  .exact absurd h I
 .rcases a8 with⟨_,h⟩|⟨rfl,_⟩|⟨_,_,h,_⟩
  .exact absurd I h
  .rfl
  .omega
 .rcases a8 with⟨_,h⟩|⟨_,_,h⟩|⟨h,_⟩
  .exact absurd I h
  .omega
  .exact absurd h de
 obtain⟨ba,dg,C,B,E,rfl,eY,eZ,e0,bb⟩:b5 (dw z f A y vars)/\aL (dw z f A y vars)<=4096/\
   ∃C B E,aK=σ ⟨C,0,ν⟩/\X.heap.size<=C/\X.heap.size<=B/\(∀r,leads E r->X.heap.size<=r)/\dh aJ C B E (dw z f A y vars) k (p9 (aL (dw z f A y vars)).toNat 0):=by
  rcases a8 with⟨h,_⟩|⟨h,_⟩|⟨_,h⟩
  .omega
  .omega
  .exact h
 obtain rfl:e=0:=Ω
 have di:(dw z f A y vars).length=vars.length:=Cw _ _ _ _ _;have e1:=prod_bound ba;obtain⟨N,bc⟩:∃N:Nat,(aL (dw z f A y vars)).toNat=N:=⟨_,rfl⟩;rw[bc] at bb;have e2:0<N:=Ω
 have dj:=bb.ext bq;obtain⟨⟨br,ce,cg,ch,dk⟩,⟨ci,cj,_⟩,_,e4⟩:=id dj;have e5:C<aJ.heap.size:=by obtain⟨⟨_,_,q,_⟩,_⟩:=id bb;exact q.lt
 have e6:B<aJ.heap.size:=by obtain⟨⟨_,_,_,_,q⟩,_⟩:=id bb;exact sV q Θ
 rw[aB Ψ (aN.Qz rfl),bZ,aQ cX.p rfl,bD (cs:=[E]) bw.p bw.i rfl (sub cg)];refine sC.mono ?_;rintro _ aP _ ⟨Z,bd,rfl,e7,ck⟩;have e8:=bq.size;have e9:=Z.size;let S:Nat->Prop:=λr=>r=B;let aw:=nP z H f A K y vars k;have bt:aw.length=N:=by simp only[aw];rw[Cx,bc]
 have dl:=(b7.ext aI).ext aq;let dm:x3->Prop:=λw'=>ab w' g1 eS [Γ g]/\ab w' bQ am [be]/\ab w' bR eS [Γ ga]/\ab w' bT am [bv]/\ab w' a6 am [aX]/\aH .i64 w' aX vars/\
  ab w' cb eS [Γ C]/\ab w' C cX [E,Δ k,br]/\dh w' g bM sv z k H/\dh w' ga bN bO A k K/\aH .i64 w' be f/\aH .i64 w' bv y/\ap .i64 ah w' ce E (dw z f A y vars)/\ab w' bd bw [E]/\aP.heap.size<=w'.heap.size
 have cl:=cd.trans Z;have facts:∀ {a:x3},ae S aP a->dm a:=by
  intro a G;have aa:Ext X a:=cl.put G Ω;have bf:=au.trans aa;exact⟨L.ext aa,M.ext aa,O.ext aa,P.ext aa,cZ.ext aa,dl.ext aa,(aN.ext Z).V G (by show ¬(cb=B);omega),(cg.ext Z).V G (by show ¬(C=B);exact ci),h1.ext bf,ax.ext bf,ay.ext bf,W.ext bf,
   bn (ch.ext Z) G (λr a1 he=>cj ((show r=B from he)▸a1)),ck.V G (by show ¬(bd=B);omega),G.size⟩
 have cm:=sB (g:=bd) (B0:=aP.heap.size) (sv:=E) ba;rw[bc] at cm;refine na.old ⟨Nat,false,kN,#[Γ bd],0,_,_,_,λq w'=>ae S aP w'/\ap .i64 al w' B br (upto aw 0 q),λ_ _ _=>False,rfl,cm.s,
  ?_,λ_ _ G h=>⟨h.1.ext G,h.2.1.ext G,Y5 h.2.2 G.size⟩,λ_ _ _ G h=>⟨h.1.trans (G.V S),h.2.ext G⟩,λ_ _ _ _ _ h=>h,⟨ck,(ch.ext Z).ls,o4 _⟩,⟨ae.refl _ _,?_⟩,?_,?_,λ_ _ h=>h.elim,λ_ _ _ h=>h.elim⟩
 .rintro _ _ _ _ ⟨_,_,_,_,rfl,_⟩;rfl
 .rw[p6,bt];exact dk.ext Z
 .rintro _ aM q _ fa ⟨_,_,fb⟩ ⟨bu,rfl,fc,gt,dp,fd,cn⟩ ⟨bg,dq⟩;cases dp;let x:=cL (dw z f A y vars) (q:Int);have cp:x.length=vars.length:=by simp only[x];rw[jl,di]
  intro fe dr _ _;intro ff ds _ _;have bA:=dr.trans ds;obtain⟨f1,f2,f3,f4,f5,f6,f7,f8,f9,f10,f11,f12,f13,f14,f15⟩:=facts (bg.trans (bA.V S));rw[aB Ψ (f1.Qz rfl),aB Ψ (f5.Qz rfl),aB Ψ (f2.Qz rfl)];refine (Cp (cn.ls.ext bA) f6 f11 Q.1 (λp R=>(Q.2 p).2 (.inl R)) cp Ω).mono ?_;rintro fg fh _ ⟨bC,fi,fj,dt⟩;refine⟨.inl bC,?_⟩;refine (vj (f9.ext bC) dt.ls).mono ?_;rintro _ fk _ ⟨rfl,du⟩;obtain⟨dv,dx⟩:=v7 z (e3 x vars f) H;have dy:oG z (e3 (cL (dw z f A y vars) (q:Int)) vars f) H= .tuple #[Δ (a7 z H (e3 x vars f)),Δ dv]:=dx;rw[dy,bx,bz];intro fm dz _ _;have bE:=((bA.trans bC).trans du).trans dz;obtain⟨f1,f2,f3,f4,f5,f6,f7,f8,f9,f10,f11,f12,f13,f14,f15⟩:=facts (bg.trans (bE.V S));rw[aB Ψ (f3.Qz rfl),aB Ψ (f5.Qz rfl),aB Ψ (f4.Qz rfl)];refine (Cp (cn.ls.ext bE) f6 f12 Q.1 (λp R=>(Q.2 p).2 (.inr R)) cp Ω).mono ?_;rintro fo fp _ ⟨bF,fq,fs,dA⟩;refine⟨.inl bF,?_⟩;refine (vj (f10.ext bF) dA.ls).mono ?_;rintro _ ft _ ⟨rfl,dC⟩;obtain⟨dD,dE⟩:=v7 A (e3 x vars y) K;have dF:oG A (e3 (cL (dw z f A y vars) (q:Int)) vars y) K= .tuple #[Δ (a7 A K (e3 x vars y)),Δ dD]:=dE;rw[dF,bx,bz];intro fu dG _ _;have bH:=((bE.trans bF).trans dC).trans dG;obtain⟨f1,f2,f3,f4,f5,f6,f7,f8,f9,f10,f11,f12,f13,f14,f15⟩:=facts (bg.trans (bH.V S));rw[aB Ψ (f7.Qz rfl),aO cX.p 2 f8 rfl,aB Ψ (f7.Qz rfl),aO cX.p 1 f8 rfl];refine A7.mono ?_;rintro _ fv _ ⟨rfl,bI⟩;refine⟨.inl bI,?_⟩;have dH:qg (a7 z H (e3 x vars f)) (a7 A K (e3 x vars y)) k= .tuple #[Δ (min (a7 z H (e3 x vars f)+a7 A K (e3 x vars y)) k),Δ 0]:=if_pos ⟨s9 hk cz,s9 hk cA⟩;rw[dH,iF (v:=Δ (min (a7 z H (e3 x vars f)+a7 A K (e3 x vars y)) k)) rfl,iF (v:=Δ 0) rfl];have cq:=dq.ext (bH.trans bI);have fw:(upto aw 0 q).length=N:=by rw[p5,bt]
  rw[iK rfl ao.u al.i cq Ω];refine iL al.i cq Ω λdI dJ fx cr=>?_;have ct:ae S aP dI:=(bg.trans ((bH.trans bI).V S)).trans (dJ.mono λr _ h=>h);obtain⟨f1,f2,f3,f4,f5,f6,f7,f8,f9,f10,f11,f12,f13,f14,f15⟩:=facts ct;have dK:aw[q]? =σ (min (a7 z H (e3 x vars f)+a7 A K (e3 x vars y)) k):=by
   simp only[aw,nP];rw[x8,List.getElem?_range (by rw[bc];exact bu)];rfl
  rw[qa dK] at cr;exact⟨⟨f14,f13.ls,f15⟩,⟨ct,cr⟩,λh=>by cases h⟩
 .rintro q fy bu ⟨cu,bJ⟩;rw[show q=N from bu] at bJ;intro fz bK _ _;obtain⟨f1,f2,f3,f4,f5,f6,f7,f8,f9,f10,f11,f12,f13,f14,f15⟩:=facts (cu.trans (bK.V S));rw[aB Ψ (f7.Qz rfl),aB Ψ (f5.Qz rfl)];intro fA aR _;rw[<-bt,p7] at bJ;have dL:=au.trans cl;refine⟨((dL.put cu Ω).trans bK).trans aR,λh=>absurd aE h,λ_=>⟨vars,Q,λh=>absurd ak h,λ_=>⟨λh=>absurd rfl h,λ_ h=>absurd ba h,λ_ _ h=>Ω,λ_ _ _=>⟨C,B,E,aX,rfl,⟨⟨br,ce,f8.ext aR,f13.ext aR,(bJ.ext bK).ext aR⟩,⟨ci,cj,dg⟩,ba,Cx _ _ _ _ _ _ _ _⟩,f6.ext aR⟩⟩⟩⟩
theorem gZ.pair (h:gZ l):l.Pairwise (·< ·):=V2.2 λi j hi a e=>h i j _ _ e (x6 hi) (x6 a)
theorem MQ {m:Λ} (e:gZ l) (hm:gZ m) (h:∀x,x∈l↔x∈m):l=m:=by
 have f:l.Nodup:=e.pair.imp λh=>Ω
 have j:m.Nodup:=hm.pair.imp λh=>Ω
 exact List.Perm.eq_of_pairwise (le:=(·<= ·)) (λa b _ _ h1 p=>Int.le_antisymm h1 p) (e.pair.imp λh=>Int.le_of_lt h) (hm.pair.imp λh=>Int.le_of_lt h) ((List.perm_ext_iff_of_nodup f j).2 h)
theorem MR {vars:Λ} (h:wi l l vars) (hu:gZ l):vars=l:=MQ h.1 hu λx=>by rw[h.2];simp
theorem Cz (h:l.Pairwise (·< ·)):gZ l:=λi j x y e f p=>by
 have h1:=x4.1 f;have a:=x4.1 p;have:=V2.1 h i j h1.1 a.1 e;rw[h1.2,a.2] at this;exact this
theorem MS {x:Λ} (hu:l.Nodup) (h:x.length=l.length):e3 x l l=x:=by
 refine Y2 λi=>?_;unfold e3;cases a:l[i]? with
 |none=>rw[x8,a,Z3 (by have:=List.getElem?_eq_none_iff.1 a;omega)];rfl
 |some v=>
  have hi:=(x4.1 a).1;rw[x8,a,Z4,qy hu a,u4,x6 (show i<x.length by omega)];rfl
theorem CA {s:Λ} (hu:gZ l) (h:s.length=l.length):dw s l s l l=s:=by
 refine Y2 λi=>?_;unfold dw;cases a:l[i]? with
 |none=>rw[x8,a,Z3 (by have:=List.getElem?_eq_none_iff.1 a;omega)];rfl
 |some v=>
  have hi:=(x4.1 a).1;rw[x8,a,Z4,Co hu a,Int.max_self,x6 (show i<s.length by omega)];unfold hV;rw[if_pos Ω,u4,r8,x6 (show i<s.length by omega)];rfl
theorem MT {s b:Λ} (hu:l.Pairwise (·< ·)) (h:s.length=l.length) (I:dB s) (e:a.length=(aL s).toNat) (f:b.length=(aL s).toNat):nP s a l s b l l k=ea k a b:=by
 have j:l.Nodup:=hu.imp λh=>Ω
 unfold nP;rw[CA (Cz hu) h,LF I e f];apply List.map_congr_left;intro q _;rw[MS j (by rw[jl,h])]
theorem MU {s b:Λ} (hu:l.Pairwise (·< ·)) (B:∀x∈l,0<=x) (h:s.length=l.length) (I:b5 s) (C:aL s<=4096) (E:a.length=(aL s).toNat) (F:b.length=(aL s).toNat) (f:Cy w s a l s b l k k v w'):
  Ext w w'/\ ∃e j q r,v= .tuple #[Γ e,r,Δ 0]/\dh w' e j q s k (ea k a b):=by
 obtain⟨G,_,f⟩:=f;have y:=Cz hu;have z:Fits s l:=⟨h.symm,Mj y B⟩;obtain⟨vars,H,_,J⟩:=f ⟨z,z⟩;have K:=MR H y;subst K;obtain⟨_,_,_,A⟩:=J λp M N O=>rfl;rw[CA y h,MT hu h I.2 E F] at A;obtain⟨e,j,q,r,rfl,L,_⟩:=A rfl I C;exact⟨G,e,j,q,r,rfl,L⟩
theorem MV {s:Λ} (I:dB s):(ba s).Nodup:=(Cd I).imp λ{a b} h he=>by subst he;omega
theorem MW {s:Λ} {i:Nat} (I:dB s) (hi:(ba s)[i]? =σ t) (a:(ba s)[j]? =σ t):i=j:=kq (MV I) hi a
theorem MX {s:Λ} (I:dB s) (h:dq s t):∃j:Nat,(ba s)[j]? =σ t:=X4.1 ((Cc I).2 h)
theorem ta {g:Nat} {d:List (x1×x1)} (h:ab w g e cs) (hm:c5 w m d) (a:ae (λr=>r=m) w w'):ab w' g e cs:=h.V a (λhe=>sW h hm he)
theorem CB {g:Nat} {k:o6} {d:List (x1×x1)} (h:ap k e w g v l) (hm:c5 w m d) (a:ae (λr=>r=m) w w'):ap k e w' g v l:=bn h a (λ_ f he=>Cf h hm f he)
def tb (cs:Λ) (o:Int):Prop:=o∈cs/\ ∀d∈cs,cs.count d<cs.count o\/(cs.count d=cs.count o/\o<=d)
theorem MY {i:Nat} {x:Int} (h:l[i]? =σ x) (y:Int):(l.take (i+1)).count y=(l.take i).count y+if y=x then 1 else 0:=by
 rw[u9,h,List.count_append];congr 1;simp only[o7,List.count_singleton];by_cases a:y=x
 .subst a;simp
 .rw[if_neg a,if_neg (by simpa using λh=>a h.symm)]
def gN (p:Int×Int):x1×x1:=(Δ p.1,Δ p.2)
theorem qD:Keys x7 al λv=>∃n,v=Δ n:=Keys.int al.u
theorem qE (E:List (Int×Int)):∀p∈E.map gN,∃n,p.1=Δ n:=λp a=>by
 obtain⟨q,_,rfl⟩:=n9.1 a;exact⟨_,rfl⟩
def wj (cs:Λ) (E:List (Int×Int)):Prop:=(∀x,x∈E.map (·.1)↔x∈cs)/\ ∀p∈E,p.2=(cs.count p.1:Nat)
theorem CC {cs:Λ} {E:List (Int×Int)} (h:wj cs E) {x:Int} (e:x∈cs):∃j:Nat,E[j]? =σ (x,((cs.count x:Nat):Int)):=by
 obtain⟨p,a,rfl⟩:=n9.1 ((h.1 x).2 e);obtain⟨j,f⟩:=X4.1 a;exact⟨j,by rw[f,<-h.2 p a]⟩
theorem CD {ay:x1} {cs:Λ} (h:aH .i64 w ay cs) (az:cs≠[]) (bg:cs.length<=1000000):ai x7 rS [ay] w λv w'=>Ext w w'/\ ∃o,v=Δ o/\tb cs o:=by
 refine aw func210 ?_;refine ax.ct (sE λm J hm W aM bi=>?_);rw[aX ao.u (h.ext W)];refine ch.range cs.length (λi U=>ae (λr=>r=m) J U/\ ∃E,c5 U m (E.map gN)/\wj (cs.take i) E) Ω ⟨ae.refl _ _,[],aM,by simp[wj]⟩ ?_ ?_
 .rintro i U aN hi ⟨G,E,A,f⟩ aA;obtain⟨x,X⟩:=aI (l:=cs) hi;have H:Ext w U:=W.put G Ω;have aO:∀y,(cs.take i).count y<=1000000:=λy=>by
   have:=List.count_le_length (a:=y) (l:=cs.take i);rw[j5] at this;omega
  refine bH Ω ?_;rw[bd ao.u al.i Ψ (h.ext H) X];have P:=MY X;have aB:∀y,y∈cs.take (i+1)↔y∈cs.take i\/y=x:=λy=>by
   rw[u9,X];simp
  by_cases I:x∈cs.take i
  .obtain⟨j,Y⟩:=CC f I;have Q:(E.map gN)[j]? =σ (Δ x,Δ (((cs.take i).count x:Nat):Int)):=by rw[x8,Y];rfl
   rw[qi lN.u qD A (qE E) ⟨_,rfl⟩ Q];simp only[Bool.false_eq_true,if_false];have:=aO x;rw[aP,wrap_i64 Ω Ω];refine ax.ct (qj lN.u qD A (qE E) ⟨_,rfl⟩ (λL v0 Z ab M ac aQ=>?_) (λZ R=>absurd rfl (R _ (x5 Q))));have aS:L=j:=A.uniq ab Q rfl;subst aS;rw[aP];have ad:(E.map gN).set L (Δ x,Δ ((((cs.take i).count x:Nat):Int)+1))=(E.set L (x,(((cs.take i).count x:Nat):Int)+1)).map gN:=by rw[U3];rfl
   rw[ad] at M;have aT:=(x4.1 Y).1;refine aA _ ⟨G.trans ac,_,M,λy=>?_,λp e=>?_⟩
   .rw[U3,qb (by rw[x8,Y];rfl),f.1,aB];exact⟨.inl,λh=>h.elim id (λh=>h▸I)⟩
   .obtain⟨q,s⟩:=X4.1 e;by_cases af:L=q
    .subst af;rw[j4 aT] at s;cases s;show _=(((cs.take (i+1)).count x:Nat):Int);rw[P,if_pos rfl];omega
    .rw[Y0 af] at s;have ag:p.1≠x:=λhe=>af (A.uniq Q (show (E.map gN)[q]? =σ (gN p) by rw[x8,s];rfl) (by rw[gN,he]));rw[f.2 p (x5 s),P,if_neg ag,Nat.add_zero]
  .have R:∀p∈E.map gN,p.1≠V0 .i64 x:=λp e he=>by
    obtain⟨q,s,rfl⟩:=n9.1 e;have:q.1=x:=by simpa[gN] using he
    exact I ((f.1 x).1 (n9.2 ⟨q,s,this⟩))
   rw[sF lN.u qD ⟨_,_,ah.i⟩ A (qE E) ⟨_,rfl⟩ R];simp only[Bool.false_eq_true,if_false];rw[aP,wrap_i64 Ω Ω];refine ax.ct (qj lN.u qD A (qE E) ⟨_,rfl⟩ (λL v0 Z ab=>absurd rfl (R _ (x5 ab))) (λZ _ M ac aQ=>?_));rw[aP];have ad:E.map gN++[(V0 .i64 x,V0 .i64 (0+1))]=(E++[(x,1)]).map gN:=by rw[j6];rfl
   rw[ad] at M;have aV:(cs.take i).count x=0:=List.count_eq_zero.2 I;refine aA _ ⟨G.trans ac,_,M,λy=>?_,λp e=>?_⟩
   .rw[j6,l7,f.1,aB];simp
   .rcases l7.1 e with e|e
    .have ag:p.1≠x:=λhe=>I ((f.1 x).1 (n9.2 ⟨p,e,he⟩));rw[f.2 p e,P,if_neg ag,Nat.add_zero]
    .rw[l9.1 e];show (1:Int)=(((cs.take (i+1)).count x:Nat):Int);rw[P,if_pos rfl,aV];rfl
 rintro U aN ⟨G,E,A,f⟩;rw[o5] at f;have H:Ext w U:=W.put G Ω;refine cd Ω ?_;refine (Kg (h.ext H) az).mono ?_;rintro _ aW bj ⟨rfl,ak⟩;have bk:=H.size;have bl:=ak.size;refine ax.ct (Bc lN.u (A.ext ak) λN bm bn aZ bo a1 bp=>?_);refine⟨λha C=>∃b B z left aC,ha=Δ b/\b∈cs/\Ext aW C/\hv C N m (E.map gN) left aC/\left=z.map gN/\(B++z).Perm E/\ ∀p∈B,cs.count p.1<cs.count b\/(cs.count p.1=cs.count b/\b<=p.1),λ_ C=>o0 C N,
  ⟨vx cs,[],E,E.map gN,ν,rfl,(JV az).1,aZ,a1,rfl,List.Perm.refl _,λp e=>by cases e⟩,?_⟩
 rintro _ C ⟨b,B,z,left,aC,rfl,am,an,aD,rfl,S,ap⟩;refine Be aD (λ_=>by show w.heap.size<=N;omega) (λa2=>?_) (λj p aq e aE bq O=>?_)
 .rw[iF (v:=.bool false) rfl,aY];have:z=[]:=List.map_eq_nil_iff.1 a2;subst this;rw[X9] at S;refine⟨(H.trans ak).trans an,b,rfl,am,λd a6=>?_⟩;obtain⟨q,s,rfl⟩:=n9.1 ((f.1 d).2 a6);exact ap q (S.mem_iff.2 s)
 .rw[iF (v:=.bool true) rfl,bS];refine Bf O ?_;obtain⟨q,s,rfl⟩:∃q,z[j]? =σ q/\gN q=p:=by
   rw[x8] at e;exact Y7.1 e
  have aF:q∈E:=S.mem_iff.1 (l7.2 (.inr (x5 s)));have br:=f.2 q aF;have a7:q.1∈cs:=(f.1 q.1).1 (n9.2 ⟨q,aF,rfl⟩);obtain⟨a8,ba⟩:=CC f am;have bb:(E.map gN)[a8]? =σ (Δ b,Δ ((cs.count b:Nat):Int)):=by rw[x8,ba];rfl
  rw[iF (v:=Δ q.1) rfl,iF (v:=Δ q.2) rfl];have aG:(B++[q]++z.eraseIdx j).Perm E:=by
   refine List.Perm.trans ?_ S;rw[c9];exact List.Perm.append_left B (vL s)
  have aJ:o0 aq N<o0 C N:=by
   rw[sJ O,sJ aD];have:=Br (x4.1 e).1;omega
  refine aU (λv bc=>aq=bc/\ ∃r:Bool,v= .bool r/\(r=true↔(cs.count b<cs.count q.1\/(cs.count q.1=cs.count b/\q.1<b)))) ?_ ?_
  .rintro _ _ ⟨rfl,r,rfl,V⟩;rw[bY];refine⟨λbe=>?_,λaK=>?_⟩
   .have V:=V.1 be;refine⟨⟨q.1,B++[q],z.eraseIdx j,_,_,rfl,a7,an.trans aE,O,(mE gN z j),aG,λp e=>?_⟩,aJ⟩;rcases l7.1 e with e|e
    .have:=ap p e;omega
    .rw[l9.1 e];exact .inr ⟨rfl,Int.le_refl _⟩
   .have V:¬(cs.count b<cs.count q.1\/(cs.count q.1=cs.count b/\q.1<b)):=λh=>by rw[V.2 h] at aK;cases aK
    refine⟨⟨b,B++[q],z.eraseIdx j,_,_,rfl,am,an.trans aE,O,(mE gN z j),aG,λp e=>?_⟩,aJ⟩;rcases l7.1 e with e|e
    .exact ap p e
    .rw[l9.1 e];omega
  .intro av au;have aL:∀K:x1->Prop,aa x7 (Instr.lookup lN (.map (σ m)) (Δ b) false) aq K=K (Δ ((cs.count b:Nat):Int)):=λK=>by
    rw[qi lN.u qD O.map (qE E) ⟨_,rfl⟩ bb];simp
   rw[aL,bT,aj];refine⟨λh1=>au _ _ ⟨rfl,true,rfl,⟨λ_=>.inl Ω,λ_=>rfl⟩⟩,λh1=>?_⟩;rw[aL,bh,aj];refine⟨λbf=>?_,λbf=>au _ _ ⟨rfl,false,rfl,⟨λh=>(by cases h),λh=>Ω⟩⟩⟩;rw[aR];refine au _ _ ⟨rfl,_,rfl,?_⟩;rw[decide_eq_true_eq];omega
theorem MZ {g:Nat} {k:o6} {p:r9} (h:ap k e w g v l) (q:ab w j p cs) (x:e≠p) (s:leads v r):r≠j:=by
 obtain⟨rfl,_⟩:=bP h s;obtain⟨_,⟨rfl,_⟩|⟨_,_,_,f,_⟩⟩:=h
 .obtain⟨a,n,c,h,_⟩:=s;cases h
 .rintro rfl;unfold ab at q f;rw[q] at f;injection f with h1;injection h1 with z y;exact x y.symm
def M0 (w:x3) (ad:Λ) (k:Int) (cs:Λ) (v:x1) (w':x3):Prop:=Ext w w'/\ ∃g m o D,v=Γ g/\eM w' g m ad k o D/\D.length<=(aL ad).toNat/\io ad (ii D o) cs/\tb cs o
theorem M1 {g bO:Nat} {cs:Λ} (h:dh w g bO sv ad k cs) (aF:∀c∈cs,cw c k):ai x7 HM [Γ g] w (M0 w ad k cs):=by
 obtain⟨⟨aZ,gs,bc,hm,cm⟩,⟨_,_,be⟩,I,an⟩:=id h;have cn:=prod_bound I;have cp:=I.1;have bf:cs≠[]:=λhe=>by rw[he] at an;simp at an;omega
 refine jh func165 ?_;rw[dn eS.u];simp only[Z5,aY];refine (mD h).mono ?_;rintro K U _ ⟨P,cq,cr,aG⟩;refine bB ao.i λap ct cu bg bh=>?_;have cz:=bh.lt;refine bo ao.i aG.ls.cells.1 aG.ls.cells.2 bh (by simp[x1.cells]) λaq bP cA au=>?_;have au:ab aq ap ao [K]:=au;have cB:=P.size;have cC:=bg.size;have bi:Ext U aq:=bg.put bP Ω;have bj:=aG.ext bi;have ac:=P.trans bi;refine aU (λu aw=>∃a A m o L M,u=Γ a/\Ext aq aw/\ab aw a eR [Γ A]/\aq.heap.size<=m/\fF aw A m L M ad k o []/\tb cs o) ?_ ?_
 .rintro _ aw ⟨a,A,m,o,L,M,rfl,af,e,cD,B,E⟩;have bQ:=h.ext (ac.trans af);have bR:=au.ext af;have bS:=bj.ext af;refine (oW bQ).mono ?_;rintro _ cE _ ⟨rfl,bT⟩;refine sC.mono ?_;rintro _ aI _ ⟨bU,bk,rfl,cF,bl⟩;have Q:=bT.trans bU;have bm:=B.ext Q;have bV:=bR.ext Q;have bn:=e.ext Q;have bW:=bS.ext Q;have bp:=hm.ext ((ac.trans af).trans Q);have S:=bm.2.2.1;have bX:=(ac.trans af).trans Q;have cG:=ac.size;have bY:=sB (g:=bk) (B0:=aI.heap.size) (sv:=sv) I;refine na.old ⟨Nat,false,kN,#[Γ bk],_,_,_,_,λi w'=>ae (λr=>r=m) aI w'/\ ∃D,D.length<=i/\fF w' A m L M ad k o D/\ ∀ (j:Nat) t,(ba ad)[j]? =σ t->ii D o t=if j<i then a7 ad cs t else o,λ_ _ _=>False,rfl,bY.s,
   ?_,λ_ _ W h=>⟨h.1.ext W,h.2.1.ext W,Y5 h.2.2 W.size⟩,λ_ _ _ W ⟨h1,D,bZ,b0,be⟩=>⟨h1.trans (W.V _),D,bZ,b0.ext W,be⟩,λ_ _ _ _ _ h=>h,⟨bl,bp.ls,o4 _⟩,⟨ae.refl _ _,[],o4 _,bm,λj t _=>by rw[if_neg Ω];rfl⟩,?_,?_,λ_ _ h=>h.elim,λ_ _ _ h=>h.elim⟩
  .rintro _ _ _ _ ⟨_,_,_,_,rfl,_⟩;rfl
  .rintro _ aM i _ b1 ⟨cH,cI,b2⟩ ⟨hi,rfl,cJ,gt,b3,cK,y⟩ ⟨ay,D,bq,aJ,aK⟩;cases b3;have aL:(ba ad)[i]? =σ (cL ad (i:Int)):=nG I.2 Ω;have b4:dq ad (cL ad (i:Int)):=vy I.2 hi;generalize cL ad (i:Int)=t at*;have br:=LM I.2 an aL;intro b5 az _ _;intro b6 b7 _ _;have aA:=az.trans b7;have aC:ae (λr=>r=m) aI b6:=ay.trans (aA.V _);rw[aB Ψ ((ta bn S aC).Qz rfl),aB Ψ ((ta bV S aC).Qz rfl),bd ao.u al.i Ψ (CB bW S aC).ls br];have aN:=aJ.ext aA;refine (Bq aN.is (y.ext aA).ls (c:=a7 ad cs t)).mono ?_;rintro _ cM _ ⟨_,b8⟩;obtain⟨rfl,aO,D',bt,bu⟩:=b8 ⟨b4,aF _ (x5 br)⟩;have aP:=aC.trans aO;have cN:=bt.2;refine⟨⟨ta bl S aP,(CB bp S aP).ls,Y5 b2 (Y5 aA.size aO.size)⟩,⟨aP,D',Ω,aN.put aO bu,λj s N=>?_⟩,λh=>by cases h⟩;rw[bt.cost aN.is.nodup bu.nodup];by_cases bw:j=i
   .subst bw;rw[aL] at N;cases N;rw[if_pos rfl,if_pos Ω]
   .rw[if_neg (λ(he:s=t)=>bw (MW I.2 (by rw[<-he];exact N) aL)),aK j s N];by_cases h1:j<i
    .rw[if_pos h1,if_pos Ω]
    .rw[if_neg h1,if_neg Ω]
  .rintro i b1 rfl ⟨ay,D,bq,aJ,aK⟩;rw[aB Ψ ((ta bn S ay).Qz rfl)];intro b5 az _;refine⟨(bX.put ay Ω).trans az,A,m,o,D,rfl,aJ.is.ext az,bq,⟨an,λt b9=>?_⟩,E⟩;obtain⟨j,N⟩:=MX I.2 b9;have:=(x4.1 N).1;rw[ib I.2] at this;rw[aK j t N,if_pos this]
 intro av bA;intro z ag _ _;have aQ:=ac.trans ag;have bC:=ag;have aD:=h.ext aQ;have bD:=bj.ext ag;have cO:=ag.size;rw[aB Ψ ((au.ext ag).Qz rfl)];have bE:∀ {a:Nat} {w':x3} {aM:x1} {o:Int},Ext z w'->z.heap.size<=a->(∃f,ab w' a eR [f])->aH .i64 w' aM ad->tb cs o->
   ai x7 ox [aM,Δ k,Δ o] w' λC q=>aa x7 (Z7 C 0) q λO=>aa x7 (Z7 C 1) q λ_=>ax x7 (o8 eR (Γ a) O) q λ(_:Unit) G=>av (Γ a) G:=by
  rintro a w' aM o x p ⟨f,e⟩ y E;refine (Bk y).mono ?_;rintro _ q _ ⟨aR,_,_,aS⟩;obtain⟨A,m,rfl,ca,cb,B⟩:=aS I (aF _ E.1);obtain⟨L,M,B⟩:=B.at;rw[bx,bz];have cc:=e.lt;have s':=x.size;refine bo eR.i rfl rfl (e.ext aR) Ξ λG bF cP cd=>?_;refine bA _ _ ⟨a,A,m,o,L,M,rfl,((bC.trans x).trans aR).put bF Ω,cd,Ω,B.V bF (λhe=>by have he:A=a:=he;omega) (λhe=>by have he:m=a:=he;omega) (λr aT he=>?_),E⟩;exact MZ B.2.1 (e.ext aR) Φ aT he
 have bG:∀ {a:Nat} {w':x3} {aM:x1},Ext z w'->z.heap.size<=a->(∃f,ab w' a eR [f])->aH .i64 w' aM ad->
   ai x7 rS [K] w' λah U=>ai x7 ox [aM,Δ k,ah] U λC q=>aa x7 (Z7 C 0) q λO=>aa x7 (Z7 C 1) q λ_=>ax x7 (o8 eR (Γ a) O) q λ(_:Unit) G=>av (Γ a) G:=by
  rintro a w' aM x p ⟨f,e⟩ y;refine (CD (bD.ext x).ls bf Ω).mono ?_;rintro _ U _ ⟨P,o,rfl,E⟩;exact bE (x.trans P) p ⟨f,e.ext P⟩ (y.ext P) E
 have bH:∀ {a:Nat} {w':x3} {aM:x1},Ext z w'->z.heap.size<=a->(∃f,ab w' a eR [f])->aH .i64 w' aM ad->
   ai x7 u0 [Γ g] w' λaV J=>(Ext z J\/ci x7 (u5 ao (Γ ap)) K J/\True)/\
    ai x7 rS [K] J λah U=>ai x7 ox [aM,aV,ah] U λC q=>aa x7 (Z7 C 0) q λO=>aa x7 (Z7 C 1) q λ_=>ax x7 (o8 eR (Γ a) O) q λ(_:Unit) G=>av (Γ a) G:=by
  rintro a w' aM x p ⟨f,e⟩ y;refine (A8 (aD.ext x)).mono ?_;rintro _ J _ ⟨rfl,H⟩;exact⟨.inl (x.trans H),bG (x.trans H) p ⟨f,e.ext H⟩ (y.ext H)⟩
 have bI:ad.length<=1000:=Ω
 have bJ:∀ {a:Nat} {w':x3},Ext z w'->z.heap.size<=a->(∃f,ab w' a eR [f])->
   ai x7 zj [.agg #[sv]] w' λce w0=>(Ext z w0\/ci x7 (u5 ao (Γ ap)) K w0/\True)/\
    ai x7 u0 [Γ g] w0 λaV J=>(Ext z J\/ci x7 (u5 ao (Γ ap)) K J/\True)/\
    ai x7 rS [K] J λah U=>ai x7 ox [ce,aV,ah] U λC q=>aa x7 (Z7 C 0) q λO=>aa x7 (Z7 C 1) q λ_=>ax x7 (o8 eR (Γ a) O) q λ(_:Unit) G=>av (Γ a) G:=by
  rintro a w' x p ⟨f,e⟩;refine (Ba (hm.ext (aQ.trans x)).ls bI).mono ?_;rintro aM J _ ⟨H,_,_,y⟩;exact⟨.inl (x.trans H),bH (x.trans H) p ⟨f,e.ext H⟩ y.ls⟩
 have aj:∀ {w':x3} {R:x1->x3->Prop},Ext z w'->(∀a ak,z.heap.size<=a->Ext w' ak->(∃f,ab ak a eR [f])->R (Γ a) ak)->ax x7 (T7 eR true (.tuple #[])) w' R:=λ{w'} {R} x cg=>by
  have:=x.size;exact bB eR.i λa ak p ch bc=>cg a ak Ω ch ⟨_,bc⟩
 refine⟨?_,aj (Ext.refl _) λa cQ p aE e=>⟨.inl aE,?_⟩⟩
 rotate_left
 .refine (oW (aD.ext aE)).mono ?_;rintro _ cR _ ⟨rfl,aW⟩;obtain⟨f,e⟩:=e;exact⟨.inl (aE.trans aW),bJ (aE.trans aW) p ⟨f,e.ext aW⟩⟩
 refine (oW aD).mono ?_;rintro _ cS _ ⟨rfl,X⟩;refine⟨.inl X,?_,aj X λa cT p bK e=>⟨.inl (X.trans bK),bJ (X.trans bK) p e⟩⟩;refine (Ba (hm.ext (aQ.trans X)).ls bI).mono ?_;rintro aM cU _ ⟨cj,_,_,y⟩;have Y:=X.trans cj;refine⟨.inl Y,?_,aj Y λa cV p aX e=>⟨.inl (Y.trans aX),bH (Y.trans aX) p e (y.ext aX).ls⟩⟩;refine (A8 (aD.ext Y)).mono ?_;rintro _ cW _ ⟨rfl,a1⟩;have Z:=Y.trans a1;refine⟨.inl Z,?_,aj Z λa cX p a2 e=>⟨.inl (Z.trans a2),bG (Z.trans a2) p e ((y.ext a1).ext a2).ls⟩⟩;refine (CD (bD.ext Z).ls bf Ω).mono ?_;rintro _ cY _ ⟨bL,o,rfl,E⟩;have am:=Z.trans bL;have bM:=(y.ext a1).ext bL;refine⟨?_,aj am λa cZ p a6 e=>⟨.inl (am.trans a6),bE (am.trans a6) p e (bM.ext a6).ls E⟩⟩;refine (Bk bM.ls).mono ?_;rintro _ c0 _ ⟨ck,_,_,aS⟩;obtain⟨A,m,rfl,ca,cb,B⟩:=aS I (aF _ E.1);obtain⟨L,M,B⟩:=B.at;rw[bx,bz];have a8:=am.trans ck;refine bB eR.i λa c1 p bb e=>?_;refine⟨.inl (a8.trans bb),?_⟩;have cc:=e.lt;obtain⟨c2,c3,t3⟩:=B.qf;have c4:=am.size;have c5:=a8.size;refine bo eR.i rfl rfl e (by simp[x1.cells]) λc6 bN c7 cl=>?_;exact bA _ _ ⟨a,A,m,o,L,M,rfl,((bC.trans a8).trans bb).put bN Ω,cl,Ω,(B.ext bb).V bN (λhe=>by have he:A=a:=he;omega) (λhe=>by have he:m=a:=he;omega) (λr aT he=>by have he:r=a:=he;have:=t3 r aT;omega),E⟩
theorem CE {acc:List cA} {g:cA} (h:∀x∈acc,x.1≠g.1):ih k acc g=acc++[g]:=by
 unfold ih;rw[if_neg];intro hm;obtain⟨x,a,he⟩:=n9.1 hm;exact h x a he
theorem M2 {acc:List cA} {g h:cA} {i:Nat} (e:iR acc) (hi:acc[i]? =σ h) (he:h.1=g.1):ih k acc g=acc.set i (h.1,ea k h.2 g.2):=by
 have f:=(x4.1 hi).1;unfold ih;rw[if_pos (n9.2 ⟨h,x5 hi,he⟩)];refine Y2 λj=>?_;rw[x8,X1];by_cases a:i=j
 .subst a;rw[hi,Z4,if_pos he,if_pos rfl,if_pos f]
 .rw[if_neg a];cases p:acc[j]? with
  |none=>rfl
  |some y=>
   have:y.1≠g.1:=λq=>a (by
    have h1:(acc.map (·.1))[i]? =σ g.1:=by rw[x8,hi,Z4,he]
    have r:(acc.map (·.1))[j]? =σ g.1:=by rw[x8,p,Z4,q]
    exact kq e h1 r)
   rw[Z4,if_neg this]
theorem M3 {α β:Type} {f:β->α->β} {b:β} {l:List α} {i:Nat} {x:α} (h:l[i]? =σ x):(l.take (i+1)).foldl f b=f ((l.take i).foldl f b) x:=by
 rw[u9,h,o7,List.foldl_append];rfl
def mG (w:x3) (k:Int) (sizes:Λ) (x:cq):Prop:=(∃a,ap .i64 ah w a x.sv x.sc)/\ ∃m o D,eM w x.g m (bR sizes x.sc) k o D/\D.length<=4096/\io (bR sizes x.sc) (ii D o) x.cs
theorem mG.ext {x:cq} (h:mG w k sizes x) (a:Ext w w'):mG w' k sizes x:=by
 obtain⟨⟨e,h1⟩,m,o,D,f,j⟩:=h;exact⟨⟨e,h1.ext a⟩,m,o,D,f.ext a,j⟩
theorem mG.V {x:cq} (h:mG w k sizes x) (q:ae S w w') (j:∀r,S r-> ∃e c,ab w r e c/\e≠fw/\e≠ah):mG w' k sizes x:=by
 obtain⟨⟨z,h1⟩,m,o,D,A,B⟩:=h;obtain⟨sv,gs,f⟩:=A.at;have s:∀ {g:Nat} {v:x1} {l:Λ},ap .i64 ah w g v l-> ∀r,leads v r->¬S r:=λhm r C I=>by
  obtain⟨e,c,a,_,p⟩:=j r I;exact cc hm a (λhe=>p he.symm) C rfl
 refine⟨⟨z,bn h1 q (s h1)⟩,m,o,D,(f.V q (λI=>?_) (λI=>?_) (s f.2.1)).is,B⟩
 .obtain⟨e,c,a,p,_⟩:=j _ I;have y:=f.1;unfold ab at y a;rw[y] at a;exact p (Obj.cells.inj (c8 a)).2.1.symm
 .obtain⟨e,c,a,_,_⟩:=j _ I;exact sW a f.2.2.1 rfl
def qF (w:x3) (g:Nat) (v:x1) (k:Int) (sizes:Λ) (L:List cq):Prop:=bg eE 2 cD w g v L/\ ∀x∈L,mG w k sizes x
theorem qF.ext {g:Nat} {L:List cq} (h:qF w g v k sizes L) (a:Ext w w'):qF w' g v k sizes L:=⟨h.1.ext a,λx e=>(h.2 x e).ext a⟩
def M4 (w:x3) (B a:Nat) (f:b6):Prop:=∃szv e gz g L,ab w a cC [bU f.name,Δ f.k,szv,e]/\ap .i64 ah w gz szv f.sizes/\qF w g e f.k f.sizes L/\L.map dW=fC f/\B<=a/\(∀r,leads szv r->B<=r)/\ ∀x∈L,∀r,leads x.sv r->B<=r
theorem M5 {g bl:Nat} {L:List cq} {q:Λ} (h:e4 w g v L) (B:ab w bl am [sv]) (I:aH .i64 w sv q):
  ai x7 y9 [v,.func (.func za) #[] #[Γ bl]] w λr w'=>Ext w w'/\((r=Δ (-1)/\ ∀x∈L,x.sc≠q)\/ ∃i:Nat,r=Δ (i:Int)/\ ∃x,L[i]? =σ x/\x.sc=q):=by
 refine aw func152 ?_;rw[eD gb.u h.1];refine b1.range L.length (λi _ J=>Ext w J/\ ∀x∈L.take i,x.sc≠q) h.1.le ⟨Ext.refl _,λc a=>by simp at a⟩ ?_ ?_
 .rintro i _ J k hi ⟨f,s⟩ hk;refine bH Ω ?_;obtain⟨x,y⟩:=aI (l:=L) hi;rw[s6 rfl (h.ext f) y];show ai x7 za [jP x,Γ bl] J _;obtain⟨⟨E,hm⟩,_⟩:=(h.ext f).at y;refine aw func153 ?_;refine bm λan U G j z=>?_;have z:ab U an cW [x.sv,Γ x.g]:=by
   obtain⟨_,_,_,e⟩:=ds hm.ls;simp only[jP,eE,e] at z ⊢;exact z
  rw[aA cW.p 0 z rfl,aB Ψ ((B.ext (f.trans j)).Qz rfl)];refine (I0 (hm.ls.ext j) (I.ext (f.trans j))).mono ?_;rintro _ H _ ⟨rfl,A⟩;rw[aj];refine⟨λhe=>⟨(f.trans j).trans A,.inr ⟨i,rfl,x,y,he⟩⟩,λC=>?_⟩;rw[aP];refine hk _ _ ⟨(f.trans j).trans A,λc a=>?_⟩;rw[u9,y] at a;rcases l7.1 a with a|a
  .exact s c a
  .simp at a;subst a;exact C
 .rintro _ J k ⟨f,s⟩;rw[o5] at s;rw[aR,aj];exact⟨λh=>Ω,λ_=>⟨f,.inl ⟨rfl,s⟩⟩⟩
def eN (f:b6) (i:Nat):List cA:=((f.funs.take i).map (hU f.sizes f.k)).foldl (ih f.k) []
theorem CF {f:b6} (a:e7 N f) (i:Nat):(∀g∈eN f i,fE f.sizes f.k g)/\iR (eN f i)/\(eN f i).length<=i:=by
 have:=vX (sizes:=f.sizes) (k:=f.k) (by have:=a.k.1;omega) (l:=(f.funs.take i).map (hU f.sizes f.k)) (acc:=[]) (λh az=>by cases az) List.nodup_nil λg j=>by
  obtain⟨x,p,rfl⟩:=n9.1 j;exact pa a (T3 p)
 refine⟨this.1,this.2.1,?_⟩;have e:=this.2.2;rw[List.length_nil,u7,X5,j5] at e;exact Y5 e (Nat.min_le_left _ _)
theorem wk {f:b6} {i:Nat} {x:cv} (h:f.funs[i]? =σ x):eN f (i+1)=ih f.k (eN f i) (hU f.sizes f.k x):=by
 unfold eN;rw[u9,h,o7,j6,List.foldl_append];rfl
theorem CG (f:b6):eN f f.funs.length=fl f:=by unfold eN fl;rw[o5]
theorem wm {L:List cq} {i:Nat} {x:cq} {D:List cA} (h:L.map dW=D) (a:L[i]? =σ x):dW x∈D:=by rw[<-h];exact n9.2 ⟨x,x5 a,rfl⟩
def M6 (w:x3) (f:b6) (v:x1) (w':x3):Prop:=Ext w w'/\((¬l0 f.funs<=16384/\ ∃e:Int,e≠0/\v= .tuple #[.pointer ν,Δ e])\/ ∃a,v= .tuple #[Γ a,Δ 0]/\M4 w' w.heap.size a f)
theorem tc {g a:Nat} {sc cs:Λ} (hm:ap .i64 ah w g sv sc):∀u∈eE ⟨sv,a,sc,cs⟩,u.oneCell'=true:=λu hu=>by
 simp[eE] at hu;rcases hu with rfl|rfl
 .exact hm.ls.cells.2
 .rfl
theorem M7 {bO:Nat} {f:b6} (bQ:k9 w bO f) (G:e7 N f) (bS:N<=60000) (c0:f.name≠[]/\ ∀b∈f.name,bN b=true):
  ai x7 GR [Γ bO] w (M6 w f):=by
 have hk:=G.k;refine aw func93 ?_;refine (Mt bQ G bS c0).mono ?_;rintro _ J _ ⟨aJ,e,rfl,he⟩;rw[bL,aj];refine⟨λbT=>⟨aJ,.inl ⟨λh=>bT (he h),e,bT,rfl⟩⟩,λer=>?_⟩;have bV:=bQ.ext aJ;obtain⟨szv,aK,gz,bb,bW,c1,bd,aM⟩:=id bV;have es:bb.length<=256:=by rw[aM.1];exact G.k0
 rw[aO cC.p 3 bW rfl,fA dK.u bd];refine b1.range bb.length (λi l U=>∃g L,Ext J U/\e4 U g l L/\Sem U f.k f.sizes L/\L.map dW=eN f i/\(∀r,leadsTo l r->J.heap.size<=r)/\ ∀x∈L,∀r,leads x.sv r->J.heap.size<=r) (nv bd)
  ⟨0,[],Ext.refl _,⟨bg.nil _ _ _ _ _,λx E=>(by cases E)⟩,λx E=>(by cases E),rfl,λr A=>(e8 A).elim,λx E=>(by cases E)⟩ ?_ ?_
 .rintro i l U c2 hi ⟨g,L,Y,az,aN,H,P,aC⟩ c3;obtain⟨d,bX⟩:=aI (l:=bb) hi;obtain⟨x,aR⟩:∃x,f.funs[i]? =σ x:=⟨_,x6 (by have:=aM.1;omega)⟩;have bY:=x5 aR;have c4:=aM.2 i x d aR bX;have Z:=pa G bY;obtain⟨c5,c6,et⟩:=CF G i;have c7:L.length<=i:=by have b0:=congrArg T1 H;rw[u7] at b0;omega
  refine bH Ω ?_;refine aU (λl' aS=>∃Q aa,Ext J aS/\e4 aS Q l' aa/\Sem aS f.k f.sizes aa/\aa.map dW=eN f (i+1)/\(∀r,leadsTo l' r->J.heap.size<=r)/\ ∀x∈aa,∀r,leads x.sv r->J.heap.size<=r) ?_ ?_
  .rintro l' aS ⟨Q,aa,h1,c9,da,db,dc⟩;rw[aP];exact c3 _ _ ⟨Q,aa,h1,c9,da,db,dc⟩
  intro av b2;refine kj (α:=gY) cD.p rfl dK.u cD.i (bc bd Y) bX λcs be=>?_;have b4:cs.length=2:=ak.len be;refine bB cD.i λan eu ev dd df=>?_;refine b3 (vs:=cs) cD.i b4 rfl (ak.one be) df λdg di ew dj=>?_;have K:Ext U dg:=dd.put di Ω;rw[bD cD.p cD.i b4 dj.range];refine (MD G bS bY c4 (bc be K)).mono ?_;rintro _ dk _ ⟨dl,sv,gs,b7,dm,dn,rfl,ey,ac,b8⟩;rw[bx,bz];refine bB am.i λbl ez eA dq dr=>?_;refine bo am.i ac.ls.cells.1 ac.ls.cells.2 dr (by simp[x1.cells]) λb9 dt eB aT=>?_;have bf:Ext dk b9:=dq.put dt Ω;have aT:ab b9 bl am [sv]:=aT;rw[mq];have bh:=(K.trans dl).trans bf;have eC:=bh.size;have eF:=Y.size;refine (M5 (az.ext bh) aT (ac.ls.ext bf)).mono ?_;rintro _ eH _ ⟨aV,A⟩;have aW:=bh.trans aV;have ca:=bf.trans aV;have bi:=ac.ext ca;have cb:=b8.ext ca;have ce:=aT.ext aV;have cg:=az.ext aW;have bj:=aN.ext aW;rcases A with⟨rfl,du⟩|⟨ci,rfl,y,B,aX⟩
  .refine bH Ω ?_;rw[aB Ψ (ce.Qz rfl),dp (cs:=#[sv,Γ b7]) (by obtain⟨_,_,_,rfl⟩:=ds ac.ls;kernel_rfl)];let a:cq:=⟨sv,b7,bk x.scope,(hU f.sizes f.k x).2⟩;have bp:∀u∈eE a,u.oneCell'=true:=tc bi;refine hW (f:=eE) (a:=a) gb.u cW.i Ω rfl rfl λeI eJ dv eK ad dw=>?_;have ag:=cg.ext ad;refine ik (f:=eE) (a:=a) gb.u cW.i rfl ag.1 (by simpa using dw.sl) bp Ω Ω λaD Q eL aE bq aF=>?_;have cj:=bi.ext ad;have aY:∀ {r:Nat},leadsTo l r-> ∃c,ab dv r cW c:=λA=>by
    obtain⟨rfl,c,C⟩:=ei ag.1 A;exact⟨c,C⟩
   refine b2 _ _ ⟨Q,L++[a],((Y.trans aW).trans ad).then aF (λr A he=>by have:=P r he;omega),e4.mk aE λz s=>?_,λz s=>?_,?_,λr A=>?_,λz s r A=>?_⟩
   .rcases l7.1 s with s|s
    .have:=(ag.2 z s).V aF λr A he=>(ag.2 z s).2.1 r A (ag.1.leads he).1;exact⟨this.1,this.2.2⟩
    .rw[l9.1 s];exact⟨⟨gs,bn cj aF λr A he=>by obtain⟨c,C⟩:=aY he;exact cc cj C Φ A rfl⟩,Z.scope⟩
   .rcases l7.1 s with s|s
    .exact (bj.ext ad).row ag aF z s
    .rw[l9.1 s];exact⟨dm,dn,we (cb.ext ad) aF λr A=>aY A⟩
   .rw[j6,H,wk aR,CE]
    .rfl
    .intro c I dx;rw[<-H] at I;obtain⟨z,s,rfl⟩:=n9.1 I;exact du z s dx
   .rcases bq r A with h|h
    .exact P r h
    .have:=ad.size;have:=aV.size;omega
   .rcases l7.1 s with s|s
    .exact aC z s r A
    .rw[l9.1 s] at A;have b0:=(bP ac A).1;have:=K.size;omega
  .refine cd Ω ?_;intro eM R _ _;have br:=cg.ext R;have ck:=(x4.1 B).1;obtain⟨dy,dz,aZ⟩:=(bj.ext R) y (x5 B);have cl:=ce.ext R;have cm:=bi.ext R;have dA:=cb.ext R;rw[de rfl gb.u cW.i br.1 ck,aQ cW.p rfl,aB Ψ (br.1.range B 1 _ rfl),aB Ψ (cl.Qz rfl),aB Ψ (cl.Qz rfl)];have al:fE f.sizes f.k (dW y):=c5 _ (wm H B);rw[aX] at aZ;have cn:∀ {c:Int},0<=c/\c<=f.k->cw c f.k:=λh=>⟨hk,h.1,h.2⟩;refine (MP aZ dA cm.ls cm.ls hk (λc I=>cn (al.im c I)) (λc I=>cn (Z.im c I))).mono ?_;intro eO cp _ dC;have dD:y.cs.length=(aL (bR f.sizes (bk x.scope))).toNat:=by have:=al.len;rw[show (dW y).1=y.sc from rfl,aX] at this;exact this
   have dE:b5 (bR f.sizes (bk x.scope)):=b8.2.2.1;obtain⟨bt,cr,ct,cu,eP,rfl,dF⟩:=MU Z.up (λv dG=>(Z.scope.1 v dG).1) (by simp[bR];rfl) dE Z.small dD Z.len dC;rw[h6,h7,h8];have S:=br.ext bt;rw[de rfl gb.u cW.i S.1 ck,aQ cW.p rfl];let a:cq:=⟨y.sv,cr,y.sc,ea f.k y.cs (hU f.sizes f.k x).2⟩;refine oZ (f:=eE) (j:=1) (a:=y) (a':=a) eS.i rfl rfl S.1 B rfl Ω λdH a1 eQ dI=>?_;have aY:∀ {r:Nat},leadsTo l r-> ∃c,ab cp r cW c:=λA=>by
    obtain⟨rfl,c,C⟩:=ei S.1 A;exact⟨c,C⟩
   refine b2 _ _ ⟨g,L.set ci a,((Y.trans aW).trans (R.trans bt)).then a1 (λr A he=>by have:=P r he;omega),e4.mk dI λz s=>?_,λz s=>?_,?_,P,λz s=>?_⟩
   .have cz:∀z∈L,(∃bu,ap .i64 ah dH bu z.sv z.sc)/\jp z.sc:=λz s=>by
     have:=(S.2 z s).V a1 λr A he=>(S.2 z s).2.1 r A (S.1.leads he).1;exact⟨this.1,this.2.2⟩
    rcases X6 s with s|rfl
    .exact cz z s
    .exact cz y (x5 B)
   .rcases X6 s with s|rfl
    .exact ((bj.ext R).ext bt).row S a1 z s
    .refine⟨ct,cu,we ?_ a1 λr A=>aY A⟩;show dh cp cr ct cu (bR f.sizes y.sc) f.k _;rw[aX];exact dF
   .rw[U3,H,wk aR,M2 (g:=hU f.sizes f.k x) c6 (i:=ci) (h:=dW y) (by rw[<-H,x8,B];rfl) aX];rfl
   .rcases X6 s with s|rfl
    .exact aC z s
    .exact aC y (x5 B)
 .rintro l U c2 ⟨g,L,Y,az,aN,H,P,aC⟩;refine cd Ω ?_;rw[aM.1,CG] at H;have c7:L.length<=256:=by
   have:=(k7 G).2.2;rw[<-H,u7] at this;have:=G.k0;omega
  refine (MJ az aN Ω).mono ?_;rintro eR cA _ ⟨cB,cE,dJ⟩;have dL:Ext J cA:=Y.then cB λr A he=>by have:=P r he;omega
  have dM:Sem cA f.k f.sizes (L.filter fS):=λz s=>(aN.row az cB) z (U8.1 s).1;have eU:(L.filter fS).length<=L.length:=List.length_filter_le _ _;refine (MA cE Ω).mono ?_;rintro _ cF _ ⟨cG,M,a2,dN,cH⟩;have dO:Ext J cF:=dL.then cG λr A he=>by have:=P r (dJ r he);omega
  have cI:Sem cF f.k f.sizes M:=λz s=>(dM.row cE cG) z (a2.mem_iff.1 s);have eV:M.length<=256:=by rw[a2.length_eq];omega
  have dP:∀x∈M,∀r,leads x.sv r->J.heap.size<=r:=λx E=>aC x (U8.1 (a2.mem_iff.1 E)).1;have cJ:M.map dW=fC f:=by
   refine LA G ?_ ?_
   .refine (a2.map dW).trans ?_;rw[<-H,List.filter_map];exact .refl _
   .rw[List.pairwise_map];refine V2.2 λp q dQ cK dR=>?_;exact dN p q _ _ (X3 _) dR cK (x6 dQ) (x6 cK)
  intro eW a6 _ _;have ao:=dO.trans a6;have eX:=bV.ext ao;have bw:=bW.ext ao;rw[aO cC.p 0 bw rfl,aO cC.p 1 bw rfl,aO cC.p 2 bw rfl];refine (kV (c1.ls.ext ao) (by have:=G.sizes.2.1;omega)).mono ?_;rintro aG cL _ ⟨W,dS,eY,bA⟩;refine⟨.inl W,?_⟩;rw[dp (cs:=#[bU f.name,Δ f.k,aG,.slice ν 0 0]) (by obtain⟨_,_,_,rfl⟩:=ds bA.ls;kernel_rfl)];refine bm λX dT eZ a7 bC=>?_;have bC:ab dT X cC [bU f.name,Δ f.k,aG,.slice ν 0 0]:=bC;have e0:=(ao.trans W).trans a7;have dU:=((cH.ext a6).ext W).ext a7;have e1:=((cI.ext a6).ext W).ext a7;rw[eD gb.u dU.1];refine ch.range M.length (λi aq=>∃aK gr O,Ext cL aq/\ab aq X cC [bU f.name,Δ f.k,aG,aK]/\qF aq gr aK f.k f.sizes O/\O.map dW=(M.take i).map dW/\O.length=i/\(∀r,leadsTo aK r->cL.heap.size<=r)/\ ∀x∈O,∀r,leads x.sv r->J.heap.size<=r) Ω
   ⟨_,0,[],a7,bC,⟨bg.nil _ _ _ _ _,λx E=>(by cases E)⟩,rfl,rfl,λr A=>(e8 A).elim,λx E=>(by cases E)⟩ ?_ ?_
  rotate_left
  .rintro aq dV ⟨aH,gr,O,au,ax,bE,a8,_,_,bF⟩;rw[o5,cJ] at a8;refine cd Ω ?_;have e2:=aJ.size;have e3:=ao.size;have e5:=W.size;exact⟨(aJ.trans (ao.trans W)).trans au,.inr ⟨X,rfl,aG,aH,dS,gr,O,ax,bA.ext au,bE,a8,Ω,λr A=>by have:=(bP bA A).1;omega,λx E r A=>by have:=bF x E r A;omega⟩⟩
  rintro i aq dV hi ⟨aH,gr,O,au,ax,bE,a8,dX,cM,bF⟩ dY;obtain⟨y,B⟩:=aI (l:=M) hi;have cN:=(a6.trans W).trans au;have cO:=cH.ext cN;have cP:=cO.at B;obtain⟨dy,dz,aZ⟩:=(cI.ext cN) y (x5 B);have al:fE f.sizes f.k (dW y):=sS G _ (wm cJ B);refine bH Ω ?_;rw[s6 rfl cO B];refine bB cW.i λgy e6 e9 dZ eb=>?_;refine b3 (vs:=eE y) cW.i rfl rfl cP.one eb λec ed fa ee=>?_;have ef:Ext aq ec:=dZ.put ed Ω;intro fb cQ _ _;have bG:=ef.trans cQ;have cR:=ee.ext cQ;have eg:=ax.ext bG;rw[aO cC.p 3 eg rfl,aA cW.p 0 cR rfl,aA cW.p 1 cR rfl];refine (M1 (aZ.ext bG) λc I=>⟨hk,(al.im c I).1,(al.im c I).2⟩).mono ?_;rintro _ fc _ ⟨bI,af,m,o,D,rfl,eh,ej,ek,_⟩;refine⟨.inl bI,?_⟩;have cS:=bG.trans bI;obtain⟨⟨bu,cT⟩,_,fd⟩:=cP;have cU:=cT.ext cS;rw[dp (cs:=#[y.sv,Γ af]) (by obtain⟨_,_,_,e⟩:=ds cT.ls;rw[e];kernel_rfl)];let a:cq:=⟨y.sv,af,y.sc,y.cs⟩;have bp:∀u∈eE a,u.oneCell'=true:=tc cU;refine hW (f:=eE) (a:=a) dK.u cD.i Ω rfl rfl λv25 fe bJ ff K em=>?_;refine⟨.inl (bI.trans K),?_⟩;have ay:=cS.trans K;have ba:=bE.ext ay;refine ik (f:=eE) (a:=a) dK.u cD.i rfl ba.1 (by simpa using em.sl) bp Ω Ω λaD Q en aE bq cV=>?_;have fg:=au.size;have fh:=ay.size;have bK:ab en X cC [bU f.name,Δ f.k,aG,aH]:=(ax.ext ay).V cV λhe=>by
   obtain⟨rfl,c,C⟩:=ei ba.1 he;have h1:=ax.ext ay;unfold ab at C h1;rw[h1] at C;exact absurd (Obj.cells.inj (c8 C)).2.1 Φ
  rw[bZ,aQ cC.p rfl];have cX:aD.cells= #[aD]/\aD.oneCell'=true:=by
   obtain⟨_,_,_,_,_,rfl,_⟩:=aE.sl;exact⟨rfl,rfl⟩
  refine bo dK.i cX.1 cX.2 bK Ξ λeo cY fi ep=>?_;rw[aP];have bM:ae (λr=>r=X\/leadsTo aH r) bJ eo:=(cV.mono λr _ h=>.inr h).trans (cY.mono λr _ h=>.inl h);have cZ:∀r,(r=X\/leadsTo aH r)-> ∃e c,ab bJ r e c/\e≠fw/\e≠ah:=λr A=>by
   rcases A with rfl|A
   .exact⟨_,_,ax.ext ay,Φ,Φ⟩
   .obtain⟨rfl,c,C⟩:=ei ba.1 A;exact⟨_,c,C,Φ,Φ⟩
  refine dY _ ⟨aD,Q,O++[a],?_,ep,⟨aE.V cY λr A he=>?_,λz s=>?_⟩,?_,by rw[p8,dX];rfl,λr A=>?_,λz s=>?_⟩
  .exact (au.trans ay).then bM λr A he=>by
    rcases he with rfl|he
    .omega
    .have:=cM r he;omega
  .have he:r=X:=he;subst he;obtain⟨rfl,c,C⟩:=ei aE A;unfold ab at C bK;rw[bK] at C;exact absurd (Obj.cells.inj (c8 C)).2.1 Φ
  .rcases l7.1 s with s|s
   .exact (ba.2 z s).V bM cZ
   .rw[l9.1 s];refine mG.V (w:=bJ) ⟨⟨bu,cU.ext K⟩,m,o,D,eh.ext K,?_,ek⟩ bM cZ;have:=al.small;exact Y5 ej (by show (aL (bR f.sizes (dW y).1)).toNat<=4096;omega)
  .rw[j6,a8,u9,B,j6];rfl
  .rcases bq r A with h|h
   .exact cM r h
   .omega
  .rcases l7.1 s with s|s
   .exact bF z s
   .rw[l9.1 s];exact dP y (x5 B)
theorem ey {a:r9} {c f:List x1} (h:ab w r e c) (h':ab w r a f):e=a:=by
 unfold ab at h h';rw[h] at h';exact (Obj.cells.inj (c8 h')).2.1
theorem cR {α:Type} {f:α->List x1} {k:Nat} {a:r9} {g:Nat} {L:List α} (h:bg f k e w g v L) (p:ab w j a cs) (q:e≠a):¬leadsTo v j:=λr=>by
 obtain⟨rfl,c,s⟩:=ei h r;exact q (ey s p)
structure la where
 v:x1
 l:Λ
def nQ (h:la):List x1:=[h.v]
def hz (w:x3) (g:Nat) (v:x1) (aS:List la):Prop:=bg nQ 1 ao w g v aS/\ ∀h∈aS,∃a,ap .i64 al w a h.v h.l
theorem hz.ext {g:Nat} {aS:List la} (h:hz w g v aS) (a:Ext w w'):hz w' g v aS:=⟨h.1.ext a,λx e=>by
 obtain⟨f,hm⟩:=h.2 x e;exact⟨f,hm.ext a⟩⟩
theorem hz.qG {g:Nat} {aS:List la} (h:hz w g v aS) (f:ae S w w') (j:∀r,S r-> ∃e c,ab w r e c/\e≠al):∀h∈aS,∃a,ap .i64 al w' a h.v h.l:=λx p=>by
 obtain⟨a,hm⟩:=h.2 x p;exact⟨a,bn hm f λr q I=>by
  obtain⟨e,c,s,y⟩:=j r I;exact cc hm s (λhe=>y he.symm) q rfl⟩
theorem hz.V {g:Nat} {aS:List la} (h:hz w g v aS) (p:ae S w w') (q:∀r,S r-> ∃e c,ab w r e c/\e≠al/\e≠ao):hz w' g v aS:=
 ⟨h.1.V p λr a I=>by
  obtain⟨e,c,f,_,j⟩:=q r I;exact cR h.1 f (λhe=>j he.symm) a,h.qG p λr a=>by
  obtain⟨e,c,f,j,_⟩:=q r a;exact⟨e,c,f,j⟩⟩
def nR (w:x3) (k:Int) (sizes:Λ) (x:cq):Prop:=(∃a,ap .i64 ah w a x.sv x.sc)/\ ∃e f,dh w x.g e f (bR sizes x.sc) k x.cs
theorem nR.ext {x:cq} (h:nR w k sizes x) (a:Ext w w'):nR w' k sizes x:=by
 obtain⟨⟨e,h1⟩,f,j,p⟩:=h;exact⟨⟨e,h1.ext a⟩,f,j,p.ext a⟩
theorem CH {g s:Nat} {x:x1} {cs:Λ} (h:dh w g s x ad k cs) (j:ae S w w') (p:∀r,S r-> ∃e c,ab w r e c/\e≠cX/\e≠ah/\e≠al):dh w' g s x ad k cs:=by
 obtain⟨⟨aZ,gs,h1,y,z⟩,A⟩:=h;refine⟨⟨aZ,gs,h1.V j λI=>?_,bn y j λr q I=>?_,bn z j λr q I=>?_⟩,A⟩
 .obtain⟨e,c,a,f,_⟩:=p g I;exact f (ey a h1)
 .obtain⟨e,c,a,_,f,_⟩:=p r I;exact cc y a (λhe=>f he.symm) q rfl
 .obtain⟨e,c,a,_,_,f⟩:=p r I;exact cc z a (λhe=>f he.symm) q rfl
theorem nR.V {x:cq} (h:nR w k sizes x) (a:ae S w w') (f:∀r,S r-> ∃e c,ab w r e c/\e≠cX/\e≠ah/\e≠al):nR w' k sizes x:=by
 obtain⟨⟨j,h1⟩,p,q,s⟩:=h;refine⟨⟨j,bn h1 a λr y I=>?_⟩,p,q,CH s a f⟩;obtain⟨e,c,z,_,A,_⟩:=f r I;exact cc h1 z (λhe=>A he.symm) y rfl
def nS (w:x3) (g:Nat) (v:x1) (k:Int) (sizes:Λ) (L:List cq):Prop:=bg eE 2 hp w g v L/\ ∀x∈L,nR w k sizes x
theorem nS.ext {g:Nat} {L:List cq} (h:nS w g v k sizes L) (a:Ext w w'):nS w' g v k sizes L:=⟨h.1.ext a,λx e=>(h.2 x e).ext a⟩
theorem nS.V {g:Nat} {L:List cq} (h:nS w g v k sizes L) (p:ae S w w') (q:∀r,S r-> ∃e c,ab w r e c/\e≠hp/\e≠cX/\e≠ah/\e≠al):nS w' g v k sizes L:=
 ⟨h.1.V p λr a I=>by
  obtain⟨e,c,f,j,_⟩:=q r I;exact cR h.1 f (λhe=>j he.symm) a,λx s=>(h.2 x s).V p λr a=>by
  obtain⟨e,c,f,_,j⟩:=q r a;exact⟨e,c,f,j⟩⟩
def fT (w:x3) (h:Nat) (n:aT):Prop:=∃a e f j gr aS L nm szv gz fv2,ab w h fu [Γ a,Δ n.zero,e,f]/\ab w a cC [nm,Δ n.k,szv,fv2]/\ap .i64 ah w gz szv n.sizes/\
 hz w j e aS/\aS.map (·.l)=n.unary/\nS w gr f n.k n.sizes L/\L.map dW=n.funs
theorem fT.ext {e:Nat} {n:aT} (h:fT w e n) (a:Ext w w'):fT w' e n:=by
 obtain⟨f,j,p,q,gr,aS,L,nm,szv,gz,fv2,h1,r,s,x,y,z,A⟩:=h;exact⟨f,j,p,q,gr,aS,L,nm,szv,gz,fv2,h1.ext a,r.ext a,s.ext a,x.ext a,y,z.ext a,A⟩
def qH (w:x3) (B:Nat) (k:Int) (sizes:Λ) (x:cq):Prop:=(∃f,ap .i64 ah w f x.sv x.sc)/\(∃a e,dh w x.g a e (bR sizes x.sc) k x.cs/\B<=a/\ ∀r,leads e r->B<=r)/\B<=x.g/\ ∀r,leads x.sv r->B<=r
theorem qH.V {x:cq} (h:qH w B k sizes x) (a:ae S w w') (f:∀r,S r-> ∃e c,ab w r e c/\e≠cX/\e≠ah/\e≠al):qH w' B k sizes x:=by
 obtain⟨⟨j,h1⟩,⟨p,q,s,y⟩,z⟩:=h;refine⟨⟨j,bn h1 a λr A I=>?_⟩,⟨p,q,CH s a f,y⟩,z⟩;obtain⟨e,c,C,_,E,_⟩:=f r I;exact cc h1 C (λhe=>E he.symm) A rfl
def l1 (w:x3) (B g:Nat) (v:x1) (k:Int) (sizes:Λ) (L:List cq):Prop:=bg eE 2 hp w g v L/\ ∀x∈L,qH w B k sizes x
theorem l1.ext {g:Nat} {L:List cq} (h:l1 w B g v k sizes L) (a:Ext w w'):l1 w' B g v k sizes L:=⟨h.1.ext a,λx e=>(h.2 x e).V (a.V λ_=>False) λ_ h=>h.elim⟩
theorem l1.V {g:Nat} {L:List cq} (h:l1 w B g v k sizes L) (p:ae S w w') (q:∀r,S r-> ∃e c,ab w r e c/\e≠hp/\e≠cX/\e≠ah/\e≠al):l1 w' B g v k sizes L:=
 ⟨h.1.V p λr a I=>by
  obtain⟨e,c,f,j,_⟩:=q r I;exact cR h.1 f (λhe=>j he.symm) a,λx s=>(h.2 x s).V p λr a=>by
  obtain⟨e,c,f,_,j⟩:=q r a;exact⟨e,c,f,j⟩⟩
theorem CI:∃o:Obj,fp o=false:=⟨.deferred ν,rfl⟩
theorem ghost (w:x3) (B:Nat):∃w0,Ext w0 w/\ae (λr=>r<B) w w0/\ ∀r o,w0.heap[r]? =σ o->fp o=true->B<=r:=by
 obtain⟨ct,f⟩:=CI;have e:∀r,(w.heap.mapIdx λr o=>if r<B then ct else o)[r]? =(w.heap[r]?).map λo=>if r<B then ct else o:=λr=>Ξ
 refine⟨{w with heap:=w.heap.mapIdx λr o=>if r<B then ct else o},⟨Ξ,λr o a I=>?_⟩,⟨Ξ,λr o a I j=>?_⟩,λr o a I=>?_⟩
 .have a:(w.heap.mapIdx λr o=>if r<B then ct else o)[r]? =σ o:=a;rw[e] at a;cases h:w.heap[r]? with
  |none=>rw[h] at a;cases a
  |some o'=>
   rw[h] at a;simp only[Z4,X0] at a;split at a
   .subst a;rw[f] at I;cases I
   .rw[a]
 .show (w.heap.mapIdx λr o=>if r<B then ct else o)[r]? =σ o;rw[e,a,Z4,if_neg j]
 .have a:(w.heap.mapIdx λr o=>if r<B then ct else o)[r]? =σ o:=a;rw[e] at a;cases h:w.heap[r]? with
  |none=>rw[h] at a;cases a
  |some o'=>
   rw[h] at a;simp only[Z4,X0] at a;split at a
   .subst a;rw[f] at I;cases I
   .omega
def CJ (B:Nat) (w:x3) (a:Nat) (n:aT):Prop:=∃w0,fT w0 a n/\Ext w0 w/\ ∀r o,w0.heap[r]? =σ o->fp o=true->B<=r
theorem M8 {y C gr gz:Nat} {n:aT} {p q nm fv2:x1} {aS:List la} {L:List cq} (h1:ab w y fu [Γ j,Δ n.zero,p,q]) (E:ab w j cC [nm,Δ n.k,szv,fv2]) (I:ap .i64 ah w gz szv n.sizes)
  (F:hz w C p aS) (J:aS.map (·.l)=n.unary) (G:l1 w B gr q n.k n.sizes L) (K:L.map dW=n.funs) (M:B<=y) (N:B<=j) (O:∀r,leads szv r->B<=r) (H:∀r,leadsTo p r\/leadsTo q r->B<=r) (P:∀h∈aS,∀r,leads h.v r->B<=r):CJ B w y n:=by
 obtain⟨w0,z,a,Q⟩:=ghost w B;have no:∀ {r:Nat},B<=r->¬r<B:=λh E=>Ω
 have s:∀ {e:r9} {g:Nat} {v:x1} {l:Λ},ap .i64 e w g v l->(∀r,leads v r->B<=r)->ap .i64 e w0 g v l:=λh R=>bn h a λr f=>no (R r f);refine⟨w0,⟨j,p,q,C,gr,aS,L,nm,szv,gz,fv2,h1.V a (no M),E.V a (no N),s I O,⟨F.1.V a λr f=>no (H r (.inl f)),λh az=>?_⟩,J,⟨G.1.V a λr f=>no (H r (.inr f)),λx z=>?_⟩,K⟩,z,Q⟩
 .obtain⟨A,hm⟩:=F.2 h az;exact⟨A,s hm (P h az)⟩
 .obtain⟨⟨A,S⟩,⟨U,W,⟨⟨aZ,gs,X,Y,t3⟩,t4⟩,ad,Z⟩,aa,ac⟩:=G.2 x z;exact⟨⟨A,s S ac⟩,U,W,⟨aZ,gs,X.V a (no aa),s Y Z,bn t3 a λr f=>no (by have:=(bP t3 f).1;omega)⟩,t4⟩
def iT (n:aT) (g:cA):aT:=match g.1 with
 |[]=>{n with zero:=g.2.getD 0 0}
 |[v]=>{n with unary:=n.unary.set v.toNat g.2}
 |_=>{n with funs:=n.funs++[g]}
def CK (f:b6):aT:=⟨f.k,f.sizes,0,f.sizes.map λz=>p9 z.toNat 0,[]⟩
theorem M9 (f:b6):dt f=(fC f).foldl iT (CK f):=rfl
def dI (f:b6) (i:Nat):aT:=((fC f).take i).foldl iT (CK f)
theorem wn {f:b6} {i:Nat} {g:cA} (h:(fC f)[i]? =σ g):dI f (i+1)=iT (dI f i) g:=M3 h
theorem td (f:b6):dI f (fC f).length=dt f:=by unfold dI;rw[o5,M9]
theorem Na (n:aT) (g:cA):(iT n g).k=n.k/\(iT n g).sizes=n.sizes/\(iT n g).unary.length=n.unary.length/\(iT n g).funs.length<=n.funs.length+1:=by
 unfold iT;split
 .exact⟨rfl,rfl,rfl,Nat.le_succ _⟩
 .exact⟨rfl,rfl,Ξ,Nat.le_succ _⟩
 .exact⟨rfl,rfl,rfl,Ξ⟩
theorem pd (f:b6):∀i,(dI f i).k=f.k/\(dI f i).sizes=f.sizes/\(dI f i).unary.length=f.sizes.length/\(dI f i).funs.length<=i
 |0=>⟨rfl,rfl,by show (f.sizes.map _).length=_;simp,X3 _⟩
 |i+1=>by
  have a:=pd f i;cases h:(fC f)[i]? with
  |none=>
   have j:=List.getElem?_eq_none_iff.1 h;have e:dI f (i+1)=dI f i:=by unfold dI;rw[o9 Ω,o9 j]
   rw[e];exact⟨a.1,a.2.1,a.2.2.1,Ω⟩
  |some g=>
   rw[wn h];obtain⟨h1,p,q,r⟩:=Na (dI f i) g;exact⟨h1.trans a.1,p.trans a.2.1,q.trans a.2.2.1,Ω⟩
end Go.Proofs.YtjjhhcfgfdepdaaGreatDoor
