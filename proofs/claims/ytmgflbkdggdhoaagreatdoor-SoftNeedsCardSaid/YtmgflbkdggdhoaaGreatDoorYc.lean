/- own texts, made small by a tool (wip/ holds them as they were written): no statement of the seat. -/
import Derived.Test.YtmgflbkdggdhoaaGreatDoorYb
set_option linter.unusedVariables false
set_option linter.unusedSimpArgs false
set_option linter.unnecessarySimpa false
open Array renaming getElem?_eq_some_iff→n9
open Bool renaming not_true→Y6,not_false→X9,eq_iff_iff→V6,or_eq_false_iff→S3
open Decidable renaming not_not→Z9
open Go renaming Value→x1,World→x3,TypeId→r9,IntKind→o5,Builtin→Z2,Program→W5,FuncId→R3
open Go.Addr renaming add_mid→T0
open Go.Builtin renaming append_→b9,len_→W8
open Go.Instr renaming loadAt→u4,fieldAt→u5,storeAt→o6,indexAt→j4,extract→Z7,buildSlice→Y4,sliceAt→V4,alloc→S7
open Go.IntKind renaming i64→X2
open Go.Proofs.Tryz renaming prog→x7
open Go.Value renaming int→V2
open Int renaming toNat_natCast→u6
open List renaming getElem?_eq_some_iff→x4,mem_of_getElem?→x5,getElem?_eq_getElem→x6,getElem?_map→x8,getD_eq_getElem?_getD→v8,length_map→u7,take_add_one→u9,replicate→r8,take_length→p9,length_append→o4,mem_append→o7,mem_singleton→o8,mem_map→l9,eq_nil_of_length_eq_zero→j5,length_take→j6,getElem?_set_self→c7,length_set→c8,length_cons→c9,take_of_length_le→b8,map_append→Z0,getElem?_eq_none→Z6,getElem?_take_of_lt→Z8,getElem?_set_ne→Y0,getElem?_append_left→Y1,getElem?_append_right→Y2,ext_getElem?→Y3,getElem?_set→Y7,mem_iff_getElem?→X1,range→X4,drop_eq_getElem_cons→X5,mem_or_eq_of_mem_set→X8,length_eq_one_iff→W7,mem_cons→W9,pairwise_iff_getElem→V3,map_set→V8,append_nil→U4,append_assoc→U6,map_cons→U7,foldl_cons→U8,set_append_right→T2,mem_of_mem_take→T4,mem_filter→T6,map_map→T7,foldl_append→S1,length→S6,length_singleton→S9,getElem_mem→R8
open Nat renaming le_refl→p8,le_trans→Y9,zero_add→X0,zero_le→X3,sub_self→V7,mul_one→U1,add_assoc→S8,lt_of_lt_of_le→R6,eq_zero_or_pos→R7
open Option renaming toList_some→o9,map_some→Z3,isNone_some→Z4,map_eq_some_iff→Y5,map→V5,getD_some→V9
open Option.some renaming inj→b6,injEq→Y8
open Prod.mk renaming injEq→T9
set_option maxHeartbeats 16000000
open Option renaming some→σ,none→ν
variable {w w':x3}{B N gs j m n r:Nat}{k y:Int}{clean:Bool}{S:Nat->Prop}{bf bv sv szv v:x1}{a aj all l scope sizes t:Λ}{e:r9}{cs:List x1}{K:x1->x3->Prop}
namespace Go.Proofs.YtmgflbkdggdhoaaGreatDoor
open Go Go.Vc Go.RowKit Go.Proofs Go.Proofs.Tryz
set_option maxRecDepth 100000
abbrev o0 (n:Nat):ak:=λr=>r<n
def qq (n:Int) (k:Nat) (s:Option aE):Option (Λ×aE):=s.bind (eZ n k)
theorem Lt {g k:Nat} {A B:ak} {s:Option aE} {m:Int} (h:di w g gs A B clean s) (hk:k<=4611686018427387904) (hm:0<=m/\m<=1000000):
  am x7 zc [Γ g,Δ (k:Int),Δ m] w λv w'=>fS w g gs A B clean ((qq m k s).map (·.2)) w'/\
   ∃gr l,au .i64 ap w' gr v l/\(∀r,leads v r->w.heap.size<=r)/\l.length<=100001/\ ∀q,qq m k s=σ q->l=q.1:=by
 cases s with
 |some s=>exact Kh (s:=s) h hk hm
 |none=>
  have h:ey w g gs A B:=h;refine az func138 ?_;refine⟨λout j V=>w=V/\out= .slice ν 0 0/\j=Δ 0,λ_ _ _=>0,⟨rfl,rfl,rfl⟩,?_⟩;rintro _ _ _ ⟨rfl,rfl,rfl⟩;refine aV (λv aa=>Ext w aa/\v= .bool false) ?_ ?_
  .rintro _ aa ⟨e,rfl⟩;rw[a1];exact⟨fS.mk (e.ab _) (h.ext e),0,[],au.nil _ _ _ _,λr p=>absurd p (λh=>by obtain⟨a,n,c,h,_⟩:=h;cases h),Ξ,λq x=>by cases x⟩
  .intro aA f;rw[aO,al];refine⟨λ_=>?_,λ_=>f _ _ ⟨Ext.refl _,rfl⟩⟩;refine (nx h).mono ?_;rintro _ aa _ ⟨rfl,e⟩;exact f _ _ ⟨e,rfl⟩
def sB (z:Λ) (l:List (Λ×Int)) (s:aE):aE:={s with shared:=s.shared++[(z,l)]}
def BU (w:x3) (g gs:Nat):Prop:=∃ (e big a f told:Int) (sv:x1),ag w g cc (fC gs e big a f told sv)/\e≠0
def gS (w:x3) (g gs:Nat) (A:ak) (B:ak) (clean:Bool) (s:Option aE):Prop:=match s with
 |some s=>df w g gs A B s clean
 |none=>BU w g gs
theorem di.q {g:Nat} {A:ak} {B:ak} {s:Option aE} (h:di w g gs A B clean s):gS w g gs A B clean s:=by
 cases s with
 |some s=>exact h
 |none=>
  obtain⟨_,e,big,a,f,told,sv,l,j,m,_⟩:=h;exact⟨e,big,a,f,told,sv,j,m.1⟩
theorem gS.ab {g:Nat} {A:ak} {B:ak} {s:Option aE} (h:gS w g gs A B clean s) (J:ah S w w') (f:¬S g) (j:∀r,bC g gs A r->r<w.heap.size->¬S r) (m:∀r,cH g gs A B r->¬S r):gS w' g gs A B clean s:=by
 cases s with
 |some s=>
  have h:df w g gs A B s clean:=h;exact df.ab h J (λr a=>j r a (h.1.2.2.2.1 r a)) m
 |none=>
  obtain⟨e,big,p,q,told,sv,x,y⟩:=h;exact⟨e,big,p,q,told,sv,x.ab J f,y⟩
theorem gS.ext {g:Nat} {A:ak} {B:ak} {s:Option aE} (h:gS w g gs A B clean s) (J:Ext w w'):gS w' g gs A B clean s:=h.ab (J.ab λ_=>False) (λh=>h) (λ_ _ _ h=>h) (λ_ _ h=>h)
theorem BV {g:Nat} {A:ak} {B:ak} {s:Option aE} (h:gS w g gs A B clean s):am x7 kK [Γ g] w λv w'=>v= .bool s.isSome/\Ext w w':=by
 cases s with
 |none=>
  obtain⟨e,big,j,m,told,sv,a,f⟩:=h;refine (vo a).mono ?_;rintro _ V _ ⟨rfl,J⟩;exact⟨by rw[decide_eq_false f];rfl,J⟩
 |some s=>exact oR h
theorem ho.aZ {g:Nat} {R R':Nat->Prop} {toks:List (Λ)} (h:ho w g R toks clean) (J:ah S w w') (j:¬S g) (m:∀r,R r->¬S r) (q:∀r,R r->R' r):ho w' g R' toks clean:=by
 obtain⟨s,p,a,⟨h1,x,y,z,bn,A⟩,f,B⟩:=h;exact⟨s,p,a,⟨h1,x,y,z.ab J j,bn,br A J λr e=>m r (f r e)⟩,λr e=>q r (f r e),B⟩
theorem lP {α:Type} [ao α] {m:Bool} {S R:ak} {l:List α} (h:ao.rep m S R w [v] l):∃a n c,v= .slice a n c:=by
 obtain⟨vs,e,F,f,he,U,hm⟩:=ja h;obtain⟨j,b,o,base,cap,rfl,_⟩:=U;exact⟨_,_,_,rfl⟩
def kY (w:x3) (g gs:Nat) (A:ak) (B:ak) (R:ak) (clean:Bool) (s:Option aE):Prop:=match s with
 |some s=>kT w g gs A B/\ho w gs R s.toks clean/\(0<=s.told/\s.told<=aw/\s.shared.length+s.toks.length<=100000)/\
  ∃big a e told sv,ag w g cc (fC gs 0 big a e told sv)/\((s.big=true↔big≠0)/\(s.big=false->told=s.told))/\bE A R w [sv] (show List iB from s.shared)
 |none=>BU w g gs
theorem kY.ab {g:Nat} {A R:ak} {B:ak} {s:Option aE} (h:kY w g gs A B R clean s) (J:ah S w w') (p:¬S g) (q:∀r,bC g gs A r->r<w.heap.size->¬S r) (x:∀r,R r->¬S r):kY w' g gs A B R clean s:=by
 cases s with
 |some s=>
  obtain⟨h1,y,z,big,a,f,told,sv,j,m,C⟩:=h;have E:=h1.2.2.2.1;exact⟨h1.ab J,y.ab J (q gs (.inr (.inl rfl)) (E _ (.inr (.inl rfl)))) x,z,big,a,f,told,sv,j.ab J p,m,ao.ab C J λr F h=>h.elim (λh=>q r (.inr (.inr h)) F) (x r)⟩
 |none=>
  obtain⟨e,big,a,f,told,sv,j,m⟩:=h;exact⟨e,big,a,f,told,sv,j.ab J p,m⟩
theorem kY.out {g:Nat} {A R B e:ak} {s:Option aE} (h:kY w g gs A B R clean s) (f:∀r,R r->cH g gs A e r) (j:∀r,e r->r<w.heap.size):gS w g gs A e clean s:=by
 cases s with
 |some s=>
  obtain⟨⟨m,q,x,y,N⟩,⟨z,p,a,C,E,F⟩,G,big,H,I,told,sv,J,K,L⟩:=h;exact⟨⟨m,q,x,y,j⟩,⟨z,p,a,C,λr M=>f r (E r M),F⟩,G,big,H,I,told,sv,J,K,ao.mono L (λ_ _ h=>h) λr _ h=>f r h⟩
 |none=>exact h
theorem di.qr {g:Nat} {A R:ak} {B:ak} {s:Option aE} (h:di w g gs A B clean s) (x:∀r,cH g gs A B r->R r):kY w g gs A B R clean s:=by
 cases s with
 |some s=>
  obtain⟨h1,⟨y,p,a,z,C,E⟩,F,big,f,j,told,sv,m,q,G⟩:=h;exact⟨h1,⟨y,p,a,z,λr H=>x r (C r H),E⟩,F,big,f,j,told,sv,m,q,ao.mono G (λ_ _ h=>h) λr _ h=>x r h⟩
 |none=>
  obtain⟨_,e,big,f,j,told,sv,l,m,q,_⟩:=h;exact⟨e,big,f,j,told,sv,m,q.1⟩
theorem Lu {g M:Nat} {A B R:ak} {s:Option aE} {aG aw u:x1} {z:Λ} {l:List (Λ×Int)} {K:x3->Prop} (h:di w g gs A B clean s) (N:∀r,cH g gs A B r->R r) (af:∀r,R r->cH g gs A (o0 w.heap.size) r)
  (ai:∀t,s=σ t->t.shared.length+1+t.toks.length<=100000) (aj:ag w M b0 [aG,u,aw,v])
  (hu:ao.rep (α:=Λ) false bz R w [u] z) (ad:ao.rep (α:=List (Λ×Int)) false bz R w [v] l)
  (ay:∀w' aS,ah (bC g gs A) w w'->(∀r,aS r->A r\/w.heap.size<=r)->kY w' g gs aS (o0 w.heap.size) R clean (s.map (sB z l))->K w'):
  ac x7 (bM (Γ g)) w λO=>
  ac x7 (u5 cc O 3) w λP=>
  ac x7 (u4 hg P) w λal=>
  ac x7 (u5 b0 (Γ M) 1) w λt76=>
  ac x7 (u4 ax t76) w λt77=>
  ac x7 (u5 b0 (Γ M) 3) w λaz=>
  ac x7 (u4 ir az) w λaA=>
  ac x7 (Instr.build jt #[(0,t77),(1,aA)]) w λaB=>
  aD x7 (Y4 hg 1 #[(0,aB)]) w λaC E=>
   (Ext w E\/cD x7 (u4 hg P) al E/\cD x7 (u5 cc O 3) P E/\cD x7 (bM (Γ g)) O E/\True)/\
   aD x7 (b9 #[hg,hg] hg #[al,aC]) E λaF Q=>
    ac x7 (bM (Γ g)) Q λaH=>
    ac x7 (u5 cc aH 3) Q λaI=>
    aD x7 (o6 hg aI aF) Q λ(_:Unit) aK=>K aK:=by
 obtain⟨aL,e,big,j,m,told,sv,G,q,H,aY,aN⟩:kT w g gs A B/\ ∃e big j m told sv,∃G:List iB,ag w g cc (fC gs e big j m told sv)/\bE A R w [sv] G/\G.length<=100000/\
   ∀w' aS y,kT w' g gs aS (o0 w.heap.size)->ah (λr=>A r\/r=g) w w'->ag w' g cc (fC gs e big j m told y)->bE aS R w' [y] (G++[((z,l):iB)])->kY w' g gs aS (o0 w.heap.size) R clean (s.map (sB z l)):=by
  cases s with
  |none=>
   obtain⟨h1,e,big,j,m,told,sv,l',S,I,W⟩:=h;exact⟨h1,e,big,j,m,told,sv,l',S,ao.mono W (λ_ _ h=>h) λr _ h=>N r h,I.2,λw' aS y U _ q H=>⟨e,big,j,m,told,y,q,I.1⟩⟩
  |some s=>
   obtain⟨h1,aO,am,big,j,m,told,sv,S,I,W⟩:=h;have ai:=ai s rfl;refine⟨h1,0,big,j,m,told,sv,s.shared,S,ao.mono W (λ_ _ h=>h) λr _ h=>N r h,(show s.shared.length<=100000 by omega),λw' aS y U aP q H=>⟨U,?_,⟨am.1,am.2.1,?_⟩,big,j,m,told,y,q,I,H⟩⟩
   .exact ho.aZ aO aP (λhe=>he.elim h1.2.2.1 λh=>h1.1 h.symm) (λr f he=>he.elim (λh=>f.1 (.inr (.inr h))) λh=>f.1 (.inl h)) N
   .show (s.shared++[(z,l)]).length+s.toks.length<=100000;simp;omega
 obtain⟨aR,X,aT,an,a1⟩:=id aL;rw[aQ cc.p 3 q rfl,aM b0.p 1 aj rfl,aM b0.p 3 aj rfl];rw[dn (cs:=#[u,v]) (by obtain⟨_,_,_,rfl⟩:=lP hu;obtain⟨_,_,_,rfl⟩:=lP ad;kernel_rfl)];have ap:bE (λ_=>False) R w [u,v] ((z,l):iB):=⟨[u],[v],bz,bz,rfl,λ_ h=>h,λ_ h=>h,λ_ _ h _=>h,hu,ad⟩;refine kc (α:=iB) (a:=(z,l)) (cs:=[u,v]) (A:=λ_=>False) (R:=R) hg.u jt.i Φ rfl ap λx V C _ J=>?_;have a2:=C.size;refine⟨.inl C,?_⟩;refine nl (α:=iB) (a:=(z,l)) (A:=λ_=>False) (R:=R) hg.u jt.i rfl (bI H C) J (bI ap C) (λr _ aV F=>?_) Ω Ω λaq aa Y Z=>?_
 .rcases F with F|F
  .exact F
  .exact (af r F).1 (.inr (.inr aV))
 have a6:=Z.size;have aW:=(q.ext C).ab Z X;rw[bV,aU cc.p rfl];refine bq (g:=g) (o:=6) hg.i (pS Y) (gD Y) aW (by simp[fC]) λL au a7 ae=>?_;have ae:ag L g cc (fC gs e big j m told aq):=ae;have av:ah (λr=>A r\/r=g) w L:=((C.ab _).trans (Z.mono λr _ h=>.inl h)).trans (au.mono λr _ h=>.inr h);let aS:ak:=λr=>(A r\/w.heap.size<=r)/\r<aa.heap.size;have a8:g<w.heap.size:=an g (.inl rfl);have ba:gs<w.heap.size:=an gs (.inr (.inl rfl));have aX:=ao.mono (S':=aS) (R':=R) Y (λr f h=>⟨h.elim .inl λh=>h.elim False.elim λh=>.inr Ω,f⟩) (λr f h=>h);refine ay L aS (av.mono λr _ h=>h.elim (λh=>.inr (.inr h)) .inl) (λr f=>f.1) (aN L aS aq ⟨aR,λh=>h.1.elim X λh=>Ω,λh=>h.1.elim aT λh=>Ω,λr f=>?_,?_⟩ av ae (ao.ab aX au λr f aJ he=>?_))
 .rcases f with rfl|rfl|f
  .omega
  .omega
  .have:=f.2;omega
 .intro r f;have f:r<w.heap.size:=f;omega
 .have he:r=g:=he;subst he;rcases aJ with aJ|aJ
  .exact aJ.1.elim X λh=>Ω
  .exact (af _ aJ).1 (.inl rfl)
theorem Lv {e:Nat} {aG x:x1} {K:x3->Prop} (L:ag w e b0 [aG,.slice ν 0 0,Δ 0,.slice ν 0 0]) (M:aF .i64 w aG scope) (X:∀r,leads aG r->r≠e)
  (Y:aF .i64 w x all) (Z:∀r,leads x r->r≠e) (ad:∀v∈scope,0<=v/\v<all.length) (aI:scope.length<=100001)
  (ae:∀w' szv gz,ah (λr=>r=e) w w'->ag w' e b0 [aG,szv,Δ 0,.slice ν 0 0]->au .i64 ap w' gz szv (scope.map λv=>all.getD v.toNat 0)->w.heap.size<=gz->K w'):
 cz (Δ 0) w λE q k=>
  ac x7 (aL .lss ai false false E (Δ (scope.length:Int))) q λaf=>
  Split af (ac x7 (j4 ax aG E) q λaj=>
  ac x7 (u4 ap aj) q λak=>
  er q λf=>
  ac x7 (u5 b0 (Γ e) 1) f λt39=>
  ac x7 (u4 ax t39) f λN=>
  ac x7 (j4 ax x ak) f λam=>
  ac x7 (u4 ap am) f λan=>
  aD x7 (Y4 ax 1 #[(0,an)]) f λt45 z=>
   (Ext f z\/cD x7 (u4 ax t39) N z/\cD x7 (u5 b0 (Γ e) 1) t39 z/\True)/\
  aD x7 (b9 #[ax,ax] ax #[N,t45]) z λt46 O=>
   ac x7 (u5 b0 (Γ e) 1) O λao=>
   aD x7 (o6 ax ao t46) O λ(_:Unit) P=>
    ac x7 (aL .add ai false true E (Δ 1)) P λaq=>
  k aq P) (K q):=by
 have aJ:=L.lt;refine cz.range scope.length (λi V=>ah (λr=>r=e) w V/\ ∃szv gz,ag V e b0 [aG,szv,Δ 0,.slice ν 0 0]/\au .i64 ap V gz szv ((scope.take i).map λv=>all.getD v.toNat 0)/\w.heap.size<=gz) M.le ⟨ah.refl _ _,_,w.heap.size,L,au.nil _ _ _ _,p8 _⟩ ?_ ?_
 rotate_left
 .rintro V av ⟨j,szv,gz,A,B,Q⟩;rw[p9] at B;rw[aO,al];exact⟨λh=>Ω,λ_=>ae V szv gz j A B Q⟩
 rintro i V av hi ⟨j,szv,gz,A,B,Q⟩ aw;obtain⟨v,F⟩:=aH (l:=scope) hi;have aK:=ad v (x5 F);have ay:all[v.toNat]? =σ (all.getD v.toNat 0):=by
  rw[v8,x6 Ω];rfl
 have az:aF .i64 V aG scope:=hP M j λr C a n c G H=>X r ⟨a,n,c,G,H⟩ C;have aA:aF .i64 V x all:=hP Y j λr C a n c G H=>Z r ⟨a,n,c,G,H⟩ C;refine bH Ω ?_;rw[bc ax.u ap.i Ψ az F];intro aa m _ _;have aN:=j.size;have aQ:=m.size;rw[aM b0.p 1 (A.ext m) rfl];rw[fM (y:=v) (i:=v.toNat) Ω ax.u ap.i Ψ (aA.ext m) ay];refine ew ax.u ap.i rfl λa ga aR aS s aB=>?_;refine⟨.inl s,?_⟩;have z3:=s.size;refine iZ ax.u ap.i rfl ((B.ext m).ext s) aB.ls Θ Θ λR S aT aV I U=>?_;rw[aU b0.p rfl];have aC:=((A.ext m).ext s).ab U (λhe=>by have he:e=gz:=he;omega);refine bq (g:=e) (o:=1) ax.i I.ls.cells.1 I.ls.cells.2 aC Ξ λaE W aW J=>?_;have J:ag aE e b0 [aG,R,Δ 0,.slice ν 0 0]:=J;rw[aP];refine aw _ ⟨(hn (j.trans ((m.trans s).ab _)) U λr C he=>by have he:r=gz:=he;omega).trans W,R,S,J,?_,Ω⟩;rw[u9,F,o9,Z0];exact I.ab W (λ_ he=>by have he:S=e:=he;omega)
abbrev hr:Type:=Rd (Λ)×Rd (Λ)×Int×Rd (List (Λ×Int))
def gU (f:cw):hr:=(f.scope,f.sizes,f.other,f.lines)
theorem BW {R:ak} {aG b3:x1} {o:Int} {sc:Λ} {l:List (Λ×Int)} (h1:ao.rep (α:=Λ) false bz R w [aG] sc) (e:ao.rep (α:=Λ) false bz R w [szv] a) (f:ao.rep (α:=List (Λ×Int)) false bz R w [b3] l):
  Seen R w [aG,szv,Δ o,b3] ((sc,a,o,l):hr):=
 ⟨[aG],[szv,Δ o,b3],bz,bz,rfl,λ_ h=>h,λ_ h=>h,λ_ _ h _=>h,h1,[szv],[Δ o,b3],bz,bz,rfl,λ_ h=>h,λ_ h=>h,λ_ _ h _=>h,e,[Δ o],[b3],bz,bz,rfl,λ_ h=>h,λ_ h=>h,λ_ _ h _=>h,rfl,f⟩
theorem qs {R:ak} {g:Nat} (h:au .i64 e w g v l) (p:∀r,leads v r->R r):ao.rep (α:=Λ) false bz R w [v] l:=by
 have h1:bE (λr=>r=g) bz w [v] l:=nn h;obtain⟨vs,q,F,C,he,U,hm⟩:=ja h1;refine⟨v,rfl,vs,q,λ_ _=>False,⟨λ_ _ h=>h,λh=>(by cases h),λh=>by cases h⟩,⟨he.1,λi c a s x=>?_⟩,?_,λh=>by cases h⟩
 .exact he.2 i c a s x
 .obtain⟨f,b,o,base,cap,rfl,y,z,j,E,A⟩:=U;refine⟨f,b,o,base,cap,rfl,y,z,j,λm=>.inr (p b ?_),A⟩;have B:0<l.length:=by
   rw[f] at m;rcases R7 l.length with h|h
   .rw[h,Nat.zero_mul] at m;omega
   .exact h
  exact⟨⟨b,o,ν⟩,l.length,cap,by rw[j B],rfl⟩
theorem BX {α:Type} [ao α] {R R':ak} {a:α} (h:Seen R w cs a) (e:∀r,r<w.heap.size->R r->R' r):Seen R' w cs a:=ao.mono h (λ_ _ h=>h) e
theorem BY {f a:Nat} (e:cs.length=4) (h1:∀v∈cs,v.oneCell'=true) (m:ag w f b0 cs) {h:List x1} (q:h.length=4) (s:ag w a b0 h)
  (x:∀w',ah (λr=>r=a) w w'->K (.agg cs.toArray) w'):
  ac x7 (u4 b0 (Γ f)) w λy=>
  aD x7 (o6 b0 (Γ a) y) w λ(_:Unit) j=>
  ac x7 (do loadVar b0 (<-asAddr (Γ a))) j λz=>K z j:=by
 rw[bR b0.p b0.i e m.range];refine ch b0.i e q h1 s λw' A _ B=>?_;rw[fN b0.p b0.i e B.range];exact x w' A
theorem BZ {s s':aE} {l:List (Λ×Int)} (h:dP sizes s=σ (l,s')):s'.shared=s.shared/\s'.toks.length<=s.toks.length:=by
 unfold dP at h;cases j:bh (-aw) aw s with
 |none=>rw[j] at h;cases h
 |some q=>
  obtain⟨n,e⟩:=q;rw[j] at h;simp only at h;have h1:=dC j;obtain⟨w,x,m⟩:=h1.eqs;split at h
  .cases U:e.shared[(-n-1).toNat]? with
   |none=>rw[U] at h;cases h
   |some q=>
    obtain⟨z,l'⟩:=q;rw[U] at h;simp only at h;split at h
    .simp only[Y8,T9] at h;obtain⟨rfl,rfl⟩:=h;exact⟨m,by have:=h1.1;omega⟩
    .cases h
  .have:=ki (f:=dO sizes) (λacc t=>t.shared=s.shared/\t.toks.length<=s.toks.length) (λacc t a bu ⟨r,y⟩ g=>by
    obtain⟨A,B,C,p⟩:=oP g;obtain⟨f1,f2,f3⟩:=p.eqs;exact⟨by rw[f3,r],by have:=p.1;omega⟩) n.toNat [] (bd (decide (16384<min (e.told+n) aw)) {e with told:=min (e.told+n) aw}) l s' ⟨m,by have:=h1.1;show e.toks.length<=_;omega⟩ h
   exact this.1
theorem Lw {g:Nat} {A B:ak} {s:aE} {aC:x1} (h:df w g gs A B s clean) (hi:dQ s) (bN:aF .i64 w aC all) (be:∀r,leads aC r->¬bC g gs A r/\r<w.heap.size)
  (cm:∀z∈all,1<=z/\z<=aw) (dp:all.length<=100001) (cn:ej w) (h1:cH g gs A B 1):
  am x7 y7 [Γ g,aC] w λv w'=>∃aS Q cs,∃bP:hr,v= .agg cs.toArray/\cs.length=4/\ah (bC g gs A) w w'/\(∀r,aS r->A r\/w.heap.size<=r)/\(∀r,Q r->(B r\/w.heap.size<=r)/\r<w'.heap.size)/\(∀r,B r->Q r)/\gS w' g gs aS Q clean ((c6 all s).map (·.2))/\
   Seen (cH g gs aS Q) w' cs bP/\ ∀q,c6 all s=σ q->bP=gU q.1:=by
 have cp:=h.1;obtain⟨dr,ds,bf,cq,S⟩:=id cp;have gT:∀r,bC g gs A r->r<w.heap.size:=cq;have dt:aw=4611686018427387904:=rfl;have du:s.shared.length+s.toks.length<=100000:=h.2.2.1.2.2;refine az func78 ?_;refine bD b0.i λC V dv bg aP=>?_;have aP:ag V C b0 [.slice ν 0 0,.slice ν 0 0,Δ 0,.slice ν 0 0]:=aP;have dw:=bg.size;have dx:=aP.lt;have K:¬bC g gs A C:=λy=>by have:=gT _ y;omega
 refine (vp (lo:=-aw) (hi:=aw) (h.ext bg)).mono ?_;rintro _ aa _ ⟨W,a,at_,rfl,bQ,cr⟩;obtain⟨bi,bj⟩:=W.of;have dy:=bi.size;rw[bo,bp,aO,lD];have dz: -aw<=a/\a<=aw:=by
  cases E:bh (-aw) aw s with
  |none=>rw[cr E];unfold aw;omega
  |some q=>rw[bQ q E];exact (hQ (n:=q.1) (s':=q.2) E).1
 rw[wrap_i64 Ω Ω,uP,show max a (0-a)=((a.natAbs:Nat):Int) by omega];have bR:ah (bC g gs A) w aa:=(bg.ab _).trans bi;have ct:aF .i64 aa aC all:=hP bN bR λr f a n c ad bk=>(be r ⟨a,n,c,ad,bk⟩).1 f;rw[aW ax.u ct];refine (Lt (k:=a.natAbs) (m:=(all.length:Int)) bj Ω Ω).mono ?_;rintro aG dA _ ⟨W,gr,scope,aD,cu,dD,cz⟩;obtain⟨bl,cA⟩:=W.of;have z3:=bl.size;rw[dn (cs:=#[aG,.slice ν 0 0,Δ 0,.slice ν 0 0]) (by obtain⟨_,_,_,_,_,rfl,_⟩:=aD.ls;kernel_rfl)];refine bD b0.i λj cB dE aH aQ=>?_;have aQ:ag cB j b0 [.slice ν 0 0,.slice ν 0 0,Δ 0,.slice ν 0 0]:=aQ;have z4:=aH.size;have dF:=aQ.lt;have bm:=aD.ls.cells;refine ch (vs:=[aG,.slice ν 0 0,Δ 0,.slice ν 0 0]) b0.i rfl rfl (by intro v ad;simp at ad;rcases ad with rfl|rfl|rfl|rfl<;>first|exact bm.2|rfl) aQ λaR aI dG cC=>?_;have ai:¬bC g gs A j:=λy=>by have:=gT _ y;omega
 have bS:di aR g gs A B clean ((qq all.length a.natAbs ((bh (-aw) aw s).map (·.2))).map (·.2)):=(cA.ext aH).ab aI (λr f he=>by have he:r=j:=he;exact ai (he▸f)) (λr f he=>by have:=S r f.2;have he:r=j:=he;omega);have bT:ah (bC g gs A) w aR:=hn ((bR.trans bl).trans (aH.ab _)) aI λr f he=>by have he:r=j:=he;omega
 have cD:ag aR C b0 [.slice ν 0 0,.slice ν 0 0,Δ 0,.slice ν 0 0]:=(((aP.ab bi K).ab bl K).ext aH).ab aI (λhe=>by have he:C=j:=he;omega);have cE:au .i64 ap aR gr aG scope:=br (aD.ext aH) aI λr f he=>by
  obtain⟨cF,bj⟩:=bO aD f;have he:r=j:=he;omega
 refine (oZ bS).mono ?_;rintro _ aT _ ⟨rfl,X⟩;have aj:=bS.ext X;have aJ:=cE.ext X;have bn:=cC.ext X;have bV:=cD.ext X;have dH:=X.size;have z5:=aI.size;have O:∀r,leads aG r->aa.heap.size<=r/\r≠j/\r≠C:=λr f=>by
  obtain⟨cF,bj⟩:=bO aD f;have:=cu r f;exact⟨this,Ω,Ω⟩
 have J:c6 all s=match qq all.length a.natAbs ((bh (-aw) aw s).map (·.2)) with
   |none=>ν
   |some (sc,H)=>(iE (sc.map λv=>all.getD v.toNat 0) ((bb 0 aw (σ (bd (decide (6<a.natAbs)||dq (sc.map λv=>all.getD v.toNat 0)) H))).map (·.2))).map λq=>((⟨sc,sc.map λv=>all.getD v.toNat 0,((bh 0 aw (bd (decide (6<a.natAbs)||dq (sc.map λv=>all.getD v.toNat 0)) H)).map (·.1)).getD 0,q.1⟩:cw),if a<0 then sB (sc.map λv=>all.getD v.toNat 0) q.1 q.2 else q.2):=by
  unfold c6;cases E:bh (-aw) aw s with
  |none=>rfl
  |some q=>
   obtain⟨a',U⟩:=q;have:=bQ _ E;subst this;simp only;show _=match eZ all.length a.natAbs U with
    |none=>ν
    |some (sc,H)=>_
   cases eZ all.length a.natAbs U with
   |none=>rfl
   |some q=>
    obtain⟨sc,H⟩:=q;simp only;show _=V5 _ (iE _ ((bh 0 aw _).map (·.2)));cases bh 0 aw (bd (decide (6<a.natAbs)||dq (sc.map λv=>all.getD v.toNat 0)) H) with
    |none=>rfl
    |some q=>
     obtain⟨o,G⟩:=q;simp only;show _=V5 _ (dP _ G);cases dP (sc.map λv=>all.getD v.toNat 0) G with
     |none=>rfl
     |some q=>rfl
 rw[bG,ce];cases Y:qq all.length a.natAbs ((bh (-aw) aw s).map (·.2)) with
 |none=>
  rw[Y] at aj J;simp only at J;refine⟨λ_=>?_,λh=>by simp at h⟩;refine BY rfl (by intro v ad;simp at ad;rcases ad with rfl|rfl|rfl|rfl<;>first|exact bm.2|rfl) bn rfl bV λZ L=>?_;have cG:=L.size;refine⟨A,λr=>(B r\/w.heap.size<=r)/\r<Z.heap.size,_,(scope,[],0,[]),rfl,rfl,hn (bT.trans (X.ab _)) L λr f he=>by have he:r=C:=he;omega,λr f=>.inl f,λr f=>f,λr f=>⟨.inl f,by have:=S r f;omega⟩,?_,?_,λq E=>by rw[J] at E;cases E⟩
  .rw[J];have cI:gS Z g gs A B clean (V5 (λx=>x.2) (ν:Option (Λ×aE))):=aj.q.ab L (λhe=>by have:=gT g (.inl rfl);have he:g=C:=he;omega) (λr f _ he=>by have he:r=C:=he;exact K (he▸f)) (λr f he=>by have:=S r f.2;have he:r=C:=he;omega);exact cI
  .refine BW (qs (br aJ L λr f he=>(O r f).2.2 he) λr f=>?_) gE gE;have M:=O r f;have an:=(bO aJ f);exact⟨λy=>by have:=gT _ y;omega,.inr Ω,Ω⟩
 |some q=>
  obtain⟨sc,H⟩:=q;have:=cz _ Y;subst this;rw[Y] at aj J;simp only at J;refine⟨λh=>by simp at h,λ_=>?_⟩;have aj:df aT g gs A B H clean:=aj;obtain⟨U,cJ,cK⟩:∃U,(bh (-aw) aw s).map (·.2)=σ U/\eZ all.length a.natAbs U=σ (scope,H):=by
   cases E:(bh (-aw) aw s).map (·.2) with
   |none=>rw[E] at Y;cases Y
   |some U=>rw[E] at Y;exact⟨U,rfl,Y⟩
  obtain⟨bW,cL,rfl⟩:=Y5.1 cJ;have bX:=dC (n:=bW.1) (s':=bW.2) cL;obtain⟨bY,dI,dJ,bZ⟩:=vm cK;have bt:=bX.eqs;have bu:=bY.eqs;have cM:dQ H:=λP=>by rw[bu.1,bt.1];rw[bu.2.1,bt.2.1] at P;exact hi P
  have cN:H.shared.length+1+H.toks.length<=100000:=by rw[bu.2.2,bt.2.2];have:=bX.1;have:=bY.1;omega
  generalize bw:(scope.map λv=>all.getD v.toNat 0)=sizes at J;have b1:∀z∈sizes,1<=z/\z<=aw:=λz aV=>by
   rw[<-bw] at aV;obtain⟨v,ad,rfl⟩:=l9.1 aV;have:=bZ v ad;refine cm _ ?_;rw[v8,x6 Ω];exact R8 _
  have dK:sizes.length=scope.length:=by rw[<-bw,u7]
  have b2:ah (bC g gs A) w aT:=bT.trans (X.ab _);have cO:aF .i64 aT aC all:=hP bN b2 λr f a n c ad bk=>(be r ⟨a,n,c,ad,bk⟩).1 f;rw[aM b0.p 0 bn rfl,aW ax.u aJ.ls];refine Lv bn aJ.ls (λr f=>(O r f).2.1) cO (λr f=>by have:=(be r f).2;omega) bZ Ω λZ szv gz L b4 aX dL=>?_;rw[bw] at aX;have cG:=L.size;have bx:∀r,cH g gs A B r->¬(λr=>r=j) r:=λr f he=>by have:=S r f.2;have he:r=j:=he;omega
  have bA:∀r,bC g gs A r->¬(λr=>r=j) r:=λr f he=>by have he:r=j:=he;exact ai (he▸f)
  have b5:=aj.ab L bA bx;have cP:ah (bC g gs A) w Z:=hn b2 L λr f he=>by have he:r=j:=he;omega
  refine dg (λaY=>ah (bC g gs A) Z aY/\df aY g gs A B (bd (decide (6<a.natAbs)||dq sizes) H) clean) ?_ ?_
  rotate_left
  .intro aA aK;rw[bU,al];refine⟨λdM=>?_,λdN=>?_⟩
   .refine (sj b5).mono ?_;rintro _ cQ _ ⟨cR,cS⟩;refine aK _ ⟨cR.mono λr _ h=>.inl h,?_⟩;rw[decide_eq_true Ω,Bool.true_or];exact cS
   .rw[aM b0.p 1 b4 rfl];refine (Bd aX.ls λz aV=>(b1 z aV).1).mono ?_;rintro _ cQ _ ⟨rfl,b6⟩;refine (sj (b5.ext b6)).mono ?_;rintro _ dO _ ⟨cT,cU⟩;refine aK _ ⟨(b6.ab _).trans (cT.mono λr _ h=>.inl h),?_⟩;rw[decide_eq_false Ω,Bool.false_or];exact cU
  rintro aY ⟨aZ,a1⟩;have dR:=aZ.size;generalize bf:bd (decide (6<a.natAbs)||dq sizes) H=G at J a1;have cV:dQ G:=λP=>by
   subst bf;have P:(H.big||_)=false:=P;exact cM (S3.1 P).1
  have dS:G.shared.length+1+G.toks.length<=100000:=by subst bf;exact cN
  have a1:di aY g gs A B clean (σ G):=a1;refine (lO (lo:=0) (hi:=aw) a1).mono ?_;rintro _ b7 _ ⟨W,o,dT,rfl,cW,dU⟩;obtain⟨a2,cX⟩:=W.of;have dV:=a2.size;rw[bo,bp,aU b0.p rfl];have cY:=(b4.ab aZ ai).ab a2 ai;refine bq (g:=j) (o:=2) ap.i rfl rfl cY Ξ λa6 aq dW a7=>?_;have a7:ag a6 j b0 [aG,szv,Δ o,.slice ν 0 0]:=a7;rw[aM b0.p 1 a7 rfl];have cZ:=cX.ab aq bA bx;have bB:ah (bC g gs A) Z b7:=aZ.trans a2;have c0:ah (bC g gs A) w b7:=cP.trans bB;have b8:ah (bC g gs A) w a6:=hn c0 aq λr f he=>by have he:r=j:=he;omega
  have ac:∀r,leads szv r->aT.heap.size<=r/\r<Z.heap.size:=λr f=>by have:=bO aX f;omega
  have b9:au .i64 ap a6 gz szv sizes:=br (br aX bB λr f y=>by have:=gT _ y;have:=ac r f;omega) aq λr f he=>by have he:r=j:=he;have:=ac r f;omega
  have c1:au .i64 ap a6 gr aG scope:=br (br (br aJ L λr f he=>(O r f).2.1 he) bB λr f y=>by have:=gT _ y;have:=O r f;omega) aq λr f he=>(O r f).2.1 he;have dX:=aq.size;refine (Ls cZ (λt bE=>?_) b9.ls (λr f=>⟨λy=>by have:=gT _ y;have:=ac r f;omega,by have:=ac r f;omega⟩) b1 Ω (cn.ab b8 h1.1) h1).mono ?_
  .obtain⟨q,E,rfl⟩:=Y5.1 bE;have ca:=(dC (n:=q.1) (s':=q.2) E).eqs;intro P;rw[ca.1];rw[ca.2.1] at P;exact cV P
  rintro b3 c2 _ ⟨W,l,bF,cb⟩;obtain⟨av,c3⟩:=W.of;have dY:=av.size;have bH:b3.cells= #[b3]/\b3.oneCell'=true:=⟨pS bF,gD bF⟩;rw[aU b0.p rfl];have c4:=a7.ab av ai;refine bq (g:=j) (o:=3) ir.i bH.1 bH.2 c4 Ξ λI ae dZ a8=>?_;have a8:ag I j b0 [aG,szv,Δ o,b3]:=a8;have ea:=ae.size;have cc:=c3.ab ae bA bx;have c5:ah (bC g gs A) w c2:=b8.trans av;have c7:ah (bC g gs A) w I:=hn c5 ae λr f he=>by have he:r=j:=he;omega
  have cd:au .i64 ap I gr aG scope:=br (br c1 av λr f y=>by have:=gT _ y;have:=O r f;omega) ae λr f he=>(O r f).2.1 he;have ba:au .i64 ap I gz szv sizes:=br (br b9 av λr f y=>by have:=gT _ y;have:=ac r f;omega) ae λr f he=>by have he:r=j:=he;have:=ac r f;omega
  have c8:ag I C b0 [.slice ν 0 0,.slice ν 0 0,Δ 0,.slice ν 0 0]:=((((((bV.ab L (λhe=>by have he:C=j:=he;omega)).ab aZ K).ab a2 K).ab aq (λhe=>by have he:C=j:=he;omega)).ab av K).ab ae (λhe=>by have he:C=j:=he;omega));let N:ak:=λr=>(B r\/w.heap.size<=r)/\r<I.heap.size;have cg:ao.rep (α:=List (Λ×Int)) false bz (λr=>cH g gs A N r/\r≠j/\r≠C) I [b3] l:=by
   refine BX (ao.ab bF ae λr f h he=>?_) λr f h=>?_
   .have he:r=j:=he;rcases h with h|h
    .exact h
    .rcases h with h|h
     .have:=S r h.2;omega
     .omega
   .rcases h with h|h
    .have:=S r h.2;exact⟨⟨h.1,.inl h.2,f⟩,Ω,Ω⟩
    .exact⟨⟨λy=>by have:=gT _ y;omega,.inr Ω,f⟩,Ω,Ω⟩
  have c9:∀r,leads aG r->cH g gs A N r/\r≠j/\r≠C:=λr f=>by
   have M:=O r f;have an:=(bO cd f);exact⟨⟨λy=>by have:=gT _ y;omega,.inr Ω,Ω⟩,M.2⟩
  have ci:∀r,leads szv r->cH g gs A N r/\r≠j/\r≠C:=λr f=>by
   have M:=ac r f;have an:=(bO ba f);exact⟨⟨λy=>by have:=gT _ y;omega,.inr Ω,Ω⟩,Ω,Ω⟩
  have da:Seen (λr=>cH g gs A N r/\r≠j/\r≠C) I [aG,szv,Δ o,b3] ((scope,sizes,o,l):hr):=BW (qs cd c9) (qs ba ci) cg;have db:∀q,c6 all s=σ q->((scope,sizes,o,l):hr)=gU q.1:=λq E=>by
   rw[J] at E;obtain⟨eb,bJ,rfl⟩:=Y5.1 E;have M:=cb _ bJ;cases ay:bh 0 aw G with
   |none=>have e:bb 0 aw (σ G)=ν:=ay;rw[e] at bJ;cases bJ
   |some af=>
    have an:=cW af ay;rw[M,an];rfl
  have dc:∀v∈[aG,szv,V2 .i64 o,b3],v.oneCell'=true:=by
   intro v ad;simp at ad;rcases ad with rfl|rfl|rfl|rfl
   .exact bm.2
   .exact ba.ls.cells.2
   .rfl
   .exact bH.2
  have cj:∀r,cH g gs A B r->cH g gs A N r/\r≠j/\r≠C:=λr f=>by
   have:=S r f.2;exact⟨⟨f.1,.inl f.2,Ω⟩,Ω,Ω⟩
  refine dg (λbK=>∃aS,ah (bC g gs A) I bK/\(∀r,aS r->A r\/I.heap.size<=r)/\ ∃Q,kY bK g gs aS Q (λr=>cH g gs A N r/\r≠j/\r≠C) clean ((c6 all s).map (·.2))) ?_ ?_
  .rintro bK ⟨aS,aL,aN,Q,dd⟩;have ec:=aL.size;refine BY rfl dc (a8.ab aL ai) rfl (c8.ab aL K) λbL bc=>?_;have ed:=bc.size;have ck:∀r,bC g gs aS r->¬(λr=>r=C) r:=λr f he=>by
    have he:r=C:=he;subst he;rcases f with f|f|f
    .exact K (.inl f)
    .exact K (.inr (.inl f))
    .rcases aN _ f with f|f
     .exact K (.inr (.inr f))
     .omega
   have cl:∀r,(cH g gs A N r/\r≠j/\r≠C)->cH g gs aS (λr=>(B r\/w.heap.size<=r)/\r<bL.heap.size/\(r<I.heap.size\/B r)) r:=λr h=>⟨λy=>h.1.1 (y.imp id (Or.imp id λy=>(aN r y).elim id λh'=>by have:=h.1.2.2;omega)),h.1.2.1,by have:=h.1.2.2;omega,.inl h.1.2.2⟩;have de:kY bL g gs aS Q (λr=>cH g gs A N r/\r≠j/\r≠C) clean ((c6 all s).map (·.2)):=dd.ab bc (ck g (.inl rfl)) (λr f _=>ck r f) (λr f=>f.2.2);refine⟨aS,λr=>(B r\/w.heap.size<=r)/\r<bL.heap.size/\(r<I.heap.size\/B r),_,(scope,sizes,o,l),rfl,rfl,hn (c7.trans aL) bc λr f he=>by have he:r=C:=he;omega,λr f=>(aN r f).imp id λh=>Ω,λr f=>⟨f.1,f.2.1⟩,λr f=>⟨.inl f,by have:=S r f;omega,.inr f⟩,de.out cl λr f=>f.2.1,?_,db⟩;refine BX (ao.ab (ao.ab da aL λr _ h y=>?_) bc λr _ h he=>?_) λr _ h=>cl r h
   .rcases h with h|h
    .exact h
    .exact h.1.1 y
   .rcases h with h|h
    .exact h
    .exact h.2.2 he
  .intro aA aK;rw[al];refine⟨λdh=>?_,λdj=>?_⟩
   .intro bM aB _ _;have ee:=aB.size;have dk:∀r,(cH g gs A N r/\r≠j/\r≠C)->cH g gs A (o0 bM.heap.size) r:=λr h=>⟨h.1.1,by have:=h.1.2.2;show r<bM.heap.size;omega⟩;refine Lu (R:=λr=>cH g gs A N r/\r≠j/\r≠C) (z:=sizes) (l:=l) (cc.ext aB) cj dk (λt bE=>?_) (a8.ext aB) (qs (ba.ext aB) ci) (bI cg aB) λef aS dl aN dm=>?_
    .obtain⟨q,E,rfl⟩:=Y5.1 bE;cases ay:bh 0 aw G with
     |none=>have e:bb 0 aw (σ G)=ν:=ay;rw[e] at E;cases E
     |some af=>
      have e:bb 0 aw (σ G)=σ af:=ay;rw[e] at E;have h1:q.2.shared=af.2.shared/\q.2.toks.length<=af.2.toks.length:=BZ (l:=q.1) (s':=q.2) E;have M:=dC (n:=af.1) (s':=af.2) ay;have an:=M.eqs.2.2;have eg:=M.1;rw[h1.1,an];have:=h1.2;omega
    .refine aK _ ⟨aS,(aB.ab _).trans dl,λr f=>(aN r f).imp id λh=>Ω,o0 bM.heap.size,?_⟩;have e:(c6 all s).map (·.2)=((iE sizes ((bb 0 aw (σ G)).map (·.2))).map (·.2)).map (sB sizes l):=by
      rw[J];cases E:iE sizes ((bb 0 aw (σ G)).map (·.2)) with
      |none=>rfl
      |some q=>
       have M:=cb _ E;simp only[Z3,if_pos dh,M]
     rw[e];exact dm
   .refine aK _ ⟨A,ah.refl _ _,λr f=>.inl f,B,?_⟩;have e:(c6 all s).map (·.2)=(iE sizes ((bb 0 aw (σ G)).map (·.2))).map (·.2):=by
     rw[J];cases E:iE sizes ((bb 0 aw (σ G)).map (·.2)) with
     |none=>rfl
     |some q=>simp only[Z3,if_neg dj]
    rw[e];exact cc.qr cj
def km (l:Λ):Prop:=∀v∈l,0<=v/\v<64
theorem qt (h:km l) {v:Int}:v∈bl l↔v∈l:=by
 unfold bl;rw[T6,decide_eq_true_eq];refine⟨λh=>h.2,λad=>⟨?_,ad⟩⟩;obtain⟨h1,a⟩:=h v ad;exact l9.2 ⟨v.toNat,List.mem_range.2 Ω,Ω⟩
theorem Lx (l:Λ):km (bl l):=λv ad=>by
 obtain⟨n,a,rfl⟩:=l9.1 (T6.1 ad).1;have:=List.mem_range.1 a;omega
theorem vH (l:Λ):(bl l).Pairwise (·< ·):=by
 unfold bl;refine List.Pairwise.filter _ ?_;rw[List.pairwise_map];exact List.pairwise_lt_range.imp λh=>Ω
theorem B1 (l:Λ):(bl l).Nodup:=(vH l).imp λh=>Ω
where
 nodup_le' {a b:Λ} (h:a.Nodup) (U:∀x∈a,x∈b):a.length<=b.length:=by
  induction a generalizing b with
  |nil=>exact X3 _
  |cons x a ih=>
   have h':=List.nodup_cons.1 h;have J:=U x (.head _);have:=ih (b:=b.erase x) h'.2 λy hy=>(List.mem_erase_of_ne (λ(he:y=x)=>h'.1 (by rw[<-he];exact hy))).2 (U y (.tail _ hy));rw[List.length_erase_of_mem J] at this;have:=List.length_pos_of_mem J;rw[c9];omega
theorem B2 (n:Nat):(0:Int)<64 ^ n:=Int.pow_pos Ω
theorem sC:∀ (l:Λ),km l->0<=jf l/\jf l<64 ^ l.length
 |[],_=>by simp[jf]
 |x::l,h=>by
  have f:=sC l λy a=>h y (.tail _ a);have J:=h x (.head _);have j:=B2 l.length;simp only[jf,c9];have e:(64:Int) ^ (l.length+1)=64*64 ^ l.length:=by rw[Int.pow_succ,Int.mul_comm]
  have h1:x*64 ^ l.length<=63*64 ^ l.length:=Int.mul_le_mul_of_nonneg_right Ω Ω;have m:0<=x*64 ^ l.length:=Int.mul_nonneg J.1 Ω;rw[e];omega
def fT:Λ->Λ->Int
 |x::a,y::b=>if x<y then-1 else if y<x then 1 else fT a b
 |[],[]=>0
 |[],_::_=>-1
 |_::_,[]=>1
theorem B3:∀ (a b:Λ),a.length=b.length->km a->km b->(fT a b<0↔jf a<jf b)/\(fT a b=0↔a=b)/\(jf a=jf b->a=b)
 |[],[],_,_,_=>by simp[fT]
 |[],_::_,h,_,_=>by simp at h
 |_::_,[],h,_,_=>by simp at h
 |x::a,y::b,h,r,s=>by
  have m:a.length=b.length:=by simpa using h
  have p:km a:=λz e=>r z (.tail _ e);have q:km b:=λz e=>s z (.tail _ e);have f:=B3 a b m p q;have w:=sC a p;have B:=sC b q;have C:=B2 b.length;simp only[fT,jf];rw[m] at w ⊢;have step:∀u v:Int,u<v->u*64 ^ b.length+64 ^ b.length<=v*64 ^ b.length:=λu v E=>by
   have:=Int.mul_le_mul_of_nonneg_right (show u+1<=v by omega) (show (0:Int)<=64 ^ b.length by omega);rw[Int.add_mul,Int.one_mul] at this;exact this
  by_cases h1:x<y
  .rw[if_pos h1];have:=step x y h1;exact⟨⟨λ_=>Ω,λ_=>Ω⟩,⟨λh=>Ω,λh=>by have:=(List.cons.inj h).1;omega⟩,λh=>Ω⟩
  .rw[if_neg h1];by_cases j:y<x
   .rw[if_pos j];have:=step y x j;exact⟨⟨λh=>Ω,λh=>Ω⟩,⟨λh=>Ω,λh=>by have:=(List.cons.inj h).1;omega⟩,λh=>Ω⟩
   .rw[if_neg j];have A:x=y:=Ω
    subst A;exact⟨f.1.trans ⟨λh=>Ω,λh=>Ω⟩,f.2.1.trans ⟨λh=>by rw[h],λh=>(List.cons.inj h).2⟩,λh=>by rw[f.2.2 Ω]⟩
def jg (l:Λ):Prop:=km l/\l.length<=6
theorem B4 (h:jg l):0<=jf l/\jf l<64 ^ 6:=by
 have:=sC l h.1;have e:(64:Int) ^ l.length<=64 ^ 6:=by
  have a:=h.2
  match l.length,a with
  |0,_=>decide
  |1,_=>decide
  |2,_=>decide
  |3,_=>decide
  |4,_=>decide
  |5,_=>decide
  |6,_=>decide
  |n+7,h=>omega
 omega
theorem vI {b:Λ} (j:jg a) (m:jg b):(da a<da b↔a.length<b.length\/(a.length=b.length/\fT a b<0))/\(da a=da b->a=b):=by
 have h1:=B4 j;have p:=B4 m;have e:(64:Int) ^ 6=68719476736:=Φ
 rw[e] at h1 p;unfold da;rw[e];by_cases f:a.length=b.length
 .have:=B3 a b f j.1 m.1;rw[f];exact⟨⟨λh=>.inr ⟨rfl,this.1.2 Ω⟩,λh=>by
   rcases h with h|⟨_,h⟩
   .omega
   .have:=this.1.1 h;omega⟩,λh=>this.2.2 Ω⟩
 .exact⟨⟨λh=>.inl Ω,λh=>by
   rcases h with h|⟨h,_⟩
   .omega
   .exact absurd h f⟩,λh=>Ω⟩
theorem sD (g:cK):∀l:List cK,(hp g l).Perm (g::l)
 |[]=>List.Perm.refl _
 |h::l=>by
  unfold hp;split
  .exact ((sD g l).cons h).trans (List.Perm.swap g h l)
  .exact List.Perm.refl _
theorem B5 {g:cK}:∀ {l:List cK},l.Pairwise (λa b=>da a.1<da b.1)->(∀h∈l,da h.1≠da g.1)->(hp g l).Pairwise (λa b=>da a.1<da b.1)
 |[],_,_=>by simp[hp]
 |h::l,f,j=>by
  have e:=List.pairwise_cons.1 f;unfold hp;split
  .rename_i m;refine List.pairwise_cons.2 ⟨λx J=>?_,B5 e.2 λx J=>j x (.tail _ J)⟩;rcases W9.1 ((sD g l).mem_iff.1 J) with rfl|J
   .exact m
   .exact e.1 x J
  .rename_i p;have:=j h (.head _);refine List.pairwise_cons.2 ⟨λx J=>?_,f⟩;rcases W9.1 J with rfl|J
   .omega
   .have:=e.1 x J;omega
theorem B6:∀ (l acc:List cK),acc.Pairwise (λa b=>da a.1<da b.1)->l.Pairwise (λa b=>da a.1≠da b.1)->(∀a∈acc,∀b∈l,da a.1≠da b.1)->
  (l.foldl (λl g=>hp g l) acc).Pairwise (λa b=>da a.1<da b.1)/\(l.foldl (λl g=>hp g l) acc).Perm (acc++l)
 |[],acc,h,_,_=>⟨h,Ξ⟩
 |g::l,acc,h,p,f=>by
  have j:=List.pairwise_cons.1 p;have:=B6 l (hp g acc) (B5 h λa e=>f a e g (.head _)) j.2 λa e b m=>by
   rcases W9.1 ((sD g acc).mem_iff.1 e) with rfl|e
   .exact j.1 b m
   .exact f a e b (.tail _ m)
  refine⟨this.1,this.2.trans ?_⟩;exact ((sD g acc).append_right l).trans (List.perm_middle (a:=g) (l₁:=acc) (l₂:=l)).symm
theorem vJ {α:Type} {f:α->Int}:∀ {L M:List α},L.Pairwise (λa b=>f a<f b)->M.Pairwise (λa b=>f a<f b)->(∀x,x∈L↔x∈M)->L=M
 |[],M,_,_,h=>by
  cases M with
  |nil=>rfl
  |cons y M=>exact absurd ((h y).2 (.head _)) Ξ
 |x::L,[],_,_,h=>absurd ((h x).1 (.head _)) Ξ
 |x::L,y::M,h1,p,h=>by
  have j:=List.pairwise_cons.1 h1;have m:=List.pairwise_cons.1 p;have q:x=y:=by
   rcases W9.1 ((h x).1 (.head _)) with he|hm
   .exact he
   .rcases W9.1 ((h y).2 (.head _)) with he|r
    .exact he.symm
    .have a:=m.1 x hm;have b:=j.1 y r;omega
  subst q;rw[vJ j.2 m.2 λz=>⟨λe=>?_,λe=>?_⟩]
  .rcases W9.1 ((h z).1 (.tail _ e)) with he|hm
   .subst he;have:=j.1 z e;omega
   .exact hm
  .rcases W9.1 ((h z).2 (.tail _ e)) with he|hm
   .subst he;have:=m.1 z e;omega
   .exact hm
structure fD (sizes:Λ) (k:Int) (g:cK):Prop where
 scope:jg g.1
 up:g.1.Pairwise (·< ·)
 vars:∀v∈g.1,v<sizes.length
 len:g.2.length=(aN (bS sizes g.1)).toNat
 small:aN (bS sizes g.1)<=4096
 hT:∀c∈g.2,0<=c/\c<=k
theorem o1 {sc:Λ} (e:∀z∈sizes,1<=z/\z<=32) (ad:∀v∈sc,0<=v/\v<sizes.length):∀z∈bS sizes sc,1<=z/\z<=32:=λz h=>by
 obtain⟨v,f,rfl⟩:=l9.1 h;obtain⟨h1,j⟩:=ad v f;have a:v.toNat<sizes.length:=Ω
 rw[v8,x6 a];exact e _ (R8 a)
theorem Ly {b:Λ} (h:a.Perm b):aN a=aN b:=by
 induction h with
 |nil=>rfl
 |cons x _ e=>simp only[aN,e]
 |swap x y l=>simp only[aN];rw[<-Int.mul_assoc,<-Int.mul_assoc,Int.mul_comm y x]
 |trans _ _ h1 f=>exact h1.trans f
theorem Lz {b:Λ} (h:a.length=b.length):(dU k a b).length=b.length:=by simp[dU,h]
theorem LA {b:Λ} (hk:0<=k) (f:∀c∈a,0<=c/\c<=k) (j:∀c∈b,0<=c/\c<=k):∀c∈dU k a b,0<=c/\c<=k:=by
 induction a generalizing b with
 |nil=>intro c e;simp[dU] at e
 |cons x a m=>
  cases b with
  |nil=>intro c e;simp[dU] at e
  |cons y b=>
   intro c e;have J:=f x (.head _);have p:=j y (.head _);rcases W9.1 (show c∈min (x+y) k::dU k a b from e) with rfl|e
   .omega
   .exact m (λc h=>f c (.tail _ h)) (λc h=>j c (.tail _ h)) c e
def iF (l:List cK):Prop:=(l.map (·.1)).Nodup
theorem LB {acc:List cK} {g:cK} (hk:0<=k) (j:∀h∈acc,fD sizes k h) (m:iF acc) (a:fD sizes k g):(∀h∈h7 k acc g,fD sizes k h)/\iF (h7 k acc g)/\(h7 k acc g).length<=acc.length+1:=by
 unfold h7;split
 .refine⟨λh aJ=>?_,?_,Ξ⟩
  .obtain⟨f,hm,rfl⟩:=l9.1 aJ;have h1:=j f hm;split
   .rename_i he;have q:f.2.length=g.2.length:=by rw[h1.len,a.len,he]
    exact⟨h1.scope,h1.up,h1.vars,by show (dU k f.2 g.2).length=_;rw[Lz q,a.len,he],h1.small,LA hk h1.hT a.hT⟩
   .exact h1
  .unfold iF;rw[T7];have e:((λx:cK=>x.1)∘λh:cK=>if h.1=g.1 then (h.1,dU k h.2 g.2) else h)=λx:cK=>x.1:=by
    funext h;simp only[Function.comp];split<;>rfl
   rw[e];exact m
 .rename_i r;refine⟨λh aJ=>?_,?_,Ξ⟩
  .rcases o7.1 aJ with aJ|aJ
   .exact j h aJ
   .rw[o8.1 aJ];exact a
  .unfold iF;rw[Z0];exact List.nodup_append.2 ⟨m,Ξ,λx J y p he=>by
    simp only[U7,List.map_nil,o8] at p;subst p;subst he;exact r J⟩
theorem vK {sizes:Λ} {k:Int} (hk:0<=k):∀ {l acc:List cK},(∀h∈acc,fD sizes k h)->iF acc->(∀g∈l,fD sizes k g)->(∀h∈l.foldl (h7 k) acc,fD sizes k h)/\iF (l.foldl (h7 k) acc)/\(l.foldl (h7 k) acc).length<=acc.length+l.length
 |[],acc,a,e,_=>⟨a,e,Ξ⟩
 |g::l,acc,a,e,f=>by
  obtain⟨h1,j,q⟩:=LB hk a e (f g (.head _));obtain⟨m,p,r⟩:=vK hk h1 j λx J=>f x (.tail _ J);exact⟨m,p,by simp only[U8,c9];omega⟩
theorem B7 {α:Type} [DecidableEq α]:∀ {a b:List α},a.Nodup->b.Nodup->(∀x,x∈a↔x∈b)->a.Perm b
 |[],b,_,_,h=>by
  cases b with
  |nil=>exact .refl _
  |cons y b=>exact absurd ((h y).2 (.head _)) Ξ
 |x::a,b,m,f,h=>by
  have J:=(h x).1 (.head _);have j:=List.nodup_cons.1 m;refine .trans ?_ (List.perm_cons_erase J).symm;refine .cons x (B7 j.2 (f.erase x) λy=>?_);rw[f.mem_erase_iff];refine⟨λe=>⟨λhe=>j.1 (he▸e),(h y).1 (.tail _ e)⟩,λ⟨p,e⟩=>?_⟩;rcases W9.1 ((h y).2 e) with he|hm
  .exact absurd he p
  .exact hm
theorem sE (h:km l) (a:l.Nodup):(bl l).Perm l:=B7 (B1 l) a λ_=>qt h
theorem vL:∀ {l:Λ},(∀z∈l,1<=z/\z<=32)->l.map (λz=>min z 4097)=l
 |[],_=>rfl
 |z::l,h=>by
  have a:=h z (.head _);rw[U7,vL λx J=>h x (.tail _ J)];congr 1;omega
theorem LC {x:cw} (hk:0<=k) (e:0<=x.other) (a:∀p∈x.lines,0<=p.2):0<=jB x k t/\jB x k t<=k:=by
 unfold jB;cases af:x.lines.find? (λp=>decide (p.1=t)) with
 |none=>simp only;omega
 |some p=>have:=a p (List.mem_of_find?_eq_some af);simp only;omega
theorem sF {x:cw} (h:sf all N x) (a:all.length<=64):km x.scope:=λv ad=>by
 have:=h.scope.2 v ad;omega
theorem o2 {f:b2} {x:cw} (af:e6 N f) (J:x∈f.funs):fD f.sizes f.k (hR f.sizes f.k x):=by
 obtain⟨h1,m,e⟩:=af.funs x J;have q:=af.sizes.2.1;have ad:=sF h1 q;have a:=sE ad h1.scope.1;have h:∀v∈bl x.scope,0<=v/\v<f.sizes.length:=λv hm=>h1.scope.2 v ((qt ad).1 hm);have r:=o1 af.sizes.2.2 h;have s:aN (bS f.sizes (bl x.scope))=aN x.sizes:=by rw[h1.sizes];exact Ly (a.map _)
 refine⟨⟨Lx _,?_⟩,vH _,λv hm=>(h v hm).2,?_,?_,λc w=>?_⟩
 .show (bl x.scope).length<=6;rw[a.length_eq];exact m
 .show ((bi _).map _).length=_;rw[u7,h3 r];rfl
 .show aN (bS f.sizes (bl x.scope))<=4096;have y:∀z∈x.sizes,1<=z/\z<=32:=λz j=>by
   rw[h1.sizes] at j;exact o1 af.sizes.2.2 (λv hm=>h1.scope.2 v hm) z j
  unfold dq at e;rw[vL y,decide_eq_false_iff_not] at e;rw[s];omega
 .obtain⟨t,_,rfl⟩:=l9.1 w;exact LC (by have:=af.k.1;omega) h1.other λp a=>(h1.lines.2 p a).2
theorem kZ {f:b2} (af:e6 N f):(∀g∈ff f,fD f.sizes f.k g)/\iF (ff f)/\(ff f).length<=f.funs.length:=by
 have:=vK (sizes:=f.sizes) (k:=f.k) (by have:=af.k.1;omega) (l:=f.funs.map (hR f.sizes f.k)) (acc:=[]) (λh aJ=>by cases aJ) List.nodup_nil λg e=>by
  obtain⟨x,J,rfl⟩:=l9.1 e;exact o2 af J
 refine⟨this.1,this.2.1,?_⟩;have a:=this.2.2;rw[List.length_nil,u7,X0] at a;exact a
theorem B8 {l:List cK} (e:∀g∈l,fD sizes k g) (f:iF l):l.Pairwise λa b=>da a.1≠da b.1:=by
 have h1:l.Pairwise λa b=>a.1≠b.1:=by
  unfold iF List.Nodup at f;rwa [List.pairwise_map] at f
 exact h1.imp_of_mem λ{a b} h j m he=>m ((vI (e a h).scope (e b j).scope).2 he)
theorem qu {f:b2} (af:e6 N f):(fB f).Pairwise (λa b=>da a.1<da b.1)/\(fB f).Perm ((ff f).filter fA):=by
 obtain⟨h1,h,_⟩:=kZ af;have j:∀g∈(ff f).filter fA,fD f.sizes f.k g:=λg m=>h1 g (T6.1 m).1;have p:iF ((ff f).filter fA):=(List.Sublist.map _ List.filter_sublist).nodup h;have:=B6 ((ff f).filter fA) [] List.Pairwise.nil (B8 j p) λa q=>by cases q
 refine⟨this.1,?_⟩;have e:=this.2;rw[List.nil_append] at e;exact e
theorem sG {f:b2} (af:e6 N f):∀g∈fB f,fD f.sizes f.k g:=λg a=>(kZ af).1 g (T6.1 ((qu af).2.mem_iff.1 a)).1
theorem LD {f:b2} (af:e6 N f) {M:List cK} (e:M.Perm ((ff f).filter fA)) (U:M.Pairwise λa b=>da a.1<=da b.1):M=fB f:=by
 obtain⟨h1,h⟩:=qu af;have j:iF ((ff f).filter fA):=(List.Sublist.map _ List.filter_sublist).nodup (kZ af).2.1;have m:iF M:=(e.map (λg:cK=>g.1)).nodup_iff.2 j;have p:∀g∈M,fD f.sizes f.k g:=λg q=>(kZ af).1 g (T6.1 (e.mem_iff.1 q)).1;have r:=B8 p m;refine vJ (f:=λg:cK=>da g.1) ?_ h1 λx=>by rw[e.mem_iff,h.mem_iff]
 exact U.imp₂ (λa b h1 h=>Int.lt_iff_le_and_ne.2 ⟨h1,h⟩) r
structure jG (n:aR):Prop where
 k:1<=n.k/\n.k<=2147483648
 sizes:1<=n.sizes.length/\n.sizes.length<=64/\ ∀z∈n.sizes,1<=z/\z<=32
 zero:0<=n.zero/\n.zero<=n.k
 ko:n.unary.length=n.sizes.length
 unary:∀ (i:Nat) (z:Int) (u:Λ),n.sizes[i]? =σ z->n.unary[i]? =σ u->u.length=z.toNat/\ ∀c∈u,0<=c/\c<=n.k
 funs:∀g∈n.funs,fD n.sizes n.k g/\2<=g.1.length
theorem LF (z:Int):aN [z]=z:=by simp[aN]
theorem sH:∀ {l:List cK} {n:aR},jG n->(∀g∈l,fD n.sizes n.k g)->jG (l.foldl (λn g=>match g.1 with
 |[]=>{n with zero:=g.2.getD 0 0}
 |[v]=>{n with unary:=n.unary.set v.toNat g.2}
 |_=>{n with funs:=n.funs++[g]}) n)/\(l.foldl (λn g=>match g.1 with
 |[]=>{n with zero:=g.2.getD 0 0}
 |[v]=>{n with unary:=n.unary.set v.toNat g.2}
 |_=>{n with funs:=n.funs++[g]}) n).sizes=n.sizes
 |[],n,h,_=>⟨h,rfl⟩
 |g::l,n,h,j=>by
  have e:=j g (.head _);have f:∀x∈l,fD n.sizes n.k x:=λx J=>j x (.tail _ J);rw[U8];obtain⟨sc,cs⟩:=g
  match sc,e with
  |[],e=>
   have p:=e.len;refine sH (n:={n with zero:=cs.getD 0 0}) ⟨h.k,h.sizes,?_,h.ko,h.unary,h.funs⟩ f;have h1:cs.length=1:=by simpa[bS,aN] using p
   have q:cs[0]? =σ (cs.getD 0 0):=by rw[v8,x6 Ω];rfl
   exact e.hT _ (x5 q)
  |[v],e=>
   have ad:=e.scope.1 v (.head _);have w:=e.vars v (.head _);refine sH (n:={n with unary:=n.unary.set v.toNat cs}) ⟨h.k,h.sizes,h.zero,by show (n.unary.set _ _).length=_;rw[c8];exact h.ko,λi z u m hu=>?_,h.funs⟩ f;by_cases hi:v.toNat=i
   .subst hi;have y:=h.ko;rw[c7 Ω] at hu;cases hu;have s:bS n.sizes [v]=[z]:=by
     simp only[bS,U7,List.map_nil];rw[v8,m];rfl
    refine⟨?_,e.hT⟩;have:=e.len;rw[s,LF] at this;exact this
   .rw[Y0 hi] at hu;exact h.unary i z u m hu
  |a::b::r,e=>
   refine sH (n:={n with funs:=n.funs++[(a::b::r,cs)]}) ⟨h.k,h.sizes,h.zero,h.ko,h.unary,λx J=>?_⟩ f;rcases o7.1 J with J|J
   .exact h.funs x J
   .rw[o8.1 J];exact⟨e,Ξ⟩
theorem B9 {f:b2} (af:e6 N f):jG (cQ f)/\(cQ f).sizes=f.sizes:=by
 unfold cQ;have e:=af.sizes;refine sH (n:=⟨f.k,f.sizes,0,f.sizes.map λz=>r8 z.toNat 0,[]⟩) ⟨af.k,e,⟨by show (0:Int)<=0;omega,by show (0:Int)<=f.k;have:=af.k.1;omega⟩,Ξ,λi z u h1 a=>?_,λg h=>by cases h⟩ (sG af);have a:(f.sizes.map λz=>r8 z.toNat (0:Int))[i]? =σ u:=a;have h1:f.sizes[i]? =σ z:=h1;rw[x8,h1] at a;cases a;refine⟨Ξ,λc j=>?_⟩;rw[(List.mem_replicate.1 j).2];have:=af.k.1;exact⟨Int.le_refl _,by show (0:Int)<=f.k;omega⟩
def k0 (x:cw) (k:Int) (i:Nat) (t:Λ):Int:=match (x.lines.take i).find? (λp=>decide (p.1=t)) with
 |some p=>min p.2 k
 |none=>min x.other k
theorem Ca (x:cw) (k:Int) (t:Λ):k0 x k 0 t=min x.other k:=by simp[k0]
theorem Cb (x:cw) (k:Int) (t:Λ):k0 x k x.lines.length t=jB x k t:=by
 unfold k0 jB;rw[p9];cases x.lines.find? (λp=>decide (p.1=t))<;>rfl
theorem Cc {x:cw} {i:Nat} {p:Λ×Int} (w:(x.lines.map (·.1)).Nodup) (hi:x.lines[i]? =σ p) (t:Λ):k0 x k (i+1) t=if t=p.1 then min p.2 k else k0 x k i t:=by
 unfold k0;rw[u9,hi,o9,List.find?_append];by_cases a:t=p.1
 .subst a;have y:(x.lines.take i).find? (λq=>decide (q.1=p.1))=ν:=by
   rw[List.find?_eq_none];intro q e he;have he:q.1=p.1:=by simpa using he
   obtain⟨j,f⟩:=X1.1 e;have h:j<i:=by have:=(x4.1 f).1;rw[j6] at this;omega
   rw[Z8 h] at f;have m:=x4.1 f;have r:=x4.1 hi;have s:=V3.1 w j i (by rw[u7];exact m.1) (by rw[u7];exact r.1) h;rw[List.getElem_map,List.getElem_map,m.2,r.2] at s;exact s he
  rw[y,if_pos rfl];simp
 .rw[if_neg a];have:[p].find? (λq=>decide (q.1=t))=ν:=by
   rw[List.find?_eq_none];intro q e he;rw[o8.1 e] at he;exact a (of_decide_eq_true he).symm
  rw[this,Option.or_none]
theorem o3 {v:Int} (h:v∈l):l[l.idxOf v]? =σ v:=by
 have:=List.idxOf_lt_length_iff.2 h;rw[x6 this,List.getElem_idxOf this]
theorem qv {i:Nat} {v:Int} (j:l.Nodup) (h:l[i]? =σ v):l.idxOf v=i:=by
 have hm:=x5 h;have h1:=o3 hm;have a:=x4.1 h1;have e:=x4.1 h;rcases Nat.lt_trichotomy (l.idxOf v) i with f|he|f
 .exact absurd (a.2.trans e.2.symm) (V3.1 j _ _ a.1 e.1 f)
 .exact he
 .exact absurd (e.2.trans a.2.symm) (V3.1 j _ _ e.1 a.1 f)
def fU (scope a:Λ):Λ:=a.map λv=>((scope.idxOf v:Nat):Int)
theorem sI {f:Λ} (r:scope.Nodup) (a:f.Perm scope):Good (fU scope f) scope.length:=by
 have q:f.Nodup:=a.nodup_iff.2 r;refine⟨by simp[fU,a.length_eq],λi p h=>?_⟩;unfold fU at h;rw[x8] at h;obtain⟨v,ad,rfl⟩:=Y5.1 h;have hm:v∈scope:=a.mem_iff.1 (x5 ad);have x:=List.idxOf_lt_length_iff.2 hm;refine⟨⟨Ω,Ω⟩,λj y m=>?_⟩;unfold fU at m;rw[x8] at m;obtain⟨u,hu,he⟩:=Y5.1 m;have s:u∈scope:=a.mem_iff.1 (x5 hu);have e:scope.idxOf u=scope.idxOf v:=Ω
 have h1:=o3 s;rw[e,o3 hm] at h1;have w:v=u:=b6 h1;subst w;have z:=qv q hu;have A:=qv q ad;omega
theorem Cd {v:Int} (ad:a[j]? =σ v):(fU scope a)[j]? =σ ((scope.idxOf v:Nat):Int):=by
 unfold fU;rw[x8,ad];rfl
theorem LG (h:scope.Nodup) (e:a.Perm scope):ei (bS sizes scope) (fU scope a)=bS sizes a:=by
 refine Y3 λj=>?_;cases ad:a[j]? with
 |none=>
  have f:=List.getElem?_eq_none_iff.1 ad;rw[Z6 (by rw[sb];simp[fU];exact f),Z6 (by simp[bS];exact f)]
 |some v=>
  have hm:v∈scope:=e.mem_iff.1 (x5 ad);have m:=sI h e;rw[AV m (by simp[bS]) (Cd ad),u6];unfold bS;rw[x8,x8,o3 hm,ad]
theorem Ce (h:scope.Nodup) (e:a.Perm scope) (m:t.length=scope.length):lN (fU scope a) t=oQ scope a t:=by
 have q:=sI h e;refine (AU q m (by simp[oQ]) λj p f=>?_).symm;unfold fU at f;rw[x8] at f;obtain⟨v,ad,rfl⟩:=Y5.1 f;have hm:v∈scope:=e.mem_iff.1 (x5 ad);have r:a.Nodup:=e.nodup_iff.2 h;have s:=(x4.1 ad).1;have w:=e.length_eq;unfold oQ;rw[u6,x8,o3 hm,Z3,qv r ad,v8,x6 (show j<t.length by omega)];rfl
theorem LH {f:b2} {x:cw} {cs:Λ} (af:e6 N f) (J:x∈f.funs) (C:cs.length=(aN x.sizes).toNat) (r:∀t,dh x.sizes t->bj x.sizes cs t=jB x f.k t):
  ei x.sizes (fU x.scope (bl x.scope))=bS f.sizes (bl x.scope)/\nw x.sizes cs (fU x.scope (bl x.scope))=(hR f.sizes f.k x).2:=by
 obtain⟨h1,E,F⟩:=af.funs x J;have ad:=sF h1 af.sizes.2.1;have a:=sE ad h1.scope.1;have j:x.sizes=bS f.sizes x.scope:=h1.sizes;have h:ei x.sizes (fU x.scope (bl x.scope))=bS f.sizes (bl x.scope):=by rw[j];exact LG h1.scope.1 a
 have w:=sI h1.scope.1 a;have y:∀v∈bl x.scope,0<=v/\v<f.sizes.length:=λv hm=>h1.scope.2 v ((qt ad).1 hm);have e:dG (bS f.sizes (bl x.scope)):=o1 af.sizes.2.2 y;refine⟨h,?_⟩;have z:x.sizes.length=x.scope.length:=by rw[j];simp[bS]
 unfold nw;rw[h];show _=(bi (bS f.sizes (bl x.scope))).map λt=>jB x f.k (oQ x.scope (bl x.scope) t);refine Y3 λq=>?_;rw[x8,x8];have G:=lM e;by_cases m:q<(aN (bS f.sizes (bl x.scope))).toNat
 .have A:=p3 e (i:=q) Ω;rw[A,List.getElem?_range m];simp only[Z3];have B:=vi e m;have p:(cS (bS f.sizes (bl x.scope)) q).length=x.scope.length:=by rw[jb];simp[bS,a.length_eq]
  rw[Ce h1.scope.1 a p,r];have:=J5 (s:=x.sizes) w z (by rw[h];exact B);rw[Ce h1.scope.1 a p] at this;exact this
 .rw[Z6 Θ,Z6 (by rw[h3 e];omega)];rfl
theorem LI {e:Λ} (U:dG aj) (h1:a.length=(aN aj).toNat) (f:e.length=(aN aj).toNat):
  dU k a e=(X4 (aN aj).toNat).map λ(q:Nat)=>min (bj aj a (cS aj q)+bj aj e (cS aj q)) k:=by
 conv=>lhs;rw[sa U h1,sa U f]
 unfold dU;rw[List.zipWith_map,List.zipWith_self]
theorem LJ {de:Nat} {d:List (x1×x1)} {KS:List (Λ)} (f:ag w de iu [.map (σ m)]) (hm:c3 w m d) (j:d.map (·.1)=KS.map ea) (e:oY KS) (A:KS.length<65536):
  am x7 Ie [.func (.func lB) #[] #[Γ de],BD] w λv w'=>Ext w w'/\ ∃g M,M.Perm KS/\sz gl M 0 M.length/\nA w' g v M:=by
 refine az func221 ?_;refine (KN f hm j (λks h=>(e ks h).1) Ω).mono ?_;rintro v V _ ⟨p,g,L,q,a,s⟩;refine (K1 s (e.perm a) (by rw[a.length_eq];omega)).mono ?_;rintro _ aa _ ⟨x,M,y,hu,z⟩;exact⟨p.then x (λr B h=>by have:=q r h;omega),g,M,y.trans a,hu,z⟩
theorem Cf {α β:Type} {f:α->β}:∀ {M:List β} {D:List α},M.Perm (D.map f)-> ∃L:List α,L.Perm D/\L.map f=M
 |[],D,h=>by
  have h1:=h.length_eq;simp at h1;have:D=[]:=j5 h1.symm;exact⟨[],by rw[this],rfl⟩
 |x::M,D,h=>by
  have J:x∈D.map f:=h.mem_iff.1 (.head _);obtain⟨p,a,rfl⟩:=l9.1 J;obtain⟨A,B,rfl⟩:=List.append_of_mem a;have e:(f p::M).Perm (f p::(A++B).map f):=h.trans (by
   rw[Z0,U7,Z0];exact List.perm_middle)
  obtain⟨L,j,m⟩:=Cf (List.Perm.cons_inv e);exact⟨p::L,(j.cons p).trans List.perm_middle.symm,by rw[U7,m]⟩
theorem Cg {g:Nat} {ks:Λ} (m:ks.length=6) (p:n<=6) (a:cs=ints .i8 ks) (e:ag w g cG cs):aF .i8 w (.slice (σ (if 6=0 then⟨g,0,ν⟩ else⟨g,0+0*1,ν⟩)) (n-0) (6-0)) (ks.take n):=by
 subst a;rw[if_neg Ω];unfold aF;have f:(ks.take n).length=n:=by rw[j6];omega
 rw[f];refine⟨Θ,g,0,_,6,rfl,Ω,by simp[maxLen],λ_=>rfl,λj v ad=>?_⟩;have h:=(x4.1 ad).1;refine e.range j v ?_;rw[ints,List.map_take,Z8 (by simp[ints] at h;omega)] at ad;exact ad
def LK (D L:Told):Prop:=L.Perm D/\sz (λp=>gl (pad p.1)) L 0 L.length
theorem LL {g:Nat} {o:Int} {D:Told} (h:eJ w g m aj k o D) (bb:D.length<65536):am x7 HB [Γ g] w λv w'=>Ext w w'/\ ∃L:Told,LK D L/\bE (eI w.heap.size) bz w' [v] L:=by
 obtain⟨⟨sv,gs,Y,hm⟩,bd,U,bS,aB⟩:=id h;have be:oY (D.map λp=>pad p.1):=λks hk=>by
  obtain⟨p,bf,rfl⟩:=l9.1 hk;exact qj U (aB p bf).1
 refine az func164 ?_;rw[db eO.u];simp only[Z4,a1];rw[aQ fy.p 3 Y rfl];refine KL.mono ?_;rintro _ V _ ⟨Z,de,rfl,bT,bg⟩;refine (LJ (KS:=D.map λp=>pad p.1) bg (bd.ext Z) (by rw[T7,T7];rfl) be (by simpa using bb)).mono ?_;rintro bU aa _ ⟨aC,bV,M,bh,bi,aD⟩;obtain⟨L,ac,N⟩:=Cf bh;have aE:M.length=L.length:=by rw[<-N];simp
 have bW:=ac.length_eq;have bX:=Z.size;have bY:=aC.size;have aF:=Z.trans aC;rw[fh iX.u aD];refine bZ.range L.length (λi out e=>Ext aa e/\bE (eI aa.heap.size) bz e [out] (L.take i)) Ω ⟨Ext.refl _,by rw[List.take_zero];exact gE⟩ ?_ ?_
 rotate_left
 .rintro out e bj ⟨C,O⟩;rw[aE];simp only[aO,al];refine⟨λh=>Ω,λ_=>⟨aF.trans C,L,⟨ac,λp q x y h1 bk b0 J bl=>?_⟩,?_⟩⟩
  .exact bi p q (pad x.1) (pad y.1) h1 bk Ω (by rw[<-N,x8,J];rfl) (by rw[<-N,x8,bl];rfl)
  .rw[p9] at O;exact ao.mono O (λr _ h=>by have h:aa.heap.size<=r:=h;show w.heap.size<=r;omega) λ_ _ h=>h
 rintro i out e bj hi ⟨C,O⟩ bm;obtain⟨⟨t,c⟩,ae⟩:∃p,L[i]? =σ p:=⟨_,x6 hi⟩;have af:(t,c)∈D:=ac.mem_iff.1 (x5 ae);have ak:=(aB _ af).1;have aG:=vv U ak;have ap:t.length=aj.length:=aG.1;have aJ:=U.1;have bn:kU (pad t):=qj U ak;have P:=bn.1;have bo:M[i]? =σ (pad t):=by rw[<-N,x8,ae];rfl
 rw[aE];simp only[aO,al];refine⟨λ_=>?_,λh=>Ω⟩;rw[K0 rfl (aD.ext C) bo];refine bD cG.i λaq b1 b2 aK aL=>?_;refine qi P rfl aL λbp br b3 Q=>?_;have b4:=aK.size;have b5:=aL.lt;have bt:Ext e bp:=aK.put br Ω;intro aN H _ _;have av:=bt.trans H;have aw:=(aF.trans C).trans av;have aR:=h.ext aw;obtain⟨⟨b6,b7,b8,b9⟩,ca,_⟩:=id aR;have cb:=av.size;rw[aQ fy.p 3 (Y.ext aw) rfl,nz P (Q.ext H).range];refine KE aR ak (λf bu=>?_) (λbw=>absurd rfl (bw _ af));have bx:f=c:=by
  have:=Br h.nodup bu af rfl;exact congrArg Prod.snd this
 subst bx;simp only[Bool.false_eq_true,if_false];rw[dn (cs:=#[.slice ν 0 0,Δ f]) Ψ];refine bD gf.i λE cc cd ax aS=>?_;refine⟨.inl ax,?_⟩;refine ch (vs:=[.slice ν 0 0,Δ f]) gf.i rfl rfl (by intro v ad;simp at ad;rcases ad with rfl|rfl<;>rfl) aS λG bA ce aT=>?_;have cg:=ax.size;have ci:=aS.lt;have S:Ext aN G:=ax.put bA Ω;have aV:=av.trans S;have aX:=aw.trans S;rw[aQ fy.p 0 (Y.ext aX) rfl,aW an.u (hm.ls.ext aX)];rw[rT cG.u fL.i (l:=0) (h:=aj.length) (m:=6) jv (ng _ _ rfl) fz Ω Ω Ω];have aY:=Cg P aJ rfl ((Q.ext H).ext S);rw[<-ap,Bm] at aY;rw[<-ap,aW kN.u aY];have bB:=(Q.ext H).ext S;have cj:aq<aN.heap.size:=(Q.ext H).lt;have ck:E<G.heap.size:=aT.lt;refine cz.range t.length (λj s=>ah (λr=>r=E\/G.heap.size<=r) G s/\ ∃aI gt,G.heap.size<=gt/\ag s E gf [aI,Δ f]/\au .i64 ai s gt aI (t.take j)) Ω ⟨ah.refl _ _,_,G.heap.size,p8 _,aT,au.nil _ _ _ _⟩ ?_ ?_
 .rintro j s bC bF ⟨z,aI,gt,bG,W,X⟩ bH;obtain⟨x,ay⟩:=aH (l:=t) bF;have cl:=aG.2 x (x5 ay);have cm:Ext e s:=aV.then z (λr aZ he=>by rcases he with rfl|he<;>omega);have a2:=Cg P aJ rfl (bB.ab z (λhe=>by rcases he with he|he<;>omega));rw[<-ap,Bm] at a2;simp only[aO,al];refine⟨λ_=>?_,λh=>Ω⟩;rw[bc kN.u fL.i Ψ a2 ay,aM gf.p 0 W rfl,fd fL.u ai.u,wrap_i64 Ω Ω];refine ew an.u ai.i rfl λa ga bJ cn B bK=>?_;refine iZ an.u ai.i rfl (X.ext B) bK.ls Θ Θ λa6 a7 bL cp I K=>?_;have bM:=z.size;have bN:=B.size;have cq:=K.size;rw[aU gf.p rfl];refine bq (g:=E) (o:=0) an.i I.ls.cells.1 I.ls.cells.2 ((W.ext B).ab K (λhe=>by have he:E=gt:=he;omega)) Ξ λcr a8 ct bO=>?_;simp only[aP];refine bH _ ⟨((z.trans (B.ab _)).trans (K.mono λr _ he=>.inr (by have he:r=gt:=he;omega))).trans (a8.mono λr _ he=>.inl he),a6,a7,Ω,bO,?_⟩;rw[u9,ay];exact I.ab a8 (λ_ he=>by have he:a7=E:=he;omega)
 .rintro s bC ⟨z,aI,gt,bG,W,X⟩;simp only[aO,al];refine⟨λh=>Ω,λ_=>?_⟩;rw[p9] at X;rw[bR gf.p gf.i rfl W.range];have bM:=z.size;have bP:Ext e s:=aV.then z (λr aZ he=>by rcases he with rfl|he<;>omega);have ba:bE (eI e.heap.size) bz s [aI,Δ f] (t,f):=⟨[aI],[Δ f],eI e.heap.size,bz,rfl,λ_ h=>h,λ_ h=>h.elim,λ_ _ _ h=>h,ao.mono (nn X) (λr _ h=>by subst h;show e.heap.size<=r;omega) (λ_ _ h=>h),rfl⟩;refine kc (α:=Λ×Int) (a:=(t,f)) (cs:=[aI,Δ f]) (A:=eI e.heap.size) (R:=bz) ou.u gf.i Φ rfl ba λu bJ B _ bQ=>?_;have aA:=bP.trans B;have bN:=aA.size;refine nl (α:=Λ×Int) (a:=(t,f)) (A:=eI e.heap.size) ou.u gf.i rfl (bI (mf O) aA) bQ (bI ba B) (λr _ h h'=>?_) Θ Θ λa6 bL I K=>?_
  .rcases h' with h'|h'
   .have:=h.2;have:e.heap.size<=r:=h';omega
   .exact h'
  simp only[aP];have cu:=C.size;refine bm _ _ ⟨(C.trans aA).then K (λr aZ h=>by have h:=h.1;have h:aa.heap.size<=r:=h;omega),?_⟩;rw[u9,ae];refine ao.mono I (λr _ h=>?_) λ_ _ h=>h;show aa.heap.size<=r;rcases h with h|h|h
  .exact h.1
  .have h:e.heap.size<=r:=h;omega
  .omega
theorem Ch {s:Λ} (U:dG s):t∈bi s↔dh s t:=by
 refine⟨λh=>?_,λ⟨n,h⟩=>x5 (kg U h)⟩;obtain⟨i,hi⟩:=X1.1 h;exact⟨_,je U hi⟩
theorem Ci:∀ {s:Λ},dG s->(bi s).Pairwise λa b=>gl a<gl b
 |[],_=>by simp[bi]
 |k::s,U=>by
  have r:=Ci U.tail;have f:∀t∈bi s,0<=gl t/\gl t<32 ^ s.length:=λt m=>by
   have ad:=(Ch U.tail).1 m;have h1:=nv.1 ad;have p:=sy t λx J=>by
    obtain⟨i,hi,rfl⟩:=List.getElem_of_mem J;obtain⟨a,e⟩:=aH (l:=s) (i:=i) Ω;have z:=h1.2 i a _ e (x6 hi);have A:=(U.tail a (x5 e)).2;omega
   rw[h1.1];exact p
  have j:∀t∈bi s,t.length=s.length:=λt m=>rW m;show ((X4 k.toNat).flatMap λ(v:Nat)=>(bi s).map λt=>(v:Int)::t).Pairwise _;rw[List.pairwise_flatMap];refine⟨λv _=>?_,?_⟩
  .rw[List.pairwise_map];refine r.imp_of_mem λ{a b} e f h=>?_;simp only[gl,j a e,j b f];omega
  .refine List.pairwise_lt_range.imp λ{u v} B x J y w=>?_;obtain⟨a,e,rfl⟩:=l9.1 J;obtain⟨b,q,rfl⟩:=l9.1 w;simp only[gl,j a e,j b q];have h1:=f a e;have p:=f b q;have:=Int.mul_le_mul_of_nonneg_right (show (u:Int)+1<=v by omega) (show (0:Int)<=32 ^ s.length by have:=vz s.length;omega);rw[Int.add_mul,Int.one_mul] at this;omega
theorem LM {D L:Told} {o:Int} (f:(D.map (·.1)).Nodup) (a:L.Perm D) (t:Λ):h8 L o t=h8 D o t:=by
 have j:(L.map (·.1)).Nodup:=(a.map (·.1)).nodup_iff.2 f;by_cases he:∃p∈D,p.1=t
 .obtain⟨p,h,rfl⟩:=he;rw[qk f (c:=p.2) h,qk j (c:=p.2) (a.mem_iff.2 h)]
 .rw[ql λp h1 e=>he ⟨p,h1,e⟩,ql λp h1 e=>he ⟨p,a.mem_iff.1 h1,e⟩]
def ic (aj:Λ) (f:Λ->Int) (cs:Λ):Prop:=cs.length=(aN aj).toNat/\ ∀t,dh aj t->bj aj cs t=f t
theorem ic.eq {f:Λ->Int} {cs:Λ} (U:dG aj) (h1:ic aj f cs) (e:ic aj f a):cs=a:=JV U h1.1 e.1 λt h=>by rw[h1.2 t h,e.2 t h]
theorem ic.congr {f a:Λ->Int} {cs:Λ} (h:ic aj f cs) (he:∀t,dh aj t->f t=a t):ic aj a cs:=⟨h.1,λt e=>by rw[h.2 t e,he t e]⟩
theorem vM (U:dG aj) (h:dh aj t):∃n:Nat,ci aj t 0=σ (n:Int)/\n<(aN aj).toNat:=by
 obtain⟨n,a⟩:=h;have:=np U a;simp only[Int.zero_mul,Int.zero_add,Int.one_mul] at this;exact⟨n.toNat,by rw[a];congr 1;omega,Ω⟩
theorem LN (U:dG aj) (c:Int):ic aj (λ_=>c) (r8 (aN aj).toNat c):=⟨Ξ,λt a=>by
 obtain⟨n,e,f⟩:=vM U a;unfold bj;rw[e];simp only[u6,v8,List.getElem?_replicate,f,if_true,V9]⟩
theorem ic.put {f:Λ->Int} {cs:Λ} {c:Int} (U:dG aj) (h:ic aj f cs) (ad:dh aj t) (q:cq c k):ic aj (λs=>if s=t then c else f s) (rX aj t k c cs):=by
 obtain⟨n,e,r⟩:=vM U ad;unfold rX;rw[e];simp only[q,if_true,u6];refine⟨by simp[h.1],λs p=>?_⟩;obtain⟨m,hm,w⟩:=vM U p;have a:=h.2 s p;unfold bj at a ⊢;rw[hm] at a ⊢;simp only[u6] at a ⊢;by_cases he:s=t
 .subst he;rw[e] at hm;have j:n=m:=by have:=b6 hm;omega
  subst j;rw[if_pos rfl,v8,c7 (by rw[h.1];exact r)];rfl
 .rw[if_neg he,v8,Y0 (λj=>he ?_),<-v8,a];subst j;rw[<-AO U hm,<-AO U e]
def LO (w:x3) (aj:Λ) (k o:Int) (D:Told) (v:x1) (w':x3):Prop:=Ext w w'/\(4096<aN aj->v= .tuple #[.pointer ν,Δ 5])/\
 (aN aj<=4096-> ∃g a sv cs,v= .tuple #[Γ g,Δ 0]/\w.heap.size<=g/\(w.heap.size<=a/\ ∀r,leads sv r->w.heap.size<=r)/\dd w' g a sv aj k cs/\ic aj (h8 D o) cs)
theorem Cj {g:Nat} {o:Int} {D:Told} (h:eJ w g m aj k o D) (Y:D.length<65536):am x7 GB [Γ g] w (LO w aj k o D):=by
 obtain⟨⟨sv,gs,Z,hm⟩,aZ,U,ac,ae⟩:=id h;have P:=h.nodup;refine az func90 ?_;rw[db eO.u];simp only[Z4,a1];intro V a _ _;have I:=Z.ext a;rw[aQ fy.p 0 I rfl,aQ fy.p 1 I rfl,aQ fy.p 2 I rfl];refine (uX (hm.ls.ext a)).mono ?_;rintro _ aa _ ⟨z,_,af,_,ag⟩;by_cases C:aN aj<=4096
 rotate_left
 .have:=af U Ω;subst this;rw[bo,bp];simp only[bm,al];exact⟨λ_=>⟨a.trans z,λ_=>rfl,λh=>absurd h C⟩,λh=>by simp at h⟩
 obtain⟨gt,f,aI,rfl,a2,a7,ai,Q⟩:=ag U C ac;rw[bo,bp];simp only[bm,al];refine⟨λh=>absurd rfl h,λ_=>?_⟩;have a8:=a.size;have ba:=z.size;refine (LL ((h.ext a).ext z) Y).mono ?_;rintro bb ak _ ⟨J,L,E,R⟩;have bc:=J.size;have bd:f<aa.heap.size:=by
  obtain⟨⟨a6,be,_,_,an⟩,⟨_,_,bf⟩,ap,aq⟩:=id Q;have bg:=lM ap.2;obtain⟨_,⟨_,au⟩|⟨cap,cs,_,av,_⟩⟩:=an
  .rw[aq] at au;omega
  .exact av.lt
 have bh:=E.1.length_eq;rw[hL ou.u R];refine cz.range L.length (λi q=>ah (λr=>r=f) ak q/\ ∃cs,dd q gt f aI aj k cs/\ic aj (h8 (L.take i) o) cs) Ω ⟨ah.refl _ _,_,Q.ext J,by rw[List.take_zero];exact LN U.2 o⟩ ?_ ?_
 .rintro i q aw hi ⟨G,cs,K,H⟩ ax;simp only[aO,al];refine⟨λ_=>?_,λh=>Ω⟩;obtain⟨⟨t,c⟩,y⟩:∃p,L[i]? =σ p:=⟨_,x6 hi⟩;have ay:(t,c)∈D:=E.1.mem_iff.1 (x5 y);obtain⟨aA,aB,aC⟩:=ae _ ay;have aD:=ao.ab R G λr S aE he=>by
   have he:r=f:=he;rcases aE with h|h
   .have h:aa.heap.size<=r:=h;omega
   .exact h
  refine lI (α:=Λ×Int) gf.p rfl ou.u gf.i aD y λus aF=>?_;obtain⟨bi,aG,A,B,rfl,bj,bk,_,h1,aH⟩:=aF;have aJ:aG=[Δ c]:=aH;subst aJ;obtain⟨aK,rfl,_⟩:=id h1;have hu:=dc h1;refine bD gf.i λbl bn bq aL W=>?_;refine ch (vs:=[aK,Δ c]) gf.i rfl rfl (by intro v ad;simp at ad;rcases ad with rfl|rfl;exact hu.cells.2;rfl) W λaR aS br X=>?_;have bt:=W.lt;have M:Ext q aR:=aL.put aS Ω;rw[aM gf.p 0 X rfl,aM gf.p 1 X rfl];refine (Ja (K.ext M) (hu.ext M)).mono ?_;rintro _ bu _ ⟨rfl,aT,aU⟩;simp only[aP];refine ax _ ⟨(G.trans (M.ab _)).trans aT,_,aU,(H.put U.2 aA aB).congr λs bw=>?_⟩;rw[u9,y];have N:(L.map (·.1)).Nodup:=(E.1.map (·.1)).nodup_iff.2 P;have aV:∀p∈L.take i,p.1≠t:=λp C he=>by
   obtain⟨j,O⟩:=X1.1 C;have aW:j<i:=by have:=(x4.1 O).1;rw[j6] at this;omega
   rw[Z8 aW] at O;have:=kk N (i:=j) (j:=i) (x:=t) (by rw[x8,O,Z3,he]) (by rw[x8,y];rfl);omega
  have aX:((L.take i).map (·.1)).Nodup:=by rw[List.map_take];exact (List.take_sublist _ _).nodup N
  have aY:((L.take i++[(t,c)]).map (·.1)).Nodup:=by
   have e:L.take i++[(t,c)]=L.take (i+1):=by rw[u9,y];rfl
   rw[e,List.map_take];exact (List.take_sublist _ _).nodup N
  exact ((Bs aV aC).cost aX aY s).symm
 .rintro q aw ⟨G,cs,K,H⟩;simp only[aO,al];refine⟨λh=>Ω,λ_=>?_⟩;rw[p9] at H;exact⟨((a.trans z).trans J).put G Ω,λh=>Ω,λ_=>⟨gt,f,aI,cs,rfl,Ω,⟨Ω,λr S=>by have:=ai r S;omega⟩,K,H.congr λs _=>LM P E.1 s⟩⟩
theorem LP {s cs:Λ} (U:dG s) (a:cs.length=(aN s).toNat) {i:Nat} (h:(bi s)[i]? =σ t):cs[i]? =σ (bj s cs t):=by
 have hi:=(x4.1 h).1;rw[h3 U,<-a] at hi;unfold bj;rw[je U h];simp only[u6,v8,x6 hi,V9]
theorem sJ {k:o5} {g:Nat} (h:au k e w g v l) (f:0<l.length):g<w.heap.size:=by
 obtain⟨_,⟨_,h1⟩|⟨_,_,_,a,_⟩⟩:=h
 .omega
 .exact a.lt
def fE (w:x3) (g m:Nat) (sv:x1) (gs:Nat) (aj:Λ) (k o:Int) (D:Told):Prop:=
 ag w g fy [sv,Δ k,Δ o,.map (σ m)]/\au .i64 ai w gs sv aj/\c3 w m (D.map jC)/\b1 aj/\cq o k/\ ∀p∈D,dh aj p.1/\cq p.2 k/\p.2≠o
theorem fE.is {g:Nat} {o:Int} {D:Told} (h:fE w g m sv gs aj k o D):eJ w g m aj k o D:=⟨⟨sv,gs,h.1,h.2.1⟩,h.2.2⟩
theorem eJ.at {g:Nat} {o:Int} {D:Told} (h:eJ w g m aj k o D):∃sv gs,fE w g m sv gs aj k o D:=by
 obtain⟨⟨sv,gs,h1,a⟩,e⟩:=h;exact⟨sv,gs,h1,a,e⟩
theorem fE.ext {g:Nat} {o:Int} {D:Told} (h:fE w g m sv gs aj k o D) (J:Ext w w'):fE w' g m sv gs aj k o D:=by
 obtain⟨h1,a,e,f⟩:=h;exact⟨h1.ext J,a.ext J,e.ext J,f⟩
theorem fE.ab {g:Nat} {o:Int} {D:Told} (h:fE w g m sv gs aj k o D) (J:ah S w w') (a:¬S g) (hm:¬S m) (U:∀r,leads sv r->¬S r):fE w' g m sv gs aj k o D:=by
 obtain⟨h1,e,f,j⟩:=h;exact⟨h1.ab J a,br e J U,f.ab J hm,j⟩
theorem sK {g:Nat} {d:List (x1×x1)} (h:ag w g e cs) (hm:c3 w m d):g≠m:=by
 rintro rfl;obtain⟨a,c,h1,_⟩:=hm;unfold ag at h;rw[h1] at h;cases h
theorem Ck {g:Nat} {k:o5} {d:List (x1×x1)} (h:au k e w g v l) (hm:c3 w m d) (f:leads v r):r≠m:=by
 obtain⟨rfl,_⟩:=bO h f;obtain⟨_,⟨rfl,_⟩|⟨_,_,_,j,_⟩⟩:=h
 .obtain⟨a,n,c,h,_⟩:=f;cases h
 .exact sK j hm
theorem fE.put {g:Nat} {o:Int} {D D':Told} (h:fE w g m sv gs aj k o D) (a:ah (λr=>r=m) w w') (h':eJ w' g m aj k o D'):fE w' g m sv gs aj k o D':=
 ⟨h.1.ab a (λhe=>sK h.1 h.2.2.1 he),br h.2.1 a (λr e he=>Ck h.2.1 h.2.2.1 e he),h'.2⟩
theorem fE.qe {g:Nat} {o:Int} {D:Told} (h:fE w g m sv gs aj k o D):g<w.heap.size/\m<w.heap.size/\ ∀r,leads sv r->r<w.heap.size:=
 ⟨h.1.lt,h.2.2.1.lt,λr a=>by obtain⟨rfl,e⟩:=bO h.2.1 a;exact e⟩
instance (s t:Λ):Decidable (dh s t):=decidable_of_iff ((ci s t 0).isSome=true) ⟨λh=>by
 cases a:ci s t 0 with
 |none=>rw[a] at h;cases h
 |some n=>exact⟨n,a⟩,λ⟨n,h⟩=>by rw[h];rfl⟩
theorem sL (h:aF .i64 w sv l) (E:l.length<=1000000):am x7 y8 [sv] w λv w'=>Ext w w'/\ ∃g,w.heap.size<=g/\au .i64 ai w' g v l:=by
 refine az func81 ?_;rw[aW ax.u h];refine jx (k:=.i64) an.u ai.i Ω Ω λg V G j m=>?_;have s:au .i64 ai V g (.slice (σ ⟨g,0,ν⟩) l.length l.length) (r8 l.length 0):=by
  have:=bW.full (k:=1) (n:=l.length) m Ξ (by simp[maxLen];omega);exact au.of this
 rw[aW ax.u (h.ext j)];have H:=m.lt;refine cz.range l.length (λi aa=>ah (λr=>r=g) V aa/\au .i64 ai aa g (.slice (σ ⟨g,0,ν⟩) l.length l.length) (l.take i++r8 (l.length-i) 0)) h.le ⟨ah.refl _ _,by simpa using s⟩ ?_ ?_
 rotate_left
 .rintro aa y ⟨f,a⟩;rw[aO,al];rw[p9,V7,List.replicate_zero,U4] at a;exact⟨λh=>Ω,λ_=>⟨j.put f Ω,g,Ω,a⟩⟩
 rintro i aa y hi ⟨f,a⟩ z;obtain⟨x,p⟩:=aH (l:=l) hi;have A:Ext w aa:=j.put f Ω;refine bH Ω ?_;rw[bc ax.u ap.i Ψ (h.ext A) p];rw[hj rfl an.u ai.i a Θ];refine hl ai.i a Θ λI B J q=>?_;rw[aP];refine z _ ⟨f.trans B,?_⟩;have e:(l.take i++r8 (l.length-i) 0).set i x=l.take (i+1)++r8 (l.length-(i+1)) 0:=by
  have C:(l.take i).length=i:=by rw[j6];omega
  rw[T2 _ _ Ω,C,V7,show l.length-i=(l.length-(i+1))+1 by omega,List.replicate_succ,List.set_cons_zero,u9,p,o9,U6];rfl
 rw[e] at q;exact q
def LQ (w:x3) (l:Λ) (k o:Int) (v:x1) (w':x3):Prop:=
 Ext w w'/\(¬b1 l->v= .tuple #[.pointer ν,Δ 1])/\(b1 l->¬cq o k->v= .tuple #[.pointer ν,Δ 3])/\
  (b1 l->cq o k-> ∃g m sv gs,v= .tuple #[Γ g,Δ 0]/\w.heap.size<=g/\w.heap.size<=m/\(∀r,leads sv r->w.heap.size<=r)/\fE w' g m sv gs l k o [])
theorem LR {o:Int} (h:aF .i64 w sv l):am x7 om [sv,Δ k,Δ o] w (LQ w l k o):=by
 refine az func144 ?_;refine aV (λv V=>Ext w V/\ ∃c,v= .bool c/\(c=true↔¬b1 l)) ?_ ?_
 .rintro _ V ⟨e,c,rfl,f⟩;rw[ce];refine⟨λx=>⟨e,λ_=>rfl,λh=>absurd h (f.1 x),λh=>absurd h (f.1 x)⟩,λaf=>?_⟩;have U:b1 l:=Classical.byContradiction λh=>by have:=f.2 h;rw[af] at this;cases this
  have H:=U.1;refine jy.mono ?_;rintro _ aa _ ⟨rfl,a⟩;by_cases hi:cq o k
  rotate_left
  .simp only[hi,decide_false,bG,X9,bQ];exact⟨e.trans a,λh=>absurd U h,λ_ _=>rfl,λ_ h=>absurd h hi⟩
  simp only[hi,decide_true,bG,Y6,a1];refine (kd ((h.ext e).ext a) Ω).mono ?_;rintro aI I _ ⟨y,A,J,hm⟩;have K:=hm.ls.cells;refine sq λm L M j B=>?_;rw[dn (cs:=#[aI,Δ k,Δ o,.map (σ m)]) (by obtain⟨_,_,_,_,_,rfl,_⟩:=hm.ls;kernel_rfl)];refine be λg N O q C=>?_;have P:=e.size;have Q:=a.size;have R:=y.size;have S:=j.size;exact⟨((((e.trans a).trans y).trans j).trans q),λh=>absurd U h,λ_ h=>absurd hi h,λ_ _=>⟨g,m,aI,A,rfl,Ω,Ω,λr E=>by have:=(bO hm E).1;omega,C,(hm.ext j).ext q,B.ext q,U,hi,λp G=>by cases G⟩⟩
 .intro aA z;rw[aW an.u h];simp only[bU,al];refine⟨λW=>z _ _ ⟨Ext.refl _,true,rfl,λ_ U=>by have:=U.1;omega,λ_=>rfl⟩,λX=>?_⟩;refine (Bn h).mono ?_;rintro _ aa _ ⟨rfl,a⟩;refine z _ _ ⟨a,_,rfl,?_⟩;rw[decide_eq_true_eq];exact⟨λs U=>s U.2,λs U=>s ⟨Ω,U⟩⟩
structure Cl where
 aj:Λ
 k:Int
 o:Int
 D:Told
instance Q5:ao Cl where
 n:=1
 rep _ _ R w cs a:=∃g m sv gs,cs=[Γ g]/\fE w g m sv gs a.aj a.k a.o a.D/\R g/\R m/\ ∀r,leads sv r->R r
 len:=by rintro _ _ _ _ _ _ ⟨_,_,_,_,rfl,_⟩;rfl
 one:=by rintro _ _ _ _ _ _ ⟨_,_,_,_,rfl,_⟩ u hu;simp at hu;subst hu;rfl
 ab:=by
  rintro _ _ R T w w' _ a ⟨g,m,sv,gs,rfl,h1,f,h,j⟩ J p;obtain⟨q,s,x⟩:=h1.qe;exact⟨g,m,sv,gs,rfl,h1.ab J (p g q (.inr f)) (p m s (.inr h)) λr e=>p r (x r e) (.inr (j r e)),f,h,j⟩
 mono:=by
  rintro _ _ _ R R' w _ a ⟨g,m,sv,gs,rfl,h1,f,h,j⟩ _ y;obtain⟨q,s,x⟩:=h1.qe;exact⟨g,m,sv,gs,rfl,h1,y g q f,y m s h,λr e=>y r (x r e) (j r e)⟩
 hE:=by
  rintro _ _ R w _ a ⟨g,m,sv,gs,rfl,h1,f,h,j⟩;exact⟨g,m,sv,gs,rfl,h1,.inr f,.inr h,λr e=>.inr (j r e)⟩
abbrev gV:Type:=Rd (Λ)×Cl
def qw (k:Int) (x:cw) (f:gV):Prop:=f.1=x.scope/\f.2.aj=x.sizes/\f.2.k=k/\f.2.o=min x.other k/\f.2.D.length<=x.lines.length/\ ∀t,h8 f.2.D f.2.o t=jB x k t
theorem LS {m:Bool} {S R:ak} {x:cw} (h:ao.rep m S R w cs (gU x)):∃aG szv b3,cs=[aG,szv,Δ x.other,b3]/\ao.rep (α:=Λ) false bz R w [aG] x.scope/\ao.rep (α:=Λ) false bz R w [szv] x.sizes/\ao.rep (α:=List (Λ×Int)) false bz R w [b3] x.lines:=by
 obtain⟨j,d1,r,s,rfl,_,_,_,h1,p,d2,z,A,rfl,_,_,_,a,q,d3,B,C,rfl,_,_,_,f,e⟩:=h;have h1:ao.rep (α:=Λ) false bz R w j x.scope:=h1;have a:ao.rep (α:=Λ) false bz R w p x.sizes:=a;have f:q=[Δ x.other]:=f;have e:ao.rep (α:=List (Λ×Int)) false bz R w d3 x.lines:=e;obtain⟨u,rfl⟩:=W7.1 (show j.length=1 from ao.len h1);obtain⟨v,rfl⟩:=W7.1 (show p.length=1 from ao.len a);obtain⟨y,rfl⟩:=W7.1 (show d3.length=1 from ao.len e);subst f;exact⟨u,v,y,rfl,h1,a,e⟩
theorem LU {m:Bool} {S R:ak} {p:Λ×Int} (h:ao.rep m S R w cs p):∃aI,cs=[aI,Δ p.2]/\aF .i64 w aI p.1:=by
 obtain⟨e,d1,f,j,rfl,_,_,_,h1,a⟩:=h;obtain⟨u,rfl⟩:=W7.1 (show e.length=1 from ao.len h1);have a:d1=[Δ p.2]:=a;subst a;exact⟨u,rfl,dc h1⟩
structure sM (k:Int) (x:cw):Prop where
 k:right k
 sizes:b1 x.sizes
 other:0<=x.other
 lines:mo x.sizes x.lines
 len:x.lines.length<=60000
 scope:x.scope.length<=100001
theorem c4 {k:o5} (h:aF k w v l):∃a n c,v= .slice a n c:=by
 obtain⟨_,b,o,base,cap,rfl,_⟩:=h;exact⟨_,_,_,rfl⟩
theorem LV {af:Nat} {aN aO aR:x1} {K:Int} {R:ak} {x:cw} (aj:ag w af cE [aN,Δ K,aO,aR]) (J:Seen R w cs (gU x)) (aS:sM K x):
  am x7 uC [Γ af,.agg cs.toArray] w λv w'=>Ext w w'/\ ∃ca,∃f:gV,v= .agg ca.toArray/\ca.length=2/\Seen (eI w.heap.size) w' ca f/\qw K x f:=by
 obtain⟨aG,szv,b3,rfl,h1,al,P⟩:=LS J;obtain⟨G,Q,bm,an,bn,bq⟩:=aS;have bt:x.sizes.length<=6:=Q.1;refine az func82 ?_;refine be λaq V bu ap q=>?_;have q:ag V aq b0 [aG,szv,Δ x.other,b3]:=by
  obtain⟨_,_,_,rfl⟩:=lP h1;obtain⟨_,_,_,rfl⟩:=lP al;obtain⟨_,_,_,rfl⟩:=lP P;exact q
 refine bD cF.i λy aa bw S H=>?_;have H:ag aa y cF [.slice ν 0 0,.pointer ν]:=H;intro bx I _ _;have U:=(ap.trans S).trans I;have W:=S.trans I;have bA:=ap.size;have bB:=S.size;have z3:=I.size;have bC:=H.lt;have av:=aj.ext U;rw[aM b0.p 1 (q.ext W) rfl,aQ cE.p 1 av rfl,
  aM b0.p 2 (q.ext W) rfl,aQ cE.p 1 av rfl,lE]
 refine (sL ((dc al).ext U) Ω).mono ?_;rintro bE bF _ ⟨z,bG,bJ,aT⟩;refine⟨.inl z,?_⟩;have z4:=z.size;have aU:cq (min x.other K) K:=⟨G,by have:=G.1;omega,Ω⟩;refine (LR aT.ls).mono ?_;rintro _ aV _ ⟨L,_,_,aW⟩;obtain⟨gT,m,sv,gs,rfl,bK,bL,aw,aX⟩:=aW Q aU;rw[bo,bp];have z5:=L.size;have X:=(U.trans z).trans L;have ax:=(W.trans z).trans L;rw[aM b0.p 3 (q.ext ax) rfl];have ay:=bI P X;rw[hL ir.u ay];refine cz.range x.lines.length (λi a=>ah (λr=>r=m) aV a/\ ∃D,D.length<=i/\fE a gT m sv gs x.sizes K (min x.other K) D/\ ∀t,h8 D (min x.other K) t=k0 x K i t) (pT ay) ⟨ah.refl _ _,[],p8 _,aX,λt=>by rw[Ca];rfl⟩ ?_ ?_
 .rintro i a aY hi ⟨e,D,aA,A,Y⟩ aZ;obtain⟨p,Z⟩:=aH (l:=x.lines) hi;have aB:=an.2 p (x5 Z);have B:Ext w a:=X.put e Ω;have a1:=e.size;have a2:ao.rep (α:=List (Λ×Int)) false bz R a [b3] x.lines:=bI P B;refine bH Ω ?_;refine lI dX.p rfl ir.u dX.i a2 Z λbM a6=>?_;obtain⟨aI,rfl,aC⟩:=LU a6;refine bD dX.i λbN bP bQ aD a7=>?_;have bR:=aD.size;refine ch (vs:=[aI,Δ p.2]) dX.i rfl rfl (by intro v ad;simp at ad;rcases ad with rfl|rfl<;>first|exact aC.cells.2|rfl) a7 λa8 ba bS aE=>?_;have bb:Ext a a8:=aD.put ba Ω;intro bT ac _ _;have s:=bb.trans ac;have z9:=s.size;rw[aM dX.p 0 (aE.ext ac) rfl,aM dX.p 1 (aE.ext ac) rfl,aQ cE.p 1 ((aj.ext B).ext s) rfl,lE];have bU:=vv Q aB.1;refine (sL (aC.ext s) Ω).mono ?_;rintro bV bW _ ⟨C,bX,bY,bc⟩;refine⟨.inl C,?_⟩;have bZ:=C.size;refine (Bv (c:=min p.2 K) ((A.ext s).ext C).is bc.ls).mono ?_;rintro _ b1 _ ⟨_,bd⟩;have bf:cq (min p.2 K) K:=⟨G,by have:=G.1;omega,Ω⟩;obtain⟨rfl,aF,D',aJ,aK⟩:=bd ⟨aB.1,bf⟩;rw[aP];refine aZ _ ⟨(e.trans ((s.trans C).ab _)).trans aF,D',by have:=aJ.2;omega,fE.put ((A.ext s).ext C) aF aK,λt=>?_⟩;rw[Cc an.1 Z,aJ.cost A.is.nodup aK.nodup];by_cases M:t=p.1
  .rw[if_pos M,if_pos M]
  .rw[if_neg M,if_neg M,Y]
 .rintro a aY ⟨e,D,aA,A,Y⟩;have B:Ext w a:=X.put e Ω;have bg:Ext V a:=ax.put e Ω;have a1:=e.size;refine cp Ω ?_;rw[aM b0.p 0 (q.ext bg) rfl];refine (sL ((dc h1).ext B) Ω).mono ?_;rintro N b2 _ ⟨O,bh,b4,E⟩;have z12:=O.size;rw[dn (cs:=#[N,Γ gT]) (by obtain⟨_,_,_,rfl⟩:=c4 E.ls;kernel_rfl)];have bi:Ext aa a:=((I.trans z).trans L).put e Ω;refine ch (vs:=[N,Γ gT]) cF.i rfl rfl (by intro v ad;simp at ad;rcases ad with rfl|rfl<;>first|exact E.ls.cells.2|rfl) ((H.ext bi).ext O) λaL ae b5 bj=>?_;rw[fN cF.p cF.i rfl bj.range];have bk:fE aL gT m sv gs x.sizes K (min x.other K) D:=(A.ext O).ab ae (λhe=>by have he:gT=y:=he;omega) (λhe=>by have he:m=y:=he;omega) (λr j he=>by have he:r=y:=he;have:=aw r j;omega);have bl:au .i64 ai aL bh N x.scope:=br E ae λr j he=>by have he:r=y:=he;have:=(bO E j).1;omega
  refine⟨(B.trans O).put ae Ω,_,(x.scope,⟨x.sizes,K,min x.other K,D⟩),rfl,rfl,?_,rfl,rfl,rfl,rfl,aA,λt=>?_⟩
  .exact⟨[N],[Γ gT],bz,bz,rfl,λ_ h=>h,λ_ h=>h,λ_ _ h _=>h,qs bl λr j=>by have:=(bO E j).1;show w.heap.size<=r;omega,
    ⟨gT,m,sv,gs,rfl,bk,by show w.heap.size<=gT;omega,by show w.heap.size<=m;omega,λr j=>by have:=aw r j;show w.heap.size<=r;omega⟩⟩
  .rw[Y,Cb]
theorem LW {S R:ak} {f:gV} (h:ao.rep false S R w cs f):ao.rep (α:=gV) true bz R w cs f:=by
 obtain⟨c,d,A,B,rfl,h1,j,_,a,e⟩:=h;exact⟨c,d,bz,bz,rfl,λ_ h=>h,λ_ h=>h,λ_ _ h _=>h,a,e⟩
def sN (k:Int) (a:List cw) (e:List gV):Prop:=e.length=a.length/\ ∀ (i:Nat) x f,a[i]? =σ x->e[i]? =σ f->qw k x f
theorem LX {e:Nat} {m:Bool} {S R:ak} {Q aj:x1} {K:Int} {q:List cw} {aE:x3->Prop} (aF:ag w e cE [Q,Δ K,szv,.slice ν 0 0])
  (aW:ao.rep m S R w [aj] (show List hr from q.map gU)) (aX:∀r,S r\/R r->r≠e) (aY:∀x∈q,sM K x) (bP:q.length<=256)
  (aZ:∀w' z,∀s:List gV,ah (λr=>r=e) w w'->ag w' e cE [Q,Δ K,szv,z]->Seen (λr=>w.heap.size<=r) w' [z] s->sN K q s->aE w'):
  cz (Δ 0) w λan E a1=>
   ac x7 (aL .lss ai false false an (Δ (q.length:Int))) E λa2=>
   Split a2 (ac x7 (j4 iW aj an) E λa6=>
   ac x7 (u4 b0 a6) E λa7=>
   aD x7 (S7 b0 true (.tuple #[])) E λx a8=>
   aD x7 (o6 b0 x a7) a8 λ(_:Unit) ba=>
   er ba λC=>
   ac x7 (bM (Γ e)) C λG=>
   ac x7 (u5 cE G 3) C λH=>
   ac x7 (u4 dE H) C λap=>
   ac x7 (u4 b0 x) C λbb=>
   am x7 uC [(Γ e),bb] C λbc I=>
    (Ext C I\/cD x7 (u4 dE H) ap I/\cD x7 (u5 cE G 3) H I/\cD x7 (bM (Γ e)) G I/\True)/\
   aD x7 (Y4 dE 1 #[(0,bc)]) I λbd J=>
    (Ext C J\/cD x7 (u4 dE H) ap J/\cD x7 (u5 cE G 3) H J/\cD x7 (bM (Γ e)) G J/\True)/\
    aD x7 (b9 #[dE,dE] dE #[ap,bd]) J λbe au=>
     ac x7 (bM (Γ e)) au λbf=>
     ac x7 (u5 cE bf 3) au λbg=>
     aD x7 (o6 dE bg be) au λ(_:Unit) aG=>
     ac x7 (aL .add ai false true an (Δ 1)) aG λbh=>
   a1 bh aG) (aE E):=by
 have bQ:=aF.lt;have bS:(q.map gU).length=q.length:=Ξ
 refine cz.range q.length (λi V=>ah (λr=>r=e) w V/\ ∃z,∃s:List gV,∃A R':ak,ag V e cE [Q,Δ K,szv,z]/\bE A R' V [z] s/\(∀r,A r->w.heap.size<=r/\r<V.heap.size)/\(∀r,R' r->w.heap.size<=r/\¬A r/\r<V.heap.size)/\sN K (q.take i) s) Ω
  ⟨ah.refl _ _,_,[],bz,bz,aF,gE,λ_ h=>h.elim,λ_ h=>h.elim,rfl,λi x f h=>by simp at h⟩ ?_ ?_
 rotate_left
 .rintro V bi ⟨L,z,s,A,R',M,av,B,N,U⟩;rw[p9] at U;rw[aO,al];refine⟨λh=>Ω,λ_=>aZ V z s L M (pQ av λr _ h=>?_) U⟩;exact h.elim (λh=>(B r h).1) λh=>(N r h).1
 rintro i V bi hi ⟨L,z,s,A,R',M,av,B,N,aI,U⟩ bj;obtain⟨x,aw⟩:=aH (l:=q) hi;have bk:=aY x (x5 aw);have bT:=L.size;rw[j6] at aI;have bl:ao.rep m S R V [aj] (show List hr from q.map gU):=ao.ab aW L λr _ h he=>aX r h he;refine bH Ω ?_;refine lI (α:=hr) (a:=gU x) b0.p rfl iW.u b0.i bl (by show (q.map gU)[i]? =_;rw[x8,aw];rfl) λcs ax=>?_;have aJ:cs.length=4:=ao.len ax;have bm:Seen (λr=>S r\/R r) V cs (gU x):=pQ ax λr _ h=>h;refine bD b0.i λaq aa bU aK bn=>?_;have bW:=aK.size;refine ch (vs:=cs) b0.i aJ rfl (ao.one ax) bn λbo bp bX br=>?_;have bt:Ext V bo:=aK.put bp Ω;intro W aM _ _;have O:=bt.trans aM;have z4:=O.size;rw[aQ cE.p 3 (M.ext O) rfl,bR b0.p b0.i aJ (br.ext aM).range];refine (LV (M.ext O) (bI bm O) bk).mono ?_;rintro _ X _ ⟨Y,ca,f,rfl,bY,af,bu⟩;have z5:=Y.size;refine⟨.inl Y,?_⟩;have aN:=LW af;have bw:=O.trans Y;refine kc (α:=gV) (a:=f) (cs:=ca) (A:=bz) (R:=eI W.heap.size) dE.u cF.i Φ (by
  obtain⟨c,d,bZ,b1,he,_,_,_,Z,bx⟩:=af;have Z:ao.rep (α:=Λ) false bz _ X c f.1:=Z;obtain⟨u,rfl⟩:=W7.1 (show c.length=1 from ao.len Z);obtain⟨b2,cm,b3,b4,rfl,_⟩:=bx;obtain⟨_,_,_,rfl⟩:=lP Z;cases he;rfl) aN λu ay ad _ hu=>?_
 have b5:=ad.size;refine⟨.inl (Y.trans ad),?_⟩;have az:=bw.trans ad;have bA:bE A (λr=>R' r\/(W.heap.size<=r/\r<X.heap.size)) ay [z] s:=bI (ao.mono av (λ_ _ h=>h) λ_ _ h=>.inl h) az;have bB:bE bz (λr=>R' r\/(W.heap.size<=r/\r<X.heap.size)) ay ca f:=bI (ao.mono aN (λ_ _ h=>h) λr y h=>.inr ⟨h,y⟩) ad;refine nl (α:=gV) (a:=f) (A:=bz) dE.u cF.i rfl bA hu bB (λr _ aR h=>?_) Ω Ω λaS bC aA aB=>?_
 .rcases h with h|h|h
  .exact h
  .exact (N r h).2.1 aR
  .have:=(B r aR).2;omega
 have b6:=aB.size;rw[bV,aU cE.p rfl];have bF:=(M.ext az).ab aB (λhe=>by have:=(B _ he).1;omega);refine bq (g:=e) (o:=3) dE.i (pS aA) (gD aA) bF Ξ λbG aT b7 aC=>?_;have aC:ag bG e cE [Q,Δ K,szv,aS]:=aC;rw[aP];have bJ:=mf aA;refine bj _ ⟨(hn (L.trans (az.ab _)) aB λr y he=>by have:=(B _ he).1;omega).trans aT,aS,s++[f],λr=>((A r\/bz r\/ay.heap.size<=r)/\r<bC.heap.size),λr=>R' r\/(W.heap.size<=r/\r<X.heap.size),aC,ao.ab bJ aT λr _ h he=>?_,λr y=>?_,λr y=>?_,?_,λj bK bL ae P=>?_⟩
 .have he:r=e:=he;rcases h with h|h|h
  .rcases h.1 with h1|h1|h1
   .have:=(B _ h1).1;omega
   .exact h1
   .omega
  .have:=(N r h).1;omega
  .omega
 .have b8:=y.2;rcases y.1 with h1|h1|h1
  .have:=(B _ h1).1;omega
  .exact h1.elim
  .omega
 .rcases y with y|y
  .have aV:=N r y;refine⟨aV.1,λh=>?_,Ω⟩;rcases h.1 with h1|h1|h1
   .exact aV.2.1 h1
   .exact h1
   .omega
  .refine⟨Ω,λh=>?_,Ω⟩;rcases h.1 with h1|h1|h1
   .have:=(B _ h1).2;omega
   .exact h1
   .omega
 .rw[o4,j6,aI];simp;omega
 .have bN:=(x4.1 P).1;rw[o4,S9] at bN;rw[Z8 Ω] at ae;by_cases bO:j<s.length
  .rw[Y1 bO] at P;exact U j bK bL (by rw[Z8 Ω];exact ae) P
  .rw[Y2 Ω,show j-s.length=0 by omega] at P;rw[show j=i by omega,aw] at ae;cases P;cases ae;exact bu
def k1 (w:x3) (h:Nat) (f:b2):Prop:=∃szv a gz,∃e:List gV,ag w h cE [bP f.name,Δ f.k,szv,a]/\au .i64 ai w gz szv f.sizes/\Seen ee w [a] e/\sN f.k f.funs e
theorem k1.ext {a:Nat} {f:b2} (h:k1 w a f) (J:Ext w w'):k1 w' a f:=by
 obtain⟨szv,e,gz,j,h1,m,p,q⟩:=h;exact⟨szv,e,gz,j,h1.ext J,m.ext J,bI p J,q⟩
def Cm (w:x3) (res:Option b2) (v:x1) (w':x3):Prop:=Ext w w'/\match res with
 |none=>∃n e:Int,v= .tuple #[.pointer ν,Δ n,Δ e]/\e≠0
 |some f=>∃a,∃n:Int,v= .tuple #[Γ a,Δ n,Δ 0]/\k1 w' a f
structure LY (clean:Bool) (so:Option aE) (name:Λ) (k:Int) (sizes:Λ) (acc:List hr) (res:Option b2):Prop where
 oU:∀s,so=σ s->s.toks=[]->clean=true->s.big=false-> ∃fs,acc=fs.map gU/\res=σ ⟨name,k,sizes,fs⟩/\(∀x∈fs,sM k x)/\fs.length<=256/\sizes.length<=1000000
 bad:res≠ν-> ∃s,so=σ s/\s.toks=[]/\clean=true/\s.big=false
theorem LZ {w0:x3} {g:Nat} {A B S R:ak} {m:Bool} {so:Option aE} {name:Λ} {acc:List hr} {res:Option b2} {aq p:x1} {pl:Λ} {Q:x1->x3->Prop}
  (aC:gS w g gs A B clean so) (M:LY clean so name k sizes acc res) (bn:aF .i64 w szv sizes) (bo:∀r,leads szv r->r≠g/\r≠gs) (bp:ao.rep m S R w [aq] acc) (a2:∀r,S r\/R r->r≠g/\r≠gs/\r<w.heap.size)
  (cY:so=ν->True) (cZ:g<w.heap.size) (c0:gs<w.heap.size) (bq:ah (λr=>w0.heap.size<=r) w0 w) (c1:w0.heap.size<=g) (c2:w0.heap.size<=gs) (br:aF .u8 w0 p pl)
  (W:∀v w',Cm w0 res v w'->Q v w'):
  cv (α:=x3->Prop) (λ(j:x3)=>
  ac x7 (bM (Γ g)) j λbt=>
  ac x7 (u5 cc bt 1) j λbu=>
  ac x7 (u5 eX bu 0) j λbw=>
  ac x7 (u4 js bw) j λbx=>
  ac x7 (aL .neq js false true bx (Δ 0)) j λbz=>
  Split bz (er j λG=>
   ac x7 (bM (Γ g)) G λbA=>
   ac x7 (u5 cc bA 1) G λbB=>
   ac x7 (u5 eX bB 2) G λbC=>
   ac x7 (u4 ai bC) G λbD=>
   ac x7 (bM (Γ g)) G λbE=>
   ac x7 (u5 cc bE 1) G λbF=>
   ac x7 (u5 eX bF 0) G λbG=>
   ac x7 (u4 js bG) G λbH=>
   Q (.tuple #[(.pointer ν),bD,bH]) G)
   (ac x7 (bM (Γ g)) j λbJ=>
   ac x7 (u5 cc bJ 1) j λbK=>
   ac x7 (u5 eX bK 1) j λbL=>
   ac x7 (u4 js bL) j λbN=>
   ac x7 (aL .neq js false true bN (Δ 0)) j λbO=>
   Split bO (er j λH=>
   ac x7 (bM (Γ g)) H λbR=>
   ac x7 (u5 cc bR 1) H λbS=>
   ac x7 (u5 eX bS 3) H λbT=>
   ac x7 (u4 ai bT) H λbU=>
   ac x7 (bM (Γ g)) H λbW=>
   ac x7 (u5 cc bW 1) H λbX=>
   ac x7 (u5 eX bX 1) H λbY=>
   ac x7 (u4 js bY) H λbZ=>
   Q (.tuple #[(.pointer ν),bU,bZ]) H)
   (am x7 y8 [szv] j λb1 a6=>
  ac x7 (Instr.build cE #[(0,bP name),(1,Δ k),(2,b1)]) a6 λb3=>
  aD x7 (Instr.box cE b3) a6 λN a7=>
  ac x7 (W8 #[iW] ai #[aq]) a7 λb4=>
  cz (Δ 0) a7 λaG O b5=>
   ac x7 (aL .lss ai false false aG b4) O λb6=>
   Split b6 (ac x7 (j4 iW aq aG) O λb7=>
   ac x7 (u4 b0 b7) O λb8=>
   aD x7 (S7 b0 true (.tuple #[])) O λx ca=>
   aD x7 (o6 b0 x b8) ca λ(_:Unit) cb=>
   er cb λL=>
   ac x7 (bM N) L λX=>
   ac x7 (u5 cE X 3) L λY=>
   ac x7 (u4 dE Y) L λaH=>
   ac x7 (u4 b0 x) L λcd=>
   am x7 uC [N,cd] L λce Z=>
    (Ext L Z\/cD x7 (u4 dE Y) aH Z/\cD x7 (u5 cE X 3) Y Z/\cD x7 (bM N) X Z/\True)/\
   aD x7 (Y4 dE 1 #[(0,ce)]) Z λcg ae=>
    (Ext L ae\/cD x7 (u4 dE Y) aH ae/\cD x7 (u5 cE X 3) Y ae/\cD x7 (bM N) X ae/\True)/\
    aD x7 (b9 #[dE,dE] dE #[aH,cg]) ae λch aI=>
     ac x7 (bM N) aI λci=>
     ac x7 (u5 cE ci 3) aI λcj=>
     aD x7 (o6 dE cj ch) aI λ(_:Unit) a8=>
     ac x7 (aL .add ai false true aG (Δ 1)) a8 λck=>
   b5 ck a8)
    (ac x7 (W8 #[cN] ai #[p]) O λcl=>
  Q (.tuple #[N,cl,(Δ 0)]) O)))) λau=>
 am x7 kK [(Γ g)] w λcm af=>
 Split cm (ac x7 (bM (Γ g)) af λcn=>
  ac x7 (u5 cc cn 0) af λcp=>
  ac x7 (u4 rM cp) af λcq=>
  am x7 uB [cq] af λaJ K=>
  ac x7 (Z7 aJ 0) K λc3=>
  ac x7 (Z7 aJ 1) K λba=>
  ac x7 (Z7 aJ 2) K λaK=>
  ac x7 (aL .eql js false true aK (Δ 0)) K λcr=>
  Split cr (am x7 m7 [(Γ g),(Δ 4),ba] K λc5 ct=>
  au ct)
  (ac x7 (aL .eql js false true aK (Δ 11)) K λcu=>
  Split cu (am x7 m7 [(Γ g),aK,ba] K λc6 cw=>
   au cw)
   (au K)))
  (au af):=by
 refine dg (λj=>ah (λr=>r=g\/r=gs) w j/\ ∃ (e big I J told:Int) (sv:x1),ag j g cc (fC gs e big I J told sv)/\((e≠0/\res=ν)\/(e=0/\ ∃s,so=σ s/\s.toks=[]/\clean=true/\(s.big=true↔big≠0)))) ?_ ?_
 rotate_left
 .intro aA aM;refine (BV aC).mono ?_;rintro _ V _ ⟨rfl,aj⟩;cases so with
  |none=>
   rw[show (ν:Option aE).isSome=false from rfl,a1];obtain⟨e,big,I,J,told,sv,y,aN⟩:=aC.ext aj;refine aM _ ⟨aj.ab _,e,big,I,J,told,sv,y,.inl ⟨aN,?_⟩⟩;cases E:res with
   |none=>rfl
   |some f=>obtain⟨s,h,_⟩:=M.bad (by rw[E];simp);cases h
  |some s=>
   rw[show (σ s:Option aE).isSome=true from rfl,bQ];have cA:df V g gs A B s clean:=aC.ext aj;obtain⟨av,cB,cC,big,I,J,told,sv,y,aN,cF⟩:=id cA;rw[aQ cc.p 0 y rfl];refine (qc cB).mono ?_;rintro v aa _ ⟨P,ad⟩;have cG:(s.toks≠[]\/clean=false)->res=ν:=λq=>by
    cases E:res with
    |none=>rfl
    |some f=>
     obtain⟨s',h,an,bb,_⟩:=M.bad (by rw[E];simp);cases h;rcases q with q|q
     .exact absurd an q
     .rw[q] at bb;cases bb
   have aw:∀z,ah (λr=>r=g) aa z->ey z g gs A B->(s.toks≠[]\/clean=false)->aA z:=λz ap aw q=>by
    obtain⟨_,e,big,I,J,told,sv,l,cH,cI,_⟩:=aw;exact aM _ ⟨((aj.ab _).trans (P.mono λr _ h=>.inr h)).trans (ap.mono λr _ h=>.inl h),e,big,I,J,told,sv,cH,.inl ⟨cI.1,cG q⟩⟩
   have aO:=y.ab P av.1;have bc:=ao.ab cF P λr _ h an=>by
    have an:r=gs:=an;subst an;rcases h with h|h
    .exact av.2.2.1 h
    .exact h.1 (.inr (.inl rfl))
   have bd:s.shared.length<=100000:=by have:=cC.2.2;omega
   cases U:s.toks with
   |cons t l=>
    rw[U] at ad;obtain⟨c7,n,rfl⟩:=ad;rw[fO,fP,fQ,bg,al];refine⟨λ_=>?_,λh=>absurd rfl h⟩;refine (sh (av.ab P) aO bc Ω bd).mono ?_;rintro _ z _ ⟨ap,aP⟩;exact aw z ap aP (.inl (by rw[U];simp))
   |nil=>
    rw[U] at ad;obtain⟨n,rfl⟩:=ad;rw[fO,fP,fQ,bg,al];refine⟨λh=>by cases clean<;>simp at h,λ_=>?_⟩;rw[bg,al];cases ax:clean with
    |true=>
     subst ax;refine⟨λh=>by simp at h,λ_=>aM _ ⟨(aj.ab _).trans (P.mono λr _ h=>.inr h),0,big,I,J,told,sv,aO,.inr ⟨rfl,s,rfl,U,rfl,aN.1⟩⟩⟩
    |false=>
     subst ax;refine⟨λ_=>?_,λh=>absurd rfl h⟩;refine (sh (av.ab P) aO bc Ξ bd).mono ?_;rintro _ z _ ⟨ap,aP⟩;exact aw z ap aP (.inr rfl)
 .rintro V ⟨az,e,big,I,J,told,sv,y,cJ⟩;have c8:=az.size;have aR:Ext w0 V:=(bq.ext λr E h=>Ω).then az (λr E h=>by rcases h with h|h<;>omega);rw[bV,aU cc.p rfl,aU eX.p rfl,ay Ψ (y.cell (o:=0+1+0) rfl),bm,al];rcases cJ with⟨he,aS⟩|⟨rfl,s,rfl,U,ax,bf⟩
  .refine⟨λ_=>?_,λh=>absurd he h⟩;intro aa C _ _;rw[bV,aU cc.p rfl,aU eX.p rfl,ay Ψ ((y.ext C).cell (o:=0+1+2) rfl),bV,aU cc.p rfl,aU eX.p rfl,ay Ψ ((y.ext C).cell (o:=0+1+0) rfl)];rw[aS] at W;exact W _ _ ⟨aR.trans C,I,e,rfl,he⟩
  .refine⟨λh=>absurd rfl h,λ_=>?_⟩;rw[bV,aU cc.p rfl,aU eX.p rfl,ay Ψ (y.cell (o:=0+1+1) rfl),bm,al];refine⟨λq=>?_,λq=>?_⟩
   .have aS:res=ν:=by
     cases E:res with
     |none=>rfl
     |some f=>
      obtain⟨s',h,_,_,bh⟩:=M.bad (by rw[E];simp);cases h;rw[bf.2 q] at bh;cases bh
    intro aa C _ _;rw[bV,aU cc.p rfl,aU eX.p rfl,ay Ψ ((y.ext C).cell (o:=0+1+3) rfl),bV,aU cc.p rfl,aU eX.p rfl,ay Ψ ((y.ext C).cell (o:=0+1+1) rfl)];rw[aS] at W;exact W _ _ ⟨aR.trans C,J,big,rfl,q⟩
   .have cK:s.big=false:=by
     cases cL:s.big with
     |false=>rfl
     |true=>exact absurd (bf.1 cL) q
    obtain⟨aT,rfl,rfl,cM,cO,cP⟩:=M.oU s rfl U ax cK;have cQ:aF .i64 V szv sizes:=hP bn az λr E a n c ad M=>by
     have:=bo r ⟨a,n,c,ad,M⟩;exact E.elim this.1 this.2
    refine (sL cQ cP).mono ?_;rintro aV aa _ ⟨C,gz,c9,aX⟩;have da:=C.size;rw[dn (cs:=#[bP name,Δ k,aV,.slice ν 0 0]) (by obtain⟨_,_,_,rfl⟩:=c4 aX.ls;kernel_rfl)];refine be λaY z db aZ aB=>?_;have aB:ag z aY cE [bP name,Δ k,aV,.slice ν 0 0]:=by obtain⟨_,_,_,rfl⟩:=c4 aX.ls;exact aB
    have bi:ao.rep m S R z [aq] (show List hr from aT.map gU):=bI (bI (ao.ab bp az λr _ h he=>by have:=a2 r h;exact he.elim this.1 this.2.1) C) aZ;have cR:(aT.map gU).length=aT.length:=Ξ
    rw[hL iW.u bi,cR];refine LX aB bi (λr h=>by have:=a2 r h;omega) cM cO λbj cS cT cU cV cW cX=>?_;have dc:=aB.lt;have z3:=aZ.size;have bk:Ext aa bj:=aZ.then cU (λr E h=>by have h:r=aY:=h;omega);have bl:Ext w0 bj:=(aR.trans C).trans bk;rw[aW cN.u (br.ext bl)];exact W _ _ ⟨bl,aY,_,rfl,aV,cS,gz,cT,cV,aX.ext bk,i7 cW,cX⟩
theorem Cn {α:Type} {f:List α->aE->Option (α×aE)} {acc:List α} {s:aE}:fi f (n+1) acc (σ s)=match f acc s with
  |none=>ν
  |some (a,s')=>fi f n (acc++[a]) (σ s'):=by
 show cO f (n+1) acc s=_;simp only[cO];cases f acc s<;>rfl
theorem L0 {g:Nat} {A B:ak} {s:Option aE} {most:Int} {L:x1->x3->Prop} (h:di w g gs A B clean s) (ao:(N:Int)<=aw)
  (M:∀szv w' l so gz,ah (bC g gs A) w w'->di w' g gs A B clean so->au .i64 ap w' gz szv l->w.heap.size<=gz->l.length<=100001->(∀q,fi (fR most) N [] s=σ q->so=σ q.2/\l=q.1)->(fi (fR most) N [] s=ν->so=ν)->L szv w'):
 bZ (.slice ν 0 0) (Δ 0) w λsizes i C k=>
  cv (α:=x1->x3->Prop) (λ(aq:x1) (O:x3)=>
   Split aq (am x7 m4 [Γ g,(Δ 1),Δ most] O λP p=>
  ac x7 (Z7 P 0) p λQ=>
  ac x7 (Z7 P 1) p λav=>
  ac x7 (aL .gtr ap false true Q (Δ 32)) p λay=>
  am x7 pI [Γ g,ay,av] p λbk az=>
  aD x7 (Y4 ax 1 #[(0,Q)]) az λaB aC=>
  aD x7 (b9 #[ax,ax] ax #[sizes,aB]) aC λaF R=>
  ac x7 (aL .add ap false true i (Δ 1)) R λaG=>
  k aF aG R) (L sizes O)) λaA=>
  ac x7 (aL .lss ap false false i (Δ (N:Int))) C λaH=>
  Split aH (am x7 kK [Γ g] C λaI aJ=>
  aA aI aJ)
   (aA (.bool false) C):=by
 obtain⟨bl,S,bm,aK,aM⟩:=h.side;have gT:∀r,bC g gs A r->r<w.heap.size:=aK;unfold aw at ao;generalize aN:fi (fR most) N [] s=U at M;refine⟨λout E V=>∃ (i:Nat) (l:Λ) (so:Option aE) (gz:Nat),E=Δ (i:Int)/\i<=N/\ah (bC g gs A) w V/\au .i64 ap V gz out l/\w.heap.size<=gz/\di V g gs A B clean so/\U=fi (fR most) (N-i) l so/\l.length<=100001/\ ∀st,so=σ st->l.length+st.toks.length<=100000,
  λ_ E _=>N-(bX E).toNat,⟨0,[],s,w.heap.size,rfl,X3 _,ah.refl _ _,au.nil _ _ _ _,p8 _,h,aN.symm,Ξ,λst aQ=>?_⟩,?_⟩
 .subst aQ;have:=h.words;simpa using this
 rintro out _ V ⟨i,l,so,gz,rfl,bn,G,W,aR,X,x,aS,Y⟩;refine aV (λv Z=>Ext V Z/\((v= .bool true/\i<N/\ ∃st,so=σ st)\/(v= .bool false/\(so=ν\/i=N)))) ?_ ?_
 rotate_left
 .intro aA H;rw[aO,al];refine⟨λaT=>?_,λbq=>H _ _ ⟨Ext.refl _,.inr ⟨rfl,.inr Ω⟩⟩⟩;refine (oZ X).mono ?_;rintro _ Z _ ⟨rfl,ad⟩;cases so with
  |none=>exact H _ _ ⟨ad,.inr ⟨rfl,.inl rfl⟩⟩
  |some st=>exact H _ _ ⟨ad,.inl ⟨rfl,Ω,st,rfl⟩⟩
 rintro _ aa ⟨m,aU⟩;have ae:=W.ext m;have af:=X.ext m;rcases aU with⟨rfl,aT,st,rfl⟩|⟨rfl,aW⟩
 rotate_left
 .rw[a1];have ag:U=so.map λst=>(l,st):=by
   rcases aW with rfl|rfl
   .exact x
   .rw[V7] at x;rw[x];cases so<;>rfl
  refine M out aa l so gz (G.trans (m.ab _)) af ae aR aS (λq f=>?_) λai=>?_
  .rw[ag] at f;cases so with
   |none=>cases f
   |some st=>cases f;exact⟨rfl,rfl⟩
  .rw[ag] at ai;cases so with
   |none=>rfl
   |some st=>cases ai
 rw[bQ];have Y:=Y st rfl;refine (lO (s:=σ st) af).mono ?_;rintro _ bt _ ⟨I,z,at_,rfl,aX,bu⟩;obtain⟨J,aY⟩:=I.of;rw[bo,bp,bU];refine (qp aY).mono ?_;rintro _ bw _ I;obtain⟨K,aZ⟩:=I.of;refine ew ax.u ap.i rfl λa ga a2 bx y a6=>?_;have bz:=G.size;have bA:=m.size;have z3:=J.size;have z4:=K.size;have z5:=y.size;have aj:∀r,leads out r->¬bC g gs A r:=λr j a7=>by have:=gT r a7;have:=(bO W j).1;omega
 have a8:=br (br ae J aj) K aj;refine iZ ax.u ap.i rfl (a8.ext y) a6.ls Θ Θ λbB ba bc bD bd an=>?_;rw[aP,wrap_i64 Ω Ω];have be:ah (bC g gs A) w a2:=((((G.trans (m.ab _)).trans J).trans K).trans (y.ab _));have bf:ah (bC g gs A) w bc:=hn be an λr j he=>by have he:r=gz:=he;omega
 have bg:∀r,bC g gs A r->¬(λr=>r=gz) r:=λr j he=>by have:=gT r j;have he:r=gz:=he;omega
 have bi:∀r,cH g gs A B r->¬(λr=>r=gz) r:=λr j he=>by have:=aM r j.2;have he:r=gz:=he;omega
 refine⟨⟨i+1,l++[z],_,ba,rfl,Ω,bf,bd,Ω,(aZ.ext y).ab an bg bi,?_,Θ,λbE bj=>?_⟩,by simp only[bX];omega⟩
 .rw[x,show N-i=(N-(i+1))+1 by omega,Cn];unfold fR;cases f:bh 1 most st with
  |none=>have e:bb 1 most (σ st)=ν:=f;rw[e];rfl
  |some q=>
   have e:bb 1 most (σ st)=σ q:=f;have:=aX q e;subst this;rw[e];rfl
 .obtain⟨bF,S,rfl⟩:=Y5.1 bj;obtain⟨q,f,rfl⟩:=Y5.1 S;have h1:=(dC (n:=q.1) (s':=q.2) f).1;simp only[o4,S9];show l.length+1+q.2.toks.length<=100000;omega
theorem L1 {acc:List (Λ×Int)} {s s':aE} {a:Λ×Int} (h:dO sizes acc s=σ (a,s')):s'.told=s.told/\s'.big=s.big:=by
 obtain⟨_,_,_,e⟩:=oP h;exact⟨e.eqs.1,e.eqs.2.1⟩
theorem L2 {s s':aE} {l:List (Λ×Int)} (hi:dQ s) (h:dP sizes s=σ (l,s')):dQ s'/\(s.big=true->s'.big=true):=by
 have e:=BS sizes (σ s);rw[show iE sizes (σ s)=dP sizes s from rfl,h] at e;cases r:bb (-aw) aw (σ s) with
 |none=>rw[r] at e;cases e
 |some q=>
  obtain⟨n,m⟩:=q;rw[r] at e;simp only at e;have h1:=(dC (n:=n) (s':=m) r).eqs;have x:dQ m:=λj=>by rw[h1.1];rw[h1.2.1] at j;exact hi j
  split at e
  .cases U:m.shared[(-n-1).toNat]? with
   |none=>rw[U] at e;cases e
   |some q=>
    obtain⟨z,l'⟩:=q;rw[U] at e;simp only at e;split at e
    .cases e;exact⟨x,λj=>by rw[h1.2.1];exact j⟩
    .cases e
  .have:=ki (f:=dO sizes) (λacc t=>t.told=(jF n m).told/\t.big=(jF n m).big) (λacc t a bu ⟨w,p⟩ g=>by
    have:=L1 g;exact⟨by rw[this.1,w],by rw[this.2,p]⟩) n.toNat [] _ l s' ⟨rfl,rfl⟩ e.symm
   obtain⟨⟨w,p⟩,_⟩:=this;refine⟨λj=>by rw[w];rw[p] at j;exact Ll n m j,λj=>?_⟩;rw[p];show (m.big||_)=true;rw[h1.2.1,j];rfl
theorem L3 {s s':aE} {x:cw} (hi:dQ s) (h:c6 all s=σ (x,s')):dQ s'/\s'.toks.length<s.toks.length:=by
 unfold c6 at h;cases m:bh (-aw) aw s with
 |none=>rw[m] at h;cases h
 |some q=>
 obtain⟨a,C⟩:=q;rw[m] at h;simp only at h;have t0:=dC m;cases h1:eZ all.length a.natAbs C with
 |none=>rw[h1] at h;cases h
 |some q=>
 obtain⟨sc,f⟩:=q;rw[h1] at h;simp only at h;obtain⟨p,_⟩:=vm h1;generalize sc.map (λv=>all.getD v.toNat 0)=sizes at h;cases r:bh 0 aw (bd (decide (6<a.natAbs)||dq sizes) f) with
 |none=>rw[r] at h;cases h
 |some q=>
 obtain⟨other,w⟩:=q;rw[r] at h;simp only at h;have y:=dC r;have E:dQ w:=λe=>by
  rw[y.eqs.1];rw[y.eqs.2.1] at e;have e:(f.big||_)=false:=e;have A:=(S3.1 e).1;show f.told<=16384;rw[p.eqs.1,t0.eqs.1];rw[p.eqs.2.1,t0.eqs.2.1] at A;exact hi A
 cases j:dP sizes w with
 |none=>rw[j] at h;cases h
 |some q=>
 obtain⟨lines,z⟩:=q;rw[j] at h;simp only[Y8,T9] at h;obtain⟨_,rfl⟩:=h;have F:=L2 E j;have I:=BZ j;have J:=t0.1;have K:=p.1;have L:f.toks.length=w.toks.length+1:=y.1;have B:∀t:aE,t.told=z.told/\t.big=z.big/\t.toks=z.toks->dQ t/\t.toks.length<s.toks.length:=λt ⟨G,H,a3⟩=>⟨λe=>by rw[G];rw[H] at e;exact F.1 e,by rw[a3];omega⟩;split
 .exact B _ ⟨rfl,rfl,rfl⟩
 .exact B _ ⟨rfl,rfl,rfl⟩
theorem L4 {S R:ak} {x:hr} (h:ao.rep false S R w cs x):ao.rep (α:=hr) true bz R w cs x/\(x1.agg cs.toArray).cells=cs.toArray:=by
 obtain⟨j,d1,q,r,rfl,_,_,_,h1,m,d2,s,z,rfl,_,_,_,a,p,d3,A,B,rfl,_,_,_,f,e⟩:=h;have h1:ao.rep (α:=Λ) false bz R w j x.1:=h1;have a:ao.rep (α:=Λ) false bz R w m x.2.1:=a;have f:p=[Δ x.2.2.1]:=f;have e:ao.rep (α:=List (Λ×Int)) false bz R w d3 x.2.2.2:=e;refine⟨⟨j,_,bz,bz,rfl,λ_ h=>h,λ_ h=>h,λ_ _ h _=>h,h1,m,_,bz,bz,rfl,λ_ h=>h,λ_ h=>h,λ_ _ h _=>h,a,p,d3,bz,bz,rfl,λ_ h=>h,λ_ h=>h,λ_ _ h _=>h,f,e⟩,?_⟩;obtain⟨u,rfl⟩:=W7.1 (show j.length=1 from ao.len h1);obtain⟨v,rfl⟩:=W7.1 (show m.length=1 from ao.len a);obtain⟨y,rfl⟩:=W7.1 (show d3.length=1 from ao.len e);obtain⟨_,_,_,rfl⟩:=lP h1;obtain⟨_,_,_,rfl⟩:=lP a;obtain⟨_,_,_,rfl⟩:=lP e;subst f;rfl
theorem L5 {w0:x3} {g c:Nat} {A B:ak} {o:Option aE} {J:x1} {aC:x1->x3->Prop} (aG:gS w g gs A B clean o) (hi:∀s,o=σ s->dQ s) (bp:(c:Int)<=aw)
  (bq:aF .i64 w J all) (aH:∀r,leads J r->r≠g/\r≠gs/\r<w.heap.size/\(o≠ν->¬A r)) (br:o≠ν-> ∀z∈all,1<=z/\z<=aw) (bt:all.length<=100001) (bu:ej w) (h1:1<w0.heap.size/\(o≠ν->cH g gs A B 1))
  (aI:ah (λr=>w0.heap.size<=r) w0 w) (bw:w0.heap.size<=g) (bx:w0.heap.size<=gs) (cl:g<w.heap.size/\gs<w.heap.size) (bA:o≠ν-> ∀r,A r->w0.heap.size<=r)
  (aJ:∀K w' acc so aS m aK aM,ah (λr=>w0.heap.size<=r) w0 w'->w.heap.size<=w'.heap.size->gS w' g gs aS m clean so->ao.rep (α:=List hr) true aK aM w' [K] acc->(∀r,aK r\/aM r->r≠g/\r≠gs/\r<w'.heap.size)->aF .i64 w' J all->
   (∀q,fi (λ_ s=>c6 all s) c [] o=σ q->so=σ q.2/\acc=q.1.map gU)->(fi (λ_ s=>c6 all s) c [] o=ν->so=ν)->aC K w'):
 bZ (.slice ν 0 0) (Δ 0) w λfuns aN ai bB=>
  cv (α:=x1->x3->Prop) (λ(bD:x1) (aQ:x3)=>
   Split bD (am x7 y7 [Γ g,J] aQ λbF bG=>
  aD x7 (Y4 iW 1 #[(0,bF)]) bG λbH bJ=>
  aD x7 (b9 #[iW,iW] iW #[funs,bH]) bJ λbK aR=>
  ac x7 (aL .add ap false true aN (Δ 1)) aR λbL=>
  bB bK bL aR) (aC funs aQ)) λaT=>
  ac x7 (aL .lss ap false false aN (Δ (c:Int))) ai λbM=>
  Split bM (am x7 kK [Γ g] ai λbN bO=>
  aT bN bO)
   (aT (.bool false) ai):=by
 unfold aw at bp;generalize f:fi (λ_ s=>c6 all s) c [] o=aU at aJ;have aW:∀s,o=σ s->o≠ν:=λs h=>by rw[h];simp
 refine⟨λK aj V=>∃ (i:Nat) (acc:List hr) (E:List cw) (so:Option aE) (p H y L:ak),aj=Δ (i:Int)/\i<=c/\ah (λr=>w0.heap.size<=r) w0 V/\w.heap.size<=V.heap.size/\gS V g gs p H clean so/\ao.rep true y L V [K] acc/\
   aF .i64 V J all/\ej V/\aU=fi (λ_ s=>c6 all s) (c-i) E so/\(∀r,y r->w.heap.size<=r/\r<V.heap.size)/\(∀r,L r->r≠g/\r≠gs/\¬y r)/\
   ∀s,so=σ s->acc=E.map gU/\dQ s/\E.length+s.toks.length<=100000/\o≠ν/\(∀r,p r->A r\/w.heap.size<=r)/\(∀r,p r->w0.heap.size<=r)/\(∀r,B r->H r)/\(∀r,y r->¬H r/\¬p r)/\(∀r,L r->cH g gs p H r),
  λ_ aj _=>c-(bX aj).toNat,⟨0,[],[],o,A,B,bz,bz,rfl,X3 _,aI,p8 _,aG,gE,bq,bu,f.symm,λ_ h=>h.elim,λ_ h=>h.elim,λs U=>⟨rfl,hi s U,?_,aW s U,λr e=>.inl e,bA (aW s U),λr e=>e,λ_ h=>h.elim,λ_ h=>h.elim⟩⟩,?_⟩
 .subst U;have an:df w g gs A B s clean:=aG;have:=an.2.1.words.1;simpa using this
 rintro K _ V ⟨i,acc,E,so,p,H,y,L,rfl,cm,bP,cn,aX,bR,aq,aY,X,C,bS,aZ⟩;refine aV (λv a2=>Ext V a2/\((v= .bool true/\i<c/\ ∃st,so=σ st)\/(v= .bool false/\(so=ν\/i=c)))) ?_ ?_
 rotate_left
 .intro aA au;rw[aO,al];refine⟨λa6=>?_,λcp=>au _ _ ⟨Ext.refl _,.inr ⟨rfl,.inr Ω⟩⟩⟩;refine (BV aX).mono ?_;rintro _ a2 _ ⟨rfl,a7⟩;cases so with
  |none=>exact au _ _ ⟨a7,.inr ⟨rfl,.inl rfl⟩⟩
  |some st=>exact au _ _ ⟨a7,.inl ⟨rfl,Ω,st,rfl⟩⟩
 rintro _ aa ⟨I,bT⟩;have cq:=I.size;have P:=aX.ext I;have a8:=bI bR I;have ba:ah (λr=>w0.heap.size<=r) w0 aa:=bP.trans (I.ab _);rcases bT with⟨rfl,a6,st,rfl⟩|⟨rfl,bU⟩
 rotate_left
 .rw[a1];have bb:aU=so.map λst=>(E,st):=by
   rcases bU with rfl|rfl
   .exact X
   .rw[V7] at X;rw[X];cases so<;>rfl
  refine aJ K aa acc so p H y (λr=>L r/\r<aa.heap.size) ba Ω P (ao.mono a8 (λ_ _ h=>h) λr e h=>⟨h,e⟩) (λr e=>?_) (aq.ext I) (λq G=>?_) λbc=>?_
  .rcases e with e|e
   .have:=C r e;exact⟨Ω,Ω,Ω⟩
   .have:=bS r e.1;exact⟨this.1,this.2.1,e.2⟩
  .rw[bb] at G;cases so with
   |none=>cases G
   |some st=>cases G;exact⟨rfl,(aZ _ rfl).1⟩
  .rw[bb] at bc;cases so with
   |none=>rfl
   |some st=>cases bc
 rw[bQ];obtain⟨rfl,bd,cr,Y,be,av,bf,Z,bg⟩:=aZ st rfl;have P:df aa g gs p H st clean:=P;obtain⟨ct,cu,cz,cA,cB⟩:=P.1;have bV:=h1.2 Y;have bh:cH g gs p H 1:=⟨λf=>by
  rcases f with f|f|f
  .omega
  .omega
  .have:=av 1 f;omega,bf 1 bV.2⟩
 have bi:∀r,leads J r->¬bC g gs p r/\r<aa.heap.size:=λr e=>by
  obtain⟨bW,bY,b1,b2⟩:=aH r e;refine⟨λf=>?_,Ω⟩;rcases f with f|f|f
  .exact bW f
  .exact bY f
  .rcases be r f with h|h
   .exact b2 Y h
   .omega
 refine (Lw P bd (aq.ext I) bi (br Y) bt (aY.ext I) bh).mono ?_;rintro _ b3 _ ⟨aS,m,cs,ax,rfl,cC,Q,S,ay,bj,bk,b4,b5⟩;have z3:=Q.size;obtain⟨bl,b6⟩:=L4 b4;refine kc (α:=hr) (a:=ax) (cs:=cs) (A:=bz) (R:=cH g gs aS m) iW.u b0.i Φ b6 bl λu ae M _ hu=>?_;have z4:=M.size;have b7:∀r,r<aa.heap.size->y r\/L r->¬bC g gs p r:=λr e h f=>by
  rcases h with h|h
  .have j:=C r h;rcases f with f|f|f
   .omega
   .omega
   .exact (Z r h).2 f
  .exact (bg r h).1 f
 have b8:∀r,r<aa.heap.size->cH g gs p H r->cH g gs aS m r:=λr e h=>⟨λf=>h.1 (f.imp id (Or.imp id λf=>(S r f).elim id λh'=>Ω)),bj r h.2⟩;have ca:bE y (cH g gs aS m) ae [K] (E.map gU):=bI (ao.ab (ao.mono (S':=y) (R':=λr=>cH g gs aS m r/\L r) a8 (λ_ _ h=>h) λr e h=>⟨b8 r e (bg r h),h⟩) Q λr e h=>b7 r e (h.imp id λh=>h.2) |> λh=>h) M |> λh=>ao.mono h (λ_ _ h=>h) λ_ _ h=>h.1;have af:∀r,y r->¬m r:=λr h ag=>by
  have j:=C r h;rcases (ay r ag).1 with N|N
  .exact (Z r h).1 N
  .have az:=(C r h).2;omega
 have cD:(E.map gU).length=E.length:=Ξ
 refine nl (α:=hr) (a:=ax) (A:=bz) iW.u b0.i rfl ca hu (bI bl M) (λr _ cb h=>?_) Ω Ω λcE O cc W=>?_
 .rcases h with h|h
  .exact h
  .exact af r cb h.2
 have z5:=W.size;rw[aP,wrap_i64 Ω Ω];have cd:ah (λr=>w0.heap.size<=r) w0 ae:=(ba.trans (Q.mono λr _ f=>by
  rcases f with rfl|rfl|f
  .exact bw
  .exact bx
  .exact av r f)).trans (M.ab _)
 have z0:=aI.size;have ce:ah (λr=>w0.heap.size<=r) w0 O:=cd.trans (W.mono λr _ h=>by have:=(C r h).1;omega);have cg:aF .i64 ae J all:=(hP (aq.ext I) Q λr e a n c ad aB=>(bi r ⟨a,n,c,ad,aB⟩).1 e).ext M;have ch:aF .i64 O J all:=hP cg W λr e a n c ad aB=>by
  have b1:=(aH r ⟨a,n,c,ad,aB⟩).2.2.1;have:=(C r e).1;omega
 have ci:ej O:=(((aY.ext I).ab Q bh.1).ext M).ab W λh=>by have:=(C 1 h).1;omega
 have bm:gS O g gs aS m clean ((c6 all st).map (·.2)):=by
  refine gS.ab (bk.ext M) W (λh=>by have:=C _ h;omega) (λr e cF h=>?_) (λr e h=>af r h e.2);have j:=C r h;rcases e with rfl|rfl|e
  .omega
  .omega
  .rcases S r e with N|N
   .exact (Z r h).2 N
   .omega
 have cj:=mf cc;refine⟨⟨i+1,(E.map gU)++[ax],E++((c6 all st).map (·.1)).toList,(c6 all st).map (·.2),aS,m,λr=>(y r\/bz r\/ae.heap.size<=r)/\r<O.heap.size,cH g gs aS m,rfl,Ω,ce,Ω,bm,cj,ch,ci,?_,λr e=>⟨?_,e.2⟩,λr e=>⟨λh=>e.1 (.inl h),λh=>e.1 (.inr (.inl h)),λh=>?_⟩,λs' ck=>?_⟩,by simp only[bX];omega⟩
 .rw[X,show c-i=(c-(i+1))+1 by omega,Cn];cases G:c6 all st with
  |none=>rfl
  |some q=>rfl
 .rcases e.1 with h|h|h
  .exact (C r h).1
  .exact h.elim
  .omega
 .rcases h.1 with j|j|j
  .exact af r j e.2
  .exact j
  .have:=(ay r e.2).2;omega
 .obtain⟨q,G,rfl⟩:=Y5.1 ck;have j:=L3 (s':=q.2) (x:=q.1) bd G;have N:=b5 q G;refine⟨?_,j.1,?_,Y,λr e=>?_,λr e=>?_,λr e=>bj r (bf r e),λr e=>⟨λag=>?_,λbn=>?_⟩,λr e=>e⟩
  .rw[G,N];simp
  .rw[G];simp only[Z3,o9,o4,S9];omega
  .rcases S r e with h|h
   .exact be r h
   .exact .inr Ω
  .rcases S r e with h|h
   .exact av r h
   .omega
  .rcases e.1 with j|j|j
   .exact af r j ag
   .exact j
   .have:=(ay r ag).2;omega
  .have cG:gS O g gs aS m clean ((c6 all st).map (·.2)):=bm;have bo:=bk;rw[G] at bo;have an:df b3 g gs aS m q.2 clean:=bo;have a6:=an.1.2.2.2.1 r (.inr (.inr bn));rcases e.1 with j|j|j
   .rcases S r bn with az|az
    .exact (Z r j).2 az
    .have:=(C r j).2;omega
   .exact j
   .omega
theorem dQ.num {lo hi n:Int} {s s':aE} (e:dQ s) (h:bh lo hi s=σ (n,s')):dQ s':=λa=>by
 have h1:=(dC h).eqs;rw[h1.1];rw[h1.2.1] at a;exact e a
theorem dQ.big {b:Bool} {s:aE} (h:dQ s):dQ (bd b s):=λa=>by
 have a:(s.big||b)=false:=a;exact h (S3.1 a).1
theorem dQ.word {w:Λ} {s s':aE} (h:dQ s) (hw:dN s=σ (w,s')):dQ s':=λa=>by
 have h1:=(se hw).2;rw[h1] at a ⊢;exact h a
theorem L6 {most:Int} {s s':aE} (hi:dQ s) (hm:most<=aw) (h:cO (fR most) N [] s=σ (l,s')):dQ s'/\(∀z∈l,1<=z/\z<=aw)/\l.length+s'.toks.length<=s.toks.length:=by
 have:=ki (f:=fR most) (λacc t=>dQ t/\(∀z∈acc,1<=z/\z<=aw)/\acc.length+t.toks.length<=s.toks.length) (λacc t a bu ⟨h1,j,r⟩ g=>by
  unfold fR at g;cases e:bh 1 most t with
  |none=>rw[e] at g;cases g
  |some q=>
   obtain⟨z,m⟩:=q;rw[e] at g;simp only[Y8,T9] at g;obtain⟨rfl,rfl⟩:=g;have w:=(hQ e).1;have y:=(dC e).1;refine⟨(h1.num e).big,λx J=>?_,?_⟩
   .rcases o7.1 J with J|J
    .exact j x J
    .rw[o8.1 J];omega
   .simp only[o4,S9];show acc.length+1+m.toks.length<=_;omega) N [] s l s' ⟨hi,λz p=>(by cases p),Ξ⟩ h
 exact this.1
theorem L7 {s0:aE} {name:Λ} {n most cnt:Int} {so6:Option aE}
  (h1:∀q,dN s0=σ q->name=q.1)
  (m:∀q,bb 1 aw (((dN s0).map (·.2)).map (bd (decide (64<(name.length:Int)))))=σ q->n=q.1)
  (j:∀q,bb 1 aw (((bb 1 aw (((dN s0).map (·.2)).map (bd (decide (64<(name.length:Int)))))).map (·.2)).map (bd (decide (64<n))))=σ q->most=q.1)
  (h:∀q,bb 0 aw ((bb 1 aw (((bb 1 aw (((dN s0).map (·.2)).map (bd (decide (64<(name.length:Int)))))).map (·.2)).map (bd (decide (64<n))))).map (·.2))=σ q->cnt=q.1)
  (f:∀q,bb 1 aw (((bb 0 aw ((bb 1 aw (((bb 1 aw (((dN s0).map (·.2)).map (bd (decide (64<(name.length:Int)))))).map (·.2)).map (bd (decide (64<n))))).map (·.2))).map (·.2)).map (bd (decide (256<cnt))))=σ q->k=q.1)
  (e:∀q,fi (fR most) n.toNat [] (((bb 1 aw (((bb 0 aw ((bb 1 aw (((bb 1 aw (((dN s0).map (·.2)).map (bd (decide (64<(name.length:Int)))))).map (·.2)).map (bd (decide (64<n))))).map (·.2))).map (·.2)).map (bd (decide (256<cnt))))).map (·.2)).map (bd (decide (2147483648<k))))=σ q->so6=σ q.2/\sizes=q.1)
  (a:fi (fR most) n.toNat [] (((bb 1 aw (((bb 0 aw ((bb 1 aw (((bb 1 aw (((dN s0).map (·.2)).map (bd (decide (64<(name.length:Int)))))).map (·.2)).map (bd (decide (64<n))))).map (·.2))).map (·.2)).map (bd (decide (256<cnt))))).map (·.2)).map (bd (decide (2147483648<k))))=ν->so6=ν):
  hN s0=(fi (λ_ s=>c6 sizes s) cnt.toNat [] so6).map λq=>((⟨name,k,sizes,q.1⟩:b2),q.2):=by
 unfold hN;cases y:dN s0 with
 |none=>
  rw[y] at a;rw[a rfl];rfl
 |some J=>
 obtain⟨Y,K⟩:=J;rw[y] at h1 m j h f e a;have:=h1 _ rfl;subst this;have L:decide (64<(name.length:Int))=decide (64<name.length):=by rw[V6,decide_eq_true_eq,decide_eq_true_eq];omega
 rw[L] at m j h f e a;simp only[Z3] at m j h f e a ⊢;generalize bd (decide (64<name.length)) K=r at*;cases z:bh 1 aw r with
 |none=>
  rw[show bb 1 aw (σ r)=ν from z] at a;rw[a rfl];rfl
 |some M=>
 obtain⟨N,A⟩:=M;rw[show bb 1 aw (σ r)=σ (N,A) from z] at m j h f e a;have:=m _ rfl;subst this;simp only[Z3] at j h f e a ⊢;generalize bd (decide (64<n)) A=w at*;cases B:bh 1 aw w with
 |none=>
  rw[show bb 1 aw (σ w)=ν from B] at a;rw[a rfl];rfl
 |some O=>
 obtain⟨P,p⟩:=O;rw[show bb 1 aw (σ w)=σ (P,p) from B] at j h f e a;have:=j _ rfl;subst this;simp only[Z3] at h f e a ⊢;cases C:bh 0 aw p with
 |none=>
  rw[show bb 0 aw (σ p)=ν from C] at a;rw[a rfl];rfl
 |some Q=>
 obtain⟨R,E⟩:=Q;rw[show bb 0 aw (σ p)=σ (R,E) from C] at h f e a;have:=h _ rfl;subst this;simp only[Z3] at f e a ⊢;generalize bd (decide (256<cnt)) E=x at*;cases F:bh 1 aw x with
 |none=>
  rw[show bb 1 aw (σ x)=ν from F] at a;rw[a rfl];rfl
 |some S=>
 obtain⟨T,G⟩:=S;rw[show bb 1 aw (σ x)=σ (T,G) from F] at f e a;have:=f _ rfl;subst this;simp only[Z3] at e a ⊢;generalize bd (decide (2147483648<k)) G=V at*;cases H:cO (fR most) n.toNat [] V with
 |none=>
  rw[a H];rfl
 |some W=>
 obtain⟨Z,I⟩:=W;obtain⟨U,X⟩:=e _ H;subst X;rw[U];simp only;show _=V5 _ (cO (λ_ s=>c6 sizes s) cnt.toNat [] I);cases cO (λ_ s=>c6 sizes s) cnt.toNat [] I<;>rfl
theorem L8 {f:b2} (af:e6 N f) (h:N<=60000):∀x∈f.funs,sM f.k x:=λx J=>by
 obtain⟨h1,e,j⟩:=af.funs x J;refine⟨af.k,⟨?_,λz a=>?_⟩,h1.other,h1.lines,by have:=h1.len;omega,Ω⟩
 .rw[h1.sizes,u7];exact e
 .rw[h1.sizes] at a;obtain⟨v,ad,rfl⟩:=l9.1 a;have:=h1.scope.2 v ad;refine af.sizes.2.2 _ ?_;rw[v8,x6 Ω];exact R8 _
theorem L9 {p:x1} {pl:Λ} (M:aF .u8 w p pl) (aJ:Bytes pl) (bL:pl.length<=60000) (ac:ej w):am x7 FZ [p] w (Cm w (gi pl)):=by
 have aK:1<w.heap.size:=by
  have:=ac 0 (.int .u64 1) rfl;obtain⟨c,e,f,aL,_⟩:=uN this;exact (n9.1 aL).1
 have bM:aw=4611686018427387904:=rfl;refine az func26 ?_;rw[aW cN.u M,bU,al];refine⟨λh=>Ω,λ_=>?_⟩;refine (As M aJ Ω).mono ?_;rintro _ V _ ⟨ad,gs,rfl,bN,aM,O⟩;rw[dn (cs:=#[Γ gs,Δ 0,Δ 0,Δ 0,Δ 0,Δ 0,.slice ν 0 0]) Ψ];refine be λg aa bP P ae=>?_;have bQ:=ad.size;have bR:=P.size;have aN:=ae.lt;have bS:gs<V.heap.size:=O.2.2.2.1.lt;have bT:=pV _ pl (p8 _);let s0:aE:=⟨(lex pl).1,0,false,[]⟩;let B0:ak:=λr=>r<V.heap.size;have aO:df aa g gs bz B0 s0 (lex pl).2:=by
  refine⟨⟨Ω,λh=>h,λh=>h,λr j=>?_,λr j=>by have j:r<V.heap.size:=j;omega⟩,⟨aM,pl,0,O.ext P,λr j=>?_,by rw[List.drop_zero]⟩,⟨by show (0:Int)<=0;omega,by show (0:Int)<=aw;omega,by show (([]:List (Λ×List (Λ×Int))).length+(lex pl).1.length<=100000);simp;omega⟩,0,0,0,0,.slice ν 0 0,ae,⟨by simp[s0],λ_=>rfl⟩,gE (α:=iB)⟩
  .rcases j with rfl|rfl|j
   .exact aN
   .omega
   .exact j.elim
  .obtain⟨_,_,_,I,bn,hm⟩:=O;have E:=bO hm j;have G:=b7 hm I Φ j;exact⟨λA=>by
    rcases A with A|A|A
    .omega
    .exact G A
    .exact A,by show r<V.heap.size;omega⟩
 have Q:∀r,bC g gs bz r->w.heap.size<=r:=λr j=>by
  rcases j with rfl|rfl|j
  .omega
  .omega
  .exact j.elim
 refine (Bb aO).mono ?_;rintro _ bV _ ⟨y,name,bW,rfl,bX,bY,aP⟩;obtain⟨aQ,aR⟩:=fS.of y;rw[bo,bp,ns cZ.u,bU];refine (qp aR).mono ?_;rintro _ bZ _ y;obtain⟨aT,aU⟩:=y.of;refine (lO (lo:=1) (hi:=aw) aU).mono ?_;rintro _ b0 _ ⟨y,n,b1,rfl,af,aV⟩;obtain⟨aX,aY⟩:=y.of;rw[bo,bp,bU];refine (qp aY).mono ?_;rintro _ b3 _ y;obtain⟨aZ,a1⟩:=y.of;refine (lO (lo:=1) (hi:=aw) a1).mono ?_;rintro _ b4 _ ⟨y,most,b5,rfl,ag,a2⟩;obtain⟨a6,a7⟩:=y.of;rw[bo,bp];refine (lO (lo:=0) (hi:=aw) a7).mono ?_;rintro _ b6 _ ⟨y,cnt,b8,rfl,ai,a8⟩;obtain⟨ba,bc⟩:=y.of;rw[bo,bp,bU];refine (qp bc).mono ?_;rintro _ b9 _ y;obtain⟨bf,bg⟩:=y.of;refine (lO (lo:=1) (hi:=aw) bg).mono ?_;rintro _ ca _ ⟨y,k,cb,rfl,hk,cc⟩;obtain⟨bh,bi⟩:=y.of;rw[bo,bp,bU];refine (qp bi).mono ?_;rintro _ aj _ y;obtain⟨bj,R⟩:=y.of;have an:ah (bC g gs bz) aa aj:=(((((((aQ.trans aT).trans aX).trans aZ).trans a6).trans ba).trans bf).trans bh).trans bj;have S:∀ {lo:Int} {o:Option aE} {x:Int},0<=lo->lo<=1->(∀q,bb lo aw o=σ q->x=q.1)->(bb lo aw o=ν->x=0)->0<=x/\x<=aw:=λ{lo o x} cd h1 U bk=>by
  cases a:bb lo aw o with
  |none=>rw[bk a];omega
  |some q=>
   have E:=mv (n:=q.1) (s':=q.2) a;rw[U q a];omega
 have ce:=S Ω Ω af aV;have cg:=S Ω Ω ai a8;have ch:=S Ω Ω ag a2;obtain⟨N,bl⟩:∃N:Nat,n=(N:Int):=⟨n.toNat,Ω⟩;obtain⟨C,bm⟩:∃C:Nat,cnt=(C:Int):=⟨cnt.toNat,Ω⟩;have bq:n.toNat=N:=Ω
 have br:cnt.toNat=C:=Ω
 have bt:dQ s0:=λ_=>by show (0:Int)<=16384;omega
 have J:∀ {o:Option aE} {b:Bool},(∀s,o=σ s->dQ s)-> ∀s,o.map (bd b)=σ s->dQ s:=λh s U=>by
  obtain⟨t,W,rfl⟩:=Y5.1 U;exact (h t W).big
 have K:∀ {o:Option aE} {lo hi:Int},(∀s,o=σ s->dQ s)-> ∀s,(bb lo hi o).map (·.2)=σ s->dQ s:=λ{o lo hi} h s U=>by
  obtain⟨q,a,rfl⟩:=Y5.1 U;cases o with
  |none=>cases a
  |some t=>exact (h t rfl).num (n:=q.1) (s':=q.2) a
 have bu:∀s,(dN s0).map (·.2)=σ s->dQ s:=λs U=>by
  obtain⟨q,a,rfl⟩:=Y5.1 U;exact bt.word (w:=q.1) (s':=q.2) a
 have ao:=J (b:=decide (2147483648<k)) (K (lo:=1) (hi:=aw) (J (b:=decide (256<cnt)) (K (lo:=0) (hi:=aw) (K (lo:=1) (hi:=aw) (J (b:=decide (64<n)) (K (lo:=1) (hi:=aw) (J (b:=decide (64<(name.length:Int))) bu)))))));have m:=λ(sizes:Λ) (so6:Option aE)=>L7 (s0:=s0) (name:=name) (sizes:=sizes) (n:=n) (most:=most) (cnt:=cnt) (k:=k) (so6:=so6) aP af ag ai hk;rw[bq] at m;generalize ci:V5 (bd (decide (2147483648<k))) (V5 (λx=>x.2) (bb 1 aw (V5 (bd (decide (256<cnt))) (V5 (λx=>x.2) (bb 0 aw (V5 (λx=>x.2) (bb 1 aw (V5 (bd (decide (64<n))) (V5 (λx=>x.2) (bb 1 aw (V5 (bd (decide (64<(name.length:Int)))) (V5 (λx=>x.2) (dN s0)))))))))))))=ap at ao R m;rw[bl];refine L0 (N:=N) (most:=most) R Ω λszv X sizes so6 gz bw aq au cj bx av ax=>?_;have m:=m sizes so6 av ax;rw[br] at m;have Y:ah (bC g gs bz) aa X:=an.trans bw;have z12:=Y.size;have ay:Ext w aa:=ad.trans P;have bA:ah (λr=>w.heap.size<=r) w X:=(ay.ab _).trans (Y.mono λr _ h=>Q r h);have ck:=aq.side;have aA:∀H,so6=σ H->dQ H/\(∀z∈sizes,1<=z/\z<=aw)/\sizes.length<=100000:=λH Z=>by
  cases a:fi (fR most) N [] ap with
  |none=>rw[ax a] at Z;cases Z
  |some q=>
   obtain⟨E,G⟩:=av q a;cases Z.symm.trans E;subst G;cases ap with
   |none=>cases a
   |some bB=>
    obtain⟨bD,bE,cl⟩:=L6 (l:=q.1) (s':=q.2) (ao bB rfl) Ω a;exact⟨bD,bE,by have:=R.words;omega⟩
 rw[bm];have aB:∀r,leads szv r->aj.heap.size<=r/\r<X.heap.size:=λr j=>by have:=bO au j;omega
 have cm:=an.size;refine L5 (w0:=w) (c:=C) (all:=sizes) aq.q (λs U=>(aA s U).1) Ω au.ls (λr j=>?_) (λL=>?_) bx ((ac.ext ay).ab Y λA=>by have:=Q 1 A;omega) ⟨aK,λ_=>⟨λA=>by have:=Q 1 A;omega,by show 1<V.heap.size;omega⟩⟩
  bA Ω Ω ⟨Ω,Ω⟩ (λ_ r h=>h.elim) λcn cp acc so aS cq cr ct aC cu bF bG bH bI aD bJ=>?_
 .have:=aB r j;exact⟨Ω,Ω,Ω,λ_ h=>h⟩
 .cases aG:so6 with
  |none=>exact absurd aG L
  |some H=>exact (aA H aG).2.1
 have cw:=aC.size;have B:gi pl=match hN s0 with
   |none=>ν
   |some (f,s)=>if s.toks=[]/\(lex pl).2=true/\s.big=false then σ f else ν:=by
  unfold gi;rw[if_neg Ω];have e:hN ⟨(lex pl).1,0,false,[]⟩=hN s0:=rfl;rw[e];cases hN s0<;>rfl
 refine LZ (w0:=w) (sizes:=sizes) (res:=gi pl) bF ⟨λs U W bK I=>?_,λL=>?_⟩ bI (λr j=>by have:=aB r j;exact⟨Ω,Ω⟩) bG bH (λ_=>trivial) Ω Ω aC Ω Ω M λv w' h=>h
 .cases a:fi (λ_ s=>c6 sizes s) C [] so6 with
  |none=>rw[bJ a] at U;cases U
  |some q=>
   obtain⟨E,G⟩:=aD q a;cases U.symm.trans E;rw[a] at m;have m:hN s0=σ ((⟨name,k,sizes,q.1⟩:b2),q.2):=m;have aH:=(A7 rfl m I).1;rw[m] at B;simp only at B;rw[if_pos ⟨W,bK,I⟩] at B;exact⟨q.1,G,B,L8 aH (by show (lex pl).1.length<=60000;omega),aH.kS,Ω⟩
 .cases a:fi (λ_ s=>c6 sizes s) C [] so6 with
  |none=>
   rw[a] at m;have m:hN s0=ν:=m;rw[m] at B;exact absurd B L
  |some q=>
   obtain⟨E,G⟩:=aD q a;rw[a] at m;have m:hN s0=σ ((⟨name,k,sizes,q.1⟩:b2),q.2):=m;rw[m] at B;simp only at B;by_cases aI:q.2.toks=[]/\(lex pl).2=true/\q.2.big=false
   .exact⟨q.2,E,aI⟩
   .rw[if_neg aI] at B;exact absurd B L
theorem vN (s t cs:Λ):∃e,oB s t cs= .tuple #[Δ (bj s cs t),Δ e]:=by
 unfold oB bj;cases ci s t 0 with
 |none=>exact⟨3,rfl⟩
 |some n=>exact⟨0,rfl⟩
theorem Ma:am x7 zl [sv] w λr w'=>Ext w w'/\ ∃g,r= .func (.func oo) #[] #[Γ g]/\w.heap.size<=g/\ag w' g an sv.cells.toList:=by
 refine az func200 ?_;refine be λg V f a e=>?_;rw[ix];exact⟨a,g,rfl,Ω,e⟩
theorem Mb {f:R3} {cap:Array x1} {y:Nat->List x1->x3->Prop} {e:x3->Prop} {L:Λ} (M:oe x7 f cap.toList n y e) (z:∀k vs w,y k vs w-> ∃x,L[k]? =σ x/\vs=[Δ x])
  (he:∀a b,ah (λr=>w.heap.size<=r) a b->e a->e b) (N:e w) (O:n=L.length) (al:L.length<=1000000):
  am x7 ID [.slice ν 0 0,.func (.func f) #[] cap] w λv w'=>Ext w w'/\ ∃g,w.heap.size<=g/\au .i64 ai w' g v L:=by
 refine h2 func264 ?_;refine be λgs V ao A j=>?_;have j:ag V gs an [.slice ν 0 0]:=j;have ap:=j.lt;have B:∀ {a b:x3},Ext a b->e a->e b:=λJ=>he _ _ (J.ab _);refine kF.old ⟨Nat,false,f,cap,0,_,_,e,λk w'=>ah (λr=>w.heap.size<=r) w w'/\ ∃v g,gs<g/\ag w' gs an [v]/\au .i64 ai w' g v (L.take k),λ_ _ _=>False,rfl,M.s,?_,λ_ _ J h=>B J h,
  λ_ _ _ J h=>⟨h.1.trans (J.ab _),by obtain⟨v,g,h1,P,Q⟩:=h.2;exact⟨v,g,h1,P.ext J,Q.ext J⟩⟩,λ_ _ _ _ _ h=>h,B A N,⟨A.ab _,_,gs+1,Ω,j,au.nil _ _ _ _⟩,?_,?_,λ_ _ h=>h.elim,λ_ _ _ h=>h.elim⟩
 .rintro k vs aq w' ⟨_,_,h⟩;obtain⟨x,_,rfl⟩:=z k vs w' h;rfl
 .rintro a k _ aa hR ⟨hk,rfl,S⟩ ⟨U,v,g,W,C,ad⟩;obtain⟨x,J,X⟩:=z k _ aa S;cases X;intro av m _ _;have E:=C.ext m;rw[ay Ψ (E.Qz rfl)];refine ew an.u ai.i rfl λa ga aw ax p Y=>?_;have az:(L.take k).length<=1000000:=Θ
  refine iZ an.u ai.i rfl ((ad.ext m).ext p) Y.ls (by simp only[c9,List.length_nil];omega) (by simp only[c9,List.length_nil];omega) λZ ac aA aB q G=>?_;have aC:=C.lt;have aD:=m.size;have aE:=p.size;refine bq an.i q.ls.cells.1 q.ls.cells.2 (((E.ext p).ab G Ω)) Ξ λae H aF af=>?_;have I:ah (λr=>w.heap.size<=r) aa ae:=(((m.trans p).ab _).trans (G.mono λr _ h=>by show w.heap.size<=r;omega)).trans (H.mono λr _ h=>by show w.heap.size<=r;omega);refine⟨he _ _ I hR,⟨U.trans I,Z,ac,Ω,af,?_⟩,λh=>by cases h⟩;rw[u9,J];exact q.ab H (λ_=>Ω)
 .rintro k aG hk ⟨aj,v,g,W,ak,ad⟩;have hk:k=n:=hk;subst hk;rw[ay Ψ (ak.Qz rfl)];intro aH K _;rw[O,p9] at ad;exact⟨(aj.ext λr aI h=>by have:w.heap.size<=r:=h;omega).trans K,g,Ω,ad.ext K⟩
theorem Mc {f:R3} {cap:Array x1} {j:Nat->List x1->x3->Prop} {e:x3->Prop} {L:Λ} (m:oe x7 f cap.toList n j e) (p:∀k vs w,j k vs w-> ∃x,L[k]? =σ x/\vs=[Δ x])
  (he:∀a b,ah (λr=>w.heap.size<=r) a b->e a->e b) (q:e w) (s:n=L.length) (y:L.length<=1000000):
  am x7 Io [.func (.func f) #[] cap] w λv w'=>Ext w w'/\ ∃g,w.heap.size<=g/\au .i64 ai w' g v L:=by
 refine az func236 ?_;exact (Mb m p he q s y).mono λ_ _ _ h=>h
theorem Md {x:Int}:am x7 cmp_Less_int [Δ x,Δ y] w λv w'=>v= .bool (decide (x<y))/\Ext w w':=by
 refine az func287 ?_;refine aV (λv V=>v= .bool (decide (x<y))/\Ext w V) (λ_ _ h=>h) λaA a=>?_;have e:∀ {z:Int} {w:x3},am x7 cmp_isNaN_int [Δ z] w λv w'=>v= .bool false/\Ext w w':=λ{z w}=>by
  refine az func212 ?_;simp only[bm];exact⟨Ξ,Ext.refl _⟩
 refine e.mono ?_;rintro _ aa _ ⟨rfl,f⟩;rw[a1];simp only[aO];exact a _ _ ⟨rfl,f⟩
theorem Me {P:W5} {t:r9} {cx cy:Bool} {k:o5} {a b:Int}:cD P (aL .sub t cx cy (.int k a) (.int k b)) (.int k (k.wrap (a-b))) w:=λw' _=>by simp[aL,eqGuard,binOp,Op.intArith]
theorem Mf {g:Nat} (h:au .i64 ai w g sv l) (ak:l.length<=1000000):
  am x7 IK [sv,Δ 0,Δ l.length] w λ_ w'=>ah (λr=>r=g) w w'/\ ∃m,m.Perm l/\m.Pairwise (·<= ·)/\au .i64 ai w' g sv m:=by
 refine az func281 ?_;simp only[aP];refine⟨λt V=>∃ (i:Nat) (m:Λ),t=Δ i/\1<=i/\(i<=l.length\/i=1)/\m.Perm l/\qb m i/\ah (λr=>r=g) w V/\au .i64 ai V g sv m,λt _=>l.length+1-(bX t).toNat,
  ⟨1,l,by congr 1,Ω,.inr rfl,.refl _,λp q x y h1 R=>Ω,ah.refl _ _,h⟩,?_⟩
 rintro _ V ⟨i,m,rfl,ao,ap,z,I,J,hm⟩;have S:=z.length_eq;simp only[aO,al];refine⟨λU=>?_,λaq=>?_⟩
 .have U:i<l.length:=Ω
  refine⟨λt aa=>∃ (j:Nat) (m:Λ),t=Δ j/\j<=i/\m.Perm l/\oN m i j/\ah (λr=>r=g) w aa/\au .i64 ai aa g sv m,λt _=>(bX t).toNat,⟨i,m,rfl,p8 _,z,JX I,J,hm⟩,?_⟩;rintro _ aa ⟨j,m,rfl,W,z,E,K,hm⟩;have S:=z.length_eq;refine aV (λv L=>Ext aa L/\ ∃c,v= .bool c/\(c=true->0<j/\ ∃a b,m[j-1]? =σ a/\m[j]? =σ b/\b<a)/\(c=false->j=0\/0<j/\ ∃a b,m[j-1]? =σ a/\m[j]? =σ b/\a<=b)) ?_ ?_
  .rintro _ L ⟨B,c,rfl,X,Y⟩;rw[ce];refine⟨λh=>?_,λh=>?_⟩
   .obtain⟨A,a,b,f,s,G⟩:=X h;intro av M _ _;have C:=(hm.ext B).ext M;have e:X2.wrap ((j:Int)-1)=((j-1:Nat):Int):=by rw[wrap_i64 Ω Ω];omega
    simp only[dF,e];rw[bc an.u ai.i Ψ C.ls f,bc an.u ai.i Ψ C.ls s,hj rfl an.u ai.i C Ω];refine hl ai.i C Ω λZ ac aw N=>⟨.inr ⟨by have:=Me (P:=x7) (w:=Z) (t:=ai) (cx:=false) (cy:=true) (k:=.i64) (a:=(j:Int)) (b:=1);rwa [e] at this,trivial⟩,?_⟩;rw[hj rfl an.u ai.i N Θ];refine hl ai.i N Θ λax ad ay ae=>?_;refine⟨⟨j-1,_,rfl,Ω,(swap_perm Ω f s).trans z,J0 E A W f s G,((K.trans ((B.trans M).ab _)).trans ac).trans ad,ae⟩,?_⟩;simp only[bX];omega
   .simp only[aP];rw[wrap_i64 Ω Ω];refine⟨⟨i+1,m,rfl,Ω,.inl Ω,z,?_,K.trans (B.ab _),hm.ext B⟩,?_⟩
    .rcases Y h with rfl|⟨A,a,b,f,s,G⟩
     .exact JY E
     .exact JZ E A f s G
    .simp only[bX];omega
  .intro aA O aB H _ _;have Q:=hm.ext H;simp only[bU,al];refine⟨λA=>?_,λA=>O _ _ ⟨H,false,rfl,(λh=>by cases h),λ_=>.inl Ω⟩⟩;have e:X2.wrap ((j:Int)-1)=((j-1:Nat):Int):=by rw[wrap_i64 Ω Ω];omega
   obtain⟨b,s⟩:=aH (l:=m) (i:=j) Ω;obtain⟨a,f⟩:=aH (l:=m) (i:=j-1) Ω;rw[bc an.u ai.i Ψ Q.ls s];simp only[dF,e];rw[bc an.u ai.i Ψ Q.ls f];refine Md.mono ?_;rintro _ aC _ ⟨rfl,af⟩;refine O _ _ ⟨H.trans af,_,rfl,λh=>⟨Ω,a,b,f,s,by simpa using h⟩,λh=>.inr ⟨Ω,a,b,f,s,by simpa using h⟩⟩
 .refine⟨J,m,z,J1 λp q x y h1 R ag aj=>I p q x y h1 Ω ag aj,hm⟩
theorem Mg {P:W5} {t:r9} {k:o5} {s:ByteArray} {i:Nat} {K:x1->Prop} (a:P.underlying t=σ .string) (hi:i<s.size) (e:∀b:Nat,b<256->K (.int .u8 b)):
  ac P (Instr.index t (.string s) (.int k (i:Int))) w K:=by
 have f:s[i]? =σ s[i]:=by simp[hi]
 have:ac P (Instr.index t (.string s) (.int k (i:Int))) w K=K (.int .u8 s[i].toNat):=ac.of λw' _=>by
  simp[Instr.index,asIntOf,run_underlying a,hi]
 rw[this];exact e _ (UInt8.toNat_lt _)
theorem Mh (a:n<256):am x7 H8 [.int .u64 (n:Int)] w λv w'=>(∃r,v=Δ r)/\Ext w w':=by
 refine az func211 ?_;refine am.mono (K:=λv w'=>(∃r,v=Δ r)/\Ext w w') ?_ (λ_ _ _ h=>h);refine az func253 ?_;simp only[cv,cP,al];refine⟨λh=>Ω,λ_=>⟨λh=>Ω,λ_=>⟨λh=>Ω,λ_=>?_⟩⟩⟩;rw[fd fu.u cJ.u,wrap_u8 Ω Ω];refine Mg cZ.u (by exact R6 a Φ) λb e=>?_;rw[fd cJ.u ai.u];simp only[aP];exact⟨⟨_,rfl⟩,Ext.refl _⟩
theorem Mi {g:Nat} (h:au .i64 ai w g sv l) (f:l.length<=12):
  am x7 Ip [sv] w λ_ w'=>ah (λr=>r=g) w w'/\ ∃m,m.Perm l/\m.Pairwise (·<= ·)/\au .i64 ai w' g sv m:=by
 refine az func237 ?_;rw[aW an.u h.ls,fd ai.u ov.u,wrap_u64 Ω Ω];refine (Mh (n:=l.length) Ω).mono ?_;rintro _ V _ ⟨⟨r,rfl⟩,e⟩;refine am.mono (K:=λ_ w'=>ah (λr=>r=g) V w'/\ ∃m,m.Perm l/\m.Pairwise (·<= ·)/\au .i64 ai w' g sv m) ?_ (λ_ _ _ h=>⟨(e.ab _).trans h.1,h.2⟩);refine az func265 ?_;refine⟨λa b _ _ _ aa=>a=Δ 0/\b=Δ l.length/\V=aa,λ_ _ _ _ _ _=>0,⟨rfl,rfl,rfl⟩,?_⟩;rintro _ _ _ _ _ _ ⟨rfl,rfl,rfl⟩;simp only[dF,md,al];rw[wrap_i64 Ω Ω];refine⟨λ_=>?_,λh=>Ω⟩;refine (Mf (h.ext e) Ω).mono ?_;exact λ_ _ _ h=>h
theorem Mj {f:R3} {cap:Array x1} {j:Nat->List x1->x3->Prop} {e:x3->Prop} {L:Λ} (p:oe x7 f cap.toList n j e) (q:∀k vs w,j k vs w-> ∃x,L[k]? =σ x/\vs=[Δ x])
  (he:∀a b,ah (λr=>w.heap.size<=r) a b->e a->e b) (s:e w) (y:n=L.length) (z:L.length<=12):
  am x7 zk [.func (.func f) #[] cap] w λv w'=>Ext w w'/\ ∃g m,w.heap.size<=g/\m.Perm L/\m.Pairwise (·<= ·)/\au .i64 ai w' g v m:=by
 refine az func199 ?_;refine (Mc p q he s y Ω).mono ?_;rintro v V _ ⟨A,g,B,ad⟩;refine (Mi ad z).mono ?_;rintro _ aa _ ⟨C,m,h1,E,G⟩;exact⟨A.then C (by rintro r H rfl;omega),g,m,B,h1,E,G⟩
theorem Co {x:Int} (h:aF .i64 w sv l):
  am x7 uA [sv,Δ x] w λv w'=>Ext w w'/\ ∃r:Int,v=Δ r/\ ∀i:Nat,l[i]? =σ x->(r=i↔ ∀j,j<i->l[j]? ≠σ x):=by
 refine az func58 ?_;rw[aW an.u h];refine bZ.range l.length (λi _ V=>Ext w V/\ ∀j,j<i->l[j]? ≠σ x) h.le ⟨Ext.refl _,λj m=>Ω⟩ ?_ ?_
 .rintro i _ V k hi ⟨a,e⟩ hk;simp only[aO,al];refine⟨λ_=>?_,λh=>Ω⟩;obtain⟨y,f⟩:=aH (l:=l) hi;rw[bc an.u ai.i Ψ (h.ext a) f];simp only[bg,al,aP];refine⟨λhe=>⟨a,i,rfl,λq p=>?_⟩,λhe=>hk _ _ ⟨a,λj m=>?_⟩⟩
  .subst he;refine⟨λA=>by
              have:i=q:=Ω
              subst this;exact e,λs=>?_⟩
   rcases Nat.lt_trichotomy i q with h1|h1|h1
   .exact absurd f (s i h1)
   .omega
   .exact absurd p (e q h1)
  .by_cases z:j=i
   .subst z;rw[f];intro h;exact he (b6 h).symm
   .exact e j Ω
 .rintro _ V k ⟨a,e⟩;simp only[aO,al];refine⟨λh=>Ω,λ_=>⟨a,-1,rfl,λi hi=>?_⟩⟩;exact absurd hi (e i (x4.1 hi).1)
theorem Mk {g:Nat} {w0:x3} (j:ag w0 g an [sv]) (a:aF .i64 w0 sv l):
  oe x7 oo [Γ g] l.length (λk vs _=>∃x,l[k]? =σ x/\vs=[Δ x]) (λw=>Ext w0 w):=by
 refine⟨oo.enters,λy aA z w A _ m J p=>?_⟩;refine pM func238 ?_;rw[ay Ψ ((j.ext J).Qz rfl),aW an.u (a.ext J)];refine cz.range l.length (λi aa=>aA i aa/\Ext w0 aa) a.le ⟨p,J⟩ ?_ ?_
 .rintro i aa k hi ⟨e,f⟩ hk;simp only[aO,al];refine⟨λ_=>?_,λh=>Ω⟩;obtain⟨x,J⟩:=aH (l:=l) hi;rw[bc an.u ai.i Ψ (a.ext f) J];refine⟨rfl,(m i _ aa hi f ⟨x,J,rfl⟩ e).mono ?_⟩;rintro _ B (⟨rfl,q,r⟩|⟨rfl,s⟩)
  .simp only[bG,Y6,a1,aP];exact hk _ ⟨r.1,q⟩
  .simp only[bG,X9,bQ];exact .inr ⟨i,hi,s⟩
 .rintro aa k ⟨e,_⟩;simp only[aO,al];exact⟨λh=>Ω,λ_=>.inl e⟩
theorem vO (h:aF .i64 w sv l) (j:l.length<=12)
  (p:∀v w' g m,Ext w w'->w.heap.size<=g->m.Perm l->m.Pairwise (·<= ·)->au .i64 ai w' g v m->K v w'):
  am x7 zl [sv] w λt V=>am x7 zk [t] V K:=by
 refine Ma.mono ?_;rintro _ V _ ⟨f,g,rfl,A,e⟩;have e:ag V g an [sv]:=by rw[h.cells.1] at e;exact e
 refine (Mj (Mk e (h.ext f)) (λ_ _ _ h=>h) (λa b q J=>J.then q (λr B h=>Ω)) (Ext.refl _) rfl j).mono ?_;rintro v aa _ ⟨s,x,m,C,h1,y,z⟩;have:=f.size;exact p v aa x m (f.trans s) Ω h1 y z
def Ml (w:x3) (aj:Λ) (k:Int) (cs a:Λ) (v:x1) (w':x3):Prop:=
 Ext w w'/\
  (¬Good a aj.length->v= .tuple #[.pointer ν,Δ 1])/\
  (Good a aj.length-> ∃e f h,v= .tuple #[Γ e,Δ 0]/\dd w' e f h (ei aj a) k (nw aj cs a))
theorem Mm {g bI:Nat} {Y:x1} {cs z:Λ} (h:dd w g bI sv aj k cs) (hk:right k) (P:aF .i64 w Y z) (cq:z.length<=12) (cr:Good z aj.length->aN (ei aj z)<=4096):
  am x7 H0 [Γ g,Y] w (Ml w aj k cs z):=by
 have aC:=h;have ct:=h.2.2.1;have cu:=P.cells;refine h2 func201 ?_;refine be λg1 V df bJ B=>?_;refine be λbK aa dg a7 A=>?_;have dh:=bJ.size;have di:=a7.size;have dj:=B.lt;have dk:=A.lt;have a8:=bJ.trans a7;have B:ag aa g1 eP [Γ g]:=B.ext a7;have A:ag aa bK an [Y]:=by rw[cu.1] at A;exact A
 rw[ay Ψ (B.Qz rfl),db eP.u];simp only[Z4,a1];rw[ay Ψ (A.Qz rfl)];have cw:=P.ext a8;have sub:∀ {w:x3} {g:Nat} {sv:x1} {k:Int} {a6:x1},ag w g cW [sv,Δ k,a6]->w.rangeAt g (0+0) [sv]:=λK=>nq K (by
  intro j v ad
  match j,ad with
  |0,ad=>exact ad)
 refine vO cw cq λdH cA de m bL dl ba cB hm=>?_;have cC:=ba.length_eq;rw[aW an.u hm.ls];have cD:=a8.trans bL;refine jZ.range m.length (λi _ _ bb=>Ext cA bb/\ ∀j,j<i->m[j]? =σ (j:Int)) Ω ⟨Ext.refl _,λj bd=>Ω⟩ ?_ ?_
 .rintro i _ _ bb Z hi ⟨ac,bf⟩ ae;simp only[aO,al];refine⟨λ_=>?_,λh=>Ω⟩;obtain⟨y,af⟩:=aH (l:=m) hi;rw[bc an.u ai.i Ψ (hm.ls.ext ac) af];simp only[bm,al,aP];refine⟨λak dm cE _=>⟨(cD.trans ac).trans cE,λ_=>rfl,λbg=>?_⟩,λhe=>ae _ _ _ ⟨ac,λj bd=>?_⟩⟩
  .have:=AQ bg ba cB i hi;rw[af] at this;exact absurd (b6 this).symm ak
  .by_cases cF:j=i
   .subst cF;rw[af];congr 1;omega
   .exact bf j Ω
 .rintro _ _ bb Z ⟨ac,bf⟩;simp only[aO,al,er];refine⟨λh=>Ω,λ_ dn cG _ _=>?_⟩;have C:Good z m.length:=J2 bf ba;have ao:=(bL.trans ac).trans cG;have aD:=a8.trans ao;have B:=B.ext ao;have A:=A.ext ao;have cH:=P.ext aD;have cI:=aC.ext aD;have dp:=ao.size;obtain⟨⟨a6,gs,K,aE,bM⟩,_⟩:=id cI;rw[ay Ψ (A.Qz rfl),aW an.u cH,ay Ψ (B.Qz rfl),bV,aU cW.p rfl,bR (cs:=[sv]) bA.p bA.i rfl (sub K)];refine (Bg aE.ls).mono ?_;rintro _ aG _ ⟨rfl,L⟩;refine⟨.inl L,?_⟩;simp only[bm,al];refine⟨λak dq cJ _=>⟨(aD.trans L).trans cJ,λ_=>rfl,λbg=>absurd (by rw[bg.1]) ak⟩,λdr=>?_⟩;have bh:z.length=aj.length:=Ω
  have C:Good z aj.length:=by rw[<-bh,<-cC];exact C
  have ds:=ao.trans L;have bi:=aD.trans L;have B:=B.ext L;have A:=A.ext L;have bN:=P.ext bi;rw[ay Ψ (A.Qz rfl),aW an.u bN];refine jx an.u ai.i Ω Ω λgz bO dt Q bP=>?_;have cK:au .i64 ai bO gz (.slice (σ ⟨gz,0,ν⟩) z.length z.length) (r8 z.length 0):=au.of (n:=z.length) (bW.full bP Ξ (by simp[maxLen];omega));generalize (x1.slice (σ ⟨gz,0,ν⟩) z.length z.length)=cL at*;have du:=L.size;have dv:=Q.size;have dw:=bP.lt;rw[ay Ψ ((A.ext Q).Qz rfl),aW an.u (bN.ext Q)];have bQ:=bi.trans Q;have aJ:(ei aj z).length=z.length:=sb _ _;refine cz.range z.length (λi G=>ah (λr=>r=gz) bO G/\au .i64 ai G gz cL (upto (ei aj z) 0 i)) Ω ⟨ah.refl _ _,by rw[p5,aJ];exact cK⟩ ?_ ?_
  .rintro i G Z hi ⟨M,aK⟩ ae;simp only[aO,al];refine⟨λ_=>?_,λh=>Ω⟩;have aq:Ext w G:=bQ.then M (by rintro r O rfl;omega);have aL:Ext aG G:=Q.then M (by rintro r O rfl;omega);obtain⟨p,bk⟩:=aH (l:=z) hi;obtain⟨⟨a6,gs,K,aE,bM⟩,_⟩:=aC.ext aq;rw[bc an.u ai.i Ψ (P.ext aq) bk,ay Ψ ((B.ext aL).Qz rfl),bV,aU cW.p rfl,bR (cs:=[sv]) bA.p bA.i rfl (sub K)];refine (qf aE.ls).mono ?_;rintro _ dx _ ⟨rfl,bS⟩;have bT:=aK.ext bS;have cM:(upto (ei aj z) 0 i).length=z.length:=by rw[p4,aJ]
   rw[hj rfl an.u ai.i bT Ω];refine hl ai.i bT Ω λdy cN _ bU=>?_;simp only[aP];have h1:=(C.2 i p bk).1;have av:(ei aj z)[i]? =σ (hS aj p):=by
    unfold ei hS;rw[x8,bk,if_pos h1.1];rfl
   rw[p7 av] at bU;exact ae _ ⟨(M.trans (bS.ab _)).trans cN,bU⟩
  .rintro G Z ⟨M,aK⟩;simp only[aO,al];refine⟨λh=>Ω,λ_=>?_⟩;have aq:Ext w G:=bQ.then M (by rintro r O rfl;omega);have aL:Ext aG G:=Q.then M (by rintro r O rfl;omega);rw[<-aJ,p6] at aK;obtain⟨⟨a6,gs,K,aE,bM⟩,_⟩:=aC.ext aq;rw[ay Ψ ((B.ext aL).Qz rfl),aQ cW.p 1 K rfl];have aM:b1 (ei aj z):=ct.J4 C rfl;have bX:=cr C;have dz:=prod_bound aM;refine (uX aK.ls).mono ?_;rintro _ bl _ ⟨bY,_,_,_,cO⟩;obtain⟨aw,H,R,rfl,dA,dC,dD,aR⟩:=cO aM bX ⟨hk,Ω,by have:=hk.1;omega⟩;obtain⟨N,aS⟩:∃N:Nat,(aN (ei aj z)).toNat=N:=⟨_,rfl⟩;rw[aS] at aR;rw[bo,bp];refine bD eP.i λbZ dE dF b0 az=>?_;refine bq eP.i rfl rfl az (by simp[x1.cells]) λcP cQ dG az=>?_;have dI:=M.size;have dJ:=bY.size;have dK:=b0.size;have bn:Ext bl cP:=b0.then cQ (by rintro r O rfl;omega);have b2:=bY.trans bn;have cR:=aR.ext bn;have dL:=az.lt;obtain⟨⟨bt,b3,b4,b5,cT⟩,⟨b7,b8,_⟩,_,dM⟩:=id cR;have dN:0<N:=Ω
   have dO:aw<bl.heap.size:=by obtain⟨⟨_,_,q,_⟩,_⟩:=id aR;exact q.lt
   have dP:H<bl.heap.size:=by obtain⟨⟨_,_,_,_,q⟩,_⟩:=id aR;exact sJ q Θ
   rw[ay Ψ (az.Qz rfl),bV,aU cW.p rfl,bR (cs:=[R]) bA.p bA.i rfl (sub b4)];refine vt.mono ?_;rintro _ E _ ⟨I,aT,rfl,dQ,b9⟩;have dR:=bn.size;have dS:=I.size;let S:Nat->Prop:=λr=>r=H;let U:=nw aj cs z;have bu:U.length=N:=by simp only[U];rw[AW,aS]
   let cU:x3->Prop:=λw'=>ag w' g1 eP [Γ g]/\ag w' bK an [Y]/\ag w' bZ eP [Γ aw]/\ag w' aw cW [R,Δ k,bt]/\
    dd w' g bI sv aj k cs/\aF .i64 w' Y z/\au .i64 ai w' b3 R (ei aj z)/\ag w' aT bA [R]/\E.heap.size<=w'.heap.size
   have W:∀ {a:x3},ah S E a->cU a:=by
    intro a J;have bw:Ext aG E:=(aL.trans b2).trans I;have bx:Ext aG a:=bw.put J Ω;have ca:Ext w a:=bi.trans bx;refine⟨B.ext bx,A.ext bx,(az.ext I).ab J (by show ¬(bZ=H);omega),(b4.ext I).ab J (by show ¬(aw=H);exact b7),aC.ext ca,P.ext ca,br (b5.ext I) J (λr O he=>b8 ((show r=H from he)▸O)),
     b9.ab J (by show ¬(aT=H);omega),J.size⟩
   have cb:=vr (g:=aT) (B0:=E.heap.size) (sv:=R) aM;rw[aS] at cb;refine og.old ⟨Nat,false,lA,#[Γ aT],0,_,_,_,λq w'=>ah S E w'/\au .i64 ap w' H bt (upto U 0 q),λ_ _ _=>False,rfl,cb.s,
    ?_,λ_ _ J h=>⟨h.1.ext J,h.2.1.ext J,Y9 h.2.2 J.size⟩,λ_ _ _ J h=>⟨h.1.trans (J.ab S),h.2.ext J⟩,λ_ _ _ _ _ h=>h,⟨b9,(b5.ext I).ls,p8 _⟩,⟨ah.refl _ _,?_⟩,?_,?_,λ_ _ h=>h.elim,λ_ _ _ h=>h.elim⟩
   .rintro _ _ _ _ ⟨_,_,_,_,rfl,_⟩;rfl
   .rw[p5,bu];exact cT.ext I
   .rintro _ aI q _ dT ⟨_,_,dU⟩ ⟨av,rfl,dV,gt,cV,dW,cX⟩ ⟨aV,cY⟩;cases cV;let x:=cS (ei aj z) (q:Int);have cc:x.length=z.length:=by simp only[x];rw[jb,aJ]
    intro cZ X _ _;have cd:=cX.ext X;rw[aW an.u cd.ls];refine jx an.u ai.i (by rw[jb];omega) (by rw[jb];omega) λgo ce dX bz cg=>?_;have c0:au .i64 ai ce go (.slice (σ ⟨go,0,ν⟩) (cS (ei aj z) (q:Int)).length (cS (ei aj z) (q:Int)).length) (r8 (cS (ei aj z) (q:Int)).length 0):=au.of (n:=(cS (ei aj z) (q:Int)).length) (bW.full cg Ξ (by rw[jb];simp[maxLen];omega));generalize (x1.slice (σ ⟨go,0,ν⟩) (cS (ei aj z) (q:Int)).length (cS (ei aj z) (q:Int)).length)=c1 at*;have dY:=aV.size;have dZ:=X.size;have ea:=bz.size;have lo:=cg.lt;have c2:ah S E ce:=aV.trans ((X.trans bz).ab S);have f:=W c2;rw[ay Ψ (f.2.1.Qz rfl),aW an.u f.2.2.2.2.2.1];refine cz.range z.length (λj aX=>Ext cZ aX/\ ∃y:Λ,y.length=z.length/\au .i64 ai aX go c1 y/\ ∀ (i:Nat) (p:Int),i<j->z[i]? =σ p->y[p.toNat]? =x[i]?) Ω
     ⟨bz,_,by simp[cc,x],c0,λi p hi=>Ω⟩ ?_ ?_
    .rintro j aX Z bd ⟨aA,y,bB,aY,bC⟩ ae;simp only[aO,al];refine⟨λ_=>?_,λh=>Ω⟩;have f:=W (aV.trans ((X.trans aA).ab S));obtain⟨p,aZ⟩:=aH (l:=z) bd;obtain⟨u,hu⟩:=aH (l:=x) (i:=j) Ω;have eb:=(C.2 j p aZ).1;rw[bc an.u ai.i Ψ f.2.2.2.2.2.1 aZ,bc an.u ai.i Ψ (cd.ext aA).ls hu,hj (i:=p.toNat) Ω an.u ai.i aY Ω];refine hl ai.i aY Ω λec c3 ed c4=>?_;simp only[aP];refine ae _ ⟨aA.then c3 (by rintro r O rfl;omega),_,by simpa using bB,c4,λi a2 hi aB=>?_⟩;by_cases ch:i=j
     .subst ch;rw[aZ] at aB;cases aB;rw[c7 Ω,hu]
     .have ee:=(C.2 i a2 aB).1;have ak:p.toNat≠a2.toNat:=λhe=>by
       have:p=a2:=Ω
       subst this;exact ch (C.inj aB aZ)
      rw[Y0 ak];exact bC i a2 Ω aB
    .rintro aX Z ⟨aA,y,bB,aY,bC⟩;simp only[aO,al];refine⟨λh=>Ω,λ_ c5 ci _ _=>?_⟩;have af:y=lN z x:=AU C (by rw[cc,bh]) (by rw[bB,bh]) λi p cj=>bC i p (x4.1 cj).1 cj;have ck:=aA.trans ci;have cl:ah S E c5:=aV.trans ((X.trans ck).ab S);obtain⟨f1,f2,f3,f4,f5,f6,f7,f8,f9⟩:=W cl;rw[ay Ψ (f3.Qz rfl),aQ cW.p 2 f4 rfl,ay Ψ (f1.Qz rfl)];refine (uY f5 (aY.ls.ext ci)).mono ?_;rintro _ ef _ ⟨rfl,bE⟩;refine⟨.inl bE,?_⟩;obtain⟨e,he⟩:=vN aj y cs;rw[he,bo,bp];have c6:=cl.trans (bE.ab S);have cm:=(cY.ext ((X.trans ck).trans bE));have cM:(upto U 0 q).length=N:=by rw[p4,bu]
     rw[hj rfl ax.u ap.i cm Ω];refine hl ap.i cm Ω λc8 c9 eg cn=>?_;have cp:ah S E c8:=c6.trans (c9.mono λr _ h=>h);obtain⟨f1,f2,f3,f4,f5,f6,f7,f8,f9⟩:=W cp;have da:U[q]? =σ (bj aj cs y):=by
      simp only[U,nw];rw[x8,List.getElem?_range (by rw[aS];exact av),af];rfl
     rw[p7 da] at cn;exact⟨⟨f8,f7.ls,f9⟩,⟨cp,cn⟩,λh=>by cases h⟩
   .rintro q eh av ⟨bF,bG⟩;rw[show q=N from av] at bG;have f:=W bF;rw[ay Ψ (f.2.2.1.Qz rfl)];intro ej bH _;obtain⟨f1,f2,f3,f4,f5,f6,f7,f8,f9⟩:=W (bF.trans (bH.ab S));rw[<-bu,p6] at bG;have bw:Ext w E:=(aq.trans b2).trans I;refine⟨(bw.put bF Ω).trans bH,λdc=>absurd C dc,λ_=>⟨aw,H,R,rfl,⟨bt,b3,f4,f7,bG.ext bH⟩,⟨b7,b8,bX⟩,aM,AW _ _ _⟩⟩
def gH (l:Λ):Prop:=∀ (i j:Nat) (x y:Int),i<j->l[i]? =σ x->l[j]? =σ y->x<y
theorem gH.inj (h:gH l) {i:Nat} {x:Int} (hi:l[i]? =σ x) (a:l[j]? =σ x):i=j:=by
 rcases Nat.lt_trichotomy i j with h1|h1|h1
 .have:=h i j x x h1 hi a;omega
 .exact h1
 .have:=h j i x x h1 a hi;omega
def dedup (l:Λ):Nat->Λ
 |0=>[]
 |j+1=>if 0<j/\l[j]? =l[j-1]? then dedup l j else dedup l j++[l.getD j 0]
theorem Cp (l:Λ):∀j,(dedup l j).length<=j
 |0=>p8 _
 |j+1=>by
  have:=Cp l j;unfold dedup;split
  .omega
  .simp;omega
theorem vP (a:0<j) (h:l[j]? =l[j-1]?):dedup l (j+1)=dedup l j:=by
 rw[dedup,if_pos ⟨a,h⟩]
theorem vQ {x:Int} (J:l[j]? =σ x) (h:0<j->l[j]? ≠l[j-1]?):dedup l (j+1)=dedup l j++[x]:=by
 rw[dedup,if_neg (λa=>h a.1 a.2),v8,J];rfl
theorem sO {l:Λ}:∀ {j:Nat},j<=l.length->(∀i,i<j->0<i->l[i]? ≠l[i-1]?)->dedup l j=l.take j
 |0,_,_=>by simp[dedup]
 |j+1,e,h=>by
  have J:l[j]? =σ l[j]:=x6 Ω;rw[vQ J (h j Ω),sO Ω (λi hi a=>h i Ω a),u9,J];rfl
theorem Cq {l:Λ} (U:l.Pairwise (·<= ·)):∀ {j:Nat},j<=l.length->(gH (dedup l j)/\ ∀x,x∈dedup l j↔x∈l.take j)
 |0,_=>⟨λi j x y _ h=>by simp[dedup] at h,λx=>by simp[dedup]⟩
 |j+1,G=>by
  obtain⟨h1,m⟩:=Cq U (j:=j) Ω;have J:l[j]? =σ l[j]:=x6 Ω;by_cases f:0<j/\l[j]? =l[j-1]?
  .rw[vP f.1 f.2];refine⟨h1,λx=>?_⟩;rw[m,u9,J];simp only[o9,o7,o8];refine⟨.inl,λh=>h.elim id λhe=>?_⟩;subst he;have q:(l.take j)[j-1]? =σ l[j]:=by rw[Z8 Ω,<-f.2,J]
   exact x5 q
  .have r:0<j->l[j]? ≠l[j-1]?:=λz he=>f ⟨z,he⟩;rw[vQ J r];have A:∀x∈dedup l j,x<l[j]:=λx B=>by
    obtain⟨i,hi,he⟩:=List.getElem_of_mem ((m x).1 B);have H:i<j:=by rw[j6] at hi;omega
    rw[List.getElem_take] at he;subst he;have q:l[i]<=l[j-1]:=by
     by_cases s:i=j-1
     .subst s;exact Int.le_refl _
     .exact V3.1 U i (j-1) Ω Ω Ω
    have s:=V3.1 U (j-1) j Ω Ω Ω;have w:=r Ω;rw[J,x6 (show j-1<l.length by omega)] at w;have I:l[j]≠l[j-1]:=λh=>w (by rw[h]);omega
   refine⟨λa b x y C p e=>?_,λx=>?_⟩
   .have E:=(x4.1 e).1;simp only[o4,c9,List.length_nil] at E;rw[Y1 Ω] at p;by_cases F:b=(dedup l j).length
    .subst F;rw[Y2 (p8 _),V7] at e;simp at e;subst e;exact A x (x5 p)
    .rw[Y1 Ω] at e;exact h1 a b x y C p e
   .rw[u9,J];simp only[o9,o7,o8,m]
def qx (l:Λ):Prop:=∀ (j:Nat) (x:Int),l[j]? =σ x->0<=x/\(0<j-> ∀y,l[j-1]? =σ y->y<x)
theorem qx.up (h:qx l):gH l:=by
 intro i j x y p J;induction j generalizing y with
 |zero=>omega
 |succ j f=>
  intro e;have q:=(x4.1 e).1;obtain⟨z,a⟩:∃z,l[j]? =σ z:=⟨_,x6 (show j<l.length by omega)⟩;have h1:=(h (j+1) y e).2 Ω z (by simpa using a);by_cases m:i=j
  .subst m;rw[J] at a;cases a;exact h1
  .have:=f z Ω a;omega
theorem Mn (h:gH l) (a:∀x∈l,0<=x):qx l:=λj x J=>⟨a x (x5 J),λf y e=>h (j-1) j y x Ω e J⟩
theorem Cr {g E:Nat} {A:x1} {cs:Λ} (h:dd w g E sv aj k cs) (a:aF .i64 w A l):
  am x7 H1 [Γ g,A] w λv w'=>Ext w w'/\ ∃c,v= .bool c/\(c=true↔l.length=aj.length/\qx l):=by
 obtain⟨⟨a6,gs,G,hm,f⟩,_⟩:=h;have sub:w.rangeAt g (0+0) [sv]:=nq G (by
  intro j v ad
  match j,ad with
  |0,ad=>exact ad)
 refine az func202 ?_;rw[aW an.u a,bV,aU cW.p rfl,bR (cs:=[sv]) bA.p bA.i rfl sub];refine (Bg hm.ls).mono ?_;rintro _ V _ ⟨rfl,m⟩;simp only[bm,al];refine⟨λH=>⟨m,false,rfl,(λh=>by cases h),λh=>absurd (by rw[h.1]) H⟩,λB=>?_⟩;have B:l.length=aj.length:=Ω
 rw[aW an.u (a.ext m)];refine bZ.range l.length (λi _ aa=>Ext w aa/\ ∀ (j:Nat) (x:Int),j<i->l[j]? =σ x->0<=x/\(0<j-> ∀y,l[j-1]? =σ y->y<x)) a.le ⟨m,λj x I=>Ω⟩ ?_ ?_
 .rintro i _ aa K hi ⟨e,q⟩ L;simp only[aO,al];refine⟨λ_=>?_,λh=>Ω⟩;obtain⟨x,J⟩:=aH (l:=l) hi;have Q:=a.le;rw[bc an.u ai.i Ψ (a.ext e) J];refine aV (λv M=>aa=M/\ ∃c,v= .bool c/\(c=false↔0<=x/\(0<i-> ∀y,l[i-1]? =σ y->y<x))) ?_ ?_
  .rintro _ _ ⟨rfl,c,rfl,f⟩;rw[ce];simp only[aP];refine⟨λN=>⟨e,false,rfl,(λh=>by cases h),λh=>?_⟩,λaf=>L _ _ ⟨e,λj O I r=>?_⟩⟩
   .have:=f.2 (h.2 i x J);rw[N] at this;cases this
   .by_cases P:j=i
    .subst P;rw[J] at r;cases r;exact f.1 af
    .exact q j O Ω r
  .intro aA s;simp only[aO,bU,dF,al];refine⟨λR=>s _ _ ⟨rfl,true,rfl,(λh=>by cases h),λh=>Ω⟩,λS=>⟨λU=>?_,λW=>s _ _ ⟨rfl,false,rfl,λ_=>⟨Ω,λh=>Ω⟩,λ_=>rfl⟩⟩⟩;obtain⟨y,z⟩:∃y,l[i-1]? =σ y:=⟨_,x6 (show i-1<l.length by omega)⟩;rw[wrap_i64 Ω Ω,fM (i:=i-1) Ω an.u ai.i Ψ (a.ext e) z];simp only[cP];refine s _ _ ⟨rfl,_,rfl,?_⟩;rw[decide_eq_false_iff_not];refine⟨λh=>⟨Ω,λ_ X C=>by rw[z] at C;cases C;omega⟩,λh=>by have:=h.2 Ω y z;omega⟩
 .rintro _ aa K ⟨e,q⟩;simp only[aO,al];exact⟨λh=>Ω,λ_=>⟨e,true,rfl,λ_=>⟨B,λj x J=>q j x (x4.1 J).1 J⟩,λ_=>rfl⟩⟩
def fj (l:Λ) (x:Int):Int:=if x∈l then (l.idxOf x:Int) else-1
theorem vR {i:Nat} {x:Int} (h:gH l) (hi:l[i]? =σ x):fj l x=i:=by
 have hm:x∈l:=x5 hi;have a:=List.idxOf_lt_length_of_mem hm;have e:l.idxOf x=i:=h.inj (by rw[x6 a,List.getElem_idxOf a]) hi;unfold fj;rw[if_pos hm,e]
theorem Mo {x:Int} (h:x∉l):fj l x= -1:=if_neg h
theorem sP {x:Int} (h:aF .i64 w sv l) (hu:gH l):
  am x7 uA [sv,Δ x] w λv w'=>v=Δ (fj l x)/\Ext w w':=by
 refine az func58 ?_;rw[aW an.u h];refine bZ.range l.length (λi _ V=>Ext w V/\ ∀j,j<i->l[j]? ≠σ x) h.le ⟨Ext.refl _,λj m=>Ω⟩ ?_ ?_
 .rintro i _ V k hi ⟨a,e⟩ hk;simp only[aO,al];refine⟨λ_=>?_,λh=>Ω⟩;obtain⟨y,f⟩:=aH (l:=l) hi;rw[bc an.u ai.i Ψ (h.ext a) f];simp only[bg,al,aP];refine⟨λhe=>⟨?_,a⟩,λhe=>hk _ _ ⟨a,λj m=>?_⟩⟩
  .subst he;rw[vR hu f]
  .by_cases p:j=i
   .subst p;rw[f];intro h;exact he (b6 h).symm
   .exact e j Ω
 .rintro _ V k ⟨a,e⟩;simp only[aO,al];refine⟨λh=>Ω,λ_=>⟨?_,a⟩⟩;rw[Mo];intro hm;obtain⟨i,hi,he⟩:=List.getElem_of_mem hm;exact e i hi (by rw[x6 hi,he])
def e1 (x vars scope:Λ):Λ:=scope.map λp=>x.getD (vars.idxOf p) 0
theorem Mp (x vars scope:Λ):(e1 x vars scope).length=scope.length:=by simp[e1]
theorem Cs {dY q:x1} {x vars:Λ} (J:aF .i64 w dY x) (ad:aF .i64 w q vars) (U:aF .i64 w sv scope) (hu:gH vars) (B:∀p∈scope,p∈vars) (M:x.length=vars.length) (N:scope.length<=1000):
  am x7 H7 [dY,q,sv] w λv w'=>Ext w w'/\ ∃g,w.heap.size<=g/\au .i64 ai w' g v (e1 x vars scope):=by
 refine az func208 ?_;rw[aW an.u U];refine jx an.u ai.i Ω Ω λgz V O s C=>?_;have E:au .i64 ai V gz (.slice (σ ⟨gz,0,ν⟩) scope.length scope.length) (r8 scope.length 0):=au.of (n:=scope.length) (bW.full C Ξ (by simp[maxLen];omega));generalize (x1.slice (σ ⟨gz,0,ν⟩) scope.length scope.length)=G at*;rw[aW an.u (U.ext s)];have j:=Mp x vars scope;refine cz.range scope.length (λi aa=>Ext w aa/\au .i64 ai aa gz G (upto (e1 x vars scope) 0 i)) Ω ⟨s,by rw[p5,j];exact E⟩ ?_ ?_
 .rintro i aa H hi ⟨a,hm⟩ I;simp only[aO,al];refine⟨λ_=>?_,λh=>Ω⟩;obtain⟨p,m⟩:=aH (l:=scope) hi;have y:=B p (x5 m);have P:=List.idxOf_lt_length_of_mem y;rw[bc an.u ai.i Ψ (U.ext a) m];refine (sP (ad.ext a) hu).mono ?_;rintro _ Q _ ⟨rfl,f⟩;have e:fj vars p=(vars.idxOf p:Int):=if_pos y;obtain⟨u,z⟩:∃u,x[vars.idxOf p]? =σ u:=⟨_,x6 Ω⟩;have R:(upto (e1 x vars scope) 0 i).length=scope.length:=by rw[p4,j]
  rw[fM (i:=vars.idxOf p) e an.u ai.i Ψ (J.ext (a.trans f)) z,hj rfl an.u ai.i (hm.ext f) Ω];refine hl ai.i (hm.ext f) Ω λS K _ A=>?_;simp only[aP];have L:(e1 x vars scope)[i]? =σ u:=by
   unfold e1;rw[x8,m,Z3,v8,z];rfl
  rw[p7 L] at A;exact I _ ⟨(a.trans f).then K (by rintro r W rfl;omega),A⟩
 .rintro aa H ⟨a,hm⟩;simp only[aO,al];refine⟨λh=>Ω,λ_=>⟨a,gz,Ω,?_⟩⟩;rw[<-j,p6] at hm;exact hm
theorem Ct (h:t≠[]) (hw:∀b∈t,bK b=true):lex t=([t],true):=by
 cases t with
 |nil=>exact absurd rfl h
 |cons b q=>
  have a:q.dropWhile bK=[]:=by
   have:∀ (q:Λ),(∀x∈q,bK x=true)->q.dropWhile bK=[]/\q.takeWhile bK=q:=λq a=>by
    induction q with
    |nil=>simp
    |cons x q e=>
     have:=e λy f=>a y (.tail _ f);simp[a x (.head _),this.1,this.2]
   exact (this q λx J=>hw x (.tail _ J)).1
  have j:q.takeWhile bK=q:=by
   have:∀ (q:Λ),(∀x∈q,bK x=true)->q.takeWhile bK=q:=λq a=>by
    induction q with
    |nil=>simp
    |cons x q e=>simp[a x (.head _),e λy f=>a y (.tail _ f)]
   exact this q λx J=>hw x (.tail _ J)
  rw[Ak (hw b (.head _)),a,j]
theorem Cu {p:x1} (h:aF .u8 w p l) (e:Bytes l) (f:l.length<=100000):am x7 y5 [p] w λv w'=>Ext w w'/\ ∃g R,v=Γ g/\w.heap.size<=g/\ho w' g R (lex l).1 (lex l).2/\¬R g:=by
 refine (As h e f).mono ?_;rintro _ V _ ⟨j,g,rfl,m,q,a⟩;obtain⟨h1,y,z,s,bn,hm⟩:=id a;exact⟨j,g,λr=>r≠g,rfl,m,⟨q,l,0,a,λr x=>b7 hm s Φ x,by rw[List.drop_zero]⟩,λh=>h rfl⟩
theorem Mq {p:x1} (h:aF .u8 w p t) (x:Bytes t) (y:t.length<=100000) (z:t≠[]) (hw:∀b∈t,bK b=true):am x7 Im [p] w λv w'=>Ext w w'/\ ∃n:Int,v= .tuple #[Δ 1,Δ n,Δ 0]:=by
 have A:=Ct z hw;refine az func233 ?_;refine (Cu h x y).mono ?_;rintro _ V _ ⟨B,g,R,rfl,E,j,G⟩;rw[A] at j;refine⟨λ_ _ _ a aa=>ah (λr=>r=g) V aa/\((a=Δ 0/\ho aa g R [t] true)\/(a=Δ 1/\ho aa g R [] true)),λ_ _ _ a _=>1-(bX a).toNat,⟨ah.refl _ _,.inl ⟨rfl,j⟩⟩,?_⟩;rintro _ _ _ _ aa ⟨m,⟨rfl,e⟩|⟨rfl,e⟩⟩
 .refine (qc e).mono ?_;rintro v q _ ⟨f,C,n,rfl⟩;rw[fO,fP,fQ,bg,al];refine⟨λ_=>?_,λh=>absurd rfl h⟩;rw[aP,wrap_i64 Ω Ω];exact⟨⟨m.trans f,.inr ⟨rfl,C⟩⟩,by simp[bX]⟩
 .refine (qc e).mono ?_;rintro v q _ ⟨f,n,rfl⟩;rw[fO,fP,fQ,bg,al];refine⟨λh=>by simp at h,λ_=>?_⟩;rw[bg,al];refine⟨λh=>by simp at h,λ_=>?_⟩;have s:Ext w q:=B.then (m.trans f) (λr H he=>by have he:r=g:=he;omega);rw[aW cN.u (h.ext s)];exact⟨s,_,rfl⟩
theorem Mr (a:Bytes t) (e:t.length<=100000) (f:t≠[]) (hw:∀b∈t,bK b=true):am x7 HW [bP t] w λv w'=>v= .bool true/\Ext w w':=by
 have y:=Ct f hw;refine az func194 ?_;refine u2 cZ.u cN.u cJ.u a Ω λbv V j z _=>?_;refine (Mq z a e f hw).mono ?_;rintro _ aa _ ⟨p,n,rfl⟩;rw[fO,fP,fQ];refine u2 cZ.u cN.u cJ.u a Ω λI J q A _=>?_;refine (Cu A a e).mono ?_;rintro _ K _ ⟨B,g,R,rfl,L,s,M⟩;rw[y] at s;refine (qc s).mono ?_;rintro _ x _ ⟨C,_,m,rfl⟩;rw[fO,fP,fQ];have E:Ext w x:=(((j.trans p).trans (q.trans B))).then C (λr N he=>by
  have he:r=g:=he;have:=j.size;have:=p.size;have:=q.size;omega)
 refine aV (λv G=>x=G/\v= .bool true) ?_ ?_
 .rintro _ _ ⟨rfl,rfl⟩;exact⟨rfl,E⟩
 .intro aA H;rw[bg,al];refine⟨λ_=>?_,λh=>absurd rfl h⟩;rw[bg,al];refine⟨λ_=>?_,λh=>absurd rfl h⟩;rw[Ag a a];exact H _ _ ⟨rfl,by rw[decide_eq_true rfl]⟩
theorem Ms {x:Int}:am x7 uH [Δ x] w λv w'=>v= .bool (decide (¬h4 x))/\Ext w w':=by
 refine az func193 ?_;refine aV (λv V=>w=V/\v= .bool (decide (¬h4 x))) ?_ ?_
 .rintro _ _ ⟨rfl,rfl⟩;exact⟨rfl,Ext.refl _⟩
 .intro aA e;rw[aO,al];refine⟨λh=>e _ _ ⟨rfl,by rw[decide_eq_true];intro a;have:=a.1;omega⟩,λh=>?_⟩;rw[bU];refine e _ _ ⟨rfl,?_⟩;congr 1;rw[V6,decide_eq_true_eq,decide_eq_true_eq];exact⟨λf a=>by have:=a.2;omega,λf=>by
   by_cases j:32<x
   .exact j
   .exact absurd ⟨Ω,Ω⟩ f⟩
theorem Mt (h:aF .i64 w sv l) (e:∀x∈l,h4 x):
  am x7 uG [sv,.func (.func uH) #[] #[]] w λv w'=>v= .bool false/\Ext w w':=by
 refine az func191 ?_;refine am.mono (K:=λv w'=>v=Δ (-1)/\Ext w w') ?_ ?_
 .refine az func102 ?_;rw[aW an.u h];refine bZ.range l.length (λ_ _ V=>Ext w V) h.le (Ext.refl _) ?_ ?_
  .rintro i _ V k hi J hk;refine bH Ω ?_;obtain⟨x,a⟩:=aH (l:=l) hi;rw[bc an.u ai.i Ψ (h.ext J) a];show am x7 uH [Δ x] V _;refine Ms.mono ?_;rintro _ aa _ ⟨rfl,f⟩;rw[al];refine⟨λj=>absurd (e x (x5 a)) j,λ_=>?_⟩;rw[aP];exact hk _ _ (J.trans f)
  .rintro _ V k J;rw[aO,al];exact⟨λh=>Ω,λ_=>⟨rfl,J⟩⟩
 .rintro _ V _ ⟨rfl,J⟩;rw[cP];exact⟨rfl,J⟩
theorem sQ {m:Bool} {S R:ak} {d:gV} (h:ao.rep m S R w cs d):∃sv g a aI gs,cs=[sv,Γ g]/\aF .i64 w sv d.1/\fE w g a aI gs d.2.aj d.2.k d.2.o d.2.D:=by
 obtain⟨c,e,A,B,rfl,_,_,_,h1,f⟩:=h;have h1:ao.rep (α:=Λ) false bz R w c d.1:=h1;obtain⟨u,rfl⟩:=W7.1 (show c.length=1 from ao.len h1);obtain⟨g,m,sv,gs,rfl,j,_⟩:=f;exact⟨u,g,m,sv,gs,rfl,dc h1,j⟩
theorem Mu {Q:Nat} {f:b2} {d:gV} {x:cw} {m:Bool} {S R:ak} (ae:k1 w Q f) (af:e6 N f) (ah:x∈f.funs) (ap:qw f.k x d) (au:ao.rep m S R w cs d):
  am x7 In [Γ Q,.agg cs.toArray] w λv w'=>v= .bool true/\Ext w w':=by
 obtain⟨szv,aJ,gz,aK,U,W,_,_⟩:=ae;obtain⟨sv,gT,aL,aI,gs,rfl,s,I⟩:=sQ au;obtain⟨av,X,aw,aN,aR,aS⟩:=ap;obtain⟨E,aT,aU⟩:=af.funs x ah;rw[av] at s;refine az func235 ?_;refine be λaq V aX A G=>?_;have G:ag V aq cF [sv,Γ gT]:=by obtain⟨_,_,_,rfl⟩:=c4 s;exact G
 refine aV (λv aa=>Ext V aa/\v= .bool false) ?_ ?_
 rotate_left
 .intro aA J;intro aa q _ _;have z:=G.ext q;rw[aM cF.p 1 z rfl,db eO.u];simp only[Z4,a1];rw[aM cF.p 1 z rfl,aQ cE.p 1 (U.ext (A.trans q)) rfl];refine (KG (I.ext (A.trans q)).is).mono ?_;rintro _ B _ ⟨rfl,a⟩;refine⟨.inl a,?_⟩;rw[bm,al];refine⟨λh=>absurd aw h,λ_=>?_⟩;have C:=z.ext a;have K:=q.trans a;rw[aM cF.p 1 C rfl,aM cF.p 0 C rfl,aW an.u (s.ext (A.trans K))];refine (KH (I.ext (A.trans K)).is).mono ?_;rintro _ H _ ⟨rfl,e⟩;refine⟨.inl e,?_⟩;rw[bm];refine J _ _ ⟨K.trans e,?_⟩;rw[decide_eq_false];intro h;exact h (by rw[X,E.sizes,u7])
 rintro _ aa ⟨q,rfl⟩;rw[a1];have z:=G.ext q;have L:=A.trans q;rw[aM cF.p 0 z rfl,aW an.u (s.ext L)];refine bZ.range x.scope.length (λ_ _ B=>Ext aa B) Ω (Ext.refl _) ?_ ?_
 rotate_left
 .rintro _ B k a;rw[aO,al];exact⟨λh=>Ω,λ_=>⟨rfl,L.trans a⟩⟩
 rintro i _ B k hi a hk;obtain⟨v,ad⟩:=aH (l:=x.scope) hi;have aY:=E.scope.2 v (x5 ad);have M:=L.trans a;have C:=z.ext a;have Y:=U.ext M;have ax:f.sizes[v.toNat]? =σ (f.sizes.getD v.toNat 0):=by
  rw[v8,x6 Ω];rfl
 refine bH Ω ?_;rw[bc an.u ai.i Ψ (s.ext M) ad];refine aV (λb H=>Ext B H/\b= .bool false) ?_ ?_
 .rintro _ H ⟨e,rfl⟩;rw[a1,aP];exact hk _ _ (a.trans e)
 .intro aA J;intro H e _ _;have O:=M.trans e;refine cp Ω ?_;rw[aQ cE.p 2 (Y.ext e) rfl,aW an.u (W.ls.ext O),cP,al];refine⟨λh=>Ω,λ_=>?_⟩;rw[aM cF.p 0 (C.ext e) rfl];refine (Co (s.ext O)).mono ?_;rintro _ aZ _ ⟨Z,r,rfl,aB⟩;have aC:r=(i:Int):=(aB i ad).2 λj a2 aD=>by have:=kk E.scope.1 aD ad;omega
  subst aC;have ab:=O.trans Z;have P:=e.trans Z;rw[bm,al];refine⟨λh=>absurd rfl h,λ_=>?_⟩;rw[aM cF.p 1 (C.ext P) rfl,aQ cE.p 2 (Y.ext P) rfl];refine oE (y:=v) (i:=v.toNat) Ω an.u ai.i (W.ls.ext ab) ax λb o aE=>?_;rw[ay Ψ aE];refine (vw (I.ext ab).is).mono ?_;rintro a6 a7 _ ⟨ac,a8,ba,aF⟩;refine⟨.inl ac,?_⟩;have aG:d.2.aj[i]? =σ (f.sizes.getD v.toNat 0):=by
   rw[X,E.sizes,x8,ad];rfl
  rw[bc an.u ai.i Ψ aF.ls aG,bm];exact J _ _ ⟨P.trans ac,by rw[decide_eq_false (λh=>h rfl)]⟩
theorem Mv {f:b2} {d:gV} {x:cw} {m:Bool} {S R:ak} (q:k1 w j f) (r:e6 N f) (s:x∈f.funs) (y:qw f.k x d) (a:ao.rep m S R w cs d):
  am x7 uI [Γ j,.agg cs.toArray] w λv w'=>v= .bool false/\Ext w w':=by
 refine az func196 ?_;refine be λaq V C e h=>?_;have z:cs.length=2:=ao.len a;have h:ag V aq cF cs:=by
  obtain⟨sv,gT,E,aI,gs,rfl,A,G⟩:=sQ a;obtain⟨_,_,_,rfl⟩:=c4 A;exact h
 rw[bR cF.p cF.i z h.range];refine (Mu (q.ext e) r s y (bI a e)).mono ?_;rintro _ aa _ ⟨rfl,B⟩;rw[bG];exact⟨rfl,e.trans B⟩
theorem Mw {e:Nat} {f:b2} {q:x1} {a:List gV} {m:Bool} {S R:ak} (z:k1 w e f) (A:e6 N f) (j:ao.rep m S R w [q] a) (r:sN f.k f.funs a):
  am x7 HX [q,.func (.func uI) #[Γ e] #[]] w λv w'=>v= .bool false/\Ext w w':=by
 refine az func195 ?_;refine am.mono (K:=λv w'=>v=Δ (-1)/\Ext w w') ?_ ?_
 .refine az func234 ?_;rw[hL dE.u j];refine bZ.range a.length (λ_ _ V=>Ext w V) (pT j) (Ext.refl _) ?_ ?_
  .rintro i _ V k hi J hk;refine bH Ω ?_;obtain⟨d,s⟩:=aH (l:=a) hi;obtain⟨x,y⟩:∃x,f.funs[i]? =σ x:=⟨_,x6 (by have:=r.1;omega)⟩;refine lI (α:=gV) cF.p rfl dE.u cF.i (bI j J) s λcs B=>?_;show am x7 uI [Γ e,.agg cs.toArray] V _;refine (Mv (z.ext J) A (x5 y) (r.2 i x d y s) B).mono ?_;rintro _ aa _ ⟨rfl,C⟩;rw[a1,aP];exact hk _ _ (J.trans C)
  .rintro _ V k J;rw[aO,al];exact⟨λh=>Ω,λ_=>⟨rfl,J⟩⟩
 .rintro _ V _ ⟨rfl,J⟩;rw[cP];exact⟨rfl,J⟩
def lQ (a:List cw):Nat:=(a.map λx=>x.lines.length).sum
theorem Mx {ab:Nat} {f:b2} (ac:k1 w ab f) (q:e6 N f) (bb:N<=60000) (Q:f.name≠[]/\ ∀b∈f.name,bK b=true):
  am x7 Hq [Γ ab] w λv w'=>Ext w w'/\ ∃e:Int,v=Δ e/\(lQ f.funs<=16384->e=0):=by
 obtain⟨szv,bd,gz,s,y,R,S,A⟩:=id ac;have be:=q.name;have ay:Bytes f.name:=λb aB=>by
  have:=of_decide_eq_true (Q.2 b aB);omega
 refine az func148 ?_;rw[db uK.u];simp only[Z4,a1];refine aV (λv V=>Ext w V/\v= .bool false) ?_ ?_
 rotate_left
 .intro aA r;rw[aQ cE.p 0 y rfl];refine (Mr ay Ω Q.1 Q.2).mono ?_;rintro _ V _ ⟨rfl,m⟩;rw[bG,Y6,a1];rw[aQ cE.p 2 (y.ext m) rfl,aW an.u (R.ls.ext m),bg,al];refine⟨λh=>by have:=q.sizes.1;omega,λ_=>?_⟩;rw[aQ cE.p 2 (y.ext m) rfl];refine (Mt (R.ls.ext m) q.sizes.2.2).mono ?_;rintro _ aa _ ⟨rfl,B⟩;have ae:=m.trans B;rw[a1,aQ cE.p 1 (y.ext ae) rfl];refine zL.mono ?_;rintro _ C _ ⟨rfl,E⟩;have K:=ae.trans E;rw[decide_eq_true (show right f.k from q.k),bG,Y6,a1,aQ cE.p 3 (y.ext K) rfl,ix];refine (Mw (ac.ext K) q (bI S K) A).mono ?_;rintro _ af _ ⟨rfl,aC⟩;exact r _ _ ⟨K.trans aC,rfl⟩
 rintro _ V ⟨m,rfl⟩;rw[a1];have L:=y.ext m;refine aV (λv aa=>V=aa/\v= .bool false) ?_ ?_
 rotate_left
 .intro aA r;rw[aQ cE.p 0 L rfl,ns cZ.u,bU,al];refine⟨λh=>Ω,λ_=>?_⟩;rw[aQ cE.p 2 L rfl,aW an.u (R.ls.ext m),bU,al];refine⟨λh=>by have:=q.sizes.2.1;omega,λ_=>?_⟩;rw[aQ cE.p 3 L rfl,hL dE.u (bI S m),bU];exact r _ _ ⟨rfl,by rw[decide_eq_false];have:=q.kS;have:=A.1;omega⟩
 rintro _ _ ⟨rfl,rfl⟩;have ag:=bI S m;rw[aQ cE.p 3 L rfl,hL dE.u ag];refine⟨λaD aE U aa=>∃i n:Nat,U=Δ (i:Int)/\i<=s.length/\aD=Δ (n:Int)/\aE= .bool false/\Ext V aa/\n<=lQ (f.funs.take i)/\n<=i*60000,λ_ _ U _=>s.length-(bX U).toNat,
  ⟨0,0,rfl,X3 _,rfl,rfl,Ext.refl _,X3 _,Ω⟩,?_⟩
 rintro _ _ _ aa ⟨i,n,rfl,hi,rfl,rfl,B,aF,bf⟩;have bh:s.length<=256:=by rw[A.1];exact q.kS
 rw[aO,al];refine⟨λah=>?_,λbi=>?_⟩
 .have ah:i<s.length:=Ω
  obtain⟨d,ak⟩:=aH (l:=s) ah;obtain⟨x,W⟩:∃x,f.funs[i]? =σ x:=⟨_,x6 (by have:=A.1;omega)⟩;have M:=A.2 i x d W ak;obtain⟨O,aG,aJ⟩:=q.funs x (x5 W);have bj:=O.len;refine gO (λa b C=>Ext aa C/\a=Δ ((n+d.2.D.length:Nat):Int)/\b= .bool false) ?_ ?_
  .rintro _ _ C ⟨E,rfl,rfl⟩;rw[aP,wrap_i64 Ω Ω];have aK:=M.2.2.2.2.1;refine⟨⟨i+1,n+d.2.D.length,rfl,Ω,rfl,rfl,B.trans E,?_,?_⟩,by simp only[bX];omega⟩
   .have e:lQ (f.funs.take (i+1))=lQ (f.funs.take i)+x.lines.length:=by
     unfold lQ;rw[u9,W,o9,Z0,List.sum_append,U7,List.map_nil,List.sum_cons,List.sum_nil,Nat.add_zero]
    omega
   .have:(i+1)*60000=i*60000+60000:=Ω
    have bk:d.2.D.length<=60000:=Ω
    omega
  .intro aA r;refine lI (α:=gV) cF.p rfl dE.u cF.i (bI ag B) ak λcs aL=>?_;obtain⟨sv,gT,bl,aI,gs,rfl,aN,ao⟩:=sQ aL;refine bD cF.i λaq C bm E aR=>?_;refine ch (vs:=[sv,Γ gT]) cF.i rfl rfl (by intro v ad;simp at ad;rcases ad with rfl|rfl<;>first|exact aN.cells.2|rfl) aR λaf aS bn av=>?_;have X:Ext aa af:=E.put aS Ω;rw[aM cF.p 1 av rfl];refine (KF (ao.ext X).is).mono ?_;rintro _ bo _ ⟨rfl,Y⟩;have aK:=M.2.2.2.2.1;rw[aP,wrap_i64 Ω Ω,aM cF.p 1 (av.ext Y) rfl];refine (vw ((ao.ext X).ext Y).is).mono ?_;rintro bp Z _ ⟨aT,bq,br,aw⟩;rw[aW an.u aw.ls];have bt:d.2.aj.length<=6:=by rw[M.2.1,O.sizes,u7];exact aG
   refine bZ.range d.2.aj.length (λj out P=>Ext Z P/\ ∃gr,Z.heap.size<=gr/\au .i64 ap P gr out (d.2.aj.take j)) Ω ⟨Ext.refl _,Z.heap.size,p8 _,au.nil _ _ _ _⟩ ?_ ?_
   .rintro j out P k aU ⟨G,gr,aX,H⟩ hk;obtain⟨z,I⟩:=aH (l:=d.2.aj) aU;refine bH Ω ?_;rw[bc an.u ai.i Ψ (aw.ls.ext G) I];refine ew ax.u ap.i rfl λa ga aY bu J aZ=>?_;refine iZ ax.u ap.i rfl (H.ext J) aZ.ls Θ Θ λbw a2 bx bz a6 a7=>?_;have bA:=G.size;have bB:=J.size;rw[aP];refine hk _ _ ⟨(G.trans J).put a7 Ω,a2,Ω,?_⟩;rw[u9,I];exact a6
   .rintro out P k ⟨G,gr,aX,H⟩;rw[p9] at H;refine cp Ω ?_;rw[a1];have a8:d.2.aj=x.sizes:=M.2.1;rw[a8] at H;refine (Bd H.ls λz I=>?_).mono ?_
    .rw[O.sizes] at I;obtain⟨v,ad,rfl⟩:=l9.1 I;have bC:=O.scope.2 v ad;refine (q.sizes.2.2 _ ?_).1;rw[v8,x6 Ω];exact R8 _
    .rintro _ aY _ ⟨rfl,J⟩;refine r _ _ _ ⟨(((X.trans Y).trans aT).trans G).trans J,by congr 1,by rw[aJ]⟩
 .have ba:i=s.length:=Ω
  subst ba;rw[A.1,p9] at aF;refine aV (λv C=>aa=C/\v= .bool (decide (16384<(n:Int)))) ?_ ?_
  .rintro _ _ ⟨rfl,rfl⟩;rw[al];refine⟨λh=>⟨m.trans B,5,rfl,λbE=>Ω⟩,λh=>⟨m.trans B,0,rfl,λ_=>rfl⟩⟩
  .intro aA r;rw[a1,bU];exact r _ _ ⟨rfl,rfl⟩
theorem sR:∀ {a b:Λ} {i:Nat},(∀ (j:Nat) (x y:Int),j<i->a[j]? =σ x->b[j]? =σ y->x=y)->i<=a.length->i<=b.length->fT a b=fT (a.drop i) (b.drop i)
 |_,_,0,_,_,_=>Ξ
 |[],_,i+1,_,h,_=>by simp at h
 |_::_,[],i+1,_,_,h=>by simp at h
 |x::a,y::b,i+1,he,h1,e=>by
  have f:=he 0 x y Ω rfl rfl;subst f;simp only[fT,Int.lt_irrefl,if_false,List.drop_succ_cons];exact sR (λj u v m hu ad=>he (j+1) u v Ω hu ad) (by simpa using h1) (by simpa using e)
theorem Cv {x:Int}:am x7 cmp_isNaN_int [Δ x] w λv w'=>v= .bool false/\Ext w w':=by
 refine az func212 ?_;simp only[bm];exact⟨Ξ,Ext.refl _⟩
theorem Cw {x:Int}:am x7 Hx [Δ x,Δ y] w λv w'=>v=Δ (if x<y then-1 else if y<x then 1 else 0)/\Ext w w':=by
 refine az func160 ?_;refine Cv.mono ?_;rintro _ V _ ⟨rfl,a⟩;refine Cv.mono ?_;rintro _ aa _ ⟨rfl,e⟩;simp only[a1,aO,bU,al];exact⟨λh=>⟨by rw[if_pos h],a.trans e⟩,λh=>⟨λf=>⟨by rw[if_neg h,if_pos f],a.trans e⟩,λf=>⟨by rw[if_neg h,if_neg f],a.trans e⟩⟩⟩
theorem My {b:Λ} (q:aF .i64 w bf a) (s:aF .i64 w bv b):am x7 Hy [bf,bv] w λv w'=>v=Δ (fT a b)/\Ext w w':=by
 refine az func161 ?_;have X:=q.le;rw[aW an.u q];refine⟨λ_ z V=>∃i:Nat,z=Δ (i:Int)/\i<=a.length/\i<=b.length/\Ext w V/\ ∀ (j:Nat) (x y:Int),j<i->a[j]? =σ x->b[j]? =σ y->x=y,λ_ z _=>a.length-(bX z).toNat,⟨0,rfl,X3 _,X3 _,Ext.refl _,λj x y M=>Ω⟩,?_⟩;rintro _ _ V ⟨i,rfl,N,O,f,G⟩;have m:fT a b=fT (a.drop i) (b.drop i):=sR G N O;simp only[aO,al];refine⟨λr=>?_,λY=>?_⟩
 .have r:i<a.length:=Ω
  obtain⟨x,J⟩:=aH (l:=a) r;have H:a.drop i=x::a.drop (i+1):=by rw[X5 r,(x4.1 J).2]
  rw[bc an.u ai.i Ψ (q.ext f) J,aW an.u (s.ext f)];simp only[cP,al];refine⟨λh=>?_,λh=>?_⟩
  .have:b.drop i=[]:=by rw[List.drop_eq_nil_iff];omega
   rw[this,H] at m;exact⟨by rw[m];rfl,f⟩
  have A:i<b.length:=Ω
  obtain⟨y,B⟩:=aH (l:=b) A;have P:b.drop i=y::b.drop (i+1):=by rw[X5 A,(x4.1 B).2]
  rw[bc an.u ai.i Ψ (s.ext f) B];refine Cw.mono ?_;rintro _ aa _ ⟨rfl,I⟩;rw[H,P] at m;simp only[fT] at m;simp only[bm,al,aP];refine⟨λK=>⟨?_,f.trans I⟩,λQ=>?_⟩
  .rw[m];by_cases h1:x<y
   .rw[if_pos h1,if_pos h1]
   .by_cases p:y<x
    .rw[if_neg h1,if_pos p,if_neg h1,if_pos p]
    .rw[if_neg h1,if_neg p] at K;exact absurd rfl K
  .rw[wrap_i64 Ω Ω];refine⟨⟨i+1,rfl,r,A,f.trans I,λj R S M C E=>?_⟩,by simp only[bX];omega⟩;by_cases U:j=i
   .subst U;rw[J] at C;rw[B] at E;cases C;cases E;have L:=Z9.1 Q;by_cases h1:x<y
    .rw[if_pos h1] at L;omega
    .by_cases p:y<x
     .rw[if_neg h1,if_pos p] at L;omega
     .omega
   .exact G j R S Ω C E
 .have W:i=a.length:=Ω
  subst W;rw[List.drop_length] at m;rw[aW an.u (q.ext f),aW an.u (s.ext f)];simp only[aO,al];refine⟨λh=>⟨?_,f⟩,λh=>⟨?_,f⟩⟩
  .obtain⟨y,l,e⟩:∃y l,b.drop a.length=y::l:=⟨_,_,X5 Ω⟩;rw[m,e];rfl
  .have:b.drop a.length=[]:=by rw[List.drop_eq_nil_iff];omega
   rw[m,this];rfl
theorem Mz {x:Int} {f:x1} (h:aF .i64 w f [x,y]):am x7 Hw [f] w λv w'=>v=Δ (if x≠0 then x else y)/\Ext w w':=by
 refine az func159 ?_;rw[aW an.u h];refine bZ.range 2 (λi _ V=>Ext w V/\(1<=i->x=0)/\(2<=i->y=0)) Ω ⟨Ext.refl _,Ω,Ω⟩ ?_ ?_
 .rintro i _ V k hi ⟨a,h1,e⟩ hk;rw[aO,al];refine⟨λ_=>?_,λh=>by simp at h;omega⟩
  match i,hi,h1,e,hk with
  |0,_,h1,e,hk=>
   rw[bc (i:=0) an.u ai.i Ψ (h.ext a) rfl,bm,al];refine⟨λj=>⟨by rw[if_pos j],a⟩,λhe=>?_⟩;rw[aP];exact hk _ _ ⟨a,λ_=>Z9.1 he,λh=>Ω⟩
  |1,_,h1,e,hk=>
   rw[bc (i:=1) an.u ai.i Ψ (h.ext a) rfl,bm,al];have m:=h1 (p8 _);refine⟨λj=>⟨by rw[if_neg Ω],a⟩,λhe=>?_⟩;rw[aP];exact hk _ _ ⟨a,λ_=>m,λ_=>Z9.1 he⟩
 .rintro _ V k ⟨a,h1,e⟩;have m:=h1 Ω;have p:=e Ω;rw[aO,al];exact⟨λh=>by simp at h,λ_=>⟨by rw[if_neg Ω,p],a⟩⟩
structure cr where
 sv:x1
 g:Nat
 sc:Λ
 cs:Λ
def ez (h:cr):List x1:=[h.sv,Γ h.g]
abbrev jH (h:cr):x1:=.agg (ez h).toArray
def qy (h:cr):Int:=da h.sc
def iG (w:x3) (a:Nat) (h:cr):Prop:=(∃e,au .i64 ai w e h.sv h.sc)/\(∀r,leads h.sv r->r≠a)/\jg h.sc
theorem iG.ab {a:Nat} {h:cr} (aJ:iG w a h) (J:ah S w w') (e:∀r,leads h.sv r->¬S r):iG w' a h:=by
 obtain⟨⟨f,hm⟩,j⟩:=aJ;exact⟨⟨f,br hm J e⟩,j⟩
theorem iG.one {a:Nat} {h:cr} (aJ:iG w a h):∀u∈ez h,u.oneCell'=true:=by
 obtain⟨⟨e,hm⟩,_⟩:=aJ;intro u hu;simp[ez] at hu;rcases hu with rfl|rfl
 .exact hm.ls.cells.2
 .rfl
def e2 (w:x3) (g:Nat) (v:x1) (L:List cr):Prop:=bk ez 2 cV w g v L/\ ∀h∈L,iG w g h
theorem e2.ext {g:Nat} {L:List cr} (h:e2 w g v L) (J:Ext w w'):e2 w' g v L:=⟨h.1.ext J,λx a=>(h.2 x a).ab (J.ab λ_=>False) λ_ _ h=>h⟩
theorem e2.at {g:Nat} {L:List cr} (h:e2 w g v L) {i:Nat} {x:cr} (hi:L[i]? =σ x):iG w g x:=h.2 x (x5 hi)
theorem sS {g:Nat} {L:List cr} {i:Nat} {x:cr} {K:x1->Prop} (a:y=(i:Int)) (h:e2 w g v L) (hi:L[i]? =σ x):
  ac x7 (j4 gd v (Δ y)) w (λp=>ac x7 (u4 cV p) w K)=K (jH x):=by
 rw[dx a gd.u cV.i h.1 (x4.1 hi).1,bR cV.p cV.i rfl (h.1.range hi)]
theorem MA {g:Nat} {L:List cr} {i:Nat} {x:cr} {K:Unit->x3->Prop} (m:y=(i:Int)) (h:e2 w g v L) (hi:i<L.length) (hk:iG w g x)
  (q:∀w',ah (λr=>leadsTo v r) w w'->e2 w' g v (L.set i x)->K () w'):ac x7 (j4 gd v (Δ y)) w λp=>aD x7 (o6 cV p (jH x)) w K:=by
 rw[dx m gd.u cV.i h.1 hi];refine KI (f:=ez) cV.i h.1 rfl hk.one hi λw' e _ h'=>q w' e ⟨h',λz a=>?_⟩;rcases X8 a with a|rfl
 .exact (h.2 z a).ab e λr j he=>(h.2 z a).2.1 r j (h.1.leads he).1
 .exact hk.ab e λr j he=>hk.2.1 r j (h.1.leads he).1
abbrev MB:x1:=.func (.func zf) #[] #[]
def sT (a b:cr):Int:=let c:Int:=if (a.sc.length:Int)<b.sc.length then-1 else if (b.sc.length:Int)<a.sc.length then 1 else 0
 if c≠0 then c else fT a.sc b.sc
theorem MC {a b:cr} (f:jg a.sc) (j:jg b.sc):sT a b<0↔qy a<qy b:=by
 have m:=(vI f j).1;unfold qy sT;simp only;generalize p:(if (a.sc.length:Int)<b.sc.length then (-1:Int) else if (b.sc.length:Int)<a.sc.length then 1 else 0)=c;rw[m,<-p];by_cases h1:(a.sc.length:Int)<b.sc.length
 .rw[if_pos h1,if_pos Ω];exact⟨λ_=>.inl Ω,λ_=>Ω⟩
 .by_cases e:(b.sc.length:Int)<a.sc.length
  .rw[if_neg h1,if_pos e,if_pos Ω];exact⟨λh=>Ω,λh=>by rcases h with h|h<;>omega⟩
  .rw[if_neg h1,if_neg e,if_neg Ω];exact⟨λh=>.inr ⟨Ω,h⟩,λh=>by rcases h with h|h;omega;exact h.2⟩
theorem MD {x:Nat} {a b:cr} (z:iG w x a) (A:iG w x b):am x7 zf [jH a,jH b] w λv w'=>Ext w w'/\v=Δ (sT a b):=by
 obtain⟨⟨ga,q⟩,_,J⟩:=z;obtain⟨⟨K,r⟩,_,L⟩:=A;refine az func158 ?_;refine be λg1 V M B h=>?_;refine be λC aa N y j=>?_;have h:ag V g1 cV [a.sv,Γ a.g]:=by
  obtain⟨_,_,_,e⟩:=c4 q.ls;simp only[jH,ez,e] at h ⊢;exact h
 have j:ag aa C cV [b.sv,Γ b.g]:=by
  obtain⟨_,_,_,e⟩:=c4 r.ls;simp only[jH,ez,e] at j ⊢;exact j
 intro O s _ _;have f:=(B.trans y).trans s;have f1:=(h.ext y).ext s;have f2:=j.ext s;rw[aM cV.p 0 f1 rfl,aW an.u (q.ls.ext f),aM cV.p 0 f2 rfl,aW an.u (r.ls.ext f),
  aM cV.p 0 f1 rfl,aM cV.p 0 f2 rfl]
 refine Cw.mono ?_;rintro _ P _ ⟨rfl,m⟩;refine⟨.inl m,?_⟩;refine (My ((q.ls.ext f).ext m) ((r.ls.ext f).ext m)).mono ?_;rintro _ Q _ ⟨rfl,E⟩;refine oD (l:=[if (a.sc.length:Int)<b.sc.length then (-1:Int) else if (b.sc.length:Int)<a.sc.length then 1 else 0,fT a.sc b.sc]) an.u ai.i Ω rfl Ψ λR S U W G H=>?_;refine (Mz H.ls).mono ?_;rintro _ X _ ⟨rfl,I⟩;exact⟨((((f.trans m).trans E).trans G).trans I),rfl⟩
theorem ME {g:Nat} {L:List cr} (h:e2 w g v L) (B:L.length<65536):
  am x7 Hv [v,MB] w λ_ w'=>ah (λr=>leadsTo v r) w w'/\ ∃M,M.Perm L/\sz qy M 0 M.length/\e2 w' g v M:=by
 have j:∀ {m:x3} {a:cr},ah (λr=>r=g) w m->iG w g a->iG m g a:=λf e=>e.ab f λr s he=>e.2.1 r s he;refine (BC KT (G:=iG w g) (num:=qy) (cf:=sT) (cap:=#[]) KX KY (λa e=>e.one) (λa _=>rfl) (λa b e z=>MC e.2.2 z.2.2) (Enters.of x7 KZ rfl Ψ) h.1 h.2 B λm a b f e z=>MD (j f e) (j f z)).mono ?_;rintro _ w' _ ⟨f,M,A,hu,hm⟩;have C:ah (λr=>r=g) w w':=f.mono λr _ s=>(h.1.leads s).1;exact⟨f,M,A,λp q x y _ E _ J H=>hu p q x y E J H,hm,λx J=>j C (h.2 x (A.mem_iff.1 J))⟩
theorem MF {m:Λ} (ad:km l) (p:l.Nodup) (e:m.Perm l) (U:m.Pairwise (·<= ·)):m=bl l:=by
 refine vJ (f:=λx=>x) ?_ (vH l) λx=>?_
 .have q:m.Nodup:=e.nodup_iff.2 p;exact (List.Pairwise.and U q).imp λ{a b} h=>by
   obtain⟨h1,j⟩:=h;have j:a≠b:=j;omega
 .rw[e.mem_iff,qt ad]
theorem MG (h:∀z∈l,1<=z/\z<=32) (a:dq l=false):aN l<=4096:=by
 have:=of_decide_eq_false a;rw[vL h] at this;omega
theorem MH {f:b2} {d:gV} {x:cw} {m:Bool} {S R:ak} (q:e6 N f) (bk:N<=60000) (O:x∈f.funs) (aA:qw f.k x d) (aB:ao.rep m S R w cs d):
  am x7 Hr [.agg cs.toArray] w λv w'=>Ext w w'/\ ∃sv gs G P Q,v= .tuple #[sv,Γ G]/\w.heap.size<=gs/\au .i64 ai w' gs sv (bl x.scope)/\dd w' G P Q (bS f.sizes (bl x.scope)) f.k (hR f.sizes f.k x).2:=by
 obtain⟨sv,gT,bm,aI,bn,rfl,H,aC⟩:=sQ aB;obtain⟨aD,aE,aF,bq,br,aG⟩:=aA;obtain⟨a,aJ,aK⟩:=q.funs x O;have ad:=sF a q.sizes.2.1;have bt:=a.len;rw[aD] at H;have aL:∀z∈x.sizes,1<=z/\z<=32:=λz Z=>by
  rw[a.sizes] at Z;obtain⟨v,aN,rfl⟩:=l9.1 Z;have bu:=a.scope.2 v aN;refine q.sizes.2.2 _ ?_;rw[v8,x6 Ω];exact R8 _
 have aO:=MG aL aK;have W:=sE ad a.scope.1;have bw:(bl x.scope).length<=6:=by rw[W.length_eq];exact aJ
 refine az func149 ?_;refine be λaq V bx ac A=>?_;have A:ag V aq cF [sv,Γ gT]:=by obtain⟨_,_,_,rfl⟩:=c4 H;exact A
 rw[aM cF.p 1 A rfl];refine (Cj (aC.ext ac).is Ω).mono ?_;rintro _ aa _ ⟨X,_,B⟩;rw[aE] at B;obtain⟨g,bz,bA,aQ,rfl,bB,bC,B,ae⟩:=B aO;rw[aF] at B;rw[bo,bp,aM cF.p 0 (A.ext X) rfl];have C:=ac.trans X;refine vO (H.ext C) Ω λv af gs bD I bE aR U J=>?_;have aS:=MF ad a.scope.1 aR U;subst aS;have bF:=C.size;rw[aW an.u J.ls];refine jx (k:=.i64) an.u ai.i Ω Ω λgo aj bG K al=>?_;have aT:au .i64 ai aj go (.slice (σ ⟨go,0,ν⟩) (bl x.scope).length (bl x.scope).length) (r8 (bl x.scope).length 0):=au.of (bW.full (k:=1) (n:=(bl x.scope).length) al Ξ (by simp[maxLen];omega));rw[aW an.u (J.ls.ext K)];have bI:=al.lt;have L:(fU x.scope (bl x.scope)).length=(bl x.scope).length:=by simp[fU]
 have aU:=I.trans K;have bJ:=C.trans aU;refine cz.range (bl x.scope).length (λi h=>ah (λr=>r=go) aj h/\au .i64 ai h go (.slice (σ ⟨go,0,ν⟩) (bl x.scope).length (bl x.scope).length) ((fU x.scope (bl x.scope)).take i++r8 ((bl x.scope).length-i) 0)) Ω ⟨ah.refl _ _,by simpa using aT⟩ ?_ ?_
 .rintro i h k hi ⟨M,E⟩ hk;obtain⟨v,Y⟩:=aH (l:=(bl x.scope)) hi;have s:Ext af h:=K.put M Ω;have aV:Ext w h:=(C.trans I).trans s;have aX:v∈x.scope:=W.mem_iff.1 (x5 Y);refine bH Ω ?_;rw[bc an.u ai.i Ψ (J.ls.ext s) Y];have aY:Ext V h:=(X.trans I).trans s;rw[aM cF.p 0 (A.ext aY) rfl];refine (Co (H.ext aV)).mono ?_;rintro _ aZ _ ⟨y,r,rfl,a1⟩;have ap:=o3 aX;have a2:r=((x.scope.idxOf v:Nat):Int):=(a1 _ ap).2 λj bK a6=>by have:=kk a.scope.1 a6 ap;omega
  rw[hj rfl an.u ai.i (E.ext y) (by simp[L];omega)];refine hl ai.i (E.ext y) (by simp[L];omega) λbL a7 bM av=>?_;rw[aP];refine hk _ ⟨(M.trans (y.ab _)).trans a7,?_⟩;have a8:(fU x.scope (bl x.scope))[i]? =σ r:=by rw[a2];exact Cd Y
  have e:((fU x.scope (bl x.scope)).take i++r8 ((bl x.scope).length-i) 0).set i r=(fU x.scope (bl x.scope)).take (i+1)++r8 ((bl x.scope).length-(i+1)) 0:=by
   have ba:((fU x.scope (bl x.scope)).take i).length=i:=by rw[j6,L];omega
   rw[T2 _ _ Ω,ba,V7,show (bl x.scope).length-i=((bl x.scope).length-(i+1))+1 by omega,List.replicate_succ,List.set_cons_zero,u9,a8,o9,U6];rfl
  rw[e] at av;exact av
 .rintro h k ⟨M,E⟩;have s:Ext af h:=K.put M Ω;have aw:Ext aa h:=I.trans s;refine cp Ω ?_;rw[V7,List.replicate_zero,U4,b8 Ω] at E;have bb:∀t,dh x.sizes t->bj x.sizes aQ t=jB x f.k t:=λt bd=>by rw[ae.2 t bd];exact aG t
  obtain⟨ax,bf⟩:=LH q O ae.1 bb;have bg:Good (fU x.scope (bl x.scope)) x.sizes.length:=by
   rw[a.sizes,u7];exact sI a.scope.1 W
  have bh:=(o2 q O);refine (Mm (B.ext aw) q.k E.ls (by rw[L];omega) λ_=>?_).mono ?_
  .rw[ax];exact bh.small
  .rintro _ aZ _ ⟨y,_,bi⟩;obtain⟨G,P,Q,rfl,ay⟩:=bi bg;rw[bo,bp];rw[ax,bf] at ay;exact⟨(C.trans aw).trans y,v,gs,G,P,Q,rfl,Ω,(J.ext s).ext y,ay⟩
theorem MI {P:W5} {t x f:r9} {k y g o cap:Nat} {z:x1} (h:P.underlying t=σ (.slice e)) (hi:aT P e k y z) (A:z.cells.size=k) (h1:∀u∈dM z.cells (n*k),u.oneCell'=true)
  (a:ag w g f cs) (H:o+n*k<=cs.length) (p:∀w',ah (λr=>r=g) w w'->ag w' g f (over cs o (dM z.cells (n*k)))->K (.tuple #[]) w'):aD P (Z2.clear_ #[t] x #[.slice (σ ⟨g,o,ν⟩) n cap]) w K:=by
 obtain⟨i,hi,I,rfl,B⟩:=hi;have C:∀w,(zeroValue e).run P w= .ok z w:=λw=>by simp[zeroValue,typeInfo,hi,B]
 have E:(Z2.zeroCells z.cells n).toList=dM z.cells (n*k):=by
  unfold Z2.zeroCells dM;rw[A]
 have q:=run_storeCells_cells (P:=P) g o (dM z.cells (n*k)) 0 w (λj F=>by
   rw[oy] at F;rw[Nat.add_zero,a.cell (x6 (show o+j<cs.length by omega))];rfl) (λj _=>a.frozen _ _) h1
 simp only[Nat.add_zero] at q;obtain⟨G,s⟩:=ni (dM z.cells (n*k)) cs o w a;rcases R7 n with rfl|J
 .refine .of (v:=.tuple #[]) (w':=w) (by simp[Z2.clear_,run_underlying h]) (cM.refl _) (p w (ah.refl _ _) ?_);rw[Nat.zero_mul,j5 (oy z.cells 0)];exact a
 .obtain⟨m,rfl⟩:∃m,n=m+1:=⟨n-1,Ω⟩;refine .of (v:=.tuple #[]) (w':=_) (by simp[Z2.clear_,run_underlying h,C,E,q]) (s.cu a) (p _ s.ab G)
theorem eb {α:Type} {f:α->List x1} {k:Nat} {g:Nat} {L:List α} (h:bk f k e w g v L) (j:leadsTo v r):r=g/\ ∃cs,ag w g e cs:=by
 obtain⟨_,⟨rfl,_⟩|⟨cap,cs,rfl,m,_⟩⟩:=h.1
 .exact (fg j).elim
 .obtain⟨a,n,c,h1,p⟩:=j;cases h1;exact⟨p.symm,cs,m⟩
theorem MJ {α:Type} {f:α->List x1} {k:Nat} {g:Nat} {L:List α} (h:bk f k e w g v L) (a:L≠[]):∃cs n c,v= .slice (σ ⟨g,0,ν⟩) n c/\ag w g e cs:=by
 obtain⟨_,⟨rfl,j⟩|⟨cap,cs,rfl,m,_⟩⟩:=h.1
 .exact absurd (j5 j) a
 .exact⟨cs,_,_,rfl,m⟩
theorem e2.mk {g:Nat} {L:List cr} (h:bk ez 2 cV w g v L) (a:∀x∈L,(∃e,au .i64 ai w e x.sv x.sc)/\jg x.sc):e2 w g v L:=by
 refine⟨h,λx J=>⟨(a x J).1,λr f=>?_,(a x J).2⟩⟩;obtain⟨cs,n,c,_,j⟩:=MJ h (λm=>by rw[m] at J;cases J);obtain⟨⟨e,hm⟩,_⟩:=a x J;exact b7 hm j Φ f
def Sem (w:x3) (k:Int) (sizes:Λ) (L:List cr):Prop:=∀x∈L,∃a e,dd w x.g a e (bS sizes x.sc) k x.cs
theorem vS {g:Nat} {p:x1} {cs:Λ} (h:dd w g m p aj k cs) (e:ah S w w') (f:∀r,S r-> ∃c,ag w r cV c):dd w' g m p aj k cs:=by
 obtain⟨⟨a6,gs,h1,q,s⟩,x⟩:=h;refine⟨⟨a6,gs,h1.ab e λU=>?_,br q e λr j U=>?_,br s e λr j U=>?_⟩,x⟩
 .obtain⟨c,a⟩:=f g U;unfold ag at h1 a;rw[h1] at a;have:=(Obj.cells.inj (b6 a)).2.1;exact absurd this Φ
 .obtain⟨c,a⟩:=f r U;exact b7 q a Φ j rfl
 .obtain⟨c,a⟩:=f r U;exact b7 s a Φ j rfl
theorem Sem.ext {L:List cr} (h:Sem w k sizes L) (J:Ext w w'):Sem w' k sizes L:=λx a=>by
 obtain⟨e,f,j⟩:=h x a;exact⟨e,f,j.ext J⟩
theorem Sem.row {L M:List cr} {g:Nat} (h:Sem w k sizes L) (a:e2 w g v M) (e:ah (λr=>leadsTo v r) w w'):Sem w' k sizes L:=λx f=>by
 obtain⟨j,m,p⟩:=h x f;exact⟨j,m,vS p e λr q=>by obtain⟨rfl,c,s⟩:=eb a.1 q;exact⟨c,s⟩⟩
def dR (h:cr):cK:=(h.sc,h.cs)
theorem MK {c:Int}:am x7 uE [Δ c] w λv w'=>v= .bool (decide (0<c))/\Ext w w':=by
 refine az func155 ?_;rw[bU];exact⟨rfl,Ext.refl _⟩
theorem ML (h:aF .i64 w sv l):
  am x7 Ht [sv,.func (.func uE) #[] #[]] w λv w'=>v= .bool (l.any λc=>decide (0<c))/\Ext w w':=by
 refine az func154 ?_;refine am.mono (K:=λv w'=>Ext w w'/\ ∃r:Int,v=Δ r/\(0<=r↔ ∃c∈l,0<c)) ?_ ?_
 .refine az func209 ?_;rw[aW ax.u h];refine bZ.range l.length (λi _ V=>Ext w V/\ ∀c∈l.take i,¬0<c) h.le ⟨Ext.refl _,λc a=>by simp at a⟩ ?_ ?_
  .rintro i _ V k hi ⟨J,f⟩ hk;refine bH Ω ?_;obtain⟨x,j⟩:=aH (l:=l) hi;rw[bc ax.u ap.i Ψ (h.ext J) j];show am x7 uE [Δ x] V _;refine MK.mono ?_;rintro _ aa _ ⟨rfl,m⟩;rw[al];refine⟨λe=>⟨J.trans m,i,rfl,⟨λ_=>⟨x,x5 j,e⟩,λ_=>Ω⟩⟩,λp=>?_⟩;rw[aP];refine hk _ _ ⟨J.trans m,λc a=>?_⟩;rw[u9,j] at a;rcases o7.1 a with a|a
   .exact f c a
   .simp at a;subst a;exact p
  .rintro _ V k ⟨J,f⟩;rw[p9] at f;rw[aO,al];exact⟨λh=>Ω,λ_=>⟨J,-1,rfl,⟨λh=>Ω,λ⟨c,a,e⟩=>absurd e (f c a)⟩⟩⟩
 .rintro _ V _ ⟨J,r,rfl,q⟩;rw[cP];refine⟨?_,J⟩;congr 1;rw[V6,decide_eq_true_eq,List.any_eq_true,q];exact⟨λ⟨c,a,e⟩=>⟨c,a,decide_eq_true e⟩,λ⟨c,a,e⟩=>⟨c,a,of_decide_eq_true e⟩⟩
theorem Cx {h:Nat} {x:cr} {m:x1} (J:iG w h x) (q:dd w x.g j m aj k x.cs):am x7 pJ [jH x] w λv w'=>v= .bool (!fA (dR x))/\Ext w w':=by
 obtain⟨⟨z,hm⟩,_⟩:=J;refine az func153 ?_;refine be λaq V A f a=>?_;have a:ag V aq cV [x.sv,Γ x.g]:=by
  obtain⟨_,_,_,e⟩:=c4 hm.ls;simp only[jH,ez,e] at a ⊢;exact a
 rw[aM cV.p 1 a rfl];refine (mq (q.ext f)).mono ?_;rintro B aa _ ⟨r,C,E,s⟩;refine (ML s.ls).mono ?_;rintro _ G _ ⟨rfl,y⟩;rw[bG];exact⟨rfl,(f.trans r).trans y⟩
theorem MM {g:Nat} {L:List cr} (h:e2 w g v L) (U:Sem w k sizes L):
  am x7 zd [v,.func (.func pJ) #[] #[]] w λr w'=>Ext w w'/\((r=Δ (-1)/\ ∀x∈L,fA (dR x)=true)\/ ∃i:Nat,r=Δ (i:Int)/\i<L.length/\(∀x∈L.take i,fA (dR x)=true)/\ ∀x,L[i]? =σ x->fA (dR x)=false):=by
 refine az func150 ?_;rw[fh gd.u h.1];refine bZ.range L.length (λi _ V=>Ext w V/\ ∀x∈L.take i,fA (dR x)=true) h.1.le ⟨Ext.refl _,λc a=>by simp at a⟩ ?_ ?_
 .rintro i _ V k hi ⟨J,e⟩ hk;refine bH Ω ?_;obtain⟨x,f⟩:=aH (l:=L) hi;rw[sS rfl (h.ext J) f];show am x7 pJ [jH x] V _;obtain⟨z,A,p⟩:=U x (x5 f);refine (Cx ((h.ext J).at f) (p.ext J)).mono ?_;rintro _ aa _ ⟨rfl,j⟩;rw[ce];refine⟨λq=>⟨J.trans j,.inr ⟨i,rfl,hi,e,λy m=>by rw[f] at m;cases m;simpa using q⟩⟩,λs=>?_⟩;rw[aP];refine hk _ _ ⟨J.trans j,λc a=>?_⟩;rw[u9,f] at a;rcases o7.1 a with a|a
  .exact e c a
  .simp at a;subst a;simpa using s
 .rintro _ V k ⟨J,e⟩;rw[p9] at e;rw[aO,al];exact⟨λh=>Ω,λ_=>⟨J,.inl ⟨rfl,e⟩⟩⟩
def fV (x:cr):Bool:=fA (dR x)
theorem vT {L:List cr} {x:cr} (J:L[j]? =σ x):(L.take (j+1)).filter fV=if fV x=true then (L.take j).filter fV++[x] else (L.take j).filter fV:=by
 rw[u9,J,o9,List.filter_append];by_cases h:fV x=true
 .rw[if_pos h];simp[h]
 .rw[if_neg h];simp[h]
theorem Cy {z:Array x1} (a:0<z.size) (h:∀u∈z.toList,u.oneCell'=true):∀u∈dM z n,u.oneCell'=true:=λu hu=>by
 unfold dM at hu;rw[Array.toList_map,l9] at hu;obtain⟨i,_,rfl⟩:=hu;have e:i % z.size<z.size:=Nat.mod_lt _ a;rw[getElem!_pos z (i % z.size) e];exact h _ Ξ
theorem MN {g:Nat} {L:List cr} (h:e2 w g v L) (U:Sem w k sizes L) (ba:L.length<=100000):
  am x7 Hu [v,.func (.func pJ) #[] #[]] w λf w'=>ah (λr=>leadsTo v r) w w'/\e2 w' g f (L.filter fV)/\ ∀r,leadsTo f r->leadsTo v r:=by
 refine az func156 ?_;refine (MM h U).mono ?_;rintro r V _ ⟨E,q⟩;rcases q with⟨rfl,N⟩|⟨O,rfl,ax,N,ay⟩
 .rw[bg,al];refine⟨λ_=>⟨E.ab _,?_,λr q=>q⟩,λh=>absurd rfl h⟩;rw[List.filter_eq_self.2 (show ∀x∈L,fV x=true from N)];exact h.ext E
 rw[bg,al];refine⟨λh=>Ω,λ_=>?_⟩;rw[aP,wrap_i64 Ω Ω];obtain⟨P,Z⟩:=aH (l:=L) ax;refine⟨λQ R aa=>∃ (i j:Nat) (M:List cr),Q=Δ (i:Int)/\R=Δ (j:Int)/\i<j/\j<=L.length/\M.length=L.length/\M.take i=(L.take j).filter fV/\M.drop j=L.drop j/\(∀x∈M,x∈L)/\e2 aa g v M/\ah (λr=>leadsTo v r) w aa,
  λ_ R _=>L.length-(bX R).toNat,⟨O,O+1,L,rfl,by congr 1,Ω,Ω,rfl,?_,rfl,λx J=>J,h.ext E,E.ab _⟩,?_⟩
 .have aB:¬fV P=true:=by rw[show fV P=false from ay P Z];simp
  rw[vT Z,if_neg aB,List.filter_eq_self.2 (show ∀x∈L.take O,fV x=true from N)]
 rintro _ _ aa ⟨i,j,M,rfl,rfl,bb,bc,ae,z,af,ag,e,G⟩;have aC:Sem aa k sizes L:=U.row h G;rw[fh gd.u e.1,aO,al];refine⟨λS=>?_,λbd=>?_⟩
 .have S:j<L.length:=Ω
  obtain⟨x,J⟩:=aH (l:=L) S;have H:M[j]? =σ x:=by
   have h1:(M.drop j)[0]? =(L.drop j)[0]?:=by rw[af]
   rw[List.getElem?_drop,List.getElem?_drop,Nat.add_zero] at h1;rw[h1,J]
  have ai:M.drop (j+1)=L.drop (j+1):=by
   have h1:(M.drop j).drop 1=(L.drop j).drop 1:=by rw[af]
   rw[List.drop_drop,List.drop_drop] at h1;exact h1
  refine aV (λQ I=>∃ (B:Nat) (s:List cr),Q=Δ (B:Int)/\B<j+1/\s.length=L.length/\s.take B=(L.take (j+1)).filter fV/\s.drop (j+1)=L.drop (j+1)/\(∀x∈s,x∈L)/\e2 I g v s/\ah (λr=>leadsTo v r) w I) ?_ ?_
  .rintro _ I ⟨B,s,rfl,h1,W,aE,aF,aG,aI,aJ⟩;rw[aP,wrap_i64 Ω Ω];exact⟨⟨B,j+1,s,rfl,rfl,h1,S,W,aE,aF,aG,aI,aJ⟩,by simp only[bX];omega⟩
  .intro aA aj;rw[sS rfl e H];refine bD cV.i λaq I be aK aL=>?_;refine ch (vs:=ez x) cV.i rfl rfl (e.at H).one aL λak aM bf an=>?_;have X:Ext aa ak:=aK.put aM Ω;rw[bR cV.p cV.i rfl an.range];show am x7 pJ [jH x] ak _;obtain⟨bh,bi,aN⟩:=aC x (x5 J);refine (Cx ((e.ext X).at H) (aN.ext X)).mono ?_;rintro _ bj _ ⟨rfl,ao⟩;have C:=X.trans ao;rw[bG,Bool.not_not,ce];refine⟨λhk=>?_,λaQ=>?_⟩
   .rw[bR cV.p cV.i rfl (an.ext ao).range];refine MA rfl (e.ext C) Ω ((e.ext C).at H) λbk aR aS=>?_;rw[aP,wrap_i64 Ω Ω];refine aj _ _ ⟨i+1,M.set i x,rfl,Ω,by simp[ae],?_,?_,λy A=>?_,aS,(G.trans (C.ab _)).trans aR⟩
    .have Y:fV x=true:=hk;rw[vT J,if_pos Y,u9,c7 Ω,o9,List.take_set_of_le (p8 _),z]
    .rw[List.drop_set_of_lt Ω,ai]
    .rcases X8 A with A|rfl
     .exact ag y A
     .exact x5 J
   .have Y:¬fV x=true:=by rw[show fV x=false from aQ];simp
    exact aj _ _ ⟨i,M,rfl,Ω,ae,by rw[vT J,if_neg Y,z],ai,ag,e.ext C,G.trans (C.ab _)⟩
 .have aT:j=L.length:=Ω
  subst aT;rw[p9] at z;obtain⟨⟨bl,aU⟩,ap⟩:=e.1;rcases aU with⟨_,bm⟩|⟨cap,cs,ad,aW,bn,aX,aY,aZ⟩
  .omega
  subst ad;have a1:(ac x7 (V4 gd (.slice (σ ⟨g,0,ν⟩) M.length cap) (σ (Δ (i:Int))) ν ν) aa λa2=>
    aD x7 (Z2.clear_ #[gd] IL #[a2]) aa λu K=>
    ac x7 (V4 gd (.slice (σ ⟨g,0,ν⟩) M.length cap) ν (σ (Δ (i:Int))) ν) K λa6=>
    (λf w'=>ah (λr=>leadsTo (.slice (σ ⟨g,0,ν⟩) M.length cap) r) w w'/\e2 w' g f (L.filter fV)/\ ∀r,leadsTo f r->leadsTo (.slice (σ ⟨g,0,ν⟩) M.length cap) r) a6 K):=by
   rw[hK (l:=i) (h:=M.length) (m:=cap) gd.u cV.i (nf i _ rfl) jw fz Ω Ω (p8 _),if_neg Ω];simp only[Z3,T0];refine MI (g:=g) (o:=0+i*2) (n:=M.length-i) (k:=2) gd.u cV.i rfl ?_ aW Ω λK au a7=>?_
   .exact Cy Φ Φ
   rw[hK (l:=0) (h:=i) (m:=cap) gd.u cV.i jv (ng i _ rfl) fz Ω Ω (p8 _),if_neg Ω];simp only[Z3,T0,Nat.zero_mul,X0,Nat.sub_zero];have a8:(dM (x1.agg #[.slice ν 0 0,.pointer ν]).cells ((M.length-i)*2)).length=(M.length-i)*2:=oy _ _;have bo:(M.flatMap ez).length=M.length*2:=h9 ap;have av:(L.filter fV).length=i:=by rw[<-z,j6];omega
   have key:(λf w'=>ah (λr=>leadsTo (.slice (σ ⟨g,0,ν⟩) M.length cap) r) w w'/\e2 w' g f (L.filter fV)/\ ∀r,leadsTo f r->leadsTo (.slice (σ ⟨g,0,ν⟩) M.length cap) r) (.slice (σ ⟨g,0,ν⟩) (L.filter fV).length cap) K:=by
    refine⟨G.trans (au.mono λr _ he=>⟨_,_,_,rfl,he.symm⟩),⟨⟨⟨h9 (k:=2) (λy _=>rfl),.inr ⟨cap,_,rfl,a7,Ω,aX,by rw[lH,aY],?_⟩⟩,λy _=>rfl⟩,λy A=>?_⟩,λr q=>?_⟩
    .rw[av,<-z,<-qm i ap,<-aZ,List.take_take,me (by rw[a8];omega),U6,List.take_append_of_le_length (by rw[j6];omega),List.take_take];congr 1;omega
    .have aw:y∈M:=by rw[<-z] at A;exact T4 A
     exact (e.2 y aw).ab au λr q he=>(e.2 y aw).2.1 r q he
    .obtain⟨a,n,c,h1,W⟩:=q;cases h1;exact⟨_,_,_,rfl,W⟩
   rw[av] at key;exact key
  exact a1
theorem qz {k:o5} {g cap:Nat} {b:Option Addr} (h:au k e w g (.slice b n cap) l) (q:0<l.length):
  b=σ ⟨g,0,ν⟩/\n=l.length/\ ∃cs,ag w g e cs/\n<=cap/\cap<=maxLen/\cs.length=cap/\cs.take n=ints k l:=by
 obtain⟨_,⟨_,h1⟩|⟨r,cs,h1,a,f,j,m,p⟩⟩:=h
 .omega
 .cases h1;exact⟨rfl,rfl,cs,a,f,j,by simpa using m,by simpa using p⟩
theorem MO {g cap:Nat} (h:au .i64 ai w g (.slice (σ ⟨g,0,ν⟩) n cap) l) (m:j<l.length):aF .i64 w (.slice (σ ⟨g,j,ν⟩) (n-j) (cap-j)) (l.drop j):=by
 obtain⟨_,p,cs,a,h1,q,r,f⟩:=qz h Ω;have:=Jk (o:=j) (k:=n-j) (c:=cap-j) a Ω Ω Ω;refine aF.of (n:=n-j) ?_;have e:(cs.drop j).take (n-j)=ints .i64 (l.drop j):=by
  rw[<-List.drop_take,f,ints,ints,List.map_drop]
 rw[e] at this;exact this
theorem MP {g:Nat} (h:au .i64 ai w g sv l) (aT:l.length<=1000):
  am x7 H2 [sv] w λv w'=>ah (λr=>r=g) w w'/\au .i64 ai w' g v (dedup l l.length):=by
 refine az func203 ?_;rw[aW an.u h.ls];simp only[aO,al];refine⟨λaU=>⟨ah.refl _ _,?_⟩,λaX=>?_⟩
 .rw[sO (p8 _) (λi hi U=>Ω),p9];exact h
 obtain⟨n,s⟩:∃n,l.length=n:=⟨_,rfl⟩;obtain⟨cap,rfl⟩:∃cap,sv= .slice (σ ⟨g,0,ν⟩) n cap:=by
  obtain⟨_,⟨_,h1⟩|⟨ap,cs,h1,_⟩⟩:=id h
  .omega
  .exact⟨ap,by rw[h1,s]⟩
 obtain⟨_,_,_,_,aY,aq,_⟩:=qz h Ω;refine⟨λ_ t V=>∃j:Nat,t=Δ (j:Int)/\1<=j/\j<=n/\Ext w V/\ ∀i,i<j->0<i->l[i]? ≠l[i-1]?,λ_ t _=>n-(bX t).toNat,⟨1,rfl,Ω,Ω,Ext.refl _,λi h1 W=>Ω⟩,?_⟩;rintro aZ _ V ⟨j,rfl,a1,X,A,I⟩;rw[aW an.u (h.ls.ext A)];simp only[aO,al,er];refine⟨λav aa aw _ _=>?_,λa2=>⟨A.ab _,?_⟩⟩
 .have av:j<n:=Ω
  have B:=A.trans aw;have Y:=h.ls.ext B;obtain⟨a,J⟩:=aH (l:=l) (i:=j) Ω;obtain⟨b,K⟩:=aH (l:=l) (i:=j-1) Ω;rw[bc an.u ai.i Ψ Y J];simp only[dF];rw[wrap_i64 Ω Ω,fM (i:=j-1) Ω an.u ai.i Ψ Y K];simp only[bg,al,aP];refine⟨λL=>?_,λL=>?_⟩
  .subst L;rw[hK an.u ai.i (l:=j) (h:=n) (m:=cap) pN jw fz Ω Ω Ω,if_neg Ω];have ax:V5 (λx:Addr=>x.add (j*1)) (σ ⟨g,0,ν⟩)=σ ⟨g,j,ν⟩:=by simp[T0]
   rw[ax];have Z:dedup l (j+1)=l.take j:=by rw[vP Ω (by rw[J,K]),sO Ω I]
   refine⟨λM t N=>∃ (q e:Nat) (f:Λ),M=Δ (q:Int)/\t=Δ (e:Int)/\1<=e/\j+e<=n/\ah (λr=>r=g) w N/\au .i64 ai N g (.slice (σ ⟨g,0,ν⟩) n cap) f/\f.length=n/\
     q=(dedup l (j+e)).length/\f.take q=dedup l (j+e)/\q<=j+e-1/\ ∀i,j+e-1<=i->f[i]? =l[i]?,λ_ t _=>n-(bX t).toNat,
    ⟨j,1,l,rfl,rfl,Ω,Ω,B.ab _,h.ext B,s,by rw[Z,j6];omega,by rw[Z],Ω,λi _=>rfl⟩,?_⟩
   rintro _ _ N ⟨q,e,f,rfl,rfl,a6,a7,O,ac,ad,ae,C,ay,E⟩;rw[hJ an.u];simp only[aO,al,er];refine⟨λaf=>?_,λaf=>?_⟩
   .have af:j+e<n:=Ω
    refine aV (λM P=>∃ (q:Nat) (f:Λ),M=Δ (q:Int)/\ah (λr=>r=g) w P/\au .i64 ai P g (.slice (σ ⟨g,0,ν⟩) n cap) f/\f.length=n/\
     q=(dedup l (j+(e+1))).length/\f.take q=dedup l (j+(e+1))/\q<=j+(e+1)-1/\ ∀i,j+(e+1)-1<=i->f[i]? =l[i]?) ?_ ?_
    .rintro _ P ⟨q,f,rfl,h1,W,aB,aC,aD,aE,aF⟩;simp only[aP];rw[wrap_i64 Ω Ω];exact⟨⟨q,e+1,f,rfl,rfl,Ω,Ω,h1,W,aB,aC,aD,aE,aF⟩,by simp only[bX];omega⟩
    .intro aA ag a8 Q _ _;have G:=ac.ext Q;have R:=MO (j:=j) G Ω;obtain⟨y,H⟩:=aH (l:=l) (i:=j+e) Ω;obtain⟨z,S⟩:=aH (l:=l) (i:=j+e-1) Ω;have aj:(f.drop j)[e]? =σ y:=by rw[List.getElem?_drop,E _ Ω,H]
     have aG:(f.drop j)[e-1]? =σ z:=by rw[List.getElem?_drop,E _ Ω,<-S];congr 1;omega
     rw[bc an.u ai.i Ψ R aj];simp only[dF];rw[wrap_i64 Ω Ω,fM (i:=e-1) Ω an.u ai.i Ψ R aG];simp only[bm,al,aP];refine⟨λp=>?_,λp=>?_⟩
     .rw[bc an.u ai.i Ψ R aj,hj rfl an.u ai.i G Ω];refine hl ai.i G Ω λba aI bb aJ=>?_;rw[wrap_i64 Ω Ω];have ak:dedup l (j+e+1)=dedup l (j+e)++[y]:=vQ H (λ_=>by rw[H,S];simpa using p);refine ag _ _ ⟨q+1,_,rfl,(O.trans (Q.ab _)).trans aI,aJ,by simpa using ad,?_,?_,Ω,λi hi=>?_⟩
      .rw[<-S8,ak];simp;omega
      .rw[<-S8,ak,u9,c7 Ω,List.take_set_of_le (p8 _),C];rfl
      .rw[Y0 Ω];exact E i Ω
     .have p:y=z:=Z9.1 p;have ao:dedup l (j+e+1)=dedup l (j+e):=vP Ω (by rw[H,S,p]);exact ag _ _ ⟨q,f,rfl,O.trans (Q.ab _),G,ad,by rw[<-S8,ao];exact ae,by rw[<-S8,ao];exact C,Ω,λi hi=>E i Ω⟩
   .have hk:j+e=n:=Ω
    rw[hk] at ae C ay;obtain⟨_,_,cs,aK,_,_,bd,aL⟩:=qz ac Ω;simp only[maxLen] at aq;rw[hK an.u ai.i (l:=q) (h:=n) (m:=cap) pN jw fz Ω Ω Ω,if_neg Ω];have aM:V5 (λx:Addr=>x.add (q*1)) (σ ⟨g,0,ν⟩)=σ ⟨g,q,ν⟩:=by simp[T0]
    rw[aM];refine z6 an.u ai.i rfl rfl aK Ω Ω λbe aN bf aQ=>?_;rw[hK an.u ai.i (l:=0) (h:=q) (m:=cap) jv pO fz Ω Ω Ω,if_neg Ω];have aR:V5 (λx:Addr=>x.add (0*1)) (σ ⟨g,0,ν⟩)=σ ⟨g,0,ν⟩:=by simp[T0]
    rw[aR,s];refine⟨O.trans aN,?_⟩;rw[<-C];refine au.of (n:=q) ⟨Θ,.inr ⟨cap,_,Ξ,aQ,Ω,by simp only[maxLen];omega,by rw[lH];omega,?_⟩⟩;rw[U1];apply Y3;intro i;by_cases hi:i<q
    .rw[Z8 hi,nh _ _ _ Θ,if_neg Ω,ints,x8,Z8 hi];have:(cs.take n)[i]? =(ints .i64 f)[i]?:=by rw[aL]
     rw[Z8 Ω,ints,x8] at this;exact this
    .rw[Z6 Θ,Z6 Θ]
  .rw[wrap_i64 Ω Ω];refine⟨⟨j+1,rfl,Ω,Ω,B,λi hi U=>?_⟩,by simp only[bX];omega⟩;by_cases aS:i=j
   .subst aS;rw[J,K];intro he;exact L (b6 he)
   .exact I i Ω U
 .have X:j=n:=Ω
  rw[sO (p8 _) (by rw[s,<-X];exact I),p9];exact h.ext A
theorem MQ (y:n<=1000000):am x7 Is [.slice ν 0 0,Δ (n:Int)] w λv w'=>Ext w w'/\ ∃g,w.heap.size<=g/\au .i64 ai w' g v []:=by
 refine az func241 ?_;refine dg (λV=>w=V) ?_ ?_
 .rintro _ rfl;refine aV (λv w'=>Ext w w'/\ ∃g,w.heap.size<=g/\au .i64 ai w' g v []) (λ_ _ h=>h) λaA a=>?_;rw[z1 an.u,hJ an.u];simp only[dF];have e:X2.wrap (((0:Nat):Int)-((0:Nat):Int))=0:=Φ
  have f:X2.wrap ((n:Int)-0)=n:=by rw[wrap_i64 Ω Ω];omega
  rw[e,f];simp only[bU,al];refine⟨λh=>?_,λh=>a _ _ ⟨Ext.refl _,w.heap.size,p8 _,au.nil _ _ _ _⟩⟩;rw[z1 an.u,hK an.u ai.i (l:=0) (h:=0) (m:=0) jv pO fz Ω Ω Ω,if_pos rfl];refine Jj (k:=n) (xs:=[]) rfl an.u ai.u ai.i rfl ⟨rfl,0,0,ν,0,rfl,p8 _,X3 _,λh=>absurd h (Nat.lt_irrefl _),λj v h=>by simp at h⟩ Ω Ω Ω Ω λv g w' z J hm=>?_;obtain⟨_,⟨_,A⟩|⟨cap,cs,rfl,p,h1,q,r,B⟩⟩:=hm
  .omega
  rw[hJ an.u,hK an.u ai.i (l:=0) (h:=0) (m:=cap) jv pO fz Ω Ω Ω,if_neg Ω];have s:V5 (λx:Addr=>x.add (0*1)) (σ ⟨g,0,ν⟩)=σ ⟨g,0,ν⟩:=by simp[T0]
  rw[s];refine a _ _ ⟨J,g,Ω,au.of (n:=0) ⟨Ξ,.inr ⟨cap,cs,Ξ,p,Ω,q,r,Ξ⟩⟩⟩
 .intro aA a;simp only[aO,al];exact⟨λh=>Ω,λ_=>a _ rfl⟩
theorem MR {b:Λ} (J:aF .i64 w bf a) (L:aF .i64 w bv b) (P:a.length<=1000) (Q:b.length<=1000)
  (R:∀v w' g,Ext w w'->w.heap.size<=g->au .i64 ai w' g v (a++b)->K v w'):
  aD x7 (Y4 c5 2 #[(0,bf),(1,bv)]) w λt V=>am x7 H3 [t] V K:=by
 obtain⟨⟨A,B,C,S⟩,⟨E,G,H,U⟩⟩:(∃x n c,bf= .slice x n c)/\(∃x n c,bv= .slice x n c):=by
  obtain⟨_,_,_,x,c,h1,_⟩:=id J;obtain⟨_,_,_,y,d,W,_⟩:=id L;exact⟨⟨x,_,c,h1⟩,⟨y,_,d,W⟩⟩
 subst S;subst U;refine j8 c5.u an.i Ω (cs:=#[.slice A B C,.slice E G H]) Ψ λg V aw p q=>?_;have q:ag V g an [.slice A B C,.slice E G H]:=q;have key:∀i:Nat,i<2-> ∃v l,[x1.slice A B C,.slice E G H][i]? =σ v/\[a,b][i]? =σ l/\aF .i64 w v l/\l.length<=1000:=λi hi=>by
  match i,hi with
  |0,_=>exact⟨_,_,rfl,rfl,J,P⟩
  |1,_=>exact⟨_,_,rfl,rfl,L,Q⟩
 refine az func204 ?_;rw[hJ c5.u];refine bZ.range 2 (λi size aa=>Ext V aa/\ ∃n:Nat,n<=1000*i/\size=Δ (n:Int)) Ω ⟨Ext.refl _,0,Ω,rfl⟩ ?_ ?_
 .rintro i _ aa X hi ⟨f,n,Y,rfl⟩ Z;simp only[aO,al];refine⟨λ_=>?_,λh=>Ω⟩;obtain⟨v,l,ad,M,I,ab⟩:=key i hi;refine aV (λv N=>aa=N/\v=Δ ((n+l.length:Nat):Int)) ?_ ?_
  .rintro _ _ ⟨rfl,rfl⟩;simp only[aP];exact Z _ _ ⟨f,_,Ω,rfl⟩
  .intro aA ac;rw[e5 (b:=g) (o:=0) c5.u an.i hi (λ_=>rfl),ay Ψ ((q.ext f).cell (o:=0+i*1) (by rw[<-ad];congr 1;omega)),aW an.u (I.ext (p.trans f))];simp only[aP,aO,al];rw[wrap_i64 Ω Ω];exact⟨λh=>Ω,λ_=>ac _ _ ⟨rfl,by congr 1⟩⟩
 .rintro _ aa X ⟨f,n,Y,rfl⟩;simp only[aO,al];refine⟨λh=>Ω,λ_=>?_⟩;refine (MQ (n:=n) Ω).mono ?_;rintro v0 N _ ⟨O,ae,ax,af⟩;have aB:=p.size;have aC:=f.size;have aE:=O.size;have ah:=f.trans O;rw[hJ c5.u];refine bZ.range 2 (λi v s=>Ext V s/\ ∃m,V.heap.size<=m/\au .i64 ai s m v (([a,b].take i).flatten)/\(([a,b].take i).flatten).length<=1000*i) Ω ⟨ah,ae,Ω,af,Ξ⟩ ?_ ?_
  .rintro i v4 s aj hi ⟨j,m,ak,z,aG⟩ ao;simp only[aO,al];refine⟨λ_=>?_,λh=>Ω⟩;obtain⟨v,l,ad,M,I,ab⟩:=key i hi;rw[e5 (b:=g) (o:=0) c5.u an.i hi (λ_=>rfl),ay Ψ ((q.ext j).cell (o:=0+i*1) (by rw[<-ad];congr 1;omega))];refine iZ an.u ai.i rfl z (I.ext (p.trans j)) Ω Ω λaH ap aI aJ aq av=>?_;simp only[aP];have aK:=j.size;have e:([a,b].take (i+1)).flatten=([a,b].take i).flatten++l:=by rw[u9,M];simp
   refine ao _ _ ⟨j.then av (by rintro r aL rfl;omega),ap,Ω,by rw[e];exact aq,by rw[e,o4];omega⟩
  .rintro v4 s aj ⟨j,m,ak,z,_⟩;simp only[aO,al];refine⟨λh=>Ω,λ_=>R _ _ m (p.trans j) Ω ?_⟩;have e:([a,b].take 2).flatten=a++b:=Ξ
   rw[e] at z;exact z
def pa (f a h e vars:Λ):Prop:=∀p∈vars,p∈a->p∈e->hS f (fj a p)=hS h (fj e p)
def dr (a e f h vars:Λ):Λ:=vars.map λp=>max (hS a (fj e p)) (hS f (fj h p))
theorem Cz (a e f h vars:Λ):(dr a e f h vars).length=vars.length:=by simp[dr]
theorem sU {x:Int}:0<=fj l x↔x∈l:=by
 unfold fj;by_cases h:x∈l
 .rw[if_pos h];exact⟨λ_=>h,λ_=>Ω⟩
 .rw[if_neg h];exact⟨λh=>Ω,λa=>absurd a h⟩
theorem MS {g ay W aB:Nat} {E X:x1} {f m vars e:Λ} {aC:Int} {aD aE:Λ} (h1:dd w g ay sv f k aD) (Y:dd w W aB E m aC aE) (ad:aF .i64 w X vars) (aG:aF .i64 w bf a) (G:aF .i64 w bv e) (aI:gH a) (aJ:gH e) (bd:vars.length<=1000):
  am x7 H4 [X,Γ g,bf,Γ W,bv] w λv w'=>Ext w w'/\
   (¬pa f a m e vars->v= .tuple #[.slice ν 0 0,.bool false])/\
   (pa f a m e vars-> ∃x aq,v= .tuple #[x,.bool true]/\w.heap.size<=aq/\au .i64 ai w' aq x (dr f a m e vars)):=by
 have sub:∀ {w:x3} {g:Nat} {sv:x1} {k:Int} {a6:x1},ag w g cW [sv,Δ k,a6]->w.rangeAt g (0+0) [sv]:=λG=>nq G (by
  intro j v ad
  match j,ad with
  |0,ad=>exact ad)
 refine az func205 ?_;rw[aW an.u ad];refine jx an.u ai.i Ω Ω λgz V be Z aK=>?_;have aL:au .i64 ai V gz (.slice (σ ⟨gz,0,ν⟩) vars.length vars.length) (r8 vars.length 0):=au.of (n:=vars.length) (bW.full aK Ξ (by simp[maxLen];omega));generalize (x1.slice (σ ⟨gz,0,ν⟩) vars.length vars.length)=aM at*;rw[aW an.u (ad.ext Z)];have H:=Cz f a m e vars;refine jZ.range vars.length (λi _ _ aa=>Ext w aa/\au .i64 ai aa gz aM (upto (dr f a m e vars) 0 i)/\ ∀ (j:Nat) (p:Int),j<i->vars[j]? =σ p->p∈a->p∈e->hS f (fj a p)=hS m (fj e p)) Ω
  ⟨Z,by rw[p5,H];exact aL,λj p A=>Ω⟩ ?_ ?_
 .rintro i _ _ aa aN hi ⟨q,hm,I⟩ aQ;simp only[aO,al];refine⟨λ_=>?_,λh=>Ω⟩;obtain⟨p,s⟩:=aH (l:=vars) hi;rw[bc an.u ai.i Ψ (ad.ext q) s];refine (sP (aG.ext q) aI).mono ?_;rintro _ bg _ ⟨rfl,J⟩;refine (sP (G.ext (q.trans J)) aJ).mono ?_;rintro _ aR _ ⟨rfl,ab⟩;have ac:=(q.trans J).trans ab;refine aV (λv ae=>Ext aR ae/\ ∃c,v= .bool c/\(c=true↔p∈a/\p∈e/\hS f (fj a p)≠hS m (fj e p))) ?_ ?_
  .rintro _ ae ⟨ah,c,rfl,aj⟩;have ak:=ac.trans ah;rw[ce];refine⟨λaS=>⟨ak,λ_=>by first|rfl|trivial,λA=>?_⟩,λaf=>?_⟩
   .obtain⟨y,z,aT⟩:=aj.1 aS;exact absurd (A p (x5 s) y z) aT
   .simp only[er];intro bh ao _ _;have K:=ak.trans ao;obtain⟨⟨a6,gs,L,M,_⟩,_⟩:=h1.ext K;obtain⟨⟨aX,aY,N,O,_⟩,_⟩:=Y.ext K;rw[bV,aU cW.p rfl,bR (cs:=[sv]) bA.p bA.i rfl (sub L),bV,aU cW.p rfl,bR (cs:=[E]) bA.p bA.i rfl (sub N)];refine (qf M.ls).mono ?_;rintro _ bi _ ⟨rfl,B⟩;refine⟨.inl B,?_⟩;refine (qf (O.ls.ext B)).mono ?_;rintro _ bj _ ⟨rfl,ap⟩;have aZ:=(K.trans B).trans ap;have av:=hm.ext ((((J.trans ab).trans ah).trans ao).trans (B.trans ap));have bk:(upto (dr f a m e vars) 0 i).length=vars.length:=by rw[p4,H]
    rw[uP,hj rfl an.u ai.i av Ω];refine hl ai.i av Ω λbl a1 _ aw=>?_;simp only[aP];have a2:(dr f a m e vars)[i]? =σ (max (hS f (fj a p)) (hS m (fj e p))):=by
     unfold dr;rw[x8,s];rfl
    rw[p7 a2] at aw;refine aQ _ _ _ ⟨aZ.then a1 (by rintro r bn rfl;omega),aw,λj a7 A P y z=>?_⟩;by_cases a8:j=i
    .subst a8;rw[s] at P;cases P;refine Decidable.byContradiction λba=>?_;have:=aj.2 ⟨y,z,ba⟩;rw[af] at this;cases this
    .exact I j a7 Ω P y z
  .intro aA Q;simp only[er,cP,al];intro bo C _ _;refine⟨λR=>⟨λS=>?_,λS=>⟨.inl (Ext.refl _),Q _ _ ⟨C,false,rfl,⟨(λh=>by cases h),λh=>absurd (sU.2 h.2.1) S⟩⟩⟩⟩,λR=>⟨.inl (Ext.refl _),Q _ _ ⟨C,false,rfl,⟨(λh=>by cases h),λh=>absurd (sU.2 h.1) R⟩⟩⟩⟩;have ax:=ac.trans C;obtain⟨⟨a6,gs,L,M,_⟩,_⟩:=h1.ext ax;obtain⟨⟨aX,aY,N,O,_⟩,_⟩:=Y.ext ax;rw[bV,aU cW.p rfl,bR (cs:=[sv]) bA.p bA.i rfl (sub L),bV,aU cW.p rfl,bR (cs:=[E]) bA.p bA.i rfl (sub N)];refine (qf M.ls).mono ?_;rintro _ bp _ ⟨rfl,U⟩;refine⟨.inl U,?_⟩;refine (qf (O.ls.ext U)).mono ?_;rintro _ bq _ ⟨rfl,bb⟩;simp only[bm];refine Q _ _ ⟨(C.trans U).trans bb,_,rfl,?_⟩;rw[decide_eq_true_iff];exact⟨λh=>⟨sU.1 R,sU.1 S,h⟩,λh=>h.2.2⟩
 .rintro _ _ aa aN ⟨q,hm,I⟩;simp only[aO,al];refine⟨λh=>Ω,λ_=>?_⟩;have A:pa f a m e vars:=λp s y z=>by
   obtain⟨i,hi,he⟩:=List.getElem_of_mem s;exact I i p hi (by rw[x6 hi,he]) y z
  rw[<-H,p6] at hm;exact⟨q,λh=>absurd A h,λ_=>⟨_,gz,rfl,Ω,hm⟩⟩
def vU (a e vars:Λ):Prop:=gH vars/\ ∀x,x∈vars↔x∈a\/x∈e
def nE (a j e f m h vars:Λ) (k:Int):Λ:=
 (X4 (aN (dr a e f h vars)).toNat).map λ(q:Nat)=>min (bj a j (e1 (cS (dr a e f h vars) q) vars e)+bj f m (e1 (cS (dr a e f h vars) q) vars h)) k
theorem CA (a j e f m h vars:Λ) (k:Int):(nE a j e f m h vars k).length=(aN (dr a e f h vars)).toNat:=by simp[nE]
theorem sV {s cs:Λ} (hk:right k) (h:∀x∈cs,cq x k):cq (bj s cs t) k:=by
 have a:cq 0 k:=⟨hk,Int.le_refl _,by have:=hk.1;omega⟩;unfold bj;split
 .rename_i n _;rw[v8];cases e:cs[n.toNat]? with
  |none=>exact a
  |some x=>exact h x (x5 e)
 .exact a
def Fits (s l:Λ):Prop:=l.length=s.length/\qx l
def qA (e:Int):x1:=.tuple #[.pointer ν,.slice ν 0 0,Δ e]
def CB (w:x3) (f q a h r e:Λ) (k j:Int) (v:x1) (w':x3):Prop:=
 Ext w w'/\(¬(Fits f a/\Fits h e)->v=qA 1)/\
  (Fits f a/\Fits h e-> ∃vars,vU a e vars/\(¬pa f a h e vars->v=qA 1)/\(pa f a h e vars->(k≠j->v=qA 3)/\
   (k=j->¬b1 (dr f a h e vars)->v=qA 1)/\(k=j->b1 (dr f a h e vars)->4096<aN (dr f a h e vars)->v=qA 5)/\
   (k=j->b1 (dr f a h e vars)->aN (dr f a h e vars)<=4096-> ∃m s x p,v= .tuple #[Γ m,p,Δ 0]/\
    dd w' m s x (dr f a h e vars) k (nE f q a h r e vars k)/\aF .i64 w' p vars)))
theorem MT {g bN ga bO:Nat} {bP:x1} {z A f y:Λ} {aW:Int} {G H:Λ} (h1:dd w g bN sv z k G) (az:dd w ga bO bP A aW H) (aB:aF .i64 w bf f) (Q:aF .i64 w bv y)
  (hk:right k) (cA:∀x∈G,cq x k) (cB:∀x∈H,cq x aW):
  am x7 Hs [Γ g,bf,Γ ga,bv] w (CB w z G f A H y k aW):=by
 have cC:=aB.cells;have cD:=Q.cells;have cE:=h1.2.2.1;have cF:=az.2.2.1;have sub:∀ {w:x3} {g:Nat} {sv:x1} {k:Int} {a6:x1},ag w g cW [sv,Δ k,a6]->w.rangeAt g (0+0) [sv]:=λQ=>nq Q (by
  intro j v ad
  match j,ad with
  |0,ad=>exact ad)
 refine h2 func152 ?_;refine be λg1 V dN bS I=>?_;refine be λbT aa dO bl K=>?_;refine be λbU dP dQ aX L=>?_;refine be λbW Z dR aC M=>?_;have dS:=I.lt;have dT:=K.lt;have dU:=L.lt;have dV:=M.lt;have dW:=bS.size;have dX:=bl.size;have dY:=aX.size;have dZ:=aC.size;have ac:=((bS.trans bl).trans aX).trans aC;have I:ag Z g1 eP [Γ g]:=((I.ext bl).ext aX).ext aC;have K:ag Z bT an [bf]:=by rw[cC.1] at K;exact (K.ext aX).ext aC
 have L:ag Z bU eP [Γ ga]:=L.ext aC;have M:ag Z bW an [bv]:=by rw[cD.1] at M;exact M
 refine aV (λv bX=>v= .bool false/\Z=bX) ?_ ?_
 rotate_left
 .intro aA aY;rw[ay Ψ (I.Qz rfl),db eP.u];simp only[Z4,a1];rw[ay Ψ (L.Qz rfl),db eP.u];exact aY _ _ ⟨rfl,rfl⟩
 rintro _ _ ⟨rfl,rfl⟩;simp only[a1];refine aV (λv bn=>Ext Z bn/\ ∃c,v= .bool c/\(c=true↔¬(Fits z f/\Fits A y))) ?_ ?_
 rotate_left
 .intro aA aY;rw[ay Ψ (I.Qz rfl),ay Ψ (K.Qz rfl)];refine (Cr (h1.ext ac) (aB.ext ac)).mono ?_;rintro _ bX _ ⟨ae,c,rfl,aD⟩;simp only[bG,ce];refine⟨λaZ=>aY _ _ ⟨ae,true,rfl,λ_ h=>?_,λ_=>rfl⟩,λaf=>?_⟩
  .have:=aD.2 h.1;rw[this] at aZ;cases aZ
  .have cG:c=true:=by cases c<;>simp_all
   rw[ay Ψ ((L.ext ae).Qz rfl),ay Ψ ((M.ext ae).Qz rfl)];refine (Cr ((az.ext ac).ext ae) ((Q.ext ac).ext ae)).mono ?_;rintro _ ea _ ⟨cH,d,rfl,bY⟩;simp only[bG];refine aY _ _ ⟨ae.trans cH,_,rfl,λh aJ=>?_,λh=>?_⟩
   .have:=bY.2 aJ.2;rw[this] at h;cases h
   .cases d with
    |false=>rfl
    |true=>exact absurd ⟨aD.1 cG,bY.1 rfl⟩ h
 rintro _ bn ⟨aE,c,rfl,aD⟩;have bt:=ac.trans aE;rw[ce];refine⟨λaZ eb cI _=>⟨bt.trans cI,λ_=>rfl,λh=>absurd h (aD.1 aZ)⟩,λaf=>?_⟩;have aG:Fits z f/\Fits A y:=Classical.byContradiction λh=>by
  have:=aD.2 h;rw[af] at this;cases this
 obtain⟨⟨ec,cJ⟩,ed,cK⟩:=id aG;have ee:=cE.1;have ef:=cF.1;rw[ay Ψ ((K.ext aE).Qz rfl),ay Ψ ((M.ext aE).Qz rfl)];refine MR (aB.ext bt) (Q.ext bt) Ω Ω λeg eh ei bZ ej cL=>?_;refine vO cL.ls (by rw[o4];omega) λek em en m b0 eo b2 cM cN=>?_;have cO:=b2.length_eq;rw[o4] at cO;refine (MP cN Ω).mono ?_;rintro a2 b3 _ ⟨cP,bu⟩;have ep:=aE.size;have er:=bZ.size;have es:=b0.size;have b4:Ext bn b3:=(bZ.trans b0).then cP (by rintro r a8 rfl;omega);obtain⟨cQ,cR⟩:=Cq cM (j:=m.length) (p8 _);have et:=Cp m m.length;have O:vU f y (dedup m m.length):=⟨cQ,λx=>by rw[cR,p9,b2.mem_iff,o7]⟩;generalize dedup m m.length=vars at*;refine bD an.i λa7 eu ev b5 cT=>?_;refine bq an.i bu.ls.cells.1 bu.ls.cells.2 cT (by simp[x1.cells]) λb6 cU ew aH=>?_;have ey:=b4.size;have ez:=b5.size;have bw:Ext b3 b6:=b5.then cU (by rintro r a8 rfl;omega);have aj:=(aE.trans b4).trans bw;have aK:=ac.trans aj;have eA:=aH.lt;have b7:=bu.ls.ext bw;have aH:ag b6 a7 an [a2]:=aH;rw[ay Ψ (aH.Qz rfl),ay Ψ ((I.ext aj).Qz rfl),ay Ψ ((K.ext aj).Qz rfl),ay Ψ ((L.ext aj).Qz rfl),ay Ψ ((M.ext aj).Qz rfl)];refine (MS (h1.ext aK) (az.ext aK) b7 (aB.ext aK) (Q.ext aK) cJ.up cK.up Ω).mono ?_;rintro eB eC _ ⟨aL,cV,cX⟩;have b8:=aK.trans aL;by_cases ak:pa z f A y vars
 rotate_left
 .rw[cV ak,bo,bp];simp only[bG,X9,bQ];intro eD cY _;exact⟨b8.trans cY,λh=>absurd aG h,λ_=>⟨vars,O,λ_=>rfl,λh=>absurd h ak⟩⟩
 obtain⟨xs,aq,rfl,eE,cZ⟩:=cX ak;rw[bo,bp];simp only[bG,Y6,a1];intro R ao _ _;have ba:=(aj.trans aL).trans ao;have av:=b8.trans ao;have I:=I.ext ba;have K:=K.ext ba;have L:=L.ext ba;have M:=M.ext ba;have c0:=(aH.ext aL).ext ao;obtain⟨⟨a6,gs,b9,eF,_⟩,_⟩:=h1.ext av;obtain⟨⟨eH,eI,c1,eJ,_⟩,_⟩:=az.ext av;rw[ay Ψ (I.Qz rfl),aQ cW.p 1 b9 rfl,ay Ψ (L.Qz rfl),aQ cW.p 1 c1 rfl];simp only[bm,al];refine⟨λW eK c2 _=>⟨av.trans c2,λh=>absurd aG h,λ_=>⟨vars,O,λh=>absurd ak h,λ_=>⟨λ_=>rfl,λh=>absurd h W,λh=>absurd h W,λh=>absurd h W⟩⟩⟩,λW=>?_⟩;have W:k=aW:=Z9.1 W;subst W;rw[ay Ψ (I.Qz rfl),aQ cW.p 1 b9 rfl];have c3:=cZ.ext ao;refine (uX c3.ls).mono ?_;rintro aI aM _ ⟨ca,c4,c5,_,c6⟩;have eL:=bw.size;have eM:=aL.size;have eN:=ao.size;have eO:=ca.size;obtain⟨aO,e,rfl,eQ,bb⟩:∃ (aO:Option Addr) (e:Int),aI= .tuple #[.pointer aO,Δ e]/\(e=0->aO≠ν)/\((e=1/\¬b1 (dr z f A y vars))\/(e=5/\b1 (dr z f A y vars)/\4096<aN (dr z f A y vars))\/(e=0/\b1 (dr z f A y vars)/\aN (dr z f A y vars)<=4096/\
   ∃C B E,aO=σ ⟨C,0,ν⟩/\R.heap.size<=C/\R.heap.size<=B/\(∀r,leads E r->R.heap.size<=r)/\dd aM C B E (dr z f A y vars) k (r8 (aN (dr z f A y vars)).toNat 0))):=by
  by_cases U:b1 (dr z f A y vars)
  .by_cases P:aN (dr z f A y vars)<=4096
   .obtain⟨C,B,E,c7,c8,c9,da,dc⟩:=c6 U P ⟨hk,Ω,by have:=hk.1;omega⟩;exact⟨_,_,c7,(λ_ h=>by cases h),.inr (.inr ⟨rfl,U,P,C,B,E,rfl,c8,c9,da,dc⟩)⟩
   .exact⟨_,_,c5 U Ω,(λh=>Ω),.inr (.inl ⟨rfl,U,Ω⟩)⟩
  .exact⟨_,_,c4 U,(λh=>Ω),.inl ⟨rfl,U⟩⟩
 rw[bo,bp];refine bD eP.i λcb eR eS cc aP=>?_;refine bq eP.i rfl rfl aP (by simp[x1.cells]) λde df eU aP=>?_;have eV:=cc.size;have bx:Ext aM de:=cc.then df (by rintro r a8 rfl;omega);have cd:=ca.trans bx;have dg:=av.trans cd;have eW:=aP.lt;simp only[bm,al];refine⟨λdh eX di _=>⟨dg.trans di,λh=>absurd aG h,λ_=>⟨vars,O,λh=>absurd ak h,λ_=>⟨λh=>absurd rfl h,λ_ U=>?_,λ_ U P=>?_,λ_ U P=>?_⟩⟩⟩,λeY=>?_⟩
 .rcases bb with⟨rfl,_⟩|⟨_,h,_⟩|⟨_,h,_⟩
  .rfl
  .exact absurd h U
  .exact absurd h U
 .rcases bb with⟨_,h⟩|⟨rfl,_⟩|⟨_,_,h,_⟩
  .exact absurd U h
  .rfl
  .omega
 .rcases bb with⟨_,h⟩|⟨_,_,h⟩|⟨h,_⟩
  .exact absurd U h
  .omega
  .exact absurd h dh
 obtain⟨bc,dj,C,B,E,rfl,eZ,e0,e2,bd⟩:b1 (dr z f A y vars)/\aN (dr z f A y vars)<=4096/\
   ∃C B E,aO=σ ⟨C,0,ν⟩/\R.heap.size<=C/\R.heap.size<=B/\(∀r,leads E r->R.heap.size<=r)/\dd aM C B E (dr z f A y vars) k (r8 (aN (dr z f A y vars)).toNat 0):=by
  rcases bb with⟨h,_⟩|⟨h,_⟩|⟨_,h⟩
  .omega
  .omega
  .exact h
 obtain rfl:e=0:=Ω
 have dk:(dr z f A y vars).length=vars.length:=Cz _ _ _ _ _;have e3:=prod_bound bc;obtain⟨N,bg⟩:∃N:Nat,(aN (dr z f A y vars)).toNat=N:=⟨_,rfl⟩;rw[bg] at bd;have e4:0<N:=Ω
 have dl:=bd.ext bx;obtain⟨⟨bz,cg,ch,ci,dm⟩,⟨cj,ck,_⟩,_,e5⟩:=id dl;have e6:C<aM.heap.size:=by obtain⟨⟨_,_,q,_⟩,_⟩:=id bd;exact q.lt
 have e7:B<aM.heap.size:=by obtain⟨⟨_,_,_,_,q⟩,_⟩:=id bd;exact sJ q Θ
 rw[ay Ψ (aP.Qz rfl),bV,aU cW.p rfl,bR (cs:=[E]) bA.p bA.i rfl (sub ch)];refine vt.mono ?_;rintro _ aR _ ⟨X,bh,rfl,e8,cl⟩;have e9:=bx.size;have fa:=X.size;let S:Nat->Prop:=λr=>r=B;let aw:=nE z G f A H y vars k;have bB:aw.length=N:=by simp only[aw];rw[CA,bg]
 have dn:=(b7.ext aL).ext ao;let dp:x3->Prop:=λw'=>ag w' g1 eP [Γ g]/\ag w' bT an [bf]/\ag w' bU eP [Γ ga]/\ag w' bW an [bv]/\ag w' a7 an [a2]/\aF .i64 w' a2 vars/\
  ag w' cb eP [Γ C]/\ag w' C cW [E,Δ k,bz]/\dd w' g bN sv z k G/\dd w' ga bO bP A k H/\aF .i64 w' bf f/\aF .i64 w' bv y/\au .i64 ai w' cg E (dr z f A y vars)/\ag w' bh bA [E]/\aR.heap.size<=w'.heap.size
 have cm:=cd.trans X;have aS:∀ {a:x3},ah S aR a->dp a:=by
  intro a J;have Y:Ext R a:=cm.put J Ω;have bi:=av.trans Y;exact⟨I.ext Y,K.ext Y,L.ext Y,M.ext Y,c0.ext Y,dn.ext Y,(aP.ext X).ab J (by show ¬(cb=B);omega),(ch.ext X).ab J (by show ¬(C=B);exact cj),h1.ext bi,az.ext bi,aB.ext bi,Q.ext bi,
   br (ci.ext X) J (λr a8 he=>ck ((show r=B from he)▸a8)),cl.ab J (by show ¬(bh=B);omega),J.size⟩
 have cn:=vr (g:=bh) (B0:=aR.heap.size) (sv:=E) bc;rw[bg] at cn;refine og.old ⟨Nat,false,lA,#[Γ bh],0,_,_,_,λq w'=>ah S aR w'/\au .i64 ap w' B bz (upto aw 0 q),λ_ _ _=>False,rfl,cn.s,
  ?_,λ_ _ J h=>⟨h.1.ext J,h.2.1.ext J,Y9 h.2.2 J.size⟩,λ_ _ _ J h=>⟨h.1.trans (J.ab S),h.2.ext J⟩,λ_ _ _ _ _ h=>h,⟨cl,(ci.ext X).ls,p8 _⟩,⟨ah.refl _ _,?_⟩,?_,?_,λ_ _ h=>h.elim,λ_ _ _ h=>h.elim⟩
 .rintro _ _ _ _ ⟨_,_,_,_,rfl,_⟩;rfl
 .rw[p5,bB];exact dm.ext X
 .rintro _ aI q _ fb ⟨_,_,fc⟩ ⟨bC,rfl,fd,gt,dq,fe,cp⟩ ⟨bk,ds⟩;cases dq;let x:=cS (dr z f A y vars) (q:Int);have cr:x.length=vars.length:=by simp only[x];rw[jb,dk]
  intro ff dt _ _;intro fg du _ _;have bE:=dt.trans du;obtain⟨f1,f2,f3,f4,f5,f6,f7,f8,f9,f10,f11,f12,f13,f14,f15⟩:=aS (bk.trans (bE.ab S));rw[ay Ψ (f1.Qz rfl),ay Ψ (f5.Qz rfl),ay Ψ (f2.Qz rfl)];refine (Cs (cp.ls.ext bE) f6 f11 O.1 (λp P=>(O.2 p).2 (.inl P)) cr Ω).mono ?_;rintro fh fi _ ⟨bF,fj,fk,dv⟩;refine⟨.inl bF,?_⟩;refine (uY (f9.ext bF) dv.ls).mono ?_;rintro _ fm _ ⟨rfl,dw⟩;obtain⟨dx,dy⟩:=vN z (e1 x vars f) G;have dz:oB z (e1 (cS (dr z f A y vars) (q:Int)) vars f) G= .tuple #[Δ (bj z G (e1 x vars f)),Δ dx]:=dy;rw[dz,bo,bp];intro fo dA _ _;have bH:=((bE.trans bF).trans dw).trans dA;obtain⟨f1,f2,f3,f4,f5,f6,f7,f8,f9,f10,f11,f12,f13,f14,f15⟩:=aS (bk.trans (bH.ab S));rw[ay Ψ (f3.Qz rfl),ay Ψ (f5.Qz rfl),ay Ψ (f4.Qz rfl)];refine (Cs (cp.ls.ext bH) f6 f12 O.1 (λp P=>(O.2 p).2 (.inr P)) cr Ω).mono ?_;rintro fp fq _ ⟨bI,fs,ft,dC⟩;refine⟨.inl bI,?_⟩;refine (uY (f10.ext bI) dC.ls).mono ?_;rintro _ fu _ ⟨rfl,dD⟩;obtain⟨dE,dF⟩:=vN A (e1 x vars y) H;have dG:oB A (e1 (cS (dr z f A y vars) (q:Int)) vars y) H= .tuple #[Δ (bj A H (e1 x vars y)),Δ dE]:=dF;rw[dG,bo,bp];intro fv dH _ _;have bJ:=((bH.trans bI).trans dD).trans dH;obtain⟨f1,f2,f3,f4,f5,f6,f7,f8,f9,f10,f11,f12,f13,f14,f15⟩:=aS (bk.trans (bJ.ab S));rw[ay Ψ (f7.Qz rfl),aQ cW.p 2 f8 rfl,ay Ψ (f7.Qz rfl),aQ cW.p 1 f8 rfl];refine vq.mono ?_;rintro _ fw _ ⟨rfl,bK⟩;refine⟨.inl bK,?_⟩;have dI:ny (bj z G (e1 x vars f)) (bj A H (e1 x vars y)) k= .tuple #[Δ (min (bj z G (e1 x vars f)+bj A H (e1 x vars y)) k),Δ 0]:=if_pos ⟨sV hk cA,sV hk cB⟩;rw[dI,iw (v:=Δ (min (bj z G (e1 x vars f)+bj A H (e1 x vars y)) k)) rfl,iw (v:=Δ 0) rfl];have ct:=ds.ext (bJ.trans bK);have fx:(upto aw 0 q).length=N:=by rw[p4,bB]
  rw[hj rfl ax.u ap.i ct Ω];refine hl ap.i ct Ω λdJ dK fy cu=>?_;have cw:ah S aR dJ:=(bk.trans ((bJ.trans bK).ab S)).trans (dK.mono λr _ h=>h);obtain⟨f1,f2,f3,f4,f5,f6,f7,f8,f9,f10,f11,f12,f13,f14,f15⟩:=aS cw;have dL:aw[q]? =σ (min (bj z G (e1 x vars f)+bj A H (e1 x vars y)) k):=by
   simp only[aw,nE];rw[x8,List.getElem?_range (by rw[bg];exact bC)];rfl
  rw[p7 dL] at cu;exact⟨⟨f14,f13.ls,f15⟩,⟨cw,cu⟩,λh=>by cases h⟩
 .rintro q fz bC ⟨cz,bL⟩;rw[show q=N from bC] at bL;intro fA bM _ _;obtain⟨f1,f2,f3,f4,f5,f6,f7,f8,f9,f10,f11,f12,f13,f14,f15⟩:=aS (cz.trans (bM.ab S));rw[ay Ψ (f7.Qz rfl),ay Ψ (f5.Qz rfl)];intro fB aT _;rw[<-bB,p6] at bL;have dM:=av.trans cm;refine⟨((dM.put cz Ω).trans bM).trans aT,λh=>absurd aG h,λ_=>⟨vars,O,λh=>absurd ak h,λ_=>⟨λh=>absurd rfl h,λ_ h=>absurd bc h,λ_ _ h=>Ω,λ_ _ _=>⟨C,B,E,a2,rfl,⟨⟨bz,cg,f8.ext aT,f13.ext aT,(bL.ext bM).ext aT⟩,⟨cj,ck,dj⟩,bc,CA _ _ _ _ _ _ _ _⟩,f6.ext aT⟩⟩⟩⟩
theorem gH.pair (h:gH l):l.Pairwise (·< ·):=V3.2 λi j hi a e=>h i j _ _ e (x6 hi) (x6 a)
theorem MU {m:Λ} (e:gH l) (hm:gH m) (h:∀x,x∈l↔x∈m):l=m:=by
 have f:l.Nodup:=e.pair.imp λh=>Ω
 have j:m.Nodup:=hm.pair.imp λh=>Ω
 exact List.Perm.eq_of_pairwise (le:=(·<= ·)) (λa b _ _ h1 p=>Int.le_antisymm h1 p) (e.pair.imp λh=>Int.le_of_lt h) (hm.pair.imp λh=>Int.le_of_lt h) ((List.perm_ext_iff_of_nodup f j).2 h)
theorem MV {vars:Λ} (h:vU l l vars) (hu:gH l):vars=l:=MU h.1 hu λx=>by rw[h.2];simp
theorem vV (h:l.Pairwise (·< ·)):gH l:=λi j x y e J f=>by
 have h1:=x4.1 J;have a:=x4.1 f;have:=V3.1 h i j h1.1 a.1 e;rw[h1.2,a.2] at this;exact this
theorem MW {x:Λ} (hu:l.Nodup) (h:x.length=l.length):e1 x l l=x:=by
 refine Y3 λi=>?_;unfold e1;cases a:l[i]? with
 |none=>rw[x8,a,Z6 (by have:=List.getElem?_eq_none_iff.1 a;omega)];rfl
 |some v=>
  have hi:=(x4.1 a).1;rw[x8,a,Z3,qv hu a,v8,x6 (show i<x.length by omega)];rfl
theorem CC {s:Λ} (hu:gH l) (h:s.length=l.length):dr s l s l l=s:=by
 refine Y3 λi=>?_;unfold dr;cases a:l[i]? with
 |none=>rw[x8,a,Z6 (by have:=List.getElem?_eq_none_iff.1 a;omega)];rfl
 |some v=>
  have hi:=(x4.1 a).1;rw[x8,a,Z3,vR hu a,Int.max_self,x6 (show i<s.length by omega)];unfold hS;rw[if_pos Ω,v8,u6,x6 (show i<s.length by omega)];rfl
theorem MX {s b:Λ} (hu:l.Pairwise (·< ·)) (h:s.length=l.length) (U:dG s) (e:a.length=(aN s).toNat) (f:b.length=(aN s).toNat):nE s a l s b l l k=dU k a b:=by
 have j:l.Nodup:=hu.imp λh=>Ω
 unfold nE;rw[CC (vV hu) h,LI U e f];apply List.map_congr_left;intro q _;rw[MW j (by rw[jb,h])]
theorem MY {s b:Λ} (hu:l.Pairwise (·< ·)) (A:∀x∈l,0<=x) (h:s.length=l.length) (U:b1 s) (B:aN s<=4096) (C:a.length=(aN s).toNat) (E:b.length=(aN s).toNat) (f:CB w s a l s b l k k v w'):
  Ext w w'/\ ∃e j m q,v= .tuple #[Γ e,q,Δ 0]/\dd w' e j m s k (dU k a b):=by
 obtain⟨J,_,f⟩:=f;have r:=vV hu;have y:Fits s l:=⟨h.symm,Mn r A⟩;obtain⟨vars,ad,_,F⟩:=f ⟨y,y⟩;have G:=MV ad r;subst G;obtain⟨_,_,_,z⟩:=F λp I K L=>rfl;rw[CC r h,MX hu h U.2 C E] at z;obtain⟨e,j,m,q,rfl,H,_⟩:=z rfl U B;exact⟨J,e,j,m,q,rfl,H⟩
theorem MZ {s:Λ} (U:dG s):(bi s).Nodup:=(Ci U).imp λ{a b} h he=>by subst he;omega
theorem M0 {s:Λ} {i:Nat} (U:dG s) (hi:(bi s)[i]? =σ t) (a:(bi s)[j]? =σ t):i=j:=kk (MZ U) hi a
theorem M1 {s:Λ} (U:dG s) (h:dh s t):∃j:Nat,(bi s)[j]? =σ t:=X1.1 ((Ch U).2 h)
theorem M2 {P:W5} {t:r9} {cx cy:Bool} {a b:Bool} {K:x1->Prop} (e:P.underlying t=σ .bool):ac P (aL .eql t cx cy (.bool a) (.bool b)) w K=K (.bool (a == b)):=
 uO (λ_=>rfl) rfl λw' _=>run_equalIn_bool' (P:=P) (w:=w') 9999 t a b e
theorem sW {g:Nat} {d:List (x1×x1)} (h:ag w g e cs) (hm:c3 w m d) (a:ah (λr=>r=m) w w'):ag w' g e cs:=h.ab a (λhe=>sK h hm he)
theorem CD {g:Nat} {k:o5} {d:List (x1×x1)} (h:au k e w g v l) (hm:c3 w m d) (a:ah (λr=>r=m) w w'):au k e w' g v l:=br h a (λ_ f he=>Ck h hm f he)
def sX (cs:Λ) (o:Int):Prop:=o∈cs/\ ∀d∈cs,cs.count d<cs.count o\/(cs.count d=cs.count o/\o<=d)
theorem M3 {i:Nat} {x:Int} (h:l[i]? =σ x) (y:Int):(l.take (i+1)).count y=(l.take i).count y+if y=x then 1 else 0:=by
 rw[u9,h,List.count_append];congr 1;simp only[o9,List.count_singleton];by_cases a:y=x
 .subst a;simp
 .rw[if_neg a,if_neg (by simpa using λh=>a h.symm)]
def gI (p:Int×Int):x1×x1:=(Δ p.1,Δ p.2)
theorem qB:Keys x7 ap λv=>∃n,v=Δ n:=Keys.int ap.u
theorem qC (E:List (Int×Int)):∀p∈E.map gI,∃n,p.1=Δ n:=λp a=>by
 obtain⟨q,_,rfl⟩:=l9.1 a;exact⟨_,rfl⟩
def vW (cs:Λ) (E:List (Int×Int)):Prop:=(∀x,x∈E.map (·.1)↔x∈cs)/\ ∀p∈E,p.2=(cs.count p.1:Nat)
theorem CE {cs:Λ} {E:List (Int×Int)} (h:vW cs E) {x:Int} (J:x∈cs):∃j:Nat,E[j]? =σ (x,((cs.count x:Nat):Int)):=by
 obtain⟨p,a,rfl⟩:=l9.1 ((h.1 x).2 J);obtain⟨j,e⟩:=X1.1 a;exact⟨j,by rw[e,<-h.2 p a]⟩
theorem CF {au:x1} {cs:Λ} (h:aF .i64 w au cs) (av:cs≠[]) (bh:cs.length<=1000000):am x7 rK [au] w λv w'=>Ext w w'/\ ∃o,v=Δ o/\sX cs o:=by
 refine az func215 ?_;refine aD.cu (sq λm V hm U aM bi=>?_);rw[aW ax.u (h.ext U)];refine cz.range cs.length (λi aa=>ah (λr=>r=m) V aa/\ ∃E,c3 aa m (E.map gI)/\vW (cs.take i) E) Ω ⟨ah.refl _ _,[],aM,by simp[vW]⟩ ?_ ?_
 .rintro i aa aN hi ⟨G,E,A,f⟩ aw;obtain⟨x,W⟩:=aH (l:=cs) hi;have H:Ext w aa:=U.put G Ω;have aQ:∀y,(cs.take i).count y<=1000000:=λy=>by
   have:=List.count_le_length (a:=y) (l:=cs.take i);rw[j6] at this;omega
  refine bH Ω ?_;rw[bc ax.u ap.i Ψ (h.ext H) W];have O:=M3 W;have ay:∀y,y∈cs.take (i+1)↔y∈cs.take i\/y=x:=λy=>by
   rw[u9,W];simp
  by_cases I:x∈cs.take i
  .obtain⟨j,X⟩:=CE f I;have P:(E.map gI)[j]? =σ (Δ x,Δ (((cs.take i).count x:Nat):Int)):=by rw[x8,X];rfl
   rw[qg lC.u qB A (qC E) ⟨_,rfl⟩ P];simp only[Bool.false_eq_true,if_false];have:=aQ x;rw[aP,wrap_i64 Ω Ω];refine aD.cu (qh lC.u qB A (qC E) ⟨_,rfl⟩ (λJ v0 Y Z L ab aR=>?_) (λY Q=>absurd rfl (Q _ (x5 P))));have aS:J=j:=A.uniq Z P rfl;subst aS;rw[aP];have ad:(E.map gI).set J (Δ x,Δ ((((cs.take i).count x:Nat):Int)+1))=(E.set J (x,(((cs.take i).count x:Nat):Int)+1)).map gI:=by rw[V8];rfl
   rw[ad] at L;have aT:=(x4.1 X).1;refine aw _ ⟨G.trans ab,_,L,λy=>?_,λp e=>?_⟩
   .rw[V8,qa (by rw[x8,X];rfl),f.1,ay];exact⟨.inl,λh=>h.elim id (λh=>h▸I)⟩
   .obtain⟨q,s⟩:=X1.1 e;by_cases ae:J=q
    .subst ae;rw[c7 aT] at s;cases s;show _=(((cs.take (i+1)).count x:Nat):Int);rw[O,if_pos rfl];omega
    .rw[Y0 ae] at s;have af:p.1≠x:=λhe=>ae (A.uniq P (show (E.map gI)[q]? =σ (gI p) by rw[x8,s];rfl) (by rw[gI,he]));rw[f.2 p (x5 s),O,if_neg af,Nat.add_zero]
  .have Q:∀p∈E.map gI,p.1≠V2 .i64 x:=λp e he=>by
    obtain⟨q,s,rfl⟩:=l9.1 e;have:q.1=x:=by simpa[gI] using he
    exact I ((f.1 x).1 (l9.2 ⟨q,s,this⟩))
   rw[sr lC.u qB ⟨_,_,ai.i⟩ A (qC E) ⟨_,rfl⟩ Q];simp only[Bool.false_eq_true,if_false];rw[aP,wrap_i64 Ω Ω];refine aD.cu (qh lC.u qB A (qC E) ⟨_,rfl⟩ (λJ v0 Y Z=>absurd rfl (Q _ (x5 Z))) (λY _ L ab aR=>?_));rw[aP];have ad:E.map gI++[(V2 .i64 x,V2 .i64 (0+1))]=(E++[(x,1)]).map gI:=by rw[Z0];rfl
   rw[ad] at L;have aU:(cs.take i).count x=0:=List.count_eq_zero.2 I;refine aw _ ⟨G.trans ab,_,L,λy=>?_,λp e=>?_⟩
   .rw[Z0,o7,f.1,ay];simp
   .rcases o7.1 e with e|e
    .have af:p.1≠x:=λhe=>I ((f.1 x).1 (l9.2 ⟨p,e,he⟩));rw[f.2 p e,O,if_neg af,Nat.add_zero]
    .rw[o8.1 e];show (1:Int)=(((cs.take (i+1)).count x:Nat):Int);rw[O,if_pos rfl,aU];rfl
 rintro aa aN ⟨G,E,A,f⟩;rw[p9] at f;have H:Ext w aa:=U.put G Ω;refine cp Ω ?_;refine (Kj (h.ext H) av).mono ?_;rintro _ aX bj ⟨rfl,ag⟩;have bk:=H.size;have bl:=ag.size;refine aD.cu (Bh lC.u (A.ext ag) λM bm bn aY bo aZ bp=>?_);refine⟨λsY C=>∃b B z left aB,sY=Δ b/\b∈cs/\Ext aX C/\hq C M m (E.map gI) left aB/\left=z.map gI/\(B++z).Perm E/\ ∀p∈B,cs.count p.1<cs.count b\/(cs.count p.1=cs.count b/\b<=p.1),λ_ C=>oX C M,
  ⟨vh cs,[],E,E.map gI,ν,rfl,(JW av).1,aY,aZ,rfl,List.Perm.refl _,λp e=>by cases e⟩,?_⟩
 rintro _ C ⟨b,B,z,left,aB,rfl,aj,ak,aC,rfl,R,an⟩;refine Bj aC (λ_=>by show w.heap.size<=M;omega) (λa2=>?_) (λj p ao e aE bq N=>?_)
 .rw[iw (v:=.bool false) rfl,a1];have:z=[]:=List.map_eq_nil_iff.1 a2;subst this;rw[U4] at R;refine⟨(H.trans ag).trans ak,b,rfl,aj,λd a6=>?_⟩;obtain⟨q,s,rfl⟩:=l9.1 ((f.1 d).2 a6);exact an q (R.mem_iff.2 s)
 .rw[iw (v:=.bool true) rfl,bQ];refine Bk N ?_;obtain⟨q,s,rfl⟩:∃q,z[j]? =σ q/\gI q=p:=by
   rw[x8] at e;exact Y5.1 e
  have aG:q∈E:=R.mem_iff.1 (o7.2 (.inr (x5 s)));have br:=f.2 q aG;have a7:q.1∈cs:=(f.1 q.1).1 (l9.2 ⟨q,aG,rfl⟩);obtain⟨a8,ba⟩:=CE f aj;have bb:(E.map gI)[a8]? =σ (Δ b,Δ ((cs.count b:Nat):Int)):=by rw[x8,ba];rfl
  rw[iw (v:=Δ q.1) rfl,iw (v:=Δ q.2) rfl];have aI:(B++[q]++z.eraseIdx j).Perm E:=by
   refine List.Perm.trans ?_ R;rw[U6];exact List.Perm.append_left B (vy s)
  have aJ:oX ao M<oX C M:=by
   rw[sx N,sx aC];have:=Bw (x4.1 e).1;omega
  refine aV (λv bd=>ao=bd/\ ∃r:Bool,v= .bool r/\(r=true↔(cs.count b<cs.count q.1\/(cs.count q.1=cs.count b/\q.1<b)))) ?_ ?_
  .rintro _ _ ⟨rfl,r,rfl,S⟩;rw[ce];refine⟨λbe=>?_,λaK=>?_⟩
   .have S:=S.1 be;refine⟨⟨q.1,B++[q],z.eraseIdx j,_,_,rfl,a7,ak.trans aE,N,(mr gI z j),aI,λp e=>?_⟩,aJ⟩;rcases o7.1 e with e|e
    .have:=an p e;omega
    .rw[o8.1 e];exact .inr ⟨rfl,Int.le_refl _⟩
   .have S:¬(cs.count b<cs.count q.1\/(cs.count q.1=cs.count b/\q.1<b)):=λh=>by rw[S.2 h] at aK;cases aK
    refine⟨⟨b,B++[q],z.eraseIdx j,_,_,rfl,aj,ak.trans aE,N,(mr gI z j),aI,λp e=>?_⟩,aJ⟩;rcases o7.1 e with e|e
    .exact an p e
    .rw[o8.1 e];omega
  .intro aA aq;have aL:∀K:x1->Prop,ac x7 (Instr.lookup lC (.map (σ m)) (Δ b) false) ao K=K (Δ ((cs.count b:Nat):Int)):=λK=>by
    rw[qg lC.u qB N.map (qC E) ⟨_,rfl⟩ bb];simp
   rw[aL,bU,al];refine⟨λh1=>aq _ _ ⟨rfl,true,rfl,⟨λ_=>.inl Ω,λ_=>rfl⟩⟩,λh1=>?_⟩;rw[aL,bg,al];refine⟨λbf=>?_,λbf=>aq _ _ ⟨rfl,false,rfl,⟨λh=>(by cases h),λh=>Ω⟩⟩⟩;rw[aO];refine aq _ _ ⟨rfl,_,rfl,?_⟩;rw[decide_eq_true_eq];omega
theorem M4 {g:Nat} {k:o5} {m:r9} (h:au k e w g v l) (p:ag w j m cs) (s:e≠m) (q:leads v r):r≠j:=by
 obtain⟨rfl,_⟩:=bO h q;obtain⟨_,⟨rfl,_⟩|⟨_,_,_,f,_⟩⟩:=h
 .obtain⟨a,n,c,h,_⟩:=q;cases h
 .rintro rfl;unfold ag at p f;rw[p] at f;injection f with h1;injection h1 with y x;exact s x.symm
def M5 (w:x3) (aj:Λ) (k:Int) (cs:Λ) (v:x1) (w':x3):Prop:=Ext w w'/\ ∃g m o D,v=Γ g/\eJ w' g m aj k o D/\D.length<=(aN aj).toNat/\ic aj (h8 D o) cs/\sX cs o
theorem M6 {g bO:Nat} {cs:Λ} (h:dd w g bO sv aj k cs) (aG:∀c∈cs,cq c k):am x7 Hz [Γ g] w (M5 w aj k cs):=by
 obtain⟨⟨a6,gs,ba,hm,cl⟩,⟨_,_,bb⟩,U,al⟩:=id h;have cm:=prod_bound U;have cn:=U.1;have bd:cs≠[]:=λhe=>by rw[he] at al;simp at al;omega
 refine h2 func162 ?_;rw[db eP.u];simp only[Z4,a1];refine (mq h).mono ?_;rintro I aa _ ⟨O,cp,cr,aH⟩;refine bD ax.i λan ct cu be bf=>?_;have cw:=bf.lt;refine bq ax.i aH.ls.cells.1 aH.ls.cells.2 bf (by simp[x1.cells]) λao bP cz aq=>?_;have aq:ag ao an ax [I]:=aq;have cA:=O.size;have cB:=be.size;have bg:Ext aa ao:=be.put bP Ω;have bh:=aH.ext bg;have Y:=O.trans bg;refine aV (λu au=>∃a A m o K L,u=Γ a/\Ext ao au/\ag au a eO [Γ A]/\ao.heap.size<=m/\fE au A m K L aj k o []/\sX cs o) ?_ ?_
 .rintro _ au ⟨a,A,m,o,K,L,rfl,Z,e,cC,B,E⟩;have bQ:=h.ext (Y.trans Z);have bR:=aq.ext Z;have bS:=bh.ext Z;refine (oT bQ).mono ?_;rintro _ cE _ ⟨rfl,bT⟩;refine vt.mono ?_;rintro _ aJ _ ⟨bU,bk,rfl,cF,bl⟩;have P:=bT.trans bU;have bm:=B.ext P;have bV:=bR.ext P;have bn:=e.ext P;have bW:=bS.ext P;have br:=hm.ext ((Y.trans Z).trans P);have Q:=bm.2.2.1;have bX:=(Y.trans Z).trans P;have cG:=Y.size;have bY:=vr (g:=bk) (B0:=aJ.heap.size) (sv:=sv) U;refine og.old ⟨Nat,false,lA,#[Γ bk],_,_,_,_,λi w'=>ah (λr=>r=m) aJ w'/\ ∃D,D.length<=i/\fE w' A m K L aj k o D/\ ∀ (j:Nat) t,(bi aj)[j]? =σ t->h8 D o t=if j<i then bj aj cs t else o,λ_ _ _=>False,rfl,bY.s,
   ?_,λ_ _ J h=>⟨h.1.ext J,h.2.1.ext J,Y9 h.2.2 J.size⟩,λ_ _ _ J ⟨h1,D,bZ,b0,bb⟩=>⟨h1.trans (J.ab _),D,bZ,b0.ext J,bb⟩,λ_ _ _ _ _ h=>h,⟨bl,br.ls,p8 _⟩,⟨ah.refl _ _,[],p8 _,bm,λj t _=>by rw[if_neg Ω];rfl⟩,?_,?_,λ_ _ h=>h.elim,λ_ _ _ h=>h.elim⟩
  .rintro _ _ _ _ ⟨_,_,_,_,rfl,_⟩;rfl
  .rintro _ aI i _ b1 ⟨cH,cI,b2⟩ ⟨hi,rfl,cJ,gt,b3,cK,y⟩ ⟨av,D,bt,aK,aL⟩;cases b3;have aM:(bi aj)[i]? =σ (cS aj (i:Int)):=p3 U.2 Ω;have b4:dh aj (cS aj (i:Int)):=vi U.2 hi;generalize cS aj (i:Int)=t at*;have bu:=LP U.2 al aM;intro b5 aw _ _;intro b6 b7 _ _;have az:=aw.trans b7;have aB:ah (λr=>r=m) aJ b6:=av.trans (az.ab _);rw[ay Ψ ((sW bn Q aB).Qz rfl),ay Ψ ((sW bV Q aB).Qz rfl),bc ax.u ap.i Ψ (CD bW Q aB).ls bu];have aN:=aK.ext az;refine (Bv aN.is (y.ext az).ls (c:=bj aj cs t)).mono ?_;rintro _ cL _ ⟨_,b8⟩;obtain⟨rfl,aO,D',bw,bx⟩:=b8 ⟨b4,aG _ (x5 bu)⟩;have aP:=aB.trans aO;have cM:=bw.2;refine⟨⟨sW bl Q aP,(CD br Q aP).ls,Y9 b2 (Y9 az.size aO.size)⟩,⟨aP,D',Ω,aN.put aO bx,λj s M=>?_⟩,λh=>by cases h⟩;rw[bw.cost aN.is.nodup bx.nodup];by_cases bz:j=i
   .subst bz;rw[aM] at M;cases M;rw[if_pos rfl,if_pos Ω]
   .rw[if_neg (λ(he:s=t)=>bz (M0 U.2 (by rw[<-he];exact M) aM)),aL j s M];by_cases h1:j<i
    .rw[if_pos h1,if_pos Ω]
    .rw[if_neg h1,if_neg Ω]
  .rintro i b1 rfl ⟨av,D,bt,aK,aL⟩;rw[ay Ψ ((sW bn Q av).Qz rfl)];intro b5 aw _;refine⟨(bX.put av Ω).trans aw,A,m,o,D,rfl,aK.is.ext aw,bt,⟨al,λt b9=>?_⟩,E⟩;obtain⟨j,M⟩:=M1 U.2 b9;have:=(x4.1 M).1;rw[h3 U.2] at this;rw[aL j t M,if_pos this]
 intro aA bA;intro z ad _ _;have aQ:=Y.trans ad;have bB:=ad;have aC:=h.ext aQ;have bC:=bh.ext ad;have cN:=ad.size;rw[ay Ψ ((aq.ext ad).Qz rfl)];have bE:∀ {a:Nat} {w':x3} {aI:x1} {o:Int},Ext z w'->z.heap.size<=a->(∃f,ag w' a eO [f])->aF .i64 w' aI aj->sX cs o->
   am x7 om [aI,Δ k,Δ o] w' λC q=>ac x7 (Z7 C 0) q λN=>ac x7 (Z7 C 1) q λ_=>aD x7 (o6 eO (Γ a) N) q λ(_:Unit) G=>aA (Γ a) G:=by
  rintro a w' aI o x p ⟨f,e⟩ y E;refine (Bp y).mono ?_;rintro _ q _ ⟨aR,_,_,aS⟩;obtain⟨A,m,rfl,ca,cb,B⟩:=aS U (aG _ E.1);obtain⟨K,L,B⟩:=B.at;rw[bo,bp];have cc:=e.lt;have s':=x.size;refine bq eO.i rfl rfl (e.ext aR) Ξ λG bF cO cd=>?_;refine bA _ _ ⟨a,A,m,o,K,L,rfl,((bB.trans x).trans aR).put bF Ω,cd,Ω,B.ab bF (λhe=>by have he:A=a:=he;omega) (λhe=>by have he:m=a:=he;omega) (λr aT he=>?_),E⟩;exact M4 B.2.1 (e.ext aR) Φ aT he
 have bG:∀ {a:Nat} {w':x3} {aI:x1},Ext z w'->z.heap.size<=a->(∃f,ag w' a eO [f])->aF .i64 w' aI aj->
   am x7 rK [I] w' λae aa=>am x7 om [aI,Δ k,ae] aa λC q=>ac x7 (Z7 C 0) q λN=>ac x7 (Z7 C 1) q λ_=>aD x7 (o6 eO (Γ a) N) q λ(_:Unit) G=>aA (Γ a) G:=by
  rintro a w' aI x p ⟨f,e⟩ y;refine (CF (bC.ext x).ls bd Ω).mono ?_;rintro _ aa _ ⟨O,o,rfl,E⟩;exact bE (x.trans O) p ⟨f,e.ext O⟩ (y.ext O) E
 have bH:∀ {a:Nat} {w':x3} {aI:x1},Ext z w'->z.heap.size<=a->(∃f,ag w' a eO [f])->aF .i64 w' aI aj->
   am x7 uJ [Γ g] w' λaU V=>(Ext z V\/cD x7 (u4 ax (Γ an)) I V/\True)/\
    am x7 rK [I] V λae aa=>am x7 om [aI,aU,ae] aa λC q=>ac x7 (Z7 C 0) q λN=>ac x7 (Z7 C 1) q λ_=>aD x7 (o6 eO (Γ a) N) q λ(_:Unit) G=>aA (Γ a) G:=by
  rintro a w' aI x p ⟨f,e⟩ y;refine (Be (aC.ext x)).mono ?_;rintro _ V _ ⟨rfl,H⟩;exact⟨.inl (x.trans H),bG (x.trans H) p ⟨f,e.ext H⟩ (y.ext H)⟩
 have bI:aj.length<=1000:=Ω
 have bJ:∀ {a:Nat} {w':x3},Ext z w'->z.heap.size<=a->(∃f,ag w' a eO [f])->
   am x7 zm [.agg #[sv]] w' λce w0=>(Ext z w0\/cD x7 (u4 ax (Γ an)) I w0/\True)/\
    am x7 uJ [Γ g] w0 λaU V=>(Ext z V\/cD x7 (u4 ax (Γ an)) I V/\True)/\
    am x7 rK [I] V λae aa=>am x7 om [ce,aU,ae] aa λC q=>ac x7 (Z7 C 0) q λN=>ac x7 (Z7 C 1) q λ_=>aD x7 (o6 eO (Γ a) N) q λ(_:Unit) G=>aA (Γ a) G:=by
  rintro a w' x p ⟨f,e⟩;refine (Bf (hm.ext (aQ.trans x)).ls bI).mono ?_;rintro aI V _ ⟨H,_,_,y⟩;exact⟨.inl (x.trans H),bH (x.trans H) p ⟨f,e.ext H⟩ y.ls⟩
 have af:∀ {w':x3} {R:x1->x3->Prop},Ext z w'->(∀a ai,z.heap.size<=a->Ext w' ai->(∃f,ag ai a eO [f])->R (Γ a) ai)->aD x7 (S7 eO true (.tuple #[])) w' R:=λ{w'} {R} x cg=>by
  have:=x.size;exact bD eO.i λa ai p ch ba=>cg a ai Ω ch ⟨_,ba⟩
 refine⟨?_,af (Ext.refl _) λa cP p aE e=>⟨.inl aE,?_⟩⟩
 rotate_left
 .refine (oT (aC.ext aE)).mono ?_;rintro _ cQ _ ⟨rfl,aW⟩;obtain⟨f,e⟩:=e;exact⟨.inl (aE.trans aW),bJ (aE.trans aW) p ⟨f,e.ext aW⟩⟩
 refine (oT aC).mono ?_;rintro _ cR _ ⟨rfl,S⟩;refine⟨.inl S,?_,af S λa cT p bK e=>⟨.inl (S.trans bK),bJ (S.trans bK) p e⟩⟩;refine (Bf (hm.ext (aQ.trans S)).ls bI).mono ?_;rintro aI cU _ ⟨ci,_,_,y⟩;have W:=S.trans ci;refine⟨.inl W,?_,af W λa cV p aX e=>⟨.inl (W.trans aX),bH (W.trans aX) p e (y.ext aX).ls⟩⟩;refine (Be (aC.ext W)).mono ?_;rintro _ cW _ ⟨rfl,aY⟩;have X:=W.trans aY;refine⟨.inl X,?_,af X λa cX p aZ e=>⟨.inl (X.trans aZ),bG (X.trans aZ) p e ((y.ext aY).ext aZ).ls⟩⟩;refine (CF (bC.ext X).ls bd Ω).mono ?_;rintro _ cY _ ⟨bL,o,rfl,E⟩;have ak:=X.trans bL;have bM:=(y.ext aY).ext bL;refine⟨?_,af ak λa cZ p a2 e=>⟨.inl (ak.trans a2),bE (ak.trans a2) p e (bM.ext a2).ls E⟩⟩;refine (Bp bM.ls).mono ?_;rintro _ c0 _ ⟨cj,_,_,aS⟩;obtain⟨A,m,rfl,ca,cb,B⟩:=aS U (aG _ E.1);obtain⟨K,L,B⟩:=B.at;rw[bo,bp];have a7:=ak.trans cj;refine bD eO.i λa c1 p a8 e=>?_;refine⟨.inl (a7.trans a8),?_⟩;have cc:=e.lt;obtain⟨c2,c3,t3⟩:=B.qe;have c4:=ak.size;have c5:=a7.size;refine bq eO.i rfl rfl e (by simp[x1.cells]) λc6 bN c7 ck=>?_;exact bA _ _ ⟨a,A,m,o,K,L,rfl,((bB.trans a7).trans a8).put bN Ω,ck,Ω,(B.ext a8).ab bN (λhe=>by have he:A=a:=he;omega) (λhe=>by have he:m=a:=he;omega) (λr aT he=>by have he:r=a:=he;have:=t3 r aT;omega),E⟩
theorem CG {acc:List cK} {g:cK} (h:∀x∈acc,x.1≠g.1):h7 k acc g=acc++[g]:=by
 unfold h7;rw[if_neg];intro hm;obtain⟨x,J,he⟩:=l9.1 hm;exact h x J he
theorem M7 {acc:List cK} {g h:cK} {i:Nat} (e:iF acc) (hi:acc[i]? =σ h) (he:h.1=g.1):h7 k acc g=acc.set i (h.1,dU k h.2 g.2):=by
 have f:=(x4.1 hi).1;unfold h7;rw[if_pos (l9.2 ⟨h,x5 hi,he⟩)];refine Y3 λj=>?_;rw[x8,Y7];by_cases a:i=j
 .subst a;rw[hi,Z3,if_pos he,if_pos rfl,if_pos f]
 .rw[if_neg a];cases m:acc[j]? with
  |none=>rfl
  |some y=>
   have:y.1≠g.1:=λp=>a (by
    have h1:(acc.map (·.1))[i]? =σ g.1:=by rw[x8,hi,Z3,he]
    have q:(acc.map (·.1))[j]? =σ g.1:=by rw[x8,m,Z3,p]
    exact kk e h1 q)
   rw[Z3,if_neg this]
theorem M8 {α β:Type} {f:β->α->β} {b:β} {l:List α} {i:Nat} {x:α} (h:l[i]? =σ x):(l.take (i+1)).foldl f b=f ((l.take i).foldl f b) x:=by
 rw[u9,h,o9,S1];rfl
def mw (w:x3) (k:Int) (sizes:Λ) (x:cr):Prop:=(∃a,au .i64 ai w a x.sv x.sc)/\ ∃m o D,eJ w x.g m (bS sizes x.sc) k o D/\D.length<=4096/\ic (bS sizes x.sc) (h8 D o) x.cs
theorem mw.ext {x:cr} (h:mw w k sizes x) (J:Ext w w'):mw w' k sizes x:=by
 obtain⟨⟨a,h1⟩,m,o,D,e,f⟩:=h;exact⟨⟨a,h1.ext J⟩,m,o,D,e.ext J,f⟩
theorem mw.ab {x:cr} (h:mw w k sizes x) (J:ah S w w') (j:∀r,S r-> ∃e c,ag w r e c/\e≠fy/\e≠ai):mw w' k sizes x:=by
 obtain⟨⟨y,h1⟩,m,o,D,z,A⟩:=h;obtain⟨sv,gs,f⟩:=z.at;have q:∀ {g:Nat} {v:x1} {l:Λ},au .i64 ai w g v l-> ∀r,leads v r->¬S r:=λhm r B U=>by
  obtain⟨e,c,a,_,p⟩:=j r U;exact b7 hm a (λhe=>p he.symm) B rfl
 refine⟨⟨y,br h1 J (q h1)⟩,m,o,D,(f.ab J (λU=>?_) (λU=>?_) (q f.2.1)).is,A⟩
 .obtain⟨e,c,a,p,_⟩:=j _ U;have s:=f.1;unfold ag at s a;rw[s] at a;exact p (Obj.cells.inj (b6 a)).2.1.symm
 .obtain⟨e,c,a,_,_⟩:=j _ U;exact sK a f.2.2.1 rfl
def qD (w:x3) (g:Nat) (v:x1) (k:Int) (sizes:Λ) (L:List cr):Prop:=bk ez 2 cF w g v L/\ ∀x∈L,mw w k sizes x
theorem qD.ext {g:Nat} {L:List cr} (h:qD w g v k sizes L) (J:Ext w w'):qD w' g v k sizes L:=⟨h.1.ext J,λx a=>(h.2 x a).ext J⟩
def M9 (w:x3) (B a:Nat) (f:b2):Prop:=∃szv e gz g L,ag w a cE [bP f.name,Δ f.k,szv,e]/\au .i64 ai w gz szv f.sizes/\qD w g e f.k f.sizes L/\L.map dR=fB f/\B<=a/\(∀r,leads szv r->B<=r)/\ ∀x∈L,∀r,leads x.sv r->B<=r
theorem Na {g bn:Nat} {L:List cr} {j:Λ} (h:e2 w g v L) (z:ag w bn an [sv]) (U:aF .i64 w sv j):
  am x7 zd [v,.func (.func ze) #[] #[Γ bn]] w λr w'=>Ext w w'/\((r=Δ (-1)/\ ∀x∈L,x.sc≠j)\/ ∃i:Nat,r=Δ (i:Int)/\ ∃x,L[i]? =σ x/\x.sc=j):=by
 refine az func150 ?_;rw[fh gd.u h.1];refine bZ.range L.length (λi _ V=>Ext w V/\ ∀x∈L.take i,x.sc≠j) h.1.le ⟨Ext.refl _,λc a=>by simp at a⟩ ?_ ?_
 .rintro i _ V k hi ⟨J,m⟩ hk;refine bH Ω ?_;obtain⟨x,q⟩:=aH (l:=L) hi;rw[sS rfl (h.ext J) q];show am x7 ze [jH x,Γ bn] V _;obtain⟨⟨B,hm⟩,_⟩:=(h.ext J).at q;refine az func151 ?_;refine be λaq aa C f s=>?_;have s:ag aa aq cV [x.sv,Γ x.g]:=by
   obtain⟨_,_,_,e⟩:=c4 hm.ls;simp only[jH,ez,e] at s ⊢;exact s
  rw[aM cV.p 0 s rfl,ay Ψ ((z.ext (J.trans f)).Qz rfl)];refine (zQ (hm.ls.ext f) (U.ext (J.trans f))).mono ?_;rintro _ E _ ⟨rfl,y⟩;rw[al];refine⟨λhe=>⟨(J.trans f).trans y,.inr ⟨i,rfl,x,q,he⟩⟩,λA=>?_⟩;rw[aP];refine hk _ _ ⟨(J.trans f).trans y,λc a=>?_⟩;rw[u9,q] at a;rcases o7.1 a with a|a
  .exact m c a
  .simp at a;subst a;exact A
 .rintro _ V k ⟨J,m⟩;rw[p9] at m;rw[aO,al];exact⟨λh=>Ω,λ_=>⟨J,.inl ⟨rfl,m⟩⟩⟩
def eK (f:b2) (i:Nat):List cK:=((f.funs.take i).map (hR f.sizes f.k)).foldl (h7 f.k) []
theorem CH {f:b2} (af:e6 N f) (i:Nat):(∀g∈eK f i,fD f.sizes f.k g)/\iF (eK f i)/\(eK f i).length<=i:=by
 have:=vK (sizes:=f.sizes) (k:=f.k) (by have:=af.k.1;omega) (l:=(f.funs.take i).map (hR f.sizes f.k)) (acc:=[]) (λh aJ=>by cases aJ) List.nodup_nil λg e=>by
  obtain⟨x,J,rfl⟩:=l9.1 e;exact o2 af (T4 J)
 refine⟨this.1,this.2.1,?_⟩;have a:=this.2.2;rw[List.length_nil,u7,X0,j6] at a;exact Y9 a (Nat.min_le_left _ _)
theorem vX {f:b2} {i:Nat} {x:cw} (h:f.funs[i]? =σ x):eK f (i+1)=h7 f.k (eK f i) (hR f.sizes f.k x):=by
 unfold eK;rw[u9,h,o9,Z0,S1];rfl
theorem CI (f:b2):eK f f.funs.length=ff f:=by unfold eK ff;rw[p9]
theorem vY {L:List cr} {i:Nat} {x:cr} {D:List cK} (h:L.map dR=D) (J:L[i]? =σ x):dR x∈D:=by rw[<-h];exact l9.2 ⟨x,x5 J,rfl⟩
def Nb (w:x3) (f:b2) (v:x1) (w':x3):Prop:=Ext w w'/\((¬lQ f.funs<=16384/\ ∃e:Int,e≠0/\v= .tuple #[.pointer ν,Δ e])\/ ∃a,v= .tuple #[Γ a,Δ 0]/\M9 w' w.heap.size a f)
theorem sZ {g a:Nat} {sc cs:Λ} (hm:au .i64 ai w g sv sc):∀u∈ez ⟨sv,a,sc,cs⟩,u.oneCell'=true:=λu hu=>by
 simp[ez] at hu;rcases hu with rfl|rfl
 .exact hm.ls.cells.2
 .rfl
theorem Nc {bN:Nat} {f:b2} (bQ:k1 w bN f) (E:e6 N f) (bT:N<=60000) (c1:f.name≠[]/\ ∀b∈f.name,bK b=true):
  am x7 GA [Γ bN] w (Nb w f):=by
 have hk:=E.k;refine az func89 ?_;refine (Mx bQ E bT c1).mono ?_;rintro _ V _ ⟨aI,e,rfl,he⟩;rw[bm,al];refine⟨λbU=>⟨aI,.inl ⟨λh=>bU (he h),e,bU,rfl⟩⟩,λep=>?_⟩;have bW:=bQ.ext aI;obtain⟨szv,aJ,gz,bb,bX,c2,bc,aK⟩:=id bW;have er:bb.length<=256:=by rw[aK.1];exact E.kS
 rw[aQ cE.p 3 bX rfl,hL dE.u bc];refine bZ.range bb.length (λi l aa=>∃g L,Ext V aa/\e2 aa g l L/\Sem aa f.k f.sizes L/\L.map dR=eK f i/\(∀r,leadsTo l r->V.heap.size<=r)/\ ∀x∈L,∀r,leads x.sv r->V.heap.size<=r) (pT bc)
  ⟨0,[],Ext.refl _,⟨bk.nil _ _ _ _ _,λx J=>(by cases J)⟩,λx J=>(by cases J),rfl,λr A=>(fg A).elim,λx J=>(by cases J)⟩ ?_ ?_
 .rintro i l aa c3 hi ⟨g,L,W,ax,aL,G,O,aB⟩ c5;obtain⟨d,bY⟩:=aH (l:=bb) hi;obtain⟨x,aO⟩:∃x,f.funs[i]? =σ x:=⟨_,x6 (by have:=aK.1;omega)⟩;have b0:=x5 aO;have c6:=aK.2 i x d aO bY;have X:=o2 E b0;obtain⟨c7,c8,es⟩:=CH E i;have c9:L.length<=i:=by have b3:=congrArg S6 G;rw[u7] at b3;omega
  refine bH Ω ?_;refine aV (λl' aR=>∃P Y,Ext V aR/\e2 aR P l' Y/\Sem aR f.k f.sizes Y/\Y.map dR=eK f (i+1)/\(∀r,leadsTo l' r->V.heap.size<=r)/\ ∀x∈Y,∀r,leads x.sv r->V.heap.size<=r) ?_ ?_
  .rintro l' aR ⟨P,Y,h1,da,db,dc,de⟩;rw[aP];exact c5 _ _ ⟨P,Y,h1,da,db,dc,de⟩
  intro aA b4;refine lI (α:=gV) cF.p rfl dE.u cF.i (bI bc W) bY λcs bd=>?_;have b5:cs.length=2:=ao.len bd;refine bD cF.i λaq et eu df dg=>?_;refine ch (vs:=cs) cF.i b5 rfl (ao.one bd) dg λdh di ev dj=>?_;have I:Ext aa dh:=df.put di Ω;rw[bR cF.p cF.i b5 dj.range];refine (MH E bT b0 c6 (bI bd I)).mono ?_;rintro _ dk _ ⟨dl,sv,gs,b8,dm,dp,rfl,ew,Z,b9⟩;rw[bo,bp];refine bD an.i λbn ey eA dq dr=>?_;refine bq an.i Z.ls.cells.1 Z.ls.cells.2 dr (by simp[x1.cells]) λca ds eB aS=>?_;have bf:Ext dk ca:=dq.put ds Ω;have aS:ag ca bn an [sv]:=aS;rw[ix];have bg:=(I.trans dl).trans bf;have eC:=bg.size;have eD:=W.size;refine (Na (ax.ext bg) aS (Z.ls.ext bf)).mono ?_;rintro _ eE _ ⟨aT,A⟩;have aW:=bg.trans aT;have cb:=bf.trans aT;have bh:=Z.ext cb;have cc:=b9.ext cb;have cd:=aS.ext aT;have ce:=ax.ext aW;have bi:=aL.ext aW;rcases A with⟨rfl,dt⟩|⟨cg,rfl,y,B,aX⟩
  .refine bH Ω ?_;rw[ay Ψ (cd.Qz rfl),dn (cs:=#[sv,Γ b8]) (by obtain⟨_,_,_,rfl⟩:=c4 Z.ls;kernel_rfl)];let a:cr:=⟨sv,b8,bl x.scope,(hR f.sizes f.k x).2⟩;have bj:∀u∈ez a,u.oneCell'=true:=sZ bh;refine ia (f:=ez) (a:=a) gd.u cV.i Ω rfl rfl λeF eH du eI ac dv=>?_;have ae:=ce.ext ac;refine iD (f:=ez) (a:=a) gd.u cV.i rfl ae.1 (by simpa using dv.sl) bj Ω Ω λaC P eJ aD bt aE=>?_;have ci:=bh.ext ac;have aY:∀ {r:Nat},leadsTo l r-> ∃c,ag du r cV c:=λA=>by
    obtain⟨rfl,c,C⟩:=eb ae.1 A;exact⟨c,C⟩
   refine b4 _ _ ⟨P,L++[a],((W.trans aW).trans ac).then aE (λr A he=>by have:=O r he;omega),e2.mk aD λz s=>?_,λz s=>?_,?_,λr A=>?_,λz s r A=>?_⟩
   .rcases o7.1 s with s|s
    .have:=(ae.2 z s).ab aE λr A he=>(ae.2 z s).2.1 r A (ae.1.leads he).1;exact⟨this.1,this.2.2⟩
    .rw[o8.1 s];exact⟨⟨gs,br ci aE λr A he=>by obtain⟨c,C⟩:=aY he;exact b7 ci C Φ A rfl⟩,X.scope⟩
   .rcases o7.1 s with s|s
    .exact (bi.ext ac).row ae aE z s
    .rw[o8.1 s];exact⟨dm,dp,vS (cc.ext ac) aE λr A=>aY A⟩
   .rw[Z0,G,vX aO,CG]
    .rfl
    .intro c H dw;rw[<-G] at H;obtain⟨z,s,rfl⟩:=l9.1 H;exact dt z s dw
   .rcases bt r A with h|h
    .exact O r h
    .have:=ac.size;have:=aT.size;omega
   .rcases o7.1 s with s|s
    .exact aB z s r A
    .rw[o8.1 s] at A;have b3:=(bO Z A).1;have:=I.size;omega
  .refine cp Ω ?_;intro eL Q _ _;have bu:=ce.ext Q;have cj:=(x4.1 B).1;obtain⟨dy,dz,aZ⟩:=(bi.ext Q) y (x5 B);have ck:=cd.ext Q;have cl:=bh.ext Q;have dA:=cc.ext Q;rw[dx rfl gd.u cV.i bu.1 cj,aU cV.p rfl,ay Ψ (bu.1.range B 1 _ rfl),ay Ψ (ck.Qz rfl),ay Ψ (ck.Qz rfl)];have af:fD f.sizes f.k (dR y):=c7 _ (vY G B);rw[aX] at aZ;have cm:∀ {c:Int},0<=c/\c<=f.k->cq c f.k:=λh=>⟨hk,h.1,h.2⟩;refine (MT aZ dA cl.ls cl.ls hk (λc H=>cm (af.hT c H)) (λc H=>cm (X.hT c H))).mono ?_;intro eM cn _ dC;have dD:y.cs.length=(aN (bS f.sizes (bl x.scope))).toNat:=by have:=af.len;rw[show (dR y).1=y.sc from rfl,aX] at this;exact this
   have dF:b1 (bS f.sizes (bl x.scope)):=b9.2.2.1;obtain⟨bw,ct,cu,cw,eN,rfl,dG⟩:=MY X.up (λv ad=>(X.scope.1 v ad).1) (by simp[bS];rfl) dF X.small dD X.len dC;rw[fO,fP,fQ];have R:=bu.ext bw;rw[dx rfl gd.u cV.i R.1 cj,aU cV.p rfl];let a:cr:=⟨y.sv,ct,y.sc,dU f.k y.cs (hR f.sizes f.k x).2⟩;refine oW (f:=ez) (j:=1) (a:=y) (a':=a) eP.i rfl rfl R.1 B rfl Ω λdH a1 eO dI=>?_;have aY:∀ {r:Nat},leadsTo l r-> ∃c,ag cn r cV c:=λA=>by
    obtain⟨rfl,c,C⟩:=eb R.1 A;exact⟨c,C⟩
   refine b4 _ _ ⟨g,L.set cg a,((W.trans aW).trans (Q.trans bw)).then a1 (λr A he=>by have:=O r he;omega),e2.mk dI λz s=>?_,λz s=>?_,?_,O,λz s=>?_⟩
   .have cA:∀z∈L,(∃bx,au .i64 ai dH bx z.sv z.sc)/\jg z.sc:=λz s=>by
     have:=(R.2 z s).ab a1 λr A he=>(R.2 z s).2.1 r A (R.1.leads he).1;exact⟨this.1,this.2.2⟩
    rcases X8 s with s|rfl
    .exact cA z s
    .exact cA y (x5 B)
   .rcases X8 s with s|rfl
    .exact ((bi.ext Q).ext bw).row R a1 z s
    .refine⟨cu,cw,vS ?_ a1 λr A=>aY A⟩;show dd cn ct cu cw (bS f.sizes y.sc) f.k _;rw[aX];exact dG
   .rw[V8,G,vX aO,M7 (g:=hR f.sizes f.k x) c8 (i:=cg) (h:=dR y) (by rw[<-G,x8,B];rfl) aX];rfl
   .rcases X8 s with s|rfl
    .exact aB z s
    .exact aB y (x5 B)
 .rintro l aa c3 ⟨g,L,W,ax,aL,G,O,aB⟩;refine cp Ω ?_;rw[aK.1,CI] at G;have c9:L.length<=256:=by
   have:=(kZ E).2.2;rw[<-G,u7] at this;have:=E.kS;omega
  refine (MN ax aL Ω).mono ?_;rintro eQ cB _ ⟨cC,cD,dJ⟩;have dK:Ext V cB:=W.then cC λr A he=>by have:=O r he;omega
  have dL:Sem cB f.k f.sizes (L.filter fV):=λz s=>(aL.row ax cC) z (T6.1 s).1;have eR:(L.filter fV).length<=L.length:=List.length_filter_le _ _;refine (ME cD Ω).mono ?_;rintro _ cG _ ⟨cH,M,a2,dM,cI⟩;have dN:Ext V cG:=dK.then cH λr A he=>by have:=O r (dJ r he);omega
  have cJ:Sem cG f.k f.sizes M:=λz s=>(dL.row cD cH) z (a2.mem_iff.1 s);have eS:M.length<=256:=by rw[a2.length_eq];omega
  have dO:∀x∈M,∀r,leads x.sv r->V.heap.size<=r:=λx J=>aB x (T6.1 (a2.mem_iff.1 J)).1;have cK:M.map dR=fB f:=by
   refine LD E ?_ ?_
   .refine (a2.map dR).trans ?_;rw[<-G,List.filter_map];exact .refl _
   .rw[List.pairwise_map];refine V3.2 λp q dP cL dQ=>?_;exact dM p q _ _ (X3 _) dQ cL (x6 dP) (x6 cL)
  intro eU a6 _ _;have aj:=dN.trans a6;have eV:=bW.ext aj;have bz:=bX.ext aj;rw[aQ cE.p 0 bz rfl,aQ cE.p 1 bz rfl,aQ cE.p 2 bz rfl];refine (kd (c2.ls.ext aj) (by have:=E.sizes.2.1;omega)).mono ?_;rintro aF cM _ ⟨S,dS,eW,bA⟩;refine⟨.inl S,?_⟩;rw[dn (cs:=#[bP f.name,Δ f.k,aF,.slice ν 0 0]) (by obtain⟨_,_,_,rfl⟩:=c4 bA.ls;kernel_rfl)];refine be λU dT eX a7 bB=>?_;have bB:ag dT U cE [bP f.name,Δ f.k,aF,.slice ν 0 0]:=bB;have eY:=(aj.trans S).trans a7;have dV:=((cI.ext a6).ext S).ext a7;have eZ:=((cJ.ext a6).ext S).ext a7;rw[fh gd.u dV.1];refine cz.range M.length (λi ak=>∃aJ gr K,Ext cM ak/\ag ak U cE [bP f.name,Δ f.k,aF,aJ]/\qD ak gr aJ f.k f.sizes K/\K.map dR=(M.take i).map dR/\K.length=i/\(∀r,leadsTo aJ r->cM.heap.size<=r)/\ ∀x∈K,∀r,leads x.sv r->V.heap.size<=r) Ω
   ⟨_,0,[],a7,bB,⟨bk.nil _ _ _ _ _,λx J=>(by cases J)⟩,rfl,rfl,λr A=>(fg A).elim,λx J=>(by cases J)⟩ ?_ ?_
  rotate_left
  .rintro ak dW ⟨aG,gr,K,ap,av,bC,a8,_,_,bE⟩;rw[p9,cK] at a8;refine cp Ω ?_;have e0:=aI.size;have e1:=aj.size;have e3:=S.size;exact⟨(aI.trans (aj.trans S)).trans ap,.inr ⟨U,rfl,aF,aG,dS,gr,K,av,bA.ext ap,bC,a8,Ω,λr A=>by have:=(bO bA A).1;omega,λx J r A=>by have:=bE x J r A;omega⟩⟩
  rintro i ak dW hi ⟨aG,gr,K,ap,av,bC,a8,dX,cN,bE⟩ dY;obtain⟨y,B⟩:=aH (l:=M) hi;have cO:=(a6.trans S).trans ap;have cP:=cI.ext cO;have cQ:=cP.at B;obtain⟨dy,dz,aZ⟩:=(cJ.ext cO) y (x5 B);have af:fD f.sizes f.k (dR y):=sG E _ (vY cK B);refine bH Ω ?_;rw[sS rfl cP B];refine bD cV.i λgy e4 e5 dZ ea=>?_;refine ch (vs:=ez y) cV.i rfl rfl cQ.one ea λec ed e7 ee=>?_;have ef:Ext ak ec:=dZ.put ed Ω;intro e8 cR _ _;have bF:=ef.trans cR;have cS:=ee.ext cR;have eg:=av.ext bF;rw[aQ cE.p 3 eg rfl,aM cV.p 0 cS rfl,aM cV.p 1 cS rfl];refine (M6 (aZ.ext bF) λc H=>⟨hk,(af.hT c H).1,(af.hT c H).2⟩).mono ?_;rintro _ e9 _ ⟨bG,gT,m,o,D,rfl,eh,ei,ej,_⟩;refine⟨.inl bG,?_⟩;have cT:=bF.trans bG;obtain⟨⟨bx,cU⟩,_,fa⟩:=cQ;have cW:=cU.ext cT;rw[dn (cs:=#[y.sv,Γ gT]) (by obtain⟨_,_,_,e⟩:=c4 cU.ls;rw[e];kernel_rfl)];let a:cr:=⟨y.sv,gT,y.sc,y.cs⟩;have bj:∀u∈ez a,u.oneCell'=true:=sZ cW;refine ia (f:=ez) (a:=a) dE.u cF.i Ω rfl rfl λv25 fb bJ fc I ek=>?_;refine⟨.inl (bG.trans I),?_⟩;have aw:=cT.trans I;have ba:=bC.ext aw;refine iD (f:=ez) (a:=a) dE.u cF.i rfl ba.1 (by simpa using ek.sl) bj Ω Ω λaC P em aD bt cX=>?_;have fd:=ap.size;have fe:=aw.size;have bL:ag em U cE [bP f.name,Δ f.k,aF,aG]:=(av.ext aw).ab cX λhe=>by
   obtain⟨rfl,c,C⟩:=eb ba.1 he;have h1:=av.ext aw;unfold ag at C h1;rw[h1] at C;exact absurd (Obj.cells.inj (b6 C)).2.1 Φ
  rw[bV,aU cE.p rfl];have cY:aC.cells= #[aC]/\aC.oneCell'=true:=by
   obtain⟨_,_,_,_,_,rfl,_⟩:=aD.sl;exact⟨rfl,rfl⟩
  refine bq dE.i cY.1 cY.2 bL Ξ λen cZ ff eo=>?_;rw[aP];have bM:ah (λr=>r=U\/leadsTo aG r) bJ en:=(cX.mono λr _ h=>.inr h).trans (cZ.mono λr _ h=>.inl h);have c0:∀r,(r=U\/leadsTo aG r)-> ∃e c,ag bJ r e c/\e≠fy/\e≠ai:=λr A=>by
   rcases A with rfl|A
   .exact⟨_,_,av.ext aw,Φ,Φ⟩
   .obtain⟨rfl,c,C⟩:=eb ba.1 A;exact⟨_,c,C,Φ,Φ⟩
  refine dY _ ⟨aC,P,K++[a],?_,eo,⟨aD.ab cZ λr A he=>?_,λz s=>?_⟩,?_,by rw[o4,dX];rfl,λr A=>?_,λz s=>?_⟩
  .exact (ap.trans aw).then bM λr A he=>by
    rcases he with rfl|he
    .omega
    .have:=cN r he;omega
  .have he:r=U:=he;subst he;obtain⟨rfl,c,C⟩:=eb aD A;unfold ag at C bL;rw[bL] at C;exact absurd (Obj.cells.inj (b6 C)).2.1 Φ
  .rcases o7.1 s with s|s
   .exact (ba.2 z s).ab bM c0
   .rw[o8.1 s];refine mw.ab (w:=bJ) ⟨⟨bx,cW.ext I⟩,m,o,D,eh.ext I,?_,ej⟩ bM c0;have:=af.small;exact Y9 ei (by show (aN (bS f.sizes (dR y).1)).toNat<=4096;omega)
  .rw[Z0,a8,u9,B,Z0];rfl
  .rcases bt r A with h|h
   .exact cN r h
   .omega
  .rcases o7.1 s with s|s
   .exact bE z s
   .rw[o8.1 s];exact dO y (x5 B)
theorem e7 {a:r9} {c f:List x1} (h:ag w r e c) (h':ag w r a f):e=a:=by
 unfold ag at h h';rw[h] at h';exact (Obj.cells.inj (b6 h')).2.1
theorem cR {α:Type} {f:α->List x1} {k:Nat} {a:r9} {g:Nat} {L:List α} (h:bk f k e w g v L) (m:ag w j a cs) (p:e≠a):¬leadsTo v j:=λq=>by
 obtain⟨rfl,c,r⟩:=eb h q;exact p (e7 r m)
structure k2 where
 v:x1
 l:Λ
def nF (h:k2):List x1:=[h.v]
def hs (w:x3) (g:Nat) (v:x1) (aX:List k2):Prop:=bk nF 1 ax w g v aX/\ ∀h∈aX,∃a,au .i64 ap w a h.v h.l
theorem hs.ext {g:Nat} {aX:List k2} (h:hs w g v aX) (J:Ext w w'):hs w' g v aX:=⟨h.1.ext J,λx a=>by
 obtain⟨e,hm⟩:=h.2 x a;exact⟨e,hm.ext J⟩⟩
theorem hs.qE {g:Nat} {aX:List k2} (h:hs w g v aX) (f:ah S w w') (j:∀r,S r-> ∃e c,ag w r e c/\e≠ap):∀h∈aX,∃a,au .i64 ap w' a h.v h.l:=λx m=>by
 obtain⟨a,hm⟩:=h.2 x m;exact⟨a,br hm f λr p U=>by
  obtain⟨e,c,q,s⟩:=j r U;exact b7 hm q (λhe=>s he.symm) p rfl⟩
theorem hs.ab {g:Nat} {aX:List k2} (h:hs w g v aX) (m:ah S w w') (p:∀r,S r-> ∃e c,ag w r e c/\e≠ap/\e≠ax):hs w' g v aX:=
 ⟨h.1.ab m λr a U=>by
  obtain⟨e,c,f,_,j⟩:=p r U;exact cR h.1 f (λhe=>j he.symm) a,h.qE m λr a=>by
  obtain⟨e,c,f,j,_⟩:=p r a;exact⟨e,c,f,j⟩⟩
def nG (w:x3) (k:Int) (sizes:Λ) (x:cr):Prop:=(∃a,au .i64 ai w a x.sv x.sc)/\ ∃e f,dd w x.g e f (bS sizes x.sc) k x.cs
theorem nG.ext {x:cr} (h:nG w k sizes x) (J:Ext w w'):nG w' k sizes x:=by
 obtain⟨⟨a,h1⟩,e,f,j⟩:=h;exact⟨⟨a,h1.ext J⟩,e,f,j.ext J⟩
theorem CJ {g q:Nat} {s:x1} {cs:Λ} (h:dd w g q s aj k cs) (j:ah S w w') (m:∀r,S r-> ∃e c,ag w r e c/\e≠cW/\e≠ai/\e≠ap):dd w' g q s aj k cs:=by
 obtain⟨⟨a6,gs,h1,x,y⟩,z⟩:=h;refine⟨⟨a6,gs,h1.ab j λU=>?_,br x j λr p U=>?_,br y j λr p U=>?_⟩,z⟩
 .obtain⟨e,c,a,f,_⟩:=m g U;exact f (e7 a h1)
 .obtain⟨e,c,a,_,f,_⟩:=m r U;exact b7 x a (λhe=>f he.symm) p rfl
 .obtain⟨e,c,a,_,_,f⟩:=m r U;exact b7 y a (λhe=>f he.symm) p rfl
theorem nG.ab {x:cr} (h:nG w k sizes x) (a:ah S w w') (f:∀r,S r-> ∃e c,ag w r e c/\e≠cW/\e≠ai/\e≠ap):nG w' k sizes x:=by
 obtain⟨⟨j,h1⟩,m,p,q⟩:=h;refine⟨⟨j,br h1 a λr s U=>?_⟩,m,p,CJ q a f⟩;obtain⟨e,c,y,_,z,_⟩:=f r U;exact b7 h1 y (λhe=>z he.symm) s rfl
def nH (w:x3) (g:Nat) (v:x1) (k:Int) (sizes:Λ) (L:List cr):Prop:=bk ez 2 hh w g v L/\ ∀x∈L,nG w k sizes x
theorem nH.ext {g:Nat} {L:List cr} (h:nH w g v k sizes L) (J:Ext w w'):nH w' g v k sizes L:=⟨h.1.ext J,λx a=>(h.2 x a).ext J⟩
theorem nH.ab {g:Nat} {L:List cr} (h:nH w g v k sizes L) (m:ah S w w') (p:∀r,S r-> ∃e c,ag w r e c/\e≠hh/\e≠cW/\e≠ai/\e≠ap):nH w' g v k sizes L:=
 ⟨h.1.ab m λr a U=>by
  obtain⟨e,c,f,j,_⟩:=p r U;exact cR h.1 f (λhe=>j he.symm) a,λx J=>(h.2 x J).ab m λr a=>by
  obtain⟨e,c,f,_,j⟩:=p r a;exact⟨e,c,f,j⟩⟩
def fW (w:x3) (h:Nat) (n:aR):Prop:=∃a e f j gr aX L nm szv gz fv2,ag w h fw [Γ a,Δ n.zero,e,f]/\ag w a cE [nm,Δ n.k,szv,fv2]/\au .i64 ai w gz szv n.sizes/\
 hs w j e aX/\aX.map (·.l)=n.unary/\nH w gr f n.k n.sizes L/\L.map dR=n.funs
theorem fW.ext {a:Nat} {n:aR} (h:fW w a n) (J:Ext w w'):fW w' a n:=by
 obtain⟨e,f,j,m,gr,aX,L,nm,szv,gz,fv2,h1,p,q,r,s,x,y⟩:=h;exact⟨e,f,j,m,gr,aX,L,nm,szv,gz,fv2,h1.ext J,p.ext J,q.ext J,r.ext J,s,x.ext J,y⟩
def qF (w:x3) (B:Nat) (k:Int) (sizes:Λ) (x:cr):Prop:=(∃f,au .i64 ai w f x.sv x.sc)/\(∃a e,dd w x.g a e (bS sizes x.sc) k x.cs/\B<=a/\ ∀r,leads e r->B<=r)/\B<=x.g/\ ∀r,leads x.sv r->B<=r
theorem qF.ab {x:cr} (h:qF w B k sizes x) (a:ah S w w') (f:∀r,S r-> ∃e c,ag w r e c/\e≠cW/\e≠ai/\e≠ap):qF w' B k sizes x:=by
 obtain⟨⟨j,h1⟩,⟨m,p,q,s⟩,y⟩:=h;refine⟨⟨j,br h1 a λr z U=>?_⟩,⟨m,p,CJ q a f,s⟩,y⟩;obtain⟨e,c,A,_,C,_⟩:=f r U;exact b7 h1 A (λhe=>C he.symm) z rfl
def lR (w:x3) (B g:Nat) (v:x1) (k:Int) (sizes:Λ) (L:List cr):Prop:=bk ez 2 hh w g v L/\ ∀x∈L,qF w B k sizes x
theorem lR.ext {g:Nat} {L:List cr} (h:lR w B g v k sizes L) (J:Ext w w'):lR w' B g v k sizes L:=⟨h.1.ext J,λx a=>(h.2 x a).ab (J.ab λ_=>False) λ_ h=>h.elim⟩
theorem lR.ab {g:Nat} {L:List cr} (h:lR w B g v k sizes L) (m:ah S w w') (p:∀r,S r-> ∃e c,ag w r e c/\e≠hh/\e≠cW/\e≠ai/\e≠ap):lR w' B g v k sizes L:=
 ⟨h.1.ab m λr a U=>by
  obtain⟨e,c,f,j,_⟩:=p r U;exact cR h.1 f (λhe=>j he.symm) a,λx J=>(h.2 x J).ab m λr a=>by
  obtain⟨e,c,f,_,j⟩:=p r a;exact⟨e,c,f,j⟩⟩
theorem CK:∃o:Obj,fq o=false:=⟨.deferred ν,rfl⟩
theorem ghost (w:x3) (B:Nat):∃w0,Ext w0 w/\ah (λr=>r<B) w w0/\ ∀r o,w0.heap[r]? =σ o->fq o=true->B<=r:=by
 obtain⟨cu,f⟩:=CK;have e:∀r,(w.heap.mapIdx λr o=>if r<B then cu else o)[r]? =(w.heap[r]?).map λo=>if r<B then cu else o:=λr=>Ξ
 refine⟨{w with heap:=w.heap.mapIdx λr o=>if r<B then cu else o},⟨Ξ,λr o a U=>?_⟩,⟨Ξ,λr o a U j=>?_⟩,λr o a U=>?_⟩
 .have a:(w.heap.mapIdx λr o=>if r<B then cu else o)[r]? =σ o:=a;rw[e] at a;cases h:w.heap[r]? with
  |none=>rw[h] at a;cases a
  |some o'=>
   rw[h] at a;simp only[Z3,Y8] at a;split at a
   .subst a;rw[f] at U;cases U
   .rw[a]
 .show (w.heap.mapIdx λr o=>if r<B then cu else o)[r]? =σ o;rw[e,a,Z3,if_neg j]
 .have a:(w.heap.mapIdx λr o=>if r<B then cu else o)[r]? =σ o:=a;rw[e] at a;cases h:w.heap[r]? with
  |none=>rw[h] at a;cases a
  |some o'=>
   rw[h] at a;simp only[Z3,Y8] at a;split at a
   .subst a;rw[f] at U;cases U
   .omega
def CL (B:Nat) (w:x3) (a:Nat) (n:aR):Prop:=∃w0,fW w0 a n/\Ext w0 w/\ ∀r o,w0.heap[r]? =σ o->fq o=true->B<=r
theorem Nd {s z gr gz:Nat} {n:aR} {m p nm fv2:x1} {aX:List k2} {L:List cr} (h1:ag w s fw [Γ j,Δ n.zero,m,p]) (A:ag w j cE [nm,Δ n.k,szv,fv2]) (G:au .i64 ai w gz szv n.sizes)
  (C:hs w z m aX) (H:aX.map (·.l)=n.unary) (E:lR w B gr p n.k n.sizes L) (I:L.map dR=n.funs) (K:B<=s) (M:B<=j) (N:∀r,leads szv r->B<=r) (F:∀r,leadsTo m r\/leadsTo p r->B<=r) (O:∀h∈aX,∀r,leads h.v r->B<=r):CL B w s n:=by
 obtain⟨w0,J,a,P⟩:=ghost w B;have no:∀ {r:Nat},B<=r->¬r<B:=λh A=>Ω
 have q:∀ {e:r9} {g:Nat} {v:x1} {l:Λ},au .i64 e w g v l->(∀r,leads v r->B<=r)->au .i64 e w0 g v l:=λh Q=>br h a λr f=>no (Q r f);refine⟨w0,⟨j,m,p,z,gr,aX,L,nm,szv,gz,fv2,h1.ab a (no K),A.ab a (no M),q G N,⟨C.1.ab a λr f=>no (F r (.inl f)),λh aJ=>?_⟩,H,⟨E.1.ab a λr f=>no (F r (.inr f)),λx J=>?_⟩,I⟩,J,P⟩
 .obtain⟨y,hm⟩:=C.2 h aJ;exact⟨y,q hm (O h aJ)⟩
 .obtain⟨⟨y,R⟩,⟨S,U,⟨⟨a6,gs,V,W,t3⟩,t4⟩,aa,X⟩,Y,Z⟩:=E.2 x J;exact⟨⟨y,q R Z⟩,S,U,⟨a6,gs,V.ab a (no Y),q W X,br t3 a λr f=>no (by have:=(bO t3 f).1;omega)⟩,t4⟩
def iH (n:aR) (g:cK):aR:=match g.1 with
 |[]=>{n with zero:=g.2.getD 0 0}
 |[v]=>{n with unary:=n.unary.set v.toNat g.2}
 |_=>{n with funs:=n.funs++[g]}
def CM (f:b2):aR:=⟨f.k,f.sizes,0,f.sizes.map λz=>r8 z.toNat 0,[]⟩
theorem Nf (f:b2):cQ f=(fB f).foldl iH (CM f):=rfl
def dD (f:b2) (i:Nat):aR:=((fB f).take i).foldl iH (CM f)
theorem vZ {f:b2} {i:Nat} {g:cK} (h:(fB f)[i]? =σ g):dD f (i+1)=iH (dD f i) g:=M8 h
theorem s3 (f:b2):dD f (fB f).length=cQ f:=by unfold dD;rw[p9,Nf]
theorem Ng (n:aR) (g:cK):(iH n g).k=n.k/\(iH n g).sizes=n.sizes/\(iH n g).unary.length=n.unary.length/\(iH n g).funs.length<=n.funs.length+1:=by
 unfold iH;split
 .exact⟨rfl,rfl,rfl,Nat.le_succ _⟩
 .exact⟨rfl,rfl,Ξ,Nat.le_succ _⟩
 .exact⟨rfl,rfl,rfl,Ξ⟩
theorem pb (f:b2):∀i,(dD f i).k=f.k/\(dD f i).sizes=f.sizes/\(dD f i).unary.length=f.sizes.length/\(dD f i).funs.length<=i
 |0=>⟨rfl,rfl,by show (f.sizes.map _).length=_;simp,X3 _⟩
 |i+1=>by
  have a:=pb f i;cases h:(fB f)[i]? with
  |none=>
   have j:=List.getElem?_eq_none_iff.1 h;have e:dD f (i+1)=dD f i:=by unfold dD;rw[b8 Ω,b8 j]
   rw[e];exact⟨a.1,a.2.1,a.2.2.1,Ω⟩
  |some g=>
   rw[vZ h];obtain⟨h1,m,p,q⟩:=Ng (dD f i) g;exact⟨h1.trans a.1,m.trans a.2.1,p.trans a.2.2.1,Ω⟩
end Go.Proofs.YtmgflbkdggdhoaaGreatDoor
