/- own texts, made small by a tool (wip/ holds them as they were written): no statement of the seat. -/
import Derived.Test.YtikkpokkcdocoaaGreatDoorXb
set_option linter.unusedVariables false
set_option linter.unusedSimpArgs false
set_option linter.unnecessarySimpa false
open Array renaming getElem?_eq_some_iff→n9
open Bool renaming not_true→Y6,not_false→W5,eq_iff_iff→U1,or_eq_false_iff→U5
open Decidable renaming not_not→X3
open Go renaming Value→x1,World→x3,TypeId→r9,IntKind→o4,Builtin→Z5,Program→W9,FuncId→Q1
open Go.Addr renaming add_mid→T2
open Go.Builtin renaming append_→Z3,len_→V2
open Go.Instr renaming loadAt→u4,fieldAt→u5,storeAt→o6,indexAt→j5,extract→Y3,buildSlice→Y7,sliceAt→V6
open Go.IntKind renaming i64→X7
open Go.Proofs.Tryz renaming prog→x7
open Go.Value renaming int→V7
open Int renaming toNat_natCast→u6
open List renaming getElem?_eq_some_iff→x4,mem_of_getElem?→x5,getElem?_eq_getElem→x6,getElem?_map→x8,getD_eq_getElem?_getD→v8,take_add_one→u7,length_map→u9,length_append→r8,replicate→p9,take_length→o5,length_take→o7,mem_append→o9,mem_singleton→l7,mem_map→l9,take_of_length_le→j0,eq_nil_of_length_eq_zero→j4,length_cons→c9,getElem?_set_self→Z0,map_append→Z4,length_set→Z6,getElem?_take_of_lt→Z9,getElem?_eq_none→Y0,getElem?_append_left→Y1,getElem?_append_right→Y2,getElem?_set_ne→Y8,getElem?_set→X1,ext_getElem?→X2,mem_iff_getElem?→X5,drop_eq_getElem_cons→X8,append_assoc→X9,mem_or_eq_of_mem_set→W3,append_nil→W7,range→V0,length_eq_one_iff→V1,mem_cons→V3,mem_of_mem_take→V5,pairwise_iff_getElem→V9,map_set→U6,length_singleton→U9,map_cons→T4,foldl_cons→T9,set_append_right→S0,mem_filter→S4,getElem_mem→S9,length→R6,map_map→Q0,mem_range→Q3
open Nat renaming le_refl→p8,le_trans→Y5,zero_le→X4,zero_add→X6,sub_self→U2,mul_one→T0,lt_of_lt_of_le→T7,add_assoc→S6,eq_zero_or_pos→Q4
open Option renaming toList_some→o8,isNone_some→j9,map_some→Z7,map_eq_some_iff→Y9,getD_some→V8,map→U3
open Option.some renaming inj→Z2,injEq→X0
open Prod.mk renaming injEq→S2
set_option maxHeartbeats 16000000
open Option renaming some→σ,none→ν
variable{w w':x3}{cs:List x1}{B N gs j n r:Nat}{clean:Bool}{bb bv sv szv v:x1}{a ag all l scope sizes t:Λ}{k y:Int}{S:Nat->Prop}{e:r9}{K:x1->x3->Prop}
namespace Go.Proofs.YtikkpokkcdocoaaGreatDoor
open Go Go.Vc Go.RowKit Go.Proofs Go.Proofs.Tryz
set_option maxRecDepth 100000
theorem BF(sizes:Λ)(s:Option aD):iO sizes s=match a7 (-av) av s with
 |none=>ν
 |some (n,s)=>
  if n<0 then match s.shared[(-n-1).toNat]? with
   |none=>ν
   |some (z,l)=>if z=sizes then σ (l,s)else ν
  else cK (dR sizes) n.toNat [] (jU n s):=by
 cases s with
 |none=>rfl
 |some s=>
  show dS sizes s=_;unfold dS;show _=match bc (-av) av s with
   |none=>ν
   |some (n,s)=>
    if n<0 then match s.shared[(-n-1).toNat]? with
     |none=>ν
     |some (z,l)=>if z=sizes then σ (l,s)else ν
    else cK (dR sizes) n.toNat [] (jU n s)
  cases bc (-av) av s<;>rfl
theorem BG{m:Bool}{S R:af}{a:iM}(h:an.rep (α:=iM) m S R w cs a):∃u v,cs=[u,v]/\an.rep (α:=Λ) false bx R w [u] a.1/\an.rep (α:=List (Λ×Int)) false bx R w [v] a.2:=by
 obtain⟨c,d,f,j,rfl,_,_,_,h1,e⟩:=h;have h1:an.rep (α:=Λ) false bx R w c a.1:=h1;have e:an.rep (α:=List (Λ×Int)) false bx R w d a.2:=e;obtain⟨u,rfl⟩:=V1.1 (show c.length=1 from an.len h1);obtain⟨v,rfl⟩:=V1.1 (show d.length=1 from an.len e);exact⟨u,v,rfl,h1,e⟩
theorem Lr{g:Nat}{A B:af}{s:Option aD}(h:dk w g gs A B clean s)(hi:∀t,s=σ t->dT t)(aw:aH .i64 w sv sizes)(K:∀r,leads sv r->¬bA g gs A r/\r<w.heap.size)(ay:∀z∈sizes,1<=z/\z<=av)(aA:sizes.length<=100001)(aC:e6 w)(h1:cA g gs A B 1):
  ai x7 Hq [Γ g,sv] w λv w'=>fS w g gs A B clean ((iO sizes s).map (·.2)) w'/\∃l,Seen (λr=>cA g gs A B r\/w.heap.size<=r) w' [v] (show List (Λ×Int)from l)/\∀q,iO sizes s=σ q->l=q.1:=by
 have aE:=h.side;obtain⟨bd,be,bf,aF,bg⟩:=id aE;have ac:∀r,bA g gs A r->r<w.heap.size:=aF;refine az func167 ?_;refine(lW (lo:=-av) (hi:=av) h).mono ?_;rintro _ J _ ⟨aI,n,at_,rfl,W,aJ⟩;obtain⟨L,ak⟩:=aI.of;have bh:=L.size;have j:=BF sizes s;rw[br,bt];have al:aH .i64 J sv sizes:=hX aw L λr C a n c M X=>(K r ⟨a,n,c,M,X⟩).1 C;have bi:∀r,leads sv r->¬bA g gs A r/\r<J.heap.size:=λr C=>⟨(K r C).1,by have:=(K r C).2;omega⟩;have rest:∀U,Ext J U->(∀q,a7 (-av) av s=σ q->¬n<0)->∀N:Nat,n=(N:Int)->(N:Int)<=av->∀y,ae (bA g gs A) U y->dk y g gs A B clean (((a7 (-av) av s).map (·.2)).map (jU n))->
   ∀v w' l,fS y g gs A B clean ((fs (dR sizes) N [] (((a7 (-av) av s).map (·.2)).map (jU n))).map (·.2)) w'->bD (eK y.heap.size) bx w' [v] (show List (Λ×Int)from l)->(∀q,fs (dR sizes) N [] (((a7 (-av) av s).map (·.2)).map (jU n))=σ q->l=q.1)->
   fS w g gs A B clean ((iO sizes s).map (·.2)) w'/\∃l,Seen (λr=>cA g gs A B r\/w.heap.size<=r) w' [v] (show List (Λ×Int)from l)/\∀q,iO sizes s=σ q->l=q.1:=by
  intro U x O N Y Z y G aa v w' l aK aL aM;obtain⟨aN,aO⟩:=aK.of;have aP:=x.size;have z3:=G.size;have e:iO sizes s=fs (dR sizes) N [] (((a7 (-av) av s).map (·.2)).map (jU n)):=by
   rw[j];cases f:a7 (-av) av s with
   |none=>rfl
   |some q=>
    obtain⟨aS,s1⟩:=q;have:=W _ f;subst this;simp only;rw[if_neg (O _ f),Y,u6];rfl
  rw[e];refine⟨fS.mk (((L.trans (x.V _)).trans G).trans aN) aO,l,pU aL λr _ h=>?_,aM⟩;rcases h with h|h
  .have h:y.heap.size<=r:=h;exact .inr Ω
  .exact h.elim
 refine aT (λv U=>Ext J U/\v= .bool (decide (n<0/\(a7 (-av) av s).isSome=true))) ?_ ?_
 rotate_left
 .intro ax Q;refine(pd ak).mono ?_;rintro _ U _ ⟨rfl,x⟩;cases f:a7 (-av) av s with
  |none=>
   rw[show((ν:Option (Int×aD)).map (·.2)).isSome=false from rfl,aU];exact Q _ _ ⟨x,by rw[decide_eq_false];rintro⟨_,h⟩;rw[f]at h;cases h⟩
  |some q=>
   rw[show((σ q:Option (Int×aD)).map (·.2)).isSome=true from rfl,bL,aQ];exact Q _ _ ⟨x,by congr 1;rw[U1,decide_eq_true_eq,decide_eq_true_eq,f];exact⟨λh=>⟨h,rfl⟩,λh=>h.1⟩⟩
 rintro _ U ⟨x,rfl⟩;have H:=ak.ext x;have aP:=x.size;rw[aj];refine⟨λO=>?_,λaV=>?_⟩
 rotate_left
 .have O:∀q,a7 (-av) av s=σ q->¬n<0:=λq f h=>aV ⟨h,by rw[f];rfl⟩;obtain⟨N,Y,Z⟩:∃N:Nat,n=(N:Int)/\(N:Int)<=av:=by
   cases f:a7 (-av) av s with
   |none=>rw[aJ f];exact⟨0,rfl,by unfold av;omega⟩
   |some q=>
    have h1:=O q f;have aW:=mH (n:=q.1) (s':=q.2) f;have aX:=W q f;exact⟨n.toNat,Ω,Ω⟩
  refine Ll (at_:=at_) H (λt aY=>?_) λy G aa=>?_
  .obtain⟨q,f,rfl⟩:=Y9.1 aY;have aW:=mH (n:=q.1) (s':=q.2) f;have aX:=W q f;refine⟨Ω,Ω,?_⟩;cases s with
   |none=>cases f
   |some s0=>
    have am:=(dF (n:=q.1) (s':=q.2) f).eqs;have an:=hi s0 rfl;intro ao;rw[am.1];rw[am.2.1]at ao;exact an ao
  .have z3:=G.size;have aZ:ae (bA g gs A) w y:=(L.trans (x.V _)).trans G;subst Y;refine Lq (N:=N) aa ((hX (al.ext x) G λr C a n c M X=>(K r ⟨a,n,c,M,X⟩).1 C)) (λr C=>⟨(K r C).1,by have:=(K r C).2;omega⟩) ay aA (aC.V aZ h1.1) h1 Z λv w' l a b c=>?_;exact rest U x O N rfl Z y G aa v w' l a b c
 .obtain⟨a1,a2⟩:=O;obtain⟨⟨aS,s1⟩,f⟩:=Option.isSome_iff_exists.1 a2;have:=W _ f;subst this;have bj:=mH f;rw[f]at j H;simp only at j;rw[if_pos a1]at j;have H:df U g gs A B s1 clean:=H;obtain⟨_,an,bk,big,bl,bm,told,bn,ab,bo,ad⟩:=id H;have bp:av=4611686018427387904:=rfl;refine aT (λv y=>Ext U y/\v= .bool (decide (iO sizes s=ν))) ?_ ?_
  .rintro _ y ⟨E,rfl⟩;rw[aj];refine⟨λa6=>?_,λap=>?_⟩
   .refine (ss (H.ext E) Ω).mono ?_;rintro _ bq _ ⟨a8,ba⟩;rw[a6];refine⟨fS.mk (((L.trans (x.V _)).trans (E.V _)).trans (a8.mono λr _ h=>.inl h)) ba,[],hA,λq f=>by cases f⟩
   .cases P:s1.shared[(-n-1).toNat]? with
    |none=>rw[P]at j;exact absurd j ap
    |some q=>
     obtain⟨z,l⟩:=q;rw[P]at j;simp only at j;have bb:z=sizes:=by
      by_cases I:z=sizes
      .exact I
      .rw[if_neg I]at j;exact absurd j ap
     rw[if_pos bb]at j;rw[aG cb.p 3 (ab.ext E) rfl,lM,wrap_i64 Ω Ω,dD,wrap_i64 Ω Ω];refine lS (α:=iM) (m:=true) (S:=A) (R:=cA g gs A B) (i:=(-n-1).toNat) (a:=(z,l)) Ω ht.u jK.i (bT ad E) P λb o cs ag ah=>?_;obtain⟨u,v,rfl,hu,M⟩:=BG ah;rw[aR jK.p rfl,aB Ψ (ag 1 v rfl)];rw[j];refine⟨fS.mk ((L.trans (x.V _)).trans (E.V _)) (H.ext E),l,pU M λr _ h=>?_,λq f=>by cases f;rfl⟩;rcases h with h|h
     .exact h.elim
     .exact .inl h
  .intro ax Q;rw[lM,wrap_i64 Ω Ω,aG cb.p 3 ab rfl,jl ht.u ad,bP,aj];refine⟨λaq=>Q _ _ ⟨Ext.refl _,?_⟩,λau=>?_⟩
   .have aq:(s1.shared.length:Int)<0-n:=aq;rw[Y0 Ω]at j;rw[decide_eq_true j]
   .have au:¬(s1.shared.length:Int)<0-n:=au;have bc:(-n-1).toNat<s1.shared.length:=Ω
    obtain⟨⟨z,l⟩,P⟩:∃q,s1.shared[(-n-1).toNat]?=σ q:=⟨_,x6 bc⟩;rw[aG cb.p 3 ab rfl,lM,wrap_i64 Ω Ω,dD,wrap_i64 Ω Ω];refine lS (α:=iM) (m:=true) (S:=A) (R:=cA g gs A B) (i:=(-n-1).toNat) (a:=(z,l)) Ω ht.u jK.i ad P λb o cs ag ah=>?_;obtain⟨u,v,rfl,hu,M⟩:=BG ah;rw[aR jK.p rfl,aB Ψ (ag 0 u rfl)];refine(r2 (ew hu) (al.ext x)).mono ?_;rintro _ y _ ⟨rfl,E⟩;rw[bC];refine Q _ _ ⟨E,?_⟩;rw[P]at j;simp only at j;by_cases I:z=sizes
    .rw[if_pos I]at j;rw[decide_eq_true I,decide_eq_false (by rw[j];simp)];rfl
    .rw[if_neg I]at j;rw[decide_eq_false I,decide_eq_true j];rfl
abbrev pe(n:Nat):af:=λr=>r<n
def qt(n:Int)(k:Nat)(s:Option aD):Option (Λ×aD):=s.bind (e5 n k)
theorem Ls{g k:Nat}{A B:af}{s:Option aD}{m:Int}(h:dk w g gs A B clean s)(hk:k<=4611686018427387904)(hm:0<=m/\m<=1000000):
  ai x7 y3 [Γ g,Δ (k:Int),Δ m] w λv w'=>fS w g gs A B clean ((qt m k s).map (·.2)) w'/\
   ∃gr l,aq .i64 al w' gr v l/\(∀r,leads v r->w.heap.size<=r)/\l.length<=100001/\∀q,qt m k s=σ q->l=q.1:=by
 cases s with
 |some s=>exact Ki (s:=s) h hk hm
 |none=>
  have h:eD w g gs A B:=h;refine az func165 ?_;refine⟨λout j J=>w=J/\out= .slice ν 0 0/\j=Δ 0,λ_ _ _=>0,⟨rfl,rfl,rfl⟩,?_⟩;rintro _ _ _ ⟨rfl,rfl,rfl⟩;refine aT (λv U=>Ext w U/\v= .bool false) ?_ ?_
  .rintro _ U ⟨e,rfl⟩;rw[aU];exact⟨fS.mk (e.V _) (h.ext e),0,[],aq.nil _ _ _ _,λr p=>absurd p (λh=>by obtain⟨a,n,c,h,_⟩:=h;cases h),Ξ,λq x=>by cases x⟩
  .intro ax f;rw[aQ,aj];refine⟨λ_=>?_,λ_=>f _ _ ⟨Ext.refl _,rfl⟩⟩;refine(nO h).mono ?_;rintro _ U _ ⟨rfl,e⟩;exact f _ _ ⟨e,rfl⟩
def sK(z:Λ)(l:List (Λ×Int))(s:aD):aD:={s with shared:=s.shared++[(z,l)]}
def BH(w:x3)(g gs:Nat):Prop:=∃(e big a f told:Int)(sv:x1),ad w g cb (fF gs e big a f told sv)/\e≠0
def ha(w:x3)(g gs:Nat)(A:af)(B:af)(clean:Bool)(s:Option aD):Prop:=match s with
 |some s=>df w g gs A B s clean
 |none=>BH w g gs
theorem dk.q{g:Nat}{A:af}{B:af}{s:Option aD}(h:dk w g gs A B clean s):ha w g gs A B clean s:=by
 cases s with
 |some s=>exact h
 |none=>
  obtain⟨_,e,big,a,f,told,sv,l,j,p,_⟩:=h;exact⟨e,big,a,f,told,sv,j,p.1⟩
theorem ha.V{g:Nat}{A:af}{B:af}{s:Option aD}(h:ha w g gs A B clean s)(a:ae S w w')(j:¬S g)(p:∀r,bA g gs A r->r<w.heap.size->¬S r)(q:∀r,cA g gs A B r->¬S r):ha w' g gs A B clean s:=by
 cases s with
 |some s=>
  have h:df w g gs A B s clean:=h;exact df.V h a (λr f=>p r f (h.1.2.2.2.1 r f)) q
 |none=>
  obtain⟨e,big,x,y,told,sv,z,C⟩:=h;exact⟨e,big,x,y,told,sv,z.V a j,C⟩
theorem ha.ext{g:Nat}{A:af}{B:af}{s:Option aD}(h:ha w g gs A B clean s)(a:Ext w w'):ha w' g gs A B clean s:=h.V (a.V λ_=>False) (λh=>h) (λ_ _ _ h=>h) (λ_ _ h=>h)
theorem BI{g:Nat}{A:af}{B:af}{s:Option aD}(h:ha w g gs A B clean s):ai x7 kR [Γ g] w λv w'=>v= .bool s.isSome/\Ext w w':=by
 cases s with
 |none=>
  obtain⟨e,big,p,q,told,sv,a,f⟩:=h;refine(vy a).mono ?_;rintro _ J _ ⟨rfl,j⟩;exact⟨by rw[decide_eq_false f];rfl,j⟩
 |some s=>exact o0 h
theorem hD.aY{g:Nat}{R R':Nat->Prop}{toks:List (Λ)}(h:hD w g R toks clean)(f:ae S w w')(q:¬S g)(s:∀r,R r->¬S r)(x:∀r,R r->R' r):hD w' g R' toks clean:=by
 obtain⟨y,p,a,⟨h1,z,A,B,bm,C⟩,j,E⟩:=h;exact⟨y,p,a,⟨h1,z,A,B.V f q,bm,bo C f λr e=>s r (j r e)⟩,λr e=>x r (j r e),E⟩
theorem lX{α:Type}[an α]{m:Bool}{S R:af}{l:List α}(h:an.rep m S R w [v] l):∃a n c,v= .slice a n c:=by
 obtain⟨vs,e,F,f,he,I,hm⟩:=jj h;obtain⟨j,b,o,base,cap,rfl,_⟩:=I;exact⟨_,_,_,rfl⟩
def k5(w:x3)(g gs:Nat)(A:af)(B:af)(R:af)(clean:Bool)(s:Option aD):Prop:=match s with
 |some s=>k1 w g gs A B/\hD w gs R s.toks clean/\(0<=s.told/\s.told<=av/\s.shared.length+s.toks.length<=100000)/\
  ∃big a e told sv,ad w g cb (fF gs 0 big a e told sv)/\((s.big=true↔big≠0)/\(s.big=false->told=s.told))/\bD A R w [sv] (show List iM from s.shared)
 |none=>BH w g gs
theorem k5.V{g:Nat}{A R:af}{B:af}{s:Option aD}(h:k5 w g gs A B R clean s)(a:ae S w w')(x:¬S g)(y:∀r,bA g gs A r->r<w.heap.size->¬S r)(z:∀r,R r->¬S r):k5 w' g gs A B R clean s:=by
 cases s with
 |some s=>
  obtain⟨h1,C,E,big,f,j,told,sv,p,q,F⟩:=h;have G:=h1.2.2.2.1;exact⟨h1.V a,C.V a (y gs (.inr (.inl rfl)) (G _ (.inr (.inl rfl)))) z,E,big,f,j,told,sv,p.V a x,q,an.V F a λr H h=>h.elim (λh=>y r (.inr (.inr h)) H) (z r)⟩
 |none=>
  obtain⟨e,big,f,j,told,sv,p,q⟩:=h;exact⟨e,big,f,j,told,sv,p.V a x,q⟩
theorem k5.out{g:Nat}{A R B e:af}{s:Option aD}(h:k5 w g gs A B R clean s)(f:∀r,R r->cA g gs A e r)(j:∀r,e r->r<w.heap.size):ha w g gs A e clean s:=by
 cases s with
 |some s=>
  obtain⟨⟨q,x,y,z,O⟩,⟨C,p,a,E,F,G⟩,H,big,I,J,told,sv,K,L,M⟩:=h;exact⟨⟨q,x,y,z,j⟩,⟨C,p,a,E,λr N=>f r (F r N),G⟩,H,big,I,J,told,sv,K,L,an.mono M (λ_ _ h=>h) λr _ h=>f r h⟩
 |none=>exact h
theorem dk.qr{g:Nat}{A R:af}{B:af}{s:Option aD}(h:dk w g gs A B clean s)(y:∀r,cA g gs A B r->R r):k5 w g gs A B R clean s:=by
 cases s with
 |some s=>
  obtain⟨h1,⟨z,p,a,C,E,F⟩,G,big,f,j,told,sv,q,x,H⟩:=h;exact⟨h1,⟨z,p,a,C,λr I=>y r (E r I),F⟩,G,big,f,j,told,sv,q,x,an.mono H (λ_ _ h=>h) λr _ h=>y r h⟩
 |none=>
  obtain⟨_,e,big,f,j,told,sv,l,q,x,_⟩:=h;exact⟨e,big,f,j,told,sv,q,x.1⟩
theorem Lt{g O:Nat}{A B R:af}{s:Option aD}{aN ay u:x1}{z:Λ}{l:List (Λ×Int)}{K:x3->Prop}(h:dk w g gs A B clean s)(P:∀r,cA g gs A B r->R r)(ah:∀r,R r->cA g gs A (pe w.heap.size) r)(ai:∀t,s=σ t->t.shared.length+1+t.toks.length<=100000)(aj:ad w O b0 [aN,u,ay,v])(hu:an.rep (α:=Λ) false bx R w [u] z)(ak:an.rep (α:=List (Λ×Int)) false bx R w [v] l)(az:∀w' aE,ae (bA g gs A) w w'->(∀r,aE r->A r\/w.heap.size<=r)->k5 w' g gs aE (pe w.heap.size) R clean (s.map (sK z l))->K w'):
  aa x7 (bN (Γ g)) w λQ=>
  aa x7 (u5 cb Q 3) w λS=>
  aa x7 (u4 ht S) w λal=>
  aa x7 (u5 b0 (Γ O) 1) w λt76=>
  aa x7 (u4 au t76) w λt77=>
  aa x7 (u5 b0 (Γ O) 3) w λaA=>
  aa x7 (u4 iC aA) w λaB=>
  aa x7 (Instr.build jK #[(0,t77),(1,aB)]) w λaF=>
  aC x7 (Y7 ht 1 #[(0,aF)]) w λaH F=>
   (Ext w F\/cu x7 (u4 ht S) al F/\cu x7 (u5 cb Q 3) S F/\cu x7 (bN (Γ g)) Q F/\True)/\
   aC x7 (Z3 #[ht,ht] ht #[al,aH]) F λaI W=>
    aa x7 (bN (Γ g)) W λaJ=>
    aa x7 (u5 cb aJ 3) W λaK=>
    aC x7 (o6 ht aK aI) W λ(_:Unit)aM=>K aM:=by
 obtain⟨aO,e,big,j,q,told,sv,H,y,L,a1,aP⟩:k1 w g gs A B/\∃e big j q told sv,∃H:List iM,ad w g cb (fF gs e big j q told sv)/\bD A R w [sv] H/\H.length<=100000/\
   ∀w' aE C,k1 w' g gs aE (pe w.heap.size)->ae (λr=>A r\/r=g) w w'->ad w' g cb (fF gs e big j q told C)->bD aE R w' [C] (H++[((z,l):iM)])->k5 w' g gs aE (pe w.heap.size) R clean (s.map (sK z l)):=by
  cases s with
  |none=>
   obtain⟨h1,e,big,j,q,told,sv,l',X,M,Y⟩:=h;exact⟨h1,e,big,j,q,told,sv,l',X,an.mono Y (λ_ _ h=>h) λr _ h=>P r h,M.2,λw' aE C I _ y L=>⟨e,big,j,q,told,C,y,M.1⟩⟩
  |some s=>
   obtain⟨h1,aQ,am,big,j,q,told,sv,X,M,Y⟩:=h;have ai:=ai s rfl;refine⟨h1,0,big,j,q,told,sv,s.shared,X,an.mono Y (λ_ _ h=>h) λr _ h=>P r h,(show s.shared.length<=100000 by omega),λw' aE C I aS y L=>⟨I,?_,⟨am.1,am.2.1,?_⟩,big,j,q,told,C,y,M,L⟩⟩
   .exact hD.aY aQ aS (λhe=>he.elim h1.2.2.1 λh=>h1.1 h.symm) (λr f he=>he.elim (λh=>f.1 (.inr (.inr h))) λh=>f.1 (.inl h)) P
   .show (s.shared++[(z,l)]).length+s.toks.length<=100000;simp;omega
 obtain⟨aT,Z,aU,ap,a2⟩:=id aO;rw[aG cb.p 3 y rfl,aL b0.p 1 aj rfl,aL b0.p 3 aj rfl];rw[dh (cs:=#[u,v]) (by obtain⟨_,_,_,rfl⟩:=lX hu;obtain⟨_,_,_,rfl⟩:=lX ak;kernel_rfl)];have aq:bD (λ_=>False) R w [u,v] ((z,l):iM):=⟨[u],[v],bx,bx,rfl,λ_ h=>h,λ_ h=>h,λ_ _ h _=>h,hu,ak⟩;refine kl (α:=iM) (a:=(z,l)) (cs:=[u,v]) (A:=λ_=>False) (R:=R) ht.u jK.i Φ rfl aq λx J E _ aV=>?_;have a6:=E.size;refine⟨.inl E,?_⟩;refine nC (α:=iM) (a:=(z,l)) (A:=λ_=>False) (R:=R) ht.u jK.i rfl (bT L E) aV (bT aq E) (λr _ aW G=>?_) Ω Ω λav U ab ac=>?_
 .rcases G with G|G
  .exact G
  .exact (ah r G).1 (.inr (.inr aW))
 have a7:=ac.size;have aX:=(y.ext E).V ac Z;rw[bJ,aR cb.p rfl];refine bk (g:=g) (o:=6) ht.i (pV ab) (jk ab) aX (by simp[fF]) λN aw a8 ag=>?_;have ag:ad N g cb (fF gs e big j q told av):=ag;have ax:ae (λr=>A r\/r=g) w N:=((E.V _).trans (ac.mono λr _ h=>.inl h)).trans (aw.mono λr _ h=>.inr h);let aE:af:=λr=>(A r\/w.heap.size<=r)/\r<U.heap.size;have ba:g<w.heap.size:=ap g (.inl rfl);have bb:gs<w.heap.size:=ap gs (.inr (.inl rfl));have aZ:=an.mono (S':=aE) (R':=R) ab (λr f h=>⟨h.elim .inl λh=>h.elim False.elim λh=>.inr Ω,f⟩) (λr f h=>h);refine az N aE (ax.mono λr _ h=>h.elim (λh=>.inr (.inr h)) .inl) (λr f=>f.1) (aP N aE av ⟨aT,λh=>h.1.elim Z λh=>Ω,λh=>h.1.elim aU λh=>Ω,λr f=>?_,?_⟩ ax ag (an.V aZ aw λr f ao he=>?_))
 .rcases f with rfl|rfl|f
  .omega
  .omega
  .have:=f.2;omega
 .intro r f;have f:r<w.heap.size:=f;omega
 .have he:r=g:=he;subst he;rcases ao with ao|ao
  .exact ao.1.elim Z λh=>Ω
  .exact (ah _ ao).1 (.inl rfl)
theorem Lu{e:Nat}{aN z:x1}{M:x3->Prop}(N:ad w e b0 [aN,.slice ν 0 0,Δ 0,.slice ν 0 0])(O:aH .i64 w aN scope)(ab:∀r,leads aN r->r≠e)(ac:aH .i64 w z all)(af:∀r,leads z r->r≠e)(ag:∀v∈scope,0<=v/\v<all.length)(aI:scope.length<=100001)(ai:∀w' szv gz,ae (λr=>r=e) w w'->ad w' e b0 [aN,szv,Δ 0,.slice ν 0 0]->aq .i64 al w' gz szv (scope.map λv=>all.getD v.toNat 0)->w.heap.size<=gz->M w'):
 bZ (Δ 0) w λF s k=>
  aa x7 (aJ .lss ah false false F (Δ (scope.length:Int))) s λak=>
  Split ak (aa x7 (j5 au aN F) s λam=>
  aa x7 (u4 al am) s λan=>
  ev s λf=>
  aa x7 (u5 b0 (Γ e) 1) f λt39=>
  aa x7 (u4 au t39) f λP=>
  aa x7 (j5 au z an) f λao=>
  aa x7 (u4 al ao) f λap=>
  aC x7 (Y7 au 1 #[(0,ap)]) f λt45 A=>
   (Ext f A\/cu x7 (u4 au t39) P A/\cu x7 (u5 b0 (Γ e) 1) t39 A/\True)/\
  aC x7 (Z3 #[au,au] au #[P,t45]) A λt46 Q=>
   aa x7 (u5 b0 (Γ e) 1) Q λav=>
   aC x7 (o6 au av t46) Q λ(_:Unit)R=>
    aa x7 (aJ .add ah false true F (Δ 1)) R λaw=>
  k aw R) (M s):=by
 have aK:=N.lt;refine bZ.range scope.length (λi J=>ae (λr=>r=e) w J/\∃szv gz,ad J e b0 [aN,szv,Δ 0,.slice ν 0 0]/\aq .i64 al J gz szv ((scope.take i).map λv=>all.getD v.toNat 0)/\w.heap.size<=gz) O.le ⟨ae.refl _ _,_,w.heap.size,N,aq.nil _ _ _ _,p8 _⟩ ?_ ?_
 rotate_left
 .rintro J ax ⟨j,szv,gz,B,C,S⟩;rw[o5]at C;rw[aQ,aj];exact⟨λh=>Ω,λ_=>ai J szv gz j B C S⟩
 rintro i J ax hi ⟨j,szv,gz,B,C,S⟩ ay;obtain⟨v,G⟩:=aF (l:=scope) hi;have aM:=ag v (x5 G);have az:all[v.toNat]?=σ (all.getD v.toNat 0):=by
  rw[v8,x6 Ω];rfl
 have aA:aH .i64 J aN scope:=hX O j λr E a n c H I=>ab r ⟨a,n,c,H,I⟩ E;have aB:aH .i64 J z all:=hX ac j λr E a n c H I=>af r ⟨a,n,c,H,I⟩ E;refine bQ Ω ?_;rw[be au.u al.i Ψ aA G];intro U q _ _;have aO:=j.size;have aS:=q.size;rw[aL b0.p 1 (B.ext q) rfl];rw[gl (y:=v) (i:=v.toNat) Ω au.u al.i Ψ (aB.ext q) az];refine en au.u al.i rfl λa ga aT aU x aD=>?_;refine⟨.inl x,?_⟩;have z3:=x.size;refine jh au.u al.i rfl ((C.ext q).ext x) aD.ls Θ Θ λW X aV aW K Y=>?_;rw[aR b0.p rfl];have aE:=((B.ext q).ext x).V Y (λhe=>by have he:e=gz:=he;omega);refine bk (g:=e) (o:=1) au.i K.ls.cells.1 K.ls.cells.2 aE Ξ λaG Z aX L=>?_;have L:ad aG e b0 [aN,W,Δ 0,.slice ν 0 0]:=L;rw[aP];refine ay _ ⟨(hC (j.trans ((q.trans x).V _)) Y λr E he=>by have he:r=gz:=he;omega).trans Z,W,X,L,?_,Ω⟩;rw[u7,G,o8,Z4];exact K.V Z (λ_ he=>by have he:X=e:=he;omega)
abbrev hI:Type:=Rd (Λ)×Rd (Λ)×Int×Rd (List (Λ×Int))
def hb(f:cm):hI:=(f.scope,f.sizes,f.other,f.lines)
theorem BJ{R:af}{aN b3:x1}{o:Int}{sc:Λ}{l:List (Λ×Int)}(h1:an.rep (α:=Λ) false bx R w [aN] sc)(e:an.rep (α:=Λ) false bx R w [szv] a)(f:an.rep (α:=List (Λ×Int)) false bx R w [b3] l):
  Seen R w [aN,szv,Δ o,b3] ((sc,a,o,l):hI):=
 ⟨[aN],[szv,Δ o,b3],bx,bx,rfl,λ_ h=>h,λ_ h=>h,λ_ _ h _=>h,h1,[szv],[Δ o,b3],bx,bx,rfl,λ_ h=>h,λ_ h=>h,λ_ _ h _=>h,e,[Δ o],[b3],bx,bx,rfl,λ_ h=>h,λ_ h=>h,λ_ _ h _=>h,rfl,f⟩
theorem qu{R:af}{g:Nat}(h:aq .i64 e w g v l)(q:∀r,leads v r->R r):an.rep (α:=Λ) false bx R w [v] l:=by
 have h1:bD (λr=>r=g) bx w [v] l:=nD h;obtain⟨vs,s,F,E,he,I,hm⟩:=jj h1;refine⟨v,rfl,vs,s,λ_ _=>False,⟨λ_ _ h=>h,λh=>(by cases h),λh=>by cases h⟩,⟨he.1,λi c a x y=>?_⟩,?_,λh=>by cases h⟩
 .exact he.2 i c a x y
 .obtain⟨f,b,o,base,cap,rfl,z,A,j,G,B⟩:=I;refine⟨f,b,o,base,cap,rfl,z,A,j,λp=>.inr (q b ?_),B⟩;have C:0<l.length:=by
   rw[f]at p;rcases Q4 l.length with h|h
   .rw[h,Nat.zero_mul]at p;omega
   .exact h
  exact⟨⟨b,o,ν⟩,l.length,cap,by rw[j C],rfl⟩
theorem BK{α:Type}[an α]{R R':af}{a:α}(h:Seen R w cs a)(e:∀r,r<w.heap.size->R r->R' r):Seen R' w cs a:=an.mono h (λ_ _ h=>h) e
theorem BL{f a:Nat}(e:cs.length=4)(h1:∀v∈cs,v.oneCell'=true)(q:ad w f b0 cs){h:List x1}(s:h.length=4)(x:ad w a b0 h)(y:∀w',ae (λr=>r=a) w w'->K (.agg cs.toArray) w'):
  aa x7 (u4 b0 (Γ f)) w λz=>
  aC x7 (o6 b0 (Γ a) z) w λ(_:Unit)j=>
  aa x7 (do loadVar b0 (<-asAddr (Γ a))) j λA=>K A j:=by
 rw[bH b0.p b0.i e q.range];refine b6 b0.i e s h1 x λw' B _ C=>?_;rw[fC b0.p b0.i e C.range];exact y w' B
theorem BM{s s':aD}{l:List (Λ×Int)}(h:dS sizes s=σ (l,s')):s'.shared=s.shared/\s'.toks.length<=s.toks.length:=by
 unfold dS at h;cases e:bc (-av) av s with
 |none=>rw[e]at h;cases h
 |some q=>
  obtain⟨n,s1⟩:=q;rw[e]at h;simp only at h;have h1:=dF e;obtain⟨w,x,j⟩:=h1.eqs;split at h
  .cases I:s1.shared[(-n-1).toNat]? with
   |none=>rw[I]at h;cases h
   |some q=>
    obtain⟨z,l'⟩:=q;rw[I]at h;simp only at h;split at h
    .simp only[X0,S2]at h;obtain⟨rfl,rfl⟩:=h;exact⟨j,by have:=h1.1;omega⟩
    .cases h
  .have:=kr (f:=dR sizes) (λacc t=>t.shared=s.shared/\t.toks.length<=s.toks.length) (λacc t a bi ⟨r,y⟩ g=>by
    obtain⟨A,B,C,p⟩:=oY g;obtain⟨f1,f2,f3⟩:=p.eqs;exact⟨by rw[f3,r],by have:=p.1;omega⟩) n.toNat [] (a8 (decide (16384<min (s1.told+n) av)) {s1 with told:=min (s1.told+n) av}) l s' ⟨j,by have:=h1.1;show s1.toks.length<=_;omega⟩ h
   exact this.1
theorem Lv{g:Nat}{A B:af}{s:aD}{aC:x1}(h:df w g gs A B s clean)(hi:dT s)(bM:aH .i64 w aC all)(bf:∀r,leads aC r->¬bA g gs A r/\r<w.heap.size)(cn:∀z∈all,1<=z/\z<=av)(dp:all.length<=100001)(cp:e6 w)(h1:cA g gs A B 1):
  ai x7 yV [Γ g,aC] w λv w'=>∃aE W cs,∃bN:hI,v= .agg cs.toArray/\cs.length=4/\ae (bA g gs A) w w'/\(∀r,aE r->A r\/w.heap.size<=r)/\(∀r,W r->(B r\/w.heap.size<=r)/\r<w'.heap.size)/\(∀r,B r->W r)/\ha w' g gs aE W clean ((c6 all s).map (·.2))/\
   Seen (cA g gs aE W) w' cs bN/\∀q,c6 all s=σ q->bN=hb q.1:=by
 have cq:=h.1;obtain⟨dq,dr,bg,cr,X⟩:=id cq;have ac:∀r,bA g gs A r->r<w.heap.size:=cr;have dt:av=4611686018427387904:=rfl;have du:s.shared.length+s.toks.length<=100000:=h.2.2.1.2.2;refine az func113 ?_;refine bz b0.i λC J dv bh aP=>?_;have aP:ad J C b0 [.slice ν 0 0,.slice ν 0 0,Δ 0,.slice ν 0 0]:=aP;have dw:=bh.size;have dx:=aP.lt;have M:¬bA g gs A C:=λy=>by have:=ac _ y;omega
 refine(vz (lo:=-av) (hi:=av) (h.ext bh)).mono ?_;rintro _ U _ ⟨Y,a,at_,rfl,bQ,ct⟩;obtain⟨bi,bj⟩:=Y.of;have dy:=bi.size;rw[br,bt,aQ,lM];have dz: -av<=a/\a<=av:=by
  cases E:bc (-av) av s with
  |none=>rw[ct E];unfold av;omega
  |some q=>rw[bQ q E];exact(hY (n:=q.1) (s':=q.2) E).1
 rw[wrap_i64 Ω Ω,uW,show max a (0-a)=((a.natAbs:Nat):Int) by omega];have bR:ae (bA g gs A) w U:=(bh.V _).trans bi;have cu:aH .i64 U aC all:=hX bM bR λr f a n c H bl=>(bf r ⟨a,n,c,H,bl⟩).1 f;rw[aW au.u cu];refine(Ls (k:=a.natAbs) (m:=(all.length:Int)) bj Ω Ω).mono ?_;rintro aN dA _ ⟨Y,gr,scope,aF,cw,dC,cz⟩;obtain⟨bm,cB⟩:=Y.of;have z3:=bm.size;rw[dh (cs:=#[aN,.slice ν 0 0,Δ 0,.slice ν 0 0]) (by obtain⟨_,_,_,_,_,rfl,_⟩:=aF.ls;kernel_rfl)];refine bz b0.i λj cC dD aG aS=>?_;have aS:ad cC j b0 [.slice ν 0 0,.slice ν 0 0,Δ 0,.slice ν 0 0]:=aS;have z4:=aG.size;have dE:=aS.lt;have bn:=aF.ls.cells;refine b6 (vs:=[aN,.slice ν 0 0,Δ 0,.slice ν 0 0]) b0.i rfl rfl (by intro v H;simp at H;rcases H with rfl|rfl|rfl|rfl<;>first|exact bn.2|rfl) aS λaT aI dG cD=>?_;have am:¬bA g gs A j:=λy=>by have:=ac _ y;omega
 have bS:dk aT g gs A B clean ((qt all.length a.natAbs ((bc (-av) av s).map (·.2))).map (·.2)):=(cB.ext aG).V aI (λr f he=>by have he:r=j:=he;exact am (he▸f)) (λr f he=>by have:=X r f.2;have he:r=j:=he;omega);have bU:ae (bA g gs A) w aT:=hC ((bR.trans bm).trans (aG.V _)) aI λr f he=>by have he:r=j:=he;omega
 have cE:ad aT C b0 [.slice ν 0 0,.slice ν 0 0,Δ 0,.slice ν 0 0]:=(((aP.V bi M).V bm M).ext aG).V aI (λhe=>by have he:C=j:=he;omega);have cF:aq .i64 al aT gr aN scope:=bo (aF.ext aG) aI λr f he=>by
  obtain⟨cG,bj⟩:=bO aF f;have he:r=j:=he;omega
 refine(pd bS).mono ?_;rintro _ aU _ ⟨rfl,Z⟩;have ao:=bS.ext Z;have aJ:=cF.ext Z;have bp:=cD.ext Z;have bV:=cE.ext Z;have dH:=Z.size;have z5:=aI.size;have Q:∀r,leads aN r->U.heap.size<=r/\r≠j/\r≠C:=λr f=>by
  obtain⟨cG,bj⟩:=bO aF f;have:=cw r f;exact⟨this,Ω,Ω⟩
 have L:c6 all s=match qt all.length a.natAbs ((bc (-av) av s).map (·.2))with
   |none=>ν
   |some (sc,I)=>(iO (sc.map λv=>all.getD v.toNat 0) ((a7 0 av (σ (a8 (decide (6<a.natAbs)||ds (sc.map λv=>all.getD v.toNat 0)) I))).map (·.2))).map λq=>((⟨sc,sc.map λv=>all.getD v.toNat 0,((bc 0 av (a8 (decide (6<a.natAbs)||ds (sc.map λv=>all.getD v.toNat 0)) I)).map (·.1)).getD 0,q.1⟩:cm),if a<0 then sK (sc.map λv=>all.getD v.toNat 0) q.1 q.2 else q.2):=by
  unfold c6;cases E:bc (-av) av s with
  |none=>rfl
  |some q=>
   obtain⟨a',s1⟩:=q;have:=bQ _ E;subst this;simp only;show _=match e5 all.length a.natAbs s1 with
    |none=>ν
    |some (sc,I)=>_
   cases e5 all.length a.natAbs s1 with
   |none=>rfl
   |some q=>
    obtain⟨sc,I⟩:=q;simp only;show _=U3 _ (iO _ ((bc 0 av _).map (·.2)));cases bc 0 av (a8 (decide (6<a.natAbs)||ds (sc.map λv=>all.getD v.toNat 0)) I)with
    |none=>rfl
    |some q=>
     obtain⟨o,G⟩:=q;simp only;show _=U3 _ (dS _ G);cases dS (sc.map λv=>all.getD v.toNat 0) G with
     |none=>rfl
     |some q=>rfl
 rw[bC,b7];cases aa:qt all.length a.natAbs ((bc (-av) av s).map (·.2))with
 |none=>
  rw[aa]at ao L;simp only at L;refine⟨λ_=>?_,λh=>by simp at h⟩;refine BL rfl (by intro v H;simp at H;rcases H with rfl|rfl|rfl|rfl<;>first|exact bn.2|rfl) bp rfl bV λab N=>?_;have cH:=N.size;refine⟨A,λr=>(B r\/w.heap.size<=r)/\r<ab.heap.size,_,(scope,[],0,[]),rfl,rfl,hC (bU.trans (Z.V _)) N λr f he=>by have he:r=C:=he;omega,λr f=>.inl f,λr f=>f,λr f=>⟨.inl f,by have:=X r f;omega⟩,?_,?_,λq E=>by rw[L]at E;cases E⟩
  .rw[L];have cI:ha ab g gs A B clean (U3 (λx=>x.2) (ν:Option (Λ×aD))):=ao.q.V N (λhe=>by have:=ac g (.inl rfl);have he:g=C:=he;omega) (λr f _ he=>by have he:r=C:=he;exact M (he▸f)) (λr f he=>by have:=X r f.2;have he:r=C:=he;omega);exact cI
  .refine BJ (qu (bo aJ N λr f he=>(Q r f).2.2 he) λr f=>?_) hA hA;have O:=Q r f;have ap:=(bO aJ f);exact⟨λy=>by have:=ac _ y;omega,.inr Ω,Ω⟩
 |some q=>
  obtain⟨sc,I⟩:=q;have:=cz _ aa;subst this;rw[aa]at ao L;simp only at L;refine⟨λh=>by simp at h,λ_=>?_⟩;have ao:df aU g gs A B I clean:=ao;obtain⟨s1,cJ,cK⟩:∃s1,(bc (-av) av s).map (·.2)=σ s1/\e5 all.length a.natAbs s1=σ (scope,I):=by
   cases E:(bc (-av) av s).map (·.2)with
   |none=>rw[E]at aa;cases aa
   |some s1=>rw[E]at aa;exact⟨s1,rfl,aa⟩
  obtain⟨bW,cL,rfl⟩:=Y9.1 cJ;have bX:=dF (n:=bW.1) (s':=bW.2) cL;obtain⟨bY,dI,dJ,bZ⟩:=vw cK;have bq:=bX.eqs;have bu:=bY.eqs;have cM:dT I:=λS=>by rw[bu.1,bq.1];rw[bu.2.1,bq.2.1]at S;exact hi S
  have cN:I.shared.length+1+I.toks.length<=100000:=by rw[bu.2.2,bq.2.2];have:=bX.1;have:=bY.1;omega
  generalize bw:(scope.map λv=>all.getD v.toNat 0)=sizes at L;have b1:∀z∈sizes,1<=z/\z<=av:=λz aV=>by
   rw[<-bw]at aV;obtain⟨v,H,rfl⟩:=l9.1 aV;have:=bZ v H;refine cn _ ?_;rw[v8,x6 Ω];exact S9 _
  have dK:sizes.length=scope.length:=by rw[<-bw,u9]
  have b2:ae (bA g gs A) w aU:=bU.trans (Z.V _);have cO:aH .i64 aU aC all:=hX bM b2 λr f a n c H bl=>(bf r ⟨a,n,c,H,bl⟩).1 f;rw[aL b0.p 0 bp rfl,aW au.u aJ.ls];refine Lu bp aJ.ls (λr f=>(Q r f).2.1) cO (λr f=>by have:=(bf r f).2;omega) bZ Ω λab szv gz N b4 aX dL=>?_;rw[bw]at aX;have cH:=N.size;have bB:∀r,cA g gs A B r->¬(λr=>r=j) r:=λr f he=>by have:=X r f.2;have he:r=j:=he;omega
  have bD:∀r,bA g gs A r->¬(λr=>r=j) r:=λr f he=>by have he:r=j:=he;exact am (he▸f)
  have b5:=ao.V N bD bB;have cP:ae (bA g gs A) w ab:=hC b2 N λr f he=>by have he:r=j:=he;omega
  refine dd (λaY=>ae (bA g gs A) ab aY/\df aY g gs A B (a8 (decide (6<a.natAbs)||ds sizes) I) clean) ?_ ?_
  rotate_left
  .intro ax aK;rw[bP,aj];refine⟨λdM=>?_,λdN=>?_⟩
   .refine (su b5).mono ?_;rintro _ cQ _ ⟨cR,cS⟩;refine aK _ ⟨cR.mono λr _ h=>.inl h,?_⟩;rw[decide_eq_true Ω,Bool.true_or];exact cS
   .rw[aL b0.p 1 b4 rfl];refine(AX aX.ls λz aV=>(b1 z aV).1).mono ?_;rintro _ cQ _ ⟨rfl,b8⟩;refine(su (b5.ext b8)).mono ?_;rintro _ dO _ ⟨cT,cU⟩;refine aK _ ⟨(b8.V _).trans (cT.mono λr _ h=>.inl h),?_⟩;rw[decide_eq_false Ω,Bool.false_or];exact cU
  rintro aY ⟨aZ,a1⟩;have dP:=aZ.size;generalize bg:a8 (decide (6<a.natAbs)||ds sizes) I=G at L a1;have cV:dT G:=λS=>by
   subst bg;have S:(I.big||_)=false:=S;exact cM (U5.1 S).1
  have dQ:G.shared.length+1+G.toks.length<=100000:=by subst bg;exact cN
  have a1:dk aY g gs A B clean (σ G):=a1;refine(lW (lo:=0) (hi:=av) a1).mono ?_;rintro _ b9 _ ⟨Y,o,dR,rfl,cW,dU⟩;obtain⟨a2,cX⟩:=Y.of;have dV:=a2.size;rw[br,bt,aR b0.p rfl];have cY:=(b4.V aZ am).V a2 am;refine bk (g:=j) (o:=2) al.i rfl rfl cY Ξ λa6 aw dW ba=>?_;have ba:ad a6 j b0 [aN,szv,Δ o,.slice ν 0 0]:=ba;rw[aL b0.p 1 ba rfl];have cZ:=cX.V aw bD bB;have bE:ae (bA g gs A) ab b9:=aZ.trans a2;have c0:ae (bA g gs A) w b9:=cP.trans bE;have ca:ae (bA g gs A) w a6:=hC c0 aw λr f he=>by have he:r=j:=he;omega
  have ag:∀r,leads szv r->aU.heap.size<=r/\r<ab.heap.size:=λr f=>by have:=bO aX f;omega
  have cb:aq .i64 al a6 gz szv sizes:=bo (bo aX bE λr f y=>by have:=ac _ y;have:=ag r f;omega) aw λr f he=>by have he:r=j:=he;have:=ag r f;omega
  have c1:aq .i64 al a6 gr aN scope:=bo (bo (bo aJ N λr f he=>(Q r f).2.1 he) bE λr f y=>by have:=ac _ y;have:=Q r f;omega) aw λr f he=>(Q r f).2.1 he;have dX:=aw.size;refine(Lr cZ (λt bF=>?_) cb.ls (λr f=>⟨λy=>by have:=ac _ y;have:=ag r f;omega,by have:=ag r f;omega⟩) b1 Ω (cp.V ca h1.1) h1).mono ?_
  .obtain⟨q,E,rfl⟩:=Y9.1 bF;have cc:=(dF (n:=q.1) (s':=q.2) E).eqs;intro S;rw[cc.1];rw[cc.2.1]at S;exact cV S
  rintro b3 c2 _ ⟨Y,l,bG,cd⟩;obtain⟨ay,c3⟩:=Y.of;have dY:=ay.size;have bH:b3.cells= #[b3]/\b3.oneCell'=true:=⟨pV bG,jk bG⟩;rw[aR b0.p rfl];have c4:=ba.V ay am;refine bk (g:=j) (o:=3) iC.i bH.1 bH.2 c4 Ξ λK ah dZ bb=>?_;have bb:ad K j b0 [aN,szv,Δ o,b3]:=bb;have ea:=ah.size;have ce:=c3.V ah bD bB;have c5:ae (bA g gs A) w c2:=ca.trans ay;have c7:ae (bA g gs A) w K:=hC c5 ah λr f he=>by have he:r=j:=he;omega
  have cg:aq .i64 al K gr aN scope:=bo (bo c1 ay λr f y=>by have:=ac _ y;have:=Q r f;omega) ah λr f he=>(Q r f).2.1 he;have bd:aq .i64 al K gz szv sizes:=bo (bo cb ay λr f y=>by have:=ac _ y;have:=ag r f;omega) ah λr f he=>by have he:r=j:=he;have:=ag r f;omega
  have c8:ad K C b0 [.slice ν 0 0,.slice ν 0 0,Δ 0,.slice ν 0 0]:=((((((bV.V N (λhe=>by have he:C=j:=he;omega)).V aZ M).V a2 M).V aw (λhe=>by have he:C=j:=he;omega)).V ay M).V ah (λhe=>by have he:C=j:=he;omega));let P:af:=λr=>(B r\/w.heap.size<=r)/\r<K.heap.size;have ch:an.rep (α:=List (Λ×Int)) false bx (λr=>cA g gs A P r/\r≠j/\r≠C) K [b3] l:=by
   refine BK (an.V bG ah λr f h he=>?_) λr f h=>?_
   .have he:r=j:=he;rcases h with h|h
    .exact h
    .rcases h with h|h
     .have:=X r h.2;omega
     .omega
   .rcases h with h|h
    .have:=X r h.2;exact⟨⟨h.1,.inl h.2,f⟩,Ω,Ω⟩
    .exact⟨⟨λy=>by have:=ac _ y;omega,.inr Ω,f⟩,Ω,Ω⟩
  have c9:∀r,leads aN r->cA g gs A P r/\r≠j/\r≠C:=λr f=>by
   have O:=Q r f;have ap:=(bO cg f);exact⟨⟨λy=>by have:=ac _ y;omega,.inr Ω,Ω⟩,O.2⟩
  have ci:∀r,leads szv r->cA g gs A P r/\r≠j/\r≠C:=λr f=>by
   have O:=ag r f;have ap:=(bO bd f);exact⟨⟨λy=>by have:=ac _ y;omega,.inr Ω,Ω⟩,Ω,Ω⟩
  have da:Seen (λr=>cA g gs A P r/\r≠j/\r≠C) K [aN,szv,Δ o,b3] ((scope,sizes,o,l):hI):=BJ (qu cg c9) (qu bd ci) ch;have db:∀q,c6 all s=σ q->((scope,sizes,o,l):hI)=hb q.1:=λq E=>by
   rw[L]at E;obtain⟨eb,bI,rfl⟩:=Y9.1 E;have O:=cd _ bI;cases aA:bc 0 av G with
   |none=>have e:a7 0 av (σ G)=ν:=aA;rw[e]at bI;cases bI
   |some ak=>
    have ap:=cW ak aA;rw[O,ap];rfl
  have dc:∀v∈[aN,szv,V7 .i64 o,b3],v.oneCell'=true:=by
   intro v H;simp at H;rcases H with rfl|rfl|rfl|rfl
   .exact bn.2
   .exact bd.ls.cells.2
   .rfl
   .exact bH.2
  have cj:∀r,cA g gs A B r->cA g gs A P r/\r≠j/\r≠C:=λr f=>by
   have:=X r f.2;exact⟨⟨f.1,.inl f.2,Ω⟩,Ω,Ω⟩
  refine dd (λbJ=>∃aE,ae (bA g gs A) K bJ/\(∀r,aE r->A r\/K.heap.size<=r)/\∃W,k5 bJ g gs aE W (λr=>cA g gs A P r/\r≠j/\r≠C) clean ((c6 all s).map (·.2))) ?_ ?_
  .rintro bJ ⟨aE,aM,aO,W,de⟩;have ec:=aM.size;refine BL rfl dc (bb.V aM am) rfl (c8.V aM M) λbK be=>?_;have ed:=be.size;have ck:∀r,bA g gs aE r->¬(λr=>r=C) r:=λr f he=>by
    have he:r=C:=he;subst he;rcases f with f|f|f
    .exact M (.inl f)
    .exact M (.inr (.inl f))
    .rcases aO _ f with f|f
     .exact M (.inr (.inr f))
     .omega
   have cl:∀r,(cA g gs A P r/\r≠j/\r≠C)->cA g gs aE (λr=>(B r\/w.heap.size<=r)/\r<bK.heap.size/\(r<K.heap.size\/B r)) r:=λr h=>⟨λy=>h.1.1 (y.imp id (Or.imp id λy=>(aO r y).elim id λh'=>by have:=h.1.2.2;omega)),h.1.2.1,by have:=h.1.2.2;omega,.inl h.1.2.2⟩;have dg:k5 bK g gs aE W (λr=>cA g gs A P r/\r≠j/\r≠C) clean ((c6 all s).map (·.2)):=de.V be (ck g (.inl rfl)) (λr f _=>ck r f) (λr f=>f.2.2);refine⟨aE,λr=>(B r\/w.heap.size<=r)/\r<bK.heap.size/\(r<K.heap.size\/B r),_,(scope,sizes,o,l),rfl,rfl,hC (c7.trans aM) be λr f he=>by have he:r=C:=he;omega,λr f=>(aO r f).imp id λh=>Ω,λr f=>⟨f.1,f.2.1⟩,λr f=>⟨.inl f,by have:=X r f;omega,.inr f⟩,dg.out cl λr f=>f.2.1,?_,db⟩;refine BK (an.V (an.V da aM λr _ h y=>?_) be λr _ h he=>?_) λr _ h=>cl r h
   .rcases h with h|h
    .exact h
    .exact h.1.1 y
   .rcases h with h|h
    .exact h
    .exact h.2.2 he
  .intro ax aK;rw[aj];refine⟨λdi=>?_,λdj=>?_⟩
   .intro bL aB _ _;have ee:=aB.size;have dl:∀r,(cA g gs A P r/\r≠j/\r≠C)->cA g gs A (pe bL.heap.size) r:=λr h=>⟨h.1.1,by have:=h.1.2.2;show r<bL.heap.size;omega⟩;refine Lt (R:=λr=>cA g gs A P r/\r≠j/\r≠C) (z:=sizes) (l:=l) (ce.ext aB) cj dl (λt bF=>?_) (bb.ext aB) (qu (bd.ext aB) ci) (bT ch aB) λef aE dm aO dn=>?_
    .obtain⟨q,E,rfl⟩:=Y9.1 bF;cases aA:bc 0 av G with
     |none=>have e:a7 0 av (σ G)=ν:=aA;rw[e]at E;cases E
     |some ak=>
      have e:a7 0 av (σ G)=σ ak:=aA;rw[e]at E;have h1:q.2.shared=ak.2.shared/\q.2.toks.length<=ak.2.toks.length:=BM (l:=q.1) (s':=q.2) E;have O:=dF (n:=ak.1) (s':=ak.2) aA;have ap:=O.eqs.2.2;have eg:=O.1;rw[h1.1,ap];have:=h1.2;omega
    .refine aK _ ⟨aE,(aB.V _).trans dm,λr f=>(aO r f).imp id λh=>Ω,pe bL.heap.size,?_⟩;have e:(c6 all s).map (·.2)=((iO sizes ((a7 0 av (σ G)).map (·.2))).map (·.2)).map (sK sizes l):=by
      rw[L];cases E:iO sizes ((a7 0 av (σ G)).map (·.2))with
      |none=>rfl
      |some q=>
       have O:=cd _ E;simp only[Z7,if_pos di,O]
     rw[e];exact dn
   .refine aK _ ⟨A,ae.refl _ _,λr f=>.inl f,B,?_⟩;have e:(c6 all s).map (·.2)=(iO sizes ((a7 0 av (σ G)).map (·.2))).map (·.2):=by
     rw[L];cases E:iO sizes ((a7 0 av (σ G)).map (·.2))with
     |none=>rfl
     |some q=>simp only[Z7,if_neg dj]
    rw[e];exact ce.qr cj
def kw(l:Λ):Prop:=∀v∈l,0<=v/\v<64
theorem qv(h:kw l){v:Int}:v∈bl l↔v∈l:=by
 unfold bl;rw[S4,decide_eq_true_eq];refine⟨λh=>h.2,λa=>⟨?_,a⟩⟩;obtain⟨h1,e⟩:=h v a;exact l9.2 ⟨v.toNat,Q3.2 Ω,Ω⟩
theorem Lw(l:Λ):kw (bl l):=λv a=>by
 obtain⟨n,e,rfl⟩:=l9.1 (S4.1 a).1;have:=Q3.1 e;omega
theorem vN(l:Λ):(bl l).Pairwise (·< ·):=by
 unfold bl;refine List.Pairwise.filter _ ?_;rw[List.pairwise_map];exact List.pairwise_lt_range.imp λh=>Ω
theorem BN(l:Λ):(bl l).Nodup:=(vN l).imp λh=>Ω
where
 nodup_le' {a b:Λ} (h:a.Nodup) (I:∀x∈a,x∈b):a.length<=b.length:=by
  induction a generalizing b with
  |nil=>exact X4 _
  |cons x a ih=>
   have h':=List.nodup_cons.1 h;have hx:=I x (.head _);have:=ih (b:=b.erase x) h'.2 λy hy=>(List.mem_erase_of_ne (λ(he:y=x)=>h'.1 (by rw[<-he];exact hy))).2 (I y (.tail _ hy));rw[List.length_erase_of_mem hx]at this;have:=List.length_pos_of_mem hx;rw[c9];omega
theorem BO(n:Nat):(0:Int)<64 ^ n:=Int.pow_pos Ω
theorem sL:∀(l:Λ),kw l->0<=jr l/\jr l<64 ^ l.length
 |[],_=>by simp[jr]
 |x::l,h=>by
  have j:=sL l λy a=>h y (.tail _ a);have f:=h x (.head _);have p:=BO l.length;simp only[jr,c9];have e:(64:Int) ^ (l.length+1)=64*64 ^ l.length:=by rw[Int.pow_succ,Int.mul_comm]
  have h1:x*64 ^ l.length<=63*64 ^ l.length:=Int.mul_le_mul_of_nonneg_right Ω Ω;have q:0<=x*64 ^ l.length:=Int.mul_nonneg f.1 Ω;rw[e];omega
def fT:Λ->Λ->Int
 |x::a,y::b=>if x<y then-1 else if y<x then 1 else fT a b
 |[],[]=>0
 |[],_::_=>-1
 |_::_,[]=>1
theorem BP:∀(a b:Λ),a.length=b.length->kw a->kw b->(fT a b<0↔jr a<jr b)/\(fT a b=0↔a=b)/\(jr a=jr b->a=b)
 |[],[],_,_,_=>by simp[fT]
 |[],_::_,h,_,_=>by simp at h
 |_::_,[],h,_,_=>by simp at h
 |x::a,y::b,h,s,w=>by
  have p:a.length=b.length:=by simpa using h
  have q:kw a:=λz e=>s z (.tail _ e);have r:kw b:=λz e=>w z (.tail _ e);have f:=BP a b p q r;have A:=sL a q;have C:=sL b r;have E:=BO b.length;simp only[fT,jr];rw[p]at A ⊢;have step:∀u v:Int,u<v->u*64 ^ b.length+64 ^ b.length<=v*64 ^ b.length:=λu v F=>by
   have:=Int.mul_le_mul_of_nonneg_right (show u+1<=v by omega) (show(0:Int)<=64 ^ b.length by omega);rw[Int.add_mul,Int.one_mul]at this;exact this
  by_cases h1:x<y
  .rw[if_pos h1];have:=step x y h1;exact⟨⟨λ_=>Ω,λ_=>Ω⟩,⟨λh=>Ω,λh=>by have:=(List.cons.inj h).1;omega⟩,λh=>Ω⟩
  .rw[if_neg h1];by_cases j:y<x
   .rw[if_pos j];have:=step y x j;exact⟨⟨λh=>Ω,λh=>Ω⟩,⟨λh=>Ω,λh=>by have:=(List.cons.inj h).1;omega⟩,λh=>Ω⟩
   .rw[if_neg j];have B:x=y:=Ω
    subst B;exact⟨f.1.trans ⟨λh=>Ω,λh=>Ω⟩,f.2.1.trans ⟨λh=>by rw[h],λh=>(List.cons.inj h).2⟩,λh=>by rw[f.2.2 Ω]⟩
def js(l:Λ):Prop:=kw l/\l.length<=6
theorem BQ(h:js l):0<=jr l/\jr l<64 ^ 6:=by
 have:=sL l h.1;have e:(64:Int) ^ l.length<=64 ^ 6:=by
  have a:=h.2
  match l.length,a with
  |0,_=>decide
  |1,_=>decide
  |2,_=>decide
  |3,_=>decide
  |4,_=>decide
  |5,_=>decide
  |6,_=>decide
  |n+7,h=>omega
 omega
theorem vO{b:Λ}(j:js a)(p:js b):(c7 a<c7 b↔a.length<b.length\/(a.length=b.length/\fT a b<0))/\(c7 a=c7 b->a=b):=by
 have h1:=BQ j;have q:=BQ p;have e:(64:Int) ^ 6=68719476736:=Φ
 rw[e]at h1 q;unfold c7;rw[e];by_cases f:a.length=b.length
 .have:=BP a b f j.1 p.1;rw[f];exact⟨⟨λh=>.inr ⟨rfl,this.1.2 Ω⟩,λh=>by
   rcases h with h|⟨_,h⟩
   .omega
   .have:=this.1.1 h;omega⟩,λh=>this.2.2 Ω⟩
 .exact⟨⟨λh=>.inl Ω,λh=>by
   rcases h with h|⟨h,_⟩
   .omega
   .exact absurd h f⟩,λh=>Ω⟩
theorem sM(g:cE):∀l:List cE,(hE g l).Perm (g::l)
 |[]=>List.Perm.refl _
 |h::l=>by
  unfold hE;split
  .exact ((sM g l).cons h).trans (List.Perm.swap g h l)
  .exact List.Perm.refl _
theorem BR{g:cE}:∀{l:List cE},l.Pairwise (λa b=>c7 a.1<c7 b.1)->(∀h∈l,c7 h.1≠c7 g.1)->(hE g l).Pairwise (λa b=>c7 a.1<c7 b.1)
 |[],_,_=>by simp[hE]
 |h::l,j,p=>by
  have f:=List.pairwise_cons.1 j;unfold hE;split
  .rename_i q;refine List.pairwise_cons.2 ⟨λx e=>?_,BR f.2 λx e=>p x (.tail _ e)⟩;rcases V3.1 ((sM g l).mem_iff.1 e)with rfl|e
   .exact q
   .exact f.1 x e
  .rename_i r;have:=p h (.head _);refine List.pairwise_cons.2 ⟨λx e=>?_,j⟩;rcases V3.1 e with rfl|e
   .omega
   .have:=f.1 x e;omega
theorem BS:∀(l acc:List cE),acc.Pairwise (λa b=>c7 a.1<c7 b.1)->l.Pairwise (λa b=>c7 a.1≠c7 b.1)->(∀a∈acc,∀b∈l,c7 a.1≠c7 b.1)->
  (l.foldl (λl g=>hE g l) acc).Pairwise (λa b=>c7 a.1<c7 b.1)/\(l.foldl (λl g=>hE g l) acc).Perm (acc++l)
 |[],acc,h,_,_=>⟨h,Ξ⟩
 |g::l,acc,h,q,f=>by
  have j:=List.pairwise_cons.1 q;have:=BS l (hE g acc) (BR h λa e=>f a e g (.head _)) j.2 λa e b p=>by
   rcases V3.1 ((sM g acc).mem_iff.1 e)with rfl|e
   .exact j.1 b p
   .exact f a e b (.tail _ p)
  refine⟨this.1,this.2.trans ?_⟩;exact((sM g acc).append_right l).trans (List.perm_middle (a:=g) (l₁:=acc) (l₂:=l)).symm
theorem vP{α:Type}{f:α->Int}:∀{L M:List α},L.Pairwise (λa b=>f a<f b)->M.Pairwise (λa b=>f a<f b)->(∀x,x∈L↔x∈M)->L=M
 |[],M,_,_,h=>by
  cases M with
  |nil=>rfl
  |cons y M=>exact absurd ((h y).2 (.head _)) Ξ
 |x::L,[],_,_,h=>absurd ((h x).1 (.head _)) Ξ
 |x::L,y::M,h1,q,h=>by
  have j:=List.pairwise_cons.1 h1;have p:=List.pairwise_cons.1 q;have r:x=y:=by
   rcases V3.1 ((h x).1 (.head _))with he|hm
   .exact he
   .rcases V3.1 ((h y).2 (.head _))with he|s
    .exact he.symm
    .have a:=p.1 x hm;have b:=j.1 y s;omega
  subst r;rw[vP j.2 p.2 λz=>⟨λe=>?_,λe=>?_⟩]
  .rcases V3.1 ((h z).1 (.tail _ e))with he|hm
   .subst he;have:=j.1 z e;omega
   .exact hm
  .rcases V3.1 ((h z).2 (.tail _ e))with he|hm
   .subst he;have:=p.1 z e;omega
   .exact hm
structure fG(sizes:Λ)(k:Int)(g:cE):Prop where
 scope:js g.1
 up:g.1.Pairwise (·< ·)
 vars:∀v∈g.1,v<sizes.length
 len:g.2.length=(aK (bV sizes g.1)).toNat
 small:aK (bV sizes g.1)<=4096
 im:∀c∈g.2,0<=c/\c<=k
theorem mI{sc:Λ}(e:∀z∈sizes,1<=z/\z<=32)(f:∀v∈sc,0<=v/\v<sizes.length):∀z∈bV sizes sc,1<=z/\z<=32:=λz h=>by
 obtain⟨v,j,rfl⟩:=l9.1 h;obtain⟨h1,p⟩:=f v j;have a:v.toNat<sizes.length:=Ω
 rw[v8,x6 a];exact e _ (S9 a)
theorem Lx{b:Λ}(h:a.Perm b):aK a=aK b:=by
 induction h with
 |nil=>rfl
 |cons x _ e=>simp only[aK,e]
 |swap x y l=>simp only[aK];rw[<-Int.mul_assoc,<-Int.mul_assoc,Int.mul_comm y x]
 |trans _ _ h1 f=>exact h1.trans f
theorem Ly{b:Λ}(h:a.length=b.length):(dZ k a b).length=b.length:=by simp[dZ,h]
theorem Lz{b:Λ}(hk:0<=k)(f:∀c∈a,0<=c/\c<=k)(j:∀c∈b,0<=c/\c<=k):∀c∈dZ k a b,0<=c/\c<=k:=by
 induction a generalizing b with
 |nil=>intro c e;simp[dZ]at e
 |cons x a p=>
  cases b with
  |nil=>intro c e;simp[dZ]at e
  |cons y b=>
   intro c e;have q:=f x (.head _);have r:=j y (.head _);rcases V3.1 (show c∈min (x+y) k::dZ k a b from e)with rfl|e
   .omega
   .exact p (λc h=>f c (.tail _ h)) (λc h=>j c (.tail _ h)) c e
def iP(l:List cE):Prop:=(l.map (·.1)).Nodup
theorem LA{acc:List cE}{g:cE}(hk:0<=k)(j:∀h∈acc,fG sizes k h)(p:iP acc)(a:fG sizes k g):(∀h∈ii k acc g,fG sizes k h)/\iP (ii k acc g)/\(ii k acc g).length<=acc.length+1:=by
 unfold ii;split
 .refine⟨λh ao=>?_,?_,Ξ⟩
  .obtain⟨f,hm,rfl⟩:=l9.1 ao;have h1:=j f hm;split
   .rename_i he;have r:f.2.length=g.2.length:=by rw[h1.len,a.len,he]
    exact⟨h1.scope,h1.up,h1.vars,by show(dZ k f.2 g.2).length=_;rw[Ly r,a.len,he],h1.small,Lz hk h1.im a.im⟩
   .exact h1
  .unfold iP;rw[Q0];have e:((λx:cE=>x.1)∘λh:cE=>if h.1=g.1 then(h.1,dZ k h.2 g.2)else h)=λx:cE=>x.1:=by
    funext h;simp only[Function.comp];split<;>rfl
   rw[e];exact p
 .rename_i s;refine⟨λh ao=>?_,?_,Ξ⟩
  .rcases o9.1 ao with ao|ao
   .exact j h ao
   .rw[l7.1 ao];exact a
  .unfold iP;rw[Z4];exact List.nodup_append.2 ⟨p,Ξ,λx w y q he=>by
    simp only[T4,List.map_nil,l7]at q;subst q;subst he;exact s w⟩
theorem vQ{sizes:Λ}{k:Int}(hk:0<=k):∀{l acc:List cE},(∀h∈acc,fG sizes k h)->iP acc->(∀g∈l,fG sizes k g)->(∀h∈l.foldl (ii k) acc,fG sizes k h)/\iP (l.foldl (ii k) acc)/\(l.foldl (ii k) acc).length<=acc.length+l.length
 |[],acc,a,e,_=>⟨a,e,Ξ⟩
 |g::l,acc,a,e,f=>by
  obtain⟨h1,j,s⟩:=LA hk a e (f g (.head _));obtain⟨p,q,w⟩:=vQ hk h1 j λx r=>f x (.tail _ r);exact⟨p,q,by simp only[T9,c9];omega⟩
theorem BT{α:Type}[DecidableEq α]:∀{a b:List α},a.Nodup->b.Nodup->(∀x,x∈a↔x∈b)->a.Perm b
 |[],b,_,_,h=>by
  cases b with
  |nil=>exact .refl _
  |cons y b=>exact absurd ((h y).2 (.head _)) Ξ
 |x::a,b,p,f,h=>by
  have q:=(h x).1 (.head _);have j:=List.nodup_cons.1 p;refine .trans ?_ (List.perm_cons_erase q).symm;refine .cons x (BT j.2 (f.erase x) λy=>?_);rw[f.mem_erase_iff];refine⟨λe=>⟨λhe=>j.1 (he▸e),(h y).1 (.tail _ e)⟩,λ⟨r,e⟩=>?_⟩;rcases V3.1 ((h y).2 e)with he|hm
  .exact absurd he r
  .exact hm
theorem sN(h:kw l)(a:l.Nodup):(bl l).Perm l:=BT (BN l) a λ_=>qv h
theorem vR:∀{l:Λ},(∀z∈l,1<=z/\z<=32)->l.map (λz=>min z 4097)=l
 |[],_=>rfl
 |z::l,h=>by
  have e:=h z (.head _);rw[T4,vR λx a=>h x (.tail _ a)];congr 1;omega
theorem LB{x:cm}(hk:0<=k)(f:0<=x.other)(a:∀p∈x.lines,0<=p.2):0<=jQ x k t/\jQ x k t<=k:=by
 unfold jQ;cases e:x.lines.find? (λp=>decide (p.1=t))with
 |none=>simp only;omega
 |some p=>have:=a p (List.mem_of_find?_eq_some e);simp only;omega
theorem sO{x:cm}(h:sn all N x)(e:all.length<=64):kw x.scope:=λv a=>by
 have:=h.scope.2 v a;omega
theorem pf{f:b2}{x:cm}(a:fe N f)(s:x∈f.funs):fG f.sizes f.k (hZ f.sizes f.k x):=by
 obtain⟨h1,w,h⟩:=a.funs x s;have y:=a.sizes.2.1;have j:=sO h1 y;have e:=sN j h1.scope.1;have q:∀v∈bl x.scope,0<=v/\v<f.sizes.length:=λv hm=>h1.scope.2 v ((qv j).1 hm);have A:=mI a.sizes.2.2 q;have B:aK (bV f.sizes (bl x.scope))=aK x.sizes:=by rw[h1.sizes];exact Lx (e.map _)
 refine⟨⟨Lw _,?_⟩,vN _,λv hm=>(q v hm).2,?_,?_,λc C=>?_⟩
 .show (bl x.scope).length<=6;rw[e.length_eq];exact w
 .show ((bg _).map _).length=_;rw[u9,iI A];rfl
 .show aK (bV f.sizes (bl x.scope))<=4096;have E:∀z∈x.sizes,1<=z/\z<=32:=λz r=>by
   rw[h1.sizes]at r;exact mI a.sizes.2.2 (λv hm=>h1.scope.2 v hm) z r
  unfold ds at h;rw[vR E,decide_eq_false_iff_not]at h;rw[B];omega
 .obtain⟨t,_,rfl⟩:=l9.1 C;exact LB (by have:=a.k.1;omega) h1.other λp e=>(h1.lines.2 p e).2
theorem k6{f:b2}(a:fe N f):(∀g∈fp f,fG f.sizes f.k g)/\iP (fp f)/\(fp f).length<=f.funs.length:=by
 have:=vQ (sizes:=f.sizes) (k:=f.k) (by have:=a.k.1;omega) (l:=f.funs.map (hZ f.sizes f.k)) (acc:=[]) (λh ao=>by cases ao) List.nodup_nil λg j=>by
  obtain⟨x,p,rfl⟩:=l9.1 j;exact pf a p
 refine⟨this.1,this.2.1,?_⟩;have e:=this.2.2;rw[List.length_nil,u9,X6]at e;exact e
theorem BU{l:List cE}(e:∀g∈l,fG sizes k g)(f:iP l):l.Pairwise λa b=>c7 a.1≠c7 b.1:=by
 have h1:l.Pairwise λa b=>a.1≠b.1:=by
  unfold iP List.Nodup at f;rwa [List.pairwise_map]at f
 exact h1.imp_of_mem λ{a b}h j p he=>p ((vO (e a h).scope (e b j).scope).2 he)
theorem qw{f:b2}(h:fe N f):(fE f).Pairwise (λa b=>c7 a.1<c7 b.1)/\(fE f).Perm ((fp f).filter fD):=by
 obtain⟨h1,j,_⟩:=k6 h;have p:∀g∈(fp f).filter fD,fG f.sizes f.k g:=λg q=>h1 g (S4.1 q).1;have r:iP ((fp f).filter fD):=(List.Sublist.map _ List.filter_sublist).nodup j;have:=BS ((fp f).filter fD) [] List.Pairwise.nil (BU p r) λa s=>by cases s
 refine⟨this.1,?_⟩;have e:=this.2;rw[List.nil_append]at e;exact e
theorem sP{f:b2}(a:fe N f):∀g∈fE f,fG f.sizes f.k g:=λg e=>(k6 a).1 g (S4.1 ((qw a).2.mem_iff.1 e)).1
theorem LC{f:b2}(e:fe N f){M:List cE}(h:M.Perm ((fp f).filter fD))(I:M.Pairwise λa b=>c7 a.1<=c7 b.1):M=fE f:=by
 obtain⟨h1,j⟩:=qw e;have p:iP ((fp f).filter fD):=(List.Sublist.map _ List.filter_sublist).nodup (k6 e).2.1;have q:iP M:=(h.map (λg:cE=>g.1)).nodup_iff.2 p;have r:∀g∈M,fG f.sizes f.k g:=λg s=>(k6 e).1 g (S4.1 (h.mem_iff.1 s)).1;have w:=BU r q;refine vP (f:=λg:cE=>c7 g.1) ?_ h1 λx=>by rw[h.mem_iff,j.mem_iff]
 exact I.imp₂ (λa b h1 j=>Int.lt_iff_le_and_ne.2 ⟨h1,j⟩) w
structure jV(n:aI):Prop where
 k:1<=n.k/\n.k<=2147483648
 sizes:1<=n.sizes.length/\n.sizes.length<=64/\∀z∈n.sizes,1<=z/\z<=32
 zero:0<=n.zero/\n.zero<=n.k
 kx:n.unary.length=n.sizes.length
 unary:∀(i:Nat)(z:Int)(u:Λ),n.sizes[i]?=σ z->n.unary[i]?=σ u->u.length=z.toNat/\∀c∈u,0<=c/\c<=n.k
 funs:∀g∈n.funs,fG n.sizes n.k g/\2<=g.1.length
theorem LD(z:Int):aK [z]=z:=by simp[aK]
theorem sQ:∀{l:List cE}{n:aI},jV n->(∀g∈l,fG n.sizes n.k g)->jV (l.foldl (λn g=>match g.1 with
 |[]=>{n with zero:=g.2.getD 0 0}
 |[v]=>{n with unary:=n.unary.set v.toNat g.2}
 |_=>{n with funs:=n.funs++[g]}) n)/\(l.foldl (λn g=>match g.1 with
 |[]=>{n with zero:=g.2.getD 0 0}
 |[v]=>{n with unary:=n.unary.set v.toNat g.2}
 |_=>{n with funs:=n.funs++[g]}) n).sizes=n.sizes
 |[],n,h,_=>⟨h,rfl⟩
 |g::l,n,h,p=>by
  have e:=p g (.head _);have j:∀x∈l,fG n.sizes n.k x:=λx f=>p x (.tail _ f);rw[T9];obtain⟨sc,cs⟩:=g
  match sc,e with
  |[],e=>
   have s:=e.len;refine sQ (n:={n with zero:=cs.getD 0 0}) ⟨h.k,h.sizes,?_,h.kx,h.unary,h.funs⟩ j;have h1:cs.length=1:=by simpa[bV,aK]using s
   have w:cs[0]?=σ (cs.getD 0 0):=by rw[v8,x6 Ω];rfl
   exact e.im _ (x5 w)
  |[v],e=>
   have A:=e.scope.1 v (.head _);have B:=e.vars v (.head _);refine sQ (n:={n with unary:=n.unary.set v.toNat cs}) ⟨h.k,h.sizes,h.zero,by show(n.unary.set _ _).length=_;rw[Z6];exact h.kx,λi z u q hu=>?_,h.funs⟩ j;by_cases hi:v.toNat=i
   .subst hi;have C:=h.kx;rw[Z0 Ω]at hu;cases hu;have y:bV n.sizes [v]=[z]:=by
     simp only[bV,T4,List.map_nil];rw[v8,q];rfl
    refine⟨?_,e.im⟩;have:=e.len;rw[y,LD]at this;exact this
   .rw[Y8 hi]at hu;exact h.unary i z u q hu
  |a::b::r,e=>
   refine sQ (n:={n with funs:=n.funs++[(a::b::r,cs)]}) ⟨h.k,h.sizes,h.zero,h.kx,h.unary,λx f=>?_⟩ j;rcases o9.1 f with f|f
   .exact h.funs x f
   .rw[l7.1 f];exact⟨e,Ξ⟩
theorem BV{f:b2}(a:fe N f):jV (c3 f)/\(c3 f).sizes=f.sizes:=by
 unfold c3;have h:=a.sizes;refine sQ (n:=⟨f.k,f.sizes,0,f.sizes.map λz=>p9 z.toNat 0,[]⟩) ⟨a.k,h,⟨by show(0:Int)<=0;omega,by show(0:Int)<=f.k;have:=a.k.1;omega⟩,Ξ,λi z u h1 e=>?_,λg j=>by cases j⟩ (sP a);have e:(f.sizes.map λz=>p9 z.toNat (0:Int))[i]?=σ u:=e;have h1:f.sizes[i]?=σ z:=h1;rw[x8,h1]at e;cases e;refine⟨Ξ,λc p=>?_⟩;rw[(List.mem_replicate.1 p).2];have:=a.k.1;exact⟨Int.le_refl _,by show(0:Int)<=f.k;omega⟩
def k7(x:cm)(k:Int)(i:Nat)(t:Λ):Int:=match(x.lines.take i).find? (λp=>decide (p.1=t))with
 |some p=>min p.2 k
 |none=>min x.other k
theorem BW(x:cm)(k:Int)(t:Λ):k7 x k 0 t=min x.other k:=by simp[k7]
theorem BX(x:cm)(k:Int)(t:Λ):k7 x k x.lines.length t=jQ x k t:=by
 unfold k7 jQ;rw[o5];cases x.lines.find? (λp=>decide (p.1=t))<;>rfl
theorem BY{x:cm}{i:Nat}{p:Λ×Int}(y:(x.lines.map (·.1)).Nodup)(hi:x.lines[i]?=σ p)(t:Λ):k7 x k (i+1) t=if t=p.1 then min p.2 k else k7 x k i t:=by
 unfold k7;rw[u7,hi,o8,List.find?_append];by_cases a:t=p.1
 .subst a;have z:(x.lines.take i).find? (λq=>decide (q.1=p.1))=ν:=by
   rw[List.find?_eq_none];intro q e he;have he:q.1=p.1:=by simpa using he
   obtain⟨j,f⟩:=X5.1 e;have h:j<i:=by have:=(x4.1 f).1;rw[o7]at this;omega
   rw[Z9 h]at f;have r:=x4.1 f;have s:=x4.1 hi;have w:=V9.1 y j i (by rw[u9];exact r.1) (by rw[u9];exact s.1) h;rw[List.getElem_map,List.getElem_map,r.2,s.2]at w;exact w he
  rw[z,if_pos rfl];simp
 .rw[if_neg a];have:[p].find? (λq=>decide (q.1=t))=ν:=by
   rw[List.find?_eq_none];intro q e he;rw[l7.1 e]at he;exact a (of_decide_eq_true he).symm
  rw[this,Option.or_none]
theorem pg{v:Int}(h:v∈l):l[l.idxOf v]?=σ v:=by
 have:=List.idxOf_lt_length_iff.2 h;rw[x6 this,List.getElem_idxOf this]
theorem qx{i:Nat}{v:Int}(j:l.Nodup)(h:l[i]?=σ v):l.idxOf v=i:=by
 have hm:=x5 h;have h1:=pg hm;have a:=x4.1 h1;have e:=x4.1 h;rcases Nat.lt_trichotomy (l.idxOf v) i with f|he|f
 .exact absurd (a.2.trans e.2.symm) (V9.1 j _ _ a.1 e.1 f)
 .exact he
 .exact absurd (e.2.trans a.2.symm) (V9.1 j _ _ e.1 a.1 f)
def fU(scope a:Λ):Λ:=a.map λv=>((scope.idxOf v:Nat):Int)
theorem sR{f:Λ}(w:scope.Nodup)(a:f.Perm scope):Good (fU scope f) scope.length:=by
 have r:f.Nodup:=a.nodup_iff.2 w;refine⟨by simp[fU,a.length_eq],λi p h=>?_⟩;unfold fU at h;rw[x8]at h;obtain⟨v,s,rfl⟩:=Y9.1 h;have hm:v∈scope:=a.mem_iff.1 (x5 s);have z:=List.idxOf_lt_length_iff.2 hm;refine⟨⟨Ω,Ω⟩,λj A q=>?_⟩;unfold fU at q;rw[x8]at q;obtain⟨u,hu,he⟩:=Y9.1 q;have x:u∈scope:=a.mem_iff.1 (x5 hu);have e:scope.idxOf u=scope.idxOf v:=Ω
 have h1:=pg x;rw[e,pg hm]at h1;have y:v=u:=Z2 h1;subst y;have B:=qx r hu;have C:=qx r s;omega
theorem BZ{v:Int}(e:a[j]?=σ v):(fU scope a)[j]?=σ ((scope.idxOf v:Nat):Int):=by
 unfold fU;rw[x8,e];rfl
theorem LF(p:scope.Nodup)(f:a.Perm scope):eo (bV sizes scope) (fU scope a)=bV sizes a:=by
 refine X2 λj=>?_;cases e:a[j]? with
 |none=>
  have h:=List.getElem?_eq_none_iff.1 e;rw[Y0 (by rw[si];simp[fU];exact h),Y0 (by simp[bV];exact h)]
 |some v=>
  have hm:v∈scope:=f.mem_iff.1 (x5 e);have q:=sR p f;rw[AG q (by simp[bV]) (BZ e),u6];unfold bV;rw[x8,x8,pg hm,e]
theorem B1(q:scope.Nodup)(e:a.Perm scope)(r:t.length=scope.length):lV (fU scope a) t=oZ scope a t:=by
 have s:=sR q e;refine(AF s r (by simp[oZ]) λj p f=>?_).symm;unfold fU at f;rw[x8]at f;obtain⟨v,h,rfl⟩:=Y9.1 f;have hm:v∈scope:=e.mem_iff.1 (x5 h);have w:a.Nodup:=e.nodup_iff.2 q;have x:=(x4.1 h).1;have y:=e.length_eq;unfold oZ;rw[u6,x8,pg hm,Z7,qx w h,v8,x6 (show j<t.length by omega)];rfl
theorem LG{f:b2}{x:cm}{cs:Λ}(h:fe N f)(z:x∈f.funs)(H:cs.length=(aK x.sizes).toNat)(A:∀t,di x.sizes t->bn x.sizes cs t=jQ x f.k t):
  eo x.sizes (fU x.scope (bl x.scope))=bV f.sizes (bl x.scope)/\nN x.sizes cs (fU x.scope (bl x.scope))=(hZ f.sizes f.k x).2:=by
 obtain⟨h1,I,J⟩:=h.funs x z;have p:=sO h1 h.sizes.2.1;have a:=sN p h1.scope.1;have r:x.sizes=bV f.sizes x.scope:=h1.sizes;have j:eo x.sizes (fU x.scope (bl x.scope))=bV f.sizes (bl x.scope):=by rw[r];exact LF h1.scope.1 a
 have B:=sR h1.scope.1 a;have C:∀v∈bl x.scope,0<=v/\v<f.sizes.length:=λv hm=>h1.scope.2 v ((qv p).1 hm);have e:dE (bV f.sizes (bl x.scope)):=mI h.sizes.2.2 C;refine⟨j,?_⟩;have E:x.sizes.length=x.scope.length:=by rw[r];simp[bV]
 unfold nN;rw[j];show _=(bg (bV f.sizes (bl x.scope))).map λt=>jQ x f.k (oZ x.scope (bl x.scope) t);refine X2 λq=>?_;rw[x8,x8];have K:=lU e;by_cases w:q<(aK (bV f.sizes (bl x.scope))).toNat
 .have F:=oV e (i:=q) Ω;rw[F,List.getElem?_range w];simp only[Z7];have G:=vr e w;have y:(cJ (bV f.sizes (bl x.scope)) q).length=x.scope.length:=by rw[jn];simp[bV,a.length_eq]
  rw[B1 h1.scope.1 a y,A];have:=J6 (s:=x.sizes) B E (by rw[j];exact G);rw[B1 h1.scope.1 a y]at this;exact this
 .rw[Y0 Θ,Y0 (by rw[iI e];omega)];rfl
theorem LH{e:Λ}(I:dE ag)(h1:a.length=(aK ag).toNat)(f:e.length=(aK ag).toNat):
  dZ k a e=(V0 (aK ag).toNat).map λ(q:Nat)=>min (bn ag a (cJ ag q)+bn ag e (cJ ag q)) k:=by
 conv=>lhs;rw[sh I h1,sh I f]
 unfold dZ;rw[List.zipWith_map,List.zipWith_self]
theorem LI{cQ m:Nat}{d:List (x1×x1)}{KS:List (Λ)}(f:ad w cQ iD [.map (σ m)])(hm:c4 w m d)(j:d.map (·.1)=KS.map ee)(e:pc KS)(z:KS.length<65536):
  ai x7 Ic [.func (.func lK) #[] #[Γ cQ],Bq] w λv w'=>Ext w w'/\∃g M,M.Perm KS/\sI gv M 0 M.length/\nS w' g v M:=by
 refine az func243 ?_;refine(KM f hm j (λks h=>(e ks h).1) Ω).mono ?_;rintro v J _ ⟨p,g,L,cG,a,q⟩;refine(K0 q (e.perm a) (by rw[a.length_eq];omega)).mono ?_;rintro _ U _ ⟨s,M,x,hu,y⟩;exact⟨p.then s (λr A h=>by have:=cG r h;omega),g,M,x.trans a,hu,y⟩
theorem B2{α β:Type}{f:α->β}:∀{M:List β}{D:List α},M.Perm (D.map f)->∃L:List α,L.Perm D/\L.map f=M
 |[],D,h=>by
  have h1:=h.length_eq;simp at h1;have:D=[]:=j4 h1.symm;exact⟨[],by rw[this],rfl⟩
 |x::M,D,h=>by
  have a:x∈D.map f:=h.mem_iff.1 (.head _);obtain⟨p,e,rfl⟩:=l9.1 a;obtain⟨A,B,rfl⟩:=List.append_of_mem e;have j:(f p::M).Perm (f p::(A++B).map f):=h.trans (by
   rw[Z4,T4,Z4];exact List.perm_middle)
  obtain⟨L,q,r⟩:=B2 (List.Perm.cons_inv j);exact⟨p::L,(q.cons p).trans List.perm_middle.symm,by rw[T4,r]⟩
theorem B3{g:Nat}{ks:Λ}(q:ks.length=6)(r:n<=6)(e:cs=ints .i8 ks)(f:ad w g cz cs):aH .i8 w (.slice (σ (if 6=0 then⟨g,0,ν⟩else⟨g,0+0*1,ν⟩)) (n-0) (6-0)) (ks.take n):=by
 subst e;rw[if_neg Ω];unfold aH;have h:(ks.take n).length=n:=by rw[o7];omega
 rw[h];refine⟨Θ,g,0,_,6,rfl,Ω,by simp[maxLen],λ_=>rfl,λj v a=>?_⟩;have p:=(x4.1 a).1;refine f.range j v ?_;rw[ints,List.map_take,Z9 (by simp[ints]at p;omega)]at a;exact a
def LJ(D L:Told):Prop:=L.Perm D/\sI (λp=>gv (pad p.1)) L 0 L.length
theorem LK{g m:Nat}{o:Int}{D:Told}(h:eL w g m ag k o D)(ba:D.length<65536):ai x7 HH [Γ g] w λv w'=>Ext w w'/\∃L:Told,LJ D L/\bD (eK w.heap.size) bx w' [v] L:=by
 obtain⟨⟨sv,gs,Z,hm⟩,bb,I,bR,ay⟩:=id h;have bc:pc (D.map λp=>pad p.1):=λks hk=>by
  obtain⟨p,bd,rfl⟩:=l9.1 hk;exact qk I (ay p bd).1
 refine az func192 ?_;rw[cP eS.u];simp only[j9,aU];rw[aG fB.p 3 Z rfl];refine KK.mono ?_;rintro _ J _ ⟨aa,cQ,rfl,bS,bf⟩;refine(LI (KS:=D.map λp=>pad p.1) bf (bb.ext aa) (by rw[Q0,Q0];rfl) bc (by simpa using ba)).mono ?_;rintro bU U _ ⟨aA,bV,M,bg,bh,aB⟩;obtain⟨L,ab,O⟩:=B2 bg;have aC:M.length=L.length:=by rw[<-O];simp
 have bW:=ab.length_eq;have s1:=aa.size;have bX:=aA.size;have aD:=aa.trans aA;rw[ez jf.u aB];refine cd.range L.length (λi out e=>Ext U e/\bD (eK U.heap.size) bx e [out] (L.take i)) Ω ⟨Ext.refl _,by rw[List.take_zero];exact hA⟩ ?_ ?_
 rotate_left
 .rintro out e bi ⟨C,P⟩;rw[aC];simp only[aQ,aj];refine⟨λh=>Ω,λ_=>⟨aD.trans C,L,⟨ab,λp q x y h1 bj bY bl bm=>?_⟩,?_⟩⟩
  .exact bh p q (pad x.1) (pad y.1) h1 bj Ω (by rw[<-O,x8,bl];rfl) (by rw[<-O,x8,bm];rfl)
  .rw[o5]at P;exact an.mono P (λr _ h=>by have h:U.heap.size<=r:=h;show w.heap.size<=r;omega) λ_ _ h=>h
 rintro i out e bi hi ⟨C,P⟩ bn;obtain⟨⟨t,c⟩,ac⟩:∃p,L[i]?=σ p:=⟨_,x6 hi⟩;have af:(t,c)∈D:=ab.mem_iff.1 (x5 ac);have al:=(ay _ af).1;have aE:=vB I al;have am:t.length=ag.length:=aE.1;have aH:=I.1;have bo:k2 (pad t):=qk I al;have Q:=bo.1;have bp:M[i]?=σ (pad t):=by rw[<-O,x8,ac];rfl
 rw[aC];simp only[aQ,aj];refine⟨λ_=>?_,λh=>Ω⟩;rw[KZ rfl (aB.ext C) bp];refine bz cz.i λak b0 b1 aI aJ=>?_;refine qj Q rfl aJ λbq br b2 S=>?_;have b3:=aI.size;have b4:=aJ.lt;have bt:Ext e bq:=aI.put br Ω;intro aK H _ _;have ao:=bt.trans H;have au:=(aD.trans C).trans ao;have aN:=h.ext au;obtain⟨⟨b5,b7,b8,b9⟩,ca,_⟩:=id aN;have cb:=ao.size;rw[aG fB.p 3 (Z.ext au) rfl,nQ Q (S.ext H).range];refine KE aN al (λf bu=>?_) (λbw=>absurd rfl (bw _ af));have bA:f=c:=by
  have:=Bd h.nodup bu af rfl;exact congrArg Prod.snd this
 subst bA;simp only[Bool.false_eq_true,if_false];rw[dh (cs:=#[.slice ν 0 0,Δ f]) Ψ];refine bz gj.i λE cc ce av aO=>?_;refine⟨.inl av,?_⟩;refine b6 (vs:=[.slice ν 0 0,Δ f]) gj.i rfl rfl (by intro v aS;simp at aS;rcases aS with rfl|rfl<;>rfl) aO λG bB cg aT=>?_;have ch:=av.size;have ci:=aO.lt;have W:Ext aK G:=av.put bB Ω;have aV:=ao.trans W;have aX:=au.trans W;rw[aG fB.p 0 (Z.ext aX) rfl,aW ap.u (hm.ls.ext aX)];rw[rX cz.u fP.i (l:=0) (h:=ag.length) (m:=6) iG (nv _ _ rfl) eU Ω Ω Ω];have aY:=B3 Q aH rfl ((S.ext H).ext W);rw[<-am,A7]at aY;rw[<-am,aW kU.u aY];have bC:=(S.ext H).ext W;have cj:ak<aK.heap.size:=(S.ext H).lt;have ck:E<G.heap.size:=aT.lt;refine bZ.range t.length (λj s=>ae (λr=>r=E\/G.heap.size<=r) G s/\∃aM gt,G.heap.size<=gt/\ad s E gj [aM,Δ f]/\aq .i64 ah s gt aM (t.take j)) Ω ⟨ae.refl _ _,_,G.heap.size,p8 _,aT,aq.nil _ _ _ _⟩ ?_ ?_
 .rintro j s bE bF ⟨z,aM,gt,bG,X,Y⟩ bI;obtain⟨x,aw⟩:=aF (l:=t) bF;have cl:=aE.2 x (x5 aw);have cm:Ext e s:=aV.then z (λr aZ he=>by rcases he with rfl|he<;>omega);have a1:=B3 Q aH rfl (bC.V z (λhe=>by rcases he with he|he<;>omega));rw[<-am,A7]at a1;simp only[aQ,aj];refine⟨λ_=>?_,λh=>Ω⟩;rw[be kU.u fP.i Ψ a1 aw,aL gj.p 0 X rfl,fl fP.u ah.u,wrap_i64 Ω Ω];refine en ap.u ah.i rfl λa ga bJ cn B bK=>?_;refine jh ap.u ah.i rfl (Y.ext B) bK.ls Θ Θ λa2 a6 bL cp K N=>?_;have bM:=z.size;have bN:=B.size;have cq:=N.size;rw[aR gj.p rfl];refine bk (g:=E) (o:=0) ap.i K.ls.cells.1 K.ls.cells.2 ((X.ext B).V N (λhe=>by have he:E=gt:=he;omega)) Ξ λcr a7 ct bO=>?_;simp only[aP];refine bI _ ⟨((z.trans (B.V _)).trans (N.mono λr _ he=>.inr (by have he:r=gt:=he;omega))).trans (a7.mono λr _ he=>.inl he),a2,a6,Ω,bO,?_⟩;rw[u7,aw];exact K.V a7 (λ_ he=>by have he:a6=E:=he;omega)
 .rintro s bE ⟨z,aM,gt,bG,X,Y⟩;simp only[aQ,aj];refine⟨λh=>Ω,λ_=>?_⟩;rw[o5]at Y;rw[bH gj.p gj.i rfl X.range];have bM:=z.size;have bP:Ext e s:=aV.then z (λr aZ he=>by rcases he with rfl|he<;>omega);have a8:bD (eK e.heap.size) bx s [aM,Δ f] (t,f):=⟨[aM],[Δ f],eK e.heap.size,bx,rfl,λ_ h=>h,λ_ h=>h.elim,λ_ _ _ h=>h,an.mono (nD Y) (λr _ h=>by subst h;show e.heap.size<=r;omega) (λ_ _ h=>h),rfl⟩;refine kl (α:=Λ×Int) (a:=(t,f)) (cs:=[aM,Δ f]) (A:=eK e.heap.size) (R:=bx) oI.u gj.i Φ rfl a8 λu bJ B _ bQ=>?_;have ax:=bP.trans B;have bN:=ax.size;refine nC (α:=Λ×Int) (a:=(t,f)) (A:=eK e.heap.size) oI.u gj.i rfl (bT (mr P) ax) bQ (bT a8 B) (λr _ h h'=>?_) Θ Θ λa2 bL K N=>?_
  .rcases h' with h'|h'
   .have:=h.2;have:e.heap.size<=r:=h';omega
   .exact h'
  simp only[aP];have cu:=C.size;refine bn _ _ ⟨(C.trans ax).then N (λr aZ h=>by have h:=h.1;have h:U.heap.size<=r:=h;omega),?_⟩;rw[u7,ac];refine an.mono K (λr _ h=>?_) λ_ _ h=>h;show U.heap.size<=r;rcases h with h|h|h
  .exact h.1
  .have h:e.heap.size<=r:=h;omega
  .omega
theorem B4{s:Λ}(I:dE s):t∈bg s↔di s t:=by
 refine⟨λh=>?_,λ⟨n,h⟩=>x5 (mD I h)⟩;obtain⟨i,hi⟩:=X5.1 h;exact⟨_,jq I hi⟩
theorem B5:∀{s:Λ},dE s->(bg s).Pairwise λa b=>gv a<gv b
 |[],_=>by simp[bg]
 |k::s,I=>by
  have z:=B5 I.tail;have f:∀t∈bg s,0<=gv t/\gv t<32 ^ s.length:=λt p=>by
   have A:=(B4 I.tail).1 p;have h1:=nM.1 A;have r:=sH t λx q=>by
    obtain⟨i,hi,rfl⟩:=List.getElem_of_mem q;obtain⟨a,e⟩:=aF (l:=s) (i:=i) Ω;have C:=h1.2 i a _ e (x6 hi);have E:=(I.tail a (x5 e)).2;omega
   rw[h1.1];exact r
  have j:∀t∈bg s,t.length=s.length:=λt p=>r1 p;show((V0 k.toNat).flatMap λ(v:Nat)=>(bg s).map λt=>(v:Int)::t).Pairwise _;rw[List.pairwise_flatMap];refine⟨λv _=>?_,?_⟩
  .rw[List.pairwise_map];refine z.imp_of_mem λ{a b}e f h=>?_;simp only[gv,j a e,j b f];omega
  .refine List.pairwise_lt_range.imp λ{u v}F x q y B=>?_;obtain⟨a,e,rfl⟩:=l9.1 q;obtain⟨b,w,rfl⟩:=l9.1 B;simp only[gv,j a e,j b w];have h1:=f a e;have r:=f b w;have:=Int.mul_le_mul_of_nonneg_right (show(u:Int)+1<=v by omega) (show(0:Int)<=32 ^ s.length by have:=vF s.length;omega);rw[Int.add_mul,Int.one_mul]at this;omega
theorem LL{D L:Told}{o:Int}(f:(D.map (·.1)).Nodup)(a:L.Perm D)(t:Λ):ij L o t=ij D o t:=by
 have j:(L.map (·.1)).Nodup:=(a.map (·.1)).nodup_iff.2 f;by_cases he:∃p∈D,p.1=t
 .obtain⟨p,h,rfl⟩:=he;rw[ql f (c:=p.2) h,ql j (c:=p.2) (a.mem_iff.2 h)]
 .rw[qm λp h1 e=>he ⟨p,h1,e⟩,qm λp h1 e=>he ⟨p,a.mem_iff.1 h1,e⟩]
def io(ag:Λ)(f:Λ->Int)(cs:Λ):Prop:=cs.length=(aK ag).toNat/\∀t,di ag t->bn ag cs t=f t
theorem io.eq{f:Λ->Int}{cs:Λ}(I:dE ag)(h1:io ag f cs)(e:io ag f a):cs=a:=JW I h1.1 e.1 λt h=>by rw[h1.2 t h,e.2 t h]
theorem io.congr{f a:Λ->Int}{cs:Λ}(h:io ag f cs)(he:∀t,di ag t->f t=a t):io ag a cs:=⟨h.1,λt e=>by rw[h.2 t e,he t e]⟩
theorem vS(I:dE ag)(h:di ag t):∃n:Nat,cB ag t 0=σ (n:Int)/\n<(aK ag).toNat:=by
 obtain⟨n,a⟩:=h;have:=nE I a;simp only[Int.zero_mul,Int.zero_add,Int.one_mul]at this;exact⟨n.toNat,by rw[a];congr 1;omega,Ω⟩
theorem LM(I:dE ag)(c:Int):io ag (λ_=>c) (p9 (aK ag).toNat c):=⟨Ξ,λt a=>by
 obtain⟨n,e,f⟩:=vS I a;unfold bn;rw[e];simp only[u6,v8,List.getElem?_replicate,f,if_true,V8]⟩
theorem io.put{f:Λ->Int}{cs:Λ}{c:Int}(I:dE ag)(h:io ag f cs)(q:di ag t)(r:cp c k):io ag (λs=>if s=t then c else f s) (r3 ag t k c cs):=by
 obtain⟨n,e,w⟩:=vS I q;unfold r3;rw[e];simp only[r,if_true,u6];refine⟨by simp[h.1],λs p=>?_⟩;obtain⟨m,hm,x⟩:=vS I p;have a:=h.2 s p;unfold bn at a ⊢;rw[hm]at a ⊢;simp only[u6]at a ⊢;by_cases he:s=t
 .subst he;rw[e]at hm;have j:n=m:=by have:=Z2 hm;omega
  subst j;rw[if_pos rfl,v8,Z0 (by rw[h.1];exact w)];rfl
 .rw[if_neg he,v8,Y8 (λj=>he ?_),<-v8,a];subst j;rw[<-Az I hm,<-Az I e]
def LN(w:x3)(ag:Λ)(k o:Int)(D:Told)(v:x1)(w':x3):Prop:=Ext w w'/\(4096<aK ag->v= .tuple #[.pointer ν,Δ 5])/\
 (aK ag<=4096->∃g a sv cs,v= .tuple #[Γ g,Δ 0]/\w.heap.size<=g/\(w.heap.size<=a/\∀r,leads sv r->w.heap.size<=r)/\c8 w' g a sv ag k cs/\io ag (ij D o) cs)
theorem B6{g m:Nat}{o:Int}{D:Told}(h:eL w g m ag k o D)(ab:D.length<65536):ai x7 GS [Γ g] w (LN w ag k o D):=by
 obtain⟨⟨sv,gs,ac,hm⟩,a2,I,ad,af⟩:=id h;have R:=h.nodup;refine az func125 ?_;rw[cP eS.u];simp only[j9,aU];intro J a _ _;have K:=ac.ext a;rw[aG fB.p 0 K rfl,aG fB.p 1 K rfl,aG fB.p 2 K rfl];refine(va (hm.ls.ext a)).mono ?_;rintro _ U _ ⟨z,_,ah,_,ak⟩;by_cases C:aK ag<=4096
 rotate_left
 .have:=ah I Ω;subst this;rw[br,bt];simp only[bI,aj];exact⟨λ_=>⟨a.trans z,λ_=>rfl,λh=>absurd h C⟩,λh=>by simp at h⟩
 obtain⟨gt,f,aM,rfl,a6,a7,al,S⟩:=ak I C ad;rw[br,bt];simp only[bI,aj];refine⟨λh=>absurd rfl h,λ_=>?_⟩;have s1:=a.size;have a8:=z.size;refine(LK ((h.ext a).ext z) ab).mono ?_;rintro cG am _ ⟨M,L,E,W⟩;have ba:=M.size;have bb:f<U.heap.size:=by
  obtain⟨⟨aV,bc,_,_,ao⟩,⟨_,_,bd⟩,ap,aq⟩:=id S;have be:=lU ap.2;obtain⟨_,⟨_,au⟩|⟨cap,cs,_,av,_⟩⟩:=ao
  .rw[aq]at au;omega
  .exact av.lt
 have bf:=E.1.length_eq;rw[jl oI.u W];refine bZ.range L.length (λi q=>ae (λr=>r=f) am q/\∃cs,c8 q gt f aM ag k cs/\io ag (ij (L.take i) o) cs) Ω ⟨ae.refl _ _,_,S.ext M,by rw[List.take_zero];exact LM I.2 o⟩ ?_ ?_
 .rintro i q aw hi ⟨G,cs,N,H⟩ ax;simp only[aQ,aj];refine⟨λ_=>?_,λh=>Ω⟩;obtain⟨⟨t,c⟩,y⟩:∃p,L[i]?=σ p:=⟨_,x6 hi⟩;have ay:(t,c)∈D:=E.1.mem_iff.1 (x5 y);obtain⟨aA,aB,aC⟩:=af _ ay;have aD:=an.V W G λr X aE he=>by
   have he:r=f:=he;rcases aE with h|h
   .have h:U.heap.size<=r:=h;omega
   .exact h
  refine nB (α:=Λ×Int) gj.p rfl oI.u gj.i aD y λus aF=>?_;obtain⟨bg,aH,A,B,rfl,bh,bi,_,h1,aI⟩:=aF;have aJ:aH=[Δ c]:=aI;subst aJ;obtain⟨aN,rfl,_⟩:=id h1;have hu:=ew h1;refine bz gj.i λbj bk bl aO Y=>?_;refine b6 (vs:=[aN,Δ c]) gj.i rfl rfl (by intro v Z;simp at Z;rcases Z with rfl|rfl;exact hu.cells.2;rfl) Y λaR aS bm aa=>?_;have bn:=Y.lt;have O:Ext q aR:=aO.put aS Ω;rw[aL gj.p 0 aa rfl,aL gj.p 1 aa rfl];refine(I7 (N.ext O) (hu.ext O)).mono ?_;rintro _ bo _ ⟨rfl,aT,aW⟩;simp only[aP];refine ax _ ⟨(G.trans (O.V _)).trans aT,_,aW,(H.put I.2 aA aB).congr λs bp=>?_⟩;rw[u7,y];have P:(L.map (·.1)).Nodup:=(E.1.map (·.1)).nodup_iff.2 R;have aX:∀p∈L.take i,p.1≠t:=λp C he=>by
   obtain⟨j,Q⟩:=X5.1 C;have aY:j<i:=by have:=(x4.1 Q).1;rw[o7]at this;omega
   rw[Z9 aY]at Q;have:=ku P (i:=j) (j:=i) (x:=t) (by rw[x8,Q,Z7,he]) (by rw[x8,y];rfl);omega
  have aZ:((L.take i).map (·.1)).Nodup:=by rw[List.map_take];exact(List.take_sublist _ _).nodup P
  have a1:((L.take i++[(t,c)]).map (·.1)).Nodup:=by
   have e:L.take i++[(t,c)]=L.take (i+1):=by rw[u7,y];rfl
   rw[e,List.map_take];exact(List.take_sublist _ _).nodup P
  exact((Be aX aC).cost aZ a1 s).symm
 .rintro q aw ⟨G,cs,N,H⟩;simp only[aQ,aj];refine⟨λh=>Ω,λ_=>?_⟩;rw[o5]at H;exact⟨((a.trans z).trans M).put G Ω,λh=>Ω,λ_=>⟨gt,f,aM,cs,rfl,Ω,⟨Ω,λr X=>by have:=al r X;omega⟩,N,H.congr λs _=>LL R E.1 s⟩⟩
theorem LO{s cs:Λ}(I:dE s)(a:cs.length=(aK s).toNat){i:Nat}(h:(bg s)[i]?=σ t):cs[i]?=σ (bn s cs t):=by
 have hi:=(x4.1 h).1;rw[iI I,<-a]at hi;unfold bn;rw[jq I h];simp only[u6,v8,x6 hi,V8]
theorem sS{k:o4}{g:Nat}(h:aq k e w g v l)(f:0<l.length):g<w.heap.size:=by
 obtain⟨_,⟨_,h1⟩|⟨_,_,_,a,_⟩⟩:=h
 .omega
 .exact a.lt
def fH(w:x3)(g m:Nat)(sv:x1)(gs:Nat)(ag:Λ)(k o:Int)(D:Told):Prop:=
 ad w g fB [sv,Δ k,Δ o,.map (σ m)]/\aq .i64 ah w gs sv ag/\c4 w m (D.map jR)/\b1 ag/\cp o k/\∀p∈D,di ag p.1/\cp p.2 k/\p.2≠o
theorem fH.is{g m:Nat}{o:Int}{D:Told}(h:fH w g m sv gs ag k o D):eL w g m ag k o D:=⟨⟨sv,gs,h.1,h.2.1⟩,h.2.2⟩
theorem eL.at{g m:Nat}{o:Int}{D:Told}(h:eL w g m ag k o D):∃sv gs,fH w g m sv gs ag k o D:=by
 obtain⟨⟨sv,gs,h1,a⟩,e⟩:=h;exact⟨sv,gs,h1,a,e⟩
theorem fH.ext{g m:Nat}{o:Int}{D:Told}(h:fH w g m sv gs ag k o D)(a:Ext w w'):fH w' g m sv gs ag k o D:=by
 obtain⟨h1,e,f,j⟩:=h;exact⟨h1.ext a,e.ext a,f.ext a,j⟩
theorem fH.V{g m:Nat}{o:Int}{D:Told}(h:fH w g m sv gs ag k o D)(a:ae S w w')(e:¬S g)(hm:¬S m)(I:∀r,leads sv r->¬S r):fH w' g m sv gs ag k o D:=by
 obtain⟨h1,f,j,p⟩:=h;exact⟨h1.V a e,bo f a I,j.V a hm,p⟩
theorem sT{g m:Nat}{d:List (x1×x1)}(h:ad w g e cs)(hm:c4 w m d):g≠m:=by
 rintro rfl;obtain⟨a,c,h1,_⟩:=hm;unfold ad at h;rw[h1]at h;cases h
theorem B7{g m:Nat}{k:o4}{d:List (x1×x1)}(h:aq k e w g v l)(hm:c4 w m d)(f:leads v r):r≠m:=by
 obtain⟨rfl,_⟩:=bO h f;obtain⟨_,⟨rfl,_⟩|⟨_,_,_,j,_⟩⟩:=h
 .obtain⟨a,n,c,h,_⟩:=f;cases h
 .exact sT j hm
theorem fH.put{g m:Nat}{o:Int}{D D':Told}(h:fH w g m sv gs ag k o D)(a:ae (λr=>r=m) w w')(h':eL w' g m ag k o D'):fH w' g m sv gs ag k o D':=
 ⟨h.1.V a (λhe=>sT h.1 h.2.2.1 he),bo h.2.1 a (λr e he=>B7 h.2.1 h.2.2.1 e he),h'.2⟩
theorem fH.qe{g m:Nat}{o:Int}{D:Told}(h:fH w g m sv gs ag k o D):g<w.heap.size/\m<w.heap.size/\∀r,leads sv r->r<w.heap.size:=
 ⟨h.1.lt,h.2.2.1.lt,λr a=>by obtain⟨rfl,e⟩:=bO h.2.1 a;exact e⟩
instance (s t:Λ):Decidable (di s t):=decidable_of_iff ((cB s t 0).isSome=true) ⟨λh=>by
 cases a:cB s t 0 with
 |none=>rw[a]at h;cases h
 |some n=>exact⟨n,a⟩,λ⟨n,h⟩=>by rw[h];rfl⟩
theorem sU(h:aH .i64 w sv l)(G:l.length<=1000000):ai x7 yW [sv] w λv w'=>Ext w w'/\∃g,w.heap.size<=g/\aq .i64 ah w' g v l:=by
 refine az func116 ?_;rw[aW au.u h];refine kk (k:=.i64) ap.u ah.i Ω Ω λg J H j p=>?_;have y:aq .i64 ah J g (.slice (σ ⟨g,0,ν⟩) l.length l.length) (p9 l.length 0):=by
  have:=bW.full (k:=1) (n:=l.length) p Ξ (by simp[maxLen];omega);exact aq.of this
 rw[aW au.u (h.ext j)];have I:=p.lt;refine bZ.range l.length (λi U=>ae (λr=>r=g) J U/\aq .i64 ah U g (.slice (σ ⟨g,0,ν⟩) l.length l.length) (l.take i++p9 (l.length-i) 0)) h.le ⟨ae.refl _ _,by simpa using y⟩ ?_ ?_
 rotate_left
 .rintro U z ⟨f,a⟩;rw[aQ,aj];rw[o5,U2,List.replicate_zero,W7]at a;exact⟨λh=>Ω,λ_=>⟨j.put f Ω,g,Ω,a⟩⟩
 rintro i U z hi ⟨f,a⟩ A;obtain⟨x,q⟩:=aF (l:=l) hi;have B:Ext w U:=j.put f Ω;refine bQ Ω ?_;rw[be au.u al.i Ψ (h.ext B) q];rw[ic rfl ap.u ah.i a Θ];refine ie ah.i a Θ λK C L s=>?_;rw[aP];refine A _ ⟨f.trans C,?_⟩;have e:(l.take i++p9 (l.length-i) 0).set i x=l.take (i+1)++p9 (l.length-(i+1)) 0:=by
  have E:(l.take i).length=i:=by rw[o7];omega
  rw[S0 _ _ Ω,E,U2,show l.length-i=(l.length-(i+1))+1 by omega,List.replicate_succ,List.set_cons_zero,u7,q,o8,X9];rfl
 rw[e]at s;exact s
def LP(w:x3)(l:Λ)(k o:Int)(v:x1)(w':x3):Prop:=
 Ext w w'/\(¬b1 l->v= .tuple #[.pointer ν,Δ 1])/\(b1 l->¬cp o k->v= .tuple #[.pointer ν,Δ 3])/\
  (b1 l->cp o k->∃g m sv gs,v= .tuple #[Γ g,Δ 0]/\w.heap.size<=g/\w.heap.size<=m/\(∀r,leads sv r->w.heap.size<=r)/\fH w' g m sv gs l k o [])
theorem LQ{o:Int}(h:aH .i64 w sv l):ai x7 oE [sv,Δ k,Δ o] w (LP w l k o):=by
 refine az func171 ?_;refine aT (λv J=>Ext w J/\∃c,v= .bool c/\(c=true↔¬b1 l)) ?_ ?_
 .rintro _ J ⟨e,c,rfl,f⟩;rw[b7];refine⟨λx=>⟨e,λ_=>rfl,λh=>absurd h (f.1 x),λh=>absurd h (f.1 x)⟩,λA=>?_⟩;have I:b1 l:=Classical.byContradiction λh=>by have:=f.2 h;rw[A]at this;cases this
  have K:=I.1;refine jN.mono ?_;rintro _ U _ ⟨rfl,a⟩;by_cases hi:cp o k
  rotate_left
  .simp only[hi,decide_false,bC,W5,bL];exact⟨e.trans a,λh=>absurd I h,λ_ _=>rfl,λ_ h=>absurd h hi⟩
  simp only[hi,decide_true,bC,Y6,aU];refine(kX ((h.ext e).ext a) Ω).mono ?_;rintro aM L _ ⟨y,B,M,hm⟩;have N:=hm.ls.cells;refine sB λm O P j C=>?_;rw[dh (cs:=#[aM,Δ k,Δ o,.map (σ m)]) (by obtain⟨_,_,_,_,_,rfl,_⟩:=hm.ls;kernel_rfl)];refine bj λg Q R q E=>?_;have s1:=e.size;have S:=a.size;have V:=y.size;have W:=j.size;exact⟨((((e.trans a).trans y).trans j).trans q),λh=>absurd I h,λ_ h=>absurd hi h,λ_ _=>⟨g,m,aM,B,rfl,Ω,Ω,λr G=>by have:=(bO hm G).1;omega,E,(hm.ext j).ext q,C.ext q,I,hi,λp H=>by cases H⟩⟩
 .intro ax z;rw[aW ap.u h];simp only[bP,aj];refine⟨λX=>z _ _ ⟨Ext.refl _,true,rfl,λ_ I=>by have:=I.1;omega,λ_=>rfl⟩,λY=>?_⟩;refine(A8 h).mono ?_;rintro _ U _ ⟨rfl,a⟩;refine z _ _ ⟨a,_,rfl,?_⟩;rw[decide_eq_true_eq];exact⟨λs I=>s I.2,λs I=>s ⟨Ω,I⟩⟩
structure B8 where
 ag:Λ
 k:Int
 o:Int
 D:Told
instance RD:an B8 where
 n:=1
 rep _ _ R w cs a:=∃g m sv gs,cs=[Γ g]/\fH w g m sv gs a.ag a.k a.o a.D/\R g/\R m/\∀r,leads sv r->R r
 len:=by rintro _ _ _ _ _ _ ⟨_,_,_,_,rfl,_⟩;rfl
 one:=by rintro _ _ _ _ _ _ ⟨_,_,_,_,rfl,_⟩ u hu;simp at hu;subst hu;rfl
 V:=by
  rintro _ _ R T w w' _ a ⟨g,m,sv,gs,rfl,h1,f,h,j⟩ z p;obtain⟨q,s,x⟩:=h1.qe;exact⟨g,m,sv,gs,rfl,h1.V z (p g q (.inr f)) (p m s (.inr h)) λr e=>p r (x r e) (.inr (j r e)),f,h,j⟩
 mono:=by
  rintro _ _ _ R R' w _ a ⟨g,m,sv,gs,rfl,h1,f,h,j⟩ _ y;obtain⟨q,s,x⟩:=h1.qe;exact⟨g,m,sv,gs,rfl,h1,y g q f,y m s h,λr e=>y r (x r e) (j r e)⟩
 hR:=by
  rintro _ _ R w _ a ⟨g,m,sv,gs,rfl,h1,f,h,j⟩;exact⟨g,m,sv,gs,rfl,h1,.inr f,.inr h,λr e=>.inr (j r e)⟩
abbrev hc:Type:=Rd (Λ)×B8
def qy(k:Int)(x:cm)(f:hc):Prop:=f.1=x.scope/\f.2.ag=x.sizes/\f.2.k=k/\f.2.o=min x.other k/\f.2.D.length<=x.lines.length/\∀t,ij f.2.D f.2.o t=jQ x k t
theorem LR{m:Bool}{S R:af}{x:cm}(h:an.rep m S R w cs (hb x)):∃aN szv b3,cs=[aN,szv,Δ x.other,b3]/\an.rep (α:=Λ) false bx R w [aN] x.scope/\an.rep (α:=Λ) false bx R w [szv] x.sizes/\an.rep (α:=List (Λ×Int)) false bx R w [b3] x.lines:=by
 obtain⟨j,d1,r,s,rfl,_,_,_,h1,p,d2,z,A,rfl,_,_,_,a,q,d3,B,C,rfl,_,_,_,f,e⟩:=h;have h1:an.rep (α:=Λ) false bx R w j x.scope:=h1;have a:an.rep (α:=Λ) false bx R w p x.sizes:=a;have f:q=[Δ x.other]:=f;have e:an.rep (α:=List (Λ×Int)) false bx R w d3 x.lines:=e;obtain⟨u,rfl⟩:=V1.1 (show j.length=1 from an.len h1);obtain⟨v,rfl⟩:=V1.1 (show p.length=1 from an.len a);obtain⟨y,rfl⟩:=V1.1 (show d3.length=1 from an.len e);subst f;exact⟨u,v,y,rfl,h1,a,e⟩
theorem LS{m:Bool}{S R:af}{p:Λ×Int}(h:an.rep m S R w cs p):∃aM,cs=[aM,Δ p.2]/\aH .i64 w aM p.1:=by
 obtain⟨e,d1,f,j,rfl,_,_,_,h1,a⟩:=h;obtain⟨u,rfl⟩:=V1.1 (show e.length=1 from an.len h1);have a:d1=[Δ p.2]:=a;subst a;exact⟨u,rfl,ew h1⟩
structure sV(k:Int)(x:cm):Prop where
 k:right k
 sizes:b1 x.sizes
 other:0<=x.other
 lines:mE x.sizes x.lines
 len:x.lines.length<=60000
 scope:x.scope.length<=100001
theorem dg{k:o4}(h:aH k w v l):∃a n c,v= .slice a n c:=by
 obtain⟨_,b,o,base,cap,rfl,_⟩:=h;exact⟨_,_,_,rfl⟩
theorem LU{al:Nat}{aO aQ aR:x1}{K:Int}{R:af}{x:cm}(am:ad w al cv [aO,Δ K,aQ,aR])(aS:Seen R w cs (hb x))(aT:sV K x):
  ai x7 uL [Γ al,.agg cs.toArray] w λv w'=>Ext w w'/\∃b8,∃f:hc,v= .agg b8.toArray/\b8.length=2/\Seen (eK w.heap.size) w' b8 f/\qy K x f:=by
 obtain⟨aN,szv,b3,rfl,h1,ao,Q⟩:=LR aS;obtain⟨H,S,bn,ap,bp,bq⟩:=aT;have bu:x.sizes.length<=6:=S.1;refine az func117 ?_;refine bj λak J bw au q=>?_;have q:ad J ak b0 [aN,szv,Δ x.other,b3]:=by
  obtain⟨_,_,_,rfl⟩:=lX h1;obtain⟨_,_,_,rfl⟩:=lX ao;obtain⟨_,_,_,rfl⟩:=lX Q;exact q
 refine bz cw.i λy U bA W I=>?_;have I:ad U y cw [.slice ν 0 0,.pointer ν]:=I;intro bB L _ _;have X:=(au.trans W).trans L;have Y:=W.trans L;have bC:=au.size;have bD:=W.size;have z3:=L.size;have bE:=I.lt;have av:=am.ext X;rw[aL b0.p 1 (q.ext Y) rfl,aG cv.p 1 av rfl,
  aL b0.p 2 (q.ext Y) rfl,aG cv.p 1 av rfl,lN]
 refine(sU ((ew ao).ext X) Ω).mono ?_;rintro bF bG _ ⟨z,bH,bI,aU⟩;refine⟨.inl z,?_⟩;have z4:=z.size;have aV:cp (min x.other K) K:=⟨H,by have:=H.1;omega,Ω⟩;refine(LQ aU.ls).mono ?_;rintro _ aW _ ⟨M,_,_,aX⟩;obtain⟨ac,m,sv,gs,rfl,bJ,bK,aw,aY⟩:=aX S aV;rw[br,bt];have z5:=M.size;have Z:=(X.trans z).trans M;have ax:=(Y.trans z).trans M;rw[aL b0.p 3 (q.ext ax) rfl];have ay:=bT Q Z;rw[jl iC.u ay];refine bZ.range x.lines.length (λi a=>ae (λr=>r=m) aW a/\∃D,D.length<=i/\fH a ac m sv gs x.sizes K (min x.other K) D/\∀t,ij D (min x.other K) t=k7 x K i t) (rZ ay) ⟨ae.refl _ _,[],p8 _,aY,λt=>by rw[BW];rfl⟩ ?_ ?_
 .rintro i a aZ hi ⟨e,D,aA,A,aa⟩ a1;obtain⟨p,ab⟩:=aF (l:=x.lines) hi;have aB:=ap.2 p (x5 ab);have B:Ext w a:=Z.put e Ω;have a2:=e.size;have a6:an.rep (α:=List (Λ×Int)) false bx R a [b3] x.lines:=bT Q B;refine bQ Ω ?_;refine nB eb.p rfl iC.u eb.i a6 ab λbL a7=>?_;obtain⟨aM,rfl,aC⟩:=LS a7;refine bz eb.i λbM bN bP aD a8=>?_;have bR:=aD.size;refine b6 (vs:=[aM,Δ p.2]) eb.i rfl rfl (by intro v C;simp at C;rcases C with rfl|rfl<;>first|exact aC.cells.2|rfl) a8 λba bb bS aE=>?_;have bc:Ext a ba:=aD.put bb Ω;intro bU ag _ _;have s:=bc.trans ag;have z9:=s.size;rw[aL eb.p 0 (aE.ext ag) rfl,aL eb.p 1 (aE.ext ag) rfl,aG cv.p 1 ((am.ext B).ext s) rfl,lN];have bV:=vB S aB.1;refine(sU (aC.ext s) Ω).mono ?_;rintro bW bX _ ⟨E,bY,b1,bd⟩;refine⟨.inl E,?_⟩;have b2:=E.size;refine(Bh (c:=min p.2 K) ((A.ext s).ext E).is bd.ls).mono ?_;rintro _ b4 _ ⟨_,be⟩;have bf:cp (min p.2 K) K:=⟨H,by have:=H.1;omega,Ω⟩;obtain⟨rfl,aH,D',aI,aJ⟩:=be ⟨aB.1,bf⟩;rw[aP];refine a1 _ ⟨(e.trans ((s.trans E).V _)).trans aH,D',by have:=aI.2;omega,fH.put ((A.ext s).ext E) aH aJ,λt=>?_⟩;rw[BY ap.1 ab,aI.cost A.is.nodup aJ.nodup];by_cases N:t=p.1
  .rw[if_pos N,if_pos N]
  .rw[if_neg N,if_neg N,aa]
 .rintro a aZ ⟨e,D,aA,A,aa⟩;have B:Ext w a:=Z.put e Ω;have bg:Ext J a:=ax.put e Ω;have a2:=e.size;refine cn Ω ?_;rw[aL b0.p 0 (q.ext bg) rfl];refine(sU ((ew h1).ext B) Ω).mono ?_;rintro O b5 _ ⟨P,bh,b7,G⟩;have z12:=P.size;rw[dh (cs:=#[O,Γ ac]) (by obtain⟨_,_,_,rfl⟩:=dg G.ls;kernel_rfl)];have bi:Ext U a:=((L.trans z).trans M).put e Ω;refine b6 (vs:=[O,Γ ac]) cw.i rfl rfl (by intro v C;simp at C;rcases C with rfl|rfl<;>first|exact G.ls.cells.2|rfl) ((I.ext bi).ext P) λaK aj b9 bk=>?_;rw[fC cw.p cw.i rfl bk.range];have bl:fH aK ac m sv gs x.sizes K (min x.other K) D:=(A.ext P).V aj (λhe=>by have he:ac=y:=he;omega) (λhe=>by have he:m=y:=he;omega) (λr j he=>by have he:r=y:=he;have:=aw r j;omega);have bm:aq .i64 ah aK bh O x.scope:=bo G aj λr j he=>by have he:r=y:=he;have:=(bO G j).1;omega
  refine⟨(B.trans P).put aj Ω,_,(x.scope,⟨x.sizes,K,min x.other K,D⟩),rfl,rfl,?_,rfl,rfl,rfl,rfl,aA,λt=>?_⟩
  .exact⟨[O],[Γ ac],bx,bx,rfl,λ_ h=>h,λ_ h=>h,λ_ _ h _=>h,qu bm λr j=>by have:=(bO G j).1;show w.heap.size<=r;omega,
    ⟨ac,m,sv,gs,rfl,bl,by show w.heap.size<=ac;omega,by show w.heap.size<=m;omega,λr j=>by have:=aw r j;show w.heap.size<=r;omega⟩⟩
  .rw[aa,BX]
theorem LV{S R:af}{f:hc}(h:an.rep false S R w cs f):an.rep (α:=hc) true bx R w cs f:=by
 obtain⟨c,d,A,B,rfl,h1,j,_,a,e⟩:=h;exact⟨c,d,bx,bx,rfl,λ_ h=>h,λ_ h=>h,λ_ _ h _=>h,a,e⟩
def sW(k:Int)(a:List cm)(e:List hc):Prop:=e.length=a.length/\∀(i:Nat)x f,a[i]?=σ x->e[i]?=σ f->qy k x f
theorem LW{e:Nat}{m:Bool}{S R:af}{W am:x1}{K:Int}{q:List cm}{aD:x3->Prop}(aE:ad w e cv [W,Δ K,szv,.slice ν 0 0])(aW:an.rep m S R w [am] (show List hI from q.map hb))(aX:∀r,S r\/R r->r≠e)(aY:∀x∈q,sV K x)(bP:q.length<=256)(aZ:∀w' z,∀s:List hc,ae (λr=>r=e) w w'->ad w' e cv [W,Δ K,szv,z]->Seen (λr=>w.heap.size<=r) w' [z] s->sW K q s->aD w'):
  bZ (Δ 0) w λao E a1=>
   aa x7 (aJ .lss ah false false ao (Δ (q.length:Int))) E λa2=>
   Split a2 (aa x7 (j5 je am ao) E λa6=>
   aa x7 (u4 b0 a6) E λa7=>
   aC x7 (Instr.alloc b0 true (.tuple #[])) E λx a8=>
   aC x7 (o6 b0 x a7) a8 λ(_:Unit)ba=>
   ev ba λC=>
   aa x7 (bN (Γ e)) C λG=>
   aa x7 (u5 cv G 3) C λH=>
   aa x7 (u4 dK H) C λap=>
   aa x7 (u4 b0 x) C λbb=>
   ai x7 uL [(Γ e),bb] C λbc I=>
    (Ext C I\/cu x7 (u4 dK H) ap I/\cu x7 (u5 cv G 3) H I/\cu x7 (bN (Γ e)) G I/\True)/\
   aC x7 (Y7 dK 1 #[(0,bc)]) I λbd L=>
    (Ext C L\/cu x7 (u4 dK H) ap L/\cu x7 (u5 cv G 3) H L/\cu x7 (bN (Γ e)) G L/\True)/\
    aC x7 (Z3 #[dK,dK] dK #[ap,bd]) L λbe aq=>
     aa x7 (bN (Γ e)) aq λbf=>
     aa x7 (u5 cv bf 3) aq λbg=>
     aC x7 (o6 dK bg be) aq λ(_:Unit)aH=>
     aa x7 (aJ .add ah false true ao (Δ 1)) aH λbh=>
   a1 bh aH) (aD E):=by
 have bR:=aE.lt;have bS:(q.map hb).length=q.length:=Ξ
 refine bZ.range q.length (λi J=>ae (λr=>r=e) w J/\∃z,∃s:List hc,∃A R':af,ad J e cv [W,Δ K,szv,z]/\bD A R' J [z] s/\(∀r,A r->w.heap.size<=r/\r<J.heap.size)/\(∀r,R' r->w.heap.size<=r/\¬A r/\r<J.heap.size)/\sW K (q.take i) s) Ω
  ⟨ae.refl _ _,_,[],bx,bx,aE,hA,λ_ h=>h.elim,λ_ h=>h.elim,rfl,λi x f h=>by simp at h⟩ ?_ ?_
 rotate_left
 .rintro J bi ⟨M,z,s,A,R',N,au,B,O,X⟩;rw[o5]at X;rw[aQ,aj];refine⟨λh=>Ω,λ_=>aZ J z s M N (pU au λr _ h=>?_) X⟩;exact h.elim (λh=>(B r h).1) λh=>(O r h).1
 rintro i J bi hi ⟨M,z,s,A,R',N,au,B,O,aI,X⟩ bj;obtain⟨x,av⟩:=aF (l:=q) hi;have bl:=aY x (x5 av);have bV:=M.size;rw[o7]at aI;have bm:an.rep m S R J [am] (show List hI from q.map hb):=an.V aW M λr _ h he=>aX r h he;refine bQ Ω ?_;refine nB (α:=hI) (a:=hb x) b0.p rfl je.u b0.i bm (by show(q.map hb)[i]?=_;rw[x8,av];rfl) λcs aw=>?_;have aK:cs.length=4:=an.len aw;have bn:Seen (λr=>S r\/R r) J cs (hb x):=pU aw λr _ h=>h;refine bz b0.i λak U bW aL bo=>?_;have bX:=aL.size;refine b6 (vs:=cs) b0.i aK rfl (an.one aw) bo λbp bq bY br=>?_;have bt:Ext J bp:=aL.put bq Ω;intro Y aM _ _;have P:=bt.trans aM;have z4:=P.size;rw[aG cv.p 3 (N.ext P) rfl,bH b0.p b0.i aK (br.ext aM).range];refine(LU (N.ext P) (bT bn P) bl).mono ?_;rintro _ Z _ ⟨ab,b8,f,rfl,b1,aN,bu⟩;have z5:=ab.size;refine⟨.inl ab,?_⟩;have aO:=LV aN;have bw:=P.trans ab;refine kl (α:=hc) (a:=f) (cs:=b8) (A:=bx) (R:=eK Y.heap.size) dK.u cw.i Φ (by
  obtain⟨c,d,b2,b3,he,_,_,_,ac,bA⟩:=aN;have ac:an.rep (α:=Λ) false bx _ Z c f.1:=ac;obtain⟨u,rfl⟩:=V1.1 (show c.length=1 from an.len ac);obtain⟨b4,bU,b5,b7,rfl,_⟩:=bA;obtain⟨_,_,_,rfl⟩:=lX ac;cases he;rfl) aO λu ax ag _ hu=>?_
 have b9:=ag.size;refine⟨.inl (ab.trans ag),?_⟩;have ay:=bw.trans ag;have bB:bD A (λr=>R' r\/(Y.heap.size<=r/\r<Z.heap.size)) ax [z] s:=bT (an.mono au (λ_ _ h=>h) λ_ _ h=>.inl h) ay;have bC:bD bx (λr=>R' r\/(Y.heap.size<=r/\r<Z.heap.size)) ax b8 f:=bT (an.mono aO (λ_ _ h=>h) λr y h=>.inr ⟨h,y⟩) ag;refine nC (α:=hc) (a:=f) (A:=bx) dK.u cw.i rfl bB hu bC (λr _ aS h=>?_) Ω Ω λaT bE az aA=>?_
 .rcases h with h|h|h
  .exact h
  .exact (O r h).2.1 aS
  .have:=(B r aS).2;omega
 have ca:=aA.size;rw[bJ,aR cv.p rfl];have bF:=(N.ext ay).V aA (λhe=>by have:=(B _ he).1;omega);refine bk (g:=e) (o:=3) dK.i (pV az) (jk az) bF Ξ λbG aU cb aB=>?_;have aB:ad bG e cv [W,Δ K,szv,aT]:=aB;rw[aP];have bI:=mr az;refine bj _ ⟨(hC (M.trans (ay.V _)) aA λr y he=>by have:=(B _ he).1;omega).trans aU,aT,s++[f],λr=>((A r\/bx r\/ax.heap.size<=r)/\r<bE.heap.size),λr=>R' r\/(Y.heap.size<=r/\r<Z.heap.size),aB,an.V bI aU λr _ h he=>?_,λr y=>?_,λr y=>?_,?_,λj bK bL al Q=>?_⟩
 .have he:r=e:=he;rcases h with h|h|h
  .rcases h.1 with h1|h1|h1
   .have:=(B _ h1).1;omega
   .exact h1
   .omega
  .have:=(O r h).1;omega
  .omega
 .have cc:=y.2;rcases y.1 with h1|h1|h1
  .have:=(B _ h1).1;omega
  .exact h1.elim
  .omega
 .rcases y with y|y
  .have aV:=O r y;refine⟨aV.1,λh=>?_,Ω⟩;rcases h.1 with h1|h1|h1
   .exact aV.2.1 h1
   .exact h1
   .omega
  .refine⟨Ω,λh=>?_,Ω⟩;rcases h.1 with h1|h1|h1
   .have:=(B _ h1).2;omega
   .exact h1
   .omega
 .rw[r8,o7,aI];simp;omega
 .have bM:=(x4.1 Q).1;rw[r8,U9]at bM;rw[Z9 Ω]at al;by_cases bO:j<s.length
  .rw[Y1 bO]at Q;exact X j bK bL (by rw[Z9 Ω];exact al) Q
  .rw[Y2 Ω,show j-s.length=0 by omega]at Q;rw[show j=i by omega,av]at al;cases Q;cases al;exact bu
def k8(w:x3)(h:Nat)(f:b2):Prop:=∃szv a gz,∃e:List hc,ad w h cv [bR f.name,Δ f.k,szv,a]/\aq .i64 ah w gz szv f.sizes/\Seen fm w [a] e/\sW f.k f.funs e
theorem k8.ext{e:Nat}{f:b2}(h:k8 w e f)(a:Ext w w'):k8 w' e f:=by
 obtain⟨szv,j,gz,p,h1,q,r,s⟩:=h;exact⟨szv,j,gz,p,h1.ext a,q.ext a,bT r a,s⟩
def B9(w:x3)(res:Option b2)(v:x1)(w':x3):Prop:=Ext w w'/\match res with
 |none=>∃n e:Int,v= .tuple #[.pointer ν,Δ n,Δ e]/\e≠0
 |some f=>∃a,∃n:Int,v= .tuple #[Γ a,Δ n,Δ 0]/\k8 w' a f
structure LX(clean:Bool)(so:Option aD)(name:Λ)(k:Int)(sizes:Λ)(acc:List hI)(res:Option b2):Prop where
 o3:∀s,so=σ s->s.toks=[]->clean=true->s.big=false->∃fs,acc=fs.map hb/\res=σ ⟨name,k,sizes,fs⟩/\(∀x∈fs,sV k x)/\fs.length<=256/\sizes.length<=1000000
 bad:res≠ν->∃s,so=σ s/\s.toks=[]/\clean=true/\s.big=false
theorem LY{w0:x3}{g:Nat}{A B S R:af}{m:Bool}{so:Option aD}{name:Λ}{acc:List hI}{res:Option b2}{aq p:x1}{pl:Λ}{Q:x1->x3->Prop}(aE:ha w g gs A B clean so)(N:LX clean so name k sizes acc res)(bm:aH .i64 w szv sizes)(bn:∀r,leads szv r->r≠g/\r≠gs)(bo:an.rep m S R w [aq] acc)(a2:∀r,S r\/R r->r≠g/\r≠gs/\r<w.heap.size)(cX:so=ν->True)(cY:g<w.heap.size)(cZ:gs<w.heap.size)(bp:ae (λr=>w0.heap.size<=r) w0 w)(c0:w0.heap.size<=g)(c1:w0.heap.size<=gs)(bq:aH .u8 w0 p pl)(Z:∀v w',B9 w0 res v w'->Q v w'):
  ck (α:=x3->Prop) (λ(j:x3)=>
  aa x7 (bN (Γ g)) j λbr=>
  aa x7 (u5 cb br 1) j λbt=>
  aa x7 (u5 e2 bt 0) j λbu=>
  aa x7 (u4 jJ bu) j λbw=>
  aa x7 (aJ .neq jJ false true bw (Δ 0)) j λbx=>
  Split bx (ev j λG=>
   aa x7 (bN (Γ g)) G λbz=>
   aa x7 (u5 cb bz 1) G λbA=>
   aa x7 (u5 e2 bA 2) G λbB=>
   aa x7 (u4 ah bB) G λbC=>
   aa x7 (bN (Γ g)) G λbD=>
   aa x7 (u5 cb bD 1) G λbE=>
   aa x7 (u5 e2 bE 0) G λbF=>
   aa x7 (u4 jJ bF) G λbG=>
   Q (.tuple #[(.pointer ν),bC,bG]) G)
   (aa x7 (bN (Γ g)) j λbH=>
   aa x7 (u5 cb bH 1) j λbK=>
   aa x7 (u5 e2 bK 1) j λbM=>
   aa x7 (u4 jJ bM) j λbO=>
   aa x7 (aJ .neq jJ false true bO (Δ 0)) j λbP=>
   Split bP (ev j λH=>
   aa x7 (bN (Γ g)) H λbQ=>
   aa x7 (u5 cb bQ 1) H λbS=>
   aa x7 (u5 e2 bS 3) H λbU=>
   aa x7 (u4 ah bU) H λbV=>
   aa x7 (bN (Γ g)) H λbW=>
   aa x7 (u5 cb bW 1) H λbX=>
   aa x7 (u5 e2 bX 1) H λbY=>
   aa x7 (u4 jJ bY) H λb1=>
   Q (.tuple #[(.pointer ν),bV,b1]) H)
   (ai x7 yW [szv] j λb3 a6=>
  aa x7 (Instr.build cv #[(0,bR name),(1,Δ k),(2,b3)]) a6 λb4=>
  aC x7 (Instr.box cv b4) a6 λO a7=>
  aa x7 (V2 #[je] ah #[aq]) a7 λb5=>
  bZ (Δ 0) a7 λaF P b6=>
   aa x7 (aJ .lss ah false false aF b5) P λb7=>
   Split b7 (aa x7 (j5 je aq aF) P λb8=>
   aa x7 (u4 b0 b8) P λb9=>
   aC x7 (Instr.alloc b0 true (.tuple #[])) P λx ca=>
   aC x7 (o6 b0 x b9) ca λ(_:Unit)cc=>
   ev cc λM=>
   aa x7 (bN O) M λab=>
   aa x7 (u5 cv ab 3) M λac=>
   aa x7 (u4 dK ac) M λaI=>
   aa x7 (u4 b0 x) M λcd=>
   ai x7 uL [O,cd] M λce ag=>
    (Ext M ag\/cu x7 (u4 dK ac) aI ag/\cu x7 (u5 cv ab 3) ac ag/\cu x7 (bN O) ab ag/\True)/\
   aC x7 (Y7 dK 1 #[(0,ce)]) ag λcg ak=>
    (Ext M ak\/cu x7 (u4 dK ac) aI ak/\cu x7 (u5 cv ab 3) ac ak/\cu x7 (bN O) ab ak/\True)/\
    aC x7 (Z3 #[dK,dK] dK #[aI,cg]) ak λch aK=>
     aa x7 (bN O) aK λci=>
     aa x7 (u5 cv ci 3) aK λcj=>
     aC x7 (o6 dK cj ch) aK λ(_:Unit)a8=>
     aa x7 (aJ .add ah false true aF (Δ 1)) a8 λcl=>
   b6 cl a8)
    (aa x7 (V2 #[cH] ah #[p]) P λcm=>
  Q (.tuple #[O,cm,(Δ 0)]) P)))) λau=>
 ai x7 kR [(Γ g)] w λcn al=>
 Split cn (aa x7 (bN (Γ g)) al λcp=>
  aa x7 (u5 cb cp 0) al λcq=>
  aa x7 (u4 rQ cq) al λcr=>
  ai x7 uK [cr] al λaL L=>
  aa x7 (Y3 aL 0) L λc2=>
  aa x7 (Y3 aL 1) L λba=>
  aa x7 (Y3 aL 2) L λaM=>
  aa x7 (aJ .eql jJ false true aM (Δ 0)) L λct=>
  Split ct (ai x7 np [(Γ g),(Δ 4),ba] L λc3 cw=>
  au cw)
  (aa x7 (aJ .eql jJ false true aM (Δ 11)) L λcz=>
  Split cz (ai x7 np [(Γ g),aM,ba] L λc4 cA=>
   au cA)
   (au L)))
  (au al):=by
 refine dd (λj=>ae (λr=>r=g\/r=gs) w j/\∃(e big I K told:Int)(sv:x1),ad j g cb (fF gs e big I K told sv)/\((e≠0/\res=ν)\/(e=0/\∃s,so=σ s/\s.toks=[]/\clean=true/\(s.big=true↔big≠0)))) ?_ ?_
 rotate_left
 .intro ax aN;refine(BI aE).mono ?_;rintro _ J _ ⟨rfl,am⟩;cases so with
  |none=>
   rw[show(ν:Option aD).isSome=false from rfl,aU];obtain⟨e,big,I,K,told,sv,y,aO⟩:=aE.ext am;refine aN _ ⟨am.V _,e,big,I,K,told,sv,y,.inl ⟨aO,?_⟩⟩;cases E:res with
   |none=>rfl
   |some f=>obtain⟨s,h,_⟩:=N.bad (by rw[E];simp);cases h
  |some s=>
   rw[show(σ s:Option aD).isSome=true from rfl,bL];have cB:df J g gs A B s clean:=aE.ext am;obtain⟨av,cC,cD,big,I,K,told,sv,y,aO,cE⟩:=id cB;rw[aG cb.p 0 y rfl];refine(qc cC).mono ?_;rintro v U _ ⟨W,X⟩;have cF:(s.toks≠[]\/clean=false)->res=ν:=λq=>by
    cases E:res with
    |none=>rfl
    |some f=>
     obtain⟨s',h,ao,bb,_⟩:=N.bad (by rw[E];simp);cases h;rcases q with q|q
     .exact absurd ao q
     .rw[q]at bb;cases bb
   have aw:∀z,ae (λr=>r=g) U z->eD z g gs A B->(s.toks≠[]\/clean=false)->ax z:=λz ap aw q=>by
    obtain⟨_,e,big,I,K,told,sv,l,cG,cI,_⟩:=aw;exact aN _ ⟨((am.V _).trans (W.mono λr _ h=>.inr h)).trans (ap.mono λr _ h=>.inl h),e,big,I,K,told,sv,cG,.inl ⟨cI.1,cF q⟩⟩
   have aP:=y.V W av.1;have bc:=an.V cE W λr _ h ao=>by
    have ao:r=gs:=ao;subst ao;rcases h with h|h
    .exact av.2.2.1 h
    .exact h.1 (.inr (.inl rfl))
   have be:s.shared.length<=100000:=by have:=cD.2.2;omega
   cases Y:s.toks with
   |cons t l=>
    rw[Y]at X;obtain⟨c5,n,rfl⟩:=X;rw[gW,gX,gY,bd,aj];refine⟨λ_=>?_,λh=>absurd rfl h⟩;refine(sr (av.V W) aP bc Ω be).mono ?_;rintro _ z _ ⟨ap,aQ⟩;exact aw z ap aQ (.inl (by rw[Y];simp))
   |nil=>
    rw[Y]at X;obtain⟨n,rfl⟩:=X;rw[gW,gX,gY,bd,aj];refine⟨λh=>by cases clean<;>simp at h,λ_=>?_⟩;rw[bd,aj];cases ay:clean with
    |true=>
     subst ay;refine⟨λh=>by simp at h,λ_=>aN _ ⟨(am.V _).trans (W.mono λr _ h=>.inr h),0,big,I,K,told,sv,aP,.inr ⟨rfl,s,rfl,Y,rfl,aO.1⟩⟩⟩
    |false=>
     subst ay;refine⟨λ_=>?_,λh=>absurd rfl h⟩;refine(sr (av.V W) aP bc Ξ be).mono ?_;rintro _ z _ ⟨ap,aQ⟩;exact aw z ap aQ (.inr rfl)
 .rintro J ⟨az,e,big,I,K,told,sv,y,cJ⟩;have c6:=az.size;have aS:Ext w0 J:=(bp.ext λr E h=>Ω).then az (λr E h=>by rcases h with h|h<;>omega);rw[bJ,aR cb.p rfl,aR e2.p rfl,aB Ψ (y.cell (o:=0+1+0) rfl),bI,aj];rcases cJ with⟨he,aT⟩|⟨rfl,s,rfl,Y,ay,bf⟩
  .refine⟨λ_=>?_,λh=>absurd he h⟩;intro U C _ _;rw[bJ,aR cb.p rfl,aR e2.p rfl,aB Ψ ((y.ext C).cell (o:=0+1+2) rfl),bJ,aR cb.p rfl,aR e2.p rfl,aB Ψ ((y.ext C).cell (o:=0+1+0) rfl)];rw[aT]at Z;exact Z _ _ ⟨aS.trans C,I,e,rfl,he⟩
  .refine⟨λh=>absurd rfl h,λ_=>?_⟩;rw[bJ,aR cb.p rfl,aR e2.p rfl,aB Ψ (y.cell (o:=0+1+1) rfl),bI,aj];refine⟨λq=>?_,λq=>?_⟩
   .have aT:res=ν:=by
     cases E:res with
     |none=>rfl
     |some f=>
      obtain⟨s',h,_,_,bg⟩:=N.bad (by rw[E];simp);cases h;rw[bf.2 q]at bg;cases bg
    intro U C _ _;rw[bJ,aR cb.p rfl,aR e2.p rfl,aB Ψ ((y.ext C).cell (o:=0+1+3) rfl),bJ,aR cb.p rfl,aR e2.p rfl,aB Ψ ((y.ext C).cell (o:=0+1+1) rfl)];rw[aT]at Z;exact Z _ _ ⟨aS.trans C,K,big,rfl,q⟩
   .have cK:s.big=false:=by
     cases cL:s.big with
     |false=>rfl
     |true=>exact absurd (bf.1 cL) q
    obtain⟨aV,rfl,rfl,cM,cN,cO⟩:=N.o3 s rfl Y ay cK;have cP:aH .i64 J szv sizes:=hX bm az λr E a n c X N=>by
     have:=bn r ⟨a,n,c,X,N⟩;exact E.elim this.1 this.2
    refine(sU cP cO).mono ?_;rintro aX U _ ⟨C,gz,c7,aY⟩;have c8:=C.size;rw[dh (cs:=#[bR name,Δ k,aX,.slice ν 0 0]) (by obtain⟨_,_,_,rfl⟩:=dg aY.ls;kernel_rfl)];refine bj λaZ z c9 a1 aA=>?_;have aA:ad z aZ cv [bR name,Δ k,aX,.slice ν 0 0]:=by obtain⟨_,_,_,rfl⟩:=dg aY.ls;exact aA
    have bh:an.rep m S R z [aq] (show List hI from aV.map hb):=bT (bT (an.V bo az λr _ h he=>by have:=a2 r h;exact he.elim this.1 this.2.1) C) a1;have cQ:(aV.map hb).length=aV.length:=Ξ
    rw[jl je.u bh,cQ];refine LW aA bh (λr h=>by have:=a2 r h;omega) cM cN λbi cR cS cT cU cV cW=>?_;have da:=aA.lt;have z3:=a1.size;have bk:Ext U bi:=a1.then cT (λr E h=>by have h:r=aZ:=h;omega);have bl:Ext w0 bi:=(aS.trans C).trans bk;rw[aW cH.u (bq.ext bl)];exact Z _ _ ⟨bl,aZ,_,rfl,aX,cR,gz,cS,cU,aY.ext bk,jM cV,cW⟩
theorem Ca{α:Type}{f:List α->aD->Option (α×aD)}{acc:List α}{s:aD}:fs f (n+1) acc (σ s)=match f acc s with
  |none=>ν
  |some (a,s')=>fs f n (acc++[a]) (σ s'):=by
 show cK f (n+1) acc s=_;simp only[cK];cases f acc s<;>rfl
theorem LZ{g:Nat}{A B:af}{s:Option aD}{most:Int}{O:x1->x3->Prop}(h:dk w g gs A B clean s)(ay:(N:Int)<=av)(P:∀szv w' l so gz,ae (bA g gs A) w w'->dk w' g gs A B clean so->aq .i64 al w' gz szv l->w.heap.size<=gz->l.length<=100001->(∀q,fs (fQ most) N [] s=σ q->so=σ q.2/\l=q.1)->(fs (fQ most) N [] s=ν->so=ν)->O szv w'):
 cd (.slice ν 0 0) (Δ 0) w λsizes i E k=>
  ck (α:=x1->x3->Prop) (λ(az:x1)(Q:x3)=>
   Split az (ai x7 nn [Γ g,(Δ 1),Δ most] Q λR x=>
  aa x7 (Y3 R 0) x λS=>
  aa x7 (Y3 R 1) x λaA=>
  aa x7 (aJ .gtr al false true S (Δ 32)) x λaB=>
  ai x7 pQ [Γ g,aB,aA] x λbm aE=>
  aC x7 (Y7 au 1 #[(0,S)]) aE λaF aG=>
  aC x7 (Z3 #[au,au] au #[sizes,aF]) aG λaH W=>
  aa x7 (aJ .add al false true i (Δ 1)) W λaI=>
  k aH aI W) (O sizes Q)) λax=>
  aa x7 (aJ .lss al false false i (Δ (N:Int))) E λaK=>
  Split aK (ai x7 kR [Γ g] E λaL aM=>
  ax aL aM)
   (ax (.bool false) E):=by
 obtain⟨bn,X,bp,aN,aO⟩:=h.side;have ac:∀r,bA g gs A r->r<w.heap.size:=aN;unfold av at ay;generalize aR:fs (fQ most) N [] s=Y at P;refine⟨λout G J=>∃(i:Nat)(l:Λ)(so:Option aD)(gz:Nat),G=Δ (i:Int)/\i<=N/\ae (bA g gs A) w J/\aq .i64 al J gz out l/\w.heap.size<=gz/\dk J g gs A B clean so/\Y=fs (fQ most) (N-i) l so/\l.length<=100001/\∀st,so=σ st->l.length+st.toks.length<=100000,
  λ_ G _=>N-(bS G).toNat,⟨0,[],s,w.heap.size,rfl,X4 _,ae.refl _ _,aq.nil _ _ _ _,p8 _,h,aR.symm,Ξ,λst aS=>?_⟩,?_⟩
 .subst aS;have:=h.words;simpa using this
 rintro out _ J ⟨i,l,so,gz,rfl,bq,H,Z,aV,ab,y,aW,ad⟩;refine aT (λv ag=>Ext J ag/\((v= .bool true/\i<N/\∃st,so=σ st)\/(v= .bool false/\(so=ν\/i=N)))) ?_ ?_
 rotate_left
 .intro ax I;rw[aQ,aj];refine⟨λaX=>?_,λbu=>I _ _ ⟨Ext.refl _,.inr ⟨rfl,.inr Ω⟩⟩⟩;refine(pd ab).mono ?_;rintro _ ag _ ⟨rfl,ah⟩;cases so with
  |none=>exact I _ _ ⟨ah,.inr ⟨rfl,.inl rfl⟩⟩
  |some st=>exact I _ _ ⟨ah,.inl ⟨rfl,Ω,st,rfl⟩⟩
 rintro _ U ⟨p,aY⟩;have ak:=Z.ext p;have am:=ab.ext p;rcases aY with⟨rfl,aX,st,rfl⟩|⟨rfl,aZ⟩
 rotate_left
 .rw[aU];have an:Y=so.map λst=>(l,st):=by
   rcases aZ with rfl|rfl
   .exact y
   .rw[U2]at y;rw[y];cases so<;>rfl
  refine P out U l so gz (H.trans (p.V _)) am ak aV aW (λq f=>?_) λao=>?_
  .rw[an]at f;cases so with
   |none=>cases f
   |some st=>cases f;exact⟨rfl,rfl⟩
  .rw[an]at ao;cases so with
   |none=>rfl
   |some st=>cases ao
 rw[bL];have ad:=ad st rfl;refine(lW (s:=σ st) am).mono ?_;rintro _ bw _ ⟨K,z,at_,rfl,a1,bx⟩;obtain⟨L,a2⟩:=K.of;rw[br,bt,bP];refine(qs a2).mono ?_;rintro _ bz _ K;obtain⟨M,a6⟩:=K.of;refine en au.u al.i rfl λa ga a8 bB C ba=>?_;have bC:=H.size;have bD:=p.size;have z3:=L.size;have z4:=M.size;have z5:=C.size;have ap:∀r,leads out r->¬bA g gs A r:=λr j bb=>by have:=ac r bb;have:=(bO Z j).1;omega
 have bd:=bo (bo ak L ap) M ap;refine jh au.u al.i rfl (bd.ext C) ba.ls Θ Θ λbE be bf bF bg aw=>?_;rw[aP,wrap_i64 Ω Ω];have bh:ae (bA g gs A) w a8:=((((H.trans (p.V _)).trans L).trans M).trans (C.V _));have bi:ae (bA g gs A) w bf:=hC bh aw λr j he=>by have he:r=gz:=he;omega
 have bj:∀r,bA g gs A r->¬(λr=>r=gz) r:=λr j he=>by have:=ac r j;have he:r=gz:=he;omega
 have bk:∀r,cA g gs A B r->¬(λr=>r=gz) r:=λr j he=>by have:=aO r j.2;have he:r=gz:=he;omega
 refine⟨⟨i+1,l++[z],_,be,rfl,Ω,bi,bg,Ω,(a6.ext C).V aw bj bk,?_,Θ,λbG bl=>?_⟩,by simp only[bS];omega⟩
 .rw[y,show N-i=(N-(i+1))+1 by omega,Ca];unfold fQ;cases f:bc 1 most st with
  |none=>have e:a7 1 most (σ st)=ν:=f;rw[e];rfl
  |some q=>
   have e:a7 1 most (σ st)=σ q:=f;have:=a1 q e;subst this;rw[e];rfl
 .obtain⟨bH,X,rfl⟩:=Y9.1 bl;obtain⟨q,f,rfl⟩:=Y9.1 X;have h1:=(dF (n:=q.1) (s':=q.2) f).1;simp only[r8,U9];show l.length+1+q.2.toks.length<=100000;omega
theorem L0{acc:List (Λ×Int)}{s s':aD}{a:Λ×Int}(h:dR sizes acc s=σ (a,s')):s'.told=s.told/\s'.big=s.big:=by
 obtain⟨_,_,_,e⟩:=oY h;exact⟨e.eqs.1,e.eqs.2.1⟩
theorem L1{s s':aD}{l:List (Λ×Int)}(hi:dT s)(h:dS sizes s=σ (l,s')):dT s'/\(s.big=true->s'.big=true):=by
 have e:=BF sizes (σ s);rw[show iO sizes (σ s)=dS sizes s from rfl,h]at e;cases r:a7 (-av) av (σ s)with
 |none=>rw[r]at e;cases e
 |some q=>
  obtain⟨n,s1⟩:=q;rw[r]at e;simp only at e;have h1:=(dF (n:=n) (s':=s1) r).eqs;have x:dT s1:=λj=>by rw[h1.1];rw[h1.2.1]at j;exact hi j
  split at e
  .cases I:s1.shared[(-n-1).toNat]? with
   |none=>rw[I]at e;cases e
   |some q=>
    obtain⟨z,l'⟩:=q;rw[I]at e;simp only at e;split at e
    .cases e;exact⟨x,λj=>by rw[h1.2.1];exact j⟩
    .cases e
  .have:=kr (f:=dR sizes) (λacc t=>t.told=(jU n s1).told/\t.big=(jU n s1).big) (λacc t a bi ⟨w,p⟩ g=>by
    have:=L0 g;exact⟨by rw[this.1,w],by rw[this.2,p]⟩) n.toNat [] _ l s' ⟨rfl,rfl⟩ e.symm
   obtain⟨⟨w,p⟩,_⟩:=this;refine⟨λj=>by rw[w];rw[p]at j;exact Lk n s1 j,λj=>?_⟩;rw[p];show(s1.big||_)=true;rw[h1.2.1,j];rfl
theorem L2{s s':aD}{x:cm}(hi:dT s)(h:c6 all s=σ (x,s')):dT s'/\s'.toks.length<s.toks.length:=by
 unfold c6 at h;cases p:bc (-av) av s with
 |none=>rw[p]at h;cases h
 |some q=>
 obtain⟨a,s1⟩:=q;rw[p]at h;simp only at h;have t0:=dF p;cases h1:e5 all.length a.natAbs s1 with
 |none=>rw[h1]at h;cases h
 |some q=>
 obtain⟨sc,f⟩:=q;rw[h1]at h;simp only at h;obtain⟨r,_⟩:=vw h1;generalize sc.map (λv=>all.getD v.toNat 0)=sizes at h;cases w:bc 0 av (a8 (decide (6<a.natAbs)||ds sizes) f)with
 |none=>rw[w]at h;cases h
 |some q=>
 obtain⟨other,y⟩:=q;rw[w]at h;simp only at h;have z:=dF w;have E:dT y:=λe=>by
  rw[z.eqs.1];rw[z.eqs.2.1]at e;have e:(f.big||_)=false:=e;have B:=(U5.1 e).1;show f.told<=16384;rw[r.eqs.1,t0.eqs.1];rw[r.eqs.2.1,t0.eqs.2.1]at B;exact hi B
 cases j:dS sizes y with
 |none=>rw[j]at h;cases h
 |some q=>
 obtain⟨lines,A⟩:=q;rw[j]at h;simp only[X0,S2]at h;obtain⟨_,rfl⟩:=h;have F:=L1 E j;have I:=BM j;have J:=t0.1;have K:=r.1;have L:f.toks.length=y.toks.length+1:=z.1;have C:∀t:aD,t.told=A.told/\t.big=A.big/\t.toks=A.toks->dT t/\t.toks.length<s.toks.length:=λt ⟨G,H,a3⟩=>⟨λe=>by rw[G];rw[H]at e;exact F.1 e,by rw[a3];omega⟩;split
 .exact C _ ⟨rfl,rfl,rfl⟩
 .exact C _ ⟨rfl,rfl,rfl⟩
theorem L3{S R:af}{x:hI}(h:an.rep false S R w cs x):an.rep (α:=hI) true bx R w cs x/\(x1.agg cs.toArray).cells=cs.toArray:=by
 obtain⟨j,d1,r,s,rfl,_,_,_,h1,p,d2,z,A,rfl,_,_,_,a,q,d3,B,C,rfl,_,_,_,f,e⟩:=h;have h1:an.rep (α:=Λ) false bx R w j x.1:=h1;have a:an.rep (α:=Λ) false bx R w p x.2.1:=a;have f:q=[Δ x.2.2.1]:=f;have e:an.rep (α:=List (Λ×Int)) false bx R w d3 x.2.2.2:=e;refine⟨⟨j,_,bx,bx,rfl,λ_ h=>h,λ_ h=>h,λ_ _ h _=>h,h1,p,_,bx,bx,rfl,λ_ h=>h,λ_ h=>h,λ_ _ h _=>h,a,q,d3,bx,bx,rfl,λ_ h=>h,λ_ h=>h,λ_ _ h _=>h,f,e⟩,?_⟩;obtain⟨u,rfl⟩:=V1.1 (show j.length=1 from an.len h1);obtain⟨v,rfl⟩:=V1.1 (show p.length=1 from an.len a);obtain⟨y,rfl⟩:=V1.1 (show d3.length=1 from an.len e);obtain⟨_,_,_,rfl⟩:=lX h1;obtain⟨_,_,_,rfl⟩:=lX a;obtain⟨_,_,_,rfl⟩:=lX e;subst f;rfl
theorem L4{w0:x3}{g c:Nat}{A B:af}{o:Option aD}{M:x1}{aG:x1->x3->Prop}(aI:ha w g gs A B clean o)(hi:∀s,o=σ s->dT s)(bq:(c:Int)<=av)(br:aH .i64 w M all)(aK:∀r,leads M r->r≠g/\r≠gs/\r<w.heap.size/\(o≠ν->¬A r))(bt:o≠ν->∀z∈all,1<=z/\z<=av)(bu:all.length<=100001)(bw:e6 w)(h1:1<w0.heap.size/\(o≠ν->cA g gs A B 1))(aL:ae (λr=>w0.heap.size<=r) w0 w)(bz:w0.heap.size<=g)(bB:w0.heap.size<=gs)(cn:g<w.heap.size/\gs<w.heap.size)(bC:o≠ν->∀r,A r->w0.heap.size<=r)(aM:∀N w' acc so aE p aN aO,ae (λr=>w0.heap.size<=r) w0 w'->w.heap.size<=w'.heap.size->ha w' g gs aE p clean so->an.rep (α:=List hI) true aN aO w' [N] acc->(∀r,aN r\/aO r->r≠g/\r≠gs/\r<w'.heap.size)->aH .i64 w' M all->
   (∀q,fs (λ_ s=>c6 all s) c [] o=σ q->so=σ q.2/\acc=q.1.map hb)->(fs (λ_ s=>c6 all s) c [] o=ν->so=ν)->aG N w'):
 cd (.slice ν 0 0) (Δ 0) w λfuns aR am bE=>
  ck (α:=x1->x3->Prop) (λ(bF:x1)(aS:x3)=>
   Split bF (ai x7 yV [Γ g,M] aS λbG bH=>
  aC x7 (Y7 je 1 #[(0,bG)]) bH λbI bJ=>
  aC x7 (Z3 #[je,je] je #[funs,bI]) bJ λbK aV=>
  aa x7 (aJ .add al false true aR (Δ 1)) aV λbM=>
  bE bK bM aV) (aG funs aS)) λaW=>
  aa x7 (aJ .lss al false false aR (Δ (c:Int))) am λbN=>
  Split bN (ai x7 kR [Γ g] am λbO bP=>
  aW bO bP)
   (aW (.bool false) am):=by
 unfold av at bq;generalize f:fs (λ_ s=>c6 all s) c [] o=aX at aM;have aY:∀s,o=σ s->o≠ν:=λs h=>by rw[h];simp
 refine⟨λN ao J=>∃(i:Nat)(acc:List hI)(G:List cm)(so:Option aD)(y K C O:af),ao=Δ (i:Int)/\i<=c/\ae (λr=>w0.heap.size<=r) w0 J/\w.heap.size<=J.heap.size/\ha J g gs y K clean so/\an.rep true C O J [N] acc/\
   aH .i64 J M all/\e6 J/\aX=fs (λ_ s=>c6 all s) (c-i) G so/\(∀r,C r->w.heap.size<=r/\r<J.heap.size)/\(∀r,O r->r≠g/\r≠gs/\¬C r)/\
   ∀s,so=σ s->acc=G.map hb/\dT s/\G.length+s.toks.length<=100000/\o≠ν/\(∀r,y r->A r\/w.heap.size<=r)/\(∀r,y r->w0.heap.size<=r)/\(∀r,B r->K r)/\(∀r,C r->¬K r/\¬y r)/\(∀r,O r->cA g gs y K r),
  λ_ ao _=>c-(bS ao).toNat,⟨0,[],[],o,A,B,bx,bx,rfl,X4 _,aL,p8 _,aI,hA,br,bw,f.symm,λ_ h=>h.elim,λ_ h=>h.elim,λs I=>⟨rfl,hi s I,?_,aY s I,λr e=>.inl e,bC (aY s I),λr e=>e,λ_ h=>h.elim,λ_ h=>h.elim⟩⟩,?_⟩
 .subst I;have ap:df w g gs A B s clean:=aI;have:=ap.2.1.words.1;simpa using this
 rintro N _ J ⟨i,acc,G,so,y,K,C,O,rfl,cp,bQ,cq,aZ,bR,aq,a1,ab,E,bU,a2⟩;refine aT (λv a6=>Ext J a6/\((v= .bool true/\i<c/\∃st,so=σ st)\/(v= .bool false/\(so=ν\/i=c)))) ?_ ?_
 rotate_left
 .intro ax au;rw[aQ,aj];refine⟨λa7=>?_,λcr=>au _ _ ⟨Ext.refl _,.inr ⟨rfl,.inr Ω⟩⟩⟩;refine(BI aZ).mono ?_;rintro _ a6 _ ⟨rfl,a8⟩;cases so with
  |none=>exact au _ _ ⟨a8,.inr ⟨rfl,.inl rfl⟩⟩
  |some st=>exact au _ _ ⟨a8,.inl ⟨rfl,Ω,st,rfl⟩⟩
 rintro _ U ⟨L,bV⟩;have ct:=L.size;have W:=aZ.ext L;have ba:=bT bR L;have bb:ae (λr=>w0.heap.size<=r) w0 U:=bQ.trans (L.V _);rcases bV with⟨rfl,a7,st,rfl⟩|⟨rfl,bW⟩
 rotate_left
 .rw[aU];have bc:aX=so.map λst=>(G,st):=by
   rcases bW with rfl|rfl
   .exact ab
   .rw[U2]at ab;rw[ab];cases so<;>rfl
  refine aM N U acc so y K C (λr=>O r/\r<U.heap.size) bb Ω W (an.mono ba (λ_ _ h=>h) λr e h=>⟨h,e⟩) (λr e=>?_) (aq.ext L) (λq H=>?_) λbd=>?_
  .rcases e with e|e
   .have:=E r e;exact⟨Ω,Ω,Ω⟩
   .have:=bU r e.1;exact⟨this.1,this.2.1,e.2⟩
  .rw[bc]at H;cases so with
   |none=>cases H
   |some st=>cases H;exact⟨rfl,(a2 _ rfl).1⟩
  .rw[bc]at bd;cases so with
   |none=>rfl
   |some st=>cases bd
 rw[bL];obtain⟨rfl,be,cu,ac,bf,aw,bg,ad,bh⟩:=a2 st rfl;have W:df U g gs y K st clean:=W;obtain⟨cw,cz,cB,cC,cD⟩:=W.1;have bX:=h1.2 ac;have bi:cA g gs y K 1:=⟨λf=>by
  rcases f with f|f|f
  .omega
  .omega
  .have:=aw 1 f;omega,bg 1 bX.2⟩
 have bj:∀r,leads M r->¬bA g gs y r/\r<U.heap.size:=λr e=>by
  obtain⟨bY,bZ,b1,b2⟩:=aK r e;refine⟨λf=>?_,Ω⟩;rcases f with f|f|f
  .exact bY f
  .exact bZ f
  .rcases bf r f with h|h
   .exact b2 ac h
   .omega
 refine(Lv W be (aq.ext L) bj (bt ac) bu (a1.ext L) bi).mono ?_;rintro _ b3 _ ⟨aE,p,cs,ay,rfl,cE,X,Y,az,bk,bl,b4,b5⟩;have z3:=X.size;obtain⟨bm,b6⟩:=L3 b4;refine kl (α:=hI) (a:=ay) (cs:=cs) (A:=bx) (R:=cA g gs aE p) je.u b0.i Φ b6 bm λu ag P _ hu=>?_;have z4:=P.size;have b7:∀r,r<U.heap.size->C r\/O r->¬bA g gs y r:=λr e h f=>by
  rcases h with h|h
  .have j:=E r h;rcases f with f|f|f
   .omega
   .omega
   .exact (ad r h).2 f
  .exact (bh r h).1 f
 have b8:∀r,r<U.heap.size->cA g gs y K r->cA g gs aE p r:=λr e h=>⟨λf=>h.1 (f.imp id (Or.imp id λf=>(Y r f).elim id λh'=>Ω)),bk r h.2⟩;have b9:bD C (cA g gs aE p) ag [N] (G.map hb):=bT (an.V (an.mono (S':=C) (R':=λr=>cA g gs aE p r/\O r) ba (λ_ _ h=>h) λr e h=>⟨b8 r e (bh r h),h⟩) X λr e h=>b7 r e (h.imp id λh=>h.2) |> λh=>h) P |> λh=>an.mono h (λ_ _ h=>h) λ_ _ h=>h.1;have ah:∀r,C r->¬p r:=λr h ak=>by
  have j:=E r h;rcases(az r ak).1 with Q|Q
  .exact (ad r h).1 Q
  .have aA:=(E r h).2;omega
 have cF:(G.map hb).length=G.length:=Ξ
 refine nC (α:=hI) (a:=ay) (A:=bx) je.u b0.i rfl b9 hu (bT bm P) (λr _ ca h=>?_) Ω Ω λcG S cb Z=>?_
 .rcases h with h|h
  .exact h
  .exact ah r ca h.2
 have z5:=Z.size;rw[aP,wrap_i64 Ω Ω];have cc:ae (λr=>w0.heap.size<=r) w0 ag:=(bb.trans (X.mono λr _ f=>by
  rcases f with rfl|rfl|f
  .exact bz
  .exact bB
  .exact aw r f)).trans (P.V _)
 have z0:=aL.size;have ce:ae (λr=>w0.heap.size<=r) w0 S:=cc.trans (Z.mono λr _ h=>by have:=(E r h).1;omega);have cg:aH .i64 ag M all:=(hX (aq.ext L) X λr e a n c aB aF=>(bj r ⟨a,n,c,aB,aF⟩).1 e).ext P;have ch:aH .i64 S M all:=hX cg Z λr e a n c aB aF=>by
  have b1:=(aK r ⟨a,n,c,aB,aF⟩).2.2.1;have:=(E r e).1;omega
 have ci:e6 S:=(((a1.ext L).V X bi.1).ext P).V Z λh=>by have:=(E 1 h).1;omega
 have bn:ha S g gs aE p clean ((c6 all st).map (·.2)):=by
  refine ha.V (bl.ext P) Z (λh=>by have:=E _ h;omega) (λr e cH h=>?_) (λr e h=>ah r h e.2);have j:=E r h;rcases e with rfl|rfl|e
  .omega
  .omega
  .rcases Y r e with Q|Q
   .exact (ad r h).2 Q
   .omega
 have cj:=mr cb;refine⟨⟨i+1,(G.map hb)++[ay],G++((c6 all st).map (·.1)).toList,(c6 all st).map (·.2),aE,p,λr=>(C r\/bx r\/ag.heap.size<=r)/\r<S.heap.size,cA g gs aE p,rfl,Ω,ce,Ω,bn,cj,ch,ci,?_,λr e=>⟨?_,e.2⟩,λr e=>⟨λh=>e.1 (.inl h),λh=>e.1 (.inr (.inl h)),λh=>?_⟩,λs' cl=>?_⟩,by simp only[bS];omega⟩
 .rw[ab,show c-i=(c-(i+1))+1 by omega,Ca];cases H:c6 all st with
  |none=>rfl
  |some q=>rfl
 .rcases e.1 with h|h|h
  .exact (E r h).1
  .exact h.elim
  .omega
 .rcases h.1 with j|j|j
  .exact ah r j e.2
  .exact j
  .have:=(az r e.2).2;omega
 .obtain⟨q,H,rfl⟩:=Y9.1 cl;have j:=L2 (s':=q.2) (x:=q.1) be H;have Q:=b5 q H;refine⟨?_,j.1,?_,ac,λr e=>?_,λr e=>?_,λr e=>bk r (bg r e),λr e=>⟨λak=>?_,λbo=>?_⟩,λr e=>e⟩
  .rw[H,Q];simp
  .rw[H];simp only[Z7,o8,r8,U9];omega
  .rcases Y r e with h|h
   .exact bf r h
   .exact .inr Ω
  .rcases Y r e with h|h
   .exact aw r h
   .omega
  .rcases e.1 with j|j|j
   .exact ah r j ak
   .exact j
   .have:=(az r ak).2;omega
  .have cI:ha S g gs aE p clean ((c6 all st).map (·.2)):=bn;have bp:=bl;rw[H]at bp;have ap:df b3 g gs aE p q.2 clean:=bp;have a7:=ap.1.2.2.2.1 r (.inr (.inr bo));rcases e.1 with j|j|j
   .rcases Y r bo with aA|aA
    .exact (ad r j).2 aA
    .have:=(E r j).2;omega
   .exact j
   .omega
theorem dT.num{lo hi n:Int}{s s':aD}(e:dT s)(h:bc lo hi s=σ (n,s')):dT s':=λa=>by
 have h1:=(dF h).eqs;rw[h1.1];rw[h1.2.1]at a;exact e a
theorem dT.big{b:Bool}{s:aD}(h:dT s):dT (a8 b s):=λa=>by
 have a:(s.big||b)=false:=a;exact h (U5.1 a).1
theorem dT.word{w:Λ}{s s':aD}(h:dT s)(hw:dQ s=σ (w,s')):dT s':=λa=>by
 have h1:=(sk hw).2;rw[h1]at a ⊢;exact h a
theorem L5{most:Int}{s s':aD}(hi:dT s)(hm:most<=av)(h:cK (fQ most) N [] s=σ (l,s')):dT s'/\(∀z∈l,1<=z/\z<=av)/\l.length+s'.toks.length<=s.toks.length:=by
 have:=kr (f:=fQ most) (λacc t=>dT t/\(∀z∈acc,1<=z/\z<=av)/\acc.length+t.toks.length<=s.toks.length) (λacc t a bi ⟨h1,p,y⟩ g=>by
  unfold fQ at g;cases e:bc 1 most t with
  |none=>rw[e]at g;cases g
  |some q=>
   obtain⟨z,r⟩:=q;rw[e]at g;simp only[X0,S2]at g;obtain⟨rfl,rfl⟩:=g;have A:=(hY e).1;have B:=(dF e).1;refine⟨(h1.num e).big,λx j=>?_,?_⟩
   .rcases o9.1 j with j|j
    .exact p x j
    .rw[l7.1 j];omega
   .simp only[r8,U9];show acc.length+1+r.toks.length<=_;omega) N [] s l s' ⟨hi,λz w=>(by cases w),Ξ⟩ h
 exact this.1
theorem L6{s0:aD}{name:Λ}{n most cnt:Int}{so6:Option aD}(h1:∀q,dQ s0=σ q->name=q.1)(p:∀q,a7 1 av (((dQ s0).map (·.2)).map (a8 (decide (64<(name.length:Int)))))=σ q->n=q.1)(j:∀q,a7 1 av (((a7 1 av (((dQ s0).map (·.2)).map (a8 (decide (64<(name.length:Int)))))).map (·.2)).map (a8 (decide (64<n))))=σ q->most=q.1)(h:∀q,a7 0 av ((a7 1 av (((a7 1 av (((dQ s0).map (·.2)).map (a8 (decide (64<(name.length:Int)))))).map (·.2)).map (a8 (decide (64<n))))).map (·.2))=σ q->cnt=q.1)(f:∀q,a7 1 av (((a7 0 av ((a7 1 av (((a7 1 av (((dQ s0).map (·.2)).map (a8 (decide (64<(name.length:Int)))))).map (·.2)).map (a8 (decide (64<n))))).map (·.2))).map (·.2)).map (a8 (decide (256<cnt))))=σ q->k=q.1)(e:∀q,fs (fQ most) n.toNat [] (((a7 1 av (((a7 0 av ((a7 1 av (((a7 1 av (((dQ s0).map (·.2)).map (a8 (decide (64<(name.length:Int)))))).map (·.2)).map (a8 (decide (64<n))))).map (·.2))).map (·.2)).map (a8 (decide (256<cnt))))).map (·.2)).map (a8 (decide (2147483648<k))))=σ q->so6=σ q.2/\sizes=q.1)(a:fs (fQ most) n.toNat [] (((a7 1 av (((a7 0 av ((a7 1 av (((a7 1 av (((dQ s0).map (·.2)).map (a8 (decide (64<(name.length:Int)))))).map (·.2)).map (a8 (decide (64<n))))).map (·.2))).map (·.2)).map (a8 (decide (256<cnt))))).map (·.2)).map (a8 (decide (2147483648<k))))=ν->so6=ν):
  hW s0=(fs (λ_ s=>c6 sizes s) cnt.toNat [] so6).map λq=>((⟨name,k,sizes,q.1⟩:b2),q.2):=by
 unfold hW;cases z:dQ s0 with
 |none=>
  rw[z]at a;rw[a rfl];rfl
 |some L=>
 obtain⟨Y,s1⟩:=L;rw[z]at h1 p j h f e a;have:=h1 _ rfl;subst this;have M:decide (64<(name.length:Int))=decide (64<name.length):=by rw[U1,decide_eq_true_eq,decide_eq_true_eq];omega
 rw[M]at p j h f e a;simp only[Z7]at p j h f e a ⊢;generalize a8 (decide (64<name.length)) s1=w at*;cases A:bc 1 av w with
 |none=>
  rw[show a7 1 av (σ w)=ν from A]at a;rw[a rfl];rfl
 |some N=>
 obtain⟨O,B⟩:=N;rw[show a7 1 av (σ w)=σ (O,B)from A]at p j h f e a;have:=p _ rfl;subst this;simp only[Z7]at j h f e a ⊢;generalize a8 (decide (64<n)) B=x at*;cases C:bc 1 av x with
 |none=>
  rw[show a7 1 av (σ x)=ν from C]at a;rw[a rfl];rfl
 |some P=>
 obtain⟨Q,r⟩:=P;rw[show a7 1 av (σ x)=σ (Q,r)from C]at j h f e a;have:=j _ rfl;subst this;simp only[Z7]at h f e a ⊢;cases E:bc 0 av r with
 |none=>
  rw[show a7 0 av (σ r)=ν from E]at a;rw[a rfl];rfl
 |some R=>
 obtain⟨S,F⟩:=R;rw[show a7 0 av (σ r)=σ (S,F)from E]at h f e a;have:=h _ rfl;subst this;simp only[Z7]at f e a ⊢;generalize a8 (decide (256<cnt)) F=y at*;cases G:bc 1 av y with
 |none=>
  rw[show a7 1 av (σ y)=ν from G]at a;rw[a rfl];rfl
 |some T=>
 obtain⟨U,H⟩:=T;rw[show a7 1 av (σ y)=σ (U,H)from G]at f e a;have:=f _ rfl;subst this;simp only[Z7]at e a ⊢;generalize a8 (decide (2147483648<k)) H=V at*;cases J:cK (fQ most) n.toNat [] V with
 |none=>
  rw[a J];rfl
 |some W=>
 obtain⟨Z,K⟩:=W;obtain⟨I,X⟩:=e _ J;subst X;rw[I];simp only;show _=U3 _ (cK (λ_ s=>c6 sizes s) cnt.toNat [] K);cases cK (λ_ s=>c6 sizes s) cnt.toNat [] K<;>rfl
theorem L7{f:b2}(a:fe N f)(q:N<=60000):∀x∈f.funs,sV f.k x:=λx h=>by
 obtain⟨h1,j,r⟩:=a.funs x h;refine⟨a.k,⟨?_,λz e=>?_⟩,h1.other,h1.lines,by have:=h1.len;omega,Ω⟩
 .rw[h1.sizes,u9];exact j
 .rw[h1.sizes]at e;obtain⟨v,p,rfl⟩:=l9.1 e;have:=h1.scope.2 v p;refine a.sizes.2.2 _ ?_;rw[v8,x6 Ω];exact S9 _
theorem L8{p:x1}{pl:Λ}(Q:aH .u8 w p pl)(aK:Bytes pl)(bL:pl.length<=60000)(ad:e6 w):ai x7 Gd [p] w (B9 w (gp pl)):=by
 have aL:1<w.heap.size:=by
  have:=ad 0 (.int .u64 1) rfl;obtain⟨c,e,f,aM,_⟩:=uV this;exact(n9.1 aM).1
 have bM:av=4611686018427387904:=rfl;refine az func59 ?_;rw[aW cH.u Q,bP,aj];refine⟨λh=>Ω,λ_=>?_⟩;refine(Ad Q aK Ω).mono ?_;rintro _ J _ ⟨ag,gs,rfl,bN,aN,R⟩;rw[dh (cs:=#[Γ gs,Δ 0,Δ 0,Δ 0,Δ 0,Δ 0,.slice ν 0 0]) Ψ];refine bj λg U bQ S ah=>?_;have bR:=ag.size;have bS:=S.size;have aO:=ah.lt;have bT:gs<J.heap.size:=R.2.2.2.1.lt;have bU:=pX _ pl (p8 _);let s0:aD:=⟨(lex pl).1,0,false,[]⟩;let B0:af:=λr=>r<J.heap.size;have aP:df U g gs bx B0 s0 (lex pl).2:=by
  refine⟨⟨Ω,λh=>h,λh=>h,λr j=>?_,λr j=>by have j:r<J.heap.size:=j;omega⟩,⟨aN,pl,0,R.ext S,λr j=>?_,by rw[List.drop_zero]⟩,⟨by show(0:Int)<=0;omega,by show(0:Int)<=av;omega,by show(([]:List (Λ×List (Λ×Int))).length+(lex pl).1.length<=100000);simp;omega⟩,0,0,0,0,.slice ν 0 0,ah,⟨by simp[s0],λ_=>rfl⟩,hA (α:=iM)⟩
  .rcases j with rfl|rfl|j
   .exact aO
   .omega
   .exact j.elim
  .obtain⟨_,_,_,L,bm,hm⟩:=R;have G:=bO hm j;have H:=b4 hm L Φ j;exact⟨λB=>by
    rcases B with B|B|B
    .omega
    .exact H B
    .exact B,by show r<J.heap.size;omega⟩
 have W:∀r,bA g gs bx r->w.heap.size<=r:=λr j=>by
  rcases j with rfl|rfl|j
  .omega
  .omega
  .exact j.elim
 refine(AV aP).mono ?_;rintro _ bV _ ⟨A,name,bW,rfl,bX,bY,aQ⟩;obtain⟨aR,aS⟩:=fS.of A;rw[br,bt,nJ cZ.u,bP];refine(qs aS).mono ?_;rintro _ bZ _ A;obtain⟨aT,aU⟩:=A.of;refine(lW (lo:=1) (hi:=av) aU).mono ?_;rintro _ b0 _ ⟨A,n,b1,rfl,ak,aV⟩;obtain⟨aX,aY⟩:=A.of;rw[br,bt,bP];refine(qs aY).mono ?_;rintro _ b3 _ A;obtain⟨aZ,a1⟩:=A.of;refine(lW (lo:=1) (hi:=av) a1).mono ?_;rintro _ b5 _ ⟨A,most,b6,rfl,al,a2⟩;obtain⟨a6,ba⟩:=A.of;rw[br,bt];refine(lW (lo:=0) (hi:=av) ba).mono ?_;rintro _ b7 _ ⟨A,cnt,b8,rfl,am,bb⟩;obtain⟨bc,bd⟩:=A.of;rw[br,bt,bP];refine(qs bd).mono ?_;rintro _ b9 _ A;obtain⟨be,bf⟩:=A.of;refine(lW (lo:=1) (hi:=av) bf).mono ?_;rintro _ ca _ ⟨A,k,cb,rfl,hk,cc⟩;obtain⟨bg,bh⟩:=A.of;rw[br,bt,bP];refine(qs bh).mono ?_;rintro _ an _ A;obtain⟨bi,X⟩:=A.of;have ao:ae (bA g gs bx) U an:=(((((((aR.trans aT).trans aX).trans aZ).trans a6).trans bc).trans be).trans bg).trans bi;have Y:∀{lo:Int}{o:Option aD}{x:Int},0<=lo->lo<=1->(∀q,a7 lo av o=σ q->x=q.1)->(a7 lo av o=ν->x=0)->0<=x/\x<=av:=λ{lo o x}cd h1 I bk=>by
  cases a:a7 lo av o with
  |none=>rw[bk a];omega
  |some q=>
   have G:=mH (n:=q.1) (s':=q.2) a;rw[I q a];omega
 have ce:=Y Ω Ω ak aV;have cg:=Y Ω Ω am bb;have ch:=Y Ω Ω al a2;obtain⟨N,bl⟩:∃N:Nat,n=(N:Int):=⟨n.toNat,Ω⟩;obtain⟨C,bn⟩:∃C:Nat,cnt=(C:Int):=⟨cnt.toNat,Ω⟩;have bo:n.toNat=N:=Ω
 have bp:cnt.toNat=C:=Ω
 have bq:dT s0:=λ_=>by show(0:Int)<=16384;omega
 have M:∀{o:Option aD}{b:Bool},(∀s,o=σ s->dT s)->∀s,o.map (a8 b)=σ s->dT s:=λh s I=>by
  obtain⟨t,Z,rfl⟩:=Y9.1 I;exact(h t Z).big
 have O:∀{o:Option aD}{lo hi:Int},(∀s,o=σ s->dT s)->∀s,(a7 lo hi o).map (·.2)=σ s->dT s:=λ{o lo hi}h s I=>by
  obtain⟨q,a,rfl⟩:=Y9.1 I;cases o with
  |none=>cases a
  |some t=>exact(h t rfl).num (n:=q.1) (s':=q.2) a
 have bu:∀s,(dQ s0).map (·.2)=σ s->dT s:=λs I=>by
  obtain⟨q,a,rfl⟩:=Y9.1 I;exact bq.word (w:=q.1) (s':=q.2) a
 have ap:=M (b:=decide (2147483648<k)) (O (lo:=1) (hi:=av) (M (b:=decide (256<cnt)) (O (lo:=0) (hi:=av) (O (lo:=1) (hi:=av) (M (b:=decide (64<n)) (O (lo:=1) (hi:=av) (M (b:=decide (64<(name.length:Int))) bu)))))));have y:=λ(sizes:Λ)(so6:Option aD)=>L6 (s0:=s0) (name:=name) (sizes:=sizes) (n:=n) (most:=most) (cnt:=cnt) (k:=k) (so6:=so6) aQ ak al am hk;rw[bo]at y;generalize ci:U3 (a8 (decide (2147483648<k))) (U3 (λx=>x.2) (a7 1 av (U3 (a8 (decide (256<cnt))) (U3 (λx=>x.2) (a7 0 av (U3 (λx=>x.2) (a7 1 av (U3 (a8 (decide (64<n))) (U3 (λx=>x.2) (a7 1 av (U3 (a8 (decide (64<(name.length:Int)))) (U3 (λx=>x.2) (dQ s0)))))))))))))=aq at ap X y;rw[bl];refine LZ (N:=N) (most:=most) X Ω λszv aa sizes so6 gz bw au aw cj bz ax ay=>?_;have y:=y sizes so6 ax ay;rw[bp]at y;have ab:ae (bA g gs bx) U aa:=ao.trans bw;have z12:=ab.size;have aA:Ext w U:=ag.trans S;have bB:ae (λr=>w.heap.size<=r) w aa:=(aA.V _).trans (ab.mono λr _ h=>W r h);have ck:=au.side;have facts:∀K,so6=σ K->dT K/\(∀z∈sizes,1<=z/\z<=av)/\sizes.length<=100000:=λK ac=>by
  cases a:fs (fQ most) N [] aq with
  |none=>rw[ay a]at ac;cases ac
  |some q=>
   obtain⟨G,H⟩:=ax q a;cases ac.symm.trans G;subst H;cases aq with
   |none=>cases a
   |some bC=>
    obtain⟨bD,bE,cl⟩:=L5 (l:=q.1) (s':=q.2) (ap bC rfl) Ω a;exact⟨bD,bE,by have:=X.words;omega⟩
 rw[bn];have aB:∀r,leads szv r->an.heap.size<=r/\r<aa.heap.size:=λr j=>by have:=bO aw j;omega
 have cm:=ao.size;refine L4 (w0:=w) (c:=C) (all:=sizes) au.q (λs I=>(facts s I).1) Ω aw.ls (λr j=>?_) (λP=>?_) bz ((ad.ext aA).V ab λB=>by have:=W 1 B;omega) ⟨aL,λ_=>⟨λB=>by have:=W 1 B;omega,by show 1<J.heap.size;omega⟩⟩
  bB Ω Ω ⟨Ω,Ω⟩ (λ_ r h=>h.elim) λcn cp acc so aE cq cr ct aC cu bF bG bH bI aF bJ=>?_
 .have:=aB r j;exact⟨Ω,Ω,Ω,λ_ h=>h⟩
 .cases aG:so6 with
  |none=>exact absurd aG P
  |some K=>exact(facts K aG).2.1
 have cw:=aC.size;have E:gp pl=match hW s0 with
   |none=>ν
   |some (f,s)=>if s.toks=[]/\(lex pl).2=true/\s.big=false then σ f else ν:=by
  unfold gp;rw[if_neg Ω];have e:hW ⟨(lex pl).1,0,false,[]⟩=hW s0:=rfl;rw[e];cases hW s0<;>rfl
 refine LY (w0:=w) (sizes:=sizes) (res:=gp pl) bF ⟨λs I Z bK L=>?_,λP=>?_⟩ bI (λr j=>by have:=aB r j;exact⟨Ω,Ω⟩) bG bH (λ_=>trivial) Ω Ω aC Ω Ω Q λv w' h=>h
 .cases a:fs (λ_ s=>c6 sizes s) C [] so6 with
  |none=>rw[bJ a]at I;cases I
  |some q=>
   obtain⟨G,H⟩:=aF q a;cases I.symm.trans G;rw[a]at y;have y:hW s0=σ ((⟨name,k,sizes,q.1⟩:b2),q.2):=y;have aI:=(AS rfl y L).1;rw[y]at E;simp only at E;rw[if_pos ⟨Z,bK,L⟩]at E;exact⟨q.1,H,E,L7 aI (by show(lex pl).1.length<=60000;omega),aI.k0,Ω⟩
 .cases a:fs (λ_ s=>c6 sizes s) C [] so6 with
  |none=>
   rw[a]at y;have y:hW s0=ν:=y;rw[y]at E;exact absurd E P
  |some q=>
   obtain⟨G,H⟩:=aF q a;rw[a]at y;have y:hW s0=σ ((⟨name,k,sizes,q.1⟩:b2),q.2):=y;rw[y]at E;simp only at E;by_cases aJ:q.2.toks=[]/\(lex pl).2=true/\q.2.big=false
   .exact⟨q.2,G,aJ⟩
   .rw[if_neg aJ]at E;exact absurd E P
theorem vT(s t cs:Λ):∃e,oO s t cs= .tuple #[Δ (bn s cs t),Δ e]:=by
 unfold oO bn;cases cB s t 0 with
 |none=>exact⟨3,rfl⟩
 |some n=>exact⟨0,rfl⟩
theorem L9:ai x7 zd [sv] w λr w'=>Ext w w'/\∃g,r= .func (.func oF) #[] #[Γ g]/\w.heap.size<=g/\ad w' g ap sv.cells.toList:=by
 refine az func223 ?_;refine bj λg J f a e=>?_;rw[ki];exact⟨a,g,rfl,Ω,e⟩
theorem Ma{f:Q1}{cap:Array x1}{B:Nat->List x1->x3->Prop}{e:x3->Prop}{L:Λ}(P:nf x7 f cap.toList n B e)(C:∀k vs w,B k vs w->∃x,L[k]?=σ x/\vs=[Δ x])(he:∀a b,ae (λr=>w.heap.size<=r) a b->e a->e b)(Q:e w)(R:n=L.length)(an:L.length<=1000000):
  ai x7 Gw [.slice ν 0 0,.func (.func f) #[] cap] w λv w'=>Ext w w'/\∃g,w.heap.size<=g/\aq .i64 ah w' g v L:=by
 refine hU func80 ?_;refine bj λgs J ao E p=>?_;have p:ad J gs ap [.slice ν 0 0]:=p;have au:=p.lt;have G:∀{a b:x3},Ext a b->e a->e b:=λj=>he _ _ (j.V _);refine kf.old ⟨Nat,false,f,cap,0,_,_,e,λk w'=>ae (λr=>w.heap.size<=r) w w'/\∃v g,gs<g/\ad w' gs ap [v]/\aq .i64 ah w' g v (L.take k),λ_ _ _=>False,rfl,P.s,?_,λ_ _ j h=>G j h,
  λ_ _ _ j h=>⟨h.1.trans (j.V _),by obtain⟨v,g,h1,S,W⟩:=h.2;exact⟨v,g,h1,S.ext j,W.ext j⟩⟩,λ_ _ _ _ _ h=>h,G E Q,⟨E.V _,_,gs+1,Ω,p,aq.nil _ _ _ _⟩,?_,?_,λ_ _ h=>h.elim,λ_ _ _ h=>h.elim⟩
 .rintro k vs av w' ⟨_,_,h⟩;obtain⟨x,_,rfl⟩:=C k vs w' h;rfl
 .rintro a k _ U hX ⟨hk,rfl,Y⟩ ⟨Z,v,g,aa,H,q⟩;obtain⟨x,j,ab⟩:=C k _ U Y;cases ab;intro aw y _ _;have I:=H.ext y;rw[aB Ψ (I.Qz rfl)];refine en ap.u ah.i rfl λa ga ax ay z ac=>?_;have az:(L.take k).length<=1000000:=Θ
  refine jh ap.u ah.i rfl ((q.ext y).ext z) ac.ls (by simp only[c9,List.length_nil];omega) (by simp only[c9,List.length_nil];omega) λaf ag aA aC A K=>?_;have aD:=H.lt;have aE:=y.size;have aF:=z.size;refine bk ap.i A.ls.cells.1 A.ls.cells.2 (((I.ext z).V K Ω)) Ξ λaj M aG ak=>?_;have N:ae (λr=>w.heap.size<=r) U aj:=(((y.trans z).V _).trans (K.mono λr _ h=>by show w.heap.size<=r;omega)).trans (M.mono λr _ h=>by show w.heap.size<=r;omega);refine⟨he _ _ N hX,⟨Z.trans N,af,ag,Ω,ak,?_⟩,λh=>by cases h⟩;rw[u7,j];exact A.V M (λ_=>Ω)
 .rintro k aH hk ⟨al,v,g,aa,am,q⟩;have hk:k=n:=hk;subst hk;rw[aB Ψ (am.Qz rfl)];intro aI O _;rw[R,o5]at q;exact⟨(al.ext λr aJ h=>by have:w.heap.size<=r:=h;omega).trans O,g,Ω,q.ext O⟩
theorem Cb{f:Q1}{cap:Array x1}{j:Nat->List x1->x3->Prop}{e:x3->Prop}{L:Λ}(p:nf x7 f cap.toList n j e)(q:∀k vs w,j k vs w->∃x,L[k]?=σ x/\vs=[Δ x])(he:∀a b,ae (λr=>w.heap.size<=r) a b->e a->e b)(s:e w)(y:n=L.length)(z:L.length<=1000000):
  ai x7 FW [.func (.func f) #[] cap] w λv w'=>Ext w w'/\∃g,w.heap.size<=g/\aq .i64 ah w' g v L:=by
 refine az func35 ?_;exact(Ma p q he s y z).mono λ_ _ _ h=>h
theorem Mb{x:Int}:ai x7 cmp_Less_int [Δ x,Δ y] w λv w'=>v= .bool (decide (x<y))/\Ext w w':=by
 refine az func302 ?_;refine aT (λv J=>v= .bool (decide (x<y))/\Ext w J) (λ_ _ h=>h) λax a=>?_;have e:∀{z:Int}{w:x3},ai x7 cmp_isNaN_int [Δ z] w λv w'=>v= .bool false/\Ext w w':=λ{z w}=>by
  refine az func235 ?_;simp only[bI];exact⟨Ξ,Ext.refl _⟩
 refine e.mono ?_;rintro _ U _ ⟨rfl,f⟩;rw[aU];simp only[aQ];exact a _ _ ⟨rfl,f⟩
theorem Mc{P:W9}{t:r9}{cx cy:Bool}{k:o4}{a b:Int}:cu P (aJ .sub t cx cy (.int k a) (.int k b)) (.int k (k.wrap (a-b))) w:=λw' _=>by simp[aJ,eqGuard,binOp,Op.intArith]
theorem Md{g:Nat}(h:aq .i64 ah w g sv l)(am:l.length<=1000000):
  ai x7 IE [sv,Δ 0,Δ l.length] w λ_ w'=>ae (λr=>r=g) w w'/\∃m,m.Perm l/\m.Pairwise (·<= ·)/\aq .i64 ah w' g sv m:=by
 refine az func296 ?_;simp only[aP];refine⟨λt J=>∃(i:Nat)(m:Λ),t=Δ i/\1<=i/\(i<=l.length\/i=1)/\m.Perm l/\qb m i/\ae (λr=>r=g) w J/\aq .i64 ah J g sv m,λt _=>l.length+1-(bS t).toNat,
  ⟨1,l,by congr 1,Ω,.inr rfl,.refl _,λp q x y h1 S=>Ω,ae.refl _ _,h⟩,?_⟩
 rintro _ J ⟨i,m,rfl,an,ao,z,I,K,hm⟩;have W:=z.length_eq;simp only[aQ,aj];refine⟨λX=>?_,λau=>?_⟩
 .have X:i<l.length:=Ω
  refine⟨λt U=>∃(j:Nat)(m:Λ),t=Δ j/\j<=i/\m.Perm l/\oW m i j/\ae (λr=>r=g) w U/\aq .i64 ah U g sv m,λt _=>(bS t).toNat,⟨i,m,rfl,p8 _,z,JY I,K,hm⟩,?_⟩;rintro _ U ⟨j,m,rfl,Y,z,E,L,hm⟩;have W:=z.length_eq;refine aT (λv M=>Ext U M/\∃c,v= .bool c/\(c=true->0<j/\∃a b,m[j-1]?=σ a/\m[j]?=σ b/\b<a)/\(c=false->j=0\/0<j/\∃a b,m[j-1]?=σ a/\m[j]?=σ b/\a<=b)) ?_ ?_
  .rintro _ M ⟨B,c,rfl,Z,aa⟩;rw[b7];refine⟨λh=>?_,λh=>?_⟩
   .obtain⟨A,a,b,f,s,G⟩:=Z h;intro av N _ _;have C:=(hm.ext B).ext N;have e:X7.wrap ((j:Int)-1)=((j-1:Nat):Int):=by rw[wrap_i64 Ω Ω];omega
    simp only[dD,e];rw[be ap.u ah.i Ψ C.ls f,be ap.u ah.i Ψ C.ls s,ic rfl ap.u ah.i C Ω];refine ie ah.i C Ω λab ac aw O=>⟨.inr ⟨by have:=Mc (P:=x7) (w:=ab) (t:=ah) (cx:=false) (cy:=true) (k:=.i64) (a:=(j:Int)) (b:=1);rwa [e]at this,trivial⟩,?_⟩;rw[ic rfl ap.u ah.i O Θ];refine ie ah.i O Θ λay ad aA af=>?_;refine⟨⟨j-1,_,rfl,Ω,(swap_perm Ω f s).trans z,J1 E A Y f s G,((L.trans ((B.trans N).V _)).trans ac).trans ad,af⟩,?_⟩;simp only[bS];omega
   .simp only[aP];rw[wrap_i64 Ω Ω];refine⟨⟨i+1,m,rfl,Ω,.inl Ω,z,?_,L.trans (B.V _),hm.ext B⟩,?_⟩
    .rcases aa h with rfl|⟨A,a,b,f,s,G⟩
     .exact JZ E
     .exact J0 E A f s G
    .simp only[bS];omega
  .intro ax Q aB H _ _;have R:=hm.ext H;simp only[bP,aj];refine⟨λA=>?_,λA=>Q _ _ ⟨H,false,rfl,(λh=>by cases h),λ_=>.inl Ω⟩⟩;have e:X7.wrap ((j:Int)-1)=((j-1:Nat):Int):=by rw[wrap_i64 Ω Ω];omega
   obtain⟨b,s⟩:=aF (l:=m) (i:=j) Ω;obtain⟨a,f⟩:=aF (l:=m) (i:=j-1) Ω;rw[be ap.u ah.i Ψ R.ls s];simp only[dD,e];rw[be ap.u ah.i Ψ R.ls f];refine Mb.mono ?_;rintro _ aC _ ⟨rfl,ag⟩;refine Q _ _ ⟨H.trans ag,_,rfl,λh=>⟨Ω,a,b,f,s,by simpa using h⟩,λh=>.inr ⟨Ω,a,b,f,s,by simpa using h⟩⟩
 .refine⟨K,m,z,J2 λp q x y h1 S ak al=>I p q x y h1 Ω ak al,hm⟩
theorem Me{P:W9}{t:r9}{k:o4}{s:ByteArray}{i:Nat}{K:x1->Prop}(a:P.underlying t=σ .string)(hi:i<s.size)(e:∀b:Nat,b<256->K (.int .u8 b)):
  aa P (Instr.index t (.string s) (.int k (i:Int))) w K:=by
 have f:s[i]?=σ s[i]:=by simp[hi]
 have:aa P (Instr.index t (.string s) (.int k (i:Int))) w K=K (.int .u8 s[i].toNat):=aa.of λw' _=>by
  simp[Instr.index,asIntOf,run_underlying a,hi]
 rw[this];exact e _ (UInt8.toNat_lt _)
theorem Mf(a:n<256):ai x7 H8 [.int .u64 (n:Int)] w λv w'=>(∃r,v=Δ r)/\Ext w w':=by
 refine az func234 ?_;refine ai.mono (K:=λv w'=>(∃r,v=Δ r)/\Ext w w') ?_ (λ_ _ _ h=>h);refine az func270 ?_;simp only[ck,cI,aj];refine⟨λh=>Ω,λ_=>⟨λh=>Ω,λ_=>⟨λh=>Ω,λ_=>?_⟩⟩⟩;rw[fl fj.u cD.u,wrap_u8 Ω Ω];refine Me cZ.u (by exact T7 a Φ) λb e=>?_;rw[fl cD.u ah.u];simp only[aP];exact⟨⟨_,rfl⟩,Ext.refl _⟩
theorem Mg{g:Nat}(h:aq .i64 ah w g sv l)(f:l.length<=12):
  ai x7 Im [sv] w λ_ w'=>ae (λr=>r=g) w w'/\∃m,m.Perm l/\m.Pairwise (·<= ·)/\aq .i64 ah w' g sv m:=by
 refine az func256 ?_;rw[aW ap.u h.ls,fl ah.u oH.u,wrap_u64 Ω Ω];refine(Mf (n:=l.length) Ω).mono ?_;rintro _ J _ ⟨⟨r,rfl⟩,e⟩;refine ai.mono (K:=λ_ w'=>ae (λr=>r=g) J w'/\∃m,m.Perm l/\m.Pairwise (·<= ·)/\aq .i64 ah w' g sv m) ?_ (λ_ _ _ h=>⟨(e.V _).trans h.1,h.2⟩);refine az func281 ?_;refine⟨λa b _ _ _ U=>a=Δ 0/\b=Δ l.length/\J=U,λ_ _ _ _ _ _=>0,⟨rfl,rfl,rfl⟩,?_⟩;rintro _ _ _ _ _ _ ⟨rfl,rfl,rfl⟩;simp only[dD,mp,aj];rw[wrap_i64 Ω Ω];refine⟨λ_=>?_,λh=>Ω⟩;refine(Md (h.ext e) Ω).mono ?_;exact λ_ _ _ h=>h
theorem Mh{f:Q1}{cap:Array x1}{j:Nat->List x1->x3->Prop}{e:x3->Prop}{L:Λ}(p:nf x7 f cap.toList n j e)(q:∀k vs w,j k vs w->∃x,L[k]?=σ x/\vs=[Δ x])(he:∀a b,ae (λr=>w.heap.size<=r) a b->e a->e b)(s:e w)(y:n=L.length)(z:L.length<=12):
  ai x7 zc [.func (.func f) #[] cap] w λv w'=>Ext w w'/\∃g m,w.heap.size<=g/\m.Perm L/\m.Pairwise (·<= ·)/\aq .i64 ah w' g v m:=by
 refine az func222 ?_;refine(Cb p q he s y Ω).mono ?_;rintro v J _ ⟨A,g,B,C⟩;refine(Mg C z).mono ?_;rintro _ U _ ⟨E,m,h1,G,H⟩;exact⟨A.then E (by rintro r I rfl;omega),g,m,B,h1,G,H⟩
theorem Cc{x:Int}(h:aH .i64 w sv l):
  ai x7 ze [sv,Δ x] w λv w'=>Ext w w'/\∃r:Int,v=Δ r/\∀i:Nat,l[i]?=σ x->(r=i↔ ∀j,j<i->l[j]? ≠σ x):=by
 refine az func224 ?_;rw[aW ap.u h];refine cd.range l.length (λi _ J=>Ext w J/\∀j,j<i->l[j]? ≠σ x) h.le ⟨Ext.refl _,λj p=>Ω⟩ ?_ ?_
 .rintro i _ J k hi ⟨a,e⟩ hk;simp only[aQ,aj];refine⟨λ_=>?_,λh=>Ω⟩;obtain⟨y,f⟩:=aF (l:=l) hi;rw[be ap.u ah.i Ψ (h.ext a) f];simp only[bd,aj,aP];refine⟨λhe=>⟨a,i,rfl,λq s=>?_⟩,λhe=>hk _ _ ⟨a,λj p=>?_⟩⟩
  .subst he;refine⟨λB=>by
              have:i=q:=Ω
              subst this;exact e,λz=>?_⟩
   rcases Nat.lt_trichotomy i q with h1|h1|h1
   .exact absurd f (z i h1)
   .omega
   .exact absurd s (e q h1)
  .by_cases A:j=i
   .subst A;rw[f];intro h;exact he (Z2 h).symm
   .exact e j Ω
 .rintro _ J k ⟨a,e⟩;simp only[aQ,aj];refine⟨λh=>Ω,λ_=>⟨a,-1,rfl,λi hi=>?_⟩⟩;exact absurd hi (e i (x4.1 hi).1)
theorem Mi{g:Nat}{w0:x3}(p:ad w0 g ap [sv])(e:aH .i64 w0 sv l):
  nf x7 oF [Γ g] l.length (λk vs _=>∃x,l[k]?=σ x/\vs=[Δ x]) (λw=>Ext w0 w):=by
 refine⟨oF.enters,λy ax B w C _ q a r=>?_⟩;refine oK func257 ?_;rw[aB Ψ ((p.ext a).Qz rfl),aW ap.u (e.ext a)];refine bZ.range l.length (λi U=>ax i U/\Ext w0 U) e.le ⟨r,a⟩ ?_ ?_
 .rintro i U k hi ⟨f,j⟩ hk;simp only[aQ,aj];refine⟨λ_=>?_,λh=>Ω⟩;obtain⟨x,a⟩:=aF (l:=l) hi;rw[be ap.u ah.i Ψ (e.ext j) a];refine⟨rfl,(q i _ U hi j ⟨x,a,rfl⟩ f).mono ?_⟩;rintro _ E (⟨rfl,s,z⟩|⟨rfl,A⟩)
  .simp only[bC,Y6,aU,aP];exact hk _ ⟨z.1,s⟩
  .simp only[bC,W5,bL];exact .inr ⟨i,hi,A⟩
 .rintro U k ⟨f,_⟩;simp only[aQ,aj];exact⟨λh=>Ω,λ_=>.inl f⟩
theorem vU(h:aH .i64 w sv l)(j:l.length<=12)(p:∀v w' g m,Ext w w'->w.heap.size<=g->m.Perm l->m.Pairwise (·<= ·)->aq .i64 ah w' g v m->K v w'):
  ai x7 zd [sv] w λt J=>ai x7 zc [t] J K:=by
 refine L9.mono ?_;rintro _ J _ ⟨f,g,rfl,B,e⟩;have e:ad J g ap [sv]:=by rw[h.cells.1]at e;exact e
 refine(Mh (Mi e (h.ext f)) (λ_ _ _ h=>h) (λa b q s=>s.then q (λr C h=>Ω)) (Ext.refl _) rfl j).mono ?_;rintro v U _ ⟨x,y,m,E,h1,z,A⟩;have:=f.size;exact p v U y m (f.trans x) Ω h1 z A
def Mj(w:x3)(ag:Λ)(k:Int)(cs a:Λ)(v:x1)(w':x3):Prop:=
 Ext w w'/\
  (¬Good a ag.length->v= .tuple #[.pointer ν,Δ 1])/\
  (Good a ag.length->∃e f h,v= .tuple #[Γ e,Δ 0]/\c8 w' e f h (eo ag a) k (nN ag cs a))
theorem Mk{g bG:Nat}{Z:x1}{cs z:Λ}(h:c8 w g bG sv ag k cs)(hk:right k)(Q:aH .i64 w Z z)(cp:z.length<=12)(cq:Good z ag.length->aK (eo ag z)<=4096):
  ai x7 H1 [Γ g,Z] w (Mj w ag k cs z):=by
 have az:=h;have cr:=h.2.2.1;have ct:=Q.cells;refine hU func225 ?_;refine bj λg1 J dd bK C=>?_;refine bj λbL U de a2 A=>?_;have s1:=bK.size;have df:=a2.size;have dg:=C.lt;have dh:=A.lt;have a6:=bK.trans a2;have C:ad U g1 eT [Γ g]:=C.ext a2;have A:ad U bL ap [Z]:=by rw[ct.1]at A;exact A
 rw[aB Ψ (C.Qz rfl),cP eT.u];simp only[j9,aU];rw[aB Ψ (A.Qz rfl)];have cu:=Q.ext a6;have sub:∀{w:x3}{g:Nat}{sv:x1}{k:Int}{aV:x1},ad w g cU [sv,Δ k,aV]->w.rangeAt g (0+0) [sv]:=λL=>nF L (by
  intro j v a7
  match j,a7 with
  |0,a7=>exact a7)
 refine vU cu cp λcV cw cQ m bM di a8 cz hm=>?_;have cA:=a8.length_eq;rw[aW ap.u hm.ls];have cB:=a6.trans bM;refine nb.range m.length (λi _ _ ba=>Ext cw ba/\∀j,j<i->m[j]?=σ (j:Int)) Ω ⟨Ext.refl _,λj bb=>Ω⟩ ?_ ?_
 .rintro i _ _ ba aa hi ⟨ab,bc⟩ ac;simp only[aQ,aj];refine⟨λ_=>?_,λh=>Ω⟩;obtain⟨y,af⟩:=aF (l:=m) hi;rw[be ap.u ah.i Ψ (hm.ls.ext ab) af];simp only[bI,aj,aP];refine⟨λak dj cC _=>⟨(cB.trans ab).trans cC,λ_=>rfl,λbd=>?_⟩,λhe=>ac _ _ _ ⟨ab,λj bb=>?_⟩⟩
  .have:=AB bd a8 cz i hi;rw[af]at this;exact absurd (Z2 this).symm ak
  .by_cases cD:j=i
   .subst cD;rw[af];congr 1;omega
   .exact bc j Ω
 .rintro _ _ ba aa ⟨ab,bc⟩;simp only[aQ,aj,ev];refine⟨λh=>Ω,λ_ dk cE _ _=>?_⟩;have E:Good z m.length:=J3 bc a8;have am:=(bM.trans ab).trans cE;have aA:=a6.trans am;have C:=C.ext am;have A:=A.ext am;have cF:=Q.ext aA;have cG:=az.ext aA;have dl:=am.size;obtain⟨⟨aV,gs,L,aC,bN⟩,_⟩:=id cG;rw[aB Ψ (A.Qz rfl),aW ap.u cF,aB Ψ (C.Qz rfl),bJ,aR cU.p rfl,bH (cs:=[sv]) bu.p bu.i rfl (sub L)];refine(A1 aC.ls).mono ?_;rintro _ aD _ ⟨rfl,M⟩;refine⟨.inl M,?_⟩;simp only[bI,aj];refine⟨λak dm cH _=>⟨(aA.trans M).trans cH,λ_=>rfl,λbd=>absurd (by rw[bd.1]) ak⟩,λdn=>?_⟩;have bf:z.length=ag.length:=Ω
  have E:Good z ag.length:=by rw[<-bf,<-cA];exact E
  have dp:=am.trans M;have bg:=aA.trans M;have C:=C.ext M;have A:=A.ext M;have bO:=Q.ext bg;rw[aB Ψ (A.Qz rfl),aW ap.u bO];refine kk ap.u ah.i Ω Ω λgz bP dq R bQ=>?_;have cI:aq .i64 ah bP gz (.slice (σ ⟨gz,0,ν⟩) z.length z.length) (p9 z.length 0):=aq.of (n:=z.length) (bW.full bQ Ξ (by simp[maxLen];omega));generalize (x1.slice (σ ⟨gz,0,ν⟩) z.length z.length)=cK at*;have dr:=M.size;have ds:=R.size;have dt:=bQ.lt;rw[aB Ψ ((A.ext R).Qz rfl),aW ap.u (bO.ext R)];have bR:=bg.trans R;have aE:(eo ag z).length=z.length:=si _ _;refine bZ.range z.length (λi H=>ae (λr=>r=gz) bP H/\aq .i64 ah H gz cK (upto (eo ag z) 0 i)) Ω ⟨ae.refl _ _,by rw[p5,aE];exact cI⟩ ?_ ?_
  .rintro i H aa hi ⟨O,aI⟩ ac;simp only[aQ,aj];refine⟨λ_=>?_,λh=>Ω⟩;have an:Ext w H:=bR.then O (by rintro r P rfl;omega);have aJ:Ext aD H:=R.then O (by rintro r P rfl;omega);obtain⟨p,bh⟩:=aF (l:=z) hi;obtain⟨⟨aV,gs,L,aC,bN⟩,_⟩:=az.ext an;rw[be ap.u ah.i Ψ (Q.ext an) bh,aB Ψ ((C.ext aJ).Qz rfl),bJ,aR cU.p rfl,bH (cs:=[sv]) bu.p bu.i rfl (sub L)];refine(qg aC.ls).mono ?_;rintro _ du _ ⟨rfl,bS⟩;have bT:=aI.ext bS;have cL:(upto (eo ag z) 0 i).length=z.length:=by rw[p4,aE]
   rw[ic rfl ap.u ah.i bT Ω];refine ie ah.i bT Ω λdv cM _ bU=>?_;simp only[aP];have h1:=(E.2 i p bh).1;have ao:(eo ag z)[i]?=σ (h0 ag p):=by
    unfold eo h0;rw[x8,bh,if_pos h1.1];rfl
   rw[p7 ao]at bU;exact ac _ ⟨(O.trans (bS.V _)).trans cM,bU⟩
  .rintro H aa ⟨O,aI⟩;simp only[aQ,aj];refine⟨λh=>Ω,λ_=>?_⟩;have an:Ext w H:=bR.then O (by rintro r P rfl;omega);have aJ:Ext aD H:=R.then O (by rintro r P rfl;omega);rw[<-aE,p6]at aI;obtain⟨⟨aV,gs,L,aC,bN⟩,_⟩:=az.ext an;rw[aB Ψ ((C.ext aJ).Qz rfl),aG cU.p 1 L rfl];have aL:b1 (eo ag z):=cr.J5 E rfl;have bV:=cq E;have dw:=prod_bound aL;refine(va aI.ls).mono ?_;rintro _ bi _ ⟨bX,_,_,_,cN⟩;obtain⟨av,I,W,rfl,dx,dy,dz,aN⟩:=cN aL bV ⟨hk,Ω,by have:=hk.1;omega⟩;obtain⟨N,aO⟩:∃N:Nat,(aK (eo ag z)).toNat=N:=⟨_,rfl⟩;rw[aO]at aN;rw[br,bt];refine bz eT.i λbY dA dC b0 aw=>?_;refine bk eT.i rfl rfl aw (by simp[x1.cells]) λcO cR dD aw=>?_;have dE:=O.size;have dF:=bX.size;have dG:=b0.size;have bl:Ext bi cO:=b0.then cR (by rintro r P rfl;omega);have b2:=bX.trans bl;have cS:=aN.ext bl;have dH:=aw.lt;obtain⟨⟨bm,b3,b4,b5,cT⟩,⟨b6,b7,_⟩,_,dI⟩:=id cS;have dJ:0<N:=Ω
   have dK:av<bi.heap.size:=by obtain⟨⟨_,_,q,_⟩,_⟩:=id aN;exact q.lt
   have dL:I<bi.heap.size:=by obtain⟨⟨_,_,_,_,q⟩,_⟩:=id aN;exact sS q Θ
   rw[aB Ψ (aw.Qz rfl),bJ,aR cU.p rfl,bH (cs:=[W]) bu.p bu.i rfl (sub b4)];refine sz.mono ?_;rintro _ G _ ⟨K,aS,rfl,dM,b8⟩;have dN:=bl.size;have dO:=K.size;let S:Nat->Prop:=λr=>r=I;let X:=nN ag cs z;have bp:X.length=N:=by simp only[X];rw[AH,aO]
   let cW:x3->Prop:=λw'=>ad w' g1 eT [Γ g]/\ad w' bL ap [Z]/\ad w' bY eT [Γ av]/\ad w' av cU [W,Δ k,bm]/\
    c8 w' g bG sv ag k cs/\aH .i64 w' Z z/\aq .i64 ah w' b3 W (eo ag z)/\ad w' aS bu [W]/\G.heap.size<=w'.heap.size
   have facts:∀{a:x3},ae S G a->cW a:=by
    intro a B;have bq:Ext aD G:=(aJ.trans b2).trans K;have bw:Ext aD a:=bq.put B Ω;have b9:Ext w a:=bg.trans bw;refine⟨C.ext bw,A.ext bw,(aw.ext K).V B (by show¬(bY=I);omega),(b4.ext K).V B (by show¬(av=I);exact b6),az.ext b9,Q.ext b9,bo (b5.ext K) B (λr P he=>b7 ((show r=I from he)▸P)),
     b8.V B (by show¬(aS=I);omega),B.size⟩
   have ca:=sy (g:=aS) (B0:=G.heap.size) (sv:=W) aL;rw[aO]at ca;refine mg.old ⟨Nat,false,kQ,#[Γ aS],0,_,_,_,λq w'=>ae S G w'/\aq .i64 al w' I bm (upto X 0 q),λ_ _ _=>False,rfl,ca.s,
    ?_,λ_ _ B h=>⟨h.1.ext B,h.2.1.ext B,Y5 h.2.2 B.size⟩,λ_ _ _ B h=>⟨h.1.trans (B.V S),h.2.ext B⟩,λ_ _ _ _ _ h=>h,⟨b8,(b5.ext K).ls,p8 _⟩,⟨ae.refl _ _,?_⟩,?_,?_,λ_ _ h=>h.elim,λ_ _ _ h=>h.elim⟩
   .rintro _ _ _ _ ⟨_,_,_,_,rfl,_⟩;rfl
   .rw[p5,bp];exact cT.ext K
   .rintro _ aM q _ dP ⟨_,_,dQ⟩ ⟨ao,rfl,dR,gt,cX,dS,cY⟩ ⟨aT,cZ⟩;cases cX;let x:=cJ (eo ag z) (q:Int);have cb:x.length=z.length:=by simp only[x];rw[jn,aE]
    intro c0 Y _ _;have cc:=cY.ext Y;rw[aW ap.u cc.ls];refine kk ap.u ah.i (by rw[jn];omega) (by rw[jn];omega) λgo cd dT bx ce=>?_;have c1:aq .i64 ah cd go (.slice (σ ⟨go,0,ν⟩) (cJ (eo ag z) (q:Int)).length (cJ (eo ag z) (q:Int)).length) (p9 (cJ (eo ag z) (q:Int)).length 0):=aq.of (n:=(cJ (eo ag z) (q:Int)).length) (bW.full ce Ξ (by rw[jn];simp[maxLen];omega));generalize (x1.slice (σ ⟨go,0,ν⟩) (cJ (eo ag z) (q:Int)).length (cJ (eo ag z) (q:Int)).length)=c2 at*;have dU:=aT.size;have dV:=Y.size;have dW:=bx.size;have lo:=ce.lt;have c3:ae S G cd:=aT.trans ((Y.trans bx).V S);have f:=facts c3;rw[aB Ψ (f.2.1.Qz rfl),aW ap.u f.2.2.2.2.2.1];refine bZ.range z.length (λj aX=>Ext c0 aX/\∃y:Λ,y.length=z.length/\aq .i64 ah aX go c2 y/\∀(i:Nat)(p:Int),i<j->z[i]?=σ p->y[p.toNat]?=x[i]?) Ω
     ⟨bx,_,by simp[cb,x],c1,λi p hi=>Ω⟩ ?_ ?_
    .rintro j aX aa bb ⟨ax,y,bA,aY,bB⟩ ac;simp only[aQ,aj];refine⟨λ_=>?_,λh=>Ω⟩;have f:=facts (aT.trans ((Y.trans ax).V S));obtain⟨p,aZ⟩:=aF (l:=z) bb;obtain⟨u,hu⟩:=aF (l:=x) (i:=j) Ω;have dX:=(E.2 j p aZ).1;rw[be ap.u ah.i Ψ f.2.2.2.2.2.1 aZ,be ap.u ah.i Ψ (cc.ext ax).ls hu,ic (i:=p.toNat) Ω ap.u ah.i aY Ω];refine ie ah.i aY Ω λdY c4 dZ c5=>?_;simp only[aP];refine ac _ ⟨ax.then c4 (by rintro r P rfl;omega),_,by simpa using bA,c5,λi a1 hi ay=>?_⟩;by_cases cg:i=j
     .subst cg;rw[aZ]at ay;cases ay;rw[Z0 Ω,hu]
     .have ea:=(E.2 i a1 ay).1;have ak:p.toNat≠a1.toNat:=λhe=>by
       have:p=a1:=Ω
       subst this;exact cg (E.inj ay aZ)
      rw[Y8 ak];exact bB i a1 Ω ay
    .rintro aX aa ⟨ax,y,bA,aY,bB⟩;simp only[aQ,aj];refine⟨λh=>Ω,λ_ c6 ch _ _=>?_⟩;have af:y=lV z x:=AF E (by rw[cb,bf]) (by rw[bA,bf]) λi p ci=>bB i p (x4.1 ci).1 ci;have cj:=ax.trans ch;have ck:ae S G c6:=aT.trans ((Y.trans cj).V S);obtain⟨f1,f2,f3,f4,f5,f6,f7,f8,f9⟩:=facts ck;rw[aB Ψ (f3.Qz rfl),aG cU.p 2 f4 rfl,aB Ψ (f1.Qz rfl)];refine(vb f5 (aY.ls.ext ch)).mono ?_;rintro _ eb _ ⟨rfl,bC⟩;refine⟨.inl bC,?_⟩;obtain⟨e,he⟩:=vT ag y cs;rw[he,br,bt];have c7:=ck.trans (bC.V S);have cl:=(cZ.ext ((Y.trans cj).trans bC));have cL:(upto X 0 q).length=N:=by rw[p4,bp]
     rw[ic rfl au.u al.i cl Ω];refine ie al.i cl Ω λc9 da ec cm=>?_;have cn:ae S G c9:=c7.trans (da.mono λr _ h=>h);obtain⟨f1,f2,f3,f4,f5,f6,f7,f8,f9⟩:=facts cn;have db:X[q]?=σ (bn ag cs y):=by
      simp only[X,nN];rw[x8,List.getElem?_range (by rw[aO];exact ao),af];rfl
     rw[p7 db]at cm;exact⟨⟨f8,f7.ls,f9⟩,⟨cn,cm⟩,λh=>by cases h⟩
   .rintro q ed ao ⟨bD,bE⟩;rw[show q=N from ao]at bE;have f:=facts bD;rw[aB Ψ (f.2.2.1.Qz rfl)];intro ee bF _;obtain⟨f1,f2,f3,f4,f5,f6,f7,f8,f9⟩:=facts (bD.trans (bF.V S));rw[<-bp,p6]at bE;have bq:Ext w G:=(an.trans b2).trans K;refine⟨(bq.put bD Ω).trans bF,λdc=>absurd E dc,λ_=>⟨av,I,W,rfl,⟨bm,b3,f4,f7,bE.ext bF⟩,⟨b6,b7,bV⟩,aL,AH _ _ _⟩⟩
def hd(l:Λ):Prop:=∀(i j:Nat)(x y:Int),i<j->l[i]?=σ x->l[j]?=σ y->x<y
theorem hd.inj(h:hd l){i:Nat}{x:Int}(hi:l[i]?=σ x)(a:l[j]?=σ x):i=j:=by
 rcases Nat.lt_trichotomy i j with h1|h1|h1
 .have:=h i j x x h1 hi a;omega
 .exact h1
 .have:=h j i x x h1 a hi;omega
def dedup(l:Λ):Nat->Λ
 |0=>[]
 |j+1=>if 0<j/\l[j]?=l[j-1]? then dedup l j else dedup l j++[l.getD j 0]
theorem Cd(l:Λ):∀j,(dedup l j).length<=j
 |0=>p8 _
 |j+1=>by
  have:=Cd l j;unfold dedup;split
  .omega
  .simp;omega
theorem vV(a:0<j)(h:l[j]?=l[j-1]?):dedup l (j+1)=dedup l j:=by
 rw[dedup,if_pos ⟨a,h⟩]
theorem vW{x:Int}(e:l[j]?=σ x)(h:0<j->l[j]? ≠l[j-1]?):dedup l (j+1)=dedup l j++[x]:=by
 rw[dedup,if_neg (λa=>h a.1 a.2),v8,e];rfl
theorem sX{l:Λ}:∀{j:Nat},j<=l.length->(∀i,i<j->0<i->l[i]? ≠l[i-1]?)->dedup l j=l.take j
 |0,_,_=>by simp[dedup]
 |j+1,f,h=>by
  have a:l[j]?=σ l[j]:=x6 Ω;rw[vW a (h j Ω),sX Ω (λi hi e=>h i Ω e),u7,a];rfl
theorem Ce{l:Λ}(I:l.Pairwise (·<= ·)):∀{j:Nat},j<=l.length->(hd (dedup l j)/\∀x,x∈dedup l j↔x∈l.take j)
 |0,_=>⟨λi j x y _ h=>by simp[dedup]at h,λx=>by simp[dedup]⟩
 |j+1,J=>by
  obtain⟨h1,q⟩:=Ce I (j:=j) Ω;have f:l[j]?=σ l[j]:=x6 Ω;by_cases p:0<j/\l[j]?=l[j-1]?
  .rw[vV p.1 p.2];refine⟨h1,λx=>?_⟩;rw[q,u7,f];simp only[o8,o9,l7];refine⟨.inl,λh=>h.elim id λhe=>?_⟩;subst he;have s:(l.take j)[j-1]?=σ l[j]:=by rw[Z9 Ω,<-p.2,f]
   exact x5 s
  .have w:0<j->l[j]? ≠l[j-1]?:=λB he=>p ⟨B,he⟩;rw[vW f w];have C:∀x∈dedup l j,x<l[j]:=λx E=>by
    obtain⟨i,hi,he⟩:=List.getElem_of_mem ((q x).1 E);have K:i<j:=by rw[o7]at hi;omega
    rw[List.getElem_take]at he;subst he;have s:l[i]<=l[j-1]:=by
     by_cases z:i=j-1
     .subst z;exact Int.le_refl _
     .exact V9.1 I i (j-1) Ω Ω Ω
    have z:=V9.1 I (j-1) j Ω Ω Ω;have A:=w Ω;rw[f,x6 (show j-1<l.length by omega)]at A;have L:l[j]≠l[j-1]:=λh=>A (by rw[h]);omega
   refine⟨λa b x y F r e=>?_,λx=>?_⟩
   .have G:=(x4.1 e).1;simp only[r8,c9,List.length_nil]at G;rw[Y1 Ω]at r;by_cases H:b=(dedup l j).length
    .subst H;rw[Y2 (p8 _),U2]at e;simp at e;subst e;exact C x (x5 r)
    .rw[Y1 Ω]at e;exact h1 a b x y F r e
   .rw[u7,f];simp only[o8,o9,l7,q]
def qz(l:Λ):Prop:=∀(j:Nat)(x:Int),l[j]?=σ x->0<=x/\(0<j->∀y,l[j-1]?=σ y->y<x)
theorem qz.up(h:qz l):hd l:=by
 intro i j x y r f;induction j generalizing y with
 |zero=>omega
 |succ j p=>
  intro e;have s:=(x4.1 e).1;obtain⟨z,a⟩:∃z,l[j]?=σ z:=⟨_,x6 (show j<l.length by omega)⟩;have h1:=(h (j+1) y e).2 Ω z (by simpa using a);by_cases q:i=j
  .subst q;rw[f]at a;cases a;exact h1
  .have:=p z Ω a;omega
theorem Ml(h:hd l)(e:∀x∈l,0<=x):qz l:=λj x a=>⟨e x (x5 a),λp y f=>h (j-1) j y x Ω f a⟩
theorem Cf{g H:Nat}{cG:x1}{cs:Λ}(h:c8 w g H sv ag k cs)(a:aH .i64 w cG l):
  ai x7 H2 [Γ g,cG] w λv w'=>Ext w w'/\∃c,v= .bool c/\(c=true↔l.length=ag.length/\qz l):=by
 obtain⟨⟨aV,gs,I,hm,q⟩,_⟩:=h;have sub:w.rangeAt g (0+0) [sv]:=nF I (by
  intro j v r
  match j,r with
  |0,r=>exact r)
 refine az func226 ?_;rw[aW ap.u a,bJ,aR cU.p rfl,bH (cs:=[sv]) bu.p bu.i rfl sub];refine(A1 hm.ls).mono ?_;rintro _ J _ ⟨rfl,s⟩;simp only[bI,aj];refine⟨λK=>⟨s,false,rfl,(λh=>by cases h),λh=>absurd (by rw[h.1]) K⟩,λE=>?_⟩;have E:l.length=ag.length:=Ω
 rw[aW ap.u (a.ext s)];refine cd.range l.length (λi _ U=>Ext w U/\∀(j:Nat)(x:Int),j<i->l[j]?=σ x->0<=x/\(0<j->∀y,l[j-1]?=σ y->y<x)) a.le ⟨s,λj x L=>Ω⟩ ?_ ?_
 .rintro i _ U M hi ⟨e,z⟩ N;simp only[aQ,aj];refine⟨λ_=>?_,λh=>Ω⟩;obtain⟨x,f⟩:=aF (l:=l) hi;have V:=a.le;rw[be ap.u ah.i Ψ (a.ext e) f];refine aT (λv O=>U=O/\∃c,v= .bool c/\(c=false↔0<=x/\(0<i->∀y,l[i-1]?=σ y->y<x))) ?_ ?_
  .rintro _ _ ⟨rfl,c,rfl,q⟩;rw[b7];simp only[aP];refine⟨λP=>⟨e,false,rfl,(λh=>by cases h),λh=>?_⟩,λQ=>N _ _ ⟨e,λj R L A=>?_⟩⟩
   .have:=q.2 (h.2 i x f);rw[P]at this;cases this
   .by_cases S:j=i
    .subst S;rw[f]at A;cases A;exact q.1 Q
    .exact z j R Ω A
  .intro ax B;simp only[aQ,bP,dD,aj];refine⟨λW=>B _ _ ⟨rfl,true,rfl,(λh=>by cases h),λh=>Ω⟩,λX=>⟨λY=>?_,λZ=>B _ _ ⟨rfl,false,rfl,λ_=>⟨Ω,λh=>Ω⟩,λ_=>rfl⟩⟩⟩;obtain⟨y,C⟩:∃y,l[i-1]?=σ y:=⟨_,x6 (show i-1<l.length by omega)⟩;rw[wrap_i64 Ω Ω,gl (i:=i-1) Ω ap.u ah.i Ψ (a.ext e) C];simp only[cI];refine B _ _ ⟨rfl,_,rfl,?_⟩;rw[decide_eq_false_iff_not];refine⟨λh=>⟨Ω,λ_ aa G=>by rw[C]at G;cases G;omega⟩,λh=>by have:=h.2 Ω y C;omega⟩
 .rintro _ U M ⟨e,z⟩;simp only[aQ,aj];exact⟨λh=>Ω,λ_=>⟨e,true,rfl,λ_=>⟨E,λj x f=>z j x (x4.1 f).1 f⟩,λ_=>rfl⟩⟩
def hJ(l:Λ)(x:Int):Int:=if x∈l then(l.idxOf x:Int)else-1
theorem Cg{i:Nat}{x:Int}(h:hd l)(hi:l[i]?=σ x):hJ l x=i:=by
 have hm:x∈l:=x5 hi;have a:=List.idxOf_lt_length_of_mem hm;have e:l.idxOf x=i:=h.inj (by rw[x6 a,List.getElem_idxOf a]) hi;unfold hJ;rw[if_pos hm,e]
theorem Mm{x:Int}(h:x∉l):hJ l x= -1:=if_neg h
theorem vX{x:Int}(h:aH .i64 w sv l)(hu:hd l):
  ai x7 ze [sv,Δ x] w λv w'=>v=Δ (hJ l x)/\Ext w w':=by
 refine az func224 ?_;rw[aW ap.u h];refine cd.range l.length (λi _ J=>Ext w J/\∀j,j<i->l[j]? ≠σ x) h.le ⟨Ext.refl _,λj p=>Ω⟩ ?_ ?_
 .rintro i _ J k hi ⟨a,e⟩ hk;simp only[aQ,aj];refine⟨λ_=>?_,λh=>Ω⟩;obtain⟨y,f⟩:=aF (l:=l) hi;rw[be ap.u ah.i Ψ (h.ext a) f];simp only[bd,aj,aP];refine⟨λhe=>⟨?_,a⟩,λhe=>hk _ _ ⟨a,λj p=>?_⟩⟩
  .subst he;rw[Cg hu f]
  .by_cases q:j=i
   .subst q;rw[f];intro h;exact he (Z2 h).symm
   .exact e j Ω
 .rintro _ J k ⟨a,e⟩;simp only[aQ,aj];refine⟨λh=>Ω,λ_=>⟨?_,a⟩⟩;rw[Mm];intro hm;obtain⟨i,hi,he⟩:=List.getElem_of_mem hm;exact e i hi (by rw[x6 hi,he])
def e8(x vars scope:Λ):Λ:=scope.map λp=>x.getD (vars.idxOf p) 0
theorem Mn(x vars scope:Λ):(e8 x vars scope).length=scope.length:=by simp[e8]
theorem Ch{ec s:x1}{x vars:Λ}(C:aH .i64 w ec x)(E:aH .i64 w s vars)(I:aH .i64 w sv scope)(hu:hd vars)(G:∀p∈scope,p∈vars)(Q:x.length=vars.length)(R:scope.length<=1000):
  ai x7 H7 [ec,s,sv] w λv w'=>Ext w w'/\∃g,w.heap.size<=g/\aq .i64 ah w' g v (e8 x vars scope):=by
 refine az func231 ?_;rw[aW ap.u I];refine kk ap.u ah.i Ω Ω λgz J S y H=>?_;have K:aq .i64 ah J gz (.slice (σ ⟨gz,0,ν⟩) scope.length scope.length) (p9 scope.length 0):=aq.of (n:=scope.length) (bW.full H Ξ (by simp[maxLen];omega));generalize (x1.slice (σ ⟨gz,0,ν⟩) scope.length scope.length)=L at*;rw[aW ap.u (I.ext y)];have j:=Mn x vars scope;refine bZ.range scope.length (λi U=>Ext w U/\aq .i64 ah U gz L (upto (e8 x vars scope) 0 i)) Ω ⟨y,by rw[p5,j];exact K⟩ ?_ ?_
 .rintro i U M hi ⟨a,hm⟩ N;simp only[aQ,aj];refine⟨λ_=>?_,λh=>Ω⟩;obtain⟨p,q⟩:=aF (l:=scope) hi;have z:=G p (x5 q);have V:=List.idxOf_lt_length_of_mem z;rw[be ap.u ah.i Ψ (I.ext a) q];refine(vX (E.ext a) hu).mono ?_;rintro _ W _ ⟨rfl,f⟩;have e:hJ vars p=(vars.idxOf p:Int):=if_pos z;obtain⟨u,A⟩:∃u,x[vars.idxOf p]?=σ u:=⟨_,x6 Ω⟩;have X:(upto (e8 x vars scope) 0 i).length=scope.length:=by rw[p4,j]
  rw[gl (i:=vars.idxOf p) e ap.u ah.i Ψ (C.ext (a.trans f)) A,ic rfl ap.u ah.i (hm.ext f) Ω];refine ie ah.i (hm.ext f) Ω λY O _ B=>?_;simp only[aP];have P:(e8 x vars scope)[i]?=σ u:=by
   unfold e8;rw[x8,q,Z7,v8,A];rfl
  rw[p7 P]at B;exact N _ ⟨(a.trans f).then O (by rintro r Z rfl;omega),B⟩
 .rintro U M ⟨a,hm⟩;simp only[aQ,aj];refine⟨λh=>Ω,λ_=>⟨a,gz,Ω,?_⟩⟩;rw[<-j,p6]at hm;exact hm
theorem Ci(j:t≠[])(hw:∀b∈t,bM b=true):lex t=([t],true):=by
 cases t with
 |nil=>exact absurd rfl j
 |cons b q=>
  have a:q.dropWhile bM=[]:=by
   have:∀(q:Λ),(∀x∈q,bM x=true)->q.dropWhile bM=[]/\q.takeWhile bM=q:=λq a=>by
    induction q with
    |nil=>simp
    |cons x q e=>
     have:=e λy f=>a y (.tail _ f);simp[a x (.head _),this.1,this.2]
   exact(this q λx h=>hw x (.tail _ h)).1
  have p:q.takeWhile bM=q:=by
   have:∀(q:Λ),(∀x∈q,bM x=true)->q.takeWhile bM=q:=λq a=>by
    induction q with
    |nil=>simp
    |cons x q e=>simp[a x (.head _),e λy f=>a y (.tail _ f)]
   exact this q λx h=>hw x (.tail _ h)
  rw[zZ (hw b (.head _)),a,p]
theorem Cj{p:x1}(h:aH .u8 w p l)(e:Bytes l)(f:l.length<=100000):ai x7 yT [p] w λv w'=>Ext w w'/\∃g R,v=Γ g/\w.heap.size<=g/\hD w' g R (lex l).1 (lex l).2/\¬R g:=by
 refine(Ad h e f).mono ?_;rintro _ J _ ⟨j,g,rfl,q,s,a⟩;obtain⟨h1,z,A,x,bm,hm⟩:=id a;exact⟨j,g,λr=>r≠g,rfl,q,⟨s,l,0,a,λr y=>b4 hm x Φ y,by rw[List.drop_zero]⟩,λh=>h rfl⟩
theorem Mo{p:x1}(h:aH .u8 w p t)(y:Bytes t)(z:t.length<=100000)(A:t≠[])(hw:∀b∈t,bM b=true):ai x7 Ik [p] w λv w'=>Ext w w'/\∃n:Int,v= .tuple #[Δ 1,Δ n,Δ 0]:=by
 have B:=Ci A hw;refine az func253 ?_;refine(Cj h y z).mono ?_;rintro _ J _ ⟨C,g,R,rfl,G,j,H⟩;rw[B]at j;refine⟨λ_ _ _ a U=>ae (λr=>r=g) J U/\((a=Δ 0/\hD U g R [t] true)\/(a=Δ 1/\hD U g R [] true)),λ_ _ _ a _=>1-(bS a).toNat,⟨ae.refl _ _,.inl ⟨rfl,j⟩⟩,?_⟩;rintro _ _ _ _ U ⟨q,⟨rfl,e⟩|⟨rfl,e⟩⟩
 .refine (qc e).mono ?_;rintro v s _ ⟨f,E,n,rfl⟩;rw[gW,gX,gY,bd,aj];refine⟨λ_=>?_,λh=>absurd rfl h⟩;rw[aP,wrap_i64 Ω Ω];exact⟨⟨q.trans f,.inr ⟨rfl,E⟩⟩,by simp[bS]⟩
 .refine (qc e).mono ?_;rintro v s _ ⟨f,n,rfl⟩;rw[gW,gX,gY,bd,aj];refine⟨λh=>by simp at h,λ_=>?_⟩;rw[bd,aj];refine⟨λh=>by simp at h,λ_=>?_⟩;have x:Ext w s:=C.then (q.trans f) (λr I he=>by have he:r=g:=he;omega);rw[aW cH.u (h.ext x)];exact⟨x,_,rfl⟩
theorem Mp(a:Bytes t)(e:t.length<=100000)(f:t≠[])(hw:∀b∈t,bM b=true):ai x7 HX [bR t] w λv w'=>v= .bool true/\Ext w w':=by
 have y:=Ci f hw;refine az func217 ?_;refine vh cZ.u cH.u cD.u a Ω λbv J j z _=>?_;refine(Mo z a e f hw).mono ?_;rintro _ U _ ⟨p,n,rfl⟩;rw[gW,gX,gY];refine vh cZ.u cH.u cD.u a Ω λI K q A _=>?_;refine(Cj A a e).mono ?_;rintro _ L _ ⟨B,g,R,rfl,M,s,N⟩;rw[y]at s;refine(qc s).mono ?_;rintro _ x _ ⟨C,_,m,rfl⟩;rw[gW,gX,gY];have E:Ext w x:=(((j.trans p).trans (q.trans B))).then C (λr O he=>by
  have he:r=g:=he;have:=j.size;have:=p.size;have:=q.size;omega)
 refine aT (λv G=>x=G/\v= .bool true) ?_ ?_
 .rintro _ _ ⟨rfl,rfl⟩;exact⟨rfl,E⟩
 .intro ax H;rw[bd,aj];refine⟨λ_=>?_,λh=>absurd rfl h⟩;rw[bd,aj];refine⟨λ_=>?_,λh=>absurd rfl h⟩;rw[zV a a];exact H _ _ ⟨rfl,by rw[decide_eq_true rfl]⟩
theorem Mq{x:Int}:ai x7 uQ [Δ x] w λv w'=>v= .bool (decide (¬ib x))/\Ext w w':=by
 refine az func216 ?_;refine aT (λv J=>w=J/\v= .bool (decide (¬ib x))) ?_ ?_
 .rintro _ _ ⟨rfl,rfl⟩;exact⟨rfl,Ext.refl _⟩
 .intro ax e;rw[aQ,aj];refine⟨λh=>e _ _ ⟨rfl,by rw[decide_eq_true];intro a;have:=a.1;omega⟩,λh=>?_⟩;rw[bP];refine e _ _ ⟨rfl,?_⟩;congr 1;rw[U1,decide_eq_true_eq,decide_eq_true_eq];exact⟨λf a=>by have:=a.2;omega,λf=>by
   by_cases j:32<x
   .exact j
   .exact absurd ⟨Ω,Ω⟩ f⟩
theorem Mr(h:aH .i64 w sv l)(f:∀x∈l,ib x):
  ai x7 uP [sv,.func (.func uQ) #[] #[]] w λv w'=>v= .bool false/\Ext w w':=by
 refine az func214 ?_;refine ai.mono (K:=λv w'=>v=Δ (-1)/\Ext w w') ?_ ?_
 .refine az func138 ?_;rw[aW ap.u h];refine cd.range l.length (λ_ _ J=>Ext w J) h.le (Ext.refl _) ?_ ?_
  .rintro i _ J k hi a hk;refine bQ Ω ?_;obtain⟨x,e⟩:=aF (l:=l) hi;rw[be ap.u ah.i Ψ (h.ext a) e];show ai x7 uQ [Δ x] J _;refine Mq.mono ?_;rintro _ U _ ⟨rfl,j⟩;rw[aj];refine⟨λp=>absurd (f x (x5 e)) p,λ_=>?_⟩;rw[aP];exact hk _ _ (a.trans j)
  .rintro _ J k a;rw[aQ,aj];exact⟨λh=>Ω,λ_=>⟨rfl,a⟩⟩
 .rintro _ J _ ⟨rfl,a⟩;rw[cI];exact⟨rfl,a⟩
theorem sY{m:Bool}{S R:af}{d:hc}(h:an.rep m S R w cs d):∃sv g a aM gs,cs=[sv,Γ g]/\aH .i64 w sv d.1/\fH w g a aM gs d.2.ag d.2.k d.2.o d.2.D:=by
 obtain⟨c,e,A,B,rfl,_,_,_,h1,f⟩:=h;have h1:an.rep (α:=Λ) false bx R w c d.1:=h1;obtain⟨u,rfl⟩:=V1.1 (show c.length=1 from an.len h1);obtain⟨g,m,sv,gs,rfl,j,_⟩:=f;exact⟨u,g,m,sv,gs,rfl,ew h1,j⟩
theorem Ms{W:Nat}{f:b2}{d:hc}{x:cm}{m:Bool}{S R:af}(am:k8 w W f)(ao:fe N f)(aq:x∈f.funs)(au:qy f.k x d)(av:an.rep m S R w cs d):
  ai x7 Il [Γ W,.agg cs.toArray] w λv w'=>v= .bool true/\Ext w w':=by
 obtain⟨szv,aK,gz,aN,X,Y,_,_⟩:=am;obtain⟨sv,ac,aO,aM,gs,rfl,s,K⟩:=sY av;obtain⟨aw,Z,ay,aR,aS,aV⟩:=au;obtain⟨G,aX,aY⟩:=ao.funs x aq;rw[aw]at s;refine az func255 ?_;refine bj λak J aZ A H=>?_;have H:ad J ak cw [sv,Γ ac]:=by obtain⟨_,_,_,rfl⟩:=dg s;exact H
 refine aT (λv U=>Ext J U/\v= .bool false) ?_ ?_
 rotate_left
 .intro ax L;intro U q _ _;have z:=H.ext q;rw[aL cw.p 1 z rfl,cP eS.u];simp only[j9,aU];rw[aL cw.p 1 z rfl,aG cv.p 1 (X.ext (A.trans q)) rfl];refine(KG (K.ext (A.trans q)).is).mono ?_;rintro _ B _ ⟨rfl,a⟩;refine⟨.inl a,?_⟩;rw[bI,aj];refine⟨λh=>absurd ay h,λ_=>?_⟩;have C:=z.ext a;have M:=q.trans a;rw[aL cw.p 1 C rfl,aL cw.p 0 C rfl,aW ap.u (s.ext (A.trans M))];refine(KH (K.ext (A.trans M)).is).mono ?_;rintro _ I _ ⟨rfl,e⟩;refine⟨.inl e,?_⟩;rw[bI];refine L _ _ ⟨M.trans e,?_⟩;rw[decide_eq_false];intro h;exact h (by rw[Z,G.sizes,u9])
 rintro _ U ⟨q,rfl⟩;rw[aU];have z:=H.ext q;have O:=A.trans q;rw[aL cw.p 0 z rfl,aW ap.u (s.ext O)];refine cd.range x.scope.length (λ_ _ B=>Ext U B) Ω (Ext.refl _) ?_ ?_
 rotate_left
 .rintro _ B k a;rw[aQ,aj];exact⟨λh=>Ω,λ_=>⟨rfl,O.trans a⟩⟩
 rintro i _ B k hi a hk;obtain⟨v,E⟩:=aF (l:=x.scope) hi;have a1:=G.scope.2 v (x5 E);have P:=O.trans a;have C:=z.ext a;have aa:=X.ext P;have aA:f.sizes[v.toNat]?=σ (f.sizes.getD v.toNat 0):=by
  rw[v8,x6 Ω];rfl
 refine bQ Ω ?_;rw[be ap.u ah.i Ψ (s.ext P) E];refine aT (λb I=>Ext B I/\b= .bool false) ?_ ?_
 .rintro _ I ⟨e,rfl⟩;rw[aU,aP];exact hk _ _ (a.trans e)
 .intro ax L;intro I e _ _;have Q:=P.trans e;refine cn Ω ?_;rw[aG cv.p 2 (aa.ext e) rfl,aW ap.u (Y.ls.ext Q),cI,aj];refine⟨λh=>Ω,λ_=>?_⟩;rw[aL cw.p 0 (C.ext e) rfl];refine(Cc (s.ext Q)).mono ?_;rintro _ a2 _ ⟨ab,r,rfl,aC⟩;have aD:r=(i:Int):=(aC i E).2 λj a6 aE=>by have:=ku G.scope.1 aE E;omega
  subst aD;have ae:=Q.trans ab;have V:=e.trans ab;rw[bI,aj];refine⟨λh=>absurd rfl h,λ_=>?_⟩;rw[aL cw.p 1 (C.ext V) rfl,aG cv.p 2 (aa.ext V) rfl];refine pZ (y:=v) (i:=v.toNat) Ω ap.u ah.i (Y.ls.ext ae) aA λb o aH=>?_;rw[aB Ψ aH];refine(vC (K.ext ae).is).mono ?_;rintro a7 a8 _ ⟨al,ba,bb,aI⟩;refine⟨.inl al,?_⟩;have aJ:d.2.ag[i]?=σ (f.sizes.getD v.toNat 0):=by
   rw[Z,G.sizes,x8,E];rfl
  rw[be ap.u ah.i Ψ aI.ls aJ,bI];exact L _ _ ⟨V.trans al,by rw[decide_eq_false (λh=>h rfl)]⟩
theorem Mt{f:b2}{d:hc}{x:cm}{m:Bool}{S R:af}(q:k8 w j f)(r:fe N f)(s:x∈f.funs)(y:qy f.k x d)(a:an.rep m S R w cs d):
  ai x7 uR [Γ j,.agg cs.toArray] w λv w'=>v= .bool false/\Ext w w':=by
 refine az func219 ?_;refine bj λak J C e h=>?_;have z:cs.length=2:=an.len a;have h:ad J ak cw cs:=by
  obtain⟨sv,ac,E,aM,gs,rfl,A,G⟩:=sY a;obtain⟨_,_,_,rfl⟩:=dg A;exact h
 rw[bH cw.p cw.i z h.range];refine(Ms (q.ext e) r s y (bT a e)).mono ?_;rintro _ U _ ⟨rfl,B⟩;rw[bC];exact⟨rfl,e.trans B⟩
theorem Mu{f:b2}{r:x1}{e:List hc}{m:Bool}{S R:af}(A:k8 w j f)(B:fe N f)(q:an.rep m S R w [r] e)(s:sW f.k f.funs e):
  ai x7 HY [r,.func (.func uR) #[Γ j] #[]] w λv w'=>v= .bool false/\Ext w w':=by
 refine az func218 ?_;refine ai.mono (K:=λv w'=>v=Δ (-1)/\Ext w w') ?_ ?_
 .refine az func254 ?_;rw[jl dK.u q];refine cd.range e.length (λ_ _ J=>Ext w J) (rZ q) (Ext.refl _) ?_ ?_
  .rintro i _ J k hi a hk;refine bQ Ω ?_;obtain⟨d,y⟩:=aF (l:=e) hi;obtain⟨x,z⟩:∃x,f.funs[i]?=σ x:=⟨_,x6 (by have:=s.1;omega)⟩;refine nB (α:=hc) cw.p rfl dK.u cw.i (bT q a) y λcs C=>?_;show ai x7 uR [Γ j,.agg cs.toArray] J _;refine(Mt (A.ext a) B (x5 z) (s.2 i x d z y) C).mono ?_;rintro _ U _ ⟨rfl,E⟩;rw[aU,aP];exact hk _ _ (a.trans E)
  .rintro _ J k a;rw[aQ,aj];exact⟨λh=>Ω,λ_=>⟨rfl,a⟩⟩
 .rintro _ J _ ⟨rfl,a⟩;rw[cI];exact⟨rfl,a⟩
def lY(a:List cm):Nat:=(a.map λx=>x.lines.length).sum
theorem Mv{ae:Nat}{f:b2}(af:k8 w ae f)(r:fe N f)(bf:N<=60000)(V:f.name≠[]/\∀b∈f.name,bM b=true):
  ai x7 Hw [Γ ae] w λv w'=>Ext w w'/\∃e:Int,v=Δ e/\(lY f.funs<=16384->e=0):=by
 obtain⟨szv,bg,gz,y,A,W,X,B⟩:=id af;have bh:=r.name;have aC:Bytes f.name:=λb aD=>by
  have:=of_decide_eq_true (V.2 b aD);omega
 refine az func175 ?_;rw[cP uT.u];simp only[j9,aU];refine aT (λv J=>Ext w J/\v= .bool false) ?_ ?_
 rotate_left
 .intro ax s;rw[aG cv.p 0 A rfl];refine(Mp aC Ω V.1 V.2).mono ?_;rintro _ J _ ⟨rfl,q⟩;rw[bC,Y6,aU];rw[aG cv.p 2 (A.ext q) rfl,aW ap.u (W.ls.ext q),bd,aj];refine⟨λh=>by have:=r.sizes.1;omega,λ_=>?_⟩;rw[aG cv.p 2 (A.ext q) rfl];refine(Mr (W.ls.ext q) r.sizes.2.2).mono ?_;rintro _ U _ ⟨rfl,C⟩;have am:=q.trans C;rw[aU,aG cv.p 1 (A.ext am) rfl];refine zB.mono ?_;rintro _ E _ ⟨rfl,G⟩;have M:=am.trans G;rw[decide_eq_true (show right f.k from r.k),bC,Y6,aU,aG cv.p 3 (A.ext M) rfl,ki];refine(Mu (af.ext M) r (bT X M) B).mono ?_;rintro _ an _ ⟨rfl,aE⟩;exact s _ _ ⟨M.trans aE,rfl⟩
 rintro _ J ⟨q,rfl⟩;rw[aU];have O:=A.ext q;refine aT (λv U=>J=U/\v= .bool false) ?_ ?_
 rotate_left
 .intro ax s;rw[aG cv.p 0 O rfl,nJ cZ.u,bP,aj];refine⟨λh=>Ω,λ_=>?_⟩;rw[aG cv.p 2 O rfl,aW ap.u (W.ls.ext q),bP,aj];refine⟨λh=>by have:=r.sizes.2.1;omega,λ_=>?_⟩;rw[aG cv.p 3 O rfl,jl dK.u (bT X q),bP];exact s _ _ ⟨rfl,by rw[decide_eq_false];have:=r.k0;have:=B.1;omega⟩
 rintro _ _ ⟨rfl,rfl⟩;have ao:=bT X q;rw[aG cv.p 3 O rfl,jl dK.u ao];refine⟨λaH aI Y U=>∃i n:Nat,Y=Δ (i:Int)/\i<=y.length/\aH=Δ (n:Int)/\aI= .bool false/\Ext J U/\n<=lY (f.funs.take i)/\n<=i*60000,λ_ _ Y _=>y.length-(bS Y).toNat,
  ⟨0,0,rfl,X4 _,rfl,rfl,Ext.refl _,X4 _,Ω⟩,?_⟩
 rintro _ _ _ U ⟨i,n,rfl,hi,rfl,rfl,C,aJ,bi⟩;have bj:y.length<=256:=by rw[B.1];exact r.k0
 rw[aQ,aj];refine⟨λav=>?_,λbk=>?_⟩
 .have av:i<y.length:=Ω
  obtain⟨d,aw⟩:=aF (l:=y) av;obtain⟨x,Z⟩:∃x,f.funs[i]?=σ x:=⟨_,x6 (by have:=B.1;omega)⟩;have P:=B.2 i x d Z aw;obtain⟨Q,aK,aN⟩:=r.funs x (x5 Z);have bl:=Q.len;refine iA (λa b E=>Ext U E/\a=Δ ((n+d.2.D.length:Nat):Int)/\b= .bool false) ?_ ?_
  .rintro _ _ E ⟨G,rfl,rfl⟩;rw[aP,wrap_i64 Ω Ω];have aO:=P.2.2.2.2.1;refine⟨⟨i+1,n+d.2.D.length,rfl,Ω,rfl,rfl,C.trans G,?_,?_⟩,by simp only[bS];omega⟩
   .have e:lY (f.funs.take (i+1))=lY (f.funs.take i)+x.lines.length:=by
     unfold lY;rw[u7,Z,o8,Z4,List.sum_append,T4,List.map_nil,List.sum_cons,List.sum_nil,Nat.add_zero]
    omega
   .have:(i+1)*60000=i*60000+60000:=Ω
    have bm:d.2.D.length<=60000:=Ω
    omega
  .intro ax s;refine nB (α:=hc) cw.p rfl dK.u cw.i (bT ao C) aw λcs aR=>?_;obtain⟨sv,ac,bn,aM,gs,rfl,aS,ay⟩:=sY aR;refine bz cw.i λak E bo G aV=>?_;refine b6 (vs:=[sv,Γ ac]) cw.i rfl rfl (by intro v R;simp at R;rcases R with rfl|rfl<;>first|exact aS.cells.2|rfl) aV λan aX bp aA=>?_;have aa:Ext U an:=G.put aX Ω;rw[aL cw.p 1 aA rfl];refine(KF (ay.ext aa).is).mono ?_;rintro _ bq _ ⟨rfl,ab⟩;have aO:=P.2.2.2.2.1;rw[aP,wrap_i64 Ω Ω,aL cw.p 1 (aA.ext ab) rfl];refine(vC ((ay.ext aa).ext ab).is).mono ?_;rintro br ad _ ⟨aY,bt,bu,aB⟩;rw[aW ap.u aB.ls];have bw:d.2.ag.length<=6:=by rw[P.2.1,Q.sizes,u9];exact aK
   refine cd.range d.2.ag.length (λj out S=>Ext ad S/\∃gr,ad.heap.size<=gr/\aq .i64 al S gr out (d.2.ag.take j)) Ω ⟨Ext.refl _,ad.heap.size,p8 _,aq.nil _ _ _ _⟩ ?_ ?_
   .rintro j out S k aZ ⟨H,gr,a1,I⟩ hk;obtain⟨z,K⟩:=aF (l:=d.2.ag) aZ;refine bQ Ω ?_;rw[be ap.u ah.i Ψ (aB.ls.ext H) K];refine en au.u al.i rfl λa ga a2 bx L a6=>?_;refine jh au.u al.i rfl (I.ext L) a6.ls Θ Θ λbA a7 bB bD a8 ba=>?_;have bE:=H.size;have bF:=L.size;rw[aP];refine hk _ _ ⟨(H.trans L).put ba Ω,a7,Ω,?_⟩;rw[u7,K];exact a8
   .rintro out S k ⟨H,gr,a1,I⟩;rw[o5]at I;refine cn Ω ?_;rw[aU];have bb:d.2.ag=x.sizes:=P.2.1;rw[bb]at I;refine(AX I.ls λz K=>?_).mono ?_
    .rw[Q.sizes]at K;obtain⟨v,R,rfl⟩:=l9.1 K;have bG:=Q.scope.2 v R;refine(r.sizes.2.2 _ ?_).1;rw[v8,x6 Ω];exact S9 _
    .rintro _ a2 _ ⟨rfl,L⟩;refine s _ _ _ ⟨(((aa.trans ab).trans aY).trans H).trans L,by congr 1,by rw[aN]⟩
 .have bc:i=y.length:=Ω
  subst bc;rw[B.1,o5]at aJ;refine aT (λv E=>U=E/\v= .bool (decide (16384<(n:Int)))) ?_ ?_
  .rintro _ _ ⟨rfl,rfl⟩;rw[aj];refine⟨λh=>⟨q.trans C,5,rfl,λbH=>Ω⟩,λh=>⟨q.trans C,0,rfl,λ_=>rfl⟩⟩
  .intro ax s;rw[aU,bP];exact s _ _ ⟨rfl,rfl⟩
theorem sZ:∀{a b:Λ}{i:Nat},(∀(j:Nat)(x y:Int),j<i->a[j]?=σ x->b[j]?=σ y->x=y)->i<=a.length->i<=b.length->fT a b=fT (a.drop i) (b.drop i)
 |_,_,0,_,_,_=>Ξ
 |[],_,i+1,_,h,_=>by simp at h
 |_::_,[],i+1,_,_,h=>by simp at h
 |x::a,y::b,i+1,he,h1,e=>by
  have f:=he 0 x y Ω rfl rfl;subst f;simp only[fT,Int.lt_irrefl,if_false,List.drop_succ_cons];exact sZ (λj u v q hu p=>he (j+1) u v Ω hu p) (by simpa using h1) (by simpa using e)
theorem Ck{x:Int}:ai x7 cmp_isNaN_int [Δ x] w λv w'=>v= .bool false/\Ext w w':=by
 refine az func235 ?_;simp only[bI];exact⟨Ξ,Ext.refl _⟩
theorem Cl{x:Int}:ai x7 HD [Δ x,Δ y] w λv w'=>v=Δ (if x<y then-1 else if y<x then 1 else 0)/\Ext w w':=by
 refine az func188 ?_;refine Ck.mono ?_;rintro _ J _ ⟨rfl,a⟩;refine Ck.mono ?_;rintro _ U _ ⟨rfl,e⟩;simp only[aU,aQ,bP,aj];exact⟨λh=>⟨by rw[if_pos h],a.trans e⟩,λh=>⟨λf=>⟨by rw[if_neg h,if_pos f],a.trans e⟩,λf=>⟨by rw[if_neg h,if_neg f],a.trans e⟩⟩⟩
theorem Mw{b:Λ}(r:aH .i64 w bb a)(z:aH .i64 w bv b):ai x7 HE [bb,bv] w λv w'=>v=Δ (fT a b)/\Ext w w':=by
 refine az func189 ?_;have Z:=r.le;rw[aW ap.u r];refine⟨λ_ A J=>∃i:Nat,A=Δ (i:Int)/\i<=a.length/\i<=b.length/\Ext w J/\∀(j:Nat)(x y:Int),j<i->a[j]?=σ x->b[j]?=σ y->x=y,λ_ A _=>a.length-(bS A).toNat,⟨0,rfl,X4 _,X4 _,Ext.refl _,λj x y O=>Ω⟩,?_⟩;rintro _ _ J ⟨i,rfl,P,Q,f,I⟩;have p:fT a b=fT (a.drop i) (b.drop i):=sZ I P Q;simp only[aQ,aj];refine⟨λs=>?_,λaa=>?_⟩
 .have s:i<a.length:=Ω
  obtain⟨x,B⟩:=aF (l:=a) s;have K:a.drop i=x::a.drop (i+1):=by rw[X8 s,(x4.1 B).2]
  rw[be ap.u ah.i Ψ (r.ext f) B,aW ap.u (z.ext f)];simp only[cI,aj];refine⟨λh=>?_,λh=>?_⟩
  .have:b.drop i=[]:=by rw[List.drop_eq_nil_iff];omega
   rw[this,K]at p;exact⟨by rw[p];rfl,f⟩
  have C:i<b.length:=Ω
  obtain⟨y,E⟩:=aF (l:=b) C;have R:b.drop i=y::b.drop (i+1):=by rw[X8 C,(x4.1 E).2]
  rw[be ap.u ah.i Ψ (z.ext f) E];refine Cl.mono ?_;rintro _ U _ ⟨rfl,L⟩;rw[K,R]at p;simp only[fT]at p;simp only[bI,aj,aP];refine⟨λM=>⟨?_,f.trans L⟩,λS=>?_⟩
  .rw[p];by_cases h1:x<y
   .rw[if_pos h1,if_pos h1]
   .by_cases q:y<x
    .rw[if_neg h1,if_pos q,if_neg h1,if_pos q]
    .rw[if_neg h1,if_neg q]at M;exact absurd rfl M
  .rw[wrap_i64 Ω Ω];refine⟨⟨i+1,rfl,s,C,f.trans L,λj V W O G H=>?_⟩,by simp only[bS];omega⟩;by_cases X:j=i
   .subst X;rw[B]at G;rw[E]at H;cases G;cases H;have N:=X3.1 S;by_cases h1:x<y
    .rw[if_pos h1]at N;omega
    .by_cases q:y<x
     .rw[if_neg h1,if_pos q]at N;omega
     .omega
   .exact I j V W Ω G H
 .have Y:i=a.length:=Ω
  subst Y;rw[List.drop_length]at p;rw[aW ap.u (r.ext f),aW ap.u (z.ext f)];simp only[aQ,aj];refine⟨λh=>⟨?_,f⟩,λh=>⟨?_,f⟩⟩
  .obtain⟨y,l,e⟩:∃y l,b.drop a.length=y::l:=⟨_,_,X8 Ω⟩;rw[p,e];rfl
  .have:b.drop a.length=[]:=by rw[List.drop_eq_nil_iff];omega
   rw[p,this];rfl
theorem Mx{x:Int}{f:x1}(h:aH .i64 w f [x,y]):ai x7 HC [f] w λv w'=>v=Δ (if x≠0 then x else y)/\Ext w w':=by
 refine az func187 ?_;rw[aW ap.u h];refine cd.range 2 (λi _ J=>Ext w J/\(1<=i->x=0)/\(2<=i->y=0)) Ω ⟨Ext.refl _,Ω,Ω⟩ ?_ ?_
 .rintro i _ J k hi ⟨a,h1,e⟩ hk;rw[aQ,aj];refine⟨λ_=>?_,λh=>by simp at h;omega⟩
  match i,hi,h1,e,hk with
  |0,_,h1,e,hk=>
   rw[be (i:=0) ap.u ah.i Ψ (h.ext a) rfl,bI,aj];refine⟨λj=>⟨by rw[if_pos j],a⟩,λhe=>?_⟩;rw[aP];exact hk _ _ ⟨a,λ_=>X3.1 he,λh=>Ω⟩
  |1,_,h1,e,hk=>
   rw[be (i:=1) ap.u ah.i Ψ (h.ext a) rfl,bI,aj];have p:=h1 (p8 _);refine⟨λj=>⟨by rw[if_neg Ω],a⟩,λhe=>?_⟩;rw[aP];exact hk _ _ ⟨a,λ_=>p,λ_=>X3.1 he⟩
 .rintro _ J k ⟨a,h1,e⟩;have p:=h1 Ω;have q:=e Ω;rw[aQ,aj];exact⟨λh=>by simp at h,λ_=>⟨by rw[if_neg Ω,q],a⟩⟩
structure ci where
 sv:x1
 g:Nat
 sc:Λ
 cs:Λ
def eE(h:ci):List x1:=[h.sv,Γ h.g]
abbrev jW(h:ci):x1:=.agg (eE h).toArray
def qA(h:ci):Int:=c7 h.sc
def iQ(w:x3)(a:Nat)(h:ci):Prop:=(∃e,aq .i64 ah w e h.sv h.sc)/\(∀r,leads h.sv r->r≠a)/\js h.sc
theorem iQ.V{a:Nat}{h:ci}(ao:iQ w a h)(e:ae S w w')(f:∀r,leads h.sv r->¬S r):iQ w' a h:=by
 obtain⟨⟨j,hm⟩,p⟩:=ao;exact⟨⟨j,bo hm e f⟩,p⟩
theorem iQ.one{a:Nat}{h:ci}(ao:iQ w a h):∀u∈eE h,u.oneCell'=true:=by
 obtain⟨⟨e,hm⟩,_⟩:=ao;intro u hu;simp[eE]at hu;rcases hu with rfl|rfl
 .exact hm.ls.cells.2
 .rfl
def e9(w:x3)(g:Nat)(v:x1)(L:List ci):Prop:=ba eE 2 cT w g v L/\∀h∈L,iQ w g h
theorem e9.ext{g:Nat}{L:List ci}(h:e9 w g v L)(a:Ext w w'):e9 w' g v L:=⟨h.1.ext a,λx e=>(h.2 x e).V (a.V λ_=>False) λ_ _ h=>h⟩
theorem e9.at{g:Nat}{L:List ci}(h:e9 w g v L){i:Nat}{x:ci}(hi:L[i]?=σ x):iQ w g x:=h.2 x (x5 hi)
theorem s3{g:Nat}{L:List ci}{i:Nat}{x:ci}{K:x1->Prop}(a:y=(i:Int))(h:e9 w g v L)(hi:L[i]?=σ x):
  aa x7 (j5 gi v (Δ y)) w (λp=>aa x7 (u4 cT p) w K)=K (jW x):=by
 rw[dj a gi.u cT.i h.1 (x4.1 hi).1,bH cT.p cT.i rfl (h.1.range hi)]
theorem My{g:Nat}{L:List ci}{i:Nat}{x:ci}{K:Unit->x3->Prop}(q:y=(i:Int))(h:e9 w g v L)(hi:i<L.length)(hk:iQ w g x)(s:∀w',ae (λr=>leadsTo v r) w w'->e9 w' g v (L.set i x)->K () w'):aa x7 (j5 gi v (Δ y)) w λp=>aC x7 (o6 cT p (jW x)) w K:=by
 rw[dj q gi.u cT.i h.1 hi];refine Bi (f:=eE) cT.i h.1 rfl hk.one hi λw' e _ h'=>s w' e ⟨h',λz a=>?_⟩;rcases W3 a with a|rfl
 .exact (h.2 z a).V e λr j he=>(h.2 z a).2.1 r j (h.1.leads he).1
 .exact hk.V e λr j he=>hk.2.1 r j (h.1.leads he).1
abbrev Mz:x1:=.func (.func y7) #[] #[]
def s4(a b:ci):Int:=let c:Int:=if(a.sc.length:Int)<b.sc.length then-1 else if(b.sc.length:Int)<a.sc.length then 1 else 0
 if c≠0 then c else fT a.sc b.sc
theorem MA{a b:ci}(f:js a.sc)(j:js b.sc):s4 a b<0↔qA a<qA b:=by
 have p:=(vO f j).1;unfold qA s4;simp only;generalize q:(if(a.sc.length:Int)<b.sc.length then(-1:Int)else if(b.sc.length:Int)<a.sc.length then 1 else 0)=c;rw[p,<-q];by_cases h1:(a.sc.length:Int)<b.sc.length
 .rw[if_pos h1,if_pos Ω];exact⟨λ_=>.inl Ω,λ_=>Ω⟩
 .by_cases e:(b.sc.length:Int)<a.sc.length
  .rw[if_neg h1,if_pos e,if_pos Ω];exact⟨λh=>Ω,λh=>by rcases h with h|h<;>omega⟩
  .rw[if_neg h1,if_neg e,if_neg Ω];exact⟨λh=>.inr ⟨Ω,h⟩,λh=>by rcases h with h|h;omega;exact h.2⟩
theorem MB{y:Nat}{a b:ci}(A:iQ w y a)(B:iQ w y b):ai x7 y7 [jW a,jW b] w λv w'=>Ext w w'/\v=Δ (s4 a b):=by
 obtain⟨⟨ga,r⟩,_,L⟩:=A;obtain⟨⟨M,s⟩,_,N⟩:=B;refine az func186 ?_;refine bj λg1 J O C h=>?_;refine bj λE U P z j=>?_;have h:ad J g1 cT [a.sv,Γ a.g]:=by
  obtain⟨_,_,_,e⟩:=dg r.ls;simp only[jW,eE,e]at h ⊢;exact h
 have j:ad U E cT [b.sv,Γ b.g]:=by
  obtain⟨_,_,_,e⟩:=dg s.ls;simp only[jW,eE,e]at j ⊢;exact j
 intro Q x _ _;have f:=(C.trans z).trans x;have f1:=(h.ext z).ext x;have f2:=j.ext x;rw[aL cT.p 0 f1 rfl,aW ap.u (r.ls.ext f),aL cT.p 0 f2 rfl,aW ap.u (s.ls.ext f),
  aL cT.p 0 f1 rfl,aL cT.p 0 f2 rfl]
 refine Cl.mono ?_;rintro _ R _ ⟨rfl,q⟩;refine⟨.inl q,?_⟩;refine(Mw ((r.ls.ext f).ext q) ((s.ls.ext f).ext q)).mono ?_;rintro _ S _ ⟨rfl,G⟩;refine ve (l:=[if(a.sc.length:Int)<b.sc.length then(-1:Int)else if(b.sc.length:Int)<a.sc.length then 1 else 0,fT a.sc b.sc]) ap.u ah.i Ω rfl Ψ λV W X Y H I=>?_;refine(Mx I.ls).mono ?_;rintro _ Z _ ⟨rfl,K⟩;exact⟨((((f.trans q).trans G).trans H).trans K),rfl⟩
theorem MC{g:Nat}{L:List ci}(h:e9 w g v L)(E:L.length<65536):
  ai x7 HB [v,Mz] w λ_ w'=>ae (λr=>leadsTo v r) w w'/\∃M,M.Perm L/\sI qA M 0 M.length/\e9 w' g v M:=by
 have j:∀{s:x3}{a:ci},ae (λr=>r=g) w s->iQ w g a->iQ s g a:=λf e=>e.V f λr z he=>e.2.1 r z he;refine(Bp KR (G:=iQ w g) (num:=qA) (cf:=s4) (cap:=#[]) KW KX (λa e=>e.one) (λa _=>rfl) (λa b e A=>MA e.2.2 A.2.2) (Enters.of x7 KY rfl Ψ) h.1 h.2 E λs a b f e A=>MB (j f e) (j f A)).mono ?_;rintro _ w' _ ⟨f,M,C,hu,hm⟩;have H:ae (λr=>r=g) w w':=f.mono λr _ z=>(h.1.leads z).1;exact⟨f,M,C,λp q x y _ I _ B J=>hu p q x y I B J,hm,λx B=>j H (h.2 x (C.mem_iff.1 B))⟩
theorem MD{m:Λ}(p:kw l)(q:l.Nodup)(e:m.Perm l)(I:m.Pairwise (·<= ·)):m=bl l:=by
 refine vP (f:=λx=>x) ?_ (vN l) λx=>?_
 .have r:m.Nodup:=e.nodup_iff.2 q;exact(List.Pairwise.and I r).imp λ{a b}h=>by
   obtain⟨h1,j⟩:=h;have j:a≠b:=j;omega
 .rw[e.mem_iff,qv p]
theorem ME(h:∀z∈l,1<=z/\z<=32)(a:ds l=false):aK l<=4096:=by
 have:=of_decide_eq_false a;rw[vR h]at this;omega
theorem MF{f:b2}{d:hc}{x:cm}{m:Bool}{S R:af}(q:fe N f)(bk:N<=60000)(Q:x∈f.funs)(aB:qy f.k x d)(aC:an.rep m S R w cs d):
  ai x7 Hx [.agg cs.toArray] w λv w'=>Ext w w'/\∃sv gs G W X,v= .tuple #[sv,Γ G]/\w.heap.size<=gs/\aq .i64 ah w' gs sv (bl x.scope)/\c8 w' G W X (bV f.sizes (bl x.scope)) f.k (hZ f.sizes f.k x).2:=by
 obtain⟨sv,ac,bm,aM,bo,rfl,H,aD⟩:=sY aC;obtain⟨aE,aG,aH,bp,bq,aI⟩:=aB;obtain⟨a,aJ,aK⟩:=q.funs x Q;have ab:=sO a q.sizes.2.1;have bu:=a.len;rw[aE]at H;have aN:∀z∈x.sizes,1<=z/\z<=32:=λz ag=>by
  rw[a.sizes]at ag;obtain⟨v,aO,rfl⟩:=l9.1 ag;have bw:=a.scope.2 v aO;refine q.sizes.2.2 _ ?_;rw[v8,x6 Ω];exact S9 _
 have aQ:=ME aN aK;have Y:=sN ab a.scope.1;have bx:(bl x.scope).length<=6:=by rw[Y.length_eq];exact aJ
 refine az func176 ?_;refine bj λak J bz aj A=>?_;have A:ad J ak cw [sv,Γ ac]:=by obtain⟨_,_,_,rfl⟩:=dg H;exact A
 rw[aL cw.p 1 A rfl];refine(B6 (aD.ext aj).is Ω).mono ?_;rintro _ U _ ⟨Z,_,B⟩;rw[aG]at B;obtain⟨g,bA,bB,aR,rfl,bC,bD,B,al⟩:=B aQ;rw[aH]at B;rw[br,bt,aL cw.p 0 (A.ext Z) rfl];have C:=aj.trans Z;refine vU (H.ext C) Ω λv am gs bE K bF aS I L=>?_;have aT:=MD ab a.scope.1 aS I;subst aT;have bG:=C.size;rw[aW ap.u L.ls];refine kk (k:=.i64) ap.u ah.i Ω Ω λgo ao bH M au=>?_;have aU:aq .i64 ah ao go (.slice (σ ⟨go,0,ν⟩) (bl x.scope).length (bl x.scope).length) (p9 (bl x.scope).length 0):=aq.of (bW.full (k:=1) (n:=(bl x.scope).length) au Ξ (by simp[maxLen];omega));rw[aW ap.u (L.ls.ext M)];have bI:=au.lt;have O:(fU x.scope (bl x.scope)).length=(bl x.scope).length:=by simp[fU]
 have aV:=K.trans M;have bJ:=C.trans aV;refine bZ.range (bl x.scope).length (λi h=>ae (λr=>r=go) ao h/\aq .i64 ah h go (.slice (σ ⟨go,0,ν⟩) (bl x.scope).length (bl x.scope).length) ((fU x.scope (bl x.scope)).take i++p9 ((bl x.scope).length-i) 0)) Ω ⟨ae.refl _ _,by simpa using aU⟩ ?_ ?_
 .rintro i h k hi ⟨P,E⟩ hk;obtain⟨v,aa⟩:=aF (l:=(bl x.scope)) hi;have s:Ext am h:=M.put P Ω;have aX:Ext w h:=(C.trans K).trans s;have aY:v∈x.scope:=Y.mem_iff.1 (x5 aa);refine bQ Ω ?_;rw[be ap.u ah.i Ψ (L.ls.ext s) aa];have aZ:Ext J h:=(Z.trans K).trans s;rw[aL cw.p 0 (A.ext aZ) rfl];refine(Cc (H.ext aX)).mono ?_;rintro _ a1 _ ⟨y,r,rfl,a2⟩;have av:=pg aY;have a6:r=((x.scope.idxOf v:Nat):Int):=(a2 _ av).2 λj bK a7=>by have:=ku a.scope.1 a7 av;omega
  rw[ic rfl ap.u ah.i (E.ext y) (by simp[O];omega)];refine ie ah.i (E.ext y) (by simp[O];omega) λbL a8 bM aw=>?_;rw[aP];refine hk _ ⟨(P.trans (y.V _)).trans a8,?_⟩;have ba:(fU x.scope (bl x.scope))[i]?=σ r:=by rw[a6];exact BZ aa
  have e:((fU x.scope (bl x.scope)).take i++p9 ((bl x.scope).length-i) 0).set i r=(fU x.scope (bl x.scope)).take (i+1)++p9 ((bl x.scope).length-(i+1)) 0:=by
   have bb:((fU x.scope (bl x.scope)).take i).length=i:=by rw[o7,O];omega
   rw[S0 _ _ Ω,bb,U2,show(bl x.scope).length-i=((bl x.scope).length-(i+1))+1 by omega,List.replicate_succ,List.set_cons_zero,u7,ba,o8,X9];rfl
  rw[e]at aw;exact aw
 .rintro h k ⟨P,E⟩;have s:Ext am h:=M.put P Ω;have ax:Ext U h:=K.trans s;refine cn Ω ?_;rw[U2,List.replicate_zero,W7,j0 Ω]at E;have bc:∀t,di x.sizes t->bn x.sizes aR t=jQ x f.k t:=λt bd=>by rw[al.2 t bd];exact aI t
  obtain⟨ay,bf⟩:=LG q Q al.1 bc;have bg:Good (fU x.scope (bl x.scope)) x.sizes.length:=by
   rw[a.sizes,u9];exact sR a.scope.1 Y
  have bh:=(pf q Q);refine(Mk (B.ext ax) q.k E.ls (by rw[O];omega) λ_=>?_).mono ?_
  .rw[ay];exact bh.small
  .rintro _ a1 _ ⟨y,_,bi⟩;obtain⟨G,W,X,rfl,aA⟩:=bi bg;rw[br,bt];rw[ay,bf]at aA;exact⟨(C.trans ax).trans y,v,gs,G,W,X,rfl,Ω,(L.ext s).ext y,aA⟩
theorem MG{P:W9}{t x f:r9}{k y g o cap:Nat}{z:x1}(h:P.underlying t=σ (.slice e))(hi:aO P e k y z)(A:z.cells.size=k)(h1:∀u∈dP z.cells (n*k),u.oneCell'=true)(a:ad w g f cs)(H:o+n*k<=cs.length)(p:∀w',ae (λr=>r=g) w w'->ad w' g f (over cs o (dP z.cells (n*k)))->K (.tuple #[]) w'):aC P (Z5.clear_ #[t] x #[.slice (σ ⟨g,o,ν⟩) n cap]) w K:=by
 obtain⟨i,hi,I,rfl,B⟩:=hi;have C:∀w,(zeroValue e).run P w= .ok z w:=λw=>by simp[zeroValue,typeInfo,hi,B]
 have E:(Z5.zeroCells z.cells n).toList=dP z.cells (n*k):=by
  unfold Z5.zeroCells dP;rw[A]
 have q:=run_storeCells_cells (P:=P) g o (dP z.cells (n*k)) 0 w (λj F=>by
   rw[oL]at F;rw[Nat.add_zero,a.cell (x6 (show o+j<cs.length by omega))];rfl) (λj _=>a.frozen _ _) h1
 simp only[Nat.add_zero]at q;obtain⟨G,s⟩:=ny (dP z.cells (n*k)) cs o w a;rcases Q4 n with rfl|J
 .refine .of (v:=.tuple #[]) (w':=w) (by simp[Z5.clear_,run_underlying h]) (cF.refl _) (p w (ae.refl _ _) ?_);rw[Nat.zero_mul,j4 (oL z.cells 0)];exact a
 .obtain⟨m,rfl⟩:∃m,n=m+1:=⟨n-1,Ω⟩;refine .of (v:=.tuple #[]) (w':=_) (by simp[Z5.clear_,run_underlying h,C,E,q]) (s.cj a) (p _ s.V G)
theorem ef{α:Type}{f:α->List x1}{k:Nat}{g:Nat}{L:List α}(h:ba f k e w g v L)(j:leadsTo v r):r=g/\∃cs,ad w g e cs:=by
 obtain⟨_,⟨rfl,_⟩|⟨cap,cs,rfl,p,_⟩⟩:=h.1
 .exact (fq j).elim
 .obtain⟨a,n,c,h1,q⟩:=j;cases h1;exact⟨q.symm,cs,p⟩
theorem Cm{α:Type}{f:α->List x1}{k:Nat}{g:Nat}{L:List α}(h:ba f k e w g v L)(a:L≠[]):∃cs n c,v= .slice (σ ⟨g,0,ν⟩) n c/\ad w g e cs:=by
 obtain⟨_,⟨rfl,j⟩|⟨cap,cs,rfl,p,_⟩⟩:=h.1
 .exact absurd (j4 j) a
 .exact⟨cs,_,_,rfl,p⟩
theorem e9.mk{g:Nat}{L:List ci}(h:ba eE 2 cT w g v L)(e:∀x∈L,(∃f,aq .i64 ah w f x.sv x.sc)/\js x.sc):e9 w g v L:=by
 refine⟨h,λx a=>⟨(e x a).1,λr j=>?_,(e x a).2⟩⟩;obtain⟨cs,n,c,_,p⟩:=Cm h (λq=>by rw[q]at a;cases a);obtain⟨⟨f,hm⟩,_⟩:=e x a;exact b4 hm p Φ j
def Sem(w:x3)(k:Int)(sizes:Λ)(L:List ci):Prop:=∀x∈L,∃a e,c8 w x.g a e (bV sizes x.sc) k x.cs
theorem vY{g p:Nat}{q:x1}{cs:Λ}(h:c8 w g p q ag k cs)(e:ae S w w')(f:∀r,S r->∃c,ad w r cT c):c8 w' g p q ag k cs:=by
 obtain⟨⟨aV,gs,h1,s,x⟩,y⟩:=h;refine⟨⟨aV,gs,h1.V e λI=>?_,bo s e λr j I=>?_,bo x e λr j I=>?_⟩,y⟩
 .obtain⟨c,a⟩:=f g I;unfold ad at h1 a;rw[h1]at a;have:=(Obj.cells.inj (Z2 a)).2.1;exact absurd this Φ
 .obtain⟨c,a⟩:=f r I;exact b4 s a Φ j rfl
 .obtain⟨c,a⟩:=f r I;exact b4 x a Φ j rfl
theorem Sem.ext{L:List ci}(h:Sem w k sizes L)(a:Ext w w'):Sem w' k sizes L:=λx e=>by
 obtain⟨f,j,p⟩:=h x e;exact⟨f,j,p.ext a⟩
theorem Sem.row{L M:List ci}{g:Nat}(h:Sem w k sizes L)(a:e9 w g v M)(e:ae (λr=>leadsTo v r) w w'):Sem w' k sizes L:=λx f=>by
 obtain⟨j,p,q⟩:=h x f;exact⟨j,p,vY q e λr s=>by obtain⟨rfl,c,y⟩:=ef a.1 s;exact⟨c,y⟩⟩
def dU(h:ci):cE:=(h.sc,h.cs)
theorem MH{c:Int}:ai x7 uN [Δ c] w λv w'=>v= .bool (decide (0<c))/\Ext w w':=by
 refine az func183 ?_;rw[bP];exact⟨rfl,Ext.refl _⟩
theorem MI(h:aH .i64 w sv l):
  ai x7 Hz [sv,.func (.func uN) #[] #[]] w λv w'=>v= .bool (l.any λc=>decide (0<c))/\Ext w w':=by
 refine az func182 ?_;refine ai.mono (K:=λv w'=>Ext w w'/\∃r:Int,v=Δ r/\(0<=r↔ ∃c∈l,0<c)) ?_ ?_
 .refine az func232 ?_;rw[aW au.u h];refine cd.range l.length (λi _ J=>Ext w J/\∀c∈l.take i,¬0<c) h.le ⟨Ext.refl _,λc a=>by simp at a⟩ ?_ ?_
  .rintro i _ J k hi ⟨e,j⟩ hk;refine bQ Ω ?_;obtain⟨x,p⟩:=aF (l:=l) hi;rw[be au.u al.i Ψ (h.ext e) p];show ai x7 uN [Δ x] J _;refine MH.mono ?_;rintro _ U _ ⟨rfl,q⟩;rw[aj];refine⟨λf=>⟨e.trans q,i,rfl,⟨λ_=>⟨x,x5 p,f⟩,λ_=>Ω⟩⟩,λs=>?_⟩;rw[aP];refine hk _ _ ⟨e.trans q,λc a=>?_⟩;rw[u7,p]at a;rcases o9.1 a with a|a
   .exact j c a
   .simp at a;subst a;exact s
  .rintro _ J k ⟨e,j⟩;rw[o5]at j;rw[aQ,aj];exact⟨λh=>Ω,λ_=>⟨e,-1,rfl,⟨λh=>Ω,λ⟨c,a,f⟩=>absurd f (j c a)⟩⟩⟩
 .rintro _ J _ ⟨e,r,rfl,y⟩;rw[cI];refine⟨?_,e⟩;congr 1;rw[U1,decide_eq_true_eq,List.any_eq_true,y];exact⟨λ⟨c,a,f⟩=>⟨c,a,decide_eq_true f⟩,λ⟨c,a,f⟩=>⟨c,a,of_decide_eq_true f⟩⟩
theorem Cn{h:Nat}{x:ci}{q:x1}(r:iQ w h x)(s:c8 w x.g j q ag k x.cs):ai x7 pR [jW x] w λv w'=>v= .bool (!fD (dU x))/\Ext w w':=by
 obtain⟨⟨B,hm⟩,_⟩:=r;refine az func181 ?_;refine bj λak J C f a=>?_;have a:ad J ak cT [x.sv,Γ x.g]:=by
  obtain⟨_,_,_,e⟩:=dg hm.ls;simp only[jW,eE,e]at a ⊢;exact a
 rw[aL cT.p 1 a rfl];refine(mF (s.ext f)).mono ?_;rintro E U _ ⟨y,G,H,z⟩;refine(MI z.ls).mono ?_;rintro _ I _ ⟨rfl,A⟩;rw[bC];exact⟨rfl,(f.trans y).trans A⟩
theorem MJ{g:Nat}{L:List ci}(h:e9 w g v L)(I:Sem w k sizes L):
  ai x7 y4 [v,.func (.func pR) #[] #[]] w λr w'=>Ext w w'/\((r=Δ (-1)/\∀x∈L,fD (dU x)=true)\/∃i:Nat,r=Δ (i:Int)/\i<L.length/\(∀x∈L.take i,fD (dU x)=true)/\∀x,L[i]?=σ x->fD (dU x)=false):=by
 refine az func177 ?_;rw[ez gi.u h.1];refine cd.range L.length (λi _ J=>Ext w J/\∀x∈L.take i,fD (dU x)=true) h.1.le ⟨Ext.refl _,λc a=>by simp at a⟩ ?_ ?_
 .rintro i _ J k hi ⟨e,f⟩ hk;refine bQ Ω ?_;obtain⟨x,j⟩:=aF (l:=L) hi;rw[s3 rfl (h.ext e) j];show ai x7 pR [jW x] J _;obtain⟨B,C,s⟩:=I x (x5 j);refine(Cn ((h.ext e).at j) (s.ext e)).mono ?_;rintro _ U _ ⟨rfl,p⟩;rw[b7];refine⟨λz=>⟨e.trans p,.inr ⟨i,rfl,hi,f,λy q=>by rw[j]at q;cases q;simpa using z⟩⟩,λA=>?_⟩;rw[aP];refine hk _ _ ⟨e.trans p,λc a=>?_⟩;rw[u7,j]at a;rcases o9.1 a with a|a
  .exact f c a
  .simp at a;subst a;simpa using A
 .rintro _ J k ⟨e,f⟩;rw[o5]at f;rw[aQ,aj];exact⟨λh=>Ω,λ_=>⟨e,.inl ⟨rfl,f⟩⟩⟩
def fV(x:ci):Bool:=fD (dU x)
theorem vZ{L:List ci}{x:ci}(a:L[j]?=σ x):(L.take (j+1)).filter fV=if fV x=true then(L.take j).filter fV++[x]else(L.take j).filter fV:=by
 rw[u7,a,o8,List.filter_append];by_cases h:fV x=true
 .rw[if_pos h];simp[h]
 .rw[if_neg h];simp[h]
theorem Co{z:Array x1}(a:0<z.size)(h:∀u∈z.toList,u.oneCell'=true):∀u∈dP z n,u.oneCell'=true:=λu hu=>by
 unfold dP at hu;rw[Array.toList_map,l9]at hu;obtain⟨i,_,rfl⟩:=hu;have e:i % z.size<z.size:=Nat.mod_lt _ a;rw[getElem!_pos z (i % z.size) e];exact h _ Ξ
theorem MK{g:Nat}{L:List ci}(h:e9 w g v L)(I:Sem w k sizes L)(ba:L.length<=100000):
  ai x7 HA [v,.func (.func pR) #[] #[]] w λf w'=>ae (λr=>leadsTo v r) w w'/\e9 w' g f (L.filter fV)/\∀r,leadsTo f r->leadsTo v r:=by
 refine az func184 ?_;refine(MJ h I).mono ?_;rintro r J _ ⟨G,q⟩;rcases q with⟨rfl,P⟩|⟨Q,rfl,aw,P,ay⟩
 .rw[bd,aj];refine⟨λ_=>⟨G.V _,?_,λr q=>q⟩,λh=>absurd rfl h⟩;rw[List.filter_eq_self.2 (show∀x∈L,fV x=true from P)];exact h.ext G
 rw[bd,aj];refine⟨λh=>Ω,λ_=>?_⟩;rw[aP,wrap_i64 Ω Ω];obtain⟨R,ac⟩:=aF (l:=L) aw;refine⟨λS W U=>∃(i j:Nat)(M:List ci),S=Δ (i:Int)/\W=Δ (j:Int)/\i<j/\j<=L.length/\M.length=L.length/\M.take i=(L.take j).filter fV/\M.drop j=L.drop j/\(∀x∈M,x∈L)/\e9 U g v M/\ae (λr=>leadsTo v r) w U,
  λ_ W _=>L.length-(bS W).toNat,⟨Q,Q+1,L,rfl,by congr 1,Ω,Ω,rfl,?_,rfl,λx s=>s,h.ext G,G.V _⟩,?_⟩
 .have aA:¬fV R=true:=by rw[show fV R=false from ay R ac];simp
  rw[vZ ac,if_neg aA,List.filter_eq_self.2 (show∀x∈L.take Q,fV x=true from P)]
 rintro _ _ U ⟨i,j,M,rfl,rfl,bb,bc,ad,A,af,ag,e,H⟩;have aB:Sem U k sizes L:=I.row h H;rw[ez gi.u e.1,aQ,aj];refine⟨λX=>?_,λbe=>?_⟩
 .have X:j<L.length:=Ω
  obtain⟨x,s⟩:=aF (l:=L) X;have K:M[j]?=σ x:=by
   have h1:(M.drop j)[0]?=(L.drop j)[0]?:=by rw[af]
   rw[List.getElem?_drop,List.getElem?_drop,Nat.add_zero]at h1;rw[h1,s]
  have ah:M.drop (j+1)=L.drop (j+1):=by
   have h1:(M.drop j).drop 1=(L.drop j).drop 1:=by rw[af]
   rw[List.drop_drop,List.drop_drop]at h1;exact h1
  refine aT (λS N=>∃(C:Nat)(z:List ci),S=Δ (C:Int)/\C<j+1/\z.length=L.length/\z.take C=(L.take (j+1)).filter fV/\z.drop (j+1)=L.drop (j+1)/\(∀x∈z,x∈L)/\e9 N g v z/\ae (λr=>leadsTo v r) w N) ?_ ?_
  .rintro _ N ⟨C,z,rfl,h1,Y,aD,aE,aG,aH,aI⟩;rw[aP,wrap_i64 Ω Ω];exact⟨⟨C,j+1,z,rfl,rfl,h1,X,Y,aD,aE,aG,aH,aI⟩,by simp only[bS];omega⟩
  .intro ax al;rw[s3 rfl e K];refine bz cT.i λak N bf aJ aK=>?_;refine b6 (vs:=eE x) cT.i rfl rfl (e.at K).one aK λam aL bg an=>?_;have Z:Ext U am:=aJ.put aL Ω;rw[bH cT.p cT.i rfl an.range];show ai x7 pR [jW x] am _;obtain⟨bh,bi,aM⟩:=aB x (x5 s);refine(Cn ((e.ext Z).at K) (aM.ext Z)).mono ?_;rintro _ bj _ ⟨rfl,ao⟩;have E:=Z.trans ao;rw[bC,Bool.not_not,b7];refine⟨λhk=>?_,λaN=>?_⟩
   .rw[bH cT.p cT.i rfl (an.ext ao).range];refine My rfl (e.ext E) Ω ((e.ext E).at K) λbk aO aR=>?_;rw[aP,wrap_i64 Ω Ω];refine al _ _ ⟨i+1,M.set i x,rfl,Ω,by simp[ad],?_,?_,λy B=>?_,aR,(H.trans (E.V _)).trans aO⟩
    .have ab:fV x=true:=hk;rw[vZ s,if_pos ab,u7,Z0 Ω,o8,List.take_set_of_le (p8 _),A]
    .rw[List.drop_set_of_lt Ω,ah]
    .rcases W3 B with B|rfl
     .exact ag y B
     .exact x5 s
   .have ab:¬fV x=true:=by rw[show fV x=false from aN];simp
    exact al _ _ ⟨i,M,rfl,Ω,ad,by rw[vZ s,if_neg ab,A],ah,ag,e.ext E,H.trans (E.V _)⟩
 .have aS:j=L.length:=Ω
  subst aS;rw[o5]at A;obtain⟨⟨bl,aU⟩,ap⟩:=e.1;rcases aU with⟨_,bm⟩|⟨cap,cs,aV,aW,bn,aX,aY,aZ⟩
  .omega
  subst aV;have a1:(aa x7 (V6 gi (.slice (σ ⟨g,0,ν⟩) M.length cap) (σ (Δ (i:Int))) ν ν) U λa2=>
    aC x7 (Z5.clear_ #[gi] IF #[a2]) U λu O=>
    aa x7 (V6 gi (.slice (σ ⟨g,0,ν⟩) M.length cap) ν (σ (Δ (i:Int))) ν) O λa6=>
    (λf w'=>ae (λr=>leadsTo (.slice (σ ⟨g,0,ν⟩) M.length cap) r) w w'/\e9 w' g f (L.filter fV)/\∀r,leadsTo f r->leadsTo (.slice (σ ⟨g,0,ν⟩) M.length cap) r) a6 O):=by
   rw[gk (l:=i) (h:=M.length) (m:=cap) gi.u cT.i (nu i _ rfl) iH eU Ω Ω (p8 _),if_neg Ω];simp only[Z7,T2];refine MG (g:=g) (o:=0+i*2) (n:=M.length-i) (k:=2) gi.u cT.i rfl ?_ aW Ω λO aq a7=>?_
   .exact Co Φ Φ
   rw[gk (l:=0) (h:=i) (m:=cap) gi.u cT.i iG (nv i _ rfl) eU Ω Ω (p8 _),if_neg Ω];simp only[Z7,T2,Nat.zero_mul,X6,Nat.sub_zero];have a8:(dP (x1.agg #[.slice ν 0 0,.pointer ν]).cells ((M.length-i)*2)).length=(M.length-i)*2:=oL _ _;have bo:(M.flatMap eE).length=M.length*2:=gu ap;have au:(L.filter fV).length=i:=by rw[<-A,o7];omega
   have key:(λf w'=>ae (λr=>leadsTo (.slice (σ ⟨g,0,ν⟩) M.length cap) r) w w'/\e9 w' g f (L.filter fV)/\∀r,leadsTo f r->leadsTo (.slice (σ ⟨g,0,ν⟩) M.length cap) r) (.slice (σ ⟨g,0,ν⟩) (L.filter fV).length cap) O:=by
    refine⟨H.trans (aq.mono λr _ he=>⟨_,_,_,rfl,he.symm⟩),⟨⟨⟨gu (k:=2) (λy _=>rfl),.inr ⟨cap,_,rfl,a7,Ω,aX,by rw[lQ,aY],?_⟩⟩,λy _=>rfl⟩,λy B=>?_⟩,λr q=>?_⟩
    .rw[au,<-A,<-qn i ap,<-aZ,List.take_take,mq (by rw[a8];omega),X9,List.take_append_of_le_length (by rw[o7];omega),List.take_take];congr 1;omega
    .have av:y∈M:=by rw[<-A]at B;exact V5 B
     exact(e.2 y av).V aq λr q he=>(e.2 y av).2.1 r q he
    .obtain⟨a,n,c,h1,Y⟩:=q;cases h1;exact⟨_,_,_,rfl,Y⟩
   rw[au]at key;exact key
  exact a1
theorem qB{k:o4}{g cap:Nat}{b:Option Addr}(h:aq k e w g (.slice b n cap) l)(r:0<l.length):
  b=σ ⟨g,0,ν⟩/\n=l.length/\∃cs,ad w g e cs/\n<=cap/\cap<=maxLen/\cs.length=cap/\cs.take n=ints k l:=by
 obtain⟨_,⟨_,h1⟩|⟨s,cs,h1,a,f,j,p,q⟩⟩:=h
 .omega
 .cases h1;exact⟨rfl,rfl,cs,a,f,j,by simpa using p,by simpa using q⟩
theorem ML{g cap:Nat}(h:aq .i64 ah w g (.slice (σ ⟨g,0,ν⟩) n cap) l)(p:j<l.length):aH .i64 w (.slice (σ ⟨g,j,ν⟩) (n-j) (cap-j)) (l.drop j):=by
 obtain⟨_,q,cs,a,h1,r,s,f⟩:=qB h Ω;have:=Ji (o:=j) (k:=n-j) (c:=cap-j) a Ω Ω Ω;refine aH.of (n:=n-j) ?_;have e:(cs.drop j).take (n-j)=ints .i64 (l.drop j):=by
  rw[<-List.drop_take,f,ints,ints,List.map_drop]
 rw[e]at this;exact this
theorem MM{g:Nat}(h:aq .i64 ah w g sv l)(aU:l.length<=1000):
  ai x7 H3 [sv] w λv w'=>ae (λr=>r=g) w w'/\aq .i64 ah w' g v (dedup l l.length):=by
 refine az func227 ?_;rw[aW ap.u h.ls];simp only[aQ,aj];refine⟨λaV=>⟨ae.refl _ _,?_⟩,λaX=>?_⟩
 .rw[sX (p8 _) (λi hi X=>Ω),o5];exact h
 obtain⟨n,s⟩:∃n,l.length=n:=⟨_,rfl⟩;obtain⟨cap,rfl⟩:∃cap,sv= .slice (σ ⟨g,0,ν⟩) n cap:=by
  obtain⟨_,⟨_,h1⟩|⟨ao,cs,h1,_⟩⟩:=id h
  .omega
  .exact⟨ao,by rw[h1,s]⟩
 obtain⟨_,_,_,_,aY,au,_⟩:=qB h Ω;refine⟨λ_ t J=>∃j:Nat,t=Δ (j:Int)/\1<=j/\j<=n/\Ext w J/\∀i,i<j->0<i->l[i]? ≠l[i-1]?,λ_ t _=>n-(bS t).toNat,⟨1,rfl,Ω,Ω,Ext.refl _,λi h1 Y=>Ω⟩,?_⟩;rintro aZ _ J ⟨j,rfl,a1,Z,A,I⟩;rw[aW ap.u (h.ls.ext A)];simp only[aQ,aj,ev];refine⟨λav U aw _ _=>?_,λa2=>⟨A.V _,?_⟩⟩
 .have av:j<n:=Ω
  have B:=A.trans aw;have aa:=h.ls.ext B;obtain⟨a,K⟩:=aF (l:=l) (i:=j) Ω;obtain⟨b,L⟩:=aF (l:=l) (i:=j-1) Ω;rw[be ap.u ah.i Ψ aa K];simp only[dD];rw[wrap_i64 Ω Ω,gl (i:=j-1) Ω ap.u ah.i Ψ aa L];simp only[bd,aj,aP];refine⟨λM=>?_,λM=>?_⟩
  .subst M;rw[gk ap.u ah.i (l:=j) (h:=n) (m:=cap) nt iH eU Ω Ω Ω,if_neg Ω];have ay:U3 (λx:Addr=>x.add (j*1)) (σ ⟨g,0,ν⟩)=σ ⟨g,j,ν⟩:=by simp[T2]
   rw[ay];have ab:dedup l (j+1)=l.take j:=by rw[vV Ω (by rw[K,L]),sX Ω I]
   refine⟨λN t O=>∃(q e:Nat)(f:Λ),N=Δ (q:Int)/\t=Δ (e:Int)/\1<=e/\j+e<=n/\ae (λr=>r=g) w O/\aq .i64 ah O g (.slice (σ ⟨g,0,ν⟩) n cap) f/\f.length=n/\
     q=(dedup l (j+e)).length/\f.take q=dedup l (j+e)/\q<=j+e-1/\∀i,j+e-1<=i->f[i]?=l[i]?,λ_ t _=>n-(bS t).toNat,
    ⟨j,1,l,rfl,rfl,Ω,Ω,B.V _,h.ext B,s,by rw[ab,o7];omega,by rw[ab],Ω,λi _=>rfl⟩,?_⟩
   rintro _ _ O ⟨q,e,f,rfl,rfl,a6,a7,P,ac,ad,af,C,aA,E⟩;rw[hy ap.u];simp only[aQ,aj,ev];refine⟨λag=>?_,λag=>?_⟩
   .have ag:j+e<n:=Ω
    refine aT (λN Q=>∃(q:Nat)(f:Λ),N=Δ (q:Int)/\ae (λr=>r=g) w Q/\aq .i64 ah Q g (.slice (σ ⟨g,0,ν⟩) n cap) f/\f.length=n/\
     q=(dedup l (j+(e+1))).length/\f.take q=dedup l (j+(e+1))/\q<=j+(e+1)-1/\∀i,j+(e+1)-1<=i->f[i]?=l[i]?) ?_ ?_
    .rintro _ Q ⟨q,f,rfl,h1,Y,aB,aC,aD,aE,aG⟩;simp only[aP];rw[wrap_i64 Ω Ω];exact⟨⟨q,e+1,f,rfl,rfl,Ω,Ω,h1,Y,aB,aC,aD,aE,aG⟩,by simp only[bS];omega⟩
    .intro ax ak a8 R _ _;have G:=ac.ext R;have S:=ML (j:=j) G Ω;obtain⟨y,H⟩:=aF (l:=l) (i:=j+e) Ω;obtain⟨z,W⟩:=aF (l:=l) (i:=j+e-1) Ω;have al:(f.drop j)[e]?=σ y:=by rw[List.getElem?_drop,E _ Ω,H]
     have aH:(f.drop j)[e-1]?=σ z:=by rw[List.getElem?_drop,E _ Ω,<-W];congr 1;omega
     rw[be ap.u ah.i Ψ S al];simp only[dD];rw[wrap_i64 Ω Ω,gl (i:=e-1) Ω ap.u ah.i Ψ S aH];simp only[bI,aj,aP];refine⟨λp=>?_,λp=>?_⟩
     .rw[be ap.u ah.i Ψ S al,ic rfl ap.u ah.i G Ω];refine ie ah.i G Ω λba aI bb aJ=>?_;rw[wrap_i64 Ω Ω];have am:dedup l (j+e+1)=dedup l (j+e)++[y]:=vW H (λ_=>by rw[H,W];simpa using p);refine ak _ _ ⟨q+1,_,rfl,(P.trans (R.V _)).trans aI,aJ,by simpa using ad,?_,?_,Ω,λi hi=>?_⟩
      .rw[<-S6,am];simp;omega
      .rw[<-S6,am,u7,Z0 Ω,List.take_set_of_le (p8 _),C];rfl
      .rw[Y8 Ω];exact E i Ω
     .have p:y=z:=X3.1 p;have an:dedup l (j+e+1)=dedup l (j+e):=vV Ω (by rw[H,W,p]);exact ak _ _ ⟨q,f,rfl,P.trans (R.V _),G,ad,by rw[<-S6,an];exact af,by rw[<-S6,an];exact C,Ω,λi hi=>E i Ω⟩
   .have hk:j+e=n:=Ω
    rw[hk]at af C aA;obtain⟨_,_,cs,aK,_,_,bc,aL⟩:=qB ac Ω;simp only[maxLen]at au;rw[gk ap.u ah.i (l:=q) (h:=n) (m:=cap) nt iH eU Ω Ω Ω,if_neg Ω];have aM:U3 (λx:Addr=>x.add (q*1)) (σ ⟨g,0,ν⟩)=σ ⟨g,q,ν⟩:=by simp[T2]
    rw[aM];refine zP ap.u ah.i rfl rfl aK Ω Ω λbf aN bg aO=>?_;rw[gk ap.u ah.i (l:=0) (h:=q) (m:=cap) iG nw eU Ω Ω Ω,if_neg Ω];have aR:U3 (λx:Addr=>x.add (0*1)) (σ ⟨g,0,ν⟩)=σ ⟨g,0,ν⟩:=by simp[T2]
    rw[aR,s];refine⟨P.trans aN,?_⟩;rw[<-C];refine aq.of (n:=q) ⟨Θ,.inr ⟨cap,_,Ξ,aO,Ω,by simp only[maxLen];omega,by rw[lQ];omega,?_⟩⟩;rw[T0];apply X2;intro i;by_cases hi:i<q
    .rw[Z9 hi,nx _ _ _ Θ,if_neg Ω,ints,x8,Z9 hi];have:(cs.take n)[i]?=(ints .i64 f)[i]?:=by rw[aL]
     rw[Z9 Ω,ints,x8]at this;exact this
    .rw[Y0 Θ,Y0 Θ]
  .rw[wrap_i64 Ω Ω];refine⟨⟨j+1,rfl,Ω,Ω,B,λi hi X=>?_⟩,by simp only[bS];omega⟩;by_cases aS:i=j
   .subst aS;rw[K,L];intro he;exact M (Z2 he)
   .exact I i Ω X
 .have Z:j=n:=Ω
  rw[sX (p8 _) (by rw[s,<-Z];exact I),o5];exact h.ext A
theorem MN(z:n<=1000000):ai x7 Ip [.slice ν 0 0,Δ (n:Int)] w λv w'=>Ext w w'/\∃g,w.heap.size<=g/\aq .i64 ah w' g v []:=by
 refine az func260 ?_;refine dd (λJ=>w=J) ?_ ?_
 .rintro _ rfl;refine aT (λv w'=>Ext w w'/\∃g,w.heap.size<=g/\aq .i64 ah w' g v []) (λ_ _ h=>h) λax a=>?_;rw[zO ap.u,hy ap.u];simp only[dD];have e:X7.wrap (((0:Nat):Int)-((0:Nat):Int))=0:=Φ
  have f:X7.wrap ((n:Int)-0)=n:=by rw[wrap_i64 Ω Ω];omega
  rw[e,f];simp only[bP,aj];refine⟨λh=>?_,λh=>a _ _ ⟨Ext.refl _,w.heap.size,p8 _,aq.nil _ _ _ _⟩⟩;rw[zO ap.u,gk ap.u ah.i (l:=0) (h:=0) (m:=0) iG nw eU Ω Ω Ω,if_pos rfl];refine Jh (k:=n) (xs:=[]) rfl ap.u ah.u ah.i rfl ⟨rfl,0,0,ν,0,rfl,p8 _,X4 _,λh=>absurd h (Nat.lt_irrefl _),λj v h=>by simp at h⟩ Ω Ω Ω Ω λv g w' A p hm=>?_;obtain⟨_,⟨_,B⟩|⟨cap,cs,rfl,q,h1,r,s,C⟩⟩:=hm
  .omega
  rw[hy ap.u,gk ap.u ah.i (l:=0) (h:=0) (m:=cap) iG nw eU Ω Ω Ω,if_neg Ω];have y:U3 (λx:Addr=>x.add (0*1)) (σ ⟨g,0,ν⟩)=σ ⟨g,0,ν⟩:=by simp[T2]
  rw[y];refine a _ _ ⟨p,g,Ω,aq.of (n:=0) ⟨Ξ,.inr ⟨cap,cs,Ξ,q,Ω,r,s,Ξ⟩⟩⟩
 .intro ax a;simp only[aQ,aj];exact⟨λh=>Ω,λ_=>a _ rfl⟩
theorem MO{b:Λ}(N:aH .i64 w bb a)(O:aH .i64 w bv b)(S:a.length<=1000)(V:b.length<=1000)(W:∀v w' g,Ext w w'->w.heap.size<=g->aq .i64 ah w' g v (a++b)->K v w'):
  aC x7 (Y7 dn 2 #[(0,bb),(1,bv)]) w λt J=>ai x7 H4 [t] J K:=by
 obtain⟨⟨B,C,E,X⟩,⟨G,H,I,Y⟩⟩:(∃x n c,bb= .slice x n c)/\(∃x n c,bv= .slice x n c):=by
  obtain⟨_,_,_,x,c,h1,_⟩:=id N;obtain⟨_,_,_,y,d,Z,_⟩:=id O;exact⟨⟨x,_,c,h1⟩,⟨y,_,d,Z⟩⟩
 subst X;subst Y;refine kj dn.u ap.i Ω (cs:=#[.slice B C E,.slice G H I]) Ψ λg J ay q s=>?_;have s:ad J g ap [.slice B C E,.slice G H I]:=s;have key:∀i:Nat,i<2->∃v l,[x1.slice B C E,.slice G H I][i]?=σ v/\[a,b][i]?=σ l/\aH .i64 w v l/\l.length<=1000:=λi hi=>by
  match i,hi with
  |0,_=>exact⟨_,_,rfl,rfl,N,S⟩
  |1,_=>exact⟨_,_,rfl,rfl,O,V⟩
 refine az func228 ?_;rw[hy dn.u];refine cd.range 2 (λi size U=>Ext J U/\∃n:Nat,n<=1000*i/\size=Δ (n:Int)) Ω ⟨Ext.refl _,0,Ω,rfl⟩ ?_ ?_
 .rintro i _ U aa hi ⟨f,n,ab,rfl⟩ ac;simp only[aQ,aj];refine⟨λ_=>?_,λh=>Ω⟩;obtain⟨v,l,L,P,M,ae⟩:=key i hi;refine aT (λv Q=>U=Q/\v=Δ ((n+l.length:Nat):Int)) ?_ ?_
  .rintro _ _ ⟨rfl,rfl⟩;simp only[aP];exact ac _ _ ⟨f,_,Ω,rfl⟩
  .intro ax af;rw[e3 (b:=g) (o:=0) dn.u ap.i hi (λ_=>rfl),aB Ψ ((s.ext f).cell (o:=0+i*1) (by rw[<-L];congr 1;omega)),aW ap.u (M.ext (q.trans f))];simp only[aP,aQ,aj];rw[wrap_i64 Ω Ω];exact⟨λh=>Ω,λ_=>af _ _ ⟨rfl,by congr 1⟩⟩
 .rintro _ U aa ⟨f,n,ab,rfl⟩;simp only[aQ,aj];refine⟨λh=>Ω,λ_=>?_⟩;refine(MN (n:=n) Ω).mono ?_;rintro v0 Q _ ⟨R,ag,aA,ak⟩;have s1:=q.size;have aD:=f.size;have aE:=R.size;have al:=f.trans R;rw[hy dn.u];refine cd.range 2 (λi v z=>Ext J z/\∃p,J.heap.size<=p/\aq .i64 ah z p v (([a,b].take i).flatten)/\(([a,b].take i).flatten).length<=1000*i) Ω ⟨al,ag,Ω,ak,Ξ⟩ ?_ ?_
  .rintro i v4 z am hi ⟨j,p,an,A,aF⟩ ao;simp only[aQ,aj];refine⟨λ_=>?_,λh=>Ω⟩;obtain⟨v,l,L,P,M,ae⟩:=key i hi;rw[e3 (b:=g) (o:=0) dn.u ap.i hi (λ_=>rfl),aB Ψ ((s.ext j).cell (o:=0+i*1) (by rw[<-L];congr 1;omega))];refine jh ap.u ah.i rfl A (M.ext (q.trans j)) Ω Ω λaG au aI aJ av aw=>?_;simp only[aP];have aK:=j.size;have e:([a,b].take (i+1)).flatten=([a,b].take i).flatten++l:=by rw[u7,P];simp
   refine ao _ _ ⟨j.then aw (by rintro r aL rfl;omega),au,Ω,by rw[e];exact av,by rw[e,r8];omega⟩
  .rintro v4 z am ⟨j,p,an,A,_⟩;simp only[aQ,aj];refine⟨λh=>Ω,λ_=>W _ _ p (q.trans j) Ω ?_⟩;have e:([a,b].take 2).flatten=a++b:=Ξ
   rw[e]at A;exact A
def ph(s1 a f e vars:Λ):Prop:=∀p∈vars,p∈a->p∈e->h0 s1 (hJ a p)=h0 f (hJ e p)
def dt(s1 a e f vars:Λ):Λ:=vars.map λp=>max (h0 s1 (hJ a p)) (h0 e (hJ f p))
theorem Cp(s1 a e f vars:Λ):(dt s1 a e f vars).length=vars.length:=by simp[dt]
theorem s5{x:Int}:0<=hJ l x↔x∈l:=by
 unfold hJ;by_cases h:x∈l
 .rw[if_pos h];exact⟨λ_=>h,λ_=>Ω⟩
 .rw[if_neg h];exact⟨λh=>Ω,λa=>absurd a h⟩
theorem MP{g ay Y aA:Nat}{G Z:x1}{s1 f vars e:Λ}{aB:Int}{aC aD:Λ}(h1:c8 w g ay sv s1 k aC)(aa:c8 w Y aA G f aB aD)(q:aH .i64 w Z vars)(aE:aH .i64 w bb a)(H:aH .i64 w bv e)(aG:hd a)(aI:hd e)(bd:vars.length<=1000):
  ai x7 H5 [Z,Γ g,bb,Γ Y,bv] w λv w'=>Ext w w'/\
   (¬ph s1 a f e vars->v= .tuple #[.slice ν 0 0,.bool false])/\
   (ph s1 a f e vars->∃x ak,v= .tuple #[x,.bool true]/\w.heap.size<=ak/\aq .i64 ah w' ak x (dt s1 a f e vars)):=by
 have sub:∀{w:x3}{g:Nat}{sv:x1}{k:Int}{aV:x1},ad w g cU [sv,Δ k,aV]->w.rangeAt g (0+0) [sv]:=λH=>nF H (by
  intro j v q
  match j,q with
  |0,q=>exact q)
 refine az func229 ?_;rw[aW ap.u q];refine kk ap.u ah.i Ω Ω λgz J bf ab aJ=>?_;have aK:aq .i64 ah J gz (.slice (σ ⟨gz,0,ν⟩) vars.length vars.length) (p9 vars.length 0):=aq.of (n:=vars.length) (bW.full aJ Ξ (by simp[maxLen];omega));generalize (x1.slice (σ ⟨gz,0,ν⟩) vars.length vars.length)=aL at*;rw[aW ap.u (q.ext ab)];have I:=Cp s1 a f e vars;refine nb.range vars.length (λi _ _ U=>Ext w U/\aq .i64 ah U gz aL (upto (dt s1 a f e vars) 0 i)/\∀(j:Nat)(p:Int),j<i->vars[j]?=σ p->p∈a->p∈e->h0 s1 (hJ a p)=h0 f (hJ e p)) Ω
  ⟨ab,by rw[p5,I];exact aK,λj p B=>Ω⟩ ?_ ?_
 .rintro i _ _ U aM hi ⟨s,hm,K⟩ aN;simp only[aQ,aj];refine⟨λ_=>?_,λh=>Ω⟩;obtain⟨p,y⟩:=aF (l:=vars) hi;rw[be ap.u ah.i Ψ (q.ext s) y];refine(vX (aE.ext s) aG).mono ?_;rintro _ bg _ ⟨rfl,L⟩;refine(vX (H.ext (s.trans L)) aI).mono ?_;rintro _ aO _ ⟨rfl,ac⟩;have ae:=(s.trans L).trans ac;refine aT (λv af=>Ext aO af/\∃c,v= .bool c/\(c=true↔p∈a/\p∈e/\h0 s1 (hJ a p)≠h0 f (hJ e p))) ?_ ?_
  .rintro _ af ⟨ag,c,rfl,al⟩;have am:=ae.trans ag;rw[b7];refine⟨λaS=>⟨am,λ_=>by first|rfl|trivial,λB=>?_⟩,λaU=>?_⟩
   .obtain⟨z,A,aX⟩:=al.1 aS;exact absurd (B p (x5 y) z A) aX
   .simp only[ev];intro bh an _ _;have M:=am.trans an;obtain⟨⟨aV,gs,N,O,_⟩,_⟩:=h1.ext M;obtain⟨⟨aY,aZ,P,Q,_⟩,_⟩:=aa.ext M;rw[bJ,aR cU.p rfl,bH (cs:=[sv]) bu.p bu.i rfl (sub N),bJ,aR cU.p rfl,bH (cs:=[G]) bu.p bu.i rfl (sub P)];refine(qg O.ls).mono ?_;rintro _ bi _ ⟨rfl,C⟩;refine⟨.inl C,?_⟩;refine(qg (Q.ls.ext C)).mono ?_;rintro _ bj _ ⟨rfl,ao⟩;have a1:=(M.trans C).trans ao;have au:=hm.ext ((((L.trans ac).trans ag).trans an).trans (C.trans ao));have bk:(upto (dt s1 a f e vars) 0 i).length=vars.length:=by rw[p4,I]
    rw[uW,ic rfl ap.u ah.i au Ω];refine ie ah.i au Ω λbl a2 _ av=>?_;simp only[aP];have a6:(dt s1 a f e vars)[i]?=σ (max (h0 s1 (hJ a p)) (h0 f (hJ e p))):=by
     unfold dt;rw[x8,y];rfl
    rw[p7 a6]at av;refine aN _ _ _ ⟨a1.then a2 (by rintro r bm rfl;omega),av,λj a7 B R z A=>?_⟩;by_cases a8:j=i
    .subst a8;rw[y]at R;cases R;refine Decidable.byContradiction λba=>?_;have:=al.2 ⟨z,A,ba⟩;rw[aU]at this;cases this
    .exact K j a7 Ω R z A
  .intro ax S;simp only[ev,cI,aj];intro bn E _ _;refine⟨λV=>⟨λW=>?_,λW=>⟨.inl (Ext.refl _),S _ _ ⟨E,false,rfl,⟨(λh=>by cases h),λh=>absurd (s5.2 h.2.1) W⟩⟩⟩⟩,λV=>⟨.inl (Ext.refl _),S _ _ ⟨E,false,rfl,⟨(λh=>by cases h),λh=>absurd (s5.2 h.1) V⟩⟩⟩⟩;have aw:=ae.trans E;obtain⟨⟨aV,gs,N,O,_⟩,_⟩:=h1.ext aw;obtain⟨⟨aY,aZ,P,Q,_⟩,_⟩:=aa.ext aw;rw[bJ,aR cU.p rfl,bH (cs:=[sv]) bu.p bu.i rfl (sub N),bJ,aR cU.p rfl,bH (cs:=[G]) bu.p bu.i rfl (sub P)];refine(qg O.ls).mono ?_;rintro _ bo _ ⟨rfl,X⟩;refine⟨.inl X,?_⟩;refine(qg (Q.ls.ext X)).mono ?_;rintro _ bp _ ⟨rfl,bc⟩;simp only[bI];refine S _ _ ⟨(E.trans X).trans bc,_,rfl,?_⟩;rw[decide_eq_true_iff];exact⟨λh=>⟨s5.1 V,s5.1 W,h⟩,λh=>h.2.2⟩
 .rintro _ _ U aM ⟨s,hm,K⟩;simp only[aQ,aj];refine⟨λh=>Ω,λ_=>?_⟩;have B:ph s1 a f e vars:=λp y z A=>by
   obtain⟨i,hi,he⟩:=List.getElem_of_mem y;exact K i p hi (by rw[x6 hi,he]) z A
  rw[<-I,p6]at hm;exact⟨s,λh=>absurd B h,λ_=>⟨_,gz,rfl,Ω,hm⟩⟩
def v7(a e vars:Λ):Prop:=hd vars/\∀x,x∈vars↔x∈a\/x∈e
def nW(s1 h a e j f vars:Λ)(k:Int):Λ:=
 (V0 (aK (dt s1 a e f vars)).toNat).map λ(q:Nat)=>min (bn s1 h (e8 (cJ (dt s1 a e f vars) q) vars a)+bn e j (e8 (cJ (dt s1 a e f vars) q) vars f)) k
theorem Cq(s1 h a e j f vars:Λ)(k:Int):(nW s1 h a e j f vars k).length=(aK (dt s1 a e f vars)).toNat:=by simp[nW]
theorem s6{s cs:Λ}(hk:right k)(h:∀x∈cs,cp x k):cp (bn s cs t) k:=by
 have a:cp 0 k:=⟨hk,Int.le_refl _,by have:=hk.1;omega⟩;unfold bn;split
 .rename_i n _;rw[v8];cases e:cs[n.toNat]? with
  |none=>exact a
  |some x=>exact h x (x5 e)
 .exact a
def Fits(s l:Λ):Prop:=l.length=s.length/\qz l
def qC(e:Int):x1:=.tuple #[.pointer ν,.slice ν 0 0,Δ e]
def Cr(w:x3)(s1 q a f r e:Λ)(k h:Int)(v:x1)(w':x3):Prop:=
 Ext w w'/\(¬(Fits s1 a/\Fits f e)->v=qC 1)/\
  (Fits s1 a/\Fits f e->∃vars,v7 a e vars/\(¬ph s1 a f e vars->v=qC 1)/\(ph s1 a f e vars->(k≠h->v=qC 3)/\
   (k=h->¬b1 (dt s1 a f e vars)->v=qC 1)/\(k=h->b1 (dt s1 a f e vars)->4096<aK (dt s1 a f e vars)->v=qC 5)/\
   (k=h->b1 (dt s1 a f e vars)->aK (dt s1 a f e vars)<=4096->∃j s x p,v= .tuple #[Γ j,p,Δ 0]/\
    c8 w' j s x (dt s1 a f e vars) k (nW s1 q a f r e vars k)/\aH .i64 w' p vars)))
theorem MQ{g bN ga bO:Nat}{bP:x1}{s1 z f y:Λ}{aQ:Int}{G H:Λ}(h1:c8 w g bN sv s1 k G)(aw:c8 w ga bO bP z aQ H)(ay:aH .i64 w bb f)(R:aH .i64 w bv y)(hk:right k)(cw:∀x∈G,cp x k)(cz:∀x∈H,cp x aQ):
  ai x7 Hy [Γ g,bb,Γ ga,bv] w (Cr w s1 G f z H y k aQ):=by
 have cA:=ay.cells;have cB:=R.cells;have cC:=h1.2.2.1;have cD:=aw.2.2.1;have sub:∀{w:x3}{g:Nat}{sv:x1}{k:Int}{aV:x1},ad w g cU [sv,Δ k,aV]->w.rangeAt g (0+0) [sv]:=λR=>nF R (by
  intro j v bf
  match j,bf with
  |0,bf=>exact bf)
 refine hU func180 ?_;refine bj λg1 J dM bQ K=>?_;refine bj λbR U dN bg L=>?_;refine bj λbS dO dP aS M=>?_;refine bj λbT aa dQ az O=>?_;have dR:=K.lt;have dS:=L.lt;have dT:=M.lt;have dU:=O.lt;have dV:=bQ.size;have dW:=bg.size;have dX:=aS.size;have dY:=az.size;have ab:=((bQ.trans bg).trans aS).trans az;have K:ad aa g1 eT [Γ g]:=((K.ext bg).ext aS).ext az;have L:ad aa bR ap [bb]:=by rw[cA.1]at L;exact(L.ext aS).ext az
 have M:ad aa bS eT [Γ ga]:=M.ext az;have O:ad aa bT ap [bv]:=by rw[cB.1]at O;exact O
 refine aT (λv bU=>v= .bool false/\aa=bU) ?_ ?_
 rotate_left
 .intro ax aW;rw[aB Ψ (K.Qz rfl),cP eT.u];simp only[j9,aU];rw[aB Ψ (M.Qz rfl),cP eT.u];exact aW _ _ ⟨rfl,rfl⟩
 rintro _ _ ⟨rfl,rfl⟩;simp only[aU];refine aT (λv bh=>Ext aa bh/\∃c,v= .bool c/\(c=true↔¬(Fits s1 f/\Fits z y))) ?_ ?_
 rotate_left
 .intro ax aW;rw[aB Ψ (K.Qz rfl),aB Ψ (L.Qz rfl)];refine(Cf (h1.ext ab) (ay.ext ab)).mono ?_;rintro _ bU _ ⟨ac,c,rfl,aA⟩;simp only[bC,b7];refine⟨λaX=>aW _ _ ⟨ac,true,rfl,λ_ h=>?_,λ_=>rfl⟩,λbV=>?_⟩
  .have:=aA.2 h.1;rw[this]at aX;cases aX
  .have cE:c=true:=by cases c<;>simp_all
   rw[aB Ψ ((M.ext ac).Qz rfl),aB Ψ ((O.ext ac).Qz rfl)];refine(Cf ((aw.ext ab).ext ac) ((R.ext ab).ext ac)).mono ?_;rintro _ dZ _ ⟨cF,d,rfl,bW⟩;simp only[bC];refine aW _ _ ⟨ac.trans cF,_,rfl,λh ao=>?_,λh=>?_⟩
   .have:=bW.2 ao.2;rw[this]at h;cases h
   .cases d with
    |false=>rfl
    |true=>exact absurd ⟨aA.1 cE,bW.1 rfl⟩ h
 rintro _ bh ⟨aC,c,rfl,aA⟩;have bi:=ab.trans aC;rw[b7];refine⟨λaX ea cH _=>⟨bi.trans cH,λ_=>rfl,λh=>absurd h (aA.1 aX)⟩,λbV=>?_⟩;have aD:Fits s1 f/\Fits z y:=Classical.byContradiction λh=>by
  have:=aA.2 h;rw[bV]at this;cases this
 obtain⟨⟨eb,cI⟩,ec,cK⟩:=id aD;have ed:=cC.1;have ee:=cD.1;rw[aB Ψ ((L.ext aC).Qz rfl),aB Ψ ((O.ext aC).Qz rfl)];refine MO (ay.ext bi) (R.ext bi) Ω Ω λef eg eh bX ei cL=>?_;refine vU cL.ls (by rw[r8];omega) λej ek em m bY en bZ cM cN=>?_;have cO:=bZ.length_eq;rw[r8]at cO;refine(MM cN Ω).mono ?_;rintro aY b0 _ ⟨cQ,bl⟩;have eo:=aC.size;have ep:=bX.size;have er:=bY.size;have b2:Ext bh b0:=(bX.trans bY).then cQ (by rintro r a1 rfl;omega);obtain⟨cR,cS⟩:=Ce cM (j:=m.length) (p8 _);have es:=Cd m m.length;have P:v7 f y (dedup m m.length):=⟨cR,λx=>by rw[cS,o5,bZ.mem_iff,o9]⟩;generalize dedup m m.length=vars at*;refine bz ap.i λaZ et eu b3 cT=>?_;refine bk ap.i bl.ls.cells.1 bl.ls.cells.2 cT (by simp[x1.cells]) λb4 cV ev aE=>?_;have ew:=b2.size;have ey:=b3.size;have bm:Ext b0 b4:=b3.then cV (by rintro r a1 rfl;omega);have af:=(aC.trans b2).trans bm;have aF:=ab.trans af;have cG:=aE.lt;have b5:=bl.ls.ext bm;have aE:ad b4 aZ ap [aY]:=aE;rw[aB Ψ (aE.Qz rfl),aB Ψ ((K.ext af).Qz rfl),aB Ψ ((L.ext af).Qz rfl),aB Ψ ((M.ext af).Qz rfl),aB Ψ ((O.ext af).Qz rfl)];refine(MP (h1.ext aF) (aw.ext aF) b5 (ay.ext aF) (R.ext aF) cI.up cK.up Ω).mono ?_;rintro ez eA _ ⟨aI,cW,cX⟩;have b6:=aF.trans aI;by_cases ag:ph s1 f z y vars
 rotate_left
 .rw[cW ag,br,bt];simp only[bC,W5,bL];intro eB cY _;exact⟨b6.trans cY,λh=>absurd aD h,λ_=>⟨vars,P,λ_=>rfl,λh=>absurd h ag⟩⟩
 obtain⟨xs,ak,rfl,eC,cZ⟩:=cX ag;rw[br,bt];simp only[bC,Y6,aU];intro W am _ _;have a2:=(af.trans aI).trans am;have an:=b6.trans am;have K:=K.ext a2;have L:=L.ext a2;have M:=M.ext a2;have O:=O.ext a2;have c0:=(aE.ext aI).ext am;obtain⟨⟨aV,gs,b8,eD,_⟩,_⟩:=h1.ext an;obtain⟨⟨eE,eF,c1,eH,_⟩,_⟩:=aw.ext an;rw[aB Ψ (K.Qz rfl),aG cU.p 1 b8 rfl,aB Ψ (M.Qz rfl),aG cU.p 1 c1 rfl];simp only[bI,aj];refine⟨λX eI c2 _=>⟨an.trans c2,λh=>absurd aD h,λ_=>⟨vars,P,λh=>absurd ag h,λ_=>⟨λ_=>rfl,λh=>absurd h X,λh=>absurd h X,λh=>absurd h X⟩⟩⟩,λX=>?_⟩;have X:k=aQ:=X3.1 X;subst X;rw[aB Ψ (K.Qz rfl),aG cU.p 1 b8 rfl];have c3:=cZ.ext am;refine(va c3.ls).mono ?_;rintro aM aJ _ ⟨b9,c4,c5,_,c6⟩;have eJ:=bm.size;have eK:=aI.size;have eL:=am.size;have eM:=b9.size;obtain⟨aL,e,rfl,eN,a6⟩:∃(aL:Option Addr)(e:Int),aM= .tuple #[.pointer aL,Δ e]/\(e=0->aL≠ν)/\((e=1/\¬b1 (dt s1 f z y vars))\/(e=5/\b1 (dt s1 f z y vars)/\4096<aK (dt s1 f z y vars))\/(e=0/\b1 (dt s1 f z y vars)/\aK (dt s1 f z y vars)<=4096/\
   ∃B A C,aL=σ ⟨B,0,ν⟩/\W.heap.size<=B/\W.heap.size<=A/\(∀r,leads C r->W.heap.size<=r)/\c8 aJ B A C (dt s1 f z y vars) k (p9 (aK (dt s1 f z y vars)).toNat 0))):=by
  by_cases I:b1 (dt s1 f z y vars)
  .by_cases Q:aK (dt s1 f z y vars)<=4096
   .obtain⟨B,A,C,c7,c9,da,db,dc⟩:=c6 I Q ⟨hk,Ω,by have:=hk.1;omega⟩;exact⟨_,_,c7,(λ_ h=>by cases h),.inr (.inr ⟨rfl,I,Q,B,A,C,rfl,c9,da,db,dc⟩)⟩
   .exact⟨_,_,c5 I Ω,(λh=>Ω),.inr (.inl ⟨rfl,I,Ω⟩)⟩
  .exact⟨_,_,c4 I,(λh=>Ω),.inl ⟨rfl,I⟩⟩
 rw[br,bt];refine bz eT.i λca eO eP cb aN=>?_;refine bk eT.i rfl rfl aN (by simp[x1.cells]) λdd de eQ aN=>?_;have eR:=cb.size;have bp:Ext aJ dd:=cb.then de (by rintro r a1 rfl;omega);have cc:=b9.trans bp;have df:=an.trans cc;have eS:=aN.lt;simp only[bI,aj];refine⟨λdg eU dh _=>⟨df.trans dh,λh=>absurd aD h,λ_=>⟨vars,P,λh=>absurd ag h,λ_=>⟨λh=>absurd rfl h,λ_ I=>?_,λ_ I Q=>?_,λ_ I Q=>?_⟩⟩⟩,λeV=>?_⟩
 .rcases a6 with⟨rfl,_⟩|⟨_,h,_⟩|⟨_,h,_⟩
  .rfl
  .exact absurd h I
  .exact absurd h I
 .rcases a6 with⟨_,h⟩|⟨rfl,_⟩|⟨_,_,h,_⟩
  .exact absurd I h
  .rfl
  .omega
 .rcases a6 with⟨_,h⟩|⟨_,_,h⟩|⟨h,_⟩
  .exact absurd I h
  .omega
  .exact absurd h dg
 obtain⟨a7,di,B,A,C,rfl,eW,eX,eY,a8⟩:b1 (dt s1 f z y vars)/\aK (dt s1 f z y vars)<=4096/\
   ∃B A C,aL=σ ⟨B,0,ν⟩/\W.heap.size<=B/\W.heap.size<=A/\(∀r,leads C r->W.heap.size<=r)/\c8 aJ B A C (dt s1 f z y vars) k (p9 (aK (dt s1 f z y vars)).toNat 0):=by
  rcases a6 with⟨h,_⟩|⟨h,_⟩|⟨_,h⟩
  .omega
  .omega
  .exact h
 obtain rfl:e=0:=Ω
 have dj:(dt s1 f z y vars).length=vars.length:=Cp _ _ _ _ _;have eZ:=prod_bound a7;obtain⟨N,ba⟩:∃N:Nat,(aK (dt s1 f z y vars)).toNat=N:=⟨_,rfl⟩;rw[ba]at a8;have e0:0<N:=Ω
 have dk:=a8.ext bp;obtain⟨⟨bq,cd,ce,cg,dl⟩,⟨ch,ci,_⟩,_,e1⟩:=id dk;have e2:B<aJ.heap.size:=by obtain⟨⟨_,_,q,_⟩,_⟩:=id a8;exact q.lt
 have e3:A<aJ.heap.size:=by obtain⟨⟨_,_,_,_,q⟩,_⟩:=id a8;exact sS q Θ
 rw[aB Ψ (aN.Qz rfl),bJ,aR cU.p rfl,bH (cs:=[C]) bu.p bu.i rfl (sub ce)];refine sz.mono ?_;rintro _ aO _ ⟨Y,bc,rfl,e4,cj⟩;have e5:=bp.size;have e6:=Y.size;let S:Nat->Prop:=λr=>r=A;let av:=nW s1 G f z H y vars k;have bw:av.length=N:=by simp only[av];rw[Cq,ba]
 have dm:=(b5.ext aI).ext am;let dn:x3->Prop:=λw'=>ad w' g1 eT [Γ g]/\ad w' bR ap [bb]/\ad w' bS eT [Γ ga]/\ad w' bT ap [bv]/\ad w' aZ ap [aY]/\aH .i64 w' aY vars/\
  ad w' ca eT [Γ B]/\ad w' B cU [C,Δ k,bq]/\c8 w' g bN sv s1 k G/\c8 w' ga bO bP z k H/\aH .i64 w' bb f/\aH .i64 w' bv y/\aq .i64 ah w' cd C (dt s1 f z y vars)/\ad w' bc bu [C]/\aO.heap.size<=w'.heap.size
 have ck:=cc.trans Y;have facts:∀{a:x3},ae S aO a->dn a:=by
  intro a E;have Z:Ext W a:=ck.put E Ω;have bd:=an.trans Z;exact⟨K.ext Z,L.ext Z,M.ext Z,O.ext Z,c0.ext Z,dm.ext Z,(aN.ext Y).V E (by show¬(ca=A);omega),(ce.ext Y).V E (by show¬(B=A);exact ch),h1.ext bd,aw.ext bd,ay.ext bd,R.ext bd,
   bo (cg.ext Y) E (λr a1 he=>ci ((show r=A from he)▸a1)),cj.V E (by show¬(bc=A);omega),E.size⟩
 have cl:=sy (g:=bc) (B0:=aO.heap.size) (sv:=C) a7;rw[ba]at cl;refine mg.old ⟨Nat,false,kQ,#[Γ bc],0,_,_,_,λq w'=>ae S aO w'/\aq .i64 al w' A bq (upto av 0 q),λ_ _ _=>False,rfl,cl.s,
  ?_,λ_ _ E h=>⟨h.1.ext E,h.2.1.ext E,Y5 h.2.2 E.size⟩,λ_ _ _ E h=>⟨h.1.trans (E.V S),h.2.ext E⟩,λ_ _ _ _ _ h=>h,⟨cj,(cg.ext Y).ls,p8 _⟩,⟨ae.refl _ _,?_⟩,?_,?_,λ_ _ h=>h.elim,λ_ _ _ h=>h.elim⟩
 .rintro _ _ _ _ ⟨_,_,_,_,rfl,_⟩;rfl
 .rw[p5,bw];exact dl.ext Y
 .rintro _ aM q _ e7 ⟨_,_,e9⟩ ⟨bx,rfl,fa,gt,dp,fb,cm⟩ ⟨be,dq⟩;cases dp;let x:=cJ (dt s1 f z y vars) (q:Int);have cn:x.length=vars.length:=by simp only[x];rw[jn,dj]
  intro fc dr _ _;intro fd ds _ _;have bA:=dr.trans ds;obtain⟨f1,f2,f3,f4,f5,f6,f7,f8,f9,f10,f11,f12,f13,f14,f15⟩:=facts (be.trans (bA.V S));rw[aB Ψ (f1.Qz rfl),aB Ψ (f5.Qz rfl),aB Ψ (f2.Qz rfl)];refine(Ch (cm.ls.ext bA) f6 f11 P.1 (λp Q=>(P.2 p).2 (.inl Q)) cn Ω).mono ?_;rintro fe ff _ ⟨bB,fg,fh,du⟩;refine⟨.inl bB,?_⟩;refine(vb (f9.ext bB) du.ls).mono ?_;rintro _ fi _ ⟨rfl,dv⟩;obtain⟨dw,dx⟩:=vT s1 (e8 x vars f) G;have dy:oO s1 (e8 (cJ (dt s1 f z y vars) (q:Int)) vars f) G= .tuple #[Δ (bn s1 G (e8 x vars f)),Δ dw]:=dx;rw[dy,br,bt];intro fj dz _ _;have bD:=((bA.trans bB).trans dv).trans dz;obtain⟨f1,f2,f3,f4,f5,f6,f7,f8,f9,f10,f11,f12,f13,f14,f15⟩:=facts (be.trans (bD.V S));rw[aB Ψ (f3.Qz rfl),aB Ψ (f5.Qz rfl),aB Ψ (f4.Qz rfl)];refine(Ch (cm.ls.ext bD) f6 f12 P.1 (λp Q=>(P.2 p).2 (.inr Q)) cn Ω).mono ?_;rintro fk fm _ ⟨bE,fo,fp,dA⟩;refine⟨.inl bE,?_⟩;refine(vb (f10.ext bE) dA.ls).mono ?_;rintro _ fq _ ⟨rfl,dC⟩;obtain⟨dD,dE⟩:=vT z (e8 x vars y) H;have dF:oO z (e8 (cJ (dt s1 f z y vars) (q:Int)) vars y) H= .tuple #[Δ (bn z H (e8 x vars y)),Δ dD]:=dE;rw[dF,br,bt];intro fs dG _ _;have bF:=((bD.trans bE).trans dC).trans dG;obtain⟨f1,f2,f3,f4,f5,f6,f7,f8,f9,f10,f11,f12,f13,f14,f15⟩:=facts (be.trans (bF.V S));rw[aB Ψ (f7.Qz rfl),aG cU.p 2 f8 rfl,aB Ψ (f7.Qz rfl),aG cU.p 1 f8 rfl];refine AY.mono ?_;rintro _ ft _ ⟨rfl,bG⟩;refine⟨.inl bG,?_⟩;have dH:qf (bn s1 G (e8 x vars f)) (bn z H (e8 x vars y)) k= .tuple #[Δ (min (bn s1 G (e8 x vars f)+bn z H (e8 x vars y)) k),Δ 0]:=if_pos ⟨s6 hk cw,s6 hk cz⟩;rw[dH,iF (v:=Δ (min (bn s1 G (e8 x vars f)+bn z H (e8 x vars y)) k)) rfl,iF (v:=Δ 0) rfl];have cq:=dq.ext (bF.trans bG);have fu:(upto av 0 q).length=N:=by rw[p4,bw]
  rw[ic rfl au.u al.i cq Ω];refine ie al.i cq Ω λdI dJ fv cr=>?_;have ct:ae S aO dI:=(be.trans ((bF.trans bG).V S)).trans (dJ.mono λr _ h=>h);obtain⟨f1,f2,f3,f4,f5,f6,f7,f8,f9,f10,f11,f12,f13,f14,f15⟩:=facts ct;have dK:av[q]?=σ (min (bn s1 G (e8 x vars f)+bn z H (e8 x vars y)) k):=by
   simp only[av,nW];rw[x8,List.getElem?_range (by rw[ba];exact bx)];rfl
  rw[p7 dK]at cr;exact⟨⟨f14,f13.ls,f15⟩,⟨ct,cr⟩,λh=>by cases h⟩
 .rintro q fw bx ⟨cu,bK⟩;rw[show q=N from bx]at bK;intro fx bM _ _;obtain⟨f1,f2,f3,f4,f5,f6,f7,f8,f9,f10,f11,f12,f13,f14,f15⟩:=facts (cu.trans (bM.V S));rw[aB Ψ (f7.Qz rfl),aB Ψ (f5.Qz rfl)];intro fy aP _;rw[<-bw,p6]at bK;have dL:=an.trans ck;refine⟨((dL.put cu Ω).trans bM).trans aP,λh=>absurd aD h,λ_=>⟨vars,P,λh=>absurd ag h,λ_=>⟨λh=>absurd rfl h,λ_ h=>absurd a7 h,λ_ _ h=>Ω,λ_ _ _=>⟨B,A,C,aY,rfl,⟨⟨bq,cd,f8.ext aP,f13.ext aP,(bK.ext bM).ext aP⟩,⟨ch,ci,di⟩,a7,Cq _ _ _ _ _ _ _ _⟩,f6.ext aP⟩⟩⟩⟩
theorem hd.pair(h:hd l):l.Pairwise (·< ·):=V9.2 λi j hi a e=>h i j _ _ e (x6 hi) (x6 a)
theorem MR{m:Λ}(e:hd l)(hm:hd m)(h:∀x,x∈l↔x∈m):l=m:=by
 have f:l.Nodup:=e.pair.imp λh=>Ω
 have j:m.Nodup:=hm.pair.imp λh=>Ω
 exact List.Perm.eq_of_pairwise (le:=(·<= ·)) (λa b _ _ h1 p=>Int.le_antisymm h1 p) (e.pair.imp λh=>Int.le_of_lt h) (hm.pair.imp λh=>Int.le_of_lt h) ((List.perm_ext_iff_of_nodup f j).2 h)
theorem MS{vars:Λ}(h:v7 l l vars)(hu:hd l):vars=l:=MR h.1 hu λx=>by rw[h.2];simp
theorem Cs(h:l.Pairwise (·< ·)):hd l:=λi j x y e f p=>by
 have h1:=x4.1 f;have a:=x4.1 p;have:=V9.1 h i j h1.1 a.1 e;rw[h1.2,a.2]at this;exact this
theorem MT{x:Λ}(hu:l.Nodup)(h:x.length=l.length):e8 x l l=x:=by
 refine X2 λi=>?_;unfold e8;cases a:l[i]? with
 |none=>rw[x8,a,Y0 (by have:=List.getElem?_eq_none_iff.1 a;omega)];rfl
 |some v=>
  have hi:=(x4.1 a).1;rw[x8,a,Z7,qx hu a,v8,x6 (show i<x.length by omega)];rfl
theorem Ct{s:Λ}(hu:hd l)(h:s.length=l.length):dt s l s l l=s:=by
 refine X2 λi=>?_;unfold dt;cases a:l[i]? with
 |none=>rw[x8,a,Y0 (by have:=List.getElem?_eq_none_iff.1 a;omega)];rfl
 |some v=>
  have hi:=(x4.1 a).1;rw[x8,a,Z7,Cg hu a,Int.max_self,x6 (show i<s.length by omega)];unfold h0;rw[if_pos Ω,v8,u6,x6 (show i<s.length by omega)];rfl
theorem MU{s b:Λ}(hu:l.Pairwise (·< ·))(h:s.length=l.length)(I:dE s)(e:a.length=(aK s).toNat)(f:b.length=(aK s).toNat):nW s a l s b l l k=dZ k a b:=by
 have j:l.Nodup:=hu.imp λh=>Ω
 unfold nW;rw[Ct (Cs hu) h,LH I e f];apply List.map_congr_left;intro q _;rw[MT j (by rw[jn,h])]
theorem MV{s b:Λ}(hu:l.Pairwise (·< ·))(B:∀x∈l,0<=x)(h:s.length=l.length)(I:b1 s)(C:aK s<=4096)(E:a.length=(aK s).toNat)(F:b.length=(aK s).toNat)(f:Cr w s a l s b l k k v w'):
  Ext w w'/\∃e j q r,v= .tuple #[Γ e,r,Δ 0]/\c8 w' e j q s k (dZ k a b):=by
 obtain⟨G,_,f⟩:=f;have y:=Cs hu;have z:Fits s l:=⟨h.symm,Ml y B⟩;obtain⟨vars,H,_,J⟩:=f ⟨z,z⟩;have K:=MS H y;subst K;obtain⟨_,_,_,A⟩:=J λp M N O=>rfl;rw[Ct y h,MU hu h I.2 E F]at A;obtain⟨e,j,q,r,rfl,L,_⟩:=A rfl I C;exact⟨G,e,j,q,r,rfl,L⟩
theorem MW{s:Λ}(I:dE s):(bg s).Nodup:=(B5 I).imp λ{a b}h he=>by subst he;omega
theorem MX{s:Λ}{i:Nat}(I:dE s)(hi:(bg s)[i]?=σ t)(a:(bg s)[j]?=σ t):i=j:=ku (MW I) hi a
theorem MY{s:Λ}(I:dE s)(h:di s t):∃j:Nat,(bg s)[j]?=σ t:=X5.1 ((B4 I).2 h)
theorem s7{g m:Nat}{d:List (x1×x1)}(h:ad w g e cs)(hm:c4 w m d)(a:ae (λr=>r=m) w w'):ad w' g e cs:=h.V a (λhe=>sT h hm he)
theorem Cu{g m:Nat}{k:o4}{d:List (x1×x1)}(h:aq k e w g v l)(hm:c4 w m d)(a:ae (λr=>r=m) w w'):aq k e w' g v l:=bo h a (λ_ f he=>B7 h hm f he)
def s8(cs:Λ)(o:Int):Prop:=o∈cs/\∀d∈cs,cs.count d<cs.count o\/(cs.count d=cs.count o/\o<=d)
theorem MZ{i:Nat}{x:Int}(h:l[i]?=σ x)(y:Int):(l.take (i+1)).count y=(l.take i).count y+if y=x then 1 else 0:=by
 rw[u7,h,List.count_append];congr 1;simp only[o8,List.count_singleton];by_cases a:y=x
 .subst a;simp
 .rw[if_neg a,if_neg (by simpa using λh=>a h.symm)]
def gL(p:Int×Int):x1×x1:=(Δ p.1,Δ p.2)
theorem qD:Keys x7 al λv=>∃n,v=Δ n:=Keys.int al.u
theorem qE(E:List (Int×Int)):∀p∈E.map gL,∃n,p.1=Δ n:=λp a=>by
 obtain⟨q,_,rfl⟩:=l9.1 a;exact⟨_,rfl⟩
def wa(cs:Λ)(E:List (Int×Int)):Prop:=(∀x,x∈E.map (·.1)↔x∈cs)/\∀p∈E,p.2=(cs.count p.1:Nat)
theorem Cv{cs:Λ}{E:List (Int×Int)}(h:wa cs E){x:Int}(e:x∈cs):∃j:Nat,E[j]?=σ (x,((cs.count x:Nat):Int)):=by
 obtain⟨p,a,rfl⟩:=l9.1 ((h.1 x).2 e);obtain⟨j,f⟩:=X5.1 a;exact⟨j,by rw[f,<-h.2 p a]⟩
theorem Cw{cG:x1}{cs:Λ}(h:aH .i64 w cG cs)(av:cs≠[])(bg:cs.length<=1000000):ai x7 rO [cG] w λv w'=>Ext w w'/\∃o,v=Δ o/\s8 cs o:=by
 refine az func238 ?_;refine aC.cj (sB λm J hm W aL bh=>?_);rw[aW au.u (h.ext W)];refine bZ.range cs.length (λi U=>ae (λr=>r=m) J U/\∃E,c4 U m (E.map gL)/\wa (cs.take i) E) Ω ⟨ae.refl _ _,[],aL,by simp[wa]⟩ ?_ ?_
 .rintro i U aM hi ⟨G,E,A,f⟩ aw;obtain⟨x,X⟩:=aF (l:=cs) hi;have H:Ext w U:=W.put G Ω;have aN:∀y,(cs.take i).count y<=1000000:=λy=>by
   have:=List.count_le_length (a:=y) (l:=cs.take i);rw[o7]at this;omega
  refine bQ Ω ?_;rw[be au.u al.i Ψ (h.ext H) X];have P:=MZ X;have ay:∀y,y∈cs.take (i+1)↔y∈cs.take i\/y=x:=λy=>by
   rw[u7,X];simp
  by_cases I:x∈cs.take i
  .obtain⟨j,Y⟩:=Cv f I;have Q:(E.map gL)[j]?=σ (Δ x,Δ (((cs.take i).count x:Nat):Int)):=by rw[x8,Y];rfl
   rw[qh lL.u qD A (qE E) ⟨_,rfl⟩ Q];simp only[Bool.false_eq_true,if_false];have:=aN x;rw[aP,wrap_i64 Ω Ω];refine aC.cj (qi lL.u qD A (qE E) ⟨_,rfl⟩ (λL v0 Z ab M ac aO=>?_) (λZ R=>absurd rfl (R _ (x5 Q))));have aR:L=j:=A.uniq ab Q rfl;subst aR;rw[aP];have ad:(E.map gL).set L (Δ x,Δ ((((cs.take i).count x:Nat):Int)+1))=(E.set L (x,(((cs.take i).count x:Nat):Int)+1)).map gL:=by rw[U6];rfl
   rw[ad]at M;have aS:=(x4.1 Y).1;refine aw _ ⟨G.trans ac,_,M,λy=>?_,λp e=>?_⟩
   .rw[U6,qa (by rw[x8,Y];rfl),f.1,ay];exact⟨.inl,λh=>h.elim id (λh=>h▸I)⟩
   .obtain⟨q,s⟩:=X5.1 e;by_cases af:L=q
    .subst af;rw[Z0 aS]at s;cases s;show _=(((cs.take (i+1)).count x:Nat):Int);rw[P,if_pos rfl];omega
    .rw[Y8 af]at s;have ag:p.1≠x:=λhe=>af (A.uniq Q (show(E.map gL)[q]?=σ (gL p) by rw[x8,s];rfl) (by rw[gL,he]));rw[f.2 p (x5 s),P,if_neg ag,Nat.add_zero]
  .have R:∀p∈E.map gL,p.1≠V7 .i64 x:=λp e he=>by
    obtain⟨q,s,rfl⟩:=l9.1 e;have:q.1=x:=by simpa[gL]using he
    exact I ((f.1 x).1 (l9.2 ⟨q,s,this⟩))
   rw[sC lL.u qD ⟨_,_,ah.i⟩ A (qE E) ⟨_,rfl⟩ R];simp only[Bool.false_eq_true,if_false];rw[aP,wrap_i64 Ω Ω];refine aC.cj (qi lL.u qD A (qE E) ⟨_,rfl⟩ (λL v0 Z ab=>absurd rfl (R _ (x5 ab))) (λZ _ M ac aO=>?_));rw[aP];have ad:E.map gL++[(V7 .i64 x,V7 .i64 (0+1))]=(E++[(x,1)]).map gL:=by rw[Z4];rfl
   rw[ad]at M;have aV:(cs.take i).count x=0:=List.count_eq_zero.2 I;refine aw _ ⟨G.trans ac,_,M,λy=>?_,λp e=>?_⟩
   .rw[Z4,o9,f.1,ay];simp
   .rcases o9.1 e with e|e
    .have ag:p.1≠x:=λhe=>I ((f.1 x).1 (l9.2 ⟨p,e,he⟩));rw[f.2 p e,P,if_neg ag,Nat.add_zero]
    .rw[l7.1 e];show(1:Int)=(((cs.take (i+1)).count x:Nat):Int);rw[P,if_pos rfl,aV];rfl
 rintro U aM ⟨G,E,A,f⟩;rw[o5]at f;have H:Ext w U:=W.put G Ω;refine cn Ω ?_;refine(Kj (h.ext H) av).mono ?_;rintro _ aX bi ⟨rfl,ak⟩;have bj:=H.size;have bk:=ak.size;refine aC.cj (A2 lL.u (A.ext ak) λN bl bm aY bn aZ bo=>?_);refine⟨λpi C=>∃b B z left aA,pi=Δ b/\b∈cs/\Ext aX C/\hF C N m (E.map gL) left aA/\left=z.map gL/\(B++z).Perm E/\∀p∈B,cs.count p.1<cs.count b\/(cs.count p.1=cs.count b/\b<=p.1),λ_ C=>pb C N,
  ⟨vq cs,[],E,E.map gL,ν,rfl,(JX av).1,aY,aZ,rfl,List.Perm.refl _,λp e=>by cases e⟩,?_⟩
 rintro _ C ⟨b,B,z,left,aA,rfl,am,an,aB,rfl,S,ao⟩;refine A4 aB (λ_=>by show w.heap.size<=N;omega) (λa1=>?_) (λj p ap e aD bp O=>?_)
 .rw[iF (v:=.bool false) rfl,aU];have:z=[]:=List.map_eq_nil_iff.1 a1;subst this;rw[W7]at S;refine⟨(H.trans ak).trans an,b,rfl,am,λd a2=>?_⟩;obtain⟨q,s,rfl⟩:=l9.1 ((f.1 d).2 a2);exact ao q (S.mem_iff.2 s)
 .rw[iF (v:=.bool true) rfl,bL];refine A5 O ?_;obtain⟨q,s,rfl⟩:∃q,z[j]?=σ q/\gL q=p:=by
   rw[x8]at e;exact Y9.1 e
  have aE:q∈E:=S.mem_iff.1 (o9.2 (.inr (x5 s)));have bq:=f.2 q aE;have a6:q.1∈cs:=(f.1 q.1).1 (l9.2 ⟨q,aE,rfl⟩);obtain⟨a7,a8⟩:=Cv f am;have ba:(E.map gL)[a7]?=σ (Δ b,Δ ((cs.count b:Nat):Int)):=by rw[x8,a8];rfl
  rw[iF (v:=Δ q.1) rfl,iF (v:=Δ q.2) rfl];have aG:(B++[q]++z.eraseIdx j).Perm E:=by
   refine List.Perm.trans ?_ S;rw[X9];exact List.Perm.append_left B (vE s)
  have aI:pb ap N<pb C N:=by
   rw[sG O,sG aB];have:=Bj (x4.1 e).1;omega
  refine aT (λv bb=>ap=bb/\∃r:Bool,v= .bool r/\(r=true↔(cs.count b<cs.count q.1\/(cs.count q.1=cs.count b/\q.1<b)))) ?_ ?_
  .rintro _ _ ⟨rfl,r,rfl,V⟩;rw[b7];refine⟨λbc=>?_,λaJ=>?_⟩
   .have V:=V.1 bc;refine⟨⟨q.1,B++[q],z.eraseIdx j,_,_,rfl,a6,an.trans aD,O,(mG gL z j),aG,λp e=>?_⟩,aI⟩;rcases o9.1 e with e|e
    .have:=ao p e;omega
    .rw[l7.1 e];exact .inr ⟨rfl,Int.le_refl _⟩
   .have V:¬(cs.count b<cs.count q.1\/(cs.count q.1=cs.count b/\q.1<b)):=λh=>by rw[V.2 h]at aJ;cases aJ
    refine⟨⟨b,B++[q],z.eraseIdx j,_,_,rfl,am,an.trans aD,O,(mG gL z j),aG,λp e=>?_⟩,aI⟩;rcases o9.1 e with e|e
    .exact ao p e
    .rw[l7.1 e];omega
  .intro ax aq;have aK:∀K:x1->Prop,aa x7 (Instr.lookup lL (.map (σ m)) (Δ b) false) ap K=K (Δ ((cs.count b:Nat):Int)):=λK=>by
    rw[qh lL.u qD O.map (qE E) ⟨_,rfl⟩ ba];simp
   rw[aK,bP,aj];refine⟨λh1=>aq _ _ ⟨rfl,true,rfl,⟨λ_=>.inl Ω,λ_=>rfl⟩⟩,λh1=>?_⟩;rw[aK,bd,aj];refine⟨λbf=>?_,λbf=>aq _ _ ⟨rfl,false,rfl,⟨λh=>(by cases h),λh=>Ω⟩⟩⟩;rw[aQ];refine aq _ _ ⟨rfl,_,rfl,?_⟩;rw[decide_eq_true_eq];omega
theorem M0{g:Nat}{k:o4}{p:r9}(h:aq k e w g v l)(q:ad w j p cs)(x:e≠p)(s:leads v r):r≠j:=by
 obtain⟨rfl,_⟩:=bO h s;obtain⟨_,⟨rfl,_⟩|⟨_,_,_,f,_⟩⟩:=h
 .obtain⟨a,n,c,h,_⟩:=s;cases h
 .rintro rfl;unfold ad at q f;rw[q]at f;injection f with h1;injection h1 with z y;exact x y.symm
def M1(w:x3)(ag:Λ)(k:Int)(cs:Λ)(v:x1)(w':x3):Prop:=Ext w w'/\∃g m o D,v=Γ g/\eL w' g m ag k o D/\D.length<=(aK ag).toNat/\io ag (ij D o) cs/\s8 cs o
theorem M2{g bN:Nat}{cs:Λ}(h:c8 w g bN sv ag k cs)(aE:∀c∈cs,cp c k):ai x7 HF [Γ g] w (M1 w ag k cs):=by
 obtain⟨⟨aV,gs,a8,hm,ck⟩,⟨_,_,ba⟩,I,am⟩:=id h;have cl:=prod_bound I;have cm:=I.1;have bb:cs≠[]:=λhe=>by rw[he]at am;simp at am;omega
 refine hU func190 ?_;rw[cP eT.u];simp only[j9,aU];refine(mF h).mono ?_;rintro cG U _ ⟨O,cn,cq,aF⟩;refine bz au.i λan cr ct bc bd=>?_;have cw:=bd.lt;refine bk au.i aF.ls.cells.1 aF.ls.cells.2 bd (by simp[x1.cells]) λao bO cz ap=>?_;have ap:ad ao an au [cG]:=ap;have cA:=O.size;have cB:=bc.size;have bf:Ext U ao:=bc.put bO Ω;have bh:=aF.ext bf;have Z:=O.trans bf;refine aT (λu aq=>∃a A m o K L,u=Γ a/\Ext ao aq/\ad aq a eS [Γ A]/\ao.heap.size<=m/\fH aq A m K L ag k o []/\s8 cs o) ?_ ?_
 .rintro _ aq ⟨a,A,m,o,K,L,rfl,ab,e,cC,B,E⟩;have bP:=h.ext (Z.trans ab);have bQ:=ap.ext ab;have bR:=bh.ext ab;refine(o2 bP).mono ?_;rintro _ cD _ ⟨rfl,bS⟩;refine sz.mono ?_;rintro _ aG _ ⟨bT,bi,rfl,cE,bj⟩;have P:=bS.trans bT;have bl:=B.ext P;have bU:=bQ.ext P;have bm:=e.ext P;have bV:=bR.ext P;have bo:=hm.ext ((Z.trans ab).trans P);have Q:=bl.2.2.1;have bW:=(Z.trans ab).trans P;have cF:=Z.size;have bX:=sy (g:=bi) (B0:=aG.heap.size) (sv:=sv) I;refine mg.old ⟨Nat,false,kQ,#[Γ bi],_,_,_,_,λi w'=>ae (λr=>r=m) aG w'/\∃D,D.length<=i/\fH w' A m K L ag k o D/\∀(j:Nat)t,(bg ag)[j]?=σ t->ij D o t=if j<i then bn ag cs t else o,λ_ _ _=>False,rfl,bX.s,
   ?_,λ_ _ S h=>⟨h.1.ext S,h.2.1.ext S,Y5 h.2.2 S.size⟩,λ_ _ _ S ⟨h1,D,bY,bZ,ba⟩=>⟨h1.trans (S.V _),D,bY,bZ.ext S,ba⟩,λ_ _ _ _ _ h=>h,⟨bj,bo.ls,p8 _⟩,⟨ae.refl _ _,[],p8 _,bl,λj t _=>by rw[if_neg Ω];rfl⟩,?_,?_,λ_ _ h=>h.elim,λ_ _ _ h=>h.elim⟩
  .rintro _ _ _ _ ⟨_,_,_,_,rfl,_⟩;rfl
  .rintro _ aM i _ b0 ⟨cH,cI,b1⟩ ⟨hi,rfl,cK,gt,b2,cL,y⟩ ⟨av,D,bp,aI,aJ⟩;cases b2;have aK:(bg ag)[i]?=σ (cJ ag (i:Int)):=oV I.2 Ω;have b3:di ag (cJ ag (i:Int)):=vr I.2 hi;generalize cJ ag (i:Int)=t at*;have bq:=LO I.2 am aK;intro b4 aw _ _;intro b5 b6 _ _;have ay:=aw.trans b6;have az:ae (λr=>r=m) aG b5:=av.trans (ay.V _);rw[aB Ψ ((s7 bm Q az).Qz rfl),aB Ψ ((s7 bU Q az).Qz rfl),be au.u al.i Ψ (Cu bV Q az).ls bq];have aL:=aI.ext ay;refine(Bh aL.is (y.ext ay).ls (c:=bn ag cs t)).mono ?_;rintro _ cM _ ⟨_,b7⟩;obtain⟨rfl,aN,D',bu,bw⟩:=b7 ⟨b3,aE _ (x5 bq)⟩;have aO:=az.trans aN;have cN:=bu.2;refine⟨⟨s7 bj Q aO,(Cu bo Q aO).ls,Y5 b1 (Y5 ay.size aN.size)⟩,⟨aO,D',Ω,aL.put aN bw,λj s M=>?_⟩,λh=>by cases h⟩;rw[bu.cost aL.is.nodup bw.nodup];by_cases bx:j=i
   .subst bx;rw[aK]at M;cases M;rw[if_pos rfl,if_pos Ω]
   .rw[if_neg (λ(he:s=t)=>bx (MX I.2 (by rw[<-he];exact M) aK)),aJ j s M];by_cases h1:j<i
    .rw[if_pos h1,if_pos Ω]
    .rw[if_neg h1,if_neg Ω]
  .rintro i b0 rfl ⟨av,D,bp,aI,aJ⟩;rw[aB Ψ ((s7 bm Q av).Qz rfl)];intro b4 aw _;refine⟨(bW.put av Ω).trans aw,A,m,o,D,rfl,aI.is.ext aw,bp,⟨am,λt b8=>?_⟩,E⟩;obtain⟨j,M⟩:=MY I.2 b8;have:=(x4.1 M).1;rw[iI I.2]at this;rw[aJ j t M,if_pos this]
 intro ax bA;intro z ac _ _;have aP:=Z.trans ac;have bB:=ac;have aA:=h.ext aP;have bC:=bh.ext ac;have cO:=ac.size;rw[aB Ψ ((ap.ext ac).Qz rfl)];have bD:∀{a:Nat}{w':x3}{aM:x1}{o:Int},Ext z w'->z.heap.size<=a->(∃f,ad w' a eS [f])->aH .i64 w' aM ag->s8 cs o->
   ai x7 oE [aM,Δ k,Δ o] w' λC q=>aa x7 (Y3 C 0) q λN=>aa x7 (Y3 C 1) q λ_=>aC x7 (o6 eS (Γ a) N) q λ(_:Unit)G=>ax (Γ a) G:=by
  rintro a w' aM o x p ⟨f,e⟩ y E;refine(Bb y).mono ?_;rintro _ q _ ⟨aQ,_,_,aR⟩;obtain⟨A,m,rfl,b9,ca,B⟩:=aR I (aE _ E.1);obtain⟨K,L,B⟩:=B.at;rw[br,bt];have cb:=e.lt;have s':=x.size;refine bk eS.i rfl rfl (e.ext aQ) Ξ λG bE cQ cc=>?_;refine bA _ _ ⟨a,A,m,o,K,L,rfl,((bB.trans x).trans aQ).put bE Ω,cc,Ω,B.V bE (λhe=>by have he:A=a:=he;omega) (λhe=>by have he:m=a:=he;omega) (λr aS he=>?_),E⟩;exact M0 B.2.1 (e.ext aQ) Φ aS he
 have bF:∀{a:Nat}{w':x3}{aM:x1},Ext z w'->z.heap.size<=a->(∃f,ad w' a eS [f])->aH .i64 w' aM ag->
   ai x7 rO [cG] w' λaf U=>ai x7 oE [aM,Δ k,af] U λC q=>aa x7 (Y3 C 0) q λN=>aa x7 (Y3 C 1) q λ_=>aC x7 (o6 eS (Γ a) N) q λ(_:Unit)G=>ax (Γ a) G:=by
  rintro a w' aM x p ⟨f,e⟩ y;refine(Cw (bC.ext x).ls bb Ω).mono ?_;rintro _ U _ ⟨O,o,rfl,E⟩;exact bD (x.trans O) p ⟨f,e.ext O⟩ (y.ext O) E
 have bG:∀{a:Nat}{w':x3}{aM:x1},Ext z w'->z.heap.size<=a->(∃f,ad w' a eS [f])->aH .i64 w' aM ag->
   ai x7 uS [Γ g] w' λaW J=>(Ext z J\/cu x7 (u4 au (Γ an)) cG J/\True)/\
    ai x7 rO [cG] J λaf U=>ai x7 oE [aM,aW,af] U λC q=>aa x7 (Y3 C 0) q λN=>aa x7 (Y3 C 1) q λ_=>aC x7 (o6 eS (Γ a) N) q λ(_:Unit)G=>ax (Γ a) G:=by
  rintro a w' aM x p ⟨f,e⟩ y;refine(AZ (aA.ext x)).mono ?_;rintro _ J _ ⟨rfl,H⟩;exact⟨.inl (x.trans H),bF (x.trans H) p ⟨f,e.ext H⟩ (y.ext H)⟩
 have bH:ag.length<=1000:=Ω
 have bI:∀{a:Nat}{w':x3},Ext z w'->z.heap.size<=a->(∃f,ad w' a eS [f])->
   ai x7 zf [.agg #[sv]] w' λcd w0=>(Ext z w0\/cu x7 (u4 au (Γ an)) cG w0/\True)/\
    ai x7 uS [Γ g] w0 λaW J=>(Ext z J\/cu x7 (u4 au (Γ an)) cG J/\True)/\
    ai x7 rO [cG] J λaf U=>ai x7 oE [cd,aW,af] U λC q=>aa x7 (Y3 C 0) q λN=>aa x7 (Y3 C 1) q λ_=>aC x7 (o6 eS (Γ a) N) q λ(_:Unit)G=>ax (Γ a) G:=by
  rintro a w' x p ⟨f,e⟩;refine(A0 (hm.ext (aP.trans x)).ls bH).mono ?_;rintro aM J _ ⟨H,_,_,y⟩;exact⟨.inl (x.trans H),bG (x.trans H) p ⟨f,e.ext H⟩ y.ls⟩
 have ah:∀{w':x3}{R:x1->x3->Prop},Ext z w'->(∀a aj,z.heap.size<=a->Ext w' aj->(∃f,ad aj a eS [f])->R (Γ a) aj)->aC x7 (Instr.alloc eS true (.tuple #[])) w' R:=λ{w'}{R}x ce=>by
  have:=x.size;exact bz eS.i λa aj p cg a8=>ce a aj Ω cg ⟨_,a8⟩
 refine⟨?_,ah (Ext.refl _) λa cR p aD e=>⟨.inl aD,?_⟩⟩
 rotate_left
 .refine (o2 (aA.ext aD)).mono ?_;rintro _ cS _ ⟨rfl,aX⟩;obtain⟨f,e⟩:=e;exact⟨.inl (aD.trans aX),bI (aD.trans aX) p ⟨f,e.ext aX⟩⟩
 refine(o2 aA).mono ?_;rintro _ cT _ ⟨rfl,W⟩;refine⟨.inl W,?_,ah W λa cU p bJ e=>⟨.inl (W.trans bJ),bI (W.trans bJ) p e⟩⟩;refine(A0 (hm.ext (aP.trans W)).ls bH).mono ?_;rintro aM cV _ ⟨ch,_,_,y⟩;have X:=W.trans ch;refine⟨.inl X,?_,ah X λa cW p aY e=>⟨.inl (X.trans aY),bG (X.trans aY) p e (y.ext aY).ls⟩⟩;refine(AZ (aA.ext X)).mono ?_;rintro _ cX _ ⟨rfl,aZ⟩;have Y:=X.trans aZ;refine⟨.inl Y,?_,ah Y λa cY p a1 e=>⟨.inl (Y.trans a1),bF (Y.trans a1) p e ((y.ext aZ).ext a1).ls⟩⟩;refine(Cw (bC.ext Y).ls bb Ω).mono ?_;rintro _ cZ _ ⟨bK,o,rfl,E⟩;have ak:=Y.trans bK;have bL:=(y.ext aZ).ext bK;refine⟨?_,ah ak λa c0 p a2 e=>⟨.inl (ak.trans a2),bD (ak.trans a2) p e (bL.ext a2).ls E⟩⟩;refine(Bb bL.ls).mono ?_;rintro _ c1 _ ⟨ci,_,_,aR⟩;obtain⟨A,m,rfl,b9,ca,B⟩:=aR I (aE _ E.1);obtain⟨K,L,B⟩:=B.at;rw[br,bt];have a6:=ak.trans ci;refine bz eS.i λa c2 p a7 e=>?_;refine⟨.inl (a6.trans a7),?_⟩;have cb:=e.lt;obtain⟨c3,c4,t3⟩:=B.qe;have c5:=ak.size;have c6:=a6.size;refine bk eS.i rfl rfl e (by simp[x1.cells]) λc7 bM c9 cj=>?_;exact bA _ _ ⟨a,A,m,o,K,L,rfl,((bB.trans a6).trans a7).put bM Ω,cj,Ω,(B.ext a7).V bM (λhe=>by have he:A=a:=he;omega) (λhe=>by have he:m=a:=he;omega) (λr aS he=>by have he:r=a:=he;have:=t3 r aS;omega),E⟩
theorem Cx{acc:List cE}{g:cE}(h:∀x∈acc,x.1≠g.1):ii k acc g=acc++[g]:=by
 unfold ii;rw[if_neg];intro hm;obtain⟨x,a,he⟩:=l9.1 hm;exact h x a he
theorem M3{acc:List cE}{g h:cE}{i:Nat}(e:iP acc)(hi:acc[i]?=σ h)(he:h.1=g.1):ii k acc g=acc.set i (h.1,dZ k h.2 g.2):=by
 have f:=(x4.1 hi).1;unfold ii;rw[if_pos (l9.2 ⟨h,x5 hi,he⟩)];refine X2 λj=>?_;rw[x8,X1];by_cases a:i=j
 .subst a;rw[hi,Z7,if_pos he,if_pos rfl,if_pos f]
 .rw[if_neg a];cases p:acc[j]? with
  |none=>rfl
  |some y=>
   have:y.1≠g.1:=λq=>a (by
    have h1:(acc.map (·.1))[i]?=σ g.1:=by rw[x8,hi,Z7,he]
    have r:(acc.map (·.1))[j]?=σ g.1:=by rw[x8,p,Z7,q]
    exact ku e h1 r)
   rw[Z7,if_neg this]
theorem M4{α β:Type}{f:β->α->β}{b:β}{l:List α}{i:Nat}{x:α}(h:l[i]?=σ x):(l.take (i+1)).foldl f b=f ((l.take i).foldl f b) x:=by
 rw[u7,h,o8,List.foldl_append];rfl
def mJ(w:x3)(k:Int)(sizes:Λ)(x:ci):Prop:=(∃a,aq .i64 ah w a x.sv x.sc)/\∃m o D,eL w x.g m (bV sizes x.sc) k o D/\D.length<=4096/\io (bV sizes x.sc) (ij D o) x.cs
theorem mJ.ext{x:ci}(h:mJ w k sizes x)(a:Ext w w'):mJ w' k sizes x:=by
 obtain⟨⟨e,h1⟩,m,o,D,f,j⟩:=h;exact⟨⟨e,h1.ext a⟩,m,o,D,f.ext a,j⟩
theorem mJ.V{x:ci}(h:mJ w k sizes x)(q:ae S w w')(j:∀r,S r->∃e c,ad w r e c/\e≠fB/\e≠ah):mJ w' k sizes x:=by
 obtain⟨⟨z,h1⟩,m,o,D,A,B⟩:=h;obtain⟨sv,gs,f⟩:=A.at;have s:∀{g:Nat}{v:x1}{l:Λ},aq .i64 ah w g v l->∀r,leads v r->¬S r:=λhm r C I=>by
  obtain⟨e,c,a,_,p⟩:=j r I;exact b4 hm a (λhe=>p he.symm) C rfl
 refine⟨⟨z,bo h1 q (s h1)⟩,m,o,D,(f.V q (λI=>?_) (λI=>?_) (s f.2.1)).is,B⟩
 .obtain⟨e,c,a,p,_⟩:=j _ I;have y:=f.1;unfold ad at y a;rw[y]at a;exact p (Obj.cells.inj (Z2 a)).2.1.symm
 .obtain⟨e,c,a,_,_⟩:=j _ I;exact sT a f.2.2.1 rfl
def qF(w:x3)(g:Nat)(v:x1)(k:Int)(sizes:Λ)(L:List ci):Prop:=ba eE 2 cw w g v L/\∀x∈L,mJ w k sizes x
theorem qF.ext{g:Nat}{L:List ci}(h:qF w g v k sizes L)(a:Ext w w'):qF w' g v k sizes L:=⟨h.1.ext a,λx e=>(h.2 x e).ext a⟩
def M5(w:x3)(B a:Nat)(f:b2):Prop:=∃szv e gz g L,ad w a cv [bR f.name,Δ f.k,szv,e]/\aq .i64 ah w gz szv f.sizes/\qF w g e f.k f.sizes L/\L.map dU=fE f/\B<=a/\(∀r,leads szv r->B<=r)/\∀x∈L,∀r,leads x.sv r->B<=r
theorem M6{g bm:Nat}{L:List ci}{q:Λ}(h:e9 w g v L)(B:ad w bm ap [sv])(I:aH .i64 w sv q):
  ai x7 y4 [v,.func (.func y5) #[] #[Γ bm]] w λr w'=>Ext w w'/\((r=Δ (-1)/\∀x∈L,x.sc≠q)\/∃i:Nat,r=Δ (i:Int)/\∃x,L[i]?=σ x/\x.sc=q):=by
 refine az func177 ?_;rw[ez gi.u h.1];refine cd.range L.length (λi _ J=>Ext w J/\∀x∈L.take i,x.sc≠q) h.1.le ⟨Ext.refl _,λc a=>by simp at a⟩ ?_ ?_
 .rintro i _ J k hi ⟨f,s⟩ hk;refine bQ Ω ?_;obtain⟨x,y⟩:=aF (l:=L) hi;rw[s3 rfl (h.ext f) y];show ai x7 y5 [jW x,Γ bm] J _;obtain⟨⟨E,hm⟩,_⟩:=(h.ext f).at y;refine az func178 ?_;refine bj λak U G j z=>?_;have z:ad U ak cT [x.sv,Γ x.g]:=by
   obtain⟨_,_,_,e⟩:=dg hm.ls;simp only[jW,eE,e]at z ⊢;exact z
  rw[aL cT.p 0 z rfl,aB Ψ ((B.ext (f.trans j)).Qz rfl)];refine(IZ (hm.ls.ext j) (I.ext (f.trans j))).mono ?_;rintro _ H _ ⟨rfl,A⟩;rw[aj];refine⟨λhe=>⟨(f.trans j).trans A,.inr ⟨i,rfl,x,y,he⟩⟩,λC=>?_⟩;rw[aP];refine hk _ _ ⟨(f.trans j).trans A,λc a=>?_⟩;rw[u7,y]at a;rcases o9.1 a with a|a
  .exact s c a
  .simp at a;subst a;exact C
 .rintro _ J k ⟨f,s⟩;rw[o5]at s;rw[aQ,aj];exact⟨λh=>Ω,λ_=>⟨f,.inl ⟨rfl,s⟩⟩⟩
def eM(f:b2)(i:Nat):List cE:=((f.funs.take i).map (hZ f.sizes f.k)).foldl (ii f.k) []
theorem Cy{f:b2}(a:fe N f)(i:Nat):(∀g∈eM f i,fG f.sizes f.k g)/\iP (eM f i)/\(eM f i).length<=i:=by
 have:=vQ (sizes:=f.sizes) (k:=f.k) (by have:=a.k.1;omega) (l:=(f.funs.take i).map (hZ f.sizes f.k)) (acc:=[]) (λh ao=>by cases ao) List.nodup_nil λg j=>by
  obtain⟨x,p,rfl⟩:=l9.1 j;exact pf a (V5 p)
 refine⟨this.1,this.2.1,?_⟩;have e:=this.2.2;rw[List.length_nil,u9,X6,o7]at e;exact Y5 e (Nat.min_le_left _ _)
theorem wb{f:b2}{i:Nat}{x:cm}(h:f.funs[i]?=σ x):eM f (i+1)=ii f.k (eM f i) (hZ f.sizes f.k x):=by
 unfold eM;rw[u7,h,o8,Z4,List.foldl_append];rfl
theorem Cz(f:b2):eM f f.funs.length=fp f:=by unfold eM fp;rw[o5]
theorem wc{L:List ci}{i:Nat}{x:ci}{D:List cE}(h:L.map dU=D)(a:L[i]?=σ x):dU x∈D:=by rw[<-h];exact l9.2 ⟨x,x5 a,rfl⟩
def M7(w:x3)(f:b2)(v:x1)(w':x3):Prop:=Ext w w'/\((¬lY f.funs<=16384/\∃e:Int,e≠0/\v= .tuple #[.pointer ν,Δ e])\/∃a,v= .tuple #[Γ a,Δ 0]/\M5 w' w.heap.size a f)
theorem s9{g a:Nat}{sc cs:Λ}(hm:aq .i64 ah w g sv sc):∀u∈eE ⟨sv,a,sc,cs⟩,u.oneCell'=true:=λu hu=>by
 simp[eE]at hu;rcases hu with rfl|rfl
 .exact hm.ls.cells.2
 .rfl
theorem M8{bN:Nat}{f:b2}(bP:k8 w bN f)(G:fe N f)(bS:N<=60000)(cZ:f.name≠[]/\∀b∈f.name,bM b=true):
  ai x7 GR [Γ bN] w (M7 w f):=by
 have hk:=G.k;refine az func124 ?_;refine(Mv bP G bS cZ).mono ?_;rintro _ J _ ⟨aJ,e,rfl,he⟩;rw[bI,aj];refine⟨λbU=>⟨aJ,.inl ⟨λh=>bU (he h),e,bU,rfl⟩⟩,λeo=>?_⟩;have bW:=bP.ext aJ;obtain⟨szv,aM,gz,bc,bX,c0,bd,aN⟩:=id bW;have ep:bc.length<=256:=by rw[aN.1];exact G.k0
 rw[aG cv.p 3 bX rfl,jl dK.u bd];refine cd.range bc.length (λi l U=>∃g L,Ext J U/\e9 U g l L/\Sem U f.k f.sizes L/\L.map dU=eM f i/\(∀r,leadsTo l r->J.heap.size<=r)/\∀x∈L,∀r,leads x.sv r->J.heap.size<=r) (rZ bd)
  ⟨0,[],Ext.refl _,⟨ba.nil _ _ _ _ _,λx E=>(by cases E)⟩,λx E=>(by cases E),rfl,λr A=>(fq A).elim,λx E=>(by cases E)⟩ ?_ ?_
 .rintro i l U c1 hi ⟨g,L,Y,ay,aO,H,P,aA⟩ c2;obtain⟨d,bY⟩:=aF (l:=bc) hi;obtain⟨x,aQ⟩:∃x,f.funs[i]?=σ x:=⟨_,x6 (by have:=aN.1;omega)⟩;have b0:=x5 aQ;have c3:=aN.2 i x d aQ bY;have Z:=pf G b0;obtain⟨c4,c5,er⟩:=Cy G i;have c6:L.length<=i:=by have b3:=congrArg R6 H;rw[u9]at b3;omega
  refine bQ Ω ?_;refine aT (λl' aS=>∃Q aa,Ext J aS/\e9 aS Q l' aa/\Sem aS f.k f.sizes aa/\aa.map dU=eM f (i+1)/\(∀r,leadsTo l' r->J.heap.size<=r)/\∀x∈aa,∀r,leads x.sv r->J.heap.size<=r) ?_ ?_
  .rintro l' aS ⟨Q,aa,h1,c7,c9,da,db⟩;rw[aP];exact c2 _ _ ⟨Q,aa,h1,c7,c9,da,db⟩
  intro ax b5;refine nB (α:=hc) cw.p rfl dK.u cw.i (bT bd Y) bY λcs be=>?_;have b7:cs.length=2:=an.len be;refine bz cw.i λak es et dc dd=>?_;refine b6 (vs:=cs) cw.i b7 rfl (an.one be) dd λde df eu di=>?_;have K:Ext U de:=dc.put df Ω;rw[bH cw.p cw.i b7 di.range];refine(MF G bS b0 c3 (bT be K)).mono ?_;rintro _ dk _ ⟨dl,sv,gs,b8,dm,dn,rfl,ev,ab,b9⟩;rw[br,bt];refine bz ap.i λbm ew ey dp dq=>?_;refine bk ap.i ab.ls.cells.1 ab.ls.cells.2 dq (by simp[x1.cells]) λca dr eA aU=>?_;have bf:Ext dk ca:=dp.put dr Ω;have aU:ad ca bm ap [sv]:=aU;rw[ki];have bg:=(K.trans dl).trans bf;have eB:=bg.size;have eC:=Y.size;refine(M6 (ay.ext bg) aU (ab.ls.ext bf)).mono ?_;rintro _ eD _ ⟨aV,A⟩;have aW:=bg.trans aV;have cb:=bf.trans aV;have bh:=ab.ext cb;have cc:=b9.ext cb;have ce:=aU.ext aV;have cg:=ay.ext aW;have bi:=aO.ext aW;rcases A with⟨rfl,ds⟩|⟨ch,rfl,y,B,aX⟩
  .refine bQ Ω ?_;rw[aB Ψ (ce.Qz rfl),dh (cs:=#[sv,Γ b8]) (by obtain⟨_,_,_,rfl⟩:=dg ab.ls;kernel_rfl)];let a:ci:=⟨sv,b8,bl x.scope,(hZ f.sizes f.k x).2⟩;have bn:∀u∈eE a,u.oneCell'=true:=s9 bh;refine h2 (f:=eE) (a:=a) gi.u cT.i Ω rfl rfl λeF eH dt eI af du=>?_;have ag:=cg.ext af;refine ik (f:=eE) (a:=a) gi.u cT.i rfl ag.1 (by simpa using du.sl) bn Ω Ω λaC Q eJ aD bp aE=>?_;have cj:=bh.ext af;have aY:∀{r:Nat},leadsTo l r->∃c,ad dt r cT c:=λA=>by
    obtain⟨rfl,c,C⟩:=ef ag.1 A;exact⟨c,C⟩
   refine b5 _ _ ⟨Q,L++[a],((Y.trans aW).trans af).then aE (λr A he=>by have:=P r he;omega),e9.mk aD λz s=>?_,λz s=>?_,?_,λr A=>?_,λz s r A=>?_⟩
   .rcases o9.1 s with s|s
    .have:=(ag.2 z s).V aE λr A he=>(ag.2 z s).2.1 r A (ag.1.leads he).1;exact⟨this.1,this.2.2⟩
    .rw[l7.1 s];exact⟨⟨gs,bo cj aE λr A he=>by obtain⟨c,C⟩:=aY he;exact b4 cj C Φ A rfl⟩,Z.scope⟩
   .rcases o9.1 s with s|s
    .exact (bi.ext af).row ag aE z s
    .rw[l7.1 s];exact⟨dm,dn,vY (cc.ext af) aE λr A=>aY A⟩
   .rw[Z4,H,wb aQ,Cx]
    .rfl
    .intro c I dv;rw[<-H]at I;obtain⟨z,s,rfl⟩:=l9.1 I;exact ds z s dv
   .rcases bp r A with h|h
    .exact P r h
    .have:=af.size;have:=aV.size;omega
   .rcases o9.1 s with s|s
    .exact aA z s r A
    .rw[l7.1 s]at A;have b3:=(bO ab A).1;have:=K.size;omega
  .refine cn Ω ?_;intro eK R _ _;have bq:=cg.ext R;have ck:=(x4.1 B).1;obtain⟨dw,dx,aZ⟩:=(bi.ext R) y (x5 B);have cl:=ce.ext R;have cm:=bh.ext R;have dy:=cc.ext R;rw[dj rfl gi.u cT.i bq.1 ck,aR cT.p rfl,aB Ψ (bq.1.range B 1 _ rfl),aB Ψ (cl.Qz rfl),aB Ψ (cl.Qz rfl)];have al:fG f.sizes f.k (dU y):=c4 _ (wc H B);rw[aX]at aZ;have cq:∀{c:Int},0<=c/\c<=f.k->cp c f.k:=λh=>⟨hk,h.1,h.2⟩;refine(MQ aZ dy cm.ls cm.ls hk (λc I=>cq (al.im c I)) (λc I=>cq (Z.im c I))).mono ?_;intro eL cr _ dz;have dA:y.cs.length=(aK (bV f.sizes (bl x.scope))).toNat:=by have:=al.len;rw[show(dU y).1=y.sc from rfl,aX]at this;exact this
   have dC:b1 (bV f.sizes (bl x.scope)):=b9.2.2.1;obtain⟨bu,ct,cu,cz,eN,rfl,dD⟩:=MV Z.up (λv dE=>(Z.scope.1 v dE).1) (by simp[bV];rfl) dC Z.small dA Z.len dz;rw[gW,gX,gY];have S:=bq.ext bu;rw[dj rfl gi.u cT.i S.1 ck,aR cT.p rfl];let a:ci:=⟨y.sv,ct,y.sc,dZ f.k y.cs (hZ f.sizes f.k x).2⟩;refine pa (f:=eE) (j:=1) (a:=y) (a':=a) eT.i rfl rfl S.1 B rfl Ω λdF a1 eO dG=>?_;have aY:∀{r:Nat},leadsTo l r->∃c,ad cr r cT c:=λA=>by
    obtain⟨rfl,c,C⟩:=ef S.1 A;exact⟨c,C⟩
   refine b5 _ _ ⟨g,L.set ch a,((Y.trans aW).trans (R.trans bu)).then a1 (λr A he=>by have:=P r he;omega),e9.mk dG λz s=>?_,λz s=>?_,?_,P,λz s=>?_⟩
   .have cA:∀z∈L,(∃bw,aq .i64 ah dF bw z.sv z.sc)/\js z.sc:=λz s=>by
     have:=(S.2 z s).V a1 λr A he=>(S.2 z s).2.1 r A (S.1.leads he).1;exact⟨this.1,this.2.2⟩
    rcases W3 s with s|rfl
    .exact cA z s
    .exact cA y (x5 B)
   .rcases W3 s with s|rfl
    .exact ((bi.ext R).ext bu).row S a1 z s
    .refine⟨cu,cz,vY ?_ a1 λr A=>aY A⟩;show c8 cr ct cu cz (bV f.sizes y.sc) f.k _;rw[aX];exact dD
   .rw[U6,H,wb aQ,M3 (g:=hZ f.sizes f.k x) c5 (i:=ch) (h:=dU y) (by rw[<-H,x8,B];rfl) aX];rfl
   .rcases W3 s with s|rfl
    .exact aA z s
    .exact aA y (x5 B)
 .rintro l U c1 ⟨g,L,Y,ay,aO,H,P,aA⟩;refine cn Ω ?_;rw[aN.1,Cz]at H;have c6:L.length<=256:=by
   have:=(k6 G).2.2;rw[<-H,u9]at this;have:=G.k0;omega
  refine(MK ay aO Ω).mono ?_;rintro eP cB _ ⟨cC,cD,dH⟩;have dI:Ext J cB:=Y.then cC λr A he=>by have:=P r he;omega
  have dJ:Sem cB f.k f.sizes (L.filter fV):=λz s=>(aO.row ay cC) z (S4.1 s).1;have eQ:(L.filter fV).length<=L.length:=List.length_filter_le _ _;refine(MC cD Ω).mono ?_;rintro _ cE _ ⟨cF,M,a2,dL,cG⟩;have dM:Ext J cE:=dI.then cF λr A he=>by have:=P r (dH r he);omega
  have cH:Sem cE f.k f.sizes M:=λz s=>(dJ.row cD cF) z (a2.mem_iff.1 s);have eR:M.length<=256:=by rw[a2.length_eq];omega
  have dN:∀x∈M,∀r,leads x.sv r->J.heap.size<=r:=λx E=>aA x (S4.1 (a2.mem_iff.1 E)).1;have cI:M.map dU=fE f:=by
   refine LC G ?_ ?_
   .refine (a2.map dU).trans ?_;rw[<-H,List.filter_map];exact .refl _
   .rw[List.pairwise_map];refine V9.2 λp q dO cJ dP=>?_;exact dL p q _ _ (X4 _) dP cJ (x6 dO) (x6 cJ)
  intro eS a6 _ _;have am:=dM.trans a6;have eU:=bW.ext am;have bx:=bX.ext am;rw[aG cv.p 0 bx rfl,aG cv.p 1 bx rfl,aG cv.p 2 bx rfl];refine(kX (c0.ls.ext am) (by have:=G.sizes.2.1;omega)).mono ?_;rintro aH cK _ ⟨W,dQ,eV,bA⟩;refine⟨.inl W,?_⟩;rw[dh (cs:=#[bR f.name,Δ f.k,aH,.slice ν 0 0]) (by obtain⟨_,_,_,rfl⟩:=dg bA.ls;kernel_rfl)];refine bj λX dR eW a7 bB=>?_;have bB:ad dR X cv [bR f.name,Δ f.k,aH,.slice ν 0 0]:=bB;have eX:=(am.trans W).trans a7;have dS:=((cG.ext a6).ext W).ext a7;have eY:=((cH.ext a6).ext W).ext a7;rw[ez gi.u dS.1];refine bZ.range M.length (λi ao=>∃aM gr O,Ext cK ao/\ad ao X cv [bR f.name,Δ f.k,aH,aM]/\qF ao gr aM f.k f.sizes O/\O.map dU=(M.take i).map dU/\O.length=i/\(∀r,leadsTo aM r->cK.heap.size<=r)/\∀x∈O,∀r,leads x.sv r->J.heap.size<=r) Ω
   ⟨_,0,[],a7,bB,⟨ba.nil _ _ _ _ _,λx E=>(by cases E)⟩,rfl,rfl,λr A=>(fq A).elim,λx E=>(by cases E)⟩ ?_ ?_
  rotate_left
  .rintro ao dT ⟨aI,gr,O,au,av,bC,a8,_,_,bD⟩;rw[o5,cI]at a8;refine cn Ω ?_;have eZ:=aJ.size;have e0:=am.size;have e1:=W.size;exact⟨(aJ.trans (am.trans W)).trans au,.inr ⟨X,rfl,aH,aI,dQ,gr,O,av,bA.ext au,bC,a8,Ω,λr A=>by have:=(bO bA A).1;omega,λx E r A=>by have:=bD x E r A;omega⟩⟩
  rintro i ao dT hi ⟨aI,gr,O,au,av,bC,a8,dV,cL,bD⟩ dW;obtain⟨y,B⟩:=aF (l:=M) hi;have cM:=(a6.trans W).trans au;have cN:=cG.ext cM;have cO:=cN.at B;obtain⟨dw,dx,aZ⟩:=(cH.ext cM) y (x5 B);have al:fG f.sizes f.k (dU y):=sP G _ (wc cI B);refine bQ Ω ?_;rw[s3 rfl cN B];refine bz cT.i λgy e2 e3 dX dY=>?_;refine b6 (vs:=eE y) cT.i rfl rfl cO.one dY λea eb e4 ec=>?_;have ed:Ext ao ea:=dX.put eb Ω;intro e5 cP _ _;have bE:=ed.trans cP;have cQ:=ec.ext cP;have ee:=av.ext bE;rw[aG cv.p 3 ee rfl,aL cT.p 0 cQ rfl,aL cT.p 1 cQ rfl];refine(M2 (aZ.ext bE) λc I=>⟨hk,(al.im c I).1,(al.im c I).2⟩).mono ?_;rintro _ e6 _ ⟨bF,ac,m,o,D,rfl,eg,eh,ei,_⟩;refine⟨.inl bF,?_⟩;have cR:=bE.trans bF;obtain⟨⟨bw,cS⟩,_,e7⟩:=cO;have cU:=cS.ext cR;rw[dh (cs:=#[y.sv,Γ ac]) (by obtain⟨_,_,_,e⟩:=dg cS.ls;rw[e];kernel_rfl)];let a:ci:=⟨y.sv,ac,y.sc,y.cs⟩;have bn:∀u∈eE a,u.oneCell'=true:=s9 cU;refine h2 (f:=eE) (a:=a) dK.u cw.i Ω rfl rfl λv25 e8 bG fa K ej=>?_;refine⟨.inl (bF.trans K),?_⟩;have aw:=cR.trans K;have bb:=bC.ext aw;refine ik (f:=eE) (a:=a) dK.u cw.i rfl bb.1 (by simpa using ej.sl) bn Ω Ω λaC Q ek aD bp cV=>?_;have fb:=au.size;have fc:=aw.size;have bK:ad ek X cv [bR f.name,Δ f.k,aH,aI]:=(av.ext aw).V cV λhe=>by
   obtain⟨rfl,c,C⟩:=ef bb.1 he;have h1:=av.ext aw;unfold ad at C h1;rw[h1]at C;exact absurd (Obj.cells.inj (Z2 C)).2.1 Φ
  rw[bJ,aR cv.p rfl];have cW:aC.cells= #[aC]/\aC.oneCell'=true:=by
   obtain⟨_,_,_,_,_,rfl,_⟩:=aD.sl;exact⟨rfl,rfl⟩
  refine bk dK.i cW.1 cW.2 bK Ξ λem cX fd en=>?_;rw[aP];have bL:ae (λr=>r=X\/leadsTo aI r) bG em:=(cV.mono λr _ h=>.inr h).trans (cX.mono λr _ h=>.inl h);have cY:∀r,(r=X\/leadsTo aI r)->∃e c,ad bG r e c/\e≠fB/\e≠ah:=λr A=>by
   rcases A with rfl|A
   .exact⟨_,_,av.ext aw,Φ,Φ⟩
   .obtain⟨rfl,c,C⟩:=ef bb.1 A;exact⟨_,c,C,Φ,Φ⟩
  refine dW _ ⟨aC,Q,O++[a],?_,en,⟨aD.V cX λr A he=>?_,λz s=>?_⟩,?_,by rw[r8,dV];rfl,λr A=>?_,λz s=>?_⟩
  .exact (au.trans aw).then bL λr A he=>by
    rcases he with rfl|he
    .omega
    .have:=cL r he;omega
  .have he:r=X:=he;subst he;obtain⟨rfl,c,C⟩:=ef aD A;unfold ad at C bK;rw[bK]at C;exact absurd (Obj.cells.inj (Z2 C)).2.1 Φ
  .rcases o9.1 s with s|s
   .exact (bb.2 z s).V bL cY
   .rw[l7.1 s];refine mJ.V (w:=bG) ⟨⟨bw,cU.ext K⟩,m,o,D,eg.ext K,?_,ei⟩ bL cY;have:=al.small;exact Y5 eh (by show(aK (bV f.sizes (dU y).1)).toNat<=4096;omega)
  .rw[Z4,a8,u7,B,Z4];rfl
  .rcases bp r A with h|h
   .exact cL r h
   .omega
  .rcases o9.1 s with s|s
   .exact bD z s
   .rw[l7.1 s];exact dN y (x5 B)
theorem ep{a:r9}{c f:List x1}(h:ad w r e c)(h':ad w r a f):e=a:=by
 unfold ad at h h';rw[h]at h';exact(Obj.cells.inj (Z2 h')).2.1
theorem cC{α:Type}{f:α->List x1}{k:Nat}{a:r9}{g:Nat}{L:List α}(h:ba f k e w g v L)(p:ad w j a cs)(q:e≠a):¬leadsTo v j:=λr=>by
 obtain⟨rfl,c,s⟩:=ef h r;exact q (ep s p)
structure k9 where
 v:x1
 l:Λ
def nX(h:k9):List x1:=[h.v]
def hK(w:x3)(g:Nat)(v:x1)(aS:List k9):Prop:=ba nX 1 au w g v aS/\∀h∈aS,∃a,aq .i64 al w a h.v h.l
theorem hK.ext{g:Nat}{aS:List k9}(h:hK w g v aS)(a:Ext w w'):hK w' g v aS:=⟨h.1.ext a,λx e=>by
 obtain⟨f,hm⟩:=h.2 x e;exact⟨f,hm.ext a⟩⟩
theorem hK.qG{g:Nat}{aS:List k9}(h:hK w g v aS)(f:ae S w w')(j:∀r,S r->∃e c,ad w r e c/\e≠al):∀h∈aS,∃a,aq .i64 al w' a h.v h.l:=λx p=>by
 obtain⟨a,hm⟩:=h.2 x p;exact⟨a,bo hm f λr q I=>by
  obtain⟨e,c,s,y⟩:=j r I;exact b4 hm s (λhe=>y he.symm) q rfl⟩
theorem hK.V{g:Nat}{aS:List k9}(h:hK w g v aS)(p:ae S w w')(q:∀r,S r->∃e c,ad w r e c/\e≠al/\e≠au):hK w' g v aS:=
 ⟨h.1.V p λr a I=>by
  obtain⟨e,c,f,_,j⟩:=q r I;exact cC h.1 f (λhe=>j he.symm) a,h.qG p λr a=>by
  obtain⟨e,c,f,j,_⟩:=q r a;exact⟨e,c,f,j⟩⟩
def nY(w:x3)(k:Int)(sizes:Λ)(x:ci):Prop:=(∃a,aq .i64 ah w a x.sv x.sc)/\∃e f,c8 w x.g e f (bV sizes x.sc) k x.cs
theorem nY.ext{x:ci}(h:nY w k sizes x)(a:Ext w w'):nY w' k sizes x:=by
 obtain⟨⟨e,h1⟩,f,j,p⟩:=h;exact⟨⟨e,h1.ext a⟩,f,j,p.ext a⟩
theorem CA{g s:Nat}{x:x1}{cs:Λ}(h:c8 w g s x ag k cs)(j:ae S w w')(p:∀r,S r->∃e c,ad w r e c/\e≠cU/\e≠ah/\e≠al):c8 w' g s x ag k cs:=by
 obtain⟨⟨aV,gs,h1,y,z⟩,A⟩:=h;refine⟨⟨aV,gs,h1.V j λI=>?_,bo y j λr q I=>?_,bo z j λr q I=>?_⟩,A⟩
 .obtain⟨e,c,a,f,_⟩:=p g I;exact f (ep a h1)
 .obtain⟨e,c,a,_,f,_⟩:=p r I;exact b4 y a (λhe=>f he.symm) q rfl
 .obtain⟨e,c,a,_,_,f⟩:=p r I;exact b4 z a (λhe=>f he.symm) q rfl
theorem nY.V{x:ci}(h:nY w k sizes x)(a:ae S w w')(f:∀r,S r->∃e c,ad w r e c/\e≠cU/\e≠ah/\e≠al):nY w' k sizes x:=by
 obtain⟨⟨j,h1⟩,p,q,s⟩:=h;refine⟨⟨j,bo h1 a λr y I=>?_⟩,p,q,CA s a f⟩;obtain⟨e,c,z,_,A,_⟩:=f r I;exact b4 h1 z (λhe=>A he.symm) y rfl
def nZ(w:x3)(g:Nat)(v:x1)(k:Int)(sizes:Λ)(L:List ci):Prop:=ba eE 2 hv w g v L/\∀x∈L,nY w k sizes x
theorem nZ.ext{g:Nat}{L:List ci}(h:nZ w g v k sizes L)(a:Ext w w'):nZ w' g v k sizes L:=⟨h.1.ext a,λx e=>(h.2 x e).ext a⟩
theorem nZ.V{g:Nat}{L:List ci}(h:nZ w g v k sizes L)(p:ae S w w')(q:∀r,S r->∃e c,ad w r e c/\e≠hv/\e≠cU/\e≠ah/\e≠al):nZ w' g v k sizes L:=
 ⟨h.1.V p λr a I=>by
  obtain⟨e,c,f,j,_⟩:=q r I;exact cC h.1 f (λhe=>j he.symm) a,λx s=>(h.2 x s).V p λr a=>by
  obtain⟨e,c,f,_,j⟩:=q r a;exact⟨e,c,f,j⟩⟩
def fW(w:x3)(h:Nat)(n:aI):Prop:=∃a e f j gr aS L nm szv gz fv2,ad w h fA [Γ a,Δ n.zero,e,f]/\ad w a cv [nm,Δ n.k,szv,fv2]/\aq .i64 ah w gz szv n.sizes/\
 hK w j e aS/\aS.map (·.l)=n.unary/\nZ w gr f n.k n.sizes L/\L.map dU=n.funs
theorem fW.ext{e:Nat}{n:aI}(h:fW w e n)(a:Ext w w'):fW w' e n:=by
 obtain⟨f,j,p,q,gr,aS,L,nm,szv,gz,fv2,h1,r,s,x,y,z,A⟩:=h;exact⟨f,j,p,q,gr,aS,L,nm,szv,gz,fv2,h1.ext a,r.ext a,s.ext a,x.ext a,y,z.ext a,A⟩
def qH(w:x3)(B:Nat)(k:Int)(sizes:Λ)(x:ci):Prop:=(∃f,aq .i64 ah w f x.sv x.sc)/\(∃a e,c8 w x.g a e (bV sizes x.sc) k x.cs/\B<=a/\∀r,leads e r->B<=r)/\B<=x.g/\∀r,leads x.sv r->B<=r
theorem qH.V{x:ci}(h:qH w B k sizes x)(a:ae S w w')(f:∀r,S r->∃e c,ad w r e c/\e≠cU/\e≠ah/\e≠al):qH w' B k sizes x:=by
 obtain⟨⟨j,h1⟩,⟨p,q,s,y⟩,z⟩:=h;refine⟨⟨j,bo h1 a λr A I=>?_⟩,⟨p,q,CA s a f,y⟩,z⟩;obtain⟨e,c,C,_,E,_⟩:=f r I;exact b4 h1 C (λhe=>E he.symm) A rfl
def lZ(w:x3)(B g:Nat)(v:x1)(k:Int)(sizes:Λ)(L:List ci):Prop:=ba eE 2 hv w g v L/\∀x∈L,qH w B k sizes x
theorem lZ.ext{g:Nat}{L:List ci}(h:lZ w B g v k sizes L)(a:Ext w w'):lZ w' B g v k sizes L:=⟨h.1.ext a,λx e=>(h.2 x e).V (a.V λ_=>False) λ_ h=>h.elim⟩
theorem lZ.V{g:Nat}{L:List ci}(h:lZ w B g v k sizes L)(p:ae S w w')(q:∀r,S r->∃e c,ad w r e c/\e≠hv/\e≠cU/\e≠ah/\e≠al):lZ w' B g v k sizes L:=
 ⟨h.1.V p λr a I=>by
  obtain⟨e,c,f,j,_⟩:=q r I;exact cC h.1 f (λhe=>j he.symm) a,λx s=>(h.2 x s).V p λr a=>by
  obtain⟨e,c,f,_,j⟩:=q r a;exact⟨e,c,f,j⟩⟩
theorem CB:∃o:Obj,fw o=false:=⟨.deferred ν,rfl⟩
theorem ghost(w:x3)(B:Nat):∃w0,Ext w0 w/\ae (λr=>r<B) w w0/\∀r o,w0.heap[r]?=σ o->fw o=true->B<=r:=by
 obtain⟨cj,f⟩:=CB;have e:∀r,(w.heap.mapIdx λr o=>if r<B then cj else o)[r]?=(w.heap[r]?).map λo=>if r<B then cj else o:=λr=>Ξ
 refine⟨{w with heap:=w.heap.mapIdx λr o=>if r<B then cj else o},⟨Ξ,λr o a I=>?_⟩,⟨Ξ,λr o a I j=>?_⟩,λr o a I=>?_⟩
 .have a:(w.heap.mapIdx λr o=>if r<B then cj else o)[r]?=σ o:=a;rw[e]at a;cases h:w.heap[r]? with
  |none=>rw[h]at a;cases a
  |some o'=>
   rw[h]at a;simp only[Z7,X0]at a;split at a
   .subst a;rw[f]at I;cases I
   .rw[a]
 .show (w.heap.mapIdx λr o=>if r<B then cj else o)[r]?=σ o;rw[e,a,Z7,if_neg j]
 .have a:(w.heap.mapIdx λr o=>if r<B then cj else o)[r]?=σ o:=a;rw[e]at a;cases h:w.heap[r]? with
  |none=>rw[h]at a;cases a
  |some o'=>
   rw[h]at a;simp only[Z7,X0]at a;split at a
   .subst a;rw[f]at I;cases I
   .omega
def CC(B:Nat)(w:x3)(a:Nat)(n:aI):Prop:=∃w0,fW w0 a n/\Ext w0 w/\∀r o,w0.heap[r]?=σ o->fw o=true->B<=r
theorem M9{y C gr gz:Nat}{n:aI}{p q nm fv2:x1}{aS:List k9}{L:List ci}(h1:ad w y fA [Γ j,Δ n.zero,p,q])(E:ad w j cv [nm,Δ n.k,szv,fv2])(I:aq .i64 ah w gz szv n.sizes)(F:hK w C p aS)(J:aS.map (·.l)=n.unary)(G:lZ w B gr q n.k n.sizes L)(K:L.map dU=n.funs)(M:B<=y)(N:B<=j)(O:∀r,leads szv r->B<=r)(H:∀r,leadsTo p r\/leadsTo q r->B<=r)(P:∀h∈aS,∀r,leads h.v r->B<=r):CC B w y n:=by
 obtain⟨w0,z,a,Q⟩:=ghost w B;have no:∀{r:Nat},B<=r->¬r<B:=λh E=>Ω
 have s:∀{e:r9}{g:Nat}{v:x1}{l:Λ},aq .i64 e w g v l->(∀r,leads v r->B<=r)->aq .i64 e w0 g v l:=λh R=>bo h a λr f=>no (R r f);refine⟨w0,⟨j,p,q,C,gr,aS,L,nm,szv,gz,fv2,h1.V a (no M),E.V a (no N),s I O,⟨F.1.V a λr f=>no (H r (.inl f)),λh ao=>?_⟩,J,⟨G.1.V a λr f=>no (H r (.inr f)),λx z=>?_⟩,K⟩,z,Q⟩
 .obtain⟨A,hm⟩:=F.2 h ao;exact⟨A,s hm (P h ao)⟩
 .obtain⟨⟨A,S⟩,⟨U,W,⟨⟨aV,gs,X,Y,t3⟩,t4⟩,ac,Z⟩,aa,ab⟩:=G.2 x z;exact⟨⟨A,s S ab⟩,U,W,⟨aV,gs,X.V a (no aa),s Y Z,bo t3 a λr f=>no (by have:=(bO t3 f).1;omega)⟩,t4⟩
def iR(n:aI)(g:cE):aI:=match g.1 with
 |[]=>{n with zero:=g.2.getD 0 0}
 |[v]=>{n with unary:=n.unary.set v.toNat g.2}
 |_=>{n with funs:=n.funs++[g]}
def CD(f:b2):aI:=⟨f.k,f.sizes,0,f.sizes.map λz=>p9 z.toNat 0,[]⟩
theorem Na(f:b2):c3 f=(fE f).foldl iR (CD f):=rfl
def dG(f:b2)(i:Nat):aI:=((fE f).take i).foldl iR (CD f)
theorem we{f:b2}{i:Nat}{g:cE}(h:(fE f)[i]?=σ g):dG f (i+1)=iR (dG f i) g:=M4 h
theorem ta(f:b2):dG f (fE f).length=c3 f:=by unfold dG;rw[o5,Na]
theorem Nb(n:aI)(g:cE):(iR n g).k=n.k/\(iR n g).sizes=n.sizes/\(iR n g).unary.length=n.unary.length/\(iR n g).funs.length<=n.funs.length+1:=by
 unfold iR;split
 .exact⟨rfl,rfl,rfl,Nat.le_succ _⟩
 .exact⟨rfl,rfl,Ξ,Nat.le_succ _⟩
 .exact⟨rfl,rfl,rfl,Ξ⟩
theorem pj(f:b2):∀i,(dG f i).k=f.k/\(dG f i).sizes=f.sizes/\(dG f i).unary.length=f.sizes.length/\(dG f i).funs.length<=i
 |0=>⟨rfl,rfl,by show(f.sizes.map _).length=_;simp,X4 _⟩
 |i+1=>by
  have a:=pj f i;cases h:(fE f)[i]? with
  |none=>
   have j:=List.getElem?_eq_none_iff.1 h;have e:dG f (i+1)=dG f i:=by unfold dG;rw[j0 Ω,j0 j]
   rw[e];exact⟨a.1,a.2.1,a.2.2.1,Ω⟩
  |some g=>
   rw[we h];obtain⟨h1,p,q,r⟩:=Nb (dG f i) g;exact⟨h1.trans a.1,p.trans a.2.1,q.trans a.2.2.1,Ω⟩
end Go.Proofs.YtikkpokkcdocoaaGreatDoor
