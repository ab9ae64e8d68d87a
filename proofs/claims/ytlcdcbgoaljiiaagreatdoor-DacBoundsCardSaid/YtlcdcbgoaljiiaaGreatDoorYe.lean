/- own texts, made small by a tool (wip/ holds them as they were written): no statement of the seat. -/
import Derived.Test.YtlcdcbgoaljiiaaGreatDoorYd
set_option linter.unusedVariables false
set_option linter.unusedSimpArgs false
set_option linter.unnecessarySimpa false
open Array renaming getElem?_eq_some_iff→Y1
open Bool renaming false→sp,true→s2,not_true→Y7,not_false→X5,eq_iff_iff→U1,or_eq_false_iff→T4,and_eq_true→T9,true_and→S7
open Decidable renaming not_not→X1
open Go renaming Value→x4,World→x5,TypeId→o4,IntKind→o8,Program→X8,FuncId→S8
open Go.Addr renaming add_mid→U8
open Go.Builtin renaming append_→c9,len_→X7
open Go.Instr renaming loadAt→u5,fieldAt→u6,storeAt→o7,indexAt→n9,extract→Z7,buildSlice→Y3,sliceAt→V5
open Go.IntKind renaming i64→X4
open Go.Proofs.Tryz renaming prog→x8
open Int renaming toNat_natCast→u7,eq_ofNat_of_zero_le→W9,le_refl→T3
open List renaming getElem?_eq_some_iff→x6,mem_of_getElem?→x7,getElem?_eq_getElem→v8,getElem?_map→u4,take_add_one→u9,getD_eq_getElem?_getD→r8,length_map→r9,replicate→o5,take_length→o9,mem_map→l9,take_of_length_le→j5,length_append→j6,mem_append→j9,eq_nil_of_length_eq_zero→b8,map_append→Z0,length_take→Z3,getElem?_set_self→Z6,length_set→Y0,ext_getElem?→Y2,mem_singleton→Y4,mem_iff_getElem?→Y5,getElem?_set_ne→Y8,range→Y9,drop_eq_getElem_cons→X2,getElem?_append_right→X3,getElem?_set→X6,length_eq_one_iff→X9,length_cons→W0,getElem?_eq_none→W7,getElem?_take_of_lt→V1,pairwise_iff_getElem→V8,getElem?_append_left→V9,map_set→U2,mem_or_eq_of_mem_set→U5,flatMap_cons→T0,append_nil→T5,map_map→T6,getElem_mem→S3,mem_filter→S6
open Nat renaming le_refl→o6,le_trans→X0,zero_add→V0,mul_le_mul_right→V4,mul_one→U3,pow_le_pow_right→T2,add_mul→T7
open Option renaming toList_some→j4,isNone_some→b9,map_eq_some_iff→Z9,map_some→Y6,map→V6,isSome_some→T8,isSome_none→S4
open Option.some renaming inj→Z5
set_option maxHeartbeats 16000000
open Option renaming some→σ,none→ν
variable{a l sc d6 t tl:Λ}{cs:List x4}{B af ga gt gtb gy j:Nat}{K:x4->x5->Prop}{c k pos v:Int}{I U ab w:x5}{sv:x4}{D:Nat->Prop}
namespace Go.Proofs.YtlcdcbgoaljiiaaGreatDoor
open Go Go.Vc Go.RowKit Go.Proofs Go.Proofs.Tryz
set_option maxRecDepth 100000
section
variable{A:Nat->aj}{B R:aj}{w:x5}{cs xs:List x4}{gs:Nat}{y v:x4}{k zero:Int}{d6:Λ}{D:List (Λ)}{G:List Bool}{a7:List (Λ)}{H:List jY}{E:List mY}{K:x5->Prop}{Z:aj}
theorem bG.RJ{X:o4}(h:bG s2 A R w cs k d6 zero D G a7 H E)(M:ak w gs aM cs)(ac:cs[3]?=σ v)(x:∀j r,A j r->gs<r\/Z r)(f:∀r,Z r->r<gs/\A 4 r)(s:∀r,R r->r<gs)(V:cj w 1 y 1 xs)(Y:bw B R w xs a)(q:∀r,r<w.heap.size->B r->(∀j,¬A j r)/\gs<r)(aq:D.length<=1000)(aa:∀aR bJ I,ai (λr=>gs<=r) w I->ak I gs aM bJ->bG s2 aR R I bJ k d6 zero (D++[a]) G a7 H E->(∀j r,aR j r->gs<r\/Z r)->(∀r,Z r->r<gs/\aR 4 r)->(∀j,j≠3->bJ[j]?=cs[j]?)->K I):
  aL x8 (c9 #[cq,cq] X #[v,y]) w λN ab=>ad x8 (u6 aM (Γ gs) 3) ab λae=>aL x8 (o7 cq ae N) ab λ_ z=>K z:=by
 have aC:=h.old;have af:∀i j r,i≠j->A i r->¬A j r:=by obtain⟨_,_,_,_,_,_,_,_,_,_,_,_,_,ag⟩:=id h;exact(ag rfl).1
 have O:∀r,A 0 r->gs<r:=λr h=>(x 0 r h).resolve_right λC=>af 0 4 r Ω h (f r C).2;have P:∀j,¬A j gs:=λj h=>(x j gs h).elim (λh=>Ω) λh=>by have:=(f gs h).1;omega
 have ah:=M.lt;obtain⟨hv,aj,av,ax,ay,Q,al,h1,C,az,aA,aB,aD,F⟩:=id aC;obtain⟨F,S⟩:=F rfl;have Q:v=aj:=by rw[al]at ac;exact(Z5 ac).symm
 subst Q;have am:bw (λr=>B r/\r<w.heap.size) R w xs a:=aw.Y Y (λr e h=>⟨h,e⟩) λ_ _ h=>h;refine p1 aM.p rfl cq.u cq.i au.i rfl M ac C V am (λr e U=>⟨λan=>(q r e an.1).1 0 U.1,S 0 r U⟩) ⟨λh=>P 0 h.1,λh=>by have:=(q gs ah h.1).2;omega,λh=>by have:=s gs h;omega⟩ Ω Ω λN z W ao ap=>?_;refine aa _ _ z (W.Y λr _ h=>h.elim (λh=>by have:=O r h.1;omega) λh=>Ω) ao (aC.y0 W (λr e=>?_) ap (λj r J e=>?_) λr e=>?_) (λj r e=>?_) (λr L=>⟨(f r L).1,?_⟩) λj J=>?_
 .rcases e with e|rfl
  .exact .inl e
  .exact .inr ⟨λj h=>P j h.1,λh=>by have:=s r h;omega⟩
 .rcases e with e|e|e
  .exact F 0 j r (Ne.symm J) e
  .exact λh=>(q r e.2 e.1).1 j h.1
  .exact λh=>by have:=h.2;omega
 .rcases e with e|e|e
  .exact S 0 r e
  .exact λh=>by have:=(q r e.2 e.1).2;have:=s r h;omega
  .exact λh=>by have:=s r h;omega
 .unfold fG at e;split at e
  .rcases e with e|e|e
   .exact .inl (O r e.1)
   .exact .inl (q r e.2 e.1).2
   .exact .inl Ω
  .exact x j r e.1
 .unfold fG;rw[m5 Ω];exact⟨(f r L).2,by have:=(f r L).1;omega⟩
 .rw[Y8 (Ne.symm J)]
theorem bG.RK{X:o4}(h:bG s2 A R w cs k d6 zero D G a7 H E)(L:ak w gs aM cs)(ac:cs[5]?=σ v)(x:∀j r,A j r->gs<r\/Z r)(f:∀r,Z r->r<gs/\A 4 r)(s:∀r,R r->r<gs)(V:cj w 1 y 1 xs)(Y:bw B R w xs a)(q:∀r,r<w.heap.size->B r->(∀j,¬A j r)/\gs<r)(au:a7.length<=1000)(aa:∀aR bJ I,ai (λr=>gs<=r) w I->ak I gs aM bJ->bG s2 aR R I bJ k d6 zero D G (a7++[a]) H E->(∀j r,aR j r->gs<r\/Z r)->(∀r,Z r->r<gs/\aR 4 r)->(∀j,j≠5->bJ[j]?=cs[j]?)->K I):
  aL x8 (c9 #[c4,c4] X #[v,y]) w λM ab=>ad x8 (u6 aM (Γ gs) 5) ab λae=>aL x8 (o7 c4 ae M) ab λ_ z=>K z:=by
 have aC:=h.old;have af:∀i j r,i≠j->A i r->¬A j r:=by obtain⟨_,_,_,_,_,_,_,_,_,_,_,_,_,ag⟩:=id h;exact(ag rfl).1
 have N:∀r,A 2 r->gs<r:=λr h=>(x 2 r h).resolve_right λO=>af 2 4 r Ω h (f r O).2;have P:∀j,¬A j gs:=λj h=>(x j gs h).elim (λh=>Ω) λh=>by have:=(f gs h).1;omega
 have ah:=L.lt;obtain⟨hv,av,ax,aj,ay,Q,al,h1,O,az,am,aB,aD,C⟩:=id aC;obtain⟨C,S⟩:=C rfl;have Q:v=aj:=by rw[al]at ac;exact(Z5 ac).symm
 subst Q;have an:bw (λr=>B r/\r<w.heap.size) R w xs a:=aw.Y Y (λr e h=>⟨h,e⟩) λ_ _ h=>h;refine p1 aM.p rfl c4.u c4.i aA.i rfl L ac am V an (λr e U=>⟨λao=>(q r e ao.1).1 2 U.1,S 2 r U⟩) ⟨λh=>P 2 h.1,λh=>by have:=(q gs ah h.1).2;omega,λh=>by have:=s gs h;omega⟩ Ω Ω λM z W ap aq=>?_;refine aa _ _ z (W.Y λr _ h=>h.elim (λh=>by have:=N r h.1;omega) λh=>Ω) ap (aC.lp W (λr e=>?_) aq (λj r F e=>?_) λr e=>?_) (λj r e=>?_) (λr J=>⟨(f r J).1,?_⟩) λj F=>?_
 .rcases e with e|rfl
  .exact .inl e
  .exact .inr ⟨λj h=>P j h.1,λh=>by have:=s r h;omega⟩
 .rcases e with e|e|e
  .exact C 2 j r (Ne.symm F) e
  .exact λh=>(q r e.2 e.1).1 j h.1
  .exact λh=>by have:=h.2;omega
 .rcases e with e|e|e
  .exact S 2 r e
  .exact λh=>by have:=(q r e.2 e.1).2;have:=s r h;omega
  .exact λh=>by have:=s r h;omega
 .unfold fG at e;split at e
  .rcases e with e|e|e
   .exact .inl (N r e.1)
   .exact .inl (q r e.2 e.1).2
   .exact .inl Ω
  .exact x j r e.1
 .unfold fG;rw[m5 Ω];exact⟨(f r J).2,by have:=(f r J).1;omega⟩
 .rw[Y8 (Ne.symm F)]
theorem bG.RL{a:jY}{X:o4}(h:bG s2 A R w cs k d6 zero D G a7 H E)(L:ak w gs aM cs)(ac:cs[6]?=σ v)(x:∀j r,A j r->gs<r\/Z r)(f:∀r,Z r->r<gs/\A 4 r)(s:∀r,R r->r<gs)(V:cj w 4 y 1 xs)(Y:bw B R w xs a)(q:∀r,r<w.heap.size->B r->(∀j,¬A j r)/\gs<r)(au:H.length<=1000)(aa:∀aR bJ I,ai (λr=>gs<=r) w I->ak I gs aM bJ->bG s2 aR R I bJ k d6 zero D G a7 (H++[a]) E->(∀j r,aR j r->gs<r\/Z r)->(∀r,Z r->r<gs/\aR 4 r)->(∀j,j≠6->bJ[j]?=cs[j]?)->K I):
  aL x8 (c9 #[dA,dA] X #[v,y]) w λM ab=>ad x8 (u6 aM (Γ gs) 6) ab λae=>aL x8 (o7 dA ae M) ab λ_ z=>K z:=by
 have aC:=h.old;have af:∀i j r,i≠j->A i r->¬A j r:=by obtain⟨_,_,_,_,_,_,_,_,_,_,_,_,_,ag⟩:=id h;exact(ag rfl).1
 have N:∀r,A 3 r->gs<r:=λr h=>(x 3 r h).resolve_right λO=>af 3 4 r Ω h (f r O).2;have P:∀j,¬A j gs:=λj h=>(x j gs h).elim (λh=>Ω) λh=>by have:=(f gs h).1;omega
 have ah:=L.lt;obtain⟨hv,av,ax,ay,aj,Q,al,h1,O,az,aA,am,aB,C⟩:=id aC;obtain⟨C,S⟩:=C rfl;have Q:v=aj:=by rw[al]at ac;exact(Z5 ac).symm
 subst Q;have an:bw (λr=>B r/\r<w.heap.size) R w xs a:=aw.Y Y (λr e h=>⟨h,e⟩) λ_ _ h=>h;refine p1 aM.p rfl dA.u dA.i c5.i rfl L ac am V an (λr e U=>⟨λao=>(q r e ao.1).1 3 U.1,S 3 r U⟩) ⟨λh=>P 3 h.1,λh=>by have:=(q gs ah h.1).2;omega,λh=>by have:=s gs h;omega⟩ Ω Ω λM z W ap aq=>?_;refine aa _ _ z (W.Y λr _ h=>h.elim (λh=>by have:=N r h.1;omega) λh=>Ω) ap (aC.lq W (λr e=>?_) aq (λj r F e=>?_) λr e=>?_) (λj r e=>?_) (λr J=>⟨(f r J).1,?_⟩) λj F=>?_
 .rcases e with e|rfl
  .exact .inl e
  .exact .inr ⟨λj h=>P j h.1,λh=>by have:=s r h;omega⟩
 .rcases e with e|e|e
  .exact C 3 j r (Ne.symm F) e
  .exact λh=>(q r e.2 e.1).1 j h.1
  .exact λh=>by have:=h.2;omega
 .rcases e with e|e|e
  .exact S 3 r e
  .exact λh=>by have:=(q r e.2 e.1).2;have:=s r h;omega
  .exact λh=>by have:=s r h;omega
 .unfold fG at e;split at e
  .rcases e with e|e|e
   .exact .inl (N r e.1)
   .exact .inl (q r e.2 e.1).2
   .exact .inl Ω
  .exact x j r e.1
 .unfold fG;rw[m5 Ω];exact⟨(f r J).2,by have:=(f r J).1;omega⟩
 .rw[Y8 (Ne.symm F)]
end
def mZ(w:x5)(g:Nat)(k:Int)(d6:Λ)(s:am):Prop:=∃hv a e f h j,ak w g aM [Δ k,hv,Δ s.zero,a,e,f,h,j]/\aQ .i64 w hv d6/\Seen fB w [hv] d6/\
 Seen fB w [a] (s.d9.map aG)/\Seen fB w [e] (s.d9.map λx=>decide (x.gone≠0))/\Seen fB w [f] (s.d9.map (·.un))/\Seen fB w [h] (s.ho.map jZ)/\Seen fB w [j] (s.eJ.map ra)
section
variable{w I:x5}{g:Nat}{v:x4}{k:Int}{d6:Λ}{s:am}
theorem mZ.W(h:mZ w g k d6 s)(J:Ext w I):mZ I g k d6 s:=by
 obtain⟨hv,a,e,f,j,q,r,h1,x,y,z,A,B,C⟩:=h;exact⟨hv,a,e,f,j,q,r.W J,h1.W J,bD x J,bD y J,bD z J,bD A J,bD B J,bD C J⟩
theorem j0.box(h:j0 w v k d6 s)(J:Ext w I)(f:ak I g aM v.cells.toList):mZ I g k d6 s:=by
 obtain⟨cs,rfl,hv,z,B,C,E,F,rfl,h1,j,q,r,x,y,_⟩:=h;obtain⟨_,_,_,G⟩:=dr (ew h1);have c:∀{α:Type}[aw α]{v:x4}{l:List α}{A:aj},aw.rep sp A fB w [v] l->∃a n c,v= .slice a n c:=λh=>by
  obtain⟨_,_,_,_,_,⟨_,b,o,base,cap,e,_⟩,_⟩:=jK h;exact⟨_,_,_,e⟩
 obtain⟨_,_,_,H⟩:=c j;obtain⟨_,_,_,K⟩:=c q;obtain⟨_,_,_,L⟩:=c r;obtain⟨_,_,_,M⟩:=c x;obtain⟨_,_,_,N⟩:=c y;refine⟨hv,z,B,C,E,F,?_,(ew h1).W J,bD h1 J,bD j J,bD q J,bD r J,bD x J,bD y J⟩;rw[G,H,K,L,M,N]at f ⊢;exact f
theorem mZ.load{K:x4->Prop}(h:mZ w g k d6 s)(a:∀u,j0 w u k d6 s->K u):ad x8 (u5 aM (Γ g)) w K:=by
 obtain⟨hv,e,f,j,q,r,x,h1,y,z,A,B,C,E⟩:=h;rw[bI aM.p aM.i rfl x.range];exact a _ ⟨_,rfl,hv,e,f,j,q,r,rfl,y,z,A,B,C,E,λh=>by cases h⟩
theorem RM{i:Int}(h:j0 w v k d6 s):aq x8 JA [v,Δ i] w λr I=>r= .bool (decide (0<=i/\i<d6.length))/\Ext w I:=by
 refine aE func141 ?_;refine br λg1 U x a e=>?_;obtain⟨hv,y,z,A,B,C,e,q,_⟩:=h.box a e;refine a6 (λv ab=>v= .bool (decide (0<=i/\i<d6.length))/\Ext w ab) (λ_ _ h=>h) λaz f=>?_;rw[cU,ao];refine⟨λj=>?_,λj=>f _ _ ⟨by rw[rc];omega,a⟩⟩;rw[aP aM.p 1 e rfl,ba au.u q,aW];refine f _ _ ⟨?_,a⟩;congr 1;exact decide_eq_decide.2 ⟨λh=>⟨j,h⟩,λh=>h.2⟩
theorem oO{m:Bool}{S R:aj}{f:bP}(h:aw.rep (α:=jY) m S R w cs (jZ f)):∃a1 hv bg,cs=[a1,hv,bg,.bool (decide (f.live≠0))]/\Seen fB w [a1] f.sc/\Seen fB w [hv] f.an/\Seen fB w [bg] f.cs:=by
 obtain⟨E,q,A,B,rfl,_,_,_,⟨r,F,aR,G,rfl,_,_,_,h1,s,x,H,y,rfl,_,_,_,a,e⟩,j⟩:=h;have one:∀{α:Type}[aw α]{m:Bool}{S R:aj}{c:List x4}{l:List α},aw.rep m S R w c l->∃v,c=[v]:=λh=>by obtain⟨v,ac,_⟩:=h;exact⟨v,ac⟩
 have h1:Seen _ w r f.sc:=h1;have a:Seen _ w s f.an:=a;have j:q=[.bool (decide (f.live≠0))]:=j;have e:aw.rep m y R w x f.cs:=e;obtain⟨z,rfl⟩:=one h1;obtain⟨C,rfl⟩:=one a;obtain⟨v3,rfl⟩:=one e;subst j;exact⟨z,C,v3,rfl,jJ h1,jJ a,jJ e⟩
theorem RN{j:Int}(h:j0 w v k d6 s):aq x8 K2 [v,Δ j] w λr I=>r= .bool (decide (0<=j)&&e0 s j.toNat)/\Ext w I:=by
 refine aE func266 ?_;refine br λg1 U B a e=>?_;obtain⟨hv,C,E,G,H,J,e,K,_,_,_,_,y,_⟩:=h.box a e;refine a6 (λv ab=>v= .bool (decide (0<=j)&&e0 s j.toNat)/\Ext w ab) (λ_ _ h=>h) λaz q=>?_;rw[cU,ao];refine⟨λx=>?_,λx=>q _ _ ⟨by rw[rc x];rfl,a⟩⟩;rw[aP aM.p 6 e rfl,ij dA.u y,aW,ao,r9];refine⟨λL=>?_,λM=>q _ _ ⟨by unfold e0;rw[W7 Ω,Bool.and_false],a⟩⟩;obtain⟨f,ah⟩:=aJ (l:=s.ho) (i:=j.toNat) Ω;rw[aP aM.p 6 e rfl];refine k7 (i:=j.toNat) Ω dA.u c5.i y (by rw[u4,ah];rfl) λb o cs z A=>?_;obtain⟨N,O,v3,rfl,_⟩:=oO A;rw[aZ c5.p rfl,aF (v:=.bool (decide (f.live≠0))) Ψ (z 3 _ rfl)];exact q _ _ ⟨by unfold e0;rw[ah,ms x,S7],a⟩
end
end Go.Proofs.YtlcdcbgoaljiiaaGreatDoor
namespace Go.Vc
open Go Go.RowKit
section
variable{P:X8}{w:x5}{α:Type}[aw α]{S R:aj}
theorem sW{t e:o4}{b:Nat}{z:x4}(f:P.underlying t=σ (.slice e))(hi:aU P e (aw.n α) b z)(j:∀v I,Ext w I->bw (λr=>w.heap.size<=r) R I [v] ([]:List α)->K v I):aL P (Y3 t 0 #[]) w K:=
 k5 f hi Ω (cs:=#[]) (by simp[Instr.fill]) λg I y q s=>j _ I q (by
  have hm:b7 I g e (aw.n α) (.slice (σ ⟨g,0,ν⟩) 0 0) 0 []:=b7.full (by simpa using s) Ξ (by simp[maxLen]);exact⟨_,rfl,[],g,λ_ _=>False,⟨λ_ _ h=>h.elim,λ_ _ h=>h,λ_ _ _ _ _ h=>h.elim⟩,⟨rfl,λi c a x=>by simp at x⟩,pu hm (.inr (.inl Ω)),λ_=>⟨.inr Ω,e,hm⟩⟩)
theorem sX{t e q:o4}{b:Nat}{z v x:x4}{m:Bool}{S':aj}{l':List α}(j:P.underlying t=σ (.slice e))(hi:aU P e (aw.n α) b z)(s:z.cells.size=aw.n α)(h:bw S R w [v] ([]:List α))(J:aw.rep m S' R w [x] l')(y:∀{F:aj}{c:List x4}{a:α},aw.rep m F R w c a->bw (λ_=>False) R w c a)(A:∀r,r<w.heap.size->S r->¬R r)(B:l'.length*b<=140737488355328)(C:l'.length<=9223372036854775807)(E:∀f I,bw (λr=>S r\/w.heap.size<=r) R I [f] l'->ai S w I->K f I):aL P (c9 #[t,t] q #[v,x]) w K:=by
 obtain⟨vs,g,F,ae,he,V,_⟩:=jK J;refine BG (l:=[]) (l':=l') (us:=vs) (G:=λ_ _=>False) j j hi s h V.sl ⟨he.1,λi c a H L=>y (he.2 i c a H L)⟩ (λ_ _ _ _ h=>h.elim) (λr M h=>⟨λ_ h=>h,A r M h⟩) (by simpa using B) (by simpa using C) λf I h1 N=>E f I (aw.Y h1 (λr _ h=>?_) λ_ _ h=>h) N;rcases h with h|⟨_,h⟩|h
 .exact .inl h
 .exact h.elim
 .exact .inr h
end
end Go.Vc
namespace Go.Proofs.YtlcdcbgoaljiiaaGreatDoor
open Go Go.Vc Go.RowKit Go.Proofs Go.Proofs.Tryz
set_option maxRecDepth 100000
theorem rb{α:Type}[aw α]{m:Bool}{S R:aj}{v:x4}{l:List α}(h:aw.rep m S R w [v] l):∃a n c,v= .slice a n c:=by
 obtain⟨_,_,_,_,_,⟨_,b,o,base,cap,e,_⟩,_⟩:=jK h;exact⟨_,_,_,e⟩
theorem RO{cb:Nat->aj}{R:aj}{s:am}(h:iw s2 cb R w cs k d6 s)(E:∀r,R r->r<w.heap.size)(aN:bc k d6 s)(ah:s.ho.length<=1000)(he:s.eJ.length<=1000):
  aq x8 IA [.agg cs.toArray] w λv I=>Ext w I/\∃A bJ,v= .agg bJ.toArray/\iw s2 A R I bJ k d6 s/\∀q r,A q r->w.heap.size<=r:=by
 have eS:=aN.eQ.2.1;have eU:=aN.d9;obtain⟨hv,ac,ad,ae,af,K,rfl,cc,bp,ce,cf,bq,bt,c8⟩:=bG.old h;refine aE func33 ?_;refine br λg1 U eV cg O=>?_;have O:ak U g1 aM [Δ k,hv,Δ s.zero,ac,ad,ae,af,K]:=by
  obtain⟨_,_,_,c9⟩:=rb cc;obtain⟨_,_,_,da⟩:=rb bp;obtain⟨_,_,_,db⟩:=rb ce;obtain⟨_,_,_,dc⟩:=rb cf;obtain⟨_,_,_,dd⟩:=rb bq;obtain⟨_,_,_,de⟩:=rb bt;rw[c9,da,db,dc,dd,de]at O ⊢;exact O
 have df:∀u∈([Δ k,hv,Δ s.zero,ac,ad,ae,af,K]:List x4),u.oneCell'=s2:=(bG.len h).2;refine bF aM.i λgt ab eW bu ch=>?_;rw[bI aM.p aM.i rfl (O.W bu).range];refine bF aM.i λgs eX eY bx dg=>?_;refine cd (vs:=[Δ k,hv,Δ s.zero,ac,ad,ae,af,K]) aM.i rfl rfl df dg λP ci eZ cj=>?_;have e0:=cg.size;have e1:=bu.size;have z3:=bx.size;have e2:=O.lt;have e3:=ch.lt;have bz:Ext U P:=(bu.F bx).put ci Ω;have dh:=(ch.W bx).aa ci λhe=>by have he:gt=gs:=he;omega
 have cl:=cg.F bz;have bA:∀r,R r->r<gs:=λr B=>by have:=E r B;omega
 refine sW (α:=Bool) (R:=R) jH.u eg.i λv5 Q ag di=>?_;have aO:=bz.F ag;have z4:=bz.size;have z5:=ag.size;rw[aP aM.p 4 (O.W aO) rfl];refine sX (α:=Bool) jH.u eg.i rfl di (bD (bD ce cl) ag) (λh=>h) (λr B y H=>by have:=E r H;omega) Θ Θ λbB aY bC cm=>?_;have a8:∀{L M:x5}{b:Nat}{e:o4}{c:List x4},ai (λr=>gs<=r) L M->b<gs->ak L b e c->ak M b e c:=λbE e4 h=>h.aa bE λy=>by have y:gs<=_:=y;omega
 have aQ:∀{L M:x5},Ext w L->ai (λr=>gs<=r) L M->Ext w M:=λJ bE=>J.then bE λr B h=>by have h:gs<=r:=h;omega
 have e5:=cj.lt;have bH:ai (λr=>gs<=r) Q aY:=cm.Y λr _ h=>by have h:P.heap.size<=r:=h;omega
 have dj:ak aY gs aM [Δ k,hv,Δ s.zero,ac,ad,ae,af,K]:=(cj.W ag).aa cm λh=>by have h:P.heap.size<=gs:=h;omega
 rw[aZ aM.p rfl];refine bs (g:=gs) (o:=3) cq.i Ψ rfl dj Ξ λe6 dk e7 dl=>?_;rw[aZ aM.p rfl];refine bs (g:=gs) (o:=4) jH.i (lO bC) (k6 bC) dl Ξ λe8 dm e9 dn=>?_;rw[aZ aM.p rfl];refine bs (g:=gs) (o:=5) c4.i Ψ rfl dn Ξ λfa dp fb dq=>?_;rw[aZ aM.p rfl];refine bs (g:=gs) (o:=6) dA.i Ψ rfl dq Ξ λa1 dr fc bL=>?_;have bL:ak a1 gs aM [Δ k,hv,Δ s.zero,.slice ν 0 0,bB,.slice ν 0 0,.slice ν 0 0,K]:=bL;have bM:∀{L M:x5},ai (λr=>r=gs) L M->ai (λr=>gs<=r) L M:=λh=>h.Y λr _ h=>by have h:r=gs:=h;omega
 have a2:ai (λr=>r=gs) aY a1:=((dk.F dm).F dp).F dr;have a6:Ext w a1:=aQ (aQ (cl.F ag) bH) (bM a2);have cn:=a8 (bM a2) Ω (a8 bH Ω (O.W aO));have ds:=a8 (bM a2) Ω (a8 bH Ω (dh.W ag));obtain⟨fd,dt⟩:=c8 rfl;let Z:aj:=λr=>cb 4 r/\r<w.heap.size;have cp:∀r,Z r->r<gs:=λr h=>by have:=h.2;omega
 let S:Nat->aj:=λj r=>if j=1 then P.heap.size<=r else if j=4 then Z r else False;have du:bG s2 S R a1 [Δ k,hv,Δ s.zero,.slice ν 0 0,bB,.slice ν 0 0,.slice ν 0 0,K] k d6 s.zero [] (s.d9.map λx=>decide (x.gone≠0)) [] [] (s.eJ.map ra):=by
  refine⟨_,_,_,_,_,_,rfl,bD cc a6,gx,?_,gx,gx,bD bt a6,λ_=>⟨λi j r fe h1 y=>?_,λi r h1 y=>?_⟩⟩
  .have dv:bw (λr=>P.heap.size<=r) R aY [bB] (s.d9.map λx=>decide (x.gone≠0)):=aw.Y bC (λr _ h=>by
    rcases h with h|h
    .exact h
    .show P.heap.size<=r;omega) λ_ _ h=>h
   refine aw.aa dv a2 λr B h1 y=>?_;have y:r=gs:=y;subst y;rcases h1 with h1|h1
   .have h1:P.heap.size<=r:=h1;omega
   .have:=E r h1;omega
  .simp only[S]at h1 y;split at h1<;>split at y
   .omega
   .split at y
    .have:=y.2;omega
    .exact y
   .split at h1
    .have:=h1.2;omega
    .exact h1
   .split at h1<;>split at y
    .omega
    .exact y
    .exact h1
    .exact h1
  .simp only[S]at h1;have:=E r y;split at h1
   .omega
   .split at h1
    .exact dt 4 r h1 y
    .exact h1
 have dw:∀j r,S j r->gs<r\/Z r:=λj r h=>by
  simp only[S]at h;split at h
  .exact .inl Ω
  .split at h
   .exact .inr h
   .exact h.elim
 have dx:∀r,Z r->r<gs/\S 4 r:=λr h=>⟨cp r h,h⟩;have dy:=bD bp a6;rw[aP aM.p 3 cn rfl,ij cq.u dy,r9];refine b3.range s.d9.length (λi Q=>Ext w Q/\ak Q g1 aM [Δ k,hv,Δ s.zero,ac,ad,ae,af,K]/\ak Q gt aM z12/\∃A cs,ak Q gs aM cs/\(∀q r,A q r->gs<r\/Z r)/\(∀r,Z r->r<gs/\A 4 r)/\
  bG s2 A R Q cs k d6 s.zero ((s.d9.take i).map aG) (s.d9.map λx:bo=>decide (x.gone≠0)) ((s.d9.take i).map λx:bo=>x.un) [] (s.eJ.map ra)) Ω ⟨a6,cn,ds,S,_,bL,dw,dx,du⟩ ?_ ?_
 .rintro i dz dC hi ⟨a7,ba,bN,A,cs,ao,bO,aR,aS⟩ dD;obtain⟨x,bb⟩:=aJ (l:=s.d9) hi;obtain⟨z,cr⟩:=aJ (l:=d6) (i:=i) Ω;have ff:=(aN.var i x z bb cr).1;have fg:=aN.eQ.2.2 z (x7 cr);have fh:(aG x).length<=32:=by
   unfold aG;refine X0 (List.length_filter_le _ _) ?_;rw[r9,List.length_range];omega
  have dE:=ao.lt;refine bK Ω ?_;intro ap V _ _;have bP:=a7.F V;have fi:=V.size;have ct:=ba.W V;obtain⟨d0,cu⟩:=aS.at 3 Ω;rw[aP aM.p 3 (ao.W V) cu,aP aM.p 3 ct rfl];refine k7 (α:=Λ) (a:=aG x) rfl cq.u au.i (bD bp bP) (by rw[u4,bb];rfl) λfj fk dF dG cw=>?_;obtain⟨cz,rfl⟩:∃u,dF=[u]:=by obtain⟨u,hu,_⟩:=cw;exact⟨u,hu⟩
  rw[aF (v:=cz) Ψ (by have:=dG 0 cz rfl;simpa using this)];refine sW (α:=Int) (R:=R) au.u al.i λfm fo be dH=>?_;refine⟨.inl be,?_⟩;refine sX (α:=Int) au.u al.i rfl dH (bD cw be) (λh=>h) (λr B y H=>by have:=E r H;have:=bP.size;omega) Ω Ω λcA cB cC cD=>?_;have fp:=be.size;have fq:=cD.size;have cE:Ext ap cB:=be.then cD λr B h=>by have h:ap.heap.size<=r:=h;omega
  refine⟨.inl cE,?_⟩;have cF:bw (λr=>ap.heap.size<=r) R cB [cA] (aG x):=aw.Y cC (λr _ h=>by
   rcases h with h|h
   .exact h
   .show ap.heap.size<=r;omega) λ_ _ h=>h
  refine jL cq.u au.i Φ (a:=aG x) (cs:=[cA]) (lO cC) cF λfs ft aO _ dI=>?_;have av:=cE.F aO;refine⟨.inl av,?_⟩;have dJ:=aS.old.W (V.F av);refine bG.RJ dJ (ao.W (V.F av)) cu (λq r h=>bO q r h.1) (λr h=>⟨(aR r h).1,(aR r h).2,by have:=(aR r h).1;omega⟩) bA dI (bD cF aO) (λr B h=>⟨λj y=>by have h:ap.heap.size<=r:=h;omega,by have h:ap.heap.size<=r:=h;omega⟩) Θ λfu fv dK bQ bR cG dL bS _=>?_;have dM:Ext w dK:=aQ (bP.F av) bQ;have dN:=a8 bQ Ω (ct.W av);have dO:=a8 bQ Ω ((bN.W V).W av);have fw:=bR.lt;intro ax W _ _;have bT:=dM.F W;have fx:=W.size;have cH:=dN.W W;obtain⟨oK,cI⟩:=cG.at 5 Ω;rw[aP aM.p 5 (bR.W W) cI,aP aM.p 5 cH rfl];refine k7 (α:=Λ) (a:=x.un) rfl c4.u aA.i (bD cf bT) (by rw[u4,bb];rfl) λfy fz bf dP cJ=>?_;obtain⟨cK,rfl⟩:∃u,bf=[u]:=by obtain⟨u,hu,_⟩:=cJ;exact⟨u,hu⟩
  rw[aF (v:=cK) Ψ (by have:=dP 0 cK rfl;simpa using this)];refine sW (α:=Int) (R:=R) aA.u ay.i λfB fD bg dQ=>?_;refine⟨.inl bg,?_⟩;refine sX (α:=Int) aA.u ay.i rfl dQ (bD cJ bg) (λh=>h) (λr B y H=>by have:=E r H;have:=bT.size;omega) Ω Ω λcL cM cN cO=>?_;have fE:=bg.size;have fF:=cO.size;have cP:Ext ax cM:=bg.then cO λr B h=>by have h:ax.heap.size<=r:=h;omega
  refine⟨.inl cP,?_⟩;have cQ:bw (λr=>ax.heap.size<=r) R cM [cL] x.un:=aw.Y cN (λr _ h=>by
   rcases h with h|h
   .exact h
   .show ax.heap.size<=r;omega) λ_ _ h=>h
  refine jL c4.u aA.i Φ (a:=x.un) (cs:=[cL]) (lO cN) cQ λfH fI cR _ dR=>?_;have az:=cP.F cR;refine⟨.inl az,?_⟩;have dS:=cG.old.W (W.F az);refine bG.RK dS (bR.W (W.F az)) cI (λq r h=>dL q r h.1) (λr h=>⟨(bS r h).1,(bS r h).2,by have:=(bS r h).1;omega⟩) bA dR (bD cQ cR) (λr B h=>⟨λj y=>by have h:ax.heap.size<=r:=h;omega,by have h:ax.heap.size<=r:=h;omega⟩) Θ λdT dU fJ bU dV dW dX dY _=>?_;rw[aT];refine dD _ ⟨aQ (bT.F az) bU,a8 bU Ω (cH.W az),a8 bU Ω ((dO.W W).W az),dT,dU,dV,dX,dY,?_⟩;rw[u9,bb,j4,Z0,Z0];exact dW
 rintro dz dC ⟨a7,ba,bN,A,cs,ao,bO,aR,aS⟩;rw[o9]at aS;refine ck Ω ?_;have dZ:=bD bq a7;have dE:=ao.lt;rw[aP aM.p 6 ba rfl,ij dA.u dZ,r9];refine b3.range s.ho.length (λj C=>Ext w C/\ak C g1 aM [Δ k,hv,Δ s.zero,ac,ad,ae,af,K]/\ak C gt aM z12/\∃A cs,ak C gs aM cs/\(∀q r,A q r->gs<r\/Z r)/\(∀r,Z r->r<gs/\A 4 r)/\
  bG s2 A R C cs k d6 s.zero (s.d9.map aG) (s.d9.map λx:bo=>decide (x.gone≠0)) (s.d9.map λx:bo=>x.un) ((s.ho.take j).map jZ) (s.eJ.map ra)) Ω ⟨a7,ba,bN,A,cs,ao,bO,aR,aS⟩ ?_ ?_
 .rintro j C ea cS ⟨N,bV,bh,aU,bf,aB,bi,aV,X⟩ eb;obtain⟨f,bW⟩:∃f,s.ho[j]?=σ f:=⟨_,v8 cS⟩;obtain⟨_,fK,fL⟩:=vg aN (x7 bW);have ec:=aB.lt;refine bK Ω ?_;refine nH c5.p rfl dA.u c5.i (bD bq N) (by rw[u4,bW];rfl) λfM bX=>?_;have ed:=aw.one bX;have fN:=bX;obtain⟨cT,cU,ee,ef,rfl,_,_,_,⟨bj,cV,eh,ei,rfl,_,_,_,aC,cW,cX,fO,ej,rfl,_,_,_,aD,aH⟩,bY⟩:=bX;have aC:Seen R C bj f.sc:=aC;have aD:Seen R C cW f.an:=aD;have aH:aw.rep s2 ej R C cX f.cs:=aH;have bY:cU=[.bool (decide (f.live≠0))]:=bY;obtain⟨aW,rfl⟩:∃u,bj=[u]:=by obtain⟨u,hu,_⟩:=aC;exact⟨u,hu⟩
  obtain⟨aI,rfl⟩:∃u,cW=[u]:=by obtain⟨u,hu,_⟩:=aD;exact⟨u,hu⟩
  obtain⟨v3,rfl⟩:∃u,cX=[u]:=by obtain⟨u,hu,_⟩:=aH;exact⟨u,hu⟩
  subst bY;refine bF c5.i λaK fP fQ ek em=>?_;refine cd (vs:=[aW,aI,v3,.bool (decide (f.live≠0))]) c5.i rfl rfl ed em λG en fR bk=>?_;have bZ:Ext C G:=ek.put en Ω;refine sW (α:=Int) (R:=R) aA.u ay.i λfS fU bl eo=>?_;have cY:=bZ.F bl;rw[aZ c5.p rfl,aZ bd.p rfl,aF (v:=v3) Ψ ((bk.W bl).cell (o:=0+0+2) rfl)];refine sX (α:=Int) aA.u ay.i rfl eo (bD aH cY) (λh=>h) (λr B y H=>by have:=E r H;have:=(N.F bZ).size;omega) Ω Ω λaL fV b0 b1=>?_;have fW:=bZ.size;have fX:=bl.size;have fY:=b1.size;have ep:=(bk.W bl).aa b1 λh=>by have h:G.heap.size<=aK:=h;have:=bk.lt;omega
  rw[aZ c5.p rfl,aZ bd.p rfl];refine bs (g:=aK) (o:=2) aA.i (lO b0) (k6 b0) ep Ξ λbm cZ fZ b2=>?_;have b2:ak bm aK c5 [aW,aI,aL,.bool (decide (f.live≠0))]:=b2;have gb:C.heap.size<=aK:=Ω
  have gc:=bk.lt;have bn:Ext C bm:=(cY.then b1 λr B h=>by have h:G.heap.size<=r:=h;omega).then cZ λr B h=>by have h:r=aK:=h;omega
  have er:bw (λr=>G.heap.size<=r) R bm [aL] f.cs:=aw.Y (aw.aa b0 cZ λr B h y=>by
   have y:r=aK:=y;rcases h with h|h
   .rcases h with h|h
    .have h:G.heap.size<=r:=h;omega
    .omega
   .have:=E r h;have:=N.size;omega) (λr _ h=>by
    rcases h with h|h
    .exact h
    .show G.heap.size<=r;omega) λ_ _ h=>h
  have own:bw (α:=jY) (λr=>G.heap.size<=r) R bm [aW,aI,aL,.bool (decide (f.live≠0))] (jZ f):=
   ⟨[aW,aI,aL],[.bool (decide (f.live≠0))],λr=>G.heap.size<=r,λ_=>False,rfl,λ_ h=>h,λ_ h=>h.elim,λ_ _ _ h=>h,⟨[aW],[aI,aL],λ_=>False,λr=>G.heap.size<=r,rfl,λ_ h=>h.elim,λ_ h=>h,λ_ _ h=>h.elim,bD aC bn,[aI],[aL],λ_=>False,λr=>G.heap.size<=r,rfl,λ_ h=>h.elim,λ_ h=>h,λ_ _ h=>h.elim,bD aD bn,er⟩,rfl⟩
  obtain⟨f0,c0⟩:=X.at 6 Ω;rw[aP aM.p 6 (aB.W bn) c0,bI c5.p c5.i rfl b2.range];refine jL dA.u c5.i Φ rfl own λgd gf c1 _ es=>?_;have aX:=bn.F c1;have et:=X.old.W aX;refine bG.RL et (aB.W aX) c0 (λq r h=>bi q r h.1) (λr h=>⟨(aV r h).1,(aV r h).2,by have:=(aV r h).1;omega⟩) bA es (bD own c1) (λr B h=>⟨λj y=>by have h:G.heap.size<=r:=h;omega,by have h:G.heap.size<=r:=h;omega⟩) Θ λeu ev gg b4 ew ey ez eA _=>?_;rw[aT];refine eb _ ⟨aQ (N.F aX) b4,a8 b4 Ω (bV.W aX),a8 b4 Ω (bh.W aX),eu,ev,ew,ez,eA,?_⟩;rw[u9,bW,j4,Z0];exact ey
 rintro C ea ⟨N,bV,bh,aU,bf,aB,bi,aV,X⟩;rw[o9]at X;refine ck Ω ?_;have ec:=aB.lt;have gh:=N.size;refine sW (α:=mY) (R:=R) pj.u rM.i λgi eB Y eC=>?_;have gj:=Y.size;rw[aP aM.p 7 (bV.W Y) rfl];refine sX (α:=mY) pj.u rM.i rfl eC (bD bt (N.F Y)) (λh=>?_) (λr B y H=>by have:=E r H;omega) Θ Θ λb5 gk b6 b7=>?_
 .obtain⟨cT,cU,ee,ef,rfl,_,_,_,aC,bj,cV,eh,ei,rfl,_,_,_,aD,aH⟩:=h;exact⟨cT,_,λ_=>False,λ_=>False,rfl,λ_ h=>h,λ_ h=>h,λ_ _ h=>h.elim,aC,bj,cV,λ_=>False,λ_=>False,rfl,λ_ h=>h,λ_ h=>h,λ_ _ h=>h.elim,aD,aH⟩
 have gl:=b7.size;have eD:=(aB.W Y).aa b7 λh=>by have h:C.heap.size<=gs:=h;omega
 rw[aZ aM.p rfl];refine bs (g:=gs) (o:=7) pj.i (lO b6) (k6 b6) eD (by rw[(bG.len X).1];omega) λb8 c2 gm eE=>?_;have b9:ai (λr=>C.heap.size<=r\/r=gs) eB b8:=(b7.Y λr _ h=>.inl h).F (c2.Y λr _ h=>.inr h);have eF:bw (λr=>C.heap.size<=r) R b8 [b5] (s.eJ.map ra):=aw.Y (aw.aa b6 c2 λr B h y=>by
  have y:r=gs:=y;rcases h with h|h
  .rcases h with h|h
   .have h:C.heap.size<=r:=h;omega
   .omega
  .have:=E r h;omega) (λr _ h=>by
   rcases h with h|h
   .exact h
   .show C.heap.size<=r;omega) λ_ _ h=>h
 have eH:=(X.old).W Y;have eI:∀j,¬aU j gs:=λj h=>(bi j gs h).elim (λh=>Ω) λh=>by have:=cp gs h;omega
 have eK:∀i j r,i≠j->aU i r->¬aU j r:=by obtain⟨_,_,_,_,_,_,_,_,_,_,_,_,_,eL⟩:=id X;exact(eL rfl).1
 have c3:=eH.RB (x:=b5) b9 (λr B=>?_) eF (λj r cS B y=>by have B:C.heap.size<=r:=B;have:=y.2;omega) (λr B y=>by have B:C.heap.size<=r:=B;have:=E r y;omega)
 rotate_left
 .refine .inr ⟨λj y=>?_,λy=>?_⟩
  .rcases B with B|rfl
   .have:=y.2;omega
   .exact eI j y.1
  .have:=E r y;rcases B with B|B<;>omega
 obtain⟨ca,eM⟩:=c3.len;have eN:ak b8 gt aM z12:=(bh.W Y).aa b9 λh=>by
  rcases h with h|h
  .have:=bh.lt;omega
  .omega
 rw[bI aM.p aM.i ca eE.range];refine cd (vs:=bf.set 7 b5) aM.i ca rfl eM eN λgn c6 gp eO=>?_;rw[fA aM.p aM.i ca eO.range];have c7:∀q r,fG (λi r=>aU i r/\r<C.heap.size) 4 (λr=>C.heap.size<=r) q r->gs<r:=λq r h=>by
  unfold fG at h;split at h
  .have h:C.heap.size<=r:=h;omega
  .rename_i eP;exact(bi q r h.1).resolve_right λy=>eK q 4 r eP h.1 (aV r y).2
 have eR:=c3.aa c6 λr B h he=>by
  have he:r=gt:=he;rcases h with⟨q,h⟩|h
  .have:=c7 q r h;omega
  .have:=E r h;omega
 refine⟨((N.F Y).then b9 λr B h=>?_).then c6 λr B h=>by have h:r=gt:=h;omega,_,_,rfl,eR,λq r h=>by have:=c7 q r h;omega⟩;rcases h with h|h<;>omega
theorem vr{S T:Nat->Prop}(h:ai S w I)(k:ai T w I):ai (λr=>S r/\T r) w I:=
 ⟨h.size,λr o a V f=>by
  by_cases e:S r
  .exact k.a8 r o a V (by grind)
  .exact h.a8 r o a V e⟩
theorem nU{ag:Nat}{A R:aj}{n:aI}{s:am}{t:aB}(h:bC w af ag A R n s t):∀r,A r\/R r->r<w.heap.size:=λr a=>by
 obtain⟨e,f,j,q,⟨_,_,x,y⟩,_⟩:=h.1
 grind
structure ci(w:x5)(af ag av:Nat)(A R:aj)(A9:Nat->aj)(aK:aj)(n:aI)(s u:am)(t:aB)(h:List aB)(cs:List x4):Prop where
 dG:bC w af ag A R n s t
 iJ:iT t h
 box:ak w av aM cs
 doc:iw s2 A9 aK w cs n.k n.d6 u
 apart:∀q r,A9 q r->¬A r/\¬R r/\r≠av
 read:∀r,aK r->¬eR w r/\r<w.heap.size/\r≠av
 out:¬A av/\¬R av
section
variable{w I:x5}{af ag av:Nat}{A R:aj}{A9:Nat->aj}{aK:aj}{n:aI}{s u:am}{t:aB}{h:List aB}{cs:List x4}
theorem ci.W(p:ci w af ag av A R A9 aK n s u t h cs)(J:Ext w I):ci I af ag av A R A9 aK n s u t h cs:=
 ⟨p.dG.W J,p.iJ,p.box.W J,p.doc.W J,p.apart,λr a=>⟨λh=>(p.read r a).1 (oE (λo aC V _=>J.a8 r o aC V) h),by have:=(p.read r a).2.1;have:=J.size;omega,(p.read r a).2.2⟩,p.out⟩
theorem ci.prog{aR R':aj}{s':am}{bu:aB}{be:List aB}(p:ci w af ag av A R A9 aK n s u t h cs)(x:ai (eR w) w I)(f:Grow A w aR I)(C:bC I af ag aR R' n s' bu)(j:iT bu be)(y:∀r,R' r->R r\/B<=r)(F:∀q r,A9 q r->r<w.heap.size->r<B)(J:av<B):
  ci I af ag av aR R' (λq r=>A9 q r/\r<w.heap.size) aK n s' u bu be cs:=by
 have G:=p.box.lt;have z:=x.size;refine⟨C,j,p.box.aa f.1 p.out.1,bG.aa p.doc.old (vr x f.1) λr e h j=>?_,λq r h=>⟨λa=>?_,λe=>(y r e).elim (p.apart q r h.1).2.1 (by grind),(p.apart q r h.1).2.2⟩,λr e=>⟨λh=>?_,by have:=(p.read r e).2.1;omega,(p.read r e).2.2⟩,λa=>?_,λe=>(y av e).elim p.out.2 Ω⟩
 .rcases h with⟨q,h⟩|h
  .exact (p.apart q r h.1).1 j.2
  .exact (p.read r h).1 j.1
 .rcases f.2.1 r a with a|a
  .exact (p.apart q r h.1).1 a
  omega
 .exact (p.read r e).1 (oE (λo aC V E=>x.a8 r o aC V E) h)
 .rcases f.2.1 av a with a|a
  .exact p.out.1 a
  .omega
theorem ci.RP{S:aj}{cD:Nat->aj}{u':am}{bJ:List x4}(p:ci w af ag av A R A9 aK n s u t h cs)(f:ai S w I)(x:∀r,r<w.heap.size->S r->(∃q,A9 q r)\/r=av)(B:ak I av aM bJ)(C:iw s2 cD aK I bJ n.k n.d6 u')(E:∀q r,cD q r->(∃j,A9 j r)\/(¬A r/\¬R r/\r≠av)):
  ci I af ag av A R cD aK n s u' t h bJ:=by
 have F:=p.box.lt;have z:=f.size;have G:∀q r,A9 q r->¬aK r:=by obtain⟨_,_,_,_,_,_,_,_,_,_,_,_,_,H⟩:=p.doc;grind
 refine⟨⟨p.dG.1.aa f λr e h V=>?_,p.dG.2⟩,p.iJ,B,C,λq r h=>?_,λr e=>⟨λh=>(p.read r e).1 (oE (λo aC V _=>f.a8 r o aC V λa=>?_) h),by have:=(p.read r e).2.1;omega,(p.read r e).2.2⟩,p.out⟩
 .rcases x r e V with⟨q,a⟩|a
  .exact h.elim (p.apart q r a).1 (p.apart q r a).2.1
  .subst a;exact h.elim p.out.1 p.out.2
 .rcases E q r h with⟨j,a⟩|a
  .exact p.apart j r a
  .exact a
 .rcases x r (p.read r e).2.1 a with⟨q,y⟩|y
  .grind
  .exact (p.read r e).2.2 y
theorem ci.RQ{S:aj}{cD:Nat->aj}{u':am}{bJ:List x4}(p:ci w af ag av A R A9 aK n s u t h cs)(y:∀r,A r\/R r->r<B)(z:av<B)(a:ai S w I)(e:∀r,r<w.heap.size->S r->(∃q,A9 q r)\/r=av)(f:ak I av aM bJ)(j:iw s2 cD aK I bJ n.k n.d6 u')(C:∀q r,cD q r->(∃x,A9 x r)\/B<=r):
  ci I af ag av A R cD aK n s u' t h bJ:=
 p.RP a e f j (by grind)
theorem ci.FQ{S:aj}{cD:Nat->aj}{u':am}{bJ:List x4}(p:ci w af ag av A R A9 aK n s u t h cs)(a:ai S w I)(e:∀r,r<w.heap.size->S r->(∃q,A9 q r)\/r=av)(f:ak I av aM bJ)(j:iw s2 cD aK I bJ n.k n.d6 u')(x:∀q r,cD q r->(∃y,A9 y r)\/w.heap.size<=r):
  ci I af ag av A R cD aK n s u' t h bJ:=p.RQ (nU p.dG) p.box.lt a e f j x
theorem ci.look(p:ci w af ag av A R A9 aK n s u t h cs):mZ w av n.k n.d6 u:=by
 refine j0.box p.doc.yZ (Ext.refl _) ?_;have:=p.box;exact this
theorem ci.p2(p:ci w af ag av A R A9 aK n s u t h cs):∃hv a e f j q,cs=[Δ n.k,hv,Δ u.zero,a,e,f,j,q]/\aQ .i64 w hv n.d6:=by
 obtain⟨hv,a,e,f,j,q,h1,r,_⟩:=p.doc
 grind [ew]
end
end Go.Proofs.YtlcdcbgoaljiiaaGreatDoor
namespace Go.Vc
open Go Go.RowKit
section
variable{P:X8}{w:x5}{α:Type}[aw α]{S R:aj}
theorem vt{v:x4}{l:List α}{i:Nat}{a:α}(h:bw S R w [v] l)(C:l[i]?=σ a)(O:∀r,r<w.heap.size->S r->¬R r):∃g cap c F,v= .slice (σ ⟨g,0,ν⟩) l.length cap/\w.rangeAt g (i*aw.n α) c/\bw F R w c a/\(∀r,F r->S r)/\
  ∀{I:x5}{a':α}{T z:aj},ai T w I->(∀r,r<w.heap.size->T r->F r)->bw z R I c a'->(∀r,z r->F r\/w.heap.size<=r)->bw (λr=>S r\/w.heap.size<=r) R I [v] (l.set i a'):=by
 have an:=(x6.1 C).1;obtain⟨vs,g,F,ae,he,V,hm⟩:=jK h;obtain⟨P,Q,E⟩:=hm rfl;obtain⟨ao,⟨rfl,ap⟩|⟨cap,full,rfl,U,aq,au,ah,av⟩⟩:=id E
 .omega
 have W:vs.length=l.length:=he.1;have ax:S g:=P.resolve_left Ξ;obtain⟨c,G⟩:∃c,vs[i]?=σ c:=⟨_,v8 Ω⟩;have X:=he.2 i c a G C;refine⟨g,cap,c,F i,rfl,?_,X,λr s=>ae.sub i r s,λ{I a' T z}H K Y A=>?_⟩
 .obtain⟨_,ay,o',az,aA,Z,_,_,ab,_,ac⟩:=V;cases Z;cases ab Ω;intro j u ad;have aB:=ac (i*aw.n α+j) u (by rw[<-List.flatMap_id];exact qS (f:=id) (k:=aw.n α) (λx J=>he.len x J) G ad)
  grind
 have af:¬T g:=λh=>ae.top rfl i (K g U.lt h);have aC:=aw.len Y;have aD:vs.set i c=vs:=by
  refine Y2 λq=>?_
  grind
 have aE:b7 I g Q (aw.n α) (.slice (σ ⟨g,0,ν⟩) l.length cap) (l.set i a').length vs.flatten:=by
  rw[Y0];exact E.aa H λ_=>af
 refine⟨_,rfl,vs,g,λj r=>if j=i then z r else F j r/\r<w.heap.size,⟨λj r s=>?_,λ_ j s=>?_,λ_ j q r ag h1 y=>?_⟩,⟨by simp[W],λj L M al N=>?_⟩,?_,by grind⟩
 .split at s
  .exact (A r s).imp (ae.sub i r) id
  .exact .inl (ae.sub j r s.1)
 .split at s
  .rcases A g s with h|h
   .exact ae.top rfl i h
   grind [ak.lt]
  .exact ae.top rfl j s.1
 .split at h1<;>split at y
  .omega
  .rcases A r h1 with h|h
   .rename_i e _;exact ae.ii rfl i q r Ω h y.1
   omega
  .rcases A r y with h|h
   .exact ae.ii rfl j i r Ω h1.1 h
   omega
  .exact ae.ii rfl j q r ag h1.1 y.1
 .by_cases B:j=i
  .subst B
   grind
  .rw[Y8 (Ne.symm B)]at N;have am:bw (λr=>if j=i then z r else F j r/\r<w.heap.size) R w L M:=aw.Y (he.2 j L M al N) (by grind) λ_ _ h=>h;refine aw.aa am H λr s h1 y=>?_;have y:=K r s y;rcases h1 with h1|h1
   .simp only[m5 B]at h1;exact ae.ii rfl j i r B h1.1 y
   .exact O r s (ae.sub i r y) h1
 grind [pu]
theorem FR{v:x4}{l:List α}{i:Nat}{a:α}(h:bw S R w [v] l)(H:l[i]?=σ a)(O:∀r,r<w.heap.size->S r->¬R r):∃g cap full A c F,v= .slice (σ ⟨g,0,ν⟩) l.length cap/\ak w g A full/\S g/\i*aw.n α+aw.n α<=full.length/\(∀(q:Nat)x,c[q]?=σ x->full[i*aw.n α+q]?=σ x)/\bw F R w c a/\(∀r,F r->S r)/\¬F g/\
  ∀{I:x5}{a':α}{z:List x4}{T B:aj},ai T w I->(∀r,r<w.heap.size->T r->F r\/r=g)->ak I g A (over full (i*aw.n α) z)->bw B R I z a'->(∀r,B r->F r\/w.heap.size<=r)->bw (λr=>S r\/w.heap.size<=r) R I [v] (l.set i a'):=by
 have P:=(x6.1 H).1;obtain⟨vs,g,F,ae,he,V,hm⟩:=jK h;obtain⟨Q,A,U⟩:=hm rfl;obtain⟨aq,⟨rfl,au⟩|⟨cap,full,rfl,W,av,X,ah,ax⟩⟩:=id U
 .omega
 have Y:vs.length=l.length:=he.1;have Z:S g:=Q.resolve_left Ξ;obtain⟨c,K⟩:∃c,vs[i]?=σ c:=⟨_,v8 Ω⟩;have ab:=he.2 i c a K H;have ac:(i+1)*aw.n α<=l.length*aw.n α:=V4 _ P;have ay:l.length*aw.n α<=full.length:=by grind
 rw[T7,Nat.one_mul]at ac;refine⟨g,cap,full,A,c,F i,rfl,W,Z,Ω,λq x ad=>?_,ab,λr y=>ae.sub i r y,ae.top rfl i,λ{I a' z T B}af ag al am C=>?_⟩
 .have az:=qS (f:=id) (k:=aw.n α) (λx J=>he.len x J) K ad
  grind [List.flatMap_id]
 have an:=aw.len am;have aA:∀c∈vs.set i z,c.length=aw.n α:=λc E=>by
  rcases U5 E with s|rfl
  .exact he.len c s
  .exact an
 have aB:b7 I g A (aw.n α) (.slice (σ ⟨g,0,ν⟩) l.length cap) (l.set i a').length (vs.set i z).flatten:=by
  refine⟨by grind [tR,Y0],.inr ⟨cap,_,by grind,al,by grind,X,by rw[nD,ah],?_⟩⟩
  grind [xK,FN,nG.len]
 refine⟨_,rfl,vs.set i z,g,λj r=>if j=i then B r else F j r/\r<w.heap.size,⟨λj r y=>?_,λ_ j y=>?_,λ_ j q r ao h1 s=>?_⟩,⟨by simp[Y],λj L M E N=>?_⟩,?_,by grind⟩
 .split at y
  .exact (C r y).imp (ae.sub i r) id
  .exact .inl (ae.sub j r y.1)
 .split at y
  .rcases C g y with h|h
   .exact ae.top rfl i h
   grind [ak.lt]
  .exact ae.top rfl j y.1
 .split at h1<;>split at s
  .omega
  .rcases C r h1 with h|h
   .rename_i e _;exact ae.ii rfl i q r Ω h s.1
   omega
  .rcases C r s with h|h
   .exact ae.ii rfl j i r Ω h1.1 h
   omega
  .exact ae.ii rfl j q r ao h1.1 s.1
 .by_cases G:j=i
  .subst G
   grind
  .rw[Y8 (Ne.symm G)]at E N;have ap:bw (λr=>if j=i then B r else F j r/\r<w.heap.size) R w L M:=aw.Y (he.2 j L M E N) (by grind) λ_ _ h=>h;refine aw.aa ap af λr y h1 s=>?_;have s:=ag r y s;rcases h1 with h1|h1
   .simp only[m5 G]at h1;rcases s with s|rfl
    .exact ae.ii rfl j i r G h1.1 s
    .exact ae.top rfl j h1.1
   .rcases s with s|rfl
    .exact O r y (ae.sub i r s) h1
    grind
 grind [pu]
end
end Go.Vc
namespace Go.Proofs.YtlcdcbgoaljiiaaGreatDoor
open Go Go.Vc Go.RowKit Go.Proofs Go.Proofs.Tryz
set_option maxRecDepth 100000
section
variable{w0 w:x5}{af ag av ga:Nat}{A R:aj}{A9 cD:Nat->aj}{aK:aj}{n:aI}{s u:am}{t:aB}{h:List aB}{cs bJ:List x4}{aX a1 m4:x4}{Q:x4->x5->Prop}
theorem ci.olds(p:ci w0 af ag av A R A9 aK n s u t h cs):ci w0 af ag av A R (λq r=>A9 q r/\r<w0.heap.size) aK n s u t h cs:=
 ⟨p.dG,p.iJ,p.box,p.doc.old,λq r a=>p.apart q r a.1,p.read,p.out⟩
end
theorem re{α β:Type}{l:List α}{i:Nat}{a b:α}{f:α->β}(h:l[i]?=σ a)(ah:f b=f a):(l.set i b).map f=l.map f:=by
 rw[U2,ah];refine Y2 λq=>?_;rw[X6];by_cases e:i=q
 .subst e;rw[m3 rfl,u4,h,m3 (by rw[r9];exact(x6.1 h).1)];rfl
 .rw[m5 e]
theorem y2{T:Nat->Prop}(h:ai T w I):ai (λr=>T r/\r<w.heap.size) w I:=⟨h.size,λr o a V e=>h.a8 r o a V λf=>e ⟨f,(Y1.1 a).1⟩⟩
section
variable{w0 w I:x5}{af ag av ga:Nat}{A R:aj}{A9:Nat->aj}{aK:aj}{n:aI}{s u u':am}{t:aB}{h:List aB}{cs:List x4}{aX a1 m4 v:x4}{Q:x4->x5->Prop}
theorem bG.r1{m:Bool}{zero:Int}{D:List (Λ)}{G:List Bool}{a7:List (Λ)}{H:List jY}{E:List mY}{i:Nat}(ac:cs[i]?=σ v)(h:bG m A9 aK w (cs.set i v) k d6 zero D G a7 H E):bG m A9 aK w cs k d6 zero D G a7 H E:=by
 have:cs.set i v=cs:=by
  refine Y2 λq=>?_;rw[X6];by_cases a:i=q
  .subst a;have:=(x6.1 ac).1;rw[m3 rfl,m3 this,ac]
  .rw[m5 a]
 rw[this]at h;exact h
theorem ci.row{T:aj}{cD:Nat->aj}{q:Nat}(p:ci w af ag av A R A9 aK n s u t h cs)(a:ai T w I)(e:∀r,r<w.heap.size->T r->A9 q r)(f:iw s2 cD aK I cs n.k n.d6 u')(j:∀q r,cD q r->(∃x,A9 x r)\/w.heap.size<=r):
  ci I af ag av A R cD aK n s u' t h cs:=
 p.FQ a (λr y h=>.inl ⟨q,e r y h⟩) (p.box.aa a λh=>(p.apart q av (e av p.box.lt h)).2.2 rfl) f j
theorem y3{q:Nat}{B:aj}(a:∀r,B r->A9 q r\/w.heap.size<=r):∀j r,fG A9 q B j r->(∃e,A9 e r)\/w.heap.size<=r:=λj r h=>by
 unfold fG at h;split at h
 .exact (a r h).imp (λh=>⟨q,h⟩) id
 .exact .inl ⟨j,h⟩
end
def jx(n:aI)(s:am)(j:Nat)(pos v o u:Int):Int:=min (dY s j (if pos=1 then[u,v]else[v,u])+bM n s o u) n.k
section
variable{w:x5}{af ag:Nat}{A R:aj}{n:aI}{s:am}{t:aB}
theorem RR{o:Int}{g1 E G H J:Nat}(h:bC w af ag A R n s t)(h1:ak w g1 al [Δ v])(M:ak w E al [Δ pos])(x:ak w G eD [Γ af])(N:ak w H al [Δ (j:Int)])(O:ak w J al [Δ o])(l:Λ):
  yP w KD #[Γ g1,Γ E,Γ G,Γ H,Γ J] l (jx n s j pos v o):=λI u f _=>by
 have h:=h.W f;refine aE func226 ?_;rw[aF Ψ ((h1.W f).cell rfl)];refine qB (l:=[v,u]) au.u al.i Ξ rfl Ψ λX ga U Y y P=>?_;have K:=f.F y;refine a6 (λr ab=>Ext I ab/\aQ .i64 ab r (if pos=1 then[u,v]else[v,u])) ?_ ?_
 .rintro aX ab ⟨a,Q⟩;have z:=f.F a;rw[aF Ψ ((x.W z).cell rfl),aF Ψ ((N.W z).cell rfl)];refine Fx (h.W a) Q λe Z q=>?_;have B:=z.F q;rw[bA,bB,aF Ψ ((x.W B).cell rfl),aF Ψ ((O.W B).cell rfl)];refine Fy (h.W (a.F q)) λaa ac C=>?_;have S:=B.F C;rw[bA,bB,aF Ψ ((x.W S).cell rfl)];refine(Rl (h.W ((a.F q).F C)) (vl h.2.2.2.1) (kQ h.2.2.2.1)).Y ?_;rintro _ ad _ ⟨rfl,V⟩;exact⟨rfl,((a.F q).F C).F V⟩
 intro az L;rw[aF Ψ ((M.W K).cell rfl),bl,ao];refine⟨λae=>?_,λae=>L _ _ ⟨y,by rw[m5 ae];exact P.ls⟩⟩;rw[aF Ψ ((h1.W K).cell rfl)];refine qB (l:=[u,v]) au.u al.i Ξ rfl Ψ λah ai ab aj a W=>?_;exact L _ _ ⟨y.F a,by rw[m3 ae];exact W.ls⟩
theorem RS{o:Int}{f:bP}{x:bo}(h:bC w af ag A R n s t)(ad:Laid w)(ah:s.ho[j]?=σ f)(ae:0<=pos/\pos<=1)(aK:f.sc.length=2)(aC:f.sc[(1-pos).toNat]?=σ o)(J:s.d9[o.toNat]?=σ x):
  aq x8 JV [Γ af,Δ (j:Int),Δ pos,Δ v] w λr I=>Ext w I/\r= .tuple #[Δ (dC n.k (aG x) (jx n s j pos v o)).1,Δ (dC n.k (aG x) (jx n s j pos v o)).2]:=by
 have ai:=((h.2.2.2.1.ho f (x7 ah)).1.scope.1 o (x7 aC)).1;have aL:j<4611686018427387904:=by
  have h1:=sN h.2.1 h.2.2.1;have aM:=yH ah;have aN:=(x6.1 ah).1;have aO:j<=fF s j:=by
   unfold fF;have:j<=((s.ho.take j).flatMap i9).length:=by
    have aj:∀(L:List bP),L.length<=(L.flatMap i9).length:=λL=>by
     induction L with
     |nil=>exact o6 _
     |cons a L aP=>rw[T0,j6,W0];have:(i9 a).length=a.cs.length+1:=rfl;omega
    have am:=aj (s.ho.take j);rw[Z3]at am;omega
   omega
  omega
 refine aE func166 ?_;refine br λan U aQ ao G=>?_;refine br λap ab aR Y H=>?_;refine br λaS aT aU O K=>?_;refine br λg1 P aV M Q=>?_;have Z:=((ao.F Y).F O).F M;have G:ak P an eD [Γ af]:=((G.W Y).W O).W M;have H:ak P ap al [Δ (j:Int)]:=(H.W O).W M;have K:=K.W M;have Q:=Q;refine a6 (λr S=>Ext P S/\∃e,r=Γ e/\ak S e al [Δ o]) ?_ ?_
 .rintro _ S ⟨C,e,rfl,E⟩;have N:=Z.F C;rw[aF Ψ ((G.W C).cell rfl),aF Ψ (E.cell rfl),lM];refine(Fv (h.W N) (ad.W N) ai J (RR (h.W N) (Q.W C) (K.W C) (G.W C) (H.W C) E _)).Y ?_;rintro _ aW _ ⟨av,rfl⟩;rw[bA,bB];exact⟨N.F av,rfl⟩
 intro az aa aX q _ _;have ac:=Z.F q;rw[aF Ψ ((G.W q).cell rfl),aF Ψ ((H.W q).cell rfl),aF Ψ ((K.W q).cell rfl),dm,lm Ω Ω];refine⟨?_,?_⟩
 .refine (l4 (h.W ac) ah).Y ?_;rintro r aw _ ⟨z,ax,ay,V⟩;refine⟨.inl z,?_⟩;refine om Ω au.u al.i V.ls aC λaY co aA=>?_;rw[aF Ψ aA];refine bF al.i λe aB aD B E=>?_;refine⟨.inl B,.inl (z.F B),?_⟩;have z9:=((q.F z).F B).size;refine bs al.i rfl rfl E Φ λaH W aI X=>?_;have aZ:=(q.F z).size;exact aa _ _ ⟨((q.F z).F B).then W λr aJ he=>by have he:r=e:=he;omega,e,rfl,X⟩
 .refine bF al.i λe aB aD B E=>?_;refine⟨.inl B,?_⟩;refine(l4 (h.W (ac.F B)) ah).Y ?_;rintro r aw _ ⟨z,ax,ay,V⟩;refine⟨.inl (B.F z),?_⟩;rw[fz (y:=1-pos) (i:=(1-pos).toNat) Ω au.u al.i Ψ V.ls aC];have a1:=q.size;refine bs al.i rfl rfl (E.W z) Φ λaH W aI X=>?_;exact aa _ _ ⟨((q.F B).F z).then W λr aJ he=>by have he:r=e:=he;omega,e,rfl,X⟩
def RT(n:aI)(s:am)(j pos v:Int)(r:x4):Prop:=((¬∃f u x,nT s j pos v f u x)->r= .tuple #[Δ 0,Δ (-1),Δ 1])/\∀f u x,nT s j pos v f u x->(f.sc.length≠2->r= .tuple #[Δ 0,Δ (-1),Δ 1])/\
 (f.sc.length=2->∀o y,f.sc[(1-pos).toNat]?=σ o->s.d9[o.toNat]?=σ y->r= .tuple #[Δ (dC n.k (aG y) (jx n s j.toNat pos v o)).1,Δ (dC n.k (aG y) (jx n s j.toNat pos v o)).2,Δ 0])
theorem nT.same{j:Int}{f a:bP}{u u':Int}{x e:bo}(h:nT s j pos v f u x)(k:nT s j pos v a u' e):a=f/\u'=u/\e=x:=by
 have q:=h.ah;rw[k.ah]at q;cases q;have r:=h.hu;rw[k.hu]at r;cases r;have w:=h.J;rw[k.J]at w;cases w;exact⟨rfl,rfl,rfl⟩
theorem RU{j:Int}(h:bC w af ag A R n s t)(N:Laid w):aq x8 Jh [Γ af,Δ j,Δ pos,Δ v] w λr I=>Ext w I/\RT n s j pos v r:=by
 refine aE func102 ?_;refine(Rp h).Y ?_;rintro _ U _ ⟨B,e,rfl,he,E⟩;rw[bO,ao];refine⟨λa=>⟨B,λ_=>by rw[he.resolve_left a],λf u x ae=>m6 (E.2 ⟨f,u,x,ae⟩) a⟩,λO=>?_⟩;obtain⟨f,u,x,ae⟩:=E.1 (X1.1 O);have G:=l4 (h.W B) ae.ah;have Y:=ae.FA;rw[show((j.toNat:Nat):Int)=j by omega]at G;refine G.Y ?_;rintro r ab _ ⟨P,Z,_,Q⟩;have q:=B.F P;rw[ba au.u Q.ls,bO,ao];refine⟨λa=>⟨q,λ_=>rfl,λS u' V C=>⟨λ_=>rfl,λz=>?_⟩⟩,λz=>?_⟩
 .obtain⟨rfl,_⟩:=ae.same C;omega
 have z:f.sc.length=2:=Ω
 have aa:=(x6.1 ae.hu).1;have ac:=ae.eK;obtain⟨o,aC⟩:=aJ (l:=f.sc) (i:=(1-pos).toNat) Ω;have H:=(h.2.2.2.1.ho f (x7 ae.ah)).1;have ad:=h.2.2.2.1.d9;have ai:=H.d9 o (x7 aC);have aj:=(H.scope.1 o (x7 aC)).1;obtain⟨y,J⟩:=aJ (l:=s.d9) (i:=o.toNat) Ω;have K:=RS (v:=v) (h.W q) (N.W q) ae.ah ⟨ae.eK,Ω⟩ z aC J;rw[show((j.toNat:Nat):Int)=j by omega]at K;refine K.Y ?_;rintro _ ak _ ⟨W,rfl⟩;rw[bA,bB];refine⟨q.F W,λX=>m6 ⟨f,u,x,ae⟩ X,λS u' V C=>?_⟩;obtain⟨rfl,_⟩:=ae.same C;refine⟨λa=>m6 z a,λ_ o' al L M=>?_⟩;rw[aC]at L;cases L;rw[J]at M;cases M;rfl
end
theorem RV{l3:Nat}{cap:Array x4}{p:Int->Bool}(h:aQ .i64 w sv l)(ae:∀I x,Ext w I->x∈l->aq x8 l3 (Δ x::cap.toList) I λr q=>r= .bool (p x)/\Ext I q):
  aq x8 wP [sv,.func (.func l3) #[] cap] w λv I=>Ext w I/\((v=Δ (-1)/\∀x∈l,p x=sp)\/∃i:Nat,v=Δ (i:Int)/\i<l.length/\(∀x∈l.take i,p x=sp)/\∀x,l[i]?=σ x->p x=s2):=by
 refine aE func136 ?_;rw[ba au.u h];refine cp.range l.length (λi _ U=>Ext w U/\∀x∈l.take i,p x=sp) h.le ⟨Ext.refl _,Ξ⟩ ?_ ?_
 .rintro i _ U k hi ⟨a,e⟩ hk;refine bK Ω ?_;obtain⟨y,f⟩:=aJ (l:=l) hi;rw[bp au.u al.i Ψ (h.W a) f];refine aq.Y (ae U y a (x7 f)) ?_;rintro _ ab _ ⟨rfl,j⟩;rw[b4];refine⟨λs=>⟨a.F j,.inr ⟨i,rfl,hi,e,λx J=>by rw[f]at J;cases J;exact s⟩⟩,λah=>?_⟩;rw[aT];refine hk _ _ ⟨a.F j,λx J=>?_⟩;rw[u9,f]at J;rcases j9.1 J with J|J
  .exact e x J
  .simp at J;subst J;exact ah
 .rintro _ U k ⟨a,e⟩;rw[o9]at e;rw[aW,ao];exact⟨λh=>Ω,λ_=>⟨a,.inl ⟨rfl,e⟩⟩⟩
theorem RW{g l3:Nat}{cap:Array x4}{p:Int->Bool}{e:o4}(h:aH .i64 e w g sv l)(aI:l.length<=100000000)(ae:∀I x,ai (λr=>lc sv r) w I->x∈l->aq x8 l3 (Δ x::cap.toList) I λr Y=>r= .bool (p x)/\Ext I Y):
  aq x8 IV [sv,.func (.func l3) #[] cap] w λv I=>ai (λr=>lc sv r) w I/\aH .i64 e I g v (l.filter λx=>!p x)/\∀r,lc v r->lc sv r:=by
 refine aE func71 ?_;refine(RV h.ls λI x J=>ae I x (J.aa _)).Y ?_;rintro _ U _ ⟨B,⟨rfl,L⟩|⟨i,rfl,hi,L,Z⟩⟩
 .rw[bl,ao];refine⟨λ_=>⟨B.aa _,?_⟩,λh=>m6 rfl h⟩;rw[List.filter_eq_self.2 λx J=>by rw[L x J];rfl];exact⟨h.W B,λ_ h=>h⟩
 rw[bl,ao];refine⟨λh=>Ω,λ_=>?_⟩;rw[aT,lm Ω Ω];obtain⟨n,M⟩:∃n,l.length=n:=⟨_,rfl⟩;obtain⟨s,rfl⟩:∃s,sv= .slice (σ ⟨g,0,ν⟩) n s:=by
  obtain⟨_,⟨_,h1⟩|⟨s,cs,h1,_⟩⟩:=id h
  .omega
  .exact⟨s,by rw[h1,M]⟩
 obtain⟨_,_,_,_,aK,ab,_⟩:=sy h Ω;have R:∀r,r=g->lc (.slice (σ ⟨g,0,ν⟩) n s) r:=λr N=>⟨_,_,_,rfl,N.symm⟩;have ac:(l.take (i+1)).filter (λx=>!p x)=l.take i:=by
  obtain⟨y,z⟩:=aJ (l:=l) hi;rw[u9,z,List.filter_append,List.filter_eq_self.2 λx J=>by rw[L x J];rfl];simp[Z y z]
 refine⟨λO P C=>∃(q j:Nat)(f:Λ),O=Δ (q:Int)/\P=Δ (j:Int)/\q<j/\j<=n/\ai (λr=>r=g) w C/\aH .i64 e C g (.slice (σ ⟨g,0,ν⟩) n s) f/\f.length=n/\f.take q=(l.take j).filter (λx=>!p x)/\∀k,j<=k->f[k]?=l[k]?,
  λ_ P _=>n-(b1 P).toNat,⟨i,i+1,l,rfl,rfl,Ω,Ω,B.aa _,h.W B,M,ac.symm,λ_ _=>rfl⟩,?_⟩
 rintro _ _ C ⟨q,j,f,rfl,rfl,aL,aM,E,G,S,A,Q⟩;have aN:q=((l.take j).filter λx=>!p x).length:=by rw[<-A,Z3];omega
 rw[ji au.u,aW,ao];refine⟨λad=>?_,λaO=>?_⟩
 .have ad:j<n:=Ω
  obtain⟨y,z⟩:=aJ (l:=l) (i:=j) Ω;have af:f[j]?=σ y:=by rw[Q j (o6 _),z]
  refine a6 (λO H=>∃(q:Nat)(f:Λ),O=Δ (q:Int)/\q<j+1/\ai (λr=>r=g) w H/\aH .i64 e H g (.slice (σ ⟨g,0,ν⟩) n s) f/\f.length=n/\f.take q=(l.take (j+1)).filter (λx=>!p x)/\∀k,j+1<=k->f[k]?=l[k]?) ?_ ?_
  .rintro _ H ⟨q,f,rfl,h1,ag,aj,ak,am,an⟩;rw[aT,lm Ω Ω];exact⟨⟨q,j+1,f,rfl,rfl,h1,Ω,ag,aj,ak,am,an⟩,by simp only[b1];omega⟩
  intro az V;rw[bp au.u al.i Ψ G.ls af];refine aq.Y (ae C y (E.Y λr _=>R r) (x7 z)) ?_;rintro _ H _ ⟨rfl,K⟩;have W:(l.take (j+1)).filter (λx=>!p x)=(l.take j).filter (λx=>!p x)++[y].filter (λx=>!p x):=by rw[u9,z,List.filter_append];rfl
  rw[bR,b4];refine⟨λap=>?_,λah=>?_⟩
  .have X:=G.W K;rw[jk rfl au.u al.i X Ω];refine jl al.i X Ω λaP av aQ aw=>?_;rw[aT,lm Ω Ω];refine V _ _ ⟨q+1,_,rfl,Ω,(E.F (K.aa _)).F av,aw,by simpa using S,?_,λk hk=>?_⟩
   .rw[W,u9,Z6 Ω,List.take_set_of_le (o6 _),A];simp only[j4];rw[show[y].filter (λx=>!p x)=[y] by simpa using ap]
   .rw[Y8 Ω];exact Q k Ω
  .refine V _ _ ⟨q,f,rfl,Ω,E.F (K.aa _),G.W K,S,?_,λk hk=>Q k Ω⟩;rw[W,show[y].filter (λx=>!p x)=[] by simpa using ah,T5];exact A
 .have ax:j=n:=Ω
  subst ax;rw[<-M,o9]at A;obtain⟨_,_,cs,ay,_,_,aR,aA⟩:=sy G Ω;simp only[maxLen]at ab;rw[iA au.u al.i rQ k4 fy Ω Ω Ω,m5 Ω];have aB:V6 (λx:Addr=>x.add (q*1)) (σ ⟨g,0,ν⟩)=σ ⟨g,q,ν⟩:=by simp[U8]
  rw[aB];refine BY au.u al.i rfl rfl ay Ω Ω λaS aC aU aD=>?_;rw[iA au.u al.i ke pp fy Ω Ω Ω,m5 Ω];have aF:V6 (λx:Addr=>x.add (0*1)) (σ ⟨g,0,ν⟩)=σ ⟨g,0,ν⟩:=by simp[U8]
  rw[aF];refine⟨(E.F aC).Y λr _=>R r,?_⟩;have aV:(l.filter λx=>!p x).length=q:=by rw[<-A,Z3];omega
  rw[<-A,Nat.sub_zero];refine⟨?_,λr N=>by obtain⟨a,_,_,e,aG⟩:=N;cases e;exact⟨_,_,_,rfl,aG⟩⟩;refine aH.of (n:=q) ⟨Θ,.inr ⟨s,_,Ξ,aD,Ω,by simp only[maxLen];omega,by rw[nD];omega,?_⟩⟩;rw[U3];apply Y2;intro k;by_cases hk:k<q
  .rw[V1 hk,qv _ _ _ Θ,m5 Ω,ints,u4,V1 hk];have:(cs.take j)[k]?=(ints .i64 f)[k]?:=by rw[aA]
   rw[V1 Ω,ints,u4]at this;exact this
  .rw[W7 Θ,W7 Θ]
theorem FS{full c:List x4}{o q:Nat}{x:x4}(f:∀(k:Nat)y,c[k]?=σ y->full[o+k]?=σ y)(h:o+c.length<=full.length)(j:q<c.length):full.set (o+q) x=over full o (c.set q x):=by
 refine Y2 λk=>?_;rw[qv _ _ _ (by rw[Y0];exact h),X6,Y0];by_cases h1:o<=k/\k<o+c.length
 .rw[m3 h1,X6];by_cases a:o+q=k
  .rw[m3 a,m3 Ω,m3 Ω,m3 Ω]
  .rw[m5 a,m5 Ω];have e:k-o<c.length:=Ω
   have:=f (k-o) c[k-o] (v8 e);rw[v8 e,<-this];congr 1;omega
 .rw[m5 h1,m5 Ω]
section
variable{w0 w I:x5}{af ag av ga:Nat}{A R:aj}{A9:Nat->aj}{aK:aj}{n:aI}{s u u':am}{t:aB}{h:List aB}{cs:List x4}{aX a1 m4 v:x4}{Q:x4->x5->Prop}
theorem ci.ii(p:ci w af ag av A R A9 aK n s u t h cs):(∀i j r,i≠j->A9 i r->¬A9 j r)/\∀i r,A9 i r->¬aK r:=by
 obtain⟨_,_,_,_,_,_,_,_,_,_,_,_,_,a⟩:=p.doc;exact a rfl
theorem ci.RX{T:aj}(p:ci w af ag av A R A9 aK n s u t h cs)(y:∀q r,A9 q r->r<w.heap.size)(ac:cs[6]?=σ v)(e:ai T w I)(f:∀r,r<w.heap.size->T r->A9 3 r)(z:bw (λr=>A9 3 r\/w.heap.size<=r) aK I [v] (u'.ho.map jZ))(C:u'.zero=u.zero)(E:u'.d9=u.d9)(F:u'.eJ=u.eJ):∃cD,ci I af ag av A R cD aK n s u' t h cs/\∀q r,cD q r->(∃G,A9 G r)\/w.heap.size<=r:=by
 have H:=bG.lq p.doc (y2 e) (λr a=>.inl (f r a.2 a.1)) z (λj r J a=>?_) (λr a=>?_)
 .have x:=y3 (w:=w) (A9:=A9) (q:=3) (B:=λr=>A9 3 r\/w.heap.size<=r) λr h=>h;refine⟨_,p.row e f ?_ x,x⟩;have:=bG.r1 ac H;unfold iw;rw[C,E,F];exact this
 .rcases a with a|a
  .exact p.ii.1 3 j r (Ne.symm J) a
  .exact λh=>by have:=y j r h;omega
 .rcases a with a|a
  .exact p.ii.2 3 r a
  .exact λh=>by have:=(p.read r h).2.1;omega
end
theorem RY{m:Int}{w:Int}(ac:0<=v)(hw:0<=w):dropped (((m.toNat ||| 2 ^ v.toNat:Nat):Int)) w=(dropped m w||decide (w=v)):=by
 unfold dropped;rw[u7,Nat.testBit_or,Nat.testBit_two_pow];congr 1;exact decide_eq_decide.2 ⟨λh=>Ω,λh=>Ω⟩
theorem y4{x:bo}(ac:0<=v):aG {x with mask:=((x.mask.toNat ||| 2 ^ v.toNat:Nat):Int)}=(aG x).filter λy=>!decide (y=v):=by
 unfold aG;rw[List.filter_filter];refine List.filter_congr λy a=>?_;obtain⟨q,_,rfl⟩:=l9.1 a;rw[RY ac Ω];cases dropped x.mask (q:Int)<;>simp
section
variable{w0 w I:x5}{af ag av ga:Nat}{A R:aj}{A9:Nat->aj}{aK:aj}{n:aI}{s u u':am}{t:aB}{h:List aB}{cs:List x4}{aX a1 m4 v:x4}{Q:x4->x5->Prop}
theorem ci.p3{T:aj}(p:ci w af ag av A R A9 aK n s u t h cs)(z:∀q r,A9 q r->r<w.heap.size)(ac:cs[3]?=σ v)(e:ai T w I)(f:∀r,r<w.heap.size->T r->A9 0 r)(C:bw (λr=>A9 0 r\/w.heap.size<=r) aK I [v] (u'.d9.map aG))(E:u'.zero=u.zero)(F:u'.d9.map (·.un)=u.d9.map (·.un))(G:(u'.d9.map λx=>decide (x.gone≠0))=u.d9.map λx=>decide (x.gone≠0))(H:u'.ho=u.ho)(J:u'.eJ=u.eJ):
  ∃cD,ci I af ag av A R cD aK n s u' t h cs/\∀q r,cD q r->(∃K,A9 K r)\/w.heap.size<=r:=by
 have L:=bG.y0 p.doc (y2 e) (λr a=>.inl (f r a.2 a.1)) C (λj r M a=>?_) (λr a=>?_)
 .have y:=y3 (w:=w) (B:=λr=>A9 0 r\/w.heap.size<=r) λr h=>h;refine⟨_,p.row e f ?_ y,y⟩;have:=bG.r1 ac L;unfold iw;rw[E,F,G,H,J];exact this
 .rcases a with a|a
  .exact p.ii.1 0 j r (Ne.symm M) a
  .exact λh=>by have:=z j r h;omega
 .rcases a with a|a
  .exact p.ii.2 0 r a
  .exact λh=>by have:=(p.read r h).2.1;omega
end
section
variable{w0 w I:x5}{af ag av ga:Nat}{A R:aj}{A9:Nat->aj}{aK:aj}{n:aI}{s u u':am}{t:aB}{h:List aB}{cs:List x4}{aX a1 m4 v:x4}{Q:x4->x5->Prop}
theorem RZ{F:aj}{c:List x4}{f:bP}(h:bw (α:=jY) F R w c (jZ f))(C:∀r,F r->¬R r):∃a1 hv bg e,c=[a1,hv,bg,.bool (decide (f.live≠0))]/\bw e R w [bg] f.cs/\(∀r,e r->F r)/\
  ∀{I:x5}{bJ:Λ},ai e w I->bw e R I [bg] bJ->bw (α:=jY) F R I c (jZ {f with cs:=bJ}):=by
 obtain⟨ab,ac,A,B,rfl,E,O,P,h1,q⟩:=h;obtain⟨Q,ad,aR,S,rfl,T,G,H,J,U⟩:=h1;obtain⟨V,W,X,s,rfl,Y,x,K,L,M⟩:=U;have q:=q;subst q;obtain⟨y,rfl⟩:=X9.1 (show Q.length=1 from aw.len J);obtain⟨j,rfl⟩:=X9.1 (show V.length=1 from aw.len L);obtain⟨v3,rfl⟩:=X9.1 (show W.length=1 from aw.len M);have z:∀r,s r->F r:=λr h=>E r (G r (x r h));refine⟨y,j,v3,s,rfl,M,z,λ{I bJ}N aC=>?_⟩;refine⟨[y,j,v3],[.bool (decide (f.live≠0))],A,B,rfl,E,O,P,⟨[y],[j,v3],aR,S,rfl,T,G,H,aw.aa J N λr Z a he=>?_,[j],[v3],X,s,rfl,Y,x,K,aw.aa L N λr Z a he=>?_,aC⟩,rfl⟩
 .exact a.elim (λa=>H rfl r a (x r he)) (C r (z r he))
 .exact a.elim (λa=>K rfl r a he) (C r (z r he))
end
theorem R1{cs:Λ}{a1 hv bg bx:x4}(h1:aQ .i64 w a1 sc)(C:aQ .i64 w hv (b6 d6 sc))(E:aQ .i64 w bg cs)(h:gi d6 k (sc,cs))(r:∀z∈d6,1<=z/\z<=32)(K:aQ .i64 w bx a)(ac:∀v∈sc,∃x,a[v.toNat]?=σ x/\0<=x/\x<d6.getD v.toNat 0):
  aq x8 Iz [.agg #[a1,hv,bg],bx] w λv I=>v=Δ (bz (b6 d6 sc) cs (ko a sc))/\Ext w I:=by
 have s:dU (b6 d6 sc):=pK r λv ac=>⟨(h.scope.1 v ac).1,h.d9 v ac⟩;have Z:sc.length<=6:=h.scope.2;refine aE func32 ?_;refine br λL U aa j f=>?_;have f:ak U L bd [a1,hv,bg]:=by
  obtain⟨_,_,_,M⟩:=dr h1;obtain⟨_,_,_,N⟩:=dr C;obtain⟨_,_,_,O⟩:=dr E;rw[M,N,O]at f ⊢;exact f
 rw[aP bd.p 0 f rfl,ba au.u (h1.W j)];have ad:(ko a sc).length=sc.length:=by unfold ko;rw[r9]
 have ae:(b6 d6 sc).length=sc.length:=by unfold b6;rw[r9]
 refine cp.range sc.length (λi P ab=>Ext U ab/\∃m:Int,P=Δ m/\cr ((b6 d6 sc).take i) ((ko a sc).take i) 0=σ m) h1.le ⟨Ext.refl _,0,rfl,rfl⟩ ?_ ?_
 .rintro i _ ab Q hi ⟨e,m,rfl,hm⟩ R;obtain⟨v,q⟩:=aJ (l:=sc) hi;obtain⟨x,G,S,V⟩:=ac v (x7 q);have af:=h.scope.1 v (x7 q);have A:(b6 d6 sc)[i]?=σ (d6.getD v.toNat 0):=by unfold b6;rw[u4,q];rfl
  have W:(ko a sc)[i]?=σ x:=by unfold ko;rw[u4,q,Y6,r8,G];rfl
  have ag:=s _ (x7 A);have H:∀z∈(b6 d6 sc).take i,1<=z/\z<=32:=λz r=>s z (List.mem_of_mem_take r);have X:=mv H hm;have ah:=prod_bound (l:=(b6 d6 sc).take i) ⟨by rw[Z3];omega,H⟩;refine bK Ω ?_;rw[bp au.u al.i Ψ (h1.W (j.F e)) q];intro ai B _ _;have J:=(j.F e).F B;have aj:0<=m*d6.getD v.toNat 0/\m*d6.getD v.toNat 0<=1073741824*32:=⟨Int.mul_nonneg Ω Ω,Int.mul_le_mul Ω Ω Ω Ω⟩;rw[aP bd.p 1 (f.W (e.F B)) rfl,bp au.u al.i Ψ (C.W J) A,fL,lm Ω Ω,fz (y:=v) (i:=v.toNat) Ω au.u al.i Ψ (K.W J) G,aT,lm Ω Ω,aT];refine R _ _ ⟨e.F B,_,rfl,?_⟩;rw[u9,u9,A,W,j4,j4,Fp (by rw[Z3,Z3];omega),hm];simp only[Option.bind_some];rw[m3 ⟨S,V⟩]
 .rintro _ ab Q ⟨e,m,rfl,hm⟩;rw[j5 Ω,j5 Ω]at hm;have X:=mv s hm;have am:cs.length=(aV (b6 d6 sc)).toNat:=h.len;refine ck Ω ?_;have Y:cs[m.toNat]?=σ (cs.getD m.toNat 0):=by rw[r8,v8 Ω];rfl
  rw[aP bd.p 2 (f.W e) rfl,fz (y:=m) (i:=m.toNat) Ω aA.u ay.i Ψ (E.W (j.F e)) Y];refine⟨?_,j.F e⟩;unfold bz;rw[hm]
theorem R3{bx:x4}{s:am}(h:j0 w sv k d6 s)(E:bc k d6 s)(bh:bY s)(W:iE s a)(ax:aQ .i64 w bx a):aq x8 Ip [sv,bx] w λv I=>v=Δ (ej k s a)/\Ext w I:=by
 have b5:=E.d9;have hk:=E.eI;refine aE func9 ?_;refine br λg1 U b6 O H=>?_;obtain⟨hv,b7,b8,b9,ca,cb,H,cc,_,bi,bj,bk,X,_⟩:=h.box O H;have Y:=ax.W O;have ce:=W.1;rw[aP aM.p 2 H rfl,ba au.u Y];obtain⟨A,P⟩:∃A,A=s.d9.zip a:=⟨_,rfl⟩;have cf:A.length=a.length:=by rw[P,List.length_zip];omega
 refine lH.range a.length (λi _ G ab=>Ext U ab/\∃e:Int,G=Δ e/\e=(A.take i).foldl (mQ k) s.zero/\(0<=e/\e<=k)/\(A.take i).all gj=s2) ax.le
  ⟨Ext.refl _,s.zero,rfl,rfl,E.zero,rfl⟩ ?_ ?_
 .rintro i t4 _ ab bl hi ⟨B,e,rfl,Q,Z,R⟩ bm;obtain⟨x,C⟩:=aJ (l:=s.d9) (i:=i) Ω;obtain⟨v,ac⟩:=aJ (l:=a) hi;obtain⟨z,J⟩:=aJ (l:=d6) (i:=i) Ω;obtain⟨cg,bn,_⟩:=E.var i x z C J;have aB:A[i]?=σ (x,v):=by rw[P,List.getElem?_zip_eq_some];exact⟨C,ac⟩
  have aC:A.take (i+1)=A.take i++[(x,v)]:=by rw[u9,aB];rfl
  have K:(A.take (i+1)).foldl (mQ k) s.zero=mQ k e (x,v):=by rw[aC,List.foldl_append,<-Q];rfl
  have aD:(A.take (i+1)).all gj=gj (x,v):=by rw[aC,List.all_append,R];simp
  have bo:(s.d9.map λx=>decide (x.gone≠0))[i]?=σ (decide (x.gone≠0)):=by rw[u4,C];rfl
  refine bK Ω ?_;refine jF (λ_ G aH=>Ext U aH/\∃e:Int,G=Δ e/\e=(A.take (i+1)).foldl (mQ k) s.zero/\(0<=e/\e<=k)/\(A.take (i+1)).all gj=s2) ?_ ?_
  .rintro t4 G aH aa;rw[aT];exact bm _ _ _ aa
  intro az L;have ad:=H.W B;rw[bp au.u al.i Ψ (Y.W B) ac,aP aM.p 4 ad rfl];refine kf (α:=Bool) rfl rfl jH.u eg.i Ψ (bD bj B) bo λbq bs=>?_;obtain rfl:bq= .bool (decide (x.gone≠0)):=(List.cons.inj bs).1;rw[ao];refine⟨λaI=>L _ _ _ ⟨B,e,rfl,?_,Z,?_⟩,λae=>?_⟩
  .rw[K];unfold mQ;rw[m3 aI]
  .rw[aD];unfold gj;rw[ms aI,Bool.true_or]
  have bt:0<=v/\v<x.un.length:=(W.2 i x v C ac).resolve_left ae;rw[aP aM.p 3 ad rfl];refine kf (α:=Λ) (a:=aG x) rfl rfl cq.u au.i Ψ (bD bi B) (by rw[u4,C];rfl) λch bu=>?_;refine(vj (v:=v) (ew bu)).Y ?_;rintro _ ci _ ⟨rfl,aK⟩;have aL:=B.F aK;have aN:=Fq bt;rw[bR,b4];refine⟨λaf=>?_,λaf=>?_⟩
  .have bw:v∉aG x:=by simpa using af
   rw[aP aM.p 0 (ad.W aK) rfl];refine⟨?_,O.F aL⟩;unfold ej;rw[<-P,m5];intro bA;have:=List.all_eq_true.1 bA (x,v) (x7 aB);unfold gj at this;rw[rc ae,Bool.false_or]at this;exact bw (aN.2 (by simpa using this))
  have bB:dropped x.mask v=sp:=aN.1 (by simpa using af);intro cj bC _ _;have ag:=aL.F bC;have aO:=H.W ag;have aR:x.un[v.toNat]?=σ (x.un.getD v.toNat 0):=by rw[r8,v8 (show v.toNat<x.un.length by omega)];rfl
  have cl:=bn _ (x7 aR);rw[aP aM.p 5 aO rfl];refine kf (α:=Λ) (a:=x.un) rfl rfl c4.u aA.i Ψ (bD bk ag) (by rw[u4,C];rfl) λcm bE=>?_;rw[fz (y:=v) (i:=v.toNat) Ω aA.u ay.i Ψ (ew bE) aR,aP aM.p 0 aO rfl];refine(ox Ω Ω).Y ?_;rintro _ cn _ ⟨rfl,bG⟩;refine L _ _ _ ⟨ag.F bG,_,rfl,?_,⟨Ω,Ω⟩,?_⟩
  .rw[K];unfold mQ;rw[m5 ae]
  .rw[aD];unfold gj;rw[bB];simp
 rintro t4 _ ab bl ⟨B,e,rfl,Q,Z,R⟩;rw[j5 Ω]at Q R;have bH:ej k s a=s.ho.foldl (lY k a) e:=by
  unfold ej;rw[<-P,R,m3 rfl,<-Q]
 refine ck Ω ?_;rw[aP aM.p 6 (H.W B) rfl,ij dA.u (bD X B),r9];have aS:=pt X;rw[r9]at aS;refine cp.range s.ho.length (λj G M=>Ext U M/\∃r:Int,G=Δ r/\r=(s.ho.take j).foldl (lY k a) e/\0<=r/\r<=k) aS
  ⟨B,e,rfl,rfl,Z⟩ ?_ ?_
 rotate_left
 .rintro _ M bJ ⟨N,r,rfl,S,_⟩;rw[j5 Ω]at S;rw[aW,ao];exact⟨λh=>Ω,λ_=>⟨by rw[bH,S],O.F N⟩⟩
 rintro j _ M bJ ct ⟨N,r,rfl,S,bL⟩ bM;obtain⟨f,ah⟩:=aJ (l:=s.ho) (i:=j) Ω;obtain⟨V,aU,cu⟩:=E.ho f (x7 ah);have K:(s.ho.take (j+1)).foldl (lY k a) e=lY k a r f:=by
  rw[u9,ah,j4,List.foldl_append,<-S];rfl
 refine bK Ω ?_;refine a6 (λG aV=>Ext U aV/\∃r:Int,G=Δ r/\r=(s.ho.take (j+1)).foldl (lY k a) e/\0<=r/\r<=k) ?_ ?_
 .rintro G aV aa;rw[aT];exact bM _ _ aa
 intro az L;refine nH c5.p rfl dA.u c5.i (bD X N) (by rw[u4,ah];rfl) λcw aX=>?_;have bN:=aw.one aX;obtain⟨a1,ai,bg,rfl,bO,bP,bQ⟩:=oO aX;refine bF c5.i λaY cz cA bS bT=>?_;refine cd (vs:=[a1,ai,bg,.bool (decide (f.live≠0))]) c5.i rfl rfl bN bT λbU bV cB a2=>?_;have a7:Ext M bU:=bS.put bV Ω;rw[aZ c5.p rfl,aF (v:=.bool (decide (f.live≠0))) Ψ (a2.cell (o:=0+3) rfl),ao];refine⟨λa8=>?_,λbW=>L _ _ ⟨N.F a7,r,rfl,by rw[K];unfold lY;rw[m5 bW],bL⟩⟩;intro aj bb _ _;have be:=a7.F bb;have ak:=N.F be;have bX:=H.W ak;have ap:=a2.W bb;have bZ:aj.rangeAt aY 0 [a1,ai,bg]:=λq v ac=>by
  match q,ac with
  |0,ac=>cases ac;exact ap.cell rfl
  |1,ac=>cases ac;exact ap.cell rfl
  |2,ac=>cases ac;exact ap.cell rfl
 rw[aZ c5.p rfl,bI bd.p bd.i rfl (show aj.rangeAt aY (0+0) [a1,ai,bg]from bZ),aP aM.p 0 bX rfl];have av:∀{v:x4}{l:Λ},Seen fB M [v] l->aQ .i64 aj v l:=λh=>(ew h).W be;refine(R1 (a:=a) (av bO) (aU▸av bP) (av bQ) V E.eQ.2.2 (Y.W ak) λv ac=>?_).Y ?_
 .have cC:=V.scope.1 v ac;have cD:=V.d9 v ac;obtain⟨x,C⟩:=aJ (l:=s.d9) (i:=v.toNat) Ω;obtain⟨u,hu⟩:=aJ (l:=a) (i:=v.toNat) Ω;obtain⟨z,J⟩:=aJ (l:=d6) (i:=v.toNat) Ω;have cE:=(E.var _ x z C J).1;have cF:=E.eQ.2.2 z (x7 J);have b0:=bh f (x7 ah) a8 v ac x C;have b1:=(W.2 _ x u C hu).resolve_left λh=>h b0;refine⟨u,hu,b1.1,?_⟩;rw[r8,J,Option.getD_some];omega
 rintro _ cG _ ⟨rfl,bf⟩;refine⟨.inl bf,?_⟩;rw[<-aU];have cH:0<=bz f.an f.cs (ko a f.sc)/\bz f.an f.cs (ko a f.sc)<=k:=by
  unfold bz;cases hi:cr f.an (ko a f.sc) 0 with
  |none=>simp only;omega
  |some m=>
   simp only;obtain⟨b2,cI,_⟩:=vg E (x7 ah);have cJ:=mv b2.2 hi;rw[r8,v8 Ω,Option.getD_some];exact V.iY _ (S3 _)
 refine(ox Ω Ω).Y ?_;rintro _ cK _ ⟨rfl,b3⟩;refine L _ _ ⟨(ak.F bf).F b3,_,rfl,?_,Ω,Ω⟩;rw[K];unfold lY;rw[m3 a8]
theorem bY.d9{s:am}{i:Nat}{x y:bo}(h:bY s)(J:s.d9[i]?=σ x)(q:y.gone=x.gone):bY {s with d9:=s.d9.set i y}:=λf ah j v ac z a=>by
 have a:(s.d9.set i y)[v.toNat]?=σ z:=a;rw[X6]at a;split at a
 .rename_i e;split at a
  .cases a;subst e;rw[q];exact h f ah j v ac x J
  .cases a
 .exact h f ah j v ac z a
theorem bY.ho{s:am}{f g:bP}(h:bY s)(ah:s.ho[j]?=σ f)(V:g.sc=f.sc)(q:g.live≠0->f.live≠0):bY {s with ho:=s.ho.set j g}:=λx J a v ac z e=>by
 rcases U5 J with J|rfl
 .exact h x J a v ac z e
 .exact h f (x7 ah) (q a) v (by grind) z e
structure fH where
 kind:Nat
 i:Int
 pos:Int
 v:Int
 c:Int
def dD(s:am)(i v:Int):Option bo:=if 0<=i then match s.d9[i.toNat]? with
 |some x=>if x.gone=0/\v∈aG x then σ x else ν
 |none=>ν else ν
def ds(s:am)(j pos v:Int):Option (bP×Int×bo):=if 0<=j/\0<=pos then match s.ho[j.toNat]? with
 |some f=>if f.live≠0 then match f.sc[pos.toNat]? with
  |some u=>(dD s u v).map λx=>(f,u,x)
  |none=>ν
  else ν
 |none=>ν else ν
def eL(k:Int)(s:am)(f:bP)(pos:Nat)(v:Int):Int:=((cm s f.sc pos v).map (bz f.an f.cs)).foldl min k
def dE(k c most:Int):Int:=if¬(0<=c/\c<=k)then 3 else if most<c then 7 else 0
def jc(x:bo):Int:=match(aG x).map λv=>x.un.getD v.toNat 0 with
 |[]=>-1
 |c::l=>l.foldl min c
def gY(s:am)(i:Nat)(v:Int):Λ->am
 |[]=>s
 |w::L=>gY (if w≠v then dX s i w.toNat else s) i v L
def bh(k:Int)(s:am)(a:fH):am×Int:=
 if a.kind=0 then match ds s a.i a.pos a.v with
  |none=>(s,1)
  |some (f,u,x)=>if dE k a.c (eL k s f a.pos.toNat a.v)≠0 then(s,dE k a.c (eL k s f a.pos.toNat a.v))else(fv s a.i.toNat f a.pos.toNat u.toNat x a.v (λg=>cJ k g a.c) λg=>b2 k g a.c,0)
 else if a.kind=1 then match ds s a.i a.pos a.v with
  |none=>(s,1)
  |some (f,u,x)=>if dE k a.c (x.un.getD a.v.toNat 0)≠0 then(s,dE k a.c (x.un.getD a.v.toNat 0))else(fv s a.i.toNat f a.pos.toNat u.toNat x a.v (λg=>b2 k g a.c) λg=>cJ k g a.c,0)
 else if a.kind=2 then match(if 0<=a.i then s.d9[a.i.toNat]? else ν)with
  |none=>(s,1)
  |some x=>if x.gone≠0 then(s,1)else if dE k a.c (jc x)≠0 then(s,dE k a.c (jc x))else(iM s a.i.toNat x (λg=>cJ k g a.c) λg=>b2 k g a.c,0)
 else if a.kind=3 then match(if 0<=a.i then s.d9[a.i.toNat]? else ν)with
  |none=>(s,1)
  |some x=>if x.gone≠0 then(s,1)else if dE k a.c (if aG x=[]then-1 else s.zero)≠0 then(s,dE k a.c (if aG x=[]then-1 else s.zero))else(iM s a.i.toNat x (λg=>b2 k g a.c) λg=>cJ k g a.c,0)
 else if a.kind=4 then match dD s a.i a.v with
  |none=>(s,1)
  |some x=>if b2 k s.zero (x.un.getD a.v.toNat 0)<k then(s,7)else(dX s a.i.toNat a.v.toNat,0)
 else match dD s a.i a.v with
  |none=>(s,1)
  |some x=>(gY s a.i.toNat a.v (aG x),0)
theorem oP:∀(l:Λ)(z c:Int),c<=l.foldl min z↔c<=z/\∀x∈l,c<=x
 :=by
 intro a;induction a<;>grind
theorem m7{most:Int}(h:¬dE k c most≠0):(0<=c/\c<=k)/\c<=most:=by
 grind [dE]
theorem j1{s:am}{i:Int}{x:bo}(h:dD s i v=σ x):0<=i/\s.d9[i.toNat]?=σ x/\x.gone=0/\v∈aG x:=by
 grind [dD]
theorem m8{s:am}{j u:Int}{f:bP}{x:bo}(h:ds s j pos v=σ (f,u,x)):0<=j/\0<=pos/\s.ho[j.toNat]?=σ f/\f.live≠0/\f.sc[pos.toNat]?=σ u/\dD s u v=σ x:=by
 unfold ds at h;split at h
 .rename_i a;split at h
  .rename_i g e;split at h
   .rename_i q;split at h
    .rename_i w hw;cases ac:dD s w v<;>grind
    .cases h
   .cases h
  .cases h
 .cases h
section
variable{k:Int}{d6 a:Λ}{s:am}
theorem oQ{g:Int}(a:0<=g/\g<=k)(e:0<=c/\c<=g):0<=cJ k g c/\cJ k g c<=k:=by
 grind [cJ]
theorem oR{g:Int}(a:0<=g/\g<=k)(e:0<=c):0<=b2 k g c/\b2 k g c<=k:=by
 grind [b2]
theorem jd{u:Nat}{v:Nat}{x:bo}(a:bc k d6 s)(J:s.d9[u]?=σ x):0<=x.un.getD v 0/\x.un.getD v 0<=k:=by
 have hk:=a.eI;have e:=(x6.1 J).1;have f:=a.d9;exact FC Ω (a.var u x _ J (v8 Ω)).2.1
theorem nV{f:bP}(a:bc k d6 s)(ah:f∈s.ho):0<=bz f.an f.cs t/\bz f.an f.cs t<=k:=(uT a.eI λc e=>⟨a.eI,(a.ho f ah).1.iY c e⟩).2
theorem y5{x:bo}(h:v∈aG x)(a:c<=jc x):c<=x.un.getD v.toNat 0:=by
 unfold jc at a;have hm:x.un.getD v.toNat 0∈(aG x).map λv=>x.un.getD v.toNat 0:=by grind
 grind [oP]
theorem sY{i:Nat}{v:Int}{x:bo}:∀(L:Λ)(s:am),bc k d6 s->s.d9[i]?=σ x->(∀w∈L,0<=w/\w<x.un.length)->bc k d6 (gY s i v L)/\(bY s->bY (gY s i v L))/\
  ∀bx,iE s a->x.gone=0->a[i]?=σ bx->ej k (gY s i v L) a=if bx∈L/\bx≠v then k else ej k s a
 |[],s,h,J,_=>⟨h,id,λbx _ _ _=>by rw[m5 Ξ];rfl⟩
 |w::L,s,h,J,A=>by
  unfold gY;by_cases hw:w≠v
  .rw[m3 hw];have B:=A w (.head _);have C:=yY h J B;have E:=(x6.1 J).1;have F:(dX s i w.toNat).d9[i]?=σ {x with mask:=((x.mask.toNat ||| 2 ^ w.toNat:Nat):Int)}:=by grind [kS]
   obtain⟨h1,r,G⟩:=sY L (dX s i w.toNat) C F (by grind);refine⟨h1,λK=>r ?_,λbx j H I=>?_⟩
   .grind [kS,bY.d9]
   .have M:iE (dX s i w.toNat) a:=by
     rw[kS J];refine⟨by show a.length=(s.d9.set _ _).length;rw[Y0];exact j.1,λq y b f z=>?_⟩;have f:(s.d9.set i {x with mask:=((x.mask.toNat ||| 2 ^ w.toNat:Nat):Int)})[q]?=σ y:=f;by_cases e:i=q
     .subst e;rw[Z6 E]at f;cases f;exact j.2 i x b J z
     .rw[Y8 e]at f;exact j.2 q y b f z
    grind [FL]
  .rw[m5 hw];obtain⟨h1,r,G⟩:=sY L s h J (by grind);refine⟨h1,r,λbx j H I=>?_⟩
   grind
theorem bY.zero(h:bY s):bY {s with zero:=c}:=h
theorem FU{pos u:Nat}{f:bP}{x:bo}{tup un:Int->Int}(h:bY s)(ah:s.ho[j]?=σ f)(J:s.d9[u]?=σ x):bY (fv s j f pos u x v tup un):=
 bY.d9 (bY.ho h ah rfl id) J rfl
theorem FV{u:Nat}{x:bo}{g z:Int->Int}(h:bY s)(J:s.d9[u]?=σ x):bY (iM s u x g z):=bY.zero (bY.d9 h J rfl)
def nW(k:Int)(s:am)(m:fH)(s':am)(e:Int)(a:Λ):Prop:=ej k s' a=if 5<=m.kind/\e=0/\a[m.i.toNat]? ≠σ m.v then k else ej k s a
theorem vu{m:fH}(h:bc k d6 s)(B:bY s):bc k d6 (bh k s m).1/\bY (bh k s m).1/\∀a,iE s a->nW k s m (bh k s m).1 (bh k s m).2 a:=by
 have hk:=h.eI;have Z:∀e:Int,e≠0->bc k d6 s/\bY s/\∀a,iE s a->nW k s m s e a:=by grind [nW]
 have low:∀{s':am}{e:Int},m.kind<5->bc k d6 s'->bY s'->(∀a,iE s a->ej k s' a=ej k s a)->bc k d6 s'/\bY s'/\∀a,iE s a->nW k s m s' e a:=by grind [nW]
 unfold bh;split
 .rename_i K;cases ae:ds s m.i m.pos m.v with
  |none=>grind
  |some q=>
   obtain⟨f,u,x⟩:=q;simp only;split
   .grind
   .rename_i he;obtain⟨y,hm⟩:=m7 he;simp only;obtain⟨_,_,ah,E,hu,ac⟩:=m8 ae;obtain⟨T,J,z,L⟩:=j1 ac;have C:=x7 ah;have aa:∀t∈cm s f.sc m.pos.toNat m.v,m.c<=bz f.an f.cs t:=λt A=>((oP _ _ _).1 hm).2 _ (by grind);have M:f.sc[m.pos.toNat]?=σ ((u.toNat:Nat):Int):=by grind
    have A:∀t∈cm s f.sc m.pos.toNat m.v,0<=cJ k (bz f.an f.cs t) m.c/\cJ k (bz f.an f.cs t) m.c<=k:=λt A=>oQ (nV h C) (by grind);have N:=oR (k:=k) (jd (v:=m.v.toNat) h J) y.1;refine low Ω (by grind [FH]) (FU B ah J) λa j=>FI h j ah E M J L (B f C E) A N λt A r F=>?_;have:=nV (t:=t) h C
    grind [vm,jd]
 split
 .rename_i _ K;cases ae:ds s m.i m.pos m.v with
  |none=>grind
  |some q=>
   obtain⟨f,u,x⟩:=q;simp only;split
   .grind
   .rename_i he;obtain⟨y,hm⟩:=m7 he;simp only;obtain⟨_,_,ah,E,hu,ac⟩:=m8 ae;obtain⟨T,J,z,L⟩:=j1 ac;have C:=x7 ah;have M:f.sc[m.pos.toNat]?=σ ((u.toNat:Nat):Int):=by grind
    have A:∀t∈cm s f.sc m.pos.toNat m.v,0<=b2 k (bz f.an f.cs t) m.c/\b2 k (bz f.an f.cs t) m.c<=k:=λt A=>oR (nV h C) y.1;have N:=oQ (k:=k) (jd (v:=m.v.toNat) h J) ⟨y.1,hm⟩;refine low Ω (by grind [FH]) (FU B ah J) λa j=>FI h j ah E M J L (B f C E) A N λt A r F=>?_;have h1:=nV (t:=t) h C;have P:=jd (v:=m.v.toNat) h J
    grind [vm]
 split
 .rename_i _ _ K;cases ae:(if 0<=m.i then s.d9[m.i.toNat]? else ν)with
  |none=>grind
  |some x=>
   have J:s.d9[m.i.toNat]?=σ x:=by grind
   simp only;split
   .grind
   split
   .grind
   .rename_i z he;obtain⟨y,hm⟩:=m7 he;simp only;have U:∀v∈aG x,m.c<=x.un.getD v.toNat 0:=λv ac=>y5 ac hm;have G:∀v∈aG x,0<=cJ k (x.un.getD v.toNat 0) m.c/\cJ k (x.un.getD v.toNat 0) m.c<=k:=λv ac=>oQ (jd h J) (by grind);have H:=oR h.zero y.1;refine low Ω (yW h J G H) (FV B J) λa j=>FK h j J (X1.1 z) G H λv ac r F=>?_;exact vm F ⟨U v ac,(jd h J).2⟩ h.zero y.1
 split
 .rename_i _ _ _ K;cases ae:(if 0<=m.i then s.d9[m.i.toNat]? else ν)with
  |none=>grind
  |some x=>
   have J:s.d9[m.i.toNat]?=σ x:=by grind
   simp only;obtain⟨Q,V⟩:∃Q,Q=(if aG x=[]then-1 else s.zero):=⟨_,rfl⟩;rw[<-V];split
   .grind
   split
   .grind
   .rename_i z he;obtain⟨y,hm⟩:=m7 he;simp only;have R:m.c<=s.zero:=by
     omega
    have G:∀v∈aG x,0<=b2 k (x.un.getD v.toNat 0) m.c/\b2 k (x.un.getD v.toNat 0) m.c<=k:=λv ac=>oR (jd h J) y.1;have H:=oQ h.zero ⟨y.1,R⟩;refine low Ω (yW h J G H) (FV B J) λa j=>FK h j J (X1.1 z) G H λv ac r F=>?_;have:=vm F ⟨R,h.zero.2⟩ (jd (v:=v.toNat) h J) y.1;omega
 split
 .rename_i _ _ _ _ K;cases ae:dD s m.i m.v with
  |none=>grind
  |some x=>
   obtain⟨_,J,z,ac⟩:=j1 ae;simp only;split
   .grind
   .rename_i he;have S:=(fu.1 ac).1;simp only;refine low Ω (yY h J S) (by grind [kS,bY.d9]) λa j=>?_;have W:=(x6.1 J).1;have X:=j.1;obtain⟨bx,I⟩:=aJ (l:=a) (i:=m.i.toNat) Ω;rw[FL h j J z S I];split
    .rename_i e;subst e;rw[oL h];split
     .have Y:(s.d9.zip a)[m.i.toNat]?=σ (x,m.v):=List.getElem?_zip_eq_some.2 ⟨J,I⟩;have h1:=sS (sT h) (x:=dZ (x,m.v)) (by rw[u4,Y];rfl);have P:=pZ _ (q9 (a:=a) h)
      grind [dZ,b2]
     .rfl
    .rfl
 .rename_i h1 P ab ad af;cases ae:dD s m.i m.v with
  |none=>grind
  |some x=>
   obtain⟨_,J,z,ac⟩:=j1 ae;simp only;have O:∀w∈aG x,0<=w/\w<x.un.length:=by grind [fu]
   refine⟨(sY (a:=[]) (aG x) s h J O).1,(sY (a:=[]) (aG x) s h J O).2.1 B,λa j=>?_⟩;have W:=(x6.1 J).1;have X:=j.1;obtain⟨bx,I⟩:=aJ (l:=a) (i:=m.i.toNat) Ω;unfold nW;rw[(sY (aG x) s h J O).2.2 bx j z I,I]
   grind [FM]
end
theorem R4{f:Int->Int}{L:List (Λ)}{an cs:Λ}(V:dU an)(j:cs.length<=(bt an).length)(h:∀t∈L,f (bz an cs t)=bz an cs t):ek f L an cs=cs:=by
 apply Y2;intro i;cases a:cs[i]? with
 |none=>
  grind [q7]
 |some c=>
  obtain⟨t,e⟩:=aJ (l:=bt an) (i:=i) (by grind);rw[q8 e a]
  grind [bz,kJ]
section
variable{k:Int}{d6:Λ}{s:am}
theorem FW{i:Int}{u:Nat}{x y:bo}{s':am}(J:s.d9[u]?=σ x)(ac:s'.d9=s.d9.set u y)(a:aG y=aG x):aY s' i=aY s i:=by
 grind [aY]
theorem FX{x:bo}{un:Λ}(h:un.length=x.un.length):aG {x with un:=un}=aG x:=by
 grind [aG]
theorem y6{pos u:Nat}{f:bP}{x:bo}{tup un:Int->Int}(J:s.d9[u]?=σ x):∀i,aY (fv s j f pos u x v tup un) i=aY s i:=λi=>
 FW J rfl (by grind [FX])
theorem y7{a:fH}{f:bP}{u:Int}{x:bo}(ae:ds s a.i a.pos a.v=σ (f,u,x)):
  (a.kind=0->(bh k s a).2=0->bh k s a=(fv s a.i.toNat f a.pos.toNat u.toNat x a.v (λg=>cJ k g a.c) λg=>b2 k g a.c,0)/\(0<=a.c/\a.c<=k)/\a.c<=eL k s f a.pos.toNat a.v)/\
  (a.kind=0->(0<=a.c/\a.c<=k)->a.c<=eL k s f a.pos.toNat a.v->bh k s a=(fv s a.i.toNat f a.pos.toNat u.toNat x a.v (λg=>cJ k g a.c) λg=>b2 k g a.c,0))/\
  (a.kind=1->(bh k s a).2=0->bh k s a=(fv s a.i.toNat f a.pos.toNat u.toNat x a.v (λg=>b2 k g a.c) λg=>cJ k g a.c,0)/\(0<=a.c/\a.c<=k)/\a.c<=x.un.getD a.v.toNat 0)/\
  (a.kind=1->(0<=a.c/\a.c<=k)->a.c<=x.un.getD a.v.toNat 0->bh k s a=(fv s a.i.toNat f a.pos.toNat u.toNat x a.v (λg=>b2 k g a.c) λg=>cJ k g a.c,0)):=by
 have j:∀{m:Int},(0<=a.c/\a.c<=k)->a.c<=m->dE k a.c m=0:=by grind [dE]
 refine⟨λe he=>?_,λe h1 h=>?_,λe he=>?_,λe h1 h=>?_⟩
 all_goals have:=@m7;grind [bh]
end
section
variable{k:Int}{d6:Λ}{s:am}
theorem rf{f:bP}{pos:Nat}(a:bc k d6 s)(ah:f∈s.ho)(ac:∀u,f.sc[pos]?=σ u->v∈aY s u)(h:t∈cm s f.sc pos v):∃m:Nat,cr f.an t 0=σ (m:Int):=by
 obtain⟨e,j,_⟩:=a.ho f ah;obtain⟨q,_⟩:=kR a ah;rw[yS a (λu hu=>⟨(e.scope.1 u hu).1,e.d9 u hu⟩) ac,<-j]at h
 grind [Y5,kJ]
theorem room_le{f:bP}{pos:Nat}:c<=eL k s f pos v↔c<=k/\∀t∈cm s f.sc pos v,c<=bz f.an f.cs t:=by
 grind [eL,oP]
end
theorem R5{x:bo}(f:aG x≠[])(h:∀v∈aG x,c<=x.un.getD v.toNat 0):c<=jc x:=by
 unfold jc;have a:∀y∈(aG x).map λv=>x.un.getD v.toNat 0,c<=y:=by grind
 have e:(aG x).map (λv=>x.un.getD v.toNat 0)≠[]:=by grind [List.map_eq_nil_iff]
 generalize (aG x).map (λv=>x.un.getD v.toNat 0)=l at a e;cases l with
 |nil=>grind
 |cons b l=>exact(oP l b c).2 ⟨a b (.head _),by grind⟩
section
variable{k:Int}{d6:Λ}{s:am}
theorem FY{x:bo}{g:Int->Int}{L:Λ}:aG {x with un:=eC g x.un L}=aG x:=FX (vp _ _)
theorem R6{a:fH}{x:bo}(f:0<=a.i)(J:s.d9[a.i.toNat]?=σ x)(h:x.gone=0):
  (a.kind=2->(bh k s a).2=0->bh k s a=(iM s a.i.toNat x (λg=>cJ k g a.c) λg=>b2 k g a.c,0)/\(0<=a.c/\a.c<=k)/\a.c<=jc x)/\
  (a.kind=2->(0<=a.c/\a.c<=k)->a.c<=jc x->bh k s a=(iM s a.i.toNat x (λg=>cJ k g a.c) λg=>b2 k g a.c,0))/\
  (a.kind=3->(bh k s a).2=0->bh k s a=(iM s a.i.toNat x (λg=>b2 k g a.c) λg=>cJ k g a.c,0)/\(0<=a.c/\a.c<=k)/\a.c<=(if aG x=[]then-1 else s.zero))/\
  (a.kind=3->(0<=a.c/\a.c<=k)->a.c<=(if aG x=[]then-1 else s.zero)->bh k s a=(iM s a.i.toNat x (λg=>b2 k g a.c) λg=>cJ k g a.c,0)):=by
 have j:∀{m:Int},(0<=a.c/\a.c<=k)->a.c<=m->dE k a.c m=0:=by grind [dE]
 generalize q:(if aG x=[]then-1 else s.zero)=r;have ae:(if 0<=a.i then s.d9[a.i.toNat]? else ν)=σ x:=by grind
 refine⟨λhk he=>?_,λhk h1 e=>?_,λhk he=>?_,λhk h1 e=>?_⟩
 all_goals have:=@m7;grind [bh]
end
section
variable{k:Int}{d6:Λ}{s:am}
theorem R7{m:fH}(h:(bh k s m).2≠0):(bh k s m).1=s:=by
 grind [bh]
end
theorem vv{of:Int->Int}(hk:0<=k)(h:∀v∈l,0<=of v/\of v<=k):0<=(dC k l of).1/\(dC k l of).1<=k:=by
 unfold dC;have:∀(l:Λ)(p:Int×Int),(0<=p.1/\p.1<=k)->(∀v∈l,0<=of v/\of v<=k)->0<=(l.foldl (ft of) p).1/\(l.foldl (ft of) p).1<=k:=λl=>by
  induction l with
  |nil=>exact λp ae _=>ae
  |cons v l e=>
   intro p ae a;refine e _ ?_ λu hu=>a u (.tail _ hu);unfold ft;split
   .exact a v (.head _)
   .exact ae
 exact this l (k,-1) ⟨hk,T3 _⟩ h
theorem y8{n:aI}{s:am}{o u:Int}(a:bc n.k n.d6 s):0<=jx n s j pos v o u/\jx n s j pos v o u<=n.k:=by
 have h1:=vl (j:=j) (tl:=if pos=1 then[u,v]else[v,u]) a;have e:=kQ (i:=o) (v:=u) a;have hk:=a.eI;unfold jx;omega
section
variable{w:x5}{af ag:Nat}{A R:aj}{n:aI}{s:am}{t:aB}
end
def simpStep(of:Λ->Int)(p:Int×Option (Λ))(tl:Λ):Int×Option (Λ):=if p.2=ν\/of tl<p.1 then(of tl,σ tl)else p
def lv(k:Int)(of:Λ->Int)(l:List (Λ)):Int×Option (Λ):=l.foldl (simpStep of) (k,ν)
section
variable{w:x5}{af ag:Nat}{A R:aj}{n:aI}{s:am}{t:aB}
end
def dS(n:aI)(s:am)(i:Int):Int×Int:=dC n.k (aY s i) (bM n s i)
def vw(n:aI)(s:am)(j:Nat)(f:bP)(p:Nat)(v:Int):Int×Option (Λ):=lv n.k (dY s j) (pX s f.sc p f.sc.length 0 ((o5 f.sc.length 0).set p v))
def y9(n:aI)(s:am)(j:Nat)(f:bP)(v:Int):Int×Int:=dC n.k (aY s (f.sc.getD 1 0)) (jx n s j 0 v (f.sc.getD 1 0))
theorem R8{s:am}{i:Int}(a:bc k d6 s):(aY s i).length<=32:=by
 unfold aY;split
 .rename_i x J;have f:=(x6.1 J).1;have h:=a.d9;obtain⟨z,e⟩:=aJ (l:=d6) (i:=i.toNat) Ω;have h1:=(a.var _ x z J e).1;have j:=a.eQ.2.2 z (x7 e)
  grind [aG]
 .simp
section
variable{k:Int}{n:aI}{s:am}
theorem vx{i:Int}(a:bc n.k n.d6 s)(h:v∈aY s i):0<=v/\v<32:=by
 unfold aY at h;split at h
 .rename_i x J;have f:=(x6.1 J).1;have j:=a.d9;obtain⟨z,e⟩:=aJ (l:=n.d6) (i:=i.toNat) Ω;have h1:=(a.var _ x z J e).1;have q:=a.eQ.2.2 z (x7 e);have r:=yQ h;omega
 .cases h
end
theorem za{of:Int->Int}{c:Int}:∀(l:Λ)(b w:Int),w≠ -1->(∀v∈l,v≠ -1)->(c<=(l.foldl (ft of) (b,w)).1↔c<=b/\∀v∈l,c<=of v)
 |[],b,w,_,_=>Ξ
 |v::l,b,w,hw,a=>by
  rw[List.foldl_cons,List.forall_mem_cons];have ac:=a v (.head _);have e:=λu hu=>a u (.tail _ hu);unfold ft;by_cases h:of v<b
  .rw[m3 (.inr h)];show c<=(l.foldl (ft of) (of v,v)).1↔_;rw[za l _ _ ac e]
   grind
  .rw[m5 (by rintro (h1|h1)<;>contradiction)];show c<=(l.foldl (ft of) (b,w)).1↔_;rw[za l _ _ hw e]
   grind
theorem FZ{of:Int->Int}(h:∀v∈l,v≠ -1/\of v<=k):c<=(dC k l of).1↔c<=k/\∀v∈l,c<=of v:=by
 cases l<;>grind [dC,ft,za]
section
variable{n:aI}{s:am}
theorem R9{i:Int}(a:bc n.k n.d6 s):∀v∈aY s i,v≠ -1/\bM n s i v<=n.k:=λv ac=>by
 refine⟨?_,(kQ a).2⟩;unfold aY at ac;split at ac
 .have:=yQ ac;omega
 .cases ac
theorem F0{i:Int}(a:bc n.k n.d6 s):0<=(dS n s i).1/\(dS n s i).1<=n.k:=by
 have hk:=a.eI;exact vv Ω λv _=>kQ a
theorem F3{w:Nat}{x:bo}{i u:Int}(a:bc n.k n.d6 s)(J:s.d9[w]?=σ x)(ac:0<=v):u∈aY (dX s w v.toNat) i↔u∈aY s i/\(i.toNat=w->u≠v):=by
 have e:=(x6.1 J).1;have f:=a.d9;have h1:=a.var w x _ J (v8 Ω);have hm:((x.mask.toNat:Nat):Int)=x.mask:=Ω
 unfold aY;rw[kS J]
 grind [fu,yX]
theorem Sa{w:Nat}{i u:Int}{x:bo}(J:s.d9[w]?=σ x):bM n (dX s w v.toNat) i u=bM n s i u:=by
 unfold bM fs;rw[kS J]
 grind
end
structure dH(s s':am):Prop where
 d9:s'.d9.length=s.d9.length
 var:∀(i:Nat)x y,s.d9[i]?=σ x->s'.d9[i]?=σ y->y.gone=x.gone/\y.un.length=x.un.length
 ho:s'.ho.length=s.ho.length
 fn:∀(j:Nat)f g,s.ho[j]?=σ f->s'.ho[j]?=σ g->g.sc=f.sc/\g.an=f.an/\g.live=f.live/\g.cs.length=f.cs.length
 eJ:s'.eJ=s.eJ
theorem dH.rfl{s:am}:dH s s:=⟨Eq.refl _,by grind,Eq.refl _,by grind,Eq.refl _⟩
theorem dH.F{a b c:am}(h:dH a b)(k:dH b c):dH a c:=by
 refine⟨k.d9.F h.d9,λi x z J s=>?_,k.ho.F h.ho,λj f q ah w=>?_,k.eJ.F h.eJ⟩
 .have A:=(x6.1 J).1;have ac:=h.d9;obtain⟨y,e⟩:=aJ (l:=b.d9) (i:=i) Ω;have h1:=h.var i x y J e;have B:=k.var i y z e s;omega
 .have A:=(x6.1 ah).1;have ac:=h.ho;obtain⟨g,r⟩:=aJ (l:=b.ho) (i:=j) Ω;have h1:=h.fn j f g ah r;have B:=k.fn j g q r w
  grind
section
variable{k:Int}{d6:Λ}{s:am}
theorem zb{i:Nat}{x y:bo}(J:s.d9[i]?=σ x)(e:y.gone=x.gone)(h:y.un.length=x.un.length):dH s {s with d9:=s.d9.set i y}:=by
 refine⟨Y0,λj a b q r=>?_,rfl,λj f g h1 w=>?_,rfl⟩
 all_goals grind
theorem Sb{f g:bP}(ah:s.ho[j]?=σ f)(h:g.sc=f.sc/\g.an=f.an/\g.live=f.live/\g.cs.length=f.cs.length):dH s {s with ho:=s.ho.set j g}:=by
 refine⟨rfl,λi a b e r=>?_,Y0,λq a b e r=>?_,rfl⟩
 all_goals grind
theorem Sc:dH s {s with zero:=c}:=⟨rfl,by grind,rfl,by grind,rfl⟩
theorem zc{i:Nat}:dH s (dX s i v.toNat):=by
 cases J:s.d9[i]? with
 |none=>unfold dX;rw[J];exact .rfl
 |some x=>rw[kS J];grind [zb]
theorem zd{i:Nat}{v:Int}:∀(L:Λ)(s:am),dH s (gY s i v L)
 |[],_=>.rfl
 |w::L,s=>by
  unfold gY;split
  .exact zc.F (zd L _)
  .exact zd L s
theorem Sd{u:Nat}{x:bo}{g z:Int->Int}(J:s.d9[u]?=σ x):dH s (iM s u x g z):=
 (zb (y:={x with un:=eC g x.un (aG x)}) J rfl (vp _ _)).F Sc
theorem F4{pos u:Nat}{f:bP}{x:bo}{t un:Int->Int}(a:bc k d6 s)(ah:s.ho[j]?=σ f)(J:s.d9[u]?=σ x):dH s (fv s j f pos u x v t un):=by
 obtain⟨_,e⟩:=kR a (x7 ah);have h1:dH s (en s j f (ek t (cm s f.sc pos v) f.an f.cs)):=Sb ah ⟨rfl,rfl,rfl,q7 _ _ _ _ Ω⟩;exact h1.F (zb (y:={x with un:=x.un.set v.toNat (un (x.un.getD v.toNat 0))}) J rfl Y0)
theorem vy{m:fH}(e:bc k d6 s):dH s (bh k s m).1:=by
 by_cases he:(bh k s m).2=0
 .generalize a:bh k s m=r at he ⊢;unfold bh at a;split at a
  .split at a
   .grind
   .rename_i f u x ae;obtain⟨_,_,ah,_,_,ac⟩:=m8 ae;obtain⟨_,J,_,_⟩:=j1 ac
    grind [F4]
  split at a
  .split at a
   .grind
   .rename_i f u x ae;obtain⟨_,_,ah,_,_,ac⟩:=m8 ae;obtain⟨_,J,_,_⟩:=j1 ac
    grind [F4]
  grind [Sd,zc,zd]
 .rw[R7 he];exact .rfl
def e9(i v:Int):fH:=⟨4,i,0,v,0⟩
def l5(i c:Int):fH:=⟨2,i,0,0,c⟩
def dt(k:Int)(i:Int):Λ->am×Bool->am×Bool
 |[],p=>p
 |v::L,p=>dt k i L ((bh k p.1 (e9 i v)).1,decide ((bh k p.1 (e9 i v)).2=0)||p.2)
def fg(n:aI)(i:Int)(p:am×Bool):am×Bool×Bool:=
 if dh p.1 i.toNat=s2 then(p.1,p.2,sp)else
 let q:=dt n.k i (aY p.1 i) (p.1,sp)
 if(dS n q.1 i).2<0 then(q.1,sp,s2)else
 if 0<(dS n q.1 i).1 then((bh n.k q.1 (l5 i (dS n q.1 i).1)).1,s2,sp)else(q.1,q.2||p.2,sp)
def gZ(n:aI):List Nat->am×Bool->am×Bool×Bool
 |[],p=>(p.1,p.2,sp)
 |i::L,p=>if(fg n (i:Int) p).2.2=s2 then((fg n (i:Int) p).1,sp,s2)else gZ n L ((fg n (i:Int) p).1,(fg n (i:Int) p).2.1)
def fI(n:aI)(s:am):am×Bool×Bool:=gZ n (Y9 n.d6.length) (s,sp)
structure fw(k:Int)(d6:Λ)(s s':am):Prop where
 ok:bc k d6 s'
 gJ:bY s'
 same:dH s s'
 val:∀a,iE s a->ej k s' a=ej k s a
 fh:∀i u,u∈aY s' i->u∈aY s i
 zero:s.zero<=s'.zero
theorem vz{s':am}(h:dH s s')(e:iE s a):iE s' a:=by
 refine⟨e.1.F h.d9.symm,λi y v f ac=>?_⟩;have j:=(x6.1 f).1;have q:=h.d9;obtain⟨x,J⟩:=aJ (l:=s.d9) (i:=i) Ω;have h1:=h.var i x y J f;rw[h1.1,h1.2];exact e.2 i x v J ac
theorem fw.rfl(a:bc k d6 s)(e:bY s):fw k d6 s s:=⟨a,e,.rfl,Ω,λ_ _ h=>h,T3 _⟩
theorem fw.F{a b c:am}(h:fw k d6 a b)(g:fw k d6 b c):fw k d6 a c:=
 ⟨g.ok,g.gJ,h.same.F g.same,λx J=>(g.val x (vz h.same J)).F (h.val x J),λi u hu=>h.fh i u (g.fh i u hu),Int.le_trans h.zero g.zero⟩
theorem F5{m:fH}(e:bc k d6 s)(f:bY s)(hm:m.kind<5)(h:∀i u,u∈aY (bh k s m).1 i->u∈aY s i)(j:s.zero<=(bh k s m).1.zero):fw k d6 s (bh k s m).1:=by
 obtain⟨h1,q,r⟩:=vu (m:=m) e f;refine⟨h1,q,vy e,λa w=>?_,h,j⟩
 grind [nW]
end
def dI{α:Type}(a b:List α)(i:Nat):List α:=a.take i++b.drop i
theorem vA{α:Type}{a b:List α}(h:a.length=b.length):dI a b b.length=a:=by
 grind [dI]
theorem ze{α:Type}{a b:List α}{i:Nat}(h:a.length=b.length):(dI a b i).length=b.length:=by
 grind [dI]
theorem F6{α:Type}{a b:List α}{i:Nat}(h:a.length=b.length)(hi:i<b.length):(dI a b i)[i]?=b[i]?:=by
 grind [dI]
theorem vB{α:Type}{a b:List α}{i:Nat}{x:α}(h:a.length=b.length)(J:a[i]?=σ x):(dI a b i).set i x=dI a b (i+1):=by
 have e:=(x6.1 J).1;refine Y2 λj=>?_
 grind [dI]
def di(a b:am)(m q:Nat):am:=⟨a.zero,dI a.d9 b.d9 m,dI a.ho b.ho q,b.eJ⟩
theorem Se{a b:am}(h:dH b a):di a b b.d9.length b.ho.length=a:=by
 unfold di;rw[vA h.d9,vA h.ho,<-h.eJ]
theorem Sf{x y:bo}(h1:y.gone=x.gone):({({x with mask:=y.mask}:bo)with un:=y.un}:bo)=y:=by
 cases x;cases y
 grind
theorem Sg{x y:bo}(h:y.un.length=x.un.length):aG {x with mask:=y.mask}=aG y:=by
 grind [aG]
theorem Sh{f g:bP}(h:g.sc=f.sc/\g.an=f.an/\g.live=f.live):({f with cs:=g.cs}:bP)=g:=by
 obtain⟨h1,a,e⟩:=h;cases f;cases g
 grind
def vC(B:Nat)(w:x5)(a:x4)(cs:List x4)(f:cg):Prop:=∃af ag A R t N A9 aK,fC N f/\a=Γ af/\bC w af ag A R (cA f) (cY (cA f)) t/\Plain t/\(∀r,A r->B<=r)/\
 iw s2 A9 aK w cs (cA f).k (cA f).d6 (cY (cA f))/\(∀q r,A9 q r->¬A r/\¬R r/\B<=r)/\(∀r,aK r->¬eR w r/\r<w.heap.size/\B<=r)/\∀r,R r->B<=r
def Si(w:x5)(q:Λ)(v:x4)(I:x5):Prop:=Ext w I/\∃a cs ok,v= .tuple #[a,.agg cs.toArray,.bool ok]/\(cs.length=8/\∀u∈cs,u.oneCell'=s2)/\((ok=sp/\a= .pointer ν)\/(ok=s2/\∃f,il q=σ f/\vC w.heap.size I a cs f))/\∀f,il q=σ f->nP f.ho<=16384->ok=s2
theorem Sj{an:Λ}(V:dU an):(bt an).Nodup:=by
 rw[List.nodup_iff_pairwise_ne,V8];intro i j hi a e he;have h1:=kJ V (v8 hi)
 grind [kJ]
section
variable{k:Int}{d6:Λ}{s:am}
theorem F7{f:bP}{pos:Nat}(a:bc k d6 s)(ah:f∈s.ho)(ac:∀u,f.sc[pos]?=σ u->v∈aY s u):(cm s f.sc pos v).Nodup:=by
 obtain⟨e,h,_⟩:=a.ho f ah;obtain⟨j,_⟩:=kR a ah;rw[yS a (λu hu=>⟨(e.scope.1 u hu).1,e.d9 u hu⟩) ac,<-h]
 grind [Sj]
theorem zf{α:Type}{l:List α}{q:Nat}{a:α}(e:l.Nodup)(h:l[q]?=σ a):a∉l.take q:=λhm=>by
 grind [Y5,List.getElem_inj]
theorem vD{m:Nat}{f:bP}(ah:s.ho[j]?=σ f)(a:f.live≠0)(hi:cr f.an t 0=σ (m:Int)):dY s j t=bz f.an f.cs t/\∃p,iK s j t=σ p:=by
 grind [iK,dY,mX]
theorem F8{m q:Nat}{f:bP}{g:Int->Int}{L:List (Λ)}(a:bc k d6 s)(ah:s.ho[j]?=σ f)(e:L.Nodup)(h:L[q]?=σ t)(hi:cr f.an t 0=σ (m:Int)):
  bz f.an (ek g (L.take q) f.an f.cs) t=bz f.an f.cs t/\lq (en s j f (ek g (L.take q) f.an f.cs)) j m (g (bz f.an f.cs t))=en s j f (ek g (L.take (q+1)) f.an f.cs):=by
 obtain⟨r,w⟩:=kR a (x7 ah);have x:=zf e h
 grind [ou,u7,bz,Ri,lq,en,u9,List.set_set]
end
section
variable{w:x5}{af ag:Nat}{A R:aj}{n:aI}{s:am}{t:aB}
theorem zg{i:Int}(h:bC w af ag A R n s t):aq x8 JI [Γ af,Δ i,Δ v] w λr I=>Ext w I/\r=Δ (if(dD s i v).isSome=s2 then 0 else 1):=by
 have L:=h.2.2.2.1.d9;refine aE func151 ?_;rw[dj eD.u];simp only[b9,bb];refine a6 (λr U=>r= .bool (!(dD s i v).isSome)/\Ext w U) ?_ ?_
 .rintro _ U ⟨rfl,B⟩;rw[b4];exact⟨λf=>⟨B,by rw[m5 (by simpa using f)]⟩,λf=>⟨B,by rw[m3 (by simpa using f)]⟩⟩
 intro az C;refine(ve h).Y ?_;rintro _ ab _ ⟨rfl,j⟩;rw[b4];refine⟨λa=>C _ _ ⟨?_,j⟩,λa=>?_⟩
 .rw[T9,ro]at a;have q:dD s i v=ν:=by
   unfold dD;rw[m3 a.1];have y:=a.2;unfold dh at y;cases J:s.d9[i.toNat]? with
   |none=>rfl
   |some x=>
    rw[J]at y;simp only;rw[m5 λh=>by simp[h.1]at y]
  rw[q];rfl
 refine(jv (i:=i) (h.W j)).Y ?_;rintro _ M _ ⟨⟨b,m,rfl,z⟩,G⟩;refine(Fi z.1).Y ?_;rintro _ N _ ⟨rfl,H⟩;rw[bR];refine C _ _ ⟨?_,(j.F G).F H⟩;congr 2;by_cases e:0<=i/\i<n.d6.length
 .obtain⟨x,J⟩:=aJ (l:=s.d9) (i:=i.toNat) Ω;rw[Fw z e.1 J];unfold dD;rw[m3 e.1,J];have K:x.gone=0:=by
   rw[ms e.1,S7]at a;unfold dh at a;rw[J]at a;simpa using a
  simp only;by_cases ac:v∈aG x
  .rw[ms ac,m3 ⟨K,ac⟩];rfl
  .rw[rc ac,m5 λh=>ac h.2];rfl
 .obtain⟨rfl,rfl⟩:=z.2.1 e;have q:dD s i v=ν:=by
   unfold dD;by_cases E:0<=i
   .rw[m3 E,W7 Ω]
   .rw[m5 E]
  rw[q,rc Ω];rfl
def Sk(s:am)(j pos v:Int)(u e:Int):Prop:=(e=0/\∃f x,ds s j pos v=σ (f,u,x))\/(e=1/\ds s j pos v=ν)
theorem zh{j:Int}(h:bC w af ag A R n s t):aq x8 JC [Γ af,Δ j,Δ pos,Δ v] w λr I=>Ext w I/\∃u e,r= .tuple #[Δ u,Δ e]/\Sk s j pos v u e:=by
 refine aE func143 ?_;rw[dj eD.u];simp only[b9,bb];have key:∀(K:x4->x5->Prop),(∀r I,Ext w I->(∀f,0<=j->s.ho[j.toNat]?=σ f->aQ .i64 I r f.sc)->K r I)->aq x8 rG [Γ af,Δ j] w K:=λK V=>by
  by_cases W:0<=j/\j<s.ho.length
  .obtain⟨f,ah⟩:=aJ (l:=s.ho) (i:=j.toNat) Ω;have:=l4 h ah;rw[show((j.toNat:Nat):Int)=j by omega]at this;refine this.Y ?_;rintro r U _ ⟨C,g,_,hm⟩;exact V r U C λH _ X=>by rw[ah]at X;cases X;exact hm.ls
  .refine (Fs h W).Y ?_;rintro r U _ ⟨rfl,C⟩;exact V _ U C λf E ah=>m6 ⟨E,by have:=(x6.1 ah).1;omega⟩ W
 refine key _ λr U C Y=>?_;have L:∀{P:Prop},(¬∃f u,0<=j/\0<=pos/\s.ho[j.toNat]?=σ f/\f.live≠0/\f.sc[pos.toNat]?=σ u)->(ds s j pos v=ν->P)->P:=λz am=>am (by
  cases ae:ds s j pos v with
  |none=>rfl
  |some q=>
   obtain⟨f,u,x⟩:=q;obtain⟨M,N,a3,a4,a5,_⟩:=m8 ae;exact m6 ⟨f,u,M,N,a3,a4,a5⟩ z)
 refine a6 (λZ ab=>Ext U ab/\((Z= .bool s2/\ds s j pos v=ν)\/(Z= .bool sp/\∃f u,0<=j/\0<=pos/\s.ho[j.toNat]?=σ f/\f.live≠0/\f.sc[pos.toNat]?=σ u))) ?_ ?_
 .rintro _ ab ⟨O,⟨rfl,z⟩|⟨rfl,f,u,E,aa,ah,an,hu⟩⟩
  .rw[bT];exact⟨C.F O,0,1,rfl,.inr ⟨rfl,z⟩⟩
  .rw[bb];intro ap B _ _;have ad:=(Y f E ah).W (O.F B);refine om Ω au.u al.i ad hu λb o av=>?_;rw[aF Ψ av,fz (y:=pos) (i:=pos.toNat) Ω au.u al.i Ψ ad hu];have ai:=(C.F O).F B;refine(zg (h.W ai)).Y ?_;rintro _ ax _ ⟨aj,rfl⟩;refine⟨.inl aj,ai.F aj,u,_,rfl,?_⟩;have ae:ds s j pos v=(dD s u v).map λx=>(f,u,x):=by
    unfold ds;rw[m3 ⟨E,aa⟩,ah];simp only;rw[m3 an,hu]
   cases ac:dD s u v with
   |none=>exact .inr ⟨rfl,by rw[ae,ac];rfl⟩
   |some x=>exact .inl ⟨rfl,f,x,by rw[ae,ac];rfl⟩
 intro az J;refine(sO (h.W C)).Y ?_;rintro _ ap _ ⟨rfl,B⟩;have same:∀{f H:bP},s.ho[j.toNat]?=σ f->s.ho[j.toNat]?=σ H->H=f:=λa b=>by rw[a]at b;exact(Z5 b).symm
 rw[bR,b4];refine⟨λQ=>L (λ⟨f,u,M,N,a3,a4,a5⟩=>?_) λz=>J _ _ ⟨B,.inl ⟨rfl,z⟩⟩,λS=>?_⟩
 .unfold e0 at Q;rw[a3]at Q;simp[M,a4]at Q
 have S:0<=j/\e0 s j.toNat=s2:=by simpa using S
 obtain⟨E,G⟩:=S;obtain⟨f,ah,aw⟩:∃f,s.ho[j.toNat]?=σ f/\f.live≠0:=by
  unfold e0 at G;cases ah:s.ho[j.toNat]? with
  |none=>rw[ah]at G;cases G
  |some f=>rw[ah]at G;exact⟨f,rfl,by simpa using G⟩
 rw[aW,ao];refine⟨λay=>L (λ⟨_,_,_,N,_⟩=>Ω) λz=>J _ _ ⟨B,.inl ⟨rfl,z⟩⟩,λaa=>?_⟩;rw[ba au.u ((Y f E ah).W B),cU];by_cases ak:(f.sc.length:Int)<=pos
 .refine L (λ⟨H,u,_,_,a3,_,a5⟩=>?_) λz=>J _ _ ⟨B,.inl ⟨by rw[ms ak],z⟩⟩;obtain rfl:=same ah a3;have:=(x6.1 a5).1;omega
 .obtain⟨u,hu⟩:=aJ (l:=f.sc) (i:=pos.toNat) Ω;exact J _ _ ⟨B,.inr ⟨by rw[rc ak],f,u,E,Ω,ah,aw,hu⟩⟩
theorem vE{most:Int}(h:bC w af ag A R n s t):aq x8 JD [Γ af,Δ c,Δ most] w λr I=>Ext w I/\r=Δ (dE n.k c most):=by
 refine aE func144 ?_;refine(nS h).Y ?_;rintro _ U _ ⟨rfl,a⟩;refine k8.Y ?_;rintro _ ab _ ⟨rfl,e⟩;have hi:cE c n.k↔0<=c/\c<=n.k:=⟨λh=>h.2,λj=>⟨h.2.2.2.1.eI,j⟩⟩;unfold dE;rw[bR,b4];refine⟨λf=>⟨a.F e,?_⟩,λf=>?_⟩
 .have:¬cE c n.k:=by simpa using f
  rw[m3 λh=>this (hi.2 h)]
 .have:cE c n.k:=by simpa using f
  rw[m5 λh=>h (hi.1 this),bW,ao];exact⟨λh=>⟨a.F e,by rw[m3 h]⟩,λh=>⟨a.F e,by rw[m5 h]⟩⟩
theorem Sl{a b:Int}(hk:right k)(f:0<=a/\a<=k)(j:0<=b/\b<=k)(x:a=k\/b<=a):aq x8 Ks [Δ a,Δ b,Δ k] w λv I=>v= .tuple #[Δ (cJ k a b),Δ 0]/\Ext w I:=by
 have y:1<=k/\k<=2147483648:=hk;refine aE func213 ?_;refine a6 (λr U=>r= .bool sp/\Ext w U) ?_ ?_
 .rintro _ U ⟨rfl,e⟩;unfold cJ;rw[bb,bl,ao];refine⟨λh=>⟨by rw[m3 h],e⟩,λh=>?_⟩;rw[m5 h,bW,ao];refine⟨λz=>Ω,λ_=>?_⟩;rw[dm,lm Ω Ω];exact⟨rfl,e⟩
 intro az q;refine k8.Y ?_;rintro _ U _ ⟨rfl,e⟩;rw[ms (show cE a k from⟨hk,f⟩),bR,Y7,bb];refine k8.Y ?_;rintro _ ab _ ⟨rfl,s⟩;rw[ms (show cE b k from⟨hk,j⟩),bR,Y7];exact q _ _ ⟨rfl,e.F s⟩
theorem vF{a:Int}(h:bC w af ag A R n s t)(e:0<=a/\a<=n.k)(f:0<=c/\c<=n.k)(j:a=n.k\/c<=a):aq x8 pf [Γ af,Δ a,Δ c] w λr I=>r=Δ (cJ n.k a c)/\Ext w I:=by
 refine aE func146 ?_;refine(nS h).Y ?_;rintro _ U _ ⟨rfl,q⟩;refine(Sl h.2.2.2.1.eI e f j).Y ?_;rintro _ ab _ ⟨rfl,x⟩;rw[bA,bB];exact⟨rfl,q.F x⟩
theorem sZ{a:Int}(h:bC w af ag A R n s t)(e:0<=a/\a<=n.k)(f:0<=c/\c<=n.k):aq x8 pg [Γ af,Δ a,Δ c] w λr I=>r=Δ (b2 n.k a c)/\Ext w I:=by
 refine aE func147 ?_;refine(nS h).Y ?_;rintro _ U _ ⟨rfl,j⟩;refine(Ra e f h.2.2.2.1.eI).Y ?_;rintro _ ab _ ⟨rfl,q⟩;rw[bA,bB];exact⟨rfl,j.F q⟩
end
theorem Sm{g n c:Nat}(a:ak w g cT cs)(h:∀I,ai (λr=>r=g) w I->(∀o vs,w.rangeAt g o vs->I.rangeAt g o vs)->K (.slice (σ ⟨g,0,ν⟩) n c) I):
  aL x8 (convert cV cV (.slice (σ ⟨g,0,ν⟩) n c)) w K:=by
 have f:∀r,(w.freeze ⟨g,cs.length,ν⟩ 1).heap[r]?=if g=r then(w.heap[r]?).map (λ| .cells c q (lo,hi)=>.cells c q (if lo == hi then(cs.length,cs.length+1)else(min lo cs.length,max hi (cs.length+1)))|o=>o)else w.heap[r]?:=λr=>by
  unfold x5.freeze;rw[m5 Φ];exact Array.getElem?_modify
 have A:(w.freeze ⟨g,cs.length,ν⟩ 1).heap.size=w.heap.size:=by
  unfold x5.freeze;rw[m5 Φ];exact Array.size_modify
 have s:w.shape? g=σ (cT,cs.length):=by
  unfold x5.shape?;unfold ak at a;rw[a];simp
 have x:(convert cV cV (.slice (σ ⟨g,0,ν⟩) n c)).run x8 w= .ok (.slice (σ ⟨g,0,ν⟩) n c) (w.freeze ⟨g,cs.length,ν⟩ 1):=by
  simp[convert,run_underlying cV.u,run_underlying cT.u,markStringish,s]
 unfold ak at a;refine .of x ⟨by unfold x5.freeze;rw[m5 Φ],.lC (by unfold x5.freeze;rw[m5 Φ]) (by unfold x5.freeze;rw[m5 Φ]),by unfold x5.freeze;rw[m5 Φ],Ω,λr o e V=>?_⟩ (h _ ⟨Ω,λr o e _ y=>?_⟩ λo vs ac j v z=>?_)
 .rw[f];by_cases he:g=r
  .subst he;rw[a]at e;cases e;cases V
  .rw[m5 he];exact e
 .rw[f,m5 λhe=>y he.symm];exact e
 .have h1:=ac j v z;unfold x5.cell? at h1 ⊢;rw[f,m3 rfl];rw[a]at h1 ⊢;exact h1
def zi(s0 s:am):Prop:=s.zero=s0.zero/\s.ho=s0.ho/\s.d9.length=s0.d9.length/\∀(i:Nat)x,s.d9[i]?=σ x->∃a,s0.d9[i]?=σ a/\x.un=a.un/\x.gone=0/\a.gone=0/\a.mask=0
theorem zi.new(n:aI):zi (cY n) (cY n):=⟨rfl,rfl,rfl,λi x J=>by
 refine⟨x,J,rfl,?_⟩;have J:(n.unary.map newVar)[i]?=σ x:=J;rw[u4]at J;obtain⟨u,_,rfl⟩:=Z9.1 J;exact⟨rfl,rfl,rfl⟩⟩
theorem F9(n:aI):bY (cY n):=λf _ _ v _ x J=>by
 obtain⟨_,_,_,h,_⟩:=(zi.new n).2.2.2 _ x J;exact h
theorem Sn{av:Nat}{E:x4}{f:cg}(G:vC B ab E cs f)(J:Ext ab w)(H:ak w av aM cs)(M:ab.heap.size<=av):
  ∃af ag A R A9 aK t,E=Γ af/\ci w af ag av A R A9 aK (cA f) (cY (cA f)) (cY (cA f)) t [] cs/\t.marks=[]/\(∀r,A r->B<=r)/\(∀q r,A9 q r->B<=r)/\t.cells.length<=2000000/\t.olds.length=0/\(cA f).ho.length<=256/\t.kH=0/\(∀r,aK r->B<=r)/\∀r,R r->B<=r:=by
 obtain⟨af,ag,A,R,t,N,A9,aK,x,rfl,y,e,I,K,C,j,L⟩:=G;have F:=nU y;have z:=J.size;have s:=(va (DO x).1 (yM x) (cA f).unary.length (cA f).ho.length);rw[yt,<-y.2.1]at s;unfold aB.cb at s;rw[r9]at s;refine⟨af,ag,A,R,λq r=>A9 q r/\r<ab.heap.size,aK,t,rfl,⟨y.W J,e.2.2.1,H,K.old.W J,λq r h=>⟨(C q r h.1).1,(C q r h.1).2.1,by have:=h.2;omega⟩,λr a=>⟨λh=>(j r a).1 (oE (λo aC V _=>J.a8 r o aC V) h),by have:=(j r a).2;omega,by have:=(j r a).2;omega⟩,λh=>by have:=F av (.inl h);omega,λh=>by have:=F av (.inr h);omega⟩,e.1,I,λq r h=>(C q r h.1).2.2,s,by rw[e.2.1];rfl,yM x,e.2.2.2,λr a=>(j r a).2.2,L⟩
section
variable{α:Type}{f:α->List x4}{k:Nat}{e:o4}{w:x5}{g:Nat}{v:x4}{L:List α}
theorem Sp{t:o4}{b:Nat}{z:x4}{i:Nat}(s:x8.underlying t=σ (.slice e))(hi:aU x8 e k b z)(h:bn f k e w g v L)(y:i<=L.length):
  ∃j,(∀(I:x5)(K:x4->Prop),ad x8 (V5 t v ν (σ (Δ (i:Int))) ν) I K=K j)/\bn f k e w g j (L.take i)/\∀r,hx j r->hx v r:=by
 obtain⟨⟨J,⟨rfl,A⟩|⟨cap,cs,rfl,B,M,C,E,N⟩⟩,O⟩:=id h
 .have F:=b8 A;subst F;have:i=0:=Ω
  subst this;exact⟨_,λI K=>iA s hi ke pp fy Ω Ω Ω,h,λr q=>q⟩
 .have G:(if cap=0 then(σ ⟨g,0,ν⟩:Option Addr)else V6 (λx:Addr=>x.add (0*k)) (σ ⟨g,0,ν⟩))=σ ⟨g,0,ν⟩:=by grind [U8]
  refine⟨.slice (σ ⟨g,0,ν⟩) i cap,λI K=>?_,⟨⟨?_,.inr ⟨cap,cs,by grind,B,by grind,C,E,?_⟩⟩,by grind⟩,λr q=>by obtain⟨a,_,_,e,H⟩:=q;cases e;exact⟨_,_,_,rfl,H⟩⟩
  .rw[iA s hi ke pp fy Ω Ω Ω,G,Nat.sub_zero,Nat.sub_zero]
  .grind [jS]
  .rw[Z3,Nat.min_eq_left y];have ah:L.flatMap f=(L.take i).flatMap f++(L.drop i).flatMap f:=by grind [List.take_append_drop]
   have P:((L.take i).flatMap f).length=i*k:=by grind [jS,Z3]
   have:cs.take (i*k)=(cs.take (L.length*k)).take (i*k):=by grind
   grind
end
section
variable{w I:x5}{af ag av dw:Nat}{A R O M aK:aj}{A9:Nat->aj}{k:Int}{d6:Λ}{V:List am}{n:aI}{s u:am}{t:aB}{h:List aB}{cs:List x4}
structure VH(w:x5)(av:Nat)(A R:aj)(A9:Nat->aj)(aK O M:aj):Prop where
 o:∀r,O r->r<w.heap.size/\¬A r/\¬R r/\(∀q,¬A9 q r)/\¬aK r/\r≠av/\¬M r
 m:∀r,M r->r<w.heap.size/\¬A r/\(∀q,¬A9 q r)/\¬aK r/\r≠av
theorem ci.side{S:aj}(p:ci w af ag av A R A9 aK n s u t h cs)(f:ai S w I)(e:∀r,r<w.heap.size->S r->¬A r/\¬R r/\(∀q,¬A9 q r)/\¬aK r/\r≠av):ci I af ag av A R A9 aK n s u t h cs:=by
 have z:=f.size;exact⟨⟨p.dG.1.aa f λr a h V=>h.elim (e r a V).1 (e r a V).2.1,p.dG.2⟩,p.iJ,p.box.aa f λV=>(e av p.box.lt V).2.2.2.2 rfl,p.doc.aa f λr a h V=>h.elim (λ⟨q,h⟩=>(e r a V).2.2.1 q h) (e r a V).2.2.2.1,p.apart,
  λr a=>⟨λh=>(p.read r a).1 (oE (λo aC V _=>f.a8 r o aC V λj=>(e r (p.read r a).2.1 j).2.2.2.1 a) h),by have:=(p.read r a).2.1;omega,(p.read r a).2.2⟩,p.out⟩
theorem ci.Ga(p:ci w af ag av A R A9 aK n s u t h cs):∀q r,A9 q r->¬aK r:=by
 obtain⟨_,_,_,_,_,_,_,_,_,_,_,_,_,a⟩:=p.doc;exact(a rfl).2
end
theorem Gb{w0:x5}{out:x4}{g:Nat}{x:Int}(e:Ext w0 w)(hm:aH .i64 al w g out l)(f:∀r,lc out r->w0.heap.size<=r)(G:l.length<=1000000000)(q:∀v I s,Ext w0 I->aH .i64 al I s v (l++[x])->(∀r,lc v r->w0.heap.size<=r)->K v I):
  aL x8 (Y3 au 1 #[(0,Δ x)]) w λy U=>aL x8 (c9 #[au,au] au #[out,y]) U K:=by
 refine e3 au.u al.i rfl λv4 H J L a A=>?_;refine jt au.u al.i rfl (hm.W a) A.ls Θ Θ λv5 B M C E F=>?_;have z:=(e.F a).size;exact q _ _ B ((e.F a).then F λr j he=>by have:=f r he;omega) C λr j=>(E r j).elim (f r) λh=>Ω
theorem vG(x:bo):(aG x).length<=x.un.length:=by
 unfold aG;have:=List.length_filter_le (λv:Int=>!dropped x.mask v) ((Y9 x.un.length).map λv:Nat=>(v:Int));rw[r9,List.length_range]at this;exact this
section
variable{w:x5}{af ag:Nat}{A R:aj}{n:aI}{s:am}{t:aB}
end
def m9(s:am)(sc t:Λ):Bool:=(sc.zip t).all λp=>match s.d9[p.1.toNat]? with
 |some x=>decide (p.2∈aG x)
 |none=>sp
section
variable{w:x5}{af ag:Nat}{A R:aj}{n:aI}{s:am}{t:aB}
end
def p4(an t:Λ):Int:=(cr an t 0).getD 0
def na(s:am)(f:bP)(pos:Nat)(v:Int):Λ:=(cm s f.sc pos v).map (p4 f.an)
def l6(s:am)(sc:Λ)(pos:Nat)(v:Int)(t:Λ):Bool:=decide (t.getD pos 0=v)&&m9 s sc t
section
variable{k:Int}{d6:Λ}{s:am}{f:bP}{pos:Nat}{v:Int}
theorem Sq:m9 s sc t=s2↔ ∀(p:Nat)u w,sc[p]?=σ u->t[p]?=σ w->w∈aY s u:=by
 unfold m9;rw[List.all_eq_true];constructor
 .intro h p u w hu hw;have:=h (u,w) (x7 (List.getElem?_zip_eq_some.2 ⟨hu,hw⟩));unfold aY;cases J:s.d9[u.toNat]? with
  |none=>simp[J]at this
  |some x=>simpa[J]using this
 .rintro h ⟨u,w⟩ hm;obtain⟨p,ae⟩:=Y5.1 hm;obtain⟨h1,a⟩:=List.getElem?_zip_eq_some.1 ae;have:=h p u w h1 a;unfold aY at this;simp only;cases J:s.d9[u.toNat]? with
  |none=>rw[J]at this;cases this
  |some x=>rw[J]at this;simpa using this
theorem Sr(q:bc k d6 s)(ah:f∈s.ho)(A:pos<f.sc.length)(ac:∀u,f.sc[pos]?=σ u->v∈aY s u):cm s f.sc pos v=(bt f.an).filter (l6 s f.sc pos v):=by
 obtain⟨r,x,_⟩:=q.ho f ah;have j:=yS q (λu hu=>⟨(r.scope.1 u hu).1,r.d9 u hu⟩) ac;rw[<-x]at j;have h1:∀t∈bt f.an,(pW (pY s pos v f.sc 0) t=s2↔t∈cm s f.sc pos v):=λt a=>by rw[j,S6];exact⟨λh=>⟨a,h⟩,λh=>h.2⟩
 rw[j];refine List.filter_congr λt a=>?_;have B:t.length=f.sc.length:=by rw[tS a,x];simp[b6]
 rw[U1,h1 t a,oM,l6,T9,ro,Sq];constructor
 .rintro⟨_,h⟩;obtain⟨u,hu⟩:=aJ (l:=f.sc) A;obtain⟨w,hw⟩:=aJ (l:=t) (i:=pos) Ω;have y:=h pos u w hu hw;rw[m3 rfl]at y;refine⟨by rw[r8,hw];exact y,λp u' I z C=>?_⟩;have:=h p u' I z C;split at this
  .rename_i e;subst e;rw[this];exact ac u' z
  .exact this
 .rintro⟨h1,E⟩;refine⟨B,λp u w hu hw=>?_⟩;split
  .rename_i e;subst e;rw[r8,hw]at h1;exact h1
  .exact E p u w hu hw
end
section
variable{w:x5}{eO:x4}{k:Int}{d6:Λ}{s:am}
theorem Ss{j:Int}(h:j0 w eO k d6 s)(Y:bc k d6 s)(aj:bY s):aq x8 Kn [eO,Δ j,Δ pos,Δ v] w λr I=>Ext w I/\∃u,r= .tuple #[Δ u,.bool (ds s j pos v).isSome]:=by
 have aH:=Y.d9;refine aE func207 ?_;refine br λg1 U aI G ak=>?_;have Z:=h.box G ak;obtain⟨hv,aK,aL,aN,aO,aQ,H,aR,_,am,aS,aT,aa,aU⟩:=id Z;refine a6 (λr ab=>Ext U ab/\((r= .bool s2/\ds s j pos v=ν)\/(r= .bool sp/\∃f u,0<=j/\0<=pos/\s.ho[j.toNat]?=σ f/\f.live≠0/\f.sc[pos.toNat]?=σ u))) ?_ λaz C=>?_
 .rintro _ ab ⟨z,⟨rfl,e⟩|⟨rfl,f,u,K,ac,ah,ad,hu⟩⟩
  .rw[bT,e];exact⟨G.F z,0,rfl⟩
  .rw[bb];have af:=x7 ah;have L:=x7 hu;obtain⟨ag,aV,_⟩:=Y.ho f af;have M:=(ag.scope.1 u L).1;have aX:=ag.d9 u L;have M:=M;obtain⟨x,J⟩:=aJ (l:=s.d9) (i:=u.toNat) Ω;rw[aP aM.p 6 (H.W z) rfl];refine k7 (i:=j.toNat) Ω dA.u c5.i (bD aa z) (by rw[u4,ah];rfl) λb o cs N O=>?_;obtain⟨an,ap,v3,rfl,h1,av,aw⟩:=oO O;rw[aZ c5.p rfl,aZ bd.p rfl,aF Ψ (N 0 _ rfl),fz (y:=pos) (i:=pos.toNat) Ω au.u al.i Ψ (ew h1) hu,aP aM.p 3 (H.W z) rfl];refine kf (i:=u.toNat) rfl Ω cq.u au.i Ψ (bD am z) (by rw[u4,J];rfl) λaY ax=>?_;refine(vj (ew ax)).Y ?_;rintro _ a1 _ ⟨rfl,ay⟩;refine⟨(G.F z).F ay,u,?_⟩;have aA:=aj f af ad u L x J;have ae:ds s j pos v=(dD s u v).map λx=>(f,u,x):=by
    unfold ds;rw[m3 ⟨K,ac⟩,ah];simp only;rw[m3 ad,hu]
   have aB:dD s u v=if v∈aG x then σ x else ν:=by
    unfold dD;rw[m3 M,J];simp only[aA,true_and]
   rw[ae,aB];by_cases E:v∈aG x
   .rw[m3 E,ms E];rfl
   .rw[m5 E,rc E];rfl
 have Q:∀{P:Prop},(¬∃f u,0<=j/\0<=pos/\s.ho[j.toNat]?=σ f/\f.live≠0/\f.sc[pos.toNat]?=σ u)->(ds s j pos v=ν->P)->P:=λe aC=>aC (by
  cases ae:ds s j pos v with
  |none=>rfl
  |some q=>
   obtain⟨f,u,x⟩:=q;obtain⟨R,S,a3,a4,a5,_⟩:=m8 ae;exact m6 ⟨f,u,R,S,a3,a4,a5⟩ e)
 refine Z.load λu hu=>?_;refine(RN hu).Y ?_;rintro _ a2 _ ⟨rfl,A⟩;have same:∀{f V:bP},s.ho[j.toNat]?=σ f->s.ho[j.toNat]?=σ V->V=f:=λa b=>by rw[a]at b;exact(Z5 b).symm
 rw[bR,b4];refine⟨λW=>Q (λ⟨f,u,R,S,a3,a4,a5⟩=>?_) λe=>C _ _ ⟨A,.inl ⟨rfl,e⟩⟩,λX=>?_⟩
 .unfold e0 at W;rw[a3]at W;simp[R,a4]at W
 have X:0<=j/\e0 s j.toNat=s2:=by simpa using X
 obtain⟨K,B⟩:=X;obtain⟨f,ah,aD⟩:∃f,s.ho[j.toNat]?=σ f/\f.live≠0:=by
  unfold e0 at B;cases ah:s.ho[j.toNat]? with
  |none=>rw[ah]at B;cases B
  |some f=>rw[ah]at B;exact⟨f,rfl,by simpa using B⟩
 rw[aW,ao];refine⟨λa7=>Q (λ⟨_,_,_,S,_⟩=>Ω) λe=>C _ _ ⟨A,.inl ⟨rfl,e⟩⟩,λac=>?_⟩;rw[aP aM.p 6 (H.W A) rfl];refine k7 (i:=j.toNat) Ω dA.u c5.i (bD aa A) (by rw[u4,ah];rfl) λb o cs N O=>?_;obtain⟨an,ap,v3,rfl,h1,av,aw⟩:=oO O;rw[aZ c5.p rfl,aZ bd.p rfl,aF Ψ (N 0 _ rfl),ba au.u (ew h1),cU];by_cases ai:(f.sc.length:Int)<=pos
 .refine Q (λ⟨V,u,_,_,a3,_,a5⟩=>?_) λe=>C _ _ ⟨A,.inl ⟨by rw[ms ai],e⟩⟩;obtain rfl:=same ah a3;have:=(x6.1 a5).1;omega
 .obtain⟨u,hu⟩:=aJ (l:=f.sc) (i:=pos.toNat) Ω;exact C _ _ ⟨A,.inr ⟨by rw[rc ai],f,u,K,Ω,ah,aD,hu⟩⟩
theorem Gc{pos:Nat}{f:bP}(h:j0 w eO k d6 s)(L:bc k d6 s)(ah:s.ho[j]?=σ f)(aK:pos<f.sc.length)(ac:∀u,f.sc[pos]?=σ u->v∈aY s u):
  aq x8 Jy [eO,Δ (j:Int),Δ (pos:Int),Δ v] w λr I=>Ext w I/\aQ .i64 I r (na s f pos v)/\∀q,lc r q->w.heap.size<=q:=by
 have bw:=L.d9;have V:=x7 ah;obtain⟨M,ai,_⟩:=L.ho f V;have N:=(kR L V).1;have aL:f.an.length=f.sc.length:=by rw[ai];simp[b6]
 have bx:=kF N;have bz:(bt f.an).length<=4096:=by
  have O:=M.small;rw[<-ai]at O;omega
 refine aE func139 ?_;refine br λg1 U bA W aN=>?_;obtain⟨hv,bB,bC,bE,bG,bH,aj,bJ,_,aO,bL,bM,aR,bN⟩:=h.box W aN;rw[aP aM.p 6 aj rfl];refine k7 (i:=j) rfl dA.u c5.i aR (by rw[u4,ah];rfl) λb o cs E aS=>?_;obtain⟨X,Y,v3,rfl,h1,O,aU⟩:=oO aS;rw[aZ c5.p rfl,bI (cs:=[X,Y,v3]) bd.p bd.i rfl (λq u a=>by
  have:q<3:=(x6.1 a).1
  match q,this,a with
  |0,_,a=>cases a;exact E 0 _ rfl
  |1,_,a=>cases a;exact E 1 _ rfl
  |2,_,a=>cases a;exact E 2 _ rfl)]
 refine bF bd.i λbO ab bQ aV aW=>?_;have a1:∀u∈[X,Y,v3],u.oneCell'=s2:=λu hu=>by
  simp only[List.mem_cons,List.not_mem_nil,or_false]at hu;rcases hu with rfl|rfl|rfl
  .exact k6 h1
  .exact k6 O
  .exact k6 aU
 refine cd (vs:=[X,Y,v3]) bd.i rfl rfl a1 aW λbR a2 bS ak=>?_;have am:=aV.put a2 Ω;have s1:=ew h1;have a7:=ew O;rw[aP bd.p 1 ak rfl];refine(xj f.an (a7.W am) ⟨by rw[aL];exact M.scope.2,N⟩).Y ?_;rintro bT P _ ⟨ao,ap⟩;have Z:=am.F ao;rw[ij cq.u ap];refine cp.range (bt f.an).length (λi out C=>Ext P C/\(∃g,aH .i64 al C g out ((((bt f.an).take i).filter (l6 s f.sc pos v)).map (p4 f.an)))/\∀r,lc out r->P.heap.size<=r) Ω ⟨Ext.refl _,⟨0,aH.nil _ _ _ _⟩,λr E=>by obtain⟨_,_,_,e,_⟩:=E;cases e⟩ ?_ ?_
 .rintro q out C a8 a ⟨z,⟨g,hm⟩,Q⟩ bb;have G:(bt f.an)[q]?=σ (du f.an (q:Int)):=r0 N Ω;generalize du f.an (q:Int)=tl at G;have bU:=BO G;have be:=kJ N G;have bf:p4 f.an tl=(q:Int):=by unfold p4;rw[be];rfl
  have R:=Z.F z;have av:((bt f.an).take (q+1)).filter (l6 s f.sc pos v)=((bt f.an).take q).filter (l6 s f.sc pos v)++(if l6 s f.sc pos v tl=s2 then[tl]else[]):=by
   rw[u9,G,j4,List.filter_append];congr 1;cases ax:l6 s f.sc pos v tl<;>simp[ax]
  obtain⟨aa,aw⟩:=aJ (l:=tl) (i:=pos) Ω;refine bK Ω ?_;refine a6 (λay aA=>Ext P aA/\(∃g,aH .i64 al aA g ay ((((bt f.an).take (q+1)).filter (l6 s f.sc pos v)).map (p4 f.an)))/\∀r,lc ay r->P.heap.size<=r) (λ_ _ ad=>by rw[aT];exact bb _ _ ad) λaz H=>?_;refine kf rfl rfl cq.u au.i Ψ (bD ap z) G λaX S=>?_;have S:=ew S;rw[bp au.u al.i Ψ S aw,bl,aP bd.p 0 (ak.W (ao.F z)) rfl,ba au.u (s1.W R)];refine cp.range f.sc.length (λp ok af=>Ext C af/\ok= .bool (decide (aa=v)&&m9 s (f.sc.take p) (tl.take p))) s1.le ⟨Ext.refl _,by simp[m9]⟩ ?_ ?_
  .rintro p _ af bg ae ⟨A,rfl⟩ bh;obtain⟨u,ag⟩:=aJ (l:=f.sc) ae;obtain⟨y,aB⟩:=aJ (l:=tl) (i:=p) Ω;have aC:=x7 ag;have aD:=(M.scope.1 u aC).1;have aF:=M.d9 u aC;have aF:=aF;have aD:=aD;obtain⟨x,J⟩:=aJ (l:=s.d9) (i:=u.toNat) Ω;have aI:m9 s (f.sc.take (p+1)) (tl.take (p+1))=(m9 s (f.sc.take p) (tl.take p)&&decide (y∈aG x)):=by
    unfold m9;rw[u9,u9,ag,aB,j4,j4,List.zip_append Θ,List.all_append];simp[J]
   refine bK Ω ?_;refine a6 (λok bi=>Ext C bi/\ok= .bool (decide (aa=v)&&m9 s (f.sc.take (p+1)) (tl.take (p+1)))) (λ_ _ ad=>by rw[aT];exact bh _ _ ad) λaz H=>?_;rw[bp au.u al.i Ψ (s1.W (R.F A)) ag];intro bV bj _ _;have K:=A.F bj;rw[b4];refine⟨λB=>?_,λB=>H _ _ ⟨K,by rw[aI,<-Bool.and_assoc,B];rfl⟩⟩;rw[aP aM.p 3 (aj.W (R.F K)) rfl];refine kf (i:=u.toNat) rfl Ω cq.u au.i Ψ (bD aO (R.F K)) (by rw[u4,J];rfl) λbW bk=>?_;rw[bp au.u al.i Ψ (S.W K) aB];refine(vj (ew bk)).Y ?_;rintro _ bX _ ⟨rfl,bm⟩;exact H _ _ ⟨K.F bm,by rw[aI,<-Bool.and_assoc,B,S7]⟩
  .rintro _ af bg ⟨A,rfl⟩;rw[o9,j5 Ω];refine ck Ω ?_;have bn:(decide (aa=v)&&m9 s f.sc tl)=l6 s f.sc pos v tl:=by unfold l6;rw[r8,aw];rfl
   rw[bn,b4];refine⟨λB=>?_,λB=>H _ _ ⟨z.F A,⟨g,by rw[av,m5 (by rw[B];decide),T5];exact hm.W A⟩,Q⟩⟩;refine Gb (z.F A) (hm.W A) Q ?_ λbY I bo bq bs bu=>H _ _ ⟨bq,⟨bo,?_⟩,bu⟩
   .rw[r9];have h1:=List.length_filter_le (l6 s f.sc pos v) ((bt f.an).take q);rw[Z3]at h1;omega
   .rw[av,m3 B,Z0,List.map_singleton,bf];exact bs
 .rintro out C a8 ⟨z,⟨g,hm⟩,Q⟩;rw[o9,<-Sr L V aK ac]at hm;refine ck Ω ?_;exact⟨(W.F Z).F z,hm.ls,λq a=>by have:=Q q a;have:=(W.F Z).size;omega⟩
theorem St{j:Int}(h:j0 w eO k d6 s)(e:bc k d6 s)(P:bY s):
  aq x8 Jw [eO,Δ j,Δ pos,Δ v] w λr I=>Ext w I/\r=(match ds s j pos v with|some (f,_,_)=>.tuple #[Δ (eL k s f pos.toNat v),.bool s2]|none=>.tuple #[Δ 0,.bool sp]):=by
 refine aE func137 ?_;refine br λg1 U ax y Q=>?_;have G:=h.box y Q;refine G.load λu hu=>?_;refine(Ss hu e P).Y ?_;rintro _ ab _ ⟨z,fe,rfl⟩;rw[bA,bB,bR];cases ae:ds s j pos v with
 |none=>
  rw[S4,X5,bT];exact⟨y.F z,rfl⟩
 |some q=>
 obtain⟨f,u',x⟩:=q;rw[T8,Y7,bb];obtain⟨R,S,ah,az,A,V⟩:=m8 ae;obtain⟨aB,W,aC,X⟩:=j1 V;obtain⟨j,rfl⟩:=W9 R;obtain⟨pos,rfl⟩:=W9 S;rw[u7]at ah A;have H:=x7 ah;have Y:=(x6.1 A).1;have ac:∀u,f.sc[pos]?=σ u->v∈aY s u:=λu hu=>by
  rw[A]at hu;cases hu;unfold aY;rw[W];exact X
 have J:=G.W z;obtain⟨hv,aD,aG,aH,aI,aK,K,aL,_,aN,aO,aQ,Z,aR⟩:=id J;rw[aP aM.p 0 K rfl];refine J.load λaS aa=>?_;refine(Gc aa e ah Y ac).Y ?_;rintro aX ad _ ⟨L,B,_⟩;rw[ba au.u B];have M:(na s f pos v).length=(cm s f.sc pos v).length:=by unfold na;rw[r9]
 rw[M];refine cp.range (cm s f.sc pos v).length (λi af C=>Ext ad C/\af=Δ ((((cm s f.sc pos v).take i).map (bz f.an f.cs)).foldl min k)) (by rw[<-M];exact B.le) ⟨Ext.refl _,rfl⟩ ?_ ?_
 .rintro i _ C ag hi ⟨a,rfl⟩ ai;obtain⟨tl,E⟩:=aJ (l:=cm s f.sc pos v) hi;obtain⟨m,hm⟩:=rf e H ac (x7 E);have aj:(na s f pos v)[i]?=σ (m:Int):=by
   unfold na;rw[u4,E];unfold p4;rw[Y6,hm];rfl
  obtain⟨ak,aU⟩:=kR e H;have aV:=(x6.1 (ou ak hm)).1;obtain⟨c,N⟩:=aJ (l:=f.cs) (i:=m) Ω;have am:bz f.an f.cs tl=c:=by
   unfold bz;rw[hm];simp[r8,N]
  have O:=L.F a;refine bK Ω ?_;rw[bp au.u al.i Ψ (B.W a) aj,aP aM.p 6 (K.W O) rfl];refine k7 (i:=j) rfl dA.u c5.i (bD Z O) (by rw[u4,ah];rfl) λb o cs ao ap=>?_;obtain⟨aW,a1,v3,rfl,h1,a2,av⟩:=oO ap;rw[aZ c5.p rfl,aZ bd.p rfl,aF Ψ (ao 2 _ rfl),bp aA.u ay.i Ψ (ew av) N];refine E3.Y ?_;rintro _ a6 _ ⟨rfl,aw⟩;rw[aT];refine ai _ _ ⟨a.F aw,?_⟩;rw[u9,E,j4,Z0,List.foldl_append,List.map_singleton,am];rfl
 .rintro _ C ag ⟨a,rfl⟩;rw[o9];refine ck Ω ?_;exact⟨(y.F z).F (L.F a),rfl⟩
theorem vH{a b k:Int}(h1:0<=a/\a<=4294967296)(f:0<=b/\b<=4294967296):aq x8 Jz [Δ a,Δ b,Δ k] w λr I=>r=Δ (cJ k a b)/\Ext w I:=by
 refine aE func140 ?_;refine(show aq x8 Kq [Δ a,Δ b,Δ k] w λr I=>(∃q,r= .tuple #[Δ (cJ k a b),q])/\Ext w I from ?_).Y ?_
 .refine aE func210 ?_;unfold cJ;rw[bl,ao];refine⟨λh=>⟨⟨_,by rw[m3 h]⟩,Ext.refl _⟩,λh=>?_⟩;rw[dm,lm Ω Ω,lL,m5 h];exact⟨⟨_,rfl⟩,Ext.refl _⟩
 .rintro _ U _ ⟨⟨q,rfl⟩,e⟩;rw[bA,bB];exact⟨rfl,e⟩
end
def cB(w:x5)(af ag av:Nat)(A R:aj)(A9:Nat->aj)(aK:aj)(n:aI)(s:am)(t:aB)(h:List aB)(u:am)(I:x5):Prop:=ai (λr=>(∃q,A9 q r)\/r=av) w I/\∃cD cs,ci I af ag av A R cD aK n s u t h cs/\∀q r,cD q r->(∃a,A9 a r)\/w.heap.size<=r
section
variable{w I U ab:x5}{af ag av:Nat}{A R:aj}{A9:Nat->aj}{aK:aj}{n:aI}{s u e6 fe:am}{t:aB}{h:List aB}{cs:List x4}
theorem cB.same(p:ci w af ag av A R A9 aK n s u t h cs)(J:Ext w I):cB w af ag av A R A9 aK n s t h u I:=⟨J.aa _,A9,cs,p.W J,λq r h=>.inl ⟨q,h⟩⟩
theorem cB.comp{cD:Nat->aj}(e:ai (λr=>(∃q,A9 q r)\/r=av) w U)(f:∀q r,cD q r->(∃a,A9 a r)\/w.heap.size<=r)(d:cB U af ag av A R cD aK n s t h fe ab):cB w af ag av A R A9 aK n s t h fe ab:=by
 obtain⟨x,y,bJ,B,C⟩:=d;have z:=e.size;refine⟨?_,y,bJ,B,λq r j=>(C q r j).elim (λ⟨a,h⟩=>f a r h) λh=>.inr Ω⟩;refine((e.Y λr _ h=>.inl h).F (x.Y λr _ h=>?_):ai (λr=>((∃q,A9 q r)\/r=av)\/w.heap.size<=r) w ab).Y λr j h=>h.elim id λh=>Ω
 rcases h with⟨q,h⟩|h
 .exact (f q r h).imp .inl id
 .exact .inl (.inr h)
def kT(w:x5)(af ag av:Nat)(A R:aj)(A9:Nat->aj)(aK:aj)(n:aI)(s:am)(t:aB)(h:List aB)(u:am)(I:x5):Prop:=ai (A9 2) w I/\∃cD cs,ci I af ag av A R cD aK n s u t h cs/\(∀q r,cD q r->(∃a,A9 a r)\/w.heap.size<=r)/\∀r,cD 2 r->A9 2 r\/w.heap.size<=r
theorem kT.zj(d:kT w af ag av A R A9 aK n s t h u I):cB w af ag av A R A9 aK n s t h u I:=by
 obtain⟨h1,cD,cs,a,e,_⟩:=d;exact⟨h1.Y λr _ h=>.inl ⟨2,h⟩,cD,cs,a,e⟩
theorem kT.same(p:ci w af ag av A R A9 aK n s u t h cs)(J:Ext w I):kT w af ag av A R A9 aK n s t h u I:=⟨J.aa _,A9,cs,p.W J,λq r h=>.inl ⟨q,h⟩,λr h=>.inl h⟩
theorem kT.comp{cD:Nat->aj}(f:ai (A9 2) w U)(x:∀q r,cD q r->(∃e,A9 e r)\/w.heap.size<=r)(j:∀r,cD 2 r->A9 2 r\/w.heap.size<=r)(d:kT U af ag av A R cD aK n s t h fe ab):kT w af ag av A R A9 aK n s t h fe ab:=by
 obtain⟨y,B,bJ,C,E,F⟩:=d;have z:=f.size;refine⟨?_,B,bJ,C,λq r a=>(E q r a).elim (λ⟨e,h⟩=>x e r h) λh=>.inr Ω,λr a=>(F r a).elim (j r) λh=>.inr Ω⟩;exact((f.Y λr _ h=>.inl h).F (y.Y λr _ h=>j r h):ai (λr=>A9 2 r\/w.heap.size<=r) w ab).Y λr a h=>h.elim id λh=>Ω
theorem ci.Su{T:aj}{v:x4}{u':am}(p:ci w af ag av A R A9 aK n s u t h cs)(z:∀q r,A9 q r->r<w.heap.size)(ac:cs[5]?=σ v)(e:ai T w I)(f:∀r,r<w.heap.size->T r->A9 2 r)(C:bw (λr=>A9 2 r\/w.heap.size<=r) aK I [v] (u'.d9.map (·.un)))(E:u'.zero=u.zero)(F:u'.d9.map aG=u.d9.map aG)(G:(u'.d9.map λx=>decide (x.gone≠0))=u.d9.map λx=>decide (x.gone≠0))(H:u'.ho=u.ho)(J:u'.eJ=u.eJ):
  ∃cD,ci I af ag av A R cD aK n s u' t h cs/\(∀q r,cD q r->(∃K,A9 K r)\/w.heap.size<=r)/\∀r,cD 2 r->A9 2 r\/w.heap.size<=r:=by
 have L:=bG.lp p.doc (y2 e) (λr a=>.inl (f r a.2 a.1)) C (λj r M a=>?_) (λr a=>?_)
 .have y:=y3 (w:=w) (B:=λr=>A9 2 r\/w.heap.size<=r) λr h=>h;refine⟨_,p.row e f ?_ y,y,λr a=>a⟩;have:=bG.r1 ac L;unfold iw;rw[E,F,G,H,J];exact this
 .rcases a with a|a
  .exact p.ii.1 2 j r (Ne.symm M) a
  .exact λh=>by have:=z j r h;omega
 .rcases a with a|a
  .exact p.ii.2 2 r a
  .exact λh=>by have:=(p.read r h).2.1;omega
theorem s3(p:ci w af ag av A R A9 aK n s u t h cs){i:Nat}{x:bo}(J:u.d9[i]?=σ x):∃g cap y,cs[5]?=σ (.slice (σ ⟨g,0,ν⟩) u.d9.length cap)/\w.cell? ⟨g,i,ν⟩=σ y/\aQ .i64 w y x.un/\
  ∀{I:x5}{v:Nat}{c:Int}{K:Unit->x5->Prop},Ext w I->v<x.un.length->(∀G,kT w af ag av A R A9 aK n s t h (eS u i x (x.un.set v c)) G->K () G)->
   ad x8 (n9 aA y (Δ (v:Int))) I λa=>aL x8 (o7 ay a (Δ c)) I K:=by
 have H:=p.olds;obtain⟨hv,ak,al,am,an,ao,L,_,_,_,M,_,_,B⟩:=id H.doc;obtain⟨g,cap,c,ap,e,S,N,aq,_⟩:=vt M (by rw[u4,J];rfl) λr _ h=>(B rfl).2 2 r h;obtain⟨y,rfl⟩:=X9.1 (aw.len N);have O:w.cell? ⟨g,i,ν⟩=σ y:=by
  have:=S 0 y rfl;simpa[show aw.n (Λ)=1 from rfl]using this
 rw[r9]at e;refine⟨g,cap,y,by rw[L,<-e];rfl,O,ew (jJ N),λ{I v c K}j ac U=>?_⟩;have V:=H.W j;have z:=j.size;obtain⟨au,ax,az,aB,P,W,Q,C,X⟩:=vt (bD M j) (by rw[u4,J];rfl) λr _ h=>(B rfl).2 2 r h;obtain⟨E,rfl⟩:=X9.1 (aw.len Q);rw[r9,e]at P;cases P;have Y:E=y:=by
  have h1:=W 0 E rfl;have h1:I.cell? ⟨g,i,ν⟩=σ E:=by simpa[show aw.n (Λ)=1 from rfl]using h1
  rw[kd j O]at h1;exact(Z5 h1).symm
 subst Y;refine FO rfl rfl aA.u ay.i Q ac rfl rfl (λr _ f=>⟨λh=>h,(B rfl).2 2 r (C r f)⟩) λaC F Z=>?_;have ab:=X F (λr _ h=>h) Z λr f=>f.elim .inl False.elim;obtain⟨cD,ae,ah,ai⟩:=V.Su (u':=eS u i x (x.un.set v c)) (λq r h=>by have:=h.2;omega) (by rw[L];rfl) F (λr _ h=>C r h) (by show bw _ _ _ _ ((u.d9.set i {x with un:=x.un.set v c}).map (·.un));rw[U2];exact ab) rfl (re J (by unfold aG;simp)) (re J rfl) rfl rfl;refine U _ ⟨(j.aa _).F (F.Y λr _ h=>(C r h).1),cD,cs,ae,λq r f=>?_,λr f=>?_⟩
 .rcases ah q r f with⟨aj,h⟩|h
  .exact .inl ⟨aj,h.1⟩
  .exact .inr Ω
 .exact (ai r f).imp (λh=>h.1) λh=>Ω
theorem Gd(p:ci w af ag av A R A9 aK n s u t h cs){f:bP}(ah:u.ho[j]?=σ f):∃g cap C L y,cs[6]?=σ (.slice (σ ⟨g,0,ν⟩) u.ho.length cap)/\w.rangeAt g (j*4) [C,L,y,.bool (decide (f.live≠0))]/\aQ .i64 w C f.sc/\aQ .i64 w y f.cs/\
  ∀{I:x5}{m:Nat}{c:Int}{K:Unit->x5->Prop},Ext w I->m<f.cs.length->(∀N,cB w af ag av A R A9 aK n s t h (en u j f (f.cs.set m c)) N->K () N)->
   ad x8 (n9 aA y (Δ (m:Int))) I λa=>aL x8 (o7 ay a (Δ c)) I K:=by
 have O:=p.olds;obtain⟨hv,au,ax,az,aB,aC,P,_,_,_,_,Q,_,E⟩:=id O.doc;obtain⟨g,cap,c,aD,e,F,V,aE,_⟩:=vt Q (by rw[u4,ah];rfl) λr _ h=>(E rfl).2 3 r h;have W:=oO V;obtain⟨C,L,y,rfl,X,aF,Y⟩:=W;rw[r9]at e;have F:=F;refine⟨g,cap,C,L,y,by rw[P,<-e];rfl,F,ew X,ew Y,λ{I m c K}x hm Z=>?_⟩;have ab:=O.W x;have z:=x.size;obtain⟨aG,aH,aI,aJ,S,M,ac,G,ae⟩:=vt (bD Q x) (by rw[u4,ah];rfl) λr _ h=>(E rfl).2 3 r h;rw[r9,e]at S;cases S;obtain⟨aM,aN,U,aO,rfl,ai,H,aj⟩:=RZ ac λr h=>(E rfl).2 3 r (G r h);have M:=M;have ak:U=y:=by
  have h1:=M 2 U rfl;rw[(pm x F) 2 y rfl]at h1;exact(Z5 h1).symm
 subst ak;refine FO rfl rfl aA.u ay.i ai hm rfl rfl (λr _ B=>⟨λh=>h,(E rfl).2 3 r (G r (H r B))⟩) λaP J al=>?_;have am:=aj J (aw.Y al (λr _ h=>h.elim id False.elim) λ_ _ h=>h);have an:=ae J (λr _ h=>H r h) am λr B=>.inl B;obtain⟨cD,ao,ap⟩:=ab.RX (u':=en u j f (f.cs.set m c)) (λq r h=>by have:=h.2;omega) (by rw[P];rfl) J (λr _ h=>G r (H r h)) (by show bw _ _ _ _ ((u.ho.set j {f with cs:=f.cs.set m c}).map jZ);rw[U2];exact an) rfl rfl rfl;refine Z _ ⟨(x.aa _).F (J.Y λr _ h=>.inl ⟨3,(G r (H r h)).1⟩),cD,cs,ao,λq r B=>?_⟩;rcases ap q r B with⟨aq,h⟩|h
 .exact .inl ⟨aq,h.1⟩
 .exact .inr Ω
theorem Ge(p:ci w af ag av A R A9 aK n s u t h cs){K:Unit->x5->Prop}(f:∀e,cB w af ag av A R A9 aK n s t h {u with zero:=c} e->K () e):aL x8 (o7 ay (.pointer (σ ⟨av,0+2,ν⟩)) (Δ c)) w K:=by
 refine bs (o:=0+2) ay.i rfl rfl p.box (by rw[p.doc.len.1];omega) λab a x j=>?_;refine f _ ⟨a.Y λr _ h=>.inr h,A9,_,p.FQ a (λr _ h=>.inr h) j ?_ λq r h=>.inl ⟨q,h⟩,λq r h=>.inl ⟨q,h⟩⟩;exact(bG.aa p.doc a λr _ h he=>h.elim (λ⟨q,h⟩=>(p.apart q r h).2.2 he) λh=>(p.read r h).2.2 he).RC
theorem Gf(p:ci w af ag av A R A9 aK n s u t h cs){i:Nat}{x:bo}(J:u.d9[i]?=σ x):∃g cap y,cs[3]?=σ (.slice (σ ⟨g,0,ν⟩) u.d9.length cap)/\w.cell? ⟨g,i,ν⟩=σ y/\aQ .i64 w y (aG x)/\(∀r,lc y r->A9 0 r)/\
  ∀{I:x5}{m:Int}{z:x4}{gz:Nat}{K:Unit->x5->Prop},Ext w I->aH .i64 al I gz z (aG {x with mask:=m})->(∀r,lc z r->w.heap.size<=r)->(∀H,cB w af ag av A R A9 aK n s t h {u with d9:=u.d9.set i {x with mask:=m}} H->K () H)->
   ad x8 (n9 cq (.slice (σ ⟨g,0,ν⟩) u.d9.length cap) (Δ (i:Int))) I λa=>aL x8 (o7 au a z) I K:=by
 have L:=p.olds;have X:=(x6.1 J).1;obtain⟨hv,Y,aC,aD,aE,aF,M,_,Z,_,_,_,_,ab⟩:=id L.doc;obtain⟨g,cap,full,ac,c,aI,e,B,ae,C,N,E,ah,aJ,aj⟩:=FR Z (by rw[u4,J];rfl) λr _ h=>(ab rfl).2 0 r h;obtain⟨y,rfl⟩:=X9.1 (aw.len E);rw[r9]at e;have am:full[i]?=σ y:=by have:=N 0 y rfl;simpa[show aw.n (Λ)=1 from rfl]using this
 refine⟨g,cap,y,by rw[M,<-e];rfl,by have:=B.cell am;exact this,ew (jJ E),λr f=>?_,λ{I m O gz K}F P Q an=>?_⟩
 .obtain⟨aM,aN,ao,ap⟩:=BJ E;rcases ap with rfl|aq
  .obtain⟨_,_,_,e,_⟩:=f;cases e
  .obtain⟨e,_⟩:=ca ao f;rw[e];exact(ah _ aq).1
 have z:=F.size;have C:i*1+1<=full.length:=C;rw[e2 cq.u au.i X λ_=>rfl];obtain⟨_,_,_,S⟩:=dr P.ls;refine bs (o:=0+i*1) au.i (by rw[S];rfl) (by rw[S];rfl) (B.W F) Ω λU V aO j=>?_;have j:ak U g ac (over full (i*1) [O]):=by
  have e:=FS (o:=i*1) (q:=0) (x:=O) N C Ξ;rw[V0]at j;rw[Nat.add_zero]at e;rw[e]at j;exact j
 have aP:g<w.heap.size:=B.lt;have G:ai (λr=>r=g) w U:=(F.aa _).F V;have ax:=bE P V λr f he=>by have he:r=g:=he;have:=Q r f;omega
 have ay:=aj G (λr _ h=>.inr h) j (oN ax) λr f=>.inr (Q r f);have W:∀r,r<w.heap.size->r=g->A9 0 r/\r<w.heap.size:=λr f h=>by rw[h];exact ae
 obtain⟨cD,az,aA⟩:=L.p3 (u':={u with d9:=u.d9.set i {x with mask:=m}}) (λq r h=>h.2) (v:=Y) (by rw[M];rfl) G W (by show bw _ _ _ _ ((u.d9.set i {x with mask:=m}).map aG);rw[U2];exact ay) rfl (re J rfl) (re J rfl) rfl rfl;refine an _ ⟨G.Y λr f h=>.inl ⟨0,(W r f h).1⟩,cD,cs,az,λq r f=>?_⟩;rcases aA q r f with⟨aB,h⟩|h
 .exact .inl ⟨aB,h.1⟩
 .exact .inr h
end
def gl(s:am)(sc:Λ)(pos:Int)(v:Int):Nat->Nat->Λ->List (Λ)
 |0,_,tl=>[tl]
 |m+1,p,tl=>if(p:Int)=pos then gl s sc pos v m (p+1) (tl.set p v)else(aY s (sc.getD p 0)).flatMap λx=>gl s sc pos v m (p+1) (tl.set p x)
theorem vI{α:Type}{l:List α}{p:Nat}{x:α}(h:p<l.length):(l.set p x).take (p+1)=l.take p++[x]:=by
 grind [u9,List.take_set_of_le]
theorem vJ{s:am}{sc:Λ}{pos:Nat}{v:Int}:∀(m p:Nat)(tl:Λ),sc.length=p+m->tl.length=sc.length->gl s sc pos v m p tl=(iL (kt s pos v (sc.drop p) p)).map (tl.take p++ ·)
 |0,p,tl,h1,e=>by
  grind [gl,kt,iL]
 |m+1,p,tl,h1,e=>by
  have ae:p<sc.length:=Ω
  obtain⟨u,hu⟩:=aJ (l:=sc) ae;have f:sc.drop p=u::sc.drop (p+1):=by grind [X2]
  have h:sc.getD p 0=u:=by grind
  rw[f];unfold gl kt;rw[iL];by_cases a:p=pos
  .rw[m3 Ω,m3 a,List.flatMap_singleton,vJ m (p+1) (tl.set p v) Ω (by grind),T6,vI Ω]
   grind [List.map_congr_left]
  .rw[m5 Ω,m5 a,h,List.map_flatMap];congr 1;funext x;rw[vJ m (p+1) (tl.set p x) Ω (by grind),T6,vI Ω]
   grind [List.map_congr_left]
theorem Sv{s:am}{pos:Nat}{m p:Nat}(h1:sc.length=p+m)(e:tl.length=sc.length)(f:a.length=sc.length)(h:a.take p=tl.take p):gl s sc pos v m p a=gl s sc pos v m p tl:=by
 grind [vJ]
theorem Sw{s:am}{pos:Nat}(h:tl.length=sc.length):gl s sc pos v sc.length 0 tl=cm s sc pos v:=by
 rw[vJ sc.length 0 tl Ω h];unfold cm;simp
def oS(w:x5)(af gs bZ bf bi:Nat)(a1:x4)(pos v:Int):Prop:=ak w gs eD [Γ af]/\ak w bZ au [a1]/\ak w bf al [Δ pos]/\ak w bi al [Δ v]
theorem oS.aa{S:aj}{gs bZ bf bi:Nat}{a1:x4}(h:oS w af gs bZ bf bi a1 pos v)(a:ai S w I)(e:¬S gs/\¬S bZ/\¬S bf/\¬S bi):oS I af gs bZ bf bi a1 pos v:=
 ⟨h.1.aa a e.1,h.2.1.aa a e.2.1,h.2.2.1.aa a e.2.2.1,h.2.2.2.aa a e.2.2.2⟩
theorem oS.W{gs bZ bf bi:Nat}{a1:x4}(h:oS w af gs bZ bf bi a1 pos v)(J:Ext w I):oS I af gs bZ bf bi a1 pos v:=h.aa (J.aa λ_=>False) (by grind)
def gK(af ag:Nat)(R:aj)(n:aI)(s:am)(gs bZ bf bi:Nat)(a1:x4)(sc:Λ)(pos v:Int)(B0:Nat)(D:Nat->Prop)(w:x5):Prop:=
 oS w af gs bZ bf bi a1 pos v/\(gs<B0/\bZ<B0/\bf<B0/\bi<B0)/\aQ .i64 w a1 sc/\(∀r,lc a1 r->r<B0)/\(Laid w/\B0<=w.heap.size)/\∃A s' bu,bC w af ag A R n s' bu/\(∀i,aY s' i=aY s i)/\∀r,A r\/R r->r<B0\/D r
section
variable{af ag gs bZ bf bi B0:Nat}{R:aj}{n:aI}{s:am}{a1:x4}{sc:Λ}{pos v:Int}
theorem gK.W(h:gK af ag R n s gs bZ bf bi a1 sc pos v B0 D w)(J:Ext w I):gK af ag R n s gs bZ bf bi a1 sc pos v B0 D I:=by
 obtain⟨h1,e,f,j,a,A,s',bu,q,r,x⟩:=h;exact⟨h1.W J,e,f.W J,j,⟨a.1.W J,X0 a.2 J.size⟩,A,s',bu,q.W J,r,x⟩
def lx(w:x5)(l gy gt gtb ga:Nat)(iN:Array x4)(q:Nat)(tl:Λ):Prop:=ak w gy Bq [.func (.yield l) #[] #[]]/\ak w gtb au [.slice (σ ⟨gt,0,ν⟩) q q]/\ak w ga qq [.func (.func ph) #[] iN]/\
 aH .i64 al w gt (.slice (σ ⟨gt,0,ν⟩) q q) tl
theorem lx.aa{S:aj}{l q:Nat}{iN:Array x4}(h:lx w l gy gt gtb ga iN q tl)(f:ai S w I)(j:¬S gy/\¬S gtb/\¬S ga/\¬S gt):lx I l gy gt gtb ga iN q tl:=
 ⟨h.1.aa f j.1,h.2.1.aa f j.2.1,h.2.2.1.aa f j.2.2.1,bE h.2.2.2 f λr s=>by
  obtain⟨a,_,_,e,x⟩:=s
  grind⟩
theorem lx.W{l q:Nat}{iN:Array x4}(h:lx w l gy gt gtb ga iN q tl)(J:Ext w I):lx I l gy gt gtb ga iN q tl:=h.aa (J.aa λ_=>False) (by grind)
theorem Sx(V:aQ .i64 w a1 sc):aq x8 Bg [Γ af,a1,Δ pos,Δ v] w λr I=>Ext w I/\∃gs bZ bf bi,r= .func (.func nw) #[] #[Γ bZ,Γ bf,Γ bi,Γ gs]/\oS I af gs bZ bf bi a1 pos v/\w.heap.size<=gs/\w.heap.size<=bZ/\w.heap.size<=bf/\w.heap.size<=bi:=by
 obtain⟨_,_,_,y⟩:=dr V;refine aE func212 ?_;refine br λgs U A s h=>?_;refine br λbZ ab B j a=>?_;refine br λbf C E e q=>?_;refine br λbi x G f z=>?_;have h:ak x gs eD [Γ af]:=((ak.W h j).W e).W f;have a:ak x bZ au [a1]:=by rw[y]at a ⊢;exact(ak.W a e).W f
 have q:=ak.W q f;rw[lM];have H:=s.size;have J:=j.size;have z3:=e.size;exact⟨((s.F j).F e).F f,gs,bZ,bf,bi,rfl,⟨h,a,q,z⟩,Ω,Ω,Ω,Ω⟩
theorem gK.own{S:aj}(h:gK af ag R n s gs bZ bf bi a1 sc pos v B0 D w)(f:ai S w I)(G:∀r,S r->B0<=r/\¬D r):gK af ag R n s gs bZ bf bi a1 sc pos v B0 D I:=by
 obtain⟨h1,z,B,j,q,A,s',bu,x,C,E⟩:=h;have no:∀{r:Nat},r<B0->¬S r:=by grind
 refine⟨h1.aa f (by grind),z,jm B f λr y a n c e F=>?_,j,⟨?_,X0 q.2 f.size⟩,A,s',bu,⟨x.1.aa f λr _ y V=>?_,x.2⟩,C,E⟩
 .exact no (j r ⟨a,n,c,e,F⟩) y
 .exact iz f (no Ω) q.1
 grind
def Sy(P:(Nat->Prop)->x5->Prop)(az:(Nat->Prop)->Nat->x5->Prop)(L:List (Λ))(l B:Nat):Prop:=∀(D:Nat->Prop)(k:Nat)tl aX I,(∀r,D r->B<=r/\r<I.heap.size)->B<=I.heap.size->P D I->L[k]?=σ tl->aQ .i64 I aX tl->az D k I->
 je x8 l [aX] I λu a=>u= .bool s2/\(∃D',(∀r,D' r->D r\/I.heap.size<=r/\r<a.heap.size)/\(∀r,D r->D' r)/\P D' a/\az D' (k+1) a)/\cS I a/\I.heap.size<=a.heap.size/\ai (λr=>r<B\/D r) I a
def s4(D:Nat->Prop)(B gy gtb ga gt:Nat):Prop:=(B<=gy/\¬D gy)/\(B<=gtb/\¬D gtb)/\(B<=ga/\¬D ga)/\B<=gt/\¬D gt
theorem s4.go{D':Nat->Prop}{m bV:Nat}(h:s4 D B gy gtb ga gt)(a:∀r,D' r->D r\/m<=r/\r<bV)(hm:gy<m/\gtb<m/\ga<m/\gt<m):s4 D' B gy gtb ga gt:=
 have f:∀{g:Nat},g<m->¬D g->¬D' g:=by grind
 ⟨⟨h.1.1,f hm.1 h.1.2⟩,⟨h.2.1.1,f hm.2.1 h.2.1.2⟩,⟨h.2.2.1.1,f hm.2.2.1 h.2.2.1.2⟩,h.2.2.2.1,f hm.2.2.2 h.2.2.2.2⟩
theorem lx.lt{l q:Nat}{iN:Array x4}(h:lx w l gy gt gtb ga iN q tl):gy<w.heap.size/\gtb<w.heap.size/\ga<w.heap.size/\gt<w.heap.size:=
 ⟨h.1.lt,h.2.1.lt,h.2.2.1.lt,(ca h.2.2.2 ⟨_,_,_,rfl,rfl⟩).2⟩
def AtR(l gy gt gtb ga:Nat)(iN:Array x4)(P:(Nat->Prop)->x5->Prop)(az:(Nat->Prop)->Nat->x5->Prop)(S:aj)(D:Nat->Prop)(w:x5)(sl k p:Nat)(tl:Λ)(I:x5):Prop:=
 w.heap.size<=I.heap.size/\∃D' a,a.length=sl/\a.take p=tl.take p/\lx I l gy gt gtb ga iN sl a/\((∀r,D' r->D r\/w.heap.size<=r/\r<I.heap.size)/\∀r,D r->D' r)/\P D' I/\az D' k I/\ai S w I
section
variable{l gy gt gtb ga B:Nat}{iN:Array x4}{P:(Nat->Prop)->x5->Prop}{az:(Nat->Prop)->Nat->x5->Prop}{S T:aj}{D:Nat->Prop}{w U ab:x5}{sl k p:Nat}{tl:Λ}
theorem AtR.own(A:∀D T U ab,ai T U ab->(∀r,T r->B<=r/\¬D r)->P D U->P D ab)(e:∀D k U ab,ai (λr=>B<=r/\¬D r) U ab->fX B U ab->az D k U->az D k ab)(h:AtR l gy gt gtb ga iN P az S D w sl k p tl U)(a:ai T U ab)(f:fX B U ab)(C:∀r,T r->r<w.heap.size/\¬D r/\B<=r/\S r/\r≠gy/\r≠gtb/\r≠ga/\r≠gt):AtR l gy gt gtb ga iN P az S D w sl k p tl ab:=by
 obtain⟨j,D',q,h1,s,x,⟨E,F⟩,G,y,z⟩:=h;have H:∀r,T r->B<=r/\¬D' r:=by grind
 exact⟨X0 j a.size,D',q,h1,s,x.aa a (by grind),
  by grind [Nat.lt_of_lt_of_le,ai.size],by grind,e D' k U ab (a.Y (by grind)) f y,z.F (a.Y (by grind))⟩
theorem AtR.base{w0:x5}(h:AtR l gy gt gtb ga iN P az S D w sl k p tl U)(J:Ext w0 w)(a:∀r,r<w0.heap.size->S r->T r):AtR l gy gt gtb ga iN P az T D w0 sl k p tl U:=by
 obtain⟨e,D',f,h1,j,q,⟨s,x⟩,y,z,A⟩:=h;exact⟨X0 J.size e,D',f,h1,j,q,⟨λr B=>(s r B).imp id λh=>⟨X0 J.size h.1,h.2⟩,x⟩,y,z,((J.aa S).F A).Y a⟩
theorem AtR.comp{a:Nat->Prop}{e:Λ}{x:Int}(E:∀r,r<B\/D r\/r=gt->S r)(F:∀r,a r->D r\/w.heap.size<=r/\r<U.heap.size)(G:∀r,D r->a r)(f:ai S w U)(H:e.take p=tl.take p)(h:AtR l gy gt gtb ga iN P az (λr=>r<B\/a r\/r=gt) a U sl k (p+1) (e.set p x) ab):AtR l gy gt gtb ga iN P az S D w sl k p tl ab:=by
 obtain⟨j,D',q,h1,s,y,⟨I,J⟩,z,A,C⟩:=h;have V:=f.size;refine⟨X0 V j,D',q,h1,?_,y,⟨λr K=>?_,by grind⟩,z,A,?_⟩
 .have:=congrArg (List.take p) s
  grind [List.take_set_of_le]
 .grind
 .refine ((f.Y (by grind)).F (C.Y λr _ h=>?_):ai (λr=>S r\/w.heap.size<=r) w ab).Y (by grind)
  grind
end
theorem Sz{α β:Type}{l:List α}{a:α->List β}{i:Nat}{y:α}{z:β}(h:l[j]?=σ y)(hi:(a y)[i]?=σ z):(l.flatMap a)[((l.take j).flatMap a).length+i]?=σ z:=by
 have q:=(x6.1 h).1;have e:l=l.take j++y::l.drop (j+1):=by
  grind [List.take_append_drop,X2]
 conv=>lhs;rw[e,List.flatMap_append,T0]
 have f:=(x6.1 hi).1;have el:((l.take j++y::l.drop (j+1)).take j)=l.take j:=by grind
 rw[el,X3 Ω,Nat.add_sub_cancel_left,V9 f];exact hi
theorem SA{t:o4}{b o:Nat}{x:x4}{K:x4->Prop}(a:k3 x8 t=s2)(h:w.cell? ⟨b,o,ν⟩=σ x):ad x8 (do loadVar t (<-asAddr (.pointer (σ ⟨b,o,ν⟩)))) w K=K x:=ad.of λI J=>by
 have be:=kd J h;unfold k3 at a;cases hu:x8.underlying t with
 |none=>grind
 |some d=>
  rw[hu]at a;cases d<;>first|(cases a;done)|simp[asAddr,loadVar,isAgg,run_underlying hu,be]
def nb(bZ gy gtb bf bi ga gs:Nat):Array x4:=#[Γ bZ,Γ gy,Γ gtb,Γ bf,Γ bi,Γ ga,Γ gs]
def vK(p:Nat)(bZ gy gtb bf bi ga gs:Nat):List x4:=[Δ (p:Int),Γ bZ,Γ gy,Γ gtb,Γ bf,Γ bi,Γ ga,Γ gs]
theorem SB{l:Nat}{L:List (Λ)}{az:(Nat->Prop)->Nat->x5->Prop}(bQ:0<=pos)(bS:∀u∈sc,0<=u/\u<n.d6.length)(cV:sc.length<=6)(cW:B0<=B)(cX:gt≠gy/\gt≠gtb/\gt≠ga)(O:∀D k U ab,ai (λr=>B<=r/\¬D r) U ab->fX B U ab->az D k U->az D k ab)(bT:Sy (gK af ag R n s gs bZ bf bi a1 sc pos v B0) az L l B):
  ∀(q p:Nat)(tl:Λ)(k:Nat)(D:Nat->Prop)(w:x5),sc.length=p+q->tl.length=sc.length->(∀r,D r->B<=r/\r<w.heap.size)->B<=w.heap.size->s4 D B gy gtb ga gt->lx w l gy gt gtb ga (nb bZ gy gtb bf bi ga gs) sc.length tl->gK af ag R n s gs bZ bf bi a1 sc pos v B0 D w->az D k w->
   (∀i x,(gl s sc pos v q p tl)[i]?=σ x->L[k+i]?=σ x)->
   aq x8 ph (vK p bZ gy gtb bf bi ga gs) w λr I=>r= .bool s2/\AtR l gy gt gtb ga (nb bZ gy gtb bf bi ga gs) (gK af ag R n s gs bZ bf bi a1 sc pos v B0) az (λr=>r<B\/D r\/r=gt) D w sc.length (k+(gl s sc pos v q p tl).length) p tl I:=by
 obtain⟨eK,rfl⟩:=W9 bQ;have Y:∀D T U ab,ai T U ab->(∀r,T r->B<=r/\¬D r)->gK af ag R n s gs bZ bf bi a1 sc eK v B0 D U->gK af ag R n s gs bZ bf bi a1 sc eK v B0 D ab:=λD T U ab aM cY h=>h.own aM (by grind);have aN:∀{H:x5}{K:x4->Prop},ak H bZ au [a1]->K a1->ad x8 (u5 au (Γ bZ)) H K:=λaO aP=>by rw[aF Ψ (aO.cell rfl)];exact aP
 have aQ:∀{aR p:Nat}{tl:Λ}{D:Nat->Prop}{w ab H:x5}{a:Nat}{b:Bool},Ext w ab->w.heap.size<=a->a<ab.heap.size->(∀r,D r->B<=r/\r<w.heap.size)->B<=w.heap.size->(gy<w.heap.size/\gtb<w.heap.size/\ga<w.heap.size/\gt<w.heap.size)->
   AtR l gy gt gtb ga (nb bZ gy gtb bf bi ga gs) (gK af ag R n s gs bZ bf bi a1 sc eK v B0) az (λr=>r<B\/D r\/r=gt\/r=a) D ab sc.length aR p tl H->ak H a eg [.bool b]->
   aL x8 (o7 eg (Γ a) (.bool s2)) H λ(_:Unit)aS=>ad x8 (do loadVar eg (<-asAddr (Γ a))) aS λr=>wn w.heap.size aS λbe=>r= .bool s2/\AtR l gy gt gtb ga (nb bZ gy gtb bf bi ga gs) (gK af ag R n s gs bZ bf bi a1 sc eK v B0) az (λr=>r<B\/D r\/r=gt) D w sc.length aR p tl be:=by
  intro aR p tl D w ab H a b z bg ae S Z ah aU aV;have bU:∀r,r=a->r<ab.heap.size/\¬D r/\B<=r/\(r<B\/D r\/r=gt\/r=a)/\r≠gy/\r≠gtb/\r≠ga/\r≠gt:=by
   grind
  refine aL.cQ (bs eg.i rfl rfl aV Ξ λaS bV cZ aW bW=>?_);have aW:=aW;have bX:=aU.own Y O bV bW.o bU;rw[SA Ψ (aW.cell rfl)];intro be bY b0;refine⟨rfl,((bX.own Y O (bY.aa λ_=>False) (b0.2.Y Z) λ_ h=>h.elim).base z λr aj h=>?_)⟩
  grind
 intro q;induction q with
 |zero=>
  intro p tl k D w b1 ay S Z E am aX aZ an;refine jh func268 ?_;refine aL.cQ (br λg1 U b2 ap f a2=>?_);refine aL.cQ (bF eg.i λa ab bg V M a6=>?_);have z:=ap.F V;have b3:=ap.size;have b4:=V.size;have f:=ak.W f V;have M:=M;have ae:=M.lt;have aA:=O D k w ab (z.aa _) (a2.F a6).o aZ;have G:=aX.W z;have C:=am.W z;rw[aF Ψ (f.cell rfl)];refine aN G.1.2.1 ?_;rw[ba au.u G.2.2.1,bl,ao];refine⟨λ_=>?_,λh=>m6 Ω h⟩;rw[aF Ψ (C.1.cell rfl),aF Ψ (C.2.1.cell rfl)];have b5:=an 0 tl rfl;refine(show je x8 l [.slice (σ ⟨gt,0,ν⟩) sc.length sc.length] ab _ from je.Y (bT D k tl _ ab (by grind) Ω G b5 C.2.2.2.ls aA) ?_);rintro _ b6 ⟨rfl,⟨D',d1,d2,b7,b8⟩,b9,ca,a7⟩;refine⟨b9,?_⟩;have ah:=am.lt;have bh:∀{g:Nat},w.heap.size<=g->¬D g:=by grind
  have aB:∀{g:Nat},B<=g->¬D g->¬(g<B\/D g):=by grind
  have aV:=M.aa a7 (by grind);have aU:AtR l gy gt gtb ga (nb bZ gy gtb bf bi ga gs) (gK af ag R n s gs bZ bf bi a1 sc eK v B0) az (λr=>r<B\/D r\/r=gt\/r=a) D ab sc.length (k+1) p tl b6:=
   ⟨ca,D',tl,ay,rfl,C.aa a7 ⟨aB E.1.1 E.1.2,aB E.2.1.1 E.2.1.2,aB E.2.2.1.1 E.2.2.1.2,aB E.2.2.2.1 E.2.2.2.2⟩,⟨d1,d2⟩,b7,b8,a7.Y (by grind)⟩
  exact aQ z Ω ae S Z ah aU aV
 |succ q bj=>
  intro p tl k D w b1 ay S Z E am aX aZ an;refine jh func268 ?_;refine aL.cQ (br λg1 U b2 ap f a2=>?_);refine aL.cQ (bF eg.i λa ab bg V M a6=>?_);have z:=ap.F V;have b3:=ap.size;have b4:=V.size;have f:=ak.W f V;have M:=M;have ae:=M.lt;have h1:=f.lt;have aA:=O D k w ab (z.aa _) (a2.F a6).o aZ;have G:=aX.W z;have C:=am.W z;have ah:=am.lt;have bh:∀{g:Nat},w.heap.size<=g->¬D g:=by grind
  rw[aF Ψ (f.cell rfl)];refine aN G.1.2.1 ?_;rw[ba au.u G.2.2.1,bl,ao];refine⟨λh=>m6 h Ω,λ_=>?_⟩;rw[aF Ψ (f.cell rfl),aF Ψ (G.1.2.2.1.cell rfl),bl,ao];have bk:∀{H:x5}{K:x4->Prop},ak H gtb au [.slice (σ ⟨gt,0,ν⟩) sc.length sc.length]->K (.slice (σ ⟨gt,0,ν⟩) sc.length sc.length)->ad x8 (u5 au (Γ gtb)) H K:=λaO aP=>by rw[aF Ψ (aO.cell rfl)];exact aP
  have bm:∀{D:Nat->Prop}(r:Nat),s4 D B gy gtb ga gt->r=gt->B<=r/\¬D r:=λr h e=>e▸⟨h.2.2.2.1,h.2.2.2.2⟩;refine⟨λhe=>?_,λcb=>?_⟩
  .refine bk C.2.1 ?_;rw[aF Ψ (f.cell rfl),aF Ψ (G.1.2.2.2.cell rfl),jk rfl au.u al.i C.2.2.2 Ω];refine aL.cQ (jl al.i C.2.2.2 Ω λaC Q c0 cc cd=>?_);have bn:lx aC l gy gt gtb ga (nb bZ gy gtb bf bi ga gs) sc.length (tl.set p v):=⟨C.1.aa Q Ω,C.2.1.aa Q Ω,C.2.2.1.aa Q Ω,cc⟩;have ce:=Y D _ _ _ Q (by grind) G;have cf:=O D k ab aC (Q.Y (by grind)) cd.o aA;have cg:=f.aa Q Ω;have ch:=M.aa Q Ω;rw[aF Ψ (bn.2.2.1.cell rfl),aF Ψ (cg.cell rfl),aT,lm Ω Ω];have hw:gl s sc eK v (q+1) p tl=gl s sc eK v q (p+1) (tl.set p v):=by rw[gl,m3 he]
   rw[hw];rw[hw]at an;refine(show aq x8 ph (vK (p+1) bZ gy gtb bf bi ga gs) aC _ from aq.Y (bj (p+1) (tl.set p v) k D aC Ω (by grind) (by grind) Ω E bn ce cf an) ?_);rintro _ ci c1 ⟨rfl,bo⟩;have cj:ak ci a eg [.bool sp]:=by
    obtain⟨_,_,_,_,_,_,_,_,_,ck⟩:=bo;exact ch.aa ck (by grind)
   exact aQ z Ω ae S Z ah (AtR.comp (by grind) (by grind) (λ_ h=>h) (Q.Y Ω) rfl bo) cj
  intro c2 aD _ cl;have aE:=G.W aD;obtain⟨A,s',bu,bq,cm,c3⟩:=id aE.2.2.2.2.2;obtain⟨u,hu⟩:=aJ (l:=sc) (i:=p) Ω;obtain⟨cn,c4⟩:=bS u (x7 hu);have c5:=bq.2.2.2.1.d9;obtain⟨x,bt⟩:=aJ (l:=s'.d9) (i:=u.toNat) Ω;rw[aF Ψ (aE.1.1.cell rfl)];refine aN aE.1.2.1 ?_;rw[aF Ψ ((f.W aD).cell rfl),bp au.u al.i Ψ aE.2.2.1 hu];refine(jv (i:=u) bq).Y ?_;rintro _ c6 cp ⟨⟨b,c7,rfl,bw⟩,bx⟩;refine(mE).Y ?_;rintro _ aH cq ⟨cr,bz,rfl,c8,bA⟩;have bB:=lr bw cn bt;have ct:aY s (sc.getD p 0)=aG x:=by
   rw[<-cm,r8,hu,Option.getD_some];unfold aY;rw[bt]
  have bC:gl s sc eK v (q+1) p tl=(aG x).flatMap λy=>gl s sc eK v q (p+1) (tl.set p y):=by rw[gl,m5 cb,ct]
  have W:=(aD.F bx).F cr;have cu:=(cl.F cp).F cq;have z12:=W.size;have c9:=(aD.F bx).size;have da:=bA.lt;have bD:B<=aH.heap.size:=Ω
  have cw:=O D k ab aH (W.aa _) cu.o aA;have bE:=G.W W;have bG:=C.W W;refine⟨Nat,sp,sp,jG,#[Γ bz],0,_,_,λ_=>_,λ_ j I=>AtR l gy gt gtb ga (nb bZ gy gtb bf bi ga gs) (gK af ag R n s gs bZ bf bi a1 sc eK v B0) az (λr=>r<B\/D r\/r=gt) D aH sc.length (k+(((aG x).take j).flatMap λy=>gl s sc eK v q (p+1) (tl.set p y)).length) p tl I/\ak I g1 al [Δ (p:Int)]/\ak I a eg [.bool sp],
   λ_ _ _ _=>False,rfl,(mD (g:=bz) bw.1).s.x,?_,λ_ _ _ J h=>⟨h.1.W J,h.2.W J⟩,?_,by grind,⟨bA,bE.2.2.2.2.1.1⟩,?_,?_,?_,λ_ _ _ h=>h.elim,by grind⟩
  .rintro _ _ _ _ ⟨_,_,_,_,rfl⟩;rfl
  .rintro _ j db dc aM cz ⟨X,av,N⟩;have J:=aM.W (by grind);exact⟨X.own Y O (J.aa λ_=>False) (cz.Y bD) λ_ h=>h.elim,av.W J,N.W J⟩
  .exact⟨⟨o6 _,D,tl,ay,rfl,bG,⟨by grind,λ_ h=>h⟩,bE,by simpa using cw,ai.refl _ _⟩,f.W W,M.W W⟩
  .rintro _ _ j _ dd _ _ ⟨cA,de⟩ ⟨df,rfl,y,cB,cC⟩ ⟨cD,bH,cE⟩;cases cC;intro bI aw cF _;have bJ:(aG x)[j]?=σ (y:Int):=by rw[<-bB,u4,cB];rfl
   have cG:=cD.own Y O (aw.aa λ_=>False) (cF.2.Y bD) λ_ h=>h.elim;obtain⟨dg,ax,aI,X,av,N,⟨aK,cH⟩,cI,cJ,cK⟩:=cG;have cL:=bG.lt;have bc:=E.go aK cL;have bK:∀r,ax r->B<=r/\r<bI.heap.size:=λr aj=>(aK r aj).elim (λh=>⟨(S r h).1,by have:=(S r h).2;omega⟩) Ω;refine bk N.2.1 ?_;rw[aF Ψ ((bH.W aw).cell rfl),jk rfl au.u al.i N.2.2.2 Ω];refine aL.cQ (jl al.i N.2.2.2 Ω λac P dh cM cN=>?_);have bL:lx ac l gy gt gtb ga (nb bZ gy gtb bf bi ga gs) sc.length (aI.set p y):=⟨N.1.aa P Ω,N.2.1.aa P Ω,N.2.2.1.aa P Ω,cM⟩;have cO:=Y ax _ _ _ P (λr h=>bm r bc h) cI;have cP:=O ax _ bI ac (P.Y λr _ h=>bm r bc h) cN.o cJ;have bM:ak ac g1 al [Δ (p:Int)]:=(bH.W aw).aa P Ω;have cR:ak ac a eg [.bool sp]:=(cE.W aw).aa P Ω;have cS:=(cA.W aw).aa P Ω;rw[aF Ψ (bL.2.2.1.cell rfl),aF Ψ (bM.cell rfl),aT,lm Ω Ω];have bN:gl s sc eK v q (p+1) (aI.set p (y:Int))=gl s sc eK v q (p+1) (tl.set p (y:Int)):=Sv Ω (by rw[Y0];exact ay) (by rw[Y0];exact X) (by rw[vI Ω,vI Ω,av]);refine(show aq x8 ph (vK (p+1) bZ gy gtb bf bi ga gs) ac _ from aq.Y (bj (p+1) (aI.set p y) _ ax ac Ω (by rw[Y0];exact X) (λr aj=>⟨(bK r aj).1,by have:=(bK r aj).2;omega⟩) Ω bc bL cO cP λi di hi=>?_) ?_)
   .rw[bN]at hi;rw[Nat.add_assoc];refine an _ _ ?_;rw[bC];exact Sz bJ hi
   rintro _ dj dk ⟨rfl,bO⟩;rw[bR,Y7,bb];have bP:=AtR.comp (λr h=>h) (λr h=>(aK r h).imp id Ω) cH (cK.F (P.Y Ω)) av bO;obtain⟨_,_,_,_,_,_,_,cT,_,bd⟩:=bO;have a8:∀{g:Nat},w.heap.size<=g->g<aH.heap.size->¬(g<B\/ax g\/g=gt):=λcU dl h=>by
    rcases h with h|h|h
    .omega
    .exact (aK _ h).elim (bh cU) Ω
    .omega
   refine⟨⟨cS.aa bd (a8 Ω Ω),cT.2.2.2.2.1.1⟩,⟨?_,bM.aa bd (a8 Ω Ω),cR.aa bd (a8 Ω Ω)⟩,by grind⟩;have e:k+(((aG x).take j).flatMap λy=>gl s sc eK v q (p+1) (tl.set p y)).length+(gl s sc eK v q (p+1) (aI.set p (y:Int))).length=k+(((aG x).take (j+1)).flatMap λy=>gl s sc eK v q (p+1) (tl.set p y)).length:=by
    rw[bN,u9,bJ,j4,List.flatMap_append,List.flatMap_singleton,j6];omega
   rw[e]at bP;exact bP
  .rintro _ j dm rfl ⟨X,av,N⟩;rw[j5 (by rw[<-bB,r9];omega),<-bC]at X;exact aQ z Ω ae S Z ah (X.base W (by grind)) N
end
section
variable{af ag gs bZ bf bi B0:Nat}{R:aj}{n:aI}{s:am}{a1:x4}{sc:Λ}{v:Int}
theorem Gg{eK:Nat}(S:∀u∈sc,0<=u/\u<n.d6.length)(W:sc.length<=6):
  rB x8 s2 sp nw [Γ bZ,Γ bf,Γ bi,Γ gs] 0 (λk=>k=(cm s sc eK v).length)
   (λk vs X w=>X=k+1/\∃tl aX,(cm s sc eK v)[k]?=σ tl/\vs=[aX]/\aQ .i64 w aX tl) (gK af ag R n s gs bZ bf bi a1 sc eK v B0):=by
 refine⟨nw.enters,λl az aW w Y _ Z hf ac=>?_⟩;have E:∀D k U ab,ai (λr=>w.heap.size<=r/\¬D r) U ab->fX w.heap.size U ab->az D k U->az D k ab:=λD k U ab ae ah=>Y D k U ab (ae.Y λr _ h=>⟨rfl,h⟩) ah;have V:=hf.2.2.1;have aj:=hf.2.2.2.2.1.2;obtain⟨_,_,_,aY⟩:=dr V;refine rN func267 ?_;refine aL.cQ (br λgy U aZ j G am=>?_);have an:∀{H:x5}{K:x4->Prop},ak H bZ au [a1]->K a1->ad x8 (u5 au (Γ bZ)) H K:=λao ap=>by rw[aF (v:=a1) Ψ (ao.Qz rfl)];exact ap
 refine an (hf.1.2.1.W j) ?_;rw[ba au.u (V.W j)];refine aL.cQ (kD (k:=.i64) au.u al.i Ω Ω λgt ab a2 A J aq=>?_);refine aL.cQ (bF au.i λgtb a6 a7 q M av=>?_);refine aL.cQ (bs au.i rfl rfl M (by simp[x4.cells]) λa8 C bb aw ax=>?_);refine aL.cQ (bF qq.i λga bc bd e N ay=>?_);rw[lM];refine aL.cQ (bs qq.i rfl rfl N (by simp[x4.cells]) λa y be aA aB=>?_);have bg:=j.size;have bh:=A.size;have z3:=q.size;have z5:=e.size;have bj:=G.lt;have bk:=J.lt;have bl:=M.lt;have bm:=N.lt;have aC:ak a gy Bq [.func (.yield l) #[] #[]]:=(((((ak.W G A).W q).aa C Ω).W e).aa y Ω);have aD:ak a gt al (ints .i64 (o5 sc.length 0)):=((((J.W q).aa C Ω).W e).aa y Ω);have aE:ak a gtb au [.slice (σ ⟨gt,0,ν⟩) sc.length sc.length]:=((ak.W aw e).aa y Ω);have O:ak a ga qq [.func (.func ph) #[] (nb bZ gy gtb bf bi ga gs)]:=aA;rw[aF (v:=.func (.func ph) #[] (nb bZ gy gtb bf bi ga gs)) Ψ (O.Qz rfl)];have hm:aH .i64 al a gt (.slice (σ ⟨gt,0,ν⟩) sc.length sc.length) (o5 sc.length 0):=by
  have:=b7.full (n:=sc.length) (k:=1) aD Ξ (by simp only[maxLen];omega);unfold aH;rw[List.length_replicate];exact this
 have aG:=(j.F A).F q;have P:ai (λr=>w.heap.size<=r/\¬False) w a:=(((aG.aa _).F (C.Y λr _ h=>⟨by have h:r=gtb:=h;omega,id⟩)).F (e.aa _)).F (y.Y λr _ h=>⟨by have h:r=ga:=h;omega,id⟩);have aI:cS w a:=((((am.F aq).F av).F ax).F ay).F aB;have aJ:gK af ag R n s gs bZ bf bi a1 sc eK v B0 (λ_=>False) a:=hf.own P λr aK=>⟨Ω,aK.2⟩;have Q:=Sw (s:=s) (sc:=sc) (pos:=eK) (v:=v) (tl:=o5 sc.length 0) Ξ;refine(show ic x8 ph (vK 0 bZ gy gtb bf bi ga gs) a _ from(SB (L:=cm s sc eK v) (B:=w.heap.size) (l:=l) (gy:=gy) (gt:=gt) (gtb:=gtb) (ga:=ga) (pos:=eK) Ω S W aj ⟨Ω,Ω,Ω⟩ E ?_ sc.length 0 (o5 sc.length 0) 0 (λ_=>False) a Ω Ξ (λ_ h=>h.elim) Ω ⟨⟨Ω,id⟩,⟨Ω,id⟩,⟨Ω,id⟩,Ω,id⟩ ⟨aC,aE,O,hm⟩ aJ (E _ _ _ _ P aI.o ac) λi x hi=>?_).free.Y ?_)
 .intro D k tl aX I aM aN aO aP aR z;refine je.Y (Z D k (k+1) [aX] I aM aN aO ⟨rfl,tl,aX,aP,rfl,aR⟩ z) ?_;rintro u bn (⟨h1,aS,aT,aU,aV⟩|⟨h,_⟩)
  .exact⟨h1,aS,aT (.inr rfl),aU,aV rfl⟩
  .cases h
 .rw[Q]at hi;rw[V0];exact hi
 .rintro _ bo ⟨_,rfl,_,D',_,_,_,_,_,_,z,_⟩;rw[Q,V0]at z;exact .inl ⟨D',_,rfl,z⟩
end
def Gh(m gs bZ bf bi:Nat)(a1:x4):Prop:=(m<=gs/\m<=bZ/\m<=bf/\m<=bi)/\∀r,lc a1 r->m<=r
section
variable{af ag gs bZ bf bi B0 m:Nat}{A R:aj}{n:aI}{s s':am}{t:aB}{a1:x4}{sc:Λ}{pos v:Int}{w I:x5}
theorem bC.lt(h:bC w af ag A R n s t){r:Nat}(a:A r\/R r):r<w.heap.size:=by
 obtain⟨⟨j,q,x,y,⟨_,_,e,f⟩,_⟩,_⟩:=h;exact a.elim (f r) (e r)
theorem gK.put{D' S:Nat->Prop}(h:gK af ag R n s gs bZ bf bi a1 sc pos v B0 D w)(j:ai S w I)(hm:Gh m gs bZ bf bi a1)(z:∀r,S r->r<m\/B0<=r)(B:Laid I)(C:bC I af ag A R n s' t)(E:∀i,aY s' i=aY s i)(F:∀r,A r\/R r->r<B0\/D' r):gK af ag R n s gs bZ bf bi a1 sc pos v B0 D' I:=by
 obtain⟨h1,f,q,x,G,_⟩:=h;have no:∀{r:Nat},m<=r->r<B0->¬S r:=λh1 f q=>by have:=z _ q;omega
 exact⟨h1.aa j ⟨no hm.1.1 f.1,no hm.1.2.1 f.2.1,no hm.1.2.2.1 f.2.2.1,no hm.1.2.2.2 f.2.2.2⟩,f,jm q j λr H a n c e y=>no (hm.2 r ⟨a,n,c,e,y⟩) (x r ⟨a,n,c,e,y⟩) H,x,⟨B,X0 G.2 j.size⟩,A,s',t,C,E,F⟩
theorem Gi{f:bP}{X:x5->Prop}(h:bC w af ag A R n s t)(y:Laid w)(ah:s.ho[j]?=σ f)(B:∀a1 gs bZ bf bi I,Ext w I->Gh w.heap.size gs bZ bf bi a1->gK af ag R n s gs bZ bf bi a1 f.sc pos v I.heap.size (λ_=>False) I->K (.func (.func nw) #[] #[Γ bZ,Γ bf,Γ bi,Γ gs]) I):
  aq x8 rG [Γ af,Δ (j:Int)] w λa1 U=>(Ext w U\/X U)/\aq x8 Bg [Γ af,a1,Δ pos,Δ v] U K:=by
 refine(l4 h ah).Y ?_;rintro a1 U _ ⟨q,g,C,hm⟩;refine⟨.inl q,(Sx hm.ls).Y ?_⟩;rintro _ ab _ ⟨x,gs,bZ,bf,bi,rfl,a,E,G,H,L⟩;have J:=q.F x;have M:=q.size;have z:=J.size;refine B a1 gs bZ bf bi ab J ⟨⟨Ω,Ω,Ω,Ω⟩,λr e=>(ca hm e).1▸C⟩ ⟨a,⟨a.1.lt,a.2.1.lt,a.2.2.1.lt,a.2.2.2.lt⟩,hm.ls.W x,λr e=>?_,⟨y.W J,o6 _⟩,A,s,t,h.W J,λ_=>rfl,λr e=>.inl ?_⟩
 .have:=ca hm e;have:=x.size;omega
 .have:=h.lt e;omega
end
section
variable{k:Int}{d6:Λ}{s:am}{f:bP}{j pos:Nat}{v:Int}{tl:Λ}
theorem zk{m:Nat}(ah:s.ho[j]?=σ f)(a:f.live≠0)(hm:cr f.an tl 0=σ (m:Int)):(iK s j tl).isSome=s2/\mX s j tl=bz f.an f.cs tl:=by
 unfold iK mX;rw[ah];simp[a,hm]
end
section
variable{w:x5}{af ag:Nat}{A R:aj}{n:aI}{s:am}{t:aB}
theorem Gj{pos:Nat}{f:bP}(h:bC w af ag A R n s t)(ai:Laid w)(ah:s.ho[j]?=σ f)(aA:f.live≠0)(ac:∀u,f.sc[pos]?=σ u->v∈aY s u):
  aq x8 JE [Γ af,Δ (j:Int),Δ (pos:Int),Δ v] w λr I=>r=Δ (eL n.k s f pos v)/\Ext w I:=by
 have aj:=h.2.2.2.1;have am:=x7 ah;obtain⟨O,aS,_⟩:=aj.ho f am;refine jh func145 ?_;refine br λg1 U aT P z=>?_;refine br λao ab aU L M=>?_;have z:=ak.W z L;have M:=M;rw[aF Ψ (z.cell rfl)];refine(nS (h.W (P.F L))).Y ?_;rintro _ aV _ ⟨rfl,Q⟩;refine bF ay.i λS aW aZ V ap=>?_;have a2:=P.size;have a6:=L.size;have z3:=Q.size;have z4:=V.size;have a7:=z.lt;have ba:=M.lt;have bb:=ap.lt;refine bs ay.i rfl rfl ap (by simp[x4.cells]) λbc W bd X=>?_;have X:=X;intro au B _ _;have be:=B.size;have av:=Q.F V;have Y:=((((P.F L).F Q).F V).then W (by rintro r q rfl;omega)).F B;have Z:ak au g1 eD [Γ af]:=((z.W av).aa W Ω).W B;have aw:ak au ao al [Δ (j:Int)]:=((M.W av).aa W Ω).W B;have ax:=X.W B;have bg:=ax.lt;rw[aF Ψ (Z.cell rfl),aF Ψ (Z.cell rfl),aF Ψ (aw.cell rfl)];refine Gi (h.W Y) (ai.W Y) ah λa1 gs bZ bf bi aB C aC aD=>?_;have bh:=C.size;refine⟨Nat,s2,sp,nw,#[Γ bZ,Γ bf,Γ bi,Γ gs],0,_,_,_,λD k I=>Ext w I/\ak I g1 eD [Γ af]/\ak I ao al [Δ (j:Int)]/\ak I S ay [Δ ((((cm s f.sc pos v).take k).map (bz f.an f.cs)).foldl min n.k)],
  λ_ _ _ _=>False,rfl,Gg (λu hu=>⟨(O.scope.1 u hu).1,O.d9 u hu⟩) O.scope.2,?_,λ_ _ _ J h=>h.W J,?_,λ_ _ _ _ _ _ _ h=>h,aD,?_,?_,?_,λ_ _ _ h=>h.elim,λ_ _ _ _ h=>h.elim⟩
 .rintro _ _ _ _ ⟨_,_,_,_,rfl,_⟩;rfl
 .rintro D k aE aG N bj ⟨x,E,G,y⟩;have a8:∀{g:Nat}{e:o4}{cs:List x4},g<aB.heap.size->ak aE g e cs->ak aG g e cs:=λbk aH=>aH.aa N λh=>by have:=h.2.1;omega
  exact⟨x.then N λr q h=>by have:=h.2.1;omega,a8 Ω E,a8 Ω G,a8 Ω y⟩
 .exact⟨Y.F C,Z.W C,aw.W C,ax.W C⟩
 .rintro aX D k bl bm bn bo aI ⟨rfl,tl,bp,az,e,aJ⟩ ⟨x,E,G,y⟩;cases e;intro bq H _ aK;obtain⟨m,hm⟩:=rf aj am ac (x7 az);obtain⟨aM,N⟩:=zk ah aA hm;rw[aF Ψ ((E.W H).cell rfl),aF Ψ ((G.W H).cell rfl)];refine(vh (h.W (x.F H)) (aJ.W H)).Y ?_;rintro _ bt aN ⟨rfl,aO⟩;have a:=H.F aO;rw[m3 aM,N,bA,bB,aF Ψ ((y.W a).cell rfl),mp];refine aL.cQ (bs ay.i rfl rfl (y.W a) Ξ λbu K bw ad aP=>?_);have bx:=a.size;have ae:=(x.F a).then K (by rintro r q rfl;omega);have aQ:=h.W ae;refine⟨⟨D,λr h=>.inl h,λ_ h=>h,(aI.W a).put K aC (λr q=>.inl (by have q:r=S:=q;omega)) (ai.W ae) aQ (λ_=>rfl) λr q=>.inl (by have:=h.lt q;omega),ae,(E.W a).aa K Ω,(G.W a).aa K Ω,?_⟩,aK.F (aN.kv.F aP.kv),(a.aa _).F (K.Y λr _ h=>.inl (by have h:r=S:=h;omega))⟩;have ad:=ad;rw[u9,az,j4,Z0,List.foldl_append];exact ad
 .rintro D k bD rfl ⟨x,E,G,y⟩;rw[aF Ψ (y.cell rfl)];intro bE aR _;refine⟨?_,x.F aR⟩;rw[j5 (o6 _)];rfl
theorem SC{j:Int}(h:bC w af ag A R n s t)(z:Laid w):aq x8 JT [Γ af,Δ j,Δ pos,Δ v] w λr I=>Ext w I/\r=(match ds s j pos v with|some (f,_,_)=>.tuple #[Δ (eL n.k s f pos.toNat v),Δ 0]|none=>.tuple #[Δ 0,Δ 1]):=by
 refine aE func164 ?_;refine(zh h).Y ?_;rintro _ U _ ⟨a,u,e,rfl,ae⟩;rw[bA,bB];rcases ae with⟨rfl,f,x,ae⟩|⟨rfl,ae⟩
 .rw[ae,bO,ao];refine⟨λh=>m6 rfl h,λ_=>?_⟩;obtain⟨h1,B,C,E,q,G⟩:=m8 ae;obtain⟨L,H,M,J⟩:=j1 G;obtain⟨j,rfl⟩:=W9 h1;obtain⟨pos,rfl⟩:=W9 B;refine(Gj (j:=j) (pos:=pos) (h.W a) (z.W a) C E λu' y=>?_).Y ?_
  .have q:f.sc[pos]?=σ u:=q;rw[q]at y;cases y;unfold aY;rw[H];exact J
  .rintro _ ab _ ⟨rfl,K⟩;exact⟨a.F K,rfl⟩
 .rw[ae,bO,ao];exact⟨λ_=>⟨a,rfl⟩,λh=>m6 Φ h⟩
end
def s5(t:aB):Prop:=∀m,t.marks.getLast? =σ m->m.olds+t.cells.length<100000000/\t.olds.length<=m.olds+t.cells.countP λc=>decide (c.st=m.st)
def eo(ax:List aB)(t:aB):Prop:=iT t ax/\s5 t
theorem iT.m{t:aB}(h:iT t []):eo [] t:=⟨h,λm hm=>by rw[h.1]at hm;cases hm⟩
theorem eo.room{ax:List aB}{t:aB}(h:eo ax t):Room t:=by
 cases hm:t.marks.getLast? with
 |none=>exact .inl (List.getLast?_eq_none_iff.1 hm)
 |some m=>
  obtain⟨h1,a⟩:=h.2 m hm;have:=List.countP_le_length (p:=λc:Cell=>decide (c.st=m.st)) (l:=t.cells);exact .inr Ω
theorem s5.set{t:aB}{i:Nat}{x:Int}(h:s5 t):s5 (t.set i x):=by
 unfold aB.set;cases e:t.cells[i]? with
 |none=>exact h
 |some c=>
  obtain⟨f,j⟩:=x6.1 e;cases hm:t.marks.getLast? with
  |none=>
   intro m a
   grind
  |some m=>
   obtain⟨h1,q⟩:=h m hm;simp only;split
   .rename_i r;intro bV a
    grind
   .intro bV a
    grind
theorem eo.set{ax:List aB}{t:aB}{i:Nat}{x:Int}(h:eo ax t):eo ax (t.set i x):=⟨h.1.set,h.2.set⟩
def cz(ax:List aB)(w:x5)(af ag:Nat)(A R:aj)(n:aI)(s':am)(I:x5):Prop:=ai (eR w) w I/\Laid I/\∃aR bu,Grow A w aR I/\bC I af ag aR R n s' bu/\eo ax bu/\¬aR 0
def dx(ax:List aB)(w:x5)(af ag:Nat)(A R:aj)(n:aI)(m:Nat)(D:Nat->Prop)(s':am)(I:x5):Prop:=
 ai (λr=>eR w r\/w.heap.size<=r) w I/\(Laid I/\w.heap.size<=m/\0<w.heap.size/\(∀r,A r\/R r->r<w.heap.size))/\∃aR bu,Grow A w aR I/\bC I af ag aR R n s' bu/\(eo ax bu/\¬aR 0)/\∀r,aR r->r<m\/D r
section
variable{ax:List aB}{w U ab:x5}{af ag m:Nat}{A R:aj}{n:aI}{s s' p5:am}{t:aB}{D D' S:Nat->Prop}
theorem dx.start(h:bC w af ag A R n s t)(e:Laid w)(f:¬A 0)(aC:eo ax t)(J:Ext w U)(hm:w.heap.size<=m):dx ax w af ag A R n m D s U:=
 ⟨J.aa _,⟨e.W J,hm,by
  obtain⟨j,q,x,y,⟨h1,_,_,z⟩,_⟩:=h.1
  grind,λr a=>h.lt a⟩,A,t,Grow.W J,h.W J,⟨aC,f⟩,λr a=>.inl (by have:=h.lt (.inl a);omega)⟩
theorem dx.own(h:dx ax w af ag A R n m D s' U)(a:ai S U ab)(C:∀r,S r->m<=r/\¬D r):dx ax w af ag A R n m D s' ab:=by
 obtain⟨h1,⟨f,j,q,s⟩,aR,bu,⟨g1,x,y⟩,e,z,B⟩:=h;refine⟨h1.F (a.Y (by grind)),⟨iz a (by grind) f,j,q,s⟩,aR,bu,⟨?_,x,y⟩,⟨e.1.aa a λr _ E V=>?_,e.2⟩,z,B⟩
 .exact ((g1.Y (by grind)).F (a.Y (by grind)):ai (λr=>A r\/m<=r) w ab).Y (by grind)
 grind
theorem dx.W(h:dx ax w af ag A R n m D s' U)(J:Ext U ab):dx ax w af ag A R n m D s' ab:=h.own (J.aa λ_=>False) λ_ h=>h.elim
theorem dx.p6(h:dx ax w af ag A R n m D s' U):∃aR bu,bC U af ag aR R n s' bu/\eo ax bu/\¬aR 0/\∀{ab:x5}{p5:am}{D' a:Nat->Prop}{f:aB},ai (eR U) U ab->Grow aR U a ab->bC ab af ag a R n p5 f->eo ax f->(∀r,D r->D' r)->(∀r,U.heap.size<=r->r<ab.heap.size->D' r)->
  dx ax w af ag A R n m D' p5 ab/\ai (λr=>r<m\/D r) U ab/\∀r,a r->r<m\/D' r:=by
 obtain⟨h1,⟨y,z,B,C⟩,aR,bu,E,F,j,K⟩:=h;refine⟨aR,bu,F,j.1,j.2,λ{ab p5 D' a f}G e s H L I=>?_⟩;have M:=h1.size;have J:¬a 0:=λh=>(e.2.1 0 h).elim j.2 Ω;have x:∀r,a r->r<m\/D' r:=λr q=>(e.2.1 r q).elim (by grind) λh=>.inr (I r h (s.lt (.inl q)));refine⟨⟨h1.F (G.Y λr _ h=>?_),⟨iz e.1 j.2 y,z,B,C⟩,a,f,E.F e,s,⟨H,J⟩,x⟩,e.1.Y (by grind),x⟩;by_cases q:w.heap.size<=r
 .omega
 .exact .inl (oE (λo aC V N=>h1.a8 r o aC V (by grind)) h)
theorem dx.open(h:dx ax w af ag A R n m D s' U):∃aR bu,bC U af ag aR R n s' bu/\eo ax bu/\∀{ab:x5}{p5:am}{D' a:Nat->Prop}{e:aB},ai (eR U) U ab->Grow aR U a ab->bC ab af ag a R n p5 e->eo ax e->(∀r,D r->D' r)->(∀r,U.heap.size<=r->r<ab.heap.size->D' r)->
  dx ax w af ag A R n m D' p5 ab/\ai (λr=>r<m\/D r) U ab/\∀r,a r->r<m\/D' r:=by
 grind [dx.p6]
theorem dx.done(h:dx ax w af ag A R n m D s' U)(J:Ext U ab):cz ax w af ag A R n s' ab:=by
 obtain⟨h1,⟨e,q,r,s⟩,aR,bu,f,j,a,x⟩:=h.W J;exact⟨h1.Y (by grind),e,aR,bu,f,j,a.1,a.2⟩
end
section
variable{ax:List aB}{w:x5}{af ag:Nat}{A R:aj}{n:aI}{s:am}{t:aB}
theorem p7{u:Nat}{x:bo}(a:bc n.k n.d6 s)(J:s.d9[u]?=σ x)(ac:v∈aG x):eB n (u:Int) v:=by
 have h:=(x6.1 J).1;have j:=a.d9;obtain⟨z,e⟩:=aJ (l:=n.d6) (i:=u) Ω;have q:=(a.var _ x z J e).1;have r:=a.eQ.2.2 z (x7 e);have f:=(fu.1 ac).1;refine⟨Ω,Ω,f.1,?_⟩
 grind
theorem Gk{f:bP}{g:Int->Int}(a:bc k d6 s)(ah:s.ho[j]?=σ f):en s j f (ek g [] f.an f.cs)=s:=by
 obtain⟨e,h⟩:=kR a (x7 ah);rw[R4 e Ω (by grind)];have:s.ho.set j f=s.ho:=by
  apply Y2
  grind
 unfold en;show{s with ho:=s.ho.set j f}=s;rw[this]
theorem Gl{pos u:Nat}{f:bP}{x:bo}{F1 F2:S8}{tup un:Int->Int}(h:bC w af ag A R n s t)(aN:Laid w)(bg:¬A 0)(aC:eo ax t)(ah:s.ho[j]?=σ f)(bh:f.live≠0)(hu:f.sc[pos]?=σ (u:Int))(J:s.d9[u]?=σ x)(ac:v∈aG x)(h1:∀tl∈cm s f.sc pos v,(0<=tup (bz f.an f.cs tl)/\tup (bz f.an f.cs tl)<=n.k)/\∀{w:x5}{A:aj}{s:am}{t:aB},bC w af ag A R n s t->aq x8 F1 [Γ af,Δ (bz f.an f.cs tl),Δ c] w λr I=>r=Δ (tup (bz f.an f.cs tl))/\Ext w I)(aO:(0<=un (x.un.getD v.toNat 0)/\un (x.un.getD v.toNat 0)<=n.k)/\∀{w:x5}{A:aj}{s:am}{t:aB},bC w af ag A R n s t->aq x8 F2 [Γ af,Δ (x.un.getD v.toNat 0),Δ c] w λr I=>r=Δ (un (x.un.getD v.toNat 0))/\Ext w I):
  aq x8 JF [.agg #[.func (.func F1) #[] #[],.func (.func F2) #[] #[]],Γ af,Δ (j:Int),Δ (pos:Int),Δ v,Δ c] w λ_ I=>cz ax w af ag A R n (fv s j f pos u x v tup un) I:=by
 have B:=h.2.2.2.1;have ad:=x7 ah;obtain⟨ae,b1,_⟩:=B.ho f ad;have aQ:∀u',f.sc[pos]?=σ u'->v∈aY s u':=by grind [aY]
 have bj:=F7 B ad aQ;refine jh func148 ?_;refine br λbk U b2 aS N=>?_;refine br λg1 ab b3 ao a=>?_;refine br λb4 b5 b6 W q=>?_;refine br λb7 y b8 X O=>?_;have N:ak y bk rL [.func (.func F1) #[] #[],.func (.func F2) #[] #[]]:=((ak.W N ao).W W).W X;have a:ak y g1 eD [Γ af]:=(ak.W a W).W X;have q:=ak.W q X;have O:=O;have ap:=((aS.F ao).F W).F X;have b9:=aS.size;have ca:=ao.size;have z3:=W.size;have cb:=ap.size;have aT:=N.lt;have C:=a.lt;have aU:=q.lt;have aV:=O.lt;rw[aF Ψ (a.cell rfl),aF Ψ (q.cell rfl)];refine(l4 (h.W ap) ah).Y ?_;rintro cc cd _ ⟨bl,_,_,bm⟩;rw[bp au.u al.i Ψ bm.ls hu];intro ce bn _ _;have E:=bl.F bn;have av:=ap.F E;have z46:=E.size;rw[aF Ψ ((a.W E).cell rfl),aF Ψ ((a.W E).cell rfl),aF Ψ ((q.W E).cell rfl)];refine Gi (h.W av) (aN.W av) ah λa1 gs bZ bf bi aW aw bq bs=>?_;have cf:=aw.size;have bt:=E.F aw;refine⟨Nat,s2,sp,nw,#[Γ bZ,Γ bf,Γ bi,Γ gs],0,_,_,_,
  λD k I=>dx ax w af ag A R n w.heap.size D (en s j f (ek tup ((cm s f.sc pos v).take k) f.an f.cs)) I/\(ai (λr=>r<w.heap.size\/aW.heap.size<=r) y I/\aW.heap.size<=I.heap.size),
  λ_ _ _ _=>False,rfl,Gg (λu hu=>⟨(ae.scope.1 u hu).1,ae.d9 u hu⟩) ae.scope.2,?_,λ_ _ _ J h=>h.W J,?_,by grind,bs,?_,?_,?_,by grind,by grind⟩
 .grind
 .rintro D k cg ch P ci ⟨G,H,ay⟩;exact⟨G.own P (by grind),H.F (P.Y Ω),X0 ay P.size⟩
 .refine⟨?_,bt.aa _,o6 _⟩;have e:en s j f (ek tup ((cm s f.sc pos v).take 0) f.an f.cs)=s:=Gk B ah;rw[e];exact dx.start h aN bg aC (av.F aw) (o6 _)
 .rintro aX D k cj az ck cl bu ⟨rfl,tl,cn,aA,e,aZ⟩ ⟨G,H,ay⟩;cases e;intro cp Q _ bw;obtain⟨m,hm⟩:=rf B ad aQ (x7 aA);obtain⟨bx,bD⟩:=F8 B ah bj aA hm;obtain⟨⟨bE,bF⟩,bG⟩:=h1 tl (x7 aA);have a8:∀{S:x5}{g:Nat}{e:o4}{cs:List x4},Ext az S->w.heap.size<=g->g<y.heap.size->ak y g e cs->ak S g e cs:=λJ Y bH aD=>(aD.aa H Ω).W J;have bI:=(x6.1 ah).1;have a2:(en s j f (ek tup ((cm s f.sc pos v).take k) f.an f.cs)).ho[j]?=σ {f with cs:=ek tup ((cm s f.sc pos v).take k) f.an f.cs}:=Z6 bI;obtain⟨Y,P⟩:=zk a2 bh hm;obtain⟨A9,t9,aE,a6,aH⟩:=G.open;rw[aF Ψ ((a8 Q Ω C a).cell rfl),aF Ψ ((a8 Q Ω aU q).cell rfl)];refine(vh (aE.W Q) (aZ.W Q)).Y ?_;rintro _ cq bJ ⟨rfl,bK⟩;rw[m3 Y,P,bA,bB];intro bL bM _ bN;have z:=(Q.F bK).F bM;rw[aF Ψ ((a8 z Ω C a).cell rfl),aF Ψ ((a8 z Ω aU q).cell rfl),
   aP rL.p 0 (a8 z Ω aT N) rfl,aF Ψ ((a8 z Ω C a).cell rfl),aF Ψ ((a8 z Ω aV O).cell rfl)]
  show aq x8 F1 [Γ af,Δ (bz f.an (ek tup ((cm s f.sc pos v).take k) f.an f.cs) tl),Δ c] bL _;rw[bx];refine(bG (aE.W z)).Y ?_;rintro _ cr bO ⟨rfl,a7⟩;have V:=z.F a7;refine⟨.inl a7,(Rk (aE.W V) a6.room (aZ.W V)).Y ?_⟩;rintro r ba bQ ⟨_,_,aI⟩;obtain⟨_,Z,aR,bR,bS,aJ,K⟩:=aI Y ⟨bE,bF⟩ _ m a2 hm;rw[bD]at K;have ct:=V.size;have cu:=Z.size;obtain⟨bb,aK,bT⟩:=aH (D':=λr=>D r\/az.heap.size<=r/\r<ba.heap.size) (iF V Z) ((Grow.W V).F aJ) K a6.set (by grind) Ω;refine⟨⟨λr=>D r\/az.heap.size<=r/\r<ba.heap.size,λr h=>h,by grind,?_,bb,H.F (aK.Y (by grind)),Ω⟩,bw.F ((((bJ.F bN).F bO).F bQ).kv),aK.Y (by grind)⟩;refine bu.put aK bq (λr L=>?_) bb.2.1.1 K (λ_=>rfl) λr L=>?_
  .grind
  .rcases L with L|L
   .exact (bT r L).imp Ω id
   .exact .inl (by have:=h.lt (.inr L);omega)
 .rintro D k bU rfl ⟨G,H,ay⟩;rw[j5 (o6 _)]at G;have bc:=p7 B J ac;obtain⟨cw,cA,aL,bd,aH⟩:=G.open;have a8:∀{S:x5}{g:Nat}{e:o4}{cs:List x4},Ext bU S->w.heap.size<=g->g<y.heap.size->ak y g e cs->ak S g e cs:=λJ Y bH aD=>(aD.aa H Ω).W J;rw[aF Ψ ((a8 (Ext.refl _) Ω C a).cell rfl)];refine(pV aL).Y ?_;rintro _ cB _ ⟨rfl,bV⟩;have bW:fs (en s j f (ek tup (cm s f.sc pos v) f.an f.cs)) (u:Int).toNat v.toNat=x.un.getD v.toNat 0:=by
   grind [fs,u7,en]
  rw[m3 bc,bW,bA,bB];intro bX bY _ _;have M:=bV.F bY;rw[aF Ψ ((a8 M Ω C a).cell rfl),aP rL.p 1 (a8 M Ω aT N) rfl,aF Ψ ((a8 M Ω C a).cell rfl),aF Ψ ((a8 M Ω aV O).cell rfl)];show aq x8 F2 [Γ af,Δ (x.un.getD v.toNat 0),Δ c] bX _;refine(aO.2 (aL.W M)).Y ?_;rintro _ cC _ ⟨rfl,be⟩;have aM:=M.F be;refine⟨.inl be,(Fu (aL.W aM) bd.room).Y ?_⟩;rintro r cD _ ⟨_,_,aI⟩;obtain⟨_,Z,aR,bR,bS,aJ,K⟩:=aI bc aO.1;have e:lp (en s j f (ek tup (cm s f.sc pos v) f.an f.cs)) (u:Int).toNat v.toNat (un (x.un.getD v.toNat 0))=fv s j f pos u x v tup un:=by
   unfold lp fv eS;rw[u7,show(en s j f (ek tup (cm s f.sc pos v) f.an f.cs)).d9[u]?=σ x from J]
  rw[e]at K;intro cE b0 _;exact(aH (iF aM Z) ((Grow.W aM).F aJ) K bd.set (by grind) λ_ _ _=>trivial).1.done b0
end
theorem s6(h e:Nat){l a:Nat}(f:l<256)(hm:a<256):(256*h+l) &&& (256*e+a)=256*(h &&& e)+(l &&& a):=by
 have j:l &&& a<2 ^ 8:=Nat.and_lt_two_pow _ hm;apply Nat.eq_of_testBit_eq;intro i;rw[Nat.testBit_and,show 256=2 ^ 8 from rfl,Nat.testBit_two_pow_mul_add _ f,Nat.testBit_two_pow_mul_add _ hm,Nat.testBit_two_pow_mul_add _ j]
 grind
def iO(m x:Nat):Nat:=(x / 2 &&& m)+(x &&& m)
def jy(m x:Nat):Nat:=(x / 4 &&& m)+(x &&& m)
def ly(m x:Nat):Nat:=(x / 16+x) &&& m
def dc(a:Nat):Nat:=ly 15 (jy 51 (iO 85 a))
theorem SD:∀e<2,∀l<256,(128*e+l / 2) &&& 85=l / 2 &&& 85:=by decide+kernel
theorem SE:∀e<4,∀l<256,(64*e+l / 4) &&& 51=l / 4 &&& 51:=by decide+kernel
theorem SF:∀e<5,∀l<69,(16*e+l / 16+l) &&& 15=(l / 16+l) &&& 15:=by decide+kernel
theorem oT:∀l<256,iO 85 l<256/\jy 51 (iO 85 l)<69/\jy 51 (iO 85 l) % 16<5/\dc l<=8/\(dc l=0->l=0):=by decide+kernel
theorem vL(h a:Nat){l:Nat}(e:l<256):iO (256*a+85) (256*h+l)=256*iO a h+iO 85 l:=by
 unfold iO;rw[show(256*h+l) / 2=256*(h / 2)+(128*(h % 2)+l / 2) by omega,s6 _ _ Ω Ω,s6 _ _ e Ω,SD _ Ω _ e];omega
theorem vM(h a:Nat){l:Nat}(e:l<256):jy (256*a+51) (256*h+l)=256*jy a h+jy 51 l:=by
 unfold jy;rw[show(256*h+l) / 4=256*(h / 4)+(64*(h % 4)+l / 4) by omega,s6 _ _ Ω Ω,s6 _ _ e Ω,SE _ Ω _ e];omega
theorem vN(h a:Nat){l:Nat}(e:l<69)(he:h % 16<5):ly (256*a+15) (256*h+l)=256*ly a h+ly 15 l:=by
 unfold ly;rw[show(256*h+l) / 16+(256*h+l)=256*(h / 16+h)+(16*(h % 16)+l / 16+l) by omega,s6 _ _ Ω Ω,SF _ he _ e]
def four(a b c d:Nat):Nat:=256*(256*(256*d+c)+b)+a
theorem SG{a b c d:Nat}(e:a<256)(f:b<256)(h:c<256)(j:d<256):iO 6148914691236517205 (four a b c d)=four (iO 85 a) (iO 85 b) (iO 85 c) (iO 85 d):=by
 unfold four;rw[show 6148914691236517205=256*(256*(256*(256*1431655765+85)+85)+85)+85 from rfl,vL _ _ e,vL _ _ f,vL _ _ h];have:=vL 0 1431655765 j
 grind [iO]
theorem SH{a b c d:Nat}(e:a<256)(f:b<256)(h:c<256)(j:d<256):jy 3689348814741910323 (four a b c d)=four (jy 51 a) (jy 51 b) (jy 51 c) (jy 51 d):=by
 unfold four;rw[show 3689348814741910323=256*(256*(256*(256*858993459+51)+51)+51)+51 from rfl,vM _ _ e,vM _ _ f,vM _ _ h];have:=vM 0 858993459 j
 grind [jy]
theorem SI{a b c d:Nat}(e:a<69)(f:b<69/\b % 16<5)(h:c<69/\c % 16<5)(j:d<69/\d % 16<5):ly 1085102592571150095 (four a b c d)=four (ly 15 a) (ly 15 b) (ly 15 c) (ly 15 d):=by
 unfold four;rw[show 1085102592571150095=256*(256*(256*(256*252645135+15)+15)+15)+15 from rfl,vN _ _ e Ω,vN _ _ f.1 Ω,vN _ _ h.1 Ω];have:=vN 0 252645135 j.1 Ω
 grind [ly]
def rg(x:Nat):Nat:=dc (x % 256)+dc (x / 256 % 256)+dc (x / 65536 % 256)+dc (x / 16777216)
theorem SJ{x:Nat}(h:x<4294967296):rg x=0↔x=0:=by
 constructor
 .intro a;unfold rg at a;have h1:=(oT (x % 256) Ω).2.2.2.2 Ω;have e:=(oT (x / 256 % 256) Ω).2.2.2.2 Ω;have f:=(oT (x / 65536 % 256) Ω).2.2.2.2 Ω;have j:=(oT (x / 16777216) Ω).2.2.2.2 Ω;omega
 .rintro rfl;decide
theorem Gm{x:Nat}(J:x<4294967296):aq x8 IT [.int .u64 (x:Int)] w λv I=>v=Δ (rg x:Int)/\Ext w I:=by
 obtain⟨a,b,c,d,E,G,H,L,e,ag,ah,ai,aj⟩:∃a b c d,a<256/\b<256/\c<256/\d<256/\x=four a b c d/\a=x % 256/\b=x / 256 % 256/\c=x / 65536 % 256/\d=x / 16777216:=
  ⟨x % 256,x / 256 % 256,x / 65536 % 256,x / 16777216,Ω,Ω,Ω,Ω,by grind [four],rfl,rfl,rfl,rfl⟩
 obtain⟨O,P,a3,a4,_⟩:=oT a E;obtain⟨Q,R,S,ak,_⟩:=oT b G;obtain⟨U,V,W,am,_⟩:=oT c H;obtain⟨d1,d2,d3,d4,_⟩:=oT d L;have g1:=SG E G H L;have X:=SH O Q U d1;have Y:=SI P ⟨R,S⟩ ⟨V,W⟩ ⟨d2,d3⟩;have Z:rg x=dc a+dc b+dc c+dc d:=by grind [rg]
 rw[<-e]at g1;have aa:iO 6148914691236517205 x<4294967296:=by grind [four]
 have M:jy 3689348814741910323 (iO 6148914691236517205 x)<4294967296:=by grind [four]
 have A:ly 1085102592571150095 (jy 3689348814741910323 (iO 6148914691236517205 x))=four (dc a) (dc b) (dc c) (dc d):=by rw[g1,X,Y];rfl
 have ab:four (dc a) (dc b) (dc c) (dc d)<4294967296:=by grind [four]
 refine aE func69 ?_;have s:∀{t:o4}{cx cy:Bool}{K:x4->Prop}(p q:Nat),p+q<18446744073709551616->ad x8 (aS .add t cx cy (.int .u64 (p:Int)) (.int .u64 (q:Int))) w K=K (.int .u64 ((p+q:Nat):Int)):=λp q h=>by
  rw[aT,lw Ω Ω];rfl
 have small:∀(p m:Nat),p &&& m<=p:=λp m=>Nat.and_le_left;rw[show(1:Int)=((1:Nat):Int)from rfl,mB Ω,show(6148914691236517205:Int)=((6148914691236517205:Nat):Int)from rfl,u64_and Ω Ω,u64_and Ω Ω,s (x / 2 ^ 1 &&& 6148914691236517205) (x &&& 6148914691236517205) (by grind)];obtain⟨y,B⟩:∃y,(x / 2 ^ 1 &&& 6148914691236517205)+(x &&& 6148914691236517205)=y:=⟨_,rfl⟩;rw[B];have B:iO 6148914691236517205 x=y:=B;rw[B]at aa M A;rw[show(2:Int)=((2:Nat):Int)from rfl,mB Ω,show(3689348814741910323:Int)=((3689348814741910323:Nat):Int)from rfl,u64_and Ω Ω,u64_and Ω Ω,s (y / 2 ^ 2 &&& 3689348814741910323) (y &&& 3689348814741910323) (by grind)];obtain⟨z,C⟩:∃z,(y / 2 ^ 2 &&& 3689348814741910323)+(y &&& 3689348814741910323)=z:=⟨_,rfl⟩;rw[C];have C:jy 3689348814741910323 y=z:=C;rw[C]at M A;rw[show(4:Int)=((4:Nat):Int)from rfl,mB Ω,s (z / 2 ^ 4) z Ω,show(1085102592571150095:Int)=((1085102592571150095:Nat):Int)from rfl,u64_and Ω Ω];have A:z / 2 ^ 4+z &&& 1085102592571150095=four (dc a) (dc b) (dc c) (dc d):=A;rw[A];obtain⟨j,N⟩:∃j,four (dc a) (dc b) (dc c) (dc d)=j:=⟨_,rfl⟩;rw[N]at ab ⊢;unfold four at N;rw[show(8:Int)=((8:Nat):Int)from rfl,mB Ω,s j (j / 2 ^ 8) Ω];obtain⟨r,ac⟩:∃r,j+j / 2 ^ 8=r:=⟨_,rfl⟩;rw[ac];rw[show(16:Int)=((16:Nat):Int)from rfl,mB Ω,s r (r / 2 ^ 16) Ω];obtain⟨f,ae⟩:∃f,r+r / 2 ^ 16=f:=⟨_,rfl⟩;rw[ae];rw[show(32:Int)=((32:Nat):Int)from rfl,mB Ω,s f (f / 2 ^ 32) Ω,fM fZ.u al.u,lm Ω Ω,show(127:Int)=((127:Nat):Int)from rfl,Fg Ω Ω];refine⟨?_,Ext.refl _⟩;rw[Z,show 127=2 ^ 7-1 from rfl,Nat.and_two_pow_sub_one_eq_mod];have an:j / 2 ^ 8=65536*dc d+256*dc c+dc b:=Ω
 have ao:r / 2 ^ 16=256*dc d+(dc c+dc d):=Ω
 have ap:f / 2 ^ 32=0:=Ω
 have au:f=128*(131072*dc d+512*(dc c+dc d)+2*(dc b+dc c+dc d))+(dc a+dc b+dc c+dc d):=Ω
 have af:(f+f / 2 ^ 32) % 2 ^ 7=dc a+dc b+dc c+dc d:=Ω
 rw[af]
theorem jj{b n:Nat}(a:mC b n):aq x8 AT [ki b n] w λr I=>(∃q:Int,r=Δ q/\(q=0↔b=0))/\Ext w I:=by
 have e:b<4294967296:=by
  have:=a.2;have:(2:Nat) ^ n<=2 ^ 32:=T2 Ω a.1;omega
 refine aE func26 ?_;refine br λg U s f h=>?_;rw[aP ce.p 0 h rfl];refine(Gm e).Y ?_;rintro _ ab _ ⟨rfl,j⟩;refine⟨⟨_,rfl,?_⟩,f.F j⟩
 grind [SJ]
def p8(ax:List aB)(w:x5)(af ag:Nat)(A R:aj)(n:aI)(s:am)(a:fH)(r:x4)(I:x5):Prop:=r=Δ (bh n.k s a).2/\cz ax w af ag A R n (bh n.k s a).1 I
section
variable{ax:List aB}{w:x5}{af ag:Nat}{A R:aj}{n:aI}{s:am}{t:aB}{a:fH}
theorem cz.same(h:bC w af ag A R n s t)(a:Laid w)(e:¬A 0)(aC:eo ax t)(J:Ext w I):cz ax w af ag A R n s I:=(dx.start (m:=w.heap.size) (D:=λ_=>False) h a e aC J (o6 _)).done (Ext.refl _)
theorem cz.before{s':am}(J:Ext w U)(h:cz ax U af ag A R n s' I):cz ax w af ag A R n s' I:=by
 obtain⟨h1,a,aR,bu,e,f⟩:=h;exact⟨iF J h1,a,aR,bu,(Grow.W J).F e,f⟩
theorem zl{j u:Int}{f:bP}{x:bo}(h:ds s j pos v=σ (f,u,x)):∃q e u':Nat,j=q/\pos=e/\u=u'/\s.ho[q]?=σ f/\f.live≠0/\f.sc[e]?=σ (u':Int)/\s.d9[u']?=σ x/\v∈aG x/\∀r,f.sc[e]?=σ r->v∈aY s r:=by
 obtain⟨h1,A,B,C,a,E⟩:=m8 h;obtain⟨F,w,G,y⟩:=j1 E;obtain⟨j,rfl⟩:=W9 h1;obtain⟨pos,rfl⟩:=W9 A;obtain⟨u,rfl⟩:=W9 F;refine⟨j,pos,u,rfl,rfl,rfl,B,C,a,w,y,λu' z=>?_⟩;have a:f.sc[pos]?=σ (u:Int):=a;rw[a]at z;cases z;unfold aY;rw[w];exact y
theorem zm(hk:a.kind=0)(h:bC w af ag A R n s t)(z:Laid w)(E:¬A 0)(aC:eo ax t):aq x8 IW [Γ af,Δ a.i,Δ a.pos,Δ a.v,Δ a.c] w (p8 ax w af ag A R n s a):=by
 have H:=h.2.2.2.1;refine aE func74 ?_;refine(zh h).Y ?_;rintro _ U _ ⟨y,u,e,rfl,ae⟩;rw[bA,bB];have q:bh n.k s a=match ds s a.i a.pos a.v with
  |none=>(s,1)
  |some (f,u,x)=>if dE n.k a.c (eL n.k s f a.pos.toNat a.v)≠0 then(s,dE n.k a.c (eL n.k s f a.pos.toNat a.v))else(fv s a.i.toNat f a.pos.toNat u.toNat x a.v (λg=>cJ n.k g a.c) λg=>b2 n.k g a.c,0):=by unfold bh;rw[m3 hk]<;>cases ds s a.i a.pos a.v<;>rfl
 rcases ae with⟨rfl,f,x,ae⟩|⟨rfl,ae⟩
 rotate_left
 .rw[ae]at q;rw[bO,ao];exact⟨λ_=>⟨by rw[q],by rw[q];exact cz.same h z E aC y⟩,λh=>m6 Φ h⟩
 rw[ae]at q;rw[bO,ao];refine⟨λh=>m6 rfl h,λ_=>?_⟩;obtain⟨j,pos,u,S,T,V,ah,K,hu,J,ac,W⟩:=zl ae;have X:=x7 ah;simp only[S,T,V,u7]at q ⊢;refine(Gj (j:=j) (pos:=pos) (h.W y) (z.W y) ah K W).Y ?_;rintro _ ab _ ⟨rfl,L⟩;refine(vE (h.W (y.F L))).Y ?_;rintro _ ai _ ⟨Y,rfl⟩;have B:=(y.F L).F Y;refine dd (λI=>cz ax w af ag A R n (bh n.k s a).1 I) ?_ λaz M=>?_
 .intro I Z;refine⟨?_,Z⟩;rw[q];split
  .rfl
  .rename_i r;rw[X1.1 r]
 rw[bl,ao];refine⟨λr=>?_,λr=>M _ ?_⟩
 .obtain⟨C,hm⟩:=m7 (λh=>h r);rw[dn (cs:=#[.func (.func pf) #[] #[],.func (.func pg) #[] #[]]) Ψ];have N:∀t∈cm s f.sc pos a.v,a.c<=bz f.an f.cs t:=λt aa=>((oP _ _ _).1 hm).2 _ (l9.2 ⟨t,aa,rfl⟩);have O:=jd (v:=a.v.toNat) H J;refine(Gl (t:=t) (F1:=pf) (F2:=pg) (tup:=λg=>cJ n.k g a.c) (un:=λg=>b2 n.k g a.c) (h.W B) (z.W B) E aC ah K hu J ac (λtl P=>?_) ⟨oR O C.1,λ{w A s t}G=>sZ G O C⟩).Y ?_
  .have Q:=nV (t:=tl) H X;exact⟨oQ Q ⟨C.1,N tl P⟩,λ{w A s t}G=>vF G Q C (.inr (N tl P))⟩
  .rintro _ aj _ ad;refine M _ ?_;rw[q,m5 (λh=>h r)];exact ad.before B
 .rw[q,m3 r];exact cz.same h z E aC B
theorem Gn(hk:a.kind=1)(h:bC w af ag A R n s t)(C:Laid w)(E:¬A 0)(aC:eo ax t):aq x8 IX [Γ af,Δ a.i,Δ a.pos,Δ a.v,Δ a.c] w (p8 ax w af ag A R n s a):=by
 have G:=h.2.2.2.1;refine aE func75 ?_;refine(zh h).Y ?_;rintro _ U _ ⟨y,u,e,rfl,ae⟩;rw[bA,bB];have q:bh n.k s a=match ds s a.i a.pos a.v with
  |none=>(s,1)
  |some (f,u,x)=>if dE n.k a.c (x.un.getD a.v.toNat 0)≠0 then(s,dE n.k a.c (x.un.getD a.v.toNat 0))else(fv s a.i.toNat f a.pos.toNat u.toNat x a.v (λg=>b2 n.k g a.c) λg=>cJ n.k g a.c,0):=by unfold bh;rw[m5 Ω,m3 hk]<;>cases ds s a.i a.pos a.v<;>rfl
 rcases ae with⟨rfl,f,x,ae⟩|⟨rfl,ae⟩
 rotate_left
 .rw[ae]at q;rw[bO,ao];exact⟨λ_=>⟨by rw[q],by rw[q];exact cz.same h C E aC y⟩,λh=>m6 Φ h⟩
 rw[ae]at q;rw[bO,ao];refine⟨λh=>m6 rfl h,λ_=>?_⟩;obtain⟨j,pos,u,O,P,Q,ah,S,hu,J,ac,Z⟩:=zl ae;have T:=x7 ah;simp only[O,P,Q,u7]at q ⊢;refine(pV (i:=(u:Int)) (v:=a.v) (h.W y)).Y ?_;rintro _ ab _ ⟨rfl,K⟩;have V:fs s (u:Int).toNat a.v.toNat=x.un.getD a.v.toNat 0:=by
  unfold fs;rw[u7,J]
 rw[m3 (p7 G J ac),V,bA,bB];refine(vE (h.W (y.F K))).Y ?_;rintro _ aa _ ⟨W,rfl⟩;have z:=(y.F K).F W;refine dd (λI=>cz ax w af ag A R n (bh n.k s a).1 I) ?_ λaz L=>?_
 .intro I X;refine⟨?_,X⟩;rw[q];split
  .rfl
  .rename_i r;rw[X1.1 r]
 rw[bl,ao];refine⟨λr=>?_,λr=>L _ ?_⟩
 .obtain⟨B,hm⟩:=m7 (λh=>h r);rw[dn (cs:=#[.func (.func pg) #[] #[],.func (.func pf) #[] #[]]) Ψ];have M:=jd (v:=a.v.toNat) G J;refine(Gl (t:=t) (F1:=pg) (F2:=pf) (tup:=λg=>b2 n.k g a.c) (un:=λg=>cJ n.k g a.c) (h.W z) (C.W z) E aC ah S hu J ac (λtl ad=>?_) ⟨oQ M ⟨B.1,hm⟩,λ{w A s t}H=>vF H M B (.inr hm)⟩).Y ?_
  .have N:=nV (t:=tl) G T;exact⟨oR N B.1,λ{w A s t}H=>sZ H N B⟩
  .rintro _ ai _ Y;refine L _ ?_;rw[q,m5 (λh=>h r)];exact Y.before z
 .rw[q,m3 r];exact cz.same h C E aC z
end
def jz(s:am)(i:Int):Option bo:=match(if 0<=i then s.d9[i.toNat]? else ν)with
 |some x=>if x.gone=0 then σ x else ν
 |none=>ν
theorem zn{s:am}{i:Int}{x:bo}(h:jz s i=σ x):0<=i/\s.d9[i.toNat]?=σ x/\x.gone=0:=by
 grind [jz]
theorem Gp{g:Int->Int}{un L:Λ}(h:L[j]?=σ v):eC g un (L.take (j+1))=(eC g un (L.take j)).set v.toNat (g ((eC g un (L.take j)).getD v.toNat 0)):=by
 grind [eC,u9]
theorem SK{i:Nat}:∀(L M:Λ)(s:am),gY s i v (L++M)=gY (gY s i v L) i v M
 :=by
 intro a;induction a<;>grind [gY]
theorem SL{s:am}{i:Nat}{w:Int}{L:Λ}(h:L[j]?=σ w):gY s i v (L.take (j+1))=if w≠v then dX (gY s i v (L.take j)) i w.toNat else gY s i v (L.take j):=by
 rw[u9,h,j4,SK];rfl
def l7(m u:Int):Int:=if m<0\/u<m then u else m
theorem SM:∀(l:Λ)(m:Int),0<=m->(∀c∈l,0<=c)->l.foldl l7 m=l.foldl min m
 :=by
 intro a;induction a<;>grind [l7]
theorem SN{x:bo}(h:∀v∈aG x,0<=x.un.getD v.toNat 0):((aG x).map λv=>x.un.getD v.toNat 0).foldl l7 (-1)=jc x:=by
 unfold jc;have a:∀c∈(aG x).map (λv=>x.un.getD v.toNat 0),0<=c:=by grind
 generalize (aG x).map (λv=>x.un.getD v.toNat 0)=l at a;cases l with
 |nil=>rfl
 |cons c l=>exact SM l c (a c (.head _)) λc h=>a c (.tail _ h)
section
variable{ax:List aB}{w:x5}{af ag:Nat}{A R:aj}{n:aI}{s:am}{t:aB}{a:fH}
theorem Gq{i:Int}(h:bC w af ag A R n s t):aq x8 JG [Γ af,Δ i] w λr I=>Ext w I/\r=Δ (if(jz s i).isSome=s2 then 0 else 1):=by
 have a:=h.2.2.2.1;have G:=a.d9;refine aE func149 ?_;rw[dj eD.u];simp only[b9,bb];refine a6 (λr U=>r= .bool (!(jz s i).isSome)/\Ext w U) ?_ ?_
 .rintro _ U ⟨rfl,H⟩;rw[b4]
  grind
 intro az f;refine(ve h).Y ?_;rintro _ ab _ ⟨rfl,e⟩;rw[b4];refine⟨λB=>f _ _ ⟨?_,e⟩,λB=>?_⟩
 .grind [jz,dh]
 refine(jv (i:=i) (h.W e)).Y ?_;rintro _ K _ ⟨⟨b,m,rfl,j⟩,C⟩;refine(xn).Y ?_;rintro _ L _ ⟨rfl,E⟩;rw[bl];refine f _ _ ⟨?_,(e.F C).F E⟩;congr 1;by_cases q:0<=i/\i<n.d6.length
 .obtain⟨x,J⟩:=aJ (l:=s.d9) (i:=i.toNat) Ω;obtain⟨z,y⟩:=aJ (l:=n.d6) (i:=i.toNat) Ω;have M:=a.eQ.2.2 z (x7 y);have N:=(a.var _ x z J y).1;have hm:=(j.2.2 x q.1 J).1
  grind [dh,jz]
 .obtain⟨rfl,rfl⟩:=j.2.1 q
  grind [jz]
theorem Gr{u:Nat}{x:bo}{F1 F2:S8}{g z:Int->Int}(h:bC w af ag A R n s t)(aA:Laid w)(aY:¬A 0)(aC:eo ax t)(J:s.d9[u]?=σ x)(h1:∀v∈aG x,(0<=g (x.un.getD v.toNat 0)/\g (x.un.getD v.toNat 0)<=n.k)/\∀{w:x5}{A:aj}{s:am}{t:aB},bC w af ag A R n s t->aq x8 F1 [Γ af,Δ (x.un.getD v.toNat 0),Δ c] w λr I=>r=Δ (g (x.un.getD v.toNat 0))/\Ext w I)(aD:(0<=z s.zero/\z s.zero<=n.k)/\∀{w:x5}{A:aj}{s':am}{t:aB},bC w af ag A R n s' t->aq x8 F2 [Γ af,Δ s.zero,Δ c] w λr I=>r=Δ (z s.zero)/\Ext w I):
  aq x8 JH [Γ af,Δ (u:Int),Δ c,.func (.func F1) #[] #[],.func (.func F2) #[] #[]] w λ_ I=>cz ax w af ag A R n (iM s u x g z) I:=by
 have aZ:=h.2.2.2.1;have aE:=(x6.1 J).1;refine jh func150 ?_;refine br λg1 U bt aH a=>?_;refine br λa1 ab bu W q=>?_;refine br λbw bx bz K C=>?_;refine br λbD B bE L M=>?_;have a:ak B g1 eD [Γ af]:=((ak.W a W).W K).W L;have q:ak B a1 al [Δ (u:Int)]:=(ak.W q K).W L;have C:=ak.W C L;have M:=M;have N:=((aH.F W).F K).F L;have bF:=aH.size;have bG:=W.size;have z3:=K.size;have bH:=N.size;have O:=a.lt;have aI:=q.lt;have aJ:=C.lt;have a2:=M.lt;rw[aF Ψ (a.cell rfl),aF Ψ (q.cell rfl)];refine(jv (i:=(u:Int)) (h.W N)).Y ?_;rintro _ bI _ ⟨⟨b,bJ,rfl,aK⟩,aL⟩;refine(mE).Y ?_;rintro _ X _ ⟨a6,aM,rfl,bK,aN⟩;have bL:=lr aK Ω (show s.d9[(u:Int).toNat]?=σ x by grind);have E:=aL.F a6;have z5:=aL.size;have z46:=E.size;have bM:=aN.lt;have a7:=p0 x;have ba:eS s u x (eC g x.un ((aG x).take 0))=s:=by
  unfold eS;show{s with d9:=s.d9.set u x}=s;have:s.d9.set u x=s.d9:=by
   apply Y2
   grind
  rw[this]
 refine ky.old ⟨_,sp,jG,#[Γ aM],_,_,_,_,λj I=>dx ax w af ag A R n w.heap.size (λr=>X.heap.size<=r) (eS s u x (eC g x.un ((aG x).take j))) I/\ai (λr=>r<w.heap.size\/X.heap.size<=r) X I,λ_ _ _=>False,rfl,(mD (g:=aM) aK.1).s,?_,
  λ_ _ J h=>⟨h.1.W J,h.2.W J⟩,λ_ _ _ J h=>⟨h.1.W J,h.2.F (J.aa _)⟩,by grind,⟨aN,aA.W (N.F E)⟩,?_,?_,?_,by grind,by grind⟩
 .grind
 .refine⟨?_,ai.refl _ _⟩;rw[ba];exact dx.start h aA aY aC (N.F E) (o6 _)
 .rintro _ j _ bb ⟨bc,bN⟩ ⟨bO,rfl,v,ac,bd⟩ ⟨P,G⟩;cases bd;intro bP Q _ _;have Y:(aG x)[j]?=σ (v:Int):=by grind
  have aO:=x7 Y;have a8:∀{H:x5}{g:Nat}{e:o4}{cs:List x4},Ext bb H->w.heap.size<=g->g<B.heap.size->ak B g e cs->ak H g e cs:=λJ be bf Z=>((Z.W E).aa G Ω).W J;obtain⟨bQ,bR,ad,aP,ae⟩:=P.open;have aQ:eB n (u:Int) (v:Int):=p7 aZ J aO;have bS:∀y∈aG x,0<=y/\y<x.un.length:=by grind [fu]
  have ah:=vq (g:=g) ((aG x).take j) x.un (v:Int) (by grind) (by grind) Ω;rw[m5 (zf a7 Y)]at ah;have bg:fs (eS s u x (eC g x.un ((aG x).take j))) (u:Int).toNat (v:Int).toNat=x.un.getD (v:Int).toNat 0:=by
   unfold fs eS;rw[u7,Z6 aE];exact ah
  rw[aF Ψ ((a8 Q Ω O a).cell rfl),aF Ψ ((a8 Q Ω aI q).cell rfl)];refine(pV (ad.W Q)).Y ?_;rintro _ bT _ ⟨rfl,bh⟩;rw[m3 aQ,bg,bA,bB];intro bi bj _ _;have f:=(Q.F bh).F bj;rw[aF Ψ ((a8 f Ω O a).cell rfl),aF Ψ ((a8 f Ω aI q).cell rfl),
   aF Ψ ((a8 f Ω a2 M).cell rfl),aF Ψ ((a8 f Ω O a).cell rfl),aF Ψ ((a8 f Ω aJ C).cell rfl)]
  show aq x8 F1 [Γ af,Δ (x.un.getD (v:Int).toNat 0),Δ c] bi _;obtain⟨bk,bl⟩:=h1 v aO;refine(bl (ad.W f)).Y ?_;rintro _ bU _ ⟨rfl,aS⟩;have an:=f.F aS;refine⟨.inl aS,(Fu (ad.W an) aP.room).Y ?_⟩;rintro r bV _ ⟨_,_,ao⟩;obtain⟨_,ap,aR,bm,bn,au,S⟩:=ao aQ bk;have e:lp (eS s u x (eC g x.un ((aG x).take j))) (u:Int).toNat (v:Int).toNat (g (x.un.getD (v:Int).toNat 0))=eS s u x (eC g x.un ((aG x).take (j+1))):=by
   rw[Gp Y,ah];unfold lp eS;rw[u7,Z6 aE]
   grind [List.set_set]
  rw[e]at S;have bW:=G.size;obtain⟨aT,aU,bX⟩:=ae (iF an ap) ((Grow.W an).F au) S aP.set (λr h=>h) Ω;exact⟨⟨bc.aa aU Ω,aT.2.1.1⟩,⟨aT,G.F aU⟩,by grind⟩
 .rintro k bp rfl ⟨P,G⟩;rw[j5 (by grind)]at P;obtain⟨bY,bZ,av,aV,ae⟩:=P.open;have a8:∀{H:x5}{g:Nat}{e:o4}{cs:List x4},Ext bp H->w.heap.size<=g->g<B.heap.size->ak B g e cs->ak H g e cs:=λJ be bf Z=>((Z.W E).aa G Ω).W J;intro b0 V _ _;have aw:=a8 V Ω O a;rw[aF Ψ (aw.cell rfl),aF Ψ (aw.cell rfl),aF Ψ (aw.cell rfl),aF Ψ ((a8 V Ω aJ C).cell rfl)];refine(pU (av.W V)).Y ?_;rintro _ bq _ ⟨rfl,ay⟩;have aW:=V.F ay;refine⟨.inl ay,?_⟩;show aq x8 F2 [Γ af,Δ s.zero,Δ c] bq _;refine(aD.2 (av.W aW)).Y ?_;rintro _ b1 _ ⟨rfl,aX⟩;have az:=aW.F aX;refine⟨.inl (ay.F aX),(Rj (av.W az) aV.room).Y ?_⟩;rintro r b2 _ ⟨_,ao⟩;obtain⟨_,ap,aR,bm,bn,au,S⟩:=ao aD.1;intro b3 bs _;exact(ae (iF az ap) ((Grow.W az).F au) S aV.set (by grind) λ_ _ _=>trivial).1.done bs
end
section
variable{w:x5}{af ag av:Nat}{A R:aj}{A9:Nat->aj}{aK:aj}{n:aI}{s u:am}{t:aB}{h:List aB}{cs:List x4}{a:fH}
theorem SO(hk:a.kind<2):bh n.k u a=match ds u a.i a.pos a.v with
  |none=>(u,1)
  |some (f,v,x)=>if dE n.k a.c (if a.kind=1 then x.un.getD a.v.toNat 0 else eL n.k u f a.pos.toNat a.v)≠0 then(u,dE n.k a.c (if a.kind=1 then x.un.getD a.v.toNat 0 else eL n.k u f a.pos.toNat a.v))
   else(fv u a.i.toNat f a.pos.toNat v.toNat x a.v (λg=>if a.kind=0 then cJ n.k g a.c else b2 n.k g a.c) λg=>if a.kind=0 then b2 n.k g a.c else cJ n.k g a.c,0):=by
 unfold bh;by_cases e:a.kind=0
 .rw[m3 e];simp only[e];cases ds u a.i a.pos a.v<;>rfl
 .have h1:a.kind=1:=Ω
  rw[m5 e,m3 h1];simp only[h1];cases ds u a.i a.pos a.v<;>rfl
theorem getD_some{i:Nat}(h:i<l.length):l[i]?=σ (l.getD i 0):=by
 rw[r8,v8 h];rfl
theorem SP(p:ci w af ag av A R A9 aK n s u t h cs)(G:bc n.k n.d6 u)(bO:bY u)(hk:a.kind<2):aq x8 wM [Γ av,Δ (a.kind:Int),Δ a.i,Δ a.pos,Δ a.v,Δ a.c] w λr I=>r=Δ (bh n.k u a).2/\cB w af ag av A R A9 aK n s t h (bh n.k u a).1 I:=by
 have C:=SO (n:=n) (u:=u) hk;have c3:=G.d9;have bQ:=G.eI;refine aE func73 ?_;have bS:cs[0]?=σ (Δ n.k):=by obtain⟨_,_,_,_,_,_,rfl,_⟩:=p.p2;rfl
 rw[aO aM.p 0 p.box bS,aW,ao];refine⟨λ_=>?_,λh=>Ω⟩;rw[b5];refine p.look.load λeO bU=>?_;refine(St bU G bO).Y ?_;rintro _ U _ ⟨aC,rfl⟩;cases ae:ds u a.i a.pos a.v with
 |none=>
  rw[ae]at C;simp only;rw[bA,bB,bR,X5,bT];exact⟨by rw[C],by rw[C];exact cB.same p aC⟩
 |some q=>
 obtain⟨f,P,x⟩:=q;rw[ae]at C;simp only;rw[bA,bB,bR,Y7,bb];obtain⟨j,pos,P,bV,bX,bZ,ah,c6,hu,J,ac,aS⟩:=zl ae;have aD:=x7 ah;simp only[bV,bX,bZ,u7]at C ⊢;have b1:=(x6.1 ah).1;have bn:=(x6.1 J).1;have b6:=(x6.1 hu).1;obtain⟨b7,c7⟩:=kR G aD;have b8:=F7 G aD aS;have b9:=(fu.1 ac).1;obtain⟨v,Q⟩:=W9 b9.1;have bo:=jd (v:=a.v.toNat) G J;have aG:=p.W aC;have bq:∀{ab:x5}{fe:am}{br:List x4}{bs:Nat->aj}{f2:bP},ci ab af ag av A R bs aK n s fe t h br->fe.ho[j]?=σ f2->∃S cap W aU y,br[6]?=σ (.slice (σ ⟨S,0,ν⟩) fe.ho.length cap)/\j<fe.ho.length/\ab.cell? ⟨S,0+j*4+0+0,ν⟩=σ W/\ab.cell? ⟨S,0+j*4+0+2,ν⟩=σ y/\aQ .i64 ab W f2.sc/\aQ .i64 ab y f2.cs/\
   ∀{I:x5}{m:Nat}{c:Int}{K:Unit->x5->Prop},Ext ab I->m<f2.cs.length->(∀bt,cB ab af ag av A R bs aK n s t h (en fe j f2 (f2.cs.set m c)) bt->K () bt)->ad x8 (n9 aA y (Δ (m:Int))) I λa=>aL x8 (o7 ay a (Δ c)) I K:=λca aH=>by
  obtain⟨S,cap,W,aU,y,cb,bu,cc,cd,V⟩:=Gd ca aH;exact⟨S,cap,W,aU,y,cb,(x6.1 aH).1,by rw[V0];exact bu 0 _ rfl,by rw[V0];exact bu 2 _ rfl,cc,cd,V⟩
 obtain⟨S,c8,W,aU,c9,ce,cf,cg,_,ch,_,_⟩:=bq aG ah;rw[aO aM.p 6 aG.box ce,e2 dA.u c5.i cf λ_=>rfl,aZ c5.p rfl,aZ bd.p rfl,aF Ψ cg,bp au.u al.i Ψ ch hu];generalize bw:(if a.kind=1 then x.un.getD a.v.toNat 0 else eL n.k u f pos a.v)=most at C;refine a6 (λr ab=>r=Δ most/\Ext w ab) ?_ λaz bx=>?_
 rotate_left
 .rw[bl,ao];refine⟨λh1=>?_,λh1=>bx _ _ ⟨by rw[<-bw,m5 Ω],aC⟩⟩;have h1:a.kind=1:=Ω
  obtain⟨aV,bC,y,aY,a1,aI,_⟩:=s3 aG J;rw[aO aM.p 5 aG.box aY,e2 c4.u aA.i bn λ_=>rfl,aF Ψ (by rw[V0,U3];exact a1),Q,bp aA.u ay.i Ψ aI (getD_some Ω)];refine bx _ _ ⟨?_,aC⟩;rw[<-bw,m3 h1,Q,u7]
 rintro _ ab ⟨rfl,cj⟩;refine BL.Y ?_;rintro _ da _ ⟨rfl,cl⟩;have X:=cj.F cl;have bD:cE a.c n.k↔0<=a.c/\a.c<=n.k:=⟨λh=>h.2,λaH=>⟨bQ,aH⟩⟩;rw[bR,b4];refine⟨λY=>?_,λY=>?_⟩
 .have cn:¬cE a.c n.k:=by simpa using Y
  have E:dE n.k a.c most=3:=by unfold dE;rw[m3 λh=>cn (bD.2 h)]
  rw[m3 (by rw[E];decide),E]at C;exact⟨by rw[C],by rw[C];exact cB.same p X⟩
 have bE:=bD.1 (show cE a.c n.k by simpa using Y);rw[bW,ao];refine⟨λcp=>?_,λcq=>?_⟩
 .have E:dE n.k a.c most=7:=by unfold dE;rw[m5 (λh=>h bE),m3 cp]
  rw[m3 (by rw[E];decide),E]at C;exact⟨by rw[C],by rw[C];exact cB.same p X⟩
 have E:dE n.k a.c most=0:=by unfold dE;rw[m5 (λh=>h bE),m5 cq]
 rw[m5 (λh=>h E)]at C;have cr:=p.W X;rw[b5];refine cr.look.load λdb ct=>?_;refine(Gc ct G ah b6 aS).Y ?_;rintro aX a2 _ ⟨cu,a7,cw⟩;have bF:=X.F cu;rw[ba au.u a7];have bG:(na u f pos a.v).length=(cm u f.sc pos a.v).length:=by unfold na;rw[r9]
 rw[bG];obtain⟨tup,a8⟩:∃tup:Int->Int,tup=λg=>if a.kind=0 then cJ n.k g a.c else b2 n.k g a.c:=⟨_,rfl⟩;obtain⟨un,be⟩:∃un:Int->Int,un=λg=>if a.kind=0 then b2 n.k g a.c else cJ n.k g a.c:=⟨_,rfl⟩;rw[<-a8,<-be]at C;have cz:=p.olds.W bF;have dc:=p.box.lt;have de:=X.size;have cA:∀{I:x5},ai (λr=>(∃q,A9 q r/\r<w.heap.size)\/r=av) a2 I->aQ .i64 I aX (na u f pos a.v):=λcC=>jm a7 cC λr E b n c e Y=>by
  have:=cw r ⟨b,n,c,e,Y⟩;rcases E with⟨q,E⟩|E
  .have:=E.2;omega
  .omega
 refine b3.range (cm u f.sc pos a.v).length (λq I=>cB a2 af ag av A R (λq r=>A9 q r/\r<w.heap.size) aK n s t h (en u j f (ek tup ((cm u f.sc pos a.v).take q) f.an f.cs)) I) (by rw[<-bG];exact a7.le) ?_ ?_ ?_
 .rw[List.take_zero,Gk G ah];exact cB.same cz (Ext.refl _)
 .rintro q Z cD cF aN cG;obtain⟨tl,bf⟩:=aJ (l:=cm u f.sc pos a.v) cF;obtain⟨m,hm⟩:=rf G aD aS (x7 bf);have cH:(na u f pos a.v)[q]?=σ (m:Int):=by
   unfold na;rw[u4,bf];unfold p4;rw[Y6,hm];rfl
  obtain⟨bH,bI⟩:=F8 G ah b8 bf hm;have cI:=(x6.1 (ou b7 hm)).1;have df:m<f.cs.length:=by rw[u7]at cI;omega
  obtain⟨V,cK,bL,O,bg⟩:=id aN;obtain⟨bJ,bM⟩:∃bJ,bJ=ek tup ((cm u f.sc pos a.v).take q) f.an f.cs:=⟨_,rfl⟩;have dg:bJ.length=f.cs.length:=by rw[bM,q7 _ _ _ _ Ω]
  rw[<-bM]at O bH bI;have bN:(en u j f bJ).ho[j]?=σ {f with cs:=bJ}:=Z6 b1;obtain⟨aP,cL,dh,di,cM,cN,cO,_,bi,_,cP,cQ⟩:=bq O bN;have cR:bJ[m]?=σ (bz f.an f.cs tl):=by
   rw[getD_some Ω,<-bH];unfold bz;rw[hm];simp
  have dj:=nV (t:=tl) G aD;have dk:bL[0]?=σ (Δ n.k):=by obtain⟨_,_,_,_,_,_,rfl,_⟩:=O.p2;rfl
  have cS:=cA V;refine bK Ω ?_;refine dd (λH=>cB a2 af ag av A R (λq r=>A9 q r/\r<w.heap.size) aK n s t h (en u j f (ek tup ((cm u f.sc pos a.v).take (q+1)) f.an f.cs)) H) (λH N=>by rw[aT];exact cG _ N) λcT cU=>?_;have ak:∀{L:x5},Ext Z L->ad x8 (n9 aA cM (Δ (m:Int))) L λa'=>aL x8 (o7 ay a' (Δ (tup (bz f.an f.cs tl)))) L λ(_:Unit)H=>cT H:=λbj=>by
   refine cQ bj (by show m<bJ.length;omega) λH N=>cU _ (cB.comp V bg ?_);have cV:en (en u j f bJ) j {f with cs:=bJ} (bJ.set m (tup (bz f.an f.cs tl)))=lq (en u j f bJ) j m (tup (bz f.an f.cs tl)):=by unfold lq;rw[bN];rfl
   rw[cV,bI]at N;exact N
  have row:∀{z:x5}{K:x4->x4->x4->x4->x4->x4->Prop},Ext Z z->K (Γ av) (.pointer (σ ⟨av,0+6,ν⟩)) (.slice (σ ⟨aP,0,ν⟩) (en u j f bJ).ho.length cL) (.pointer (σ ⟨aP,0+j*4,ν⟩)) (.pointer (σ ⟨aP,0+j*4+0,ν⟩)) (.pointer (σ ⟨aP,0+j*4+0+2,ν⟩))->
    ad x8 (b0 (Γ av)) z λap=>ad x8 (u6 aM ap 6) z λaw=>ad x8 (u5 dA aw) z λax=>ad x8 (n9 dA ax (Δ (j:Int))) z λaB=>ad x8 (u6 c5 aB 0) z λaR=>ad x8 (u6 bd aR 2) z λcW=>K ap aw ax aB aR cW:=λJ bk=>by
   rw[aO aM.p 6 (O.box.W J) cN,e2 dA.u c5.i cO λ_=>rfl,aZ c5.p rfl,aZ bd.p rfl];exact bk
  rw[bp au.u al.i Ψ cS cH];refine row (Ext.refl _) ?_;rw[aF Ψ bi,bp aA.u ay.i Ψ cP cR,bl,ao];refine⟨λbm=>?_,λbm=>?_⟩
  .intro z B _ _;refine row B ?_;rw[aF Ψ (kd B bi)];refine(vH Ω Ω).Y ?_;rintro _ L _ ⟨rfl,M⟩;refine⟨.inl M,?_⟩;have:=ak (B.F M);rw[a8]at this;simp only[m3 (show a.kind=0 by omega)]at this;exact this
  .intro z B _ _;refine row B ?_;rw[aF Ψ (kd B bi)];refine(ox Ω Ω).Y ?_;rintro _ L _ ⟨rfl,M⟩;refine⟨.inl M,?_⟩;have:=ak (B.F M);rw[a8]at this;simp only[m5 (show¬a.kind=0 by omega)]at this;exact this
 .rintro Z cD aN;rw[o9]at aN;refine ck Ω ?_;obtain⟨V,cK,bL,O,bg⟩:=id aN;have cX:(en u j f (ek tup (cm u f.sc pos a.v) f.an f.cs)).d9[P]?=σ x:=J;obtain⟨aV,bC,y,aY,a1,aI,cY⟩:=s3 O cX;refine dd (λH=>cB w af ag av A R A9 aK n s t h (fv u j f pos P x a.v tup un) H) (λH N=>⟨by rw[C],by rw[C];exact N⟩) λcZ c0=>?_;have c1:P<(en u j f (ek tup (cm u f.sc pos a.v) f.an f.cs)).d9.length:=bn;have row:∀{z:x5}{K:x4->x4->x4->x4->x4->Prop},Ext Z z->K (Γ av) (.pointer (σ ⟨av,0+5,ν⟩)) (.slice (σ ⟨aV,0,ν⟩) (en u j f (ek tup (cm u f.sc pos a.v) f.an f.cs)).d9.length bC) (.pointer (σ ⟨aV,0+P*1,ν⟩)) y->
    ad x8 (b0 (Γ av)) z λap=>ad x8 (u6 aM ap 5) z λaw=>ad x8 (u5 c4 aw) z λax=>ad x8 (n9 c4 ax (Δ (P:Int))) z λaB=>ad x8 (u5 aA aB) z λaR=>K ap aw ax aB aR:=λJ bk=>by
   rw[aO aM.p 5 (O.box.W J) aY,e2 c4.u aA.i c1 λ_=>rfl,aF Ψ (by rw[V0,U3];exact kd J a1)];exact bk
  have ak:∀{L:x5},Ext Z L->ad x8 (n9 aA y (Δ (v:Int))) L λa'=>aL x8 (o7 ay a' (Δ (un (x.un.getD v 0)))) L λ(_:Unit)H=>cZ H:=λbj=>by
   refine cY bj Ω λH N=>c0 _ ?_;have c2:=cB.comp V bg N.zj;have:=cB.comp (bF.aa _) (λq r E=>.inl ⟨q,E.1⟩) c2;unfold fv;rw[show a.v.toNat=v by omega];exact this
  rw[bl,ao];refine⟨λbm=>?_,λbm=>?_⟩
  .intro z B _ _;refine row B (row B ?_);rw[Q,bp aA.u ay.i Ψ (aI.W B) (getD_some Ω)];rw[Q,u7]at bo;refine(ox Ω Ω).Y ?_;rintro _ L _ ⟨rfl,M⟩;refine⟨.inl M,?_⟩;have:=ak (B.F M);rw[be]at this;simp only[m3 (show a.kind=0 by omega)]at this;exact this
  .intro z B _ _;refine row B (row B ?_);rw[Q,bp aA.u ay.i Ψ (aI.W B) (getD_some Ω)];rw[Q,u7]at bo;refine(vH Ω Ω).Y ?_;rintro _ L _ ⟨rfl,M⟩;refine⟨.inl M,?_⟩;have:=ak (B.F M);rw[be]at this;simp only[m5 (show¬a.kind=0 by omega)]at this;exact this
end
section
variable{ax:List aB}{w:x5}{af ag:Nat}{A R:aj}{n:aI}{s:am}{t:aB}{a:fH}
theorem cz.step{aR:aj}{s':am}{bu:aB}(h:bC w af ag A R n s t)(f:Laid w)(e:¬A 0)(J:Ext w U)(j:ai (eR U) U ab)(a:Grow A U aR ab)(q:bC ab af ag aR R n s' bu)(aC:eo ax bu):cz ax w af ag A R n s' ab:=by
 refine⟨iF J j,iz a.1 e (f.W J),aR,bu,(Grow.W J).F a,q,aC,λr=>(a.2.1 0 r).elim e λx=>?_⟩;obtain⟨y,z,B,C,⟨h1,_⟩,_⟩:=h.1;have:=h.lt (.inl h1);have:=J.size;omega
theorem zo(hk:a.kind=2):bh n.k s a=match jz s a.i with
  |none=>(s,1)
  |some x=>if dE n.k a.c (jc x)≠0 then(s,dE n.k a.c (jc x))else(iM s a.i.toNat x (λg=>cJ n.k g a.c) λg=>b2 n.k g a.c,0):=by
 unfold bh jz;rw[m5 Ω,m5 Ω,m3 hk];cases (if 0<=a.i then s.d9[a.i.toNat]? else ν)with
 |none=>rfl
 |some x=>
  simp only;by_cases e:x.gone=0
  .rw[m5 Ω,m3 e]
  .rw[m3 e,m5 e]
theorem zp(hk:a.kind=3):bh n.k s a=match jz s a.i with
  |none=>(s,1)
  |some x=>if dE n.k a.c (if aG x=[]then-1 else s.zero)≠0 then(s,dE n.k a.c (if aG x=[]then-1 else s.zero))else(iM s a.i.toNat x (λg=>b2 n.k g a.c) λg=>cJ n.k g a.c,0):=by
 unfold bh jz;rw[m5 Ω,m5 Ω,m5 Ω,m3 hk];cases (if 0<=a.i then s.d9[a.i.toNat]? else ν)with
 |none=>rfl
 |some x=>
  simp only;by_cases e:x.gone=0
  .rw[m5 Ω,m3 e]
  .rw[m3 e,m5 e]
theorem Gs(hk:a.kind=2)(h:bC w af ag A R n s t)(M:Laid w)(X:¬A 0)(aC:eo ax t):aq x8 IY [Γ af,Δ a.i,Δ a.c] w (p8 ax w af ag A R n s a):=by
 have C:=h.2.2.2.1;have e:=zo (n:=n) (s:=s) hk;refine jh func76 ?_;refine br λg1 U bD aw E=>?_;refine br λaA ab bE Y G=>?_;have E:=ak.W E Y;have G:=G;have Z:=aw.F Y;have bG:=aw.size;have bH:=Y.size;have bI:=E.lt;have bJ:=G.lt;rw[aF Ψ (E.cell rfl),aF Ψ (G.cell rfl)];refine(Gq (h.W Z)).Y ?_;rintro _ bK _ ⟨ad,rfl⟩;have a1:=Z.F ad;have z3:=ad.size;cases ac:jz s a.i with
 |none=>
  rw[ac]at e;rw[m5 Ξ,bO,ao];refine⟨λ_=>?_,λh=>m6 Φ h⟩;intro a2 a7 _;exact⟨by rw[e],by rw[e];exact cz.same h M X aC (a1.F a7)⟩
 |some x=>
 rw[ac]at e;simp only at e;obtain⟨aB,J,bL⟩:=zn ac;obtain⟨u,hu⟩:=W9 aB;rw[hu,u7]at J;rw[hu,u7]at e;rw[m3 (by rfl),bO,ao];refine⟨λh=>m6 rfl h,λ_=>?_⟩;refine bF ay.i λaD bM bN aE aH=>?_;refine bs ay.i rfl rfl aH (by simp[x4.cells]) λaI ae bP N=>?_;have N:=N;have z5:=aE.size;have bQ:=aH.lt;have ah:=ad.F aE;have aj:ak aI g1 eD [Γ af]:=(E.W ah).aa ae Ω;have am:ak aI aA al [Δ a.i]:=(G.W ah).aa ae Ω;have O:=(Z.F ah).then ae (by rintro r aJ rfl;omega);rw[aF Ψ (aj.cell rfl),aF Ψ (am.cell rfl)];refine(jv (i:=a.i) (h.W O)).Y ?_;rintro _ bR _ ⟨⟨b,bS,rfl,aK⟩,aL⟩;refine(mE).Y ?_;rintro _ a8 _ ⟨ba,aM,rfl,bT,aN⟩;have aO:=lr aK aB (show s.d9[a.i.toNat]?=σ x by rw[hu,u7];exact J);have f:=aL.F ba;have bU:=aL.size;have bV:=aN.lt;have bW:=N.lt;have aP:∀j (v:Nat),(aG x)[j]?=σ (v:Int)->(((aG x).take (j+1)).map λv=>x.un.getD v.toNat 0).foldl l7 (-1)=l7 ((((aG x).take j).map λv=>x.un.getD v.toNat 0).foldl l7 (-1)) (x.un.getD v 0):=λj v aQ=>by
  rw[u9,aQ,j4,Z0,List.foldl_append];rfl
 refine ky.old ⟨_,sp,jG,#[Γ aM],_,_,_,_,λj I=>ai (λr=>r=aD) a8 I/\ak I aD ay [Δ ((((aG x).take j).map λv=>x.un.getD v.toNat 0).foldl l7 (-1))],λ_ _ _=>False,rfl,(mD (g:=aM) aK.1).s,?_,
  λ_ _ J h=>⟨h.1.W J,h.2.W J⟩,λ_ _ _ J h=>⟨h.1.F (J.aa _),h.2.W J⟩,λ_ _ _ _ _ h=>h,⟨aN,M.W (O.F f)⟩,⟨ai.refl _ _,N.W f⟩,?_,?_,λ_ _ h=>h.elim,λ_ _ _ h=>h.elim⟩
 .rintro _ _ _ _ ⟨_,_,_,_,rfl⟩;rfl
 .rintro _ j _ bX ⟨aS,aT⟩ ⟨aQ,rfl,v,bb,bc⟩ ⟨y,P⟩;cases bc;intro bY aU _ _;have an:(aG x)[j]?=σ (v:Int):=by rw[<-aO,u4,bb];rfl
  have bd:=p7 C J (x7 an);have ap:=y.F (aU.aa _);have be:=(O.F f).then ap (by rintro r aJ rfl;omega);rw[aF Ψ (((aj.W f).aa ap Ω).cell rfl),aF Ψ (((am.W f).aa ap Ω).cell rfl)];refine(pV (h.W be)).Y ?_;rintro _ bf _ ⟨rfl,bg⟩;have bi:fs s a.i.toNat (v:Int).toNat=x.un.getD v 0:=by
   unfold fs;rw[hu,u7,J];rfl
  rw[m3 (by rw[hu];exact bd),bi,bA,bB];have H:=aU.F bg;have K:=P.W H;refine a6 (λr bj=>(r= .bool (decide ((((aG x).take j).map λv=>x.un.getD v.toNat 0).foldl l7 (-1)<0\/x.un.getD v 0<(((aG x).take j).map λv=>x.un.getD v.toNat 0).foldl l7 (-1))))/\bj=bf) ?_ λaz L=>?_
  .rintro _ _ ⟨rfl,rfl⟩;rw[ao];refine⟨λQ=>?_,λS=>?_⟩
   .refine bs ay.i rfl rfl K Ξ λbZ bk b0 bm=>?_;have q:=(H.aa _).F bk;refine⟨⟨aS.aa q Ω,iz q Ω aT⟩,⟨y.F q,?_⟩,λh=>by cases h⟩;rw[aP j v an];unfold l7 at Q ⊢;rw[m3 Q];exact bm
   .refine⟨⟨aS.W H,aT.W H⟩,⟨y.F (H.aa _),?_⟩,λh=>by cases h⟩;rw[aP j v an];unfold l7 at S K ⊢;rw[m5 S];exact K
  rw[aF Ψ (K.cell rfl),aW,ao];refine⟨λQ=>L _ _ ⟨by rw[ms (Or.inl Q)],rfl⟩,λS=>?_⟩;rw[aF Ψ (K.cell rfl),aW];refine L _ _ ⟨?_,rfl⟩;congr 1;exact decide_eq_decide.2 ⟨.inr,λh=>h.resolve_left S⟩
 .rintro k aV rfl ⟨y,P⟩;rw[j5 (by rw[<-aO,r9];exact o6 _),SN λv _=>(jd C J).1]at P;have aX:=(O.F f).then y (by rintro r aJ rfl;omega);have aY:ak aV g1 eD [Γ af]:=(aj.W f).aa y Ω;have bn:ak aV aA al [Δ a.i]:=(am.W f).aa y Ω;rw[aF Ψ (aY.cell rfl),aF Ψ (P.cell rfl)];refine(vE (h.W aX)).Y ?_;rintro _ b1 _ ⟨au,rfl⟩;have V:=aX.F au;refine dd (λI=>cz ax w af ag A R n (bh n.k s a).1 I) ?_ λaz L=>?_
  .intro I bo b3 W _;obtain⟨bp,bq,aR,bu,bt,bw,bx⟩:=bo;refine⟨?_,bp.F (W.aa _),bq.W W,aR,bu,bt.F (Grow.W W),bw.W W,bx⟩;rw[e];split
   .rfl
   .rename_i B;rw[X1.1 B]
  rw[bl,ao];refine⟨λB=>?_,λB=>L _ ?_⟩
  .obtain⟨q,hm⟩:=m7 (λh=>h B);rw[aF Ψ ((aY.W au).cell rfl),aF Ψ ((bn.W au).Qz rfl),hu];refine(Gr (t:=t) (u:=u) (F1:=pf) (F2:=pg) (g:=λg=>cJ n.k g a.c) (z:=λg=>b2 n.k g a.c) (h.W V) (M.W V) X aC J (λv ac=>?_) ⟨oR C.zero q.1,λ{w A s' t}av=>sZ av C.zero q⟩).Y ?_
   .have aZ:=jd (v:=v.toNat) C J;exact⟨oQ aZ ⟨q.1,y5 ac hm⟩,λ{w A s t}av=>vF av aZ q (.inr (y5 ac hm))⟩
   .rintro _ a2 _ bz;refine L _ ?_;rw[e,m5 (λh=>h B)];exact bz.before V
  .rw[e,m3 B];exact cz.same h M X aC V
theorem SQ{b m:Nat}{i:Int}{x:bo}(f:vf s n i b m)(hi:0<=i)(J:s.d9[i.toNat]?=σ x):b=0↔aG x=[]:=by
 have a:=lr f hi J;constructor
 .rintro rfl;rw[<-a];have:gV 0 m=[]:=List.eq_nil_iff_forall_not_mem.2 λv ac=>by
   have:=(xl.1 ac).2;simp at this
  rw[this];rfl
 .intro he;rw[he]at a;have ac:=List.map_eq_nil_iff.1 a;refine Nat.eq_of_testBit_eq λj=>?_;rw[Nat.zero_testBit];cases e:b.testBit j with
  |false=>rfl
  |true=>
   have q:j<m:=by
    rcases Nat.lt_or_ge j m with h|h
    .exact h
    .have:=Nat.testBit_lt_two_pow (Nat.lt_of_lt_of_le f.1.2 (T2 Ω h));rw[this]at e;cases e
   have:j∈gV b m:=xl.2 ⟨q,e⟩;rw[ac]at this;cases this
theorem SR(hk:a.kind=3)(h:bC w af ag A R n s t)(E:Laid w)(G:¬A 0)(aC:eo ax t):aq x8 IZ [Γ af,Δ a.i,Δ a.c] w (p8 ax w af ag A R n s a):=by
 have H:=h.2.2.2.1;have f:=zp (n:=n) (s:=s) hk;refine aE func77 ?_;refine(Gq h).Y ?_;rintro _ U _ ⟨K,rfl⟩;cases ac:jz s a.i with
 |none=>
  rw[ac]at f;rw[m5 Ξ,bO,ao];exact⟨λ_=>⟨by rw[f],by rw[f];exact cz.same h E G aC K⟩,λh=>m6 Φ h⟩
 |some x=>
 rw[ac]at f;simp only at f;obtain⟨M,J,ah⟩:=zn ac;rw[m3 (by rfl),bO,ao];refine⟨λh=>m6 rfl h,λ_=>?_⟩;refine(pU (h.W K)).Y ?_;rintro _ ab _ ⟨rfl,X⟩;have N:=K.F X;refine a6 (λr I=>r=Δ (if aG x=[]then-1 else s.zero)/\Ext w I) ?_ λaz y=>?_
 .rintro _ ai ⟨rfl,O⟩;refine(vE (h.W O)).Y ?_;rintro _ aj _ ⟨Y,rfl⟩;have B:=O.F Y;refine dd (λI=>cz ax w af ag A R n (bh n.k s a).1 I) ?_ λaz y=>?_
  .intro I Z;refine⟨?_,Z⟩;rw[f];generalize (if aG x=[]then(-1:Int)else s.zero)=ak;split
   .rfl
   .rename_i j;rw[X1.1 j]
  rw[bl,ao];refine⟨λj=>?_,λj=>y _ ?_⟩
  .obtain⟨C,hm⟩:=m7 (λh=>h j);have P:a.c<=s.zero:=by
    split at hm
    .omega
    .exact hm
   obtain⟨u,hu⟩:=W9 M;rw[hu,u7]at J;rw[hu];refine(Gr (t:=t) (u:=u) (F1:=pg) (F2:=pf) (g:=λg=>b2 n.k g a.c) (z:=λg=>cJ n.k g a.c) (h.W B) (E.W B) G aC J (λv ac=>?_) ⟨oQ H.zero ⟨C.1,P⟩,λ{w A s' t}L=>vF L H.zero C (.inr P)⟩).Y ?_
   .have Q:=jd (v:=v.toNat) H J;exact⟨oR Q C.1,λ{w A s t}L=>sZ L Q C⟩
   .rintro _ al _ aa;refine y _ ?_;rw[f,m5 (λh=>h j),hu,u7];exact aa.before B
  .rw[f,m3 j];exact cz.same h E G aC B
 refine(jv (i:=a.i) (h.W N)).Y ?_;rintro _ am _ ⟨⟨b,an,rfl,S⟩,ad⟩;refine(jj S.1).Y ?_;rintro _ ap _ ⟨⟨q,rfl,T⟩,ae⟩;have V:=(N.F ad).F ae;have W:=SQ S M J;rw[bl,ao];refine⟨λh=>y _ _ ⟨by rw[m3 (W.1 (T.1 h))],V⟩,λh=>y _ _ ⟨by rw[m5 λe=>h (T.2 (W.2 e))],V⟩⟩
theorem Gt(hk:a.kind=4)(h:bC w af ag A R n s t)(f:Laid w)(j:¬A 0)(aC:eo ax t):aq x8 I0 [Γ af,Δ a.i,Δ a.v] w (p8 ax w af ag A R n s a):=by
 have q:=h.2.2.2.1;have e:bh n.k s a=match dD s a.i a.v with
  |none=>(s,1)
  |some x=>if b2 n.k s.zero (x.un.getD a.v.toNat 0)<n.k then(s,7)else(dX s a.i.toNat a.v.toNat,0):=by
  unfold bh;rw[m5 Ω,m5 Ω,m5 Ω,m5 Ω,m3 hk]<;>cases dD s a.i a.v<;>rfl
 refine aE func78 ?_;refine(zg h).Y ?_;rintro _ U _ ⟨z,rfl⟩;cases ac:dD s a.i a.v with
 |none=>
  rw[ac]at e;rw[m5 Ξ,bO,ao];exact⟨λ_=>⟨by rw[e],by rw[e];exact cz.same h f j aC z⟩,λh=>m6 Φ h⟩
 |some x=>
 rw[ac]at e;simp only at e;obtain⟨X,J,Y,I⟩:=j1 ac;rw[m3 (by rfl),bO,ao];refine⟨λh=>m6 rfl h,λ_=>?_⟩;have C:eB n a.i a.v:=by
  have:=p7 q J I;rwa [show((a.i.toNat:Nat):Int)=a.i by omega]at this
 refine(pV (h.W z)).Y ?_;rintro _ ab _ ⟨rfl,K⟩;have L:fs s a.i.toNat a.v.toNat=x.un.getD a.v.toNat 0:=by
  unfold fs;rw[J]
 rw[m3 C,L,bA,bB];have E:=z.F K;refine(pU (h.W E)).Y ?_;rintro _ Z _ ⟨rfl,M⟩;have G:=E.F M;refine(sZ (h.W G) q.zero (jd q J)).Y ?_;rintro _ aa _ ⟨rfl,N⟩;have H:=G.F N;refine(nS (h.W H)).Y ?_;rintro _ ad _ ⟨rfl,O⟩;have B:=H.F O;rw[aW,ao];refine⟨λP=>?_,λQ=>?_⟩
 .rw[m3 P]at e;exact⟨by rw[e],by rw[e];exact cz.same h f j aC B⟩
 .rw[m5 Q]at e;refine(yL (h.W B) aC.room).Y ?_;rintro r ae _ ⟨_,S⟩;obtain⟨rfl,T,aR,y,V,W⟩:=S C;refine⟨by rw[e],?_⟩;rw[e];exact cz.step h f j B T V W aC.set
theorem SS(hk:5<=a.kind)(h:bC w af ag A R n s t)(O:Laid w)(V:¬A 0)(aC:eo ax t):aq x8 I1 [Γ af,Δ a.i,Δ a.v] w (p8 ax w af ag A R n s a):=by
 have av:=h.2.2.2.1;have q:bh n.k s a=match dD s a.i a.v with
  |none=>(s,1)
  |some x=>(gY s a.i.toNat a.v (aG x),0):=by
  unfold bh;rw[m5 Ω,m5 Ω,m5 Ω,m5 Ω,m5 Ω]<;>cases dD s a.i a.v<;>rfl
 refine jh func79 ?_;refine br λg1 U aX W z=>?_;refine br λaY ab aZ P B=>?_;refine br λa1 Q a2 K C=>?_;have z:ak Q g1 eD [Γ af]:=(ak.W z P).W K;have B:=ak.W B K;have C:=C;have L:=(W.F P).F K;have a6:=W.size;have a7:=P.size;have z3:=K.size;have aw:=z.lt;have ay:=B.lt;have az:=C.lt;rw[aF Ψ (z.cell rfl),aF Ψ (B.cell rfl),aF Ψ (C.cell rfl)];refine(zg (h.W L)).Y ?_;rintro _ ba _ ⟨E,rfl⟩;have X:=L.F E;have z4:=E.size;cases ac:dD s a.i a.v with
 |none=>
  rw[ac]at q;rw[m5 Ξ,bO,ao];refine⟨λ_=>?_,λh=>m6 Φ h⟩;intro bb aA _;exact⟨by rw[q],by rw[q];exact cz.same h O V aC (X.F aA)⟩
 |some x=>
 rw[ac]at q;simp only at q;obtain⟨aB,J,bc,bd⟩:=j1 ac;rw[m3 (by rfl),bO,ao];refine⟨λh=>m6 rfl h,λ_=>?_⟩;rw[aF Ψ ((z.W E).cell rfl),aF Ψ ((B.W E).Qz rfl)];refine(jv (i:=a.i) (h.W X)).Y ?_;rintro _ be _ ⟨⟨b,aD,rfl,Y⟩,Z⟩;refine(mE (b:=b) (n:=aD)).Y ?_;rintro _ S _ ⟨aE,ad,rfl,bf,ae⟩;have ah:=lr Y aB J;have M:=(E.F Z).F aE;have bg:=Z.size;have bi:=M.size;have bj:=ae.lt;refine ky.old ⟨_,sp,jG,#[Γ ad],_,_,_,_,λj I=>dx ax w af ag A R n w.heap.size (λr=>S.heap.size<=r) (gY s a.i.toNat a.v ((aG x).take j)) I/\ai (λr=>r<w.heap.size\/S.heap.size<=r) S I,λ_ _ _=>False,rfl,(mD (g:=ad) Y.1).s,?_,
  λ_ _ J h=>⟨h.1.W J,h.2.W J⟩,λ_ _ _ J h=>⟨h.1.W J,h.2.F (J.aa _)⟩,λ_ _ _ _ _ h=>h,⟨ae,O.W (L.F M)⟩,⟨dx.start h O V aC (L.F M) (o6 _),ai.refl _ _⟩,?_,?_,λ_ _ h=>h.elim,λ_ _ _ h=>h.elim⟩
 .rintro _ _ _ _ ⟨_,_,_,_,rfl⟩;rfl
 .rintro _ j _ bk ⟨aj,aH⟩ ⟨bl,rfl,v,aI,aJ⟩ ⟨G,H⟩;cases aJ;intro aK f _ _;have al:(aG x)[j]?=σ (v:Int):=by rw[<-ah,u4,aI];rfl
  have aL:eB n a.i (v:Int):=by
   have:=p7 av J (x7 al);rwa [show((a.i.toNat:Nat):Int)=a.i by omega]at this
  have a8:∀{g:Nat}{e:o4}{cs:List x4},w.heap.size<=g->g<Q.heap.size->ak Q g e cs->ak aK g e cs:=λaM aN aO=>((aO.W M).aa H Ω).W f;have N:=SL (s:=s) (i:=a.i.toNat) (v:=a.v) al;obtain⟨bm,bn,aP,am,aQ⟩:=G.open;rw[aF Ψ ((a8 Ω az C).cell rfl),bO,ao];refine⟨λaS=>?_,λhe=>?_⟩
  .rw[m3 aS]at N;rw[aF Ψ ((a8 Ω aw z).cell rfl),aF Ψ ((a8 Ω ay B).cell rfl)];refine(yL (aP.W f) am.room).Y ?_;rintro r bo _ ⟨_,aT⟩;obtain⟨rfl,aU,aR,y,aV,an⟩:=aT aL;rw[<-N]at an;have bp:=H.size;obtain⟨ap,au,bq⟩:=aQ (iF f aU) ((Grow.W f).F aV) an am.set (λr h=>h) λr aM aN=>Ω
   exact⟨⟨aj.aa au Ω,ap.2.1.1⟩,⟨ap,H.F au⟩,λh=>by cases h⟩
  .rw[m5 he]at N;exact⟨⟨aj.W f,aH.W f⟩,⟨by rw[N];exact G.W f,H.F (f.aa _)⟩,λh=>by cases h⟩
 .rintro k bs rfl ⟨G,H⟩;rw[j5 (by rw[<-ah,r9];exact o6 _)]at G;intro bt aW _;exact⟨by rw[q],by rw[q];exact G.done aW⟩
end
theorem SU{dy:x4}(h:aQ .i64 w dy l)(E:l.length<=1000000):aq x8 JB [dy,Δ v] w λr I=>Ext w I/\(∃g,aH .i64 al I g r (l.filter λy=>!decide (y=v)))/\∀q,lc r q->w.heap.size<=q:=by
 refine aE func142 ?_;rw[ba au.u h];refine cp.range l.length (λi out a=>Ext w a/\(∃g,aH .i64 al a g out ((l.take i).filter λy=>!decide (y=v)))/\∀r,lc out r->w.heap.size<=r) h.le ⟨Ext.refl _,⟨0,aH.nil _ _ _ _⟩,λr z=>by obtain⟨_,_,_,e,_⟩:=z;cases e⟩ ?_ ?_
 .rintro q out a A B ⟨f,⟨g,hm⟩,j⟩ G;obtain⟨y,C⟩:=aJ (l:=l) B;have H:(l.take (q+1)).filter (λy=>!decide (y=v))=(l.take q).filter (λy=>!decide (y=v))++(if y≠v then[y]else[]):=by
   grind [u9]
  refine bK Ω ?_;refine a6 (λs x=>Ext w x/\(∃g,aH .i64 al x g s ((l.take (q+1)).filter λy=>!decide (y=v)))/\∀r,lc s r->w.heap.size<=r) (λ_ _ J=>by rw[aT];grind) λaz K=>?_;rw[bp au.u al.i Ψ (h.W f) C,bO,ao];refine⟨λL=>?_,by grind⟩;refine Gb f hm j ?_ (by grind)
  grind
 .rintro out a A ⟨f,hm,j⟩;rw[o9]at hm;refine ck Ω ?_
  grind
theorem zq{i:Nat}{v:Int}:∀(L:Λ)(s:am)(x:bo),s.d9[i]?=σ x->(∀y∈L,0<=y)->∃m,gY s i v L={s with d9:=s.d9.set i {x with mask:=m}}/\aG {x with mask:=m}=(aG x).filter λy=>!(decide (y∈L)&& !decide (y=v))
 |[],s,x,J,_=>by
  refine⟨x.mask,?_,(List.filter_eq_self.2 λy _=>Ξ).symm⟩;have:s.d9.set i x=s.d9:=by
   apply Y2
   grind
  show s={s with d9:=s.d9.set i x};rw[this]
 |w::L,s,x,J,h=>by
  have hw:=h w (.head _);have j:=(x6.1 J).1;rw[gY];by_cases e:w≠v
  .rw[m3 e];have a:dX s i w.toNat={s with d9:=s.d9.set i {x with mask:=((x.mask.toNat ||| 2 ^ w.toNat:Nat):Int)}}:=by grind [dX]
   obtain⟨m,h1,f⟩:=zq L (dX s i w.toNat) {x with mask:=((x.mask.toNat ||| 2 ^ w.toNat:Nat):Int)} (by rw[a];exact Z6 j) (by grind);refine⟨m,?_,?_⟩
   .rw[h1,a]
    grind [List.set_set]
   .rw[f,y4 hw,List.filter_filter]
    grind
  .rw[m5 e];obtain⟨m,h1,f⟩:=zq L s x J (by grind);refine⟨m,h1,?_⟩
   grind
theorem filter_one(a:l.Nodup)(ac:v∈l):l.filter (λy=>decide (y=v))=[v]:=by
 induction l<;>grind [List.filter_eq_nil_iff]
def kU(u:am)(a:fH):Option bo:=if 3<a.kind then dD u a.i a.v else jz u a.i
section
variable{w:x5}{af ag av:Nat}{A R:aj}{A9:Nat->aj}{aK:aj}{n:aI}{s u:am}{t:aB}{h:List aB}{cs:List x4}{a:fH}
theorem Gu{x:bo}(h:kU u a=σ x):0<=a.i/\u.d9[a.i.toNat]?=σ x/\x.gone=0/\(3<a.kind->a.v∈aG x):=by
 unfold kU at h;split at h
 .obtain⟨h1,e,f,j⟩:=j1 h
  grind
 .rename_i hk;obtain⟨h1,e,f⟩:=zn h
  grind
theorem SV(h:¬(0<=a.i/\a.i<u.d9.length)):kU u a=ν:=by
 cases he:kU u a with
 |none=>rfl
 |some x=>
  obtain⟨h1,e,_⟩:=Gu he
  grind
theorem SX{x:bo}(e:0<=a.i)(J:u.d9[a.i.toNat]?=σ x):kU u a=if x.gone=0/\(3<a.kind->a.v∈aG x)then σ x else ν:=by
 grind [kU,dD,jz]
theorem SY(hk:2<=a.kind/\a.kind<=5)(h:kU u a=ν):bh n.k u a=(u,1):=by
 grind [kU,bh,zo,zp]
theorem Gv{x:bo}(f:0<=c):jc x<c↔aG x=[]\/∃v∈aG x,x.un.getD v.toNat 0<c:=by
 unfold jc;constructor
 .intro h;cases a:aG x with
  |nil=>grind
  |cons b l=>
   refine .inr ?_;rw[a]at h;simp only[List.map_cons]at h;by_cases j:∀v∈b::l,c<=x.un.getD v.toNat 0
   .have:=(oP (l.map λv=>x.un.getD v.toNat 0) (x.un.getD b.toNat 0) c).2 (by grind);omega
   grind
 .rintro (h|⟨v,ac,q⟩)
  .grind
  .cases a:aG x with
   |nil=>grind
   |cons b l=>
    rw[a]at ac;simp only[List.map_cons];rcases Int.lt_or_le ((l.map λv=>x.un.getD v.toNat 0).foldl min (x.un.getD b.toNat 0)) c with ax|ax
    .exact ax
    .obtain⟨r,e⟩:=(oP _ _ _).1 ax;rcases List.mem_cons.1 ac with rfl|ac
     .omega
     .have:=e _ (l9.2 ⟨v,ac,rfl⟩);omega
def zr(n:aI)(u:am)(x:bo)(a:fH):Prop:=aG x=[]\/(a.kind=3/\u.zero<a.c)\/(a.kind=2/\∃v∈aG x,x.un.getD v.toNat 0<a.c)
theorem SZ{x:bo}(hk:a.kind=2\/a.kind=3)(h:kU u a=σ x):(¬(0<=a.c/\a.c<=n.k)->bh n.k u a=(u,3))/\((0<=a.c/\a.c<=n.k)->zr n u x a->bh n.k u a=(u,7))/\
  ((0<=a.c/\a.c<=n.k)->¬zr n u x a->bh n.k u a=(iM u a.i.toNat x (λg=>if a.kind=2 then cJ n.k g a.c else b2 n.k g a.c) (λg=>if a.kind=2 then b2 n.k g a.c else cJ n.k g a.c),0)/\(a.kind=2->∀v∈aG x,a.c<=x.un.getD v.toNat 0)/\(a.kind=3->a.c<=u.zero)):=by
 have ac:jz u a.i=σ x:=by grind [kU]
 rcases hk with hk|hk
 .have f:=zo (n:=n) (s:=u) hk;rw[ac]at f;simp only at f;simp only[hk];refine⟨λe=>?_,λe hi=>?_,λe hi=>?_⟩
  .grind [dE]
  .have j:=(Gv e.1).2 (hi.elim .inl (by grind))
   grind [dE]
  .have j:¬jc x<a.c:=λh=>hi (((Gv e.1).1 h).elim .inl λh=>.inr (.inr ⟨hk,h⟩));have r:dE n.k a.c (jc x)=0:=by grind [dE]
   rw[r,m5 Φ]at f;refine⟨by grind,λ_ v ac=>?_,Ω⟩;rcases Int.lt_or_le (x.un.getD v.toNat 0) a.c with ax|ax
   .exact m6 (.inr (.inr ⟨hk,v,ac,ax⟩)) hi
   .exact ax
 .have f:=zp (n:=n) (s:=u) hk;rw[ac]at f;simp only at f;simp only[hk];refine⟨λe=>?_,λe hi=>?_,λe hi=>?_⟩
  .grind [dE]
  .have j:(if aG x=[]then-1 else u.zero)<a.c:=by
    by_cases q:aG x=[]
    .grind
    .rw[m5 q];rcases hi with hi|hi|hi
     all_goals grind
   grind [dE]
  .have q:¬aG x=[]:=λh=>hi (.inl h);have w:¬u.zero<a.c:=λh=>hi (.inr (.inl ⟨hk,h⟩))
   grind [dE]
end
section
variable{w:x5}{af ag av:Nat}{A R:aj}{A9:Nat->aj}{aK:aj}{n:aI}{s u:am}{t:aB}{h:List aB}{cs:List x4}{a:fH}
theorem Ta(p:ci w af ag av A R A9 aK n s u t h cs)(an:bc n.k n.d6 u)(hk:2<=a.kind/\a.kind<=5):aq x8 wM [Γ av,Δ (a.kind:Int),Δ a.i,Δ a.pos,Δ a.v,Δ a.c] w λr I=>r=Δ (bh n.k u a).2/\cB w af ag av A R A9 aK n s t h (bh n.k u a).1 I:=by
 have cu:=an.d9;have cw:=an.eI;refine aE func73 ?_;have bM:cs[0]?=σ (Δ n.k):=by obtain⟨_,_,_,_,_,_,rfl,_⟩:=p.p2;rfl
 rw[aO aM.p 0 p.box bM,aW,ao];refine⟨λh=>Ω,λ_=>?_⟩;refine a6 (λr I=>r= .bool (!(kU u a).isSome)/\Ext w I) ?_ λaz a7=>?_
 rotate_left
 .rw[b5];refine p.look.load λeO cz=>?_;refine(RM cz).Y ?_;rintro _ U _ ⟨rfl,W⟩;rw[bR,b4];refine⟨λO=>a7 _ _ ⟨by rw[SV (λh=>by rw[cu]at h;rw[ms h]at O;cases O)];rfl,W⟩,λO=>?_⟩;have a8:0<=a.i/\a.i<n.d6.length:=by simpa using O
  obtain⟨x,J⟩:=aJ (l:=u.d9) (i:=a.i.toNat) Ω;have br:=SX a8.1 J;obtain⟨hv,cA,dm,aU,dn,bs,bN,_,_,cC,cD,dp,dq,dr⟩:=(p.look).W W;rw[aO aM.p 4 bN rfl];refine kf (i:=a.i.toNat) rfl Ω jH.u eg.i Ψ cD (by rw[u4,J];rfl) λbO bt=>?_;have bt:[bO]=[x4.bool (decide (x.gone≠0))]:=bt;obtain rfl:bO=x4.bool (decide (x.gone≠0)):=by simpa using bt
  rw[ao];refine⟨λP=>a7 _ _ ⟨by rw[br,m5 λh=>P h.1];rfl,W⟩,λP=>?_⟩;have P:=X1.1 P;rw[bW,ao];refine⟨λbu=>?_,λbu=>a7 _ _ ⟨by rw[br,m3 ⟨P,λh=>m6 h Ω⟩];rfl,W⟩⟩;rw[aO aM.p 3 bN rfl];refine kf (a:=aG x) (i:=a.i.toNat) rfl Ω cq.u au.i Ψ cC (by rw[u4,J];rfl) λds cF=>?_;refine(vj (ew cF)).Y ?_;rintro _ ab _ ⟨rfl,H⟩;rw[bR];refine a7 _ _ ⟨?_,W.F H⟩;rw[br];by_cases ac:a.v∈aG x
  .rw[m3 ⟨P,λ_=>ac⟩,ms ac];rfl
  .rw[m5 λh=>ac (h.2 Ω),rc ac];rfl
 rintro _ U ⟨rfl,W⟩;cases hm:kU u a with
 |none=>
  have f:=SY (n:=n) hk hm;rw[S4,X5,bT];exact⟨by rw[f],by rw[f];exact cB.same p W⟩
 |some x=>
 rw[T8,Y7,bb];obtain⟨cG,J,dt,cH⟩:=Gu hm;obtain⟨C,aH⟩:=W9 cG;rw[aH,u7]at J;have bw:=(x6.1 J).1;have E:∀y∈aG x,0<=y/\y<x.un.length:=λy N=>(fu.1 N).1;simp only[aH];have bP:∀v:Nat,0<=x.un.getD v 0/\x.un.getD v 0<=n.k:=λv=>jd an J;have M:=p.W W;have du:=bM;have bx:∀{ab:x5}{fe:am}{bQ:List x4}{bz:Nat->aj}{aI:bo},ci ab af ag av A R bz aK n s fe t h bQ->fe.d9[C]?=σ aI->∃aU ap y,aQ .i64 ab y aI.un/\(∀{j:x5}{K:x4->x4->x4->x4->x4->Prop},Ext ab j->K (Γ av) (.pointer (σ ⟨av,0+5,ν⟩)) aU (.pointer (σ ⟨ap,0+C*1,ν⟩)) y->
    ad x8 (b0 (Γ av)) j λaw=>ad x8 (u6 aM aw 5) j λaB=>ad x8 (u5 c4 aB) j λaN=>ad x8 (n9 c4 aN (Δ (C:Int))) j λbd=>ad x8 (u5 aA bd) j λcI=>K aw aB aN bd cI)/\
   ∀{I:x5}{v:Nat}{c:Int}{K:Unit->x5->Prop},Ext ab I->v<aI.un.length->(∀bS,kT ab af ag av A R bz aK n s t h (eS fe C aI (aI.un.set v c)) bS->K () bS)->ad x8 (n9 aA y (Δ (v:Int))) I λa=>aL x8 (o7 ay a (Δ c)) I K:=λ{ab fe bQ bz aI}bU B=>by
  obtain⟨ap,cK,y,cL,cM,Z,bA⟩:=s3 bU B;have cN:=(x6.1 B).1;refine⟨.slice (σ ⟨ap,0,ν⟩) fe.d9.length cK,ap,y,Z,λ{j K}aC aV=>?_,bA⟩;rw[aO aM.p 5 (bU.box.W aC) cL,e2 c4.u aA.i cN λ_=>rfl,aF Ψ (by rw[V0,U3];exact kd aC cM)];exact aV
 obtain⟨cO,cP,bB,bV,cQ,ae,cR,bX⟩:=Gf M J;have bY:∀{j:x5}{K:x4->x4->x4->Prop},Ext U j->K (Γ av) (.pointer (σ ⟨av,0+3,ν⟩)) (.slice (σ ⟨cO,0,ν⟩) u.d9.length cP)->
   ad x8 (b0 (Γ av)) j λaw=>ad x8 (u6 aM aw 3) j λaB=>ad x8 (u5 cq aB) j λaN=>K aw aB aN:=λaC aV=>by
  rw[aO aM.p 3 (M.box.W aC) bV];exact aV
 have p3:∀{j:x5}{K:x4->Prop},Ext U j->K bB->
   ad x8 (b0 (Γ av)) j λaw=>ad x8 (u6 aM aw 3) j λaB=>ad x8 (u5 cq aB) j λaN=>ad x8 (n9 cq aN (Δ (C:Int))) j λbd=>ad x8 (u5 au bd) j K:=λaC aV=>by
  rw[aO aM.p 3 (M.box.W aC) bV,e2 cq.u au.i bw λ_=>rfl,aF Ψ (by rw[V0,U3];exact kd aC cQ)];exact aV
 have low:∀{u':am}{I:x5},cB U af ag av A R A9 aK n s t h u' I->cB w af ag av A R A9 aK n s t h u' I:=λbe=>cB.comp (W.aa _) (λq r E=>.inl ⟨q,E⟩) be;refine a6 (λ_ I=>cB w af ag av A R A9 aK n s t h (bh n.k u a).1 I/\(bh n.k u a).2=0) (λ_ I be=>⟨by rw[be.2],be.1⟩) λcS bC=>?_;refine a6 (λr I=>r= .bool (decide (a.kind=2\/a.kind=3))/\U=I) ?_ λdv bZ=>?_
 rotate_left
 .rw[bl,ao];refine⟨λB=>bZ _ _ ⟨?_,rfl⟩,λB=>?_⟩
  .congr 1;exact decide_eq_decide.2 ⟨λ_=>.inl Ω,λ_=>B⟩
  .rw[bl];refine bZ _ _ ⟨?_,rfl⟩;congr 1;exact decide_eq_decide.2 ⟨λh=>.inr Ω,λh=>Ω⟩
 rintro _ _ ⟨rfl,rfl⟩;rw[ao];refine⟨λcT=>?_,λdw=>?_⟩
 .
  obtain⟨cU,bf,bD⟩:=SZ cT hm;refine BL.Y ?_;rintro _ ab _ ⟨rfl,H⟩;have dx:=H;have b1:cE a.c n.k↔0<=a.c/\a.c<=n.k:=⟨λh=>h.2,λB=>⟨cw,B⟩⟩;rw[bR,b4];refine⟨λO=>?_,λO=>?_⟩
  .have f:=cU λh=>m6 (b1.2 h) (by simpa using O);exact⟨by rw[f],by rw[f];exact low (cB.same M H)⟩
  have a8:=b1.1 (show cE a.c n.k by simpa using O);have bf:=bf a8;have bD:=bD a8;refine a6 (λr I=>Ext U I/\∃b,r= .bool b/\(b=s2↔aG x=[]\/(a.kind=3/\u.zero<a.c))) ?_ λdy bE=>?_
  rotate_left
  .refine p3 H ?_;rw[ba au.u (ae.W H),bl,ao];refine⟨λhe=>bE _ _ ⟨H,s2,rfl,⟨λ_=>.inl (b8 Ω),λ_=>rfl⟩⟩,λbg=>?_⟩;have bg:aG x≠[]:=λh=>bg (by rw[h];rfl);rw[bl,ao];refine⟨λbu=>?_,λbu=>bE _ _ ⟨H,sp,rfl,⟨(λh=>by cases h),λh=>h.elim (λh=>m6 h bg) λh=>Ω⟩⟩⟩;have bF:cs[2]?=σ (Δ u.zero):=by obtain⟨_,_,_,_,_,_,rfl,_⟩:=p.p2;rfl
   rw[aO aM.p 2 (M.box.W H) bF,bW];exact bE _ _ ⟨H,_,rfl,by rw[ro];exact⟨λh=>.inr ⟨Ω,h⟩,λh=>h.elim (λh=>m6 h bg) λh=>h.2⟩⟩
  rintro _ cV ⟨aP,b,rfl,b6⟩;rw[b4];refine⟨λcW=>?_,λah=>?_⟩
  .have f:=bf ((b6.1 cW).elim .inl λh=>.inr (.inl h));exact⟨by rw[f],by rw[f];exact low (cB.same M aP)⟩
  have b7:¬(aG x=[]\/(a.kind=3/\u.zero<a.c)):=λh=>by rw[b6.2 h]at ah;cases ah
  refine p3 aP ?_;rw[ba au.u (ae.W aP)];refine cp.range (aG x).length (λq _ I=>Ext U I/\(a.kind=2->∀v∈(aG x).take q,a.c<=x.un.getD v.toNat 0)) ae.le ⟨aP,λ_ v ac=>by simp at ac⟩ ?_ ?_
  .rintro q b9 aD cX bG ⟨L,bi⟩ cY;obtain⟨v,ac⟩:=aJ (l:=aG x) bG;have ak:=x7 ac;have bj:=E v ak;obtain⟨G,rfl⟩:=W9 bj.1;refine bK Ω ?_;rw[bp au.u al.i Ψ (ae.W L) ac];refine a6 (λr I=>aD=I/\r= .bool (decide (a.kind=2/\x.un.getD G 0<a.c))) ?_ λdz cb=>?_
   .rintro _ _ ⟨rfl,rfl⟩;rw[ao];refine⟨λaX=>?_,λbH=>?_⟩
    .have f:=bf (.inr (.inr ⟨aX.1,_,ak,aX.2⟩));exact⟨by rw[f],by rw[f];exact low (cB.same M L)⟩
    .rw[aT];refine cY _ _ ⟨L,λB y N=>?_⟩;rw[u9,ac,j4,j9,Y4]at N;rcases N with N|rfl
     .exact bi B y N
     .rcases Int.lt_or_le (x.un.getD G 0) a.c with ax|ax
      .exact m6 ⟨B,ax⟩ bH
      .exact ax
   rw[bl,ao];refine⟨λB=>?_,λB=>cb _ _ ⟨rfl,by rw[rc λh=>B Ω]⟩⟩;obtain⟨aU,ap,y,Z,look,_⟩:=bx (M.W L) J;refine look (Ext.refl _) ?_;rw[bp aA.u ay.i Ψ Z (getD_some (i:=G) Ω),bW];refine cb _ _ ⟨rfl,?_⟩;congr 1;exact decide_eq_decide.2 ⟨λh=>⟨Ω,h⟩,λh=>h.2⟩
  rintro b9 aD cX ⟨L,bi⟩;rw[o9]at bi;have cZ:¬zr n u x a:=λhi=>hi.elim (λh=>b7 (.inl h)) λh=>h.elim (λh=>b7 (.inr h)) λ⟨B,v,ac,aX⟩=>by have:=bi B v ac;omega
  obtain⟨f,dA,dC⟩:=bD cZ;rw[aH,u7]at f;refine ck Ω ?_;refine p3 L ?_;rw[ba au.u (ae.W L)];obtain⟨g,P⟩:∃g:Int->Int,g=λg=>if a.kind=2 then cJ n.k g a.c else b2 n.k g a.c:=⟨_,rfl⟩;obtain⟨z,bI⟩:∃z:Int->Int,z=λg=>if a.kind=2 then b2 n.k g a.c else cJ n.k g a.c:=⟨_,rfl⟩;rw[<-P,<-bI]at f;have c0:=M.W L;have c1:=ae.W L;have cc:=p0 x;obtain⟨cd,dE⟩:∃cd,bB=cd:=⟨_,rfl⟩;have c2:eS u C x (eC g x.un ((aG x).take 0))=u:=by
   unfold eS;show{u with d9:=u.d9.set C x}=u;have:u.d9.set C x=u.d9:=by
    apply Y2;intro i;by_cases e:C=i
    .subst e;rw[Z6 bw,J]
    .rw[Y8 e]
   rw[this]
  have c3:∀{I:x5},ai (A9 2) aD I->aQ .i64 I bB (aG x):=λc5=>jm c1 c5 λr E b n c e O=>M.ii.1 0 2 r Φ (cR r ⟨b,n,c,e,O⟩) E;refine b3.range (aG x).length (λq I=>kT aD af ag av A R A9 aK n s t h (eS u C x (eC g x.un ((aG x).take q))) I) ae.le (by rw[c2];exact kT.same c0 (Ext.refl _)) ?_ ?_
  .rintro q bk c6 bG aR c7;obtain⟨bm,c8,ce,aS,bJ,c9⟩:=id aR;obtain⟨v,ac⟩:=aJ (l:=aG x) bG;have ak:=x7 ac;have bj:=E v ak;obtain⟨G,rfl⟩:=W9 bj.1;have bn:(eS u C x (eC g x.un ((aG x).take q))).d9[C]?=σ {x with un:=eC g x.un ((aG x).take q)}:=Z6 bw;have dF:(eC g x.un ((aG x).take q)).length=x.un.length:=vp _ _;have bL:=vq (g:=g) ((aG x).take q) x.un (G:Int) (cc.sublist (List.take_sublist _ _)) (λy N=>E y (List.mem_of_mem_take N)) Ω;rw[m5 (zf cc ac),u7]at bL;have da:=bP G;obtain⟨aU,ap,y,Z,look,bA⟩:=bx aS bn;refine bK Ω ?_;refine dd (λQ=>kT aD af ag av A R A9 aK n s t h (eS u C x (eC g x.un ((aG x).take (q+1)))) Q) (λQ S=>by rw[aT];exact c7 _ S) λdb dc=>?_;have aY:∀{V:x5},Ext bk V->ad x8 (n9 aA y (Δ (G:Int))) V λa'=>aL x8 (o7 ay a' (Δ (g (x.un.getD G 0)))) V λ(_:Unit)Q=>db Q:=λbq=>by
    refine bA bq (by show G<(eC g x.un ((aG x).take q)).length;omega) λQ S=>dc _ (kT.comp bm bJ c9 ?_);have e:eS (eS u C x (eC g x.un ((aG x).take q))) C {x with un:=eC g x.un ((aG x).take q)} ((eC g x.un ((aG x).take q)).set G (g (x.un.getD G 0)))=eS u C x (eC g x.un ((aG x).take (q+1))):=by
     rw[Gp ac,u7,bL];unfold eS;simp only[List.set_set]
    rw[e]at S;exact S
   have cf:(eC g x.un ((aG x).take q))[G]?=σ (x.un.getD G 0):=by rw[getD_some Ω,bL]
   rw[bp au.u al.i Ψ (c3 bm) ac,bl,ao];refine⟨λB=>?_,λB=>?_⟩
   .intro j X _ _;refine look X (look X ?_);rw[bp aA.u ay.i Ψ (Z.W X) cf];refine(vH Ω Ω).Y ?_;rintro _ V _ ⟨rfl,Y⟩;refine⟨.inl Y,?_⟩;have:=aY (X.F Y);rw[P]at this;simp only[m3 (show a.kind=2 by omega)]at this;exact this
   .intro j X _ _;refine look X (look X ?_);rw[bp aA.u ay.i Ψ (Z.W X) cf];refine(ox Ω Ω).Y ?_;rintro _ V _ ⟨rfl,Y⟩;refine⟨.inl Y,?_⟩;have:=aY (X.F Y);rw[P]at this;simp only[m5 (show¬a.kind=2 by omega)]at this;exact this
  .rintro bk c6 aR;rw[o9]at aR;refine ck Ω ?_;have aR:=aR.zj;obtain⟨bm,c8,ce,aS,bJ⟩:=id aR;have cg:ce[2]?=σ (Δ u.zero):=by obtain⟨_,_,_,_,_,_,rfl,_⟩:=aS.p2;rfl
   have de:=an.zero;have aY:∀{V:x5},Ext bk V->aL x8 (o7 ay (.pointer (σ ⟨av,0+2,ν⟩)) (Δ (z u.zero))) V λ(_:Unit)Q=>cS b9 Q:=λbq=>by
    refine Ge (aS.W bq) λQ S=>bC _ _ ⟨?_,by rw[f]⟩;rw[f];have ch:=cB.comp (bq.aa _) (λq r E=>.inl ⟨q,E⟩) S;have a1:=cB.comp bm bJ ch;exact low (cB.comp (L.aa _) (λq r E=>.inl ⟨q,E⟩) a1)
   rw[bl,ao];refine⟨λB=>?_,λB=>?_⟩
   .rw[aO aM.p 2 aS.box cg];refine(ox Ω Ω).Y ?_;rintro _ V _ ⟨rfl,Y⟩;rw[b5,aZ aM.p rfl];have:=aY Y;rw[bI]at this;simp only[m3 (show a.kind=2 by omega)]at this;exact this
   .rw[aO aM.p 2 aS.box cg];refine(vH Ω Ω).Y ?_;rintro _ V _ ⟨rfl,Y⟩;rw[b5,aZ aM.p rfl];have:=aY Y;rw[bI]at this;simp only[m5 (show¬a.kind=2 by omega)]at this;exact this
 .
  have cj:3<a.kind:=Ω
  have ak:=cH cj;obtain⟨G,bs⟩:=W9 (E _ ak).1;have bj:=(E _ ak).2;have cl:dD u a.i a.v=σ x:=by unfold kU at hm;rwa [m3 cj]at hm
  rw[bl,ao];refine⟨λa1=>?_,λa1=>?_⟩
  .have a1:a.kind=4:=Ω
   have f:bh n.k u a=if b2 n.k u.zero (x.un.getD a.v.toNat 0)<n.k then(u,7)else(dX u a.i.toNat a.v.toNat,0):=by
    unfold bh;rw[m5 Ω,m5 Ω,m5 Ω,m5 Ω,m3 a1,cl]
   have de:=an.zero;have da:=bP G;intro ab H _ _;have bF:cs[2]?=σ (Δ u.zero):=by obtain⟨_,_,_,_,_,_,rfl,_⟩:=p.p2;rfl
   obtain⟨aU,ap,y,Z,look,_⟩:=bx (M.W H) J;rw[aO aM.p 2 (M.box.W H) bF];refine look (Ext.refl _) ?_;rw[bs,bp aA.u ay.i Ψ Z (getD_some Ω)];refine(ox Ω Ω).Y ?_;rintro _ cV _ ⟨rfl,aP⟩;have cm:=H.F aP;rw[bs,u7]at f;unfold b2 at f;rw[aW,ao];refine⟨λaX=>?_,λbH=>?_⟩
   .rw[m3 aX]at f;exact⟨by rw[f],by rw[f];exact low (cB.same M cm)⟩
   .rw[m5 bH]at f;intro aD L _ _;have a2:=cm.F L;refine bY a2 ?_;refine p3 a2 ?_;have dG:=vG x;have df:=an.eQ.2.2;refine(SU (ae.W a2) (by
     obtain⟨cn,cr⟩:=aJ (l:=n.d6) (i:=C) Ω;have h1:=(an.var C x cn J cr).1;have B:=df cn (x7 cr);omega)).Y ?_
    rintro cA bk _ ⟨bn,⟨gz,dg⟩,dh⟩;refine⟨.inl bn,?_⟩;have di:=a2.F bn;have dH:=a2.size;refine bX (m:=((x.mask.toNat ||| 2 ^ G:Nat):Int)) di (gz:=gz) (by rw[show G=(G:Int).toNat from rfl,y4 Ω];exact dg) (λr E=>by have:=dh r E;omega) λQ S=>bC _ _ ⟨?_,by rw[f]⟩;rw[f,aH,u7];unfold dX;rw[J];exact low S
  .have ch:a.kind=5:=Ω
   obtain⟨m,dj,dk⟩:=zq (i:=a.i.toNat) (v:=a.v) (aG x) u x (by rw[aH,u7];exact J) λy N=>(E y N).1;have f:bh n.k u a=(gY u a.i.toNat a.v (aG x),0):=by
    unfold bh;rw[m5 Ω,m5 Ω,m5 Ω,m5 Ω,m5 Ω,cl]
   have dl:aG {x with mask:=m}=[a.v]:=by
    rw[dk,<-filter_one (p0 x) ak];refine List.filter_congr λy N=>?_;rw[ms N,S7,Bool.not_not]
   rw[bl,ao];refine⟨λ_=>?_,λh=>Ω⟩;refine bY (Ext.refl _) ?_;refine e3 au.u al.i rfl λv4 dI aD dJ L ct=>?_;refine bX L (by rw[dl];exact ct) (λr E=>by have:=ca ct E;omega) λQ S=>bC _ _ ⟨?_,by rw[f]⟩;rw[f,dj,aH,u7];exact low S
end
def jA(A R:aj)(A9:Nat->aj)(aK:aj)(av:Nat)(r:Nat):Prop:=A r\/R r\/(∃q,A9 q r)\/aK r\/r=av
section
variable{P:aj}{gw w I:x5}{af ag av VI VJ VK:Nat}{A R aR R':aj}{A9 cD:Nat->aj}{aK FT:aj}{n:aI}{s s':am}{t bu:aB}{h be:List aB}{cs bJ:List x4}{m bV:Nat}
variable{Z l8:aj}
end
theorem rh(h:Laid w):0<w.heap.size:=by
 rcases Nat.eq_zero_or_pos w.heap.size with a|a
 .have e:=h 0 _ rfl
  grind [x5.cell?]
 .exact a
def fx(Z aK:aj)(w:x5)(af ag av:Nat)(n:aI)(s:am):Prop:=∃A R A9 t cs,ci w af ag av A R A9 aK n s s t [] cs/\(Laid w/\¬Z 0)/\(bY s/\dH (cY n) s/\n.ho.length<=256)/\(∀r,Z r↔jA A R A9 aK av r)/\∀q r,A9 q r->r<w.heap.size
section
variable{Z aK S:aj}{w I U:x5}{af ag av:Nat}{A R:aj}{A9:Nat->aj}{n:aI}{s u:am}{t:aB}{cs:List x4}
theorem fx.W(h:fx Z aK w af ag av n s)(J:Ext w I):fx Z aK I af ag av n s:=by
 obtain⟨A,R,A9,t,cs,p,⟨a,e⟩,f,j,x⟩:=h;exact⟨A,R,A9,t,cs,p.W J,⟨a.W J,e⟩,f,j,λq r y=>by have:=x q r y;have:=J.size;omega⟩
theorem fx.side(h:fx Z aK w af ag av n s)(a:ai S w I)(C:∀r,Z r->¬S r)(f:¬S 0):fx Z aK I af ag av n s:=by
 obtain⟨A,R,A9,t,cs,p,⟨j,x⟩,y,z,B⟩:=h;refine⟨A,R,A9,t,cs,p.side a λr _ e=>?_,⟨iz a f j,x⟩,y,z,λq r e=>by have:=B q r e;have:=a.size;omega⟩
 grind [jA]
theorem fx.ok(h:fx Z aK w af ag av n s):bc n.k n.d6 s/\bY s/\dH (cY n) s/\n.ho.length<=256:=by
 obtain⟨A,R,A9,t,cs,p,_,a,_⟩:=h;exact⟨p.dG.2.2.2.1,a⟩
theorem fx.look(h:fx Z aK w af ag av n s):mZ w av n.k n.d6 s:=by
 obtain⟨A,R,A9,t,cs,p,_⟩:=h;exact p.look
theorem fx.step{U:x5}(p:ci w af ag av A R A9 aK n s u t [] cs)(y:∀r,Z r↔jA A R A9 aK av r){u':am}(B:bY u'/\dH (cY n) u'/\n.ho.length<=256)(M:¬Z 0)(C:cB w af ag av A R A9 aK n s t [] u' U)(J:Ext U I)(hm:cz [] I af ag A R n u' ab):ai (λr=>Z r/\¬aK r) w ab/\∃l8,(∀r,l8 r->Z r\/w.heap.size<=r)/\fx l8 aK ab af ag av n u':=by
 obtain⟨z,cD,bJ,E,F⟩:=C;obtain⟨f,N,aR,bu,j,G,aC,O⟩:=hm;have P:=z.size;have Q:=J.size;have z3:=f.size;have x:=E.W J;have H:=x.prog f j G aC.1 (by grind) Ω x.box.lt;have S:=p.Ga;have K:ai (λr=>Z r/\¬aK r) w ab:=(((z.Y (T:=λr=>Z r/\¬aK r) λr _ h=>⟨(y r).2 (h.elim (λh=>.inr (.inr (.inl h))) λh=>.inr (.inr (.inr (.inr h)))),h.elim (by grind) λh be=>(p.read r be).2.2 h⟩)).F (J.aa _)).F
  ((vr j.1 f).Y λr _ h=>⟨(y r).2 (.inl h.1),λbe=>(x.read r be).1 h.2⟩)
 have V:=p.box.lt;have e:∀{r:Nat}{X:Prop},(X->jA A R A9 aK av r)->X->Z r\/w.heap.size<=r:=by grind
 have L:∀r,jA aR R (λq r=>cD q r/\r<I.heap.size) aK av r->Z r\/w.heap.size<=r:=by
  intro r a;rcases a with a|a|⟨q,a,_⟩|a|a
  .exact (j.2.1 r a).elim (e .inl) Ω
  .exact e (λh=>.inr (.inl h)) a
  .exact (F q r a).elim (e λh=>.inr (.inr (.inl h))) .inr
  .exact e (λh=>.inr (.inr (.inr (.inl h)))) a
  .exact e (λh=>.inr (.inr (.inr (.inr h)))) a
 exact⟨K,λr=>jA aR R (λq r=>cD q r/\r<I.heap.size) aK av r,L,aR,R,_,bu,bJ,H,by grind,B,λr=>Iff.rfl,Ω⟩
theorem Tb(h:bY s/\dH (cY n) s/\n.ho.length<=256)(a:bc n.k n.d6 s)(m:fH):bY (bh n.k s m).1/\dH (cY n) (bh n.k s m).1/\n.ho.length<=256:=
 ⟨(vu a h.1).2.1,h.2.1.F (vy a),h.2.2⟩
theorem Tc{m:fH}(p:ci w af ag av A R A9 aK n s u t [] cs)(a:bc n.k n.d6 u)(e:bY u)(hk:m.kind<=5):aq x8 wM [Γ av,Δ (m.kind:Int),Δ m.i,Δ m.pos,Δ m.v,Δ m.c] w λr I=>r=Δ (bh n.k u m).2/\cB w af ag av A R A9 aK n s t [] (bh n.k u m).1 I:=by
 by_cases h:m.kind<2
 .exact SP p a e h
 .exact Ta p a Ω
theorem Td{e:x5}{av:Nat}{j:x4}{cs:List x4}{f:cg}(w:vC B ab j cs f)(J:Ext ab e)(x:ak e av aM cs)(y:ab.heap.size<=av)(F:B<=ab.heap.size)(G:0<B)(z:Laid e):
  ∃af ag Z aK,j=Γ af/\fx Z aK e af ag av (cA f) (cY (cA f))/\∀r,Z r->B<=r:=by
 obtain⟨af,ag,A,R,A9,aK,t,rfl,p,_,H,I,_,_,C,_,K,L⟩:=Sn w J x y;have E:=p.olds;have s:∀r,jA A R (λq r=>A9 q r/\r<e.heap.size) aK av r->B<=r:=by
  intro r a;rcases a with a|a|⟨q,a,_⟩|a|a
  all_goals grind
 exact⟨af,ag,_,aK,rfl,⟨A,R,_,t,cs,E,⟨z,λh=>by have:=s 0 h;omega⟩,⟨F9 _,dH.rfl,C⟩,λr=>Iff.rfl,λq r a=>a.2⟩,s⟩
end
section
variable{ax:List aB}{w U ab:x5}{af ag av:Nat}{A R S Z aK:aj}{n:aI}{s s0 s1:am}{cs:List x4}
theorem cz.open(h:cz ax w af ag A R n s1 U):∃a e,bC U af ag a R n s1 e/\Laid U/\¬a 0/\eo ax e/\∀{f:am}{ab:x5},cz ax U af ag a R n f ab->cz ax w af ag A R n f ab:=by
 obtain⟨h1,j,a,e,q,r,s,x⟩:=h;refine⟨a,e,r,j,x,s,λ{f ab}k=>?_⟩;obtain⟨y,z,B,C,E,F,G,H⟩:=k;exact⟨u3 h1 y,z,B,C,q.F E,F,G,H⟩
theorem cz.W(h:cz ax w af ag A R n s1 U)(J:Ext U ab):cz ax w af ag A R n s1 ab:=by
 obtain⟨j,q,h1,a,e,f,k⟩:=h.open;exact k (.same h1 a e f J)
def j2(ax:List aB)(Z aK:aj)(w:x5)(af ag av:Nat)(n:aI)(s s0:am)(cs:List x4):Prop:=∃A R A9 t,ci w af ag av A R A9 aK n s s0 t ax cs/\(Laid w/\¬Z 0/\s5 t)/\(∀r,Z r↔jA A R A9 aK av r)/\∀q r,A9 q r->r<w.heap.size
theorem j2.lt(h:j2 ax Z aK w af ag av n s s0 cs):∀r,Z r->r<w.heap.size:=by
 obtain⟨A,R,A9,t,p,_,e,f⟩:=h;intro r a;rcases(e r).1 a with a|a|⟨q,a⟩|a|a
 .exact nU p.dG r (.inl a)
 .exact nU p.dG r (.inr a)
 .grind
 .exact (p.read r a).2.1
 .subst a;exact p.box.lt
theorem j2.W(h:j2 ax Z aK w af ag av n s s0 cs)(J:Ext w U):j2 ax Z aK U af ag av n s s0 cs:=by
 obtain⟨A,R,A9,t,p,⟨a,e⟩,f,j⟩:=h;exact⟨A,R,A9,t,p.W J,⟨a.W J,e⟩,f,λq r x=>by have:=j q r x;have:=J.size;omega⟩
theorem j2.side(h:j2 ax Z aK w af ag av n s s0 cs)(a:ai S w U)(B:∀r,Z r->¬S r)(f:¬S 0):j2 ax Z aK U af ag av n s s0 cs:=by
 obtain⟨A,R,A9,t,p,⟨j,x⟩,y,z⟩:=h;refine⟨A,R,A9,t,p.side a λr _ e=>?_,⟨iz a f j,x⟩,y,λq r e=>by have:=z q r e;have:=a.size;omega⟩
 grind [jA]
theorem j2.ok(h:j2 ax Z aK w af ag av n s s0 cs):bc n.k n.d6 s/\j0 w (.agg cs.toArray) n.k n.d6 s0:=by
 obtain⟨A,R,A9,t,p,_⟩:=h;exact⟨p.dG.2.2.2.1,p.doc.yZ⟩
theorem j2.go(h:j2 ax Z aK w af ag av n s s0 cs):∃A R t,bC w af ag A R n s t/\Laid w/\¬A 0/\eo ax t/\∀{U ab:x5}{s1:am},Ext w U->cz ax U af ag A R n s1 ab->ai (λr=>Z r/\¬aK r) w ab/\∃l8,(∀r,l8 r->Z r\/w.heap.size<=r)/\j2 ax l8 aK ab af ag av n s1 s0 cs:=by
 obtain⟨A,R,A9,t,p,⟨C,y,a⟩,z,H⟩:=h;refine⟨A,R,t,p.dG,C,λh=>y ((z 0).2 (.inl h)),⟨p.iJ,a⟩,λ{U ab s1}J hm=>?_⟩;obtain⟨f,E,aR,bu,j,F,aC,I⟩:=hm;have K:=J.size;have z3:=f.size;have x:=p.W J;have G:=x.prog f j F aC.1 (by grind) Ω x.box.lt;have e:∀{r:Nat}{X:Prop},(X->jA A R A9 aK av r)->X->Z r\/w.heap.size<=r:=by grind
 have B:∀r,jA aR R (λq r=>A9 q r/\r<U.heap.size) aK av r->Z r\/w.heap.size<=r:=by
  intro r a;rcases a with a|a|⟨q,a,_⟩|a|a
  .exact (j.2.1 r a).elim (e .inl) Ω
  .exact e (λh=>.inr (.inl h)) a
  .exact e (λh=>.inr (.inr (.inl ⟨q,h⟩))) a
  .exact e (λh=>.inr (.inr (.inr (.inl h)))) a
  .exact e (λh=>.inr (.inr (.inr (.inr h)))) a
 exact⟨(J.aa _).F ((vr j.1 f).Y λr _ h=>⟨(z r).2 (.inl h.1),λbe=>(x.read r be).1 h.2⟩),λr=>jA aR R (λq r=>A9 q r/\r<U.heap.size) aK av r,B,aR,R,_,bu,G,⟨E,λh=>(B 0 h).elim y λh=>by have:=p.box.lt;omega,aC.2⟩,λr=>Iff.rfl,Ω⟩
theorem fx.dy(h:fx Z aK w af ag av n s):∃cs,j2 [] Z aK w af ag av n s s cs/\ak w av aM cs:=by
 obtain⟨A,R,A9,t,cs,p,⟨a,e⟩,q,f,j⟩:=h;exact⟨cs,⟨A,R,A9,t,p,⟨a,e,p.iJ.m.2⟩,f,j⟩,p.box⟩
end
def vO(d6 a:Λ):Prop:=a.length=d6.length/\∀(q:Nat)z b,d6[q]?=σ z->a[q]?=σ b->0<=b/\b<z
def Te(d6:Λ)(L:List (Λ)):Prop:=L.length<=90/\∀a∈L,vO d6 a
def ma(d6:Λ)(k:Nat):Λ:=(Y9 d6.length).map λi:Nat=>((k:Int)*(2*(i:Int)+1)+(k:Int) / 3) % d6.getD i 0
theorem s7(d6:Λ)(k:Nat):(ma d6 k).length=d6.length:=by simp[ma]
theorem Gw{k i:Nat}{z:Int}(h:d6[i]?=σ z):(ma d6 k)[i]?=σ (((k:Int)*(2*(i:Int)+1)+(k:Int) / 3) % z):=by
 unfold ma;rw[u4,List.getElem?_range (x6.1 h).1,Y6,r8,h];rfl
theorem Tf(k:Nat)(h:∀z∈d6,1<=z/\z<=32):vO d6 (ma d6 k):=by
 refine⟨s7 _ _,λq z b a e=>?_⟩;rw[Gw a]at e;cases e;have:=h z (x7 a);exact⟨Int.emod_nonneg _ Ω,Int.emod_lt_of_pos _ Ω⟩
theorem Tg(h:a∈bt d6):vO d6 a:=by
 rw[yN]at h;obtain⟨h1,e⟩:=sP.1 h;rw[r9]at h1;refine⟨h1,λq z b f j=>?_⟩;exact sQ.1 (e q (jw z) b (by rw[u4,f];rfl) j)
theorem zs{s:am}(e:bc k d6 s)(h:vO d6 a):iE s a:=by
 have j:=e.d9;refine⟨by rw[h.1,j],λi x v J ac=>.inr ?_⟩;obtain⟨z,f⟩:=aJ (l:=d6) (i:=i) (by have:=(x6.1 J).1;omega);have h1:=(e.var i x z J f).1;have q:=h.2 i z v f ac;omega
theorem Th{m:Nat}(h:m<=11):(32:Int) ^ m<=36028797018963968:=by
 match m,h with
 |0,_=>decide
 |1,_=>decide
 |2,_=>decide
 |3,_=>decide
 |4,_=>decide
 |5,_=>decide
 |6,_=>decide
 |7,_=>decide
 |8,_=>decide
 |9,_=>decide
 |10,_=>decide
 |11,_=>decide
theorem Ti(h:aQ .i64 w sv l)(V:∀x∈l,1<=x/\x<=32):
  aq x8 Iw [sv] w λv I=>(∃c:Int,v=Δ c/\(l.length<=11->c=aV l))/\Ext w I:=by
 refine aE func28 ?_;rw[ba au.u h];refine cp.range l.length (λi n U=>Ext w U/\∃c:Int,n=Δ c/\(i<=11->c=aV (l.take i))) h.le ⟨Ext.refl _,1,rfl,λ_=>rfl⟩ ?_ ?_
 .rintro i _ U k hi ⟨J,c,rfl,a⟩ hk;obtain⟨x,e⟩:=aJ (l:=l) hi;refine bK Ω ?_;rw[bp au.u al.i Ψ (h.W J) e,fL,aT];refine hk _ _ ⟨J,_,rfl,λj=>?_⟩;rw[a Ω,qy e];have ae:=mu (l.take (i+1)) λy f=>V y (List.mem_of_mem_take f);have h1:=Th (m:=(l.take (i+1)).length) (by rw[Z3];omega);rw[qy e]at ae;exact lm Ω Ω
 .rintro _ U k ⟨J,c,rfl,a⟩;refine ck Ω ?_;rw[o9]at a;exact⟨⟨c,rfl,a⟩,J⟩
theorem Tj{f g:Int->Int}:∀{l:Λ},(∀v∈l,f v=g v)->dC k l f=dC k l g:=by
 intro l;unfold dC;generalize (k,(-1:Int))=p;induction l generalizing p with
 |nil=>intro _;rfl
 |cons v l a=>
  intro h;rw[List.foldl_cons,List.foldl_cons,show ft f p v=ft g p v by unfold ft;rw[h v (.head _)]];exact a _ λu hu=>h u (.tail _ hu)
theorem Tk{f:Int->Int}:∀(l:Λ)(p:Int×Int),(∀v∈l,0<=v)->(p.2= -1\/0<=p.2)->((l.foldl (ft f) p).2= -1\/0<=(l.foldl (ft f) p).2)/\(k=k):=by
 intro l;induction l with
 |nil=>intro p _ h;exact⟨h,rfl⟩
 |cons v l e=>
  intro p a h;refine e _ (λu hu=>a u (.tail _ hu)) ?_;unfold ft;split
  .exact .inr (a v (.head _))
  .exact h
section
variable{w:x5}{eO:x4}{k:Int}{d6:Λ}{s:am}
theorem Tl{f:Int->Int}{q:Nat}(ac:l[q]?=σ v):dC k (l.take (q+1)) f=ft f (dC k (l.take q) f) v:=by
 unfold dC;rw[u9,ac,j4,List.foldl_append];rfl
theorem Tm{f:Int->Int}(a:∀v∈l,0<=v):(dC k l f).2= -1\/0<=(dC k l f).2:=(Tk (k:=k) l (k,-1) a (.inl rfl)).1
theorem Tn{i:Nat}{x:bo}(h:j0 w eO k d6 s)(ak:bc k d6 s)(J:s.d9[i]?=σ x):
  aq x8 Ir [eO,Δ (i:Int)] w λr I=>Ext w I/\r= .tuple #[Δ (dC k (aG x) λv=>x.un.getD v.toNat 0).1,Δ (dC k (aG x) λv=>x.un.getD v.toNat 0).2]:=by
 have am:=vG x;refine aE func12 ?_;refine br λg1 U an E N=>?_;obtain⟨hv,ap,av,aw,ax,aB,B,aC,_,O,aD,P,aF,aH⟩:=h.box E N;rw[aP aM.p 0 B rfl,aP aM.p 3 B rfl];refine kf (α:=Λ) (a:=aG x) (i:=i) rfl rfl cq.u au.i Ψ O (by rw[u4,J];rfl) λaI Q=>?_;have C:=ew Q;rw[ba au.u C];obtain⟨f,ah⟩:∃f:Int->Int,f=λv=>x.un.getD v.toNat 0:=⟨_,rfl⟩;rw[<-ah];refine lH.range (aG x).length (λq b a ab=>Ext U ab/\b=Δ (dC k ((aG x).take q) f).1/\a=Δ (dC k ((aG x).take q) f).2) C.le ⟨Ext.refl _,rfl,rfl⟩ ?_ ?_
 .rintro q _ _ ab R S ⟨j,rfl,rfl⟩ V;obtain⟨v,ac⟩:=aJ (l:=aG x) S;have W:=(fu.1 (x7 ac)).1;obtain⟨y,rfl⟩:=W9 W.1;have z:=Tl (k:=k) (f:=f) ac;have aK:=Tm (k:=k) (f:=f) (l:=(aG x).take q) λv ac=>(fu.1 (List.mem_of_mem_take ac)).1.1;have X:f (y:Int)=x.un.getD y 0:=by rw[ah];rfl
  refine bK Ω ?_;refine jF (λb a I=>Ext U I/\b=Δ (dC k ((aG x).take (q+1)) f).1/\a=Δ (dC k ((aG x).take (q+1)) f).2) (λb a I Y=>by rw[aT];exact V _ _ _ Y) λaz G=>?_;rw[bp au.u al.i Ψ (C.W j) ac];have H:∀{K:x4->Prop}{e:x5},Ext U e->K (Δ (f (y:Int)))->ad x8 (u6 aM (Γ g1) 5) e λZ=>ad x8 (u5 c4 Z) e λaa=>ad x8 (n9 c4 aa (Δ (i:Int))) e λt39=>ad x8 (u5 aA t39) e λae=>ad x8 (n9 aA ae (Δ (y:Int))) e λaf=>ad x8 (u5 ay af) e K:=λ{K e}L ag=>by
   rw[aP aM.p 5 (B.W L) rfl];refine kf (a:=x.un) (i:=i) rfl rfl c4.u aA.i Ψ (bD P L) (by rw[u4,J];rfl) λaL ai=>?_;rw[bp aA.u ay.i Ψ (ew ai) (getD_some (i:=y) Ω),<-X];exact ag
  refine a6 (λr I=>ab=I/\r= .bool (decide ((dC k ((aG x).take q) f).2= -1\/f (y:Int)<(dC k ((aG x).take q) f).1))) ?_ λaN M=>?_
  .rintro _ _ ⟨rfl,rfl⟩;unfold ft at z;rw[ao];refine⟨λA=>H j (G _ _ _ ⟨j,?_,?_⟩),λA=>G _ _ _ ⟨j,?_,?_⟩⟩
   .rw[z,m3 A]
   .rw[z,m3 A]
   .rw[z,m5 A]
   .rw[z,m5 A]
  .rw[aW,ao];refine⟨λaj=>M _ _ ⟨rfl,by rw[ms (.inl Ω)]⟩,λaj=>?_⟩;refine H j ?_;rw[aW];refine M _ _ ⟨rfl,?_⟩;congr 1;exact decide_eq_decide.2 ⟨.inr,λh=>h.resolve_left λh=>Ω⟩
 .rintro _ _ ab R ⟨j,rfl,rfl⟩;rw[o9];exact ck Ω ⟨E.F j,rfl⟩
end
theorem To{f g:Λ->Int}:∀{l:List (Λ)},(∀t∈l,f t=g t)->lv k f l=lv k g l:=by
 intro l;unfold lv;generalize (k,(ν:Option (Λ)))=p;induction l generalizing p with
 |nil=>intro _;rfl
 |cons v l a=>
  intro h;rw[List.foldl_cons,List.foldl_cons,show simpStep f p v=simpStep g p v by unfold simpStep;rw[h v (.head _)]];exact a _ λu hu=>h u (.tail _ hu)
section
variable{w:x5}{eO:x4}{k:Int}{d6:Λ}{s:am}
end
abbrev nc:Type:=nF .u8×Int×Int×Int×Int
structure fV where
 d:Int
 i:Int
 pos:Int
 v:Int
 c:Int
def fV.ok(a:fV):Prop:=0<=a.d/\a.d<256
def fV.kind(a:fV):Nat:=(a.d % 7).toNat
def fV.cb(a:fV):List x4:=[.int .u8 a.d,Δ a.i,Δ a.pos,Δ a.v,Δ a.c]
def oU(x:nc):fV:=⟨x.1.val,x.2.1,x.2.2.1,x.2.2.2.1,x.2.2.2.2⟩
theorem Tp{R:aj}{x:nc}(h:Seen R w cs x):cs=(oU x).cb:=by
 obtain⟨r,_,_,_,rfl,_,_,_,a,s,_,_,_,rfl,_,_,_,e,y,_,_,_,rfl,_,_,_,f,z,A,_,_,rfl,_,_,_,j,q⟩:=h;have a:=a;have e:=e;have f:=f;have j:=j;have q:=q;subst a e f j q;rfl
theorem Tq{x:nc}(h:(o8.u8.min<=x.1.val/\x.1.val<=o8.u8.max)/\(X4.min<=x.2.1/\x.2.1<=X4.max)/\(X4.min<=x.2.2.1/\x.2.2.1<=X4.max)/\(X4.min<=x.2.2.2.1/\x.2.2.2.1<=X4.max)/\(X4.min<=x.2.2.2.2/\x.2.2.2.2<=X4.max)):(oU x).ok:=by
 have a:o8.u8.min=0:=Φ
 have e:o8.u8.max=255:=Φ
 rw[a,e]at h;exact⟨h.1.1,by have:=h.1.2;show x.1.val<256;omega⟩
theorem fV.one(a:fV):∀u∈a.cb,u.oneCell'=s2:=by
 intro u hu;unfold fV.cb at hu;simp only[List.mem_cons,List.not_mem_nil,or_false]at hu;rcases hu with rfl|rfl|rfl|rfl|rfl<;>rfl
theorem fV.Tr(a:fV):a.kind<7:=by
 grind [fV.kind]
def vP(k:Int)(a:fV):Int:=a.c.emod 18446744073709551616 % (k+1)
def mb(k:Int)(a:fV):fH:=⟨a.kind,a.i,a.pos,a.v,vP k a⟩
def nd(n:aI)(s:am)(a:fV):am:=if a.kind=6 then(if eB n a.i a.v then dX s a.i.toNat a.v.toNat else s)else(bh n.k s (mb n.k a)).1
theorem zt{d:Int}{K:x4->Prop}(h:0<=d):ad x8 (aS .rem cT sp s2 (.int .u8 d) (.int .u8 7)) w K=K (.int .u8 (((d % 7).toNat:Nat):Int)):=by
 rw[rO Φ,Int.tmod_eq_emod_of_nonneg h]
 grind
section
variable{w:x5}{af ag av:Nat}{A R:aj}{A9:Nat->aj}{aK:aj}{n:aI}{s u:am}{t:aB}{h:List aB}{cs:List x4}{a:fV}
theorem Gx(a:bc n.k n.d6 s){i:Int}(h:eB n i v):0<=i/\∃x,s.d9[i.toNat]?=σ x/\0<=v/\v<x.un.length:=by
 obtain⟨x,J,h1,_,e⟩:=h.var a;exact⟨h.1,x,J,h.2.2.1,Ω⟩
theorem Ts(f:bY s/\dH (cY n) s/\n.ho.length<=256)(j:bc n.k n.d6 s):bY (nd n s a)/\dH (cY n) (nd n s a)/\n.ho.length<=256:=by
 unfold nd;split
 .split
  .rename_i h;obtain⟨r,x,J,ac,_⟩:=Gx j h;have e:=kS (v:=a.v) J;have q:dH s (dX s a.i.toNat a.v.toNat):=zc (v:=a.v);exact⟨by grind [bY.d9],f.2.1.F q,f.2.2⟩
  .exact f
 grind [Tb]
theorem Tt(p:ci w af ag av A R A9 aK n s u t h cs){i:Nat}{x:bo}(J:u.d9[i]?=σ x):∃g cap y gy e,cs[3]?=σ (.slice (σ ⟨g,0,ν⟩) u.d9.length cap)/\w.cell? ⟨g,0+i*1,ν⟩=σ y/\aH .i64 e w gy y (aG x)/\(∀r,lc y r->A9 0 r)/\
  ∀{U ab:x5}{m:Int}{z:x4}{K:Unit->x5->Prop},Ext w U->ai (λr=>lc y r) U ab->aH .i64 e ab gy z (aG {x with mask:=m})->(∀r,lc z r->lc y r)->(∀F,cB w af ag av A R A9 aK n s t h {u with d9:=u.d9.set i {x with mask:=m}} F->K () F)->
   aL x8 (o7 au (.pointer (σ ⟨g,0+i*1,ν⟩)) z) ab K:=by
 have G:=p.olds;have aq:=(x6.1 J).1;obtain⟨hv,V,ax,ay,az,aA,W,_,X,_,_,_,_,aB⟩:=id G.doc;obtain⟨g,cap,full,Y,c,Z,e,f,aC,j,H,I,aD,aE,ac⟩:=FR X (by rw[u4,J];rfl) (by grind);obtain⟨y,rfl⟩:=X9.1 (aw.len I);rw[r9]at e;have ad:full[i]?=σ y:=by have:=H 0 y rfl;simpa[show aw.n (Λ)=1 from rfl]using this
 obtain⟨gy,ae,ah,aj⟩:=BJ I;have aF:∀r,lc y r->Z r:=λr a=>by
  rcases aj with rfl|aI
  .obtain⟨_,_,_,e,_⟩:=a;cases e
  grind [ca]
 refine⟨g,cap,y,gy,ae,by grind,by have:=f.cell ad;grind,ah,by grind,λ{U ab m L K}B C M al am=>?_⟩;have aJ:=B.size;have aM:=C.size;have j:i*1+1<=full.length:=j;obtain⟨_,_,_,N⟩:=dr M.ls;have O:¬lc y g:=by grind
 refine bs (o:=0+i*1) au.i (by rw[N];rfl) (by rw[N];rfl) ((f.W B).aa C O) Ω λP Q aN S=>?_;have S:ak P g Y (over full (i*1) [L]):=by
  have e:=FS (o:=i*1) (q:=0) (x:=L) H j Ξ
  grind
 have aO:g<w.heap.size:=f.lt;have E:ai (λr=>lc y r\/r=g) w P:=((B.aa _).F (C.Y (by grind))).F (Q.Y Ω);have an:=bE M Q λr a he=>by have he:r=g:=he;exact O (he▸al r a)
 have aP:=ac E (by grind) S (oN an) (by grind);have ao:∀r,r<w.heap.size->(lc y r\/r=g)->A9 0 r/\r<w.heap.size:=by grind
 obtain⟨cD,ap,aQ⟩:=G.p3 (u':={u with d9:=u.d9.set i {x with mask:=m}}) Ω (v:=V) (by rw[W];rfl) E ao (by grind [U2]) rfl (re J rfl) (re J rfl) rfl rfl;refine am _ ⟨E.Y (by grind),cD,cs,ap,λq r a=>?_⟩
 grind
end
section
variable{Z aK:aj}{w I:x5}{af ag av:Nat}{A R:aj}{A9:Nat->aj}{n:aI}{s s':am}{t:aB}{cs:List x4}{a:fV}
def lz(Z aK:aj)(w:x5)(af ag av:Nat)(n:aI)(s':am)(I:x5):Prop:=ai (λr=>Z r/\¬aK r) w I/\∃l8,(∀r,l8 r->Z r\/w.heap.size<=r)/\fx l8 aK I af ag av n s'
theorem fx.Tu{aR:aj}{cD:Nat->aj}{bu:aB}(p:ci w af ag av A R A9 aK n s s t [] cs)(f:∀r,Z r↔jA A R A9 aK av r)(H:bY s'/\dH (cY n) s'/\n.ho.length<=256)(x:¬Z 0)(I:Laid w)(y:ai (eR w) w U)(z:Grow A w aR U)(j:∀q r,cD q r->A9 q r)(J:cB U af ag av aR R cD aK n s' bu [] s' ab):lz Z aK w af ag av n s' ab:=by
 obtain⟨B,C,bJ,K,L⟩:=J;have O:=y.size;have P:=B.size;have M:=p.Ga;have E:ai (λr=>Z r/\¬aK r) w ab:=((vr z.1 y).Y (T:=λr=>Z r/\¬aK r) λr _ h=>⟨(f r).2 (.inl h.1),λbe=>(p.read r be).1 h.2⟩).F
  (B.Y λr _ h=>⟨(f r).2 (h.elim (λ⟨q,h⟩=>.inr (.inr (.inl ⟨q,j q r h⟩))) λh=>.inr (.inr (.inr (.inr h)))),h.elim (λ⟨q,h⟩=>M q r (j q r h)) λh be=>(p.read r be).2.2 h⟩)
 have Q:=p.box.lt;have e:∀{r:Nat}{X:Prop},(X->jA A R A9 aK av r)->X->Z r\/w.heap.size<=r:=λN h=>.inl ((f _).2 (N h));have F:∀r,jA aR R (λq r=>C q r/\r<ab.heap.size) aK av r->Z r\/w.heap.size<=r:=by
  intro r a;rcases a with a|a|⟨q,a,_⟩|a|a
  .exact (z.2.1 r a).elim (e .inl) .inr
  .exact e (λh=>.inr (.inl h)) a
  .exact (L q r a).elim (λ⟨G,h⟩=>e (λh=>.inr (.inr (.inl h))) ⟨G,j G r h⟩) λh=>.inr Ω
  .exact e (λh=>.inr (.inr (.inr (.inl h)))) a
  .exact e (λh=>.inr (.inr (.inr (.inr h)))) a
 exact⟨E,λr=>jA aR R (λq r=>C q r/\r<ab.heap.size) aK av r,F,aR,R,_,bu,bJ,K.olds,⟨iz E (λh=>x h.1) I,λh=>(F 0 h).elim x λh=>Ω⟩,H,λr=>Iff.rfl,λq r a=>a.2⟩
theorem lz.same(h:fx Z aK w af ag av n s)(J:Ext w I):lz Z aK w af ag av n s I:=⟨J.aa _,Z,λ_ h=>.inl h,h.W J⟩
theorem lz.before(J:Ext w U)(h:lz Z aK U af ag av n s I):lz Z aK w af ag av n s I:=by
 obtain⟨c,l8,a,e⟩:=h;have:=J.size;exact⟨(J.aa _).F c,l8,λr f=>(a r f).imp id λh=>Ω,e⟩
end
def vQ(s:am):Prop:=∀f∈s.ho,f.live≠0
theorem Tv(n:aI):vQ (cY n):=by
 intro f ah;unfold cY at ah;obtain⟨g,_,rfl⟩:=l9.1 ah;exact(by decide:(1:Int)≠0)
theorem Tw{a b:am}(h:dH a b)(k:vQ a):vQ b:=by
 intro g q;obtain⟨j,e⟩:=List.getElem?_of_mem q;have r:=(x6.1 e).1;obtain⟨f,ah⟩:=aJ (l:=a.ho) (i:=j) (by have:=h.ho;omega);rw[(h.fn j f g ah e).2.2.1];exact k f (x7 ah)
section
variable{w:x5}{af ag:Nat}{A R:aj}{n:aI}{s:am}{t:aB}{eO:x4}
end
def ne(w0 w:x5)(af ag av:Nat)(n:aI):Prop:=Ext w0 w/\∃s Z aK,fx Z aK w af ag av n s/\∀r,Z r->w0.heap.size<=r
section
variable{w0 w I:x5}{af ag av:Nat}{n:aI}{s:am}{Z aK:aj}
theorem ne.W(h:ne w0 w af ag av n)(J:Ext w I):ne w0 I af ag av n:=by
 obtain⟨a,s,Z,aK,e,f⟩:=h;exact⟨a.F J,s,Z,aK,e.W J,f⟩
end
theorem fx.live{Z aK:aj}{ag av:Nat}{n:aI}{s:am}(h:fx Z aK w af ag av n s):vQ s/\s.ho.length<=256:=by
 obtain⟨_,_,a,ah⟩:=h.ok;refine⟨Tw a (Tv n),?_⟩;rw[a.ho];unfold cY;rw[r9];exact ah
theorem Gy{n:aI}{s:am}{i:Nat}{x:bo}(h:dH (cY n) s)(J:s.d9[i]?=σ x):x.gone=0:=by
 obtain⟨y,a⟩:=aJ (l:=(cY n).d9) (i:=i) (by have:=(x6.1 J).1;have:=h.d9;omega);rw[(h.var i y x a J).1];unfold cY at a;simp only[u4,Z9]at a;obtain⟨u,_,rfl⟩:=a;rfl
section
variable{w:x5}{n:aI}{af ag av:Nat}
end
section
variable{w:x5}{af ag:Nat}{A R:aj}{n:aI}{s:am}{t:aB}
theorem zu{i:Nat}{x:bo}(a:bc n.k n.d6 s)(J:s.d9[i]?=σ x)(ac:v∈aG x):bM n s (i:Int) v=x.un.getD v.toNat 0:=by
 unfold bM;rw[m3 (p7 a J ac),u7];unfold fs;rw[J]
theorem vR{i:Nat}{x:bo}(J:s.d9[i]?=σ x):aY s (i:Int)=aG x:=by
 unfold aY;rw[u7,J]
theorem Tx{i:Nat}{x:bo}(a:bc n.k n.d6 s)(J:s.d9[i]?=σ x):dS n s (i:Int)=dC n.k (aG x) λv=>x.un.getD v.toNat 0:=by
 unfold dS;rw[vR J];exact Tj λv ac=>zu a J ac
end
section
variable{w:x5}{af ag gy:Nat}{A R:aj}{A9:Nat->aj}{aK:aj}{n:aI}{s s0:am}{t:aB}{ax:List aB}{cs:List x4}
theorem Ty{i:Nat}{U:x4}{K:x5->Prop}(p:ci w af ag gy A R A9 aK n s (di s s0 i 0) t ax cs)(aX:Laid w)(an:dH s0 s)(hi:i<n.d6.length)(aY:U=Γ af)(aZ:bc n.k n.d6 s0)(a1:∀I,cB w af ag gy A R A9 aK n s t ax (di s s0 (i+1) 0) I->K I):
  et w λB=>
  ad x8 (u6 aM (Γ gy) 3) B λt22=>
  ad x8 (u5 cq t22) B λO=>
  aq x8 AS [U,Δ (i:Int)] B λa2 H=>
   (Ext B H\/cc x8 (u5 cq t22) O H/\cc x8 (u6 aM (Γ gy) 3) t22 H/\True)/\
  aq x8 AV [a2] H λa6 J=>
   (Ext B J\/cc x8 (u5 cq t22) O J/\cc x8 (u6 aM (Γ gy) 3) t22 J/\True)/\
   aq x8 AU [a6] J λa7 G=>
    (Ext B G\/cc x8 (u5 cq t22) O G/\cc x8 (u6 aM (Γ gy) 3) t22 G/\True)/\
   ad x8 (n9 cq O (Δ (i:Int))) G λa8=>
    aL x8 (o7 au a8 a7) G λ(_:Unit)x=>
    ad x8 (u6 aM (Γ gy) 5) x λbb=>
  ad x8 (u5 c4 bb) x λbd=>
  ad x8 (n9 c4 bd (Δ (i:Int))) x λbe=>
  ad x8 (u5 aA be) x λbf=>
  ad x8 (X7 #[aA] al #[bf]) x λbg=>
  b3 (Δ 0) x λP C bh=>
   ad x8 (aS .lss al sp sp P bg) C λbj=>
   Split bj (et C λE=>
   ad x8 (u6 aM (Γ gy) 5) E λV=>
   ad x8 (u5 c4 V) E λao=>
   ad x8 (n9 c4 ao (Δ (i:Int))) E λap=>
   ad x8 (u5 aA ap) E λt45=>
   aq x8 wK [U,Δ (i:Int),P] E λt50 y=>
    (Ext E y\/cc x8 (u5 aA ap) t45 y/\cc x8 (u5 c4 V) ao y/\cc x8 (u6 aM (Γ gy) 5) V y/\True)/\
   ad x8 (Z7 t50 0) y λbk=>
    ad x8 (Z7 t50 1) y λbM=>
    ad x8 (n9 aA t45 P) y λt53=>
    aL x8 (o7 ay t53 bk) y λ(_:Unit)W=>
    ad x8 (aS .add al sp s2 P (Δ 1)) W λbl=>
   bh bl W)
   (K C):=by
 subst aY;have Q:=p.dG.2.2.2.1;have bN:=Q.d9;have bO:=aZ.d9;have av:=an.d9;have bP:=Q.eQ.2.1;obtain⟨j,aw⟩:=aJ (l:=s0.d9) (i:=i) Ω;obtain⟨f,M⟩:=aJ (l:=s.d9) (i:=i) Ω;obtain⟨z,X⟩:=aJ (l:=n.d6) (i:=i) hi;obtain⟨bm,S⟩:=an.var i j f aw M;have bQ:=(Q.var _ f z M X).1;have bR:=Q.eQ.2.2 z (x7 X);have az:(di s s0 i 0).d9[i]?=σ j:=by
  show(dI s.d9 s0.d9 i)[i]?=_;rw[F6 av Ω];exact aw
 intro B Y _ _;have Z:=p.W Y;have bn:=aX.W Y;obtain⟨bS,bT,bU,bp,bV,bW,bX,bq⟩:=Gf Z az;rw[aP aM.p 3 Z.box bp];refine(jv (i:=(i:Int)) Z.dG).Y ?_;rintro _ H _ ⟨⟨bY,bZ,rfl,aB⟩,ab⟩;refine⟨.inl ab,?_⟩;refine mE.Y ?_;rintro _ J _ ⟨aC,bi,rfl,b0,ah⟩;refine⟨.inl (ab.F aC),?_⟩;have aD:=lr aB Ω (by rw[u7];exact M);have ai:=ab.F aC;refine(D2 (L:=aG f) (mD (g:=bi) aB.1) (λk vs w hk=>by
    obtain⟨v,ac,rfl⟩:=hk;exact⟨v,by rw[<-aD,u4,ac];rfl,rfl⟩) (λa b N ae=>⟨ae.1.aa N λh=>by have:=ah.lt;have h:=h;omega,iz N (λh=>by have h:=h;have:=ah.lt;omega) ae.2⟩) ⟨ah,bn.W ai⟩ (by rw[<-aD,r9]) (by have:=vG f;omega)).Y ?_
 rintro _ G _ ⟨br,b1,b2,aE⟩;have aH:=ai.F br;refine⟨.inl aH,?_⟩;have b4:=ai.size;refine bq aH (by rw[Sg S];exact aE) (λr bs=>by obtain⟨b5,_⟩:=ca aE bs;omega) λx d13=>?_;obtain⟨b6,b7,b8,aI,b9⟩:=id d13;have aN:=(x6.1 az).1;have aO:({di s s0 i 0 with d9:=(di s s0 i 0).d9.set i {j with mask:=f.mask}}:am).d9[i]?=σ {j with mask:=f.mask}:=Z6 aN;obtain⟨cb,cd,aR,bt,bu,aj,_⟩:=s3 aI aO;have aj:aQ .i64 x aR j.un:=aj;rw[aP aM.p 5 aI.box bt,e2 c4.u aA.i (x6.1 aO).1 λ_=>rfl,aF (v:=aR) (o:=0+i*1) Ψ (by rw[V0,U3];exact bu),ba aA.u aj];have bw:cB w af ag gy A R A9 aK n s t ax {di s s0 i 0 with d9:=(di s s0 i 0).d9.set i {({j with mask:=f.mask}:bo)with un:=dI f.un j.un 0}} x:=cB.comp (Y.aa _) (λq r h=>.inl ⟨q,h⟩) d13;refine b3.range j.un.length (λv C=>cB w af ag gy A R A9 aK n s t ax {di s s0 i 0 with d9:=(di s s0 i 0).d9.set i {({j with mask:=f.mask}:bo)with un:=dI f.un j.un v}} C) Ω bw ?_ ?_
 .rintro v C bx ac d14 bz;obtain⟨vP,ce,cf,bC,bD⟩:=id d14;obtain⟨c,N⟩:=aJ (l:=f.un) (i:=v) Ω;refine bK Ω ?_;intro E aU _ _;have ak:=bC.W aU;have aV:({di s s0 i 0 with d9:=(di s s0 i 0).d9.set i {({j with mask:=f.mask}:bo)with un:=dI f.un j.un v}}:am).d9[i]?=σ {({j with mask:=f.mask}:bo)with un:=dI f.un j.un v}:=Z6 aN;obtain⟨cg,ch,bE,bF,bG,cj,bH⟩:=s3 ak aV;rw[aP aM.p 5 ak.box bF,e2 c4.u aA.i (x6.1 aV).1 λ_=>rfl,aF (v:=bE) (o:=0+i*1) Ψ (by rw[V0,U3];exact bG)];refine(pV (i:=(i:Int)) (v:=(v:Int)) ak.dG).Y ?_;rintro _ y _ ⟨rfl,aW⟩;refine⟨.inl aW,?_⟩;have bI:eB n i v:=⟨Ω,Ω,Ω,by rw[u7,r8,X,Option.getD_some];omega⟩;have bJ:fs s (i:Int).toNat (v:Int).toNat=c:=by
   unfold fs;rw[u7,M,u7];show f.un.getD v 0=c;rw[r8,N];rfl
  rw[m3 bI,bJ,bA,bB];refine bH aW (by show v<(dI f.un j.un v).length;rw[ze S];exact ac) λW d17=>?_;rw[aT];refine bz _ ?_;have bL:=cB.comp vP bD (cB.comp (aU.aa _) (λq r h=>.inl ⟨q,h⟩) d17.zj);have e:eS {di s s0 i 0 with d9:=(di s s0 i 0).d9.set i {({j with mask:=f.mask}:bo)with un:=dI f.un j.un v}} i {({j with mask:=f.mask}:bo)with un:=dI f.un j.un v} ((dI f.un j.un v).set v c)={di s s0 i 0 with d9:=(di s s0 i 0).d9.set i {({j with mask:=f.mask}:bo)with un:=dI f.un j.un (v+1)}}:=by
   unfold eS;simp only;rw[List.set_set,vB S N]
  rw[<-e];exact bL
 .rintro C bx d14;refine ck Ω (a1 _ ?_);have e:({di s s0 i 0 with d9:=(di s s0 i 0).d9.set i {({j with mask:=f.mask}:bo)with un:=dI f.un j.un j.un.length}}:am)=di s s0 (i+1) 0:=by
   rw[vA S,Sf bm];show(⟨s.zero,(dI s.d9 s0.d9 i).set i f,dI s.ho s0.ho 0,s0.eJ⟩:am)=_;rw[vB av M];rfl
  rw[<-e];exact d14
end
theorem set_self{α:Type}{l:List α}{i:Nat}{x:α}(h:l[i]?=σ x):l.set i x=l:=by
 refine Y2 λj=>?_;by_cases e:i=j
 .subst e;rw[Z6 (x6.1 h).1,h]
 .rw[Y8 e]
section
variable{w:x5}{af ag gy:Nat}{A R:aj}{A9:Nat->aj}{aK:aj}{n:aI}{s s0:am}{t:aB}{ax:List aB}{cs:List x4}
theorem Tz{m:Nat}{X:x4}{K:x5->Prop}(p:ci w af ag gy A R A9 aK n s (di s s0 m j) t ax cs)(Y:dH s0 s)(Z:j<s0.ho.length)(aN:∀f∈s0.ho,f.live≠0)(aO:X=Γ af)(aR:∀I,cB w af ag gy A R A9 aK n s t ax (di s s0 m (j+1)) I->K I):
  ad x8 (u6 aM (Γ gy) 6) w λaU=>
  ad x8 (u5 dA aU) w λaV=>
  ad x8 (n9 dA aV (Δ (j:Int))) w λaW=>
  ad x8 (u6 c5 aW 0) w λt66=>
  ad x8 (u6 bd t66 1) w λaY=>
  ad x8 (u5 au aY) w λa1=>
  aq x8 wJ [a1] w λab B=>
  ad x8 (X7 #[cq] al #[ab]) B λt70=>
  b3 (Δ 0) B λC x a2=>
   ad x8 (aS .lss al sp sp C t70) x λa6=>
   Split a6 (ad x8 (n9 cq ab C) x λa7=>
   ad x8 (u5 au a7) x λa8=>
   et x λz=>
   ad x8 (u6 aM (Γ gy) 6) z λt77=>
   ad x8 (u5 dA t77) z λac=>
   ad x8 (n9 dA ac (Δ (j:Int))) z λae=>
   ad x8 (u6 c5 ae 0) z λL=>
   ad x8 (u6 bd L 2) z λM=>
   ad x8 (u5 aA M) z λah=>
   aq x8 wL [X,Δ (j:Int),a8] z λai a=>
    (Ext z a\/cc x8 (u5 aA M) ah a/\cc x8 (u6 bd L 2) M a/\cc x8 (u6 c5 ae 0) L a/\cc x8 (u5 dA t77) ac a/\cc x8 (u6 aM (Γ gy) 6) t77 a/\True)/\
   ad x8 (Z7 ai 0) a λba=>
    ad x8 (Z7 ai 1) a λbM=>
    ad x8 (n9 aA ah C) a λbb=>
    aL x8 (o7 ay bb ba) a λ(_:Unit)N=>
    ad x8 (aS .add al sp s2 C (Δ 1)) N λbc=>
   a2 bc N)
   (K x):=by
 subst aO;have aj:=p.dG.2.2.2.1;have ak:=Y.ho;obtain⟨f0,O⟩:=aJ (l:=s0.ho) Z;obtain⟨f1,E⟩:=aJ (l:=s.ho) (i:=j) Ω;obtain⟨bf,ao,ap,P⟩:=Y.fn j f0 f1 O E;have bg:=aN f0 (x7 O);have bh:f1.live≠0:=by rw[ap];exact bg
 have av:=x7 E;obtain⟨bi,bj,_⟩:=aj.ho f1 av;obtain⟨az,bN⟩:=kR aj av;have bk:f1.an.length=f1.sc.length:=by rw[bj];simp[b6]
 have Q:(di s s0 m j).ho[j]?=σ f0:=by
  show(dI s.ho s0.ho j)[j]?=_;rw[F6 ak Z];exact O
 have bl:=(x6.1 Q).1;obtain⟨hv,bO,bP,bQ,bR,bS,bm,_,_,_,_,_,bn,_⟩:=p.look;rw[aP aM.p 6 bm rfl];refine k7 (i:=j) rfl dA.u c5.i bn (by rw[u4,Q];rfl) λb o bT G H=>?_;obtain⟨bU,bo,v3,rfl,h1,S,bV⟩:=oO H;rw[aZ c5.p rfl,aZ bd.p rfl,aF Ψ (G 1 _ rfl)];have S:aQ .i64 w bo f1.an:=by rw[ao];exact ew S
 refine(xj f1.an S ⟨by rw[bk];exact bi.scope.2,az⟩).Y ?_;rintro bp B _ ⟨U,V⟩;have bW:=U.size;rw[ij cq.u V];have bq:=p.olds.W U;have br:cB B af ag gy A R (λq r=>A9 q r/\r<w.heap.size) aK n s t ax {di s s0 m j with ho:=(di s s0 m j).ho.set j {f0 with cs:=dI f1.cs f0.cs 0}} B:=by
  have e:({di s s0 m j with ho:=(di s s0 m j).ho.set j {f0 with cs:=dI f1.cs f0.cs 0}}:am)=di s s0 m j:=by
   show({di s s0 m j with ho:=(di s s0 m j).ho.set j f0}:am)=_;rw[set_self Q]
  rw[e];exact cB.same bq (Ext.refl _)
 have bX:=p.box.lt;refine b3.range (bt f1.an).length (λk x=>(cB B af ag gy A R (λq r=>A9 q r/\r<w.heap.size) aK n s t ax {di s s0 m j with ho:=(di s s0 m j).ho.set j {f0 with cs:=dI f1.cs f0.cs k}} x)/\Seen (λr=>w.heap.size<=r/\r<B.heap.size) x [bp] (bt f1.an)) (pt V) ⟨br,qx V λr G h=>⟨h.elim id False.elim,G⟩⟩ ?_ ?_
 .rintro k x bs hk ⟨d20,aB⟩ bu;obtain⟨bw,bY,bZ,bx,aC⟩:=id d20;obtain⟨tl,aD⟩:=aJ (l:=bt f1.an) hk;obtain⟨c,H⟩:=aJ (l:=f1.cs) (i:=k) Ω;have aE:=kJ az aD;refine bK Ω ?_;refine kf rfl rfl cq.u au.i Ψ aB aD λaX bC=>?_;intro z J _ _;have W:=bx.W J;have aG:({di s s0 m j with ho:=(di s s0 m j).ho.set j {f0 with cs:=dI f1.cs f0.cs k}}:am).ho[j]?=σ {f0 with cs:=dI f1.cs f0.cs k}:=Z6 bl;obtain⟨b0,cap,e6,fe,y,bE,bF,_,b1,bG⟩:=Gd W aG;rw[aP aM.p 6 W.box bE,e2 dA.u c5.i (x6.1 aG).1 λ_=>rfl,aZ c5.p rfl,aZ bd.p rfl,aF Ψ (by rw[V0];exact bF 2 _ rfl)];refine(vh W.dG ((ew (jJ bC)).W J)).Y ?_;rintro _ a _ ⟨rfl,aH⟩;refine⟨.inl aH,?_⟩;obtain⟨bH,bI⟩:=zk E bh aE;have bJ:mX s j tl=c:=by
   rw[bI];unfold bz;rw[aE];simp only;rw[u7,r8,H];rfl
  rw[m3 bH,bJ,bA,bB];refine bG aH (by show k<(dI f1.cs f0.cs k).length;rw[ze P];omega) λN d23=>?_;rw[aT];have aI:=cB.comp bw aC (cB.comp (J.aa _) (λq r h=>.inl ⟨q,h⟩) d23);have e:en {di s s0 m j with ho:=(di s s0 m j).ho.set j {f0 with cs:=dI f1.cs f0.cs k}} j {f0 with cs:=dI f1.cs f0.cs k} ((dI f1.cs f0.cs k).set k c)={di s s0 m j with ho:=(di s s0 m j).ho.set j {f0 with cs:=dI f1.cs f0.cs (k+1)}}:=by
   unfold en;simp only;rw[List.set_set,vB P H]
  rw[e]at aI;refine bu _ ⟨aI,?_⟩;obtain⟨bL,b2,b4,b5,b7⟩:=id d23;refine aw.aa (bD aB J) bL λr G h be=>?_;have h:=h.elim False.elim id;rcases be with⟨q,be⟩|be
  .rcases aC q r be with⟨b8,be⟩|be
   .have:=be.2;omega
   .omega
  .have be:r=gy:=be;omega
 .rintro x bs ⟨d20,_⟩;refine ck Ω (aR _ ?_);have e:({di s s0 m j with ho:=(di s s0 m j).ho.set j {f0 with cs:=dI f1.cs f0.cs (bt f1.an).length}}:am)=di s s0 m (j+1):=by
   rw[show(bt f1.an).length=f0.cs.length by omega,vA P,Sh ⟨bf,ao,ap⟩];show(⟨s.zero,dI s.d9 s0.d9 m,(dI s.ho s0.ho j).set j f1,s0.eJ⟩:am)=_;rw[vB ak E];rfl
  rw[<-e];exact cB.comp (U.aa _) (λq r h=>.inl ⟨q,h.1⟩) d20
end
def Gz(w:x5)(pl:Λ)(r:x4)(I:x5):Prop:=Ext w I/\((∃cs:List x4,r= .tuple #[.pointer ν,.agg cs.toArray,.bool sp]/\cs.length=8/\∀u∈cs,u.oneCell'=s2)\/∃f af ag av Z aK s cs,r= .tuple #[Γ af,.agg cs.toArray,.bool s2]/\il (pl.take 300)=σ f/\(cA f).k<=1000/\
 fx Z aK I af ag av (cA f) s/\j2 [] Z aK I af ag av (cA f) s s cs/\∀r,Z r->w.heap.size<=r)
section
variable{w:x5}{af ag:Nat}{A R:aj}{n:aI}{s:am}{t:aB}
theorem TA{i:Nat}(h:bC w af ag A R n s t)(a:Laid w)(ac:lu n s (i:Int)=s2):aq x8 A7 [Γ af,Δ (i:Int)] w λr I=>Ext w I/\r= .tuple #[Δ (dS n s (i:Int)).1,Δ (dS n s (i:Int)).2,Δ 0]:=by
 obtain⟨_,x,J,_⟩:=Fz h.2.2.2.1 ac;rw[u7]at J;refine(Ro h a).Y ?_;rintro r j _ ⟨e,_,f⟩;refine⟨e,?_⟩;rw[f x ac (by rw[u7];exact J)];unfold dS;rw[vR J]
end
theorem TB{of:Int->Int}:(l=[]/\(dC k l of).2= -1)\/(dC k l of).2∈l:=by
 have key:∀(l:Λ)(p:Int×Int),(l.foldl (ft of) p).2=p.2\/(l.foldl (ft of) p).2∈l:=λl=>by
  induction l<;>grind [ft]
 cases l<;>grind [dC,ft]
def gL(s:am):Nat:=(s.d9.map λx=>(aG x).length).sum
def eM(k:Int)(s:am):Nat:=gL s+(k-s.zero).toNat
theorem TC{l:List Nat}{i x y:Nat}(h:l[i]?=σ x):(l.set i y).sum+x=l.sum+y:=by
 induction l generalizing i with
 |nil=>simp at h
 |cons a l e=>
  cases i<;>grind
theorem GA{s:am}{i:Nat}{x y:bo}(J:s.d9[i]?=σ x):gL {s with d9:=s.d9.set i y}+(aG x).length=gL s+(aG y).length:=by
 unfold gL;rw[U2];exact TC (by grind)
section
variable{n:aI}{s:am}
theorem TD{x:bo}(hm:0<=x.mask)(h:v∈aG x):(aG {x with mask:=((x.mask.toNat ||| 2 ^ v.toNat:Nat):Int)}).length<(aG x).length:=by
 have ac:=(fu.1 h).1.1;have a:((x.mask.toNat:Nat):Int)=x.mask:=Ω
 have e:aG {x with mask:=((x.mask.toNat ||| 2 ^ v.toNat:Nat):Int)}=(aG x).filter λu=>decide (u≠v):=by
  unfold aG;rw[List.filter_filter]
  grind [List.filter_congr,yX]
 grind [List.filter_sublist]
theorem TE{i:Int}(e:bc n.k n.d6 s)(f:bY s):fw n.k n.d6 s (bh n.k s (e9 i v)).1/\(bh n.k s (e9 i v)).1.zero=s.zero/\(∀j u,bM n (bh n.k s (e9 i v)).1 j u=bM n s j u)/\
  ((bh n.k s (e9 i v)).2≠0->(bh n.k s (e9 i v)).1=s/\∀x,dD s i v=σ x->b2 n.k s.zero (x.un.getD v.toNat 0)<n.k)/\
  ((bh n.k s (e9 i v)).2=0->gL (bh n.k s (e9 i v)).1<gL s/\v∉aY (bh n.k s (e9 i v)).1 i):=by
 have a:bh n.k s (e9 i v)=match dD s i v with
  |none=>(s,1)
  |some x=>if b2 n.k s.zero (x.un.getD v.toNat 0)<n.k then(s,7)else(dX s i.toNat v.toNat,0):=by
  grind [bh,e9]
 cases ae:dD s i v with
 |none=>
  rw[ae]at a;rw[a];exact⟨.rfl e f,rfl,λ_ _=>rfl,by grind,by grind⟩
 |some x=>
  rw[ae]at a;simp only at a;obtain⟨r,J,w,ac⟩:=j1 ae;by_cases h:b2 n.k s.zero (x.un.getD v.toNat 0)<n.k
  .rw[m3 h]at a;rw[a];exact⟨.rfl e f,rfl,λ_ _=>rfl,by grind,Ω⟩
  .rw[m5 h]at a;have y:=(fu.1 ac).1;have z:(dX s i.toNat v.toNat).zero=s.zero:=by rw[kS J]
   have q:fw n.k n.d6 s (bh n.k s (e9 i v)).1:=F5 e f (by show 4<5;omega) (by grind [F3]) (by grind);refine⟨q,by grind,by grind [Sa],by grind,λ_=>⟨?_,λhm=>?_⟩⟩
   .rw[a];show gL (dX s i.toNat v.toNat)<gL s;rw[kS J];have A:=(x6.1 J).1;have B:=e.d9;have h1:=e.var i.toNat x _ J (v8 Ω);have C:=TD h1.2.2.1 ac
    grind [GA]
   grind [F3]
theorem zv{i:Int}:∀(L:Λ)(s:am)(b:Bool),bc n.k n.d6 s->bY s->fw n.k n.d6 s (dt n.k i L (s,b)).1/\(dt n.k i L (s,b)).1.zero=s.zero/\(∀j u,bM n (dt n.k i L (s,b)).1 j u=bM n s j u)/\gL (dt n.k i L (s,b)).1<=gL s/\
  ((dt n.k i L (s,b)).2=sp->b=sp/\(dt n.k i L (s,b)).1=s)/\((dt n.k i L (s,b)).2=s2->b=s2\/gL (dt n.k i L (s,b)).1<gL s)/\
  ∀v∈L,v∈aY (dt n.k i L (s,b)).1 i->0<=i->∀x,s.d9[i.toNat]?=σ x->x.gone=0->b2 n.k s.zero (bM n s i v)<n.k
 |[],s,b,a,q=>⟨.rfl a q,rfl,λ_ _=>rfl,o6 _,λh=>⟨h,rfl⟩,λh=>.inl h,by grind⟩
 |v::L,s,b,a,q=>by
  obtain⟨f,B,O,C,E⟩:=TE (i:=i) a q;have e:dt n.k i (v::L) (s,b)=dt n.k i L ((bh n.k s (e9 i v)).1,decide ((bh n.k s (e9 i v)).2=0)||b):=rfl;obtain⟨r,F,P,G,Q,R,S⟩:=zv L (bh n.k s (e9 i v)).1 (decide ((bh n.k s (e9 i v)).2=0)||b) f.ok f.gJ;rw[e];have H:gL (bh n.k s (e9 i v)).1<=gL s:=by
   grind
  refine⟨f.F r,F.F B,by grind,X0 G H,λh=>?_,λh=>?_,λu hu w T x J U=>?_⟩
  .grind
  .grind
  .rcases List.mem_cons.1 hu with rfl|hu
   .by_cases h:(bh n.k s (e9 i u)).2=0
    .exact m6 (r.fh i u w) (E h).2
    .have V:u∈aG x:=by
      have h1:=f.fh i u (r.fh i u w)
      grind [aY]
     have ac:dD s i u=σ x:=by
      grind [dD]
     have W:=(C h).2 x ac;have I:=(x6.1 J).1;have K:=a.d9;obtain⟨z,M⟩:=aJ (l:=n.d6) (i:=i.toNat) Ω;have X:=(a.var i.toNat x z J M).1
     grind [fu,eB,bM,fs]
   .have A:=f.same;have I:=(x6.1 J).1;have K:=A.d9;obtain⟨y,N⟩:=aJ (l:=(bh n.k s (e9 i v)).1.d9) (i:=i.toNat) Ω;have h1:=A.var i.toNat x y J N
    grind
def p9(n:aI)(s:am)(i:Int):Prop:=dh s i.toNat=sp->aY s i≠[]/\(dS n s i).1=0/\∀v∈aY s i,b2 n.k s.zero (bM n s i v)<n.k
theorem zw{i:Int}(a:bc n.k n.d6 s):(dS n s i).2<0↔aY s i=[]:=by
 grind [TB,dS,aY,fu]
theorem TF{i:Int}(f:bc n.k n.d6 s)(r:bY s)(w:0<=i)(hi:i<n.d6.length)(F:dh s i.toNat=sp)(G:aY s i≠[]):
  (bh n.k s (l5 i (dS n s i).1)).2=0/\fw n.k n.d6 s (bh n.k s (l5 i (dS n s i).1)).1/\gL (bh n.k s (l5 i (dS n s i).1)).1=gL s/\(bh n.k s (l5 i (dS n s i).1)).1.zero=min (s.zero+(dS n s i).1) n.k:=by
 have H:=f.d9;obtain⟨x,J⟩:=aJ (l:=s.d9) (i:=i.toNat) Ω;have A:x.gone=0:=by grind [dh]
 have I:aY s i=aG x:=by grind [aY]
 have K:∀v∈aG x,bM n s i v=x.un.getD v.toNat 0:=λv ac=>by
  obtain⟨z,h⟩:=aJ (l:=n.d6) (i:=i.toNat) Ω;have L:=(f.var i.toNat x z J h).1
  grind [fu,eB,bM,fs]
 have B:=F0 (i:=i) f;have M:=(FZ (c:=(dS n s i).1) (R9 (i:=i) f)).1 (T3 _);have C:(dS n s i).1<=jc x:=R5 (by grind) (by grind);have q:=(R6 (k:=n.k) (a:=l5 i (dS n s i).1) w J A).2.1 rfl B C;have E:∀j u,u∈aY (bh n.k s (l5 i (dS n s i).1)).1 j->u∈aY s j:=λj u hu=>by
  rw[q]at hu;have e:aY (iM s i.toNat x (λg=>cJ n.k g (dS n s i).1) λg=>b2 n.k g (dS n s i).1) j=aY s j:=FW J rfl FY;have hu:u∈aY (iM s i.toNat x (λg=>cJ n.k g (dS n s i).1) λg=>b2 n.k g (dS n s i).1) j:=hu
  grind
 have h:(bh n.k s (l5 i (dS n s i).1)).1.zero=min (s.zero+(dS n s i).1) n.k:=by rw[q];rfl
 have N:=f.zero;refine⟨by rw[q],F5 f r (by show 2<5;omega) E Ω,?_,h⟩;rw[q];show gL (iM s i.toNat x _ _)=gL s;have:=GA (s:=s) (y:={x with un:=eC (λg=>cJ n.k g (dS n s i).1) x.un (aG x)}) J;rw[FY]at this;exact Nat.add_right_cancel this
theorem GB{i:Int}{b:Bool}(j:bc n.k n.d6 s)(G:bY s)(A:0<=i)(hi:i<n.d6.length):fw n.k n.d6 s (fg n i (s,b)).1/\eM n.k (fg n i (s,b)).1<=eM n.k s/\
  ((fg n i (s,b)).2.2=s2->dh s i.toNat=sp/\aY (fg n i (s,b)).1 i=[])/\((fg n i (s,b)).2.2=sp->(fg n i (s,b)).2.1=s2->b=s2\/eM n.k (fg n i (s,b)).1<eM n.k s)/\
  ((fg n i (s,b)).2.2=sp->(fg n i (s,b)).2.1=sp->b=sp/\(fg n i (s,b)).1=s/\p9 n s i):=by
 have T:=j.d9;obtain⟨x,J⟩:=aJ (l:=s.d9) (i:=i.toNat) Ω;generalize a:fg n i (s,b)=r;unfold fg at a;simp only at a;by_cases B:dh s i.toNat=s2
 .rw[m3 B]at a;subst a;exact⟨.rfl j G,o6 _,by grind,by grind,λ_ h=>⟨h,rfl,λC=>(by rw[B]at C;cases C)⟩⟩
 rw[m5 B]at a;have U:dh s i.toNat=sp:=by grind
 have E:x.gone=0:=by grind [dh]
 obtain⟨f,K,L,M,H,N,w⟩:=zv (n:=n) (i:=i) (aY s i) s sp j G;generalize dt n.k i (aY s i) (s,sp)=q at f K L M H N w a;have O:eM n.k q.1<=eM n.k s:=by grind [eM]
 have P:dh q.1 i.toNat=sp:=by
  have V:=f.same.d9;obtain⟨y,I⟩:=aJ (l:=q.1.d9) (i:=i.toNat) Ω;unfold dh;rw[I];simpa[(f.same.var _ x y J I).1]using E
 by_cases Q:(dS n q.1 i).2<0
 .grind [zw,fw.ok]
 .have z:aY q.1 i≠[]:=by grind [zw,fw.ok]
  rw[m5 Q]at a;by_cases F:0<(dS n q.1 i).1
  .obtain⟨W,R,X,Y⟩:=TF f.ok f.gJ A hi P z;rw[m3 F]at a;have Z:q.1.zero<n.k:=by
    obtain⟨v,ac⟩:=List.exists_mem_of_ne_nil _ z;have h1:=w v (f.fh i v ac) ac A x J E;have C:=(kQ (n:=n) (s:=s) (i:=i) (v:=v) j).1
    grind [b2]
   have S:eM n.k (bh n.k q.1 (l5 i (dS n q.1 i).1)).1<eM n.k s:=by
    grind [eM]
   subst a;exact⟨f.F R,Nat.le_of_lt S,by grind,by grind,by grind⟩
  .rw[m5 F]at a;subst a;refine⟨f,O,by grind,λ_ h=>?_,λ_ h=>?_⟩
   .grind [eM]
   .have h:(q.2||b)=sp:=h;rw[T4]at h;obtain⟨_,e⟩:=H h.1;rw[e]at F z w;have aa:=F0 (i:=i) j;exact⟨h.2,e,λ_=>⟨z,Ω,λv ac=>w v ac ac A x J E⟩⟩
theorem GC:∀(L:List Nat)(s:am)(b:Bool),bc n.k n.d6 s->bY s->(∀i∈L,i<n.d6.length)->fw n.k n.d6 s (gZ n L (s,b)).1/\eM n.k (gZ n L (s,b)).1<=eM n.k s/\
  ((gZ n L (s,b)).2.2=s2->(gZ n L (s,b)).2.1=sp/\∃i∈L,dh s i=sp/\aY (gZ n L (s,b)).1 (i:Int)=[])/\((gZ n L (s,b)).2.2=sp->(gZ n L (s,b)).2.1=s2->b=s2\/eM n.k (gZ n L (s,b)).1<eM n.k s)/\
  ((gZ n L (s,b)).2.2=sp->(gZ n L (s,b)).2.1=sp->b=sp/\(gZ n L (s,b)).1=s/\∀i∈L,p9 n s (i:Int))
 |[],s,b,e,w,_=>⟨.rfl e w,o6 _,λh=>(by cases h),λ_ h=>.inl h,λ_ h=>⟨h,rfl,by grind⟩⟩
 |i::L,s,b,e,w,z=>by
  obtain⟨a,A,B,G,H⟩:=GB (i:=(i:Int)) (b:=b) e w Ω (by have:=z i (.head _);omega);rw[u7]at B;generalize f:gZ n (i::L) (s,b)=r;unfold gZ at f;generalize fg n (i:Int) (s,b)=q at a A B G H f;by_cases I:q.2.2=s2
  .grind
  .have Q:q.2.2=sp:=by grind
   rw[m5 I]at f;subst f;obtain⟨K,M,N,R,S⟩:=GC L q.1 q.2.1 a.ok a.gJ (by grind);refine⟨a.F K,X0 M A,λh=>?_,λh1 O=>?_,λh1 O=>?_⟩
   .obtain⟨h1,j,C,E,P⟩:=N h;refine⟨h1,j,.tail _ C,?_,P⟩;have T:=z j (.tail _ C);have U:=e.d9;have V:=a.same.d9;obtain⟨x,J⟩:=aJ (l:=s.d9) (i:=j) Ω;obtain⟨y,F⟩:=aJ (l:=q.1.d9) (i:=j) Ω;unfold dh at E ⊢;rw[F]at E;rw[J];have:=(a.same.var j x y J F).1
    grind
   all_goals grind
theorem GD(a:bc n.k n.d6 s)(e:bY s):fw n.k n.d6 s (fI n s).1/\((fI n s).2.2=s2->(fI n s).2.1=sp/\∃i<n.d6.length,dh s i=sp/\aY (fI n s).1 (i:Int)=[])/\
  ((fI n s).2.2=sp->(fI n s).2.1=s2->eM n.k (fI n s).1<eM n.k s)/\((fI n s).2.2=sp->(fI n s).2.1=sp->(fI n s).1=s/\∀i<n.d6.length,p9 n s (i:Int)):=by
 grind [GC,fI]
end
section
variable{n:aI}{s:am}
def iP(n:aI)(s:am):Prop:=∀i<n.d6.length,p9 n s (i:Int)
theorem GF{i:Int}(a:bc n.k n.d6 s)(f:0<=i):∀(L:Λ)(b:Bool),(∀v∈L,v∈aY s i/\b2 n.k s.zero (bM n s i v)<n.k)->dt n.k i L (s,b)=(s,b)
 |[],_,_=>rfl
 |v::L,b,h=>by
  obtain⟨ac,r⟩:=h v (.head _);have e:bh n.k s (e9 i v)=(s,7)\/bh n.k s (e9 i v)=(s,1):=by
   unfold bh e9;simp only;rw[m5 Ω,m5 Ω,m5 Ω,m5 Ω,m3 trivial];cases ae:dD s i v with
   |none=>grind
   |some x=>
    obtain⟨_,J,_,w⟩:=j1 ae;left;simp only;have y:=(x6.1 J).1;have A:=a.d9;obtain⟨z,j⟩:=aJ (l:=n.d6) (i:=i.toNat) Ω;have B:=(a.var i.toNat x z J j).1
    grind [fu,eB,bM,fs]
  have q:dt n.k i (v::L) (s,b)=dt n.k i L (s,b):=by
   grind [dt,Decidable.decide]
  rw[q];exact GF a f L b (by grind)
theorem GG(f:bc n.k n.d6 s):∀(L:List Nat),(∀i∈L,p9 n s (i:Int))->gZ n L (s,sp)=(s,sp,sp)
 |[],_=>rfl
 |i::L,h=>by
  have ac:=h i (.head _);have e:fg n (i:Int) (s,sp)=(s,sp,sp):=by
   unfold fg;by_cases a:dh s (i:Int).toNat=s2
   .rw[m3 a]
   .rw[m5 a];obtain⟨h1,j,q⟩:=ac (by grind)
    grind [GF,zw]
  unfold gZ;rw[e];simp only;rw[m5 Φ];exact GG f L (by grind)
theorem TG{i:Nat}(a:bc n.k n.d6 s)(h:iP n s)(hi:i<n.d6.length)(j:dh s i=sp):s.zero<n.k:=by
 obtain⟨e,_,f⟩:=h i hi (by grind);obtain⟨v,ac⟩:=List.exists_mem_of_ne_nil _ e;have h1:=f v ac;have q:=(kQ (i:=(i:Int)) (v:=v) a).1
 grind [b2]
theorem zero_le(e:bc n.k n.d6 s):s.zero<=ej n.k s a:=by
 rw[oL e];have h1:=pZ _ (sT (a:=a) e);have f:=pZ _ (q9 (a:=a) e);have h:=e.zero.2;omega
theorem TH{i:Nat}(e:bc n.k n.d6 s)(f:iE s a)(hi:i<n.d6.length)(h:dh s i=sp)(j:aY s (i:Int)=[]):ej n.k s a=n.k:=by
 have q:=e.d9;have r:=f.1;obtain⟨x,J⟩:=aJ (l:=s.d9) (i:=i) Ω;obtain⟨bx,w⟩:=aJ (l:=a) (i:=i) Ω
 grind [dh,aY,FM]
end
theorem GH:∀{l m:List Nat},l.length=m.length->(∀(i:Nat)x y,l[i]?=σ x->m[i]?=σ y->x<=y)->l.sum<=m.sum/\((∃(i:Nat)(x y:Nat),l[i]?=σ x/\m[i]?=σ y/\x<y)->l.sum<m.sum)
 |[],[],_,_=>by grind
 |[],_::_,h,_=>by simp at h
 |_::_,[],h,_=>by simp at h
 |a::l,b::m,h,e=>by
  obtain⟨r,j⟩:=GH (by simpa using h) λi x y J f=>e (i+1) x y (by grind) (by grind);have s:=e 0 a b rfl rfl;rw[List.sum_cons,List.sum_cons];refine⟨Ω,λ⟨i,x,y,J,f,q⟩=>?_⟩;cases i with
  |zero=>grind
  |succ i=>
   have:=j ⟨i,x,y,by simpa using J,by simpa using f,q⟩;omega
theorem GI{c:Nat}:∀{l:List Nat},(∀x∈l,x<=c)->l.sum<=l.length*c
 |[],_=>Ξ
 |a::l,h=>by
  have h1:=GI λx J=>h x (.tail _ J);have e:=h a (.head _)
  grind [T7]
def lA(M:Nat):List Nat->Nat
 |[]=>0
 |u::us=>(M-u)*(M+1) ^ us.length+lA M us
theorem zx{M:Nat}:∀us:List Nat,lA M us<(M+1) ^ us.length
 |[]=>by simp[lA]
 |u::us=>by
  have a:=zx (M:=M) us;have h:(M-u)*(M+1) ^ us.length<=M*(M+1) ^ us.length:=V4 _ (Nat.sub_le _ _)
  grind [lA]
theorem GJ{M:Nat}:∀(us vs:List Nat)(i:Nat),us.length=vs.length->(∀v∈vs,v<=M)->(∀(j:Nat)u v,j<i->us[j]?=σ u->vs[j]?=σ v->u<=v)->(∃u v,us[i]?=σ u/\vs[i]?=σ v/\u<v)->lA M vs<lA M us
 |[],_,_,_,_,_,⟨_,_,h,_⟩=>by simp at h
 |_::_,[],_,h,_,_,_=>by simp at h
 |a::us,b::vs,i,f,q,r,⟨u,v,hu,ac,w⟩=>by
  have f:us.length=vs.length:=by grind
  have key:a<b->lA M (b::vs)<lA M (a::us):=λs=>by
   have x:=q b (.head _);have h1:=zx (M:=M) vs;unfold lA;rw[f];have y:(M-b+1)*(M+1) ^ vs.length<=(M-a)*(M+1) ^ vs.length:=V4 _ Ω
   grind
  cases i with
  |zero=>
   grind
  |succ i=>
   have z:=r 0 a b Ω rfl rfl;by_cases s:a<b
   .omega
   have e:a=b:=Ω
   have A:=GJ us vs i f (λv ac=>q v (.tail _ ac)) (by grind) (by grind)
   grind [lA]
section
variable{n:aI}{s s':am}
def nX(n:aI)(s:am)(i:Nat):Nat:=((aY s (i:Int)).map λv=>(bM n s (i:Int) v).toNat).sum
def nY(n:aI)(s:am):List Nat:=(Y9 n.d6.length).map (nX n s)
def ri(n:aI):Nat:=32*n.k.toNat
theorem TI{i:Nat}(a:bc n.k n.d6 s):nX n s i<=ri n:=by
 unfold nX ri;have h:=GI (c:=n.k.toNat) (l:=(aY s (i:Int)).map λv=>(bM n s (i:Int) v).toNat) λx J=>by
  obtain⟨v,_,rfl⟩:=l9.1 J;have:=(kQ (n:=n) (s:=s) (i:=(i:Int)) (v:=v) a).2;omega
 rw[r9]at h;exact X0 h (V4 _ (R8 a))
theorem GK{i:Nat}(a:bc n.k n.d6 s)(f:bc n.k n.d6 s')(e:aY s' (i:Int)=aY s (i:Int))(h:∀v∈aY s (i:Int),bM n s (i:Int) v<=bM n s' (i:Int) v):nX n s i<=nX n s' i/\((∃v∈aY s (i:Int),bM n s (i:Int) v<bM n s' (i:Int) v)->nX n s i<nX n s' i):=by
 unfold nX;rw[e];have q:=GH (l:=(aY s (i:Int)).map λv=>(bM n s (i:Int) v).toNat) (m:=(aY s (i:Int)).map λv=>(bM n s' (i:Int) v).toNat) (by grind) λp x y J j=>by
  grind
 refine⟨q.1,λ⟨v,ac,r⟩=>q.2 ?_⟩;obtain⟨p,ae⟩:=Y5.1 ac;refine⟨p,(bM n s (i:Int) v).toNat,(bM n s' (i:Int) v).toNat,by grind,by grind,?_⟩;have:=(kQ (i:=(i:Int)) (v:=v) a).1;omega
open Classical in
noncomputable def gM(n:aI)(s:am):Nat:=(2*eM n.k s+if iP n s then 1 else 0)*(ri n+1) ^ n.d6.length+lA (ri n) (nY n s)
theorem GL:lA (ri n) (nY n s)<(ri n+1) ^ n.d6.length:=by
 grind [zx,nY,r9]
theorem GM{a b f e:Nat}(h:a<b)(he:e<f):a*f+e<b*f+j:=by
 have:(a+1)*f<=b*f:=V4 _ h
 grind
theorem TJ(h:eM n.k s'<eM n.k s):gM n s'<gM n s:=by
 unfold gM;refine GM ?_ GL
 grind
theorem GN(h:eM n.k s'=eM n.k s)(a:iP n s)(e:¬iP n s'):gM n s'<gM n s:=by
 unfold gM;rw[m3 a,m5 e,h];exact GM Ω GL
theorem GO{i:Nat}(h:eM n.k s'=eM n.k s)(a:iP n s)(w:bc n.k n.d6 s)(e:bc n.k n.d6 s')(x:∀q,aY s' q=aY s q)(hi:i<n.d6.length)(z:∀q:Nat,q<=i->∀v∈aY s (q:Int),bM n s (q:Int) v<=bM n s' (q:Int) v)(A:∃v∈aY s (i:Int),bM n s (i:Int) v<bM n s' (i:Int) v):gM n s'<gM n s:=by
 by_cases f:iP n s'
 .unfold gM;rw[m3 a,m3 f,h];have j:∀(s:am)(q:Nat),q<n.d6.length->(nY n s)[q]?=σ (nX n s q):=λs q y=>by grind [nY]
  have r:∀s:am,(nY n s).length=n.d6.length:=by grind [nY]
  have:=GJ (nY n s) (nY n s') i (by rw[r,r]) (λv ac=>by
   obtain⟨q,_,rfl⟩:=l9.1 ac;exact TI e) (λq u v y hu ac=>by
   rw[j s q Ω]at hu;rw[j s' q Ω]at ac;cases hu;cases ac;exact(GK w e (x _) (by grind)).1) (by grind [GK])
  omega
 .exact GN h a f
end
end Go.Proofs.YtlcdcbgoaljiiaaGreatDoor
