/- own texts, made small by a tool (wip/ holds them as they were written): no statement of the seat. -/
import Derived.Test.YtmgflbkdggdhoaaGreatDoorZe
set_option linter.unusedVariables false
set_option linter.unusedSimpArgs false
set_option linter.unnecessarySimpa false
open Array renaming getElem?_eq_some_iff→o8
open Bool renaming not_true→Y7,not_false→W5,and_eq_true→V0,true_and→U3,or_eq_false_iff→T4
open Decidable renaming not_not→Z9
open Go renaming Value→x1,World→x3,TypeId→r8,IntKind→o4,FuncId→R4
open Go.Builtin renaming append_→b8,len_→W6
open Go.Instr renaming loadAt→u4,fieldAt→u5,storeAt→o6,indexAt→j5,extract→Z4,alloc→R7
open Go.IntKind renaming i64→X2,u64→U1
open Go.Proofs.Tryz renaming prog→x7
open Go.Value renaming int→W8
open Int renaming toNat_natCast→u6,eq_ofNat_of_zero_le→U4,le_refl→T2
open List renaming getElem?_eq_some_iff→x4,mem_of_getElem?→x5,getElem?_eq_getElem→x6,getElem?_map→x8,getD_eq_getElem?_getD→v8,length_map→u7,take_add_one→u9,replicate→r9,length_append→p9,take_length→o5,mem_append→o7,mem_singleton→o9,mem_map→n9,length_take→l9,take_of_length_le→j9,length_cons→c7,eq_nil_of_length_eq_zero→c8,getElem?_set_self→c9,map_append→b6,length_set→Z2,getElem?_eq_none→Z6,range→Z8,getElem?_set_ne→Y2,getElem?_set→Y3,ext_getElem?→Y6,mem_iff_getElem?→X1,flatMap_cons→X5,length_eq_one_iff→W3,mem_cons→W9,map_set→V7,append_nil→U2,map_cons→U6,foldl_cons→U7,foldl_append→U9,mem_filter→T6,getElem?_zip_eq_some→S1,mem_of_mem_take→S3,length→S7
open Nat renaming le_refl→p8,le_trans→Y9,zero_add→X0,mul_one→V8,pow_le_pow_right→T7,lt_of_lt_of_le→R8,eq_zero_or_pos→Q0
open Option renaming toList_some→l7,isNone_some→b9,map_some→Z3,map_eq_some_iff→Y5,getD_some→V1,isSome_some→T8,isSome_none→S6
open Option.some renaming inj→j6
set_option maxHeartbeats 16000000
open Option renaming some→σ,none→ν
variable {a j:Nat}{c k v:Int}{l pl sizes:Λ}{U V w:x3}
namespace Go.Proofs.YtmgflbkdggdhoaaGreatDoor
open Go Go.Vc Go.RowKit Go.Proofs Go.Proofs.Tryz
set_option maxRecDepth 100000
section
variable {ad ag gs bF bm a6 B0:Nat} {R:ak} {n:aR} {s:av} {aP:x1} {sc:Λ} {v:Int}
theorem Es {dT:Nat} (P:∀u∈sc,0<=u/\u<n.sizes.length) (Q:sc.length<=6):
  pG x7 true false lx [Γ bF,Γ bm,Γ a6,Γ gs] 0 (λk=>k=(ce s sc dT v).length)
   (λk vs S w=>S=k+1/\ ∃tl aL,(ce s sc dT v)[k]? =σ tl/\vs=[aL]/\aF .i64 w aL tl) (fZ ad ag R n s gs bF bm a6 aP sc dT v B0):=by
 refine⟨lx.enters,λl ay aW w W _ X hf Y=>?_⟩;have A:∀D k U V,ah (λr=>w.heap.size<=r/\¬D r) U V->fo w.heap.size U V->ay D k U->ay D k V:=λD k U V Z ac=>W D k U V (Z.mono λr _ h=>⟨rfl,h⟩) ac;have J:=hf.2.2.1;have ae:=hf.2.2.2.2.1.2;obtain⟨_,_,_,aX⟩:=dg J;refine pQ func227 ?_;refine aC.ct (bo λgy U aY j C aj=>?_);have ak:∀ {E:x3} {K:x1->Prop},af E bF an [aP]->K aP->aa x7 (u4 an (Γ bF)) E K:=λal am=>by rw[aA (v:=aP) Ψ (al.Qz rfl)];exact am
 refine ak (hf.1.2.1.ext j) ?_;rw[aU an.u (J.ext j)];refine aC.ct (iU (k:=.i64) an.u ai.i Ω Ω λgt V aZ y G ao=>?_);refine aC.ct (bG an.i λgtb a1 a2 m H ap=>?_);refine aC.ct (bt an.i rfl rfl H (by simp[x1.cells]) λa7 z a8 aq av=>?_);refine aC.ct (bG ow.i λga ba bb e I aw=>?_);rw[iR];refine aC.ct (bt ow.i rfl rfl I (by simp[x1.cells]) λa p bc ax az=>?_);have bd:=j.size;have be:=y.size;have z3:=m.size;have z5:=e.size;have bf:=C.lt;have bg:=G.lt;have bh:=H.lt;have bi:=I.lt;have aB:af a gy zu [.func (.yield l) #[] #[]]:=(((((af.ext C y).ext m).ab z Ω).ext e).ab p Ω);have aD:af a gt ai (ints .i64 (r9 sc.length 0)):=((((G.ext m).ab z Ω).ext e).ab p Ω);have aE:af a gtb an [.slice (σ ⟨gt,0,ν⟩) sc.length sc.length]:=((af.ext aq e).ab p Ω);have M:af a ga ow [.func (.func ly) #[] (jO bF gy gtb bm a6 ga gs)]:=ax;rw[aA (v:=.func (.func ly) #[] (jO bF gy gtb bm a6 ga gs)) Ψ (M.Qz rfl)];have hm:au .i64 ai a gt (.slice (σ ⟨gt,0,ν⟩) sc.length sc.length) (r9 sc.length 0):=by
  have:=bT.full (n:=sc.length) (k:=1) aD Ξ (by simp only[maxLen];omega);unfold au;rw[List.length_replicate];exact this
 have aG:=(j.trans y).trans m;have N:ah (λr=>w.heap.size<=r/\¬False) w a:=(((aG.ab _).trans (z.mono λr _ h=>⟨by have h:r=gtb:=h;omega,id⟩)).trans (e.ab _)).trans (p.mono λr _ h=>⟨by have h:r=ga:=h;omega,id⟩);have aH:cL w a:=((((aj.trans ao).trans ap).trans av).trans aw).trans az;have aI:fZ ad ag R n s gs bF bm a6 aP sc dT v B0 (λ_=>False) a:=hf.own N λr aJ=>⟨Ω,aJ.2⟩;have O:=Pm (s:=s) (sc:=sc) (pos:=dT) (v:=v) (tl:=r9 sc.length 0) Ξ;refine (show gB x7 ly (tJ 0 bF gy gtb bm a6 ga gs) a _ from (Pr (L:=ce s sc dT v) (B:=w.heap.size) (l:=l) (gy:=gy) (gt:=gt) (gtb:=gtb) (ga:=ga) (pos:=dT) Ω P Q ae ⟨Ω,Ω,Ω⟩ A ?_ sc.length 0 (r9 sc.length 0) 0 (λ_=>False) a Ω Ξ (λ_ h=>h.elim) Ω ⟨⟨Ω,id⟩,⟨Ω,id⟩,⟨Ω,id⟩,Ω,id⟩ ⟨aB,aE,M,hm⟩ aI (A _ _ _ _ N aH.o Y) λi x hi=>?_).free.mono ?_)
 .intro D k tl aL w' aK aM aN aO aQ q;refine hA.mono (X D k (k+1) [aL] w' aK aM aN ⟨rfl,tl,aL,aO,rfl,aQ⟩ q) ?_;rintro u bj (⟨h1,aR,aS,aT,aV⟩|⟨h,_⟩)
  .exact⟨h1,aR,aS (.inr rfl),aT,aV rfl⟩
  .cases h
 .rw[O] at hi;rw[X0];exact hi
 .rintro _ bk ⟨_,rfl,_,D',_,_,_,_,_,_,q,_⟩;rw[O,X0] at q;exact .inl ⟨D',_,rfl,q⟩
end
def Et (m gs bF bm a6:Nat) (aP:x1):Prop:=(m<=gs/\m<=bF/\m<=bm/\m<=a6)/\ ∀r,leads aP r->m<=r
section
variable {ad ag gs bF bm a6 B0 m:Nat} {A R:ak} {n:aR} {s s':av} {t:aB} {aP:x1} {sc:Λ} {pos v:Int} {w w':x3}
theorem bx.lt (h:bx w ad ag A R n s t) {r:Nat} (a:A r\/R r):r<w.heap.size:=by
 obtain⟨⟨j,m,p,q,⟨_,_,e,f⟩,_⟩,_⟩:=h;exact a.elim (f r) (e r)
theorem fZ.put {D D' S:Nat->Prop} (h:fZ ad ag R n s gs bF bm a6 aP sc pos v B0 D w) (j:ah S w w') (hm:Et m gs bF bm a6 aP) (y:∀r,S r->r<m\/B0<=r) (z:Laid w') (B:bx w' ad ag A R n s' t) (C:∀i,cq s' i=cq s i) (E:∀r,A r\/R r->r<B0\/D' r):fZ ad ag R n s gs bF bm a6 aP sc pos v B0 D' w':=by
 obtain⟨h1,f,p,q,F,_⟩:=h;have no:∀ {r:Nat},m<=r->r<B0->¬S r:=λh1 f p=>by have:=y _ p;omega
 exact⟨h1.ab j ⟨no hm.1.1 f.1,no hm.1.2.1 f.2.1,no hm.1.2.2.1 f.2.2.1,no hm.1.2.2.2 f.2.2.2⟩,f,hI p j λr G a n c e x=>no (hm.2 r ⟨a,n,c,e,x⟩) (q r ⟨a,n,c,e,x⟩) G,q,⟨z,Y9 F.2 j.size⟩,A,s',t,B,C,E⟩
theorem Eu {f:cz} {q:x3->Prop} {K:x1->x3->Prop} (h:bx w ad ag A R n s t) (x:Laid w) (ae:s.funs[j]? =σ f)
  (y:∀aP gs bF bm a6 w',Ext w w'->Et w.heap.size gs bF bm a6 aP->fZ ad ag R n s gs bF bm a6 aP f.sc pos v w'.heap.size (λ_=>False) w'->K (.func (.func lx) #[] #[Γ bF,Γ bm,Γ a6,Γ gs]) w'):
  am x7 pL [Γ ad,Δ (j:Int)] w λaP U=>(Ext w U\/q U)/\am x7 zn [Γ ad,aP,Δ pos,Δ v] U K:=by
 refine (lX h ae).mono ?_;rintro aP U _ ⟨m,g,B,hm⟩;refine⟨.inl m,(Pn hm.ls).mono ?_⟩;rintro _ V _ ⟨p,gs,bF,bm,a6,rfl,a,C,E,G,H⟩;have I:=m.trans p;have J:=m.size;have z:=I.size;refine y aP gs bF bm a6 V I ⟨⟨Ω,Ω,Ω,Ω⟩,λr e=>(bM hm e).1▸B⟩ ⟨a,⟨a.1.lt,a.2.1.lt,a.2.2.1.lt,a.2.2.2.lt⟩,hm.ls.ext p,λr e=>?_,⟨x.ext I,p8 _⟩,A,s,t,h.ext I,λ_=>rfl,λr e=>.inl ?_⟩
 .have:=bM hm e;have:=p.size;omega
 .have:=h.lt e;omega
end
section
variable {k:Int} {sizes:Λ} {s:av} {f:cz} {j pos:Nat} {v:Int} {tl:Λ}
theorem Ev {m:Nat} (ae:s.funs[j]? =σ f) (a:f.live≠0) (hm:cJ f.aj tl 0=σ (m:Int)):(fK s j tl).isSome=true/\hb s j tl=bn f.aj f.cs tl:=by
 unfold fK hb;rw[ae];simp[a,hm]
end
section
variable {w:x3} {ad ag:Nat} {A R:ak} {n:aR} {s:av} {t:aB}
theorem Ps {pos:Nat} {f:cz} (h:bx w ad ag A R n s t) (al:Laid w) (ae:s.funs[j]? =σ f) (az:f.live≠0) (ac:∀u,f.sc[pos]? =σ u->v∈cq s u):
  am x7 GP [Γ ad,Δ (j:Int),Δ (pos:Int),Δ v] w λr w'=>r=Δ (lZ n.k s f pos v)/\Ext w w':=by
 have an:=h.2.2.2.1;have ao:=x5 ae;obtain⟨N,aU,_⟩:=an.funs f ao;refine iQ func111 ?_;refine bo λg1 U aV O y=>?_;refine bo λP V aW K L=>?_;have y:af V g1 dy [Γ ad]:=af.ext y K;have L:af V P ai [Δ (j:Int)]:=L;rw[aA (v:=Γ ad) Ψ (y.Qz rfl)];refine (jL (h.ext (O.trans K))).mono ?_;rintro _ aX _ ⟨rfl,Q⟩;refine bG ap.i λz aY a1 S aq=>?_;have a2:=O.size;have a7:=K.size;have z3:=Q.size;have z4:=S.size;have a8:=y.lt;have ba:=L.lt;have bb:=aq.lt;refine bt ap.i rfl rfl aq (by simp[x1.cells]) λaB W bc X=>?_;have X:af aB z ap [Δ n.k]:=X;intro Y B _ _;have bd:=B.size;have au:=Q.trans S;have Z:Ext w Y:=((((O.trans K).trans Q).trans S).then W (by rintro r p rfl;omega)).trans B;have aa:af Y g1 dy [Γ ad]:=((y.ext au).ab W Ω).ext B;have av:af Y P ai [Δ (j:Int)]:=((L.ext au).ab W Ω).ext B;have aw:=X.ext B;have be:=aw.lt;rw[aA (v:=Γ ad) Ψ (aa.Qz rfl),aA (v:=Γ ad) Ψ (aa.Qz rfl),aA (v:=Δ (j:Int)) Ψ (av.Qz rfl)];refine Eu (h.ext Z) (al.ext Z) ae λaP gs bF bm a6 aD C aE aF=>?_;have bf:=C.size;refine⟨Nat,true,false,lx,#[Γ bF,Γ bm,Γ a6,Γ gs],0,_,_,_,λD k w'=>Ext w w'/\af w' g1 dy [Γ ad]/\af w' P ai [Δ (j:Int)]/\af w' z ap [Δ ((((ce s f.sc pos v).take k).map (bn f.aj f.cs)).foldl min n.k)],
  λ_ _ _ _=>False,rfl,Es (λu hu=>⟨(N.scope.1 u hu).1,N.vars u hu⟩) N.scope.2,?_,λ_ _ _ I h=>h.ext I,?_,λ_ _ _ _ _ _ _ h=>h,aF,?_,?_,?_,λ_ _ _ h=>h.elim,λ_ _ _ _ h=>h.elim⟩
 .rintro _ _ _ _ ⟨_,_,_,_,rfl,_⟩;rfl
 .rintro D k aG aH M bg ⟨q,E,G,x⟩;have aZ:∀ {g:Nat} {e:r8} {cs:List x1},g<aD.heap.size->af aG g e cs->af aH g e cs:=λbh aI=>aI.ab M λh=>by have:=h.2.1;omega
  exact⟨q.then M λr p h=>by have:=h.2.1;omega,aZ Ω E,aZ Ω G,aZ Ω x⟩
 .exact⟨Z.trans C,aa.ext C,av.ext C,aw.ext C⟩
 .rintro aL D k bk bl bp bq aJ ⟨rfl,tl,br,ax,e,aK⟩ ⟨q,E,G,x⟩;cases e;intro bu H _ aM;obtain⟨m,hm⟩:=tE an ao ac (x5 ax);obtain⟨aN,M⟩:=Ev ae az hm;rw[aA (v:=Γ ad) Ψ ((E.ext H).Qz rfl),aA (v:=Δ (j:Int)) Ψ ((G.ext H).Qz rfl)];refine (tq (j:=j) (h.ext (q.trans H)) (aK.ext H)).mono ?_;rintro _ bw aO ⟨rfl,aQ⟩;have a:=H.trans aQ;rw[if_pos aN,M,bi,bj,aA (v:=Δ ((((ce s f.sc pos v).take k).map (bn f.aj f.cs)).foldl min n.k)) Ψ ((x.ext a).Qz rfl),lE];refine aC.ct (bt ap.i rfl rfl (x.ext a) Ξ λay J bz ah aR=>?_);have bA:=a.size;have ak:Ext w ay:=(q.trans a).then J (by rintro r p rfl;omega);have aS:=h.ext ak;refine⟨⟨D,λr h=>.inl h,λ_ h=>h,(aJ.ext a).put J aE (λr p=>.inl (by have p:r=z:=p;omega)) (al.ext ak) aS (λ_=>rfl) λr p=>.inl (by have:=h.lt p;omega),ak,(E.ext a).ab J Ω,(G.ext a).ab J Ω,?_⟩,aM.trans (aO.jT.trans aR.jT),(a.ab _).trans (J.mono λr _ h=>.inl (by have h:r=z:=h;omega))⟩;have ah:af ay z ap [Δ (min ((((ce s f.sc pos v).take k).map (bn f.aj f.cs)).foldl min n.k) (bn f.aj f.cs tl))]:=ah;rw[u9,ax,l7,b6,U9];exact ah
 .rintro D k bB rfl ⟨q,E,G,x⟩;rw[aA (v:=Δ ((((ce s f.sc pos v).take (ce s f.sc pos v).length).map (bn f.aj f.cs)).foldl min n.k)) Ψ (x.Qz rfl)];intro bC aT _;refine⟨?_,q.trans aT⟩;rw[j9 (p8 _)];rfl
end
def eB (w:x3) (ad ag:Nat) (A R:ak) (n:aR) (s':av) (w':x3):Prop:=ah (ev w) w w'/\Laid w'/\ ∃aQ bw,Grow A w aQ w'/\bx w' ad ag aQ R n s' bw/\ee bw []/\¬aQ 0
def gx (w:x3) (ad ag:Nat) (A R:ak) (n:aR) (m:Nat) (D:Nat->Prop) (s':av) (w':x3):Prop:=
 ah (λr=>ev w r\/w.heap.size<=r) w w'/\(Laid w'/\w.heap.size<=m/\0<w.heap.size/\(∀r,A r\/R r->r<w.heap.size))/\ ∃aQ bw,Grow A w aQ w'/\bx w' ad ag aQ R n s' bw/\(ee bw []/\¬aQ 0)/\ ∀r,aQ r->r<m\/D r
section
variable {w U V:x3} {ad ag m:Nat} {A R:ak} {n:aR} {s s' tK:av} {t:aB} {D D' S:Nat->Prop}
theorem gx.start (h:bx w ad ag A R n s t) (e:Laid w) (f:¬A 0) (j:ee t []) (I:Ext w U) (hm:w.heap.size<=m):gx w ad ag A R n m D s U:=
 ⟨I.ab _,⟨e.ext I,hm,by
  obtain⟨q,x,y,z,⟨h1,_,_,p⟩,_⟩:=h.1;have:=p _ h1;omega,λr a=>h.lt a⟩,A,t,Grow.ext I,h.ext I,⟨j,f⟩,λr a=>.inl (by have:=h.lt (.inl a);omega)⟩
theorem gx.own (h:gx w ad ag A R n m D s' U) (e:ah S U V) (f:∀r,S r->m<=r/\¬D r):gx w ad ag A R n m D s' V:=by
 obtain⟨h1,⟨s,x,y,j⟩,aQ,bw,⟨g1,z,B⟩,p,C,q⟩:=h;refine⟨h1.trans (e.mono λr _ h=>.inr (by have:=(f r h).1;omega)),⟨js e (λh=>by have:=(f _ h).1;omega) s,x,y,j⟩,aQ,bw,⟨?_,z,B⟩,⟨p.1.ab e λr _ a J=>?_,p.2⟩,C,q⟩
 .exact ((g1.mono λr _ h=>.inl h).trans (e.mono λr _ h=>.inr (f r h).1):ah (λr=>A r\/m<=r) w V).mono λr a h=>h.elim id λh=>Ω
 .obtain⟨F,E⟩:=f r J;rcases a with a|a
  .exact (q r a).elim Ω E
  .have:=j r (.inr a);omega
theorem gx.ext (h:gx w ad ag A R n m D s' U) (I:Ext U V):gx w ad ag A R n m D s' V:=h.own (I.ab λ_=>False) λ_ h=>h.elim
theorem gx.open (h:gx w ad ag A R n m D s' U):∃aQ bw,bx U ad ag aQ R n s' bw/\ee bw []/\ ∀ {V:x3} {tK:av} {D' a:Nat->Prop} {j:aB},ah (ev U) U V->Grow aQ U a V->bx V ad ag a R n tK j->ee j []->(∀r,D r->D' r)->(∀r,U.heap.size<=r->r<V.heap.size->D' r)->
  gx w ad ag A R n m D' tK V/\ah (λr=>r<m\/D r) U V/\ ∀r,a r->r<m\/D' r:=by
 obtain⟨h1,⟨y,z,B,C⟩,aQ,bw,E,F,p,q⟩:=h;refine⟨aQ,bw,F,p.1,λ{V tK D' a j} G e s H I K=>?_⟩;have O:=h1.size;have L:¬a 0:=λh=>(e.2.1 0 h).elim p.2 λh=>Ω
 have x:∀r,a r->r<m\/D' r:=λr f=>(e.2.1 r f).elim (λh=>(q r h).imp id (I r)) λh=>.inr (K r h (s.lt (.inl f)));refine⟨⟨h1.trans (G.mono λr _ h=>?_),⟨js e.1 p.2 y,z,B,C⟩,a,j,E.trans e,s,⟨H,L⟩,x⟩,e.1.mono λr _ h=>q r h,x⟩;by_cases f:w.heap.size<=r
 .exact .inr f
 .exact .inl (nP (λo M J N=>h1.aZ r o M J λh=>h.elim N f) h)
theorem gx.done (h:gx w ad ag A R n m D s' U) (I:Ext U V):eB w ad ag A R n s' V:=by
 obtain⟨h1,⟨e,p,q,s⟩,aQ,bw,f,j,a,x⟩:=h.ext I;exact⟨h1.mono λr y h=>h.elim id λh=>Ω,e,aQ,bw,f,j,a.1,a.2⟩
end
section
variable {w:x3} {ad ag:Nat} {A R:ak} {n:aR} {s:av} {t:aB}
theorem n4 {u:Nat} {x:br} (a:bq n.k n.sizes s) (I:s.vars[u]? =σ x) (ac:v∈aE x):eL n (u:Int) v:=by
 have h:=(x4.1 I).1;have j:=a.vars;obtain⟨z,e⟩:=aH (l:=n.sizes) (i:=u) Ω;have m:=(a.var _ x z I e).1;have p:=a.fk.2.2 z (x5 e);have f:=(fX.1 ac).1;refine⟨Ω,Ω,f.1,?_⟩;rw[u6,v8,e,V1];omega
theorem Ew {f:cz} {g:Int->Int} (a:bq k sizes s) (ae:s.funs[j]? =σ f):dI s j f (dx g [] f.aj f.cs)=s:=by
 obtain⟨m,p⟩:=k7 a (x5 ae);rw[O4 m Ω (λ_ h=>absurd h List.not_mem_nil)];have:s.funs.set j f=s.funs:=by
  apply Y6;intro i;by_cases e:j=i
  .subst e;rw[c9 (x4.1 ae).1,ae]
  .rw[Y2 e]
 unfold dI;show {s with funs:=s.funs.set j f}=s;rw[this]
theorem Ex {pos u:Nat} {f:cz} {x:br} {F1 F2:R4} {tup un:Int->Int} (h:bx w ad ag A R n s t) (aN:Laid w) (bh:¬A 0) (bk:ee t []) (ae:s.funs[j]? =σ f) (bl:f.live≠0) (hu:f.sc[pos]? =σ (u:Int)) (I:s.vars[u]? =σ x) (ac:v∈aE x)
  (h1:∀tl∈ce s f.sc pos v,(0<=tup (bn f.aj f.cs tl)/\tup (bn f.aj f.cs tl)<=n.k)/\ ∀ {w:x3} {A:ak} {s:av} {t:aB},bx w ad ag A R n s t->am x7 F1 [Γ ad,Δ (bn f.aj f.cs tl),Δ c] w λr w'=>r=Δ (tup (bn f.aj f.cs tl))/\Ext w w')
  (aO:(0<=un (x.un.getD v.toNat 0)/\un (x.un.getD v.toNat 0)<=n.k)/\ ∀ {w:x3} {A:ak} {s:av} {t:aB},bx w ad ag A R n s t->am x7 F2 [Γ ad,Δ (x.un.getD v.toNat 0),Δ c] w λr w'=>r=Δ (un (x.un.getD v.toNat 0))/\Ext w w'):
  am x7 GQ [.agg #[.func (.func F1) #[] #[],.func (.func F2) #[] #[]],Γ ad,Δ (j:Int),Δ (pos:Int),Δ v,Δ c] w λ_ w'=>eB w ad ag A R n (iH s j f pos u x v tup un) w':=by
 have C:=h.2.2.2.1;have aa:=x5 ae;obtain⟨al,b3,_⟩:=C.funs f aa;have aR:∀u',f.sc[pos]? =σ u'->v∈cq s u':=λu' aS=>by
  rw[hu] at aS;cases aS;unfold cq;rw[u6,I];exact ac
 have bp:=Ej C aa aR;refine iQ func114 ?_;refine bo λbq U b4 aU N=>?_;refine bo λg1 V b5 ao a=>?_;refine bo λbt b6 b7 X z=>?_;refine bo λbu y b8 Y O=>?_;have N:af y bq pP [.func (.func F1) #[] #[],.func (.func F2) #[] #[]]:=((af.ext N ao).ext X).ext Y;have a:af y g1 dy [Γ ad]:=(af.ext a X).ext Y;have z:af y bt ai [Δ (j:Int)]:=af.ext z Y;have O:af y bu ap [Δ c]:=O;have aq:=((aU.trans ao).trans X).trans Y;have b9:=aU.size;have ca:=ao.size;have z3:=X.size;have cb:=aq.size;have aV:=N.lt;have E:=a.lt;have aW:=z.lt;have aX:=O.lt;rw[aA (v:=Γ ad) Ψ (a.Qz rfl),aA (v:=Δ (j:Int)) Ψ (z.Qz rfl)];refine (lX (h.ext aq) ae).mono ?_;rintro cc cd _ ⟨bw,_,_,bz⟩;rw[be an.u ai.i Ψ bz.ls hu];intro cg bA _ _;have G:=bw.trans bA;have au:=aq.trans G;have z46:=G.size;rw[aA (v:=Γ ad) Ψ ((a.ext G).Qz rfl),aA (v:=Γ ad) Ψ ((a.ext G).Qz rfl),aA (v:=Δ (j:Int)) Ψ ((z.ext G).Qz rfl)];refine Eu (h.ext au) (aN.ext au) ae λaP gs bF bm a6 aY aw bB bC=>?_;have ch:=aw.size;have bD:=G.trans aw;refine⟨Nat,true,false,lx,#[Γ bF,Γ bm,Γ a6,Γ gs],0,_,_,_,
  λD k w'=>gx w ad ag A R n w.heap.size D (dI s j f (dx tup ((ce s f.sc pos v).take k) f.aj f.cs)) w'/\(ah (λr=>r<w.heap.size\/aY.heap.size<=r) y w'/\aY.heap.size<=w'.heap.size),
  λ_ _ _ _=>False,rfl,Es (λu hu=>⟨(al.scope.1 u hu).1,al.vars u hu⟩) al.scope.2,?_,λ_ _ _ I h=>h.ext I,?_,λ_ _ _ _ _ _ _ h=>h,bC,?_,?_,?_,λ_ _ _ h=>h.elim,λ_ _ _ _ h=>h.elim⟩
 .rintro _ _ _ _ ⟨_,_,_,_,rfl,_⟩;rfl
 .rintro D k ci cj P ck ⟨H,J,ax⟩;exact⟨H.own P λr q=>⟨Ω,q.2.2⟩,J.trans (P.mono λr _ h=>.inr h.2.1),Y9 ax P.size⟩
 .refine⟨?_,bD.ab _,p8 _⟩;have e:dI s j f (dx tup ((ce s f.sc pos v).take 0) f.aj f.cs)=s:=Ew C ae;rw[e];exact gx.start h aN bh bk (au.trans aw) (p8 _)
 .rintro aL D k cl ay a1 cm bE ⟨rfl,tl,cn,az,e,a2⟩ ⟨H,J,ax⟩;cases e;intro cp Q _ bG;obtain⟨m,hm⟩:=tE C aa aR (x5 az);obtain⟨bH,bI⟩:=Ek (g:=tup) C ae bp az hm;obtain⟨⟨bJ,bK⟩,bL⟩:=h1 tl (x5 az);have aZ:∀ {S:x3} {g:Nat} {e:r8} {cs:List x1},Ext ay S->w.heap.size<=g->g<y.heap.size->af y g e cs->af S g e cs:=λI K aC aD=>(aD.ab J Ω).ext I;have bM:=(x4.1 ae).1;have a7:(dI s j f (dx tup ((ce s f.sc pos v).take k) f.aj f.cs)).funs[j]? =σ {f with cs:=dx tup ((ce s f.sc pos v).take k) f.aj f.cs}:=c9 bM;obtain⟨K,P⟩:=Ev (tl:=tl) a7 bl hm;obtain⟨A9,t9,aF,a8,aG⟩:=H.open;rw[aA (v:=Γ ad) Ψ ((aZ Q Ω E a).Qz rfl),aA (v:=Δ (j:Int)) Ψ ((aZ Q Ω aW z).Qz rfl)];refine (tq (j:=j) (aF.ext Q) (a2.ext Q)).mono ?_;rintro _ cr bN ⟨rfl,bO⟩;rw[if_pos K,P,bi,bj];intro bP bQ _ bR;have B:=(Q.trans bO).trans bQ;rw[aA (v:=Γ ad) Ψ ((aZ B Ω E a).Qz rfl),aA (v:=Δ (j:Int)) Ψ ((aZ B Ω aW z).Qz rfl),
   aT pP.p 0 (aZ B Ω aV N) rfl,aA (v:=Γ ad) Ψ ((aZ B Ω E a).Qz rfl),aA (v:=Δ c) Ψ ((aZ B Ω aX O).Qz rfl)]
  show am x7 F1 [Γ ad,Δ (bn f.aj (dx tup ((ce s f.sc pos v).take k) f.aj f.cs) tl),Δ c] bP _;rw[bH];refine (bL (aF.ext B)).mono ?_;rintro _ ct bS ⟨rfl,ba⟩;have W:=B.trans ba;refine⟨.inl ba,(OG (j:=j) (aF.ext W) (.inl a8.1) (a2.ext W)).mono ?_⟩;rintro r bb bT ⟨_,_,aH⟩;obtain⟨_,Z,aQ,bU,bV,aI,L⟩:=aH K ⟨bJ,bK⟩ _ m a7 hm;rw[bI] at L;have cu:=W.size;have cw:=Z.size;obtain⟨bc,aJ,bW⟩:=aG (D':=λr=>D r\/ay.heap.size<=r/\r<bb.heap.size) (jI W Z) ((Grow.ext W).trans aI) L a8.set (λr h=>.inl h) λr K aC=>.inr ⟨K,aC⟩;refine⟨⟨λr=>D r\/ay.heap.size<=r/\r<bb.heap.size,λr h=>h,λr h=>.inl h,?_,bc,J.trans (aJ.mono λr _ h=>h.imp id λh=>(a1 r h).1),Ω⟩,bG.trans ((((bN.trans bR).trans bS).trans bT).jT),aJ.mono λr _ h=>h.imp (λh=>Ω) id⟩;refine bE.put aJ bB (λr q=>?_) bc.2.1.1 L (λ_=>rfl) λr q=>?_
  .rcases q with q|q
   .exact .inl Ω
   .exact .inr (a1 r q).1
  .rcases q with q|q
   .exact (bW r q).imp (λh=>Ω) id
   .exact .inl (by have:=h.lt (.inr q);omega)
 .rintro D k bX rfl ⟨H,J,ax⟩;rw[j9 (p8 _)] at H;have bd:=n4 C I ac;obtain⟨cA,cB,aK,bf,aG⟩:=H.open;have aZ:∀ {S:x3} {g:Nat} {e:r8} {cs:List x1},Ext bX S->w.heap.size<=g->g<y.heap.size->af y g e cs->af S g e cs:=λI K aC aD=>(aD.ab J Ω).ext I;rw[aA (v:=Γ ad) Ψ ((aZ (Ext.refl _) Ω E a).Qz rfl)];refine (nW (i:=(u:Int)) (v:=v) aK).mono ?_;rintro _ cC _ ⟨rfl,bY⟩;have bZ:gM (dI s j f (dx tup (ce s f.sc pos v) f.aj f.cs)) (u:Int).toNat v.toNat=x.un.getD v.toNat 0:=by
   unfold gM;rw[u6,show (dI s j f (dx tup (ce s f.sc pos v) f.aj f.cs)).vars[u]? =σ x from I]
  rw[if_pos bd,bZ,bi,bj];intro b0 b1 _ _;have M:=bY.trans b1;rw[aA (v:=Γ ad) Ψ ((aZ M Ω E a).Qz rfl),aT pP.p 1 (aZ M Ω aV N) rfl,aA (v:=Γ ad) Ψ ((aZ M Ω E a).Qz rfl),aA (v:=Δ c) Ψ ((aZ M Ω aX O).Qz rfl)];show am x7 F2 [Γ ad,Δ (x.un.getD v.toNat 0),Δ c] b0 _;refine (aO.2 (aK.ext M)).mono ?_;rintro _ cD _ ⟨rfl,bg⟩;have aM:=M.trans bg;refine⟨.inl bg,(DO (i:=(u:Int)) (v:=v) (aK.ext aM) (.inl bf.1)).mono ?_⟩;rintro r cE _ ⟨_,_,aH⟩;obtain⟨_,Z,aQ,bU,bV,aI,L⟩:=aH bd aO.1;have e:kp (dI s j f (dx tup (ce s f.sc pos v) f.aj f.cs)) (u:Int).toNat v.toNat (un (x.un.getD v.toNat 0))=iH s j f pos u x v tup un:=by
   unfold kp iH eA;rw[u6,show (dI s j f (dx tup (ce s f.sc pos v) f.aj f.cs)).vars[u]? =σ x from I]
  rw[e] at L;intro cF b2 _;exact (aG (D':=λ_=>True) (jI aM Z) ((Grow.ext aM).trans aI) L bf.set (λ_ _=>trivial) λ_ _ _=>trivial).1.done b2
end
theorem q2 (h e:Nat) {l:Nat} (f:l<256) (hm:a<256):(256*h+l) &&& (256*e+a)=256*(h &&& e)+(l &&& a):=by
 have j:l &&& a<2 ^ 8:=Nat.and_lt_two_pow _ hm;apply Nat.eq_of_testBit_eq;intro i;rw[Nat.testBit_and,show 256=2 ^ 8 from rfl,Nat.testBit_two_pow_mul_add _ f,Nat.testBit_two_pow_mul_add _ hm,Nat.testBit_two_pow_mul_add _ j];split
 .rw[Nat.testBit_and]
 .rw[Nat.testBit_and]
def gO (m x:Nat):Nat:=(x / 2 &&& m)+(x &&& m)
def hz (m x:Nat):Nat:=(x / 4 &&& m)+(x &&& m)
def jj (m x:Nat):Nat:=(x / 16+x) &&& m
def cY (a:Nat):Nat:=jj 15 (hz 51 (gO 85 a))
theorem Pt:∀e<2,∀l<256,(128*e+l / 2) &&& 85=l / 2 &&& 85:=by decide+kernel
theorem Pu:∀e<4,∀l<256,(64*e+l / 4) &&& 51=l / 4 &&& 51:=by decide+kernel
theorem Pv:∀e<5,∀l<69,(16*e+l / 16+l) &&& 15=(l / 16+l) &&& 15:=by decide+kernel
theorem mO:∀l<256,gO 85 l<256/\hz 51 (gO 85 l)<69/\hz 51 (gO 85 l) % 16<5/\cY l<=8/\(cY l=0->l=0):=by decide+kernel
theorem tL (h a:Nat) {l:Nat} (e:l<256):gO (256*a+85) (256*h+l)=256*gO a h+gO 85 l:=by
 unfold gO;rw[show (256*h+l) / 2=256*(h / 2)+(128*(h % 2)+l / 2) by omega,q2 _ _ Ω Ω,q2 _ _ e Ω,Pt _ Ω _ e];omega
theorem tM (h a:Nat) {l:Nat} (e:l<256):hz (256*a+51) (256*h+l)=256*hz a h+hz 51 l:=by
 unfold hz;rw[show (256*h+l) / 4=256*(h / 4)+(64*(h % 4)+l / 4) by omega,q2 _ _ Ω Ω,q2 _ _ e Ω,Pu _ Ω _ e];omega
theorem tN (h a:Nat) {l:Nat} (e:l<69) (he:h % 16<5):jj (256*a+15) (256*h+l)=256*jj a h+jj 15 l:=by
 unfold jj;rw[show (256*h+l) / 16+(256*h+l)=256*(h / 16+h)+(16*(h % 16)+l / 16+l) by omega,q2 _ _ Ω Ω,Pv _ he _ e]
def four (a b c d:Nat):Nat:=256*(256*(256*d+c)+b)+a
theorem Pw {b c d:Nat} (e:a<256) (f:b<256) (h:c<256) (j:d<256):gO 6148914691236517205 (four a b c d)=four (gO 85 a) (gO 85 b) (gO 85 c) (gO 85 d):=by
 unfold four;rw[show 6148914691236517205=256*(256*(256*(256*1431655765+85)+85)+85)+85 from rfl,tL _ _ e,tL _ _ f,tL _ _ h];have:=tL 0 1431655765 j;rw[show 256*0+d=d by omega,show gO 1431655765 0=0 from by unfold gO;simp] at this;rw[this,Nat.mul_zero,X0]
theorem Px {b c d:Nat} (e:a<256) (f:b<256) (h:c<256) (j:d<256):hz 3689348814741910323 (four a b c d)=four (hz 51 a) (hz 51 b) (hz 51 c) (hz 51 d):=by
 unfold four;rw[show 3689348814741910323=256*(256*(256*(256*858993459+51)+51)+51)+51 from rfl,tM _ _ e,tM _ _ f,tM _ _ h];have:=tM 0 858993459 j;rw[show 256*0+d=d by omega,show hz 858993459 0=0 from by unfold hz;simp] at this;rw[this,Nat.mul_zero,X0]
theorem Py {b c d:Nat} (e:a<69) (f:b<69/\b % 16<5) (h:c<69/\c % 16<5) (j:d<69/\d % 16<5):jj 1085102592571150095 (four a b c d)=four (jj 15 a) (jj 15 b) (jj 15 c) (jj 15 d):=by
 unfold four;rw[show 1085102592571150095=256*(256*(256*(256*252645135+15)+15)+15)+15 from rfl,tN _ _ e Ω,tN _ _ f.1 Ω,tN _ _ h.1 Ω];have:=tN 0 252645135 j.1 Ω;rw[show 256*0+d=d by omega,show jj 252645135 0=0 from by unfold jj;simp] at this;rw[this,Nat.mul_zero,X0]
def q3 (x:Nat):Nat:=cY (x % 256)+cY (x / 256 % 256)+cY (x / 65536 % 256)+cY (x / 16777216)
theorem Pz {x:Nat} (h:x<4294967296):q3 x=0↔x=0:=by
 constructor
 .intro a;unfold q3 at a;have h1:=(mO (x % 256) Ω).2.2.2.2 Ω;have e:=(mO (x / 256 % 256) Ω).2.2.2.2 Ω;have f:=(mO (x / 65536 % 256) Ω).2.2.2.2 Ω;have j:=(mO (x / 16777216) Ω).2.2.2.2 Ω;omega
 .rintro rfl;decide
theorem PA {x:Nat} (I:x<4294967296):am x7 G8 [.int .u64 (x:Int)] w λv w'=>v=Δ (q3 x:Int)/\Ext w w':=by
 obtain⟨a,b,c,d,G,H,J,L,e,R,S,U,V⟩:∃a b c d,a<256/\b<256/\c<256/\d<256/\x=four a b c d/\a=x % 256/\b=x / 256 % 256/\c=x / 65536 % 256/\d=x / 16777216:=
  ⟨x % 256,x / 256 % 256,x / 65536 % 256,x / 16777216,Ω,Ω,Ω,Ω,by unfold four;omega,rfl,rfl,rfl,rfl⟩
 obtain⟨W,X,a3,a4,_⟩:=mO a G;obtain⟨Y,Z,ab,ao,_⟩:=mO b H;obtain⟨ac,ad,ae,ap,_⟩:=mO c J;obtain⟨d1,d2,d3,d4,_⟩:=mO d L;have g1:=Pw G H J L;have M:=Px W Y ac d1;have af:=Py X ⟨Z,ab⟩ ⟨ad,ae⟩ ⟨d2,d3⟩;have ag:q3 x=cY a+cY b+cY c+cY d:=by unfold q3;rw[<-R,<-S,<-U,<-V]
 rw[<-e] at g1;have ah:gO 6148914691236517205 x<4294967296:=by rw[g1];unfold four;omega
 have N:hz 3689348814741910323 (gO 6148914691236517205 x)<4294967296:=by rw[g1,M];unfold four;omega
 have A:jj 1085102592571150095 (hz 3689348814741910323 (gO 6148914691236517205 x))=four (cY a) (cY b) (cY c) (cY d):=by rw[g1,M,af];rfl
 have aj:four (cY a) (cY b) (cY c) (cY d)<4294967296:=by unfold four;omega
 refine az func132 ?_;have s:∀ {t:r8} {cx cy:Bool} {K:x1->Prop} (p q:Nat),p+q<18446744073709551616->aa x7 (aJ .add t cx cy (.int .u64 (p:Int)) (.int .u64 (q:Int))) w K=K (.int .u64 ((p+q:Nat):Int)):=λp q h=>by
  rw[aM,wrap_u64 Ω Ω];rfl
 have small:∀ (p m:Nat),p &&& m<=p:=λp m=>Nat.and_le_left;rw[show (1:Int)=((1:Nat):Int) from rfl,kR Ω,show (6148914691236517205:Int)=((6148914691236517205:Nat):Int) from rfl,u64_and Ω Ω,u64_and Ω Ω,s (x / 2 ^ 1 &&& 6148914691236517205) (x &&& 6148914691236517205) (by exact Nat.lt_of_le_of_lt (Nat.add_le_add (small _ _) (small _ _)) Ω)];obtain⟨y,B⟩:∃y,(x / 2 ^ 1 &&& 6148914691236517205)+(x &&& 6148914691236517205)=y:=⟨_,rfl⟩;rw[B];have B:gO 6148914691236517205 x=y:=B;rw[B] at ah N A;rw[show (2:Int)=((2:Nat):Int) from rfl,kR Ω,show (3689348814741910323:Int)=((3689348814741910323:Nat):Int) from rfl,u64_and Ω Ω,u64_and Ω Ω,s (y / 2 ^ 2 &&& 3689348814741910323) (y &&& 3689348814741910323) (by exact Nat.lt_of_le_of_lt (Nat.add_le_add (small _ _) (small _ _)) Ω)];obtain⟨z,C⟩:∃z,(y / 2 ^ 2 &&& 3689348814741910323)+(y &&& 3689348814741910323)=z:=⟨_,rfl⟩;rw[C];have C:hz 3689348814741910323 y=z:=C;rw[C] at N A;rw[show (4:Int)=((4:Nat):Int) from rfl,kR Ω,s (z / 2 ^ 4) z Ω,show (1085102592571150095:Int)=((1085102592571150095:Nat):Int) from rfl,u64_and Ω Ω];have A:z / 2 ^ 4+z &&& 1085102592571150095=four (cY a) (cY b) (cY c) (cY d):=A;rw[A];obtain⟨j,E⟩:∃j,four (cY a) (cY b) (cY c) (cY d)=j:=⟨_,rfl⟩;rw[E] at aj ⊢;unfold four at E;rw[show (8:Int)=((8:Nat):Int) from rfl,kR Ω,s j (j / 2 ^ 8) Ω];obtain⟨r,O⟩:∃r,j+j / 2 ^ 8=r:=⟨_,rfl⟩;rw[O];rw[show (16:Int)=((16:Nat):Int) from rfl,kR Ω,s r (r / 2 ^ 16) Ω];obtain⟨f,P⟩:∃f,r+r / 2 ^ 16=f:=⟨_,rfl⟩;rw[P];rw[show (32:Int)=((32:Nat):Int) from rfl,kR Ω,s f (f / 2 ^ 32) Ω,eW fs.u ai.u,wrap_i64 Ω Ω,show (127:Int)=((127:Nat):Int) from rfl,DE Ω Ω];refine⟨?_,Ext.refl _⟩;rw[ag,show 127=2 ^ 7-1 from rfl,Nat.and_two_pow_sub_one_eq_mod];have ak:j / 2 ^ 8=65536*cY d+256*cY c+cY b:=Ω
 have al:r / 2 ^ 16=256*cY d+(cY c+cY d):=Ω
 have Q:f / 2 ^ 32=0:=Ω
 have aq:f=128*(131072*cY d+512*(cY c+cY d)+2*(cY b+cY c+cY d))+(cY a+cY b+cY c+cY d):=Ω
 have an:(f+f / 2 ^ 32) % 2 ^ 7=cY a+cY b+cY c+cY d:=by rw[Q];clear E O P ak al Q;omega
 rw[an]
theorem hl {b n:Nat} (a:lM b n):am x7 Gm [ja b n] w λr w'=>(∃q:Int,r=Δ q/\(q=0↔b=0))/\Ext w w':=by
 have e:b<4294967296:=by
  have:=a.2;have:(2:Nat) ^ n<=2 ^ 32:=T7 Ω a.1;omega
 refine az func63 ?_;refine bo λg U m f h=>?_;rw[aT b2.p 0 h rfl];refine (PA e).mono ?_;rintro _ V _ ⟨rfl,j⟩;refine⟨⟨_,rfl,?_⟩,f.trans j⟩;rw[<-Pz e];omega
def n5 (w:x3) (ad ag:Nat) (A R:ak) (n:aR) (s:av) (a:hy) (r:x1) (w':x3):Prop:=r=Δ (cA n.k s a).2/\eB w ad ag A R n (cA n.k s a).1 w'
section
variable {w:x3} {ad ag:Nat} {A R:ak} {n:aR} {s:av} {t:aB} {a:hy}
theorem eB.same {w':x3} (h:bx w ad ag A R n s t) (a:Laid w) (e:¬A 0) (f:ee t []) (I:Ext w w'):eB w ad ag A R n s w':=(gx.start (m:=w.heap.size) (D:=λ_=>False) h a e f I (p8 _)).done (Ext.refl _)
theorem eB.before {w':x3} {s':av} (I:Ext w U) (h:eB U ad ag A R n s' w'):eB w ad ag A R n s' w':=by
 obtain⟨h1,a,aQ,bw,e,f⟩:=h;exact⟨jI I h1,a,aQ,bw,(Grow.ext I).trans e,f⟩
theorem xg {j pos u:Int} {f:cz} {x:br} (h:ej s j pos v=σ (f,u,x)):∃m e u':Nat,j=m/\pos=e/\u=u'/\s.funs[m]? =σ f/\f.live≠0/\f.sc[e]? =σ (u':Int)/\s.vars[u']? =σ x/\v∈aE x/\ ∀p,f.sc[e]? =σ p->v∈cq s p:=by
 obtain⟨h1,y,z,A,a,B⟩:=mK h;obtain⟨C,q,E,r⟩:=ku B;obtain⟨j,rfl⟩:=U4 h1;obtain⟨pos,rfl⟩:=U4 y;obtain⟨u,rfl⟩:=U4 C;refine⟨j,pos,u,rfl,rfl,rfl,z,A,a,q,r,λu' w=>?_⟩;have a:f.sc[pos]? =σ (u:Int):=a;rw[a] at w;cases w;unfold cq;rw[q];exact r
theorem PB (hk:a.kind=0) (h:bx w ad ag A R n s t) (y:Laid w) (C:¬A 0) (E:ee t []):am x7 F4 [Γ ad,Δ a.i,Δ a.pos,Δ a.v,Δ a.c] w (n5 w ad ag A R n s a):=by
 have H:=h.2.2.2.1;refine az func35 ?_;refine (El h).mono ?_;rintro _ U _ ⟨r,u,e,rfl,p⟩;rw[bi,bj];have m:cA n.k s a=match ej s a.i a.pos a.v with
  |none=>(s,1)
  |some (f,u,x)=>if dm n.k a.c (lZ n.k s f a.pos.toNat a.v)≠0 then (s,dm n.k a.c (lZ n.k s f a.pos.toNat a.v)) else (iH s a.i.toNat f a.pos.toNat u.toNat x a.v (λg=>dG n.k g a.c) λg=>dH n.k g a.c,0):=by unfold cA;rw[if_pos hk];cases ej s a.i a.pos a.v<;>rfl
 rcases p with⟨rfl,f,x,p⟩|⟨rfl,p⟩
 rotate_left
 .rw[p] at m;rw[bz,al];exact⟨λ_=>⟨by rw[m],by rw[m];exact eB.same h y C E r⟩,λh=>absurd Φ h⟩
 rw[p] at m;rw[bz,al];refine⟨λh=>absurd rfl h,λ_=>?_⟩;obtain⟨j,pos,u,Q,S,T,ae,J,hu,I,ac,W⟩:=xg p;have X:=x5 ae;simp only[Q,S,T,u6] at m ⊢;refine (Ps (j:=j) (pos:=pos) (h.ext r) (y.ext r) ae J W).mono ?_;rintro _ V _ ⟨rfl,K⟩;refine (tF (h.ext (r.trans K))).mono ?_;rintro _ af _ ⟨Y,rfl⟩;have z:=(r.trans K).trans Y;refine dh (λw'=>eB w ad ag A R n (cA n.k s a).1 w') ?_ λay L=>?_
 .intro w' Z;refine⟨?_,Z⟩;rw[m];split
  .rfl
  .rename_i q;rw[Z9.1 q]
 rw[bh,al];refine⟨λq=>?_,λq=>L _ ?_⟩
 .obtain⟨B,hm⟩:=mJ (λh=>h q);rw[dn (cs:=#[.func (.func m9) #[] #[],.func (.func na) #[] #[]]) Ψ];have M:∀t∈ce s f.sc pos a.v,a.c<=bn f.aj f.cs t:=λt aa=>((pu _ _ _).1 hm).2 _ (n9.2 ⟨t,aa,rfl⟩);have N:=hQ (v:=a.v.toNat) H I;refine (Ex (t:=t) (F1:=m9) (F2:=na) (tup:=λg=>dG n.k g a.c) (un:=λg=>dH n.k g a.c) (h.ext z) (y.ext z) C E ae J hu I ac (λtl O=>?_) ⟨mM N B.1,λ{w A s t} G=>qZ G N B⟩).mono ?_
  .have P:=n2 (t:=tl) H X;exact⟨mL P ⟨B.1,M tl O⟩,λ{w A s t} G=>tG G P B (.inr (M tl O))⟩
  .rintro _ ah _ ab;refine L _ ?_;rw[m,if_neg (λh=>h q)];exact ab.before z
 .rw[m,if_pos q];exact eB.same h y C E z
theorem PC (hk:a.kind=1) (h:bx w ad ag A R n s t) (B:Laid w) (C:¬A 0) (E:ee t []):am x7 F5 [Γ ad,Δ a.i,Δ a.pos,Δ a.v,Δ a.c] w (n5 w ad ag A R n s a):=by
 have G:=h.2.2.2.1;refine az func36 ?_;refine (El h).mono ?_;rintro _ U _ ⟨r,u,e,rfl,p⟩;rw[bi,bj];have m:cA n.k s a=match ej s a.i a.pos a.v with
  |none=>(s,1)
  |some (f,u,x)=>if dm n.k a.c (x.un.getD a.v.toNat 0)≠0 then (s,dm n.k a.c (x.un.getD a.v.toNat 0)) else (iH s a.i.toNat f a.pos.toNat u.toNat x a.v (λg=>dH n.k g a.c) λg=>dG n.k g a.c,0):=by unfold cA;rw[if_neg Ω,if_pos hk];cases ej s a.i a.pos a.v<;>rfl
 rcases p with⟨rfl,f,x,p⟩|⟨rfl,p⟩
 rotate_left
 .rw[p] at m;rw[bz,al];exact⟨λ_=>⟨by rw[m],by rw[m];exact eB.same h B C E r⟩,λh=>absurd Φ h⟩
 rw[p] at m;rw[bz,al];refine⟨λh=>absurd rfl h,λ_=>?_⟩;obtain⟨j,pos,u,N,O,P,ae,Q,hu,I,ac,Z⟩:=xg p;have S:=x5 ae;simp only[N,O,P,u6] at m ⊢;refine (nW (i:=(u:Int)) (v:=a.v) (h.ext r)).mono ?_;rintro _ V _ ⟨rfl,J⟩;have T:gM s (u:Int).toNat a.v.toNat=x.un.getD a.v.toNat 0:=by
  unfold gM;rw[u6,I]
 rw[if_pos (n4 G I ac),T,bi,bj];refine (tF (h.ext (r.trans J))).mono ?_;rintro _ aa _ ⟨W,rfl⟩;have y:=(r.trans J).trans W;refine dh (λw'=>eB w ad ag A R n (cA n.k s a).1 w') ?_ λay K=>?_
 .intro w' X;refine⟨?_,X⟩;rw[m];split
  .rfl
  .rename_i q;rw[Z9.1 q]
 rw[bh,al];refine⟨λq=>?_,λq=>K _ ?_⟩
 .obtain⟨z,hm⟩:=mJ (λh=>h q);rw[dn (cs:=#[.func (.func na) #[] #[],.func (.func m9) #[] #[]]) Ψ];have L:=hQ (v:=a.v.toNat) G I;refine (Ex (t:=t) (F1:=na) (F2:=m9) (tup:=λg=>dH n.k g a.c) (un:=λg=>dG n.k g a.c) (h.ext y) (B.ext y) C E ae Q hu I ac (λtl ab=>?_) ⟨mL L ⟨z.1,hm⟩,λ{w A s t} H=>tG H L z (.inr hm)⟩).mono ?_
  .have M:=n2 (t:=tl) G S;exact⟨mM M z.1,λ{w A s t} H=>qZ H M z⟩
  .rintro _ af _ Y;refine K _ ?_;rw[m,if_neg (λh=>h q)];exact Y.before y
 .rw[m,if_pos q];exact eB.same h B C E y
end
def gP (s:av) (i:Int):Option br:=match (if 0<=i then s.vars[i.toNat]? else ν) with
 |some x=>if x.gone=0 then σ x else ν
 |none=>ν
theorem xh {s:av} {i:Int} {x:br} (h:gP s i=σ x):0<=i/\s.vars[i.toNat]? =σ x/\x.gone=0:=by
 unfold gP at h;by_cases a:0<=i
 .rw[if_pos a] at h;cases I:s.vars[i.toNat]? with
  |none=>rw[I] at h;cases h
  |some y=>
   rw[I] at h;simp only at h;split at h
   .rename_i e;cases h;exact⟨a,rfl,e⟩
   .cases h
 .rw[if_neg a] at h;cases h
theorem Ey {g:Int->Int} {un L:Λ} (h:L[j]? =σ v):dZ g un (L.take (j+1))=(dZ g un (L.take j)).set v.toNat (g ((dZ g un (L.take j)).getD v.toNat 0)):=by
 unfold dZ;rw[u9,h,l7,U9];rfl
theorem Ez {i:Nat} {v:Int}:∀ (L M:Λ) (s:av),fY s i v (L++M)=fY (fY s i v L) i v M
 |[],_,_=>rfl
 |w::L,M,s=>by
  rw[List.cons_append,fY,fY];exact Ez L M _
theorem PD {s:av} {i:Nat} {w:Int} {L:Λ} (h:L[j]? =σ w):fY s i v (L.take (j+1))=if w≠v then cd (fY s i v (L.take j)) i w.toNat else fY s i v (L.take j):=by
 rw[u9,h,l7,Ez];rfl
def jP (m u:Int):Int:=if m<0\/u<m then u else m
theorem EA:∀ (l:Λ) (m:Int),0<=m->(∀c∈l,0<=c)->l.foldl jP m=l.foldl min m
 |[],_,_,_=>rfl
 |c::l,m,hm,a=>by
  have f:=a c (.head _);have e:jP m c=min m c:=by unfold jP;split<;>omega
  rw[U7,U7,e];exact EA l _ Ω λc h=>a c (.tail _ h)
theorem PE {x:br} (h:∀v∈aE x,0<=x.un.getD v.toNat 0):((aE x).map λv=>x.un.getD v.toNat 0).foldl jP (-1)=iI x:=by
 unfold iI;have a:∀c∈(aE x).map (λv=>x.un.getD v.toNat 0),0<=c:=λc e=>by
  obtain⟨v,ac,rfl⟩:=n9.1 e;exact h v ac
 generalize (aE x).map (λv=>x.un.getD v.toNat 0)=l at a;cases l with
 |nil=>rfl
 |cons c l=>exact EA l c (a c (.head _)) λc h=>a c (.tail _ h)
section
variable {w:x3} {ad ag:Nat} {A R:ak} {n:aR} {s:av} {t:aB} {a:hy}
theorem EB {i:Int} (h:bx w ad ag A R n s t):am x7 GR [Γ ad,Δ i] w λr w'=>Ext w w'/\r=Δ (if (gP s i).isSome=true then 0 else 1):=by
 have j:=h.2.2.2.1;have N:=j.vars;refine az func115 ?_;rw[c5 dy.u];simp only[b9,aY];refine aV (λr U=>r= .bool (!(gP s i).isSome)/\Ext w U) ?_ ?_
 .rintro _ U ⟨rfl,B⟩;rw[cb];exact⟨λp=>⟨B,by rw[if_neg (by simpa using p)]⟩,λp=>⟨B,by rw[if_pos (by simpa using p)]⟩⟩
 intro ay C;refine (tm (i:=i) h).mono ?_;rintro _ V _ ⟨rfl,q⟩;rw[cb];refine⟨λa=>C _ _ ⟨?_,q⟩,λa=>?_⟩
 .rw[V0,decide_eq_true_eq] at a;have J:gP s i=ν:=by
   unfold gP;rw[if_pos a.1];have y:=a.2;unfold iG at y;cases I:s.vars[i.toNat]? with
   |none=>rfl
   |some x=>
    rw[I] at y;simp only;rw[if_neg λh=>by simp[h] at y]
  rw[J];rfl
 refine (kr (i:=i) (h.ext q)).mono ?_;rintro _ O _ ⟨⟨b,m,rfl,E⟩,K⟩;refine (vp (b:=b) (n:=m)).mono ?_;rintro _ P _ ⟨rfl,L⟩;rw[bh];refine C _ _ ⟨?_,(q.trans K).trans L⟩;congr 1;by_cases f:0<=i/\i<n.sizes.length
 .obtain⟨x,I⟩:=aH (l:=s.vars) (i:=i.toNat) Ω;obtain⟨z,G⟩:=aH (l:=n.sizes) (i:=i.toNat) Ω;have Q:=j.fk.2.2 z (x5 G);have S:=(j.var _ x z I G).1;have hm:=(E.2.2 x f.1 I).1;have M:x.gone=0:=by
   rw[decide_eq_true f.1,U3] at a;unfold iG at a;rw[I] at a;simpa using a
  have e:gP s i=σ x:=by
   unfold gP;rw[if_pos f.1,I];simp only;rw[if_pos M]
  rw[e,decide_eq_false Ω];rfl
 .obtain⟨rfl,rfl⟩:=E.2.1 f;have e:gP s i=ν:=by
   unfold gP;by_cases H:0<=i
   .rw[if_pos H,Z6 Ω]
   .rw[if_neg H]
  rw[e];rfl
theorem EC {u:Nat} {x:br} {F1 F2:R4} {g z:Int->Int} (h:bx w ad ag A R n s t) (az:Laid w) (a1:¬A 0) (a2:ee t []) (I:s.vars[u]? =σ x)
  (h1:∀v∈aE x,(0<=g (x.un.getD v.toNat 0)/\g (x.un.getD v.toNat 0)<=n.k)/\ ∀ {w:x3} {A:ak} {s:av} {t:aB},bx w ad ag A R n s t->am x7 F1 [Γ ad,Δ (x.un.getD v.toNat 0),Δ c] w λr w'=>r=Δ (g (x.un.getD v.toNat 0))/\Ext w w')
  (aC:(0<=z s.zero/\z s.zero<=n.k)/\ ∀ {w:x3} {A:ak} {s':av} {t:aB},bx w ad ag A R n s' t->am x7 F2 [Γ ad,Δ s.zero,Δ c] w λr w'=>r=Δ (z s.zero)/\Ext w w'):
  am x7 GU [Γ ad,Δ (u:Int),Δ c,.func (.func F1) #[] #[],.func (.func F2) #[] #[]] w λ_ w'=>eB w ad ag A R n (kt s u x g z) w':=by
 have a6:=h.2.2.2.1;have S:=(x4.1 I).1;refine iQ func117 ?_;refine bo λg1 U bC aD a=>?_;refine bo λa7 V bD W p=>?_;refine bo λa8 bE bF G q=>?_;refine bo λba f bG H J=>?_;have a:af f g1 dy [Γ ad]:=((af.ext a W).ext G).ext H;have p:af f a7 ai [Δ (u:Int)]:=(af.ext p G).ext H;have q:af f a8 ap [Δ c]:=af.ext q H;have J:af f ba IH [.func (.func F1) #[] #[]]:=J;have K:=((aD.trans W).trans G).trans H;have bH:=aD.size;have bI:=W.size;have z3:=G.size;have bJ:=K.size;have L:=a.lt;have aF:=p.lt;have aG:=q.lt;have bb:=J.lt;rw[aA (v:=Γ ad) Ψ (a.Qz rfl),aA (v:=Δ (u:Int)) Ψ (p.Qz rfl)];refine (kr (i:=(u:Int)) (h.ext K)).mono ?_;rintro _ bK _ ⟨⟨b,bc,rfl,aH⟩,aI⟩;refine (p7 (b:=b) (n:=bc)).mono ?_;rintro _ M _ ⟨bd,aJ,rfl,bL,aK⟩;have aL:=pn aH Ω (show s.vars[(u:Int).toNat]? =σ x by rw[u6];exact I);have B:=aI.trans bd;have z5:=aI.size;have z46:=B.size;have bM:=aK.lt;have aM:=qW x;have be:eA s u x (dZ g x.un ((aE x).take 0))=s:=by
  unfold eA;show {s with vars:=s.vars.set u x}=s;have:s.vars.set u x=s.vars:=by
   apply Y6;intro i;by_cases e:u=i
   .subst e;rw[c9 S,I]
   .rw[Y2 e]
  rw[this]
 refine ln.old ⟨_,false,jZ,#[Γ aJ],_,_,_,_,λj w'=>gx w ad ag A R n w.heap.size (λr=>M.heap.size<=r) (eA s u x (dZ g x.un ((aE x).take j))) w'/\ah (λr=>r<w.heap.size\/M.heap.size<=r) M w',λ_ _ _=>False,rfl,(p6 (g:=aJ) aH.1).s,?_,
  λ_ _ I h=>⟨h.1.ext I,h.2.ext I⟩,λ_ _ _ I h=>⟨h.1.ext I,h.2.trans (I.ab _)⟩,λ_ _ _ _ _ h=>h,⟨aK,az.ext (K.trans B)⟩,?_,?_,?_,λ_ _ h=>h.elim,λ_ _ _ h=>h.elim⟩
 .rintro _ _ _ _ ⟨_,_,_,_,rfl⟩;rfl
 .refine⟨?_,ah.refl _ _⟩;rw[be];exact gx.start h az a1 a2 (K.trans B) (p8 _)
 .rintro _ j _ bf ⟨bg,bN⟩ ⟨bO,rfl,v,ac,bh⟩ ⟨N,C⟩;cases bh;intro bP O _ _;have X:(aE x)[j]? =σ (v:Int):=by rw[<-aL,x8,ac];rfl
  have aN:=x5 X;have aZ:∀ {E:x3} {g:Nat} {e:r8} {cs:List x1},Ext bf E->w.heap.size<=g->g<f.heap.size->af f g e cs->af E g e cs:=λI aO aP Y=>((Y.ext B).ab C Ω).ext I;obtain⟨bQ,bR,Z,aR,aa⟩:=N.open;have aS:eL n (u:Int) (v:Int):=n4 a6 I aN;have bk:∀y∈aE x,0<=y/\y<x.un.length:=λy ae=>(fX.1 ae).1;have aj:=tC (g:=g) ((aE x).take j) x.un (v:Int) (aM.sublist (List.take_sublist _ _)) (λy ae=>bk y (S3 ae)) Ω;rw[if_neg (xb aM X)] at aj;have bl:gM (eA s u x (dZ g x.un ((aE x).take j))) (u:Int).toNat (v:Int).toNat=x.un.getD (v:Int).toNat 0:=by
   unfold gM eA;rw[u6,c9 S];exact aj
  rw[aA (v:=Γ ad) Ψ ((aZ O Ω L a).Qz rfl),aA (v:=Δ (u:Int)) Ψ ((aZ O Ω aF p).Qz rfl)];refine (nW (i:=(u:Int)) (v:=(v:Int)) (Z.ext O)).mono ?_;rintro _ bS _ ⟨rfl,bm⟩;rw[if_pos aS,bl,bi,bj];intro bn bp _ _;have m:=(O.trans bm).trans bp;rw[aA (v:=Γ ad) Ψ ((aZ m Ω L a).Qz rfl),aA (v:=Δ (u:Int)) Ψ ((aZ m Ω aF p).Qz rfl),
   aA (v:=.func (.func F1) #[] #[]) Ψ ((aZ m Ω bb J).Qz rfl),aA (v:=Γ ad) Ψ ((aZ m Ω L a).Qz rfl),aA (v:=Δ c) Ψ ((aZ m Ω aG q).Qz rfl)]
  show am x7 F1 [Γ ad,Δ (x.un.getD (v:Int).toNat 0),Δ c] bn _;obtain⟨bq,bt⟩:=h1 v aN;refine (bt (Z.ext m)).mono ?_;rintro _ bT _ ⟨rfl,aT⟩;have al:=m.trans aT;refine⟨.inl aT,(DO (i:=(u:Int)) (v:=(v:Int)) (Z.ext al) (.inl aR.1)).mono ?_⟩;rintro r bU _ ⟨_,_,an⟩;obtain⟨_,ao,aQ,bu,bw,aq,P⟩:=an aS bq;have e:kp (eA s u x (dZ g x.un ((aE x).take j))) (u:Int).toNat (v:Int).toNat (g (x.un.getD (v:Int).toNat 0))=eA s u x (dZ g x.un ((aE x).take (j+1))):=by
   rw[Ey X,aj];unfold kp eA;rw[u6,c9 S];simp only[List.set_set]
  rw[e] at P;have bV:=C.size;obtain⟨aU,aV,bW⟩:=aa (D':=λr=>M.heap.size<=r) (jI al ao) ((Grow.ext al).trans aq) P aR.set (λr h=>h) λr aO aP=>Ω
  exact⟨⟨bg.ab aV Ω,aU.2.1.1⟩,⟨aU,C.trans aV⟩,λh=>by cases h⟩
 .rintro k bz rfl ⟨N,C⟩;rw[j9 (by rw[<-aL,u7];exact p8 _)] at N;obtain⟨bX,bY,au,aW,aa⟩:=N.open;have aZ:∀ {E:x3} {g:Nat} {e:r8} {cs:List x1},Ext bz E->w.heap.size<=g->g<f.heap.size->af f g e cs->af E g e cs:=λI aO aP Y=>((Y.ext B).ab C Ω).ext I;intro bZ Q _ _;have aw:=aZ Q Ω L a;rw[aA (v:=Γ ad) Ψ (aw.Qz rfl),aA (v:=Γ ad) Ψ (aw.Qz rfl),aA (v:=Γ ad) Ψ (aw.Qz rfl),aA (v:=Δ c) Ψ ((aZ Q Ω aG q).Qz rfl)];refine (qO (au.ext Q)).mono ?_;rintro _ bA _ ⟨rfl,ax⟩;have aX:=Q.trans ax;refine⟨.inl ax,?_⟩;show am x7 F2 [Γ ad,Δ s.zero,Δ c] bA _;refine (aC.2 (au.ext aX)).mono ?_;rintro _ b0 _ ⟨rfl,aY⟩;have ay:=aX.trans aY;refine⟨.inl (ax.trans aY),(OF (au.ext ay) (.inl aW.1)).mono ?_⟩;rintro r b1 _ ⟨_,an⟩;obtain⟨_,ao,aQ,bu,bw,aq,P⟩:=an aC.1;intro b2 bB _;exact (aa (D':=λ_=>True) (jI ay ao) ((Grow.ext ay).trans aq) P aW.set (λ_ _=>trivial) λ_ _ _=>trivial).1.done bB
end
section
variable {w:x3} {ad ag aq:Nat} {A R:ak} {A9:Nat->ak} {aI:ak} {n:aR} {s u:av} {t:aB} {h:List aB} {cs:List x1} {a:hy}
theorem PF (hk:a.kind<2):cA n.k u a=match ej u a.i a.pos a.v with
  |none=>(u,1)
  |some (f,v,x)=>if dm n.k a.c (if a.kind=1 then x.un.getD a.v.toNat 0 else lZ n.k u f a.pos.toNat a.v)≠0 then (u,dm n.k a.c (if a.kind=1 then x.un.getD a.v.toNat 0 else lZ n.k u f a.pos.toNat a.v))
   else (iH u a.i.toNat f a.pos.toNat v.toNat x a.v (λg=>if a.kind=0 then dG n.k g a.c else dH n.k g a.c) λg=>if a.kind=0 then dH n.k g a.c else dG n.k g a.c,0):=by
 unfold cA;by_cases e:a.kind=0
 .rw[if_pos e];simp only[e];cases ej u a.i a.pos a.v<;>rfl
 .have h1:a.kind=1:=Ω
  rw[if_neg e,if_pos h1];simp only[h1];cases ej u a.i a.pos a.v<;>rfl
theorem getD_some {i:Nat} (h:i<l.length):l[i]? =σ (l.getD i 0):=by
 rw[v8,x6 h];rfl
theorem PG (p:cr w ad ag aq A R A9 aI n s u t h cs) (G:bq n.k n.sizes u) (bP:dl u) (hk:a.kind<2):am x7 uJ [Γ aq,Δ (a.kind:Int),Δ a.i,Δ a.pos,Δ a.v,Δ a.c] w λr w'=>r=Δ (cA n.k u a).2/\dp w ad ag aq A R A9 aI n s t h (cA n.k u a).1 w':=by
 have C:=PF (n:=n) (u:=u) hk;have c0:=G.vars;have bT:=G.eh;refine az func34 ?_;have bU:cs[0]? =σ (Δ n.k):=by obtain⟨_,_,_,_,_,_,rfl,_⟩:=p.n0;rfl
 rw[aO bc.p 0 p.box bU,aN,al];refine⟨λ_=>?_,λh=>Ω⟩;rw[bS];refine p.look.load λe7 bV=>?_;refine (Pf bV G bP).mono ?_;rintro _ U _ ⟨aD,rfl⟩;cases aT:ej u a.i a.pos a.v with
 |none=>
  rw[aT] at C;simp only;rw[bi,bj,bI,W5,bQ];exact⟨by rw[C],by rw[C];exact dp.same p aD⟩
 |some q=>
 obtain⟨f,M,x⟩:=q;rw[aT] at C;simp only;rw[bi,bj,bI,Y7,aY];obtain⟨j,pos,M,bW,bX,bY,ae,c1,hu,I,ac,aX⟩:=xg aT;have aE:=x5 ae;simp only[bW,bX,bY,u6] at C ⊢;have bZ:=(x4.1 ae).1;have bp:=(x4.1 I).1;have b0:=(x4.1 hu).1;obtain⟨b1,c2⟩:=k7 G aE;have b2:=Ej G aE aX;have b3:=(fX.1 ac).1;obtain⟨v,P⟩:=U4 b3.1;have br:=hQ (v:=a.v.toNat) G I;have aG:=p.ext aD;have bt:∀ {V:x3} {eR:av} {bu:List x1} {bw:Nat->ak} {f2:cz},cr V ad ag aq A R bw aI n s eR t h bu->eR.funs[j]? =σ f2-> ∃Q cap S aZ y,bu[6]? =σ (.slice (σ ⟨Q,0,ν⟩) eR.funs.length cap)/\j<eR.funs.length/\V.cell? ⟨Q,0+j*4+0+0,ν⟩=σ S/\V.cell? ⟨Q,0+j*4+0+2,ν⟩=σ y/\aF .i64 V S f2.sc/\aF .i64 V y f2.cs/\
   ∀ {w':x3} {m:Nat} {c:Int} {K:Unit->x3->Prop},Ext V w'->m<f2.cs.length->(∀bx,dp V ad ag aq A R bw aI n s t h (dI eR j f2 (f2.cs.set m c)) bx->K () bx)->aa x7 (j5 ax y (Δ (m:Int))) w' λa=>aC x7 (o6 ap a (Δ c)) w' K:=λb4 aJ=>by
  obtain⟨Q,cap,S,aZ,y,b6,bz,b7,b8,W⟩:=Ph b4 aJ;exact⟨Q,cap,S,aZ,y,b6,(x4.1 aJ).1,by rw[X0];exact bz 0 _ rfl,by rw[X0];exact bz 2 _ rfl,b7,b8,W⟩
 obtain⟨Q,c3,S,aZ,c4,b9,ca,cc,_,cd,_,_⟩:=bt aG ae;rw[aO bc.p 6 aG.box b9,e6 gg.u fq.i ca λ_=>rfl,aW fq.p rfl,aW a8.p rfl,aA (v:=S) (o:=0+j*4+0+0) Ψ cc,be an.u ai.i Ψ cd hu];generalize bA:(if a.kind=1 then x.un.getD a.v.toNat 0 else lZ n.k u f pos a.v)=most at C;refine aV (λr V=>r=Δ most/\Ext w V) ?_ λay bB=>?_
 rotate_left
 .rw[bh,al];refine⟨λh1=>?_,λh1=>bB _ _ ⟨by rw[<-bA,if_neg Ω],aD⟩⟩;have h1:a.kind=1:=Ω
  obtain⟨a1,bC,y,a2,a6,aK,_⟩:=xf aG I;rw[aO bc.p 5 aG.box a2,e6 ec.u ax.i bp λ_=>rfl,aA (v:=y) (o:=0+M*1) Ψ (by rw[X0,V8];exact a6),P,be ax.u ap.i Ψ aK (getD_some Ω)];refine bB _ _ ⟨?_,aD⟩;rw[<-bA,if_pos h1,P,u6]
 rintro _ V ⟨rfl,cg⟩;refine zR.mono ?_;rintro _ c5 _ ⟨rfl,ci⟩;have X:=cg.trans ci;have bD:cn a.c n.k↔0<=a.c/\a.c<=n.k:=⟨λh=>h.2,λaJ=>⟨bT,aJ⟩⟩;rw[bI,cb];refine⟨λY=>?_,λY=>?_⟩
 .have cj:¬cn a.c n.k:=by simpa using Y
  have E:dm n.k a.c most=3:=by unfold dm;rw[if_pos λh=>cj (bD.2 h)]
  rw[if_pos (by rw[E];decide),E] at C;exact⟨by rw[C],by rw[C];exact dp.same p X⟩
 have bF:=bD.1 (show cn a.c n.k by simpa using Y);rw[bR,al];refine⟨λck=>?_,λcl=>?_⟩
 .have E:dm n.k a.c most=7:=by unfold dm;rw[if_neg (λh=>h bF),if_pos ck]
  rw[if_pos (by rw[E];decide),E] at C;exact⟨by rw[C],by rw[C];exact dp.same p X⟩
 have E:dm n.k a.c most=0:=by unfold dm;rw[if_neg (λh=>h bF),if_neg cl]
 rw[if_neg (λh=>h E)] at C;have cp:=p.ext X;rw[bS];refine cp.look.load λc6 cq=>?_;refine (Ep cq G ae b0 aX).mono ?_;rintro aL a7 _ ⟨ct,ba,cu⟩;have bG:=X.trans ct;rw[aU an.u ba];have bH:(la u f pos a.v).length=(ce u f.sc pos a.v).length:=by unfold la;rw[u7]
 rw[bH];obtain⟨tup,bb⟩:∃tup:Int->Int,tup=λg=>if a.kind=0 then dG n.k g a.c else dH n.k g a.c:=⟨_,rfl⟩;obtain⟨un,bd⟩:∃un:Int->Int,un=λg=>if a.kind=0 then dH n.k g a.c else dG n.k g a.c:=⟨_,rfl⟩;rw[<-bb,<-bd] at C;have cw:=p.olds.ext bG;have c7:=p.box.lt;have c8:=X.size;have cB:∀ {w':x3},ah (λr=>(∃q,A9 q r/\r<w.heap.size)\/r=aq) a7 w'->aF .i64 w' aL (la u f pos a.v):=λcC=>hI ba cC λr E b n c e Y=>by
  have:=cu r ⟨b,n,c,e,Y⟩;rcases E with⟨q,E⟩|E
  .have:=E.2;omega
  .omega
 refine ch.range (ce u f.sc pos a.v).length (λq w'=>dp a7 ad ag aq A R (λq r=>A9 q r/\r<w.heap.size) aI n s t h (dI u j f (dx tup ((ce u f.sc pos a.v).take q) f.aj f.cs)) w') (by rw[<-bH];exact ba.le) ?_ ?_ ?_
 .rw[List.take_zero,Ew G ae];exact dp.same cw (Ext.refl _)
 .rintro q Z cD cE aP cF;obtain⟨tl,bf⟩:=aH (l:=ce u f.sc pos a.v) cE;obtain⟨m,hm⟩:=tE G aE aX (x5 bf);have cG:(la u f pos a.v)[q]? =σ (m:Int):=by
   unfold la;rw[x8,bf];unfold n3;rw[Z3,hm];rfl
  obtain⟨bJ,bL⟩:=Ek (g:=tup) G ae b2 bf hm;have cH:=(x4.1 (mp b1 hm)).1;have da:m<f.cs.length:=by rw[u6] at cH;omega
  obtain⟨W,cI,bM,O,bg⟩:=id aP;obtain⟨b5,bN⟩:∃b5,b5=dx tup ((ce u f.sc pos a.v).take q) f.aj f.cs:=⟨_,rfl⟩;have db:b5.length=f.cs.length:=by rw[bN,nX _ _ _ _ Ω]
  rw[<-bN] at O bJ bL;have bO:(dI u j f b5).funs[j]? =σ {f with cs:=b5}:=c9 bZ;obtain⟨aQ,cJ,dc,dd,aR,cK,cL,_,bk,_,cM,cN⟩:=bt O bO;have cO:b5[m]? =σ (bn f.aj f.cs tl):=by
   rw[getD_some Ω,<-bJ];unfold bn;rw[hm];simp
  have de:=n2 (t:=tl) G aE;have df:bM[0]? =σ (Δ n.k):=by obtain⟨_,_,_,_,_,_,rfl,_⟩:=O.n0;rfl
  have cP:=cB W;refine bE Ω ?_;refine dh (λH=>dp a7 ad ag aq A R (λq r=>A9 q r/\r<w.heap.size) aI n s t h (dI u j f (dx tup ((ce u f.sc pos a.v).take (q+1)) f.aj f.cs)) H) (λH N=>by rw[aM];exact cF _ N) λcQ cR=>?_;have af:∀ {J:x3},Ext Z J->aa x7 (j5 ax aR (Δ (m:Int))) J λa'=>aC x7 (o6 ap a' (Δ (tup (bn f.aj f.cs tl)))) J λ(_:Unit) H=>cQ H:=λbl=>by
   refine cN bl (by show m<b5.length;omega) λH N=>cR _ (dp.comp W bg ?_);have cS:dI (dI u j f b5) j {f with cs:=b5} (b5.set m (tup (bn f.aj f.cs tl)))=kq (dI u j f b5) j m (tup (bn f.aj f.cs tl)):=by unfold kq;rw[bO];rfl
   rw[cS,bL] at N;exact N
  have row:∀ {z:x3} {K:x1->x1->x1->x1->x1->x1->Prop},Ext Z z->K (Γ aq) (.pointer (σ ⟨aq,0+6,ν⟩)) (.slice (σ ⟨aQ,0,ν⟩) (dI u j f b5).funs.length cJ) (.pointer (σ ⟨aQ,0+j*4,ν⟩)) (.pointer (σ ⟨aQ,0+j*4+0,ν⟩)) (.pointer (σ ⟨aQ,0+j*4+0+2,ν⟩))->
    aa x7 (bK (Γ aq)) z λao=>aa x7 (u5 bc ao 6) z λau=>aa x7 (u4 gg au) z λaw=>aa x7 (j5 gg aw (Δ (j:Int))) z λaB=>aa x7 (u5 fq aB 0) z λaS=>aa x7 (u5 a8 aS 2) z λcT=>K ao au aw aB aS cT:=λI bm=>by
   rw[aO bc.p 6 (O.box.ext I) cK,e6 gg.u fq.i cL λ_=>rfl,aW fq.p rfl,aW a8.p rfl];exact bm
  rw[be an.u ai.i Ψ cP cG];refine row (Ext.refl _) ?_;rw[aA (v:=aR) (o:=0+j*4+0+2) Ψ bk,be ax.u ap.i Ψ cM cO,bh,al];refine⟨λbo=>?_,λbo=>?_⟩
  .intro z B _ _;refine row B ?_;rw[aA (v:=aR) (o:=0+j*4+0+2) Ψ (il B bk)];refine (tH Ω Ω).mono ?_;rintro _ J _ ⟨rfl,L⟩;refine⟨.inl L,?_⟩;have:=af (B.trans L);rw[bb] at this;simp only[if_pos (show a.kind=0 by omega)] at this;exact this
  .intro z B _ _;refine row B ?_;rw[aA (v:=aR) (o:=0+j*4+0+2) Ψ (il B bk)];refine (nA Ω Ω).mono ?_;rintro _ J _ ⟨rfl,L⟩;refine⟨.inl L,?_⟩;have:=af (B.trans L);rw[bb] at this;simp only[if_neg (show ¬a.kind=0 by omega)] at this;exact this
 .rintro Z cD aP;rw[o5] at aP;refine cm Ω ?_;obtain⟨W,cI,bM,O,bg⟩:=id aP;have cU:(dI u j f (dx tup (ce u f.sc pos a.v) f.aj f.cs)).vars[M]? =σ x:=I;obtain⟨a1,bC,y,a2,a6,aK,cV⟩:=xf O cU;refine dh (λH=>dp w ad ag aq A R A9 aI n s t h (iH u j f pos M x a.v tup un) H) (λH N=>⟨by rw[C],by rw[C];exact N⟩) λcW cX=>?_;have cY:M<(dI u j f (dx tup (ce u f.sc pos a.v) f.aj f.cs)).vars.length:=bp;have row:∀ {z:x3} {K:x1->x1->x1->x1->x1->Prop},Ext Z z->K (Γ aq) (.pointer (σ ⟨aq,0+5,ν⟩)) (.slice (σ ⟨a1,0,ν⟩) (dI u j f (dx tup (ce u f.sc pos a.v) f.aj f.cs)).vars.length bC) (.pointer (σ ⟨a1,0+M*1,ν⟩)) y->
    aa x7 (bK (Γ aq)) z λao=>aa x7 (u5 bc ao 5) z λau=>aa x7 (u4 ec au) z λaw=>aa x7 (j5 ec aw (Δ (M:Int))) z λaB=>aa x7 (u4 ax aB) z λaS=>K ao au aw aB aS:=λI bm=>by
   rw[aO bc.p 5 (O.box.ext I) a2,e6 ec.u ax.i cY λ_=>rfl,aA (v:=y) (o:=0+M*1) Ψ (by rw[X0,V8];exact il I a6)];exact bm
  have af:∀ {J:x3},Ext Z J->aa x7 (j5 ax y (Δ (v:Int))) J λa'=>aC x7 (o6 ap a' (Δ (un (x.un.getD v 0)))) J λ(_:Unit) H=>cW H:=λbl=>by
   refine cV bl Ω λH N=>cX _ ?_;have cZ:=dp.comp W bg N.Er;have:=dp.comp (A9:=A9) (w:=w) (bG.ab _) (λq r E=>.inl ⟨q,E.1⟩) cZ;unfold iH;rw[show a.v.toNat=v by omega];exact this
  rw[bh,al];refine⟨λbo=>?_,λbo=>?_⟩
  .intro z B _ _;refine row B (row B ?_);rw[P,be ax.u ap.i Ψ (aK.ext B) (getD_some Ω)];rw[P,u6] at br;refine (nA Ω Ω).mono ?_;rintro _ J _ ⟨rfl,L⟩;refine⟨.inl L,?_⟩;have:=af (B.trans L);rw[bd] at this;simp only[if_pos (show a.kind=0 by omega)] at this;exact this
  .intro z B _ _;refine row B (row B ?_);rw[P,be ax.u ap.i Ψ (aK.ext B) (getD_some Ω)];rw[P,u6] at br;refine (tH Ω Ω).mono ?_;rintro _ J _ ⟨rfl,L⟩;refine⟨.inl L,?_⟩;have:=af (B.trans L);rw[bd] at this;simp only[if_neg (show ¬a.kind=0 by omega)] at this;exact this
end
section
variable {w:x3} {ad ag:Nat} {A R:ak} {n:aR} {s:av} {t:aB} {a:hy}
theorem eB.step {aQ:ak} {s':av} {bw:aB} (h:bx w ad ag A R n s t) (f:Laid w) (e:¬A 0) (I:Ext w U) (j:ah (ev U) U V) (a:Grow A U aQ V) (m:bx V ad ag aQ R n s' bw) (p:ee bw []):eB w ad ag A R n s' V:=by
 refine⟨jI I j,js a.1 e (f.ext I),aQ,bw,(Grow.ext I).trans a,m,p,λq=>(a.2.1 0 q).elim e λr=>?_⟩;obtain⟨x,y,z,B,⟨h1,_⟩,_⟩:=h.1;have:=h.lt (.inl h1);have:=I.size;omega
theorem xi (hk:a.kind=2):cA n.k s a=match gP s a.i with
  |none=>(s,1)
  |some x=>if dm n.k a.c (iI x)≠0 then (s,dm n.k a.c (iI x)) else (kt s a.i.toNat x (λg=>dG n.k g a.c) λg=>dH n.k g a.c,0):=by
 unfold cA gP;rw[if_neg Ω,if_neg Ω,if_pos hk];cases (if 0<=a.i then s.vars[a.i.toNat]? else ν) with
 |none=>rfl
 |some x=>
  simp only;by_cases e:x.gone=0
  .rw[if_neg Ω,if_pos e]
  .rw[if_pos e,if_neg e]
theorem xj (hk:a.kind=3):cA n.k s a=match gP s a.i with
  |none=>(s,1)
  |some x=>if dm n.k a.c (if aE x=[] then-1 else s.zero)≠0 then (s,dm n.k a.c (if aE x=[] then-1 else s.zero)) else (kt s a.i.toNat x (λg=>dH n.k g a.c) λg=>dG n.k g a.c,0):=by
 unfold cA gP;rw[if_neg Ω,if_neg Ω,if_neg Ω,if_pos hk];cases (if 0<=a.i then s.vars[a.i.toNat]? else ν) with
 |none=>rfl
 |some x=>
  simp only;by_cases e:x.gone=0
  .rw[if_neg Ω,if_pos e]
  .rw[if_pos e,if_neg e]
theorem PH (hk:a.kind=2) (h:bx w ad ag A R n s t) (J:Laid w) (X:¬A 0) (Y:ee t []):am x7 F6 [Γ ad,Δ a.i,Δ a.c] w (n5 w ad ag A R n s a):=by
 have y:=h.2.2.2.1;have e:=xi (n:=n) (s:=s) hk;refine iQ func37 ?_;refine bo λg1 U bE aB B=>?_;refine bo λZ V bF aa C=>?_;have B:af V g1 dy [Γ ad]:=af.ext B aa;have C:af V Z ai [Δ a.i]:=C;have ae:=aB.trans aa;have bH:=aB.size;have bI:=aa.size;have bJ:=B.lt;have bK:=C.lt;rw[aA (v:=Γ ad) Ψ (B.Qz rfl),aA (v:=Δ a.i) Ψ (C.Qz rfl)];refine (EB (i:=a.i) (h.ext ae)).mono ?_;rintro _ bL _ ⟨aj,rfl⟩;have aX:=ae.trans aj;have z3:=aj.size;cases ac:gP s a.i with
 |none=>
  rw[ac] at e;rw[if_neg Ξ,bz,al];refine⟨λ_=>?_,λh=>absurd Φ h⟩;intro aY aZ _;exact⟨by rw[e],by rw[e];exact eB.same h J X Y (aX.trans aZ)⟩
 |some x=>
 rw[ac] at e;simp only at e;obtain⟨aC,I,bM⟩:=xh ac;obtain⟨u,hu⟩:=U4 aC;rw[hu,u6] at I;rw[hu,u6] at e;rw[if_pos (by rfl),bz,al];refine⟨λh=>absurd rfl h,λ_=>?_⟩;refine bG ap.i λK bN bO aD aF=>?_;refine bt ap.i rfl rfl aF (by simp[x1.cells]) λL ak bP M=>?_;have M:af L K ap [Δ (-1)]:=M;have z5:=aD.size;have bQ:=aF.lt;have an:=aj.trans aD;have ao:af L g1 dy [Γ ad]:=(B.ext an).ab ak Ω;have aq:af L Z ai [Δ a.i]:=(C.ext an).ab ak Ω;have N:Ext w L:=(ae.trans an).then ak (by rintro r aG rfl;omega);rw[aA (v:=Γ ad) Ψ (ao.Qz rfl),aA (v:=Δ a.i) Ψ (aq.Qz rfl)];refine (kr (i:=a.i) (h.ext N)).mono ?_;rintro _ bR _ ⟨⟨b,a1,rfl,aH⟩,aI⟩;refine (p7 (b:=b) (n:=a1)).mono ?_;rintro _ a2 _ ⟨a6,aJ,rfl,bS,aK⟩;have aL:=pn aH aC (show s.vars[a.i.toNat]? =σ x by rw[hu,u6];exact I);have f:=aI.trans a6;have bT:=aI.size;have bU:=aK.lt;have bV:=M.lt;have aM:∀j (v:Nat),(aE x)[j]? =σ (v:Int)->(((aE x).take (j+1)).map λv=>x.un.getD v.toNat 0).foldl jP (-1)=jP ((((aE x).take j).map λv=>x.un.getD v.toNat 0).foldl jP (-1)) (x.un.getD v 0):=λj v aO=>by
  rw[u9,aO,l7,b6,U9];rfl
 refine ln.old ⟨_,false,jZ,#[Γ aJ],_,_,_,_,λj w'=>ah (λr=>r=K) a2 w'/\af w' K ap [Δ ((((aE x).take j).map λv=>x.un.getD v.toNat 0).foldl jP (-1))],λ_ _ _=>False,rfl,(p6 (g:=aJ) aH.1).s,?_,
  λ_ _ I h=>⟨h.1.ext I,h.2.ext I⟩,λ_ _ _ I h=>⟨h.1.trans (I.ab _),h.2.ext I⟩,λ_ _ _ _ _ h=>h,⟨aK,J.ext (N.trans f)⟩,⟨ah.refl _ _,M.ext f⟩,?_,?_,λ_ _ h=>h.elim,λ_ _ _ h=>h.elim⟩
 .rintro _ _ _ _ ⟨_,_,_,_,rfl⟩;rfl
 .rintro _ j _ a7 ⟨aP,aR⟩ ⟨aO,rfl,v,a8,ba⟩ ⟨p,O⟩;cases ba;intro bb aS _ _;have au:(aE x)[j]? =σ (v:Int):=by rw[<-aL,x8,a8];rfl
  have bc:=n4 y I (x5 au);have av:=p.trans (aS.ab _);have bd:Ext w bb:=(N.trans f).then av (by rintro r aG rfl;omega);rw[aA (v:=Γ ad) Ψ (((ao.ext f).ab av Ω).Qz rfl),aA (v:=Δ a.i) Ψ (((aq.ext f).ab av Ω).Qz rfl)];refine (nW (i:=a.i) (v:=(v:Int)) (h.ext bd)).mono ?_;rintro _ be _ ⟨rfl,bf⟩;have bg:gM s a.i.toNat (v:Int).toNat=x.un.getD v 0:=by
   unfold gM;rw[hu,u6,I];rfl
  rw[if_pos (by rw[hu];exact bc),bg,bi,bj];have E:=aS.trans bf;have G:=O.ext E;refine aV (λr bk=>(r= .bool (decide ((((aE x).take j).map λv=>x.un.getD v.toNat 0).foldl jP (-1)<0\/x.un.getD v 0<(((aE x).take j).map λv=>x.un.getD v.toNat 0).foldl jP (-1))))/\bk=be) ?_ λay H=>?_
  .rintro _ _ ⟨rfl,rfl⟩;rw[al];refine⟨λP=>?_,λQ=>?_⟩
   .refine bt ap.i rfl rfl G Ξ λbl bm bW bn=>?_;have m:ah (λr=>r=K) a7 bl:=(E.ab _).trans bm;refine⟨⟨aP.ab m Ω,js m Ω aR⟩,⟨p.trans m,?_⟩,λh=>by cases h⟩;rw[aM j v au];unfold jP at P ⊢;rw[if_pos P];exact bn
   .refine⟨⟨aP.ext E,aR.ext E⟩,⟨p.trans (E.ab _),?_⟩,λh=>by cases h⟩;rw[aM j v au];unfold jP at Q G ⊢;rw[if_neg Q];exact G
  rw[aA (v:=Δ _) Ψ (G.Qz rfl),aN,al];refine⟨λP=>H _ _ ⟨by rw[decide_eq_true (Or.inl P)],rfl⟩,λQ=>?_⟩;rw[aA (v:=Δ _) Ψ (G.Qz rfl),aN];refine H _ _ ⟨?_,rfl⟩;congr 1;exact decide_eq_decide.2 ⟨.inr,λh=>h.resolve_left Q⟩
 .rintro k aw rfl ⟨p,O⟩;rw[j9 (by rw[<-aL,u7];exact p8 _),PE λv _=>(hQ y I).1] at O;have aT:Ext w aw:=(N.trans f).then p (by rintro r aG rfl;omega);have aU:af aw g1 dy [Γ ad]:=(ao.ext f).ab p Ω;have bp:af aw Z ai [Δ a.i]:=(aq.ext f).ab p Ω;rw[aA (v:=Γ ad) Ψ (aU.Qz rfl),aA (v:=Δ (iI x)) Ψ (O.Qz rfl)];refine (tF (h.ext aT)).mono ?_;rintro _ bX _ ⟨ax,rfl⟩;have S:=aT.trans ax;refine dh (λw'=>eB w ad ag A R n (cA n.k s a).1 w') ?_ λay H=>?_
  .intro w' bq bY W _;obtain⟨br,bu,aQ,bw,bA,bB,bC⟩:=bq;refine⟨?_,br.trans (W.ab _),bu.ext W,aQ,bw,bA.trans (Grow.ext W),bB.ext W,bC⟩;rw[e];split
   .rfl
   .rename_i q;rw[Z9.1 q]
  rw[bh,al];refine⟨λq=>?_,λq=>H _ ?_⟩
  .obtain⟨m,hm⟩:=mJ (λh=>h q);rw[aA (v:=Γ ad) Ψ ((aU.ext ax).Qz rfl),aA (v:=Δ a.i) Ψ ((bp.ext ax).Qz rfl),hu];refine (EC (t:=t) (u:=u) (F1:=m9) (F2:=na) (g:=λg=>dG n.k g a.c) (z:=λg=>dH n.k g a.c) (h.ext S) (J.ext S) X Y I (λv ac=>?_) ⟨mM y.zero m.1,λ{w A s' t} az=>qZ az y.zero m⟩).mono ?_
   .have aW:=hQ (v:=v.toNat) y I;exact⟨mL aW ⟨m.1,xa ac hm⟩,λ{w A s t} az=>tG az aW m (.inr (xa ac hm))⟩
   .rintro _ aY _ bD;refine H _ ?_;rw[e,if_neg (λh=>h q)];exact bD.before S
  .rw[e,if_pos q];exact eB.same h J X Y S
theorem PI {b m:Nat} {i:Int} {x:br} (f:tn s n i b m) (hi:0<=i) (I:s.vars[i.toNat]? =σ x):b=0↔aE x=[]:=by
 have a:=pn f hi I;constructor
 .rintro rfl;rw[<-a];have:gp 0 m=[]:=List.eq_nil_iff_forall_not_mem.2 λv ac=>by
   have:=(vn.1 ac).2;simp at this
  rw[this];rfl
 .intro he;rw[he] at a;have ac:=List.map_eq_nil_iff.1 a;refine Nat.eq_of_testBit_eq λj=>?_;rw[Nat.zero_testBit];cases e:b.testBit j with
  |false=>rfl
  |true=>
   have p:j<m:=by
    rcases Nat.lt_or_ge j m with h|h
    .exact h
    .have:=Nat.testBit_lt_two_pow (x:=b) (i:=j) (R8 f.1.2 (T7 Ω h));rw[this] at e;cases e
   have:j∈gp b m:=vn.2 ⟨p,e⟩;rw[ac] at this;cases this
theorem PJ (hk:a.kind=3) (h:bx w ad ag A R n s t) (B:Laid w) (C:¬A 0) (E:ee t []):am x7 F7 [Γ ad,Δ a.i,Δ a.c] w (n5 w ad ag A R n s a):=by
 have G:=h.2.2.2.1;have f:=xj (n:=n) (s:=s) hk;refine az func38 ?_;refine (EB (i:=a.i) h).mono ?_;rintro _ U _ ⟨H,rfl⟩;cases ac:gP s a.i with
 |none=>
  rw[ac] at f;rw[if_neg Ξ,bz,al];exact⟨λ_=>⟨by rw[f],by rw[f];exact eB.same h B C E H⟩,λh=>absurd Φ h⟩
 |some x=>
 rw[ac] at f;simp only at f;obtain⟨K,I,af⟩:=xh ac;rw[if_pos (by rfl),bz,al];refine⟨λh=>absurd rfl h,λ_=>?_⟩;refine (qO (h.ext H)).mono ?_;rintro _ V _ ⟨rfl,W⟩;have L:=H.trans W;refine aV (λr w'=>r=Δ (if aE x=[] then-1 else s.zero)/\Ext w w') ?_ λay m=>?_
 .rintro _ ah ⟨rfl,M⟩;refine (tF (h.ext M)).mono ?_;rintro _ ai _ ⟨X,rfl⟩;have p:=M.trans X;refine dh (λw'=>eB w ad ag A R n (cA n.k s a).1 w') ?_ λay m=>?_
  .intro w' Y;refine⟨?_,Y⟩;rw[f];generalize (if aE x=[] then (-1:Int) else s.zero)=aj;split
   .rfl
   .rename_i j;rw[Z9.1 j]
  rw[bh,al];refine⟨λj=>?_,λj=>m _ ?_⟩
  .obtain⟨y,hm⟩:=mJ (λh=>h j);have N:a.c<=s.zero:=by
    split at hm
    .omega
    .exact hm
   obtain⟨u,hu⟩:=U4 K;rw[hu,u6] at I;rw[hu];refine (EC (t:=t) (u:=u) (F1:=na) (F2:=m9) (g:=λg=>dH n.k g a.c) (z:=λg=>dG n.k g a.c) (h.ext p) (B.ext p) C E I (λv ac=>?_) ⟨mL G.zero ⟨y.1,N⟩,λ{w A s' t} J=>tG J G.zero y (.inr N)⟩).mono ?_
   .have O:=hQ (v:=v.toNat) G I;exact⟨mM O y.1,λ{w A s t} J=>qZ J O y⟩
   .rintro _ ak _ Z;refine m _ ?_;rw[f,if_neg (λh=>h j),hu,u6];exact Z.before p
  .rw[f,if_pos j];exact eB.same h B C E p
 refine (kr (i:=a.i) (h.ext L)).mono ?_;rintro _ an _ ⟨⟨b,aa,rfl,P⟩,ab⟩;refine (hl (b:=b) (n:=aa) P.1).mono ?_;rintro _ ao _ ⟨⟨q,rfl,Q⟩,ae⟩;have S:=(L.trans ab).trans ae;have T:=PI P K I;rw[bh,al];refine⟨λh=>m _ _ ⟨by rw[if_pos (T.1 (Q.1 h))],S⟩,λh=>m _ _ ⟨by rw[if_neg λe=>h (Q.2 (T.2 e))],S⟩⟩
theorem PK (hk:a.kind=4) (h:bx w ad ag A R n s t) (j:Laid w) (m:¬A 0) (f:ee t []):am x7 F8 [Γ ad,Δ a.i,Δ a.v] w (n5 w ad ag A R n s a):=by
 have p:=h.2.2.2.1;have e:cA n.k s a=match ei s a.i a.v with
  |none=>(s,1)
  |some x=>if dH n.k s.zero (x.un.getD a.v.toNat 0)<n.k then (s,7) else (cd s a.i.toNat a.v.toNat,0):=by
  unfold cA;rw[if_neg Ω,if_neg Ω,if_neg Ω,if_neg Ω,if_pos hk];cases ei s a.i a.v<;>rfl
 refine az func39 ?_;refine (xc h).mono ?_;rintro _ U _ ⟨q,rfl⟩;cases ac:ei s a.i a.v with
 |none=>
  rw[ac] at e;rw[if_neg Ξ,bz,al];exact⟨λ_=>⟨by rw[e],by rw[e];exact eB.same h j m f q⟩,λh=>absurd Φ h⟩
 |some x=>
 rw[ac] at e;simp only at e;obtain⟨X,I,Y,H⟩:=ku ac;rw[if_pos (by rfl),bz,al];refine⟨λh=>absurd rfl h,λ_=>?_⟩;have B:eL n a.i a.v:=by
  have:=n4 p I H;rwa [show ((a.i.toNat:Nat):Int)=a.i by omega] at this
 refine (nW (i:=a.i) (v:=a.v) (h.ext q)).mono ?_;rintro _ V _ ⟨rfl,J⟩;have K:gM s a.i.toNat a.v.toNat=x.un.getD a.v.toNat 0:=by
  unfold gM;rw[I]
 rw[if_pos B,K,bi,bj];have C:=q.trans J;refine (qO (h.ext C)).mono ?_;rintro _ Z _ ⟨rfl,L⟩;have E:=C.trans L;refine (qZ (h.ext E) p.zero (hQ p I)).mono ?_;rintro _ aa _ ⟨rfl,M⟩;have G:=E.trans M;refine (jL (h.ext G)).mono ?_;rintro _ ab _ ⟨rfl,N⟩;have z:=G.trans N;rw[aN,al];refine⟨λO=>?_,λP=>?_⟩
 .rw[if_pos O] at e;exact⟨by rw[e],by rw[e];exact eB.same h j m f z⟩
 .rw[if_neg P] at e;refine (ts (i:=a.i) (v:=a.v) (h.ext z) (.inl f.1)).mono ?_;rintro r ae _ ⟨_,Q⟩;obtain⟨rfl,S,aQ,y,T,W⟩:=Q B;refine⟨by rw[e],?_⟩;rw[e];exact eB.step h j m z S T W f.set
theorem PL (hk:5<=a.kind) (h:bx w ad ag A R n s t) (N:Laid w) (P:¬A 0) (Q:ee t []):am x7 F9 [Γ ad,Δ a.i,Δ a.v] w (n5 w ad ag A R n s a):=by
 have au:=h.2.2.2.1;have m:cA n.k s a=match ei s a.i a.v with
  |none=>(s,1)
  |some x=>(fY s a.i.toNat a.v (aE x),0):=by
  unfold cA;rw[if_neg Ω,if_neg Ω,if_neg Ω,if_neg Ω,if_neg Ω];cases ei s a.i a.v<;>rfl
 refine iQ func40 ?_;refine bo λg1 U aW S p=>?_;refine bo λav V aX O q=>?_;refine bo λaw z aY H B=>?_;have p:af z g1 dy [Γ ad]:=(af.ext p O).ext H;have q:af z av ai [Δ a.i]:=af.ext q H;have B:af z aw ai [Δ a.v]:=B;have J:=(S.trans O).trans H;have a1:=S.size;have a2:=O.size;have z3:=H.size;have ax:=p.lt;have ay:=q.lt;have az:=B.lt;rw[aA (v:=Γ ad) Ψ (p.Qz rfl),aA (v:=Δ a.i) Ψ (q.Qz rfl),aA (v:=Δ a.v) Ψ (B.Qz rfl)];refine (xc (h.ext J)).mono ?_;rintro _ a6 _ ⟨C,rfl⟩;have W:=J.trans C;have z4:=C.size;cases ac:ei s a.i a.v with
 |none=>
  rw[ac] at m;rw[if_neg Ξ,bz,al];refine⟨λ_=>?_,λh=>absurd Φ h⟩;intro a7 aB _;exact⟨by rw[m],by rw[m];exact eB.same h N P Q (W.trans aB)⟩
 |some x=>
 rw[ac] at m;simp only at m;obtain⟨aC,I,a8,ba⟩:=ku ac;rw[if_pos (by rfl),bz,al];refine⟨λh=>absurd rfl h,λ_=>?_⟩;rw[aA (v:=Γ ad) Ψ ((p.ext C).Qz rfl),aA (v:=Δ a.i) Ψ ((q.ext C).Qz rfl)];refine (kr (i:=a.i) (h.ext W)).mono ?_;rintro _ bb _ ⟨⟨b,aD,rfl,X⟩,Y⟩;refine (p7 (b:=b) (n:=aD)).mono ?_;rintro _ K _ ⟨aF,Z,rfl,bc,aa⟩;have ae:=pn X aC I;have L:=(C.trans Y).trans aF;have bd:=Y.size;have be:=L.size;have bf:=aa.lt;refine ln.old ⟨_,false,jZ,#[Γ Z],_,_,_,_,λj w'=>gx w ad ag A R n w.heap.size (λr=>K.heap.size<=r) (fY s a.i.toNat a.v ((aE x).take j)) w'/\ah (λr=>r<w.heap.size\/K.heap.size<=r) K w',λ_ _ _=>False,rfl,(p6 (g:=Z) X.1).s,?_,
  λ_ _ I h=>⟨h.1.ext I,h.2.ext I⟩,λ_ _ _ I h=>⟨h.1.ext I,h.2.trans (I.ab _)⟩,λ_ _ _ _ _ h=>h,⟨aa,N.ext (J.trans L)⟩,⟨gx.start h N P Q (J.trans L) (p8 _),ah.refl _ _⟩,?_,?_,λ_ _ h=>h.elim,λ_ _ _ h=>h.elim⟩
 .rintro _ _ _ _ ⟨_,_,_,_,rfl⟩;rfl
 .rintro _ j _ bg ⟨aj,aG⟩ ⟨bh,rfl,v,aH,aI⟩ ⟨E,G⟩;cases aI;intro aJ f _ _;have ak:(aE x)[j]? =σ (v:Int):=by rw[<-ae,x8,aH];rfl
  have aK:eL n a.i (v:Int):=by
   have:=n4 au I (x5 ak);rwa [show ((a.i.toNat:Nat):Int)=a.i by omega] at this
  have aZ:∀ {g:Nat} {e:r8} {cs:List x1},w.heap.size<=g->g<z.heap.size->af z g e cs->af aJ g e cs:=λaL aM aN=>((aN.ext L).ab G Ω).ext f;have M:=PD (s:=s) (i:=a.i.toNat) (v:=a.v) ak;obtain⟨bi,bj,aO,an,aP⟩:=E.open;rw[aA (v:=Δ a.v) Ψ ((aZ Ω az B).Qz rfl),bz,al];refine⟨λaR=>?_,λhe=>?_⟩
  .rw[if_pos aR] at M;rw[aA (v:=Γ ad) Ψ ((aZ Ω ax p).Qz rfl),aA (v:=Δ a.i) Ψ ((aZ Ω ay q).Qz rfl)];refine (ts (i:=a.i) (v:=(v:Int)) (aO.ext f) (.inl an.1)).mono ?_;rintro r bk _ ⟨_,aS⟩;obtain⟨rfl,aT,aQ,y,aU,ao⟩:=aS aK;rw[<-M] at ao;have bl:=G.size;obtain⟨ap,aq,bm⟩:=aP (D':=λr=>K.heap.size<=r) (jI f aT) ((Grow.ext f).trans aU) ao an.set (λr h=>h) λr aL aM=>Ω
   exact⟨⟨aj.ab aq Ω,ap.2.1.1⟩,⟨ap,G.trans aq⟩,λh=>by cases h⟩
  .rw[if_neg he] at M;exact⟨⟨aj.ext f,aG.ext f⟩,⟨by rw[M];exact E.ext f,G.trans (f.ab _)⟩,λh=>by cases h⟩
 .rintro k bn rfl ⟨E,G⟩;rw[j9 (by rw[<-ae,u7];exact p8 _)] at E;intro bp aV _;exact⟨by rw[m],by rw[m];exact E.done aV⟩
end
theorem PM {m:x1} (h:aF .i64 w m l) (N:l.length<=1000000):am x7 GM [m,Δ v] w λr w'=>Ext w w'/\(∃g,au .i64 ai w' g r (l.filter λy=>!decide (y=v)))/\ ∀q,leads r q->w.heap.size<=q:=by
 refine az func108 ?_;rw[aU an.u h];refine bX.range l.length (λi out f=>Ext w f/\(∃g,au .i64 ai f g out ((l.take i).filter λy=>!decide (y=v)))/\ ∀r,leads out r->w.heap.size<=r) h.le ⟨Ext.refl _,⟨0,au.nil _ _ _ _⟩,λr B=>by obtain⟨_,_,_,e,_⟩:=B;cases e⟩ ?_ ?_
 .rintro q out f C E ⟨a,⟨g,hm⟩,j⟩ G;obtain⟨y,p⟩:=aH (l:=l) E;have s:(l.take (q+1)).filter (λy=>!decide (y=v))=(l.take q).filter (λy=>!decide (y=v))++(if y≠v then[y] else[]):=by
   rw[u9,p,l7,List.filter_append];congr 1;by_cases aG:y=v<;>simp[aG]
  refine bE Ω ?_;refine aV (λx z=>Ext w z/\(∃g,au .i64 ai z g x ((l.take (q+1)).filter λy=>!decide (y=v)))/\ ∀r,leads x r->w.heap.size<=r) (λ_ _ H=>by rw[aM];exact G _ _ H) λay A=>?_;rw[be an.u ai.i Ψ (h.ext a) p,bz,al];refine⟨λI=>?_,λhe=>A _ _ ⟨a,⟨g,by rw[s,if_neg he,U2];exact hm⟩,j⟩⟩;refine En (w0:=w) a hm j ?_ λO w' J K L M=>A _ _ ⟨K,⟨J,by rw[s,if_pos I];exact L⟩,M⟩;have h1:=List.length_filter_le (λy=>!decide (y=v)) (l.take q);rw[l9] at h1;omega
 .rintro out f C ⟨a,hm,j⟩;rw[o5] at hm;refine cm Ω ?_;exact⟨a,hm,j⟩
theorem xk {i:Nat} {v:Int}:∀ (L:Λ) (s:av) (x:br),s.vars[i]? =σ x->(∀y∈L,0<=y)-> ∃m,fY s i v L={s with vars:=s.vars.set i {x with mask:=m}}/\aE {x with mask:=m}=(aE x).filter λy=>!(decide (y∈L)&& !decide (y=v))
 |[],s,x,I,_=>by
  refine⟨x.mask,?_,(List.filter_eq_self.2 λy _=>Ξ).symm⟩;have:s.vars.set i x=s.vars:=by
   apply Y6;intro q;by_cases e:i=q
   .subst e;rw[c9 (x4.1 I).1,I]
   .rw[Y2 e]
  show s={s with vars:=s.vars.set i x};rw[this]
 |w::L,s,x,I,f=>by
  have hw:=f w (.head _);have r:=(x4.1 I).1;rw[fY];by_cases e:w≠v
  .rw[if_pos e];have p:cd s i w.toNat={s with vars:=s.vars.set i {x with mask:=((x.mask.toNat ||| 2 ^ w.toNat:Nat):Int)}}:=by unfold cd;rw[I]
   obtain⟨m,h1,j⟩:=xk L (cd s i w.toNat) {x with mask:=((x.mask.toNat ||| 2 ^ w.toNat:Nat):Int)} (by rw[p];exact c9 r) λy a=>f y (.tail _ a);refine⟨m,?_,?_⟩
   .rw[h1,p];simp only[List.set_set]
   .rw[j,w9 hw,List.filter_filter];refine List.filter_congr λy _=>?_;by_cases a:y=w
    .subst a;simp[e]
    .simp[a]
  .rw[if_neg e];obtain⟨m,h1,j⟩:=xk L s x I λy a=>f y (.tail _ a);refine⟨m,h1,?_⟩;rw[j];have e:=Z9.1 e;refine List.filter_congr λy _=>?_;by_cases a:y=v
   .simp[a]
   .have:y≠w:=λh=>a (h.trans e);simp[a,this]
theorem filter_one (h:l.Nodup) (ac:v∈l):l.filter (λy=>decide (y=v))=[v]:=by
 induction l with
 |nil=>cases ac
 |cons a l j=>
  have f:=List.nodup_cons.1 h;by_cases e:a=v
  .subst e;rw[List.filter_cons_of_pos Ξ,List.filter_eq_nil_iff.2 λx I=>by simp;intro m;exact f.1 (m▸I)]
  .rw[List.filter_cons_of_neg (by simpa using e)];exact j f.2 ((W9.1 ac).resolve_left (Ne.symm e))
def jk (u:av) (a:hy):Option br:=if 3<a.kind then ei u a.i a.v else gP u a.i
section
variable {w:x3} {ad ag aq:Nat} {A R:ak} {A9:Nat->ak} {aI:ak} {n:aR} {s u:av} {t:aB} {h:List aB} {cs:List x1} {a:hy}
theorem ED {x:br} (h:jk u a=σ x):0<=a.i/\u.vars[a.i.toNat]? =σ x/\x.gone=0/\(3<a.kind->a.v∈aE x):=by
 unfold jk at h;split at h
 .obtain⟨h1,e,f,j⟩:=ku h;exact⟨h1,e,f,λ_=>j⟩
 .rename_i hk;obtain⟨h1,e,f⟩:=xh h;exact⟨h1,e,f,λh=>absurd h hk⟩
theorem PN (h:¬(0<=a.i/\a.i<u.vars.length)):jk u a=ν:=by
 cases he:jk u a with
 |none=>rfl
 |some x=>
  obtain⟨h1,e,_⟩:=ED he;exact absurd ⟨h1,by have:=(x4.1 e).1;omega⟩ h
theorem PO {x:br} (e:0<=a.i) (I:u.vars[a.i.toNat]? =σ x):jk u a=if x.gone=0/\(3<a.kind->a.v∈aE x) then σ x else ν:=by
 unfold jk;by_cases hk:3<a.kind
 .rw[if_pos hk];unfold ei;rw[if_pos e,I];simp only[hk,true_implies]
 .rw[if_neg hk];unfold gP;rw[if_pos e,I];simp only[hk,false_implies,and_true]
theorem PP (hk:2<=a.kind/\a.kind<=5) (h:jk u a=ν):cA n.k u a=(u,1):=by
 unfold jk at h;by_cases e:3<a.kind
 .rw[if_pos e] at h;unfold cA;rw[if_neg Ω,if_neg Ω,if_neg Ω,if_neg Ω,h];split<;>rfl
 .rw[if_neg e] at h;by_cases f:a.kind=2
  .rw[xi f,h]
  .rw[xj Ω,h]
theorem EE {x:br} (m:0<=c):iI x<c↔aE x=[]\/ ∃v∈aE x,x.un.getD v.toNat 0<c:=by
 unfold iI;constructor
 .intro h;cases a:aE x with
  |nil=>exact .inl rfl
  |cons b l=>
   refine .inr ?_;rw[a] at h;simp only[U6] at h;by_cases e:∀v∈b::l,c<=x.un.getD v.toNat 0
   .have:=(pu (l.map λv=>x.un.getD v.toNat 0) (x.un.getD b.toNat 0) c).2 ⟨e b (.head _),λy f=>by obtain⟨v,ac,rfl⟩:=n9.1 f;exact e v (.tail _ ac)⟩;omega
   .simp only[Classical.not_forall] at e;obtain⟨v,ac,p⟩:=e;exact⟨v,ac,Ω⟩
 .rintro (h|⟨v,ac,q⟩)
  .rw[h];show (-1:Int)<c;omega
  .cases a:aE x with
   |nil=>rw[a] at ac;cases ac
   |cons b l=>
    rw[a] at ac;simp only[U6];rcases Int.lt_or_le ((l.map λv=>x.un.getD v.toNat 0).foldl min (x.un.getD b.toNat 0)) c with aG|aG
    .exact aG
    .obtain⟨r,j⟩:=(pu _ _ _).1 aG;rcases W9.1 ac with rfl|ac
     .omega
     .have:=j _ (n9.2 ⟨v,ac,rfl⟩);omega
def xl (n:aR) (u:av) (x:br) (a:hy):Prop:=aE x=[]\/(a.kind=3/\u.zero<a.c)\/(a.kind=2/\ ∃v∈aE x,x.un.getD v.toNat 0<a.c)
theorem PQ {x:br} (hk:a.kind=2\/a.kind=3) (h:jk u a=σ x):(¬(0<=a.c/\a.c<=n.k)->cA n.k u a=(u,3))/\((0<=a.c/\a.c<=n.k)->xl n u x a->cA n.k u a=(u,7))/\
  ((0<=a.c/\a.c<=n.k)->¬xl n u x a->cA n.k u a=(kt u a.i.toNat x (λg=>if a.kind=2 then dG n.k g a.c else dH n.k g a.c) (λg=>if a.kind=2 then dH n.k g a.c else dG n.k g a.c),0)/\(a.kind=2-> ∀v∈aE x,a.c<=x.un.getD v.toNat 0)/\(a.kind=3->a.c<=u.zero)):=by
 have ac:gP u a.i=σ x:=by unfold jk at h;rwa [if_neg Ω] at h
 rcases hk with hk|hk
 .have e:=xi (n:=n) (s:=u) hk;rw[ac] at e;simp only at e;simp only[hk];refine⟨λf=>?_,λf hi=>?_,λf hi=>?_⟩
  .have j:∀m,dm n.k a.c m=3:=λm=>by unfold dm;rw[if_pos f]
   rw[j,if_pos Φ] at e;exact e
  .have p:iI x<a.c:=(EE f.1).2 (hi.elim .inl λh=>h.elim (λh=>Ω) λh=>.inr h.2);have j:∀m,m<a.c->dm n.k a.c m=7:=λm hm=>by unfold dm;rw[if_neg (λh=>h f),if_pos hm]
   rw[j _ p,if_pos Φ] at e;exact e
  .have p:¬iI x<a.c:=λh=>hi (((EE f.1).1 h).elim .inl λh=>.inr (.inr ⟨hk,h⟩));have j:dm n.k a.c (iI x)=0:=by unfold dm;rw[if_neg (λh=>h f),if_neg p]
   rw[j,if_neg Φ] at e;refine⟨by rw[e];simp,λ_ v ac=>?_,λh=>absurd h Φ⟩;rcases Int.lt_or_le (x.un.getD v.toNat 0) a.c with aG|aG
   .exact absurd (.inr (.inr ⟨hk,v,ac,aG⟩)) hi
   .exact aG
 .have e:=xj (n:=n) (s:=u) hk;rw[ac] at e;simp only at e;simp only[hk];refine⟨λf=>?_,λf hi=>?_,λf hi=>?_⟩
  .have j:∀m,dm n.k a.c m=3:=λm=>by unfold dm;rw[if_pos f]
   rw[j,if_pos Φ] at e;exact e
  .have p:(if aE x=[] then-1 else u.zero)<a.c:=by
    by_cases q:aE x=[]
    .rw[if_pos q];omega
    .rw[if_neg q];rcases hi with hi|hi|hi
     .exact absurd hi q
     .exact hi.2
     .omega
   have j:∀m,m<a.c->dm n.k a.c m=7:=λm hm=>by unfold dm;rw[if_neg (λh=>h f),if_pos hm]
   rw[j _ p,if_pos Φ] at e;exact e
  .have q:¬aE x=[]:=λh=>hi (.inl h);have r:¬u.zero<a.c:=λh=>hi (.inr (.inl ⟨hk,h⟩));have j:dm n.k a.c u.zero=0:=by unfold dm;rw[if_neg (λh=>h f),if_neg r]
   rw[if_neg q,j,if_neg Φ] at e;exact⟨by rw[e];simp,λh=>absurd h Φ,λ_=>Ω⟩
end
section
variable {w:x3} {ad ag aq:Nat} {A R:ak} {A9:Nat->ak} {aI:ak} {n:aR} {s u:av} {t:aB} {h:List aB} {cs:List x1} {a:hy}
theorem PR (p:cr w ad ag aq A R A9 aI n s u t h cs) (ao:bq n.k n.sizes u) (hk:2<=a.kind/\a.kind<=5):am x7 uJ [Γ aq,Δ (a.kind:Int),Δ a.i,Δ a.pos,Δ a.v,Δ a.c] w λr w'=>r=Δ (cA n.k u a).2/\dp w ad ag aq A R A9 aI n s t h (cA n.k u a).1 w':=by
 have cu:=ao.vars;have cw:=ao.eh;refine az func34 ?_;have bO:cs[0]? =σ (Δ n.k):=by obtain⟨_,_,_,_,_,_,rfl,_⟩:=p.n0;rfl
 rw[aO bc.p 0 p.box bO,aN,al];refine⟨λh=>Ω,λ_=>?_⟩;refine aV (λr w'=>r= .bool (!(jk u a).isSome)/\Ext w w') ?_ λay a7=>?_
 rotate_left
 .rw[bS];refine p.look.load λe7 cz=>?_;refine (OP (i:=a.i) cz).mono ?_;rintro _ U _ ⟨rfl,W⟩;rw[bI,cb];refine⟨λN=>a7 _ _ ⟨by rw[PN (λh=>by rw[cu] at h;rw[decide_eq_true h] at N;cases N)];rfl,W⟩,λN=>?_⟩;have a8:0<=a.i/\a.i<n.sizes.length:=by simpa using N
  obtain⟨x,I⟩:=aH (l:=u.vars) (i:=a.i.toNat) Ω;have bo:=PO a8.1 I;obtain⟨szv,cB,dm,aT,dn,bp,bP,_,_,cC,cD,dq,dr,ds⟩:=(p.look).ext W;rw[aO bc.p 4 bP rfl];refine kL (α:=Bool) (a:=decide (x.gone≠0)) (i:=a.i.toNat) rfl Ω j0.u gf.i Ψ cD (by rw[x8,I];rfl) λbT bt=>?_;have bt:[bT]=[x1.bool (decide (x.gone≠0))]:=bt;obtain rfl:bT=x1.bool (decide (x.gone≠0)):=by simpa using bt
  rw[al];refine⟨λO=>a7 _ _ ⟨by rw[bo,if_neg λh=>O h.1];rfl,W⟩,λO=>?_⟩;have O:=Z9.1 O;rw[bR,al];refine⟨λbu=>?_,λbu=>a7 _ _ ⟨by rw[bo,if_pos ⟨O,λh=>absurd h Ω⟩];rfl,W⟩⟩;rw[aO bc.p 3 bP rfl];refine kL (α:=Λ) (a:=aE x) (i:=a.i.toNat) rfl Ω de.u an.i Ψ cC (by rw[x8,I];rfl) λdt cE=>?_;refine (wU (eE cE)).mono ?_;rintro _ V _ ⟨rfl,H⟩;rw[bI];refine a7 _ _ ⟨?_,W.trans H⟩;rw[bo];by_cases ac:a.v∈aE x
  .rw[if_pos ⟨O,λ_=>ac⟩,decide_eq_true ac];rfl
  .rw[if_neg λh=>ac (h.2 Ω),decide_eq_false ac];rfl
 rintro _ U ⟨rfl,W⟩;cases hm:jk u a with
 |none=>
  have f:=PP (n:=n) hk hm;rw[S6,W5,bQ];exact⟨by rw[f],by rw[f];exact dp.same p W⟩
 |some x=>
 rw[T8,Y7,aY];obtain⟨cF,I,du,cG⟩:=ED hm;obtain⟨B,aK⟩:=U4 cF;rw[aK,u6] at I;have bw:=(x4.1 I).1;have G:∀y∈aE x,0<=y/\y<x.un.length:=λy M=>(fX.1 M).1;simp only[aK];have bU:∀v:Nat,0<=x.un.getD v 0/\x.un.getD v 0<=n.k:=λv=>hQ ao I;have L:=p.ext W;have dv:cs[0]? =σ (Δ n.k):=bO;have bx:∀ {V:x3} {eR:av} {bV:List x1} {bz:Nat->ak} {aL:br},cr V ad ag aq A R bz aI n s eR t h bV->eR.vars[B]? =σ aL-> ∃aT au y,aF .i64 V y aL.un/\(∀ {j:x3} {K:x1->x1->x1->x1->x1->Prop},Ext V j->K (Γ aq) (.pointer (σ ⟨aq,0+5,ν⟩)) aT (.pointer (σ ⟨au,0+B*1,ν⟩)) y->
    aa x7 (bK (Γ aq)) j λaw=>aa x7 (u5 bc aw 5) j λaB=>aa x7 (u4 ec aB) j λaP=>aa x7 (j5 ec aP (Δ (B:Int))) j λba=>aa x7 (u4 ax ba) j λcH=>K aw aB aP ba cH)/\
   ∀ {w':x3} {v:Nat} {c:Int} {K:Unit->x3->Prop},Ext V w'->v<aL.un.length->(∀bW,ji V ad ag aq A R bz aI n s t h (eA eR B aL (aL.un.set v c)) bW->K () bW)->aa x7 (j5 ax y (Δ (v:Int))) w' λa=>aC x7 (o6 ap a (Δ c)) w' K:=λ{V eR bV bz aL} bY C=>by
  obtain⟨au,cI,y,cJ,cK,Z,bA⟩:=xf bY C;have cL:=(x4.1 C).1;refine⟨.slice (σ ⟨au,0,ν⟩) eR.vars.length cI,au,y,Z,λ{j K} aD aX=>?_,bA⟩;rw[aO bc.p 5 (bY.box.ext aD) cJ,e6 ec.u ax.i cL λ_=>rfl,aA (v:=y) (o:=0+B*1) Ψ (by rw[X0,V8];exact il aD cK)];exact aX
 obtain⟨cM,cN,bb,bZ,cO,af,cP,b0⟩:=Pk L I;have b1:∀ {j:x3} {K:x1->x1->x1->Prop},Ext U j->K (Γ aq) (.pointer (σ ⟨aq,0+3,ν⟩)) (.slice (σ ⟨cM,0,ν⟩) u.vars.length cN)->
   aa x7 (bK (Γ aq)) j λaw=>aa x7 (u5 bc aw 3) j λaB=>aa x7 (u4 de aB) j λaP=>K aw aB aP:=λaD aX=>by
  rw[aO bc.p 3 (L.box.ext aD) bZ];exact aX
 have n1:∀ {j:x3} {K:x1->Prop},Ext U j->K bb->
   aa x7 (bK (Γ aq)) j λaw=>aa x7 (u5 bc aw 3) j λaB=>aa x7 (u4 de aB) j λaP=>aa x7 (j5 de aP (Δ (B:Int))) j λba=>aa x7 (u4 an ba) j K:=λaD aX=>by
  rw[aO bc.p 3 (L.box.ext aD) bZ,e6 de.u an.i bw λ_=>rfl,aA (v:=bb) (o:=0+B*1) Ψ (by rw[X0,V8];exact il aD cO)];exact aX
 have low:∀ {u':av} {w':x3},dp U ad ag aq A R A9 aI n s t h u' w'->dp w ad ag aq A R A9 aI n s t h u' w':=λbd=>dp.comp (W.ab _) (λq r G=>.inl ⟨q,G⟩) bd;refine aV (λ_ w'=>dp w ad ag aq A R A9 aI n s t h (cA n.k u a).1 w'/\(cA n.k u a).2=0) (λ_ w' bd=>⟨by rw[bd.2],bd.1⟩) λcQ bB=>?_;refine aV (λr w'=>r= .bool (decide (a.kind=2\/a.kind=3))/\U=w') ?_ λdw b2=>?_
 rotate_left
 .rw[bh,al];refine⟨λC=>b2 _ _ ⟨?_,rfl⟩,λC=>?_⟩
  .congr 1;exact decide_eq_decide.2 ⟨λ_=>.inl Ω,λ_=>C⟩
  .rw[bh];refine b2 _ _ ⟨?_,rfl⟩;congr 1;exact decide_eq_decide.2 ⟨λh=>.inr Ω,λh=>Ω⟩
 rintro _ _ ⟨rfl,rfl⟩;rw[al];refine⟨λcR=>?_,λdx=>?_⟩
 .
  obtain⟨cS,bf,bC⟩:=PQ (n:=n) cR hm;refine zR.mono ?_;rintro _ V _ ⟨rfl,H⟩;have dy:=H;have b3:cn a.c n.k↔0<=a.c/\a.c<=n.k:=⟨λh=>h.2,λC=>⟨cw,C⟩⟩;rw[bI,cb];refine⟨λN=>?_,λN=>?_⟩
  .have f:=cS λh=>absurd (b3.2 h) (by simpa using N);exact⟨by rw[f],by rw[f];exact low (dp.same L H)⟩
  have a8:=b3.1 (show cn a.c n.k by simpa using N);have bf:=bf a8;have bC:=bC a8;refine aV (λr w'=>Ext U w'/\ ∃b,r= .bool b/\(b=true↔aE x=[]\/(a.kind=3/\u.zero<a.c))) ?_ λdz bD=>?_
  rotate_left
  .refine n1 H ?_;rw[aU an.u (af.ext H),bh,al];refine⟨λhe=>bD _ _ ⟨H,true,rfl,⟨λ_=>.inl (c8 Ω),λ_=>rfl⟩⟩,λbg=>?_⟩;have bg:aE x≠[]:=λh=>bg (by rw[h];rfl);rw[bh,al];refine⟨λbu=>?_,λbu=>bD _ _ ⟨H,false,rfl,⟨(λh=>by cases h),λh=>h.elim (λh=>absurd h bg) λh=>Ω⟩⟩⟩;have bF:cs[2]? =σ (Δ u.zero):=by obtain⟨_,_,_,_,_,_,rfl,_⟩:=p.n0;rfl
   rw[aO bc.p 2 (L.box.ext H) bF,bR];exact bD _ _ ⟨H,_,rfl,by rw[decide_eq_true_eq];exact⟨λh=>.inr ⟨Ω,h⟩,λh=>h.elim (λh=>absurd h bg) λh=>h.2⟩⟩
  rintro _ cT ⟨aQ,b,rfl,b4⟩;rw[cb];refine⟨λcU=>?_,λae=>?_⟩
  .have f:=bf ((b4.1 cU).elim .inl λh=>.inr (.inl h));exact⟨by rw[f],by rw[f];exact low (dp.same L aQ)⟩
  have b5:¬(aE x=[]\/(a.kind=3/\u.zero<a.c)):=λh=>by rw[b4.2 h] at ae;cases ae
  refine n1 aQ ?_;rw[aU an.u (af.ext aQ)];refine bX.range (aE x).length (λq _ w'=>Ext U w'/\(a.kind=2-> ∀v∈(aE x).take q,a.c<=x.un.getD v.toNat 0)) af.le ⟨aQ,λ_ v ac=>by simp at ac⟩ ?_ ?_
  .rintro q b6 aJ cV bG ⟨J,bi⟩ cW;obtain⟨v,ac⟩:=aH (l:=aE x) bG;have aj:=x5 ac;have bj:=G v aj;obtain⟨E,rfl⟩:=U4 bj.1;refine bE Ω ?_;rw[be an.u ai.i Ψ (af.ext J) ac];refine aV (λr w'=>aJ=w'/\r= .bool (decide (a.kind=2/\x.un.getD E 0<a.c))) ?_ λdA b7=>?_
   .rintro _ _ ⟨rfl,rfl⟩;rw[al];refine⟨λaZ=>?_,λbH=>?_⟩
    .have f:=bf (.inr (.inr ⟨aZ.1,_,aj,aZ.2⟩));exact⟨by rw[f],by rw[f];exact low (dp.same L J)⟩
    .rw[aM];refine cW _ _ ⟨J,λC y M=>?_⟩;rw[u9,ac,l7,o7,o9] at M;rcases M with M|rfl
     .exact bi C y M
     .rcases Int.lt_or_le (x.un.getD E 0) a.c with aG|aG
      .exact absurd ⟨C,aG⟩ bH
      .exact aG
   rw[bh,al];refine⟨λC=>?_,λC=>b7 _ _ ⟨rfl,by rw[decide_eq_false λh=>C Ω]⟩⟩;obtain⟨aT,au,y,Z,look,_⟩:=bx (L.ext J) I;refine look (Ext.refl _) ?_;rw[be ax.u ap.i Ψ Z (getD_some (i:=E) Ω),bR];refine b7 _ _ ⟨rfl,?_⟩;congr 1;exact decide_eq_decide.2 ⟨λh=>⟨Ω,h⟩,λh=>h.2⟩
  rintro b6 aJ cV ⟨J,bi⟩;rw[o5] at bi;have cX:¬xl n u x a:=λhi=>hi.elim (λh=>b5 (.inl h)) λh=>h.elim (λh=>b5 (.inr h)) λ⟨C,v,ac,aZ⟩=>by have:=bi C v ac;omega
  obtain⟨f,dC,dD⟩:=bC cX;rw[aK,u6] at f;refine cm Ω ?_;refine n1 J ?_;rw[aU an.u (af.ext J)];obtain⟨g,O⟩:∃g:Int->Int,g=λg=>if a.kind=2 then dG n.k g a.c else dH n.k g a.c:=⟨_,rfl⟩;obtain⟨z,bJ⟩:∃z:Int->Int,z=λg=>if a.kind=2 then dH n.k g a.c else dG n.k g a.c:=⟨_,rfl⟩;rw[<-O,<-bJ] at f;have cY:=L.ext J;have cZ:=af.ext J;have b8:=qW x;obtain⟨b9,dE⟩:∃b9,bb=b9:=⟨_,rfl⟩;have c0:eA u B x (dZ g x.un ((aE x).take 0))=u:=by
   unfold eA;show {u with vars:=u.vars.set B x}=u;have:u.vars.set B x=u.vars:=by
    apply Y6;intro i;by_cases e:B=i
    .subst e;rw[c9 bw,I]
    .rw[Y2 e]
   rw[this]
  have c1:∀ {w':x3},ah (A9 2) aJ w'->aF .i64 w' bb (aE x):=λc2=>hI cZ c2 λr G b n c e N=>L.gF.1 0 2 r Φ (cP r ⟨b,n,c,e,N⟩) G;refine ch.range (aE x).length (λq w'=>ji aJ ad ag aq A R A9 aI n s t h (eA u B x (dZ g x.un ((aE x).take q))) w') af.le (by rw[c0];exact ji.same cY (Ext.refl _)) ?_ ?_
  .rintro q bk c3 bG aR c4;obtain⟨bl,ca,cc,aS,bL,c5⟩:=id aR;obtain⟨v,ac⟩:=aH (l:=aE x) bG;have aj:=x5 ac;have bj:=G v aj;obtain⟨E,rfl⟩:=U4 bj.1;have bm:(eA u B x (dZ g x.un ((aE x).take q))).vars[B]? =σ {x with un:=dZ g x.un ((aE x).take q)}:=c9 bw;have dF:(dZ g x.un ((aE x).take q)).length=x.un.length:=tB _ _;have bN:=tC (g:=g) ((aE x).take q) x.un (E:Int) (b8.sublist (List.take_sublist _ _)) (λy M=>G y (S3 M)) Ω;rw[if_neg (xb b8 ac),u6] at bN;have c6:=bU E;obtain⟨aT,au,y,Z,look,bA⟩:=bx aS bm;refine bE Ω ?_;refine dh (λP=>ji aJ ad ag aq A R A9 aI n s t h (eA u B x (dZ g x.un ((aE x).take (q+1)))) P) (λP Q=>by rw[aM];exact c4 _ Q) λc7 da=>?_;have a1:∀ {S:x3},Ext bk S->aa x7 (j5 ax y (Δ (E:Int))) S λa'=>aC x7 (o6 ap a' (Δ (g (x.un.getD E 0)))) S λ(_:Unit) P=>c7 P:=λbn=>by
    refine bA bn (by show E<(dZ g x.un ((aE x).take q)).length;omega) λP Q=>da _ (ji.comp bl bL c5 ?_);have e:eA (eA u B x (dZ g x.un ((aE x).take q))) B {x with un:=dZ g x.un ((aE x).take q)} ((dZ g x.un ((aE x).take q)).set E (g (x.un.getD E 0)))=eA u B x (dZ g x.un ((aE x).take (q+1))):=by
     rw[Ey ac,u6,bN];unfold eA;simp only[List.set_set]
    rw[e] at Q;exact Q
   have ce:(dZ g x.un ((aE x).take q))[E]? =σ (x.un.getD E 0):=by rw[getD_some Ω,bN]
   rw[be an.u ai.i Ψ (c1 bl) ac,bh,al];refine⟨λC=>?_,λC=>?_⟩
   .intro j X _ _;refine look X (look X ?_);rw[be ax.u ap.i Ψ (Z.ext X) ce];refine (tH Ω Ω).mono ?_;rintro _ S _ ⟨rfl,Y⟩;refine⟨.inl Y,?_⟩;have:=a1 (X.trans Y);rw[O] at this;simp only[if_pos (show a.kind=2 by omega)] at this;exact this
   .intro j X _ _;refine look X (look X ?_);rw[be ax.u ap.i Ψ (Z.ext X) ce];refine (nA Ω Ω).mono ?_;rintro _ S _ ⟨rfl,Y⟩;refine⟨.inl Y,?_⟩;have:=a1 (X.trans Y);rw[O] at this;simp only[if_neg (show ¬a.kind=2 by omega)] at this;exact this
  .rintro bk c3 aR;rw[o5] at aR;refine cm Ω ?_;have aR:=aR.Er;obtain⟨bl,ca,cc,aS,bL⟩:=id aR;have cg:cc[2]? =σ (Δ u.zero):=by obtain⟨_,_,_,_,_,_,rfl,_⟩:=aS.n0;rfl
   have db:=ao.zero;have a1:∀ {S:x3},Ext bk S->aC x7 (o6 ap (.pointer (σ ⟨aq,0+2,ν⟩)) (Δ (z u.zero))) S λ(_:Unit) P=>cQ b6 P:=λbn=>by
    refine Pj (aS.ext bn) λP Q=>bB _ _ ⟨?_,by rw[f]⟩;rw[f];have ci:=dp.comp (A9:=ca) (bn.ab _) (λq r G=>.inl ⟨q,G⟩) Q;have a2:=dp.comp bl bL ci;exact low (dp.comp (J.ab _) (λq r G=>.inl ⟨q,G⟩) a2)
   rw[bh,al];refine⟨λC=>?_,λC=>?_⟩
   .rw[aO bc.p 2 aS.box cg];refine (nA Ω Ω).mono ?_;rintro _ S _ ⟨rfl,Y⟩;rw[bS,aW bc.p rfl];have:=a1 Y;rw[bJ] at this;simp only[if_pos (show a.kind=2 by omega)] at this;exact this
   .rw[aO bc.p 2 aS.box cg];refine (tH Ω Ω).mono ?_;rintro _ S _ ⟨rfl,Y⟩;rw[bS,aW bc.p rfl];have:=a1 Y;rw[bJ] at this;simp only[if_neg (show ¬a.kind=2 by omega)] at this;exact this
 .
  have cj:3<a.kind:=Ω
  have aj:=cG cj;obtain⟨E,bp⟩:=U4 (G _ aj).1;have bj:=(G _ aj).2;have ck:ei u a.i a.v=σ x:=by unfold jk at hm;rwa [if_pos cj] at hm
  rw[bh,al];refine⟨λa2=>?_,λa2=>?_⟩
  .have a2:a.kind=4:=Ω
   have f:cA n.k u a=if dH n.k u.zero (x.un.getD a.v.toNat 0)<n.k then (u,7) else (cd u a.i.toNat a.v.toNat,0):=by
    unfold cA;rw[if_neg Ω,if_neg Ω,if_neg Ω,if_neg Ω,if_pos a2,ck]
   have db:=ao.zero;have c6:=bU E;intro V H _ _;have bF:cs[2]? =σ (Δ u.zero):=by obtain⟨_,_,_,_,_,_,rfl,_⟩:=p.n0;rfl
   obtain⟨aT,au,y,Z,look,_⟩:=bx (L.ext H) I;rw[aO bc.p 2 (L.box.ext H) bF];refine look (Ext.refl _) ?_;rw[bp,be ax.u ap.i Ψ Z (getD_some (i:=E) Ω)];refine (nA Ω Ω).mono ?_;rintro _ cT _ ⟨rfl,aQ⟩;have cl:=H.trans aQ;rw[bp,u6] at f;unfold dH at f;rw[aN,al];refine⟨λaZ=>?_,λbH=>?_⟩
   .rw[if_pos aZ] at f;exact⟨by rw[f],by rw[f];exact low (dp.same L cl)⟩
   .rw[if_neg bH] at f;intro aJ J _ _;have a6:=cl.trans J;refine b1 a6 ?_;refine n1 a6 ?_;have dI:=xe x;have dc:=ao.fk.2.2;refine (PM (v:=(E:Int)) (af.ext a6) (by
     obtain⟨cp,cq⟩:=aH (l:=n.sizes) (i:=B) Ω;have h1:=(ao.var B x cp I cq).1;have C:=dc cp (x5 cq);omega)).mono ?_
    rintro cB bk _ ⟨bm,⟨gz,dd⟩,df⟩;refine⟨.inl bm,?_⟩;have dg:=a6.trans bm;have dJ:=a6.size;refine b0 (m:=((x.mask.toNat ||| 2 ^ E:Nat):Int)) dg (gz:=gz) (by rw[show E=(E:Int).toNat from rfl,w9 Ω];exact dd) (λr G=>by have:=df r G;omega) λP Q=>bB _ _ ⟨?_,by rw[f]⟩;rw[f,aK,u6];unfold cd;rw[I];exact low Q
  .have ci:a.kind=5:=Ω
   obtain⟨m,di,dj⟩:=xk (i:=a.i.toNat) (v:=a.v) (aE x) u x (by rw[aK,u6];exact I) λy M=>(G y M).1;have f:cA n.k u a=(fY u a.i.toNat a.v (aE x),0):=by
    unfold cA;rw[if_neg Ω,if_neg Ω,if_neg Ω,if_neg Ω,if_neg Ω,ck]
   have dk:aE {x with mask:=m}=[a.v]:=by
    rw[dj,<-filter_one (qW x) aj];refine List.filter_congr λy M=>?_;rw[decide_eq_true M,U3,Bool.not_not]
   rw[bh,al];refine⟨λ_=>?_,λh=>Ω⟩;refine b1 (Ext.refl _) ?_;refine eo (k:=.i64) an.u ai.i rfl λv4 dl aJ dK J ct=>?_;refine b0 (m:=m) J (gz:=dl) (by rw[dk];exact ct) (λr G=>by have:=bM ct G;omega) λP Q=>bB _ _ ⟨?_,by rw[f]⟩;rw[f,di,aK,u6];exact low Q
end
def lb (A R:ak) (A9:Nat->ak) (aI:ak) (aq:Nat) (r:Nat):Prop:=A r\/R r\/(∃q,A9 q r)\/aI r\/r=aq
section
variable {P:ak} {gR w w':x3} {ad ag aq Q3 Q4 Q5:Nat} {A R aQ R':ak} {A9 cg:Nat->ak} {aI Eg:ak} {n:aR} {s s':av} {t bw:aB} {h h':List aB} {cs b5:List x1} {m ci:Nat}
variable {Z mP:ak}
end
def mQ (s:av) (j:Int):Bool:=match s.funs[j.toNat]? with
 |some f=>decide (f.sc.length=2)
 |none=>false
def ie (s:av) (i:Int):Λ:=(hP s i s.funs.length).filter (mQ s)
def hf (n:aR) (s:av) (i v j:Int):Int:=match s.funs[j.toNat]? with
 |some f=>match f.sc[(1-gv f.sc i).toNat]? with
  |some o=>match s.vars[o.toNat]? with
   |some x=>(cT n.k (aE x) (ic n s j.toNat (gv f.sc i) v o)).1
   |none=>0
  |none=>0
 |none=>0
def mR (n:aR) (s:av) (i v:Int):Int:=(ie s i).foldl (λc j=>min (c+hf n s i v j) n.k) (ez n s i v)
theorem tO {of:Int->Int} (hk:0<=k) (h:∀v∈l,0<=of v/\of v<=k):0<=(cT k l of).1/\(cT k l of).1<=k:=by
 unfold cT;have:∀ (l:Λ) (p:Int×Int),(0<=p.1/\p.1<=k)->(∀v∈l,0<=of v/\of v<=k)->0<=(l.foldl (fW of) p).1/\(l.foldl (fW of) p).1<=k:=λl=>by
  induction l with
  |nil=>exact λp a _=>a
  |cons v l f=>
   intro p a e;refine f _ ?_ λu hu=>e u (.tail _ hu);unfold fW;split
   .exact e v (.head _)
   .exact a
 exact this l (k,-1) ⟨hk,T2 _⟩ h
theorem q4 {n:aR} {s:av} {pos o u:Int} (a:bq n.k n.sizes s):0<=ic n s j pos v o u/\ic n s j pos v o u<=n.k:=by
 have h1:=DS (j:=j) (tl:=if pos=1 then[u,v] else[v,u]) a;have e:=pp (i:=o) (v:=u) a;have hk:=a.eh;unfold ic;omega
theorem PS {n:aR} {s:av} {i j:Int} (m:bq n.k n.sizes s) (h:j∈ie s i):0<=j/\ ∃f,s.funs[j.toNat]? =σ f/\f.live≠0/\i∈f.sc/\f.sc.length=2:=by
 unfold ie hP at h;obtain⟨h1,e⟩:=T6.1 h;obtain⟨q,a,rfl⟩:=n9.1 h1;obtain⟨_,a⟩:=T6.1 a;unfold jM at a;unfold mQ at e;rw[u6] at e;cases ae:s.funs[q]? with
 |none=>rw[ae] at a;cases a
 |some f=>
  rw[ae] at a e;simp only[V0,decide_eq_true_eq] at a e;exact⟨Ω,f,by rw[u6];exact ae,a.1,a.2,e⟩
section
variable {w:x3} {ad ag:Nat} {A R:ak} {n:aR} {s:av} {t:aB}
theorem EF {i:Int} (a:bq n.k n.sizes s) (m:Nat):0<=((ie s i).take m).foldl (λc j=>min (c+hf n s i v j) n.k) (ez n s i v)/\((ie s i).take m).foldl (λc j=>min (c+hf n s i v j) n.k) (ez n s i v)<=n.k:=by
 have hk:=a.eh;have e:∀j,0<=hf n s i v j/\hf n s i v j<=n.k:=λj=>by
  unfold hf;split
  .split
   .split
    .exact tO Ω λu _=>q4 a
    .omega
   .omega
  .omega
 have:∀ (l:Λ) (c:Int),(0<=c/\c<=n.k)->0<=l.foldl (λc j=>min (c+hf n s i v j) n.k) c/\l.foldl (λc j=>min (c+hf n s i v j) n.k) c<=n.k:=λl=>by
  induction l with
  |nil=>exact λc h=>h
  |cons j l f=>exact λc h=>f (min (c+hf n s i v j) n.k) (by have:=e j;omega)
 exact this _ _ (pp a)
theorem PT {i:Int} {g1 O P Q av C:Nat} {E:x1} {cap:Array x1} (h:bx w ad ag A R n s t) (aw:Laid w) (h1:af w g1 ox [.func (.func C) #[] cap]) (ax:∀l,po w C cap l (ez n s i)) (ay:af w O an [E]) (S:au .i64 ai w av E (ie s i))
  (G:af w P dy [Γ ad]) (aB:af w Q ai [Δ i]) (l:Λ):
  po w Gh #[Γ g1,Γ O,Γ P,Γ Q] l (mR n s i):=λw' v H ac=>by
 refine az func57 ?_;rw[aA (v:=.func (.func C) #[] cap) Ψ ((h1.ext H).Qz rfl)];refine am.mono (ax [v] w' v H (.head _)) ?_;rintro _ U _ ⟨rfl,W⟩;have I:=H.trans W;have J:=S.ext I;obtain⟨_,_,_,aL⟩:=dg J.ls;rw[aA (v:=E) Ψ ((ay.ext I).Qz rfl),aU an.u J.ls];have a:=h.2.2.2.1;refine bX.range (ie s i).length (λq a7 V=>Ext U V/\a7=Δ (((ie s i).take q).foldl (λc j=>min (c+hf n s i v j) n.k) (ez n s i v))) J.ls.le ⟨Ext.refl _,rfl⟩ ?_ ?_
 .rintro q _ V aC aD ⟨m,rfl⟩ aF;obtain⟨j,K⟩:=aH (l:=(ie s i)) aD;obtain⟨aO,f,ae,aP,aG,aI⟩:=PS a (x5 K);have L:=(a.funs f (x5 ae)).1;have X:gI f.sc:=wh L.up;obtain⟨p,Y⟩:=X1.1 aG;have aQ:=(x4.1 Y).1;have Z:=wb X Y;obtain⟨o,z⟩:=aH (l:=f.sc) (i:=(1-(p:Int)).toNat) Ω;have aR:=a.vars;have aS:=L.vars o (x5 z);have aT:=(L.scope.1 o (x5 z)).1;obtain⟨y,aa⟩:=aH (l:=s.vars) (i:=o.toNat) Ω;have ab:=I.trans m;refine bE Ω ?_;rw[be an.u ai.i Ψ (S.ext ab).ls K];intro aV ah _ _;have e:=ab.trans ah;rw[aA (v:=Γ ad) Ψ ((G.ext e).Qz rfl),aA (v:=Γ ad) Ψ ((G.ext e).Qz rfl),aA (v:=Δ i) Ψ ((aB.ext e).Qz rfl)];have aj:=lX (h.ext e) ae;rw[show ((j.toNat:Nat):Int)=j by omega] at aj;refine aj.mono ?_;rintro r aW _ ⟨B,aX,_,aJ⟩;refine⟨.inl B,?_⟩;refine (sR (x:=i) aJ.ls X).mono ?_;rintro _ aY _ ⟨rfl,M⟩;refine⟨.inl (B.trans M),?_⟩;rw[Z];have N:=(e.trans B).trans M;have ak:=Ed (v:=v) (pos:=(p:Int)) (h.ext N) (aw.ext N) ae ⟨Ω,Ω⟩ aI z aa;rw[show ((j.toNat:Nat):Int)=j by omega] at ak;refine ak.mono ?_;rintro _ aZ _ ⟨ao,rfl⟩;have ap:=N.trans ao;have aq:hf n s i v j=(cT n.k (aE y) (ic n s j.toNat (p:Int) v o)).1:=by
   unfold hf;rw[ae];simp only;rw[Z,z];simp only;rw[aa]
  rw[bi,bj,aA (v:=Γ ad) Ψ ((G.ext ap).Qz rfl),<-aq];refine (wX (h.ext ap) (EF a q) (by rw[aq];exact tO (by have:=a.eh;omega) λu _=>q4 a)).mono ?_;rintro _ a1 _ ⟨rfl,aK⟩;rw[aM];refine aF _ _ ⟨((((m.trans ah).trans B).trans M).trans ao).trans aK,?_⟩;rw[u9,K,l7,U9];rfl
 .rintro _ V aC ⟨m,rfl⟩;rw[aN,al];refine⟨λh=>Ω,λ_=>⟨?_,W.trans m⟩⟩;rw[o5];rfl
theorem PU {i:Int} (h:bx w ad ag A R n s t) (aa:Laid w):am x7 y1 [Γ ad,Δ i] w λr w'=>Ext w w'/\(eM n s i=false->r= .tuple #[Δ 0,Δ (-1),Δ 1])/\
  ∀x,eM n s i=true->s.vars[i.toNat]? =σ x->r= .tuple #[Δ (cT n.k (aE x) (mR n s i)).1,Δ (cT n.k (aE x) (mR n s i)).2,Δ 0]:=by
 refine az func16 ?_;refine bo λaH U bg aI y=>?_;refine bo λaJ V bh aj z=>?_;have y:af V aH dy [Γ ad]:=y.ext aj;have z:af V aJ ai [Δ i]:=z;have P:=aI.trans aj;rw[aA (v:=Γ ad) Ψ (y.Qz rfl),aA (v:=Δ i) Ψ (z.Qz rfl)];refine (DP (h.ext P)).mono ?_;rintro _ aK _ ⟨rfl,B⟩;have Q:=P.trans B;cases ac:eM n s i with
 |false=>
  rw[if_neg Φ,bz,al];exact⟨λ_=>⟨Q,λ_=>rfl,λ_ h=>by cases h⟩,λh=>absurd Φ h⟩
 |true=>
  obtain⟨aL,x,ak,_⟩:=qU h.2.2.2.1 ac;rw[if_pos rfl,bz,al];refine⟨λh=>absurd rfl h,λ_=>?_⟩;rw[aA (v:=Γ ad) Ψ ((y.ext B).Qz rfl),aA (v:=Δ i) Ψ ((z.ext B).Qz rfl)];refine (OZ (i:=i) (h.ext Q)).mono ?_;rintro ao S _ ⟨J,bk,aM,ap⟩;have aq:=Q.trans J;rw[iR];have au:=(y.ext B).ext J;have aN:=(z.ext B).ext J;have bl:=P.size;have z3:=B.size;have z4:=J.size;have aO:(hP s i s.funs.length).length<=100000000:=by
   have h1:=(h.ext aq).2.2.1.1;have W:=qI s;have bm:t.cells.length=s.cells.length:=by have:=congrArg S7 h.2.1;unfold aB.bP at this;rw[u7] at this;exact this
   have aP:∀ (L:List cz),L.length<=(L.flatMap fi).length:=λL=>by
    induction L with
    |nil=>exact p8 _
    |cons a L bn=>rw[X5,p9,c7];have:(fi a).length=a.cs.length+1:=rfl;omega
   have bp:=aP s.funs;unfold hP;rw[u7];have:=List.length_filter_le (jM s i) (Z8 s.funs.length);rw[List.length_range] at this;omega
  have low:∀ {E:x3},ah (λr=>leads ao r) S E->Ext w E:=λC=>aq.then C λr bq he=>by have:=ap r he;omega
  have X:∀ {E:x3} {g:Nat} {e:r8} {cs:List x1},g<aK.heap.size->af S g e cs->ah (λr=>leads ao r) S E->af E g e cs:=λbr aQ C=>aQ.ab C λhe=>by have:=ap _ he;omega
  have bu:=y.lt;have bw:=z.lt;refine (Ee (p:=λj=>!mQ s j) aM aO λw' j C K=>?_).mono ?_
  .have K:0<=j/\ ∃f,s.funs[j.toNat]? =σ f:=by
    unfold hP at K;obtain⟨q,G,rfl⟩:=n9.1 K;obtain⟨G,_⟩:=T6.1 G;have G:=List.mem_range.1 G;exact⟨Ω,_,x6 (by rw[u6];exact G)⟩
   obtain⟨bA,f,ae⟩:=K;refine az func56 ?_;have aR:=low C;rw[aA (v:=Γ ad) Ψ ((X Ω au C).Qz rfl)];have av:=lX (h.ext aR) ae;rw[show ((j.toNat:Nat):Int)=j by omega] at av;refine av.mono ?_;rintro r aw _ ⟨aS,bB,_,H⟩;rw[aU an.u H.ls,bz];refine⟨?_,aS⟩;unfold mQ;rw[ae];simp only;congr 1;by_cases W:f.sc.length=2
   .rw[decide_eq_true W,decide_eq_false Ω];rfl
   .rw[decide_eq_false W,decide_eq_true Ω];rfl
  rintro aT aw _ ⟨M,H,_⟩;have aV:(hP s i s.funs.length).filter (λj=>!!mQ s j)=ie s i:=by unfold ie;congr 1;funext j;rw[Bool.not_not]
  rw[aV] at H;have aW:=low M;have aX:=X Ω au M;have aY:=X Ω aN M;refine bG an.i λbC bD bE ax aZ=>?_;obtain⟨_,_,_,ay⟩:=dg H.ls;have z5:=M.size;have bF:=ax.size;refine bt (v:=aT) an.i (by rw[ay];rfl) (by rw[ay];rfl) aZ Φ λa1 a2 bH a6=>?_;have N:Ext aw a1:=ax.put a2 Ω;have aC:=aW.trans N;have Y:=aX.ext N;have Z:=aY.ext N;rw[aA (v:=Γ ad) Ψ (Y.Qz rfl),aA (v:=Δ i) Ψ (Z.Qz rfl)];refine (DU (i:=i) (h.ext aC)).mono ?_;rintro _ a7 _ ⟨aD,cap,rfl,a8⟩;refine bG ox.i λgo bI bJ ba bb=>?_;have bK:=aD.size;refine bt (v:=.func (.func rK) #[] cap) ox.i rfl rfl bb Φ λaF bc bL bd=>?_;have aG:Ext a7 aF:=ba.put bc Ω;have m:=aD.trans aG;have I:=aC.trans m;rw[aA (v:=Γ ad) Ψ ((Y.ext m).Qz rfl),aA (v:=Δ i) Ψ ((Z.ext m).Qz rfl),iR];have be:∀l,po aF rK cap l (ez n s i):=λl w' v O ac=>a8 l w' v (aG.trans O) ac;refine (wY (h.ext I) (aa.ext I) aL ak (PT (h.ext I) (aa.ext I) bd be (a6.ext m) (H.ext (N.trans m)) (Y.ext m) (Z.ext m) _)).mono ?_;rintro _ bM _ ⟨bf,rfl⟩;rw[bi,bj];exact⟨I.trans bf,(λh=>by cases h),λbN _ O=>by rw[ak] at O;cases O;rfl⟩
end
def gb (n:aR) (s:av) (i:Int):Int×Int:=cT n.k (cq s i) (ez n s i)
def n7 (n:aR) (s:av) (i:Int):Int×Int:=cT n.k (cq s i) (mR n s i)
section
variable {k:Int} {n:aR} {s:av}
end
theorem xm {of:Int->Int} {c:Int}:∀ (l:Λ) (b w:Int),w≠ -1->(∀v∈l,v≠ -1)->(c<=(l.foldl (fW of) (b,w)).1↔c<=b/\ ∀v∈l,c<=of v)
 |[],b,w,_,_=>Ξ
 |v::l,b,w,hw,e=>by
  rw[U7,List.forall_mem_cons];have ac:=e v (.head _);have f:=λu hu=>e u (.tail _ hu);unfold fW;by_cases h:of v<b
  .rw[if_pos (.inr h)];show c<=(l.foldl (fW of) (of v,v)).1↔_;rw[xm l _ _ ac f];exact⟨λ⟨h1,a⟩=>⟨Ω,h1,a⟩,λ⟨_,h1,a⟩=>⟨h1,a⟩⟩
  .rw[if_neg (by rintro (h1|h1)<;>contradiction)];show c<=(l.foldl (fW of) (b,w)).1↔_;rw[xm l _ _ hw f];exact⟨λ⟨h1,a⟩=>⟨h1,Ω,a⟩,λ⟨h1,_,a⟩=>⟨h1,a⟩⟩
theorem xn {of:Int->Int} (h:∀v∈l,v≠ -1/\of v<=k):c<=(cT k l of).1↔c<=k/\ ∀v∈l,c<=of v:=by
 cases l with
 |nil=>simp[cT]
 |cons v l=>
  have ac:=h v (.head _);have e:cT k (v::l) of=l.foldl (fW of) (of v,v):=by
   unfold cT;rw[U7];congr 1
  rw[e,xm l _ _ ac.1 λu hu=>(h u (.tail _ hu)).1,List.forall_mem_cons];exact⟨λ⟨h1,a⟩=>⟨Ω,h1,a⟩,λ⟨_,h1,a⟩=>⟨h1,a⟩⟩
theorem xo {m:Λ} {f g:Int->Int} (h:∀v∈l,v≠ -1/\f v<=k) (h':∀v∈m,v≠ -1/\g v<=k) (J:∀v∈m,v∈l) (a:∀v∈m,f v<=g v):(cT k l f).1<=(cT k m g).1:=by
 have h1:=(xn (c:=(cT k l f).1) h).1 (T2 _);exact (xn h').2 ⟨h1.1,λv ac=>by have:=h1.2 v (J v ac);have:=a v ac;omega⟩
section
variable {n:aR} {s:av}
theorem tP {i:Int} (a:bq n.k n.sizes s):∀v∈cq s i,v≠ -1/\ez n s i v<=n.k:=λv ac=>by
 refine⟨?_,(pp a).2⟩;unfold cq at ac;split at ac
 .have:=DQ ac;omega
 .cases ac
def pw (n:aR) (s:av):Int:=(Z8 n.sizes.length).foldl (λall (i:Nat)=>if eM n s (i:Int)=true then min (all+(gb n s i).1) n.k else all) s.zero
def jQ (n:aR) (s:av) (i:Nat):Int:=if eM n s (i:Int)=true then (gb n s i).1 else 0
theorem tQ {i:Int} (a:bq n.k n.sizes s):0<=(gb n s i).1/\(gb n s i).1<=n.k:=by
 have hk:=a.eh;exact tO Ω λv _=>pp a
theorem xp (e:bq n.k n.sizes s):pw n s=min (s.zero+((Z8 n.sizes.length).map (jQ n s)).sum) n.k:=by
 unfold pw;rw[foldl_map' (jQ n s) (λx c=>min (x+c) n.k) _ (λc=>c<=n.k) (λc i a=>?_) (λc i a=>?_) _ _ e.zero.2]
 .refine tv _ _ e.zero.2 λc a=>?_;obtain⟨i,_,rfl⟩:=n9.1 a;unfold jQ;split
  .exact (tQ e).1
  .omega
 .unfold jQ;split
  .rfl
  .omega
 .split
  .omega
  .exact a
theorem xq:∀ {l m:Λ},l.length=m.length->(∀ (i:Nat) x y,l[i]? =σ x->m[i]? =σ y->x<=y)->l.sum<=m.sum
 |[],[],_,_=>Ξ
 |[],_::_,h,_=>by simp at h
 |_::_,[],h,_=>by simp at h
 |a::l,b::m,h,hi=>by
  have f:=hi 0 a b rfl rfl;have:=xq (l:=l) (m:=m) (by simpa using h) λi x y I e=>hi (i+1) x y (by simpa using I) (by simpa using e);rw[List.sum_cons,List.sum_cons];omega
theorem PV {a:Λ} (f:bq n.k n.sizes s) (r:h6 s a):pw n s<=fj n.k s a:=by
 rw[mH f,xp f];split
 .rename_i G;have L:=f.vars;have M:=r.1;have h1:((Z8 n.sizes.length).map (jQ n s)).sum<=((s.vars.zip a).map dd).sum:=by
   refine xq Θ λi c d m h=>?_;rw[x8] at m h;cases j:(s.vars.zip a)[i]? with
   |none=>rw[j] at h;cases h
   |some p=>
    rw[j] at h;have h:dd p=d:=j6 h;have w:i<n.sizes.length:=by
     have:=(x4.1 j).1;rw[List.length_zip] at this;omega
    rw[List.getElem?_range w] at m;have m:jQ n s i=c:=j6 m;rw[<-m,<-h];obtain⟨x,ba⟩:=p;obtain⟨I,A⟩:=S1.1 j;simp only at I A;unfold jQ;split
    .rename_i ac;obtain⟨_,y,B,C⟩:=qU f ac;rw[u6,I] at B;cases B;have E:=(r.2 i x ba I A).resolve_left Ω;have F:=List.all_eq_true.1 G (x,ba) (x5 j);have H:ba∈aE x:=by
      rw[fX];refine⟨E,?_⟩;unfold eJ at F;simpa[C] using F
     have J:cq s i=aE x:=by unfold cq;rw[u6,I]
     have h1:=((xn (c:=(gb n s i).1) (tP (i:=(i:Int)) f)).1 (T2 _)).2 ba (by rw[J];exact H);have e:ez n s i ba=x.un.getD ba.toNat 0:=by
      obtain⟨z,q⟩:=aH (l:=n.sizes) w;have N:=(f.var i x z I q).1;have O:=f.fk.2.2 z (x5 q);have hu:eL n i ba:=⟨Ω,Ω,E.1,by rw[u6,v8,q,V1];omega⟩;unfold ez;rw[if_pos hu,u6];unfold gM;rw[I]
     have K:dd (x,ba)=x.un.getD ba.toNat 0:=by unfold dd;rw[if_neg (by simp[C])]
     rw[K,<-e];exact h1
    .exact (D1 f j).1
  have P:=pq _ (pr (a:=a) f);omega
 .omega
theorem xr {w:Nat} {x:br} {i u:Int} (a:bq n.k n.sizes s) (I:s.vars[w]? =σ x) (ac:0<=v):u∈cq (cd s w v.toNat) i↔u∈cq s i/\(i.toNat=w->u≠v):=by
 have f:=(x4.1 I).1;have m:=a.vars;have h1:=a.var w x _ I (x6 Ω);have hm:((x.mask.toNat:Nat):Int)=x.mask:=Ω
 unfold cq;rw[gN I];simp only[Y3];by_cases e:w=i.toNat
 .subst e;rw[if_pos rfl,if_pos f,I];simp only;rw[fX,fX];by_cases hu:0<=u
  .simp only;rw[D9 ac hu,hm,T4];simp[and_assoc]
  .exact⟨λh=>Ω,λh=>Ω⟩
 .rw[if_neg e];exact⟨λh=>⟨h,λj=>absurd j.symm e⟩,λh=>h.1⟩
theorem tR {w:Nat} {i u:Int} {x:br} (I:s.vars[w]? =σ x):ez n (cd s w v.toNat) i u=ez n s i u:=by
 unfold ez gM;rw[gN I];simp only[Y3];by_cases e:w=i.toNat
 .subst e;rw[if_pos rfl,if_pos (x4.1 I).1,I]
 .rw[if_neg e]
theorem EG {w:Nat} {i:Int} {x:br} (I:s.vars[w]? =σ x):eM n (cd s w v.toNat) i=eM n s i:=by
 unfold eM iG;rw[gN I];simp only[Y3];by_cases e:w=i.toNat
 .subst e;rw[if_pos rfl,if_pos (x4.1 I).1,I]
 .rw[if_neg e]
theorem PW {w:Nat} {t:Λ} {x:br} (I:s.vars[w]? =σ x):lW (cd s w v.toNat) j t=lW s j t:=by
 have e:(cd s w v.toNat).funs=s.funs:=by rw[gN I]
 have h:((cd s w v.toNat).vars.flatMap fV).length=(s.vars.flatMap fV).length:=by
  rw[gN I];have:=s8 (f:=fV) (L:=s.vars) (i:=w) (j:=1) (a:=x) (b:={x with mask:=((x.mask.toNat ||| 2 ^ v.toNat:Nat):Int)}) (x:=((x.mask.toNat ||| 2 ^ v.toNat:Nat):Int)) I (by simp[fV]) rfl;rw[<-this,Z2]
 unfold lW;have m:fK (cd s w v.toNat) j t=fK s j t:=by
  unfold fK;rw[e];cases s.funs[j]? with
  |none=>rfl
  |some f=>simp only;unfold eI;rw[e,h]
 have p:hb (cd s w v.toNat) j t=hb s j t:=by unfold hb;rw[e]
 rw[m,p]
theorem EH {w:Nat} {i:Int} {x:br} (a:bq n.k n.sizes s) (I:s.vars[w]? =σ x) (ac:0<=v/\v<x.un.length):(gb n s i).1<=(gb n (cd s w v.toNat) i).1:=by
 refine xo (tP a) (tP (nZ a I ac)) (λu hu=>((xr a I ac.1).1 hu).1) λu _=>?_;rw[tR I];exact T2 _
theorem PX {w:Nat} {i:Int} {x:br} (I:s.vars[w]? =σ x) (hi:i.toNat≠w):gb n (cd s w v.toNat) i=gb n s i:=by
 have e:cq (cd s w v.toNat) i=cq s i:=by
  unfold cq;rw[gN I];simp only[Y3];rw[if_neg (λh=>hi h.symm)]
 have a:ez n (cd s w v.toNat) i=ez n s i:=by funext u;exact tR I
 unfold gb;rw[e,a]
theorem PY {w:Nat} {x:br} (f:bq n.k n.sizes s) (I:s.vars[w]? =σ x) (ac:0<=v/\v<x.un.length):pw n s<=pw n (cd s w v.toNat):=by
 rw[xp f,xp (nZ f I ac)];have h1:((Z8 n.sizes.length).map (jQ n s)).sum<=((Z8 n.sizes.length).map (jQ n (cd s w v.toNat))).sum:=by
  refine xq Ξ λi c d a e=>?_;rw[x8] at a e;cases h:(Z8 n.sizes.length)[i]? with
  |none=>rw[h] at a;cases a
  |some q=>
   rw[h] at a e;have a:jQ n s q=c:=j6 a;have e:jQ n (cd s w v.toNat) q=d:=j6 e;rw[<-a,<-e];unfold jQ;rw[EG I];split
   .exact EH f I ac
   .exact T2 _
 have j:(cd s w v.toNat).zero=s.zero:=by rw[gN I]
 rw[j];omega
end
structure eN (s s':av):Prop where
 vars:s'.vars.length=s.vars.length
 var:∀ (i:Nat) x y,s.vars[i]? =σ x->s'.vars[i]? =σ y->y.gone=x.gone/\y.un.length=x.un.length
 funs:s'.funs.length=s.funs.length
 fn:∀ (j:Nat) f g,s.funs[j]? =σ f->s'.funs[j]? =σ g->g.sc=f.sc/\g.aj=f.aj/\g.live=f.live/\g.cs.length=f.cs.length
 gW:s'.gW=s.gW
theorem eN.rfl {s:av}:eN s s:=⟨Eq.refl _,λ_ _ _ h1 a=>by rw[h1] at a;cases a;exact⟨Eq.refl _,Eq.refl _⟩,Eq.refl _,λ_ _ _ h1 a=>by rw[h1] at a;cases a;exact⟨Eq.refl _,Eq.refl _,Eq.refl _,Eq.refl _⟩,Eq.refl _⟩
theorem eN.trans {a b c:av} (h:eN a b) (k:eN b c):eN a c:=by
 refine⟨k.vars.trans h.vars,λi x z I r=>?_,k.funs.trans h.funs,λj f q ae s=>?_,k.gW.trans h.gW⟩
 .have w:=(x4.1 I).1;have ac:=h.vars;obtain⟨y,m⟩:=aH (l:=b.vars) (i:=i) Ω;have h1:=h.var i x y I m;have e:=k.var i y z m r;exact⟨e.1.trans h1.1,e.2.trans h1.2⟩
 .have w:=(x4.1 ae).1;have ac:=h.funs;obtain⟨g,p⟩:=aH (l:=b.funs) (i:=j) Ω;have h1:=h.fn j f g ae p;have e:=k.fn j g q p s;exact⟨e.1.trans h1.1,e.2.1.trans h1.2.1,e.2.2.1.trans h1.2.2.1,e.2.2.2.trans h1.2.2.2⟩
section
variable {k:Int} {sizes:Λ} {s:av}
theorem xt {i:Nat} {x y:br} (I:s.vars[i]? =σ x) (q:y.gone=x.gone) (r:y.un.length=x.un.length):eN s {s with vars:=s.vars.set i y}:=by
 refine⟨Z2,λj a b p h=>?_,rfl,λj f g h1 m=>?_,rfl⟩
 .have h:(s.vars.set i y)[j]? =σ b:=h;by_cases e:i=j
  .subst e;rw[c9 (x4.1 I).1] at h;rw[I] at p;cases p;cases h;exact⟨q,r⟩
  .rw[Y2 e,p] at h;cases h;exact⟨rfl,rfl⟩
 .have m:s.funs[j]? =σ g:=m;rw[h1] at m;cases m;exact⟨rfl,rfl,rfl,rfl⟩
theorem PZ {f g:cz} (ae:s.funs[j]? =σ f) (h:g.sc=f.sc/\g.aj=f.aj/\g.live=f.live/\g.cs.length=f.cs.length):eN s {s with funs:=s.funs.set j g}:=by
 refine⟨rfl,λi a b p m=>?_,Z2,λq a b p m=>?_,rfl⟩
 .have m:s.vars[i]? =σ b:=m;rw[p] at m;cases m;exact⟨rfl,rfl⟩
 .have m:(s.funs.set j g)[q]? =σ b:=m;by_cases e:j=q
  .subst e;rw[c9 (x4.1 ae).1] at m;rw[ae] at p;cases p;cases m;exact h
  .rw[Y2 e,p] at m;cases m;exact⟨rfl,rfl,rfl,rfl⟩
theorem P0:eN s {s with zero:=c}:=⟨rfl,λ_ _ _ h1 a=>by have a:s.vars[_]? =σ _:=a;rw[h1] at a;cases a;exact⟨rfl,rfl⟩,rfl,λ_ _ _ h1 a=>by have a:s.funs[_]? =σ _:=a;rw[h1] at a;cases a;exact⟨rfl,rfl,rfl,rfl⟩,rfl⟩
theorem xu {i:Nat}:eN s (cd s i v.toNat):=by
 cases I:s.vars[i]? with
 |none=>unfold cd;rw[I];exact .rfl
 |some x=>rw[gN I];exact xt I rfl rfl
theorem xv {i:Nat} {v:Int}:∀ (L:Λ) (s:av),eN s (fY s i v L)
 |[],_=>.rfl
 |w::L,s=>by
  unfold fY;split
  .exact xu.trans (xv L _)
  .exact xv L s
theorem EI {u:Nat} {x:br} {g z:Int->Int} (I:s.vars[u]? =σ x):eN s (kt s u x g z):=
 (xt (y:={x with un:=dZ g x.un (aE x)}) I rfl (tB _ _)).trans P0
theorem EJ {pos u:Nat} {f:cz} {x:br} {t un:Int->Int} (a:bq k sizes s) (ae:s.funs[j]? =σ f) (I:s.vars[u]? =σ x):eN s (iH s j f pos u x v t un):=by
 obtain⟨_,e⟩:=k7 a (x5 ae);have h1:eN s (dI s j f (dx t (ce s f.sc pos v) f.aj f.cs)):=PZ ae ⟨rfl,rfl,rfl,nX _ _ _ _ Ω⟩;exact h1.trans (xt (s:=dI s j f (dx t (ce s f.sc pos v) f.aj f.cs)) (y:={x with un:=x.un.set v.toNat (un (x.un.getD v.toNat 0))}) I rfl Z2)
theorem P1 {m:hy} (j:bq k sizes s):eN s (cA k s m).1:=by
 by_cases he:(cA k s m).2=0
 .generalize a:cA k s m=r at he ⊢;unfold cA at a;split at a
  .split at a
   .subst a;exact .rfl
   .rename_i f u x e;obtain⟨_,_,ae,_,_,ac⟩:=mK e;obtain⟨_,I,_,_⟩:=ku ac;split at a
    .subst a;exact .rfl
    .subst a;simp only;exact EJ j ae I
  split at a
  .split at a
   .subst a;exact .rfl
   .rename_i f u x e;obtain⟨_,_,ae,_,_,ac⟩:=mK e;obtain⟨_,I,_,_⟩:=ku ac;split at a
    .subst a;exact .rfl
    .subst a;simp only;exact EJ j ae I
  have key:∀ {x:br},(if 0<=m.i then s.vars[m.i.toNat]? else ν)=σ x->s.vars[m.i.toNat]? =σ x:=λh=>by
   split at h
   .exact h
   .cases h
  split at a
  .split at a
   .subst a;exact .rfl
   .rename_i x e;split at a
    .subst a;exact .rfl
    .split at a
     .subst a;exact .rfl
     .subst a;simp only;exact EI (key e)
  split at a
  .split at a
   .subst a;exact .rfl
   .rename_i x e;generalize (if aE x=[] then-1 else s.zero)=p at a;split at a
    .subst a;exact .rfl
    .split at a
     .subst a;exact .rfl
     .subst a;simp only;exact EI (key e)
  split at a
  .split at a
   .subst a;exact .rfl
   .split at a
    .subst a;exact .rfl
    .subst a;exact xu
  .split at a
   .subst a;exact .rfl
   .subst a;exact xv _ _
 .rw[O5 he];exact .rfl
end
theorem P2 (h:Laid w):0<w.heap.size:=by
 rcases Q0 w.heap.size with e|e
 .have a:=h 0 _ rfl;unfold x3.cell? at a;rw[Array.getElem?_eq_none Ω] at a;cases a
 .exact e
def fM (Z aI:ak) (w:x3) (ad ag aq:Nat) (n:aR) (s:av):Prop:=∃A R A9 t cs,cr w ad ag aq A R A9 aI n s s t [] cs/\(Laid w/\¬Z 0)/\(dl s/\eN (cS n) s/\n.funs.length<=256)/\(∀r,Z r↔lb A R A9 aI aq r)/\ ∀q r,A9 q r->r<w.heap.size
section
variable {Z aI S:ak} {w w' U:x3} {ad ag aq:Nat} {A R:ak} {A9:Nat->ak} {n:aR} {s u:av} {t:aB} {cs:List x1}
theorem fM.ext (h:fM Z aI w ad ag aq n s) (I:Ext w w'):fM Z aI w' ad ag aq n s:=by
 obtain⟨A,R,A9,t,cs,p,⟨a,e⟩,f,j,m⟩:=h;exact⟨A,R,A9,t,cs,p.ext I,⟨a.ext I,e⟩,f,j,λq r x=>by have:=m q r x;have:=I.size;omega⟩
theorem fM.lt (h:fM Z aI w ad ag aq n s):∀r,Z r->r<w.heap.size:=by
 obtain⟨A,R,A9,t,cs,p,_,_,e,f⟩:=h;intro r a;rcases (e r).1 a with a|a|⟨q,a⟩|a|a
 .exact qX p.ey r (.inl a)
 .exact qX p.ey r (.inr a)
 .exact f q r a
 .exact (p.read r a).2.1
 .subst a;exact p.box.lt
theorem fM.ok (h:fM Z aI w ad ag aq n s):bq n.k n.sizes s/\dl s/\eN (cS n) s/\n.funs.length<=256:=by
 obtain⟨A,R,A9,t,cs,p,_,a,_⟩:=h;exact⟨p.ey.2.2.2.1,a⟩
theorem fM.look (h:fM Z aI w ad ag aq n s):mI w aq n.k n.sizes s:=by
 obtain⟨A,R,A9,t,cs,p,_⟩:=h;exact p.look
theorem fM.ey (h:fM Z aI w ad ag aq n s):∃A R t,bx w ad ag A R n s t/\Laid w/\¬A 0/\ee t []:=by
 obtain⟨A,R,A9,t,cs,p,a,_,e,_⟩:=h;exact⟨A,R,t,p.ey,a.1,λh=>a.2 ((e 0).2 (.inl h)),p.hN⟩
theorem fM.step {U:x3} (p:cr w ad ag aq A R A9 aI n s u t [] cs) (f:∀r,Z r↔lb A R A9 aI aq r) {u':av} (C:dl u'/\eN (cS n) u'/\n.funs.length<=256) (E:¬Z 0)
  (F:dp w ad ag aq A R A9 aI n s t [] u' U) (I:Ext U w') (hm:eB w' ad ag A R n u' V):ah (λr=>Z r/\¬aI r) w V/\ ∃mP,(∀r,mP r->Z r\/w.heap.size<=r)/\fM mP aI V ad ag aq n u':=by
 obtain⟨y,cg,b5,G,H⟩:=F;obtain⟨j,J,aQ,bw,m,K,L,Q⟩:=hm;have S:=y.size;have W:=I.size;have z3:=j.size;have x:=G.ext I;have M:=x.prog j m K L (λ_ h=>.inl h) (λ_ _ _ h=>h) x.box.lt;have N:=p.Em;have O:ah (λr=>Z r/\¬aI r) w V:=(((y.mono (T:=λr=>Z r/\¬aI r) λr _ h=>⟨(f r).2 (h.elim (λh=>.inr (.inr (.inl h))) λh=>.inr (.inr (.inr (.inr h)))),h.elim (λ⟨q,h⟩=>N q r h) λh h'=>(p.read r h').2.2 h⟩)).trans (I.ab _)).trans
  ((w6 m.1 j).mono λr _ h=>⟨(f r).2 (.inl h.1),λh'=>(x.read r h').1 h.2⟩)
 have X:=p.box.lt;have e:∀ {r:Nat} {z:Prop},(z->lb A R A9 aI aq r)->z->Z r\/w.heap.size<=r:=λP h=>.inl ((f _).2 (P h));have B:∀r,lb aQ R (λq r=>cg q r/\r<w'.heap.size) aI aq r->Z r\/w.heap.size<=r:=by
  intro r a;rcases a with a|a|⟨q,a,_⟩|a|a
  .exact (m.2.1 r a).elim (e .inl) λh=>.inr Ω
  .exact e (λh=>.inr (.inl h)) a
  .exact (H q r a).elim (e λh=>.inr (.inr (.inl h))) .inr
  .exact e (λh=>.inr (.inr (.inr (.inl h)))) a
  .exact e (λh=>.inr (.inr (.inr (.inr h)))) a
 exact⟨O,λr=>lb aQ R (λq r=>cg q r/\r<w'.heap.size) aI aq r,B,aQ,R,_,bw,b5,M,⟨J,λh=>(B 0 h).elim E λh=>Ω⟩,C,λr=>Iff.rfl,λq r a=>by have:=a.2;omega⟩
theorem P3 (h:dl s/\eN (cS n) s/\n.funs.length<=256) (a:bq n.k n.sizes s) (m:hy):dl (cA n.k s m).1/\eN (cS n) (cA n.k s m).1/\n.funs.length<=256:=
 ⟨(O3 a h.1).2.1,h.2.1.trans (P1 a),h.2.2⟩
theorem P4 {m:hy} (p:cr w ad ag aq A R A9 aI n s u t [] cs) (a:bq n.k n.sizes u) (e:dl u) (hk:m.kind<=5):am x7 uJ [Γ aq,Δ (m.kind:Int),Δ m.i,Δ m.pos,Δ m.v,Δ m.c] w λr w'=>r=Δ (cA n.k u m).2/\dp w ad ag aq A R A9 aI n s t [] (cA n.k u m).1 w':=by
 by_cases h:m.kind<2
 .exact PG p a e h
 .exact PR p a ⟨Ω,hk⟩
theorem P5 {B:Nat} {e:x3} {aq:Nat} {j:x1} {cs:List x1} {f:bZ} (s:tt B V j cs f) (I:Ext V e) (w:af e aq bc cs) (x:V.heap.size<=aq) (J:B<=V.heap.size) (K:0<B) (y:Laid e):
  ∃ad ag Z aI,j=Γ ad/\fM Z aI e ad ag aq (cP f) (cS (cP f))/\ ∀r,Z r->B<=r:=by
 obtain⟨ad,ag,A,R,A9,aI,t,rfl,p,_,z,C,_,_,E,_,F,G⟩:=Pb s I w x;have H:=p.olds;have m:∀r,lb A R (λq r=>A9 q r/\r<e.heap.size) aI aq r->B<=r:=by
  intro r a;rcases a with a|a|⟨q,a,_⟩|a|a
  .exact z r a
  .exact G r a
  .exact C q r a
  .exact F r a
  .omega
 exact⟨ad,ag,_,aI,rfl,⟨A,R,_,t,cs,H,⟨y,λh=>by have:=m 0 h;omega⟩,⟨Pa _,eN.rfl,E⟩,λr=>Iff.rfl,λq r a=>a.2⟩,m⟩
end
def tS (sizes a:Λ):Prop:=a.length=sizes.length/\ ∀ (q:Nat) z b,sizes[q]? =σ z->a[q]? =σ b->0<=b/\b<z
def P6 (sizes:Λ) (L:List (Λ)):Prop:=L.length<=90/\ ∀a∈L,tS sizes a
def kw (sizes:Λ) (k:Nat):Λ:=(Z8 sizes.length).map λi:Nat=>((k:Int)*(2*(i:Int)+1)+(k:Int) / 3) % sizes.getD i 0
theorem q5 (sizes:Λ) (k:Nat):(kw sizes k).length=sizes.length:=by simp[kw]
theorem EK {k i:Nat} {z:Int} (h:sizes[i]? =σ z):(kw sizes k)[i]? =σ (((k:Int)*(2*(i:Int)+1)+(k:Int) / 3) % z):=by
 unfold kw;rw[x8,List.getElem?_range (x4.1 h).1,Z3,v8,h];rfl
theorem P7 (k:Nat) (h:∀z∈sizes,1<=z/\z<=32):tS sizes (kw sizes k):=by
 refine⟨q5 _ _,λq z b a e=>?_⟩;rw[EK a] at e;cases e;have:=h z (x5 a);exact⟨Int.emod_nonneg _ Ω,Int.emod_lt_of_pos _ Ω⟩
theorem P8 {a:Λ} (h:a∈bk sizes):tS sizes a:=by
 rw[tu] at h;obtain⟨h1,e⟩:=qQ.1 h;rw[u7] at h1;refine⟨h1,λq z b f j=>?_⟩;exact qR.1 (e q (hc z) b (by rw[x8,f];rfl) j)
theorem P9 {a:Λ} {s:av} (e:bq k sizes s) (h:tS sizes a):h6 s a:=by
 have j:=e.vars;refine⟨by rw[h.1,j],λi x v I ac=>.inr ?_⟩;obtain⟨z,f⟩:=aH (l:=sizes) (i:=i) (by have:=(x4.1 I).1;omega);have h1:=(e.var i x z I f).1;have m:=h.2 i z v f ac;omega
theorem Qa {m:Nat} (h:m<=11):(32:Int) ^ m<=36028797018963968:=by
 match m,h with
 |0,_=>decide
 |1,_=>decide
 |2,_=>decide
 |3,_=>decide
 |4,_=>decide
 |5,_=>decide
 |6,_=>decide
 |7,_=>decide
 |8,_=>decide
 |9,_=>decide
 |10,_=>decide
 |11,_=>decide
theorem Qb {sv:x1} (h:aF .i64 w sv l) (J:∀x∈l,1<=x/\x<=32):
  am x7 Gq [sv] w λv w'=>(∃c:Int,v=Δ c/\(l.length<=11->c=aK l))/\Ext w w':=by
 refine az func68 ?_;rw[aU an.u h];refine bX.range l.length (λi n U=>Ext w U/\ ∃c:Int,n=Δ c/\(i<=11->c=aK (l.take i))) h.le ⟨Ext.refl _,1,rfl,λ_=>rfl⟩ ?_ ?_
 .rintro i _ U k hi ⟨I,c,rfl,a⟩ hk;obtain⟨x,e⟩:=aH (l:=l) hi;refine bE Ω ?_;rw[be an.u ai.i Ψ (h.ext I) e,gE,aM];refine hk _ _ ⟨I,_,rfl,λp=>?_⟩;rw[a Ω,oE e];have f:=kN (l.take (i+1)) λy j=>J y (S3 j);have h1:=Qa (m:=(l.take (i+1)).length) (by rw[l9];omega);rw[oE e] at f;exact wrap_i64 Ω Ω
 .rintro _ U k ⟨I,c,rfl,a⟩;refine cm Ω ?_;rw[o5] at a;exact⟨⟨c,rfl,a⟩,I⟩
theorem EL {k:Int} {b e:Int->Int}:∀ (l:Λ) (c a:Int),c<=a->(∀j∈l,b j<=e j)->l.foldl (λc j=>min (c+b j) k) c<=l.foldl (λc j=>min (c+e j) k) a
 |[],_,_,h,_=>h
 |j::l,c,a,h,f=>by
  rw[U7,U7];have:=f j (.head _);exact EL l _ _ Ω λi hi=>f i (.tail _ hi)
theorem EM {k:Int} {b:Int->Int}:∀ (l:Λ) (c:Int),c<=k->(∀j∈l,0<=b j)->c<=l.foldl (λc j=>min (c+b j) k) c
 |[],_,_,_=>T2 _
 |j::l,c,h,a=>by
  rw[U7];have:=a j (.head _);have:=EM (k:=k) (b:=b) l (min (c+b j) k) Ω λi hi=>a i (.tail _ hi);omega
section
variable {n:aR} {s:av}
theorem Qc {i j:Int} (a:bq n.k n.sizes s):0<=hf n s i v j/\hf n s i v j<=n.k:=by
 have hk:=a.eh;unfold hf;split
 .split
  .split
   .exact tO Ω λu _=>q4 a
   .omega
  .omega
 .omega
theorem Qd {i:Int} (a:bq n.k n.sizes s):ez n s i v<=mR n s i v/\mR n s i v<=n.k:=by
 have h:=EF (i:=i) (v:=v) a (ie s i).length;rw[o5] at h;exact⟨EM _ _ (pp a).2 λj _=>(Qc a).1,h.2⟩
theorem EN {i:Int} (a:bq n.k n.sizes s):∀v∈cq s i,v≠ -1/\mR n s i v<=n.k:=λv ac=>⟨(tP a v ac).1,(Qd a).2⟩
theorem Qe {w:Nat} {p u o:Int} {x:br} (I:s.vars[w]? =σ x):ic n (cd s w v.toNat) j p u o=ic n s j p u o:=by
 funext z;unfold ic;rw[PW I,tR I]
theorem Qf {w:Nat} {i:Int} {x:br} (I:s.vars[w]? =σ x):ie (cd s w v.toNat) i=ie s i:=by
 have a:(cd s w v.toNat).funs=s.funs:=by rw[gN I]
 unfold ie hP;have e:jM (cd s w v.toNat) i=jM s i:=by funext j;unfold jM;rw[a]
 have f:mQ (cd s w v.toNat)=mQ s:=by funext j;unfold mQ;rw[a]
 rw[e,f,a]
theorem Qg {w:Nat} {i u j:Int} {x:br} (e:bq n.k n.sizes s) (I:s.vars[w]? =σ x) (ac:0<=v/\v<x.un.length):hf n s i u j<=hf n (cd s w v.toNat) i u j:=by
 have B:=nZ e I ac;have q:(cd s w v.toNat).funs=s.funs:=by rw[gN I]
 have m:(cd s w v.toNat).vars.length=s.vars.length:=by rw[gN I];exact Z2
 unfold hf;rw[q];cases ae:s.funs[j.toNat]? with
 |none=>exact T2 _
 |some f=>
  simp only;cases C:f.sc[(1-gv f.sc i).toNat]? with
  |none=>exact T2 _
  |some o=>
   simp only;cases h:s.vars[o.toNat]? with
   |none=>
    rw[Z6 (by rw[m];exact List.getElem?_eq_none_iff.1 h)];exact T2 _
   |some y=>
    obtain⟨z,p⟩:=aH (l:=(cd s w v.toNat).vars) (i:=o.toNat) (by rw[m];exact (x4.1 h).1);rw[p];simp only;rw[Qe I];have r:cq s o=aE y:=by unfold cq;rw[h]
    have A:cq (cd s w v.toNat) o=aE z:=by unfold cq;rw[p]
    refine xo (λb a=>⟨?_,(q4 e).2⟩) (λb a=>⟨?_,(q4 e).2⟩) (λb a=>?_) λ_ _=>T2 _
    .have:=(fX.1 a).1;omega
    .have:=(fX.1 a).1;omega
    .rw[<-r];rw[<-A] at a;exact ((xr e I ac.1).1 a).1
theorem Qh {w:Nat} {i:Int} {x:br} (a:bq n.k n.sizes s) (I:s.vars[w]? =σ x) (ac:0<=v/\v<x.un.length):(n7 n s i).1<=(n7 n (cd s w v.toNat) i).1:=by
 refine xo (EN a) (EN (nZ a I ac)) (λu hu=>((xr a I ac.1).1 hu).1) λu _=>?_;unfold mR;rw[Qf I,tR I];exact EL _ _ _ (T2 _) λj _=>Qg a I ac
end
theorem Qi {f g:Int->Int}:∀ {l:Λ},(∀v∈l,f v=g v)->cT k l f=cT k l g:=by
 intro l;unfold cT;generalize (k,(-1:Int))=p;induction l generalizing p with
 |nil=>intro _;rfl
 |cons v l a=>
  intro h;rw[U7,U7,show fW f p v=fW g p v by unfold fW;rw[h v (.head _)]];exact a _ λu hu=>h u (.tail _ hu)
theorem Qj {f:Int->Int}:∀ (l:Λ) (p:Int×Int),(∀v∈l,0<=v)->(p.2= -1\/0<=p.2)->((l.foldl (fW f) p).2= -1\/0<=(l.foldl (fW f) p).2)/\(k=k):=by
 intro l;induction l with
 |nil=>intro p _ h;exact⟨h,rfl⟩
 |cons v l e=>
  intro p a h;refine e _ (λu hu=>a u (.tail _ hu)) ?_;unfold fW;split
  .exact .inr (a v (.head _))
  .exact h
section
variable {w:x3} {e7:x1} {k:Int} {sizes:Λ} {s:av}
theorem Qk {f:Int->Int} {q:Nat} (ac:l[q]? =σ v):cT k (l.take (q+1)) f=fW f (cT k (l.take q) f) v:=by
 unfold cT;rw[u9,ac,l7,U9];rfl
theorem Ql {f:Int->Int} (a:∀v∈l,0<=v):(cT k l f).2= -1\/0<=(cT k l f).2:=(Qj (k:=k) l (k,-1) a (.inl rfl)).1
theorem Qm {i:Nat} {x:br} (h:ko w e7 k sizes s) (aj:bq k sizes s) (I:s.vars[i]? =σ x):
  am x7 FP [e7,Δ (i:Int)] w λr w'=>Ext w w'/\r= .tuple #[Δ (cT k (aE x) λv=>x.un.getD v.toNat 0).1,Δ (cT k (aE x) λv=>x.un.getD v.toNat 0).2]:=by
 have ak:=xe x;refine az func17 ?_;refine bo λg1 U ao C L=>?_;obtain⟨szv,aq,au,av,aw,aA,A,aB,_,M,aC,N,aD,aF⟩:=h.box C L;rw[aT bc.p 0 A rfl,aT bc.p 3 A rfl];refine kL (α:=Λ) (a:=aE x) (i:=i) rfl rfl de.u an.i Ψ M (by rw[x8,I];rfl) λaG O=>?_;have B:=eE O;rw[aU an.u B];obtain⟨f,ae⟩:∃f:Int->Int,f=λv=>x.un.getD v.toNat 0:=⟨_,rfl⟩;rw[<-ae];refine l8.range (aE x).length (λq b a V=>Ext U V/\b=Δ (cT k ((aE x).take q) f).1/\a=Δ (cT k ((aE x).take q) f).2) B.le ⟨Ext.refl _,rfl,rfl⟩ ?_ ?_
 .rintro q _ _ V P Q ⟨j,rfl,rfl⟩ R;obtain⟨v,ac⟩:=aH (l:=aE x) Q;have S:=(fX.1 (x5 ac)).1;obtain⟨m,rfl⟩:=U4 S.1;have y:=Qk (k:=k) (f:=f) ac;have aI:=Ql (k:=k) (f:=f) (l:=(aE x).take q) λv ac=>(fX.1 (S3 ac)).1.1;have W:f (m:Int)=x.un.getD m 0:=by rw[ae];rfl
  refine bE Ω ?_;refine ii (λb a w'=>Ext U w'/\b=Δ (cT k ((aE x).take (q+1)) f).1/\a=Δ (cT k ((aE x).take (q+1)) f).2) (λb a w' X=>by rw[aM];exact R _ _ _ X) λay E=>?_;rw[be an.u ai.i Ψ (B.ext j) ac];have G:∀ {K:x1->Prop} {e:x3},Ext U e->K (Δ (f (m:Int)))->aa x7 (u5 bc (Γ g1) 5) e λY=>aa x7 (u4 ec Y) e λZ=>aa x7 (j5 ec Z (Δ (i:Int))) e λt39=>aa x7 (u4 ax t39) e λab=>aa x7 (j5 ax ab (Δ (m:Int))) e λad=>aa x7 (u4 ap ad) e K:=λ{K e} H af=>by
   rw[aT bc.p 5 (A.ext H) rfl];refine kL (α:=Λ) (a:=x.un) (i:=i) rfl rfl ec.u ax.i Ψ (bW N H) (by rw[x8,I];rfl) λaJ ag=>?_;rw[be ax.u ap.i Ψ (eE ag) (getD_some (i:=m) Ω),<-W];exact af
  refine aV (λr w'=>V=w'/\r= .bool (decide ((cT k ((aE x).take q) f).2= -1\/f (m:Int)<(cT k ((aE x).take q) f).1))) ?_ λaK J=>?_
  .rintro _ _ ⟨rfl,rfl⟩;unfold fW at y;rw[al];refine⟨λz=>G j (E _ _ _ ⟨j,?_,?_⟩),λz=>E _ _ _ ⟨j,?_,?_⟩⟩
   .rw[y,if_pos z]
   .rw[y,if_pos z]
   .rw[y,if_neg z]
   .rw[y,if_neg z]
  .rw[aN,al];refine⟨λah=>J _ _ ⟨rfl,by rw[decide_eq_true (.inl Ω)]⟩,λah=>?_⟩;refine G j ?_;rw[aN];refine J _ _ ⟨rfl,?_⟩;congr 1;exact decide_eq_decide.2 ⟨.inr,λh=>h.resolve_left λh=>Ω⟩
 .rintro _ _ V P ⟨j,rfl,rfl⟩;rw[o5];exact cm Ω ⟨C.trans j,rfl⟩
end
theorem EO {p:x1} (aE:aF .u8 w p pl) (Q:Bytes pl) (aX:eg w):am x7 yY [p] w (OD w (pl.take 300)):=by
 refine az func8 ?_;refine bG bc.i λy U bN ah X=>?_;have X:af U y bc z12:=X;rw[aU cM.u (aE.ext ah),lE];refine Je (i:=min pl.length 300) Ω cM.u cD.i (aE.ext ah) Ω λbO aj=>?_;have a1:pl.take (min pl.length 300)=pl.take 300:=by
  by_cases h:pl.length<=300
  .rw[Nat.min_eq_left h,o5,j9 h]
  .rw[Nat.min_eq_right Ω]
 rw[a1] at aj;have Y:Bytes (pl.take 300):=λb a=>Q b (S3 a);have a2:(pl.take 300).length<=300:=by rw[l9];omega
 generalize pl.take 300=q at aj Y a2;refine (OA aj Ω).mono ?_;rintro bP V _ ⟨ak,bR,an⟩;have aG:=ah.trans ak;refine (L4 an.ls Y Ω (aX.ext aG)).mono ?_;rintro bS bT _ ⟨S,z⟩;have aH:=aG.trans S;cases C:gm q with
 |none=>
  rw[C] at z;obtain⟨n,e,rfl,he⟩:=z;rw[fy,fz,fA];refine (Dm (an.ext S).ls Y Ω).mono ?_;rintro a6 ao _ ⟨K,a7,a8,ap,_⟩;obtain rfl:=ap C;rw[fy,fz,fA];refine aV (λv W=>v= .bool true/\Ext ao W) ?_ ?_
  .rintro _ W ⟨rfl,G⟩;rw[bQ,dn (cs:=#[Δ 0,.slice ν 0 0,Δ 0,.slice ν 0 0,.slice ν 0 0,.slice ν 0 0,.slice ν 0 0,.slice ν 0 0]) Ψ];obtain⟨_,_,m,B⟩:=DL;refine ck (vs:=z12) bc.i rfl rfl (by intro u hu;simp[z12] at hu;rcases hu with rfl|rfl|rfl|rfl<;>rfl) ((((X.ext ak).ext S).ext K).ext G) λbU ba bV bb=>?_;rw[fO bc.p bc.i rfl bb.range];refine⟨((aH.trans K).trans G).then ba λr z he=>by have he:r=y:=he;omega,_,_,false,rfl,⟨rfl,(DL).elim λ_ h=>by obtain⟨_,_,h⟩:=h;exact λu hu=>by simp[z12] at hu;rcases hu with rfl|rfl|rfl|rfl<;>rfl⟩,.inl ⟨rfl,rfl⟩,λf ae=>?_⟩;rw[C] at ae;cases ae
  .intro ay H;rw[bz,al];exact⟨λ_=>H _ _ ⟨rfl,Ext.refl _⟩,λh=>absurd he h⟩
 |some f=>
  rw[C] at z;obtain⟨bW,n,rfl,bd⟩:=z;obtain⟨N,be,L,bf,bg⟩:=Oy Ω C;have M:=Cc L;have Z:=wV L;rw[fy,fz,fA];refine (Dm (an.ext S).ls Y Ω).mono ?_;rintro a6 ao _ ⟨K,a7,a8,_,ap⟩;obtain⟨bX,rfl,bk⟩:=ap f C;rw[fy,fz,fA];refine aV (λv W=>v= .bool false/\Ext ao W) ?_ ?_
  rotate_left
  .intro ay H;rw[bz,al];refine⟨λh=>absurd rfl h,λ_=>?_⟩;rw[c5 uW.u];exact H _ _ ⟨rfl,Ext.refl _⟩
  rintro _ W ⟨rfl,G⟩;rw[aY];have aJ:=(aH.trans K).trans G;refine (Nb ((bd.ext K).ext G) L be ⟨bf,bg⟩).mono ?_;rintro bY bl _ ⟨aq,bm⟩;have aa:=aJ.trans aq;have O:=((((X.ext ak).ext S).ext K).ext G).ext aq;have aK:=(bk.ext G).ext aq;have bZ:=aa.size;have b0:w.heap.size<=y:=Ω
  have b1:=O.lt;rcases bm with⟨bn,e,he,rfl⟩|⟨b2,rfl,bo⟩
  .rw[bi,bj];refine Oz.mono ?_;rintro _ aL _ ⟨rfl,j⟩;refine ii (λau t4 s=>au= .pointer ν/\t4= .bool false/\Ext w s/\ ∃cs:List x1,af s y bc cs/\cs.length=8/\ ∀u∈cs,u.oneCell'=true) ?_ ?_
   .rintro _ _ s ⟨rfl,rfl,av,cs,aw,m,B⟩;rw[fO bc.p bc.i m aw.range];exact⟨av,_,cs,false,rfl,⟨m,B⟩,.inl ⟨rfl,rfl⟩,λb3 aM bp=>absurd bp (by rw[C] at aM;cases aM;exact bn)⟩
   .intro ay H;have bq:=j.size;refine (Dw (aK.ext j) L).mono ?_;rintro br ax _ ⟨x,aA⟩;refine (DD (R:=λr=>w.heap.size<=r/\ ∃c,af ax r ai c) (λr h=>h.2.elim λc a=>a.lt) (λr c Q a=>⟨Ω,c,a⟩) aA M.1 Z).mono ?_;rintro bt bu _ ⟨E,A9,cs,rfl,P,aB⟩;obtain⟨m,B⟩:=P.len;rw[bh,al];refine⟨λh=>absurd h he,λ_=>?_⟩;refine ck (vs:=cs) bc.i m rfl B (((O.ext j).ext x).ext E) λbw I aN aC=>?_;exact H _ _ _ ⟨rfl,rfl,(((aa.trans j).trans x).trans E).then I λr z he=>by have he:r=y:=he;omega,cs,aC,m,B⟩
  .rw[bi,bj];obtain⟨b4,bA,aO,bB⟩:=bo;have z5:=aJ.size;refine (NA (R0:=λr=>w.heap.size<=r/\r<bl.heap.size) bA aO (λr o h J=>⟨by have:=bB r o h J;omega,(o8.1 (aO.aZ r o h J)).1⟩) (λr h=>h.2) M.1 Z).mono ?_;rintro _ aL _ ⟨j,ad,ag,A,R,t,rfl,bC,ac,aP,aQ,bD⟩;have aR:bx aL ad ag A R (cP f) (cS (cP f)) t:=⟨bC,ac,OC M.1 Z ac aP,Nl M.1,M.1⟩;refine ii (λau t4 s=>au=Γ ad/\t4= .bool true/\Ext w s/\ ∃cs:List x1,af s y bc cs/\cs.length=8/\(∀u∈cs,u.oneCell'=true)/\ ∃R' A9 aI,bx s ad ag A R' (cP f) (cS (cP f)) t/\h9 true A9 aI s cs (cP f).k (cP f).sizes (cS (cP f))/\(∀q r,A9 q r->¬A r/\¬R' r/\w.heap.size<=r)/\(∀r,aI r->¬ev s r/\r<s.heap.size/\w.heap.size<=r)/\ ∀r,R' r->w.heap.size<=r) ?_ ?_
   .rintro _ _ s ⟨rfl,rfl,av,cs,aw,m,B,R',A9,aI,bE,P,bF,bH⟩;rw[fO bc.p bc.i m aw.range];exact⟨av,_,cs,true,rfl,⟨m,B⟩,.inr ⟨rfl,f,C,ad,ag,A,R',t,N,A9,aI,L,rfl,bE,aP,λr z=>by have:=aQ r z;omega,P,bF,bH⟩,λ_ _ _=>rfl⟩
   .intro ay H;have bq:=j.size;refine (Dw (aK.ext j) L).mono ?_;rintro br ax _ ⟨x,aA⟩;refine (DD (R:=λr=>w.heap.size<=r/\ ∃c,af ax r ai c) (λr h=>h.2.elim λc a=>a.lt) (λr c Q a=>⟨Ω,c,a⟩) aA M.1 Z).mono ?_;rintro bt bu _ ⟨E,A9,cs,rfl,P,aB⟩;obtain⟨m,B⟩:=P.len;rw[bh,al];refine⟨λ_=>?_,λh=>absurd rfl h⟩;rw[zA dy.u];have aS:=((O.ext j).ext x).ext E;have bI:=((aa.trans j).trans x).trans E;refine ck (vs:=cs) bc.i m rfl B aS λbw I aN aC=>?_;have aT:=(aR.ext x).ext E;obtain⟨R',aW,bJ⟩:=aT.1.put aS I λh=>by have:=aQ y h;omega
    have b5:=((aa.trans j).trans x).size;have b6:=E.size;obtain⟨_,_,_,_,⟨_,_,bK,bL⟩,_⟩:=(aR.ext x).1;have b7:=O.lt;have b8:=(j.trans x).size;have bM:=P.ab I λr z h he=>by
     have he:r=y:=he;rcases h with⟨q,h⟩|⟨_,c,a⟩
     .have:=aB q r h;omega
     .subst he;exact absurd (fa a (((O.ext j).ext x))) Φ
    refine H _ _ _ ⟨rfl,rfl,bI.then I λr z he=>by have he:r=y:=he;omega,cs,aC,m,B,R',A9,_,⟨bJ,aT.2⟩,bM,λq r h=>?_,λr h=>?_,λr h=>?_⟩
    .have b9:=aB q r h;refine⟨λaD=>by have:=bL r aD;omega,λaD=>by have:=bK r (aW r aD).1;omega,Ω⟩
    .obtain⟨Q,c,a⟩:=h;have ca:=a.lt;have aN:=I.size;refine⟨Ow ((a.ext E).ab I λhe=>?_) Φ,Ω,Q⟩;have he:r=y:=he;subst he;exact absurd (fa a (((O.ext j).ext x))) Φ
    .rcases bD r (aW r h).1 with h|h
     .exact h.1
     .omega
def kx:Λ:=[116,32,50,32,50,32,50,32,57,32,49,32,50,32,50,32,48,32,49,32,48,32,49,32,48,32,49,32,53,32,49,32,49,32,48,32,49,32,48,32,52]
def e4:bZ:=⟨[116],9,[1,2],[⟨[0,1],[1,2],0,[([0,1],5)]⟩,⟨[1],[2],0,[([0],4)]⟩]⟩
theorem Qn:gm kx=σ e4:=by
 have h:(match gm kx with
  |some f=>decide (f.name=e4.name/\f.k=e4.k/\f.sizes=e4.sizes)&&decide (f.funs.map (λx=>(x.scope,x.sizes,x.other,x.lines))=e4.funs.map λx=>(x.scope,x.sizes,x.other,x.lines))
  |none=>false)=true:=by decide+kernel
 cases m:gm kx with
 |none=>rw[m] at h;cases h
 |some f=>
  rw[m] at h;simp only[V0,decide_eq_true_eq] at h;obtain⟨⟨h1,p,q⟩,e⟩:=h;obtain⟨nm,k,s,j⟩:=f;simp only at h1 p q e;subst h1;subst p;subst q;have:j=e4.funs:=by
   have r:j.length=2:=by have:=congrArg S7 e;simpa[e4] using this
   match j,r with
   |[x,y],_=>
    obtain⟨a,b,c,d⟩:=x;obtain⟨a',w,z,A⟩:=y;simp[e4] at e;obtain⟨⟨rfl,rfl,rfl,rfl⟩,rfl,rfl,rfl,rfl⟩:=e;rfl
  subst this;rfl
theorem Qo:lR e4.funs<=16384:=by decide+kernel
theorem Qp:∃f u x o y,lY (cS (cP e4)) 0 0 0 f u x/\f.sc.length=2/\f.sc[(1-(0:Int)).toNat]? =σ o/\(cS (cP e4)).vars[o.toNat]? =σ y/\cT (cP e4).k (aE y) (ic (cP e4) (cS (cP e4)) (0:Int).toNat 0 0 o)=(4,0):=by
 have h:(match (cS (cP e4)).funs[0]? with
  |some f=>match f.sc[0]?,f.sc[1]? with
   |some u,σ o=>match (cS (cP e4)).vars[u.toNat]?,(cS (cP e4)).vars[o.toNat]? with
    |some x,σ y=>decide (f.live≠0/\0<=u/\(0:Int)∈aE x/\f.sc.length=2)&&decide (cT (cP e4).k (aE y) (ic (cP e4) (cS (cP e4)) 0 0 0 o)=(4,0))
    |_,_=>false
   |_,_=>false
  |none=>false)=true:=by decide+kernel
 cases ae:(cS (cP e4)).funs[0]? with
 |none=>rw[ae] at h;cases h
 |some f=>
  rw[ae] at h;simp only at h;cases hu:f.sc[0]? with
  |none=>rw[hu] at h;cases h
  |some u=>
   rw[hu] at h;cases a:f.sc[1]? with
   |none=>rw[a] at h;cases h
   |some o=>
    rw[a] at h;simp only at h;cases I:(cS (cP e4)).vars[u.toNat]? with
    |none=>rw[I] at h;cases h
    |some x=>
     rw[I] at h;cases e:(cS (cP e4)).vars[o.toNat]? with
     |none=>rw[e] at h;cases h
     |some y=>
      rw[e] at h;simp only[V0,decide_eq_true_eq] at h;obtain⟨⟨h1,j,m,p⟩,q⟩:=h;exact⟨f,u,x,o,y,⟨Ω,ae,h1,Ω,hu,j,I,m⟩,p,a,e,q⟩
theorem Qq (H:eg w) (I:Laid w):am x7 yX [] w λv w'=>v= .bool true/\Ext w w':=by
 refine az func7 ?_;refine j1 (k:=1) (cs:=(ints .u8 kx).toArray) cM.u cD.i Ω Ψ λg U aB a m=>?_;have s:au .u8 cD U g (.slice (σ ⟨g,0,ν⟩) 41 41) kx:=au.of (n:=41) (bT.full (by simpa using m) (by simp[kx]) (by simp[maxLen]));refine O9 m λp z B=>?_;have a:Ext w p:=a.put z Ω;have q:aF .u8 p (.slice (σ ⟨g,0,ν⟩) 41 41) kx:=by
  obtain⟨J,b,o,base,cap,K,L,M,O,P⟩:=s.ls;cases K;cases O (by simp[kx]);exact⟨J,g,0,_,41,rfl,L,M,λ_=>rfl,B _ _ P⟩
 clear s m B z;refine (EO q (by intro b Q;simp[kx] at Q;omega) (H.ext a)).mono ?_;rintro _ V _ ⟨S,W,cs,ok,rfl,⟨X,Y⟩,Z,aa⟩;have C:gm (kx.take 300)=σ e4:=by
  rw[j9 Φ];exact Qn
 have ab:ok=true:=aa e4 C Qo;subst ab;obtain⟨f,ae,ad,ag,A,R,t,N,A9,aI,aC,rfl,ac,_⟩:∃f,gm (kx.take 300)=σ f/\tt p.heap.size V W cs f:=by
  rcases Z with⟨h,_⟩|⟨_,h⟩
  .cases h
  .exact h
 rw[C] at ae;cases ae;have af:=a.trans S;rw[fy,fz,fA];refine bG bc.i λaq aD aE ah ai=>?_;refine ck (vs:=cs) bc.i X rfl Y ai λaj ak aG aH=>?_;have E:Ext V aj:=ah.put ak Ω;have G:=af.trans E;rw[bI,Y7,aY];refine (OV (j:=0) (pos:=0) (v:=0) (ac.ext E) (I.ext G)).mono ?_;rintro r aJ _ ⟨an,_,e⟩;obtain⟨f,u,x,o,y,q,ao,ap,av,aw⟩:=Qp;have e:=(e f u x q).2 ao o y ap av;rw[aw] at e;subst e;rw[fy,fz,fA];refine aV (λv ax=>v= .bool true/\Ext w ax) (λ_ _ h=>h) λay aA=>?_;rw[bh,al];refine⟨λ_=>?_,λh=>absurd rfl h⟩;rw[bh,al];refine⟨λ_=>?_,λh=>absurd rfl h⟩;rw[bh];exact aA _ _ ⟨rfl,G.trans an⟩
abbrev ky:Type:=iW .u8×Int×Int×Int×Int
structure gA where
 d:Int
 i:Int
 pos:Int
 v:Int
 c:Int
def gA.ok (a:gA):Prop:=0<=a.d/\a.d<256
def gA.kind (a:gA):Nat:=(a.d % 7).toNat
def gA.bP (a:gA):List x1:=[.int .u8 a.d,Δ a.i,Δ a.pos,Δ a.v,Δ a.c]
def l0 (x:ky):gA:=⟨x.1.val,x.2.1,x.2.2.1,x.2.2.2.1,x.2.2.2.2⟩
theorem Qr {R:ak} {cs:List x1} {x:ky} (h:Seen R w cs x):cs=(l0 x).bP:=by
 obtain⟨p,_,_,_,rfl,_,_,_,a,q,_,_,_,rfl,_,_,_,e,r,_,_,_,rfl,_,_,_,f,s,y,_,_,rfl,_,_,_,j,m⟩:=h;have a:p=[.int .u8 x.1]:=a;have e:q=[Δ x.2.1]:=e;have f:r=[Δ x.2.2.1]:=f;have j:s=[Δ x.2.2.2.1]:=j;have m:y=[Δ x.2.2.2.2]:=m;subst a e f j m;rfl
theorem EP {x:ky} (h:(o4.u8.min<=x.1.val/\x.1.val<=o4.u8.max)/\(X2.min<=x.2.1/\x.2.1<=X2.max)/\(X2.min<=x.2.2.1/\x.2.2.1<=X2.max)/\(X2.min<=x.2.2.2.1/\x.2.2.2.1<=X2.max)/\(X2.min<=x.2.2.2.2/\x.2.2.2.2<=X2.max)):(l0 x).ok:=by
 have a:o4.u8.min=0:=Φ
 have e:o4.u8.max=255:=Φ
 rw[a,e] at h;exact⟨h.1.1,by have:=h.1.2;show x.1.val<256;omega⟩
theorem gA.one (a:gA):∀u∈a.bP,u.oneCell'=true:=by
 intro u hu;unfold gA.bP at hu;simp only[W9,List.not_mem_nil,or_false] at hu;rcases hu with rfl|rfl|rfl|rfl|rfl<;>rfl
theorem gA.Qs (a:gA):a.kind<7:=by
 unfold gA.kind;have:=Int.emod_lt_of_pos a.d (show (0:Int)<7 by decide);omega
def EQ (k:Int) (a:gA):Int:=a.c.emod 18446744073709551616 % (k+1)
def kz (k:Int) (a:gA):hy:=⟨a.kind,a.i,a.pos,a.v,EQ k a⟩
def ld (n:aR) (s:av) (a:gA):av:=if a.kind=6 then (if eL n a.i a.v then cd s a.i.toNat a.v.toNat else s) else (cA n.k s (kz n.k a)).1
theorem xw {d:Int} {K:x1->Prop} (h:0<=d):aa x7 (aJ .rem cD false true (.int .u8 d) (.int .u8 7)) w K=K (.int .u8 (((d % 7).toNat:Nat):Int)):=by
 rw[nf Φ,Int.tmod_eq_emod_of_nonneg h];have:=Int.emod_nonneg d (show (7:Int)≠0 by decide);rw[Int.toNat_of_nonneg this]
section
variable {w:x3} {ad ag aq:Nat} {A R:ak} {A9:Nat->ak} {aI:ak} {n:aR} {s u:av} {t:aB} {h:List aB} {cs:List x1} {a:gA}
theorem ER (a:bq n.k n.sizes s) {i:Int} (h:eL n i v):0<=i/\ ∃x,s.vars[i.toNat]? =σ x/\0<=v/\v<x.un.length:=by
 obtain⟨x,I,h1,_,e⟩:=h.var a;exact⟨h.1,x,I,h.2.2.1,by have:=h.2.2.2;omega⟩
theorem Qt (f:dl s/\eN (cS n) s/\n.funs.length<=256) (j:bq n.k n.sizes s):dl (ld n s a)/\eN (cS n) (ld n s a)/\n.funs.length<=256:=by
 unfold ld;split
 .split
  .rename_i h;obtain⟨p,x,I,ac,_⟩:=ER j h;have e:=gN (v:=a.v) I;have m:eN s (cd s a.i.toNat a.v.toNat):=xu (v:=a.v);exact⟨by rw[e];exact dl.vars f.1 I rfl,f.2.1.trans m,f.2.2⟩
  .exact f
 .exact P3 f j _
theorem Qu (p:cr w ad ag aq A R A9 aI n s u t h cs) {i:Nat} {x:br} (I:u.vars[i]? =σ x):∃g cap y gy e,cs[3]? =σ (.slice (σ ⟨g,0,ν⟩) u.vars.length cap)/\w.cell? ⟨g,0+i*1,ν⟩=σ y/\au .i64 e w gy y (aE x)/\(∀r,leads y r->A9 0 r)/\
  ∀ {U V:x3} {m:Int} {z:x1} {K:Unit->x3->Prop},Ext w U->ah (λr=>leads y r) U V->au .i64 e V gy z (aE {x with mask:=m})->(∀r,leads z r->leads y r)->(∀J,dp w ad ag aq A R A9 aI n s t h {u with vars:=u.vars.set i {x with mask:=m}} J->K () J)->
   aC x7 (o6 an (.pointer (σ ⟨g,0+i*1,ν⟩)) z) V K:=by
 have L:=p.olds;have aK:=(x4.1 I).1;obtain⟨szv,ai,aL,aM,aN,aO,M,_,aj,_,_,_,_,ak⟩:=id L.doc;obtain⟨g,cap,full,al,c,am,e,C,ap,E,N,O,P,av,aw⟩:=Ec (i:=i) (a:=aE x) aj (by rw[x8,I];rfl) λr _ h=>(ak rfl).2 0 r h;obtain⟨y,rfl⟩:=W3.1 (ao.len O);rw[u7] at e;have ax:full[i]? =σ y:=by have:=N 0 y rfl;simpa[show ao.n (Λ)=1 from rfl] using this
 obtain⟨gy,ay,Q,az⟩:=zP O;have j:∀r,leads y r->am r:=λr f=>by
  rcases az with rfl|aA
  .obtain⟨_,_,_,e,_⟩:=f;cases e
  .obtain⟨e,_⟩:=bM Q f;rw[e];exact aA
 refine⟨g,cap,y,gy,ay,by rw[M,<-e];rfl,by have:=C.cell (o:=i) ax;rw[X0,V8];exact this,Q,λr f=>(P r (j r f)).1,λ{U V m S K} F G W X aB=>?_⟩;have aP:=F.size;have aQ:=G.size;have E:i*1+1<=full.length:=E;obtain⟨_,_,_,Y⟩:=dg W.ls;have Z:¬leads y g:=λh=>av (j g h);refine bt (o:=0+i*1) an.i (by rw[Y];rfl) (by rw[Y];rfl) ((C.ext F).ab G Z) Ω λaa ac aR B=>?_;have B:af aa g al (over full (i*1) [S]):=by
  have e:=Ef (full:=full) (c:=[y]) (o:=i*1) (q:=0) (x:=S) N E Ξ;rw[X0] at B;rw[Nat.add_zero] at e;rw[e] at B;exact B
 have aS:g<w.heap.size:=C.lt;have H:ah (λr=>leads y r\/r=g) w aa:=((F.ab _).trans (G.mono λr _ h=>.inl h)).trans (ac.mono λr _ h=>.inr h);have aD:=bp W ac λr f he=>by have he:r=g:=he;exact Z (he▸X r f)
 have aF:=aw H (λr _ h=>h.imp (j r) id) B (mE (R:=aI) aD) λr f=>.inl (j r (X r f));have ae:∀r,r<w.heap.size->(leads y r\/r=g)->A9 0 r/\r<w.heap.size:=λr f h=>h.elim (λh=>P r (j r h)) λh=>by rw[h];exact ap
 obtain⟨cg,aG,aH⟩:=L.n1 (u':={u with vars:=u.vars.set i {x with mask:=m}}) (λq r h=>h.2) (v:=ai) (by rw[M];rfl) H ae (by show bC _ _ _ _ ((u.vars.set i {x with mask:=m}).map aE);rw[V7];exact aF) rfl (pt I rfl) (pt I rfl) rfl rfl;refine aB _ ⟨H.mono λr f h=>.inl ⟨0,(ae r f h).1⟩,cg,cs,aG,λq r f=>?_⟩;rcases aH q r f with⟨aJ,h⟩|h
 .exact .inl ⟨aJ,h.1⟩
 .exact .inr h
end
section
variable {Z aI:ak} {w w':x3} {ad ag aq:Nat} {A R:ak} {A9:Nat->ak} {n:aR} {s s':av} {t:aB} {cs:List x1} {a:gA}
def jR (Z aI:ak) (w:x3) (ad ag aq:Nat) (n:aR) (s':av) (w':x3):Prop:=ah (λr=>Z r/\¬aI r) w w'/\ ∃mP,(∀r,mP r->Z r\/w.heap.size<=r)/\fM mP aI w' ad ag aq n s'
theorem fM.Qv {aQ:ak} {cg:Nat->ak} {bw:aB} (p:cr w ad ag aq A R A9 aI n s s t [] cs) (f:∀r,Z r↔lb A R A9 aI aq r) (H:dl s'/\eN (cS n) s'/\n.funs.length<=256) (m:¬Z 0) (I:Laid w)
  (x:ah (ev w) w U) (y:Grow A w aQ U) (j:∀q r,cg q r->A9 q r) (J:dp U ad ag aq aQ R cg aI n s' bw [] s' V):jR Z aI w ad ag aq n s' V:=by
 obtain⟨z,B,b5,K,L⟩:=J;have O:=x.size;have P:=z.size;have M:=p.Em;have C:ah (λr=>Z r/\¬aI r) w V:=((w6 y.1 x).mono (T:=λr=>Z r/\¬aI r) λr _ h=>⟨(f r).2 (.inl h.1),λh'=>(p.read r h').1 h.2⟩).trans
  (z.mono λr _ h=>⟨(f r).2 (h.elim (λ⟨q,h⟩=>.inr (.inr (.inl ⟨q,j q r h⟩))) λh=>.inr (.inr (.inr (.inr h)))),h.elim (λ⟨q,h⟩=>M q r (j q r h)) λh h'=>(p.read r h').2.2 h⟩)
 have Q:=p.box.lt;have e:∀ {r:Nat} {E:Prop},(E->lb A R A9 aI aq r)->E->Z r\/w.heap.size<=r:=λN h=>.inl ((f _).2 (N h));have F:∀r,lb aQ R (λq r=>B q r/\r<V.heap.size) aI aq r->Z r\/w.heap.size<=r:=by
  intro r a;rcases a with a|a|⟨q,a,_⟩|a|a
  .exact (y.2.1 r a).elim (e .inl) .inr
  .exact e (λh=>.inr (.inl h)) a
  .exact (L q r a).elim (λ⟨G,h⟩=>e (λh=>.inr (.inr (.inl h))) ⟨G,j G r h⟩) λh=>.inr Ω
  .exact e (λh=>.inr (.inr (.inr (.inl h)))) a
  .exact e (λh=>.inr (.inr (.inr (.inr h)))) a
 exact⟨C,λr=>lb aQ R (λq r=>B q r/\r<V.heap.size) aI aq r,F,aQ,R,_,bw,b5,K.olds,⟨js C (λh=>m h.1) I,λh=>(F 0 h).elim m λh=>Ω⟩,H,λr=>Iff.rfl,λq r a=>a.2⟩
theorem jR.same (h:fM Z aI w ad ag aq n s) (I:Ext w w'):jR Z aI w ad ag aq n s w':=⟨I.ab _,Z,λ_ h=>.inl h,h.ext I⟩
theorem jR.before (I:Ext w U) (h:jR Z aI U ad ag aq n s w'):jR Z aI w ad ag aq n s w':=by
 obtain⟨c,mP,a,e⟩:=h;have:=I.size;exact⟨(I.ab _).trans c,mP,λr f=>(a r f).imp id λh=>Ω,e⟩
theorem Qw (h:fM Z aI w ad ag aq n s) (W:a.ok):am x7 uI [Γ ad,Γ aq,.agg a.bP.toArray] w λ_ w'=>jR Z aI w ad ag aq n (ld n s a) w':=by
 obtain⟨A,R,A9,t,cs,p,⟨aB,P⟩,aC,Q,aD⟩:=id h;have N:=p.ey.2.2.2.1;have bq:=N.eh;have br:=a.Qs;have G:¬A 0:=λh=>P ((Q 0).2 (.inl h));have X:=Qt (a:=a) aC N;refine az func9 ?_;refine bo λga U bt aE Y=>?_;have Y:af U ga c3 [.int .u8 a.d,Δ a.i,Δ a.pos,Δ a.v,Δ a.c]:=Y;intro V aF _ _;have C:=aE.trans aF;have B:=Y.ext aF;have bu:=aE.size;have bw:=C.size;have bx:=B.lt;have aa:(a.d % 7).toNat=a.kind:=rfl;obtain⟨szv,bz,bA,bB,bC,bD,aS,_⟩:=p.n0;have aU:cs[0]? =σ (Δ n.k):=by rw[aS];rfl
 have hu:U1.wrap a.c=a.c.emod 18446744073709551616:=rfl;have aV:0<=a.c.emod 18446744073709551616:=Int.emod_nonneg _ Φ;have bE:=Int.emod_nonneg (a.c.emod 18446744073709551616) (show n.k+1≠0 by omega);have bF:=Int.emod_lt_of_pos (a.c.emod 18446744073709551616) (show 0<n.k+1 by omega);have aX:a.c.emod 18446744073709551616 % (n.k+1)=EQ n.k a:=rfl;rw[aT c3.p 4 B rfl,eW ap.u fs.u,aO bc.p 0 (p.box.ext C) aU,aM,wrap_i64 Ω Ω,eW ap.u fs.u,wrap_u64 (x:=n.k+1) Ω Ω,hu,nf Ω,Int.tmod_eq_emod_of_nonneg aV,eW fs.u ap.u,wrap_i64 Ω Ω,aX,
  aT c3.p 0 B rfl,xw W.1,aa,bh,al]
 have E:=p.ext C;refine⟨λac=>?_,λac=>?_⟩
 .have ac:a.kind=6:=Ω
  have H:ld n s a=if eL n a.i a.v then cd s a.i.toNat a.v.toNat else s:=by unfold ld;rw[if_pos ac]
  refine dh (λw'=>jR Z aI w ad ag aq n (ld n s a) w') (λw' h=>h) λay aG=>?_;rw[aT c3.p 1 B rfl,aT c3.p 3 B rfl];refine (ts (i:=a.i) (v:=a.v) E.ey (.inl p.hN.1)).mono ?_;rintro bG bH _ ⟨aY,aZ⟩;by_cases J:eL n a.i a.v
  rotate_left
  .obtain⟨rfl,a1⟩:=aY J;rw[bh,al];exact⟨λh=>absurd h Φ,λ_=>aG _ (by rw[H,if_neg J];exact jR.same h (C.trans a1))⟩
  obtain⟨rfl,aH,aQ,y,ae,a2⟩:=aZ J;rw[if_pos J] at H;rw[bh,al];refine⟨λ_=>?_,λh=>absurd rfl h⟩;have a6:=E.prog aH ae a2 E.hN.set (λ_ h=>.inl h) (λ_ _ _ h=>h) E.box.lt;obtain⟨a7,x,I,a8,bI⟩:=ER N J;obtain⟨ah,S⟩:=U4 a7;rw[S,u6] at I;intro aj ak _ _;have j:=a6.ext ak;have ao:∀r,A r->r<w.heap.size:=λr h=>qX p.ey r (.inl h);have O:=(B.ab ae.1 λh=>by have:=ao ga h;omega).ext ak;rw[S] at O;have aJ:ah<s.vars.length:=(x4.1 I).1;obtain⟨g,cap,aK,gy,e,au,ba,bb,bd,be⟩:=Qu j I;have bJ:=xe x;have bK:x.un.length<=32:=by obtain⟨bL,aL,bM,bf,_⟩:=J.var N;rw[S,u6,I] at aL;cases aL;exact bf
  have av:∀r,leads aK r->r≠ga/\r≠aq:=λr f=>by
   have h1:A9 0 r/\r<V.heap.size:=bd r f;exact⟨λhe=>by have:=aD 0 r h1.1;omega,λhe=>(p.apart 0 r h1.1).2.2 he⟩
  rw[aO bc.p 3 j.box au,aT c3.p 1 O rfl,aO bc.p 3 j.box au,aT c3.p 1 O rfl,e6 de.u an.i aJ λ_=>rfl,aA (v:=aK) (o:=0+ah*1) Ψ ba,iR];refine (Ee (p:=λy=>decide (y=a.v)) bb Ω λw' y bg bN=>?_).mono ?_
  .refine az func33 ?_;rw[aT c3.p 3 (O.ab bg λh=>(av ga h).1 rfl) rfl,bh];exact⟨rfl,Ext.refl _⟩
  rintro bO aw _ ⟨ax,bi,bj⟩;have bk:=O.ab ax λh=>(av ga h).1 rfl;have bl:=j.box.ab ax λh=>(av aq h).2 rfl;refine⟨.inr ⟨r6 Ψ (bk.cell (o:=0+1) rfl),Go.Vc.kW λK=>aW c3.p rfl,r6 Ψ (bl.cell (o:=0+3) au),Go.Vc.kW λK=>aW bc.p rfl,Go.Vc.kW λK=>bS,trivial⟩,?_⟩;rw[e6 de.u an.i aJ λ_=>rfl];refine be (m:=((x.mask.toNat ||| 2 ^ a.v.toNat:Nat):Int)) (Ext.refl _) ax (by rw[w9 a8];exact bi) bj λbQ aN=>aG _ ?_;have bm:cd s a.i.toNat a.v.toNat={s with vars:=s.vars.set ah {x with mask:=((x.mask.toNat ||| 2 ^ a.v.toNat:Nat):Int)}}:=by rw[S,u6];unfold cd;rw[I]
  rw[H];rw[<-bm] at aN;have bn:=dp.comp (ak.ab _) (λq r f=>.inl ⟨q,f⟩) aN;exact jR.before C (fM.Qv E Q (by rw[<-H];exact X) P (aB.ext C) aH ae (λq r (f:A9 q r/\r<V.heap.size)=>f.1) bn)
 have bR:(kz n.k a).kind=a.kind:=rfl;have H:ld n s a=(cA n.k s (kz n.k a)).1:=by unfold ld;rw[if_neg Ω]
 rw[aT c3.p 0 B rfl,xw W.1,aa,eW cD.u ai.u,wrap_i64 Ω Ω,aT c3.p 1 B rfl,aT c3.p 2 B rfl,aT c3.p 3 B rfl];refine (P4 (m:=kz n.k a) E N aC.1 Ω).mono ?_;rintro _ aj _ ⟨rfl,aP⟩;obtain⟨aR,bT,bU,j,bV⟩:=id aP;have ao:∀r,(∃q,A9 q r)\/r=aq->r<w.heap.size:=λr f=>f.elim (λ⟨q,h⟩=>aD q r h) λh=>by rw[h];exact p.box.lt
 have z:=B.ab aR λf=>by have:=ao ga f;omega
 have L:Laid aj:=js aR (λh=>P ((Q 0).2 (h.elim (λh=>.inr (.inr (.inl h))) λh=>.inr (.inr (.inr (.inr h)))))) (aB.ext C);have M:∀ {r:x1} {aw:x3},n5 aj ad ag A R n s (kz n.k a) r aw->jR Z aI w ad ag aq n (ld n s a) aw:=λbp=>by
  rw[H] at X ⊢;exact jR.before C (fM.step E Q X P aP (Ext.refl _) bp.2)
 rw[aT c3.p 0 z rfl,xw W.1,aa,bh,al];refine⟨λhk=>?_,λbW=>?_⟩
 .rw[aT c3.p 1 z rfl,aT c3.p 2 z rfl,aT c3.p 3 z rfl];exact (PB (a:=kz n.k a) Ω j.ey L G j.hN).mono λr w' _ f=>M f
 rw[bh,al];refine⟨λhk=>?_,λbX=>?_⟩
 .rw[aT c3.p 1 z rfl,aT c3.p 2 z rfl,aT c3.p 3 z rfl];exact (PC (a:=kz n.k a) Ω j.ey L G j.hN).mono λr w' _ f=>M f
 rw[bh,al];refine⟨λhk=>?_,λbY=>?_⟩
 .rw[aT c3.p 1 z rfl];exact (PH (a:=kz n.k a) Ω j.ey L G j.hN).mono λr w' _ f=>M f
 rw[bh,al];refine⟨λhk=>?_,λbZ=>?_⟩
 .rw[aT c3.p 1 z rfl];exact (PJ (a:=kz n.k a) Ω j.ey L G j.hN).mono λr w' _ f=>M f
 rw[bh,al];refine⟨λhk=>?_,λb0=>?_⟩
 .rw[aT c3.p 1 z rfl,aT c3.p 3 z rfl];exact (PK (a:=kz n.k a) Ω j.ey L G j.hN).mono λr w' _ f=>M f
 .rw[aT c3.p 1 z rfl,aT c3.p 3 z rfl];exact (PL (a:=kz n.k a) Ω j.ey L G j.hN).mono λr w' _ f=>M f
end
def lf (w0 w:x3) (ad ag aq:Nat) (n:aR):Prop:=Ext w0 w/\ ∃s Z aI,fM Z aI w ad ag aq n s/\ ∀r,Z r->w0.heap.size<=r
section
variable {w0 w w':x3} {ad ag aq:Nat} {n:aR} {s:av} {Z aI:ak}
theorem lf.ext (h:lf w0 w ad ag aq n) (I:Ext w w'):lf w0 w' ad ag aq n:=by
 obtain⟨a,s,Z,aI,e,f⟩:=h;exact⟨a.trans I,s,Z,aI,e.ext I,f⟩
end
theorem ES {p:x1} {A:x3->Prop} {K:x1->x1->x1->x3->Prop} (B:aF .u8 w p pl) (C:∀b∈pl,0<=b/\b<256) (q:eg w) (e:Laid w) (E:∀g w',Ext w w'->K (.pointer ν) (Γ g) (.bool false) w')
  (G:∀f ad ag aq Z aI w',gm (pl.take 300)=σ f->Ext w w'->fM Z aI w' ad ag aq (cP f) (cS (cP f))->(∀r,Z r->w.heap.size<=r)->K (Γ ad) (Γ aq) (.bool true) w'):
  am x7 yX [] w λH U=>
 aa x7 (Op.unary .not H) U λI=>
 Split I (A U)
  (am x7 yY [p] U λh V=>
 aa x7 (Z4 h 0) V λJ=>
 aa x7 (Z4 h 1) V λL=>
 aa x7 (Z4 h 2) V λM=>
 aC x7 (R7 bc true (.tuple #[])) V λx s=>
 aC x7 (o6 bc x L) s λ(_:Unit) j=>K J x M j):=by
 refine (Qq q e).mono ?_;rintro _ U _ ⟨rfl,a⟩;rw[bI,Y7,aY];refine (EO (B.ext a) C (q.ext a)).mono ?_;rintro _ V _ ⟨y,ah,cs,ok,rfl,⟨N,O⟩,P,_⟩;rw[fy,fz,fA];have Q:=a.trans y;refine bG bc.i λaq s ai R S=>?_;refine ck (vs:=cs) bc.i N rfl O S λj W aj X=>?_;have z:Ext V j:=R.put W Ω;have m:=Q.trans z;rcases P with⟨rfl,rfl⟩|⟨rfl,f,ae,Y⟩
 .exact E _ _ m
 have ak:=a.size;obtain⟨ad,ag,Z,aI,rfl,ab,ac⟩:=P5 Y z X Ω y.size (P2 (e.ext a)) (e.ext m);exact G f ad ag aq Z aI _ ae m ab λr af=>by have:=ac r af;omega
section
variable {w0 w w':x3} {ad ag aq:Nat} {n:aR} {s:av} {Z aI:ak}
theorem lf.Qx {a:gA} (h:lf w0 w ad ag aq n) (m:a.ok):am x7 uI [Γ ad,Γ aq,.agg a.bP.toArray] w λ_ w'=>lf w0 w' ad ag aq n:=by
 obtain⟨e,s,Z,aI,p,f⟩:=h;refine (Qw p m).mono ?_;rintro v U _ ⟨q,x,y,A⟩;have z:=e.size;exact⟨e.then q λr j h=>by have:=f r h.1;omega,_,x,aI,A,λr j=>(y r j).elim (f r) λh=>Ω⟩
theorem Qy {e:x1} {L:List ky} {K:x1->x3->Prop} {i:Nat} {x:ky} (j:Seen eX w [e] L) (I:L[i]? =σ x) (m:∀g w',Ext w w'->w.heap.size<=g->af w' g c3 (l0 x).bP->K (Γ g) w'):
  aa x7 (j5 nb e (Δ (i:Int))) w λq=>
  aa x7 (u4 c3 q) w λr=>
  aC x7 (R7 c3 true (.tuple #[])) w λa f=>
  aC x7 (o6 c3 a r) f λ(_:Unit) h=>K a h:=by
 refine np (α:=ky) c3.p rfl nb.u c3.i j I λcs s=>?_;obtain rfl:=Qr s;refine bG c3.i λgy f C y z=>?_;refine ck (vs:=(l0 x).bP) c3.i rfl rfl (gA.one _) z λh A E B=>?_;exact m _ _ (y.put A Ω) Ω B
theorem ET {r:x1} {L:List ky} {m:Int} {K:x3->Prop} (h:lf w0 w ad ag aq n) (e:Seen eX w0 [r] L) (H:∀x∈L,(l0 x).ok) (I:∀w',lf w0 w' ad ag aq n->K w'):
  aa x7 (W6 #[nb] ai #[r]) w λJ=>
 ch (Δ 0) w λj a k=>
  aa x7 (aJ .lss ai false false j J) a λM=>
  Split M (cu (α:=x3->Prop) (λ(y:x3)=>
   aa x7 (aJ .add ai false true j (Δ 1)) y λN=>
   k N y) λz=>
  aa x7 (j5 nb r j) a λO=>
  aa x7 (u4 c3 O) a λP=>
  aC x7 (R7 c3 true (.tuple #[])) a λb A=>
  aC x7 (o6 c3 b P) A λ(_:Unit) q=>
  aa x7 (aJ .lss ai false true j (Δ m)) q λQ=>
  Split Q (aa x7 (u4 c3 b) q λR=>
   am x7 uI [Γ ad,Γ aq,R] q λY B=>
   z B)
   (z q))
   (K a):=by
 rw[io nb.u (bW e h.1)];refine ch.range L.length (λi s=>lf w0 s ad ag aq n) (rX e) h ?_ ?_
 .rintro i s S hi f U;obtain⟨x,C⟩:=aH (l:=L) hi;have V:=H x (x5 C);refine bE Ω ?_;refine dh (λa=>lf w0 a ad ag aq n) (λa W=>by rw[aM];exact U _ W) λay E=>?_;refine Qy (bW e f.1) C λgy A G _ X=>?_;rw[aN,al];refine⟨λ_=>?_,λ_=>E _ (f.ext G)⟩;rw[bO c3.p c3.i rfl X.range];exact ((f.ext G).Qx V).mono λv B _ e=>E _ e
 .rintro s S f;exact cm Ω (I _ f)
end
theorem Qz {n:aR} {s:av} {i:Nat} {x:br} (h:eN (cS n) s) (I:s.vars[i]? =σ x):x.gone=0:=by
 obtain⟨y,a⟩:=aH (l:=(cS n).vars) (i:=i) (by have:=(x4.1 I).1;have:=h.vars;omega);rw[(h.var i y x a I).1];unfold cS at a;simp only[x8,Y5] at a;obtain⟨u,_,rfl⟩:=a;rfl
section
variable {w:x3} {n:aR} {ad ag aq:Nat}
end
theorem QA {sv:x1} (h:aF .i64 w sv l) (J:∀x∈l,1<=x/\x<=32) (ak:l.length<=64):
  am x7 FT [sv] w λv w'=>Ext w w'/\ ∃L,bC (ea w.heap.size) bu w' [v] L/\P6 l L:=by
 refine az func23 ?_;have ap:=kN l J;refine aV (λv V=>Ext w V/\ ∃b,v= .bool b/\(b=true->l.length<=11/\aK l<=90)) ?_ λay I=>?_
 rotate_left
 .rw[aU an.u h,aN,al];refine⟨λaq=>?_,λ_=>I _ _ ⟨Ext.refl _,false,rfl,λh=>by cases h⟩⟩;refine (Qb h J).mono ?_;rintro _ U _ ⟨⟨c,rfl,O⟩,e⟩;rw[lC];exact I _ _ ⟨e,_,rfl,λh=>⟨Ω,by rw[<-O Ω];exact of_decide_eq_true h⟩⟩
 rintro _ U ⟨e,b,rfl,P⟩;rw[cb];refine⟨λQ=>?_,λ_=>?_⟩
 .obtain⟨av,aw⟩:=P Q;refine (vl l (h.ext e) ⟨Ω,J,Ω⟩).mono ?_;rintro v V _ ⟨f,m⟩;have ax:=i7 J;have S:=e.size;exact⟨e.trans f,bk l,ao.mono m (λr _ h=>by have h:U.heap.size<=r:=h;show w.heap.size<=r;omega) λ_ _ h=>h,Ω,λa B=>P8 B⟩
 have S:=e.size;refine bX.range 60 (λk out V=>Ext U V/\bC (ea U.heap.size) bu V [out] ((Z8 k).map (kw l))) Ω ⟨Ext.refl _,gS⟩ ?_ ?_
 .rintro k out V W hk ⟨f,m⟩ X;refine bE Ω ?_;have C:=e.trans f;rw[aU an.u (h.ext C)];refine iU (k:=.i64) an.u ai.i Ω Ω λp Y aA K M=>?_;have Z:au .i64 ai Y p (.slice (σ ⟨p,0,ν⟩) l.length l.length) (r9 l.length 0):=by
   refine au.of (n:=l.length) ⟨Ξ,.inr ⟨l.length,ints .i64 (r9 l.length 0),rfl,M,Ω,by simp only[maxLen];omega,Ξ,Ξ⟩⟩
  have aa:=C.trans K;have aB:=f.size;have aC:=M.lt;rw[aU an.u (h.ext aa)];refine ch.range l.length (λq y=>Ext V y/\au .i64 ai y p (.slice (σ ⟨p,0,ν⟩) l.length l.length) (upto (kw l k) 0 q)) h.le ⟨K,by rw[oO,q5];exact Z⟩ ?_ ?_
  .rintro q y ab ac ⟨s,j⟩ ad;obtain⟨z,E⟩:=aH (l:=l) ac;have aD:=J z (x5 E);refine bE Ω ?_;have aE:0<=(k:Int)*(2*(q:Int)+1)/\(k:Int)*(2*(q:Int)+1)<=60*200:=⟨Int.mul_nonneg Ω Ω,Int.mul_le_mul Ω Ω Ω Ω⟩;have aG:0<=(k:Int) / 3/\(k:Int) / 3<=60:=Ω
   have aI:(2*(q:Int)+1)=2*(q:Int)+1:=rfl;rw[be an.u ai.i Ψ (h.ext (C.trans s)) E,gE,wrap_i64 (x:=2*(q:Int)) Ω Ω,aM,wrap_i64 Ω Ω,gE,wrap_i64 Ω Ω,pR Φ,Int.tdiv_eq_ediv_of_nonneg Ω,wrap_i64 Ω Ω,aM,wrap_i64 Ω Ω,nf Ω,Int.tmod_eq_emod_of_nonneg Ω,
    hn rfl an.u ai.i j (by rw[nw,q5];omega)]
   refine ho ai.i j (by rw[nw,q5];omega) λae G aJ af=>?_;rw[aM];refine ad _ ⟨s.then G λr ag he=>by have he:r=p:=he;omega,?_⟩;rw[<-oQ (EK E)];exact af
  rintro y ab ⟨s,j⟩;refine cm Ω ?_;rw[show upto (kw l k) 0 l.length=kw l k by rw[<-q5 l k,oP]] at j;have z4:=s.size;refine jw (α:=Λ) (a:=kw l k) (A:=ea V.heap.size) (R:=bu) de.u an.i Φ (oC (kM j (R:=bu))) (ao.mono (kM j) (λr _ h=>by subst h;show V.heap.size<=r;omega) λ_ _ h=>h) λaL ae H _ G=>?_;have N:=s.trans H;have z5:=H.size;refine mi (α:=Λ) (a:=kw l k) (A:=ea V.heap.size) de.u an.i rfl (bW (lI m) N) G (bW (ao.mono (kM j) (λr _ h=>by subst h;show V.heap.size<=r;omega) λ_ _ h=>h) H) (λr _ h h'=>?_) (by simp only[u7,List.length_range];omega) (by simp only[u7,List.length_range];omega) λaO aP ah aj=>?_
  .rcases h' with h'|h'
   .have:=h.2;have:V.heap.size<=r:=h';omega
   .exact h'
  rw[aM];refine X _ _ ⟨(f.trans N).then aj (λr ag h=>by have:=h.1;have:U.heap.size<=r:=this;omega),?_⟩;rw[List.range_succ,b6,List.map_singleton];refine ao.mono ah (λr _ h=>?_) λ_ _ h=>h;show U.heap.size<=r;rcases h with h|h|h
  .exact h.1
  .have:V.heap.size<=r:=h;omega
  .omega
 .rintro out V W ⟨f,m⟩;rw[show ((60:Nat):Int)=60 from rfl,aN,al];refine⟨λh=>Ω,λ_=>⟨e.trans f,_,ao.mono m (λr _ h=>by have h:U.heap.size<=r:=h;show w.heap.size<=r;omega) λ_ _ h=>h,Ξ,λa B=>?_⟩⟩;obtain⟨k,_,rfl⟩:=n9.1 B;exact P7 k J
section
variable {w:x3} {ad ag:Nat} {A R:ak} {n:aR} {s:av} {t:aB}
theorem QB {i:Nat} {x:br} (a:bq n.k n.sizes s) (I:s.vars[i]? =σ x) (ac:v∈aE x):ez n s (i:Int) v=x.un.getD v.toNat 0:=by
 unfold ez;rw[if_pos (n4 a I ac),u6];unfold gM;rw[I]
theorem tT {i:Nat} {x:br} (I:s.vars[i]? =σ x):cq s (i:Int)=aE x:=by
 unfold cq;rw[u6,I]
theorem EU {i:Nat} {x:br} (a:bq n.k n.sizes s) (I:s.vars[i]? =σ x):gb n s (i:Int)=cT n.k (aE x) λv=>x.un.getD v.toNat 0:=by
 unfold gb;rw[tT I];exact Qi λv ac=>QB a I ac
theorem xx {i:Nat} (a:bq n.k n.sizes s) (e:eN (cS n) s) (hi:i<n.sizes.length):eM n s (i:Int)=true/\ ∃x,s.vars[i]? =σ x:=by
 have f:=a.vars;obtain⟨x,I⟩:=aH (l:=s.vars) (i:=i) Ω;refine⟨?_,x,I⟩;unfold eM iG;rw[u6,I,decide_eq_true (show (0:Int)<=i/\(i:Int)<n.sizes.length by omega)];simp[Qz e I]
def jl (n:aR) (s:av) (all:Int) (i:Nat):Int:=if eM n s (i:Int)=true then min (all+(gb n s i).1) n.k else all
theorem xy {all:Int} {i:Nat} (h:eM n s (i:Int)=true):jl n s all i=min (all+(gb n s i).1) n.k:=if_pos h
theorem EV {all:Int} {i:Nat} (h:eM n s (i:Int)=false):jl n s all i=all:=if_neg (by rw[h];decide)
theorem xz (a:bq n.k n.sizes s):∀m,0<=(Z8 m).foldl (jl n s) s.zero/\(Z8 m).foldl (jl n s) s.zero<=n.k
 |0=>a.zero
 |m+1=>by
  have e:=xz a m;have f:=tQ (i:=(m:Int)) a;rw[List.range_succ,U9];show 0<=jl n s _ m/\jl n s _ m<=n.k;cases ac:eM n s (m:Int) with
  |true=>rw[xy ac];omega
  |false=>rw[EV ac];exact e
theorem xA (h:bx w ad ag A R n s t) (y:Laid w):am x7 FQ [Γ ad] w λr w'=>Ext w w'/\r= .tuple #[Δ (pw n s),Δ 0]:=by
 have e:=h.2.2.2.1;have O:=e.vars;have P:=e.fk.2.1;refine az func20 ?_;rw[c5 dy.u];simp only[b9,aY];refine (qO h).mono ?_;rintro _ U _ ⟨rfl,m⟩;refine (wQ (h.ext m)).mono ?_;rintro _ V _ ⟨rfl,z⟩;have B:=m.trans z;refine bX.range n.sizes.length (λi all f=>Ext w f/\all=Δ ((Z8 i).foldl (jl n s) s.zero)) Ω ⟨B,rfl⟩ ?_ ?_
 .rintro i _ f C hi ⟨a,rfl⟩ E;have G:=xz e i;have H:=tQ (i:=(i:Int)) e;refine bE Ω ?_;refine aV (λr w'=>Ext w w'/\r=Δ ((Z8 (i+1)).foldl (jl n s) s.zero)) (λr w' J=>by rw[aM];exact E _ _ J) λay p=>?_;have q:(Z8 (i+1)).foldl (jl n s) s.zero=jl n s ((Z8 i).foldl (jl n s) s.zero) i:=by rw[List.range_succ,U9];rfl
  refine (DV (i:=(i:Int)) (h.ext a) (y.ext a)).mono ?_;rintro r Q _ ⟨K,L,M⟩;have j:=a.trans K;cases ac:eM n s (i:Int) with
  |false=>
   obtain rfl:=L ac;rw[fy,fz,fA,bh,al];refine⟨λh=>absurd h Φ,λ_=>p _ _ ⟨j,?_⟩⟩;rw[q,EV ac]
  |true=>
   obtain⟨x,I⟩:=aH (l:=s.vars) (i:=i) Ω;obtain rfl:=M x ac (by rw[u6];exact I);have el:cT n.k (aE x) (ez n s (i:Int))=gb n s (i:Int):=by unfold gb;rw[tT I]
   rw[el,fy,fz,fA,bh,al];refine⟨λ_=>?_,λh=>absurd rfl h⟩;refine (wX (h.ext j) G H).mono ?_;rintro _ S _ ⟨rfl,N⟩;refine p _ _ ⟨j.trans N,?_⟩;rw[q,xy ac]
 .rintro _ f C ⟨a,rfl⟩;exact cm Ω ⟨a,rfl⟩
end
theorem QC {p H:x1} {L:List ky} {Q:x1->x3->Prop} (J:∀w',Ext w w'->Q (.bool true) w') (U:aF .u8 w p pl) (V:∀b∈pl,0<=b/\b<256) (W:Seen eX w [H] L) (X:∀x∈L,(l0 x).ok) (Y:eg w) (aa:Laid w):
  am x7 yW [p,H] w Q:=by
 refine az func6 ?_;refine ES U V Y aa ?_ ?_
 .intro g w' I;rw[bI,W5,bQ,c5 dy.u];exact J _ I
 intro f ad ag aq Z aI aZ ae ab af ah;rw[bI,Y7,aY];refine ET ⟨ab,_,Z,aI,af,ah⟩ W X ?_;rintro ai ⟨aj,s,a1,a2,m,a6⟩;generalize cP f=n at*;obtain⟨e,a7,ak,_⟩:=m.ok;have a8:=e.vars;have ba:=e.eh;have ao:=e.fk.2.1;obtain⟨szv,bb,bd,be,bf,bg,y,B,_⟩:=m.look;rw[aT bc.p 2 y rfl,aT bc.p 1 y rfl,aU an.u B];refine bX.range n.sizes.length (λi ap C=>Ext ai C/\ap=Δ ((Z8 i).foldl (jl n s) s.zero)) B.le ⟨Ext.refl _,rfl⟩ ?_ ?_
 .rintro i _ C au hi ⟨j,rfl⟩ av;obtain⟨ac,x,I⟩:=xx e ak hi;have bh:=xz e i;have aw:=tQ (i:=(i:Int)) e;rw[EU e I] at aw;refine bE Ω ?_;refine (m.ext j).look.load λe7 ax=>?_;refine (Qm ax e I).mono ?_;rintro _ bk _ ⟨K,rfl⟩;rw[bi,bj,aT bc.p 0 (y.ext (j.trans K)) rfl];refine (nA Ω Ω).mono ?_;rintro _ bl _ ⟨rfl,aA⟩;rw[aM];refine av _ _ ⟨(j.trans K).trans aA,?_⟩;rw[List.range_succ,U9,<-EU e I];show _=W8 .i64 (jl n s _ i);rw[xy ac]
 rintro _ C au ⟨j,rfl⟩;refine cm Ω ?_;have aB:=m.ext j;obtain⟨A,R,t,aC,aD,_⟩:=aB.ey;refine (xA aC aD).mono ?_;rintro _ aE _ ⟨aG,rfl⟩;rw[bi,bj];have z:=j.trans aG;refine aV (λr w'=>r= .bool false/\aE=w') ?_ λay E=>?_
 rotate_left
 .rw[bz,al];refine⟨λh=>absurd rfl h,λ_=>?_⟩;rw[bz];exact E _ _ ⟨by congr 1;exact decide_eq_false λh=>h rfl,rfl⟩
 rintro _ _ ⟨rfl,rfl⟩;rw[aY,aT bc.p 1 (y.ext z) rfl];refine (QA (B.ext z) e.fk.2.2 ao).mono ?_;rintro bm aJ _ ⟨M,N,O,bn,aK⟩;rw[io de.u O];refine bX.range N.length (λk _ G=>Ext aJ G) Ω (Ext.refl _) ?_ ?_
 .rintro k t4 G aO hk q aP;obtain⟨tl,P⟩:=aH (l:=N) hk;have S:=P9 e (aK tl (x5 P));refine bE Ω ?_;refine kL (α:=Λ) (a:=tl) rfl rfl de.u an.i Ψ (bW O q) P λaL aR=>?_;obtain⟨aQ,R',bw,aS,_⟩:=(m.ext ((z.trans M).trans q)).ey;refine (Ov aS (eE (iV aR))).mono ?_;rintro _ aW _ ⟨⟨ac,_⟩,aX⟩;obtain rfl:=ac S;rw[bi,bj];refine aV (λr w'=>r= .bool false/\aW=w') ?_ λay E=>?_
  .rintro _ _ ⟨rfl,rfl⟩;rw[aY,aM];exact aP _ _ (q.trans aX)
  rw[bz,al];refine⟨λh=>absurd rfl h,λ_=>?_⟩;rw[aN];refine E _ _ ⟨?_,rfl⟩;congr 1;have:=PV e S;exact decide_eq_false Ω
 .rintro t4 G aO q;exact cm Ω (J _ (((aj.trans z).trans M).trans q))
theorem QD {p a:x1} {L:List ky} (e:aF .u8 w p pl) (f:∀b∈pl,0<=b/\b<256) (h:Seen eX w [a] L) (j:∀x∈L,(l0 x).ok) (m:eg w) (q:Laid w):
  am x7 yW [p,a] w λv w'=>v= .bool true/\Ext w w':=QC (λw' I=>⟨rfl,I⟩) e f h j m q
section
variable {w:x3} {ad ag:Nat} {A R:ak} {n:aR} {s:av} {t:aB}
theorem EW {i:Nat} (h:bx w ad ag A R n s t) (a:Laid w) (ac:eM n s (i:Int)=true):am x7 y0 [Γ ad,Δ (i:Int)] w λr w'=>Ext w w'/\r= .tuple #[Δ (gb n s (i:Int)).1,Δ (gb n s (i:Int)).2,Δ 0]:=by
 obtain⟨_,x,I,_⟩:=qU h.2.2.2.1 ac;rw[u6] at I;refine (DV (i:=(i:Int)) h a).mono ?_;rintro r j _ ⟨e,_,f⟩;refine⟨e,?_⟩;rw[f x ac (by rw[u6];exact I)];unfold gb;rw[tT I]
theorem EX {i:Nat} (h:bx w ad ag A R n s t) (a:Laid w) (ac:eM n s (i:Int)=true):am x7 y1 [Γ ad,Δ (i:Int)] w λr w'=>Ext w w'/\r= .tuple #[Δ (n7 n s (i:Int)).1,Δ (n7 n s (i:Int)).2,Δ 0]:=by
 obtain⟨_,x,I,_⟩:=qU h.2.2.2.1 ac;rw[u6] at I;refine (PU (i:=(i:Int)) h a).mono ?_;rintro r j _ ⟨e,_,f⟩;refine⟨e,?_⟩;rw[f x ac (by rw[u6];exact I)];unfold n7;rw[tT I]
end
theorem QE {p aG:x1} {i:Int} {L:List ky} {Q:x1->x3->Prop} (aJ:∀w',Ext w w'->Q (.bool true) w') (bh:aF .u8 w p pl) (bk:∀b∈pl,0<=b/\b<256) (bl:Seen eX w [aG] L) (bm:∀x∈L,(l0 x).ok) (hi:0<=i/\i<256) (ac:0<=v/\v<256) (bn:eg w) (bo:Laid w):
  am x7 yV [p,aG,.int .u8 i,.int .u8 v] w Q:=by
 refine az func5 ?_;refine ES bh bk bn bo ?_ ?_
 .intro g w' I;rw[bI,W5,bQ,c5 dy.u];exact aJ _ I
 intro f ad ag aq Z aI b8 ae bq br bt;rw[bI,Y7,aY];refine ET ⟨bq,_,Z,aI,br,bt⟩ bl bm ?_;rintro H ⟨bu,s,b9,ca,J,bw⟩;generalize cP f=n at*;obtain⟨e,cb,aK,_⟩:=J.ok;have cc:=e.vars;have ce:=e.eh;have cg:=e.fk.1;have ch:=e.fk.2.1;have bx:=J.lt;obtain⟨szv,ci,cj,ck,cl,cn,aL,aO,_⟩:=J.look;obtain⟨m,bA⟩:∃m:Nat,(m:Int)=i % n.sizes.length:=⟨(i % n.sizes.length).toNat,Int.toNat_of_nonneg (Int.emod_nonneg _ Ω)⟩;have cp:=Int.emod_lt_of_pos i (show (0:Int)<n.sizes.length by omega);rw[aT bc.p 1 aL rfl,aU an.u aO,eW cD.u ai.u,wrap_i64 Ω Ω,nf Ω,Int.tmod_eq_emod_of_nonneg hi.1,<-bA];obtain⟨A,R,A9,t,cs,aP,⟨K,bB⟩,_,Y,_⟩:=id J;have M:=aP.ey;have bC:¬A 0:=λh=>bB ((Y 0).2 (.inl h));have aa:∀r,A r->w.heap.size<=r/\r<H.heap.size:=λr h=>⟨bw r ((Y r).2 (.inl h)),bx r ((Y r).2 (.inl h))⟩;refine (xA M K).mono ?_;rintro _ cq _ ⟨bD,rfl⟩;rw[bi,bj];obtain⟨F1,aR⟩:∃F1:Nat->Int,F1=λu:Nat=>(gb n s (u:Int)).1:=⟨_,rfl⟩;obtain⟨F2,aS⟩:∃F2:Nat->Int,F2=λu:Nat=>(n7 n s (u:Int)).1:=⟨_,rfl⟩;have ab:∀ {r:Nat},¬leads (.slice ν 0 0) r:=λh=>by obtain⟨_,_,_,N,_⟩:=h;cases N
 refine l8.range n.sizes.length (λq a b C=>Ext H C/\(∃g,au .i64 ap C g a ((Z8 q).map F1))/\(∃g,au .i64 ap C g b ((Z8 q).map F2))/\(∀r,leads a r\/leads b r->H.heap.size<=r)/\ ∀r,leads a r->¬leads b r) Ω ⟨bD,⟨0,au.nil _ _ _ _⟩,⟨0,au.nil _ _ _ _⟩,λr h=>(h.elim ab ab).elim,λr h=>(ab h).elim⟩ ?_ ?_
 .rintro q bF af C bG E ⟨j,⟨g1,ah⟩,⟨bH,O⟩,B,aj⟩ bJ;obtain⟨P,_⟩:=xx e aK E;refine bE Ω ?_;refine (EW (M.ext j) (K.ext j) P).mono ?_;rintro _ cr _ ⟨aW,rfl⟩;have ak:=j.trans aW;rw[fy,fz,fA];refine (EX (M.ext ak) (K.ext ak) P).mono ?_;rintro _ bK _ ⟨aX,rfl⟩;have aZ:=ak.trans aX;have ao:=aW.trans aX;have ct:=aZ.size;rw[fy,fz,fA];have bL:∀r,leads af r->r<bK.heap.size:=λr h=>by have:=bM (O.ext ao) h;omega
  refine Eo (ah.ext ao) (by rw[u7,List.length_range];omega) λbN cu bO av a1 a2=>?_;have cw:=av.size;have aw:=bp (O.ext ao) av λr h h'=>aj r h' h;refine Eo aw (by rw[u7,List.length_range];omega) λcz bP bR a6 a7 a8=>?_;rw[aM];have ba:∀r,leads bN r->¬leads af r:=λr h h'=>(a2 r h).elim (λh=>aj r h h') λh=>by have:=bL r h';omega
  have bS:Ext H bP:=(aZ.then av λr bb h=>by have:=B r (.inl h);omega).then a6 λr bb h=>by have:=B r (.inr h);omega
  refine bJ _ _ _ ⟨bS,⟨bO,?_⟩,⟨bR,?_⟩,λr h=>?_,λr h h'=>?_⟩
  .rw[List.range_succ,b6];have:=bp a1 a6 λr h h'=>ba r h h';rw[aR] at this ⊢;exact this
  .rw[List.range_succ,b6];rw[aS] at a7 ⊢;exact a7
  .rcases h with h|h
   .exact (a2 r h).elim (λh=>B r (.inl h)) λh=>Ω
   .exact (a8 r h).elim (λh=>B r (.inr h)) λh=>Ω
  .rcases a8 r h' with h'|h'
   .exact ba r h h'
   .have:=bM a1 h;omega
 rintro bF af C bG ⟨j,⟨g1,ah⟩,⟨bH,O⟩,B,aj⟩;refine cm Ω ?_;obtain⟨z,S⟩:=aH (l:=n.sizes) (i:=m) Ω;have cA:=e.fk.2.2 z (x5 S);obtain⟨x,I⟩:=aH (l:=s.vars) (i:=m) Ω;have cB:=(e.var m x z I S).1;have bd:=Int.emod_nonneg v (show z≠0 by omega);have bT:=Int.emod_lt_of_pos v (show 0<z by omega);rw[eW cD.u ai.u,wrap_i64 Ω Ω,aT bc.p 1 (aL.ext j) rfl,be an.u ai.i Ψ (aO.ext j) S,nf Ω,Int.tmod_eq_emod_of_nonneg ac.1];have bU:eL n (m:Int) (v % z):=⟨Ω,Ω,bd,by rw[u6,v8,S,V1];exact bT⟩;refine (ts (M.ext j) (.inl aP.hN.1)).mono ?_;rintro cC aA _ ⟨_,bV⟩;obtain⟨rfl,cE,aQ,y,U,V⟩:=bV bU;rw[u6] at V;have aB:Laid aA:=js U.1 bC (K.ext j);have aC:0<=v % z/\v % z<x.un.length:=⟨bd,Ω⟩;have bf:=bp ah U.1 λr h h'=>by have:=B r (.inl h);have:=aa r h';omega
 have aw:=bp O U.1 λr h h'=>by have:=B r (.inr h);have:=aa r h';omega
 have bW:Ext w aA:=(bu.trans j).then U.1 λr bb h=>by have:=aa r h;omega
 refine (xA V aB).mono ?_;rintro _ bY _ ⟨bZ,rfl⟩;rw[bi,bj];have cF:=PY e I aC;refine aV (λr w'=>r= .bool false/\bY=w') ?_ λay W=>?_
 rotate_left
 .rw[bz,al];refine⟨λh=>absurd rfl h,λ_=>?_⟩;rw[aN];exact W _ _ ⟨by congr 1;exact decide_eq_false Ω,rfl⟩
 rintro _ _ ⟨rfl,rfl⟩;rw[aY];refine bX.range n.sizes.length (λq _ aD=>Ext aA aD) Ω bZ ?_ ?_
 .rintro q b0 aD b1 E G b2;obtain⟨P,_⟩:=xx e aK E;have bg:eM n (cd s m (v % z).toNat) (q:Int)=true:=by rw[EG I];exact P
  refine bE Ω ?_;refine (EW (V.ext G) (aB.ext G) bg).mono ?_;rintro _ cG _ ⟨b3,rfl⟩;have aE:=G.trans b3;rw[fy,fz,fA];refine (EX (V.ext aE) (aB.ext aE) bg).mono ?_;rintro _ b4 _ ⟨b5,rfl⟩;have X:=aE.trans b5;rw[fy,fz,fA];have d1:=EH (i:=(q:Int)) e I aC;have d2:=Qh (i:=(q:Int)) e I aC;have N:((Z8 n.sizes.length).map F1)[q]? =σ (gb n s (q:Int)).1:=by rw[x8,List.getElem?_range E,aR];rfl
  have b7:((Z8 n.sizes.length).map F2)[q]? =σ (n7 n s (q:Int)).1:=by rw[x8,List.getElem?_range E,aS];rfl
  refine aV (λr w'=>r= .bool false/\b4=w') ?_ λay W=>?_
  .rintro _ _ ⟨rfl,rfl⟩;rw[aY,aM];exact b2 _ _ X
  rw[be ax.u ap.i Ψ (bf.ls.ext X) N,aN,al];refine⟨λh=>absurd h Ω,λ_=>?_⟩;rw[be ax.u ap.i Ψ (aw.ls.ext X) b7,aN,al];refine⟨λh=>absurd h Ω,λ_=>?_⟩;rw[bz,al];refine⟨λcH=>?_,λ_=>W _ _ ⟨rfl,rfl⟩⟩;rw[be ax.u ap.i Ψ (bf.ls.ext X) N,bz];refine W _ _ ⟨?_,rfl⟩;congr 1;refine decide_eq_false λh=>h ?_;rw[PX I (by rw[u6];omega)]
 .rintro b0 aD b1 G;exact cm Ω (aJ _ (bW.trans G))
theorem QF {p a:x1} {i:Int} {L:List ky} (e:aF .u8 w p pl) (f:∀b∈pl,0<=b/\b<256) (h:Seen eX w [a] L) (j:∀x∈L,(l0 x).ok) (hi:0<=i/\i<256) (ac:0<=v/\v<256) (m:eg w) (q:Laid w):
  am x7 yV [p,a,.int .u8 i,.int .u8 v] w λv w'=>v= .bool true/\Ext w w':=QE (λw' I=>⟨rfl,I⟩) e f h j hi ac m q
end Go.Proofs.YtmgflbkdggdhoaaGreatDoor
