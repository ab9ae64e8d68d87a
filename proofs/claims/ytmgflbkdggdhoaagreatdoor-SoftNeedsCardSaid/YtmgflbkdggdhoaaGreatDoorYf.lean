/- own texts, made small by a tool (wip/ holds them as they were written): no statement of the seat. -/
import Derived.Test.YtmgflbkdggdhoaaGreatDoorYe
set_option linter.unusedVariables false
set_option linter.unusedSimpArgs false
set_option linter.unnecessarySimpa false
open Array renaming getElem?_eq_some_iff→n9
open Bool renaming not_true→Y6,not_false→X9,and_eq_true→V1,true_and→T3
open Decidable renaming not_not→Z9
open Go renaming Value→x1,World→x3,TypeId→r9,IntKind→o5,FuncId→R3
open Go.Builtin renaming append_→b9,len_→W8
open Go.Instr renaming loadAt→u4,fieldAt→u5,storeAt→o6,indexAt→j4,extract→Z7,alloc→S7
open Go.IntKind renaming i64→X2,u64→U3
open Go.Proofs.Tryz renaming prog→x7
open Int renaming toNat_natCast→u6,eq_ofNat_of_zero_le→W6
open List renaming getElem?_eq_some_iff→x4,mem_of_getElem?→x5,getElem?_eq_getElem→x6,getElem?_map→x8,getD_eq_getElem?_getD→v8,length_map→u7,take_add_one→u9,replicate→r8,take_length→p9,length_append→o4,mem_append→o7,mem_singleton→o8,mem_map→l9,eq_nil_of_length_eq_zero→j5,length_take→j6,getElem?_set_self→c7,length_set→c8,length_cons→c9,take_of_length_le→b8,map_append→Z0,getElem?_eq_none→Z6,getElem?_set_ne→Y0,ext_getElem?→Y3,mem_iff_getElem?→X1,range→X4,flatMap_cons→X7,length_eq_one_iff→W7,mem_cons→W9,map_set→V8,append_nil→U4,map_cons→U7,foldl_cons→U8,mem_of_mem_take→T4,mem_filter→T6,foldl_append→S1,length→S6
open Nat renaming le_refl→p8,le_trans→Y9,zero_add→X0,mul_one→U1,pow_le_pow_right→T8,lt_of_lt_of_le→R6,eq_zero_or_pos→R7
open Option renaming toList_some→o9,map_some→Z3,isNone_some→Z4,map_eq_some_iff→Y5,getD_some→V9,isSome_some→T1,isSome_none→S5
open Option.some renaming inj→b6
set_option maxHeartbeats 16000000
open Option renaming some→σ,none→ν
variable {B a j m pos:Nat}{c k v:Int}{l pl:Λ}{V aa w w':x3}
namespace Go.Proofs.YtmgflbkdggdhoaaGreatDoor
open Go Go.Vc Go.RowKit Go.Proofs Go.Proofs.Tryz
set_option maxRecDepth 100000
section
variable {ae gT gs bF bn a7 B0:Nat} {R:ak} {n:aR} {s:av} {aG:x1} {sc:Λ} {v:Int}
theorem Er {dS:Nat} (O:∀u∈sc,0<=u/\u<n.sizes.length) (P:sc.length<=6):
  pC x7 true false ly [Γ bF,Γ bn,Γ a7,Γ gs] 0 (λk=>k=(bL s sc dS v).length)
   (λk vs Q w=>Q=k+1/\ ∃tl aI,(bL s sc dS v)[k]? =σ tl/\vs=[aI]/\aF .i64 w aI tl) (fY ae gT R n s gs bF bn a7 aG sc dS v B0):=by
 refine⟨ly.enters,λl aA aU w S _ W hf X=>?_⟩;have A:∀D k V aa,ah (λr=>w.heap.size<=r/\¬D r) V aa->fs w.heap.size V aa->aA D k V->aA D k aa:=λD k V aa Y Z=>S D k V aa (Y.mono λr _ h=>⟨rfl,h⟩) Z;have U:=hf.2.2.1;have ad:=hf.2.2.2.2.1.2;obtain⟨_,_,_,aV⟩:=c4 U;refine pM func227 ?_;refine aD.cu (be λgy V aX j C af=>?_);have aj:∀ {E:x3} {K:x1->Prop},ag E bF an [aG]->K aG->ac x7 (u4 an (Γ bF)) E K:=λak al=>by rw[ay (v:=aG) Ψ (ak.Qz rfl)];exact al
 refine aj (hf.1.2.1.ext j) ?_;rw[aW an.u (U.ext j)];refine aD.cu (jx (k:=.i64) an.u ai.i Ω Ω λgt aa aY y G am=>?_);refine aD.cu (bD an.i λgtb aZ a1 m H ao=>?_);refine aD.cu (bq an.i rfl rfl H (by simp[x1.cells]) λa2 z a6 ap aq=>?_);refine aD.cu (bD oq.i λga a8 ba e I av=>?_);rw[ix];refine aD.cu (bq oq.i rfl rfl I (by simp[x1.cells]) λa p bb aw ax=>?_);have bc:=j.size;have bd:=y.size;have z3:=m.size;have z5:=e.size;have bf:=C.lt;have bg:=G.lt;have bh:=H.lt;have bi:=I.lt;have az:ag a gy zq [.func (.yield l) #[] #[]]:=(((((ag.ext C y).ext m).ab z Ω).ext e).ab p Ω);have aB:ag a gt ai (ints .i64 (r8 sc.length 0)):=((((G.ext m).ab z Ω).ext e).ab p Ω);have aC:ag a gtb an [.slice (σ ⟨gt,0,ν⟩) sc.length sc.length]:=((ag.ext ap e).ab p Ω);have J:ag a ga oq [.func (.func lz) #[] (jQ bF gy gtb bn a7 ga gs)]:=aw;rw[ay (v:=.func (.func lz) #[] (jQ bF gy gtb bn a7 ga gs)) Ψ (J.Qz rfl)];have hm:au .i64 ai a gt (.slice (σ ⟨gt,0,ν⟩) sc.length sc.length) (r8 sc.length 0):=by
  have:=bW.full (n:=sc.length) (k:=1) aB Ξ (by simp only[maxLen];omega);unfold au;rw[List.length_replicate];exact this
 have aE:=(j.trans y).trans m;have M:ah (λr=>w.heap.size<=r/\¬False) w a:=(((aE.ab _).trans (z.mono λr _ h=>⟨by have h:r=gtb:=h;omega,id⟩)).trans (e.ab _)).trans (p.mono λr _ h=>⟨by have h:r=ga:=h;omega,id⟩);have aH:cM w a:=((((af.trans am).trans ao).trans aq).trans av).trans ax;have aJ:fY ae gT R n s gs bF bn a7 aG sc dS v B0 (λ_=>False) a:=hf.own M λr aK=>⟨Ω,aK.2⟩;have N:=Pt (s:=s) (sc:=sc) (pos:=dS) (v:=v) (tl:=r8 sc.length 0) Ξ;refine (show gx x7 lz (tE 0 bF gy gtb bn a7 ga gs) a _ from (Py (L:=bL s sc dS v) (B:=w.heap.size) (l:=l) (gy:=gy) (gt:=gt) (gtb:=gtb) (ga:=ga) (pos:=dS) Ω O P ad ⟨Ω,Ω,Ω⟩ A ?_ sc.length 0 (r8 sc.length 0) 0 (λ_=>False) a Ω Ξ (λ_ h=>h.elim) Ω ⟨⟨Ω,id⟩,⟨Ω,id⟩,⟨Ω,id⟩,Ω,id⟩ ⟨az,aC,J,hm⟩ aJ (A _ _ _ _ M aH.o X) λi x hi=>?_).free.mono ?_)
 .intro D k tl aI w' aL aM aN aO aP q;refine hD.mono (W D k (k+1) [aI] w' aL aM aN ⟨rfl,tl,aI,aO,rfl,aP⟩ q) ?_;rintro u bj (⟨h1,aQ,aR,aS,aT⟩|⟨h,_⟩)
  .exact⟨h1,aQ,aR (.inr rfl),aS,aT rfl⟩
  .cases h
 .rw[N] at hi;rw[X0];exact hi
 .rintro _ bk ⟨_,rfl,_,D',_,_,_,_,_,_,q,_⟩;rw[N,X0] at q;exact .inl ⟨D',_,rfl,q⟩
end
def Es (m gs bF bn a7:Nat) (aG:x1):Prop:=(m<=gs/\m<=bF/\m<=bn/\m<=a7)/\ ∀r,leads aG r->m<=r
section
variable {ae gT gs bF bn a7 B0 m:Nat} {A R:ak} {n:aR} {s s':av} {t:aC} {aG:x1} {sc:Λ} {pos v:Int} {w w':x3}
theorem bw.lt (h:bw w ae gT A R n s t) {r:Nat} (a:A r\/R r):r<w.heap.size:=by
 obtain⟨⟨j,m,p,q,⟨_,_,e,f⟩,_⟩,_⟩:=h;exact a.elim (f r) (e r)
theorem fY.put {D D' S:Nat->Prop} (h:fY ae gT R n s gs bF bn a7 aG sc pos v B0 D w) (j:ah S w w') (hm:Es m gs bF bn a7 aG) (y:∀r,S r->r<m\/B0<=r) (z:Laid w') (B:bw w' ae gT A R n s' t) (C:∀i,cj s' i=cj s i) (E:∀r,A r\/R r->r<B0\/D' r):fY ae gT R n s gs bF bn a7 aG sc pos v B0 D' w':=by
 obtain⟨h1,f,p,q,F,_⟩:=h;have no:∀ {r:Nat},m<=r->r<B0->¬S r:=λh1 f p=>by have:=y _ p;omega
 exact⟨h1.ab j ⟨no hm.1.1 f.1,no hm.1.2.1 f.2.1,no hm.1.2.2.1 f.2.2.1,no hm.1.2.2.2 f.2.2.2⟩,f,hP p j λr G a n c e x=>no (hm.2 r ⟨a,n,c,e,x⟩) (q r ⟨a,n,c,e,x⟩) G,q,⟨z,Y9 F.2 j.size⟩,A,s',t,B,C,E⟩
theorem Et {f:cb} {q:x3->Prop} {K:x1->x3->Prop} (h:bw w ae gT A R n s t) (x:Laid w) (af:s.funs[j]? =σ f)
  (y:∀aG gs bF bn a7 w',Ext w w'->Es w.heap.size gs bF bn a7 aG->fY ae gT R n s gs bF bn a7 aG f.sc pos v w'.heap.size (λ_=>False) w'->K (.func (.func ly) #[] #[Γ bF,Γ bn,Γ a7,Γ gs]) w'):
  am x7 pH [Γ ae,Δ (j:Int)] w λaG V=>(Ext w V\/q V)/\am x7 zi [Γ ae,aG,Δ pos,Δ v] V K:=by
 refine (la h af).mono ?_;rintro aG V _ ⟨m,g,B,hm⟩;refine⟨.inl m,(Pu hm.ls).mono ?_⟩;rintro _ aa _ ⟨p,gs,bF,bn,a7,rfl,a,C,E,G,H⟩;have J:=m.trans p;have I:=m.size;have z:=J.size;refine y aG gs bF bn a7 aa J ⟨⟨Ω,Ω,Ω,Ω⟩,λr e=>(bO hm e).1▸B⟩ ⟨a,⟨a.1.lt,a.2.1.lt,a.2.2.1.lt,a.2.2.2.lt⟩,hm.ls.ext p,λr e=>?_,⟨x.ext J,p8 _⟩,A,s,t,h.ext J,λ_=>rfl,λr e=>.inl ?_⟩
 .have:=bO hm e;have:=p.size;omega
 .have:=h.lt e;omega
end
section
variable {k:Int} {sizes:Λ} {s:av} {f:cb} {j pos:Nat} {v:Int} {tl:Λ}
theorem Eu (af:s.funs[j]? =σ f) (a:f.live≠0) (hm:ci f.aj tl 0=σ (m:Int)):(gL s j tl).isSome=true/\lU s j tl=bj f.aj f.cs tl:=by
 unfold gL lU;rw[af];simp[a,hm]
end
section
variable {w:x3} {ae gT:Nat} {A R:ak} {n:aR} {s:av} {t:aC}
theorem Pz {f:cb} (h:bw w ae gT A R n s t) (ak:Laid w) (af:s.funs[j]? =σ f) (az:f.live≠0) (ad:∀u,f.sc[pos]? =σ u->v∈cj s u):
  am x7 GV [Γ ae,Δ (j:Int),Δ (pos:Int),Δ v] w λr w'=>r=Δ (lX n.k s f pos v)/\Ext w w':=by
 have al:=h.2.2.2.1;have an:=x5 af;obtain⟨N,aT,_⟩:=al.funs f an;refine h2 func111 ?_;refine be λg1 V aU O y=>?_;refine be λP aa aV K L=>?_;have y:ag aa g1 dz [Γ ae]:=ag.ext y K;have L:ag aa P ai [Δ (j:Int)]:=L;rw[ay (v:=Γ ae) Ψ (y.Qz rfl)];refine (k9 (h.ext (O.trans K))).mono ?_;rintro _ aW _ ⟨rfl,Q⟩;refine bD ap.i λz aX aY S ao=>?_;have a1:=O.size;have a2:=K.size;have z3:=Q.size;have z4:=S.size;have a6:=y.lt;have a8:=L.lt;have ba:=ao.lt;refine bq ap.i rfl rfl ao (by simp[x1.cells]) λaA U bb W=>?_;have W:ag aA z ap [Δ n.k]:=W;intro X B _ _;have bc:=B.size;have aq:=Q.trans S;have Y:Ext w X:=((((O.trans K).trans Q).trans S).then U (by rintro r p rfl;omega)).trans B;have Z:ag X g1 dz [Γ ae]:=((y.ext aq).ab U Ω).ext B;have au:ag X P ai [Δ (j:Int)]:=((L.ext aq).ab U Ω).ext B;have av:=W.ext B;have bd:=av.lt;rw[ay (v:=Γ ae) Ψ (Z.Qz rfl),ay (v:=Γ ae) Ψ (Z.Qz rfl),ay (v:=Δ (j:Int)) Ψ (au.Qz rfl)];refine Et (h.ext Y) (ak.ext Y) af λaG gs bF bn a7 aB C aC aE=>?_;have bf:=C.size;refine⟨Nat,true,false,ly,#[Γ bF,Γ bn,Γ a7,Γ gs],0,_,_,_,λD k w'=>Ext w w'/\ag w' g1 dz [Γ ae]/\ag w' P ai [Δ (j:Int)]/\ag w' z ap [Δ ((((bL s f.sc pos v).take k).map (bj f.aj f.cs)).foldl min n.k)],
  λ_ _ _ _=>False,rfl,Er (λu hu=>⟨(N.scope.1 u hu).1,N.vars u hu⟩) N.scope.2,?_,λ_ _ _ J h=>h.ext J,?_,λ_ _ _ _ _ _ _ h=>h,aE,?_,?_,?_,λ_ _ _ h=>h.elim,λ_ _ _ _ h=>h.elim⟩
 .rintro _ _ _ _ ⟨_,_,_,_,rfl,_⟩;rfl
 .rintro D k aF aH M bg ⟨q,E,G,x⟩;have aZ:∀ {g:Nat} {e:r9} {cs:List x1},g<aB.heap.size->ag aF g e cs->ag aH g e cs:=λbh aJ=>aJ.ab M λh=>by have:=h.2.1;omega
  exact⟨q.then M λr p h=>by have:=h.2.1;omega,aZ Ω E,aZ Ω G,aZ Ω x⟩
 .exact⟨Y.trans C,Z.ext C,au.ext C,av.ext C⟩
 .rintro aI D k bi bk bl bm aK ⟨rfl,tl,br,aw,e,aL⟩ ⟨q,E,G,x⟩;cases e;intro bt H _ aM;obtain⟨m,hm⟩:=n0 al an ad (x5 aw);obtain⟨aN,M⟩:=Eu af az hm;rw[ay (v:=Γ ae) Ψ ((E.ext H).Qz rfl),ay (v:=Δ (j:Int)) Ψ ((G.ext H).Qz rfl)];refine (wK (j:=j) (h.ext (q.trans H)) (aL.ext H)).mono ?_;rintro _ bu aO ⟨rfl,aP⟩;have a:=H.trans aP;rw[if_pos aN,M,bo,bp,ay (v:=Δ ((((bL s f.sc pos v).take k).map (bj f.aj f.cs)).foldl min n.k)) Ψ ((x.ext a).Qz rfl),lE];refine aD.cu (bq ap.i rfl rfl (x.ext a) Ξ λax I bx ac aQ=>?_);have bz:=a.size;have ah:Ext w ax:=(q.trans a).then I (by rintro r p rfl;omega);have aR:=h.ext ah;refine⟨⟨D,λr h=>.inl h,λ_ h=>h,(aK.ext a).put I aC (λr p=>.inl (by have p:r=z:=p;omega)) (ak.ext ah) aR (λ_=>rfl) λr p=>.inl (by have:=h.lt p;omega),ah,(E.ext a).ab I Ω,(G.ext a).ab I Ω,?_⟩,aM.trans (aO.jW.trans aQ.jW),(a.ab _).trans (I.mono λr _ h=>.inl (by have h:r=z:=h;omega))⟩;have ac:ag ax z ap [Δ (min ((((bL s f.sc pos v).take k).map (bj f.aj f.cs)).foldl min n.k) (bj f.aj f.cs tl))]:=ac;rw[u9,aw,o9,Z0,S1];exact ac
 .rintro D k bA rfl ⟨q,E,G,x⟩;rw[ay (v:=Δ ((((bL s f.sc pos v).take (bL s f.sc pos v).length).map (bj f.aj f.cs)).foldl min n.k)) Ψ (x.Qz rfl)];intro bB aS _;refine⟨?_,q.trans aS⟩;rw[b8 (p8 _)];rfl
end
def eF (w:x3) (ae gT:Nat) (A R:ak) (n:aR) (s':av) (w':x3):Prop:=ah (eA w) w w'/\Laid w'/\ ∃aS bu,Grow A w aS w'/\bw w' ae gT aS R n s' bu/\eh bu []/\¬aS 0
def gu (w:x3) (ae gT:Nat) (A R:ak) (n:aR) (m:Nat) (D:Nat->Prop) (s':av) (w':x3):Prop:=
 ah (λr=>eA w r\/w.heap.size<=r) w w'/\(Laid w'/\w.heap.size<=m/\0<w.heap.size/\(∀r,A r\/R r->r<w.heap.size))/\ ∃aS bu,Grow A w aS w'/\bw w' ae gT aS R n s' bu/\(eh bu []/\¬aS 0)/\ ∀r,aS r->r<m\/D r
section
variable {w V aa:x3} {ae gT m:Nat} {A R:ak} {n:aR} {s s' tF:av} {t:aC} {D D' S:Nat->Prop}
theorem gu.start (h:bw w ae gT A R n s t) (e:Laid w) (f:¬A 0) (j:eh t []) (J:Ext w V) (hm:w.heap.size<=m):gu w ae gT A R n m D s V:=
 ⟨J.ab _,⟨e.ext J,hm,by
  obtain⟨q,x,y,z,⟨h1,_,_,p⟩,_⟩:=h.1;have:=p _ h1;omega,λr a=>h.lt a⟩,A,t,Grow.ext J,h.ext J,⟨j,f⟩,λr a=>.inl (by have:=h.lt (.inl a);omega)⟩
theorem gu.own (h:gu w ae gT A R n m D s' V) (e:ah S V aa) (f:∀r,S r->m<=r/\¬D r):gu w ae gT A R n m D s' aa:=by
 obtain⟨h1,⟨s,x,y,j⟩,aS,bu,⟨g1,z,B⟩,p,C,q⟩:=h;refine⟨h1.trans (e.mono λr _ h=>.inr (by have:=(f r h).1;omega)),⟨j7 e (λh=>by have:=(f _ h).1;omega) s,x,y,j⟩,aS,bu,⟨?_,z,B⟩,⟨p.1.ab e λr _ a U=>?_,p.2⟩,C,q⟩
 .exact ((g1.mono λr _ h=>.inl h).trans (e.mono λr _ h=>.inr (f r h).1):ah (λr=>A r\/m<=r) w aa).mono λr a h=>h.elim id λh=>Ω
 .obtain⟨F,E⟩:=f r U;rcases a with a|a
  .exact (q r a).elim Ω E
  .have:=j r (.inr a);omega
theorem gu.ext (h:gu w ae gT A R n m D s' V) (J:Ext V aa):gu w ae gT A R n m D s' aa:=h.own (J.ab λ_=>False) λ_ h=>h.elim
theorem gu.open (h:gu w ae gT A R n m D s' V):∃aS bu,bw V ae gT aS R n s' bu/\eh bu []/\ ∀ {aa:x3} {tF:av} {D' a:Nat->Prop} {j:aC},ah (eA V) V aa->Grow aS V a aa->bw aa ae gT a R n tF j->eh j []->(∀r,D r->D' r)->(∀r,V.heap.size<=r->r<aa.heap.size->D' r)->
  gu w ae gT A R n m D' tF aa/\ah (λr=>r<m\/D r) V aa/\ ∀r,a r->r<m\/D' r:=by
 obtain⟨h1,⟨y,z,B,C⟩,aS,bu,E,F,p,q⟩:=h;refine⟨aS,bu,F,p.1,λ{aa tF D' a j} G e s H I J=>?_⟩;have N:=h1.size;have K:¬a 0:=λh=>(e.2.1 0 h).elim p.2 λh=>Ω
 have x:∀r,a r->r<m\/D' r:=λr f=>(e.2.1 r f).elim (λh=>(q r h).imp id (I r)) λh=>.inr (J r h (s.lt (.inl f)));refine⟨⟨h1.trans (G.mono λr _ h=>?_),⟨j7 e.1 p.2 y,z,B,C⟩,a,j,E.trans e,s,⟨H,K⟩,x⟩,e.1.mono λr _ h=>q r h,x⟩;by_cases f:w.heap.size<=r
 .exact .inr f
 .exact .inl (nN (λo L U M=>h1.aZ r o L U λh=>h.elim M f) h)
theorem gu.done (h:gu w ae gT A R n m D s' V) (J:Ext V aa):eF w ae gT A R n s' aa:=by
 obtain⟨h1,⟨e,p,q,s⟩,aS,bu,f,j,a,x⟩:=h.ext J;exact⟨h1.mono λr y h=>h.elim id λh=>Ω,e,aS,bu,f,j,a.1,a.2⟩
end
section
variable {w:x3} {ae gT:Nat} {A R:ak} {n:aR} {s:av} {t:aC}
theorem n1 {u:Nat} {x:bB} (a:bt n.k n.sizes s) (J:s.vars[u]? =σ x) (ad:v∈aB x):fm n (u:Int) v:=by
 have h:=(x4.1 J).1;have j:=a.vars;obtain⟨z,e⟩:=aH (l:=n.sizes) (i:=u) Ω;have m:=(a.var _ x z J e).1;have p:=a.hv.2.2 z (x5 e);have f:=(gq.1 ad).1;refine⟨Ω,Ω,f.1,?_⟩;rw[u6,v8,e,V9];omega
theorem Ev {sizes:Λ} {f:cb} {g:Int->Int} (a:bt k sizes s) (af:s.funs[j]? =σ f):dL s j f (dy g [] f.aj f.cs)=s:=by
 obtain⟨m,p⟩:=jN a (x5 af);rw[Pb m Ω (λ_ h=>absurd h List.not_mem_nil)];have:s.funs.set j f=s.funs:=by
  apply Y3;intro i;by_cases e:j=i
  .subst e;rw[c7 (x4.1 af).1,af]
  .rw[Y0 e]
 unfold dL;show {s with funs:=s.funs.set j f}=s;rw[this]
theorem Ew {u:Nat} {f:cb} {x:bB} {F1 F2:R3} {tup un:Int->Int} (h:bw w ae gT A R n s t) (aO:Laid w) (bh:¬A 0) (bi:eh t []) (af:s.funs[j]? =σ f) (bk:f.live≠0) (hu:f.sc[pos]? =σ (u:Int)) (J:s.vars[u]? =σ x) (ad:v∈aB x)
  (h1:∀tl∈bL s f.sc pos v,(0<=tup (bj f.aj f.cs tl)/\tup (bj f.aj f.cs tl)<=n.k)/\ ∀ {w:x3} {A:ak} {s:av} {t:aC},bw w ae gT A R n s t->am x7 F1 [Γ ae,Δ (bj f.aj f.cs tl),Δ c] w λr w'=>r=Δ (tup (bj f.aj f.cs tl))/\Ext w w')
  (aP:(0<=un (x.un.getD v.toNat 0)/\un (x.un.getD v.toNat 0)<=n.k)/\ ∀ {w:x3} {A:ak} {s:av} {t:aC},bw w ae gT A R n s t->am x7 F2 [Γ ae,Δ (x.un.getD v.toNat 0),Δ c] w λr w'=>r=Δ (un (x.un.getD v.toNat 0))/\Ext w w'):
  am x7 GW [.agg #[.func (.func F1) #[] #[],.func (.func F2) #[] #[]],Γ ae,Δ (j:Int),Δ (pos:Int),Δ v,Δ c] w λ_ w'=>eF w ae gT A R n (iO s j f pos u x v tup un) w':=by
 have C:=h.2.2.2.1;have Z:=x5 af;obtain⟨ac,b3,_⟩:=C.funs f Z;have aQ:∀u',f.sc[pos]? =σ u'->v∈cj s u':=λu' aR=>by
  rw[hu] at aR;cases aR;unfold cj;rw[u6,J];exact ad
 have bl:=Ei C Z aQ;refine h2 func114 ?_;refine be λbm V b4 aT N=>?_;refine be λg1 aa b5 al a=>?_;refine be λbq b6 b7 W z=>?_;refine be λbr y b9 X O=>?_;have N:ag y bm pL [.func (.func F1) #[] #[],.func (.func F2) #[] #[]]:=((ag.ext N al).ext W).ext X;have a:ag y g1 dz [Γ ae]:=(ag.ext a W).ext X;have z:ag y bq ai [Δ (j:Int)]:=ag.ext z X;have O:ag y br ap [Δ c]:=O;have ao:=((aT.trans al).trans W).trans X;have ca:=aT.size;have cc:=al.size;have z3:=W.size;have cd:=ao.size;have aU:=N.lt;have E:=a.lt;have aV:=z.lt;have aW:=O.lt;rw[ay (v:=Γ ae) Ψ (a.Qz rfl),ay (v:=Δ (j:Int)) Ψ (z.Qz rfl)];refine (la (h.ext ao) af).mono ?_;rintro ce cg _ ⟨bt,_,_,bu⟩;rw[bc an.u ai.i Ψ bu.ls hu];intro ch bx _ _;have G:=bt.trans bx;have aq:=ao.trans G;have z46:=G.size;rw[ay (v:=Γ ae) Ψ ((a.ext G).Qz rfl),ay (v:=Γ ae) Ψ ((a.ext G).Qz rfl),ay (v:=Δ (j:Int)) Ψ ((z.ext G).Qz rfl)];refine Et (h.ext aq) (aO.ext aq) af λaG gs bF bn a7 aX au bz bA=>?_;have ci:=au.size;have bC:=G.trans au;refine⟨Nat,true,false,ly,#[Γ bF,Γ bn,Γ a7,Γ gs],0,_,_,_,
  λD k w'=>gu w ae gT A R n w.heap.size D (dL s j f (dy tup ((bL s f.sc pos v).take k) f.aj f.cs)) w'/\(ah (λr=>r<w.heap.size\/aX.heap.size<=r) y w'/\aX.heap.size<=w'.heap.size),
  λ_ _ _ _=>False,rfl,Er (λu hu=>⟨(ac.scope.1 u hu).1,ac.vars u hu⟩) ac.scope.2,?_,λ_ _ _ J h=>h.ext J,?_,λ_ _ _ _ _ _ _ h=>h,bA,?_,?_,?_,λ_ _ _ h=>h.elim,λ_ _ _ _ h=>h.elim⟩
 .rintro _ _ _ _ ⟨_,_,_,_,rfl,_⟩;rfl
 .rintro D k ck cl P cm ⟨H,I,aw⟩;exact⟨H.own P λr q=>⟨Ω,q.2.2⟩,I.trans (P.mono λr _ h=>.inr h.2.1),Y9 aw P.size⟩
 .refine⟨?_,bC.ab _,p8 _⟩;have e:dL s j f (dy tup ((bL s f.sc pos v).take 0) f.aj f.cs)=s:=Ev C af;rw[e];exact gu.start h aO bh bi (aq.trans au) (p8 _)
 .rintro aI D k cn ax aY cp bD ⟨rfl,tl,cq,az,e,a1⟩ ⟨H,I,aw⟩;cases e;intro cr Q _ bE;obtain⟨m,hm⟩:=n0 C Z aQ (x5 az);obtain⟨bG,bH⟩:=Ek (g:=tup) C af bl az hm;obtain⟨⟨bI,bJ⟩,bK⟩:=h1 tl (x5 az);have aZ:∀ {S:x3} {g:Nat} {e:r9} {cs:List x1},Ext ax S->w.heap.size<=g->g<y.heap.size->ag y g e cs->ag S g e cs:=λJ K aA aD=>(aD.ab I Ω).ext J;have bM:=(x4.1 af).1;have a2:(dL s j f (dy tup ((bL s f.sc pos v).take k) f.aj f.cs)).funs[j]? =σ {f with cs:=dy tup ((bL s f.sc pos v).take k) f.aj f.cs}:=c7 bM;obtain⟨K,P⟩:=Eu (tl:=tl) a2 bk hm;obtain⟨A9,t9,aE,a6,aF⟩:=H.open;rw[ay (v:=Γ ae) Ψ ((aZ Q Ω E a).Qz rfl),ay (v:=Δ (j:Int)) Ψ ((aZ Q Ω aV z).Qz rfl)];refine (wK (j:=j) (aE.ext Q) (a1.ext Q)).mono ?_;rintro _ ct bN ⟨rfl,bO⟩;rw[if_pos K,P,bo,bp];intro bP bQ _ bR;have B:=(Q.trans bO).trans bQ;rw[ay (v:=Γ ae) Ψ ((aZ B Ω E a).Qz rfl),ay (v:=Δ (j:Int)) Ψ ((aZ B Ω aV z).Qz rfl),
   aM pL.p 0 (aZ B Ω aU N) rfl,ay (v:=Γ ae) Ψ ((aZ B Ω E a).Qz rfl),ay (v:=Δ c) Ψ ((aZ B Ω aW O).Qz rfl)]
  show am x7 F1 [Γ ae,Δ (bj f.aj (dy tup ((bL s f.sc pos v).take k) f.aj f.cs) tl),Δ c] bP _;rw[bG];refine (bK (aE.ext B)).mono ?_;rintro _ cu bS ⟨rfl,a8⟩;have U:=B.trans a8;refine⟨.inl a8,(OL (j:=j) (aE.ext U) (.inl a6.1) (a1.ext U)).mono ?_⟩;rintro r ba bT ⟨_,_,aH⟩;obtain⟨_,Y,aS,bU,bV,aJ,L⟩:=aH K ⟨bI,bJ⟩ _ m a2 hm;rw[bH] at L;have cw:=U.size;have cz:=Y.size;obtain⟨bb,aK,bW⟩:=aF (D':=λr=>D r\/ax.heap.size<=r/\r<ba.heap.size) (jI U Y) ((Grow.ext U).trans aJ) L a6.set (λr h=>.inl h) λr K aA=>.inr ⟨K,aA⟩;refine⟨⟨λr=>D r\/ax.heap.size<=r/\r<ba.heap.size,λr h=>h,λr h=>.inl h,?_,bb,I.trans (aK.mono λr _ h=>h.imp id λh=>(aY r h).1),Ω⟩,bE.trans ((((bN.trans bR).trans bS).trans bT).jW),aK.mono λr _ h=>h.imp (λh=>Ω) id⟩;refine bD.put aK bz (λr q=>?_) bb.2.1.1 L (λ_=>rfl) λr q=>?_
  .rcases q with q|q
   .exact .inl Ω
   .exact .inr (aY r q).1
  .rcases q with q|q
   .exact (bW r q).imp (λh=>Ω) id
   .exact .inl (by have:=h.lt (.inr q);omega)
 .rintro D k bX rfl ⟨H,I,aw⟩;rw[b8 (p8 _)] at H;have bd:=n1 C J ad;obtain⟨cA,cB,aL,bf,aF⟩:=H.open;have aZ:∀ {S:x3} {g:Nat} {e:r9} {cs:List x1},Ext bX S->w.heap.size<=g->g<y.heap.size->ag y g e cs->ag S g e cs:=λJ K aA aD=>(aD.ab I Ω).ext J;rw[ay (v:=Γ ae) Ψ ((aZ (Ext.refl _) Ω E a).Qz rfl)];refine (ph (i:=(u:Int)) (v:=v) aL).mono ?_;rintro _ cC _ ⟨rfl,bY⟩;have bZ:im (dL s j f (dy tup (bL s f.sc pos v) f.aj f.cs)) (u:Int).toNat v.toNat=x.un.getD v.toNat 0:=by
   unfold im;rw[u6,show (dL s j f (dy tup (bL s f.sc pos v) f.aj f.cs)).vars[u]? =σ x from J]
  rw[if_pos bd,bZ,bo,bp];intro b0 b1 _ _;have M:=bY.trans b1;rw[ay (v:=Γ ae) Ψ ((aZ M Ω E a).Qz rfl),aM pL.p 1 (aZ M Ω aU N) rfl,ay (v:=Γ ae) Ψ ((aZ M Ω E a).Qz rfl),ay (v:=Δ c) Ψ ((aZ M Ω aW O).Qz rfl)];show am x7 F2 [Γ ae,Δ (x.un.getD v.toNat 0),Δ c] b0 _;refine (aP.2 (aL.ext M)).mono ?_;rintro _ cD _ ⟨rfl,bg⟩;have aN:=M.trans bg;refine⟨.inl bg,(DN (i:=(u:Int)) (v:=v) (aL.ext aN) (.inl bf.1)).mono ?_⟩;rintro r cE _ ⟨_,_,aH⟩;obtain⟨_,Y,aS,bU,bV,aJ,L⟩:=aH bd aP.1;have e:kv (dL s j f (dy tup (bL s f.sc pos v) f.aj f.cs)) (u:Int).toNat v.toNat (un (x.un.getD v.toNat 0))=iO s j f pos u x v tup un:=by
   unfold kv iO eE;rw[u6,show (dL s j f (dy tup (bL s f.sc pos v) f.aj f.cs)).vars[u]? =σ x from J]
  rw[e] at L;intro cF b2 _;exact (aF (D':=λ_=>True) (jI aN Y) ((Grow.ext aN).trans aJ) L bf.set (λ_ _=>trivial) λ_ _ _=>trivial).1.done b2
end
theorem q0 (h e:Nat) {l:Nat} (f:l<256) (hm:a<256):(256*h+l) &&& (256*e+a)=256*(h &&& e)+(l &&& a):=by
 have j:l &&& a<2 ^ 8:=Nat.and_lt_two_pow _ hm;apply Nat.eq_of_testBit_eq;intro i;rw[Nat.testBit_and,show 256=2 ^ 8 from rfl,Nat.testBit_two_pow_mul_add _ f,Nat.testBit_two_pow_mul_add _ hm,Nat.testBit_two_pow_mul_add _ j];split
 .rw[Nat.testBit_and]
 .rw[Nat.testBit_and]
def gM (m x:Nat):Nat:=(x / 2 &&& m)+(x &&& m)
def hC (m x:Nat):Nat:=(x / 4 &&& m)+(x &&& m)
def jk (m x:Nat):Nat:=(x / 16+x) &&& m
def cX (a:Nat):Nat:=jk 15 (hC 51 (gM 85 a))
theorem PA:∀e<2,∀l<256,(128*e+l / 2) &&& 85=l / 2 &&& 85:=by decide+kernel
theorem PB:∀e<4,∀l<256,(64*e+l / 4) &&& 51=l / 4 &&& 51:=by decide+kernel
theorem PC:∀e<5,∀l<69,(16*e+l / 16+l) &&& 15=(l / 16+l) &&& 15:=by decide+kernel
theorem mN:∀l<256,gM 85 l<256/\hC 51 (gM 85 l)<69/\hC 51 (gM 85 l) % 16<5/\cX l<=8/\(cX l=0->l=0):=by decide+kernel
theorem tG (h a:Nat) {l:Nat} (e:l<256):gM (256*a+85) (256*h+l)=256*gM a h+gM 85 l:=by
 unfold gM;rw[show (256*h+l) / 2=256*(h / 2)+(128*(h % 2)+l / 2) by omega,q0 _ _ Ω Ω,q0 _ _ e Ω,PA _ Ω _ e];omega
theorem tH (h a:Nat) {l:Nat} (e:l<256):hC (256*a+51) (256*h+l)=256*hC a h+hC 51 l:=by
 unfold hC;rw[show (256*h+l) / 4=256*(h / 4)+(64*(h % 4)+l / 4) by omega,q0 _ _ Ω Ω,q0 _ _ e Ω,PB _ Ω _ e];omega
theorem tI (h a:Nat) {l:Nat} (e:l<69) (he:h % 16<5):jk (256*a+15) (256*h+l)=256*jk a h+jk 15 l:=by
 unfold jk;rw[show (256*h+l) / 16+(256*h+l)=256*(h / 16+h)+(16*(h % 16)+l / 16+l) by omega,q0 _ _ Ω Ω,PC _ he _ e]
def four (a b c d:Nat):Nat:=256*(256*(256*d+c)+b)+a
theorem PD {b c d:Nat} (e:a<256) (f:b<256) (h:c<256) (j:d<256):gM 6148914691236517205 (four a b c d)=four (gM 85 a) (gM 85 b) (gM 85 c) (gM 85 d):=by
 unfold four;rw[show 6148914691236517205=256*(256*(256*(256*1431655765+85)+85)+85)+85 from rfl,tG _ _ e,tG _ _ f,tG _ _ h];have:=tG 0 1431655765 j;rw[show 256*0+d=d by omega,show gM 1431655765 0=0 from by unfold gM;simp] at this;rw[this,Nat.mul_zero,X0]
theorem PE {b c d:Nat} (e:a<256) (f:b<256) (h:c<256) (j:d<256):hC 3689348814741910323 (four a b c d)=four (hC 51 a) (hC 51 b) (hC 51 c) (hC 51 d):=by
 unfold four;rw[show 3689348814741910323=256*(256*(256*(256*858993459+51)+51)+51)+51 from rfl,tH _ _ e,tH _ _ f,tH _ _ h];have:=tH 0 858993459 j;rw[show 256*0+d=d by omega,show hC 858993459 0=0 from by unfold hC;simp] at this;rw[this,Nat.mul_zero,X0]
theorem PF {b c d:Nat} (e:a<69) (f:b<69/\b % 16<5) (h:c<69/\c % 16<5) (j:d<69/\d % 16<5):jk 1085102592571150095 (four a b c d)=four (jk 15 a) (jk 15 b) (jk 15 c) (jk 15 d):=by
 unfold four;rw[show 1085102592571150095=256*(256*(256*(256*252645135+15)+15)+15)+15 from rfl,tI _ _ e Ω,tI _ _ f.1 Ω,tI _ _ h.1 Ω];have:=tI 0 252645135 j.1 Ω;rw[show 256*0+d=d by omega,show jk 252645135 0=0 from by unfold jk;simp] at this;rw[this,Nat.mul_zero,X0]
def q1 (x:Nat):Nat:=cX (x % 256)+cX (x / 256 % 256)+cX (x / 65536 % 256)+cX (x / 16777216)
theorem PG {x:Nat} (h:x<4294967296):q1 x=0↔x=0:=by
 constructor
 .intro a;unfold q1 at a;have h1:=(mN (x % 256) Ω).2.2.2.2 Ω;have e:=(mN (x / 256 % 256) Ω).2.2.2.2 Ω;have f:=(mN (x / 65536 % 256) Ω).2.2.2.2 Ω;have j:=(mN (x / 16777216) Ω).2.2.2.2 Ω;omega
 .rintro rfl;decide
theorem PH {x:Nat} (J:x<4294967296):am x7 Hd [.int .u64 (x:Int)] w λv w'=>v=Δ (q1 x:Int)/\Ext w w':=by
 obtain⟨a,b,c,d,G,H,I,L,e,R,S,U,V⟩:∃a b c d,a<256/\b<256/\c<256/\d<256/\x=four a b c d/\a=x % 256/\b=x / 256 % 256/\c=x / 65536 % 256/\d=x / 16777216:=
  ⟨x % 256,x / 256 % 256,x / 65536 % 256,x / 16777216,Ω,Ω,Ω,Ω,by unfold four;omega,rfl,rfl,rfl,rfl⟩
 obtain⟨W,X,a3,a4,_⟩:=mN a G;obtain⟨Y,Z,aa,ao,_⟩:=mN b H;obtain⟨ab,ad,ae,ap,_⟩:=mN c I;obtain⟨d1,d2,d3,d4,_⟩:=mN d L;have g1:=PD G H I L;have M:=PE W Y ab d1;have af:=PF X ⟨Z,aa⟩ ⟨ad,ae⟩ ⟨d2,d3⟩;have ag:q1 x=cX a+cX b+cX c+cX d:=by unfold q1;rw[<-R,<-S,<-U,<-V]
 rw[<-e] at g1;have ah:gM 6148914691236517205 x<4294967296:=by rw[g1];unfold four;omega
 have N:hC 3689348814741910323 (gM 6148914691236517205 x)<4294967296:=by rw[g1,M];unfold four;omega
 have A:jk 1085102592571150095 (hC 3689348814741910323 (gM 6148914691236517205 x))=four (cX a) (cX b) (cX c) (cX d):=by rw[g1,M,af];rfl
 have aj:four (cX a) (cX b) (cX c) (cX d)<4294967296:=by unfold four;omega
 refine az func132 ?_;have s:∀ {t:r9} {cx cy:Bool} {K:x1->Prop} (p q:Nat),p+q<18446744073709551616->ac x7 (aL .add t cx cy (.int .u64 (p:Int)) (.int .u64 (q:Int))) w K=K (.int .u64 ((p+q:Nat):Int)):=λp q h=>by
  rw[aP,wrap_u64 Ω Ω];rfl
 have small:∀ (p m:Nat),p &&& m<=p:=λp m=>Nat.and_le_left;rw[show (1:Int)=((1:Nat):Int) from rfl,kR Ω,show (6148914691236517205:Int)=((6148914691236517205:Nat):Int) from rfl,u64_and Ω Ω,u64_and Ω Ω,s (x / 2 ^ 1 &&& 6148914691236517205) (x &&& 6148914691236517205) (by exact Nat.lt_of_le_of_lt (Nat.add_le_add (small _ _) (small _ _)) Ω)];obtain⟨y,B⟩:∃y,(x / 2 ^ 1 &&& 6148914691236517205)+(x &&& 6148914691236517205)=y:=⟨_,rfl⟩;rw[B];have B:gM 6148914691236517205 x=y:=B;rw[B] at ah N A;rw[show (2:Int)=((2:Nat):Int) from rfl,kR Ω,show (3689348814741910323:Int)=((3689348814741910323:Nat):Int) from rfl,u64_and Ω Ω,u64_and Ω Ω,s (y / 2 ^ 2 &&& 3689348814741910323) (y &&& 3689348814741910323) (by exact Nat.lt_of_le_of_lt (Nat.add_le_add (small _ _) (small _ _)) Ω)];obtain⟨z,C⟩:∃z,(y / 2 ^ 2 &&& 3689348814741910323)+(y &&& 3689348814741910323)=z:=⟨_,rfl⟩;rw[C];have C:hC 3689348814741910323 y=z:=C;rw[C] at N A;rw[show (4:Int)=((4:Nat):Int) from rfl,kR Ω,s (z / 2 ^ 4) z Ω,show (1085102592571150095:Int)=((1085102592571150095:Nat):Int) from rfl,u64_and Ω Ω];have A:z / 2 ^ 4+z &&& 1085102592571150095=four (cX a) (cX b) (cX c) (cX d):=A;rw[A];obtain⟨j,E⟩:∃j,four (cX a) (cX b) (cX c) (cX d)=j:=⟨_,rfl⟩;rw[E] at aj ⊢;unfold four at E;rw[show (8:Int)=((8:Nat):Int) from rfl,kR Ω,s j (j / 2 ^ 8) Ω];obtain⟨r,O⟩:∃r,j+j / 2 ^ 8=r:=⟨_,rfl⟩;rw[O];rw[show (16:Int)=((16:Nat):Int) from rfl,kR Ω,s r (r / 2 ^ 16) Ω];obtain⟨f,P⟩:∃f,r+r / 2 ^ 16=f:=⟨_,rfl⟩;rw[P];rw[show (32:Int)=((32:Nat):Int) from rfl,kR Ω,s f (f / 2 ^ 32) Ω,fd fu.u ai.u,wrap_i64 Ω Ω,show (127:Int)=((127:Nat):Int) from rfl,DB Ω Ω];refine⟨?_,Ext.refl _⟩;rw[ag,show 127=2 ^ 7-1 from rfl,Nat.and_two_pow_sub_one_eq_mod];have ak:j / 2 ^ 8=65536*cX d+256*cX c+cX b:=Ω
 have al:r / 2 ^ 16=256*cX d+(cX c+cX d):=Ω
 have Q:f / 2 ^ 32=0:=Ω
 have aq:f=128*(131072*cX d+512*(cX c+cX d)+2*(cX b+cX c+cX d))+(cX a+cX b+cX c+cX d):=Ω
 have an:(f+f / 2 ^ 32) % 2 ^ 7=cX a+cX b+cX c+cX d:=by rw[Q];clear E O P ak al Q;omega
 rw[an]
theorem gQ {b n:Nat} (a:lL b n):am x7 Gt [jd b n] w λr w'=>(∃q:Int,r=Δ q/\(q=0↔b=0))/\Ext w w':=by
 have e:b<4294967296:=by
  have:=a.2;have:(2:Nat) ^ n<=2 ^ 32:=T8 Ω a.1;omega
 refine az func63 ?_;refine be λg V m f h=>?_;rw[aM b4.p 0 h rfl];refine (PH e).mono ?_;rintro _ aa _ ⟨rfl,j⟩;refine⟨⟨_,rfl,?_⟩,f.trans j⟩;rw[<-PG e];omega
def n2 (w:x3) (ae gT:Nat) (A R:ak) (n:aR) (s:av) (a:hA) (r:x1) (w':x3):Prop:=r=Δ (cB n.k s a).2/\eF w ae gT A R n (cB n.k s a).1 w'
section
variable {w:x3} {ae gT:Nat} {A R:ak} {n:aR} {s:av} {t:aC} {a:hA}
theorem eF.same (h:bw w ae gT A R n s t) (a:Laid w) (e:¬A 0) (f:eh t []) (J:Ext w w'):eF w ae gT A R n s w':=(gu.start (m:=w.heap.size) (D:=λ_=>False) h a e f J (p8 _)).done (Ext.refl _)
theorem eF.before {s':av} (J:Ext w V) (h:eF V ae gT A R n s' w'):eF w ae gT A R n s' w':=by
 obtain⟨h1,a,aS,bu,e,f⟩:=h;exact⟨jI J h1,a,aS,bu,(Grow.ext J).trans e,f⟩
theorem xd {j pos u:Int} {f:cb} {x:bB} (h:eo s j pos v=σ (f,u,x)):∃m e u':Nat,j=m/\pos=e/\u=u'/\s.funs[m]? =σ f/\f.live≠0/\f.sc[e]? =σ (u':Int)/\s.vars[u']? =σ x/\v∈aB x/\ ∀p,f.sc[e]? =σ p->v∈cj s p:=by
 obtain⟨h1,y,z,A,a,B⟩:=mI h;obtain⟨C,q,E,r⟩:=ky B;obtain⟨j,rfl⟩:=W6 h1;obtain⟨pos,rfl⟩:=W6 y;obtain⟨u,rfl⟩:=W6 C;refine⟨j,pos,u,rfl,rfl,rfl,z,A,a,q,r,λu' w=>?_⟩;have a:f.sc[pos]? =σ (u:Int):=a;rw[a] at w;cases w;unfold cj;rw[q];exact r
theorem PI (hk:a.kind=0) (h:bw w ae gT A R n s t) (y:Laid w) (C:¬A 0) (E:eh t []):am x7 F7 [Γ ae,Δ a.i,Δ a.pos,Δ a.v,Δ a.c] w (n2 w ae gT A R n s a):=by
 have H:=h.2.2.2.1;refine az func35 ?_;refine (El h).mono ?_;rintro _ V _ ⟨r,u,e,rfl,p⟩;rw[bo,bp];have m:cB n.k s a=match eo s a.i a.pos a.v with
  |none=>(s,1)
  |some (f,u,x)=>if dl n.k a.c (lX n.k s f a.pos.toNat a.v)≠0 then (s,dl n.k a.c (lX n.k s f a.pos.toNat a.v)) else (iO s a.i.toNat f a.pos.toNat u.toNat x a.v (λg=>dJ n.k g a.c) λg=>dK n.k g a.c,0):=by unfold cB;rw[if_pos hk];cases eo s a.i a.pos a.v<;>rfl
 rcases p with⟨rfl,f,x,p⟩|⟨rfl,p⟩
 rotate_left
 .rw[p] at m;rw[bm,al];exact⟨λ_=>⟨by rw[m],by rw[m];exact eF.same h y C E r⟩,λh=>absurd Φ h⟩
 rw[p] at m;rw[bm,al];refine⟨λh=>absurd rfl h,λ_=>?_⟩;obtain⟨j,pos,u,Q,S,T,af,I,hu,J,ad,U⟩:=xd p;have W:=x5 af;simp only[Q,S,T,u6] at m ⊢;refine (Pz (j:=j) (pos:=pos) (h.ext r) (y.ext r) af I U).mono ?_;rintro _ aa _ ⟨rfl,K⟩;refine (tA (h.ext (r.trans K))).mono ?_;rintro _ ac _ ⟨X,rfl⟩;have z:=(r.trans K).trans X;refine dg (λw'=>eF w ae gT A R n (cB n.k s a).1 w') ?_ λaA L=>?_
 .intro w' Y;refine⟨?_,Y⟩;rw[m];split
  .rfl
  .rename_i q;rw[Z9.1 q]
 rw[bg,al];refine⟨λq=>?_,λq=>L _ ?_⟩
 .obtain⟨B,hm⟩:=mH (λh=>h q);rw[dn (cs:=#[.func (.func m9) #[] #[],.func (.func na) #[] #[]]) Ψ];have M:∀t∈bL s f.sc pos a.v,a.c<=bj f.aj f.cs t:=λt Z=>((po _ _ _).1 hm).2 _ (l9.2 ⟨t,Z,rfl⟩);have N:=hB (v:=a.v.toNat) H J;refine (Ew (t:=t) (F1:=m9) (F2:=na) (tup:=λg=>dJ n.k g a.c) (un:=λg=>dK n.k g a.c) (h.ext z) (y.ext z) C E af I hu J ad (λtl O=>?_) ⟨mK N B.1,λ{w A s t} G=>qX G N B⟩).mono ?_
  .have P:=mL (t:=tl) H W;exact⟨mJ P ⟨B.1,M tl O⟩,λ{w A s t} G=>tB G P B (.inr (M tl O))⟩
  .rintro _ ag _ ab;refine L _ ?_;rw[m,if_neg (λh=>h q)];exact ab.before z
 .rw[m,if_pos q];exact eF.same h y C E z
theorem PJ (hk:a.kind=1) (h:bw w ae gT A R n s t) (B:Laid w) (C:¬A 0) (E:eh t []):am x7 F8 [Γ ae,Δ a.i,Δ a.pos,Δ a.v,Δ a.c] w (n2 w ae gT A R n s a):=by
 have G:=h.2.2.2.1;refine az func36 ?_;refine (El h).mono ?_;rintro _ V _ ⟨r,u,e,rfl,p⟩;rw[bo,bp];have m:cB n.k s a=match eo s a.i a.pos a.v with
  |none=>(s,1)
  |some (f,u,x)=>if dl n.k a.c (x.un.getD a.v.toNat 0)≠0 then (s,dl n.k a.c (x.un.getD a.v.toNat 0)) else (iO s a.i.toNat f a.pos.toNat u.toNat x a.v (λg=>dK n.k g a.c) λg=>dJ n.k g a.c,0):=by unfold cB;rw[if_neg Ω,if_pos hk];cases eo s a.i a.pos a.v<;>rfl
 rcases p with⟨rfl,f,x,p⟩|⟨rfl,p⟩
 rotate_left
 .rw[p] at m;rw[bm,al];exact⟨λ_=>⟨by rw[m],by rw[m];exact eF.same h B C E r⟩,λh=>absurd Φ h⟩
 rw[p] at m;rw[bm,al];refine⟨λh=>absurd rfl h,λ_=>?_⟩;obtain⟨j,pos,u,N,O,P,af,Q,hu,J,ad,Y⟩:=xd p;have S:=x5 af;simp only[N,O,P,u6] at m ⊢;refine (ph (i:=(u:Int)) (v:=a.v) (h.ext r)).mono ?_;rintro _ aa _ ⟨rfl,I⟩;have T:im s (u:Int).toNat a.v.toNat=x.un.getD a.v.toNat 0:=by
  unfold im;rw[u6,J]
 rw[if_pos (n1 G J ad),T,bo,bp];refine (tA (h.ext (r.trans I))).mono ?_;rintro _ Z _ ⟨U,rfl⟩;have y:=(r.trans I).trans U;refine dg (λw'=>eF w ae gT A R n (cB n.k s a).1 w') ?_ λaA K=>?_
 .intro w' W;refine⟨?_,W⟩;rw[m];split
  .rfl
  .rename_i q;rw[Z9.1 q]
 rw[bg,al];refine⟨λq=>?_,λq=>K _ ?_⟩
 .obtain⟨z,hm⟩:=mH (λh=>h q);rw[dn (cs:=#[.func (.func na) #[] #[],.func (.func m9) #[] #[]]) Ψ];have L:=hB (v:=a.v.toNat) G J;refine (Ew (t:=t) (F1:=na) (F2:=m9) (tup:=λg=>dK n.k g a.c) (un:=λg=>dJ n.k g a.c) (h.ext y) (B.ext y) C E af Q hu J ad (λtl ab=>?_) ⟨mJ L ⟨z.1,hm⟩,λ{w A s t} H=>tB H L z (.inr hm)⟩).mono ?_
  .have M:=mL (t:=tl) G S;exact⟨mK M z.1,λ{w A s t} H=>qX H M z⟩
  .rintro _ ac _ X;refine K _ ?_;rw[m,if_neg (λh=>h q)];exact X.before y
 .rw[m,if_pos q];exact eF.same h B C E y
end
def gN (s:av) (i:Int):Option bB:=match (if 0<=i then s.vars[i.toNat]? else ν) with
 |some x=>if x.gone=0 then σ x else ν
 |none=>ν
theorem xe {s:av} {i:Int} {x:bB} (h:gN s i=σ x):0<=i/\s.vars[i.toNat]? =σ x/\x.gone=0:=by
 unfold gN at h;by_cases a:0<=i
 .rw[if_pos a] at h;cases J:s.vars[i.toNat]? with
  |none=>rw[J] at h;cases h
  |some y=>
   rw[J] at h;simp only at h;split at h
   .rename_i e;cases h;exact⟨a,rfl,e⟩
   .cases h
 .rw[if_neg a] at h;cases h
theorem Ex {g:Int->Int} {un L:Λ} (h:L[j]? =σ v):ec g un (L.take (j+1))=(ec g un (L.take j)).set v.toNat (g ((ec g un (L.take j)).getD v.toNat 0)):=by
 unfold ec;rw[u9,h,o9,S1];rfl
theorem Ey {i:Nat} {v:Int}:∀ (L M:Λ) (s:av),fX s i v (L++M)=fX (fX s i v L) i v M
 |[],_,_=>rfl
 |w::L,M,s=>by
  rw[List.cons_append,fX,fX];exact Ey L M _
theorem PK {s:av} {i:Nat} {w:Int} {L:Λ} (h:L[j]? =σ w):fX s i v (L.take (j+1))=if w≠v then ek (fX s i v (L.take j)) i w.toNat else fX s i v (L.take j):=by
 rw[u9,h,o9,Ey];rfl
def jR (m u:Int):Int:=if m<0\/u<m then u else m
theorem Ez:∀ (l:Λ) (m:Int),0<=m->(∀c∈l,0<=c)->l.foldl jR m=l.foldl min m
 |[],_,_,_=>rfl
 |c::l,m,hm,a=>by
  have f:=a c (.head _);have e:jR m c=min m c:=by unfold jR;split<;>omega
  rw[U8,U8,e];exact Ez l _ Ω λc h=>a c (.tail _ h)
theorem PL {x:bB} (h:∀v∈aB x,0<=x.un.getD v.toNat 0):((aB x).map λv=>x.un.getD v.toNat 0).foldl jR (-1)=iP x:=by
 unfold iP;have a:∀c∈(aB x).map (λv=>x.un.getD v.toNat 0),0<=c:=λc e=>by
  obtain⟨v,ad,rfl⟩:=l9.1 e;exact h v ad
 generalize (aB x).map (λv=>x.un.getD v.toNat 0)=l at a;cases l with
 |nil=>rfl
 |cons c l=>exact Ez l c (a c (.head _)) λc h=>a c (.tail _ h)
section
variable {w:x3} {ae gT:Nat} {A R:ak} {n:aR} {s:av} {t:aC} {a:hA}
theorem EA {i:Int} (h:bw w ae gT A R n s t):am x7 GX [Γ ae,Δ i] w λr w'=>Ext w w'/\r=Δ (if (gN s i).isSome=true then 0 else 1):=by
 have j:=h.2.2.2.1;have N:=j.vars;refine az func115 ?_;rw[db dz.u];simp only[Z4,a1];refine aV (λr V=>r= .bool (!(gN s i).isSome)/\Ext w V) ?_ ?_
 .rintro _ V ⟨rfl,B⟩;rw[ce];exact⟨λp=>⟨B,by rw[if_neg (by simpa using p)]⟩,λp=>⟨B,by rw[if_pos (by simpa using p)]⟩⟩
 intro aA C;refine (th (i:=i) h).mono ?_;rintro _ aa _ ⟨rfl,q⟩;rw[ce];refine⟨λa=>C _ _ ⟨?_,q⟩,λa=>?_⟩
 .rw[V1,decide_eq_true_eq] at a;have I:gN s i=ν:=by
   unfold gN;rw[if_pos a.1];have y:=a.2;unfold ji at y;cases J:s.vars[i.toNat]? with
   |none=>rfl
   |some x=>
    rw[J] at y;simp only;rw[if_neg λh=>by simp[h] at y]
  rw[I];rfl
 refine (jL (i:=i) (h.ext q)).mono ?_;rintro _ O _ ⟨⟨b,m,rfl,E⟩,K⟩;refine (ve (b:=b) (n:=m)).mono ?_;rintro _ P _ ⟨rfl,L⟩;rw[bg];refine C _ _ ⟨?_,(q.trans K).trans L⟩;congr 1;by_cases f:0<=i/\i<n.sizes.length
 .obtain⟨x,J⟩:=aH (l:=s.vars) (i:=i.toNat) Ω;obtain⟨z,G⟩:=aH (l:=n.sizes) (i:=i.toNat) Ω;have Q:=j.hv.2.2 z (x5 G);have S:=(j.var _ x z J G).1;have hm:=(E.2.2 x f.1 J).1;have M:x.gone=0:=by
   rw[decide_eq_true f.1,T3] at a;unfold ji at a;rw[J] at a;simpa using a
  have e:gN s i=σ x:=by
   unfold gN;rw[if_pos f.1,J];simp only;rw[if_pos M]
  rw[e,decide_eq_false Ω];rfl
 .obtain⟨rfl,rfl⟩:=E.2.1 f;have e:gN s i=ν:=by
   unfold gN;by_cases H:0<=i
   .rw[if_pos H,Z6 Ω]
   .rw[if_neg H]
  rw[e];rfl
theorem EB {u:Nat} {x:bB} {F1 F2:R3} {g z:Int->Int} (h:bw w ae gT A R n s t) (az:Laid w) (aY:¬A 0) (a1:eh t []) (J:s.vars[u]? =σ x)
  (h1:∀v∈aB x,(0<=g (x.un.getD v.toNat 0)/\g (x.un.getD v.toNat 0)<=n.k)/\ ∀ {w:x3} {A:ak} {s:av} {t:aC},bw w ae gT A R n s t->am x7 F1 [Γ ae,Δ (x.un.getD v.toNat 0),Δ c] w λr w'=>r=Δ (g (x.un.getD v.toNat 0))/\Ext w w')
  (aA:(0<=z s.zero/\z s.zero<=n.k)/\ ∀ {w:x3} {A:ak} {s':av} {t:aC},bw w ae gT A R n s' t->am x7 F2 [Γ ae,Δ s.zero,Δ c] w λr w'=>r=Δ (z s.zero)/\Ext w w'):
  am x7 GZ [Γ ae,Δ (u:Int),Δ c,.func (.func F1) #[] #[],.func (.func F2) #[] #[]] w λ_ w'=>eF w ae gT A R n (kx s u x g z) w':=by
 have a2:=h.2.2.2.1;have S:=(x4.1 J).1;refine h2 func117 ?_;refine be λg1 V bA aD a=>?_;refine be λa6 aa bC U p=>?_;refine be λa7 bD bE G q=>?_;refine be λa8 f bF H I=>?_;have a:ag f g1 dz [Γ ae]:=((ag.ext a U).ext G).ext H;have p:ag f a6 ai [Δ (u:Int)]:=(ag.ext p G).ext H;have q:ag f a7 ap [Δ c]:=ag.ext q H;have I:ag f a8 IM [.func (.func F1) #[] #[]]:=I;have K:=((aD.trans U).trans G).trans H;have bG:=aD.size;have bH:=U.size;have z3:=G.size;have bI:=K.size;have L:=a.lt;have aE:=p.lt;have aF:=q.lt;have ba:=I.lt;rw[ay (v:=Γ ae) Ψ (a.Qz rfl),ay (v:=Δ (u:Int)) Ψ (p.Qz rfl)];refine (jL (i:=(u:Int)) (h.ext K)).mono ?_;rintro _ bJ _ ⟨⟨b,bb,rfl,aG⟩,aH⟩;refine (oL (b:=b) (n:=bb)).mono ?_;rintro _ M _ ⟨bc,aI,rfl,bK,aJ⟩;have aK:=nV aG Ω (show s.vars[(u:Int).toNat]? =σ x by rw[u6];exact J);have B:=aH.trans bc;have z5:=aH.size;have z46:=B.size;have bL:=aJ.lt;have aL:=qV x;have bd:eE s u x (ec g x.un ((aB x).take 0))=s:=by
  unfold eE;show {s with vars:=s.vars.set u x}=s;have:s.vars.set u x=s.vars:=by
   apply Y3;intro i;by_cases e:u=i
   .subst e;rw[c7 S,J]
   .rw[Y0 e]
  rw[this]
 refine kF.old ⟨_,false,jr,#[Γ aI],_,_,_,_,λj w'=>gu w ae gT A R n w.heap.size (λr=>M.heap.size<=r) (eE s u x (ec g x.un ((aB x).take j))) w'/\ah (λr=>r<w.heap.size\/M.heap.size<=r) M w',λ_ _ _=>False,rfl,(oK (g:=aI) aG.1).s,?_,
  λ_ _ J h=>⟨h.1.ext J,h.2.ext J⟩,λ_ _ _ J h=>⟨h.1.ext J,h.2.trans (J.ab _)⟩,λ_ _ _ _ _ h=>h,⟨aJ,az.ext (K.trans B)⟩,?_,?_,?_,λ_ _ h=>h.elim,λ_ _ _ h=>h.elim⟩
 .rintro _ _ _ _ ⟨_,_,_,_,rfl⟩;rfl
 .refine⟨?_,ah.refl _ _⟩;rw[bd];exact gu.start h az aY a1 (K.trans B) (p8 _)
 .rintro _ j _ bf ⟨bg,bM⟩ ⟨bN,rfl,v,ad,bh⟩ ⟨N,C⟩;cases bh;intro bO O _ _;have W:(aB x)[j]? =σ (v:Int):=by rw[<-aK,x8,ad];rfl
  have aM:=x5 W;have aZ:∀ {E:x3} {g:Nat} {e:r9} {cs:List x1},Ext bf E->w.heap.size<=g->g<f.heap.size->ag f g e cs->ag E g e cs:=λJ aN aO X=>((X.ext B).ab C Ω).ext J;obtain⟨bP,bQ,Y,aP,Z⟩:=N.open;have aQ:fm n (u:Int) (v:Int):=n1 a2 J aM;have bi:∀y∈aB x,0<=y/\y<x.un.length:=λy ac=>(gq.1 ac).1;have af:=tw (g:=g) ((aB x).take j) x.un (v:Int) (aL.sublist (List.take_sublist _ _)) (λy ac=>bi y (T4 ac)) Ω;rw[if_neg (w8 aL W)] at af;have bj:im (eE s u x (ec g x.un ((aB x).take j))) (u:Int).toNat (v:Int).toNat=x.un.getD (v:Int).toNat 0:=by
   unfold im eE;rw[u6,c7 S];exact af
  rw[ay (v:=Γ ae) Ψ ((aZ O Ω L a).Qz rfl),ay (v:=Δ (u:Int)) Ψ ((aZ O Ω aE p).Qz rfl)];refine (ph (i:=(u:Int)) (v:=(v:Int)) (Y.ext O)).mono ?_;rintro _ bR _ ⟨rfl,bk⟩;rw[if_pos aQ,bj,bo,bp];intro bl bm _ _;have m:=(O.trans bk).trans bm;rw[ay (v:=Γ ae) Ψ ((aZ m Ω L a).Qz rfl),ay (v:=Δ (u:Int)) Ψ ((aZ m Ω aE p).Qz rfl),
   ay (v:=.func (.func F1) #[] #[]) Ψ ((aZ m Ω ba I).Qz rfl),ay (v:=Γ ae) Ψ ((aZ m Ω L a).Qz rfl),ay (v:=Δ c) Ψ ((aZ m Ω aF q).Qz rfl)]
  show am x7 F1 [Γ ae,Δ (x.un.getD (v:Int).toNat 0),Δ c] bl _;obtain⟨bn,bq⟩:=h1 v aM;refine (bq (Y.ext m)).mono ?_;rintro _ bS _ ⟨rfl,aR⟩;have aj:=m.trans aR;refine⟨.inl aR,(DN (i:=(u:Int)) (v:=(v:Int)) (Y.ext aj) (.inl aP.1)).mono ?_⟩;rintro r bT _ ⟨_,_,al⟩;obtain⟨_,an,aS,br,bt,ao,P⟩:=al aQ bn;have e:kv (eE s u x (ec g x.un ((aB x).take j))) (u:Int).toNat (v:Int).toNat (g (x.un.getD (v:Int).toNat 0))=eE s u x (ec g x.un ((aB x).take (j+1))):=by
   rw[Ex W,af];unfold kv eE;rw[u6,c7 S];simp only[List.set_set]
  rw[e] at P;have bU:=C.size;obtain⟨aT,aU,bV⟩:=Z (D':=λr=>M.heap.size<=r) (jI aj an) ((Grow.ext aj).trans ao) P aP.set (λr h=>h) λr aN aO=>Ω
  exact⟨⟨bg.ab aU Ω,aT.2.1.1⟩,⟨aT,C.trans aU⟩,λh=>by cases h⟩
 .rintro k bu rfl ⟨N,C⟩;rw[b8 (by rw[<-aK,u7];exact p8 _)] at N;obtain⟨bW,bX,aq,aV,Z⟩:=N.open;have aZ:∀ {E:x3} {g:Nat} {e:r9} {cs:List x1},Ext bu E->w.heap.size<=g->g<f.heap.size->ag f g e cs->ag E g e cs:=λJ aN aO X=>((X.ext B).ab C Ω).ext J;intro bY Q _ _;have au:=aZ Q Ω L a;rw[ay (v:=Γ ae) Ψ (au.Qz rfl),ay (v:=Γ ae) Ψ (au.Qz rfl),ay (v:=Γ ae) Ψ (au.Qz rfl),ay (v:=Δ c) Ψ ((aZ Q Ω aF q).Qz rfl)];refine (wH (aq.ext Q)).mono ?_;rintro _ bx _ ⟨rfl,aw⟩;have aW:=Q.trans aw;refine⟨.inl aw,?_⟩;show am x7 F2 [Γ ae,Δ s.zero,Δ c] bx _;refine (aA.2 (aq.ext aW)).mono ?_;rintro _ bZ _ ⟨rfl,aX⟩;have ax:=aW.trans aX;refine⟨.inl (aw.trans aX),(OK (aq.ext ax) (.inl aV.1)).mono ?_⟩;rintro r b0 _ ⟨_,al⟩;obtain⟨_,an,aS,br,bt,ao,P⟩:=al aA.1;intro b1 bz _;exact (Z (D':=λ_=>True) (jI ax an) ((Grow.ext ax).trans ao) P aV.set (λ_ _=>trivial) λ_ _ _=>trivial).1.done bz
end
section
variable {w:x3} {ae gT aq:Nat} {A R:ak} {A9:Nat->ak} {aK:ak} {n:aR} {s u:av} {t:aC} {h:List aC} {cs:List x1} {a:hA}
theorem PM (hk:a.kind<2):cB n.k u a=match eo u a.i a.pos a.v with
  |none=>(u,1)
  |some (f,v,x)=>if dl n.k a.c (if a.kind=1 then x.un.getD a.v.toNat 0 else lX n.k u f a.pos.toNat a.v)≠0 then (u,dl n.k a.c (if a.kind=1 then x.un.getD a.v.toNat 0 else lX n.k u f a.pos.toNat a.v))
   else (iO u a.i.toNat f a.pos.toNat v.toNat x a.v (λg=>if a.kind=0 then dJ n.k g a.c else dK n.k g a.c) λg=>if a.kind=0 then dK n.k g a.c else dJ n.k g a.c,0):=by
 unfold cB;by_cases e:a.kind=0
 .rw[if_pos e];simp only[e];cases eo u a.i a.pos a.v<;>rfl
 .have h1:a.kind=1:=Ω
  rw[if_neg e,if_pos h1];simp only[h1];cases eo u a.i a.pos a.v<;>rfl
theorem getD_some {i:Nat} (h:i<l.length):l[i]? =σ (l.getD i 0):=by
 rw[v8,x6 h];rfl
theorem PN (p:ct w ae gT aq A R A9 aK n s u t h cs) (G:bt n.k n.sizes u) (bP:dk u) (hk:a.kind<2):am x7 uz [Γ aq,Δ (a.kind:Int),Δ a.i,Δ a.pos,Δ a.v,Δ a.c] w λr w'=>r=Δ (cB n.k u a).2/\dp w ae gT aq A R A9 aK n s t h (cB n.k u a).1 w':=by
 have C:=PM (n:=n) (u:=u) hk;have cZ:=G.vars;have bR:=G.eg;refine az func34 ?_;have bS:cs[0]? =σ (Δ n.k):=by obtain⟨_,_,_,_,_,_,rfl,_⟩:=p.nY;rfl
 rw[aQ a8.p 0 p.box bS,aO,al];refine⟨λ_=>?_,λh=>Ω⟩;rw[bV];refine p.look.load λdY bT=>?_;refine (Pn bT G bP).mono ?_;rintro _ V _ ⟨aB,rfl⟩;cases aS:eo u a.i a.pos a.v with
 |none=>
  rw[aS] at C;simp only;rw[bo,bp,bG,X9,bQ];exact⟨by rw[C],by rw[C];exact dp.same p aB⟩
 |some q=>
 obtain⟨f,M,x⟩:=q;rw[aS] at C;simp only;rw[bo,bp,bG,Y6,a1];obtain⟨j,pos,M,bW,bX,bY,af,c0,hu,J,ad,aT⟩:=xd aS;have aC:=x5 af;simp only[bW,bX,bY,u6] at C ⊢;have bZ:=(x4.1 af).1;have bm:=(x4.1 J).1;have b0:=(x4.1 hu).1;obtain⟨b1,c1⟩:=jN G aC;have b2:=Ei G aC aT;have b3:=(gq.1 ad).1;obtain⟨v,P⟩:=W6 b3.1;have bn:=hB (v:=a.v.toNat) G J;have aE:=p.ext aB;have bq:∀ {aa:x3} {eR:av} {br:List x1} {bu:Nat->ak} {f2:cb},ct aa ae gT aq A R bu aK n s eR t h br->eR.funs[j]? =σ f2-> ∃Q cap S aX y,br[6]? =σ (.slice (σ ⟨Q,0,ν⟩) eR.funs.length cap)/\j<eR.funs.length/\aa.cell? ⟨Q,0+j*4+0+0,ν⟩=σ S/\aa.cell? ⟨Q,0+j*4+0+2,ν⟩=σ y/\aF .i64 aa S f2.sc/\aF .i64 aa y f2.cs/\
   ∀ {w':x3} {m:Nat} {c:Int} {K:Unit->x3->Prop},Ext aa w'->m<f2.cs.length->(∀bw,dp aa ae gT aq A R bu aK n s t h (dL eR j f2 (f2.cs.set m c)) bw->K () bw)->ac x7 (j4 ax y (Δ (m:Int))) w' λa=>aD x7 (o6 ap a (Δ c)) w' K:=λb4 aG=>by
  obtain⟨Q,cap,S,aX,y,b5,bx,b6,b7,U⟩:=Pp b4 aG;exact⟨Q,cap,S,aX,y,b5,(x4.1 aG).1,by rw[X0];exact bx 0 _ rfl,by rw[X0];exact bx 2 _ rfl,b6,b7,U⟩
 obtain⟨Q,c2,S,aX,c3,b8,b9,cc,_,cd,_,_⟩:=bq aE af;rw[aQ a8.p 6 aE.box b8,e5 eN.u dm.i b9 λ_=>rfl,aU dm.p rfl,aU aY.p rfl,ay (v:=S) (o:=0+j*4+0+0) Ψ cc,bc an.u ai.i Ψ cd hu];generalize bz:(if a.kind=1 then x.un.getD a.v.toNat 0 else lX n.k u f pos a.v)=most at C;refine aV (λr aa=>r=Δ most/\Ext w aa) ?_ λaA bA=>?_
 rotate_left
 .rw[bg,al];refine⟨λh1=>?_,λh1=>bA _ _ ⟨by rw[<-bz,if_neg Ω],aB⟩⟩;have h1:a.kind=1:=Ω
  obtain⟨aZ,bB,y,a2,a6,aJ,_⟩:=xc aE J;rw[aQ a8.p 5 aE.box a2,e5 dV.u ax.i bm λ_=>rfl,ay (v:=y) (o:=0+M*1) Ψ (by rw[X0,U1];exact a6),P,bc ax.u ap.i Ψ aJ (getD_some Ω)];refine bA _ _ ⟨?_,aB⟩;rw[<-bz,if_pos h1,P,u6]
 rintro _ aa ⟨rfl,cg⟩;refine zM.mono ?_;rintro _ c4 _ ⟨rfl,ch⟩;have W:=cg.trans ch;have bC:cq a.c n.k↔0<=a.c/\a.c<=n.k:=⟨λh=>h.2,λaG=>⟨bR,aG⟩⟩;rw[bG,ce];refine⟨λX=>?_,λX=>?_⟩
 .have ci:¬cq a.c n.k:=by simpa using X
  have E:dl n.k a.c most=3:=by unfold dl;rw[if_pos λh=>ci (bC.2 h)]
  rw[if_pos (by rw[E];decide),E] at C;exact⟨by rw[C],by rw[C];exact dp.same p W⟩
 have bD:=bC.1 (show cq a.c n.k by simpa using X);rw[bU,al];refine⟨λcj=>?_,λck=>?_⟩
 .have E:dl n.k a.c most=7:=by unfold dl;rw[if_neg (λh=>h bD),if_pos cj]
  rw[if_pos (by rw[E];decide),E] at C;exact⟨by rw[C],by rw[C];exact dp.same p W⟩
 have E:dl n.k a.c most=0:=by unfold dl;rw[if_neg (λh=>h bD),if_neg ck]
 rw[if_neg (λh=>h E)] at C;have cl:=p.ext W;rw[bV];refine cl.look.load λc5 cm=>?_;refine (xb cm G af b0 aT).mono ?_;rintro aI a7 _ ⟨cn,ba,cr⟩;have bE:=W.trans cn;rw[aW an.u ba];have bF:(iQ u f pos a.v).length=(bL u f.sc pos a.v).length:=by unfold iQ;rw[u7]
 rw[bF];obtain⟨tup,bb⟩:∃tup:Int->Int,tup=λg=>if a.kind=0 then dJ n.k g a.c else dK n.k g a.c:=⟨_,rfl⟩;obtain⟨un,bd⟩:∃un:Int->Int,un=λg=>if a.kind=0 then dK n.k g a.c else dJ n.k g a.c:=⟨_,rfl⟩;rw[<-bb,<-bd] at C;have cu:=p.olds.ext bE;have c6:=p.box.lt;have c8:=W.size;have cw:∀ {w':x3},ah (λr=>(∃q,A9 q r/\r<w.heap.size)\/r=aq) a7 w'->aF .i64 w' aI (iQ u f pos a.v):=λcA=>hP ba cA λr E b n c e X=>by
  have:=cr r ⟨b,n,c,e,X⟩;rcases E with⟨q,E⟩|E
  .have:=E.2;omega
  .omega
 refine cz.range (bL u f.sc pos a.v).length (λq w'=>dp a7 ae gT aq A R (λq r=>A9 q r/\r<w.heap.size) aK n s t h (dL u j f (dy tup ((bL u f.sc pos a.v).take q) f.aj f.cs)) w') (by rw[<-bF];exact ba.le) ?_ ?_ ?_
 .rw[List.take_zero,Ev G af];exact dp.same cu (Ext.refl _)
 .rintro q Y cC cD aL cE;obtain⟨tl,be⟩:=aH (l:=bL u f.sc pos a.v) cD;obtain⟨m,hm⟩:=n0 G aC aT (x5 be);have cF:(iQ u f pos a.v)[q]? =σ (m:Int):=by
   unfold iQ;rw[x8,be];unfold lY;rw[Z3,hm];rfl
  obtain⟨bI,bJ⟩:=Ek (g:=tup) G af b2 be hm;have cG:=(x4.1 (kg b1 hm)).1;have c9:m<f.cs.length:=by rw[u6] at cG;omega
  obtain⟨U,cH,bK,O,bf⟩:=id aL;obtain⟨ca,bN⟩:∃ca,ca=dy tup ((bL u f.sc pos a.v).take q) f.aj f.cs:=⟨_,rfl⟩;have da:ca.length=f.cs.length:=by rw[bN,nU _ _ _ _ Ω]
  rw[<-bN] at O bI bJ;have bO:(dL u j f ca).funs[j]? =σ {f with cs:=ca}:=c7 bZ;obtain⟨aM,cI,db,dc,aN,cJ,cK,_,bh,_,cL,cM⟩:=bq O bO;have cN:ca[m]? =σ (bj f.aj f.cs tl):=by
   rw[getD_some Ω,<-bI];unfold bj;rw[hm];simp
  have dd:=mL (t:=tl) G aC;have de:bK[0]? =σ (Δ n.k):=by obtain⟨_,_,_,_,_,_,rfl,_⟩:=O.nY;rfl
  have cO:=cw U;refine bH Ω ?_;refine dg (λH=>dp a7 ae gT aq A R (λq r=>A9 q r/\r<w.heap.size) aK n s t h (dL u j f (dy tup ((bL u f.sc pos a.v).take (q+1)) f.aj f.cs)) H) (λH N=>by rw[aP];exact cE _ N) λcP cQ=>?_;have Z:∀ {I:x3},Ext Y I->ac x7 (j4 ax aN (Δ (m:Int))) I λa'=>aD x7 (o6 ap a' (Δ (tup (bj f.aj f.cs tl)))) I λ(_:Unit) H=>cP H:=λbi=>by
   refine cM bi (by show m<ca.length;omega) λH N=>cQ _ (dp.comp U bf ?_);have cR:dL (dL u j f ca) j {f with cs:=ca} (ca.set m (tup (bj f.aj f.cs tl)))=kw (dL u j f ca) j m (tup (bj f.aj f.cs tl)):=by unfold kw;rw[bO];rfl
   rw[cR,bJ] at N;exact N
  have row:∀ {z:x3} {K:x1->x1->x1->x1->x1->x1->Prop},Ext Y z->K (Γ aq) (.pointer (σ ⟨aq,0+6,ν⟩)) (.slice (σ ⟨aM,0,ν⟩) (dL u j f ca).funs.length cI) (.pointer (σ ⟨aM,0+j*4,ν⟩)) (.pointer (σ ⟨aM,0+j*4+0,ν⟩)) (.pointer (σ ⟨aM,0+j*4+0+2,ν⟩))->
    ac x7 (bM (Γ aq)) z λag=>ac x7 (u5 a8 ag 6) z λao=>ac x7 (u4 eN ao) z λau=>ac x7 (j4 eN au (Δ (j:Int))) z λaw=>ac x7 (u5 dm aw 0) z λaR=>ac x7 (u5 aY aR 2) z λcS=>K ag ao au aw aR cS:=λJ bk=>by
   rw[aQ a8.p 6 (O.box.ext J) cJ,e5 eN.u dm.i cK λ_=>rfl,aU dm.p rfl,aU aY.p rfl];exact bk
  rw[bc an.u ai.i Ψ cO cF];refine row (Ext.refl _) ?_;rw[ay (v:=aN) (o:=0+j*4+0+2) Ψ bh,bc ax.u ap.i Ψ cL cN,bg,al];refine⟨λbl=>?_,λbl=>?_⟩
  .intro z B _ _;refine row B ?_;rw[ay (v:=aN) (o:=0+j*4+0+2) Ψ (iv B bh)];refine (tC Ω Ω).mono ?_;rintro _ I _ ⟨rfl,L⟩;refine⟨.inl L,?_⟩;have:=Z (B.trans L);rw[bb] at this;simp only[if_pos (show a.kind=0 by omega)] at this;exact this
  .intro z B _ _;refine row B ?_;rw[ay (v:=aN) (o:=0+j*4+0+2) Ψ (iv B bh)];refine (mp Ω Ω).mono ?_;rintro _ I _ ⟨rfl,L⟩;refine⟨.inl L,?_⟩;have:=Z (B.trans L);rw[bb] at this;simp only[if_neg (show ¬a.kind=0 by omega)] at this;exact this
 .rintro Y cC aL;rw[p9] at aL;refine cp Ω ?_;obtain⟨U,cH,bK,O,bf⟩:=id aL;have cT:(dL u j f (dy tup (bL u f.sc pos a.v) f.aj f.cs)).vars[M]? =σ x:=J;obtain⟨aZ,bB,y,a2,a6,aJ,cU⟩:=xc O cT;refine dg (λH=>dp w ae gT aq A R A9 aK n s t h (iO u j f pos M x a.v tup un) H) (λH N=>⟨by rw[C],by rw[C];exact N⟩) λcV cW=>?_;have cX:M<(dL u j f (dy tup (bL u f.sc pos a.v) f.aj f.cs)).vars.length:=bm;have row:∀ {z:x3} {K:x1->x1->x1->x1->x1->Prop},Ext Y z->K (Γ aq) (.pointer (σ ⟨aq,0+5,ν⟩)) (.slice (σ ⟨aZ,0,ν⟩) (dL u j f (dy tup (bL u f.sc pos a.v) f.aj f.cs)).vars.length bB) (.pointer (σ ⟨aZ,0+M*1,ν⟩)) y->
    ac x7 (bM (Γ aq)) z λag=>ac x7 (u5 a8 ag 5) z λao=>ac x7 (u4 dV ao) z λau=>ac x7 (j4 dV au (Δ (M:Int))) z λaw=>ac x7 (u4 ax aw) z λaR=>K ag ao au aw aR:=λJ bk=>by
   rw[aQ a8.p 5 (O.box.ext J) a2,e5 dV.u ax.i cX λ_=>rfl,ay (v:=y) (o:=0+M*1) Ψ (by rw[X0,U1];exact iv J a6)];exact bk
  have Z:∀ {I:x3},Ext Y I->ac x7 (j4 ax y (Δ (v:Int))) I λa'=>aD x7 (o6 ap a' (Δ (un (x.un.getD v 0)))) I λ(_:Unit) H=>cV H:=λbi=>by
   refine cU bi Ω λH N=>cW _ ?_;have cY:=dp.comp U bf N.Ep;have:=dp.comp (A9:=A9) (w:=w) (bE.ab _) (λq r E=>.inl ⟨q,E.1⟩) cY;unfold iO;rw[show a.v.toNat=v by omega];exact this
  rw[bg,al];refine⟨λbl=>?_,λbl=>?_⟩
  .intro z B _ _;refine row B (row B ?_);rw[P,bc ax.u ap.i Ψ (aJ.ext B) (getD_some Ω)];rw[P,u6] at bn;refine (mp Ω Ω).mono ?_;rintro _ I _ ⟨rfl,L⟩;refine⟨.inl L,?_⟩;have:=Z (B.trans L);rw[bd] at this;simp only[if_pos (show a.kind=0 by omega)] at this;exact this
  .intro z B _ _;refine row B (row B ?_);rw[P,bc ax.u ap.i Ψ (aJ.ext B) (getD_some Ω)];rw[P,u6] at bn;refine (tC Ω Ω).mono ?_;rintro _ I _ ⟨rfl,L⟩;refine⟨.inl L,?_⟩;have:=Z (B.trans L);rw[bd] at this;simp only[if_neg (show ¬a.kind=0 by omega)] at this;exact this
end
section
variable {w:x3} {ae gT:Nat} {A R:ak} {n:aR} {s:av} {t:aC} {a:hA}
theorem eF.step {aS:ak} {s':av} {bu:aC} (h:bw w ae gT A R n s t) (f:Laid w) (e:¬A 0) (J:Ext w V) (j:ah (eA V) V aa) (a:Grow A V aS aa) (m:bw aa ae gT aS R n s' bu) (p:eh bu []):eF w ae gT A R n s' aa:=by
 refine⟨jI J j,j7 a.1 e (f.ext J),aS,bu,(Grow.ext J).trans a,m,p,λq=>(a.2.1 0 q).elim e λr=>?_⟩;obtain⟨x,y,z,B,⟨h1,_⟩,_⟩:=h.1;have:=h.lt (.inl h1);have:=J.size;omega
theorem xf (hk:a.kind=2):cB n.k s a=match gN s a.i with
  |none=>(s,1)
  |some x=>if dl n.k a.c (iP x)≠0 then (s,dl n.k a.c (iP x)) else (kx s a.i.toNat x (λg=>dJ n.k g a.c) λg=>dK n.k g a.c,0):=by
 unfold cB gN;rw[if_neg Ω,if_neg Ω,if_pos hk];cases (if 0<=a.i then s.vars[a.i.toNat]? else ν) with
 |none=>rfl
 |some x=>
  simp only;by_cases e:x.gone=0
  .rw[if_neg Ω,if_pos e]
  .rw[if_pos e,if_neg e]
theorem xg (hk:a.kind=3):cB n.k s a=match gN s a.i with
  |none=>(s,1)
  |some x=>if dl n.k a.c (if aB x=[] then-1 else s.zero)≠0 then (s,dl n.k a.c (if aB x=[] then-1 else s.zero)) else (kx s a.i.toNat x (λg=>dK n.k g a.c) λg=>dJ n.k g a.c,0):=by
 unfold cB gN;rw[if_neg Ω,if_neg Ω,if_neg Ω,if_pos hk];cases (if 0<=a.i then s.vars[a.i.toNat]? else ν) with
 |none=>rfl
 |some x=>
  simp only;by_cases e:x.gone=0
  .rw[if_neg Ω,if_pos e]
  .rw[if_pos e,if_neg e]
theorem PO (hk:a.kind=2) (h:bw w ae gT A R n s t) (I:Laid w) (W:¬A 0) (X:eh t []):am x7 F9 [Γ ae,Δ a.i,Δ a.c] w (n2 w ae gT A R n s a):=by
 have y:=h.2.2.2.1;have e:=xf (n:=n) (s:=s) hk;refine h2 func37 ?_;refine be λg1 V bE az B=>?_;refine be λY aa bF Z C=>?_;have B:ag aa g1 dz [Γ ae]:=ag.ext B Z;have C:ag aa Y ai [Δ a.i]:=C;have ac:=az.trans Z;have bG:=az.size;have bH:=Z.size;have bI:=B.lt;have bJ:=C.lt;rw[ay (v:=Γ ae) Ψ (B.Qz rfl),ay (v:=Δ a.i) Ψ (C.Qz rfl)];refine (EA (i:=a.i) (h.ext ac)).mono ?_;rintro _ bK _ ⟨af,rfl⟩;have aW:=ac.trans af;have z3:=af.size;cases ad:gN s a.i with
 |none=>
  rw[ad] at e;rw[if_neg Ξ,bm,al];refine⟨λ_=>?_,λh=>absurd Φ h⟩;intro aX aY _;exact⟨by rw[e],by rw[e];exact eF.same h I W X (aW.trans aY)⟩
 |some x=>
 rw[ad] at e;simp only at e;obtain⟨aC,J,bL⟩:=xe ad;obtain⟨u,hu⟩:=W6 aC;rw[hu,u6] at J;rw[hu,u6] at e;rw[if_pos (by rfl),bm,al];refine⟨λh=>absurd rfl h,λ_=>?_⟩;refine bD ap.i λK bM bN aD aE=>?_;refine bq ap.i rfl rfl aE (by simp[x1.cells]) λL aj bO M=>?_;have M:ag L K ap [Δ (-1)]:=M;have z5:=aD.size;have bP:=aE.lt;have ak:=af.trans aD;have an:ag L g1 dz [Γ ae]:=(B.ext ak).ab aj Ω;have ao:ag L Y ai [Δ a.i]:=(C.ext ak).ab aj Ω;have N:Ext w L:=(ac.trans ak).then aj (by rintro r aF rfl;omega);rw[ay (v:=Γ ae) Ψ (an.Qz rfl),ay (v:=Δ a.i) Ψ (ao.Qz rfl)];refine (jL (i:=a.i) (h.ext N)).mono ?_;rintro _ bQ _ ⟨⟨b,aZ,rfl,aG⟩,aH⟩;refine (oL (b:=b) (n:=aZ)).mono ?_;rintro _ a1 _ ⟨a2,aI,rfl,bR,aJ⟩;have aK:=nV aG aC (show s.vars[a.i.toNat]? =σ x by rw[hu,u6];exact J);have f:=aH.trans a2;have bS:=aH.size;have bT:=aJ.lt;have bU:=M.lt;have aL:∀j (v:Nat),(aB x)[j]? =σ (v:Int)->(((aB x).take (j+1)).map λv=>x.un.getD v.toNat 0).foldl jR (-1)=jR ((((aB x).take j).map λv=>x.un.getD v.toNat 0).foldl jR (-1)) (x.un.getD v 0):=λj v aM=>by
  rw[u9,aM,o9,Z0,S1];rfl
 refine kF.old ⟨_,false,jr,#[Γ aI],_,_,_,_,λj w'=>ah (λr=>r=K) a1 w'/\ag w' K ap [Δ ((((aB x).take j).map λv=>x.un.getD v.toNat 0).foldl jR (-1))],λ_ _ _=>False,rfl,(oK (g:=aI) aG.1).s,?_,
  λ_ _ J h=>⟨h.1.ext J,h.2.ext J⟩,λ_ _ _ J h=>⟨h.1.trans (J.ab _),h.2.ext J⟩,λ_ _ _ _ _ h=>h,⟨aJ,I.ext (N.trans f)⟩,⟨ah.refl _ _,M.ext f⟩,?_,?_,λ_ _ h=>h.elim,λ_ _ _ h=>h.elim⟩
 .rintro _ _ _ _ ⟨_,_,_,_,rfl⟩;rfl
 .rintro _ j _ a6 ⟨aN,aP⟩ ⟨aM,rfl,v,a7,a8⟩ ⟨p,O⟩;cases a8;intro ba aQ _ _;have aq:(aB x)[j]? =σ (v:Int):=by rw[<-aK,x8,a7];rfl
  have bb:=n1 y J (x5 aq);have au:=p.trans (aQ.ab _);have bc:Ext w ba:=(N.trans f).then au (by rintro r aF rfl;omega);rw[ay (v:=Γ ae) Ψ (((an.ext f).ab au Ω).Qz rfl),ay (v:=Δ a.i) Ψ (((ao.ext f).ab au Ω).Qz rfl)];refine (ph (i:=a.i) (v:=(v:Int)) (h.ext bc)).mono ?_;rintro _ bd _ ⟨rfl,bf⟩;have bh:im s a.i.toNat (v:Int).toNat=x.un.getD v 0:=by
   unfold im;rw[hu,u6,J];rfl
  rw[if_pos (by rw[hu];exact bb),bh,bo,bp];have E:=aQ.trans bf;have G:=O.ext E;refine aV (λr bi=>(r= .bool (decide ((((aB x).take j).map λv=>x.un.getD v.toNat 0).foldl jR (-1)<0\/x.un.getD v 0<(((aB x).take j).map λv=>x.un.getD v.toNat 0).foldl jR (-1))))/\bi=bd) ?_ λaA H=>?_
  .rintro _ _ ⟨rfl,rfl⟩;rw[al];refine⟨λP=>?_,λQ=>?_⟩
   .refine bq ap.i rfl rfl G Ξ λbj bk bV bl=>?_;have m:ah (λr=>r=K) a6 bj:=(E.ab _).trans bk;refine⟨⟨aN.ab m Ω,j7 m Ω aP⟩,⟨p.trans m,?_⟩,λh=>by cases h⟩;rw[aL j v aq];unfold jR at P ⊢;rw[if_pos P];exact bl
   .refine⟨⟨aN.ext E,aP.ext E⟩,⟨p.trans (E.ab _),?_⟩,λh=>by cases h⟩;rw[aL j v aq];unfold jR at Q G ⊢;rw[if_neg Q];exact G
  rw[ay (v:=Δ _) Ψ (G.Qz rfl),aO,al];refine⟨λP=>H _ _ ⟨by rw[decide_eq_true (Or.inl P)],rfl⟩,λQ=>?_⟩;rw[ay (v:=Δ _) Ψ (G.Qz rfl),aO];refine H _ _ ⟨?_,rfl⟩;congr 1;exact decide_eq_decide.2 ⟨.inr,λh=>h.resolve_left Q⟩
 .rintro k av rfl ⟨p,O⟩;rw[b8 (by rw[<-aK,u7];exact p8 _),PL λv _=>(hB y J).1] at O;have aR:Ext w av:=(N.trans f).then p (by rintro r aF rfl;omega);have aT:ag av g1 dz [Γ ae]:=(an.ext f).ab p Ω;have bn:ag av Y ai [Δ a.i]:=(ao.ext f).ab p Ω;rw[ay (v:=Γ ae) Ψ (aT.Qz rfl),ay (v:=Δ (iP x)) Ψ (O.Qz rfl)];refine (tA (h.ext aR)).mono ?_;rintro _ bW _ ⟨aw,rfl⟩;have S:=aR.trans aw;refine dg (λw'=>eF w ae gT A R n (cB n.k s a).1 w') ?_ λaA H=>?_
  .intro w' br bX U _;obtain⟨bt,bx,aS,bu,bz,bA,bB⟩:=br;refine⟨?_,bt.trans (U.ab _),bx.ext U,aS,bu,bz.trans (Grow.ext U),bA.ext U,bB⟩;rw[e];split
   .rfl
   .rename_i q;rw[Z9.1 q]
  rw[bg,al];refine⟨λq=>?_,λq=>H _ ?_⟩
  .obtain⟨m,hm⟩:=mH (λh=>h q);rw[ay (v:=Γ ae) Ψ ((aT.ext aw).Qz rfl),ay (v:=Δ a.i) Ψ ((bn.ext aw).Qz rfl),hu];refine (EB (t:=t) (u:=u) (F1:=m9) (F2:=na) (g:=λg=>dJ n.k g a.c) (z:=λg=>dK n.k g a.c) (h.ext S) (I.ext S) W X J (λv ad=>?_) ⟨mK y.zero m.1,λ{w A s' t} ax=>qX ax y.zero m⟩).mono ?_
   .have aU:=hB (v:=v.toNat) y J;exact⟨mJ aU ⟨m.1,w7 ad hm⟩,λ{w A s t} ax=>tB ax aU m (.inr (w7 ad hm))⟩
   .rintro _ aX _ bC;refine H _ ?_;rw[e,if_neg (λh=>h q)];exact bC.before S
  .rw[e,if_pos q];exact eF.same h I W X S
theorem EC {b:Nat} {i:Int} {x:bB} (f:tj s n i b m) (hi:0<=i) (J:s.vars[i.toNat]? =σ x):b=0↔aB x=[]:=by
 have a:=nV f hi J;constructor
 .rintro rfl;rw[<-a];have:gk 0 m=[]:=List.eq_nil_iff_forall_not_mem.2 λv ad=>by
   have:=(vc.1 ad).2;simp at this
  rw[this];rfl
 .intro he;rw[he] at a;have ad:=List.map_eq_nil_iff.1 a;refine Nat.eq_of_testBit_eq λj=>?_;rw[Nat.zero_testBit];cases e:b.testBit j with
  |false=>rfl
  |true=>
   have p:j<m:=by
    rcases Nat.lt_or_ge j m with h|h
    .exact h
    .have:=Nat.testBit_lt_two_pow (x:=b) (i:=j) (R6 f.1.2 (T8 Ω h));rw[this] at e;cases e
   have:j∈gk b m:=vc.2 ⟨p,e⟩;rw[ad] at this;cases this
theorem PP (hk:a.kind=3) (h:bw w ae gT A R n s t) (B:Laid w) (C:¬A 0) (E:eh t []):am x7 Ga [Γ ae,Δ a.i,Δ a.c] w (n2 w ae gT A R n s a):=by
 have G:=h.2.2.2.1;have f:=xg (n:=n) (s:=s) hk;refine az func38 ?_;refine (EA (i:=a.i) h).mono ?_;rintro _ V _ ⟨H,rfl⟩;cases ad:gN s a.i with
 |none=>
  rw[ad] at f;rw[if_neg Ξ,bm,al];exact⟨λ_=>⟨by rw[f],by rw[f];exact eF.same h B C E H⟩,λh=>absurd Φ h⟩
 |some x=>
 rw[ad] at f;simp only at f;obtain⟨K,J,af⟩:=xe ad;rw[if_pos (by rfl),bm,al];refine⟨λh=>absurd rfl h,λ_=>?_⟩;refine (wH (h.ext H)).mono ?_;rintro _ aa _ ⟨rfl,U⟩;have L:=H.trans U;refine aV (λr w'=>r=Δ (if aB x=[] then-1 else s.zero)/\Ext w w') ?_ λaA m=>?_
 .rintro _ ag ⟨rfl,M⟩;refine (tA (h.ext M)).mono ?_;rintro _ ah _ ⟨W,rfl⟩;have p:=M.trans W;refine dg (λw'=>eF w ae gT A R n (cB n.k s a).1 w') ?_ λaA m=>?_
  .intro w' X;refine⟨?_,X⟩;rw[f];generalize (if aB x=[] then (-1:Int) else s.zero)=ai;split
   .rfl
   .rename_i j;rw[Z9.1 j]
  rw[bg,al];refine⟨λj=>?_,λj=>m _ ?_⟩
  .obtain⟨y,hm⟩:=mH (λh=>h j);have N:a.c<=s.zero:=by
    split at hm
    .omega
    .exact hm
   obtain⟨u,hu⟩:=W6 K;rw[hu,u6] at J;rw[hu];refine (EB (t:=t) (u:=u) (F1:=na) (F2:=m9) (g:=λg=>dK n.k g a.c) (z:=λg=>dJ n.k g a.c) (h.ext p) (B.ext p) C E J (λv ad=>?_) ⟨mJ G.zero ⟨y.1,N⟩,λ{w A s' t} I=>tB I G.zero y (.inr N)⟩).mono ?_
   .have O:=hB (v:=v.toNat) G J;exact⟨mK O y.1,λ{w A s t} I=>qX I O y⟩
   .rintro _ aj _ Y;refine m _ ?_;rw[f,if_neg (λh=>h j),hu,u6];exact Y.before p
  .rw[f,if_pos j];exact eF.same h B C E p
 refine (jL (i:=a.i) (h.ext L)).mono ?_;rintro _ ak _ ⟨⟨b,Z,rfl,P⟩,ab⟩;refine (gQ (b:=b) (n:=Z) P.1).mono ?_;rintro _ an _ ⟨⟨q,rfl,Q⟩,ac⟩;have S:=(L.trans ab).trans ac;have T:=EC P K J;rw[bg,al];refine⟨λh=>m _ _ ⟨by rw[if_pos (T.1 (Q.1 h))],S⟩,λh=>m _ _ ⟨by rw[if_neg λe=>h (Q.2 (T.2 e))],S⟩⟩
theorem PQ (hk:a.kind=4) (h:bw w ae gT A R n s t) (j:Laid w) (m:¬A 0) (f:eh t []):am x7 Gb [Γ ae,Δ a.i,Δ a.v] w (n2 w ae gT A R n s a):=by
 have p:=h.2.2.2.1;have e:cB n.k s a=match en s a.i a.v with
  |none=>(s,1)
  |some x=>if dK n.k s.zero (x.un.getD a.v.toNat 0)<n.k then (s,7) else (ek s a.i.toNat a.v.toNat,0):=by
  unfold cB;rw[if_neg Ω,if_neg Ω,if_neg Ω,if_neg Ω,if_pos hk];cases en s a.i a.v<;>rfl
 refine az func39 ?_;refine (w9 h).mono ?_;rintro _ V _ ⟨q,rfl⟩;cases ad:en s a.i a.v with
 |none=>
  rw[ad] at e;rw[if_neg Ξ,bm,al];exact⟨λ_=>⟨by rw[e],by rw[e];exact eF.same h j m f q⟩,λh=>absurd Φ h⟩
 |some x=>
 rw[ad] at e;simp only at e;obtain⟨W,J,X,H⟩:=ky ad;rw[if_pos (by rfl),bm,al];refine⟨λh=>absurd rfl h,λ_=>?_⟩;have B:fm n a.i a.v:=by
  have:=n1 p J H;rwa [show ((a.i.toNat:Nat):Int)=a.i by omega] at this
 refine (ph (i:=a.i) (v:=a.v) (h.ext q)).mono ?_;rintro _ aa _ ⟨rfl,I⟩;have K:im s a.i.toNat a.v.toNat=x.un.getD a.v.toNat 0:=by
  unfold im;rw[J]
 rw[if_pos B,K,bo,bp];have C:=q.trans I;refine (wH (h.ext C)).mono ?_;rintro _ Y _ ⟨rfl,L⟩;have E:=C.trans L;refine (qX (h.ext E) p.zero (hB p J)).mono ?_;rintro _ Z _ ⟨rfl,M⟩;have G:=E.trans M;refine (k9 (h.ext G)).mono ?_;rintro _ ab _ ⟨rfl,N⟩;have z:=G.trans N;rw[aO,al];refine⟨λO=>?_,λP=>?_⟩
 .rw[if_pos O] at e;exact⟨by rw[e],by rw[e];exact eF.same h j m f z⟩
 .rw[if_neg P] at e;refine (wL (i:=a.i) (v:=a.v) (h.ext z) (.inl f.1)).mono ?_;rintro r ac _ ⟨_,Q⟩;obtain⟨rfl,S,aS,y,T,U⟩:=Q B;refine⟨by rw[e],?_⟩;rw[e];exact eF.step h j m z S T U f.set
theorem PR (hk:5<=a.kind) (h:bw w ae gT A R n s t) (N:Laid w) (P:¬A 0) (Q:eh t []):am x7 Gc [Γ ae,Δ a.i,Δ a.v] w (n2 w ae gT A R n s a):=by
 have aq:=h.2.2.2.1;have m:cB n.k s a=match en s a.i a.v with
  |none=>(s,1)
  |some x=>(fX s a.i.toNat a.v (aB x),0):=by
  unfold cB;rw[if_neg Ω,if_neg Ω,if_neg Ω,if_neg Ω,if_neg Ω];cases en s a.i a.v<;>rfl
 refine h2 func40 ?_;refine be λg1 V aV S p=>?_;refine be λau aa aW O q=>?_;refine be λav z aX H B=>?_;have p:ag z g1 dz [Γ ae]:=(ag.ext p O).ext H;have q:ag z au ai [Δ a.i]:=ag.ext q H;have B:ag z av ai [Δ a.v]:=B;have I:=(S.trans O).trans H;have aY:=S.size;have a1:=O.size;have z3:=H.size;have aw:=p.lt;have ax:=q.lt;have az:=B.lt;rw[ay (v:=Γ ae) Ψ (p.Qz rfl),ay (v:=Δ a.i) Ψ (q.Qz rfl),ay (v:=Δ a.v) Ψ (B.Qz rfl)];refine (w9 (h.ext I)).mono ?_;rintro _ a2 _ ⟨C,rfl⟩;have U:=I.trans C;have z4:=C.size;cases ad:en s a.i a.v with
 |none=>
  rw[ad] at m;rw[if_neg Ξ,bm,al];refine⟨λ_=>?_,λh=>absurd Φ h⟩;intro a6 aA _;exact⟨by rw[m],by rw[m];exact eF.same h N P Q (U.trans aA)⟩
 |some x=>
 rw[ad] at m;simp only at m;obtain⟨aC,J,a7,a8⟩:=ky ad;rw[if_pos (by rfl),bm,al];refine⟨λh=>absurd rfl h,λ_=>?_⟩;rw[ay (v:=Γ ae) Ψ ((p.ext C).Qz rfl),ay (v:=Δ a.i) Ψ ((q.ext C).Qz rfl)];refine (jL (i:=a.i) (h.ext U)).mono ?_;rintro _ ba _ ⟨⟨b,aD,rfl,W⟩,X⟩;refine (oL (b:=b) (n:=aD)).mono ?_;rintro _ K _ ⟨aE,Y,rfl,bb,Z⟩;have ac:=nV W aC J;have L:=(C.trans X).trans aE;have bc:=X.size;have bd:=L.size;have bf:=Z.lt;refine kF.old ⟨_,false,jr,#[Γ Y],_,_,_,_,λj w'=>gu w ae gT A R n w.heap.size (λr=>K.heap.size<=r) (fX s a.i.toNat a.v ((aB x).take j)) w'/\ah (λr=>r<w.heap.size\/K.heap.size<=r) K w',λ_ _ _=>False,rfl,(oK (g:=Y) W.1).s,?_,
  λ_ _ J h=>⟨h.1.ext J,h.2.ext J⟩,λ_ _ _ J h=>⟨h.1.ext J,h.2.trans (J.ab _)⟩,λ_ _ _ _ _ h=>h,⟨Z,N.ext (I.trans L)⟩,⟨gu.start h N P Q (I.trans L) (p8 _),ah.refl _ _⟩,?_,?_,λ_ _ h=>h.elim,λ_ _ _ h=>h.elim⟩
 .rintro _ _ _ _ ⟨_,_,_,_,rfl⟩;rfl
 .rintro _ j _ bg ⟨af,aF⟩ ⟨bh,rfl,v,aG,aH⟩ ⟨E,G⟩;cases aH;intro aI f _ _;have aj:(aB x)[j]? =σ (v:Int):=by rw[<-ac,x8,aG];rfl
  have aJ:fm n a.i (v:Int):=by
   have:=n1 aq J (x5 aj);rwa [show ((a.i.toNat:Nat):Int)=a.i by omega] at this
  have aZ:∀ {g:Nat} {e:r9} {cs:List x1},w.heap.size<=g->g<z.heap.size->ag z g e cs->ag aI g e cs:=λaK aL aM=>((aM.ext L).ab G Ω).ext f;have M:=PK (s:=s) (i:=a.i.toNat) (v:=a.v) aj;obtain⟨bi,bj,aN,ak,aO⟩:=E.open;rw[ay (v:=Δ a.v) Ψ ((aZ Ω az B).Qz rfl),bm,al];refine⟨λaP=>?_,λhe=>?_⟩
  .rw[if_pos aP] at M;rw[ay (v:=Γ ae) Ψ ((aZ Ω aw p).Qz rfl),ay (v:=Δ a.i) Ψ ((aZ Ω ax q).Qz rfl)];refine (wL (i:=a.i) (v:=(v:Int)) (aN.ext f) (.inl ak.1)).mono ?_;rintro r bk _ ⟨_,aQ⟩;obtain⟨rfl,aR,aS,y,aT,an⟩:=aQ aJ;rw[<-M] at an;have bl:=G.size;obtain⟨ao,ap,bn⟩:=aO (D':=λr=>K.heap.size<=r) (jI f aR) ((Grow.ext f).trans aT) an ak.set (λr h=>h) λr aK aL=>Ω
   exact⟨⟨af.ab ap Ω,ao.2.1.1⟩,⟨ao,G.trans ap⟩,λh=>by cases h⟩
  .rw[if_neg he] at M;exact⟨⟨af.ext f,aF.ext f⟩,⟨by rw[M];exact E.ext f,G.trans (f.ab _)⟩,λh=>by cases h⟩
 .rintro k bo rfl ⟨E,G⟩;rw[b8 (by rw[<-ac,u7];exact p8 _)] at E;intro bp aU _;exact⟨by rw[m],by rw[m];exact E.done aU⟩
end
theorem PS {m:x1} (h:aF .i64 w m l) (N:l.length<=1000000):am x7 GR [m,Δ v] w λr w'=>Ext w w'/\(∃g,au .i64 ai w' g r (l.filter λy=>!decide (y=v)))/\ ∀q,leads r q->w.heap.size<=q:=by
 refine az func108 ?_;rw[aW an.u h];refine bZ.range l.length (λi out f=>Ext w f/\(∃g,au .i64 ai f g out ((l.take i).filter λy=>!decide (y=v)))/\ ∀r,leads out r->w.heap.size<=r) h.le ⟨Ext.refl _,⟨0,au.nil _ _ _ _⟩,λr B=>by obtain⟨_,_,_,e,_⟩:=B;cases e⟩ ?_ ?_
 .rintro q out f C E ⟨a,⟨g,hm⟩,j⟩ G;obtain⟨y,p⟩:=aH (l:=l) E;have s:(l.take (q+1)).filter (λy=>!decide (y=v))=(l.take q).filter (λy=>!decide (y=v))++(if y≠v then[y] else[]):=by
   rw[u9,p,o9,List.filter_append];congr 1;by_cases aJ:y=v<;>simp[aJ]
  refine bH Ω ?_;refine aV (λx z=>Ext w z/\(∃g,au .i64 ai z g x ((l.take (q+1)).filter λy=>!decide (y=v)))/\ ∀r,leads x r->w.heap.size<=r) (λ_ _ H=>by rw[aP];exact G _ _ H) λaA A=>?_;rw[bc an.u ai.i Ψ (h.ext a) p,bm,al];refine⟨λI=>?_,λhe=>A _ _ ⟨a,⟨g,by rw[s,if_neg he,U4];exact hm⟩,j⟩⟩;refine En (w0:=w) a hm j ?_ λO w' J K L M=>A _ _ ⟨K,⟨J,by rw[s,if_pos I];exact L⟩,M⟩;have h1:=List.length_filter_le (λy=>!decide (y=v)) (l.take q);rw[j6] at h1;omega
 .rintro out f C ⟨a,hm,j⟩;rw[p9] at hm;refine cp Ω ?_;exact⟨a,hm,j⟩
theorem xh {i:Nat} {v:Int}:∀ (L:Λ) (s:av) (x:bB),s.vars[i]? =σ x->(∀y∈L,0<=y)-> ∃m,fX s i v L={s with vars:=s.vars.set i {x with mask:=m}}/\aB {x with mask:=m}=(aB x).filter λy=>!(decide (y∈L)&& !decide (y=v))
 |[],s,x,J,_=>by
  refine⟨x.mask,?_,(List.filter_eq_self.2 λy _=>Ξ).symm⟩;have:s.vars.set i x=s.vars:=by
   apply Y3;intro q;by_cases e:i=q
   .subst e;rw[c7 (x4.1 J).1,J]
   .rw[Y0 e]
  show s={s with vars:=s.vars.set i x};rw[this]
 |w::L,s,x,J,f=>by
  have hw:=f w (.head _);have r:=(x4.1 J).1;rw[fX];by_cases e:w≠v
  .rw[if_pos e];have p:ek s i w.toNat={s with vars:=s.vars.set i {x with mask:=((x.mask.toNat ||| 2 ^ w.toNat:Nat):Int)}}:=by unfold ek;rw[J]
   obtain⟨m,h1,j⟩:=xh L (ek s i w.toNat) {x with mask:=((x.mask.toNat ||| 2 ^ w.toNat:Nat):Int)} (by rw[p];exact c7 r) λy a=>f y (.tail _ a);refine⟨m,?_,?_⟩
   .rw[h1,p];simp only[List.set_set]
   .rw[j,w6 hw,List.filter_filter];refine List.filter_congr λy _=>?_;by_cases a:y=w
    .subst a;simp[e]
    .simp[a]
  .rw[if_neg e];obtain⟨m,h1,j⟩:=xh L s x J λy a=>f y (.tail _ a);refine⟨m,h1,?_⟩;rw[j];have e:=Z9.1 e;refine List.filter_congr λy _=>?_;by_cases a:y=v
   .simp[a]
   .have:y≠w:=λh=>a (h.trans e);simp[a,this]
theorem filter_one (h:l.Nodup) (ad:v∈l):l.filter (λy=>decide (y=v))=[v]:=by
 induction l with
 |nil=>cases ad
 |cons a l j=>
  have f:=List.nodup_cons.1 h;by_cases e:a=v
  .subst e;rw[List.filter_cons_of_pos Ξ,List.filter_eq_nil_iff.2 λx J=>by simp;intro m;exact f.1 (m▸J)]
  .rw[List.filter_cons_of_neg (by simpa using e)];exact j f.2 ((W9.1 ad).resolve_left (Ne.symm e))
def jl (u:av) (a:hA):Option bB:=if 3<a.kind then en u a.i a.v else gN u a.i
section
variable {w:x3} {ae gT aq:Nat} {A R:ak} {A9:Nat->ak} {aK:ak} {n:aR} {s u:av} {t:aC} {h:List aC} {cs:List x1} {a:hA}
theorem ED {x:bB} (h:jl u a=σ x):0<=a.i/\u.vars[a.i.toNat]? =σ x/\x.gone=0/\(3<a.kind->a.v∈aB x):=by
 unfold jl at h;split at h
 .obtain⟨h1,e,f,j⟩:=ky h;exact⟨h1,e,f,λ_=>j⟩
 .rename_i hk;obtain⟨h1,e,f⟩:=xe h;exact⟨h1,e,f,λh=>absurd h hk⟩
theorem PT (h:¬(0<=a.i/\a.i<u.vars.length)):jl u a=ν:=by
 cases he:jl u a with
 |none=>rfl
 |some x=>
  obtain⟨h1,e,_⟩:=ED he;exact absurd ⟨h1,by have:=(x4.1 e).1;omega⟩ h
theorem PU {x:bB} (e:0<=a.i) (J:u.vars[a.i.toNat]? =σ x):jl u a=if x.gone=0/\(3<a.kind->a.v∈aB x) then σ x else ν:=by
 unfold jl;by_cases hk:3<a.kind
 .rw[if_pos hk];unfold en;rw[if_pos e,J];simp only[hk,true_implies]
 .rw[if_neg hk];unfold gN;rw[if_pos e,J];simp only[hk,false_implies,and_true]
theorem PV (hk:2<=a.kind/\a.kind<=5) (h:jl u a=ν):cB n.k u a=(u,1):=by
 unfold jl at h;by_cases e:3<a.kind
 .rw[if_pos e] at h;unfold cB;rw[if_neg Ω,if_neg Ω,if_neg Ω,if_neg Ω,h];split<;>rfl
 .rw[if_neg e] at h;by_cases f:a.kind=2
  .rw[xf f,h]
  .rw[xg Ω,h]
theorem EE {x:bB} (m:0<=c):iP x<c↔aB x=[]\/ ∃v∈aB x,x.un.getD v.toNat 0<c:=by
 unfold iP;constructor
 .intro h;cases a:aB x with
  |nil=>exact .inl rfl
  |cons b l=>
   refine .inr ?_;rw[a] at h;simp only[U7] at h;by_cases e:∀v∈b::l,c<=x.un.getD v.toNat 0
   .have:=(po (l.map λv=>x.un.getD v.toNat 0) (x.un.getD b.toNat 0) c).2 ⟨e b (.head _),λy f=>by obtain⟨v,ad,rfl⟩:=l9.1 f;exact e v (.tail _ ad)⟩;omega
   .simp only[Classical.not_forall] at e;obtain⟨v,ad,p⟩:=e;exact⟨v,ad,Ω⟩
 .rintro (h|⟨v,ad,q⟩)
  .rw[h];show (-1:Int)<c;omega
  .cases a:aB x with
   |nil=>rw[a] at ad;cases ad
   |cons b l=>
    rw[a] at ad;simp only[U7];rcases Int.lt_or_le ((l.map λv=>x.un.getD v.toNat 0).foldl min (x.un.getD b.toNat 0)) c with aJ|aJ
    .exact aJ
    .obtain⟨r,j⟩:=(po _ _ _).1 aJ;rcases W9.1 ad with rfl|ad
     .omega
     .have:=j _ (l9.2 ⟨v,ad,rfl⟩);omega
def xi (n:aR) (u:av) (x:bB) (a:hA):Prop:=aB x=[]\/(a.kind=3/\u.zero<a.c)\/(a.kind=2/\ ∃v∈aB x,x.un.getD v.toNat 0<a.c)
theorem PW {x:bB} (hk:a.kind=2\/a.kind=3) (h:jl u a=σ x):(¬(0<=a.c/\a.c<=n.k)->cB n.k u a=(u,3))/\((0<=a.c/\a.c<=n.k)->xi n u x a->cB n.k u a=(u,7))/\
  ((0<=a.c/\a.c<=n.k)->¬xi n u x a->cB n.k u a=(kx u a.i.toNat x (λg=>if a.kind=2 then dJ n.k g a.c else dK n.k g a.c) (λg=>if a.kind=2 then dK n.k g a.c else dJ n.k g a.c),0)/\(a.kind=2-> ∀v∈aB x,a.c<=x.un.getD v.toNat 0)/\(a.kind=3->a.c<=u.zero)):=by
 have ad:gN u a.i=σ x:=by unfold jl at h;rwa [if_neg Ω] at h
 rcases hk with hk|hk
 .have e:=xf (n:=n) (s:=u) hk;rw[ad] at e;simp only at e;simp only[hk];refine⟨λf=>?_,λf hi=>?_,λf hi=>?_⟩
  .have j:∀m,dl n.k a.c m=3:=λm=>by unfold dl;rw[if_pos f]
   rw[j,if_pos Φ] at e;exact e
  .have p:iP x<a.c:=(EE f.1).2 (hi.elim .inl λh=>h.elim (λh=>Ω) λh=>.inr h.2);have j:∀m,m<a.c->dl n.k a.c m=7:=λm hm=>by unfold dl;rw[if_neg (λh=>h f),if_pos hm]
   rw[j _ p,if_pos Φ] at e;exact e
  .have p:¬iP x<a.c:=λh=>hi (((EE f.1).1 h).elim .inl λh=>.inr (.inr ⟨hk,h⟩));have j:dl n.k a.c (iP x)=0:=by unfold dl;rw[if_neg (λh=>h f),if_neg p]
   rw[j,if_neg Φ] at e;refine⟨by rw[e];simp,λ_ v ad=>?_,λh=>absurd h Φ⟩;rcases Int.lt_or_le (x.un.getD v.toNat 0) a.c with aJ|aJ
   .exact absurd (.inr (.inr ⟨hk,v,ad,aJ⟩)) hi
   .exact aJ
 .have e:=xg (n:=n) (s:=u) hk;rw[ad] at e;simp only at e;simp only[hk];refine⟨λf=>?_,λf hi=>?_,λf hi=>?_⟩
  .have j:∀m,dl n.k a.c m=3:=λm=>by unfold dl;rw[if_pos f]
   rw[j,if_pos Φ] at e;exact e
  .have p:(if aB x=[] then-1 else u.zero)<a.c:=by
    by_cases q:aB x=[]
    .rw[if_pos q];omega
    .rw[if_neg q];rcases hi with hi|hi|hi
     .exact absurd hi q
     .exact hi.2
     .omega
   have j:∀m,m<a.c->dl n.k a.c m=7:=λm hm=>by unfold dl;rw[if_neg (λh=>h f),if_pos hm]
   rw[j _ p,if_pos Φ] at e;exact e
  .have q:¬aB x=[]:=λh=>hi (.inl h);have r:¬u.zero<a.c:=λh=>hi (.inr (.inl ⟨hk,h⟩));have j:dl n.k a.c u.zero=0:=by unfold dl;rw[if_neg (λh=>h f),if_neg r]
   rw[if_neg q,j,if_neg Φ] at e;exact⟨by rw[e];simp,λh=>absurd h Φ,λ_=>Ω⟩
end
section
variable {w:x3} {ae gT aq:Nat} {A R:ak} {A9:Nat->ak} {aK:ak} {n:aR} {s u:av} {t:aC} {h:List aC} {cs:List x1} {a:hA}
theorem PX (p:ct w ae gT aq A R A9 aK n s u t h cs) (aj:bt n.k n.sizes u) (hk:2<=a.kind/\a.kind<=5):am x7 uz [Γ aq,Δ (a.kind:Int),Δ a.i,Δ a.pos,Δ a.v,Δ a.c] w λr w'=>r=Δ (cB n.k u a).2/\dp w ae gT aq A R A9 aK n s t h (cB n.k u a).1 w':=by
 have cm:=aj.vars;have cn:=aj.eg;refine az func34 ?_;have bL:cs[0]? =σ (Δ n.k):=by obtain⟨_,_,_,_,_,_,rfl,_⟩:=p.nY;rfl
 rw[aQ a8.p 0 p.box bL,aO,al];refine⟨λh=>Ω,λ_=>?_⟩;refine aV (λr w'=>r= .bool (!(jl u a).isSome)/\Ext w w') ?_ λaA a6=>?_
 rotate_left
 .rw[bV];refine p.look.load λdY cr=>?_;refine (OX (i:=a.i) cr).mono ?_;rintro _ V _ ⟨rfl,U⟩;rw[bG,ce];refine⟨λN=>a6 _ _ ⟨by rw[PT (λh=>by rw[cm] at h;rw[decide_eq_true h] at N;cases N)];rfl,U⟩,λN=>?_⟩;have a7:0<=a.i/\a.i<n.sizes.length:=by simpa using N
  obtain⟨x,J⟩:=aH (l:=u.vars) (i:=a.i.toNat) Ω;have bn:=PU a7.1 J;obtain⟨szv,cu,dk,aS,dl,bo,bN,_,_,cw,cA,dm,dn,dq⟩:=(p.look).ext U;rw[aQ a8.p 4 bN rfl];refine hM (α:=Bool) (a:=decide (x.gone≠0)) (i:=a.i.toNat) rfl Ω j3.u fa.i Ψ cA (by rw[x8,J];rfl) λbP bp=>?_;have bp:[bP]=[x1.bool (decide (x.gone≠0))]:=bp;obtain rfl:bP=x1.bool (decide (x.gone≠0)):=by simpa using bp
  rw[al];refine⟨λO=>a6 _ _ ⟨by rw[bn,if_neg λh=>O h.1];rfl,U⟩,λO=>?_⟩;have O:=Z9.1 O;rw[bU,al];refine⟨λbq=>?_,λbq=>a6 _ _ ⟨by rw[bn,if_pos ⟨O,λh=>absurd h Ω⟩];rfl,U⟩⟩;rw[aQ a8.p 3 bN rfl];refine hM (α:=Λ) (a:=aB x) (i:=a.i.toNat) rfl Ω c5.u an.i Ψ cw (by rw[x8,J];rfl) λdr cC=>?_;refine (wM (dc cC)).mono ?_;rintro _ aa _ ⟨rfl,H⟩;rw[bG];refine a6 _ _ ⟨?_,U.trans H⟩;rw[bn];by_cases ad:a.v∈aB x
  .rw[if_pos ⟨O,λ_=>ad⟩,decide_eq_true ad];rfl
  .rw[if_neg λh=>ad (h.2 Ω),decide_eq_false ad];rfl
 rintro _ V ⟨rfl,U⟩;cases hm:jl u a with
 |none=>
  have f:=PV (n:=n) hk hm;rw[S5,X9,bQ];exact⟨by rw[f],by rw[f];exact dp.same p U⟩
 |some x=>
 rw[T1,Y6,a1];obtain⟨cD,J,ds,cE⟩:=ED hm;obtain⟨B,aG⟩:=W6 cD;rw[aG,u6] at J;have br:=(x4.1 J).1;have G:∀y∈aB x,0<=y/\y<x.un.length:=λy M=>(gq.1 M).1;simp only[aG];have bR:∀v:Nat,0<=x.un.getD v 0/\x.un.getD v 0<=n.k:=λv=>hB aj J;have L:=p.ext U;have dt:cs[0]? =σ (Δ n.k):=bL;have bu:∀ {aa:x3} {eR:av} {bS:List x1} {bw:Nat->ak} {aI:bB},ct aa ae gT aq A R bw aK n s eR t h bS->eR.vars[B]? =σ aI-> ∃aS ao y,aF .i64 aa y aI.un/\(∀ {j:x3} {K:x1->x1->x1->x1->x1->Prop},Ext aa j->K (Γ aq) (.pointer (σ ⟨aq,0+5,ν⟩)) aS (.pointer (σ ⟨ao,0+B*1,ν⟩)) y->
    ac x7 (bM (Γ aq)) j λau=>ac x7 (u5 a8 au 5) j λaw=>ac x7 (u4 dV aw) j λaL=>ac x7 (j4 dV aL (Δ (B:Int))) j λba=>ac x7 (u4 ax ba) j λcF=>K au aw aL ba cF)/\
   ∀ {w':x3} {v:Nat} {c:Int} {K:Unit->x3->Prop},Ext aa w'->v<aI.un.length->(∀bT,jj aa ae gT aq A R bw aK n s t h (eE eR B aI (aI.un.set v c)) bT->K () bT)->ac x7 (j4 ax y (Δ (v:Int))) w' λa=>aD x7 (o6 ap a (Δ c)) w' K:=λ{aa eR bS bw aI} bW C=>by
  obtain⟨ao,cG,y,cH,cI,Y,bx⟩:=xc bW C;have cJ:=(x4.1 C).1;refine⟨.slice (σ ⟨ao,0,ν⟩) eR.vars.length cG,ao,y,Y,λ{j K} aC aT=>?_,bx⟩;rw[aQ a8.p 5 (bW.box.ext aC) cH,e5 dV.u ax.i cJ λ_=>rfl,ay (v:=y) (o:=0+B*1) Ψ (by rw[X0,U1];exact iv aC cI)];exact aT
 obtain⟨cK,cL,bb,bX,cM,Z,cN,bY⟩:=Pr L J;have b0:∀ {j:x3} {K:x1->x1->x1->Prop},Ext V j->K (Γ aq) (.pointer (σ ⟨aq,0+3,ν⟩)) (.slice (σ ⟨cK,0,ν⟩) u.vars.length cL)->
   ac x7 (bM (Γ aq)) j λau=>ac x7 (u5 a8 au 3) j λaw=>ac x7 (u4 c5 aw) j λaL=>K au aw aL:=λaC aT=>by
  rw[aQ a8.p 3 (L.box.ext aC) bX];exact aT
 have nZ:∀ {j:x3} {K:x1->Prop},Ext V j->K bb->
   ac x7 (bM (Γ aq)) j λau=>ac x7 (u5 a8 au 3) j λaw=>ac x7 (u4 c5 aw) j λaL=>ac x7 (j4 c5 aL (Δ (B:Int))) j λba=>ac x7 (u4 an ba) j K:=λaC aT=>by
  rw[aQ a8.p 3 (L.box.ext aC) bX,e5 c5.u an.i br λ_=>rfl,ay (v:=bb) (o:=0+B*1) Ψ (by rw[X0,U1];exact iv aC cM)];exact aT
 have low:∀ {u':av} {w':x3},dp V ae gT aq A R A9 aK n s t h u' w'->dp w ae gT aq A R A9 aK n s t h u' w':=λbd=>dp.comp (U.ab _) (λq r G=>.inl ⟨q,G⟩) bd;refine aV (λ_ w'=>dp w ae gT aq A R A9 aK n s t h (cB n.k u a).1 w'/\(cB n.k u a).2=0) (λ_ w' bd=>⟨by rw[bd.2],bd.1⟩) λcO bz=>?_;refine aV (λr w'=>r= .bool (decide (a.kind=2\/a.kind=3))/\V=w') ?_ λdu b1=>?_
 rotate_left
 .rw[bg,al];refine⟨λC=>b1 _ _ ⟨?_,rfl⟩,λC=>?_⟩
  .congr 1;exact decide_eq_decide.2 ⟨λ_=>.inl Ω,λ_=>C⟩
  .rw[bg];refine b1 _ _ ⟨?_,rfl⟩;congr 1;exact decide_eq_decide.2 ⟨λh=>.inr Ω,λh=>Ω⟩
 rintro _ _ ⟨rfl,rfl⟩;rw[al];refine⟨λcP=>?_,λdv=>?_⟩
 .
  obtain⟨cQ,be,bA⟩:=PW (n:=n) cP hm;refine zM.mono ?_;rintro _ aa _ ⟨rfl,H⟩;have dw:=H;have b2:cq a.c n.k↔0<=a.c/\a.c<=n.k:=⟨λh=>h.2,λC=>⟨cn,C⟩⟩;rw[bG,ce];refine⟨λN=>?_,λN=>?_⟩
  .have f:=cQ λh=>absurd (b2.2 h) (by simpa using N);exact⟨by rw[f],by rw[f];exact low (dp.same L H)⟩
  have a7:=b2.1 (show cq a.c n.k by simpa using N);have be:=be a7;have bA:=bA a7;refine aV (λr w'=>Ext V w'/\ ∃b,r= .bool b/\(b=true↔aB x=[]\/(a.kind=3/\u.zero<a.c))) ?_ λdx bC=>?_
  rotate_left
  .refine nZ H ?_;rw[aW an.u (Z.ext H),bg,al];refine⟨λhe=>bC _ _ ⟨H,true,rfl,⟨λ_=>.inl (j5 Ω),λ_=>rfl⟩⟩,λbf=>?_⟩;have bf:aB x≠[]:=λh=>bf (by rw[h];rfl);rw[bg,al];refine⟨λbq=>?_,λbq=>bC _ _ ⟨H,false,rfl,⟨(λh=>by cases h),λh=>h.elim (λh=>absurd h bf) λh=>Ω⟩⟩⟩;have bD:cs[2]? =σ (Δ u.zero):=by obtain⟨_,_,_,_,_,_,rfl,_⟩:=p.nY;rfl
   rw[aQ a8.p 2 (L.box.ext H) bD,bU];exact bC _ _ ⟨H,_,rfl,by rw[decide_eq_true_eq];exact⟨λh=>.inr ⟨Ω,h⟩,λh=>h.elim (λh=>absurd h bf) λh=>h.2⟩⟩
  rintro _ cR ⟨aM,b,rfl,b3⟩;rw[ce];refine⟨λcS=>?_,λaf=>?_⟩
  .have f:=be ((b3.1 cS).elim .inl λh=>.inr (.inl h));exact⟨by rw[f],by rw[f];exact low (dp.same L aM)⟩
  have b4:¬(aB x=[]\/(a.kind=3/\u.zero<a.c)):=λh=>by rw[b3.2 h] at af;cases af
  refine nZ aM ?_;rw[aW an.u (Z.ext aM)];refine bZ.range (aB x).length (λq _ w'=>Ext V w'/\(a.kind=2-> ∀v∈(aB x).take q,a.c<=x.un.getD v.toNat 0)) Z.le ⟨aM,λ_ v ad=>by simp at ad⟩ ?_ ?_
  .rintro q b5 aE cT bE ⟨I,bh⟩ cU;obtain⟨v,ad⟩:=aH (l:=aB x) bE;have ag:=x5 ad;have bi:=G v ag;obtain⟨E,rfl⟩:=W6 bi.1;refine bH Ω ?_;rw[bc an.u ai.i Ψ (Z.ext I) ad];refine aV (λr w'=>aE=w'/\r= .bool (decide (a.kind=2/\x.un.getD E 0<a.c))) ?_ λdy b6=>?_
   .rintro _ _ ⟨rfl,rfl⟩;rw[al];refine⟨λaX=>?_,λbF=>?_⟩
    .have f:=be (.inr (.inr ⟨aX.1,_,ag,aX.2⟩));exact⟨by rw[f],by rw[f];exact low (dp.same L I)⟩
    .rw[aP];refine cU _ _ ⟨I,λC y M=>?_⟩;rw[u9,ad,o9,o7,o8] at M;rcases M with M|rfl
     .exact bh C y M
     .rcases Int.lt_or_le (x.un.getD E 0) a.c with aJ|aJ
      .exact absurd ⟨C,aJ⟩ bF
      .exact aJ
   rw[bg,al];refine⟨λC=>?_,λC=>b6 _ _ ⟨rfl,by rw[decide_eq_false λh=>C Ω]⟩⟩;obtain⟨aS,ao,y,Y,look,_⟩:=bu (L.ext I) J;refine look (Ext.refl _) ?_;rw[bc ax.u ap.i Ψ Y (getD_some (i:=E) Ω),bU];refine b6 _ _ ⟨rfl,?_⟩;congr 1;exact decide_eq_decide.2 ⟨λh=>⟨Ω,h⟩,λh=>h.2⟩
  rintro b5 aE cT ⟨I,bh⟩;rw[p9] at bh;have cV:¬xi n u x a:=λhi=>hi.elim (λh=>b4 (.inl h)) λh=>h.elim (λh=>b4 (.inr h)) λ⟨C,v,ad,aX⟩=>by have:=bh C v ad;omega
  obtain⟨f,dz,dA⟩:=bA cV;rw[aG,u6] at f;refine cp Ω ?_;refine nZ I ?_;rw[aW an.u (Z.ext I)];obtain⟨g,O⟩:∃g:Int->Int,g=λg=>if a.kind=2 then dJ n.k g a.c else dK n.k g a.c:=⟨_,rfl⟩;obtain⟨z,bI⟩:∃z:Int->Int,z=λg=>if a.kind=2 then dK n.k g a.c else dJ n.k g a.c:=⟨_,rfl⟩;rw[<-O,<-bI] at f;have cW:=L.ext I;have cX:=Z.ext I;have b7:=qV x;obtain⟨b8,dC⟩:∃b8,bb=b8:=⟨_,rfl⟩;have cY:eE u B x (ec g x.un ((aB x).take 0))=u:=by
   unfold eE;show {u with vars:=u.vars.set B x}=u;have:u.vars.set B x=u.vars:=by
    apply Y3;intro i;by_cases e:B=i
    .subst e;rw[c7 br,J]
    .rw[Y0 e]
   rw[this]
  have cZ:∀ {w':x3},ah (A9 2) aE w'->aF .i64 w' bb (aB x):=λc0=>hP cX c0 λr G b n c e N=>L.gC.1 0 2 r Φ (cN r ⟨b,n,c,e,N⟩) G;refine cz.range (aB x).length (λq w'=>jj aE ae gT aq A R A9 aK n s t h (eE u B x (ec g x.un ((aB x).take q))) w') Z.le (by rw[cY];exact jj.same cW (Ext.refl _)) ?_ ?_
  .rintro q bj c1 bE aN c2;obtain⟨bk,b9,ca,aR,bJ,c3⟩:=id aN;obtain⟨v,ad⟩:=aH (l:=aB x) bE;have ag:=x5 ad;have bi:=G v ag;obtain⟨E,rfl⟩:=W6 bi.1;have bl:(eE u B x (ec g x.un ((aB x).take q))).vars[B]? =σ {x with un:=ec g x.un ((aB x).take q)}:=c7 br;have dD:(ec g x.un ((aB x).take q)).length=x.un.length:=tv _ _;have bK:=tw (g:=g) ((aB x).take q) x.un (E:Int) (b7.sublist (List.take_sublist _ _)) (λy M=>G y (T4 M)) Ω;rw[if_neg (w8 b7 ad),u6] at bK;have c4:=bR E;obtain⟨aS,ao,y,Y,look,bx⟩:=bu aR bl;refine bH Ω ?_;refine dg (λP=>jj aE ae gT aq A R A9 aK n s t h (eE u B x (ec g x.un ((aB x).take (q+1)))) P) (λP Q=>by rw[aP];exact c2 _ Q) λc6 c8=>?_;have aY:∀ {S:x3},Ext bj S->ac x7 (j4 ax y (Δ (E:Int))) S λa'=>aD x7 (o6 ap a' (Δ (g (x.un.getD E 0)))) S λ(_:Unit) P=>c6 P:=λbm=>by
    refine bx bm (by show E<(ec g x.un ((aB x).take q)).length;omega) λP Q=>c8 _ (jj.comp bk bJ c3 ?_);have e:eE (eE u B x (ec g x.un ((aB x).take q))) B {x with un:=ec g x.un ((aB x).take q)} ((ec g x.un ((aB x).take q)).set E (g (x.un.getD E 0)))=eE u B x (ec g x.un ((aB x).take (q+1))):=by
     rw[Ex ad,u6,bK];unfold eE;simp only[List.set_set]
    rw[e] at Q;exact Q
   have cb:(ec g x.un ((aB x).take q))[E]? =σ (x.un.getD E 0):=by rw[getD_some Ω,bK]
   rw[bc an.u ai.i Ψ (cZ bk) ad,bg,al];refine⟨λC=>?_,λC=>?_⟩
   .intro j W _ _;refine look W (look W ?_);rw[bc ax.u ap.i Ψ (Y.ext W) cb];refine (tC Ω Ω).mono ?_;rintro _ S _ ⟨rfl,X⟩;refine⟨.inl X,?_⟩;have:=aY (W.trans X);rw[O] at this;simp only[if_pos (show a.kind=2 by omega)] at this;exact this
   .intro j W _ _;refine look W (look W ?_);rw[bc ax.u ap.i Ψ (Y.ext W) cb];refine (mp Ω Ω).mono ?_;rintro _ S _ ⟨rfl,X⟩;refine⟨.inl X,?_⟩;have:=aY (W.trans X);rw[O] at this;simp only[if_neg (show ¬a.kind=2 by omega)] at this;exact this
  .rintro bj c1 aN;rw[p9] at aN;refine cp Ω ?_;have aN:=aN.Ep;obtain⟨bk,b9,ca,aR,bJ⟩:=id aN;have cc:ca[2]? =σ (Δ u.zero):=by obtain⟨_,_,_,_,_,_,rfl,_⟩:=aR.nY;rfl
   have c9:=aj.zero;have aY:∀ {S:x3},Ext bj S->aD x7 (o6 ap (.pointer (σ ⟨aq,0+2,ν⟩)) (Δ (z u.zero))) S λ(_:Unit) P=>cO b5 P:=λbm=>by
    refine Pq (aR.ext bm) λP Q=>bz _ _ ⟨?_,by rw[f]⟩;rw[f];have cd:=dp.comp (A9:=b9) (bm.ab _) (λq r G=>.inl ⟨q,G⟩) Q;have aZ:=dp.comp bk bJ cd;exact low (dp.comp (I.ab _) (λq r G=>.inl ⟨q,G⟩) aZ)
   rw[bg,al];refine⟨λC=>?_,λC=>?_⟩
   .rw[aQ a8.p 2 aR.box cc];refine (mp Ω Ω).mono ?_;rintro _ S _ ⟨rfl,X⟩;rw[bV,aU a8.p rfl];have:=aY X;rw[bI] at this;simp only[if_pos (show a.kind=2 by omega)] at this;exact this
   .rw[aQ a8.p 2 aR.box cc];refine (tC Ω Ω).mono ?_;rintro _ S _ ⟨rfl,X⟩;rw[bV,aU a8.p rfl];have:=aY X;rw[bI] at this;simp only[if_neg (show ¬a.kind=2 by omega)] at this;exact this
 .
  have cg:3<a.kind:=Ω
  have ag:=cE cg;obtain⟨E,bo⟩:=W6 (G _ ag).1;have bi:=(G _ ag).2;have ch:en u a.i a.v=σ x:=by unfold jl at hm;rwa [if_pos cg] at hm
  rw[bg,al];refine⟨λaZ=>?_,λaZ=>?_⟩
  .have aZ:a.kind=4:=Ω
   have f:cB n.k u a=if dK n.k u.zero (x.un.getD a.v.toNat 0)<n.k then (u,7) else (ek u a.i.toNat a.v.toNat,0):=by
    unfold cB;rw[if_neg Ω,if_neg Ω,if_neg Ω,if_neg Ω,if_pos aZ,ch]
   have c9:=aj.zero;have c4:=bR E;intro aa H _ _;have bD:cs[2]? =σ (Δ u.zero):=by obtain⟨_,_,_,_,_,_,rfl,_⟩:=p.nY;rfl
   obtain⟨aS,ao,y,Y,look,_⟩:=bu (L.ext H) J;rw[aQ a8.p 2 (L.box.ext H) bD];refine look (Ext.refl _) ?_;rw[bo,bc ax.u ap.i Ψ Y (getD_some (i:=E) Ω)];refine (mp Ω Ω).mono ?_;rintro _ cR _ ⟨rfl,aM⟩;have ci:=H.trans aM;rw[bo,u6] at f;unfold dK at f;rw[aO,al];refine⟨λaX=>?_,λbF=>?_⟩
   .rw[if_pos aX] at f;exact⟨by rw[f],by rw[f];exact low (dp.same L ci)⟩
   .rw[if_neg bF] at f;intro aE I _ _;have a2:=ci.trans I;refine b0 a2 ?_;refine nZ a2 ?_;have dE:=pq x;have da:=aj.hv.2.2;refine (PS (v:=(E:Int)) (Z.ext a2) (by
     obtain⟨cj,ck⟩:=aH (l:=n.sizes) (i:=B) Ω;have h1:=(aj.var B x cj J ck).1;have C:=da cj (x5 ck);omega)).mono ?_
    rintro cu bj _ ⟨bl,⟨gz,db⟩,dd⟩;refine⟨.inl bl,?_⟩;have de:=a2.trans bl;have dF:=a2.size;refine bY (m:=((x.mask.toNat ||| 2 ^ E:Nat):Int)) de (gz:=gz) (by rw[show E=(E:Int).toNat from rfl,w6 Ω];exact db) (λr G=>by have:=dd r G;omega) λP Q=>bz _ _ ⟨?_,by rw[f]⟩;rw[f,aG,u6];unfold ek;rw[J];exact low Q
  .have cd:a.kind=5:=Ω
   obtain⟨m,df,dh⟩:=xh (i:=a.i.toNat) (v:=a.v) (aB x) u x (by rw[aG,u6];exact J) λy M=>(G y M).1;have f:cB n.k u a=(fX u a.i.toNat a.v (aB x),0):=by
    unfold cB;rw[if_neg Ω,if_neg Ω,if_neg Ω,if_neg Ω,if_neg Ω,ch]
   have di:aB {x with mask:=m}=[a.v]:=by
    rw[dh,<-filter_one (qV x) ag];refine List.filter_congr λy M=>?_;rw[decide_eq_true M,T3,Bool.not_not]
   rw[bg,al];refine⟨λ_=>?_,λh=>Ω⟩;refine b0 (Ext.refl _) ?_;refine ew (k:=.i64) an.u ai.i rfl λv4 dj aE dG I cl=>?_;refine bY (m:=m) I (gz:=dj) (by rw[di];exact cl) (λr G=>by have:=bO cl G;omega) λP Q=>bz _ _ ⟨?_,by rw[f]⟩;rw[f,df,aG,u6];exact low Q
end
def lf (A R:ak) (A9:Nat->ak) (aK:ak) (aq:Nat) (r:Nat):Prop:=A r\/R r\/(∃q,A9 q r)\/aK r\/r=aq
section
variable {P:ak} {gR w w':x3} {ae gT aq Q7 Q8 Q9:Nat} {A R aS R':ak} {A9 ck:Nat->ak} {aK Ef:ak} {n:aR} {s s':av} {t bu:aC} {h h':List aC} {cs ca:List x1} {m cm:Nat}
variable {Z mO:ak}
end
def mP (s:av) (j:Int):Bool:=match s.funs[j.toNat]? with
 |some f=>decide (f.sc.length=2)
 |none=>false
def jm (s:av) (i:Int):Λ:=(hW s i s.funs.length).filter (mP s)
def gv (n:aR) (s:av) (i v j:Int):Int:=match s.funs[j.toNat]? with
 |some f=>match f.sc[(1-fj f.sc i).toNat]? with
  |some o=>match s.vars[o.toNat]? with
   |some x=>(bY n.k (aB x) (hz n s j.toNat (fj f.sc i) v o)).1
   |none=>0
  |none=>0
 |none=>0
def jS (n:aR) (s:av) (i v:Int):Int:=(jm s i).foldl (λc j=>min (c+gv n s i v j) n.k) (eD n s i v)
theorem xj {of:Int->Int} (hk:0<=k) (h:∀v∈l,0<=of v/\of v<=k):0<=(bY k l of).1/\(bY k l of).1<=k:=by
 unfold bY;have:∀ (l:Λ) (p:Int×Int),(0<=p.1/\p.1<=k)->(∀v∈l,0<=of v/\of v<=k)->0<=(l.foldl (fp of) p).1/\(l.foldl (fp of) p).1<=k:=λl=>by
  induction l with
  |nil=>exact λp a _=>a
  |cons v l f=>
   intro p a e;refine f _ ?_ λu hu=>e u (.tail _ hu);unfold fp;split
   .exact e v (.head _)
   .exact a
 exact this l (k,-1) ⟨hk,Int.le_refl _⟩ h
theorem xk {n:aR} {s:av} {pos o u:Int} (a:bt n.k n.sizes s):0<=hz n s j pos v o u/\hz n s j pos v o u<=n.k:=by
 have h1:=DS (j:=j) (tl:=if pos=1 then[u,v] else[v,u]) a;have e:=pk (i:=o) (v:=u) a;have hk:=a.eg;unfold hz;omega
theorem PY {n:aR} {s:av} {i j:Int} (m:bt n.k n.sizes s) (h:j∈jm s i):0<=j/\ ∃f,s.funs[j.toNat]? =σ f/\f.live≠0/\i∈f.sc/\f.sc.length=2:=by
 unfold jm hW at h;obtain⟨h1,e⟩:=T6.1 h;obtain⟨q,a,rfl⟩:=l9.1 h1;obtain⟨_,a⟩:=T6.1 a;unfold jO at a;unfold mP at e;rw[u6] at e;cases af:s.funs[q]? with
 |none=>rw[af] at a;cases a
 |some f=>
  rw[af] at a e;simp only[V1,decide_eq_true_eq] at a e;exact⟨Ω,f,by rw[u6];exact af,a.1,a.2,e⟩
section
variable {w:x3} {ae gT:Nat} {A R:ak} {n:aR} {s:av} {t:aC}
theorem EF {i:Int} (a:bt n.k n.sizes s) (m:Nat):0<=((jm s i).take m).foldl (λc j=>min (c+gv n s i v j) n.k) (eD n s i v)/\((jm s i).take m).foldl (λc j=>min (c+gv n s i v j) n.k) (eD n s i v)<=n.k:=by
 have hk:=a.eg;have e:∀j,0<=gv n s i v j/\gv n s i v j<=n.k:=λj=>by
  unfold gv;split
  .split
   .split
    .exact xj Ω λu _=>xk a
    .omega
   .omega
  .omega
 have:∀ (l:Λ) (c:Int),(0<=c/\c<=n.k)->0<=l.foldl (λc j=>min (c+gv n s i v j) n.k) c/\l.foldl (λc j=>min (c+gv n s i v j) n.k) c<=n.k:=λl=>by
  induction l with
  |nil=>exact λc h=>h
  |cons j l f=>exact λc h=>f (min (c+gv n s i v j) n.k) (by have:=e j;omega)
 exact this _ _ (pk a)
theorem PZ {i:Int} {g1 O P Q aq C:Nat} {E:x1} {cap:Array x1} (h:bw w ae gT A R n s t) (av:Laid w) (h1:ag w g1 ot [.func (.func C) #[] cap]) (aw:∀l,pj w C cap l (eD n s i)) (ax:ag w O an [E]) (S:au .i64 ai w aq E (jm s i))
  (G:ag w P dz [Γ ae]) (aA:ag w Q ai [Δ i]) (l:Λ):
  pj w Gn #[Γ g1,Γ O,Γ P,Γ Q] l (jS n s i):=λw' v H ad=>by
 refine az func57 ?_;rw[ay (v:=.func (.func C) #[] cap) Ψ ((h1.ext H).Qz rfl)];refine am.mono (aw [v] w' v H (.head _)) ?_;rintro _ V _ ⟨rfl,U⟩;have I:=H.trans U;have J:=S.ext I;obtain⟨_,_,_,aK⟩:=c4 J.ls;rw[ay (v:=E) Ψ ((ax.ext I).Qz rfl),aW an.u J.ls];have a:=h.2.2.2.1;refine bZ.range (jm s i).length (λq a6 aa=>Ext V aa/\a6=Δ (((jm s i).take q).foldl (λc j=>min (c+gv n s i v j) n.k) (eD n s i v))) J.ls.le ⟨Ext.refl _,rfl⟩ ?_ ?_
 .rintro q _ aa aC aD ⟨m,rfl⟩ aE;obtain⟨j,K⟩:=aH (l:=(jm s i)) aD;obtain⟨aL,f,af,aM,aF,aG⟩:=PY a (x5 K);have L:=(a.funs f (x5 af)).1;have W:gH f.sc:=vV L.up;obtain⟨p,X⟩:=X1.1 aF;have aN:=(x4.1 X).1;have Y:=vR W X;obtain⟨o,z⟩:=aH (l:=f.sc) (i:=(1-(p:Int)).toNat) Ω;have aQ:=a.vars;have aR:=L.vars o (x5 z);have aS:=(L.scope.1 o (x5 z)).1;obtain⟨y,Z⟩:=aH (l:=s.vars) (i:=o.toNat) Ω;have ab:=I.trans m;refine bH Ω ?_;rw[bc an.u ai.i Ψ (S.ext ab).ls K];intro aT ac _ _;have e:=ab.trans ac;rw[ay (v:=Γ ae) Ψ ((G.ext e).Qz rfl),ay (v:=Γ ae) Ψ ((G.ext e).Qz rfl),ay (v:=Δ i) Ψ ((aA.ext e).Qz rfl)];have ah:=la (h.ext e) af;rw[show ((j.toNat:Nat):Int)=j by omega] at ah;refine ah.mono ?_;rintro r aU _ ⟨B,aV,_,aI⟩;refine⟨.inl B,?_⟩;refine (sP (x:=i) aI.ls W).mono ?_;rintro _ aX _ ⟨rfl,M⟩;refine⟨.inl (B.trans M),?_⟩;rw[Y];have N:=(e.trans B).trans M;have aj:=Eb (v:=v) (pos:=(p:Int)) (h.ext N) (av.ext N) af ⟨Ω,Ω⟩ aG z Z;rw[show ((j.toNat:Nat):Int)=j by omega] at aj;refine aj.mono ?_;rintro _ aY _ ⟨ak,rfl⟩;have ao:=N.trans ak;have ap:gv n s i v j=(bY n.k (aB y) (hz n s j.toNat (p:Int) v o)).1:=by
   unfold gv;rw[af];simp only;rw[Y,z];simp only;rw[Z]
  rw[bo,bp,ay (v:=Γ ae) Ψ ((G.ext ao).Qz rfl),<-ap];refine (DO (h.ext ao) (EF a q) (by rw[ap];exact xj (by have:=a.eg;omega) λu _=>xk a)).mono ?_;rintro _ aZ _ ⟨rfl,aJ⟩;rw[aP];refine aE _ _ ⟨((((m.trans ac).trans B).trans M).trans ak).trans aJ,?_⟩;rw[u9,K,o9,S1];rfl
 .rintro _ aa aC ⟨m,rfl⟩;rw[aO,al];refine⟨λh=>Ω,λ_=>⟨?_,U.trans m⟩⟩;rw[p9];rfl
theorem P0 {i:Int} (h:bw w ae gT A R n s t) (Z:Laid w):am x7 yW [Γ ae,Δ i] w λr w'=>Ext w w'/\(hV n s i=false->r= .tuple #[Δ 0,Δ (-1),Δ 1])/\
  ∀x,hV n s i=true->s.vars[i.toNat]? =σ x->r= .tuple #[Δ (bY n.k (aB x) (jS n s i)).1,Δ (bY n.k (aB x) (jS n s i)).2,Δ 0]:=by
 refine az func16 ?_;refine be λaG V bg aH y=>?_;refine be λaI aa bh ac z=>?_;have y:ag aa aG dz [Γ ae]:=y.ext ac;have z:ag aa aI ai [Δ i]:=z;have P:=aH.trans ac;rw[ay (v:=Γ ae) Ψ (y.Qz rfl),ay (v:=Δ i) Ψ (z.Qz rfl)];refine (DP (h.ext P)).mono ?_;rintro _ aJ _ ⟨rfl,B⟩;have Q:=P.trans B;cases ad:hV n s i with
 |false=>
  rw[if_neg Φ,bm,al];exact⟨λ_=>⟨Q,λ_=>rfl,λ_ h=>by cases h⟩,λh=>absurd Φ h⟩
 |true=>
  obtain⟨aK,x,aj,_⟩:=tq h.2.2.2.1 ad;rw[if_pos rfl,bm,al];refine⟨λh=>absurd rfl h,λ_=>?_⟩;rw[ay (v:=Γ ae) Ψ ((y.ext B).Qz rfl),ay (v:=Δ i) Ψ ((z.ext B).Qz rfl)];refine (O6 (i:=i) (h.ext Q)).mono ?_;rintro ak S _ ⟨J,bi,aL,ao⟩;have ap:=Q.trans J;rw[ix];have aq:=(y.ext B).ext J;have aM:=(z.ext B).ext J;have bj:=P.size;have z3:=B.size;have z4:=J.size;have aN:(hW s i s.funs.length).length<=100000000:=by
   have h1:=(h.ext ap).2.2.1.1;have U:=qH s;have bk:t.cells.length=s.cells.length:=by have:=congrArg S6 h.2.1;unfold aC.bT at this;rw[u7] at this;exact this
   have aO:∀ (L:List cb),L.length<=(L.flatMap fk).length:=λL=>by
    induction L with
    |nil=>exact p8 _
    |cons a L bl=>rw[X7,o4,c9];have:(fk a).length=a.cs.length+1:=rfl;omega
   have bn:=aO s.funs;unfold hW;rw[u7];have:=List.length_filter_le (jO s i) (X4 s.funs.length);rw[List.length_range] at this;omega
  have low:∀ {E:x3},ah (λr=>leads ak r) S E->Ext w E:=λC=>ap.then C λr br he=>by have:=ao r he;omega
  have W:∀ {E:x3} {g:Nat} {e:r9} {cs:List x1},g<aJ.heap.size->ag S g e cs->ah (λr=>leads ak r) S E->ag E g e cs:=λbt aP C=>aP.ab C λhe=>by have:=ao _ he;omega
  have bu:=y.lt;have bx:=z.lt;refine (Ed (p:=λj=>!mP s j) aL aN λw' j C K=>?_).mono ?_
  .have K:0<=j/\ ∃f,s.funs[j.toNat]? =σ f:=by
    unfold hW at K;obtain⟨q,G,rfl⟩:=l9.1 K;obtain⟨G,_⟩:=T6.1 G;have G:=List.mem_range.1 G;exact⟨Ω,_,x6 (by rw[u6];exact G)⟩
   obtain⟨bz,f,af⟩:=K;refine az func56 ?_;have aQ:=low C;rw[ay (v:=Γ ae) Ψ ((W Ω aq C).Qz rfl)];have au:=la (h.ext aQ) af;rw[show ((j.toNat:Nat):Int)=j by omega] at au;refine au.mono ?_;rintro r av _ ⟨aR,bA,_,H⟩;rw[aW an.u H.ls,bm];refine⟨?_,aR⟩;unfold mP;rw[af];simp only;congr 1;by_cases U:f.sc.length=2
   .rw[decide_eq_true U,decide_eq_false Ω];rfl
   .rw[decide_eq_false U,decide_eq_true Ω];rfl
  rintro aS av _ ⟨M,H,_⟩;have aT:(hW s i s.funs.length).filter (λj=>!!mP s j)=jm s i:=by unfold jm;congr 1;funext j;rw[Bool.not_not]
  rw[aT] at H;have aU:=low M;have aV:=W Ω aq M;have aX:=W Ω aM M;refine bD an.i λbB bC bE aw aY=>?_;obtain⟨_,_,_,ax⟩:=c4 H.ls;have z5:=M.size;have bF:=aw.size;refine bq (v:=aS) an.i (by rw[ax];rfl) (by rw[ax];rfl) aY Φ λaZ a1 bG a2=>?_;have N:Ext av aZ:=aw.put a1 Ω;have aA:=aU.trans N;have X:=aV.ext N;have Y:=aX.ext N;rw[ay (v:=Γ ae) Ψ (X.Qz rfl),ay (v:=Δ i) Ψ (Y.Qz rfl)];refine (DV (i:=i) (h.ext aA)).mono ?_;rintro _ a6 _ ⟨aD,cap,rfl,a7⟩;refine bD ot.i λgo bH bI a8 ba=>?_;have bJ:=aD.size;refine bq (v:=.func (.func rH) #[] cap) ot.i rfl rfl ba Φ λaE bb bK bc=>?_;have aF:Ext a6 aE:=a8.put bb Ω;have m:=aD.trans aF;have I:=aA.trans m;rw[ay (v:=Γ ae) Ψ ((X.ext m).Qz rfl),ay (v:=Δ i) Ψ ((Y.ext m).Qz rfl),ix];have bd:∀l,pj aE rH cap l (eD n s i):=λl w' v O ad=>a7 l w' v (aF.trans O) ad;refine (wQ (h.ext I) (Z.ext I) aK aj (PZ (h.ext I) (Z.ext I) bc bd (a2.ext m) (H.ext (N.trans m)) (X.ext m) (Y.ext m) _)).mono ?_;rintro _ bL _ ⟨bf,rfl⟩;rw[bo,bp];exact⟨I.trans bf,(λh=>by cases h),λbM _ O=>by rw[aj] at O;cases O;rfl⟩
end
def simpStep (of:Λ->Int) (p:Int×Option (Λ)) (tl:Λ):Int×Option (Λ):=if p.2=ν\/of tl<p.1 then (of tl,σ tl) else p
def ed (k:Int) (of:Λ->Int) (l:List (Λ)):Int×Option (Λ):=l.foldl (simpStep of) (k,ν)
def jT (w:x3) (B:Nat) (v:x1):Option (Λ)->Prop
 |none=>v= .slice ν 0 0
 |some tl=>tl≠[]/\ ∃g,B<=g/\au .i64 ai w g v tl
theorem jT.ab {v:x1} {o:Option (Λ)} {S:ak} (h:jT w B v o) (e:ah S w w') (f:∀r,B<=r->r<w.heap.size->¬S r):jT w' B v o:=by
 cases o with
 |none=>exact h
 |some tl=>
  obtain⟨h1,g,j,a⟩:=h;exact⟨h1,g,j,br a e λr m=>by obtain⟨p,q⟩:=bO a m;exact f r Ω Ω⟩
theorem jT.ext {v:x1} {o:Option (Λ)} (h:jT w B v o) (J:Ext w w'):jT w' B v o:=h.ab (J.ab λ_=>False) λ_ _ _ h=>h
theorem jT.one {v:x1} {o:Option (Λ)} (h:jT w B v o):∃a n c,v= .slice a n c:=by
 cases o with
 |none=>exact⟨ν,0,0,h⟩
 |some tl=>
  obtain⟨_,g,_,e⟩:=h;exact c4 e.ls
def P1 (n:aR) (s:av) (B:Nat) (w':x3) (j pos v:Int) (r:x1):Prop:=((¬∃f u x,jM s j pos v f u x)->r= .tuple #[Δ 0,.slice ν 0 0,Δ 1])/\ ∀f u x,jM s j pos v f u x->
 ∃a,r= .tuple #[Δ (ed n.k (eC s j.toNat) (eV s f.sc pos f.sc.length 0 ((r8 f.sc.length 0).set pos.toNat v))).1,a,Δ 0]/\jT w' B a (ed n.k (eC s j.toNat) (eV s f.sc pos f.sc.length 0 ((r8 f.sc.length 0).set pos.toNat v))).2
section
variable {w:x3} {ae gT:Nat} {A R:ak} {n:aR} {s:av} {t:aC}
theorem P2 {j pos:Int} (h:bw w ae gT A R n s t) (bJ:Laid w) (cz:∀r,A r\/R r->r<w.heap.size):am x7 FP [Γ ae,Δ j,Δ pos,Δ v] w λr w'=>Ext w w'/\P1 n s w.heap.size w' j pos v r:=by
 refine az func10 ?_;refine be λg1 V cA bK U=>?_;refine be λbL aa cB a2 W=>?_;have U:ag aa g1 dz [Γ ae]:=U.ext a2;have W:ag aa bL ai [Δ j]:=W;have aD:=bK.trans a2;rw[ay (v:=Γ ae) Ψ (U.Qz rfl),ay (v:=Δ j) Ψ (W.Qz rfl)];refine (DW (h.ext aD)).mono ?_;rintro _ cC _ ⟨aj,e,rfl,he,a7⟩;have aE:=aD.trans aj;rw[bm,al];refine⟨λao=>⟨aE,λ_=>by rw[he.resolve_left ao],λf u x G=>absurd (a7.2 ⟨f,u,x,G⟩) ao⟩,λbM=>?_⟩;obtain⟨f,u,x,G⟩:=a7.1 (Z9.1 bM);have S:=U.ext aj;have a8:=W.ext aj;rw[ay (v:=Γ ae) Ψ (S.Qz rfl),ay (v:=Δ j) Ψ (a8.Qz rfl)];have ba:=la (h.ext aE) G.af;have cD:=G.wR;rw[show ((j.toNat:Nat):Int)=j by omega] at ba;refine ba.mono ?_;rintro aG bN _ ⟨aq,bF,cE,av⟩;have bP:=aE.trans aq;obtain⟨aH,_,cF⟩:=h.2.2.2.1.funs f (x5 G.af);have bQ:f.sc.length<=6:=aH.scope.2;obtain⟨m,hm⟩:∃m,m=f.sc.length:=⟨_,rfl⟩;rw[aW an.u av.ls,<-hm];refine jx (k:=.i64) an.u ai.i Ω Ω λgt bb cG bc bd=>?_;have bf:au .i64 ai bb gt (.slice (σ ⟨gt,0,ν⟩) m m) (r8 m 0):=au.of (n:=m) (bW.full (by simpa using bd) Ξ (by simp[maxLen];omega));refine bD an.i λgtb cH cI bg bR=>?_;have cJ:=aD.size;have z3:=aj.size;have z4:=aq.size;have z5:=bc.size;have cK:=bg.size;refine bq (v:=.slice (σ ⟨gt,0,ν⟩) m m) an.i rfl rfl bR Φ λbS bT cL aI=>?_;have aw:Ext bb bS:=bg.put bT Ω;have cM:=(x4.1 G.hu).1;have cN:=G.dS;rw[ay (v:=.slice (σ ⟨gt,0,ν⟩) m m) Ψ (aI.Qz rfl),hj (i:=pos.toNat) Ω an.u ai.i (bf.ext aw) Θ];refine hl ai.i (bf.ext aw) Θ λbU bh bV bX=>?_;have cO:=bd.lt;have cP:=aw.size;have X:Ext bN bU:=(bc.trans aw).put bh Ω;have bi:=bP.trans X;have bj:=(S.ext aq).ext X;have bY:=(a8.ext aq).ext X;have bZ:=aI.ab bh Ω;rw[ay (v:=Γ ae) Ψ (bj.Qz rfl)];refine (k9 (h.ext bi)).mono ?_;rintro _ b0 _ ⟨rfl,bk⟩;refine bD ap.i λY cQ cR bl bn=>?_;refine bq (v:=Δ n.k) ap.i rfl rfl bn Φ λcS b1 cT b2=>?_;have cU:=bV;have z9:=bk.size;have cV:=bl.size;have cW:=bn.lt;refine bD an.i λZ H cX aJ ax=>?_;have ax:ag H Z an [.slice ν 0 0]:=ax;have b3:Ext b0 H:=(bl.then b1 λr E he=>by have he:r=Y:=he;omega).trans aJ;have N:=bk.trans b3;have bt:=bi.trans N;have bu:=bj.ext N;have b4:=bY.ext N;have bx:=bZ.ext N;have b5:=bX.ext N;have b6:=b2.ext aJ;have cY:=ax.lt;have cZ:=aI.lt;have c0:=U.lt;have c1:=W.lt;have z12:=aJ.size;have c2:=bt.size;rw[ay (v:=Γ ae) Ψ (bu.Qz rfl),ay (v:=.slice (σ ⟨gt,0,ν⟩) m m) Ψ (bx.Qz rfl),ix];obtain⟨M,b7⟩:∃M:ak,M=λr=>r=gt\/r=Y\/r=Z:=⟨_,rfl⟩;have O:∀r,M r↔r=gt\/r=Y\/r=Z:=λr=>by rw[b7]
 have aK:∀r,M r->w.heap.size<=r/\r<H.heap.size:=λr E=>by rcases (O r).1 E with rfl|rfl|rfl<;>omega
 have c3:aF .i64 H aG f.sc:=av.ls.ext (X.trans N);have aB:∀ {bz:x3},ah M H bz->Ext w bz:=λp=>bt.then p λr E he=>by have:=aK r he;omega
 have b8:∀r,leads aG r->¬M r:=λr E he=>by
  obtain⟨c5,b9⟩:=bO av E;rcases (O r).1 he with y|y|y<;>omega
 let I:List (Λ)->x3->Prop:=λd w'=>ah M H w'/\ag w' Y ap [Δ (ed n.k (eC s j.toNat) d).1]/\ ∃B,ag w' Z an [B]/\jT w' H.heap.size B (ed n.k (eC s j.toNat) d).2;have step:∀d tl,ed n.k (eC s j.toNat) (d++[tl])=simpStep (eC s j.toNat) (ed n.k (eC s j.toNat) d) tl:=λd tl=>by unfold ed;rw[S1];rfl
 have bA:=h.2.2.2.1;have c6:=bA.vars;refine (ON (gT:=gT) (sc:=f.sc) (pos:=pos) (gt:=gt) (M:=M) (I:=I) (A:=A) (R:=R) (t:=t) (n:=n) bA (λu hu=>⟨(aH.scope.1 u hu).1,aH.vars u hu⟩) bQ ⟨m,by rw[hm]⟩ ((O _).2 (.inl rfl)) ?_ ?_ ?_ ?_ f.sc.length 0 ((r8 m 0).set pos.toNat v) [] H Ω (by rw[c8,List.length_replicate,hm]) ?_ b5).mono ?_
 .rintro d w' ⟨p,K,_⟩;refine⟨h.ext (aB p),bJ.ext (aB p),(br (av.ext (X.trans N)) p λr E=>b8 r E).ls,λr E=>?_⟩;have:=(aK r E).2;have:=p.size;omega
 .rintro d w' ca J ⟨p,K,B,P,C⟩;exact⟨p.trans (J.ab M),K.ext J,B,P.ext J,C.ext J⟩
 .rintro d w' ca aC ⟨p,K,B,P,C⟩;have z:=p.size;exact⟨p.trans (aC.mono λr _ he=>(O r).2 (.inl he)),K.ab aC Ω,B,P.ab aC Ω,C.ab aC λr E _ he=>by have he:r=gt:=he;omega⟩
 .rintro d tl w' ⟨p,K,B,P,C⟩ bB aL;refine az func45 ?_;have cb:=aB p;have aM:∀ {r:Nat},r≠gt->r≠Y->r≠Z->¬M r:=λa b c he=>by rcases (O _).1 he with y|y|y<;>omega
  have cc:=bu.ab p (aM Ω Ω Ω);have cd:=b4.ab p (aM Ω Ω Ω);have bC:=bx.ab p (aM Ω Ω Ω);rw[ay (v:=Γ ae) Ψ (cc.Qz rfl),ay (v:=Δ j) Ψ (cd.Qz rfl),ay (v:=.slice (σ ⟨gt,0,ν⟩) m m) Ψ (bC.Qz rfl),show j=((j.toNat:Nat):Int) by omega];refine DT (h.ext cb) bB.ls λb9 bE L=>?_;rw[bo,bp];have cg:=p.trans (L.ab M);have S:=K.ext L;have aN:=P.ext L;have ch:=C.ext L;obtain⟨c7,fn,c9,aP⟩:=C.one;have aQ:=bB.ext L;refine aV (λr aR=>r= .bool (decide ((ed n.k (eC s j.toNat) d).2=ν\/eC s j.toNat tl<(ed n.k (eC s j.toNat) d).1))/\Ext bE aR) ?_ ?_
  .rintro _ aR ⟨rfl,q⟩;have aS:=cg.trans (q.ab M);rw[al];refine⟨λci=>?_,λaT=>?_⟩
   .rw[ay (v:=.slice (σ ⟨gt,0,ν⟩) m m) Ψ (((bC.ext L).ext q).Qz rfl)];rw[<-hm] at aL;refine (kd (aQ.ext q).ls Ω).mono ?_;rintro a6 cj _ ⟨ac,ck,da,aU⟩;obtain⟨_,_,_,bG⟩:=c4 aU.ls;have cl:=aS.trans (ac.ab M);have db:=aS.size;refine bq (v:=Δ (eC s j.toNat tl)) ap.i rfl rfl ((S.ext q).ext ac) Ξ λdc aX dd cm=>?_;refine bq (v:=a6) an.i (by rw[bG];rfl) (by rw[bG];rfl) (((aN.ext q).ext ac).ab aX Ω) Ξ λcn aY de cp=>?_;have aZ:ah M cj cn:=(aX.mono λr _ he=>(O r).2 (.inr (.inl he))).trans (aY.mono λr _ he=>(O r).2 (.inr (.inr he)));have ad:ed n.k (eC s j.toNat) (d++[tl])=(eC s j.toNat tl,σ tl):=by rw[step];unfold simpStep;rw[if_pos ci]
    refine⟨⟨cl.trans aZ,?_,a6,cp,?_⟩,?_,?_⟩
    .rw[ad];exact cm.ab aY Ω
    .rw[ad];refine⟨λy=>by rw[y] at aL;simp at aL;omega,ck,Ω,br aU aZ λr E he=>?_⟩;obtain⟨df,dg⟩:=bO aU E;have:=(aK r he).2;omega
    .exact ((((aQ.ext q).ext ac).ab aX Ω).ab aY Ω)
    .exact ((L.ab M).trans (q.ab M)).trans ((ac.ab M).trans aZ)
   .have ad:ed n.k (eC s j.toNat) (d++[tl])=ed n.k (eC s j.toNat) d:=by rw[step];unfold simpStep;rw[if_neg aT]
    refine⟨⟨aS,?_,B,aN.ext q,?_⟩,aQ.ext q,(L.ab M).trans (q.ab M)⟩
    .rw[ad];exact S.ext q
    .rw[ad];exact ch.ext q
  intro aA bH;rw[ay (v:=B) Ψ (aN.Qz rfl),aP,ox an.u];cases Q:(ed n.k (eC s j.toNat) d).2 with
  |none=>
   rw[Q] at C;have:B= .slice ν 0 0:=C;rw[aP] at this;cases this;rw[ce];exact⟨λ_=>bH _ _ ⟨by rw[decide_eq_true (.inl Q)],Ext.refl _⟩,λy=>by cases y⟩
  |some dh=>
   rw[Q] at C;obtain⟨ao,di,_,cq⟩:=C;obtain⟨_,⟨rfl,y⟩|⟨dj,_,bI,_⟩⟩:=cq
   .exact absurd (j5 y) ao
   rw[aP] at bI;cases bI;rw[ce];refine⟨λy=>by simp at y,λ_=>?_⟩;rw[ay (v:=Δ (ed n.k (eC s j.toNat) d).1) Ψ (S.Qz rfl),aO];refine bH _ _ ⟨?_,Ext.refl _⟩;congr 1;exact decide_eq_decide.2 ⟨.inr,λy=>y.resolve_left (by rw[Q];simp)⟩
 .exact⟨ah.refl _ _,b6,_,ax,rfl⟩
 rintro _ bE _ ⟨dk,_,⟨p,K,B,P,C⟩,_,_⟩;intro aR q _ _;rw[ay (v:=Δ (ed n.k (eC s j.toNat) ([]++eV s f.sc pos f.sc.length 0 ((r8 m 0).set pos.toNat v))).1) Ψ ((K.ext q).Qz rfl),ay (v:=B) Ψ ((P.ext q).Qz rfl)];refine⟨(aB p).trans q,λaT=>absurd ⟨f,u,x,G⟩ aT,λa1 u' dl cr=>?_⟩;obtain⟨rfl,_⟩:=G.same cr;rw[List.nil_append,hm] at C ⊢;refine⟨B,rfl,?_⟩;have:=C.ext q;cases Q:(ed n.k (eC s j.toNat) (eV s a1.sc pos a1.sc.length 0 ((r8 a1.sc.length 0).set pos.toNat v))).2 with
 |none=>rw[Q] at this;exact this
 |some tl=>rw[Q] at this;obtain⟨ct,cu,dm,cw⟩:=this;exact⟨ct,cu,Ω,cw⟩
end
def pr (n:aR) (s:av) (i:Int):Int×Int:=bY n.k (cj s i) (eD n s i)
def mQ (n:aR) (s:av) (i:Int):Int×Int:=bY n.k (cj s i) (jS n s i)
section
variable {k:Int} {n:aR} {s:av}
end
theorem xl {of:Int->Int} {c:Int}:∀ (l:Λ) (b w:Int),w≠ -1->(∀v∈l,v≠ -1)->(c<=(l.foldl (fp of) (b,w)).1↔c<=b/\ ∀v∈l,c<=of v)
 |[],b,w,_,_=>Ξ
 |v::l,b,w,hw,e=>by
  rw[U8,List.forall_mem_cons];have ad:=e v (.head _);have f:=λu hu=>e u (.tail _ hu);unfold fp;by_cases h:of v<b
  .rw[if_pos (.inr h)];show c<=(l.foldl (fp of) (of v,v)).1↔_;rw[xl l _ _ ad f];exact⟨λ⟨h1,a⟩=>⟨Ω,h1,a⟩,λ⟨_,h1,a⟩=>⟨h1,a⟩⟩
  .rw[if_neg (by rintro (h1|h1)<;>contradiction)];show c<=(l.foldl (fp of) (b,w)).1↔_;rw[xl l _ _ hw f];exact⟨λ⟨h1,a⟩=>⟨h1,Ω,a⟩,λ⟨h1,_,a⟩=>⟨h1,a⟩⟩
theorem EG {of:Int->Int} (h:∀v∈l,v≠ -1/\of v<=k):c<=(bY k l of).1↔c<=k/\ ∀v∈l,c<=of v:=by
 cases l with
 |nil=>simp[bY]
 |cons v l=>
  have ad:=h v (.head _);have e:bY k (v::l) of=l.foldl (fp of) (of v,v):=by
   unfold bY;rw[U8];congr 1
  rw[e,xl l _ _ ad.1 λu hu=>(h u (.tail _ hu)).1,List.forall_mem_cons];exact⟨λ⟨h1,a⟩=>⟨Ω,h1,a⟩,λ⟨_,h1,a⟩=>⟨h1,a⟩⟩
theorem P3 {m:Λ} {f g:Int->Int} (h:∀v∈l,v≠ -1/\f v<=k) (h':∀v∈m,v≠ -1/\g v<=k) (U:∀v∈m,v∈l) (a:∀v∈m,f v<=g v):(bY k l f).1<=(bY k m g).1:=by
 have h1:=(EG (c:=(bY k l f).1) h).1 (Int.le_refl _);exact (EG h').2 ⟨h1.1,λv ad=>by have:=h1.2 v (U v ad);have:=a v ad;omega⟩
section
variable {n:aR} {s:av}
theorem EH {i:Int} (a:bt n.k n.sizes s):∀v∈cj s i,v≠ -1/\eD n s i v<=n.k:=λv ad=>by
 refine⟨?_,(pk a).2⟩;unfold cj at ad;split at ad
 .have:=DQ ad;omega
 .cases ad
end
structure et (s s':av):Prop where
 vars:s'.vars.length=s.vars.length
 var:∀ (i:Nat) x y,s.vars[i]? =σ x->s'.vars[i]? =σ y->y.gone=x.gone/\y.un.length=x.un.length
 funs:s'.funs.length=s.funs.length
 fn:∀ (j:Nat) f g,s.funs[j]? =σ f->s'.funs[j]? =σ g->g.sc=f.sc/\g.aj=f.aj/\g.live=f.live/\g.cs.length=f.cs.length
 gW:s'.gW=s.gW
theorem et.rfl {s:av}:et s s:=⟨Eq.refl _,λ_ _ _ h1 a=>by rw[h1] at a;cases a;exact⟨Eq.refl _,Eq.refl _⟩,Eq.refl _,λ_ _ _ h1 a=>by rw[h1] at a;cases a;exact⟨Eq.refl _,Eq.refl _,Eq.refl _,Eq.refl _⟩,Eq.refl _⟩
theorem et.trans {a b c:av} (h:et a b) (k:et b c):et a c:=by
 refine⟨k.vars.trans h.vars,λi x z J r=>?_,k.funs.trans h.funs,λj f q af s=>?_,k.gW.trans h.gW⟩
 .have w:=(x4.1 J).1;have ad:=h.vars;obtain⟨y,m⟩:=aH (l:=b.vars) (i:=i) Ω;have h1:=h.var i x y J m;have e:=k.var i y z m r;exact⟨e.1.trans h1.1,e.2.trans h1.2⟩
 .have w:=(x4.1 af).1;have ad:=h.funs;obtain⟨g,p⟩:=aH (l:=b.funs) (i:=j) Ω;have h1:=h.fn j f g af p;have e:=k.fn j g q p s;exact⟨e.1.trans h1.1,e.2.1.trans h1.2.1,e.2.2.1.trans h1.2.2.1,e.2.2.2.trans h1.2.2.2⟩
section
variable {k:Int} {sizes:Λ} {s:av}
theorem xm {i:Nat} {x y:bB} (J:s.vars[i]? =σ x) (q:y.gone=x.gone) (r:y.un.length=x.un.length):et s {s with vars:=s.vars.set i y}:=by
 refine⟨c8,λj a b p h=>?_,rfl,λj f g h1 m=>?_,rfl⟩
 .have h:(s.vars.set i y)[j]? =σ b:=h;by_cases e:i=j
  .subst e;rw[c7 (x4.1 J).1] at h;rw[J] at p;cases p;cases h;exact⟨q,r⟩
  .rw[Y0 e,p] at h;cases h;exact⟨rfl,rfl⟩
 .have m:s.funs[j]? =σ g:=m;rw[h1] at m;cases m;exact⟨rfl,rfl,rfl,rfl⟩
theorem P4 {f g:cb} (af:s.funs[j]? =σ f) (h:g.sc=f.sc/\g.aj=f.aj/\g.live=f.live/\g.cs.length=f.cs.length):et s {s with funs:=s.funs.set j g}:=by
 refine⟨rfl,λi a b p m=>?_,c8,λq a b p m=>?_,rfl⟩
 .have m:s.vars[i]? =σ b:=m;rw[p] at m;cases m;exact⟨rfl,rfl⟩
 .have m:(s.funs.set j g)[q]? =σ b:=m;by_cases e:j=q
  .subst e;rw[c7 (x4.1 af).1] at m;rw[af] at p;cases p;cases m;exact h
  .rw[Y0 e,p] at m;cases m;exact⟨rfl,rfl,rfl,rfl⟩
theorem P5:et s {s with zero:=c}:=⟨rfl,λ_ _ _ h1 a=>by have a:s.vars[_]? =σ _:=a;rw[h1] at a;cases a;exact⟨rfl,rfl⟩,rfl,λ_ _ _ h1 a=>by have a:s.funs[_]? =σ _:=a;rw[h1] at a;cases a;exact⟨rfl,rfl,rfl,rfl⟩,rfl⟩
theorem xn {i:Nat}:et s (ek s i v.toNat):=by
 cases J:s.vars[i]? with
 |none=>unfold ek;rw[J];exact .rfl
 |some x=>rw[lV J];exact xm J rfl rfl
theorem xo {i:Nat} {v:Int}:∀ (L:Λ) (s:av),et s (fX s i v L)
 |[],_=>.rfl
 |w::L,s=>by
  unfold fX;split
  .exact xn.trans (xo L _)
  .exact xo L s
theorem EI {u:Nat} {x:bB} {g z:Int->Int} (J:s.vars[u]? =σ x):et s (kx s u x g z):=
 (xm (y:={x with un:=ec g x.un (aB x)}) J rfl (tv _ _)).trans P5
theorem EJ {u:Nat} {f:cb} {x:bB} {t un:Int->Int} (a:bt k sizes s) (af:s.funs[j]? =σ f) (J:s.vars[u]? =σ x):et s (iO s j f pos u x v t un):=by
 obtain⟨_,e⟩:=jN a (x5 af);have h1:et s (dL s j f (dy t (bL s f.sc pos v) f.aj f.cs)):=P4 af ⟨rfl,rfl,rfl,nU _ _ _ _ Ω⟩;exact h1.trans (xm (s:=dL s j f (dy t (bL s f.sc pos v) f.aj f.cs)) (y:={x with un:=x.un.set v.toNat (un (x.un.getD v.toNat 0))}) J rfl c8)
theorem P6 {m:hA} (j:bt k sizes s):et s (cB k s m).1:=by
 by_cases he:(cB k s m).2=0
 .generalize a:cB k s m=r at he ⊢;unfold cB at a;split at a
  .split at a
   .subst a;exact .rfl
   .rename_i f u x e;obtain⟨_,_,af,_,_,ad⟩:=mI e;obtain⟨_,J,_,_⟩:=ky ad;split at a
    .subst a;exact .rfl
    .subst a;simp only;exact EJ j af J
  split at a
  .split at a
   .subst a;exact .rfl
   .rename_i f u x e;obtain⟨_,_,af,_,_,ad⟩:=mI e;obtain⟨_,J,_,_⟩:=ky ad;split at a
    .subst a;exact .rfl
    .subst a;simp only;exact EJ j af J
  have key:∀ {x:bB},(if 0<=m.i then s.vars[m.i.toNat]? else ν)=σ x->s.vars[m.i.toNat]? =σ x:=λh=>by
   split at h
   .exact h
   .cases h
  split at a
  .split at a
   .subst a;exact .rfl
   .rename_i x e;split at a
    .subst a;exact .rfl
    .split at a
     .subst a;exact .rfl
     .subst a;simp only;exact EI (key e)
  split at a
  .split at a
   .subst a;exact .rfl
   .rename_i x e;generalize (if aB x=[] then-1 else s.zero)=p at a;split at a
    .subst a;exact .rfl
    .split at a
     .subst a;exact .rfl
     .subst a;simp only;exact EI (key e)
  split at a
  .split at a
   .subst a;exact .rfl
   .split at a
    .subst a;exact .rfl
    .subst a;exact xn
  .split at a
   .subst a;exact .rfl
   .subst a;exact xo _ _
 .rw[Pc he];exact .rfl
end
theorem P7 (h:Laid w):0<w.heap.size:=by
 rcases R7 w.heap.size with e|e
 .have a:=h 0 _ rfl;unfold x3.cell? at a;rw[Array.getElem?_eq_none Ω] at a;cases a
 .exact e
def fK (Z aK:ak) (w:x3) (ae gT aq:Nat) (n:aR) (s:av):Prop:=∃A R A9 t cs,ct w ae gT aq A R A9 aK n s s t [] cs/\(Laid w/\¬Z 0)/\(dk s/\et (cL n) s/\n.funs.length<=256)/\(∀r,Z r↔lf A R A9 aK aq r)/\ ∀q r,A9 q r->r<w.heap.size
section
variable {Z aK S:ak} {w w' V:x3} {ae gT aq:Nat} {A R:ak} {A9:Nat->ak} {n:aR} {s u:av} {t:aC} {cs:List x1}
theorem fK.ext (h:fK Z aK w ae gT aq n s) (J:Ext w w'):fK Z aK w' ae gT aq n s:=by
 obtain⟨A,R,A9,t,cs,p,⟨a,e⟩,f,j,m⟩:=h;exact⟨A,R,A9,t,cs,p.ext J,⟨a.ext J,e⟩,f,j,λq r x=>by have:=m q r x;have:=J.size;omega⟩
theorem fK.ok (h:fK Z aK w ae gT aq n s):bt n.k n.sizes s/\dk s/\et (cL n) s/\n.funs.length<=256:=by
 obtain⟨A,R,A9,t,cs,p,_,a,_⟩:=h;exact⟨p.e3.2.2.2.1,a⟩
theorem fK.look (h:fK Z aK w ae gT aq n s):mG w aq n.k n.sizes s:=by
 obtain⟨A,R,A9,t,cs,p,_⟩:=h;exact p.look
theorem fK.e3 (h:fK Z aK w ae gT aq n s):∃A R t,bw w ae gT A R n s t/\Laid w/\¬A 0/\eh t []:=by
 obtain⟨A,R,A9,t,cs,p,a,_,e,_⟩:=h;exact⟨A,R,t,p.e3,a.1,λh=>a.2 ((e 0).2 (.inl h)),p.ii⟩
theorem fK.step {V:x3} (p:ct w ae gT aq A R A9 aK n s u t [] cs) (f:∀r,Z r↔lf A R A9 aK aq r) {u':av} (C:dk u'/\et (cL n) u'/\n.funs.length<=256) (E:¬Z 0)
  (F:dp w ae gT aq A R A9 aK n s t [] u' V) (J:Ext V w') (hm:eF w' ae gT A R n u' aa):ah (λr=>Z r/\¬aK r) w aa/\ ∃mO,(∀r,mO r->Z r\/w.heap.size<=r)/\fK mO aK aa ae gT aq n u':=by
 obtain⟨y,ck,ca,G,H⟩:=F;obtain⟨j,I,aS,bu,m,K,L,Q⟩:=hm;have S:=y.size;have U:=J.size;have z3:=j.size;have x:=G.ext J;have M:=x.prog j m K L (λ_ h=>.inl h) (λ_ _ _ h=>h) x.box.lt;have N:=p.Em;have O:ah (λr=>Z r/\¬aK r) w aa:=(((y.mono (T:=λr=>Z r/\¬aK r) λr _ h=>⟨(f r).2 (h.elim (λh=>.inr (.inr (.inl h))) λh=>.inr (.inr (.inr (.inr h)))),h.elim (λ⟨q,h⟩=>N q r h) λh h'=>(p.read r h').2.2 h⟩)).trans (J.ab _)).trans
  ((w3 m.1 j).mono λr _ h=>⟨(f r).2 (.inl h.1),λh'=>(x.read r h').1 h.2⟩)
 have W:=p.box.lt;have e:∀ {r:Nat} {z:Prop},(z->lf A R A9 aK aq r)->z->Z r\/w.heap.size<=r:=λP h=>.inl ((f _).2 (P h));have B:∀r,lf aS R (λq r=>ck q r/\r<w'.heap.size) aK aq r->Z r\/w.heap.size<=r:=by
  intro r a;rcases a with a|a|⟨q,a,_⟩|a|a
  .exact (m.2.1 r a).elim (e .inl) λh=>.inr Ω
  .exact e (λh=>.inr (.inl h)) a
  .exact (H q r a).elim (e λh=>.inr (.inr (.inl h))) .inr
  .exact e (λh=>.inr (.inr (.inr (.inl h)))) a
  .exact e (λh=>.inr (.inr (.inr (.inr h)))) a
 exact⟨O,λr=>lf aS R (λq r=>ck q r/\r<w'.heap.size) aK aq r,B,aS,R,_,bu,ca,M,⟨I,λh=>(B 0 h).elim E λh=>Ω⟩,C,λr=>Iff.rfl,λq r a=>by have:=a.2;omega⟩
theorem P8 (h:dk s/\et (cL n) s/\n.funs.length<=256) (a:bt n.k n.sizes s) (m:hA):dk (cB n.k s m).1/\et (cL n) (cB n.k s m).1/\n.funs.length<=256:=
 ⟨(Pa a h.1).2.1,h.2.1.trans (P6 a),h.2.2⟩
theorem P9 {m:hA} (p:ct w ae gT aq A R A9 aK n s u t [] cs) (a:bt n.k n.sizes u) (e:dk u) (hk:m.kind<=5):am x7 uz [Γ aq,Δ (m.kind:Int),Δ m.i,Δ m.pos,Δ m.v,Δ m.c] w λr w'=>r=Δ (cB n.k u m).2/\dp w ae gT aq A R A9 aK n s t [] (cB n.k u m).1 w':=by
 by_cases h:m.kind<2
 .exact PN p a e h
 .exact PX p a ⟨Ω,hk⟩
theorem Qa {e:x3} {aq:Nat} {j:x1} {cs:List x1} {f:b2} (s:tm B aa j cs f) (J:Ext aa e) (w:ag e aq a8 cs) (x:aa.heap.size<=aq) (I:B<=aa.heap.size) (K:0<B) (y:Laid e):
  ∃ae gT Z aK,j=Γ ae/\fK Z aK e ae gT aq (cQ f) (cL (cQ f))/\ ∀r,Z r->B<=r:=by
 obtain⟨ae,gT,A,R,A9,aK,t,rfl,p,_,z,C,_,_,E,_,F,G⟩:=Pj s J w x;have H:=p.olds;have m:∀r,lf A R (λq r=>A9 q r/\r<e.heap.size) aK aq r->B<=r:=by
  intro r a;rcases a with a|a|⟨q,a,_⟩|a|a
  .exact z r a
  .exact G r a
  .exact C q r a
  .exact F r a
  .omega
 exact⟨ae,gT,_,aK,rfl,⟨A,R,_,t,cs,H,⟨y,λh=>by have:=m 0 h;omega⟩,⟨Ph _,et.rfl,E⟩,λr=>Iff.rfl,λq r a=>a.2⟩,m⟩
end
theorem EK {k:Int} {b:Int->Int}:∀ (l:Λ) (c:Int),c<=k->(∀j∈l,0<=b j)->c<=l.foldl (λc j=>min (c+b j) k) c
 |[],_,_,_=>Int.le_refl _
 |j::l,c,h,a=>by
  rw[U8];have:=a j (.head _);have:=EK (k:=k) (b:=b) l (min (c+b j) k) Ω λi hi=>a i (.tail _ hi);omega
section
variable {n:aR} {s:av}
theorem xp {i j:Int} (a:bt n.k n.sizes s):0<=gv n s i v j/\gv n s i v j<=n.k:=by
 have hk:=a.eg;unfold gv;split
 .split
  .split
   .exact xj Ω λu _=>xk a
   .omega
  .omega
 .omega
theorem EL {i:Int} (a:bt n.k n.sizes s):eD n s i v<=jS n s i v/\jS n s i v<=n.k:=by
 have h:=EF (i:=i) (v:=v) a (jm s i).length;rw[p9] at h;exact⟨EK _ _ (pk a).2 λj _=>(xp a).1,h.2⟩
theorem Qb {i:Int} (a:bt n.k n.sizes s):∀v∈cj s i,v≠ -1/\jS n s i v<=n.k:=λv ad=>⟨(EH a v ad).1,(EL a).2⟩
theorem Qc {i:Int} (a:bt n.k n.sizes s):(pr n s i).1<=(mQ n s i).1:=
 P3 (EH a) (Qb a) (λ_ h=>h) λ_ _=>(EL a).1
end
section
variable {n:aR} {s:av}
def io (n:aR) (s:av) (i v:Int) (c:Int) (j:Nat):Int:=if jO s i j=true then (if mP s (j:Int)=true then min (c+gv n s i v (j:Int)) n.k else c) else c
theorem Qd {i:Int}:jS n s i v=(X4 s.funs.length).foldl (io n s i v) (eD n s i v):=by
 unfold jS jm hW;rw[List.foldl_filter,List.foldl_map,List.foldl_filter];rfl
theorem Qe {i:Int} (a:bt n.k n.sizes s):∀ (l:List Nat),0<=l.foldl (io n s i v) (eD n s i v)/\l.foldl (io n s i v) (eD n s i v)<=n.k:=by
 have hk:=a.eg;have key:∀ (l:List Nat) (c:Int),0<=c/\c<=n.k->0<=l.foldl (io n s i v) c/\l.foldl (io n s i v) c<=n.k:=by
  intro l;induction l with
  |nil=>intro c h;exact h
  |cons j l e=>
   intro c h;refine e _ ?_;unfold io;have f:=xp (i:=i) (v:=v) (j:=(j:Int)) a;split
   .split
    .omega
    .exact h
   .exact h
 exact λl=>key l _ (pk a)
theorem EM {i:Int} {f:cb} {a b:Int} {x:bB} (af:s.funs[j]? =σ f) (m:f.sc=[a,b]) (p:a≠b):
  (i=a->s.vars[b.toNat]? =σ x->gv n s i v (j:Int)=(bY n.k (aB x) (hz n s j 0 v b)).1)/\(i=b->s.vars[a.toNat]? =σ x->gv n s i v (j:Int)=(bY n.k (aB x) (hz n s j 1 v a)).1):=by
 unfold gv;rw[u6,af];simp only;rw[m];refine⟨λh J=>?_,λh J=>?_⟩
 .subst h;have e:fj [i,b] i=0:=by unfold fj;rw[if_pos Ξ];simp
  rw[e];simp only[show ((1:Int)-0).toNat=1 by decide,List.getElem?_cons_succ,List.getElem?_cons_zero,J]
 .subst h;have e:fj [a,i] i=1:=by
   unfold fj;rw[if_pos Ξ,List.idxOf_cons,show (a == i)=false by simp[p]];simp
  rw[e];simp only[show ((1:Int)-1).toNat=0 by decide,List.getElem?_cons_zero,J]
end
theorem EN {f g:Int->Int}:∀ {l:Λ},(∀v∈l,f v=g v)->bY k l f=bY k l g:=by
 intro l;unfold bY;generalize (k,(-1:Int))=p;induction l generalizing p with
 |nil=>intro _;rfl
 |cons v l a=>
  intro h;rw[U8,U8,show fp f p v=fp g p v by unfold fp;rw[h v (.head _)]];exact a _ λu hu=>h u (.tail _ hu)
theorem Qf {f:Int->Int}:∀ (l:Λ) (p:Int×Int),(∀v∈l,0<=v)->(p.2= -1\/0<=p.2)->((l.foldl (fp f) p).2= -1\/0<=(l.foldl (fp f) p).2)/\(k=k):=by
 intro l;induction l with
 |nil=>intro p _ h;exact⟨h,rfl⟩
 |cons v l e=>
  intro p a h;refine e _ (λu hu=>a u (.tail _ hu)) ?_;unfold fp;split
  .exact .inr (a v (.head _))
  .exact h
section
variable {w:x3} {dY:x1} {k:Int} {sizes:Λ} {s:av}
theorem xq {f:Int->Int} {q:Nat} (ad:l[q]? =σ v):bY k (l.take (q+1)) f=fp f (bY k (l.take q) f) v:=by
 unfold bY;rw[u9,ad,o9,S1];rfl
theorem xr {f:Int->Int} (a:∀v∈l,0<=v):(bY k l f).2= -1\/0<=(bY k l f).2:=(Qf (k:=k) l (k,-1) a (.inl rfl)).1
theorem Qg {i:Nat} {x:bB} (h:iN w dY k sizes s) (aj:bt k sizes s) (J:s.vars[i]? =σ x):
  am x7 FT [dY,Δ (i:Int)] w λr w'=>Ext w w'/\r= .tuple #[Δ (bY k (aB x) λv=>x.un.getD v.toNat 0).1,Δ (bY k (aB x) λv=>x.un.getD v.toNat 0).2]:=by
 have ak:=pq x;refine az func17 ?_;refine be λg1 V ao C L=>?_;obtain⟨szv,aq,au,av,aw,ay,A,aC,_,M,aD,N,aE,aF⟩:=h.box C L;rw[aM a8.p 0 A rfl,aM a8.p 3 A rfl];refine hM (α:=Λ) (a:=aB x) (i:=i) rfl rfl c5.u an.i Ψ M (by rw[x8,J];rfl) λaG O=>?_;have B:=dc O;rw[aW an.u B];obtain⟨f,af⟩:∃f:Int->Int,f=λv=>x.un.getD v.toNat 0:=⟨_,rfl⟩;rw[<-af];refine jZ.range (aB x).length (λq b a aa=>Ext V aa/\b=Δ (bY k ((aB x).take q) f).1/\a=Δ (bY k ((aB x).take q) f).2) B.le ⟨Ext.refl _,rfl,rfl⟩ ?_ ?_
 .rintro q _ _ aa P Q ⟨j,rfl,rfl⟩ R;obtain⟨v,ad⟩:=aH (l:=aB x) Q;have S:=(gq.1 (x5 ad)).1;obtain⟨m,rfl⟩:=W6 S.1;have y:=xq (k:=k) (f:=f) ad;have aI:=xr (k:=k) (f:=f) (l:=(aB x).take q) λv ad=>(gq.1 (T4 ad)).1.1;have U:f (m:Int)=x.un.getD m 0:=by rw[af];rfl
  refine bH Ω ?_;refine gO (λb a w'=>Ext V w'/\b=Δ (bY k ((aB x).take (q+1)) f).1/\a=Δ (bY k ((aB x).take (q+1)) f).2) (λb a w' W=>by rw[aP];exact R _ _ _ W) λaA E=>?_;rw[bc an.u ai.i Ψ (B.ext j) ad];have G:∀ {K:x1->Prop} {e:x3},Ext V e->K (Δ (f (m:Int)))->ac x7 (u5 a8 (Γ g1) 5) e λX=>ac x7 (u4 dV X) e λY=>ac x7 (j4 dV Y (Δ (i:Int))) e λt39=>ac x7 (u4 ax t39) e λZ=>ac x7 (j4 ax Z (Δ (m:Int))) e λab=>ac x7 (u4 ap ab) e K:=λ{K e} H ae=>by
   rw[aM a8.p 5 (A.ext H) rfl];refine hM (α:=Λ) (a:=x.un) (i:=i) rfl rfl dV.u ax.i Ψ (bI N H) (by rw[x8,J];rfl) λaJ ag=>?_;rw[bc ax.u ap.i Ψ (dc ag) (getD_some (i:=m) Ω),<-U];exact ae
  refine aV (λr w'=>aa=w'/\r= .bool (decide ((bY k ((aB x).take q) f).2= -1\/f (m:Int)<(bY k ((aB x).take q) f).1))) ?_ λaK I=>?_
  .rintro _ _ ⟨rfl,rfl⟩;unfold fp at y;rw[al];refine⟨λz=>G j (E _ _ _ ⟨j,?_,?_⟩),λz=>E _ _ _ ⟨j,?_,?_⟩⟩
   .rw[y,if_pos z]
   .rw[y,if_pos z]
   .rw[y,if_neg z]
   .rw[y,if_neg z]
  .rw[aO,al];refine⟨λah=>I _ _ ⟨rfl,by rw[decide_eq_true (.inl Ω)]⟩,λah=>?_⟩;refine G j ?_;rw[aO];refine I _ _ ⟨rfl,?_⟩;congr 1;exact decide_eq_decide.2 ⟨.inr,λh=>h.resolve_left λh=>Ω⟩
 .rintro _ _ aa P ⟨j,rfl,rfl⟩;rw[p9];exact cp Ω ⟨C.trans j,rfl⟩
theorem EO {y:x1} {f:cb} {K:x1->x3->Prop} (B:Seen ee w [y] (s.funs.map hb)) (af:s.funs[j]? =σ f) (C:∀g e h v3 w',Ext w w'->ag w' g aY [e,h,v3]->aF .i64 w' e f.sc->aF .i64 w' h f.aj->aF .i64 w' v3 f.cs->K (Γ g) w'):
  ac x7 (j4 eN y (Δ (j:Int))) w λE=>ac x7 (u5 dm E 0) w λF=>ac x7 (u4 aY F) w λG=>aD x7 (S7 aY true (.tuple #[])) w λf aa=>aD x7 (o6 aY f G) aa λ(_:Unit) r=>K f r:=by
 refine kb (i:=j) rfl eN.u dm.i B (by rw[x8,af];rfl) λb o cs x H=>?_;obtain⟨e,h,v3,rfl,h1,z,A⟩:=lW H;rw[aU dm.p rfl,bR (cs:=[e,h,v3]) aY.p aY.i rfl (λq u a=>by
  have:q<3:=(x4.1 a).1
  match q,this,a with
  |0,_,a=>cases a;exact x 0 _ rfl
  |1,_,a=>cases a;exact x 1 _ rfl
  |2,_,a=>cases a;exact x 2 _ rfl)]
 refine bD aY.i λO aa P I J=>?_;have L:∀u∈[e,h,v3],u.oneCell'=true:=λu hu=>by
  simp only[W9,List.not_mem_nil,or_false] at hu;rcases hu with rfl|rfl|rfl
  .exact gD h1
  .exact gD z
  .exact gD A
 refine ch (vs:=[e,h,v3]) aY.i rfl rfl L J λr M Q N=>?_;have m:Ext w r:=I.put M Ω;exact C _ _ _ _ _ m N ((dc h1).ext m) ((dc z).ext m) ((dc A).ext m)
theorem Qh {of:Λ->Int} {l:List (Λ)} {q:Nat} {t:Λ} (a:l[q]? =σ t):ed k of (l.take (q+1))=simpStep of (ed k of (l.take q)) t:=by
 unfold ed;rw[u9,a,o9,S1];rfl
def n3 (w:x3) (v:x1) (o:Option (Λ)):Prop:=match o with
 |none=>v= .slice ν 0 0
 |some tl=>tl≠[]/\aF .i64 w v tl
theorem n3.nil {v:x1} {o:Option (Λ)} (h:n3 w v o):∃a n c,v= .slice a n c/\a.isNone=decide (o=ν):=by
 cases o with
 |none=>exact⟨ν,0,0,h,Ξ⟩
 |some tl=>
  obtain⟨h1,_,b,o,base,cap,rfl,_,_,e,_⟩:=h;exact⟨_,_,_,rfl,by rw[e (List.length_pos_iff.2 h1)];simp⟩
end
theorem Qi {f g:Λ->Int}:∀ {l:List (Λ)},(∀t∈l,f t=g t)->ed k f l=ed k g l:=by
 intro l;unfold ed;generalize (k,(ν:Option (Λ)))=p;induction l generalizing p with
 |nil=>intro _;rfl
 |cons v l a=>
  intro h;rw[U8,U8,show simpStep f p v=simpStep g p v by unfold simpStep;rw[h v (.head _)]];exact a _ λu hu=>h u (.tail _ hu)
theorem xt {aj cs t:Λ} (hi:ci aj t 0=σ (m:Int)):bj aj cs t=cs.getD m 0:=by
 unfold bj;rw[hi];rfl
theorem Qj {aj t:Λ} (hi:ci aj t 0=σ (m:Int)):lY aj t=m:=by
 unfold lY;rw[hi];rfl
section
variable {w:x3} {dY:x1} {k:Int} {sizes:Λ} {s:av}
theorem Qk {f:cb} (h:iN w dY k sizes s) (B:bt k sizes s) (af:s.funs[j]? =σ f) (av:pos<f.sc.length) (ad:∀u,f.sc[pos]? =σ u->v∈cj s u):
  am x7 FQ [dY,Δ (j:Int),Δ (pos:Int),Δ v] w λr w'=>Ext w w'/\ ∃E,r= .tuple #[Δ (ed k (bj f.aj f.cs) (bL s f.sc pos v)).1,E]/\n3 w' E (ed k (bj f.aj f.cs) (bL s f.sc pos v)).2:=by
 have G:=x5 af;obtain⟨O,P,_⟩:=B.funs f G;have H:=(jN B G).1;have Q:f.aj.length=f.sc.length:=by rw[P];simp[bS]
 have aU:=h3 H;have aX:f.cs.length=(aN f.aj).toNat:=by rw[P];exact O.len
 refine az func11 ?_;refine be λg1 V aZ R aw=>?_;have S:=h.box R aw;obtain⟨szv,a1,a2,a6,E,a7,U,ba,_,bb,bd,bf,ay,bg⟩:=id S;rw[aM a8.p 6 U rfl];refine EO ay af λbh bi bk v3 bl I W bm aB aC=>?_;rw[aM a8.p 0 (U.ext I) rfl,aM aY.p 1 W rfl];refine (r5 f.aj aB ⟨by rw[Q];exact O.scope.2,H⟩).mono ?_;rintro bn bo _ ⟨X,aD⟩;have aE:=I.trans X;refine (S.ext aE).load λbp aF=>?_;refine (xb aF B af av ad).mono ?_;rintro bq Y _ ⟨Z,J,_⟩;have K:=X.trans Z;have aG:=I.trans K;have aa:(iQ s f pos v).length=(bL s f.sc pos v).length:=by unfold iQ;rw[u7]
 rw[aW an.u J,aa];obtain⟨of,ab⟩:∃of,of=bj f.aj f.cs:=⟨_,rfl⟩;rw[<-ab];refine jZ.range (bL s f.sc pos v).length (λq b a x=>Ext Y x/\b=Δ (ed k of ((bL s f.sc pos v).take q)).1/\n3 x a (ed k of ((bL s f.sc pos v).take q)).2) (by rw[<-aa];exact J.le) ⟨Ext.refl _,rfl,rfl⟩ ?_ ?_
 .rintro q _ ac x aI aJ ⟨e,rfl,y⟩ aK;obtain⟨tl,L⟩:=aH (l:=bL s f.sc pos v) aJ;have aL:=x5 L;obtain⟨m,hm⟩:=n0 B G ad aL;have z:=Qh (k:=k) (of:=of) L;have C:=kg H hm;rw[u6] at C;have ae:m<f.cs.length:=by have:=(x4.1 C).1;omega
  have ag:of tl=f.cs.getD m 0:=by rw[ab];exact xt hm
  have aQ:tl≠[]:=λhe=>by
   have:=uU C;rw[he,Q,List.length_nil] at this;omega
  have aR:(iQ s f pos v)[q]? =σ (m:Int):=by unfold iQ;rw[x8,L,Z3,Qj hm]
  refine bH Ω ?_;refine gO (λb a w'=>Ext Y w'/\b=Δ (ed k of ((bL s f.sc pos v).take (q+1))).1/\n3 w' a (ed k of ((bL s f.sc pos v).take (q+1))).2) (λb a w' aS=>by rw[aP];exact aK _ _ _ aS) λaA ah=>?_;rw[bc an.u ai.i Ψ (J.ext e) aR];have ak:=W.ext (K.trans e);have ao:=aC.ext (K.trans e);refine aV (λr w'=>x=w'/\r= .bool (decide ((ed k of ((bL s f.sc pos v).take q)).2=ν\/of tl<(ed k of ((bL s f.sc pos v).take q)).1))) ?_ λbr aq=>?_
  .rintro _ _ ⟨rfl,rfl⟩;unfold simpStep at z;rw[al];refine⟨λA=>?_,λA=>ah _ _ _ ⟨e,by rw[z,if_neg A],by rw[z,if_neg A];exact y⟩⟩;intro bu M _ _;have au:=e.trans M;rw[aM aY.p 2 (ak.ext M) rfl,bc ax.u ap.i Ψ (ao.ext M) (getD_some ae),<-ag];refine hM (α:=Λ) (a:=tl) (i:=m) rfl rfl c5.u an.i Ψ (bI aD (Z.trans au)) C λu hu=>?_;exact ah _ _ _ ⟨au,by rw[z,if_pos A],by rw[z,if_pos A];exact⟨aQ,dc (i7 hu)⟩⟩
  .obtain⟨bw,fn,bx,rfl,aT⟩:=y.nil;rw[ox an.u,aT,al];refine⟨λN=>aq _ _ ⟨rfl,by rw[decide_eq_true (.inl N)]⟩,λN=>?_⟩;rw[aM aY.p 2 ak rfl,bc ax.u ap.i Ψ ao (getD_some ae),<-ag,aO];refine aq _ _ ⟨rfl,?_⟩;congr 1;exact decide_eq_decide.2 ⟨.inr,λh=>h.resolve_left N⟩
 .rintro _ ac x aI ⟨e,rfl,y⟩;rw[p9] at y ⊢;exact cp Ω ⟨(R.trans aG).trans e,ac,rfl,y⟩
theorem EP {f:cb} {a b:Int} {u:Int} (j:bt k sizes s) (af:f∈s.funs) (e:f.sc=[a,b]) (h:pos=0\/pos=1) (ad:v∈cj s (if pos=1 then b else a)) (hu:u∈cj s (if pos=1 then a else b)):∃m:Nat,ci f.aj (if pos=1 then[u,v] else[v,u]) 0=σ (m:Int):=by
 refine n0 (pos:=pos) (v:=v) j af (λx J=>?_) ?_
 .rw[e] at J;rcases h with rfl|rfl
  .cases J;exact ad
  .cases J;exact ad
 .rw[e];rcases h with rfl|rfl
  .simp only[show ¬((0:Nat)=1) by decide,if_false] at hu ⊢;simp[bL,hc,gp,hu]
  .simp only[if_true] at hu ⊢;simp[bL,hc,gp,hu]
theorem EQ {a b:Int} {f:cb} {y:bB} (h:iN w dY k sizes s) (x:bt k sizes s) (af:s.funs[j]? =σ f) (G:f.sc=[a,b]) (S:pos=0\/pos=1) (ad:v∈cj s (if pos=1 then b else a)) (z:s.vars[(if pos=1 then a else b).toNat]? =σ y):
  am x7 FS [dY,Δ (j:Int),Δ (pos:Int),Δ v] w λr w'=>Ext w w'/\r= .tuple #[Δ (bY k (aB y) λu=>min (bj f.aj f.cs (if pos=1 then[u,v] else[v,u])+y.un.getD u.toNat 0) k).1,Δ (bY k (aB y) λu=>min (bj f.aj f.cs (if pos=1 then[u,v] else[v,u])+y.un.getD u.toNat 0) k).2]:=by
 have H:=x5 af;have bq:=x.eg;obtain⟨I,U,_⟩:=x.funs f H;have J:=(jN x H).1;have aw:f.aj.length=f.sc.length:=by rw[U];simp[bS]
 have br:=h3 J;have bu:f.cs.length=(aN f.aj).toNat:=by rw[U];exact I.len
 have W:0<=(if pos=1 then a else b):=by
  have h1:=(I.scope.1 a (by rw[G];exact .head _)).1;have bw:=(I.scope.1 b (by rw[G];exact .tail _ (.head _))).1;split<;>omega
 obtain⟨o,L⟩:∃o,o=(if pos=1 then a else b):=⟨_,rfl⟩;rw[<-L] at z W;obtain⟨on,rfl⟩:=W6 W;rw[u6] at z;have aC:cj s (on:Int)=aB y:=by unfold cj;rw[u6,z]
 refine az func14 ?_;refine be λg1 V bx X aD=>?_;have aE:=h.box X aD;obtain⟨szv,bz,bA,bC,bD,bE,B,bF,_,aG,bG,aJ,aK,bJ⟩:=id aE;rw[aM a8.p 6 B rfl];refine EO aK af λbK bL bM v3 M C N aL aQ aR=>?_;have aS:f.sc[1-pos]? =σ (on:Int):=by rw[L,G];rcases S with rfl|rfl<;>rfl
 rw[aM aY.p 0 N rfl,dF,wrap_i64 Ω Ω,show (1:Int)-(pos:Int)=((1-pos:Nat):Int) by omega,bc an.u ai.i Ψ aL aS,aM a8.p 0 (B.ext C) rfl,aM a8.p 3 (B.ext C) rfl];refine hM (α:=Λ) (a:=aB y) (i:=on) rfl rfl c5.u an.i Ψ (bI aG C) (by rw[x8,z];rfl) λbN Y=>?_;have Z:=dc Y;have bO:=pq y;rw[aW an.u Z];obtain⟨of,ab⟩:∃of:Int->Int,of=λu=>min (bj f.aj f.cs (if pos=1 then[u,v] else[v,u])+y.un.getD u.toNat 0) k:=⟨_,rfl⟩;rw[<-ab];refine jZ.range (aB y).length (λq b a aa=>Ext M aa/\b=Δ (bY k ((aB y).take q) of).1/\a=Δ (bY k ((aB y).take q) of).2) Z.le ⟨Ext.refl _,rfl,rfl⟩ ?_ ?_
 .rintro q _ _ bP aT aU ⟨O,rfl,rfl⟩ aX;obtain⟨u,hu⟩:=aH (l:=aB y) aU;have ac:=x5 hu;have aZ:=(gq.1 ac).1;obtain⟨un,rfl⟩:=W6 aZ.1;have E:=xq (k:=k) (f:=of) hu;have bQ:=xr (k:=k) (f:=of) (l:=(aB y).take q) λv ad=>(gq.1 (T4 ad)).1.1;obtain⟨tl,K⟩:∃tl:Λ,tl=(if pos=1 then[(un:Int),v] else[v,(un:Int)]):=⟨_,rfl⟩;obtain⟨m,hm⟩:=EP x H G S ad (u:=(un:Int)) (by rw[<-L,aC];exact ac);rw[<-K] at hm;have ae:=kg J hm;rw[u6] at ae;have a1:m<f.cs.length:=by have:=(x4.1 ae).1;omega
  have a2:=mL (t:=tl) x H;have bR:=hB (v:=un) x z;have a6:of (un:Int)=min (f.cs.getD m 0+y.un.getD un 0) k:=by
   rw[ab];simp only;rw[<-K,xt hm,u6]
  rw[xt hm] at a2;refine bH Ω ?_;refine gO (λb a w'=>Ext M w'/\b=Δ (bY k ((aB y).take (q+1)) of).1/\a=Δ (bY k ((aB y).take (q+1)) of).2) (λb a w' a7=>by rw[aP];exact aX _ _ _ a7) λaA ag=>?_;rw[bc an.u ai.i Ψ (dc (bI Y O)) hu];refine oD (l:=[v,(un:Int)]) an.u ai.i Ω rfl Ψ λbT bU bV bW ah ba=>?_;refine aV (λr w'=>Ext M w'/\aF .i64 w' r tl) ?_ λbX ak=>?_
  rotate_left
  .rw[bg,al];refine⟨λh1=>?_,λh1=>ak _ _ ⟨O.trans ah,by rw[K,if_neg Ω];exact ba.ls⟩⟩;refine oD (l:=[(un:Int),v]) an.u ai.i Ω rfl Ψ λbZ b0 bb b1 P bd=>?_;exact ak _ _ ⟨(O.trans ah).trans P,by rw[K,if_pos Ω];exact bd.ls⟩
  rintro aI bb ⟨P,bf⟩;intro b2 ao _ _;have A:=P.trans ao;have Q:=C.trans A;rw[aM aY.p 2 (N.ext A) rfl,aM aY.p 1 (N.ext A) rfl,aM a8.p 5 (B.ext Q) rfl];refine kb (α:=Λ) (a:=y.un) (i:=on) rfl dV.u ax.i (bI aJ Q) (by rw[x8,z];rfl) λb o cs bh e=>?_;obtain⟨bi,rfl⟩:∃u,cs=[u]:=by obtain⟨u,hu,_⟩:=e;exact⟨u,hu⟩
  have bk:=dc e;have aq:=bh 0 _ rfl;rw[Nat.add_zero] at aq;rw[ay (v:=bi) Ψ aq];refine oE rfl ax.u ap.i bk (getD_some (i:=un) Ω) λb3 b4 bl=>?_;rw[ay Ψ bl,aM a8.p 0 (B.ext Q) rfl];refine (JG (aQ.ext A) ⟨by rw[aw];exact I.scope.2,J⟩ (bf.ext ao)).mono ?_;rintro _ b5 _ ⟨rfl,R⟩;refine⟨.inl R,?_⟩;rw[Ki J,hm];simp only;rw[bc ax.u ap.i Ψ (aR.ext (A.trans R)) (getD_some a1)];refine (mp Ω Ω).mono ?_;rintro _ bm _ ⟨rfl,bn⟩;have au:=(A.trans R).trans bn;rw[<-a6];refine aV (λr w'=>bm=w'/\r= .bool (decide ((bY k ((aB y).take q) of).2= -1\/of (un:Int)<(bY k ((aB y).take q) of).1))) ?_ λb6 av=>?_
  .rintro _ _ ⟨rfl,rfl⟩;unfold fp at E;rw[al];exact⟨λe=>ag _ _ _ ⟨au,by rw[E,if_pos e],by rw[E,if_pos e]⟩,λe=>ag _ _ _ ⟨au,by rw[E,if_neg e],by rw[E,if_neg e]⟩⟩
  .rw[aO,al];refine⟨λbo=>av _ _ ⟨rfl,by rw[decide_eq_true (.inl Ω)]⟩,λbo=>?_⟩;rw[aO];refine av _ _ ⟨rfl,?_⟩;congr 1;exact decide_eq_decide.2 ⟨.inr,λh=>h.resolve_left λh=>Ω⟩
 .rintro _ _ aa aT ⟨bp,rfl,rfl⟩;rw[p9];exact cp Ω ⟨(X.trans C).trans bp,rfl⟩
end
theorem ER {p:x1} (aD:aF .u8 w p pl) (P:Bytes pl) (aU:ej w):am x7 yT [p] w (OI w (pl.take 300)):=by
 refine az func8 ?_;refine bD a8.i λy V bM ac W=>?_;have W:ag V y a8 z12:=W;rw[aW cN.u (aD.ext ac),lE];refine Ji (i:=min pl.length 300) Ω cN.u cJ.i (aD.ext ac) Ω λbN ah=>?_;have aX:pl.take (min pl.length 300)=pl.take 300:=by
  by_cases h:pl.length<=300
  .rw[Nat.min_eq_left h,p9,b8 h]
  .rw[Nat.min_eq_right Ω]
 rw[aX] at ah;have X:Bytes (pl.take 300):=λb a=>P b (T4 a);have aY:(pl.take 300).length<=300:=by rw[j6];omega
 generalize pl.take 300=q at ah X aY;refine (OF ah Ω).mono ?_;rintro bO aa _ ⟨aj,bP,ak⟩;have aE:=ac.trans aj;refine (L9 ak.ls X Ω (aU.ext aE)).mono ?_;rintro bR bS _ ⟨Q,z⟩;have aG:=aE.trans Q;cases C:gi q with
 |none=>
  rw[C] at z;obtain⟨n,e,rfl,he⟩:=z;rw[fO,fP,fQ];refine (Dj (ak.ext Q).ls X Ω).mono ?_;rintro a2 an _ ⟨J,a6,a7,ao,_⟩;obtain rfl:=ao C;rw[fO,fP,fQ];refine aV (λv S=>v= .bool true/\Ext an S) ?_ ?_
  .rintro _ S ⟨rfl,G⟩;rw[bQ,dn (cs:=#[Δ 0,.slice ν 0 0,Δ 0,.slice ν 0 0,.slice ν 0 0,.slice ν 0 0,.slice ν 0 0,.slice ν 0 0]) Ψ];obtain⟨_,_,m,B⟩:=DK;refine ch (vs:=z12) a8.i rfl rfl (by intro u hu;simp[z12] at hu;rcases hu with rfl|rfl|rfl|rfl<;>rfl) ((((W.ext aj).ext Q).ext J).ext G) λbT ba bU bb=>?_;rw[fN a8.p a8.i rfl bb.range];refine⟨((aG.trans J).trans G).then ba λr z he=>by have he:r=y:=he;omega,_,_,false,rfl,⟨rfl,(DK).elim λ_ h=>by obtain⟨_,_,h⟩:=h;exact λu hu=>by simp[z12] at hu;rcases hu with rfl|rfl|rfl|rfl<;>rfl⟩,.inl ⟨rfl,rfl⟩,λf af=>?_⟩;rw[C] at af;cases af
  .intro aA H;rw[bm,al];exact⟨λ_=>H _ _ ⟨rfl,Ext.refl _⟩,λh=>absurd he h⟩
 |some f=>
  rw[C] at z;obtain⟨bV,n,rfl,bc⟩:=z;obtain⟨N,bd,K,be,bf⟩:=OD Ω C;have L:=B9 K;have Y:=wN K;rw[fO,fP,fQ];refine (Dj (ak.ext Q).ls X Ω).mono ?_;rintro a2 an _ ⟨J,a6,a7,_,ao⟩;obtain⟨bW,rfl,bh⟩:=ao f C;rw[fO,fP,fQ];refine aV (λv S=>v= .bool false/\Ext an S) ?_ ?_
  rotate_left
  .intro aA H;rw[bm,al];refine⟨λh=>absurd rfl h,λ_=>?_⟩;rw[db uL.u];exact H _ _ ⟨rfl,Ext.refl _⟩
  rintro _ S ⟨rfl,G⟩;rw[a1];have aH:=(aG.trans J).trans G;refine (Ni ((bc.ext J).ext G) K bd ⟨be,bf⟩).mono ?_;rintro bX bi _ ⟨ap,bj⟩;have Z:=aH.trans ap;have M:=((((W.ext aj).ext Q).ext J).ext G).ext ap;have aI:=(bh.ext G).ext ap;have bY:=Z.size;have bZ:w.heap.size<=y:=Ω
  have b0:=M.lt;rcases bj with⟨bk,e,he,rfl⟩|⟨b1,rfl,bl⟩
  .rw[bo,bp];refine OE.mono ?_;rintro _ aJ _ ⟨rfl,j⟩;refine gO (λaq t4 s=>aq= .pointer ν/\t4= .bool false/\Ext w s/\ ∃cs:List x1,ag s y a8 cs/\cs.length=8/\ ∀u∈cs,u.oneCell'=true) ?_ ?_
   .rintro _ _ s ⟨rfl,rfl,au,cs,av,m,B⟩;rw[fN a8.p a8.i m av.range];exact⟨au,_,cs,false,rfl,⟨m,B⟩,.inl ⟨rfl,rfl⟩,λb2 aL bn=>absurd bn (by rw[C] at aL;cases aL;exact bk)⟩
   .intro aA H;have bq:=j.size;refine (Dt (aI.ext j) K).mono ?_;rintro br aw _ ⟨x,ax⟩;refine (DA (R:=λr=>w.heap.size<=r/\ ∃c,ag aw r ai c) (λr h=>h.2.elim λc a=>a.lt) (λr c P a=>⟨Ω,c,a⟩) ax L.1 Y).mono ?_;rintro bt bu _ ⟨E,A9,cs,rfl,O,ay⟩;obtain⟨m,B⟩:=O.len;rw[bg,al];refine⟨λh=>absurd h he,λ_=>?_⟩;refine ch (vs:=cs) a8.i m rfl B (((M.ext j).ext x).ext E) λbx I aM aB=>?_;exact H _ _ _ ⟨rfl,rfl,(((Z.trans j).trans x).trans E).then I λr z he=>by have he:r=y:=he;omega,cs,aB,m,B⟩
  .rw[bo,bp];obtain⟨b3,bz,aN,bA⟩:=bl;have z5:=aH.size;refine (NG (R0:=λr=>w.heap.size<=r/\r<bi.heap.size) bz aN (λr o h U=>⟨by have:=bA r o h U;omega,(n9.1 (aN.aZ r o h U)).1⟩) (λr h=>h.2) L.1 Y).mono ?_;rintro _ aJ _ ⟨j,ae,gT,A,R,t,rfl,bB,ad,aO,aP,bC⟩;have aQ:bw aJ ae gT A R (cQ f) (cL (cQ f)) t:=⟨bB,ad,OH L.1 Y ad aO,Ns L.1,L.1⟩;refine gO (λaq t4 s=>aq=Γ ae/\t4= .bool true/\Ext w s/\ ∃cs:List x1,ag s y a8 cs/\cs.length=8/\(∀u∈cs,u.oneCell'=true)/\ ∃R' A9 aK,bw s ae gT A R' (cQ f) (cL (cQ f)) t/\ik true A9 aK s cs (cQ f).k (cQ f).sizes (cL (cQ f))/\(∀q r,A9 q r->¬A r/\¬R' r/\w.heap.size<=r)/\(∀r,aK r->¬eA s r/\r<s.heap.size/\w.heap.size<=r)/\ ∀r,R' r->w.heap.size<=r) ?_ ?_
   .rintro _ _ s ⟨rfl,rfl,au,cs,av,m,B,R',A9,aK,bE,O,bF,bG⟩;rw[fN a8.p a8.i m av.range];exact⟨au,_,cs,true,rfl,⟨m,B⟩,.inr ⟨rfl,f,C,ae,gT,A,R',t,N,A9,aK,K,rfl,bE,aO,λr z=>by have:=aP r z;omega,O,bF,bG⟩,λ_ _ _=>rfl⟩
   .intro aA H;have bq:=j.size;refine (Dt (aI.ext j) K).mono ?_;rintro br aw _ ⟨x,ax⟩;refine (DA (R:=λr=>w.heap.size<=r/\ ∃c,ag aw r ai c) (λr h=>h.2.elim λc a=>a.lt) (λr c P a=>⟨Ω,c,a⟩) ax L.1 Y).mono ?_;rintro bt bu _ ⟨E,A9,cs,rfl,O,ay⟩;obtain⟨m,B⟩:=O.len;rw[bg,al];refine⟨λ_=>?_,λh=>absurd rfl h⟩;rw[zv dz.u];have aR:=((M.ext j).ext x).ext E;have bH:=((Z.trans j).trans x).trans E;refine ch (vs:=cs) a8.i m rfl B aR λbx I aM aB=>?_;have aS:=(aQ.ext x).ext E;obtain⟨R',aT,bI⟩:=aS.1.put aR I λh=>by have:=aP y h;omega
    have b4:=((Z.trans j).trans x).size;have b5:=E.size;obtain⟨_,_,_,_,⟨_,_,bJ,bK⟩,_⟩:=(aQ.ext x).1;have b6:=M.lt;have b7:=(j.trans x).size;have bL:=O.ab I λr z h he=>by
     have he:r=y:=he;rcases h with⟨q,h⟩|⟨_,c,a⟩
     .have:=ay q r h;omega
     .subst he;exact absurd (e7 a (((M.ext j).ext x))) Φ
    refine H _ _ _ ⟨rfl,rfl,bH.then I λr z he=>by have he:r=y:=he;omega,cs,aB,m,B,R',A9,_,⟨bI,aS.2⟩,bL,λq r h=>?_,λr h=>?_,λr h=>?_⟩
    .have b9:=ay q r h;refine⟨λaC=>by have:=bK r aC;omega,λaC=>by have:=bJ r (aT r aC).1;omega,Ω⟩
    .obtain⟨P,c,a⟩:=h;have ca:=a.lt;have aM:=I.size;refine⟨OB ((a.ext E).ab I λhe=>?_) Φ,Ω,P⟩;have he:r=y:=he;subst he;exact absurd (e7 a (((M.ext j).ext x))) Φ
    .rcases bC r (aT r h).1 with h|h
     .exact h.1
     .omega
def kA:Λ:=[116,32,50,32,50,32,50,32,57,32,49,32,50,32,50,32,48,32,49,32,48,32,49,32,48,32,49,32,53,32,49,32,49,32,48,32,49,32,48,32,52]
def e4:b2:=⟨[116],9,[1,2],[⟨[0,1],[1,2],0,[([0,1],5)]⟩,⟨[1],[2],0,[([0],4)]⟩]⟩
theorem Ql:gi kA=σ e4:=by
 have h:(match gi kA with
  |some f=>decide (f.name=e4.name/\f.k=e4.k/\f.sizes=e4.sizes)&&decide (f.funs.map (λx=>(x.scope,x.sizes,x.other,x.lines))=e4.funs.map λx=>(x.scope,x.sizes,x.other,x.lines))
  |none=>false)=true:=by decide+kernel
 cases m:gi kA with
 |none=>rw[m] at h;cases h
 |some f=>
  rw[m] at h;simp only[V1,decide_eq_true_eq] at h;obtain⟨⟨h1,p,q⟩,e⟩:=h;obtain⟨nm,k,s,j⟩:=f;simp only at h1 p q e;subst h1;subst p;subst q;have:j=e4.funs:=by
   have r:j.length=2:=by have:=congrArg S6 e;simpa[e4] using this
   match j,r with
   |[x,y],_=>
    obtain⟨a,b,c,d⟩:=x;obtain⟨a',w,z,A⟩:=y;simp[e4] at e;obtain⟨⟨rfl,rfl,rfl,rfl⟩,rfl,rfl,rfl,rfl⟩:=e;rfl
  subst this;rfl
theorem Qm:lQ e4.funs<=16384:=by decide+kernel
theorem Qn:∃f u x o y,jM (cL (cQ e4)) 0 0 0 f u x/\f.sc.length=2/\f.sc[(1-(0:Int)).toNat]? =σ o/\(cL (cQ e4)).vars[o.toNat]? =σ y/\bY (cQ e4).k (aB y) (hz (cQ e4) (cL (cQ e4)) (0:Int).toNat 0 0 o)=(4,0):=by
 have h:(match (cL (cQ e4)).funs[0]? with
  |some f=>match f.sc[0]?,f.sc[1]? with
   |some u,σ o=>match (cL (cQ e4)).vars[u.toNat]?,(cL (cQ e4)).vars[o.toNat]? with
    |some x,σ y=>decide (f.live≠0/\0<=u/\(0:Int)∈aB x/\f.sc.length=2)&&decide (bY (cQ e4).k (aB y) (hz (cQ e4) (cL (cQ e4)) 0 0 0 o)=(4,0))
    |_,_=>false
   |_,_=>false
  |none=>false)=true:=by decide+kernel
 cases af:(cL (cQ e4)).funs[0]? with
 |none=>rw[af] at h;cases h
 |some f=>
  rw[af] at h;simp only at h;cases hu:f.sc[0]? with
  |none=>rw[hu] at h;cases h
  |some u=>
   rw[hu] at h;cases a:f.sc[1]? with
   |none=>rw[a] at h;cases h
   |some o=>
    rw[a] at h;simp only at h;cases J:(cL (cQ e4)).vars[u.toNat]? with
    |none=>rw[J] at h;cases h
    |some x=>
     rw[J] at h;cases e:(cL (cQ e4)).vars[o.toNat]? with
     |none=>rw[e] at h;cases h
     |some y=>
      rw[e] at h;simp only[V1,decide_eq_true_eq] at h;obtain⟨⟨h1,j,m,p⟩,q⟩:=h;exact⟨f,u,x,o,y,⟨Ω,af,h1,Ω,hu,j,J,m⟩,p,a,e,q⟩
theorem Qo (H:ej w) (I:Laid w):am x7 yS [] w λv w'=>v= .bool true/\Ext w w':=by
 refine az func7 ?_;refine j8 (k:=1) (cs:=(ints .u8 kA).toArray) cN.u cJ.i Ω Ψ λg V ay a m=>?_;have s:au .u8 cJ V g (.slice (σ ⟨g,0,ν⟩) 41 41) kA:=au.of (n:=41) (bW.full (by simpa using m) (by simp[kA]) (by simp[maxLen]));refine Pg m λp z B=>?_;have a:Ext w p:=a.put z Ω;have q:aF .u8 p (.slice (σ ⟨g,0,ν⟩) 41 41) kA:=by
  obtain⟨J,b,o,base,cap,K,L,M,O,P⟩:=s.ls;cases K;cases O (by simp[kA]);exact⟨J,g,0,_,41,rfl,L,M,λ_=>rfl,B _ _ P⟩
 clear s m B z;refine (ER q (by intro b Q;simp[kA] at Q;omega) (H.ext a)).mono ?_;rintro _ aa _ ⟨S,U,cs,ok,rfl,⟨W,X⟩,Y,Z⟩;have C:gi (kA.take 300)=σ e4:=by
  rw[b8 Φ];exact Ql
 have ab:ok=true:=Z e4 C Qm;subst ab;obtain⟨f,af,ae,gT,A,R,t,N,A9,aK,aB,rfl,ac,_⟩:∃f,gi (kA.take 300)=σ f/\tm p.heap.size aa U cs f:=by
  rcases Y with⟨h,_⟩|⟨_,h⟩
  .cases h
  .exact h
 rw[C] at af;cases af;have ad:=a.trans S;rw[fO,fP,fQ];refine bD a8.i λaq aC aD ag ah=>?_;refine ch (vs:=cs) a8.i W rfl X ah λai aj aE aG=>?_;have E:Ext aa ai:=ag.put aj Ω;have G:=ad.trans E;rw[bG,Y6,a1];refine (Ec (j:=0) (pos:=0) (v:=0) (ac.ext E) (I.ext G)).mono ?_;rintro r aH _ ⟨ak,_,e⟩;obtain⟨f,u,x,o,y,q,an,ao,ap,av⟩:=Qn;have e:=(e f u x q).2 an o y ao ap;rw[av] at e;subst e;rw[fO,fP,fQ];refine aV (λv aw=>v= .bool true/\Ext w aw) (λ_ _ h=>h) λaA ax=>?_;rw[bg,al];refine⟨λ_=>?_,λh=>absurd rfl h⟩;rw[bg,al];refine⟨λ_=>?_,λh=>absurd rfl h⟩;rw[bg];exact ax _ _ ⟨rfl,G.trans ak⟩
abbrev kB:Type:=i9 .u8×Int×Int×Int×Int
structure gw where
 d:Int
 i:Int
 pos:Int
 v:Int
 c:Int
def gw.ok (a:gw):Prop:=0<=a.d/\a.d<256
def gw.kind (a:gw):Nat:=(a.d % 7).toNat
def gw.bT (a:gw):List x1:=[.int .u8 a.d,Δ a.i,Δ a.pos,Δ a.v,Δ a.c]
def lZ (x:kB):gw:=⟨x.1.val,x.2.1,x.2.2.1,x.2.2.2.1,x.2.2.2.2⟩
theorem Qp {R:ak} {cs:List x1} {x:kB} (h:Seen R w cs x):cs=(lZ x).bT:=by
 obtain⟨p,_,_,_,rfl,_,_,_,a,q,_,_,_,rfl,_,_,_,e,r,_,_,_,rfl,_,_,_,f,s,y,_,_,rfl,_,_,_,j,m⟩:=h;have a:p=[.int .u8 x.1]:=a;have e:q=[Δ x.2.1]:=e;have f:r=[Δ x.2.2.1]:=f;have j:s=[Δ x.2.2.2.1]:=j;have m:y=[Δ x.2.2.2.2]:=m;subst a e f j m;rfl
theorem ES {x:kB} (h:(o5.u8.min<=x.1.val/\x.1.val<=o5.u8.max)/\(X2.min<=x.2.1/\x.2.1<=X2.max)/\(X2.min<=x.2.2.1/\x.2.2.1<=X2.max)/\(X2.min<=x.2.2.2.1/\x.2.2.2.1<=X2.max)/\(X2.min<=x.2.2.2.2/\x.2.2.2.2<=X2.max)):(lZ x).ok:=by
 have a:o5.u8.min=0:=Φ
 have e:o5.u8.max=255:=Φ
 rw[a,e] at h;exact⟨h.1.1,by have:=h.1.2;show x.1.val<256;omega⟩
theorem gw.one (a:gw):∀u∈a.bT,u.oneCell'=true:=by
 intro u hu;unfold gw.bT at hu;simp only[W9,List.not_mem_nil,or_false] at hu;rcases hu with rfl|rfl|rfl|rfl|rfl<;>rfl
theorem gw.Qq (a:gw):a.kind<7:=by
 unfold gw.kind;have:=Int.emod_lt_of_pos a.d (show (0:Int)<7 by decide);omega
def ET (k:Int) (a:gw):Int:=a.c.emod 18446744073709551616 % (k+1)
def kC (k:Int) (a:gw):hA:=⟨a.kind,a.i,a.pos,a.v,ET k a⟩
def lg (n:aR) (s:av) (a:gw):av:=if a.kind=6 then (if fm n a.i a.v then ek s a.i.toNat a.v.toNat else s) else (cB n.k s (kC n.k a)).1
theorem xu {d:Int} {K:x1->Prop} (h:0<=d):ac x7 (aL .rem cJ false true (.int .u8 d) (.int .u8 7)) w K=K (.int .u8 (((d % 7).toNat:Nat):Int)):=by
 rw[rR Φ,Int.tmod_eq_emod_of_nonneg h];have:=Int.emod_nonneg d (show (7:Int)≠0 by decide);rw[Int.toNat_of_nonneg this]
section
variable {w:x3} {ae gT aq:Nat} {A R:ak} {A9:Nat->ak} {aK:ak} {n:aR} {s u:av} {t:aC} {h:List aC} {cs:List x1} {a:gw}
theorem EU (a:bt n.k n.sizes s) {i:Int} (h:fm n i v):0<=i/\ ∃x,s.vars[i.toNat]? =σ x/\0<=v/\v<x.un.length:=by
 obtain⟨x,J,h1,_,e⟩:=h.var a;exact⟨h.1,x,J,h.2.2.1,by have:=h.2.2.2;omega⟩
theorem Qr (f:dk s/\et (cL n) s/\n.funs.length<=256) (j:bt n.k n.sizes s):dk (lg n s a)/\et (cL n) (lg n s a)/\n.funs.length<=256:=by
 unfold lg;split
 .split
  .rename_i h;obtain⟨p,x,J,ad,_⟩:=EU j h;have e:=lV (v:=a.v) J;have m:et s (ek s a.i.toNat a.v.toNat):=xn (v:=a.v);exact⟨by rw[e];exact dk.vars f.1 J rfl,f.2.1.trans m,f.2.2⟩
  .exact f
 .exact P8 f j _
theorem Qs (p:ct w ae gT aq A R A9 aK n s u t h cs) {i:Nat} {x:bB} (J:u.vars[i]? =σ x):∃g cap y gy e,cs[3]? =σ (.slice (σ ⟨g,0,ν⟩) u.vars.length cap)/\w.cell? ⟨g,0+i*1,ν⟩=σ y/\au .i64 e w gy y (aB x)/\(∀r,leads y r->A9 0 r)/\
  ∀ {V aa:x3} {m:Int} {z:x1} {K:Unit->x3->Prop},Ext w V->ah (λr=>leads y r) V aa->au .i64 e aa gy z (aB {x with mask:=m})->(∀r,leads z r->leads y r)->(∀I,dp w ae gT aq A R A9 aK n s t h {u with vars:=u.vars.set i {x with mask:=m}} I->K () I)->
   aD x7 (o6 an (.pointer (σ ⟨g,0+i*1,ν⟩)) z) aa K:=by
 have L:=p.olds;have aI:=(x4.1 J).1;obtain⟨szv,af,aJ,aL,aM,aN,M,_,ai,_,_,_,_,aj⟩:=id L.doc;obtain⟨g,cap,full,ak,c,al,e,C,am,E,N,O,P,ap,av⟩:=Ea (i:=i) (a:=aB x) ai (by rw[x8,J];rfl) λr _ h=>(aj rfl).2 0 r h;obtain⟨y,rfl⟩:=W7.1 (ao.len O);rw[u7] at e;have aw:full[i]? =σ y:=by have:=N 0 y rfl;simpa[show ao.n (Λ)=1 from rfl] using this
 obtain⟨gy,ax,Q,ay⟩:=zK O;have j:∀r,leads y r->al r:=λr f=>by
  rcases ay with rfl|az
  .obtain⟨_,_,_,e,_⟩:=f;cases e
  .obtain⟨e,_⟩:=bO Q f;rw[e];exact az
 refine⟨g,cap,y,gy,ax,by rw[M,<-e];rfl,by have:=C.cell (o:=i) aw;rw[X0,U1];exact this,Q,λr f=>(P r (j r f)).1,λ{V aa m S K} F G U W aA=>?_⟩;have aO:=F.size;have aP:=G.size;have E:i*1+1<=full.length:=E;obtain⟨_,_,_,X⟩:=c4 U.ls;have Y:¬leads y g:=λh=>ap (j g h);refine bq (o:=0+i*1) an.i (by rw[X];rfl) (by rw[X];rfl) ((C.ext F).ab G Y) Ω λZ ac aQ B=>?_;have B:ag Z g ak (over full (i*1) [S]):=by
  have e:=Ee (full:=full) (c:=[y]) (o:=i*1) (q:=0) (x:=S) N E Ξ;rw[X0] at B;rw[Nat.add_zero] at e;rw[e] at B;exact B
 have aR:g<w.heap.size:=C.lt;have H:ah (λr=>leads y r\/r=g) w Z:=((F.ab _).trans (G.mono λr _ h=>.inl h)).trans (ac.mono λr _ h=>.inr h);have aC:=br U ac λr f he=>by have he:r=g:=he;exact Y (he▸W r f)
 have aE:=av H (λr _ h=>h.imp (j r) id) B (mD (R:=aK) aC) λr f=>.inl (j r (W r f));have ad:∀r,r<w.heap.size->(leads y r\/r=g)->A9 0 r/\r<w.heap.size:=λr f h=>h.elim (λh=>P r (j r h)) λh=>by rw[h];exact am
 obtain⟨ck,aF,aG⟩:=L.nZ (u':={u with vars:=u.vars.set i {x with mask:=m}}) (λq r h=>h.2) (v:=af) (by rw[M];rfl) H ad (by show bE _ _ _ _ ((u.vars.set i {x with mask:=m}).map aB);rw[V8];exact aE) rfl (pn J rfl) (pn J rfl) rfl rfl;refine aA _ ⟨H.mono λr f h=>.inl ⟨0,(ad r f h).1⟩,ck,cs,aF,λq r f=>?_⟩;rcases aG q r f with⟨aH,h⟩|h
 .exact .inl ⟨aH,h.1⟩
 .exact .inr h
end
section
variable {Z aK:ak} {w w':x3} {ae gT aq:Nat} {A R:ak} {A9:Nat->ak} {n:aR} {s s':av} {t:aC} {cs:List x1} {a:gw}
def jU (Z aK:ak) (w:x3) (ae gT aq:Nat) (n:aR) (s':av) (w':x3):Prop:=ah (λr=>Z r/\¬aK r) w w'/\ ∃mO,(∀r,mO r->Z r\/w.heap.size<=r)/\fK mO aK w' ae gT aq n s'
theorem fK.Qt {aS:ak} {ck:Nat->ak} {bu:aC} (p:ct w ae gT aq A R A9 aK n s s t [] cs) (f:∀r,Z r↔lf A R A9 aK aq r) (H:dk s'/\et (cL n) s'/\n.funs.length<=256) (m:¬Z 0) (I:Laid w)
  (x:ah (eA w) w V) (y:Grow A w aS V) (j:∀q r,ck q r->A9 q r) (J:dp V ae gT aq aS R ck aK n s' bu [] s' aa):jU Z aK w ae gT aq n s' aa:=by
 obtain⟨z,B,ca,K,L⟩:=J;have O:=x.size;have P:=z.size;have M:=p.Em;have C:ah (λr=>Z r/\¬aK r) w aa:=((w3 y.1 x).mono (T:=λr=>Z r/\¬aK r) λr _ h=>⟨(f r).2 (.inl h.1),λh'=>(p.read r h').1 h.2⟩).trans
  (z.mono λr _ h=>⟨(f r).2 (h.elim (λ⟨q,h⟩=>.inr (.inr (.inl ⟨q,j q r h⟩))) λh=>.inr (.inr (.inr (.inr h)))),h.elim (λ⟨q,h⟩=>M q r (j q r h)) λh h'=>(p.read r h').2.2 h⟩)
 have Q:=p.box.lt;have e:∀ {r:Nat} {E:Prop},(E->lf A R A9 aK aq r)->E->Z r\/w.heap.size<=r:=λN h=>.inl ((f _).2 (N h));have F:∀r,lf aS R (λq r=>B q r/\r<aa.heap.size) aK aq r->Z r\/w.heap.size<=r:=by
  intro r a;rcases a with a|a|⟨q,a,_⟩|a|a
  .exact (y.2.1 r a).elim (e .inl) .inr
  .exact e (λh=>.inr (.inl h)) a
  .exact (L q r a).elim (λ⟨G,h⟩=>e (λh=>.inr (.inr (.inl h))) ⟨G,j G r h⟩) λh=>.inr Ω
  .exact e (λh=>.inr (.inr (.inr (.inl h)))) a
  .exact e (λh=>.inr (.inr (.inr (.inr h)))) a
 exact⟨C,λr=>lf aS R (λq r=>B q r/\r<aa.heap.size) aK aq r,F,aS,R,_,bu,ca,K.olds,⟨j7 C (λh=>m h.1) I,λh=>(F 0 h).elim m λh=>Ω⟩,H,λr=>Iff.rfl,λq r a=>a.2⟩
theorem jU.same (h:fK Z aK w ae gT aq n s) (J:Ext w w'):jU Z aK w ae gT aq n s w':=⟨J.ab _,Z,λ_ h=>.inl h,h.ext J⟩
theorem jU.before (J:Ext w V) (h:jU Z aK V ae gT aq n s w'):jU Z aK w ae gT aq n s w':=by
 obtain⟨c,mO,a,e⟩:=h;have:=J.size;exact⟨(J.ab _).trans c,mO,λr f=>(a r f).imp id λh=>Ω,e⟩
theorem Qu (h:fK Z aK w ae gT aq n s) (U:a.ok):am x7 uy [Γ ae,Γ aq,.agg a.bT.toArray] w λ_ w'=>jU Z aK w ae gT aq n (lg n s a) w':=by
 obtain⟨A,R,A9,t,cs,p,⟨ax,P⟩,aB,Q,aC⟩:=id h;have N:=p.e3.2.2.2.1;have bp:=N.eg;have bq:=a.Qq;have G:¬A 0:=λh=>P ((Q 0).2 (.inl h));have W:=Qr (a:=a) aB N;refine az func9 ?_;refine be λga V br aD X=>?_;have X:ag V ga c0 [.int .u8 a.d,Δ a.i,Δ a.pos,Δ a.v,Δ a.c]:=X;intro aa aE _ _;have C:=aD.trans aE;have B:=X.ext aE;have bt:=aD.size;have bu:=C.size;have bw:=B.lt;have Y:(a.d % 7).toNat=a.kind:=rfl;obtain⟨szv,bx,bz,bA,bB,bC,aR,_⟩:=p.nY;have aT:cs[0]? =σ (Δ n.k):=by rw[aR];rfl
 have hu:U3.wrap a.c=a.c.emod 18446744073709551616:=rfl;have aV:0<=a.c.emod 18446744073709551616:=Int.emod_nonneg _ Φ;have bD:=Int.emod_nonneg (a.c.emod 18446744073709551616) (show n.k+1≠0 by omega);have bE:=Int.emod_lt_of_pos (a.c.emod 18446744073709551616) (show 0<n.k+1 by omega);have aW:a.c.emod 18446744073709551616 % (n.k+1)=ET n.k a:=rfl;rw[aM c0.p 4 B rfl,fd ap.u fu.u,aQ a8.p 0 (p.box.ext C) aT,aP,wrap_i64 Ω Ω,fd ap.u fu.u,wrap_u64 (x:=n.k+1) Ω Ω,hu,rR Ω,Int.tmod_eq_emod_of_nonneg aV,fd fu.u ap.u,wrap_i64 Ω Ω,aW,
  aM c0.p 0 B rfl,xu U.1,Y,bg,al]
 have E:=p.ext C;refine⟨λac=>?_,λac=>?_⟩
 .have ac:a.kind=6:=Ω
  have H:lg n s a=if fm n a.i a.v then ek s a.i.toNat a.v.toNat else s:=by unfold lg;rw[if_pos ac]
  refine dg (λw'=>jU Z aK w ae gT aq n (lg n s a) w') (λw' h=>h) λaA aF=>?_;rw[aM c0.p 1 B rfl,aM c0.p 3 B rfl];refine (wL (i:=a.i) (v:=a.v) E.e3 (.inl p.ii.1)).mono ?_;rintro bF bG _ ⟨aX,aY⟩;by_cases I:fm n a.i a.v
  rotate_left
  .obtain⟨rfl,aZ⟩:=aX I;rw[bg,al];exact⟨λh=>absurd h Φ,λ_=>aF _ (by rw[H,if_neg I];exact jU.same h (C.trans aZ))⟩
  obtain⟨rfl,aG,aS,y,ad,a1⟩:=aY I;rw[if_pos I] at H;rw[bg,al];refine⟨λ_=>?_,λh=>absurd rfl h⟩;have a2:=E.prog aG ad a1 E.ii.set (λ_ h=>.inl h) (λ_ _ _ h=>h) E.box.lt;obtain⟨a6,x,J,a7,bH⟩:=EU N I;obtain⟨af,S⟩:=W6 a6;rw[S,u6] at J;intro ah aj _ _;have j:=a2.ext aj;have ak:∀r,A r->r<w.heap.size:=λr h=>tx p.e3 r (.inl h);have O:=(B.ab ad.1 λh=>by have:=ak ga h;omega).ext aj;rw[S] at O;have aH:af<s.vars.length:=(x4.1 J).1;obtain⟨g,cap,aI,gy,e,ao,ba,bb,bc,bd⟩:=Qs j J;have bI:=pq x;have bJ:x.un.length<=32:=by obtain⟨bK,aJ,bL,bf,_⟩:=I.var N;rw[S,u6,J] at aJ;cases aJ;exact bf
  have au:∀r,leads aI r->r≠ga/\r≠aq:=λr f=>by
   have h1:A9 0 r/\r<aa.heap.size:=bc r f;exact⟨λhe=>by have:=aC 0 r h1.1;omega,λhe=>(p.apart 0 r h1.1).2.2 he⟩
  rw[aQ a8.p 3 j.box ao,aM c0.p 1 O rfl,aQ a8.p 3 j.box ao,aM c0.p 1 O rfl,e5 c5.u an.i aH λ_=>rfl,ay (v:=aI) (o:=0+af*1) Ψ ba,ix];refine (Ed (p:=λy=>decide (y=a.v)) bb Ω λw' y bh bM=>?_).mono ?_
  .refine az func33 ?_;rw[aM c0.p 3 (O.ab bh λh=>(au ga h).1 rfl) rfl,bg];exact⟨rfl,Ext.refl _⟩
  rintro bN av _ ⟨aw,bi,bj⟩;have bk:=O.ab aw λh=>(au ga h).1 rfl;have bl:=j.box.ab aw λh=>(au aq h).2 rfl;refine⟨.inr ⟨r3 Ψ (bk.cell (o:=0+1) rfl),Go.Vc.kW λK=>aU c0.p rfl,r3 Ψ (bl.cell (o:=0+3) ao),Go.Vc.kW λK=>aU a8.p rfl,Go.Vc.kW λK=>bV,trivial⟩,?_⟩;rw[e5 c5.u an.i aH λ_=>rfl];refine bd (m:=((x.mask.toNat ||| 2 ^ a.v.toNat:Nat):Int)) (Ext.refl _) aw (by rw[w6 a7];exact bi) bj λbO aL=>aF _ ?_;have bm:ek s a.i.toNat a.v.toNat={s with vars:=s.vars.set af {x with mask:=((x.mask.toNat ||| 2 ^ a.v.toNat:Nat):Int)}}:=by rw[S,u6];unfold ek;rw[J]
  rw[H];rw[<-bm] at aL;have bn:=dp.comp (aj.ab _) (λq r f=>.inl ⟨q,f⟩) aL;exact jU.before C (fK.Qt E Q (by rw[<-H];exact W) P (ax.ext C) aG ad (λq r (f:A9 q r/\r<aa.heap.size)=>f.1) bn)
 have bP:(kC n.k a).kind=a.kind:=rfl;have H:lg n s a=(cB n.k s (kC n.k a)).1:=by unfold lg;rw[if_neg Ω]
 rw[aM c0.p 0 B rfl,xu U.1,Y,fd cJ.u ai.u,wrap_i64 Ω Ω,aM c0.p 1 B rfl,aM c0.p 2 B rfl,aM c0.p 3 B rfl];refine (P9 (m:=kC n.k a) E N aB.1 Ω).mono ?_;rintro _ ah _ ⟨rfl,aN⟩;obtain⟨aO,bQ,bR,j,bS⟩:=id aN;have ak:∀r,(∃q,A9 q r)\/r=aq->r<w.heap.size:=λr f=>f.elim (λ⟨q,h⟩=>aC q r h) λh=>by rw[h];exact p.box.lt
 have z:=B.ab aO λf=>by have:=ak ga f;omega
 have L:Laid ah:=j7 aO (λh=>P ((Q 0).2 (h.elim (λh=>.inr (.inr (.inl h))) λh=>.inr (.inr (.inr (.inr h)))))) (ax.ext C);have M:∀ {r:x1} {av:x3},n2 ah ae gT A R n s (kC n.k a) r av->jU Z aK w ae gT aq n (lg n s a) av:=λbo=>by
  rw[H] at W ⊢;exact jU.before C (fK.step E Q W P aN (Ext.refl _) bo.2)
 rw[aM c0.p 0 z rfl,xu U.1,Y,bg,al];refine⟨λhk=>?_,λbU=>?_⟩
 .rw[aM c0.p 1 z rfl,aM c0.p 2 z rfl,aM c0.p 3 z rfl];exact (PI (a:=kC n.k a) Ω j.e3 L G j.ii).mono λr w' _ f=>M f
 rw[bg,al];refine⟨λhk=>?_,λbW=>?_⟩
 .rw[aM c0.p 1 z rfl,aM c0.p 2 z rfl,aM c0.p 3 z rfl];exact (PJ (a:=kC n.k a) Ω j.e3 L G j.ii).mono λr w' _ f=>M f
 rw[bg,al];refine⟨λhk=>?_,λbX=>?_⟩
 .rw[aM c0.p 1 z rfl];exact (PO (a:=kC n.k a) Ω j.e3 L G j.ii).mono λr w' _ f=>M f
 rw[bg,al];refine⟨λhk=>?_,λbY=>?_⟩
 .rw[aM c0.p 1 z rfl];exact (PP (a:=kC n.k a) Ω j.e3 L G j.ii).mono λr w' _ f=>M f
 rw[bg,al];refine⟨λhk=>?_,λbZ=>?_⟩
 .rw[aM c0.p 1 z rfl,aM c0.p 3 z rfl];exact (PQ (a:=kC n.k a) Ω j.e3 L G j.ii).mono λr w' _ f=>M f
 .rw[aM c0.p 1 z rfl,aM c0.p 3 z rfl];exact (PR (a:=kC n.k a) Ω j.e3 L G j.ii).mono λr w' _ f=>M f
end
def q2 (s:av):Prop:=∀f∈s.funs,f.live≠0
theorem Qv (n:aR):q2 (cL n):=by
 intro f af;unfold cL at af;obtain⟨g,_,rfl⟩:=l9.1 af;exact (by decide:(1:Int)≠0)
theorem Qw {a b:av} (h:et a b) (k:q2 a):q2 b:=by
 intro g m;obtain⟨j,e⟩:=List.getElem?_of_mem m;have p:=(x4.1 e).1;obtain⟨f,af⟩:=aH (l:=a.funs) (i:=j) (by have:=h.funs;omega);rw[(h.fn j f g af e).2.2.1];exact k f (x5 af)
section
variable {w:x3} {ae gT:Nat} {A R:ak} {n:aR} {s:av} {t:aC} {dY:x1}
end
def lh (w0 w:x3) (ae gT aq:Nat) (n:aR):Prop:=Ext w0 w/\ ∃s Z aK,fK Z aK w ae gT aq n s/\ ∀r,Z r->w0.heap.size<=r
section
variable {w0 w w':x3} {ae gT aq:Nat} {n:aR} {s:av} {Z aK:ak}
theorem lh.ext (h:lh w0 w ae gT aq n) (J:Ext w w'):lh w0 w' ae gT aq n:=by
 obtain⟨a,s,Z,aK,e,f⟩:=h;exact⟨a.trans J,s,Z,aK,e.ext J,f⟩
end
theorem fK.live {Z aK:ak} {ae gT aq:Nat} {n:aR} {s:av} (h:fK Z aK w ae gT aq n s):q2 s/\s.funs.length<=256:=by
 obtain⟨_,_,a,af⟩:=h.ok;refine⟨Qw a (Qv n),?_⟩;rw[a.funs];unfold cL;rw[u7];exact af
theorem EV {p:x1} {A:x3->Prop} {K:x1->x1->x1->x3->Prop} (B:aF .u8 w p pl) (C:∀b∈pl,0<=b/\b<256) (q:ej w) (e:Laid w) (E:∀g w',Ext w w'->K (.pointer ν) (Γ g) (.bool false) w')
  (G:∀f ae gT aq Z aK w',gi (pl.take 300)=σ f->Ext w w'->fK Z aK w' ae gT aq (cQ f) (cL (cQ f))->(∀r,Z r->w.heap.size<=r)->K (Γ ae) (Γ aq) (.bool true) w'):
  am x7 yS [] w λH V=>
 ac x7 (Op.unary .not H) V λI=>
 Split I (A V)
  (am x7 yT [p] V λh aa=>
 ac x7 (Z7 h 0) aa λJ=>
 ac x7 (Z7 h 1) aa λL=>
 ac x7 (Z7 h 2) aa λM=>
 aD x7 (S7 a8 true (.tuple #[])) aa λx s=>
 aD x7 (o6 a8 x L) s λ(_:Unit) j=>K J x M j):=by
 refine (Qo q e).mono ?_;rintro _ V _ ⟨rfl,a⟩;rw[bG,Y6,a1];refine (ER (B.ext a) C (q.ext a)).mono ?_;rintro _ aa _ ⟨y,ag,cs,ok,rfl,⟨N,O⟩,P,_⟩;rw[fO,fP,fQ];have Q:=a.trans y;refine bD a8.i λaq s ah R S=>?_;refine ch (vs:=cs) a8.i N rfl O S λj U ai W=>?_;have z:Ext aa j:=R.put U Ω;have m:=Q.trans z;rcases P with⟨rfl,rfl⟩|⟨rfl,f,af,X⟩
 .exact E _ _ m
 have aj:=a.size;obtain⟨ae,gT,Z,aK,rfl,Y,ab⟩:=Qa X z W Ω y.size (P7 (e.ext a)) (e.ext m);exact G f ae gT aq Z aK _ af m Y λr ad=>by have:=ab r ad;omega
section
variable {w0 w w':x3} {ae gT aq:Nat} {n:aR} {s:av} {Z aK:ak}
theorem lh.Qx {a:gw} (h:lh w0 w ae gT aq n) (m:a.ok):am x7 uy [Γ ae,Γ aq,.agg a.bT.toArray] w λ_ w'=>lh w0 w' ae gT aq n:=by
 obtain⟨e,s,Z,aK,p,f⟩:=h;refine (Qu p m).mono ?_;rintro v V _ ⟨q,x,y,A⟩;have z:=e.size;exact⟨e.then q λr j h=>by have:=f r h.1;omega,_,x,aK,A,λr j=>(y r j).elim (f r) λh=>Ω⟩
theorem Qy {e:x1} {L:List kB} {K:x1->x3->Prop} {i:Nat} {x:kB} (j:Seen ee w [e] L) (J:L[i]? =σ x) (m:∀g w',Ext w w'->w.heap.size<=g->ag w' g c0 (lZ x).bT->K (Γ g) w'):
  ac x7 (j4 nb e (Δ (i:Int))) w λq=>
  ac x7 (u4 c0 q) w λr=>
  aD x7 (S7 c0 true (.tuple #[])) w λa f=>
  aD x7 (o6 c0 a r) f λ(_:Unit) h=>K a h:=by
 refine lI (α:=kB) c0.p rfl nb.u c0.i j J λcs s=>?_;obtain rfl:=Qp s;refine bD c0.i λgy f C y z=>?_;refine ch (vs:=(lZ x).bT) c0.i rfl rfl (gw.one _) z λh A E B=>?_;exact m _ _ (y.put A Ω) Ω B
theorem EW {r:x1} {L:List kB} {m:Int} {K:x3->Prop} (h:lh w0 w ae gT aq n) (e:Seen ee w0 [r] L) (H:∀x∈L,(lZ x).ok) (I:∀w',lh w0 w' ae gT aq n->K w'):
  ac x7 (W8 #[nb] ai #[r]) w λJ=>
 cz (Δ 0) w λj a k=>
  ac x7 (aL .lss ai false false j J) a λM=>
  Split M (cv (α:=x3->Prop) (λ(y:x3)=>
   ac x7 (aL .add ai false true j (Δ 1)) y λN=>
   k N y) λz=>
  ac x7 (j4 nb r j) a λO=>
  ac x7 (u4 c0 O) a λP=>
  aD x7 (S7 c0 true (.tuple #[])) a λb A=>
  aD x7 (o6 c0 b P) A λ(_:Unit) q=>
  ac x7 (aL .lss ai false true j (Δ m)) q λQ=>
  Split Q (ac x7 (u4 c0 b) q λR=>
   am x7 uy [Γ ae,Γ aq,R] q λY B=>
   z B)
   (z q))
   (K a):=by
 rw[hL nb.u (bI e h.1)];refine cz.range L.length (λi s=>lh w0 s ae gT aq n) (pT e) h ?_ ?_
 .rintro i s S hi f U;obtain⟨x,C⟩:=aH (l:=L) hi;have V:=H x (x5 C);refine bH Ω ?_;refine dg (λa=>lh w0 a ae gT aq n) (λa W=>by rw[aP];exact U _ W) λaA E=>?_;refine Qy (bI e f.1) C λgy A G _ X=>?_;rw[aO,al];refine⟨λ_=>?_,λ_=>E _ (f.ext G)⟩;rw[bR c0.p c0.i rfl X.range];exact ((f.ext G).Qx V).mono λv B _ e=>E _ e
 .rintro s S f;exact cp Ω (I _ f)
end
theorem EX {n:aR} {s:av} {i:Nat} {x:bB} (h:et (cL n) s) (J:s.vars[i]? =σ x):x.gone=0:=by
 obtain⟨y,a⟩:=aH (l:=(cL n).vars) (i:=i) (by have:=(x4.1 J).1;have:=h.vars;omega);rw[(h.var i y x a J).1];unfold cL at a;simp only[x8,Y5] at a;obtain⟨u,_,rfl⟩:=a;rfl
section
variable {w:x3} {n:aR} {ae gT aq:Nat}
end
section
variable {w:x3} {ae gT:Nat} {A R:ak} {n:aR} {s:av} {t:aC}
theorem xv {i:Nat} {x:bB} (a:bt n.k n.sizes s) (J:s.vars[i]? =σ x) (ad:v∈aB x):eD n s (i:Int) v=x.un.getD v.toNat 0:=by
 unfold eD;rw[if_pos (n1 a J ad),u6];unfold im;rw[J]
theorem mR {i:Nat} {x:bB} (J:s.vars[i]? =σ x):cj s (i:Int)=aB x:=by
 unfold cj;rw[u6,J]
theorem Qz {i:Nat} {x:bB} (a:bt n.k n.sizes s) (J:s.vars[i]? =σ x):pr n s (i:Int)=bY n.k (aB x) λv=>x.un.getD v.toNat 0:=by
 unfold pr;rw[mR J];exact EN λv ad=>xv a J ad
theorem QA {i:Nat} (a:bt n.k n.sizes s) (e:et (cL n) s) (hi:i<n.sizes.length):hV n s (i:Int)=true/\ ∃x,s.vars[i]? =σ x:=by
 have f:=a.vars;obtain⟨x,J⟩:=aH (l:=s.vars) (i:=i) Ω;refine⟨?_,x,J⟩;unfold hV ji;rw[u6,J,decide_eq_true (show (0:Int)<=i/\(i:Int)<n.sizes.length by omega)];simp[EX e J]
end
section
variable {w:x3} {ae gT:Nat} {A R:ak} {n:aR} {s:av} {t:aC}
theorem QB {i:Nat} (h:bw w ae gT A R n s t) (a:Laid w) (ad:hV n s (i:Int)=true):am x7 yV [Γ ae,Δ (i:Int)] w λr w'=>Ext w w'/\r= .tuple #[Δ (pr n s (i:Int)).1,Δ (pr n s (i:Int)).2,Δ 0]:=by
 obtain⟨_,x,J,_⟩:=tq h.2.2.2.1 ad;rw[u6] at J;refine (OM (i:=(i:Int)) h a).mono ?_;rintro r j _ ⟨e,_,f⟩;refine⟨e,?_⟩;rw[f x ad (by rw[u6];exact J)];unfold pr;rw[mR J]
theorem QC {i:Nat} (h:bw w ae gT A R n s t) (a:Laid w) (ad:hV n s (i:Int)=true):am x7 yW [Γ ae,Δ (i:Int)] w λr w'=>Ext w w'/\r= .tuple #[Δ (mQ n s (i:Int)).1,Δ (mQ n s (i:Int)).2,Δ 0]:=by
 obtain⟨_,x,J,_⟩:=tq h.2.2.2.1 ad;rw[u6] at J;refine (P0 (i:=(i:Int)) h a).mono ?_;rintro r j _ ⟨e,_,f⟩;refine⟨e,?_⟩;rw[f x ad (by rw[u6];exact J)];unfold mQ;rw[mR J]
end
section
variable {w:x3} {dY:x1} {n:aR} {s:av}
theorem EY {a b:Int} {f:cb} {y:bB} (h:bt n.k n.sizes s) (af:s.funs[j]? =σ f) (x:f.live≠0) (p:f.sc=[a,b]) (r:pos=0\/pos=1) (ad:v∈cj s (if pos=1 then b else a)) (e:s.vars[(if pos=1 then a else b).toNat]? =σ y):
  (bY n.k (aB y) λu=>min (bj f.aj f.cs (if pos=1 then[u,v] else[v,u])+y.un.getD u.toNat 0) n.k)=bY n.k (aB y) (hz n s j (pos:Int) v (if pos=1 then a else b)):=by
 refine EN λu hu=>?_;obtain⟨w,_,_⟩:=h.funs f (x5 af);obtain⟨o,q⟩:∃o,o=(if pos=1 then a else b):=⟨_,rfl⟩;have z:0<=o:=by
  have h1:=(w.scope.1 a (by rw[p];exact .head _)).1;have A:=(w.scope.1 b (by rw[p];exact .tail _ (.head _))).1;rw[q];split<;>omega
 rw[<-q] at e ⊢;obtain⟨on,rfl⟩:=W6 z;rw[u6] at e;obtain⟨m,hm⟩:=EP h (x5 af) p r ad (u:=u) (by rw[<-q,mR e];exact hu);unfold hz;rw[xv h e hu,show ((if (pos:Int)=1 then[u,v] else[v,u]):Λ)=if pos=1 then[u,v] else[v,u] by
  rcases r with rfl|rfl<;>rfl,(Ej af x hm).1]
theorem QD {i:Int} {q:Nat}:(X4 (q+1)).foldl (io n s i v) (eD n s i v)=io n s i v ((X4 q).foldl (io n s i v) (eD n s i v)) q:=by
 rw[List.range_succ,S1];rfl
theorem QE {i:Nat} {x:bB} (h:iN w dY n.k n.sizes s) (z:bt n.k n.sizes s) (aK:q2 s) (J:s.vars[i]? =σ x):
  am x7 FU [dY,Δ (i:Int)] w λr w'=>Ext w w'/\r= .tuple #[Δ (mQ n s (i:Int)).1,Δ (mQ n s (i:Int)).2]:=by
 have bU:=pq x;have bV:=z.vars;have bW:=z.eg;refine az func18 ?_;refine be λg1 V bX ag aL=>?_;have ah:=h.box ag aL;obtain⟨szv,b0,b1,b2,b3,b4,I,b5,_,aN,b6,aQ,R,b7⟩:=id ah;rw[aM a8.p 0 I rfl,aM a8.p 3 I rfl];refine hM (α:=Λ) (a:=aB x) (i:=i) rfl rfl c5.u an.i Ψ aN (by rw[x8,J];rfl) λb8 aR=>?_;have S:=dc aR;rw[aW an.u S];have aS:mQ n s (i:Int)=bY n.k (aB x) (jS n s (i:Int)):=by unfold mQ;rw[mR J]
 obtain⟨f,af⟩:∃f:Int->Int,f=jS n s (i:Int):=⟨_,rfl⟩;rw[aS,<-af];refine jZ.range (aB x).length (λq b a aa=>Ext V aa/\b=Δ (bY n.k ((aB x).take q) f).1/\a=Δ (bY n.k ((aB x).take q) f).2) S.le ⟨Ext.refl _,rfl,rfl⟩ ?_ ?_
 rotate_left
 .rintro _ _ aa aT ⟨A,rfl,rfl⟩;rw[p9];exact cp Ω ⟨ag.trans A,rfl⟩
 rintro q _ _ aa aT aX ⟨A,rfl,rfl⟩ aZ;obtain⟨v,ad⟩:=aH (l:=aB x) aX;have U:=x5 ad;have a2:=(gq.1 U).1;obtain⟨e,rfl⟩:=W6 a2.1;have K:=xq (k:=n.k) (f:=f) ad;have b9:=xr (k:=n.k) (f:=f) (l:=(aB x).take q) λv ad=>(gq.1 (T4 ad)).1.1;refine bH Ω ?_;refine gO (λb a w'=>Ext V w'/\b=Δ (bY n.k ((aB x).take (q+1)) f).1/\a=Δ (bY n.k ((aB x).take (q+1)) f).2) (λb a w' L=>by rw[aP];exact aZ _ _ _ L) λaA aj=>?_;rw[bc an.u ai.i Ψ (S.ext A) ad,aM a8.p 5 (I.ext A) rfl];refine hM (α:=Λ) (a:=x.un) (i:=i) rfl rfl dV.u ax.i Ψ (bI aQ A) (by rw[x8,J];rfl) λca a7=>?_;rw[bc ax.u ap.i Ψ (dc a7) (getD_some (i:=e) Ω),aM a8.p 6 (I.ext A) rfl,hL eN.u (bI R A),u7];have ak:=xv z J U;rw[u6] at ak;rw[<-ak];refine bZ.range s.funs.length (λj c M=>Ext V M/\c=Δ ((X4 j).foldl (io n s (i:Int) (e:Int)) (eD n s (i:Int) (e:Int)))) (by have:=pT R;rw[u7] at this;exact this) ⟨A,rfl⟩ ?_ ?_
 .rintro j _ M ba bb ⟨N,rfl⟩ bd;obtain⟨fn,y⟩:=aH (l:=s.funs) bb;have W:=aK fn (x5 y);obtain⟨O,_,_⟩:=z.funs fn (x5 y);have bf:=Qe (i:=(i:Int)) (v:=(e:Int)) z (X4 j);have ao:=QD (n:=n) (s:=s) (i:=(i:Int)) (v:=(e:Int)) (q:=j);obtain⟨c,E⟩:∃c,(X4 j).foldl (io n s (i:Int) (e:Int)) (eD n s (i:Int) (e:Int))=c:=⟨_,rfl⟩;rw[E] at ao bf ⊢;refine bH Ω ?_;refine aV (λr w'=>Ext V w'/\r=Δ ((X4 (j+1)).foldl (io n s (i:Int) (e:Int)) (eD n s (i:Int) (e:Int)))) (λr w' L=>by rw[aP];exact bd _ _ L) λcb P=>?_;rw[ao] at P;refine lI (α:=ij) (a:=hb fn) dm.p rfl eN.u dm.i (bI R N) (by rw[x8,y];rfl) λcs bh=>?_;obtain⟨aG,bi,a6,rfl,aq,bj,bk⟩:=lW bh;refine bD dm.i λga cc cd bl bn=>?_;refine ch (vs:=[aG,bi,a6,.bool (decide (fn.live≠0))]) dm.i rfl rfl (Eo aq bj bk) bn λQ bq br X=>?_;have au:Ext M Q:=bl.put bq Ω;have Y:=N.trans au;have av:=dc (bI aq au);have aw:mP s (j:Int)=decide (fn.sc.length=2):=by unfold mP;rw[u6,y]
  have bu:jO s (i:Int) j=decide ((i:Int)∈fn.sc):=by unfold jO;rw[y];simp only;rw[decide_eq_true W,T3]
  refine aV (λr w'=>Q=w'/\r= .bool (decide (fn.sc.length≠2))) ?_ λce bw=>?_
  rotate_left
  .rw[aM dm.p 1 X rfl,decide_eq_true W,bG,Y6,a1,aU dm.p rfl,aU aY.p rfl,ay (v:=aG) Ψ (X.cell (o:=0+0+0) rfl),aW an.u av,bm];refine bw _ _ ⟨rfl,?_⟩;congr 1;exact decide_eq_decide.2 ⟨λh=>Ω,λh=>Ω⟩
  rintro _ _ ⟨rfl,rfl⟩;rw[al];refine⟨λH=>P _ _ ⟨Y,?_⟩,λH=>?_⟩
  .unfold io;rw[aw,decide_eq_false H];split<;>rfl
  have H:fn.sc.length=2:=Z9.1 H;obtain⟨a,b,m⟩:∃a b,fn.sc=[a,b]:=by
   match br:fn.sc,H with
   |[a,b],_=>exact⟨a,b,rfl⟩
  have cg:a<b:=by
   have h:fn.sc.Pairwise (·< ·):=O.up;rw[m] at h;exact (List.pairwise_cons.1 h).1 b (.head _)
  have ci:=O.vars a (by rw[m];exact .head _);have ck:=O.vars b (by rw[m];exact .tail _ (.head _));have cl:=(O.scope.1 a (by rw[m];exact .head _)).1;have cm:=(O.scope.1 b (by rw[m];exact .tail _ (.head _))).1;obtain⟨Z,bx⟩:=aH (l:=s.vars) (i:=a.toNat) Ω;obtain⟨ab,bz⟩:=aH (l:=s.vars) (i:=b.toNat) Ω;have bA:(e:Int)∈cj s (i:Int):=by rw[mR J];exact U
  have bC:=xp (i:=(i:Int)) (v:=(e:Int)) (j:=(j:Int)) z;obtain⟨B,ac⟩:∃B,gv n s (i:Int) (e:Int) (j:Int)=B:=⟨_,rfl⟩;rw[ac] at bC;have bE:io n s (i:Int) (e:Int) c j=if (i:Int)=a\/(i:Int)=b then min (c+B) n.k else c:=by
   unfold io;rw[aw,decide_eq_true H,bu,ac,m];simp
  rw[bE] at P;obtain⟨cn,bF⟩:=EM (n:=n) (i:=(i:Int)) (v:=(e:Int)) y m (show a≠b by omega) (x:=Z);obtain⟨bJ,cq⟩:=EM (n:=n) (i:=(i:Int)) (v:=(e:Int)) y m (show a≠b by omega) (x:=ab);refine bZ.range 2 (λp bK ae=>Ext Q ae/\bK=Δ (if p=0 then c else if p=1 then (if (i:Int)=a then min (c+B) n.k else c) else (if (i:Int)=a\/(i:Int)=b then min (c+B) n.k else c))) Ω ⟨Ext.refl _,rfl⟩ ?_ ?_
  rotate_left
  .rintro _ ae bL ⟨G,rfl⟩;rw[show ((2:Nat):Int)=2 from rfl,aO,al];exact⟨λh=>Ω,λ_=>P _ _ ⟨Y.trans G,rfl⟩⟩
  rintro p _ ae bL cr ⟨G,rfl⟩ bM;have aC:=Y.trans G;have C:p=0\/p=1:=Ω
  refine bH Ω ?_;refine aV (λr w'=>Ext Q w'/\r=Δ (if p+1=0 then c else if p+1=1 then (if (i:Int)=a then min (c+B) n.k else c) else (if (i:Int)=a\/(i:Int)=b then min (c+B) n.k else c))) (λr w' L=>by rw[aP];exact bM _ _ L) λct aD=>?_;rw[aU dm.p rfl,aU aY.p rfl,ay (v:=aG) Ψ ((X.ext G).cell (o:=0+0+0) rfl),bc an.u ai.i Ψ (av.ext G) (x:=if p=1 then b else a) (by rw[m];rcases C with rfl|rfl<;>rfl),bg,al];refine⟨λhe=>?_,λhe=>aD _ _ ⟨G,?_⟩⟩
  rotate_left
  .rcases C with rfl|rfl
   .have he:¬(i:Int)=a:=λh=>he h.symm;simp[he]
   .have he:¬(i:Int)=b:=λh=>he h.symm;simp[he]
  have aE:s.vars[(if p=1 then a else b).toNat]? =σ (if p=1 then Z else ab):=by rcases C with rfl|rfl<;>assumption
  have aF:(e:Int)∈cj s (if p=1 then b else a):=by rw[he];exact bA
  have bN:B=(bY n.k (aB (if p=1 then Z else ab)) (hz n s j (p:Int) (e:Int) (if p=1 then a else b))).1:=by
   rw[<-ac];rcases C with rfl|rfl
   .exact bJ he.symm bz
   .exact bF he.symm bx
  refine (ah.ext aC).load λcu bO=>?_;refine (EQ bO z y m C aF aE).mono ?_;rintro _ cw _ ⟨aI,rfl⟩;rw[EY z y W m C aF aE,<-bN,bo,bp,aM a8.p 0 (I.ext (aC.trans aI)) rfl];refine (mp (by rcases C with rfl|rfl<;>simp only[if_true]<;>first|omega|(split<;>omega)) Ω).mono ?_;rintro _ cz _ ⟨rfl,bP⟩;refine aD _ _ ⟨(G.trans aI).trans bP,?_⟩;congr 1;rcases C with rfl|rfl
  .have he:(i:Int)=a:=he.symm;simp[he]
  .have bQ:(i:Int)=b:=he.symm;have bR:¬(i:Int)=a:=Ω
   simp[bQ,bR,show ¬b=a by omega]
 .rintro _ M ba ⟨N,rfl⟩;refine cp Ω ?_;rw[<-Qd];have bS:jS n s (i:Int) (e:Int)=f (e:Int):=by rw[af]
  rw[bS];refine aV (λr w'=>M=w'/\r= .bool (decide ((bY n.k ((aB x).take q) f).2= -1\/f (e:Int)<(bY n.k ((aB x).take q) f).1))) ?_ λcA aJ=>?_
  .rintro _ _ ⟨rfl,rfl⟩;unfold fp at K;rw[al];exact⟨λE=>aj _ _ _ ⟨N,by rw[K,if_pos E],by rw[K,if_pos E]⟩,λE=>aj _ _ _ ⟨N,by rw[K,if_neg E],by rw[K,if_neg E]⟩⟩
  .rw[aO,al];refine⟨λbT=>aJ _ _ ⟨rfl,by rw[decide_eq_true (.inl Ω)]⟩,λbT=>?_⟩;rw[aO];refine aJ _ _ ⟨rfl,?_⟩;congr 1;exact decide_eq_decide.2 ⟨.inr,λh=>h.resolve_left λh=>Ω⟩
end
section
variable {w:x3} {v:x1} {o:Option (Λ)}
theorem jT.ls (h:jT w B v o):aF .i64 w v (o.getD []):=by
 cases o with
 |none=>
  have h:v= .slice ν 0 0:=h;subst h;exact dc (gE (m:=false) (S:=λ_=>False) (R:=ee))
 |some tl=>
  obtain⟨_,g,_,hm⟩:=h;exact hm.ls
theorem n3.ls (h:n3 w v o):aF .i64 w v (o.getD []):=by
 cases o with
 |none=>
  have h:v= .slice ν 0 0:=h;subst h;exact dc (gE (m:=false) (S:=λ_=>False) (R:=ee))
 |some tl=>exact h.2
end
theorem QF {p ap:x1} {L:List kB} {Q:x1->x3->Prop} (au:∀w',Ext w w'->Q (.bool true) w') (be:aF .u8 w p pl) (bf:∀b∈pl,0<=b/\b<256) (bg:Seen ee w [ap] L) (bh:∀x∈L,(lZ x).ok) (bi:ej w) (bk:Laid w):
  am x7 yQ [p,ap] w Q:=by
 refine az func3 ?_;refine EV be bf bi bk ?_ ?_
 .intro g w' J;rw[bG,X9,bQ,db dz.u];exact au _ J
 intro f ae gT aq Z aK cq af bl bn bq;rw[bG,Y6,a1];refine EW ⟨bl,_,Z,aK,bn,bq⟩ bg bh ?_;rintro br ⟨bt,s,cr,ct,C,cu⟩;generalize cQ f=n at*;obtain⟨B,cw,cz,_⟩:=C.ok;obtain⟨bu,cA⟩:=C.live;have cB:=B.vars;have cC:=B.eg;obtain⟨szv,cD,cE,cF,cG,cH,av,cI,_,bw,cJ,cK,aw,cL⟩:=C.look;obtain⟨A,R,t,ax,aA,_⟩:=C.e3;rw[aM a8.p 6 av rfl,hL eN.u aw,u7];refine bZ.range s.funs.length (λj _ M=>Ext br M) Ω (Ext.refl _) ?_ ?_
 rotate_left
 .rintro t4 M bx N;exact cp Ω (au _ (bt.trans N))
 rintro j t4 M bx bz N bA;obtain⟨fn,y⟩:=aH (l:=s.funs) bz;have V:=bu fn (x5 y);obtain⟨E,_,_⟩:=B.funs fn (x5 y);refine bH Ω ?_;refine lI (α:=ij) (a:=hb fn) dm.p rfl eN.u dm.i (bI aw N) (by rw[x8,y];rfl) λcs bB=>?_;obtain⟨aG,bC,a6,rfl,aC,bE,bF⟩:=lW bB;refine bD dm.i λga cM cN bJ bK=>?_;refine ch (vs:=[aG,bC,a6,.bool (decide (fn.live≠0))]) dm.i rfl rfl (Eo aC bE bF) bK λaD bM bN W=>?_;have aE:Ext M aD:=bJ.put bM Ω;have aI:=N.trans aE;have H:=dc (bI aC aE);rw[aU dm.p rfl,aU aY.p rfl,ay (v:=aG) Ψ (W.cell (o:=0+0+0) rfl),aW an.u H];refine bZ.range fn.sc.length (λpos _ I=>Ext aD I) H.le (Ext.refl _) ?_ ?_
 rotate_left
 .rintro t5 I bO G;refine cp Ω ?_;rw[aP];exact bA _ _ (aI.trans G)
 rintro pos t5 I bO X G bP;obtain⟨u,hu⟩:=aH (l:=fn.sc) X;have aJ:=x5 hu;have bR:=(E.scope.1 u aJ).1;have cO:=E.vars u aJ;obtain⟨un,rfl⟩:=W6 bR;obtain⟨x,J⟩:=aH (l:=s.vars) (i:=un) Ω;have cP:=pq x;have Y:=aI.trans G;refine bH Ω ?_;rw[bc an.u ai.i Ψ (H.ext G) hu,aM a8.p 3 (av.ext Y) rfl];refine hM (α:=Λ) (a:=aB x) (i:=un) rfl rfl c5.u an.i Ψ (bI bw Y) (by rw[x8,J];rfl) λcR bS=>?_;have aa:=dc bS;rw[aW an.u aa];refine bZ.range (aB x).length (λq _ ab=>Ext I ab) aa.le (Ext.refl _) ?_ ?_
 rotate_left
 .rintro bT ab bU K;refine cp Ω ?_;rw[aP];exact bP _ _ (G.trans K)
 rintro q bT ab bU bV K bW;obtain⟨v,ad⟩:=aH (l:=aB x) bV;have ac:=x5 ad;have ag:=Y.trans K;refine bH Ω ?_;refine aV (λ_ w'=>Ext I w') (λ_ w' bX=>by rw[aP];exact bW _ _ bX) λcS aL=>?_;rw[bc an.u ai.i Ψ (aa.ext K) ad];have aN:jM s (j:Int) (pos:Int) v fn (un:Int) x:=⟨Ω,by rw[u6];exact y,V,Ω,by rw[u6];exact hu,Ω,by rw[u6];exact J,ac⟩;have aO:∀u',fn.sc[pos]? =σ u'->v∈cj s u':=λu' aQ=>by rw[hu] at aQ;cases aQ;rw[mR J];exact ac
 have aR:=ax.ext ag;refine (P2 (j:=(j:Int)) (pos:=(pos:Int)) (v:=v) aR (aA.ext ag) (tx aR)).mono ?_;rintro _ cT _ ⟨aS,_,bY⟩;obtain⟨cU,rfl,aT⟩:=bY fn (un:Int) x aN;have b0:ed n.k (eC s (j:Int).toNat) (eV s fn.sc (pos:Int) fn.sc.length 0 ((r8 fn.sc.length 0).set (pos:Int).toNat v))=ed n.k (bj fn.aj fn.cs) (bL s fn.sc pos v):=by
  rw[u6,u6,OO X];refine Qi λtl b1=>?_;obtain⟨m,hm⟩:=n0 B (x5 y) aO b1;exact (Ej y V hm).1
 rw[b0] at aT ⊢;rw[fO,fP,fQ];have aX:=ag.trans aS;refine (C.ext aX).look.load λdY b2=>?_;refine (Qk b2 B y X aO).mono ?_;rintro _ b3 _ ⟨ah,fv2,rfl,b4⟩;rw[bo,bp];have b5:=(K.trans aS).trans ah;have b7:=aX.trans ah;refine aV (λr w'=>r= .bool false/\Ext b3 w') ?_ λcV b8=>?_
 rotate_left
 .rw[bm,al];refine⟨λh=>absurd rfl h,λ_=>?_⟩;rw[bm,al];refine⟨λh=>absurd rfl h,λ_=>?_⟩;refine (zQ (aT.ls.ext ah) b4.ls).mono ?_;rintro _ cW _ ⟨rfl,b9⟩;rw[decide_eq_true rfl,bG];exact b8 _ _ ⟨rfl,b9⟩
 rintro _ cX ⟨rfl,aZ⟩;have ak:=b7.trans aZ;rw[a1];refine (Ec (j:=(j:Int)) (pos:=(pos:Int)) (v:=v) (ax.ext ak) (aA.ext ak)).mono ?_;rintro r ca _ ⟨a2,_,cb⟩;obtain⟨cc,cd⟩:=cb fn (un:Int) x aN;have ao:=(b5.trans aZ).trans a2;have O:=G.trans ao;have ce:=ak.trans a2;by_cases P:fn.sc.length=2
 rotate_left
 .obtain rfl:=cc P;rw[fO,fP,fQ,aU dm.p rfl,aU aY.p rfl,ay (v:=aG) Ψ ((W.ext O).cell (o:=0+0+0) rfl),aW an.u (H.ext O),bm,al];refine⟨λ_=>?_,λh=>absurd (λe=>P Ω) h⟩;refine aV (λr w'=>r= .bool false/\ca=w') ?_ λcY cg=>?_
  .rintro _ _ ⟨rfl,rfl⟩;rw[a1];exact aL _ _ ao
  rw[bm,al];refine⟨λh=>absurd rfl h,λ_=>?_⟩;rw[bm,al];refine⟨λh=>absurd rfl h,λ_=>?_⟩;rw[bm];exact cg _ _ ⟨rfl,rfl⟩
 obtain⟨a,b,z⟩:∃a b,fn.sc=[a,b]:=by
  match bN:fn.sc,P with
  |[a,b],_=>exact⟨a,b,rfl⟩
 have S:pos=0\/pos=1:=Ω
 have cZ:=E.vars a (by rw[z];exact .head _);have c0:=E.vars b (by rw[z];exact .tail _ (.head _));have c1:=(E.scope.1 a (by rw[z];exact .head _)).1;have c2:=(E.scope.1 b (by rw[z];exact .tail _ (.head _))).1;obtain⟨o,U⟩:∃o,o=(if pos=1 then a else b):=⟨_,rfl⟩;obtain⟨a7,ba⟩:=aH (l:=s.vars) (i:=o.toNat) (by rw[U];split<;>omega);have ci:fn.sc[(1-(pos:Int)).toNat]? =σ o:=by rw[U,z];rcases S with rfl|rfl<;>rfl
 obtain rfl:=cd P o a7 ci ba;have bb:v∈cj s (if pos=1 then b else a):=by
  have e:(if pos=1 then b else a)=(un:Int):=by rw[z] at hu;rcases S with rfl|rfl<;>exact b6 hu
  rw[e,mR J];exact ac
 rw[fO,fP,fQ,aU dm.p rfl,aU aY.p rfl,ay (v:=aG) Ψ ((W.ext O).cell (o:=0+0+0) rfl),aW an.u (H.ext O),bm,al];refine⟨λh=>absurd Ω h,λ_=>?_⟩;refine (C.ext ce).look.load λc3 ck=>?_;have bd:s.vars[(if pos=1 then a else b).toNat]? =σ a7:=by rw[<-U];exact ba
 refine (EQ ck B y z S bb bd).mono ?_;rintro _ cl _ ⟨cm,rfl⟩;rw[EY B y V z S bb bd,<-U,u6,bo,bp];refine aV (λr w'=>r= .bool false/\cl=w') ?_ λc4 cn=>?_
 .rintro _ _ ⟨rfl,rfl⟩;rw[a1];exact aL _ _ (ao.trans cm)
 rw[bm,al];refine⟨λh=>absurd rfl h,λ_=>?_⟩;rw[bm,al];refine⟨λh=>absurd rfl h,λ_=>?_⟩;rw[bm];exact cn _ _ ⟨by congr 1;exact decide_eq_false λh=>h rfl,rfl⟩
theorem QG {p a:x1} {L:List kB} (e:aF .u8 w p pl) (f:∀b∈pl,0<=b/\b<256) (h:Seen ee w [a] L) (j:∀x∈L,(lZ x).ok) (m:ej w) (q:Laid w):
  am x7 yQ [p,a] w λv w'=>v= .bool true/\Ext w w':=QF (λw' J=>⟨rfl,J⟩) e f h j m q
def tJ (s:av):Bool:=s.vars.any λx=>decide (aB x=[])
section
variable {w:x3} {ae gT:Nat} {A R:ak} {n:aR} {s:av} {t:aC}
theorem QH (h:bw w ae gT A R n s t) (C:et (cL n) s):am x7 FV [Γ ae] w λr w'=>Ext w w'/\r= .bool (tJ s):=by
 have j:=h.2.2.2.1;have E:=j.vars;have S:=j.hv.2.1;refine az func19 ?_;refine (DF h).mono ?_;rintro _ V _ ⟨rfl,G⟩;refine bZ.range n.sizes.length (λi _ aa=>Ext w aa/\ ∀x∈s.vars.take i,aB x≠[]) Ω ⟨G,λx J=>by simp at J⟩ ?_ ?_
 .rintro i H aa I hi ⟨a,e⟩ K;obtain⟨x,J⟩:=aH (l:=s.vars) (i:=i) Ω;refine bH Ω ?_;refine aV (λr w'=>Ext w w'/\r= .bool (decide (aB x=[]))) ?_ λaA L=>?_
  .rintro _ T ⟨p,rfl⟩;rw[al];refine⟨λhe=>⟨p,?_⟩,λhe=>?_⟩
   .unfold tJ;rw[List.any_eq_true.2 ⟨x,x5 J,decide_eq_true he⟩]
   .rw[aP];refine K _ _ ⟨p,λy f=>?_⟩;rw[u9,J,o9,o7,o8] at f;rcases f with f|rfl
    .exact e y f
    .exact he
  refine (th (i:=(i:Int)) (h.ext a)).mono ?_;rintro _ U _ ⟨rfl,M⟩;have N:(decide (0<=(i:Int))&&ji s (i:Int).toNat)=false:=by
   rw[decide_eq_true Ω,T3,u6];unfold ji;rw[J];exact decide_eq_false (by rw[EX C J];decide)
  have z:=a.trans M;rw[N,bG,X9,bQ];refine (jL (i:=(i:Int)) (h.ext z)).mono ?_;rintro _ W _ ⟨⟨b,m,rfl,B⟩,O⟩;refine (gQ B.1).mono ?_;rintro _ X _ ⟨⟨q,rfl,P⟩,Q⟩;rw[bg];refine L _ _ ⟨(z.trans O).trans Q,?_⟩;congr 1;refine decide_eq_decide.2 ?_;rw[P];exact EC B Ω (by rw[u6];exact J)
 .rintro H aa I ⟨a,e⟩;refine cp Ω ⟨a,?_⟩;unfold tJ;congr 1;symm;rw[List.any_eq_false];intro x J;rw[<-E,p9] at e;simp[e x J]
end
theorem QI {p G:x1} {L:List kB} {Q:x1->x3->Prop} (H:∀w',Ext w w'->Q (.bool true) w') (S:aF .u8 w p pl) (U:∀b∈pl,0<=b/\b<256) (V:Seen ee w [G] L) (W:∀x∈L,(lZ x).ok) (X:ej w) (Y:Laid w):
  am x7 yR [p,G] w Q:=by
 refine az func4 ?_;refine EV S U X Y ?_ ?_
 .intro g w' J;rw[bG,X9,bQ,db dz.u];exact H _ J
 intro f ae gT aq Z aK aL af aa ab ac;rw[bG,Y6,a1];refine EW ⟨aa,_,Z,aK,ab,ac⟩ V W ?_;rintro I ⟨ag,s,aN,aQ,j,aR⟩;generalize cQ f=n at*;obtain⟨e,aS,K,_⟩:=j.ok;obtain⟨ah,_⟩:=j.live;have ai:=e.vars;have aT:=e.eg;have aU:=e.hv.2.1;obtain⟨szv,aX,aY,aZ,a2,a6,M,aj,_,ak,_⟩:=j.look;obtain⟨A,R,t,z,N,_⟩:=j.e3;rw[aM a8.p 1 M rfl,aW an.u aj];refine jZ.range n.sizes.length (λi _ q B=>Ext I B/\q= .bool ((s.vars.take i).any λx=>decide (aB x=[]))) Ω ⟨Ext.refl _,rfl⟩ ?_ ?_
 rotate_left
 .rintro t4 _ B ao ⟨m,rfl⟩;refine cp Ω ?_;refine (QH (z.ext m) K).mono ?_;rintro _ a7 _ ⟨ap,rfl⟩;rw[<-ai,p9,M2 fa.u];unfold tJ;rw[beq_self_eq_true];exact H _ ((ag.trans m).trans ap)
 rintro i t4 _ B ao hi ⟨m,rfl⟩ au;obtain⟨ad,x,J⟩:=QA e K hi;refine bH Ω ?_;refine gO (λ_ q w'=>Ext I w'/\q= .bool ((s.vars.take (i+1)).any λx=>decide (aB x=[]))) (λ_ q w' av=>by rw[aP];exact au _ _ _ av) λaA C=>?_;refine (QB (z.ext m) (N.ext m) ad).mono ?_;rintro _ ba _ ⟨aw,rfl⟩;have E:=m.trans aw;rw[fO,fP,fQ];refine (QC (z.ext E) (N.ext E) ad).mono ?_;rintro _ bb _ ⟨ax,rfl⟩;have O:=E.trans ax;rw[fO,fP,fQ];refine (j.ext O).look.load λdY ay=>?_;refine (Qg ay e J).mono ?_;rintro _ bc _ ⟨aC,rfl⟩;rw[<-Qz e J,bo,bp];have P:=O.trans aC;refine (j.ext P).look.load λbd aD=>?_;refine (QE aD e ah J).mono ?_;rintro _ aE _ ⟨aG,rfl⟩;rw[bo,bp];have y:=P.trans aG;have be:=Qc (i:=(i:Int)) e;refine aV (λr w'=>r= .bool false/\aE=w') ?_ λbf aH=>?_
 .rintro _ _ ⟨rfl,rfl⟩;have aI:((s.vars.take (i+1)).any λx=>decide (aB x=[]))=(((s.vars.take i).any λx=>decide (aB x=[]))||decide (aB x=[])):=by
   rw[u9,J,o9,List.any_append];simp
  rw[aI] at C;rw[a1,ce];refine⟨λh=>C _ _ _ ⟨y,by rw[h,Bool.true_or]⟩,λh=>?_⟩;rw[aM a8.p 3 (M.ext y) rfl];refine hM (α:=Λ) (a:=aB x) (i:=i) rfl rfl c5.u an.i Ψ (bI ak y) (by rw[x8,J];rfl) λbh aJ=>?_;rw[aW an.u (dc aJ),bg];refine C _ _ _ ⟨y,?_⟩;rw[h,Bool.false_or];congr 1;exact decide_eq_decide.2 ⟨λh=>j5 Ω,λh=>by rw[h];rfl⟩
 rw[bm,al];refine⟨λh=>absurd rfl h,λ_=>?_⟩;rw[bm,al];refine⟨λh=>absurd rfl h,λ_=>?_⟩;rw[bm,al];refine⟨λh=>absurd rfl h,λ_=>?_⟩;rw[bm,al];refine⟨λh=>absurd rfl h,λ_=>?_⟩;rw[bm,al];refine⟨λh=>absurd rfl h,λ_=>?_⟩;rw[bm,al];refine⟨λh=>absurd rfl h,λ_=>?_⟩;rw[aO];exact aH _ _ ⟨by congr 1;exact decide_eq_false Ω,rfl⟩
theorem QJ {p a:x1} {L:List kB} (e:aF .u8 w p pl) (f:∀b∈pl,0<=b/\b<256) (h:Seen ee w [a] L) (j:∀x∈L,(lZ x).ok) (m:ej w) (q:Laid w):
  am x7 yR [p,a] w λv w'=>v= .bool true/\Ext w w':=QI (λw' J=>⟨rfl,J⟩) e f h j m q
end Go.Proofs.YtmgflbkdggdhoaaGreatDoor
