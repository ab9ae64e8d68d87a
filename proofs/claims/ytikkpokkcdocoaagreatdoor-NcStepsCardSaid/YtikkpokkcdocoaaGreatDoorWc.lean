/- own texts, made small by a tool (wip/ holds them as they were written): no statement of the seat. -/
import Derived.Test.YtikkpokkcdocoaaGreatDoorWb
set_option linter.defProp false
set_option linter.unusedVariables false
set_option linter.unusedSimpArgs false
set_option linter.unnecessarySimpa false
open Array renaming getElem?_eq_some_iff→j5,getElem?_toList→R3
open Bool renaming not_true→X3,not_false→W3,eq_iff_iff→V7,or_eq_false_iff→U7
open Decidable renaming not_not→X4
open Go renaming Value→x3,World→x4,TypeId→r9,IntKind→n9,Builtin→Z5,Program→V1,FuncId→Q2
open Go.Addr renaming add_mid→T7
open Go.Builtin renaming append_→Z3,len_→W9
open Go.Instr renaming loadAt→u5,fieldAt→u6,storeAt→o9,indexAt→j9,extract→Y1,buildSlice→Y8,sliceAt→U1
open Go.IntKind renaming i64→X9
open Go.Proofs.Tryz renaming prog→x8
open Go.Value renaming int→V8
open Int renaming toNat_natCast→r8
open List renaming getElem?_eq_some_iff→x5,mem_of_getElem?→x6,getElem?_eq_getElem→x7,getElem?_map→v8,getD_eq_getElem?_getD→u4,length_map→u7,take_add_one→u9,length_append→o4,replicate→o5,length_take→o7,take_length→o8,mem_map→l9,mem_append→j0,take_of_length_le→j4,mem_singleton→j6,eq_nil_of_length_eq_zero→c9,getElem?_set_self→b8,length_cons→Z2,map_append→Z4,length_set→Z9,getElem?_take_of_lt→Y0,getElem?_eq_none→Y2,getElem?_append_left→Y3,getElem?_set_ne→Y4,getElem?_append_right→Y5,append_assoc→Y6,ext_getElem?→Y9,getElem?_set→X1,mem_iff_getElem?→X5,drop_eq_getElem_cons→W0,range→W5,flatMap_cons→W6,mem_or_eq_of_mem_set→W7,length_eq_one_iff→V2,append_nil→V3,pairwise_iff_getElem→V9,mem_of_mem_take→U6,map_set→U8,map_cons→T0,length_singleton→T1,set_append_right→S1,getElem_mem→S4,getElem?_drop→S5,mem_filter→S7,map_map→R6,length_filter_le→Q0,length→Q4
open Nat renaming le_refl→o6,le_trans→Y7,mul_le_mul_right→X0,zero_add→X6,zero_le→X8,mul_one→U4,add_mul→U5,sub_self→T2,lt_of_lt_of_le→T8,add_assoc→R7,add_sub_cancel_left→Q1,eq_zero_or_pos→Q5
open Option renaming toList_some→l7,some→b9,isNone_some→Z6,map_some→Z7,map_eq_some_iff→X2,getD_some→V5,map→U2
open Option.some renaming inj→Z0,injEq→X7
open Prod.mk renaming injEq→S3
set_option maxHeartbeats 16000000
open Option renaming some→σ,none→ν
variable{c k y:Int}{a ag cs l scope sizes t:Λ}{B N ab ad gs j n r:Nat}{w w' w0:x4}{e:r9}{ba bv sv v:x3}{S:Nat->Prop}{K:x3->x4->Prop}
namespace Go.Proofs.YtikkpokkcdocoaaGreatDoor
open Go Go.Vc Go.RowKit Go.Proofs Go.Proofs.Tryz
set_option maxRecDepth 100000
def lk(x:cv)(k:Int)(i:Nat)(t:Λ):Int:=match(x.lines.take i).find? (λp=>decide (p.1=t))with
 |some p=>min p.2 k
 |none=>min x.other k
def B9(x:cv)(k:Int)(t:Λ):lk x k 0 t=min x.other k:=by simp[lk]
def Ca(x:cv)(k:Int)(t:Λ):lk x k x.lines.length t=jQ x k t:=by
 unfold lk jQ;rw[o8];cases x.lines.find? (λp=>decide (p.1=t))<;>rfl
def Cb{x:cv}{i:Nat}{p:Λ×Int}(y:(x.lines.map (·.1)).Nodup)(hi:x.lines[i]?=σ p)(t:Λ):lk x k (i+1) t=if t=p.1 then min p.2 k else lk x k i t:=by
 unfold lk;rw[u9,hi,l7,List.find?_append];by_cases a:t=p.1
 .subst a;have z:(x.lines.take i).find? (λq=>decide (q.1=p.1))=ν:=by
   rw[List.find?_eq_none];intro q e he;have he:q.1=p.1:=by simpa using he
   obtain⟨j,f⟩:=X5.1 e;have h:j<i:=by have:=(x5.1 f).1;rw[o7]at this;omega
   rw[Y0 h]at f;have r:=x5.1 f;have s:=x5.1 hi;have w:=V9.1 y j i (by rw[u7];exact r.1) (by rw[u7];exact s.1) h;rw[List.getElem_map,List.getElem_map,r.2,s.2]at w;exact w he
  rw[z,if_pos rfl];simp
 .rw[if_neg a];have:[p].find? (λq=>decide (q.1=t))=ν:=by
   rw[List.find?_eq_none];intro q e he;rw[j6.1 e]at he;exact a (of_decide_eq_true he).symm
  rw[this,Option.or_none]
def pr{v:Int}(h:v∈l):l[l.idxOf v]?=σ v:=by
 have:=List.idxOf_lt_length_iff.2 h;rw[x7 this,List.getElem_idxOf this]
def qH{i:Nat}{v:Int}(j:l.Nodup)(h:l[i]?=σ v):l.idxOf v=i:=by
 have hm:=x6 h;have h1:=pr hm;have a:=x5.1 h1;have e:=x5.1 h;rcases Nat.lt_trichotomy (l.idxOf v) i with f|he|f
 .exact absurd (a.2.trans e.2.symm) (V9.1 j _ _ a.1 e.1 f)
 .exact he
 .exact absurd (e.2.trans a.2.symm) (V9.1 j _ _ e.1 a.1 f)
def fZ(scope a:Λ):Λ:=a.map λv=>((scope.idxOf v:Nat):Int)
def sZ{f:Λ}(w:scope.Nodup)(a:f.Perm scope):Good (fZ scope f) scope.length:=by
 have r:f.Nodup:=a.nodup_iff.2 w;refine⟨by simp[fZ,a.length_eq],λi p h=>?_⟩;unfold fZ at h;rw[v8]at h;obtain⟨v,s,rfl⟩:=X2.1 h;have hm:v∈scope:=a.mem_iff.1 (x6 s);have z:=List.idxOf_lt_length_iff.2 hm;refine⟨⟨Ω,Ω⟩,λj A q=>?_⟩;unfold fZ at q;rw[v8]at q;obtain⟨u,hu,he⟩:=X2.1 q;have x:u∈scope:=a.mem_iff.1 (x6 hu);have e:scope.idxOf u=scope.idxOf v:=Ω
 have h1:=pr x;rw[e,pr hm]at h1;have y:v=u:=Z0 h1;subst y;have B:=qH r hu;have C:=qH r s;omega
def Cc{v:Int}(e:a[j]?=σ v):(fZ scope a)[j]?=σ ((scope.idxOf v:Nat):Int):=by
 unfold fZ;rw[v8,e];rfl
def LP(p:scope.Nodup)(f:a.Perm scope):eu (bI sizes scope) (fZ scope a)=bI sizes a:=by
 refine Y9 λj=>?_;cases e:a[j]? with
 |none=>
  have h:=List.getElem?_eq_none_iff.1 e;rw[Y2 (by rw[sw];simp[fZ];exact h),Y2 (by simp[bI];exact h)]
 |some v=>
  have hm:v∈scope:=f.mem_iff.1 (x6 e);have q:=sZ p f;rw[AT q (by simp[bI]) (Cc e),r8];unfold bI;rw[v8,v8,pr hm,e]
def Cd(q:scope.Nodup)(e:a.Perm scope)(r:t.length=scope.length):ma (fZ scope a) t=pe scope a t:=by
 have s:=sZ q e;refine(AS s r (by simp[pe]) λj p f=>?_).symm;unfold fZ at f;rw[v8]at f;obtain⟨v,h,rfl⟩:=X2.1 f;have hm:v∈scope:=e.mem_iff.1 (x6 h);have w:a.Nodup:=e.nodup_iff.2 q;have x:=(x5.1 h).1;have y:=e.length_eq;unfold pe;rw[r8,v8,pr hm,Z7,qH w h,u4,x7 (show j<t.length by omega)];rfl
def LQ{f:cb}{x:cv}(h:fd N f)(z:x∈f.funs)(H:cs.length=(aN x.sizes).toNat)(A:∀t,dj x.sizes t->bh x.sizes cs t=jQ x f.k t):
  eu x.sizes (fZ x.scope (bo x.scope))=bI f.sizes (bo x.scope)/\nU x.sizes cs (fZ x.scope (bo x.scope))=(h5 f.sizes f.k x).2:=by
 obtain⟨h1,I,J⟩:=h.funs x z;have p:=sW h1 h.sizes.2.1;have a:=sV p h1.scope.1;have r:x.sizes=bI f.sizes x.scope:=h1.sizes;have j:eu x.sizes (fZ x.scope (bo x.scope))=bI f.sizes (bo x.scope):=by rw[r];exact LP h1.scope.1 a
 have B:=sZ h1.scope.1 a;have C:∀v∈bo x.scope,0<=v/\v<f.sizes.length:=λv hm=>h1.scope.2 v ((qF p).1 hm);have e:dE (bI f.sizes (bo x.scope)):=me h.sizes.2.2 C;refine⟨j,?_⟩;have E:x.sizes.length=x.scope.length:=by rw[r];simp[bI]
 unfold nU;rw[j];show _=(bc (bI f.sizes (bo x.scope))).map λt=>jQ x f.k (pe x.scope (bo x.scope) t);refine Y9 λq=>?_;rw[v8,v8];have K:=l8 e;by_cases w:q<(aN (bI f.sizes (bo x.scope))).toNat
 .have F:=o1 e (i:=q) Ω;rw[F,List.getElem?_range w];simp only[Z7];have G:=vF e w;have y:(cN (bI f.sizes (bo x.scope)) q).length=x.scope.length:=by rw[jp];simp[bI,a.length_eq]
  rw[Cd h1.scope.1 a y,A];have:=Kf (s:=x.sizes) B E (by rw[j];exact G);rw[Cd h1.scope.1 a y]at this;exact this
 .rw[Y2 Θ,Y2 (by rw[io e];omega)];rfl
def LR{e:Λ}(I:dE ag)(h1:a.length=(aN ag).toNat)(f:e.length=(aN ag).toNat):
  ee k a e=(W5 (aN ag).toNat).map λ(q:Nat)=>min (bh ag a (cN ag q)+bh ag e (cN ag q)) k:=by
 conv=>lhs;rw[su I h1,su I f]
 unfold ee;rw[List.zipWith_map,List.zipWith_self]
def LS{de m:Nat}{d:List (x3×x3)}{KS:List (Λ)}(f:ac w de iL [.map (σ m)])(hm:c7 w m d)(j:d.map (·.1)=KS.map ek)(e:pn KS)(z:KS.length<65536):
  ai x8 Io [.func (.func lS) #[] #[Γ de],BC] w λv w'=>Ext w w'/\∃g M,M.Perm KS/\sQ gA M 0 M.length/\nX w' g v M:=by
 refine az func243 ?_;refine(KX f hm j (λks h=>(e ks h).1) Ω).mono ?_;rintro v J _ ⟨p,g,L,cw,a,q⟩;refine(La q (e.perm a) (by rw[a.length_eq];omega)).mono ?_;rintro _ U _ ⟨s,M,x,hu,y⟩;exact⟨p.then s (λr A h=>by have:=cw r h;omega),g,M,x.trans a,hu,y⟩
theorem Ce{α β:Type}{f:α->β}:∀{M:List β}{D:List α},M.Perm (D.map f)->∃L:List α,L.Perm D/\L.map f=M
 |[],D,h=>by
  have h1:=h.length_eq;simp at h1;have:D=[]:=c9 h1.symm;exact⟨[],by rw[this],rfl⟩
 |x::M,D,h=>by
  have a:x∈D.map f:=h.mem_iff.1 (.head _);obtain⟨p,e,rfl⟩:=l9.1 a;obtain⟨A,B,rfl⟩:=List.append_of_mem e;have j:(f p::M).Perm (f p::(A++B).map f):=h.trans (by
   rw[Z4,T0,Z4];exact List.perm_middle)
  obtain⟨L,q,r⟩:=Ce (List.Perm.cons_inv j);exact⟨p::L,(q.cons p).trans List.perm_middle.symm,by rw[T0,r]⟩
def Cf{g:Nat}{ks:Λ}{cs:List x3}(q:ks.length=6)(r:n<=6)(e:cs=ints .i8 ks)(f:ac w g cF cs):aG .i8 w (.slice (σ (if 6=0 then⟨g,0,ν⟩else⟨g,0+0*1,ν⟩)) (n-0) (6-0)) (ks.take n):=by
 subst e;rw[if_neg Ω];unfold aG;have h:(ks.take n).length=n:=by rw[o7];omega
 rw[h];refine⟨Θ,g,0,_,6,rfl,Ω,by simp[maxLen],λ_=>rfl,λj v a=>?_⟩;have p:=(x5.1 a).1;refine f.range j v ?_;rw[ints,List.map_take,Y0 (by simp[ints]at p;omega)]at a;exact a
def LU(D L:Told):Prop:=L.Perm D/\sQ (λp=>gA (pad p.1)) L 0 L.length
def LV{g m:Nat}{o:Int}{D:Told}(h:eL w g m ag k o D)(ba:D.length<65536):ai x8 HS [Γ g] w λv w'=>Ext w w'/\∃L:Told,LU D L/\bl (eo w.heap.size) bu w' [v] L:=by
 obtain⟨⟨sv,gs,Y,hm⟩,bc,I,bS,ay⟩:=id h;have bd:pn (D.map λp=>pad p.1):=λks hk=>by
  obtain⟨p,be,rfl⟩:=l9.1 hk;exact qv I (ay p be).1
 refine az func192 ?_;rw[dc eU.u];simp only[Z6,aY];rw[aP fF.p 3 Y rfl];refine KV.mono ?_;rintro _ J _ ⟨Z,de,rfl,bT,bf⟩;refine(LS (KS:=D.map λp=>pad p.1) bf (bc.ext Z) (by rw[R6,R6];rfl) bd (by simpa using ba)).mono ?_;rintro bV U _ ⟨aA,bW,M,bg,bh,aB⟩;obtain⟨L,ab,O⟩:=Ce bg;have aC:M.length=L.length:=by rw[<-O];simp
 have bX:=ab.length_eq;have s1:=Z.size;have bY:=aA.size;have aD:=Z.trans aA;rw[e4 jm.u aB];refine b4.range L.length (λi out e=>Ext U e/\bl (eo U.heap.size) bu e [out] (L.take i)) Ω ⟨Ext.refl _,by rw[List.take_zero];exact fU⟩ ?_ ?_
 rotate_left
 .rintro out e bi ⟨C,P⟩;rw[aC];simp only[aR,aj];refine⟨λh=>Ω,λ_=>⟨aD.trans C,L,⟨ab,λp q x y h1 bj bZ bk bn=>?_⟩,?_⟩⟩
  .exact bh p q (pad x.1) (pad y.1) h1 bj Ω (by rw[<-O,v8,bk];rfl) (by rw[<-O,v8,bn];rfl)
  .rw[o8]at P;exact al.mono P (λr _ h=>by have h:U.heap.size<=r:=h;show w.heap.size<=r;omega) λ_ _ h=>h
 rintro i out e bi hi ⟨C,P⟩ bo;obtain⟨⟨t,c⟩,ad⟩:∃p,L[i]?=σ p:=⟨_,x7 hi⟩;have af:(t,c)∈D:=ab.mem_iff.1 (x6 ad);have am:=(ay _ af).1;have aE:=vO I am;have ao:t.length=ag.length:=aE.1;have aG:=I.1;have bq:ld (pad t):=qv I am;have Q:=bq.1;have br:M[i]?=σ (pad t):=by rw[<-O,v8,ad];rfl
 rw[aC];simp only[aR,aj];refine⟨λ_=>?_,λh=>Ω⟩;rw[K9 rfl (aB.ext C) br];refine bw cF.i λak b0 b2 aI aJ=>?_;refine qu Q rfl aJ λbt bx b3 S=>?_;have b5:=aI.size;have b6:=aJ.lt;have bz:Ext e bt:=aI.put bx Ω;intro aK H _ _;have ap:=bz.trans H;have aq:=(aD.trans C).trans ap;have aM:=h.ext aq;obtain⟨⟨b7,b8,b9,ca⟩,cb,_⟩:=id aM;have cc:=ap.size;rw[aP fF.p 3 (Y.ext aq) rfl,nW Q (S.ext H).range];refine KN aM am (λf bA=>?_) (λbB=>absurd rfl (bB _ af));have bC:f=c:=by
  have:=Bq h.nodup bA af rfl;exact congrArg Prod.snd this
 subst bC;simp only[Bool.false_eq_true,if_false];rw[dq (cs:=#[.slice ν 0 0,Δ f]) Ψ];refine bw gn.i λE cd ce av aN=>?_;refine⟨.inl av,?_⟩;refine b1 (vs:=[.slice ν 0 0,Δ f]) gn.i rfl rfl (by intro v aQ;simp at aQ;rcases aQ with rfl|rfl<;>rfl) aN λG bD cg aT=>?_;have ch:=av.size;have ci:=aN.lt;have V:Ext aK G:=av.put bD Ω;have aV:=ap.trans V;have aW:=aq.trans V;rw[aP fF.p 0 (Y.ext aW) rfl,aU an.u (hm.ls.ext aW)];rw[sa cF.u fT.i (l:=0) (h:=ag.length) (m:=6) jI (nG _ _ rfl) fG Ω Ω Ω];have aX:=Cf Q aG rfl ((S.ext H).ext V);rw[<-ao,Bl]at aX;rw[<-ao,aU kZ.u aX];have bF:=(S.ext H).ext V;have cj:ak<aK.heap.size:=(S.ext H).lt;have ck:E<G.heap.size:=aT.lt;refine bU.range t.length (λj s=>ae (λr=>r=E\/G.heap.size<=r) G s/\∃aO gt,G.heap.size<=gt/\ac s E gn [aO,Δ f]/\au .i64 ah s gt aO (t.take j)) Ω ⟨ae.refl _ _,_,G.heap.size,o6 _,aT,au.nil _ _ _ _⟩ ?_ ?_
 .rintro j s bG bH ⟨z,aO,gt,bI,W,X⟩ bJ;obtain⟨x,aw⟩:=aF (l:=t) bH;have cl:=aE.2 x (x6 aw);have cm:Ext e s:=aV.then z (λr aZ he=>by rcases he with rfl|he<;>omega);have a1:=Cf Q aG rfl (bF.aa z (λhe=>by rcases he with he|he<;>omega));rw[<-ao,Bl]at a1;simp only[aR,aj];refine⟨λ_=>?_,λh=>Ω⟩;rw[bb kZ.u fT.i Ψ a1 aw,aH gn.p 0 W rfl,fp fT.u ah.u,wrap_i64 Ω Ω];refine et an.u ah.i rfl λa ga bK cn B bL=>?_;refine jo an.u ah.i rfl (X.ext B) bL.ls Θ Θ λa2 a6 bM cp K N=>?_;have bN:=z.size;have bO:=B.size;have cq:=N.size;rw[aS gn.p rfl];refine bp (g:=E) (o:=0) an.i K.ls.cells.1 K.ls.cells.2 ((W.ext B).aa N (λhe=>by have he:E=gt:=he;omega)) Ξ λcr a7 ct bP=>?_;simp only[aL];refine bJ _ ⟨((z.trans (B.aa _)).trans (N.mono λr _ he=>.inr (by have he:r=gt:=he;omega))).trans (a7.mono λr _ he=>.inl he),a2,a6,Ω,bP,?_⟩;rw[u9,aw];exact K.aa a7 (λ_ he=>by have he:a6=E:=he;omega)
 .rintro s bG ⟨z,aO,gt,bI,W,X⟩;simp only[aR,aj];refine⟨λh=>Ω,λ_=>?_⟩;rw[o8]at X;rw[bE gn.p gn.i rfl W.range];have bN:=z.size;have bQ:Ext e s:=aV.then z (λr aZ he=>by rcases he with rfl|he<;>omega);have a8:bl (eo e.heap.size) bu s [aO,Δ f] (t,f):=⟨[aO],[Δ f],eo e.heap.size,bu,rfl,λ_ h=>h,λ_ h=>h.elim,λ_ _ _ h=>h,al.mono (k2 X) (λr _ h=>by subst h;show e.heap.size<=r;omega) (λ_ _ h=>h),rfl⟩;refine im (α:=Λ×Int) (a:=(t,f)) (cs:=[aO,Δ f]) (A:=eo e.heap.size) (R:=bu) oP.u gn.i Φ rfl a8 λu bK B _ bR=>?_;have ax:=bQ.trans B;have bO:=ax.size;refine mH (α:=Λ×Int) (a:=(t,f)) (A:=eo e.heap.size) oP.u gn.i rfl (bm (l0 P) ax) bR (bm a8 B) (λr _ h h'=>?_) Θ Θ λa2 bM K N=>?_
  .rcases h' with h'|h'
   .have:=h.2;have:e.heap.size<=r:=h';omega
   .exact h'
  simp only[aL];have cu:=C.size;refine bo _ _ ⟨(C.trans ax).then N (λr aZ h=>by have h:=h.1;have h:U.heap.size<=r:=h;omega),?_⟩;rw[u9,ad];refine al.mono K (λr _ h=>?_) λ_ _ h=>h;show U.heap.size<=r;rcases h with h|h|h
  .exact h.1
  .have h:e.heap.size<=r:=h;omega
  .omega
def Cg{s:Λ}(I:dE s):t∈bc s↔dj s t:=by
 refine⟨λh=>?_,λ⟨n,h⟩=>x6 (mM I h)⟩;obtain⟨i,hi⟩:=X5.1 h;exact⟨_,iS I hi⟩
theorem Ch:∀{s:Λ},dE s->(bc s).Pairwise λa b=>gA a<gA b
 |[],_=>by simp[bc]
 |k::s,I=>by
  have z:=Ch I.tail;have f:∀t∈bc s,0<=gA t/\gA t<32 ^ s.length:=λt p=>by
   have A:=(Cg I.tail).1 p;have h1:=nT.1 A;have r:=sP t λx q=>by
    obtain⟨i,hi,rfl⟩:=List.getElem_of_mem q;obtain⟨a,e⟩:=aF (l:=s) (i:=i) Ω;have C:=h1.2 i a _ e (x7 hi);have E:=(I.tail a (x6 e)).2;omega
   rw[h1.1];exact r
  have j:∀t∈bc s,t.length=s.length:=λt p=>sd p;show((W5 k.toNat).flatMap λ(v:Nat)=>(bc s).map λt=>(v:Int)::t).Pairwise _;rw[List.pairwise_flatMap];refine⟨λv _=>?_,?_⟩
  .rw[List.pairwise_map];refine z.imp_of_mem λ{a b}e f h=>?_;simp only[gA,j a e,j b f];omega
  .refine List.pairwise_lt_range.imp λ{u v}F x q y B=>?_;obtain⟨a,e,rfl⟩:=l9.1 q;obtain⟨b,w,rfl⟩:=l9.1 B;simp only[gA,j a e,j b w];have h1:=f a e;have r:=f b w;have:=Int.mul_le_mul_of_nonneg_right (show(u:Int)+1<=v by omega) (show(0:Int)<=32 ^ s.length by have:=vS s.length;omega);rw[Int.add_mul,Int.one_mul]at this;omega
def LW{D L:Told}{o:Int}(f:(D.map (·.1)).Nodup)(a:L.Perm D)(t:Λ):iw L o t=iw D o t:=by
 have j:(L.map (·.1)).Nodup:=(a.map (·.1)).nodup_iff.2 f;by_cases he:∃p∈D,p.1=t
 .obtain⟨p,h,rfl⟩:=he;rw[qw f (c:=p.2) h,qw j (c:=p.2) (a.mem_iff.2 h)]
 .rw[qx λp h1 e=>he ⟨p,h1,e⟩,qx λp h1 e=>he ⟨p,a.mem_iff.1 h1,e⟩]
def iA(ag:Λ)(f:Λ->Int)(cs:Λ):Prop:=cs.length=(aN ag).toNat/\∀t,dj ag t->bh ag cs t=f t
def iA.eq{f:Λ->Int}(I:dE ag)(h1:iA ag f cs)(e:iA ag f a):cs=a:=J5 I h1.1 e.1 λt h=>by rw[h1.2 t h,e.2 t h]
def iA.congr{f a:Λ->Int}(h:iA ag f cs)(he:∀t,dj ag t->f t=a t):iA ag a cs:=⟨h.1,λt e=>by rw[h.2 t e,he t e]⟩
def wg(I:dE ag)(h:dj ag t):∃n:Nat,cj ag t 0=σ (n:Int)/\n<(aN ag).toNat:=by
 obtain⟨n,a⟩:=h;have:=k4 I a;simp only[Int.zero_mul,Int.zero_add,Int.one_mul]at this;exact⟨n.toNat,by rw[a];congr 1;omega,Ω⟩
def LX(I:dE ag)(c:Int):iA ag (λ_=>c) (o5 (aN ag).toNat c):=⟨Ξ,λt a=>by
 obtain⟨n,e,f⟩:=wg I a;unfold bh;rw[e];simp only[r8,u4,List.getElem?_replicate,f,if_true,V5]⟩
def iA.put{f:Λ->Int}(I:dE ag)(h:iA ag f cs)(q:dj ag t)(r:cA c k):iA ag (λs=>if s=t then c else f s) (se ag t k c cs):=by
 obtain⟨n,e,w⟩:=wg I q;unfold se;rw[e];simp only[r,if_true,r8];refine⟨by simp[h.1],λs p=>?_⟩;obtain⟨m,hm,x⟩:=wg I p;have a:=h.2 s p;unfold bh at a ⊢;rw[hm]at a ⊢;simp only[r8]at a ⊢;by_cases he:s=t
 .subst he;rw[e]at hm;have j:n=m:=by have:=Z0 hm;omega
  subst j;rw[if_pos rfl,u4,b8 (by rw[h.1];exact w)];rfl
 .rw[if_neg he,u4,Y4 (λj=>he ?_),<-u4,a];subst j;rw[<-AM I hm,<-AM I e]
def LY(w:x4)(ag:Λ)(k o:Int)(D:Told)(v:x3)(w':x4):Prop:=Ext w w'/\(4096<aN ag->v= .tuple #[.pointer ν,Δ 5])/\
 (aN ag<=4096->∃g a sv cs,v= .tuple #[Γ g,Δ 0]/\w.heap.size<=g/\(w.heap.size<=a/\∀r,leads sv r->w.heap.size<=r)/\dd w' g a sv ag k cs/\iA ag (iw D o) cs)
def Ci{g m:Nat}{o:Int}{D:Told}(h:eL w g m ag k o D)(ab:D.length<65536):ai x8 G5 [Γ g] w (LY w ag k o D):=by
 obtain⟨⟨sv,gs,ac,hm⟩,a2,I,ad,af⟩:=id h;have R:=h.nodup;refine az func125 ?_;rw[dc eU.u];simp only[Z6,aY];intro J a _ _;have K:=ac.ext a;rw[aP fF.p 0 K rfl,aP fF.p 1 K rfl,aP fF.p 2 K rfl];refine(vm (hm.ls.ext a)).mono ?_;rintro _ U _ ⟨z,_,ah,_,ak⟩;by_cases C:aN ag<=4096
 rotate_left
 .have:=ah I Ω;subst this;rw[bx,bz];simp only[bN,aj];exact⟨λ_=>⟨a.trans z,λ_=>rfl,λh=>absurd h C⟩,λh=>by simp at h⟩
 obtain⟨gt,f,aO,rfl,a6,a7,am,S⟩:=ak I C ad;rw[bx,bz];simp only[bN,aj];refine⟨λh=>absurd rfl h,λ_=>?_⟩;have s1:=a.size;have a8:=z.size;refine(LV ((h.ext a).ext z) ab).mono ?_;rintro cw an _ ⟨M,L,E,V⟩;have ba:=M.size;have bb:f<U.heap.size:=by
  obtain⟨⟨aZ,bc,_,_,ao⟩,⟨_,_,bd⟩,ap,aq⟩:=id S;have be:=l8 ap.2;obtain⟨_,⟨_,au⟩|⟨cap,cs,_,av,_⟩⟩:=ao
  .rw[aq]at au;omega
  .exact av.lt
 have bf:=E.1.length_eq;rw[gq oP.u V];refine bU.range L.length (λi q=>ae (λr=>r=f) an q/\∃cs,dd q gt f aO ag k cs/\iA ag (iw (L.take i) o) cs) Ω ⟨ae.refl _ _,_,S.ext M,by rw[List.take_zero];exact LX I.2 o⟩ ?_ ?_
 .rintro i q aw hi ⟨G,cs,N,H⟩ ax;simp only[aR,aj];refine⟨λ_=>?_,λh=>Ω⟩;obtain⟨⟨t,c⟩,y⟩:∃p,L[i]?=σ p:=⟨_,x7 hi⟩;have ay:(t,c)∈D:=E.1.mem_iff.1 (x6 y);obtain⟨aA,aB,aC⟩:=af _ ay;have aD:=al.aa V G λr W aE he=>by
   have he:r=f:=he;rcases aE with h|h
   .have h:U.heap.size<=r:=h;omega
   .exact h
  refine l2 (α:=Λ×Int) gn.p rfl oP.u gn.i aD y λus aF=>?_;obtain⟨bg,aG,A,B,rfl,bh,bi,_,h1,aI⟩:=aF;have aJ:aG=[Δ c]:=aI;subst aJ;obtain⟨aK,rfl,_⟩:=id h1;have hu:=dJ h1;refine bw gn.i λbj bk bl aM X=>?_;refine b1 (vs:=[aK,Δ c]) gn.i rfl rfl (by intro v Y;simp at Y;rcases Y with rfl|rfl;exact hu.cells.2;rfl) X λaQ aS bm Z=>?_;have bn:=X.lt;have O:Ext q aQ:=aM.put aS Ω;rw[aH gn.p 0 Z rfl,aH gn.p 1 Z rfl];refine(Jh (N.ext O) (hu.ext O)).mono ?_;rintro _ bo _ ⟨rfl,aT,aU⟩;simp only[aL];refine ax _ ⟨(G.trans (O.aa _)).trans aT,_,aU,(H.put I.2 aA aB).congr λs bp=>?_⟩;rw[u9,y];have P:(L.map (·.1)).Nodup:=(E.1.map (·.1)).nodup_iff.2 R;have aV:∀p∈L.take i,p.1≠t:=λp C he=>by
   obtain⟨j,Q⟩:=X5.1 C;have aW:j<i:=by have:=(x5.1 Q).1;rw[o7]at this;omega
   rw[Y0 aW]at Q;have:=kw P (i:=j) (j:=i) (x:=t) (by rw[v8,Q,Z7,he]) (by rw[v8,y];rfl);omega
  have aX:((L.take i).map (·.1)).Nodup:=by rw[List.map_take];exact(List.take_sublist _ _).nodup P
  have a1:((L.take i++[(t,c)]).map (·.1)).Nodup:=by
   have e:L.take i++[(t,c)]=L.take (i+1):=by rw[u9,y];rfl
   rw[e,List.map_take];exact(List.take_sublist _ _).nodup P
  exact((Br aV aC).cost aX a1 s).symm
 .rintro q aw ⟨G,cs,N,H⟩;simp only[aR,aj];refine⟨λh=>Ω,λ_=>?_⟩;rw[o8]at H;exact⟨((a.trans z).trans M).put G Ω,λh=>Ω,λ_=>⟨gt,f,aO,cs,rfl,Ω,⟨Ω,λr W=>by have:=am r W;omega⟩,N,H.congr λs _=>LW R E.1 s⟩⟩
def LZ{s:Λ}(I:dE s)(a:cs.length=(aN s).toNat){i:Nat}(h:(bc s)[i]?=σ t):cs[i]?=σ (bh s cs t):=by
 have hi:=(x5.1 h).1;rw[io I,<-a]at hi;unfold bh;rw[iS I h];simp only[r8,u4,x7 hi,V5]
def s3{k:n9}{g:Nat}(h:au k e w g v l)(f:0<l.length):g<w.heap.size:=by
 obtain⟨_,⟨_,h1⟩|⟨_,_,_,a,_⟩⟩:=h
 .omega
 .exact a.lt
def fK(w:x4)(g m:Nat)(sv:x3)(gs:Nat)(ag:Λ)(k o:Int)(D:Told):Prop:=
 ac w g fF [sv,Δ k,Δ o,.map (σ m)]/\au .i64 ah w gs sv ag/\c7 w m (D.map jR)/\ca ag/\cA o k/\∀p∈D,dj ag p.1/\cA p.2 k/\p.2≠o
def fK.is{g m:Nat}{o:Int}{D:Told}(h:fK w g m sv gs ag k o D):eL w g m ag k o D:=⟨⟨sv,gs,h.1,h.2.1⟩,h.2.2⟩
def eL.at{g m:Nat}{o:Int}{D:Told}(h:eL w g m ag k o D):∃sv gs,fK w g m sv gs ag k o D:=by
 obtain⟨⟨sv,gs,h1,a⟩,e⟩:=h;exact⟨sv,gs,h1,a,e⟩
def fK.ext{g m:Nat}{o:Int}{D:Told}(h:fK w g m sv gs ag k o D)(a:Ext w w'):fK w' g m sv gs ag k o D:=by
 obtain⟨h1,e,f,j⟩:=h;exact⟨h1.ext a,e.ext a,f.ext a,j⟩
def fK.aa{g m:Nat}{o:Int}{D:Told}(h:fK w g m sv gs ag k o D)(a:ae S w w')(e:¬S g)(hm:¬S m)(I:∀r,leads sv r->¬S r):fK w' g m sv gs ag k o D:=by
 obtain⟨h1,f,j,p⟩:=h;exact⟨h1.aa a e,br f a I,j.aa a hm,p⟩
def s4{g m:Nat}{cs:List x3}{d:List (x3×x3)}(h:ac w g e cs)(hm:c7 w m d):g≠m:=by
 rintro rfl;obtain⟨a,c,h1,_⟩:=hm;unfold ac at h;rw[h1]at h;cases h
def Cj{g m:Nat}{k:n9}{d:List (x3×x3)}(h:au k e w g v l)(hm:c7 w m d)(f:leads v r):r≠m:=by
 obtain⟨rfl,_⟩:=bR h f;obtain⟨_,⟨rfl,_⟩|⟨_,_,_,j,_⟩⟩:=h
 .obtain⟨a,n,c,h,_⟩:=f;cases h
 .exact s4 j hm
def fK.put{g m:Nat}{o:Int}{D D':Told}(h:fK w g m sv gs ag k o D)(a:ae (λr=>r=m) w w')(h':eL w' g m ag k o D'):fK w' g m sv gs ag k o D':=
 ⟨h.1.aa a (λhe=>s4 h.1 h.2.2.1 he),br h.2.1 a (λr e he=>Cj h.2.1 h.2.2.1 e he),h'.2⟩
def fK.qo{g m:Nat}{o:Int}{D:Told}(h:fK w g m sv gs ag k o D):g<w.heap.size/\m<w.heap.size/\∀r,leads sv r->r<w.heap.size:=
 ⟨h.1.lt,h.2.2.1.lt,λr a=>by obtain⟨rfl,e⟩:=bR h.2.1 a;exact e⟩
instance (s t:Λ):Decidable (dj s t):=decidable_of_iff ((cj s t 0).isSome=true) ⟨λh=>by
 cases a:cj s t 0 with
 |none=>rw[a]at h;cases h
 |some n=>exact⟨n,a⟩,λ⟨n,h⟩=>by rw[h];rfl⟩
def s5(h:aG .i64 w sv l)(G:l.length<=1000000):ai x8 y9 [sv] w λv w'=>Ext w w'/\∃g,w.heap.size<=g/\au .i64 ah w' g v l:=by
 refine az func116 ?_;rw[aU aq.u h];refine jL (k:=.i64) an.u ah.i Ω Ω λg J H j p=>?_;have y:au .i64 ah J g (.slice (σ ⟨g,0,ν⟩) l.length l.length) (o5 l.length 0):=by
  have:=bX.full (k:=1) (n:=l.length) p Ξ (by simp[maxLen];omega);exact au.of this
 rw[aU aq.u (h.ext j)];have I:=p.lt;refine bU.range l.length (λi U=>ae (λr=>r=g) J U/\au .i64 ah U g (.slice (σ ⟨g,0,ν⟩) l.length l.length) (l.take i++o5 (l.length-i) 0)) h.le ⟨ae.refl _ _,by simpa using y⟩ ?_ ?_
 rotate_left
 .rintro U z ⟨f,a⟩;rw[aR,aj];rw[o8,T2,List.replicate_zero,V3]at a;exact⟨λh=>Ω,λ_=>⟨j.put f Ω,g,Ω,a⟩⟩
 rintro i U z hi ⟨f,a⟩ A;obtain⟨x,q⟩:=aF (l:=l) hi;have B:Ext w U:=j.put f Ω;refine bA Ω ?_;rw[bb aq.u am.i Ψ (h.ext B) q];rw[h0 rfl an.u ah.i a Θ];refine h2 ah.i a Θ λK C L s=>?_;rw[aL];refine A _ ⟨f.trans C,?_⟩;have e:(l.take i++o5 (l.length-i) 0).set i x=l.take (i+1)++o5 (l.length-(i+1)) 0:=by
  have E:(l.take i).length=i:=by rw[o7];omega
  rw[S1 _ _ Ω,E,T2,show l.length-i=(l.length-(i+1))+1 by omega,List.replicate_succ,List.set_cons_zero,u9,q,l7,Y6];rfl
 rw[e]at s;exact s
def L0(w:x4)(l:Λ)(k o:Int)(v:x3)(w':x4):Prop:=
 Ext w w'/\(¬ca l->v= .tuple #[.pointer ν,Δ 1])/\(ca l->¬cA o k->v= .tuple #[.pointer ν,Δ 3])/\
  (ca l->cA o k->∃g m sv gs,v= .tuple #[Γ g,Δ 0]/\w.heap.size<=g/\w.heap.size<=m/\(∀r,leads sv r->w.heap.size<=r)/\fK w' g m sv gs l k o [])
def L1{o:Int}(h:aG .i64 w sv l):ai x8 oL [sv,Δ k,Δ o] w (L0 w l k o):=by
 refine az func171 ?_;refine aW (λv J=>Ext w J/\∃c,v= .bool c/\(c=true↔¬ca l)) ?_ ?_
 .rintro _ J ⟨e,c,rfl,f⟩;rw[cg];refine⟨λx=>⟨e,λ_=>rfl,λh=>absurd h (f.1 x),λh=>absurd h (f.1 x)⟩,λA=>?_⟩;have I:ca l:=Classical.byContradiction λh=>by have:=f.2 h;rw[A]at this;cases this
  have K:=I.1;refine jN.mono ?_;rintro _ U _ ⟨rfl,a⟩;by_cases hi:cA o k
  rotate_left
  .simp only[hi,decide_false,bJ,W3,bQ];exact⟨e.trans a,λh=>absurd I h,λ_ _=>rfl,λ_ h=>absurd h hi⟩
  simp only[hi,decide_true,bJ,X3,aY];refine(k6 ((h.ext e).ext a) Ω).mono ?_;rintro aO L _ ⟨y,B,M,hm⟩;have N:=hm.ls.cells;refine sJ λm O P j C=>?_;rw[dq (cs:=#[aO,Δ k,Δ o,.map (σ m)]) (by obtain⟨_,_,_,_,_,rfl,_⟩:=hm.ls;kernel_rfl)];refine bk λg Q R q E=>?_;have s1:=e.size;have S:=a.size;have V:=y.size;have W:=j.size;exact⟨((((e.trans a).trans y).trans j).trans q),λh=>absurd I h,λ_ h=>absurd hi h,λ_ _=>⟨g,m,aO,B,rfl,Ω,Ω,λr G=>by have:=(bR hm G).1;omega,E,(hm.ext j).ext q,C.ext q,I,hi,λp H=>by cases H⟩⟩
 .intro ax z;rw[aU an.u h];simp only[bS,aj];refine⟨λX=>z _ _ ⟨Ext.refl _,true,rfl,λ_ I=>by have:=I.1;omega,λ_=>rfl⟩,λY=>?_⟩;refine(Bm h).mono ?_;rintro _ U _ ⟨rfl,a⟩;refine z _ _ ⟨a,_,rfl,?_⟩;rw[decide_eq_true_eq];exact⟨λs I=>s I.2,λs I=>s ⟨Ω,I⟩⟩
structure Ck where
 ag:Λ
 k:Int
 o:Int
 D:Told
instance RY:al Ck where
 n:=1
 rep _ _ R w cs a:=∃g m sv gs,cs=[Γ g]/\fK w g m sv gs a.ag a.k a.o a.D/\R g/\R m/\∀r,leads sv r->R r
 len:=by rintro _ _ _ _ _ _ ⟨_,_,_,_,rfl,_⟩;rfl
 one:=by rintro _ _ _ _ _ _ ⟨_,_,_,_,rfl,_⟩ u hu;simp at hu;subst hu;rfl
 aa:=by
  rintro _ _ R T w w' _ a ⟨g,m,sv,gs,rfl,h1,f,h,j⟩ z p;obtain⟨q,s,x⟩:=h1.qo;exact⟨g,m,sv,gs,rfl,h1.aa z (p g q (.inr f)) (p m s (.inr h)) λr e=>p r (x r e) (.inr (j r e)),f,h,j⟩
 mono:=by
  rintro _ _ _ R R' w _ a ⟨g,m,sv,gs,rfl,h1,f,h,j⟩ _ y;obtain⟨q,s,x⟩:=h1.qo;exact⟨g,m,sv,gs,rfl,h1,y g q f,y m s h,λr e=>y r (x r e) (j r e)⟩
 hS:=by
  rintro _ _ R w _ a ⟨g,m,sv,gs,rfl,h1,f,h,j⟩;exact⟨g,m,sv,gs,rfl,h1,.inr f,.inr h,λr e=>.inr (j r e)⟩
abbrev hf:Type:=Rd (Λ)×Ck
def qI(k:Int)(x:cv)(f:hf):Prop:=f.1=x.scope/\f.2.ag=x.sizes/\f.2.k=k/\f.2.o=min x.other k/\f.2.D.length<=x.lines.length/\∀t,iw f.2.D f.2.o t=jQ x k t
def L2{m:Bool}{S R:af}{cs:List x3}{x:cv}(h:al.rep m S R w cs (hd x)):∃aM szv cc,cs=[aM,szv,Δ x.other,cc]/\al.rep (α:=Λ) false bu R w [aM] x.scope/\al.rep (α:=Λ) false bu R w [szv] x.sizes/\al.rep (α:=List (Λ×Int)) false bu R w [cc] x.lines:=by
 obtain⟨j,d1,r,s,rfl,_,_,_,h1,p,d2,z,A,rfl,_,_,_,a,q,d3,B,C,rfl,_,_,_,f,e⟩:=h;have h1:al.rep (α:=Λ) false bu R w j x.scope:=h1;have a:al.rep (α:=Λ) false bu R w p x.sizes:=a;have f:q=[Δ x.other]:=f;have e:al.rep (α:=List (Λ×Int)) false bu R w d3 x.lines:=e;obtain⟨u,rfl⟩:=V2.1 (show j.length=1 from al.len h1);obtain⟨v,rfl⟩:=V2.1 (show p.length=1 from al.len a);obtain⟨y,rfl⟩:=V2.1 (show d3.length=1 from al.len e);subst f;exact⟨u,v,y,rfl,h1,a,e⟩
def L3{m:Bool}{S R:af}{cs:List x3}{p:Λ×Int}(h:al.rep m S R w cs p):∃aO,cs=[aO,Δ p.2]/\aG .i64 w aO p.1:=by
 obtain⟨e,d1,f,j,rfl,_,_,_,h1,a⟩:=h;obtain⟨u,rfl⟩:=V2.1 (show e.length=1 from al.len h1);have a:d1=[Δ p.2]:=a;subst a;exact⟨u,rfl,dJ h1⟩
structure s6(k:Int)(x:cv):Prop where
 k:right k
 sizes:ca x.sizes
 other:0<=x.other
 lines:mN x.sizes x.lines
 len:x.lines.length<=60000
 scope:x.scope.length<=100001
def c8{k:n9}(h:aG k w v l):∃a n c,v= .slice a n c:=by
 obtain⟨_,b,o,base,cap,rfl,_⟩:=h;exact⟨_,_,_,rfl⟩
def L4{am:Nat}{aN aQ aR:x3}{K:Int}{R:af}{cs:List x3}{x:cv}(an:ac w am cD [aN,Δ K,aQ,aR])(aS:Seen R w cs (hd x))(aT:s6 K x):
  ai x8 uW [Γ am,.agg cs.toArray] w λv w'=>Ext w w'/\∃bB,∃f:hf,v= .agg bB.toArray/\bB.length=2/\Seen (eo w.heap.size) w' bB f/\qI K x f:=by
 obtain⟨aM,szv,cc,rfl,h1,ao,Q⟩:=L2 aS;obtain⟨H,S,bo,ap,bp,bq⟩:=aT;have bt:x.sizes.length<=6:=S.1;refine az func117 ?_;refine bk λak J bC aq q=>?_;have q:ac J ak b7 [aM,szv,Δ x.other,cc]:=by
  obtain⟨_,_,_,rfl⟩:=md h1;obtain⟨_,_,_,rfl⟩:=md ao;obtain⟨_,_,_,rfl⟩:=md Q;exact q
 refine bw cE.i λy U bD V I=>?_;have I:ac U y cE [.slice ν 0 0,.pointer ν]:=I;intro bE L _ _;have W:=(aq.trans V).trans L;have X:=V.trans L;have bF:=aq.size;have bG:=V.size;have z3:=L.size;have bH:=I.lt;have av:=an.ext W;rw[aH b7.p 1 (q.ext X) rfl,aP cD.p 1 av rfl,
  aH b7.p 2 (q.ext X) rfl,aP cD.p 1 av rfl,lW]
 refine(s5 ((dJ ao).ext W) Ω).mono ?_;rintro bI bJ _ ⟨z,bK,bL,aU⟩;refine⟨.inl z,?_⟩;have z4:=z.size;have aV:cA (min x.other K) K:=⟨H,by have:=H.1;omega,Ω⟩;refine(L1 aU.ls).mono ?_;rintro _ aW _ ⟨M,_,_,aX⟩;obtain⟨ad,m,sv,gs,rfl,bM,bN,aw,aY⟩:=aX S aV;rw[bx,bz];have z5:=M.size;have Y:=(W.trans z).trans M;have ax:=(X.trans z).trans M;rw[aH b7.p 3 (q.ext ax) rfl];have ay:=bm Q Y;rw[gq iK.u ay];refine bU.range x.lines.length (λi a=>ae (λr=>r=m) aW a/\∃D,D.length<=i/\fK a ad m sv gs x.sizes K (min x.other K) D/\∀t,iw D (min x.other K) t=lk x K i t) (mG ay) ⟨ae.refl _ _,[],o6 _,aY,λt=>by rw[B9];rfl⟩ ?_ ?_
 .rintro i a aZ hi ⟨e,D,aA,A,Z⟩ a1;obtain⟨p,ab⟩:=aF (l:=x.lines) hi;have aB:=ap.2 p (x6 ab);have B:Ext w a:=Y.put e Ω;have a2:=e.size;have a6:al.rep (α:=List (Λ×Int)) false bu R a [cc] x.lines:=bm Q B;refine bA Ω ?_;refine l2 eh.p rfl iK.u eh.i a6 ab λbO a7=>?_;obtain⟨aO,rfl,aC⟩:=L3 a7;refine bw eh.i λbP bQ bS aD a8=>?_;have bT:=aD.size;refine b1 (vs:=[aO,Δ p.2]) eh.i rfl rfl (by intro v C;simp at C;rcases C with rfl|rfl<;>first|exact aC.cells.2|rfl) a8 λba bb bV aE=>?_;have bc:Ext a ba:=aD.put bb Ω;intro bW ag _ _;have s:=bc.trans ag;have z9:=s.size;rw[aH eh.p 0 (aE.ext ag) rfl,aH eh.p 1 (aE.ext ag) rfl,aP cD.p 1 ((an.ext B).ext s) rfl,lW];have bX:=vO S aB.1;refine(s5 (aC.ext s) Ω).mono ?_;rintro bY bZ _ ⟨E,b0,b3,bd⟩;refine⟨.inl E,?_⟩;have b4:=E.size;refine(Bu (c:=min p.2 K) ((A.ext s).ext E).is bd.ls).mono ?_;rintro _ b5 _ ⟨_,be⟩;have bf:cA (min p.2 K) K:=⟨H,by have:=H.1;omega,Ω⟩;obtain⟨rfl,aG,D',aI,aJ⟩:=be ⟨aB.1,bf⟩;rw[aL];refine a1 _ ⟨(e.trans ((s.trans E).aa _)).trans aG,D',by have:=aI.2;omega,fK.put ((A.ext s).ext E) aG aJ,λt=>?_⟩;rw[Cb ap.1 ab,aI.cost A.is.nodup aJ.nodup];by_cases N:t=p.1
  .rw[if_pos N,if_pos N]
  .rw[if_neg N,if_neg N,Z]
 .rintro a aZ ⟨e,D,aA,A,Z⟩;have B:Ext w a:=Y.put e Ω;have bg:Ext J a:=ax.put e Ω;have a2:=e.size;refine b2 Ω ?_;rw[aH b7.p 0 (q.ext bg) rfl];refine(s5 ((dJ h1).ext B) Ω).mono ?_;rintro O b6 _ ⟨P,bh,b8,G⟩;have z12:=P.size;rw[dq (cs:=#[O,Γ ad]) (by obtain⟨_,_,_,rfl⟩:=c8 G.ls;kernel_rfl)];have bi:Ext U a:=((L.trans z).trans M).put e Ω;refine b1 (vs:=[O,Γ ad]) cE.i rfl rfl (by intro v C;simp at C;rcases C with rfl|rfl<;>first|exact G.ls.cells.2|rfl) ((I.ext bi).ext P) λaK aj b9 bj=>?_;rw[fb cE.p cE.i rfl bj.range];have bl:fK aK ad m sv gs x.sizes K (min x.other K) D:=(A.ext P).aa aj (λhe=>by have he:ad=y:=he;omega) (λhe=>by have he:m=y:=he;omega) (λr j he=>by have he:r=y:=he;have:=aw r j;omega);have bn:au .i64 ah aK bh O x.scope:=br G aj λr j he=>by have he:r=y:=he;have:=(bR G j).1;omega
  refine⟨(B.trans P).put aj Ω,_,(x.scope,⟨x.sizes,K,min x.other K,D⟩),rfl,rfl,?_,rfl,rfl,rfl,rfl,aA,λt=>?_⟩
  .exact⟨[O],[Γ ad],bu,bu,rfl,λ_ h=>h,λ_ h=>h,λ_ _ h _=>h,qE bn λr j=>by have:=(bR G j).1;show w.heap.size<=r;omega,
    ⟨ad,m,sv,gs,rfl,bl,by show w.heap.size<=ad;omega,by show w.heap.size<=m;omega,λr j=>by have:=aw r j;show w.heap.size<=r;omega⟩⟩
  .rw[Z,Ca]
def L5{S R:af}{cs:List x3}{f:hf}(h:al.rep false S R w cs f):al.rep (α:=hf) true bu R w cs f:=by
 obtain⟨c,d,A,B,rfl,h1,j,_,a,e⟩:=h;exact⟨c,d,bu,bu,rfl,λ_ h=>h,λ_ h=>h,λ_ _ h _=>h,a,e⟩
def s7(k:Int)(a:List cv)(e:List hf):Prop:=e.length=a.length/\∀(i:Nat)x f,a[i]?=σ x->e[i]?=σ f->qI k x f
def L6{e:Nat}{m:Bool}{S R:af}{W szv an:x3}{K:Int}{q:List cv}{aD:x4->Prop}(aE:ac w e cD [W,Δ K,szv,.slice ν 0 0])(aW:al.rep m S R w [an] (show List hI from q.map hd))(aX:∀r,S r\/R r->r≠e)(aY:∀x∈q,s6 K x)(bR:q.length<=256)(aZ:∀w' z,∀s:List hf,ae (λr=>r=e) w w'->ac w' e cD [W,Δ K,szv,z]->Seen (λr=>w.heap.size<=r) w' [z] s->s7 K q s->aD w'):
  bU (Δ 0) w λao E a1=>
   V x8 (aJ .lss ah false false ao (Δ (q.length:Int))) E λa2=>
   Split a2 (V x8 (j9 jl an ao) E λa6=>
   V x8 (u5 b7 a6) E λa7=>
   aB x8 (Instr.alloc b7 true (.tuple #[])) E λx a8=>
   aB x8 (o9 b7 x a7) a8 λ(_:Unit)ba=>
   ef ba λC=>
   V x8 (bP (Γ e)) C λG=>
   V x8 (u6 cD G 3) C λH=>
   V x8 (u5 dO H) C λap=>
   V x8 (u5 b7 x) C λbb=>
   ai x8 uW [(Γ e),bb] C λbc I=>
    (Ext C I\/bZ x8 (u5 dO H) ap I/\bZ x8 (u6 cD G 3) H I/\bZ x8 (bP (Γ e)) G I/\True)/\
   aB x8 (Y8 dO 1 #[(0,bc)]) I λbd L=>
    (Ext C L\/bZ x8 (u5 dO H) ap L/\bZ x8 (u6 cD G 3) H L/\bZ x8 (bP (Γ e)) G L/\True)/\
    aB x8 (Z3 #[dO,dO] dO #[ap,bd]) L λbe aq=>
     V x8 (bP (Γ e)) aq λbf=>
     V x8 (u6 cD bf 3) aq λbg=>
     aB x8 (o9 dO bg be) aq λ(_:Unit)aG=>
     V x8 (aJ .add ah false true ao (Δ 1)) aG λbh=>
   a1 bh aG) (aD E):=by
 have bS:=aE.lt;have bT:(q.map hd).length=q.length:=Ξ
 refine bU.range q.length (λi J=>ae (λr=>r=e) w J/\∃z,∃s:List hf,∃A R':af,ac J e cD [W,Δ K,szv,z]/\bl A R' J [z] s/\(∀r,A r->w.heap.size<=r/\r<J.heap.size)/\(∀r,R' r->w.heap.size<=r/\¬A r/\r<J.heap.size)/\s7 K (q.take i) s) Ω
  ⟨ae.refl _ _,_,[],bu,bu,aE,fU,λ_ h=>h.elim,λ_ h=>h.elim,rfl,λi x f h=>by simp at h⟩ ?_ ?_
 rotate_left
 .rintro J bi ⟨M,z,s,A,R',N,au,B,O,X⟩;rw[o8]at X;rw[aR,aj];refine⟨λh=>Ω,λ_=>aZ J z s M N (nK au λr _ h=>?_) X⟩;exact h.elim (λh=>(B r h).1) λh=>(O r h).1
 rintro i J bi hi ⟨M,z,s,A,R',N,au,B,O,aH,X⟩ bj;obtain⟨x,av⟩:=aF (l:=q) hi;have bk:=aY x (x6 av);have bV:=M.size;rw[o7]at aH;have bn:al.rep m S R J [an] (show List hI from q.map hd):=al.aa aW M λr _ h he=>aX r h he;refine bA Ω ?_;refine l2 (α:=hI) (a:=hd x) b7.p rfl jl.u b7.i bn (by show(q.map hd)[i]?=_;rw[v8,av];rfl) λcs aw=>?_;have aI:cs.length=4:=al.len aw;have bo:Seen (λr=>S r\/R r) J cs (hd x):=nK aw λr _ h=>h;refine bw b7.i λak U bX aK bq=>?_;have b0:=aK.size;refine b1 (vs:=cs) b7.i aI rfl (al.one aw) bq λbr bt b2 bx=>?_;have bz:Ext J br:=aK.put bt Ω;intro Y aM _ _;have P:=bz.trans aM;have z4:=P.size;rw[aP cD.p 3 (N.ext P) rfl,bE b7.p b7.i aI (bx.ext aM).range];refine(L4 (N.ext P) (bm bo P) bk).mono ?_;rintro _ Z _ ⟨ab,bB,f,rfl,b3,aN,bC⟩;have z5:=ab.size;refine⟨.inl ab,?_⟩;have aO:=L5 aN;have bD:=P.trans ab;refine im (α:=hf) (a:=f) (cs:=bB) (A:=bu) (R:=eo Y.heap.size) dO.u cE.i Φ (by
  obtain⟨c,d,b4,b5,he,_,_,_,ad,bF⟩:=aN;have ad:al.rep (α:=Λ) false bu _ Z c f.1:=ad;obtain⟨u,rfl⟩:=V2.1 (show c.length=1 from al.len ad);obtain⟨b6,bW,b8,b9,rfl,_⟩:=bF;obtain⟨_,_,_,rfl⟩:=md ad;cases he;rfl) aO λu ax ag _ hu=>?_
 have ca:=ag.size;refine⟨.inl (ab.trans ag),?_⟩;have ay:=bD.trans ag;have bG:bl A (λr=>R' r\/(Y.heap.size<=r/\r<Z.heap.size)) ax [z] s:=bm (al.mono au (λ_ _ h=>h) λ_ _ h=>.inl h) ay;have bH:bl bu (λr=>R' r\/(Y.heap.size<=r/\r<Z.heap.size)) ax bB f:=bm (al.mono aO (λ_ _ h=>h) λr y h=>.inr ⟨h,y⟩) ag;refine mH (α:=hf) (a:=f) (A:=bu) dO.u cE.i rfl bG hu bH (λr _ aQ h=>?_) Ω Ω λaT bI az aA=>?_
 .rcases h with h|h|h
  .exact h
  .exact (O r h).2.1 aQ
  .have:=(B r aQ).2;omega
 have cb:=aA.size;rw[bY,aS cD.p rfl];have bJ:=(N.ext ay).aa aA (λhe=>by have:=(B _ he).1;omega);refine bp (g:=e) (o:=3) dO.i (kp az) (hY az) bJ Ξ λbK aU cc aC=>?_;have aC:ac bK e cD [W,Δ K,szv,aT]:=aC;rw[aL];have bL:=l0 az;refine bj _ ⟨(hD (M.trans (ay.aa _)) aA λr y he=>by have:=(B _ he).1;omega).trans aU,aT,s++[f],λr=>((A r\/bu r\/ax.heap.size<=r)/\r<bI.heap.size),λr=>R' r\/(Y.heap.size<=r/\r<Z.heap.size),aC,al.aa bL aU λr _ h he=>?_,λr y=>?_,λr y=>?_,?_,λj bM bN am Q=>?_⟩
 .have he:r=e:=he;rcases h with h|h|h
  .rcases h.1 with h1|h1|h1
   .have:=(B _ h1).1;omega
   .exact h1
   .omega
  .have:=(O r h).1;omega
  .omega
 .have cd:=y.2;rcases y.1 with h1|h1|h1
  .have:=(B _ h1).1;omega
  .exact h1.elim
  .omega
 .rcases y with y|y
  .have aV:=O r y;refine⟨aV.1,λh=>?_,Ω⟩;rcases h.1 with h1|h1|h1
   .exact aV.2.1 h1
   .exact h1
   .omega
  .refine⟨Ω,λh=>?_,Ω⟩;rcases h.1 with h1|h1|h1
   .have:=(B _ h1).2;omega
   .exact h1
   .omega
 .rw[o4,o7,aH];simp;omega
 .have bO:=(x5.1 Q).1;rw[o4,T1]at bO;rw[Y0 Ω]at am;by_cases bQ:j<s.length
  .rw[Y3 bQ]at Q;exact X j bM bN (by rw[Y0 Ω];exact am) Q
  .rw[Y5 Ω,show j-s.length=0 by omega]at Q;rw[show j=i by omega,av]at am;cases Q;cases am;exact bC
def ll(w:x4)(h:Nat)(f:cb):Prop:=∃szv a gz,∃e:List hf,ac w h cD [bT f.name,Δ f.k,szv,a]/\au .i64 ah w gz szv f.sizes/\Seen fc w [a] e/\s7 f.k f.funs e
def ll.ext{e:Nat}{f:cb}(h:ll w e f)(a:Ext w w'):ll w' e f:=by
 obtain⟨szv,j,gz,p,h1,q,r,s⟩:=h;exact⟨szv,j,gz,p,h1.ext a,q.ext a,bm r a,s⟩
def Cl(w:x4)(res:Option cb)(v:x3)(w':x4):Prop:=Ext w w'/\match res with
 |none=>∃n e:Int,v= .tuple #[.pointer ν,Δ n,Δ e]/\e≠0
 |some f=>∃a,∃n:Int,v= .tuple #[Γ a,Δ n,Δ 0]/\ll w' a f
structure L7(clean:Bool)(so:Option aE)(name:Λ)(k:Int)(sizes:Λ)(acc:List hI)(res:Option cb):Prop where
 pi:∀s,so=σ s->s.toks=[]->clean=true->s.big=false->∃fs,acc=fs.map hd/\res=σ ⟨name,k,sizes,fs⟩/\(∀x∈fs,s6 k x)/\fs.length<=256/\sizes.length<=1000000
 bad:res≠ν->∃s,so=σ s/\s.toks=[]/\clean=true/\s.big=false
def L8{g:Nat}{A B S R:af}{m clean:Bool}{so:Option aE}{name:Λ}{acc:List hI}{res:Option cb}{szv aq p:x3}{pl:Λ}{Q:x3->x4->Prop}(aC:hc w g gs A B clean so)(N:L7 clean so name k sizes acc res)(bn:aG .i64 w szv sizes)(bo:∀r,leads szv r->r≠g/\r≠gs)(bp:al.rep m S R w [aq] acc)(a2:∀r,S r\/R r->r≠g/\r≠gs/\r<w.heap.size)(cY:so=ν->True)(cZ:g<w.heap.size)(c0:gs<w.heap.size)(bq:ae (λr=>w0.heap.size<=r) w0 w)(c1:w0.heap.size<=g)(c2:w0.heap.size<=gs)(br:aG .u8 w0 p pl)(Z:∀v w',Cl w0 res v w'->Q v w'):
  ct (α:=x4->Prop) (λ(j:x4)=>
  V x8 (bP (Γ g)) j λbt=>
  V x8 (u6 ci bt 1) j λbu=>
  V x8 (u6 e1 bu 0) j λbw=>
  V x8 (u5 jF bw) j λbx=>
  V x8 (aJ .neq jF false true bx (Δ 0)) j λbz=>
  Split bz (ef j λG=>
   V x8 (bP (Γ g)) G λbA=>
   V x8 (u6 ci bA 1) G λbB=>
   V x8 (u6 e1 bB 2) G λbC=>
   V x8 (u5 ah bC) G λbD=>
   V x8 (bP (Γ g)) G λbE=>
   V x8 (u6 ci bE 1) G λbF=>
   V x8 (u6 e1 bF 0) G λbG=>
   V x8 (u5 jF bG) G λbH=>
   Q (.tuple #[(.pointer ν),bD,bH]) G)
   (V x8 (bP (Γ g)) j λbI=>
   V x8 (u6 ci bI 1) j λbJ=>
   V x8 (u6 e1 bJ 1) j λbK=>
   V x8 (u5 jF bK) j λbL=>
   V x8 (aJ .neq jF false true bL (Δ 0)) j λbM=>
   Split bM (ef j λH=>
   V x8 (bP (Γ g)) H λbO=>
   V x8 (u6 ci bO 1) H λbR=>
   V x8 (u6 e1 bR 3) H λbS=>
   V x8 (u5 ah bS) H λbV=>
   V x8 (bP (Γ g)) H λbW=>
   V x8 (u6 ci bW 1) H λbX=>
   V x8 (u6 e1 bX 1) H λb0=>
   V x8 (u5 jF b0) H λb1=>
   Q (.tuple #[(.pointer ν),bV,b1]) H)
   (ai x8 y9 [szv] j λb2 a6=>
  V x8 (Instr.build cD #[(0,bT name),(1,Δ k),(2,b2)]) a6 λb3=>
  aB x8 (Instr.box cD b3) a6 λO a7=>
  V x8 (W9 #[jl] ah #[aq]) a7 λb4=>
  bU (Δ 0) a7 λaF P b5=>
   V x8 (aJ .lss ah false false aF b4) P λb6=>
   Split b6 (V x8 (j9 jl aq aF) P λb8=>
   V x8 (u5 b7 b8) P λb9=>
   aB x8 (Instr.alloc b7 true (.tuple #[])) P λx ca=>
   aB x8 (o9 b7 x b9) ca λ(_:Unit)cc=>
   ef cc λM=>
   V x8 (bP O) M λab=>
   V x8 (u6 cD ab 3) M λad=>
   V x8 (u5 dO ad) M λaH=>
   V x8 (u5 b7 x) M λcd=>
   ai x8 uW [O,cd] M λce ag=>
    (Ext M ag\/bZ x8 (u5 dO ad) aH ag/\bZ x8 (u6 cD ab 3) ad ag/\bZ x8 (bP O) ab ag/\True)/\
   aB x8 (Y8 dO 1 #[(0,ce)]) ag λcg ak=>
    (Ext M ak\/bZ x8 (u5 dO ad) aH ak/\bZ x8 (u6 cD ab 3) ad ak/\bZ x8 (bP O) ab ak/\True)/\
    aB x8 (Z3 #[dO,dO] dO #[aH,cg]) ak λch aI=>
     V x8 (bP O) aI λcj=>
     V x8 (u6 cD cj 3) aI λck=>
     aB x8 (o9 dO ck ch) aI λ(_:Unit)a8=>
     V x8 (aJ .add ah false true aF (Δ 1)) a8 λcl=>
   b5 cl a8)
    (V x8 (W9 #[cM] ah #[p]) P λcm=>
  Q (.tuple #[O,cm,(Δ 0)]) P)))) λau=>
 ai x8 kW [(Γ g)] w λcn am=>
 Split cn (V x8 (bP (Γ g)) am λcp=>
  V x8 (u6 ci cp 0) am λcq=>
  V x8 (u5 r3 cq) am λcr=>
  ai x8 uV [cr] am λaK L=>
  V x8 (Y1 aK 0) L λc3=>
  V x8 (Y1 aK 1) L λba=>
  V x8 (Y1 aK 2) L λaL=>
  V x8 (aJ .eql jF false true aL (Δ 0)) L λcu=>
  Split cu (ai x8 nz [(Γ g),(Δ 4),ba] L λc4 cw=>
  au cw)
  (V x8 (aJ .eql jF false true aL (Δ 11)) L λcz=>
  Split cz (ai x8 nz [(Γ g),aL,ba] L λc5 cA=>
   au cA)
   (au L)))
  (au am):=by
 refine dh (λj=>ae (λr=>r=g\/r=gs) w j/\∃(e big I K told:Int)(sv:x3),ac j g ci (fJ gs e big I K told sv)/\((e≠0/\res=ν)\/(e=0/\∃s,so=σ s/\s.toks=[]/\clean=true/\(s.big=true↔big≠0)))) ?_ ?_
 rotate_left
 .intro ax aM;refine(BU aC).mono ?_;rintro _ J _ ⟨rfl,an⟩;cases so with
  |none=>
   rw[show(ν:Option aE).isSome=false from rfl,aY];obtain⟨e,big,I,K,told,sv,y,aN⟩:=aC.ext an;refine aM _ ⟨an.aa _,e,big,I,K,told,sv,y,.inl ⟨aN,?_⟩⟩;cases E:res with
   |none=>rfl
   |some f=>obtain⟨s,h,_⟩:=N.bad (by rw[E];simp);cases h
  |some s=>
   rw[show(σ s:Option aE).isSome=true from rfl,bQ];have cB:di J g gs A B s clean:=aC.ext an;obtain⟨av,cC,cE,big,I,K,told,sv,y,aN,cF⟩:=id cB;rw[aP ci.p 0 y rfl];refine(qm cC).mono ?_;rintro v U _ ⟨W,X⟩;have cG:(s.toks≠[]\/clean=false)->res=ν:=λq=>by
    cases E:res with
    |none=>rfl
    |some f=>
     obtain⟨s',h,ao,bb,_⟩:=N.bad (by rw[E];simp);cases h;rcases q with q|q
     .exact absurd ao q
     .rw[q]at bb;cases bb
   have aw:∀z,ae (λr=>r=g) U z->eE z g gs A B->(s.toks≠[]\/clean=false)->ax z:=λz ap aw q=>by
    obtain⟨_,e,big,I,K,told,sv,l,cH,cI,_⟩:=aw;exact aM _ ⟨((an.aa _).trans (W.mono λr _ h=>.inr h)).trans (ap.mono λr _ h=>.inl h),e,big,I,K,told,sv,cH,.inl ⟨cI.1,cG q⟩⟩
   have aO:=y.aa W av.1;have bc:=al.aa cF W λr _ h ao=>by
    have ao:r=gs:=ao;subst ao;rcases h with h|h
    .exact av.2.2.1 h
    .exact h.1 (.inr (.inl rfl))
   have bd:s.shared.length<=100000:=by have:=cE.2.2;omega
   cases Y:s.toks with
   |cons t l=>
    rw[Y]at X;obtain⟨c6,n,rfl⟩:=X;rw[gY,gZ,ha,bf,aj];refine⟨λ_=>?_,λh=>absurd rfl h⟩;refine(sB (av.aa W) aO bc Ω bd).mono ?_;rintro _ z _ ⟨ap,aQ⟩;exact aw z ap aQ (.inl (by rw[Y];simp))
   |nil=>
    rw[Y]at X;obtain⟨n,rfl⟩:=X;rw[gY,gZ,ha,bf,aj];refine⟨λh=>by cases clean<;>simp at h,λ_=>?_⟩;rw[bf,aj];cases ay:clean with
    |true=>
     subst ay;refine⟨λh=>by simp at h,λ_=>aM _ ⟨(an.aa _).trans (W.mono λr _ h=>.inr h),0,big,I,K,told,sv,aO,.inr ⟨rfl,s,rfl,Y,rfl,aN.1⟩⟩⟩
    |false=>
     subst ay;refine⟨λ_=>?_,λh=>absurd rfl h⟩;refine(sB (av.aa W) aO bc Ξ bd).mono ?_;rintro _ z _ ⟨ap,aQ⟩;exact aw z ap aQ (.inr rfl)
 .rintro J ⟨az,e,big,I,K,told,sv,y,cJ⟩;have c7:=az.size;have aR:Ext w0 J:=(bq.ext λr E h=>Ω).then az (λr E h=>by rcases h with h|h<;>omega);rw[bY,aS ci.p rfl,aS e1.p rfl,aD Ψ (y.cell (o:=0+1+0) rfl),bN,aj];rcases cJ with⟨he,aT⟩|⟨rfl,s,rfl,Y,ay,be⟩
  .refine⟨λ_=>?_,λh=>absurd he h⟩;intro U C _ _;rw[bY,aS ci.p rfl,aS e1.p rfl,aD Ψ ((y.ext C).cell (o:=0+1+2) rfl),bY,aS ci.p rfl,aS e1.p rfl,aD Ψ ((y.ext C).cell (o:=0+1+0) rfl)];rw[aT]at Z;exact Z _ _ ⟨aR.trans C,I,e,rfl,he⟩
  .refine⟨λh=>absurd rfl h,λ_=>?_⟩;rw[bY,aS ci.p rfl,aS e1.p rfl,aD Ψ (y.cell (o:=0+1+1) rfl),bN,aj];refine⟨λq=>?_,λq=>?_⟩
   .have aT:res=ν:=by
     cases E:res with
     |none=>rfl
     |some f=>
      obtain⟨s',h,_,_,bg⟩:=N.bad (by rw[E];simp);cases h;rw[be.2 q]at bg;cases bg
    intro U C _ _;rw[bY,aS ci.p rfl,aS e1.p rfl,aD Ψ ((y.ext C).cell (o:=0+1+3) rfl),bY,aS ci.p rfl,aS e1.p rfl,aD Ψ ((y.ext C).cell (o:=0+1+1) rfl)];rw[aT]at Z;exact Z _ _ ⟨aR.trans C,K,big,rfl,q⟩
   .have cK:s.big=false:=by
     cases cL:s.big with
     |false=>rfl
     |true=>exact absurd (be.1 cL) q
    obtain⟨aV,rfl,rfl,cN,cO,cP⟩:=N.pi s rfl Y ay cK;have cQ:aG .i64 J szv sizes:=h3 bn az λr E a n c X N=>by
     have:=bo r ⟨a,n,c,X,N⟩;exact E.elim this.1 this.2
    refine(s5 cQ cP).mono ?_;rintro aW U _ ⟨C,gz,c9,aX⟩;have da:=C.size;rw[dq (cs:=#[bT name,Δ k,aW,.slice ν 0 0]) (by obtain⟨_,_,_,rfl⟩:=c8 aX.ls;kernel_rfl)];refine bk λaZ z db a1 aA=>?_;have aA:ac z aZ cD [bT name,Δ k,aW,.slice ν 0 0]:=by obtain⟨_,_,_,rfl⟩:=c8 aX.ls;exact aA
    have bh:al.rep m S R z [aq] (show List hI from aV.map hd):=bm (bm (al.aa bp az λr _ h he=>by have:=a2 r h;exact he.elim this.1 this.2.1) C) a1;have cR:(aV.map hd).length=aV.length:=Ξ
    rw[gq jl.u bh,cR];refine L6 aA bh (λr h=>by have:=a2 r h;omega) cN cO λbi cS cT cU cV cW cX=>?_;have dc:=aA.lt;have z3:=a1.size;have bj:Ext U bi:=a1.then cU (λr E h=>by have h:r=aZ:=h;omega);have bl:Ext w0 bi:=(aR.trans C).trans bj;rw[aU cM.u (br.ext bl)];exact Z _ _ ⟨bl,aZ,_,rfl,aW,cS,gz,cT,cV,aX.ext bj,iO cW,cX⟩
def Cm{α:Type}{f:List α->aE->Option (α×aE)}{acc:List α}{s:aE}:fv f (n+1) acc (σ s)=match f acc s with
  |none=>ν
  |some (a,s')=>fv f n (acc++[a]) (σ s'):=by
 show cO f (n+1) acc s=_;simp only[cO];cases f acc s<;>rfl
def L9{g:Nat}{A B:af}{s:Option aE}{clean:Bool}{most:Int}{O:x3->x4->Prop}(h:dk w g gs A B clean s)(ay:(N:Int)<=av)(P:∀szv w' l so gz,ae (bG g gs A) w w'->dk w' g gs A B clean so->au .i64 am w' gz szv l->w.heap.size<=gz->l.length<=100001->(∀q,fv (fV most) N [] s=σ q->so=σ q.2/\l=q.1)->(fv (fV most) N [] s=ν->so=ν)->O szv w'):
 b4 (.slice ν 0 0) (Δ 0) w λsizes i E k=>
  ct (α:=x3->x4->Prop) (λ(az:x3)(Q:x4)=>
   Split az (ai x8 ny [Γ g,(Δ 1),Δ most] Q λR x=>
  V x8 (Y1 R 0) x λS=>
  V x8 (Y1 R 1) x λaA=>
  V x8 (aJ .gtr am false true S (Δ 32)) x λaC=>
  ai x8 p0 [Γ g,aC,aA] x λbm aD=>
  aB x8 (Y8 aq 1 #[(0,S)]) aD λaF aG=>
  aB x8 (Z3 #[aq,aq] aq #[sizes,aF]) aG λaH W=>
  V x8 (aJ .add am false true i (Δ 1)) W λaI=>
  k aH aI W) (O sizes Q)) λax=>
  V x8 (aJ .lss am false false i (Δ (N:Int))) E λaK=>
  Split aK (ai x8 kW [Γ g] E λaM aN=>
  ax aM aN)
   (ax (.bool false) E):=by
 obtain⟨bn,X,bo,aO,aP⟩:=h.side;have ad:∀r,bG g gs A r->r<w.heap.size:=aO;unfold av at ay;generalize aQ:fv (fV most) N [] s=Y at P;refine⟨λout G J=>∃(i:Nat)(l:Λ)(so:Option aE)(gz:Nat),G=Δ (i:Int)/\i<=N/\ae (bG g gs A) w J/\au .i64 am J gz out l/\w.heap.size<=gz/\dk J g gs A B clean so/\Y=fv (fV most) (N-i) l so/\l.length<=100001/\∀st,so=σ st->l.length+st.toks.length<=100000,
  λ_ G _=>N-(b0 G).toNat,⟨0,[],s,w.heap.size,rfl,X8 _,ae.refl _ _,au.nil _ _ _ _,o6 _,h,aQ.symm,Ξ,λst aS=>?_⟩,?_⟩
 .subst aS;have:=h.words;simpa using this
 rintro out _ J ⟨i,l,so,gz,rfl,bp,H,Z,aT,ab,y,aU,ac⟩;refine aW (λv ag=>Ext J ag/\((v= .bool true/\i<N/\∃st,so=σ st)\/(v= .bool false/\(so=ν\/i=N)))) ?_ ?_
 rotate_left
 .intro ax I;rw[aR,aj];refine⟨λaV=>?_,λbq=>I _ _ ⟨Ext.refl _,.inr ⟨rfl,.inr Ω⟩⟩⟩;refine(po ab).mono ?_;rintro _ ag _ ⟨rfl,ah⟩;cases so with
  |none=>exact I _ _ ⟨ah,.inr ⟨rfl,.inl rfl⟩⟩
  |some st=>exact I _ _ ⟨ah,.inl ⟨rfl,Ω,st,rfl⟩⟩
 rintro _ U ⟨p,aX⟩;have ak:=Z.ext p;have al:=ab.ext p;rcases aX with⟨rfl,aV,st,rfl⟩|⟨rfl,aZ⟩
 rotate_left
 .rw[aY];have an:Y=so.map λst=>(l,st):=by
   rcases aZ with rfl|rfl
   .exact y
   .rw[T2]at y;rw[y];cases so<;>rfl
  refine P out U l so gz (H.trans (p.aa _)) al ak aT aU (λq f=>?_) λao=>?_
  .rw[an]at f;cases so with
   |none=>cases f
   |some st=>cases f;exact⟨rfl,rfl⟩
  .rw[an]at ao;cases so with
   |none=>rfl
   |some st=>cases ao
 rw[bQ];have ac:=ac st rfl;refine(mc (s:=σ st) al).mono ?_;rintro _ bt _ ⟨K,z,at_,rfl,a1,bu⟩;obtain⟨L,a2⟩:=K.of;rw[bx,bz,bS];refine(qC a2).mono ?_;rintro _ bw _ K;obtain⟨M,a6⟩:=K.of;refine et aq.u am.i rfl λa ga a8 bA C ba=>?_;have bB:=H.size;have bC:=p.size;have z3:=L.size;have z4:=M.size;have z5:=C.size;have ap:∀r,leads out r->¬bG g gs A r:=λr j bb=>by have:=ad r bb;have:=(bR Z j).1;omega
 have bc:=br (br ak L ap) M ap;refine jo aq.u am.i rfl (bc.ext C) ba.ls Θ Θ λbD be bf bE bg aw=>?_;rw[aL,wrap_i64 Ω Ω];have bh:ae (bG g gs A) w a8:=((((H.trans (p.aa _)).trans L).trans M).trans (C.aa _));have bi:ae (bG g gs A) w bf:=hD bh aw λr j he=>by have he:r=gz:=he;omega
 have bj:∀r,bG g gs A r->¬(λr=>r=gz) r:=λr j he=>by have:=ad r j;have he:r=gz:=he;omega
 have bk:∀r,cG g gs A B r->¬(λr=>r=gz) r:=λr j he=>by have:=aP r j.2;have he:r=gz:=he;omega
 refine⟨⟨i+1,l++[z],_,be,rfl,Ω,bi,bg,Ω,(a6.ext C).aa aw bj bk,?_,Θ,λbF bl=>?_⟩,by simp only[b0];omega⟩
 .rw[y,show N-i=(N-(i+1))+1 by omega,Cm];unfold fV;cases f:bd 1 most st with
  |none=>have e:a7 1 most (σ st)=ν:=f;rw[e];rfl
  |some q=>
   have e:a7 1 most (σ st)=σ q:=f;have:=a1 q e;subst this;rw[e];rfl
 .obtain⟨bH,X,rfl⟩:=X2.1 bl;obtain⟨q,f,rfl⟩:=X2.1 X;have h1:=(dK (n:=q.1) (s':=q.2) f).1;simp only[o4,T1];show l.length+1+q.2.toks.length<=100000;omega
def Ma{acc:List (Λ×Int)}{s s':aE}{a:Λ×Int}(h:dV sizes acc s=σ (a,s')):s'.told=s.told/\s'.big=s.big:=by
 obtain⟨_,_,_,e⟩:=pd h;exact⟨e.eqs.1,e.eqs.2.1⟩
def Mb{s s':aE}{l:List (Λ×Int)}(hi:dX s)(h:dW sizes s=σ (l,s')):dX s'/\(s.big=true->s'.big=true):=by
 have e:=BR sizes (σ s);rw[show iW sizes (σ s)=dW sizes s from rfl,h]at e;cases r:a7 (-av) av (σ s)with
 |none=>rw[r]at e;cases e
 |some q=>
  obtain⟨n,s1⟩:=q;rw[r]at e;simp only at e;have h1:=(dK (n:=n) (s':=s1) r).eqs;have x:dX s1:=λj=>by rw[h1.1];rw[h1.2.1]at j;exact hi j
  split at e
  .cases I:s1.shared[(-n-1).toNat]? with
   |none=>rw[I]at e;cases e
   |some q=>
    obtain⟨z,l'⟩:=q;rw[I]at e;simp only at e;split at e
    .cases e;exact⟨x,λj=>by rw[h1.2.1];exact j⟩
    .cases e
  .have:=ku (f:=dV sizes) (λacc t=>t.told=(jU n s1).told/\t.big=(jU n s1).big) (λacc t a bn ⟨w,p⟩ g=>by
    have:=Ma g;exact⟨by rw[this.1,w],by rw[this.2,p]⟩) n.toNat [] _ l s' ⟨rfl,rfl⟩ e.symm
   obtain⟨⟨w,p⟩,_⟩:=this;refine⟨λj=>by rw[w];rw[p]at j;exact Lu n s1 j,λj=>?_⟩;rw[p];show(s1.big||_)=true;rw[h1.2.1,j];rfl
def Mc{all:Λ}{s s':aE}{x:cv}(hi:dX s)(h:da all s=σ (x,s')):dX s'/\s'.toks.length<s.toks.length:=by
 unfold da at h;cases p:bd (-av) av s with
 |none=>rw[p]at h;cases h
 |some q=>
 obtain⟨a,s1⟩:=q;rw[p]at h;simp only at h;have t0:=dK p;cases h1:e3 all.length a.natAbs s1 with
 |none=>rw[h1]at h;cases h
 |some q=>
 obtain⟨sc,f⟩:=q;rw[h1]at h;simp only at h;obtain⟨r,_⟩:=vJ h1;generalize sc.map (λv=>all.getD v.toNat 0)=sizes at h;cases w:bd 0 av (a8 (decide (6<a.natAbs)||dt sizes) f)with
 |none=>rw[w]at h;cases h
 |some q=>
 obtain⟨other,y⟩:=q;rw[w]at h;simp only at h;have z:=dK w;have E:dX y:=λe=>by
  rw[z.eqs.1];rw[z.eqs.2.1]at e;have e:(f.big||_)=false:=e;have B:=(U7.1 e).1;show f.told<=16384;rw[r.eqs.1,t0.eqs.1];rw[r.eqs.2.1,t0.eqs.2.1]at B;exact hi B
 cases j:dW sizes y with
 |none=>rw[j]at h;cases h
 |some q=>
 obtain⟨lines,A⟩:=q;rw[j]at h;simp only[X7,S3]at h;obtain⟨_,rfl⟩:=h;have F:=Mb E j;have I:=BY j;have J:=t0.1;have K:=r.1;have L:f.toks.length=y.toks.length+1:=z.1;have C:∀t:aE,t.told=A.told/\t.big=A.big/\t.toks=A.toks->dX t/\t.toks.length<s.toks.length:=λt ⟨G,H,a3⟩=>⟨λe=>by rw[G];rw[H]at e;exact F.1 e,by rw[a3];omega⟩;split
 .exact C _ ⟨rfl,rfl,rfl⟩
 .exact C _ ⟨rfl,rfl,rfl⟩
def Md{S R:af}{cs:List x3}{x:hI}(h:al.rep false S R w cs x):al.rep (α:=hI) true bu R w cs x/\(x3.agg cs.toArray).cells=cs.toArray:=by
 obtain⟨j,d1,r,s,rfl,_,_,_,h1,p,d2,z,A,rfl,_,_,_,a,q,d3,B,C,rfl,_,_,_,f,e⟩:=h;have h1:al.rep (α:=Λ) false bu R w j x.1:=h1;have a:al.rep (α:=Λ) false bu R w p x.2.1:=a;have f:q=[Δ x.2.2.1]:=f;have e:al.rep (α:=List (Λ×Int)) false bu R w d3 x.2.2.2:=e;refine⟨⟨j,_,bu,bu,rfl,λ_ h=>h,λ_ h=>h,λ_ _ h _=>h,h1,p,_,bu,bu,rfl,λ_ h=>h,λ_ h=>h,λ_ _ h _=>h,a,q,d3,bu,bu,rfl,λ_ h=>h,λ_ h=>h,λ_ _ h _=>h,f,e⟩,?_⟩;obtain⟨u,rfl⟩:=V2.1 (show j.length=1 from al.len h1);obtain⟨v,rfl⟩:=V2.1 (show p.length=1 from al.len a);obtain⟨y,rfl⟩:=V2.1 (show d3.length=1 from al.len e);obtain⟨_,_,_,rfl⟩:=md h1;obtain⟨_,_,_,rfl⟩:=md a;obtain⟨_,_,_,rfl⟩:=md e;subst f;rfl
def Me{g c:Nat}{A B:af}{o:Option aE}{clean:Bool}{M:x3}{all:Λ}{aF:x3->x4->Prop}(aH:hc w g gs A B clean o)(hi:∀s,o=σ s->dX s)(bt:(c:Int)<=av)(bw:aG .i64 w M all)(aK:∀r,leads M r->r≠g/\r≠gs/\r<w.heap.size/\(o≠ν->¬A r))(bx:o≠ν->∀z∈all,1<=z/\z<=av)(bz:all.length<=100001)(bA:e5 w)(h1:1<w0.heap.size/\(o≠ν->cG g gs A B 1))(aM:ae (λr=>w0.heap.size<=r) w0 w)(bB:w0.heap.size<=g)(bC:w0.heap.size<=gs)(cl:g<w.heap.size/\gs<w.heap.size)(bD:o≠ν->∀r,A r->w0.heap.size<=r)(aN:∀N w' acc so aI p aO aP,ae (λr=>w0.heap.size<=r) w0 w'->w.heap.size<=w'.heap.size->hc w' g gs aI p clean so->al.rep (α:=List hI) true aO aP w' [N] acc->(∀r,aO r\/aP r->r≠g/\r≠gs/\r<w'.heap.size)->aG .i64 w' M all->
   (∀q,fv (λ_ s=>da all s) c [] o=σ q->so=σ q.2/\acc=q.1.map hd)->(fv (λ_ s=>da all s) c [] o=ν->so=ν)->aF N w'):
 b4 (.slice ν 0 0) (Δ 0) w λfuns aQ an bE=>
  ct (α:=x3->x4->Prop) (λ(bF:x3)(aS:x4)=>
   Split bF (ai x8 y8 [Γ g,M] aS λbH bI=>
  aB x8 (Y8 jl 1 #[(0,bH)]) bI λbJ bK=>
  aB x8 (Z3 #[jl,jl] jl #[funs,bJ]) bK λbL aT=>
  V x8 (aJ .add am false true aQ (Δ 1)) aT λbM=>
  bE bL bM aT) (aF funs aS)) λaU=>
  V x8 (aJ .lss am false false aQ (Δ (c:Int))) an λbN=>
  Split bN (ai x8 kW [Γ g] an λbO bP=>
  aU bO bP)
   (aU (.bool false) an):=by
 unfold av at bt;generalize f:fv (λ_ s=>da all s) c [] o=aV at aN;have aX:∀s,o=σ s->o≠ν:=λs h=>by rw[h];simp
 refine⟨λN ao J=>∃(i:Nat)(acc:List hI)(G:List cv)(so:Option aE)(y K C O:af),ao=Δ (i:Int)/\i<=c/\ae (λr=>w0.heap.size<=r) w0 J/\w.heap.size<=J.heap.size/\hc J g gs y K clean so/\al.rep true C O J [N] acc/\
   aG .i64 J M all/\e5 J/\aV=fv (λ_ s=>da all s) (c-i) G so/\(∀r,C r->w.heap.size<=r/\r<J.heap.size)/\(∀r,O r->r≠g/\r≠gs/\¬C r)/\
   ∀s,so=σ s->acc=G.map hd/\dX s/\G.length+s.toks.length<=100000/\o≠ν/\(∀r,y r->A r\/w.heap.size<=r)/\(∀r,y r->w0.heap.size<=r)/\(∀r,B r->K r)/\(∀r,C r->¬K r/\¬y r)/\(∀r,O r->cG g gs y K r),
  λ_ ao _=>c-(b0 ao).toNat,⟨0,[],[],o,A,B,bu,bu,rfl,X8 _,aM,o6 _,aH,fU,bw,bA,f.symm,λ_ h=>h.elim,λ_ h=>h.elim,λs I=>⟨rfl,hi s I,?_,aX s I,λr e=>.inl e,bD (aX s I),λr e=>e,λ_ h=>h.elim,λ_ h=>h.elim⟩⟩,?_⟩
 .subst I;have ap:di w g gs A B s clean:=aH;have:=ap.2.1.words.1;simpa using this
 rintro N _ J ⟨i,acc,G,so,y,K,C,O,rfl,cm,bR,cn,aZ,bS,aq,a1,ab,E,bT,a2⟩;refine aW (λv a6=>Ext J a6/\((v= .bool true/\i<c/\∃st,so=σ st)\/(v= .bool false/\(so=ν\/i=c)))) ?_ ?_
 rotate_left
 .intro ax au;rw[aR,aj];refine⟨λa7=>?_,λcp=>au _ _ ⟨Ext.refl _,.inr ⟨rfl,.inr Ω⟩⟩⟩;refine(BU aZ).mono ?_;rintro _ a6 _ ⟨rfl,a8⟩;cases so with
  |none=>exact au _ _ ⟨a8,.inr ⟨rfl,.inl rfl⟩⟩
  |some st=>exact au _ _ ⟨a8,.inl ⟨rfl,Ω,st,rfl⟩⟩
 rintro _ U ⟨L,bU⟩;have cq:=L.size;have W:=aZ.ext L;have ba:=bm bS L;have bb:ae (λr=>w0.heap.size<=r) w0 U:=bR.trans (L.aa _);rcases bU with⟨rfl,a7,st,rfl⟩|⟨rfl,bV⟩
 rotate_left
 .rw[aY];have bc:aV=so.map λst=>(G,st):=by
   rcases bV with rfl|rfl
   .exact ab
   .rw[T2]at ab;rw[ab];cases so<;>rfl
  refine aN N U acc so y K C (λr=>O r/\r<U.heap.size) bb Ω W (al.mono ba (λ_ _ h=>h) λr e h=>⟨h,e⟩) (λr e=>?_) (aq.ext L) (λq H=>?_) λbd=>?_
  .rcases e with e|e
   .have:=E r e;exact⟨Ω,Ω,Ω⟩
   .have:=bT r e.1;exact⟨this.1,this.2.1,e.2⟩
  .rw[bc]at H;cases so with
   |none=>cases H
   |some st=>cases H;exact⟨rfl,(a2 _ rfl).1⟩
  .rw[bc]at bd;cases so with
   |none=>rfl
   |some st=>cases bd
 rw[bQ];obtain⟨rfl,be,cr,ac,bf,aw,bg,ad,bh⟩:=a2 st rfl;have W:di U g gs y K st clean:=W;obtain⟨cu,cw,cz,cA,cB⟩:=W.1;have bW:=h1.2 ac;have bi:cG g gs y K 1:=⟨λf=>by
  rcases f with f|f|f
  .omega
  .omega
  .have:=aw 1 f;omega,bg 1 bW.2⟩
 have bj:∀r,leads M r->¬bG g gs y r/\r<U.heap.size:=λr e=>by
  obtain⟨bX,bY,bZ,b1⟩:=aK r e;refine⟨λf=>?_,Ω⟩;rcases f with f|f|f
  .exact bX f
  .exact bY f
  .rcases bf r f with h|h
   .exact b1 ac h
   .omega
 refine(LG W be (aq.ext L) bj (bx ac) bz (a1.ext L) bi).mono ?_;rintro _ b2 _ ⟨aI,p,cs,ay,rfl,cC,X,Y,az,bk,bn,b3,b5⟩;have z3:=X.size;obtain⟨bo,b6⟩:=Md b3;refine im (α:=hI) (a:=ay) (cs:=cs) (A:=bu) (R:=cG g gs aI p) jl.u b7.i Φ b6 bo λu ag P _ hu=>?_;have z4:=P.size;have b8:∀r,r<U.heap.size->C r\/O r->¬bG g gs y r:=λr e h f=>by
  rcases h with h|h
  .have j:=E r h;rcases f with f|f|f
   .omega
   .omega
   .exact (ad r h).2 f
  .exact (bh r h).1 f
 have b9:∀r,r<U.heap.size->cG g gs y K r->cG g gs aI p r:=λr e h=>⟨λf=>h.1 (f.imp id (Or.imp id λf=>(Y r f).elim id λh'=>Ω)),bk r h.2⟩;have ca:bl C (cG g gs aI p) ag [N] (G.map hd):=bm (al.aa (al.mono (S':=C) (R':=λr=>cG g gs aI p r/\O r) ba (λ_ _ h=>h) λr e h=>⟨b9 r e (bh r h),h⟩) X λr e h=>b8 r e (h.imp id λh=>h.2) |> λh=>h) P |> λh=>al.mono h (λ_ _ h=>h) λ_ _ h=>h.1;have ah:∀r,C r->¬p r:=λr h ak=>by
  have j:=E r h;rcases(az r ak).1 with Q|Q
  .exact (ad r h).1 Q
  .have aA:=(E r h).2;omega
 have cD:(G.map hd).length=G.length:=Ξ
 refine mH (α:=hI) (a:=ay) (A:=bu) jl.u b7.i rfl ca hu (bm bo P) (λr _ cb h=>?_) Ω Ω λcE S cc Z=>?_
 .rcases h with h|h
  .exact h
  .exact ah r cb h.2
 have z5:=Z.size;rw[aL,wrap_i64 Ω Ω];have cd:ae (λr=>w0.heap.size<=r) w0 ag:=(bb.trans (X.mono λr _ f=>by
  rcases f with rfl|rfl|f
  .exact bB
  .exact bC
  .exact aw r f)).trans (P.aa _)
 have z0:=aM.size;have ce:ae (λr=>w0.heap.size<=r) w0 S:=cd.trans (Z.mono λr _ h=>by have:=(E r h).1;omega);have cg:aG .i64 ag M all:=(h3 (aq.ext L) X λr e a n c aC aD=>(bj r ⟨a,n,c,aC,aD⟩).1 e).ext P;have ch:aG .i64 S M all:=h3 cg Z λr e a n c aC aD=>by
  have bZ:=(aK r ⟨a,n,c,aC,aD⟩).2.2.1;have:=(E r e).1;omega
 have ci:e5 S:=(((a1.ext L).aa X bi.1).ext P).aa Z λh=>by have:=(E 1 h).1;omega
 have bp:hc S g gs aI p clean ((da all st).map (·.2)):=by
  refine hc.aa (bn.ext P) Z (λh=>by have:=E _ h;omega) (λr e cF h=>?_) (λr e h=>ah r h e.2);have j:=E r h;rcases e with rfl|rfl|e
  .omega
  .omega
  .rcases Y r e with Q|Q
   .exact (ad r h).2 Q
   .omega
 have cj:=l0 cc;refine⟨⟨i+1,(G.map hd)++[ay],G++((da all st).map (·.1)).toList,(da all st).map (·.2),aI,p,λr=>(C r\/bu r\/ag.heap.size<=r)/\r<S.heap.size,cG g gs aI p,rfl,Ω,ce,Ω,bp,cj,ch,ci,?_,λr e=>⟨?_,e.2⟩,λr e=>⟨λh=>e.1 (.inl h),λh=>e.1 (.inr (.inl h)),λh=>?_⟩,λs' ck=>?_⟩,by simp only[b0];omega⟩
 .rw[ab,show c-i=(c-(i+1))+1 by omega,Cm];cases H:da all st with
  |none=>rfl
  |some q=>rfl
 .rcases e.1 with h|h|h
  .exact (E r h).1
  .exact h.elim
  .omega
 .rcases h.1 with j|j|j
  .exact ah r j e.2
  .exact j
  .have:=(az r e.2).2;omega
 .obtain⟨q,H,rfl⟩:=X2.1 ck;have j:=Mc (s':=q.2) (x:=q.1) be H;have Q:=b5 q H;refine⟨?_,j.1,?_,ac,λr e=>?_,λr e=>?_,λr e=>bk r (bg r e),λr e=>⟨λak=>?_,λbq=>?_⟩,λr e=>e⟩
  .rw[H,Q];simp
  .rw[H];simp only[Z7,l7,o4,T1];omega
  .rcases Y r e with h|h
   .exact bf r h
   .exact .inr Ω
  .rcases Y r e with h|h
   .exact aw r h
   .omega
  .rcases e.1 with j|j|j
   .exact ah r j ak
   .exact j
   .have:=(az r ak).2;omega
  .have cH:hc S g gs aI p clean ((da all st).map (·.2)):=bp;have br:=bn;rw[H]at br;have ap:di b2 g gs aI p q.2 clean:=br;have a7:=ap.1.2.2.2.1 r (.inr (.inr bq));rcases e.1 with j|j|j
   .rcases Y r bq with aA|aA
    .exact (ad r j).2 aA
    .have:=(E r j).2;omega
   .exact j
   .omega
def dX.num{lo hi n:Int}{s s':aE}(e:dX s)(h:bd lo hi s=σ (n,s')):dX s':=λa=>by
 have h1:=(dK h).eqs;rw[h1.1];rw[h1.2.1]at a;exact e a
def dX.big{b:Bool}{s:aE}(h:dX s):dX (a8 b s):=λa=>by
 have a:(s.big||b)=false:=a;exact h (U7.1 a).1
def dX.word{w:Λ}{s s':aE}(h:dX s)(hw:dU s=σ (w,s')):dX s':=λa=>by
 have h1:=(sy hw).2;rw[h1]at a ⊢;exact h a
def Mf{most:Int}{s s':aE}(hi:dX s)(hm:most<=av)(h:cO (fV most) N [] s=σ (l,s')):dX s'/\(∀z∈l,1<=z/\z<=av)/\l.length+s'.toks.length<=s.toks.length:=by
 have:=ku (f:=fV most) (λacc t=>dX t/\(∀z∈acc,1<=z/\z<=av)/\acc.length+t.toks.length<=s.toks.length) (λacc t a bn ⟨h1,p,y⟩ g=>by
  unfold fV at g;cases e:bd 1 most t with
  |none=>rw[e]at g;cases g
  |some q=>
   obtain⟨z,r⟩:=q;rw[e]at g;simp only[X7,S3]at g;obtain⟨rfl,rfl⟩:=g;have A:=(h4 e).1;have B:=(dK e).1;refine⟨(h1.num e).big,λx j=>?_,?_⟩
   .rcases j0.1 j with j|j
    .exact p x j
    .rw[j6.1 j];omega
   .simp only[o4,T1];show acc.length+1+r.toks.length<=_;omega) N [] s l s' ⟨hi,λz w=>(by cases w),Ξ⟩ h
 exact this.1
def Mg{s0:aE}{name:Λ}{n most cnt:Int}{so6:Option aE}(h1:∀q,dU s0=σ q->name=q.1)(p:∀q,a7 1 av (((dU s0).map (·.2)).map (a8 (decide (64<(name.length:Int)))))=σ q->n=q.1)(j:∀q,a7 1 av (((a7 1 av (((dU s0).map (·.2)).map (a8 (decide (64<(name.length:Int)))))).map (·.2)).map (a8 (decide (64<n))))=σ q->most=q.1)(h:∀q,a7 0 av ((a7 1 av (((a7 1 av (((dU s0).map (·.2)).map (a8 (decide (64<(name.length:Int)))))).map (·.2)).map (a8 (decide (64<n))))).map (·.2))=σ q->cnt=q.1)(f:∀q,a7 1 av (((a7 0 av ((a7 1 av (((a7 1 av (((dU s0).map (·.2)).map (a8 (decide (64<(name.length:Int)))))).map (·.2)).map (a8 (decide (64<n))))).map (·.2))).map (·.2)).map (a8 (decide (256<cnt))))=σ q->k=q.1)(e:∀q,fv (fV most) n.toNat [] (((a7 1 av (((a7 0 av ((a7 1 av (((a7 1 av (((dU s0).map (·.2)).map (a8 (decide (64<(name.length:Int)))))).map (·.2)).map (a8 (decide (64<n))))).map (·.2))).map (·.2)).map (a8 (decide (256<cnt))))).map (·.2)).map (a8 (decide (2147483648<k))))=σ q->so6=σ q.2/\sizes=q.1)(a:fv (fV most) n.toNat [] (((a7 1 av (((a7 0 av ((a7 1 av (((a7 1 av (((dU s0).map (·.2)).map (a8 (decide (64<(name.length:Int)))))).map (·.2)).map (a8 (decide (64<n))))).map (·.2))).map (·.2)).map (a8 (decide (256<cnt))))).map (·.2)).map (a8 (decide (2147483648<k))))=ν->so6=ν):
  hZ s0=(fv (λ_ s=>da sizes s) cnt.toNat [] so6).map λq=>((⟨name,k,sizes,q.1⟩:cb),q.2):=by
 unfold hZ;cases z:dU s0 with
 |none=>
  rw[z]at a;rw[a rfl];rfl
 |some L=>
 obtain⟨Y,s1⟩:=L;rw[z]at h1 p j h f e a;have:=h1 _ rfl;subst this;have M:decide (64<(name.length:Int))=decide (64<name.length):=by rw[V7,decide_eq_true_eq,decide_eq_true_eq];omega
 rw[M]at p j h f e a;simp only[Z7]at p j h f e a ⊢;generalize a8 (decide (64<name.length)) s1=w at*;cases A:bd 1 av w with
 |none=>
  rw[show a7 1 av (σ w)=ν from A]at a;rw[a rfl];rfl
 |some N=>
 obtain⟨O,B⟩:=N;rw[show a7 1 av (σ w)=σ (O,B)from A]at p j h f e a;have:=p _ rfl;subst this;simp only[Z7]at j h f e a ⊢;generalize a8 (decide (64<n)) B=x at*;cases C:bd 1 av x with
 |none=>
  rw[show a7 1 av (σ x)=ν from C]at a;rw[a rfl];rfl
 |some P=>
 obtain⟨Q,r⟩:=P;rw[show a7 1 av (σ x)=σ (Q,r)from C]at j h f e a;have:=j _ rfl;subst this;simp only[Z7]at h f e a ⊢;cases E:bd 0 av r with
 |none=>
  rw[show a7 0 av (σ r)=ν from E]at a;rw[a rfl];rfl
 |some R=>
 obtain⟨S,F⟩:=R;rw[show a7 0 av (σ r)=σ (S,F)from E]at h f e a;have:=h _ rfl;subst this;simp only[Z7]at f e a ⊢;generalize a8 (decide (256<cnt)) F=y at*;cases G:bd 1 av y with
 |none=>
  rw[show a7 1 av (σ y)=ν from G]at a;rw[a rfl];rfl
 |some T=>
 obtain⟨U,H⟩:=T;rw[show a7 1 av (σ y)=σ (U,H)from G]at f e a;have:=f _ rfl;subst this;simp only[Z7]at e a ⊢;generalize a8 (decide (2147483648<k)) H=V at*;cases J:cO (fV most) n.toNat [] V with
 |none=>
  rw[a J];rfl
 |some W=>
 obtain⟨Z,K⟩:=W;obtain⟨I,X⟩:=e _ J;subst X;rw[I];simp only;show _=U2 _ (cO (λ_ s=>da sizes s) cnt.toNat [] K);cases cO (λ_ s=>da sizes s) cnt.toNat [] K<;>rfl
def Mh{f:cb}(a:fd N f)(q:N<=60000):∀x∈f.funs,s6 f.k x:=λx h=>by
 obtain⟨h1,j,r⟩:=a.funs x h;refine⟨a.k,⟨?_,λz e=>?_⟩,h1.other,h1.lines,by have:=h1.len;omega,Ω⟩
 .rw[h1.sizes,u7];exact j
 .rw[h1.sizes]at e;obtain⟨v,p,rfl⟩:=l9.1 e;have:=h1.scope.2 v p;refine a.sizes.2.2 _ ?_;rw[u4,x7 Ω];exact S4 _
def Mi{p:x3}{pl:Λ}(Q:aG .u8 w p pl)(aK:Bytes pl)(bL:pl.length<=60000)(ad:e5 w):ai x8 Gr [p] w (Cl w (gw pl)):=by
 have aL:1<w.heap.size:=by
  have:=ad 0 (.int .u64 1) rfl;obtain⟨c,e,f,aM,_⟩:=vc this;exact(j5.1 aM).1
 have bM:av=4611686018427387904:=rfl;refine az func59 ?_;rw[aU cM.u Q,bS,aj];refine⟨λh=>Ω,λ_=>?_⟩;refine(As Q aK Ω).mono ?_;rintro _ J _ ⟨ag,gs,rfl,bN,aN,R⟩;rw[dq (cs:=#[Γ gs,Δ 0,Δ 0,Δ 0,Δ 0,Δ 0,.slice ν 0 0]) Ψ];refine bk λg U bO S ah=>?_;have bP:=ag.size;have bQ:=S.size;have aO:=ah.lt;have bT:gs<J.heap.size:=R.2.2.2.1.lt;have bU:=qc _ pl (o6 _);let s0:aE:=⟨(lex pl).1,0,false,[]⟩;let B0:af:=λr=>r<J.heap.size;have aP:di U g gs bu B0 s0 (lex pl).2:=by
  refine⟨⟨Ω,λh=>h,λh=>h,λr j=>?_,λr j=>by have j:r<J.heap.size:=j;omega⟩,⟨aN,pl,0,R.ext S,λr j=>?_,by rw[List.drop_zero]⟩,⟨by show(0:Int)<=0;omega,by show(0:Int)<=av;omega,by show(([]:List (Λ×List (Λ×Int))).length+(lex pl).1.length<=100000);simp;omega⟩,0,0,0,0,.slice ν 0 0,ah,⟨by simp[s0],λ_=>rfl⟩,fU (α:=iT)⟩
  .rcases j with rfl|rfl|j
   .exact aO
   .omega
   .exact j.elim
  .obtain⟨_,_,_,L,bq,hm⟩:=R;have G:=bR hm j;have H:=ch hm L Φ j;exact⟨λB=>by
    rcases B with B|B|B
    .omega
    .exact H B
    .exact B,by show r<J.heap.size;omega⟩
 have V:∀r,bG g gs bu r->w.heap.size<=r:=λr j=>by
  rcases j with rfl|rfl|j
  .omega
  .omega
  .exact j.elim
 refine(A8 aP).mono ?_;rintro _ bV _ ⟨A,name,bW,rfl,bX,bY,aQ⟩;obtain⟨aR,aS⟩:=fX.of A;rw[bx,bz,nP c5.u,bS];refine(qC aS).mono ?_;rintro _ bZ _ A;obtain⟨aT,aV⟩:=A.of;refine(mc (lo:=1) (hi:=av) aV).mono ?_;rintro _ b0 _ ⟨A,n,b1,rfl,ak,aW⟩;obtain⟨aX,aY⟩:=A.of;rw[bx,bz,bS];refine(qC aY).mono ?_;rintro _ b2 _ A;obtain⟨aZ,a1⟩:=A.of;refine(mc (lo:=1) (hi:=av) a1).mono ?_;rintro _ b3 _ ⟨A,most,b4,rfl,al,a2⟩;obtain⟨a6,ba⟩:=A.of;rw[bx,bz];refine(mc (lo:=0) (hi:=av) ba).mono ?_;rintro _ b5 _ ⟨A,cnt,b6,rfl,am,bb⟩;obtain⟨bc,bd⟩:=A.of;rw[bx,bz,bS];refine(qC bd).mono ?_;rintro _ b7 _ A;obtain⟨be,bf⟩:=A.of;refine(mc (lo:=1) (hi:=av) bf).mono ?_;rintro _ b8 _ ⟨A,k,b9,rfl,hk,ca⟩;obtain⟨bg,bh⟩:=A.of;rw[bx,bz,bS];refine(qC bh).mono ?_;rintro _ an _ A;obtain⟨bi,W⟩:=A.of;have ao:ae (bG g gs bu) U an:=(((((((aR.trans aT).trans aX).trans aZ).trans a6).trans bc).trans be).trans bg).trans bi;have X:∀{lo:Int}{o:Option aE}{x:Int},0<=lo->lo<=1->(∀q,a7 lo av o=σ q->x=q.1)->(a7 lo av o=ν->x=0)->0<=x/\x<=av:=λ{lo o x}cc h1 I bj=>by
  cases a:a7 lo av o with
  |none=>rw[bj a];omega
  |some q=>
   have G:=mQ (n:=q.1) (s':=q.2) a;rw[I q a];omega
 have cd:=X Ω Ω ak aW;have ce:=X Ω Ω am bb;have cg:=X Ω Ω al a2;obtain⟨N,bl⟩:∃N:Nat,n=(N:Int):=⟨n.toNat,Ω⟩;obtain⟨C,bm⟩:∃C:Nat,cnt=(C:Int):=⟨cnt.toNat,Ω⟩;have bn:n.toNat=N:=Ω
 have bo:cnt.toNat=C:=Ω
 have bp:dX s0:=λ_=>by show(0:Int)<=16384;omega
 have M:∀{o:Option aE}{b:Bool},(∀s,o=σ s->dX s)->∀s,o.map (a8 b)=σ s->dX s:=λh s I=>by
  obtain⟨t,Y,rfl⟩:=X2.1 I;exact(h t Y).big
 have O:∀{o:Option aE}{lo hi:Int},(∀s,o=σ s->dX s)->∀s,(a7 lo hi o).map (·.2)=σ s->dX s:=λ{o lo hi}h s I=>by
  obtain⟨q,a,rfl⟩:=X2.1 I;cases o with
  |none=>cases a
  |some t=>exact(h t rfl).num (n:=q.1) (s':=q.2) a
 have br:∀s,(dU s0).map (·.2)=σ s->dX s:=λs I=>by
  obtain⟨q,a,rfl⟩:=X2.1 I;exact bp.word (w:=q.1) (s':=q.2) a
 have ap:=M (b:=decide (2147483648<k)) (O (lo:=1) (hi:=av) (M (b:=decide (256<cnt)) (O (lo:=0) (hi:=av) (O (lo:=1) (hi:=av) (M (b:=decide (64<n)) (O (lo:=1) (hi:=av) (M (b:=decide (64<(name.length:Int))) br)))))));have y:=λ(sizes:Λ)(so6:Option aE)=>Mg (s0:=s0) (name:=name) (sizes:=sizes) (n:=n) (most:=most) (cnt:=cnt) (k:=k) (so6:=so6) aQ ak al am hk;rw[bn]at y;generalize ci:U2 (a8 (decide (2147483648<k))) (U2 (λx=>x.2) (a7 1 av (U2 (a8 (decide (256<cnt))) (U2 (λx=>x.2) (a7 0 av (U2 (λx=>x.2) (a7 1 av (U2 (a8 (decide (64<n))) (U2 (λx=>x.2) (a7 1 av (U2 (a8 (decide (64<(name.length:Int)))) (U2 (λx=>x.2) (dU s0)))))))))))))=aq at ap W y;rw[bl];refine L9 (N:=N) (most:=most) W Ω λszv Z sizes so6 gz bt au aw cj bw ax ay=>?_;have y:=y sizes so6 ax ay;rw[bo]at y;have ab:ae (bG g gs bu) U Z:=ao.trans bt;have z12:=ab.size;have aA:Ext w U:=ag.trans S;have bA:ae (λr=>w.heap.size<=r) w Z:=(aA.aa _).trans (ab.mono λr _ h=>V r h);have ck:=au.side;have facts:∀K,so6=σ K->dX K/\(∀z∈sizes,1<=z/\z<=av)/\sizes.length<=100000:=λK ac=>by
  cases a:fv (fV most) N [] aq with
  |none=>rw[ay a]at ac;cases ac
  |some q=>
   obtain⟨G,H⟩:=ax q a;cases ac.symm.trans G;subst H;cases aq with
   |none=>cases a
   |some bB=>
    obtain⟨bC,bD,cl⟩:=Mf (l:=q.1) (s':=q.2) (ap bB rfl) Ω a;exact⟨bC,bD,by have:=W.words;omega⟩
 rw[bm];have aB:∀r,leads szv r->an.heap.size<=r/\r<Z.heap.size:=λr j=>by have:=bR aw j;omega
 have cm:=ao.size;refine Me (w0:=w) (c:=C) (all:=sizes) au.q (λs I=>(facts s I).1) Ω aw.ls (λr j=>?_) (λP=>?_) bw ((ad.ext aA).aa ab λB=>by have:=V 1 B;omega) ⟨aL,λ_=>⟨λB=>by have:=V 1 B;omega,by show 1<J.heap.size;omega⟩⟩
  bA Ω Ω ⟨Ω,Ω⟩ (λ_ r h=>h.elim) λcn cp acc so aI cq cr ct aC cu bE bF bH bI aD bJ=>?_
 .have:=aB r j;exact⟨Ω,Ω,Ω,λ_ h=>h⟩
 .cases aF:so6 with
  |none=>exact absurd aF P
  |some K=>exact(facts K aF).2.1
 have cw:=aC.size;have E:gw pl=match hZ s0 with
   |none=>ν
   |some (f,s)=>if s.toks=[]/\(lex pl).2=true/\s.big=false then σ f else ν:=by
  unfold gw;rw[if_neg Ω];have e:hZ ⟨(lex pl).1,0,false,[]⟩=hZ s0:=rfl;rw[e];cases hZ s0<;>rfl
 refine L8 (w0:=w) (sizes:=sizes) (res:=gw pl) bE ⟨λs I Y bK L=>?_,λP=>?_⟩ bI (λr j=>by have:=aB r j;exact⟨Ω,Ω⟩) bF bH (λ_=>trivial) Ω Ω aC Ω Ω Q λv w' h=>h
 .cases a:fv (λ_ s=>da sizes s) C [] so6 with
  |none=>rw[bJ a]at I;cases I
  |some q=>
   obtain⟨G,H⟩:=aD q a;cases I.symm.trans G;rw[a]at y;have y:hZ s0=σ ((⟨name,k,sizes,q.1⟩:cb),q.2):=y;have aH:=(A5 rfl y L).1;rw[y]at E;simp only at E;rw[if_pos ⟨Y,bK,L⟩]at E;exact⟨q.1,H,E,Mh aH (by show(lex pl).1.length<=60000;omega),aH.la,Ω⟩
 .cases a:fv (λ_ s=>da sizes s) C [] so6 with
  |none=>
   rw[a]at y;have y:hZ s0=ν:=y;rw[y]at E;exact absurd E P
  |some q=>
   obtain⟨G,H⟩:=aD q a;rw[a]at y;have y:hZ s0=σ ((⟨name,k,sizes,q.1⟩:cb),q.2):=y;rw[y]at E;simp only at E;by_cases aJ:q.2.toks=[]/\(lex pl).2=true/\q.2.big=false
   .exact⟨q.2,G,aJ⟩
   .rw[if_neg aJ]at E;exact absurd E P
def wh(s t cs:Λ):∃e,oU s t cs= .tuple #[Δ (bh s cs t),Δ e]:=by
 unfold oU bh;cases cj s t 0 with
 |none=>exact⟨3,rfl⟩
 |some n=>exact⟨0,rfl⟩
def Mj:ai x8 zq [sv] w λr w'=>Ext w w'/\∃g,r= .func (.func oM) #[] #[Γ g]/\w.heap.size<=g/\ac w' g an sv.cells.toList:=by
 refine az func223 ?_;refine bk λg J f a e=>?_;rw[k0];exact⟨a,g,rfl,Ω,e⟩
def Mk{f:Q2}{cap:Array x3}{B:Nat->List x3->x4->Prop}{e:x4->Prop}{L:Λ}(P:oG x8 f cap.toList n B e)(C:∀k vs w,B k vs w->∃x,L[k]?=σ x/\vs=[Δ x])(he:∀a b,ae (λr=>w.heap.size<=r) a b->e a->e b)(Q:e w)(R:n=L.length)(ao:L.length<=1000000):
  ai x8 GK [.slice ν 0 0,.func (.func f) #[] cap] w λv w'=>Ext w w'/\∃g,w.heap.size<=g/\au .i64 ah w' g v L:=by
 refine ik func80 ?_;refine bk λgs J ap E p=>?_;have p:ac J gs an [.slice ν 0 0]:=p;have aq:=p.lt;have G:∀{a b:x4},Ext a b->e a->e b:=λj=>he _ _ (j.aa _);refine kj.old ⟨Nat,false,f,cap,0,_,_,e,λk w'=>ae (λr=>w.heap.size<=r) w w'/\∃v g,gs<g/\ac w' gs an [v]/\au .i64 ah w' g v (L.take k),λ_ _ _=>False,rfl,P.s,?_,λ_ _ j h=>G j h,
  λ_ _ _ j h=>⟨h.1.trans (j.aa _),by obtain⟨v,g,h1,S,V⟩:=h.2;exact⟨v,g,h1,S.ext j,V.ext j⟩⟩,λ_ _ _ _ _ h=>h,G E Q,⟨E.aa _,_,gs+1,Ω,p,au.nil _ _ _ _⟩,?_,?_,λ_ _ h=>h.elim,λ_ _ _ h=>h.elim⟩
 .rintro k vs av w' ⟨_,_,h⟩;obtain⟨x,_,rfl⟩:=C k vs w' h;rfl
 .rintro a k _ U hW ⟨hk,rfl,X⟩ ⟨Y,v,g,Z,H,q⟩;obtain⟨x,j,ab⟩:=C k _ U X;cases ab;intro aw y _ _;have I:=H.ext y;rw[aD Ψ (I.Qz rfl)];refine et an.u ah.i rfl λa ga ax ay z ad=>?_;have az:(L.take k).length<=1000000:=Θ
  refine jo an.u ah.i rfl ((q.ext y).ext z) ad.ls (by simp only[Z2,List.length_nil];omega) (by simp only[Z2,List.length_nil];omega) λaf ag aA aB A K=>?_;have aC:=H.lt;have aE:=y.size;have aF:=z.size;refine bp an.i A.ls.cells.1 A.ls.cells.2 (((I.ext z).aa K Ω)) Ξ λaj M aG ak=>?_;have N:ae (λr=>w.heap.size<=r) U aj:=(((y.trans z).aa _).trans (K.mono λr _ h=>by show w.heap.size<=r;omega)).trans (M.mono λr _ h=>by show w.heap.size<=r;omega);refine⟨he _ _ N hW,⟨Y.trans N,af,ag,Ω,ak,?_⟩,λh=>by cases h⟩;rw[u9,j];exact A.aa M (λ_=>Ω)
 .rintro k aH hk ⟨al,v,g,Z,am,q⟩;have hk:k=n:=hk;subst hk;rw[aD Ψ (am.Qz rfl)];intro aI O _;rw[R,o8]at q;exact⟨(al.ext λr aJ h=>by have:w.heap.size<=r:=h;omega).trans O,g,Ω,q.ext O⟩
def wi{f:Q2}{cap:Array x3}{j:Nat->List x3->x4->Prop}{e:x4->Prop}{L:Λ}(p:oG x8 f cap.toList n j e)(q:∀k vs w,j k vs w->∃x,L[k]?=σ x/\vs=[Δ x])(he:∀a b,ae (λr=>w.heap.size<=r) a b->e a->e b)(s:e w)(y:n=L.length)(z:L.length<=1000000):
  ai x8 yY [.func (.func f) #[] cap] w λv w'=>Ext w w'/\∃g,w.heap.size<=g/\au .i64 ah w' g v L:=by
 refine az func35 ?_;exact(Mk p q he s y z).mono λ_ _ _ h=>h
def Ml{x:Int}:ai x8 cmp_Less_int [Δ x,Δ y] w λv w'=>v= .bool (decide (x<y))/\Ext w w':=by
 refine az func302 ?_;refine aW (λv J=>v= .bool (decide (x<y))/\Ext w J) (λ_ _ h=>h) λax a=>?_;have e:∀{z:Int}{w:x4},ai x8 cmp_isNaN_int [Δ z] w λv w'=>v= .bool false/\Ext w w':=λ{z w}=>by
  refine az func235 ?_;simp only[bN];exact⟨Ξ,Ext.refl _⟩
 refine e.mono ?_;rintro _ U _ ⟨rfl,f⟩;rw[aY];simp only[aR];exact a _ _ ⟨rfl,f⟩
def Mm{P:V1}{t:r9}{cx cy:Bool}{k:n9}{a b:Int}:bZ P (aJ .sub t cx cy (.int k a) (.int k b)) (.int k (k.wrap (a-b))) w:=λw' _=>by simp[aJ,eqGuard,binOp,Op.intArith]
def Mn{g:Nat}(h:au .i64 ah w g sv l)(am:l.length<=1000000):
  ai x8 IQ [sv,Δ 0,Δ l.length] w λ_ w'=>ae (λr=>r=g) w w'/\∃m,m.Perm l/\m.Pairwise (·<= ·)/\au .i64 ah w' g sv m:=by
 refine az func296 ?_;simp only[aL];refine⟨λt J=>∃(i:Nat)(m:Λ),t=Δ i/\1<=i/\(i<=l.length\/i=1)/\m.Perm l/\ql m i/\ae (λr=>r=g) w J/\au .i64 ah J g sv m,λt _=>l.length+1-(b0 t).toNat,
  ⟨1,l,by congr 1,Ω,.inr rfl,.refl _,λp q x y h1 S=>Ω,ae.refl _ _,h⟩,?_⟩
 rintro _ J ⟨i,m,rfl,ao,ap,z,I,K,hm⟩;have V:=z.length_eq;simp only[aR,aj];refine⟨λW=>?_,λaq=>?_⟩
 .have W:i<l.length:=Ω
  refine⟨λt U=>∃(j:Nat)(m:Λ),t=Δ j/\j<=i/\m.Perm l/\pb m i j/\ae (λr=>r=g) w U/\au .i64 ah U g sv m,λt _=>(b0 t).toNat,⟨i,m,rfl,o6 _,z,J7 I,K,hm⟩,?_⟩;rintro _ U ⟨j,m,rfl,X,z,E,L,hm⟩;have V:=z.length_eq;refine aW (λv M=>Ext U M/\∃c,v= .bool c/\(c=true->0<j/\∃a b,m[j-1]?=σ a/\m[j]?=σ b/\b<a)/\(c=false->j=0\/0<j/\∃a b,m[j-1]?=σ a/\m[j]?=σ b/\a<=b)) ?_ ?_
  .rintro _ M ⟨B,c,rfl,Y,Z⟩;rw[cg];refine⟨λh=>?_,λh=>?_⟩
   .obtain⟨A,a,b,f,s,G⟩:=Y h;intro av N _ _;have C:=(hm.ext B).ext N;have e:X9.wrap ((j:Int)-1)=((j-1:Nat):Int):=by rw[wrap_i64 Ω Ω];omega
    simp only[ed,e];rw[bb an.u ah.i Ψ C.ls f,bb an.u ah.i Ψ C.ls s,h0 rfl an.u ah.i C Ω];refine h2 ah.i C Ω λab ac aw O=>⟨.inr ⟨by have:=Mm (P:=x8) (w:=ab) (t:=ah) (cx:=false) (cy:=true) (k:=.i64) (a:=(j:Int)) (b:=1);rwa [e]at this,trivial⟩,?_⟩;rw[h0 rfl an.u ah.i O Θ];refine h2 ah.i O Θ λay ad aA af=>?_;refine⟨⟨j-1,_,rfl,Ω,(swap_perm Ω f s).trans z,Ka E A X f s G,((L.trans ((B.trans N).aa _)).trans ac).trans ad,af⟩,?_⟩;simp only[b0];omega
   .simp only[aL];rw[wrap_i64 Ω Ω];refine⟨⟨i+1,m,rfl,Ω,.inl Ω,z,?_,L.trans (B.aa _),hm.ext B⟩,?_⟩
    .rcases Z h with rfl|⟨A,a,b,f,s,G⟩
     .exact J8 E
     .exact J9 E A f s G
    .simp only[b0];omega
  .intro ax Q aB H _ _;have R:=hm.ext H;simp only[bS,aj];refine⟨λA=>?_,λA=>Q _ _ ⟨H,false,rfl,(λh=>by cases h),λ_=>.inl Ω⟩⟩;have e:X9.wrap ((j:Int)-1)=((j-1:Nat):Int):=by rw[wrap_i64 Ω Ω];omega
   obtain⟨b,s⟩:=aF (l:=m) (i:=j) Ω;obtain⟨a,f⟩:=aF (l:=m) (i:=j-1) Ω;rw[bb an.u ah.i Ψ R.ls s];simp only[ed,e];rw[bb an.u ah.i Ψ R.ls f];refine Ml.mono ?_;rintro _ aC _ ⟨rfl,ag⟩;refine Q _ _ ⟨H.trans ag,_,rfl,λh=>⟨Ω,a,b,f,s,by simpa using h⟩,λh=>.inr ⟨Ω,a,b,f,s,by simpa using h⟩⟩
 .refine⟨K,m,z,Kb λp q x y h1 S ak al=>I p q x y h1 Ω ak al,hm⟩
def Mo{P:V1}{t:r9}{k:n9}{s:ByteArray}{i:Nat}{K:x3->Prop}(a:P.underlying t=σ .string)(hi:i<s.size)(e:∀b:Nat,b<256->K (.int .u8 b)):
  V P (Instr.index t (.string s) (.int k (i:Int))) w K:=by
 have f:s[i]?=σ s[i]:=by simp[hi]
 have:V P (Instr.index t (.string s) (.int k (i:Int))) w K=K (.int .u8 s[i].toNat):=V.of λw' _=>by
  simp[Instr.index,asIntOf,run_underlying a,hi]
 rw[this];exact e _ (UInt8.toNat_lt _)
def Mp(a:n<256):ai x8 Ik [.int .u64 (n:Int)] w λv w'=>(∃r,v=Δ r)/\Ext w w':=by
 refine az func234 ?_;refine ai.mono (K:=λv w'=>(∃r,v=Δ r)/\Ext w w') ?_ (λ_ _ _ h=>h);refine az func270 ?_;simp only[ct,cS,aj];refine⟨λh=>Ω,λ_=>⟨λh=>Ω,λ_=>⟨λh=>Ω,λ_=>?_⟩⟩⟩;rw[fp fC.u cI.u,wrap_u8 Ω Ω];refine Mo c5.u (by exact T8 a Φ) λb e=>?_;rw[fp cI.u ah.u];simp only[aL];exact⟨⟨_,rfl⟩,Ext.refl _⟩
def Mq{g:Nat}(h:au .i64 ah w g sv l)(f:l.length<=12):
  ai x8 Ix [sv] w λ_ w'=>ae (λr=>r=g) w w'/\∃m,m.Perm l/\m.Pairwise (·<= ·)/\au .i64 ah w' g sv m:=by
 refine az func256 ?_;rw[aU an.u h.ls,fp ah.u oO.u,wrap_u64 Ω Ω];refine(Mp (n:=l.length) Ω).mono ?_;rintro _ J _ ⟨⟨r,rfl⟩,e⟩;refine ai.mono (K:=λ_ w'=>ae (λr=>r=g) J w'/\∃m,m.Perm l/\m.Pairwise (·<= ·)/\au .i64 ah w' g sv m) ?_ (λ_ _ _ h=>⟨(e.aa _).trans h.1,h.2⟩);refine az func281 ?_;refine⟨λa b _ _ _ U=>a=Δ 0/\b=Δ l.length/\J=U,λ_ _ _ _ _ _=>0,⟨rfl,rfl,rfl⟩,?_⟩;rintro _ _ _ _ _ _ ⟨rfl,rfl,rfl⟩;simp only[ed,lU,aj];rw[wrap_i64 Ω Ω];refine⟨λ_=>?_,λh=>Ω⟩;refine(Mn (h.ext e) Ω).mono ?_;exact λ_ _ _ h=>h
def Mr{f:Q2}{cap:Array x3}{j:Nat->List x3->x4->Prop}{e:x4->Prop}{L:Λ}(p:oG x8 f cap.toList n j e)(q:∀k vs w,j k vs w->∃x,L[k]?=σ x/\vs=[Δ x])(he:∀a b,ae (λr=>w.heap.size<=r) a b->e a->e b)(s:e w)(y:n=L.length)(z:L.length<=12):
  ai x8 zp [.func (.func f) #[] cap] w λv w'=>Ext w w'/\∃g m,w.heap.size<=g/\m.Perm L/\m.Pairwise (·<= ·)/\au .i64 ah w' g v m:=by
 refine az func222 ?_;refine(wi p q he s y Ω).mono ?_;rintro v J _ ⟨A,g,B,C⟩;refine(Mq C z).mono ?_;rintro _ U _ ⟨E,m,h1,G,H⟩;exact⟨A.then E (by rintro r I rfl;omega),g,m,B,h1,G,H⟩
def Cn{x:Int}(h:aG .i64 w sv l):
  ai x8 zr [sv,Δ x] w λv w'=>Ext w w'/\∃r:Int,v=Δ r/\∀i:Nat,l[i]?=σ x->(r=i↔ ∀j,j<i->l[j]? ≠σ x):=by
 refine az func224 ?_;rw[aU an.u h];refine b4.range l.length (λi _ J=>Ext w J/\∀j,j<i->l[j]? ≠σ x) h.le ⟨Ext.refl _,λj p=>Ω⟩ ?_ ?_
 .rintro i _ J k hi ⟨a,e⟩ hk;simp only[aR,aj];refine⟨λ_=>?_,λh=>Ω⟩;obtain⟨y,f⟩:=aF (l:=l) hi;rw[bb an.u ah.i Ψ (h.ext a) f];simp only[bf,aj,aL];refine⟨λhe=>⟨a,i,rfl,λq s=>?_⟩,λhe=>hk _ _ ⟨a,λj p=>?_⟩⟩
  .subst he;refine⟨λB=>by
              have:i=q:=Ω
              subst this;exact e,λz=>?_⟩
   rcases Nat.lt_trichotomy i q with h1|h1|h1
   .exact absurd f (z i h1)
   .omega
   .exact absurd s (e q h1)
  .by_cases A:j=i
   .subst A;rw[f];intro h;exact he (Z0 h).symm
   .exact e j Ω
 .rintro _ J k ⟨a,e⟩;simp only[aR,aj];refine⟨λh=>Ω,λ_=>⟨a,-1,rfl,λi hi=>?_⟩⟩;exact absurd hi (e i (x5.1 hi).1)
def Ms{g:Nat}(p:ac w0 g an [sv])(e:aG .i64 w0 sv l):
  oG x8 oM [Γ g] l.length (λk vs _=>∃x,l[k]?=σ x/\vs=[Δ x]) (λw=>Ext w0 w):=by
 refine⟨oM.enters,λy ax B w C _ q a r=>?_⟩;refine p5 func257 ?_;rw[aD Ψ ((p.ext a).Qz rfl),aU an.u (e.ext a)];refine bU.range l.length (λi U=>ax i U/\Ext w0 U) e.le ⟨r,a⟩ ?_ ?_
 .rintro i U k hi ⟨f,j⟩ hk;simp only[aR,aj];refine⟨λ_=>?_,λh=>Ω⟩;obtain⟨x,a⟩:=aF (l:=l) hi;rw[bb an.u ah.i Ψ (e.ext j) a];refine⟨rfl,(q i _ U hi j ⟨x,a,rfl⟩ f).mono ?_⟩;rintro _ E (⟨rfl,s,z⟩|⟨rfl,A⟩)
  .simp only[bJ,X3,aY,aL];exact hk _ ⟨z.1,s⟩
  .simp only[bJ,W3,bQ];exact .inr ⟨i,hi,A⟩
 .rintro U k ⟨f,_⟩;simp only[aR,aj];exact⟨λh=>Ω,λ_=>.inl f⟩
def wj(h:aG .i64 w sv l)(j:l.length<=12)(p:∀v w' g m,Ext w w'->w.heap.size<=g->m.Perm l->m.Pairwise (·<= ·)->au .i64 ah w' g v m->K v w'):
  ai x8 zq [sv] w λt J=>ai x8 zp [t] J K:=by
 refine Mj.mono ?_;rintro _ J _ ⟨f,g,rfl,B,e⟩;have e:ac J g an [sv]:=by rw[h.cells.1]at e;exact e
 refine(Mr (Ms e (h.ext f)) (λ_ _ _ h=>h) (λa b q s=>s.then q (λr C h=>Ω)) (Ext.refl _) rfl j).mono ?_;rintro v U _ ⟨x,y,m,E,h1,z,A⟩;have:=f.size;exact p v U y m (f.trans x) Ω h1 z A
def Mt(w:x4)(ag:Λ)(k:Int)(cs a:Λ)(v:x3)(w':x4):Prop:=
 Ext w w'/\
  (¬Good a ag.length->v= .tuple #[.pointer ν,Δ 1])/\
  (Good a ag.length->∃e f h,v= .tuple #[Γ e,Δ 0]/\dd w' e f h (eu ag a) k (nU ag cs a))
def Mu{g bH:Nat}{Y:x3}{z:Λ}(h:dd w g bH sv ag k cs)(hk:right k)(Q:aG .i64 w Y z)(cr:z.length<=12)(ct:Good z ag.length->aN (eu ag z)<=4096):
  ai x8 Ic [Γ g,Y] w (Mt w ag k cs z):=by
 have az:=h;have cu:=h.2.2.1;have cw:=Q.cells;refine ik func225 ?_;refine bk λg1 J db bI C=>?_;refine bk λbJ U df a2 A=>?_;have s1:=bI.size;have dg:=a2.size;have dh:=C.lt;have di:=A.lt;have a6:=bI.trans a2;have C:ac U g1 eV [Γ g]:=C.ext a2;have A:ac U bJ an [Y]:=by rw[cw.1]at A;exact A
 rw[aD Ψ (C.Qz rfl),dc eV.u];simp only[Z6,aY];rw[aD Ψ (A.Qz rfl)];have cz:=Q.ext a6;have sub:∀{w:x4}{g:Nat}{sv:x3}{k:Int}{aZ:x3},ac w g cZ [sv,Δ k,aZ]->w.rangeAt g (0+0) [sv]:=λL=>nN L (by
  intro j v a7
  match j,a7 with
  |0,a7=>exact a7)
 refine wj cz cr λdP cA de m bK dj a8 cB hm=>?_;have cC:=a8.length_eq;rw[aU an.u hm.ls];have cD:=a6.trans bK;refine mw.range m.length (λi _ _ ba=>Ext cA ba/\∀j,j<i->m[j]?=σ (j:Int)) Ω ⟨Ext.refl _,λj bc=>Ω⟩ ?_ ?_
 .rintro i _ _ ba Z hi ⟨ab,bd⟩ ad;simp only[aR,aj];refine⟨λ_=>?_,λh=>Ω⟩;obtain⟨y,af⟩:=aF (l:=m) hi;rw[bb an.u ah.i Ψ (hm.ls.ext ab) af];simp only[bN,aj,aL];refine⟨λak dk cE _=>⟨(cD.trans ab).trans cE,λ_=>rfl,λbe=>?_⟩,λhe=>ad _ _ _ ⟨ab,λj bc=>?_⟩⟩
  .have:=AO be a8 cB i hi;rw[af]at this;exact absurd (Z0 this).symm ak
  .by_cases cF:j=i
   .subst cF;rw[af];congr 1;omega
   .exact bd j Ω
 .rintro _ _ ba Z ⟨ab,bd⟩;simp only[aR,aj,ef];refine⟨λh=>Ω,λ_ dl cG _ _=>?_⟩;have E:Good z m.length:=Kc bd a8;have al:=(bK.trans ab).trans cG;have aA:=a6.trans al;have C:=C.ext al;have A:=A.ext al;have cH:=Q.ext aA;have cI:=az.ext aA;have dm:=al.size;obtain⟨⟨aZ,gs,L,aB,bL⟩,_⟩:=id cI;rw[aD Ψ (A.Qz rfl),aU an.u cH,aD Ψ (C.Qz rfl),bY,aS cZ.p rfl,bE (cs:=[sv]) bC.p bC.i rfl (sub L)];refine(Bf aB.ls).mono ?_;rintro _ aC _ ⟨rfl,M⟩;refine⟨.inl M,?_⟩;simp only[bN,aj];refine⟨λak dn cJ _=>⟨(aA.trans M).trans cJ,λ_=>rfl,λbe=>absurd (by rw[be.1]) ak⟩,λdp=>?_⟩;have bf:z.length=ag.length:=Ω
  have E:Good z ag.length:=by rw[<-bf,<-cC];exact E
  have dq:=al.trans M;have bg:=aA.trans M;have C:=C.ext M;have A:=A.ext M;have bM:=Q.ext bg;rw[aD Ψ (A.Qz rfl),aU an.u bM];refine jL an.u ah.i Ω Ω λgz bO dr R bP=>?_;have cK:au .i64 ah bO gz (.slice (σ ⟨gz,0,ν⟩) z.length z.length) (o5 z.length 0):=au.of (n:=z.length) (bX.full bP Ξ (by simp[maxLen];omega));generalize (x3.slice (σ ⟨gz,0,ν⟩) z.length z.length)=cL at*;have ds:=M.size;have dt:=R.size;have du:=bP.lt;rw[aD Ψ ((A.ext R).Qz rfl),aU an.u (bM.ext R)];have bQ:=bg.trans R;have aE:(eu ag z).length=z.length:=sw _ _;refine bU.range z.length (λi H=>ae (λr=>r=gz) bO H/\au .i64 ah H gz cL (upto (eu ag z) 0 i)) Ω ⟨ae.refl _ _,by rw[o2,aE];exact cK⟩ ?_ ?_
  .rintro i H Z hi ⟨O,aH⟩ ad;simp only[aR,aj];refine⟨λ_=>?_,λh=>Ω⟩;have ao:Ext w H:=bQ.then O (by rintro r P rfl;omega);have aI:Ext aC H:=R.then O (by rintro r P rfl;omega);obtain⟨p,bi⟩:=aF (l:=z) hi;obtain⟨⟨aZ,gs,L,aB,bL⟩,_⟩:=az.ext ao;rw[bb an.u ah.i Ψ (Q.ext ao) bi,aD Ψ ((C.ext aI).Qz rfl),bY,aS cZ.p rfl,bE (cs:=[sv]) bC.p bC.i rfl (sub L)];refine(qq aB.ls).mono ?_;rintro _ dv _ ⟨rfl,bR⟩;have bS:=aH.ext bR;have cM:(upto (eu ag z) 0 i).length=z.length:=by rw[nS,aE]
   rw[h0 rfl an.u ah.i bS Ω];refine h2 ah.i bS Ω λdw cO _ bT=>?_;simp only[aL];have h1:=(E.2 i p bi).1;have ap:(eu ag z)[i]?=σ (h6 ag p):=by
    unfold eu h6;rw[v8,bi,if_pos h1.1];rfl
   rw[pa ap]at bT;exact ad _ ⟨(O.trans (bR.aa _)).trans cO,bT⟩
  .rintro H Z ⟨O,aH⟩;simp only[aR,aj];refine⟨λh=>Ω,λ_=>?_⟩;have ao:Ext w H:=bQ.then O (by rintro r P rfl;omega);have aI:Ext aC H:=R.then O (by rintro r P rfl;omega);rw[<-aE,o3]at aH;obtain⟨⟨aZ,gs,L,aB,bL⟩,_⟩:=az.ext ao;rw[aD Ψ ((C.ext aI).Qz rfl),aP cZ.p 1 L rfl];have aJ:ca (eu ag z):=cu.Ke E rfl;have bV:=ct E;have dx:=prod_bound aJ;refine(vm aH.ls).mono ?_;rintro _ bj _ ⟨bW,_,_,_,cP⟩;obtain⟨av,I,V,rfl,dy,dz,dA,aK⟩:=cP aJ bV ⟨hk,Ω,by have:=hk.1;omega⟩;obtain⟨N,aM⟩:∃N:Nat,(aN (eu ag z)).toNat=N:=⟨_,rfl⟩;rw[aM]at aK;rw[bx,bz];refine bw eV.i λbZ dC dD b0 aw=>?_;refine bp eV.i rfl rfl aw (by simp[x3.cells]) λcQ cR dE aw=>?_;have dF:=O.size;have dG:=bW.size;have dH:=b0.size;have bl:Ext bj cQ:=b0.then cR (by rintro r P rfl;omega);have b1:=bW.trans bl;have cS:=aK.ext bl;have dI:=aw.lt;obtain⟨⟨bm,b2,b3,b4,cT⟩,⟨b5,b6,_⟩,_,dJ⟩:=id cS;have dK:0<N:=Ω
   have dL:av<bj.heap.size:=by obtain⟨⟨_,_,q,_⟩,_⟩:=id aK;exact q.lt
   have dM:I<bj.heap.size:=by obtain⟨⟨_,_,_,_,q⟩,_⟩:=id aK;exact s3 q Θ
   rw[aD Ψ (aw.Qz rfl),bY,aS cZ.p rfl,bE (cs:=[V]) bC.p bC.i rfl (sub b3)];refine sH.mono ?_;rintro _ G _ ⟨K,aQ,rfl,dN,b7⟩;have dO:=bl.size;have dQ:=K.size;let S:Nat->Prop:=λr=>r=I;let W:=nU ag cs z;have bn:W.length=N:=by simp only[W];rw[AU,aM]
   let cU:x4->Prop:=λw'=>ac w' g1 eV [Γ g]/\ac w' bJ an [Y]/\ac w' bZ eV [Γ av]/\ac w' av cZ [V,Δ k,bm]/\
    dd w' g bH sv ag k cs/\aG .i64 w' Y z/\au .i64 ah w' b2 V (eu ag z)/\ac w' aQ bC [V]/\G.heap.size<=w'.heap.size
   have facts:∀{a:x4},ae S G a->cU a:=by
    intro a B;have bo:Ext aC G:=(aI.trans b1).trans K;have bq:Ext aC a:=bo.put B Ω;have cb:Ext w a:=bg.trans bq;refine⟨C.ext bq,A.ext bq,(aw.ext K).aa B (by show¬(bZ=I);omega),(b3.ext K).aa B (by show¬(av=I);exact b5),az.ext cb,Q.ext cb,br (b4.ext K) B (λr P he=>b6 ((show r=I from he)▸P)),
     b7.aa B (by show¬(aQ=I);omega),B.size⟩
   have cc:=sG (g:=aQ) (B0:=G.heap.size) (sv:=V) aJ;rw[aM]at cc;refine nr.old ⟨Nat,false,kV,#[Γ aQ],0,_,_,_,λq w'=>ae S G w'/\au .i64 am w' I bm (upto W 0 q),λ_ _ _=>False,rfl,cc.s,
    ?_,λ_ _ B h=>⟨h.1.ext B,h.2.1.ext B,Y7 h.2.2 B.size⟩,λ_ _ _ B h=>⟨h.1.trans (B.aa S),h.2.ext B⟩,λ_ _ _ _ _ h=>h,⟨b7,(b4.ext K).ls,o6 _⟩,⟨ae.refl _ _,?_⟩,?_,?_,λ_ _ h=>h.elim,λ_ _ _ h=>h.elim⟩
   .rintro _ _ _ _ ⟨_,_,_,_,rfl,_⟩;rfl
   .rw[o2,bn];exact cT.ext K
   .rintro _ aO q _ dR ⟨_,_,dS⟩ ⟨ap,rfl,dT,gt,cV,dU,cW⟩ ⟨aT,cX⟩;cases cV;let x:=cN (eu ag z) (q:Int);have cd:x.length=z.length:=by simp only[x];rw[jp,aE]
    intro cY X _ _;have ce:=cW.ext X;rw[aU an.u ce.ls];refine jL an.u ah.i (by rw[jp];omega) (by rw[jp];omega) λgo cg dV bt ch=>?_;have c0:au .i64 ah cg go (.slice (σ ⟨go,0,ν⟩) (cN (eu ag z) (q:Int)).length (cN (eu ag z) (q:Int)).length) (o5 (cN (eu ag z) (q:Int)).length 0):=au.of (n:=(cN (eu ag z) (q:Int)).length) (bX.full ch Ξ (by rw[jp];simp[maxLen];omega));generalize (x3.slice (σ ⟨go,0,ν⟩) (cN (eu ag z) (q:Int)).length (cN (eu ag z) (q:Int)).length)=c1 at*;have dW:=aT.size;have dX:=X.size;have dY:=bt.size;have lo:=ch.lt;have c2:ae S G cg:=aT.trans ((X.trans bt).aa S);have f:=facts c2;rw[aD Ψ (f.2.1.Qz rfl),aU an.u f.2.2.2.2.2.1];refine bU.range z.length (λj aV=>Ext cY aV/\∃y:Λ,y.length=z.length/\au .i64 ah aV go c1 y/\∀(i:Nat)(p:Int),i<j->z[i]?=σ p->y[p.toNat]?=x[i]?) Ω
     ⟨bt,_,by simp[cd,x],c0,λi p hi=>Ω⟩ ?_ ?_
    .rintro j aV Z bc ⟨ax,y,bu,aW,bA⟩ ad;simp only[aR,aj];refine⟨λ_=>?_,λh=>Ω⟩;have f:=facts (aT.trans ((X.trans ax).aa S));obtain⟨p,aX⟩:=aF (l:=z) bc;obtain⟨u,hu⟩:=aF (l:=x) (i:=j) Ω;have dZ:=(E.2 j p aX).1;rw[bb an.u ah.i Ψ f.2.2.2.2.2.1 aX,bb an.u ah.i Ψ (ce.ext ax).ls hu,h0 (i:=p.toNat) Ω an.u ah.i aW Ω];refine h2 ah.i aW Ω λea c3 eb c4=>?_;simp only[aL];refine ad _ ⟨ax.then c3 (by rintro r P rfl;omega),_,by simpa using bu,c4,λi a1 hi ay=>?_⟩;by_cases ci:i=j
     .subst ci;rw[aX]at ay;cases ay;rw[b8 Ω,hu]
     .have ec:=(E.2 i a1 ay).1;have ak:p.toNat≠a1.toNat:=λhe=>by
       have:p=a1:=Ω
       subst this;exact ci (E.inj ay aX)
      rw[Y4 ak];exact bA i a1 Ω ay
    .rintro aV Z ⟨ax,y,bu,aW,bA⟩;simp only[aR,aj];refine⟨λh=>Ω,λ_ c5 cj _ _=>?_⟩;have af:y=ma z x:=AS E (by rw[cd,bf]) (by rw[bu,bf]) λi p ck=>bA i p (x5.1 ck).1 ck;have cl:=ax.trans cj;have cm:ae S G c5:=aT.trans ((X.trans cl).aa S);obtain⟨f1,f2,f3,f4,f5,f6,f7,f8,f9⟩:=facts cm;rw[aD Ψ (f3.Qz rfl),aP cZ.p 2 f4 rfl,aD Ψ (f1.Qz rfl)];refine(vn f5 (aW.ls.ext cj)).mono ?_;rintro _ ed _ ⟨rfl,bB⟩;refine⟨.inl bB,?_⟩;obtain⟨e,he⟩:=wh ag y cs;rw[he,bx,bz];have c6:=cm.trans (bB.aa S);have cn:=(cX.ext ((X.trans cl).trans bB));have cM:(upto W 0 q).length=N:=by rw[nS,bn]
     rw[h0 rfl aq.u am.i cn Ω];refine h2 am.i cn Ω λc7 c8 ee cp=>?_;have cq:ae S G c7:=c6.trans (c8.mono λr _ h=>h);obtain⟨f1,f2,f3,f4,f5,f6,f7,f8,f9⟩:=facts cq;have c9:W[q]?=σ (bh ag cs y):=by
      simp only[W,nU];rw[v8,List.getElem?_range (by rw[aM];exact ap),af];rfl
     rw[pa c9]at cp;exact⟨⟨f8,f7.ls,f9⟩,⟨cq,cp⟩,λh=>by cases h⟩
   .rintro q eg ap ⟨bD,bF⟩;rw[show q=N from ap]at bF;have f:=facts bD;rw[aD Ψ (f.2.2.1.Qz rfl)];intro eh bG _;obtain⟨f1,f2,f3,f4,f5,f6,f7,f8,f9⟩:=facts (bD.trans (bG.aa S));rw[<-bn,o3]at bF;have bo:Ext w G:=(ao.trans b1).trans K;refine⟨(bo.put bD Ω).trans bG,λda=>absurd E da,λ_=>⟨av,I,V,rfl,⟨bm,b2,f4,f7,bF.ext bG⟩,⟨b5,b6,bV⟩,aJ,AU _ _ _⟩⟩
def hg(l:Λ):Prop:=∀(i j:Nat)(x y:Int),i<j->l[i]?=σ x->l[j]?=σ y->x<y
def hg.inj(h:hg l){i:Nat}{x:Int}(hi:l[i]?=σ x)(a:l[j]?=σ x):i=j:=by
 rcases Nat.lt_trichotomy i j with h1|h1|h1
 .have:=h i j x x h1 hi a;omega
 .exact h1
 .have:=h j i x x h1 a hi;omega
def dedup(l:Λ):Nat->Λ
 |0=>[]
 |j+1=>if 0<j/\l[j]?=l[j-1]? then dedup l j else dedup l j++[l.getD j 0]
theorem Co(l:Λ):∀j,(dedup l j).length<=j
 |0=>o6 _
 |j+1=>by
  have:=Co l j;unfold dedup;split
  .omega
  .simp;omega
def wk(a:0<j)(h:l[j]?=l[j-1]?):dedup l (j+1)=dedup l j:=by
 rw[dedup,if_pos ⟨a,h⟩]
def wm{x:Int}(e:l[j]?=σ x)(h:0<j->l[j]? ≠l[j-1]?):dedup l (j+1)=dedup l j++[x]:=by
 rw[dedup,if_neg (λa=>h a.1 a.2),u4,e];rfl
theorem s8{l:Λ}:∀{j:Nat},j<=l.length->(∀i,i<j->0<i->l[i]? ≠l[i-1]?)->dedup l j=l.take j
 |0,_,_=>by simp[dedup]
 |j+1,f,h=>by
  have a:l[j]?=σ l[j]:=x7 Ω;rw[wm a (h j Ω),s8 Ω (λi hi e=>h i Ω e),u9,a];rfl
theorem Cp{l:Λ}(I:l.Pairwise (·<= ·)):∀{j:Nat},j<=l.length->(hg (dedup l j)/\∀x,x∈dedup l j↔x∈l.take j)
 |0,_=>⟨λi j x y _ h=>by simp[dedup]at h,λx=>by simp[dedup]⟩
 |j+1,J=>by
  obtain⟨h1,q⟩:=Cp I (j:=j) Ω;have f:l[j]?=σ l[j]:=x7 Ω;by_cases p:0<j/\l[j]?=l[j-1]?
  .rw[wk p.1 p.2];refine⟨h1,λx=>?_⟩;rw[q,u9,f];simp only[l7,j0,j6];refine⟨.inl,λh=>h.elim id λhe=>?_⟩;subst he;have s:(l.take j)[j-1]?=σ l[j]:=by rw[Y0 Ω,<-p.2,f]
   exact x6 s
  .have w:0<j->l[j]? ≠l[j-1]?:=λB he=>p ⟨B,he⟩;rw[wm f w];have C:∀x∈dedup l j,x<l[j]:=λx E=>by
    obtain⟨i,hi,he⟩:=List.getElem_of_mem ((q x).1 E);have K:i<j:=by rw[o7]at hi;omega
    rw[List.getElem_take]at he;subst he;have s:l[i]<=l[j-1]:=by
     by_cases z:i=j-1
     .subst z;exact Int.le_refl _
     .exact V9.1 I i (j-1) Ω Ω Ω
    have z:=V9.1 I (j-1) j Ω Ω Ω;have A:=w Ω;rw[f,x7 (show j-1<l.length by omega)]at A;have L:l[j]≠l[j-1]:=λh=>A (by rw[h]);omega
   refine⟨λa b x y F r e=>?_,λx=>?_⟩
   .have G:=(x5.1 e).1;simp only[o4,Z2,List.length_nil]at G;rw[Y3 Ω]at r;by_cases H:b=(dedup l j).length
    .subst H;rw[Y5 (o6 _),T2]at e;simp at e;subst e;exact C x (x6 r)
    .rw[Y3 Ω]at e;exact h1 a b x y F r e
   .rw[u9,f];simp only[l7,j0,j6,q]
def qJ(l:Λ):Prop:=∀(j:Nat)(x:Int),l[j]?=σ x->0<=x/\(0<j->∀y,l[j-1]?=σ y->y<x)
def qJ.up(h:qJ l):hg l:=by
 intro i j x y r f;induction j generalizing y with
 |zero=>omega
 |succ j p=>
  intro e;have s:=(x5.1 e).1;obtain⟨z,a⟩:∃z,l[j]?=σ z:=⟨_,x7 (show j<l.length by omega)⟩;have h1:=(h (j+1) y e).2 Ω z (by simpa using a);by_cases q:i=j
  .subst q;rw[f]at a;cases a;exact h1
  .have:=p z Ω a;omega
def Mv(h:hg l)(e:∀x∈l,0<=x):qJ l:=λj x a=>⟨e x (x6 a),λp y f=>h (j-1) j y x Ω f a⟩
def Cq{g H:Nat}{cw:x3}(h:dd w g H sv ag k cs)(a:aG .i64 w cw l):
  ai x8 Ie [Γ g,cw] w λv w'=>Ext w w'/\∃c,v= .bool c/\(c=true↔l.length=ag.length/\qJ l):=by
 obtain⟨⟨aZ,gs,I,hm,q⟩,_⟩:=h;have sub:w.rangeAt g (0+0) [sv]:=nN I (by
  intro j v r
  match j,r with
  |0,r=>exact r)
 refine az func226 ?_;rw[aU an.u a,bY,aS cZ.p rfl,bE (cs:=[sv]) bC.p bC.i rfl sub];refine(Bf hm.ls).mono ?_;rintro _ J _ ⟨rfl,s⟩;simp only[bN,aj];refine⟨λK=>⟨s,false,rfl,(λh=>by cases h),λh=>absurd (by rw[h.1]) K⟩,λE=>?_⟩;have E:l.length=ag.length:=Ω
 rw[aU an.u (a.ext s)];refine b4.range l.length (λi _ U=>Ext w U/\∀(j:Nat)(x:Int),j<i->l[j]?=σ x->0<=x/\(0<j->∀y,l[j-1]?=σ y->y<x)) a.le ⟨s,λj x L=>Ω⟩ ?_ ?_
 .rintro i _ U M hi ⟨e,z⟩ N;simp only[aR,aj];refine⟨λ_=>?_,λh=>Ω⟩;obtain⟨x,f⟩:=aF (l:=l) hi;have V:=a.le;rw[bb an.u ah.i Ψ (a.ext e) f];refine aW (λv O=>U=O/\∃c,v= .bool c/\(c=false↔0<=x/\(0<i->∀y,l[i-1]?=σ y->y<x))) ?_ ?_
  .rintro _ _ ⟨rfl,c,rfl,q⟩;rw[cg];simp only[aL];refine⟨λP=>⟨e,false,rfl,(λh=>by cases h),λh=>?_⟩,λQ=>N _ _ ⟨e,λj R L A=>?_⟩⟩
   .have:=q.2 (h.2 i x f);rw[P]at this;cases this
   .by_cases S:j=i
    .subst S;rw[f]at A;cases A;exact q.1 Q
    .exact z j R Ω A
  .intro ax B;simp only[aR,bS,ed,aj];refine⟨λW=>B _ _ ⟨rfl,true,rfl,(λh=>by cases h),λh=>Ω⟩,λX=>⟨λY=>?_,λZ=>B _ _ ⟨rfl,false,rfl,λ_=>⟨Ω,λh=>Ω⟩,λ_=>rfl⟩⟩⟩;obtain⟨y,C⟩:∃y,l[i-1]?=σ y:=⟨_,x7 (show i-1<l.length by omega)⟩;rw[wrap_i64 Ω Ω,fq (i:=i-1) Ω an.u ah.i Ψ (a.ext e) C];simp only[cS];refine B _ _ ⟨rfl,_,rfl,?_⟩;rw[decide_eq_false_iff_not];refine⟨λh=>⟨Ω,λ_ aa G=>by rw[C]at G;cases G;omega⟩,λh=>by have:=h.2 Ω y C;omega⟩
 .rintro _ U M ⟨e,z⟩;simp only[aR,aj];exact⟨λh=>Ω,λ_=>⟨e,true,rfl,λ_=>⟨E,λj x f=>z j x (x5.1 f).1 f⟩,λ_=>rfl⟩⟩
def hJ(l:Λ)(x:Int):Int:=if x∈l then(l.idxOf x:Int)else-1
def Cr{i:Nat}{x:Int}(h:hg l)(hi:l[i]?=σ x):hJ l x=i:=by
 have hm:x∈l:=x6 hi;have a:=List.idxOf_lt_length_of_mem hm;have e:l.idxOf x=i:=h.inj (by rw[x7 a,List.getElem_idxOf a]) hi;unfold hJ;rw[if_pos hm,e]
def Mw{x:Int}(h:x∉l):hJ l x= -1:=if_neg h
def wn{x:Int}(h:aG .i64 w sv l)(hu:hg l):
  ai x8 zr [sv,Δ x] w λv w'=>v=Δ (hJ l x)/\Ext w w':=by
 refine az func224 ?_;rw[aU an.u h];refine b4.range l.length (λi _ J=>Ext w J/\∀j,j<i->l[j]? ≠σ x) h.le ⟨Ext.refl _,λj p=>Ω⟩ ?_ ?_
 .rintro i _ J k hi ⟨a,e⟩ hk;simp only[aR,aj];refine⟨λ_=>?_,λh=>Ω⟩;obtain⟨y,f⟩:=aF (l:=l) hi;rw[bb an.u ah.i Ψ (h.ext a) f];simp only[bf,aj,aL];refine⟨λhe=>⟨?_,a⟩,λhe=>hk _ _ ⟨a,λj p=>?_⟩⟩
  .subst he;rw[Cr hu f]
  .by_cases q:j=i
   .subst q;rw[f];intro h;exact he (Z0 h).symm
   .exact e j Ω
 .rintro _ J k ⟨a,e⟩;simp only[aR,aj];refine⟨λh=>Ω,λ_=>⟨?_,a⟩⟩;rw[Mw];intro hm;obtain⟨i,hi,he⟩:=List.getElem_of_mem hm;exact e i hi (by rw[x7 hi,he])
def e7(x vars scope:Λ):Λ:=scope.map λp=>x.getD (vars.idxOf p) 0
def Mx(x vars scope:Λ):(e7 x vars scope).length=scope.length:=by simp[e7]
def Cs{ei s:x3}{x vars:Λ}(C:aG .i64 w ei x)(E:aG .i64 w s vars)(I:aG .i64 w sv scope)(hu:hg vars)(G:∀p∈scope,p∈vars)(Q:x.length=vars.length)(R:scope.length<=1000):
  ai x8 Ij [ei,s,sv] w λv w'=>Ext w w'/\∃g,w.heap.size<=g/\au .i64 ah w' g v (e7 x vars scope):=by
 refine az func231 ?_;rw[aU an.u I];refine jL an.u ah.i Ω Ω λgz J S y H=>?_;have K:au .i64 ah J gz (.slice (σ ⟨gz,0,ν⟩) scope.length scope.length) (o5 scope.length 0):=au.of (n:=scope.length) (bX.full H Ξ (by simp[maxLen];omega));generalize (x3.slice (σ ⟨gz,0,ν⟩) scope.length scope.length)=L at*;rw[aU an.u (I.ext y)];have j:=Mx x vars scope;refine bU.range scope.length (λi U=>Ext w U/\au .i64 ah U gz L (upto (e7 x vars scope) 0 i)) Ω ⟨y,by rw[o2,j];exact K⟩ ?_ ?_
 .rintro i U M hi ⟨a,hm⟩ N;simp only[aR,aj];refine⟨λ_=>?_,λh=>Ω⟩;obtain⟨p,q⟩:=aF (l:=scope) hi;have z:=G p (x6 q);have V:=List.idxOf_lt_length_of_mem z;rw[bb an.u ah.i Ψ (I.ext a) q];refine(wn (E.ext a) hu).mono ?_;rintro _ W _ ⟨rfl,f⟩;have e:hJ vars p=(vars.idxOf p:Int):=if_pos z;obtain⟨u,A⟩:∃u,x[vars.idxOf p]?=σ u:=⟨_,x7 Ω⟩;have X:(upto (e7 x vars scope) 0 i).length=scope.length:=by rw[nS,j]
  rw[fq (i:=vars.idxOf p) e an.u ah.i Ψ (C.ext (a.trans f)) A,h0 rfl an.u ah.i (hm.ext f) Ω];refine h2 ah.i (hm.ext f) Ω λY O _ B=>?_;simp only[aL];have P:(e7 x vars scope)[i]?=σ u:=by
   unfold e7;rw[v8,q,Z7,u4,A];rfl
  rw[pa P]at B;exact N _ ⟨(a.trans f).then O (by rintro r Z rfl;omega),B⟩
 .rintro U M ⟨a,hm⟩;simp only[aR,aj];refine⟨λh=>Ω,λ_=>⟨a,gz,Ω,?_⟩⟩;rw[<-j,o3]at hm;exact hm
def Ct(j:t≠[])(hw:∀b∈t,bO b=true):lex t=([t],true):=by
 cases t with
 |nil=>exact absurd rfl j
 |cons b q=>
  have a:q.dropWhile bO=[]:=by
   have:∀(q:Λ),(∀x∈q,bO x=true)->q.dropWhile bO=[]/\q.takeWhile bO=q:=λq a=>by
    induction q with
    |nil=>simp
    |cons x q e=>
     have:=e λy f=>a y (.tail _ f);simp[a x (.head _),this.1,this.2]
   exact(this q λx h=>hw x (.tail _ h)).1
  have p:q.takeWhile bO=q:=by
   have:∀(q:Λ),(∀x∈q,bO x=true)->q.takeWhile bO=q:=λq a=>by
    induction q with
    |nil=>simp
    |cons x q e=>simp[a x (.head _),e λy f=>a y (.tail _ f)]
   exact this q λx h=>hw x (.tail _ h)
  rw[Ak (hw b (.head _)),a,p]
def Cu{p:x3}(h:aG .u8 w p l)(e:Bytes l)(f:l.length<=100000):ai x8 y6 [p] w λv w'=>Ext w w'/\∃g R,v=Γ g/\w.heap.size<=g/\hE w' g R (lex l).1 (lex l).2/\¬R g:=by
 refine(As h e f).mono ?_;rintro _ J _ ⟨j,g,rfl,q,s,a⟩;obtain⟨h1,z,A,x,bq,hm⟩:=id a;exact⟨j,g,λr=>r≠g,rfl,q,⟨s,l,0,a,λr y=>ch hm x Φ y,by rw[List.drop_zero]⟩,λh=>h rfl⟩
def My{p:x3}(h:aG .u8 w p t)(y:Bytes t)(z:t.length<=100000)(A:t≠[])(hw:∀b∈t,bO b=true):ai x8 Iv [p] w λv w'=>Ext w w'/\∃n:Int,v= .tuple #[Δ 1,Δ n,Δ 0]:=by
 have B:=Ct A hw;refine az func253 ?_;refine(Cu h y z).mono ?_;rintro _ J _ ⟨C,g,R,rfl,G,j,H⟩;rw[B]at j;refine⟨λ_ _ _ a U=>ae (λr=>r=g) J U/\((a=Δ 0/\hE U g R [t] true)\/(a=Δ 1/\hE U g R [] true)),λ_ _ _ a _=>1-(b0 a).toNat,⟨ae.refl _ _,.inl ⟨rfl,j⟩⟩,?_⟩;rintro _ _ _ _ U ⟨q,⟨rfl,e⟩|⟨rfl,e⟩⟩
 .refine (qm e).mono ?_;rintro v s _ ⟨f,E,n,rfl⟩;rw[gY,gZ,ha,bf,aj];refine⟨λ_=>?_,λh=>absurd rfl h⟩;rw[aL,wrap_i64 Ω Ω];exact⟨⟨q.trans f,.inr ⟨rfl,E⟩⟩,by simp[b0]⟩
 .refine (qm e).mono ?_;rintro v s _ ⟨f,n,rfl⟩;rw[gY,gZ,ha,bf,aj];refine⟨λh=>by simp at h,λ_=>?_⟩;rw[bf,aj];refine⟨λh=>by simp at h,λ_=>?_⟩;have x:Ext w s:=C.then (q.trans f) (λr I he=>by have he:r=g:=he;omega);rw[aU cM.u (h.ext x)];exact⟨x,_,rfl⟩
def Mz(a:Bytes t)(e:t.length<=100000)(f:t≠[])(hw:∀b∈t,bO b=true):ai x8 H8 [bT t] w λv w'=>v= .bool true/\Ext w w':=by
 have y:=Ct f hw;refine az func217 ?_;refine vt c5.u cM.u cI.u a Ω λbv J j z _=>?_;refine(My z a e f hw).mono ?_;rintro _ U _ ⟨p,n,rfl⟩;rw[gY,gZ,ha];refine vt c5.u cM.u cI.u a Ω λI K q A _=>?_;refine(Cu A a e).mono ?_;rintro _ L _ ⟨B,g,R,rfl,M,s,N⟩;rw[y]at s;refine(qm s).mono ?_;rintro _ x _ ⟨C,_,m,rfl⟩;rw[gY,gZ,ha];have E:Ext w x:=(((j.trans p).trans (q.trans B))).then C (λr O he=>by
  have he:r=g:=he;have:=j.size;have:=p.size;have:=q.size;omega)
 refine aW (λv G=>x=G/\v= .bool true) ?_ ?_
 .rintro _ _ ⟨rfl,rfl⟩;exact⟨rfl,E⟩
 .intro ax H;rw[bf,aj];refine⟨λ_=>?_,λh=>absurd rfl h⟩;rw[bf,aj];refine⟨λ_=>?_,λh=>absurd rfl h⟩;rw[Ag a a];exact H _ _ ⟨rfl,by rw[decide_eq_true rfl]⟩
def MA{x:Int}:ai x8 u1 [Δ x] w λv w'=>v= .bool (decide (¬ip x))/\Ext w w':=by
 refine az func216 ?_;refine aW (λv J=>w=J/\v= .bool (decide (¬ip x))) ?_ ?_
 .rintro _ _ ⟨rfl,rfl⟩;exact⟨rfl,Ext.refl _⟩
 .intro ax e;rw[aR,aj];refine⟨λh=>e _ _ ⟨rfl,by rw[decide_eq_true];intro a;have:=a.1;omega⟩,λh=>?_⟩;rw[bS];refine e _ _ ⟨rfl,?_⟩;congr 1;rw[V7,decide_eq_true_eq,decide_eq_true_eq];exact⟨λf a=>by have:=a.2;omega,λf=>by
   by_cases j:32<x
   .exact j
   .exact absurd ⟨Ω,Ω⟩ f⟩
def MB(h:aG .i64 w sv l)(f:∀x∈l,ip x):
  ai x8 u0 [sv,.func (.func u1) #[] #[]] w λv w'=>v= .bool false/\Ext w w':=by
 refine az func214 ?_;refine ai.mono (K:=λv w'=>v=Δ (-1)/\Ext w w') ?_ ?_
 .refine az func138 ?_;rw[aU an.u h];refine b4.range l.length (λ_ _ J=>Ext w J) h.le (Ext.refl _) ?_ ?_
  .rintro i _ J k hi a hk;refine bA Ω ?_;obtain⟨x,e⟩:=aF (l:=l) hi;rw[bb an.u ah.i Ψ (h.ext a) e];show ai x8 u1 [Δ x] J _;refine MA.mono ?_;rintro _ U _ ⟨rfl,j⟩;rw[aj];refine⟨λp=>absurd (f x (x6 e)) p,λ_=>?_⟩;rw[aL];exact hk _ _ (a.trans j)
  .rintro _ J k a;rw[aR,aj];exact⟨λh=>Ω,λ_=>⟨rfl,a⟩⟩
 .rintro _ J _ ⟨rfl,a⟩;rw[cS];exact⟨rfl,a⟩
def s9{m:Bool}{S R:af}{cs:List x3}{d:hf}(h:al.rep m S R w cs d):∃sv g a aO gs,cs=[sv,Γ g]/\aG .i64 w sv d.1/\fK w g a aO gs d.2.ag d.2.k d.2.o d.2.D:=by
 obtain⟨c,e,A,B,rfl,_,_,_,h1,f⟩:=h;have h1:al.rep (α:=Λ) false bu R w c d.1:=h1;obtain⟨u,rfl⟩:=V2.1 (show c.length=1 from al.len h1);obtain⟨g,m,sv,gs,rfl,j,_⟩:=f;exact⟨u,g,m,sv,gs,rfl,dJ h1,j⟩
def MC{W:Nat}{f:cb}{cs:List x3}{d:hf}{x:cv}{m:Bool}{S R:af}(ao:ll w W f)(ap:fd N f)(aq:x∈f.funs)(au:qI f.k x d)(av:al.rep m S R w cs d):
  ai x8 Iw [Γ W,.agg cs.toArray] w λv w'=>v= .bool true/\Ext w w':=by
 obtain⟨szv,aK,gz,aM,X,Y,_,_⟩:=ao;obtain⟨sv,ad,aN,aO,gs,rfl,s,K⟩:=s9 av;obtain⟨aw,Z,ay,aQ,aS,aT⟩:=au;obtain⟨G,aV,aX⟩:=ap.funs x aq;rw[aw]at s;refine az func255 ?_;refine bk λak J aZ A H=>?_;have H:ac J ak cE [sv,Γ ad]:=by obtain⟨_,_,_,rfl⟩:=c8 s;exact H
 refine aW (λv U=>Ext J U/\v= .bool false) ?_ ?_
 rotate_left
 .intro ax L;intro U q _ _;have z:=H.ext q;rw[aH cE.p 1 z rfl,dc eU.u];simp only[Z6,aY];rw[aH cE.p 1 z rfl,aP cD.p 1 (X.ext (A.trans q)) rfl];refine(KP (K.ext (A.trans q)).is).mono ?_;rintro _ B _ ⟨rfl,a⟩;refine⟨.inl a,?_⟩;rw[bN,aj];refine⟨λh=>absurd ay h,λ_=>?_⟩;have C:=z.ext a;have M:=q.trans a;rw[aH cE.p 1 C rfl,aH cE.p 0 C rfl,aU an.u (s.ext (A.trans M))];refine(KQ (K.ext (A.trans M)).is).mono ?_;rintro _ I _ ⟨rfl,e⟩;refine⟨.inl e,?_⟩;rw[bN];refine L _ _ ⟨M.trans e,?_⟩;rw[decide_eq_false];intro h;exact h (by rw[Z,G.sizes,u7])
 rintro _ U ⟨q,rfl⟩;rw[aY];have z:=H.ext q;have O:=A.trans q;rw[aH cE.p 0 z rfl,aU an.u (s.ext O)];refine b4.range x.scope.length (λ_ _ B=>Ext U B) Ω (Ext.refl _) ?_ ?_
 rotate_left
 .rintro _ B k a;rw[aR,aj];exact⟨λh=>Ω,λ_=>⟨rfl,O.trans a⟩⟩
 rintro i _ B k hi a hk;obtain⟨v,E⟩:=aF (l:=x.scope) hi;have a1:=G.scope.2 v (x6 E);have P:=O.trans a;have C:=z.ext a;have aa:=X.ext P;have aA:f.sizes[v.toNat]?=σ (f.sizes.getD v.toNat 0):=by
  rw[u4,x7 Ω];rfl
 refine bA Ω ?_;rw[bb an.u ah.i Ψ (s.ext P) E];refine aW (λb I=>Ext B I/\b= .bool false) ?_ ?_
 .rintro _ I ⟨e,rfl⟩;rw[aY,aL];exact hk _ _ (a.trans e)
 .intro ax L;intro I e _ _;have Q:=P.trans e;refine b2 Ω ?_;rw[aP cD.p 2 (aa.ext e) rfl,aU an.u (Y.ls.ext Q),cS,aj];refine⟨λh=>Ω,λ_=>?_⟩;rw[aH cE.p 0 (C.ext e) rfl];refine(Cn (s.ext Q)).mono ?_;rintro _ a2 _ ⟨ab,r,rfl,aB⟩;have aC:r=(i:Int):=(aB i E).2 λj a6 aE=>by have:=kw G.scope.1 aE E;omega
  subst aC;have ae:=Q.trans ab;have V:=e.trans ab;rw[bN,aj];refine⟨λh=>absurd rfl h,λ_=>?_⟩;rw[aH cE.p 1 (C.ext V) rfl,aP cD.p 2 (aa.ext V) rfl];refine qf (y:=v) (i:=v.toNat) Ω an.u ah.i (Y.ls.ext ae) aA λb o aG=>?_;rw[aD Ψ aG];refine(vP (K.ext ae).is).mono ?_;rintro a7 a8 _ ⟨am,ba,bc,aI⟩;refine⟨.inl am,?_⟩;have aJ:d.2.ag[i]?=σ (f.sizes.getD v.toNat 0):=by
   rw[Z,G.sizes,v8,E];rfl
  rw[bb an.u ah.i Ψ aI.ls aJ,bN];exact L _ _ ⟨V.trans am,by rw[decide_eq_false (λh=>h rfl)]⟩
def MD{f:cb}{cs:List x3}{d:hf}{x:cv}{m:Bool}{S R:af}(q:ll w j f)(r:fd N f)(s:x∈f.funs)(y:qI f.k x d)(a:al.rep m S R w cs d):
  ai x8 u2 [Γ j,.agg cs.toArray] w λv w'=>v= .bool false/\Ext w w':=by
 refine az func219 ?_;refine bk λak J C e h=>?_;have z:cs.length=2:=al.len a;have h:ac J ak cE cs:=by
  obtain⟨sv,ad,E,aO,gs,rfl,A,G⟩:=s9 a;obtain⟨_,_,_,rfl⟩:=c8 A;exact h
 rw[bE cE.p cE.i z h.range];refine(MC (q.ext e) r s y (bm a e)).mono ?_;rintro _ U _ ⟨rfl,B⟩;rw[bJ];exact⟨rfl,e.trans B⟩
def ME{f:cb}{r:x3}{e:List hf}{m:Bool}{S R:af}(A:ll w j f)(B:fd N f)(q:al.rep m S R w [r] e)(s:s7 f.k f.funs e):
  ai x8 H9 [r,.func (.func u2) #[Γ j] #[]] w λv w'=>v= .bool false/\Ext w w':=by
 refine az func218 ?_;refine ai.mono (K:=λv w'=>v=Δ (-1)/\Ext w w') ?_ ?_
 .refine az func254 ?_;rw[gq dO.u q];refine b4.range e.length (λ_ _ J=>Ext w J) (mG q) (Ext.refl _) ?_ ?_
  .rintro i _ J k hi a hk;refine bA Ω ?_;obtain⟨d,y⟩:=aF (l:=e) hi;obtain⟨x,z⟩:∃x,f.funs[i]?=σ x:=⟨_,x7 (by have:=s.1;omega)⟩;refine l2 (α:=hf) cE.p rfl dO.u cE.i (bm q a) y λcs C=>?_;show ai x8 u2 [Γ j,.agg cs.toArray] J _;refine(MD (A.ext a) B (x6 z) (s.2 i x d z y) C).mono ?_;rintro _ U _ ⟨rfl,E⟩;rw[aY,aL];exact hk _ _ (a.trans E)
  .rintro _ J k a;rw[aR,aj];exact⟨λh=>Ω,λ_=>⟨rfl,a⟩⟩
 .rintro _ J _ ⟨rfl,a⟩;rw[cS];exact⟨rfl,a⟩
def mf(a:List cv):Nat:=(a.map λx=>x.lines.length).sum
def MF{ae:Nat}{f:cb}(af:ll w ae f)(r:fd N f)(be:N<=60000)(V:f.name≠[]/\∀b∈f.name,bO b=true):
  ai x8 HH [Γ ae] w λv w'=>Ext w w'/\∃e:Int,v=Δ e/\(mf f.funs<=16384->e=0):=by
 obtain⟨szv,bg,gz,y,A,W,X,B⟩:=id af;have bh:=r.name;have aC:Bytes f.name:=λb aD=>by
  have:=of_decide_eq_true (V.2 b aD);omega
 refine az func175 ?_;rw[dc va.u];simp only[Z6,aY];refine aW (λv J=>Ext w J/\v= .bool false) ?_ ?_
 rotate_left
 .intro ax s;rw[aP cD.p 0 A rfl];refine(Mz aC Ω V.1 V.2).mono ?_;rintro _ J _ ⟨rfl,q⟩;rw[bJ,X3,aY];rw[aP cD.p 2 (A.ext q) rfl,aU an.u (W.ls.ext q),bf,aj];refine⟨λh=>by have:=r.sizes.1;omega,λ_=>?_⟩;rw[aP cD.p 2 (A.ext q) rfl];refine(MB (W.ls.ext q) r.sizes.2.2).mono ?_;rintro _ U _ ⟨rfl,C⟩;have al:=q.trans C;rw[aY,aP cD.p 1 (A.ext al) rfl];refine zP.mono ?_;rintro _ E _ ⟨rfl,G⟩;have M:=al.trans G;rw[decide_eq_true (show right f.k from r.k),bJ,X3,aY,aP cD.p 3 (A.ext M) rfl,k0];refine(ME (af.ext M) r (bm X M) B).mono ?_;rintro _ ao _ ⟨rfl,aE⟩;exact s _ _ ⟨M.trans aE,rfl⟩
 rintro _ J ⟨q,rfl⟩;rw[aY];have O:=A.ext q;refine aW (λv U=>J=U/\v= .bool false) ?_ ?_
 rotate_left
 .intro ax s;rw[aP cD.p 0 O rfl,nP c5.u,bS,aj];refine⟨λh=>Ω,λ_=>?_⟩;rw[aP cD.p 2 O rfl,aU an.u (W.ls.ext q),bS,aj];refine⟨λh=>by have:=r.sizes.2.1;omega,λ_=>?_⟩;rw[aP cD.p 3 O rfl,gq dO.u (bm X q),bS];exact s _ _ ⟨rfl,by rw[decide_eq_false];have:=r.la;have:=B.1;omega⟩
 rintro _ _ ⟨rfl,rfl⟩;have ap:=bm X q;rw[aP cD.p 3 O rfl,gq dO.u ap];refine⟨λaG aI Y U=>∃i n:Nat,Y=Δ (i:Int)/\i<=y.length/\aG=Δ (n:Int)/\aI= .bool false/\Ext J U/\n<=mf (f.funs.take i)/\n<=i*60000,λ_ _ Y _=>y.length-(b0 Y).toNat,
  ⟨0,0,rfl,X8 _,rfl,rfl,Ext.refl _,X8 _,Ω⟩,?_⟩
 rintro _ _ _ U ⟨i,n,rfl,hi,rfl,rfl,C,aJ,bi⟩;have bj:y.length<=256:=by rw[B.1];exact r.la
 rw[aR,aj];refine⟨λav=>?_,λbk=>?_⟩
 .have av:i<y.length:=Ω
  obtain⟨d,aw⟩:=aF (l:=y) av;obtain⟨x,Z⟩:∃x,f.funs[i]?=σ x:=⟨_,x7 (by have:=B.1;omega)⟩;have P:=B.2 i x d Z aw;obtain⟨Q,aK,aM⟩:=r.funs x (x6 Z);have bl:=Q.len;refine ii (λa b E=>Ext U E/\a=Δ ((n+d.2.D.length:Nat):Int)/\b= .bool false) ?_ ?_
  .rintro _ _ E ⟨G,rfl,rfl⟩;rw[aL,wrap_i64 Ω Ω];have aN:=P.2.2.2.2.1;refine⟨⟨i+1,n+d.2.D.length,rfl,Ω,rfl,rfl,C.trans G,?_,?_⟩,by simp only[b0];omega⟩
   .have e:mf (f.funs.take (i+1))=mf (f.funs.take i)+x.lines.length:=by
     unfold mf;rw[u9,Z,l7,Z4,List.sum_append,T0,List.map_nil,List.sum_cons,List.sum_nil,Nat.add_zero]
    omega
   .have:(i+1)*60000=i*60000+60000:=Ω
    have bn:d.2.D.length<=60000:=Ω
    omega
  .intro ax s;refine l2 (α:=hf) cE.p rfl dO.u cE.i (bm ap C) aw λcs aQ=>?_;obtain⟨sv,ad,bo,aO,gs,rfl,aS,ay⟩:=s9 aQ;refine bw cE.i λak E bp G aT=>?_;refine b1 (vs:=[sv,Γ ad]) cE.i rfl rfl (by intro v R;simp at R;rcases R with rfl|rfl<;>first|exact aS.cells.2|rfl) aT λao aV bq aA=>?_;have aa:Ext U ao:=G.put aV Ω;rw[aH cE.p 1 aA rfl];refine(KO (ay.ext aa).is).mono ?_;rintro _ br _ ⟨rfl,ab⟩;have aN:=P.2.2.2.2.1;rw[aL,wrap_i64 Ω Ω,aH cE.p 1 (aA.ext ab) rfl];refine(vP ((ay.ext aa).ext ab).is).mono ?_;rintro bt ac _ ⟨aX,bu,bx,aB⟩;rw[aU an.u aB.ls];have bz:d.2.ag.length<=6:=by rw[P.2.1,Q.sizes,u7];exact aK
   refine b4.range d.2.ag.length (λj out S=>Ext ac S/\∃gr,ac.heap.size<=gr/\au .i64 am S gr out (d.2.ag.take j)) Ω ⟨Ext.refl _,ac.heap.size,o6 _,au.nil _ _ _ _⟩ ?_ ?_
   .rintro j out S k aZ ⟨H,gr,a1,I⟩ hk;obtain⟨z,K⟩:=aF (l:=d.2.ag) aZ;refine bA Ω ?_;rw[bb an.u ah.i Ψ (aB.ls.ext H) K];refine et aq.u am.i rfl λa ga a2 bB L a6=>?_;refine jo aq.u am.i rfl (I.ext L) a6.ls Θ Θ λbC a7 bD bE a8 ba=>?_;have bF:=H.size;have bG:=L.size;rw[aL];refine hk _ _ ⟨(H.trans L).put ba Ω,a7,Ω,?_⟩;rw[u9,K];exact a8
   .rintro out S k ⟨H,gr,a1,I⟩;rw[o8]at I;refine b2 Ω ?_;rw[aY];have bc:d.2.ag=x.sizes:=P.2.1;rw[bc]at I;refine(Bb I.ls λz K=>?_).mono ?_
    .rw[Q.sizes]at K;obtain⟨v,R,rfl⟩:=l9.1 K;have bH:=Q.scope.2 v R;refine(r.sizes.2.2 _ ?_).1;rw[u4,x7 Ω];exact S4 _
    .rintro _ a2 _ ⟨rfl,L⟩;refine s _ _ _ ⟨(((aa.trans ab).trans aX).trans H).trans L,by congr 1,by rw[aM]⟩
 .have bd:i=y.length:=Ω
  subst bd;rw[B.1,o8]at aJ;refine aW (λv E=>U=E/\v= .bool (decide (16384<(n:Int)))) ?_ ?_
  .rintro _ _ ⟨rfl,rfl⟩;rw[aj];refine⟨λh=>⟨q.trans C,5,rfl,λbI=>Ω⟩,λh=>⟨q.trans C,0,rfl,λ_=>rfl⟩⟩
  .intro ax s;rw[aY,bS];exact s _ _ ⟨rfl,rfl⟩
theorem ta:∀{a b:Λ}{i:Nat},(∀(j:Nat)(x y:Int),j<i->a[j]?=σ x->b[j]?=σ y->x=y)->i<=a.length->i<=b.length->fY a b=fY (a.drop i) (b.drop i)
 |_,_,0,_,_,_=>Ξ
 |[],_,i+1,_,h,_=>by simp at h
 |_::_,[],i+1,_,_,h=>by simp at h
 |x::a,y::b,i+1,he,h1,e=>by
  have f:=he 0 x y Ω rfl rfl;subst f;simp only[fY,Int.lt_irrefl,if_false,List.drop_succ_cons];exact ta (λj u v q hu p=>he (j+1) u v Ω hu p) (by simpa using h1) (by simpa using e)
def Cv{x:Int}:ai x8 cmp_isNaN_int [Δ x] w λv w'=>v= .bool false/\Ext w w':=by
 refine az func235 ?_;simp only[bN];exact⟨Ξ,Ext.refl _⟩
def Cw{x:Int}:ai x8 HO [Δ x,Δ y] w λv w'=>v=Δ (if x<y then-1 else if y<x then 1 else 0)/\Ext w w':=by
 refine az func188 ?_;refine Cv.mono ?_;rintro _ J _ ⟨rfl,a⟩;refine Cv.mono ?_;rintro _ U _ ⟨rfl,e⟩;simp only[aY,aR,bS,aj];exact⟨λh=>⟨by rw[if_pos h],a.trans e⟩,λh=>⟨λf=>⟨by rw[if_neg h,if_pos f],a.trans e⟩,λf=>⟨by rw[if_neg h,if_neg f],a.trans e⟩⟩⟩
def MG{b:Λ}(r:aG .i64 w ba a)(z:aG .i64 w bv b):ai x8 HP [ba,bv] w λv w'=>v=Δ (fY a b)/\Ext w w':=by
 refine az func189 ?_;have Z:=r.le;rw[aU an.u r];refine⟨λ_ A J=>∃i:Nat,A=Δ (i:Int)/\i<=a.length/\i<=b.length/\Ext w J/\∀(j:Nat)(x y:Int),j<i->a[j]?=σ x->b[j]?=σ y->x=y,λ_ A _=>a.length-(b0 A).toNat,⟨0,rfl,X8 _,X8 _,Ext.refl _,λj x y O=>Ω⟩,?_⟩;rintro _ _ J ⟨i,rfl,P,Q,f,I⟩;have p:fY a b=fY (a.drop i) (b.drop i):=ta I P Q;simp only[aR,aj];refine⟨λs=>?_,λaa=>?_⟩
 .have s:i<a.length:=Ω
  obtain⟨x,B⟩:=aF (l:=a) s;have K:a.drop i=x::a.drop (i+1):=by rw[W0 s,(x5.1 B).2]
  rw[bb an.u ah.i Ψ (r.ext f) B,aU an.u (z.ext f)];simp only[cS,aj];refine⟨λh=>?_,λh=>?_⟩
  .have:b.drop i=[]:=by rw[List.drop_eq_nil_iff];omega
   rw[this,K]at p;exact⟨by rw[p];rfl,f⟩
  have C:i<b.length:=Ω
  obtain⟨y,E⟩:=aF (l:=b) C;have R:b.drop i=y::b.drop (i+1):=by rw[W0 C,(x5.1 E).2]
  rw[bb an.u ah.i Ψ (z.ext f) E];refine Cw.mono ?_;rintro _ U _ ⟨rfl,L⟩;rw[K,R]at p;simp only[fY]at p;simp only[bN,aj,aL];refine⟨λM=>⟨?_,f.trans L⟩,λS=>?_⟩
  .rw[p];by_cases h1:x<y
   .rw[if_pos h1,if_pos h1]
   .by_cases q:y<x
    .rw[if_neg h1,if_pos q,if_neg h1,if_pos q]
    .rw[if_neg h1,if_neg q]at M;exact absurd rfl M
  .rw[wrap_i64 Ω Ω];refine⟨⟨i+1,rfl,s,C,f.trans L,λj V W O G H=>?_⟩,by simp only[b0];omega⟩;by_cases X:j=i
   .subst X;rw[B]at G;rw[E]at H;cases G;cases H;have N:=X4.1 S;by_cases h1:x<y
    .rw[if_pos h1]at N;omega
    .by_cases q:y<x
     .rw[if_neg h1,if_pos q]at N;omega
     .omega
   .exact I j V W Ω G H
 .have Y:i=a.length:=Ω
  subst Y;rw[List.drop_length]at p;rw[aU an.u (r.ext f),aU an.u (z.ext f)];simp only[aR,aj];refine⟨λh=>⟨?_,f⟩,λh=>⟨?_,f⟩⟩
  .obtain⟨y,l,e⟩:∃y l,b.drop a.length=y::l:=⟨_,_,W0 Ω⟩;rw[p,e];rfl
  .have:b.drop a.length=[]:=by rw[List.drop_eq_nil_iff];omega
   rw[p,this];rfl
def MH{x:Int}{f:x3}(h:aG .i64 w f [x,y]):ai x8 HN [f] w λv w'=>v=Δ (if x≠0 then x else y)/\Ext w w':=by
 refine az func187 ?_;rw[aU an.u h];refine b4.range 2 (λi _ J=>Ext w J/\(1<=i->x=0)/\(2<=i->y=0)) Ω ⟨Ext.refl _,Ω,Ω⟩ ?_ ?_
 .rintro i _ J k hi ⟨a,h1,e⟩ hk;rw[aR,aj];refine⟨λ_=>?_,λh=>by simp at h;omega⟩
  match i,hi,h1,e,hk with
  |0,_,h1,e,hk=>
   rw[bb (i:=0) an.u ah.i Ψ (h.ext a) rfl,bN,aj];refine⟨λj=>⟨by rw[if_pos j],a⟩,λhe=>?_⟩;rw[aL];exact hk _ _ ⟨a,λ_=>X4.1 he,λh=>Ω⟩
  |1,_,h1,e,hk=>
   rw[bb (i:=1) an.u ah.i Ψ (h.ext a) rfl,bN,aj];have p:=h1 (o6 _);refine⟨λj=>⟨by rw[if_neg Ω],a⟩,λhe=>?_⟩;rw[aL];exact hk _ _ ⟨a,λ_=>p,λ_=>X4.1 he⟩
 .rintro _ J k ⟨a,h1,e⟩;have p:=h1 Ω;have q:=e Ω;rw[aR,aj];exact⟨λh=>by simp at h,λ_=>⟨by rw[if_neg Ω,q],a⟩⟩
structure cq where
 sv:x3
 g:Nat
 sc:Λ
 cs:Λ
def eF(h:cq):List x3:=[h.sv,Γ h.g]
abbrev jW(h:cq):x3:=.agg (eF h).toArray
def qK(h:cq):Int:=db h.sc
def iY(w:x4)(a:Nat)(h:cq):Prop:=(∃e,au .i64 ah w e h.sv h.sc)/\(∀r,leads h.sv r->r≠a)/\jt h.sc
def iY.aa{a:Nat}{h:cq}(ap:iY w a h)(e:ae S w w')(f:∀r,leads h.sv r->¬S r):iY w' a h:=by
 obtain⟨⟨j,hm⟩,p⟩:=ap;exact⟨⟨j,br hm e f⟩,p⟩
def iY.one{a:Nat}{h:cq}(ap:iY w a h):∀u∈eF h,u.oneCell'=true:=by
 obtain⟨⟨e,hm⟩,_⟩:=ap;intro u hu;simp[eF]at hu;rcases hu with rfl|rfl
 .exact hm.ls.cells.2
 .rfl
def e8(w:x4)(g:Nat)(v:x3)(L:List cq):Prop:=bg eF 2 cY w g v L/\∀h∈L,iY w g h
def e8.ext{g:Nat}{L:List cq}(h:e8 w g v L)(a:Ext w w'):e8 w' g v L:=⟨h.1.ext a,λx e=>(h.2 x e).aa (a.aa λ_=>False) λ_ _ h=>h⟩
def e8.at{g:Nat}{L:List cq}(h:e8 w g v L){i:Nat}{x:cq}(hi:L[i]?=σ x):iY w g x:=h.2 x (x6 hi)
def tb{g:Nat}{L:List cq}{i:Nat}{x:cq}{K:x3->Prop}(a:y=(i:Int))(h:e8 w g v L)(hi:L[i]?=σ x):
  V x8 (j9 gm v (Δ y)) w (λp=>V x8 (u5 cY p) w K)=K (jW x):=by
 rw[du a gm.u cY.i h.1 (x5.1 hi).1,bE cY.p cY.i rfl (h.1.range hi)]
def MI{g:Nat}{L:List cq}{i:Nat}{x:cq}{K:Unit->x4->Prop}(q:y=(i:Int))(h:e8 w g v L)(hi:i<L.length)(hk:iY w g x)(s:∀w',ae (λr=>leadsTo v r) w w'->e8 w' g v (L.set i x)->K () w'):V x8 (j9 gm v (Δ y)) w λp=>aB x8 (o9 cY p (jW x)) w K:=by
 rw[du q gm.u cY.i h.1 hi];refine KR (f:=eF) cY.i h.1 rfl hk.one hi λw' e _ h'=>s w' e ⟨h',λz a=>?_⟩;rcases W7 a with a|rfl
 .exact (h.2 z a).aa e λr j he=>(h.2 z a).2.1 r j (h.1.leads he).1
 .exact hk.aa e λr j he=>hk.2.1 r j (h.1.leads he).1
abbrev MJ:x3:=.func (.func zk) #[] #[]
def tc(a b:cq):Int:=let c:Int:=if(a.sc.length:Int)<b.sc.length then-1 else if(b.sc.length:Int)<a.sc.length then 1 else 0
 if c≠0 then c else fY a.sc b.sc
def MK{a b:cq}(f:jt a.sc)(j:jt b.sc):tc a b<0↔qK a<qK b:=by
 have p:=(wa f j).1;unfold qK tc;simp only;generalize q:(if(a.sc.length:Int)<b.sc.length then(-1:Int)else if(b.sc.length:Int)<a.sc.length then 1 else 0)=c;rw[p,<-q];by_cases h1:(a.sc.length:Int)<b.sc.length
 .rw[if_pos h1,if_pos Ω];exact⟨λ_=>.inl Ω,λ_=>Ω⟩
 .by_cases e:(b.sc.length:Int)<a.sc.length
  .rw[if_neg h1,if_pos e,if_pos Ω];exact⟨λh=>Ω,λh=>by rcases h with h|h<;>omega⟩
  .rw[if_neg h1,if_neg e,if_neg Ω];exact⟨λh=>.inr ⟨Ω,h⟩,λh=>by rcases h with h|h;omega;exact h.2⟩
def ML{y:Nat}{a b:cq}(A:iY w y a)(B:iY w y b):ai x8 zk [jW a,jW b] w λv w'=>Ext w w'/\v=Δ (tc a b):=by
 obtain⟨⟨ga,r⟩,_,L⟩:=A;obtain⟨⟨M,s⟩,_,N⟩:=B;refine az func186 ?_;refine bk λg1 J O C h=>?_;refine bk λE U P z j=>?_;have h:ac J g1 cY [a.sv,Γ a.g]:=by
  obtain⟨_,_,_,e⟩:=c8 r.ls;simp only[jW,eF,e]at h ⊢;exact h
 have j:ac U E cY [b.sv,Γ b.g]:=by
  obtain⟨_,_,_,e⟩:=c8 s.ls;simp only[jW,eF,e]at j ⊢;exact j
 intro Q x _ _;have f:=(C.trans z).trans x;have f1:=(h.ext z).ext x;have f2:=j.ext x;rw[aH cY.p 0 f1 rfl,aU an.u (r.ls.ext f),aH cY.p 0 f2 rfl,aU an.u (s.ls.ext f),
  aH cY.p 0 f1 rfl,aH cY.p 0 f2 rfl]
 refine Cw.mono ?_;rintro _ R _ ⟨rfl,q⟩;refine⟨.inl q,?_⟩;refine(MG ((r.ls.ext f).ext q) ((s.ls.ext f).ext q)).mono ?_;rintro _ S _ ⟨rfl,G⟩;refine vp (l:=[if(a.sc.length:Int)<b.sc.length then(-1:Int)else if(b.sc.length:Int)<a.sc.length then 1 else 0,fY a.sc b.sc]) an.u ah.i Ω rfl Ψ λV W X Y H I=>?_;refine(MH I.ls).mono ?_;rintro _ Z _ ⟨rfl,K⟩;exact⟨((((f.trans q).trans G).trans H).trans K),rfl⟩
def MM{g:Nat}{L:List cq}(h:e8 w g v L)(E:L.length<65536):
  ai x8 HM [v,MJ] w λ_ w'=>ae (λr=>leadsTo v r) w w'/\∃M,M.Perm L/\sQ qK M 0 M.length/\e8 w' g v M:=by
 have j:∀{s:x4}{a:cq},ae (λr=>r=g) w s->iY w g a->iY s g a:=λf e=>e.aa f λr z he=>e.2.1 r z he;refine(BB K2 (G:=iY w g) (num:=qK) (cf:=tc) (cap:=#[]) K6 K7 (λa e=>e.one) (λa _=>rfl) (λa b e A=>MK e.2.2 A.2.2) (Enters.of x8 K8 rfl Ψ) h.1 h.2 E λs a b f e A=>ML (j f e) (j f A)).mono ?_;rintro _ w' _ ⟨f,M,C,hu,hm⟩;have H:ae (λr=>r=g) w w':=f.mono λr _ z=>(h.1.leads z).1;exact⟨f,M,C,λp q x y _ I _ B J=>hu p q x y I B J,hm,λx B=>j H (h.2 x (C.mem_iff.1 B))⟩
def MN{m:Λ}(p:ky l)(q:l.Nodup)(e:m.Perm l)(I:m.Pairwise (·<= ·)):m=bo l:=by
 refine wb (f:=λx=>x) ?_ (v7 l) λx=>?_
 .have r:m.Nodup:=e.nodup_iff.2 q;exact(List.Pairwise.and I r).imp λ{a b}h=>by
   obtain⟨h1,j⟩:=h;have j:a≠b:=j;omega
 .rw[e.mem_iff,qF p]
def MO(h:∀z∈l,1<=z/\z<=32)(a:dt l=false):aN l<=4096:=by
 have:=of_decide_eq_false a;rw[we h]at this;omega
def MP{f:cb}{cs:List x3}{d:hf}{x:cv}{m:Bool}{S R:af}(q:fd N f)(bl:N<=60000)(Q:x∈f.funs)(aB:qI f.k x d)(aC:al.rep m S R w cs d):
  ai x8 HI [.agg cs.toArray] w λv w'=>Ext w w'/\∃sv gs G V W,v= .tuple #[sv,Γ G]/\w.heap.size<=gs/\au .i64 ah w' gs sv (bo x.scope)/\dd w' G V W (bI f.sizes (bo x.scope)) f.k (h5 f.sizes f.k x).2:=by
 obtain⟨sv,ad,bm,aO,bn,rfl,H,aD⟩:=s9 aC;obtain⟨aE,aG,aI,bp,bq,aJ⟩:=aB;obtain⟨a,aK,aM⟩:=q.funs x Q;have ab:=sW a q.sizes.2.1;have br:=a.len;rw[aE]at H;have aN:∀z∈x.sizes,1<=z/\z<=32:=λz ag=>by
  rw[a.sizes]at ag;obtain⟨v,aP,rfl⟩:=l9.1 ag;have bt:=a.scope.2 v aP;refine q.sizes.2.2 _ ?_;rw[u4,x7 Ω];exact S4 _
 have aQ:=MO aN aM;have X:=sV ab a.scope.1;have bu:(bo x.scope).length<=6:=by rw[X.length_eq];exact aK
 refine az func176 ?_;refine bk λak J bw aj A=>?_;have A:ac J ak cE [sv,Γ ad]:=by obtain⟨_,_,_,rfl⟩:=c8 H;exact A
 rw[aH cE.p 1 A rfl];refine(Ci (aD.ext aj).is Ω).mono ?_;rintro _ U _ ⟨Y,_,B⟩;rw[aG]at B;obtain⟨g,bB,bC,aR,rfl,bD,bE,B,am⟩:=B aQ;rw[aI]at B;rw[bx,bz,aH cE.p 0 (A.ext Y) rfl];have C:=aj.trans Y;refine wj (H.ext C) Ω λv ao gs bF K bG aS I L=>?_;have aT:=MN ab a.scope.1 aS I;subst aT;have bH:=C.size;rw[aU an.u L.ls];refine jL (k:=.i64) an.u ah.i Ω Ω λgo ap bJ M aq=>?_;have aV:au .i64 ah ap go (.slice (σ ⟨go,0,ν⟩) (bo x.scope).length (bo x.scope).length) (o5 (bo x.scope).length 0):=au.of (bX.full (k:=1) (n:=(bo x.scope).length) aq Ξ (by simp[maxLen];omega));rw[aU an.u (L.ls.ext M)];have bK:=aq.lt;have O:(fZ x.scope (bo x.scope)).length=(bo x.scope).length:=by simp[fZ]
 have aW:=K.trans M;have bL:=C.trans aW;refine bU.range (bo x.scope).length (λi h=>ae (λr=>r=go) ap h/\au .i64 ah h go (.slice (σ ⟨go,0,ν⟩) (bo x.scope).length (bo x.scope).length) ((fZ x.scope (bo x.scope)).take i++o5 ((bo x.scope).length-i) 0)) Ω ⟨ae.refl _ _,by simpa using aV⟩ ?_ ?_
 .rintro i h k hi ⟨P,E⟩ hk;obtain⟨v,Z⟩:=aF (l:=(bo x.scope)) hi;have s:Ext ao h:=M.put P Ω;have aX:Ext w h:=(C.trans K).trans s;have aY:v∈x.scope:=X.mem_iff.1 (x6 Z);refine bA Ω ?_;rw[bb an.u ah.i Ψ (L.ls.ext s) Z];have aZ:Ext J h:=(Y.trans K).trans s;rw[aH cE.p 0 (A.ext aZ) rfl];refine(Cn (H.ext aX)).mono ?_;rintro _ a1 _ ⟨y,r,rfl,a2⟩;have av:=pr aY;have a6:r=((x.scope.idxOf v:Nat):Int):=(a2 _ av).2 λj bM a7=>by have:=kw a.scope.1 a7 av;omega
  rw[h0 rfl an.u ah.i (E.ext y) (by simp[O];omega)];refine h2 ah.i (E.ext y) (by simp[O];omega) λbN a8 bO aw=>?_;rw[aL];refine hk _ ⟨(P.trans (y.aa _)).trans a8,?_⟩;have ba:(fZ x.scope (bo x.scope))[i]?=σ r:=by rw[a6];exact Cc Z
  have e:((fZ x.scope (bo x.scope)).take i++o5 ((bo x.scope).length-i) 0).set i r=(fZ x.scope (bo x.scope)).take (i+1)++o5 ((bo x.scope).length-(i+1)) 0:=by
   have bc:((fZ x.scope (bo x.scope)).take i).length=i:=by rw[o7,O];omega
   rw[S1 _ _ Ω,bc,T2,show(bo x.scope).length-i=((bo x.scope).length-(i+1))+1 by omega,List.replicate_succ,List.set_cons_zero,u9,ba,l7,Y6];rfl
  rw[e]at aw;exact aw
 .rintro h k ⟨P,E⟩;have s:Ext ao h:=M.put P Ω;have ax:Ext U h:=K.trans s;refine b2 Ω ?_;rw[T2,List.replicate_zero,V3,j4 Ω]at E;have bd:∀t,dj x.sizes t->bh x.sizes aR t=jQ x f.k t:=λt be=>by rw[am.2 t be];exact aJ t
  obtain⟨ay,bf⟩:=LQ q Q am.1 bd;have bg:Good (fZ x.scope (bo x.scope)) x.sizes.length:=by
   rw[a.sizes,u7];exact sZ a.scope.1 X
  have bi:=(pq q Q);refine(Mu (B.ext ax) q.k E.ls (by rw[O];omega) λ_=>?_).mono ?_
  .rw[ay];exact bi.small
  .rintro _ a1 _ ⟨y,_,bj⟩;obtain⟨G,V,W,rfl,aA⟩:=bj bg;rw[bx,bz];rw[ay,bf]at aA;exact⟨(C.trans ax).trans y,v,gs,G,V,W,rfl,Ω,(L.ext s).ext y,aA⟩
def MQ{P:V1}{t x f:r9}{k y g o cap:Nat}{z:x3}{cs:List x3}(h:P.underlying t=σ (.slice e))(hi:aQ P e k y z)(A:z.cells.size=k)(h1:∀u∈dT z.cells (n*k),u.oneCell'=true)(a:ac w g f cs)(H:o+n*k<=cs.length)(p:∀w',ae (λr=>r=g) w w'->ac w' g f (over cs o (dT z.cells (n*k)))->K (.tuple #[]) w'):aB P (Z5.clear_ #[t] x #[.slice (σ ⟨g,o,ν⟩) n cap]) w K:=by
 obtain⟨i,hi,I,rfl,B⟩:=hi;have C:∀w,(zeroValue e).run P w= .ok z w:=λw=>by simp[zeroValue,typeInfo,hi,B]
 have E:(Z5.zeroCells z.cells n).toList=dT z.cells (n*k):=by
  unfold Z5.zeroCells dT;rw[A]
 have q:=run_storeCells_cells (P:=P) g o (dT z.cells (n*k)) 0 w (λj F=>by
   rw[oR]at F;rw[Nat.add_zero,a.cell (x7 (show o+j<cs.length by omega))];rfl) (λj _=>a.frozen _ _) h1
 simp only[Nat.add_zero]at q;obtain⟨G,s⟩:=nI (dT z.cells (n*k)) cs o w a;rcases Q5 n with rfl|J
 .refine .of (v:=.tuple #[]) (w':=w) (by simp[Z5.clear_,run_underlying h]) (cL.refl _) (p w (ae.refl _ _) ?_);rw[Nat.zero_mul,c9 (oR z.cells 0)];exact a
 .obtain⟨m,rfl⟩:∃m,n=m+1:=⟨n-1,Ω⟩;refine .of (v:=.tuple #[]) (w':=_) (by simp[Z5.clear_,run_underlying h,C,E,q]) (s.cr a) (p _ s.aa G)
def en{α:Type}{f:α->List x3}{k:Nat}{g:Nat}{L:List α}(h:bg f k e w g v L)(j:leadsTo v r):r=g/\∃cs,ac w g e cs:=by
 obtain⟨_,⟨rfl,_⟩|⟨cap,cs,rfl,p,_⟩⟩:=h.1
 .exact (fu j).elim
 .obtain⟨a,n,c,h1,q⟩:=j;cases h1;exact⟨q.symm,cs,p⟩
def MR{α:Type}{f:α->List x3}{k:Nat}{g:Nat}{L:List α}(h:bg f k e w g v L)(a:L≠[]):∃cs n c,v= .slice (σ ⟨g,0,ν⟩) n c/\ac w g e cs:=by
 obtain⟨_,⟨rfl,j⟩|⟨cap,cs,rfl,p,_⟩⟩:=h.1
 .exact absurd (c9 j) a
 .exact⟨cs,_,_,rfl,p⟩
def e8.mk{g:Nat}{L:List cq}(h:bg eF 2 cY w g v L)(e:∀x∈L,(∃f,au .i64 ah w f x.sv x.sc)/\jt x.sc):e8 w g v L:=by
 refine⟨h,λx a=>⟨(e x a).1,λr j=>?_,(e x a).2⟩⟩;obtain⟨cs,n,c,_,p⟩:=MR h (λq=>by rw[q]at a;cases a);obtain⟨⟨f,hm⟩,_⟩:=e x a;exact ch hm p Φ j
def Sem(w:x4)(k:Int)(sizes:Λ)(L:List cq):Prop:=∀x∈L,∃a e,dd w x.g a e (bI sizes x.sc) k x.cs
def wo{g p:Nat}{q:x3}(h:dd w g p q ag k cs)(e:ae S w w')(f:∀r,S r->∃c,ac w r cY c):dd w' g p q ag k cs:=by
 obtain⟨⟨aZ,gs,h1,s,x⟩,y⟩:=h;refine⟨⟨aZ,gs,h1.aa e λI=>?_,br s e λr j I=>?_,br x e λr j I=>?_⟩,y⟩
 .obtain⟨c,a⟩:=f g I;unfold ac at h1 a;rw[h1]at a;have:=(Obj.cells.inj (Z0 a)).2.1;exact absurd this Φ
 .obtain⟨c,a⟩:=f r I;exact ch s a Φ j rfl
 .obtain⟨c,a⟩:=f r I;exact ch x a Φ j rfl
def Sem.ext{L:List cq}(h:Sem w k sizes L)(a:Ext w w'):Sem w' k sizes L:=λx e=>by
 obtain⟨f,j,p⟩:=h x e;exact⟨f,j,p.ext a⟩
def Sem.row{L M:List cq}{g:Nat}(h:Sem w k sizes L)(a:e8 w g v M)(e:ae (λr=>leadsTo v r) w w'):Sem w' k sizes L:=λx f=>by
 obtain⟨j,p,q⟩:=h x f;exact⟨j,p,wo q e λr s=>by obtain⟨rfl,c,y⟩:=en a.1 s;exact⟨c,y⟩⟩
def dY(h:cq):cJ:=(h.sc,h.cs)
def MS:ai x8 uY [Δ c] w λv w'=>v= .bool (decide (0<c))/\Ext w w':=by
 refine az func183 ?_;rw[bS];exact⟨rfl,Ext.refl _⟩
def MT(h:aG .i64 w sv l):
  ai x8 HK [sv,.func (.func uY) #[] #[]] w λv w'=>v= .bool (l.any λc=>decide (0<c))/\Ext w w':=by
 refine az func182 ?_;refine ai.mono (K:=λv w'=>Ext w w'/\∃r:Int,v=Δ r/\(0<=r↔ ∃c∈l,0<c)) ?_ ?_
 .refine az func232 ?_;rw[aU aq.u h];refine b4.range l.length (λi _ J=>Ext w J/\∀c∈l.take i,¬0<c) h.le ⟨Ext.refl _,λc a=>by simp at a⟩ ?_ ?_
  .rintro i _ J k hi ⟨e,j⟩ hk;refine bA Ω ?_;obtain⟨x,p⟩:=aF (l:=l) hi;rw[bb aq.u am.i Ψ (h.ext e) p];show ai x8 uY [Δ x] J _;refine MS.mono ?_;rintro _ U _ ⟨rfl,q⟩;rw[aj];refine⟨λf=>⟨e.trans q,i,rfl,⟨λ_=>⟨x,x6 p,f⟩,λ_=>Ω⟩⟩,λs=>?_⟩;rw[aL];refine hk _ _ ⟨e.trans q,λc a=>?_⟩;rw[u9,p]at a;rcases j0.1 a with a|a
   .exact j c a
   .simp at a;subst a;exact s
  .rintro _ J k ⟨e,j⟩;rw[o8]at j;rw[aR,aj];exact⟨λh=>Ω,λ_=>⟨e,-1,rfl,⟨λh=>Ω,λ⟨c,a,f⟩=>absurd f (j c a)⟩⟩⟩
 .rintro _ J _ ⟨e,r,rfl,y⟩;rw[cS];refine⟨?_,e⟩;congr 1;rw[V7,decide_eq_true_eq,List.any_eq_true,y];exact⟨λ⟨c,a,f⟩=>⟨c,a,decide_eq_true f⟩,λ⟨c,a,f⟩=>⟨c,a,of_decide_eq_true f⟩⟩
def Cx{h:Nat}{x:cq}{q:x3}(r:iY w h x)(s:dd w x.g j q ag k x.cs):ai x8 p1 [jW x] w λv w'=>v= .bool (!fH (dY x))/\Ext w w':=by
 obtain⟨⟨B,hm⟩,_⟩:=r;refine az func181 ?_;refine bk λak J C f a=>?_;have a:ac J ak cY [x.sv,Γ x.g]:=by
  obtain⟨_,_,_,e⟩:=c8 hm.ls;simp only[jW,eF,e]at a ⊢;exact a
 rw[aH cY.p 1 a rfl];refine(mO (s.ext f)).mono ?_;rintro E U _ ⟨y,G,H,z⟩;refine(MT z.ls).mono ?_;rintro _ I _ ⟨rfl,A⟩;rw[bJ];exact⟨rfl,(f.trans y).trans A⟩
def MU{g:Nat}{L:List cq}(h:e8 w g v L)(I:Sem w k sizes L):
  ai x8 zh [v,.func (.func p1) #[] #[]] w λr w'=>Ext w w'/\((r=Δ (-1)/\∀x∈L,fH (dY x)=true)\/∃i:Nat,r=Δ (i:Int)/\i<L.length/\(∀x∈L.take i,fH (dY x)=true)/\∀x,L[i]?=σ x->fH (dY x)=false):=by
 refine az func177 ?_;rw[e4 gm.u h.1];refine b4.range L.length (λi _ J=>Ext w J/\∀x∈L.take i,fH (dY x)=true) h.1.le ⟨Ext.refl _,λc a=>by simp at a⟩ ?_ ?_
 .rintro i _ J k hi ⟨e,f⟩ hk;refine bA Ω ?_;obtain⟨x,j⟩:=aF (l:=L) hi;rw[tb rfl (h.ext e) j];show ai x8 p1 [jW x] J _;obtain⟨B,C,s⟩:=I x (x6 j);refine(Cx ((h.ext e).at j) (s.ext e)).mono ?_;rintro _ U _ ⟨rfl,p⟩;rw[cg];refine⟨λz=>⟨e.trans p,.inr ⟨i,rfl,hi,f,λy q=>by rw[j]at q;cases q;simpa using z⟩⟩,λA=>?_⟩;rw[aL];refine hk _ _ ⟨e.trans p,λc a=>?_⟩;rw[u9,j]at a;rcases j0.1 a with a|a
  .exact f c a
  .simp at a;subst a;simpa using A
 .rintro _ J k ⟨e,f⟩;rw[o8]at f;rw[aR,aj];exact⟨λh=>Ω,λ_=>⟨e,.inl ⟨rfl,f⟩⟩⟩
def gb(x:cq):Bool:=fH (dY x)
def wp{L:List cq}{x:cq}(a:L[j]?=σ x):(L.take (j+1)).filter gb=if gb x=true then(L.take j).filter gb++[x]else(L.take j).filter gb:=by
 rw[u9,a,l7,List.filter_append];by_cases h:gb x=true
 .rw[if_pos h];simp[h]
 .rw[if_neg h];simp[h]
def Cy{z:Array x3}(a:0<z.size)(h:∀u∈z.toList,u.oneCell'=true):∀u∈dT z n,u.oneCell'=true:=λu hu=>by
 unfold dT at hu;rw[Array.toList_map,l9]at hu;obtain⟨i,_,rfl⟩:=hu;have e:i % z.size<z.size:=Nat.mod_lt _ a;rw[getElem!_pos z (i % z.size) e];exact h _ Ξ
def MV{g:Nat}{L:List cq}(h:e8 w g v L)(I:Sem w k sizes L)(ba:L.length<=100000):
  ai x8 HL [v,.func (.func p1) #[] #[]] w λf w'=>ae (λr=>leadsTo v r) w w'/\e8 w' g f (L.filter gb)/\∀r,leadsTo f r->leadsTo v r:=by
 refine az func184 ?_;refine(MU h I).mono ?_;rintro r J _ ⟨G,q⟩;rcases q with⟨rfl,P⟩|⟨Q,rfl,aw,P,ay⟩
 .rw[bf,aj];refine⟨λ_=>⟨G.aa _,?_,λr q=>q⟩,λh=>absurd rfl h⟩;rw[List.filter_eq_self.2 (show∀x∈L,gb x=true from P)];exact h.ext G
 rw[bf,aj];refine⟨λh=>Ω,λ_=>?_⟩;rw[aL,wrap_i64 Ω Ω];obtain⟨R,ac⟩:=aF (l:=L) aw;refine⟨λS W U=>∃(i j:Nat)(M:List cq),S=Δ (i:Int)/\W=Δ (j:Int)/\i<j/\j<=L.length/\M.length=L.length/\M.take i=(L.take j).filter gb/\M.drop j=L.drop j/\(∀x∈M,x∈L)/\e8 U g v M/\ae (λr=>leadsTo v r) w U,
  λ_ W _=>L.length-(b0 W).toNat,⟨Q,Q+1,L,rfl,by congr 1,Ω,Ω,rfl,?_,rfl,λx s=>s,h.ext G,G.aa _⟩,?_⟩
 .have aA:¬gb R=true:=by rw[show gb R=false from ay R ac];simp
  rw[wp ac,if_neg aA,List.filter_eq_self.2 (show∀x∈L.take Q,gb x=true from P)]
 rintro _ _ U ⟨i,j,M,rfl,rfl,bb,bc,ad,A,af,ag,e,H⟩;have aC:Sem U k sizes L:=I.row h H;rw[e4 gm.u e.1,aR,aj];refine⟨λX=>?_,λbd=>?_⟩
 .have X:j<L.length:=Ω
  obtain⟨x,s⟩:=aF (l:=L) X;have K:M[j]?=σ x:=by
   have h1:(M.drop j)[0]?=(L.drop j)[0]?:=by rw[af]
   rw[S5,S5,Nat.add_zero]at h1;rw[h1,s]
  have ah:M.drop (j+1)=L.drop (j+1):=by
   have h1:(M.drop j).drop 1=(L.drop j).drop 1:=by rw[af]
   rw[List.drop_drop,List.drop_drop]at h1;exact h1
  refine aW (λS N=>∃(C:Nat)(z:List cq),S=Δ (C:Int)/\C<j+1/\z.length=L.length/\z.take C=(L.take (j+1)).filter gb/\z.drop (j+1)=L.drop (j+1)/\(∀x∈z,x∈L)/\e8 N g v z/\ae (λr=>leadsTo v r) w N) ?_ ?_
  .rintro _ N ⟨C,z,rfl,h1,Y,aD,aE,aG,aH,aI⟩;rw[aL,wrap_i64 Ω Ω];exact⟨⟨C,j+1,z,rfl,rfl,h1,X,Y,aD,aE,aG,aH,aI⟩,by simp only[b0];omega⟩
  .intro ax al;rw[tb rfl e K];refine bw cY.i λak N be aJ aK=>?_;refine b1 (vs:=eF x) cY.i rfl rfl (e.at K).one aK λam aM bg an=>?_;have Z:Ext U am:=aJ.put aM Ω;rw[bE cY.p cY.i rfl an.range];show ai x8 p1 [jW x] am _;obtain⟨bh,bi,aN⟩:=aC x (x6 s);refine(Cx ((e.ext Z).at K) (aN.ext Z)).mono ?_;rintro _ bj _ ⟨rfl,ao⟩;have E:=Z.trans ao;rw[bJ,Bool.not_not,cg];refine⟨λhk=>?_,λaO=>?_⟩
   .rw[bE cY.p cY.i rfl (an.ext ao).range];refine MI rfl (e.ext E) Ω ((e.ext E).at K) λbk aP aQ=>?_;rw[aL,wrap_i64 Ω Ω];refine al _ _ ⟨i+1,M.set i x,rfl,Ω,by simp[ad],?_,?_,λy B=>?_,aQ,(H.trans (E.aa _)).trans aP⟩
    .have ab:gb x=true:=hk;rw[wp s,if_pos ab,u9,b8 Ω,l7,List.take_set_of_le (o6 _),A]
    .rw[List.drop_set_of_lt Ω,ah]
    .rcases W7 B with B|rfl
     .exact ag y B
     .exact x6 s
   .have ab:¬gb x=true:=by rw[show gb x=false from aO];simp
    exact al _ _ ⟨i,M,rfl,Ω,ad,by rw[wp s,if_neg ab,A],ah,ag,e.ext E,H.trans (E.aa _)⟩
 .have aS:j=L.length:=Ω
  subst aS;rw[o8]at A;obtain⟨⟨bl,aT⟩,ap⟩:=e.1;rcases aT with⟨_,bm⟩|⟨cap,cs,aU,aV,bn,aX,aY,aZ⟩
  .omega
  subst aU;have a1:(V x8 (U1 gm (.slice (σ ⟨g,0,ν⟩) M.length cap) (σ (Δ (i:Int))) ν ν) U λa2=>
    aB x8 (Z5.clear_ #[gm] IR #[a2]) U λu O=>
    V x8 (U1 gm (.slice (σ ⟨g,0,ν⟩) M.length cap) ν (σ (Δ (i:Int))) ν) O λa6=>
    (λf w'=>ae (λr=>leadsTo (.slice (σ ⟨g,0,ν⟩) M.length cap) r) w w'/\e8 w' g f (L.filter gb)/\∀r,leadsTo f r->leadsTo (.slice (σ ⟨g,0,ν⟩) M.length cap) r) a6 O):=by
   rw[hX (l:=i) (h:=M.length) (m:=cap) gm.u cY.i (nF i _ rfl) jJ fG Ω Ω (o6 _),if_neg Ω];simp only[Z7,T7];refine MQ (g:=g) (o:=0+i*2) (n:=M.length-i) (k:=2) gm.u cY.i rfl ?_ aV Ω λO aq a7=>?_
   .exact Cy Φ Φ
   rw[hX (l:=0) (h:=i) (m:=cap) gm.u cY.i jI (nG i _ rfl) fG Ω Ω (o6 _),if_neg Ω];simp only[Z7,T7,Nat.zero_mul,X6,Nat.sub_zero];have a8:(dT (x3.agg #[.slice ν 0 0,.pointer ν]).cells ((M.length-i)*2)).length=(M.length-i)*2:=oR _ _;have bo:(M.flatMap eF).length=M.length*2:=ix ap;have au:(L.filter gb).length=i:=by rw[<-A,o7];omega
   have key:(λf w'=>ae (λr=>leadsTo (.slice (σ ⟨g,0,ν⟩) M.length cap) r) w w'/\e8 w' g f (L.filter gb)/\∀r,leadsTo f r->leadsTo (.slice (σ ⟨g,0,ν⟩) M.length cap) r) (.slice (σ ⟨g,0,ν⟩) (L.filter gb).length cap) O:=by
    refine⟨H.trans (aq.mono λr _ he=>⟨_,_,_,rfl,he.symm⟩),⟨⟨⟨ix (k:=2) (λy _=>rfl),.inr ⟨cap,_,rfl,a7,Ω,aX,by rw[lZ,aY],?_⟩⟩,λy _=>rfl⟩,λy B=>?_⟩,λr q=>?_⟩
    .rw[au,<-A,<-qy i ap,<-aZ,List.take_take,mE (by rw[a8];omega),Y6,List.take_append_of_le_length (by rw[o7];omega),List.take_take];congr 1;omega
    .have av:y∈M:=by rw[<-A]at B;exact U6 B
     exact(e.2 y av).aa aq λr q he=>(e.2 y av).2.1 r q he
    .obtain⟨a,n,c,h1,Y⟩:=q;cases h1;exact⟨_,_,_,rfl,Y⟩
   rw[au]at key;exact key
  exact a1
def qL{k:n9}{g cap:Nat}{b:Option Addr}(h:au k e w g (.slice b n cap) l)(r:0<l.length):
  b=σ ⟨g,0,ν⟩/\n=l.length/\∃cs,ac w g e cs/\n<=cap/\cap<=maxLen/\cs.length=cap/\cs.take n=ints k l:=by
 obtain⟨_,⟨_,h1⟩|⟨s,cs,h1,a,f,j,p,q⟩⟩:=h
 .omega
 .cases h1;exact⟨rfl,rfl,cs,a,f,j,by simpa using p,by simpa using q⟩
def MW{g cap:Nat}(h:au .i64 ah w g (.slice (σ ⟨g,0,ν⟩) n cap) l)(p:j<l.length):aG .i64 w (.slice (σ ⟨g,j,ν⟩) (n-j) (cap-j)) (l.drop j):=by
 obtain⟨_,q,cs,a,h1,r,s,f⟩:=qL h Ω;have:=Jr (o:=j) (k:=n-j) (c:=cap-j) a Ω Ω Ω;refine aG.of (n:=n-j) ?_;have e:(cs.drop j).take (n-j)=ints .i64 (l.drop j):=by
  rw[<-List.drop_take,f,ints,ints,List.map_drop]
 rw[e]at this;exact this
def MX{g:Nat}(h:au .i64 ah w g sv l)(aT:l.length<=1000):
  ai x8 If [sv] w λv w'=>ae (λr=>r=g) w w'/\au .i64 ah w' g v (dedup l l.length):=by
 refine az func227 ?_;rw[aU an.u h.ls];simp only[aR,aj];refine⟨λaV=>⟨ae.refl _ _,?_⟩,λaX=>?_⟩
 .rw[s8 (o6 _) (λi hi W=>Ω),o8];exact h
 obtain⟨n,s⟩:∃n,l.length=n:=⟨_,rfl⟩;obtain⟨cap,rfl⟩:∃cap,sv= .slice (σ ⟨g,0,ν⟩) n cap:=by
  obtain⟨_,⟨_,h1⟩|⟨ap,cs,h1,_⟩⟩:=id h
  .omega
  .exact⟨ap,by rw[h1,s]⟩
 obtain⟨_,_,_,_,aY,aq,_⟩:=qL h Ω;refine⟨λ_ t J=>∃j:Nat,t=Δ (j:Int)/\1<=j/\j<=n/\Ext w J/\∀i,i<j->0<i->l[i]? ≠l[i-1]?,λ_ t _=>n-(b0 t).toNat,⟨1,rfl,Ω,Ω,Ext.refl _,λi h1 X=>Ω⟩,?_⟩;rintro aZ _ J ⟨j,rfl,a1,Y,A,I⟩;rw[aU an.u (h.ls.ext A)];simp only[aR,aj,ef];refine⟨λav U aw _ _=>?_,λa2=>⟨A.aa _,?_⟩⟩
 .have av:j<n:=Ω
  have B:=A.trans aw;have Z:=h.ls.ext B;obtain⟨a,K⟩:=aF (l:=l) (i:=j) Ω;obtain⟨b,L⟩:=aF (l:=l) (i:=j-1) Ω;rw[bb an.u ah.i Ψ Z K];simp only[ed];rw[wrap_i64 Ω Ω,fq (i:=j-1) Ω an.u ah.i Ψ Z L];simp only[bf,aj,aL];refine⟨λM=>?_,λM=>?_⟩
  .subst M;rw[hX an.u ah.i (l:=j) (h:=n) (m:=cap) p8 jJ fG Ω Ω Ω,if_neg Ω];have ay:U2 (λx:Addr=>x.add (j*1)) (σ ⟨g,0,ν⟩)=σ ⟨g,j,ν⟩:=by simp[T7]
   rw[ay];have ab:dedup l (j+1)=l.take j:=by rw[wk Ω (by rw[K,L]),s8 Ω I]
   refine⟨λN t O=>∃(q e:Nat)(f:Λ),N=Δ (q:Int)/\t=Δ (e:Int)/\1<=e/\j+e<=n/\ae (λr=>r=g) w O/\au .i64 ah O g (.slice (σ ⟨g,0,ν⟩) n cap) f/\f.length=n/\
     q=(dedup l (j+e)).length/\f.take q=dedup l (j+e)/\q<=j+e-1/\∀i,j+e-1<=i->f[i]?=l[i]?,λ_ t _=>n-(b0 t).toNat,
    ⟨j,1,l,rfl,rfl,Ω,Ω,B.aa _,h.ext B,s,by rw[ab,o7];omega,by rw[ab],Ω,λi _=>rfl⟩,?_⟩
   rintro _ _ O ⟨q,e,f,rfl,rfl,a6,a7,P,ac,ad,af,C,aA,E⟩;rw[hW an.u];simp only[aR,aj,ef];refine⟨λag=>?_,λag=>?_⟩
   .have ag:j+e<n:=Ω
    refine aW (λN Q=>∃(q:Nat)(f:Λ),N=Δ (q:Int)/\ae (λr=>r=g) w Q/\au .i64 ah Q g (.slice (σ ⟨g,0,ν⟩) n cap) f/\f.length=n/\
     q=(dedup l (j+(e+1))).length/\f.take q=dedup l (j+(e+1))/\q<=j+(e+1)-1/\∀i,j+(e+1)-1<=i->f[i]?=l[i]?) ?_ ?_
    .rintro _ Q ⟨q,f,rfl,h1,X,aB,aC,aD,aE,aG⟩;simp only[aL];rw[wrap_i64 Ω Ω];exact⟨⟨q,e+1,f,rfl,rfl,Ω,Ω,h1,X,aB,aC,aD,aE,aG⟩,by simp only[b0];omega⟩
    .intro ax ak a8 R _ _;have G:=ac.ext R;have S:=MW (j:=j) G Ω;obtain⟨y,H⟩:=aF (l:=l) (i:=j+e) Ω;obtain⟨z,V⟩:=aF (l:=l) (i:=j+e-1) Ω;have al:(f.drop j)[e]?=σ y:=by rw[S5,E _ Ω,H]
     have aH:(f.drop j)[e-1]?=σ z:=by rw[S5,E _ Ω,<-V];congr 1;omega
     rw[bb an.u ah.i Ψ S al];simp only[ed];rw[wrap_i64 Ω Ω,fq (i:=e-1) Ω an.u ah.i Ψ S aH];simp only[bN,aj,aL];refine⟨λp=>?_,λp=>?_⟩
     .rw[bb an.u ah.i Ψ S al,h0 rfl an.u ah.i G Ω];refine h2 ah.i G Ω λba aI bc aJ=>?_;rw[wrap_i64 Ω Ω];have am:dedup l (j+e+1)=dedup l (j+e)++[y]:=wm H (λ_=>by rw[H,V];simpa using p);refine ak _ _ ⟨q+1,_,rfl,(P.trans (R.aa _)).trans aI,aJ,by simpa using ad,?_,?_,Ω,λi hi=>?_⟩
      .rw[<-R7,am];simp;omega
      .rw[<-R7,am,u9,b8 Ω,List.take_set_of_le (o6 _),C];rfl
      .rw[Y4 Ω];exact E i Ω
     .have p:y=z:=X4.1 p;have ao:dedup l (j+e+1)=dedup l (j+e):=wk Ω (by rw[H,V,p]);exact ak _ _ ⟨q,f,rfl,P.trans (R.aa _),G,ad,by rw[<-R7,ao];exact af,by rw[<-R7,ao];exact C,Ω,λi hi=>E i Ω⟩
   .have hk:j+e=n:=Ω
    rw[hk]at af C aA;obtain⟨_,_,cs,aK,_,_,bd,aM⟩:=qL ac Ω;simp only[maxLen]at aq;rw[hX an.u ah.i (l:=q) (h:=n) (m:=cap) p8 jJ fG Ω Ω Ω,if_neg Ω];have aN:U2 (λx:Addr=>x.add (q*1)) (σ ⟨g,0,ν⟩)=σ ⟨g,q,ν⟩:=by simp[T7]
    rw[aN];refine Aa an.u ah.i rfl rfl aK Ω Ω λbe aO bg aP=>?_;rw[hX an.u ah.i (l:=0) (h:=q) (m:=cap) jI p9 fG Ω Ω Ω,if_neg Ω];have aQ:U2 (λx:Addr=>x.add (0*1)) (σ ⟨g,0,ν⟩)=σ ⟨g,0,ν⟩:=by simp[T7]
    rw[aQ,s];refine⟨P.trans aO,?_⟩;rw[<-C];refine au.of (n:=q) ⟨Θ,.inr ⟨cap,_,Ξ,aP,Ω,by simp only[maxLen];omega,by rw[lZ];omega,?_⟩⟩;rw[U4];apply Y9;intro i;by_cases hi:i<q
    .rw[Y0 hi,nH _ _ _ Θ,if_neg Ω,ints,v8,Y0 hi];have:(cs.take n)[i]?=(ints .i64 f)[i]?:=by rw[aM]
     rw[Y0 Ω,ints,v8]at this;exact this
    .rw[Y2 Θ,Y2 Θ]
  .rw[wrap_i64 Ω Ω];refine⟨⟨j+1,rfl,Ω,Ω,B,λi hi W=>?_⟩,by simp only[b0];omega⟩;by_cases aS:i=j
   .subst aS;rw[K,L];intro he;exact M (Z0 he)
   .exact I i Ω W
 .have Y:j=n:=Ω
  rw[s8 (o6 _) (by rw[s,<-Y];exact I),o8];exact h.ext A
def MY(z:n<=1000000):ai x8 IA [.slice ν 0 0,Δ (n:Int)] w λv w'=>Ext w w'/\∃g,w.heap.size<=g/\au .i64 ah w' g v []:=by
 refine az func260 ?_;refine dh (λJ=>w=J) ?_ ?_
 .rintro _ rfl;refine aW (λv w'=>Ext w w'/\∃g,w.heap.size<=g/\au .i64 ah w' g v []) (λ_ _ h=>h) λax a=>?_;rw[z8 an.u,hW an.u];simp only[ed];have e:X9.wrap (((0:Nat):Int)-((0:Nat):Int))=0:=Φ
  have f:X9.wrap ((n:Int)-0)=n:=by rw[wrap_i64 Ω Ω];omega
  rw[e,f];simp only[bS,aj];refine⟨λh=>?_,λh=>a _ _ ⟨Ext.refl _,w.heap.size,o6 _,au.nil _ _ _ _⟩⟩;rw[z8 an.u,hX an.u ah.i (l:=0) (h:=0) (m:=0) jI p9 fG Ω Ω Ω,if_pos rfl];refine Jq (k:=n) (xs:=[]) rfl an.u ah.u ah.i rfl ⟨rfl,0,0,ν,0,rfl,o6 _,X8 _,λh=>absurd h (Nat.lt_irrefl _),λj v h=>by simp at h⟩ Ω Ω Ω Ω λv g w' A p hm=>?_;obtain⟨_,⟨_,B⟩|⟨cap,cs,rfl,q,h1,r,s,C⟩⟩:=hm
  .omega
  rw[hW an.u,hX an.u ah.i (l:=0) (h:=0) (m:=cap) jI p9 fG Ω Ω Ω,if_neg Ω];have y:U2 (λx:Addr=>x.add (0*1)) (σ ⟨g,0,ν⟩)=σ ⟨g,0,ν⟩:=by simp[T7]
  rw[y];refine a _ _ ⟨p,g,Ω,au.of (n:=0) ⟨Ξ,.inr ⟨cap,cs,Ξ,q,Ω,r,s,Ξ⟩⟩⟩
 .intro ax a;simp only[aR,aj];exact⟨λh=>Ω,λ_=>a _ rfl⟩
def MZ{b:Λ}(N:aG .i64 w ba a)(O:aG .i64 w bv b)(S:a.length<=1000)(V:b.length<=1000)(W:∀v w' g,Ext w w'->w.heap.size<=g->au .i64 ah w' g v (a++b)->K v w'):
  aB x8 (Y8 b6 2 #[(0,ba),(1,bv)]) w λt J=>ai x8 Ig [t] J K:=by
 obtain⟨⟨B,C,E,X⟩,⟨G,H,I,Y⟩⟩:(∃x n c,ba= .slice x n c)/\(∃x n c,bv= .slice x n c):=by
  obtain⟨_,_,_,x,c,h1,_⟩:=id N;obtain⟨_,_,_,y,d,Z,_⟩:=id O;exact⟨⟨x,_,c,h1⟩,⟨y,_,d,Z⟩⟩
 subst X;subst Y;refine jK b6.u an.i Ω (cs:=#[.slice B C E,.slice G H I]) Ψ λg J ay q s=>?_;have s:ac J g an [.slice B C E,.slice G H I]:=s;have key:∀i:Nat,i<2->∃v l,[x3.slice B C E,.slice G H I][i]?=σ v/\[a,b][i]?=σ l/\aG .i64 w v l/\l.length<=1000:=λi hi=>by
  match i,hi with
  |0,_=>exact⟨_,_,rfl,rfl,N,S⟩
  |1,_=>exact⟨_,_,rfl,rfl,O,V⟩
 refine az func228 ?_;rw[hW b6.u];refine b4.range 2 (λi size U=>Ext J U/\∃n:Nat,n<=1000*i/\size=Δ (n:Int)) Ω ⟨Ext.refl _,0,Ω,rfl⟩ ?_ ?_
 .rintro i _ U aa hi ⟨f,n,ab,rfl⟩ ad;simp only[aR,aj];refine⟨λ_=>?_,λh=>Ω⟩;obtain⟨v,l,L,P,M,ae⟩:=key i hi;refine aW (λv Q=>U=Q/\v=Δ ((n+l.length:Nat):Int)) ?_ ?_
  .rintro _ _ ⟨rfl,rfl⟩;simp only[aL];exact ad _ _ ⟨f,_,Ω,rfl⟩
  .intro ax af;rw[eK (b:=g) (o:=0) b6.u an.i hi (λ_=>rfl),aD Ψ ((s.ext f).cell (o:=0+i*1) (by rw[<-L];congr 1;omega)),aU an.u (M.ext (q.trans f))];simp only[aL,aR,aj];rw[wrap_i64 Ω Ω];exact⟨λh=>Ω,λ_=>af _ _ ⟨rfl,by congr 1⟩⟩
 .rintro _ U aa ⟨f,n,ab,rfl⟩;simp only[aR,aj];refine⟨λh=>Ω,λ_=>?_⟩;refine(MY (n:=n) Ω).mono ?_;rintro v0 Q _ ⟨R,ag,aA,ak⟩;have s1:=q.size;have aC:=f.size;have aE:=R.size;have al:=f.trans R;rw[hW b6.u];refine b4.range 2 (λi v z=>Ext J z/\∃p,J.heap.size<=p/\au .i64 ah z p v (([a,b].take i).flatten)/\(([a,b].take i).flatten).length<=1000*i) Ω ⟨al,ag,Ω,ak,Ξ⟩ ?_ ?_
  .rintro i v4 z am hi ⟨j,p,ao,A,aF⟩ ap;simp only[aR,aj];refine⟨λ_=>?_,λh=>Ω⟩;obtain⟨v,l,L,P,M,ae⟩:=key i hi;rw[eK (b:=g) (o:=0) b6.u an.i hi (λ_=>rfl),aD Ψ ((s.ext j).cell (o:=0+i*1) (by rw[<-L];congr 1;omega))];refine jo an.u ah.i rfl A (M.ext (q.trans j)) Ω Ω λaH aq aI aJ av aw=>?_;simp only[aL];have aK:=j.size;have e:([a,b].take (i+1)).flatten=([a,b].take i).flatten++l:=by rw[u9,P];simp
   refine ap _ _ ⟨j.then aw (by rintro r aM rfl;omega),aq,Ω,by rw[e];exact av,by rw[e,o4];omega⟩
  .rintro v4 z am ⟨j,p,ao,A,_⟩;simp only[aR,aj];refine⟨λh=>Ω,λ_=>W _ _ p (q.trans j) Ω ?_⟩;have e:([a,b].take 2).flatten=a++b:=Ξ
   rw[e]at A;exact A
def ps(s1 a f e vars:Λ):Prop:=∀p∈vars,p∈a->p∈e->h6 s1 (hJ a p)=h6 f (hJ e p)
def dv(s1 a e f vars:Λ):Λ:=vars.map λp=>max (h6 s1 (hJ a p)) (h6 e (hJ f p))
def Cz(s1 a e f vars:Λ):(dv s1 a e f vars).length=vars.length:=by simp[dv]
def td{x:Int}:0<=hJ l x↔x∈l:=by
 unfold hJ;by_cases h:x∈l
 .rw[if_pos h];exact⟨λ_=>h,λ_=>Ω⟩
 .rw[if_neg h];exact⟨λh=>Ω,λa=>absurd a h⟩
def M0{g ay Y aA:Nat}{G Z:x3}{s1 f vars e:Λ}{aB:Int}{aC aD:Λ}(h1:dd w g ay sv s1 k aC)(aa:dd w Y aA G f aB aD)(q:aG .i64 w Z vars)(aE:aG .i64 w ba a)(H:aG .i64 w bv e)(aH:hg a)(aI:hg e)(be:vars.length<=1000):
  ai x8 Ih [Z,Γ g,ba,Γ Y,bv] w λv w'=>Ext w w'/\
   (¬ps s1 a f e vars->v= .tuple #[.slice ν 0 0,.bool false])/\
   (ps s1 a f e vars->∃x ak,v= .tuple #[x,.bool true]/\w.heap.size<=ak/\au .i64 ah w' ak x (dv s1 a f e vars)):=by
 have sub:∀{w:x4}{g:Nat}{sv:x3}{k:Int}{aZ:x3},ac w g cZ [sv,Δ k,aZ]->w.rangeAt g (0+0) [sv]:=λH=>nN H (by
  intro j v q
  match j,q with
  |0,q=>exact q)
 refine az func229 ?_;rw[aU an.u q];refine jL an.u ah.i Ω Ω λgz J bf ab aJ=>?_;have aK:au .i64 ah J gz (.slice (σ ⟨gz,0,ν⟩) vars.length vars.length) (o5 vars.length 0):=au.of (n:=vars.length) (bX.full aJ Ξ (by simp[maxLen];omega));generalize (x3.slice (σ ⟨gz,0,ν⟩) vars.length vars.length)=aM at*;rw[aU an.u (q.ext ab)];have I:=Cz s1 a f e vars;refine mw.range vars.length (λi _ _ U=>Ext w U/\au .i64 ah U gz aM (upto (dv s1 a f e vars) 0 i)/\∀(j:Nat)(p:Int),j<i->vars[j]?=σ p->p∈a->p∈e->h6 s1 (hJ a p)=h6 f (hJ e p)) Ω
  ⟨ab,by rw[o2,I];exact aK,λj p B=>Ω⟩ ?_ ?_
 .rintro i _ _ U aN hi ⟨s,hm,K⟩ aO;simp only[aR,aj];refine⟨λ_=>?_,λh=>Ω⟩;obtain⟨p,y⟩:=aF (l:=vars) hi;rw[bb an.u ah.i Ψ (q.ext s) y];refine(wn (aE.ext s) aH).mono ?_;rintro _ bg _ ⟨rfl,L⟩;refine(wn (H.ext (s.trans L)) aI).mono ?_;rintro _ aP _ ⟨rfl,ad⟩;have ae:=(s.trans L).trans ad;refine aW (λv af=>Ext aP af/\∃c,v= .bool c/\(c=true↔p∈a/\p∈e/\h6 s1 (hJ a p)≠h6 f (hJ e p))) ?_ ?_
  .rintro _ af ⟨ag,c,rfl,al⟩;have am:=ae.trans ag;rw[cg];refine⟨λaQ=>⟨am,λ_=>by first|rfl|trivial,λB=>?_⟩,λaT=>?_⟩
   .obtain⟨z,A,aV⟩:=al.1 aQ;exact absurd (B p (x6 y) z A) aV
   .simp only[ef];intro bh ao _ _;have M:=am.trans ao;obtain⟨⟨aZ,gs,N,O,_⟩,_⟩:=h1.ext M;obtain⟨⟨aX,aY,P,Q,_⟩,_⟩:=aa.ext M;rw[bY,aS cZ.p rfl,bE (cs:=[sv]) bC.p bC.i rfl (sub N),bY,aS cZ.p rfl,bE (cs:=[G]) bC.p bC.i rfl (sub P)];refine(qq O.ls).mono ?_;rintro _ bi _ ⟨rfl,C⟩;refine⟨.inl C,?_⟩;refine(qq (Q.ls.ext C)).mono ?_;rintro _ bj _ ⟨rfl,ap⟩;have a1:=(M.trans C).trans ap;have aq:=hm.ext ((((L.trans ad).trans ag).trans ao).trans (C.trans ap));have bk:(upto (dv s1 a f e vars) 0 i).length=vars.length:=by rw[nS,I]
    rw[vd,h0 rfl an.u ah.i aq Ω];refine h2 ah.i aq Ω λbl a2 _ av=>?_;simp only[aL];have a6:(dv s1 a f e vars)[i]?=σ (max (h6 s1 (hJ a p)) (h6 f (hJ e p))):=by
     unfold dv;rw[v8,y];rfl
    rw[pa a6]at av;refine aO _ _ _ ⟨a1.then a2 (by rintro r bm rfl;omega),av,λj a7 B R z A=>?_⟩;by_cases a8:j=i
    .subst a8;rw[y]at R;cases R;refine Decidable.byContradiction λbc=>?_;have:=al.2 ⟨z,A,bc⟩;rw[aT]at this;cases this
    .exact K j a7 Ω R z A
  .intro ax S;simp only[ef,cS,aj];intro bn E _ _;refine⟨λV=>⟨λW=>?_,λW=>⟨.inl (Ext.refl _),S _ _ ⟨E,false,rfl,⟨(λh=>by cases h),λh=>absurd (td.2 h.2.1) W⟩⟩⟩⟩,λV=>⟨.inl (Ext.refl _),S _ _ ⟨E,false,rfl,⟨(λh=>by cases h),λh=>absurd (td.2 h.1) V⟩⟩⟩⟩;have aw:=ae.trans E;obtain⟨⟨aZ,gs,N,O,_⟩,_⟩:=h1.ext aw;obtain⟨⟨aX,aY,P,Q,_⟩,_⟩:=aa.ext aw;rw[bY,aS cZ.p rfl,bE (cs:=[sv]) bC.p bC.i rfl (sub N),bY,aS cZ.p rfl,bE (cs:=[G]) bC.p bC.i rfl (sub P)];refine(qq O.ls).mono ?_;rintro _ bo _ ⟨rfl,X⟩;refine⟨.inl X,?_⟩;refine(qq (Q.ls.ext X)).mono ?_;rintro _ bp _ ⟨rfl,bd⟩;simp only[bN];refine S _ _ ⟨(E.trans X).trans bd,_,rfl,?_⟩;rw[decide_eq_true_iff];exact⟨λh=>⟨td.1 V,td.1 W,h⟩,λh=>h.2.2⟩
 .rintro _ _ U aN ⟨s,hm,K⟩;simp only[aR,aj];refine⟨λh=>Ω,λ_=>?_⟩;have B:ps s1 a f e vars:=λp y z A=>by
   obtain⟨i,hi,he⟩:=List.getElem_of_mem y;exact K i p hi (by rw[x7 hi,he]) z A
  rw[<-I,o3]at hm;exact⟨s,λh=>absurd B h,λ_=>⟨_,gz,rfl,Ω,hm⟩⟩
def wq(a e vars:Λ):Prop:=hg vars/\∀x,x∈vars↔x∈a\/x∈e
def n1(s1 h a e j f vars:Λ)(k:Int):Λ:=
 (W5 (aN (dv s1 a e f vars)).toNat).map λ(q:Nat)=>min (bh s1 h (e7 (cN (dv s1 a e f vars) q) vars a)+bh e j (e7 (cN (dv s1 a e f vars) q) vars f)) k
def CA(s1 h a e j f vars:Λ)(k:Int):(n1 s1 h a e j f vars k).length=(aN (dv s1 a e f vars)).toNat:=by simp[n1]
def te{s:Λ}(hk:right k)(h:∀x∈cs,cA x k):cA (bh s cs t) k:=by
 have a:cA 0 k:=⟨hk,Int.le_refl _,by have:=hk.1;omega⟩;unfold bh;split
 .rename_i n _;rw[u4];cases e:cs[n.toNat]? with
  |none=>exact a
  |some x=>exact h x (x6 e)
 .exact a
def Fits(s l:Λ):Prop:=l.length=s.length/\qJ l
def qM(e:Int):x3:=.tuple #[.pointer ν,.slice ν 0 0,Δ e]
def CB(w:x4)(s1 q a f r e:Λ)(k h:Int)(v:x3)(w':x4):Prop:=
 Ext w w'/\(¬(Fits s1 a/\Fits f e)->v=qM 1)/\
  (Fits s1 a/\Fits f e->∃vars,wq a e vars/\(¬ps s1 a f e vars->v=qM 1)/\(ps s1 a f e vars->(k≠h->v=qM 3)/\
   (k=h->¬ca (dv s1 a f e vars)->v=qM 1)/\(k=h->ca (dv s1 a f e vars)->4096<aN (dv s1 a f e vars)->v=qM 5)/\
   (k=h->ca (dv s1 a f e vars)->aN (dv s1 a f e vars)<=4096->∃j s x p,v= .tuple #[Γ j,p,Δ 0]/\
    dd w' j s x (dv s1 a f e vars) k (n1 s1 q a f r e vars k)/\aG .i64 w' p vars)))
def M1{g bK ga bL:Nat}{bM:x3}{s1 z f y:Λ}{aQ:Int}{G H:Λ}(h1:dd w g bK sv s1 k G)(aw:dd w ga bL bM z aQ H)(ay:aG .i64 w ba f)(R:aG .i64 w bv y)(hk:right k)(cu:∀x∈G,cA x k)(cz:∀x∈H,cA x aQ):
  ai x8 HJ [Γ g,ba,Γ ga,bv] w (CB w s1 G f z H y k aQ):=by
 have cB:=ay.cells;have cC:=R.cells;have cD:=h1.2.2.1;have cE:=aw.2.2.1;have sub:∀{w:x4}{g:Nat}{sv:x3}{k:Int}{aZ:x3},ac w g cZ [sv,Δ k,aZ]->w.rangeAt g (0+0) [sv]:=λR=>nN R (by
  intro j v bf
  match j,bf with
  |0,bf=>exact bf)
 refine ik func180 ?_;refine bk λg1 J dM bO K=>?_;refine bk λbP U dN bg L=>?_;refine bk λbR dO dP aR M=>?_;refine bk λbS Z dQ az O=>?_;have dR:=K.lt;have dS:=L.lt;have dT:=M.lt;have dU:=O.lt;have dV:=bO.size;have dW:=bg.size;have dX:=aR.size;have dY:=az.size;have ab:=((bO.trans bg).trans aR).trans az;have K:ac Z g1 eV [Γ g]:=((K.ext bg).ext aR).ext az;have L:ac Z bP an [ba]:=by rw[cB.1]at L;exact(L.ext aR).ext az
 have M:ac Z bR eV [Γ ga]:=M.ext az;have O:ac Z bS an [bv]:=by rw[cC.1]at O;exact O
 refine aW (λv bT=>v= .bool false/\Z=bT) ?_ ?_
 rotate_left
 .intro ax aT;rw[aD Ψ (K.Qz rfl),dc eV.u];simp only[Z6,aY];rw[aD Ψ (M.Qz rfl),dc eV.u];exact aT _ _ ⟨rfl,rfl⟩
 rintro _ _ ⟨rfl,rfl⟩;simp only[aY];refine aW (λv bi=>Ext Z bi/\∃c,v= .bool c/\(c=true↔¬(Fits s1 f/\Fits z y))) ?_ ?_
 rotate_left
 .intro ax aT;rw[aD Ψ (K.Qz rfl),aD Ψ (L.Qz rfl)];refine(Cq (h1.ext ab) (ay.ext ab)).mono ?_;rintro _ bT _ ⟨ad,c,rfl,aA⟩;simp only[bJ,cg];refine⟨λaU=>aT _ _ ⟨ad,true,rfl,λ_ h=>?_,λ_=>rfl⟩,λbU=>?_⟩
  .have:=aA.2 h.1;rw[this]at aU;cases aU
  .have cF:c=true:=by cases c<;>simp_all
   rw[aD Ψ ((M.ext ad).Qz rfl),aD Ψ ((O.ext ad).Qz rfl)];refine(Cq ((aw.ext ab).ext ad) ((R.ext ab).ext ad)).mono ?_;rintro _ dZ _ ⟨cG,d,rfl,bV⟩;simp only[bJ];refine aT _ _ ⟨ad.trans cG,_,rfl,λh ap=>?_,λh=>?_⟩
   .have:=bV.2 ap.2;rw[this]at h;cases h
   .cases d with
    |false=>rfl
    |true=>exact absurd ⟨aA.1 cF,bV.1 rfl⟩ h
 rintro _ bi ⟨aB,c,rfl,aA⟩;have bj:=ab.trans aB;rw[cg];refine⟨λaU ea cH _=>⟨bj.trans cH,λ_=>rfl,λh=>absurd h (aA.1 aU)⟩,λbU=>?_⟩;have aC:Fits s1 f/\Fits z y:=Classical.byContradiction λh=>by
  have:=aA.2 h;rw[bU]at this;cases this
 obtain⟨⟨eb,cI⟩,ec,cJ⟩:=id aC;have ed:=cD.1;have ee:=cE.1;rw[aD Ψ ((L.ext aB).Qz rfl),aD Ψ ((O.ext aB).Qz rfl)];refine MZ (ay.ext bj) (R.ext bj) Ω Ω λef eg eh bW ei cK=>?_;refine wj cK.ls (by rw[o4];omega) λej ek em m bX en bZ cL cM=>?_;have cO:=bZ.length_eq;rw[o4]at cO;refine(MX cM Ω).mono ?_;rintro aV b0 _ ⟨cP,bl⟩;have eo:=aB.size;have ep:=bW.size;have er:=bX.size;have b1:Ext bi b0:=(bW.trans bX).then cP (by rintro r aX rfl;omega);obtain⟨cQ,cR⟩:=Cp cL (j:=m.length) (o6 _);have es:=Co m m.length;have P:wq f y (dedup m m.length):=⟨cQ,λx=>by rw[cR,o8,bZ.mem_iff,j0]⟩;generalize dedup m m.length=vars at*;refine bw an.i λa1 et eu b2 cS=>?_;refine bp an.i bl.ls.cells.1 bl.ls.cells.2 cS (by simp[x3.cells]) λb3 cT ev aE=>?_;have ew:=b1.size;have ey:=b2.size;have bm:Ext b0 b3:=b2.then cT (by rintro r aX rfl;omega);have af:=(aB.trans b1).trans bm;have aF:=ab.trans af;have cw:=aE.lt;have b4:=bl.ls.ext bm;have aE:ac b3 a1 an [aV]:=aE;rw[aD Ψ (aE.Qz rfl),aD Ψ ((K.ext af).Qz rfl),aD Ψ ((L.ext af).Qz rfl),aD Ψ ((M.ext af).Qz rfl),aD Ψ ((O.ext af).Qz rfl)];refine(M0 (h1.ext aF) (aw.ext aF) b4 (ay.ext aF) (R.ext aF) cI.up cJ.up Ω).mono ?_;rintro ez eA _ ⟨aH,cU,cV⟩;have b5:=aF.trans aH;by_cases ag:ps s1 f z y vars
 rotate_left
 .rw[cU ag,bx,bz];simp only[bJ,W3,bQ];intro eB cW _;exact⟨b5.trans cW,λh=>absurd aC h,λ_=>⟨vars,P,λ_=>rfl,λh=>absurd h ag⟩⟩
 obtain⟨xs,ak,rfl,eC,cX⟩:=cV ag;rw[bx,bz];simp only[bJ,X3,aY];intro V al _ _;have a2:=(af.trans aH).trans al;have ao:=b5.trans al;have K:=K.ext a2;have L:=L.ext a2;have M:=M.ext a2;have O:=O.ext a2;have cY:=(aE.ext aH).ext al;obtain⟨⟨aZ,gs,b6,eD,_⟩,_⟩:=h1.ext ao;obtain⟨⟨eE,eF,c0,eH,_⟩,_⟩:=aw.ext ao;rw[aD Ψ (K.Qz rfl),aP cZ.p 1 b6 rfl,aD Ψ (M.Qz rfl),aP cZ.p 1 c0 rfl];simp only[bN,aj];refine⟨λW eI c1 _=>⟨ao.trans c1,λh=>absurd aC h,λ_=>⟨vars,P,λh=>absurd ag h,λ_=>⟨λ_=>rfl,λh=>absurd h W,λh=>absurd h W,λh=>absurd h W⟩⟩⟩,λW=>?_⟩;have W:k=aQ:=X4.1 W;subst W;rw[aD Ψ (K.Qz rfl),aP cZ.p 1 b6 rfl];have c2:=cX.ext al;refine(vm c2.ls).mono ?_;rintro aO aI _ ⟨b7,c3,c4,_,c5⟩;have eJ:=bm.size;have eK:=aH.size;have eL:=al.size;have eM:=b7.size;obtain⟨aJ,e,rfl,eN,a6⟩:∃(aJ:Option Addr)(e:Int),aO= .tuple #[.pointer aJ,Δ e]/\(e=0->aJ≠ν)/\((e=1/\¬ca (dv s1 f z y vars))\/(e=5/\ca (dv s1 f z y vars)/\4096<aN (dv s1 f z y vars))\/(e=0/\ca (dv s1 f z y vars)/\aN (dv s1 f z y vars)<=4096/\
   ∃B A C,aJ=σ ⟨B,0,ν⟩/\V.heap.size<=B/\V.heap.size<=A/\(∀r,leads C r->V.heap.size<=r)/\dd aI B A C (dv s1 f z y vars) k (o5 (aN (dv s1 f z y vars)).toNat 0))):=by
  by_cases I:ca (dv s1 f z y vars)
  .by_cases Q:aN (dv s1 f z y vars)<=4096
   .obtain⟨B,A,C,c6,c7,c8,c9,da⟩:=c5 I Q ⟨hk,Ω,by have:=hk.1;omega⟩;exact⟨_,_,c6,(λ_ h=>by cases h),.inr (.inr ⟨rfl,I,Q,B,A,C,rfl,c7,c8,c9,da⟩)⟩
   .exact⟨_,_,c4 I Ω,(λh=>Ω),.inr (.inl ⟨rfl,I,Ω⟩)⟩
  .exact⟨_,_,c3 I,(λh=>Ω),.inl ⟨rfl,I⟩⟩
 rw[bx,bz];refine bw eV.i λb8 eO eP b9 aK=>?_;refine bp eV.i rfl rfl aK (by simp[x3.cells]) λdb de eQ aK=>?_;have eR:=b9.size;have bn:Ext aI db:=b9.then de (by rintro r aX rfl;omega);have cb:=b7.trans bn;have df:=ao.trans cb;have eS:=aK.lt;simp only[bN,aj];refine⟨λdg eU dh _=>⟨df.trans dh,λh=>absurd aC h,λ_=>⟨vars,P,λh=>absurd ag h,λ_=>⟨λh=>absurd rfl h,λ_ I=>?_,λ_ I Q=>?_,λ_ I Q=>?_⟩⟩⟩,λeW=>?_⟩
 .rcases a6 with⟨rfl,_⟩|⟨_,h,_⟩|⟨_,h,_⟩
  .rfl
  .exact absurd h I
  .exact absurd h I
 .rcases a6 with⟨_,h⟩|⟨rfl,_⟩|⟨_,_,h,_⟩
  .exact absurd I h
  .rfl
  .omega
 .rcases a6 with⟨_,h⟩|⟨_,_,h⟩|⟨h,_⟩
  .exact absurd I h
  .omega
  .exact absurd h dg
 obtain⟨a7,di,B,A,C,rfl,eX,eY,eZ,a8⟩:ca (dv s1 f z y vars)/\aN (dv s1 f z y vars)<=4096/\
   ∃B A C,aJ=σ ⟨B,0,ν⟩/\V.heap.size<=B/\V.heap.size<=A/\(∀r,leads C r->V.heap.size<=r)/\dd aI B A C (dv s1 f z y vars) k (o5 (aN (dv s1 f z y vars)).toNat 0):=by
  rcases a6 with⟨h,_⟩|⟨h,_⟩|⟨_,h⟩
  .omega
  .omega
  .exact h
 obtain rfl:e=0:=Ω
 have dj:(dv s1 f z y vars).length=vars.length:=Cz _ _ _ _ _;have e0:=prod_bound a7;obtain⟨N,bb⟩:∃N:Nat,(aN (dv s1 f z y vars)).toNat=N:=⟨_,rfl⟩;rw[bb]at a8;have e1:0<N:=Ω
 have dk:=a8.ext bn;obtain⟨⟨bo,cc,cd,ce,dl⟩,⟨ch,ci,_⟩,_,e2⟩:=id dk;have e3:B<aI.heap.size:=by obtain⟨⟨_,_,q,_⟩,_⟩:=id a8;exact q.lt
 have e4:A<aI.heap.size:=by obtain⟨⟨_,_,_,_,q⟩,_⟩:=id a8;exact s3 q Θ
 rw[aD Ψ (aK.Qz rfl),bY,aS cZ.p rfl,bE (cs:=[C]) bC.p bC.i rfl (sub cd)];refine sH.mono ?_;rintro _ aL _ ⟨X,bc,rfl,e5,cj⟩;have e6:=bn.size;have e8:=X.size;let S:Nat->Prop:=λr=>r=A;let av:=n1 s1 G f z H y vars k;have bq:av.length=N:=by simp only[av];rw[CA,bb]
 have dm:=(b4.ext aH).ext al;let dn:x4->Prop:=λw'=>ac w' g1 eV [Γ g]/\ac w' bP an [ba]/\ac w' bR eV [Γ ga]/\ac w' bS an [bv]/\ac w' a1 an [aV]/\aG .i64 w' aV vars/\
  ac w' b8 eV [Γ B]/\ac w' B cZ [C,Δ k,bo]/\dd w' g bK sv s1 k G/\dd w' ga bL bM z k H/\aG .i64 w' ba f/\aG .i64 w' bv y/\au .i64 ah w' cc C (dv s1 f z y vars)/\ac w' bc bC [C]/\aL.heap.size<=w'.heap.size
 have ck:=cb.trans X;have facts:∀{a:x4},ae S aL a->dn a:=by
  intro a E;have Y:Ext V a:=ck.put E Ω;have bd:=ao.trans Y;exact⟨K.ext Y,L.ext Y,M.ext Y,O.ext Y,cY.ext Y,dm.ext Y,(aK.ext X).aa E (by show¬(b8=A);omega),(cd.ext X).aa E (by show¬(B=A);exact ch),h1.ext bd,aw.ext bd,ay.ext bd,R.ext bd,
   br (ce.ext X) E (λr aX he=>ci ((show r=A from he)▸aX)),cj.aa E (by show¬(bc=A);omega),E.size⟩
 have cl:=sG (g:=bc) (B0:=aL.heap.size) (sv:=C) a7;rw[bb]at cl;refine nr.old ⟨Nat,false,kV,#[Γ bc],0,_,_,_,λq w'=>ae S aL w'/\au .i64 am w' A bo (upto av 0 q),λ_ _ _=>False,rfl,cl.s,
  ?_,λ_ _ E h=>⟨h.1.ext E,h.2.1.ext E,Y7 h.2.2 E.size⟩,λ_ _ _ E h=>⟨h.1.trans (E.aa S),h.2.ext E⟩,λ_ _ _ _ _ h=>h,⟨cj,(ce.ext X).ls,o6 _⟩,⟨ae.refl _ _,?_⟩,?_,?_,λ_ _ h=>h.elim,λ_ _ _ h=>h.elim⟩
 .rintro _ _ _ _ ⟨_,_,_,_,rfl,_⟩;rfl
 .rw[o2,bq];exact dl.ext X
 .rintro _ aO q _ e9 ⟨_,_,fa⟩ ⟨bt,rfl,fb,gt,dp,fc,cm⟩ ⟨be,dq⟩;cases dp;let x:=cN (dv s1 f z y vars) (q:Int);have cn:x.length=vars.length:=by simp only[x];rw[jp,dj]
  intro fd dr _ _;intro fe ds _ _;have bu:=dr.trans ds;obtain⟨f1,f2,f3,f4,f5,f6,f7,f8,f9,f10,f11,f12,f13,f14,f15⟩:=facts (be.trans (bu.aa S));rw[aD Ψ (f1.Qz rfl),aD Ψ (f5.Qz rfl),aD Ψ (f2.Qz rfl)];refine(Cs (cm.ls.ext bu) f6 f11 P.1 (λp Q=>(P.2 p).2 (.inl Q)) cn Ω).mono ?_;rintro ff fg _ ⟨bA,fh,fi,dt⟩;refine⟨.inl bA,?_⟩;refine(vn (f9.ext bA) dt.ls).mono ?_;rintro _ fj _ ⟨rfl,du⟩;obtain⟨dw,dx⟩:=wh s1 (e7 x vars f) G;have dy:oU s1 (e7 (cN (dv s1 f z y vars) (q:Int)) vars f) G= .tuple #[Δ (bh s1 G (e7 x vars f)),Δ dw]:=dx;rw[dy,bx,bz];intro fk dz _ _;have bB:=((bu.trans bA).trans du).trans dz;obtain⟨f1,f2,f3,f4,f5,f6,f7,f8,f9,f10,f11,f12,f13,f14,f15⟩:=facts (be.trans (bB.aa S));rw[aD Ψ (f3.Qz rfl),aD Ψ (f5.Qz rfl),aD Ψ (f4.Qz rfl)];refine(Cs (cm.ls.ext bB) f6 f12 P.1 (λp Q=>(P.2 p).2 (.inr Q)) cn Ω).mono ?_;rintro fm fo _ ⟨bD,fp,fq,dA⟩;refine⟨.inl bD,?_⟩;refine(vn (f10.ext bD) dA.ls).mono ?_;rintro _ fs _ ⟨rfl,dC⟩;obtain⟨dD,dE⟩:=wh z (e7 x vars y) H;have dF:oU z (e7 (cN (dv s1 f z y vars) (q:Int)) vars y) H= .tuple #[Δ (bh z H (e7 x vars y)),Δ dD]:=dE;rw[dF,bx,bz];intro ft dG _ _;have bF:=((bB.trans bD).trans dC).trans dG;obtain⟨f1,f2,f3,f4,f5,f6,f7,f8,f9,f10,f11,f12,f13,f14,f15⟩:=facts (be.trans (bF.aa S));rw[aD Ψ (f7.Qz rfl),aP cZ.p 2 f8 rfl,aD Ψ (f7.Qz rfl),aP cZ.p 1 f8 rfl];refine Bc.mono ?_;rintro _ fu _ ⟨rfl,bG⟩;refine⟨.inl bG,?_⟩;have dH:qp (bh s1 G (e7 x vars f)) (bh z H (e7 x vars y)) k= .tuple #[Δ (min (bh s1 G (e7 x vars f)+bh z H (e7 x vars y)) k),Δ 0]:=if_pos ⟨te hk cu,te hk cz⟩;rw[dH,iN (v:=Δ (min (bh s1 G (e7 x vars f)+bh z H (e7 x vars y)) k)) rfl,iN (v:=Δ 0) rfl];have cp:=dq.ext (bF.trans bG);have fv:(upto av 0 q).length=N:=by rw[nS,bq]
  rw[h0 rfl aq.u am.i cp Ω];refine h2 am.i cp Ω λdI dJ fw cq=>?_;have cr:ae S aL dI:=(be.trans ((bF.trans bG).aa S)).trans (dJ.mono λr _ h=>h);obtain⟨f1,f2,f3,f4,f5,f6,f7,f8,f9,f10,f11,f12,f13,f14,f15⟩:=facts cr;have dK:av[q]?=σ (min (bh s1 G (e7 x vars f)+bh z H (e7 x vars y)) k):=by
   simp only[av,n1];rw[v8,List.getElem?_range (by rw[bb];exact bt)];rfl
  rw[pa dK]at cq;exact⟨⟨f14,f13.ls,f15⟩,⟨cr,cq⟩,λh=>by cases h⟩
 .rintro q fx bt ⟨ct,bH⟩;rw[show q=N from bt]at bH;intro fy bI _ _;obtain⟨f1,f2,f3,f4,f5,f6,f7,f8,f9,f10,f11,f12,f13,f14,f15⟩:=facts (ct.trans (bI.aa S));rw[aD Ψ (f7.Qz rfl),aD Ψ (f5.Qz rfl)];intro fz aM _;rw[<-bq,o3]at bH;have dL:=ao.trans ck;refine⟨((dL.put ct Ω).trans bI).trans aM,λh=>absurd aC h,λ_=>⟨vars,P,λh=>absurd ag h,λ_=>⟨λh=>absurd rfl h,λ_ h=>absurd a7 h,λ_ _ h=>Ω,λ_ _ _=>⟨B,A,C,aV,rfl,⟨⟨bo,cc,f8.ext aM,f13.ext aM,(bH.ext bI).ext aM⟩,⟨ch,ci,di⟩,a7,CA _ _ _ _ _ _ _ _⟩,f6.ext aM⟩⟩⟩⟩
def hg.pair(h:hg l):l.Pairwise (·< ·):=V9.2 λi j hi a e=>h i j _ _ e (x7 hi) (x7 a)
def M2{m:Λ}(e:hg l)(hm:hg m)(h:∀x,x∈l↔x∈m):l=m:=by
 have f:l.Nodup:=e.pair.imp λh=>Ω
 have j:m.Nodup:=hm.pair.imp λh=>Ω
 exact List.Perm.eq_of_pairwise (le:=(·<= ·)) (λa b _ _ h1 p=>Int.le_antisymm h1 p) (e.pair.imp λh=>Int.le_of_lt h) (hm.pair.imp λh=>Int.le_of_lt h) ((List.perm_ext_iff_of_nodup f j).2 h)
def M3{vars:Λ}(h:wq l l vars)(hu:hg l):vars=l:=M2 h.1 hu λx=>by rw[h.2];simp
def CC(h:l.Pairwise (·< ·)):hg l:=λi j x y e f p=>by
 have h1:=x5.1 f;have a:=x5.1 p;have:=V9.1 h i j h1.1 a.1 e;rw[h1.2,a.2]at this;exact this
def M4{x:Λ}(hu:l.Nodup)(h:x.length=l.length):e7 x l l=x:=by
 refine Y9 λi=>?_;unfold e7;cases a:l[i]? with
 |none=>rw[v8,a,Y2 (by have:=List.getElem?_eq_none_iff.1 a;omega)];rfl
 |some v=>
  have hi:=(x5.1 a).1;rw[v8,a,Z7,qH hu a,u4,x7 (show i<x.length by omega)];rfl
def CD{s:Λ}(hu:hg l)(h:s.length=l.length):dv s l s l l=s:=by
 refine Y9 λi=>?_;unfold dv;cases a:l[i]? with
 |none=>rw[v8,a,Y2 (by have:=List.getElem?_eq_none_iff.1 a;omega)];rfl
 |some v=>
  have hi:=(x5.1 a).1;rw[v8,a,Z7,Cr hu a,Int.max_self,x7 (show i<s.length by omega)];unfold h6;rw[if_pos Ω,u4,r8,x7 (show i<s.length by omega)];rfl
def M5{s b:Λ}(hu:l.Pairwise (·< ·))(h:s.length=l.length)(I:dE s)(e:a.length=(aN s).toNat)(f:b.length=(aN s).toNat):n1 s a l s b l l k=ee k a b:=by
 have j:l.Nodup:=hu.imp λh=>Ω
 unfold n1;rw[CD (CC hu) h,LR I e f];apply List.map_congr_left;intro q _;rw[M4 j (by rw[jp,h])]
def M6{s b:Λ}(hu:l.Pairwise (·< ·))(B:∀x∈l,0<=x)(h:s.length=l.length)(I:ca s)(C:aN s<=4096)(E:a.length=(aN s).toNat)(F:b.length=(aN s).toNat)(f:CB w s a l s b l k k v w'):
  Ext w w'/\∃e j q r,v= .tuple #[Γ e,r,Δ 0]/\dd w' e j q s k (ee k a b):=by
 obtain⟨G,_,f⟩:=f;have y:=CC hu;have z:Fits s l:=⟨h.symm,Mv y B⟩;obtain⟨vars,H,_,J⟩:=f ⟨z,z⟩;have K:=M3 H y;subst K;obtain⟨_,_,_,A⟩:=J λp M N O=>rfl;rw[CD y h,M5 hu h I.2 E F]at A;obtain⟨e,j,q,r,rfl,L,_⟩:=A rfl I C;exact⟨G,e,j,q,r,rfl,L⟩
def M7{s:Λ}(I:dE s):(bc s).Nodup:=(Ch I).imp λ{a b}h he=>by subst he;omega
def M8{s:Λ}{i:Nat}(I:dE s)(hi:(bc s)[i]?=σ t)(a:(bc s)[j]?=σ t):i=j:=kw (M7 I) hi a
def M9{s:Λ}(I:dE s)(h:dj s t):∃j:Nat,(bc s)[j]?=σ t:=X5.1 ((Cg I).2 h)
def tf{g m:Nat}{cs:List x3}{d:List (x3×x3)}(h:ac w g e cs)(hm:c7 w m d)(a:ae (λr=>r=m) w w'):ac w' g e cs:=h.aa a (λhe=>s4 h hm he)
def CE{g m:Nat}{k:n9}{d:List (x3×x3)}(h:au k e w g v l)(hm:c7 w m d)(a:ae (λr=>r=m) w w'):au k e w' g v l:=br h a (λ_ f he=>Cj h hm f he)
def tg(cs:Λ)(o:Int):Prop:=o∈cs/\∀d∈cs,cs.count d<cs.count o\/(cs.count d=cs.count o/\o<=d)
def Na{i:Nat}{x:Int}(h:l[i]?=σ x)(y:Int):(l.take (i+1)).count y=(l.take i).count y+if y=x then 1 else 0:=by
 rw[u9,h,List.count_append];congr 1;simp only[l7,List.count_singleton];by_cases a:y=x
 .subst a;simp
 .rw[if_neg a,if_neg (by simpa using λh=>a h.symm)]
def gO(p:Int×Int):x3×x3:=(Δ p.1,Δ p.2)
def qN:Keys x8 am λv=>∃n,v=Δ n:=Keys.int am.u
def qO(E:List (Int×Int)):∀p∈E.map gO,∃n,p.1=Δ n:=λp a=>by
 obtain⟨q,_,rfl⟩:=l9.1 a;exact⟨_,rfl⟩
def wr(cs:Λ)(E:List (Int×Int)):Prop:=(∀x,x∈E.map (·.1)↔x∈cs)/\∀p∈E,p.2=(cs.count p.1:Nat)
def CF{E:List (Int×Int)}(h:wr cs E){x:Int}(e:x∈cs):∃j:Nat,E[j]?=σ (x,((cs.count x:Nat):Int)):=by
 obtain⟨p,a,rfl⟩:=l9.1 ((h.1 x).2 e);obtain⟨j,f⟩:=X5.1 a;exact⟨j,by rw[f,<-h.2 p a]⟩
def CG{cw:x3}(h:aG .i64 w cw cs)(av:cs≠[])(bg:cs.length<=1000000):ai x8 rZ [cw] w λv w'=>Ext w w'/\∃o,v=Δ o/\tg cs o:=by
 refine az func238 ?_;refine aB.cr (sJ λm J hm X aM bh=>?_);rw[aU aq.u (h.ext X)];refine bU.range cs.length (λi U=>ae (λr=>r=m) J U/\∃E,c7 U m (E.map gO)/\wr (cs.take i) E) Ω ⟨ae.refl _ _,[],aM,by simp[wr]⟩ ?_ ?_
 .rintro i U aN hi ⟨G,E,A,f⟩ aw;obtain⟨x,Y⟩:=aF (l:=cs) hi;have H:Ext w U:=X.put G Ω;have aO:∀y,(cs.take i).count y<=1000000:=λy=>by
   have:=List.count_le_length (a:=y) (l:=cs.take i);rw[o7]at this;omega
  refine bA Ω ?_;rw[bb aq.u am.i Ψ (h.ext H) Y];have P:=Na Y;have ay:∀y,y∈cs.take (i+1)↔y∈cs.take i\/y=x:=λy=>by
   rw[u9,Y];simp
  by_cases I:x∈cs.take i
  .obtain⟨j,Z⟩:=CF f I;have Q:(E.map gO)[j]?=σ (Δ x,Δ (((cs.take i).count x:Nat):Int)):=by rw[v8,Z];rfl
   rw[qs lT.u qN A (qO E) ⟨_,rfl⟩ Q];simp only[Bool.false_eq_true,if_false];have:=aO x;rw[aL,wrap_i64 Ω Ω];refine aB.cr (qt lT.u qN A (qO E) ⟨_,rfl⟩ (λL v0 aa ab M ac aP=>?_) (λaa R=>absurd rfl (R _ (x6 Q))));have aQ:L=j:=A.uniq ab Q rfl;subst aQ;rw[aL];have ad:(E.map gO).set L (Δ x,Δ ((((cs.take i).count x:Nat):Int)+1))=(E.set L (x,(((cs.take i).count x:Nat):Int)+1)).map gO:=by rw[U8];rfl
   rw[ad]at M;have aS:=(x5.1 Z).1;refine aw _ ⟨G.trans ac,_,M,λy=>?_,λp e=>?_⟩
   .rw[U8,qk (by rw[v8,Z];rfl),f.1,ay];exact⟨.inl,λh=>h.elim id (λh=>h▸I)⟩
   .obtain⟨q,s⟩:=X5.1 e;by_cases af:L=q
    .subst af;rw[b8 aS]at s;cases s;show _=(((cs.take (i+1)).count x:Nat):Int);rw[P,if_pos rfl];omega
    .rw[Y4 af]at s;have ag:p.1≠x:=λhe=>af (A.uniq Q (show(E.map gO)[q]?=σ (gO p) by rw[v8,s];rfl) (by rw[gO,he]));rw[f.2 p (x6 s),P,if_neg ag,Nat.add_zero]
  .have R:∀p∈E.map gO,p.1≠V8 .i64 x:=λp e he=>by
    obtain⟨q,s,rfl⟩:=l9.1 e;have:q.1=x:=by simpa[gO]using he
    exact I ((f.1 x).1 (l9.2 ⟨q,s,this⟩))
   rw[sK lT.u qN ⟨_,_,ah.i⟩ A (qO E) ⟨_,rfl⟩ R];simp only[Bool.false_eq_true,if_false];rw[aL,wrap_i64 Ω Ω];refine aB.cr (qt lT.u qN A (qO E) ⟨_,rfl⟩ (λL v0 aa ab=>absurd rfl (R _ (x6 ab))) (λaa _ M ac aP=>?_));rw[aL];have ad:E.map gO++[(V8 .i64 x,V8 .i64 (0+1))]=(E++[(x,1)]).map gO:=by rw[Z4];rfl
   rw[ad]at M;have aT:(cs.take i).count x=0:=List.count_eq_zero.2 I;refine aw _ ⟨G.trans ac,_,M,λy=>?_,λp e=>?_⟩
   .rw[Z4,j0,f.1,ay];simp
   .rcases j0.1 e with e|e
    .have ag:p.1≠x:=λhe=>I ((f.1 x).1 (l9.2 ⟨p,e,he⟩));rw[f.2 p e,P,if_neg ag,Nat.add_zero]
    .rw[j6.1 e];show(1:Int)=(((cs.take (i+1)).count x:Nat):Int);rw[P,if_pos rfl,aT];rfl
 rintro U aN ⟨G,E,A,f⟩;rw[o8]at f;have H:Ext w U:=X.put G Ω;refine b2 Ω ?_;refine(Ks (h.ext H) av).mono ?_;rintro _ aV bi ⟨rfl,ak⟩;have bj:=H.size;have bk:=ak.size;refine aB.cr (Bg lT.u (A.ext ak) λN bl bm aX bn aZ bo=>?_);refine⟨λpt C=>∃b B z left aA,pt=Δ b/\b∈cs/\Ext aV C/\hG C N m (E.map gO) left aA/\left=z.map gO/\(B++z).Perm E/\∀p∈B,cs.count p.1<cs.count b\/(cs.count p.1=cs.count b/\b<=p.1),λ_ C=>pm C N,
  ⟨vE cs,[],E,E.map gO,ν,rfl,(J6 av).1,aX,aZ,rfl,List.Perm.refl _,λp e=>by cases e⟩,?_⟩
 rintro _ C ⟨b,B,z,left,aA,rfl,al,an,aC,rfl,S,ao⟩;refine Bi aC (λ_=>by show w.heap.size<=N;omega) (λa1=>?_) (λj p ap e aD bp O=>?_)
 .rw[iN (v:=.bool false) rfl,aY];have:z=[]:=List.map_eq_nil_iff.1 a1;subst this;rw[V3]at S;refine⟨(H.trans ak).trans an,b,rfl,al,λd a2=>?_⟩;obtain⟨q,s,rfl⟩:=l9.1 ((f.1 d).2 a2);exact ao q (S.mem_iff.2 s)
 .rw[iN (v:=.bool true) rfl,bQ];refine Bj O ?_;obtain⟨q,s,rfl⟩:∃q,z[j]?=σ q/\gO q=p:=by
   rw[v8]at e;exact X2.1 e
  have aE:q∈E:=S.mem_iff.1 (j0.2 (.inr (x6 s)));have bq:=f.2 q aE;have a6:q.1∈cs:=(f.1 q.1).1 (l9.2 ⟨q,aE,rfl⟩);obtain⟨a7,a8⟩:=CF f al;have ba:(E.map gO)[a7]?=σ (Δ b,Δ ((cs.count b:Nat):Int)):=by rw[v8,a8];rfl
  rw[iN (v:=Δ q.1) rfl,iN (v:=Δ q.2) rfl];have aH:(B++[q]++z.eraseIdx j).Perm E:=by
   refine List.Perm.trans ?_ S;rw[Y6];exact List.Perm.append_left B (vR s)
  have aI:pm ap N<pm C N:=by
   rw[sO O,sO aC];have:=Bv (x5.1 e).1;omega
  refine aW (λv bc=>ap=bc/\∃r:Bool,v= .bool r/\(r=true↔(cs.count b<cs.count q.1\/(cs.count q.1=cs.count b/\q.1<b)))) ?_ ?_
  .rintro _ _ ⟨rfl,r,rfl,W⟩;rw[cg];refine⟨λbd=>?_,λaJ=>?_⟩
   .have W:=W.1 bd;refine⟨⟨q.1,B++[q],z.eraseIdx j,_,_,rfl,a6,an.trans aD,O,(mP gO z j),aH,λp e=>?_⟩,aI⟩;rcases j0.1 e with e|e
    .have:=ao p e;omega
    .rw[j6.1 e];exact .inr ⟨rfl,Int.le_refl _⟩
   .have W:¬(cs.count b<cs.count q.1\/(cs.count q.1=cs.count b/\q.1<b)):=λh=>by rw[W.2 h]at aJ;cases aJ
    refine⟨⟨b,B++[q],z.eraseIdx j,_,_,rfl,al,an.trans aD,O,(mP gO z j),aH,λp e=>?_⟩,aI⟩;rcases j0.1 e with e|e
    .exact ao p e
    .rw[j6.1 e];omega
  .intro ax au;have aK:∀K:x3->Prop,V x8 (Instr.lookup lT (.map (σ m)) (Δ b) false) ap K=K (Δ ((cs.count b:Nat):Int)):=λK=>by
    rw[qs lT.u qN O.map (qO E) ⟨_,rfl⟩ ba];simp
   rw[aK,bS,aj];refine⟨λh1=>au _ _ ⟨rfl,true,rfl,⟨λ_=>.inl Ω,λ_=>rfl⟩⟩,λh1=>?_⟩;rw[aK,bf,aj];refine⟨λbe=>?_,λbe=>au _ _ ⟨rfl,false,rfl,⟨λh=>(by cases h),λh=>Ω⟩⟩⟩;rw[aR];refine au _ _ ⟨rfl,_,rfl,?_⟩;rw[decide_eq_true_eq];omega
def Nb{g:Nat}{k:n9}{p:r9}{cs:List x3}(h:au k e w g v l)(q:ac w j p cs)(x:e≠p)(s:leads v r):r≠j:=by
 obtain⟨rfl,_⟩:=bR h s;obtain⟨_,⟨rfl,_⟩|⟨_,_,_,f,_⟩⟩:=h
 .obtain⟨a,n,c,h,_⟩:=s;cases h
 .rintro rfl;unfold ac at q f;rw[q]at f;injection f with h1;injection h1 with z y;exact x y.symm
def Nc(w:x4)(ag:Λ)(k:Int)(cs:Λ)(v:x3)(w':x4):Prop:=Ext w w'/\∃g m o D,v=Γ g/\eL w' g m ag k o D/\D.length<=(aN ag).toNat/\iA ag (iw D o) cs/\tg cs o
def Nd{g bN:Nat}(h:dd w g bN sv ag k cs)(aE:∀c∈cs,cA c k):ai x8 HQ [Γ g] w (Nc w ag k cs):=by
 obtain⟨⟨aZ,gs,a8,hm,cl⟩,⟨_,_,ba⟩,I,al⟩:=id h;have cm:=prod_bound I;have cn:=I.1;have bd:cs≠[]:=λhe=>by rw[he]at al;simp at al;omega
 refine ik func190 ?_;rw[dc eV.u];simp only[Z6,aY];refine(mO h).mono ?_;rintro cw U _ ⟨O,cp,cq,aF⟩;refine bw aq.i λan cr ct be bf=>?_;have cu:=bf.lt;refine bp aq.i aF.ls.cells.1 aF.ls.cells.2 bf (by simp[x3.cells]) λao bO cz ap=>?_;have ap:ac ao an aq [cw]:=ap;have cB:=O.size;have cC:=be.size;have bg:Ext U ao:=be.put bO Ω;have bi:=aF.ext bg;have Z:=O.trans bg;refine aW (λu au=>∃a A m o K L,u=Γ a/\Ext ao au/\ac au a eU [Γ A]/\ao.heap.size<=m/\fK au A m K L ag k o []/\tg cs o) ?_ ?_
 .rintro _ au ⟨a,A,m,o,K,L,rfl,ab,e,cD,B,E⟩;have bP:=h.ext (Z.trans ab);have bQ:=ap.ext ab;have bR:=bi.ext ab;refine(ph bP).mono ?_;rintro _ cE _ ⟨rfl,bS⟩;refine sH.mono ?_;rintro _ aH _ ⟨bT,bj,rfl,cF,bk⟩;have P:=bS.trans bT;have bl:=B.ext P;have bU:=bQ.ext P;have bm:=e.ext P;have bV:=bR.ext P;have bn:=hm.ext ((Z.trans ab).trans P);have Q:=bl.2.2.1;have bW:=(Z.trans ab).trans P;have cG:=Z.size;have bX:=sG (g:=bj) (B0:=aH.heap.size) (sv:=sv) I;refine nr.old ⟨Nat,false,kV,#[Γ bj],_,_,_,_,λi w'=>ae (λr=>r=m) aH w'/\∃D,D.length<=i/\fK w' A m K L ag k o D/\∀(j:Nat)t,(bc ag)[j]?=σ t->iw D o t=if j<i then bh ag cs t else o,λ_ _ _=>False,rfl,bX.s,
   ?_,λ_ _ S h=>⟨h.1.ext S,h.2.1.ext S,Y7 h.2.2 S.size⟩,λ_ _ _ S ⟨h1,D,bY,b0,ba⟩=>⟨h1.trans (S.aa _),D,bY,b0.ext S,ba⟩,λ_ _ _ _ _ h=>h,⟨bk,bn.ls,o6 _⟩,⟨ae.refl _ _,[],o6 _,bl,λj t _=>by rw[if_neg Ω];rfl⟩,?_,?_,λ_ _ h=>h.elim,λ_ _ _ h=>h.elim⟩
  .rintro _ _ _ _ ⟨_,_,_,_,rfl,_⟩;rfl
  .rintro _ aO i _ b1 ⟨cH,cI,b2⟩ ⟨hi,rfl,cJ,gt,b3,cK,y⟩ ⟨av,D,bo,aI,aJ⟩;cases b3;have aK:(bc ag)[i]?=σ (cN ag (i:Int)):=o1 I.2 Ω;have b4:dj ag (cN ag (i:Int)):=vF I.2 hi;generalize cN ag (i:Int)=t at*;have bq:=LZ I.2 al aK;intro b5 aw _ _;intro b6 b7 _ _;have ay:=aw.trans b7;have az:ae (λr=>r=m) aH b6:=av.trans (ay.aa _);rw[aD Ψ ((tf bm Q az).Qz rfl),aD Ψ ((tf bU Q az).Qz rfl),bb aq.u am.i Ψ (CE bV Q az).ls bq];have aL:=aI.ext ay;refine(Bu aL.is (y.ext ay).ls (c:=bh ag cs t)).mono ?_;rintro _ cL _ ⟨_,b8⟩;obtain⟨rfl,aM,D',br,bt⟩:=b8 ⟨b4,aE _ (x6 bq)⟩;have aN:=az.trans aM;have cM:=br.2;refine⟨⟨tf bk Q aN,(CE bn Q aN).ls,Y7 b2 (Y7 ay.size aM.size)⟩,⟨aN,D',Ω,aL.put aM bt,λj s M=>?_⟩,λh=>by cases h⟩;rw[br.cost aL.is.nodup bt.nodup];by_cases bu:j=i
   .subst bu;rw[aK]at M;cases M;rw[if_pos rfl,if_pos Ω]
   .rw[if_neg (λ(he:s=t)=>bu (M8 I.2 (by rw[<-he];exact M) aK)),aJ j s M];by_cases h1:j<i
    .rw[if_pos h1,if_pos Ω]
    .rw[if_neg h1,if_neg Ω]
  .rintro i b1 rfl ⟨av,D,bo,aI,aJ⟩;rw[aD Ψ ((tf bm Q av).Qz rfl)];intro b5 aw _;refine⟨(bW.put av Ω).trans aw,A,m,o,D,rfl,aI.is.ext aw,bo,⟨al,λt b9=>?_⟩,E⟩;obtain⟨j,M⟩:=M9 I.2 b9;have:=(x5.1 M).1;rw[io I.2]at this;rw[aJ j t M,if_pos this]
 intro ax bA;intro z ad _ _;have aP:=Z.trans ad;have bB:=ad;have aA:=h.ext aP;have bC:=bi.ext ad;have cO:=ad.size;rw[aD Ψ ((ap.ext ad).Qz rfl)];have bD:∀{a:Nat}{w':x4}{aO:x3}{o:Int},Ext z w'->z.heap.size<=a->(∃f,ac w' a eU [f])->aG .i64 w' aO ag->tg cs o->
   ai x8 oL [aO,Δ k,Δ o] w' λC q=>V x8 (Y1 C 0) q λN=>V x8 (Y1 C 1) q λ_=>aB x8 (o9 eU (Γ a) N) q λ(_:Unit)G=>ax (Γ a) G:=by
  rintro a w' aO o x p ⟨f,e⟩ y E;refine(Bo y).mono ?_;rintro _ q _ ⟨aQ,_,_,aR⟩;obtain⟨A,m,rfl,ca,cb,B⟩:=aR I (aE _ E.1);obtain⟨K,L,B⟩:=B.at;rw[bx,bz];have cc:=e.lt;have s':=x.size;refine bp eU.i rfl rfl (e.ext aQ) Ξ λG bE cP cd=>?_;refine bA _ _ ⟨a,A,m,o,K,L,rfl,((bB.trans x).trans aQ).put bE Ω,cd,Ω,B.aa bE (λhe=>by have he:A=a:=he;omega) (λhe=>by have he:m=a:=he;omega) (λr aS he=>?_),E⟩;exact Nb B.2.1 (e.ext aQ) Φ aS he
 have bF:∀{a:Nat}{w':x4}{aO:x3},Ext z w'->z.heap.size<=a->(∃f,ac w' a eU [f])->aG .i64 w' aO ag->
   ai x8 rZ [cw] w' λaf U=>ai x8 oL [aO,Δ k,af] U λC q=>V x8 (Y1 C 0) q λN=>V x8 (Y1 C 1) q λ_=>aB x8 (o9 eU (Γ a) N) q λ(_:Unit)G=>ax (Γ a) G:=by
  rintro a w' aO x p ⟨f,e⟩ y;refine(CG (bC.ext x).ls bd Ω).mono ?_;rintro _ U _ ⟨O,o,rfl,E⟩;exact bD (x.trans O) p ⟨f,e.ext O⟩ (y.ext O) E
 have bG:∀{a:Nat}{w':x4}{aO:x3},Ext z w'->z.heap.size<=a->(∃f,ac w' a eU [f])->aG .i64 w' aO ag->
   ai x8 u3 [Γ g] w' λaT J=>(Ext z J\/bZ x8 (u5 aq (Γ an)) cw J/\True)/\
    ai x8 rZ [cw] J λaf U=>ai x8 oL [aO,aT,af] U λC q=>V x8 (Y1 C 0) q λN=>V x8 (Y1 C 1) q λ_=>aB x8 (o9 eU (Γ a) N) q λ(_:Unit)G=>ax (Γ a) G:=by
  rintro a w' aO x p ⟨f,e⟩ y;refine(Bd (aA.ext x)).mono ?_;rintro _ J _ ⟨rfl,H⟩;exact⟨.inl (x.trans H),bF (x.trans H) p ⟨f,e.ext H⟩ (y.ext H)⟩
 have bH:ag.length<=1000:=Ω
 have bI:∀{a:Nat}{w':x4},Ext z w'->z.heap.size<=a->(∃f,ac w' a eU [f])->
   ai x8 zs [.agg #[sv]] w' λce w0=>(Ext z w0\/bZ x8 (u5 aq (Γ an)) cw w0/\True)/\
    ai x8 u3 [Γ g] w0 λaT J=>(Ext z J\/bZ x8 (u5 aq (Γ an)) cw J/\True)/\
    ai x8 rZ [cw] J λaf U=>ai x8 oL [ce,aT,af] U λC q=>V x8 (Y1 C 0) q λN=>V x8 (Y1 C 1) q λ_=>aB x8 (o9 eU (Γ a) N) q λ(_:Unit)G=>ax (Γ a) G:=by
  rintro a w' x p ⟨f,e⟩;refine(Be (hm.ext (aP.trans x)).ls bH).mono ?_;rintro aO J _ ⟨H,_,_,y⟩;exact⟨.inl (x.trans H),bG (x.trans H) p ⟨f,e.ext H⟩ y.ls⟩
 have ah:∀{w':x4}{R:x3->x4->Prop},Ext z w'->(∀a aj,z.heap.size<=a->Ext w' aj->(∃f,ac aj a eU [f])->R (Γ a) aj)->aB x8 (Instr.alloc eU true (.tuple #[])) w' R:=λ{w'}{R}x cg=>by
  have:=x.size;exact bw eU.i λa aj p ch a8=>cg a aj Ω ch ⟨_,a8⟩
 refine⟨?_,ah (Ext.refl _) λa cQ p aC e=>⟨.inl aC,?_⟩⟩
 rotate_left
 .refine (ph (aA.ext aC)).mono ?_;rintro _ cR _ ⟨rfl,aU⟩;obtain⟨f,e⟩:=e;exact⟨.inl (aC.trans aU),bI (aC.trans aU) p ⟨f,e.ext aU⟩⟩
 refine(ph aA).mono ?_;rintro _ cS _ ⟨rfl,W⟩;refine⟨.inl W,?_,ah W λa cT p bJ e=>⟨.inl (W.trans bJ),bI (W.trans bJ) p e⟩⟩;refine(Be (hm.ext (aP.trans W)).ls bH).mono ?_;rintro aO cU _ ⟨ci,_,_,y⟩;have X:=W.trans ci;refine⟨.inl X,?_,ah X λa cV p aV e=>⟨.inl (X.trans aV),bG (X.trans aV) p e (y.ext aV).ls⟩⟩;refine(Bd (aA.ext X)).mono ?_;rintro _ cW _ ⟨rfl,aX⟩;have Y:=X.trans aX;refine⟨.inl Y,?_,ah Y λa cX p a1 e=>⟨.inl (Y.trans a1),bF (Y.trans a1) p e ((y.ext aX).ext a1).ls⟩⟩;refine(CG (bC.ext Y).ls bd Ω).mono ?_;rintro _ cY _ ⟨bK,o,rfl,E⟩;have ak:=Y.trans bK;have bL:=(y.ext aX).ext bK;refine⟨?_,ah ak λa cZ p a2 e=>⟨.inl (ak.trans a2),bD (ak.trans a2) p e (bL.ext a2).ls E⟩⟩;refine(Bo bL.ls).mono ?_;rintro _ c0 _ ⟨cj,_,_,aR⟩;obtain⟨A,m,rfl,ca,cb,B⟩:=aR I (aE _ E.1);obtain⟨K,L,B⟩:=B.at;rw[bx,bz];have a6:=ak.trans cj;refine bw eU.i λa c1 p a7 e=>?_;refine⟨.inl (a6.trans a7),?_⟩;have cc:=e.lt;obtain⟨c2,c3,t3⟩:=B.qo;have c4:=ak.size;have c5:=a6.size;refine bp eU.i rfl rfl e (by simp[x3.cells]) λc6 bM c7 ck=>?_;exact bA _ _ ⟨a,A,m,o,K,L,rfl,((bB.trans a6).trans a7).put bM Ω,ck,Ω,(B.ext a7).aa bM (λhe=>by have he:A=a:=he;omega) (λhe=>by have he:m=a:=he;omega) (λr aS he=>by have he:r=a:=he;have:=t3 r aS;omega),E⟩
def CH{acc:List cJ}{g:cJ}(h:∀x∈acc,x.1≠g.1):iv k acc g=acc++[g]:=by
 unfold iv;rw[if_neg];intro hm;obtain⟨x,a,he⟩:=l9.1 hm;exact h x a he
def Nf{acc:List cJ}{g h:cJ}{i:Nat}(e:iX acc)(hi:acc[i]?=σ h)(he:h.1=g.1):iv k acc g=acc.set i (h.1,ee k h.2 g.2):=by
 have f:=(x5.1 hi).1;unfold iv;rw[if_pos (l9.2 ⟨h,x6 hi,he⟩)];refine Y9 λj=>?_;rw[v8,X1];by_cases a:i=j
 .subst a;rw[hi,Z7,if_pos he,if_pos rfl,if_pos f]
 .rw[if_neg a];cases p:acc[j]? with
  |none=>rfl
  |some y=>
   have:y.1≠g.1:=λq=>a (by
    have h1:(acc.map (·.1))[i]?=σ g.1:=by rw[v8,hi,Z7,he]
    have r:(acc.map (·.1))[j]?=σ g.1:=by rw[v8,p,Z7,q]
    exact kw e h1 r)
   rw[Z7,if_neg this]
def Ng{α β:Type}{f:β->α->β}{b:β}{l:List α}{i:Nat}{x:α}(h:l[i]?=σ x):(l.take (i+1)).foldl f b=f ((l.take i).foldl f b) x:=by
 rw[u9,h,l7,List.foldl_append];rfl
def mR(w:x4)(k:Int)(sizes:Λ)(x:cq):Prop:=(∃a,au .i64 ah w a x.sv x.sc)/\∃m o D,eL w x.g m (bI sizes x.sc) k o D/\D.length<=4096/\iA (bI sizes x.sc) (iw D o) x.cs
def mR.ext{x:cq}(h:mR w k sizes x)(a:Ext w w'):mR w' k sizes x:=by
 obtain⟨⟨e,h1⟩,m,o,D,f,j⟩:=h;exact⟨⟨e,h1.ext a⟩,m,o,D,f.ext a,j⟩
def mR.aa{x:cq}(h:mR w k sizes x)(q:ae S w w')(j:∀r,S r->∃e c,ac w r e c/\e≠fF/\e≠ah):mR w' k sizes x:=by
 obtain⟨⟨z,h1⟩,m,o,D,A,B⟩:=h;obtain⟨sv,gs,f⟩:=A.at;have s:∀{g:Nat}{v:x3}{l:Λ},au .i64 ah w g v l->∀r,leads v r->¬S r:=λhm r C I=>by
  obtain⟨e,c,a,_,p⟩:=j r I;exact ch hm a (λhe=>p he.symm) C rfl
 refine⟨⟨z,br h1 q (s h1)⟩,m,o,D,(f.aa q (λI=>?_) (λI=>?_) (s f.2.1)).is,B⟩
 .obtain⟨e,c,a,p,_⟩:=j _ I;have y:=f.1;unfold ac at y a;rw[y]at a;exact p (Obj.cells.inj (Z0 a)).2.1.symm
 .obtain⟨e,c,a,_,_⟩:=j _ I;exact s4 a f.2.2.1 rfl
def qP(w:x4)(g:Nat)(v:x3)(k:Int)(sizes:Λ)(L:List cq):Prop:=bg eF 2 cE w g v L/\∀x∈L,mR w k sizes x
def qP.ext{g:Nat}{L:List cq}(h:qP w g v k sizes L)(a:Ext w w'):qP w' g v k sizes L:=⟨h.1.ext a,λx e=>(h.2 x e).ext a⟩
def Nh(w:x4)(B a:Nat)(f:cb):Prop:=∃szv e gz g L,ac w a cD [bT f.name,Δ f.k,szv,e]/\au .i64 ah w gz szv f.sizes/\qP w g e f.k f.sizes L/\L.map dY=fI f/\B<=a/\(∀r,leads szv r->B<=r)/\∀x∈L,∀r,leads x.sv r->B<=r
def Ni{g bq:Nat}{L:List cq}{q:Λ}(h:e8 w g v L)(B:ac w bq an [sv])(I:aG .i64 w sv q):
  ai x8 zh [v,.func (.func zi) #[] #[Γ bq]] w λr w'=>Ext w w'/\((r=Δ (-1)/\∀x∈L,x.sc≠q)\/∃i:Nat,r=Δ (i:Int)/\∃x,L[i]?=σ x/\x.sc=q):=by
 refine az func177 ?_;rw[e4 gm.u h.1];refine b4.range L.length (λi _ J=>Ext w J/\∀x∈L.take i,x.sc≠q) h.1.le ⟨Ext.refl _,λc a=>by simp at a⟩ ?_ ?_
 .rintro i _ J k hi ⟨f,s⟩ hk;refine bA Ω ?_;obtain⟨x,y⟩:=aF (l:=L) hi;rw[tb rfl (h.ext f) y];show ai x8 zi [jW x,Γ bq] J _;obtain⟨⟨E,hm⟩,_⟩:=(h.ext f).at y;refine az func178 ?_;refine bk λak U G j z=>?_;have z:ac U ak cY [x.sv,Γ x.g]:=by
   obtain⟨_,_,_,e⟩:=c8 hm.ls;simp only[jW,eF,e]at z ⊢;exact z
  rw[aH cY.p 0 z rfl,aD Ψ ((B.ext (f.trans j)).Qz rfl)];refine(I9 (hm.ls.ext j) (I.ext (f.trans j))).mono ?_;rintro _ H _ ⟨rfl,A⟩;rw[aj];refine⟨λhe=>⟨(f.trans j).trans A,.inr ⟨i,rfl,x,y,he⟩⟩,λC=>?_⟩;rw[aL];refine hk _ _ ⟨(f.trans j).trans A,λc a=>?_⟩;rw[u9,y]at a;rcases j0.1 a with a|a
  .exact s c a
  .simp at a;subst a;exact C
 .rintro _ J k ⟨f,s⟩;rw[o8]at s;rw[aR,aj];exact⟨λh=>Ω,λ_=>⟨f,.inl ⟨rfl,s⟩⟩⟩
def eO(f:cb)(i:Nat):List cJ:=((f.funs.take i).map (h5 f.sizes f.k)).foldl (iv f.k) []
def CI{f:cb}(a:fd N f)(i:Nat):(∀g∈eO f i,fw f.sizes f.k g)/\iX (eO f i)/\(eO f i).length<=i:=by
 have:=wc (sizes:=f.sizes) (k:=f.k) (by have:=a.k.1;omega) (l:=(f.funs.take i).map (h5 f.sizes f.k)) (acc:=[]) (λh ap=>by cases ap) List.nodup_nil λg j=>by
  obtain⟨x,p,rfl⟩:=l9.1 j;exact pq a (U6 p)
 refine⟨this.1,this.2.1,?_⟩;have e:=this.2.2;rw[List.length_nil,u7,X6,o7]at e;exact Y7 e (Nat.min_le_left _ _)
def ws{f:cb}{i:Nat}{x:cv}(h:f.funs[i]?=σ x):eO f (i+1)=iv f.k (eO f i) (h5 f.sizes f.k x):=by
 unfold eO;rw[u9,h,l7,Z4,List.foldl_append];rfl
def CJ(f:cb):eO f f.funs.length=ft f:=by unfold eO ft;rw[o8]
def wu{L:List cq}{i:Nat}{x:cq}{D:List cJ}(h:L.map dY=D)(a:L[i]?=σ x):dY x∈D:=by rw[<-h];exact l9.2 ⟨x,x6 a,rfl⟩
def Nj(w:x4)(f:cb)(v:x3)(w':x4):Prop:=Ext w w'/\((¬mf f.funs<=16384/\∃e:Int,e≠0/\v= .tuple #[.pointer ν,Δ e])\/∃a,v= .tuple #[Γ a,Δ 0]/\Nh w' w.heap.size a f)
def th{g a:Nat}{sc:Λ}(hm:au .i64 ah w g sv sc):∀u∈eF ⟨sv,a,sc,cs⟩,u.oneCell'=true:=λu hu=>by
 simp[eF]at hu;rcases hu with rfl|rfl
 .exact hm.ls.cells.2
 .rfl
def Nk{bP:Nat}{f:cb}(bQ:ll w bP f)(G:fd N f)(bS:N<=60000)(c1:f.name≠[]/\∀b∈f.name,bO b=true):
  ai x8 G4 [Γ bP] w (Nj w f):=by
 have hk:=G.k;refine az func124 ?_;refine(MF bQ G bS c1).mono ?_;rintro _ J _ ⟨aJ,e,rfl,he⟩;rw[bN,aj];refine⟨λbV=>⟨aJ,.inl ⟨λh=>bV (he h),e,bV,rfl⟩⟩,λer=>?_⟩;have bW:=bQ.ext aJ;obtain⟨szv,aK,gz,bb,bX,c2,bc,aM⟩:=id bW;have es:bb.length<=256:=by rw[aM.1];exact G.la
 rw[aP cD.p 3 bX rfl,gq dO.u bc];refine b4.range bb.length (λi l U=>∃g L,Ext J U/\e8 U g l L/\Sem U f.k f.sizes L/\L.map dY=eO f i/\(∀r,leadsTo l r->J.heap.size<=r)/\∀x∈L,∀r,leads x.sv r->J.heap.size<=r) (mG bc)
  ⟨0,[],Ext.refl _,⟨bg.nil _ _ _ _ _,λx E=>(by cases E)⟩,λx E=>(by cases E),rfl,λr A=>(fu A).elim,λx E=>(by cases E)⟩ ?_ ?_
 .rintro i l U c3 hi ⟨g,L,X,ay,aO,H,P,aA⟩ c4;obtain⟨d,bZ⟩:=aF (l:=bb) hi;obtain⟨x,aQ⟩:∃x,f.funs[i]?=σ x:=⟨_,x7 (by have:=aM.1;omega)⟩;have b0:=x6 aQ;have c5:=aM.2 i x d aQ bZ;have Y:=pq G b0;obtain⟨c6,c7,et⟩:=CI G i;have c9:L.length<=i:=by have b3:=congrArg Q4 H;rw[u7]at b3;omega
  refine bA Ω ?_;refine aW (λl' aR=>∃Q Z,Ext J aR/\e8 aR Q l' Z/\Sem aR f.k f.sizes Z/\Z.map dY=eO f (i+1)/\(∀r,leadsTo l' r->J.heap.size<=r)/\∀x∈Z,∀r,leads x.sv r->J.heap.size<=r) ?_ ?_
  .rintro l' aR ⟨Q,Z,h1,da,db,dc,de⟩;rw[aL];exact c4 _ _ ⟨Q,Z,h1,da,db,dc,de⟩
  intro ax b5;refine l2 (α:=hf) cE.p rfl dO.u cE.i (bm bc X) bZ λcs bd=>?_;have b6:cs.length=2:=al.len bd;refine bw cE.i λak eu ev df dg=>?_;refine b1 (vs:=cs) cE.i b6 rfl (al.one bd) dg λdh di ew dj=>?_;have K:Ext U dh:=df.put di Ω;rw[bE cE.p cE.i b6 dj.range];refine(MP G bS b0 c5 (bm bd K)).mono ?_;rintro _ dk _ ⟨dl,sv,gs,b7,dm,dn,rfl,ey,ab,b8⟩;rw[bx,bz];refine bw an.i λbq ez eA dp dr=>?_;refine bp an.i ab.ls.cells.1 ab.ls.cells.2 dr (by simp[x3.cells]) λcc ds eB aT=>?_;have be:Ext dk cc:=dp.put ds Ω;have aT:ac cc bq an [sv]:=aT;rw[k0];have bf:=(K.trans dl).trans be;have eC:=bf.size;have eD:=X.size;refine(Ni (ay.ext bf) aT (ab.ls.ext be)).mono ?_;rintro _ eE _ ⟨aU,A⟩;have aV:=bf.trans aU;have cd:=be.trans aU;have bh:=ab.ext cd;have ce:=b8.ext cd;have cg:=aT.ext aU;have ci:=ay.ext aV;have bi:=aO.ext aV;rcases A with⟨rfl,dt⟩|⟨cj,rfl,y,B,aX⟩
  .refine bA Ω ?_;rw[aD Ψ (cg.Qz rfl),dq (cs:=#[sv,Γ b7]) (by obtain⟨_,_,_,rfl⟩:=c8 ab.ls;kernel_rfl)];let a:cq:=⟨sv,b7,bo x.scope,(h5 f.sizes f.k x).2⟩;have bj:∀u∈eF a,u.oneCell'=true:=th bh;refine iy (f:=eF) (a:=a) gm.u cY.i Ω rfl rfl λeH eI dv eJ af dw=>?_;have ag:=ci.ext af;refine iV (f:=eF) (a:=a) gm.u cY.i rfl ag.1 (by simpa using dw.sl) bj Ω Ω λaB Q eK aC bl aE=>?_;have ck:=bh.ext af;have aY:∀{r:Nat},leadsTo l r->∃c,ac dv r cY c:=λA=>by
    obtain⟨rfl,c,C⟩:=en ag.1 A;exact⟨c,C⟩
   refine b5 _ _ ⟨Q,L++[a],((X.trans aV).trans af).then aE (λr A he=>by have:=P r he;omega),e8.mk aC λz s=>?_,λz s=>?_,?_,λr A=>?_,λz s r A=>?_⟩
   .rcases j0.1 s with s|s
    .have:=(ag.2 z s).aa aE λr A he=>(ag.2 z s).2.1 r A (ag.1.leads he).1;exact⟨this.1,this.2.2⟩
    .rw[j6.1 s];exact⟨⟨gs,br ck aE λr A he=>by obtain⟨c,C⟩:=aY he;exact ch ck C Φ A rfl⟩,Y.scope⟩
   .rcases j0.1 s with s|s
    .exact (bi.ext af).row ag aE z s
    .rw[j6.1 s];exact⟨dm,dn,wo (ce.ext af) aE λr A=>aY A⟩
   .rw[Z4,H,ws aQ,CH]
    .rfl
    .intro c I dx;rw[<-H]at I;obtain⟨z,s,rfl⟩:=l9.1 I;exact dt z s dx
   .rcases bl r A with h|h
    .exact P r h
    .have:=af.size;have:=aU.size;omega
   .rcases j0.1 s with s|s
    .exact aA z s r A
    .rw[j6.1 s]at A;have b3:=(bR ab A).1;have:=K.size;omega
  .refine b2 Ω ?_;intro eL R _ _;have bn:=ci.ext R;have cl:=(x5.1 B).1;obtain⟨dy,dz,aZ⟩:=(bi.ext R) y (x6 B);have cm:=cg.ext R;have cn:=bh.ext R;have dA:=ce.ext R;rw[du rfl gm.u cY.i bn.1 cl,aS cY.p rfl,aD Ψ (bn.1.range B 1 _ rfl),aD Ψ (cm.Qz rfl),aD Ψ (cm.Qz rfl)];have am:fw f.sizes f.k (dY y):=c6 _ (wu H B);rw[aX]at aZ;have cp:∀{c:Int},0<=c/\c<=f.k->cA c f.k:=λh=>⟨hk,h.1,h.2⟩;refine(M1 aZ dA cn.ls cn.ls hk (λc I=>cp (am.h7 c I)) (λc I=>cp (Y.h7 c I))).mono ?_;intro eM cr _ dC;have dD:y.cs.length=(aN (bI f.sizes (bo x.scope))).toNat:=by have:=am.len;rw[show(dY y).1=y.sc from rfl,aX]at this;exact this
   have dE:ca (bI f.sizes (bo x.scope)):=b8.2.2.1;obtain⟨bt,ct,cu,cw,eN,rfl,dF⟩:=M6 Y.up (λv dG=>(Y.scope.1 v dG).1) (by simp[bI];rfl) dE Y.small dD Y.len dC;rw[gY,gZ,ha];have S:=bn.ext bt;rw[du rfl gm.u cY.i S.1 cl,aS cY.p rfl];let a:cq:=⟨y.sv,ct,y.sc,ee f.k y.cs (h5 f.sizes f.k x).2⟩;refine pk (f:=eF) (j:=1) (a:=y) (a':=a) eV.i rfl rfl S.1 B rfl Ω λdH a1 eP dI=>?_;have aY:∀{r:Nat},leadsTo l r->∃c,ac cr r cY c:=λA=>by
    obtain⟨rfl,c,C⟩:=en S.1 A;exact⟨c,C⟩
   refine b5 _ _ ⟨g,L.set cj a,((X.trans aV).trans (R.trans bt)).then a1 (λr A he=>by have:=P r he;omega),e8.mk dI λz s=>?_,λz s=>?_,?_,P,λz s=>?_⟩
   .have cz:∀z∈L,(∃bu,au .i64 ah dH bu z.sv z.sc)/\jt z.sc:=λz s=>by
     have:=(S.2 z s).aa a1 λr A he=>(S.2 z s).2.1 r A (S.1.leads he).1;exact⟨this.1,this.2.2⟩
    rcases W7 s with s|rfl
    .exact cz z s
    .exact cz y (x6 B)
   .rcases W7 s with s|rfl
    .exact ((bi.ext R).ext bt).row S a1 z s
    .refine⟨cu,cw,wo ?_ a1 λr A=>aY A⟩;show dd cr ct cu cw (bI f.sizes y.sc) f.k _;rw[aX];exact dF
   .rw[U8,H,ws aQ,Nf (g:=h5 f.sizes f.k x) c7 (i:=cj) (h:=dY y) (by rw[<-H,v8,B];rfl) aX];rfl
   .rcases W7 s with s|rfl
    .exact aA z s
    .exact aA y (x6 B)
 .rintro l U c3 ⟨g,L,X,ay,aO,H,P,aA⟩;refine b2 Ω ?_;rw[aM.1,CJ]at H;have c9:L.length<=256:=by
   have:=(lj G).2.2;rw[<-H,u7]at this;have:=G.la;omega
  refine(MV ay aO Ω).mono ?_;rintro eQ cB _ ⟨cC,cF,dJ⟩;have dK:Ext J cB:=X.then cC λr A he=>by have:=P r he;omega
  have dL:Sem cB f.k f.sizes (L.filter gb):=λz s=>(aO.row ay cC) z (S7.1 s).1;have eR:(L.filter gb).length<=L.length:=Q0 _ _;refine(MM cF Ω).mono ?_;rintro _ cG _ ⟨cH,M,a2,dM,cI⟩;have dN:Ext J cG:=dK.then cH λr A he=>by have:=P r (dJ r he);omega
  have cJ:Sem cG f.k f.sizes M:=λz s=>(dL.row cF cH) z (a2.mem_iff.1 s);have eS:M.length<=256:=by rw[a2.length_eq];omega
  have dP:∀x∈M,∀r,leads x.sv r->J.heap.size<=r:=λx E=>aA x (S7.1 (a2.mem_iff.1 E)).1;have cK:M.map dY=fI f:=by
   refine LN G ?_ ?_
   .refine (a2.map dY).trans ?_;rw[<-H,List.filter_map];exact .refl _
   .rw[List.pairwise_map];refine V9.2 λp q dQ cL dR=>?_;exact dM p q _ _ (X8 _) dR cL (x7 dQ) (x7 cL)
  intro eU a6 _ _;have ao:=dN.trans a6;have eW:=bW.ext ao;have bB:=bX.ext ao;rw[aP cD.p 0 bB rfl,aP cD.p 1 bB rfl,aP cD.p 2 bB rfl];refine(k6 (c2.ls.ext ao) (by have:=G.sizes.2.1;omega)).mono ?_;rintro aG cM _ ⟨V,dS,eX,bC⟩;refine⟨.inl V,?_⟩;rw[dq (cs:=#[bT f.name,Δ f.k,aG,.slice ν 0 0]) (by obtain⟨_,_,_,rfl⟩:=c8 bC.ls;kernel_rfl)];refine bk λW dT eY a7 bD=>?_;have bD:ac dT W cD [bT f.name,Δ f.k,aG,.slice ν 0 0]:=bD;have eZ:=(ao.trans V).trans a7;have dU:=((cI.ext a6).ext V).ext a7;have e0:=((cJ.ext a6).ext V).ext a7;rw[e4 gm.u dU.1];refine bU.range M.length (λi ap=>∃aK gr O,Ext cM ap/\ac ap W cD [bT f.name,Δ f.k,aG,aK]/\qP ap gr aK f.k f.sizes O/\O.map dY=(M.take i).map dY/\O.length=i/\(∀r,leadsTo aK r->cM.heap.size<=r)/\∀x∈O,∀r,leads x.sv r->J.heap.size<=r) Ω
   ⟨_,0,[],a7,bD,⟨bg.nil _ _ _ _ _,λx E=>(by cases E)⟩,rfl,rfl,λr A=>(fu A).elim,λx E=>(by cases E)⟩ ?_ ?_
  rotate_left
  .rintro ap dV ⟨aI,gr,O,aq,av,bF,a8,_,_,bG⟩;rw[o8,cK]at a8;refine b2 Ω ?_;have e1:=aJ.size;have e2:=ao.size;have e3:=V.size;exact⟨(aJ.trans (ao.trans V)).trans aq,.inr ⟨W,rfl,aG,aI,dS,gr,O,av,bC.ext aq,bF,a8,Ω,λr A=>by have:=(bR bC A).1;omega,λx E r A=>by have:=bG x E r A;omega⟩⟩
  rintro i ap dV hi ⟨aI,gr,O,aq,av,bF,a8,dW,cN,bG⟩ dX;obtain⟨y,B⟩:=aF (l:=M) hi;have cO:=(a6.trans V).trans aq;have cP:=cI.ext cO;have cQ:=cP.at B;obtain⟨dy,dz,aZ⟩:=(cJ.ext cO) y (x6 B);have am:fw f.sizes f.k (dY y):=sX G _ (wu cK B);refine bA Ω ?_;rw[tb rfl cP B];refine bw cY.i λgy e5 e6 dZ ea=>?_;refine b1 (vs:=eF y) cY.i rfl rfl cQ.one ea λeb ec e7 ed=>?_;have ef:Ext ap eb:=dZ.put ec Ω;intro e9 cR _ _;have bH:=ef.trans cR;have cS:=ed.ext cR;have eg:=av.ext bH;rw[aP cD.p 3 eg rfl,aH cY.p 0 cS rfl,aH cY.p 1 cS rfl];refine(Nd (aZ.ext bH) λc I=>⟨hk,(am.h7 c I).1,(am.h7 c I).2⟩).mono ?_;rintro _ fa _ ⟨bJ,ad,m,o,D,rfl,eh,ei,ej,_⟩;refine⟨.inl bJ,?_⟩;have cT:=bH.trans bJ;obtain⟨⟨bu,cU⟩,_,fb⟩:=cQ;have cV:=cU.ext cT;rw[dq (cs:=#[y.sv,Γ ad]) (by obtain⟨_,_,_,e⟩:=c8 cU.ls;rw[e];kernel_rfl)];let a:cq:=⟨y.sv,ad,y.sc,y.cs⟩;have bj:∀u∈eF a,u.oneCell'=true:=th cV;refine iy (f:=eF) (a:=a) dO.u cE.i Ω rfl rfl λv25 fc bK fe K ek=>?_;refine⟨.inl (bJ.trans K),?_⟩;have aw:=cT.trans K;have ba:=bF.ext aw;refine iV (f:=eF) (a:=a) dO.u cE.i rfl ba.1 (by simpa using ek.sl) bj Ω Ω λaB Q em aC bl cW=>?_;have ff:=aq.size;have fg:=aw.size;have bL:ac em W cD [bT f.name,Δ f.k,aG,aI]:=(av.ext aw).aa cW λhe=>by
   obtain⟨rfl,c,C⟩:=en ba.1 he;have h1:=av.ext aw;unfold ac at C h1;rw[h1]at C;exact absurd (Obj.cells.inj (Z0 C)).2.1 Φ
  rw[bY,aS cD.p rfl];have cX:aB.cells= #[aB]/\aB.oneCell'=true:=by
   obtain⟨_,_,_,_,_,rfl,_⟩:=aC.sl;exact⟨rfl,rfl⟩
  refine bp dO.i cX.1 cX.2 bL Ξ λeo cZ fh ep=>?_;rw[aL];have bM:ae (λr=>r=W\/leadsTo aI r) bK eo:=(cW.mono λr _ h=>.inr h).trans (cZ.mono λr _ h=>.inl h);have c0:∀r,(r=W\/leadsTo aI r)->∃e c,ac bK r e c/\e≠fF/\e≠ah:=λr A=>by
   rcases A with rfl|A
   .exact⟨_,_,av.ext aw,Φ,Φ⟩
   .obtain⟨rfl,c,C⟩:=en ba.1 A;exact⟨_,c,C,Φ,Φ⟩
  refine dX _ ⟨aB,Q,O++[a],?_,ep,⟨aC.aa cZ λr A he=>?_,λz s=>?_⟩,?_,by rw[o4,dW];rfl,λr A=>?_,λz s=>?_⟩
  .exact (aq.trans aw).then bM λr A he=>by
    rcases he with rfl|he
    .omega
    .have:=cN r he;omega
  .have he:r=W:=he;subst he;obtain⟨rfl,c,C⟩:=en aC A;unfold ac at C bL;rw[bL]at C;exact absurd (Obj.cells.inj (Z0 C)).2.1 Φ
  .rcases j0.1 s with s|s
   .exact (ba.2 z s).aa bM c0
   .rw[j6.1 s];refine mR.aa (w:=bK) ⟨⟨bu,cV.ext K⟩,m,o,D,eh.ext K,?_,ej⟩ bM c0;have:=am.small;exact Y7 ei (by show(aN (bI f.sizes (dY y).1)).toNat<=4096;omega)
  .rw[Z4,a8,u9,B,Z4];rfl
  .rcases bl r A with h|h
   .exact cN r h
   .omega
  .rcases j0.1 s with s|s
   .exact bG z s
   .rw[j6.1 s];exact dP y (x6 B)
def ez{a:r9}{c f:List x3}(h:ac w r e c)(h':ac w r a f):e=a:=by
 unfold ac at h h';rw[h]at h';exact(Obj.cells.inj (Z0 h')).2.1
def cQ{α:Type}{f:α->List x3}{k:Nat}{a:r9}{g:Nat}{L:List α}{cs:List x3}(h:bg f k e w g v L)(p:ac w j a cs)(q:e≠a):¬leadsTo v j:=λr=>by
 obtain⟨rfl,c,s⟩:=en h r;exact q (ez s p)
structure ln where
 v:x3
 l:Λ
def n2(h:ln):List x3:=[h.v]
def hK(w:x4)(g:Nat)(v:x3)(aT:List ln):Prop:=bg n2 1 aq w g v aT/\∀h∈aT,∃a,au .i64 am w a h.v h.l
def hK.ext{g:Nat}{aT:List ln}(h:hK w g v aT)(a:Ext w w'):hK w' g v aT:=⟨h.1.ext a,λx e=>by
 obtain⟨f,hm⟩:=h.2 x e;exact⟨f,hm.ext a⟩⟩
def hK.qQ{g:Nat}{aT:List ln}(h:hK w g v aT)(f:ae S w w')(j:∀r,S r->∃e c,ac w r e c/\e≠am):∀h∈aT,∃a,au .i64 am w' a h.v h.l:=λx p=>by
 obtain⟨a,hm⟩:=h.2 x p;exact⟨a,br hm f λr q I=>by
  obtain⟨e,c,s,y⟩:=j r I;exact ch hm s (λhe=>y he.symm) q rfl⟩
def hK.aa{g:Nat}{aT:List ln}(h:hK w g v aT)(p:ae S w w')(q:∀r,S r->∃e c,ac w r e c/\e≠am/\e≠aq):hK w' g v aT:=
 ⟨h.1.aa p λr a I=>by
  obtain⟨e,c,f,_,j⟩:=q r I;exact cQ h.1 f (λhe=>j he.symm) a,h.qQ p λr a=>by
  obtain⟨e,c,f,j,_⟩:=q r a;exact⟨e,c,f,j⟩⟩
def n3(w:x4)(k:Int)(sizes:Λ)(x:cq):Prop:=(∃a,au .i64 ah w a x.sv x.sc)/\∃e f,dd w x.g e f (bI sizes x.sc) k x.cs
def n3.ext{x:cq}(h:n3 w k sizes x)(a:Ext w w'):n3 w' k sizes x:=by
 obtain⟨⟨e,h1⟩,f,j,p⟩:=h;exact⟨⟨e,h1.ext a⟩,f,j,p.ext a⟩
def CK{g s:Nat}{x:x3}(h:dd w g s x ag k cs)(j:ae S w w')(p:∀r,S r->∃e c,ac w r e c/\e≠cZ/\e≠ah/\e≠am):dd w' g s x ag k cs:=by
 obtain⟨⟨aZ,gs,h1,y,z⟩,A⟩:=h;refine⟨⟨aZ,gs,h1.aa j λI=>?_,br y j λr q I=>?_,br z j λr q I=>?_⟩,A⟩
 .obtain⟨e,c,a,f,_⟩:=p g I;exact f (ez a h1)
 .obtain⟨e,c,a,_,f,_⟩:=p r I;exact ch y a (λhe=>f he.symm) q rfl
 .obtain⟨e,c,a,_,_,f⟩:=p r I;exact ch z a (λhe=>f he.symm) q rfl
def n3.aa{x:cq}(h:n3 w k sizes x)(a:ae S w w')(f:∀r,S r->∃e c,ac w r e c/\e≠cZ/\e≠ah/\e≠am):n3 w' k sizes x:=by
 obtain⟨⟨j,h1⟩,p,q,s⟩:=h;refine⟨⟨j,br h1 a λr y I=>?_⟩,p,q,CK s a f⟩;obtain⟨e,c,z,_,A,_⟩:=f r I;exact ch h1 z (λhe=>A he.symm) y rfl
def n4(w:x4)(g:Nat)(v:x3)(k:Int)(sizes:Λ)(L:List cq):Prop:=bg eF 2 hz w g v L/\∀x∈L,n3 w k sizes x
def n4.ext{g:Nat}{L:List cq}(h:n4 w g v k sizes L)(a:Ext w w'):n4 w' g v k sizes L:=⟨h.1.ext a,λx e=>(h.2 x e).ext a⟩
def n4.aa{g:Nat}{L:List cq}(h:n4 w g v k sizes L)(p:ae S w w')(q:∀r,S r->∃e c,ac w r e c/\e≠hz/\e≠cZ/\e≠ah/\e≠am):n4 w' g v k sizes L:=
 ⟨h.1.aa p λr a I=>by
  obtain⟨e,c,f,j,_⟩:=q r I;exact cQ h.1 f (λhe=>j he.symm) a,λx s=>(h.2 x s).aa p λr a=>by
  obtain⟨e,c,f,_,j⟩:=q r a;exact⟨e,c,f,j⟩⟩
def gd(w:x4)(h:Nat)(n:aK):Prop:=∃a e f j gr aT L nm szv gz fv2,ac w h fE [Γ a,Δ n.zero,e,f]/\ac w a cD [nm,Δ n.k,szv,fv2]/\au .i64 ah w gz szv n.sizes/\
 hK w j e aT/\aT.map (·.l)=n.unary/\n4 w gr f n.k n.sizes L/\L.map dY=n.funs
def gd.ext{e:Nat}{n:aK}(h:gd w e n)(a:Ext w w'):gd w' e n:=by
 obtain⟨f,j,p,q,gr,aT,L,nm,szv,gz,fv2,h1,r,s,x,y,z,A⟩:=h;exact⟨f,j,p,q,gr,aT,L,nm,szv,gz,fv2,h1.ext a,r.ext a,s.ext a,x.ext a,y,z.ext a,A⟩
def qR(w:x4)(B:Nat)(k:Int)(sizes:Λ)(x:cq):Prop:=(∃f,au .i64 ah w f x.sv x.sc)/\(∃a e,dd w x.g a e (bI sizes x.sc) k x.cs/\B<=a/\∀r,leads e r->B<=r)/\B<=x.g/\∀r,leads x.sv r->B<=r
def qR.aa{x:cq}(h:qR w B k sizes x)(a:ae S w w')(f:∀r,S r->∃e c,ac w r e c/\e≠cZ/\e≠ah/\e≠am):qR w' B k sizes x:=by
 obtain⟨⟨j,h1⟩,⟨p,q,s,y⟩,z⟩:=h;refine⟨⟨j,br h1 a λr A I=>?_⟩,⟨p,q,CK s a f,y⟩,z⟩;obtain⟨e,c,C,_,E,_⟩:=f r I;exact ch h1 C (λhe=>E he.symm) A rfl
def mg(w:x4)(B g:Nat)(v:x3)(k:Int)(sizes:Λ)(L:List cq):Prop:=bg eF 2 hz w g v L/\∀x∈L,qR w B k sizes x
def mg.ext{g:Nat}{L:List cq}(h:mg w B g v k sizes L)(a:Ext w w'):mg w' B g v k sizes L:=⟨h.1.ext a,λx e=>(h.2 x e).aa (a.aa λ_=>False) λ_ h=>h.elim⟩
def mg.aa{g:Nat}{L:List cq}(h:mg w B g v k sizes L)(p:ae S w w')(q:∀r,S r->∃e c,ac w r e c/\e≠hz/\e≠cZ/\e≠ah/\e≠am):mg w' B g v k sizes L:=
 ⟨h.1.aa p λr a I=>by
  obtain⟨e,c,f,j,_⟩:=q r I;exact cQ h.1 f (λhe=>j he.symm) a,λx s=>(h.2 x s).aa p λr a=>by
  obtain⟨e,c,f,_,j⟩:=q r a;exact⟨e,c,f,j⟩⟩
def CL:∃o:Obj,fz o=false:=⟨.deferred ν,rfl⟩
def ghost(w:x4)(B:Nat):∃w0,Ext w0 w/\ae (λr=>r<B) w w0/\∀r o,w0.heap[r]?=σ o->fz o=true->B<=r:=by
 obtain⟨cr,f⟩:=CL;have e:∀r,(w.heap.mapIdx λr o=>if r<B then cr else o)[r]?=(w.heap[r]?).map λo=>if r<B then cr else o:=λr=>Ξ
 refine⟨{w with heap:=w.heap.mapIdx λr o=>if r<B then cr else o},⟨Ξ,λr o a I=>?_⟩,⟨Ξ,λr o a I j=>?_⟩,λr o a I=>?_⟩
 .have a:(w.heap.mapIdx λr o=>if r<B then cr else o)[r]?=σ o:=a;rw[e]at a;cases h:w.heap[r]? with
  |none=>rw[h]at a;cases a
  |some o'=>
   rw[h]at a;simp only[Z7,X7]at a;split at a
   .subst a;rw[f]at I;cases I
   .rw[a]
 .show (w.heap.mapIdx λr o=>if r<B then cr else o)[r]?=σ o;rw[e,a,Z7,if_neg j]
 .have a:(w.heap.mapIdx λr o=>if r<B then cr else o)[r]?=σ o:=a;rw[e]at a;cases h:w.heap[r]? with
  |none=>rw[h]at a;cases a
  |some o'=>
   rw[h]at a;simp only[Z7,X7]at a;split at a
   .subst a;rw[f]at I;cases I
   .omega
def CM(B:Nat)(w:x4)(a:Nat)(n:aK):Prop:=∃w0,gd w0 a n/\Ext w0 w/\∀r o,w0.heap[r]?=σ o->fz o=true->B<=r
def Nl{y C gr gz:Nat}{n:aK}{p q nm szv fv2:x3}{aT:List ln}{L:List cq}(h1:ac w y fE [Γ j,Δ n.zero,p,q])(E:ac w j cD [nm,Δ n.k,szv,fv2])(I:au .i64 ah w gz szv n.sizes)(F:hK w C p aT)(J:aT.map (·.l)=n.unary)(G:mg w B gr q n.k n.sizes L)(K:L.map dY=n.funs)(M:B<=y)(N:B<=j)(O:∀r,leads szv r->B<=r)(H:∀r,leadsTo p r\/leadsTo q r->B<=r)(P:∀h∈aT,∀r,leads h.v r->B<=r):CM B w y n:=by
 obtain⟨w0,z,a,Q⟩:=ghost w B;have no:∀{r:Nat},B<=r->¬r<B:=λh E=>Ω
 have s:∀{e:r9}{g:Nat}{v:x3}{l:Λ},au .i64 e w g v l->(∀r,leads v r->B<=r)->au .i64 e w0 g v l:=λh R=>br h a λr f=>no (R r f);refine⟨w0,⟨j,p,q,C,gr,aT,L,nm,szv,gz,fv2,h1.aa a (no M),E.aa a (no N),s I O,⟨F.1.aa a λr f=>no (H r (.inl f)),λh ap=>?_⟩,J,⟨G.1.aa a λr f=>no (H r (.inr f)),λx z=>?_⟩,K⟩,z,Q⟩
 .obtain⟨A,hm⟩:=F.2 h ap;exact⟨A,s hm (P h ap)⟩
 .obtain⟨⟨A,S⟩,⟨U,V,⟨⟨aZ,gs,W,X,t3⟩,t4⟩,ad,Y⟩,Z,ab⟩:=G.2 x z;exact⟨⟨A,s S ab⟩,U,V,⟨aZ,gs,W.aa a (no Z),s X Y,br t3 a λr f=>no (by have:=(bR t3 f).1;omega)⟩,t4⟩
def iZ(n:aK)(g:cJ):aK:=match g.1 with
 |[]=>{n with zero:=g.2.getD 0 0}
 |[v]=>{n with unary:=n.unary.set v.toNat g.2}
 |_=>{n with funs:=n.funs++[g]}
def CN(f:cb):aK:=⟨f.k,f.sizes,0,f.sizes.map λz=>o5 z.toNat 0,[]⟩
def Nn(f:cb):cH f=(fI f).foldl iZ (CN f):=rfl
def dL(f:cb)(i:Nat):aK:=((fI f).take i).foldl iZ (CN f)
def wv{f:cb}{i:Nat}{g:cJ}(h:(fI f)[i]?=σ g):dL f (i+1)=iZ (dL f i) g:=Ng h
def ti(f:cb):dL f (fI f).length=cH f:=by unfold dL;rw[o8,Nn]
def No(n:aK)(g:cJ):(iZ n g).k=n.k/\(iZ n g).sizes=n.sizes/\(iZ n g).unary.length=n.unary.length/\(iZ n g).funs.length<=n.funs.length+1:=by
 unfold iZ;split
 .exact⟨rfl,rfl,rfl,Nat.le_succ _⟩
 .exact⟨rfl,rfl,Ξ,Nat.le_succ _⟩
 .exact⟨rfl,rfl,rfl,Ξ⟩
theorem pu(f:cb):∀i,(dL f i).k=f.k/\(dL f i).sizes=f.sizes/\(dL f i).unary.length=f.sizes.length/\(dL f i).funs.length<=i
 |0=>⟨rfl,rfl,by show(f.sizes.map _).length=_;simp,X8 _⟩
 |i+1=>by
  have a:=pu f i;cases h:(fI f)[i]? with
  |none=>
   have j:=List.getElem?_eq_none_iff.1 h;have e:dL f (i+1)=dL f i:=by unfold dL;rw[j4 Ω,j4 j]
   rw[e];exact⟨a.1,a.2.1,a.2.2.1,Ω⟩
  |some g=>
   rw[wv h];obtain⟨h1,p,q,r⟩:=No (dL f i) g;exact⟨h1.trans a.1,p.trans a.2.1,q.trans a.2.2.1,Ω⟩
def Np(w:x4)(f:cb)(v:x3)(w':x4):Prop:=Ext w w'/\((¬mf f.funs<=16384/\∃e:Int,e≠0/\v= .tuple #[.pointer ν,Δ e])\/∃a,v= .tuple #[Γ a,Δ 0]/\CM w.heap.size w' a (cH f))
def eP{k:Nat}{cs:List x3}(h:cd w k v n cs):v.cells= #[v]/\v.oneCell'=true:=by
 obtain⟨_,_,_,_,_,rfl,_⟩:=h;exact⟨rfl,rfl⟩
def Nq{b3:Nat}{f:cb}(cu:ll w b3 f)(S:fd N f)(cw:N<=60000)(cz:f.name≠[]/\∀b∈f.name,bO b=true):
  ai x8 Gt [Γ b3] w (Np w f):=by
 have hk:=S.k;refine az func61 ?_;refine(Nk cu S cw cz).mono ?_;rintro _ J _ ⟨aA,⟨cA,e,he,rfl⟩|⟨aB,rfl,cB⟩⟩
 .rw[bx,bz,bN,aj];exact⟨λ_=>⟨aA,.inl ⟨cA,e,he,rfl⟩⟩,λh=>absurd he h⟩
 rw[bx,bz,bN,aj];refine⟨λh=>absurd rfl h,λ_=>?_⟩;obtain⟨szv,cC,gz,dA,M,be,bh,b4,aV,cF,cG,cH⟩:=id cB;have dC:M.length<=256:=by
  have h1:=(qG S).2.length_eq;have av:=(lj S).2.2;have aw:=Q0 fH (ft f);have aW:=S.la;have dD:M.length=(fI f).length:=by rw[<-aV,u7]
  omega
 have dF:=S.sizes.2.1;rw[dq (cs:=#[Γ aB,Δ 0,.slice ν 0 0,.slice ν 0 0]) Ψ];refine bk λG U dG bi bj=>?_;have bj:ac U G fE [Γ aB,Δ 0,.slice ν 0 0,.slice ν 0 0]:=bj;rw[aP cD.p 2 (be.ext bi) rfl,aU an.u (bh.ls.ext bi)];refine bU.range f.sizes.length (λi aC=>∃s H aT,Ext J aC/\ac aC G fE [Γ aB,Δ 0,s,.slice ν 0 0]/\hK aC H s aT/\aT.map (·.l)=(f.sizes.take i).map (λz=>o5 z.toNat 0)/\(∀r,leadsTo s r->J.heap.size<=r)/\∀h∈aT,∀r,leads h.v r->J.heap.size<=r) Ω
  ⟨_,0,[],bi,bj,⟨bg.nil _ _ _ _ _,λx aE=>(by cases aE)⟩,rfl,λr q=>(fu q).elim,λx aE=>(by cases aE)⟩ ?_ ?_
 .rintro i aC cI hi ⟨s,H,aT,ab,aX,bl,aG,aY,O⟩ cJ;obtain⟨z,B⟩:=aF (l:=f.sizes) hi;have dH:=S.sizes.2.2 z (x6 B);have dI:aT.length=i:=by have:=congrArg Q4 aG;simp only[u7,o7]at this;omega
  refine bA Ω ?_;rw[bb an.u ah.i Ψ (bh.ls.ext ab) B];intro dJ bm _ _;have cK:=aX.ext bm;rw[aP fE.p 2 cK rfl];obtain⟨ad,rfl⟩:∃n:Nat,z=n:=⟨z.toNat,Ω⟩;refine jL (k:=.i64) aq.u am.i Ω Ω λaZ cL dK bn cM=>?_;refine⟨.inl bn,?_⟩;have b5:au .i64 am cL aZ (.slice (σ ⟨aZ,0,ν⟩) ad ad) (o5 ad 0):=au.of (bX.full (k:=1) (n:=ad) cM Ξ (by simp[maxLen];omega));let a:ln:=⟨.slice (σ ⟨aZ,0,ν⟩) ad ad,o5 ad 0⟩;refine iy (f:=n2) (a:=a) cR.u aq.i Ω rfl rfl λdM dN bo dP bq cN=>?_;refine⟨.inl (bn.trans bq),?_⟩;have a1:=(bm.trans bn).trans bq;have a2:=bl.ext a1;refine iV (f:=n2) (a:=a) cR.u aq.i rfl a2.1 (by simpa using cN.sl) (λu hu=>by rw[j6.1 (show u∈[a.v]from hu)];rfl) Ω Ω λbt bu dQ P bB b6=>?_;have aI:∀{r:Nat},leadsTo s r->∃c,ac bo r aq c:=λq=>by
   obtain⟨rfl,c,A⟩:=en a2.1 q;exact⟨c,A⟩
  have bC:=aX.ext a1;have b7:=bC.aa b6 λhe=>cQ a2.1 bC Φ he;rw[bY,aS fE.p rfl];refine bp cR.i (eP P.sl).1 (eP P.sl).2 b7 Ξ λcO b8 dR cP=>?_;rw[aL];have bD:ae (λr=>leadsTo s r\/r=G) bo cO:=(b6.mono λr _ h=>.inl h).trans (b8.mono λr _ h=>.inr h);have V:∀r,(leadsTo s r\/r=G)->∃e c,ac bo r e c/\e≠am:=λr q=>by
   rcases q with q|rfl
   .obtain⟨c,A⟩:=aI q;exact⟨_,c,A,Φ⟩
   .exact⟨_,_,bC,Φ⟩
  have b9:=aA.size;have z3:=ab.size;have dS:=a1.size;refine cJ _ ⟨bt,bu,aT++[a],(ab.trans a1).then bD (λr q he=>?_),cP,⟨P.aa b8 λr q he=>?_,λy C=>?_⟩,?_,λr q=>?_,λy C r q=>?_⟩
  .rcases he with he|rfl
   .have:=aY r he;omega
   .omega
  .have he:r=G:=he;subst he;exact cQ P b7 Φ q
  .rcases j0.1 C with C|C
   .exact a2.qQ bD V y C
   .rw[j6.1 C];have ca:=b5.ext bq;exact⟨aZ,br ca bD λr q I=>by
     obtain⟨e,c,A,cS⟩:=V r I;exact ch ca A (λhe=>cS he.symm) q rfl⟩
  .rw[Z4,aG,u9,B,l7,Z4];rfl
  .rcases bB r q with h|h
   .exact aY r h
   .omega
  .rcases j0.1 C with C|C
   .exact O y C r q
   .rw[j6.1 C]at q;have cT:=(bR b5 q).1;have:=bm.size;omega
 .rintro aC cI ⟨s,H,aT,ab,aX,bl,aG,aY,O⟩;refine b2 Ω ?_;rw[o8]at aG;have cU:=be.ext ab;have cV:=b4.ext ab;rw[aP cD.p 3 cU rfl,e4 dO.u cV.1];refine bU.range M.length (λi af=>∃s E H gr aT L,Ext J af/\ac af G fE [Γ aB,Δ (dL f i).zero,s,E]/\hK af H s aT/\aT.map (·.l)=(dL f i).unary/\mg af w.heap.size gr E f.k f.sizes L/\L.map dY=(dL f i).funs/\(∀r,leadsTo s r\/leadsTo E r->J.heap.size<=r)/\∀h∈aT,∀r,leads h.v r->J.heap.size<=r) Ω
   ⟨s,_,H,0,aT,[],ab,aX,bl,aG,⟨bg.nil _ _ _ _ _,λx aE=>(by cases aE)⟩,rfl,λr q=>q.elim (aY r) λh=>(fu h).elim,O⟩ ?_ ?_
  rotate_left
  .rintro af cW ⟨s,E,H,gr,aT,L,Q,a6,bF,ag,bG,al,W,O⟩;refine b2 Ω ?_;have cX:M.length=(fI f).length:=by rw[<-aV,u7]
   have aJ:=pu f M.length;rw[cX,ti]at a6 ag al aJ;have b9:=aA.size;refine⟨aA.trans Q,.inr ⟨G,rfl,Nl (gr:=gr) (nm:=bT f.name) (szv:=szv) (gz:=gz) (fv2:=cC) a6 ?_ ?_ bF ag ?_ al Ω cF cG (λr q=>by have:=W r q;omega) λh ap r q=>by have:=O h ap r q;omega⟩⟩
   .rw[aJ.1];exact be.ext Q
   .rw[aJ.2.1];exact bh.ext Q
   .rw[aJ.1,aJ.2.1];exact bG
  rintro i af cW hi ⟨s,E,H,gr,aT,L,Q,a6,bF,ag,bG,al,W,O⟩ cY;obtain⟨y,C⟩:=aF (l:=M) hi;have c0:(fI f)[i]?=σ (dY y):=by rw[<-aV,v8,C];rfl
  have a7:fw f.sizes f.k (dY y):=sX S _ (wu aV C);have bH:=b4.ext Q;obtain⟨dT,dU,dV,dW⟩:=pu f i;refine bA Ω ?_;refine dh (λaK=>∃s E H gr aT L,Ext J aK/\ac aK G fE [Γ aB,Δ (dL f (i+1)).zero,s,E]/\hK aK H s aT/\aT.map (·.l)=(dL f (i+1)).unary/\mg aK w.heap.size gr E f.k f.sizes L/\L.map dY=(dL f (i+1)).funs/\(∀r,leadsTo s r\/leadsTo E r->J.heap.size<=r)/\∀h∈aT,∀r,leads h.v r->J.heap.size<=r) ?_ ?_
  .rintro aK h;rw[aL];exact cY _ h
  intro ax bJ;have c1:=bH.2 y (x6 C);obtain⟨⟨c2,bK⟩,m,o,D,c3,dX,c4⟩:=c1;rw[du rfl dO.u cE.i bH.1 hi,bE cE.p cE.i rfl (bH.1.range C)];refine bw cE.i λak dZ ea c5 c6=>?_;refine b1 (vs:=eF y) cE.i rfl rfl (th bK) c6 λc7 da eb cc=>?_;have bL:Ext af c7:=c5.put da Ω;rw[aH cE.p 1 cc rfl];refine(Ci (c3.ext bL) Ω).mono ?_;rintro _ ec _ ⟨cd,_,ay⟩;obtain⟨g,db,dc,dd,rfl,ed,de,ay,df⟩:=ay a7.small;have dg:dE (bI f.sizes y.sc):=ay.2.2.1.2;have di:dd=y.cs:=iA.eq dg df c4;subst di;have X:=bL.trans cd;have bM:=cc.ext cd;have bP:=bK.ext X;rw[bx,bz,aH cE.p 0 bM rfl,aU an.u bP.ls];have b9:=aA.size;have z9:=Q.size;have ee:=X.size;have bQ:=a6.ext X;have bS:=bF.ext X;have bV:=bG.ext X;have bW:=wv c0;rw[bf,aj];refine⟨λef=>?_,λeg=>?_⟩
  .
   have ao:y.sc=[]:=c9 Ω;have K:dL f (i+1)={dL f i with zero:=y.cs.getD 0 0}:=by rw[bW];unfold iZ;simp only[dY,ao]
   refine(mO ay).mono ?_;rintro ce dj _ ⟨a8,eh,ei,dk⟩;have ej:y.cs.length=1:=by have:=a7.len;simpa[dY,ao,bI,aN]using this
   have dl:y.cs[0]?=σ (y.cs.getD 0 0):=by rw[u4,x7 Ω];rfl
   rw[fq (y:=0) (i:=0) rfl aq.u am.i Ψ dk.ls dl,bY,aS fE.p rfl];have cg:=bQ.ext a8;refine bp am.i rfl rfl cg Ξ λek bZ em dm=>?_;have V:∀r,r=G->∃e c,ac dj r e c/\e≠hz/\e≠cZ/\e≠ah/\e≠am/\e≠aq:=λr q=>by
    subst q;exact⟨_,_,cg,Φ,Φ,Φ,Φ,Φ⟩
   refine bJ _ ⟨s,E,H,gr,aT,L,((Q.trans X).trans a8).put bZ Ω,?_,(bS.ext a8).aa bZ (λr q=>?_),by rw[K];exact ag,(bV.ext a8).aa bZ (λr q=>?_),by rw[K];exact al,W,O⟩
   .rw[K];exact dm
   .obtain⟨e,c,A,_,_,_,h1,av⟩:=V r q;exact⟨e,c,A,h1,av⟩
   .obtain⟨e,c,A,h1,av,aw,aW,_⟩:=V r q;exact⟨e,c,A,h1,av,aw,aW⟩
  rw[bf,aj];refine⟨λh1=>?_,λeo=>?_⟩
  .
   obtain⟨v,ao⟩:∃v,y.sc=[v]:=V2.1 Ω;have ep:=a7.scope.1 v (by show v∈y.sc;rw[ao];exact .head _);have er:=a7.vars v (by show v∈y.sc;rw[ao];exact .head _);have K:dL f (i+1)={dL f i with unary:=(dL f i).unary.set v.toNat y.cs}:=by rw[bW];unfold iZ;simp only[dY,ao]
   intro es Y _ _;have ci:=bQ.ext Y;have dn:=bM.ext Y;rw[aP fE.p 2 ci rfl,aH cE.p 0 dn rfl];refine qf (y:=0) (i:=0) rfl an.u ah.i (bP.ls.ext Y) (show y.sc[0]?=σ v by rw[ao];rfl) λb o dp=>?_;rw[aD Ψ dp];refine(mO (ay.ext Y)).mono ?_;rintro ce dr _ ⟨aM,ds,et,aO⟩;refine⟨.inl aM,?_⟩;have aQ:=(bS.ext Y).ext aM;have eu:aT.length=f.sizes.length:=by have:=congrArg Q4 ag;rw[u7]at this;omega
   obtain⟨u,hu⟩:=aF (l:=aT) (i:=v.toNat) Ω;rw[du (i:=v.toNat) Ω cR.u aq.i aQ.1 Ω];let a:ln:=⟨ce,y.cs⟩;refine pk (f:=n2) (j:=0) (a:=u) (a':=a) aq.i aO.ls.cells.1 aO.ls.cells.2 aQ.1 hu rfl Ω λev aR ew dt=>?_;have cj:=ci.ext aM;have aI:∀{r:Nat},leadsTo s r->∃c,ac dr r aq c:=λq=>by
    obtain⟨rfl,c,A⟩:=en aQ.1 q;exact⟨c,A⟩
   refine bJ _ ⟨s,E,H,gr,aT.set v.toNat a,L,(((Q.trans X).trans Y).trans aM).then aR (λr q he=>by have:=W r (.inl he);omega),?_,⟨dt,λz B=>?_⟩,?_,((bV.ext Y).ext aM).aa aR (λr q=>?_),by rw[K];exact al,W,λz B r q=>?_⟩
   .rw[K];exact cj.aa aR λhe=>cQ aQ.1 cj Φ he
   .rcases W7 B with B|rfl
    .exact aQ.qQ aR (λr q=>by obtain⟨c,A⟩:=aI q;exact⟨_,c,A,Φ⟩) z B
    .exact⟨ds,br aO aR λr q I=>by
      obtain⟨c,A⟩:=aI I;exact ch aO A Φ q rfl⟩
   .rw[K,U8,ag]
   .obtain⟨c,A⟩:=aI q;exact⟨_,c,A,Φ,Φ,Φ,Φ⟩
   .rcases W7 B with B|rfl
    .exact O z B r q
    .have cT:=(bR aO q).1;have:=Y.size;omega
  .
   have K:dL f (i+1)={dL f i with funs:=(dL f i).funs++[dY y]}:=by
    rw[bW];unfold iZ;have ck:2<=(dY y).1.length:=by show 2<=y.sc.length;omega
    generalize dY y=g at ck ⊢;obtain⟨sc,cs⟩:=g
    match sc,ck with
    |_::_::_,_=>rfl
   intro ey Z _ _;have cl:=bQ.ext Z;have dv:=bM.ext Z;have cm:=bP.ext Z;rw[aP fE.p 3 cl rfl,aH cE.p 0 dv rfl,dq (cs:=#[y.sv,Γ g]) (by obtain⟨_,_,_,e⟩:=c8 bK.ls;rw[e];kernel_rfl)];let a:cq:=⟨y.sv,g,y.sc,y.cs⟩;refine iy (f:=eF) (a:=a) kY.u hz.i Ω rfl rfl λez eA ba eB R dw=>?_;refine⟨.inl R,?_⟩;have bc:=(bV.ext Z).ext R;have dx:=(bS.ext Z).ext R;have b0:=cl.ext R;have eC:L.length<=256:=by have:=congrArg Q4 al;rw[u7]at this;omega
   refine iV (f:=eF) (a:=a) kY.u hz.i rfl bc.1 (by simpa using dw.sl) (th (cm.ext R)) Ω Ω λbt bu eD P bB cn=>?_;have cp:=b0.aa cn λhe=>cQ bc.1 b0 Φ he;rw[bY,aS fE.p rfl];refine bp kY.i (eP P.sl).1 (eP P.sl).2 cp Ξ λdy cr eE dz=>?_;have bd:ae (λr=>leadsTo E r\/r=G) ba dy:=(cn.mono λr _ h=>.inl h).trans (cr.mono λr _ h=>.inr h);have V:∀r,(leadsTo E r\/r=G)->∃e c,ac ba r e c/\e≠cZ/\e≠ah/\e≠am/\e≠aq:=λr q=>by
    rcases q with q|rfl
    .obtain⟨rfl,c,A⟩:=en bc.1 q;exact⟨_,c,A,Φ,Φ,Φ,Φ⟩
    .exact⟨_,_,b0,Φ,Φ,Φ,Φ⟩
   have eH:=(Z.trans R).size;refine bJ _ ⟨s,bt,H,bu,aT,L++[a],(((Q.trans X).trans Z).trans R).then bd (λr q he=>?_),?_,dx.aa bd (λr q=>?_),by rw[K];exact ag,⟨P.aa cr λr q he=>?_,λz B=>?_⟩,?_,λr q=>?_,O⟩
   .rcases he with he|rfl
    .have:=W r (.inr he);omega
    .omega
   .rw[K];exact dz
   .obtain⟨e,c,A,_,_,aw,aW⟩:=V r q;exact⟨e,c,A,aw,aW⟩
   .have he:r=G:=he;subst he;exact cQ P cp Φ q
   .have ct:∀r,(leadsTo E r\/r=G)->∃e c,ac ba r e c/\e≠cZ/\e≠ah/\e≠am:=λr q=>by
     obtain⟨e,c,A,h1,av,aw,_⟩:=V r q;exact⟨e,c,A,h1,av,aw⟩
    rcases j0.1 B with B|B
    .exact (bc.2 z B).aa bd ct
    .rw[j6.1 B];have eI:=bL.size;refine qR.aa (w:=ba) ⟨⟨c2,cm.ext R⟩,⟨db,dc,?_,Ω,λr q=>by have:=de.2 r q;omega⟩,by show w.heap.size<=g;omega,cH y (x6 C)⟩ bd ct;exact(ay.ext Z).ext R
   .rw[K,Z4,al];rfl
   .rcases q with q|q
    .exact W r (.inl q)
    .rcases bB r q with h|h
     .exact W r (.inr h)
     .omega
def wx{z:Array x3}{k:Nat}(a:z.size=k):(Z5.zeroCells z n).toList=dT z (n*k):=by
 unfold Z5.zeroCells dT;rw[a]
def Nr{P:V1}{t p A:r9}{B kn:n9}{b g k m:Nat}{z:x3}{xs:List x3}(X:y=(m:Int))(M:P.underlying t=σ (.slice e))(N:P.underlying p=σ (.int kn))(hi:aQ P e k b z)(C:z.cells.size=k)(av:0<k)(h1:∀u∈dT z.cells (m*k),u.oneCell'=true)(h:bX w g e k v n xs)(Y:0<m)(Z:(n+m)*b<=140737488355328)(ab:n+m<=9223372036854775807)(O:∀E ad w',bX w' ad e k E (n+m) (xs++dT z.cells (m*k))->(∀r,leadsTo E r->leadsTo v r\/w.heap.size<=r)->ae (λr=>leadsTo v r) w w'->K E w'):aB P (Z3 #[t,p] A #[v,.int B y]) w K:=by
 subst X;obtain⟨i,hi,F,rfl,Q⟩:=hi;obtain⟨R,hm⟩:=h;have af:=oR z.cells (m*k);have ag:m*i.bytes<=281474976710656:=by
  have:m*i.bytes<=(n+m)*i.bytes:=X0 _ Ω;omega
 have grow:∀(base:Option Addr)(cap:Nat),v= .slice base n cap->(Z5.firstCells i.size n (.slice base n cap)).run P w.drew= .ok xs.toArray w.drew->cap<n+m->aB P (Z3 #[t,p] A #[v,.int B (m:Int)]) w K:=λbase cap ah ai f=>by
  subst ah;have G:=Lib.run_append_grow_zeros (P:=P) w t p A e i z B kn M N hi Q base n cap xs ai m Y Ω f Ω ag (growslice_fits f Z);have S:n+m<=grownCap w (n+m) cap e:=grownCap_ge w _ _ _;have aj:grownCap w (n+m) cap e<=maxLen:=grownCap_le_maxLen w (n+m) cap e (by simpa[maxLen]using ab);have aw:=oR z.cells ((grownCap w (n+m) cap e-(n+m))*k);have ax:(n+m)*k<=grownCap w (n+m) cap e*k:=X0 _ S;have ak:(n+m)*k=n*k+m*k:=U5 _ _ _;have ay:(grownCap w (n+m) cap e-(n+m))*k=grownCap w (n+m) cap e*k-(n+m)*k:=Nat.sub_mul _ _ _;refine .of G ((pK w _ (Nat.le_succ _)).trans (pM _ _)) (O _ w.heap.size _ ⟨by rw[o4];omega,.inr ⟨_,xs++dT z.cells (m*k)++dT z.cells ((grownCap w (n+m) cap e-(n+m))*k),rfl,?_,S,aj,?_,?_⟩⟩ (λr H=>?_) (((rr w _).trans (pL _ _)).aa _))
  .have:=heap_alloc_new w.drew (.cells (xs.toArray++Z5.zeroCells z.cells m++Z5.zeroCells z.cells (grownCap w (n+m) cap e-(n+m))) e);unfold ac;rw[show w.drew.heap.size=w.heap.size from rfl]at this;rw[this];congr 2;apply Array.toList_inj.1;rw[Array.toList_append,Array.toList_append,wx C,wx C]
  .rw[o4,o4];omega
  .rw[List.take_append_of_le_length (by rw[o4];omega),j4 (by rw[o4];omega)]
  .obtain⟨a,al,c,q,s⟩:=H;cases q;exact .inr (by simp at s;omega)
 rcases hm with⟨rfl,am⟩|⟨cap,cs,rfl,x,q,s,I,T⟩
 .subst am;have:xs=[]:=c9 (by simpa using R);subst this;exact grow ν 0 rfl (run_firstCells_none w.drew i.size 0 0 0) Ω
 .by_cases f:n+m<=cap
  .have U:(n+m)*k<=cs.length:=by rw[I];exact X0 _ f
   have ak:(n+m)*k=n*k+m*k:=U5 _ _ _;have J:=run_storeCells_cells (P:=P) g (0+n*k) (dT z.cells (m*k)) 0 w (λj V=>by
    rw[af]at V;rw[Nat.add_zero,X6,x.cell (x7 (show n*k+j<cs.length by omega))];rfl) (λj _=>x.frozen _ _) h1
   simp only[Nat.add_zero]at J;have hw:X9.wrap (m:Int)=m:=by rw[n9.wrap_i64];omega
   have an:¬((m:Int)<0):=Ω
   have ao:¬(281474976710656<(m:Int)*(i.bytes:Int)):=by rw[<-Int.natCast_mul];omega
   have L:¬(m*i.size=0):=Nat.mul_ne_zero Ω Ω;have ap:(Z5.zeroCells z.cells m).toList=dT z.cells (m*k):=wx C;have G:(Z3 #[t,p] A #[.slice (σ ⟨g,0,ν⟩) n cap,.int B (m:Int)]).run P w= .ok (.slice (σ ⟨g,0,ν⟩) (n+m) cap) (w.setCells g (0+n*k) (dT z.cells (m*k))):=by
    simp[Z3,run_underlying M,run_underlying N,sizeOf,typeInfo,zeroValue,hi,Q,asInt,asIntOf,hw,f,an,L,ao,ap,Addr.add_lit,F];simp only[X6]at J;rw[J];simp;intro aq;exact absurd aq (by rw[F]at L;exact L)
   obtain⟨au,W⟩:=nI (dT z.cells (m*k)) cs (0+n*k) w x;refine .of G (W.cr x) (O _ g _ ⟨by rw[o4];omega,.inr ⟨cap,_,rfl,au,f,s,by rw[lZ,I],?_⟩⟩ (λr H=>.inl ?_) (W.aa.mono λr _ he=>⟨_,_,_,rfl,he.symm⟩))
   .rw[sN Ω U,mE (by rw[o7];omega),X6,List.take_take,List.drop_eq_nil_of_le (by rw[o7];omega),V3,Nat.min_eq_left Ω,T]
   .obtain⟨a,al,c,q,s⟩:=H;cases q;exact⟨_,_,_,rfl,s⟩
  .refine grow _ cap rfl ?_ Ω;have U:n*k<=cs.length:=by rw[I];exact X0 _ q
   refine run_firstCells_some w.drew i.size n _ n cap xs (by rw[F];exact R) λj u hu=>?_;rw[T7,X6];have V:=(x5.1 hu).1;rw[<-T,Y0 Ω]at hu;exact x.cell hu
def iB(c:Cell):List x3:=[Δ c.v,.int .u64 (c.st:Int)]
def n5(o:k7):List x3:=[Δ (o.i:Int),Δ o.c.v,.int .u64 (o.c.st:Int)]
def n7(m:si):List x3:=[Δ (m.olds:Int),Δ (m.cells:Int),.int .u64 (m.st:Int)]
def dw(w:x4)(ad:Nat)(A:af)(t:ay):Prop:=A ad/\∃e go de aZ a dP,ac w ad fD [aZ,a,dP,.int .u64 (t.iq:Int)]/\bg iB 2 eJ w e aZ t.cells/\bg n5 3 kX w go a t.olds/\bg n7 3 gl w de dP t.marks/\
 ∀r,leadsTo aZ r\/leadsTo a r\/leadsTo dP r->A r
def dw.aa{S A:af}{t:ay}(h:dw w ad A t)(e:ae S w w')(f:∀r,A r->¬S r):dw w' ad A t:=by
 obtain⟨p,q,go,de,aZ,s,dP,h1,x,y,z,j⟩:=h;exact⟨p,q,go,de,aZ,s,dP,h1.aa e (f _ p),x.aa e λr a=>f r (j r (.inl a)),y.aa e λr a=>f r (j r (.inr (.inl a))),z.aa e λr a=>f r (j r (.inr (.inr a))),j⟩
def dw.ext{A:af}{t:ay}(h:dw w ad A t)(a:Ext w w'):dw w' ad A t:=h.aa (a.aa λ_=>False) λ_ _ h=>h
def dw.mono{A B:af}{t:ay}(h:dw w ad A t)(a:∀r,A r->B r):dw w ad B t:=by
 obtain⟨e,f,go,de,aZ,j,dP,h1,p,q,s,x⟩:=h;exact⟨a _ e,f,go,de,aZ,j,dP,h1,p,q,s,λr y=>a r (x r y)⟩
def Grow(A:af)(w:x4)(aI:af)(w':x4):Prop:=ae A w w'/\(∀r,aI r->A r\/w.heap.size<=r)/\∀r,A r->aI r
def Grow.refl(A:af)(w:x4):Grow A w A w:=⟨ae.refl _ _,λ_ h=>.inl h,λ_ h=>h⟩
def Grow.ext{A:af}(h:Ext w w'):Grow A w A w':=⟨h.aa _,λ_ h=>.inl h,λ_ h=>h⟩
def Grow.trans{A aI e:af}{f:x4}(h:Grow A w aI w')(k:Grow aI w' e f):Grow A w e f:=
 ⟨⟨Y7 h.1.size k.1.size,λr o a I j=>k.1.aV r o (h.1.aV r o a I j) I λp=>(h.2.1 r p).elim j λq=>by
  have:=(j5.1 a).1;omega⟩,λr a=>by
  rcases k.2.1 r a with h1|h1
  .exact h.2.1 r h1
  .have:=h.1.size;exact .inr Ω,λr a=>k.2.2 r (h.2.2 r a)⟩
def CO{A:af}{t:ay}(h:dw w ad A t):ai x8 Hs [Γ ad] w λv w'=>v=Δ (t.cells.length:Int)/\Ext w w':=by
 obtain⟨e,f,go,de,aZ,j,dP,h1,a,q,r,s⟩:=h;refine az func152 ?_;rw[dc p2.u];simp only[Z6,aY];rw[aP fD.p 0 h1 rfl,e4 ij.u a];exact⟨rfl,Ext.refl _⟩
def CP{A:af}{t:ay}{i:Int}(h:dw w ad A t):ai x8 GP [Γ ad,Δ i] w λv w'=>v= .bool (decide (0<=i/\i<t.cells.length))/\Ext w w':=by
 refine az func86 ?_;refine aW (λv J=>v= .bool (decide (0<=i/\i<t.cells.length))/\Ext w J) (λ_ _ h=>h) ?_;intro ax a;rw[cS,aj];refine⟨λe=>?_,λe=>a _ _ ⟨by rw[decide_eq_false];omega,Ext.refl _⟩⟩;refine(CO h).mono ?_;rintro _ J _ ⟨rfl,f⟩;rw[aR];refine a _ _ ⟨?_,f⟩;congr 1;rw[V7,decide_eq_true_eq,decide_eq_true_eq];exact⟨λh=>⟨Ω,h⟩,λh=>h.2⟩
def Ns{A:af}{t:ay}{i:Nat}{c:Cell}(h:dw w ad A t)(j:y=(i:Int))(a:t.cells[i]?=σ c):ai x8 y1 [Γ ad,Δ y] w λv w'=>v=Δ c.v/\Ext w w':=by
 have q:=(x5.1 a).1;refine az func39 ?_;refine(CP h).mono ?_;rintro _ J _ ⟨rfl,e⟩;rw[decide_eq_true Ω,bJ,X3,aY];obtain⟨r,s,go,de,aZ,x,dP,h1,f,z,B,C⟩:=h.ext e;rw[aP fD.p 0 h1 rfl,du j ij.u eJ.i f q,aS eJ.p rfl,aD Ψ (f.range a 0 _ rfl)];exact⟨rfl,e⟩
def mS{A:af}{t:ay}{i:Nat}{x:Int}(h:dw w ad A t)(e:y=(i:Int))(a:t.bV[i]?=σ x):ai x8 y1 [Γ ad,Δ y] w λv w'=>v=Δ x/\Ext w w':=by
 unfold ay.bV at a;rw[v8]at a;obtain⟨c,f,rfl⟩:=X2.1 a;exact Ns h e f
def mT(t:ay):Prop:=t.cells.length<=100000000/\t.olds.length<=100000000/\t.marks.length<=100000000
def tj{q go de:Nat}{aZ a dP:x3}{t:ay}{x:x3}(h1:ac w ad fD [aZ,a,dP,x])(f:bg iB 2 eJ w q aZ t.cells)(h:bg n5 3 kX w go a t.olds)(j:bg n7 3 gl w de dP t.marks):
  (¬leadsTo aZ ad/\¬leadsTo a ad/\¬leadsTo dP ad)/\(∀r,leadsTo aZ r->¬leadsTo a r/\¬leadsTo dP r)/\∀r,leadsTo a r->¬leadsTo aZ r/\¬leadsTo dP r:=by
 refine⟨⟨cQ f h1 Φ,cQ h h1 Φ,cQ j h1 Φ⟩,λr p=>?_,λr p=>?_⟩
 .obtain⟨rfl,c,e⟩:=en f p;exact⟨cQ h e Φ,cQ j e Φ⟩
 .obtain⟨rfl,c,e⟩:=en h p;exact⟨cQ f e Φ,cQ j e Φ⟩
def tk{A:af}{t:ay}{i:Nat}{x:Int}(h:dw w ad A t)(bm:y=(i:Int))(P:i<t.cells.length)(au:mT t):ai x8 zb [Γ ad,Δ y,Δ x] w λv w'=>v=Δ 0/\∃aI,Grow A w aI w'/\dw w' ad aI (t.set i x):=by
 subst bm;obtain⟨c,E⟩:=aF (l:=t.cells) P;refine az func128 ?_;rw[dc p2.u];simp only[Z6,aY];refine(CP h).mono ?_;rintro _ J _ ⟨rfl,L⟩;rw[decide_eq_true Ω,bJ,X3,aY];obtain⟨aV,M,go,de,aZ,Q,dP,h1,aX,av,ab,ag⟩:=id (h.ext L);have bo:∀{U:x4}{aI:af}{bn:ay}{st:Nat}{K:x4->Prop},dw U ad aI bn->bn.cells[i]?=σ ⟨c.v,st⟩->
   (∀q,ae aI U q->dw q ad aI {bn with cells:=bn.cells.set i ⟨x,st⟩}->K q)->
   (V x8 (bP (Γ ad)) U λt77=>
   V x8 (u6 fD t77 0) U λbq=>
   V x8 (u5 ij bq) U λbr=>
   V x8 (j9 ij br (Δ (i:Int))) U λbt=>
   V x8 (u6 eJ bt 0) U λbu=>
   aB x8 (o9 am bu (Δ x)) U λ(_:Unit)q=>
   K q):=by
  intro U aI bn st K aw ah bx;obtain⟨aA,M,go,de,aZ,Q,dP,G,H,R,S,W⟩:=aw;have bz:=(x5.1 ah).1;rw[aP fD.p 0 G rfl,du rfl ij.u eJ.i H bz,aS eJ.p rfl];obtain⟨⟨X,aC,aE⟩,I,_⟩:=tj G H R S;refine pk (f:=iB) (j:=0) (a:=⟨c.v,st⟩) (a':=⟨x,st⟩) am.i rfl rfl H ah rfl Ω λq B bA bB=>?_;exact bx q (B.mono λr _ e=>W r (.inl e)) ⟨aA,M,go,de,aZ,Q,dP,G.aa B X,bB,R.aa B λr e he=>(I r he).1 e,S.aa B λr e he=>(I r he).2 e,W⟩
 refine dh (λU=>∃aI bn st,Grow A J aI U/\dw U ad aI bn/\bn.cells[i]?=σ ⟨c.v,st⟩/\t.set i x={bn with cells:=bn.cells.set i ⟨x,st⟩}) ?_ ?_
 .rintro U ⟨aI,bn,st,bC,aw,ah,aG⟩;refine bo aw ah λq B av=>⟨by trivial,aI,?_,by rw[aG];exact av⟩;exact(Grow.ext L).trans (bC.trans ⟨B,λ_ h=>.inl h,λ_ h=>h⟩)
 intro ax aJ;rw[aP fD.p 2 h1 rfl,e4 r2.u ab,bS,aj];have a1:∀(hm:t.marks.getLast? =ν\/∃m,t.marks.getLast? =σ m/\¬(c.st<m.st/\i<m.cells)),t.set i x={t with cells:=t.cells.set i ⟨x,c.st⟩}:=λhm=>by
  unfold ay.set;rw[E];rcases hm with hm|⟨m,hm,bD⟩
  .simp only[hm]
  .simp only[hm];rw[if_neg bD]
 refine⟨λb0=>?_,λb2=>aJ _ ⟨A,t,c.st,Grow.refl _ _,h.ext L,E,a1 (.inl ?_)⟩⟩
 rotate_left
 .rw[List.getLast?_eq_none_iff];exact c9 Ω
 obtain⟨m,hm⟩:=aF (l:=t.marks) (i:=t.marks.length-1) Ω;have a2:t.marks.getLast? =σ m:=by rw[List.getLast?_eq_getElem?];exact hm
 have b3:=au.2.2;rw[aP fD.p 2 h1 rfl,ed,wrap_i64 Ω Ω,du (i:=t.marks.length-1) Ω r2.u gl.i ab Ω,bE gl.p gl.i rfl (ab.range hm)];refine bw gl.i λak U b4 a6 bF=>?_;refine b1 (vs:=n7 m) gl.i rfl rfl (by intro v Y;simp[n7]at Y;rcases Y with rfl|rfl|rfl<;>rfl) bF λq B bA bG=>?_;have a7:Ext J q:=a6.put B Ω;have al:∀{w':x4},Ext q w'->ac w' ak gl (n7 m):=λL=>bG.ext L;refine aW (λv aK=>v= .bool (decide (c.st<m.st/\i<m.cells))/\Ext q aK) ?_ ?_
 rotate_left
 .intro b5 a8;intro aK s _ _;have N:=a7.trans s;have ba:=al s;have O:=aX.ext N;rw[aP fD.p 0 (h1.ext N) rfl,du rfl ij.u eJ.i O P,aS eJ.p rfl,aD Ψ (O.range E 1 _ rfl),aH gl.p 2 ba rfl,aR,aj];refine⟨λbb=>?_,λbc=>a8 _ _ ⟨by rw[decide_eq_false];omega,s⟩⟩;rw[aH gl.p 1 ba rfl,aR];refine a8 _ _ ⟨?_,s⟩;congr 1;rw[V7,decide_eq_true_eq,decide_eq_true_eq];exact⟨λh=>⟨Ω,Ω⟩,λh=>Ω⟩
 rintro _ aK ⟨rfl,s⟩;have N:=a7.trans s;rw[aj];refine⟨λbb=>?_,λbc=>aJ _ ⟨A,t,c.st,Grow.ext N,(h.ext L).ext N,E,a1 (.inr ⟨m,a2,bc⟩)⟩⟩;intro b6 an _ _;have Z:=N.trans an;have aL:=h1.ext Z;have O:=aX.ext Z;have bH:=av.ext Z;have bI:=ab.ext Z;rw[bY,aS fD.p rfl,aD Ψ (aL.cell (o:=0+1) rfl),bY,aS fD.p rfl,aD Ψ (aL.cell (o:=0+0) rfl),du rfl ij.u eJ.i O P,bE eJ.p eJ.i rfl (O.range E)];rw[dq (cs:=#[Δ (i:Int),Δ c.v,.int .u64 (c.st:Int)]) Ψ];let a:k7:=⟨i,c⟩;have bK:∀u∈n5 a,u.oneCell'=true:=by intro v Y;simp[n5]at Y;rcases Y with rfl|rfl|rfl<;>rfl
 refine iy (f:=n5) (a:=a) nD.u kX.i Ω rfl rfl λb7 b9 bd ca z bL=>?_;refine⟨.inl z,?_⟩;have be:=Z.trans z;have aM:=aL.ext z;have bf:=O.ext z;have aN:=bH.ext z;have bh:=bI.ext z;obtain⟨⟨X,aC,aE⟩,I,bM⟩:=tj aM bf aN bh;refine iV (f:=n5) (a:=a) nD.u kX.i rfl aN (by simpa using bL.sl) bK (by have:=au.2.1;omega) (by have:=au.2.1;omega) λaO bi cb ao bN bj=>?_;rw[bY,aS fD.p rfl];have bk:=aM.aa bj aC;refine bp nD.i (eP ao.sl).1 (eP ao.sl).2 bk Ξ λC bl cc aQ=>?_;have aQ:ac C ad fD [aZ,aO,dP,.int .u64 (t.iq:Int)]:=aQ;have ap:ae (λr=>leadsTo Q r\/r=ad) bd C:=(bj.mono λr _ h=>.inl h).trans (bl.mono λr _ h=>.inr h);have bO:bg iB 2 eJ C M aZ t.cells:=bf.aa ap λr e he=>he.elim (λhe=>(I r e).1 he) λhe=>X (he▸e);have bQ:bg n7 3 gl C de dP t.marks:=bh.aa ap λr e he=>he.elim (λhe=>(bM r he).2 e) λhe=>aE (he▸e);have bR:bg n5 3 kX C bi aO (t.olds++[a]):=ao.aa bl λr e he=>by
  have he:r=ad:=he;subst he;exact cQ ao bk Φ e
 have cd:=be.size;have ce:=a6.size;let aT:af:=λr=>A r\/bd.heap.size<=r;have bT:Grow A J aT C:=⟨(be.aa A).trans (ap.mono λr _ he=>he.elim (λhe=>ag r (.inr (.inl he))) λhe=>he▸aV),λr e=>e.imp id λe=>Ω,λr e=>.inl e⟩;have bU:dw C ad aT {t with olds:=t.olds++[a]}:=⟨.inl aV,M,bi,de,aZ,aO,dP,aQ,bO,bR,bQ,λr e=>by
  rcases e with e|e|e
  .exact .inl (ag r (.inl e))
  .rcases bN r e with h|h
   .exact .inl (ag r (.inr (.inl h)))
   .exact .inr h
  .exact .inl (ag r (.inr (.inr e)))⟩
 have bV:ac C ak gl (n7 m):=(al ((s.trans an).trans z)).aa ap λhe=>by
  rcases he with he|he
  .obtain⟨rfl,cg,bW⟩:=en aN he;exact absurd (ez bW (al ((s.trans an).trans z))) Φ
  .subst he;exact absurd (ez aM (al ((s.trans an).trans z))) Φ
 intro ch aU _ _;have bX:=bU.ext aU;obtain⟨aA,M,go,de,aZ,Q,dP,G,H,R,S,W⟩:=bX;rw[aP fD.p 0 G rfl,aH gl.p 2 (bV.ext aU) rfl,du rfl ij.u eJ.i H P,aS eJ.p rfl];obtain⟨⟨X,aC,aE⟩,I,_⟩:=tj G H R S;refine pk (f:=iB) (j:=1) (a:=c) (a':=⟨c.v,m.st⟩) fC.i rfl rfl H E rfl Ω λci aq cj bZ=>?_;have aG:t.set i x={t with olds:=t.olds++[a],cells:=t.cells.set i ⟨x,m.st⟩}:=by
  unfold ay.set;rw[E];simp only[a2];rw[if_pos bb]
 refine aJ _ ⟨aT,{t with olds:=t.olds++[a],cells:=t.cells.set i ⟨c.v,m.st⟩},m.st,bT.trans ((Grow.ext aU).trans ⟨aq.mono λr _ e=>W r (.inl e),λ_ h=>.inl h,λ_ h=>h⟩),⟨aA,M,go,de,aZ,Q,dP,G.aa aq X,bZ,R.aa aq λr e he=>(I r he).1 e,S.aa aq λr e he=>(I r he).2 e,W⟩,?_,?_⟩
 .show (t.cells.set i _)[i]?=_;rw[b8 P]
 .rw[aG];simp only[List.set_set]
def CQ(n:Nat):dT (#[Δ 0,.int .u64 0]:Array x3) (n*2)=(o5 n (⟨0,0⟩:Cell)).flatMap iB:=by
 have:∀n,dT (#[Δ 0,.int .u64 0]:Array x3) (n*2)=(o5 n (⟨0,0⟩:Cell)).flatMap iB:=by
  intro n;apply Y9;intro j;have r:((o5 n (⟨0,0⟩:Cell)).flatMap iB).length=n*2:=by simp[iB]
  by_cases p:j<n*2
  .have q:(dT (#[Δ 0,.int .u64 0]:Array x3) (n*2))[j]?=σ (if j % 2=0 then Δ 0 else .int .u64 0):=by
    unfold dT;rw[R3,Array.getElem?_map,Array.getElem?_range,if_pos p];rcases Nat.mod_two_eq_zero_or_one j with h|h<;>simp[h]
   have e:=pj (f:=iB) (k:=2) (L:=o5 n (⟨0,0⟩:Cell)) (i:=j / 2) (j:=j % 2) (a:=⟨0,0⟩) (v:=if j % 2=0 then Δ 0 else .int .u64 0) (λa _=>rfl) (by rw[List.getElem?_replicate,if_pos Ω]) (by rcases Nat.mod_two_eq_zero_or_one j with h|h<;>simp[h,iB]);rw[show j / 2*2+j % 2=j by omega]at e;rw[q,e]
  .rw[Y2 (by rw[oR];omega),Y2 Ω]
 exact this n
def Nt{A:af}{t:ay}(h:dw w ad A t)(S:mT t)(ab:n<=100000000):ai x8 HU [Γ ad,Δ (n:Int)] w λv w'=>v=Δ (t.cells.length:Int)/\∃aI,Grow A w aI w'/\dw w' ad aI (t.grow n):=by
 refine az func195 ?_;refine(CO h).mono ?_;rintro _ J _ ⟨rfl,f⟩;refine dh (λU=>∃aI,Grow A w aI U/\dw U ad aI (t.grow n)) (λU h=>⟨rfl,h⟩) ?_;intro ax B;refine aW (λv U=>v= .bool (decide (0<n))/\J=U) ?_ ?_
 rotate_left
 .intro ag V;rw[zA p2.u];simp only[Z6,W3,bQ];rw[bS];refine V _ _ ⟨?_,rfl⟩;congr 1;rw[V7,decide_eq_true_eq,decide_eq_true_eq];omega
 rintro _ _ ⟨rfl,rfl⟩;rw[aj];refine⟨λC=>?_,λC=>B _ ⟨A,Grow.ext f,?_⟩⟩
 rotate_left
 .have:n=0:=Ω
  subst this;have e:t.grow 0=t:=by unfold ay.grow;simp
  rw[e];exact h.ext f
 obtain⟨E,ak,go,de,aZ,G,dP,h1,H,I,K,j⟩:=id (h.ext f);rw[aP fD.p 0 h1 rfl];obtain⟨⟨W,X,Y⟩,L,al⟩:=tj h1 H I K;have am:=S.1;refine Nr (k:=2) (m:=n) rfl ij.u ah.u eJ.i rfl Ω (λu hu=>?_) H.1 C Ω Ω λs M U N Z O=>?_
 .exact Cy Φ Φ u hu
 rw[bY,aS fD.p rfl];have q:bg iB 2 eJ U M s (t.cells++o5 n ⟨0,0⟩):=by
  refine⟨?_,λ_ _=>rfl⟩;have e:(x3.agg #[Δ 0,.int .u64 0]).cells= #[Δ 0,.int .u64 0]:=rfl;rw[e,CQ]at N;rw[o4,List.length_replicate,List.flatMap_append];exact N
 have P:=h1.aa O W;refine bp ij.i (eP q.sl).1 (eP q.sl).2 P Ξ λQ R an x=>?_;have x:ac Q ad fD [s,G,dP,.int .u64 (t.iq:Int)]:=x;have y:ae (λr=>leadsTo aZ r\/r=ad) J Q:=(O.mono λr _ h=>.inl h).trans (R.mono λr _ h=>.inr h);have z:=f.size;refine B _ ⟨λr=>A r\/J.heap.size<=r,(Grow.ext f).trans ⟨y.mono λr _ he=>he.elim (λhe=>j r (.inl he)) λhe=>he▸E,λr a=>a,λr a=>.inl a⟩,.inl E,M,go,de,s,G,dP,x,q.aa R λr a he=>?_,I.aa y λr a he=>he.elim (λhe=>(L r he).1 a) λhe=>X (he▸a),K.aa y λr a he=>he.elim (λhe=>(L r he).2 a) λhe=>Y (he▸a),λr a=>?_⟩
 .have he:r=ad:=he;subst he;exact cQ q P Φ a
 .rcases a with a|a|a
  .exact (Z r a).imp (λh=>j r (.inl h)) id
  .exact .inl (j r (.inr (.inl a)))
  .exact .inl (j r (.inr (.inr a)))
def Nu(s:n<=1000):ai x8 G7 [Δ (n:Int)] w λv w'=>Ext w w'/\∃ad,v=Γ ad/\dw w' ad (eo w.heap.size) ⟨o5 n ⟨0,0⟩,[],[],0⟩:=by
 refine az func127 ?_;rw[vd,Int.max_eq_left Ω];refine zH (k:=2) ij.u eJ.i Ω Ω λg J x h f=>?_;rw[dq (cs:=#[.slice (σ ⟨g,0,ν⟩) n n,.slice ν 0 0,.slice ν 0 0,.int .u64 0]) Ψ];refine bk λad U y j q=>?_;have z:=h.size;have e:(x3.agg #[Δ 0,.int .u64 0]).cells= #[Δ 0,.int .u64 0]:=rfl;have f:ac J g eJ ((o5 n (⟨0,0⟩:Cell)).flatMap iB):=by rw[<-CQ,<-e];exact f
 have p:bg iB 2 eJ J g (.slice (σ ⟨g,0,ν⟩) n n) (o5 n ⟨0,0⟩):=by
  refine⟨?_,λ_ _=>rfl⟩;rw[List.length_replicate];exact bX.full f (by simp[iB]) (by simp[maxLen];omega)
 refine⟨h.trans j,ad,rfl,by show w.heap.size<=ad;omega,g,0,0,_,_,_,q,p.ext j,bg.nil _ _ _ _ _,bg.nil _ _ _ _ _,λr a=>?_⟩;rcases a with a|a|a
 .have:=(p.leads a).1;show w.heap.size<=r;omega
 .exact (fu a).elim
 .exact (fu a).elim
theorem nL{α β:Type}{f:α->List β}:∀{L:List α}{i j:Nat}{a:α},L[i]?=σ a->j<(f a).length->(L.flatMap f)[((L.take i).flatMap f).length+j]?=(f a)[j]?
 |x::L,0,j,a,h,e=>by
  cases h;rw[List.take_zero,List.flatMap_nil,List.length_nil,X6,W6,Y3 e]
 |x::L,i+1,j,a,h,e=>by
  have h:L[i]?=σ a:=by simpa using h
  rw[List.take_succ_cons,W6,W6,o4,R7,Y5 Ω,Q1,nL h e]
theorem wy{α β:Type}{f:α->List β}:∀{L:List α}{i j:Nat}{a b:α}{x:β},L[i]?=σ a->j<(f a).length->f b=(f a).set j x->(L.flatMap f).set (((L.take i).flatMap f).length+j) x=(L.set i b).flatMap f
 |y::L,0,j,a,b,x,h,e,p=>by
  cases h;rw[List.take_zero,List.flatMap_nil,List.length_nil,X6,W6,List.set_cons_zero,W6,p,List.set_append_left _ _ e]
 |y::L,i+1,j,a,b,x,h,e,p=>by
  have h:L[i]?=σ a:=by simpa using h
  rw[List.take_succ_cons,W6,W6,o4,R7,S1 _ _ Ω,Q1,wy h e p,List.set_cons_succ,W6]
def CR{α β:Type}{f:α->List β}{L:List α}{i:Nat}{a:α}(h:L[i]?=σ a)(e:j<(f a).length):((L.take i).flatMap f).length+j<(L.flatMap f).length:=by
 have h1:=nL (f:=f) h e;rw[x7 e]at h1;exact(x5.1 h1).1
structure be where
 gone:Int
 mask:Int
 un:Λ
structure cK where
 sc:Λ
 ag:Λ
 live:Int
 cs:Λ
structure tm where
 v:Int
 sc:Λ
 pt:Λ
structure ao where
 zero:Int
 vars:List be
 funs:List cK
 cP:List tm
def hL(x:be):Λ:=x.gone::x.mask::x.un
def h8(x:cK):Λ:=x.live::x.cs
def i7(s:ao):Λ:=[s.zero,(s.funs.length:Int),(s.cP.length:Int)]
def ao.cells(s:ao):Λ:=i7 s++(s.vars.flatMap hL++s.funs.flatMap h8)
def fe(s:ao)(i:Nat):Nat:=3+((s.vars.take i).flatMap hL).length
def ff(s:ao)(j:Nat):Nat:=3+((s.vars.flatMap hL).length+((s.funs.take j).flatMap h8).length)
def Nv(s:ao):s.cells[0]?=σ s.zero:=rfl
def pv{s:ao}{i:Nat}{x:be}(h:s.vars[i]?=σ x)(e:j<x.un.length+2):s.cells[fe s i+j]?=(hL x)[j]?:=by
 have a:j<(hL x).length:=e;unfold ao.cells fe;rw[R7,Y5 (by simp[i7]),show(i7 s).length=3 from rfl,Q1,Y3 (CR h a),nL h a]
def wz{s:ao}{i:Nat}{x:cK}(h:s.funs[i]?=σ x)(a:j<x.cs.length+1):s.cells[ff s i+j]?=(h8 x)[j]?:=by
 have e:j<(h8 x).length:=a;unfold ao.cells ff;rw[R7,R7,Y5 (by simp[i7]),show(i7 s).length=3 from rfl,Q1,Y5 Ω,Q1,nL h e]
def Nw(s:ao)(c:Int):s.cells.set 0 c=({s with zero:=c}:ao).cells:=rfl
def CS{s:ao}{i:Nat}{x y:be}(h:s.vars[i]?=σ x)(e:j<x.un.length+2)(f:hL y=(hL x).set j c):s.cells.set (fe s i+j) c=({s with vars:=s.vars.set i y}:ao).cells:=by
 have a:j<(hL x).length:=e;unfold ao.cells fe;rw[R7,S1 _ _ (by simp[i7]),show(i7 s).length=3 from rfl,Q1,List.set_append_left _ _ (CR h a),wy h a f];rfl
def Nx{s:ao}{i:Nat}{x y:cK}(h:s.funs[i]?=σ x)(a:j<x.cs.length+1)(e:h8 y=(h8 x).set j c):s.cells.set (ff s i+j) c=({s with funs:=s.funs.set i y}:ao).cells:=by
 have f:j<(h8 x).length:=a;unfold ao.cells ff;rw[R7,R7,S1 _ _ (by simp[i7]),show(i7 s).length=3 from rfl,Q1,S1 _ _ Ω,Q1,wy h f e];show _=i7 {s with funs:=s.funs.set i y}++_;unfold i7;rw[Z9]
def Ny{s:ao}(x:cK):(s.cells++h8 x).set 1 ((s.funs.length+1:Nat):Int)=({s with funs:=s.funs++[x]}:ao).cells:=by
 unfold ao.cells;simp only[List.flatMap_append,List.flatMap_singleton,i7,o4,T1,Y6];rfl
def wA(s:ao):s.cells.length=3+((s.vars.flatMap hL).length+(s.funs.flatMap h8).length):=by
 unfold ao.cells;rw[o4,o4];rfl
def i9(a sc:Λ):Λ:=sc.map λv=>a.getD v.toNat 0
def kA(k:Int)(a:Int)(p:be×Int):Int:=if p.1.gone≠0 then a else min (a+p.1.un.getD p.2.toNat 0) k
def jX(k:Int)(a:Λ)(e:Int)(f:cK):Int:=if f.live≠0 then min (e+bh f.ag f.cs (i9 a f.sc)) k else e
def dropped(mask:Int)(v:Int):Bool:=mask.toNat.testBit v.toNat
def fL(p:be×Int):Bool:=decide (p.1.gone≠0)|| !dropped p.1.mask p.2
def eW(k:Int)(s:ao)(a:Λ):Int:=if(s.vars.zip a).all fL then s.funs.foldl (jX k a) ((s.vars.zip a).foldl (kA k) s.zero)else k
def hh(s:ao)(a:Λ):Prop:=a.length=s.vars.length/\∀(i:Nat)x v,s.vars[i]?=σ x->a[i]?=σ v->x.gone≠0\/(0<=v/\v<x.un.length)
structure bi(k:Int)(sizes:Λ)(s:ao):Prop where
 fx:1<=k/\k<=2147483648
 dQ:1<=sizes.length/\sizes.length<=64/\∀z∈sizes,1<=z/\z<=32
 zero:0<=s.zero/\s.zero<=k
 vars:s.vars.length=sizes.length
 var:∀(i:Nat)x z,s.vars[i]?=σ x->sizes[i]?=σ z->x.un.length=z.toNat/\(∀c∈x.un,0<=c/\c<=k)/\0<=x.mask/\x.mask<4294967296
 funs:∀f∈s.funs,fw sizes k (f.sc,f.cs)/\f.ag=bI sizes f.sc/\2<=f.sc.length
def newVar(u:Λ):be:=⟨0,0,u⟩
def kB(sizes:Λ)(g:cJ):cK:=⟨g.1,bI sizes g.1,1,g.2⟩
def dr(n:aK):ao:=⟨n.zero,n.unary.map newVar,n.funs.map (kB n.sizes),[]⟩
def Nz{n:aK}(h:jV n):bi n.k n.sizes (dr n):=by
 refine⟨h.k,h.sizes,h.zero,by simp[dr,h.kz],λi x z a j=>?_,λf p=>?_⟩
 .have a:(n.unary.map newVar)[i]?=σ x:=a;rw[v8]at a;obtain⟨u,hu,rfl⟩:=X2.1 a;obtain⟨h1,e⟩:=h.unary i z u j hu;exact⟨h1,e,Int.le_refl _,by show(0:Int)<_;omega⟩
 .obtain⟨g,q,rfl⟩:=l9.1 p;obtain⟨h1,e⟩:=h.funs g q;exact⟨h1,rfl,e⟩
def wB{a:Nat}{n:aK}(h:gd w a n):ai x8 GR [Γ a] w λv w'=>v=Δ (n.sizes.length:Int)/\Ext w w':=by
 obtain⟨j,q,r,s,gr,aT,L,nm,szv,gz,fv2,h1,e,f,x,y,z,A⟩:=h;refine az func93 ?_;rw[dc mC.u];simp only[Z6,aY];rw[aP fE.p 0 h1 rfl,aP cD.p 2 e rfl,aU an.u f.ls];exact⟨rfl,Ext.refl _⟩
def NA{a:Nat}{n:aK}(h:gd w a n):ai x8 H4 [Γ a] w λv w'=>v=Δ n.k/\Ext w w':=by
 obtain⟨f,j,q,r,gr,aT,L,nm,szv,gz,fv2,h1,e,s,x,y,z,A⟩:=h;refine az func208 ?_;rw[dc mC.u];simp only[Z6,aY];rw[aP fE.p 0 h1 rfl,aP cD.p 1 e rfl];exact⟨rfl,Ext.refl _⟩
def NB{a:Nat}{n:aK}(h:gd w a n):ai x8 G8 [Γ a] w λv w'=>v=Δ n.zero/\Ext w w':=by
 obtain⟨e,f,j,q,gr,aT,L,nm,szv,gz,fv2,h1,r,s,x,y,z,A⟩:=h;refine az func129 ?_;rw[dc mC.u];simp only[Z6,aY];rw[aP fE.p 1 h1 rfl];exact⟨rfl,Ext.refl _⟩
def CT{a:Nat}{n:aK}(h:gd w a n):ai x8 zd [Γ a] w λv w'=>v=Δ (n.funs.length:Int)/\Ext w w':=by
 obtain⟨j,q,r,s,gr,aT,L,nm,szv,gz,fv2,h1,x,y,z,A,e,f⟩:=h;refine az func132 ?_;rw[dc mC.u];simp only[Z6,aY];rw[aP fE.p 3 h1 rfl,e4 kY.u e.1];exact⟨by rw[<-f,u7],Ext.refl _⟩
def CU{s:Nat}{n:aK}{i:Int}(h:gd w s n)(f:jV n):ai x8 G9 [Γ s,Δ i] w λv w'=>Ext w w'/\(¬(0<=i/\i<n.sizes.length)->v= .slice ν 0 0)/\
  ∀u,0<=i->n.unary[i.toNat]?=σ u->∃g,w.heap.size<=g/\au .i64 am w' g v u:=by
 refine az func130 ?_;have K:=f.kz;refine aW (λv J=>v= .bool (decide (¬(0<=i/\i<n.sizes.length)))/\Ext w J) ?_ ?_
 .rintro _ J ⟨rfl,e⟩;rw[aj];refine⟨λC=>⟨e,λ_=>rfl,λu E hu=>?_⟩,λj=>?_⟩
  .have:=(x5.1 hu).1;exact absurd ⟨E,Ω⟩ C
  have j:0<=i/\i<n.sizes.length:=X4.1 j;obtain⟨M,N,O,P,gr,aT,L,nm,szv,gz,fv2,h1,Q,R,q,x,S,V⟩:=h.ext e;have W:aT.length=n.unary.length:=by rw[<-x,u7]
  obtain⟨a,r⟩:=aF (l:=aT) (i:=i.toNat) Ω;obtain⟨X,hm⟩:=q.2 a (x6 r);rw[aP fE.p 2 h1 rfl,du (i:=i.toNat) Ω cR.u aq.i q.1 Ω,aD (o:=i.toNat*1) Ψ (q.1.range r 0 _ rfl)];have y:n.unary[i.toNat]?=σ a.l:=by rw[<-x,v8,r];rfl
  have Y:a.l.length<=32:=by
   obtain⟨z,A⟩:=aF (l:=n.sizes) (i:=i.toNat) Ω;have Z:=(f.unary i.toNat z a.l A y).1;have aa:=f.sizes.2.2 z (x6 A);omega
  refine(vk hm.ls Ω).mono ?_;rintro v U _ ⟨G,g,ab,H⟩;refine⟨e.trans G,λI=>absurd j I,λu _ hu=>⟨g,by have:=e.size;omega,?_⟩⟩;rw[y]at hu;cases hu;exact H
 .intro ax B;rw[aR,aj];refine⟨λac=>B _ _ ⟨by rw[decide_eq_true];omega,Ext.refl _⟩,λad=>?_⟩;refine(wB h).mono ?_;rintro _ J _ ⟨rfl,e⟩;rw[cS];refine B _ _ ⟨?_,e⟩;congr 1;rw[V7,decide_eq_true_eq,decide_eq_true_eq];omega
def CV{n:aK}{i:Int}(h:gd w j n)(a:jV n):ai x8 Gy [Γ j,Δ i] w λv w'=>Ext w w'/\v=Δ (if 0<=i then n.sizes.getD i.toNat 0 else 0):=by
 refine az func67 ?_;refine(CU h a).mono ?_;rintro v J _ ⟨p,r,s⟩;by_cases e:0<=i/\i<n.sizes.length
 .have x:=a.kz;obtain⟨u,hu⟩:=aF (l:=n.unary) (i:=i.toNat) Ω;obtain⟨z,f⟩:=aF (l:=n.sizes) (i:=i.toNat) Ω;obtain⟨g,_,hm⟩:=s u e.1 hu;rw[aU aq.u hm.ls];refine⟨p,?_⟩;have y:=(a.unary i.toNat z u f hu).1;have A:=a.sizes.2.2 z (x6 f);rw[if_pos e.1,u4,f];congr 1;simp only[V5];omega
 .rw[r e,hW aq.u];refine⟨p,?_⟩;by_cases q:0<=i
  .rw[if_pos q,u4,Y2 Ω];rfl
  .rw[if_neg q];rfl
def CW{a:Nat}{n:aK}{j:Int}(h:gd w a n)(f:∀w',Ext w w'->K (.bool (decide (¬(0<=j/\j<n.funs.length)))) w'):
  V x8 (aJ .lss ah false true (Δ j) (Δ 0)) w λq=>Split q (K (.bool true) w) (ai x8 zd [Γ a] w λr p=>V x8 (aJ .geq ah false false (Δ j) r) p λs=>K s p):=by
 rw[aR,aj];refine⟨λy=>?_,λz=>?_⟩
 .have:=f w (Ext.refl _);rw[decide_eq_true (show¬(0<=j/\j<n.funs.length) by omega)]at this;exact this
 .refine (CT h).mono ?_;rintro _ J _ ⟨rfl,x⟩;rw[cS];have:=f J x;have e:decide ((n.funs.length:Int)<=j)=decide (¬(0<=j/\j<n.funs.length)):=by
   rw[V7,decide_eq_true_eq,decide_eq_true_eq];omega
  rw[<-e]at this;exact this
def NC{s:Nat}{n:aK}{g:cJ}(h:gd w s n)(z:jV n)(e:n.funs[j]?=σ g):ai x8 Hb [Γ s,Δ (j:Int)] w λv w'=>Ext w w'/\∃gs,w.heap.size<=gs/\au .i64 ah w' gs v g.1:=by
 refine az func134 ?_;have G:=(x5.1 e).1;refine aW (λv J=>v= .bool (decide (¬(0<=(j:Int)/\(j:Int)<n.funs.length)))/\Ext w J) ?_ λax A=>CW h λw' B=>A _ _ ⟨rfl,B⟩;rintro _ J ⟨rfl,f⟩;rw[decide_eq_false Ω,aY];obtain⟨H,I,K,M,gr,aT,L,nm,szv,gz,fv2,h1,N,O,P,Q,q,x⟩:=h.ext f;have R:L.length=n.funs.length:=by rw[<-x,u7]
 obtain⟨a,r⟩:=aF (l:=L) (i:=j) Ω;have y:dY a=g:=by rw[<-x,v8,r]at e;exact Z0 e
 obtain⟨⟨S,hm⟩,_⟩:=q.2 a (x6 r);rw[aP fE.p 3 h1 rfl,du rfl kY.u hz.i q.1 Ω,aS hz.p rfl,aD Ψ (q.1.range r 0 _ rfl)];have V:a.sc.length<=6:=by
  have:=(z.funs g (x6 e)).1.scope.2;rw[<-y]at this;exact this
 refine(k6 hm.ls Ω).mono ?_;rintro v U _ ⟨C,gs,W,E⟩;refine⟨f.trans C,gs,by have:=f.size;omega,?_⟩;rw[<-y];exact E
def ND{g C:Nat}(h:dd w g C sv ag k cs):ai x8 HW [Γ g] w λv w'=>Ext w w'/\∃a e,v=Γ a/\w.heap.size<=a/\w.heap.size<=e/\dd w' a e sv ag k cs:=by
 obtain⟨⟨aZ,gs,E,hm,G⟩,⟨h1,M,H⟩,I,y⟩:=h;refine az func197 ?_;rw[dc eV.u];simp only[Z6,aY];intro J f _ _;have r:=E.ext f;have N:=prod_bound I;rw[bY,aS cZ.p rfl,bE (cs:=[sv]) bC.p bC.i rfl (nN r (by
  intro j v s
  match j,s with
  |0,s=>exact s)),aP cZ.p 1 r rfl,aP cZ.p 2 r rfl]
 refine(vk (G.ls.ext f) Ω).mono ?_;rintro z U _ ⟨x,e,O,q⟩;refine⟨.inl x,?_⟩;rw[dq (cs:=#[sv,Δ k,z]) (by obtain⟨_,_,_,rfl⟩:=c8 hm.ls;obtain⟨_,_,_,rfl⟩:=c8 q.ls;kernel_rfl)];refine bk λa P Q A K=>?_;have R:=f.size;have S:=x.size;have V:=q;have B:=(f.trans x).trans A;refine⟨B,a,e,rfl,Ω,Ω,⟨z,gs,K,hm.ext B,q.ext A⟩,⟨?_,?_,H⟩,I,y⟩
 .have:=s3 q (by rw[y];omega);omega
 .intro L;obtain⟨W,X⟩:=bR hm L;omega
def NE{z:Nat}{n:aK}{g:cJ}(A:gd w0 z n)(B:Ext w0 w)(f:n.funs[j]?=σ g):ai x8 Hc [Γ z,Δ (j:Int)] w λv w'=>Ext w w'/\∃gt q sv,v=Γ gt/\w.heap.size<=gt/\w.heap.size<=q/\dd w' gt q sv (bI n.sizes g.1) n.k g.2/\∀r,leads sv r->∃c,ac w0 r ah c:=by
 have h:=A.ext B;refine az func135 ?_;have W:=(x5.1 f).1;refine aW (λv J=>v= .bool (decide (¬(0<=(j:Int)/\(j:Int)<n.funs.length)))/\Ext w J) ?_ λax I=>CW h λw' K=>I _ _ ⟨rfl,K⟩;rintro _ J ⟨rfl,s⟩;rw[decide_eq_false Ω,aY];have e:=B.trans s;obtain⟨X,Y,Z,aa,gr,aT,L,nm,szv,gz,fv2,h1,ab,ad,ae,af,x,C⟩:=A;have ag:L.length=n.funs.length:=by rw[<-C,u7]
 obtain⟨a,y⟩:=aF (l:=L) (i:=j) Ω;have M:dY a=g:=by rw[<-C,v8,y]at f;exact Z0 f
 obtain⟨_,q,N,E⟩:=x.2 a (x6 y);rw[aP fE.p 3 (h1.ext e) rfl,du rfl kY.u hz.i (x.1.ext e) Ω,aS hz.p rfl,aD Ψ ((x.1.ext e).range y 1 _ rfl)];refine(ND (E.ext e)).mono ?_;rintro v U _ ⟨O,gt,P,rfl,aj,ak,Q⟩;have al:=s.size;refine⟨s.trans O,gt,P,N,rfl,Ω,Ω,?_,λr G=>?_⟩
 .rw[<-M];exact Q
 .obtain⟨⟨_,_,_,hm,_⟩,_⟩:=E;obtain⟨R,_⟩:=bR hm G;rcases hm.2 with⟨S,_⟩|⟨_,cs,_,V,_⟩
  .obtain⟨_,_,_,H,am⟩:=G;rw[S]at H;cases H
  .exact⟨cs,R▸V⟩
structure pw where
 aM:x3
 szv:x3
 at_:Nat
def mh(x:pw):List x3:=[x.aM,x.szv,Δ (x.at_:Int)]
structure qS where
 v:Int
 aM:x3
 bv:x3
def wC(x:qS):List x3:=[Δ x.v,x.aM,x.bv]
def iC(s:ao):Λ:=(W5 s.vars.length).map λi=>(fe s i:Int)
def ja(R:af)(w:x4)(v:x3)(l:Λ):Prop:=(∃g,au .i64 ah w g v l)/\∀r,leads v r->R r
def ja.ls{R:af}(h:ja R w v l):aG .i64 w v l:=by
 obtain⟨⟨g,h⟩,_⟩:=h;exact h.ls
def ja.aa{R S:af}(h:ja R w v l)(f:ae S w w')(j:∀r,r<w.heap.size->R r->¬S r):ja R w' v l:=by
 obtain⟨⟨g,h1⟩,a⟩:=h;exact⟨⟨g,br h1 f λr e=>j r (by obtain⟨p,q⟩:=bR h1 e;omega) (a r e)⟩,a⟩
def ja.mono{R R':af}(h:ja R w v l)(a:∀r,R r->R' r):ja R' w v l:=⟨h.1,λr e=>a r (h.2 r e)⟩
def lp(R:af)(w:x4)(L:List pw)(s:ao):Prop:=L.length=s.funs.length/\∀(j:Nat)x f,L[j]?=σ x->s.funs[j]?=σ f->ja R w x.aM f.sc/\ja R w x.szv f.ag/\x.at_=ff s j
def mi(R:af)(w:x4)(E:List qS)(s:ao):Prop:=E.length=s.cP.length/\∀(j:Nat)x e,E[j]?=σ x->s.cP[j]?=σ e->x.v=e.v/\ja R w x.aM e.sc/\ja R w x.bv e.pt
def lp.aa{R S:af}{L:List pw}{s:ao}(h:lp R w L s)(a:ae S w w')(e:∀r,r<w.heap.size->R r->¬S r):lp R w' L s:=⟨h.1,λj x f p q=>by
 obtain⟨h1,y,z⟩:=h.2 j x f p q;exact⟨h1.aa a e,y.aa a e,z⟩⟩
def mi.aa{R S:af}{E:List qS}{s:ao}(h:mi R w E s)(a:ae S w w')(e:∀r,r<w.heap.size->R r->¬S r):mi R w' E s:=⟨h.1,λj x f p q=>by
 obtain⟨h1,y,z⟩:=h.2 j x f p q;exact⟨h1,y.aa a e,z.aa a e⟩⟩
def lp.mono{R R':af}{L:List pw}{s:ao}(h:lp R w L s)(a:∀r,R r->R' r):lp R' w L s:=⟨h.1,λj x f e p=>by
 obtain⟨h1,q,y⟩:=h.2 j x f e p;exact⟨h1.mono a,q.mono a,y⟩⟩
def mi.mono{R R':af}{E:List qS}{s:ao}(h:mi R w E s)(a:∀r,R r->R' r):mi R' w E s:=⟨h.1,λj x f e p=>by
 obtain⟨h1,q,y⟩:=h.2 j x f e p;exact⟨h1,q.mono a,y.mono a⟩⟩
def tn{a b c:x4}(h:Ext a b)(k:ae S b c)(f:∀r o,a.heap[r]?=σ o->fz o=true->¬S r):Ext a c:=
 ⟨Y7 h.size k.size,λr o e I=>k.aV r o (h.aV r o e I) I (f r o e I)⟩
def dw.cut{A:af}{t:ay}(h:dw w ad A t):dw w ad (λr=>A r/\r<w.heap.size) t:=by
 obtain⟨s,x,go,de,aZ,y,dP,h1,e,f,j,z⟩:=h;refine⟨⟨s,h1.lt⟩,x,go,de,aZ,y,dP,h1,e,f,j,λr a=>⟨z r a,?_⟩⟩;rcases a with a|a|a
 .obtain⟨p,q⟩:=e.leads a;omega
 .obtain⟨p,q⟩:=f.leads a;omega
 .obtain⟨p,q⟩:=j.leads a;omega
def eQ(w:x4)(ab ad j:Nat)(e f h:x3)(A R:af)(n:aK)(s:ao)(t:ay):Prop:=
 (A ab/\(∀r,A r->¬R r)/\(∀r,R r->r<w.heap.size)/\∀r,A r->r<w.heap.size)/\∃a1 p ge,∃(L:List pw)(E:List qS)(a:af)(w0:x4),
  ac w ab cu [Γ j,Γ ad,e,f,h]/\(gd w0 j n/\Ext w0 w/\∀r o,w0.heap[r]?=σ o->fz o=true->R r)/\
  (dw w ad a t/\(∀r,a r->A r)/\¬a ab/\∀r,leads e r\/leadsTo f r\/leadsTo h r->A r/\¬a r)/\au .i64 ah w a1 e (iC s)/\
  (bg mh 3 dS w p f L/\lp R w L s)/\bg wC 3 gk w ge h E/\mi R w E s
def eQ.aa{S:af}{y:Nat}{B C F:x3}{A R:af}{n:aK}{s:ao}{t:ay}(h:eQ w ab ad y B C F A R n s t)(e:ae S w w')(f:∀r,r<w.heap.size->A r\/R r->¬S r):eQ w' ab ad y B C F A R n s t:=by
 obtain⟨⟨h1,j,V,W⟩,a1,X,ge,L,E,Y,w0,G,⟨Z,H,J⟩,⟨ac,p,ag,q⟩,K,⟨M,ah⟩,N,ai⟩:=h;have z:=e.size;refine⟨⟨h1,j,λr a=>by have:=V r a;omega,λr a=>by have:=W r a;omega⟩,a1,X,ge,L,E,Y,w0,G.aa e (f _ G.lt (.inl h1)),⟨Z,tn H e λr o a aj I=>f r (by have:=H.size;have:=(j5.1 a).1;omega) (.inr (J r o a aj)) I,J⟩,
  ⟨?_,p,ag,q⟩,br K e λr a I=>f r ?_ (.inl (q r (.inl a)).1) I,⟨M.aa e λr a I=>f r ?_ (.inl (q r (.inr (.inl a))).1) I,ah.aa e λr a h=>f r a (.inr h)⟩,N.aa e λr a I=>f r ?_ (.inl (q r (.inr (.inr a))).1) I,ai.aa e λr a h=>f r a (.inr h)⟩
 .obtain⟨O,ak,go,de,aZ,al,dP,P,Q,T,U,x⟩:=ac;refine⟨O,ak,go,de,aZ,al,dP,P.aa e (f _ P.lt (.inl (p _ O))),Q.aa e λr a I=>?_,T.aa e λr a I=>?_,U.aa e λr a I=>?_,x⟩
  .exact f r (by obtain⟨h1,j⟩:=Q.leads a;omega) (.inl (p _ (x r (.inl a)))) I
  .exact f r (by obtain⟨h1,j⟩:=T.leads a;omega) (.inl (p _ (x r (.inr (.inl a))))) I
  .exact f r (by obtain⟨h1,j⟩:=U.leads a;omega) (.inl (p _ (x r (.inr (.inr a))))) I
 .obtain⟨h1,j⟩:=bR K a;omega
 .obtain⟨h1,j⟩:=M.leads a;omega
 .obtain⟨h1,j⟩:=N.leads a;omega
def eQ.ext{a:Nat}{e f j:x3}{A R:af}{n:aK}{s:ao}{t:ay}(h:eQ w ab ad a e f j A R n s t)(p:Ext w w'):eQ w' ab ad a e f j A R n s t:=h.aa (p.aa λ_=>False) λ_ _ _ h=>h
def eQ.qT{C:Nat}{F G H:x3}{A R:af}{n:aK}{s:ao}{t:ay}(h:eQ w ab ad C F G H A R n s t):∃q,dw w ad q t/\∀p w' bn,Grow q w p w'->dw w' ad p bn->∃aI,Grow A w aI w'/\eQ w' ab ad C F G H aI R n s bn:=by
 obtain⟨⟨h1,f,J,K⟩,a1,W,ge,L,E,q,w0,M,⟨X,Y,N⟩,⟨Z,j,O,x⟩,P,⟨Q,ac⟩,S,ae⟩:=h;refine⟨q,Z,λT w' bn y ag=>?_⟩;have U:=ag.cut;have e:Grow q w (λr=>T r/\r<w'.heap.size) w':=⟨y.1,λr a=>y.2.1 r a.1,λr a=>⟨y.2.2 r a,by have:=K r (j r a);have:=y.1.size;omega⟩⟩;obtain⟨p,V⟩:∃B:af,B=λr=>T r/\r<w'.heap.size:=⟨_,rfl⟩;rw[<-V]at U e;have ah:∀r,p r->r<w'.heap.size:=λr h=>by rw[V]at h;exact h.2
 refine⟨λr=>A r\/p r,⟨e.1.mono λr _ a=>j r a,λr a=>?_,λr a=>.inl a⟩,⟨.inl h1,λr a z=>?_,λr a=>?_,λr a=>?_⟩,a1,W,ge,L,E,p,w0,M.aa e.1 O,⟨X,tn Y e.1 λr o a ai I=>f r (j r I) (N r o a ai),N⟩,
  ⟨U,λr a=>.inr a,λa=>?_,λr a=>⟨.inl (x r a).1,λaj=>?_⟩⟩,br P e.1 λr a I=>(x r (.inl a)).2 I,⟨Q.aa e.1 λr a I=>(x r (.inr (.inl a))).2 I,ac.aa e.1 λr _ a I=>f r (j r I) a⟩,S.aa e.1 λr a I=>(x r (.inr (.inr a))).2 I,ae.aa e.1 λr _ a I=>f r (j r I) a⟩
 .rcases a with a|a
  .exact .inl a
  .exact (e.2.1 r a).imp (j r) id
 .have:=J r z;rcases a with a|a
  .exact f r a z
  .rcases e.2.1 r a with h|h
   .exact f r (j r h) z
   .omega
 .have:=J r a;have:=e.1.size;omega
 .rcases a with a|a
  .have:=K r a;have:=e.1.size;omega
  .exact ah r a
 .rcases e.2.1 _ a with h|h
  .exact O h
  .have:=M.lt;omega
 .rcases e.2.1 r aj with h|h
  .exact (x r a).2 h
  .rcases a with a|a|a
   .obtain⟨h1,f⟩:=bR P a;omega
   .obtain⟨h1,f⟩:=Q.leads a;omega
   .obtain⟨h1,f⟩:=S.leads a;omega
def StateM(w:x4)(ab ad:Nat)(A R:af)(n:aK)(s:ao)(t:ay):Prop:=∃a e f h,eQ w ab ad a e f h A R n s t
def StateM.aa{S:af}{A R:af}{n:aK}{s:ao}{t:ay}(h:StateM w ab ad A R n s t)(a:ae S w w')(e:∀r,r<w.heap.size->A r\/R r->¬S r):StateM w' ab ad A R n s t:=by
 obtain⟨f,j,p,q,h⟩:=h;exact⟨f,j,p,q,h.aa a e⟩
def StateM.ext{A R:af}{n:aK}{s:ao}{t:ay}(h:StateM w ab ad A R n s t)(a:Ext w w'):StateM w' ab ad A R n s t:=h.aa (a.aa λ_=>False) λ_ _ _ h=>h
def StateM.qT{A R:af}{n:aK}{s:ao}{t:ay}(h:StateM w ab ad A R n s t):∃a,dw w ad a t/\∀e w' bn,Grow a w e w'->dw w' ad e bn->∃aI,Grow A w aI w'/\StateM w' ab ad aI R n s bn:=by
 obtain⟨f,j,p,q,h⟩:=h;obtain⟨a,h1,r⟩:=h.qT;exact⟨a,h1,λe w' bn x y=>by
  obtain⟨aI,z,B⟩:=r e w' bn x y;exact⟨aI,z,f,j,p,q,B⟩⟩
def n8(s s':ao):Prop:=iC s'=iC s/\s'.funs.length=s.funs.length/\(∀(j:Nat)a,s'.funs[j]?=σ a->∃f,s.funs[j]?=σ f/\a.sc=f.sc/\a.ag=f.ag/\ff s' j=ff s j)/\s'.cP=s.cP
def eQ.same{a:Nat}{e p q:x3}{A R:af}{n:aK}{s s':ao}{t:ay}(h:eQ w ab ad a e p q A R n s t)(I:n8 s s'):eQ w ab ad a e p q A R n s' t:=by
 obtain⟨ap,a1,y,ge,L,E,z,w0,B,C,F,G,⟨H,r⟩,J,K⟩:=h;obtain⟨M,N,O,P⟩:=I;refine⟨ap,a1,y,ge,L,E,z,w0,B,C,F,by rw[M];exact G,⟨H,r.1.trans N.symm,λj x Q S T=>?_⟩,J,?_⟩
 .obtain⟨f,U,V,W,X⟩:=O j Q T;rw[V,W,X];exact r.2 j x f S U
 .unfold mi;rw[P];exact K
def StateM.same{A R:af}{n:aK}{s s':ao}{t:ay}(h:StateM w ab ad A R n s t)(I:n8 s s'):StateM w ab ad A R n s' t:=by
 obtain⟨a,e,f,j,h⟩:=h;exact⟨a,e,f,j,h.same I⟩
theorem tp{α β:Type}{f:α->List β}:∀{L:List α}{i j:Nat}{a b:α},L[i]?=σ a->(f b).length=(f a).length->(((L.set i b).take j).flatMap f).length=((L.take j).flatMap f).length
 |[],_,_,_,_,h,_=>by simp at h
 |x::L,0,j,a,b,h,e=>by
  cases h;cases j with
  |zero=>rfl
  |succ j=>simp[e]
 |x::L,i+1,j,a,b,h,e=>by
  have h:L[i]?=σ a:=by simpa using h
  cases j with
  |zero=>rfl
  |succ j=>
   rw[List.set_cons_succ,List.take_succ_cons,List.take_succ_cons,W6,W6,o4,o4,tp h e]
def CX(s:ao)(c:Int):n8 s {s with zero:=c}:=⟨rfl,rfl,λj f h=>⟨f,h,rfl,rfl,rfl⟩,rfl⟩
def CY{s:ao}{i:Nat}{x y:be}(a:s.vars[i]?=σ x)(p:y.un.length=x.un.length):n8 s {s with vars:=s.vars.set i y}:=by
 have e:(hL y).length=(hL x).length:=by simp[hL,p]
 refine⟨?_,rfl,λj f h=>⟨f,h,rfl,rfl,?_⟩,rfl⟩
 .unfold iC;rw[show({s with vars:=s.vars.set i y}:ao).vars.length=s.vars.length from Z9];apply List.map_congr_left;intro j _;unfold fe;rw[tp a e]
 .unfold ff;have:=tp (j:=s.vars.length) a e;rw[j4 Ξ,j4 (o6 _)]at this;show 3+(((s.vars.set i y).flatMap hL).length+_)=_;rw[this]
def NF{s:ao}{i:Nat}{x y:cK}(a:s.funs[i]?=σ x)(q:y.cs.length=x.cs.length)(h1:y.sc=x.sc)(r:y.ag=x.ag):n8 s {s with funs:=s.funs.set i y}:=by
 have w:(h8 y).length=(h8 x).length:=by simp[h8,q]
 refine⟨rfl,Z9,λj f h=>?_,rfl⟩;have h:(s.funs.set i y)[j]?=σ f:=h;have e:ff {s with funs:=s.funs.set i y} j=ff s j:=by
  unfold ff;show 3+(_+(((s.funs.set i y).take j).flatMap h8).length)=_;rw[tp a w]
 by_cases p:i=j
 .subst p;rw[b8 (x5.1 a).1]at h;cases h;exact⟨x,a,h1,r,e⟩
 .rw[Y4 p]at h;exact⟨f,h,rfl,rfl,e⟩
def ay.wD(t:ay)(i:Nat)(x:Int):(t.set i x).marks=t.marks:=by
 unfold ay.set;cases t.cells[i]? with
 |none=>rfl
 |some c=>
  simp only;cases t.marks.getLast? with
  |none=>rfl
  |some m=>simp only;split<;>rfl
def ay.CZ(t:ay)(i:Nat)(x:Int):(t.set i x).iq=t.iq:=by
 unfold ay.set;cases t.cells[i]? with
 |none=>rfl
 |some c=>
  simp only;cases t.marks.getLast? with
  |none=>rfl
  |some m=>simp only;split<;>rfl
def ay.C0(t:ay)(i:Nat)(x:Int):(t.set i x).cells.length=t.cells.length:=by
 have h:=congrArg Q4 (ay.qe (t:=t) (i:=i) (x:=x));rw[Z9]at h;unfold ay.bV at h;rwa [u7,u7]at h
def ay.C1(t:ay)(i:Nat)(x:Int):(t.set i x).olds.length<=t.olds.length+1:=by
 unfold ay.set;cases t.cells[i]? with
 |none=>exact Nat.le_succ _
 |some c=>
  simp only;cases t.marks.getLast? with
  |none=>exact Nat.le_succ _
  |some m=>simp only;split<;>simp
def ay.wE{t:ay}(h:t.marks=[])(i:Nat)(x:Int):(t.set i x).olds=t.olds:=by
 unfold ay.set;cases t.cells[i]? with
 |none=>rfl
 |some c=>simp only[h,List.getLast?_nil]
def fM(t:ay)(l:Λ):Nat->ay
 |0=>t.grow l.length
 |i+1=>(fM t l i).set (t.cells.length+i) (l.getD i 0)
def mU(t:ay)(l:Λ):ay:=fM t l l.length
theorem qU(t:ay)(l:Λ):∀i,(fM t l i).marks=t.marks
 |0=>rfl
 |i+1=>(ay.wD _ _ _).trans (qU t l i)
theorem C2(t:ay)(l:Λ):∀i,(fM t l i).iq=t.iq
 |0=>rfl
 |i+1=>(ay.CZ _ _ _).trans (C2 t l i)
theorem wF(t:ay)(l:Λ):∀i,(fM t l i).cells.length=t.cells.length+l.length
 |0=>by simp[fM,ay.grow]
 |i+1=>(ay.C0 _ _ _).trans (wF t l i)
theorem wG(t:ay)(l:Λ):∀i,(fM t l i).olds.length<=t.olds.length+i
 |0=>o6 _
 |i+1=>by have:=ay.C1 (fM t l i) (t.cells.length+i) (l.getD i 0);have:=wG t l i;show(ay.set _ _ _).olds.length<=_;omega
theorem C3{t:ay}(h:t.marks=[])(l:Λ):∀i,(fM t l i).olds=t.olds
 |0=>rfl
 |i+1=>(ay.wE ((qU t l i).trans h) _ _).trans (C3 h l i)
theorem C4(t:ay)(l:Λ):∀i,i<=l.length->(fM t l i).bV=t.bV++(l.take i++o5 (l.length-i) 0)
 |0,_=>by rw[List.take_zero,List.nil_append];exact ay.Jn
 |i+1,h=>by
  have a:=C4 t l i Ω;show(ay.set _ _ _).bV=_;have e:t.bV.length=t.cells.length:=by simp[ay.bV]
  rw[ay.qe,a,S1 _ _ Ω,e,Q1,S1 _ _ (by rw[o7];omega),o7,Nat.min_eq_left Ω,T2,show l.length-i=(l.length-(i+1))+1 by omega,List.replicate_succ,List.set_cons_zero,u9,u4,x7 (show i<l.length by omega)];simp only[l7,V5,Y6,List.singleton_append]
def C5(t:ay)(l:Λ):(mU t l).bV=t.bV++l:=by
 unfold mU;rw[C4 t l _ (o6 _),o8,T2,List.replicate_zero,V3]
theorem hC.fM{h:List ay}{t:ay}(hk:hC t h)(l:Λ):∀i,hC (fM t l i) h
 |0=>hk.grow
 |i+1=>(hC.fM hk l i).set
def js{s:Go.Sem x3}{x:x3}(h:V x8 s w (λv=>v=x)):bZ x8 s x w:=by
 obtain⟨v,h,rfl⟩:=h;exact h
def tq{off:Nat}{z:Nat}{a:r9}{cs:List x3}{x:x3}(f:ac w ab e cs)(h:∀(K:x3->Prop),V x8 (u6 cu (Γ ab) z) w K=K (.pointer (σ ⟨ab,0+off,ν⟩)))(j:jH x8 a=true)(p:cs[0+off]?=σ x):
  bZ x8 (u5 a (.pointer (σ ⟨ab,0+off,ν⟩))) x w/\bZ x8 (u6 cu (Γ ab) z) (.pointer (σ ⟨ab,0+off,ν⟩)) w/\bZ x8 (bP (Γ ab)) (Γ ab) w/\True:=
 ⟨l3 j (f.cell p),js (by rw[h]),js (by rw[bY]),trivial⟩
def C6(w:x4)(r:Nat):Prop:=∃e c,ac w r e c/\(e=fD\/e=eJ\/e=kX\/e=gl\/e=cu\/e=dS\/e=gk)
def eA(w:x4)(r:Nat):Prop:=C6 w r\/∀o,w.heap[r]?=σ o->fz o≠true
def mV{J:x4}(hk:∀o,w.heap[r]?=σ o->fz o=true->¬eA w r->J.heap[r]?=σ o)(h:eA J r):eA w r:=by
 by_cases a:eA w r
 .exact a
 .refine absurd (.inr λo j I=>?_) a;have h1:=hk o j I a;rcases h with⟨e,c,f,he⟩|p
  .refine a (.inl ⟨e,c,?_,he⟩);unfold ac at f ⊢;rw[h1]at f;rw[j];exact f
  .exact p o h1 I
def iD{J U:x4}(a:Ext w J)(e:ae (eA J) J U):ae (eA w) w U:=(a.aa _).trans (e.mono λr _ h=>mV (λo f I _=>a.aV r o f I) h)
def tr{J U:x4}(h:ae (eA w) w J)(a:ae (eA J) J U):ae (eA w) w U:=h.trans (a.mono λr _ e=>mV (λo f I j=>h.aV r o f I j) e)
def dw.min{A:af}{t:ay}(h:dw w ad A t):dw w ad (λr=>A r/\C6 w r) t:=by
 obtain⟨q,s,go,de,aZ,x,dP,h1,f,j,p,y⟩:=h;refine⟨⟨q,_,_,h1,.inl rfl⟩,s,go,de,aZ,x,dP,h1,f,j,p,λr a=>⟨y r a,?_⟩⟩;rcases a with a|a|a
 .obtain⟨rfl,c,e⟩:=en f a;exact⟨_,c,e,.inr (.inl rfl)⟩
 .obtain⟨rfl,c,e⟩:=en j a;exact⟨_,c,e,.inr (.inr (.inl rfl))⟩
 .obtain⟨rfl,c,e⟩:=en p a;exact⟨_,c,e,.inr (.inr (.inr (.inl rfl)))⟩
def eQ.wH{p q x:x3}{A R:af}{n:aK}{s:ao}{t:ay}(h:eQ w ab ad j p q x A R n s t):∃a,dw w ad a t/\∀y w' bn,Grow a w y w'->dw w' ad y bn->ae (eA w) w w'/\∃aI,Grow A w aI w'/\eQ w' ab ad j p q x aI R n s bn:=by
 obtain⟨a,z,B⟩:=h.qT;refine⟨_,z.min,λC J bn e E=>⟨e.1.mono λr _ h=>.inl h.2,?_⟩⟩;exact B (λr=>a r\/C r) J _ ⟨e.1.mono λr _ h=>h.1,λr f=>f.elim .inl λh=>(e.2.1 r h).imp (λh=>h.1) id,λr f=>.inl f⟩ (E.mono λr h=>.inr h)
def C7{y:Nat}{z B C:x3}{A R:af}{n:aK}{s:ao}{t:ay}{cw:x3}(h:eQ w ab ad y z B C A R n s t)(G:aG .i64 w cw l)(Q:∀r,leads cw r->¬A r)(aH:t.cells.length+l.length<=100000000)(aJ:t.olds.length+l.length<=100000000)(hm:t.marks.length<=100000000):
  ai x8 zc [Γ ab,cw] w λv w'=>v=Δ (t.cells.length:Int)/\ae (eA w) w w'/\∃aI,Grow A w aI w'/\eQ w' ab ad y z B C aI R n s (mU t l):=by
 refine az func131 ?_;obtain⟨_,a1,S,ge,L,E,_,w0,H,_⟩:=id h;obtain⟨V,I,K⟩:=h.wH;rw[aP cu.p 1 H rfl,aU aq.u G];refine(Nt (n:=l.length) I ⟨Ω,Ω,hm⟩ Ω).mono ?_;rintro _ J _ ⟨rfl,W,X,Y⟩;obtain⟨Z,aa,N,ac⟩:=K W J _ X Y;have O:∀{aI:af}{w':x4},Grow A w aI w'->aG .i64 w' cw l:=λag=>h3 G ag.1 λr ah a ak c al an=>Q r ⟨a,ak,c,al,an⟩ ah;rw[aU aq.u (O N)];have ap:=G.le;refine bU.range l.length (λi U=>ae (eA w) w U/\∃f,Grow A w f U/\eQ U ab ad y z B C f R n s (fM t l i)) ap ⟨Z,aa,N,ac⟩ ?_ ?_
 .rintro i U k hi ⟨M,f,j,q⟩ hk;refine bA Ω ?_;obtain⟨x,P⟩:=aF (l:=l) hi;rw[bb aq.u am.i Ψ (O j) P];obtain⟨_,a1,S,ge,L,E,_,w0,H,_⟩:=id q;obtain⟨V,I,K⟩:=q.wH;have aM:=wF t l i;have aN:=wG t l i;have au:=qU t l i;rw[aP cu.p 1 H rfl,aL,wrap_i64 Ω Ω];refine(tk (i:=t.cells.length+i) I Ω Ω ⟨Ω,Ω,by rw[au];exact hm⟩).mono ?_;rintro _ av _ ⟨rfl,aw,ax,aA⟩;obtain⟨aB,aC,aD,aE⟩:=K aw av _ ax aA;rw[aL];refine hk _ ⟨tr M aB,aC,j.trans aD,?_⟩;have e:fM t l (i+1)=(fM t l i).set (t.cells.length+i) x:=by
   show(fM t l i).set _ (l.getD i 0)=_;rw[u4,P];rfl
  rw[e];exact aE
 .rintro U k ⟨M,f,j,q⟩;rw[aR,aj];exact⟨λh=>Ω,λ_=>⟨rfl,M,f,j,q⟩⟩
def jb(s:ao)(sc ag cs:Λ):ao:={s with funs:=s.funs++[⟨sc,ag,1,cs⟩]}
def oa(s:ao)(t:ay)(cs:Λ):ay:=(mU t (1::cs)).set 1 ((s.funs.length+1:Nat):Int)
def NG{s:ao}{t:ay}{sc:Λ}(h:t.bV=s.cells):(oa s t cs).bV=(jb s sc ag cs).cells:=by
 unfold oa jb;rw[ay.qe,C5,h,<-Ny];rfl
def NH{bf:Nat}{bg aQ bh:x3}{A R:af}{n:aK}{s:ao}{t:ay}{aM:x3}{sc:Λ}{g bQ:Nat}{W:x3}(h:eQ w ab ad bf bg aQ bh A R n s t)(cj:t.bV=s.cells)(ck:aG .i64 w aM sc)(dr:∀r,leads aM r->¬A r)(bi:dd w g bQ W ag k cs)(bS:¬A g/\¬A bQ/\∀r,leads W r->¬A r)(ds:sc.length<=1000)(aX:t.cells.length+cs.length+1<=100000000)(bj:t.olds.length+cs.length+1<=100000000)(hm:t.marks.length<=100000000)(dt:s.funs.length<=1000000):
  ai x8 Ha [Γ ab,aM,Γ g] w λv w'=>v=Δ (s.funs.length:Int)/\ae (eA w) w w'/\∃aI R' bx,Grow A w aI w'/\eQ w' ab ad bf bg bx bh aI R' n (jb s sc ag cs) (oa s t cs)/\(∀r,R r->R' r)/\∀r,R' r->R r\/leads W r\/w.heap.size<=r:=by
 have du:t.cells.length=s.cells.length:=by rw[<-cj];simp[ay.bV]
 have dv:=wA s;have cl:ff (jb s sc ag cs) s.funs.length=t.cells.length:=by
  unfold ff jb;simp only[List.take_left];omega
 have cm:∀j,j<s.funs.length->ff (jb s sc ag cs) j=ff s j:=λj bz=>by
  unfold ff jb;simp only[List.take_append_of_le_length (show j<=s.funs.length by omega)]
 have cn:iC (jb s sc ag cs)=iC s:=rfl;refine az func133 ?_;refine dh (λJ=>ae (eA w) w J/\∃aI R' bx,Grow A w aI J/\eQ J ab ad bf bg bx bh aI R' n (jb s sc ag cs) (mU t (1::cs))/\(∀r,R r->R' r)/\∀r,R' r->R r\/leads W r\/w.heap.size<=r) ?_ ?_
 .rintro J ⟨cp,dw,cq,cr,ct,cw,cz,cA⟩;intro U bA _ _;have bT:=cw.ext bA;obtain⟨_,a1,bB,ge,L,E,_,w0,ap,_,_,_,⟨a7,bk⟩,_⟩:=id bT;have bl:L.length=s.funs.length+1:=by rw[bk.1];simp[jb]
  rw[aP cu.p 1 ap rfl,aP cu.p 3 ap rfl,e4 fm.u a7];obtain⟨bU,cB,cC⟩:=bT.wH;have cD:=wF t (1::cs) (1::cs).length;have cE:=wG t (1::cs) (1::cs).length;have cF:=qU t (1::cs) (1::cs).length;simp only[Z2]at cD cE;refine(tk (i:=1) (y:=1) cB rfl (by show 1<(fM _ _ _).cells.length;simp only[Z2];omega) ⟨by show(fM _ _ _).cells.length<=_;simp only[Z2];omega,by show(fM _ _ _).olds.length<=_;simp only[Z2];omega,by show(fM _ _ _).marks.length<=_;rw[cF];exact hm⟩).mono ?_;rintro _ cG _ ⟨rfl,cH,cI,cJ⟩;obtain⟨cK,cL,cM,bW⟩:=cC cH cG _ cI cJ;obtain⟨_,a1,bB,ge,cN,E,_,w0,ap,_,_,_,⟨a7,cO⟩,_⟩:=id bW;have dx:cN.length=s.funs.length+1:=by rw[cO.1];simp[jb]
  rw[aP cu.p 3 ap rfl,e4 fm.u a7,ed,wrap_i64 Ω Ω];refine⟨by congr 1;omega,tr cp (iD bA cK),cL,cq,cr,ct.trans ((Grow.ext bA).trans cM),?_,cz,cA⟩;have e:oa s t cs=(mU t (1::cs)).set 1 (L.length:Int):=by unfold oa;rw[bl]
  rw[e];exact bW
 intro ax cP;intro aJ aR _ _;have bX:=h.ext aR;obtain⟨_,a1,bB,ge,L,E,_,w0,ap,_⟩:=id bX;rw[aP cu.p 3 ap rfl];have z4:=aR.size;have bm:∀{G:x4}{aj X:x3}{aY ak:Nat},Ext aJ G->w.heap.size<=aY->w.heap.size<=ak->au .i64 ah G aY aj sc->au .i64 am G ak X (1::cs)->(∀r,leads aj r\/leads X r->¬A r)->
   ai x8 zc [Γ ab,X] G λcR av=>
    (Ext aJ av\/bZ x8 (u5 fm (.pointer (σ ⟨ab,0+3,ν⟩))) aQ av/\bZ x8 (u6 cu (Γ ab) 3) (.pointer (σ ⟨ab,0+3,ν⟩)) av/\bZ x8 (bP (Γ ab)) (Γ ab) av/\True)/\
    V x8 (Instr.build dS #[(0,aj),(1,.agg #[W]),(2,cR)]) av λt22=>
    aB x8 (Y8 fm 1 #[(0,t22)]) av λcS aw=>
     (Ext aJ aw\/bZ x8 (u5 fm (.pointer (σ ⟨ab,0+3,ν⟩))) aQ aw/\bZ x8 (u6 cu (Γ ab) 3) (.pointer (σ ⟨ab,0+3,ν⟩)) aw/\bZ x8 (bP (Γ ab)) (Γ ab) aw/\True)/\
    aB x8 (Z3 #[fm,fm] fm #[aQ,cS]) aw λcT bn=>
     V x8 (bP (Γ ab)) bn λt25=>
     V x8 (u6 cu t25 3) bn λcU=>
     aB x8 (o9 fm cU cT) bn λ(_:Unit)aT=>
      ax aT:=by
  intro G aj X aY ak H b0 Y M O bC;have cV:=bX.ext H;refine(C7 cV O.ls (λr B=>bC r (.inr B)) (by simp only[Z2];omega) (by simp only[Z2];omega) hm).mono ?_;rintro _ av _ ⟨rfl,cW,a8,aZ,cX⟩;obtain⟨⟨b1,b2,cY,b3⟩,a1,bB,ge,L,E,bU,w0,ap,⟨cZ,c0,b4⟩,⟨c1,b5,b6,aL⟩,bD,⟨a7,bk⟩,bE,c2⟩:=id cX;have aF:au .i64 ah av aY aj sc:=br M aZ.1 λr B=>bC r (.inl B);have bo:au .i64 ah G (Classical.choose (show∃gs,au .i64 ah w gs W ag from by obtain⟨⟨_,gs,_,q,_⟩,_⟩:=bi;exact⟨gs,q⟩)) W ag:=((Classical.choose_spec (show∃gs,au .i64 ah w gs W ag from by obtain⟨⟨_,gs,_,q,_⟩,_⟩:=bi;exact⟨gs,q⟩)).ext aR).ext H;have c3:=br bo aZ.1 bS.2.2;refine⟨.inr (tq (off:=3) (z:=3) ap (λK=>by rw[aS cu.p rfl]) Ψ rfl),?_⟩;rw[dq (cs:=#[aj,W,Δ (t.cells.length:Int)]) (by obtain⟨_,_,_,rfl⟩:=c8 M.ls;obtain⟨_,_,_,rfl⟩:=c8 bo.ls;kernel_rfl)];let a:pw:=⟨aj,W,t.cells.length⟩;have c4:∀u∈mh a,u.oneCell'=true:=by
   intro u hu;simp[mh]at hu;rcases hu with rfl|rfl|rfl
   .exact M.ls.cells.2
   .exact bo.ls.cells.2
   .rfl
  refine iy (f:=mh) (a:=a) fm.u dS.i Ω rfl rfl λdy dz aw dA N c5=>?_;refine⟨.inr (tq (off:=3) (z:=3) (ap.ext N) (λK=>by rw[aS cu.p rfl]) Ψ rfl),?_⟩;have ba:=a7.ext N;have bl:L.length=s.funs.length:=bk.1;refine iV (f:=mh) (a:=a) fm.u dS.i rfl ba (by simpa using c5.sl) c4 Ω Ω λb7 c6 bn bb c7 b8=>?_;have bc:=ap.ext N;have b9:=bc.aa b8 λhe=>cQ ba bc Φ he;rw[bY,aS cu.p rfl];refine bp fm.i (eP bb.sl).1 (eP bb.sl).2 b9 Ξ λaT bF dC bG=>?_;have bG:ac aT ab cu [Γ bf,Γ ad,bg,b7,bh]:=bG;have aA:ae (λr=>leadsTo aQ r\/r=ab) aw aT:=(b8.mono λr _ h=>.inl h).trans (bF.mono λr _ h=>.inr h);have z9:=H.size;have dD:=aZ.1.size;have dE:=N.size;have dF:=aA.size;have bH:∀r,(leadsTo aQ r\/r=ab)->a8 r:=λr B=>B.elim (λB=>(aL r (.inr (.inl B))).1) λB=>B▸b1;have bI:∀r,(leadsTo aQ r\/r=ab)->¬R r:=λr B=>b2 r (bH r B);have c9:ae (eA w) w aT:=tr (iD (aR.trans H) cW) (iD N (aA.mono λr _ B=>by
   rcases B with B|rfl
   .obtain⟨_,c,aX⟩:=en ba B;exact .inl ⟨_,c,‹r=_› ▸aX,Φ⟩
   .exact .inl ⟨_,_,bc,Φ⟩))
  let da:af:=λr=>a8 r\/(aw.heap.size<=r/\r<aT.heap.size);let bJ:af:=λr=>R r\/(leads W r/\r<av.heap.size)\/(leads aj r/\r<av.heap.size);have dG:∀r,r<w.heap.size->a8 r->A r:=λr B h=>(aZ.2.1 r h).elim id λh=>Ω
  have bK:∀r,leads aj r->w.heap.size<=r/\r<G.heap.size:=λr B=>by obtain⟨h1,a2⟩:=bR M B;omega
  have ca:∀r,leads W r->r<G.heap.size:=λr B=>by obtain⟨h1,a2⟩:=bR bo B;omega
  have bq:∀r,leads aj r\/leads W r->¬a8 r:=λr B db=>by
   rcases aZ.2.1 r db with h|h
   .rcases B with B|B
    .exact bC r (.inl B) h
    .exact bS.2.2 r B h
   .rcases B with B|B
    .have:=bK r B;omega
    .have:=ca r B;omega
  refine cP _ ⟨c9,da,bJ,b7,(Grow.ext (aR.trans H)).trans (aZ.trans ((Grow.ext N).trans ⟨aA.mono λr _ B=>bH r B,λr B=>B.imp id And.left,λr B=>.inl B⟩)),?_,λr B=>.inl B,λr B=>?_⟩
  rotate_left
  .rcases B with B|B|B
   .exact .inl B
   .exact .inr (.inl B.1)
   .exact .inr (.inr (bK r B.1).1)
  have cb:∀{v:x3}{bd:Nat}{l:Λ},au .i64 ah aw bd v l->(∀r,leads v r->¬a8 r)->au .i64 ah aT bd v l:=λhm dc=>br hm aA λr B I=>dc r B (bH r I);have cc:∀r,bJ r->r<aw.heap.size:=λr B=>by
   rcases B with B|B|B
   .have:=cY r B;omega
   .omega
   .omega
  refine⟨⟨.inl b1,λr B aN=>?_,λr B=>by have:=cc r B;omega,λr B=>B.elim (λB=>by have:=b3 r B;omega) And.right⟩,a1,c6,ge,L++[a],E,bU,w0,bG,⟨cZ,tn (c0.trans N) aA λr o B bj I=>bI r I (b4 r o B bj),λr o B bj=>.inl (b4 r o B bj)⟩,⟨(c1.ext N).aa aA λr B I=>?_,λr B=>.inl (b5 r B),b6,λr B=>?_⟩,?_,⟨bb.aa bF λr B he=>?_,?_⟩,(bE.ext N).aa aA λr B I=>?_,?_⟩
  .have:=cc r aN;rcases B with B|B
   .rcases aN with aN|aN|aN
    .exact b2 r B aN
    .exact bq r (.inr aN.1) B
    .exact bq r (.inl aN.1) B
   .omega
  .rcases I with I|rfl
   .exact (aL r (.inr (.inl I))).2 B
   .exact b6 B
  .rcases B with B|B|B
   .exact⟨.inl (aL r (.inl B)).1,(aL r (.inl B)).2⟩
   .obtain⟨h1,a2⟩:=bb.leads B;rcases c7 r B with h|h
    .exact⟨.inl (aL r (.inr (.inl h))).1,(aL r (.inr (.inl h))).2⟩
    .refine⟨.inr ⟨h,by have:=bF.size;omega⟩,λde=>?_⟩;have:=b3 r (b5 r de);omega
   .exact⟨.inl (aL r (.inr (.inr B))).1,(aL r (.inr (.inr B))).2⟩
  .rw[cn];exact br (bD.ext N) aA λr B I=>by
    rcases I with I|rfl
    .obtain⟨rfl,c,aX⟩:=en ba I;exact ch (bD.ext N) aX Φ B rfl
    .exact ch (bD.ext N) bc Φ B rfl
  .have he:r=ab:=he;subst he;exact cQ bb b9 Φ B
  .refine⟨by rw[o4,bl];simp[jb],λj x f bt aU=>?_⟩;have aU:(s.funs++[⟨sc,ag,1,cs⟩])[j]?=σ f:=aU;by_cases bz:j<s.funs.length
   .rw[Y3 Ω]at bt;rw[Y3 bz]at aU;obtain⟨df,dg,di⟩:=((((lp.aa bk (N.aa λ_=>False) λ_ _ _ h=>h).aa aA λr _ B I=>bI r I B).mono (R':=bJ) λr B=>.inl B)).2 j x f bt aU;exact⟨df,dg,by rw[cm j bz];exact di⟩
   .have bL:j=s.funs.length:=by have:=(x5.1 aU).1;simp at this;omega
    rw[Y5 Ω,bl,bL,T2]at bt;rw[Y5 Ω,bL,T2]at aU;cases bt;cases aU;refine⟨⟨⟨_,cb (aF.ext N) λr B=>bq r (.inl B)⟩,λr B=>.inr (.inr ⟨B,?_⟩)⟩,⟨⟨_,cb (c3.ext N) λr B=>bq r (.inr B)⟩,λr B=>.inr (.inl ⟨B,?_⟩)⟩,?_⟩
    .have:=bK r B;omega
    .have:=ca r B;omega
    .rw[bL,cl]
  .rcases I with I|rfl
   .obtain⟨rfl,c,aX⟩:=en ba I;exact cQ (bE.ext N) aX Φ B
   .exact cQ (bE.ext N) bc Φ B
  .exact ((mi.aa c2 (N.aa λ_=>False) λ_ _ _ h=>h).aa aA λr _ B I=>bI r I B).mono λr B=>.inl B
 have a6:=bi.ext aR;have cd:=ck.ext aR;have dj:∀r,A r->r<w.heap.size:=h.1.2.2.2;obtain⟨_,⟨_,_,dH⟩,dI,dJ⟩:=id bi;have dK:cs.length<=4096:=Ω
 have bu:∀{aC:x4}{aV aW:x3}{Z:Nat}{K:x3->x4->Prop},Ext aJ aC->aJ.heap.size<=Z->au .i64 am aC Z aV [1]->aG .i64 aC aW cs->
   (∀X ak G,Ext aJ G->ae (λr=>r=Z) aC G->w.heap.size<=ak->au .i64 am G ak X (1::cs)->(Ext aJ G->K X G))->aB x8 (Z3 #[aq,aq] aq #[aV,aW]) aC K:=by
  intro aC aV aW Z K C bw aD aH dk;refine jo aq.u am.i rfl aD aH Θ Θ λX ak G Y O aE=>?_;have H:Ext aJ G:=C.put aE Ω;have dl:=C.size;exact dk X ak G H aE Ω O H
 have aO:∀{v:x3}{bd:Nat}{dm:n9}{e:r9}{dn:x4}{l:Λ},au dm e dn bd v l->w.heap.size<=bd->∀r,leads v r->¬A r:=λhm dL r B dp=>by
  obtain⟨h1,_⟩:=bR hm B;have:=dj r dp;omega
 refine⟨?_,?_⟩
 .refine (k6 cd Ω).mono ?_;rintro aj ce _ ⟨P,aY,b0,M⟩;have z5:=P.size;refine⟨.inl P,?_,?_⟩
  .refine (ph (a6.ext P)).mono ?_;rintro _ cg _ ⟨rfl,Q⟩;have al:=P.trans Q;have dM:=al.size;have dN:=Q.size;have ci:=(a6.ext P).ext Q;refine⟨.inl al,?_,?_⟩
   .refine et aq.u am.i rfl λaV Z aC bw C aD=>?_;refine⟨.inl (al.trans C),?_⟩;refine(mO (ci.ext C)).mono ?_;rintro aW bM _ ⟨S,bN,bO,aH⟩;have an:=(al.trans C).trans S;refine⟨.inl an,?_⟩;refine bu an Ω (aD.ext S) aH.ls λX ak G H aE Y O _=>⟨.inl H,?_⟩;have aF:=br (((M.ext Q).ext C).ext S) aE λr B he=>by have he:r=Z:=he;obtain⟨h1,a2⟩:=bR M B;omega
    exact bm H Ω Y aF O λr B=>B.elim (aO M Ω r) (aO O Y r)
   .refine (mO ci).mono ?_;rintro aW aC _ ⟨C,bN,bO,aH⟩;refine⟨.inl (al.trans C),?_⟩;have dl:=C.size;refine et aq.u am.i rfl λaV Z bM bw S aD=>?_;have an:=(al.trans C).trans S;refine⟨.inl an,?_⟩;refine bu an Ω aD (aH.ls.ext S) λX ak G H aE Y O _=>⟨.inl H,?_⟩;have aF:=br (((M.ext Q).ext C).ext S) aE λr B he=>by have he:r=Z:=he;obtain⟨h1,a2⟩:=bR M B;omega
    exact bm H Ω Y aF O λr B=>B.elim (aO M Ω r) (aO O Y r)
  .refine et aq.u am.i rfl λaV Z cg bw Q aD=>?_;have al:=P.trans Q;refine⟨.inl al,?_⟩;refine(ph ((a6.ext P).ext Q)).mono ?_;rintro _ aC _ ⟨rfl,C⟩;have be:=al.trans C;refine⟨.inl be,?_⟩;refine(mO (((a6.ext P).ext Q).ext C)).mono ?_;rintro aW bM _ ⟨S,bN,bO,aH⟩;have an:=be.trans S;refine⟨.inl an,?_⟩;refine bu an Ω ((aD.ext C).ext S) aH.ls λX ak G H aE Y O _=>⟨.inl H,?_⟩;have aF:=br (((M.ext Q).ext C).ext S) aE λr B he=>by have he:r=Z:=he;obtain⟨h1,a2⟩:=bR M B;omega
   exact bm H Ω Y aF O λr B=>B.elim (aO M Ω r) (aO O Y r)
 .refine et aq.u am.i rfl λaV Z ce bw P aD=>?_;refine⟨.inl P,?_⟩;have z5:=P.size;have dO:Z<ce.heap.size:=s3 aD Ξ;refine(k6 (cd.ext P) Ω).mono ?_;rintro aj cg _ ⟨Q,aY,b0,M⟩;have al:=P.trans Q;refine⟨.inl al,?_⟩;refine(ph ((a6.ext P).ext Q)).mono ?_;rintro _ aC _ ⟨rfl,C⟩;have be:=al.trans C;refine⟨.inl be,?_⟩;refine(mO (((a6.ext P).ext Q).ext C)).mono ?_;rintro aW bM _ ⟨S,bN,bO,aH⟩;have an:=be.trans S;refine⟨.inl an,?_⟩;refine bu an Ω (((aD.ext Q).ext C).ext S) aH.ls λX ak G H aE Y O _=>⟨.inl H,?_⟩;have aF:=br ((M.ext C).ext S) aE λr B he=>by have he:r=Z:=he;obtain⟨h1,a2⟩:=bR M B;omega
  exact bm H Ω Y aF O λr B=>B.elim (aO M Ω r) (aO O Y r)
end Go.Proofs.YtikkpokkcdocoaaGreatDoor
