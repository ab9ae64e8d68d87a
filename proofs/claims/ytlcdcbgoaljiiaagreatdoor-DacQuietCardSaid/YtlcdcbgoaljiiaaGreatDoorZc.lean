/- own texts, made small by a tool (wip/ holds them as they were written): no statement of the seat. -/
import Derived.Test.YtlcdcbgoaljiiaaGreatDoorZb
set_option linter.unusedVariables false
set_option linter.unusedSimpArgs false
set_option linter.unnecessarySimpa false
open Array renaming getElem?_eq_some_iff→Z6
open Bool renaming false→ne,true→ms,not_true→Y1,not_false→X4,eq_iff_iff→U1,or_eq_false_iff→T5
open Decidable renaming not_not→X0
open Go renaming Value→x1,World→x4,TypeId→r8,IntKind→o5,Builtin→Z0,Program→W5,FuncId→S9
open Go.Addr renaming add_mid→U6
open Go.Builtin renaming append_→c9,len_→W7
open Go.Instr renaming loadAt→u4,fieldAt→u6,storeAt→o7,indexAt→n9,extract→Z9,buildSlice→Y3,sliceAt→V5,alloc→R4
open Go.IntKind renaming i64→X3
open Go.Proofs.Tryz renaming prog→x7
open Go.Value renaming int→V6
open Int renaming toNat_natCast→u5,le_refl→S8
open List renaming getElem?_eq_some_iff→x5,mem_of_getElem?→x6,getElem?_eq_getElem→x8,getElem?_map→v8,take_add_one→u7,length_map→u9,replicate→r9,getD_eq_getElem?_getD→p8,length_append→o4,take_length→o6,mem_map→o9,take_of_length_le→j4,mem_append→j5,eq_nil_of_length_eq_zero→j6,length_take→j9,map_append→Z2,length_set→Z5,mem_singleton→Z7,getElem?_set_self→Y2,mem_iff_getElem?→Y4,ext_getElem?→Y5,drop_eq_getElem_cons→Y8,getElem?_append_right→X1,range→X2,length_cons→X5,append_assoc→X7,getElem?_set→X8,getElem?_set_ne→W0,getElem?_take_of_lt→W3,length_eq_one_iff→W6,getElem?_eq_none→V0,append_nil→V2,getElem?_append_left→V3,flatMap_cons→U2,pairwise_iff_getElem→U3,map_set→U4,mem_or_eq_of_mem_set→U7,set_append_right→U9,mem_filter→T6,getElem_mem→T9,length_singleton→S1,Perm→S2,mem_of_mem_take→S4
open Nat renaming le_refl→p9,le_trans→Y7,mul_le_mul_right→X6,zero_le→X9,zero_add→V7,sub_self→V8,mul_one→T1,add_mul→T4
open Option renaming toList_some→o8,isNone_some→l9,map_eq_some_iff→Y0,map_some→Y9,map→V9
open Option.some renaming inj→Z4,injEq→W9
open Prod.mk renaming injEq→R5
set_option maxHeartbeats 16000000
open Option renaming some→σ,none→ν
variable{bD bv sv v z:x1}{am l d6 t:Λ}{I w w0:x4}{k y:Int}{cs:List x1}{B N a af ag j n r:Nat}{K:x1->Prop}{S:Nat->Prop}{e:r8}
namespace Go.Proofs.YtlcdcbgoaljiiaaGreatDoor
open Go Go.Vc Go.RowKit Go.Proofs Go.Proofs.Tryz
set_option maxRecDepth 100000
theorem vj(h:aQ .i64 w sv l)(H:l.length<=1000000):aq x7 Bo [sv] w λv I=>Ext w I/\∃g,w.heap.size<=g/\aH .i64 al I g v l:=by
 refine aF func114 ?_;rw[a7 aC.u h];refine lk (k:=.i64) av.u al.i Ω Ω λg U J j q=>?_;have z:aH .i64 al U g (.slice (σ ⟨g,0,ν⟩) l.length l.length) (r9 l.length 0):=by
  have:=b7.full (k:=1) (n:=l.length) q Ξ (by simp[maxLen];omega);exact aH.of this
 rw[a7 aC.u (h.W j)];have K:=q.lt;refine b6.range l.length (λi ab=>aj (λr=>r=g) U ab/\aH .i64 al ab g (.slice (σ ⟨g,0,ν⟩) l.length l.length) (l.take i++r9 (l.length-i) 0)) h.le ⟨aj.refl _ _,by simpa using z⟩ ?_ ?_
 rotate_left
 .rintro ab A ⟨f,a⟩;rw[aW,ao];rw[o6,V8,List.replicate_zero,V2]at a;exact⟨λh=>Ω,λ_=>⟨j.put f Ω,g,Ω,a⟩⟩
 rintro i ab A hi ⟨f,a⟩ B;obtain⟨x,s⟩:=aK (l:=l) hi;have C:Ext w ab:=j.put f Ω;refine bM Ω ?_;rw[bm aC.u ax.i Ψ (h.W C) s];rw[jV rfl av.u al.i a Θ];refine jW al.i a Θ λL E M y=>?_;rw[aR];refine B _ ⟨f.F E,?_⟩;have e:(l.take i++r9 (l.length-i) 0).set i x=l.take (i+1)++r9 (l.length-(i+1)) 0:=by
  have G:(l.take i).length=i:=by rw[j9];omega
  rw[U9 _ _ Ω,G,V8,show l.length-i=(l.length-(i+1))+1 by omega,List.replicate_succ,List.set_cons_zero,u7,s,o8,X7];rfl
 rw[e]at y;exact y
def Pd(w:x4)(l:Λ)(k o:Int)(v:x1)(I:x4):Prop:=
 Ext w I/\(¬cg l->v= .tuple #[.pointer ν,Δ 1])/\(cg l->¬cA o k->v= .tuple #[.pointer ν,Δ 3])/\
  (cg l->cA o k->∃g m sv gs,v= .tuple #[Γ g,Δ 0]/\w.heap.size<=g/\w.heap.size<=m/\(∀r,hv sv r->w.heap.size<=r)/\gJ I g m sv gs l k o [])
theorem Pe{o:Int}(h:aQ .i64 w sv l):aq x7 qI [sv,Δ k,Δ o] w (Pd w l k o):=by
 refine aF func177 ?_;refine a1 (λv U=>Ext w U/\∃c,v= .bool c/\(c=ms↔¬cg l)) ?_ ?_
 .rintro _ U ⟨e,c,rfl,f⟩;rw[b1];refine⟨λx=>⟨e,λ_=>rfl,λh=>m2 h (f.1 x),λh=>m2 h (f.1 x)⟩,λah=>?_⟩;have V:cg l:=Classical.byContradiction λh=>by have:=f.2 h;rw[ah]at this;cases this
  have G:=V.1;refine ln.Y ?_;rintro _ ab _ ⟨rfl,a⟩;by_cases hi:cA o k
  rotate_left
  .simp only[hi,decide_false,bE,X4,bK];exact⟨e.F a,λh=>m2 V h,λ_ _=>rfl,λ_ h=>m2 h hi⟩
  simp only[hi,decide_true,bE,Y1,a6];refine(mL ((h.W e).W a) Ω).Y ?_;rintro aV H _ ⟨y,A,I,hm⟩;have J:=hm.ls.cells;refine sx λm K L j B=>?_;rw[dk (cs:=#[aV,Δ k,Δ o,.map (σ m)]) (by obtain⟨_,_,_,_,_,rfl,_⟩:=hm.ls;kernel_rfl)];refine bo λg M N q C=>?_;have s1:=e.size;have O:=a.size;have P:=y.size;have Q:=j.size;exact⟨((((e.F a).F y).F j).F q),λh=>m2 V h,λ_ h=>m2 hi h,λ_ _=>⟨g,m,aV,A,rfl,Ω,Ω,λr E=>by have:=(b5 hm E).1;omega,C,(hm.W j).W q,B.W q,V,hi,λp ae=>by cases ae⟩⟩
 .intro aA z;rw[a7 av.u h];simp only[bU,ao];refine⟨λR=>z _ _ ⟨Ext.refl _,ms,rfl,λ_ V=>by have:=V.1;omega,λ_=>rfl⟩,λS=>?_⟩;refine(Dr h).Y ?_;rintro _ ab _ ⟨rfl,a⟩;refine z _ _ ⟨a,_,rfl,?_⟩;rw[m6];exact⟨λs V=>s V.2,λs V=>s ⟨Ω,V⟩⟩
structure El where
 am:Λ
 k:Int
 o:Int
 D:Told
instance Wv:ay El where
 n:=1
 rep _ _ R w cs a:=∃g m sv gs,cs=[Γ g]/\gJ w g m sv gs a.am a.k a.o a.D/\R g/\R m/\∀r,hv sv r->R r
 len:=by rintro _ _ _ _ _ _ ⟨_,_,_,_,rfl,_⟩;rfl
 one:=by rintro _ _ _ _ _ _ ⟨_,_,_,_,rfl,_⟩ u hu;simp at hu;subst hu;rfl
 aa:=by
  rintro _ _ R T w I _ a ⟨g,m,sv,gs,rfl,h1,f,h,j⟩ J q;obtain⟨s,x,y⟩:=h1.su;exact⟨g,m,sv,gs,rfl,h1.aa J (q g s (.inr f)) (q m x (.inr h)) λr e=>q r (y r e) (.inr (j r e)),f,h,j⟩
 Y:=by
  rintro _ _ _ R R' w _ a ⟨g,m,sv,gs,rfl,h1,f,h,j⟩ _ z;obtain⟨s,x,y⟩:=h1.su;exact⟨g,m,sv,gs,rfl,h1,z g s f,z m x h,λr e=>z r (y r e) (j r e)⟩
 kh:=by
  rintro _ _ R w _ a ⟨g,m,sv,gs,rfl,h1,f,h,j⟩;exact⟨g,m,sv,gs,rfl,h1,.inr f,.inr h,λr e=>.inr (j r e)⟩
abbrev iP:Type:=Rd (Λ)×El
def sN(k:Int)(x:cE)(f:iP):Prop:=f.1=x.scope/\f.2.am=x.d6/\f.2.k=k/\f.2.o=min x.other k/\f.2.D.length<=x.lines.length/\∀t,j0 f.2.D f.2.o t=lr x k t
theorem Pf{m:Bool}{S R:ak}{x:cE}(h:ay.rep m S R w cs (jn x)):∃aZ ho cu,cs=[aZ,ho,Δ x.other,cu]/\ay.rep (α:=Λ) ne b3 R w [aZ] x.scope/\ay.rep (α:=Λ) ne b3 R w [ho] x.d6/\ay.rep (α:=List (Λ×Int)) ne b3 R w [cu] x.lines:=by
 obtain⟨j,d1,r,s,rfl,_,_,_,h1,q,d2,z,A,rfl,_,_,_,a,B,d3,C,E,rfl,_,_,_,f,e⟩:=h;have h1:=h1;have a:=a;have f:=f;have e:=e;obtain⟨u,rfl⟩:=W6.1 (show j.length=1 from ay.len h1);obtain⟨v,rfl⟩:=W6.1 (show q.length=1 from ay.len a);obtain⟨y,rfl⟩:=W6.1 (show d3.length=1 from ay.len e);subst f;exact⟨u,v,y,rfl,h1,a,e⟩
theorem Pg{m:Bool}{S R:ak}{p:Λ×Int}(h:ay.rep m S R w cs p):∃aV,cs=[aV,Δ p.2]/\aQ .i64 w aV p.1:=by
 obtain⟨e,d1,f,j,rfl,_,_,_,h1,a⟩:=h;obtain⟨u,rfl⟩:=W6.1 (show e.length=1 from ay.len h1);have a:=a;subst a;exact⟨u,rfl,dy h1⟩
structure vk(k:Int)(x:cE):Prop where
 k:right k
 d6:cg x.d6
 other:0<=x.other
 lines:oI x.d6 x.lines
 len:x.lines.length<=60000
 scope:x.scope.length<=100001
theorem dA{k:o5}(h:aQ k w v l):∃a n c,v= .slice a n c:=by
 obtain⟨_,b,o,base,cap,rfl,_⟩:=h;exact⟨_,_,_,rfl⟩
theorem Ph{aI aJ aM:x1}{K:Int}{R:ak}{x:cE}(ah:ai w af cL [aI,Δ K,aJ,aM])(J:Seen R w cs (jn x))(aE:vk K x):
  aq x7 xa [Γ af,.agg cs.toArray] w λv I=>Ext w I/\∃cj,∃f:iP,v= .agg cj.toArray/\cj.length=2/\Seen (fU w.heap.size) I cj f/\sN K x f:=by
 obtain⟨aZ,ho,cu,rfl,h1,al,O⟩:=Pf J;obtain⟨C,P,bh,am,bi,bj⟩:=aE;have bk:=P.1;refine aF func115 ?_;refine bo λau U bl an j=>?_;have j:ai U au cq [aZ,ho,Δ x.other,cu]:=by
  obtain⟨_,_,_,rfl⟩:=nW h1;obtain⟨_,_,_,rfl⟩:=nW al;obtain⟨_,_,_,rfl⟩:=nW O;exact j
 refine bC cP.i λao ab bm Q E=>?_;have E:=E;intro bn G _ _;have S:=(an.F Q).F G;have V:=Q.F G;have bp:=an.size;have bq:=Q.size;have z3:=G.size;have br:=E.lt;have ap:=ah.W S;rw[aO cq.p 1 (j.W V) rfl,aL cL.p 1 ap rfl,
  aO cq.p 2 (j.W V) rfl,aL cL.p 1 ap rfl,nK]
 refine(vj ((dy al).W S) Ω).Y ?_;rintro bs bt _ ⟨s,bu,bw,aN⟩;refine⟨.inl s,?_⟩;have z4:=s.size;have aP:cA (min x.other K) K:=⟨C,by have:=C.1;omega,Ω⟩;refine(Pe aN.ls).Y ?_;rintro _ aQ _ ⟨H,_,_,aS⟩;obtain⟨ag,m,sv,gs,rfl,bA,bD,av,aT⟩:=aS P aP;rw[bx,bz];have z5:=H.size;have W:=(S.F s).F H;have aw:=(V.F s).F H;rw[aO cq.p 3 (j.W aw) rfl];have ax:=bP O W;rw[jB kk.u ax];refine b6.range x.lines.length (λi L=>aj (λr=>r=m) aQ L/\∃D,D.length<=i/\gJ L ag m sv gs x.d6 K (min x.other K) D/\∀t,j0 D (min x.other K) t=mX x K i t) (uo ax) ⟨aj.refl _ _,[],p9 _,aT,λt=>by rw[Eb];rfl⟩ ?_ ?_
 .rintro i L aU hi ⟨a,D,ay,y,X⟩ aW;obtain⟨p,ae⟩:=aK (l:=x.lines) hi;have az:=am.2 p (x6 ae);have z:=W.put a Ω;have aX:=a.size;have aY:=bP O z;refine bM Ω ?_;refine nQ eF.p rfl kk.u eF.i aY ae λbE a1=>?_;obtain⟨aV,rfl,aA⟩:=Pg a1;refine bC eF.i λbF bG bH aB a2=>?_;have bI:=aB.size;refine b8 (vs:=[aV,Δ p.2]) eF.i rfl rfl (by intro v ac;simp at ac;rcases ac with rfl|rfl<;>first|exact aA.cells.2|rfl) a2 λbJ a6 bK aC=>?_;have a7:=aB.put a6 Ω;intro bL Y _ _;have q:=a7.F Y;have z9:=q.size;rw[aO eF.p 0 (aC.W Y) rfl,aO eF.p 1 (aC.W Y) rfl,aL cL.p 1 ((ah.W z).W q) rfl,nK];have bN:=xY P az.1;refine(vj (aA.W q) Ω).Y ?_;rintro bO bQ _ ⟨A,bR,bS,a8⟩;refine⟨.inl A,?_⟩;have bT:=A.size;refine(Dz ((y.W q).W A).is a8.ls).Y ?_;rintro _ bU _ ⟨_,ba⟩;have bb:cA (min p.2 K) K:=⟨C,by have:=C.1;omega,Ω⟩;obtain⟨rfl,aD,D',aG,aH⟩:=ba ⟨az.1,bb⟩;rw[aR];refine aW _ ⟨(a.F ((q.F A).aa _)).F aD,D',by have:=aG.2;omega,gJ.put ((y.W q).W A) aD aH,λt=>?_⟩;rw[Ed am.1 ae,aG.cost y.is.nodup aH.nodup];by_cases M:t=p.1
  .rw[lw M,lw M]
  .rw[m1 M,m1 M,X]
 .rintro L aU ⟨a,D,ay,y,X⟩;have z:=W.put a Ω;have bc:=aw.put a Ω;have aX:=a.size;refine cc Ω ?_;rw[aO cq.p 0 (j.W bc) rfl];refine(vj ((dy h1).W z) Ω).Y ?_;rintro Z bV _ ⟨N,bW,bX,B⟩;have z12:=N.size;rw[dk (cs:=#[Z,Γ ag]) (by obtain⟨_,_,_,rfl⟩:=dA B.ls;kernel_rfl)];have bd:=((G.F s).F H).put a Ω;refine b8 (vs:=[Z,Γ ag]) cP.i rfl rfl (by intro v ac;simp at ac;rcases ac with rfl|rfl<;>first|exact B.ls.cells.2|rfl) ((E.W bd).W N) λbY ad bZ be=>?_;rw[gk cP.p cP.i rfl be.range];have bf:=(y.W N).aa ad (λhe=>by have he:=he;omega) (λhe=>by have he:=he;omega) (λr e he=>by have he:r=ao:=he;have:=av r e;omega);have bg:=bB B ad λr e he=>by have he:r=ao:=he;have:=(b5 B e).1;omega
  refine⟨(z.F N).put ad Ω,_,(x.scope,⟨x.d6,K,min x.other K,D⟩),rfl,rfl,?_,rfl,rfl,rfl,rfl,ay,λt=>?_⟩
  .exact⟨[Z],[Γ ag],b3,b3,rfl,λ_ h=>h,λ_ h=>h,λ_ _ h _=>h,sK bg λr e=>by have:=(b5 B e).1;show w.heap.size<=r;omega,
    ⟨ag,m,sv,gs,rfl,bf,by show w.heap.size<=ag;omega,by show w.heap.size<=m;omega,λr e=>by have:=av r e;show w.heap.size<=r;omega⟩⟩
  .rw[X,Ec]
theorem Pj{S R:ak}{f:iP}(h:ay.rep ne S R w cs f):ay.rep (α:=iP) ms b3 R w cs f:=by
 obtain⟨c,d,A,B,rfl,h1,j,_,a,e⟩:=h;exact⟨c,d,b3,b3,rfl,λ_ h=>h,λ_ h=>h,λ_ _ h _=>h,a,e⟩
def vl(k:Int)(a:List cE)(e:List iP):Prop:=e.length=a.length/\∀(i:Nat)x f,a[i]?=σ x->e[i]?=σ f->sN k x f
theorem Pk{e:Nat}{m:Bool}{S R:ak}{V ho ag:x1}{K:Int}{q:List cE}{aD:x4->Prop}(aF:ai w e cL [V,Δ K,ho,.slice ν 0 0])(aV:ay.rep m S R w [ag] (show List j1 from q.map jn))(aX:∀r,S r\/R r->r≠e)(aZ:∀x∈q,vk K x)(bL:q.length<=256)(a1:∀I z,∀s:List iP,aj (λr=>r=e) w I->ai I e cL [V,Δ K,ho,z]->Seen (λr=>w.heap.size<=r) I [z] s->vl K q s->aD I):
  b6 (Δ 0) w λam E a2=>
   ad x7 (aU .lss al ne ne am (Δ (q.length:Int))) E λa6=>
   Split a6 (ad x7 (n9 kL ag am) E λa7=>
   ad x7 (u4 cq a7) E λa8=>
   aM x7 (R4 cq ms (.tuple #[])) E λx ba=>
   aM x7 (o7 cq x a8) ba λ(_:Unit)bb=>
   eP bb λC=>
   ad x7 (b0 (Γ e)) C λG=>
   ad x7 (u6 cL G 3) C λH=>
   ad x7 (u4 dW H) C λan=>
   ad x7 (u4 cq x) C λbc=>
   aq x7 xa [(Γ e),bc] C λbd J=>
    (Ext C J\/cK x7 (u4 dW H) an J/\cK x7 (u6 cL G 3) H J/\cK x7 (b0 (Γ e)) G J/\True)/\
   aM x7 (Y3 dW 1 #[(0,bd)]) J λbe L=>
    (Ext C L\/cK x7 (u4 dW H) an L/\cK x7 (u6 cL G 3) H L/\cK x7 (b0 (Γ e)) G L/\True)/\
    aM x7 (c9 #[dW,dW] dW #[an,be]) L λbf ap=>
     ad x7 (b0 (Γ e)) ap λbg=>
     ad x7 (u6 cL bg 3) ap λbh=>
     aM x7 (o7 dW bh bf) ap λ(_:Unit)aG=>
     ad x7 (aU .add al ne ms am (Δ 1)) aG λbi=>
   a2 bi aG) (aD E):=by
 have bN:=aF.lt;have bO:(q.map jn).length=q.length:=Ξ
 refine b6.range q.length (λi U=>aj (λr=>r=e) w U/\∃z,∃s:List iP,∃A R':ak,ai U e cL [V,Δ K,ho,z]/\bS A R' U [z] s/\(∀r,A r->w.heap.size<=r/\r<U.heap.size)/\(∀r,R' r->w.heap.size<=r/\¬A r/\r<U.heap.size)/\vl K (q.take i) s) Ω
  ⟨aj.refl _ _,_,[],b3,b3,aF,jf,λ_ h=>h.elim,λ_ h=>h.elim,rfl,λi x f h=>by simp at h⟩ ?_ ?_
 rotate_left
 .rintro U bj ⟨M,z,s,A,R',N,aE,B,O,W⟩;rw[o6]at W;rw[aW,ao];refine⟨λh=>Ω,λ_=>a1 U z s M N (r3 aE λr _ h=>?_) W⟩;exact h.elim (λh=>(B r h).1) λh=>(O r h).1
 rintro i U bj hi ⟨M,z,s,A,R',N,aE,B,O,aH,W⟩ bk;obtain⟨x,av⟩:=aK (l:=q) hi;have bl:=aZ x (x6 av);have bQ:=M.size;rw[j9]at aH;have bm:ay.rep m S R U [ag] (show List j1 from q.map jn):=ay.aa aV M λr _ h he=>aX r h he;refine bM Ω ?_;refine nQ (α:=j1) (a:=jn x) cq.p rfl kL.u cq.i bm (by show(q.map jn)[i]?=_;rw[v8,av];rfl) λcs aw=>?_;have aI:cs.length=4:=ay.len aw;have bn:Seen (λr=>S r\/R r) U cs (jn x):=r3 aw λr _ h=>h;refine bC cq.i λau ab bT aJ bo=>?_;have bU:=aJ.size;refine b8 (vs:=cs) cq.i aI rfl (ay.one aw) bo λbp bq bV br=>?_;have bt:Ext U bp:=aJ.put bq Ω;intro X aN _ _;have P:=bt.F aN;have z4:=P.size;rw[aL cL.p 3 (N.W P) rfl,bF cq.p cq.i aI (br.W aN).range];refine(Ph (N.W P) (bP bn P) bl).Y ?_;rintro _ Y _ ⟨Z,cj,f,rfl,bW,ah,bu⟩;have z5:=Z.size;refine⟨.inl Z,?_⟩;have aO:=Pj ah;have bw:=P.F Z;refine lZ (α:=iP) (a:=f) (cs:=cj) (A:=b3) (R:=fU X.heap.size) dW.u cP.i Φ (by
  obtain⟨c,d,bY,bZ,he,_,_,_,ac,bx⟩:=ah;have ac:ay.rep (α:=Λ) ne b3 _ Y c f.1:=ac;obtain⟨u,rfl⟩:=W6.1 (show c.length=1 from ay.len ac);obtain⟨b1,bX,b2,b4,rfl,_⟩:=bx;obtain⟨_,_,_,rfl⟩:=nW ac;cases he;rfl) aO λu ax ae _ hu=>?_
 have b5:=ae.size;refine⟨.inl (Z.F ae),?_⟩;have az:=bw.F ae;have bz:bS A (λr=>R' r\/(X.heap.size<=r/\r<Y.heap.size)) ax [z] s:=bP (ay.Y aE (λ_ _ h=>h) λ_ _ h=>.inl h) az;have bA:bS b3 (λr=>R' r\/(X.heap.size<=r/\r<Y.heap.size)) ax cj f:=bP (ay.Y aO (λ_ _ h=>h) λr y h=>.inr ⟨h,y⟩) ae;refine pI (α:=iP) (a:=f) (A:=b3) dW.u cP.i rfl bz hu bA (λr _ aP h=>?_) Ω Ω λaQ bB aA aB=>?_
 .rcases h with h|h|h
  .exact h
  .exact (O r h).2.1 aP
  .have:=(B r aP).2;omega
 have b7:=aB.size;rw[bR,aY cL.p rfl];have bD:=(N.W az).aa aB (λhe=>by have:=(B _ he).1;omega);refine bs (g:=e) (o:=3) dW.i (r4 aA) (jS aA) bD Ξ λbE aS b9 aC=>?_;have aC:ai bE e cL [V,Δ K,ho,aQ]:=aC;rw[aR];have bG:=oB aA;refine bk _ ⟨(ji (M.F (az.aa _)) aB λr y he=>by have:=(B _ he).1;omega).F aS,aQ,s++[f],λr=>((A r\/b3 r\/ax.heap.size<=r)/\r<bB.heap.size),λr=>R' r\/(X.heap.size<=r/\r<Y.heap.size),aC,ay.aa bG aS λr _ h he=>?_,λr y=>?_,λr y=>?_,?_,λj bH bI af Q=>?_⟩
 .have he:r=e:=he;rcases h with h|h|h
  .rcases h.1 with h1|h1|h1
   .have:=(B _ h1).1;omega
   .exact h1
   .omega
  .have:=(O r h).1;omega
  .omega
 .have ca:=y.2;rcases y.1 with h1|h1|h1
  .have:=(B _ h1).1;omega
  .exact h1.elim
  .omega
 .rcases y with y|y
  .have aT:=O r y;refine⟨aT.1,λh=>?_,Ω⟩;rcases h.1 with h1|h1|h1
   .exact aT.2.1 h1
   .exact h1
   .omega
  .refine⟨Ω,λh=>?_,Ω⟩;rcases h.1 with h1|h1|h1
   .have:=(B _ h1).2;omega
   .exact h1
   .omega
 .rw[o4,j9,aH];simp;omega
 .have bJ:=(x5.1 Q).1;rw[o4,S1]at bJ;rw[W3 Ω]at af;by_cases bK:j<s.length
  .rw[V3 bK]at Q;exact W j bH bI (by rw[W3 Ω];exact af) Q
  .rw[X1 Ω,show j-s.length=0 by omega]at Q;rw[show j=i by omega,av]at af;cases Q;cases af;exact bu
def mY(w:x4)(h:Nat)(f:cd):Prop:=∃ho a gz,∃e:List iP,ai w h cL [ce f.name,Δ f.k,ho,a]/\aH .i64 al w gz ho f.d6/\Seen e3 w [a] e/\vl f.k f.d8 e
theorem mY.W{f:cd}(h:mY w a f)(J:Ext w I):mY I a f:=by
 obtain⟨ho,e,gz,j,h1,q,r,s⟩:=h;exact⟨ho,e,gz,j,h1.W J,q.W J,bP r J,s⟩
def Em(w:x4)(h:Option cd)(v:x1)(I:x4):Prop:=Ext w I/\match h with
 |none=>∃n e:Int,v= .tuple #[.pointer ν,Δ n,Δ e]/\e≠0
 |some f=>∃a,∃n:Int,v= .tuple #[Γ a,Δ n,Δ 0]/\mY I a f
structure Pl(clean:Bool)(so:Option aN)(name:Λ)(k:Int)(d6:Λ)(acc:List j1)(res:Option cd):Prop where
 q8:∀s,so=σ s->s.d9=[]->clean=ms->s.big=ne->∃fs,acc=fs.map jn/\res=σ ⟨name,k,d6,fs⟩/\(∀x∈fs,vk k x)/\fs.length<=256/\d6.length<=1000000
 bad:res≠ν->∃s,so=σ s/\s.d9=[]/\clean=ms/\s.big=ne
theorem Pm{g gs:Nat}{A B S R:ak}{m N:Bool}{so:Option aN}{name:Λ}{acc:List j1}{L:Option cd}{ho aF p:x1}{pl:Λ}{Q:x1->x4->Prop}(aG:jm w g gs A B N so)(P:Pl N so name k d6 acc L)(bp:aQ .i64 w ho d6)(bq:∀r,hv ho r->r≠g/\r≠gs)(br:ay.rep m S R w [aF] acc)(a8:∀r,S r\/R r->r≠g/\r≠gs/\r<w.heap.size)(cY:so=ν->True)(c0:g<w.heap.size)(c1:gs<w.heap.size)(bs:aj (λr=>w0.heap.size<=r) w0 w)(c2:w0.heap.size<=g)(c3:w0.heap.size<=gs)(ae:aQ .u8 w0 p pl)(Z:∀v I,Em w0 L v I->Q v I):
  cC (α:=x4->Prop) (λ(j:x4)=>
  ad x7 (b0 (Γ g)) j λbt=>
  ad x7 (u6 cH bt 1) j λbu=>
  ad x7 (u6 fo bu 0) j λbw=>
  ad x7 (u4 ld bw) j λbx=>
  ad x7 (aU .neq ld ne ms bx (Δ 0)) j λbz=>
  Split bz (eP j λG=>
   ad x7 (b0 (Γ g)) G λbA=>
   ad x7 (u6 cH bA 1) G λbB=>
   ad x7 (u6 fo bB 2) G λbC=>
   ad x7 (u4 al bC) G λbD=>
   ad x7 (b0 (Γ g)) G λbE=>
   ad x7 (u6 cH bE 1) G λbF=>
   ad x7 (u6 fo bF 0) G λbH=>
   ad x7 (u4 ld bH) G λbI=>
   Q (.tuple #[(.pointer ν),bD,bI]) G)
   (ad x7 (b0 (Γ g)) j λbJ=>
   ad x7 (u6 cH bJ 1) j λbL=>
   ad x7 (u6 fo bL 1) j λbM=>
   ad x7 (u4 ld bM) j λbN=>
   ad x7 (aU .neq ld ne ms bN (Δ 0)) j λbO=>
   Split bO (eP j λH=>
   ad x7 (b0 (Γ g)) H λbQ=>
   ad x7 (u6 cH bQ 1) H λbS=>
   ad x7 (u6 fo bS 3) H λbT=>
   ad x7 (u4 al bT) H λbU=>
   ad x7 (b0 (Γ g)) H λbV=>
   ad x7 (u6 cH bV 1) H λbW=>
   ad x7 (u6 fo bW 1) H λbX=>
   ad x7 (u4 ld bX) H λbY=>
   Q (.tuple #[(.pointer ν),bU,bY]) H)
   (aq x7 Bo [ho] j λbZ ba=>
  ad x7 (Instr.build cL #[(0,ce name),(1,Δ k),(2,bZ)]) ba λb1=>
  aM x7 (Instr.box cL b1) ba λV bb=>
  ad x7 (W7 #[kL] al #[aF]) bb λb2=>
  b6 (Δ 0) bb λaH W b3=>
   ad x7 (aU .lss al ne ne aH b2) W λb4=>
   Split b4 (ad x7 (n9 kL aF aH) W λb5=>
   ad x7 (u4 cq b5) W λb7=>
   aM x7 (R4 cq ms (.tuple #[])) W λx b8=>
   aM x7 (o7 cq x b7) b8 λ(_:Unit)b9=>
   eP b9 λO=>
   ad x7 (b0 V) O λaf=>
   ad x7 (u6 cL af 3) O λag=>
   ad x7 (u4 dW ag) O λaI=>
   ad x7 (u4 cq x) O λca=>
   aq x7 xa [V,ca] O λcb ah=>
    (Ext O ah\/cK x7 (u4 dW ag) aI ah/\cK x7 (u6 cL af 3) ag ah/\cK x7 (b0 V) af ah/\True)/\
   aM x7 (Y3 dW 1 #[(0,cb)]) ah λcc am=>
    (Ext O am\/cK x7 (u4 dW ag) aI am/\cK x7 (u6 cL af 3) ag am/\cK x7 (b0 V) af am/\True)/\
    aM x7 (c9 #[dW,dW] dW #[aI,cc]) am λcf aJ=>
     ad x7 (b0 V) aJ λcg=>
     ad x7 (u6 cL cg 3) aJ λch=>
     aM x7 (o7 dW ch cf) aJ λ(_:Unit)bc=>
     ad x7 (aU .add al ne ms aH (Δ 1)) bc λci=>
   b3 ci bc)
    (ad x7 (W7 #[cU] al #[p]) W λcj=>
  Q (.tuple #[V,cj,(Δ 0)]) W)))) λaw=>
 aq x7 mE [(Γ g)] w λck an=>
 Split ck (ad x7 (b0 (Γ g)) an λcl=>
  ad x7 (u6 cH cl 0) an λcm=>
  ad x7 (u4 ui cm) an λcn=>
  aq x7 w9 [cn] an λaK M=>
  ad x7 (Z9 aK 0) M λc4=>
  ad x7 (Z9 aK 1) M λbd=>
  ad x7 (Z9 aK 2) M λaO=>
  ad x7 (aU .eql ld ne ms aO (Δ 0)) M λcp=>
  Split cp (aq x7 pt [(Γ g),(Δ 4),bd] M λc5 cr=>
  aw cr)
  (ad x7 (aU .eql ld ne ms aO (Δ 11)) M λct=>
  Split ct (aq x7 pt [(Γ g),aO,bd] M λc6 cu=>
   aw cu)
   (aw M)))
  (aw an):=by
 refine cZ (λj=>aj (λr=>r=g\/r=gs) w j/\∃(e big J K li:Int)(sv:x1),ai j g cH (jF gs e big J K li sv)/\((e≠0/\L=ν)\/(e=0/\∃s,so=σ s/\s.d9=[]/\N=ms/\(s.big=ms↔big≠0)))) ?_ ?_
 rotate_left
 .intro aA aP;refine(DY aG).Y ?_;rintro _ U _ ⟨rfl,ap⟩;cases so with
  |none=>
   rw[show(ν:Option aN).isSome=ne from rfl,a6];obtain⟨e,big,J,K,li,sv,y,aR⟩:=aG.W ap;refine aP _ ⟨ap.aa _,e,big,J,K,li,sv,y,.inl ⟨aR,?_⟩⟩;cases C:L with
   |none=>rfl
   |some f=>obtain⟨s,h,_⟩:=P.bad (by rw[C];simp);cases h
  |some s=>
   rw[show(σ s:Option aN).isSome=ms from rfl,bK];have cw:=aG.W ap;obtain⟨ax,cz,cA,big,J,K,li,sv,y,aR,cB⟩:=id cw;rw[aL cH.p 0 y rfl];refine(sr cz).Y ?_;rintro v ab _ ⟨X,ac⟩;have cD:(s.d9≠[]\/N=ne)->L=ν:=λq=>by
    cases C:L with
    |none=>rfl
    |some f=>
     obtain⟨s',h,au,be,_⟩:=P.bad (by rw[C];simp);cases h;rcases q with q|q
     .exact m2 au q
     .rw[q]at be;cases be
   have az:∀E,aj (λr=>r=g) ab E->ft E g gs A B->(s.d9≠[]\/N=ne)->aA E:=λE av az q=>by
    obtain⟨_,e,big,J,K,li,sv,l,cE,cF,_⟩:=az;exact aP _ ⟨((ap.aa _).F (X.Y λr _ h=>.inr h)).F (av.Y λr _ h=>.inl h),e,big,J,K,li,sv,cE,.inl ⟨cF.1,cD q⟩⟩
   have aS:=y.aa X ax.1;have bf:=ay.aa cB X λr _ h au=>by
    have au:r=gs:=au;subst au;rcases h with h|h
    .exact ax.2.2.1 h
    .exact h.1 (.inr (.inl rfl))
   have bg:s.lm.length<=100000:=by have:=cA.2.2;omega
   cases Y:s.d9 with
   |cons t l=>
    rw[Y]at ac;obtain⟨c7,n,rfl⟩:=ac;rw[fP,fQ,fR,bl,ao];refine⟨λ_=>?_,λh=>m2 rfl h⟩;refine(uL (ax.aa X) aS bf Ω bg).Y ?_;rintro _ E _ ⟨av,aT⟩;exact az E av aT (.inl (by rw[Y];simp))
   |nil=>
    rw[Y]at ac;obtain⟨n,rfl⟩:=ac;rw[fP,fQ,fR,bl,ao];refine⟨λh=>by cases N<;>simp at h,λ_=>?_⟩;rw[bl,ao];cases aB:N with
    |true=>
     subst aB;refine⟨λh=>by simp at h,λ_=>aP _ ⟨(ap.aa _).F (X.Y λr _ h=>.inr h),0,big,J,K,li,sv,aS,.inr ⟨rfl,s,rfl,Y,rfl,aR.1⟩⟩⟩
    |false=>
     subst aB;refine⟨λ_=>?_,λh=>m2 rfl h⟩;refine(uL (ax.aa X) aS bf Ξ bg).Y ?_;rintro _ E _ ⟨av,aT⟩;exact az E av aT (.inr rfl)
 .rintro U ⟨aC,e,big,J,K,li,sv,y,cG⟩;have c8:=aC.size;have aV:=(bs.W λr C h=>Ω).then aC (λr C h=>by rcases h with h|h<;>omega);rw[bR,aY cH.p rfl,aY fo.p rfl,aD Ψ (y.cell rfl),bG,ao];rcases cG with⟨he,aW⟩|⟨rfl,s,rfl,Y,aB,bh⟩
  .refine⟨λ_=>?_,λh=>m2 he h⟩;intro ab z _ _;rw[bR,aY cH.p rfl,aY fo.p rfl,aD Ψ ((y.W z).cell rfl),bR,aY cH.p rfl,aY fo.p rfl,aD Ψ ((y.W z).cell rfl)];rw[aW]at Z;exact Z _ _ ⟨aV.F z,J,e,rfl,he⟩
  .refine⟨λh=>m2 rfl h,λ_=>?_⟩;rw[bR,aY cH.p rfl,aY fo.p rfl,aD Ψ (y.cell rfl),bG,ao];refine⟨λq=>?_,λq=>?_⟩
   .have aW:L=ν:=by
     cases C:L with
     |none=>rfl
     |some f=>
      obtain⟨s',h,_,_,bi⟩:=P.bad (by rw[C];simp);cases h;rw[bh.2 q]at bi;cases bi
    intro ab z _ _;rw[bR,aY cH.p rfl,aY fo.p rfl,aD Ψ ((y.W z).cell rfl),bR,aY cH.p rfl,aY fo.p rfl,aD Ψ ((y.W z).cell rfl)];rw[aW]at Z;exact Z _ _ ⟨aV.F z,K,big,rfl,q⟩
   .have cI:s.big=ne:=by
     cases cJ:s.big with
     |false=>rfl
     |true=>exact m2 (bh.1 cJ) q
    obtain⟨bj,rfl,rfl,cM,cN,cO⟩:=P.q8 s rfl Y aB cI;have cP:=jC bp aC λr C a n c ac P=>by
     have:=bq r ⟨a,n,c,ac,P⟩;exact C.elim this.1 this.2
    refine(vj cP cO).Y ?_;rintro aX ab _ ⟨z,gz,da,aZ⟩;have db:=z.size;rw[dk (cs:=#[ce name,Δ k,aX,.slice ν 0 0]) (by obtain⟨_,_,_,rfl⟩:=dA aZ.ls;kernel_rfl)];refine bo λa1 E dc a2 aE=>?_;have aE:ai E a1 cL [ce name,Δ k,aX,.slice ν 0 0]:=by obtain⟨_,_,_,rfl⟩:=dA aZ.ls;exact aE
    have bk:=bP (bP (ay.aa br aC λr _ h he=>by have:=a8 r h;exact he.elim this.1 this.2.1) z) a2;have cQ:(bj.map jn).length=bj.length:=Ξ
    rw[jB kL.u bk,cQ];refine Pk aE bk (λr h=>by have:=a8 r h;omega) cM cN λdd cR cS cT cV cW cX=>?_;have de:=aE.lt;have z3:=a2.size;have bm:=a2.then cT (λr C h=>by have h:r=a1:=h;omega);have bn:=(aV.F z).F bm;rw[a7 cU.u (ae.W bn)];exact Z _ _ ⟨bn,a1,_,rfl,aX,cR,gz,cS,cV,aZ.W bm,kO cW,cX⟩
theorem En{α:Type}{f:List α->aN->Option (α×aN)}{acc:List α}{s:aN}:fV f (n+1) acc (σ s)=match f acc s with
  |none=>ν
  |some (a,s')=>fV f n (acc++[a]) (σ s'):=by
 show c6 f (n+1) acc s=_;simp only[c6];cases f acc s<;>rfl
theorem Pn{g gs:Nat}{A B:ak}{s:Option aN}{G:Bool}{most:Int}{Q:x1->x4->Prop}(h:dD w g gs A B G s)(aw:(N:Int)<=aG)(R:∀ho I l so gz,aj (bQ g gs A) w I->dD I g gs A B G so->aH .i64 ax I gz ho l->w.heap.size<=gz->l.length<=100001->(∀q,fV (gY most) N [] s=σ q->so=σ q.2/\l=q.1)->(fV (gY most) N [] s=ν->so=ν)->Q ho I):
 cb (.slice ν 0 0) (Δ 0) w λd6 i H k=>
  cC (α:=x1->x4->Prop) (λ(ay:x1)(S:x4)=>
   Split ay (aq x7 ps [Γ g,(Δ 1),Δ most] S λV y=>
  ad x7 (Z9 V 0) y λW=>
  ad x7 (Z9 V 1) y λaz=>
  ad x7 (aU .gtr ax ne ms W (Δ 32)) y λaB=>
  aq x7 rX [Γ g,aB,az] y λbo aD=>
  aM x7 (Y3 aC 1 #[(0,W)]) aD λaE aF=>
  aM x7 (c9 #[aC,aC] aC #[d6,aE]) aF λaI X=>
  ad x7 (aU .add ax ne ms i (Δ 1)) X λaJ=>
  k aI aJ X) (Q d6 S)) λaA=>
  ad x7 (aU .lss ax ne ne i (Δ (N:Int))) H λaK=>
  Split aK (aq x7 mE [Γ g] H λaL aO=>
  aA aL aO)
   (aA (.bool ne) H):=by
 obtain⟨bp,Y,bq,aP,aQ⟩:=h.side;have ag:∀r,bQ g gs A r->r<w.heap.size:=aP;unfold aG at aw;generalize aS:fV (gY most) N [] s=Z at R;refine⟨λout J U=>∃(i:Nat)(l:Λ)(so:Option aN)(gz:Nat),J=Δ (i:Int)/\i<=N/\aj (bQ g gs A) w U/\aH .i64 ax U gz out l/\w.heap.size<=gz/\dD U g gs A B G so/\Z=fV (gY most) (N-i) l so/\l.length<=100001/\∀st,so=σ st->l.length+st.d9.length<=100000,
  λ_ J _=>N-(bY J).toNat,⟨0,[],s,w.heap.size,rfl,X9 _,aj.refl _ _,aH.nil _ _ _ _,p9 _,h,aS.symm,Ξ,λst aT=>?_⟩,?_⟩
 .subst aT;have:=h.words;simpa using this
 rintro out _ U ⟨i,l,so,gz,rfl,bs,K,ac,aV,ae,C,aX,af⟩;refine a1 (λv ah=>Ext U ah/\((v= .bool ms/\i<N/\∃st,so=σ st)\/(v= .bool ne/\(so=ν\/i=N)))) ?_ ?_
 rotate_left
 .intro aA L;rw[aW,ao];refine⟨λaY=>?_,λbt=>L _ _ ⟨Ext.refl _,.inr ⟨rfl,.inr Ω⟩⟩⟩;refine(ra ae).Y ?_;rintro _ ah _ ⟨rfl,ai⟩;cases so with
  |none=>exact L _ _ ⟨ai,.inr ⟨rfl,.inl rfl⟩⟩
  |some st=>exact L _ _ ⟨ai,.inl ⟨rfl,Ω,st,rfl⟩⟩
 rintro _ ab ⟨x,aZ⟩;have al:=ac.W x;have am:=ae.W x;rcases aZ with⟨rfl,aY,st,rfl⟩|⟨rfl,a2⟩
 rotate_left
 .rw[a6];have an:Z=so.map λst=>(l,st):=by
   rcases a2 with rfl|rfl
   .exact C
   .rw[V8]at C;rw[C];cases so<;>rfl
  refine R out ab l so gz (K.F (x.aa _)) am al aV aX (λq f=>?_) λap=>?_
  .rw[an]at f;cases so with
   |none=>cases f
   |some st=>cases f;exact⟨rfl,rfl⟩
  .rw[an]at ap;cases so with
   |none=>rfl
   |some st=>cases ap
 rw[bK];have af:=af st rfl;refine(nV am).Y ?_;rintro _ bu _ ⟨M,z,at_,rfl,a7,bw⟩;obtain⟨O,a8⟩:=M.of;rw[bx,bz,bU];refine(sI a8).Y ?_;rintro _ bA _ M;obtain⟨P,ba⟩:=M.of;refine eI aC.u ax.i rfl λa ga bb bC E bc=>?_;have bD:=K.size;have bE:=x.size;have z3:=O.size;have z4:=P.size;have z5:=E.size;have au:∀r,hv out r->¬bQ g gs A r:=λr j bd=>by have:=ag r bd;have:=(b5 ac j).1;omega
 have be:=bB (bB al O au) P au;refine kN aC.u ax.i rfl (be.W E) bc.ls Θ Θ λbF bf bg bG bh av=>?_;rw[aR,hx Ω Ω];have bi:aj (bQ g gs A) w bb:=((((K.F (x.aa _)).F O).F P).F (E.aa _));have bj:aj (bQ g gs A) w bg:=ji bi av λr j he=>by have he:r=gz:=he;omega
 have bl:∀r,bQ g gs A r->¬(λr=>r=gz) r:=λr j he=>by have:=ag r j;have he:r=gz:=he;omega
 have bm:∀r,cV g gs A B r->¬(λr=>r=gz) r:=λr j he=>by have:=aQ r j.2;have he:r=gz:=he;omega
 refine⟨⟨i+1,l++[z],_,bf,rfl,Ω,bj,bh,Ω,(ba.W E).aa av bl bm,?_,Θ,λbH bn=>?_⟩,by simp only[bY];omega⟩
 .rw[C,show N-i=(N-(i+1))+1 by omega,En];unfold gY;cases f:br 1 most st with
  |none=>have e:bk 1 most (σ st)=ν:=f;rw[e];rfl
  |some q=>
   have e:bk 1 most (σ st)=σ q:=f;have:=a7 q e;subst this;rw[e];rfl
 .obtain⟨bI,Y,rfl⟩:=Y0.1 bn;obtain⟨q,f,rfl⟩:=Y0.1 Y;have h1:=(dS f).1;simp only[o4,S1];show l.length+1+q.2.d9.length<=100000;omega
theorem Po{acc:List (Λ×Int)}{s s':aN}{a:Λ×Int}(h:eX d6 acc s=σ (a,s')):s'.li=s.li/\s'.big=s.big:=by
 obtain⟨_,_,_,e⟩:=q2 h;exact⟨e.eqs.1,e.eqs.2.1⟩
theorem Pp{s s':aN}{l:List (Λ×Int)}(hi:ei s)(h:eh d6 s=σ (l,s')):ei s'/\(s.big=ms->s'.big=ms):=by
 have e:=DV d6 (σ s);rw[show kv d6 (σ s)=eh d6 s from rfl,h]at e;cases r:bk (-aG) aG (σ s)with
 |none=>rw[r]at e;cases e
 |some q=>
  obtain⟨n,s1⟩:=q;rw[r]at e;simp only at e;have h1:=(dS r).eqs;have x:ei s1:=λf=>by rw[h1.1];rw[h1.2.1]at f;exact hi f
  split at e
  .cases V:s1.lm[(-n-1).toNat]? with
   |none=>rw[V]at e;cases e
   |some q=>
    obtain⟨z,fS⟩:=q;rw[V]at e;simp only at e;split at e
    .cases e;exact⟨x,λf=>by rw[h1.2.1];exact f⟩
    .cases e
  .have:=mQ (λacc t=>t.li=(lA n s1).li/\t.big=(lA n s1).big) (λacc t a bu ⟨w,j⟩ g=>by
    have:=Po g;exact⟨by rw[this.1,w],by rw[this.2,j]⟩) n.toNat [] _ l s' ⟨rfl,rfl⟩ e.symm
   obtain⟨⟨w,j⟩,_⟩:=this;refine⟨λf=>by rw[w];rw[j]at f;exact OG n s1 f,λf=>?_⟩;rw[j];show(s1.big||_)=ms;rw[h1.2.1,f];rfl
theorem Pq{all:Λ}{s s':aN}{x:cE}(hi:ei s)(h:dz all s=σ (x,s')):ei s'/\s'.d9.length<s.d9.length:=by
 unfold dz at h;cases r:br (-aG) aG s with
 |none=>rw[r]at h;cases h
 |some q=>
 obtain⟨a,s1⟩:=q;rw[r]at h;simp only at h;have t0:=dS r;cases h1:fs all.length a.natAbs s1 with
 |none=>rw[h1]at h;cases h
 |some q=>
 obtain⟨sc,f⟩:=q;rw[h1]at h;simp only at h;obtain⟨w,_⟩:=xR h1;generalize sc.map (λv=>all.getD v.toNat 0)=d6 at h;cases y:br 0 aG (bp (decide (6<a.natAbs)||dM d6) f)with
 |none=>rw[y]at h;cases h
 |some q=>
 obtain⟨other,z⟩:=q;rw[y]at h;simp only at h;have A:=dS y;have F:ei z:=λe=>by
  rw[A.eqs.1];rw[A.eqs.2.1]at e;have e:(f.big||_)=ne:=e;have C:=(T5.1 e).1;show f.li<=16384;rw[w.eqs.1,t0.eqs.1];rw[w.eqs.2.1,t0.eqs.2.1]at C;exact hi C
 cases j:eh d6 z with
 |none=>rw[j]at h;cases h
 |some q=>
 obtain⟨lines,B⟩:=q;rw[j]at h;simp only[W9,R5]at h;obtain⟨_,rfl⟩:=h;have G:=Pp F j;have J:=D2 j;have K:=t0.1;have L:=w.1;have M:f.d9.length=z.d9.length+1:=A.1;have E:∀t:aN,t.li=B.li/\t.big=B.big/\t.d9=B.d9->ei t/\t.d9.length<s.d9.length:=λt ⟨H,I,a3⟩=>⟨λe=>by rw[H];rw[I]at e;exact G.1 e,by rw[a3];omega⟩;split
 .exact E _ ⟨rfl,rfl,rfl⟩
 .exact E _ ⟨rfl,rfl,rfl⟩
theorem Pr{S R:ak}{x:j1}(h:ay.rep ne S R w cs x):ay.rep (α:=j1) ms b3 R w cs x/\(x1.agg cs.toArray).cells=cs.toArray:=by
 obtain⟨j,d1,s,z,rfl,_,_,_,h1,q,d2,A,B,rfl,_,_,_,a,r,d3,C,E,rfl,_,_,_,f,e⟩:=h;have h1:=h1;have a:=a;have f:=f;have e:=e;refine⟨⟨j,_,b3,b3,rfl,λ_ h=>h,λ_ h=>h,λ_ _ h _=>h,h1,q,_,b3,b3,rfl,λ_ h=>h,λ_ h=>h,λ_ _ h _=>h,a,r,d3,b3,b3,rfl,λ_ h=>h,λ_ h=>h,λ_ _ h _=>h,f,e⟩,?_⟩;obtain⟨u,rfl⟩:=W6.1 (show j.length=1 from ay.len h1);obtain⟨v,rfl⟩:=W6.1 (show q.length=1 from ay.len a);obtain⟨y,rfl⟩:=W6.1 (show d3.length=1 from ay.len e);obtain⟨_,_,_,rfl⟩:=nW h1;obtain⟨_,_,_,rfl⟩:=nW a;obtain⟨_,_,_,rfl⟩:=nW e;subst f;rfl
theorem Ps{g gs c:Nat}{A B:ak}{o:Option aN}{Q:Bool}{P:x1}{all:Λ}{aD:x1->x4->Prop}(aE:jm w g gs A B Q o)(hi:∀s,o=σ s->ei s)(bs:(c:Int)<=aG)(bt:aQ .i64 w P all)(aF:∀r,hv P r->r≠g/\r≠gs/\r<w.heap.size/\(o≠ν->¬A r))(bu:o≠ν->∀z∈all,1<=z/\z<=aG)(bw:all.length<=100001)(bx:fD w)(h1:1<w0.heap.size/\(o≠ν->cV g gs A B 1))(aH:aj (λr=>w0.heap.size<=r) w0 w)(bz:w0.heap.size<=g)(bA:w0.heap.size<=gs)(ck:g<w.heap.size/\gs<w.heap.size)(bB:o≠ν->∀r,A r->w0.heap.size<=r)(aI:∀L I acc so aP C aJ aK,aj (λr=>w0.heap.size<=r) w0 I->w.heap.size<=I.heap.size->jm I g gs aP C Q so->ay.rep (α:=List j1) ms aJ aK I [L] acc->(∀r,aJ r\/aK r->r≠g/\r≠gs/\r<I.heap.size)->aQ .i64 I P all->
   (∀q,fV (λ_ s=>dz all s) c [] o=σ q->so=σ q.2/\acc=q.1.map jn)->(fV (λ_ s=>dz all s) c [] o=ν->so=ν)->aD L I):
 cb (.slice ν 0 0) (Δ 0) w λd8 aL ai bC=>
  cC (α:=x1->x4->Prop) (λ(bD:x1)(aO:x4)=>
   Split bD (aq x7 Bn [Γ g,P] aO λbE bF=>
  aM x7 (Y3 kL 1 #[(0,bE)]) bF λbG bH=>
  aM x7 (c9 #[kL,kL] kL #[d8,bG]) bH λbI aS=>
  ad x7 (aU .add ax ne ms aL (Δ 1)) aS λbJ=>
  bC bI bJ aS) (aD d8 aO)) λaT=>
  ad x7 (aU .lss ax ne ne aL (Δ (c:Int))) ai λbL=>
  Split bL (aq x7 mE [Γ g] ai λbM bN=>
  aT bM bN)
   (aT (.bool ne) ai):=by
 unfold aG at bs;generalize f:fV (λ_ s=>dz all s) c [] o=aV at aI;have aX:∀s,o=σ s->o≠ν:=λs h=>by rw[h];simp
 refine⟨λL al U=>∃(i:Nat)(acc:List j1)(E:List cE)(so:Option aN)(x K G M:ak),al=Δ (i:Int)/\i<=c/\aj (λr=>w0.heap.size<=r) w0 U/\w.heap.size<=U.heap.size/\jm U g gs x K Q so/\ay.rep ms G M U [L] acc/\
   aQ .i64 U P all/\fD U/\aV=fV (λ_ s=>dz all s) (c-i) E so/\(∀r,G r->w.heap.size<=r/\r<U.heap.size)/\(∀r,M r->r≠g/\r≠gs/\¬G r)/\
   ∀s,so=σ s->acc=E.map jn/\ei s/\E.length+s.d9.length<=100000/\o≠ν/\(∀r,x r->A r\/w.heap.size<=r)/\(∀r,x r->w0.heap.size<=r)/\(∀r,B r->K r)/\(∀r,G r->¬K r/\¬x r)/\(∀r,M r->cV g gs x K r),
  λ_ al _=>c-(bY al).toNat,⟨0,[],[],o,A,B,b3,b3,rfl,X9 _,aH,p9 _,aE,jf,bt,bx,f.symm,λ_ h=>h.elim,λ_ h=>h.elim,λs V=>⟨rfl,hi s V,?_,aX s V,λr e=>.inl e,bB (aX s V),λr e=>e,λ_ h=>h.elim,λ_ h=>h.elim⟩⟩,?_⟩
 .subst V;have am:ey w g gs A B s Q:=aE;have:=am.2.1.words.1;simpa using this
 rintro L _ U ⟨i,acc,E,so,x,K,G,M,rfl,cl,bO,cm,aY,bR,an,aZ,Z,y,bT,a2⟩;refine a1 (λv a7=>Ext U a7/\((v= .bool ms/\i<c/\∃st,so=σ st)\/(v= .bool ne/\(so=ν\/i=c)))) ?_ ?_
 rotate_left
 .intro aA ap;rw[aW,ao];refine⟨λa8=>?_,λcn=>ap _ _ ⟨Ext.refl _,.inr ⟨rfl,.inr Ω⟩⟩⟩;refine(DY aY).Y ?_;rintro _ a7 _ ⟨rfl,ba⟩;cases so with
  |none=>exact ap _ _ ⟨ba,.inr ⟨rfl,.inl rfl⟩⟩
  |some st=>exact ap _ _ ⟨ba,.inl ⟨rfl,Ω,st,rfl⟩⟩
 rintro _ ab ⟨J,bU⟩;have cp:=J.size;have S:=aY.W J;have bb:=bP bR J;have bc:aj (λr=>w0.heap.size<=r) w0 ab:=bO.F (J.aa _);rcases bU with⟨rfl,a8,st,rfl⟩|⟨rfl,bV⟩
 rotate_left
 .rw[a6];have bd:aV=so.map λst=>(E,st):=by
   rcases bV with rfl|rfl
   .exact Z
   .rw[V8]at Z;rw[Z];cases so<;>rfl
  refine aI L ab acc so x K G (λr=>M r/\r<ab.heap.size) bc Ω S (ay.Y bb (λ_ _ h=>h) λr e h=>⟨h,e⟩) (λr e=>?_) (an.W J) (λq H=>?_) λbe=>?_
  .rcases e with e|e
   .have:=y r e;exact⟨Ω,Ω,Ω⟩
   .have:=bT r e.1;exact⟨this.1,this.2.1,e.2⟩
  .rw[bd]at H;cases so with
   |none=>cases H
   |some st=>cases H;exact⟨rfl,(a2 _ rfl).1⟩
  .rw[bd]at be;cases so with
   |none=>rfl
   |some st=>cases be
 rw[bK];obtain⟨rfl,bf,cr,ae,bh,au,bi,af,bj⟩:=a2 st rfl;have S:=S;obtain⟨ct,cu,cw,cz,cA⟩:=S.1;have bW:=h1.2 ae;have bk:cV g gs x K 1:=⟨λf=>by
  rcases f with f|f|f
  .omega
  .omega
  .have:=au 1 f;omega,bi 1 bW.2⟩
 have bl:∀r,hv P r->¬bQ g gs x r/\r<ab.heap.size:=λr e=>by
  obtain⟨bX,bZ,b0,b1⟩:=aF r e;refine⟨λf=>?_,Ω⟩;rcases f with f|f|f
  .exact bX f
  .exact bZ f
  .rcases bh r f with h|h
   .exact b1 ae h
   .omega
 refine(OR S bf (an.W J) bl (bu ae) bw (aZ.W J) bk).Y ?_;rintro _ cB _ ⟨aP,C,cs,b2,rfl,cD,W,X,av,bm,bn,b4,b5⟩;have z3:=W.size;obtain⟨bo,b6⟩:=Pr b4;refine lZ (α:=j1) (R:=cV g gs aP C) kL.u cq.i Φ b6 bo λu aw N _ hu=>?_;have z4:=N.size;have b7:∀r,r<ab.heap.size->G r\/M r->¬bQ g gs x r:=λr e h f=>by
  rcases h with h|h
  .have j:=y r h;rcases f with f|f|f
   .omega
   .omega
   .exact (af r h).2 f
  .exact (bj r h).1 f
 have b8:∀r,r<ab.heap.size->cV g gs x K r->cV g gs aP C r:=λr e h=>⟨λf=>h.1 (f.imp id (Or.imp id λf=>(X r f).elim id λbg=>Ω)),bm r h.2⟩;have b9:bS G (cV g gs aP C) aw [L] (E.map jn):=bP (ay.aa (ay.Y (R':=λr=>cV g gs aP C r/\M r) bb (λ_ _ h=>h) λr e h=>⟨b8 r e (bj r h),h⟩) W λr e h=>b7 r e (h.imp id λh=>h.2) |> λh=>h) N |> λh=>ay.Y h (λ_ _ h=>h) λ_ _ h=>h.1;have ag:∀r,G r->¬C r:=λr h ah=>by
  have j:=y r h;rcases(av r ah).1 with O|O
  .exact (af r h).1 O
  .have az:=(y r h).2;omega
 have cF:(E.map jn).length=E.length:=Ξ
 refine pI kL.u cq.i rfl b9 hu (bP bo N) (λr _ ca h=>?_) Ω Ω λcG aB cc Y=>?_
 .rcases h with h|h
  .exact h
  .exact ag r ca h.2
 have z5:=Y.size;rw[aR,hx Ω Ω];have cd:aj (λr=>w0.heap.size<=r) w0 aw:=(bc.F (W.Y λr _ f=>by
  rcases f with rfl|rfl|f
  .exact bz
  .exact bA
  .exact au r f)).F (N.aa _)
 have z0:=aH.size;have ce:aj (λr=>w0.heap.size<=r) w0 aB:=cd.F (Y.Y λr _ h=>by have:=(y r h).1;omega);have cf:=(jC (an.W J) W λr e a n c ac aC=>(bl r ⟨a,n,c,ac,aC⟩).1 e).W N;have cg:=jC cf Y λr e a n c ac aC=>by
  have b0:=(aF r ⟨a,n,c,ac,aC⟩).2.2.1;have:=(y r e).1;omega
 have ch:=(((aZ.W J).aa W bk.1).W N).aa Y λh=>by have:=(y 1 h).1;omega
 have bp:jm aB g gs aP C Q ((dz all st).map (·.2)):=by
  refine jm.aa (bn.W N) Y (λh=>by have:=y _ h;omega) (λr e cH h=>?_) (λr e h=>ag r h e.2);have j:=y r h;rcases e with rfl|rfl|e
  .omega
  .omega
  .rcases X r e with O|O
   .exact (af r h).2 O
   .omega
 have ci:=oB cc;refine⟨⟨i+1,(E.map jn)++[b2],E++((dz all st).map (·.1)).toList,(dz all st).map (·.2),aP,C,λr=>(G r\/b3 r\/aw.heap.size<=r)/\r<aB.heap.size,cV g gs aP C,rfl,Ω,ce,Ω,bp,ci,cg,ch,?_,λr e=>⟨?_,e.2⟩,λr e=>⟨λh=>e.1 (.inl h),λh=>e.1 (.inr (.inl h)),λh=>?_⟩,λs' cj=>?_⟩,by simp only[bY];omega⟩
 .rw[Z,show c-i=(c-(i+1))+1 by omega,En];cases H:dz all st with
  |none=>rfl
  |some q=>rfl
 .rcases e.1 with h|h|h
  .exact (y r h).1
  .exact h.elim
  .omega
 .rcases h.1 with j|j|j
  .exact ag r j e.2
  .exact j
  .have:=(av r e.2).2;omega
 .obtain⟨q,H,rfl⟩:=Y0.1 cj;have j:=Pq bf H;have O:=b5 q H;refine⟨?_,j.1,?_,ae,λr e=>?_,λr e=>?_,λr e=>bm r (bi r e),λr e=>⟨λah=>?_,λbq=>?_⟩,λr e=>e⟩
  .rw[H,O];simp
  .rw[H];simp only[Y9,o8,o4,S1];omega
  .rcases X r e with h|h
   .exact bh r h
   .exact .inr Ω
  .rcases X r e with h|h
   .exact au r h
   .omega
  .rcases e.1 with j|j|j
   .exact ag r j ah
   .exact j
   .have:=(av r ah).2;omega
  .have cI:=bp;have br:=bn;rw[H]at br;have am:=br;have a8:=am.1.2.2.2.1 r (.inr (.inr bq));rcases e.1 with j|j|j
   .rcases X r bq with az|az
    .exact (af r j).2 az
    .have:=(y r j).2;omega
   .exact j
   .omega
theorem ei.num{lo hi n:Int}{s s':aN}(e:ei s)(h:br lo hi s=σ (n,s')):ei s':=λa=>by
 have h1:=(dS h).eqs;rw[h1.1];rw[h1.2.1]at a;exact e a
theorem ei.big{b:Bool}{s:aN}(h:ei s):ei (bp b s):=λa=>by
 have a:(s.big||b)=ne:=a;exact h (T5.1 a).1
theorem ei.word{w:Λ}{s s':aN}(h:ei s)(hw:eg s=σ (w,s')):ei s':=λa=>by
 have h1:=(xQ hw).2;rw[h1]at a ⊢;exact h a
theorem Pt{most:Int}{s s':aN}(hi:ei s)(hm:most<=aG)(h:c6 (gY most) N [] s=σ (l,s')):ei s'/\(∀z∈l,1<=z/\z<=aG)/\l.length+s'.d9.length<=s.d9.length:=by
 have:=mQ (λacc t=>ei t/\(∀z∈acc,1<=z/\z<=aG)/\acc.length+t.d9.length<=s.d9.length) (λacc t a bu ⟨h1,f,w⟩ g=>by
  unfold gY at g;cases e:br 1 most t with
  |none=>rw[e]at g;cases g
  |some q=>
   obtain⟨z,j⟩:=q;rw[e]at g;simp only[W9,R5]at g;obtain⟨rfl,rfl⟩:=g;have y:=(jD e).1;have A:=(dS e).1;refine⟨(h1.num e).big,λx J=>?_,?_⟩
   .rcases j5.1 J with J|J
    .exact f x J
    .rw[Z7.1 J];omega
   .simp only[o4,S1];show acc.length+1+j.d9.length<=_;omega) N [] s l s' ⟨hi,λz r=>(by cases r),Ξ⟩ h
 exact this.1
theorem Pu{s0:aN}{name:Λ}{n most cnt:Int}{so6:Option aN}(h1:∀q,eg s0=σ q->name=q.1)(r:∀q,bk 1 aG (((eg s0).map (·.2)).map (bp (decide (64<(name.length:Int)))))=σ q->n=q.1)(j:∀q,bk 1 aG (((bk 1 aG (((eg s0).map (·.2)).map (bp (decide (64<(name.length:Int)))))).map (·.2)).map (bp (decide (64<n))))=σ q->most=q.1)(h:∀q,bk 0 aG ((bk 1 aG (((bk 1 aG (((eg s0).map (·.2)).map (bp (decide (64<(name.length:Int)))))).map (·.2)).map (bp (decide (64<n))))).map (·.2))=σ q->cnt=q.1)(f:∀q,bk 1 aG (((bk 0 aG ((bk 1 aG (((bk 1 aG (((eg s0).map (·.2)).map (bp (decide (64<(name.length:Int)))))).map (·.2)).map (bp (decide (64<n))))).map (·.2))).map (·.2)).map (bp (decide (256<cnt))))=σ q->k=q.1)(e:∀q,fV (gY most) n.toNat [] (((bk 1 aG (((bk 0 aG ((bk 1 aG (((bk 1 aG (((eg s0).map (·.2)).map (bp (decide (64<(name.length:Int)))))).map (·.2)).map (bp (decide (64<n))))).map (·.2))).map (·.2)).map (bp (decide (256<cnt))))).map (·.2)).map (bp (decide (2147483648<k))))=σ q->so6=σ q.2/\d6=q.1)(a:fV (gY most) n.toNat [] (((bk 1 aG (((bk 0 aG ((bk 1 aG (((bk 1 aG (((eg s0).map (·.2)).map (bp (decide (64<(name.length:Int)))))).map (·.2)).map (bp (decide (64<n))))).map (·.2))).map (·.2)).map (bp (decide (256<cnt))))).map (·.2)).map (bp (decide (2147483648<k))))=ν->so6=ν):
  jU s0=(fV (λ_ s=>dz d6 s) cnt.toNat [] so6).map λq=>((⟨name,k,d6,q.1⟩:cd),q.2):=by
 unfold jU;cases A:eg s0 with
 |none=>
  rw[A]at a;rw[a rfl];rfl
 |some L=>
 obtain⟨Z,s1⟩:=L;rw[A]at h1 r j h f e a;have:=h1 _ rfl;subst this;have M:decide (64<(name.length:Int))=decide (64<name.length):=by rw[U1,m6,m6];omega
 rw[M]at r j h f e a;simp only[Y9]at r j h f e a ⊢;generalize bp (decide (64<name.length)) s1=x at*;cases B:br 1 aG x with
 |none=>
  rw[show bk 1 aG (σ x)=ν from B]at a;rw[a rfl];rfl
 |some N=>
 obtain⟨O,C⟩:=N;rw[show bk 1 aG (σ x)=σ (O,C)from B]at r j h f e a;have:=r _ rfl;subst this;simp only[Y9]at j h f e a ⊢;generalize bp (decide (64<n)) C=y at*;cases E:br 1 aG y with
 |none=>
  rw[show bk 1 aG (σ y)=ν from E]at a;rw[a rfl];rfl
 |some P=>
 obtain⟨Q,w⟩:=P;rw[show bk 1 aG (σ y)=σ (Q,w)from E]at j h f e a;have:=j _ rfl;subst this;simp only[Y9]at h f e a ⊢;cases F:br 0 aG w with
 |none=>
  rw[show bk 0 aG (σ w)=ν from F]at a;rw[a rfl];rfl
 |some R=>
 obtain⟨S,G⟩:=R;rw[show bk 0 aG (σ w)=σ (S,G)from F]at h f e a;have:=h _ rfl;subst this;simp only[Y9]at f e a ⊢;generalize bp (decide (256<cnt)) G=z at*;cases H:br 1 aG z with
 |none=>
  rw[show bk 1 aG (σ z)=ν from H]at a;rw[a rfl];rfl
 |some T=>
 obtain⟨U,I⟩:=T;rw[show bk 1 aG (σ z)=σ (U,I)from H]at f e a;have:=f _ rfl;subst this;simp only[Y9]at e a ⊢;generalize bp (decide (2147483648<k)) I=W at*;cases J:c6 (gY most) n.toNat [] W with
 |none=>
  rw[a J];rfl
 |some X=>
 obtain⟨aa,K⟩:=X;obtain⟨V,Y⟩:=e _ J;subst Y;rw[V];simp only;show _=V9 _ (c6 (λ_ s=>dz d6 s) cnt.toNat [] K);cases c6 (λ_ s=>dz d6 s) cnt.toNat [] K<;>rfl
theorem Pv{f:cd}(ah:fC N f)(h:N<=60000):∀x∈f.d8,vk f.k x:=λx J=>by
 obtain⟨h1,e,j⟩:=ah.d8 x J;refine⟨ah.k,⟨?_,λz a=>?_⟩,h1.other,h1.lines,by have:=h1.len;omega,Ω⟩
 .rw[h1.d6,u9];exact e
 .rw[h1.d6]at a;obtain⟨v,ac,rfl⟩:=o9.1 a;have:=h1.scope.2 v ac;refine ah.d6.2.2 _ ?_;rw[p8,x8 Ω];exact T9 _
theorem Pw{p:x1}{pl:Λ}(ae:aQ .u8 w p pl)(aI:Bytes pl)(bJ:pl.length<=60000)(ad:fD w):aq x7 Jc [p] w (Em w (iy pl)):=by
 have aJ:1<w.heap.size:=by
  have:=ad 0 (.int .u64 1) rfl;obtain⟨c,e,f,aK,_⟩:=xm this;exact(Z6.1 aK).1
 have bK:aG=4611686018427387904:=rfl;refine aF func58 ?_;rw[a7 cU.u ae,bU,ao];refine⟨λh=>Ω,λ_=>?_⟩;refine(CB ae aI Ω).Y ?_;rintro _ U _ ⟨af,gs,rfl,bL,aL,P⟩;rw[dk (cs:=#[Γ gs,Δ 0,Δ 0,Δ 0,Δ 0,Δ 0,.slice ν 0 0]) Ψ];refine bo λg ab bM Q ag=>?_;have bN:=af.size;have bO:=Q.size;have aM:=ag.lt;have bP:gs<U.heap.size:=P.2.2.2.1.lt;have bR:=r6 _ pl (p9 _);let s0:aN:=⟨(lex pl).1,0,ne,[]⟩;let B0:ak:=λr=>r<U.heap.size;have aO:ey ab g gs b3 B0 s0 (lex pl).2:=by
  refine⟨⟨Ω,λh=>h,λh=>h,λr j=>?_,λr j=>by have j:r<U.heap.size:=j;omega⟩,⟨aL,pl,0,P.W Q,λr j=>?_,by rw[List.drop_zero]⟩,⟨by show(0:Int)<=0;omega,by show(0:Int)<=aG;omega,by show(([]:List (Λ×List (Λ×Int))).length+(lex pl).1.length<=100000);simp;omega⟩,0,0,0,0,.slice ν 0 0,ag,⟨by simp[s0],λ_=>rfl⟩,jf (α:=l6)⟩
  .rcases j with rfl|rfl|j
   .exact aM
   .omega
   .exact j.elim
  .obtain⟨_,_,_,K,bf,hm⟩:=P;have G:=b5 hm j;have H:=cv hm K Φ j;exact⟨λB=>by
    rcases B with B|B|B
    .omega
    .exact H B
    .exact B,by show r<U.heap.size;omega⟩
 have R:∀r,bQ g gs b3 r->w.heap.size<=r:=λr j=>by
  rcases j with rfl|rfl|j
  .omega
  .omega
  .exact j.elim
 refine(Dh aO).Y ?_;rintro _ bS _ ⟨A,name,bT,rfl,bV,bW,aR⟩;obtain⟨aS,aT⟩:=gE.of A;rw[bx,bz,pO de.u,bU];refine(sI aT).Y ?_;rintro _ bX _ A;obtain⟨aU,aV⟩:=A.of;refine(nV (lo:=1) (hi:=aG) aV).Y ?_;rintro _ bY _ ⟨A,n,bZ,rfl,ah,aW⟩;obtain⟨aX,aY⟩:=A.of;rw[bx,bz,bU];refine(sI aY).Y ?_;rintro _ b0 _ A;obtain⟨aZ,a1⟩:=A.of;refine(nV (lo:=1) (hi:=aG) a1).Y ?_;rintro _ b1 _ ⟨A,most,b2,rfl,ai,a2⟩;obtain⟨a6,a8⟩:=A.of;rw[bx,bz];refine(nV (lo:=0) (hi:=aG) a8).Y ?_;rintro _ b4 _ ⟨A,cnt,b6,rfl,al,ba⟩;obtain⟨bb,bc⟩:=A.of;rw[bx,bz,bU];refine(sI bc).Y ?_;rintro _ b7 _ A;obtain⟨bd,be⟩:=A.of;refine(nV (lo:=1) (hi:=aG) be).Y ?_;rintro _ b8 _ ⟨A,k,b9,rfl,hk,ca⟩;obtain⟨bg,bh⟩:=A.of;rw[bx,bz,bU];refine(sI bh).Y ?_;rintro _ am _ A;obtain⟨bi,S⟩:=A.of;have an:aj (bQ g gs b3) ab am:=(((((((aS.F aU).F aX).F aZ).F a6).F bb).F bd).F bg).F bi;have W:∀{lo:Int}{o:Option aN}{x:Int},0<=lo->lo<=1->(∀q,bk lo aG o=σ q->x=q.1)->(bk lo aG o=ν->x=0)->0<=x/\x<=aG:=λ{lo o x}cb h1 V bj=>by
  cases a:bk lo aG o with
  |none=>rw[bj a];omega
  |some q=>
   have G:=oM (n:=q.1) (s':=q.2) a;rw[V q a];omega
 have cc:=W Ω Ω ah aW;have ce:=W Ω Ω al ba;have cf:=W Ω Ω ai a2;obtain⟨N,bl⟩:∃N:Nat,n=(N:Int):=⟨n.toNat,Ω⟩;obtain⟨C,bm⟩:∃C:Nat,cnt=(C:Int):=⟨cnt.toNat,Ω⟩;have bn:n.toNat=N:=Ω
 have bq:cnt.toNat=C:=Ω
 have br:ei s0:=λ_=>by show(0:Int)<=16384;omega
 have L:∀{o:Option aN}{b:Bool},(∀s,o=σ s->ei s)->∀s,o.map (bp b)=σ s->ei s:=λh s V=>by
  obtain⟨t,X,rfl⟩:=Y0.1 V;exact(h t X).big
 have M:∀{o:Option aN}{lo hi:Int},(∀s,o=σ s->ei s)->∀s,(bk lo hi o).map (·.2)=σ s->ei s:=λ{o lo hi}h s V=>by
  obtain⟨q,a,rfl⟩:=Y0.1 V;cases o with
  |none=>cases a
  |some t=>exact(h t rfl).num (n:=q.1) (s':=q.2) a
 have bs:∀s,(eg s0).map (·.2)=σ s->ei s:=λs V=>by
  obtain⟨q,a,rfl⟩:=Y0.1 V;exact br.word (w:=q.1) (s':=q.2) a
 have ap:=L (b:=decide (2147483648<k)) (M (lo:=1) (hi:=aG) (L (b:=decide (256<cnt)) (M (lo:=0) (hi:=aG) (M (lo:=1) (hi:=aG) (L (b:=decide (64<n)) (M (lo:=1) (hi:=aG) (L (b:=decide (64<(name.length:Int))) bs)))))));have y:=λ(d6:Λ)(so6:Option aN)=>Pu (s0:=s0) (name:=name) (d6:=d6) (n:=n) (most:=most) (cnt:=cnt) (k:=k) (so6:=so6) aR ah ai al hk;rw[bn]at y;generalize cg:V9 (bp (decide (2147483648<k))) (V9 (λx=>x.2) (bk 1 aG (V9 (bp (decide (256<cnt))) (V9 (λx=>x.2) (bk 0 aG (V9 (λx=>x.2) (bk 1 aG (V9 (bp (decide (64<n))) (V9 (λx=>x.2) (bk 1 aG (V9 (bp (decide (64<(name.length:Int)))) (V9 (λx=>x.2) (eg s0)))))))))))))=au at ap S y;rw[bl];refine Pn S Ω λho Y d6 so6 gz bt av aw ch bu ax ay=>?_;have y:=y d6 so6 ax ay;rw[bq]at y;have Z:aj (bQ g gs b3) ab Y:=an.F bt;have z12:=Z.size;have az:=af.F Q;have bw:aj (λr=>w.heap.size<=r) w Y:=(az.aa _).F (Z.Y λr _ h=>R r h);have ci:=av.side;have facts:∀J,so6=σ J->ei J/\(∀z∈d6,1<=z/\z<=aG)/\d6.length<=100000:=λJ ac=>by
  cases a:fV (gY most) N [] au with
  |none=>rw[ay a]at ac;cases ac
  |some q=>
   obtain⟨G,H⟩:=ax q a;cases ac.symm.F G;subst H;cases au with
   |none=>cases a
   |some bA=>
    obtain⟨bB,bC,cj⟩:=Pt (ap bA rfl) Ω a;exact⟨bB,bC,by have:=S.words;omega⟩
 rw[bm];have aA:∀r,hv ho r->am.heap.size<=r/\r<Y.heap.size:=λr j=>by have:=b5 aw j;omega
 have ck:=an.size;refine Ps av.q (λs V=>(facts s V).1) Ω aw.ls (λr j=>?_) (λO=>?_) bu ((ad.W az).aa Z λB=>by have:=R 1 B;omega) ⟨aJ,λ_=>⟨λB=>by have:=R 1 B;omega,by show 1<U.heap.size;omega⟩⟩
  bw Ω Ω ⟨Ω,Ω⟩ (λ_ r h=>h.elim) λcl cm acc so aP cn cp cq aB cr bD bE bF bG aC bH=>?_
 .have:=aA r j;exact⟨Ω,Ω,Ω,λ_ h=>h⟩
 .cases aD:so6 with
  |none=>exact m2 aD O
  |some J=>exact(facts J aD).2.1
 have ct:=aB.size;have E:iy pl=match jU s0 with
   |none=>ν
   |some (f,s)=>if s.d9=[]/\(lex pl).2=ms/\s.big=ne then σ f else ν:=by
  unfold iy;rw[m1 Ω];have e:jU ⟨(lex pl).1,0,ne,[]⟩=jU s0:=rfl;rw[e];cases jU s0<;>rfl
 refine Pm bD ⟨λs V X bI K=>?_,λO=>?_⟩ bG (λr j=>by have:=aA r j;exact⟨Ω,Ω⟩) bE bF (λ_=>trivial) Ω Ω aB Ω Ω ae λv I h=>h
 .cases a:fV (λ_ s=>dz d6 s) C [] so6 with
  |none=>rw[bH a]at V;cases V
  |some q=>
   obtain⟨G,H⟩:=aC q a;cases V.symm.F G;rw[a]at y;have y:jU s0=σ ((⟨name,k,d6,q.1⟩:cd),q.2):=y;have aE:=(De rfl y K).1;rw[y]at E;simp only at E;rw[lw ⟨X,bI,K⟩]at E;exact⟨q.1,H,E,Pv aE (by show(lex pl).1.length<=60000;omega),aE.mR,Ω⟩
 .cases a:fV (λ_ s=>dz d6 s) C [] so6 with
  |none=>
   rw[a]at y;have y:=y;rw[y]at E;exact m2 E O
  |some q=>
   obtain⟨G,H⟩:=aC q a;rw[a]at y;have y:jU s0=σ ((⟨name,k,d6,q.1⟩:cd),q.2):=y;rw[y]at E;simp only at E;by_cases aH:q.2.d9=[]/\(lex pl).2=ms/\q.2.big=ne
   .exact⟨q.2,G,aH⟩
   .rw[m1 aH]at E;exact m2 E O
theorem yn(s t cs:Λ):∃e,uv s t cs= .tuple #[Δ (bt s cs t),Δ e]:=by
 unfold uv bt;cases ct s t 0 with
 |none=>exact⟨3,rfl⟩
 |some n=>exact⟨0,rfl⟩
theorem Px:aq x7 BF [sv] w λr I=>Ext w I/\∃g,r= .func (.func qJ) #[] #[Γ g]/\w.heap.size<=g/\ai I g av sv.cells.toList:=by
 refine aF func241 ?_;refine bo λg U f a e=>?_;rw[lh];exact⟨a,g,rfl,Ω,e⟩
theorem Py{f:S9}{cap:Array x1}{A:Nat->List x1->x4->Prop}{e:x4->Prop}{L:Λ}(P:pn x7 f cap.toList n A e)(B:∀k vs w,A k vs w->∃x,L[k]?=σ x/\vs=[Δ x])(he:∀a b,aj (λr=>w.heap.size<=r) a b->e a->e b)(Q:e w)(R:n=L.length)(ao:L.length<=1000000):
  aq x7 Jv [.slice ν 0 0,.func (.func f) #[] cap] w λv I=>Ext w I/\∃g,w.heap.size<=g/\aH .i64 al I g v L:=by
 refine iM func80 ?_;refine bo λgs U ap C j=>?_;have j:=j;have au:=j.lt;have E:∀{a b:x4},Ext a b->e a->e b:=λJ=>he _ _ (J.aa _);refine ki.old ⟨Nat,ne,f,cap,0,_,_,e,λk I=>aj (λr=>w.heap.size<=r) w I/\∃v g,gs<g/\ai I gs av [v]/\aH .i64 al I g v (L.take k),λ_ _ _=>False,rfl,P.s,?_,λ_ _ J h=>E J h,
  λ_ _ _ J h=>⟨h.1.F (J.aa _),by obtain⟨v,g,h1,S,V⟩:=h.2;exact⟨v,g,h1,S.W J,V.W J⟩⟩,λ_ _ _ _ _ h=>h,E C Q,⟨C.aa _,_,gs+1,Ω,j,aH.nil _ _ _ _⟩,?_,?_,λ_ _ h=>h.elim,λ_ _ _ h=>h.elim⟩
 .rintro k vs aw I ⟨_,_,h⟩;obtain⟨x,_,rfl⟩:=B k vs I h;rfl
 .rintro a k _ ab hW ⟨hk,rfl,X⟩ ⟨Y,v,g,Z,G,ac⟩;obtain⟨x,J,ad⟩:=B k _ ab X;cases ad;intro ax q _ _;have H:=G.W q;rw[aD Ψ (H.cell rfl)];refine eI av.u al.i rfl λa ga ay az y ae=>?_;have aA:(L.take k).length<=1000000:=Θ
  refine kN av.u al.i rfl ((ac.W q).W y) ae.ls (by simp only[X5,List.length_nil];omega) (by simp only[X5,List.length_nil];omega) λaf ag aB aC z K=>?_;have aE:=G.lt;have aF:=q.size;have aG:=y.size;refine bs av.i z.ls.cells.1 z.ls.cells.2 (((H.W y).aa K Ω)) Ξ λah M aI ak=>?_;have N:aj (λr=>w.heap.size<=r) ab ah:=(((q.F y).aa _).F (K.Y λr _ h=>by show w.heap.size<=r;omega)).F (M.Y λr _ h=>by show w.heap.size<=r;omega);refine⟨he _ _ N hW,⟨Y.F N,af,ag,Ω,ak,?_⟩,λh=>by cases h⟩;rw[u7,J];exact z.aa M (λ_=>Ω)
 .rintro k aJ hk ⟨am,v,g,Z,an,ac⟩;have hk:=hk;subst hk;rw[aD Ψ (an.cell rfl)];intro aK O _;rw[R,o6]at ac;exact⟨(am.W λr aL h=>by have:w.heap.size<=r:=h;omega).F O,g,Ω,ac.W O⟩
theorem Eo{f:S9}{cap:Array x1}{j:Nat->List x1->x4->Prop}{e:x4->Prop}{L:Λ}(q:pn x7 f cap.toList n j e)(s:∀k vs w,j k vs w->∃x,L[k]?=σ x/\vs=[Δ x])(he:∀a b,aj (λr=>w.heap.size<=r) a b->e a->e b)(y:e w)(z:n=L.length)(A:L.length<=1000000):
  aq x7 IX [.func (.func f) #[] cap] w λv I=>Ext w I/\∃g,w.heap.size<=g/\aH .i64 al I g v L:=by
 refine aF func34 ?_;exact(Py q s he y z A).Y λ_ _ _ h=>h
theorem Pz{x:Int}:aq x7 cmp_Less_int [Δ x,Δ y] w λv I=>v= .bool (decide (x<y))/\Ext w I:=by
 refine aF func323 ?_;refine a1 (λv U=>v= .bool (decide (x<y))/\Ext w U) (λ_ _ h=>h) λaA a=>?_;have e:∀{z:Int}{w:x4},aq x7 cmp_isNaN_int [Δ z] w λv I=>v= .bool ne/\Ext w I:=λ{z w}=>by
  refine aF func253 ?_;simp only[bG];exact⟨Ξ,Ext.refl _⟩
 refine e.Y ?_;rintro _ ab _ ⟨rfl,f⟩;rw[a6];simp only[aW];exact a _ _ ⟨rfl,f⟩
theorem PA{P:W5}{t:r8}{cx cy:Bool}{k:o5}{a b:Int}:cK P (aU .sub t cx cy (.int k a) (.int k b)) (.int k (k.wrap (a-b))) w:=λI _=>by simp[aU,eqGuard,binOp,Op.intArith]
theorem PB{g:Nat}(h:aH .i64 al w g sv l)(ak:l.length<=1000000):
  aq x7 LY [sv,Δ 0,Δ l.length] w λ_ I=>aj (λr=>r=g) w I/\∃m,m.Perm l/\m.Pairwise (·<= ·)/\aH .i64 al I g sv m:=by
 refine aF func317 ?_;simp only[aR];refine⟨λt U=>∃(i:Nat)(m:Λ),t=Δ i/\1<=i/\(i<=l.length\/i=1)/\m.Perm l/\sq m i/\aj (λr=>r=g) w U/\aH .i64 al U g sv m,λt _=>l.length+1-(bY t).toNat,
  ⟨1,l,by congr 1,Ω,.inr rfl,.refl _,λp q x y h1 S=>Ω,aj.refl _ _,h⟩,?_⟩
 rintro _ U ⟨i,m,rfl,am,an,z,J,K,hm⟩;have V:=z.length_eq;simp only[aW,ao];refine⟨λW=>?_,λap=>?_⟩
 .have W:i<l.length:=Ω
  refine⟨λt ab=>∃(j:Nat)(m:Λ),t=Δ j/\j<=i/\m.Perm l/\q0 m i j/\aj (λr=>r=g) w ab/\aH .i64 al ab g sv m,λt _=>(bY t).toNat,⟨i,m,rfl,p9 _,z,Nh J,K,hm⟩,?_⟩;rintro _ ab ⟨j,m,rfl,X,z,E,L,hm⟩;have V:=z.length_eq;refine a1 (λv M=>Ext ab M/\∃c,v= .bool c/\(c=ms->0<j/\∃a b,m[j-1]?=σ a/\m[j]?=σ b/\b<a)/\(c=ne->j=0\/0<j/\∃a b,m[j-1]?=σ a/\m[j]?=σ b/\a<=b)) ?_ ?_
  .rintro _ M ⟨B,c,rfl,Y,Z⟩;rw[b1];refine⟨λh=>?_,λh=>?_⟩
   .obtain⟨A,a,b,f,s,G⟩:=Y h;intro au N _ _;have C:=(hm.W B).W N;have e:X3.wrap ((j:Int)-1)=((j-1:Nat):Int):=by rw[hx Ω Ω];omega
    simp only[c5,e];rw[bm av.u al.i Ψ C.ls f,bm av.u al.i Ψ C.ls s,jV rfl av.u al.i C Ω];refine jW al.i C Ω λac ad aw O=>⟨.inr ⟨by have:=PA (P:=x7) (w:=ac) (t:=al) (cx:=ne) (cy:=ms) (k:=.i64) (a:=(j:Int)) (b:=1);rwa [e]at this,trivial⟩,?_⟩;rw[jV rfl av.u al.i O Θ];refine jW al.i O Θ λax ae ay af=>?_;refine⟨⟨j-1,_,rfl,Ω,(swap_perm Ω f s).F z,Nk E A X f s G,((L.F ((B.F N).aa _)).F ad).F ae,af⟩,?_⟩;simp only[bY];omega
   .simp only[aR];rw[hx Ω Ω];refine⟨⟨i+1,m,rfl,Ω,.inl Ω,z,?_,L.F (B.aa _),hm.W B⟩,?_⟩
    .rcases Z h with rfl|⟨A,a,b,f,s,G⟩
     .exact Ni E
     .exact Nj E A f s G
    .simp only[bY];omega
  .intro aA Q az H _ _;have R:=hm.W H;simp only[bU,ao];refine⟨λA=>?_,λA=>Q _ _ ⟨H,ne,rfl,(λh=>by cases h),λ_=>.inl Ω⟩⟩;have e:X3.wrap ((j:Int)-1)=((j-1:Nat):Int):=by rw[hx Ω Ω];omega
   obtain⟨b,s⟩:=aK (l:=m) (i:=j) Ω;obtain⟨a,f⟩:=aK (l:=m) (i:=j-1) Ω;rw[bm av.u al.i Ψ R.ls s];simp only[c5,e];rw[bm av.u al.i Ψ R.ls f];refine Pz.Y ?_;rintro _ aB _ ⟨rfl,ag⟩;refine Q _ _ ⟨H.F ag,_,rfl,λh=>⟨Ω,a,b,f,s,by simpa using h⟩,λh=>.inr ⟨Ω,a,b,f,s,by simpa using h⟩⟩
 .refine⟨K,m,z,Nl λp q x y h1 S ah ai=>J p q x y h1 Ω ah ai,hm⟩
theorem PC{P:W5}{t:r8}{k:o5}{s:ByteArray}{i:Nat}(a:P.underlying t=σ .string)(hi:i<s.size)(e:∀b:Nat,b<256->K (.int .u8 b)):
  ad P (Instr.index t (.string s) (.int k (i:Int))) w K:=by
 have f:s[i]?=σ s[i]:=by simp[hi]
 have:ad P (Instr.index t (.string s) (.int k (i:Int))) w K=K (.int .u8 s[i].toNat):=ad.of λI _=>by
  simp[Instr.index,asIntOf,run_underlying a,hi]
 rw[this];exact e _ (UInt8.toNat_lt _)
theorem PD(a:n<256):aq x7 Lq [.int .u64 (n:Int)] w λv I=>(∃r,v=Δ r)/\Ext w I:=by
 refine aF func252 ?_;refine aq.Y (K:=λv I=>(∃r,v=Δ r)/\Ext w I) ?_ (λ_ _ _ h=>h);refine aF func291 ?_;simp only[cC,cJ,ao];refine⟨λh=>Ω,λ_=>⟨λh=>Ω,λ_=>⟨λh=>Ω,λ_=>?_⟩⟩⟩;rw[fN fL.u cS.u,wrap_u8 Ω Ω];refine PC de.u (by exact Nat.lt_of_lt_of_le a Φ) λb e=>?_;rw[fN cS.u al.u];simp only[aR];exact⟨⟨_,rfl⟩,Ext.refl _⟩
theorem PE{g:Nat}(h:aH .i64 al w g sv l)(f:l.length<=12):
  aq x7 LF [sv] w λ_ I=>aj (λr=>r=g) w I/\∃m,m.Perm l/\m.Pairwise (·<= ·)/\aH .i64 al I g sv m:=by
 refine aF func277 ?_;rw[a7 av.u h.ls,fN al.u qL.u,lc Ω Ω];refine(PD Ω).Y ?_;rintro _ U _ ⟨⟨r,rfl⟩,e⟩;refine aq.Y (K:=λ_ I=>aj (λr=>r=g) U I/\∃m,m.Perm l/\m.Pairwise (·<= ·)/\aH .i64 al I g sv m) ?_ (λ_ _ _ h=>⟨(e.aa _).F h.1,h.2⟩);refine aF func302 ?_;refine⟨λa b _ _ _ ab=>a=Δ 0/\b=Δ l.length/\U=ab,λ_ _ _ _ _ _=>0,⟨rfl,rfl,rfl⟩,?_⟩;rintro _ _ _ _ _ _ ⟨rfl,rfl,rfl⟩;simp only[c5,nI,ao];rw[hx Ω Ω];refine⟨λ_=>?_,λh=>Ω⟩;refine(PB (h.W e) Ω).Y ?_;exact λ_ _ _ h=>h
theorem PF{f:S9}{cap:Array x1}{j:Nat->List x1->x4->Prop}{e:x4->Prop}{L:Λ}(q:pn x7 f cap.toList n j e)(s:∀k vs w,j k vs w->∃x,L[k]?=σ x/\vs=[Δ x])(he:∀a b,aj (λr=>w.heap.size<=r) a b->e a->e b)(y:e w)(z:n=L.length)(A:L.length<=12):
  aq x7 BE [.func (.func f) #[] cap] w λv I=>Ext w I/\∃g m,w.heap.size<=g/\m.Perm L/\m.Pairwise (·<= ·)/\aH .i64 al I g v m:=by
 refine aF func240 ?_;refine(Eo q s he y z Ω).Y ?_;rintro v U _ ⟨B,g,C,ac⟩;refine(PE ac A).Y ?_;rintro _ ab _ ⟨E,m,h1,G,H⟩;exact⟨B.then E (by rintro r J rfl;omega),g,m,C,h1,G,H⟩
theorem Ep{x:Int}(h:aQ .i64 w sv l):
  aq x7 BG [sv,Δ x] w λv I=>Ext w I/\∃r:Int,v=Δ r/\∀i:Nat,l[i]?=σ x->(r=i↔ ∀j,j<i->l[j]? ≠σ x):=by
 refine aF func242 ?_;rw[a7 av.u h];refine cb.range l.length (λi _ U=>Ext w U/\∀j,j<i->l[j]? ≠σ x) h.le ⟨Ext.refl _,λj s=>Ω⟩ ?_ ?_
 .rintro i _ U k hi ⟨a,e⟩ hk;simp only[aW,ao];refine⟨λ_=>?_,λh=>Ω⟩;obtain⟨y,f⟩:=aK (l:=l) hi;rw[bm av.u al.i Ψ (h.W a) f];simp only[bl,ao,aR];refine⟨λhe=>⟨a,i,rfl,λq z=>?_⟩,λhe=>hk _ _ ⟨a,λj s=>?_⟩⟩
  .subst he;refine⟨λC=>by
              have:i=q:=Ω
              subst this;exact e,λA=>?_⟩
   rcases Nat.lt_trichotomy i q with h1|h1|h1
   .exact m2 f (A i h1)
   .omega
   .exact m2 z (e q h1)
  .by_cases B:j=i
   .subst B;rw[f];intro h;exact he (Z4 h).symm
   .exact e j Ω
 .rintro _ U k ⟨a,e⟩;simp only[aW,ao];refine⟨λh=>Ω,λ_=>⟨a,-1,rfl,λi hi=>?_⟩⟩;exact m2 hi (e i (x5.1 hi).1)
theorem PG{g:Nat}(j:ai w0 g av [sv])(a:aQ .i64 w0 sv l):
  pn x7 qJ [Γ g] l.length (λk vs _=>∃x,l[k]?=σ x/\vs=[Δ x]) (λw=>Ext w0 w):=by
 refine⟨qJ.enters,λy aA B w C _ q J r=>?_⟩;refine qO func278 ?_;rw[aD Ψ ((j.W J).cell rfl),a7 av.u (a.W J)];refine b6.range l.length (λi ab=>aA i ab/\Ext w0 ab) a.le ⟨r,J⟩ ?_ ?_
 .rintro i ab k hi ⟨e,f⟩ hk;simp only[aW,ao];refine⟨λ_=>?_,λh=>Ω⟩;obtain⟨x,J⟩:=aK (l:=l) hi;rw[bm av.u al.i Ψ (a.W f) J];refine⟨rfl,(q i _ ab hi f ⟨x,J,rfl⟩ e).Y ?_⟩;rintro _ E (⟨rfl,s,z⟩|⟨rfl,A⟩)
  .simp only[bE,Y1,a6,aR];exact hk _ ⟨z.1,s⟩
  .simp only[bE,X4,bK];exact .inr ⟨i,hi,A⟩
 .rintro ab k ⟨e,_⟩;simp only[aW,ao];exact⟨λh=>Ω,λ_=>.inl e⟩
theorem yo{K:x1->x4->Prop}(h:aQ .i64 w sv l)(j:l.length<=12)(q:∀v I g m,Ext w I->w.heap.size<=g->m.Perm l->m.Pairwise (·<= ·)->aH .i64 al I g v m->K v I):
  aq x7 BF [sv] w λt U=>aq x7 BE [t] U K:=by
 refine Px.Y ?_;rintro _ U _ ⟨f,g,rfl,B,e⟩;have e:ai U g av [sv]:=by rw[h.cells.1]at e;exact e
 refine(PF (PG e (h.W f)) (λ_ _ _ h=>h) (λa b s J=>J.then s (λr C h=>Ω)) (Ext.refl _) rfl j).Y ?_;rintro v ab _ ⟨x,y,m,E,h1,z,A⟩;have:=f.size;exact q v ab y m (f.F x) Ω h1 z A
def PH(w:x4)(am:Λ)(k:Int)(cs a:Λ)(v:x1)(I:x4):Prop:=
 Ext w I/\
  (¬Good a am.length->v= .tuple #[.pointer ν,Δ 1])/\
  (Good a am.length->∃e f h,v= .tuple #[Γ e,Δ 0]/\ds I e f h (fd am a) k (pS am cs a))
theorem PI{g bE:Nat}{W:x1}{cs z:Λ}(h:ds w g bE sv am k cs)(hk:right k)(aE:aQ .i64 w W z)(ck:z.length<=12)(ae:Good z am.length->aX (fd am z)<=4096):
  aq x7 Lj [Γ g,W] w (PH w am k cs z):=by
 have ay:=h;have cl:=h.2.2.1;have cm:=aE.cells;refine iM func243 ?_;refine bo λg1 U c5 bH B=>?_;refine bo λbI ab c6 a1 A=>?_;have s1:=bH.size;have c7:=a1.size;have c8:=B.lt;have c9:=A.lt;have a2:=bH.F a1;have B:=B.W a1;have A:ai ab bI av [W]:=by rw[cm.1]at A;exact A
 rw[aD Ψ (B.cell rfl),cT fp.u];simp only[l9,a6];rw[aD Ψ (A.cell rfl)];have cn:=aE.W a2;have sub:∀{w:x4}{g:Nat}{sv:x1}{k:Int}{bd:x1},ai w g c4 [sv,Δ k,bd]->w.rangeAt g (0+0) [sv]:=λH=>pL H (by
  intro j v ac
  match j,ac with
  |0,ac=>exact ac)
 refine yo cn ck λdm cp da m bJ db a8 cq hm=>?_;have cr:=a8.length_eq;rw[a7 av.u hm.ls];have ct:=a2.F bJ;refine k9.range m.length (λi _ _ ba=>Ext cp ba/\∀j,j<i->m[j]?=σ (j:Int)) Ω ⟨Ext.refl _,λj bb=>Ω⟩ ?_ ?_
 .rintro i _ _ ba X hi ⟨Y,bc⟩ Z;simp only[aW,ao];refine⟨λ_=>?_,λh=>Ω⟩;obtain⟨y,ad⟩:=aK (l:=m) hi;rw[bm av.u al.i Ψ (hm.ls.W Y) ad];simp only[bG,ao,aR];refine⟨λaf dc cu _=>⟨(ct.F Y).F cu,λ_=>rfl,λbe=>?_⟩,λhe=>Z _ _ _ ⟨Y,λj bb=>?_⟩⟩
  .have:=CY be a8 cq i hi;rw[ad]at this;exact m2 (Z4 this).symm af
  .by_cases cw:j=i
   .subst cw;rw[ad];congr 1;omega
   .exact bc j Ω
 .rintro _ _ ba X ⟨Y,bc⟩;simp only[aW,ao,eP];refine⟨λh=>Ω,λ_ dd cz _ _=>?_⟩;have C:=Nn bc a8;have ag:=(bJ.F Y).F cz;have az:=a2.F ag;have B:=B.W ag;have A:=A.W ag;have cA:=aE.W az;have cB:=ay.W az;have de:=ag.size;obtain⟨⟨bd,gs,H,aA,bK⟩,_⟩:=id cB;rw[aD Ψ (A.cell rfl),a7 av.u cA,aD Ψ (B.cell rfl),bR,aY c4.p rfl,bF (cs:=[sv]) bL.p bL.i rfl (sub H)];refine(Dm aA.ls).Y ?_;rintro _ df _ ⟨rfl,K⟩;refine⟨.inl K,?_⟩;simp only[bG,ao];refine⟨λaf dg cC _=>⟨(az.F K).F cC,λ_=>rfl,λbe=>m2 (by rw[be.1]) af⟩,λdh=>?_⟩;have bf:z.length=am.length:=Ω
  have C:Good z am.length:=by rw[<-bf,<-cr];exact C
  have di:=ag.F K;have bg:=az.F K;have B:=B.W K;have A:=A.W K;have bM:=aE.W bg;rw[aD Ψ (A.cell rfl),a7 av.u bM];refine lk av.u al.i Ω Ω λgz cD dj P bN=>?_;have cE:=aH.of (n:=z.length) (b7.full bN Ξ (by simp[maxLen];omega));generalize (x1.slice (σ ⟨gz,0,ν⟩) z.length z.length)=cF at*;have dk:=K.size;have dn:=P.size;have dp:=bN.lt;rw[aD Ψ ((A.W P).cell rfl),a7 av.u (bM.W P)];have bO:=bg.F P;have aB:(fd am z).length=z.length:=uH _ _;refine b6.range z.length (λi aF=>aj (λr=>r=gz) cD aF/\aH .i64 al aF gz cF (upto (fd am z) 0 i)) Ω ⟨aj.refl _ _,by rw[si,aB];exact cE⟩ ?_ ?_
  .rintro i aF X hi ⟨L,aG⟩ Z;simp only[aW,ao];refine⟨λ_=>?_,λh=>Ω⟩;have ah:=bO.then L (by rintro r M rfl;omega);have aI:=P.then L (by rintro r M rfl;omega);obtain⟨p,bh⟩:=aK (l:=z) hi;obtain⟨⟨bd,gs,H,aA,bK⟩,_⟩:=ay.W ah;rw[bm av.u al.i Ψ (aE.W ah) bh,aD Ψ ((B.W aI).cell rfl),bR,aY c4.p rfl,bF (cs:=[sv]) bL.p bL.i rfl (sub H)];refine(sw aA.ls).Y ?_;rintro _ dq _ ⟨rfl,bP⟩;have bQ:=aG.W bP;have cG:(upto (fd am z) 0 i).length=z.length:=by rw[sh,aB]
   rw[jV rfl av.u al.i bQ Ω];refine jW al.i bQ Ω λdr cH _ bS=>?_;simp only[aR];have h1:=(C.2 i p bh).1;have ak:(fd am z)[i]?=σ (jG am p):=by
    unfold fd jG;rw[v8,bh,lw h1.1];rfl
   rw[sk ak]at bS;exact Z _ ⟨(L.F (bP.aa _)).F cH,bS⟩
  .rintro aF X ⟨L,aG⟩;simp only[aW,ao];refine⟨λh=>Ω,λ_=>?_⟩;have ah:=bO.then L (by rintro r M rfl;omega);have aI:=P.then L (by rintro r M rfl;omega);rw[<-aB,sj]at aG;obtain⟨⟨bd,gs,H,aA,bK⟩,_⟩:=ay.W ah;rw[aD Ψ ((B.W aI).cell rfl),aL c4.p 1 H rfl];have aJ:=cl.Np C rfl;have bT:=ae C;have dt:=prod_bound aJ;refine(xv aG.ls).Y ?_;rintro _ bU _ ⟨bV,_,_,_,cI⟩;obtain⟨an,E,Q,rfl,du,dv,dw,aM⟩:=cI aJ bT ⟨hk,Ω,by have:=hk.1;omega⟩;obtain⟨N,aN⟩:∃N:Nat,(aX (fd am z)).toNat=N:=⟨_,rfl⟩;rw[aN]at aM;rw[bx,bz];refine bC fp.i λbW dx dy bX ap=>?_;refine bs fp.i rfl rfl ap (by simp[x1.cells]) λdz cJ dA ap=>?_;have dC:=L.size;have dD:=bV.size;have dE:=bX.size;have bi:=bX.then cJ (by rintro r M rfl;omega);have bY:=bV.F bi;have cK:=aM.W bi;have dF:=ap.lt;obtain⟨⟨bj,bZ,b0,b1,cL⟩,⟨b2,b3,_⟩,_,dG⟩:=id cK;have dH:0<N:=Ω
   have dI:an<bU.heap.size:=by obtain⟨⟨_,_,q,_⟩,_⟩:=id aM;exact q.lt
   have dJ:E<bU.heap.size:=by obtain⟨⟨_,_,_,_,q⟩,_⟩:=id aM;exact sM q Θ
   rw[aD Ψ (ap.cell rfl),bR,aY c4.p rfl,bF (cs:=[Q]) bL.p bL.i rfl (sub b0)];refine uR.Y ?_;rintro _ O _ ⟨G,aO,rfl,dK,b4⟩;have dL:=bi.size;have dM:=G.size;let S:Nat->Prop:=λr=>r=E;let R:=pS am cs z;have bk:R.length=N:=by simp only[R];rw[C4,aN]
   let cM:x4->Prop:=λI=>ai I g1 fp [Γ g]/\ai I bI av [W]/\ai I bW fp [Γ an]/\ai I an c4 [Q,Δ k,bj]/\
    ds I g bE sv am k cs/\aQ .i64 I W z/\aH .i64 al I bZ Q (fd am z)/\ai I aO bL [Q]/\O.heap.size<=I.heap.size
   have facts:∀{a:x4},aj S O a->cM a:=by
    intro a J;have bl:=(aI.F bY).F G;have bn:=bl.put J Ω;have b5:=bg.F bn;refine⟨B.W bn,A.W bn,(ap.W G).aa J (by show¬(bW=E);omega),(b0.W G).aa J (by show¬(an=E);exact b2),ay.W b5,aE.W b5,bB (b1.W G) J (λr M he=>b3 ((show r=E from he)▸M)),
     b4.aa J (by show¬(aO=E);omega),J.size⟩
   have b8:=uQ (g:=aO) (B0:=O.heap.size) (sv:=Q) aJ;rw[aN]at b8;refine oq.old ⟨Nat,ne,mD,#[Γ aO],0,_,_,_,λq I=>aj S O I/\aH .i64 ax I E bj (upto R 0 q),λ_ _ _=>False,rfl,b8.s,
    ?_,λ_ _ J h=>⟨h.1.W J,h.2.1.W J,Y7 h.2.2 J.size⟩,λ_ _ _ J h=>⟨h.1.F (J.aa S),h.2.W J⟩,λ_ _ _ _ _ h=>h,⟨b4,(b1.W G).ls,p9 _⟩,⟨aj.refl _ _,?_⟩,?_,?_,λ_ _ h=>h.elim,λ_ _ _ h=>h.elim⟩
   .rintro _ _ _ _ ⟨_,_,_,_,rfl,_⟩;rfl
   .rw[si,bk];exact cL.W G
   .rintro _ aV q _ dN ⟨_,_,dO⟩ ⟨ak,rfl,dP,gt,cN,dQ,cO⟩ ⟨aP,cP⟩;cases cN;let x:=dl (fd am z) (q:Int);have b9:x.length=z.length:=by simp only[x];rw[kQ,aB]
    intro cQ V _ _;have ca:=cO.W V;rw[a7 av.u ca.ls];refine lk av.u al.i (by rw[kQ];omega) (by rw[kQ];omega) λgo cR dR bp cb=>?_;have cS:=aH.of (n:=(dl (fd am z) (q:Int)).length) (b7.full cb Ξ (by rw[kQ];simp[maxLen];omega));generalize (x1.slice (σ ⟨go,0,ν⟩) (dl (fd am z) (q:Int)).length (dl (fd am z) (q:Int)).length)=cU at*;have dS:=aP.size;have dT:=V.size;have dU:=bp.size;have lo:=cb.lt;have cV:aj S O cR:=aP.F ((V.F bp).aa S);have f:=facts cV;rw[aD Ψ (f.2.1.cell rfl),a7 av.u f.2.2.2.2.2.1];refine b6.range z.length (λj aS=>Ext cQ aS/\∃y:Λ,y.length=z.length/\aH .i64 al aS go cU y/\∀(i:Nat)(p:Int),i<j->z[i]?=σ p->y[p.toNat]?=x[i]?) Ω
     ⟨bp,_,by simp[b9,x],cS,λi p hi=>Ω⟩ ?_ ?_
    .rintro j aS X bb ⟨au,y,bq,aT,br⟩ Z;simp only[aW,ao];refine⟨λ_=>?_,λh=>Ω⟩;have f:=facts (aP.F ((V.F au).aa S));obtain⟨p,aU⟩:=aK (l:=z) bb;obtain⟨u,hu⟩:=aK (l:=x) (i:=j) Ω;have dV:=(C.2 j p aU).1;rw[bm av.u al.i Ψ f.2.2.2.2.2.1 aU,bm av.u al.i Ψ (ca.W au).ls hu,jV (i:=p.toNat) Ω av.u al.i aT Ω];refine jW al.i aT Ω λdW cW dX cX=>?_;simp only[aR];refine Z _ ⟨au.then cW (by rintro r M rfl;omega),_,by simpa using bq,cX,λi aZ hi aw=>?_⟩;by_cases cc:i=j
     .subst cc;rw[aU]at aw;cases aw;rw[Y2 Ω,hu]
     .have dY:=(C.2 i aZ aw).1;have af:p.toNat≠aZ.toNat:=λhe=>by
       have:p=aZ:=Ω
       subst this;exact cc (C.inj aw aU)
      rw[W0 af];exact br i aZ Ω aw
    .rintro aS X ⟨au,y,bq,aT,br⟩;simp only[aW,ao];refine⟨λh=>Ω,λ_ cY cd _ _=>?_⟩;have ad:=C2 C (by rw[b9,bf]) (by rw[bq,bf]) λi p ce=>br i p (x5.1 ce).1 ce;have cf:=au.F cd;have cg:aj S O cY:=aP.F ((V.F cf).aa S);obtain⟨f1,f2,f3,f4,f5,f6,f7,f8,f9⟩:=facts cg;rw[aD Ψ (f3.cell rfl),aL c4.p 2 f4 rfl,aD Ψ (f1.cell rfl)];refine(xw f5 (aT.ls.W cd)).Y ?_;rintro _ dZ _ ⟨rfl,bu⟩;refine⟨.inl bu,?_⟩;obtain⟨e,he⟩:=yn am y cs;rw[he,bx,bz];have cZ:=cg.F (bu.aa S);have ch:=(cP.W ((V.F cf).F bu));have cG:(upto R 0 q).length=N:=by rw[sh,bk]
     rw[jV rfl aC.u ax.i ch Ω];refine jW ax.i ch Ω λc0 c1 ea ci=>?_;have cj:aj S O c0:=cZ.F (c1.Y λr _ h=>h);obtain⟨f1,f2,f3,f4,f5,f6,f7,f8,f9⟩:=facts cj;have c2:R[q]?=σ (bt am cs y):=by
      simp only[R,pS];rw[v8,List.getElem?_range (by rw[aN];exact ak),ad];rfl
     rw[sk c2]at ci;exact⟨⟨f8,f7.ls,f9⟩,⟨cj,ci⟩,λh=>by cases h⟩
   .rintro q eb ak ⟨bw,bA⟩;rw[show q=N from ak]at bA;have f:=facts bw;rw[aD Ψ (f.2.2.1.cell rfl)];intro ec bD _;obtain⟨f1,f2,f3,f4,f5,f6,f7,f8,f9⟩:=facts (bw.F (bD.aa S));rw[<-bk,sj]at bA;have bl:=(ah.F bY).F G;refine⟨(bl.put bw Ω).F bD,λc3=>m2 C c3,λ_=>⟨an,E,Q,rfl,⟨bj,bZ,f4,f7,bA.W bD⟩,⟨b2,b3,bT⟩,aJ,C4 _ _ _⟩⟩
def iQ(l:Λ):Prop:=∀(i j:Nat)(x y:Int),i<j->l[i]?=σ x->l[j]?=σ y->x<y
theorem iQ.inj(h:iQ l){i:Nat}{x:Int}(hi:l[i]?=σ x)(a:l[j]?=σ x):i=j:=by
 rcases Nat.lt_trichotomy i j with h1|h1|h1
 .have:=h i j x x h1 hi a;omega
 .exact h1
 .have:=h j i x x h1 a hi;omega
def dedup(l:Λ):Nat->Λ
 |0=>[]
 |j+1=>if 0<j/\l[j]?=l[j-1]? then dedup l j else dedup l j++[l.getD j 0]
theorem PJ(l:Λ):∀j,(dedup l j).length<=j
 :=by
 intro a;induction a<;>grind [dedup]
theorem yp(a:0<j)(h:l[j]?=l[j-1]?):dedup l (j+1)=dedup l j:=by
 grind [dedup]
theorem yq{x:Int}(J:l[j]?=σ x)(h:0<j->l[j]? ≠l[j-1]?):dedup l (j+1)=dedup l j++[x]:=by
 grind [dedup]
theorem yr:∀{j:Nat},j<=l.length->(∀i,i<j->0<i->l[i]? ≠l[i-1]?)->dedup l j=l.take j
 :=by
 intro a;induction a<;>grind [dedup,yq,u7]
theorem Er{l:Λ}(V:l.Pairwise (·<= ·)):∀{j:Nat},j<=l.length->(iQ (dedup l j)/\∀x,x∈dedup l j↔x∈l.take j)
 |0,_=>⟨λi j x y _ h=>by simp[dedup]at h,by grind [dedup]⟩
 |j+1,C=>by
  obtain⟨h1,r⟩:=Er V (j:=j) Ω;have J:l[j]?=σ l[j]:=x8 Ω;by_cases q:0<j/\l[j]?=l[j-1]?
  .rw[yp q.1 q.2];refine⟨h1,λx=>?_⟩;rw[r,u7,J];simp only[o8,j5,Z7];refine⟨.inl,λh=>h.elim id λhe=>?_⟩;subst he;have E:(l.take j)[j-1]?=σ l[j]:=by grind
   grind
  .have s:0<j->l[j]? ≠l[j-1]?:=by grind
   rw[yq J s];have w:∀x∈dedup l j,x<l[j]:=λx F=>by
    grind [List.getElem_of_mem,U3]
   refine⟨λa b x y z f e=>?_,λx=>?_⟩
   .have A:=(x5.1 e).1;simp only[o4,X5,List.length_nil]at A;rw[V3 Ω]at f;by_cases B:b=(dedup l j).length
    .subst B;rw[X1 (p9 _),V8]at e;simp at e;subst e;exact w x (x6 f)
    .rw[V3 Ω]at e;exact h1 a b x y z f e
   grind [u7]
def sO(l:Λ):Prop:=∀(j:Nat)(x:Int),l[j]?=σ x->0<=x/\(0<j->∀y,l[j-1]?=σ y->y<x)
theorem sO.up(h:sO l):iQ l:=by
 intro i j x y r J;induction j generalizing y with
 |zero=>omega
 |succ j f=>
  intro e;have s:=(x5.1 e).1;obtain⟨z,a⟩:∃z,l[j]?=σ z:=⟨_,x8 (show j<l.length by omega)⟩;have h1:=(h (j+1) y e).2 Ω z (by simpa using a);by_cases q:i=j
  .subst q;rw[J]at a;cases a;exact h1
  .have:=f z Ω a;omega
theorem PK(h:iQ l)(a:∀x∈l,0<=x):sO l:=λj x J=>⟨a x (x6 J),λf y e=>h (j-1) j y x Ω e J⟩
theorem Es{g E:Nat}{cQ:x1}{cs:Λ}(h:ds w g E sv am k cs)(a:aQ .i64 w cQ l):
  aq x7 Lk [Γ g,cQ] w λv I=>Ext w I/\∃c,v= .bool c/\(c=ms↔l.length=am.length/\sO l):=by
 obtain⟨⟨bd,gs,G,hm,f⟩,_⟩:=h;have sub:w.rangeAt g (0+0) [sv]:=pL G (by
  intro j v ac
  match j,ac with
  |0,ac=>exact ac)
 refine aF func244 ?_;rw[a7 av.u a,bR,aY c4.p rfl,bF (cs:=[sv]) bL.p bL.i rfl sub];refine(Dm hm.ls).Y ?_;rintro _ U _ ⟨rfl,q⟩;simp only[bG,ao];refine⟨λH=>⟨q,ne,rfl,(λh=>by cases h),λh=>m2 (by rw[h.1]) H⟩,λB=>?_⟩;have B:l.length=am.length:=Ω
 rw[a7 av.u (a.W q)];refine cb.range l.length (λi _ ab=>Ext w ab/\∀(j:Nat)(x:Int),j<i->l[j]?=σ x->0<=x/\(0<j->∀y,l[j-1]?=σ y->y<x)) a.le ⟨q,λj x K=>Ω⟩ ?_ ?_
 .rintro i _ ab L hi ⟨e,r⟩ M;simp only[aW,ao];refine⟨λ_=>?_,λh=>Ω⟩;obtain⟨x,J⟩:=aK (l:=l) hi;have R:=a.le;rw[bm av.u al.i Ψ (a.W e) J];refine a1 (λv N=>ab=N/\∃c,v= .bool c/\(c=ne↔0<=x/\(0<i->∀y,l[i-1]?=σ y->y<x))) ?_ ?_
  .rintro _ _ ⟨rfl,c,rfl,f⟩;rw[b1];simp only[aR];refine⟨λO=>⟨e,ne,rfl,(λh=>by cases h),λh=>?_⟩,λah=>M _ _ ⟨e,λj P K s=>?_⟩⟩
   .have:=f.2 (h.2 i x J);rw[O]at this;cases this
   .by_cases Q:j=i
    .subst Q;rw[J]at s;cases s;exact f.1 ah
    .exact r j P Ω s
  .intro aA z;simp only[aW,bU,c5,ao];refine⟨λS=>z _ _ ⟨rfl,ms,rfl,(λh=>by cases h),λh=>Ω⟩,λV=>⟨λW=>?_,λX=>z _ _ ⟨rfl,ne,rfl,λ_=>⟨Ω,λh=>Ω⟩,λ_=>rfl⟩⟩⟩;obtain⟨y,A⟩:∃y,l[i-1]?=σ y:=⟨_,x8 (show i-1<l.length by omega)⟩;rw[hx Ω Ω,fO (i:=i-1) Ω av.u al.i Ψ (a.W e) A];simp only[cJ];refine z _ _ ⟨rfl,_,rfl,?_⟩;rw[decide_eq_false_iff_not];refine⟨λh=>⟨Ω,λ_ Y C=>by rw[A]at C;cases C;omega⟩,λh=>by have:=h.2 Ω y A;omega⟩
 .rintro _ ab L ⟨e,r⟩;simp only[aW,ao];exact⟨λh=>Ω,λ_=>⟨e,ms,rfl,λ_=>⟨B,λj x J=>r j x (x5.1 J).1 J⟩,λ_=>rfl⟩⟩
def jo(l:Λ)(x:Int):Int:=if x∈l then(l.idxOf x:Int)else-1
theorem Et{i:Nat}{x:Int}(h:iQ l)(hi:l[i]?=σ x):jo l x=i:=by
 have hm:x∈l:=x6 hi;have a:=List.idxOf_lt_length_of_mem hm;have e:=h.inj (by rw[x8 a,List.getElem_idxOf a]) hi;unfold jo;rw[lw hm,e]
theorem PL{x:Int}(h:x∉l):jo l x= -1:=m1 h
theorem ys{x:Int}(h:aQ .i64 w sv l)(hu:iQ l):
  aq x7 BG [sv,Δ x] w λv I=>v=Δ (jo l x)/\Ext w I:=by
 refine aF func242 ?_;rw[a7 av.u h];refine cb.range l.length (λi _ U=>Ext w U/\∀j,j<i->l[j]? ≠σ x) h.le ⟨Ext.refl _,λj q=>Ω⟩ ?_ ?_
 .rintro i _ U k hi ⟨a,e⟩ hk;simp only[aW,ao];refine⟨λ_=>?_,λh=>Ω⟩;obtain⟨y,f⟩:=aK (l:=l) hi;rw[bm av.u al.i Ψ (h.W a) f];simp only[bl,ao,aR];refine⟨λhe=>⟨?_,a⟩,λhe=>hk _ _ ⟨a,λj q=>?_⟩⟩
  .subst he;rw[Et hu f]
  .by_cases r:j=i
   .subst r;rw[f];intro h;exact he (Z4 h).symm
   .exact e j Ω
 .rintro _ U k ⟨a,e⟩;simp only[aW,ao];refine⟨λh=>Ω,λ_=>⟨?_,a⟩⟩;rw[PL];intro hm;obtain⟨i,hi,he⟩:=List.getElem_of_mem hm;exact e i hi (by rw[x8 hi,he])
def gK(x d7 scope:Λ):Λ:=scope.map λp=>x.getD (d7.idxOf p) 0
theorem PM(x d7 scope:Λ):(gK x d7 scope).length=scope.length:=by simp[gK]
theorem Eu{dr q:x1}{x d7 scope:Λ}(J:aQ .i64 w dr x)(ac:aQ .i64 w q d7)(V:aQ .i64 w sv scope)(hu:iQ d7)(B:∀p∈scope,p∈d7)(N:x.length=d7.length)(O:scope.length<=1000):
  aq x7 Lp [dr,q,sv] w λv I=>Ext w I/\∃g,w.heap.size<=g/\aH .i64 al I g v (gK x d7 scope):=by
 refine aF func249 ?_;rw[a7 av.u V];refine lk av.u al.i Ω Ω λgz U P s C=>?_;have E:=aH.of (n:=scope.length) (b7.full C Ξ (by simp[maxLen];omega));generalize (x1.slice (σ ⟨gz,0,ν⟩) scope.length scope.length)=G at*;rw[a7 av.u (V.W s)];have j:=PM x d7 scope;refine b6.range scope.length (λi ab=>Ext w ab/\aH .i64 al ab gz G (upto (gK x d7 scope) 0 i)) Ω ⟨s,by rw[si,j];exact E⟩ ?_ ?_
 .rintro i ab H hi ⟨a,hm⟩ K;simp only[aW,ao];refine⟨λ_=>?_,λh=>Ω⟩;obtain⟨p,ae⟩:=aK (l:=scope) hi;have y:=B p (x6 ae);have Q:=List.idxOf_lt_length_of_mem y;rw[bm av.u al.i Ψ (V.W a) ae];refine(ys (ac.W a) hu).Y ?_;rintro _ R _ ⟨rfl,f⟩;have e:jo d7 p=(d7.idxOf p:Int):=lw y;obtain⟨u,z⟩:∃u,x[d7.idxOf p]?=σ u:=⟨_,x8 Ω⟩;have S:(upto (gK x d7 scope) 0 i).length=scope.length:=by rw[sh,j]
  rw[fO (i:=d7.idxOf p) e av.u al.i Ψ (J.W (a.F f)) z,jV rfl av.u al.i (hm.W f) Ω];refine jW al.i (hm.W f) Ω λW L _ A=>?_;simp only[aR];have M:(gK x d7 scope)[i]?=σ u:=by
   unfold gK;rw[v8,ae,Y9,p8,z];rfl
  rw[sk M]at A;exact K _ ⟨(a.F f).then L (by rintro r X rfl;omega),A⟩
 .rintro ab H ⟨a,hm⟩;simp only[aW,ao];refine⟨λh=>Ω,λ_=>⟨a,gz,Ω,?_⟩⟩;rw[<-j,sj]at hm;exact hm
theorem Ev(h:t≠[])(hw:∀b∈t,ca b=ms):lex t=([t],ms):=by
 cases t with
 |nil=>exact m2 rfl h
 |cons b q=>
  have a:q.dropWhile ca=[]:=by
   have:∀(q:Λ),(∀x∈q,ca x=ms)->q.dropWhile ca=[]/\q.takeWhile ca=q:=λq a=>by
    induction q with
    |nil=>simp
    |cons x q e=>
     have:=e λy f=>a y (.tail _ f);simp[a x (.head _),this.1,this.2]
   exact(this q λx J=>hw x (.tail _ J)).1
  have j:q.takeWhile ca=q:=by
   have:∀(q:Λ),(∀x∈q,ca x=ms)->q.takeWhile ca=q:=λq a=>by
    induction q with
    |nil=>simp
    |cons x q e=>simp[a x (.head _),e λy f=>a y (.tail _ f)]
   exact this q λx J=>hw x (.tail _ J)
  rw[Ct (hw b (.head _)),a,j]
theorem Ew{p:x1}(h:aQ .u8 w p l)(e:Bytes l)(f:l.length<=100000):aq x7 Bl [p] w λv I=>Ext w I/\∃g R,v=Γ g/\w.heap.size<=g/\jj I g R (lex l).1 (lex l).2/\¬R g:=by
 refine(CB h e f).Y ?_;rintro _ U _ ⟨j,g,rfl,q,s,a⟩;obtain⟨h1,z,A,x,bf,hm⟩:=id a;exact⟨j,g,λr=>r≠g,rfl,q,⟨s,l,0,a,λr y=>cv hm x Φ y,by rw[List.drop_zero]⟩,λh=>h rfl⟩
theorem PN{p:x1}(h:aQ .u8 w p t)(x:Bytes t)(y:t.length<=100000)(z:t≠[])(hw:∀b∈t,ca b=ms):aq x7 LC [p] w λv I=>Ext w I/\∃n:Int,v= .tuple #[Δ 1,Δ n,Δ 0]:=by
 have A:=Ev z hw;refine aF func274 ?_;refine(Ew h x y).Y ?_;rintro _ U _ ⟨B,g,R,rfl,G,j,H⟩;rw[A]at j;refine⟨λ_ _ _ a ab=>aj (λr=>r=g) U ab/\((a=Δ 0/\jj ab g R [t] ms)\/(a=Δ 1/\jj ab g R [] ms)),λ_ _ _ a _=>1-(bY a).toNat,⟨aj.refl _ _,.inl ⟨rfl,j⟩⟩,?_⟩;rintro _ _ _ _ ab ⟨q,⟨rfl,e⟩|⟨rfl,e⟩⟩
 .refine (sr e).Y ?_;rintro v C _ ⟨f,E,n,rfl⟩;rw[fP,fQ,fR,bl,ao];refine⟨λ_=>?_,λh=>m2 rfl h⟩;rw[aR,hx Ω Ω];exact⟨⟨q.F f,.inr ⟨rfl,E⟩⟩,by simp[bY]⟩
 .refine (sr e).Y ?_;rintro v C _ ⟨f,n,rfl⟩;rw[fP,fQ,fR,bl,ao];refine⟨λh=>by simp at h,λ_=>?_⟩;rw[bl,ao];refine⟨λh=>by simp at h,λ_=>?_⟩;have s:=B.then (q.F f) (λr J he=>by have he:r=g:=he;omega);rw[a7 cU.u (h.W s)];exact⟨s,_,rfl⟩
theorem PO(a:Bytes t)(e:t.length<=100000)(f:t≠[])(hw:∀b∈t,ca b=ms):aq x7 Le [ce t] w λv I=>v= .bool ms/\Ext w I:=by
 have y:=Ev f hw;refine aF func234 ?_;refine xB de.u cU.u cS.u a Ω λbv U j z _=>?_;refine(PN z a e f hw).Y ?_;rintro _ ab _ ⟨q,n,rfl⟩;rw[fP,fQ,fR];refine xB de.u cU.u cS.u a Ω λK L s A _=>?_;refine(Ew A a e).Y ?_;rintro _ M _ ⟨B,g,R,rfl,N,x,O⟩;rw[y]at x;refine(sr x).Y ?_;rintro _ C _ ⟨E,_,m,rfl⟩;rw[fP,fQ,fR];have G:=(((j.F q).F (s.F B))).then E (λr P he=>by
  have he:r=g:=he;have:=j.size;have:=q.size;have:=s.size;omega)
 refine a1 (λv H=>C=H/\v= .bool ms) ?_ ?_
 .rintro _ _ ⟨rfl,rfl⟩;exact⟨rfl,G⟩
 .intro aA J;rw[bl,ao];refine⟨λ_=>?_,λh=>m2 rfl h⟩;rw[bl,ao];refine⟨λ_=>?_,λh=>m2 rfl h⟩;rw[Cp a a];exact J _ _ ⟨rfl,by rw[m3 rfl]⟩
theorem PP{x:Int}:aq x7 xf [Δ x] w λv I=>v= .bool (decide (¬jT x))/\Ext w I:=by
 refine aF func233 ?_;refine a1 (λv U=>w=U/\v= .bool (decide (¬jT x))) ?_ ?_
 .rintro _ _ ⟨rfl,rfl⟩;exact⟨rfl,Ext.refl _⟩
 .intro aA e;rw[aW,ao];refine⟨λh=>e _ _ ⟨rfl,by rw[m3];intro a;have:=a.1;omega⟩,λh=>?_⟩;rw[bU];refine e _ _ ⟨rfl,?_⟩;congr 1;rw[U1,m6,m6];exact⟨λf a=>by have:=a.2;omega,λf=>by
   by_cases j:32<x
   .exact j
   .exact m2 ⟨Ω,Ω⟩ f⟩
theorem PQ(h:aQ .i64 w sv l)(e:∀x∈l,jT x):
  aq x7 xe [sv,.func (.func xf) #[] #[]] w λv I=>v= .bool ne/\Ext w I:=by
 refine aF func231 ?_;refine aq.Y (K:=λv I=>v=Δ (-1)/\Ext w I) ?_ ?_
 .refine aF func136 ?_;rw[a7 av.u h];refine cb.range l.length (λ_ _ U=>Ext w U) h.le (Ext.refl _) ?_ ?_
  .rintro i _ U k hi J hk;refine bM Ω ?_;obtain⟨x,a⟩:=aK (l:=l) hi;rw[bm av.u al.i Ψ (h.W J) a];show aq x7 xf [Δ x] U _;refine PP.Y ?_;rintro _ ab _ ⟨rfl,f⟩;rw[ao];refine⟨λj=>m2 (e x (x6 a)) j,λ_=>?_⟩;rw[aR];exact hk _ _ (J.F f)
  .rintro _ U k J;rw[aW,ao];exact⟨λh=>Ω,λ_=>⟨rfl,J⟩⟩
 .rintro _ U _ ⟨rfl,J⟩;rw[cJ];exact⟨rfl,J⟩
theorem vm{m:Bool}{S R:ak}{d:iP}(h:ay.rep m S R w cs d):∃sv g a aV gs,cs=[sv,Γ g]/\aQ .i64 w sv d.1/\gJ w g a aV gs d.2.am d.2.k d.2.o d.2.D:=by
 obtain⟨c,e,A,B,rfl,_,_,_,h1,f⟩:=h;have h1:=h1;obtain⟨u,rfl⟩:=W6.1 (show c.length=1 from ay.len h1);obtain⟨g,m,sv,gs,rfl,j,_⟩:=f;exact⟨u,g,m,sv,gs,rfl,dy h1,j⟩
theorem PR{V:Nat}{f:cd}{d:iP}{x:cE}{m:Bool}{S R:ak}(af:mY w V f)(ah:fC N f)(aj:x∈f.d8)(an:sN f.k x d)(ap:ay.rep m S R w cs d):
  aq x7 LD [Γ V,.agg cs.toArray] w λv I=>v= .bool ms/\Ext w I:=by
 obtain⟨ho,aJ,gz,aM,W,X,_,_⟩:=af;obtain⟨sv,ag,aN,aV,gs,rfl,s,J⟩:=vm ap;obtain⟨aw,Y,ax,aP,aQ,aS⟩:=an;obtain⟨E,aT,aU⟩:=ah.d8 x aj;rw[aw]at s;refine aF func276 ?_;refine bo λau U aX A G=>?_;have G:ai U au cP [sv,Γ ag]:=by obtain⟨_,_,_,rfl⟩:=dA s;exact G
 refine a1 (λv ab=>Ext U ab/\v= .bool ne) ?_ ?_
 rotate_left
 .intro aA K;intro ab q _ _;have z:=G.W q;rw[aO cP.p 1 z rfl,cT fb.u];simp only[l9,a6];rw[aO cP.p 1 z rfl,aL cL.p 1 (W.W (A.F q)) rfl];refine(NZ (J.W (A.F q)).is).Y ?_;rintro _ B _ ⟨rfl,a⟩;refine⟨.inl a,?_⟩;rw[bG,ao];refine⟨λh=>m2 ax h,λ_=>?_⟩;have C:=z.W a;have L:=q.F a;rw[aO cP.p 1 C rfl,aO cP.p 0 C rfl,a7 av.u (s.W (A.F L))];refine(N0 (J.W (A.F L)).is).Y ?_;rintro _ H _ ⟨rfl,e⟩;refine⟨.inl e,?_⟩;rw[bG];refine K _ _ ⟨L.F e,?_⟩;rw[m5];intro h;exact h (by rw[Y,E.d6,u9])
 rintro _ ab ⟨q,rfl⟩;rw[a6];have z:=G.W q;have M:=A.F q;rw[aO cP.p 0 z rfl,a7 av.u (s.W M)];refine cb.range x.scope.length (λ_ _ B=>Ext ab B) Ω (Ext.refl _) ?_ ?_
 rotate_left
 .rintro _ B k a;rw[aW,ao];exact⟨λh=>Ω,λ_=>⟨rfl,M.F a⟩⟩
 rintro i _ B k hi a hk;obtain⟨v,ac⟩:=aK (l:=x.scope) hi;have aY:=E.scope.2 v (x6 ac);have O:=M.F a;have C:=z.W a;have Z:=W.W O;have az:f.d6[v.toNat]?=σ (f.d6.getD v.toNat 0):=by
  rw[p8,x8 Ω];rfl
 refine bM Ω ?_;rw[bm av.u al.i Ψ (s.W O) ac];refine a1 (λb H=>Ext B H/\b= .bool ne) ?_ ?_
 .rintro _ H ⟨e,rfl⟩;rw[a6,aR];exact hk _ _ (a.F e)
 .intro aA K;intro H e _ _;have P:=O.F e;refine cc Ω ?_;rw[aL cL.p 2 (Z.W e) rfl,a7 av.u (X.ls.W P),cJ,ao];refine⟨λh=>Ω,λ_=>?_⟩;rw[aO cP.p 0 (C.W e) rfl];refine(Ep (s.W P)).Y ?_;rintro _ aZ _ ⟨aa,r,rfl,aB⟩;have aC:r=(i:Int):=(aB i ac).2 λj a2 aE=>by have:=l8 E.scope.1 aE ac;omega
  subst aC;have ad:=P.F aa;have Q:=e.F aa;rw[bG,ao];refine⟨λh=>m2 rfl h,λ_=>?_⟩;rw[aO cP.p 1 (C.W Q) rfl,aL cL.p 2 (Z.W Q) rfl];refine mN (y:=v) (i:=v.toNat) Ω av.u al.i (X.ls.W ad) az λb o aG=>?_;rw[aD Ψ aG];refine(xZ (J.W ad).is).Y ?_;rintro a8 ba _ ⟨ae,bb,bc,aH⟩;refine⟨.inl ae,?_⟩;have aI:d.2.am[i]?=σ (f.d6.getD v.toNat 0):=by
   rw[Y,E.d6,v8,ac];rfl
  rw[bm av.u al.i Ψ aH.ls aI,bG];exact K _ _ ⟨Q.F ae,by rw[m5 (λh=>h rfl)]⟩
theorem PS{f:cd}{d:iP}{x:cE}{m:Bool}{S R:ak}(q:mY w j f)(r:fC N f)(s:x∈f.d8)(y:sN f.k x d)(a:ay.rep m S R w cs d):
  aq x7 xg [Γ j,.agg cs.toArray] w λv I=>v= .bool ne/\Ext w I:=by
 refine aF func237 ?_;refine bo λau U C e h=>?_;have z:cs.length=2:=ay.len a;have h:ai U au cP cs:=by
  obtain⟨sv,ag,E,aV,gs,rfl,A,G⟩:=vm a;obtain⟨_,_,_,rfl⟩:=dA A;exact h
 rw[bF cP.p cP.i z h.range];refine(PR (q.W e) r s y (bP a e)).Y ?_;rintro _ ab _ ⟨rfl,B⟩;rw[bE];exact⟨rfl,e.F B⟩
theorem PT{e:Nat}{f:cd}{q:x1}{a:List iP}{m:Bool}{S R:ak}(z:mY w e f)(A:fC N f)(j:ay.rep m S R w [q] a)(r:vl f.k f.d8 a):
  aq x7 Lg [q,.func (.func xg) #[Γ e] #[]] w λv I=>v= .bool ne/\Ext w I:=by
 refine aF func236 ?_;refine aq.Y (K:=λv I=>v=Δ (-1)/\Ext w I) ?_ ?_
 .refine aF func275 ?_;rw[jB dW.u j];refine cb.range a.length (λ_ _ U=>Ext w U) (uo j) (Ext.refl _) ?_ ?_
  .rintro i _ U k hi J hk;refine bM Ω ?_;obtain⟨d,s⟩:=aK (l:=a) hi;obtain⟨x,y⟩:∃x,f.d8[i]?=σ x:=⟨_,x8 (by have:=r.1;omega)⟩;refine nQ (α:=iP) cP.p rfl dW.u cP.i (bP j J) s λcs B=>?_;show aq x7 xg [Γ e,.agg cs.toArray] U _;refine(PS (z.W J) A (x6 y) (r.2 i x d y s) B).Y ?_;rintro _ ab _ ⟨rfl,C⟩;rw[a6,aR];exact hk _ _ (J.F C)
  .rintro _ U k J;rw[aW,ao];exact⟨λh=>Ω,λ_=>⟨rfl,J⟩⟩
 .rintro _ U _ ⟨rfl,J⟩;rw[cJ];exact⟨rfl,J⟩
def nZ(a:List cE):Nat:=(a.map λx=>x.lines.length).sum
theorem PU{ae:Nat}{f:cd}(af:mY w ae f)(r:fC N f)(be:N<=60000)(S:f.name≠[]/\∀b∈f.name,ca b=ms):
  aq x7 KC [Γ ae] w λv I=>Ext w I/\∃e:Int,v=Δ e/\(nZ f.d8<=16384->e=0):=by
 obtain⟨ho,bf,gz,y,A,V,W,B⟩:=id af;have bg:=r.name;have az:Bytes f.name:=λb aB=>by
  have:=m7 (S.2 b aB);omega
 refine aF func181 ?_;rw[cT xi.u];simp only[l9,a6];refine a1 (λv U=>Ext w U/\v= .bool ne) ?_ ?_
 rotate_left
 .intro aA s;rw[aL cL.p 0 A rfl];refine(PO az Ω S.1 S.2).Y ?_;rintro _ U _ ⟨rfl,q⟩;rw[bE,Y1,a6];rw[aL cL.p 2 (A.W q) rfl,a7 av.u (V.ls.W q),bl,ao];refine⟨λh=>by have:=r.d6.1;omega,λ_=>?_⟩;rw[aL cL.p 2 (A.W q) rfl];refine(PQ (V.ls.W q) r.d6.2.2).Y ?_;rintro _ ab _ ⟨rfl,C⟩;have ah:=q.F C;rw[a6,aL cL.p 1 (A.W ah) rfl];refine B5.Y ?_;rintro _ E _ ⟨rfl,G⟩;have M:=ah.F G;rw[m3 (show right f.k from r.k),bE,Y1,a6,aL cL.p 3 (A.W M) rfl,lh];refine(PT (af.W M) r (bP W M) B).Y ?_;rintro _ ai _ ⟨rfl,aD⟩;exact s _ _ ⟨M.F aD,rfl⟩
 rintro _ U ⟨q,rfl⟩;rw[a6];have O:=A.W q;refine a1 (λv ab=>U=ab/\v= .bool ne) ?_ ?_
 rotate_left
 .intro aA s;rw[aL cL.p 0 O rfl,pO de.u,bU,ao];refine⟨λh=>Ω,λ_=>?_⟩;rw[aL cL.p 2 O rfl,a7 av.u (V.ls.W q),bU,ao];refine⟨λh=>by have:=r.d6.2.1;omega,λ_=>?_⟩;rw[aL cL.p 3 O rfl,jB dW.u (bP W q),bU];exact s _ _ ⟨rfl,by rw[m5];have:=r.mR;have:=B.1;omega⟩
 rintro _ _ ⟨rfl,rfl⟩;have aj:=bP W q;rw[aL cL.p 3 O rfl,jB dW.u aj];refine⟨λaE aG X ab=>∃i n:Nat,X=Δ (i:Int)/\i<=y.length/\aE=Δ (n:Int)/\aG= .bool ne/\Ext U ab/\n<=nZ (f.d8.take i)/\n<=i*60000,λ_ _ X _=>y.length-(bY X).toNat,
  ⟨0,0,rfl,X9 _,rfl,rfl,Ext.refl _,X9 _,Ω⟩,?_⟩
 rintro _ _ _ ab ⟨i,n,rfl,hi,rfl,rfl,C,aI,bh⟩;have bi:y.length<=256:=by rw[B.1];exact r.mR
 rw[aW,ao];refine⟨λak=>?_,λbj=>?_⟩
 .have ak:i<y.length:=Ω
  obtain⟨d,an⟩:=aK (l:=y) ak;obtain⟨x,Y⟩:∃x,f.d8[i]?=σ x:=⟨_,x8 (by have:=B.1;omega)⟩;have P:=B.2 i x d Y an;obtain⟨Q,aJ,aM⟩:=r.d8 x (x6 Y);have bk:=Q.len;refine jw (λa b E=>Ext ab E/\a=Δ ((n+d.2.D.length:Nat):Int)/\b= .bool ne) ?_ ?_
  .rintro _ _ E ⟨G,rfl,rfl⟩;rw[aR,hx Ω Ω];have aN:=P.2.2.2.2.1;refine⟨⟨i+1,n+d.2.D.length,rfl,Ω,rfl,rfl,C.F G,?_,?_⟩,by simp only[bY];omega⟩
   .have e:nZ (f.d8.take (i+1))=nZ (f.d8.take i)+x.lines.length:=by
     unfold nZ;rw[u7,Y,o8,Z2,List.sum_append,List.map_cons,List.map_nil,List.sum_cons,List.sum_nil,Nat.add_zero]
    omega
   .have:(i+1)*60000=i*60000+60000:=Ω
    have bn:d.2.D.length<=60000:=Ω
    omega
  .intro aA s;refine nQ (α:=iP) cP.p rfl dW.u cP.i (bP aj C) an λcs aP=>?_;obtain⟨sv,ag,bo,aV,gs,rfl,aQ,ap⟩:=vm aP;refine bC cP.i λau E bp G aS=>?_;refine b8 (vs:=[sv,Γ ag]) cP.i rfl rfl (by intro v ac;simp at ac;rcases ac with rfl|rfl<;>first|exact aQ.cells.2|rfl) aS λai aT bq aw=>?_;have Z:Ext ab ai:=G.put aT Ω;rw[aO cP.p 1 aw rfl];refine(NY (ap.W Z).is).Y ?_;rintro _ br _ ⟨rfl,aa⟩;have aN:=P.2.2.2.2.1;rw[aR,hx Ω Ω,aO cP.p 1 (aw.W aa) rfl];refine(xZ ((ap.W Z).W aa).is).Y ?_;rintro bs ad _ ⟨aU,bt,bu,ay⟩;rw[a7 av.u ay.ls];have bw:d.2.am.length<=6:=by rw[P.2.1,Q.d6,u9];exact aJ
   refine cb.range d.2.am.length (λj out R=>Ext ad R/\∃gr,ad.heap.size<=gr/\aH .i64 ax R gr out (d.2.am.take j)) Ω ⟨Ext.refl _,ad.heap.size,p9 _,aH.nil _ _ _ _⟩ ?_ ?_
   .rintro j out R k aX ⟨H,gr,aY,J⟩ hk;obtain⟨z,K⟩:=aK (l:=d.2.am) aX;refine bM Ω ?_;rw[bm av.u al.i Ψ (ay.ls.W H) K];refine eI aC.u ax.i rfl λa ga aZ bx L a2=>?_;refine kN aC.u ax.i rfl (J.W L) a2.ls Θ Θ λbz a8 bA bB ba bb=>?_;have bD:=H.size;have bF:=L.size;rw[aR];refine hk _ _ ⟨(H.F L).put bb Ω,a8,Ω,?_⟩;rw[u7,K];exact ba
   .rintro out R k ⟨H,gr,aY,J⟩;rw[o6]at J;refine cc Ω ?_;rw[a6];have bc:d.2.am=x.d6:=P.2.1;rw[bc]at J;refine(Dj J.ls λz K=>?_).Y ?_
    .rw[Q.d6]at K;obtain⟨v,ac,rfl⟩:=o9.1 K;have bG:=Q.scope.2 v ac;refine(r.d6.2.2 _ ?_).1;rw[p8,x8 Ω];exact T9 _
    .rintro _ aZ _ ⟨rfl,L⟩;refine s _ _ _ ⟨(((Z.F aa).F aU).F H).F L,by congr 1,by rw[aM]⟩
 .have bd:i=y.length:=Ω
  subst bd;rw[B.1,o6]at aI;refine a1 (λv E=>ab=E/\v= .bool (decide (16384<(n:Int)))) ?_ ?_
  .rintro _ _ ⟨rfl,rfl⟩;rw[ao];refine⟨λh=>⟨q.F C,5,rfl,λbH=>Ω⟩,λh=>⟨q.F C,0,rfl,λ_=>rfl⟩⟩
  .intro aA s;rw[a6,bU];exact s _ _ ⟨rfl,rfl⟩
theorem vn:∀{a b:Λ}{i:Nat},(∀(j:Nat)(x y:Int),j<i->a[j]?=σ x->b[j]?=σ y->x=y)->i<=a.length->i<=b.length->j2 a b=j2 (a.drop i) (b.drop i)
 |_,_,0,_,_,_=>Ξ
 |[],_,i+1,_,h,_=>by simp at h
 |_::_,[],i+1,_,_,h=>by simp at h
 |x::a,y::b,i+1,he,h1,e=>by
  have f:=he 0 x y Ω rfl rfl;subst f;simp only[j2,Int.lt_irrefl,if_false,List.drop_succ_cons];exact vn (λj u v q hu ac=>he (j+1) u v Ω hu ac) (by simpa using h1) (by simpa using e)
theorem Ex{x:Int}:aq x7 cmp_isNaN_int [Δ x] w λv I=>v= .bool ne/\Ext w I:=by
 refine aF func253 ?_;simp only[bG];exact⟨Ξ,Ext.refl _⟩
theorem Ey{x:Int}:aq x7 KJ [Δ x,Δ y] w λv I=>v=Δ (if x<y then-1 else if y<x then 1 else 0)/\Ext w I:=by
 refine aF func194 ?_;refine Ex.Y ?_;rintro _ U _ ⟨rfl,a⟩;refine Ex.Y ?_;rintro _ ab _ ⟨rfl,e⟩;simp only[a6,aW,bU,ao];exact⟨λh=>⟨by rw[lw h],a.F e⟩,λh=>⟨λf=>⟨by rw[m1 h,lw f],a.F e⟩,λf=>⟨by rw[m1 h,m1 f],a.F e⟩⟩⟩
theorem PV{a b:Λ}(s:aQ .i64 w bD a)(A:aQ .i64 w bv b):aq x7 KK [bD,bv] w λv I=>v=Δ (j2 a b)/\Ext w I:=by
 refine aF func195 ?_;have aa:=s.le;rw[a7 av.u s];refine⟨λ_ B U=>∃i:Nat,B=Δ (i:Int)/\i<=a.length/\i<=b.length/\Ext w U/\∀(j:Nat)(x y:Int),j<i->a[j]?=σ x->b[j]?=σ y->x=y,λ_ B _=>a.length-(bY B).toNat,⟨0,rfl,X9 _,X9 _,Ext.refl _,λj x y P=>Ω⟩,?_⟩;rintro _ _ U ⟨i,rfl,Q,R,f,K⟩;have q:=vn K Q R;simp only[aW,ao];refine⟨λz=>?_,λac=>?_⟩
 .have z:i<a.length:=Ω
  obtain⟨x,J⟩:=aK (l:=a) z;have L:a.drop i=x::a.drop (i+1):=by rw[Y8 z,(x5.1 J).2]
  rw[bm av.u al.i Ψ (s.W f) J,a7 av.u (A.W f)];simp only[cJ,ao];refine⟨λh=>?_,λh=>?_⟩
  .have:b.drop i=[]:=by rw[List.drop_eq_nil_iff];omega
   rw[this,L]at q;exact⟨by rw[q];rfl,f⟩
  have C:i<b.length:=Ω
  obtain⟨y,E⟩:=aK (l:=b) C;have S:b.drop i=y::b.drop (i+1):=by rw[Y8 C,(x5.1 E).2]
  rw[bm av.u al.i Ψ (A.W f) E];refine Ey.Y ?_;rintro _ ab _ ⟨rfl,M⟩;rw[L,S]at q;simp only[j2]at q;simp only[bG,ao,aR];refine⟨λN=>⟨?_,f.F M⟩,λV=>?_⟩
  .rw[q];by_cases h1:x<y
   .rw[lw h1,lw h1]
   .by_cases r:y<x
    .rw[m1 h1,lw r,m1 h1,lw r]
    .rw[m1 h1,m1 r]at N;exact m2 rfl N
  .rw[hx Ω Ω];refine⟨⟨i+1,rfl,z,C,f.F M,λj W X P G H=>?_⟩,by simp only[bY];omega⟩;by_cases Y:j=i
   .subst Y;rw[J]at G;rw[E]at H;cases G;cases H;have O:=X0.1 V;by_cases h1:x<y
    .rw[lw h1]at O;omega
    .by_cases r:y<x
     .rw[m1 h1,lw r]at O;omega
     .omega
   .exact K j W X Ω G H
 .have Z:i=a.length:=Ω
  subst Z;rw[List.drop_length]at q;rw[a7 av.u (s.W f),a7 av.u (A.W f)];simp only[aW,ao];refine⟨λh=>⟨?_,f⟩,λh=>⟨?_,f⟩⟩
  .obtain⟨y,l,e⟩:∃y l,b.drop a.length=y::l:=⟨_,_,Y8 Ω⟩;rw[q,e];rfl
  .have:b.drop a.length=[]:=by rw[List.drop_eq_nil_iff];omega
   rw[q,this];rfl
theorem PW{x:Int}{f:x1}(h:aQ .i64 w f [x,y]):aq x7 KI [f] w λv I=>v=Δ (if x≠0 then x else y)/\Ext w I:=by
 refine aF func193 ?_;rw[a7 av.u h];refine cb.range 2 (λi _ U=>Ext w U/\(1<=i->x=0)/\(2<=i->y=0)) Ω ⟨Ext.refl _,Ω,Ω⟩ ?_ ?_
 .rintro i _ U k hi ⟨a,h1,e⟩ hk;rw[aW,ao];refine⟨λ_=>?_,λh=>by simp at h;omega⟩
  match i,hi,h1,e,hk with
  |0,_,h1,e,hk=>
   rw[bm av.u al.i Ψ (h.W a) rfl,bG,ao];refine⟨λj=>⟨by rw[lw j],a⟩,λhe=>?_⟩;rw[aR];exact hk _ _ ⟨a,λ_=>X0.1 he,λh=>Ω⟩
  |1,_,h1,e,hk=>
   rw[bm av.u al.i Ψ (h.W a) rfl,bG,ao];have q:=h1 (p9 _);refine⟨λj=>⟨by rw[m1 Ω],a⟩,λhe=>?_⟩;rw[aR];exact hk _ _ ⟨a,λ_=>q,λ_=>X0.1 he⟩
 .rintro _ U k ⟨a,h1,e⟩;have q:=h1 Ω;have r:=e Ω;rw[aW,ao];exact⟨λh=>by simp at h,λ_=>⟨by rw[m1 Ω,r],a⟩⟩
structure cB where
 sv:x1
 g:Nat
 sc:Λ
 cs:Λ
def ff(h:cB):List x1:=[h.sv,Γ h.g]
abbrev lB(h:cB):x1:=.agg (ff h).toArray
def sP(h:cB):Int:=dt h.sc
def kw(w:x4)(a:Nat)(h:cB):Prop:=(∃e,aH .i64 al w e h.sv h.sc)/\(∀r,hv h.sv r->r≠a)/\mb h.sc
theorem kw.aa{h:cB}(aw:kw w a h)(J:aj S w I)(e:∀r,hv h.sv r->¬S r):kw I a h:=by
 obtain⟨⟨f,hm⟩,j⟩:=aw;exact⟨⟨f,bB hm J e⟩,j⟩
theorem kw.one{h:cB}(aw:kw w a h):∀u∈ff h,u.oneCell'=ms:=by
 obtain⟨⟨e,hm⟩,_⟩:=aw;intro u hu;simp[ff]at hu;rcases hu with rfl|rfl
 .exact hm.ls.cells.2
 .rfl
def fv(w:x4)(g:Nat)(v:x1)(L:List cB):Prop:=bn ff 2 c3 w g v L/\∀h∈L,kw w g h
theorem fv.W{g:Nat}{L:List cB}(h:fv w g v L)(J:Ext w I):fv I g v L:=⟨h.1.W J,λx a=>(h.2 x a).aa (J.aa λ_=>False) λ_ _ h=>h⟩
theorem fv.at{g:Nat}{L:List cB}(h:fv w g v L){i:Nat}{x:cB}(hi:L[i]?=σ x):kw w g x:=h.2 x (x6 hi)
theorem vo{g:Nat}{L:List cB}{i:Nat}{x:cB}(a:y=(i:Int))(h:fv w g v L)(hi:L[i]?=σ x):
  ad x7 (n9 gU v (Δ y)) w (λp=>ad x7 (u4 c3 p) w K)=K (lB x):=by
 rw[cf a gU.u c3.i h.1 (x5.1 hi).1,bF c3.p c3.i rfl (h.1.range hi)]
theorem PX{g:Nat}{L:List cB}{i:Nat}{x:cB}{K:Unit->x4->Prop}(j:y=(i:Int))(h:fv w g v L)(hi:i<L.length)(hk:kw w g x)(q:∀I,aj (λr=>hp v r) w I->fv I g v (L.set i x)->K () I):ad x7 (n9 gU v (Δ y)) w λp=>aM x7 (o7 c3 p (lB x)) w K:=by
 rw[cf j gU.u c3.i h.1 hi];refine uZ c3.i h.1 rfl hk.one hi λI e _ bg=>q I e ⟨bg,λz a=>?_⟩;rcases U7 a with a|rfl
 .exact (h.2 z a).aa e λr f he=>(h.2 z a).2.1 r f (h.1.hv he).1
 .exact hk.aa e λr f he=>hk.2.1 r f (h.1.hv he).1
abbrev PY:x1:=.func (.func By) #[] #[]
def yt(a b:cB):Int:=let c:Int:=if(a.sc.length:Int)<b.sc.length then-1 else if(b.sc.length:Int)<a.sc.length then 1 else 0
 if c≠0 then c else j2 a.sc b.sc
theorem PZ{a b:cB}(f:mb a.sc)(j:mb b.sc):yt a b<0↔sP a<sP b:=by
 have aE:=(yh f j).1;unfold sP yt;simp only;generalize q:(if(a.sc.length:Int)<b.sc.length then(-1:Int)else if(b.sc.length:Int)<a.sc.length then 1 else 0)=c;rw[aE,<-q];by_cases h1:(a.sc.length:Int)<b.sc.length
 .rw[lw h1,lw Ω];exact⟨λ_=>.inl Ω,λ_=>Ω⟩
 .by_cases e:(b.sc.length:Int)<a.sc.length
  .rw[m1 h1,lw e,lw Ω];exact⟨λh=>Ω,λh=>by rcases h with h|h<;>omega⟩
  .rw[m1 h1,m1 e,m1 Ω];exact⟨λh=>.inr ⟨Ω,h⟩,λh=>by rcases h with h|h;omega;exact h.2⟩
theorem P0{y:Nat}{a b:cB}(A:kw w y a)(B:kw w y b):aq x7 By [lB a,lB b] w λv I=>Ext w I/\v=Δ (yt a b):=by
 obtain⟨⟨ga,r⟩,_,L⟩:=A;obtain⟨⟨M,s⟩,_,N⟩:=B;refine aF func192 ?_;refine bo λg1 U O C h=>?_;refine bo λE ab P z j=>?_;have h:ai U g1 c3 [a.sv,Γ a.g]:=by
  obtain⟨_,_,_,e⟩:=dA r.ls;simp only[lB,ff,e]at h ⊢;exact h
 have j:ai ab E c3 [b.sv,Γ b.g]:=by
  obtain⟨_,_,_,e⟩:=dA s.ls;simp only[lB,ff,e]at j ⊢;exact j
 intro Q x _ _;have f:=(C.F z).F x;have f1:=(h.W z).W x;have f2:=j.W x;rw[aO c3.p 0 f1 rfl,a7 av.u (r.ls.W f),aO c3.p 0 f2 rfl,a7 av.u (s.ls.W f),
  aO c3.p 0 f1 rfl,aO c3.p 0 f2 rfl]
 refine Ey.Y ?_;rintro _ R _ ⟨rfl,q⟩;refine⟨.inl q,?_⟩;refine(PV ((r.ls.W f).W q) ((s.ls.W f).W q)).Y ?_;rintro _ S _ ⟨rfl,G⟩;refine nR (l:=[if(a.sc.length:Int)<b.sc.length then(-1:Int)else if(b.sc.length:Int)<a.sc.length then 1 else 0,j2 a.sc b.sc]) av.u al.i Ω rfl Ψ λV W X Y H J=>?_;refine(PW J.ls).Y ?_;rintro _ Z _ ⟨rfl,K⟩;exact⟨((((f.F q).F G).F H).F K),rfl⟩
theorem P1{g:Nat}{L:List cB}(h:fv w g v L)(B:L.length<65536):
  aq x7 KH [v,PY] w λ_ I=>aj (λr=>hp v r) w I/\∃M,M.Perm L/\u2 sP M 0 M.length/\fv I g v M:=by
 have j:∀{s:x4}{a:cB},aj (λr=>r=g) w s->kw w g a->kw s g a:=λf e=>e.aa f λr z he=>e.2.1 r z he;refine(DF Oa (G:=kw w g) (num:=sP) Oe Of (λa e=>e.one) (λa _=>rfl) (λa b e A=>PZ e.2.2 A.2.2) (Enters.of x7 Og rfl Ψ) h.1 h.2 B λs a b f e A=>P0 (j f e) (j f A)).Y ?_;rintro _ I _ ⟨f,M,ae,hu,hm⟩;have C:aj (λr=>r=g) w I:=f.Y λr _ z=>(h.1.hv z).1;exact⟨f,M,ae,λp q x y _ E _ J H=>hu p q x y E J H,hm,λx J=>j C (h.2 x (ae.mem_iff.1 J))⟩
theorem P2{m:Λ}(ac:nY l)(f:l.Nodup)(ae:m.Perm l)(V:m.Pairwise (·<= ·)):m=bH l:=by
 refine yj ?_ (yg l) λx=>?_
 .have j:=ae.nodup_iff.2 f;exact(List.Pairwise.and V j).imp λ{a b}h=>by
   obtain⟨h1,e⟩:=h;have e:=e;omega
 .rw[ae.mem_iff,D3 ac]
theorem P3(h:∀z∈l,1<=z/\z<=32)(a:dM l=ne):aX l<=4096:=by
 have:=of_decide_eq_false a;rw[yl h]at this;omega
theorem P4{f:cd}{d:iP}{x:cE}{m:Bool}{S R:ak}(h:fC N f)(bi:N<=60000)(P:x∈f.d8)(az:sN f.k x d)(aA:ay.rep m S R w cs d):
  aq x7 KD [.agg cs.toArray] w λv I=>Ext w I/\∃sv gs E Q W,v= .tuple #[sv,Γ E]/\w.heap.size<=gs/\aH .i64 al I gs sv (bH x.scope)/\ds I E Q W (ci f.d6 (bH x.scope)) f.k (jY f.d6 f.k x).2:=by
 obtain⟨sv,ag,bj,aV,bk,rfl,G,aB⟩:=vm aA;obtain⟨aC,aD,aG,bl,bn,aI⟩:=az;obtain⟨a,aJ,aL⟩:=h.d8 x P;have ac:=vd a h.d6.2.1;have bp:=a.len;rw[aC]at G;have aM:∀z∈x.d6,1<=z/\z<=32:=λz ad=>by
  rw[a.d6]at ad;obtain⟨v,aN,rfl⟩:=o9.1 ad;have bq:=a.scope.2 v aN;refine h.d6.2.2 _ ?_;rw[p8,x8 Ω];exact T9 _
 have aP:=P3 aM aL;have X:=vc ac a.scope.1;have br:(bH x.scope).length<=6:=by rw[X.length_eq];exact aJ
 refine aF func182 ?_;refine bo λau U bs af y=>?_;have y:ai U au cP [sv,Γ ag]:=by obtain⟨_,_,_,rfl⟩:=dA G;exact y
 rw[aO cP.p 1 y rfl];refine(Ej (aB.W af).is Ω).Y ?_;rintro _ ab _ ⟨Y,_,A⟩;rw[aD]at A;obtain⟨g,bu,bw,aQ,rfl,bA,bB,A,ah⟩:=A aP;rw[aG]at A;rw[bx,bz,aO cP.p 0 (y.W Y) rfl];have B:=af.F Y;refine yo (G.W B) Ω λv bC gs bD H bE ae V J=>?_;have aS:=P2 ac a.scope.1 ae V;subst aS;have bF:=B.size;rw[a7 av.u J.ls];refine lk av.u al.i Ω Ω λgo aT bG K am=>?_;have aU:=aH.of (b7.full (n:=(bH x.scope).length) am Ξ (by simp[maxLen];omega));rw[a7 av.u (J.ls.W K)];have bI:=am.lt;have L:(gI x.scope (bH x.scope)).length=(bH x.scope).length:=by simp[gI]
 have aW:=H.F K;have bJ:=B.F aW;refine b6.range (bH x.scope).length (λi M=>aj (λr=>r=go) aT M/\aH .i64 al M go (.slice (σ ⟨go,0,ν⟩) (bH x.scope).length (bH x.scope).length) ((gI x.scope (bH x.scope)).take i++r9 ((bH x.scope).length-i) 0)) Ω ⟨aj.refl _ _,by simpa using aU⟩ ?_ ?_
 .rintro i M k hi ⟨O,C⟩ hk;obtain⟨v,Z⟩:=aK (l:=(bH x.scope)) hi;have q:=K.put O Ω;have aX:=(B.F H).F q;have aY:v∈x.scope:=X.mem_iff.1 (x6 Z);refine bM Ω ?_;rw[bm av.u al.i Ψ (J.ls.W q) Z];have aZ:=(Y.F H).F q;rw[aO cP.p 0 (y.W aZ) rfl];refine(Ep (G.W aX)).Y ?_;rintro _ a1 _ ⟨s,r,rfl,a2⟩;have an:=vg aY;have a6:=(a2 _ an).2 λj bK a8=>by have:=l8 a.scope.1 a8 an;omega
  rw[jV rfl av.u al.i (C.W s) (by simp[L];omega)];refine jW al.i (C.W s) (by simp[L];omega) λbL ba bN ao=>?_;rw[aR];refine hk _ ⟨(O.F (s.aa _)).F ba,?_⟩;have aE:(gI x.scope (bH x.scope))[i]?=σ r:=by rw[a6];exact O2 Z
  have e:((gI x.scope (bH x.scope)).take i++r9 ((bH x.scope).length-i) 0).set i r=(gI x.scope (bH x.scope)).take (i+1)++r9 ((bH x.scope).length-(i+1)) 0:=by
   have bb:((gI x.scope (bH x.scope)).take i).length=i:=by rw[j9,L];omega
   rw[U9 _ _ Ω,bb,V8,show(bH x.scope).length-i=((bH x.scope).length-(i+1))+1 by omega,List.replicate_succ,List.set_cons_zero,u7,aE,o8,X7];rfl
  rw[e]at ao;exact ao
 .rintro M k ⟨O,C⟩;have q:=K.put O Ω;have ap:=H.F q;refine cc Ω ?_;rw[V8,List.replicate_zero,V2,j4 Ω]at C;have bc:∀t,dE x.d6 t->bt x.d6 aQ t=lr x f.k t:=λt bd=>by rw[ah.2 t bd];exact aI t
  obtain⟨aw,be⟩:=O4 h P ah.1 bc;have bf:Good (gI x.scope (bH x.scope)) x.d6.length:=by
   rw[a.d6,u9];exact vh a.scope.1 X
  have bg:=(re h P);refine(PI (A.W ap) h.k C.ls (by rw[L];omega) λ_=>?_).Y ?_
  .rw[aw];exact bg.small
  .rintro _ a1 _ ⟨s,_,bh⟩;obtain⟨E,Q,W,rfl,ax⟩:=bh bf;rw[bx,bz];rw[aw,be]at ax;exact⟨(B.F ap).F s,v,gs,E,Q,W,rfl,Ω,(J.W q).W s,ax⟩
theorem P5{P:W5}{t y f:r8}{k A g o cap:Nat}{K:x1->x4->Prop}(h:P.underlying t=σ (.slice e))(hi:aS P e k A z)(B:z.cells.size=k)(h1:∀u∈ef z.cells (n*k),u.oneCell'=ms)(a:ai w g f cs)(J:o+n*k<=cs.length)(q:∀I,aj (λr=>r=g) w I->ai I g f (over cs o (ef z.cells (n*k)))->K (.tuple #[]) I):aM P (Z0.clear_ #[t] y #[.slice (σ ⟨g,o,ν⟩) n cap]) w K:=by
 obtain⟨i,hi,L,rfl,C⟩:=hi;have E:∀w,(zeroValue e).run P w= .ok z w:=λw=>by simp[zeroValue,typeInfo,hi,C]
 have F:(Z0.zeroCells z.cells n).toList=ef z.cells (n*k):=by
  unfold Z0.zeroCells ef;rw[B]
 have s:=run_storeCells_cells (P:=P) g o (ef z.cells (n*k)) 0 w (λj G=>by
   rw[qR]at G;rw[Nat.add_zero,a.cell (x8 (show o+j<cs.length by omega))];rfl) (λj _=>a.frozen _ _) h1
 simp only[Nat.add_zero]at s;obtain⟨H,x⟩:=pF (ef z.cells (n*k)) cs o w a;rcases Nat.eq_zero_or_pos n with rfl|M
 .refine .of (by simp[Z0.clear_,run_underlying h]) (cR.refl _) (q w (aj.refl _ _) ?_);rw[Nat.zero_mul,j6 (qR z.cells 0)];exact a
 .obtain⟨m,rfl⟩:∃m,n=m+1:=⟨n-1,Ω⟩;refine .of (by simp[Z0.clear_,run_underlying h,E,F,s]) (x.cO a) (q _ x.aa H)
theorem ej{α:Type}{f:α->List x1}{k:Nat}{g:Nat}{L:List α}(h:bn f k e w g v L)(j:hp v r):r=g/\∃cs,ai w g e cs:=by
 obtain⟨_,⟨rfl,_⟩|⟨cap,cs,rfl,q,_⟩⟩:=h.1
 .exact (gF j).elim
 .obtain⟨a,n,c,h1,s⟩:=j;cases h1;exact⟨s.symm,cs,q⟩
theorem Ez{α:Type}{f:α->List x1}{k:Nat}{g:Nat}{L:List α}(h:bn f k e w g v L)(a:L≠[]):∃cs n c,v= .slice (σ ⟨g,0,ν⟩) n c/\ai w g e cs:=by
 obtain⟨_,⟨rfl,j⟩|⟨cap,cs,rfl,q,_⟩⟩:=h.1
 .exact m2 (j6 j) a
 .exact⟨cs,_,_,rfl,q⟩
theorem fv.mk{g:Nat}{L:List cB}(h:bn ff 2 c3 w g v L)(a:∀x∈L,(∃e,aH .i64 al w e x.sv x.sc)/\mb x.sc):fv w g v L:=by
 refine⟨h,λx J=>⟨(a x J).1,λr f=>?_,(a x J).2⟩⟩;obtain⟨cs,n,c,_,j⟩:=Ez h (λq=>by rw[q]at J;cases J);obtain⟨⟨e,hm⟩,_⟩:=a x J;exact cv hm j Φ f
def Sem(w:x4)(k:Int)(d6:Λ)(L:List cB):Prop:=∀x∈L,∃a e,ds w x.g a e (ci d6 x.sc) k x.cs
theorem yu{g q:Nat}{s:x1}{cs:Λ}(h:ds w g q s am k cs)(e:aj S w I)(f:∀r,S r->∃c,ai w r c3 c):ds I g q s am k cs:=by
 obtain⟨⟨bd,gs,h1,x,y⟩,z⟩:=h;refine⟨⟨bd,gs,h1.aa e λV=>?_,bB x e λr j V=>?_,bB y e λr j V=>?_⟩,z⟩
 .obtain⟨c,a⟩:=f g V;unfold ai at h1 a;rw[h1]at a;have:=(Obj.cells.inj (Z4 a)).2.1;exact m2 this Φ
 .obtain⟨c,a⟩:=f r V;exact cv x a Φ j rfl
 .obtain⟨c,a⟩:=f r V;exact cv y a Φ j rfl
theorem Sem.W{L:List cB}(h:Sem w k d6 L)(J:Ext w I):Sem I k d6 L:=λx a=>by
 obtain⟨e,f,j⟩:=h x a;exact⟨e,f,j.W J⟩
theorem Sem.row{L M:List cB}{g:Nat}(h:Sem w k d6 L)(a:fv w g v M)(e:aj (λr=>hp v r) w I):Sem I k d6 L:=λx f=>by
 obtain⟨j,q,s⟩:=h x f;exact⟨j,q,yu s e λr y=>by obtain⟨rfl,c,z⟩:=ej a.1 y;exact⟨c,z⟩⟩
def ek(h:cB):cX:=(h.sc,h.cs)
theorem P6{c:Int}:aq x7 xc [Δ c] w λv I=>v= .bool (decide (0<c))/\Ext w I:=by
 refine aF func189 ?_;rw[bU];exact⟨rfl,Ext.refl _⟩
theorem P7(h:aQ .i64 w sv l):
  aq x7 KF [sv,.func (.func xc) #[] #[]] w λv I=>v= .bool (l.any λc=>decide (0<c))/\Ext w I:=by
 refine aF func188 ?_;refine aq.Y (K:=λv I=>Ext w I/\∃r:Int,v=Δ r/\(0<=r↔ ∃c∈l,0<c)) ?_ ?_
 .refine aF func250 ?_;rw[a7 aC.u h];refine cb.range l.length (λi _ U=>Ext w U/\∀c∈l.take i,¬0<c) h.le ⟨Ext.refl _,λc a=>by simp at a⟩ ?_ ?_
  .rintro i _ U k hi ⟨J,e⟩ hk;refine bM Ω ?_;obtain⟨x,f⟩:=aK (l:=l) hi;rw[bm aC.u ax.i Ψ (h.W J) f];show aq x7 xc [Δ x] U _;refine P6.Y ?_;rintro _ ab _ ⟨rfl,j⟩;rw[ao];refine⟨λae=>⟨J.F j,i,rfl,⟨λ_=>⟨x,x6 f,ae⟩,λ_=>Ω⟩⟩,λq=>?_⟩;rw[aR];refine hk _ _ ⟨J.F j,λc a=>?_⟩;rw[u7,f]at a;rcases j5.1 a with a|a
   .exact e c a
   .simp at a;subst a;exact q
  .rintro _ U k ⟨J,e⟩;rw[o6]at e;rw[aW,ao];exact⟨λh=>Ω,λ_=>⟨J,-1,rfl,⟨λh=>Ω,λ⟨c,a,ae⟩=>m2 ae (e c a)⟩⟩⟩
 .rintro _ U _ ⟨J,r,rfl,s⟩;rw[cJ];refine⟨?_,J⟩;congr 1;rw[U1,m6,List.any_eq_true,s];exact⟨λ⟨c,a,ae⟩=>⟨c,a,m3 ae⟩,λ⟨c,a,ae⟩=>⟨c,a,m7 ae⟩⟩
theorem EA{h:Nat}{x:cB}{q:x1}(J:kw w h x)(r:ds w x.g j q am k x.cs):aq x7 rY [lB x] w λv I=>v= .bool (!gl (ek x))/\Ext w I:=by
 obtain⟨⟨A,hm⟩,_⟩:=J;refine aF func187 ?_;refine bo λau U B f a=>?_;have a:ai U au c3 [x.sv,Γ x.g]:=by
  obtain⟨_,_,_,e⟩:=dA hm.ls;simp only[lB,ff,e]at a ⊢;exact a
 rw[aO c3.p 1 a rfl];refine(oK (r.W f)).Y ?_;rintro C ab _ ⟨s,E,G,y⟩;refine(P7 y.ls).Y ?_;rintro _ H _ ⟨rfl,z⟩;rw[bE];exact⟨rfl,(f.F s).F z⟩
theorem P8{g:Nat}{L:List cB}(h:fv w g v L)(V:Sem w k d6 L):
  aq x7 Bv [v,.func (.func rY) #[] #[]] w λr I=>Ext w I/\((r=Δ (-1)/\∀x∈L,gl (ek x)=ms)\/∃i:Nat,r=Δ (i:Int)/\i<L.length/\(∀x∈L.take i,gl (ek x)=ms)/\∀x,L[i]?=σ x->gl (ek x)=ne):=by
 refine aF func183 ?_;rw[dO gU.u h.1];refine cb.range L.length (λi _ U=>Ext w U/\∀x∈L.take i,gl (ek x)=ms) h.1.le ⟨Ext.refl _,λc a=>by simp at a⟩ ?_ ?_
 .rintro i _ U k hi ⟨J,e⟩ hk;refine bM Ω ?_;obtain⟨x,f⟩:=aK (l:=L) hi;rw[vo rfl (h.W J) f];show aq x7 rY [lB x] U _;obtain⟨A,B,s⟩:=V x (x6 f);refine(EA ((h.W J).at f) (s.W J)).Y ?_;rintro _ ab _ ⟨rfl,j⟩;rw[b1];refine⟨λae=>⟨J.F j,.inr ⟨i,rfl,hi,e,λy q=>by rw[f]at q;cases q;simpa using ae⟩⟩,λz=>?_⟩;rw[aR];refine hk _ _ ⟨J.F j,λc a=>?_⟩;rw[u7,f]at a;rcases j5.1 a with a|a
  .exact e c a
  .simp at a;subst a;simpa using z
 .rintro _ U k ⟨J,e⟩;rw[o6]at e;rw[aW,ao];exact⟨λh=>Ω,λ_=>⟨J,.inl ⟨rfl,e⟩⟩⟩
def gL(x:cB):Bool:=gl (ek x)
theorem yv{L:List cB}{x:cB}(J:L[j]?=σ x):(L.take (j+1)).filter gL=if gL x=ms then(L.take j).filter gL++[x]else(L.take j).filter gL:=by
 rw[u7,J,o8,List.filter_append];by_cases h:gL x=ms
 .rw[lw h];simp[h]
 .rw[m1 h];simp[h]
theorem EB{z:Array x1}(a:0<z.size)(h:∀u∈z.toList,u.oneCell'=ms):∀u∈ef z n,u.oneCell'=ms:=λu hu=>by
 unfold ef at hu;rw[Array.toList_map,o9]at hu;obtain⟨i,_,rfl⟩:=hu;have e:i % z.size<z.size:=Nat.mod_lt _ a;rw[getElem!_pos z (i % z.size) e];exact h _ Ξ
theorem P9{g:Nat}{L:List cB}(h:fv w g v L)(V:Sem w k d6 L)(bb:L.length<=100000):
  aq x7 KG [v,.func (.func rY) #[] #[]] w λf I=>aj (λr=>hp v r) w I/\fv I g f (L.filter gL)/\∀r,hp f r->hp v r:=by
 refine aF func190 ?_;refine(P8 h V).Y ?_;rintro r U _ ⟨E,q⟩;rcases q with⟨rfl,O⟩|⟨P,rfl,ax,O,ay⟩
 .rw[bl,ao];refine⟨λ_=>⟨E.aa _,?_,λr q=>q⟩,λh=>m2 rfl h⟩;rw[List.filter_eq_self.2 (show∀x∈L,gL x=ms from O)];exact h.W E
 rw[bl,ao];refine⟨λh=>Ω,λ_=>?_⟩;rw[aR,hx Ω Ω];obtain⟨Q,ae⟩:=aK (l:=L) ax;refine⟨λR S ab=>∃(i j:Nat)(M:List cB),R=Δ (i:Int)/\S=Δ (j:Int)/\i<j/\j<=L.length/\M.length=L.length/\M.take i=(L.take j).filter gL/\M.drop j=L.drop j/\(∀x∈M,x∈L)/\fv ab g v M/\aj (λr=>hp v r) w ab,
  λ_ S _=>L.length-(bY S).toNat,⟨P,P+1,L,rfl,by congr 1,Ω,Ω,rfl,?_,rfl,λx J=>J,h.W E,E.aa _⟩,?_⟩
 .have az:¬gL Q=ms:=by rw[show gL Q=ne from ay Q ae];simp
  rw[yv ae,m1 az,List.filter_eq_self.2 (show∀x∈L.take P,gL x=ms from O)]
 rintro _ _ ab ⟨i,j,M,rfl,rfl,bc,bd,af,z,ag,ah,e,G⟩;have aB:Sem ab k d6 L:=V.row h G;rw[dO gU.u e.1,aW,ao];refine⟨λW=>?_,λbe=>?_⟩
 .have W:j<L.length:=Ω
  obtain⟨x,J⟩:=aK (l:=L) W;have H:M[j]?=σ x:=by
   have h1:(M.drop j)[0]?=(L.drop j)[0]?:=by rw[ag]
   rw[List.getElem?_drop,List.getElem?_drop,Nat.add_zero]at h1;rw[h1,J]
  have ai:M.drop (j+1)=L.drop (j+1):=by
   have h1:(M.drop j).drop 1=(L.drop j).drop 1:=by rw[ag]
   rw[List.drop_drop,List.drop_drop]at h1;exact h1
  refine a1 (λR K=>∃(B:Nat)(s:List cB),R=Δ (B:Int)/\B<j+1/\s.length=L.length/\s.take B=(L.take (j+1)).filter gL/\s.drop (j+1)=L.drop (j+1)/\(∀x∈s,x∈L)/\fv K g v s/\aj (λr=>hp v r) w K) ?_ ?_
  .rintro _ K ⟨B,s,rfl,h1,X,aC,aD,aE,aG,aH⟩;rw[aR,hx Ω Ω];exact⟨⟨B,j+1,s,rfl,rfl,h1,W,X,aC,aD,aE,aG,aH⟩,by simp only[bY];omega⟩
  .intro aA ak;rw[vo rfl e H];refine bC c3.i λau K bf aI aJ=>?_;refine b8 (vs:=ff x) c3.i rfl rfl (e.at H).one aJ λaL aN bg al=>?_;have Y:=aI.put aN Ω;rw[bF c3.p c3.i rfl al.range];show aq x7 rY [lB x] aL _;obtain⟨bh,bi,aO⟩:=aB x (x6 J);refine(EA ((e.W Y).at H) (aO.W Y)).Y ?_;rintro _ bj _ ⟨rfl,am⟩;have C:=Y.F am;rw[bE,Bool.not_not,b1];refine⟨λhk=>?_,λaP=>?_⟩
   .rw[bF c3.p c3.i rfl (al.W am).range];refine PX rfl (e.W C) Ω ((e.W C).at H) λbk aQ aS=>?_;rw[aR,hx Ω Ω];refine ak _ _ ⟨i+1,M.set i x,rfl,Ω,by simp[af],?_,?_,λy A=>?_,aS,(G.F (C.aa _)).F aQ⟩
    .have Z:gL x=ms:=hk;rw[yv J,lw Z,u7,Y2 Ω,o8,List.take_set_of_le (p9 _),z]
    .rw[List.drop_set_of_lt Ω,ai]
    .rcases U7 A with A|rfl
     .exact ah y A
     .exact x6 J
   .have Z:¬gL x=ms:=by rw[show gL x=ne from aP];simp
    exact ak _ _ ⟨i,M,rfl,Ω,af,by rw[yv J,m1 Z,z],ai,ah,e.W C,G.F (C.aa _)⟩
 .have aT:j=L.length:=Ω
  subst aT;rw[o6]at z;obtain⟨⟨bm,aU⟩,an⟩:=e.1;rcases aU with⟨_,bn⟩|⟨cap,cs,ac,aV,bo,aX,aY,aZ⟩
  .omega
  subst ac;have a2:(ad x7 (V5 gU (.slice (σ ⟨g,0,ν⟩) M.length cap) (σ (Δ (i:Int))) ν ν) ab λa6=>
    aM x7 (Z0.clear_ #[gU] LZ #[a6]) ab λu N=>
    ad x7 (V5 gU (.slice (σ ⟨g,0,ν⟩) M.length cap) ν (σ (Δ (i:Int))) ν) N λa7=>
    (λf I=>aj (λr=>hp (.slice (σ ⟨g,0,ν⟩) M.length cap) r) w I/\fv I g f (L.filter gL)/\∀r,hp f r->hp (.slice (σ ⟨g,0,ν⟩) M.length cap) r) a7 N):=by
   rw[gW gU.u c3.i (pC i _ rfl) kp fc Ω Ω (p9 _),m1 Ω];simp only[Y9,U6];refine P5 gU.u c3.i rfl ?_ aV Ω λN ap a8=>?_
   .exact EB Φ Φ
   rw[gW gU.u c3.i ko (pD i _ rfl) fc Ω Ω (p9 _),m1 Ω];simp only[Y9,U6,Nat.zero_mul,V7,Nat.sub_zero];have ba:(ef (x1.agg #[.slice ν 0 0,.pointer ν]).cells ((M.length-i)*2)).length=(M.length-i)*2:=qR _ _;have bp:(M.flatMap ff).length=M.length*2:=iO an;have av:(L.filter gL).length=i:=by rw[<-z,j9];omega
   have key:(λf I=>aj (λr=>hp (.slice (σ ⟨g,0,ν⟩) M.length cap) r) w I/\fv I g f (L.filter gL)/\∀r,hp f r->hp (.slice (σ ⟨g,0,ν⟩) M.length cap) r) (.slice (σ ⟨g,0,ν⟩) (L.filter gL).length cap) N:=by
    refine⟨G.F (ap.Y λr _ he=>⟨_,_,_,rfl,he.symm⟩),⟨⟨⟨iO (λy _=>rfl),.inr ⟨cap,_,rfl,a8,Ω,aX,by rw[nN,aY],?_⟩⟩,λy _=>rfl⟩,λy A=>?_⟩,λr q=>?_⟩
    .rw[av,<-z,<-sD i an,<-aZ,List.take_take,oA (by rw[ba];omega),X7,List.take_append_of_le_length (by rw[j9];omega),List.take_take];congr 1;omega
    .have aw:y∈M:=by rw[<-z]at A;exact S4 A
     exact(e.2 y aw).aa ap λr q he=>(e.2 y aw).2.1 r q he
    .obtain⟨a,n,c,h1,X⟩:=q;cases h1;exact⟨_,_,_,rfl,X⟩
   rw[av]at key;exact key
  exact a2
theorem sQ{k:o5}{g cap:Nat}{b:Option Addr}(h:aH k e w g (.slice b n cap) l)(s:0<l.length):
  b=σ ⟨g,0,ν⟩/\n=l.length/\∃cs,ai w g e cs/\n<=cap/\cap<=maxLen/\cs.length=cap/\cs.take n=ints k l:=by
 obtain⟨_,⟨_,h1⟩|⟨x,cs,h1,a,f,j,q,r⟩⟩:=h
 .omega
 .cases h1;exact⟨rfl,rfl,cs,a,f,j,by simpa using q,by simpa using r⟩
theorem Qa{g cap:Nat}(h:aH .i64 al w g (.slice (σ ⟨g,0,ν⟩) n cap) l)(q:j<l.length):aQ .i64 w (.slice (σ ⟨g,j,ν⟩) (n-j) (cap-j)) (l.drop j):=by
 obtain⟨_,r,cs,a,h1,s,x,f⟩:=sQ h Ω;have:=MA (o:=j) (k:=n-j) (c:=cap-j) a Ω Ω Ω;refine aQ.of (n:=n-j) ?_;have e:(cs.drop j).take (n-j)=ints .i64 (l.drop j):=by
  rw[<-List.drop_take,f,ints,ints,List.map_drop]
 rw[e]at this;exact this
theorem Qb{g:Nat}(h:aH .i64 al w g sv l)(aU:l.length<=1000):
  aq x7 Ll [sv] w λv I=>aj (λr=>r=g) w I/\aH .i64 al I g v (dedup l l.length):=by
 refine aF func245 ?_;rw[a7 av.u h.ls];simp only[aW,ao];refine⟨λaV=>⟨aj.refl _ _,?_⟩,λaX=>?_⟩
 .rw[yr (p9 _) (λi hi X=>Ω),o6];exact h
 obtain⟨n,A⟩:∃n,l.length=n:=⟨_,rfl⟩;obtain⟨cap,rfl⟩:∃cap,sv= .slice (σ ⟨g,0,ν⟩) n cap:=by
  obtain⟨_,⟨_,h1⟩|⟨ap,cs,h1,_⟩⟩:=id h
  .omega
  .exact⟨ap,by rw[h1,A]⟩
 obtain⟨_,_,_,_,aY,au,_⟩:=sQ h Ω;refine⟨λ_ t U=>∃j:Nat,t=Δ (j:Int)/\1<=j/\j<=n/\Ext w U/\∀i,i<j->0<i->l[i]? ≠l[i-1]?,λ_ t _=>n-(bY t).toNat,⟨1,rfl,Ω,Ω,Ext.refl _,λi h1 Y=>Ω⟩,?_⟩;rintro aZ _ U ⟨j,rfl,a2,Z,B,K⟩;rw[a7 av.u (h.ls.W B)];simp only[aW,ao,eP];refine⟨λaw ab ax _ _=>?_,λa6=>⟨B.aa _,?_⟩⟩
 .have aw:j<n:=Ω
  have C:=B.F ax;have ac:=h.ls.W C;obtain⟨a,L⟩:=aK (l:=l) (i:=j) Ω;obtain⟨b,M⟩:=aK (l:=l) (i:=j-1) Ω;rw[bm av.u al.i Ψ ac L];simp only[c5];rw[hx Ω Ω,fO (i:=j-1) Ω av.u al.i Ψ ac M];simp only[bl,ao,aR];refine⟨λN=>?_,λN=>?_⟩
  .subst N;rw[gW av.u al.i pB kp fc Ω Ω Ω,m1 Ω];have ay:V9 (λx:Addr=>x.add (j*1)) (σ ⟨g,0,ν⟩)=σ ⟨g,j,ν⟩:=by simp[U6]
   rw[ay];have ad:dedup l (j+1)=l.take j:=by rw[yp Ω (by rw[L,M]),yr Ω K]
   refine⟨λO t P=>∃(q e:Nat)(f:Λ),O=Δ (q:Int)/\t=Δ (e:Int)/\1<=e/\j+e<=n/\aj (λr=>r=g) w P/\aH .i64 al P g (.slice (σ ⟨g,0,ν⟩) n cap) f/\f.length=n/\
     q=(dedup l (j+e)).length/\f.take q=dedup l (j+e)/\q<=j+e-1/\∀i,j+e-1<=i->f[i]?=l[i]?,λ_ t _=>n-(bY t).toNat,
    ⟨j,1,l,rfl,rfl,Ω,Ω,C.aa _,h.W C,A,by rw[ad,j9];omega,by rw[ad],Ω,λi _=>rfl⟩,?_⟩
   rintro _ _ P ⟨q,e,f,rfl,rfl,a8,ba,Q,ae,af,ag,E,az,G⟩;rw[je av.u];simp only[aW,ao,eP];refine⟨λah=>?_,λah=>?_⟩
   .have ah:j+e<n:=Ω
    refine a1 (λO R=>∃(q:Nat)(f:Λ),O=Δ (q:Int)/\aj (λr=>r=g) w R/\aH .i64 al R g (.slice (σ ⟨g,0,ν⟩) n cap) f/\f.length=n/\
     q=(dedup l (j+(e+1))).length/\f.take q=dedup l (j+(e+1))/\q<=j+(e+1)-1/\∀i,j+(e+1)-1<=i->f[i]?=l[i]?) ?_ ?_
    .rintro _ R ⟨q,f,rfl,h1,Y,aB,aC,aD,aE,aG⟩;simp only[aR];rw[hx Ω Ω];exact⟨⟨q,e+1,f,rfl,rfl,Ω,Ω,h1,Y,aB,aC,aD,aE,aG⟩,by simp only[bY];omega⟩
    .intro aA ai bb S _ _;have H:=ae.W S;have V:=Qa (j:=j) H Ω;obtain⟨y,J⟩:=aK (l:=l) (i:=j+e) Ω;obtain⟨z,W⟩:=aK (l:=l) (i:=j+e-1) Ω;have ak:(f.drop j)[e]?=σ y:=by rw[List.getElem?_drop,G _ Ω,J]
     have aI:(f.drop j)[e-1]?=σ z:=by rw[List.getElem?_drop,G _ Ω,<-W];congr 1;omega
     rw[bm av.u al.i Ψ V ak];simp only[c5];rw[hx Ω Ω,fO (i:=e-1) Ω av.u al.i Ψ V aI];simp only[bG,ao,aR];refine⟨λs=>?_,λs=>?_⟩
     .rw[bm av.u al.i Ψ V ak,jV rfl av.u al.i H Ω];refine jW al.i H Ω λbc aJ bd aL=>?_;rw[hx Ω Ω];have am:=yq J (λ_=>by rw[J,W];simpa using s);refine ai _ _ ⟨q+1,_,rfl,(Q.F (S.aa _)).F aJ,aL,by simpa using af,?_,?_,Ω,λi hi=>?_⟩
      .rw[<-Nat.add_assoc,am];simp;omega
      .rw[<-Nat.add_assoc,am,u7,Y2 Ω,List.take_set_of_le (p9 _),E];rfl
      .rw[W0 Ω];exact G i Ω
     .have s:=X0.1 s;have an:dedup l (j+e+1)=dedup l (j+e):=yp Ω (by rw[J,W,s]);exact ai _ _ ⟨q,f,rfl,Q.F (S.aa _),H,af,by rw[<-Nat.add_assoc,an];exact ag,by rw[<-Nat.add_assoc,an];exact E,Ω,λi hi=>G i Ω⟩
   .have hk:j+e=n:=Ω
    rw[hk]at ag E az;obtain⟨_,_,cs,aM,_,_,be,aN⟩:=sQ ae Ω;simp only[maxLen]at au;rw[gW av.u al.i pB kp fc Ω Ω Ω,m1 Ω];have aO:V9 (λx:Addr=>x.add (q*1)) (σ ⟨g,0,ν⟩)=σ ⟨g,q,ν⟩:=by simp[U6]
    rw[aO];refine Cj av.u al.i rfl rfl aM Ω Ω λbf aP bg aQ=>?_;rw[gW av.u al.i ko pE fc Ω Ω Ω,m1 Ω];have aS:V9 (λx:Addr=>x.add (0*1)) (σ ⟨g,0,ν⟩)=σ ⟨g,0,ν⟩:=by simp[U6]
    rw[aS,A];refine⟨Q.F aP,?_⟩;rw[<-E];refine aH.of (n:=q) ⟨Θ,.inr ⟨cap,_,Ξ,aQ,Ω,by simp only[maxLen];omega,by rw[nN];omega,?_⟩⟩;rw[T1];apply Y5;intro i;by_cases hi:i<q
    .rw[W3 hi,qQ _ _ _ Θ,m1 Ω,ints,v8,W3 hi];have:(cs.take n)[i]?=(ints .i64 f)[i]?:=by rw[aN]
     rw[W3 Ω,ints,v8]at this;exact this
    .rw[V0 Θ,V0 Θ]
  .rw[hx Ω Ω];refine⟨⟨j+1,rfl,Ω,Ω,C,λi hi X=>?_⟩,by simp only[bY];omega⟩;by_cases aT:i=j
   .subst aT;rw[L,M];intro he;exact N (Z4 he)
   .exact K i Ω X
 .have Z:j=n:=Ω
  rw[yr (p9 _) (by rw[A,<-Z];exact K),o6];exact h.W B
theorem Qc(z:n<=1000000):aq x7 LI [.slice ν 0 0,Δ (n:Int)] w λv I=>Ext w I/\∃g,w.heap.size<=g/\aH .i64 al I g v []:=by
 refine aF func281 ?_;refine cZ (λU=>w=U) ?_ ?_
 .rintro _ rfl;refine a1 (λv I=>Ext w I/\∃g,w.heap.size<=g/\aH .i64 al I g v []) (λ_ _ h=>h) λaA a=>?_;rw[Ci av.u,je av.u];simp only[c5];have e:X3.wrap (((0:Nat):Int)-((0:Nat):Int))=0:=Φ
  have f:X3.wrap ((n:Int)-0)=n:=by rw[hx Ω Ω];omega
  rw[e,f];simp only[bU,ao];refine⟨λh=>?_,λh=>a _ _ ⟨Ext.refl _,w.heap.size,p9 _,aH.nil _ _ _ _⟩⟩;rw[Ci av.u,gW av.u al.i ko pE fc Ω Ω Ω,lw rfl];refine Mz (xs:=[]) rfl av.u al.u al.i rfl ⟨rfl,0,0,ν,0,rfl,p9 _,X9 _,λh=>m2 h (Nat.lt_irrefl _),λj v h=>by simp at h⟩ Ω Ω Ω Ω λv g I A J hm=>?_;obtain⟨_,⟨_,B⟩|⟨cap,cs,rfl,q,h1,r,s,C⟩⟩:=hm
  .omega
  rw[je av.u,gW av.u al.i ko pE fc Ω Ω Ω,m1 Ω];have y:V9 (λx:Addr=>x.add (0*1)) (σ ⟨g,0,ν⟩)=σ ⟨g,0,ν⟩:=by simp[U6]
  rw[y];refine a _ _ ⟨J,g,Ω,aH.of (n:=0) ⟨Ξ,.inr ⟨cap,cs,Ξ,q,Ω,r,s,Ξ⟩⟩⟩
 .intro aA a;simp only[aW,ao];exact⟨λh=>Ω,λ_=>a _ rfl⟩
theorem Qd{a b:Λ}{K:x1->x4->Prop}(E:aQ .i64 w bD a)(G:aQ .i64 w bv b)(S:a.length<=1000)(V:b.length<=1000)(W:∀v I g,Ext w I->w.heap.size<=g->aH .i64 al I g v (a++b)->K v I):
  aM x7 (Y3 df 2 #[(0,bD),(1,bv)]) w λt U=>aq x7 Lm [t] U K:=by
 obtain⟨⟨H,J,L,X⟩,⟨M,N,O,Y⟩⟩:(∃x n c,bD= .slice x n c)/\(∃x n c,bv= .slice x n c):=by
  obtain⟨_,_,_,x,c,h1,_⟩:=id E;obtain⟨_,_,_,y,d,Z,_⟩:=id G;exact⟨⟨x,_,c,h1⟩,⟨y,_,d,Z⟩⟩
 subst X;subst Y;refine lX df.u av.i Ω (cs:=#[.slice H J L,.slice M N O]) Ψ λg U ax s z=>?_;have z:=z;have key:∀i:Nat,i<2->∃v l,[x1.slice H J L,.slice M N O][i]?=σ v/\[a,b][i]?=σ l/\aQ .i64 w v l/\l.length<=1000:=λi hi=>by
  match i,hi with
  |0,_=>exact⟨_,_,rfl,rfl,E,S⟩
  |1,_=>exact⟨_,_,rfl,rfl,G,V⟩
 refine aF func246 ?_;rw[je df.u];refine cb.range 2 (λi size ab=>Ext U ab/\∃n:Nat,n<=1000*i/\size=Δ (n:Int)) Ω ⟨Ext.refl _,0,Ω,rfl⟩ ?_ ?_
 .rintro i _ ab aa hi ⟨f,n,ad,rfl⟩ ae;simp only[aW,ao];refine⟨λ_=>?_,λh=>Ω⟩;obtain⟨v,l,ac,P,C,af⟩:=key i hi;refine a1 (λv Q=>ab=Q/\v=Δ ((n+l.length:Nat):Int)) ?_ ?_
  .rintro _ _ ⟨rfl,rfl⟩;simp only[aR];exact ae _ _ ⟨f,_,Ω,rfl⟩
  .intro aA ag;rw[fq df.u av.i hi (λ_=>rfl),aD Ψ ((z.W f).cell (by rw[<-ac];congr 1;omega)),a7 av.u (C.W (s.F f))];simp only[aR,aW,ao];rw[hx Ω Ω];exact⟨λh=>Ω,λ_=>ag _ _ ⟨rfl,by congr 1⟩⟩
 .rintro _ ab aa ⟨f,n,ad,rfl⟩;simp only[aW,ao];refine⟨λh=>Ω,λ_=>?_⟩;refine(Qc Ω).Y ?_;rintro v0 Q _ ⟨R,ah,ay,ai⟩;have s1:=s.size;have az:=f.size;have aB:=R.size;have aj:=f.F R;rw[je df.u];refine cb.range 2 (λi v A=>Ext U A/\∃q,U.heap.size<=q/\aH .i64 al A q v (([a,b].take i).flatten)/\(([a,b].take i).flatten).length<=1000*i) Ω ⟨aj,ah,Ω,ai,Ξ⟩ ?_ ?_
  .rintro i v4 A ak hi ⟨j,q,am,B,aC⟩ an;simp only[aW,ao];refine⟨λ_=>?_,λh=>Ω⟩;obtain⟨v,l,ac,P,C,af⟩:=key i hi;rw[fq df.u av.i hi (λ_=>rfl),aD Ψ ((z.W j).cell (by rw[<-ac];congr 1;omega))];refine kN av.u al.i rfl B (C.W (s.F j)) Ω Ω λaE ap aG aI au aw=>?_;simp only[aR];have aJ:=j.size;have e:([a,b].take (i+1)).flatten=([a,b].take i).flatten++l:=by rw[u7,P];simp
   refine an _ _ ⟨j.then aw (by rintro r aK rfl;omega),ap,Ω,by rw[e];exact au,by rw[e,o4];omega⟩
  .rintro v4 A ak ⟨j,q,am,B,_⟩;simp only[aW,ao];refine⟨λh=>Ω,λ_=>W _ _ q (s.F j) Ω ?_⟩;have e:([a,b].take 2).flatten=a++b:=Ξ
   rw[e]at B;exact B
def rf(s1 a f e d7:Λ):Prop:=∀p∈d7,p∈a->p∈e->jG s1 (jo a p)=jG f (jo e p)
def dT(s1 a e f d7:Λ):Λ:=d7.map λp=>max (jG s1 (jo a p)) (jG e (jo f p))
theorem EC(s1 a e f d7:Λ):(dT s1 a e f d7).length=d7.length:=by simp[dT]
theorem vp{x:Int}:0<=jo l x↔x∈l:=by
 unfold jo;by_cases h:x∈l
 .rw[lw h];exact⟨λ_=>h,λ_=>Ω⟩
 .rw[m1 h];exact⟨λh=>Ω,λa=>m2 a h⟩
theorem Qe{g ay W az:Nat}{C X:x1}{s1 f d7 a e:Λ}{aB:Int}{aC aD:Λ}(h1:ds w g ay sv s1 k aC)(Y:ds w W az C f aB aD)(ac:aQ .i64 w X d7)(aE:aQ .i64 w bD a)(E:aQ .i64 w bv e)(aG:iQ a)(aI:iQ e)(bc:d7.length<=1000):
  aq x7 Ln [X,Γ g,bD,Γ W,bv] w λv I=>Ext w I/\
   (¬rf s1 a f e d7->v= .tuple #[.slice ν 0 0,.bool ne])/\
   (rf s1 a f e d7->∃x au,v= .tuple #[x,.bool ms]/\w.heap.size<=au/\aH .i64 al I au x (dT s1 a f e d7)):=by
 have sub:∀{w:x4}{g:Nat}{sv:x1}{k:Int}{bd:x1},ai w g c4 [sv,Δ k,bd]->w.rangeAt g (0+0) [sv]:=λE=>pL E (by
  intro j v ac
  match j,ac with
  |0,ac=>exact ac)
 refine aF func247 ?_;rw[a7 av.u ac];refine lk av.u al.i Ω Ω λgz U be Z aJ=>?_;have aL:=aH.of (n:=d7.length) (b7.full aJ Ξ (by simp[maxLen];omega));generalize (x1.slice (σ ⟨gz,0,ν⟩) d7.length d7.length)=aM at*;rw[a7 av.u (ac.W Z)];have G:=EC s1 a f e d7;refine k9.range d7.length (λi _ _ ab=>Ext w ab/\aH .i64 al ab gz aM (upto (dT s1 a f e d7) 0 i)/\∀(j:Nat)(p:Int),j<i->d7[j]?=σ p->p∈a->p∈e->jG s1 (jo a p)=jG f (jo e p)) Ω
  ⟨Z,by rw[si,G];exact aL,λj p z=>Ω⟩ ?_ ?_
 .rintro i _ _ ab aN hi ⟨q,hm,H⟩ aO;simp only[aW,ao];refine⟨λ_=>?_,λh=>Ω⟩;obtain⟨p,ae⟩:=aK (l:=d7) hi;rw[bm av.u al.i Ψ (ac.W q) ae];refine(ys (aE.W q) aG).Y ?_;rintro _ bf _ ⟨rfl,J⟩;refine(ys (E.W (q.F J)) aI).Y ?_;rintro _ aP _ ⟨rfl,aa⟩;have ad:=(q.F J).F aa;refine a1 (λv af=>Ext aP af/\∃c,v= .bool c/\(c=ms↔p∈a/\p∈e/\jG s1 (jo a p)≠jG f (jo e p))) ?_ ?_
  .rintro _ af ⟨ag,c,rfl,aj⟩;have ak:=ad.F ag;rw[b1];refine⟨λaS=>⟨ak,λ_=>by first|rfl|trivial,λz=>?_⟩,λah=>?_⟩
   .obtain⟨s,y,aT⟩:=aj.1 aS;exact m2 (z p (x6 ae) s y) aT
   .simp only[eP];intro bg am _ _;have K:=ak.F am;obtain⟨⟨bd,gs,L,M,_⟩,_⟩:=h1.W K;obtain⟨⟨aU,aV,N,O,_⟩,_⟩:=Y.W K;rw[bR,aY c4.p rfl,bF (cs:=[sv]) bL.p bL.i rfl (sub L),bR,aY c4.p rfl,bF (cs:=[C]) bL.p bL.i rfl (sub N)];refine(sw M.ls).Y ?_;rintro _ bh _ ⟨rfl,A⟩;refine⟨.inl A,?_⟩;refine(sw (O.ls.W A)).Y ?_;rintro _ bi _ ⟨rfl,an⟩;have aX:=(K.F A).F an;have ap:=hm.W ((((J.F aa).F ag).F am).F (A.F an));have bj:(upto (dT s1 a f e d7) 0 i).length=d7.length:=by rw[sh,G]
    rw[r1,jV rfl av.u al.i ap Ω];refine jW al.i ap Ω λbk aZ _ aw=>?_;simp only[aR];have a2:(dT s1 a f e d7)[i]?=σ (max (jG s1 (jo a p)) (jG f (jo e p))):=by
     unfold dT;rw[v8,ae];rfl
    rw[sk a2]at aw;refine aO _ _ _ ⟨aX.then aZ (by rintro r bl rfl;omega),aw,λj a6 z P s y=>?_⟩;by_cases a8:j=i
    .subst a8;rw[ae]at P;cases P;refine Decidable.byContradiction λba=>?_;have:=aj.2 ⟨s,y,ba⟩;rw[ah]at this;cases this
    .exact H j a6 Ω P s y
  .intro aA Q;simp only[eP,cJ,ao];intro bn B _ _;refine⟨λR=>⟨λS=>?_,λS=>⟨.inl (Ext.refl _),Q _ _ ⟨B,ne,rfl,⟨(λh=>by cases h),λh=>m2 (vp.2 h.2.1) S⟩⟩⟩⟩,λR=>⟨.inl (Ext.refl _),Q _ _ ⟨B,ne,rfl,⟨(λh=>by cases h),λh=>m2 (vp.2 h.1) R⟩⟩⟩⟩;have ax:=ad.F B;obtain⟨⟨bd,gs,L,M,_⟩,_⟩:=h1.W ax;obtain⟨⟨aU,aV,N,O,_⟩,_⟩:=Y.W ax;rw[bR,aY c4.p rfl,bF (cs:=[sv]) bL.p bL.i rfl (sub L),bR,aY c4.p rfl,bF (cs:=[C]) bL.p bL.i rfl (sub N)];refine(sw M.ls).Y ?_;rintro _ bo _ ⟨rfl,V⟩;refine⟨.inl V,?_⟩;refine(sw (O.ls.W V)).Y ?_;rintro _ bp _ ⟨rfl,bb⟩;simp only[bG];refine Q _ _ ⟨(B.F V).F bb,_,rfl,?_⟩;rw[decide_eq_true_iff];exact⟨λh=>⟨vp.1 R,vp.1 S,h⟩,λh=>h.2.2⟩
 .rintro _ _ ab aN ⟨q,hm,H⟩;simp only[aW,ao];refine⟨λh=>Ω,λ_=>?_⟩;have z:rf s1 a f e d7:=λp ae s y=>by
   obtain⟨i,hi,he⟩:=List.getElem_of_mem ae;exact H i p hi (by rw[x8 hi,he]) s y
  rw[<-G,sj]at hm;exact⟨q,λh=>m2 z h,λ_=>⟨_,gz,rfl,Ω,hm⟩⟩
def yw(a e d7:Λ):Prop:=iQ d7/\∀x,x∈d7↔x∈a\/x∈e
def p1(s1 h a e j f d7:Λ)(k:Int):Λ:=
 (X2 (aX (dT s1 a e f d7)).toNat).map λ(q:Nat)=>min (bt s1 h (gK (dl (dT s1 a e f d7) q) d7 a)+bt e j (gK (dl (dT s1 a e f d7) q) d7 f)) k
theorem Qf(s1 h a e j f d7:Λ)(k:Int):(p1 s1 h a e j f d7 k).length=(aX (dT s1 a e f d7)).toNat:=by simp[p1]
theorem vq{s cs:Λ}(hk:right k)(h:∀x∈cs,cA x k):cA (bt s cs t) k:=by
 have a:cA 0 k:=⟨hk,S8 _,by have:=hk.1;omega⟩
 grind [bt]
def Fits(s l:Λ):Prop:=l.length=s.length/\sO l
def sR(e:Int):x1:=.tuple #[.pointer ν,.slice ν 0 0,Δ e]
def ED(w:x4)(s1 r a f s e:Λ)(k h:Int)(v:x1)(I:x4):Prop:=
 Ext w I/\(¬(Fits s1 a/\Fits f e)->v=sR 1)/\
  (Fits s1 a/\Fits f e->∃d7,yw a e d7/\(¬rf s1 a f e d7->v=sR 1)/\(rf s1 a f e d7->(k≠h->v=sR 3)/\
   (k=h->¬cg (dT s1 a f e d7)->v=sR 1)/\(k=h->cg (dT s1 a f e d7)->4096<aX (dT s1 a f e d7)->v=sR 5)/\
   (k=h->cg (dT s1 a f e d7)->aX (dT s1 a f e d7)<=4096->∃j x y q,v= .tuple #[Γ j,q,Δ 0]/\
    ds I j x y (dT s1 a f e d7) k (p1 s1 r a f s e d7 k)/\aQ .i64 I q d7)))
theorem Qg{g bq ga br:Nat}{bu:x1}{s1 y f j:Λ}{aS:Int}{E G:Λ}(h1:ds w g bq sv s1 k E)(ad:ds w ga br bu y aS G)(af:aQ .i64 w bD f)(ag:aQ .i64 w bv j)(hk:right k)(ch:∀x∈E,cA x k)(ci:∀x∈G,cA x aS):
  aq x7 KE [Γ g,bD,Γ ga,bv] w (ED w s1 E f y G j k aS):=by
 have cj:=af.cells;have du:=ag.cells;have ck:=h1.2.2.1;have cl:=ad.2.2.1;have sub:∀{w:x4}{g:Nat}{sv:x1}{k:Int}{bd:x1},ai w g c4 [sv,Δ k,bd]->w.rangeAt g (0+0) [sv]:=by grind [pL]
 refine iM func186 ?_;refine bo λg1 U dv bw C=>?_;refine bo λbA ab dw aT H=>?_;refine bo λbH dx dy aG K=>?_;refine bo λbI Q dz ak L=>?_;have dA:=C.lt;have dC:=H.lt;have dD:=K.lt;have dE:=L.lt;have dF:=bw.size;have dG:=aT.size;have dH:=aG.size;have dI:=ak.size;have R:=((bw.F aT).F aG).F ak;have C:ai Q g1 fp [Γ g]:=((C.W aT).W aG).W ak;have H:ai Q bA av [bD]:=by rw[cj.1]at H;exact(H.W aG).W ak
 have K:ai Q bH fp [Γ ga]:=K.W ak;have L:ai Q bI av [bv]:=by grind
 refine a1 (λv bJ=>v= .bool ne/\Q=bJ) ?_ ?_
 rotate_left
 .intro aA aU;rw[aD Ψ (C.Qz rfl),cT fp.u];simp only[l9,a6];rw[aD Ψ (K.cell rfl),cT fp.u]
  grind
 rintro _ _ ⟨rfl,rfl⟩;simp only[a6];refine a1 (λv bM=>Ext Q bM/\∃c,v= .bool c/\(c=ms↔¬(Fits s1 f/\Fits y j))) ?_ ?_
 rotate_left
 .intro aA aU;rw[aD Ψ (C.cell rfl),aD Ψ (H.cell rfl)];refine(Es (h1.W R) (af.W R)).Y ?_;rintro _ bJ _ ⟨W,c,rfl,aI⟩;simp only[bE,b1];refine⟨λcm=>aU _ _ ⟨W,ms,rfl,λ_ h=>?_,λ_=>rfl⟩,λah=>?_⟩
  .have:=aI.2 h.1;grind
  .have cn:c=ms:=by grind
   rw[aD Ψ ((K.W W).cell rfl),aD Ψ ((L.W W).cell rfl)];refine(Es ((ad.W R).W W) ((ag.W R).W W)).Y ?_;rintro _ dJ _ ⟨cp,d,rfl,bN⟩;simp only[bE];refine aU _ _ ⟨W.F cp,_,rfl,λh aw=>?_,λh=>?_⟩
   .have:=bN.2 aw.2;grind
   .cases d with
    |false=>rfl
    |true=>exact m2 ⟨aI.1 cn,bN.1 rfl⟩ h
 rintro _ bM ⟨am,c,rfl,aI⟩;have aW:=R.F am;rw[b1];refine⟨λcm dK cq _=>⟨aW.F cq,λ_=>rfl,by grind⟩,λah=>?_⟩;have cr:=Classical.byContradiction λh=>by
  have:=aI.2 h;rw[ah]at this;cases this
 obtain⟨⟨dL,ct⟩,dM,cu⟩:=id cr;have dN:=ck.1;have dO:=cl.1;rw[aD Ψ ((H.W am).cell rfl),aD Ψ ((L.W am).cell rfl)];refine Qd (af.W aW) (ag.W aW) Ω Ω λdP dQ dR bO dS cw=>?_;refine yo cw.ls (by grind) λdU dV dW m bP dX bQ cz cB=>?_;have cC:=bQ.length_eq;rw[o4]at cC;refine(Qb cB Ω).Y ?_;rintro aZ dY _ ⟨cD,a2⟩;have dZ:=am.size;have ea:=bO.size;have eb:=bP.size;have bS:=(bO.F bP).then cD Ω;obtain⟨cE,cF⟩:=Er cz (p9 _);have ec:=PJ m m.length;have M:yw f j (dedup m m.length):=⟨cE,λx=>by rw[cF,o6,bQ.mem_iff,j5]⟩;generalize dedup m m.length=d7 at*;refine bC av.i λbh ed ee bT cG=>?_;refine bs av.i a2.ls.cells.1 a2.ls.cells.2 cG (by simp[x1.cells]) λef cH eg an=>?_;have eh:=bS.size;have ei:=bT.size;have a7:=bT.then cH Ω;have X:=(am.F bS).F a7;have ap:=R.F X;have cQ:=an.lt;have bU:=a2.ls.W a7;have an:=an;rw[aD Ψ (an.cell rfl),aD Ψ ((C.W X).cell rfl),aD Ψ ((H.W X).cell rfl),aD Ψ ((K.W X).cell rfl),aD Ψ ((L.W X).cell rfl)];refine(Qe (h1.W ap) (ad.W ap) bU (af.W ap) (ag.W ap) ct.up cu.up Ω).Y ?_;rintro ej ek _ ⟨ay,cI,cJ⟩;have bV:=ap.F ay;by_cases bW:rf s1 f y j d7
 rotate_left
 .rw[cI bW,bx,bz];simp only[bE,X4,bK];intro em cK _;exact⟨bV.F cK,by grind,λ_=>⟨d7,M,λ_=>rfl,by grind⟩⟩
 obtain⟨xs,au,rfl,en,cL⟩:=cJ bW;rw[bx,bz];simp only[bE,Y1,a6];intro Y Z _ _;have aJ:=(X.F ay).F Z;have ac:=bV.F Z;have C:=C.W aJ;have H:=H.W aJ;have K:=K.W aJ;have L:=L.W aJ;have cM:=(an.W ay).W Z;obtain⟨⟨bd,gs,bX,eo,_⟩,_⟩:=h1.W ac;obtain⟨⟨ep,er,cN,es,_⟩,_⟩:=ad.W ac;rw[aD Ψ (C.cell rfl),aL c4.p 1 bX rfl,aD Ψ (K.cell rfl),aL c4.p 1 cN rfl];simp only[bG,ao];refine⟨λaK et cO _=>⟨ac.F cO,by grind,λ_=>⟨d7,M,by grind,λ_=>⟨λ_=>rfl,Ω,Ω,Ω⟩⟩⟩,λaK=>?_⟩;have aK:=X0.1 aK;subst aK;rw[aD Ψ (C.cell rfl),aL c4.p 1 bX rfl];have cP:=cL.W Z;refine(xv cP.ls).Y ?_;rintro aV aM _ ⟨bY,eu,ev,_,cR⟩;have ew:=a7.size;have ey:=ay.size;have ez:=Z.size;have eA:=bY.size;obtain⟨az,e,rfl,eB,a8⟩:∃(az:Option Addr)(e:Int),aV= .tuple #[.pointer az,Δ e]/\(e=0->az≠ν)/\((e=1/\¬cg (dT s1 f y j d7))\/(e=5/\cg (dT s1 f y j d7)/\4096<aX (dT s1 f y j d7))\/(e=0/\cg (dT s1 f y j d7)/\aX (dT s1 f y j d7)<=4096/\
   ∃z B A,az=σ ⟨z,0,ν⟩/\Y.heap.size<=z/\Y.heap.size<=B/\(∀r,hv A r->Y.heap.size<=r)/\ds aM z B A (dT s1 f y j d7) k (r9 (aX (dT s1 f y j d7)).toNat 0))):=by
  by_cases V:cg (dT s1 f y j d7)
  .by_cases ae:aX (dT s1 f y j d7)<=4096
   .obtain⟨z,B,A,cS,cU,cV,cW,cX⟩:=cR V ae ⟨hk,Ω,by have:=hk.1;omega⟩;exact⟨_,_,cS,by grind,.inr (.inr ⟨rfl,V,ae,z,B,A,rfl,cU,cV,cW,cX⟩)⟩
   grind
  grind
 rw[bx,bz];refine bC fp.i λcY eC eD bZ aB=>?_;refine bs fp.i rfl rfl aB (by simp[x1.cells]) λeE cZ eF aB=>?_;have eH:=bZ.size;have ba:=bZ.then cZ Ω;have b0:=bY.F ba;have c0:=ac.F b0;have eI:=aB.lt;simp only[bG,ao];refine⟨λeJ eK c1 _=>⟨c0.F c1,by grind,λ_=>⟨d7,M,by grind,λ_=>⟨Ω,λ_ V=>?_,λ_ V ae=>?_,λ_ V ae=>?_⟩⟩⟩,λeL=>?_⟩
 .rcases a8 with⟨rfl,_⟩|⟨_,h,_⟩|⟨_,h,_⟩
  .rfl
  all_goals grind
 .rcases a8 with⟨_,h⟩|⟨rfl,_⟩|⟨_,_,h,_⟩
  .grind
  .rfl
  .omega
 .grind
 obtain⟨bb,c2,z,B,A,rfl,eM,eN,eO,aN⟩:cg (dT s1 f y j d7)/\aX (dT s1 f y j d7)<=4096/\
   ∃z B A,az=σ ⟨z,0,ν⟩/\Y.heap.size<=z/\Y.heap.size<=B/\(∀r,hv A r->Y.heap.size<=r)/\ds aM z B A (dT s1 f y j d7) k (r9 (aX (dT s1 f y j d7)).toNat 0):=by
  rcases a8 with⟨h,_⟩|⟨h,_⟩|⟨_,h⟩
  all_goals omega
 obtain rfl:e=0:=Ω
 have eP:(dT s1 f y j d7).length=d7.length:=EC _ _ _ _ _;have eQ:=prod_bound bb;obtain⟨N,b2⟩:∃N:Nat,(aX (dT s1 f y j d7)).toNat=N:=⟨_,rfl⟩;rw[b2]at aN;have eR:0<N:=Ω
 have c3:=aN.W ba;obtain⟨⟨bc,b3,b4,b5,c5⟩,⟨c6,c7,_⟩,_,eS⟩:=id c3;have eU:z<aM.heap.size:=by obtain⟨⟨_,_,q,_⟩,_⟩:=id aN;exact q.lt
 have eV:B<aM.heap.size:=by obtain⟨⟨_,_,_,_,q⟩,_⟩:=id aN;exact sM q Θ
 rw[aD Ψ (aB.cell rfl),bR,aY c4.p rfl,bF (cs:=[A]) bL.p bL.i rfl (sub b4)];refine uR.Y ?_;rintro _ aO _ ⟨O,be,rfl,eW,b6⟩;have eX:=ba.size;have eY:=O.size;let S:Nat->Prop:=λr=>r=B;let aE:=p1 s1 E f y G j d7 k;have bf:aE.length=N:=by grind [Qf]
 have c8:=(bU.W ay).W Z;let c9:x4->Prop:=λI=>ai I g1 fp [Γ g]/\ai I bA av [bD]/\ai I bH fp [Γ ga]/\ai I bI av [bv]/\ai I bh av [aZ]/\aQ .i64 I aZ d7/\
  ai I cY fp [Γ z]/\ai I z c4 [A,Δ k,bc]/\ds I g bq sv s1 k E/\ds I ga br bu y k G/\aQ .i64 I bD f/\aQ .i64 I bv j/\aH .i64 al I b3 A (dT s1 f y j d7)/\ai I be bL [A]/\aO.heap.size<=I.heap.size
 have b7:=b0.F O;have facts:∀{a:x4},aj S aO a->c9 a:=by
  intro a J;have P:=b7.put J Ω;have aP:=ac.F P;exact⟨C.W P,H.W P,K.W P,L.W P,cM.W P,c8.W P,(aB.W O).aa J Ω,(b4.W O).aa J Ω,h1.W aP,ad.W aP,af.W aP,ag.W aP,
   bB (b5.W O) J (by grind),b6.aa J Ω,J.size⟩
 have b8:=uQ (g:=be) (B0:=aO.heap.size) (sv:=A) bb;rw[b2]at b8;refine oq.old ⟨Nat,ne,mD,#[Γ be],0,_,_,_,λq I=>aj S aO I/\aH .i64 ax I B bc (upto aE 0 q),λ_ _ _=>False,rfl,b8.s,
  ?_,λ_ _ J h=>⟨h.1.W J,h.2.1.W J,Y7 h.2.2 J.size⟩,λ_ _ _ J h=>⟨h.1.F (J.aa S),h.2.W J⟩,by grind,⟨b6,(b5.W O).ls,p9 _⟩,⟨aj.refl _ _,?_⟩,?_,?_,by grind,by grind⟩
 .rintro _ _ _ _ ⟨_,_,_,_,rfl,_⟩;rfl
 .rw[si,bf];exact c5.W O
 .rintro _ aV q _ eZ ⟨_,_,e0⟩ ⟨b9,rfl,e1,gt,da,e2,ca⟩ ⟨aR,db⟩;cases da;let x:=dl (dT s1 f y j d7) (q:Int);have cb:x.length=d7.length:=by grind [kQ]
  intro e3 dc _ _;intro e4 dd _ _;have bg:=dc.F dd;obtain⟨f1,f2,f3,f4,f5,f6,f7,f8,f9,f10,f11,f12,f13,f14,f15⟩:=facts (aR.F (bg.aa S));rw[aD Ψ (f1.cell rfl),aD Ψ (f5.cell rfl),aD Ψ (f2.cell rfl)];refine(Eu (ca.ls.W bg) f6 f11 M.1 (λp ae=>(M.2 p).2 (.inl ae)) cb Ω).Y ?_;rintro e5 e6 _ ⟨bi,e7,e8,de⟩;refine⟨.inl bi,?_⟩;refine(xw (f9.W bi) de.ls).Y ?_;rintro _ e9 _ ⟨rfl,df⟩;obtain⟨fa,dg⟩:=yn s1 (gK x d7 f) E;have dh:=dg;rw[dh,bx,bz];intro fb di _ _;have bj:=((bg.F bi).F df).F di;obtain⟨f1,f2,f3,f4,f5,f6,f7,f8,f9,f10,f11,f12,f13,f14,f15⟩:=facts (aR.F (bj.aa S));rw[aD Ψ (f3.cell rfl),aD Ψ (f5.cell rfl),aD Ψ (f4.cell rfl)];refine(Eu (ca.ls.W bj) f6 f12 M.1 (λp ae=>(M.2 p).2 (.inr ae)) cb Ω).Y ?_;rintro fc fd _ ⟨bk,fe,ff,dj⟩;refine⟨.inl bk,?_⟩;refine(xw (f10.W bk) dj.ls).Y ?_;rintro _ fg _ ⟨rfl,dk⟩;obtain⟨fh,dm⟩:=yn y (gK x d7 j) G;have dn:=dm;rw[dn,bx,bz];intro fi dp _ _;have bl:=((bj.F bk).F dk).F dp;obtain⟨f1,f2,f3,f4,f5,f6,f7,f8,f9,f10,f11,f12,f13,f14,f15⟩:=facts (aR.F (bl.aa S));rw[aD Ψ (f7.cell rfl),aL c4.p 2 f8 rfl,aD Ψ (f7.cell rfl),aL c4.p 1 f8 rfl];refine xW.Y ?_;rintro _ fj _ ⟨rfl,bm⟩;refine⟨.inl bm,?_⟩;have dq:pU (bt s1 E (gK x d7 f)) (bt y G (gK x d7 j)) k= .tuple #[Δ (min (bt s1 E (gK x d7 f)+bt y G (gK x d7 j)) k),Δ 0]:=lw ⟨vq hk ch,vq hk ci⟩;rw[dq,gj (v:=Δ (min (bt s1 E (gK x d7 f)+bt y G (gK x d7 j)) k)) rfl,gj (v:=Δ 0) rfl];have cc:=db.W (bl.F bm);have fk:(upto aE 0 q).length=N:=by rw[sh,bf]
  rw[jV rfl aC.u ax.i cc Ω];refine jW ax.i cc Ω λfm fo fq cd=>?_;have ce:=(aR.F ((bl.F bm).aa S)).F Ω;obtain⟨f1,f2,f3,f4,f5,f6,f7,f8,f9,f10,f11,f12,f13,f14,f15⟩:=facts ce;have dr:aE[q]?=σ (min (bt s1 E (gK x d7 f)+bt y G (gK x d7 j)) k):=by
   simp only[aE,p1];rw[v8,List.getElem?_range Ω];rfl
  rw[sk dr]at cd;exact⟨⟨f14,f13.ls,f15⟩,⟨ce,cd⟩,by grind⟩
 .rintro q fs b9 ⟨cf,bn⟩;rw[show q=N from b9]at bn;intro ft bp _ _;obtain⟨f1,f2,f3,f4,f5,f6,f7,f8,f9,f10,f11,f12,f13,f14,f15⟩:=facts (cf.F (bp.aa S));rw[aD Ψ (f7.cell rfl),aD Ψ (f5.cell rfl)];intro fu aF _;rw[<-bf,sj]at bn;have dt:=ac.F b7;refine⟨((dt.put cf Ω).F bp).F aF,by grind,λ_=>⟨d7,M,by grind,λ_=>⟨Ω,by grind,Ω,λ_ _ _=>⟨z,B,A,aZ,rfl,⟨⟨bc,b3,f8.W aF,f13.W aF,(bn.W bp).W aF⟩,⟨c6,c7,c2⟩,bb,by grind⟩,f6.W aF⟩⟩⟩⟩
theorem iQ.pair(h:iQ l):l.Pairwise (·< ·):=U3.2 λi j hi a e=>h i j _ _ e (x8 hi) (x8 a)
theorem Qh{m:Λ}(e:iQ l)(hm:iQ m)(h:∀x,x∈l↔x∈m):l=m:=by
 have f:l.Nodup:=e.pair.imp λh=>Ω
 have j:m.Nodup:=hm.pair.imp λh=>Ω
 exact S2.eq_of_pairwise (le:=(·<= ·)) (λa b _ _ h1 q=>Int.le_antisymm h1 q) (e.pair.imp λh=>Int.le_of_lt h) (hm.pair.imp λh=>Int.le_of_lt h) ((List.perm_ext_iff_of_nodup f j).2 h)
theorem Qi{d7:Λ}(h:yw l l d7)(hu:iQ l):d7=l:=Qh h.1 hu λx=>by rw[h.2];simp
theorem EE(h:l.Pairwise (·< ·)):iQ l:=λi j x y a J e=>by
 grind [U3]
theorem Qj{x:Λ}(hu:l.Nodup)(h:x.length=l.length):gK x l l=x:=by
 refine Y5 λi=>?_
 grind [gK]
theorem EF{s:Λ}(hu:iQ l)(h:s.length=l.length):dT s l s l l=s:=by
 refine Y5 λi=>?_
 grind [dT,V0,Et,jG]
theorem Qk{s a b:Λ}(hu:l.Pairwise (·< ·))(h:s.length=l.length)(V:dN s)(e:a.length=(aX s).toNat)(f:b.length=(aX s).toNat):p1 s a l s b l l k=eS k a b:=by
 have j:l.Nodup:=hu.imp Ω
 grind [p1,EF,EE,O5,Qj,kQ]
theorem Ql{s a b:Λ}(hu:l.Pairwise (·< ·))(r:∀x∈l,0<=x)(h:s.length=l.length)(V:cg s)(ae:aX s<=4096)(y:a.length=(aX s).toNat)(z:b.length=(aX s).toNat)(e:ED w s a l s b l k k v I):
  Ext w I/\∃j A B C,v= .tuple #[Γ j,C,Δ 0]/\ds I j A B s k (eS k a b):=by
 obtain⟨J,_,e⟩:=e;have f:=EE hu;have q:Fits s l:=⟨h.symm,PK f r⟩;obtain⟨d7,ac,_,E⟩:=e ⟨q,q⟩;have F:=Qi ac f;subst F;obtain⟨_,_,_,G⟩:=E λp H K L=>rfl;rw[EF f h,Qk hu h V.2 y z]at G
 grind
theorem Qm{s:Λ}(V:dN s):(bq s).Nodup:=(Ei V).imp λ{a b}h he=>by subst he;omega
theorem Qn{s:Λ}{i:Nat}(V:dN s)(hi:(bq s)[i]?=σ t)(a:(bq s)[j]?=σ t):i=j:=l8 (Qm V) hi a
theorem Qo{s:Λ}(V:dN s)(h:dE s t):∃j:Nat,(bq s)[j]?=σ t:=Y4.1 ((Eh V).2 h)
theorem vr{g m:Nat}{d:List (x1×x1)}(h:ai w g e cs)(hm:c8 w m d)(a:aj (λr=>r=m) w I):ai I g e cs:=h.aa a (λhe=>vi h hm he)
theorem EG{g m:Nat}{k:o5}{d:List (x1×x1)}(h:aH k e w g v l)(hm:c8 w m d)(a:aj (λr=>r=m) w I):aH k e I g v l:=bB h a (λ_ f he=>Ek h hm f he)
def vt(cs:Λ)(o:Int):Prop:=o∈cs/\∀d∈cs,cs.count d<cs.count o\/(cs.count d=cs.count o/\o<=d)
theorem Qp{i:Nat}{x:Int}(h:l[i]?=σ x)(y:Int):(l.take (i+1)).count y=(l.take i).count y+if y=x then 1 else 0:=by
 rw[u7,h,List.count_append];congr 1;simp only[o8,List.count_singleton];by_cases a:y=x
 .subst a;simp
 .rw[m1 a,m1 (by simpa using λh=>a h.symm)]
def iD(p:Int×Int):x1×x1:=(Δ p.1,Δ p.2)
theorem sS:Keys x7 ax λv=>∃n,v=Δ n:=Keys.int ax.u
theorem sT(E:List (Int×Int)):∀p∈E.map iD,∃n,p.1=Δ n:=λp ae=>by
 obtain⟨q,_,rfl⟩:=o9.1 ae;exact⟨_,rfl⟩
def yx(cs:Λ)(E:List (Int×Int)):Prop:=(∀x,x∈E.map (·.1)↔x∈cs)/\∀p∈E,p.2=(cs.count p.1:Nat)
theorem EH{cs:Λ}{E:List (Int×Int)}(h:yx cs E){x:Int}(J:x∈cs):∃j:Nat,E[j]?=σ (x,((cs.count x:Nat):Int)):=by
 obtain⟨p,ae,rfl⟩:=o9.1 ((h.1 x).2 J);obtain⟨j,a⟩:=Y4.1 ae;exact⟨j,by rw[a,<-h.2 p ae]⟩
theorem EI{cQ:x1}{cs:Λ}(h:aQ .i64 w cQ cs)(au:cs≠[])(bf:cs.length<=1000000):aq x7 ug [cQ] w λv I=>Ext w I/\∃o,v=Δ o/\vt cs o:=by
 refine aF func256 ?_;refine aM.cO (sx λm U hm V aJ bg=>?_);rw[a7 aC.u (h.W V)];refine b6.range cs.length (λi ab=>aj (λr=>r=m) U ab/\∃E,c8 ab m (E.map iD)/\yx (cs.take i) E) Ω ⟨aj.refl _ _,[],aJ,by simp[yx]⟩ ?_ ?_
 .rintro i ab aL hi ⟨C,E,z,e⟩ av;obtain⟨x,W⟩:=aK (l:=cs) hi;have G:Ext w ab:=V.put C Ω;have aN:∀y,(cs.take i).count y<=1000000:=λy=>by
   have:=List.count_le_length (a:=y) (l:=cs.take i);rw[j9]at this;omega
  refine bM Ω ?_;rw[bm aC.u ax.i Ψ (h.W G) W];have N:=Qp W;have aw:∀y,y∈cs.take (i+1)↔y∈cs.take i\/y=x:=λy=>by
   rw[u7,W];simp
  by_cases H:x∈cs.take i
  .obtain⟨j,X⟩:=EH e H;have O:(E.map iD)[j]?=σ (Δ x,Δ (((cs.take i).count x:Nat):Int)):=by rw[v8,X];rfl
   rw[sy nH.u sS z (sT E) ⟨_,rfl⟩ O];simp only[Bool.false_eq_true,if_false];have:=aN x;rw[aR,hx Ω Ω];refine aM.cO (q7 nH.u sS z (sT E) ⟨_,rfl⟩ (λP v0 Y Z J aa aO=>?_) (λY Q=>m2 rfl (Q _ (x6 O))));have aP:=z.uniq Z O rfl;subst aP;rw[aR];have ac:(E.map iD).set P (Δ x,Δ ((((cs.take i).count x:Nat):Int)+1))=(E.set P (x,(((cs.take i).count x:Nat):Int)+1)).map iD:=by rw[U4];rfl
   rw[ac]at J;have aS:=(x5.1 X).1;refine av _ ⟨C.F aa,_,J,λy=>?_,λp ae=>?_⟩
   .rw[U4,sn (by rw[v8,X];rfl),e.1,aw];exact⟨.inl,λh=>h.elim id (λh=>h▸H)⟩
   .obtain⟨q,f⟩:=Y4.1 ae;by_cases af:P=q
    .subst af;rw[Y2 aS]at f;cases f;show _=(((cs.take (i+1)).count x:Nat):Int);rw[N,lw rfl];omega
    .rw[W0 af]at f;have ag:p.1≠x:=λhe=>af (z.uniq O (show(E.map iD)[q]?=σ (iD p) by rw[v8,f];rfl) (by rw[iD,he]));rw[e.2 p (x6 f),N,m1 ag,Nat.add_zero]
  .have Q:∀p∈E.map iD,p.1≠V6 .i64 x:=λp ae he=>by
    obtain⟨q,f,rfl⟩:=o9.1 ae;have:q.1=x:=by simpa[iD]using he
    exact H ((e.1 x).1 (o9.2 ⟨q,f,this⟩))
   rw[uT nH.u sS ⟨_,_,al.i⟩ z (sT E) ⟨_,rfl⟩ Q];simp only[Bool.false_eq_true,if_false];rw[aR,hx Ω Ω];refine aM.cO (q7 nH.u sS z (sT E) ⟨_,rfl⟩ (λP v0 Y Z=>m2 rfl (Q _ (x6 Z))) (λY _ J aa aO=>?_));rw[aR];have ac:E.map iD++[(V6 .i64 x,V6 .i64 (0+1))]=(E++[(x,1)]).map iD:=by rw[Z2];rfl
   rw[ac]at J;have aT:(cs.take i).count x=0:=List.count_eq_zero.2 H;refine av _ ⟨C.F aa,_,J,λy=>?_,λp ae=>?_⟩
   .rw[Z2,j5,e.1,aw];simp
   .rcases j5.1 ae with ae|ae
    .have ag:=λhe=>H ((e.1 x).1 (o9.2 ⟨p,ae,he⟩));rw[e.2 p ae,N,m1 ag,Nat.add_zero]
    .rw[Z7.1 ae];show(1:Int)=(((cs.take (i+1)).count x:Nat):Int);rw[N,lw rfl,aT];rfl
 rintro ab aL ⟨C,E,z,e⟩;rw[o6]at e;have G:=V.put C Ω;refine cc Ω ?_;refine(ND (h.W G) au).Y ?_;rintro _ aU bh ⟨rfl,ah⟩;have bi:=G.size;have bj:=ah.size;refine aM.cO (uU nH.u (z.W ah) λL bk bn aV bo aX bp=>?_);refine⟨λoO B=>∃b A s left ay,oO=Δ b/\b∈cs/\Ext aU B/\iA B L m (E.map iD) left ay/\left=s.map iD/\(A++s).Perm E/\∀p∈A,cs.count p.1<cs.count b\/(cs.count p.1=cs.count b/\b<=p.1),λ_ B=>lx B L,
  ⟨xK cs,[],E,E.map iD,ν,rfl,(Ng au).1,aV,aX,rfl,S2.refl _,λp ae=>by cases ae⟩,?_⟩
 rintro _ B ⟨b,A,s,left,ay,rfl,ai,ak,az,rfl,R,am⟩;refine uV az (λ_=>by show w.heap.size<=L;omega) (λaY=>?_) (λj p an ae aB bq M=>?_)
 .rw[gj (v:=.bool ne) rfl,a6];have:s=[]:=List.map_eq_nil_iff.1 aY;subst this;rw[V2]at R;refine⟨(G.F ah).F ak,b,rfl,ai,λd aZ=>?_⟩;obtain⟨q,f,rfl⟩:=o9.1 ((e.1 d).2 aZ);exact am q (R.mem_iff.2 f)
 .rw[gj (v:=.bool ms) rfl,bK];refine uW M ?_;obtain⟨q,f,rfl⟩:∃q,s[j]?=σ q/\iD q=p:=by
   rw[v8]at ae;exact Y0.1 ae
  have aD:=R.mem_iff.1 (j5.2 (.inr (x6 f)));have br:=e.2 q aD;have a2:=(e.1 q.1).1 (o9.2 ⟨q,aD,rfl⟩);obtain⟨a8,ba⟩:=EH e ai;have bb:(E.map iD)[a8]?=σ (Δ b,Δ ((cs.count b:Nat):Int)):=by rw[v8,ba];rfl
  rw[gj (v:=Δ q.1) rfl,gj (v:=Δ q.2) rfl];have aE:(A++[q]++s.eraseIdx j).Perm E:=by
   refine S2.F ?_ R;rw[X7];exact S2.append_left A (sE f)
  have aG:lx an L<lx B L:=by
   rw[oL M,oL az];have:=u0 (x5.1 ae).1;omega
  refine a1 (λv bc=>an=bc/\∃r:Bool,v= .bool r/\(r=ms↔(cs.count b<cs.count q.1\/(cs.count q.1=cs.count b/\q.1<b)))) ?_ ?_
  .rintro _ _ ⟨rfl,r,rfl,S⟩;rw[b1];refine⟨λbd=>?_,λaH=>?_⟩
   .have S:=S.1 bd;refine⟨⟨q.1,A++[q],s.eraseIdx j,_,_,rfl,a2,ak.F aB,M,(mT iD s j),aE,λp ae=>?_⟩,aG⟩;rcases j5.1 ae with ae|ae
    .have:=am p ae;omega
    .rw[Z7.1 ae];exact .inr ⟨rfl,S8 _⟩
   .have S:¬(cs.count b<cs.count q.1\/(cs.count q.1=cs.count b/\q.1<b)):=λh=>by rw[S.2 h]at aH;cases aH
    refine⟨⟨b,A++[q],s.eraseIdx j,_,_,rfl,ai,ak.F aB,M,(mT iD s j),aE,λp ae=>?_⟩,aG⟩;rcases j5.1 ae with ae|ae
    .exact am p ae
    .rw[Z7.1 ae];omega
  .intro aA ap;have aI:∀K:x1->Prop,ad x7 (Instr.lookup nH (.map (σ m)) (Δ b) ne) an K=K (Δ ((cs.count b:Nat):Int)):=λK=>by
    rw[sy nH.u sS M.map (sT E) ⟨_,rfl⟩ bb];simp
   rw[aI,bU,ao];refine⟨λh1=>ap _ _ ⟨rfl,ms,rfl,⟨λ_=>.inl Ω,λ_=>rfl⟩⟩,λh1=>?_⟩;rw[aI,bl,ao];refine⟨λbe=>?_,λbe=>ap _ _ ⟨rfl,ne,rfl,⟨λh=>(by cases h),λh=>Ω⟩⟩⟩;rw[aW];refine ap _ _ ⟨rfl,_,rfl,?_⟩;rw[m6];omega
theorem Qq{g:Nat}{k:o5}{q:r8}(h:aH k e w g v l)(s:ai w j q cs)(y:e≠q)(x:hv v r):r≠j:=by
 obtain⟨rfl,_⟩:=b5 h x;obtain⟨_,⟨rfl,_⟩|⟨_,_,_,f,_⟩⟩:=h
 .obtain⟨a,n,c,h,_⟩:=x;cases h
 .rintro rfl;unfold ai at s f;rw[s]at f;injection f with h1;injection h1 with A z;exact y z.symm
def Qr(w:x4)(am:Λ)(k:Int)(cs:Λ)(v:x1)(I:x4):Prop:=Ext w I/\∃g m o D,v=Γ g/\e4 I g m am k o D/\D.length<=(aX am).toNat/\j3 am (j0 D o) cs/\vt cs o
theorem Qs{g bP:Nat}{cs:Λ}(h:ds w g bP sv am k cs)(aG:∀c∈cs,cA c k):aq x7 KL [Γ g] w (Qr w am k cs):=by
 obtain⟨⟨bd,gs,bb,hm,cl⟩,⟨_,_,bc⟩,V,an⟩:=id h;have ae:=prod_bound V;have cm:=V.1;have be:cs≠[]:=λhe=>by rw[he]at an;simp at an;omega
 refine iM func196 ?_;rw[cT fp.u];simp only[l9,a6];refine(oK h).Y ?_;rintro cQ ab _ ⟨P,cn,cp,aH⟩;refine bC aC.i λao cq cr bf bg=>?_;have ct:=bg.lt;refine bs aC.i aH.ls.cells.1 aH.ls.cells.2 bg (by simp[x1.cells]) λap bQ cu au=>?_;have au:ai ap ao aC [cQ]:=au;have cw:=P.size;have cz:=bf.size;have bh:Ext ab ap:=bf.put bQ Ω;have bi:=aH.W bh;have Z:=P.F bh;refine a1 (λu av=>∃a G m o L M,u=Γ a/\Ext ap av/\ai av a fb [Γ G]/\ap.heap.size<=m/\gJ av G m L M am k o []/\vt cs o) ?_ ?_
 .rintro _ av ⟨a,G,m,o,L,M,rfl,ac,e,cB,B,E⟩;have bR:=h.W (Z.F ac);have bS:=au.W ac;have bT:=bi.W ac;refine(q6 bR).Y ?_;rintro _ cC _ ⟨rfl,bU⟩;refine uR.Y ?_;rintro _ aI _ ⟨bV,bj,rfl,cD,bk⟩;have Q:=bU.F bV;have bl:=B.W Q;have bW:=bS.W Q;have bn:=e.W Q;have bX:=bT.W Q;have bo:=hm.W ((Z.F ac).F Q);have S:=bl.2.2.1;have bY:=(Z.F ac).F Q;have cE:=Z.size;have bZ:=uQ (g:=bj) (B0:=aI.heap.size) (sv:=sv) V;refine oq.old ⟨Nat,ne,mD,#[Γ bj],_,_,_,_,λi I=>aj (λr=>r=m) aI I/\∃D,D.length<=i/\gJ I G m L M am k o D/\∀(j:Nat)t,(bq am)[j]?=σ t->j0 D o t=if j<i then bt am cs t else o,λ_ _ _=>False,rfl,bZ.s,
   ?_,λ_ _ J h=>⟨h.1.W J,h.2.1.W J,Y7 h.2.2 J.size⟩,λ_ _ _ J ⟨h1,D,b0,b1,bc⟩=>⟨h1.F (J.aa _),D,b0,b1.W J,bc⟩,λ_ _ _ _ _ h=>h,⟨bk,bo.ls,p9 _⟩,⟨aj.refl _ _,[],p9 _,bl,λj t _=>by rw[m1 Ω];rfl⟩,?_,?_,λ_ _ h=>h.elim,λ_ _ _ h=>h.elim⟩
  .rintro _ _ _ _ ⟨_,_,_,_,rfl,_⟩;rfl
  .rintro _ aV i _ b2 ⟨cF,cG,b3⟩ ⟨hi,rfl,cH,gt,b4,cI,z⟩ ⟨aw,D,bp,aJ,aK⟩;cases b4;have aL:(bq am)[i]?=σ (dl am (i:Int)):=qZ V.2 Ω;have b5:=xM V.2 hi;generalize dl am (i:Int)=t at*;have br:=Pc V.2 an aL;intro b6 ay _ _;intro b7 b8 _ _;have az:=ay.F b8;have aB:aj (λr=>r=m) aI b7:=aw.F (az.aa _);rw[aD Ψ ((vr bn S aB).cell rfl),aD Ψ ((vr bW S aB).cell rfl),bm aC.u ax.i Ψ (EG bX S aB).ls br];have aN:=aJ.W az;refine(Dz aN.is (z.W az).ls).Y ?_;rintro _ cJ _ ⟨_,b9⟩;obtain⟨rfl,aO,D',bu,bw⟩:=b9 ⟨b5,aG _ (x6 br)⟩;have aP:=aB.F aO;have cL:=bu.2;refine⟨⟨vr bk S aP,(EG bo S aP).ls,Y7 b3 (Y7 az.size aO.size)⟩,⟨aP,D',Ω,aN.put aO bw,λj s N=>?_⟩,λh=>by cases h⟩;rw[bu.cost aN.is.nodup bw.nodup];by_cases bA:j=i
   .subst bA;rw[aL]at N;cases N;rw[lw rfl,lw Ω]
   .rw[m1 (λ(he:s=t)=>bA (Qn V.2 (by rw[<-he];exact N) aL)),aK j s N];by_cases h1:j<i
    .rw[lw h1,lw Ω]
    .rw[m1 h1,m1 Ω]
  .rintro i b2 rfl ⟨aw,D,bp,aJ,aK⟩;rw[aD Ψ ((vr bn S aw).cell rfl)];intro b6 ay _;refine⟨(bY.put aw Ω).F ay,G,m,o,D,rfl,aJ.is.W ay,bp,⟨an,λt ca=>?_⟩,E⟩;obtain⟨j,N⟩:=Qo V.2 ca;have:=(x5.1 N).1;rw[jg V.2]at this;rw[aK j t N,lw this]
 intro aA bB;intro A af _ _;have aR:=Z.F af;have bD:=af;have aE:=h.W aR;have bE:=bi.W af;have cM:=af.size;rw[aD Ψ ((au.W af).cell rfl)];have bF:∀{a:Nat}{I:x4}{aV:x1}{o:Int},Ext A I->A.heap.size<=a->(∃f,ai I a fb [f])->aQ .i64 I aV am->vt cs o->
   aq x7 qI [aV,Δ k,Δ o] I λC x=>ad x7 (Z9 C 0) x λO=>ad x7 (Z9 C 1) x λ_=>aM x7 (o7 fb (Γ a) O) x λ(_:Unit)H=>aA (Γ a) H:=by
  rintro a I aV o y q ⟨f,e⟩ z E;refine(Dt z).Y ?_;rintro _ x _ ⟨aS,_,_,aT⟩;obtain⟨G,m,rfl,cb,cc,B⟩:=aT V (aG _ E.1);obtain⟨L,M,B⟩:=B.at;rw[bx,bz];have cd:=e.lt;have s':=y.size;refine bs fb.i rfl rfl (e.W aS) Ξ λH bG cN ce=>?_;refine bB _ _ ⟨a,G,m,o,L,M,rfl,((bD.F y).F aS).put bG Ω,ce,Ω,B.aa bG (λhe=>by have he:=he;omega) (λhe=>by have he:=he;omega) (λr aU he=>?_),E⟩;exact Qq B.2.1 (e.W aS) Φ aU he
 have bH:∀{a:Nat}{I:x4}{aV:x1},Ext A I->A.heap.size<=a->(∃f,ai I a fb [f])->aQ .i64 I aV am->
   aq x7 ug [cQ] I λag ab=>aq x7 qI [aV,Δ k,ag] ab λC x=>ad x7 (Z9 C 0) x λO=>ad x7 (Z9 C 1) x λ_=>aM x7 (o7 fb (Γ a) O) x λ(_:Unit)H=>aA (Γ a) H:=by
  rintro a I aV y q ⟨f,e⟩ z;refine(EI (bE.W y).ls be Ω).Y ?_;rintro _ ab _ ⟨P,o,rfl,E⟩;exact bF (y.F P) q ⟨f,e.W P⟩ (z.W P) E
 have bI:∀{a:Nat}{I:x4}{aV:x1},Ext A I->A.heap.size<=a->(∃f,ai I a fb [f])->aQ .i64 I aV am->
   aq x7 xh [Γ g] I λaW U=>(Ext A U\/cK x7 (u4 aC (Γ ao)) cQ U/\True)/\
    aq x7 ug [cQ] U λag ab=>aq x7 qI [aV,aW,ag] ab λC x=>ad x7 (Z9 C 0) x λO=>ad x7 (Z9 C 1) x λ_=>aM x7 (o7 fb (Γ a) O) x λ(_:Unit)H=>aA (Γ a) H:=by
  rintro a I aV y q ⟨f,e⟩ z;refine(Dk (aE.W y)).Y ?_;rintro _ U _ ⟨rfl,K⟩;exact⟨.inl (y.F K),bH (y.F K) q ⟨f,e.W K⟩ (z.W K)⟩
 have bJ:am.length<=1000:=Ω
 have bK:∀{a:Nat}{I:x4},Ext A I->A.heap.size<=a->(∃f,ai I a fb [f])->
   aq x7 BH [.agg #[sv]] I λcf w0=>(Ext A w0\/cK x7 (u4 aC (Γ ao)) cQ w0/\True)/\
    aq x7 xh [Γ g] w0 λaW U=>(Ext A U\/cK x7 (u4 aC (Γ ao)) cQ U/\True)/\
    aq x7 ug [cQ] U λag ab=>aq x7 qI [cf,aW,ag] ab λC x=>ad x7 (Z9 C 0) x λO=>ad x7 (Z9 C 1) x λ_=>aM x7 (o7 fb (Γ a) O) x λ(_:Unit)H=>aA (Γ a) H:=by
  rintro a I y q ⟨f,e⟩;refine(Dl (hm.W (aR.F y)).ls bJ).Y ?_;rintro aV U _ ⟨K,_,_,z⟩;exact⟨.inl (y.F K),bI (y.F K) q ⟨f,e.W K⟩ z.ls⟩
 have ah:∀{I:x4}{R:x1->x4->Prop},Ext A I->(∀a ak,A.heap.size<=a->Ext I ak->(∃f,ai ak a fb [f])->R (Γ a) ak)->aM x7 (R4 fb ms (.tuple #[])) I R:=λ{I}{R}y cg=>by
  have:=y.size;exact bC fb.i λa ak q ch bb=>cg a ak Ω ch ⟨_,bb⟩
 refine⟨?_,ah (Ext.refl _) λa cO q aF e=>⟨.inl aF,?_⟩⟩
 rotate_left
 .refine (q6 (aE.W aF)).Y ?_;rintro _ cP _ ⟨rfl,aX⟩;obtain⟨f,e⟩:=e;exact⟨.inl (aF.F aX),bK (aF.F aX) q ⟨f,e.W aX⟩⟩
 refine(q6 aE).Y ?_;rintro _ cR _ ⟨rfl,W⟩;refine⟨.inl W,?_,ah W λa cS q bL e=>⟨.inl (W.F bL),bK (W.F bL) q e⟩⟩;refine(Dl (hm.W (aR.F W)).ls bJ).Y ?_;rintro aV cU _ ⟨ci,_,_,z⟩;have X:=W.F ci;refine⟨.inl X,?_,ah X λa cV q aY e=>⟨.inl (X.F aY),bI (X.F aY) q e (z.W aY).ls⟩⟩;refine(Dk (aE.W X)).Y ?_;rintro _ cW _ ⟨rfl,aZ⟩;have Y:=X.F aZ;refine⟨.inl Y,?_,ah Y λa cX q a2 e=>⟨.inl (Y.F a2),bH (Y.F a2) q e ((z.W aZ).W a2).ls⟩⟩;refine(EI (bE.W Y).ls be Ω).Y ?_;rintro _ cY _ ⟨bM,o,rfl,E⟩;have al:=Y.F bM;have bN:=(z.W aZ).W bM;refine⟨?_,ah al λa cZ q a7 e=>⟨.inl (al.F a7),bF (al.F a7) q e (bN.W a7).ls E⟩⟩;refine(Dt bN.ls).Y ?_;rintro _ c0 _ ⟨cj,_,_,aT⟩;obtain⟨G,m,rfl,cb,cc,B⟩:=aT V (aG _ E.1);obtain⟨L,M,B⟩:=B.at;rw[bx,bz];have a8:=al.F cj;refine bC fb.i λa c1 q ba e=>?_;refine⟨.inl (a8.F ba),?_⟩;have cd:=e.lt;obtain⟨c2,c3,t3⟩:=B.su;have c4:=al.size;have c5:=a8.size;refine bs fb.i rfl rfl e (by simp[x1.cells]) λc6 bO c7 ck=>?_;exact bB _ _ ⟨a,G,m,o,L,M,rfl,((bD.F a8).F ba).put bO Ω,ck,Ω,(B.W ba).aa bO (λhe=>by have he:=he;omega) (λhe=>by have he:=he;omega) (λr aU he=>by have he:r=a:=he;have:=t3 r aU;omega),E⟩
theorem EJ{acc:List cX}{g:cX}(h:∀x∈acc,x.1≠g.1):jZ k acc g=acc++[g]:=by
 grind [jZ]
theorem Qt{acc:List cX}{g h:cX}{i:Nat}(e:kW acc)(hi:acc[i]?=σ h)(he:h.1=g.1):jZ k acc g=acc.set i (h.1,eS k h.2 g.2):=by
 have q:=(x5.1 hi).1;unfold jZ;rw[lw (o9.2 ⟨h,x6 hi,he⟩)];refine Y5 λj=>?_;rw[v8,X8];by_cases a:i=j
 .grind
 .rw[m1 a];cases r:acc[j]? with
  |none=>rfl
  |some y=>
   have:y.1≠g.1:=λs=>a (by
    have h1:(acc.map (·.1))[i]?=σ g.1:=by grind
    have f:(acc.map (·.1))[j]?=σ g.1:=by grind
    exact l8 e h1 f)
   grind
theorem Qu{α β:Type}{f:β->α->β}{b:β}{l:List α}{i:Nat}{x:α}(h:l[i]?=σ x):(l.take (i+1)).foldl f b=f ((l.take i).foldl f b) x:=by
 grind [u7]
def oP(w:x4)(k:Int)(d6:Λ)(x:cB):Prop:=(∃a,aH .i64 al w a x.sv x.sc)/\∃m o D,e4 w x.g m (ci d6 x.sc) k o D/\D.length<=4096/\j3 (ci d6 x.sc) (j0 D o) x.cs
theorem oP.W{x:cB}(h:oP w k d6 x)(J:Ext w I):oP I k d6 x:=by
 obtain⟨⟨a,h1⟩,m,o,D,e,f⟩:=h;exact⟨⟨a,h1.W J⟩,m,o,D,e.W J,f⟩
theorem oP.aa{x:cB}(h:oP w k d6 x)(J:aj S w I)(f:∀r,S r->∃e c,ai w r e c/\e≠gi/\e≠al):oP I k d6 x:=by
 obtain⟨⟨s,h1⟩,m,o,D,y,z⟩:=h;obtain⟨sv,gs,a⟩:=y.at;have j:∀{g:Nat}{v:x1}{l:Λ},aH .i64 al w g v l->∀r,hv v r->¬S r:=by grind [cv]
 refine⟨⟨s,bB h1 J (j h1)⟩,m,o,D,(a.aa J (λV=>?_) (λV=>?_) (j a.2.1)).is,z⟩
 .obtain⟨e,c,q,A,_⟩:=f _ V;have B:=a.1
  grind [ai]
 .obtain⟨e,c,q,_,_⟩:=f _ V;exact vi q a.2.2.1 rfl
def sU(w:x4)(g:Nat)(v:x1)(k:Int)(d6:Λ)(L:List cB):Prop:=bn ff 2 cP w g v L/\∀x∈L,oP w k d6 x
theorem sU.W{g:Nat}{L:List cB}(h:sU w g v k d6 L)(J:Ext w I):sU I g v k d6 L:=⟨h.1.W J,λx a=>(h.2 x a).W J⟩
def Qv(w:x4)(B a:Nat)(f:cd):Prop:=∃ho e gz g L,ai w a cL [ce f.name,Δ f.k,ho,e]/\aH .i64 al w gz ho f.d6/\sU w g e f.k f.d6 L/\L.map ek=gn f/\B<=a/\(∀r,hv ho r->B<=r)/\∀x∈L,∀r,hv x.sv r->B<=r
theorem Qw{g bf:Nat}{L:List cB}{j:Λ}(h:fv w g v L)(ae:ai w bf av [sv])(V:aQ .i64 w sv j):
  aq x7 Bv [v,.func (.func Bw) #[] #[Γ bf]] w λr I=>Ext w I/\((r=Δ (-1)/\∀x∈L,x.sc≠j)\/∃i:Nat,r=Δ (i:Int)/\∃x,L[i]?=σ x/\x.sc=j):=by
 refine aF func183 ?_;rw[dO gU.u h.1];refine cb.range L.length (λi _ U=>Ext w U/\∀x∈L.take i,x.sc≠j) h.1.le ⟨Ext.refl _,λc a=>by simp at a⟩ ?_ ?_
 .rintro i _ U k hi ⟨J,q⟩ hk;refine bM Ω ?_;obtain⟨x,s⟩:=aK (l:=L) hi;rw[vo rfl (h.W J) s];show aq x7 Bw [lB x,Γ bf] U _;obtain⟨⟨B,hm⟩,_⟩:=(h.W J).at s;refine aF func184 ?_;refine bo λau ab C f y=>?_;have y:ai ab au c3 [x.sv,Γ x.g]:=by
   obtain⟨_,_,_,e⟩:=dA hm.ls;simp only[lB,ff,e]at y ⊢;exact y
  rw[aO c3.p 0 y rfl,aD Ψ ((ae.W (J.F f)).Qz rfl)];refine(Mg (hm.ls.W f) (V.W (J.F f))).Y ?_;rintro _ E _ ⟨rfl,z⟩;rw[ao];refine⟨λhe=>⟨(J.F f).F z,.inr ⟨i,rfl,x,s,he⟩⟩,λA=>?_⟩;rw[aR];refine hk _ _ ⟨(J.F f).F z,λc a=>?_⟩;rw[u7,s]at a;rcases j5.1 a with a|a
  .exact q c a
  .simp at a;subst a;exact A
 .rintro _ U k ⟨J,q⟩;rw[o6]at q;rw[aW,ao];exact⟨λh=>Ω,λ_=>⟨J,.inl ⟨rfl,q⟩⟩⟩
def e5(f:cd)(i:Nat):List cX:=((f.d8.take i).map (jY f.d6 f.k)).foldl (jZ f.k) []
theorem EK{f:cd}(ah:fC N f)(i:Nat):(∀g∈e5 f i,gH f.d6 f.k g)/\kW (e5 f i)/\(e5 f i).length<=i:=by
 have:=yk (d6:=f.d6) (k:=f.k) (by have:=ah.k.1;omega) (l:=(f.d8.take i).map (jY f.d6 f.k)) (acc:=[]) (λh aw=>by cases aw) List.nodup_nil λg e=>by
  obtain⟨x,J,rfl⟩:=o9.1 e;exact re ah (S4 J)
 refine⟨this.1,this.2.1,?_⟩;have a:=this.2.2;rw[List.length_nil,u9,V7,j9]at a;exact Y7 a (Nat.min_le_left _ _)
theorem yy{f:cd}{i:Nat}{x:cE}(h:f.d8[i]?=σ x):e5 f (i+1)=jZ f.k (e5 f i) (jY f.d6 f.k x):=by
 unfold e5;rw[u7,h,o8,Z2,List.foldl_append];rfl
theorem EL(f:cd):e5 f f.d8.length=gm f:=by unfold e5 gm;rw[o6]
theorem yz{L:List cB}{i:Nat}{x:cB}{D:List cX}(h:L.map ek=D)(J:L[i]?=σ x):ek x∈D:=by rw[<-h];exact o9.2 ⟨x,x6 J,rfl⟩
def Qx(w:x4)(f:cd)(v:x1)(I:x4):Prop:=Ext w I/\((¬nZ f.d8<=16384/\∃e:Int,e≠0/\v= .tuple #[.pointer ν,Δ e])\/∃a,v= .tuple #[Γ a,Δ 0]/\Qv I w.heap.size a f)
theorem vu{g:Nat}{sc cs:Λ}(hm:aH .i64 al w g sv sc):∀u∈ff ⟨sv,a,sc,cs⟩,u.oneCell'=ms:=λu hu=>by
 simp[ff]at hu;rcases hu with rfl|rfl
 .exact hm.ls.cells.2
 .rfl
theorem Qy{bN:Nat}{f:cd}(bO:mY w bN f)(E:fC N f)(bQ:N<=60000)(cZ:f.name≠[]/\∀b∈f.name,ca b=ms):
  aq x7 JQ [Γ bN] w (Qx w f):=by
 have hk:=E.k;refine aF func122 ?_;refine(PU bO E bQ cZ).Y ?_;rintro _ U _ ⟨aJ,e,rfl,he⟩;rw[bG,ao];refine⟨λbS=>⟨aJ,.inl ⟨λh=>bS (he h),e,bS,rfl⟩⟩,λem=>?_⟩;have bT:=bO.W aJ;obtain⟨ho,aM,gz,bd,bU,c0,be,aN⟩:=id bT;have en:bd.length<=256:=by rw[aN.1];exact E.mR
 rw[aL cL.p 3 bU rfl,jB dW.u be];refine cb.range bd.length (λi l ab=>∃g L,Ext U ab/\fv ab g l L/\Sem ab f.k f.d6 L/\L.map ek=e5 f i/\(∀r,hp l r->U.heap.size<=r)/\∀x∈L,∀r,hv x.sv r->U.heap.size<=r) (uo be)
  ⟨0,[],Ext.refl _,⟨bn.nil _ _ _ _ _,λx J=>(by cases J)⟩,λx J=>(by cases J),rfl,λr A=>(gF A).elim,λx J=>(by cases J)⟩ ?_ ?_
 .rintro i l ab c1 hi ⟨g,L,W,ax,aP,G,O,az⟩ c2;obtain⟨d,bV⟩:=aK (l:=bd) hi;obtain⟨x,aQ⟩:∃x,f.d8[i]?=σ x:=⟨_,x8 (by have:=aN.1;omega)⟩;have bW:=x6 aQ;have c4:=aN.2 i x d aQ bV;have X:=re E bW;obtain⟨c5,c6,eo⟩:=EK E i;have c7:L.length<=i:=by have bX:=congrArg List.length G;rw[u9]at bX;omega
  refine bM Ω ?_;refine a1 (λfS aS=>∃P Y,Ext U aS/\fv aS P fS Y/\Sem aS f.k f.d6 Y/\Y.map ek=e5 f (i+1)/\(∀r,hp fS r->U.heap.size<=r)/\∀x∈Y,∀r,hv x.sv r->U.heap.size<=r) ?_ ?_
  .rintro fS aS ⟨P,Y,h1,c8,c9,da,db⟩;rw[aR];exact c2 _ _ ⟨P,Y,h1,c8,c9,da,db⟩
  intro aA bY;refine nQ (α:=iP) cP.p rfl dW.u cP.i (bP be W) bV λcs bg=>?_;have bZ:cs.length=2:=ay.len bg;refine bC cP.i λau ep er dc dd=>?_;refine b8 (vs:=cs) cP.i bZ rfl (ay.one bg) dd λde df es dg=>?_;have I:Ext ab de:=dc.put df Ω;rw[bF cP.p cP.i bZ dg.range];refine(P4 E bQ bW c4 (bP bg I)).Y ?_;rintro _ dh _ ⟨di,sv,gs,b0,dj,dl,rfl,et,Z,b1⟩;rw[bx,bz];refine bC av.i λbf eu ev dm dn=>?_;refine bs av.i Z.ls.cells.1 Z.ls.cells.2 dn (by simp[x1.cells]) λb2 dp ew aT=>?_;have bh:Ext dh b2:=dm.put dp Ω;have aT:ai b2 bf av [sv]:=aT;rw[lh];have bi:=(I.F di).F bh;have ey:=bi.size;have ez:=W.size;refine(Qw (ax.W bi) aT (Z.ls.W bh)).Y ?_;rintro _ eA _ ⟨aU,A⟩;have aV:=bi.F aU;have b3:=bh.F aU;have bj:=Z.W b3;have b4:=b1.W b3;have b7:=aT.W aU;have b9:=ax.W aV;have bk:=aP.W aV;rcases A with⟨rfl,dq⟩|⟨ch,rfl,y,B,aW⟩
  .refine bM Ω ?_;rw[aD Ψ (b7.Qz rfl),dk (cs:=#[sv,Γ b0]) (by obtain⟨_,_,_,rfl⟩:=dA Z.ls;kernel_rfl)];let a:cB:=⟨sv,b0,bH x.scope,(jY f.d6 f.k x).2⟩;have bl:∀u∈ff a,u.oneCell'=ms:=vu bj;refine jk (f:=ff) (a:=a) gU.u c3.i Ω rfl rfl λeB eC dr eD ad dt=>?_;have af:=b9.W ad;refine jH (f:=ff) (a:=a) gU.u c3.i rfl af.1 (by simpa using dt.sl) bl Ω Ω λaB P eE aC bm aE=>?_;have cj:=bj.W ad;have aZ:∀{r:Nat},hp l r->∃c,ai dr r c3 c:=λA=>by
    obtain⟨rfl,c,C⟩:=ej af.1 A;exact⟨c,C⟩
   refine bY _ _ ⟨P,L++[a],((W.F aV).F ad).then aE (λr A he=>by have:=O r he;omega),fv.mk aC λz s=>?_,λz s=>?_,?_,λr A=>?_,λz s r A=>?_⟩
   .rcases j5.1 s with s|s
    .have:=(af.2 z s).aa aE λr A he=>(af.2 z s).2.1 r A (af.1.hv he).1;exact⟨this.1,this.2.2⟩
    .rw[Z7.1 s];exact⟨⟨gs,bB cj aE λr A he=>by obtain⟨c,C⟩:=aZ he;exact cv cj C Φ A rfl⟩,X.scope⟩
   .rcases j5.1 s with s|s
    .exact (bk.W ad).row af aE z s
    .rw[Z7.1 s];exact⟨dj,dl,yu (b4.W ad) aE λr A=>aZ A⟩
   .rw[Z2,G,yy aQ,EJ]
    .rfl
    .intro c H du;rw[<-G]at H;obtain⟨z,s,rfl⟩:=o9.1 H;exact dq z s du
   .rcases bm r A with h|h
    .exact O r h
    .have:=ad.size;have:=aU.size;omega
   .rcases j5.1 s with s|s
    .exact az z s r A
    .rw[Z7.1 s]at A;have bX:=(b5 Z A).1;have:=I.size;omega
  .refine cc Ω ?_;intro eF Q _ _;have bp:=b9.W Q;have ck:=(x5.1 B).1;obtain⟨dv,dw,a2⟩:=(bk.W Q) y (x6 B);have cl:=b7.W Q;have cm:=bj.W Q;have dx:=b4.W Q;rw[cf rfl gU.u c3.i bp.1 ck,aY c3.p rfl,aD Ψ (bp.1.range B 1 _ rfl),aD Ψ (cl.Qz rfl),aD Ψ (cl.Qz rfl)];have ah:gH f.d6 f.k (ek y):=c5 _ (yz G B);rw[aW]at a2;have cn:∀{c:Int},0<=c/\c<=f.k->cA c f.k:=λh=>⟨hk,h.1,h.2⟩;refine(Qg a2 dx cm.ls cm.ls hk (λc H=>cn (ah.jI c H)) (λc H=>cn (X.jI c H))).Y ?_;intro eH cp _ dy;have dz:y.cs.length=(aX (ci f.d6 (bH x.scope))).toNat:=by have:=ah.len;rw[show(ek y).1=y.sc from rfl,aW]at this;exact this
   have dC:cg (ci f.d6 (bH x.scope)):=b1.2.2.1;obtain⟨bq,cq,cr,ct,eI,rfl,dD⟩:=Ql X.up (λv ac=>(X.scope.1 v ac).1) (by simp[ci];rfl) dC X.small dz X.len dy;rw[fP,fQ,fR];have R:=bp.W bq;rw[cf rfl gU.u c3.i R.1 ck,aY c3.p rfl];let a:cB:=⟨y.sv,cq,y.sc,eS f.k y.cs (jY f.d6 f.k x).2⟩;refine lv (f:=ff) (j:=1) (a:=y) (a':=a) fp.i rfl rfl R.1 B rfl Ω λdE a6 eJ dF=>?_;have aZ:∀{r:Nat},hp l r->∃c,ai cp r c3 c:=λA=>by
    obtain⟨rfl,c,C⟩:=ej R.1 A;exact⟨c,C⟩
   refine bY _ _ ⟨g,L.set ch a,((W.F aV).F (Q.F bq)).then a6 (λr A he=>by have:=O r he;omega),fv.mk dF λz s=>?_,λz s=>?_,?_,O,λz s=>?_⟩
   .have cu:∀z∈L,(∃br,aH .i64 al dE br z.sv z.sc)/\mb z.sc:=λz s=>by
     have:=(R.2 z s).aa a6 λr A he=>(R.2 z s).2.1 r A (R.1.hv he).1;exact⟨this.1,this.2.2⟩
    rcases U7 s with s|rfl
    .exact cu z s
    .exact cu y (x6 B)
   .rcases U7 s with s|rfl
    .exact ((bk.W Q).W bq).row R a6 z s
    .refine⟨cr,ct,yu ?_ a6 λr A=>aZ A⟩;show ds cp cq cr ct (ci f.d6 y.sc) f.k _;rw[aW];exact dD
   .rw[U4,G,yy aQ,Qt (g:=jY f.d6 f.k x) c6 (i:=ch) (h:=ek y) (by rw[<-G,v8,B];rfl) aW];rfl
   .rcases U7 s with s|rfl
    .exact az z s
    .exact az y (x6 B)
 .rintro l ab c1 ⟨g,L,W,ax,aP,G,O,az⟩;refine cc Ω ?_;rw[aN.1,EL]at G;have c7:L.length<=256:=by
   have:=(mW E).2.2;rw[<-G,u9]at this;have:=E.mR;omega
  refine(P9 ax aP Ω).Y ?_;rintro eK cw _ ⟨cz,cC,dG⟩;have dH:Ext U cw:=W.then cz λr A he=>by have:=O r he;omega
  have dI:Sem cw f.k f.d6 (L.filter gL):=λz s=>(aP.row ax cz) z (T6.1 s).1;have eL:(L.filter gL).length<=L.length:=List.length_filter_le _ _;refine(P1 cC Ω).Y ?_;rintro _ cD _ ⟨cE,M,a7,dJ,cF⟩;have dK:Ext U cD:=dH.then cE λr A he=>by have:=O r (dG r he);omega
  have cG:Sem cD f.k f.d6 M:=λz s=>(dI.row cC cE) z (a7.mem_iff.1 s);have eM:M.length<=256:=by rw[a7.length_eq];omega
  have dL:∀x∈M,∀r,hv x.sv r->U.heap.size<=r:=λx J=>az x (T6.1 (a7.mem_iff.1 J)).1;have cH:M.map ek=gn f:=by
   refine OZ E ?_ ?_
   .refine (a7.map ek).F ?_;rw[<-G,List.filter_map];exact .refl _
   .rw[List.pairwise_map];refine U3.2 λp q ae cI dM=>?_;exact dJ p q _ _ (X9 _) dM cI (x8 ae) (x8 cI)
  intro eN a8 _ _;have ak:=dK.F a8;have eO:=bT.W ak;have bt:=bU.W ak;rw[aL cL.p 0 bt rfl,aL cL.p 1 bt rfl,aL cL.p 2 bt rfl];refine(mL (c0.ls.W ak) (by have:=E.d6.2.1;omega)).Y ?_;rintro aG cJ _ ⟨S,dN,eP,bu⟩;refine⟨.inl S,?_⟩;rw[dk (cs:=#[ce f.name,Δ f.k,aG,.slice ν 0 0]) (by obtain⟨_,_,_,rfl⟩:=dA bu.ls;kernel_rfl)];refine bo λV dP eQ ba bw=>?_;have bw:ai dP V cL [ce f.name,Δ f.k,aG,.slice ν 0 0]:=bw;have eR:=(ak.F S).F ba;have dQ:=((cF.W a8).W S).W ba;have eU:=((cG.W a8).W S).W ba;rw[dO gU.u dQ.1];refine b6.range M.length (λi am=>∃aM gr K,Ext cJ am/\ai am V cL [ce f.name,Δ f.k,aG,aM]/\sU am gr aM f.k f.d6 K/\K.map ek=(M.take i).map ek/\K.length=i/\(∀r,hp aM r->cJ.heap.size<=r)/\∀x∈K,∀r,hv x.sv r->U.heap.size<=r) Ω
   ⟨_,0,[],ba,bw,⟨bn.nil _ _ _ _ _,λx J=>(by cases J)⟩,rfl,rfl,λr A=>(gF A).elim,λx J=>(by cases J)⟩ ?_ ?_
  rotate_left
  .rintro am dR ⟨aI,gr,K,an,ap,bA,bb,_,_,bD⟩;rw[o6,cH]at bb;refine cc Ω ?_;have eV:=aJ.size;have eW:=ak.size;have eX:=S.size;exact⟨(aJ.F (ak.F S)).F an,.inr ⟨V,rfl,aG,aI,dN,gr,K,ap,bu.W an,bA,bb,Ω,λr A=>by have:=(b5 bu A).1;omega,λx J r A=>by have:=bD x J r A;omega⟩⟩
  rintro i am dR hi ⟨aI,gr,K,an,ap,bA,bb,dS,cK,bD⟩ dT;obtain⟨y,B⟩:=aK (l:=M) hi;have cM:=(a8.F S).F an;have cN:=cF.W cM;have cO:=cN.at B;obtain⟨dv,dw,a2⟩:=(cG.W cM) y (x6 B);have ah:gH f.d6 f.k (ek y):=ve E _ (yz cH B);refine bM Ω ?_;rw[vo rfl cN B];refine bC c3.i λgy eY eZ dU dV=>?_;refine b8 (vs:=ff y) c3.i rfl rfl cO.one dV λdX dY e0 dZ=>?_;have ea:Ext am dX:=dU.put dY Ω;intro e1 cQ _ _;have bE:=ea.F cQ;have cR:=dZ.W cQ;have eb:=ap.W bE;rw[aL cL.p 3 eb rfl,aO c3.p 0 cR rfl,aO c3.p 1 cR rfl];refine(Qs (a2.W bE) λc H=>⟨hk,(ah.jI c H).1,(ah.jI c H).2⟩).Y ?_;rintro _ e2 _ ⟨bI,ag,m,o,D,rfl,ec,ed,ee,_⟩;refine⟨.inl bI,?_⟩;have cS:=bE.F bI;obtain⟨⟨br,cT⟩,_,e3⟩:=cO;have cU:=cT.W cS;rw[dk (cs:=#[y.sv,Γ ag]) (by obtain⟨_,_,_,e⟩:=dA cT.ls;rw[e];kernel_rfl)];let a:cB:=⟨y.sv,ag,y.sc,y.cs⟩;have bl:∀u∈ff a,u.oneCell'=ms:=vu cU;refine jk (f:=ff) (a:=a) dW.u cP.i Ω rfl rfl λv25 e4 bJ e6 I ef=>?_;refine⟨.inl (bI.F I),?_⟩;have aw:=cS.F I;have bc:=bA.W aw;refine jH (f:=ff) (a:=a) dW.u cP.i rfl bc.1 (by simpa using ef.sl) bl Ω Ω λaB P eg aC bm cV=>?_;have e7:=an.size;have e8:=aw.size;have bK:ai eg V cL [ce f.name,Δ f.k,aG,aI]:=(ap.W aw).aa cV λhe=>by
   obtain⟨rfl,c,C⟩:=ej bc.1 he;have h1:=ap.W aw;unfold ai at C h1;rw[h1]at C;exact m2 (Obj.cells.inj (Z4 C)).2.1 Φ
  rw[bR,aY cL.p rfl];have cW:aB.cells= #[aB]/\aB.oneCell'=ms:=by
   obtain⟨_,_,_,_,_,rfl,_⟩:=aC.sl;exact⟨rfl,rfl⟩
  refine bs dW.i cW.1 cW.2 bK Ξ λeh cX e9 ei=>?_;rw[aR];have bL:aj (λr=>r=V\/hp aI r) bJ eh:=(cV.Y λr _ h=>.inr h).F (cX.Y λr _ h=>.inl h);have cY:∀r,(r=V\/hp aI r)->∃e c,ai bJ r e c/\e≠gi/\e≠al:=λr A=>by
   rcases A with rfl|A
   .exact⟨_,_,ap.W aw,Φ,Φ⟩
   .obtain⟨rfl,c,C⟩:=ej bc.1 A;exact⟨_,c,C,Φ,Φ⟩
  refine dT _ ⟨aB,P,K++[a],?_,ei,⟨aC.aa cX λr A he=>?_,λz s=>?_⟩,?_,by rw[o4,dS];rfl,λr A=>?_,λz s=>?_⟩
  .exact (an.F aw).then bL λr A he=>by
    rcases he with rfl|he
    .omega
    .have:=cK r he;omega
  .have he:r=V:=he;subst he;obtain⟨rfl,c,C⟩:=ej aC A;unfold ai at C bK;rw[bK]at C;exact m2 (Obj.cells.inj (Z4 C)).2.1 Φ
  .rcases j5.1 s with s|s
   .exact (bc.2 z s).aa bL cY
   .rw[Z7.1 s];refine oP.aa (w:=bJ) ⟨⟨br,cU.W I⟩,m,o,D,ec.W I,?_,ee⟩ bL cY;have:=ah.small;exact Y7 ed (by show(aX (ci f.d6 (ek y).1)).toNat<=4096;omega)
  .rw[Z2,bb,u7,B,Z2];rfl
  .rcases bm r A with h|h
   .exact cK r h
   .omega
  .rcases j5.1 s with s|s
   .exact bD z s
   .rw[Z7.1 s];exact dL y (x6 B)
theorem eJ{a:r8}{c f:List x1}(h:ai w r e c)(bg:ai w r a f):e=a:=by
 grind [ai]
theorem cw{α:Type}{f:α->List x1}{k:Nat}{a:r8}{g:Nat}{L:List α}(h:bn f k e w g v L)(r:ai w j a cs)(s:e≠a):¬hp v j:=λq=>by
 obtain⟨rfl,c,x⟩:=ej h q
 grind [eJ]
structure mZ where
 v:x1
 l:Λ
def sV(h:mZ):List x1:=[h.v]
def jp(w:x4)(g:Nat)(v:x1)(bc:List mZ):Prop:=bn sV 1 aC w g v bc/\∀h∈bc,∃a,aH .i64 ax w a h.v h.l
theorem jp.W{g:Nat}{bc:List mZ}(h:jp w g v bc)(J:Ext w I):jp I g v bc:=⟨h.1.W J,λx a=>by
 obtain⟨e,hm⟩:=h.2 x a;exact⟨e,hm.W J⟩⟩
theorem jp.sW{g:Nat}{bc:List mZ}(h:jp w g v bc)(j:aj S w I)(q:∀r,S r->∃e c,ai w r e c/\e≠ax):∀h∈bc,∃a,aH .i64 ax I a h.v h.l:=λx f=>by
 obtain⟨a,hm⟩:=h.2 x f;exact⟨a,by grind [bB,cv]⟩
theorem jp.aa{g:Nat}{bc:List mZ}(h:jp w g v bc)(a:aj S w I)(f:∀r,S r->∃e c,ai w r e c/\e≠ax/\e≠aC):jp I g v bc:=
 ⟨h.1.aa a λr j V=>by
  obtain⟨e,c,q,_,s⟩:=f r V;exact cw h.1 q (by grind) j,h.sW a (by grind)⟩
def p2(w:x4)(k:Int)(d6:Λ)(x:cB):Prop:=(∃a,aH .i64 al w a x.sv x.sc)/\∃e f,ds w x.g e f (ci d6 x.sc) k x.cs
theorem p2.W{x:cB}(h:p2 w k d6 x)(J:Ext w I):p2 I k d6 x:=by
 obtain⟨⟨a,h1⟩,e,f,j⟩:=h;exact⟨⟨a,h1.W J⟩,e,f,j.W J⟩
theorem EM{g f:Nat}{j:x1}{cs:Λ}(h:ds w g f j am k cs)(a:aj S w I)(z:∀r,S r->∃e c,ai w r e c/\e≠c4/\e≠al/\e≠ax):ds I g f j am k cs:=by
 obtain⟨⟨bd,gs,h1,q,s⟩,x⟩:=h;refine⟨⟨bd,gs,h1.aa a λV=>?_,bB q a λr y V=>?_,bB s a λr y V=>?_⟩,x⟩
 all_goals grind [eJ,cv]
theorem p2.aa{x:cB}(h:p2 w k d6 x)(a:aj S w I)(f:∀r,S r->∃e c,ai w r e c/\e≠c4/\e≠al/\e≠ax):p2 I k d6 x:=by
 obtain⟨⟨j,h1⟩,q,s,y⟩:=h;refine⟨⟨j,bB h1 a λr z V=>?_⟩,q,s,EM y a f⟩
 grind [cv]
def p3(w:x4)(g:Nat)(v:x1)(k:Int)(d6:Λ)(L:List cB):Prop:=bn ff 2 jd w g v L/\∀x∈L,p2 w k d6 x
theorem p3.W{g:Nat}{L:List cB}(h:p3 w g v k d6 L)(J:Ext w I):p3 I g v k d6 L:=⟨h.1.W J,λx a=>(h.2 x a).W J⟩
theorem p3.aa{g:Nat}{L:List cB}(h:p3 w g v k d6 L)(a:aj S w I)(f:∀r,S r->∃e c,ai w r e c/\e≠jd/\e≠c4/\e≠al/\e≠ax):p3 I g v k d6 L:=
 ⟨h.1.aa a λr j V=>by
  obtain⟨e,c,q,s,_⟩:=f r V;exact cw h.1 q (by grind) j,λx J=>(h.2 x J).aa a (by grind)⟩
def gM(w:x4)(h:Nat)(n:aI):Prop:=∃a e f j gr bc L nm ho gz fv2,ai w h gx [Γ a,Δ n.zero,e,f]/\ai w a cL [nm,Δ n.k,ho,fv2]/\aH .i64 al w gz ho n.d6/\
 jp w j e bc/\bc.map (·.l)=n.unary/\p3 w gr f n.k n.d6 L/\L.map ek=n.d8
theorem gM.W{n:aI}(h:gM w a n)(J:Ext w I):gM I a n:=by
 obtain⟨e,f,j,q,gr,bc,L,nm,ho,gz,fv2,h1,r,s,x,y,z,A⟩:=h;exact⟨e,f,j,q,gr,bc,L,nm,ho,gz,fv2,h1.W J,r.W J,s.W J,x.W J,y,z.W J,A⟩
def sX(w:x4)(B:Nat)(k:Int)(d6:Λ)(x:cB):Prop:=(∃f,aH .i64 al w f x.sv x.sc)/\(∃a e,ds w x.g a e (ci d6 x.sc) k x.cs/\B<=a/\∀r,hv e r->B<=r)/\B<=x.g/\∀r,hv x.sv r->B<=r
theorem sX.aa{x:cB}(h:sX w B k d6 x)(a:aj S w I)(f:∀r,S r->∃e c,ai w r e c/\e≠c4/\e≠al/\e≠ax):sX I B k d6 x:=by
 obtain⟨⟨j,h1⟩,⟨q,s,y,z⟩,A⟩:=h;refine⟨⟨j,bB h1 a λr C V=>?_⟩,⟨q,s,EM y a f,z⟩,A⟩
 grind [cv]
def n0(w:x4)(B g:Nat)(v:x1)(k:Int)(d6:Λ)(L:List cB):Prop:=bn ff 2 jd w g v L/\∀x∈L,sX w B k d6 x
theorem n0.W{g:Nat}{L:List cB}(h:n0 w B g v k d6 L)(J:Ext w I):n0 I B g v k d6 L:=⟨h.1.W J,λx a=>(h.2 x a).aa (J.aa λ_=>False) λ_ h=>h.elim⟩
theorem n0.aa{g:Nat}{L:List cB}(h:n0 w B g v k d6 L)(a:aj S w I)(f:∀r,S r->∃e c,ai w r e c/\e≠jd/\e≠c4/\e≠al/\e≠ax):n0 I B g v k d6 L:=
 ⟨h.1.aa a λr j V=>by
  obtain⟨e,c,q,s,_⟩:=f r V;exact cw h.1 q (by grind) j,λx J=>(h.2 x J).aa a (by grind)⟩
theorem EN:∃o:Obj,gf o=ne:=⟨.deferred ν,rfl⟩
theorem ghost(w:x4)(B:Nat):∃w0,Ext w0 w/\aj (λr=>r<B) w w0/\∀r o,w0.heap[r]?=σ o->gf o=ms->B<=r:=by
 obtain⟨cO,e⟩:=EN;have f:∀r,(w.heap.mapIdx λr o=>if r<B then cO else o)[r]?=(w.heap[r]?).map λo=>if r<B then cO else o:=λr=>Ξ
 refine⟨{w with heap:=w.heap.mapIdx λr o=>if r<B then cO else o},⟨Ξ,λr o a V=>?_⟩,⟨Ξ,λr o a V h=>?_⟩,λr o a V=>?_⟩
 all_goals grind
def EO(B:Nat)(w:x4)(a:Nat)(n:aI):Prop:=∃w0,gM w0 a n/\Ext w0 w/\∀r o,w0.heap[r]?=σ o->gf o=ms->B<=r
theorem Qz{s f y gr gz:Nat}{n:aI}{j q nm ho fv2:x1}{bc:List mZ}{L:List cB}(h1:ai w s gx [Γ f,Δ n.zero,j,q])(E:ai w f cL [nm,Δ n.k,ho,fv2])(F:aH .i64 al w gz ho n.d6)(z:jp w y j bc)(G:bc.map (·.l)=n.unary)(A:n0 w B gr q n.k n.d6 L)(H:L.map ek=n.d8)(I:B<=s)(K:B<=f)(M:∀r,hv ho r->B<=r)(X:∀r,hp j r\/hp q r->B<=r)(Y:∀h∈bc,∀r,hv h.v r->B<=r):EO B w s n:=by
 obtain⟨w0,J,a,N⟩:=ghost w B;have no:∀{r:Nat},B<=r->¬r<B:=Ω
 have C:∀{e:r8}{g:Nat}{v:x1}{l:Λ},aH .i64 e w g v l->(∀r,hv v r->B<=r)->aH .i64 e w0 g v l:=by grind [bB]
 refine⟨w0,⟨f,j,q,y,gr,bc,L,nm,ho,gz,fv2,h1.aa a (no I),E.aa a (no K),C F M,⟨z.1.aa a (by grind),λh aw=>?_⟩,G,⟨A.1.aa a (by grind),λx J=>?_⟩,H⟩,J,N⟩
 .obtain⟨O,hm⟩:=z.2 h aw
  grind
 .obtain⟨⟨O,Z⟩,⟨P,Q,⟨⟨bd,gs,R,S,t3⟩,t4⟩,ab,U⟩,V,ac⟩:=A.2 x J;exact⟨by grind,P,Q,⟨bd,gs,R.aa a (no V),C S U,bB t3 a λr W=>no (by have:=(b5 t3 W).1;omega)⟩,t4⟩
def kx(n:aI)(g:cX):aI:=match g.1 with
 |[]=>{n with zero:=g.2.getD 0 0}
 |[v]=>{n with unary:=n.unary.set v.toNat g.2}
 |_=>{n with d8:=n.d8++[g]}
def EP(f:cd):aI:=⟨f.k,f.d6,0,f.d6.map λz=>r9 z.toNat 0,[]⟩
theorem QA(f:cd):c7 f=(gn f).foldl kx (EP f):=rfl
def en(f:cd)(i:Nat):aI:=((gn f).take i).foldl kx (EP f)
theorem yA{f:cd}{i:Nat}{g:cX}(h:(gn f)[i]?=σ g):en f (i+1)=kx (en f i) g:=Qu h
theorem vv(f:cd):en f (gn f).length=c7 f:=by grind [en,QA]
theorem QB(n:aI)(g:cX):(kx n g).k=n.k/\(kx n g).d6=n.d6/\(kx n g).unary.length=n.unary.length/\(kx n g).d8.length<=n.d8.length+1:=by
 grind [kx]
theorem rg(f:cd):∀i,(en f i).k=f.k/\(en f i).d6=f.d6/\(en f i).unary.length=f.d6.length/\(en f i).d8.length<=i
 |0=>⟨rfl,rfl,by show(f.d6.map _).length=_;simp,X9 _⟩
 |i+1=>by
  have e:=rg f i;cases a:(gn f)[i]? with
  |none=>
   grind [en,j4]
  |some g=>
   rw[yA a]
   grind [QB]
def QC(w:x4)(f:cd)(v:x1)(I:x4):Prop:=Ext w I/\((¬nZ f.d8<=16384/\∃e:Int,e≠0/\v= .tuple #[.pointer ν,Δ e])\/∃a,v= .tuple #[Γ a,Δ 0]/\EO w.heap.size I a (c7 f))
theorem dn{k:Nat}(h:cn w k v n cs):v.cells= #[v]/\v.oneCell'=ms:=by
 obtain⟨_,_,_,_,_,rfl,_⟩:=h;exact⟨rfl,rfl⟩
theorem QD{bT:Nat}{f:cd}(cq:mY w bT f)(R:fC N f)(cr:N<=60000)(ct:f.name≠[]/\∀b∈f.name,ca b=ms):
  aq x7 Je [Γ bT] w (QC w f):=by
 have hk:=R.k;refine aF func60 ?_;refine(Qy cq R cr ct).Y ?_;rintro _ U _ ⟨an,⟨cu,e,he,rfl⟩|⟨aN,rfl,cz⟩⟩
 .rw[bx,bz,bG,ao];exact⟨λ_=>⟨an,.inl ⟨cu,e,he,rfl⟩⟩,λh=>m2 he h⟩
 rw[bx,bz,bG,ao];refine⟨λh=>m2 rfl h,λ_=>?_⟩;obtain⟨ho,cA,gz,ds,M,ba,bb,bU,aP,cC,cD,cE⟩:=id cz;have dt:M.length<=256:=by
  have h1:=(sL R).2.length_eq;have ag:=(mW R).2.2;have ah:=List.length_filter_le gl (gm f);have aQ:=R.mR;have du:M.length=(gn f).length:=by rw[<-aP,u9]
  omega
 have dv:=R.d6.2.1;rw[dk (cs:=#[Γ aN,Δ 0,.slice ν 0 0,.slice ν 0 0]) Ψ];refine bo λH ab dw bd be=>?_;have be:=be;rw[aL cL.p 2 (ba.W bd) rfl,a7 av.u (bb.ls.W bd)];refine b6.range f.d6.length (λi ap=>∃s G bc,Ext U ap/\ai ap H gx [Γ aN,Δ 0,s,.slice ν 0 0]/\jp ap G s bc/\bc.map (·.l)=(f.d6.take i).map (λz=>r9 z.toNat 0)/\(∀r,hp s r->U.heap.size<=r)/\∀h∈bc,∀r,hv h.v r->U.heap.size<=r) Ω
  ⟨_,0,[],bd,be,⟨bn.nil _ _ _ _ _,λx J=>(by cases J)⟩,rfl,λr q=>(gF q).elim,λx J=>(by cases J)⟩ ?_ ?_
 .rintro i ap cF hi ⟨s,G,bc,ac,aS,bf,ay,aT,K⟩ cG;obtain⟨z,B⟩:=aK (l:=f.d6) hi;have dx:=R.d6.2.2 z (x6 B);have dy:bc.length=i:=by have:=congrArg List.length ay;simp only[u9,j9]at this;omega
  refine bM Ω ?_;rw[bm av.u al.i Ψ (bb.ls.W ac) B];intro dz bg _ _;have cH:=aS.W bg;rw[aL gx.p 2 cH rfl];obtain⟨aU,rfl⟩:∃n:Nat,z=n:=⟨z.toNat,Ω⟩;refine lk aC.u ax.i Ω Ω λbV dC dD bh cI=>?_;refine⟨.inl bh,?_⟩;have bW:=aH.of (b7.full (n:=aU) cI Ξ (by simp[maxLen];omega));let a:mZ:=⟨.slice (σ ⟨bV,0,ν⟩) aU aU,r9 aU 0⟩;refine jk (f:=sV) (a:=a) et.u aC.i Ω rfl rfl λdE dF bi dG bj cJ=>?_;refine⟨.inl (bh.F bj),?_⟩;have aV:=(bg.F bh).F bj;have aW:=bf.W aV;refine jH (f:=sV) (a:=a) et.u aC.i rfl aW.1 (by simpa using cJ.sl) (λu hu=>by rw[Z7.1 (show u∈[a.v]from hu)];rfl) Ω Ω λbk bp dH O bq bX=>?_;have az:∀{r:Nat},hp s r->∃c,ai bi r aC c:=λq=>by
   obtain⟨rfl,c,A⟩:=ej aW.1 q;exact⟨c,A⟩
  have br:=aS.W aV;have bY:=br.aa bX λhe=>cw aW.1 br Φ he;rw[bR,aY gx.p rfl];refine bs et.i (dn O.sl).1 (dn O.sl).2 bY Ξ λcK bZ dI cM=>?_;rw[aR];have bt:aj (λr=>hp s r\/r=H) bi cK:=(bX.Y λr _ h=>.inl h).F (bZ.Y λr _ h=>.inr h);have S:∀r,(hp s r\/r=H)->∃e c,ai bi r e c/\e≠ax:=λr q=>by
   rcases q with q|rfl
   .obtain⟨c,A⟩:=az q;exact⟨_,c,A,Φ⟩
   .exact⟨_,_,br,Φ⟩
  have b0:=an.size;have z3:=ac.size;have dJ:=aV.size;refine cG _ ⟨bk,bp,bc++[a],(ac.F aV).then bt (λr q he=>?_),cM,⟨O.aa bZ λr q he=>?_,λy C=>?_⟩,?_,λr q=>?_,λy C r q=>?_⟩
  .rcases he with he|rfl
   .have:=aT r he;omega
   .omega
  .have he:r=H:=he;subst he;exact cw O bY Φ q
  .rcases j5.1 C with C|C
   .exact aW.sW bt S y C
   .rw[Z7.1 C];have b1:=bW.W bj;exact⟨bV,bB b1 bt λr q V=>by
     obtain⟨e,c,A,cN⟩:=S r V;exact cv b1 A (λhe=>cN he.symm) q rfl⟩
  .rw[Z2,ay,u7,B,o8,Z2];rfl
  .rcases bq r q with h|h
   .exact aT r h
   .omega
  .rcases j5.1 C with C|C
   .exact K y C r q
   .rw[Z7.1 C]at q;have cO:=(b5 bW q).1;have:=bg.size;omega
 .rintro ap cF ⟨s,G,bc,ac,aS,bf,ay,aT,K⟩;refine cc Ω ?_;rw[o6]at ay;have cQ:=ba.W ac;have cR:=bU.W ac;rw[aL cL.p 3 cQ rfl,dO dW.u cR.1];refine b6.range M.length (λi ak=>∃s E G gr bc L,Ext U ak/\ai ak H gx [Γ aN,Δ (en f i).zero,s,E]/\jp ak G s bc/\bc.map (·.l)=(en f i).unary/\n0 ak w.heap.size gr E f.k f.d6 L/\L.map ek=(en f i).d8/\(∀r,hp s r\/hp E r->U.heap.size<=r)/\∀h∈bc,∀r,hv h.v r->U.heap.size<=r) Ω
   ⟨s,_,G,0,bc,[],ac,aS,bf,ay,⟨bn.nil _ _ _ _ _,λx J=>(by cases J)⟩,rfl,λr q=>q.elim (aT r) λh=>(gF h).elim,K⟩ ?_ ?_
  rotate_left
  .rintro ak cS ⟨s,E,G,gr,bc,L,P,aZ,bu,ad,bw,ae,W,K⟩;refine cc Ω ?_;have cT:M.length=(gn f).length:=by rw[<-aP,u9]
   have aB:=rg f M.length;rw[cT,vv]at aZ ad ae aB;have b0:=an.size;refine⟨an.F P,.inr ⟨H,rfl,Qz (gr:=gr) (nm:=ce f.name) (ho:=ho) (gz:=gz) (fv2:=cA) aZ ?_ ?_ bu ad ?_ ae Ω cC cD (λr q=>by have:=W r q;omega) λh aw r q=>by have:=K h aw r q;omega⟩⟩
   .rw[aB.1];exact ba.W P
   .rw[aB.2.1];exact bb.W P
   .rw[aB.1,aB.2.1];exact bw
  rintro i ak cS hi ⟨s,E,G,gr,bc,L,P,aZ,bu,ad,bw,ae,W,K⟩ cU;obtain⟨y,C⟩:=aK (l:=M) hi;have cV:(gn f)[i]?=σ (ek y):=by rw[<-aP,v8,C];rfl
  have a1:=ve R _ (yz aP C);have bA:=bU.W P;obtain⟨dK,dL,dM,dP⟩:=rg f i;refine bM Ω ?_;refine cZ (λaE=>∃s E G gr bc L,Ext U aE/\ai aE H gx [Γ aN,Δ (en f (i+1)).zero,s,E]/\jp aE G s bc/\bc.map (·.l)=(en f (i+1)).unary/\n0 aE w.heap.size gr E f.k f.d6 L/\L.map ek=(en f (i+1)).d8/\(∀r,hp s r\/hp E r->U.heap.size<=r)/\∀h∈bc,∀r,hv h.v r->U.heap.size<=r) ?_ ?_
  .rintro aE h;rw[aR];exact cU _ h
  intro aA bD;have cW:=bA.2 y (x6 C);obtain⟨⟨cX,bE⟩,m,o,D,cY,dQ,c0⟩:=cW;rw[cf rfl dW.u cP.i bA.1 hi,bF cP.p cP.i rfl (bA.1.range C)];refine bC cP.i λau dR dS c1 c2=>?_;refine b8 (vs:=ff y) cP.i rfl rfl (vu bE) c2 λdT c3 dU b2=>?_;have bH:=c1.put c3 Ω;rw[aO cP.p 1 b2 rfl];refine(Ej (cY.W bH) Ω).Y ?_;rintro _ dV _ ⟨b3,_,am⟩;obtain⟨g,c5,c6,dX,rfl,dY,c7,am,c8⟩:=am a1.small;have c9:dN (ci f.d6 y.sc):=am.2.2.1.2;have da:=j3.eq c9 c8 c0;subst da;have X:=bH.F b3;have bI:=b2.W b3;have bJ:=bE.W X;rw[bx,bz,aO cP.p 0 bI rfl,a7 av.u bJ.ls];have b0:=an.size;have z9:=P.size;have dZ:=X.size;have bK:=aZ.W X;have bL:=bu.W X;have bN:=bw.W X;have bO:=yA cV;rw[bl,ao];refine⟨λea=>?_,λeb=>?_⟩
  .
   have af:y.sc=[]:=j6 Ω;have I:en f (i+1)={en f i with zero:=y.cs.getD 0 0}:=by rw[bO];unfold kx;simp only[ek,af]
   refine(oK am).Y ?_;rintro b4 db _ ⟨a2,ec,ed,dc⟩;have ee:y.cs.length=1:=by have:=a1.len;simpa[ek,af,ci,aX]using this
   have dd:y.cs[0]?=σ (y.cs.getD 0 0):=by rw[p8,x8 Ω];rfl
   rw[fO (y:=0) (i:=0) rfl aC.u ax.i Ψ dc.ls dd,bR,aY gx.p rfl];have b9:=bK.W a2;refine bs ax.i rfl rfl b9 Ξ λef bP eg de=>?_;have S:∀r,r=H->∃e c,ai db r e c/\e≠jd/\e≠c4/\e≠al/\e≠ax/\e≠aC:=λr q=>by
    subst q;exact⟨_,_,b9,Φ,Φ,Φ,Φ,Φ⟩
   refine bD _ ⟨s,E,G,gr,bc,L,((P.F X).F a2).put bP Ω,?_,(bL.W a2).aa bP (λr q=>?_),by rw[I];exact ad,(bN.W a2).aa bP (λr q=>?_),by rw[I];exact ae,W,K⟩
   .rw[I];exact de
   .obtain⟨e,c,A,_,_,_,h1,ag⟩:=S r q;exact⟨e,c,A,h1,ag⟩
   .obtain⟨e,c,A,h1,ag,ah,aQ,_⟩:=S r q;exact⟨e,c,A,h1,ag,ah,aQ⟩
  rw[bl,ao];refine⟨λh1=>?_,λeh=>?_⟩
  .
   obtain⟨v,af⟩:∃v,y.sc=[v]:=W6.1 Ω;have ei:=a1.scope.1 v (by show v∈y.sc;rw[af];exact .head _);have em:=a1.d7 v (by show v∈y.sc;rw[af];exact .head _);have I:en f (i+1)={en f i with unary:=(en f i).unary.set v.toNat y.cs}:=by rw[bO];unfold kx;simp only[ek,af]
   intro eo Y _ _;have cb:=bK.W Y;have df:=bI.W Y;rw[aL gx.p 2 cb rfl,aO cP.p 0 df rfl];refine mN rfl av.u al.i (bJ.ls.W Y) (show y.sc[0]?=σ v by rw[af];rfl) λb o dg=>?_;rw[aD Ψ dg];refine(oK (am.W Y)).Y ?_;rintro b4 dh _ ⟨aG,di,ep,aI⟩;refine⟨.inl aG,?_⟩;have aJ:=(bL.W Y).W aG;have er:bc.length=f.d6.length:=by have:=congrArg List.length ad;rw[u9]at this;omega
   obtain⟨u,hu⟩:=aK (l:=bc) (i:=v.toNat) Ω;rw[cf (i:=v.toNat) Ω et.u aC.i aJ.1 Ω];let a:mZ:=⟨b4,y.cs⟩;refine lv (j:=0) (a:=u) (a':=a) aC.i aI.ls.cells.1 aI.ls.cells.2 aJ.1 hu rfl Ω λes aM eu dj=>?_;have cg:=cb.W aG;have az:∀{r:Nat},hp s r->∃c,ai dh r aC c:=λq=>by
    obtain⟨rfl,c,A⟩:=ej aJ.1 q;exact⟨c,A⟩
   refine bD _ ⟨s,E,G,gr,bc.set v.toNat a,L,(((P.F X).F Y).F aG).then aM (λr q he=>by have:=W r (.inl he);omega),?_,⟨dj,λz B=>?_⟩,?_,((bN.W Y).W aG).aa aM (λr q=>?_),by rw[I];exact ae,W,λz B r q=>?_⟩
   .rw[I];exact cg.aa aM λhe=>cw aJ.1 cg Φ he
   .rcases U7 B with B|rfl
    .exact aJ.sW aM (λr q=>by obtain⟨c,A⟩:=az q;exact⟨_,c,A,Φ⟩) z B
    .exact⟨di,bB aI aM λr q V=>by
      obtain⟨c,A⟩:=az V;exact cv aI A Φ q rfl⟩
   .rw[I,U4,ad]
   .obtain⟨c,A⟩:=az q;exact⟨_,c,A,Φ,Φ,Φ,Φ⟩
   .rcases U7 B with B|rfl
    .exact K z B r q
    .have cO:=(b5 aI q).1;have:=Y.size;omega
  .
   have I:en f (i+1)={en f i with d8:=(en f i).d8++[ek y]}:=by
    rw[bO];unfold kx;have ch:2<=(ek y).1.length:=by show 2<=y.sc.length;omega
    generalize ek y=g at ch ⊢;obtain⟨sc,cs⟩:=g
    match sc,ch with
    |_::_::_,_=>rfl
   intro ev Z _ _;have cj:=bK.W Z;have dl:=bI.W Z;have ck:=bJ.W Z;rw[aL gx.p 3 cj rfl,aO cP.p 0 dl rfl,dk (cs:=#[y.sv,Γ g]) (by obtain⟨_,_,_,e⟩:=dA bE.ls;rw[e];kernel_rfl)];let a:cB:=⟨y.sv,g,y.sc,y.cs⟩;refine jk (f:=ff) (a:=a) mH.u jd.i Ω rfl rfl λew ey bQ ez Q dm=>?_;refine⟨.inl Q,?_⟩;have a6:=(bN.W Z).W Q;have dp:=(bL.W Z).W Q;have bS:=cj.W Q;have eA:L.length<=256:=by have:=congrArg List.length ae;rw[u9]at this;omega
   refine jH mH.u jd.i rfl a6.1 (by simpa using dm.sl) (vu (ck.W Q)) Ω Ω λbk bp eB O bq cl=>?_;have cm:=bS.aa cl λhe=>cw a6.1 bS Φ he;rw[bR,aY gx.p rfl];refine bs mH.i (dn O.sl).1 (dn O.sl).2 cm Ξ λdq cn eC dr=>?_;have a8:aj (λr=>hp E r\/r=H) bQ dq:=(cl.Y λr _ h=>.inl h).F (cn.Y λr _ h=>.inr h);have S:∀r,(hp E r\/r=H)->∃e c,ai bQ r e c/\e≠c4/\e≠al/\e≠ax/\e≠aC:=λr q=>by
    rcases q with q|rfl
    .obtain⟨rfl,c,A⟩:=ej a6.1 q;exact⟨_,c,A,Φ,Φ,Φ,Φ⟩
    .exact⟨_,_,bS,Φ,Φ,Φ,Φ⟩
   have eD:=(Z.F Q).size;refine bD _ ⟨s,bk,G,bp,bc,L++[a],(((P.F X).F Z).F Q).then a8 (λr q he=>?_),?_,dp.aa a8 (λr q=>?_),by rw[I];exact ad,⟨O.aa cn λr q he=>?_,λz B=>?_⟩,?_,λr q=>?_,K⟩
   .rcases he with he|rfl
    .have:=W r (.inr he);omega
    .omega
   .rw[I];exact dr
   .obtain⟨e,c,A,_,_,ah,aQ⟩:=S r q;exact⟨e,c,A,ah,aQ⟩
   .have he:r=H:=he;subst he;exact cw O cm Φ q
   .have cp:∀r,(hp E r\/r=H)->∃e c,ai bQ r e c/\e≠c4/\e≠al/\e≠ax:=λr q=>by
     obtain⟨e,c,A,h1,ag,ah,_⟩:=S r q;exact⟨e,c,A,h1,ag,ah⟩
    rcases j5.1 B with B|B
    .exact (a6.2 z B).aa a8 cp
    .rw[Z7.1 B];have eE:=bH.size;refine sX.aa ⟨⟨cX,ck.W Q⟩,⟨c5,c6,?_,Ω,λr q=>by have:=c7.2 r q;omega⟩,by show w.heap.size<=g;omega,cE y (x6 C)⟩ a8 cp;exact(am.W Z).W Q
   .rw[I,Z2,ae];rfl
   .rcases q with q|q
    .exact W r (.inl q)
    .rcases bq r q with h|h
     .exact W r (.inr h)
     .omega
theorem EQ{z:Array x1}{k:Nat}(a:z.size=k):(Z0.zeroCells z n).toList=ef z (n*k):=by
 grind [Z0.zeroCells,ef]
theorem QE{P:W5}{t q x:r8}{A kn:o5}{b g k m:Nat}{xs:List x1}{K:x1->x4->Prop}(T:y=(m:Int))(J:P.underlying t=σ (.slice e))(L:P.underlying q=σ (.int kn))(hi:aS P e k b z)(U:z.cells.size=k)(au:0<k)(h1:∀u∈ef z.cells (m*k),u.oneCell'=ms)(h:b7 w g e k v n xs)(V:0<m)(W:(n+m)*b<=140737488355328)(av:n+m<=9223372036854775807)(M:∀C X I,b7 I X e k C (n+m) (xs++ef z.cells (m*k))->(∀r,hp C r->hp v r\/w.heap.size<=r)->aj (λr=>hp v r) w I->K C I):aM P (c9 #[t,q] x #[v,.int A y]) w K:=by
 subst T;obtain⟨i,hi,Y,rfl,N⟩:=hi;obtain⟨aw,hm⟩:=h;have Z:=qR z.cells (m*k);have ab:m*i.bytes<=281474976710656:=by
  grind
 have grow:∀(base:Option Addr)(cap:Nat),v= .slice base n cap->(Z0.firstCells i.size n (.slice base n cap)).run P w.drew= .ok xs.toArray w.drew->cap<n+m->aM P (c9 #[t,q] x #[v,.int A (m:Int)]) w K:=λbase cap ac ad f=>by
  subst ac;have E:=Lib.run_append_grow_zeros (P:=P) w t q x e i z A kn J L hi N base n cap xs ad m V Ω f Ω ab (growslice_fits f W);have O:n+m<=grownCap w (n+m) cap e:=grownCap_ge w _ _ _;have ae:grownCap w (n+m) cap e<=maxLen:=by grind [grownCap_le_maxLen,maxLen]
  have ax:=qR z.cells ((grownCap w (n+m) cap e-(n+m))*k);have ay:(n+m)*k<=grownCap w (n+m) cap e*k:=X6 _ O;have af:(n+m)*k=n*k+m*k:=T4 _ _ _;have az:(grownCap w (n+m) cap e-(n+m))*k=grownCap w (n+m) cap e*k-(n+m)*k:=Nat.sub_mul _ _ _;refine .of E ((rG w _ (Nat.le_succ _)).F (rI _ _)) (M _ w.heap.size _ ⟨by grind,.inr ⟨_,xs++ef z.cells (m*k)++ef z.cells ((grownCap w (n+m) cap e-(n+m))*k),rfl,?_,O,ae,?_,?_⟩⟩ (λr F=>?_) (((tB w _).F (rH _ _)).aa _))
  .have:=heap_alloc_new w.drew (.cells (xs.toArray++Z0.zeroCells z.cells m++Z0.zeroCells z.cells (grownCap w (n+m) cap e-(n+m))) e);unfold ai;rw[show w.drew.heap.size=w.heap.size from rfl]at this;rw[this];congr 2
   grind [EQ]
  .grind
  .grind
  .obtain⟨a,ag,c,G,B⟩:=F
   grind
 rcases hm with⟨rfl,ah⟩|⟨cap,cs,rfl,s,G,B,Q,ak⟩
 .subst ah;have:xs=[]:=by grind
  subst this;exact grow ν 0 rfl (by grind [run_firstCells_none]) Ω
 .by_cases f:n+m<=cap
  .have al:(n+m)*k<=cs.length:=by rw[Q];exact X6 _ f
   have af:(n+m)*k=n*k+m*k:=T4 _ _ _;have H:=run_storeCells_cells (P:=P) g (0+n*k) (ef z.cells (m*k)) 0 w (λj R=>by
    rw[Z]at R;rw[Nat.add_zero,V7,s.cell (x8 Ω)];rfl) (λj _=>s.frozen _ _) h1
   simp only[Nat.add_zero]at H;have hw:X3.wrap (m:Int)=m:=by rw[o5.wrap_i64];omega
   have am:¬((m:Int)<0):=Ω
   have an:¬(281474976710656<(m:Int)*(i.bytes:Int)):=Ω
   have ao:¬(m*i.size=0):=by grind [Nat.mul_ne_zero]
   have ap:(Z0.zeroCells z.cells m).toList=ef z.cells (m*k):=EQ U;have E:(c9 #[t,q] x #[.slice (σ ⟨g,0,ν⟩) n cap,.int A (m:Int)]).run P w= .ok (.slice (σ ⟨g,0,ν⟩) (n+m) cap) (w.setCells g (0+n*k) (ef z.cells (m*k))):=by
    simp[c9,run_underlying J,run_underlying L,sizeOf,typeInfo,zeroValue,hi,N,asInt,asIntOf,hw,f,am,ao,an,ap,Addr.add_lit,Y];simp only[V7]at H;rw[H];simp
    grind
   obtain⟨aq,S⟩:=pF (ef z.cells (m*k)) cs (0+n*k) w s;refine .of E (S.cO s) (M _ g _ ⟨by grind,.inr ⟨cap,_,rfl,aq,f,B,by rw[nN,Q],?_⟩⟩ (λr F=>.inl ?_) (S.aa.Y λr _ he=>⟨_,_,_,rfl,he.symm⟩))
   .grind [oA]
   .obtain⟨a,ag,c,G,B⟩:=F;cases G;exact⟨_,_,_,rfl,B⟩
  .refine grow _ cap rfl ?_ Ω;have al:n*k<=cs.length:=by grind
   refine run_firstCells_some w.drew i.size n _ n cap xs (by grind) λj u hu=>?_;rw[U6,V7];have R:=(x5.1 hu).1;rw[<-ak,W3 Ω]at hu;exact s.cell hu
def jq(c:Cell):List x1:=[Δ c.v,.int .u64 (c.st:Int)]
def lC(o:l1):List x1:=[Δ (o.i:Int),Δ o.c.v,.int .u64 (o.c.st:Int)]
def j7(m:pN):List x1:=[Δ (m.olds:Int),Δ (m.cells:Int),.int .u64 (m.st:Int)]
def db(w:x4)(ag:Nat)(A:ak)(t:az):Prop:=A ag/\∃e go da bd a dm,ai w ag dh [bd,a,dm,.int .u64 (t.ever:Int)]/\bn jq 2 eu w e bd t.cells/\bn lC 3 gT w go a t.olds/\bn j7 3 ee w da dm t.marks/\
 ∀r,hp bd r\/hp a r\/hp dm r->A r
theorem db.aa{S A:ak}{t:az}(h:db w ag A t)(a:aj S w I)(f:∀r,A r->¬S r):db I ag A t:=by
 obtain⟨e,j,go,da,bd,q,dm,h1,s,x,y,z⟩:=h;exact⟨e,j,go,da,bd,q,dm,h1.aa a (f _ e),s.aa a (by grind),x.aa a (by grind),y.aa a (by grind),z⟩
theorem db.W{A:ak}{t:az}(h:db w ag A t)(J:Ext w I):db I ag A t:=h.aa (J.aa λ_=>False) λ_ _ h=>h
theorem db.Y{A B:ak}{t:az}(h:db w ag A t)(a:∀r,A r->B r):db w ag B t:=by
 obtain⟨e,f,go,da,bd,j,dm,h1,q,s,x,y⟩:=h;exact⟨a _ e,f,go,da,bd,j,dm,h1,q,s,x,λr z=>a r (y r z)⟩
def Grow(A:ak)(w:x4)(aP:ak)(I:x4):Prop:=aj A w I/\(∀r,aP r->A r\/w.heap.size<=r)/\∀r,A r->aP r
theorem Grow.refl(A:ak)(w:x4):Grow A w A w:=⟨aj.refl _ _,λ_ h=>.inl h,λ_ h=>h⟩
theorem Grow.W{A:ak}(h:Ext w I):Grow A w A I:=⟨h.aa _,by grind,λ_ h=>h⟩
theorem Grow.F{A aP e:ak}{f:x4}(h:Grow A w aP I)(k:Grow aP I e f):Grow A w e f:=
 ⟨⟨Y7 h.1.size k.1.size,λr o a V j=>k.1.bb r o (h.1.bb r o a V j) V λq=>(h.2.1 r q).elim j λs=>by
  grind⟩,λr a=>by
  rcases k.2.1 r a with h1|h1
  .exact h.2.1 r h1
  .have:=h.1.size;omega,λr a=>k.2.2 r (h.2.2 r a)⟩
theorem ER{A:ak}{t:az}(h:db w ag A t):aq x7 Kh [Γ ag] w λv I=>v=Δ (t.cells.length:Int)/\Ext w I:=by
 obtain⟨e,f,go,da,bd,j,dm,h1,a,q,r,s⟩:=h;refine aF func155 ?_;rw[cT mF.u];simp only[l9,a6];rw[aL dh.p 0 h1 rfl,dO ir.u a];exact⟨rfl,Ext.refl _⟩
theorem ES{A:ak}{t:az}{i:Int}(h:db w ag A t):aq x7 JA [Γ ag,Δ i] w λv I=>v= .bool (decide (0<=i/\i<t.cells.length))/\Ext w I:=by
 refine aF func86 ?_;refine a1 (λv U=>v= .bool (decide (0<=i/\i<t.cells.length))/\Ext w U) (λ_ _ h=>h) ?_;intro aA a;rw[cJ,ao];refine⟨λe=>?_,λe=>a _ _ ⟨by rw[m5];omega,Ext.refl _⟩⟩;refine(ER h).Y ?_;rintro _ U _ ⟨rfl,J⟩;rw[aW];refine a _ _ ⟨?_,J⟩;congr 1;rw[U1,m6,m6];exact⟨λh=>⟨Ω,h⟩,λh=>h.2⟩
theorem QF{A:ak}{t:az}{i:Nat}{c:Cell}(h:db w ag A t)(f:y=(i:Int))(a:t.cells[i]?=σ c):aq x7 Bg [Γ ag,Δ y] w λv I=>v=Δ c.v/\Ext w I:=by
 have j:=(x5.1 a).1;refine aF func38 ?_;refine(ES h).Y ?_;rintro _ U _ ⟨rfl,J⟩;rw[m3 Ω,bE,Y1,a6];obtain⟨q,r,go,da,bd,s,dm,h1,e,x,z,B⟩:=h.W J;rw[aL dh.p 0 h1 rfl,cf f ir.u eu.i e j,aY eu.p rfl,aD Ψ (e.range a 0 _ rfl)];exact⟨rfl,J⟩
theorem m4{A:ak}{t:az}{i:Nat}{x:Int}(h:db w ag A t)(e:y=(i:Int))(a:t.bT[i]?=σ x):aq x7 Bg [Γ ag,Δ y] w λv I=>v=Δ x/\Ext w I:=by
 unfold az.bT at a;rw[v8]at a;obtain⟨c,f,rfl⟩:=Y0.1 a;exact QF h e f
def m8(t:az):Prop:=t.cells.length<=100000000/\t.olds.length<=100000000/\t.marks.length<=100000000
theorem rh{s go da:Nat}{bd a dm:x1}{t:az}{x:x1}(h1:ai w ag dh [bd,a,dm,x])(f:bn jq 2 eu w s bd t.cells)(h:bn lC 3 gT w go a t.olds)(j:bn j7 3 ee w da dm t.marks):
  (¬hp bd ag/\¬hp a ag/\¬hp dm ag)/\(∀r,hp bd r->¬hp a r/\¬hp dm r)/\∀r,hp a r->¬hp bd r/\¬hp dm r:=by
 refine⟨⟨cw f h1 Φ,cw h h1 Φ,cw j h1 Φ⟩,λr q=>?_,λr q=>?_⟩
 .obtain⟨rfl,c,e⟩:=ej f q;exact⟨cw h e Φ,cw j e Φ⟩
 .obtain⟨rfl,c,e⟩:=ej h q;exact⟨cw f e Φ,cw j e Φ⟩
theorem vw{A:ak}{t:az}{i:Nat}{x:Int}(h:db w ag A t)(bk:y=(i:Int))(N:i<t.cells.length)(ap:m8 t):aq x7 Bq [Γ ag,Δ y,Δ x] w λv I=>v=Δ 0/\∃aP,Grow A w aP I/\db I ag aP (t.set i x):=by
 subst bk;obtain⟨c,C⟩:=aK (l:=t.cells) N;refine aF func126 ?_;rw[cT mF.u];simp only[l9,a6];refine(ES h).Y ?_;rintro _ U _ ⟨rfl,J⟩;rw[m3 Ω,bE,Y1,a6];obtain⟨aT,O,go,da,bd,P,dm,h1,aU,av,X,Y⟩:=id (h.W J);have bl:∀{ab:x4}{aP:ak}{bu:az}{st:Nat}{K:x4->Prop},db ab ag aP bu->bu.cells[i]?=σ ⟨c.v,st⟩->
   (∀q,aj aP ab q->db q ag aP {bu with cells:=bu.cells.set i ⟨x,st⟩}->K q)->
   (ad x7 (b0 (Γ ag)) ab λt77=>
   ad x7 (u6 dh t77 0) ab λbm=>
   ad x7 (u4 ir bm) ab λbn=>
   ad x7 (n9 ir bn (Δ (i:Int))) ab λbo=>
   ad x7 (u6 eu bo 0) ab λbp=>
   aM x7 (o7 ax bp (Δ x)) ab λ(_:Unit)q=>
   K q):=by
  intro ab aP bu st K aw Z bq;obtain⟨ay,O,go,da,bd,P,dm,E,G,Q,R,S⟩:=aw;have br:=(x5.1 Z).1;rw[aL dh.p 0 E rfl,cf rfl ir.u eu.i G br,aY eu.p rfl];obtain⟨⟨V,aB,aC⟩,H,_⟩:=rh E G Q R;refine lv (f:=jq) (j:=0) (a:=⟨c.v,st⟩) (a':=⟨x,st⟩) ax.i rfl rfl G Z rfl Ω λq B bt bw=>?_;exact bq q (B.Y λr _ e=>S r (.inl e)) ⟨ay,O,go,da,bd,P,dm,E.aa B V,bw,Q.aa B λr e he=>(H r he).1 e,R.aa B λr e he=>(H r he).2 e,S⟩
 refine cZ (λab=>∃aP bu st,Grow A U aP ab/\db ab ag aP bu/\bu.cells[i]?=σ ⟨c.v,st⟩/\t.set i x={bu with cells:=bu.cells.set i ⟨x,st⟩}) ?_ ?_
 .rintro ab ⟨aP,bu,st,bx,aw,Z,aE⟩;refine bl aw Z λq B av=>⟨by trivial,aP,?_,by rw[aE];exact av⟩;exact(Grow.W J).F (bx.F ⟨B,λ_ h=>.inl h,λ_ h=>h⟩)
 intro aA aG;rw[aL dh.p 2 h1 rfl,dO kj.u X,bU,ao];have aV:∀(hm:t.marks.getLast? =ν\/∃m,t.marks.getLast? =σ m/\¬(c.st<m.st/\i<m.cells)),t.set i x={t with cells:=t.cells.set i ⟨x,c.st⟩}:=λhm=>by
  unfold az.set;rw[C];rcases hm with hm|⟨m,hm,bz⟩
  .simp only[hm]
  .simp only[hm];rw[m1 bz]
 refine⟨λbY=>?_,λbZ=>aG _ ⟨A,t,c.st,Grow.refl _ _,h.W J,C,aV (.inl ?_)⟩⟩
 rotate_left
 .rw[List.getLast?_eq_none_iff];exact j6 Ω
 obtain⟨m,hm⟩:=aK (l:=t.marks) (i:=t.marks.length-1) Ω;have aX:t.marks.getLast? =σ m:=by rw[List.getLast?_eq_getElem?];exact hm
 have b1:=ap.2.2;rw[aL dh.p 2 h1 rfl,c5,hx Ω Ω,cf (i:=t.marks.length-1) Ω kj.u ee.i X Ω,bF ee.p ee.i rfl (X.range hm)];refine bC ee.i λau ab b2 aZ bA=>?_;refine b8 (vs:=j7 m) ee.i rfl rfl (by intro v ac;simp[j7]at ac;rcases ac with rfl|rfl|rfl<;>rfl) bA λq B bt bB=>?_;have a2:=aZ.put B Ω;have ae:∀{I:x4},Ext q I->ai I au ee (j7 m):=λJ=>bB.W J;refine a1 (λv aH=>v= .bool (decide (c.st<m.st/\i<m.cells))/\Ext q aH) ?_ ?_
 rotate_left
 .intro b3 a7;intro aH s _ _;have L:=a2.F s;have a8:=ae s;have M:=aU.W L;rw[aL dh.p 0 (h1.W L) rfl,cf rfl ir.u eu.i M N,aY eu.p rfl,aD Ψ (M.range C 1 _ rfl),aO ee.p 2 a8 rfl,aW,ao];refine⟨λba=>?_,λbb=>a7 _ _ ⟨by rw[m5];omega,s⟩⟩;rw[aO ee.p 1 a8 rfl,aW];refine a7 _ _ ⟨?_,s⟩;congr 1;rw[U1,m6,m6];exact⟨λh=>⟨Ω,Ω⟩,λh=>Ω⟩
 rintro _ aH ⟨rfl,s⟩;have L:=a2.F s;rw[ao];refine⟨λba=>?_,λbb=>aG _ ⟨A,t,c.st,Grow.W L,(h.W J).W L,C,aV (.inr ⟨m,aX,bb⟩)⟩⟩;intro b4 af _ _;have W:=L.F af;have aI:=h1.W W;have M:=aU.W W;have bD:=av.W W;have bG:=X.W W;rw[bR,aY dh.p rfl,aD Ψ (aI.cell rfl),bR,aY dh.p rfl,aD Ψ (aI.cell rfl),cf rfl ir.u eu.i M N,bF eu.p eu.i rfl (M.range C)];rw[dk (cs:=#[Δ (i:Int),Δ c.v,.int .u64 (c.st:Int)]) Ψ];let a:l1:=⟨i,c⟩;have bH:∀u∈lC a,u.oneCell'=ms:=by intro v ac;simp[lC]at ac;rcases ac with rfl|rfl|rfl<;>rfl
 refine jk (f:=lC) (a:=a) jb.u gT.i Ω rfl rfl λb5 b6 bc b7 z bI=>?_;refine⟨.inl z,?_⟩;have be:=W.F z;have aJ:=aI.W z;have bf:=M.W z;have aN:=bD.W z;have bg:=bG.W z;obtain⟨⟨V,aB,aC⟩,H,bJ⟩:=rh aJ bf aN bg;refine jH jb.u gT.i rfl aN (by simpa using bI.sl) bH (by have:=ap.2.1;omega) (by have:=ap.2.1;omega) λbK bL b9 ah bM bh=>?_;rw[bR,aY dh.p rfl];have bi:=aJ.aa bh aB;refine bs jb.i (dn ah.sl).1 (dn ah.sl).2 bi Ξ λal bj ca aQ=>?_;have aQ:=aQ;have am:aj (λr=>hp P r\/r=ag) bc al:=(bh.Y λr _ h=>.inl h).F (bj.Y λr _ h=>.inr h);have bN:=bf.aa am λr e he=>he.elim (λhe=>(H r e).1 he) λhe=>V (he▸e);have bO:=bg.aa am λr e he=>he.elim (λhe=>(bJ r he).2 e) λhe=>aC (he▸e);have bP:=ah.aa bj λr e he=>by
  have he:r=ag:=he;subst he;exact cw ah bi Φ e
 have cb:=be.size;have cc:=aZ.size;let aR:ak:=λr=>A r\/bc.heap.size<=r;have bQ:Grow A U aR al:=⟨(be.aa A).F (am.Y λr _ he=>he.elim (λhe=>Y r (.inr (.inl he))) λhe=>he▸aT),λr e=>e.imp id λe=>Ω,λr e=>.inl e⟩;have bS:db al ag aR {t with olds:=t.olds++[a]}:=⟨.inl aT,O,bL,da,bd,bK,dm,aQ,bN,bP,bO,λr e=>by
  rcases e with e|e|e
  .exact .inl (Y r (.inl e))
  .rcases bM r e with h|h
   .exact .inl (Y r (.inr (.inl h)))
   .exact .inr h
  .exact .inl (Y r (.inr (.inr e)))⟩
 have bT:ai al au ee (j7 m):=(ae ((s.F af).F z)).aa am λhe=>by
  rcases he with he|he
  .obtain⟨rfl,cd,bV⟩:=ej aN he;exact m2 (eJ bV (ae ((s.F af).F z))) Φ
  .subst he;exact m2 (eJ aJ (ae ((s.F af).F z))) Φ
 intro ce aS _ _;have bW:=bS.W aS;obtain⟨ay,O,go,da,bd,P,dm,E,G,Q,R,S⟩:=bW;rw[aL dh.p 0 E rfl,aO ee.p 2 (bT.W aS) rfl,cf rfl ir.u eu.i G N,aY eu.p rfl];obtain⟨⟨V,aB,aC⟩,H,_⟩:=rh E G Q R;refine lv (a':=⟨c.v,m.st⟩) fL.i rfl rfl G C rfl Ω λcg an ch bX=>?_;have aE:t.set i x={t with olds:=t.olds++[a],cells:=t.cells.set i ⟨x,m.st⟩}:=by
  unfold az.set;rw[C];simp only[aX];rw[lw ba]
 refine aG _ ⟨aR,{t with olds:=t.olds++[a],cells:=t.cells.set i ⟨c.v,m.st⟩},m.st,bQ.F ((Grow.W aS).F ⟨an.Y λr _ e=>S r (.inl e),λ_ h=>.inl h,λ_ h=>h⟩),⟨ay,O,go,da,bd,P,dm,E.aa an V,bX,Q.aa an λr e he=>(H r he).1 e,R.aa an λr e he=>(H r he).2 e,S⟩,?_,?_⟩
 .show (t.cells.set i _)[i]?=_;rw[Y2 N]
 .rw[aE];simp only[List.set_set]
theorem ET(n:Nat):ef (#[Δ 0,.int .u64 0]:Array x1) (n*2)=(r9 n (⟨0,0⟩:Cell)).flatMap jq:=by
 have:∀n,ef (#[Δ 0,.int .u64 0]:Array x1) (n*2)=(r9 n (⟨0,0⟩:Cell)).flatMap jq:=by
  intro n;apply Y5;intro j;have r:((r9 n (⟨0,0⟩:Cell)).flatMap jq).length=n*2:=by simp[jq]
  by_cases e:j<n*2
  .have q:(ef (#[Δ 0,.int .u64 0]:Array x1) (n*2))[j]?=σ (if j % 2=0 then Δ 0 else .int .u64 0):=by
    unfold ef;rw[Array.getElem?_toList,Array.getElem?_map,Array.getElem?_range,lw e];rcases Nat.mod_two_eq_zero_or_one j with h|h<;>simp[h]
   have ah:=pW (f:=jq) (k:=2) (L:=r9 n (⟨0,0⟩:Cell)) (i:=j / 2) (j:=j % 2) (a:=⟨0,0⟩) (v:=if j % 2=0 then Δ 0 else .int .u64 0) (λa _=>rfl) (by rw[List.getElem?_replicate,lw Ω]) (by rcases Nat.mod_two_eq_zero_or_one j with h|h<;>simp[h,jq]);rw[show j / 2*2+j % 2=j by omega]at ah;rw[q,ah]
  .rw[V0 (by rw[qR];omega),V0 Ω]
 exact this n
theorem QG{A:ak}{t:az}(h:db w ag A t)(Q:m8 t)(ac:n<=100000000):aq x7 KP [Γ ag,Δ (n:Int)] w λv I=>v=Δ (t.cells.length:Int)/\∃aP,Grow A w aP I/\db I ag aP (t.grow n):=by
 refine aF func201 ?_;refine(ER h).Y ?_;rintro _ U _ ⟨rfl,J⟩;refine cZ (λab=>∃aP,Grow A w aP ab/\db ab ag aP (t.grow n)) (λab h=>⟨rfl,h⟩) ?_;intro aA x;refine a1 (λv ab=>v= .bool (decide (0<n))/\U=ab) ?_ ?_
 rotate_left
 .intro ad R;rw[xn mF.u];simp only[l9,X4,bK];rw[bU];refine R _ _ ⟨?_,rfl⟩;congr 1;rw[U1,m6,m6];omega
 rintro _ _ ⟨rfl,rfl⟩;rw[ao];refine⟨λy=>?_,λy=>x _ ⟨A,Grow.W J,?_⟩⟩
 rotate_left
 .have:n=0:=Ω
  subst this;have e:t.grow 0=t:=by unfold az.grow;simp
  rw[e];exact h.W J
 obtain⟨B,ae,go,da,bd,S,dm,h1,C,E,G,f⟩:=id (h.W J);rw[aL dh.p 0 h1 rfl];obtain⟨⟨V,W,X⟩,H,af⟩:=rh h1 C E G;have ah:=Q.1;refine QE (k:=2) rfl ir.u al.u eu.i rfl Ω (λu hu=>?_) C.1 y Ω Ω λK L ab M Y N=>?_
 .exact EB Φ Φ u hu
 rw[bR,aY dh.p rfl];have j:bn jq 2 eu ab L K (t.cells++r9 n ⟨0,0⟩):=by
  refine⟨?_,λ_ _=>rfl⟩;have e:(x1.agg #[Δ 0,.int .u64 0]).cells= #[Δ 0,.int .u64 0]:=rfl;rw[e,ET]at M;rw[o4,List.length_replicate,List.flatMap_append];exact M
 have O:=h1.aa N V;refine bs ir.i (dn j.sl).1 (dn j.sl).2 O Ξ λZ P ai q=>?_;have q:=q;have s:aj (λr=>hp bd r\/r=ag) U Z:=(N.Y λr _ h=>.inl h).F (P.Y λr _ h=>.inr h);have z:=J.size;refine x _ ⟨λr=>A r\/U.heap.size<=r,(Grow.W J).F ⟨s.Y λr _ he=>he.elim (λhe=>f r (.inl he)) λhe=>he▸B,λr a=>a,λr a=>.inl a⟩,.inl B,L,go,da,K,S,dm,q,j.aa P λr a he=>?_,E.aa s λr a he=>he.elim (λhe=>(H r he).1 a) λhe=>W (he▸a),G.aa s λr a he=>he.elim (λhe=>(H r he).2 a) λhe=>X (he▸a),λr a=>?_⟩
 .have he:r=ag:=he;subst he;exact cw j O Φ a
 .rcases a with a|a|a
  .exact (Y r a).imp (λh=>f r (.inl h)) id
  .exact .inl (f r (.inr (.inl a)))
  .exact .inl (f r (.inr (.inr a)))
theorem QH(x:n<=1000):aq x7 JT [Δ (n:Int)] w λv I=>Ext w I/\∃ag,v=Γ ag/\db I ag (fU w.heap.size) ⟨r9 n ⟨0,0⟩,[],[],0⟩:=by
 refine aF func125 ?_;rw[r1,Int.max_eq_left Ω];refine BX ir.u eu.i Ω Ω λg U y h f=>?_;rw[dk (cs:=#[.slice (σ ⟨g,0,ν⟩) n n,.slice ν 0 0,.slice ν 0 0,.int .u64 0]) Ψ];refine bo λag ab z j s=>?_;have A:=h.size;have e:(x1.agg #[Δ 0,.int .u64 0]).cells= #[Δ 0,.int .u64 0]:=rfl;have f:ai U g eu ((r9 n (⟨0,0⟩:Cell)).flatMap jq):=by rw[<-ET,<-e];exact f
 have q:bn jq 2 eu U g (.slice (σ ⟨g,0,ν⟩) n n) (r9 n ⟨0,0⟩):=by
  refine⟨?_,λ_ _=>rfl⟩;rw[List.length_replicate];exact b7.full f (by simp[jq]) (by simp[maxLen];omega)
 refine⟨h.F j,ag,rfl,by show w.heap.size<=ag;omega,g,0,0,_,_,_,s,q.W j,bn.nil _ _ _ _ _,bn.nil _ _ _ _ _,λr a=>?_⟩;rcases a with a|a|a
 .have:=(q.hv a).1;show w.heap.size<=r;omega
 .exact (gF a).elim
 .exact (gF a).elim
theorem pH{α β:Type}{f:α->List β}:∀{L:List α}{i j:Nat}{a:α},L[i]?=σ a->j<(f a).length->(L.flatMap f)[((L.take i).flatMap f).length+j]?=(f a)[j]?
 |x::L,0,j,a,h,e=>by
  grind
 |x::L,i+1,j,a,h,e=>by
  have h:L[i]?=σ a:=by grind
  rw[List.take_succ_cons,U2,U2,o4,Nat.add_assoc,X1 Ω,Nat.add_sub_cancel_left,pH h e]
theorem yB{α β:Type}{f:α->List β}:∀{L:List α}{i j:Nat}{a b:α}{x:β},L[i]?=σ a->j<(f a).length->f b=(f a).set j x->(L.flatMap f).set (((L.take i).flatMap f).length+j) x=(L.set i b).flatMap f
 |y::L,0,j,a,b,x,h,e,q=>by
  grind
 |y::L,i+1,j,a,b,x,h,e,q=>by
  have h:L[i]?=σ a:=by grind
  rw[List.take_succ_cons,U2,U2,o4,Nat.add_assoc,U9 _ _ Ω,Nat.add_sub_cancel_left,yB h e q,List.set_cons_succ,U2]
theorem EU{α β:Type}{f:α->List β}{L:List α}{i:Nat}{a:α}(h:L[i]?=σ a)(e:j<(f a).length):((L.take i).flatMap f).length+j<(L.flatMap f).length:=by
 have h1:=pH (f:=f) h e
 grind
structure bA where
 gone:Int
 mask:Int
 un:Λ
structure bI where
 sc:Λ
 am:Λ
 live:Int
 cs:Λ
structure vx where
 v:Int
 sc:Λ
 oO:Λ
structure an where
 zero:Int
 d7:List bA
 d8:List bI
 di:List vx
def iE(x:bA):Λ:=x.gone::x.mask::x.un
def ib(x:bI):Λ:=x.live::x.cs
def lD(s:an):Λ:=[s.zero,(s.d8.length:Int),(s.di.length:Int)]
def an.cells(s:an):Λ:=lD s++(s.d7.flatMap iE++s.d8.flatMap ib)
def ic(s:an)(i:Nat):Nat:=3+((s.d7.take i).flatMap iE).length
def e6(s:an)(j:Nat):Nat:=3+((s.d7.flatMap iE).length+((s.d8.take j).flatMap ib).length)
theorem QI(s:an):s.cells[0]?=σ s.zero:=rfl
theorem QJ(s:an):s.cells[1]?=σ (s.d8.length:Int):=rfl
theorem QK(s:an):s.cells[2]?=σ (s.di.length:Int):=rfl
theorem ri{s:an}{i:Nat}{x:bA}(h:s.d7[i]?=σ x)(a:j<x.un.length+2):s.cells[ic s i+j]?=(iE x)[j]?:=by
 have e:j<(iE x).length:=a;unfold an.cells ic
 grind [lD,EU,pH]
theorem yC{s:an}{i:Nat}{x:bI}(h:s.d8[i]?=σ x)(a:j<x.cs.length+1):s.cells[e6 s i+j]?=(ib x)[j]?:=by
 have e:j<(ib x).length:=a;unfold an.cells e6;rw[Nat.add_assoc,Nat.add_assoc,X1 (by simp[lD]),show(lD s).length=3 from rfl,Nat.add_sub_cancel_left,X1 Ω,Nat.add_sub_cancel_left,pH h e]
theorem QL(s:an)(c:Int):s.cells.set 0 c=({s with zero:=c}:an).cells:=rfl
theorem EV{s:an}{i:Nat}{x y:bA}{c:Int}(h:s.d7[i]?=σ x)(a:j<x.un.length+2)(e:iE y=(iE x).set j c):s.cells.set (ic s i+j) c=({s with d7:=s.d7.set i y}:an).cells:=by
 have f:j<(iE x).length:=a;unfold an.cells ic
 grind [lD,EU,yB]
theorem QM{s:an}{i:Nat}{x y:bI}{c:Int}(h:s.d8[i]?=σ x)(a:j<x.cs.length+1)(e:ib y=(ib x).set j c):s.cells.set (e6 s i+j) c=({s with d8:=s.d8.set i y}:an).cells:=by
 have f:j<(ib x).length:=a;unfold an.cells e6;rw[Nat.add_assoc,Nat.add_assoc,U9 _ _ (by simp[lD]),show(lD s).length=3 from rfl,Nat.add_sub_cancel_left,U9 _ _ Ω,Nat.add_sub_cancel_left,yB h f e]
 grind [lD]
theorem QN{s:an}(x:bI):(s.cells++ib x).set 1 ((s.d8.length+1:Nat):Int)=({s with d8:=s.d8++[x]}:an).cells:=by
 grind [an.cells,lD]
theorem yD(s:an):s.cells.length=3+((s.d7.flatMap iE).length+(s.d8.flatMap ib).length):=by
 unfold an.cells;rw[o4,o4];rfl
def sY(a sc:Λ):Λ:=sc.map λv=>a.getD v.toNat 0
def vy(k:Int)(a:Int)(p:bA×Int):Int:=if p.1.gone≠0 then a else min (a+p.1.un.getD p.2.toNat 0) k
def vz(k:Int)(a:Λ)(e:Int)(f:bI):Int:=if f.live≠0 then min (e+bt f.am f.cs (sY a f.sc)) k else e
def dropped(mask:Int)(v:Int):Bool:=mask.toNat.testBit v.toNat
def j8(p:bA×Int):Bool:=decide (p.1.gone≠0)|| !dropped p.1.mask p.2
def fE(k:Int)(s:an)(a:Λ):Int:=if(s.d7.zip a).all j8 then s.d8.foldl (vz k a) ((s.d7.zip a).foldl (vy k) s.zero)else k
def ka(s:an)(a:Λ):Prop:=a.length=s.d7.length/\∀(i:Nat)x v,s.d7[i]?=σ x->a[i]?=σ v->x.gone≠0\/(0<=v/\v<x.un.length)
structure ba(k:Int)(d6:Λ)(s:an):Prop where
 eA:1<=k/\k<=2147483648
 fg:1<=d6.length/\d6.length<=64/\∀z∈d6,1<=z/\z<=32
 zero:0<=s.zero/\s.zero<=k
 d7:s.d7.length=d6.length
 var:∀(i:Nat)x z,s.d7[i]?=σ x->d6[i]?=σ z->x.un.length=z.toNat/\(∀c∈x.un,0<=c/\c<=k)/\0<=x.mask/\x.mask<4294967296
 d8:∀f∈s.d8,gH d6 k (f.sc,f.cs)/\f.am=ci d6 f.sc/\2<=f.sc.length
def newVar(u:Λ):bA:=⟨0,0,u⟩
def m9(d6:Λ)(g:cX):bI:=⟨g.1,ci d6 g.1,1,g.2⟩
def dB(n:aI):an:=⟨n.zero,n.unary.map newVar,n.d8.map (m9 n.d6),[]⟩
theorem QO{n:aI}(h:kX n):ba n.k n.d6 (dB n):=by
 refine⟨h.k,h.d6,h.zero,by simp[dB,h.mc],λi x z J e=>?_,λf ah=>?_⟩
 .have J:(n.unary.map newVar)[i]?=σ x:=J;rw[v8]at J;obtain⟨u,hu,rfl⟩:=Y0.1 J;obtain⟨h1,a⟩:=h.unary i z u e hu;exact⟨h1,a,S8 _,by show(0:Int)<_;omega⟩
 .obtain⟨g,j,rfl⟩:=o9.1 ah;obtain⟨h1,a⟩:=h.d8 g j;exact⟨h1,rfl,a⟩
theorem yE{n:aI}(h:gM w a n):aq x7 JE [Γ a] w λv I=>v=Δ (n.d6.length:Int)/\Ext w I:=by
 obtain⟨j,q,r,s,gr,bc,L,nm,ho,gz,fv2,h1,e,f,x,y,z,A⟩:=h;refine aF func93 ?_;rw[cT oy.u];simp only[l9,a6];rw[aL gx.p 0 h1 rfl,aL cL.p 2 e rfl,a7 av.u f.ls];exact⟨rfl,Ext.refl _⟩
theorem QP{n:aI}(h:gM w a n):aq x7 K3 [Γ a] w λv I=>v=Δ n.k/\Ext w I:=by
 obtain⟨f,j,q,r,gr,bc,L,nm,ho,gz,fv2,h1,e,s,x,y,z,A⟩:=h;refine aF func218 ?_;rw[cT oy.u];simp only[l9,a6];rw[aL gx.p 0 h1 rfl,aL cL.p 1 e rfl];exact⟨rfl,Ext.refl _⟩
theorem QQ{n:aI}(h:gM w a n):aq x7 JU [Γ a] w λv I=>v=Δ n.zero/\Ext w I:=by
 obtain⟨e,f,j,q,gr,bc,L,nm,ho,gz,fv2,h1,r,s,x,y,z,A⟩:=h;refine aF func127 ?_;rw[cT oy.u];simp only[l9,a6];rw[aL gx.p 1 h1 rfl];exact⟨rfl,Ext.refl _⟩
theorem EW{n:aI}(h:gM w a n):aq x7 Bs [Γ a] w λv I=>v=Δ (n.d8.length:Int)/\Ext w I:=by
 obtain⟨j,q,r,s,gr,bc,L,nm,ho,gz,fv2,h1,x,y,z,A,e,f⟩:=h;refine aF func130 ?_;rw[cT oy.u];simp only[l9,a6];rw[aL gx.p 3 h1 rfl,dO mH.u e.1];exact⟨by rw[<-f,u9],Ext.refl _⟩
theorem EX{s:Nat}{n:aI}{i:Int}(h:gM w s n)(f:kX n):aq x7 JV [Γ s,Δ i] w λv I=>Ext w I/\(¬(0<=i/\i<n.d6.length)->v= .slice ν 0 0)/\
  ∀u,0<=i->n.unary[i.toNat]?=σ u->∃g,w.heap.size<=g/\aH .i64 ax I g v u:=by
 refine aF func128 ?_;have K:=f.mc;refine a1 (λv U=>v= .bool (decide (¬(0<=i/\i<n.d6.length)))/\Ext w U) ?_ ?_
 .rintro _ U ⟨rfl,e⟩;rw[ao];refine⟨λC=>⟨e,λ_=>rfl,λu E hu=>?_⟩,λj=>?_⟩
  .have:=(x5.1 hu).1;exact m2 ⟨E,Ω⟩ C
  have j:=X0.1 j;obtain⟨M,N,O,P,gr,bc,L,nm,ho,gz,fv2,h1,Q,R,q,x,S,V⟩:=h.W e;have W:bc.length=n.unary.length:=by rw[<-x,u9]
  obtain⟨a,r⟩:=aK (l:=bc) (i:=i.toNat) Ω;obtain⟨X,hm⟩:=q.2 a (x6 r);rw[aL gx.p 2 h1 rfl,cf (i:=i.toNat) Ω et.u aC.i q.1 Ω,aD (o:=i.toNat*1) Ψ (q.1.range r 0 _ rfl)];have y:n.unary[i.toNat]?=σ a.l:=by rw[<-x,v8,r];rfl
  have Y:a.l.length<=32:=by
   obtain⟨z,A⟩:=aK (l:=n.d6) (i:=i.toNat) Ω;have Z:=(f.unary i.toNat z a.l A y).1;have aa:=f.d6.2.2 z (x6 A);omega
  refine(xt hm.ls Ω).Y ?_;rintro v ab _ ⟨G,g,ac,H⟩;refine⟨e.F G,λJ=>m2 j J,λu _ hu=>⟨g,by have:=e.size;omega,?_⟩⟩;rw[y]at hu;cases hu;exact H
 .intro aA B;rw[aW,ao];refine⟨λad=>B _ _ ⟨by rw[m3];omega,Ext.refl _⟩,λae=>?_⟩;refine(yE h).Y ?_;rintro _ U _ ⟨rfl,e⟩;rw[cJ];refine B _ _ ⟨?_,e⟩;congr 1;rw[U1,m6,m6];omega
theorem EY{n:aI}{i:Int}(h:gM w j n)(a:kX n):aq x7 Jj [Γ j,Δ i] w λv I=>Ext w I/\v=Δ (if 0<=i then n.d6.getD i.toNat 0 else 0):=by
 refine aF func66 ?_;refine(EX h a).Y ?_;rintro v U _ ⟨q,s,x⟩;by_cases e:0<=i/\i<n.d6.length
 .have y:=a.mc;obtain⟨u,hu⟩:=aK (l:=n.unary) (i:=i.toNat) Ω;obtain⟨z,f⟩:=aK (l:=n.d6) (i:=i.toNat) Ω;obtain⟨g,_,hm⟩:=x u e.1 hu;rw[a7 aC.u hm.ls];refine⟨q,?_⟩;have A:=(a.unary i.toNat z u f hu).1;have B:=a.d6.2.2 z (x6 f);rw[lw e.1,p8,f];congr 1;simp only[Option.getD_some];omega
 .rw[s e,je aC.u];refine⟨q,?_⟩;by_cases r:0<=i
  .rw[lw r,p8,V0 Ω];rfl
  .rw[m1 r];rfl
theorem EZ{n:aI}{j:Int}(h:gM w a n){K:x1->x4->Prop}(f:∀I,Ext w I->K (.bool (decide (¬(0<=j/\j<n.d8.length)))) I):
  ad x7 (aU .lss al ne ms (Δ j) (Δ 0)) w λr=>Split r (K (.bool ms) w) (aq x7 Bs [Γ a] w λs q=>ad x7 (aU .geq al ne ne (Δ j) s) q λx=>K x q):=by
 rw[aW,ao];refine⟨λz=>?_,λA=>?_⟩
 .have:=f w (Ext.refl _);rw[m3 (show¬(0<=j/\j<n.d8.length) by omega)]at this;exact this
 .refine (EW h).Y ?_;rintro _ U _ ⟨rfl,y⟩;rw[cJ];have:=f U y;have e:decide ((n.d8.length:Int)<=j)=decide (¬(0<=j/\j<n.d8.length)):=by
   rw[U1,m6,m6];omega
  rw[<-e]at this;exact this
theorem QR{s:Nat}{n:aI}{g:cX}(h:gM w s n)(z:kX n)(e:n.d8[j]?=σ g):aq x7 JX [Γ s,Δ (j:Int)] w λv I=>Ext w I/\∃gs,w.heap.size<=gs/\aH .i64 al I gs v g.1:=by
 refine aF func132 ?_;have E:=(x5.1 e).1;refine a1 (λv U=>v= .bool (decide (¬(0<=(j:Int)/\(j:Int)<n.d8.length)))/\Ext w U) ?_ λaA A=>EZ h λI J=>A _ _ ⟨rfl,J⟩;rintro _ U ⟨rfl,f⟩;rw[m5 Ω,a6];obtain⟨G,H,K,M,gr,bc,L,nm,ho,gz,fv2,h1,N,O,P,Q,q,x⟩:=h.W f;have R:L.length=n.d8.length:=by rw[<-x,u9]
 obtain⟨a,r⟩:=aK (l:=L) (i:=j) Ω;have y:ek a=g:=by rw[<-x,v8,r]at e;exact Z4 e
 obtain⟨⟨S,hm⟩,_⟩:=q.2 a (x6 r);rw[aL gx.p 3 h1 rfl,cf rfl mH.u jd.i q.1 Ω,aY jd.p rfl,aD Ψ (q.1.range r 0 _ rfl)];have V:a.sc.length<=6:=by
  have:=(z.d8 g (x6 e)).1.scope.2;rw[<-y]at this;exact this
 refine(mL hm.ls Ω).Y ?_;rintro v ab _ ⟨B,gs,W,C⟩;refine⟨f.F B,gs,by have:=f.size;omega,?_⟩;rw[<-y];exact C
theorem QS{g:Nat}{cs:Λ}(h:ds w g B sv am k cs):aq x7 KR [Γ g] w λv I=>Ext w I/\∃a e,v=Γ a/\w.heap.size<=a/\w.heap.size<=e/\ds I a e sv am k cs:=by
 obtain⟨⟨bd,gs,C,hm,E⟩,⟨h1,J,ae⟩,V,x⟩:=h;refine aF func203 ?_;rw[cT fp.u];simp only[l9,a6];intro U f _ _;have r:=C.W f;have K:=prod_bound V;rw[bR,aY c4.p rfl,bF (cs:=[sv]) bL.p bL.i rfl (pL r (by
  intro j v ac
  match j,ac with
  |0,ac=>exact ac)),aL c4.p 1 r rfl,aL c4.p 2 r rfl]
 refine(xt (E.ls.W f) Ω).Y ?_;rintro y ab _ ⟨s,e,L,q⟩;refine⟨.inl s,?_⟩;rw[dk (cs:=#[sv,Δ k,y]) (by obtain⟨_,_,_,rfl⟩:=dA hm.ls;obtain⟨_,_,_,rfl⟩:=dA q.ls;kernel_rfl)];refine bo λa M N z G=>?_;have O:=f.size;have P:=s.size;have Q:=q;have A:=(f.F s).F z;refine⟨A,a,e,rfl,Ω,Ω,⟨y,gs,G,hm.W A,q.W z⟩,⟨?_,?_,ae⟩,V,x⟩
 .have:=sM q (by rw[x];omega);omega
 .intro H;obtain⟨R,S⟩:=b5 hm H;omega
theorem QT{z:Nat}{n:aI}{g:cX}(A:gM w0 z n)(B:Ext w0 w)(f:n.d8[j]?=σ g):aq x7 JY [Γ z,Δ (j:Int)] w λv I=>Ext w I/\∃gt q sv,v=Γ gt/\w.heap.size<=gt/\w.heap.size<=q/\ds I gt q sv (ci n.d6 g.1) n.k g.2/\∀r,hv sv r->∃c,ai w0 r al c:=by
 have h:=A.W B;refine aF func133 ?_;have V:=(x5.1 f).1;refine a1 (λv U=>v= .bool (decide (¬(0<=(j:Int)/\(j:Int)<n.d8.length)))/\Ext w U) ?_ λaA K=>EZ h λI J=>K _ _ ⟨rfl,J⟩;rintro _ U ⟨rfl,s⟩;rw[m5 Ω,a6];have e:=B.F s;obtain⟨W,X,Y,Z,gr,bc,L,nm,ho,gz,fv2,h1,aa,ad,ae,af,x,C⟩:=A;have ag:L.length=n.d8.length:=by rw[<-C,u9]
 obtain⟨a,y⟩:=aK (l:=L) (i:=j) Ω;have M:ek a=g:=by rw[<-C,v8,y]at f;exact Z4 f
 obtain⟨_,q,N,E⟩:=x.2 a (x6 y);rw[aL gx.p 3 (h1.W e) rfl,cf rfl mH.u jd.i (x.1.W e) Ω,aY jd.p rfl,aD Ψ ((x.1.W e).range y 1 _ rfl)];refine(QS (E.W e)).Y ?_;rintro v ab _ ⟨O,gt,P,rfl,ah,aj,Q⟩;have ak:=s.size;refine⟨s.F O,gt,P,N,rfl,Ω,Ω,?_,λr G=>?_⟩
 .rw[<-M];exact Q
 .obtain⟨⟨_,_,_,hm,_⟩,_⟩:=E;obtain⟨R,_⟩:=b5 hm G;rcases hm.2 with⟨ac,_⟩|⟨_,cs,_,S,_⟩
  .obtain⟨_,_,_,H,am⟩:=G;rw[ac]at H;cases H
  .exact⟨cs,R▸S⟩
structure rj where
 aZ:x1
 ho:x1
 at_:Nat
def oQ(x:rj):List x1:=[x.aZ,x.ho,Δ (x.at_:Int)]
structure sZ where
 v:Int
 aZ:x1
 bv:x1
def yF(x:sZ):List x1:=[Δ x.v,x.aZ,x.bv]
def iR(s:an):Λ:=(X2 s.d7.length).map λi=>(ic s i:Int)
def ky(R:ak)(w:x4)(v:x1)(l:Λ):Prop:=(∃g,aH .i64 al w g v l)/\∀r,hv v r->R r
theorem ky.ls{R:ak}(h:ky R w v l):aQ .i64 w v l:=by
 obtain⟨⟨g,h⟩,_⟩:=h;exact h.ls
theorem ky.aa{R S:ak}(h:ky R w v l)(f:aj S w I)(j:∀r,r<w.heap.size->R r->¬S r):ky R I v l:=by
 obtain⟨⟨g,h1⟩,a⟩:=h;exact⟨⟨g,bB h1 f λr e=>j r (by obtain⟨q,s⟩:=b5 h1 e;omega) (a r e)⟩,a⟩
theorem ky.Y{R R':ak}(h:ky R w v l)(a:∀r,R r->R' r):ky R' w v l:=⟨h.1,λr e=>a r (h.2 r e)⟩
def na(R:ak)(w:x4)(L:List rj)(s:an):Prop:=L.length=s.d8.length/\∀(j:Nat)x f,L[j]?=σ x->s.d8[j]?=σ f->ky R w x.aZ f.sc/\ky R w x.ho f.am/\x.at_=e6 s j
def n1(R:ak)(w:x4)(E:List sZ)(s:an):Prop:=E.length=s.di.length/\∀(j:Nat)x e,E[j]?=σ x->s.di[j]?=σ e->x.v=e.v/\ky R w x.aZ e.sc/\ky R w x.bv e.oO
theorem na.aa{R S:ak}{L:List rj}{s:an}(h:na R w L s)(a:aj S w I)(e:∀r,r<w.heap.size->R r->¬S r):na R I L s:=⟨h.1,λj x f J ah=>by
 obtain⟨h1,q,y⟩:=h.2 j x f J ah;exact⟨h1.aa a e,q.aa a e,y⟩⟩
theorem n1.aa{R S:ak}{E:List sZ}{s:an}(h:n1 R w E s)(a:aj S w I)(e:∀r,r<w.heap.size->R r->¬S r):n1 R I E s:=⟨h.1,λj x f J ah=>by
 obtain⟨h1,q,y⟩:=h.2 j x f J ah;exact⟨h1,q.aa a e,y.aa a e⟩⟩
theorem na.Y{R R':ak}{L:List rj}{s:an}(h:na R w L s)(a:∀r,R r->R' r):na R' w L s:=⟨h.1,λj x f J ah=>by
 obtain⟨h1,e,q⟩:=h.2 j x f J ah;exact⟨h1.Y a,e.Y a,q⟩⟩
theorem n1.Y{R R':ak}{E:List sZ}{s:an}(h:n1 R w E s)(a:∀r,R r->R' r):n1 R' w E s:=⟨h.1,λj x f J ah=>by
 obtain⟨h1,e,q⟩:=h.2 j x f J ah;exact⟨h1,e.Y a,q.Y a⟩⟩
theorem s3{a b c:x4}(h:Ext a b)(k:aj S b c)(f:∀r o,a.heap[r]?=σ o->gf o=ms->¬S r):Ext a c:=
 ⟨Y7 h.size k.size,λr o e V=>k.bb r o (h.bb r o e V) V (f r o e V)⟩
theorem db.cut{A:ak}{t:az}(h:db w ag A t):db w ag (λr=>A r/\r<w.heap.size) t:=by
 obtain⟨x,y,go,da,bd,z,dm,h1,e,f,j,B⟩:=h;refine⟨⟨x,h1.lt⟩,y,go,da,bd,z,dm,h1,e,f,j,λr a=>⟨B r a,?_⟩⟩;rcases a with a|a|a
 .obtain⟨q,s⟩:=e.hv a;omega
 .obtain⟨q,s⟩:=f.hv a;omega
 .obtain⟨q,s⟩:=j.hv a;omega
def eZ(w:x4)(af ag j:Nat)(e f h:x1)(A R:ak)(n:aI)(s:an)(t:az):Prop:=
 (A af/\(∀r,A r->¬R r)/\(∀r,R r->r<w.heap.size)/\∀r,A r->r<w.heap.size)/\∃bh q ge,∃(L:List rj)(E:List sZ)(a:ak)(w0:x4),
  ai w af ch [Γ j,Γ ag,e,f,h]/\(gM w0 j n/\Ext w0 w/\∀r o,w0.heap[r]?=σ o->gf o=ms->R r)/\
  (db w ag a t/\(∀r,a r->A r)/\¬a af/\∀r,hv e r\/hp f r\/hp h r->A r/\¬a r)/\aH .i64 al w bh e (iR s)/\
  (bn oQ 3 ec w q f L/\na R w L s)/\bn yF 3 gS w ge h E/\n1 R w E s
theorem eZ.aa{S:ak}{q x y:x1}{A R:ak}{n:aI}{s:an}{t:az}(h:eZ w af ag j q x y A R n s t)(a:aj S w I)(f:∀r,r<w.heap.size->A r\/R r->¬S r):eZ I af ag j q x y A R n s t:=by
 obtain⟨⟨h1,ai,al,am⟩,bh,B,ge,L,E,C,w0,F,⟨G,H,J⟩,⟨K,M,N,O⟩,P,⟨Q,T⟩,U,W⟩:=h;have z:=a.size;refine⟨by grind,bh,B,ge,L,E,C,w0,F.aa a (by grind),⟨G,s3 H a λr o e aE V=>f r (by grind) (by grind) V,J⟩,
  ⟨?_,M,N,O⟩,bB P a λr e V=>f r ?_ (by grind) V,⟨Q.aa a λr e V=>f r ?_ (by grind) V,T.aa a (by grind)⟩,U.aa a λr e V=>f r ?_ (by grind) V,W.aa a (by grind)⟩
 .obtain⟨X,Y,go,da,bd,Z,dm,ab,ac,ad,ae,ah⟩:=K;refine⟨X,Y,go,da,bd,Z,dm,ab.aa a (by grind),ac.aa a λr e V=>?_,ad.aa a λr e V=>?_,ae.aa a λr e V=>?_,ah⟩
  all_goals grind
 all_goals grind
theorem eZ.W{e f j:x1}{A R:ak}{n:aI}{s:an}{t:az}(h:eZ w af ag a e f j A R n s t)(J:Ext w I):eZ I af ag a e f j A R n s t:=h.aa (J.aa λ_=>False) λ_ _ _ h=>h
theorem eZ.s4{x:Nat}{y C:x1}{A R:ak}{n:aI}{s:an}{t:az}(h:eZ w af ag x y z C A R n s t):∃j,db w ag j t/\∀f I bu,Grow j w f I->db I ag f bu->∃aP,Grow A w aP I/\eZ I af ag x y z C aP R n s bu:=by
 obtain⟨⟨h1,ae,F,G⟩,bh,M,ge,L,E,j,w0,N,⟨O,P,Q⟩,⟨S,H,T,ah⟩,U,⟨V,W⟩,X,Y⟩:=h;refine⟨j,S,λJ I bu q Z=>?_⟩;have K:=Z.cut;have e:Grow j w (λr=>J r/\r<I.heap.size) I:=⟨q.1,λr a=>q.2.1 r a.1,λr a=>⟨q.2.2 r a,by have:=G r (H r a);have:=q.1.size;omega⟩⟩;obtain⟨f,ab⟩:∃B:ak,B=λr=>J r/\r<I.heap.size:=⟨_,rfl⟩;rw[<-ab]at K e;have ai:∀r,f r->r<I.heap.size:=by grind
 refine⟨λr=>A r\/f r,⟨e.1.Y (by grind),λr a=>?_,by grind⟩,⟨.inl h1,λr a ac=>?_,λr a=>?_,λr a=>?_⟩,bh,M,ge,L,E,f,w0,N.aa e.1 T,⟨O,s3 P e.1 (by grind),Q⟩,
  ⟨K,by grind,λa=>?_,λr a=>⟨by grind,λad=>?_⟩⟩,bB U e.1 (by grind),⟨V.aa e.1 (by grind),W.aa e.1 (by grind)⟩,X.aa e.1 (by grind),Y.aa e.1 (by grind)⟩
 .rcases a with a|a
  .grind
  .exact (e.2.1 r a).imp (H r) id
 .have:=F r ac;rcases a with a|a
  .grind
  .rcases e.2.1 r a with h|h
   all_goals grind
 .have:=F r a;have:=e.1.size;omega
 .rcases a with a|a
  .have:=G r a;have:=e.1.size;omega
  grind
 .rcases e.2.1 _ a with h|h
  all_goals grind
 .rcases e.2.1 r ad with h|h
  all_goals grind
def StateM(w:x4)(af ag:Nat)(A R:ak)(n:aI)(s:an)(t:az):Prop:=∃a e f h,eZ w af ag a e f h A R n s t
theorem StateM.aa{S:ak}{A R:ak}{n:aI}{s:an}{t:az}(h:StateM w af ag A R n s t)(a:aj S w I)(e:∀r,r<w.heap.size->A r\/R r->¬S r):StateM I af ag A R n s t:=by
 obtain⟨f,j,q,x,h⟩:=h;exact⟨f,j,q,x,h.aa a e⟩
theorem StateM.W{A R:ak}{n:aI}{s:an}{t:az}(h:StateM w af ag A R n s t)(J:Ext w I):StateM I af ag A R n s t:=h.aa (J.aa λ_=>False) λ_ _ _ h=>h
theorem StateM.s4{A R:ak}{n:aI}{s:an}{t:az}(h:StateM w af ag A R n s t):∃a,db w ag a t/\∀e I bu,Grow a w e I->db I ag e bu->∃aP,Grow A w aP I/\StateM I af ag aP R n s bu:=by
 obtain⟨f,j,q,r,h⟩:=h;obtain⟨a,h1,x⟩:=h.s4;exact⟨a,h1,λe I bu y z=>by
  obtain⟨aP,B,C⟩:=x e I bu y z;exact⟨aP,B,f,j,q,r,C⟩⟩
def nb(s s':an):Prop:=iR s'=iR s/\s'.d8.length=s.d8.length/\(∀(j:Nat)a,s'.d8[j]?=σ a->∃f,s.d8[j]?=σ f/\a.sc=f.sc/\a.am=f.am/\e6 s' j=e6 s j)/\s'.di=s.di
theorem eZ.same{e q r:x1}{A R:ak}{n:aI}{s s':an}{t:az}(h:eZ w af ag a e q r A R n s t)(V:nb s s'):eZ w af ag a e q r A R n s' t:=by
 obtain⟨aw,bh,z,ge,L,E,B,w0,C,F,G,T,⟨H,y⟩,I,U⟩:=h;obtain⟨W,K,M,X⟩:=V;refine⟨aw,bh,z,ge,L,E,B,w0,C,F,G,by grind,⟨H,y.1.F K.symm,λj x N J O=>?_⟩,I,?_⟩
 .obtain⟨f,ah,P,Q,S⟩:=M j N O;rw[P,Q,S];exact y.2 j x f J ah
 grind [n1]
theorem StateM.same{A R:ak}{n:aI}{s s':an}{t:az}(h:StateM w af ag A R n s t)(V:nb s s'):StateM w af ag A R n s' t:=by
 obtain⟨a,e,f,j,h⟩:=h;exact⟨a,e,f,j,h.same V⟩
theorem vA{α β:Type}{f:α->List β}:∀{L:List α}{i j:Nat}{a b:α},L[i]?=σ a->(f b).length=(f a).length->(((L.set i b).take j).flatMap f).length=((L.take j).flatMap f).length
 |[],_,_,_,_,h,_=>by simp at h
 |x::L,0,j,a,b,h,e=>by
  cases h;cases j<;>grind
 |x::L,i+1,j,a,b,h,e=>by
  have h:L[i]?=σ a:=by grind
  cases j with
  |zero=>rfl
  |succ j=>
   rw[List.set_cons_succ,List.take_succ_cons,List.take_succ_cons,U2,U2,o4,o4,vA h e]
theorem E0(s:an)(c:Int):nb s {s with zero:=c}:=⟨rfl,rfl,λj f h=>⟨f,h,rfl,rfl,rfl⟩,rfl⟩
theorem E1{s:an}{i:Nat}{x y:bA}(J:s.d7[i]?=σ x)(a:y.un.length=x.un.length):nb s {s with d7:=s.d7.set i y}:=by
 have ah:(iE y).length=(iE x).length:=by simp[iE,a]
 refine⟨?_,rfl,λj f h=>⟨f,h,rfl,rfl,?_⟩,rfl⟩
 .grind [iR,ic,vA]
 .unfold e6;have:=vA (j:=s.d7.length) J ah
  grind [j4]
theorem QU{s:an}{i:Nat}{x y:bI}(J:s.d8[i]?=σ x)(a:y.cs.length=x.cs.length)(h1:y.sc=x.sc)(e:y.am=x.am):nb s {s with d8:=s.d8.set i y}:=by
 have ah:(ib y).length=(ib x).length:=by simp[ib,a]
 refine⟨rfl,Z5,λj f h=>?_,rfl⟩
 grind [e6,vA]
theorem az.yG(t:az)(i:Nat)(x:Int):(t.set i x).marks=t.marks:=by
 grind [az.set]
theorem az.E2(t:az)(i:Nat)(x:Int):(t.set i x).ever=t.ever:=by
 grind [az.set]
theorem az.E3(t:az)(i:Nat)(x:Int):(t.set i x).cells.length=t.cells.length:=by
 grind [az.r7,az.bT,u9]
theorem az.E4(t:az)(i:Nat)(x:Int):(t.set i x).olds.length<=t.olds.length+1:=by
 unfold az.set
 grind
theorem az.yH{t:az}(h:t.marks=[])(i:Nat)(x:Int):(t.set i x).olds=t.olds:=by
 grind [az.set]
def ie(t:az)(l:Λ):Nat->az
 |0=>t.grow l.length
 |i+1=>(ie t l i).set (t.cells.length+i) (l.getD i 0)
def oR(t:az)(l:Λ):az:=ie t l l.length
theorem s5(t:az)(l:Λ):∀i,(ie t l i).marks=t.marks
 |0=>rfl
 |i+1=>(az.yG _ _ _).F (s5 t l i)
theorem E5(t:az)(l:Λ):∀i,(ie t l i).ever=t.ever
 |0=>rfl
 |i+1=>(az.E2 _ _ _).F (E5 t l i)
theorem E6(t:az)(l:Λ):∀i,(ie t l i).cells.length=t.cells.length+l.length
 :=by
 intro a;induction a<;>grind [ie,az.grow,az.E3]
theorem yI(t:az)(l:Λ):∀i,(ie t l i).olds.length<=t.olds.length+i
 |0=>p9 _
 |i+1=>by have:=az.E4 (ie t l i) (t.cells.length+i) (l.getD i 0);have:=yI t l i;show(az.set _ _ _).olds.length<=_;omega
theorem E7{t:az}(h:t.marks=[])(l:Λ):∀i,(ie t l i).olds=t.olds
 |0=>rfl
 |i+1=>(az.yH ((s5 t l i).F h) _ _).F (E7 h l i)
theorem E8(t:az)(l:Λ):∀i,i<=l.length->(ie t l i).bT=t.bT++(l.take i++r9 (l.length-i) 0)
 |0,_=>by rw[List.take_zero,List.nil_append];exact az.Mw
 |i+1,h=>by
  have a:=E8 t l i Ω;show(az.set _ _ _).bT=_;have e:t.bT.length=t.cells.length:=by simp[az.bT]
  rw[az.r7,a,U9 _ _ Ω,e,Nat.add_sub_cancel_left,U9 _ _ (by rw[j9];omega),j9,Nat.min_eq_left Ω,V8,show l.length-i=(l.length-(i+1))+1 by omega,List.replicate_succ,List.set_cons_zero,u7,p8,x8 Ω]
  grind
theorem E9(t:az)(l:Λ):(oR t l).bT=t.bT++l:=by
 grind [oR,E8]
theorem eR.ie{h:List az}{t:az}(hk:eR t h)(l:Λ):∀i,eR (ie t l i) h
 |0=>hk.grow
 |i+1=>(eR.ie hk l i).set
theorem jl{s:Go.Sem x1}{x:x1}(h:ad x7 s w (λv=>v=x)):cK x7 s x w:=by
 obtain⟨v,h,rfl⟩:=h;exact h
theorem vB{off:Nat}{z:Nat}{a:r8}{x:x1}(f:ai w af e cs)(ae:∀(K:x1->Prop),ad x7 (u6 ch (Γ af) z) w K=K (.pointer (σ ⟨af,0+off,ν⟩)))(h:lj x7 a=ms)(j:cs[0+off]?=σ x):
  cK x7 (u4 a (.pointer (σ ⟨af,0+off,ν⟩))) x w/\cK x7 (u6 ch (Γ af) z) (.pointer (σ ⟨af,0+off,ν⟩)) w/\cK x7 (b0 (Γ af)) (Γ af) w/\True:=
 ⟨kS h (f.cell j),jl (by rw[ae]),jl (by rw[bR]),trivial⟩
def Fa(w:x4)(r:Nat):Prop:=∃e c,ai w r e c/\(e=dh\/e=eu\/e=gT\/e=ee\/e=ch\/e=ec\/e=gS)
def eB(w:x4)(r:Nat):Prop:=Fa w r\/∀o,w.heap[r]?=σ o->gf o≠ms
theorem oS{U:x4}(hk:∀o,w.heap[r]?=σ o->gf o=ms->¬eB w r->U.heap[r]?=σ o)(h:eB U r):eB w r:=by
 by_cases a:eB w r
 .exact a
 .refine m2 (.inr λo aE V=>?_) a;have h1:=hk o aE V a;rcases h with⟨e,c,f,he⟩|j
  .refine a (.inl ⟨e,c,?_,he⟩)
   grind [ai]
  grind
theorem iS{U ab:x4}(J:Ext w U)(a:aj (eB U) U ab):aj (eB w) w ab:=(J.aa _).F (a.Y λr _ h=>oS (λo aE V _=>J.bb r o aE V) h)
theorem vC{U ab:x4}(h:aj (eB w) w U)(a:aj (eB U) U ab):aj (eB w) w ab:=h.F (a.Y λr _ e=>oS (λo aE V f=>h.bb r o aE V f) e)
theorem db.min{A:ak}{t:az}(h:db w ag A t):db w ag (λr=>A r/\Fa w r) t:=by
 obtain⟨s,x,go,da,bd,y,dm,h1,f,j,q,z⟩:=h;refine⟨⟨s,_,_,h1,.inl rfl⟩,x,go,da,bd,y,dm,h1,f,j,q,λr a=>⟨z r a,?_⟩⟩;rcases a with a|a|a
 .obtain⟨rfl,c,e⟩:=ej f a;exact⟨_,c,e,.inr (.inl rfl)⟩
 .obtain⟨rfl,c,e⟩:=ej j a;exact⟨_,c,e,.inr (.inr (.inl rfl))⟩
 .obtain⟨rfl,c,e⟩:=ej q a;exact⟨_,c,e,.inr (.inr (.inr (.inl rfl)))⟩
theorem eZ.p4{f:Nat}{j q x:x1}{A R:ak}{n:aI}{s:an}{t:az}(h:eZ w af ag f j q x A R n s t):∃a,db w ag a t/\∀y I bu,Grow a w y I->db I ag y bu->aj (eB w) w I/\∃aP,Grow A w aP I/\eZ I af ag f j q x aP R n s bu:=by
 obtain⟨a,z,B⟩:=h.s4;refine⟨_,z.min,λC U bu e E=>⟨e.1.Y λr _ h=>.inl h.2,?_⟩⟩;exact B (λr=>a r\/C r) U _ ⟨e.1.Y λr _ h=>h.1,λr F=>F.elim .inl λh=>(e.2.1 r h).imp (λh=>h.1) id,by grind⟩ (E.Y (by grind))
theorem Fb{q:Nat}{y B:x1}{A R:ak}{n:aI}{s:an}{t:az}{cQ:x1}(h:eZ w af ag q y z B A R n s t)(C:aQ .i64 w cQ l)(P:∀r,hv cQ r->¬A r)(aD:t.cells.length+l.length<=100000000)(aE:t.olds.length+l.length<=100000000)(hm:t.marks.length<=100000000):
  aq x7 Br [Γ af,cQ] w λv I=>v=Δ (t.cells.length:Int)/\aj (eB w) w I/\∃aP,Grow A w aP I/\eZ I af ag q y z B aP R n s (oR t l):=by
 refine aF func129 ?_;obtain⟨_,bh,Q,ge,L,E,_,w0,G,_⟩:=id h;obtain⟨S,H,K⟩:=h.p4;rw[aL ch.p 1 G rfl,a7 aC.u C];refine(QG H ⟨Ω,Ω,hm⟩ Ω).Y ?_;rintro _ U _ ⟨rfl,V,W,X⟩;obtain⟨Y,Z,N,aa⟩:=K V U _ W X;have O:∀{aP:ak}{I:x4},Grow A w aP I->aQ .i64 I cQ l:=λad=>jC C ad.1 λr ae a ah c ac ai=>P r ⟨a,ah,c,ac,ai⟩ ae;rw[a7 aC.u (O N)];have al:=C.le;refine b6.range l.length (λi ab=>aj (eB w) w ab/\∃e,Grow A w e ab/\eZ ab af ag q y z B e R n s (ie t l i)) al ⟨Y,Z,N,aa⟩ ?_ ?_
 .rintro i ab k hi ⟨M,e,f,j⟩ hk;refine bM Ω ?_;obtain⟨x,J⟩:=aK (l:=l) hi;rw[bm aC.u ax.i Ψ (O f) J];obtain⟨_,bh,Q,ge,L,E,_,w0,G,_⟩:=id j;obtain⟨S,H,K⟩:=j.p4;have aG:=E6 t l i;have aH:=yI t l i;have am:=s5 t l i;rw[aL ch.p 1 G rfl,aR,hx Ω Ω];refine(vw (i:=t.cells.length+i) H Ω Ω ⟨Ω,Ω,by rw[am];exact hm⟩).Y ?_;rintro _ ap _ ⟨rfl,au,av,aw⟩;obtain⟨ay,aA,aB,aJ⟩:=K au ap _ av aw;rw[aR];refine hk _ ⟨vC M ay,aA,f.F aB,?_⟩
  grind [ie]
 .rintro ab k ⟨M,e,f,j⟩;rw[aW,ao];exact⟨λh=>Ω,λ_=>⟨rfl,M,e,f,j⟩⟩
def kz(s:an)(sc am cs:Λ):an:={s with d8:=s.d8++[⟨sc,am,1,cs⟩]}
def p5(s:an)(t:az)(cs:Λ):az:=(oR t (1::cs)).set 1 ((s.d8.length+1:Nat):Int)
theorem QV{s:an}{t:az}{sc cs:Λ}(h:t.bT=s.cells):(p5 s t cs).bT=(kz s sc am cs).cells:=by
 unfold p5 kz;rw[az.r7,E9,h,<-QN];rfl
theorem QW{bp:Nat}{bq aO br:x1}{A R:ak}{n:aI}{s:an}{t:az}{aZ:x1}{sc cs:Λ}{g bO:Nat}{Z:x1}(h:eZ w af ag bp bq aO br A R n s t)(ac:t.bT=s.cells)(cd:aQ .i64 w aZ sc)(dm:∀r,hv aZ r->¬A r)(bt:ds w g bO Z am k cs)(bP:¬A g/\¬A bO/\∀r,hv Z r->¬A r)(dp:sc.length<=1000)(aW:t.cells.length+cs.length+1<=100000000)(aE:t.olds.length+cs.length+1<=100000000)(hm:t.marks.length<=100000000)(ah:s.d8.length<=1000000):
  aq x7 JW [Γ af,aZ,Γ g] w λv I=>v=Δ (s.d8.length:Int)/\aj (eB w) w I/\∃aP R' bu,Grow A w aP I/\eZ I af ag bp bq bu br aP R' n (kz s sc am cs) (p5 s t cs)/\(∀r,R r->R' r)/\∀r,R' r->R r\/hv Z r\/w.heap.size<=r:=by
 have dq:t.cells.length=s.cells.length:=by rw[<-ac];simp[az.bT]
 have dr:=yD s;have ce:e6 (kz s sc am cs) s.d8.length=t.cells.length:=by
  unfold e6 kz;simp only[List.take_left];omega
 have cf:∀j,j<s.d8.length->e6 (kz s sc am cs) j=e6 s j:=λj bw=>by
  unfold e6 kz;simp only[List.take_append_of_le_length (show j<=s.d8.length by omega)]
 have cg:iR (kz s sc am cs)=iR s:=rfl;refine aF func131 ?_;refine cZ (λU=>aj (eB w) w U/\∃aP R' bu,Grow A w aP U/\eZ U af ag bp bq bu br aP R' n (kz s sc am cs) (oR t (1::cs))/\(∀r,R r->R' r)/\∀r,R' r->R r\/hv Z r\/w.heap.size<=r) ?_ ?_
 .rintro U ⟨ci,dt,cj,ck,cl,cm,cn,cp⟩;intro ab bx _ _;have bQ:=cm.W bx;obtain⟨_,bh,bz,ge,L,E,_,w0,ao,_,_,_,⟨a7,bg⟩,_⟩:=id bQ;have bi:L.length=s.d8.length+1:=by rw[bg.1];simp[kz]
  rw[aL ch.p 1 ao rfl,aL ch.p 3 ao rfl,dO fm.u a7];obtain⟨bS,cq,cr⟩:=bQ.p4;have ct:=E6 t (1::cs) (1::cs).length;have cu:=yI t (1::cs) (1::cs).length;have cz:=s5 t (1::cs) (1::cs).length;simp only[X5]at ct cu;refine(vw cq rfl (by show 1<(ie _ _ _).cells.length;simp only[X5];omega) ⟨by show(ie _ _ _).cells.length<=_;simp only[X5];omega,by show(ie _ _ _).olds.length<=_;simp only[X5];omega,by show(ie _ _ _).marks.length<=_;rw[cz];exact hm⟩).Y ?_;rintro _ cA _ ⟨rfl,cB,cC,cD⟩;obtain⟨cE,cF,cG,bU⟩:=cr cB cA _ cC cD;obtain⟨_,bh,bz,ge,cH,E,_,w0,ao,_,_,_,⟨a7,cI⟩,_⟩:=id bU;have du:cH.length=s.d8.length+1:=by rw[cI.1];simp[kz]
  rw[aL ch.p 3 ao rfl,dO fm.u a7,c5,hx Ω Ω];refine⟨by congr 1;omega,vC ci (iS bx cE),cF,cj,ck,cl.F ((Grow.W bx).F cG),?_,cn,cp⟩;have e:p5 s t cs=(oR t (1::cs)).set 1 (L.length:Int):=by unfold p5;rw[bi]
  rw[e];exact bU
 intro aA cJ;intro aR aS _ _;have bV:=h.W aS;obtain⟨_,bh,bz,ge,L,E,_,w0,ao,_⟩:=id bV;rw[aL ch.p 3 ao rfl];have z4:=aS.size;have bj:∀{C:x4}{ae Q:x1}{a8 W:Nat},Ext aR C->w.heap.size<=a8->w.heap.size<=W->aH .i64 al C a8 ae sc->aH .i64 ax C W Q (1::cs)->(∀r,hv ae r\/hv Q r->¬A r)->
   aq x7 Br [Γ af,Q] C λcL aB=>
    (Ext aR aB\/cK x7 (u4 fm (.pointer (σ ⟨af,0+3,ν⟩))) aO aB/\cK x7 (u6 ch (Γ af) 3) (.pointer (σ ⟨af,0+3,ν⟩)) aB/\cK x7 (b0 (Γ af)) (Γ af) aB/\True)/\
    ad x7 (Instr.build ec #[(0,ae),(1,.agg #[Z]),(2,cL)]) aB λt22=>
    aM x7 (Y3 fm 1 #[(0,t22)]) aB λcM ap=>
     (Ext aR ap\/cK x7 (u4 fm (.pointer (σ ⟨af,0+3,ν⟩))) aO ap/\cK x7 (u6 ch (Γ af) 3) (.pointer (σ ⟨af,0+3,ν⟩)) ap/\cK x7 (b0 (Γ af)) (Γ af) ap/\True)/\
    aM x7 (c9 #[fm,fm] fm #[aO,cM]) ap λcN bk=>
     ad x7 (b0 (Γ af)) bk λt25=>
     ad x7 (u6 ch t25 3) bk λcO=>
     aM x7 (o7 fm cO cN) bk λ(_:Unit)aX=>
      aA aX:=by
  intro C ae Q a8 W B bW S G M bA;have cP:=bV.W B;refine(Fb cP M.ls (λr y=>bA r (.inr y)) (by simp only[X5];omega) (by simp only[X5];omega) hm).Y ?_;rintro _ aB _ ⟨rfl,cQ,ba,a1,cR⟩;obtain⟨⟨bX,bY,cS,bZ⟩,bh,bz,ge,L,E,bS,w0,ao,⟨cT,cU,b1⟩,⟨cV,b2,b3,aJ⟩,bC,⟨a7,bg⟩,bD,cW⟩:=id cR;have aD:=bB G a1.1 λr y=>bA r (.inl y);have bl:=((Classical.choose_spec (show∃gs,aH .i64 al w gs Z am from by obtain⟨⟨_,gs,_,q,_⟩,_⟩:=bt;exact⟨gs,q⟩)).W aS).W B;have cX:=bB bl a1.1 bP.2.2;refine⟨.inr (vB ao (λK=>by rw[aY ch.p rfl]) Ψ rfl),?_⟩;rw[dk (cs:=#[ae,Z,Δ (t.cells.length:Int)]) (by obtain⟨_,_,_,rfl⟩:=dA G.ls;obtain⟨_,_,_,rfl⟩:=dA bl.ls;kernel_rfl)];let a:rj:=⟨ae,Z,t.cells.length⟩;have cY:∀u∈oQ a,u.oneCell'=ms:=by
   intro u hu;simp[oQ]at hu;rcases hu with rfl|rfl|rfl
   .exact G.ls.cells.2
   .exact bl.ls.cells.2
   .rfl
  refine jk (f:=oQ) (a:=a) fm.u ec.i Ω rfl rfl λdv dw ap dx H c0=>?_;refine⟨.inr (vB (ao.W H) (λK=>by rw[aY ch.p rfl]) Ψ rfl),?_⟩;have bb:=a7.W H;have bi:=bg.1;refine jH fm.u ec.i rfl bb (by simpa using c0.sl) cY Ω Ω λc1 c2 bk bc c3 b4=>?_;have bd:=ao.W H;have b6:=bd.aa b4 λhe=>cw bb bd Φ he;rw[bR,aY ch.p rfl];refine bs fm.i (dn bc.sl).1 (dn bc.sl).2 b6 Ξ λaX bE dy bF=>?_;have bF:=bF;have au:aj (λr=>hp aO r\/r=af) ap aX:=(b4.Y λr _ h=>.inl h).F (bE.Y λr _ h=>.inr h);have z9:=B.size;have dz:=a1.1.size;have dC:=H.size;have dD:=au.size;have bG:∀r,(hp aO r\/r=af)->ba r:=λr y=>y.elim (λy=>(aJ r (.inr (.inl y))).1) λy=>y▸bX;have bH:∀r,(hp aO r\/r=af)->¬R r:=λr y=>bY r (bG r y);have c4:aj (eB w) w aX:=vC (iS (aS.F B) cQ) (iS H (au.Y λr _ y=>by
   rcases y with y|rfl
   .obtain⟨_,c,aW⟩:=ej bb y;exact .inl ⟨_,c,‹r=_› ▸aW,Φ⟩
   .exact .inl ⟨_,_,bd,Φ⟩))
  let c6:ak:=λr=>ba r\/(ap.heap.size<=r/\r<aX.heap.size);let bI:ak:=λr=>R r\/(hv Z r/\r<aB.heap.size)\/(hv ae r/\r<aB.heap.size);have dE:∀r,r<w.heap.size->ba r->A r:=λr y h=>(a1.2.1 r h).elim id λh=>Ω
  have bJ:∀r,hv ae r->w.heap.size<=r/\r<C.heap.size:=λr y=>by obtain⟨h1,a2⟩:=b5 G y;omega
  have b7:∀r,hv Z r->r<C.heap.size:=λr y=>by obtain⟨h1,a2⟩:=b5 bl y;omega
  have bm:∀r,hv ae r\/hv Z r->¬ba r:=λr y c7=>by
   rcases a1.2.1 r c7 with h|h
   .rcases y with y|y
    .exact bA r (.inl y) h
    .exact bP.2.2 r y h
   .rcases y with y|y
    .have:=bJ r y;omega
    .have:=b7 r y;omega
  refine cJ _ ⟨c4,c6,bI,c1,(Grow.W (aS.F B)).F (a1.F ((Grow.W H).F ⟨au.Y λr _ y=>bG r y,λr y=>y.imp id And.left,λr y=>.inl y⟩)),?_,λr y=>.inl y,λr y=>?_⟩
  rotate_left
  .rcases y with y|y|y
   .exact .inl y
   .exact .inr (.inl y.1)
   .exact .inr (.inr (bJ r y.1).1)
  have b8:∀{v:x1}{be:Nat}{l:Λ},aH .i64 al ap be v l->(∀r,hv v r->¬ba r)->aH .i64 al aX be v l:=λhm c8=>bB hm au λr y V=>c8 r y (bG r V);have b9:∀r,bI r->r<ap.heap.size:=λr y=>by
   rcases y with y|y|y
   .have:=cS r y;omega
   .omega
   .omega
  refine⟨⟨.inl bX,λr y aK=>?_,λr y=>by have:=b9 r y;omega,λr y=>y.elim (λy=>by have:=bZ r y;omega) And.right⟩,bh,c2,ge,L++[a],E,bS,w0,bF,⟨cT,s3 (cU.F H) au λr o y aE V=>bH r V (b1 r o y aE),λr o y aE=>.inl (b1 r o y aE)⟩,⟨(cV.W H).aa au λr y V=>?_,λr y=>.inl (b2 r y),b3,λr y=>?_⟩,?_,⟨bc.aa bE λr y he=>?_,?_⟩,(bD.W H).aa au λr y V=>?_,?_⟩
  .have:=b9 r aK;rcases y with y|y
   .rcases aK with aK|aK|aK
    .exact bY r y aK
    .exact bm r (.inr aK.1) y
    .exact bm r (.inl aK.1) y
   .omega
  .rcases V with V|rfl
   .exact (aJ r (.inr (.inl V))).2 y
   .exact b3 y
  .rcases y with y|y|y
   .exact⟨.inl (aJ r (.inl y)).1,(aJ r (.inl y)).2⟩
   .obtain⟨h1,a2⟩:=bc.hv y;rcases c3 r y with h|h
    .exact⟨.inl (aJ r (.inr (.inl h))).1,(aJ r (.inr (.inl h))).2⟩
    .refine⟨.inr ⟨h,by have:=bE.size;omega⟩,λda=>?_⟩;have:=bZ r (b2 r da);omega
   .exact⟨.inl (aJ r (.inr (.inr y))).1,(aJ r (.inr (.inr y))).2⟩
  .rw[cg];exact bB (bC.W H) au λr y V=>by
    rcases V with V|rfl
    .obtain⟨rfl,c,aW⟩:=ej bb V;exact cv (bC.W H) aW Φ y rfl
    .exact cv (bC.W H) bd Φ y rfl
  .have he:r=af:=he;subst he;exact cw bc b6 Φ y
  .refine⟨by rw[o4,bi];simp[kz],λj x f J aT=>?_⟩;have aT:(s.d8++[⟨sc,am,1,cs⟩])[j]?=σ f:=aT;by_cases bw:j<s.d8.length
   .rw[V3 Ω]at J;rw[V3 bw]at aT;obtain⟨db,dc,dd⟩:=((((na.aa bg (H.aa λ_=>False) λ_ _ _ h=>h).aa au λr _ y V=>bH r V y).Y (R':=bI) λr y=>.inl y)).2 j x f J aT;exact⟨db,dc,by rw[cf j bw];exact dd⟩
   .have bK:j=s.d8.length:=by have:=(x5.1 aT).1;simp at this;omega
    rw[X1 Ω,bi,bK,V8]at J;rw[X1 Ω,bK,V8]at aT;cases J;cases aT;refine⟨⟨⟨_,b8 (aD.W H) λr y=>bm r (.inl y)⟩,λr y=>.inr (.inr ⟨y,?_⟩)⟩,⟨⟨_,b8 (cX.W H) λr y=>bm r (.inr y)⟩,λr y=>.inr (.inl ⟨y,?_⟩)⟩,?_⟩
    .have:=bJ r y;omega
    .have:=b7 r y;omega
    .rw[bK,ce]
  .rcases V with V|rfl
   .obtain⟨rfl,c,aW⟩:=ej bb V;exact cw (bD.W H) aW Φ y
   .exact cw (bD.W H) bd Φ y
  .exact ((n1.aa cW (H.aa λ_=>False) λ_ _ _ h=>h).aa au λr _ y V=>bH r V y).Y λr y=>.inl y
 have a6:=bt.W aS;have ca:=cd.W aS;have de:∀r,A r->r<w.heap.size:=h.1.2.2.2;obtain⟨_,⟨_,_,dF⟩,dG,dH⟩:=id bt;have dI:cs.length<=4096:=Ω
 have bn:∀{av:x4}{aU aV:x1}{X:Nat}{K:x1->x4->Prop},Ext aR av->aR.heap.size<=X->aH .i64 ax av X aU [1]->aQ .i64 av aV cs->
   (∀Q W C,Ext aR C->aj (λr=>r=X) av C->w.heap.size<=W->aH .i64 ax C W Q (1::cs)->(Ext aR C->K Q C))->aM x7 (c9 #[aC,aC] aC #[aU,aV]) av K:=by
  intro av aU aV X K z bo aw aG df;refine kN aC.u ax.i rfl aw aG Θ Θ λQ W C S M ay=>?_;have B:=z.put ay Ω;have dg:=z.size;exact df Q W C B ay Ω M B
 have aN:∀{v:x1}{be:Nat}{dh:o5}{e:r8}{di:x4}{l:Λ},aH dh e di be v l->w.heap.size<=be->∀r,hv v r->¬A r:=λhm dJ r y dj=>by
  obtain⟨h1,_⟩:=b5 hm y;have:=de r dj;omega
 refine⟨?_,?_⟩
 .refine (mL ca Ω).Y ?_;rintro ae dl _ ⟨N,a8,bW,G⟩;have z5:=N.size;refine⟨.inl N,?_,?_⟩
  .refine (q6 (a6.W N)).Y ?_;rintro _ cb _ ⟨rfl,O⟩;have Y:=N.F O;have dK:=Y.size;have dL:=O.size;have cc:=(a6.W N).W O;refine⟨.inl Y,?_,?_⟩
   .refine eI aC.u ax.i rfl λaU X av bo z aw=>?_;refine⟨.inl (Y.F z),?_⟩;refine(oK (cc.W z)).Y ?_;rintro aV bL _ ⟨P,bM,bN,aG⟩;have ai:=(Y.F z).F P;refine⟨.inl ai,?_⟩;refine bn ai Ω (aw.W P) aG.ls λQ W C B ay S M _=>⟨.inl B,?_⟩;have aD:=bB (((G.W O).W z).W P) ay λr y he=>by have he:r=X:=he;obtain⟨h1,a2⟩:=b5 G y;omega
    exact bj B Ω S aD M λr y=>y.elim (aN G Ω r) (aN M S r)
   .refine (oK cc).Y ?_;rintro aV av _ ⟨z,bM,bN,aG⟩;refine⟨.inl (Y.F z),?_⟩;have dg:=z.size;refine eI aC.u ax.i rfl λaU X bL bo P aw=>?_;have ai:=(Y.F z).F P;refine⟨.inl ai,?_⟩;refine bn ai Ω aw (aG.ls.W P) λQ W C B ay S M _=>⟨.inl B,?_⟩;have aD:=bB (((G.W O).W z).W P) ay λr y he=>by have he:r=X:=he;obtain⟨h1,a2⟩:=b5 G y;omega
    exact bj B Ω S aD M λr y=>y.elim (aN G Ω r) (aN M S r)
  .refine eI aC.u ax.i rfl λaU X cb bo O aw=>?_;have Y:=N.F O;refine⟨.inl Y,?_⟩;refine(q6 ((a6.W N).W O)).Y ?_;rintro _ av _ ⟨rfl,z⟩;have bf:=Y.F z;refine⟨.inl bf,?_⟩;refine(oK (((a6.W N).W O).W z)).Y ?_;rintro aV bL _ ⟨P,bM,bN,aG⟩;have ai:=bf.F P;refine⟨.inl ai,?_⟩;refine bn ai Ω ((aw.W z).W P) aG.ls λQ W C B ay S M _=>⟨.inl B,?_⟩;have aD:=bB (((G.W O).W z).W P) ay λr y he=>by have he:r=X:=he;obtain⟨h1,a2⟩:=b5 G y;omega
   exact bj B Ω S aD M λr y=>y.elim (aN G Ω r) (aN M S r)
 .refine eI aC.u ax.i rfl λaU X dl bo N aw=>?_;refine⟨.inl N,?_⟩;have z5:=N.size;have dM:=sM aw Ξ;refine(mL (ca.W N) Ω).Y ?_;rintro ae cb _ ⟨O,a8,bW,G⟩;have Y:=N.F O;refine⟨.inl Y,?_⟩;refine(q6 ((a6.W N).W O)).Y ?_;rintro _ av _ ⟨rfl,z⟩;have bf:=Y.F z;refine⟨.inl bf,?_⟩;refine(oK (((a6.W N).W O).W z)).Y ?_;rintro aV bL _ ⟨P,bM,bN,aG⟩;have ai:=bf.F P;refine⟨.inl ai,?_⟩;refine bn ai Ω (((aw.W O).W z).W P) aG.ls λQ W C B ay S M _=>⟨.inl B,?_⟩;have aD:=bB ((G.W z).W P) ay λr y he=>by have he:r=X:=he;obtain⟨h1,a2⟩:=b5 G y;omega
  exact bj B Ω S aD M λr y=>y.elim (aN G Ω r) (aN M S r)
theorem iF{P:W5}{t F:r8}{k:o5}{b g:Nat}{x:x1}{m:Λ}{K:x1->x4->Prop}(y:P.underlying t=σ (.slice e))(hi:aS P e 1 b z)(A:z.cells.size=1)(h:aH k e w g v l)(J:aQ k w x m)(B:(l.length+m.length)*b<=140737488355328)(C:l.length+m.length<=9223372036854775807)(E:∀a f I,aH k e I f a (l++m)->(∀r,hv a r->hv v r\/w.heap.size<=r)->aj (λr=>hv v r) w I->K a I):aM P (c9 #[t,t] F #[v,x]) w K:=by
 rcases h.2 with⟨ac,G⟩|⟨cap,cs,ac,M,N⟩
 .have H:=j6 G;subst H;have bg:aH k e w w.heap.size v []:=by grind [aH.nil]
  refine kN y hi A bg J B C λa f I j hm s=>E a f I hm (λr q=>.inr ?_) (s.Y Ω);obtain⟨L,_⟩:=b5 hm q;omega
 .refine kN y hi A h J B C λa f I j hm s=>E a f I hm (λr q=>?_) (s.Y λr q he=>⟨_,_,_,ac,he.symm⟩);obtain⟨L,_⟩:=b5 hm q;rcases j with j|j
  .exact .inl ⟨_,_,_,ac,by show g=r;omega⟩
  omega
def addVar(s:an)(u:Λ):an:={s with d7:=s.d7++[newVar u]}
theorem QX(s:an)(u:Λ):iR (addVar s u)=iR s++[((3+(s.d7.flatMap iE).length:Nat):Int)]:=by
 unfold iR addVar;rw[o4,S1,List.range_succ,Z2]
 grind [List.map_congr_left,ic]
theorem QY{s:an}{u:Λ}(ah:s.d8=[]):(addVar s u).cells=s.cells++(0::0::u):=by
 unfold an.cells addVar lD;simp only[ah,List.flatMap_nil,V2,List.flatMap_append,List.flatMap_singleton,X7];rfl
def fw(n:aI)(i j:Nat):an:=⟨n.zero,(n.unary.take i).map newVar,(n.d8.take j).map (m9 n.d6),[]⟩
theorem Fc{n:aI}{i:Nat}{u:Λ}(h:n.unary[i]?=σ u):fw n (i+1) 0=addVar (fw n i 0) u:=by
 grind [fw,addVar,u7]
theorem QZ{n:aI}{i:Nat}{g:cX}(h:n.d8[j]?=σ g):fw n i (j+1)=kz (fw n i j) g.1 (ci n.d6 g.1) g.2:=by
 unfold fw kz;simp only[u7,h,o8,Z2,List.map_singleton];rfl
theorem yJ(n:aI):fw n n.unary.length n.d8.length=dB n:=by
 grind [fw,dB]
theorem Fe{α β:Type}{f:α->List β}{b:Nat}:∀{L:List α},(∀x∈L,(f x).length<=b)->(L.flatMap f).length<=L.length*b
 :=by
 intro a;induction a<;>grind [T4]
theorem vD{n:aI}(a:kX n)(ah:n.d8.length<=256)(i j:Nat):(fw n i j).cells.length<=2000000:=by
 rw[yD];have h1:=Fe (f:=iE) (b:=34) (L:=(fw n i j).d7) λx J=>by
  obtain⟨u,hu,rfl⟩:=o9.1 (show x∈(n.unary.take i).map newVar from J);obtain⟨p,ae⟩:=Y4.1 (S4 hu);have s:=a.mc;have w:=(x5.1 ae).1;obtain⟨z,h⟩:=aK (l:=n.d6) (i:=p) Ω;have q:=(a.unary p z u h ae).1;have e:=a.d6.2.2 z (x6 h);show u.length+2<=34;omega
 have q:=Fe (f:=ib) (b:=4097) (L:=(fw n i j).d8) λx J=>by
  obtain⟨g,r,rfl⟩:=o9.1 (show x∈(n.d8.take j).map (m9 n.d6)from J);have e:=(a.d8 g (S4 r)).1;have y:=e.len;have A:=e.small;show g.2.length+1<=4097;omega
 have e:(fw n i j).d7.length<=64:=by
  show((n.unary.take i).map newVar).length<=64;rw[u9,j9];have:=a.mc;have:=a.d6.2.1;omega
 grind [fw]
def Plain(t:az):Prop:=t.marks=[]/\t.olds=[]/\eR t []/\t.ever=0
theorem Plain.set{t:az}(h:Plain t)(i:Nat)(x:Int):Plain (t.set i x):=⟨(az.yG _ _ _).F h.1,(az.yH h.1 _ _).F h.2.1,h.2.2.1.set,(az.E2 _ _ _).F h.2.2.2⟩
theorem Plain.lay{t:az}(h:Plain t)(l:Λ):Plain (oR t l):=⟨(s5 _ _ _).F h.1,(E7 h.1 _ _).F h.2.1,h.2.2.1.ie l _,(E5 _ _ _).F h.2.2.2⟩
theorem Plain.put{s:an}{t:az}(h:Plain t)(cs:Λ):Plain (p5 s t cs):=(h.lay _).set _ _
def Q0(w:x4)(R0:ak)(n:aI)(v:x1)(I:x4):Prop:=Ext w I/\∃af ag A R t,v=Γ af/\StateM I af ag A R n (dB n) t/\t.bT=(dB n).cells/\Plain t/\(∀r,A r->w.heap.size<=r)/\∀r,R r->R0 r\/w.heap.size<=r
theorem Q1{R0:ak}{z:Nat}{n:aI}(aw:gM w0 z n)(Z:Ext w0 w)(aU:∀r o,w0.heap[r]?=σ o->gf o=ms->R0 r)(cA:∀r,R0 r->r<w.heap.size)(B:kX n)(ah:n.d8.length<=256):aq x7 Bi [Γ z] w (Q0 w R0 n):=by
 have h:=aw.W Z;have cB:=B.mc;have cC:=B.d6.2.1;refine aF func61 ?_;rw[cT oy.u];simp only[l9,a6];refine(QH (n:=3) Ω).Y ?_;rintro _ U _ ⟨ac,ag,rfl,bw⟩;rw[dk (cs:=#[Γ z,Γ ag,.slice ν 0 0,.slice ν 0 0,.slice ν 0 0]) Ψ];refine bo λaf ab cD I M=>?_;have M:=M;have cE:=ac.size;have cF:=I.size;have cG:=M.lt;have bx:eZ ab af ag z (.slice ν 0 0) (.slice ν 0 0) (.slice ν 0 0) (λr=>r=af\/(w.heap.size<=r/\r<U.heap.size)) R0 n ⟨0,[],[],[]⟩ ⟨r9 3 ⟨0,0⟩,[],[],0⟩:=by
  refine⟨⟨.inl rfl,λr q bz=>?_,λr q=>?_,λr q=>?_⟩,0,0,0,[],[],λr=>w.heap.size<=r/\r<U.heap.size,w0,M,⟨aw,Z.F (ac.F I),aU⟩,⟨(bw.cut).W I,Ω,λq=>?_,λr q=>?_⟩,aH.nil _ _ _ _,⟨bn.nil _ _ _ _ _,rfl,by grind⟩,bn.nil _ _ _ _ _,rfl,by grind⟩
  .grind
  .grind
  .omega
  .omega
  .rcases q with q|q|q
   .obtain⟨a,cH,c,ay,cI⟩:=q;cases ay
   all_goals grind [gF]
 intro cJ N _ _;have bA:=bx.W N;rw[aL ch.p 1 (M.W N) rfl];refine(QQ (h.W ((ac.F I).F N))).Y ?_;rintro _ cK _ ⟨rfl,ad⟩;refine⟨.inl ad,?_⟩;have bC:=bA.W ad;obtain⟨aA,bD,bE⟩:=bC.s4;refine(vw bD rfl Φ ⟨Ξ,Ξ,Ξ⟩).Y ?_;rintro _ bF _ ⟨_,bG,bH,bI⟩;obtain⟨bJ,aV,aB⟩:=bE bG bF _ bH bI;have aB:=aB.same (E0 ⟨0,[],[],[]⟩ n.zero);have z3:=N.size;have z4:=ad.size;have bK:=((ac.F I).F N).F ad;have aW:=bK.then aV.1 Ω;refine(yE (h.W aW)).Y ?_;rintro _ cL _ ⟨rfl,aX⟩;refine b6.range n.d6.length (λi ae=>∃A C t,Ext w ae/\eZ ae af ag z C (.slice ν 0 0) (.slice ν 0 0) A R0 n (fw n i 0) t/\t.bT=(fw n i 0).cells/\Plain t/\∀r,A r->w.heap.size<=r) Ω
  ⟨bJ,_,_,aW.F aX,aB.W aX,?_,?_,λr q=>?_⟩ ?_ ?_
 .rw[az.r7];rfl
 .exact Plain.set ⟨rfl,rfl,⟨rfl,rfl,λc s=>by rw[(List.mem_replicate.1 s).2];exact p9 _,X9 _⟩,rfl⟩ _ _
 .rcases aV.2.1 r q with he|he
  all_goals omega
 .rintro i ae bL hi ⟨A,C,t,H,aD,a1,O,aE⟩ bN;obtain⟨u,hu⟩:=aK (l:=n.unary) (i:=i) Ω;obtain⟨a2,a7⟩:=aK (l:=n.d6) (i:=i) Ω;have cM:u.length<=32:=by
   have cN:=(B.unary i a2 u a7 hu).1;have cO:=B.d6.2.2 a2 (x6 a7);omega
  refine bM Ω ?_;refine(EX (h.W H) B).Y ?_;rintro cP cQ _ ⟨bO,_,bP⟩;obtain⟨cR,cS,bQ⟩:=bP u Ω (by rw[u5];exact hu);intro a8 ba _ _;have aG:=bO.F ba;have bb:=aD.W aG;obtain⟨⟨_,_,_,bc⟩,bh,bd,ge,L,E,aA,w0,ai,_⟩:=id bb;have cU:=aG.size;have cV:=H.size;rw[aL ch.p 2 ai rfl];refine nR (l:=[0,0]) aC.u ax.i Ω rfl Ψ λbS cW cX cY am be=>?_;refine⟨.inl am,?_⟩;refine iF aC.u ax.i rfl be ((bQ.W ba).ls.W am) Θ Θ λbU cZ c0 bV bW bX=>?_;have c1:∀r,hv bS r->a8.heap.size<=r:=λr q=>by obtain⟨ay,_⟩:=b5 be q;omega
  have an:=am.then bX (by grind);refine⟨.inl an,?_⟩;have bY:=bb.W an;have c2:∀r,hv bU r->a8.heap.size<=r:=λr q=>by
   rcases bW r q with h|h
   .grind
   .have:=am.size;omega
  have bZ:t.cells.length<=2000000:=by
   grind [vD,az.bT]
  have b0:t.olds.length=0:=by rw[O.2.1];rfl
  have b1:t.marks.length=0:=by rw[O.1];rfl
  refine(Fb bY bV.ls (by grind) Θ Θ Ω).Y ?_;rintro _ c3 _ ⟨rfl,_,aJ,aM,b2⟩;obtain⟨⟨b3,c4,c5,c6⟩,bh,bd,ge,L,E,aA,w0,ai,⟨b4,b7,b8⟩,⟨b9,c7,ca,c8⟩,cb,⟨cd,ce⟩,cf,cg⟩:=id b2;refine⟨.inr (vB ai (λK=>by rw[aY ch.p rfl]) Ψ rfl),?_⟩;refine eI av.u al.i rfl λc9 da bf db y ci=>?_;have aN:=ai.W y;refine⟨.inr (vB aN (λK=>by rw[aY ch.p rfl]) Ψ rfl),?_⟩;have dc:(iR (fw n i 0)).length=i:=by
   grind [iR,fw]
  have bg:=cb.W y;refine iF av.u al.i rfl bg ci.ls (by grind) (by grind) λcj ck dd P de bi=>?_;have bj:=aN.aa bi λhe=>cv bg aN Φ he rfl;rw[bR,aY ch.p rfl];refine bs av.i P.ls.cells.1 P.ls.cells.2 bj Ξ λbk bl df aO=>?_;have aO:=aO;rw[aR];have s:aj (λr=>hv C r\/r=af) bf bk:=(bi.Y (by grind)).F (bl.Y Ω);have dg:=an.size;have z12:=aM.1.size;have dh:=y.size;have di:=s.size;have dj:∀r,aJ r->w.heap.size<=r:=λr q=>(aM.2.1 r q).elim (aE r) Ω;have dl:∀r,(hv C r\/r=af)->aJ r:=by grind
  have dm:(fw n (i+1) 0).cells=(fw n i 0).cells++(0::0::u):=by rw[Fc hu];exact QY rfl
  have cl:t.cells.length=3+((fw n i 0).d7.flatMap iE).length:=by
   grind [yD,az.bT,fw]
  refine bN _ ⟨λr=>aJ r\/(bf.heap.size<=r/\r<bk.heap.size),cj,oR t ([0,0]++u),?_,⟨⟨.inl b3,λr q bz=>?_,by grind,λr q=>?_⟩,ck,bd,ge,L,E,aA,w0,aO,⟨b4,s3 (b7.F y) s (by grind),b8⟩,⟨(b9.W y).aa s λr q V=>?_,by grind,ca,λr q=>?_⟩,?_,⟨(cd.W y).aa s λr q V=>?_,?_⟩,(cf.W y).aa s λr q V=>?_,?_⟩,?_,O.lay _,λr q=>?_⟩
  .exact ((H.F (aG.F an)).then aM.1 (by grind)).F y |>.then s (by grind)
  .grind
  .grind
  .grind
  .rcases q with q|q|q
   .have dn:=(b5 P q)
    grind
   all_goals grind
  .rw[Fc hu,QX,<-cl];exact bB P bl λr q he=>by
    have he:r=af:=he;subst he;exact cv P bj Φ q rfl
  .grind [gF]
  .refine⟨ce.1,λj x f J aQ=>?_⟩;have aQ:((n.d8.take 0).map (m9 n.d6))[j]?=σ f:=aQ;simp at aQ
  .grind [gF]
  .refine⟨cg.1,λj x e J he=>?_⟩;have he:([]:List vx)[j]?=σ e:=he;simp at he
  all_goals grind [E9]
 .rintro ae bL ⟨A,C,t,H,aD,a1,O,aE⟩;refine cc Ω ?_;refine(EW (h.W H)).Y ?_;rintro _ dp _ ⟨rfl,bm⟩;refine b6.range n.d8.length (λj Q=>∃A R ao t,Ext w Q/\eZ Q af ag z C ao (.slice ν 0 0) A R n (fw n n.d6.length j) t/\t.bT=(fw n n.d6.length j).cells/\Plain t/\(∀r,A r->w.heap.size<=r)/\∀r,R r->R0 r\/w.heap.size<=r) Ω
   ⟨A,_,_,t,H.F bm,aD.W bm,a1,O,aE,by grind⟩ ?_ ?_
  .rintro j Q cm cn ⟨A,R,ao,t,G,S,ap,W,bp,bq⟩ cp;obtain⟨g,au⟩:=aK (l:=n.d8) cn;have aS:=(B.d8 g (x6 au)).1;refine bM Ω ?_;refine(QR (h.W G) B au).Y ?_;rintro aZ dq _ ⟨X,gs,dr,br⟩;refine(QT aw (Z.F (G.F X)) au).Y ?_;rintro _ ds _ ⟨Y,gt,dt,cq,rfl,du,dv,cr,bt⟩;have z0:=Z.size;have dw:∀r,hv cq r->r<w.heap.size:=λr q=>by obtain⟨c,aT⟩:=bt r q;have:=aT.lt;omega
   have ct:=(S.W X).W Y;have bc:∀r,A r->r<Q.heap.size:=S.1.2.2.2;have dx:=X.size;have bZ:t.cells.length<=2000000:=by
    grind [vD,az.bT]
   have b0:t.olds.length=0:=by rw[W.2.1];rfl
   have b1:t.marks.length=0:=by rw[W.1];rfl
   have dy:g.2.length<=4096:=by have:=aS.len;have:=aS.small;omega
   have dz:=aS.scope.2;refine(QW (sc:=g.1) ct ap (br.ls.W Y) (λr q cu=>by have:=bc r cu;obtain⟨ay,_⟩:=b5 br q;omega) cr (by grind) Ω Ω Ω Ω ?_).Y ?_
   .show ((n.d8.take j).map (m9 n.d6)).length<=_
    grind
   rintro _ dA _ ⟨rfl,_,aP,R',cw,bu,dC,dD,cz⟩;rw[aR];have dE:=QZ (i:=n.d6.length) au;refine cp _ ⟨aP,R',cw,p5 (fw n n.d6.length j) t g.2,((G.F X).F Y).then bu.1 (by grind),?_,?_,W.put _,λr q=>?_,λr q=>?_⟩
   .grind
   .grind [QV]
   .rcases bu.2.1 r q with h|h
    .grind
    .have:=G.size;have:=Y.size;omega
   .rcases cz r q with h|h|h
    .grind
    .exact .inl (by obtain⟨c,aT⟩:=bt r h;exact aU r _ aT rfl)
    .exact .inr (by have:=G.size;have:=X.size;have:=Y.size;omega)
  .rintro Q cm ⟨A,R,ao,t,G,S,ap,W,bp,bq⟩;refine cc Ω ?_;have e:fw n n.d6.length n.d8.length=dB n:=by grind [yJ]
   rw[e]at S ap;exact⟨G,af,ag,A,R,t,rfl,⟨z,C,ao,_,S⟩,ap,W,bp,bq⟩
theorem Q2(M:Bytes l)(W:l.length<=100000):aq x7 KB [ce l] w λv I=>v=l5 l/\Ext w I:=by
 refine aF func179 ?_;refine jw (λae af U=>Ext w U/\∃(m:Λ)(s:Int),ae=ce m/\af=Δ s/\Bytes m/\m.length<=100000/\q1 l m s) ?_ ?_
 .rintro _ _ U ⟨N,m,s,rfl,rfl,H,ay,K⟩;rw[pO de.u,bl,ao];refine⟨λO=>?_,λO=>?_⟩
  .have P:m=[]:=j6 Ω;exact⟨by rw[uI K (by rw[P];rfl)],N⟩
  have P:m≠[]:=λh=>O (by rw[h];rfl);refine rO.range m.length (λi _ _ Q R f=>Ext U f/\∃(n:Int)(a:Bool),Q= .int .u64 n/\R= .bool a/\oD n a ((m.take i).foldl fT 0)/\(m.take i).all gX=ms) Ω ⟨Ext.refl _,0,ne,rfl,rfl,Mq,rfl⟩ ?_ ?_
  .rintro i ag t3 _ _ f ai hi ⟨B,n,a,rfl,rfl,q,C⟩ aj;obtain⟨b,r⟩:=aK (l:=m) hi;have az:=H b (x6 r);rw[pO de.u];refine bM Ω ?_;refine Cm (λ_ _ Q R j=>Ext U j/\∃(n:Int)(a:Bool),Q= .int .u64 n/\R= .bool a/\oD n a ((m.take (i+1)).foldl fT 0)/\(m.take (i+1)).all gX=ms) ?_ ?_
   .rintro aB aC a3 a4 j ak;rw[aR];exact aj _ _ _ _ _ ak
   intro aA z;refine a1 (λv j=>f=j/\v= .bool (!gX b)) ?_ ?_
   rotate_left
   .intro S e;rw[sa rfl de.u H r,aW,ao];refine⟨λh=>e _ _ ⟨rfl,by unfold gX;rw[m5 Ω];rfl⟩,λh=>?_⟩;rw[sa rfl de.u H r,bU];refine e _ _ ⟨rfl,?_⟩;unfold gX;congr 1;by_cases X:57<b
    .rw[m3 X,m5 Ω];rfl
    .rw[m5 X,m3 Ω];rfl
   rintro _ _ ⟨rfl,rfl⟩;cases V:gX b with
   |false=>
    rw[X4,bK];exact⟨by rw[uI K (Da r V)],N.F B⟩
   |true=>
    rw[Y1,a6];have al:=m7 V;have L:=Mp q al;rw[C8 r,C7 r,C,V]at z;have am:=q.1;have an:=q.2.1;refine a1 (λv j=>f=j/\v= .bool (a||decide (461168601842738790<n))) ?_ ?_
    rotate_left
    .intro S e;rw[bU,ao];refine⟨λh=>e _ _ ⟨rfl,by rw[m3 h,Bool.or_true]⟩,λh=>e _ _ ⟨rfl,by rw[m5 h,Bool.or_false]⟩⟩
    rintro _ _ ⟨rfl,rfl⟩;by_cases E:a=ms\/461168601842738790<n
    .have ah:(a||decide (461168601842738790<n))=ms:=by rcases E with h|h<;>simp[h]
     rw[lw E,ah]at L;rw[ah,bE,Y1,a6];exact z _ _ _ _ _ ⟨B,n,ms,rfl,rfl,L,rfl⟩
    .have ah:(a||decide (461168601842738790<n))=ne:=by
      cases a with
      |true=>exact m2 (.inl rfl) E
      |false=>simp;omega
     rw[m1 E,ah]at L;have aD:¬461168601842738790<n:=λh=>E (.inr h);rw[ah,bE,X4,bK,iv,sa rfl de.u H r,c5,wrap_u8 Ω Ω,fN cS.u fL.u,lc Ω Ω,lc Ω Ω,aR,lc Ω Ω];exact z _ _ _ _ _ ⟨B,_,ne,rfl,rfl,L,rfl⟩
  .rintro ag t3 _ _ f ai ⟨B,n,a,rfl,rfl,q,C⟩;rw[o6]at C q;rw[pO de.u];refine cc Ω ?_;have Y:=Mr q;have am:=q.1;have an:=q.2.1;have ap:∀{x:Int},x=m.foldl fT 0->0<=x->x<=4611686018427387904->(ad x7 (convert fL ax (.int .u64 x)) f λau=>
     ad x7 (aU .mul ax ne ne (Δ s) au) f λav=>(λv I=>v=l5 l/\Ext w I) (.tuple #[av,(Δ 0)]) f):=by
    intro x J O h1;rw[fN fL.u ax.u,hx Ω Ω,iv];have hw:X3.wrap (s*x)=s*x:=by
     rcases K.1 with rfl|rfl<;>exact hx Ω Ω
    rw[hw];refine⟨?_,N.F B⟩;rw[Dd K (C9 P C),J]
   refine a1 (λv j=>f=j/\v= .int .u64 (m.foldl fT 0)) ?_ ?_
   .rintro _ _ ⟨rfl,rfl⟩;have Z:=xx C ⟨S8 _,Φ⟩;exact ap rfl Z.1 Z.2
   intro S e;refine a1 (λv j=>f=j/\v= .bool (a||decide (4611686018427387904<n))) ?_ ?_
   .rintro _ _ ⟨rfl,rfl⟩;rw[b1];refine⟨λh=>e _ _ ⟨rfl,?_⟩,λh=>e _ _ ⟨rfl,?_⟩⟩
    .have bg:a=ms\/4611686018427387904<n:=by simpa using h
     rw[Y,lw bg]
    .have bg:¬(a=ms\/4611686018427387904<n):=by
      intro G;rcases G with G|G
      .simp[G]at h
      .simp[G]at h
     rw[Y,m1 bg]
   .intro aE aa;cases a with
    |true=>rw[bK];exact aa _ _ ⟨rfl,rfl⟩
    |false=>rw[a6,bU];exact aa _ _ ⟨rfl,by rw[Bool.false_or]⟩
 .intro aA z;refine a1 (λv ab=>w=ab/\∃c:Bool,v= .bool c/\(c=ms↔l[0]?=σ 45)) ?_ ?_
  .rintro _ _ ⟨rfl,c,rfl,ac⟩;rw[b1];refine⟨λaw=>?_,λah=>?_⟩
   .obtain⟨m,rfl⟩:∃m,l=45::m:=by
     have:=ac.1 aw;cases l with
     |nil=>simp at this
     |cons x m=>exact⟨m,by simp at this;rw[this]⟩
    rw[Cq (y:=1) (i:=1) rfl de.u Ξ];exact z _ _ _ ⟨Ext.refl _,m,-1,rfl,rfl,λb A=>M b (.tail _ A),by simp at W;omega,Db⟩
   .refine z _ _ _ ⟨Ext.refl _,l,1,rfl,rfl,M,W,Dc λb A he=>?_⟩;subst he;have:=ac.2 A;rw[ah]at this;cases this
  .intro S e;rw[pO de.u,bU,ao];refine⟨λh=>?_,λh=>e _ _ ⟨rfl,ne,rfl,?_⟩⟩
   .obtain⟨b,A⟩:=aK (l:=l) (i:=0) Ω;rw[sa (y:=0) rfl de.u M A,bl];refine e _ _ ⟨rfl,_,rfl,?_⟩;rw[m6,A];exact⟨λh=>by rw[h],λh=>Z4 h⟩
   .have:l=[]:=j6 Ω;subst this;simp
theorem Q3{s:Go.Sem x1}(h:ad x7 s w λu=>u=v)(hk:K v):ad x7 s w K:=by
 obtain⟨u,h1,rfl⟩:=h;exact⟨u,h1,hk⟩
abbrev jr:Type:=Λ×Int
def iG(x:jr):List x1:=[ce x.1,Δ x.2]
theorem yK(x:jr):∀u∈iG x,u.oneCell'=ms:=by
 intro u hu;simp[iG]at hu;rcases hu with rfl|rfl<;>rfl
def kA(w:x4)(v:x1)(L:List jr):Prop:=cn w 2 v L.length (L.flatMap iG)
theorem yL{g:Nat}{L:List jr}(h:bn iG 2 cD w g v L):kA w v L:=h.sl
theorem Ff{L:List jr}{a:r8}(h:kA w v L):ad x7 (W7 #[fM] a #[v]) w K=K (Δ (L.length:Int)):=by
 obtain⟨_,_,_,_,_,rfl,_⟩:=h;exact je fM.u
theorem Q4{k:Nat}(h:cn w k v n cs)(f:aj S w I)(q:∀r,hp v r->¬S r):cn I k v n cs:=by
 obtain⟨h1,b,o,base,cap,rfl,s,x,e,y⟩:=h;refine⟨h1,b,o,base,cap,rfl,s,x,e,?_⟩;rcases Nat.eq_zero_or_pos n with a|a
 .have:cs=[]:=j6 (by rw[h1,a,Nat.zero_mul]);subst this;intro j v ac;simp at ac
 .have z:=e a;exact iu f (q b ⟨⟨b,o,ν⟩,n,cap,by rw[z],rfl⟩) y
theorem kA.aa{L:List jr}(h:kA w v L)(a:aj S w I)(e:∀r,hp v r->¬S r):kA I v L:=Q4 h a e
theorem Fg{x:jr}{L:List jr}(h:kA w v (x::L))(a:∀b o,w.rangeAt b o (iG x)->K (.pointer (σ ⟨b,o,ν⟩))):ad x7 (n9 fM v (Δ 0)) w K:=by
 obtain⟨_,b,o,base,cap,rfl,_,_,e,f⟩:=h;have:=fq (P:=x7) (w:=w) (K:=K) (k:=.i64) (c:=cap) fM.u cD.i (show 0<(x::L).length by simp) e;rw[show((0:Nat):Int)=0 from rfl]at this;rw[this];refine a _ _ λj u hu=>?_;have q:=(x5.1 hu).1;rw[Nat.zero_mul,Nat.add_zero];exact f j u (by rw[U2,V3 q];exact hu)
theorem Q5{x:jr}{L:List jr}(h:kA w v (x::L))(y:∀j,(∀I,kA I v (x::L)->kA I j L)->(∀r,hp j r->hp v r)->K j):ad x7 (V5 fM v (σ (Δ 1)) ν ν) w K:=by
 have C:=h;obtain⟨_,b,o,base,cap,rfl,E,_⟩:=h;rw[gW fM.u cD.i (pC 1 1 rfl) kp fc Ξ Ω (p9 _)];refine y _ (λI z=>?_) λr A=>?_
 .have:=cn.part (l:=1) (h:=(x::L).length) (m:=cap) z Ξ (p9 _) Ω (p9 _);have e:(((x::L).flatMap iG).drop (1*2)).take (((x::L).length-1)*2)=L.flatMap iG:=by
   rw[U2];have B:(L.flatMap iG).length=L.length*2:=iO λ_ _=>rfl;show(L.flatMap iG).take _=_;rw[j4 (by rw[B,X5,Nat.add_sub_cancel];exact p9 _)]
  rw[e]at this;exact this
 .obtain⟨a,n,c,f,s⟩:=A;split at f
  .cases f;exact⟨_,_,_,rfl,s⟩
  .cases base with
   |none=>cases f
   |some q=>cases f;exact⟨_,_,_,rfl,s⟩
theorem Q6{g:Nat}{L:List jr}(z:y=(n:Int))(h:bn iG 2 cD w g v L)(A:n<=L.length)(B:∀s,kA w s (L.take n)->(∀r,hp s r->hp v r)->K s):ad x7 (V5 fM v ν (σ (Δ y)) ν) w K:=by
 have C:=yL h;obtain⟨_,b,o,base,cap,rfl,G,_⟩:=h.sl;rw[gW fM.u cD.i ko (pD n y z) fc (X9 _) Ω (p9 _)];refine B _ ?_ λr E=>?_
 .have:=cn.part (l:=0) (h:=n) (m:=cap) C (X9 _) A Ω (p9 _);have e:((L.flatMap iG).drop (0*2)).take ((n-0)*2)=(L.take n).flatMap iG:=by
   rw[Nat.zero_mul,List.drop_zero,Nat.sub_zero,sD (f:=iG) n λ_ _=>rfl]
  rw[e]at this;have F:(L.take n).length=n-0:=by rw[j9];omega
  unfold kA;rw[F];exact this
 .obtain⟨a,n,c,j,x⟩:=E;split at j
  .cases j;exact⟨_,_,_,rfl,x⟩
  .cases base with
   |none=>cases j
   |some q=>cases j;exact⟨_,_,_,rfl,x⟩
def Q7(w:x4)(pl:Λ)(v:x1)(I:x4):Prop:=Ext w I/\∃a L,∃bad:Int,v= .tuple #[a,Δ bad]/\kA I a L/\L.map (·.1)=(lex pl).1/\(0<=bad↔(lex pl).2=ne)/\(∀r,hp a r->w.heap.size<=r)/\∀r,hp a r->∃c,ai I r cD c
theorem Q8{p:x1}{pl:Λ}(ae:aQ .u8 w p pl)(ax:Bytes pl)(ba:pl.length<=65536):aq x7 JO [p] w (Q7 w pl):=by
 refine aF func116 ?_;rw[a7 cU.u ae];refine rO.range pl.length (λi _ _ z H U=>Ext w U/\∃g L,∃(j:List (Λ))(A:Λ)(op:Bool),H= .bool op/\bn iG 2 cD U g z L/\L.map (·.1)=(if op then j++[A]else j)/\(op=ms->A.length<=i)/\L.length<=i/\kq (pl.drop i) j A op=lex pl/\∀r,hp z r->w.heap.size<=r) ae.le
  ⟨Ext.refl _,0,[],[],[],ne,rfl,bn.nil _ _ _ _ _,rfl,(λh=>by cases h),p9 _,MN pl,λr B=>(gF B).elim⟩ ?_ ?_
 rotate_left
 .rintro ay t3 z H U az ⟨E,g,L,j,A,op,rfl,C,y,_,_,q,G⟩;refine cc Ω ?_;rw[List.drop_length]at q;have q:(if op then j++[A]else j,ms)=lex pl:=q;exact⟨E,z,L,-1,rfl,yL C,by rw[y,<-q],by rw[<-q];simp,G,λr B=>by obtain⟨rfl,c,W⟩:=ej C B;exact⟨c,W⟩⟩
 rintro i ay t3 z H U az hi ⟨E,g,L,j,A,op,rfl,C,y,aj,bb,q,G⟩ aB;obtain⟨b,X⟩:=aK (l:=pl) hi;have bc:=ax b (x6 X);have ak:pl.drop i=b::pl.drop (i+1):=by rw[Y8 hi,(x5.1 X).2]
 rw[ak]at q;unfold kq at q;refine bM Ω ?_;refine Cm (λ_ _ z H Y=>Ext w Y/\∃g L,∃(j:List (Λ))(A:Λ)(op:Bool),H= .bool op/\bn iG 2 cD Y g z L/\L.map (·.1)=(if op then j++[A]else j)/\(op=ms->A.length<=i+1)/\L.length<=i+1/\kq (pl.drop (i+1)) j A op=lex pl/\∀r,hp z r->w.heap.size<=r) ?_ ?_
 .rintro bd be a3 a4 Y aC;rw[aR];exact aB _ _ _ _ _ aC
 intro aA al;rw[bm cU.u cS.i Ψ (ae.W E) X];refine a1 (λv I=>U=I/\v= .bool (cW b)) ?_ ?_
 rotate_left
 .intro Z s;unfold cW at s;rw[bl,ao];refine⟨λh=>s _ _ ⟨rfl,by rw[m3 (.inl h)]⟩,λh1=>?_⟩;rw[bl,ao];refine⟨λh=>s _ _ ⟨rfl,by rw[m3 (.inr (.inl h))]⟩,λQ=>?_⟩;rw[bl,ao];refine⟨λh=>s _ _ ⟨rfl,by rw[m3 (.inr (.inr (.inl h)))]⟩,λaE=>?_⟩;rw[bl];refine s _ _ ⟨rfl,?_⟩;congr 1;rw[U1,m6,m6];exact⟨λh=>.inr (.inr (.inr h)),λh=>by rcases h with h|h|h|h;exact m2 h h1;exact m2 h Q;exact m2 h aE;exact h⟩
 rintro _ _ ⟨rfl,rfl⟩;cases V:cW b with
 |true=>
  rw[bK];rw[lw V]at q;exact al _ _ _ _ _ ⟨E,g,L,_,[],ne,rfl,C,y,(λh=>by cases h),Ω,q,G⟩
 |false=>
  rw[a6];rw[m1 (by rw[V];simp)]at q;refine a1 (λv I=>U=I/\v= .bool (!ca b)) ?_ ?_
  rotate_left
  .intro Z s;unfold ca at s;rw[aW,ao];refine⟨λh=>s _ _ ⟨rfl,by rw[m5 Ω];rfl⟩,λh=>?_⟩;rw[bU];refine s _ _ ⟨rfl,?_⟩;by_cases Q:126<b
   .rw[m3 Q,m5 Ω];rfl
   .rw[m5 Q,m3 Ω];rfl
  rintro _ _ ⟨rfl,rfl⟩;cases hw:ca b with
  |false=>
   rw[X4,bK];rw[m1 (by rw[hw];simp)]at q;refine a1 (λv I=>U=I/\∃R,kA U v R/\R.map (·.1)=j/\(∀r,hp v r->w.heap.size<=r)/\∀r,hp v r->hp z r) ?_ ?_
   .rintro v _ ⟨rfl,R,aa,aG,S,aH⟩;exact⟨E,v,R,(i:Int),rfl,aa,by rw[aG,<-q],by rw[<-q];simp,S,λr B=>by obtain⟨rfl,c,W⟩:=ej C (aH r B);exact⟨c,W⟩⟩
   .intro Z s;cases op with
    |false=>
     rw[a6];rw[m1 Ξ]at y;exact s _ _ ⟨rfl,L,yL C,y,G,λ_ h=>h⟩
    |true=>
     rw[bK];rw[lw rfl]at y;have ab:L.length=j.length+1:=by have:=congrArg List.length y;simpa using this
     rw[dO fM.u C,c5,hx Ω Ω];refine Q6 (n:=j.length) Ω C Ω λN aa S=>s _ _ ⟨rfl,_,aa,?_,λr B=>G r (S r B),S⟩;rw[List.map_take,y,List.take_left]
  |true=>
   rw[Y1,a6];rw[lw hw]at q;refine a1 (λz ac=>Ext w ac/\∃g M,∃x:jr,bn iG 2 cD ac g z (M++[x])/\M.map (·.1)=j/\x.1=(if op then A else[])/\(M++[x]).length<=i+1/\∀r,hp z r->w.heap.size<=r) ?_ ?_
   .rintro bf ac ⟨am,aI,M,x,aJ,aL,J,aM,an⟩;intro af ag _ _;have O:=aJ.W ag;have ap:(M++[x])[M.length]?=σ x:=Ξ
    have bg:(M++[x]).length=M.length+1:=Ξ
    rw[dO fM.u O,c5,hx Ω Ω,cf (i:=M.length) Ω fM.u cD.i O Ω,aY cD.p rfl,aD (o:=M.length*2+0) Ψ (O.range ap 0 _ rfl),aR,hx Ω Ω];obtain⟨bh,au⟩:∃N,aQ .u8 af N [b]/\ad x7 (V5 cU p (σ (Δ (i:Int))) (σ (Δ ((i:Int)+1))) ν) af (λv=>v=N):=by
     have aN:=ae.W (am.F ag);have:=uz (P:=x7) (low:=σ (Δ (i:Int))) (high:=σ (Δ ((i:Int)+1))) (K:=λv=>aQ .u8 af v [b]) cU.u cS.i aN (pC i _ rfl) (pD (i+1) ((i:Int)+1) Ω) Ω Ω λN av=>by
      have e:((ints .u8 pl).drop (i*1)).take ((i+1-i)*1)=ints .u8 [b]:=by
       simp only[T1,show i+1-i=1 by omega];rw[ints,<-List.map_drop,<-List.map_take,ak];rfl
      rw[e]at av;exact aQ.of av
     obtain⟨v,aO,aP⟩:=this;exact⟨v,aP,v,aO,rfl⟩
    refine Q3 au.2 ?_;have bi:x.1.length<=65536:=by
     rw[J];cases op with
     |true=>rw[lw rfl];have:=aj rfl;omega
     |false=>simp
    rw[xA cU.u cS.u de.u au.1,xz Θ,cf (i:=M.length) Ω fM.u cD.i O Ω,aY cD.p rfl];refine lv (a':=(x.1++[b],x.2)) de.i rfl rfl O ap rfl Ω λbj aS bk aw=>?_;have e:(M++[x]).set M.length (x.1++[b],x.2)=M++[(x.1++[b],x.2)]:=by
     rw[U9 _ _ (p9 _),V8];rfl
    rw[e]at aw;refine al _ _ _ _ _ ⟨(am.F ag).then aS (λr B he=>by have:=an r he;omega),aI,_,j,x.1++[b],ms,rfl,aw,by rw[Z2,aL];rfl,λ_=>?_,by simp at aM ⊢;omega,?_,an⟩
    .rw[o4,J];cases op with
     |true=>rw[lw rfl];have:=aj rfl;simp;omega
     |false=>simp
    .rw[<-q,J];cases op with
     |true=>rfl
     |false=>rfl
   .intro Z s;cases op with
    |true=>
     rw[bE,Y1,a6];rw[lw rfl]at y;have ab:L.length=j.length+1:=by have:=congrArg List.length y;simpa using this
     obtain⟨M,x,rfl⟩:∃M x,L=M++[x]:=by
      have:L≠[]:=λh=>by rw[h]at ab;simp at ab
      exact⟨L.dropLast,L.getLast this,(List.dropLast_concat_getLast this).symm⟩
     rw[Z2]at y;obtain⟨aT,ah⟩:=List.append_inj' y Ξ;refine s _ _ ⟨E,g,M,x,C,aT,?_,Ω,G⟩;rw[lw rfl];have ah:[x.1]=[A]:=ah;exact(List.cons.inj ah).1
    |false=>
     rw[bE,X4,bK];rw[m1 Ξ]at y;rw[dk (cs:=#[ce [],Δ (i:Int)]) Ψ];refine jk (f:=iG) (a:=(([],(i:Int)):jr)) fM.u cD.i Ω rfl rfl λv9 bo bp bq ai aU=>?_;have aV:=C.W ai;refine jH fM.u cD.i rfl aV (by simpa using aU.sl) (yK _) Ω Ω λN aX br aZ a2 a8=>?_;have bs:=E.size;have z9:=ai.size;refine s _ _ ⟨(E.F ai).then a8 (λr B he=>by have:=G r he;omega),aX,L,_,aZ,y,rfl,Θ,λr B=>?_⟩;rcases a2 r B with h|h
     .exact G r h
     .omega
end Go.Proofs.YtlcdcbgoaljiiaaGreatDoor
