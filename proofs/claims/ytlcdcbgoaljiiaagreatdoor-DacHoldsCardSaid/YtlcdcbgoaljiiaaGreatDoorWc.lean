/- own texts, made small by a tool (wip/ holds them as they were written): no statement of the seat. -/
import Derived.Test.YtlcdcbgoaljiiaaGreatDoorWb
set_option linter.unusedVariables false
set_option linter.unusedSimpArgs false
set_option linter.unnecessarySimpa false
open Array renaming getElem?_eq_some_iff→Y2
open Bool renaming false→sp,true→s2,not_true→Y5,not_false→X6,eq_iff_iff→V9,or_eq_false_iff→T3
open Decidable renaming not_not→X1
open Go renaming Value→x4,World→x5,TypeId→o4,IntKind→o8,Builtin→Z0,Program→W0,FuncId→S8
open Go.Addr renaming add_mid→U8
open Go.Builtin renaming append_→b9,len_→X8
open Go.Instr renaming loadAt→u5,fieldAt→u6,storeAt→o7,indexAt→n9,extract→Z7,buildSlice→Y4,sliceAt→V5,alloc→R3
open Go.IntKind renaming i64→X5
open Go.Proofs.Tryz renaming prog→x8
open Go.Value renaming int→V3
open Int renaming toNat_natCast→u7,le_refl→S5
open List renaming getElem?_eq_some_iff→x6,mem_of_getElem?→x7,getElem?_eq_getElem→v8,getElem?_map→u4,take_add_one→u9,getD_eq_getElem?_getD→r8,length_map→r9,replicate→o5,take_length→o9,mem_map→l9,mem_append→j5,eq_nil_of_length_eq_zero→j6,take_of_length_le→j9,length_append→c9,map_append→Z2,length_take→Z3,getElem?_set_self→Z6,length_set→Z9,mem_singleton→Y1,ext_getElem?→Y3,mem_iff_getElem?→Y8,getElem?_set_ne→Y9,range→X0,getElem?_append_right→X2,drop_eq_getElem_cons→X4,getElem?_set→X7,length_eq_one_iff→W3,length_cons→W5,getElem?_eq_none→W8,getElem?_take_of_lt→V1,getElem?_append_left→V6,pairwise_iff_getElem→U1,map_set→U2,mem_or_eq_of_mem_set→U5,set_append_right→U7,flatMap_cons→T0,append_assoc→T1,append_nil→T4,Perm→T9,getElem_mem→S2,mem_filter→S6,mem_of_mem_take→R2
open Nat renaming le_refl→o6,le_trans→X3,zero_le→X9,zero_add→V0,mul_le_mul_right→V4,sub_self→V7,mul_one→U3,add_mul→T6
open Option renaming toList_some→j4,isNone_some→b8,map_eq_some_iff→Y0,map_some→Y7,map→V8
open Option.some renaming inj→Z5,injEq→W7
open Prod.mk renaming injEq→R4
set_option maxHeartbeats 16000000
open Option renaming some→σ,none→ν
variable{bC bv sv v z:x4}{an l d6 t:Λ}{I w w0:x5}{k y:Int}{cs:List x4}{B N a af ag j n r:Nat}{K:x4->Prop}{S:Nat->Prop}{e:o4}
namespace Go.Proofs.YtlcdcbgoaljiiaaGreatDoor
open Go Go.Vc Go.RowKit Go.Proofs Go.Proofs.Tryz
set_option maxRecDepth 100000
theorem u2(h:aQ .i64 w sv l)(H:l.length<=1000000):aq x8 Bd [sv] w λv I=>Ext w I/\∃g,w.heap.size<=g/\aH .i64 al I g v l:=by
 refine aE func114 ?_;rw[a8 aB.u h];refine kM (k:=.i64) au.u al.i Ω Ω λg U J j q=>?_;have z:aH .i64 al U g (.slice (σ ⟨g,0,ν⟩) l.length l.length) (o5 l.length 0):=by
  have:=cf.full (k:=1) (n:=l.length) q Ξ (by simp[maxLen];omega);exact aH.of this
 rw[a8 aB.u (h.W j)];have K:=q.lt;refine b7.range l.length (λi aa=>ai (λr=>r=g) U aa/\aH .i64 al aa g (.slice (σ ⟨g,0,ν⟩) l.length l.length) (l.take i++o5 (l.length-i) 0)) h.le ⟨ai.refl _ _,by simpa using z⟩ ?_ ?_
 rotate_left
 .rintro aa A ⟨f,a⟩;rw[aW,ao];rw[o9,V7,List.replicate_zero,T4]at a;exact⟨λh=>Ω,λ_=>⟨j.put f Ω,g,Ω,a⟩⟩
 rintro i aa A hi ⟨f,a⟩ B;obtain⟨x,s⟩:=aI (l:=l) hi;have C:Ext w aa:=j.put f Ω;refine bF Ω ?_;rw[bk aB.u ay.i Ψ (h.W C) s];rw[ju rfl au.u al.i a Θ];refine jv al.i a Θ λL E M y=>?_;rw[aR];refine B _ ⟨f.F E,?_⟩;have e:(l.take i++o5 (l.length-i) 0).set i x=l.take (i+1)++o5 (l.length-(i+1)) 0:=by
  have G:(l.take i).length=i:=by rw[Z3];omega
  rw[U7 _ _ Ω,G,V7,show l.length-i=(l.length-(i+1))+1 by omega,List.replicate_succ,List.set_cons_zero,u9,s,j4,T1];rfl
 rw[e]at y;exact y
def O8(w:x5)(l:Λ)(k o:Int)(v:x4)(I:x5):Prop:=
 Ext w I/\(¬ct l->v= .tuple #[.pointer ν,Δ 1])/\(ct l->¬cE o k->v= .tuple #[.pointer ν,Δ 3])/\
  (ct l->cE o k->∃g m sv gs,v= .tuple #[Γ g,Δ 0]/\w.heap.size<=g/\w.heap.size<=m/\(∀r,lc sv r->w.heap.size<=r)/\gM I g m sv gs l k o [])
theorem O9{o:Int}(h:aQ .i64 w sv l):aq x8 qA [sv,Δ k,Δ o] w (O8 w l k o):=by
 refine aE func177 ?_;refine a6 (λv U=>Ext w U/\∃c,v= .bool c/\(c=s2↔¬ct l)) ?_ ?_
 .rintro _ U ⟨e,c,rfl,f⟩;rw[cb];refine⟨λx=>⟨e,λ_=>rfl,λh=>m6 h (f.1 x),λh=>m6 h (f.1 x)⟩,λah=>?_⟩;have V:ct l:=Classical.byContradiction λh=>by have:=f.2 h;rw[ah]at this;cases this
  have G:=V.1;refine ld.Y ?_;rintro _ aa _ ⟨rfl,a⟩;by_cases hi:cE o k
  rotate_left
  .simp only[hi,decide_false,bN,X6,bS];exact⟨e.F a,λh=>m6 V h,λ_ _=>rfl,λ_ h=>m6 h hi⟩
  simp only[hi,decide_true,bN,Y5,bc];refine(lf ((h.W e).W a) Ω).Y ?_;rintro aY H _ ⟨y,A,I,hm⟩;have J:=hm.ls.cells;refine sm λm K L j B=>?_;rw[ds (cs:=#[aY,Δ k,Δ o,.map (σ m)]) (by obtain⟨_,_,_,_,_,rfl,_⟩:=hm.ls;kernel_rfl)];refine bn λg M N q C=>?_;have s1:=e.size;have O:=a.size;have P:=y.size;have Q:=j.size;exact⟨((((e.F a).F y).F j).F q),λh=>m6 V h,λ_ h=>m6 hi h,λ_ _=>⟨g,m,aY,A,rfl,Ω,Ω,λr E=>by have:=(cd hm E).1;omega,C,(hm.W j).W q,B.W q,V,hi,λp ae=>by cases ae⟩⟩
 .intro aA z;rw[a8 au.u h];simp only[bU,ao];refine⟨λR=>z _ _ ⟨Ext.refl _,s2,rfl,λ_ V=>by have:=V.1;omega,λ_=>rfl⟩,λS=>?_⟩;refine(Df h).Y ?_;rintro _ aa _ ⟨rfl,a⟩;refine z _ _ ⟨a,_,rfl,?_⟩;rw[ro];exact⟨λs V=>s V.2,λs V=>s ⟨Ω,V⟩⟩
structure D9 where
 an:Λ
 k:Int
 o:Int
 D:Told
instance Ww:aw D9 where
 n:=1
 rep _ _ R w cs a:=∃g m sv gs,cs=[Γ g]/\gM w g m sv gs a.an a.k a.o a.D/\R g/\R m/\∀r,lc sv r->R r
 len:=by rintro _ _ _ _ _ _ ⟨_,_,_,_,rfl,_⟩;rfl
 one:=by rintro _ _ _ _ _ _ ⟨_,_,_,_,rfl,_⟩ u hu;simp at hu;subst hu;rfl
 ab:=by
  rintro _ _ R T w I _ a ⟨g,m,sv,gs,rfl,h1,f,h,j⟩ J q;obtain⟨s,x,y⟩:=h1.sj;exact⟨g,m,sv,gs,rfl,h1.ab J (q g s (.inr f)) (q m x (.inr h)) λr e=>q r (y r e) (.inr (j r e)),f,h,j⟩
 Y:=by
  rintro _ _ _ R R' w _ a ⟨g,m,sv,gs,rfl,h1,f,h,j⟩ _ z;obtain⟨s,x,y⟩:=h1.sj;exact⟨g,m,sv,gs,rfl,h1,z g s f,z m x h,λr e=>z r (y r e) (j r e)⟩
 kg:=by
  rintro _ _ R w _ a ⟨g,m,sv,gs,rfl,h1,f,h,j⟩;exact⟨g,m,sv,gs,rfl,h1,.inr f,.inr h,λr e=>.inr (j r e)⟩
abbrev iK:Type:=Rd (Λ)×D9
def sG(k:Int)(x:cI)(f:iK):Prop:=f.1=x.scope/\f.2.an=x.d6/\f.2.k=k/\f.2.o=min x.other k/\f.2.D.length<=x.lines.length/\∀t,j0 f.2.D f.2.o t=li x k t
theorem Pa{m:Bool}{S R:ak}{x:cI}(h:aw.rep m S R w cs (je x)):∃aZ hv cz,cs=[aZ,hv,Δ x.other,cz]/\aw.rep (α:=Λ) sp bX R w [aZ] x.scope/\aw.rep (α:=Λ) sp bX R w [hv] x.d6/\aw.rep (α:=List (Λ×Int)) sp bX R w [cz] x.lines:=by
 obtain⟨j,d1,r,s,rfl,_,_,_,h1,q,d2,z,A,rfl,_,_,_,a,B,d3,C,E,rfl,_,_,_,f,e⟩:=h;have h1:=h1;have a:=a;have f:=f;have e:=e;obtain⟨u,rfl⟩:=W3.1 (show j.length=1 from aw.len h1);obtain⟨v,rfl⟩:=W3.1 (show q.length=1 from aw.len a);obtain⟨y,rfl⟩:=W3.1 (show d3.length=1 from aw.len e);subst f;exact⟨u,v,y,rfl,h1,a,e⟩
theorem Pb{m:Bool}{S R:ak}{p:Λ×Int}(h:aw.rep m S R w cs p):∃aY,cs=[aY,Δ p.2]/\aQ .i64 w aY p.1:=by
 obtain⟨e,d1,f,j,rfl,_,_,_,h1,a⟩:=h;obtain⟨u,rfl⟩:=W3.1 (show e.length=1 from aw.len h1);have a:=a;subst a;exact⟨u,rfl,c3 h1⟩
structure u3(k:Int)(x:cI):Prop where
 k:right k
 d6:ct x.d6
 other:0<=x.other
 lines:oG x.d6 x.lines
 len:x.lines.length<=60000
 scope:x.scope.length<=100001
theorem df{k:o8}(h:aQ k w v l):∃a n c,v= .slice a n c:=by
 obtain⟨_,b,o,base,cap,rfl,_⟩:=h;exact⟨_,_,_,rfl⟩
theorem Pc{aJ aK aL:x4}{K:Int}{R:ak}{x:cI}(ah:aj w af cN [aJ,Δ K,aK,aL])(J:Seen R w cs (je x))(aC:u3 K x):
  aq x8 w1 [Γ af,.agg cs.toArray] w λv I=>Ext w I/\∃bK,∃f:iK,v= .agg bK.toArray/\bK.length=2/\Seen (e7 w.heap.size) I bK f/\sG K x f:=by
 obtain⟨aZ,hv,cz,rfl,h1,al,O⟩:=Pa J;obtain⟨C,P,bh,am,bi,bj⟩:=aC;have bk:=P.1;refine aE func115 ?_;refine bn λav U bl an j=>?_;have j:aj U av cv [aZ,hv,Δ x.other,cz]:=by
  obtain⟨_,_,_,rfl⟩:=nW h1;obtain⟨_,_,_,rfl⟩:=nW al;obtain⟨_,_,_,rfl⟩:=nW O;exact j
 refine bE cS.i λao aa bm Q E=>?_;have E:=E;intro bo G _ _;have S:=(an.F Q).F G;have V:=Q.F G;have bp:=an.size;have br:=Q.size;have z3:=G.size;have bs:=E.lt;have ap:=ah.W S;rw[aN cv.p 1 (j.W V) rfl,aP cN.p 1 ap rfl,
  aN cv.p 2 (j.W V) rfl,aP cN.p 1 ap rfl,nK]
 refine(u2 ((c3 al).W S) Ω).Y ?_;rintro bt bu _ ⟨s,bw,bx,aM⟩;refine⟨.inl s,?_⟩;have z4:=s.size;have aO:cE (min x.other K) K:=⟨C,by have:=C.1;omega,Ω⟩;refine(O9 aM.ls).Y ?_;rintro _ aQ _ ⟨H,_,_,aS⟩;obtain⟨ag,m,sv,gs,rfl,bB,bC,au,aT⟩:=aS P aO;rw[bz,bA];have z5:=H.size;have W:=(S.F s).F H;have aw:=(V.F s).F H;rw[aN cv.p 3 (j.W aw) rfl];have ax:=bq O W;rw[fE ki.u ax];refine b7.range x.lines.length (λi L=>ai (λr=>r=m) aQ L/\∃D,D.length<=i/\gM L ag m sv gs x.d6 K (min x.other K) D/\∀t,j0 D (min x.other K) t=mW x K i t) (oy ax) ⟨ai.refl _ _,[],o6 _,aT,λt=>by rw[DZ];rfl⟩ ?_ ?_
 .rintro i L aU hi ⟨a,D,ay,y,X⟩ aV;obtain⟨p,ae⟩:=aI (l:=x.lines) hi;have az:=am.2 p (x7 ae);have z:=W.put a Ω;have aW:=a.size;have aX:=bq O z;refine bF Ω ?_;refine lV eH.p rfl ki.u eH.i aX ae λbD a1=>?_;obtain⟨aY,rfl,aA⟩:=Pb a1;refine bE eH.i λbH bI bJ aB a2=>?_;have bL:=aB.size;refine b3 (vs:=[aY,Δ p.2]) eH.i rfl rfl (by intro v ac;simp at ac;rcases ac with rfl|rfl<;>first|exact aA.cells.2|rfl) a2 λbM a6 bN aD=>?_;have a7:=aB.put a6 Ω;intro bO Y _ _;have q:=a7.F Y;have z9:=q.size;rw[aN eH.p 0 (aD.W Y) rfl,aN eH.p 1 (aD.W Y) rfl,aP cN.p 1 ((ah.W z).W q) rfl,nK];have bP:=xS P az.1;refine(u2 (aA.W q) Ω).Y ?_;rintro bQ bR _ ⟨A,bS,bT,a8⟩;refine⟨.inl A,?_⟩;have bU:=A.size;refine(Dn ((y.W q).W A).is a8.ls).Y ?_;rintro _ bV _ ⟨_,ba⟩;have bb:cE (min p.2 K) K:=⟨C,by have:=C.1;omega,Ω⟩;obtain⟨rfl,aF,D',aG,aH⟩:=ba ⟨az.1,bb⟩;rw[aR];refine aV _ ⟨(a.F ((q.F A).ab _)).F aF,D',by have:=aG.2;omega,gM.put ((y.W q).W A) aF aH,λt=>?_⟩;rw[D1 am.1 ae,aG.cost y.is.nodup aH.nodup];by_cases M:t=p.1
  .rw[m3 M,m3 M]
  .rw[m5 M,m5 M,X]
 .rintro L aU ⟨a,D,ay,y,X⟩;have z:=W.put a Ω;have bc:=aw.put a Ω;have aW:=a.size;refine b4 Ω ?_;rw[aN cv.p 0 (j.W bc) rfl];refine(u2 ((c3 h1).W z) Ω).Y ?_;rintro Z bW _ ⟨N,bY,bZ,B⟩;have z12:=N.size;rw[ds (cs:=#[Z,Γ ag]) (by obtain⟨_,_,_,rfl⟩:=df B.ls;kernel_rfl)];have bd:=((G.F s).F H).put a Ω;refine b3 (vs:=[Z,Γ ag]) cS.i rfl rfl (by intro v ac;simp at ac;rcases ac with rfl|rfl<;>first|exact B.ls.cells.2|rfl) ((E.W bd).W N) λb0 ad b1 be=>?_;rw[fu cS.p cS.i rfl be.range];have bf:=(y.W N).ab ad (λhe=>by have he:=he;omega) (λhe=>by have he:=he;omega) (λr e he=>by have he:r=ao:=he;have:=au r e;omega);have bg:=bG B ad λr e he=>by have he:r=ao:=he;have:=(cd B e).1;omega
  refine⟨(z.F N).put ad Ω,_,(x.scope,⟨x.d6,K,min x.other K,D⟩),rfl,rfl,?_,rfl,rfl,rfl,rfl,ay,λt=>?_⟩
  .exact⟨[Z],[Γ ag],bX,bX,rfl,λ_ h=>h,λ_ h=>h,λ_ _ h _=>h,sD bg λr e=>by have:=(cd B e).1;show w.heap.size<=r;omega,
    ⟨ag,m,sv,gs,rfl,bf,by show w.heap.size<=ag;omega,by show w.heap.size<=m;omega,λr e=>by have:=au r e;show w.heap.size<=r;omega⟩⟩
  .rw[X,D0]
theorem Pd{S R:ak}{f:iK}(h:aw.rep sp S R w cs f):aw.rep (α:=iK) s2 bX R w cs f:=by
 obtain⟨c,d,A,B,rfl,h1,j,_,a,e⟩:=h;exact⟨c,d,bX,bX,rfl,λ_ h=>h,λ_ h=>h,λ_ _ h _=>h,a,e⟩
def va(k:Int)(a:List cI)(e:List iK):Prop:=e.length=a.length/\∀(i:Nat)x f,a[i]?=σ x->e[i]?=σ f->sG k x f
theorem Pe{e:Nat}{m:Bool}{S R:ak}{V hv ag:x4}{K:Int}{q:List cI}{aE:x5->Prop}(aF:aj w e cN [V,Δ K,hv,.slice ν 0 0])(aV:aw.rep m S R w [ag] (show List j2 from q.map je))(aX:∀r,S r\/R r->r≠e)(aY:∀x∈q,u3 K x)(bP:q.length<=256)(aZ:∀I z,∀s:List iK,ai (λr=>r=e) w I->aj I e cN [V,Δ K,hv,z]->Seen (λr=>w.heap.size<=r) I [z] s->va K q s->aE I):
  b7 (Δ 0) w λam E a2=>
   ad x8 (aT .lss al sp sp am (Δ (q.length:Int))) E λa6=>
   Split a6 (ad x8 (n9 kJ ag am) E λa7=>
   ad x8 (u5 cv a7) E λa8=>
   aM x8 (R3 cv s2 (.tuple #[])) E λx ba=>
   aM x8 (o7 cv x a8) ba λ(_:Unit)bb=>
   ey bb λC=>
   ad x8 (b1 (Γ e)) C λG=>
   ad x8 (u6 cN G 3) C λH=>
   ad x8 (u5 dX H) C λan=>
   ad x8 (u5 cv x) C λbc=>
   aq x8 w1 [(Γ e),bc] C λbd J=>
    (Ext C J\/ch x8 (u5 dX H) an J/\ch x8 (u6 cN G 3) H J/\ch x8 (b1 (Γ e)) G J/\True)/\
   aM x8 (Y4 dX 1 #[(0,bd)]) J λbe L=>
    (Ext C L\/ch x8 (u5 dX H) an L/\ch x8 (u6 cN G 3) H L/\ch x8 (b1 (Γ e)) G L/\True)/\
    aM x8 (b9 #[dX,dX] dX #[an,be]) L λbf ap=>
     ad x8 (b1 (Γ e)) ap λbg=>
     ad x8 (u6 cN bg 3) ap λbh=>
     aM x8 (o7 dX bh bf) ap λ(_:Unit)aG=>
     ad x8 (aT .add al sp s2 am (Δ 1)) aG λbi=>
   a2 bi aG) (aE E):=by
 have bQ:=aF.lt;have bR:(q.map je).length=q.length:=Ξ
 refine b7.range q.length (λi U=>ai (λr=>r=e) w U/\∃z,∃s:List iK,∃A R':ak,aj U e cN [V,Δ K,hv,z]/\bB A R' U [z] s/\(∀r,A r->w.heap.size<=r/\r<U.heap.size)/\(∀r,R' r->w.heap.size<=r/\¬A r/\r<U.heap.size)/\va K (q.take i) s) Ω
  ⟨ai.refl _ _,_,[],bX,bX,aF,gH,λ_ h=>h.elim,λ_ h=>h.elim,rfl,λi x f h=>by simp at h⟩ ?_ ?_
 rotate_left
 .rintro U bj ⟨M,z,s,A,R',N,aC,B,O,W⟩;rw[o9]at W;rw[aW,ao];refine⟨λh=>Ω,λ_=>aZ U z s M N (pB aC λr _ h=>?_) W⟩;exact h.elim (λh=>(B r h).1) λh=>(O r h).1
 rintro i U bj hi ⟨M,z,s,A,R',N,aC,B,O,aH,W⟩ bk;obtain⟨x,au⟩:=aI (l:=q) hi;have bl:=aY x (x7 au);have bS:=M.size;rw[Z3]at aH;have bm:aw.rep m S R U [ag] (show List j2 from q.map je):=aw.ab aV M λr _ h he=>aX r h he;refine bF Ω ?_;refine lV (α:=j2) (a:=je x) cv.p rfl kJ.u cv.i bm (by show(q.map je)[i]?=_;rw[u4,au];rfl) λcs ax=>?_;have aJ:cs.length=4:=aw.len ax;have bn:Seen (λr=>S r\/R r) U cs (je x):=pB ax λr _ h=>h;refine bE cv.i λav aa bT aK bo=>?_;have bU:=aK.size;refine b3 (vs:=cs) cv.i aJ rfl (aw.one ax) bo λbp br bV bs=>?_;have bt:Ext U bp:=aK.put br Ω;intro X aL _ _;have P:=bt.F aL;have z4:=P.size;rw[aP cN.p 3 (N.W P) rfl,bH cv.p cv.i aJ (bs.W aL).range];refine(Pc (N.W P) (bq bn P) bl).Y ?_;rintro _ Y _ ⟨Z,bK,f,rfl,bW,ah,bu⟩;have z5:=Z.size;refine⟨.inl Z,?_⟩;have aN:=Pd ah;have bx:=P.F Z;refine jU (α:=iK) (a:=f) (cs:=bK) (A:=bX) (R:=e7 X.heap.size) dX.u cS.i Φ (by
  obtain⟨c,d,bZ,b0,he,_,_,_,ac,bz⟩:=ah;have ac:aw.rep (α:=Λ) sp bX _ Y c f.1:=ac;obtain⟨u,rfl⟩:=W3.1 (show c.length=1 from aw.len ac);obtain⟨b2,bY,b4,b5,rfl,_⟩:=bz;obtain⟨_,_,_,rfl⟩:=nW ac;cases he;rfl) aN λu ay ae _ hu=>?_
 have b6:=ae.size;refine⟨.inl (Z.F ae),?_⟩;have az:=bx.F ae;have bA:bB A (λr=>R' r\/(X.heap.size<=r/\r<Y.heap.size)) ay [z] s:=bq (aw.Y aC (λ_ _ h=>h) λ_ _ h=>.inl h) az;have bC:bB bX (λr=>R' r\/(X.heap.size<=r/\r<Y.heap.size)) ay bK f:=bq (aw.Y aN (λ_ _ h=>h) λr y h=>.inr ⟨h,y⟩) ae;refine oz (α:=iK) (a:=f) (A:=bX) dX.u cS.i rfl bA hu bC (λr _ aO h=>?_) Ω Ω λaQ bD aA aB=>?_
 .rcases h with h|h|h
  .exact h
  .exact (O r h).2.1 aO
  .have:=(B r aO).2;omega
 have b8:=aB.size;rw[cc,a1 cN.p rfl];have bG:=(N.W az).ab aB (λhe=>by have:=(B _ he).1;omega);refine bw (g:=e) (o:=3) dX.i (lU aA) (iJ aA) bG Ξ λbI aS ca aD=>?_;have aD:aj bI e cN [V,Δ K,hv,aQ]:=aD;rw[aR];have bJ:=nO aA;refine bk _ ⟨(ja (M.F (az.ab _)) aB λr y he=>by have:=(B _ he).1;omega).F aS,aQ,s++[f],λr=>((A r\/bX r\/ay.heap.size<=r)/\r<bD.heap.size),λr=>R' r\/(X.heap.size<=r/\r<Y.heap.size),aD,aw.ab bJ aS λr _ h he=>?_,λr y=>?_,λr y=>?_,?_,λj bL bM af Q=>?_⟩
 .have he:r=e:=he;rcases h with h|h|h
  .rcases h.1 with h1|h1|h1
   .have:=(B _ h1).1;omega
   .exact h1
   .omega
  .have:=(O r h).1;omega
  .omega
 .have cb:=y.2;rcases y.1 with h1|h1|h1
  .have:=(B _ h1).1;omega
  .exact h1.elim
  .omega
 .rcases y with y|y
  .have aU:=O r y;refine⟨aU.1,λh=>?_,Ω⟩;rcases h.1 with h1|h1|h1
   .exact aU.2.1 h1
   .exact h1
   .omega
  .refine⟨Ω,λh=>?_,Ω⟩;rcases h.1 with h1|h1|h1
   .have:=(B _ h1).2;omega
   .exact h1
   .omega
 .rw[c9,Z3,aH];simp;omega
 .have bN:=(x6.1 Q).1;rw[c9,List.length_singleton]at bN;rw[V1 Ω]at af;by_cases bO:j<s.length
  .rw[V6 bO]at Q;exact W j bL bM (by rw[V1 Ω];exact af) Q
  .rw[X2 Ω,show j-s.length=0 by omega]at Q;rw[show j=i by omega,au]at af;cases Q;cases af;exact bu
def mX(w:x5)(h:Nat)(f:cn):Prop:=∃hv a gz,∃e:List iK,aj w h cN [cp f.name,Δ f.k,hv,a]/\aH .i64 al w gz hv f.d6/\Seen eW w [a] e/\va f.k f.ho e
theorem mX.W{f:cn}(h:mX w a f)(J:Ext w I):mX I a f:=by
 obtain⟨hv,e,gz,j,h1,q,r,s⟩:=h;exact⟨hv,e,gz,j,h1.W J,q.W J,bq r J,s⟩
def Ea(w:x5)(h:Option cn)(v:x4)(I:x5):Prop:=Ext w I/\match h with
 |none=>∃n e:Int,v= .tuple #[.pointer ν,Δ n,Δ e]/\e≠0
 |some f=>∃a,∃n:Int,v= .tuple #[Γ a,Δ n,Δ 0]/\mX I a f
structure Pf(clean:Bool)(so:Option aO)(name:Λ)(k:Int)(d6:Λ)(acc:List j2)(res:Option cn):Prop where
 q1:∀s,so=σ s->s.hp=[]->clean=s2->s.big=sp->∃fs,acc=fs.map je/\res=σ ⟨name,k,d6,fs⟩/\(∀x∈fs,u3 k x)/\fs.length<=256/\d6.length<=1000000
 bad:res≠ν->∃s,so=σ s/\s.hp=[]/\clean=s2/\s.big=sp
theorem Pg{g gs:Nat}{A B S R:ak}{m N:Bool}{so:Option aO}{name:Λ}{acc:List j2}{L:Option cn}{hv aE p:x4}{pl:Λ}{Q:x4->x5->Prop}(aF:jd w g gs A B N so)(P:Pf N so name k d6 acc L)(bp:aQ .i64 w hv d6)(br:∀r,lc hv r->r≠g/\r≠gs)(bs:aw.rep m S R w [aE] acc)(a6:∀r,S r\/R r->r≠g/\r≠gs/\r<w.heap.size)(cY:so=ν->True)(cZ:g<w.heap.size)(c0:gs<w.heap.size)(bt:ai (λr=>w0.heap.size<=r) w0 w)(c1:w0.heap.size<=g)(c2:w0.heap.size<=gs)(ae:aQ .u8 w0 p pl)(Z:∀v I,Ea w0 L v I->Q v I):
  cG (α:=x5->Prop) (λ(j:x5)=>
  ad x8 (b1 (Γ g)) j λbu=>
  ad x8 (u6 cL bu 1) j λbw=>
  ad x8 (u6 fq bw 0) j λbx=>
  ad x8 (u5 k6 bx) j λbz=>
  ad x8 (aT .neq k6 sp s2 bz (Δ 0)) j λbA=>
  Split bA (ey j λG=>
   ad x8 (b1 (Γ g)) G λbB=>
   ad x8 (u6 cL bB 1) G λbC=>
   ad x8 (u6 fq bC 2) G λbD=>
   ad x8 (u5 al bD) G λbE=>
   ad x8 (b1 (Γ g)) G λbF=>
   ad x8 (u6 cL bF 1) G λbG=>
   ad x8 (u6 fq bG 0) G λbH=>
   ad x8 (u5 k6 bH) G λbI=>
   Q (.tuple #[(.pointer ν),bE,bI]) G)
   (ad x8 (b1 (Γ g)) j λbJ=>
   ad x8 (u6 cL bJ 1) j λbK=>
   ad x8 (u6 fq bK 1) j λbL=>
   ad x8 (u5 k6 bL) j λbN=>
   ad x8 (aT .neq k6 sp s2 bN (Δ 0)) j λbO=>
   Split bO (ey j λH=>
   ad x8 (b1 (Γ g)) H λbP=>
   ad x8 (u6 cL bP 1) H λbQ=>
   ad x8 (u6 fq bQ 3) H λbR=>
   ad x8 (u5 al bR) H λbT=>
   ad x8 (b1 (Γ g)) H λbU=>
   ad x8 (u6 cL bU 1) H λbV=>
   ad x8 (u6 fq bV 1) H λbW=>
   ad x8 (u5 k6 bW) H λbX=>
   Q (.tuple #[(.pointer ν),bT,bX]) H)
   (aq x8 Bd [hv] j λbY a7=>
  ad x8 (Instr.build cN #[(0,cp name),(1,Δ k),(2,bY)]) a7 λbZ=>
  aM x8 (Instr.box cN bZ) a7 λV ba=>
  ad x8 (X8 #[kJ] al #[aE]) ba λb0=>
  b7 (Δ 0) ba λaH W b2=>
   ad x8 (aT .lss al sp sp aH b0) W λb3=>
   Split b3 (ad x8 (n9 kJ aE aH) W λb4=>
   ad x8 (u5 cv b4) W λb5=>
   aM x8 (R3 cv s2 (.tuple #[])) W λx b6=>
   aM x8 (o7 cv x b5) b6 λ(_:Unit)b8=>
   ey b8 λO=>
   ad x8 (b1 V) O λaf=>
   ad x8 (u6 cN af 3) O λag=>
   ad x8 (u5 dX ag) O λaI=>
   ad x8 (u5 cv x) O λca=>
   aq x8 w1 [V,ca] O λcb ah=>
    (Ext O ah\/ch x8 (u5 dX ag) aI ah/\ch x8 (u6 cN af 3) ag ah/\ch x8 (b1 V) af ah/\True)/\
   aM x8 (Y4 dX 1 #[(0,cb)]) ah λcd am=>
    (Ext O am\/ch x8 (u5 dX ag) aI am/\ch x8 (u6 cN af 3) ag am/\ch x8 (b1 V) af am/\True)/\
    aM x8 (b9 #[dX,dX] dX #[aI,cd]) am λce aJ=>
     ad x8 (b1 V) aJ λcf=>
     ad x8 (u6 cN cf 3) aJ λcg=>
     aM x8 (o7 dX cg ce) aJ λ(_:Unit)bb=>
     ad x8 (aT .add al sp s2 aH (Δ 1)) bb λci=>
   b2 ci bb)
    (ad x8 (X8 #[cW] al #[p]) W λcj=>
  Q (.tuple #[V,cj,(Δ 0)]) W)))) λax=>
 aq x8 mw [(Γ g)] w λck an=>
 Split ck (ad x8 (b1 (Γ g)) an λcl=>
  ad x8 (u6 cL cl 0) an λcm=>
  ad x8 (u5 ud cm) an λcq=>
  aq x8 wZ [cq] an λaK M=>
  ad x8 (Z7 aK 0) M λc3=>
  ad x8 (Z7 aK 1) M λbd=>
  ad x8 (Z7 aK 2) M λaL=>
  ad x8 (aT .eql k6 sp s2 aL (Δ 0)) M λcr=>
  Split cr (aq x8 pm [(Γ g),(Δ 4),bd] M λc4 ct=>
  ax ct)
  (ad x8 (aT .eql k6 sp s2 aL (Δ 11)) M λcu=>
  Split cu (aq x8 pm [(Γ g),aL,bd] M λc5 cw=>
   ax cw)
   (ax M)))
  (ax an):=by
 refine dh (λj=>ai (λr=>r=g\/r=gs) w j/\∃(e big J K m1:Int)(sv:x4),aj j g cL (jz gs e big J K m1 sv)/\((e≠0/\L=ν)\/(e=0/\∃s,so=σ s/\s.hp=[]/\N=s2/\(s.big=s2↔big≠0)))) ?_ ?_
 rotate_left
 .intro aA aN;refine(DM aF).Y ?_;rintro _ U _ ⟨rfl,ap⟩;cases so with
  |none=>
   rw[show(ν:Option aO).isSome=sp from rfl,bc];obtain⟨e,big,J,K,m1,sv,y,aR⟩:=aF.W ap;refine aN _ ⟨ap.ab _,e,big,J,K,m1,sv,y,.inl ⟨aR,?_⟩⟩;cases C:L with
   |none=>rfl
   |some f=>obtain⟨s,h,_⟩:=P.bad (by rw[C];simp);cases h
  |some s=>
   rw[show(σ s:Option aO).isSome=s2 from rfl,bS];have cz:=aF.W ap;obtain⟨ay,cA,cB,big,J,K,m1,sv,y,aR,cC⟩:=id cz;rw[aP cL.p 0 y rfl];refine(sh cA).Y ?_;rintro v aa _ ⟨X,ac⟩;have cD:(s.hp≠[]\/N=sp)->L=ν:=λq=>by
    cases C:L with
    |none=>rfl
    |some f=>
     obtain⟨s',h,au,be,_⟩:=P.bad (by rw[C];simp);cases h;rcases q with q|q
     .exact m6 au q
     .rw[q]at be;cases be
   have az:∀E,ai (λr=>r=g) aa E->fw E g gs A B->(s.hp≠[]\/N=sp)->aA E:=λE av az q=>by
    obtain⟨_,e,big,J,K,m1,sv,l,cE,cF,_⟩:=az;exact aN _ ⟨((ap.ab _).F (X.Y λr _ h=>.inr h)).F (av.Y λr _ h=>.inl h),e,big,J,K,m1,sv,cE,.inl ⟨cF.1,cD q⟩⟩
   have aS:=y.ab X ay.1;have bf:=aw.ab cC X λr _ h au=>by
    have au:r=gs:=au;subst au;rcases h with h|h
    .exact ay.2.2.1 h
    .exact h.1 (.inr (.inl rfl))
   have bg:s.m2.length<=100000:=by have:=cB.2.2;omega
   cases Y:s.hp with
   |cons t l=>
    rw[Y]at ac;obtain⟨c6,n,rfl⟩:=ac;rw[fS,fT,fU,bm,ao];refine⟨λ_=>?_,λh=>m6 rfl h⟩;refine(uD (ay.ab X) aS bf Ω bg).Y ?_;rintro _ E _ ⟨av,aU⟩;exact az E av aU (.inl (by rw[Y];simp))
   |nil=>
    rw[Y]at ac;obtain⟨n,rfl⟩:=ac;rw[fS,fT,fU,bm,ao];refine⟨λh=>by cases N<;>simp at h,λ_=>?_⟩;rw[bm,ao];cases aB:N with
    |true=>
     subst aB;refine⟨λh=>by simp at h,λ_=>aN _ ⟨(ap.ab _).F (X.Y λr _ h=>.inr h),0,big,J,K,m1,sv,aS,.inr ⟨rfl,s,rfl,Y,rfl,aR.1⟩⟩⟩
    |false=>
     subst aB;refine⟨λ_=>?_,λh=>m6 rfl h⟩;refine(uD (ay.ab X) aS bf Ξ bg).Y ?_;rintro _ E _ ⟨av,aU⟩;exact az E av aU (.inr rfl)
 .rintro U ⟨aC,e,big,J,K,m1,sv,y,cH⟩;have c7:=aC.size;have aV:=(bt.W λr C h=>Ω).then aC (λr C h=>by rcases h with h|h<;>omega);rw[cc,a1 cL.p rfl,a1 fq.p rfl,aG Ψ (y.cell rfl),bM,ao];rcases cH with⟨he,aW⟩|⟨rfl,s,rfl,Y,aB,bh⟩
  .refine⟨λ_=>?_,λh=>m6 he h⟩;intro aa z _ _;rw[cc,a1 cL.p rfl,a1 fq.p rfl,aG Ψ ((y.W z).cell rfl),cc,a1 cL.p rfl,a1 fq.p rfl,aG Ψ ((y.W z).cell rfl)];rw[aW]at Z;exact Z _ _ ⟨aV.F z,J,e,rfl,he⟩
  .refine⟨λh=>m6 rfl h,λ_=>?_⟩;rw[cc,a1 cL.p rfl,a1 fq.p rfl,aG Ψ (y.cell rfl),bM,ao];refine⟨λq=>?_,λq=>?_⟩
   .have aW:L=ν:=by
     cases C:L with
     |none=>rfl
     |some f=>
      obtain⟨s',h,_,_,bi⟩:=P.bad (by rw[C];simp);cases h;rw[bh.2 q]at bi;cases bi
    intro aa z _ _;rw[cc,a1 cL.p rfl,a1 fq.p rfl,aG Ψ ((y.W z).cell rfl),cc,a1 cL.p rfl,a1 fq.p rfl,aG Ψ ((y.W z).cell rfl)];rw[aW]at Z;exact Z _ _ ⟨aV.F z,K,big,rfl,q⟩
   .have cI:s.big=sp:=by
     cases cJ:s.big with
     |false=>rfl
     |true=>exact m6 (bh.1 cJ) q
    obtain⟨bj,rfl,rfl,cK,cM,cO⟩:=P.q1 s rfl Y aB cI;have cP:=jw bp aC λr C a n c ac P=>by
     have:=br r ⟨a,n,c,ac,P⟩;exact C.elim this.1 this.2
    refine(u2 cP cO).Y ?_;rintro aX aa _ ⟨z,gz,c8,aY⟩;have c9:=z.size;rw[ds (cs:=#[cp name,Δ k,aX,.slice ν 0 0]) (by obtain⟨_,_,_,rfl⟩:=df aY.ls;kernel_rfl)];refine bn λaZ E da a2 aD=>?_;have aD:aj E aZ cN [cp name,Δ k,aX,.slice ν 0 0]:=by obtain⟨_,_,_,rfl⟩:=df aY.ls;exact aD
    have bk:=bq (bq (aw.ab bs aC λr _ h he=>by have:=a6 r h;exact he.elim this.1 this.2.1) z) a2;have cQ:(bj.map je).length=bj.length:=Ξ
    rw[fE kJ.u bk,cQ];refine Pe aD bk (λr h=>by have:=a6 r h;omega) cK cM λdb cR cS cT cU cV cX=>?_;have dc:=aD.lt;have z3:=a2.size;have bl:=a2.then cT (λr C h=>by have h:r=aZ:=h;omega);have bo:=(aV.F z).F bl;rw[a8 cW.u (ae.W bo)];exact Z _ _ ⟨bo,aZ,_,rfl,aX,cR,gz,cS,cU,aY.W bl,jS cV,cX⟩
theorem Eb{α:Type}{f:List α->aO->Option (α×aO)}{acc:List α}{s:aO}:fW f (n+1) acc (σ s)=match f acc s with
  |none=>ν
  |some (a,s')=>fW f n (acc++[a]) (σ s'):=by
 show dc f (n+1) acc s=_;simp only[dc];cases f acc s<;>rfl
theorem Ph{g gs:Nat}{A B:ak}{s:Option aO}{G:Bool}{most:Int}{Q:x4->x5->Prop}(h:dE w g gs A B G s)(aw:(N:Int)<=aF)(R:∀hv I l so gz,ai (bT g gs A) w I->dE I g gs A B G so->aH .i64 ay I gz hv l->w.heap.size<=gz->l.length<=100001->(∀q,fW (ia most) N [] s=σ q->so=σ q.2/\l=q.1)->(fW (ia most) N [] s=ν->so=ν)->Q hv I):
 ce (.slice ν 0 0) (Δ 0) w λd6 i H k=>
  cG (α:=x4->x5->Prop) (λ(ax:x4)(S:x5)=>
   Split ax (aq x8 pk [Γ g,(Δ 1),Δ most] S λV y=>
  ad x8 (Z7 V 0) y λW=>
  ad x8 (Z7 V 1) y λaz=>
  ad x8 (aT .gtr ay sp s2 W (Δ 32)) y λaC=>
  aq x8 rQ [Γ g,aC,az] y λbo aD=>
  aM x8 (Y4 aB 1 #[(0,W)]) aD λaE aG=>
  aM x8 (b9 #[aB,aB] aB #[d6,aE]) aG λaI X=>
  ad x8 (aT .add ay sp s2 i (Δ 1)) X λaJ=>
  k aI aJ X) (Q d6 S)) λaA=>
  ad x8 (aT .lss ay sp sp i (Δ (N:Int))) H λaK=>
  Split aK (aq x8 mw [Γ g] H λaL aN=>
  aA aL aN)
   (aA (.bool sp) H):=by
 obtain⟨bp,Y,bq,aP,aQ⟩:=h.side;have ag:∀r,bT g gs A r->r<w.heap.size:=aP;unfold aF at aw;generalize aS:fW (ia most) N [] s=Z at R;refine⟨λout J U=>∃(i:Nat)(l:Λ)(so:Option aO)(gz:Nat),J=Δ (i:Int)/\i<=N/\ai (bT g gs A) w U/\aH .i64 ay U gz out l/\w.heap.size<=gz/\dE U g gs A B G so/\Z=fW (ia most) (N-i) l so/\l.length<=100001/\∀st,so=σ st->l.length+st.hp.length<=100000,
  λ_ J _=>N-(b2 J).toNat,⟨0,[],s,w.heap.size,rfl,X9 _,ai.refl _ _,aH.nil _ _ _ _,o6 _,h,aS.symm,Ξ,λst aU=>?_⟩,?_⟩
 .subst aU;have:=h.words;simpa using this
 rintro out _ U ⟨i,l,so,gz,rfl,br,K,ac,aV,ae,C,aX,af⟩;refine a6 (λv ah=>Ext U ah/\((v= .bool s2/\i<N/\∃st,so=σ st)\/(v= .bool sp/\(so=ν\/i=N)))) ?_ ?_
 rotate_left
 .intro aA L;rw[aW,ao];refine⟨λaY=>?_,λbs=>L _ _ ⟨Ext.refl _,.inr ⟨rfl,.inr Ω⟩⟩⟩;refine(q4 ae).Y ?_;rintro _ ah _ ⟨rfl,aj⟩;cases so with
  |none=>exact L _ _ ⟨aj,.inr ⟨rfl,.inl rfl⟩⟩
  |some st=>exact L _ _ ⟨aj,.inl ⟨rfl,Ω,st,rfl⟩⟩
 rintro _ aa ⟨x,aZ⟩;have al:=ac.W x;have am:=ae.W x;rcases aZ with⟨rfl,aY,st,rfl⟩|⟨rfl,a1⟩
 rotate_left
 .rw[bc];have an:Z=so.map λst=>(l,st):=by
   rcases a1 with rfl|rfl
   .exact C
   .rw[V7]at C;rw[C];cases so<;>rfl
  refine R out aa l so gz (K.F (x.ab _)) am al aV aX (λq f=>?_) λap=>?_
  .rw[an]at f;cases so with
   |none=>cases f
   |some st=>cases f;exact⟨rfl,rfl⟩
  .rw[an]at ap;cases so with
   |none=>rfl
   |some st=>cases ap
 rw[bS];have af:=af st rfl;refine(nV am).Y ?_;rintro _ bu _ ⟨M,z,at_,rfl,a2,bw⟩;obtain⟨O,a7⟩:=M.of;rw[bz,bA,bU];refine(sB a7).Y ?_;rintro _ bx _ M;obtain⟨P,a8⟩:=M.of;refine e6 aB.u ay.i rfl λa ga ba bB E bb=>?_;have bC:=K.size;have bD:=x.size;have z3:=O.size;have z4:=P.size;have z5:=E.size;have au:∀r,lc out r->¬bT g gs A r:=λr j bd=>by have:=ag r bd;have:=(cd ac j).1;omega
 have be:=bG (bG al O au) P au;refine kL aB.u ay.i rfl (be.W E) bb.ls Θ Θ λbE bf bg bF bh av=>?_;rw[aR,lm Ω Ω];have bi:ai (bT g gs A) w ba:=((((K.F (x.ab _)).F O).F P).F (E.ab _));have bj:ai (bT g gs A) w bg:=ja bi av λr j he=>by have he:r=gz:=he;omega
 have bk:∀r,bT g gs A r->¬(λr=>r=gz) r:=λr j he=>by have:=ag r j;have he:r=gz:=he;omega
 have bm:∀r,cZ g gs A B r->¬(λr=>r=gz) r:=λr j he=>by have:=aQ r j.2;have he:r=gz:=he;omega
 refine⟨⟨i+1,l++[z],_,bf,rfl,Ω,bj,bh,Ω,(a8.W E).ab av bk bm,?_,Θ,λbH bn=>?_⟩,by simp only[b2];omega⟩
 .rw[C,show N-i=(N-(i+1))+1 by omega,Eb];unfold ia;cases f:bt 1 most st with
  |none=>have e:bl 1 most (σ st)=ν:=f;rw[e];rfl
  |some q=>
   have e:bl 1 most (σ st)=σ q:=f;have:=a2 q e;subst this;rw[e];rfl
 .obtain⟨bI,Y,rfl⟩:=Y0.1 bn;obtain⟨q,f,rfl⟩:=Y0.1 Y;have h1:=(dT f).1;simp only[c9,List.length_singleton];show l.length+1+q.2.hp.length<=100000;omega
theorem Pj{acc:List (Λ×Int)}{s s':aO}{a:Λ×Int}(h:eX d6 acc s=σ (a,s')):s'.m1=s.m1/\s'.big=s.big:=by
 obtain⟨_,_,_,e⟩:=qV h;exact⟨e.eqs.1,e.eqs.2.1⟩
theorem Pk{s s':aO}{l:List (Λ×Int)}(hi:ej s)(h:ei d6 s=σ (l,s')):ej s'/\(s.big=s2->s'.big=s2):=by
 have e:=DJ d6 (σ s);rw[show kt d6 (σ s)=ei d6 s from rfl,h]at e;cases r:bl (-aF) aF (σ s)with
 |none=>rw[r]at e;cases e
 |some q=>
  obtain⟨n,s1⟩:=q;rw[r]at e;simp only at e;have h1:=(dT r).eqs;have x:ej s1:=λf=>by rw[h1.1];rw[h1.2.1]at f;exact hi f
  split at e
  .cases V:s1.m2[(-n-1).toNat]? with
   |none=>rw[V]at e;cases e
   |some q=>
    obtain⟨z,l'⟩:=q;rw[V]at e;simp only at e;split at e
    .cases e;exact⟨x,λf=>by rw[h1.2.1];exact f⟩
    .cases e
  .have:=mN (λacc t=>t.m1=(lq n s1).m1/\t.big=(lq n s1).big) (λacc t a bx ⟨w,j⟩ g=>by
    have:=Pj g;exact⟨by rw[this.1,w],by rw[this.2,j]⟩) n.toNat [] _ l s' ⟨rfl,rfl⟩ e.symm
   obtain⟨⟨w,j⟩,_⟩:=this;refine⟨λf=>by rw[w];rw[j]at f;exact OB n s1 f,λf=>?_⟩;rw[j];show(s1.big||_)=s2;rw[h1.2.1,f];rfl
theorem Pl{all:Λ}{s s':aO}{x:cI}(hi:ej s)(h:dA all s=σ (x,s')):ej s'/\s'.hp.length<s.hp.length:=by
 unfold dA at h;cases r:bt (-aF) aF s with
 |none=>rw[r]at h;cases h
 |some q=>
 obtain⟨a,s1⟩:=q;rw[r]at h;simp only at h;have t0:=dT r;cases h1:fv all.length a.natAbs s1 with
 |none=>rw[h1]at h;cases h
 |some q=>
 obtain⟨sc,f⟩:=q;rw[h1]at h;simp only at h;obtain⟨w,_⟩:=xJ h1;generalize sc.map (λv=>all.getD v.toNat 0)=d6 at h;cases y:bt 0 aF (br (decide (6<a.natAbs)||dO d6) f)with
 |none=>rw[y]at h;cases h
 |some q=>
 obtain⟨other,z⟩:=q;rw[y]at h;simp only at h;have A:=dT y;have F:ej z:=λe=>by
  rw[A.eqs.1];rw[A.eqs.2.1]at e;have e:(f.big||_)=sp:=e;have C:=(T3.1 e).1;show f.m1<=16384;rw[w.eqs.1,t0.eqs.1];rw[w.eqs.2.1,t0.eqs.2.1]at C;exact hi C
 cases j:ei d6 z with
 |none=>rw[j]at h;cases h
 |some q=>
 obtain⟨lines,B⟩:=q;rw[j]at h;simp only[W7,R4]at h;obtain⟨_,rfl⟩:=h;have G:=Pk F j;have J:=DQ j;have K:=t0.1;have L:=w.1;have M:f.hp.length=z.hp.length+1:=A.1;have E:∀t:aO,t.m1=B.m1/\t.big=B.big/\t.hp=B.hp->ej t/\t.hp.length<s.hp.length:=λt ⟨H,I,a3⟩=>⟨λe=>by rw[H];rw[I]at e;exact G.1 e,by rw[a3];omega⟩;split
 .exact E _ ⟨rfl,rfl,rfl⟩
 .exact E _ ⟨rfl,rfl,rfl⟩
theorem Pm{S R:ak}{x:j2}(h:aw.rep sp S R w cs x):aw.rep (α:=j2) s2 bX R w cs x/\(x4.agg cs.toArray).cells=cs.toArray:=by
 obtain⟨j,d1,s,z,rfl,_,_,_,h1,q,d2,A,B,rfl,_,_,_,a,r,d3,C,E,rfl,_,_,_,f,e⟩:=h;have h1:=h1;have a:=a;have f:=f;have e:=e;refine⟨⟨j,_,bX,bX,rfl,λ_ h=>h,λ_ h=>h,λ_ _ h _=>h,h1,q,_,bX,bX,rfl,λ_ h=>h,λ_ h=>h,λ_ _ h _=>h,a,r,d3,bX,bX,rfl,λ_ h=>h,λ_ h=>h,λ_ _ h _=>h,f,e⟩,?_⟩;obtain⟨u,rfl⟩:=W3.1 (show j.length=1 from aw.len h1);obtain⟨v,rfl⟩:=W3.1 (show q.length=1 from aw.len a);obtain⟨y,rfl⟩:=W3.1 (show d3.length=1 from aw.len e);obtain⟨_,_,_,rfl⟩:=nW h1;obtain⟨_,_,_,rfl⟩:=nW a;obtain⟨_,_,_,rfl⟩:=nW e;subst f;rfl
theorem Pn{g gs c:Nat}{A B:ak}{o:Option aO}{Q:Bool}{P:x4}{all:Λ}{aD:x4->x5->Prop}(aE:jd w g gs A B Q o)(hi:∀s,o=σ s->ej s)(bt:(c:Int)<=aF)(bu:aQ .i64 w P all)(aG:∀r,lc P r->r≠g/\r≠gs/\r<w.heap.size/\(o≠ν->¬A r))(bw:o≠ν->∀z∈all,1<=z/\z<=aF)(bx:all.length<=100001)(bz:fH w)(h1:1<w0.heap.size/\(o≠ν->cZ g gs A B 1))(aH:ai (λr=>w0.heap.size<=r) w0 w)(bA:w0.heap.size<=g)(bC:w0.heap.size<=gs)(cl:g<w.heap.size/\gs<w.heap.size)(bD:o≠ν->∀r,A r->w0.heap.size<=r)(aI:∀L I acc so aS C aJ aK,ai (λr=>w0.heap.size<=r) w0 I->w.heap.size<=I.heap.size->jd I g gs aS C Q so->aw.rep (α:=List j2) s2 aJ aK I [L] acc->(∀r,aJ r\/aK r->r≠g/\r≠gs/\r<I.heap.size)->aQ .i64 I P all->
   (∀q,fW (λ_ s=>dA all s) c [] o=σ q->so=σ q.2/\acc=q.1.map je)->(fW (λ_ s=>dA all s) c [] o=ν->so=ν)->aD L I):
 ce (.slice ν 0 0) (Δ 0) w λho aL aj bE=>
  cG (α:=x4->x5->Prop) (λ(bF:x4)(aN:x5)=>
   Split bF (aq x8 Bc [Γ g,P] aN λbG bH=>
  aM x8 (Y4 kJ 1 #[(0,bG)]) bH λbI bJ=>
  aM x8 (b9 #[kJ,kJ] kJ #[ho,bI]) bJ λbK aP=>
  ad x8 (aT .add ay sp s2 aL (Δ 1)) aP λbL=>
  bE bK bL aP) (aD ho aN)) λaU=>
  ad x8 (aT .lss ay sp sp aL (Δ (c:Int))) aj λbM=>
  Split bM (aq x8 mw [Γ g] aj λbN bO=>
  aU bN bO)
   (aU (.bool sp) aj):=by
 unfold aF at bt;generalize f:fW (λ_ s=>dA all s) c [] o=aV at aI;have aX:∀s,o=σ s->o≠ν:=λs h=>by rw[h];simp
 refine⟨λL al U=>∃(i:Nat)(acc:List j2)(E:List cI)(so:Option aO)(x K G M:ak),al=Δ (i:Int)/\i<=c/\ai (λr=>w0.heap.size<=r) w0 U/\w.heap.size<=U.heap.size/\jd U g gs x K Q so/\aw.rep s2 G M U [L] acc/\
   aQ .i64 U P all/\fH U/\aV=fW (λ_ s=>dA all s) (c-i) E so/\(∀r,G r->w.heap.size<=r/\r<U.heap.size)/\(∀r,M r->r≠g/\r≠gs/\¬G r)/\
   ∀s,so=σ s->acc=E.map je/\ej s/\E.length+s.hp.length<=100000/\o≠ν/\(∀r,x r->A r\/w.heap.size<=r)/\(∀r,x r->w0.heap.size<=r)/\(∀r,B r->K r)/\(∀r,G r->¬K r/\¬x r)/\(∀r,M r->cZ g gs x K r),
  λ_ al _=>c-(b2 al).toNat,⟨0,[],[],o,A,B,bX,bX,rfl,X9 _,aH,o6 _,aE,gH,bu,bz,f.symm,λ_ h=>h.elim,λ_ h=>h.elim,λs V=>⟨rfl,hi s V,?_,aX s V,λr e=>.inl e,bD (aX s V),λr e=>e,λ_ h=>h.elim,λ_ h=>h.elim⟩⟩,?_⟩
 .subst V;have am:eC w g gs A B s Q:=aE;have:=am.2.1.words.1;simpa using this
 rintro L _ U ⟨i,acc,E,so,x,K,G,M,rfl,cm,bP,cn,aY,bQ,an,aZ,Z,y,bR,a1⟩;refine a6 (λv a2=>Ext U a2/\((v= .bool s2/\i<c/\∃st,so=σ st)\/(v= .bool sp/\(so=ν\/i=c)))) ?_ ?_
 rotate_left
 .intro aA ap;rw[aW,ao];refine⟨λa7=>?_,λcp=>ap _ _ ⟨Ext.refl _,.inr ⟨rfl,.inr Ω⟩⟩⟩;refine(DM aY).Y ?_;rintro _ a2 _ ⟨rfl,a8⟩;cases so with
  |none=>exact ap _ _ ⟨a8,.inr ⟨rfl,.inl rfl⟩⟩
  |some st=>exact ap _ _ ⟨a8,.inl ⟨rfl,Ω,st,rfl⟩⟩
 rintro _ aa ⟨J,bU⟩;have cq:=J.size;have S:=aY.W J;have ba:=bq bQ J;have bb:ai (λr=>w0.heap.size<=r) w0 aa:=bP.F (J.ab _);rcases bU with⟨rfl,a7,st,rfl⟩|⟨rfl,bV⟩
 rotate_left
 .rw[bc];have bd:aV=so.map λst=>(E,st):=by
   rcases bV with rfl|rfl
   .exact Z
   .rw[V7]at Z;rw[Z];cases so<;>rfl
  refine aI L aa acc so x K G (λr=>M r/\r<aa.heap.size) bb Ω S (aw.Y ba (λ_ _ h=>h) λr e h=>⟨h,e⟩) (λr e=>?_) (an.W J) (λq H=>?_) λbf=>?_
  .rcases e with e|e
   .have:=y r e;exact⟨Ω,Ω,Ω⟩
   .have:=bR r e.1;exact⟨this.1,this.2.1,e.2⟩
  .rw[bd]at H;cases so with
   |none=>cases H
   |some st=>cases H;exact⟨rfl,(a1 _ rfl).1⟩
  .rw[bd]at bf;cases so with
   |none=>rfl
   |some st=>cases bf
 rw[bS];obtain⟨rfl,bg,cr,ae,bh,au,bi,af,bj⟩:=a1 st rfl;have S:=S;obtain⟨ct,cu,cw,cz,cA⟩:=S.1;have bW:=h1.2 ae;have bk:cZ g gs x K 1:=⟨λf=>by
  rcases f with f|f|f
  .omega
  .omega
  .have:=au 1 f;omega,bi 1 bW.2⟩
 have bl:∀r,lc P r->¬bT g gs x r/\r<aa.heap.size:=λr e=>by
  obtain⟨bY,bZ,b0,b1⟩:=aG r e;refine⟨λf=>?_,Ω⟩;rcases f with f|f|f
  .exact bY f
  .exact bZ f
  .rcases bh r f with h|h
   .exact b1 ae h
   .omega
 refine(OM S bg (an.W J) bl (bw ae) bx (aZ.W J) bk).Y ?_;rintro _ cB _ ⟨aS,C,cs,b3,rfl,cC,W,X,av,bm,bn,b4,b5⟩;have z3:=W.size;obtain⟨bo,b6⟩:=Pm b4;refine jU (α:=j2) (R:=cZ g gs aS C) kJ.u cv.i Φ b6 bo λu ax N _ hu=>?_;have z4:=N.size;have b7:∀r,r<aa.heap.size->G r\/M r->¬bT g gs x r:=λr e h f=>by
  rcases h with h|h
  .have j:=y r h;rcases f with f|f|f
   .omega
   .omega
   .exact (af r h).2 f
  .exact (bj r h).1 f
 have b8:∀r,r<aa.heap.size->cZ g gs x K r->cZ g gs aS C r:=λr e h=>⟨λf=>h.1 (f.imp id (Or.imp id λf=>(X r f).elim id λbe=>Ω)),bm r h.2⟩;have ca:bB G (cZ g gs aS C) ax [L] (E.map je):=bq (aw.ab (aw.Y (R':=λr=>cZ g gs aS C r/\M r) ba (λ_ _ h=>h) λr e h=>⟨b8 r e (bj r h),h⟩) W λr e h=>b7 r e (h.imp id λh=>h.2) |> λh=>h) N |> λh=>aw.Y h (λ_ _ h=>h) λ_ _ h=>h.1;have ag:∀r,G r->¬C r:=λr h ah=>by
  have j:=y r h;rcases(av r ah).1 with O|O
  .exact (af r h).1 O
  .have az:=(y r h).2;omega
 have cD:(E.map je).length=E.length:=Ξ
 refine oz kJ.u cv.i rfl ca hu (bq bo N) (λr _ cb h=>?_) Ω Ω λcE aB cc Y=>?_
 .rcases h with h|h
  .exact h
  .exact ag r cb h.2
 have z5:=Y.size;rw[aR,lm Ω Ω];have cd:ai (λr=>w0.heap.size<=r) w0 ax:=(bb.F (W.Y λr _ f=>by
  rcases f with rfl|rfl|f
  .exact bA
  .exact bC
  .exact au r f)).F (N.ab _)
 have z0:=aH.size;have cf:ai (λr=>w0.heap.size<=r) w0 aB:=cd.F (Y.Y λr _ h=>by have:=(y r h).1;omega);have cg:=(jw (an.W J) W λr e a n c ac aC=>(bl r ⟨a,n,c,ac,aC⟩).1 e).W N;have ch:=jw cg Y λr e a n c ac aC=>by
  have b0:=(aG r ⟨a,n,c,ac,aC⟩).2.2.1;have:=(y r e).1;omega
 have ci:=(((aZ.W J).ab W bk.1).W N).ab Y λh=>by have:=(y 1 h).1;omega
 have bp:jd aB g gs aS C Q ((dA all st).map (·.2)):=by
  refine jd.ab (bn.W N) Y (λh=>by have:=y _ h;omega) (λr e cF h=>?_) (λr e h=>ag r h e.2);have j:=y r h;rcases e with rfl|rfl|e
  .omega
  .omega
  .rcases X r e with O|O
   .exact (af r h).2 O
   .omega
 have cj:=nO cc;refine⟨⟨i+1,(E.map je)++[b3],E++((dA all st).map (·.1)).toList,(dA all st).map (·.2),aS,C,λr=>(G r\/bX r\/ax.heap.size<=r)/\r<aB.heap.size,cZ g gs aS C,rfl,Ω,cf,Ω,bp,cj,ch,ci,?_,λr e=>⟨?_,e.2⟩,λr e=>⟨λh=>e.1 (.inl h),λh=>e.1 (.inr (.inl h)),λh=>?_⟩,λs' ck=>?_⟩,by simp only[b2];omega⟩
 .rw[Z,show c-i=(c-(i+1))+1 by omega,Eb];cases H:dA all st with
  |none=>rfl
  |some q=>rfl
 .rcases e.1 with h|h|h
  .exact (y r h).1
  .exact h.elim
  .omega
 .rcases h.1 with j|j|j
  .exact ag r j e.2
  .exact j
  .have:=(av r e.2).2;omega
 .obtain⟨q,H,rfl⟩:=Y0.1 ck;have j:=Pl bg H;have O:=b5 q H;refine⟨?_,j.1,?_,ae,λr e=>?_,λr e=>?_,λr e=>bm r (bi r e),λr e=>⟨λah=>?_,λbr=>?_⟩,λr e=>e⟩
  .rw[H,O];simp
  .rw[H];simp only[Y7,j4,c9,List.length_singleton];omega
  .rcases X r e with h|h
   .exact bh r h
   .exact .inr Ω
  .rcases X r e with h|h
   .exact au r h
   .omega
  .rcases e.1 with j|j|j
   .exact ag r j ah
   .exact j
   .have:=(av r ah).2;omega
  .have cH:=bp;have bs:=bn;rw[H]at bs;have am:=bs;have a7:=am.1.2.2.2.1 r (.inr (.inr br));rcases e.1 with j|j|j
   .rcases X r br with az|az
    .exact (af r j).2 az
    .have:=(y r j).2;omega
   .exact j
   .omega
theorem ej.num{lo hi n:Int}{s s':aO}(e:ej s)(h:bt lo hi s=σ (n,s')):ej s':=λa=>by
 have h1:=(dT h).eqs;rw[h1.1];rw[h1.2.1]at a;exact e a
theorem ej.big{b:Bool}{s:aO}(h:ej s):ej (br b s):=λa=>by
 have a:(s.big||b)=sp:=a;exact h (T3.1 a).1
theorem ej.word{w:Λ}{s s':aO}(h:ej s)(hw:eh s=σ (w,s')):ej s':=λa=>by
 have h1:=(xI hw).2;rw[h1]at a ⊢;exact h a
theorem Po{most:Int}{s s':aO}(hi:ej s)(hm:most<=aF)(h:dc (ia most) N [] s=σ (l,s')):ej s'/\(∀z∈l,1<=z/\z<=aF)/\l.length+s'.hp.length<=s.hp.length:=by
 have:=mN (λacc t=>ej t/\(∀z∈acc,1<=z/\z<=aF)/\acc.length+t.hp.length<=s.hp.length) (λacc t a bx ⟨h1,f,w⟩ g=>by
  unfold ia at g;cases e:bt 1 most t with
  |none=>rw[e]at g;cases g
  |some q=>
   obtain⟨z,j⟩:=q;rw[e]at g;simp only[W7,R4]at g;obtain⟨rfl,rfl⟩:=g;have y:=(jx e).1;have A:=(dT e).1;refine⟨(h1.num e).big,λx J=>?_,?_⟩
   .rcases j5.1 J with J|J
    .exact f x J
    .rw[Y1.1 J];omega
   .simp only[c9,List.length_singleton];show acc.length+1+j.hp.length<=_;omega) N [] s l s' ⟨hi,λz r=>(by cases r),Ξ⟩ h
 exact this.1
theorem Pp{s0:aO}{name:Λ}{n most cnt:Int}{so6:Option aO}(h1:∀q,eh s0=σ q->name=q.1)(r:∀q,bl 1 aF (((eh s0).map (·.2)).map (br (decide (64<(name.length:Int)))))=σ q->n=q.1)(j:∀q,bl 1 aF (((bl 1 aF (((eh s0).map (·.2)).map (br (decide (64<(name.length:Int)))))).map (·.2)).map (br (decide (64<n))))=σ q->most=q.1)(h:∀q,bl 0 aF ((bl 1 aF (((bl 1 aF (((eh s0).map (·.2)).map (br (decide (64<(name.length:Int)))))).map (·.2)).map (br (decide (64<n))))).map (·.2))=σ q->cnt=q.1)(f:∀q,bl 1 aF (((bl 0 aF ((bl 1 aF (((bl 1 aF (((eh s0).map (·.2)).map (br (decide (64<(name.length:Int)))))).map (·.2)).map (br (decide (64<n))))).map (·.2))).map (·.2)).map (br (decide (256<cnt))))=σ q->k=q.1)(e:∀q,fW (ia most) n.toNat [] (((bl 1 aF (((bl 0 aF ((bl 1 aF (((bl 1 aF (((eh s0).map (·.2)).map (br (decide (64<(name.length:Int)))))).map (·.2)).map (br (decide (64<n))))).map (·.2))).map (·.2)).map (br (decide (256<cnt))))).map (·.2)).map (br (decide (2147483648<k))))=σ q->so6=σ q.2/\d6=q.1)(a:fW (ia most) n.toNat [] (((bl 1 aF (((bl 0 aF ((bl 1 aF (((bl 1 aF (((eh s0).map (·.2)).map (br (decide (64<(name.length:Int)))))).map (·.2)).map (br (decide (64<n))))).map (·.2))).map (·.2)).map (br (decide (256<cnt))))).map (·.2)).map (br (decide (2147483648<k))))=ν->so6=ν):
  jW s0=(fW (λ_ s=>dA d6 s) cnt.toNat [] so6).map λq=>((⟨name,k,d6,q.1⟩:cn),q.2):=by
 unfold jW;cases A:eh s0 with
 |none=>
  rw[A]at a;rw[a rfl];rfl
 |some L=>
 obtain⟨Z,s1⟩:=L;rw[A]at h1 r j h f e a;have:=h1 _ rfl;subst this;have M:decide (64<(name.length:Int))=decide (64<name.length):=by rw[V9,ro,ro];omega
 rw[M]at r j h f e a;simp only[Y7]at r j h f e a ⊢;generalize br (decide (64<name.length)) s1=x at*;cases B:bt 1 aF x with
 |none=>
  rw[show bl 1 aF (σ x)=ν from B]at a;rw[a rfl];rfl
 |some N=>
 obtain⟨O,C⟩:=N;rw[show bl 1 aF (σ x)=σ (O,C)from B]at r j h f e a;have:=r _ rfl;subst this;simp only[Y7]at j h f e a ⊢;generalize br (decide (64<n)) C=y at*;cases E:bt 1 aF y with
 |none=>
  rw[show bl 1 aF (σ y)=ν from E]at a;rw[a rfl];rfl
 |some P=>
 obtain⟨Q,w⟩:=P;rw[show bl 1 aF (σ y)=σ (Q,w)from E]at j h f e a;have:=j _ rfl;subst this;simp only[Y7]at h f e a ⊢;cases F:bt 0 aF w with
 |none=>
  rw[show bl 0 aF (σ w)=ν from F]at a;rw[a rfl];rfl
 |some R=>
 obtain⟨S,G⟩:=R;rw[show bl 0 aF (σ w)=σ (S,G)from F]at h f e a;have:=h _ rfl;subst this;simp only[Y7]at f e a ⊢;generalize br (decide (256<cnt)) G=z at*;cases H:bt 1 aF z with
 |none=>
  rw[show bl 1 aF (σ z)=ν from H]at a;rw[a rfl];rfl
 |some T=>
 obtain⟨U,I⟩:=T;rw[show bl 1 aF (σ z)=σ (U,I)from H]at f e a;have:=f _ rfl;subst this;simp only[Y7]at e a ⊢;generalize br (decide (2147483648<k)) I=W at*;cases J:dc (ia most) n.toNat [] W with
 |none=>
  rw[a J];rfl
 |some X=>
 obtain⟨aa,K⟩:=X;obtain⟨V,Y⟩:=e _ J;subst Y;rw[V];simp only;show _=V8 _ (dc (λ_ s=>dA d6 s) cnt.toNat [] K);cases dc (λ_ s=>dA d6 s) cnt.toNat [] K<;>rfl
theorem Pq{f:cn}(ah:fG N f)(h:N<=60000):∀x∈f.ho,u3 f.k x:=λx J=>by
 obtain⟨h1,e,j⟩:=ah.ho x J;refine⟨ah.k,⟨?_,λz a=>?_⟩,h1.other,h1.lines,by have:=h1.len;omega,Ω⟩
 .rw[h1.d6,r9];exact e
 .rw[h1.d6]at a;obtain⟨v,ac,rfl⟩:=l9.1 a;have:=h1.scope.2 v ac;refine ah.d6.2.2 _ ?_;rw[r8,v8 Ω];exact S2 _
theorem Pr{p:x4}{pl:Λ}(ae:aQ .u8 w p pl)(aJ:Bytes pl)(bK:pl.length<=60000)(ad:fH w):aq x8 I7 [p] w (Ea w (ix pl)):=by
 have aK:1<w.heap.size:=by
  have:=ad 0 (.int .u64 1) rfl;obtain⟨c,e,f,aL,_⟩:=xd this;exact(Y2.1 aL).1
 have bL:aF=4611686018427387904:=rfl;refine aE func58 ?_;rw[a8 cW.u ae,bU,ao];refine⟨λh=>Ω,λ_=>?_⟩;refine(Cq ae aJ Ω).Y ?_;rintro _ U _ ⟨af,gs,rfl,bM,aM,P⟩;rw[ds (cs:=#[Γ gs,Δ 0,Δ 0,Δ 0,Δ 0,Δ 0,.slice ν 0 0]) Ψ];refine bn λg aa bN Q ag=>?_;have bO:=af.size;have bP:=Q.size;have aN:=ag.lt;have bQ:gs<U.heap.size:=P.2.2.2.1.lt;have bR:=r2 _ pl (o6 _);let s0:aO:=⟨(lex pl).1,0,sp,[]⟩;let B0:ak:=λr=>r<U.heap.size;have aP:eC aa g gs bX B0 s0 (lex pl).2:=by
  refine⟨⟨Ω,λh=>h,λh=>h,λr j=>?_,λr j=>by have j:r<U.heap.size:=j;omega⟩,⟨aM,pl,0,P.W Q,λr j=>?_,by rw[List.drop_zero]⟩,⟨by show(0:Int)<=0;omega,by show(0:Int)<=aF;omega,by show(([]:List (Λ×List (Λ×Int))).length+(lex pl).1.length<=100000);simp;omega⟩,0,0,0,0,.slice ν 0 0,ag,⟨by simp[s0],λ_=>rfl⟩,gH (α:=lZ)⟩
  .rcases j with rfl|rfl|j
   .exact aN
   .omega
   .exact j.elim
  .obtain⟨_,_,_,K,bg,hm⟩:=P;have G:=cd hm j;have H:=cB hm K Φ j;exact⟨λB=>by
    rcases B with B|B|B
    .omega
    .exact H B
    .exact B,by show r<U.heap.size;omega⟩
 have R:∀r,bT g gs bX r->w.heap.size<=r:=λr j=>by
  rcases j with rfl|rfl|j
  .omega
  .omega
  .exact j.elim
 refine(C5 aP).Y ?_;rintro _ bS _ ⟨A,name,bV,rfl,bW,bY,aR⟩;obtain⟨aT,aU⟩:=gJ.of A;rw[bz,bA,pG dj.u,bU];refine(sB aU).Y ?_;rintro _ bZ _ A;obtain⟨aV,aW⟩:=A.of;refine(nV (lo:=1) (hi:=aF) aW).Y ?_;rintro _ b0 _ ⟨A,n,b1,rfl,ah,aX⟩;obtain⟨aY,aZ⟩:=A.of;rw[bz,bA,bU];refine(sB aZ).Y ?_;rintro _ b2 _ A;obtain⟨a1,a2⟩:=A.of;refine(nV (lo:=1) (hi:=aF) a2).Y ?_;rintro _ b3 _ ⟨A,most,b4,rfl,aj,a6⟩;obtain⟨a7,ba⟩:=A.of;rw[bz,bA];refine(nV (lo:=0) (hi:=aF) ba).Y ?_;rintro _ b5 _ ⟨A,cnt,b6,rfl,al,bb⟩;obtain⟨bc,bd⟩:=A.of;rw[bz,bA,bU];refine(sB bd).Y ?_;rintro _ b7 _ A;obtain⟨be,bf⟩:=A.of;refine(nV (lo:=1) (hi:=aF) bf).Y ?_;rintro _ b8 _ ⟨A,k,b9,rfl,hk,ca⟩;obtain⟨bh,bi⟩:=A.of;rw[bz,bA,bU];refine(sB bi).Y ?_;rintro _ am _ A;obtain⟨bj,S⟩:=A.of;have an:ai (bT g gs bX) aa am:=(((((((aT.F aV).F aY).F a1).F a7).F bc).F be).F bh).F bj;have W:∀{lo:Int}{o:Option aO}{x:Int},0<=lo->lo<=1->(∀q,bl lo aF o=σ q->x=q.1)->(bl lo aF o=ν->x=0)->0<=x/\x<=aF:=λ{lo o x}cb h1 V bk=>by
  cases a:bl lo aF o with
  |none=>rw[bk a];omega
  |some q=>
   have G:=oJ (n:=q.1) (s':=q.2) a;rw[V q a];omega
 have cc:=W Ω Ω ah aX;have ce:=W Ω Ω al bb;have cf:=W Ω Ω aj a6;obtain⟨N,bm⟩:∃N:Nat,n=(N:Int):=⟨n.toNat,Ω⟩;obtain⟨C,bo⟩:∃C:Nat,cnt=(C:Int):=⟨cnt.toNat,Ω⟩;have bp:n.toNat=N:=Ω
 have bq:cnt.toNat=C:=Ω
 have bs:ej s0:=λ_=>by show(0:Int)<=16384;omega
 have L:∀{o:Option aO}{b:Bool},(∀s,o=σ s->ej s)->∀s,o.map (br b)=σ s->ej s:=λh s V=>by
  obtain⟨t,X,rfl⟩:=Y0.1 V;exact(h t X).big
 have M:∀{o:Option aO}{lo hi:Int},(∀s,o=σ s->ej s)->∀s,(bl lo hi o).map (·.2)=σ s->ej s:=λ{o lo hi}h s V=>by
  obtain⟨q,a,rfl⟩:=Y0.1 V;cases o with
  |none=>cases a
  |some t=>exact(h t rfl).num (n:=q.1) (s':=q.2) a
 have bt:∀s,(eh s0).map (·.2)=σ s->ej s:=λs V=>by
  obtain⟨q,a,rfl⟩:=Y0.1 V;exact bs.word (w:=q.1) (s':=q.2) a
 have ap:=L (b:=decide (2147483648<k)) (M (lo:=1) (hi:=aF) (L (b:=decide (256<cnt)) (M (lo:=0) (hi:=aF) (M (lo:=1) (hi:=aF) (L (b:=decide (64<n)) (M (lo:=1) (hi:=aF) (L (b:=decide (64<(name.length:Int))) bt)))))));have y:=λ(d6:Λ)(so6:Option aO)=>Pp (s0:=s0) (name:=name) (d6:=d6) (n:=n) (most:=most) (cnt:=cnt) (k:=k) (so6:=so6) aR ah aj al hk;rw[bp]at y;generalize cg:V8 (br (decide (2147483648<k))) (V8 (λx=>x.2) (bl 1 aF (V8 (br (decide (256<cnt))) (V8 (λx=>x.2) (bl 0 aF (V8 (λx=>x.2) (bl 1 aF (V8 (br (decide (64<n))) (V8 (λx=>x.2) (bl 1 aF (V8 (br (decide (64<(name.length:Int)))) (V8 (λx=>x.2) (eh s0)))))))))))))=au at ap S y;rw[bm];refine Ph S Ω λhv Y d6 so6 gz bu av aw ch bw ax ay=>?_;have y:=y d6 so6 ax ay;rw[bq]at y;have Z:ai (bT g gs bX) aa Y:=an.F bu;have z12:=Z.size;have az:=af.F Q;have bx:ai (λr=>w.heap.size<=r) w Y:=(az.ab _).F (Z.Y λr _ h=>R r h);have ci:=av.side;have aA:∀J,so6=σ J->ej J/\(∀z∈d6,1<=z/\z<=aF)/\d6.length<=100000:=λJ ac=>by
  cases a:fW (ia most) N [] au with
  |none=>rw[ay a]at ac;cases ac
  |some q=>
   obtain⟨G,H⟩:=ax q a;cases ac.symm.F G;subst H;cases au with
   |none=>cases a
   |some bB=>
    obtain⟨bC,bD,cj⟩:=Po (ap bB rfl) Ω a;exact⟨bC,bD,by have:=S.words;omega⟩
 rw[bo];have aB:∀r,lc hv r->am.heap.size<=r/\r<Y.heap.size:=λr j=>by have:=cd aw j;omega
 have ck:=an.size;refine Pn av.q (λs V=>(aA s V).1) Ω aw.ls (λr j=>?_) (λO=>?_) bw ((ad.W az).ab Z λB=>by have:=R 1 B;omega) ⟨aK,λ_=>⟨λB=>by have:=R 1 B;omega,by show 1<U.heap.size;omega⟩⟩
  bx Ω Ω ⟨Ω,Ω⟩ (λ_ r h=>h.elim) λcl cm acc so aS cp cq cr aC ct bE bF bG bH aD bI=>?_
 .have:=aB r j;exact⟨Ω,Ω,Ω,λ_ h=>h⟩
 .cases aG:so6 with
  |none=>exact m6 aG O
  |some J=>exact(aA J aG).2.1
 have cu:=aC.size;have E:ix pl=match jW s0 with
   |none=>ν
   |some (f,s)=>if s.hp=[]/\(lex pl).2=s2/\s.big=sp then σ f else ν:=by
  unfold ix;rw[m5 Ω];have e:jW ⟨(lex pl).1,0,sp,[]⟩=jW s0:=rfl;rw[e];cases jW s0<;>rfl
 refine Pg bE ⟨λs V X bJ K=>?_,λO=>?_⟩ bH (λr j=>by have:=aB r j;exact⟨Ω,Ω⟩) bF bG (λ_=>trivial) Ω Ω aC Ω Ω ae λv I h=>h
 .cases a:fW (λ_ s=>dA d6 s) C [] so6 with
  |none=>rw[bI a]at V;cases V
  |some q=>
   obtain⟨G,H⟩:=aD q a;cases V.symm.F G;rw[a]at y;have y:jW s0=σ ((⟨name,k,d6,q.1⟩:cn),q.2):=y;have aH:=(C2 rfl y K).1;rw[y]at E;simp only at E;rw[m3 ⟨X,bJ,K⟩]at E;exact⟨q.1,H,E,Pq aH (by show(lex pl).1.length<=60000;omega),aH.mO,Ω⟩
 .cases a:fW (λ_ s=>dA d6 s) C [] so6 with
  |none=>
   rw[a]at y;have y:=y;rw[y]at E;exact m6 E O
  |some q=>
   obtain⟨G,H⟩:=aD q a;rw[a]at y;have y:jW s0=σ ((⟨name,k,d6,q.1⟩:cn),q.2):=y;rw[y]at E;simp only at E;by_cases aI:q.2.hp=[]/\(lex pl).2=s2/\q.2.big=sp
   .exact⟨q.2,G,aI⟩
   .rw[m5 aI]at E;exact m6 E O
theorem yh(s t cs:Λ):∃e,uj s t cs= .tuple #[Δ (bu s cs t),Δ e]:=by
 unfold uj bu;cases cj s t 0 with
 |none=>exact⟨3,rfl⟩
 |some n=>exact⟨0,rfl⟩
theorem Ps:aq x8 Bu [sv] w λr I=>Ext w I/\∃g,r= .func (.func qB) #[] #[Γ g]/\w.heap.size<=g/\aj I g au sv.cells.toList:=by
 refine aE func241 ?_;refine bn λg U f a e=>?_;rw[lS];exact⟨a,g,rfl,Ω,e⟩
theorem Pt{f:S8}{cap:Array x4}{A:Nat->List x4->x5->Prop}{e:x5->Prop}{L:Λ}(P:qu x8 f cap.toList n A e)(B:∀k vs w,A k vs w->∃x,L[k]?=σ x/\vs=[Δ x])(he:∀a b,ai (λr=>w.heap.size<=r) a b->e a->e b)(Q:e w)(R:n=L.length)(ao:L.length<=1000000):
  aq x8 Jq [.slice ν 0 0,.func (.func f) #[] cap] w λv I=>Ext w I/\∃g,w.heap.size<=g/\aH .i64 al I g v L:=by
 refine jq func80 ?_;refine bn λgs U ap C j=>?_;have j:=j;have av:=j.lt;have E:∀{a b:x5},Ext a b->e a->e b:=λJ=>he _ _ (J.ab _);refine kH.old ⟨Nat,sp,f,cap,0,_,_,e,λk I=>ai (λr=>w.heap.size<=r) w I/\∃v g,gs<g/\aj I gs au [v]/\aH .i64 al I g v (L.take k),λ_ _ _=>False,rfl,P.s,?_,λ_ _ J h=>E J h,
  λ_ _ _ J h=>⟨h.1.F (J.ab _),by obtain⟨v,g,h1,S,V⟩:=h.2;exact⟨v,g,h1,S.W J,V.W J⟩⟩,λ_ _ _ _ _ h=>h,E C Q,⟨C.ab _,_,gs+1,Ω,j,aH.nil _ _ _ _⟩,?_,?_,λ_ _ h=>h.elim,λ_ _ _ h=>h.elim⟩
 .rintro k vs aw I ⟨_,_,h⟩;obtain⟨x,_,rfl⟩:=B k vs I h;rfl
 .rintro a k _ aa hW ⟨hk,rfl,X⟩ ⟨Y,v,g,Z,G,ac⟩;obtain⟨x,J,ad⟩:=B k _ aa X;cases ad;intro ax q _ _;have H:=G.W q;rw[aG Ψ (H.cell rfl)];refine e6 au.u al.i rfl λa ga ay az y ae=>?_;have aA:(L.take k).length<=1000000:=Θ
  refine kL au.u al.i rfl ((ac.W q).W y) ae.ls (by simp only[W5,List.length_nil];omega) (by simp only[W5,List.length_nil];omega) λaf ag aB aC z K=>?_;have aD:=G.lt;have aE:=q.size;have aF:=y.size;refine bw au.i z.ls.cells.1 z.ls.cells.2 (((H.W y).ab K Ω)) Ξ λah M aI ak=>?_;have N:ai (λr=>w.heap.size<=r) aa ah:=(((q.F y).ab _).F (K.Y λr _ h=>by show w.heap.size<=r;omega)).F (M.Y λr _ h=>by show w.heap.size<=r;omega);refine⟨he _ _ N hW,⟨Y.F N,af,ag,Ω,ak,?_⟩,λh=>by cases h⟩;rw[u9,J];exact z.ab M (λ_=>Ω)
 .rintro k aJ hk ⟨am,v,g,Z,an,ac⟩;have hk:=hk;subst hk;rw[aG Ψ (an.cell rfl)];intro aK O _;rw[R,o9]at ac;exact⟨(am.W λr aL h=>by have:w.heap.size<=r:=h;omega).F O,g,Ω,ac.W O⟩
theorem Ec{f:S8}{cap:Array x4}{j:Nat->List x4->x5->Prop}{e:x5->Prop}{L:Λ}(q:qu x8 f cap.toList n j e)(s:∀k vs w,j k vs w->∃x,L[k]?=σ x/\vs=[Δ x])(he:∀a b,ai (λr=>w.heap.size<=r) a b->e a->e b)(y:e w)(z:n=L.length)(A:L.length<=1000000):
  aq x8 A3 [.func (.func f) #[] cap] w λv I=>Ext w I/\∃g,w.heap.size<=g/\aH .i64 al I g v L:=by
 refine aE func34 ?_;exact(Pt q s he y z A).Y λ_ _ _ h=>h
theorem Pu{x:Int}:aq x8 cmp_Less_int [Δ x,Δ y] w λv I=>v= .bool (decide (x<y))/\Ext w I:=by
 refine aE func323 ?_;refine a6 (λv U=>v= .bool (decide (x<y))/\Ext w U) (λ_ _ h=>h) λaA a=>?_;have e:∀{z:Int}{w:x5},aq x8 cmp_isNaN_int [Δ z] w λv I=>v= .bool sp/\Ext w I:=λ{z w}=>by
  refine aE func253 ?_;simp only[bM];exact⟨Ξ,Ext.refl _⟩
 refine e.Y ?_;rintro _ aa _ ⟨rfl,f⟩;rw[bc];simp only[aW];exact a _ _ ⟨rfl,f⟩
theorem Pv{P:W0}{t:o4}{cx cy:Bool}{k:o8}{a b:Int}:ch P (aT .sub t cx cy (.int k a) (.int k b)) (.int k (k.wrap (a-b))) w:=λI _=>by simp[aT,eqGuard,binOp,Op.intArith]
theorem Pw{g:Nat}(h:aH .i64 al w g sv l)(ak:l.length<=1000000):
  aq x8 LR [sv,Δ 0,Δ l.length] w λ_ I=>ai (λr=>r=g) w I/\∃m,m.Perm l/\m.Pairwise (·<= ·)/\aH .i64 al I g sv m:=by
 refine aE func317 ?_;simp only[aR];refine⟨λt U=>∃(i:Nat)(m:Λ),t=Δ i/\1<=i/\(i<=l.length\/i=1)/\m.Perm l/\sg m i/\ai (λr=>r=g) w U/\aH .i64 al U g sv m,λt _=>l.length+1-(b2 t).toNat,
  ⟨1,l,by congr 1,Ω,.inr rfl,.refl _,λp q x y h1 S=>Ω,ai.refl _ _,h⟩,?_⟩
 rintro _ U ⟨i,m,rfl,am,an,z,J,K,hm⟩;have V:=z.length_eq;simp only[aW,ao];refine⟨λW=>?_,λap=>?_⟩
 .have W:i<l.length:=Ω
  refine⟨λt aa=>∃(j:Nat)(m:Λ),t=Δ j/\j<=i/\m.Perm l/\qT m i j/\ai (λr=>r=g) w aa/\aH .i64 al aa g sv m,λt _=>(b2 t).toNat,⟨i,m,rfl,o6 _,z,Nb J,K,hm⟩,?_⟩;rintro _ aa ⟨j,m,rfl,X,z,E,L,hm⟩;have V:=z.length_eq;refine a6 (λv M=>Ext aa M/\∃c,v= .bool c/\(c=s2->0<j/\∃a b,m[j-1]?=σ a/\m[j]?=σ b/\b<a)/\(c=sp->j=0\/0<j/\∃a b,m[j-1]?=σ a/\m[j]?=σ b/\a<=b)) ?_ ?_
  .rintro _ M ⟨B,c,rfl,Y,Z⟩;rw[cb];refine⟨λh=>?_,λh=>?_⟩
   .obtain⟨A,a,b,f,s,G⟩:=Y h;intro av N _ _;have C:=(hm.W B).W N;have e:X5.wrap ((j:Int)-1)=((j-1:Nat):Int):=by rw[lm Ω Ω];omega
    simp only[dr,e];rw[bk au.u al.i Ψ C.ls f,bk au.u al.i Ψ C.ls s,ju rfl au.u al.i C Ω];refine jv al.i C Ω λac ad aw O=>⟨.inr ⟨by have:=Pv (P:=x8) (w:=ac) (t:=al) (cx:=sp) (cy:=s2) (k:=.i64) (a:=(j:Int)) (b:=1);rwa [e]at this,trivial⟩,?_⟩;rw[ju rfl au.u al.i O Θ];refine jv al.i O Θ λax ae ay af=>?_;refine⟨⟨j-1,_,rfl,Ω,(swap_perm Ω f s).F z,Nf E A X f s G,((L.F ((B.F N).ab _)).F ad).F ae,af⟩,?_⟩;simp only[b2];omega
   .simp only[aR];rw[lm Ω Ω];refine⟨⟨i+1,m,rfl,Ω,.inl Ω,z,?_,L.F (B.ab _),hm.W B⟩,?_⟩
    .rcases Z h with rfl|⟨A,a,b,f,s,G⟩
     .exact Nc E
     .exact Nd E A f s G
    .simp only[b2];omega
  .intro aA Q az H _ _;have R:=hm.W H;simp only[bU,ao];refine⟨λA=>?_,λA=>Q _ _ ⟨H,sp,rfl,(λh=>by cases h),λ_=>.inl Ω⟩⟩;have e:X5.wrap ((j:Int)-1)=((j-1:Nat):Int):=by rw[lm Ω Ω];omega
   obtain⟨b,s⟩:=aI (l:=m) (i:=j) Ω;obtain⟨a,f⟩:=aI (l:=m) (i:=j-1) Ω;rw[bk au.u al.i Ψ R.ls s];simp only[dr,e];rw[bk au.u al.i Ψ R.ls f];refine Pu.Y ?_;rintro _ aB _ ⟨rfl,ag⟩;refine Q _ _ ⟨H.F ag,_,rfl,λh=>⟨Ω,a,b,f,s,by simpa using h⟩,λh=>.inr ⟨Ω,a,b,f,s,by simpa using h⟩⟩
 .refine⟨K,m,z,Ng λp q x y h1 S ah aj=>J p q x y h1 Ω ah aj,hm⟩
theorem Px{P:W0}{t:o4}{k:o8}{s:ByteArray}{i:Nat}(a:P.underlying t=σ .string)(hi:i<s.size)(e:∀b:Nat,b<256->K (.int .u8 b)):
  ad P (Instr.index t (.string s) (.int k (i:Int))) w K:=by
 have f:s[i]?=σ s[i]:=by simp[hi]
 have:ad P (Instr.index t (.string s) (.int k (i:Int))) w K=K (.int .u8 s[i].toNat):=ad.of λI _=>by
  simp[Instr.index,asIntOf,run_underlying a,hi]
 rw[this];exact e _ (UInt8.toNat_lt _)
theorem Py(a:n<256):aq x8 Lk [.int .u64 (n:Int)] w λv I=>(∃r,v=Δ r)/\Ext w I:=by
 refine aE func252 ?_;refine aq.Y (K:=λv I=>(∃r,v=Δ r)/\Ext w I) ?_ (λ_ _ _ h=>h);refine aE func291 ?_;simp only[cG,cT,ao];refine⟨λh=>Ω,λ_=>⟨λh=>Ω,λ_=>⟨λh=>Ω,λ_=>?_⟩⟩⟩;rw[fR gi.u cV.u,wrap_u8 Ω Ω];refine Px dj.u (by exact Nat.lt_of_lt_of_le a Φ) λb e=>?_;rw[fR cV.u al.u];simp only[aR];exact⟨⟨_,rfl⟩,Ext.refl _⟩
theorem Pz{g:Nat}(h:aH .i64 al w g sv l)(f:l.length<=12):
  aq x8 Ly [sv] w λ_ I=>ai (λr=>r=g) w I/\∃m,m.Perm l/\m.Pairwise (·<= ·)/\aH .i64 al I g sv m:=by
 refine aE func277 ?_;rw[a8 au.u h.ls,fR al.u qD.u,lw Ω Ω];refine(Py Ω).Y ?_;rintro _ U _ ⟨⟨r,rfl⟩,e⟩;refine aq.Y (K:=λ_ I=>ai (λr=>r=g) U I/\∃m,m.Perm l/\m.Pairwise (·<= ·)/\aH .i64 al I g sv m) ?_ (λ_ _ _ h=>⟨(e.ab _).F h.1,h.2⟩);refine aE func302 ?_;refine⟨λa b _ _ _ aa=>a=Δ 0/\b=Δ l.length/\U=aa,λ_ _ _ _ _ _=>0,⟨rfl,rfl,rfl⟩,?_⟩;rintro _ _ _ _ _ _ ⟨rfl,rfl,rfl⟩;simp only[dr,mB,ao];rw[lm Ω Ω];refine⟨λ_=>?_,λh=>Ω⟩;refine(Pw (h.W e) Ω).Y ?_;exact λ_ _ _ h=>h
theorem PA{f:S8}{cap:Array x4}{j:Nat->List x4->x5->Prop}{e:x5->Prop}{L:Λ}(q:qu x8 f cap.toList n j e)(s:∀k vs w,j k vs w->∃x,L[k]?=σ x/\vs=[Δ x])(he:∀a b,ai (λr=>w.heap.size<=r) a b->e a->e b)(y:e w)(z:n=L.length)(A:L.length<=12):
  aq x8 Bt [.func (.func f) #[] cap] w λv I=>Ext w I/\∃g m,w.heap.size<=g/\m.Perm L/\m.Pairwise (·<= ·)/\aH .i64 al I g v m:=by
 refine aE func240 ?_;refine(Ec q s he y z Ω).Y ?_;rintro v U _ ⟨B,g,C,ac⟩;refine(Pz ac A).Y ?_;rintro _ aa _ ⟨E,m,h1,G,H⟩;exact⟨B.then E (by rintro r J rfl;omega),g,m,C,h1,G,H⟩
theorem Ed{x:Int}(h:aQ .i64 w sv l):
  aq x8 Bv [sv,Δ x] w λv I=>Ext w I/\∃r:Int,v=Δ r/\∀i:Nat,l[i]?=σ x->(r=i↔ ∀j,j<i->l[j]? ≠σ x):=by
 refine aE func242 ?_;rw[a8 au.u h];refine ce.range l.length (λi _ U=>Ext w U/\∀j,j<i->l[j]? ≠σ x) h.le ⟨Ext.refl _,λj s=>Ω⟩ ?_ ?_
 .rintro i _ U k hi ⟨a,e⟩ hk;simp only[aW,ao];refine⟨λ_=>?_,λh=>Ω⟩;obtain⟨y,f⟩:=aI (l:=l) hi;rw[bk au.u al.i Ψ (h.W a) f];simp only[bm,ao,aR];refine⟨λhe=>⟨a,i,rfl,λq z=>?_⟩,λhe=>hk _ _ ⟨a,λj s=>?_⟩⟩
  .subst he;refine⟨λC=>by
              have:i=q:=Ω
              subst this;exact e,λA=>?_⟩
   rcases Nat.lt_trichotomy i q with h1|h1|h1
   .exact m6 f (A i h1)
   .omega
   .exact m6 z (e q h1)
  .by_cases B:j=i
   .subst B;rw[f];intro h;exact he (Z5 h).symm
   .exact e j Ω
 .rintro _ U k ⟨a,e⟩;simp only[aW,ao];refine⟨λh=>Ω,λ_=>⟨a,-1,rfl,λi hi=>?_⟩⟩;exact m6 hi (e i (x6.1 hi).1)
theorem PB{g:Nat}(j:aj w0 g au [sv])(a:aQ .i64 w0 sv l):
  qu x8 qB [Γ g] l.length (λk vs _=>∃x,l[k]?=σ x/\vs=[Δ x]) (λw=>Ext w0 w):=by
 refine⟨qB.enters,λy aA B w C _ q J r=>?_⟩;refine rW func278 ?_;rw[aG Ψ ((j.W J).cell rfl),a8 au.u (a.W J)];refine b7.range l.length (λi aa=>aA i aa/\Ext w0 aa) a.le ⟨r,J⟩ ?_ ?_
 .rintro i aa k hi ⟨e,f⟩ hk;simp only[aW,ao];refine⟨λ_=>?_,λh=>Ω⟩;obtain⟨x,J⟩:=aI (l:=l) hi;rw[bk au.u al.i Ψ (a.W f) J];refine⟨rfl,(q i _ aa hi f ⟨x,J,rfl⟩ e).Y ?_⟩;rintro _ E (⟨rfl,s,z⟩|⟨rfl,A⟩)
  .simp only[bN,Y5,bc,aR];exact hk _ ⟨z.1,s⟩
  .simp only[bN,X6,bS];exact .inr ⟨i,hi,A⟩
 .rintro aa k ⟨e,_⟩;simp only[aW,ao];exact⟨λh=>Ω,λ_=>.inl e⟩
theorem yi{K:x4->x5->Prop}(h:aQ .i64 w sv l)(j:l.length<=12)(q:∀v I g m,Ext w I->w.heap.size<=g->m.Perm l->m.Pairwise (·<= ·)->aH .i64 al I g v m->K v I):
  aq x8 Bu [sv] w λt U=>aq x8 Bt [t] U K:=by
 refine Ps.Y ?_;rintro _ U _ ⟨f,g,rfl,B,e⟩;have e:aj U g au [sv]:=by rw[h.cells.1]at e;exact e
 refine(PA (PB e (h.W f)) (λ_ _ _ h=>h) (λa b s J=>J.then s (λr C h=>Ω)) (Ext.refl _) rfl j).Y ?_;rintro v aa _ ⟨x,y,m,E,h1,z,A⟩;have:=f.size;exact q v aa y m (f.F x) Ω h1 z A
def PC(w:x5)(an:Λ)(k:Int)(cs a:Λ)(v:x4)(I:x5):Prop:=
 Ext w I/\
  (¬Good a an.length->v= .tuple #[.pointer ν,Δ 1])/\
  (Good a an.length->∃e f h,v= .tuple #[Γ e,Δ 0]/\du I e f h (fh an a) k (pL an cs a))
theorem PD{g bD:Nat}{X:x4}{cs z:Λ}(h:du w g bD sv an k cs)(hk:right k)(aC:aQ .i64 w X z)(cm:z.length<=12)(ae:Good z an.length->aX (fh an z)<=4096):
  aq x8 Ld [Γ g,X] w (PC w an k cs z):=by
 have az:=h;have cn:=h.2.2.1;have cp:=aC.cells;refine jq func243 ?_;refine bn λg1 U c5 bF B=>?_;refine bn λbI aa c6 a2 A=>?_;have s1:=bF.size;have c7:=a2.size;have c8:=B.lt;have c9:=A.lt;have a6:=bF.F a2;have B:=B.W a2;have A:aj aa bI au [X]:=by rw[cp.1]at A;exact A
 rw[aG Ψ (B.cell rfl),dl fs.u];simp only[b8,bc];rw[aG Ψ (A.cell rfl)];have cq:=aC.W a6;have sub:∀{w:x5}{g:Nat}{sv:x4}{k:Int}{bf:x4},aj w g db [sv,Δ k,bf]->w.rangeAt g (0+0) [sv]:=λH=>pE H (by
  intro j v ac
  match j,ac with
  |0,ac=>exact ac)
 refine yi cq cm λeE cr dB m bJ da a7 ct hm=>?_;have cu:=a7.length_eq;rw[a8 au.u hm.ls];have cw:=a6.F bJ;refine kE.range m.length (λi _ _ ba=>Ext cr ba/\∀j,j<i->m[j]?=σ (j:Int)) Ω ⟨Ext.refl _,λj bb=>Ω⟩ ?_ ?_
 .rintro i _ _ ba Y hi ⟨Z,bd⟩ ad;simp only[aW,ao];refine⟨λ_=>?_,λh=>Ω⟩;obtain⟨y,af⟩:=aI (l:=m) hi;rw[bk au.u al.i Ψ (hm.ls.W Z) af];simp only[bM,ao,aR];refine⟨λag dc cz _=>⟨(cw.F Z).F cz,λ_=>rfl,λbe=>?_⟩,λhe=>ad _ _ _ ⟨Z,λj bb=>?_⟩⟩
  .have:=CM be a7 ct i hi;rw[af]at this;exact m6 (Z5 this).symm ag
  .by_cases cA:j=i
   .subst cA;rw[af];congr 1;omega
   .exact bd j Ω
 .rintro _ _ ba Y ⟨Z,bd⟩;simp only[aW,ao,ey];refine⟨λh=>Ω,λ_ dd cB _ _=>?_⟩;have C:=Nh bd a7;have ah:=(bJ.F Z).F cB;have aA:=a6.F ah;have B:=B.W ah;have A:=A.W ah;have cC:=aC.W aA;have cD:=az.W aA;have de:=ah.size;obtain⟨⟨bf,gs,H,aD,bK⟩,_⟩:=id cD;rw[aG Ψ (A.cell rfl),a8 au.u cC,aG Ψ (B.cell rfl),cc,a1 db.p rfl,bH (cs:=[sv]) bO.p bO.i rfl (sub H)];refine(Da aD.ls).Y ?_;rintro _ df _ ⟨rfl,K⟩;refine⟨.inl K,?_⟩;simp only[bM,ao];refine⟨λag dg cE _=>⟨(aA.F K).F cE,λ_=>rfl,λbe=>m6 (by rw[be.1]) ag⟩,λdh=>?_⟩;have bg:z.length=an.length:=Ω
  have C:Good z an.length:=by rw[<-bg,<-cu];exact C
  have di:=ah.F K;have bh:=aA.F K;have B:=B.W K;have A:=A.W K;have bL:=aC.W bh;rw[aG Ψ (A.cell rfl),a8 au.u bL];refine kM au.u al.i Ω Ω λgz cF dj P bN=>?_;have cG:=aH.of (n:=z.length) (cf.full bN Ξ (by simp[maxLen];omega));generalize (x4.slice (σ ⟨gz,0,ν⟩) z.length z.length)=cH at*;have dk:=K.size;have dm:=P.size;have dn:=bN.lt;rw[aG Ψ ((A.W P).cell rfl),a8 au.u (bL.W P)];have bP:=bh.F P;have aE:(fh an z).length=z.length:=uz _ _;refine b7.range z.length (λi aF=>ai (λr=>r=gz) cF aF/\aH .i64 al aF gz cH (upto (fh an z) 0 i)) Ω ⟨ai.refl _ _,by rw[qQ,aE];exact cG⟩ ?_ ?_
  .rintro i aF Y hi ⟨L,aJ⟩ ad;simp only[aW,ao];refine⟨λ_=>?_,λh=>Ω⟩;have ak:=bP.then L (by rintro r M rfl;omega);have aK:=P.then L (by rintro r M rfl;omega);obtain⟨p,bi⟩:=aI (l:=z) hi;obtain⟨⟨bf,gs,H,aD,bK⟩,_⟩:=az.W ak;rw[bk au.u al.i Ψ (aC.W ak) bi,aG Ψ ((B.W aK).cell rfl),cc,a1 db.p rfl,bH (cs:=[sv]) bO.p bO.i rfl (sub H)];refine(sk aD.ls).Y ?_;rintro _ dp _ ⟨rfl,bQ⟩;have bR:=aJ.W bQ;have cI:(upto (fh an z) 0 i).length=z.length:=by rw[pJ,aE]
   rw[ju rfl au.u al.i bR Ω];refine jv al.i bR Ω λdq cJ _ bS=>?_;simp only[aR];have h1:=(C.2 i p bi).1;have am:(fh an z)[i]?=σ (jA an p):=by
    unfold fh jA;rw[u4,bi,m3 h1.1];rfl
   rw[qS am]at bS;exact ad _ ⟨(L.F (bQ.ab _)).F cJ,bS⟩
  .rintro aF Y ⟨L,aJ⟩;simp only[aW,ao];refine⟨λh=>Ω,λ_=>?_⟩;have ak:=bP.then L (by rintro r M rfl;omega);have aK:=P.then L (by rintro r M rfl;omega);rw[<-aE,qR]at aJ;obtain⟨⟨bf,gs,H,aD,bK⟩,_⟩:=az.W ak;rw[aG Ψ ((B.W aK).cell rfl),aP db.p 1 H rfl];have aL:=cn.Nj C rfl;have bT:=ae C;have dr:=prod_bound aL;refine(xm aJ.ls).Y ?_;rintro _ bU _ ⟨bV,_,_,_,cK⟩;obtain⟨ap,E,Q,rfl,ds,dt,dv,aM⟩:=cK aL bT ⟨hk,Ω,by have:=hk.1;omega⟩;obtain⟨N,aN⟩:∃N:Nat,(aX (fh an z)).toNat=N:=⟨_,rfl⟩;rw[aN]at aM;rw[bz,bA];refine bE fs.i λbW dw dx bX av=>?_;refine bw fs.i rfl rfl av (by simp[x4.cells]) λdy cL dA av=>?_;have dC:=L.size;have dD:=bV.size;have dE:=bX.size;have bj:=bX.then cL (by rintro r M rfl;omega);have bY:=bV.F bj;have cM:=aM.W bj;have dF:=av.lt;obtain⟨⟨bl,bZ,b0,b1,cN⟩,⟨b2,b3,_⟩,_,dG⟩:=id cM;have dH:0<N:=Ω
   have dI:ap<bU.heap.size:=by obtain⟨⟨_,_,q,_⟩,_⟩:=id aM;exact q.lt
   have dJ:E<bU.heap.size:=by obtain⟨⟨_,_,_,_,q⟩,_⟩:=id aM;exact sF q Θ
   rw[aG Ψ (av.cell rfl),cc,a1 db.p rfl,bH (cs:=[Q]) bO.p bO.i rfl (sub b0)];refine xQ.Y ?_;rintro _ O _ ⟨G,aO,rfl,dK,b4⟩;have dL:=bj.size;have dM:=G.size;let S:Nat->Prop:=λr=>r=E;let R:=pL an cs z;have bm:R.length=N:=by simp only[R];rw[CS,aN]
   let cO:x5->Prop:=λI=>aj I g1 fs [Γ g]/\aj I bI au [X]/\aj I bW fs [Γ ap]/\aj I ap db [Q,Δ k,bl]/\
    du I g bD sv an k cs/\aQ .i64 I X z/\aH .i64 al I bZ Q (fh an z)/\aj I aO bO [Q]/\O.heap.size<=I.heap.size
   have V:∀{a:x5},ai S O a->cO a:=by
    intro a J;have bo:=(aK.F bY).F G;have bp:=bo.put J Ω;have b5:=bh.F bp;refine⟨B.W bp,A.W bp,(av.W G).ab J (by show¬(bW=E);omega),(b0.W G).ab J (by show¬(ap=E);exact b2),az.W b5,aC.W b5,bG (b1.W G) J (λr M he=>b3 ((show r=E from he)▸M)),
     b4.ab J (by show¬(aO=E);omega),J.size⟩
   have b6:=xP (g:=aO) (B0:=O.heap.size) (sv:=Q) aL;rw[aN]at b6;refine qv.old ⟨Nat,sp,nD,#[Γ aO],0,_,_,_,λq I=>ai S O I/\aH .i64 ay I E bl (upto R 0 q),λ_ _ _=>False,rfl,b6.s,
    ?_,λ_ _ J h=>⟨h.1.W J,h.2.1.W J,X3 h.2.2 J.size⟩,λ_ _ _ J h=>⟨h.1.F (J.ab S),h.2.W J⟩,λ_ _ _ _ _ h=>h,⟨b4,(b1.W G).ls,o6 _⟩,⟨ai.refl _ _,?_⟩,?_,?_,λ_ _ h=>h.elim,λ_ _ _ h=>h.elim⟩
   .rintro _ _ _ _ ⟨_,_,_,_,rfl,_⟩;rfl
   .rw[qQ,bm];exact cN.W G
   .rintro _ aY q _ dN ⟨_,_,dO⟩ ⟨am,rfl,dP,gt,cP,dQ,cQ⟩ ⟨aS,cR⟩;cases cP;let x:=dz (fh an z) (q:Int);have b9:x.length=z.length:=by simp only[x];rw[kN,aE]
    intro cS W _ _;have ca:=cQ.W W;rw[a8 au.u ca.ls];refine kM au.u al.i (by rw[kN];omega) (by rw[kN];omega) λgo cT dR bq cb=>?_;have cU:=aH.of (n:=(dz (fh an z) (q:Int)).length) (cf.full cb Ξ (by rw[kN];simp[maxLen];omega));generalize (x4.slice (σ ⟨go,0,ν⟩) (dz (fh an z) (q:Int)).length (dz (fh an z) (q:Int)).length)=cV at*;have dS:=aS.size;have dT:=W.size;have dU:=bq.size;have lo:=cb.lt;have cW:ai S O cT:=aS.F ((W.F bq).ab S);have f:=V cW;rw[aG Ψ (f.2.1.cell rfl),a8 au.u f.2.2.2.2.2.1];refine b7.range z.length (λj aT=>Ext cS aT/\∃y:Λ,y.length=z.length/\aH .i64 al aT go cV y/\∀(i:Nat)(p:Int),i<j->z[i]?=σ p->y[p.toNat]?=x[i]?) Ω
     ⟨bq,_,by simp[b9,x],cU,λi p hi=>Ω⟩ ?_ ?_
    .rintro j aT Y bb ⟨aw,y,br,aU,bs⟩ ad;simp only[aW,ao];refine⟨λ_=>?_,λh=>Ω⟩;have f:=V (aS.F ((W.F aw).ab S));obtain⟨p,aV⟩:=aI (l:=z) bb;obtain⟨u,hu⟩:=aI (l:=x) (i:=j) Ω;have dV:=(C.2 j p aV).1;rw[bk au.u al.i Ψ f.2.2.2.2.2.1 aV,bk au.u al.i Ψ (ca.W aw).ls hu,ju (i:=p.toNat) Ω au.u al.i aU Ω];refine jv al.i aU Ω λdW cX dX cY=>?_;simp only[aR];refine ad _ ⟨aw.then cX (by rintro r M rfl;omega),_,by simpa using br,cY,λi aZ hi ax=>?_⟩;by_cases cd:i=j
     .subst cd;rw[aV]at ax;cases ax;rw[Z6 Ω,hu]
     .have dY:=(C.2 i aZ ax).1;have ag:p.toNat≠aZ.toNat:=λhe=>by
       have:p=aZ:=Ω
       subst this;exact cd (C.inj ax aV)
      rw[Y9 ag];exact bs i aZ Ω ax
    .rintro aT Y ⟨aw,y,br,aU,bs⟩;simp only[aW,ao];refine⟨λh=>Ω,λ_ cZ ce _ _=>?_⟩;have af:=CQ C (by rw[b9,bg]) (by rw[br,bg]) λi p cg=>bs i p (x6.1 cg).1 cg;have ch:=aw.F ce;have ci:ai S O cZ:=aS.F ((W.F ch).ab S);obtain⟨f1,f2,f3,f4,f5,f6,f7,f8,f9⟩:=V ci;rw[aG Ψ (f3.cell rfl),aP db.p 2 f4 rfl,aG Ψ (f1.cell rfl)];refine(xn f5 (aU.ls.W ce)).Y ?_;rintro _ dZ _ ⟨rfl,bt⟩;refine⟨.inl bt,?_⟩;obtain⟨e,he⟩:=yh an y cs;rw[he,bz,bA];have c0:=ci.F (bt.ab S);have cj:=(cR.W ((W.F ch).F bt));have cI:(upto R 0 q).length=N:=by rw[pJ,bm]
     rw[ju rfl aB.u ay.i cj Ω];refine jv ay.i cj Ω λc1 c2 ea ck=>?_;have cl:ai S O c1:=c0.F (c2.Y λr _ h=>h);obtain⟨f1,f2,f3,f4,f5,f6,f7,f8,f9⟩:=V cl;have c3:R[q]?=σ (bu an cs y):=by
      simp only[R,pL];rw[u4,List.getElem?_range (by rw[aN];exact am),af];rfl
     rw[qS c3]at ck;exact⟨⟨f8,f7.ls,f9⟩,⟨cl,ck⟩,λh=>by cases h⟩
   .rintro q eb am ⟨bx,bB⟩;rw[show q=N from am]at bB;have f:=V bx;rw[aG Ψ (f.2.2.1.cell rfl)];intro ec bC _;obtain⟨f1,f2,f3,f4,f5,f6,f7,f8,f9⟩:=V (bx.F (bC.ab S));rw[<-bm,qR]at bB;have bo:=(ak.F bY).F G;refine⟨(bo.put bx Ω).F bC,λc4=>m6 C c4,λ_=>⟨ap,E,Q,rfl,⟨bl,bZ,f4,f7,bB.W bC⟩,⟨b2,b3,bT⟩,aL,CS _ _ _⟩⟩
def iL(l:Λ):Prop:=∀(i j:Nat)(x y:Int),i<j->l[i]?=σ x->l[j]?=σ y->x<y
theorem iL.inj(h:iL l){i:Nat}{x:Int}(hi:l[i]?=σ x)(a:l[j]?=σ x):i=j:=by
 rcases Nat.lt_trichotomy i j with h1|h1|h1
 .have:=h i j x x h1 hi a;omega
 .exact h1
 .have:=h j i x x h1 a hi;omega
def dedup(l:Λ):Nat->Λ
 |0=>[]
 |j+1=>if 0<j/\l[j]?=l[j-1]? then dedup l j else dedup l j++[l.getD j 0]
theorem PE(l:Λ):∀j,(dedup l j).length<=j
 :=by
 intro a;induction a<;>grind [dedup]
theorem yj(a:0<j)(h:l[j]?=l[j-1]?):dedup l (j+1)=dedup l j:=by
 grind [dedup]
theorem yk{x:Int}(J:l[j]?=σ x)(h:0<j->l[j]? ≠l[j-1]?):dedup l (j+1)=dedup l j++[x]:=by
 grind [dedup]
theorem yl:∀{j:Nat},j<=l.length->(∀i,i<j->0<i->l[i]? ≠l[i-1]?)->dedup l j=l.take j
 :=by
 intro a;induction a<;>grind [dedup,yk,u9]
theorem Ee{l:Λ}(V:l.Pairwise (·<= ·)):∀{j:Nat},j<=l.length->(iL (dedup l j)/\∀x,x∈dedup l j↔x∈l.take j)
 |0,_=>⟨λi j x y _ h=>by simp[dedup]at h,by grind [dedup]⟩
 |j+1,C=>by
  obtain⟨h1,r⟩:=Ee V (j:=j) Ω;have J:l[j]?=σ l[j]:=v8 Ω;by_cases q:0<j/\l[j]?=l[j-1]?
  .rw[yj q.1 q.2];refine⟨h1,λx=>?_⟩;rw[r,u9,J];simp only[j4,j5,Y1];refine⟨.inl,λh=>h.elim id λhe=>?_⟩;subst he;have E:(l.take j)[j-1]?=σ l[j]:=by grind
   grind
  .have s:0<j->l[j]? ≠l[j-1]?:=by grind
   rw[yk J s];have w:∀x∈dedup l j,x<l[j]:=λx F=>by
    grind [List.getElem_of_mem,U1]
   refine⟨λa b x y z f e=>?_,λx=>?_⟩
   .have A:=(x6.1 e).1;simp only[c9,W5,List.length_nil]at A;rw[V6 Ω]at f;by_cases B:b=(dedup l j).length
    .subst B;rw[X2 (o6 _),V7]at e;simp at e;subst e;exact w x (x7 f)
    .rw[V6 Ω]at e;exact h1 a b x y z f e
   grind [u9]
def sH(l:Λ):Prop:=∀(j:Nat)(x:Int),l[j]?=σ x->0<=x/\(0<j->∀y,l[j-1]?=σ y->y<x)
theorem sH.up(h:sH l):iL l:=by
 intro i j x y r J;induction j generalizing y with
 |zero=>omega
 |succ j f=>
  intro e;have s:=(x6.1 e).1;obtain⟨z,a⟩:∃z,l[j]?=σ z:=⟨_,v8 (show j<l.length by omega)⟩;have h1:=(h (j+1) y e).2 Ω z (by simpa using a);by_cases q:i=j
  .subst q;rw[J]at a;cases a;exact h1
  .have:=f z Ω a;omega
theorem PF(h:iL l)(a:∀x∈l,0<=x):sH l:=λj x J=>⟨a x (x7 J),λf y e=>h (j-1) j y x Ω e J⟩
theorem Ef{g E:Nat}{dd:x4}{cs:Λ}(h:du w g E sv an k cs)(a:aQ .i64 w dd l):
  aq x8 Le [Γ g,dd] w λv I=>Ext w I/\∃c,v= .bool c/\(c=s2↔l.length=an.length/\sH l):=by
 obtain⟨⟨bf,gs,G,hm,f⟩,_⟩:=h;have sub:w.rangeAt g (0+0) [sv]:=pE G (by
  intro j v ac
  match j,ac with
  |0,ac=>exact ac)
 refine aE func244 ?_;rw[a8 au.u a,cc,a1 db.p rfl,bH (cs:=[sv]) bO.p bO.i rfl sub];refine(Da hm.ls).Y ?_;rintro _ U _ ⟨rfl,q⟩;simp only[bM,ao];refine⟨λH=>⟨q,sp,rfl,(λh=>by cases h),λh=>m6 (by rw[h.1]) H⟩,λB=>?_⟩;have B:l.length=an.length:=Ω
 rw[a8 au.u (a.W q)];refine ce.range l.length (λi _ aa=>Ext w aa/\∀(j:Nat)(x:Int),j<i->l[j]?=σ x->0<=x/\(0<j->∀y,l[j-1]?=σ y->y<x)) a.le ⟨q,λj x K=>Ω⟩ ?_ ?_
 .rintro i _ aa L hi ⟨e,r⟩ M;simp only[aW,ao];refine⟨λ_=>?_,λh=>Ω⟩;obtain⟨x,J⟩:=aI (l:=l) hi;have R:=a.le;rw[bk au.u al.i Ψ (a.W e) J];refine a6 (λv N=>aa=N/\∃c,v= .bool c/\(c=sp↔0<=x/\(0<i->∀y,l[i-1]?=σ y->y<x))) ?_ ?_
  .rintro _ _ ⟨rfl,c,rfl,f⟩;rw[cb];simp only[aR];refine⟨λO=>⟨e,sp,rfl,(λh=>by cases h),λh=>?_⟩,λah=>M _ _ ⟨e,λj P K s=>?_⟩⟩
   .have:=f.2 (h.2 i x J);rw[O]at this;cases this
   .by_cases Q:j=i
    .subst Q;rw[J]at s;cases s;exact f.1 ah
    .exact r j P Ω s
  .intro aA z;simp only[aW,bU,dr,ao];refine⟨λS=>z _ _ ⟨rfl,s2,rfl,(λh=>by cases h),λh=>Ω⟩,λV=>⟨λW=>?_,λX=>z _ _ ⟨rfl,sp,rfl,λ_=>⟨Ω,λh=>Ω⟩,λ_=>rfl⟩⟩⟩;obtain⟨y,A⟩:∃y,l[i-1]?=σ y:=⟨_,v8 (show i-1<l.length by omega)⟩;rw[lm Ω Ω,ft (i:=i-1) Ω au.u al.i Ψ (a.W e) A];simp only[cT];refine z _ _ ⟨rfl,_,rfl,?_⟩;rw[decide_eq_false_iff_not];refine⟨λh=>⟨Ω,λ_ Y C=>by rw[A]at C;cases C;omega⟩,λh=>by have:=h.2 Ω y A;omega⟩
 .rintro _ aa L ⟨e,r⟩;simp only[aW,ao];exact⟨λh=>Ω,λ_=>⟨e,s2,rfl,λ_=>⟨B,λj x J=>r j x (x6.1 J).1 J⟩,λ_=>rfl⟩⟩
def jg(l:Λ)(x:Int):Int:=if x∈l then(l.idxOf x:Int)else-1
theorem Eg{i:Nat}{x:Int}(h:iL l)(hi:l[i]?=σ x):jg l x=i:=by
 have hm:x∈l:=x7 hi;have a:=List.idxOf_lt_length_of_mem hm;have e:=h.inj (by rw[v8 a,List.getElem_idxOf a]) hi;unfold jg;rw[m3 hm,e]
theorem PG{x:Int}(h:x∉l):jg l x= -1:=m5 h
theorem ym{x:Int}(h:aQ .i64 w sv l)(hu:iL l):
  aq x8 Bv [sv,Δ x] w λv I=>v=Δ (jg l x)/\Ext w I:=by
 refine aE func242 ?_;rw[a8 au.u h];refine ce.range l.length (λi _ U=>Ext w U/\∀j,j<i->l[j]? ≠σ x) h.le ⟨Ext.refl _,λj q=>Ω⟩ ?_ ?_
 .rintro i _ U k hi ⟨a,e⟩ hk;simp only[aW,ao];refine⟨λ_=>?_,λh=>Ω⟩;obtain⟨y,f⟩:=aI (l:=l) hi;rw[bk au.u al.i Ψ (h.W a) f];simp only[bm,ao,aR];refine⟨λhe=>⟨?_,a⟩,λhe=>hk _ _ ⟨a,λj q=>?_⟩⟩
  .subst he;rw[Eg hu f]
  .by_cases r:j=i
   .subst r;rw[f];intro h;exact he (Z5 h).symm
   .exact e j Ω
 .rintro _ U k ⟨a,e⟩;simp only[aW,ao];refine⟨λh=>Ω,λ_=>⟨?_,a⟩⟩;rw[PG];intro hm;obtain⟨i,hi,he⟩:=List.getElem_of_mem hm;exact e i hi (by rw[v8 hi,he])
def gN(x d9 scope:Λ):Λ:=scope.map λp=>x.getD (d9.idxOf p) 0
theorem PH(x d9 scope:Λ):(gN x d9 scope).length=scope.length:=by simp[gN]
theorem Eh{dm q:x4}{x d9 scope:Λ}(J:aQ .i64 w dm x)(ac:aQ .i64 w q d9)(V:aQ .i64 w sv scope)(hu:iL d9)(B:∀p∈scope,p∈d9)(N:x.length=d9.length)(O:scope.length<=1000):
  aq x8 Lj [dm,q,sv] w λv I=>Ext w I/\∃g,w.heap.size<=g/\aH .i64 al I g v (gN x d9 scope):=by
 refine aE func249 ?_;rw[a8 au.u V];refine kM au.u al.i Ω Ω λgz U P s C=>?_;have E:=aH.of (n:=scope.length) (cf.full C Ξ (by simp[maxLen];omega));generalize (x4.slice (σ ⟨gz,0,ν⟩) scope.length scope.length)=G at*;rw[a8 au.u (V.W s)];have j:=PH x d9 scope;refine b7.range scope.length (λi aa=>Ext w aa/\aH .i64 al aa gz G (upto (gN x d9 scope) 0 i)) Ω ⟨s,by rw[qQ,j];exact E⟩ ?_ ?_
 .rintro i aa H hi ⟨a,hm⟩ K;simp only[aW,ao];refine⟨λ_=>?_,λh=>Ω⟩;obtain⟨p,ae⟩:=aI (l:=scope) hi;have y:=B p (x7 ae);have Q:=List.idxOf_lt_length_of_mem y;rw[bk au.u al.i Ψ (V.W a) ae];refine(ym (ac.W a) hu).Y ?_;rintro _ R _ ⟨rfl,f⟩;have e:jg d9 p=(d9.idxOf p:Int):=m3 y;obtain⟨u,z⟩:∃u,x[d9.idxOf p]?=σ u:=⟨_,v8 Ω⟩;have S:(upto (gN x d9 scope) 0 i).length=scope.length:=by rw[pJ,j]
  rw[ft (i:=d9.idxOf p) e au.u al.i Ψ (J.W (a.F f)) z,ju rfl au.u al.i (hm.W f) Ω];refine jv al.i (hm.W f) Ω λW L _ A=>?_;simp only[aR];have M:(gN x d9 scope)[i]?=σ u:=by
   unfold gN;rw[u4,ae,Y7,r8,z];rfl
  rw[qS M]at A;exact K _ ⟨(a.F f).then L (by rintro r X rfl;omega),A⟩
 .rintro aa H ⟨a,hm⟩;simp only[aW,ao];refine⟨λh=>Ω,λ_=>⟨a,gz,Ω,?_⟩⟩;rw[<-j,qR]at hm;exact hm
theorem Ei(h:t≠[])(hw:∀b∈t,ck b=s2):lex t=([t],s2):=by
 cases t with
 |nil=>exact m6 rfl h
 |cons b q=>
  have a:q.dropWhile ck=[]:=by
   have:∀(q:Λ),(∀x∈q,ck x=s2)->q.dropWhile ck=[]/\q.takeWhile ck=q:=λq a=>by
    induction q with
    |nil=>simp
    |cons x q e=>
     have:=e λy f=>a y (.tail _ f);simp[a x (.head _),this.1,this.2]
   exact(this q λx J=>hw x (.tail _ J)).1
  have j:q.takeWhile ck=q:=by
   have:∀(q:Λ),(∀x∈q,ck x=s2)->q.takeWhile ck=q:=λq a=>by
    induction q with
    |nil=>simp
    |cons x q e=>simp[a x (.head _),e λy f=>a y (.tail _ f)]
   exact this q λx J=>hw x (.tail _ J)
  rw[Ci (hw b (.head _)),a,j]
theorem Ej{p:x4}(h:aQ .u8 w p l)(e:Bytes l)(f:l.length<=100000):aq x8 Ba [p] w λv I=>Ext w I/\∃g R,v=Γ g/\w.heap.size<=g/\jb I g R (lex l).1 (lex l).2/\¬R g:=by
 refine(Cq h e f).Y ?_;rintro _ U _ ⟨j,g,rfl,q,s,a⟩;obtain⟨h1,z,A,x,bg,hm⟩:=id a;exact⟨j,g,λr=>r≠g,rfl,q,⟨s,l,0,a,λr y=>cB hm x Φ y,by rw[List.drop_zero]⟩,λh=>h rfl⟩
theorem PI{p:x4}(h:aQ .u8 w p t)(x:Bytes t)(y:t.length<=100000)(z:t≠[])(hw:∀b∈t,ck b=s2):aq x8 Lw [p] w λv I=>Ext w I/\∃n:Int,v= .tuple #[Δ 1,Δ n,Δ 0]:=by
 have A:=Ei z hw;refine aE func274 ?_;refine(Ej h x y).Y ?_;rintro _ U _ ⟨B,g,R,rfl,G,j,H⟩;rw[A]at j;refine⟨λ_ _ _ a aa=>ai (λr=>r=g) U aa/\((a=Δ 0/\jb aa g R [t] s2)\/(a=Δ 1/\jb aa g R [] s2)),λ_ _ _ a _=>1-(b2 a).toNat,⟨ai.refl _ _,.inl ⟨rfl,j⟩⟩,?_⟩;rintro _ _ _ _ aa ⟨q,⟨rfl,e⟩|⟨rfl,e⟩⟩
 .refine (sh e).Y ?_;rintro v C _ ⟨f,E,n,rfl⟩;rw[fS,fT,fU,bm,ao];refine⟨λ_=>?_,λh=>m6 rfl h⟩;rw[aR,lm Ω Ω];exact⟨⟨q.F f,.inr ⟨rfl,E⟩⟩,by simp[b2]⟩
 .refine (sh e).Y ?_;rintro v C _ ⟨f,n,rfl⟩;rw[fS,fT,fU,bm,ao];refine⟨λh=>by simp at h,λ_=>?_⟩;rw[bm,ao];refine⟨λh=>by simp at h,λ_=>?_⟩;have s:=B.then (q.F f) (λr J he=>by have he:r=g:=he;omega);rw[a8 cW.u (h.W s)];exact⟨s,_,rfl⟩
theorem PJ(a:Bytes t)(e:t.length<=100000)(f:t≠[])(hw:∀b∈t,ck b=s2):aq x8 K8 [cp t] w λv I=>v= .bool s2/\Ext w I:=by
 have y:=Ei f hw;refine aE func234 ?_;refine xr dj.u cW.u cV.u a Ω λbv U j z _=>?_;refine(PI z a e f hw).Y ?_;rintro _ aa _ ⟨q,n,rfl⟩;rw[fS,fT,fU];refine xr dj.u cW.u cV.u a Ω λK L s A _=>?_;refine(Ej A a e).Y ?_;rintro _ M _ ⟨B,g,R,rfl,N,x,O⟩;rw[y]at x;refine(sh x).Y ?_;rintro _ C _ ⟨E,_,m,rfl⟩;rw[fS,fT,fU];have G:=(((j.F q).F (s.F B))).then E (λr P he=>by
  have he:r=g:=he;have:=j.size;have:=q.size;have:=s.size;omega)
 refine a6 (λv H=>C=H/\v= .bool s2) ?_ ?_
 .rintro _ _ ⟨rfl,rfl⟩;exact⟨rfl,G⟩
 .intro aA J;rw[bm,ao];refine⟨λ_=>?_,λh=>m6 rfl h⟩;rw[bm,ao];refine⟨λ_=>?_,λh=>m6 rfl h⟩;rw[Ce a a];exact J _ _ ⟨rfl,by rw[ms rfl]⟩
theorem PK{x:Int}:aq x8 w6 [Δ x] w λv I=>v= .bool (decide (¬jV x))/\Ext w I:=by
 refine aE func233 ?_;refine a6 (λv U=>w=U/\v= .bool (decide (¬jV x))) ?_ ?_
 .rintro _ _ ⟨rfl,rfl⟩;exact⟨rfl,Ext.refl _⟩
 .intro aA e;rw[aW,ao];refine⟨λh=>e _ _ ⟨rfl,by rw[ms];intro a;have:=a.1;omega⟩,λh=>?_⟩;rw[bU];refine e _ _ ⟨rfl,?_⟩;congr 1;rw[V9,ro,ro];exact⟨λf a=>by have:=a.2;omega,λf=>by
   by_cases j:32<x
   .exact j
   .exact m6 ⟨Ω,Ω⟩ f⟩
theorem PL(h:aQ .i64 w sv l)(e:∀x∈l,jV x):
  aq x8 w5 [sv,.func (.func w6) #[] #[]] w λv I=>v= .bool sp/\Ext w I:=by
 refine aE func231 ?_;refine aq.Y (K:=λv I=>v=Δ (-1)/\Ext w I) ?_ ?_
 .refine aE func136 ?_;rw[a8 au.u h];refine ce.range l.length (λ_ _ U=>Ext w U) h.le (Ext.refl _) ?_ ?_
  .rintro i _ U k hi J hk;refine bF Ω ?_;obtain⟨x,a⟩:=aI (l:=l) hi;rw[bk au.u al.i Ψ (h.W J) a];show aq x8 w6 [Δ x] U _;refine PK.Y ?_;rintro _ aa _ ⟨rfl,f⟩;rw[ao];refine⟨λj=>m6 (e x (x7 a)) j,λ_=>?_⟩;rw[aR];exact hk _ _ (J.F f)
  .rintro _ U k J;rw[aW,ao];exact⟨λh=>Ω,λ_=>⟨rfl,J⟩⟩
 .rintro _ U _ ⟨rfl,J⟩;rw[cT];exact⟨rfl,J⟩
theorem vb{m:Bool}{S R:ak}{d:iK}(h:aw.rep m S R w cs d):∃sv g a aY gs,cs=[sv,Γ g]/\aQ .i64 w sv d.1/\gM w g a aY gs d.2.an d.2.k d.2.o d.2.D:=by
 obtain⟨c,e,A,B,rfl,_,_,_,h1,f⟩:=h;have h1:=h1;obtain⟨u,rfl⟩:=W3.1 (show c.length=1 from aw.len h1);obtain⟨g,m,sv,gs,rfl,j,_⟩:=f;exact⟨u,g,m,sv,gs,rfl,c3 h1,j⟩
theorem PM{V:Nat}{f:cn}{d:iK}{x:cI}{m:Bool}{S R:ak}(af:mX w V f)(ah:fG N f)(ai:x∈f.ho)(am:sG f.k x d)(ap:aw.rep m S R w cs d):
  aq x8 Lx [Γ V,.agg cs.toArray] w λv I=>v= .bool s2/\Ext w I:=by
 obtain⟨hv,aK,gz,aL,W,X,_,_⟩:=af;obtain⟨sv,ag,aM,aY,gs,rfl,s,J⟩:=vb ap;obtain⟨ax,Y,ay,aO,aQ,aS⟩:=am;obtain⟨E,aT,aU⟩:=ah.ho x ai;rw[ax]at s;refine aE func276 ?_;refine bn λav U aV A G=>?_;have G:aj U av cS [sv,Γ ag]:=by obtain⟨_,_,_,rfl⟩:=df s;exact G
 refine a6 (λv aa=>Ext U aa/\v= .bool sp) ?_ ?_
 rotate_left
 .intro aA K;intro aa q _ _;have z:=G.W q;rw[aN cS.p 1 z rfl,dl fg.u];simp only[b8,bc];rw[aN cS.p 1 z rfl,aP cN.p 1 (W.W (A.F q)) rfl];refine(NU (J.W (A.F q)).is).Y ?_;rintro _ B _ ⟨rfl,a⟩;refine⟨.inl a,?_⟩;rw[bM,ao];refine⟨λh=>m6 ay h,λ_=>?_⟩;have C:=z.W a;have L:=q.F a;rw[aN cS.p 1 C rfl,aN cS.p 0 C rfl,a8 au.u (s.W (A.F L))];refine(NV (J.W (A.F L)).is).Y ?_;rintro _ H _ ⟨rfl,e⟩;refine⟨.inl e,?_⟩;rw[bM];refine K _ _ ⟨L.F e,?_⟩;rw[rc];intro h;exact h (by rw[Y,E.d6,r9])
 rintro _ aa ⟨q,rfl⟩;rw[bc];have z:=G.W q;have M:=A.F q;rw[aN cS.p 0 z rfl,a8 au.u (s.W M)];refine ce.range x.scope.length (λ_ _ B=>Ext aa B) Ω (Ext.refl _) ?_ ?_
 rotate_left
 .rintro _ B k a;rw[aW,ao];exact⟨λh=>Ω,λ_=>⟨rfl,M.F a⟩⟩
 rintro i _ B k hi a hk;obtain⟨v,ac⟩:=aI (l:=x.scope) hi;have aX:=E.scope.2 v (x7 ac);have O:=M.F a;have C:=z.W a;have Z:=W.W O;have az:f.d6[v.toNat]?=σ (f.d6.getD v.toNat 0):=by
  rw[r8,v8 Ω];rfl
 refine bF Ω ?_;rw[bk au.u al.i Ψ (s.W O) ac];refine a6 (λb H=>Ext B H/\b= .bool sp) ?_ ?_
 .rintro _ H ⟨e,rfl⟩;rw[bc,aR];exact hk _ _ (a.F e)
 .intro aA K;intro H e _ _;have P:=O.F e;refine b4 Ω ?_;rw[aP cN.p 2 (Z.W e) rfl,a8 au.u (X.ls.W P),cT,ao];refine⟨λh=>Ω,λ_=>?_⟩;rw[aN cS.p 0 (C.W e) rfl];refine(Ed (s.W P)).Y ?_;rintro _ aZ _ ⟨ab,r,rfl,aB⟩;have aC:r=(i:Int):=(aB i ac).2 λj a1 aD=>by have:=l1 E.scope.1 aD ac;omega
  subst aC;have ad:=P.F ab;have Q:=e.F ab;rw[bM,ao];refine⟨λh=>m6 rfl h,λ_=>?_⟩;rw[aN cS.p 1 (C.W Q) rfl,aP cN.p 2 (Z.W Q) rfl];refine nR (y:=v) (i:=v.toNat) Ω au.u al.i (X.ls.W ad) az λb o aF=>?_;rw[aG Ψ aF];refine(xT (J.W ad).is).Y ?_;rintro a2 a7 _ ⟨ae,ba,bb,aH⟩;refine⟨.inl ae,?_⟩;have aJ:d.2.an[i]?=σ (f.d6.getD v.toNat 0):=by
   rw[Y,E.d6,u4,ac];rfl
  rw[bk au.u al.i Ψ aH.ls aJ,bM];exact K _ _ ⟨Q.F ae,by rw[rc (λh=>h rfl)]⟩
theorem PN{f:cn}{d:iK}{x:cI}{m:Bool}{S R:ak}(q:mX w j f)(r:fG N f)(s:x∈f.ho)(y:sG f.k x d)(a:aw.rep m S R w cs d):
  aq x8 w7 [Γ j,.agg cs.toArray] w λv I=>v= .bool sp/\Ext w I:=by
 refine aE func237 ?_;refine bn λav U C e h=>?_;have z:cs.length=2:=aw.len a;have h:aj U av cS cs:=by
  obtain⟨sv,ag,E,aY,gs,rfl,A,G⟩:=vb a;obtain⟨_,_,_,rfl⟩:=df A;exact h
 rw[bH cS.p cS.i z h.range];refine(PM (q.W e) r s y (bq a e)).Y ?_;rintro _ aa _ ⟨rfl,B⟩;rw[bN];exact⟨rfl,e.F B⟩
theorem PO{e:Nat}{f:cn}{q:x4}{a:List iK}{m:Bool}{S R:ak}(z:mX w e f)(A:fG N f)(j:aw.rep m S R w [q] a)(r:va f.k f.ho a):
  aq x8 La [q,.func (.func w7) #[Γ e] #[]] w λv I=>v= .bool sp/\Ext w I:=by
 refine aE func236 ?_;refine aq.Y (K:=λv I=>v=Δ (-1)/\Ext w I) ?_ ?_
 .refine aE func275 ?_;rw[fE dX.u j];refine ce.range a.length (λ_ _ U=>Ext w U) (oy j) (Ext.refl _) ?_ ?_
  .rintro i _ U k hi J hk;refine bF Ω ?_;obtain⟨d,s⟩:=aI (l:=a) hi;obtain⟨x,y⟩:∃x,f.ho[i]?=σ x:=⟨_,v8 (by have:=r.1;omega)⟩;refine lV (α:=iK) cS.p rfl dX.u cS.i (bq j J) s λcs B=>?_;show aq x8 w7 [Γ e,.agg cs.toArray] U _;refine(PN (z.W J) A (x7 y) (r.2 i x d y s) B).Y ?_;rintro _ aa _ ⟨rfl,C⟩;rw[bc,aR];exact hk _ _ (J.F C)
  .rintro _ U k J;rw[aW,ao];exact⟨λh=>Ω,λ_=>⟨rfl,J⟩⟩
 .rintro _ U _ ⟨rfl,J⟩;rw[cT];exact⟨rfl,J⟩
def nZ(a:List cI):Nat:=(a.map λx=>x.lines.length).sum
theorem PP{ae:Nat}{f:cn}(af:mX w ae f)(r:fG N f)(be:N<=60000)(S:f.name≠[]/\∀b∈f.name,ck b=s2):
  aq x8 Kw [Γ ae] w λv I=>Ext w I/\∃e:Int,v=Δ e/\(nZ f.ho<=16384->e=0):=by
 obtain⟨hv,bf,gz,y,A,V,W,B⟩:=id af;have bg:=r.name;have az:Bytes f.name:=λb aC=>by
  have:=rs (S.2 b aC);omega
 refine aE func181 ?_;rw[dl w9.u];simp only[b8,bc];refine a6 (λv U=>Ext w U/\v= .bool sp) ?_ ?_
 rotate_left
 .intro aA s;rw[aP cN.p 0 A rfl];refine(PJ az Ω S.1 S.2).Y ?_;rintro _ U _ ⟨rfl,q⟩;rw[bN,Y5,bc];rw[aP cN.p 2 (A.W q) rfl,a8 au.u (V.ls.W q),bm,ao];refine⟨λh=>by have:=r.d6.1;omega,λ_=>?_⟩;rw[aP cN.p 2 (A.W q) rfl];refine(PL (V.ls.W q) r.d6.2.2).Y ?_;rintro _ aa _ ⟨rfl,C⟩;have ah:=q.F C;rw[bc,aP cN.p 1 (A.W ah) rfl];refine BU.Y ?_;rintro _ E _ ⟨rfl,G⟩;have M:=ah.F G;rw[ms (show right f.k from r.k),bN,Y5,bc,aP cN.p 3 (A.W M) rfl,lS];refine(PO (af.W M) r (bq W M) B).Y ?_;rintro _ ai _ ⟨rfl,aD⟩;exact s _ _ ⟨M.F aD,rfl⟩
 rintro _ U ⟨q,rfl⟩;rw[bc];have O:=A.W q;refine a6 (λv aa=>U=aa/\v= .bool sp) ?_ ?_
 rotate_left
 .intro aA s;rw[aP cN.p 0 O rfl,pG dj.u,bU,ao];refine⟨λh=>Ω,λ_=>?_⟩;rw[aP cN.p 2 O rfl,a8 au.u (V.ls.W q),bU,ao];refine⟨λh=>by have:=r.d6.2.1;omega,λ_=>?_⟩;rw[aP cN.p 3 O rfl,fE dX.u (bq W q),bU];exact s _ _ ⟨rfl,by rw[rc];have:=r.mO;have:=B.1;omega⟩
 rintro _ _ ⟨rfl,rfl⟩;have aj:=bq W q;rw[aP cN.p 3 O rfl,fE dX.u aj];refine⟨λaF aG X aa=>∃i n:Nat,X=Δ (i:Int)/\i<=y.length/\aF=Δ (n:Int)/\aG= .bool sp/\Ext U aa/\n<=nZ (f.ho.take i)/\n<=i*60000,λ_ _ X _=>y.length-(b2 X).toNat,
  ⟨0,0,rfl,X9 _,rfl,rfl,Ext.refl _,X9 _,Ω⟩,?_⟩
 rintro _ _ _ aa ⟨i,n,rfl,hi,rfl,rfl,C,aJ,bh⟩;have bi:y.length<=256:=by rw[B.1];exact r.mO
 rw[aW,ao];refine⟨λak=>?_,λbj=>?_⟩
 .have ak:i<y.length:=Ω
  obtain⟨d,am⟩:=aI (l:=y) ak;obtain⟨x,Y⟩:∃x,f.ho[i]?=σ x:=⟨_,v8 (by have:=B.1;omega)⟩;have P:=B.2 i x d Y am;obtain⟨Q,aK,aL⟩:=r.ho x (x7 Y);have bl:=Q.len;refine iX (λa b E=>Ext aa E/\a=Δ ((n+d.2.D.length:Nat):Int)/\b= .bool sp) ?_ ?_
  .rintro _ _ E ⟨G,rfl,rfl⟩;rw[aR,lm Ω Ω];have aM:=P.2.2.2.2.1;refine⟨⟨i+1,n+d.2.D.length,rfl,Ω,rfl,rfl,C.F G,?_,?_⟩,by simp only[b2];omega⟩
   .have e:nZ (f.ho.take (i+1))=nZ (f.ho.take i)+x.lines.length:=by
     unfold nZ;rw[u9,Y,j4,Z2,List.sum_append,List.map_cons,List.map_nil,List.sum_cons,List.sum_nil,Nat.add_zero]
    omega
   .have:(i+1)*60000=i*60000+60000:=Ω
    have bn:d.2.D.length<=60000:=Ω
    omega
  .intro aA s;refine lV (α:=iK) cS.p rfl dX.u cS.i (bq aj C) am λcs aO=>?_;obtain⟨sv,ag,bo,aY,gs,rfl,aQ,ap⟩:=vb aO;refine bE cS.i λav E bp G aS=>?_;refine b3 (vs:=[sv,Γ ag]) cS.i rfl rfl (by intro v ac;simp at ac;rcases ac with rfl|rfl<;>first|exact aQ.cells.2|rfl) aS λai aT br aw=>?_;have Z:Ext aa ai:=G.put aT Ω;rw[aN cS.p 1 aw rfl];refine(NT (ap.W Z).is).Y ?_;rintro _ bs _ ⟨rfl,ab⟩;have aM:=P.2.2.2.2.1;rw[aR,lm Ω Ω,aN cS.p 1 (aw.W ab) rfl];refine(xT ((ap.W Z).W ab).is).Y ?_;rintro bt ad _ ⟨aU,bu,bw,ax⟩;rw[a8 au.u ax.ls];have bx:d.2.an.length<=6:=by rw[P.2.1,Q.d6,r9];exact aK
   refine ce.range d.2.an.length (λj out R=>Ext ad R/\∃gr,ad.heap.size<=gr/\aH .i64 ay R gr out (d.2.an.take j)) Ω ⟨Ext.refl _,ad.heap.size,o6 _,aH.nil _ _ _ _⟩ ?_ ?_
   .rintro j out R k aV ⟨H,gr,aX,J⟩ hk;obtain⟨z,K⟩:=aI (l:=d.2.an) aV;refine bF Ω ?_;rw[bk au.u al.i Ψ (ax.ls.W H) K];refine e6 aB.u ay.i rfl λa ga aZ bz L a1=>?_;refine kL aB.u ay.i rfl (J.W L) a1.ls Θ Θ λbA a2 bB bC a7 ba=>?_;have bD:=H.size;have bG:=L.size;rw[aR];refine hk _ _ ⟨(H.F L).put ba Ω,a2,Ω,?_⟩;rw[u9,K];exact a7
   .rintro out R k ⟨H,gr,aX,J⟩;rw[o9]at J;refine b4 Ω ?_;rw[bc];have bb:d.2.an=x.d6:=P.2.1;rw[bb]at J;refine(C7 J.ls λz K=>?_).Y ?_
    .rw[Q.d6]at K;obtain⟨v,ac,rfl⟩:=l9.1 K;have bH:=Q.scope.2 v ac;refine(r.d6.2.2 _ ?_).1;rw[r8,v8 Ω];exact S2 _
    .rintro _ aZ _ ⟨rfl,L⟩;refine s _ _ _ ⟨(((Z.F ab).F aU).F H).F L,by congr 1,by rw[aL]⟩
 .have bd:i=y.length:=Ω
  subst bd;rw[B.1,o9]at aJ;refine a6 (λv E=>aa=E/\v= .bool (decide (16384<(n:Int)))) ?_ ?_
  .rintro _ _ ⟨rfl,rfl⟩;rw[ao];refine⟨λh=>⟨q.F C,5,rfl,λbI=>Ω⟩,λh=>⟨q.F C,0,rfl,λ_=>rfl⟩⟩
  .intro aA s;rw[bc,bU];exact s _ _ ⟨rfl,rfl⟩
theorem vc:∀{a b:Λ}{i:Nat},(∀(j:Nat)(x y:Int),j<i->a[j]?=σ x->b[j]?=σ y->x=y)->i<=a.length->i<=b.length->j3 a b=j3 (a.drop i) (b.drop i)
 |_,_,0,_,_,_=>Ξ
 |[],_,i+1,_,h,_=>by simp at h
 |_::_,[],i+1,_,_,h=>by simp at h
 |x::a,y::b,i+1,he,h1,e=>by
  have f:=he 0 x y Ω rfl rfl;subst f;simp only[j3,Int.lt_irrefl,if_false,List.drop_succ_cons];exact vc (λj u v q hu ac=>he (j+1) u v Ω hu ac) (by simpa using h1) (by simpa using e)
theorem Ek{x:Int}:aq x8 cmp_isNaN_int [Δ x] w λv I=>v= .bool sp/\Ext w I:=by
 refine aE func253 ?_;simp only[bM];exact⟨Ξ,Ext.refl _⟩
theorem El{x:Int}:aq x8 KD [Δ x,Δ y] w λv I=>v=Δ (if x<y then-1 else if y<x then 1 else 0)/\Ext w I:=by
 refine aE func194 ?_;refine Ek.Y ?_;rintro _ U _ ⟨rfl,a⟩;refine Ek.Y ?_;rintro _ aa _ ⟨rfl,e⟩;simp only[bc,aW,bU,ao];exact⟨λh=>⟨by rw[m3 h],a.F e⟩,λh=>⟨λf=>⟨by rw[m5 h,m3 f],a.F e⟩,λf=>⟨by rw[m5 h,m5 f],a.F e⟩⟩⟩
theorem PQ{a b:Λ}(s:aQ .i64 w bC a)(A:aQ .i64 w bv b):aq x8 KE [bC,bv] w λv I=>v=Δ (j3 a b)/\Ext w I:=by
 refine aE func195 ?_;have ab:=s.le;rw[a8 au.u s];refine⟨λ_ B U=>∃i:Nat,B=Δ (i:Int)/\i<=a.length/\i<=b.length/\Ext w U/\∀(j:Nat)(x y:Int),j<i->a[j]?=σ x->b[j]?=σ y->x=y,λ_ B _=>a.length-(b2 B).toNat,⟨0,rfl,X9 _,X9 _,Ext.refl _,λj x y P=>Ω⟩,?_⟩;rintro _ _ U ⟨i,rfl,Q,R,f,K⟩;have q:=vc K Q R;simp only[aW,ao];refine⟨λz=>?_,λac=>?_⟩
 .have z:i<a.length:=Ω
  obtain⟨x,J⟩:=aI (l:=a) z;have L:a.drop i=x::a.drop (i+1):=by rw[X4 z,(x6.1 J).2]
  rw[bk au.u al.i Ψ (s.W f) J,a8 au.u (A.W f)];simp only[cT,ao];refine⟨λh=>?_,λh=>?_⟩
  .have:b.drop i=[]:=by rw[List.drop_eq_nil_iff];omega
   rw[this,L]at q;exact⟨by rw[q];rfl,f⟩
  have C:i<b.length:=Ω
  obtain⟨y,E⟩:=aI (l:=b) C;have S:b.drop i=y::b.drop (i+1):=by rw[X4 C,(x6.1 E).2]
  rw[bk au.u al.i Ψ (A.W f) E];refine El.Y ?_;rintro _ aa _ ⟨rfl,M⟩;rw[L,S]at q;simp only[j3]at q;simp only[bM,ao,aR];refine⟨λN=>⟨?_,f.F M⟩,λV=>?_⟩
  .rw[q];by_cases h1:x<y
   .rw[m3 h1,m3 h1]
   .by_cases r:y<x
    .rw[m5 h1,m3 r,m5 h1,m3 r]
    .rw[m5 h1,m5 r]at N;exact m6 rfl N
  .rw[lm Ω Ω];refine⟨⟨i+1,rfl,z,C,f.F M,λj W X P G H=>?_⟩,by simp only[b2];omega⟩;by_cases Y:j=i
   .subst Y;rw[J]at G;rw[E]at H;cases G;cases H;have O:=X1.1 V;by_cases h1:x<y
    .rw[m3 h1]at O;omega
    .by_cases r:y<x
     .rw[m5 h1,m3 r]at O;omega
     .omega
   .exact K j W X Ω G H
 .have Z:i=a.length:=Ω
  subst Z;rw[List.drop_length]at q;rw[a8 au.u (s.W f),a8 au.u (A.W f)];simp only[aW,ao];refine⟨λh=>⟨?_,f⟩,λh=>⟨?_,f⟩⟩
  .obtain⟨y,l,e⟩:∃y l,b.drop a.length=y::l:=⟨_,_,X4 Ω⟩;rw[q,e];rfl
  .have:b.drop a.length=[]:=by rw[List.drop_eq_nil_iff];omega
   rw[q,this];rfl
theorem PR{x:Int}{f:x4}(h:aQ .i64 w f [x,y]):aq x8 KC [f] w λv I=>v=Δ (if x≠0 then x else y)/\Ext w I:=by
 refine aE func193 ?_;rw[a8 au.u h];refine ce.range 2 (λi _ U=>Ext w U/\(1<=i->x=0)/\(2<=i->y=0)) Ω ⟨Ext.refl _,Ω,Ω⟩ ?_ ?_
 .rintro i _ U k hi ⟨a,h1,e⟩ hk;rw[aW,ao];refine⟨λ_=>?_,λh=>by simp at h;omega⟩
  match i,hi,h1,e,hk with
  |0,_,h1,e,hk=>
   rw[bk au.u al.i Ψ (h.W a) rfl,bM,ao];refine⟨λj=>⟨by rw[m3 j],a⟩,λhe=>?_⟩;rw[aR];exact hk _ _ ⟨a,λ_=>X1.1 he,λh=>Ω⟩
  |1,_,h1,e,hk=>
   rw[bk au.u al.i Ψ (h.W a) rfl,bM,ao];have q:=h1 (o6 _);refine⟨λj=>⟨by rw[m5 Ω],a⟩,λhe=>?_⟩;rw[aR];exact hk _ _ ⟨a,λ_=>q,λ_=>X1.1 he⟩
 .rintro _ U k ⟨a,h1,e⟩;have q:=h1 Ω;have r:=e Ω;rw[aW,ao];exact⟨λh=>by simp at h,λ_=>⟨by rw[m5 Ω,r],a⟩⟩
structure cF where
 sv:x4
 g:Nat
 sc:Λ
 cs:Λ
def fj(h:cF):List x4:=[h.sv,Γ h.g]
abbrev lr(h:cF):x4:=.agg (fj h).toArray
def sI(h:cF):Int:=dv h.sc
def ku(w:x5)(a:Nat)(h:cF):Prop:=(∃e,aH .i64 al w e h.sv h.sc)/\(∀r,lc h.sv r->r≠a)/\l3 h.sc
theorem ku.ab{h:cF}(ax:ku w a h)(J:ai S w I)(e:∀r,lc h.sv r->¬S r):ku I a h:=by
 obtain⟨⟨f,hm⟩,j⟩:=ax;exact⟨⟨f,bG hm J e⟩,j⟩
theorem ku.one{h:cF}(ax:ku w a h):∀u∈fj h,u.oneCell'=s2:=by
 obtain⟨⟨e,hm⟩,_⟩:=ax;intro u hu;simp[fj]at hu;rcases hu with rfl|rfl
 .exact hm.ls.cells.2
 .rfl
def fx(w:x5)(g:Nat)(v:x4)(L:List cF):Prop:=bo fj 2 da w g v L/\∀h∈L,ku w g h
theorem fx.W{g:Nat}{L:List cF}(h:fx w g v L)(J:Ext w I):fx I g v L:=⟨h.1.W J,λx a=>(h.2 x a).ab (J.ab λ_=>False) λ_ _ h=>h⟩
theorem fx.at{g:Nat}{L:List cF}(h:fx w g v L){i:Nat}{x:cF}(hi:L[i]?=σ x):ku w g x:=h.2 x (x7 hi)
theorem vd{g:Nat}{L:List cF}{i:Nat}{x:cF}(a:y=(i:Int))(h:fx w g v L)(hi:L[i]?=σ x):
  ad x8 (n9 gX v (Δ y)) w (λp=>ad x8 (u5 da p) w K)=K (lr x):=by
 rw[cu a gX.u da.i h.1 (x6.1 hi).1,bH da.p da.i rfl (h.1.range hi)]
theorem PS{g:Nat}{L:List cF}{i:Nat}{x:cF}{K:Unit->x5->Prop}(j:y=(i:Int))(h:fx w g v L)(hi:i<L.length)(hk:ku w g x)(q:∀I,ai (λr=>hx v r) w I->fx I g v (L.set i x)->K () I):ad x8 (n9 gX v (Δ y)) w λp=>aM x8 (o7 da p (lr x)) w K:=by
 rw[cu j gX.u da.i h.1 hi];refine xW da.i h.1 rfl hk.one hi λI e _ be=>q I e ⟨be,λz a=>?_⟩;rcases U5 a with a|rfl
 .exact (h.2 z a).ab e λr f he=>(h.2 z a).2.1 r f (h.1.lc he).1
 .exact hk.ab e λr f he=>hk.2.1 r f (h.1.lc he).1
abbrev PT:x4:=.func (.func Bn) #[] #[]
def yn(a b:cF):Int:=let c:Int:=if(a.sc.length:Int)<b.sc.length then-1 else if(b.sc.length:Int)<a.sc.length then 1 else 0
 if c≠0 then c else j3 a.sc b.sc
theorem PU{a b:cF}(f:l3 a.sc)(j:l3 b.sc):yn a b<0↔sI a<sI b:=by
 have aC:=(yb f j).1;unfold sI yn;simp only;generalize q:(if(a.sc.length:Int)<b.sc.length then(-1:Int)else if(b.sc.length:Int)<a.sc.length then 1 else 0)=c;rw[aC,<-q];by_cases h1:(a.sc.length:Int)<b.sc.length
 .rw[m3 h1,m3 Ω];exact⟨λ_=>.inl Ω,λ_=>Ω⟩
 .by_cases e:(b.sc.length:Int)<a.sc.length
  .rw[m5 h1,m3 e,m3 Ω];exact⟨λh=>Ω,λh=>by rcases h with h|h<;>omega⟩
  .rw[m5 h1,m5 e,m5 Ω];exact⟨λh=>.inr ⟨Ω,h⟩,λh=>by rcases h with h|h;omega;exact h.2⟩
theorem PV{y:Nat}{a b:cF}(A:ku w y a)(B:ku w y b):aq x8 Bn [lr a,lr b] w λv I=>Ext w I/\v=Δ (yn a b):=by
 obtain⟨⟨ga,r⟩,_,L⟩:=A;obtain⟨⟨M,s⟩,_,N⟩:=B;refine aE func192 ?_;refine bn λg1 U O C h=>?_;refine bn λE aa P z j=>?_;have h:aj U g1 da [a.sv,Γ a.g]:=by
  obtain⟨_,_,_,e⟩:=df r.ls;simp only[lr,fj,e]at h ⊢;exact h
 have j:aj aa E da [b.sv,Γ b.g]:=by
  obtain⟨_,_,_,e⟩:=df s.ls;simp only[lr,fj,e]at j ⊢;exact j
 intro Q x _ _;have f:=(C.F z).F x;have f1:=(h.W z).W x;have f2:=j.W x;rw[aN da.p 0 f1 rfl,a8 au.u (r.ls.W f),aN da.p 0 f2 rfl,a8 au.u (s.ls.W f),
  aN da.p 0 f1 rfl,aN da.p 0 f2 rfl]
 refine El.Y ?_;rintro _ R _ ⟨rfl,q⟩;refine⟨.inl q,?_⟩;refine(PQ ((r.ls.W f).W q) ((s.ls.W f).W q)).Y ?_;rintro _ S _ ⟨rfl,G⟩;refine oB (l:=[if(a.sc.length:Int)<b.sc.length then(-1:Int)else if(b.sc.length:Int)<a.sc.length then 1 else 0,j3 a.sc b.sc]) au.u al.i Ω rfl Ψ λV W X Y H J=>?_;refine(PR J.ls).Y ?_;rintro _ Z _ ⟨rfl,K⟩;exact⟨((((f.F q).F G).F H).F K),rfl⟩
theorem PW{g:Nat}{L:List cF}(h:fx w g v L)(B:L.length<65536):
  aq x8 KB [v,PT] w λ_ I=>ai (λr=>hx v r) w I/\∃M,M.Perm L/\uR sI M 0 M.length/\fx I g v M:=by
 have j:∀{s:x5}{a:cF},ai (λr=>r=g) w s->ku w g a->ku s g a:=λf e=>e.ab f λr z he=>e.2.1 r z he;refine(Dt N5 (G:=ku w g) (num:=sI) N9 Oa (λa e=>e.one) (λa _=>rfl) (λa b e A=>PU e.2.2 A.2.2) (Enters.of x8 Ob rfl Ψ) h.1 h.2 B λs a b f e A=>PV (j f e) (j f A)).Y ?_;rintro _ I _ ⟨f,M,ae,hu,hm⟩;have C:ai (λr=>r=g) w I:=f.Y λr _ z=>(h.1.lc z).1;exact⟨f,M,ae,λp q x y _ E _ J H=>hu p q x y E J H,hm,λx J=>j C (h.2 x (ae.mem_iff.1 J))⟩
theorem PX{m:Λ}(ac:nY l)(f:l.Nodup)(ae:m.Perm l)(V:m.Pairwise (·<= ·)):m=bJ l:=by
 refine yd ?_ (ya l) λx=>?_
 .have j:=ae.nodup_iff.2 f;exact(List.Pairwise.and V j).imp λ{a b}h=>by
   obtain⟨h1,e⟩:=h;have e:=e;omega
 .rw[ae.mem_iff,DR ac]
theorem PY(h:∀z∈l,1<=z/\z<=32)(a:dO l=sp):aX l<=4096:=by
 have:=of_decide_eq_false a;rw[yf h]at this;omega
theorem PZ{f:cn}{d:iK}{x:cI}{m:Bool}{S R:ak}(h:fG N f)(bi:N<=60000)(P:x∈f.ho)(az:sG f.k x d)(aA:aw.rep m S R w cs d):
  aq x8 Kx [.agg cs.toArray] w λv I=>Ext w I/\∃sv gs E Q W,v= .tuple #[sv,Γ E]/\w.heap.size<=gs/\aH .i64 al I gs sv (bJ x.scope)/\du I E Q W (b5 f.d6 (bJ x.scope)) f.k (jY f.d6 f.k x).2:=by
 obtain⟨sv,ag,bj,aY,bl,rfl,G,aB⟩:=vb aA;obtain⟨aD,aF,aG,bm,bo,aJ⟩:=az;obtain⟨a,aK,aL⟩:=h.ho x P;have ac:=uW a h.d6.2.1;have bp:=a.len;rw[aD]at G;have aM:∀z∈x.d6,1<=z/\z<=32:=λz ad=>by
  rw[a.d6]at ad;obtain⟨v,aO,rfl⟩:=l9.1 ad;have bq:=a.scope.2 v aO;refine h.d6.2.2 _ ?_;rw[r8,v8 Ω];exact S2 _
 have aP:=PY aM aL;have X:=uV ac a.scope.1;have br:(bJ x.scope).length<=6:=by rw[X.length_eq];exact aK
 refine aE func182 ?_;refine bn λav U bs af y=>?_;have y:aj U av cS [sv,Γ ag]:=by obtain⟨_,_,_,rfl⟩:=df G;exact y
 rw[aN cS.p 1 y rfl];refine(D7 (aB.W af).is Ω).Y ?_;rintro _ aa _ ⟨Y,_,A⟩;rw[aF]at A;obtain⟨g,bt,bw,aQ,rfl,bx,bB,A,ah⟩:=A aP;rw[aG]at A;rw[bz,bA,aN cS.p 0 (y.W Y) rfl];have B:=af.F Y;refine yi (G.W B) Ω λv bC gs bD H bE ae V J=>?_;have aS:=PX ac a.scope.1 ae V;subst aS;have bG:=B.size;rw[a8 au.u J.ls];refine kM au.u al.i Ω Ω λgo aT bH K am=>?_;have aU:=aH.of (cf.full (n:=(bJ x.scope).length) am Ξ (by simp[maxLen];omega));rw[a8 au.u (J.ls.W K)];have bI:=am.lt;have L:(gL x.scope (bJ x.scope)).length=(bJ x.scope).length:=by simp[gL]
 have aV:=H.F K;have bK:=B.F aV;refine b7.range (bJ x.scope).length (λi M=>ai (λr=>r=go) aT M/\aH .i64 al M go (.slice (σ ⟨go,0,ν⟩) (bJ x.scope).length (bJ x.scope).length) ((gL x.scope (bJ x.scope)).take i++o5 ((bJ x.scope).length-i) 0)) Ω ⟨ai.refl _ _,by simpa using aU⟩ ?_ ?_
 .rintro i M k hi ⟨O,C⟩ hk;obtain⟨v,Z⟩:=aI (l:=(bJ x.scope)) hi;have q:=K.put O Ω;have aW:=(B.F H).F q;have aX:v∈x.scope:=X.mem_iff.1 (x7 Z);refine bF Ω ?_;rw[bk au.u al.i Ψ (J.ls.W q) Z];have aZ:=(Y.F H).F q;rw[aN cS.p 0 (y.W aZ) rfl];refine(Ed (G.W aW)).Y ?_;rintro _ a1 _ ⟨s,r,rfl,a2⟩;have an:=uZ aX;have a6:=(a2 _ an).2 λj bL a7=>by have:=l1 a.scope.1 a7 an;omega
  rw[ju rfl au.u al.i (C.W s) (by simp[L];omega)];refine jv al.i (C.W s) (by simp[L];omega) λbM ba bN ao=>?_;rw[aR];refine hk _ ⟨(O.F (s.ab _)).F ba,?_⟩;have aC:(gL x.scope (bJ x.scope))[i]?=σ r:=by rw[a6];exact OX Z
  have e:((gL x.scope (bJ x.scope)).take i++o5 ((bJ x.scope).length-i) 0).set i r=(gL x.scope (bJ x.scope)).take (i+1)++o5 ((bJ x.scope).length-(i+1)) 0:=by
   have bb:((gL x.scope (bJ x.scope)).take i).length=i:=by rw[Z3,L];omega
   rw[U7 _ _ Ω,bb,V7,show(bJ x.scope).length-i=((bJ x.scope).length-(i+1))+1 by omega,List.replicate_succ,List.set_cons_zero,u9,aC,j4,T1];rfl
  rw[e]at ao;exact ao
 .rintro M k ⟨O,C⟩;have q:=K.put O Ω;have ap:=H.F q;refine b4 Ω ?_;rw[V7,List.replicate_zero,T4,j9 Ω]at C;have bc:∀t,dF x.d6 t->bu x.d6 aQ t=li x f.k t:=λt bd=>by rw[ah.2 t bd];exact aJ t
  obtain⟨ax,be⟩:=OZ h P ah.1 bc;have bf:Good (gL x.scope (bJ x.scope)) x.d6.length:=by
   rw[a.d6,r9];exact u0 a.scope.1 X
  have bg:=(q6 h P);refine(PD (A.W ap) h.k C.ls (by rw[L];omega) λ_=>?_).Y ?_
  .rw[ax];exact bg.small
  .rintro _ a1 _ ⟨s,_,bh⟩;obtain⟨E,Q,W,rfl,ay⟩:=bh bf;rw[bz,bA];rw[ax,be]at ay;exact⟨(B.F ap).F s,v,gs,E,Q,W,rfl,Ω,(J.W q).W s,ay⟩
theorem P0{P:W0}{t y f:o4}{k A g o cap:Nat}{K:x4->x5->Prop}(h:P.underlying t=σ (.slice e))(hi:aV P e k A z)(B:z.cells.size=k)(h1:∀u∈eg z.cells (n*k),u.oneCell'=s2)(a:aj w g f cs)(J:o+n*k<=cs.length)(q:∀I,ai (λr=>r=g) w I->aj I g f (over cs o (eg z.cells (n*k)))->K (.tuple #[]) I):aM P (Z0.clear_ #[t] y #[.slice (σ ⟨g,o,ν⟩) n cap]) w K:=by
 obtain⟨i,hi,L,rfl,C⟩:=hi;have E:∀w,(zeroValue e).run P w= .ok z w:=λw=>by simp[zeroValue,typeInfo,hi,C]
 have F:(Z0.zeroCells z.cells n).toList=eg z.cells (n*k):=by
  unfold Z0.zeroCells eg;rw[B]
 have s:=run_storeCells_cells (P:=P) g o (eg z.cells (n*k)) 0 w (λj G=>by
   rw[qI]at G;rw[Nat.add_zero,a.cell (v8 (show o+j<cs.length by omega))];rfl) (λj _=>a.frozen _ _) h1
 simp only[Nat.add_zero]at s;obtain⟨H,x⟩:=pz (eg z.cells (n*k)) cs o w a;rcases Nat.eq_zero_or_pos n with rfl|M
 .refine .of (by simp[Z0.clear_,run_underlying h]) (cU.refl _) (q w (ai.refl _ _) ?_);rw[Nat.zero_mul,j6 (qI z.cells 0)];exact a
 .obtain⟨m,rfl⟩:∃m,n=m+1:=⟨n-1,Ω⟩;refine .of (by simp[Z0.clear_,run_underlying h,E,F,s]) (x.cR a) (q _ x.ab H)
theorem dY{α:Type}{f:α->List x4}{k:Nat}{g:Nat}{L:List α}(h:bo f k e w g v L)(j:hx v r):r=g/\∃cs,aj w g e cs:=by
 obtain⟨_,⟨rfl,_⟩|⟨cap,cs,rfl,q,_⟩⟩:=h.1
 .exact (gp j).elim
 .obtain⟨a,n,c,h1,s⟩:=j;cases h1;exact⟨s.symm,cs,q⟩
theorem P1{α:Type}{f:α->List x4}{k:Nat}{g:Nat}{L:List α}(h:bo f k e w g v L)(a:L≠[]):∃cs n c,v= .slice (σ ⟨g,0,ν⟩) n c/\aj w g e cs:=by
 obtain⟨_,⟨rfl,j⟩|⟨cap,cs,rfl,q,_⟩⟩:=h.1
 .exact m6 (j6 j) a
 .exact⟨cs,_,_,rfl,q⟩
theorem fx.mk{g:Nat}{L:List cF}(h:bo fj 2 da w g v L)(a:∀x∈L,(∃e,aH .i64 al w e x.sv x.sc)/\l3 x.sc):fx w g v L:=by
 refine⟨h,λx J=>⟨(a x J).1,λr f=>?_,(a x J).2⟩⟩;obtain⟨cs,n,c,_,j⟩:=P1 h (λq=>by rw[q]at J;cases J);obtain⟨⟨e,hm⟩,_⟩:=a x J;exact cB hm j Φ f
def Sem(w:x5)(k:Int)(d6:Λ)(L:List cF):Prop:=∀x∈L,∃a e,du w x.g a e (b5 d6 x.sc) k x.cs
theorem yo{g q:Nat}{s:x4}{cs:Λ}(h:du w g q s an k cs)(e:ai S w I)(f:∀r,S r->∃c,aj w r da c):du I g q s an k cs:=by
 obtain⟨⟨bf,gs,h1,x,y⟩,z⟩:=h;refine⟨⟨bf,gs,h1.ab e λV=>?_,bG x e λr j V=>?_,bG y e λr j V=>?_⟩,z⟩
 .obtain⟨c,a⟩:=f g V;unfold aj at h1 a;rw[h1]at a;have:=(Obj.cells.inj (Z5 a)).2.1;exact m6 this Φ
 .obtain⟨c,a⟩:=f r V;exact cB x a Φ j rfl
 .obtain⟨c,a⟩:=f r V;exact cB y a Φ j rfl
theorem Sem.W{L:List cF}(h:Sem w k d6 L)(J:Ext w I):Sem I k d6 L:=λx a=>by
 obtain⟨e,f,j⟩:=h x a;exact⟨e,f,j.W J⟩
theorem Sem.row{L M:List cF}{g:Nat}(h:Sem w k d6 L)(a:fx w g v M)(e:ai (λr=>hx v r) w I):Sem I k d6 L:=λx f=>by
 obtain⟨j,q,s⟩:=h x f;exact⟨j,q,yo s e λr y=>by obtain⟨rfl,c,z⟩:=dY a.1 y;exact⟨c,z⟩⟩
def en(h:cF):c5:=(h.sc,h.cs)
theorem P2{c:Int}:aq x8 w3 [Δ c] w λv I=>v= .bool (decide (0<c))/\Ext w I:=by
 refine aE func189 ?_;rw[bU];exact⟨rfl,Ext.refl _⟩
theorem P3(h:aQ .i64 w sv l):
  aq x8 Kz [sv,.func (.func w3) #[] #[]] w λv I=>v= .bool (l.any λc=>decide (0<c))/\Ext w I:=by
 refine aE func188 ?_;refine aq.Y (K:=λv I=>Ext w I/\∃r:Int,v=Δ r/\(0<=r↔ ∃c∈l,0<c)) ?_ ?_
 .refine aE func250 ?_;rw[a8 aB.u h];refine ce.range l.length (λi _ U=>Ext w U/\∀c∈l.take i,¬0<c) h.le ⟨Ext.refl _,λc a=>by simp at a⟩ ?_ ?_
  .rintro i _ U k hi ⟨J,e⟩ hk;refine bF Ω ?_;obtain⟨x,f⟩:=aI (l:=l) hi;rw[bk aB.u ay.i Ψ (h.W J) f];show aq x8 w3 [Δ x] U _;refine P2.Y ?_;rintro _ aa _ ⟨rfl,j⟩;rw[ao];refine⟨λae=>⟨J.F j,i,rfl,⟨λ_=>⟨x,x7 f,ae⟩,λ_=>Ω⟩⟩,λq=>?_⟩;rw[aR];refine hk _ _ ⟨J.F j,λc a=>?_⟩;rw[u9,f]at a;rcases j5.1 a with a|a
   .exact e c a
   .simp at a;subst a;exact q
  .rintro _ U k ⟨J,e⟩;rw[o9]at e;rw[aW,ao];exact⟨λh=>Ω,λ_=>⟨J,-1,rfl,⟨λh=>Ω,λ⟨c,a,ae⟩=>m6 ae (e c a)⟩⟩⟩
 .rintro _ U _ ⟨J,r,rfl,s⟩;rw[cT];refine⟨?_,J⟩;congr 1;rw[V9,ro,List.any_eq_true,s];exact⟨λ⟨c,a,ae⟩=>⟨c,a,ms ae⟩,λ⟨c,a,ae⟩=>⟨c,a,rs ae⟩⟩
theorem Em{h:Nat}{x:cF}{q:x4}(J:ku w h x)(r:du w x.g j q an k x.cs):aq x8 rR [lr x] w λv I=>v= .bool (!gl (en x))/\Ext w I:=by
 obtain⟨⟨A,hm⟩,_⟩:=J;refine aE func187 ?_;refine bn λav U B f a=>?_;have a:aj U av da [x.sv,Γ x.g]:=by
  obtain⟨_,_,_,e⟩:=df hm.ls;simp only[lr,fj,e]at a ⊢;exact a
 rw[aN da.p 1 a rfl];refine(oH (r.W f)).Y ?_;rintro C aa _ ⟨s,E,G,y⟩;refine(P3 y.ls).Y ?_;rintro _ H _ ⟨rfl,z⟩;rw[bN];exact⟨rfl,(f.F s).F z⟩
theorem P4{g:Nat}{L:List cF}(h:fx w g v L)(V:Sem w k d6 L):
  aq x8 Bk [v,.func (.func rR) #[] #[]] w λr I=>Ext w I/\((r=Δ (-1)/\∀x∈L,gl (en x)=s2)\/∃i:Nat,r=Δ (i:Int)/\i<L.length/\(∀x∈L.take i,gl (en x)=s2)/\∀x,L[i]?=σ x->gl (en x)=sp):=by
 refine aE func183 ?_;rw[ek gX.u h.1];refine ce.range L.length (λi _ U=>Ext w U/\∀x∈L.take i,gl (en x)=s2) h.1.le ⟨Ext.refl _,λc a=>by simp at a⟩ ?_ ?_
 .rintro i _ U k hi ⟨J,e⟩ hk;refine bF Ω ?_;obtain⟨x,f⟩:=aI (l:=L) hi;rw[vd rfl (h.W J) f];show aq x8 rR [lr x] U _;obtain⟨A,B,s⟩:=V x (x7 f);refine(Em ((h.W J).at f) (s.W J)).Y ?_;rintro _ aa _ ⟨rfl,j⟩;rw[cb];refine⟨λae=>⟨J.F j,.inr ⟨i,rfl,hi,e,λy q=>by rw[f]at q;cases q;simpa using ae⟩⟩,λz=>?_⟩;rw[aR];refine hk _ _ ⟨J.F j,λc a=>?_⟩;rw[u9,f]at a;rcases j5.1 a with a|a
  .exact e c a
  .simp at a;subst a;simpa using z
 .rintro _ U k ⟨J,e⟩;rw[o9]at e;rw[aW,ao];exact⟨λh=>Ω,λ_=>⟨J,.inl ⟨rfl,e⟩⟩⟩
def gO(x:cF):Bool:=gl (en x)
theorem yp{L:List cF}{x:cF}(J:L[j]?=σ x):(L.take (j+1)).filter gO=if gO x=s2 then(L.take j).filter gO++[x]else(L.take j).filter gO:=by
 rw[u9,J,j4,List.filter_append];by_cases h:gO x=s2
 .rw[m3 h];simp[h]
 .rw[m5 h];simp[h]
theorem En{z:Array x4}(a:0<z.size)(h:∀u∈z.toList,u.oneCell'=s2):∀u∈eg z n,u.oneCell'=s2:=λu hu=>by
 unfold eg at hu;rw[Array.toList_map,l9]at hu;obtain⟨i,_,rfl⟩:=hu;have e:i % z.size<z.size:=Nat.mod_lt _ a;rw[getElem!_pos z (i % z.size) e];exact h _ Ξ
theorem P5{g:Nat}{L:List cF}(h:fx w g v L)(V:Sem w k d6 L)(bb:L.length<=100000):
  aq x8 KA [v,.func (.func rR) #[] #[]] w λf I=>ai (λr=>hx v r) w I/\fx I g f (L.filter gO)/\∀r,hx f r->hx v r:=by
 refine aE func190 ?_;refine(P4 h V).Y ?_;rintro r U _ ⟨E,q⟩;rcases q with⟨rfl,O⟩|⟨P,rfl,ax,O,ay⟩
 .rw[bm,ao];refine⟨λ_=>⟨E.ab _,?_,λr q=>q⟩,λh=>m6 rfl h⟩;rw[List.filter_eq_self.2 (show∀x∈L,gO x=s2 from O)];exact h.W E
 rw[bm,ao];refine⟨λh=>Ω,λ_=>?_⟩;rw[aR,lm Ω Ω];obtain⟨Q,ae⟩:=aI (l:=L) ax;refine⟨λR S aa=>∃(i j:Nat)(M:List cF),R=Δ (i:Int)/\S=Δ (j:Int)/\i<j/\j<=L.length/\M.length=L.length/\M.take i=(L.take j).filter gO/\M.drop j=L.drop j/\(∀x∈M,x∈L)/\fx aa g v M/\ai (λr=>hx v r) w aa,
  λ_ S _=>L.length-(b2 S).toNat,⟨P,P+1,L,rfl,by congr 1,Ω,Ω,rfl,?_,rfl,λx J=>J,h.W E,E.ab _⟩,?_⟩
 .have az:¬gO Q=s2:=by rw[show gO Q=sp from ay Q ae];simp
  rw[yp ae,m5 az,List.filter_eq_self.2 (show∀x∈L.take P,gO x=s2 from O)]
 rintro _ _ aa ⟨i,j,M,rfl,rfl,bc,bd,af,z,ag,ah,e,G⟩;have aB:Sem aa k d6 L:=V.row h G;rw[ek gX.u e.1,aW,ao];refine⟨λW=>?_,λbe=>?_⟩
 .have W:j<L.length:=Ω
  obtain⟨x,J⟩:=aI (l:=L) W;have H:M[j]?=σ x:=by
   have h1:(M.drop j)[0]?=(L.drop j)[0]?:=by rw[ag]
   rw[List.getElem?_drop,List.getElem?_drop,Nat.add_zero]at h1;rw[h1,J]
  have aj:M.drop (j+1)=L.drop (j+1):=by
   have h1:(M.drop j).drop 1=(L.drop j).drop 1:=by rw[ag]
   rw[List.drop_drop,List.drop_drop]at h1;exact h1
  refine a6 (λR K=>∃(B:Nat)(s:List cF),R=Δ (B:Int)/\B<j+1/\s.length=L.length/\s.take B=(L.take (j+1)).filter gO/\s.drop (j+1)=L.drop (j+1)/\(∀x∈s,x∈L)/\fx K g v s/\ai (λr=>hx v r) w K) ?_ ?_
  .rintro _ K ⟨B,s,rfl,h1,X,aC,aD,aF,aG,aH⟩;rw[aR,lm Ω Ω];exact⟨⟨B,j+1,s,rfl,rfl,h1,W,X,aC,aD,aF,aG,aH⟩,by simp only[b2];omega⟩
  .intro aA ak;rw[vd rfl e H];refine bE da.i λav K bf aJ aK=>?_;refine b3 (vs:=fj x) da.i rfl rfl (e.at H).one aK λaL aN bg al=>?_;have Y:=aJ.put aN Ω;rw[bH da.p da.i rfl al.range];show aq x8 rR [lr x] aL _;obtain⟨bh,bi,aO⟩:=aB x (x7 J);refine(Em ((e.W Y).at H) (aO.W Y)).Y ?_;rintro _ bj _ ⟨rfl,am⟩;have C:=Y.F am;rw[bN,Bool.not_not,cb];refine⟨λhk=>?_,λaP=>?_⟩
   .rw[bH da.p da.i rfl (al.W am).range];refine PS rfl (e.W C) Ω ((e.W C).at H) λbk aQ aS=>?_;rw[aR,lm Ω Ω];refine ak _ _ ⟨i+1,M.set i x,rfl,Ω,by simp[af],?_,?_,λy A=>?_,aS,(G.F (C.ab _)).F aQ⟩
    .have Z:gO x=s2:=hk;rw[yp J,m3 Z,u9,Z6 Ω,j4,List.take_set_of_le (o6 _),z]
    .rw[List.drop_set_of_lt Ω,aj]
    .rcases U5 A with A|rfl
     .exact ah y A
     .exact x7 J
   .have Z:¬gO x=s2:=by rw[show gO x=sp from aP];simp
    exact ak _ _ ⟨i,M,rfl,Ω,af,by rw[yp J,m5 Z,z],aj,ah,e.W C,G.F (C.ab _)⟩
 .have aT:j=L.length:=Ω
  subst aT;rw[o9]at z;obtain⟨⟨bl,aU⟩,an⟩:=e.1;rcases aU with⟨_,bn⟩|⟨cap,cs,ac,aV,bo,aX,aY,aZ⟩
  .omega
  subst ac;have a1:(ad x8 (V5 gX (.slice (σ ⟨g,0,ν⟩) M.length cap) (σ (Δ (i:Int))) ν ν) aa λa2=>
    aM x8 (Z0.clear_ #[gX] LS #[a2]) aa λu N=>
    ad x8 (V5 gX (.slice (σ ⟨g,0,ν⟩) M.length cap) ν (σ (Δ (i:Int))) ν) N λa7=>
    (λf I=>ai (λr=>hx (.slice (σ ⟨g,0,ν⟩) M.length cap) r) w I/\fx I g f (L.filter gO)/\∀r,hx f r->hx (.slice (σ ⟨g,0,ν⟩) M.length cap) r) a7 N):=by
   rw[iI gX.u da.i (pw i _ rfl) la fD Ω Ω (o6 _),m5 Ω];simp only[Y7,U8];refine P0 gX.u da.i rfl ?_ aV Ω λN ap a8=>?_
   .exact En Φ Φ
   rw[iI gX.u da.i kl (px i _ rfl) fD Ω Ω (o6 _),m5 Ω];simp only[Y7,U8,Nat.zero_mul,V0,Nat.sub_zero];have ba:(eg (x4.agg #[.slice ν 0 0,.pointer ν]).cells ((M.length-i)*2)).length=(M.length-i)*2:=qI _ _;have bp:(M.flatMap fj).length=M.length*2:=j1 an;have au:(L.filter gO).length=i:=by rw[<-z,Z3];omega
   have key:(λf I=>ai (λr=>hx (.slice (σ ⟨g,0,ν⟩) M.length cap) r) w I/\fx I g f (L.filter gO)/\∀r,hx f r->hx (.slice (σ ⟨g,0,ν⟩) M.length cap) r) (.slice (σ ⟨g,0,ν⟩) (L.filter gO).length cap) N:=by
    refine⟨G.F (ap.Y λr _ he=>⟨_,_,_,rfl,he.symm⟩),⟨⟨⟨j1 (λy _=>rfl),.inr ⟨cap,_,rfl,a8,Ω,aX,by rw[nN,aY],?_⟩⟩,λy _=>rfl⟩,λy A=>?_⟩,λr q=>?_⟩
    .rw[au,<-z,<-sw i an,<-aZ,List.take_take,ox (by rw[ba];omega),T1,List.take_append_of_le_length (by rw[Z3];omega),List.take_take];congr 1;omega
    .have aw:y∈M:=by rw[<-z]at A;exact R2 A
     exact(e.2 y aw).ab ap λr q he=>(e.2 y aw).2.1 r q he
    .obtain⟨a,n,c,h1,X⟩:=q;cases h1;exact⟨_,_,_,rfl,X⟩
   rw[au]at key;exact key
  exact a1
theorem sJ{k:o8}{g cap:Nat}{b:Option Addr}(h:aH k e w g (.slice b n cap) l)(s:0<l.length):
  b=σ ⟨g,0,ν⟩/\n=l.length/\∃cs,aj w g e cs/\n<=cap/\cap<=maxLen/\cs.length=cap/\cs.take n=ints k l:=by
 obtain⟨_,⟨_,h1⟩|⟨x,cs,h1,a,f,j,q,r⟩⟩:=h
 .omega
 .cases h1;exact⟨rfl,rfl,cs,a,f,j,by simpa using q,by simpa using r⟩
theorem P6{g cap:Nat}(h:aH .i64 al w g (.slice (σ ⟨g,0,ν⟩) n cap) l)(q:j<l.length):aQ .i64 w (.slice (σ ⟨g,j,ν⟩) (n-j) (cap-j)) (l.drop j):=by
 obtain⟨_,r,cs,a,h1,s,x,f⟩:=sJ h Ω;have:=Mv (o:=j) (k:=n-j) (c:=cap-j) a Ω Ω Ω;refine aQ.of (n:=n-j) ?_;have e:(cs.drop j).take (n-j)=ints .i64 (l.drop j):=by
  rw[<-List.drop_take,f,ints,ints,List.map_drop]
 rw[e]at this;exact this
theorem P7{g:Nat}(h:aH .i64 al w g sv l)(aU:l.length<=1000):
  aq x8 Lf [sv] w λv I=>ai (λr=>r=g) w I/\aH .i64 al I g v (dedup l l.length):=by
 refine aE func245 ?_;rw[a8 au.u h.ls];simp only[aW,ao];refine⟨λaV=>⟨ai.refl _ _,?_⟩,λaX=>?_⟩
 .rw[yl (o6 _) (λi hi X=>Ω),o9];exact h
 obtain⟨n,A⟩:∃n,l.length=n:=⟨_,rfl⟩;obtain⟨cap,rfl⟩:∃cap,sv= .slice (σ ⟨g,0,ν⟩) n cap:=by
  obtain⟨_,⟨_,h1⟩|⟨ap,cs,h1,_⟩⟩:=id h
  .omega
  .exact⟨ap,by rw[h1,A]⟩
 obtain⟨_,_,_,_,aY,av,_⟩:=sJ h Ω;refine⟨λ_ t U=>∃j:Nat,t=Δ (j:Int)/\1<=j/\j<=n/\Ext w U/\∀i,i<j->0<i->l[i]? ≠l[i-1]?,λ_ t _=>n-(b2 t).toNat,⟨1,rfl,Ω,Ω,Ext.refl _,λi h1 Y=>Ω⟩,?_⟩;rintro aZ _ U ⟨j,rfl,a1,Z,B,K⟩;rw[a8 au.u (h.ls.W B)];simp only[aW,ao,ey];refine⟨λaw aa ax _ _=>?_,λa2=>⟨B.ab _,?_⟩⟩
 .have aw:j<n:=Ω
  have C:=B.F ax;have ac:=h.ls.W C;obtain⟨a,L⟩:=aI (l:=l) (i:=j) Ω;obtain⟨b,M⟩:=aI (l:=l) (i:=j-1) Ω;rw[bk au.u al.i Ψ ac L];simp only[dr];rw[lm Ω Ω,ft (i:=j-1) Ω au.u al.i Ψ ac M];simp only[bm,ao,aR];refine⟨λN=>?_,λN=>?_⟩
  .subst N;rw[iI au.u al.i rZ la fD Ω Ω Ω,m5 Ω];have ay:V8 (λx:Addr=>x.add (j*1)) (σ ⟨g,0,ν⟩)=σ ⟨g,j,ν⟩:=by simp[U8]
   rw[ay];have ad:dedup l (j+1)=l.take j:=by rw[yj Ω (by rw[L,M]),yl Ω K]
   refine⟨λO t P=>∃(q e:Nat)(f:Λ),O=Δ (q:Int)/\t=Δ (e:Int)/\1<=e/\j+e<=n/\ai (λr=>r=g) w P/\aH .i64 al P g (.slice (σ ⟨g,0,ν⟩) n cap) f/\f.length=n/\
     q=(dedup l (j+e)).length/\f.take q=dedup l (j+e)/\q<=j+e-1/\∀i,j+e-1<=i->f[i]?=l[i]?,λ_ t _=>n-(b2 t).toNat,
    ⟨j,1,l,rfl,rfl,Ω,Ω,C.ab _,h.W C,A,by rw[ad,Z3];omega,by rw[ad],Ω,λi _=>rfl⟩,?_⟩
   rintro _ _ P ⟨q,e,f,rfl,rfl,a7,ba,Q,ae,af,ag,E,az,G⟩;rw[jr au.u];simp only[aW,ao,ey];refine⟨λah=>?_,λah=>?_⟩
   .have ah:j+e<n:=Ω
    refine a6 (λO R=>∃(q:Nat)(f:Λ),O=Δ (q:Int)/\ai (λr=>r=g) w R/\aH .i64 al R g (.slice (σ ⟨g,0,ν⟩) n cap) f/\f.length=n/\
     q=(dedup l (j+(e+1))).length/\f.take q=dedup l (j+(e+1))/\q<=j+(e+1)-1/\∀i,j+(e+1)-1<=i->f[i]?=l[i]?) ?_ ?_
    .rintro _ R ⟨q,f,rfl,h1,Y,aB,aC,aD,aF,aG⟩;simp only[aR];rw[lm Ω Ω];exact⟨⟨q,e+1,f,rfl,rfl,Ω,Ω,h1,Y,aB,aC,aD,aF,aG⟩,by simp only[b2];omega⟩
    .intro aA aj bb S _ _;have H:=ae.W S;have V:=P6 (j:=j) H Ω;obtain⟨y,J⟩:=aI (l:=l) (i:=j+e) Ω;obtain⟨z,W⟩:=aI (l:=l) (i:=j+e-1) Ω;have ak:(f.drop j)[e]?=σ y:=by rw[List.getElem?_drop,G _ Ω,J]
     have aJ:(f.drop j)[e-1]?=σ z:=by rw[List.getElem?_drop,G _ Ω,<-W];congr 1;omega
     rw[bk au.u al.i Ψ V ak];simp only[dr];rw[lm Ω Ω,ft (i:=e-1) Ω au.u al.i Ψ V aJ];simp only[bM,ao,aR];refine⟨λs=>?_,λs=>?_⟩
     .rw[bk au.u al.i Ψ V ak,ju rfl au.u al.i H Ω];refine jv al.i H Ω λbc aK bd aL=>?_;rw[lm Ω Ω];have am:=yk J (λ_=>by rw[J,W];simpa using s);refine aj _ _ ⟨q+1,_,rfl,(Q.F (S.ab _)).F aK,aL,by simpa using af,?_,?_,Ω,λi hi=>?_⟩
      .rw[<-Nat.add_assoc,am];simp;omega
      .rw[<-Nat.add_assoc,am,u9,Z6 Ω,List.take_set_of_le (o6 _),E];rfl
      .rw[Y9 Ω];exact G i Ω
     .have s:=X1.1 s;have an:dedup l (j+e+1)=dedup l (j+e):=yj Ω (by rw[J,W,s]);exact aj _ _ ⟨q,f,rfl,Q.F (S.ab _),H,af,by rw[<-Nat.add_assoc,an];exact ag,by rw[<-Nat.add_assoc,an];exact E,Ω,λi hi=>G i Ω⟩
   .have hk:j+e=n:=Ω
    rw[hk]at ag E az;obtain⟨_,_,cs,aM,_,_,be,aN⟩:=sJ ae Ω;simp only[maxLen]at av;rw[iI au.u al.i rZ la fD Ω Ω Ω,m5 Ω];have aO:V8 (λx:Addr=>x.add (q*1)) (σ ⟨g,0,ν⟩)=σ ⟨g,q,ν⟩:=by simp[U8]
    rw[aO];refine B8 au.u al.i rfl rfl aM Ω Ω λbf aP bg aQ=>?_;rw[iI au.u al.i kl py fD Ω Ω Ω,m5 Ω];have aS:V8 (λx:Addr=>x.add (0*1)) (σ ⟨g,0,ν⟩)=σ ⟨g,0,ν⟩:=by simp[U8]
    rw[aS,A];refine⟨Q.F aP,?_⟩;rw[<-E];refine aH.of (n:=q) ⟨Θ,.inr ⟨cap,_,Ξ,aQ,Ω,by simp only[maxLen];omega,by rw[nN];omega,?_⟩⟩;rw[U3];apply Y3;intro i;by_cases hi:i<q
    .rw[V1 hi,qH _ _ _ Θ,m5 Ω,ints,u4,V1 hi];have:(cs.take n)[i]?=(ints .i64 f)[i]?:=by rw[aN]
     rw[V1 Ω,ints,u4]at this;exact this
    .rw[W8 Θ,W8 Θ]
  .rw[lm Ω Ω];refine⟨⟨j+1,rfl,Ω,Ω,C,λi hi X=>?_⟩,by simp only[b2];omega⟩;by_cases aT:i=j
   .subst aT;rw[L,M];intro he;exact N (Z5 he)
   .exact K i Ω X
 .have Z:j=n:=Ω
  rw[yl (o6 _) (by rw[A,<-Z];exact K),o9];exact h.W B
theorem P8(z:n<=1000000):aq x8 LB [.slice ν 0 0,Δ (n:Int)] w λv I=>Ext w I/\∃g,w.heap.size<=g/\aH .i64 al I g v []:=by
 refine aE func281 ?_;refine dh (λU=>w=U) ?_ ?_
 .rintro _ rfl;refine a6 (λv I=>Ext w I/\∃g,w.heap.size<=g/\aH .i64 al I g v []) (λ_ _ h=>h) λaA a=>?_;rw[B7 au.u,jr au.u];simp only[dr];have e:X5.wrap (((0:Nat):Int)-((0:Nat):Int))=0:=Φ
  have f:X5.wrap ((n:Int)-0)=n:=by rw[lm Ω Ω];omega
  rw[e,f];simp only[bU,ao];refine⟨λh=>?_,λh=>a _ _ ⟨Ext.refl _,w.heap.size,o6 _,aH.nil _ _ _ _⟩⟩;rw[B7 au.u,iI au.u al.i kl py fD Ω Ω Ω,m3 rfl];refine Mu (xs:=[]) rfl au.u al.u al.i rfl ⟨rfl,0,0,ν,0,rfl,o6 _,X9 _,λh=>m6 h (Nat.lt_irrefl _),λj v h=>by simp at h⟩ Ω Ω Ω Ω λv g I A J hm=>?_;obtain⟨_,⟨_,B⟩|⟨cap,cs,rfl,q,h1,r,s,C⟩⟩:=hm
  .omega
  rw[jr au.u,iI au.u al.i kl py fD Ω Ω Ω,m5 Ω];have y:V8 (λx:Addr=>x.add (0*1)) (σ ⟨g,0,ν⟩)=σ ⟨g,0,ν⟩:=by simp[U8]
  rw[y];refine a _ _ ⟨J,g,Ω,aH.of (n:=0) ⟨Ξ,.inr ⟨cap,cs,Ξ,q,Ω,r,s,Ξ⟩⟩⟩
 .intro aA a;simp only[aW,ao];exact⟨λh=>Ω,λ_=>a _ rfl⟩
theorem P9{a b:Λ}{K:x4->x5->Prop}(E:aQ .i64 w bC a)(G:aQ .i64 w bv b)(S:a.length<=1000)(V:b.length<=1000)(W:∀v I g,Ext w I->w.heap.size<=g->aH .i64 al I g v (a++b)->K v I):
  aM x8 (Y4 ca 2 #[(0,bC),(1,bv)]) w λt U=>aq x8 Lg [t] U K:=by
 obtain⟨⟨H,J,L,X⟩,⟨M,N,O,Y⟩⟩:(∃x n c,bC= .slice x n c)/\(∃x n c,bv= .slice x n c):=by
  obtain⟨_,_,_,x,c,h1,_⟩:=id E;obtain⟨_,_,_,y,d,Z,_⟩:=id G;exact⟨⟨x,_,c,h1⟩,⟨y,_,d,Z⟩⟩
 subst X;subst Y;refine lb ca.u au.i Ω (cs:=#[.slice H J L,.slice M N O]) Ψ λg U ax s z=>?_;have z:=z;have key:∀i:Nat,i<2->∃v l,[x4.slice H J L,.slice M N O][i]?=σ v/\[a,b][i]?=σ l/\aQ .i64 w v l/\l.length<=1000:=λi hi=>by
  match i,hi with
  |0,_=>exact⟨_,_,rfl,rfl,E,S⟩
  |1,_=>exact⟨_,_,rfl,rfl,G,V⟩
 refine aE func246 ?_;rw[jr ca.u];refine ce.range 2 (λi size aa=>Ext U aa/\∃n:Nat,n<=1000*i/\size=Δ (n:Int)) Ω ⟨Ext.refl _,0,Ω,rfl⟩ ?_ ?_
 .rintro i _ aa ab hi ⟨f,n,ad,rfl⟩ ae;simp only[aW,ao];refine⟨λ_=>?_,λh=>Ω⟩;obtain⟨v,l,ac,P,C,af⟩:=key i hi;refine a6 (λv Q=>aa=Q/\v=Δ ((n+l.length:Nat):Int)) ?_ ?_
  .rintro _ _ ⟨rfl,rfl⟩;simp only[aR];exact ae _ _ ⟨f,_,Ω,rfl⟩
  .intro aA ag;rw[e5 ca.u au.i hi (λ_=>rfl),aG Ψ ((z.W f).cell (by rw[<-ac];congr 1;omega)),a8 au.u (C.W (s.F f))];simp only[aR,aW,ao];rw[lm Ω Ω];exact⟨λh=>Ω,λ_=>ag _ _ ⟨rfl,by congr 1⟩⟩
 .rintro _ aa ab ⟨f,n,ad,rfl⟩;simp only[aW,ao];refine⟨λh=>Ω,λ_=>?_⟩;refine(P8 Ω).Y ?_;rintro v0 Q _ ⟨R,ah,ay,ai⟩;have s1:=s.size;have az:=f.size;have aB:=R.size;have aj:=f.F R;rw[jr ca.u];refine ce.range 2 (λi v A=>Ext U A/\∃q,U.heap.size<=q/\aH .i64 al A q v (([a,b].take i).flatten)/\(([a,b].take i).flatten).length<=1000*i) Ω ⟨aj,ah,Ω,ai,Ξ⟩ ?_ ?_
  .rintro i v4 A ak hi ⟨j,q,am,B,aC⟩ an;simp only[aW,ao];refine⟨λ_=>?_,λh=>Ω⟩;obtain⟨v,l,ac,P,C,af⟩:=key i hi;rw[e5 ca.u au.i hi (λ_=>rfl),aG Ψ ((z.W j).cell (by rw[<-ac];congr 1;omega))];refine kL au.u al.i rfl B (C.W (s.F j)) Ω Ω λaD ap aF aI av aw=>?_;simp only[aR];have aJ:=j.size;have e:([a,b].take (i+1)).flatten=([a,b].take i).flatten++l:=by rw[u9,P];simp
   refine an _ _ ⟨j.then aw (by rintro r aK rfl;omega),ap,Ω,by rw[e];exact av,by rw[e,c9];omega⟩
  .rintro v4 A ak ⟨j,q,am,B,_⟩;simp only[aW,ao];refine⟨λh=>Ω,λ_=>W _ _ q (s.F j) Ω ?_⟩;have e:([a,b].take 2).flatten=a++b:=Ξ
   rw[e]at B;exact B
def q7(s1 a f e d9:Λ):Prop:=∀p∈d9,p∈a->p∈e->jA s1 (jg a p)=jA f (jg e p)
def dU(s1 a e f d9:Λ):Λ:=d9.map λp=>max (jA s1 (jg a p)) (jA e (jg f p))
theorem Eo(s1 a e f d9:Λ):(dU s1 a e f d9).length=d9.length:=by simp[dU]
theorem ve{x:Int}:0<=jg l x↔x∈l:=by
 unfold jg;by_cases h:x∈l
 .rw[m3 h];exact⟨λ_=>h,λ_=>Ω⟩
 .rw[m5 h];exact⟨λh=>Ω,λa=>m6 a h⟩
theorem Qa{g ay W az:Nat}{C X:x4}{s1 f d9 a e:Λ}{aB:Int}{aC aD:Λ}(h1:du w g ay sv s1 k aC)(Y:du w W az C f aB aD)(ac:aQ .i64 w X d9)(aF:aQ .i64 w bC a)(E:aQ .i64 w bv e)(aG:iL a)(aJ:iL e)(bc:d9.length<=1000):
  aq x8 Lh [X,Γ g,bC,Γ W,bv] w λv I=>Ext w I/\
   (¬q7 s1 a f e d9->v= .tuple #[.slice ν 0 0,.bool sp])/\
   (q7 s1 a f e d9->∃x av,v= .tuple #[x,.bool s2]/\w.heap.size<=av/\aH .i64 al I av x (dU s1 a f e d9)):=by
 have sub:∀{w:x5}{g:Nat}{sv:x4}{k:Int}{bf:x4},aj w g db [sv,Δ k,bf]->w.rangeAt g (0+0) [sv]:=λE=>pE E (by
  intro j v ac
  match j,ac with
  |0,ac=>exact ac)
 refine aE func247 ?_;rw[a8 au.u ac];refine kM au.u al.i Ω Ω λgz U bd Z aK=>?_;have aL:=aH.of (n:=d9.length) (cf.full aK Ξ (by simp[maxLen];omega));generalize (x4.slice (σ ⟨gz,0,ν⟩) d9.length d9.length)=aM at*;rw[a8 au.u (ac.W Z)];have G:=Eo s1 a f e d9;refine kE.range d9.length (λi _ _ aa=>Ext w aa/\aH .i64 al aa gz aM (upto (dU s1 a f e d9) 0 i)/\∀(j:Nat)(p:Int),j<i->d9[j]?=σ p->p∈a->p∈e->jA s1 (jg a p)=jA f (jg e p)) Ω
  ⟨Z,by rw[qQ,G];exact aL,λj p z=>Ω⟩ ?_ ?_
 .rintro i _ _ aa aN hi ⟨q,hm,H⟩ aO;simp only[aW,ao];refine⟨λ_=>?_,λh=>Ω⟩;obtain⟨p,ae⟩:=aI (l:=d9) hi;rw[bk au.u al.i Ψ (ac.W q) ae];refine(ym (aF.W q) aG).Y ?_;rintro _ be _ ⟨rfl,J⟩;refine(ym (E.W (q.F J)) aJ).Y ?_;rintro _ aP _ ⟨rfl,ab⟩;have ad:=(q.F J).F ab;refine a6 (λv af=>Ext aP af/\∃c,v= .bool c/\(c=s2↔p∈a/\p∈e/\jA s1 (jg a p)≠jA f (jg e p))) ?_ ?_
  .rintro _ af ⟨ag,c,rfl,ai⟩;have ak:=ad.F ag;rw[cb];refine⟨λaS=>⟨ak,λ_=>by first|rfl|trivial,λz=>?_⟩,λah=>?_⟩
   .obtain⟨s,y,aT⟩:=ai.1 aS;exact m6 (z p (x7 ae) s y) aT
   .simp only[ey];intro bg am _ _;have K:=ak.F am;obtain⟨⟨bf,gs,L,M,_⟩,_⟩:=h1.W K;obtain⟨⟨aU,aV,N,O,_⟩,_⟩:=Y.W K;rw[cc,a1 db.p rfl,bH (cs:=[sv]) bO.p bO.i rfl (sub L),cc,a1 db.p rfl,bH (cs:=[C]) bO.p bO.i rfl (sub N)];refine(sk M.ls).Y ?_;rintro _ bh _ ⟨rfl,A⟩;refine⟨.inl A,?_⟩;refine(sk (O.ls.W A)).Y ?_;rintro _ bi _ ⟨rfl,an⟩;have aX:=(K.F A).F an;have ap:=hm.W ((((J.F ab).F ag).F am).F (A.F an));have bj:(upto (dU s1 a f e d9) 0 i).length=d9.length:=by rw[pJ,G]
    rw[rY,ju rfl au.u al.i ap Ω];refine jv al.i ap Ω λbl aY _ aw=>?_;simp only[aR];have aZ:(dU s1 a f e d9)[i]?=σ (max (jA s1 (jg a p)) (jA f (jg e p))):=by
     unfold dU;rw[u4,ae];rfl
    rw[qS aZ]at aw;refine aO _ _ _ ⟨aX.then aY (by rintro r bm rfl;omega),aw,λj a2 z P s y=>?_⟩;by_cases a7:j=i
    .subst a7;rw[ae]at P;cases P;refine Decidable.byContradiction λba=>?_;have:=ai.2 ⟨s,y,ba⟩;rw[ah]at this;cases this
    .exact H j a2 Ω P s y
  .intro aA Q;simp only[ey,cT,ao];intro bn B _ _;refine⟨λR=>⟨λS=>?_,λS=>⟨.inl (Ext.refl _),Q _ _ ⟨B,sp,rfl,⟨(λh=>by cases h),λh=>m6 (ve.2 h.2.1) S⟩⟩⟩⟩,λR=>⟨.inl (Ext.refl _),Q _ _ ⟨B,sp,rfl,⟨(λh=>by cases h),λh=>m6 (ve.2 h.1) R⟩⟩⟩⟩;have ax:=ad.F B;obtain⟨⟨bf,gs,L,M,_⟩,_⟩:=h1.W ax;obtain⟨⟨aU,aV,N,O,_⟩,_⟩:=Y.W ax;rw[cc,a1 db.p rfl,bH (cs:=[sv]) bO.p bO.i rfl (sub L),cc,a1 db.p rfl,bH (cs:=[C]) bO.p bO.i rfl (sub N)];refine(sk M.ls).Y ?_;rintro _ bo _ ⟨rfl,V⟩;refine⟨.inl V,?_⟩;refine(sk (O.ls.W V)).Y ?_;rintro _ bp _ ⟨rfl,bb⟩;simp only[bM];refine Q _ _ ⟨(B.F V).F bb,_,rfl,?_⟩;rw[decide_eq_true_iff];exact⟨λh=>⟨ve.1 R,ve.1 S,h⟩,λh=>h.2.2⟩
 .rintro _ _ aa aN ⟨q,hm,H⟩;simp only[aW,ao];refine⟨λh=>Ω,λ_=>?_⟩;have z:q7 s1 a f e d9:=λp ae s y=>by
   obtain⟨i,hi,he⟩:=List.getElem_of_mem ae;exact H i p hi (by rw[v8 hi,he]) s y
  rw[<-G,qR]at hm;exact⟨q,λh=>m6 z h,λ_=>⟨_,gz,rfl,Ω,hm⟩⟩
def yq(a e d9:Λ):Prop:=iL d9/\∀x,x∈d9↔x∈a\/x∈e
def pU(s1 h a e j f d9:Λ)(k:Int):Λ:=
 (X0 (aX (dU s1 a e f d9)).toNat).map λ(q:Nat)=>min (bu s1 h (gN (dz (dU s1 a e f d9) q) d9 a)+bu e j (gN (dz (dU s1 a e f d9) q) d9 f)) k
theorem Qb(s1 h a e j f d9:Λ)(k:Int):(pU s1 h a e j f d9 k).length=(aX (dU s1 a e f d9)).toNat:=by simp[pU]
theorem vf{s cs:Λ}(hk:right k)(h:∀x∈cs,cE x k):cE (bu s cs t) k:=by
 have a:cE 0 k:=⟨hk,S5 _,by have:=hk.1;omega⟩
 grind [bu]
def Fits(s l:Λ):Prop:=l.length=s.length/\sH l
def sK(e:Int):x4:=.tuple #[.pointer ν,.slice ν 0 0,Δ e]
def Ep(w:x5)(s1 r a f s e:Λ)(k h:Int)(v:x4)(I:x5):Prop:=
 Ext w I/\(¬(Fits s1 a/\Fits f e)->v=sK 1)/\
  (Fits s1 a/\Fits f e->∃d9,yq a e d9/\(¬q7 s1 a f e d9->v=sK 1)/\(q7 s1 a f e d9->(k≠h->v=sK 3)/\
   (k=h->¬ct (dU s1 a f e d9)->v=sK 1)/\(k=h->ct (dU s1 a f e d9)->4096<aX (dU s1 a f e d9)->v=sK 5)/\
   (k=h->ct (dU s1 a f e d9)->aX (dU s1 a f e d9)<=4096->∃j x y q,v= .tuple #[Γ j,q,Δ 0]/\
    du I j x y (dU s1 a f e d9) k (pU s1 r a f s e d9 k)/\aQ .i64 I q d9)))
theorem Qc{g br ga bs:Nat}{bt:x4}{s1 y f j:Λ}{aT:Int}{E G:Λ}(h1:du w g br sv s1 k E)(ad:du w ga bs bt y aT G)(af:aQ .i64 w bC f)(ag:aQ .i64 w bv j)(hk:right k)(ci:∀x∈E,cE x k)(cj:∀x∈G,cE x aT):
  aq x8 Ky [Γ g,bC,Γ ga,bv] w (Ep w s1 E f y G j k aT):=by
 have ck:=af.cells;have dw:=ag.cells;have cl:=h1.2.2.1;have cm:=ad.2.2.1;have sub:∀{w:x5}{g:Nat}{sv:x4}{k:Int}{bf:x4},aj w g db [sv,Δ k,bf]->w.rangeAt g (0+0) [sv]:=by grind [pE]
 refine jq func186 ?_;refine bn λg1 U dx bx C=>?_;refine bn λbB aa dy aU H=>?_;refine bn λbD dA dC aI K=>?_;refine bn λbF Q dD ak L=>?_;have dE:=C.lt;have dF:=H.lt;have dG:=K.lt;have dH:=L.lt;have dI:=bx.size;have dJ:=aU.size;have dK:=aI.size;have dL:=ak.size;have R:=((bx.F aU).F aI).F ak;have C:aj Q g1 fs [Γ g]:=((C.W aU).W aI).W ak;have H:aj Q bB au [bC]:=by rw[ck.1]at H;exact(H.W aI).W ak
 have K:aj Q bD fs [Γ ga]:=K.W ak;have L:aj Q bF au [bv]:=by grind
 refine a6 (λv bI=>v= .bool sp/\Q=bI) ?_ ?_
 rotate_left
 .intro aA aV;rw[aG Ψ (C.Qz rfl),dl fs.u];simp only[b8,bc];rw[aG Ψ (K.cell rfl),dl fs.u]
  grind
 rintro _ _ ⟨rfl,rfl⟩;simp only[bc];refine a6 (λv bJ=>Ext Q bJ/\∃c,v= .bool c/\(c=s2↔¬(Fits s1 f/\Fits y j))) ?_ ?_
 rotate_left
 .intro aA aV;rw[aG Ψ (C.cell rfl),aG Ψ (H.cell rfl)];refine(Ef (h1.W R) (af.W R)).Y ?_;rintro _ bI _ ⟨W,c,rfl,aJ⟩;simp only[bN,cb];refine⟨λcn=>aV _ _ ⟨W,s2,rfl,λ_ h=>?_,λ_=>rfl⟩,λah=>?_⟩
  .have:=aJ.2 h.1;grind
  .have cp:c=s2:=by grind
   rw[aG Ψ ((K.W W).cell rfl),aG Ψ ((L.W W).cell rfl)];refine(Ef ((ad.W R).W W) ((ag.W R).W W)).Y ?_;rintro _ dM _ ⟨cq,d,rfl,bK⟩;simp only[bN];refine aV _ _ ⟨W.F cq,_,rfl,λh ax=>?_,λh=>?_⟩
   .have:=bK.2 ax.2;grind
   .cases d with
    |false=>rfl
    |true=>exact m6 ⟨aJ.1 cp,bK.1 rfl⟩ h
 rintro _ bJ ⟨am,c,rfl,aJ⟩;have aW:=R.F am;rw[cb];refine⟨λcn dN cr _=>⟨aW.F cr,λ_=>rfl,by grind⟩,λah=>?_⟩;have cu:=Classical.byContradiction λh=>by
  have:=aJ.2 h;rw[ah]at this;cases this
 obtain⟨⟨dO,cw⟩,dP,cz⟩:=id cu;have dQ:=cl.1;have dR:=cm.1;rw[aG Ψ ((H.W am).cell rfl),aG Ψ ((L.W am).cell rfl)];refine P9 (af.W aW) (ag.W aW) Ω Ω λdS dT dV bL dW cA=>?_;refine yi cA.ls (by grind) λdX dY dZ m bP ea bQ cB cC=>?_;have cD:=bQ.length_eq;rw[c9]at cD;refine(P7 cC Ω).Y ?_;rintro aZ eb _ ⟨cF,a2⟩;have ec:=am.size;have ed:=bL.size;have ee:=bP.size;have bR:=(bL.F bP).then cF Ω;obtain⟨cG,cH⟩:=Ee cB (o6 _);have ef:=PE m m.length;have M:yq f j (dedup m m.length):=⟨cG,λx=>by rw[cH,o9,bQ.mem_iff,j5]⟩;generalize dedup m m.length=d9 at*;refine bE au.i λbi eg eh bT cI=>?_;refine bw au.i a2.ls.cells.1 a2.ls.cells.2 cI (by simp[x4.cells]) λei cJ ej an=>?_;have ek:=bR.size;have em:=bT.size;have a7:=bT.then cJ Ω;have X:=(am.F bR).F a7;have ap:=R.F X;have dd:=an.lt;have bU:=a2.ls.W a7;have an:=an;rw[aG Ψ (an.cell rfl),aG Ψ ((C.W X).cell rfl),aG Ψ ((H.W X).cell rfl),aG Ψ ((K.W X).cell rfl),aG Ψ ((L.W X).cell rfl)];refine(Qa (h1.W ap) (ad.W ap) bU (af.W ap) (ag.W ap) cw.up cz.up Ω).Y ?_;rintro en eo _ ⟨aw,cK,cL⟩;have bV:=ap.F aw;by_cases bW:q7 s1 f y j d9
 rotate_left
 .rw[cK bW,bz,bA];simp only[bN,X6,bS];intro ep cM _;exact⟨bV.F cM,by grind,λ_=>⟨d9,M,λ_=>rfl,by grind⟩⟩
 obtain⟨xs,av,rfl,er,cN⟩:=cL bW;rw[bz,bA];simp only[bN,Y5,bc];intro Y Z _ _;have aK:=(X.F aw).F Z;have ac:=bV.F Z;have C:=C.W aK;have H:=H.W aK;have K:=K.W aK;have L:=L.W aK;have cO:=(an.W aw).W Z;obtain⟨⟨bf,gs,bX,es,_⟩,_⟩:=h1.W ac;obtain⟨⟨et,eu,cP,ev,_⟩,_⟩:=ad.W ac;rw[aG Ψ (C.cell rfl),aP db.p 1 bX rfl,aG Ψ (K.cell rfl),aP db.p 1 cP rfl];simp only[bM,ao];refine⟨λaL ew cQ _=>⟨ac.F cQ,by grind,λ_=>⟨d9,M,by grind,λ_=>⟨λ_=>rfl,Ω,Ω,Ω⟩⟩⟩,λaL=>?_⟩;have aL:=X1.1 aL;subst aL;rw[aG Ψ (C.cell rfl),aP db.p 1 bX rfl];have cR:=cN.W Z;refine(xm cR.ls).Y ?_;rintro aY aM _ ⟨bY,ey,ez,_,cS⟩;have eA:=a7.size;have eB:=aw.size;have eC:=Z.size;have eD:=bY.size;obtain⟨az,e,rfl,eE,a8⟩:∃(az:Option Addr)(e:Int),aY= .tuple #[.pointer az,Δ e]/\(e=0->az≠ν)/\((e=1/\¬ct (dU s1 f y j d9))\/(e=5/\ct (dU s1 f y j d9)/\4096<aX (dU s1 f y j d9))\/(e=0/\ct (dU s1 f y j d9)/\aX (dU s1 f y j d9)<=4096/\
   ∃z B A,az=σ ⟨z,0,ν⟩/\Y.heap.size<=z/\Y.heap.size<=B/\(∀r,lc A r->Y.heap.size<=r)/\du aM z B A (dU s1 f y j d9) k (o5 (aX (dU s1 f y j d9)).toNat 0))):=by
  by_cases V:ct (dU s1 f y j d9)
  .by_cases ae:aX (dU s1 f y j d9)<=4096
   .obtain⟨z,B,A,cT,cU,cV,cW,cX⟩:=cS V ae ⟨hk,Ω,by have:=hk.1;omega⟩;exact⟨_,_,cT,by grind,.inr (.inr ⟨rfl,V,ae,z,B,A,rfl,cU,cV,cW,cX⟩)⟩
   grind
  grind
 rw[bz,bA];refine bE fs.i λcY eF eH bZ aC=>?_;refine bw fs.i rfl rfl aC (by simp[x4.cells]) λeI cZ eJ aC=>?_;have eK:=bZ.size;have ba:=bZ.then cZ Ω;have b0:=bY.F ba;have c0:=ac.F b0;have eL:=aC.lt;simp only[bM,ao];refine⟨λeM eN c1 _=>⟨c0.F c1,by grind,λ_=>⟨d9,M,by grind,λ_=>⟨Ω,λ_ V=>?_,λ_ V ae=>?_,λ_ V ae=>?_⟩⟩⟩,λeO=>?_⟩
 .rcases a8 with⟨rfl,_⟩|⟨_,h,_⟩|⟨_,h,_⟩
  .rfl
  all_goals grind
 .rcases a8 with⟨_,h⟩|⟨rfl,_⟩|⟨_,_,h,_⟩
  .grind
  .rfl
  .omega
 .grind
 obtain⟨bb,c2,z,B,A,rfl,eP,eQ,eR,aN⟩:ct (dU s1 f y j d9)/\aX (dU s1 f y j d9)<=4096/\
   ∃z B A,az=σ ⟨z,0,ν⟩/\Y.heap.size<=z/\Y.heap.size<=B/\(∀r,lc A r->Y.heap.size<=r)/\du aM z B A (dU s1 f y j d9) k (o5 (aX (dU s1 f y j d9)).toNat 0):=by
  rcases a8 with⟨h,_⟩|⟨h,_⟩|⟨_,h⟩
  all_goals omega
 obtain rfl:e=0:=Ω
 have eS:(dU s1 f y j d9).length=d9.length:=Eo _ _ _ _ _;have eU:=prod_bound bb;obtain⟨N,b1⟩:∃N:Nat,(aX (dU s1 f y j d9)).toNat=N:=⟨_,rfl⟩;rw[b1]at aN;have eV:0<N:=Ω
 have c3:=aN.W ba;obtain⟨⟨bd,b2,b3,b4,c4⟩,⟨c5,c6,_⟩,_,eW⟩:=id c3;have eX:z<aM.heap.size:=by obtain⟨⟨_,_,q,_⟩,_⟩:=id aN;exact q.lt
 have eY:B<aM.heap.size:=by obtain⟨⟨_,_,_,_,q⟩,_⟩:=id aN;exact sF q Θ
 rw[aG Ψ (aC.cell rfl),cc,a1 db.p rfl,bH (cs:=[A]) bO.p bO.i rfl (sub b3)];refine xQ.Y ?_;rintro _ aO _ ⟨O,be,rfl,eZ,b5⟩;have e0:=ba.size;have e1:=O.size;let S:Nat->Prop:=λr=>r=B;let aD:=pU s1 E f y G j d9 k;have bg:aD.length=N:=by grind [Qb]
 have c7:=(bU.W aw).W Z;let c8:x5->Prop:=λI=>aj I g1 fs [Γ g]/\aj I bB au [bC]/\aj I bD fs [Γ ga]/\aj I bF au [bv]/\aj I bi au [aZ]/\aQ .i64 I aZ d9/\
  aj I cY fs [Γ z]/\aj I z db [A,Δ k,bd]/\du I g br sv s1 k E/\du I ga bs bt y k G/\aQ .i64 I bC f/\aQ .i64 I bv j/\aH .i64 al I b2 A (dU s1 f y j d9)/\aj I be bO [A]/\aO.heap.size<=I.heap.size
 have b6:=b0.F O;have aE:∀{a:x5},ai S aO a->c8 a:=by
  intro a J;have P:=b6.put J Ω;have aR:=ac.F P;exact⟨C.W P,H.W P,K.W P,L.W P,cO.W P,c7.W P,(aC.W O).ab J Ω,(b3.W O).ab J Ω,h1.W aR,ad.W aR,af.W aR,ag.W aR,
   bG (b4.W O) J (by grind),b5.ab J Ω,J.size⟩
 have b7:=xP (g:=be) (B0:=aO.heap.size) (sv:=A) bb;rw[b1]at b7;refine qv.old ⟨Nat,sp,nD,#[Γ be],0,_,_,_,λq I=>ai S aO I/\aH .i64 ay I B bd (upto aD 0 q),λ_ _ _=>False,rfl,b7.s,
  ?_,λ_ _ J h=>⟨h.1.W J,h.2.1.W J,X3 h.2.2 J.size⟩,λ_ _ _ J h=>⟨h.1.F (J.ab S),h.2.W J⟩,by grind,⟨b5,(b4.W O).ls,o6 _⟩,⟨ai.refl _ _,?_⟩,?_,?_,by grind,by grind⟩
 .rintro _ _ _ _ ⟨_,_,_,_,rfl,_⟩;rfl
 .rw[qQ,bg];exact c4.W O
 .rintro _ aY q _ e2 ⟨_,_,e3⟩ ⟨b9,rfl,e4,gt,da,e5,ca⟩ ⟨aS,dc⟩;cases da;let x:=dz (dU s1 f y j d9) (q:Int);have cd:x.length=d9.length:=by grind [kN]
  intro e6 de _ _;intro e7 df _ _;have bh:=de.F df;obtain⟨f1,f2,f3,f4,f5,f6,f7,f8,f9,f10,f11,f12,f13,f14,f15⟩:=aE (aS.F (bh.ab S));rw[aG Ψ (f1.cell rfl),aG Ψ (f5.cell rfl),aG Ψ (f2.cell rfl)];refine(Eh (ca.ls.W bh) f6 f11 M.1 (λp ae=>(M.2 p).2 (.inl ae)) cd Ω).Y ?_;rintro e8 e9 _ ⟨bj,fa,fb,dg⟩;refine⟨.inl bj,?_⟩;refine(xn (f9.W bj) dg.ls).Y ?_;rintro _ fc _ ⟨rfl,dh⟩;obtain⟨fd,di⟩:=yh s1 (gN x d9 f) E;have dj:=di;rw[dj,bz,bA];intro fe dk _ _;have bk:=((bh.F bj).F dh).F dk;obtain⟨f1,f2,f3,f4,f5,f6,f7,f8,f9,f10,f11,f12,f13,f14,f15⟩:=aE (aS.F (bk.ab S));rw[aG Ψ (f3.cell rfl),aG Ψ (f5.cell rfl),aG Ψ (f4.cell rfl)];refine(Eh (ca.ls.W bk) f6 f12 M.1 (λp ae=>(M.2 p).2 (.inr ae)) cd Ω).Y ?_;rintro ff fg _ ⟨bl,fh,fi,dm⟩;refine⟨.inl bl,?_⟩;refine(xn (f10.W bl) dm.ls).Y ?_;rintro _ fj _ ⟨rfl,dn⟩;obtain⟨fk,dp⟩:=yh y (gN x d9 j) G;have dq:=dp;rw[dq,bz,bA];intro fm dr _ _;have bm:=((bk.F bl).F dn).F dr;obtain⟨f1,f2,f3,f4,f5,f6,f7,f8,f9,f10,f11,f12,f13,f14,f15⟩:=aE (aS.F (bm.ab S));rw[aG Ψ (f7.cell rfl),aP db.p 2 f8 rfl,aG Ψ (f7.cell rfl),aP db.p 1 f8 rfl];refine xO.Y ?_;rintro _ fo _ ⟨rfl,bo⟩;refine⟨.inl bo,?_⟩;have ds:pN (bu s1 E (gN x d9 f)) (bu y G (gN x d9 j)) k= .tuple #[Δ (min (bu s1 E (gN x d9 f)+bu y G (gN x d9 j)) k),Δ 0]:=m3 ⟨vf hk ci,vf hk cj⟩;rw[ds,gk (v:=Δ (min (bu s1 E (gN x d9 f)+bu y G (gN x d9 j)) k)) rfl,gk (v:=Δ 0) rfl];have ce:=dc.W (bm.F bo);have fp:(upto aD 0 q).length=N:=by rw[pJ,bg]
  rw[ju rfl aB.u ay.i ce Ω];refine jv ay.i ce Ω λfq ft fu cf=>?_;have cg:=(aS.F ((bm.F bo).ab S)).F Ω;obtain⟨f1,f2,f3,f4,f5,f6,f7,f8,f9,f10,f11,f12,f13,f14,f15⟩:=aE cg;have dt:aD[q]?=σ (min (bu s1 E (gN x d9 f)+bu y G (gN x d9 j)) k):=by
   simp only[aD,pU];rw[u4,List.getElem?_range Ω];rfl
  rw[qS dt]at cf;exact⟨⟨f14,f13.ls,f15⟩,⟨cg,cf⟩,by grind⟩
 .rintro q fv b9 ⟨ch,bp⟩;rw[show q=N from b9]at bp;intro fw bq _ _;obtain⟨f1,f2,f3,f4,f5,f6,f7,f8,f9,f10,f11,f12,f13,f14,f15⟩:=aE (ch.F (bq.ab S));rw[aG Ψ (f7.cell rfl),aG Ψ (f5.cell rfl)];intro fx aF _;rw[<-bg,qR]at bp;have dv:=ac.F b6;refine⟨((dv.put ch Ω).F bq).F aF,by grind,λ_=>⟨d9,M,by grind,λ_=>⟨Ω,by grind,Ω,λ_ _ _=>⟨z,B,A,aZ,rfl,⟨⟨bd,b2,f8.W aF,f13.W aF,(bp.W bq).W aF⟩,⟨c5,c6,c2⟩,bb,by grind⟩,f6.W aF⟩⟩⟩⟩
theorem iL.pair(h:iL l):l.Pairwise (·< ·):=U1.2 λi j hi a e=>h i j _ _ e (v8 hi) (v8 a)
theorem Qd{m:Λ}(e:iL l)(hm:iL m)(h:∀x,x∈l↔x∈m):l=m:=by
 have f:l.Nodup:=e.pair.imp λh=>Ω
 have j:m.Nodup:=hm.pair.imp λh=>Ω
 exact T9.eq_of_pairwise (le:=(·<= ·)) (λa b _ _ h1 q=>Int.le_antisymm h1 q) (e.pair.imp λh=>Int.le_of_lt h) (hm.pair.imp λh=>Int.le_of_lt h) ((List.perm_ext_iff_of_nodup f j).2 h)
theorem Qe{d9:Λ}(h:yq l l d9)(hu:iL l):d9=l:=Qd h.1 hu λx=>by rw[h.2];simp
theorem Er(h:l.Pairwise (·< ·)):iL l:=λi j x y a J e=>by
 grind [U1]
theorem Qf{x:Λ}(hu:l.Nodup)(h:x.length=l.length):gN x l l=x:=by
 refine Y3 λi=>?_
 grind [gN]
theorem Es{s:Λ}(hu:iL l)(h:s.length=l.length):dU s l s l l=s:=by
 refine Y3 λi=>?_
 grind [dU,W8,Eg,jA]
theorem Qg{s a b:Λ}(hu:l.Pairwise (·< ·))(h:s.length=l.length)(V:dS s)(e:a.length=(aX s).toNat)(f:b.length=(aX s).toNat):pU s a l s b l l k=eP k a b:=by
 have j:l.Nodup:=hu.imp Ω
 grind [pU,Es,Er,O0,Qf,kN]
theorem Qh{s a b:Λ}(hu:l.Pairwise (·< ·))(r:∀x∈l,0<=x)(h:s.length=l.length)(V:ct s)(ae:aX s<=4096)(y:a.length=(aX s).toNat)(z:b.length=(aX s).toNat)(e:Ep w s a l s b l k k v I):
  Ext w I/\∃j A B C,v= .tuple #[Γ j,C,Δ 0]/\du I j A B s k (eP k a b):=by
 obtain⟨J,_,e⟩:=e;have f:=Er hu;have q:Fits s l:=⟨h.symm,PF f r⟩;obtain⟨d9,ac,_,E⟩:=e ⟨q,q⟩;have F:=Qe ac f;subst F;obtain⟨_,_,_,G⟩:=E λp H K L=>rfl;rw[Es f h,Qg hu h V.2 y z]at G
 grind
theorem Qi{s:Λ}(V:dS s):(bs s).Nodup:=(D6 V).imp λ{a b}h he=>by subst he;omega
theorem Qj{s:Λ}{i:Nat}(V:dS s)(hi:(bs s)[i]?=σ t)(a:(bs s)[j]?=σ t):i=j:=l1 (Qi V) hi a
theorem Qk{s:Λ}(V:dS s)(h:dF s t):∃j:Nat,(bs s)[j]?=σ t:=Y8.1 ((D5 V).2 h)
theorem vg{g m:Nat}{d:List (x4×x4)}(h:aj w g e cs)(hm:de w m d)(a:ai (λr=>r=m) w I):aj I g e cs:=h.ab a (λhe=>u1 h hm he)
theorem Et{g m:Nat}{k:o8}{d:List (x4×x4)}(h:aH k e w g v l)(hm:de w m d)(a:ai (λr=>r=m) w I):aH k e I g v l:=bG h a (λ_ f he=>D8 h hm f he)
def vh(cs:Λ)(o:Int):Prop:=o∈cs/\∀d∈cs,cs.count d<cs.count o\/(cs.count d=cs.count o/\o<=d)
theorem Ql{i:Nat}{x:Int}(h:l[i]?=σ x)(y:Int):(l.take (i+1)).count y=(l.take i).count y+if y=x then 1 else 0:=by
 rw[u9,h,List.count_append];congr 1;simp only[j4,List.count_singleton];by_cases a:y=x
 .subst a;simp
 .rw[m5 a,m5 (by simpa using λh=>a h.symm)]
def iC(p:Int×Int):x4×x4:=(Δ p.1,Δ p.2)
theorem sL:Keys x8 ay λv=>∃n,v=Δ n:=Keys.int ay.u
theorem sM(E:List (Int×Int)):∀p∈E.map iC,∃n,p.1=Δ n:=λp ae=>by
 obtain⟨q,_,rfl⟩:=l9.1 ae;exact⟨_,rfl⟩
def yr(cs:Λ)(E:List (Int×Int)):Prop:=(∀x,x∈E.map (·.1)↔x∈cs)/\∀p∈E,p.2=(cs.count p.1:Nat)
theorem Eu{cs:Λ}{E:List (Int×Int)}(h:yr cs E){x:Int}(J:x∈cs):∃j:Nat,E[j]?=σ (x,((cs.count x:Nat):Int)):=by
 obtain⟨p,ae,rfl⟩:=l9.1 ((h.1 x).2 J);obtain⟨j,a⟩:=Y8.1 ae;exact⟨j,by rw[a,<-h.2 p ae]⟩
theorem Ev{dd:x4}{cs:Λ}(h:aQ .i64 w dd cs)(au:cs≠[])(bf:cs.length<=1000000):aq x8 ua [dd] w λv I=>Ext w I/\∃o,v=Δ o/\vh cs o:=by
 refine aE func256 ?_;refine aM.cR (sm λm U hm V aK bg=>?_);rw[a8 aB.u (h.W V)];refine b7.range cs.length (λi aa=>ai (λr=>r=m) U aa/\∃E,de aa m (E.map iC)/\yr (cs.take i) E) Ω ⟨ai.refl _ _,[],aK,by simp[yr]⟩ ?_ ?_
 .rintro i aa aL hi ⟨C,E,z,e⟩ av;obtain⟨x,W⟩:=aI (l:=cs) hi;have G:Ext w aa:=V.put C Ω;have aN:∀y,(cs.take i).count y<=1000000:=λy=>by
   have:=List.count_le_length (a:=y) (l:=cs.take i);rw[Z3]at this;omega
  refine bF Ω ?_;rw[bk aB.u ay.i Ψ (h.W G) W];have N:=Ql W;have aw:∀y,y∈cs.take (i+1)↔y∈cs.take i\/y=x:=λy=>by
   rw[u9,W];simp
  by_cases H:x∈cs.take i
  .obtain⟨j,X⟩:=Eu e H;have O:(E.map iC)[j]?=σ (Δ x,Δ (((cs.take i).count x:Nat):Int)):=by rw[u4,X];rfl
   rw[sn nI.u sL z (sM E) ⟨_,rfl⟩ O];simp only[Bool.false_eq_true,if_false];have:=aN x;rw[aR,lm Ω Ω];refine aM.cR (q0 nI.u sL z (sM E) ⟨_,rfl⟩ (λP v0 Y Z J ab aO=>?_) (λY Q=>m6 rfl (Q _ (x7 O))));have aP:=z.uniq Z O rfl;subst aP;rw[aR];have ac:(E.map iC).set P (Δ x,Δ ((((cs.take i).count x:Nat):Int)+1))=(E.set P (x,(((cs.take i).count x:Nat):Int)+1)).map iC:=by rw[U2];rfl
   rw[ac]at J;have aS:=(x6.1 X).1;refine av _ ⟨C.F ab,_,J,λy=>?_,λp ae=>?_⟩
   .rw[U2,sf (by rw[u4,X];rfl),e.1,aw];exact⟨.inl,λh=>h.elim id (λh=>h▸H)⟩
   .obtain⟨q,f⟩:=Y8.1 ae;by_cases af:P=q
    .subst af;rw[Z6 aS]at f;cases f;show _=(((cs.take (i+1)).count x:Nat):Int);rw[N,m3 rfl];omega
    .rw[Y9 af]at f;have ag:p.1≠x:=λhe=>af (z.uniq O (show(E.map iC)[q]?=σ (iC p) by rw[u4,f];rfl) (by rw[iC,he]));rw[e.2 p (x7 f),N,m5 ag,Nat.add_zero]
  .have Q:∀p∈E.map iC,p.1≠V3 .i64 x:=λp ae he=>by
    obtain⟨q,f,rfl⟩:=l9.1 ae;have:q.1=x:=by simpa[iC]using he
    exact H ((e.1 x).1 (l9.2 ⟨q,f,this⟩))
   rw[uJ nI.u sL ⟨_,_,al.i⟩ z (sM E) ⟨_,rfl⟩ Q];simp only[Bool.false_eq_true,if_false];rw[aR,lm Ω Ω];refine aM.cR (q0 nI.u sL z (sM E) ⟨_,rfl⟩ (λP v0 Y Z=>m6 rfl (Q _ (x7 Z))) (λY _ J ab aO=>?_));rw[aR];have ac:E.map iC++[(V3 .i64 x,V3 .i64 (0+1))]=(E++[(x,1)]).map iC:=by rw[Z2];rfl
   rw[ac]at J;have aT:(cs.take i).count x=0:=List.count_eq_zero.2 H;refine av _ ⟨C.F ab,_,J,λy=>?_,λp ae=>?_⟩
   .rw[Z2,j5,e.1,aw];simp
   .rcases j5.1 ae with ae|ae
    .have ag:=λhe=>H ((e.1 x).1 (l9.2 ⟨p,ae,he⟩));rw[e.2 p ae,N,m5 ag,Nat.add_zero]
    .rw[Y1.1 ae];show(1:Int)=(((cs.take (i+1)).count x:Nat):Int);rw[N,m3 rfl,aT];rfl
 rintro aa aL ⟨C,E,z,e⟩;rw[o9]at e;have G:=V.put C Ω;refine b4 Ω ?_;refine(Ny (h.W G) au).Y ?_;rintro _ aU bh ⟨rfl,ah⟩;have bi:=G.size;have bj:=ah.size;refine aM.cR (uK nI.u (z.W ah) λL bl bn aV bo aX bp=>?_);refine⟨λlu B=>∃b A s left ax,lu=Δ b/\b∈cs/\Ext aU B/\iz B L m (E.map iC) left ax/\left=s.map iC/\(A++s).Perm E/\∀p∈A,cs.count p.1<cs.count b\/(cs.count p.1=cs.count b/\b<=p.1),λ_ B=>ll B L,
  ⟨xC cs,[],E,E.map iC,ν,rfl,(Na au).1,aV,aX,rfl,T9.refl _,λp ae=>by cases ae⟩,?_⟩
 rintro _ B ⟨b,A,s,left,ax,rfl,aj,ak,az,rfl,R,am⟩;refine uL az (λ_=>by show w.heap.size<=L;omega) (λaY=>?_) (λj p an ae aC bq M=>?_)
 .rw[gk (v:=.bool sp) rfl,bc];have:s=[]:=List.map_eq_nil_iff.1 aY;subst this;rw[T4]at R;refine⟨(G.F ah).F ak,b,rfl,aj,λd aZ=>?_⟩;obtain⟨q,f,rfl⟩:=l9.1 ((e.1 d).2 aZ);exact am q (R.mem_iff.2 f)
 .rw[gk (v:=.bool s2) rfl,bS];refine uM M ?_;obtain⟨q,f,rfl⟩:∃q,s[j]?=σ q/\iC q=p:=by
   rw[u4]at ae;exact Y0.1 ae
  have aD:=R.mem_iff.1 (j5.2 (.inr (x7 f)));have br:=e.2 q aD;have a1:=(e.1 q.1).1 (l9.2 ⟨q,aD,rfl⟩);obtain⟨a2,a7⟩:=Eu e aj;have ba:(E.map iC)[a2]?=σ (Δ b,Δ ((cs.count b:Nat):Int)):=by rw[u4,a7];rfl
  rw[gk (v:=Δ q.1) rfl,gk (v:=Δ q.2) rfl];have aF:(A++[q]++s.eraseIdx j).Perm E:=by
   refine T9.F ?_ R;rw[T1];exact T9.append_left A (sx f)
  have aG:ll an L<ll B L:=by
   rw[oI M,oI az];have:=uP (x6.1 ae).1;omega
  refine a6 (λv bb=>an=bb/\∃r:Bool,v= .bool r/\(r=s2↔(cs.count b<cs.count q.1\/(cs.count q.1=cs.count b/\q.1<b)))) ?_ ?_
  .rintro _ _ ⟨rfl,r,rfl,S⟩;rw[cb];refine⟨λbd=>?_,λaH=>?_⟩
   .have S:=S.1 bd;refine⟨⟨q.1,A++[q],s.eraseIdx j,_,_,rfl,a1,ak.F aC,M,(mR iC s j),aF,λp ae=>?_⟩,aG⟩;rcases j5.1 ae with ae|ae
    .have:=am p ae;omega
    .rw[Y1.1 ae];exact .inr ⟨rfl,S5 _⟩
   .have S:¬(cs.count b<cs.count q.1\/(cs.count q.1=cs.count b/\q.1<b)):=λh=>by rw[S.2 h]at aH;cases aH
    refine⟨⟨b,A++[q],s.eraseIdx j,_,_,rfl,aj,ak.F aC,M,(mR iC s j),aF,λp ae=>?_⟩,aG⟩;rcases j5.1 ae with ae|ae
    .exact am p ae
    .rw[Y1.1 ae];omega
  .intro aA ap;have aJ:∀K:x4->Prop,ad x8 (Instr.lookup nI (.map (σ m)) (Δ b) sp) an K=K (Δ ((cs.count b:Nat):Int)):=λK=>by
    rw[sn nI.u sL M.map (sM E) ⟨_,rfl⟩ ba];simp
   rw[aJ,bU,ao];refine⟨λh1=>ap _ _ ⟨rfl,s2,rfl,⟨λ_=>.inl Ω,λ_=>rfl⟩⟩,λh1=>?_⟩;rw[aJ,bm,ao];refine⟨λbe=>?_,λbe=>ap _ _ ⟨rfl,sp,rfl,⟨λh=>(by cases h),λh=>Ω⟩⟩⟩;rw[aW];refine ap _ _ ⟨rfl,_,rfl,?_⟩;rw[ro];omega
theorem Qm{g:Nat}{k:o8}{q:o4}(h:aH k e w g v l)(s:aj w j q cs)(y:e≠q)(x:lc v r):r≠j:=by
 obtain⟨rfl,_⟩:=cd h x;obtain⟨_,⟨rfl,_⟩|⟨_,_,_,f,_⟩⟩:=h
 .obtain⟨a,n,c,h,_⟩:=x;cases h
 .rintro rfl;unfold aj at s f;rw[s]at f;injection f with h1;injection h1 with A z;exact y z.symm
def Qn(w:x5)(an:Λ)(k:Int)(cs:Λ)(v:x4)(I:x5):Prop:=Ext w I/\∃g m o D,v=Γ g/\e8 I g m an k o D/\D.length<=(aX an).toNat/\j7 an (j0 D o) cs/\vh cs o
theorem Qo{g bP:Nat}{cs:Λ}(h:du w g bP sv an k cs)(aF:∀c∈cs,cE c k):aq x8 KF [Γ g] w (Qn w an k cs):=by
 obtain⟨⟨bf,gs,ba,hm,cn⟩,⟨_,_,bb⟩,V,am⟩:=id h;have ae:=prod_bound V;have cp:=V.1;have bd:cs≠[]:=λhe=>by rw[he]at am;simp at am;omega
 refine jq func196 ?_;rw[dl fs.u];simp only[b8,bc];refine(oH h).Y ?_;rintro dd aa _ ⟨P,cq,cr,aH⟩;refine bE aB.i λao ct cu be bg=>?_;have cw:=bg.lt;refine bw aB.i aH.ls.cells.1 aH.ls.cells.2 bg (by simp[x4.cells]) λap bQ cz au=>?_;have au:aj ap ao aB [dd]:=au;have cA:=P.size;have cB:=be.size;have bh:Ext aa ap:=be.put bQ Ω;have bi:=aH.W bh;have Z:=P.F bh;refine a6 (λu av=>∃a G m o L M,u=Γ a/\Ext ap av/\aj av a fg [Γ G]/\ap.heap.size<=m/\gM av G m L M an k o []/\vh cs o) ?_ ?_
 .rintro _ av ⟨a,G,m,o,L,M,rfl,ac,e,cC,B,E⟩;have bR:=h.W (Z.F ac);have bS:=au.W ac;have bT:=bi.W ac;refine(qZ bR).Y ?_;rintro _ cD _ ⟨rfl,bU⟩;refine xQ.Y ?_;rintro _ aI _ ⟨bV,bj,rfl,cF,bl⟩;have Q:=bU.F bV;have bm:=B.W Q;have bW:=bS.W Q;have bn:=e.W Q;have bX:=bT.W Q;have bo:=hm.W ((Z.F ac).F Q);have S:=bm.2.2.1;have bY:=(Z.F ac).F Q;have cG:=Z.size;have bZ:=xP (g:=bj) (B0:=aI.heap.size) (sv:=sv) V;refine qv.old ⟨Nat,sp,nD,#[Γ bj],_,_,_,_,λi I=>ai (λr=>r=m) aI I/\∃D,D.length<=i/\gM I G m L M an k o D/\∀(j:Nat)t,(bs an)[j]?=σ t->j0 D o t=if j<i then bu an cs t else o,λ_ _ _=>False,rfl,bZ.s,
   ?_,λ_ _ J h=>⟨h.1.W J,h.2.1.W J,X3 h.2.2 J.size⟩,λ_ _ _ J ⟨h1,D,b0,b1,bb⟩=>⟨h1.F (J.ab _),D,b0,b1.W J,bb⟩,λ_ _ _ _ _ h=>h,⟨bl,bo.ls,o6 _⟩,⟨ai.refl _ _,[],o6 _,bm,λj t _=>by rw[m5 Ω];rfl⟩,?_,?_,λ_ _ h=>h.elim,λ_ _ _ h=>h.elim⟩
  .rintro _ _ _ _ ⟨_,_,_,_,rfl,_⟩;rfl
  .rintro _ aY i _ b2 ⟨cH,cI,b3⟩ ⟨hi,rfl,cJ,gt,b4,cK,z⟩ ⟨aw,D,bp,aJ,aK⟩;cases b4;have aL:(bs an)[i]?=σ (dz an (i:Int)):=se V.2 Ω;have b5:=xE V.2 hi;generalize dz an (i:Int)=t at*;have bq:=O7 V.2 am aL;intro b6 ax _ _;intro b7 b9 _ _;have az:=ax.F b9;have aC:ai (λr=>r=m) aI b7:=aw.F (az.ab _);rw[aG Ψ ((vg bn S aC).cell rfl),aG Ψ ((vg bW S aC).cell rfl),bk aB.u ay.i Ψ (Et bX S aC).ls bq];have aN:=aJ.W az;refine(Dn aN.is (z.W az).ls).Y ?_;rintro _ cL _ ⟨_,ca⟩;obtain⟨rfl,aO,D',br,bt⟩:=ca ⟨b5,aF _ (x7 bq)⟩;have aP:=aC.F aO;have cM:=br.2;refine⟨⟨vg bl S aP,(Et bo S aP).ls,X3 b3 (X3 az.size aO.size)⟩,⟨aP,D',Ω,aN.put aO bt,λj s N=>?_⟩,λh=>by cases h⟩;rw[br.cost aN.is.nodup bt.nodup];by_cases bx:j=i
   .subst bx;rw[aL]at N;cases N;rw[m3 rfl,m3 Ω]
   .rw[m5 (λ(he:s=t)=>bx (Qj V.2 (by rw[<-he];exact N) aL)),aK j s N];by_cases h1:j<i
    .rw[m3 h1,m3 Ω]
    .rw[m5 h1,m5 Ω]
  .rintro i b2 rfl ⟨aw,D,bp,aJ,aK⟩;rw[aG Ψ ((vg bn S aw).cell rfl)];intro b6 ax _;refine⟨(bY.put aw Ω).F ax,G,m,o,D,rfl,aJ.is.W ax,bp,⟨am,λt cb=>?_⟩,E⟩;obtain⟨j,N⟩:=Qk V.2 cb;have:=(x6.1 N).1;rw[jt V.2]at this;rw[aK j t N,m3 this]
 intro aA bB;intro A af _ _;have aR:=Z.F af;have bC:=af;have aD:=h.W aR;have bD:=bi.W af;have cN:=af.size;rw[aG Ψ ((au.W af).cell rfl)];have bF:∀{a:Nat}{I:x5}{aY:x4}{o:Int},Ext A I->A.heap.size<=a->(∃f,aj I a fg [f])->aQ .i64 I aY an->vh cs o->
   aq x8 qA [aY,Δ k,Δ o] I λC x=>ad x8 (Z7 C 0) x λO=>ad x8 (Z7 C 1) x λ_=>aM x8 (o7 fg (Γ a) O) x λ(_:Unit)H=>aA (Γ a) H:=by
  rintro a I aY o y q ⟨f,e⟩ z E;refine(Dh z).Y ?_;rintro _ x _ ⟨aS,_,_,aT⟩;obtain⟨G,m,rfl,cc,cd,B⟩:=aT V (aF _ E.1);obtain⟨L,M,B⟩:=B.at;rw[bz,bA];have ce:=e.lt;have s':=y.size;refine bw fg.i rfl rfl (e.W aS) Ξ λH bG cO cf=>?_;refine bB _ _ ⟨a,G,m,o,L,M,rfl,((bC.F y).F aS).put bG Ω,cf,Ω,B.ab bG (λhe=>by have he:=he;omega) (λhe=>by have he:=he;omega) (λr aU he=>?_),E⟩;exact Qm B.2.1 (e.W aS) Φ aU he
 have bH:∀{a:Nat}{I:x5}{aY:x4},Ext A I->A.heap.size<=a->(∃f,aj I a fg [f])->aQ .i64 I aY an->
   aq x8 ua [dd] I λag aa=>aq x8 qA [aY,Δ k,ag] aa λC x=>ad x8 (Z7 C 0) x λO=>ad x8 (Z7 C 1) x λ_=>aM x8 (o7 fg (Γ a) O) x λ(_:Unit)H=>aA (Γ a) H:=by
  rintro a I aY y q ⟨f,e⟩ z;refine(Ev (bD.W y).ls bd Ω).Y ?_;rintro _ aa _ ⟨P,o,rfl,E⟩;exact bF (y.F P) q ⟨f,e.W P⟩ (z.W P) E
 have bI:∀{a:Nat}{I:x5}{aY:x4},Ext A I->A.heap.size<=a->(∃f,aj I a fg [f])->aQ .i64 I aY an->
   aq x8 w8 [Γ g] I λaV U=>(Ext A U\/ch x8 (u5 aB (Γ ao)) dd U/\True)/\
    aq x8 ua [dd] U λag aa=>aq x8 qA [aY,aV,ag] aa λC x=>ad x8 (Z7 C 0) x λO=>ad x8 (Z7 C 1) x λ_=>aM x8 (o7 fg (Γ a) O) x λ(_:Unit)H=>aA (Γ a) H:=by
  rintro a I aY y q ⟨f,e⟩ z;refine(C8 (aD.W y)).Y ?_;rintro _ U _ ⟨rfl,K⟩;exact⟨.inl (y.F K),bH (y.F K) q ⟨f,e.W K⟩ (z.W K)⟩
 have bJ:an.length<=1000:=Ω
 have bK:∀{a:Nat}{I:x5},Ext A I->A.heap.size<=a->(∃f,aj I a fg [f])->
   aq x8 Bw [.agg #[sv]] I λcg w0=>(Ext A w0\/ch x8 (u5 aB (Γ ao)) dd w0/\True)/\
    aq x8 w8 [Γ g] w0 λaV U=>(Ext A U\/ch x8 (u5 aB (Γ ao)) dd U/\True)/\
    aq x8 ua [dd] U λag aa=>aq x8 qA [cg,aV,ag] aa λC x=>ad x8 (Z7 C 0) x λO=>ad x8 (Z7 C 1) x λ_=>aM x8 (o7 fg (Γ a) O) x λ(_:Unit)H=>aA (Γ a) H:=by
  rintro a I y q ⟨f,e⟩;refine(C9 (hm.W (aR.F y)).ls bJ).Y ?_;rintro aY U _ ⟨K,_,_,z⟩;exact⟨.inl (y.F K),bI (y.F K) q ⟨f,e.W K⟩ z.ls⟩
 have ah:∀{I:x5}{R:x4->x5->Prop},Ext A I->(∀a ak,A.heap.size<=a->Ext I ak->(∃f,aj ak a fg [f])->R (Γ a) ak)->aM x8 (R3 fg s2 (.tuple #[])) I R:=λ{I}{R}y ci=>by
  have:=y.size;exact bE fg.i λa ak q cj ba=>ci a ak Ω cj ⟨_,ba⟩
 refine⟨?_,ah (Ext.refl _) λa cP q aE e=>⟨.inl aE,?_⟩⟩
 rotate_left
 .refine (qZ (aD.W aE)).Y ?_;rintro _ cQ _ ⟨rfl,aW⟩;obtain⟨f,e⟩:=e;exact⟨.inl (aE.F aW),bK (aE.F aW) q ⟨f,e.W aW⟩⟩
 refine(qZ aD).Y ?_;rintro _ cR _ ⟨rfl,W⟩;refine⟨.inl W,?_,ah W λa cS q bL e=>⟨.inl (W.F bL),bK (W.F bL) q e⟩⟩;refine(C9 (hm.W (aR.F W)).ls bJ).Y ?_;rintro aY cT _ ⟨ck,_,_,z⟩;have X:=W.F ck;refine⟨.inl X,?_,ah X λa cU q aX e=>⟨.inl (X.F aX),bI (X.F aX) q e (z.W aX).ls⟩⟩;refine(C8 (aD.W X)).Y ?_;rintro _ cV _ ⟨rfl,aZ⟩;have Y:=X.F aZ;refine⟨.inl Y,?_,ah Y λa cW q a1 e=>⟨.inl (Y.F a1),bH (Y.F a1) q e ((z.W aZ).W a1).ls⟩⟩;refine(Ev (bD.W Y).ls bd Ω).Y ?_;rintro _ cX _ ⟨bM,o,rfl,E⟩;have al:=Y.F bM;have bN:=(z.W aZ).W bM;refine⟨?_,ah al λa cY q a2 e=>⟨.inl (al.F a2),bF (al.F a2) q e (bN.W a2).ls E⟩⟩;refine(Dh bN.ls).Y ?_;rintro _ cZ _ ⟨cl,_,_,aT⟩;obtain⟨G,m,rfl,cc,cd,B⟩:=aT V (aF _ E.1);obtain⟨L,M,B⟩:=B.at;rw[bz,bA];have a7:=al.F cl;refine bE fg.i λa c0 q a8 e=>?_;refine⟨.inl (a7.F a8),?_⟩;have ce:=e.lt;obtain⟨c1,c2,t3⟩:=B.sj;have c3:=al.size;have c4:=a7.size;refine bw fg.i rfl rfl e (by simp[x4.cells]) λc5 bO c6 cm=>?_;exact bB _ _ ⟨a,G,m,o,L,M,rfl,((bC.F a7).F a8).put bO Ω,cm,Ω,(B.W a8).ab bO (λhe=>by have he:=he;omega) (λhe=>by have he:=he;omega) (λr aU he=>by have he:r=a:=he;have:=t3 r aU;omega),E⟩
theorem Ew{acc:List c5}{g:c5}(h:∀x∈acc,x.1≠g.1):jZ k acc g=acc++[g]:=by
 grind [jZ]
theorem Qp{acc:List c5}{g h:c5}{i:Nat}(e:kT acc)(hi:acc[i]?=σ h)(he:h.1=g.1):jZ k acc g=acc.set i (h.1,eP k h.2 g.2):=by
 have q:=(x6.1 hi).1;unfold jZ;rw[m3 (l9.2 ⟨h,x7 hi,he⟩)];refine Y3 λj=>?_;rw[u4,X7];by_cases a:i=j
 .grind
 .rw[m5 a];cases r:acc[j]? with
  |none=>rfl
  |some y=>
   have:y.1≠g.1:=λs=>a (by
    have h1:(acc.map (·.1))[i]?=σ g.1:=by grind
    have f:(acc.map (·.1))[j]?=σ g.1:=by grind
    exact l1 e h1 f)
   grind
theorem Qq{α β:Type}{f:β->α->β}{b:β}{l:List α}{i:Nat}{x:α}(h:l[i]?=σ x):(l.take (i+1)).foldl f b=f ((l.take i).foldl f b) x:=by
 grind [u9]
def oK(w:x5)(k:Int)(d6:Λ)(x:cF):Prop:=(∃a,aH .i64 al w a x.sv x.sc)/\∃m o D,e8 w x.g m (b5 d6 x.sc) k o D/\D.length<=4096/\j7 (b5 d6 x.sc) (j0 D o) x.cs
theorem oK.W{x:cF}(h:oK w k d6 x)(J:Ext w I):oK I k d6 x:=by
 obtain⟨⟨a,h1⟩,m,o,D,e,f⟩:=h;exact⟨⟨a,h1.W J⟩,m,o,D,e.W J,f⟩
theorem oK.ab{x:cF}(h:oK w k d6 x)(J:ai S w I)(f:∀r,S r->∃e c,aj w r e c/\e≠gj/\e≠al):oK I k d6 x:=by
 obtain⟨⟨s,h1⟩,m,o,D,y,z⟩:=h;obtain⟨sv,gs,a⟩:=y.at;have j:∀{g:Nat}{v:x4}{l:Λ},aH .i64 al w g v l->∀r,lc v r->¬S r:=by grind [cB]
 refine⟨⟨s,bG h1 J (j h1)⟩,m,o,D,(a.ab J (λV=>?_) (λV=>?_) (j a.2.1)).is,z⟩
 .obtain⟨e,c,q,A,_⟩:=f _ V;have B:=a.1
  grind [aj]
 .obtain⟨e,c,q,_,_⟩:=f _ V;exact u1 q a.2.2.1 rfl
def sN(w:x5)(g:Nat)(v:x4)(k:Int)(d6:Λ)(L:List cF):Prop:=bo fj 2 cS w g v L/\∀x∈L,oK w k d6 x
theorem sN.W{g:Nat}{L:List cF}(h:sN w g v k d6 L)(J:Ext w I):sN I g v k d6 L:=⟨h.1.W J,λx a=>(h.2 x a).W J⟩
def Qr(w:x5)(B a:Nat)(f:cn):Prop:=∃hv e gz g L,aj w a cN [cp f.name,Δ f.k,hv,e]/\aH .i64 al w gz hv f.d6/\sN w g e f.k f.d6 L/\L.map en=gn f/\B<=a/\(∀r,lc hv r->B<=r)/\∀x∈L,∀r,lc x.sv r->B<=r
theorem Qs{g bg:Nat}{L:List cF}{j:Λ}(h:fx w g v L)(ae:aj w bg au [sv])(V:aQ .i64 w sv j):
  aq x8 Bk [v,.func (.func Bl) #[] #[Γ bg]] w λr I=>Ext w I/\((r=Δ (-1)/\∀x∈L,x.sc≠j)\/∃i:Nat,r=Δ (i:Int)/\∃x,L[i]?=σ x/\x.sc=j):=by
 refine aE func183 ?_;rw[ek gX.u h.1];refine ce.range L.length (λi _ U=>Ext w U/\∀x∈L.take i,x.sc≠j) h.1.le ⟨Ext.refl _,λc a=>by simp at a⟩ ?_ ?_
 .rintro i _ U k hi ⟨J,q⟩ hk;refine bF Ω ?_;obtain⟨x,s⟩:=aI (l:=L) hi;rw[vd rfl (h.W J) s];show aq x8 Bl [lr x,Γ bg] U _;obtain⟨⟨B,hm⟩,_⟩:=(h.W J).at s;refine aE func184 ?_;refine bn λav aa C f y=>?_;have y:aj aa av da [x.sv,Γ x.g]:=by
   obtain⟨_,_,_,e⟩:=df hm.ls;simp only[lr,fj,e]at y ⊢;exact y
  rw[aN da.p 0 y rfl,aG Ψ ((ae.W (J.F f)).Qz rfl)];refine(L9 (hm.ls.W f) (V.W (J.F f))).Y ?_;rintro _ E _ ⟨rfl,z⟩;rw[ao];refine⟨λhe=>⟨(J.F f).F z,.inr ⟨i,rfl,x,s,he⟩⟩,λA=>?_⟩;rw[aR];refine hk _ _ ⟨(J.F f).F z,λc a=>?_⟩;rw[u9,s]at a;rcases j5.1 a with a|a
  .exact q c a
  .simp at a;subst a;exact A
 .rintro _ U k ⟨J,q⟩;rw[o9]at q;rw[aW,ao];exact⟨λh=>Ω,λ_=>⟨J,.inl ⟨rfl,q⟩⟩⟩
def fa(f:cn)(i:Nat):List c5:=((f.ho.take i).map (jY f.d6 f.k)).foldl (jZ f.k) []
theorem Ex{f:cn}(ah:fG N f)(i:Nat):(∀g∈fa f i,gq f.d6 f.k g)/\kT (fa f i)/\(fa f i).length<=i:=by
 have:=ye (d6:=f.d6) (k:=f.k) (by have:=ah.k.1;omega) (l:=(f.ho.take i).map (jY f.d6 f.k)) (acc:=[]) (λh ax=>by cases ax) List.nodup_nil λg e=>by
  obtain⟨x,J,rfl⟩:=l9.1 e;exact q6 ah (R2 J)
 refine⟨this.1,this.2.1,?_⟩;have a:=this.2.2;rw[List.length_nil,r9,V0,Z3]at a;exact X3 a (Nat.min_le_left _ _)
theorem ys{f:cn}{i:Nat}{x:cI}(h:f.ho[i]?=σ x):fa f (i+1)=jZ f.k (fa f i) (jY f.d6 f.k x):=by
 unfold fa;rw[u9,h,j4,Z2,List.foldl_append];rfl
theorem Ey(f:cn):fa f f.ho.length=gm f:=by unfold fa gm;rw[o9]
theorem yt{L:List cF}{i:Nat}{x:cF}{D:List c5}(h:L.map en=D)(J:L[i]?=σ x):en x∈D:=by rw[<-h];exact l9.2 ⟨x,x7 J,rfl⟩
def Qt(w:x5)(f:cn)(v:x4)(I:x5):Prop:=Ext w I/\((¬nZ f.ho<=16384/\∃e:Int,e≠0/\v= .tuple #[.pointer ν,Δ e])\/∃a,v= .tuple #[Γ a,Δ 0]/\Qr I w.heap.size a f)
theorem vi{g:Nat}{sc cs:Λ}(hm:aH .i64 al w g sv sc):∀u∈fj ⟨sv,a,sc,cs⟩,u.oneCell'=s2:=λu hu=>by
 simp[fj]at hu;rcases hu with rfl|rfl
 .exact hm.ls.cells.2
 .rfl
theorem Qu{bO:Nat}{f:cn}(bP:mX w bO f)(E:fG N f)(bQ:N<=60000)(c0:f.name≠[]/\∀b∈f.name,ck b=s2):
  aq x8 JL [Γ bO] w (Qt w f):=by
 have hk:=E.k;refine aE func122 ?_;refine(PP bP E bQ c0).Y ?_;rintro _ U _ ⟨aK,e,rfl,he⟩;rw[bM,ao];refine⟨λbR=>⟨aK,.inl ⟨λh=>bR (he h),e,bR,rfl⟩⟩,λeo=>?_⟩;have bS:=bP.W aK;obtain⟨hv,aL,gz,bd,bT,c1,be,aM⟩:=id bS;have ep:bd.length<=256:=by rw[aM.1];exact E.mO
 rw[aP cN.p 3 bT rfl,fE dX.u be];refine ce.range bd.length (λi l aa=>∃g L,Ext U aa/\fx aa g l L/\Sem aa f.k f.d6 L/\L.map en=fa f i/\(∀r,hx l r->U.heap.size<=r)/\∀x∈L,∀r,lc x.sv r->U.heap.size<=r) (oy be)
  ⟨0,[],Ext.refl _,⟨bo.nil _ _ _ _ _,λx J=>(by cases J)⟩,λx J=>(by cases J),rfl,λr A=>(gp A).elim,λx J=>(by cases J)⟩ ?_ ?_
 .rintro i l aa c2 hi ⟨g,L,W,ay,aO,G,O,az⟩ c3;obtain⟨d,bU⟩:=aI (l:=bd) hi;obtain⟨x,aQ⟩:∃x,f.ho[i]?=σ x:=⟨_,v8 (by have:=aM.1;omega)⟩;have bV:=x7 aQ;have c4:=aM.2 i x d aQ bU;have X:=q6 E bV;obtain⟨c5,c6,er⟩:=Ex E i;have c7:L.length<=i:=by have bW:=congrArg List.length G;rw[r9]at bW;omega
  refine bF Ω ?_;refine a6 (λl' aS=>∃P Y,Ext U aS/\fx aS P l' Y/\Sem aS f.k f.d6 Y/\Y.map en=fa f (i+1)/\(∀r,hx l' r->U.heap.size<=r)/\∀x∈Y,∀r,lc x.sv r->U.heap.size<=r) ?_ ?_
  .rintro l' aS ⟨P,Y,h1,c8,db,dc,dd⟩;rw[aR];exact c3 _ _ ⟨P,Y,h1,c8,db,dc,dd⟩
  intro aA bX;refine lV (α:=iK) cS.p rfl dX.u cS.i (bq be W) bU λcs bf=>?_;have bY:cs.length=2:=aw.len bf;refine bE cS.i λav es et de dg=>?_;refine b3 (vs:=cs) cS.i bY rfl (aw.one bf) dg λdh di eu dj=>?_;have I:Ext aa dh:=de.put di Ω;rw[bH cS.p cS.i bY dj.range];refine(PZ E bQ bV c4 (bq bf I)).Y ?_;rintro _ dk _ ⟨dl,sv,gs,bZ,dm,dn,rfl,ev,Z,b0⟩;rw[bz,bA];refine bE au.i λbg ew ey dp dq=>?_;refine bw au.i Z.ls.cells.1 Z.ls.cells.2 dq (by simp[x4.cells]) λb1 dr ez aT=>?_;have bh:Ext dk b1:=dp.put dr Ω;have aT:aj b1 bg au [sv]:=aT;rw[lS];have bi:=(I.F dl).F bh;have eA:=bi.size;have eB:=W.size;refine(Qs (ay.W bi) aT (Z.ls.W bh)).Y ?_;rintro _ eC _ ⟨aU,A⟩;have aV:=bi.F aU;have b2:=bh.F aU;have bj:=Z.W b2;have b6:=b0.W b2;have b8:=aT.W aU;have b9:=ay.W aV;have bk:=aO.W aV;rcases A with⟨rfl,dt⟩|⟨ca,rfl,y,B,aW⟩
  .refine bF Ω ?_;rw[aG Ψ (b8.Qz rfl),ds (cs:=#[sv,Γ bZ]) (by obtain⟨_,_,_,rfl⟩:=df Z.ls;kernel_rfl)];let a:cF:=⟨sv,bZ,bJ x.scope,(jY f.d6 f.k x).2⟩;have bl:∀u∈fj a,u.oneCell'=s2:=vi bj;refine jc (f:=fj) (a:=a) gX.u da.i Ω rfl rfl λeD eE dv eF ad dw=>?_;have af:=b9.W ad;refine jB (f:=fj) (a:=a) gX.u da.i rfl af.1 (by simpa using dw.sl) bl Ω Ω λaB P eH aC bm aD=>?_;have cb:=bj.W ad;have aY:∀{r:Nat},hx l r->∃c,aj dv r da c:=λA=>by
    obtain⟨rfl,c,C⟩:=dY af.1 A;exact⟨c,C⟩
   refine bX _ _ ⟨P,L++[a],((W.F aV).F ad).then aD (λr A he=>by have:=O r he;omega),fx.mk aC λz s=>?_,λz s=>?_,?_,λr A=>?_,λz s r A=>?_⟩
   .rcases j5.1 s with s|s
    .have:=(af.2 z s).ab aD λr A he=>(af.2 z s).2.1 r A (af.1.lc he).1;exact⟨this.1,this.2.2⟩
    .rw[Y1.1 s];exact⟨⟨gs,bG cb aD λr A he=>by obtain⟨c,C⟩:=aY he;exact cB cb C Φ A rfl⟩,X.scope⟩
   .rcases j5.1 s with s|s
    .exact (bk.W ad).row af aD z s
    .rw[Y1.1 s];exact⟨dm,dn,yo (b6.W ad) aD λr A=>aY A⟩
   .rw[Z2,G,ys aQ,Ew]
    .rfl
    .intro c H dx;rw[<-G]at H;obtain⟨z,s,rfl⟩:=l9.1 H;exact dt z s dx
   .rcases bm r A with h|h
    .exact O r h
    .have:=ad.size;have:=aU.size;omega
   .rcases j5.1 s with s|s
    .exact az z s r A
    .rw[Y1.1 s]at A;have bW:=(cd Z A).1;have:=I.size;omega
  .refine b4 Ω ?_;intro eI Q _ _;have bp:=b9.W Q;have cf:=(x6.1 B).1;obtain⟨dy,dz,aZ⟩:=(bk.W Q) y (x7 B);have cg:=b8.W Q;have ch:=bj.W Q;have dA:=b6.W Q;rw[cu rfl gX.u da.i bp.1 cf,a1 da.p rfl,aG Ψ (bp.1.range B 1 _ rfl),aG Ψ (cg.Qz rfl),aG Ψ (cg.Qz rfl)];have ah:gq f.d6 f.k (en y):=c5 _ (yt G B);rw[aW]at aZ;have ci:∀{c:Int},0<=c/\c<=f.k->cE c f.k:=λh=>⟨hk,h.1,h.2⟩;refine(Qc aZ dA ch.ls ch.ls hk (λc H=>ci (ah.jf c H)) (λc H=>ci (X.jf c H))).Y ?_;intro eJ cj _ dC;have dD:y.cs.length=(aX (b5 f.d6 (bJ x.scope))).toNat:=by have:=ah.len;rw[show(en y).1=y.sc from rfl,aW]at this;exact this
   have dE:ct (b5 f.d6 (bJ x.scope)):=b0.2.2.1;obtain⟨br,cl,cm,cq,eK,rfl,dF⟩:=Qh X.up (λv ac=>(X.scope.1 v ac).1) (by simp[b5];rfl) dE X.small dD X.len dC;rw[fS,fT,fU];have R:=bp.W br;rw[cu rfl gX.u da.i R.1 cf,a1 da.p rfl];let a:cF:=⟨y.sv,cl,y.sc,eP f.k y.cs (jY f.d6 f.k x).2⟩;refine lk (f:=fj) (j:=1) (a:=y) (a':=a) fs.i rfl rfl R.1 B rfl Ω λdG a2 eL dH=>?_;have aY:∀{r:Nat},hx l r->∃c,aj cj r da c:=λA=>by
    obtain⟨rfl,c,C⟩:=dY R.1 A;exact⟨c,C⟩
   refine bX _ _ ⟨g,L.set ca a,((W.F aV).F (Q.F br)).then a2 (λr A he=>by have:=O r he;omega),fx.mk dH λz s=>?_,λz s=>?_,?_,O,λz s=>?_⟩
   .have cr:∀z∈L,(∃bs,aH .i64 al dG bs z.sv z.sc)/\l3 z.sc:=λz s=>by
     have:=(R.2 z s).ab a2 λr A he=>(R.2 z s).2.1 r A (R.1.lc he).1;exact⟨this.1,this.2.2⟩
    rcases U5 s with s|rfl
    .exact cr z s
    .exact cr y (x7 B)
   .rcases U5 s with s|rfl
    .exact ((bk.W Q).W br).row R a2 z s
    .refine⟨cm,cq,yo ?_ a2 λr A=>aY A⟩;show du cj cl cm cq (b5 f.d6 y.sc) f.k _;rw[aW];exact dF
   .rw[U2,G,ys aQ,Qp (g:=jY f.d6 f.k x) c6 (i:=ca) (h:=en y) (by rw[<-G,u4,B];rfl) aW];rfl
   .rcases U5 s with s|rfl
    .exact az z s
    .exact az y (x7 B)
 .rintro l aa c2 ⟨g,L,W,ay,aO,G,O,az⟩;refine b4 Ω ?_;rw[aM.1,Ey]at G;have c7:L.length<=256:=by
   have:=(mV E).2.2;rw[<-G,r9]at this;have:=E.mO;omega
  refine(P5 ay aO Ω).Y ?_;rintro eM cw _ ⟨cz,cA,dI⟩;have dJ:Ext U cw:=W.then cz λr A he=>by have:=O r he;omega
  have dK:Sem cw f.k f.d6 (L.filter gO):=λz s=>(aO.row ay cz) z (S6.1 s).1;have eN:(L.filter gO).length<=L.length:=List.length_filter_le _ _;refine(PW cA Ω).Y ?_;rintro _ cC _ ⟨cD,M,a7,dL,cG⟩;have dM:Ext U cC:=dJ.then cD λr A he=>by have:=O r (dI r he);omega
  have cH:Sem cC f.k f.d6 M:=λz s=>(dK.row cA cD) z (a7.mem_iff.1 s);have eO:M.length<=256:=by rw[a7.length_eq];omega
  have dN:∀x∈M,∀r,lc x.sv r->U.heap.size<=r:=λx J=>az x (S6.1 (a7.mem_iff.1 J)).1;have cI:M.map en=gn f:=by
   refine OU E ?_ ?_
   .refine (a7.map en).F ?_;rw[<-G,List.filter_map];exact .refl _
   .rw[List.pairwise_map];refine U1.2 λp q ae cJ dO=>?_;exact dL p q _ _ (X9 _) dO cJ (v8 ae) (v8 cJ)
  intro eQ a8 _ _;have ak:=dM.F a8;have eR:=bS.W ak;have bt:=bT.W ak;rw[aP cN.p 0 bt rfl,aP cN.p 1 bt rfl,aP cN.p 2 bt rfl];refine(lf (c1.ls.W ak) (by have:=E.d6.2.1;omega)).Y ?_;rintro aF cK _ ⟨S,dP,eS,bu⟩;refine⟨.inl S,?_⟩;rw[ds (cs:=#[cp f.name,Δ f.k,aF,.slice ν 0 0]) (by obtain⟨_,_,_,rfl⟩:=df bu.ls;kernel_rfl)];refine bn λV dQ eU ba bx=>?_;have bx:aj dQ V cN [cp f.name,Δ f.k,aF,.slice ν 0 0]:=bx;have eV:=(ak.F S).F ba;have dR:=((cG.W a8).W S).W ba;have eW:=((cH.W a8).W S).W ba;rw[ek gX.u dR.1];refine b7.range M.length (λi am=>∃aL gr K,Ext cK am/\aj am V cN [cp f.name,Δ f.k,aF,aL]/\sN am gr aL f.k f.d6 K/\K.map en=(M.take i).map en/\K.length=i/\(∀r,hx aL r->cK.heap.size<=r)/\∀x∈K,∀r,lc x.sv r->U.heap.size<=r) Ω
   ⟨_,0,[],ba,bx,⟨bo.nil _ _ _ _ _,λx J=>(by cases J)⟩,rfl,rfl,λr A=>(gp A).elim,λx J=>(by cases J)⟩ ?_ ?_
  rotate_left
  .rintro am dS ⟨aJ,gr,K,an,ap,bB,bb,_,_,bC⟩;rw[o9,cI]at bb;refine b4 Ω ?_;have eX:=aK.size;have eY:=ak.size;have eZ:=S.size;exact⟨(aK.F (ak.F S)).F an,.inr ⟨V,rfl,aF,aJ,dP,gr,K,ap,bu.W an,bB,bb,Ω,λr A=>by have:=(cd bu A).1;omega,λx J r A=>by have:=bC x J r A;omega⟩⟩
  rintro i am dS hi ⟨aJ,gr,K,an,ap,bB,bb,dT,cL,bC⟩ dU;obtain⟨y,B⟩:=aI (l:=M) hi;have cM:=(a8.F S).F an;have cO:=cG.W cM;have cP:=cO.at B;obtain⟨dy,dz,aZ⟩:=(cH.W cM) y (x7 B);have ah:gq f.d6 f.k (en y):=uX E _ (yt cI B);refine bF Ω ?_;rw[vd rfl cO B];refine bE da.i λgy e0 e1 dV dW=>?_;refine b3 (vs:=fj y) da.i rfl rfl cP.one dW λdZ ea e2 eb=>?_;have ec:Ext am dZ:=dV.put ea Ω;intro e3 cQ _ _;have bD:=ec.F cQ;have cR:=eb.W cQ;have ed:=ap.W bD;rw[aP cN.p 3 ed rfl,aN da.p 0 cR rfl,aN da.p 1 cR rfl];refine(Qo (aZ.W bD) λc H=>⟨hk,(ah.jf c H).1,(ah.jf c H).2⟩).Y ?_;rintro _ e4 _ ⟨bI,ag,m,o,D,rfl,ee,ef,eg,_⟩;refine⟨.inl bI,?_⟩;have cT:=bD.F bI;obtain⟨⟨bs,cU⟩,_,e5⟩:=cP;have cV:=cU.W cT;rw[ds (cs:=#[y.sv,Γ ag]) (by obtain⟨_,_,_,e⟩:=df cU.ls;rw[e];kernel_rfl)];let a:cF:=⟨y.sv,ag,y.sc,y.cs⟩;have bl:∀u∈fj a,u.oneCell'=s2:=vi cV;refine jc (f:=fj) (a:=a) dX.u cS.i Ω rfl rfl λv25 e6 bK e7 I eh=>?_;refine⟨.inl (bI.F I),?_⟩;have ax:=cT.F I;have bc:=bB.W ax;refine jB (f:=fj) (a:=a) dX.u cS.i rfl bc.1 (by simpa using eh.sl) bl Ω Ω λaB P ei aC bm cW=>?_;have e8:=an.size;have e9:=ax.size;have bL:aj ei V cN [cp f.name,Δ f.k,aF,aJ]:=(ap.W ax).ab cW λhe=>by
   obtain⟨rfl,c,C⟩:=dY bc.1 he;have h1:=ap.W ax;unfold aj at C h1;rw[h1]at C;exact m6 (Obj.cells.inj (Z5 C)).2.1 Φ
  rw[cc,a1 cN.p rfl];have cX:aB.cells= #[aB]/\aB.oneCell'=s2:=by
   obtain⟨_,_,_,_,_,rfl,_⟩:=aC.sl;exact⟨rfl,rfl⟩
  refine bw dX.i cX.1 cX.2 bL Ξ λej cY fb em=>?_;rw[aR];have bN:ai (λr=>r=V\/hx aJ r) bK ej:=(cW.Y λr _ h=>.inr h).F (cY.Y λr _ h=>.inl h);have cZ:∀r,(r=V\/hx aJ r)->∃e c,aj bK r e c/\e≠gj/\e≠al:=λr A=>by
   rcases A with rfl|A
   .exact⟨_,_,ap.W ax,Φ,Φ⟩
   .obtain⟨rfl,c,C⟩:=dY bc.1 A;exact⟨_,c,C,Φ,Φ⟩
  refine dU _ ⟨aB,P,K++[a],?_,em,⟨aC.ab cY λr A he=>?_,λz s=>?_⟩,?_,by rw[c9,dT];rfl,λr A=>?_,λz s=>?_⟩
  .exact (an.F ax).then bN λr A he=>by
    rcases he with rfl|he
    .omega
    .have:=cL r he;omega
  .have he:r=V:=he;subst he;obtain⟨rfl,c,C⟩:=dY aC A;unfold aj at C bL;rw[bL]at C;exact m6 (Obj.cells.inj (Z5 C)).2.1 Φ
  .rcases j5.1 s with s|s
   .exact (bc.2 z s).ab bN cZ
   .rw[Y1.1 s];refine oK.ab (w:=bK) ⟨⟨bs,cV.W I⟩,m,o,D,ee.W I,?_,eg⟩ bN cZ;have:=ah.small;exact X3 ef (by show(aX (b5 f.d6 (en y).1)).toNat<=4096;omega)
  .rw[Z2,bb,u9,B,Z2];rfl
  .rcases bm r A with h|h
   .exact cL r h
   .omega
  .rcases j5.1 s with s|s
   .exact bC z s
   .rw[Y1.1 s];exact dN y (x7 B)
theorem fI{a:o4}{c f:List x4}(h:aj w r e c)(be:aj w r a f):e=a:=by
 grind [aj]
theorem cP{α:Type}{f:α->List x4}{k:Nat}{a:o4}{g:Nat}{L:List α}(h:bo f k e w g v L)(r:aj w j a cs)(s:e≠a):¬hx v j:=λq=>by
 obtain⟨rfl,c,x⟩:=dY h q
 grind [fI]
structure mY where
 v:x4
 l:Λ
def sO(h:mY):List x4:=[h.v]
def jh(w:x5)(g:Nat)(v:x4)(bb:List mY):Prop:=bo sO 1 aB w g v bb/\∀h∈bb,∃a,aH .i64 ay w a h.v h.l
theorem jh.W{g:Nat}{bb:List mY}(h:jh w g v bb)(J:Ext w I):jh I g v bb:=⟨h.1.W J,λx a=>by
 obtain⟨e,hm⟩:=h.2 x a;exact⟨e,hm.W J⟩⟩
theorem jh.sP{g:Nat}{bb:List mY}(h:jh w g v bb)(j:ai S w I)(q:∀r,S r->∃e c,aj w r e c/\e≠ay):∀h∈bb,∃a,aH .i64 ay I a h.v h.l:=λx f=>by
 obtain⟨a,hm⟩:=h.2 x f;exact⟨a,by grind [bG,cB]⟩
theorem jh.ab{g:Nat}{bb:List mY}(h:jh w g v bb)(a:ai S w I)(f:∀r,S r->∃e c,aj w r e c/\e≠ay/\e≠aB):jh I g v bb:=
 ⟨h.1.ab a λr j V=>by
  obtain⟨e,c,q,_,s⟩:=f r V;exact cP h.1 q (by grind) j,h.sP a (by grind)⟩
def pV(w:x5)(k:Int)(d6:Λ)(x:cF):Prop:=(∃a,aH .i64 al w a x.sv x.sc)/\∃e f,du w x.g e f (b5 d6 x.sc) k x.cs
theorem pV.W{x:cF}(h:pV w k d6 x)(J:Ext w I):pV I k d6 x:=by
 obtain⟨⟨a,h1⟩,e,f,j⟩:=h;exact⟨⟨a,h1.W J⟩,e,f,j.W J⟩
theorem Ez{g f:Nat}{j:x4}{cs:Λ}(h:du w g f j an k cs)(a:ai S w I)(z:∀r,S r->∃e c,aj w r e c/\e≠db/\e≠al/\e≠ay):du I g f j an k cs:=by
 obtain⟨⟨bf,gs,h1,q,s⟩,x⟩:=h;refine⟨⟨bf,gs,h1.ab a λV=>?_,bG q a λr y V=>?_,bG s a λr y V=>?_⟩,x⟩
 all_goals grind [fI,cB]
theorem pV.ab{x:cF}(h:pV w k d6 x)(a:ai S w I)(f:∀r,S r->∃e c,aj w r e c/\e≠db/\e≠al/\e≠ay):pV I k d6 x:=by
 obtain⟨⟨j,h1⟩,q,s,y⟩:=h;refine⟨⟨j,bG h1 a λr z V=>?_⟩,q,s,Ez y a f⟩
 grind [cB]
def pW(w:x5)(g:Nat)(v:x4)(k:Int)(d6:Λ)(L:List cF):Prop:=bo fj 2 i7 w g v L/\∀x∈L,pV w k d6 x
theorem pW.W{g:Nat}{L:List cF}(h:pW w g v k d6 L)(J:Ext w I):pW I g v k d6 L:=⟨h.1.W J,λx a=>(h.2 x a).W J⟩
theorem pW.ab{g:Nat}{L:List cF}(h:pW w g v k d6 L)(a:ai S w I)(f:∀r,S r->∃e c,aj w r e c/\e≠i7/\e≠db/\e≠al/\e≠ay):pW I g v k d6 L:=
 ⟨h.1.ab a λr j V=>by
  obtain⟨e,c,q,s,_⟩:=f r V;exact cP h.1 q (by grind) j,λx J=>(h.2 x J).ab a (by grind)⟩
def gP(w:x5)(h:Nat)(n:aJ):Prop:=∃a e f j gr bb L nm hv gz fv2,aj w h gE [Γ a,Δ n.zero,e,f]/\aj w a cN [nm,Δ n.k,hv,fv2]/\aH .i64 al w gz hv n.d6/\
 jh w j e bb/\bb.map (·.l)=n.unary/\pW w gr f n.k n.d6 L/\L.map en=n.ho
theorem gP.W{n:aJ}(h:gP w a n)(J:Ext w I):gP I a n:=by
 obtain⟨e,f,j,q,gr,bb,L,nm,hv,gz,fv2,h1,r,s,x,y,z,A⟩:=h;exact⟨e,f,j,q,gr,bb,L,nm,hv,gz,fv2,h1.W J,r.W J,s.W J,x.W J,y,z.W J,A⟩
def sQ(w:x5)(B:Nat)(k:Int)(d6:Λ)(x:cF):Prop:=(∃f,aH .i64 al w f x.sv x.sc)/\(∃a e,du w x.g a e (b5 d6 x.sc) k x.cs/\B<=a/\∀r,lc e r->B<=r)/\B<=x.g/\∀r,lc x.sv r->B<=r
theorem sQ.ab{x:cF}(h:sQ w B k d6 x)(a:ai S w I)(f:∀r,S r->∃e c,aj w r e c/\e≠db/\e≠al/\e≠ay):sQ I B k d6 x:=by
 obtain⟨⟨j,h1⟩,⟨q,s,y,z⟩,A⟩:=h;refine⟨⟨j,bG h1 a λr C V=>?_⟩,⟨q,s,Ez y a f,z⟩,A⟩
 grind [cB]
def n0(w:x5)(B g:Nat)(v:x4)(k:Int)(d6:Λ)(L:List cF):Prop:=bo fj 2 i7 w g v L/\∀x∈L,sQ w B k d6 x
theorem n0.W{g:Nat}{L:List cF}(h:n0 w B g v k d6 L)(J:Ext w I):n0 I B g v k d6 L:=⟨h.1.W J,λx a=>(h.2 x a).ab (J.ab λ_=>False) λ_ h=>h.elim⟩
theorem n0.ab{g:Nat}{L:List cF}(h:n0 w B g v k d6 L)(a:ai S w I)(f:∀r,S r->∃e c,aj w r e c/\e≠i7/\e≠db/\e≠al/\e≠ay):n0 I B g v k d6 L:=
 ⟨h.1.ab a λr j V=>by
  obtain⟨e,c,q,s,_⟩:=f r V;exact cP h.1 q (by grind) j,λx J=>(h.2 x J).ab a (by grind)⟩
theorem EA:∃o:Obj,gf o=sp:=⟨.deferred ν,rfl⟩
theorem ghost(w:x5)(B:Nat):∃w0,Ext w0 w/\ai (λr=>r<B) w w0/\∀r o,w0.heap[r]?=σ o->gf o=s2->B<=r:=by
 obtain⟨cR,e⟩:=EA;have f:∀r,(w.heap.mapIdx λr o=>if r<B then cR else o)[r]?=(w.heap[r]?).map λo=>if r<B then cR else o:=λr=>Ξ
 refine⟨{w with heap:=w.heap.mapIdx λr o=>if r<B then cR else o},⟨Ξ,λr o a V=>?_⟩,⟨Ξ,λr o a V h=>?_⟩,λr o a V=>?_⟩
 all_goals grind
def EB(B:Nat)(w:x5)(a:Nat)(n:aJ):Prop:=∃w0,gP w0 a n/\Ext w0 w/\∀r o,w0.heap[r]?=σ o->gf o=s2->B<=r
theorem Qv{s f y gr gz:Nat}{n:aJ}{j q nm hv fv2:x4}{bb:List mY}{L:List cF}(h1:aj w s gE [Γ f,Δ n.zero,j,q])(E:aj w f cN [nm,Δ n.k,hv,fv2])(F:aH .i64 al w gz hv n.d6)(z:jh w y j bb)(G:bb.map (·.l)=n.unary)(A:n0 w B gr q n.k n.d6 L)(H:L.map en=n.ho)(I:B<=s)(K:B<=f)(M:∀r,lc hv r->B<=r)(X:∀r,hx j r\/hx q r->B<=r)(Y:∀h∈bb,∀r,lc h.v r->B<=r):EB B w s n:=by
 obtain⟨w0,J,a,N⟩:=ghost w B;have no:∀{r:Nat},B<=r->¬r<B:=Ω
 have C:∀{e:o4}{g:Nat}{v:x4}{l:Λ},aH .i64 e w g v l->(∀r,lc v r->B<=r)->aH .i64 e w0 g v l:=by grind [bG]
 refine⟨w0,⟨f,j,q,y,gr,bb,L,nm,hv,gz,fv2,h1.ab a (no I),E.ab a (no K),C F M,⟨z.1.ab a (by grind),λh ax=>?_⟩,G,⟨A.1.ab a (by grind),λx J=>?_⟩,H⟩,J,N⟩
 .obtain⟨O,hm⟩:=z.2 h ax
  grind
 .obtain⟨⟨O,Z⟩,⟨P,Q,⟨⟨bf,gs,R,S,t3⟩,t4⟩,aa,U⟩,V,ac⟩:=A.2 x J;exact⟨by grind,P,Q,⟨bf,gs,R.ab a (no V),C S U,bG t3 a λr W=>no (by have:=(cd t3 W).1;omega)⟩,t4⟩
def kv(n:aJ)(g:c5):aJ:=match g.1 with
 |[]=>{n with zero:=g.2.getD 0 0}
 |[v]=>{n with unary:=n.unary.set v.toNat g.2}
 |_=>{n with ho:=n.ho++[g]}
def EC(f:cn):aJ:=⟨f.k,f.d6,0,f.d6.map λz=>o5 z.toNat 0,[]⟩
theorem Qw(f:cn):cY f=(gn f).foldl kv (EC f):=rfl
def eo(f:cn)(i:Nat):aJ:=((gn f).take i).foldl kv (EC f)
theorem yu{f:cn}{i:Nat}{g:c5}(h:(gn f)[i]?=σ g):eo f (i+1)=kv (eo f i) g:=Qq h
theorem vj(f:cn):eo f (gn f).length=cY f:=by grind [eo,Qw]
theorem Qx(n:aJ)(g:c5):(kv n g).k=n.k/\(kv n g).d6=n.d6/\(kv n g).unary.length=n.unary.length/\(kv n g).ho.length<=n.ho.length+1:=by
 grind [kv]
theorem q8(f:cn):∀i,(eo f i).k=f.k/\(eo f i).d6=f.d6/\(eo f i).unary.length=f.d6.length/\(eo f i).ho.length<=i
 |0=>⟨rfl,rfl,by show(f.d6.map _).length=_;simp,X9 _⟩
 |i+1=>by
  have e:=q8 f i;cases a:(gn f)[i]? with
  |none=>
   grind [eo,j9]
  |some g=>
   rw[yu a]
   grind [Qx]
def Qy(w:x5)(f:cn)(v:x4)(I:x5):Prop:=Ext w I/\((¬nZ f.ho<=16384/\∃e:Int,e≠0/\v= .tuple #[.pointer ν,Δ e])\/∃a,v= .tuple #[Γ a,Δ 0]/\EB w.heap.size I a (cY f))
theorem eJ{k:Nat}(h:cq w k v n cs):v.cells= #[v]/\v.oneCell'=s2:=by
 obtain⟨_,_,_,_,_,rfl,_⟩:=h;exact⟨rfl,rfl⟩
theorem Qz{bS:Nat}{f:cn}(cm:mX w bS f)(R:fG N f)(cq:N<=60000)(cr:f.name≠[]/\∀b∈f.name,ck b=s2):
  aq x8 I9 [Γ bS] w (Qy w f):=by
 have hk:=R.k;refine aE func60 ?_;refine(Qu cm R cq cr).Y ?_;rintro _ U _ ⟨an,⟨ct,e,he,rfl⟩|⟨aM,rfl,cw⟩⟩
 .rw[bz,bA,bM,ao];exact⟨λ_=>⟨an,.inl ⟨ct,e,he,rfl⟩⟩,λh=>m6 he h⟩
 rw[bz,bA,bM,ao];refine⟨λh=>m6 rfl h,λ_=>?_⟩;obtain⟨hv,cz,gz,du,M,ba,bc,bT,aO,cA,cC,cD⟩:=id cw;have dv:M.length<=256:=by
  have h1:=(sE R).2.length_eq;have ag:=(mV R).2.2;have ah:=List.length_filter_le gl (gm f);have aQ:=R.mO;have dw:M.length=(gn f).length:=by rw[<-aO,r9]
  omega
 have dx:=R.d6.2.1;rw[ds (cs:=#[Γ aM,Δ 0,.slice ν 0 0,.slice ν 0 0]) Ψ];refine bn λH aa dy bd be=>?_;have be:=be;rw[aP cN.p 2 (ba.W bd) rfl,a8 au.u (bc.ls.W bd)];refine b7.range f.d6.length (λi ap=>∃s G bb,Ext U ap/\aj ap H gE [Γ aM,Δ 0,s,.slice ν 0 0]/\jh ap G s bb/\bb.map (·.l)=(f.d6.take i).map (λz=>o5 z.toNat 0)/\(∀r,hx s r->U.heap.size<=r)/\∀h∈bb,∀r,lc h.v r->U.heap.size<=r) Ω
  ⟨_,0,[],bd,be,⟨bo.nil _ _ _ _ _,λx J=>(by cases J)⟩,rfl,λr q=>(gp q).elim,λx J=>(by cases J)⟩ ?_ ?_
 .rintro i ap cE hi ⟨s,G,bb,ac,aS,bf,aw,aT,K⟩ cG;obtain⟨z,B⟩:=aI (l:=f.d6) hi;have dz:=R.d6.2.2 z (x7 B);have dA:bb.length=i:=by have:=congrArg List.length aw;simp only[r9,Z3]at this;omega
  refine bF Ω ?_;rw[bk au.u al.i Ψ (bc.ls.W ac) B];intro dC bg _ _;have cH:=aS.W bg;rw[aP gE.p 2 cH rfl];obtain⟨aU,rfl⟩:∃n:Nat,z=n:=⟨z.toNat,Ω⟩;refine kM aB.u ay.i Ω Ω λbU dD dE bh cI=>?_;refine⟨.inl bh,?_⟩;have bV:=aH.of (cf.full (n:=aU) cI Ξ (by simp[maxLen];omega));let a:mY:=⟨.slice (σ ⟨bU,0,ν⟩) aU aU,o5 aU 0⟩;refine jc (f:=sO) (a:=a) c0.u aB.i Ω rfl rfl λdF dG bi dH bj cJ=>?_;refine⟨.inl (bh.F bj),?_⟩;have aV:=(bg.F bh).F bj;have aW:=bf.W aV;refine jB (f:=sO) (a:=a) c0.u aB.i rfl aW.1 (by simpa using cJ.sl) (λu hu=>by rw[Y1.1 (show u∈[a.v]from hu)];rfl) Ω Ω λbl bp dI O bq bW=>?_;have az:∀{r:Nat},hx s r->∃c,aj bi r aB c:=λq=>by
   obtain⟨rfl,c,A⟩:=dY aW.1 q;exact⟨c,A⟩
  have br:=aS.W aV;have bX:=br.ab bW λhe=>cP aW.1 br Φ he;rw[cc,a1 gE.p rfl];refine bw c0.i (eJ O.sl).1 (eJ O.sl).2 bX Ξ λcK bY dJ cL=>?_;rw[aR];have bs:ai (λr=>hx s r\/r=H) bi cK:=(bW.Y λr _ h=>.inl h).F (bY.Y λr _ h=>.inr h);have S:∀r,(hx s r\/r=H)->∃e c,aj bi r e c/\e≠ay:=λr q=>by
   rcases q with q|rfl
   .obtain⟨c,A⟩:=az q;exact⟨_,c,A,Φ⟩
   .exact⟨_,_,br,Φ⟩
  have bZ:=an.size;have z3:=ac.size;have dK:=aV.size;refine cG _ ⟨bl,bp,bb++[a],(ac.F aV).then bs (λr q he=>?_),cL,⟨O.ab bY λr q he=>?_,λy C=>?_⟩,?_,λr q=>?_,λy C r q=>?_⟩
  .rcases he with he|rfl
   .have:=aT r he;omega
   .omega
  .have he:r=H:=he;subst he;exact cP O bX Φ q
  .rcases j5.1 C with C|C
   .exact aW.sP bs S y C
   .rw[Y1.1 C];have b0:=bV.W bj;exact⟨bU,bG b0 bs λr q V=>by
     obtain⟨e,c,A,cM⟩:=S r V;exact cB b0 A (λhe=>cM he.symm) q rfl⟩
  .rw[Z2,aw,u9,B,j4,Z2];rfl
  .rcases bq r q with h|h
   .exact aT r h
   .omega
  .rcases j5.1 C with C|C
   .exact K y C r q
   .rw[Y1.1 C]at q;have cO:=(cd bV q).1;have:=bg.size;omega
 .rintro ap cE ⟨s,G,bb,ac,aS,bf,aw,aT,K⟩;refine b4 Ω ?_;rw[o9]at aw;have cQ:=ba.W ac;have cR:=bT.W ac;rw[aP cN.p 3 cQ rfl,ek dX.u cR.1];refine b7.range M.length (λi ak=>∃s E G gr bb L,Ext U ak/\aj ak H gE [Γ aM,Δ (eo f i).zero,s,E]/\jh ak G s bb/\bb.map (·.l)=(eo f i).unary/\n0 ak w.heap.size gr E f.k f.d6 L/\L.map en=(eo f i).ho/\(∀r,hx s r\/hx E r->U.heap.size<=r)/\∀h∈bb,∀r,lc h.v r->U.heap.size<=r) Ω
   ⟨s,_,G,0,bb,[],ac,aS,bf,aw,⟨bo.nil _ _ _ _ _,λx J=>(by cases J)⟩,rfl,λr q=>q.elim (aT r) λh=>(gp h).elim,K⟩ ?_ ?_
  rotate_left
  .rintro ak cT ⟨s,E,G,gr,bb,L,P,aY,bt,ad,bu,ae,W,K⟩;refine b4 Ω ?_;have cU:M.length=(gn f).length:=by rw[<-aO,r9]
   have aC:=q8 f M.length;rw[cU,vj]at aY ad ae aC;have bZ:=an.size;refine⟨an.F P,.inr ⟨H,rfl,Qv (gr:=gr) (nm:=cp f.name) (hv:=hv) (gz:=gz) (fv2:=cz) aY ?_ ?_ bt ad ?_ ae Ω cA cC (λr q=>by have:=W r q;omega) λh ax r q=>by have:=K h ax r q;omega⟩⟩
   .rw[aC.1];exact ba.W P
   .rw[aC.2.1];exact bc.W P
   .rw[aC.1,aC.2.1];exact bu
  rintro i ak cT hi ⟨s,E,G,gr,bb,L,P,aY,bt,ad,bu,ae,W,K⟩ cV;obtain⟨y,C⟩:=aI (l:=M) hi;have cW:(gn f)[i]?=σ (en y):=by rw[<-aO,u4,C];rfl
  have aZ:=uX R _ (yt aO C);have bx:=bT.W P;obtain⟨dL,dM,dN,dO⟩:=q8 f i;refine bF Ω ?_;refine dh (λaD=>∃s E G gr bb L,Ext U aD/\aj aD H gE [Γ aM,Δ (eo f (i+1)).zero,s,E]/\jh aD G s bb/\bb.map (·.l)=(eo f (i+1)).unary/\n0 aD w.heap.size gr E f.k f.d6 L/\L.map en=(eo f (i+1)).ho/\(∀r,hx s r\/hx E r->U.heap.size<=r)/\∀h∈bb,∀r,lc h.v r->U.heap.size<=r) ?_ ?_
  .rintro aD h;rw[aR];exact cV _ h
  intro aA bB;have cX:=bx.2 y (x7 C);obtain⟨⟨cY,bC⟩,m,o,D,cZ,dP,c1⟩:=cX;rw[cu rfl dX.u cS.i bx.1 hi,bH cS.p cS.i rfl (bx.1.range C)];refine bE cS.i λav dQ dR c2 c3=>?_;refine b3 (vs:=fj y) cS.i rfl rfl (vi bC) c3 λdT c4 dU b1=>?_;have bD:=c2.put c4 Ω;rw[aN cS.p 1 b1 rfl];refine(D7 (cZ.W bD) Ω).Y ?_;rintro _ dV _ ⟨b2,_,am⟩;obtain⟨g,c5,c6,dW,rfl,dZ,c7,am,c8⟩:=am aZ.small;have c9:dS (b5 f.d6 y.sc):=am.2.2.1.2;have da:=j7.eq c9 c8 c1;subst da;have X:=bD.F b2;have bI:=b1.W b2;have bJ:=bC.W X;rw[bz,bA,aN cS.p 0 bI rfl,a8 au.u bJ.ls];have bZ:=an.size;have z9:=P.size;have ea:=X.size;have bK:=aY.W X;have bL:=bt.W X;have bN:=bu.W X;have bO:=yu cW;rw[bm,ao];refine⟨λeb=>?_,λec=>?_⟩
  .
   have af:y.sc=[]:=j6 Ω;have I:eo f (i+1)={eo f i with zero:=y.cs.getD 0 0}:=by rw[bO];unfold kv;simp only[en,af]
   refine(oH am).Y ?_;rintro b6 dc _ ⟨a2,ed,ee,dd⟩;have ef:y.cs.length=1:=by have:=aZ.len;simpa[en,af,b5,aX]using this
   have de:y.cs[0]?=σ (y.cs.getD 0 0):=by rw[r8,v8 Ω];rfl
   rw[ft (y:=0) (i:=0) rfl aB.u ay.i Ψ dd.ls de,cc,a1 gE.p rfl];have b8:=bK.W a2;refine bw ay.i rfl rfl b8 Ξ λeg bP eh dg=>?_;have S:∀r,r=H->∃e c,aj dc r e c/\e≠i7/\e≠db/\e≠al/\e≠ay/\e≠aB:=λr q=>by
    subst q;exact⟨_,_,b8,Φ,Φ,Φ,Φ,Φ⟩
   refine bB _ ⟨s,E,G,gr,bb,L,((P.F X).F a2).put bP Ω,?_,(bL.W a2).ab bP (λr q=>?_),by rw[I];exact ad,(bN.W a2).ab bP (λr q=>?_),by rw[I];exact ae,W,K⟩
   .rw[I];exact dg
   .obtain⟨e,c,A,_,_,_,h1,ag⟩:=S r q;exact⟨e,c,A,h1,ag⟩
   .obtain⟨e,c,A,h1,ag,ah,aQ,_⟩:=S r q;exact⟨e,c,A,h1,ag,ah,aQ⟩
  rw[bm,ao];refine⟨λh1=>?_,λei=>?_⟩
  .
   obtain⟨v,af⟩:∃v,y.sc=[v]:=W3.1 Ω;have ej:=aZ.scope.1 v (by show v∈y.sc;rw[af];exact .head _);have em:=aZ.d9 v (by show v∈y.sc;rw[af];exact .head _);have I:eo f (i+1)={eo f i with unary:=(eo f i).unary.set v.toNat y.cs}:=by rw[bO];unfold kv;simp only[en,af]
   intro ep Y _ _;have b9:=bK.W Y;have di:=bI.W Y;rw[aP gE.p 2 b9 rfl,aN cS.p 0 di rfl];refine nR rfl au.u al.i (bJ.ls.W Y) (show y.sc[0]?=σ v by rw[af];rfl) λb o dj=>?_;rw[aG Ψ dj];refine(oH (am.W Y)).Y ?_;rintro b6 dk _ ⟨aF,dl,er,aJ⟩;refine⟨.inl aF,?_⟩;have aK:=(bL.W Y).W aF;have es:bb.length=f.d6.length:=by have:=congrArg List.length ad;rw[r9]at this;omega
   obtain⟨u,hu⟩:=aI (l:=bb) (i:=v.toNat) Ω;rw[cu (i:=v.toNat) Ω c0.u aB.i aK.1 Ω];let a:mY:=⟨b6,y.cs⟩;refine lk (j:=0) (a:=u) (a':=a) aB.i aJ.ls.cells.1 aJ.ls.cells.2 aK.1 hu rfl Ω λet aL eu dm=>?_;have ca:=b9.W aF;have az:∀{r:Nat},hx s r->∃c,aj dk r aB c:=λq=>by
    obtain⟨rfl,c,A⟩:=dY aK.1 q;exact⟨c,A⟩
   refine bB _ ⟨s,E,G,gr,bb.set v.toNat a,L,(((P.F X).F Y).F aF).then aL (λr q he=>by have:=W r (.inl he);omega),?_,⟨dm,λz B=>?_⟩,?_,((bN.W Y).W aF).ab aL (λr q=>?_),by rw[I];exact ae,W,λz B r q=>?_⟩
   .rw[I];exact ca.ab aL λhe=>cP aK.1 ca Φ he
   .rcases U5 B with B|rfl
    .exact aK.sP aL (λr q=>by obtain⟨c,A⟩:=az q;exact⟨_,c,A,Φ⟩) z B
    .exact⟨dl,bG aJ aL λr q V=>by
      obtain⟨c,A⟩:=az V;exact cB aJ A Φ q rfl⟩
   .rw[I,U2,ad]
   .obtain⟨c,A⟩:=az q;exact⟨_,c,A,Φ,Φ,Φ,Φ⟩
   .rcases U5 B with B|rfl
    .exact K z B r q
    .have cO:=(cd aJ q).1;have:=Y.size;omega
  .
   have I:eo f (i+1)={eo f i with ho:=(eo f i).ho++[en y]}:=by
    rw[bO];unfold kv;have cb:2<=(en y).1.length:=by show 2<=y.sc.length;omega
    generalize en y=g at cb ⊢;obtain⟨sc,cs⟩:=g
    match sc,cb with
    |_::_::_,_=>rfl
   intro ev Z _ _;have ce:=bK.W Z;have dn:=bI.W Z;have cg:=bJ.W Z;rw[aP gE.p 3 ce rfl,aN cS.p 0 dn rfl,ds (cs:=#[y.sv,Γ g]) (by obtain⟨_,_,_,e⟩:=df bC.ls;rw[e];kernel_rfl)];let a:cF:=⟨y.sv,g,y.sc,y.cs⟩;refine jc (f:=fj) (a:=a) mz.u i7.i Ω rfl rfl λew ey bQ ez Q dp=>?_;refine⟨.inl Q,?_⟩;have a6:=(bN.W Z).W Q;have dq:=(bL.W Z).W Q;have bR:=ce.W Q;have eA:L.length<=256:=by have:=congrArg List.length ae;rw[r9]at this;omega
   refine jB mz.u i7.i rfl a6.1 (by simpa using dp.sl) (vi (cg.W Q)) Ω Ω λbl bp eB O bq ch=>?_;have ci:=bR.ab ch λhe=>cP a6.1 bR Φ he;rw[cc,a1 gE.p rfl];refine bw mz.i (eJ O.sl).1 (eJ O.sl).2 ci Ξ λdr cj eC dt=>?_;have a7:ai (λr=>hx E r\/r=H) bQ dr:=(ch.Y λr _ h=>.inl h).F (cj.Y λr _ h=>.inr h);have S:∀r,(hx E r\/r=H)->∃e c,aj bQ r e c/\e≠db/\e≠al/\e≠ay/\e≠aB:=λr q=>by
    rcases q with q|rfl
    .obtain⟨rfl,c,A⟩:=dY a6.1 q;exact⟨_,c,A,Φ,Φ,Φ,Φ⟩
    .exact⟨_,_,bR,Φ,Φ,Φ,Φ⟩
   have eD:=(Z.F Q).size;refine bB _ ⟨s,bl,G,bp,bb,L++[a],(((P.F X).F Z).F Q).then a7 (λr q he=>?_),?_,dq.ab a7 (λr q=>?_),by rw[I];exact ad,⟨O.ab cj λr q he=>?_,λz B=>?_⟩,?_,λr q=>?_,K⟩
   .rcases he with he|rfl
    .have:=W r (.inr he);omega
    .omega
   .rw[I];exact dt
   .obtain⟨e,c,A,_,_,ah,aQ⟩:=S r q;exact⟨e,c,A,ah,aQ⟩
   .have he:r=H:=he;subst he;exact cP O ci Φ q
   .have cl:∀r,(hx E r\/r=H)->∃e c,aj bQ r e c/\e≠db/\e≠al/\e≠ay:=λr q=>by
     obtain⟨e,c,A,h1,ag,ah,_⟩:=S r q;exact⟨e,c,A,h1,ag,ah⟩
    rcases j5.1 B with B|B
    .exact (a6.2 z B).ab a7 cl
    .rw[Y1.1 B];have eE:=bD.size;refine sQ.ab ⟨⟨cY,cg.W Q⟩,⟨c5,c6,?_,Ω,λr q=>by have:=c7.2 r q;omega⟩,by show w.heap.size<=g;omega,cD y (x7 C)⟩ a7 cl;exact(am.W Z).W Q
   .rw[I,Z2,ae];rfl
   .rcases q with q|q
    .exact W r (.inl q)
    .rcases bq r q with h|h
     .exact W r (.inr h)
     .omega
theorem ED{z:Array x4}{k:Nat}(a:z.size=k):(Z0.zeroCells z n).toList=eg z (n*k):=by
 grind [Z0.zeroCells,eg]
theorem QA{P:W0}{t q x:o4}{A kn:o8}{b g k m:Nat}{xs:List x4}{K:x4->x5->Prop}(T:y=(m:Int))(J:P.underlying t=σ (.slice e))(L:P.underlying q=σ (.int kn))(hi:aV P e k b z)(U:z.cells.size=k)(au:0<k)(h1:∀u∈eg z.cells (m*k),u.oneCell'=s2)(h:cf w g e k v n xs)(V:0<m)(W:(n+m)*b<=140737488355328)(av:n+m<=9223372036854775807)(M:∀C X I,cf I X e k C (n+m) (xs++eg z.cells (m*k))->(∀r,hx C r->hx v r\/w.heap.size<=r)->ai (λr=>hx v r) w I->K C I):aM P (b9 #[t,q] x #[v,.int A y]) w K:=by
 subst T;obtain⟨i,hi,Y,rfl,N⟩:=hi;obtain⟨aw,hm⟩:=h;have Z:=qI z.cells (m*k);have aa:m*i.bytes<=281474976710656:=by
  grind
 have grow:∀(base:Option Addr)(cap:Nat),v= .slice base n cap->(Z0.firstCells i.size n (.slice base n cap)).run P w.drew= .ok xs.toArray w.drew->cap<n+m->aM P (b9 #[t,q] x #[v,.int A (m:Int)]) w K:=λbase cap ac ad f=>by
  subst ac;have E:=Lib.run_append_grow_zeros (P:=P) w t q x e i z A kn J L hi N base n cap xs ad m V Ω f Ω aa (growslice_fits f W);have O:n+m<=grownCap w (n+m) cap e:=grownCap_ge w _ _ _;have ae:grownCap w (n+m) cap e<=maxLen:=by grind [grownCap_le_maxLen,maxLen]
  have ax:=qI z.cells ((grownCap w (n+m) cap e-(n+m))*k);have ay:(n+m)*k<=grownCap w (n+m) cap e*k:=V4 _ O;have af:(n+m)*k=n*k+m*k:=T6 _ _ _;have az:(grownCap w (n+m) cap e-(n+m))*k=grownCap w (n+m) cap e*k-(n+m)*k:=Nat.sub_mul _ _ _;refine .of E ((rz w _ (Nat.le_succ _)).F (rB _ _)) (M _ w.heap.size _ ⟨by grind,.inr ⟨_,xs++eg z.cells (m*k)++eg z.cells ((grownCap w (n+m) cap e-(n+m))*k),rfl,?_,O,ae,?_,?_⟩⟩ (λr F=>?_) (((tu w _).F (rA _ _)).ab _))
  .have:=heap_alloc_new w.drew (.cells (xs.toArray++Z0.zeroCells z.cells m++Z0.zeroCells z.cells (grownCap w (n+m) cap e-(n+m))) e);unfold aj;rw[show w.drew.heap.size=w.heap.size from rfl]at this;rw[this];congr 2
   grind [ED]
  .grind
  .grind
  .obtain⟨a,ag,c,G,B⟩:=F
   grind
 rcases hm with⟨rfl,ah⟩|⟨cap,cs,rfl,s,G,B,Q,ak⟩
 .subst ah;have:xs=[]:=by grind
  subst this;exact grow ν 0 rfl (by grind [run_firstCells_none]) Ω
 .by_cases f:n+m<=cap
  .have al:(n+m)*k<=cs.length:=by rw[Q];exact V4 _ f
   have af:(n+m)*k=n*k+m*k:=T6 _ _ _;have H:=run_storeCells_cells (P:=P) g (0+n*k) (eg z.cells (m*k)) 0 w (λj R=>by
    rw[Z]at R;rw[Nat.add_zero,V0,s.cell (v8 Ω)];rfl) (λj _=>s.frozen _ _) h1
   simp only[Nat.add_zero]at H;have hw:X5.wrap (m:Int)=m:=by rw[o8.wrap_i64];omega
   have am:¬((m:Int)<0):=Ω
   have an:¬(281474976710656<(m:Int)*(i.bytes:Int)):=Ω
   have ao:¬(m*i.size=0):=by grind [Nat.mul_ne_zero]
   have ap:(Z0.zeroCells z.cells m).toList=eg z.cells (m*k):=ED U;have E:(b9 #[t,q] x #[.slice (σ ⟨g,0,ν⟩) n cap,.int A (m:Int)]).run P w= .ok (.slice (σ ⟨g,0,ν⟩) (n+m) cap) (w.setCells g (0+n*k) (eg z.cells (m*k))):=by
    simp[b9,run_underlying J,run_underlying L,sizeOf,typeInfo,zeroValue,hi,N,asInt,asIntOf,hw,f,am,ao,an,ap,Addr.add_lit,Y];simp only[V0]at H;rw[H];simp
    grind
   obtain⟨aq,S⟩:=pz (eg z.cells (m*k)) cs (0+n*k) w s;refine .of E (S.cR s) (M _ g _ ⟨by grind,.inr ⟨cap,_,rfl,aq,f,B,by rw[nN,Q],?_⟩⟩ (λr F=>.inl ?_) (S.ab.Y λr _ he=>⟨_,_,_,rfl,he.symm⟩))
   .grind [ox]
   .obtain⟨a,ag,c,G,B⟩:=F;cases G;exact⟨_,_,_,rfl,B⟩
  .refine grow _ cap rfl ?_ Ω;have al:n*k<=cs.length:=by grind
   refine run_firstCells_some w.drew i.size n _ n cap xs (by grind) λj u hu=>?_;rw[U8,V0];have R:=(x6.1 hu).1;rw[<-ak,V1 Ω]at hu;exact s.cell hu
def kV(c:Cell):List x4:=[Δ c.v,.int .u64 (c.st:Int)]
def sR(o:mI):List x4:=[Δ (o.i:Int),Δ o.c.v,.int .u64 (o.c.st:Int)]
def q9(m:uo):List x4:=[Δ (m.olds:Int),Δ (m.cells:Int),.int .u64 (m.st:Int)]
def dK(w:x5)(ag:Nat)(A:ak)(t:aD):Prop:=A ag/\∃e go dB bf a eE,aj w ag gW [bf,a,eE,.int .u64 (t.kP:Int)]/\bo kV 2 ff w e bf t.cells/\bo sR 3 nH w go a t.olds/\bo q9 3 iu w dB eE t.marks/\
 ∀r,hx bf r\/hx a r\/hx eE r->A r
theorem dK.ab{S A:ak}{t:aD}(h:dK w ag A t)(a:ai S w I)(f:∀r,A r->¬S r):dK I ag A t:=by
 obtain⟨e,j,go,dB,bf,q,eE,h1,s,x,y,z⟩:=h;exact⟨e,j,go,dB,bf,q,eE,h1.ab a (f _ e),s.ab a (by grind),x.ab a (by grind),y.ab a (by grind),z⟩
theorem dK.W{A:ak}{t:aD}(h:dK w ag A t)(J:Ext w I):dK I ag A t:=h.ab (J.ab λ_=>False) λ_ _ h=>h
theorem dK.Y{A B:ak}{t:aD}(h:dK w ag A t)(a:∀r,A r->B r):dK w ag B t:=by
 obtain⟨e,f,go,dB,bf,j,eE,h1,q,s,x,y⟩:=h;exact⟨a _ e,f,go,dB,bf,j,eE,h1,q,s,x,λr z=>a r (y r z)⟩
def Grow(A:ak)(w:x5)(aS:ak)(I:x5):Prop:=ai A w I/\(∀r,aS r->A r\/w.heap.size<=r)/\∀r,A r->aS r
theorem Grow.refl(A:ak)(w:x5):Grow A w A w:=⟨ai.refl _ _,λ_ h=>.inl h,λ_ h=>h⟩
theorem Grow.W{A:ak}(h:Ext w I):Grow A w A I:=⟨h.ab _,by grind,λ_ h=>h⟩
theorem Grow.F{A aS e:ak}{f:x5}(h:Grow A w aS I)(k:Grow aS I e f):Grow A w e f:=
 ⟨⟨X3 h.1.size k.1.size,λr o a V j=>k.1.a7 r o (h.1.a7 r o a V j) V λq=>(h.2.1 r q).elim j λs=>by
  grind⟩,λr a=>by
  rcases k.2.1 r a with h1|h1
  .exact h.2.1 r h1
  .have:=h.1.size;omega,λr a=>k.2.2 r (h.2.2 r a)⟩
theorem EE{A:ak}{t:aD}(h:dK w ag A t):aq x8 Kc [Γ ag] w λv I=>v=Δ (t.cells.length:Int)/\Ext w I:=by
 obtain⟨e,f,go,dB,bf,j,eE,h1,a,q,r,s⟩:=h;refine aE func155 ?_;rw[dl rS.u];simp only[b8,bc];rw[aP gW.p 0 h1 rfl,ek jR.u a];exact⟨rfl,Ext.refl _⟩
theorem EF{A:ak}{t:aD}{i:Int}(h:dK w ag A t):aq x8 Jv [Γ ag,Δ i] w λv I=>v= .bool (decide (0<=i/\i<t.cells.length))/\Ext w I:=by
 refine aE func86 ?_;refine a6 (λv U=>v= .bool (decide (0<=i/\i<t.cells.length))/\Ext w U) (λ_ _ h=>h) ?_;intro aA a;rw[cT,ao];refine⟨λe=>?_,λe=>a _ _ ⟨by rw[rc];omega,Ext.refl _⟩⟩;refine(EE h).Y ?_;rintro _ U _ ⟨rfl,J⟩;rw[aW];refine a _ _ ⟨?_,J⟩;congr 1;rw[V9,ro,ro];exact⟨λh=>⟨Ω,h⟩,λh=>h.2⟩
theorem QB{A:ak}{t:aD}{i:Nat}{c:Cell}(h:dK w ag A t)(f:y=(i:Int))(a:t.cells[i]?=σ c):aq x8 A5 [Γ ag,Δ y] w λv I=>v=Δ c.v/\Ext w I:=by
 have j:=(x6.1 a).1;refine aE func38 ?_;refine(EF h).Y ?_;rintro _ U _ ⟨rfl,J⟩;rw[ms Ω,bN,Y5,bc];obtain⟨q,r,go,dB,bf,s,eE,h1,e,x,z,B⟩:=h.W J;rw[aP gW.p 0 h1 rfl,cu f jR.u ff.i e j,a1 ff.p rfl,aG Ψ (e.range a 0 _ rfl)];exact⟨rfl,J⟩
theorem pX{A:ak}{t:aD}{i:Nat}{x:Int}(h:dK w ag A t)(e:y=(i:Int))(a:t.cg[i]?=σ x):aq x8 A5 [Γ ag,Δ y] w λv I=>v=Δ x/\Ext w I:=by
 unfold aD.cg at a;rw[u4]at a;obtain⟨c,f,rfl⟩:=Y0.1 a;exact QB h e f
def oL(t:aD):Prop:=t.cells.length<=100000000/\t.olds.length<=100000000/\t.marks.length<=100000000
theorem vk{s go dB:Nat}{bf a eE:x4}{t:aD}{x:x4}(h1:aj w ag gW [bf,a,eE,x])(f:bo kV 2 ff w s bf t.cells)(h:bo sR 3 nH w go a t.olds)(j:bo q9 3 iu w dB eE t.marks):
  (¬hx bf ag/\¬hx a ag/\¬hx eE ag)/\(∀r,hx bf r->¬hx a r/\¬hx eE r)/\∀r,hx a r->¬hx bf r/\¬hx eE r:=by
 refine⟨⟨cP f h1 Φ,cP h h1 Φ,cP j h1 Φ⟩,λr q=>?_,λr q=>?_⟩
 .obtain⟨rfl,c,e⟩:=dY f q;exact⟨cP h e Φ,cP j e Φ⟩
 .obtain⟨rfl,c,e⟩:=dY h q;exact⟨cP f e Φ,cP j e Φ⟩
theorem vl{A:ak}{t:aD}{i:Nat}{x:Int}(h:dK w ag A t)(bk:y=(i:Int))(N:i<t.cells.length)(ap:oL t):aq x8 Bf [Γ ag,Δ y,Δ x] w λv I=>v=Δ 0/\∃aS,Grow A w aS I/\dK I ag aS (t.set i x):=by
 subst bk;obtain⟨c,C⟩:=aI (l:=t.cells) N;refine aE func126 ?_;rw[dl rS.u];simp only[b8,bc];refine(EF h).Y ?_;rintro _ U _ ⟨rfl,J⟩;rw[ms Ω,bN,Y5,bc];obtain⟨aT,O,go,dB,bf,P,eE,h1,aU,au,X,Y⟩:=id (h.W J);have bl:∀{aa:x5}{aS:ak}{bx:aD}{st:Nat}{K:x5->Prop},dK aa ag aS bx->bx.cells[i]?=σ ⟨c.v,st⟩->
   (∀q,ai aS aa q->dK q ag aS {bx with cells:=bx.cells.set i ⟨x,st⟩}->K q)->
   (ad x8 (b1 (Γ ag)) aa λt77=>
   ad x8 (u6 gW t77 0) aa λbm=>
   ad x8 (u5 jR bm) aa λbn=>
   ad x8 (n9 jR bn (Δ (i:Int))) aa λbo=>
   ad x8 (u6 ff bo 0) aa λbp=>
   aM x8 (o7 ay bp (Δ x)) aa λ(_:Unit)q=>
   K q):=by
  intro aa aS bx st K aw Z bq;obtain⟨ax,O,go,dB,bf,P,eE,E,G,Q,R,S⟩:=aw;have br:=(x6.1 Z).1;rw[aP gW.p 0 E rfl,cu rfl jR.u ff.i G br,a1 ff.p rfl];obtain⟨⟨V,az,aB⟩,H,_⟩:=vk E G Q R;refine lk (f:=kV) (j:=0) (a:=⟨c.v,st⟩) (a':=⟨x,st⟩) ay.i rfl rfl G Z rfl Ω λq B bs bt=>?_;exact bq q (B.Y λr _ e=>S r (.inl e)) ⟨ax,O,go,dB,bf,P,eE,E.ab B V,bt,Q.ab B λr e he=>(H r he).1 e,R.ab B λr e he=>(H r he).2 e,S⟩
 refine dh (λaa=>∃aS bx st,Grow A U aS aa/\dK aa ag aS bx/\bx.cells[i]?=σ ⟨c.v,st⟩/\t.set i x={bx with cells:=bx.cells.set i ⟨x,st⟩}) ?_ ?_
 .rintro aa ⟨aS,bx,st,bu,aw,Z,aC⟩;refine bl aw Z λq B au=>⟨by trivial,aS,?_,by rw[aC];exact au⟩;exact(Grow.W J).F (bu.F ⟨B,λ_ h=>.inl h,λ_ h=>h⟩)
 intro aA aF;rw[aP gW.p 2 h1 rfl,ek uc.u X,bU,ao];have aV:∀(hm:t.marks.getLast? =ν\/∃m,t.marks.getLast? =σ m/\¬(c.st<m.st/\i<m.cells)),t.set i x={t with cells:=t.cells.set i ⟨x,c.st⟩}:=λhm=>by
  unfold aD.set;rw[C];rcases hm with hm|⟨m,hm,bz⟩
  .simp only[hm]
  .simp only[hm];rw[m5 bz]
 refine⟨λbX=>?_,λbY=>aF _ ⟨A,t,c.st,Grow.refl _ _,h.W J,C,aV (.inl ?_)⟩⟩
 rotate_left
 .rw[List.getLast?_eq_none_iff];exact j6 Ω
 obtain⟨m,hm⟩:=aI (l:=t.marks) (i:=t.marks.length-1) Ω;have aX:t.marks.getLast? =σ m:=by rw[List.getLast?_eq_getElem?];exact hm
 have bZ:=ap.2.2;rw[aP gW.p 2 h1 rfl,dr,lm Ω Ω,cu (i:=t.marks.length-1) Ω uc.u iu.i X Ω,bH iu.p iu.i rfl (X.range hm)];refine bE iu.i λav aa b0 aY bA=>?_;refine b3 (vs:=q9 m) iu.i rfl rfl (by intro v ac;simp[q9]at ac;rcases ac with rfl|rfl|rfl<;>rfl) bA λq B bs bB=>?_;have aZ:=aY.put B Ω;have ae:∀{I:x5},Ext q I->aj I av iu (q9 m):=λJ=>bB.W J;refine a6 (λv aH=>v= .bool (decide (c.st<m.st/\i<m.cells))/\Ext q aH) ?_ ?_
 rotate_left
 .intro b2 a2;intro aH s _ _;have L:=aZ.F s;have a7:=ae s;have M:=aU.W L;rw[aP gW.p 0 (h1.W L) rfl,cu rfl jR.u ff.i M N,a1 ff.p rfl,aG Ψ (M.range C 1 _ rfl),aN iu.p 2 a7 rfl,aW,ao];refine⟨λa8=>?_,λba=>a2 _ _ ⟨by rw[rc];omega,s⟩⟩;rw[aN iu.p 1 a7 rfl,aW];refine a2 _ _ ⟨?_,s⟩;congr 1;rw[V9,ro,ro];exact⟨λh=>⟨Ω,Ω⟩,λh=>Ω⟩
 rintro _ aH ⟨rfl,s⟩;have L:=aZ.F s;rw[ao];refine⟨λa8=>?_,λba=>aF _ ⟨A,t,c.st,Grow.W L,(h.W J).W L,C,aV (.inr ⟨m,aX,ba⟩)⟩⟩;intro b4 af _ _;have W:=L.F af;have aJ:=h1.W W;have M:=aU.W W;have bC:=au.W W;have bD:=X.W W;rw[cc,a1 gW.p rfl,aG Ψ (aJ.cell rfl),cc,a1 gW.p rfl,aG Ψ (aJ.cell rfl),cu rfl jR.u ff.i M N,bH ff.p ff.i rfl (M.range C)];rw[ds (cs:=#[Δ (i:Int),Δ c.v,.int .u64 (c.st:Int)]) Ψ];let a:mI:=⟨i,c⟩;have bF:∀u∈sR a,u.oneCell'=s2:=by intro v ac;simp[sR]at ac;rcases ac with rfl|rfl|rfl<;>rfl
 refine jc (f:=sR) (a:=a) pu.u nH.i Ω rfl rfl λb5 b6 bb b7 z bG=>?_;refine⟨.inl z,?_⟩;have bd:=W.F z;have aK:=aJ.W z;have be:=M.W z;have aL:=bC.W z;have bg:=bD.W z;obtain⟨⟨V,az,aB⟩,H,bI⟩:=vk aK be aL bg;refine jB pu.u nH.i rfl aL (by simpa using bG.sl) bF (by have:=ap.2.1;omega) (by have:=ap.2.1;omega) λbJ bK b9 ah bL bh=>?_;rw[cc,a1 gW.p rfl];have bi:=aK.ab bh az;refine bw pu.i (eJ ah.sl).1 (eJ ah.sl).2 bi Ξ λal bj ca aO=>?_;have aO:=aO;have am:ai (λr=>hx P r\/r=ag) bb al:=(bh.Y λr _ h=>.inl h).F (bj.Y λr _ h=>.inr h);have bM:=be.ab am λr e he=>he.elim (λhe=>(H r e).1 he) λhe=>V (he▸e);have bO:=bg.ab am λr e he=>he.elim (λhe=>(bI r he).2 e) λhe=>aB (he▸e);have bP:=ah.ab bj λr e he=>by
  have he:r=ag:=he;subst he;exact cP ah bi Φ e
 have cb:=bd.size;have cd:=aY.size;let aQ:ak:=λr=>A r\/bb.heap.size<=r;have bQ:Grow A U aQ al:=⟨(bd.ab A).F (am.Y λr _ he=>he.elim (λhe=>Y r (.inr (.inl he))) λhe=>he▸aT),λr e=>e.imp id λe=>Ω,λr e=>.inl e⟩;have bR:dK al ag aQ {t with olds:=t.olds++[a]}:=⟨.inl aT,O,bK,dB,bf,bJ,eE,aO,bM,bP,bO,λr e=>by
  rcases e with e|e|e
  .exact .inl (Y r (.inl e))
  .rcases bL r e with h|h
   .exact .inl (Y r (.inr (.inl h)))
   .exact .inr h
  .exact .inl (Y r (.inr (.inr e)))⟩
 have bS:aj al av iu (q9 m):=(ae ((s.F af).F z)).ab am λhe=>by
  rcases he with he|he
  .obtain⟨rfl,ce,bT⟩:=dY aL he;exact m6 (fI bT (ae ((s.F af).F z))) Φ
  .subst he;exact m6 (fI aK (ae ((s.F af).F z))) Φ
 intro cf aR _ _;have bV:=bR.W aR;obtain⟨ax,O,go,dB,bf,P,eE,E,G,Q,R,S⟩:=bV;rw[aP gW.p 0 E rfl,aN iu.p 2 (bS.W aR) rfl,cu rfl jR.u ff.i G N,a1 ff.p rfl];obtain⟨⟨V,az,aB⟩,H,_⟩:=vk E G Q R;refine lk (a':=⟨c.v,m.st⟩) gi.i rfl rfl G C rfl Ω λcg an ch bW=>?_;have aC:t.set i x={t with olds:=t.olds++[a],cells:=t.cells.set i ⟨x,m.st⟩}:=by
  unfold aD.set;rw[C];simp only[aX];rw[m3 a8]
 refine aF _ ⟨aQ,{t with olds:=t.olds++[a],cells:=t.cells.set i ⟨c.v,m.st⟩},m.st,bQ.F ((Grow.W aR).F ⟨an.Y λr _ e=>S r (.inl e),λ_ h=>.inl h,λ_ h=>h⟩),⟨ax,O,go,dB,bf,P,eE,E.ab an V,bW,Q.ab an λr e he=>(H r he).1 e,R.ab an λr e he=>(H r he).2 e,S⟩,?_,?_⟩
 .show (t.cells.set i _)[i]?=_;rw[Z6 N]
 .rw[aC];simp only[List.set_set]
theorem EG(n:Nat):eg (#[Δ 0,.int .u64 0]:Array x4) (n*2)=(o5 n (⟨0,0⟩:Cell)).flatMap kV:=by
 have:∀n,eg (#[Δ 0,.int .u64 0]:Array x4) (n*2)=(o5 n (⟨0,0⟩:Cell)).flatMap kV:=by
  intro n;apply Y3;intro j;have r:((o5 n (⟨0,0⟩:Cell)).flatMap kV).length=n*2:=by simp[kV]
  by_cases e:j<n*2
  .have q:(eg (#[Δ 0,.int .u64 0]:Array x4) (n*2))[j]?=σ (if j % 2=0 then Δ 0 else .int .u64 0):=by
    unfold eg;rw[Array.getElem?_toList,Array.getElem?_map,Array.getElem?_range,m3 e];rcases Nat.mod_two_eq_zero_or_one j with h|h<;>simp[h]
   have ah:=q2 (f:=kV) (k:=2) (L:=o5 n (⟨0,0⟩:Cell)) (i:=j / 2) (j:=j % 2) (a:=⟨0,0⟩) (v:=if j % 2=0 then Δ 0 else .int .u64 0) (λa _=>rfl) (by rw[List.getElem?_replicate,m3 Ω]) (by rcases Nat.mod_two_eq_zero_or_one j with h|h<;>simp[h,kV]);rw[show j / 2*2+j % 2=j by omega]at ah;rw[q,ah]
  .rw[W8 (by rw[qI];omega),W8 Ω]
 exact this n
theorem QC{A:ak}{t:aD}(h:dK w ag A t)(Q:oL t)(ac:n<=100000000):aq x8 KJ [Γ ag,Δ (n:Int)] w λv I=>v=Δ (t.cells.length:Int)/\∃aS,Grow A w aS I/\dK I ag aS (t.grow n):=by
 refine aE func201 ?_;refine(EE h).Y ?_;rintro _ U _ ⟨rfl,J⟩;refine dh (λaa=>∃aS,Grow A w aS aa/\dK aa ag aS (t.grow n)) (λaa h=>⟨rfl,h⟩) ?_;intro aA x;refine a6 (λv aa=>v= .bool (decide (0<n))/\U=aa) ?_ ?_
 rotate_left
 .intro ad R;rw[xe rS.u];simp only[b8,X6,bS];rw[bU];refine R _ _ ⟨?_,rfl⟩;congr 1;rw[V9,ro,ro];omega
 rintro _ _ ⟨rfl,rfl⟩;rw[ao];refine⟨λy=>?_,λy=>x _ ⟨A,Grow.W J,?_⟩⟩
 rotate_left
 .have:n=0:=Ω
  subst this;have e:t.grow 0=t:=by unfold aD.grow;simp
  rw[e];exact h.W J
 obtain⟨B,ae,go,dB,bf,S,eE,h1,C,E,G,f⟩:=id (h.W J);rw[aP gW.p 0 h1 rfl];obtain⟨⟨V,W,X⟩,H,af⟩:=vk h1 C E G;have ah:=Q.1;refine QA (k:=2) rfl jR.u al.u ff.i rfl Ω (λu hu=>?_) C.1 y Ω Ω λK L aa M Y N=>?_
 .exact En Φ Φ u hu
 rw[cc,a1 gW.p rfl];have j:bo kV 2 ff aa L K (t.cells++o5 n ⟨0,0⟩):=by
  refine⟨?_,λ_ _=>rfl⟩;have e:(x4.agg #[Δ 0,.int .u64 0]).cells= #[Δ 0,.int .u64 0]:=rfl;rw[e,EG]at M;rw[c9,List.length_replicate,List.flatMap_append];exact M
 have O:=h1.ab N V;refine bw jR.i (eJ j.sl).1 (eJ j.sl).2 O Ξ λZ P aj q=>?_;have q:=q;have s:ai (λr=>hx bf r\/r=ag) U Z:=(N.Y λr _ h=>.inl h).F (P.Y λr _ h=>.inr h);have z:=J.size;refine x _ ⟨λr=>A r\/U.heap.size<=r,(Grow.W J).F ⟨s.Y λr _ he=>he.elim (λhe=>f r (.inl he)) λhe=>he▸B,λr a=>a,λr a=>.inl a⟩,.inl B,L,go,dB,K,S,eE,q,j.ab P λr a he=>?_,E.ab s λr a he=>he.elim (λhe=>(H r he).1 a) λhe=>W (he▸a),G.ab s λr a he=>he.elim (λhe=>(H r he).2 a) λhe=>X (he▸a),λr a=>?_⟩
 .have he:r=ag:=he;subst he;exact cP j O Φ a
 .rcases a with a|a|a
  .exact (Y r a).imp (λh=>f r (.inl h)) id
  .exact .inl (f r (.inr (.inl a)))
  .exact .inl (f r (.inr (.inr a)))
theorem QD(x:n<=1000):aq x8 JO [Δ (n:Int)] w λv I=>Ext w I/\∃ag,v=Γ ag/\dK I ag (e7 w.heap.size) ⟨o5 n ⟨0,0⟩,[],[],0⟩:=by
 refine aE func125 ?_;rw[rY,Int.max_eq_left Ω];refine BM jR.u ff.i Ω Ω λg U y h f=>?_;rw[ds (cs:=#[.slice (σ ⟨g,0,ν⟩) n n,.slice ν 0 0,.slice ν 0 0,.int .u64 0]) Ψ];refine bn λag aa z j s=>?_;have A:=h.size;have e:(x4.agg #[Δ 0,.int .u64 0]).cells= #[Δ 0,.int .u64 0]:=rfl;have f:aj U g ff ((o5 n (⟨0,0⟩:Cell)).flatMap kV):=by rw[<-EG,<-e];exact f
 have q:bo kV 2 ff U g (.slice (σ ⟨g,0,ν⟩) n n) (o5 n ⟨0,0⟩):=by
  refine⟨?_,λ_ _=>rfl⟩;rw[List.length_replicate];exact cf.full f (by simp[kV]) (by simp[maxLen];omega)
 refine⟨h.F j,ag,rfl,by show w.heap.size<=ag;omega,g,0,0,_,_,_,s,q.W j,bo.nil _ _ _ _ _,bo.nil _ _ _ _ _,λr a=>?_⟩;rcases a with a|a|a
 .have:=(q.lc a).1;show w.heap.size<=r;omega
 .exact (gp a).elim
 .exact (gp a).elim
theorem pC{α β:Type}{f:α->List β}:∀{L:List α}{i j:Nat}{a:α},L[i]?=σ a->j<(f a).length->(L.flatMap f)[((L.take i).flatMap f).length+j]?=(f a)[j]?
 |x::L,0,j,a,h,e=>by
  grind
 |x::L,i+1,j,a,h,e=>by
  have h:L[i]?=σ a:=by grind
  rw[List.take_succ_cons,T0,T0,c9,Nat.add_assoc,X2 Ω,Nat.add_sub_cancel_left,pC h e]
theorem yv{α β:Type}{f:α->List β}:∀{L:List α}{i j:Nat}{a b:α}{x:β},L[i]?=σ a->j<(f a).length->f b=(f a).set j x->(L.flatMap f).set (((L.take i).flatMap f).length+j) x=(L.set i b).flatMap f
 |y::L,0,j,a,b,x,h,e,q=>by
  grind
 |y::L,i+1,j,a,b,x,h,e,q=>by
  have h:L[i]?=σ a:=by grind
  rw[List.take_succ_cons,T0,T0,c9,Nat.add_assoc,U7 _ _ Ω,Nat.add_sub_cancel_left,yv h e q,List.set_cons_succ,T0]
theorem EH{α β:Type}{f:α->List β}{L:List α}{i:Nat}{a:α}(h:L[i]?=σ a)(e:j<(f a).length):((L.take i).flatMap f).length+j<(L.flatMap f).length:=by
 have h1:=pC (f:=f) h e
 grind
structure bp where
 gone:Int
 mask:Int
 un:Λ
structure bL where
 sc:Λ
 an:Λ
 live:Int
 cs:Λ
structure vm where
 v:Int
 sc:Λ
 lu:Λ
structure am where
 zero:Int
 d9:List bp
 ho:List bL
 dC:List vm
def jC(x:bp):Λ:=x.gone::x.mask::x.un
def ji(x:bL):Λ:=x.live::x.cs
def l5(s:am):Λ:=[s.zero,(s.ho.length:Int),(s.dC.length:Int)]
def am.cells(s:am):Λ:=l5 s++(s.d9.flatMap jC++s.ho.flatMap ji)
def iM(s:am)(i:Nat):Nat:=3+((s.d9.take i).flatMap jC).length
def fJ(s:am)(j:Nat):Nat:=3+((s.d9.flatMap jC).length+((s.ho.take j).flatMap ji).length)
theorem QE(s:am):s.cells[0]?=σ s.zero:=rfl
theorem sS{s:am}{i:Nat}{x:bp}(h:s.d9[i]?=σ x)(a:j<x.un.length+2):s.cells[iM s i+j]?=(jC x)[j]?:=by
 have e:j<(jC x).length:=a;unfold am.cells iM
 grind [l5,EH,pC]
theorem yw{s:am}{i:Nat}{x:bL}(h:s.ho[i]?=σ x)(a:j<x.cs.length+1):s.cells[fJ s i+j]?=(ji x)[j]?:=by
 have e:j<(ji x).length:=a;unfold am.cells fJ;rw[Nat.add_assoc,Nat.add_assoc,X2 (by simp[l5]),show(l5 s).length=3 from rfl,Nat.add_sub_cancel_left,X2 Ω,Nat.add_sub_cancel_left,pC h e]
theorem QF(s:am)(c:Int):s.cells.set 0 c=({s with zero:=c}:am).cells:=rfl
theorem EI{s:am}{i:Nat}{x y:bp}{c:Int}(h:s.d9[i]?=σ x)(a:j<x.un.length+2)(e:jC y=(jC x).set j c):s.cells.set (iM s i+j) c=({s with d9:=s.d9.set i y}:am).cells:=by
 have f:j<(jC x).length:=a;unfold am.cells iM
 grind [l5,EH,yv]
theorem QG{s:am}{i:Nat}{x y:bL}{c:Int}(h:s.ho[i]?=σ x)(a:j<x.cs.length+1)(e:ji y=(ji x).set j c):s.cells.set (fJ s i+j) c=({s with ho:=s.ho.set i y}:am).cells:=by
 have f:j<(ji x).length:=a;unfold am.cells fJ;rw[Nat.add_assoc,Nat.add_assoc,U7 _ _ (by simp[l5]),show(l5 s).length=3 from rfl,Nat.add_sub_cancel_left,U7 _ _ Ω,Nat.add_sub_cancel_left,yv h f e]
 grind [l5]
theorem QH{s:am}(x:bL):(s.cells++ji x).set 1 ((s.ho.length+1:Nat):Int)=({s with ho:=s.ho++[x]}:am).cells:=by
 grind [am.cells,l5]
theorem yx(s:am):s.cells.length=3+((s.d9.flatMap jC).length+(s.ho.flatMap ji).length):=by
 unfold am.cells;rw[c9,c9];rfl
def kw(a sc:Λ):Λ:=sc.map λv=>a.getD v.toNat 0
def mZ(k:Int)(a:Int)(p:bp×Int):Int:=if p.1.gone≠0 then a else min (a+p.1.un.getD p.2.toNat 0) k
def l6(k:Int)(a:Λ)(e:Int)(f:bL):Int:=if f.live≠0 then min (e+bu f.an f.cs (kw a f.sc)) k else e
def dropped(mask:Int)(v:Int):Bool:=mask.toNat.testBit v.toNat
def gu(p:bp×Int):Bool:=decide (p.1.gone≠0)|| !dropped p.1.mask p.2
def eK(k:Int)(s:am)(a:Λ):Int:=if(s.d9.zip a).all gu then s.ho.foldl (l6 k a) ((s.d9.zip a).foldl (mZ k) s.zero)else k
def ig(s:am)(a:Λ):Prop:=a.length=s.d9.length/\∀(i:Nat)x v,s.d9[i]?=σ x->a[i]?=σ v->x.gone≠0\/(0<=v/\v<x.un.length)
structure bd(k:Int)(d6:Λ)(s:am):Prop where
 ep:1<=k/\k<=2147483648
 eZ:1<=d6.length/\d6.length<=64/\∀z∈d6,1<=z/\z<=32
 zero:0<=s.zero/\s.zero<=k
 d9:s.d9.length=d6.length
 var:∀(i:Nat)x z,s.d9[i]?=σ x->d6[i]?=σ z->x.un.length=z.toNat/\(∀c∈x.un,0<=c/\c<=k)/\0<=x.mask/\x.mask<4294967296
 ho:∀f∈s.ho,gq d6 k (f.sc,f.cs)/\f.an=b5 d6 f.sc/\2<=f.sc.length
def newVar(u:Λ):bp:=⟨0,0,u⟩
def m4(d6:Λ)(g:c5):bL:=⟨g.1,b5 d6 g.1,1,g.2⟩
def dp(n:aJ):am:=⟨n.zero,n.unary.map newVar,n.ho.map (m4 n.d6),[]⟩
theorem QI{n:aJ}(h:kU n):bd n.k n.d6 (dp n):=by
 refine⟨h.k,h.d6,h.zero,by simp[dp,h.l4],λi x z J e=>?_,λf ah=>?_⟩
 .have J:(n.unary.map newVar)[i]?=σ x:=J;rw[u4]at J;obtain⟨u,hu,rfl⟩:=Y0.1 J;obtain⟨h1,a⟩:=h.unary i z u e hu;exact⟨h1,a,S5 _,by show(0:Int)<_;omega⟩
 .obtain⟨g,j,rfl⟩:=l9.1 ah;obtain⟨h1,a⟩:=h.ho g j;exact⟨h1,rfl,a⟩
theorem yy{n:aJ}(h:gP w a n):aq x8 Jz [Γ a] w λv I=>v=Δ (n.d6.length:Int)/\Ext w I:=by
 obtain⟨j,q,r,s,gr,bb,L,nm,hv,gz,fv2,h1,e,f,x,y,z,A⟩:=h;refine aE func93 ?_;rw[dl ou.u];simp only[b8,bc];rw[aP gE.p 0 h1 rfl,aP cN.p 2 e rfl,a8 au.u f.ls];exact⟨rfl,Ext.refl _⟩
theorem QJ{n:aJ}(h:gP w a n):aq x8 KX [Γ a] w λv I=>v=Δ n.k/\Ext w I:=by
 obtain⟨f,j,q,r,gr,bb,L,nm,hv,gz,fv2,h1,e,s,x,y,z,A⟩:=h;refine aE func218 ?_;rw[dl ou.u];simp only[b8,bc];rw[aP gE.p 0 h1 rfl,aP cN.p 1 e rfl];exact⟨rfl,Ext.refl _⟩
theorem QK{n:aJ}(h:gP w a n):aq x8 JP [Γ a] w λv I=>v=Δ n.zero/\Ext w I:=by
 obtain⟨e,f,j,q,gr,bb,L,nm,hv,gz,fv2,h1,r,s,x,y,z,A⟩:=h;refine aE func127 ?_;rw[dl ou.u];simp only[b8,bc];rw[aP gE.p 1 h1 rfl];exact⟨rfl,Ext.refl _⟩
theorem EJ{n:aJ}(h:gP w a n):aq x8 Bh [Γ a] w λv I=>v=Δ (n.ho.length:Int)/\Ext w I:=by
 obtain⟨j,q,r,s,gr,bb,L,nm,hv,gz,fv2,h1,x,y,z,A,e,f⟩:=h;refine aE func130 ?_;rw[dl ou.u];simp only[b8,bc];rw[aP gE.p 3 h1 rfl,ek mz.u e.1];exact⟨by rw[<-f,r9],Ext.refl _⟩
theorem EK{s:Nat}{n:aJ}{i:Int}(h:gP w s n)(f:kU n):aq x8 JQ [Γ s,Δ i] w λv I=>Ext w I/\(¬(0<=i/\i<n.d6.length)->v= .slice ν 0 0)/\
  ∀u,0<=i->n.unary[i.toNat]?=σ u->∃g,w.heap.size<=g/\aH .i64 ay I g v u:=by
 refine aE func128 ?_;have K:=f.l4;refine a6 (λv U=>v= .bool (decide (¬(0<=i/\i<n.d6.length)))/\Ext w U) ?_ ?_
 .rintro _ U ⟨rfl,e⟩;rw[ao];refine⟨λC=>⟨e,λ_=>rfl,λu E hu=>?_⟩,λj=>?_⟩
  .have:=(x6.1 hu).1;exact m6 ⟨E,Ω⟩ C
  have j:=X1.1 j;obtain⟨M,N,O,P,gr,bb,L,nm,hv,gz,fv2,h1,Q,R,q,x,S,V⟩:=h.W e;have W:bb.length=n.unary.length:=by rw[<-x,r9]
  obtain⟨a,r⟩:=aI (l:=bb) (i:=i.toNat) Ω;obtain⟨X,hm⟩:=q.2 a (x7 r);rw[aP gE.p 2 h1 rfl,cu (i:=i.toNat) Ω c0.u aB.i q.1 Ω,aG (o:=i.toNat*1) Ψ (q.1.range r 0 _ rfl)];have y:n.unary[i.toNat]?=σ a.l:=by rw[<-x,u4,r];rfl
  have Y:a.l.length<=32:=by
   obtain⟨z,A⟩:=aI (l:=n.d6) (i:=i.toNat) Ω;have Z:=(f.unary i.toNat z a.l A y).1;have ab:=f.d6.2.2 z (x7 A);omega
  refine(xk hm.ls Ω).Y ?_;rintro v aa _ ⟨G,g,ac,H⟩;refine⟨e.F G,λJ=>m6 j J,λu _ hu=>⟨g,by have:=e.size;omega,?_⟩⟩;rw[y]at hu;cases hu;exact H
 .intro aA B;rw[aW,ao];refine⟨λad=>B _ _ ⟨by rw[ms];omega,Ext.refl _⟩,λae=>?_⟩;refine(yy h).Y ?_;rintro _ U _ ⟨rfl,e⟩;rw[cT];refine B _ _ ⟨?_,e⟩;congr 1;rw[V9,ro,ro];omega
theorem EL{n:aJ}{i:Int}(h:gP w j n)(a:kU n):aq x8 Je [Γ j,Δ i] w λv I=>Ext w I/\v=Δ (if 0<=i then n.d6.getD i.toNat 0 else 0):=by
 refine aE func66 ?_;refine(EK h a).Y ?_;rintro v U _ ⟨q,s,x⟩;by_cases e:0<=i/\i<n.d6.length
 .have y:=a.l4;obtain⟨u,hu⟩:=aI (l:=n.unary) (i:=i.toNat) Ω;obtain⟨z,f⟩:=aI (l:=n.d6) (i:=i.toNat) Ω;obtain⟨g,_,hm⟩:=x u e.1 hu;rw[a8 aB.u hm.ls];refine⟨q,?_⟩;have A:=(a.unary i.toNat z u f hu).1;have B:=a.d6.2.2 z (x7 f);rw[m3 e.1,r8,f];congr 1;simp only[Option.getD_some];omega
 .rw[s e,jr aB.u];refine⟨q,?_⟩;by_cases r:0<=i
  .rw[m3 r,r8,W8 Ω];rfl
  .rw[m5 r];rfl
theorem EM{n:aJ}{j:Int}(h:gP w a n){K:x4->x5->Prop}(f:∀I,Ext w I->K (.bool (decide (¬(0<=j/\j<n.ho.length)))) I):
  ad x8 (aT .lss al sp s2 (Δ j) (Δ 0)) w λr=>Split r (K (.bool s2) w) (aq x8 Bh [Γ a] w λs q=>ad x8 (aT .geq al sp sp (Δ j) s) q λx=>K x q):=by
 rw[aW,ao];refine⟨λz=>?_,λA=>?_⟩
 .have:=f w (Ext.refl _);rw[ms (show¬(0<=j/\j<n.ho.length) by omega)]at this;exact this
 .refine (EJ h).Y ?_;rintro _ U _ ⟨rfl,y⟩;rw[cT];have:=f U y;have e:decide ((n.ho.length:Int)<=j)=decide (¬(0<=j/\j<n.ho.length)):=by
   rw[V9,ro,ro];omega
  rw[<-e]at this;exact this
theorem QL{s:Nat}{n:aJ}{g:c5}(h:gP w s n)(z:kU n)(e:n.ho[j]?=σ g):aq x8 JS [Γ s,Δ (j:Int)] w λv I=>Ext w I/\∃gs,w.heap.size<=gs/\aH .i64 al I gs v g.1:=by
 refine aE func132 ?_;have E:=(x6.1 e).1;refine a6 (λv U=>v= .bool (decide (¬(0<=(j:Int)/\(j:Int)<n.ho.length)))/\Ext w U) ?_ λaA A=>EM h λI J=>A _ _ ⟨rfl,J⟩;rintro _ U ⟨rfl,f⟩;rw[rc Ω,bc];obtain⟨G,H,K,M,gr,bb,L,nm,hv,gz,fv2,h1,N,O,P,Q,q,x⟩:=h.W f;have R:L.length=n.ho.length:=by rw[<-x,r9]
 obtain⟨a,r⟩:=aI (l:=L) (i:=j) Ω;have y:en a=g:=by rw[<-x,u4,r]at e;exact Z5 e
 obtain⟨⟨S,hm⟩,_⟩:=q.2 a (x7 r);rw[aP gE.p 3 h1 rfl,cu rfl mz.u i7.i q.1 Ω,a1 i7.p rfl,aG Ψ (q.1.range r 0 _ rfl)];have V:a.sc.length<=6:=by
  have:=(z.ho g (x7 e)).1.scope.2;rw[<-y]at this;exact this
 refine(lf hm.ls Ω).Y ?_;rintro v aa _ ⟨B,gs,W,C⟩;refine⟨f.F B,gs,by have:=f.size;omega,?_⟩;rw[<-y];exact C
theorem QM{g:Nat}{cs:Λ}(h:du w g B sv an k cs):aq x8 KL [Γ g] w λv I=>Ext w I/\∃a e,v=Γ a/\w.heap.size<=a/\w.heap.size<=e/\du I a e sv an k cs:=by
 obtain⟨⟨bf,gs,C,hm,E⟩,⟨h1,J,ae⟩,V,x⟩:=h;refine aE func203 ?_;rw[dl fs.u];simp only[b8,bc];intro U f _ _;have r:=C.W f;have K:=prod_bound V;rw[cc,a1 db.p rfl,bH (cs:=[sv]) bO.p bO.i rfl (pE r (by
  intro j v ac
  match j,ac with
  |0,ac=>exact ac)),aP db.p 1 r rfl,aP db.p 2 r rfl]
 refine(xk (E.ls.W f) Ω).Y ?_;rintro y aa _ ⟨s,e,L,q⟩;refine⟨.inl s,?_⟩;rw[ds (cs:=#[sv,Δ k,y]) (by obtain⟨_,_,_,rfl⟩:=df hm.ls;obtain⟨_,_,_,rfl⟩:=df q.ls;kernel_rfl)];refine bn λa M N z G=>?_;have O:=f.size;have P:=s.size;have Q:=q;have A:=(f.F s).F z;refine⟨A,a,e,rfl,Ω,Ω,⟨y,gs,G,hm.W A,q.W z⟩,⟨?_,?_,ae⟩,V,x⟩
 .have:=sF q (by rw[x];omega);omega
 .intro H;obtain⟨R,S⟩:=cd hm H;omega
theorem QN{z:Nat}{n:aJ}{g:c5}(A:gP w0 z n)(B:Ext w0 w)(f:n.ho[j]?=σ g):aq x8 JT [Γ z,Δ (j:Int)] w λv I=>Ext w I/\∃gt q sv,v=Γ gt/\w.heap.size<=gt/\w.heap.size<=q/\du I gt q sv (b5 n.d6 g.1) n.k g.2/\∀r,lc sv r->∃c,aj w0 r al c:=by
 have h:=A.W B;refine aE func133 ?_;have V:=(x6.1 f).1;refine a6 (λv U=>v= .bool (decide (¬(0<=(j:Int)/\(j:Int)<n.ho.length)))/\Ext w U) ?_ λaA K=>EM h λI J=>K _ _ ⟨rfl,J⟩;rintro _ U ⟨rfl,s⟩;rw[rc Ω,bc];have e:=B.F s;obtain⟨W,X,Y,Z,gr,bb,L,nm,hv,gz,fv2,h1,ab,ad,ae,af,x,C⟩:=A;have ag:L.length=n.ho.length:=by rw[<-C,r9]
 obtain⟨a,y⟩:=aI (l:=L) (i:=j) Ω;have M:en a=g:=by rw[<-C,u4,y]at f;exact Z5 f
 obtain⟨_,q,N,E⟩:=x.2 a (x7 y);rw[aP gE.p 3 (h1.W e) rfl,cu rfl mz.u i7.i (x.1.W e) Ω,a1 i7.p rfl,aG Ψ ((x.1.W e).range y 1 _ rfl)];refine(QM (E.W e)).Y ?_;rintro v aa _ ⟨O,gt,P,rfl,ah,ai,Q⟩;have ak:=s.size;refine⟨s.F O,gt,P,N,rfl,Ω,Ω,?_,λr G=>?_⟩
 .rw[<-M];exact Q
 .obtain⟨⟨_,_,_,hm,_⟩,_⟩:=E;obtain⟨R,_⟩:=cd hm G;rcases hm.2 with⟨ac,_⟩|⟨_,cs,_,S,_⟩
  .obtain⟨_,_,_,H,am⟩:=G;rw[ac]at H;cases H
  .exact⟨cs,R▸S⟩
structure ra where
 aZ:x4
 hv:x4
 at_:Nat
def rb(x:ra):List x4:=[x.aZ,x.hv,Δ (x.at_:Int)]
structure re where
 v:Int
 aZ:x4
 bv:x4
def pY(x:re):List x4:=[Δ x.v,x.aZ,x.bv]
def j8(s:am):Λ:=(X0 s.d9.length).map λi=>(iM s i:Int)
def kx(R:ak)(w:x5)(v:x4)(l:Λ):Prop:=(∃g,aH .i64 al w g v l)/\∀r,lc v r->R r
theorem kx.ls{R:ak}(h:kx R w v l):aQ .i64 w v l:=by
 obtain⟨⟨g,h⟩,_⟩:=h;exact h.ls
theorem kx.ab{R S:ak}(h:kx R w v l)(f:ai S w I)(j:∀r,r<w.heap.size->R r->¬S r):kx R I v l:=by
 obtain⟨⟨g,h1⟩,a⟩:=h;exact⟨⟨g,bG h1 f λr e=>j r (by obtain⟨q,s⟩:=cd h1 e;omega) (a r e)⟩,a⟩
theorem kx.Y{R R':ak}(h:kx R w v l)(a:∀r,R r->R' r):kx R' w v l:=⟨h.1,λr e=>a r (h.2 r e)⟩
def m7(R:ak)(w:x5)(L:List ra)(s:am):Prop:=L.length=s.ho.length/\∀(j:Nat)x f,L[j]?=σ x->s.ho[j]?=σ f->kx R w x.aZ f.sc/\kx R w x.hv f.an/\x.at_=fJ s j
def n1(R:ak)(w:x5)(E:List re)(s:am):Prop:=E.length=s.dC.length/\∀(j:Nat)x e,E[j]?=σ x->s.dC[j]?=σ e->x.v=e.v/\kx R w x.aZ e.sc/\kx R w x.bv e.lu
theorem m7.ab{R S:ak}{L:List ra}{s:am}(h:m7 R w L s)(a:ai S w I)(e:∀r,r<w.heap.size->R r->¬S r):m7 R I L s:=⟨h.1,λj x f J ah=>by
 obtain⟨h1,q,y⟩:=h.2 j x f J ah;exact⟨h1.ab a e,q.ab a e,y⟩⟩
theorem n1.ab{R S:ak}{E:List re}{s:am}(h:n1 R w E s)(a:ai S w I)(e:∀r,r<w.heap.size->R r->¬S r):n1 R I E s:=⟨h.1,λj x f J ah=>by
 obtain⟨h1,q,y⟩:=h.2 j x f J ah;exact⟨h1,q.ab a e,y.ab a e⟩⟩
theorem m7.Y{R R':ak}{L:List ra}{s:am}(h:m7 R w L s)(a:∀r,R r->R' r):m7 R' w L s:=⟨h.1,λj x f J ah=>by
 obtain⟨h1,e,q⟩:=h.2 j x f J ah;exact⟨h1.Y a,e.Y a,q⟩⟩
theorem n1.Y{R R':ak}{E:List re}{s:am}(h:n1 R w E s)(a:∀r,R r->R' r):n1 R' w E s:=⟨h.1,λj x f J ah=>by
 obtain⟨h1,e,q⟩:=h.2 j x f J ah;exact⟨h1,e.Y a,q.Y a⟩⟩
theorem vn{a b c:x5}(h:Ext a b)(k:ai S b c)(f:∀r o,a.heap[r]?=σ o->gf o=s2->¬S r):Ext a c:=
 ⟨X3 h.size k.size,λr o e V=>k.a7 r o (h.a7 r o e V) V (f r o e V)⟩
theorem dK.cut{A:ak}{t:aD}(h:dK w ag A t):dK w ag (λr=>A r/\r<w.heap.size) t:=by
 obtain⟨x,y,go,dB,bf,z,eE,h1,e,f,j,B⟩:=h;refine⟨⟨x,h1.lt⟩,y,go,dB,bf,z,eE,h1,e,f,j,λr a=>⟨B r a,?_⟩⟩;rcases a with a|a|a
 .obtain⟨q,s⟩:=e.lc a;omega
 .obtain⟨q,s⟩:=f.lc a;omega
 .obtain⟨q,s⟩:=j.lc a;omega
def fb(w:x5)(af ag j:Nat)(e f h:x4)(A R:ak)(n:aJ)(s:am)(t:aD):Prop:=
 (A af/\(∀r,A r->¬R r)/\(∀r,R r->r<w.heap.size)/\∀r,A r->r<w.heap.size)/\∃bi q ge,∃(L:List ra)(E:List re)(a:ak)(w0:x5),
  aj w af cX [Γ j,Γ ag,e,f,h]/\(gP w0 j n/\Ext w0 w/\∀r o,w0.heap[r]?=σ o->gf o=s2->R r)/\
  (dK w ag a t/\(∀r,a r->A r)/\¬a af/\∀r,lc e r\/hx f r\/hx h r->A r/\¬a r)/\aH .i64 al w bi e (j8 s)/\
  (bo rb 3 gD w q f L/\m7 R w L s)/\bo pY 3 fe w ge h E/\n1 R w E s
theorem fb.ab{S:ak}{q x y:x4}{A R:ak}{n:aJ}{s:am}{t:aD}(h:fb w af ag j q x y A R n s t)(a:ai S w I)(f:∀r,r<w.heap.size->A r\/R r->¬S r):fb I af ag j q x y A R n s t:=by
 obtain⟨⟨h1,aj,al,an⟩,bi,B,ge,L,E,C,w0,F,⟨G,H,J⟩,⟨K,M,N,O⟩,P,⟨Q,T⟩,U,W⟩:=h;have z:=a.size;refine⟨by grind,bi,B,ge,L,E,C,w0,F.ab a (by grind),⟨G,vn H a λr o e aC V=>f r (by grind) (by grind) V,J⟩,
  ⟨?_,M,N,O⟩,bG P a λr e V=>f r ?_ (by grind) V,⟨Q.ab a λr e V=>f r ?_ (by grind) V,T.ab a (by grind)⟩,U.ab a λr e V=>f r ?_ (by grind) V,W.ab a (by grind)⟩
 .obtain⟨X,Y,go,dB,bf,Z,eE,aa,ac,ad,ae,ah⟩:=K;refine⟨X,Y,go,dB,bf,Z,eE,aa.ab a (by grind),ac.ab a λr e V=>?_,ad.ab a λr e V=>?_,ae.ab a λr e V=>?_,ah⟩
  all_goals grind
 all_goals grind
theorem fb.W{e f j:x4}{A R:ak}{n:aJ}{s:am}{t:aD}(h:fb w af ag a e f j A R n s t)(J:Ext w I):fb I af ag a e f j A R n s t:=h.ab (J.ab λ_=>False) λ_ _ _ h=>h
theorem fb.sT{x:Nat}{y C:x4}{A R:ak}{n:aJ}{s:am}{t:aD}(h:fb w af ag x y z C A R n s t):∃j,dK w ag j t/\∀f I bx,Grow j w f I->dK I ag f bx->∃aS,Grow A w aS I/\fb I af ag x y z C aS R n s bx:=by
 obtain⟨⟨h1,ae,F,G⟩,bi,M,ge,L,E,j,w0,N,⟨O,P,Q⟩,⟨S,H,T,ah⟩,U,⟨V,W⟩,X,Y⟩:=h;refine⟨j,S,λJ I bx q Z=>?_⟩;have K:=Z.cut;have e:Grow j w (λr=>J r/\r<I.heap.size) I:=⟨q.1,λr a=>q.2.1 r a.1,λr a=>⟨q.2.2 r a,by have:=G r (H r a);have:=q.1.size;omega⟩⟩;obtain⟨f,aa⟩:∃B:ak,B=λr=>J r/\r<I.heap.size:=⟨_,rfl⟩;rw[<-aa]at K e;have ai:∀r,f r->r<I.heap.size:=by grind
 refine⟨λr=>A r\/f r,⟨e.1.Y (by grind),λr a=>?_,by grind⟩,⟨.inl h1,λr a ac=>?_,λr a=>?_,λr a=>?_⟩,bi,M,ge,L,E,f,w0,N.ab e.1 T,⟨O,vn P e.1 (by grind),Q⟩,
  ⟨K,by grind,λa=>?_,λr a=>⟨by grind,λad=>?_⟩⟩,bG U e.1 (by grind),⟨V.ab e.1 (by grind),W.ab e.1 (by grind)⟩,X.ab e.1 (by grind),Y.ab e.1 (by grind)⟩
 .rcases a with a|a
  .grind
  .exact (e.2.1 r a).imp (H r) id
 .have:=F r ac;rcases a with a|a
  .grind
  .rcases e.2.1 r a with h|h
   all_goals grind
 .have:=F r a;have:=e.1.size;omega
 .rcases a with a|a
  .have:=G r a;have:=e.1.size;omega
  grind
 .rcases e.2.1 _ a with h|h
  all_goals grind
 .rcases e.2.1 r ad with h|h
  all_goals grind
def StateM(w:x5)(af ag:Nat)(A R:ak)(n:aJ)(s:am)(t:aD):Prop:=∃a e f h,fb w af ag a e f h A R n s t
theorem StateM.ab{S:ak}{A R:ak}{n:aJ}{s:am}{t:aD}(h:StateM w af ag A R n s t)(a:ai S w I)(e:∀r,r<w.heap.size->A r\/R r->¬S r):StateM I af ag A R n s t:=by
 obtain⟨f,j,q,x,h⟩:=h;exact⟨f,j,q,x,h.ab a e⟩
theorem StateM.W{A R:ak}{n:aJ}{s:am}{t:aD}(h:StateM w af ag A R n s t)(J:Ext w I):StateM I af ag A R n s t:=h.ab (J.ab λ_=>False) λ_ _ _ h=>h
theorem StateM.sT{A R:ak}{n:aJ}{s:am}{t:aD}(h:StateM w af ag A R n s t):∃a,dK w ag a t/\∀e I bx,Grow a w e I->dK I ag e bx->∃aS,Grow A w aS I/\StateM I af ag aS R n s bx:=by
 obtain⟨f,j,q,r,h⟩:=h;obtain⟨a,h1,x⟩:=h.sT;exact⟨a,h1,λe I bx y z=>by
  obtain⟨aS,B,C⟩:=x e I bx y z;exact⟨aS,B,f,j,q,r,C⟩⟩
def pZ(s s':am):Prop:=j8 s'=j8 s/\s'.ho.length=s.ho.length/\(∀(j:Nat)a,s'.ho[j]?=σ a->∃f,s.ho[j]?=σ f/\a.sc=f.sc/\a.an=f.an/\fJ s' j=fJ s j)/\s'.dC=s.dC
theorem fb.same{e q r:x4}{A R:ak}{n:aJ}{s s':am}{t:aD}(h:fb w af ag a e q r A R n s t)(V:pZ s s'):fb w af ag a e q r A R n s' t:=by
 obtain⟨ax,bi,z,ge,L,E,B,w0,C,F,G,T,⟨H,y⟩,I,U⟩:=h;obtain⟨W,K,M,X⟩:=V;refine⟨ax,bi,z,ge,L,E,B,w0,C,F,G,by grind,⟨H,y.1.F K.symm,λj x N J O=>?_⟩,I,?_⟩
 .obtain⟨f,ah,P,Q,S⟩:=M j N O;rw[P,Q,S];exact y.2 j x f J ah
 grind [n1]
theorem StateM.same{A R:ak}{n:aJ}{s s':am}{t:aD}(h:StateM w af ag A R n s t)(V:pZ s s'):StateM w af ag A R n s' t:=by
 obtain⟨a,e,f,j,h⟩:=h;exact⟨a,e,f,j,h.same V⟩
theorem vo{α β:Type}{f:α->List β}:∀{L:List α}{i j:Nat}{a b:α},L[i]?=σ a->(f b).length=(f a).length->(((L.set i b).take j).flatMap f).length=((L.take j).flatMap f).length
 |[],_,_,_,_,h,_=>by simp at h
 |x::L,0,j,a,b,h,e=>by
  cases h;cases j<;>grind
 |x::L,i+1,j,a,b,h,e=>by
  have h:L[i]?=σ a:=by grind
  cases j with
  |zero=>rfl
  |succ j=>
   rw[List.set_cons_succ,List.take_succ_cons,List.take_succ_cons,T0,T0,c9,c9,vo h e]
theorem EN(s:am)(c:Int):pZ s {s with zero:=c}:=⟨rfl,rfl,λj f h=>⟨f,h,rfl,rfl,rfl⟩,rfl⟩
theorem EO{s:am}{i:Nat}{x y:bp}(J:s.d9[i]?=σ x)(a:y.un.length=x.un.length):pZ s {s with d9:=s.d9.set i y}:=by
 have ah:(jC y).length=(jC x).length:=by simp[jC,a]
 refine⟨?_,rfl,λj f h=>⟨f,h,rfl,rfl,?_⟩,rfl⟩
 .grind [j8,iM,vo]
 .unfold fJ;have:=vo (j:=s.d9.length) J ah
  grind [j9]
theorem QO{s:am}{i:Nat}{x y:bL}(J:s.ho[i]?=σ x)(a:y.cs.length=x.cs.length)(h1:y.sc=x.sc)(e:y.an=x.an):pZ s {s with ho:=s.ho.set i y}:=by
 have ah:(ji y).length=(ji x).length:=by simp[ji,a]
 refine⟨rfl,Z9,λj f h=>?_,rfl⟩
 grind [fJ,vo]
theorem aD.yz(t:aD)(i:Nat)(x:Int):(t.set i x).marks=t.marks:=by
 grind [aD.set]
theorem aD.EP(t:aD)(i:Nat)(x:Int):(t.set i x).kP=t.kP:=by
 grind [aD.set]
theorem aD.EQ(t:aD)(i:Nat)(x:Int):(t.set i x).cells.length=t.cells.length:=by
 grind [aD.r3,aD.cg,r9]
theorem aD.ER(t:aD)(i:Nat)(x:Int):(t.set i x).olds.length<=t.olds.length+1:=by
 unfold aD.set
 grind
theorem aD.yA{t:aD}(h:t.marks=[])(i:Nat)(x:Int):(t.set i x).olds=t.olds:=by
 grind [aD.set]
def ih(t:aD)(l:Λ):Nat->aD
 |0=>t.grow l.length
 |i+1=>(ih t l i).set (t.cells.length+i) (l.getD i 0)
def oM(t:aD)(l:Λ):aD:=ih t l l.length
theorem sU(t:aD)(l:Λ):∀i,(ih t l i).marks=t.marks
 |0=>rfl
 |i+1=>(aD.yz _ _ _).F (sU t l i)
theorem ES(t:aD)(l:Λ):∀i,(ih t l i).kP=t.kP
 |0=>rfl
 |i+1=>(aD.EP _ _ _).F (ES t l i)
theorem ET(t:aD)(l:Λ):∀i,(ih t l i).cells.length=t.cells.length+l.length
 :=by
 intro a;induction a<;>grind [ih,aD.grow,aD.EQ]
theorem yB(t:aD)(l:Λ):∀i,(ih t l i).olds.length<=t.olds.length+i
 |0=>o6 _
 |i+1=>by have:=aD.ER (ih t l i) (t.cells.length+i) (l.getD i 0);have:=yB t l i;show(aD.set _ _ _).olds.length<=_;omega
theorem EU{t:aD}(h:t.marks=[])(l:Λ):∀i,(ih t l i).olds=t.olds
 |0=>rfl
 |i+1=>(aD.yA ((sU t l i).F h) _ _).F (EU h l i)
theorem EV(t:aD)(l:Λ):∀i,i<=l.length->(ih t l i).cg=t.cg++(l.take i++o5 (l.length-i) 0)
 |0,_=>by rw[List.take_zero,List.nil_append];exact aD.Mr
 |i+1,h=>by
  have a:=EV t l i Ω;show(aD.set _ _ _).cg=_;have e:t.cg.length=t.cells.length:=by simp[aD.cg]
  rw[aD.r3,a,U7 _ _ Ω,e,Nat.add_sub_cancel_left,U7 _ _ (by rw[Z3];omega),Z3,Nat.min_eq_left Ω,V7,show l.length-i=(l.length-(i+1))+1 by omega,List.replicate_succ,List.set_cons_zero,u9,r8,v8 Ω]
  grind
theorem EW(t:aD)(l:Λ):(oM t l).cg=t.cg++l:=by
 grind [oM,EV]
theorem i9.ih{h:List aD}{t:aD}(hk:i9 t h)(l:Λ):∀i,i9 (ih t l i) h
 |0=>hk.grow
 |i+1=>(i9.ih hk l i).set
theorem mT{s:Go.Sem x4}{x:x4}(h:ad x8 s w (λv=>v=x)):ch x8 s x w:=by
 obtain⟨v,h,rfl⟩:=h;exact h
theorem vp{z:Nat}{f:o4}{x:x4}(h:aj w af e cs)(ae:∀(K:x4->Prop),ad x8 (u6 cX (Γ af) z) w K=K (.pointer (σ ⟨af,0+a,ν⟩)))(j:k9 x8 f=s2)(q:cs[0+a]?=σ x):
  ch x8 (u5 f (.pointer (σ ⟨af,0+a,ν⟩))) x w/\ch x8 (u6 cX (Γ af) z) (.pointer (σ ⟨af,0+a,ν⟩)) w/\ch x8 (b1 (Γ af)) (Γ af) w/\True:=
 ⟨ur j (h.cell q),mT (by rw[ae]),mT (by rw[cc]),trivial⟩
def EX(w:x5)(r:Nat):Prop:=∃e c,aj w r e c/\(e=gW\/e=ff\/e=nH\/e=iu\/e=cX\/e=gD\/e=fe)
def eQ(w:x5)(r:Nat):Prop:=EX w r\/∀o,w.heap[r]?=σ o->gf o≠s2
theorem oN{U:x5}(hk:∀o,w.heap[r]?=σ o->gf o=s2->¬eQ w r->U.heap[r]?=σ o)(h:eQ U r):eQ w r:=by
 by_cases a:eQ w r
 .exact a
 .refine m6 (.inr λo aC V=>?_) a;have h1:=hk o aC V a;rcases h with⟨e,c,f,he⟩|j
  .refine a (.inl ⟨e,c,?_,he⟩)
   grind [aj]
  grind
theorem iN{U aa:x5}(J:Ext w U)(a:ai (eQ U) U aa):ai (eQ w) w aa:=(J.ab _).F (a.Y λr _ h=>oN (λo aC V _=>J.a7 r o aC V) h)
theorem vq{U aa:x5}(h:ai (eQ w) w U)(a:ai (eQ U) U aa):ai (eQ w) w aa:=h.F (a.Y λr _ e=>oN (λo aC V f=>h.a7 r o aC V f) e)
theorem dK.min{A:ak}{t:aD}(h:dK w ag A t):dK w ag (λr=>A r/\EX w r) t:=by
 obtain⟨s,x,go,dB,bf,y,eE,h1,f,j,q,z⟩:=h;refine⟨⟨s,_,_,h1,.inl rfl⟩,x,go,dB,bf,y,eE,h1,f,j,q,λr a=>⟨z r a,?_⟩⟩;rcases a with a|a|a
 .obtain⟨rfl,c,e⟩:=dY f a;exact⟨_,c,e,.inr (.inl rfl)⟩
 .obtain⟨rfl,c,e⟩:=dY j a;exact⟨_,c,e,.inr (.inr (.inl rfl))⟩
 .obtain⟨rfl,c,e⟩:=dY q a;exact⟨_,c,e,.inr (.inr (.inr (.inl rfl)))⟩
theorem fb.yC{f:Nat}{j q x:x4}{A R:ak}{n:aJ}{s:am}{t:aD}(h:fb w af ag f j q x A R n s t):∃a,dK w ag a t/\∀y I bx,Grow a w y I->dK I ag y bx->ai (eQ w) w I/\∃aS,Grow A w aS I/\fb I af ag f j q x aS R n s bx:=by
 obtain⟨a,z,B⟩:=h.sT;refine⟨_,z.min,λC U bx e E=>⟨e.1.Y λr _ h=>.inl h.2,?_⟩⟩;exact B (λr=>a r\/C r) U _ ⟨e.1.Y λr _ h=>h.1,λr F=>F.elim .inl λh=>(e.2.1 r h).imp (λh=>h.1) id,by grind⟩ (E.Y (by grind))
theorem EY{q:Nat}{y B:x4}{A R:ak}{n:aJ}{s:am}{t:aD}{dd:x4}(h:fb w af ag q y z B A R n s t)(C:aQ .i64 w dd l)(P:∀r,lc dd r->¬A r)(aF:t.cells.length+l.length<=100000000)(aC:t.olds.length+l.length<=100000000)(hm:t.marks.length<=100000000):
  aq x8 Bg [Γ af,dd] w λv I=>v=Δ (t.cells.length:Int)/\ai (eQ w) w I/\∃aS,Grow A w aS I/\fb I af ag q y z B aS R n s (oM t l):=by
 refine aE func129 ?_;obtain⟨_,bi,Q,ge,L,E,_,w0,G,_⟩:=id h;obtain⟨S,H,K⟩:=h.yC;rw[aP cX.p 1 G rfl,a8 aB.u C];refine(QC H ⟨Ω,Ω,hm⟩ Ω).Y ?_;rintro _ U _ ⟨rfl,V,W,X⟩;obtain⟨Y,Z,N,ab⟩:=K V U _ W X;have O:∀{aS:ak}{I:x5},Grow A w aS I->aQ .i64 I dd l:=λad=>jw C ad.1 λr ae a ah c ac aj=>P r ⟨a,ah,c,ac,aj⟩ ae;rw[a8 aB.u (O N)];have al:=C.le;refine b7.range l.length (λi aa=>ai (eQ w) w aa/\∃e,Grow A w e aa/\fb aa af ag q y z B e R n s (ih t l i)) al ⟨Y,Z,N,ab⟩ ?_ ?_
 .rintro i aa k hi ⟨M,e,f,j⟩ hk;refine bF Ω ?_;obtain⟨x,J⟩:=aI (l:=l) hi;rw[bk aB.u ay.i Ψ (O f) J];obtain⟨_,bi,Q,ge,L,E,_,w0,G,_⟩:=id j;obtain⟨S,H,K⟩:=j.yC;have aG:=ET t l i;have aH:=yB t l i;have an:=sU t l i;rw[aP cX.p 1 G rfl,aR,lm Ω Ω];refine(vl (i:=t.cells.length+i) H Ω Ω ⟨Ω,Ω,by rw[an];exact hm⟩).Y ?_;rintro _ ap _ ⟨rfl,au,av,aw⟩;obtain⟨ax,az,aA,aK⟩:=K au ap _ av aw;rw[aR];refine hk _ ⟨vq M ax,az,f.F aA,?_⟩
  grind [ih]
 .rintro aa k ⟨M,e,f,j⟩;rw[aW,ao];exact⟨λh=>Ω,λ_=>⟨rfl,M,e,f,j⟩⟩
def ky(s:am)(sc an cs:Λ):am:={s with ho:=s.ho++[⟨sc,an,1,cs⟩]}
def p0(s:am)(t:aD)(cs:Λ):aD:=(oM t (1::cs)).set 1 ((s.ho.length+1:Nat):Int)
theorem QP{s:am}{t:aD}{sc cs:Λ}(h:t.cg=s.cells):(p0 s t cs).cg=(ky s sc an cs).cells:=by
 unfold p0 ky;rw[aD.r3,EW,h,<-QH];rfl
theorem QQ{bp:Nat}{bq aN br:x4}{A R:ak}{n:aJ}{s:am}{t:aD}{aZ:x4}{sc cs:Λ}{g bO:Nat}{Z:x4}(h:fb w af ag bp bq aN br A R n s t)(ac:t.cg=s.cells)(cb:aQ .i64 w aZ sc)(dn:∀r,lc aZ r->¬A r)(bs:du w g bO Z an k cs)(bP:¬A g/\¬A bO/\∀r,lc Z r->¬A r)(dp:sc.length<=1000)(aW:t.cells.length+cs.length+1<=100000000)(aC:t.olds.length+cs.length+1<=100000000)(hm:t.marks.length<=100000000)(ah:s.ho.length<=1000000):
  aq x8 JR [Γ af,aZ,Γ g] w λv I=>v=Δ (s.ho.length:Int)/\ai (eQ w) w I/\∃aS R' bt,Grow A w aS I/\fb I af ag bp bq bt br aS R' n (ky s sc an cs) (p0 s t cs)/\(∀r,R r->R' r)/\∀r,R' r->R r\/lc Z r\/w.heap.size<=r:=by
 have dq:t.cells.length=s.cells.length:=by rw[<-ac];simp[aD.cg]
 have dt:=yx s;have ce:fJ (ky s sc an cs) s.ho.length=t.cells.length:=by
  unfold fJ ky;simp only[List.take_left];omega
 have cf:∀j,j<s.ho.length->fJ (ky s sc an cs) j=fJ s j:=λj bu=>by
  unfold fJ ky;simp only[List.take_append_of_le_length (show j<=s.ho.length by omega)]
 have ci:j8 (ky s sc an cs)=j8 s:=rfl;refine aE func131 ?_;refine dh (λU=>ai (eQ w) w U/\∃aS R' bt,Grow A w aS U/\fb U af ag bp bq bt br aS R' n (ky s sc an cs) (oM t (1::cs))/\(∀r,R r->R' r)/\∀r,R' r->R r\/lc Z r\/w.heap.size<=r) ?_ ?_
 .rintro U ⟨cj,dv,ck,cl,cm,cn,cp,cq⟩;intro aa bx _ _;have bQ:=cn.W bx;obtain⟨_,bi,bz,ge,L,E,_,w0,ao,_,_,_,⟨a7,bg⟩,_⟩:=id bQ;have bh:L.length=s.ho.length+1:=by rw[bg.1];simp[ky]
  rw[aP cX.p 1 ao rfl,aP cX.p 3 ao rfl,ek gC.u a7];obtain⟨bR,cr,ct⟩:=bQ.yC;have cu:=ET t (1::cs) (1::cs).length;have cw:=yB t (1::cs) (1::cs).length;have cz:=sU t (1::cs) (1::cs).length;simp only[W5]at cu cw;refine(vl cr rfl (by show 1<(ih _ _ _).cells.length;simp only[W5];omega) ⟨by show(ih _ _ _).cells.length<=_;simp only[W5];omega,by show(ih _ _ _).olds.length<=_;simp only[W5];omega,by show(ih _ _ _).marks.length<=_;rw[cz];exact hm⟩).Y ?_;rintro _ cA _ ⟨rfl,cC,cD,cE⟩;obtain⟨cF,cG,cH,bS⟩:=ct cC cA _ cD cE;obtain⟨_,bi,bz,ge,cI,E,_,w0,ao,_,_,_,⟨a7,cJ⟩,_⟩:=id bS;have dw:cI.length=s.ho.length+1:=by rw[cJ.1];simp[ky]
  rw[aP cX.p 3 ao rfl,ek gC.u a7,dr,lm Ω Ω];refine⟨by congr 1;omega,vq cj (iN bx cF),cG,ck,cl,cm.F ((Grow.W bx).F cH),?_,cp,cq⟩;have e:p0 s t cs=(oM t (1::cs)).set 1 (L.length:Int):=by unfold p0;rw[bh]
  rw[e];exact bS
 intro aA cK;intro aO aR _ _;have bT:=h.W aR;obtain⟨_,bi,bz,ge,L,E,_,w0,ao,_⟩:=id bT;rw[aP cX.p 3 ao rfl];have z4:=aR.size;have bj:∀{C:x5}{ae Q:x4}{a8 W:Nat},Ext aO C->w.heap.size<=a8->w.heap.size<=W->aH .i64 al C a8 ae sc->aH .i64 ay C W Q (1::cs)->(∀r,lc ae r\/lc Q r->¬A r)->
   aq x8 Bg [Γ af,Q] C λcL az=>
    (Ext aO az\/ch x8 (u5 gC (.pointer (σ ⟨af,0+3,ν⟩))) aN az/\ch x8 (u6 cX (Γ af) 3) (.pointer (σ ⟨af,0+3,ν⟩)) az/\ch x8 (b1 (Γ af)) (Γ af) az/\True)/\
    ad x8 (Instr.build gD #[(0,ae),(1,.agg #[Z]),(2,cL)]) az λt22=>
    aM x8 (Y4 gC 1 #[(0,t22)]) az λcM ap=>
     (Ext aO ap\/ch x8 (u5 gC (.pointer (σ ⟨af,0+3,ν⟩))) aN ap/\ch x8 (u6 cX (Γ af) 3) (.pointer (σ ⟨af,0+3,ν⟩)) ap/\ch x8 (b1 (Γ af)) (Γ af) ap/\True)/\
    aM x8 (b9 #[gC,gC] gC #[aN,cM]) ap λcN bk=>
     ad x8 (b1 (Γ af)) bk λt25=>
     ad x8 (u6 cX t25 3) bk λcO=>
     aM x8 (o7 gC cO cN) bk λ(_:Unit)aX=>
      aA aX:=by
  intro C ae Q a8 W B bU S G M bA;have cQ:=bT.W B;refine(EY cQ M.ls (λr y=>bA r (.inr y)) (by simp only[W5];omega) (by simp only[W5];omega) hm).Y ?_;rintro _ az _ ⟨rfl,cR,ba,aY,cS⟩;obtain⟨⟨bV,bW,cT,bX⟩,bi,bz,ge,L,E,bR,w0,ao,⟨cU,cV,bY⟩,⟨cW,bZ,b0,aI⟩,bB,⟨a7,bg⟩,bC,cY⟩:=id cS;have aF:=bG G aY.1 λr y=>bA r (.inl y);have bl:=((Classical.choose_spec (show∃gs,aH .i64 al w gs Z an from by obtain⟨⟨_,gs,_,q,_⟩,_⟩:=bs;exact⟨gs,q⟩)).W aR).W B;have cZ:=bG bl aY.1 bP.2.2;refine⟨.inr (vp ao (λK=>by rw[a1 cX.p rfl]) Ψ rfl),?_⟩;rw[ds (cs:=#[ae,Z,Δ (t.cells.length:Int)]) (by obtain⟨_,_,_,rfl⟩:=df G.ls;obtain⟨_,_,_,rfl⟩:=df bl.ls;kernel_rfl)];let a:ra:=⟨ae,Z,t.cells.length⟩;have c0:∀u∈rb a,u.oneCell'=s2:=by
   intro u hu;simp[rb]at hu;rcases hu with rfl|rfl|rfl
   .exact G.ls.cells.2
   .exact bl.ls.cells.2
   .rfl
  refine jc (f:=rb) (a:=a) gC.u gD.i Ω rfl rfl λdx dy ap dz H c1=>?_;refine⟨.inr (vp (ao.W H) (λK=>by rw[a1 cX.p rfl]) Ψ rfl),?_⟩;have bb:=a7.W H;have bh:=bg.1;refine jB gC.u gD.i rfl bb (by simpa using c1.sl) c0 Ω Ω λc2 c3 bk bc c4 b2=>?_;have bd:=ao.W H;have b3:=bd.ab b2 λhe=>cP bb bd Φ he;rw[cc,a1 cX.p rfl];refine bw gC.i (eJ bc.sl).1 (eJ bc.sl).2 b3 Ξ λaX bD dA bE=>?_;have bE:=bE;have au:ai (λr=>hx aN r\/r=af) ap aX:=(b2.Y λr _ h=>.inl h).F (bD.Y λr _ h=>.inr h);have z9:=B.size;have dC:=aY.1.size;have dD:=H.size;have dE:=au.size;have bF:∀r,(hx aN r\/r=af)->ba r:=λr y=>y.elim (λy=>(aI r (.inr (.inl y))).1) λy=>y▸bV;have bH:∀r,(hx aN r\/r=af)->¬R r:=λr y=>bW r (bF r y);have c5:ai (eQ w) w aX:=vq (iN (aR.F B) cR) (iN H (au.Y λr _ y=>by
   rcases y with y|rfl
   .obtain⟨_,c,aW⟩:=dY bb y;exact .inl ⟨_,c,‹r=_› ▸aW,Φ⟩
   .exact .inl ⟨_,_,bd,Φ⟩))
  let c6:ak:=λr=>ba r\/(ap.heap.size<=r/\r<aX.heap.size);let bI:ak:=λr=>R r\/(lc Z r/\r<az.heap.size)\/(lc ae r/\r<az.heap.size);have dF:∀r,r<w.heap.size->ba r->A r:=λr y h=>(aY.2.1 r h).elim id λh=>Ω
  have bJ:∀r,lc ae r->w.heap.size<=r/\r<C.heap.size:=λr y=>by obtain⟨h1,a2⟩:=cd G y;omega
  have b4:∀r,lc Z r->r<C.heap.size:=λr y=>by obtain⟨h1,a2⟩:=cd bl y;omega
  have bm:∀r,lc ae r\/lc Z r->¬ba r:=λr y c7=>by
   rcases aY.2.1 r c7 with h|h
   .rcases y with y|y
    .exact bA r (.inl y) h
    .exact bP.2.2 r y h
   .rcases y with y|y
    .have:=bJ r y;omega
    .have:=b4 r y;omega
  refine cK _ ⟨c5,c6,bI,c2,(Grow.W (aR.F B)).F (aY.F ((Grow.W H).F ⟨au.Y λr _ y=>bF r y,λr y=>y.imp id And.left,λr y=>.inl y⟩)),?_,λr y=>.inl y,λr y=>?_⟩
  rotate_left
  .rcases y with y|y|y
   .exact .inl y
   .exact .inr (.inl y.1)
   .exact .inr (.inr (bJ r y.1).1)
  have b5:∀{v:x4}{be:Nat}{l:Λ},aH .i64 al ap be v l->(∀r,lc v r->¬ba r)->aH .i64 al aX be v l:=λhm c8=>bG hm au λr y V=>c8 r y (bF r V);have b6:∀r,bI r->r<ap.heap.size:=λr y=>by
   rcases y with y|y|y
   .have:=cT r y;omega
   .omega
   .omega
  refine⟨⟨.inl bV,λr y aK=>?_,λr y=>by have:=b6 r y;omega,λr y=>y.elim (λy=>by have:=bX r y;omega) And.right⟩,bi,c3,ge,L++[a],E,bR,w0,bE,⟨cU,vn (cV.F H) au λr o y aC V=>bH r V (bY r o y aC),λr o y aC=>.inl (bY r o y aC)⟩,⟨(cW.W H).ab au λr y V=>?_,λr y=>.inl (bZ r y),b0,λr y=>?_⟩,?_,⟨bc.ab bD λr y he=>?_,?_⟩,(bC.W H).ab au λr y V=>?_,?_⟩
  .have:=b6 r aK;rcases y with y|y
   .rcases aK with aK|aK|aK
    .exact bW r y aK
    .exact bm r (.inr aK.1) y
    .exact bm r (.inl aK.1) y
   .omega
  .rcases V with V|rfl
   .exact (aI r (.inr (.inl V))).2 y
   .exact b0 y
  .rcases y with y|y|y
   .exact⟨.inl (aI r (.inl y)).1,(aI r (.inl y)).2⟩
   .obtain⟨h1,a2⟩:=bc.lc y;rcases c4 r y with h|h
    .exact⟨.inl (aI r (.inr (.inl h))).1,(aI r (.inr (.inl h))).2⟩
    .refine⟨.inr ⟨h,by have:=bD.size;omega⟩,λda=>?_⟩;have:=bX r (bZ r da);omega
   .exact⟨.inl (aI r (.inr (.inr y))).1,(aI r (.inr (.inr y))).2⟩
  .rw[ci];exact bG (bB.W H) au λr y V=>by
    rcases V with V|rfl
    .obtain⟨rfl,c,aW⟩:=dY bb V;exact cB (bB.W H) aW Φ y rfl
    .exact cB (bB.W H) bd Φ y rfl
  .have he:r=af:=he;subst he;exact cP bc b3 Φ y
  .refine⟨by rw[c9,bh];simp[ky],λj x f J aT=>?_⟩;have aT:(s.ho++[⟨sc,an,1,cs⟩])[j]?=σ f:=aT;by_cases bu:j<s.ho.length
   .rw[V6 Ω]at J;rw[V6 bu]at aT;obtain⟨db,dc,dd⟩:=((((m7.ab bg (H.ab λ_=>False) λ_ _ _ h=>h).ab au λr _ y V=>bH r V y).Y (R':=bI) λr y=>.inl y)).2 j x f J aT;exact⟨db,dc,by rw[cf j bu];exact dd⟩
   .have bK:j=s.ho.length:=by have:=(x6.1 aT).1;simp at this;omega
    rw[X2 Ω,bh,bK,V7]at J;rw[X2 Ω,bK,V7]at aT;cases J;cases aT;refine⟨⟨⟨_,b5 (aF.W H) λr y=>bm r (.inl y)⟩,λr y=>.inr (.inr ⟨y,?_⟩)⟩,⟨⟨_,b5 (cZ.W H) λr y=>bm r (.inr y)⟩,λr y=>.inr (.inl ⟨y,?_⟩)⟩,?_⟩
    .have:=bJ r y;omega
    .have:=b4 r y;omega
    .rw[bK,ce]
  .rcases V with V|rfl
   .obtain⟨rfl,c,aW⟩:=dY bb V;exact cP (bC.W H) aW Φ y
   .exact cP (bC.W H) bd Φ y
  .exact ((n1.ab cY (H.ab λ_=>False) λ_ _ _ h=>h).ab au λr _ y V=>bH r V y).Y λr y=>.inl y
 have a6:=bs.W aR;have b7:=cb.W aR;have de:∀r,A r->r<w.heap.size:=h.1.2.2.2;obtain⟨_,⟨_,_,dG⟩,dH,dI⟩:=id bs;have dJ:cs.length<=4096:=Ω
 have bn:∀{av:x5}{aU aV:x4}{X:Nat}{K:x4->x5->Prop},Ext aO av->aO.heap.size<=X->aH .i64 ay av X aU [1]->aQ .i64 av aV cs->
   (∀Q W C,Ext aO C->ai (λr=>r=X) av C->w.heap.size<=W->aH .i64 ay C W Q (1::cs)->(Ext aO C->K Q C))->aM x8 (b9 #[aB,aB] aB #[aU,aV]) av K:=by
  intro av aU aV X K z bo aw aG dg;refine kL aB.u ay.i rfl aw aG Θ Θ λQ W C S M ax=>?_;have B:=z.put ax Ω;have di:=z.size;exact dg Q W C B ax Ω M B
 have aL:∀{v:x4}{be:Nat}{dj:o8}{e:o4}{dk:x5}{l:Λ},aH dj e dk be v l->w.heap.size<=be->∀r,lc v r->¬A r:=λhm dK r y dl=>by
  obtain⟨h1,_⟩:=cd hm y;have:=de r dl;omega
 refine⟨?_,?_⟩
 .refine (lf b7 Ω).Y ?_;rintro ae dm _ ⟨N,a8,bU,G⟩;have z5:=N.size;refine⟨.inl N,?_,?_⟩
  .refine (qZ (a6.W N)).Y ?_;rintro _ b8 _ ⟨rfl,O⟩;have Y:=N.F O;have dL:=Y.size;have dM:=O.size;have ca:=(a6.W N).W O;refine⟨.inl Y,?_,?_⟩
   .refine e6 aB.u ay.i rfl λaU X av bo z aw=>?_;refine⟨.inl (Y.F z),?_⟩;refine(oH (ca.W z)).Y ?_;rintro aV bL _ ⟨P,bM,bN,aG⟩;have aj:=(Y.F z).F P;refine⟨.inl aj,?_⟩;refine bn aj Ω (aw.W P) aG.ls λQ W C B ax S M _=>⟨.inl B,?_⟩;have aF:=bG (((G.W O).W z).W P) ax λr y he=>by have he:r=X:=he;obtain⟨h1,a2⟩:=cd G y;omega
    exact bj B Ω S aF M λr y=>y.elim (aL G Ω r) (aL M S r)
   .refine (oH ca).Y ?_;rintro aV av _ ⟨z,bM,bN,aG⟩;refine⟨.inl (Y.F z),?_⟩;have di:=z.size;refine e6 aB.u ay.i rfl λaU X bL bo P aw=>?_;have aj:=(Y.F z).F P;refine⟨.inl aj,?_⟩;refine bn aj Ω aw (aG.ls.W P) λQ W C B ax S M _=>⟨.inl B,?_⟩;have aF:=bG (((G.W O).W z).W P) ax λr y he=>by have he:r=X:=he;obtain⟨h1,a2⟩:=cd G y;omega
    exact bj B Ω S aF M λr y=>y.elim (aL G Ω r) (aL M S r)
  .refine e6 aB.u ay.i rfl λaU X b8 bo O aw=>?_;have Y:=N.F O;refine⟨.inl Y,?_⟩;refine(qZ ((a6.W N).W O)).Y ?_;rintro _ av _ ⟨rfl,z⟩;have bf:=Y.F z;refine⟨.inl bf,?_⟩;refine(oH (((a6.W N).W O).W z)).Y ?_;rintro aV bL _ ⟨P,bM,bN,aG⟩;have aj:=bf.F P;refine⟨.inl aj,?_⟩;refine bn aj Ω ((aw.W z).W P) aG.ls λQ W C B ax S M _=>⟨.inl B,?_⟩;have aF:=bG (((G.W O).W z).W P) ax λr y he=>by have he:r=X:=he;obtain⟨h1,a2⟩:=cd G y;omega
   exact bj B Ω S aF M λr y=>y.elim (aL G Ω r) (aL M S r)
 .refine e6 aB.u ay.i rfl λaU X dm bo N aw=>?_;refine⟨.inl N,?_⟩;have z5:=N.size;have dN:=sF aw Ξ;refine(lf (b7.W N) Ω).Y ?_;rintro ae b8 _ ⟨O,a8,bU,G⟩;have Y:=N.F O;refine⟨.inl Y,?_⟩;refine(qZ ((a6.W N).W O)).Y ?_;rintro _ av _ ⟨rfl,z⟩;have bf:=Y.F z;refine⟨.inl bf,?_⟩;refine(oH (((a6.W N).W O).W z)).Y ?_;rintro aV bL _ ⟨P,bM,bN,aG⟩;have aj:=bf.F P;refine⟨.inl aj,?_⟩;refine bn aj Ω (((aw.W O).W z).W P) aG.ls λQ W C B ax S M _=>⟨.inl B,?_⟩;have aF:=bG ((G.W z).W P) ax λr y he=>by have he:r=X:=he;obtain⟨h1,a2⟩:=cd G y;omega
  exact bj B Ω S aF M λr y=>y.elim (aL G Ω r) (aL M S r)
theorem jD{P:W0}{t F:o4}{k:o8}{b g:Nat}{x:x4}{m:Λ}{K:x4->x5->Prop}(y:P.underlying t=σ (.slice e))(hi:aV P e 1 b z)(A:z.cells.size=1)(h:aH k e w g v l)(J:aQ k w x m)(B:(l.length+m.length)*b<=140737488355328)(C:l.length+m.length<=9223372036854775807)(E:∀a f I,aH k e I f a (l++m)->(∀r,lc a r->lc v r\/w.heap.size<=r)->ai (λr=>lc v r) w I->K a I):aM P (b9 #[t,t] F #[v,x]) w K:=by
 rcases h.2 with⟨ac,G⟩|⟨cap,cs,ac,M,N⟩
 .have H:=j6 G;subst H;have be:aH k e w w.heap.size v []:=by grind [aH.nil]
  refine kL y hi A be J B C λa f I j hm s=>E a f I hm (λr q=>.inr ?_) (s.Y Ω);obtain⟨L,_⟩:=cd hm q;omega
 .refine kL y hi A h J B C λa f I j hm s=>E a f I hm (λr q=>?_) (s.Y λr q he=>⟨_,_,_,ac,he.symm⟩);obtain⟨L,_⟩:=cd hm q;rcases j with j|j
  .exact .inl ⟨_,_,_,ac,by show g=r;omega⟩
  omega
def addVar(s:am)(u:Λ):am:={s with d9:=s.d9++[newVar u]}
theorem QR(s:am)(u:Λ):j8 (addVar s u)=j8 s++[((3+(s.d9.flatMap jC).length:Nat):Int)]:=by
 unfold j8 addVar;rw[c9,List.length_singleton,List.range_succ,Z2]
 grind [List.map_congr_left,iM]
theorem QS{s:am}{u:Λ}(ah:s.ho=[]):(addVar s u).cells=s.cells++(0::0::u):=by
 unfold am.cells addVar l5;simp only[ah,List.flatMap_nil,T4,List.flatMap_append,List.flatMap_singleton,T1];rfl
def fy(n:aJ)(i j:Nat):am:=⟨n.zero,(n.unary.take i).map newVar,(n.ho.take j).map (m4 n.d6),[]⟩
theorem EZ{n:aJ}{i:Nat}{u:Λ}(h:n.unary[i]?=σ u):fy n (i+1) 0=addVar (fy n i 0) u:=by
 grind [fy,addVar,u9]
theorem QT{n:aJ}{i:Nat}{g:c5}(h:n.ho[j]?=σ g):fy n i (j+1)=ky (fy n i j) g.1 (b5 n.d6 g.1) g.2:=by
 unfold fy ky;simp only[u9,h,j4,Z2,List.map_singleton];rfl
theorem yD(n:aJ):fy n n.unary.length n.ho.length=dp n:=by
 grind [fy,dp]
theorem E0{α β:Type}{f:α->List β}{b:Nat}:∀{L:List α},(∀x∈L,(f x).length<=b)->(L.flatMap f).length<=L.length*b
 :=by
 intro a;induction a<;>grind [T6]
theorem vr{n:aJ}(a:kU n)(ah:n.ho.length<=256)(i j:Nat):(fy n i j).cells.length<=2000000:=by
 rw[yx];have h1:=E0 (f:=jC) (b:=34) (L:=(fy n i j).d9) λx J=>by
  obtain⟨u,hu,rfl⟩:=l9.1 (show x∈(n.unary.take i).map newVar from J);obtain⟨p,ae⟩:=Y8.1 (R2 hu);have s:=a.l4;have w:=(x6.1 ae).1;obtain⟨z,h⟩:=aI (l:=n.d6) (i:=p) Ω;have q:=(a.unary p z u h ae).1;have e:=a.d6.2.2 z (x7 h);show u.length+2<=34;omega
 have q:=E0 (f:=ji) (b:=4097) (L:=(fy n i j).ho) λx J=>by
  obtain⟨g,r,rfl⟩:=l9.1 (show x∈(n.ho.take j).map (m4 n.d6)from J);have e:=(a.ho g (R2 r)).1;have y:=e.len;have A:=e.small;show g.2.length+1<=4097;omega
 have e:(fy n i j).d9.length<=64:=by
  show((n.unary.take i).map newVar).length<=64;rw[r9,Z3];have:=a.l4;have:=a.d6.2.1;omega
 grind [fy]
def Plain(t:aD):Prop:=t.marks=[]/\t.olds=[]/\i9 t []/\t.kP=0
theorem Plain.set{t:aD}(h:Plain t)(i:Nat)(x:Int):Plain (t.set i x):=⟨(aD.yz _ _ _).F h.1,(aD.yA h.1 _ _).F h.2.1,h.2.2.1.set,(aD.EP _ _ _).F h.2.2.2⟩
theorem Plain.lay{t:aD}(h:Plain t)(l:Λ):Plain (oM t l):=⟨(sU _ _ _).F h.1,(EU h.1 _ _).F h.2.1,h.2.2.1.ih l _,(ES _ _ _).F h.2.2.2⟩
theorem Plain.put{s:am}{t:aD}(h:Plain t)(cs:Λ):Plain (p0 s t cs):=(h.lay _).set _ _
def QU(w:x5)(R0:ak)(n:aJ)(v:x4)(I:x5):Prop:=Ext w I/\∃af ag A R t,v=Γ af/\StateM I af ag A R n (dp n) t/\t.cg=(dp n).cells/\Plain t/\(∀r,A r->w.heap.size<=r)/\∀r,R r->R0 r\/w.heap.size<=r
theorem QV{R0:ak}{z:Nat}{n:aJ}(aw:gP w0 z n)(Z:Ext w0 w)(aU:∀r o,w0.heap[r]?=σ o->gf o=s2->R0 r)(cA:∀r,R0 r->r<w.heap.size)(B:kU n)(ah:n.ho.length<=256):aq x8 A7 [Γ z] w (QU w R0 n):=by
 have h:=aw.W Z;have cC:=B.l4;have cD:=B.d6.2.1;refine aE func61 ?_;rw[dl ou.u];simp only[b8,bc];refine(QD (n:=3) Ω).Y ?_;rintro _ U _ ⟨ac,ag,rfl,bu⟩;rw[ds (cs:=#[Γ z,Γ ag,.slice ν 0 0,.slice ν 0 0,.slice ν 0 0]) Ψ];refine bn λaf aa cE I M=>?_;have M:=M;have cF:=ac.size;have cG:=I.size;have cH:=M.lt;have bx:fb aa af ag z (.slice ν 0 0) (.slice ν 0 0) (.slice ν 0 0) (λr=>r=af\/(w.heap.size<=r/\r<U.heap.size)) R0 n ⟨0,[],[],[]⟩ ⟨o5 3 ⟨0,0⟩,[],[],0⟩:=by
  refine⟨⟨.inl rfl,λr q bz=>?_,λr q=>?_,λr q=>?_⟩,0,0,0,[],[],λr=>w.heap.size<=r/\r<U.heap.size,w0,M,⟨aw,Z.F (ac.F I),aU⟩,⟨(bu.cut).W I,Ω,λq=>?_,λr q=>?_⟩,aH.nil _ _ _ _,⟨bo.nil _ _ _ _ _,rfl,by grind⟩,bo.nil _ _ _ _ _,rfl,by grind⟩
  .grind
  .grind
  .omega
  .omega
  .rcases q with q|q|q
   .obtain⟨a,cI,c,ax,cJ⟩:=q;cases ax
   all_goals grind [gp]
 intro cK N _ _;have bA:=bx.W N;rw[aP cX.p 1 (M.W N) rfl];refine(QK (h.W ((ac.F I).F N))).Y ?_;rintro _ cL _ ⟨rfl,ad⟩;refine⟨.inl ad,?_⟩;have bB:=bA.W ad;obtain⟨az,bC,bD⟩:=bB.sT;refine(vl bC rfl Φ ⟨Ξ,Ξ,Ξ⟩).Y ?_;rintro _ bE _ ⟨_,bH,bI,bJ⟩;obtain⟨bK,aV,aA⟩:=bD bH bE _ bI bJ;have aA:=aA.same (EN ⟨0,[],[],[]⟩ n.zero);have z3:=N.size;have z4:=ad.size;have bL:=((ac.F I).F N).F ad;have aW:=bL.then aV.1 Ω;refine(yy (h.W aW)).Y ?_;rintro _ cM _ ⟨rfl,aX⟩;refine b7.range n.d6.length (λi ae=>∃A C t,Ext w ae/\fb ae af ag z C (.slice ν 0 0) (.slice ν 0 0) A R0 n (fy n i 0) t/\t.cg=(fy n i 0).cells/\Plain t/\∀r,A r->w.heap.size<=r) Ω
  ⟨bK,_,_,aW.F aX,aA.W aX,?_,?_,λr q=>?_⟩ ?_ ?_
 .rw[aD.r3];rfl
 .exact Plain.set ⟨rfl,rfl,⟨rfl,rfl,λc s=>by rw[(List.mem_replicate.1 s).2];exact o6 _,X9 _⟩,rfl⟩ _ _
 .rcases aV.2.1 r q with he|he
  all_goals omega
 .rintro i ae bM hi ⟨A,C,t,H,aC,aY,O,aF⟩ bN;obtain⟨u,hu⟩:=aI (l:=n.unary) (i:=i) Ω;obtain⟨a2,a6⟩:=aI (l:=n.d6) (i:=i) Ω;have cN:u.length<=32:=by
   have cO:=(B.unary i a2 u a6 hu).1;have cP:=B.d6.2.2 a2 (x7 a6);omega
  refine bF Ω ?_;refine(EK (h.W H) B).Y ?_;rintro cQ cR _ ⟨bO,_,bP⟩;obtain⟨cS,cT,bQ⟩:=bP u Ω (by rw[u7];exact hu);intro a7 a8 _ _;have aG:=bO.F a8;have ba:=aC.W aG;obtain⟨⟨_,_,_,bb⟩,bi,bd,ge,L,E,az,w0,aj,_⟩:=id ba;have cU:=aG.size;have cV:=H.size;rw[aP cX.p 2 aj rfl];refine oB (l:=[0,0]) aB.u ay.i Ω rfl Ψ λbR cW cY cZ am be=>?_;refine⟨.inl am,?_⟩;refine jD aB.u ay.i rfl be ((bQ.W a8).ls.W am) Θ Θ λbS c0 c1 bT bU bV=>?_;have c2:∀r,lc bR r->a7.heap.size<=r:=λr q=>by obtain⟨ax,_⟩:=cd be q;omega
  have an:=am.then bV (by grind);refine⟨.inl an,?_⟩;have bW:=ba.W an;have c3:∀r,lc bS r->a7.heap.size<=r:=λr q=>by
   rcases bU r q with h|h
   .grind
   .have:=am.size;omega
  have bX:t.cells.length<=2000000:=by
   grind [vr,aD.cg]
  have bY:t.olds.length=0:=by rw[O.2.1];rfl
  have bZ:t.marks.length=0:=by rw[O.1];rfl
  refine(EY bW bT.ls (by grind) Θ Θ Ω).Y ?_;rintro _ c4 _ ⟨rfl,_,aK,aL,b0⟩;obtain⟨⟨b1,c5,c6,c7⟩,bi,bd,ge,L,E,az,w0,aj,⟨b2,b3,b5⟩,⟨b6,c8,b9,c9⟩,ca,⟨cb,ce⟩,cf,ch⟩:=id b0;refine⟨.inr (vp aj (λK=>by rw[a1 cX.p rfl]) Ψ rfl),?_⟩;refine e6 au.u al.i rfl λda db bf dc y ci=>?_;have aM:=aj.W y;refine⟨.inr (vp aM (λK=>by rw[a1 cX.p rfl]) Ψ rfl),?_⟩;have dd:(j8 (fy n i 0)).length=i:=by
   grind [j8,fy]
  have bg:=ca.W y;refine jD au.u al.i rfl bg ci.ls (by grind) (by grind) λcj ck de P df bh=>?_;have bj:=aM.ab bh λhe=>cB bg aM Φ he rfl;rw[cc,a1 cX.p rfl];refine bw au.i P.ls.cells.1 P.ls.cells.2 bj Ξ λbk bl dg aN=>?_;have aN:=aN;rw[aR];have s:ai (λr=>lc C r\/r=af) bf bk:=(bh.Y (by grind)).F (bl.Y Ω);have dh:=an.size;have z12:=aL.1.size;have di:=y.size;have dj:=s.size;have dk:∀r,aK r->w.heap.size<=r:=λr q=>(aL.2.1 r q).elim (aF r) Ω;have dm:∀r,(lc C r\/r=af)->aK r:=by grind
  have dn:(fy n (i+1) 0).cells=(fy n i 0).cells++(0::0::u):=by rw[EZ hu];exact QS rfl
  have cl:t.cells.length=3+((fy n i 0).d9.flatMap jC).length:=by
   grind [yx,aD.cg,fy]
  refine bN _ ⟨λr=>aK r\/(bf.heap.size<=r/\r<bk.heap.size),cj,oM t ([0,0]++u),?_,⟨⟨.inl b1,λr q bz=>?_,by grind,λr q=>?_⟩,ck,bd,ge,L,E,az,w0,aN,⟨b2,vn (b3.F y) s (by grind),b5⟩,⟨(b6.W y).ab s λr q V=>?_,by grind,b9,λr q=>?_⟩,?_,⟨(cb.W y).ab s λr q V=>?_,?_⟩,(cf.W y).ab s λr q V=>?_,?_⟩,?_,O.lay _,λr q=>?_⟩
  .exact ((H.F (aG.F an)).then aL.1 (by grind)).F y |>.then s (by grind)
  .grind
  .grind
  .grind
  .rcases q with q|q|q
   .have dq:=(cd P q)
    grind
   all_goals grind
  .rw[EZ hu,QR,<-cl];exact bG P bl λr q he=>by
    have he:r=af:=he;subst he;exact cB P bj Φ q rfl
  .grind [gp]
  .refine⟨ce.1,λj x f J aO=>?_⟩;have aO:((n.ho.take 0).map (m4 n.d6))[j]?=σ f:=aO;simp at aO
  .grind [gp]
  .refine⟨ch.1,λj x e J he=>?_⟩;have he:([]:List vm)[j]?=σ e:=he;simp at he
  all_goals grind [EW]
 .rintro ae bM ⟨A,C,t,H,aC,aY,O,aF⟩;refine b4 Ω ?_;refine(EJ (h.W H)).Y ?_;rintro _ dr _ ⟨rfl,bm⟩;refine b7.range n.ho.length (λj Q=>∃A R ao t,Ext w Q/\fb Q af ag z C ao (.slice ν 0 0) A R n (fy n n.d6.length j) t/\t.cg=(fy n n.d6.length j).cells/\Plain t/\(∀r,A r->w.heap.size<=r)/\∀r,R r->R0 r\/w.heap.size<=r) Ω
   ⟨A,_,_,t,H.F bm,aC.W bm,aY,O,aF,by grind⟩ ?_ ?_
  .rintro j Q cm cn ⟨A,R,ao,t,G,S,ap,W,bp,bq⟩ cp;obtain⟨g,av⟩:=aI (l:=n.ho) cn;have aQ:=(B.ho g (x7 av)).1;refine bF Ω ?_;refine(QL (h.W G) B av).Y ?_;rintro aZ dt _ ⟨X,gs,du,br⟩;refine(QN aw (Z.F (G.F X)) av).Y ?_;rintro _ dv _ ⟨Y,gt,dw,cq,rfl,dx,dy,cr,bs⟩;have z0:=Z.size;have dz:∀r,lc cq r->r<w.heap.size:=λr q=>by obtain⟨c,aT⟩:=bs r q;have:=aT.lt;omega
   have ct:=(S.W X).W Y;have bb:∀r,A r->r<Q.heap.size:=S.1.2.2.2;have dA:=X.size;have bX:t.cells.length<=2000000:=by
    grind [vr,aD.cg]
   have bY:t.olds.length=0:=by rw[W.2.1];rfl
   have bZ:t.marks.length=0:=by rw[W.1];rfl
   have dC:g.2.length<=4096:=by have:=aQ.len;have:=aQ.small;omega
   have dD:=aQ.scope.2;refine(QQ (sc:=g.1) ct ap (br.ls.W Y) (λr q cu=>by have:=bb r cu;obtain⟨ax,_⟩:=cd br q;omega) cr (by grind) Ω Ω Ω Ω ?_).Y ?_
   .show ((n.ho.take j).map (m4 n.d6)).length<=_
    grind
   rintro _ dE _ ⟨rfl,_,aS,R',cw,bt,dF,dG,cz⟩;rw[aR];have dH:=QT (i:=n.d6.length) av;refine cp _ ⟨aS,R',cw,p0 (fy n n.d6.length j) t g.2,((G.F X).F Y).then bt.1 (by grind),?_,?_,W.put _,λr q=>?_,λr q=>?_⟩
   .grind
   .grind [QP]
   .rcases bt.2.1 r q with h|h
    .grind
    .have:=G.size;have:=Y.size;omega
   .rcases cz r q with h|h|h
    .grind
    .exact .inl (by obtain⟨c,aT⟩:=bs r h;exact aU r _ aT rfl)
    .exact .inr (by have:=G.size;have:=X.size;have:=Y.size;omega)
  .rintro Q cm ⟨A,R,ao,t,G,S,ap,W,bp,bq⟩;refine b4 Ω ?_;have e:fy n n.d6.length n.ho.length=dp n:=by grind [yD]
   rw[e]at S ap;exact⟨G,af,ag,A,R,t,rfl,⟨z,C,ao,_,S⟩,ap,W,bp,bq⟩
theorem QW(M:Bytes l)(W:l.length<=100000):aq x8 Kv [cp l] w λv I=>v=lY l/\Ext w I:=by
 refine aE func179 ?_;refine iX (λae af U=>Ext w U/\∃(m:Λ)(s:Int),ae=cp m/\af=Δ s/\Bytes m/\m.length<=100000/\qU l m s) ?_ ?_
 .rintro _ _ U ⟨N,m,s,rfl,rfl,H,ax,K⟩;rw[pG dj.u,bm,ao];refine⟨λO=>?_,λO=>?_⟩
  .have P:m=[]:=j6 Ω;exact⟨by rw[uA K (by rw[P];rfl)],N⟩
  have P:m≠[]:=λh=>O (by rw[h];rfl);refine rH.range m.length (λi _ _ Q R f=>Ext U f/\∃(n:Int)(a:Bool),Q= .int .u64 n/\R= .bool a/\oA n a ((m.take i).foldl fV 0)/\(m.take i).all gZ=s2) Ω ⟨Ext.refl _,0,sp,rfl,rfl,Mk,rfl⟩ ?_ ?_
  .rintro i ag t3 _ _ f ai hi ⟨B,n,a,rfl,rfl,q,C⟩ aj;obtain⟨b,r⟩:=aI (l:=m) hi;have az:=H b (x7 r);rw[pG dj.u];refine bF Ω ?_;refine Cb (λ_ _ Q R j=>Ext U j/\∃(n:Int)(a:Bool),Q= .int .u64 n/\R= .bool a/\oA n a ((m.take (i+1)).foldl fV 0)/\(m.take (i+1)).all gZ=s2) ?_ ?_
   .rintro aB aC a3 a4 j ak;rw[aR];exact aj _ _ _ _ _ ak
   intro aA z;refine a6 (λv j=>f=j/\v= .bool (!gZ b)) ?_ ?_
   rotate_left
   .intro S e;rw[r4 rfl dj.u H r,aW,ao];refine⟨λh=>e _ _ ⟨rfl,by unfold gZ;rw[rc Ω];rfl⟩,λh=>?_⟩;rw[r4 rfl dj.u H r,bU];refine e _ _ ⟨rfl,?_⟩;unfold gZ;congr 1;by_cases X:57<b
    .rw[ms X,rc Ω];rfl
    .rw[rc X,ms Ω];rfl
   rintro _ _ ⟨rfl,rfl⟩;cases V:gZ b with
   |false=>
    rw[X6,bS];exact⟨by rw[uA K (CY r V)],N.F B⟩
   |true=>
    rw[Y5,bc];have al:=rs V;have L:=Mj q al;rw[CW r,CV r,C,V]at z;have am:=q.1;have an:=q.2.1;refine a6 (λv j=>f=j/\v= .bool (a||decide (461168601842738790<n))) ?_ ?_
    rotate_left
    .intro S e;rw[bU,ao];refine⟨λh=>e _ _ ⟨rfl,by rw[ms h,Bool.or_true]⟩,λh=>e _ _ ⟨rfl,by rw[rc h,Bool.or_false]⟩⟩
    rintro _ _ ⟨rfl,rfl⟩;by_cases E:a=s2\/461168601842738790<n
    .have ah:(a||decide (461168601842738790<n))=s2:=by rcases E with h|h<;>simp[h]
     rw[m3 E,ah]at L;rw[ah,bN,Y5,bc];exact z _ _ _ _ _ ⟨B,n,s2,rfl,rfl,L,rfl⟩
    .have ah:(a||decide (461168601842738790<n))=sp:=by
      cases a with
      |true=>exact m6 (.inl rfl) E
      |false=>simp;omega
     rw[m5 E,ah]at L;have aD:¬461168601842738790<n:=λh=>E (.inr h);rw[ah,bN,X6,bS,fQ,r4 rfl dj.u H r,dr,wrap_u8 Ω Ω,fR cV.u gi.u,lw Ω Ω,lw Ω Ω,aR,lw Ω Ω];exact z _ _ _ _ _ ⟨B,_,sp,rfl,rfl,L,rfl⟩
  .rintro ag t3 _ _ f ai ⟨B,n,a,rfl,rfl,q,C⟩;rw[o9]at C q;rw[pG dj.u];refine b4 Ω ?_;have Y:=Ml q;have am:=q.1;have an:=q.2.1;have ap:∀{x:Int},x=m.foldl fV 0->0<=x->x<=4611686018427387904->(ad x8 (convert gi ay (.int .u64 x)) f λau=>
     ad x8 (aT .mul ay sp sp (Δ s) au) f λav=>(λv I=>v=lY l/\Ext w I) (.tuple #[av,(Δ 0)]) f):=by
    intro x J O h1;rw[fR gi.u ay.u,lm Ω Ω,fQ];have hw:X5.wrap (s*x)=s*x:=by
     rcases K.1 with rfl|rfl<;>exact lm Ω Ω
    rw[hw];refine⟨?_,N.F B⟩;rw[C1 K (CX P C),J]
   refine a6 (λv j=>f=j/\v= .int .u64 (m.foldl fV 0)) ?_ ?_
   .rintro _ _ ⟨rfl,rfl⟩;have Z:=xo C ⟨S5 _,Φ⟩;exact ap rfl Z.1 Z.2
   intro S e;refine a6 (λv j=>f=j/\v= .bool (a||decide (4611686018427387904<n))) ?_ ?_
   .rintro _ _ ⟨rfl,rfl⟩;rw[cb];refine⟨λh=>e _ _ ⟨rfl,?_⟩,λh=>e _ _ ⟨rfl,?_⟩⟩
    .have be:a=s2\/4611686018427387904<n:=by simpa using h
     rw[Y,m3 be]
    .have be:¬(a=s2\/4611686018427387904<n):=by
      intro G;rcases G with G|G
      .simp[G]at h
      .simp[G]at h
     rw[Y,m5 be]
   .intro aF ab;cases a with
    |true=>rw[bS];exact ab _ _ ⟨rfl,rfl⟩
    |false=>rw[bc,bU];exact ab _ _ ⟨rfl,by rw[Bool.false_or]⟩
 .intro aA z;refine a6 (λv aa=>w=aa/\∃c:Bool,v= .bool c/\(c=s2↔l[0]?=σ 45)) ?_ ?_
  .rintro _ _ ⟨rfl,c,rfl,ac⟩;rw[cb];refine⟨λaw=>?_,λah=>?_⟩
   .obtain⟨m,rfl⟩:∃m,l=45::m:=by
     have:=ac.1 aw;cases l with
     |nil=>simp at this
     |cons x m=>exact⟨m,by simp at this;rw[this]⟩
    rw[Cf (y:=1) (i:=1) rfl dj.u Ξ];exact z _ _ _ ⟨Ext.refl _,m,-1,rfl,rfl,λb A=>M b (.tail _ A),by simp at W;omega,CZ⟩
   .refine z _ _ _ ⟨Ext.refl _,l,1,rfl,rfl,M,W,C0 λb A he=>?_⟩;subst he;have:=ac.2 A;rw[ah]at this;cases this
  .intro S e;rw[pG dj.u,bU,ao];refine⟨λh=>?_,λh=>e _ _ ⟨rfl,sp,rfl,?_⟩⟩
   .obtain⟨b,A⟩:=aI (l:=l) (i:=0) Ω;rw[r4 (y:=0) rfl dj.u M A,bm];refine e _ _ ⟨rfl,_,rfl,?_⟩;rw[ro,A];exact⟨λh=>by rw[h],λh=>Z5 h⟩
   .have:l=[]:=j6 Ω;subst this;simp
theorem QX{s:Go.Sem x4}(h:ad x8 s w λu=>u=v)(hk:K v):ad x8 s w K:=by
 obtain⟨u,h1,rfl⟩:=h;exact⟨u,h1,hk⟩
abbrev jj:Type:=Λ×Int
def iD(x:jj):List x4:=[cp x.1,Δ x.2]
theorem yE(x:jj):∀u∈iD x,u.oneCell'=s2:=by
 intro u hu;simp[iD]at hu;rcases hu with rfl|rfl<;>rfl
def kz(w:x5)(v:x4)(L:List jj):Prop:=cq w 2 v L.length (L.flatMap iD)
theorem yF{g:Nat}{L:List jj}(h:bo iD 2 cH w g v L):kz w v L:=h.sl
theorem E1{L:List jj}{a:o4}(h:kz w v L):ad x8 (X8 #[fP] a #[v]) w K=K (Δ (L.length:Int)):=by
 obtain⟨_,_,_,_,_,rfl,_⟩:=h;exact jr fP.u
theorem QY{k:Nat}(h:cq w k v n cs)(f:ai S w I)(q:∀r,hx v r->¬S r):cq I k v n cs:=by
 obtain⟨h1,b,o,base,cap,rfl,s,x,e,y⟩:=h;refine⟨h1,b,o,base,cap,rfl,s,x,e,?_⟩;rcases Nat.eq_zero_or_pos n with a|a
 .have:cs=[]:=j6 (by rw[h1,a,Nat.zero_mul]);subst this;intro j v ac;simp at ac
 .have z:=e a;exact iH f (q b ⟨⟨b,o,ν⟩,n,cap,by rw[z],rfl⟩) y
theorem kz.ab{L:List jj}(h:kz w v L)(a:ai S w I)(e:∀r,hx v r->¬S r):kz I v L:=QY h a e
theorem E2{x:jj}{L:List jj}(h:kz w v (x::L))(a:∀b o,w.rangeAt b o (iD x)->K (.pointer (σ ⟨b,o,ν⟩))):ad x8 (n9 fP v (Δ 0)) w K:=by
 obtain⟨_,b,o,base,cap,rfl,_,_,e,f⟩:=h;have:=e5 (P:=x8) (w:=w) (K:=K) (k:=.i64) (c:=cap) fP.u cH.i (show 0<(x::L).length by simp) e;rw[show((0:Nat):Int)=0 from rfl]at this;rw[this];refine a _ _ λj u hu=>?_;have q:=(x6.1 hu).1;rw[Nat.zero_mul,Nat.add_zero];exact f j u (by rw[T0,V6 q];exact hu)
theorem QZ{x:jj}{L:List jj}(h:kz w v (x::L))(y:∀j,(∀I,kz I v (x::L)->kz I j L)->(∀r,hx j r->hx v r)->K j):ad x8 (V5 fP v (σ (Δ 1)) ν ν) w K:=by
 have C:=h;obtain⟨_,b,o,base,cap,rfl,E,_⟩:=h;rw[iI fP.u cH.i (pw 1 1 rfl) la fD Ξ Ω (o6 _)];refine y _ (λI z=>?_) λr A=>?_
 .have:=cq.part (l:=1) (h:=(x::L).length) (m:=cap) z Ξ (o6 _) Ω (o6 _);have e:(((x::L).flatMap iD).drop (1*2)).take (((x::L).length-1)*2)=L.flatMap iD:=by
   rw[T0];have B:(L.flatMap iD).length=L.length*2:=j1 λ_ _=>rfl;show(L.flatMap iD).take _=_;rw[j9 (by rw[B,W5,Nat.add_sub_cancel];exact o6 _)]
  rw[e]at this;exact this
 .obtain⟨a,n,c,f,s⟩:=A;split at f
  .cases f;exact⟨_,_,_,rfl,s⟩
  .cases base with
   |none=>cases f
   |some q=>cases f;exact⟨_,_,_,rfl,s⟩
theorem Q0{g:Nat}{L:List jj}(z:y=(n:Int))(h:bo iD 2 cH w g v L)(A:n<=L.length)(B:∀s,kz w s (L.take n)->(∀r,hx s r->hx v r)->K s):ad x8 (V5 fP v ν (σ (Δ y)) ν) w K:=by
 have C:=yF h;obtain⟨_,b,o,base,cap,rfl,G,_⟩:=h.sl;rw[iI fP.u cH.i kl (px n y z) fD (X9 _) Ω (o6 _)];refine B _ ?_ λr E=>?_
 .have:=cq.part (l:=0) (h:=n) (m:=cap) C (X9 _) A Ω (o6 _);have e:((L.flatMap iD).drop (0*2)).take ((n-0)*2)=(L.take n).flatMap iD:=by
   rw[Nat.zero_mul,List.drop_zero,Nat.sub_zero,sw (f:=iD) n λ_ _=>rfl]
  rw[e]at this;have F:(L.take n).length=n-0:=by rw[Z3];omega
  unfold kz;rw[F];exact this
 .obtain⟨a,n,c,j,x⟩:=E;split at j
  .cases j;exact⟨_,_,_,rfl,x⟩
  .cases base with
   |none=>cases j
   |some q=>cases j;exact⟨_,_,_,rfl,x⟩
def Q1(w:x5)(pl:Λ)(v:x4)(I:x5):Prop:=Ext w I/\∃a L,∃bad:Int,v= .tuple #[a,Δ bad]/\kz I a L/\L.map (·.1)=(lex pl).1/\(0<=bad↔(lex pl).2=sp)/\(∀r,hx a r->w.heap.size<=r)/\∀r,hx a r->∃c,aj I r cH c
theorem Q2{p:x4}{pl:Λ}(ae:aQ .u8 w p pl)(ax:Bytes pl)(a7:pl.length<=65536):aq x8 JJ [p] w (Q1 w pl):=by
 refine aE func116 ?_;rw[a8 cW.u ae];refine rH.range pl.length (λi _ _ z H U=>Ext w U/\∃g L,∃(j:List (Λ))(A:Λ)(op:Bool),H= .bool op/\bo iD 2 cH U g z L/\L.map (·.1)=(if op then j++[A]else j)/\(op=s2->A.length<=i)/\L.length<=i/\ko (pl.drop i) j A op=lex pl/\∀r,hx z r->w.heap.size<=r) ae.le
  ⟨Ext.refl _,0,[],[],[],sp,rfl,bo.nil _ _ _ _ _,rfl,(λh=>by cases h),o6 _,MI pl,λr B=>(gp B).elim⟩ ?_ ?_
 rotate_left
 .rintro ay t3 z H U az ⟨E,g,L,j,A,op,rfl,C,y,_,_,q,G⟩;refine b4 Ω ?_;rw[List.drop_length]at q;have q:(if op then j++[A]else j,s2)=lex pl:=q;exact⟨E,z,L,-1,rfl,yF C,by rw[y,<-q],by rw[<-q];simp,G,λr B=>by obtain⟨rfl,c,W⟩:=dY C B;exact⟨c,W⟩⟩
 rintro i ay t3 z H U az hi ⟨E,g,L,j,A,op,rfl,C,y,aj,ba,q,G⟩ aB;obtain⟨b,X⟩:=aI (l:=pl) hi;have bb:=ax b (x7 X);have ak:pl.drop i=b::pl.drop (i+1):=by rw[X4 hi,(x6.1 X).2]
 rw[ak]at q;unfold ko at q;refine bF Ω ?_;refine Cb (λ_ _ z H Y=>Ext w Y/\∃g L,∃(j:List (Λ))(A:Λ)(op:Bool),H= .bool op/\bo iD 2 cH Y g z L/\L.map (·.1)=(if op then j++[A]else j)/\(op=s2->A.length<=i+1)/\L.length<=i+1/\ko (pl.drop (i+1)) j A op=lex pl/\∀r,hx z r->w.heap.size<=r) ?_ ?_
 .rintro bd be a3 a4 Y aC;rw[aR];exact aB _ _ _ _ _ aC
 intro aA al;rw[bk cW.u cV.i Ψ (ae.W E) X];refine a6 (λv I=>U=I/\v= .bool (c4 b)) ?_ ?_
 rotate_left
 .intro Z s;unfold c4 at s;rw[bm,ao];refine⟨λh=>s _ _ ⟨rfl,by rw[ms (.inl h)]⟩,λh1=>?_⟩;rw[bm,ao];refine⟨λh=>s _ _ ⟨rfl,by rw[ms (.inr (.inl h))]⟩,λQ=>?_⟩;rw[bm,ao];refine⟨λh=>s _ _ ⟨rfl,by rw[ms (.inr (.inr (.inl h)))]⟩,λaD=>?_⟩;rw[bm];refine s _ _ ⟨rfl,?_⟩;congr 1;rw[V9,ro,ro];exact⟨λh=>.inr (.inr (.inr h)),λh=>by rcases h with h|h|h|h;exact m6 h h1;exact m6 h Q;exact m6 h aD;exact h⟩
 rintro _ _ ⟨rfl,rfl⟩;cases V:c4 b with
 |true=>
  rw[bS];rw[m3 V]at q;exact al _ _ _ _ _ ⟨E,g,L,_,[],sp,rfl,C,y,(λh=>by cases h),Ω,q,G⟩
 |false=>
  rw[bc];rw[m5 (by rw[V];simp)]at q;refine a6 (λv I=>U=I/\v= .bool (!ck b)) ?_ ?_
  rotate_left
  .intro Z s;unfold ck at s;rw[aW,ao];refine⟨λh=>s _ _ ⟨rfl,by rw[rc Ω];rfl⟩,λh=>?_⟩;rw[bU];refine s _ _ ⟨rfl,?_⟩;by_cases Q:126<b
   .rw[ms Q,rc Ω];rfl
   .rw[rc Q,ms Ω];rfl
  rintro _ _ ⟨rfl,rfl⟩;cases hw:ck b with
  |false=>
   rw[X6,bS];rw[m5 (by rw[hw];simp)]at q;refine a6 (λv I=>U=I/\∃R,kz U v R/\R.map (·.1)=j/\(∀r,hx v r->w.heap.size<=r)/\∀r,hx v r->hx z r) ?_ ?_
   .rintro v _ ⟨rfl,R,aa,aF,S,aH⟩;exact⟨E,v,R,(i:Int),rfl,aa,by rw[aF,<-q],by rw[<-q];simp,S,λr B=>by obtain⟨rfl,c,W⟩:=dY C (aH r B);exact⟨c,W⟩⟩
   .intro Z s;cases op with
    |false=>
     rw[bc];rw[m5 Ξ]at y;exact s _ _ ⟨rfl,L,yF C,y,G,λ_ h=>h⟩
    |true=>
     rw[bS];rw[m3 rfl]at y;have ab:L.length=j.length+1:=by have:=congrArg List.length y;simpa using this
     rw[ek fP.u C,dr,lm Ω Ω];refine Q0 (n:=j.length) Ω C Ω λN aa S=>s _ _ ⟨rfl,_,aa,?_,λr B=>G r (S r B),S⟩;rw[List.map_take,y,List.take_left]
  |true=>
   rw[Y5,bc];rw[m3 hw]at q;refine a6 (λz ac=>Ext w ac/\∃g M,∃x:jj,bo iD 2 cH ac g z (M++[x])/\M.map (·.1)=j/\x.1=(if op then A else[])/\(M++[x]).length<=i+1/\∀r,hx z r->w.heap.size<=r) ?_ ?_
   .rintro bf ac ⟨am,aJ,M,x,aK,aL,J,aM,an⟩;intro af ag _ _;have O:=aK.W ag;have ap:(M++[x])[M.length]?=σ x:=Ξ
    have bg:(M++[x]).length=M.length+1:=Ξ
    rw[ek fP.u O,dr,lm Ω Ω,cu (i:=M.length) Ω fP.u cH.i O Ω,a1 cH.p rfl,aG (o:=M.length*2+0) Ψ (O.range ap 0 _ rfl),aR,lm Ω Ω];obtain⟨bh,au⟩:∃N,aQ .u8 af N [b]/\ad x8 (V5 cW p (σ (Δ (i:Int))) (σ (Δ ((i:Int)+1))) ν) af (λv=>v=N):=by
     have aN:=ae.W (am.F ag);have:=uq (P:=x8) (low:=σ (Δ (i:Int))) (high:=σ (Δ ((i:Int)+1))) (K:=λv=>aQ .u8 af v [b]) cW.u cV.i aN (pw i _ rfl) (px (i+1) ((i:Int)+1) Ω) Ω Ω λN av=>by
      have e:((ints .u8 pl).drop (i*1)).take ((i+1-i)*1)=ints .u8 [b]:=by
       simp only[U3,show i+1-i=1 by omega];rw[ints,<-List.map_drop,<-List.map_take,ak];rfl
      rw[e]at av;exact aQ.of av
     obtain⟨v,aO,aP⟩:=this;exact⟨v,aP,v,aO,rfl⟩
    refine QX au.2 ?_;have bi:x.1.length<=65536:=by
     rw[J];cases op with
     |true=>rw[m3 rfl];have:=aj rfl;omega
     |false=>simp
    rw[xq cW.u cV.u dj.u au.1,xp Θ,cu (i:=M.length) Ω fP.u cH.i O Ω,a1 cH.p rfl];refine lk (a':=(x.1++[b],x.2)) dj.i rfl rfl O ap rfl Ω λbj aS bl aw=>?_;have e:(M++[x]).set M.length (x.1++[b],x.2)=M++[(x.1++[b],x.2)]:=by
     rw[U7 _ _ (o6 _),V7];rfl
    rw[e]at aw;refine al _ _ _ _ _ ⟨(am.F ag).then aS (λr B he=>by have:=an r he;omega),aJ,_,j,x.1++[b],s2,rfl,aw,by rw[Z2,aL];rfl,λ_=>?_,by simp at aM ⊢;omega,?_,an⟩
    .rw[c9,J];cases op with
     |true=>rw[m3 rfl];have:=aj rfl;simp;omega
     |false=>simp
    .rw[<-q,J];cases op with
     |true=>rfl
     |false=>rfl
   .intro Z s;cases op with
    |true=>
     rw[bN,Y5,bc];rw[m3 rfl]at y;have ab:L.length=j.length+1:=by have:=congrArg List.length y;simpa using this
     obtain⟨M,x,rfl⟩:∃M x,L=M++[x]:=by
      have:L≠[]:=λh=>by rw[h]at ab;simp at ab
      exact⟨L.dropLast,L.getLast this,(List.dropLast_concat_getLast this).symm⟩
     rw[Z2]at y;obtain⟨aT,ah⟩:=List.append_inj' y Ξ;refine s _ _ ⟨E,g,M,x,C,aT,?_,Ω,G⟩;rw[m3 rfl];have ah:[x.1]=[A]:=ah;exact(List.cons.inj ah).1
    |false=>
     rw[bN,X6,bS];rw[m5 Ξ]at y;rw[ds (cs:=#[cp [],Δ (i:Int)]) Ψ];refine jc (f:=iD) (a:=(([],(i:Int)):jj)) fP.u cH.i Ω rfl rfl λv9 bn bp bq ai aU=>?_;have aV:=C.W ai;refine jB fP.u cH.i rfl aV (by simpa using aU.sl) (yE _) Ω Ω λN aX br aY aZ a2=>?_;have bs:=E.size;have z9:=ai.size;refine s _ _ ⟨(E.F ai).then a2 (λr B he=>by have:=G r he;omega),aX,L,_,aY,y,rfl,Θ,λr B=>?_⟩;rcases aZ r B with h|h
     .exact G r h
     .omega
end Go.Proofs.YtlcdcbgoaljiiaaGreatDoor
